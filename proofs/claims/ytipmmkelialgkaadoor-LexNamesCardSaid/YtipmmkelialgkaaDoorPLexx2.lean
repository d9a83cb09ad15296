-- WRITTEN FOR THIS CLAIM by wip/tools/told.py (the kit's printer, with some functions told by hand).
import Derived.Test.YtipmmkelialgkaaDoorPLexx0
import Derived.Test.YtipmmkelialgkaaDoorPLexx1
namespace Go.Proofs.YtipmmkelialgkaaDoor.PLex
open Go.RowKit Go.Proofs.YtipmmkelialgkaaDoorW.PrintWords Go.Proofs.YtipmmkelialgkaaDoorW.PrintLast Go.Proofs.YtipmmkelialgkaaDoorW.PrintMore
attribute [local go_sem] max2_int min2_int max_two min_two max_three min_three max_four min_four   -- for this text's walks alone
set_option linter.unusedVariables false
set_option linter.unusedSimpArgs false

/-! ### redactorlaw06_LexPlaces: function 4 -/
def redactorlaw06_LexPlaces.l0 : Nat → ByteArray → List (S25) → Int → Option (Bool)
  | 0, _, _, _ => none
  | k + 1, x3, x4, x7 => if x7 < (x4.length : Int) then (if 0 ≤ x7 then (if ((rd_T25 x4 x7).f3) < 0 then (some false) else (if ((rd_T25 x4 x7).f3) > (x3.size : Int) then (some false) else (if x7 > 0 then (if 0 ≤ (wrap64 (x7 - 1)) then (if (wrap64 (x7 - 1)) < (x4.length : Int) then (if ((rd_T25 x4 x7).f3) ≤ ((rd_T25 x4 (wrap64 (x7 - 1))).f3) then (some false) else (if ((rd_T25 x4 x7).f0) = 6 then (if ((rd_T25 x4 (wrap64 (x7 - 1))).f0) = 6 then (some false) else (redactorlaw06_LexPlaces.l0 k x3 x4 (wrap64 (x7 + 1)))) else (redactorlaw06_LexPlaces.l0 k x3 x4 (wrap64 (x7 + 1))))) else (none)) else (none)) else (redactorlaw06_LexPlaces.l0 k x3 x4 (wrap64 (x7 + 1)))))) else (none)) else ((redactorlaw06_known.f).bind fun t151 => (if t151 = true then (if (x4.length : Int) = 0 then (some true) else (if 0 < (x4.length : Int) then (if ((rd_T25 x4 0).f0) = 6 then (some false) else (if 0 ≤ (wrap64 ((x4.length : Int) - 1)) then (if (wrap64 ((x4.length : Int) - 1)) < (x4.length : Int) then (some (((rd_T25 x4 (wrap64 ((x4.length : Int) - 1))).f0) == 6)) else (none)) else (none))) else (none))) else (some false)))
def redactorlaw06_LexPlaces.f (k : Nat) (l0 : List Int) : Option (Bool) := (redactorlaw06_Text.f k l0).bind fun t138 => ((lex_Tokens.f t138).bind fun bt139 => (if bt139.2.1 = 0 then (redactorlaw06_LexPlaces.l0 k t138 bt139.1 0) else ((redactorlaw06_known.f).bind fun t144 => (if t144 = true then (if (bt139.1.length : Int) = 0 then (if bt139.2.2 ≥ 0 then (some (decide (bt139.2.2 < (t138.size : Int)))) else (some false)) else (some false)) else (some false)))))
theorem redactorlaw06_LexPlaces.mono_l : ∀ k, (∀ y0 y1 y2, LeO (redactorlaw06_LexPlaces.l0 k y0 y1 y2) (redactorlaw06_LexPlaces.l0 (k + 1) y0 y1 y2))
  | 0 => fun _ _ _ r h => by simp [redactorlaw06_LexPlaces.l0] at h
  | k + 1 => by
    have ih0 := redactorlaw06_LexPlaces.mono_l k
    · intro y0 y1 y2
      unfold redactorlaw06_LexPlaces.l0
      repeat' first
      | (with_reducible exact ih0 _ _ _)
      | (with_reducible exact redactorlaw06_Text.mono _ _)
      | (with_reducible exact LeO.refl _)
      | (with_reducible exact LeO.none _)
      | (with_reducible refine LeO.ite ?_ ?_)
      | (with_reducible refine LeO.bind ?_ (fun _ => ?_))
      | exact ih0 _ _ _
      | exact redactorlaw06_Text.mono _ _
      | exact LeO.none _
      | refine LeO.ite ?_ ?_
      | refine LeO.bind ?_ (fun _ => ?_)
theorem redactorlaw06_LexPlaces.mono : ∀ a0 k, LeO (redactorlaw06_LexPlaces.f k a0) (redactorlaw06_LexPlaces.f (k + 1) a0) := by
  intro a0 k
  have ih0 := redactorlaw06_LexPlaces.mono_l k
  unfold redactorlaw06_LexPlaces.f
  repeat' first
      | (with_reducible exact ih0 _ _ _)
      | (with_reducible exact redactorlaw06_Text.mono _ _)
      | (with_reducible exact LeO.refl _)
      | (with_reducible exact LeO.none _)
      | (with_reducible refine LeO.ite ?_ ?_)
      | (with_reducible refine LeO.bind ?_ (fun _ => ?_))
      | exact ih0 _ _ _
      | exact redactorlaw06_Text.mono _ _
      | exact LeO.none _
      | refine LeO.ite ?_ ?_
      | refine LeO.bind ?_ (fun _ => ?_)
set_option maxHeartbeats 8000000 in
set_option maxRecDepth 100000 in
theorem redactorlaw06_LexPlaces.calls (k : Nat) (A0 : Option Addr) (c0 : Nat) (l0 : List Int) (r : Bool) (w : World) (hr0 : Kd.C (Kd.int .u8) w A0 l0.length l0) (hc0 : l0.length ≤ c0) (h : redactorlaw06_LexPlaces.f k l0 = some r) (hG : Lex.Gl w := by first | assumption | exact Lex.Gl.at_below (by assumption) (by repeat (first | (with_reducible first | exact Aside0.out (by assumption) | apply below_alloc | apply pw_below_drewN | apply below_drew1) | exact Aside0.out (by assumption)))) :
    Calls Tryd.prog 4 #[.slice A0 l0.length c0] w fun e w' => e = .returned (.bool r) ∧ Below w.heap.size w w' := by
  have HR0 := Aside0.mk hr0
  have HC0 := Aside0.mk hc0
  clear hr0 hc0
  have HB := Aside0.mk (Below.refl w.heap.size w)
  have H : ((redactorlaw06_Text.f k l0).bind fun t138 => ((lex_Tokens.f t138).bind fun bt139 => (if bt139.2.1 = 0 then (redactorlaw06_LexPlaces.l0 k t138 bt139.1 0) else ((redactorlaw06_known.f).bind fun t144 => (if t144 = true then (if (bt139.1.length : Int) = 0 then (if bt139.2.2 ≥ 0 then (some (decide (bt139.2.2 < (t138.size : Int)))) else (some false)) else (some false)) else (some false)))))) = some r := h
  clear h
  replace H := Option.bind_eq_some_iff.mp H
  obtain ⟨t138, A20, H⟩ := H
  replace H : ((lex_Tokens.f t138).bind fun bt139 => (if bt139.2.1 = 0 then (redactorlaw06_LexPlaces.l0 k t138 bt139.1 0) else ((redactorlaw06_known.f).bind fun t144 => (if t144 = true then (if (bt139.1.length : Int) = 0 then (if bt139.2.2 ≥ 0 then (some (decide (bt139.2.2 < (t138.size : Int)))) else (some false)) else (some false)) else (some false))))) = some r := H
  have A2 := Aside0.mk A20
  clear A20
  replace H := Option.bind_eq_some_iff.mp H
  obtain ⟨⟨t139, t140, t141⟩, A30, H⟩ := H
  replace H : (if t140 = 0 then (redactorlaw06_LexPlaces.l0 k t138 t139 0) else ((redactorlaw06_known.f).bind fun t144 => (if t144 = true then (if (t139.length : Int) = 0 then (if t141 ≥ 0 then (some (decide (t141 < (t138.size : Int)))) else (some false)) else (some false)) else (some false)))) = some r := H
  have A3 := Aside0.mk A30
  clear A30
  by_cases c4 : t140 = 0
  · rw [if_pos c4] at H
    have c4b0 : (t140 == 0) = true := beq_iff_eq.mpr c4
    have c4b1 : (t140 != 0) = false := bne_eq_false_iff_eq.mpr c4
    clear c4
    have H' := Aside0.mk H
    clear H
    go_enter Tryd.func4, Tryd.ntmps4
    go_wp2_with (first | (go_at_call 11; (with_reducible refine (redactorlaw06_Text.calls k _ _ l0 t138 _ ?side1 ?side2 A2.out).mono ?_); (case side1 => repeat (first | exact HR0.out | (with_reducible refine Kd.C_alloc ?_ _) | (with_reducible refine Kd.C_drewN ?_ _) | (with_reducible refine Kd.C_drew ?_))); (case side2 => exact HC0.out); rintro e w5 ⟨rfl, hb⟩; have n0_ := Aside0.mk (below_step (by repeat (first | (with_reducible first | exact HB.out | apply below_alloc | apply pw_below_drewN | apply below_drew1) | exact HB.out)) hb); clear HB; have HB := n0_; clear n0_; (try clear hb); (try clear hb2); (try clear hk); (try clear hi)) | (go_at_call 8; (with_reducible refine (lex_Tokens.calls t138 t139 t140 t141 _ A3.out).mono ?_); rintro e w6 ⟨v142, rfl, ho0, hb⟩; have n0_ := Aside0.mk (Kd.R_lower ho0 (below_size (by repeat (first | (with_reducible first | exact HB.out | apply below_alloc | apply pw_below_drewN | apply below_drew1) | exact HB.out)))); have n1_ := Aside0.mk (below_step (by repeat (first | (with_reducible first | exact HB.out | apply below_alloc | apply pw_below_drewN | apply below_drew1) | exact HB.out)) hb); clear HB; have HO143 := n0_; have HB := n1_; clear n0_ n1_; (try clear hb); (try clear hb2); (try clear hk); (try clear hi); (try clear ho0)))
    repeat (go_quiet (first | (go_at_call 11; (with_reducible refine (redactorlaw06_Text.calls k _ _ l0 t138 _ ?side1 ?side2 A2.out).mono ?_); (case side1 => repeat (first | exact HR0.out | (with_reducible refine Kd.C_alloc ?_ _) | (with_reducible refine Kd.C_drewN ?_ _) | (with_reducible refine Kd.C_drew ?_))); (case side2 => exact HC0.out); rintro e w5 ⟨rfl, hb⟩; have n0_ := Aside0.mk (below_step (by repeat (first | (with_reducible first | exact HB.out | apply below_alloc | apply pw_below_drewN | apply below_drew1) | exact HB.out)) hb); clear HB; have HB := n0_; clear n0_; (try clear hb); (try clear hb2); (try clear hk); (try clear hi)) | (go_at_call 8; (with_reducible refine (lex_Tokens.calls t138 t139 t140 t141 _ A3.out).mono ?_); rintro e w6 ⟨v142, rfl, ho0, hb⟩; have n0_ := Aside0.mk (Kd.R_lower ho0 (below_size (by repeat (first | (with_reducible first | exact HB.out | apply below_alloc | apply pw_below_drewN | apply below_drew1) | exact HB.out)))); have n1_ := Aside0.mk (below_step (by repeat (first | (with_reducible first | exact HB.out | apply below_alloc | apply pw_below_drewN | apply below_drew1) | exact HB.out)) hb); clear HB; have HO143 := n0_; have HB := n1_; clear n0_ n1_; (try clear hb); (try clear hb2); (try clear hk); (try clear hi); (try clear ho0))); try go_wp2_with (first | (go_at_call 11; (with_reducible refine (redactorlaw06_Text.calls k _ _ l0 t138 _ ?side1 ?side2 A2.out).mono ?_); (case side1 => repeat (first | exact HR0.out | (with_reducible refine Kd.C_alloc ?_ _) | (with_reducible refine Kd.C_drewN ?_ _) | (with_reducible refine Kd.C_drew ?_))); (case side2 => exact HC0.out); rintro e w5 ⟨rfl, hb⟩; have n0_ := Aside0.mk (below_step (by repeat (first | (with_reducible first | exact HB.out | apply below_alloc | apply pw_below_drewN | apply below_drew1) | exact HB.out)) hb); clear HB; have HB := n0_; clear n0_; (try clear hb); (try clear hb2); (try clear hk); (try clear hi)) | (go_at_call 8; (with_reducible refine (lex_Tokens.calls t138 t139 t140 t141 _ A3.out).mono ?_); rintro e w6 ⟨v142, rfl, ho0, hb⟩; have n0_ := Aside0.mk (Kd.R_lower ho0 (below_size (by repeat (first | (with_reducible first | exact HB.out | apply below_alloc | apply pw_below_drewN | apply below_drew1) | exact HB.out)))); have n1_ := Aside0.mk (below_step (by repeat (first | (with_reducible first | exact HB.out | apply below_alloc | apply pw_below_drewN | apply below_drew1) | exact HB.out)) hb); clear HB; have HO143 := n0_; have HB := n1_; clear n0_ n1_; (try clear hb); (try clear hb2); (try clear hk); (try clear hi); (try clear ho0))))
    go_loopg [7] k (fun kq v7 w' => ∃ (x7_1 : Int), v7 = .int .i64 x7_1 ∧ Aside0 (redactorlaw06_LexPlaces.l0 kq t138 t139 x7_1 = some r) ∧ Aside0 (kq ≤ k) ∧ Aside0 (Kd.R k25 25 w' w.heap.size (fun _ => True) v142 t139) ∧ Aside0 (Below w.heap.size w w'))
    case atStart => exact ⟨(0), (by first | rfl | (simp; done) | (simp [*]; done)), H', ⟨Nat.le_refl _⟩, ⟨by (with_reducible repeat (first | apply Kd.R_alloc | apply Kd.R_drewN | apply Kd.R_drew)); exact HO143.out⟩, ⟨by repeat (first | (with_reducible first | exact HB.out | apply below_alloc | apply pw_below_drewN | apply below_drew1) | exact HB.out)⟩⟩
    case round =>
      clear H'
      try clear p2
      try clear c4
      try clear c4b0
      try clear c4b1
      obtain ⟨x7_1, rfl, HA, HK1, HO_4, HB⟩ := hrel
      cases gk with
      | zero => exact absurd HA.out (by simp [redactorlaw06_LexPlaces.l0])
      | succ k1 =>
        have H := HA.out
        clear HA
        simp only [redactorlaw06_LexPlaces.l0] at H
        by_cases c7 : x7_1 < (t139.length : Int)
        · rw [if_pos c7] at H
          have c7b0 : decide (x7_1 < (t139.length : Int)) = true := decide_eq_true c7
          clear c7
          by_cases c8 : 0 ≤ x7_1
          · rw [if_pos c8] at H
            have c8b0 : decide (0 ≤ x7_1) = true := decide_eq_true c8
            clear c8
            by_cases c9 : ((rd_T25 t139 x7_1).f3) < 0
            · rw [if_pos c9] at H
              have c9b0 : decide (((rd_T25 t139 x7_1).f3) < 0) = true := decide_eq_true c9
              clear c9
              obtain rfl := Option.some.inj H
              obtain ⟨Ao10, co10, eo10⟩ := Kd.R_slice HO_4.out
              subst eo10
              have p145 : 0 ≤ (x7_1 : Int) := of_decide_eq_true (by first | (with_reducible assumption) | assumption)
              have q145 : x7_1 < (t139.length : Int) := of_decide_eq_true (by first | (with_reducible assumption) | assumption)
              obtain ⟨ad145, e145, hx145_0, hx145_1, hx145_2, hx145_3⟩ := at_T25 (Kd.R_reads' HO_4.out).2.2 x7_1 p145 q145
              cases e145
              replace p145 := eq_true p145
              replace q145 := eq_true q145
              go_wp2
              repeat (go_quiet (fail); try go_wp2)
              go_ret
              exact ⟨by first | rfl | (simp [errW_none, errW_some] <;> rfl) | (simp [*, errW_none, errW_some] <;> rfl), by repeat (first | (with_reducible first | exact HB.out | apply below_alloc | apply pw_below_drewN | apply below_drew1) | exact HB.out)⟩
            · rw [if_neg c9] at H
              have c9b0 : decide (((rd_T25 t139 x7_1).f3) < 0) = false := decide_eq_false c9
              clear c9
              by_cases c11 : ((rd_T25 t139 x7_1).f3) > (t138.size : Int)
              · rw [if_pos c11] at H
                have c11b0 : decide ((t138.size : Int) < ((rd_T25 t139 x7_1).f3)) = true := decide_eq_true c11
                clear c11
                obtain rfl := Option.some.inj H
                obtain ⟨Ao12, co12, eo12⟩ := Kd.R_slice HO_4.out
                subst eo12
                have p145 : 0 ≤ (x7_1 : Int) := of_decide_eq_true (by first | (with_reducible assumption) | assumption)
                have q145 : x7_1 < (t139.length : Int) := of_decide_eq_true (by first | (with_reducible assumption) | assumption)
                obtain ⟨ad145, e145, hx145_0, hx145_1, hx145_2, hx145_3⟩ := at_T25 (Kd.R_reads' HO_4.out).2.2 x7_1 p145 q145
                cases e145
                replace p145 := eq_true p145
                replace q145 := eq_true q145
                have p146 : 0 ≤ (x7_1 : Int) := of_decide_eq_true (by first | (with_reducible assumption) | assumption)
                have q146 : x7_1 < (t139.length : Int) := of_decide_eq_true (by first | (with_reducible assumption) | assumption)
                obtain ⟨ad146, e146, hx146_0, hx146_1, hx146_2, hx146_3⟩ := at_T25 (Kd.R_reads' HO_4.out).2.2 x7_1 p146 q146
                obtain rfl : ad145 = ad146 := (by injection e146)
                replace p146 := eq_true p146
                replace q146 := eq_true q146
                go_wp2
                repeat (go_quiet (fail); try go_wp2)
                go_ret
                exact ⟨by first | rfl | (simp [errW_none, errW_some] <;> rfl) | (simp [*, errW_none, errW_some] <;> rfl), by repeat (first | (with_reducible first | exact HB.out | apply below_alloc | apply pw_below_drewN | apply below_drew1) | exact HB.out)⟩
              · rw [if_neg c11] at H
                have c11b0 : decide ((t138.size : Int) < ((rd_T25 t139 x7_1).f3)) = false := decide_eq_false c11
                clear c11
                by_cases c13 : x7_1 > 0
                · rw [if_pos c13] at H
                  have c13b0 : decide (0 < x7_1) = true := decide_eq_true c13
                  clear c13
                  obtain ⟨ji14, hji14⟩ : ∃ j_ : Int, (wrap64 (x7_1 - 1)) = j_ := ⟨_, rfl⟩
                  replace H : (if 0 ≤ (ji14) then (if (ji14) < (t139.length : Int) then (if ((rd_T25 t139 x7_1).f3) ≤ ((rd_T25 t139 (ji14)).f3) then (some false) else (if ((rd_T25 t139 x7_1).f0) = 6 then (if ((rd_T25 t139 (ji14)).f0) = 6 then (some false) else (redactorlaw06_LexPlaces.l0 k1 t138 t139 (wrap64 (x7_1 + 1)))) else (redactorlaw06_LexPlaces.l0 k1 t138 t139 (wrap64 (x7_1 + 1))))) else (none)) else (none)) = some r := by first | (rw [hji14] at H; exact H) | (simp only [hji14] at H ⊢; exact H)
                  have hji14w : (IntKind.i64.wrap (x7_1 - 1)) = ji14 := (i64_w _).trans hji14
                  by_cases c15 : 0 ≤ (ji14)
                  · rw [if_pos c15] at H
                    have c15b0 : decide (0 ≤ (ji14)) = true := decide_eq_true c15
                    clear c15
                    by_cases c16 : (ji14) < (t139.length : Int)
                    · rw [if_pos c16] at H
                      have c16b0 : decide ((ji14) < (t139.length : Int)) = true := decide_eq_true c16
                      clear c16
                      by_cases c17 : ((rd_T25 t139 x7_1).f3) ≤ ((rd_T25 t139 (ji14)).f3)
                      · rw [if_pos c17] at H
                        have c17b0 : decide (((rd_T25 t139 x7_1).f3) ≤ ((rd_T25 t139 (ji14)).f3)) = true := decide_eq_true c17
                        clear c17
                        obtain rfl := Option.some.inj H
                        obtain ⟨Ao18, co18, eo18⟩ := Kd.R_slice HO_4.out
                        subst eo18
                        have p145 : 0 ≤ (x7_1 : Int) := of_decide_eq_true (by first | (with_reducible assumption) | assumption)
                        have q145 : x7_1 < (t139.length : Int) := of_decide_eq_true (by first | (with_reducible assumption) | assumption)
                        obtain ⟨ad145, e145, hx145_0, hx145_1, hx145_2, hx145_3⟩ := at_T25 (Kd.R_reads' HO_4.out).2.2 x7_1 p145 q145
                        cases e145
                        replace p145 := eq_true p145
                        replace q145 := eq_true q145
                        have p146 : 0 ≤ (x7_1 : Int) := of_decide_eq_true (by first | (with_reducible assumption) | assumption)
                        have q146 : x7_1 < (t139.length : Int) := of_decide_eq_true (by first | (with_reducible assumption) | assumption)
                        obtain ⟨ad146, e146, hx146_0, hx146_1, hx146_2, hx146_3⟩ := at_T25 (Kd.R_reads' HO_4.out).2.2 x7_1 p146 q146
                        obtain rfl : ad145 = ad146 := (by injection e146)
                        replace p146 := eq_true p146
                        replace q146 := eq_true q146
                        have p147 : 0 ≤ (x7_1 : Int) := of_decide_eq_true (by first | (with_reducible assumption) | assumption)
                        have q147 : x7_1 < (t139.length : Int) := of_decide_eq_true (by first | (with_reducible assumption) | assumption)
                        obtain ⟨ad147, e147, hx147_0, hx147_1, hx147_2, hx147_3⟩ := at_T25 (Kd.R_reads' HO_4.out).2.2 x7_1 p147 q147
                        obtain rfl : ad145 = ad147 := (by injection e147)
                        replace p147 := eq_true p147
                        replace q147 := eq_true q147
                        have p148 : 0 ≤ ((ji14) : Int) := of_decide_eq_true (by first | (with_reducible assumption) | assumption)
                        have q148 : (ji14) < (t139.length : Int) := of_decide_eq_true (by first | (with_reducible assumption) | assumption)
                        obtain ⟨ad148, e148, hx148_0, hx148_1, hx148_2, hx148_3⟩ := at_T25 (Kd.R_reads' HO_4.out).2.2 (ji14) p148 q148
                        obtain rfl : ad145 = ad148 := (by injection e148)
                        replace p148 := eq_true p148
                        replace q148 := eq_true q148
                        go_wp2
                        repeat (go_quiet (fail); try go_wp2)
                        go_ret
                        exact ⟨by first | rfl | (simp [errW_none, errW_some] <;> rfl) | (simp only [← hji14]; first | rfl | (simp [errW_none, errW_some] <;> rfl)) | (simp [*, errW_none, errW_some] <;> rfl), by repeat (first | (with_reducible first | exact HB.out | apply below_alloc | apply pw_below_drewN | apply below_drew1) | exact HB.out)⟩
                      · rw [if_neg c17] at H
                        have c17b0 : decide (((rd_T25 t139 x7_1).f3) ≤ ((rd_T25 t139 (ji14)).f3)) = false := decide_eq_false c17
                        clear c17
                        by_cases c19 : ((rd_T25 t139 x7_1).f0) = 6
                        · rw [if_pos c19] at H
                          have c19b0 : (((rd_T25 t139 x7_1).f0) == 6) = true := beq_iff_eq.mpr c19
                          have c19b1 : (((rd_T25 t139 x7_1).f0) != 6) = false := bne_eq_false_iff_eq.mpr c19
                          clear c19
                          by_cases c20 : ((rd_T25 t139 (ji14)).f0) = 6
                          · rw [if_pos c20] at H
                            have c20b0 : (((rd_T25 t139 (ji14)).f0) == 6) = true := beq_iff_eq.mpr c20
                            have c20b1 : (((rd_T25 t139 (ji14)).f0) != 6) = false := bne_eq_false_iff_eq.mpr c20
                            clear c20
                            obtain rfl := Option.some.inj H
                            obtain ⟨Ao21, co21, eo21⟩ := Kd.R_slice HO_4.out
                            subst eo21
                            have p145 : 0 ≤ (x7_1 : Int) := of_decide_eq_true (by first | (with_reducible assumption) | assumption)
                            have q145 : x7_1 < (t139.length : Int) := of_decide_eq_true (by first | (with_reducible assumption) | assumption)
                            obtain ⟨ad145, e145, hx145_0, hx145_1, hx145_2, hx145_3⟩ := at_T25 (Kd.R_reads' HO_4.out).2.2 x7_1 p145 q145
                            cases e145
                            replace p145 := eq_true p145
                            replace q145 := eq_true q145
                            have p146 : 0 ≤ (x7_1 : Int) := of_decide_eq_true (by first | (with_reducible assumption) | assumption)
                            have q146 : x7_1 < (t139.length : Int) := of_decide_eq_true (by first | (with_reducible assumption) | assumption)
                            obtain ⟨ad146, e146, hx146_0, hx146_1, hx146_2, hx146_3⟩ := at_T25 (Kd.R_reads' HO_4.out).2.2 x7_1 p146 q146
                            obtain rfl : ad145 = ad146 := (by injection e146)
                            replace p146 := eq_true p146
                            replace q146 := eq_true q146
                            have p147 : 0 ≤ (x7_1 : Int) := of_decide_eq_true (by first | (with_reducible assumption) | assumption)
                            have q147 : x7_1 < (t139.length : Int) := of_decide_eq_true (by first | (with_reducible assumption) | assumption)
                            obtain ⟨ad147, e147, hx147_0, hx147_1, hx147_2, hx147_3⟩ := at_T25 (Kd.R_reads' HO_4.out).2.2 x7_1 p147 q147
                            obtain rfl : ad145 = ad147 := (by injection e147)
                            replace p147 := eq_true p147
                            replace q147 := eq_true q147
                            have p148 : 0 ≤ ((ji14) : Int) := of_decide_eq_true (by first | (with_reducible assumption) | assumption)
                            have q148 : (ji14) < (t139.length : Int) := of_decide_eq_true (by first | (with_reducible assumption) | assumption)
                            obtain ⟨ad148, e148, hx148_0, hx148_1, hx148_2, hx148_3⟩ := at_T25 (Kd.R_reads' HO_4.out).2.2 (ji14) p148 q148
                            obtain rfl : ad145 = ad148 := (by injection e148)
                            replace p148 := eq_true p148
                            replace q148 := eq_true q148
                            have p149 : 0 ≤ (x7_1 : Int) := of_decide_eq_true (by first | (with_reducible assumption) | assumption)
                            have q149 : x7_1 < (t139.length : Int) := of_decide_eq_true (by first | (with_reducible assumption) | assumption)
                            obtain ⟨ad149, e149, hx149_0, hx149_1, hx149_2, hx149_3⟩ := at_T25 (Kd.R_reads' HO_4.out).2.2 x7_1 p149 q149
                            obtain rfl : ad145 = ad149 := (by injection e149)
                            replace p149 := eq_true p149
                            replace q149 := eq_true q149
                            have p150 : 0 ≤ ((ji14) : Int) := of_decide_eq_true (by first | (with_reducible assumption) | assumption)
                            have q150 : (ji14) < (t139.length : Int) := of_decide_eq_true (by first | (with_reducible assumption) | assumption)
                            obtain ⟨ad150, e150, hx150_0, hx150_1, hx150_2, hx150_3⟩ := at_T25 (Kd.R_reads' HO_4.out).2.2 (ji14) p150 q150
                            obtain rfl : ad145 = ad150 := (by injection e150)
                            replace p150 := eq_true p150
                            replace q150 := eq_true q150
                            go_wp2
                            repeat (go_quiet (fail); try go_wp2)
                            go_ret
                            exact ⟨by first | rfl | (simp [errW_none, errW_some] <;> rfl) | (simp only [← hji14]; first | rfl | (simp [errW_none, errW_some] <;> rfl)) | (simp [*, errW_none, errW_some] <;> rfl), by repeat (first | (with_reducible first | exact HB.out | apply below_alloc | apply pw_below_drewN | apply below_drew1) | exact HB.out)⟩
                          · rw [if_neg c20] at H
                            have c20b0 : (((rd_T25 t139 (ji14)).f0) == 6) = false := beq_eq_false_iff_ne.mpr c20
                            have c20b1 : (((rd_T25 t139 (ji14)).f0) != 6) = true := bne_iff_ne.mpr c20
                            have H' := Aside0.mk H
                            clear H
                            obtain ⟨Ao22, co22, eo22⟩ := Kd.R_slice HO_4.out
                            subst eo22
                            have p145 : 0 ≤ (x7_1 : Int) := of_decide_eq_true (by first | (with_reducible assumption) | assumption)
                            have q145 : x7_1 < (t139.length : Int) := of_decide_eq_true (by first | (with_reducible assumption) | assumption)
                            obtain ⟨ad145, e145, hx145_0, hx145_1, hx145_2, hx145_3⟩ := at_T25 (Kd.R_reads' HO_4.out).2.2 x7_1 p145 q145
                            cases e145
                            replace p145 := eq_true p145
                            replace q145 := eq_true q145
                            have p146 : 0 ≤ (x7_1 : Int) := of_decide_eq_true (by first | (with_reducible assumption) | assumption)
                            have q146 : x7_1 < (t139.length : Int) := of_decide_eq_true (by first | (with_reducible assumption) | assumption)
                            obtain ⟨ad146, e146, hx146_0, hx146_1, hx146_2, hx146_3⟩ := at_T25 (Kd.R_reads' HO_4.out).2.2 x7_1 p146 q146
                            obtain rfl : ad145 = ad146 := (by injection e146)
                            replace p146 := eq_true p146
                            replace q146 := eq_true q146
                            have p147 : 0 ≤ (x7_1 : Int) := of_decide_eq_true (by first | (with_reducible assumption) | assumption)
                            have q147 : x7_1 < (t139.length : Int) := of_decide_eq_true (by first | (with_reducible assumption) | assumption)
                            obtain ⟨ad147, e147, hx147_0, hx147_1, hx147_2, hx147_3⟩ := at_T25 (Kd.R_reads' HO_4.out).2.2 x7_1 p147 q147
                            obtain rfl : ad145 = ad147 := (by injection e147)
                            replace p147 := eq_true p147
                            replace q147 := eq_true q147
                            have p148 : 0 ≤ ((ji14) : Int) := of_decide_eq_true (by first | (with_reducible assumption) | assumption)
                            have q148 : (ji14) < (t139.length : Int) := of_decide_eq_true (by first | (with_reducible assumption) | assumption)
                            obtain ⟨ad148, e148, hx148_0, hx148_1, hx148_2, hx148_3⟩ := at_T25 (Kd.R_reads' HO_4.out).2.2 (ji14) p148 q148
                            obtain rfl : ad145 = ad148 := (by injection e148)
                            replace p148 := eq_true p148
                            replace q148 := eq_true q148
                            have p149 : 0 ≤ (x7_1 : Int) := of_decide_eq_true (by first | (with_reducible assumption) | assumption)
                            have q149 : x7_1 < (t139.length : Int) := of_decide_eq_true (by first | (with_reducible assumption) | assumption)
                            obtain ⟨ad149, e149, hx149_0, hx149_1, hx149_2, hx149_3⟩ := at_T25 (Kd.R_reads' HO_4.out).2.2 x7_1 p149 q149
                            obtain rfl : ad145 = ad149 := (by injection e149)
                            replace p149 := eq_true p149
                            replace q149 := eq_true q149
                            have p150 : 0 ≤ ((ji14) : Int) := of_decide_eq_true (by first | (with_reducible assumption) | assumption)
                            have q150 : (ji14) < (t139.length : Int) := of_decide_eq_true (by first | (with_reducible assumption) | assumption)
                            obtain ⟨ad150, e150, hx150_0, hx150_1, hx150_2, hx150_3⟩ := at_T25 (Kd.R_reads' HO_4.out).2.2 (ji14) p150 q150
                            obtain rfl : ad145 = ad150 := (by injection e150)
                            replace p150 := eq_true p150
                            replace q150 := eq_true q150
                            go_wp2
                            repeat (go_quiet (fail); try go_wp2)
                            go_roundg k1
                            case measure => have := HK1.out; omega
                            case rel => exact ⟨(wrap64 (x7_1 + 1)), (by first | rfl | (simp; done) | (simp [*]; done)), H', ⟨by have := HK1.out; omega⟩, ⟨by (with_reducible repeat (first | apply Kd.R_alloc | apply Kd.R_drewN | apply Kd.R_drew)); exact HO_4.out⟩, ⟨by repeat (first | (with_reducible first | exact HB.out | apply below_alloc | apply pw_below_drewN | apply below_drew1) | exact HB.out)⟩⟩
                        · rw [if_neg c19] at H
                          have c19b0 : (((rd_T25 t139 x7_1).f0) == 6) = false := beq_eq_false_iff_ne.mpr c19
                          have c19b1 : (((rd_T25 t139 x7_1).f0) != 6) = true := bne_iff_ne.mpr c19
                          have H' := Aside0.mk H
                          clear H
                          obtain ⟨Ao23, co23, eo23⟩ := Kd.R_slice HO_4.out
                          subst eo23
                          have p145 : 0 ≤ (x7_1 : Int) := of_decide_eq_true (by first | (with_reducible assumption) | assumption)
                          have q145 : x7_1 < (t139.length : Int) := of_decide_eq_true (by first | (with_reducible assumption) | assumption)
                          obtain ⟨ad145, e145, hx145_0, hx145_1, hx145_2, hx145_3⟩ := at_T25 (Kd.R_reads' HO_4.out).2.2 x7_1 p145 q145
                          cases e145
                          replace p145 := eq_true p145
                          replace q145 := eq_true q145
                          have p146 : 0 ≤ (x7_1 : Int) := of_decide_eq_true (by first | (with_reducible assumption) | assumption)
                          have q146 : x7_1 < (t139.length : Int) := of_decide_eq_true (by first | (with_reducible assumption) | assumption)
                          obtain ⟨ad146, e146, hx146_0, hx146_1, hx146_2, hx146_3⟩ := at_T25 (Kd.R_reads' HO_4.out).2.2 x7_1 p146 q146
                          obtain rfl : ad145 = ad146 := (by injection e146)
                          replace p146 := eq_true p146
                          replace q146 := eq_true q146
                          have p147 : 0 ≤ (x7_1 : Int) := of_decide_eq_true (by first | (with_reducible assumption) | assumption)
                          have q147 : x7_1 < (t139.length : Int) := of_decide_eq_true (by first | (with_reducible assumption) | assumption)
                          obtain ⟨ad147, e147, hx147_0, hx147_1, hx147_2, hx147_3⟩ := at_T25 (Kd.R_reads' HO_4.out).2.2 x7_1 p147 q147
                          obtain rfl : ad145 = ad147 := (by injection e147)
                          replace p147 := eq_true p147
                          replace q147 := eq_true q147
                          have p148 : 0 ≤ ((ji14) : Int) := of_decide_eq_true (by first | (with_reducible assumption) | assumption)
                          have q148 : (ji14) < (t139.length : Int) := of_decide_eq_true (by first | (with_reducible assumption) | assumption)
                          obtain ⟨ad148, e148, hx148_0, hx148_1, hx148_2, hx148_3⟩ := at_T25 (Kd.R_reads' HO_4.out).2.2 (ji14) p148 q148
                          obtain rfl : ad145 = ad148 := (by injection e148)
                          replace p148 := eq_true p148
                          replace q148 := eq_true q148
                          have p149 : 0 ≤ (x7_1 : Int) := of_decide_eq_true (by first | (with_reducible assumption) | assumption)
                          have q149 : x7_1 < (t139.length : Int) := of_decide_eq_true (by first | (with_reducible assumption) | assumption)
                          obtain ⟨ad149, e149, hx149_0, hx149_1, hx149_2, hx149_3⟩ := at_T25 (Kd.R_reads' HO_4.out).2.2 x7_1 p149 q149
                          obtain rfl : ad145 = ad149 := (by injection e149)
                          replace p149 := eq_true p149
                          replace q149 := eq_true q149
                          go_wp2
                          repeat (go_quiet (fail); try go_wp2)
                          go_roundg k1
                          case measure => have := HK1.out; omega
                          case rel => exact ⟨(wrap64 (x7_1 + 1)), (by first | rfl | (simp; done) | (simp [*]; done)), H', ⟨by have := HK1.out; omega⟩, ⟨by (with_reducible repeat (first | apply Kd.R_alloc | apply Kd.R_drewN | apply Kd.R_drew)); exact HO_4.out⟩, ⟨by repeat (first | (with_reducible first | exact HB.out | apply below_alloc | apply pw_below_drewN | apply below_drew1) | exact HB.out)⟩⟩
                    · rw [if_neg c16] at H
                      exact absurd H (by simp)
                  · rw [if_neg c15] at H
                    exact absurd H (by simp)
                · rw [if_neg c13] at H
                  have c13b0 : decide (0 < x7_1) = false := decide_eq_false c13
                  clear c13
                  have H' := Aside0.mk H
                  clear H
                  obtain ⟨Ao24, co24, eo24⟩ := Kd.R_slice HO_4.out
                  subst eo24
                  have p145 : 0 ≤ (x7_1 : Int) := of_decide_eq_true (by first | (with_reducible assumption) | assumption)
                  have q145 : x7_1 < (t139.length : Int) := of_decide_eq_true (by first | (with_reducible assumption) | assumption)
                  obtain ⟨ad145, e145, hx145_0, hx145_1, hx145_2, hx145_3⟩ := at_T25 (Kd.R_reads' HO_4.out).2.2 x7_1 p145 q145
                  cases e145
                  replace p145 := eq_true p145
                  replace q145 := eq_true q145
                  have p146 : 0 ≤ (x7_1 : Int) := of_decide_eq_true (by first | (with_reducible assumption) | assumption)
                  have q146 : x7_1 < (t139.length : Int) := of_decide_eq_true (by first | (with_reducible assumption) | assumption)
                  obtain ⟨ad146, e146, hx146_0, hx146_1, hx146_2, hx146_3⟩ := at_T25 (Kd.R_reads' HO_4.out).2.2 x7_1 p146 q146
                  obtain rfl : ad145 = ad146 := (by injection e146)
                  replace p146 := eq_true p146
                  replace q146 := eq_true q146
                  go_wp2
                  repeat (go_quiet (fail); try go_wp2)
                  go_roundg k1
                  case measure => have := HK1.out; omega
                  case rel => exact ⟨(wrap64 (x7_1 + 1)), (by first | rfl | (simp; done) | (simp [*]; done)), H', ⟨by have := HK1.out; omega⟩, ⟨by (with_reducible repeat (first | apply Kd.R_alloc | apply Kd.R_drewN | apply Kd.R_drew)); exact HO_4.out⟩, ⟨by repeat (first | (with_reducible first | exact HB.out | apply below_alloc | apply pw_below_drewN | apply below_drew1) | exact HB.out)⟩⟩
          · rw [if_neg c8] at H
            exact absurd H (by simp)
        · rw [if_neg c7] at H
          have c7b0 : decide (x7_1 < (t139.length : Int)) = false := decide_eq_false c7
          clear c7
          replace H := Option.bind_eq_some_iff.mp H
          obtain ⟨t151, A250, H⟩ := H
          replace H : (if t151 = true then (if (t139.length : Int) = 0 then (some true) else (if 0 < (t139.length : Int) then (if ((rd_T25 t139 0).f0) = 6 then (some false) else (if 0 ≤ (wrap64 ((t139.length : Int) - 1)) then (if (wrap64 ((t139.length : Int) - 1)) < (t139.length : Int) then (some (((rd_T25 t139 (wrap64 ((t139.length : Int) - 1))).f0) == 6)) else (none)) else (none))) else (none))) else (some false)) = some r := H
          have A25 := Aside0.mk A250
          clear A250
          by_cases c26 : t151 = true
          · subst c26
            have H1 : (if (t139.length : Int) = 0 then (some true) else (if 0 < (t139.length : Int) then (if ((rd_T25 t139 0).f0) = 6 then (some false) else (if 0 ≤ (wrap64 ((t139.length : Int) - 1)) then (if (wrap64 ((t139.length : Int) - 1)) < (t139.length : Int) then (some (((rd_T25 t139 (wrap64 ((t139.length : Int) - 1))).f0) == 6)) else (none)) else (none))) else (none))) = some r := by rw [if_pos rfl] at H; exact H
            clear H
            have H := H1
            clear H1
            by_cases c27 : (t139.length : Int) = 0
            · rw [if_pos c27] at H
              have c27b0 : ((t139.length : Int) == 0) = true := beq_iff_eq.mpr c27
              have c27b1 : ((t139.length : Int) != 0) = false := bne_eq_false_iff_eq.mpr c27
              clear c27
              obtain rfl := Option.some.inj H
              obtain ⟨Ao28, co28, eo28⟩ := Kd.R_slice HO_4.out
              subst eo28
              go_wp2_with (first | (go_at_call 10; (with_reducible refine (redactorlaw06_known.calls  true _ A25.out).mono ?_); rintro e w29 ⟨rfl, hb⟩; have n0_ := Aside0.mk (Kd.R_below (by (with_reducible repeat (first | apply Kd.R_alloc | apply Kd.R_drewN | apply Kd.R_drew)); exact HO_4.out) hb); have n1_ := Aside0.mk (below_step (by repeat (first | (with_reducible first | exact HB.out | apply below_alloc | apply pw_below_drewN | apply below_drew1) | exact HB.out)) hb); clear HO_4; clear HB; have HO_4 := n0_; have HB := n1_; clear n0_ n1_; (try clear hb); (try clear hb2); (try clear hk); (try clear hi)))
              repeat (go_quiet (first | (go_at_call 10; (with_reducible refine (redactorlaw06_known.calls  true _ A25.out).mono ?_); rintro e w29 ⟨rfl, hb⟩; have n0_ := Aside0.mk (Kd.R_below (by (with_reducible repeat (first | apply Kd.R_alloc | apply Kd.R_drewN | apply Kd.R_drew)); exact HO_4.out) hb); have n1_ := Aside0.mk (below_step (by repeat (first | (with_reducible first | exact HB.out | apply below_alloc | apply pw_below_drewN | apply below_drew1) | exact HB.out)) hb); clear HO_4; clear HB; have HO_4 := n0_; have HB := n1_; clear n0_ n1_; (try clear hb); (try clear hb2); (try clear hk); (try clear hi))); try go_wp2_with (first | (go_at_call 10; (with_reducible refine (redactorlaw06_known.calls  true _ A25.out).mono ?_); rintro e w29 ⟨rfl, hb⟩; have n0_ := Aside0.mk (Kd.R_below (by (with_reducible repeat (first | apply Kd.R_alloc | apply Kd.R_drewN | apply Kd.R_drew)); exact HO_4.out) hb); have n1_ := Aside0.mk (below_step (by repeat (first | (with_reducible first | exact HB.out | apply below_alloc | apply pw_below_drewN | apply below_drew1) | exact HB.out)) hb); clear HO_4; clear HB; have HO_4 := n0_; have HB := n1_; clear n0_ n1_; (try clear hb); (try clear hb2); (try clear hk); (try clear hi))))
              go_ret
              exact ⟨by first | rfl | (simp [errW_none, errW_some] <;> rfl) | (simp [*, errW_none, errW_some] <;> rfl), by repeat (first | (with_reducible first | exact HB.out | apply below_alloc | apply pw_below_drewN | apply below_drew1) | exact HB.out)⟩
            · rw [if_neg c27] at H
              have c27b0 : ((t139.length : Int) == 0) = false := beq_eq_false_iff_ne.mpr c27
              have c27b1 : ((t139.length : Int) != 0) = true := bne_iff_ne.mpr c27
              have c27b2 : ¬ (t139 = []) := fun h_ => c27 (by rw [h_]; rfl)
              by_cases c30 : 0 < (t139.length : Int)
              · rw [if_pos c30] at H
                have c30b0 : decide (0 < (t139.length : Int)) = true := decide_eq_true c30
                have c30b1 : decide (0 < t139.length) = true := decide_eq_true (by omega)
                clear c30
                by_cases c31 : ((rd_T25 t139 0).f0) = 6
                · rw [if_pos c31] at H
                  have c31b0 : (((rd_T25 t139 0).f0) == 6) = true := beq_iff_eq.mpr c31
                  have c31b1 : (((rd_T25 t139 0).f0) != 6) = false := bne_eq_false_iff_eq.mpr c31
                  clear c31
                  obtain rfl := Option.some.inj H
                  obtain ⟨Ao32, co32, eo32⟩ := Kd.R_slice HO_4.out
                  subst eo32
                  go_wp2_with (first | (go_at_call 10; (with_reducible refine (redactorlaw06_known.calls  true _ A25.out).mono ?_); rintro e w33 ⟨rfl, hb⟩; have n0_ := Aside0.mk (Kd.R_below (by (with_reducible repeat (first | apply Kd.R_alloc | apply Kd.R_drewN | apply Kd.R_drew)); exact HO_4.out) hb); have n1_ := Aside0.mk (below_step (by repeat (first | (with_reducible first | exact HB.out | apply below_alloc | apply pw_below_drewN | apply below_drew1) | exact HB.out)) hb); clear HO_4; clear HB; have HO_4 := n0_; have HB := n1_; clear n0_ n1_; (try clear hb); (try clear hb2); (try clear hk); (try clear hi); have p152 : 0 ≤ (0 : Int) := (by omega); have q152 : 0 < (t139.length : Int) := of_decide_eq_true (by first | (with_reducible assumption) | assumption); obtain ⟨ad152, e152, hx152_0, hx152_1, hx152_2, hx152_3⟩ := at_T25 (Kd.R_reads' HO_4.out).2.2 0 p152 q152; cases e152; have qi152 : (0 < t139.length) = True := eq_true (by omega); (try rw [show ((0 : Int)).toNat = 0 from rfl] at hx152_0); (try rw [show 0 * 4 = 0 from rfl] at hx152_0); (try rw [Addr.add_zero'] at hx152_0); (try rw [show ((0 : Int)).toNat = 0 from rfl] at hx152_1); (try rw [show 0 * 4 = 0 from rfl] at hx152_1); (try rw [Addr.add_zero'] at hx152_1); (try rw [show ((0 : Int)).toNat = 0 from rfl] at hx152_2); (try rw [show 0 * 4 = 0 from rfl] at hx152_2); (try rw [Addr.add_zero'] at hx152_2); (try rw [show ((0 : Int)).toNat = 0 from rfl] at hx152_3); (try rw [show 0 * 4 = 0 from rfl] at hx152_3); (try rw [Addr.add_zero'] at hx152_3); replace p152 := eq_true p152; replace q152 := eq_true q152))
                  repeat (go_quiet (first | (go_at_call 10; (with_reducible refine (redactorlaw06_known.calls  true _ A25.out).mono ?_); rintro e w33 ⟨rfl, hb⟩; have n0_ := Aside0.mk (Kd.R_below (by (with_reducible repeat (first | apply Kd.R_alloc | apply Kd.R_drewN | apply Kd.R_drew)); exact HO_4.out) hb); have n1_ := Aside0.mk (below_step (by repeat (first | (with_reducible first | exact HB.out | apply below_alloc | apply pw_below_drewN | apply below_drew1) | exact HB.out)) hb); clear HO_4; clear HB; have HO_4 := n0_; have HB := n1_; clear n0_ n1_; (try clear hb); (try clear hb2); (try clear hk); (try clear hi); have p152 : 0 ≤ (0 : Int) := (by omega); have q152 : 0 < (t139.length : Int) := of_decide_eq_true (by first | (with_reducible assumption) | assumption); obtain ⟨ad152, e152, hx152_0, hx152_1, hx152_2, hx152_3⟩ := at_T25 (Kd.R_reads' HO_4.out).2.2 0 p152 q152; cases e152; have qi152 : (0 < t139.length) = True := eq_true (by omega); (try rw [show ((0 : Int)).toNat = 0 from rfl] at hx152_0); (try rw [show 0 * 4 = 0 from rfl] at hx152_0); (try rw [Addr.add_zero'] at hx152_0); (try rw [show ((0 : Int)).toNat = 0 from rfl] at hx152_1); (try rw [show 0 * 4 = 0 from rfl] at hx152_1); (try rw [Addr.add_zero'] at hx152_1); (try rw [show ((0 : Int)).toNat = 0 from rfl] at hx152_2); (try rw [show 0 * 4 = 0 from rfl] at hx152_2); (try rw [Addr.add_zero'] at hx152_2); (try rw [show ((0 : Int)).toNat = 0 from rfl] at hx152_3); (try rw [show 0 * 4 = 0 from rfl] at hx152_3); (try rw [Addr.add_zero'] at hx152_3); replace p152 := eq_true p152; replace q152 := eq_true q152)); try go_wp2_with (first | (go_at_call 10; (with_reducible refine (redactorlaw06_known.calls  true _ A25.out).mono ?_); rintro e w33 ⟨rfl, hb⟩; have n0_ := Aside0.mk (Kd.R_below (by (with_reducible repeat (first | apply Kd.R_alloc | apply Kd.R_drewN | apply Kd.R_drew)); exact HO_4.out) hb); have n1_ := Aside0.mk (below_step (by repeat (first | (with_reducible first | exact HB.out | apply below_alloc | apply pw_below_drewN | apply below_drew1) | exact HB.out)) hb); clear HO_4; clear HB; have HO_4 := n0_; have HB := n1_; clear n0_ n1_; (try clear hb); (try clear hb2); (try clear hk); (try clear hi); have p152 : 0 ≤ (0 : Int) := (by omega); have q152 : 0 < (t139.length : Int) := of_decide_eq_true (by first | (with_reducible assumption) | assumption); obtain ⟨ad152, e152, hx152_0, hx152_1, hx152_2, hx152_3⟩ := at_T25 (Kd.R_reads' HO_4.out).2.2 0 p152 q152; cases e152; have qi152 : (0 < t139.length) = True := eq_true (by omega); (try rw [show ((0 : Int)).toNat = 0 from rfl] at hx152_0); (try rw [show 0 * 4 = 0 from rfl] at hx152_0); (try rw [Addr.add_zero'] at hx152_0); (try rw [show ((0 : Int)).toNat = 0 from rfl] at hx152_1); (try rw [show 0 * 4 = 0 from rfl] at hx152_1); (try rw [Addr.add_zero'] at hx152_1); (try rw [show ((0 : Int)).toNat = 0 from rfl] at hx152_2); (try rw [show 0 * 4 = 0 from rfl] at hx152_2); (try rw [Addr.add_zero'] at hx152_2); (try rw [show ((0 : Int)).toNat = 0 from rfl] at hx152_3); (try rw [show 0 * 4 = 0 from rfl] at hx152_3); (try rw [Addr.add_zero'] at hx152_3); replace p152 := eq_true p152; replace q152 := eq_true q152)))
                  go_ret
                  exact ⟨by first | rfl | (simp [errW_none, errW_some] <;> rfl) | (simp [*, errW_none, errW_some] <;> rfl), by repeat (first | (with_reducible first | exact HB.out | apply below_alloc | apply pw_below_drewN | apply below_drew1) | exact HB.out)⟩
                · rw [if_neg c31] at H
                  have c31b0 : (((rd_T25 t139 0).f0) == 6) = false := beq_eq_false_iff_ne.mpr c31
                  have c31b1 : (((rd_T25 t139 0).f0) != 6) = true := bne_iff_ne.mpr c31
                  obtain ⟨ji34, hji34⟩ : ∃ j_ : Int, (wrap64 ((t139.length : Int) - 1)) = j_ := ⟨_, rfl⟩
                  replace H : (if 0 ≤ (ji34) then (if (ji34) < (t139.length : Int) then (some (((rd_T25 t139 (ji34)).f0) == 6)) else (none)) else (none)) = some r := by first | (rw [hji34] at H; exact H) | (simp only [hji34] at H ⊢; exact H)
                  (try rw [hji34] at A25)
                  have hji34w : (IntKind.i64.wrap ((t139.length : Int) - 1)) = ji34 := (i64_w _).trans hji34
                  by_cases c35 : 0 ≤ (ji34)
                  · rw [if_pos c35] at H
                    have c35b0 : decide (0 ≤ (ji34)) = true := decide_eq_true c35
                    clear c35
                    by_cases c36 : (ji34) < (t139.length : Int)
                    · rw [if_pos c36] at H
                      have c36b0 : decide ((ji34) < (t139.length : Int)) = true := decide_eq_true c36
                      clear c36
                      obtain rfl := Option.some.inj H
                      obtain ⟨Ao37, co37, eo37⟩ := Kd.R_slice HO_4.out
                      subst eo37
                      go_wp2_with (first | (go_at_call 10; (with_reducible refine (redactorlaw06_known.calls  true _ A25.out).mono ?_); rintro e w38 ⟨rfl, hb⟩; have n0_ := Aside0.mk (Kd.R_below (by (with_reducible repeat (first | apply Kd.R_alloc | apply Kd.R_drewN | apply Kd.R_drew)); exact HO_4.out) hb); have n1_ := Aside0.mk (below_step (by repeat (first | (with_reducible first | exact HB.out | apply below_alloc | apply pw_below_drewN | apply below_drew1) | exact HB.out)) hb); clear HO_4; clear HB; have HO_4 := n0_; have HB := n1_; clear n0_ n1_; (try clear hb); (try clear hb2); (try clear hk); (try clear hi); have p152 : 0 ≤ (0 : Int) := (by omega); have q152 : 0 < (t139.length : Int) := of_decide_eq_true (by first | (with_reducible assumption) | assumption); obtain ⟨ad152, e152, hx152_0, hx152_1, hx152_2, hx152_3⟩ := at_T25 (Kd.R_reads' HO_4.out).2.2 0 p152 q152; cases e152; have qi152 : (0 < t139.length) = True := eq_true (by omega); (try rw [show ((0 : Int)).toNat = 0 from rfl] at hx152_0); (try rw [show 0 * 4 = 0 from rfl] at hx152_0); (try rw [Addr.add_zero'] at hx152_0); (try rw [show ((0 : Int)).toNat = 0 from rfl] at hx152_1); (try rw [show 0 * 4 = 0 from rfl] at hx152_1); (try rw [Addr.add_zero'] at hx152_1); (try rw [show ((0 : Int)).toNat = 0 from rfl] at hx152_2); (try rw [show 0 * 4 = 0 from rfl] at hx152_2); (try rw [Addr.add_zero'] at hx152_2); (try rw [show ((0 : Int)).toNat = 0 from rfl] at hx152_3); (try rw [show 0 * 4 = 0 from rfl] at hx152_3); (try rw [Addr.add_zero'] at hx152_3); replace p152 := eq_true p152; replace q152 := eq_true q152; have p153 : 0 ≤ ((ji34) : Int) := of_decide_eq_true (by first | (with_reducible assumption) | assumption); have q153 : (ji34) < (t139.length : Int) := of_decide_eq_true (by first | (with_reducible assumption) | assumption); obtain ⟨ad153, e153, hx153_0, hx153_1, hx153_2, hx153_3⟩ := at_T25 (Kd.R_reads' HO_4.out).2.2 (ji34) p153 q153; obtain rfl : ad152 = ad153 := (by injection e153); replace p153 := eq_true p153; replace q153 := eq_true q153))
                      repeat (go_quiet (first | (go_at_call 10; (with_reducible refine (redactorlaw06_known.calls  true _ A25.out).mono ?_); rintro e w38 ⟨rfl, hb⟩; have n0_ := Aside0.mk (Kd.R_below (by (with_reducible repeat (first | apply Kd.R_alloc | apply Kd.R_drewN | apply Kd.R_drew)); exact HO_4.out) hb); have n1_ := Aside0.mk (below_step (by repeat (first | (with_reducible first | exact HB.out | apply below_alloc | apply pw_below_drewN | apply below_drew1) | exact HB.out)) hb); clear HO_4; clear HB; have HO_4 := n0_; have HB := n1_; clear n0_ n1_; (try clear hb); (try clear hb2); (try clear hk); (try clear hi); have p152 : 0 ≤ (0 : Int) := (by omega); have q152 : 0 < (t139.length : Int) := of_decide_eq_true (by first | (with_reducible assumption) | assumption); obtain ⟨ad152, e152, hx152_0, hx152_1, hx152_2, hx152_3⟩ := at_T25 (Kd.R_reads' HO_4.out).2.2 0 p152 q152; cases e152; have qi152 : (0 < t139.length) = True := eq_true (by omega); (try rw [show ((0 : Int)).toNat = 0 from rfl] at hx152_0); (try rw [show 0 * 4 = 0 from rfl] at hx152_0); (try rw [Addr.add_zero'] at hx152_0); (try rw [show ((0 : Int)).toNat = 0 from rfl] at hx152_1); (try rw [show 0 * 4 = 0 from rfl] at hx152_1); (try rw [Addr.add_zero'] at hx152_1); (try rw [show ((0 : Int)).toNat = 0 from rfl] at hx152_2); (try rw [show 0 * 4 = 0 from rfl] at hx152_2); (try rw [Addr.add_zero'] at hx152_2); (try rw [show ((0 : Int)).toNat = 0 from rfl] at hx152_3); (try rw [show 0 * 4 = 0 from rfl] at hx152_3); (try rw [Addr.add_zero'] at hx152_3); replace p152 := eq_true p152; replace q152 := eq_true q152; have p153 : 0 ≤ ((ji34) : Int) := of_decide_eq_true (by first | (with_reducible assumption) | assumption); have q153 : (ji34) < (t139.length : Int) := of_decide_eq_true (by first | (with_reducible assumption) | assumption); obtain ⟨ad153, e153, hx153_0, hx153_1, hx153_2, hx153_3⟩ := at_T25 (Kd.R_reads' HO_4.out).2.2 (ji34) p153 q153; obtain rfl : ad152 = ad153 := (by injection e153); replace p153 := eq_true p153; replace q153 := eq_true q153)); try go_wp2_with (first | (go_at_call 10; (with_reducible refine (redactorlaw06_known.calls  true _ A25.out).mono ?_); rintro e w38 ⟨rfl, hb⟩; have n0_ := Aside0.mk (Kd.R_below (by (with_reducible repeat (first | apply Kd.R_alloc | apply Kd.R_drewN | apply Kd.R_drew)); exact HO_4.out) hb); have n1_ := Aside0.mk (below_step (by repeat (first | (with_reducible first | exact HB.out | apply below_alloc | apply pw_below_drewN | apply below_drew1) | exact HB.out)) hb); clear HO_4; clear HB; have HO_4 := n0_; have HB := n1_; clear n0_ n1_; (try clear hb); (try clear hb2); (try clear hk); (try clear hi); have p152 : 0 ≤ (0 : Int) := (by omega); have q152 : 0 < (t139.length : Int) := of_decide_eq_true (by first | (with_reducible assumption) | assumption); obtain ⟨ad152, e152, hx152_0, hx152_1, hx152_2, hx152_3⟩ := at_T25 (Kd.R_reads' HO_4.out).2.2 0 p152 q152; cases e152; have qi152 : (0 < t139.length) = True := eq_true (by omega); (try rw [show ((0 : Int)).toNat = 0 from rfl] at hx152_0); (try rw [show 0 * 4 = 0 from rfl] at hx152_0); (try rw [Addr.add_zero'] at hx152_0); (try rw [show ((0 : Int)).toNat = 0 from rfl] at hx152_1); (try rw [show 0 * 4 = 0 from rfl] at hx152_1); (try rw [Addr.add_zero'] at hx152_1); (try rw [show ((0 : Int)).toNat = 0 from rfl] at hx152_2); (try rw [show 0 * 4 = 0 from rfl] at hx152_2); (try rw [Addr.add_zero'] at hx152_2); (try rw [show ((0 : Int)).toNat = 0 from rfl] at hx152_3); (try rw [show 0 * 4 = 0 from rfl] at hx152_3); (try rw [Addr.add_zero'] at hx152_3); replace p152 := eq_true p152; replace q152 := eq_true q152; have p153 : 0 ≤ ((ji34) : Int) := of_decide_eq_true (by first | (with_reducible assumption) | assumption); have q153 : (ji34) < (t139.length : Int) := of_decide_eq_true (by first | (with_reducible assumption) | assumption); obtain ⟨ad153, e153, hx153_0, hx153_1, hx153_2, hx153_3⟩ := at_T25 (Kd.R_reads' HO_4.out).2.2 (ji34) p153 q153; obtain rfl : ad152 = ad153 := (by injection e153); replace p153 := eq_true p153; replace q153 := eq_true q153)))
                      go_ret
                      exact ⟨by first | rfl | (simp [errW_none, errW_some] <;> rfl) | (simp only [← hji34]; first | rfl | (simp [errW_none, errW_some] <;> rfl)) | (simp [*, errW_none, errW_some] <;> rfl), by repeat (first | (with_reducible first | exact HB.out | apply below_alloc | apply pw_below_drewN | apply below_drew1) | exact HB.out)⟩
                    · rw [if_neg c36] at H
                      exact absurd H (by simp)
                  · rw [if_neg c35] at H
                    exact absurd H (by simp)
              · rw [if_neg c30] at H
                exact absurd H (by simp)
          · replace c26 := Bool.eq_false_iff.mpr c26
            subst c26
            have H1 : (some false) = some r := by rw [if_neg (show ¬ (false = true) by decide)] at H; exact H
            clear H
            have H := H1
            clear H1
            obtain rfl := Option.some.inj H
            obtain ⟨Ao39, co39, eo39⟩ := Kd.R_slice HO_4.out
            subst eo39
            go_wp2_with (first | (go_at_call 10; (with_reducible refine (redactorlaw06_known.calls  false _ A25.out).mono ?_); rintro e w40 ⟨rfl, hb⟩; have n0_ := Aside0.mk (Kd.R_below (by (with_reducible repeat (first | apply Kd.R_alloc | apply Kd.R_drewN | apply Kd.R_drew)); exact HO_4.out) hb); have n1_ := Aside0.mk (below_step (by repeat (first | (with_reducible first | exact HB.out | apply below_alloc | apply pw_below_drewN | apply below_drew1) | exact HB.out)) hb); clear HO_4; clear HB; have HO_4 := n0_; have HB := n1_; clear n0_ n1_; (try clear hb); (try clear hb2); (try clear hk); (try clear hi)))
            repeat (go_quiet (first | (go_at_call 10; (with_reducible refine (redactorlaw06_known.calls  false _ A25.out).mono ?_); rintro e w40 ⟨rfl, hb⟩; have n0_ := Aside0.mk (Kd.R_below (by (with_reducible repeat (first | apply Kd.R_alloc | apply Kd.R_drewN | apply Kd.R_drew)); exact HO_4.out) hb); have n1_ := Aside0.mk (below_step (by repeat (first | (with_reducible first | exact HB.out | apply below_alloc | apply pw_below_drewN | apply below_drew1) | exact HB.out)) hb); clear HO_4; clear HB; have HO_4 := n0_; have HB := n1_; clear n0_ n1_; (try clear hb); (try clear hb2); (try clear hk); (try clear hi))); try go_wp2_with (first | (go_at_call 10; (with_reducible refine (redactorlaw06_known.calls  false _ A25.out).mono ?_); rintro e w40 ⟨rfl, hb⟩; have n0_ := Aside0.mk (Kd.R_below (by (with_reducible repeat (first | apply Kd.R_alloc | apply Kd.R_drewN | apply Kd.R_drew)); exact HO_4.out) hb); have n1_ := Aside0.mk (below_step (by repeat (first | (with_reducible first | exact HB.out | apply below_alloc | apply pw_below_drewN | apply below_drew1) | exact HB.out)) hb); clear HO_4; clear HB; have HO_4 := n0_; have HB := n1_; clear n0_ n1_; (try clear hb); (try clear hb2); (try clear hk); (try clear hi))))
            go_ret
            exact ⟨by first | rfl | (simp [errW_none, errW_some] <;> rfl) | (simp [*, errW_none, errW_some] <;> rfl), by repeat (first | (with_reducible first | exact HB.out | apply below_alloc | apply pw_below_drewN | apply below_drew1) | exact HB.out)⟩
  · rw [if_neg c4] at H
    have c4b0 : (t140 == 0) = false := beq_eq_false_iff_ne.mpr c4
    have c4b1 : (t140 != 0) = true := bne_iff_ne.mpr c4
    replace H := Option.bind_eq_some_iff.mp H
    obtain ⟨t144, A410, H⟩ := H
    replace H : (if t144 = true then (if (t139.length : Int) = 0 then (if t141 ≥ 0 then (some (decide (t141 < (t138.size : Int)))) else (some false)) else (some false)) else (some false)) = some r := H
    have A41 := Aside0.mk A410
    clear A410
    by_cases c42 : t144 = true
    · subst c42
      have H1 : (if (t139.length : Int) = 0 then (if t141 ≥ 0 then (some (decide (t141 < (t138.size : Int)))) else (some false)) else (some false)) = some r := by rw [if_pos rfl] at H; exact H
      clear H
      have H := H1
      clear H1
      by_cases c43 : (t139.length : Int) = 0
      · rw [if_pos c43] at H
        have c43b0 : ((t139.length : Int) == 0) = true := beq_iff_eq.mpr c43
        have c43b1 : ((t139.length : Int) != 0) = false := bne_eq_false_iff_eq.mpr c43
        clear c43
        by_cases c44 : t141 ≥ 0
        · rw [if_pos c44] at H
          have c44b0 : decide (0 ≤ t141) = true := decide_eq_true c44
          clear c44
          obtain rfl := Option.some.inj H
          go_enter Tryd.func4, Tryd.ntmps4
          go_wp2_with (first | (go_at_call 11; (with_reducible refine (redactorlaw06_Text.calls k _ _ l0 t138 _ ?side1 ?side2 A2.out).mono ?_); (case side1 => repeat (first | exact HR0.out | (with_reducible refine Kd.C_alloc ?_ _) | (with_reducible refine Kd.C_drewN ?_ _) | (with_reducible refine Kd.C_drew ?_))); (case side2 => exact HC0.out); rintro e w45 ⟨rfl, hb⟩; have n0_ := Aside0.mk (below_step (by repeat (first | (with_reducible first | exact HB.out | apply below_alloc | apply pw_below_drewN | apply below_drew1) | exact HB.out)) hb); clear HB; have HB := n0_; clear n0_; (try clear hb); (try clear hb2); (try clear hk); (try clear hi)) | (go_at_call 8; (with_reducible refine (lex_Tokens.calls t138 t139 t140 t141 _ A3.out).mono ?_); rintro e w46 ⟨v142, rfl, ho0, hb⟩; have n0_ := Aside0.mk (Kd.R_lower ho0 (below_size (by repeat (first | (with_reducible first | exact HB.out | apply below_alloc | apply pw_below_drewN | apply below_drew1) | exact HB.out)))); have n1_ := Aside0.mk (below_step (by repeat (first | (with_reducible first | exact HB.out | apply below_alloc | apply pw_below_drewN | apply below_drew1) | exact HB.out)) hb); clear HB; have HO143 := n0_; have HB := n1_; clear n0_ n1_; (try clear hb); (try clear hb2); (try clear hk); (try clear hi); (try clear ho0)) | (go_at_call 10; (with_reducible refine (redactorlaw06_known.calls  true _ A41.out).mono ?_); rintro e w47 ⟨rfl, hb⟩; have n0_ := Aside0.mk (Kd.R_below (by (with_reducible repeat (first | apply Kd.R_alloc | apply Kd.R_drewN | apply Kd.R_drew)); exact HO143.out) hb); have n1_ := Aside0.mk (below_step (by repeat (first | (with_reducible first | exact HB.out | apply below_alloc | apply pw_below_drewN | apply below_drew1) | exact HB.out)) hb); clear HO143; clear HB; have HO143 := n0_; have HB := n1_; clear n0_ n1_; (try clear hb); (try clear hb2); (try clear hk); (try clear hi); obtain ⟨Ao48, co48, eo48⟩ := Kd.R_slice HO143.out; subst eo48))
          repeat (go_quiet (first | (go_at_call 11; (with_reducible refine (redactorlaw06_Text.calls k _ _ l0 t138 _ ?side1 ?side2 A2.out).mono ?_); (case side1 => repeat (first | exact HR0.out | (with_reducible refine Kd.C_alloc ?_ _) | (with_reducible refine Kd.C_drewN ?_ _) | (with_reducible refine Kd.C_drew ?_))); (case side2 => exact HC0.out); rintro e w45 ⟨rfl, hb⟩; have n0_ := Aside0.mk (below_step (by repeat (first | (with_reducible first | exact HB.out | apply below_alloc | apply pw_below_drewN | apply below_drew1) | exact HB.out)) hb); clear HB; have HB := n0_; clear n0_; (try clear hb); (try clear hb2); (try clear hk); (try clear hi)) | (go_at_call 8; (with_reducible refine (lex_Tokens.calls t138 t139 t140 t141 _ A3.out).mono ?_); rintro e w46 ⟨v142, rfl, ho0, hb⟩; have n0_ := Aside0.mk (Kd.R_lower ho0 (below_size (by repeat (first | (with_reducible first | exact HB.out | apply below_alloc | apply pw_below_drewN | apply below_drew1) | exact HB.out)))); have n1_ := Aside0.mk (below_step (by repeat (first | (with_reducible first | exact HB.out | apply below_alloc | apply pw_below_drewN | apply below_drew1) | exact HB.out)) hb); clear HB; have HO143 := n0_; have HB := n1_; clear n0_ n1_; (try clear hb); (try clear hb2); (try clear hk); (try clear hi); (try clear ho0)) | (go_at_call 10; (with_reducible refine (redactorlaw06_known.calls  true _ A41.out).mono ?_); rintro e w47 ⟨rfl, hb⟩; have n0_ := Aside0.mk (Kd.R_below (by (with_reducible repeat (first | apply Kd.R_alloc | apply Kd.R_drewN | apply Kd.R_drew)); exact HO143.out) hb); have n1_ := Aside0.mk (below_step (by repeat (first | (with_reducible first | exact HB.out | apply below_alloc | apply pw_below_drewN | apply below_drew1) | exact HB.out)) hb); clear HO143; clear HB; have HO143 := n0_; have HB := n1_; clear n0_ n1_; (try clear hb); (try clear hb2); (try clear hk); (try clear hi); obtain ⟨Ao48, co48, eo48⟩ := Kd.R_slice HO143.out; subst eo48)); try go_wp2_with (first | (go_at_call 11; (with_reducible refine (redactorlaw06_Text.calls k _ _ l0 t138 _ ?side1 ?side2 A2.out).mono ?_); (case side1 => repeat (first | exact HR0.out | (with_reducible refine Kd.C_alloc ?_ _) | (with_reducible refine Kd.C_drewN ?_ _) | (with_reducible refine Kd.C_drew ?_))); (case side2 => exact HC0.out); rintro e w45 ⟨rfl, hb⟩; have n0_ := Aside0.mk (below_step (by repeat (first | (with_reducible first | exact HB.out | apply below_alloc | apply pw_below_drewN | apply below_drew1) | exact HB.out)) hb); clear HB; have HB := n0_; clear n0_; (try clear hb); (try clear hb2); (try clear hk); (try clear hi)) | (go_at_call 8; (with_reducible refine (lex_Tokens.calls t138 t139 t140 t141 _ A3.out).mono ?_); rintro e w46 ⟨v142, rfl, ho0, hb⟩; have n0_ := Aside0.mk (Kd.R_lower ho0 (below_size (by repeat (first | (with_reducible first | exact HB.out | apply below_alloc | apply pw_below_drewN | apply below_drew1) | exact HB.out)))); have n1_ := Aside0.mk (below_step (by repeat (first | (with_reducible first | exact HB.out | apply below_alloc | apply pw_below_drewN | apply below_drew1) | exact HB.out)) hb); clear HB; have HO143 := n0_; have HB := n1_; clear n0_ n1_; (try clear hb); (try clear hb2); (try clear hk); (try clear hi); (try clear ho0)) | (go_at_call 10; (with_reducible refine (redactorlaw06_known.calls  true _ A41.out).mono ?_); rintro e w47 ⟨rfl, hb⟩; have n0_ := Aside0.mk (Kd.R_below (by (with_reducible repeat (first | apply Kd.R_alloc | apply Kd.R_drewN | apply Kd.R_drew)); exact HO143.out) hb); have n1_ := Aside0.mk (below_step (by repeat (first | (with_reducible first | exact HB.out | apply below_alloc | apply pw_below_drewN | apply below_drew1) | exact HB.out)) hb); clear HO143; clear HB; have HO143 := n0_; have HB := n1_; clear n0_ n1_; (try clear hb); (try clear hb2); (try clear hk); (try clear hi); obtain ⟨Ao48, co48, eo48⟩ := Kd.R_slice HO143.out; subst eo48)))
          go_ret
          exact ⟨by first | rfl | (simp [errW_none, errW_some] <;> rfl) | (simp [*, errW_none, errW_some] <;> rfl), by repeat (first | (with_reducible first | exact HB.out | apply below_alloc | apply pw_below_drewN | apply below_drew1) | exact HB.out)⟩
        · rw [if_neg c44] at H
          have c44b0 : decide (0 ≤ t141) = false := decide_eq_false c44
          clear c44
          obtain rfl := Option.some.inj H
          go_enter Tryd.func4, Tryd.ntmps4
          go_wp2_with (first | (go_at_call 11; (with_reducible refine (redactorlaw06_Text.calls k _ _ l0 t138 _ ?side1 ?side2 A2.out).mono ?_); (case side1 => repeat (first | exact HR0.out | (with_reducible refine Kd.C_alloc ?_ _) | (with_reducible refine Kd.C_drewN ?_ _) | (with_reducible refine Kd.C_drew ?_))); (case side2 => exact HC0.out); rintro e w49 ⟨rfl, hb⟩; have n0_ := Aside0.mk (below_step (by repeat (first | (with_reducible first | exact HB.out | apply below_alloc | apply pw_below_drewN | apply below_drew1) | exact HB.out)) hb); clear HB; have HB := n0_; clear n0_; (try clear hb); (try clear hb2); (try clear hk); (try clear hi)) | (go_at_call 8; (with_reducible refine (lex_Tokens.calls t138 t139 t140 t141 _ A3.out).mono ?_); rintro e w50 ⟨v142, rfl, ho0, hb⟩; have n0_ := Aside0.mk (Kd.R_lower ho0 (below_size (by repeat (first | (with_reducible first | exact HB.out | apply below_alloc | apply pw_below_drewN | apply below_drew1) | exact HB.out)))); have n1_ := Aside0.mk (below_step (by repeat (first | (with_reducible first | exact HB.out | apply below_alloc | apply pw_below_drewN | apply below_drew1) | exact HB.out)) hb); clear HB; have HO143 := n0_; have HB := n1_; clear n0_ n1_; (try clear hb); (try clear hb2); (try clear hk); (try clear hi); (try clear ho0)) | (go_at_call 10; (with_reducible refine (redactorlaw06_known.calls  true _ A41.out).mono ?_); rintro e w51 ⟨rfl, hb⟩; have n0_ := Aside0.mk (Kd.R_below (by (with_reducible repeat (first | apply Kd.R_alloc | apply Kd.R_drewN | apply Kd.R_drew)); exact HO143.out) hb); have n1_ := Aside0.mk (below_step (by repeat (first | (with_reducible first | exact HB.out | apply below_alloc | apply pw_below_drewN | apply below_drew1) | exact HB.out)) hb); clear HO143; clear HB; have HO143 := n0_; have HB := n1_; clear n0_ n1_; (try clear hb); (try clear hb2); (try clear hk); (try clear hi); obtain ⟨Ao52, co52, eo52⟩ := Kd.R_slice HO143.out; subst eo52))
          repeat (go_quiet (first | (go_at_call 11; (with_reducible refine (redactorlaw06_Text.calls k _ _ l0 t138 _ ?side1 ?side2 A2.out).mono ?_); (case side1 => repeat (first | exact HR0.out | (with_reducible refine Kd.C_alloc ?_ _) | (with_reducible refine Kd.C_drewN ?_ _) | (with_reducible refine Kd.C_drew ?_))); (case side2 => exact HC0.out); rintro e w49 ⟨rfl, hb⟩; have n0_ := Aside0.mk (below_step (by repeat (first | (with_reducible first | exact HB.out | apply below_alloc | apply pw_below_drewN | apply below_drew1) | exact HB.out)) hb); clear HB; have HB := n0_; clear n0_; (try clear hb); (try clear hb2); (try clear hk); (try clear hi)) | (go_at_call 8; (with_reducible refine (lex_Tokens.calls t138 t139 t140 t141 _ A3.out).mono ?_); rintro e w50 ⟨v142, rfl, ho0, hb⟩; have n0_ := Aside0.mk (Kd.R_lower ho0 (below_size (by repeat (first | (with_reducible first | exact HB.out | apply below_alloc | apply pw_below_drewN | apply below_drew1) | exact HB.out)))); have n1_ := Aside0.mk (below_step (by repeat (first | (with_reducible first | exact HB.out | apply below_alloc | apply pw_below_drewN | apply below_drew1) | exact HB.out)) hb); clear HB; have HO143 := n0_; have HB := n1_; clear n0_ n1_; (try clear hb); (try clear hb2); (try clear hk); (try clear hi); (try clear ho0)) | (go_at_call 10; (with_reducible refine (redactorlaw06_known.calls  true _ A41.out).mono ?_); rintro e w51 ⟨rfl, hb⟩; have n0_ := Aside0.mk (Kd.R_below (by (with_reducible repeat (first | apply Kd.R_alloc | apply Kd.R_drewN | apply Kd.R_drew)); exact HO143.out) hb); have n1_ := Aside0.mk (below_step (by repeat (first | (with_reducible first | exact HB.out | apply below_alloc | apply pw_below_drewN | apply below_drew1) | exact HB.out)) hb); clear HO143; clear HB; have HO143 := n0_; have HB := n1_; clear n0_ n1_; (try clear hb); (try clear hb2); (try clear hk); (try clear hi); obtain ⟨Ao52, co52, eo52⟩ := Kd.R_slice HO143.out; subst eo52)); try go_wp2_with (first | (go_at_call 11; (with_reducible refine (redactorlaw06_Text.calls k _ _ l0 t138 _ ?side1 ?side2 A2.out).mono ?_); (case side1 => repeat (first | exact HR0.out | (with_reducible refine Kd.C_alloc ?_ _) | (with_reducible refine Kd.C_drewN ?_ _) | (with_reducible refine Kd.C_drew ?_))); (case side2 => exact HC0.out); rintro e w49 ⟨rfl, hb⟩; have n0_ := Aside0.mk (below_step (by repeat (first | (with_reducible first | exact HB.out | apply below_alloc | apply pw_below_drewN | apply below_drew1) | exact HB.out)) hb); clear HB; have HB := n0_; clear n0_; (try clear hb); (try clear hb2); (try clear hk); (try clear hi)) | (go_at_call 8; (with_reducible refine (lex_Tokens.calls t138 t139 t140 t141 _ A3.out).mono ?_); rintro e w50 ⟨v142, rfl, ho0, hb⟩; have n0_ := Aside0.mk (Kd.R_lower ho0 (below_size (by repeat (first | (with_reducible first | exact HB.out | apply below_alloc | apply pw_below_drewN | apply below_drew1) | exact HB.out)))); have n1_ := Aside0.mk (below_step (by repeat (first | (with_reducible first | exact HB.out | apply below_alloc | apply pw_below_drewN | apply below_drew1) | exact HB.out)) hb); clear HB; have HO143 := n0_; have HB := n1_; clear n0_ n1_; (try clear hb); (try clear hb2); (try clear hk); (try clear hi); (try clear ho0)) | (go_at_call 10; (with_reducible refine (redactorlaw06_known.calls  true _ A41.out).mono ?_); rintro e w51 ⟨rfl, hb⟩; have n0_ := Aside0.mk (Kd.R_below (by (with_reducible repeat (first | apply Kd.R_alloc | apply Kd.R_drewN | apply Kd.R_drew)); exact HO143.out) hb); have n1_ := Aside0.mk (below_step (by repeat (first | (with_reducible first | exact HB.out | apply below_alloc | apply pw_below_drewN | apply below_drew1) | exact HB.out)) hb); clear HO143; clear HB; have HO143 := n0_; have HB := n1_; clear n0_ n1_; (try clear hb); (try clear hb2); (try clear hk); (try clear hi); obtain ⟨Ao52, co52, eo52⟩ := Kd.R_slice HO143.out; subst eo52)))
          go_ret
          exact ⟨by first | rfl | (simp [errW_none, errW_some] <;> rfl) | (simp [*, errW_none, errW_some] <;> rfl), by repeat (first | (with_reducible first | exact HB.out | apply below_alloc | apply pw_below_drewN | apply below_drew1) | exact HB.out)⟩
      · rw [if_neg c43] at H
        have c43b0 : ((t139.length : Int) == 0) = false := beq_eq_false_iff_ne.mpr c43
        have c43b1 : ((t139.length : Int) != 0) = true := bne_iff_ne.mpr c43
        have c43b2 : ¬ (t139 = []) := fun h_ => c43 (by rw [h_]; rfl)
        obtain rfl := Option.some.inj H
        go_enter Tryd.func4, Tryd.ntmps4
        go_wp2_with (first | (go_at_call 11; (with_reducible refine (redactorlaw06_Text.calls k _ _ l0 t138 _ ?side1 ?side2 A2.out).mono ?_); (case side1 => repeat (first | exact HR0.out | (with_reducible refine Kd.C_alloc ?_ _) | (with_reducible refine Kd.C_drewN ?_ _) | (with_reducible refine Kd.C_drew ?_))); (case side2 => exact HC0.out); rintro e w53 ⟨rfl, hb⟩; have n0_ := Aside0.mk (below_step (by repeat (first | (with_reducible first | exact HB.out | apply below_alloc | apply pw_below_drewN | apply below_drew1) | exact HB.out)) hb); clear HB; have HB := n0_; clear n0_; (try clear hb); (try clear hb2); (try clear hk); (try clear hi)) | (go_at_call 8; (with_reducible refine (lex_Tokens.calls t138 t139 t140 t141 _ A3.out).mono ?_); rintro e w54 ⟨v142, rfl, ho0, hb⟩; have n0_ := Aside0.mk (Kd.R_lower ho0 (below_size (by repeat (first | (with_reducible first | exact HB.out | apply below_alloc | apply pw_below_drewN | apply below_drew1) | exact HB.out)))); have n1_ := Aside0.mk (below_step (by repeat (first | (with_reducible first | exact HB.out | apply below_alloc | apply pw_below_drewN | apply below_drew1) | exact HB.out)) hb); clear HB; have HO143 := n0_; have HB := n1_; clear n0_ n1_; (try clear hb); (try clear hb2); (try clear hk); (try clear hi); (try clear ho0)) | (go_at_call 10; (with_reducible refine (redactorlaw06_known.calls  true _ A41.out).mono ?_); rintro e w55 ⟨rfl, hb⟩; have n0_ := Aside0.mk (Kd.R_below (by (with_reducible repeat (first | apply Kd.R_alloc | apply Kd.R_drewN | apply Kd.R_drew)); exact HO143.out) hb); have n1_ := Aside0.mk (below_step (by repeat (first | (with_reducible first | exact HB.out | apply below_alloc | apply pw_below_drewN | apply below_drew1) | exact HB.out)) hb); clear HO143; clear HB; have HO143 := n0_; have HB := n1_; clear n0_ n1_; (try clear hb); (try clear hb2); (try clear hk); (try clear hi); obtain ⟨Ao56, co56, eo56⟩ := Kd.R_slice HO143.out; subst eo56))
        repeat (go_quiet (first | (go_at_call 11; (with_reducible refine (redactorlaw06_Text.calls k _ _ l0 t138 _ ?side1 ?side2 A2.out).mono ?_); (case side1 => repeat (first | exact HR0.out | (with_reducible refine Kd.C_alloc ?_ _) | (with_reducible refine Kd.C_drewN ?_ _) | (with_reducible refine Kd.C_drew ?_))); (case side2 => exact HC0.out); rintro e w53 ⟨rfl, hb⟩; have n0_ := Aside0.mk (below_step (by repeat (first | (with_reducible first | exact HB.out | apply below_alloc | apply pw_below_drewN | apply below_drew1) | exact HB.out)) hb); clear HB; have HB := n0_; clear n0_; (try clear hb); (try clear hb2); (try clear hk); (try clear hi)) | (go_at_call 8; (with_reducible refine (lex_Tokens.calls t138 t139 t140 t141 _ A3.out).mono ?_); rintro e w54 ⟨v142, rfl, ho0, hb⟩; have n0_ := Aside0.mk (Kd.R_lower ho0 (below_size (by repeat (first | (with_reducible first | exact HB.out | apply below_alloc | apply pw_below_drewN | apply below_drew1) | exact HB.out)))); have n1_ := Aside0.mk (below_step (by repeat (first | (with_reducible first | exact HB.out | apply below_alloc | apply pw_below_drewN | apply below_drew1) | exact HB.out)) hb); clear HB; have HO143 := n0_; have HB := n1_; clear n0_ n1_; (try clear hb); (try clear hb2); (try clear hk); (try clear hi); (try clear ho0)) | (go_at_call 10; (with_reducible refine (redactorlaw06_known.calls  true _ A41.out).mono ?_); rintro e w55 ⟨rfl, hb⟩; have n0_ := Aside0.mk (Kd.R_below (by (with_reducible repeat (first | apply Kd.R_alloc | apply Kd.R_drewN | apply Kd.R_drew)); exact HO143.out) hb); have n1_ := Aside0.mk (below_step (by repeat (first | (with_reducible first | exact HB.out | apply below_alloc | apply pw_below_drewN | apply below_drew1) | exact HB.out)) hb); clear HO143; clear HB; have HO143 := n0_; have HB := n1_; clear n0_ n1_; (try clear hb); (try clear hb2); (try clear hk); (try clear hi); obtain ⟨Ao56, co56, eo56⟩ := Kd.R_slice HO143.out; subst eo56)); try go_wp2_with (first | (go_at_call 11; (with_reducible refine (redactorlaw06_Text.calls k _ _ l0 t138 _ ?side1 ?side2 A2.out).mono ?_); (case side1 => repeat (first | exact HR0.out | (with_reducible refine Kd.C_alloc ?_ _) | (with_reducible refine Kd.C_drewN ?_ _) | (with_reducible refine Kd.C_drew ?_))); (case side2 => exact HC0.out); rintro e w53 ⟨rfl, hb⟩; have n0_ := Aside0.mk (below_step (by repeat (first | (with_reducible first | exact HB.out | apply below_alloc | apply pw_below_drewN | apply below_drew1) | exact HB.out)) hb); clear HB; have HB := n0_; clear n0_; (try clear hb); (try clear hb2); (try clear hk); (try clear hi)) | (go_at_call 8; (with_reducible refine (lex_Tokens.calls t138 t139 t140 t141 _ A3.out).mono ?_); rintro e w54 ⟨v142, rfl, ho0, hb⟩; have n0_ := Aside0.mk (Kd.R_lower ho0 (below_size (by repeat (first | (with_reducible first | exact HB.out | apply below_alloc | apply pw_below_drewN | apply below_drew1) | exact HB.out)))); have n1_ := Aside0.mk (below_step (by repeat (first | (with_reducible first | exact HB.out | apply below_alloc | apply pw_below_drewN | apply below_drew1) | exact HB.out)) hb); clear HB; have HO143 := n0_; have HB := n1_; clear n0_ n1_; (try clear hb); (try clear hb2); (try clear hk); (try clear hi); (try clear ho0)) | (go_at_call 10; (with_reducible refine (redactorlaw06_known.calls  true _ A41.out).mono ?_); rintro e w55 ⟨rfl, hb⟩; have n0_ := Aside0.mk (Kd.R_below (by (with_reducible repeat (first | apply Kd.R_alloc | apply Kd.R_drewN | apply Kd.R_drew)); exact HO143.out) hb); have n1_ := Aside0.mk (below_step (by repeat (first | (with_reducible first | exact HB.out | apply below_alloc | apply pw_below_drewN | apply below_drew1) | exact HB.out)) hb); clear HO143; clear HB; have HO143 := n0_; have HB := n1_; clear n0_ n1_; (try clear hb); (try clear hb2); (try clear hk); (try clear hi); obtain ⟨Ao56, co56, eo56⟩ := Kd.R_slice HO143.out; subst eo56)))
        go_ret
        exact ⟨by first | rfl | (simp [errW_none, errW_some] <;> rfl) | (simp [*, errW_none, errW_some] <;> rfl), by repeat (first | (with_reducible first | exact HB.out | apply below_alloc | apply pw_below_drewN | apply below_drew1) | exact HB.out)⟩
    · replace c42 := Bool.eq_false_iff.mpr c42
      subst c42
      have H1 : (some false) = some r := by rw [if_neg (show ¬ (false = true) by decide)] at H; exact H
      clear H
      have H := H1
      clear H1
      obtain rfl := Option.some.inj H
      go_enter Tryd.func4, Tryd.ntmps4
      go_wp2_with (first | (go_at_call 11; (with_reducible refine (redactorlaw06_Text.calls k _ _ l0 t138 _ ?side1 ?side2 A2.out).mono ?_); (case side1 => repeat (first | exact HR0.out | (with_reducible refine Kd.C_alloc ?_ _) | (with_reducible refine Kd.C_drewN ?_ _) | (with_reducible refine Kd.C_drew ?_))); (case side2 => exact HC0.out); rintro e w57 ⟨rfl, hb⟩; have n0_ := Aside0.mk (below_step (by repeat (first | (with_reducible first | exact HB.out | apply below_alloc | apply pw_below_drewN | apply below_drew1) | exact HB.out)) hb); clear HB; have HB := n0_; clear n0_; (try clear hb); (try clear hb2); (try clear hk); (try clear hi)) | (go_at_call 8; (with_reducible refine (lex_Tokens.calls t138 t139 t140 t141 _ A3.out).mono ?_); rintro e w58 ⟨v142, rfl, ho0, hb⟩; have n0_ := Aside0.mk (Kd.R_lower ho0 (below_size (by repeat (first | (with_reducible first | exact HB.out | apply below_alloc | apply pw_below_drewN | apply below_drew1) | exact HB.out)))); have n1_ := Aside0.mk (below_step (by repeat (first | (with_reducible first | exact HB.out | apply below_alloc | apply pw_below_drewN | apply below_drew1) | exact HB.out)) hb); clear HB; have HO143 := n0_; have HB := n1_; clear n0_ n1_; (try clear hb); (try clear hb2); (try clear hk); (try clear hi); (try clear ho0)) | (go_at_call 10; (with_reducible refine (redactorlaw06_known.calls  false _ A41.out).mono ?_); rintro e w59 ⟨rfl, hb⟩; have n0_ := Aside0.mk (Kd.R_below (by (with_reducible repeat (first | apply Kd.R_alloc | apply Kd.R_drewN | apply Kd.R_drew)); exact HO143.out) hb); have n1_ := Aside0.mk (below_step (by repeat (first | (with_reducible first | exact HB.out | apply below_alloc | apply pw_below_drewN | apply below_drew1) | exact HB.out)) hb); clear HO143; clear HB; have HO143 := n0_; have HB := n1_; clear n0_ n1_; (try clear hb); (try clear hb2); (try clear hk); (try clear hi)))
      repeat (go_quiet (first | (go_at_call 11; (with_reducible refine (redactorlaw06_Text.calls k _ _ l0 t138 _ ?side1 ?side2 A2.out).mono ?_); (case side1 => repeat (first | exact HR0.out | (with_reducible refine Kd.C_alloc ?_ _) | (with_reducible refine Kd.C_drewN ?_ _) | (with_reducible refine Kd.C_drew ?_))); (case side2 => exact HC0.out); rintro e w57 ⟨rfl, hb⟩; have n0_ := Aside0.mk (below_step (by repeat (first | (with_reducible first | exact HB.out | apply below_alloc | apply pw_below_drewN | apply below_drew1) | exact HB.out)) hb); clear HB; have HB := n0_; clear n0_; (try clear hb); (try clear hb2); (try clear hk); (try clear hi)) | (go_at_call 8; (with_reducible refine (lex_Tokens.calls t138 t139 t140 t141 _ A3.out).mono ?_); rintro e w58 ⟨v142, rfl, ho0, hb⟩; have n0_ := Aside0.mk (Kd.R_lower ho0 (below_size (by repeat (first | (with_reducible first | exact HB.out | apply below_alloc | apply pw_below_drewN | apply below_drew1) | exact HB.out)))); have n1_ := Aside0.mk (below_step (by repeat (first | (with_reducible first | exact HB.out | apply below_alloc | apply pw_below_drewN | apply below_drew1) | exact HB.out)) hb); clear HB; have HO143 := n0_; have HB := n1_; clear n0_ n1_; (try clear hb); (try clear hb2); (try clear hk); (try clear hi); (try clear ho0)) | (go_at_call 10; (with_reducible refine (redactorlaw06_known.calls  false _ A41.out).mono ?_); rintro e w59 ⟨rfl, hb⟩; have n0_ := Aside0.mk (Kd.R_below (by (with_reducible repeat (first | apply Kd.R_alloc | apply Kd.R_drewN | apply Kd.R_drew)); exact HO143.out) hb); have n1_ := Aside0.mk (below_step (by repeat (first | (with_reducible first | exact HB.out | apply below_alloc | apply pw_below_drewN | apply below_drew1) | exact HB.out)) hb); clear HO143; clear HB; have HO143 := n0_; have HB := n1_; clear n0_ n1_; (try clear hb); (try clear hb2); (try clear hk); (try clear hi))); try go_wp2_with (first | (go_at_call 11; (with_reducible refine (redactorlaw06_Text.calls k _ _ l0 t138 _ ?side1 ?side2 A2.out).mono ?_); (case side1 => repeat (first | exact HR0.out | (with_reducible refine Kd.C_alloc ?_ _) | (with_reducible refine Kd.C_drewN ?_ _) | (with_reducible refine Kd.C_drew ?_))); (case side2 => exact HC0.out); rintro e w57 ⟨rfl, hb⟩; have n0_ := Aside0.mk (below_step (by repeat (first | (with_reducible first | exact HB.out | apply below_alloc | apply pw_below_drewN | apply below_drew1) | exact HB.out)) hb); clear HB; have HB := n0_; clear n0_; (try clear hb); (try clear hb2); (try clear hk); (try clear hi)) | (go_at_call 8; (with_reducible refine (lex_Tokens.calls t138 t139 t140 t141 _ A3.out).mono ?_); rintro e w58 ⟨v142, rfl, ho0, hb⟩; have n0_ := Aside0.mk (Kd.R_lower ho0 (below_size (by repeat (first | (with_reducible first | exact HB.out | apply below_alloc | apply pw_below_drewN | apply below_drew1) | exact HB.out)))); have n1_ := Aside0.mk (below_step (by repeat (first | (with_reducible first | exact HB.out | apply below_alloc | apply pw_below_drewN | apply below_drew1) | exact HB.out)) hb); clear HB; have HO143 := n0_; have HB := n1_; clear n0_ n1_; (try clear hb); (try clear hb2); (try clear hk); (try clear hi); (try clear ho0)) | (go_at_call 10; (with_reducible refine (redactorlaw06_known.calls  false _ A41.out).mono ?_); rintro e w59 ⟨rfl, hb⟩; have n0_ := Aside0.mk (Kd.R_below (by (with_reducible repeat (first | apply Kd.R_alloc | apply Kd.R_drewN | apply Kd.R_drew)); exact HO143.out) hb); have n1_ := Aside0.mk (below_step (by repeat (first | (with_reducible first | exact HB.out | apply below_alloc | apply pw_below_drewN | apply below_drew1) | exact HB.out)) hb); clear HO143; clear HB; have HO143 := n0_; have HB := n1_; clear n0_ n1_; (try clear hb); (try clear hb2); (try clear hk); (try clear hi))))
      go_ret
      exact ⟨by first | rfl | (simp [errW_none, errW_some] <;> rfl) | (simp [*, errW_none, errW_some] <;> rfl), by repeat (first | (with_reducible first | exact HB.out | apply below_alloc | apply pw_below_drewN | apply below_drew1) | exact HB.out)⟩

/-- THE ONE PURE STATEMENT of redactorlaw06_LexPlaces: yours. -/
def redactorlaw06_LexPlaces.Pure : Prop := ∀ (l0 : List Int), l0.length ≤ maxLen → l0.length * 1 ≤ 140737488351232 → (∀ x ∈ l0, (Lit.int .u8 x).wf = true) → ∃ k, redactorlaw06_LexPlaces.f k l0 = some true
theorem redactorlaw06_LexPlaces.walk (P : redactorlaw06_LexPlaces.Pure) (a0 : Option Addr) (len0 cap0 : Nat) (z0 : List Int) (w : World) (w0 : (a0 = none ∧ len0 = 0 ∧ cap0 = 0 ∧ z0 = []) ∨ ∃ x, a0 = some x ∧ len0 ≤ cap0 ∧ cap0 ≤ maxLen ∧ z0.length = cap0 ∧ (∀ i, i < z0.length → w.cell? (x.add i) = some (.int .u8 (z0.getD i 0))) ∧ ∀ n ∈ z0, (Lit.int .u8 n).wf = true) (y0 : len0 * 1 ≤ 140737488351232) (hG : Lex.Gl w) :
    Calls Tryd.prog 4 #[.slice a0 len0 cap0] w fun e w' => e = .returned (.bool true) ∧ Below w.heap.size w w' := by
  obtain ⟨l0, rfl, hr0, hm0, hw0, hc0⟩ := ReadsInt.ofRowC w0
  obtain ⟨k, h⟩ := P l0 hm0 y0 hw0
  refine (redactorlaw06_LexPlaces.calls k _ _ l0 true w (Kd.C_of_reads (d := (0 : Int)) (h1 := fun _ => rfl) hr0) hc0 h).mono ?_
  rintro e w' ⟨rfl, hd⟩
  exact ⟨rfl, hd⟩

/-! ### redactorref06_Same: function 12 -/
def redactorref06_Same.l0 : Nat → List (S25) → List (S25) → Int → Option (Bool)
  | 0, _, _, _ => none
  | k + 1, x0, x1, x5 => if x5 < (x0.length : Int) then (if 0 ≤ x5 then (if x5 < (x1.length : Int) then (if ((rd_T25 x0 x5).f0) = ((rd_T25 x1 x5).f0) then (if ((rd_T25 x0 x5).f1).toList = ((rd_T25 x1 x5).f1).toList then (if ((rd_T25 x0 x5).f2) = ((rd_T25 x1 x5).f2) then (redactorref06_Same.l0 k x0 x1 (wrap64 (x5 + 1))) else (some false)) else (some false)) else (some false)) else (none)) else (none)) else (some true)
def redactorref06_Same.f (k : Nat) (l0 : List (S25)) (l1 : List (S25)) : Option (Bool) := if (l0.length : Int) = (l1.length : Int) then (redactorref06_Same.l0 k l0 l1 0) else (some false)
theorem redactorref06_Same.mono_l : ∀ k, (∀ y0 y1 y2, LeO (redactorref06_Same.l0 k y0 y1 y2) (redactorref06_Same.l0 (k + 1) y0 y1 y2))
  | 0 => fun _ _ _ r h => by simp [redactorref06_Same.l0] at h
  | k + 1 => by
    have ih0 := redactorref06_Same.mono_l k
    · intro y0 y1 y2
      unfold redactorref06_Same.l0
      repeat' first
      | (with_reducible exact ih0 _ _ _)
      | (with_reducible exact LeO.refl _)
      | (with_reducible exact LeO.none _)
      | (with_reducible refine LeO.ite ?_ ?_)
      | (with_reducible refine LeO.bind ?_ (fun _ => ?_))
      | exact ih0 _ _ _
      | exact LeO.none _
      | refine LeO.ite ?_ ?_
      | refine LeO.bind ?_ (fun _ => ?_)
theorem redactorref06_Same.mono : ∀ a0 a1 k, LeO (redactorref06_Same.f k a0 a1) (redactorref06_Same.f (k + 1) a0 a1) := by
  intro a0 a1 k
  have ih0 := redactorref06_Same.mono_l k
  unfold redactorref06_Same.f
  repeat' first
      | (with_reducible exact ih0 _ _ _)
      | (with_reducible exact LeO.refl _)
      | (with_reducible exact LeO.none _)
      | (with_reducible refine LeO.ite ?_ ?_)
      | (with_reducible refine LeO.bind ?_ (fun _ => ?_))
      | exact ih0 _ _ _
      | exact LeO.none _
      | refine LeO.ite ?_ ?_
      | refine LeO.bind ?_ (fun _ => ?_)
set_option maxHeartbeats 8000000 in
set_option maxRecDepth 100000 in
theorem redactorref06_Same.calls (k : Nat) (A0 : Option Addr) (c0 : Nat) (l0 : List (S25)) (A1 : Option Addr) (c1 : Nat) (l1 : List (S25)) (r : Bool) (w : World) (hr0 : Kd.C k25 w A0 l0.length l0) (hc0 : l0.length ≤ c0) (hr1 : Kd.C k25 w A1 l1.length l1) (hc1 : l1.length ≤ c1) (h : redactorref06_Same.f k l0 l1 = some r) :
    Calls Tryd.prog 12 #[.slice A0 l0.length c0, .slice A1 l1.length c1] w fun e w' => e = .returned (.bool r) ∧ Drawn0 w w' := by
  have HR0 := Aside0.mk hr0
  have HC0 := Aside0.mk hc0
  clear hr0 hc0
  have HR1 := Aside0.mk hr1
  have HC1 := Aside0.mk hc1
  clear hr1 hc1
  have H : (if (l0.length : Int) = (l1.length : Int) then (redactorref06_Same.l0 k l0 l1 0) else (some false)) = some r := h
  clear h
  by_cases c3 : (l0.length : Int) = (l1.length : Int)
  · rw [if_pos c3] at H
    have c3b0 : ((l0.length : Int) == (l1.length : Int)) = true := beq_iff_eq.mpr c3
    have c3b1 : ((l0.length : Int) != (l1.length : Int)) = false := bne_eq_false_iff_eq.mpr c3
    have c3b2 : (l0.length == l1.length) = true := by first | simpa using c3 | (simp at c3 ⊢; omega)
    clear c3
    have H' := Aside0.mk H
    clear H
    go_enter Tryd.func12, Tryd.ntmps12
    go_wp2
    repeat (go_quiet (fail); try go_wp2)
    go_loopg [5] k (fun kq v5 w' => ∃ (x5_1 : Int), v5 = .int .i64 x5_1 ∧ Aside0 (redactorref06_Same.l0 kq l0 l1 x5_1 = some r) ∧ Aside0 (kq ≤ k) ∧ Drawn0 w w')
    case atStart => exact ⟨(0), (by first | rfl | (simp; done) | (simp [*]; done)), H', ⟨Nat.le_refl _⟩, by repeat (first | exact Drawn0.refl _ | apply Drawn0.step)⟩
    case round =>
      clear H'
      try clear c1
      try clear p2
      try clear c3
      try clear c3b0
      try clear c3b1
      try clear c3b2
      obtain ⟨x5_1, rfl, HA, HK1, ⟨m1, rfl⟩⟩ := hrel
      cases gk with
      | zero => exact absurd HA.out (by simp [redactorref06_Same.l0])
      | succ k1 =>
        have H := HA.out
        clear HA
        simp only [redactorref06_Same.l0] at H
        by_cases c4 : x5_1 < (l0.length : Int)
        · rw [if_pos c4] at H
          have c4b0 : decide (x5_1 < (l0.length : Int)) = true := decide_eq_true c4
          clear c4
          by_cases c5 : 0 ≤ x5_1
          · rw [if_pos c5] at H
            have c5b0 : decide (0 ≤ x5_1) = true := decide_eq_true c5
            clear c5
            by_cases c6 : x5_1 < (l1.length : Int)
            · rw [if_pos c6] at H
              have c6b0 : decide (x5_1 < (l1.length : Int)) = true := decide_eq_true c6
              clear c6
              by_cases c7 : ((rd_T25 l0 x5_1).f0) = ((rd_T25 l1 x5_1).f0)
              · rw [if_pos c7] at H
                have c7b0 : (((rd_T25 l0 x5_1).f0) == ((rd_T25 l1 x5_1).f0)) = true := beq_iff_eq.mpr c7
                have c7b1 : (((rd_T25 l0 x5_1).f0) != ((rd_T25 l1 x5_1).f0)) = false := bne_eq_false_iff_eq.mpr c7
                clear c7
                by_cases c8 : ((rd_T25 l0 x5_1).f1).toList = ((rd_T25 l1 x5_1).f1).toList
                · rw [if_pos c8] at H
                  have c8b0 : (((rd_T25 l0 x5_1).f1).toList == ((rd_T25 l1 x5_1).f1).toList) = true := beq_iff_eq.mpr c8
                  have c8b1 : (((rd_T25 l0 x5_1).f1).toList != ((rd_T25 l1 x5_1).f1).toList) = false := bne_eq_false_iff_eq.mpr c8
                  clear c8
                  by_cases c9 : ((rd_T25 l0 x5_1).f2) = ((rd_T25 l1 x5_1).f2)
                  · rw [if_pos c9] at H
                    have c9b0 : (((rd_T25 l0 x5_1).f2) == ((rd_T25 l1 x5_1).f2)) = true := beq_iff_eq.mpr c9
                    have c9b1 : (((rd_T25 l0 x5_1).f2) != ((rd_T25 l1 x5_1).f2)) = false := bne_eq_false_iff_eq.mpr c9
                    clear c9
                    have H' := Aside0.mk H
                    clear H
                    have p154 : 0 ≤ (x5_1 : Int) := of_decide_eq_true (by first | (with_reducible assumption) | assumption)
                    have q154 : x5_1 < (l0.length : Int) := of_decide_eq_true (by first | (with_reducible assumption) | assumption)
                    obtain ⟨ad154, e154, hx154_0, hx154_1, hx154_2, hx154_3⟩ := at_T25 HR0.out x5_1 p154 q154
                    cases e154
                    replace p154 := eq_true p154
                    replace q154 := eq_true q154
                    have p155 : 0 ≤ (x5_1 : Int) := of_decide_eq_true (by first | (with_reducible assumption) | assumption)
                    have q155 : x5_1 < (l1.length : Int) := of_decide_eq_true (by first | (with_reducible assumption) | assumption)
                    obtain ⟨ad155, e155, hx155_0, hx155_1, hx155_2, hx155_3⟩ := at_T25 HR1.out x5_1 p155 q155
                    cases e155
                    replace p155 := eq_true p155
                    replace q155 := eq_true q155
                    have p156 : 0 ≤ (x5_1 : Int) := of_decide_eq_true (by first | (with_reducible assumption) | assumption)
                    have q156 : x5_1 < (l0.length : Int) := of_decide_eq_true (by first | (with_reducible assumption) | assumption)
                    obtain ⟨ad156, e156, hx156_0, hx156_1, hx156_2, hx156_3⟩ := at_T25 HR0.out x5_1 p156 q156
                    obtain rfl : ad154 = ad156 := (by injection e156)
                    replace p156 := eq_true p156
                    replace q156 := eq_true q156
                    have p157 : 0 ≤ (x5_1 : Int) := of_decide_eq_true (by first | (with_reducible assumption) | assumption)
                    have q157 : x5_1 < (l1.length : Int) := of_decide_eq_true (by first | (with_reducible assumption) | assumption)
                    obtain ⟨ad157, e157, hx157_0, hx157_1, hx157_2, hx157_3⟩ := at_T25 HR1.out x5_1 p157 q157
                    obtain rfl : ad155 = ad157 := (by injection e157)
                    replace p157 := eq_true p157
                    replace q157 := eq_true q157
                    have p158 : 0 ≤ (x5_1 : Int) := of_decide_eq_true (by first | (with_reducible assumption) | assumption)
                    have q158 : x5_1 < (l0.length : Int) := of_decide_eq_true (by first | (with_reducible assumption) | assumption)
                    obtain ⟨ad158, e158, hx158_0, hx158_1, hx158_2, hx158_3⟩ := at_T25 HR0.out x5_1 p158 q158
                    obtain rfl : ad154 = ad158 := (by injection e158)
                    replace p158 := eq_true p158
                    replace q158 := eq_true q158
                    have p159 : 0 ≤ (x5_1 : Int) := of_decide_eq_true (by first | (with_reducible assumption) | assumption)
                    have q159 : x5_1 < (l1.length : Int) := of_decide_eq_true (by first | (with_reducible assumption) | assumption)
                    obtain ⟨ad159, e159, hx159_0, hx159_1, hx159_2, hx159_3⟩ := at_T25 HR1.out x5_1 p159 q159
                    obtain rfl : ad155 = ad159 := (by injection e159)
                    replace p159 := eq_true p159
                    replace q159 := eq_true q159
                    go_wp2
                    repeat (go_quiet (fail); try go_wp2)
                    go_roundg k1
                    case measure => have := HK1.out; omega
                    case rel => exact ⟨(wrap64 (x5_1 + 1)), (by first | rfl | (simp; done) | (simp [*]; done)), H', ⟨by have := HK1.out; omega⟩, by repeat (first | exact Drawn0.refl _ | apply Drawn0.step)⟩
                  · rw [if_neg c9] at H
                    have c9b0 : (((rd_T25 l0 x5_1).f2) == ((rd_T25 l1 x5_1).f2)) = false := beq_eq_false_iff_ne.mpr c9
                    have c9b1 : (((rd_T25 l0 x5_1).f2) != ((rd_T25 l1 x5_1).f2)) = true := bne_iff_ne.mpr c9
                    obtain rfl := Option.some.inj H
                    have p154 : 0 ≤ (x5_1 : Int) := of_decide_eq_true (by first | (with_reducible assumption) | assumption)
                    have q154 : x5_1 < (l0.length : Int) := of_decide_eq_true (by first | (with_reducible assumption) | assumption)
                    obtain ⟨ad154, e154, hx154_0, hx154_1, hx154_2, hx154_3⟩ := at_T25 HR0.out x5_1 p154 q154
                    cases e154
                    replace p154 := eq_true p154
                    replace q154 := eq_true q154
                    have p155 : 0 ≤ (x5_1 : Int) := of_decide_eq_true (by first | (with_reducible assumption) | assumption)
                    have q155 : x5_1 < (l1.length : Int) := of_decide_eq_true (by first | (with_reducible assumption) | assumption)
                    obtain ⟨ad155, e155, hx155_0, hx155_1, hx155_2, hx155_3⟩ := at_T25 HR1.out x5_1 p155 q155
                    cases e155
                    replace p155 := eq_true p155
                    replace q155 := eq_true q155
                    have p156 : 0 ≤ (x5_1 : Int) := of_decide_eq_true (by first | (with_reducible assumption) | assumption)
                    have q156 : x5_1 < (l0.length : Int) := of_decide_eq_true (by first | (with_reducible assumption) | assumption)
                    obtain ⟨ad156, e156, hx156_0, hx156_1, hx156_2, hx156_3⟩ := at_T25 HR0.out x5_1 p156 q156
                    obtain rfl : ad154 = ad156 := (by injection e156)
                    replace p156 := eq_true p156
                    replace q156 := eq_true q156
                    have p157 : 0 ≤ (x5_1 : Int) := of_decide_eq_true (by first | (with_reducible assumption) | assumption)
                    have q157 : x5_1 < (l1.length : Int) := of_decide_eq_true (by first | (with_reducible assumption) | assumption)
                    obtain ⟨ad157, e157, hx157_0, hx157_1, hx157_2, hx157_3⟩ := at_T25 HR1.out x5_1 p157 q157
                    obtain rfl : ad155 = ad157 := (by injection e157)
                    replace p157 := eq_true p157
                    replace q157 := eq_true q157
                    have p158 : 0 ≤ (x5_1 : Int) := of_decide_eq_true (by first | (with_reducible assumption) | assumption)
                    have q158 : x5_1 < (l0.length : Int) := of_decide_eq_true (by first | (with_reducible assumption) | assumption)
                    obtain ⟨ad158, e158, hx158_0, hx158_1, hx158_2, hx158_3⟩ := at_T25 HR0.out x5_1 p158 q158
                    obtain rfl : ad154 = ad158 := (by injection e158)
                    replace p158 := eq_true p158
                    replace q158 := eq_true q158
                    have p159 : 0 ≤ (x5_1 : Int) := of_decide_eq_true (by first | (with_reducible assumption) | assumption)
                    have q159 : x5_1 < (l1.length : Int) := of_decide_eq_true (by first | (with_reducible assumption) | assumption)
                    obtain ⟨ad159, e159, hx159_0, hx159_1, hx159_2, hx159_3⟩ := at_T25 HR1.out x5_1 p159 q159
                    obtain rfl : ad155 = ad159 := (by injection e159)
                    replace p159 := eq_true p159
                    replace q159 := eq_true q159
                    go_wp2
                    repeat (go_quiet (fail); try go_wp2)
                    go_ret
                    exact ⟨by first | rfl | (simp; done) | (simp [*]; done), by repeat (first | exact Drawn0.refl _ | apply Drawn0.step)⟩
                · rw [if_neg c8] at H
                  have c8b0 : (((rd_T25 l0 x5_1).f1).toList == ((rd_T25 l1 x5_1).f1).toList) = false := beq_eq_false_iff_ne.mpr c8
                  have c8b1 : (((rd_T25 l0 x5_1).f1).toList != ((rd_T25 l1 x5_1).f1).toList) = true := bne_iff_ne.mpr c8
                  obtain rfl := Option.some.inj H
                  have p154 : 0 ≤ (x5_1 : Int) := of_decide_eq_true (by first | (with_reducible assumption) | assumption)
                  have q154 : x5_1 < (l0.length : Int) := of_decide_eq_true (by first | (with_reducible assumption) | assumption)
                  obtain ⟨ad154, e154, hx154_0, hx154_1, hx154_2, hx154_3⟩ := at_T25 HR0.out x5_1 p154 q154
                  cases e154
                  replace p154 := eq_true p154
                  replace q154 := eq_true q154
                  have p155 : 0 ≤ (x5_1 : Int) := of_decide_eq_true (by first | (with_reducible assumption) | assumption)
                  have q155 : x5_1 < (l1.length : Int) := of_decide_eq_true (by first | (with_reducible assumption) | assumption)
                  obtain ⟨ad155, e155, hx155_0, hx155_1, hx155_2, hx155_3⟩ := at_T25 HR1.out x5_1 p155 q155
                  cases e155
                  replace p155 := eq_true p155
                  replace q155 := eq_true q155
                  have p156 : 0 ≤ (x5_1 : Int) := of_decide_eq_true (by first | (with_reducible assumption) | assumption)
                  have q156 : x5_1 < (l0.length : Int) := of_decide_eq_true (by first | (with_reducible assumption) | assumption)
                  obtain ⟨ad156, e156, hx156_0, hx156_1, hx156_2, hx156_3⟩ := at_T25 HR0.out x5_1 p156 q156
                  obtain rfl : ad154 = ad156 := (by injection e156)
                  replace p156 := eq_true p156
                  replace q156 := eq_true q156
                  have p157 : 0 ≤ (x5_1 : Int) := of_decide_eq_true (by first | (with_reducible assumption) | assumption)
                  have q157 : x5_1 < (l1.length : Int) := of_decide_eq_true (by first | (with_reducible assumption) | assumption)
                  obtain ⟨ad157, e157, hx157_0, hx157_1, hx157_2, hx157_3⟩ := at_T25 HR1.out x5_1 p157 q157
                  obtain rfl : ad155 = ad157 := (by injection e157)
                  replace p157 := eq_true p157
                  replace q157 := eq_true q157
                  go_wp2
                  repeat (go_quiet (fail); try go_wp2)
                  go_ret
                  exact ⟨by first | rfl | (simp; done) | (simp [*]; done), by repeat (first | exact Drawn0.refl _ | apply Drawn0.step)⟩
              · rw [if_neg c7] at H
                have c7b0 : (((rd_T25 l0 x5_1).f0) == ((rd_T25 l1 x5_1).f0)) = false := beq_eq_false_iff_ne.mpr c7
                have c7b1 : (((rd_T25 l0 x5_1).f0) != ((rd_T25 l1 x5_1).f0)) = true := bne_iff_ne.mpr c7
                obtain rfl := Option.some.inj H
                have p154 : 0 ≤ (x5_1 : Int) := of_decide_eq_true (by first | (with_reducible assumption) | assumption)
                have q154 : x5_1 < (l0.length : Int) := of_decide_eq_true (by first | (with_reducible assumption) | assumption)
                obtain ⟨ad154, e154, hx154_0, hx154_1, hx154_2, hx154_3⟩ := at_T25 HR0.out x5_1 p154 q154
                cases e154
                replace p154 := eq_true p154
                replace q154 := eq_true q154
                have p155 : 0 ≤ (x5_1 : Int) := of_decide_eq_true (by first | (with_reducible assumption) | assumption)
                have q155 : x5_1 < (l1.length : Int) := of_decide_eq_true (by first | (with_reducible assumption) | assumption)
                obtain ⟨ad155, e155, hx155_0, hx155_1, hx155_2, hx155_3⟩ := at_T25 HR1.out x5_1 p155 q155
                cases e155
                replace p155 := eq_true p155
                replace q155 := eq_true q155
                go_wp2
                repeat (go_quiet (fail); try go_wp2)
                go_ret
                exact ⟨by first | rfl | (simp; done) | (simp [*]; done), by repeat (first | exact Drawn0.refl _ | apply Drawn0.step)⟩
            · rw [if_neg c6] at H
              exact absurd H (by simp)
          · rw [if_neg c5] at H
            exact absurd H (by simp)
        · rw [if_neg c4] at H
          have c4b0 : decide (x5_1 < (l0.length : Int)) = false := decide_eq_false c4
          clear c4
          obtain rfl := Option.some.inj H
          go_wp2
          repeat (go_quiet (fail); try go_wp2)
          go_ret
          exact ⟨by first | rfl | (simp; done) | (simp [*]; done), by repeat (first | exact Drawn0.refl _ | apply Drawn0.step)⟩
  · rw [if_neg c3] at H
    have c3b0 : ((l0.length : Int) == (l1.length : Int)) = false := beq_eq_false_iff_ne.mpr c3
    have c3b1 : ((l0.length : Int) != (l1.length : Int)) = true := bne_iff_ne.mpr c3
    have c3b2 : (l0.length == l1.length) = false := by first | simpa using c3 | (simp at c3 ⊢; omega)
    obtain rfl := Option.some.inj H
    go_enter Tryd.func12, Tryd.ntmps12
    go_wp2
    repeat (go_quiet (fail); try go_wp2)
    go_ret
    exact ⟨by first | rfl | (simp; done) | (simp [*]; done), by repeat (first | exact Drawn0.refl _ | apply Drawn0.step)⟩

end Go.Proofs.YtipmmkelialgkaaDoor.PLex
