-- WRITTEN FOR THIS CLAIM by wip/tools/told.py (the kit's printer, with some functions told by hand).
import Derived.Test.YtipmmkelialgkaaGreatDoorPLexx0
import Derived.Test.YtipmmkelialgkaaGreatDoorLexTokens
import Derived.Test.YtipmmkelialgkaaGreatDoorLexPrint
namespace Go.Proofs.YtipmmkelialgkaaGreatDoor.PLex
open Go.RowKit Go.Proofs.YtipmmkelialgkaaGreatDoorW.PrintWords Go.Proofs.YtipmmkelialgkaaGreatDoorW.PrintLast Go.Proofs.YtipmmkelialgkaaGreatDoorW.PrintMore
attribute [local go_sem] max2_int min2_int max_two min_two max_three min_three max_four min_four   -- for this text's walks alone
set_option linter.unusedVariables false
set_option linter.unusedSimpArgs false

/-! ### lex_Tokens: function 22 -/
-- TOLD LexTokens
def lex_Tokens.f (a0 : ByteArray) : Option (List (S63) × Int × Int) := some (Lex.tokensF a0)
theorem lex_Tokens.calls (a0 : ByteArray) (r1 : List (S63)) (r2 : Int) (r3 : Int) (w : World) (h : lex_Tokens.f a0 = some (r1, r2, r3)) (hG : Lex.Gl w := by first | assumption | exact Lex.Gl.at_below (by assumption) (by repeat (first | (with_reducible first | exact Aside0.out (by assumption) | apply below_alloc | apply pw_below_drewN | apply below_drew1) | exact Aside0.out (by assumption)))) :
    Calls Tryz.prog 22 #[.string a0] w fun e w' => ∃ v0_, e = .returned (.tuple #[v0_, .int .u16 r2, .int .i64 r3]) ∧ Kd.R k63 63 w' w.heap.size (fun _ => True) v0_ r1 ∧ Below w.heap.size w w' := by
  have e : Lex.tokensF a0 = (r1, r2, r3) := Option.some.inj h
  have hc := Lex.tokens_calls a0 w hG
  rw [e] at hc
  exact hc


/-! ### lex_Print: function 23 -/
-- TOLD LexPrint
def lex_Print.f (l0 : List (S63)) : Option (ByteArray) := if l0.length ≤ 1000000 ∧ (Lex.printF l0).length ≤ 1000000000 ∧ (l0.all fun t => decide (t.f2 < 9223372036854775808)) = true then some (Lex.bs (Lex.printF l0)) else none
theorem lex_Print.calls (A0 : Option Addr) (c0 : Nat) (l0 : List (S63)) (r : ByteArray) (w : World) (hr0 : Kd.C k63 w A0 l0.length l0) (hc0 : l0.length ≤ c0) (h : lex_Print.f l0 = some r) (hG : Lex.Gl w := by first | assumption | exact Lex.Gl.at_below (by assumption) (by repeat (first | (with_reducible first | exact Aside0.out (by assumption) | apply below_alloc | apply pw_below_drewN | apply below_drew1) | exact Aside0.out (by assumption)))) :
    Calls Tryz.prog 23 #[.slice A0 l0.length c0] w fun e w' => e = .returned (.string r) ∧ Below w.heap.size w w' := by
  unfold lex_Print.f at h
  split at h
  · rename_i hh
    have e := Option.some.inj h
    rw [← e]
    exact Lex.print_calls A0 c0 l0 w hG hr0 hc0 hh.1 hh.2.1 (fun t ht => of_decide_eq_true (List.all_eq_true.1 hh.2.2 t ht))
  · exact nomatch h


/-! ### redactorlaw06_known: function 10 -/
def redactorlaw06_known.f  : Option (Bool) := (lex_Tokens.f (⟨#[99, 108, 97, 115, 115, 32, 60, 85, 48, 48, 52, 49, 62, 59, 37, 120]⟩ : ByteArray)).bind fun bt101 => ((lex_Tokens.f (⟨#[97, 32, 33]⟩ : ByteArray)).bind fun bt106 => (if bt101.2.1 = 0 then (if (bt101.1.length : Int) = 4 then (if 0 < (bt101.1.length : Int) then (if ((rd_T63 bt101.1 0).f0) = 1 then (if ((rd_T63 bt101.1 0).f1).toList = ([99, 108, 97, 115, 115] : List UInt8) then (if 1 < (bt101.1.length : Int) then (if ((rd_T63 bt101.1 1).f0) = 3 then (if ((rd_T63 bt101.1 1).f2) = 65 then (if 2 < (bt101.1.length : Int) then (if ((rd_T63 bt101.1 2).f1).toList = ([59] : List UInt8) then (if 3 < (bt101.1.length : Int) then (if ((rd_T63 bt101.1 3).f0) = 6 then (if bt106.2.1 = 20 then (if bt106.2.2 = 2 then ((lex_Print.f bt101.1).bind fun t117 => (some (t117.toList == ([99, 108, 97, 115, 115, 32, 60, 85, 48, 48, 52, 49, 62, 32, 59, 32, 10] : List UInt8)))) else (some false)) else (some false)) else (some false)) else (none)) else (some false)) else (none)) else (some false)) else (some false)) else (none)) else (some false)) else (some false)) else (none)) else (some false)) else (some false)))
set_option maxHeartbeats 8000000 in
set_option maxRecDepth 100000 in
theorem redactorlaw06_known.calls  (r : Bool) (w : World) (h : redactorlaw06_known.f  = some r) (hG : Lex.Gl w := by first | assumption | exact Lex.Gl.at_below (by assumption) (by repeat (first | (with_reducible first | exact Aside0.out (by assumption) | apply below_alloc | apply pw_below_drewN | apply below_drew1) | exact Aside0.out (by assumption)))) :
    Calls Tryz.prog 10 #[] w fun e w' => e = .returned (.bool r) ∧ Below w.heap.size w w' := by
  have HB := Aside0.mk (Below.refl w.heap.size w)
  have H : ((lex_Tokens.f (⟨#[99, 108, 97, 115, 115, 32, 60, 85, 48, 48, 52, 49, 62, 59, 37, 120]⟩ : ByteArray)).bind fun bt101 => ((lex_Tokens.f (⟨#[97, 32, 33]⟩ : ByteArray)).bind fun bt106 => (if bt101.2.1 = 0 then (if (bt101.1.length : Int) = 4 then (if 0 < (bt101.1.length : Int) then (if ((rd_T63 bt101.1 0).f0) = 1 then (if ((rd_T63 bt101.1 0).f1).toList = ([99, 108, 97, 115, 115] : List UInt8) then (if 1 < (bt101.1.length : Int) then (if ((rd_T63 bt101.1 1).f0) = 3 then (if ((rd_T63 bt101.1 1).f2) = 65 then (if 2 < (bt101.1.length : Int) then (if ((rd_T63 bt101.1 2).f1).toList = ([59] : List UInt8) then (if 3 < (bt101.1.length : Int) then (if ((rd_T63 bt101.1 3).f0) = 6 then (if bt106.2.1 = 20 then (if bt106.2.2 = 2 then ((lex_Print.f bt101.1).bind fun t117 => (some (t117.toList == ([99, 108, 97, 115, 115, 32, 60, 85, 48, 48, 52, 49, 62, 32, 59, 32, 10] : List UInt8)))) else (some false)) else (some false)) else (some false)) else (none)) else (some false)) else (none)) else (some false)) else (some false)) else (none)) else (some false)) else (some false)) else (none)) else (some false)) else (some false)))) = some r := h
  clear h
  replace H := Option.bind_eq_some_iff.mp H
  obtain ⟨⟨t101, t102, t103⟩, A10, H⟩ := H
  replace H : ((lex_Tokens.f (⟨#[97, 32, 33]⟩ : ByteArray)).bind fun bt106 => (if t102 = 0 then (if (t101.length : Int) = 4 then (if 0 < (t101.length : Int) then (if ((rd_T63 t101 0).f0) = 1 then (if ((rd_T63 t101 0).f1).toList = ([99, 108, 97, 115, 115] : List UInt8) then (if 1 < (t101.length : Int) then (if ((rd_T63 t101 1).f0) = 3 then (if ((rd_T63 t101 1).f2) = 65 then (if 2 < (t101.length : Int) then (if ((rd_T63 t101 2).f1).toList = ([59] : List UInt8) then (if 3 < (t101.length : Int) then (if ((rd_T63 t101 3).f0) = 6 then (if bt106.2.1 = 20 then (if bt106.2.2 = 2 then ((lex_Print.f t101).bind fun t117 => (some (t117.toList == ([99, 108, 97, 115, 115, 32, 60, 85, 48, 48, 52, 49, 62, 32, 59, 32, 10] : List UInt8)))) else (some false)) else (some false)) else (some false)) else (none)) else (some false)) else (none)) else (some false)) else (some false)) else (none)) else (some false)) else (some false)) else (none)) else (some false)) else (some false))) = some r := H
  have A1 := Aside0.mk A10
  clear A10
  replace H := Option.bind_eq_some_iff.mp H
  obtain ⟨⟨t106, t107, t108⟩, A20, H⟩ := H
  replace H : (if t102 = 0 then (if (t101.length : Int) = 4 then (if 0 < (t101.length : Int) then (if ((rd_T63 t101 0).f0) = 1 then (if ((rd_T63 t101 0).f1).toList = ([99, 108, 97, 115, 115] : List UInt8) then (if 1 < (t101.length : Int) then (if ((rd_T63 t101 1).f0) = 3 then (if ((rd_T63 t101 1).f2) = 65 then (if 2 < (t101.length : Int) then (if ((rd_T63 t101 2).f1).toList = ([59] : List UInt8) then (if 3 < (t101.length : Int) then (if ((rd_T63 t101 3).f0) = 6 then (if t107 = 20 then (if t108 = 2 then ((lex_Print.f t101).bind fun t117 => (some (t117.toList == ([99, 108, 97, 115, 115, 32, 60, 85, 48, 48, 52, 49, 62, 32, 59, 32, 10] : List UInt8)))) else (some false)) else (some false)) else (some false)) else (none)) else (some false)) else (none)) else (some false)) else (some false)) else (none)) else (some false)) else (some false)) else (none)) else (some false)) else (some false)) = some r := H
  have A2 := Aside0.mk A20
  clear A20
  by_cases c3 : t102 = 0
  · rw [if_pos c3] at H
    have c3b0 : (t102 == 0) = true := beq_iff_eq.mpr c3
    have c3b1 : (t102 != 0) = false := bne_eq_false_iff_eq.mpr c3
    clear c3
    by_cases c4 : (t101.length : Int) = 4
    · rw [if_pos c4] at H
      have c4b0 : ((t101.length : Int) == 4) = true := beq_iff_eq.mpr c4
      have c4b1 : ((t101.length : Int) != 4) = false := bne_eq_false_iff_eq.mpr c4
      clear c4
      by_cases c5 : 0 < (t101.length : Int)
      · rw [if_pos c5] at H
        have c5b0 : decide (0 < (t101.length : Int)) = true := decide_eq_true c5
        have c5b1 : decide (0 < t101.length) = true := decide_eq_true (by omega)
        clear c5
        by_cases c6 : ((rd_T63 t101 0).f0) = 1
        · rw [if_pos c6] at H
          have c6b0 : (((rd_T63 t101 0).f0) == 1) = true := beq_iff_eq.mpr c6
          have c6b1 : (((rd_T63 t101 0).f0) != 1) = false := bne_eq_false_iff_eq.mpr c6
          clear c6
          by_cases c7 : ((rd_T63 t101 0).f1).toList = ([99, 108, 97, 115, 115] : List UInt8)
          · rw [if_pos c7] at H
            have c7b0 : (((rd_T63 t101 0).f1).toList == ([99, 108, 97, 115, 115] : List UInt8)) = true := beq_iff_eq.mpr c7
            have c7b1 : (((rd_T63 t101 0).f1).toList != ([99, 108, 97, 115, 115] : List UInt8)) = false := bne_eq_false_iff_eq.mpr c7
            clear c7
            by_cases c8 : 1 < (t101.length : Int)
            · rw [if_pos c8] at H
              have c8b0 : decide (1 < (t101.length : Int)) = true := decide_eq_true c8
              have c8b1 : decide (1 < t101.length) = true := decide_eq_true (by omega)
              clear c8
              by_cases c9 : ((rd_T63 t101 1).f0) = 3
              · rw [if_pos c9] at H
                have c9b0 : (((rd_T63 t101 1).f0) == 3) = true := beq_iff_eq.mpr c9
                have c9b1 : (((rd_T63 t101 1).f0) != 3) = false := bne_eq_false_iff_eq.mpr c9
                clear c9
                by_cases c10 : ((rd_T63 t101 1).f2) = 65
                · rw [if_pos c10] at H
                  have c10b0 : (((rd_T63 t101 1).f2) == 65) = true := beq_iff_eq.mpr c10
                  have c10b1 : (((rd_T63 t101 1).f2) != 65) = false := bne_eq_false_iff_eq.mpr c10
                  clear c10
                  by_cases c11 : 2 < (t101.length : Int)
                  · rw [if_pos c11] at H
                    have c11b0 : decide (2 < (t101.length : Int)) = true := decide_eq_true c11
                    have c11b1 : decide (2 < t101.length) = true := decide_eq_true (by omega)
                    clear c11
                    by_cases c12 : ((rd_T63 t101 2).f1).toList = ([59] : List UInt8)
                    · rw [if_pos c12] at H
                      have c12b0 : (((rd_T63 t101 2).f1).toList == ([59] : List UInt8)) = true := beq_iff_eq.mpr c12
                      have c12b1 : (((rd_T63 t101 2).f1).toList != ([59] : List UInt8)) = false := bne_eq_false_iff_eq.mpr c12
                      clear c12
                      by_cases c13 : 3 < (t101.length : Int)
                      · rw [if_pos c13] at H
                        have c13b0 : decide (3 < (t101.length : Int)) = true := decide_eq_true c13
                        have c13b1 : decide (3 < t101.length) = true := decide_eq_true (by omega)
                        clear c13
                        by_cases c14 : ((rd_T63 t101 3).f0) = 6
                        · rw [if_pos c14] at H
                          have c14b0 : (((rd_T63 t101 3).f0) == 6) = true := beq_iff_eq.mpr c14
                          have c14b1 : (((rd_T63 t101 3).f0) != 6) = false := bne_eq_false_iff_eq.mpr c14
                          clear c14
                          by_cases c15 : t107 = 20
                          · rw [if_pos c15] at H
                            have c15b0 : (t107 == 20) = true := beq_iff_eq.mpr c15
                            have c15b1 : (t107 != 20) = false := bne_eq_false_iff_eq.mpr c15
                            clear c15
                            by_cases c16 : t108 = 2
                            · rw [if_pos c16] at H
                              have c16b0 : (t108 == 2) = true := beq_iff_eq.mpr c16
                              have c16b1 : (t108 != 2) = false := bne_eq_false_iff_eq.mpr c16
                              clear c16
                              replace H := Option.bind_eq_some_iff.mp H
                              obtain ⟨t117, A170, H⟩ := H
                              replace H : (some (t117.toList == ([99, 108, 97, 115, 115, 32, 60, 85, 48, 48, 52, 49, 62, 32, 59, 32, 10] : List UInt8))) = some r := H
                              have A17 := Aside0.mk A170
                              clear A170
                              obtain rfl := Option.some.inj H
                              go_enter Tryz.func10, Tryz.ntmps10
                              go_wp2_with (first | ((with_reducible refine gate_callee (f := 22) rfl ?_); refine goesL_ (some 8) rfl rfl Tryz.func22 (by kernel_rfl) rfl #[.string (⟨#[99, 108, 97, 115, 115, 32, 60, 85, 48, 48, 52, 49, 62, 59, 37, 120]⟩ : ByteArray)] rfl (by (try simp only [List.map_toArray, List.map_cons, List.map_nil]); first | done | rfl | (simp only [List.length_drop, List.length_take]; rfl)) ?_; (with_reducible refine (lex_Tokens.calls (⟨#[99, 108, 97, 115, 115, 32, 60, 85, 48, 48, 52, 49, 62, 59, 37, 120]⟩ : ByteArray) t101 t102 t103 _ A1.out).mono ?_); rintro e w18 ⟨v104, rfl, ho0, hb⟩; refine ⟨_, rfl, ?_⟩; have n0_ := Aside0.mk (Kd.R_lower ho0 (below_size (by repeat (first | (with_reducible first | exact HB.out | apply below_alloc | apply pw_below_drewN | apply below_drew1) | exact HB.out)))); have n1_ := Aside0.mk (below_step (by repeat (first | (with_reducible first | exact HB.out | apply below_alloc | apply pw_below_drewN | apply below_drew1) | exact HB.out)) hb); clear HB; have HO105 := n0_; have HB := n1_; clear n0_ n1_; (try clear hb); (try clear hb2); (try clear hk); (try clear hi); (try clear ho0)) | ((with_reducible refine gate_callee (f := 22) rfl ?_); refine goesL_ (some 13) rfl rfl Tryz.func22 (by kernel_rfl) rfl #[.string (⟨#[97, 32, 33]⟩ : ByteArray)] rfl (by (try simp only [List.map_toArray, List.map_cons, List.map_nil]); first | done | rfl | (simp only [List.length_drop, List.length_take]; rfl)) ?_; (with_reducible refine (lex_Tokens.calls (⟨#[97, 32, 33]⟩ : ByteArray) t106 t107 t108 _ A2.out).mono ?_); rintro e w19 ⟨v109, rfl, ho0, hb⟩; refine ⟨_, rfl, ?_⟩; have n0_ := Aside0.mk (Kd.R_elder' (by (with_reducible repeat (first | apply Kd.R_alloc | apply Kd.R_drewN | apply Kd.R_drew)); exact HO105.out) (Kd.R_base ho0) hb); have n1_ := Aside0.mk (Kd.R_lower (Kd.R_new' ho0 (Kd.R_lt (by (with_reducible repeat (first | apply Kd.R_alloc | apply Kd.R_drewN | apply Kd.R_drew)); exact HO105.out))) (below_size (by repeat (first | (with_reducible first | exact HB.out | apply below_alloc | apply pw_below_drewN | apply below_drew1) | exact HB.out)))); have n2_ := Aside0.mk (below_step (by repeat (first | (with_reducible first | exact HB.out | apply below_alloc | apply pw_below_drewN | apply below_drew1) | exact HB.out)) hb); clear HO105; clear HB; have HO105 := n0_; have HO110 := n1_; have HB := n2_; clear n0_ n1_ n2_; (try clear hb); (try clear hb2); (try clear hk); (try clear hi); (try clear ho0); obtain ⟨Ao20, co20, eo20⟩ := Kd.R_slice HO105.out; subst eo20; have p111 : 0 ≤ (0 : Int) := (by omega); have q111 : 0 < (t101.length : Int) := of_decide_eq_true (by first | (with_reducible assumption) | assumption); obtain ⟨ad111, e111, hx111_0, hx111_1, hx111_2, hx111_3⟩ := at_T63 (Kd.R_reads' HO105.out).2.2 0 p111 q111; cases e111; have qi111 : (0 < t101.length) = True := eq_true (by omega); (try rw [show ((0 : Int)).toNat = 0 from rfl] at hx111_0); (try rw [show 0 * 4 = 0 from rfl] at hx111_0); (try rw [Addr.add_zero'] at hx111_0); (try rw [show ((0 : Int)).toNat = 0 from rfl] at hx111_1); (try rw [show 0 * 4 = 0 from rfl] at hx111_1); (try rw [Addr.add_zero'] at hx111_1); (try rw [show ((0 : Int)).toNat = 0 from rfl] at hx111_2); (try rw [show 0 * 4 = 0 from rfl] at hx111_2); (try rw [Addr.add_zero'] at hx111_2); (try rw [show ((0 : Int)).toNat = 0 from rfl] at hx111_3); (try rw [show 0 * 4 = 0 from rfl] at hx111_3); (try rw [Addr.add_zero'] at hx111_3); replace p111 := eq_true p111; replace q111 := eq_true q111; have p112 : 0 ≤ (0 : Int) := (by omega); have q112 : 0 < (t101.length : Int) := of_decide_eq_true (by first | (with_reducible assumption) | assumption); obtain ⟨ad112, e112, hx112_0, hx112_1, hx112_2, hx112_3⟩ := at_T63 (Kd.R_reads' HO105.out).2.2 0 p112 q112; obtain rfl : ad111 = ad112 := (by injection e112); have qi112 : (0 < t101.length) = True := eq_true (by omega); (try rw [show ((0 : Int)).toNat = 0 from rfl] at hx112_0); (try rw [show 0 * 4 = 0 from rfl] at hx112_0); (try rw [Addr.add_zero'] at hx112_0); (try rw [show ((0 : Int)).toNat = 0 from rfl] at hx112_1); (try rw [show 0 * 4 = 0 from rfl] at hx112_1); (try rw [Addr.add_zero'] at hx112_1); (try rw [show ((0 : Int)).toNat = 0 from rfl] at hx112_2); (try rw [show 0 * 4 = 0 from rfl] at hx112_2); (try rw [Addr.add_zero'] at hx112_2); (try rw [show ((0 : Int)).toNat = 0 from rfl] at hx112_3); (try rw [show 0 * 4 = 0 from rfl] at hx112_3); (try rw [Addr.add_zero'] at hx112_3); replace p112 := eq_true p112; replace q112 := eq_true q112; have p113 : 0 ≤ (1 : Int) := (by omega); have q113 : 1 < (t101.length : Int) := of_decide_eq_true (by first | (with_reducible assumption) | assumption); obtain ⟨ad113, e113, hx113_0, hx113_1, hx113_2, hx113_3⟩ := at_T63 (Kd.R_reads' HO105.out).2.2 1 p113 q113; obtain rfl : ad111 = ad113 := (by injection e113); (try simp only [show (1 : Int).toNat = 1 from rfl, Nat.reduceMul, Nat.reduceEqDiff, Go.Addr.add, ↓reduceIte] at hx113_0); (try simp only [show (1 : Int).toNat = 1 from rfl, Nat.reduceMul, Nat.reduceEqDiff, Go.Addr.add, ↓reduceIte] at hx113_1); (try simp only [show (1 : Int).toNat = 1 from rfl, Nat.reduceMul, Nat.reduceEqDiff, Go.Addr.add, ↓reduceIte] at hx113_2); (try simp only [show (1 : Int).toNat = 1 from rfl, Nat.reduceMul, Nat.reduceEqDiff, Go.Addr.add, ↓reduceIte] at hx113_3); have qi113 : (1 < t101.length) = True := eq_true (by omega); (try rw [show ((1 : Int)).toNat = 1 from rfl] at hx113_0); (try rw [show 1 * 4 = 4 from rfl] at hx113_0); (try rw [show ((1 : Int)).toNat = 1 from rfl] at hx113_1); (try rw [show 1 * 4 = 4 from rfl] at hx113_1); (try rw [show ((1 : Int)).toNat = 1 from rfl] at hx113_2); (try rw [show 1 * 4 = 4 from rfl] at hx113_2); (try rw [show ((1 : Int)).toNat = 1 from rfl] at hx113_3); (try rw [show 1 * 4 = 4 from rfl] at hx113_3); replace p113 := eq_true p113; replace q113 := eq_true q113; have p114 : 0 ≤ (1 : Int) := (by omega); have q114 : 1 < (t101.length : Int) := of_decide_eq_true (by first | (with_reducible assumption) | assumption); obtain ⟨ad114, e114, hx114_0, hx114_1, hx114_2, hx114_3⟩ := at_T63 (Kd.R_reads' HO105.out).2.2 1 p114 q114; obtain rfl : ad111 = ad114 := (by injection e114); (try simp only [show (1 : Int).toNat = 1 from rfl, Nat.reduceMul, Nat.reduceEqDiff, Go.Addr.add, ↓reduceIte] at hx114_0); (try simp only [show (1 : Int).toNat = 1 from rfl, Nat.reduceMul, Nat.reduceEqDiff, Go.Addr.add, ↓reduceIte] at hx114_1); (try simp only [show (1 : Int).toNat = 1 from rfl, Nat.reduceMul, Nat.reduceEqDiff, Go.Addr.add, ↓reduceIte] at hx114_2); (try simp only [show (1 : Int).toNat = 1 from rfl, Nat.reduceMul, Nat.reduceEqDiff, Go.Addr.add, ↓reduceIte] at hx114_3); have qi114 : (1 < t101.length) = True := eq_true (by omega); (try rw [show ((1 : Int)).toNat = 1 from rfl] at hx114_0); (try rw [show 1 * 4 = 4 from rfl] at hx114_0); (try rw [show ((1 : Int)).toNat = 1 from rfl] at hx114_1); (try rw [show 1 * 4 = 4 from rfl] at hx114_1); (try rw [show ((1 : Int)).toNat = 1 from rfl] at hx114_2); (try rw [show 1 * 4 = 4 from rfl] at hx114_2); (try rw [show ((1 : Int)).toNat = 1 from rfl] at hx114_3); (try rw [show 1 * 4 = 4 from rfl] at hx114_3); replace p114 := eq_true p114; replace q114 := eq_true q114; have p115 : 0 ≤ (2 : Int) := (by omega); have q115 : 2 < (t101.length : Int) := of_decide_eq_true (by first | (with_reducible assumption) | assumption); obtain ⟨ad115, e115, hx115_0, hx115_1, hx115_2, hx115_3⟩ := at_T63 (Kd.R_reads' HO105.out).2.2 2 p115 q115; obtain rfl : ad111 = ad115 := (by injection e115); (try simp only [show (2 : Int).toNat = 2 from rfl, Nat.reduceMul, Nat.reduceEqDiff, Go.Addr.add, ↓reduceIte] at hx115_0); (try simp only [show (2 : Int).toNat = 2 from rfl, Nat.reduceMul, Nat.reduceEqDiff, Go.Addr.add, ↓reduceIte] at hx115_1); (try simp only [show (2 : Int).toNat = 2 from rfl, Nat.reduceMul, Nat.reduceEqDiff, Go.Addr.add, ↓reduceIte] at hx115_2); (try simp only [show (2 : Int).toNat = 2 from rfl, Nat.reduceMul, Nat.reduceEqDiff, Go.Addr.add, ↓reduceIte] at hx115_3); have qi115 : (2 < t101.length) = True := eq_true (by omega); (try rw [show ((2 : Int)).toNat = 2 from rfl] at hx115_0); (try rw [show 2 * 4 = 8 from rfl] at hx115_0); (try rw [show ((2 : Int)).toNat = 2 from rfl] at hx115_1); (try rw [show 2 * 4 = 8 from rfl] at hx115_1); (try rw [show ((2 : Int)).toNat = 2 from rfl] at hx115_2); (try rw [show 2 * 4 = 8 from rfl] at hx115_2); (try rw [show ((2 : Int)).toNat = 2 from rfl] at hx115_3); (try rw [show 2 * 4 = 8 from rfl] at hx115_3); replace p115 := eq_true p115; replace q115 := eq_true q115; have p116 : 0 ≤ (3 : Int) := (by omega); have q116 : 3 < (t101.length : Int) := of_decide_eq_true (by first | (with_reducible assumption) | assumption); obtain ⟨ad116, e116, hx116_0, hx116_1, hx116_2, hx116_3⟩ := at_T63 (Kd.R_reads' HO105.out).2.2 3 p116 q116; obtain rfl : ad111 = ad116 := (by injection e116); (try simp only [show (3 : Int).toNat = 3 from rfl, Nat.reduceMul, Nat.reduceEqDiff, Go.Addr.add, ↓reduceIte] at hx116_0); (try simp only [show (3 : Int).toNat = 3 from rfl, Nat.reduceMul, Nat.reduceEqDiff, Go.Addr.add, ↓reduceIte] at hx116_1); (try simp only [show (3 : Int).toNat = 3 from rfl, Nat.reduceMul, Nat.reduceEqDiff, Go.Addr.add, ↓reduceIte] at hx116_2); (try simp only [show (3 : Int).toNat = 3 from rfl, Nat.reduceMul, Nat.reduceEqDiff, Go.Addr.add, ↓reduceIte] at hx116_3); have qi116 : (3 < t101.length) = True := eq_true (by omega); (try rw [show ((3 : Int)).toNat = 3 from rfl] at hx116_0); (try rw [show 3 * 4 = 12 from rfl] at hx116_0); (try rw [show ((3 : Int)).toNat = 3 from rfl] at hx116_1); (try rw [show 3 * 4 = 12 from rfl] at hx116_1); (try rw [show ((3 : Int)).toNat = 3 from rfl] at hx116_2); (try rw [show 3 * 4 = 12 from rfl] at hx116_2); (try rw [show ((3 : Int)).toNat = 3 from rfl] at hx116_3); (try rw [show 3 * 4 = 12 from rfl] at hx116_3); replace p116 := eq_true p116; replace q116 := eq_true q116) | (go_at_call 23; (with_reducible refine (lex_Print.calls _ _ t101 t117 _ ?side1 ?side2 A17.out).mono ?_); (case side1 => repeat (first | exact (Kd.R_reads' HO105.out).2.2 | (with_reducible refine Kd.C_alloc ?_ _) | (with_reducible refine Kd.C_drewN ?_ _) | (with_reducible refine Kd.C_drew ?_))); (case side2 => exact (Kd.R_reads' HO105.out).2.1); rintro e w21 ⟨rfl, hb⟩; have n0_ := Aside0.mk (Kd.R_below (by (with_reducible repeat (first | apply Kd.R_alloc | apply Kd.R_drewN | apply Kd.R_drew)); exact HO105.out) hb); have n1_ := Aside0.mk (Kd.R_below (by (with_reducible repeat (first | apply Kd.R_alloc | apply Kd.R_drewN | apply Kd.R_drew)); exact HO110.out) hb); have n2_ := Aside0.mk (below_step (by repeat (first | (with_reducible first | exact HB.out | apply below_alloc | apply pw_below_drewN | apply below_drew1) | exact HB.out)) hb); clear HO105; clear HO110; clear HB; have HO105 := n0_; have HO110 := n1_; have HB := n2_; clear n0_ n1_ n2_; (try clear hb); (try clear hb2); (try clear hk); (try clear hi)))
                              go_ret
                              exact ⟨by first | rfl | (simp [errW_none, errW_some] <;> rfl) | (simp [*, errW_none, errW_some] <;> rfl), by repeat (first | (with_reducible first | exact HB.out | apply below_alloc | apply pw_below_drewN | apply below_drew1) | exact HB.out)⟩
                            · rw [if_neg c16] at H
                              have c16b0 : (t108 == 2) = false := beq_eq_false_iff_ne.mpr c16
                              have c16b1 : (t108 != 2) = true := bne_iff_ne.mpr c16
                              obtain rfl := Option.some.inj H
                              go_enter Tryz.func10, Tryz.ntmps10
                              go_wp2_with (first | ((with_reducible refine gate_callee (f := 22) rfl ?_); refine goesL_ (some 8) rfl rfl Tryz.func22 (by kernel_rfl) rfl #[.string (⟨#[99, 108, 97, 115, 115, 32, 60, 85, 48, 48, 52, 49, 62, 59, 37, 120]⟩ : ByteArray)] rfl (by (try simp only [List.map_toArray, List.map_cons, List.map_nil]); first | done | rfl | (simp only [List.length_drop, List.length_take]; rfl)) ?_; (with_reducible refine (lex_Tokens.calls (⟨#[99, 108, 97, 115, 115, 32, 60, 85, 48, 48, 52, 49, 62, 59, 37, 120]⟩ : ByteArray) t101 t102 t103 _ A1.out).mono ?_); rintro e w22 ⟨v104, rfl, ho0, hb⟩; refine ⟨_, rfl, ?_⟩; have n0_ := Aside0.mk (Kd.R_lower ho0 (below_size (by repeat (first | (with_reducible first | exact HB.out | apply below_alloc | apply pw_below_drewN | apply below_drew1) | exact HB.out)))); have n1_ := Aside0.mk (below_step (by repeat (first | (with_reducible first | exact HB.out | apply below_alloc | apply pw_below_drewN | apply below_drew1) | exact HB.out)) hb); clear HB; have HO105 := n0_; have HB := n1_; clear n0_ n1_; (try clear hb); (try clear hb2); (try clear hk); (try clear hi); (try clear ho0)) | ((with_reducible refine gate_callee (f := 22) rfl ?_); refine goesL_ (some 13) rfl rfl Tryz.func22 (by kernel_rfl) rfl #[.string (⟨#[97, 32, 33]⟩ : ByteArray)] rfl (by (try simp only [List.map_toArray, List.map_cons, List.map_nil]); first | done | rfl | (simp only [List.length_drop, List.length_take]; rfl)) ?_; (with_reducible refine (lex_Tokens.calls (⟨#[97, 32, 33]⟩ : ByteArray) t106 t107 t108 _ A2.out).mono ?_); rintro e w23 ⟨v109, rfl, ho0, hb⟩; refine ⟨_, rfl, ?_⟩; have n0_ := Aside0.mk (Kd.R_elder' (by (with_reducible repeat (first | apply Kd.R_alloc | apply Kd.R_drewN | apply Kd.R_drew)); exact HO105.out) (Kd.R_base ho0) hb); have n1_ := Aside0.mk (Kd.R_lower (Kd.R_new' ho0 (Kd.R_lt (by (with_reducible repeat (first | apply Kd.R_alloc | apply Kd.R_drewN | apply Kd.R_drew)); exact HO105.out))) (below_size (by repeat (first | (with_reducible first | exact HB.out | apply below_alloc | apply pw_below_drewN | apply below_drew1) | exact HB.out)))); have n2_ := Aside0.mk (below_step (by repeat (first | (with_reducible first | exact HB.out | apply below_alloc | apply pw_below_drewN | apply below_drew1) | exact HB.out)) hb); clear HO105; clear HB; have HO105 := n0_; have HO110 := n1_; have HB := n2_; clear n0_ n1_ n2_; (try clear hb); (try clear hb2); (try clear hk); (try clear hi); (try clear ho0); obtain ⟨Ao24, co24, eo24⟩ := Kd.R_slice HO105.out; subst eo24; have p111 : 0 ≤ (0 : Int) := (by omega); have q111 : 0 < (t101.length : Int) := of_decide_eq_true (by first | (with_reducible assumption) | assumption); obtain ⟨ad111, e111, hx111_0, hx111_1, hx111_2, hx111_3⟩ := at_T63 (Kd.R_reads' HO105.out).2.2 0 p111 q111; cases e111; have qi111 : (0 < t101.length) = True := eq_true (by omega); (try rw [show ((0 : Int)).toNat = 0 from rfl] at hx111_0); (try rw [show 0 * 4 = 0 from rfl] at hx111_0); (try rw [Addr.add_zero'] at hx111_0); (try rw [show ((0 : Int)).toNat = 0 from rfl] at hx111_1); (try rw [show 0 * 4 = 0 from rfl] at hx111_1); (try rw [Addr.add_zero'] at hx111_1); (try rw [show ((0 : Int)).toNat = 0 from rfl] at hx111_2); (try rw [show 0 * 4 = 0 from rfl] at hx111_2); (try rw [Addr.add_zero'] at hx111_2); (try rw [show ((0 : Int)).toNat = 0 from rfl] at hx111_3); (try rw [show 0 * 4 = 0 from rfl] at hx111_3); (try rw [Addr.add_zero'] at hx111_3); replace p111 := eq_true p111; replace q111 := eq_true q111; have p112 : 0 ≤ (0 : Int) := (by omega); have q112 : 0 < (t101.length : Int) := of_decide_eq_true (by first | (with_reducible assumption) | assumption); obtain ⟨ad112, e112, hx112_0, hx112_1, hx112_2, hx112_3⟩ := at_T63 (Kd.R_reads' HO105.out).2.2 0 p112 q112; obtain rfl : ad111 = ad112 := (by injection e112); have qi112 : (0 < t101.length) = True := eq_true (by omega); (try rw [show ((0 : Int)).toNat = 0 from rfl] at hx112_0); (try rw [show 0 * 4 = 0 from rfl] at hx112_0); (try rw [Addr.add_zero'] at hx112_0); (try rw [show ((0 : Int)).toNat = 0 from rfl] at hx112_1); (try rw [show 0 * 4 = 0 from rfl] at hx112_1); (try rw [Addr.add_zero'] at hx112_1); (try rw [show ((0 : Int)).toNat = 0 from rfl] at hx112_2); (try rw [show 0 * 4 = 0 from rfl] at hx112_2); (try rw [Addr.add_zero'] at hx112_2); (try rw [show ((0 : Int)).toNat = 0 from rfl] at hx112_3); (try rw [show 0 * 4 = 0 from rfl] at hx112_3); (try rw [Addr.add_zero'] at hx112_3); replace p112 := eq_true p112; replace q112 := eq_true q112; have p113 : 0 ≤ (1 : Int) := (by omega); have q113 : 1 < (t101.length : Int) := of_decide_eq_true (by first | (with_reducible assumption) | assumption); obtain ⟨ad113, e113, hx113_0, hx113_1, hx113_2, hx113_3⟩ := at_T63 (Kd.R_reads' HO105.out).2.2 1 p113 q113; obtain rfl : ad111 = ad113 := (by injection e113); (try simp only [show (1 : Int).toNat = 1 from rfl, Nat.reduceMul, Nat.reduceEqDiff, Go.Addr.add, ↓reduceIte] at hx113_0); (try simp only [show (1 : Int).toNat = 1 from rfl, Nat.reduceMul, Nat.reduceEqDiff, Go.Addr.add, ↓reduceIte] at hx113_1); (try simp only [show (1 : Int).toNat = 1 from rfl, Nat.reduceMul, Nat.reduceEqDiff, Go.Addr.add, ↓reduceIte] at hx113_2); (try simp only [show (1 : Int).toNat = 1 from rfl, Nat.reduceMul, Nat.reduceEqDiff, Go.Addr.add, ↓reduceIte] at hx113_3); have qi113 : (1 < t101.length) = True := eq_true (by omega); (try rw [show ((1 : Int)).toNat = 1 from rfl] at hx113_0); (try rw [show 1 * 4 = 4 from rfl] at hx113_0); (try rw [show ((1 : Int)).toNat = 1 from rfl] at hx113_1); (try rw [show 1 * 4 = 4 from rfl] at hx113_1); (try rw [show ((1 : Int)).toNat = 1 from rfl] at hx113_2); (try rw [show 1 * 4 = 4 from rfl] at hx113_2); (try rw [show ((1 : Int)).toNat = 1 from rfl] at hx113_3); (try rw [show 1 * 4 = 4 from rfl] at hx113_3); replace p113 := eq_true p113; replace q113 := eq_true q113; have p114 : 0 ≤ (1 : Int) := (by omega); have q114 : 1 < (t101.length : Int) := of_decide_eq_true (by first | (with_reducible assumption) | assumption); obtain ⟨ad114, e114, hx114_0, hx114_1, hx114_2, hx114_3⟩ := at_T63 (Kd.R_reads' HO105.out).2.2 1 p114 q114; obtain rfl : ad111 = ad114 := (by injection e114); (try simp only [show (1 : Int).toNat = 1 from rfl, Nat.reduceMul, Nat.reduceEqDiff, Go.Addr.add, ↓reduceIte] at hx114_0); (try simp only [show (1 : Int).toNat = 1 from rfl, Nat.reduceMul, Nat.reduceEqDiff, Go.Addr.add, ↓reduceIte] at hx114_1); (try simp only [show (1 : Int).toNat = 1 from rfl, Nat.reduceMul, Nat.reduceEqDiff, Go.Addr.add, ↓reduceIte] at hx114_2); (try simp only [show (1 : Int).toNat = 1 from rfl, Nat.reduceMul, Nat.reduceEqDiff, Go.Addr.add, ↓reduceIte] at hx114_3); have qi114 : (1 < t101.length) = True := eq_true (by omega); (try rw [show ((1 : Int)).toNat = 1 from rfl] at hx114_0); (try rw [show 1 * 4 = 4 from rfl] at hx114_0); (try rw [show ((1 : Int)).toNat = 1 from rfl] at hx114_1); (try rw [show 1 * 4 = 4 from rfl] at hx114_1); (try rw [show ((1 : Int)).toNat = 1 from rfl] at hx114_2); (try rw [show 1 * 4 = 4 from rfl] at hx114_2); (try rw [show ((1 : Int)).toNat = 1 from rfl] at hx114_3); (try rw [show 1 * 4 = 4 from rfl] at hx114_3); replace p114 := eq_true p114; replace q114 := eq_true q114; have p115 : 0 ≤ (2 : Int) := (by omega); have q115 : 2 < (t101.length : Int) := of_decide_eq_true (by first | (with_reducible assumption) | assumption); obtain ⟨ad115, e115, hx115_0, hx115_1, hx115_2, hx115_3⟩ := at_T63 (Kd.R_reads' HO105.out).2.2 2 p115 q115; obtain rfl : ad111 = ad115 := (by injection e115); (try simp only [show (2 : Int).toNat = 2 from rfl, Nat.reduceMul, Nat.reduceEqDiff, Go.Addr.add, ↓reduceIte] at hx115_0); (try simp only [show (2 : Int).toNat = 2 from rfl, Nat.reduceMul, Nat.reduceEqDiff, Go.Addr.add, ↓reduceIte] at hx115_1); (try simp only [show (2 : Int).toNat = 2 from rfl, Nat.reduceMul, Nat.reduceEqDiff, Go.Addr.add, ↓reduceIte] at hx115_2); (try simp only [show (2 : Int).toNat = 2 from rfl, Nat.reduceMul, Nat.reduceEqDiff, Go.Addr.add, ↓reduceIte] at hx115_3); have qi115 : (2 < t101.length) = True := eq_true (by omega); (try rw [show ((2 : Int)).toNat = 2 from rfl] at hx115_0); (try rw [show 2 * 4 = 8 from rfl] at hx115_0); (try rw [show ((2 : Int)).toNat = 2 from rfl] at hx115_1); (try rw [show 2 * 4 = 8 from rfl] at hx115_1); (try rw [show ((2 : Int)).toNat = 2 from rfl] at hx115_2); (try rw [show 2 * 4 = 8 from rfl] at hx115_2); (try rw [show ((2 : Int)).toNat = 2 from rfl] at hx115_3); (try rw [show 2 * 4 = 8 from rfl] at hx115_3); replace p115 := eq_true p115; replace q115 := eq_true q115; have p116 : 0 ≤ (3 : Int) := (by omega); have q116 : 3 < (t101.length : Int) := of_decide_eq_true (by first | (with_reducible assumption) | assumption); obtain ⟨ad116, e116, hx116_0, hx116_1, hx116_2, hx116_3⟩ := at_T63 (Kd.R_reads' HO105.out).2.2 3 p116 q116; obtain rfl : ad111 = ad116 := (by injection e116); (try simp only [show (3 : Int).toNat = 3 from rfl, Nat.reduceMul, Nat.reduceEqDiff, Go.Addr.add, ↓reduceIte] at hx116_0); (try simp only [show (3 : Int).toNat = 3 from rfl, Nat.reduceMul, Nat.reduceEqDiff, Go.Addr.add, ↓reduceIte] at hx116_1); (try simp only [show (3 : Int).toNat = 3 from rfl, Nat.reduceMul, Nat.reduceEqDiff, Go.Addr.add, ↓reduceIte] at hx116_2); (try simp only [show (3 : Int).toNat = 3 from rfl, Nat.reduceMul, Nat.reduceEqDiff, Go.Addr.add, ↓reduceIte] at hx116_3); have qi116 : (3 < t101.length) = True := eq_true (by omega); (try rw [show ((3 : Int)).toNat = 3 from rfl] at hx116_0); (try rw [show 3 * 4 = 12 from rfl] at hx116_0); (try rw [show ((3 : Int)).toNat = 3 from rfl] at hx116_1); (try rw [show 3 * 4 = 12 from rfl] at hx116_1); (try rw [show ((3 : Int)).toNat = 3 from rfl] at hx116_2); (try rw [show 3 * 4 = 12 from rfl] at hx116_2); (try rw [show ((3 : Int)).toNat = 3 from rfl] at hx116_3); (try rw [show 3 * 4 = 12 from rfl] at hx116_3); replace p116 := eq_true p116; replace q116 := eq_true q116))
                              go_ret
                              exact ⟨by first | rfl | (simp [errW_none, errW_some] <;> rfl) | (simp [*, errW_none, errW_some] <;> rfl), by repeat (first | (with_reducible first | exact HB.out | apply below_alloc | apply pw_below_drewN | apply below_drew1) | exact HB.out)⟩
                          · rw [if_neg c15] at H
                            have c15b0 : (t107 == 20) = false := beq_eq_false_iff_ne.mpr c15
                            have c15b1 : (t107 != 20) = true := bne_iff_ne.mpr c15
                            obtain rfl := Option.some.inj H
                            go_enter Tryz.func10, Tryz.ntmps10
                            go_wp2_with (first | ((with_reducible refine gate_callee (f := 22) rfl ?_); refine goesL_ (some 8) rfl rfl Tryz.func22 (by kernel_rfl) rfl #[.string (⟨#[99, 108, 97, 115, 115, 32, 60, 85, 48, 48, 52, 49, 62, 59, 37, 120]⟩ : ByteArray)] rfl (by (try simp only [List.map_toArray, List.map_cons, List.map_nil]); first | done | rfl | (simp only [List.length_drop, List.length_take]; rfl)) ?_; (with_reducible refine (lex_Tokens.calls (⟨#[99, 108, 97, 115, 115, 32, 60, 85, 48, 48, 52, 49, 62, 59, 37, 120]⟩ : ByteArray) t101 t102 t103 _ A1.out).mono ?_); rintro e w25 ⟨v104, rfl, ho0, hb⟩; refine ⟨_, rfl, ?_⟩; have n0_ := Aside0.mk (Kd.R_lower ho0 (below_size (by repeat (first | (with_reducible first | exact HB.out | apply below_alloc | apply pw_below_drewN | apply below_drew1) | exact HB.out)))); have n1_ := Aside0.mk (below_step (by repeat (first | (with_reducible first | exact HB.out | apply below_alloc | apply pw_below_drewN | apply below_drew1) | exact HB.out)) hb); clear HB; have HO105 := n0_; have HB := n1_; clear n0_ n1_; (try clear hb); (try clear hb2); (try clear hk); (try clear hi); (try clear ho0)) | ((with_reducible refine gate_callee (f := 22) rfl ?_); refine goesL_ (some 13) rfl rfl Tryz.func22 (by kernel_rfl) rfl #[.string (⟨#[97, 32, 33]⟩ : ByteArray)] rfl (by (try simp only [List.map_toArray, List.map_cons, List.map_nil]); first | done | rfl | (simp only [List.length_drop, List.length_take]; rfl)) ?_; (with_reducible refine (lex_Tokens.calls (⟨#[97, 32, 33]⟩ : ByteArray) t106 t107 t108 _ A2.out).mono ?_); rintro e w26 ⟨v109, rfl, ho0, hb⟩; refine ⟨_, rfl, ?_⟩; have n0_ := Aside0.mk (Kd.R_elder' (by (with_reducible repeat (first | apply Kd.R_alloc | apply Kd.R_drewN | apply Kd.R_drew)); exact HO105.out) (Kd.R_base ho0) hb); have n1_ := Aside0.mk (Kd.R_lower (Kd.R_new' ho0 (Kd.R_lt (by (with_reducible repeat (first | apply Kd.R_alloc | apply Kd.R_drewN | apply Kd.R_drew)); exact HO105.out))) (below_size (by repeat (first | (with_reducible first | exact HB.out | apply below_alloc | apply pw_below_drewN | apply below_drew1) | exact HB.out)))); have n2_ := Aside0.mk (below_step (by repeat (first | (with_reducible first | exact HB.out | apply below_alloc | apply pw_below_drewN | apply below_drew1) | exact HB.out)) hb); clear HO105; clear HB; have HO105 := n0_; have HO110 := n1_; have HB := n2_; clear n0_ n1_ n2_; (try clear hb); (try clear hb2); (try clear hk); (try clear hi); (try clear ho0); obtain ⟨Ao27, co27, eo27⟩ := Kd.R_slice HO105.out; subst eo27; have p111 : 0 ≤ (0 : Int) := (by omega); have q111 : 0 < (t101.length : Int) := of_decide_eq_true (by first | (with_reducible assumption) | assumption); obtain ⟨ad111, e111, hx111_0, hx111_1, hx111_2, hx111_3⟩ := at_T63 (Kd.R_reads' HO105.out).2.2 0 p111 q111; cases e111; have qi111 : (0 < t101.length) = True := eq_true (by omega); (try rw [show ((0 : Int)).toNat = 0 from rfl] at hx111_0); (try rw [show 0 * 4 = 0 from rfl] at hx111_0); (try rw [Addr.add_zero'] at hx111_0); (try rw [show ((0 : Int)).toNat = 0 from rfl] at hx111_1); (try rw [show 0 * 4 = 0 from rfl] at hx111_1); (try rw [Addr.add_zero'] at hx111_1); (try rw [show ((0 : Int)).toNat = 0 from rfl] at hx111_2); (try rw [show 0 * 4 = 0 from rfl] at hx111_2); (try rw [Addr.add_zero'] at hx111_2); (try rw [show ((0 : Int)).toNat = 0 from rfl] at hx111_3); (try rw [show 0 * 4 = 0 from rfl] at hx111_3); (try rw [Addr.add_zero'] at hx111_3); replace p111 := eq_true p111; replace q111 := eq_true q111; have p112 : 0 ≤ (0 : Int) := (by omega); have q112 : 0 < (t101.length : Int) := of_decide_eq_true (by first | (with_reducible assumption) | assumption); obtain ⟨ad112, e112, hx112_0, hx112_1, hx112_2, hx112_3⟩ := at_T63 (Kd.R_reads' HO105.out).2.2 0 p112 q112; obtain rfl : ad111 = ad112 := (by injection e112); have qi112 : (0 < t101.length) = True := eq_true (by omega); (try rw [show ((0 : Int)).toNat = 0 from rfl] at hx112_0); (try rw [show 0 * 4 = 0 from rfl] at hx112_0); (try rw [Addr.add_zero'] at hx112_0); (try rw [show ((0 : Int)).toNat = 0 from rfl] at hx112_1); (try rw [show 0 * 4 = 0 from rfl] at hx112_1); (try rw [Addr.add_zero'] at hx112_1); (try rw [show ((0 : Int)).toNat = 0 from rfl] at hx112_2); (try rw [show 0 * 4 = 0 from rfl] at hx112_2); (try rw [Addr.add_zero'] at hx112_2); (try rw [show ((0 : Int)).toNat = 0 from rfl] at hx112_3); (try rw [show 0 * 4 = 0 from rfl] at hx112_3); (try rw [Addr.add_zero'] at hx112_3); replace p112 := eq_true p112; replace q112 := eq_true q112; have p113 : 0 ≤ (1 : Int) := (by omega); have q113 : 1 < (t101.length : Int) := of_decide_eq_true (by first | (with_reducible assumption) | assumption); obtain ⟨ad113, e113, hx113_0, hx113_1, hx113_2, hx113_3⟩ := at_T63 (Kd.R_reads' HO105.out).2.2 1 p113 q113; obtain rfl : ad111 = ad113 := (by injection e113); (try simp only [show (1 : Int).toNat = 1 from rfl, Nat.reduceMul, Nat.reduceEqDiff, Go.Addr.add, ↓reduceIte] at hx113_0); (try simp only [show (1 : Int).toNat = 1 from rfl, Nat.reduceMul, Nat.reduceEqDiff, Go.Addr.add, ↓reduceIte] at hx113_1); (try simp only [show (1 : Int).toNat = 1 from rfl, Nat.reduceMul, Nat.reduceEqDiff, Go.Addr.add, ↓reduceIte] at hx113_2); (try simp only [show (1 : Int).toNat = 1 from rfl, Nat.reduceMul, Nat.reduceEqDiff, Go.Addr.add, ↓reduceIte] at hx113_3); have qi113 : (1 < t101.length) = True := eq_true (by omega); (try rw [show ((1 : Int)).toNat = 1 from rfl] at hx113_0); (try rw [show 1 * 4 = 4 from rfl] at hx113_0); (try rw [show ((1 : Int)).toNat = 1 from rfl] at hx113_1); (try rw [show 1 * 4 = 4 from rfl] at hx113_1); (try rw [show ((1 : Int)).toNat = 1 from rfl] at hx113_2); (try rw [show 1 * 4 = 4 from rfl] at hx113_2); (try rw [show ((1 : Int)).toNat = 1 from rfl] at hx113_3); (try rw [show 1 * 4 = 4 from rfl] at hx113_3); replace p113 := eq_true p113; replace q113 := eq_true q113; have p114 : 0 ≤ (1 : Int) := (by omega); have q114 : 1 < (t101.length : Int) := of_decide_eq_true (by first | (with_reducible assumption) | assumption); obtain ⟨ad114, e114, hx114_0, hx114_1, hx114_2, hx114_3⟩ := at_T63 (Kd.R_reads' HO105.out).2.2 1 p114 q114; obtain rfl : ad111 = ad114 := (by injection e114); (try simp only [show (1 : Int).toNat = 1 from rfl, Nat.reduceMul, Nat.reduceEqDiff, Go.Addr.add, ↓reduceIte] at hx114_0); (try simp only [show (1 : Int).toNat = 1 from rfl, Nat.reduceMul, Nat.reduceEqDiff, Go.Addr.add, ↓reduceIte] at hx114_1); (try simp only [show (1 : Int).toNat = 1 from rfl, Nat.reduceMul, Nat.reduceEqDiff, Go.Addr.add, ↓reduceIte] at hx114_2); (try simp only [show (1 : Int).toNat = 1 from rfl, Nat.reduceMul, Nat.reduceEqDiff, Go.Addr.add, ↓reduceIte] at hx114_3); have qi114 : (1 < t101.length) = True := eq_true (by omega); (try rw [show ((1 : Int)).toNat = 1 from rfl] at hx114_0); (try rw [show 1 * 4 = 4 from rfl] at hx114_0); (try rw [show ((1 : Int)).toNat = 1 from rfl] at hx114_1); (try rw [show 1 * 4 = 4 from rfl] at hx114_1); (try rw [show ((1 : Int)).toNat = 1 from rfl] at hx114_2); (try rw [show 1 * 4 = 4 from rfl] at hx114_2); (try rw [show ((1 : Int)).toNat = 1 from rfl] at hx114_3); (try rw [show 1 * 4 = 4 from rfl] at hx114_3); replace p114 := eq_true p114; replace q114 := eq_true q114; have p115 : 0 ≤ (2 : Int) := (by omega); have q115 : 2 < (t101.length : Int) := of_decide_eq_true (by first | (with_reducible assumption) | assumption); obtain ⟨ad115, e115, hx115_0, hx115_1, hx115_2, hx115_3⟩ := at_T63 (Kd.R_reads' HO105.out).2.2 2 p115 q115; obtain rfl : ad111 = ad115 := (by injection e115); (try simp only [show (2 : Int).toNat = 2 from rfl, Nat.reduceMul, Nat.reduceEqDiff, Go.Addr.add, ↓reduceIte] at hx115_0); (try simp only [show (2 : Int).toNat = 2 from rfl, Nat.reduceMul, Nat.reduceEqDiff, Go.Addr.add, ↓reduceIte] at hx115_1); (try simp only [show (2 : Int).toNat = 2 from rfl, Nat.reduceMul, Nat.reduceEqDiff, Go.Addr.add, ↓reduceIte] at hx115_2); (try simp only [show (2 : Int).toNat = 2 from rfl, Nat.reduceMul, Nat.reduceEqDiff, Go.Addr.add, ↓reduceIte] at hx115_3); have qi115 : (2 < t101.length) = True := eq_true (by omega); (try rw [show ((2 : Int)).toNat = 2 from rfl] at hx115_0); (try rw [show 2 * 4 = 8 from rfl] at hx115_0); (try rw [show ((2 : Int)).toNat = 2 from rfl] at hx115_1); (try rw [show 2 * 4 = 8 from rfl] at hx115_1); (try rw [show ((2 : Int)).toNat = 2 from rfl] at hx115_2); (try rw [show 2 * 4 = 8 from rfl] at hx115_2); (try rw [show ((2 : Int)).toNat = 2 from rfl] at hx115_3); (try rw [show 2 * 4 = 8 from rfl] at hx115_3); replace p115 := eq_true p115; replace q115 := eq_true q115; have p116 : 0 ≤ (3 : Int) := (by omega); have q116 : 3 < (t101.length : Int) := of_decide_eq_true (by first | (with_reducible assumption) | assumption); obtain ⟨ad116, e116, hx116_0, hx116_1, hx116_2, hx116_3⟩ := at_T63 (Kd.R_reads' HO105.out).2.2 3 p116 q116; obtain rfl : ad111 = ad116 := (by injection e116); (try simp only [show (3 : Int).toNat = 3 from rfl, Nat.reduceMul, Nat.reduceEqDiff, Go.Addr.add, ↓reduceIte] at hx116_0); (try simp only [show (3 : Int).toNat = 3 from rfl, Nat.reduceMul, Nat.reduceEqDiff, Go.Addr.add, ↓reduceIte] at hx116_1); (try simp only [show (3 : Int).toNat = 3 from rfl, Nat.reduceMul, Nat.reduceEqDiff, Go.Addr.add, ↓reduceIte] at hx116_2); (try simp only [show (3 : Int).toNat = 3 from rfl, Nat.reduceMul, Nat.reduceEqDiff, Go.Addr.add, ↓reduceIte] at hx116_3); have qi116 : (3 < t101.length) = True := eq_true (by omega); (try rw [show ((3 : Int)).toNat = 3 from rfl] at hx116_0); (try rw [show 3 * 4 = 12 from rfl] at hx116_0); (try rw [show ((3 : Int)).toNat = 3 from rfl] at hx116_1); (try rw [show 3 * 4 = 12 from rfl] at hx116_1); (try rw [show ((3 : Int)).toNat = 3 from rfl] at hx116_2); (try rw [show 3 * 4 = 12 from rfl] at hx116_2); (try rw [show ((3 : Int)).toNat = 3 from rfl] at hx116_3); (try rw [show 3 * 4 = 12 from rfl] at hx116_3); replace p116 := eq_true p116; replace q116 := eq_true q116))
                            go_ret
                            exact ⟨by first | rfl | (simp [errW_none, errW_some] <;> rfl) | (simp [*, errW_none, errW_some] <;> rfl), by repeat (first | (with_reducible first | exact HB.out | apply below_alloc | apply pw_below_drewN | apply below_drew1) | exact HB.out)⟩
                        · rw [if_neg c14] at H
                          have c14b0 : (((rd_T63 t101 3).f0) == 6) = false := beq_eq_false_iff_ne.mpr c14
                          have c14b1 : (((rd_T63 t101 3).f0) != 6) = true := bne_iff_ne.mpr c14
                          obtain rfl := Option.some.inj H
                          go_enter Tryz.func10, Tryz.ntmps10
                          go_wp2_with (first | ((with_reducible refine gate_callee (f := 22) rfl ?_); refine goesL_ (some 8) rfl rfl Tryz.func22 (by kernel_rfl) rfl #[.string (⟨#[99, 108, 97, 115, 115, 32, 60, 85, 48, 48, 52, 49, 62, 59, 37, 120]⟩ : ByteArray)] rfl (by (try simp only [List.map_toArray, List.map_cons, List.map_nil]); first | done | rfl | (simp only [List.length_drop, List.length_take]; rfl)) ?_; (with_reducible refine (lex_Tokens.calls (⟨#[99, 108, 97, 115, 115, 32, 60, 85, 48, 48, 52, 49, 62, 59, 37, 120]⟩ : ByteArray) t101 t102 t103 _ A1.out).mono ?_); rintro e w28 ⟨v104, rfl, ho0, hb⟩; refine ⟨_, rfl, ?_⟩; have n0_ := Aside0.mk (Kd.R_lower ho0 (below_size (by repeat (first | (with_reducible first | exact HB.out | apply below_alloc | apply pw_below_drewN | apply below_drew1) | exact HB.out)))); have n1_ := Aside0.mk (below_step (by repeat (first | (with_reducible first | exact HB.out | apply below_alloc | apply pw_below_drewN | apply below_drew1) | exact HB.out)) hb); clear HB; have HO105 := n0_; have HB := n1_; clear n0_ n1_; (try clear hb); (try clear hb2); (try clear hk); (try clear hi); (try clear ho0)) | ((with_reducible refine gate_callee (f := 22) rfl ?_); refine goesL_ (some 13) rfl rfl Tryz.func22 (by kernel_rfl) rfl #[.string (⟨#[97, 32, 33]⟩ : ByteArray)] rfl (by (try simp only [List.map_toArray, List.map_cons, List.map_nil]); first | done | rfl | (simp only [List.length_drop, List.length_take]; rfl)) ?_; (with_reducible refine (lex_Tokens.calls (⟨#[97, 32, 33]⟩ : ByteArray) t106 t107 t108 _ A2.out).mono ?_); rintro e w29 ⟨v109, rfl, ho0, hb⟩; refine ⟨_, rfl, ?_⟩; have n0_ := Aside0.mk (Kd.R_elder' (by (with_reducible repeat (first | apply Kd.R_alloc | apply Kd.R_drewN | apply Kd.R_drew)); exact HO105.out) (Kd.R_base ho0) hb); have n1_ := Aside0.mk (Kd.R_lower (Kd.R_new' ho0 (Kd.R_lt (by (with_reducible repeat (first | apply Kd.R_alloc | apply Kd.R_drewN | apply Kd.R_drew)); exact HO105.out))) (below_size (by repeat (first | (with_reducible first | exact HB.out | apply below_alloc | apply pw_below_drewN | apply below_drew1) | exact HB.out)))); have n2_ := Aside0.mk (below_step (by repeat (first | (with_reducible first | exact HB.out | apply below_alloc | apply pw_below_drewN | apply below_drew1) | exact HB.out)) hb); clear HO105; clear HB; have HO105 := n0_; have HO110 := n1_; have HB := n2_; clear n0_ n1_ n2_; (try clear hb); (try clear hb2); (try clear hk); (try clear hi); (try clear ho0); obtain ⟨Ao30, co30, eo30⟩ := Kd.R_slice HO105.out; subst eo30; have p111 : 0 ≤ (0 : Int) := (by omega); have q111 : 0 < (t101.length : Int) := of_decide_eq_true (by first | (with_reducible assumption) | assumption); obtain ⟨ad111, e111, hx111_0, hx111_1, hx111_2, hx111_3⟩ := at_T63 (Kd.R_reads' HO105.out).2.2 0 p111 q111; cases e111; have qi111 : (0 < t101.length) = True := eq_true (by omega); (try rw [show ((0 : Int)).toNat = 0 from rfl] at hx111_0); (try rw [show 0 * 4 = 0 from rfl] at hx111_0); (try rw [Addr.add_zero'] at hx111_0); (try rw [show ((0 : Int)).toNat = 0 from rfl] at hx111_1); (try rw [show 0 * 4 = 0 from rfl] at hx111_1); (try rw [Addr.add_zero'] at hx111_1); (try rw [show ((0 : Int)).toNat = 0 from rfl] at hx111_2); (try rw [show 0 * 4 = 0 from rfl] at hx111_2); (try rw [Addr.add_zero'] at hx111_2); (try rw [show ((0 : Int)).toNat = 0 from rfl] at hx111_3); (try rw [show 0 * 4 = 0 from rfl] at hx111_3); (try rw [Addr.add_zero'] at hx111_3); replace p111 := eq_true p111; replace q111 := eq_true q111; have p112 : 0 ≤ (0 : Int) := (by omega); have q112 : 0 < (t101.length : Int) := of_decide_eq_true (by first | (with_reducible assumption) | assumption); obtain ⟨ad112, e112, hx112_0, hx112_1, hx112_2, hx112_3⟩ := at_T63 (Kd.R_reads' HO105.out).2.2 0 p112 q112; obtain rfl : ad111 = ad112 := (by injection e112); have qi112 : (0 < t101.length) = True := eq_true (by omega); (try rw [show ((0 : Int)).toNat = 0 from rfl] at hx112_0); (try rw [show 0 * 4 = 0 from rfl] at hx112_0); (try rw [Addr.add_zero'] at hx112_0); (try rw [show ((0 : Int)).toNat = 0 from rfl] at hx112_1); (try rw [show 0 * 4 = 0 from rfl] at hx112_1); (try rw [Addr.add_zero'] at hx112_1); (try rw [show ((0 : Int)).toNat = 0 from rfl] at hx112_2); (try rw [show 0 * 4 = 0 from rfl] at hx112_2); (try rw [Addr.add_zero'] at hx112_2); (try rw [show ((0 : Int)).toNat = 0 from rfl] at hx112_3); (try rw [show 0 * 4 = 0 from rfl] at hx112_3); (try rw [Addr.add_zero'] at hx112_3); replace p112 := eq_true p112; replace q112 := eq_true q112; have p113 : 0 ≤ (1 : Int) := (by omega); have q113 : 1 < (t101.length : Int) := of_decide_eq_true (by first | (with_reducible assumption) | assumption); obtain ⟨ad113, e113, hx113_0, hx113_1, hx113_2, hx113_3⟩ := at_T63 (Kd.R_reads' HO105.out).2.2 1 p113 q113; obtain rfl : ad111 = ad113 := (by injection e113); (try simp only [show (1 : Int).toNat = 1 from rfl, Nat.reduceMul, Nat.reduceEqDiff, Go.Addr.add, ↓reduceIte] at hx113_0); (try simp only [show (1 : Int).toNat = 1 from rfl, Nat.reduceMul, Nat.reduceEqDiff, Go.Addr.add, ↓reduceIte] at hx113_1); (try simp only [show (1 : Int).toNat = 1 from rfl, Nat.reduceMul, Nat.reduceEqDiff, Go.Addr.add, ↓reduceIte] at hx113_2); (try simp only [show (1 : Int).toNat = 1 from rfl, Nat.reduceMul, Nat.reduceEqDiff, Go.Addr.add, ↓reduceIte] at hx113_3); have qi113 : (1 < t101.length) = True := eq_true (by omega); (try rw [show ((1 : Int)).toNat = 1 from rfl] at hx113_0); (try rw [show 1 * 4 = 4 from rfl] at hx113_0); (try rw [show ((1 : Int)).toNat = 1 from rfl] at hx113_1); (try rw [show 1 * 4 = 4 from rfl] at hx113_1); (try rw [show ((1 : Int)).toNat = 1 from rfl] at hx113_2); (try rw [show 1 * 4 = 4 from rfl] at hx113_2); (try rw [show ((1 : Int)).toNat = 1 from rfl] at hx113_3); (try rw [show 1 * 4 = 4 from rfl] at hx113_3); replace p113 := eq_true p113; replace q113 := eq_true q113; have p114 : 0 ≤ (1 : Int) := (by omega); have q114 : 1 < (t101.length : Int) := of_decide_eq_true (by first | (with_reducible assumption) | assumption); obtain ⟨ad114, e114, hx114_0, hx114_1, hx114_2, hx114_3⟩ := at_T63 (Kd.R_reads' HO105.out).2.2 1 p114 q114; obtain rfl : ad111 = ad114 := (by injection e114); (try simp only [show (1 : Int).toNat = 1 from rfl, Nat.reduceMul, Nat.reduceEqDiff, Go.Addr.add, ↓reduceIte] at hx114_0); (try simp only [show (1 : Int).toNat = 1 from rfl, Nat.reduceMul, Nat.reduceEqDiff, Go.Addr.add, ↓reduceIte] at hx114_1); (try simp only [show (1 : Int).toNat = 1 from rfl, Nat.reduceMul, Nat.reduceEqDiff, Go.Addr.add, ↓reduceIte] at hx114_2); (try simp only [show (1 : Int).toNat = 1 from rfl, Nat.reduceMul, Nat.reduceEqDiff, Go.Addr.add, ↓reduceIte] at hx114_3); have qi114 : (1 < t101.length) = True := eq_true (by omega); (try rw [show ((1 : Int)).toNat = 1 from rfl] at hx114_0); (try rw [show 1 * 4 = 4 from rfl] at hx114_0); (try rw [show ((1 : Int)).toNat = 1 from rfl] at hx114_1); (try rw [show 1 * 4 = 4 from rfl] at hx114_1); (try rw [show ((1 : Int)).toNat = 1 from rfl] at hx114_2); (try rw [show 1 * 4 = 4 from rfl] at hx114_2); (try rw [show ((1 : Int)).toNat = 1 from rfl] at hx114_3); (try rw [show 1 * 4 = 4 from rfl] at hx114_3); replace p114 := eq_true p114; replace q114 := eq_true q114; have p115 : 0 ≤ (2 : Int) := (by omega); have q115 : 2 < (t101.length : Int) := of_decide_eq_true (by first | (with_reducible assumption) | assumption); obtain ⟨ad115, e115, hx115_0, hx115_1, hx115_2, hx115_3⟩ := at_T63 (Kd.R_reads' HO105.out).2.2 2 p115 q115; obtain rfl : ad111 = ad115 := (by injection e115); (try simp only [show (2 : Int).toNat = 2 from rfl, Nat.reduceMul, Nat.reduceEqDiff, Go.Addr.add, ↓reduceIte] at hx115_0); (try simp only [show (2 : Int).toNat = 2 from rfl, Nat.reduceMul, Nat.reduceEqDiff, Go.Addr.add, ↓reduceIte] at hx115_1); (try simp only [show (2 : Int).toNat = 2 from rfl, Nat.reduceMul, Nat.reduceEqDiff, Go.Addr.add, ↓reduceIte] at hx115_2); (try simp only [show (2 : Int).toNat = 2 from rfl, Nat.reduceMul, Nat.reduceEqDiff, Go.Addr.add, ↓reduceIte] at hx115_3); have qi115 : (2 < t101.length) = True := eq_true (by omega); (try rw [show ((2 : Int)).toNat = 2 from rfl] at hx115_0); (try rw [show 2 * 4 = 8 from rfl] at hx115_0); (try rw [show ((2 : Int)).toNat = 2 from rfl] at hx115_1); (try rw [show 2 * 4 = 8 from rfl] at hx115_1); (try rw [show ((2 : Int)).toNat = 2 from rfl] at hx115_2); (try rw [show 2 * 4 = 8 from rfl] at hx115_2); (try rw [show ((2 : Int)).toNat = 2 from rfl] at hx115_3); (try rw [show 2 * 4 = 8 from rfl] at hx115_3); replace p115 := eq_true p115; replace q115 := eq_true q115; have p116 : 0 ≤ (3 : Int) := (by omega); have q116 : 3 < (t101.length : Int) := of_decide_eq_true (by first | (with_reducible assumption) | assumption); obtain ⟨ad116, e116, hx116_0, hx116_1, hx116_2, hx116_3⟩ := at_T63 (Kd.R_reads' HO105.out).2.2 3 p116 q116; obtain rfl : ad111 = ad116 := (by injection e116); (try simp only [show (3 : Int).toNat = 3 from rfl, Nat.reduceMul, Nat.reduceEqDiff, Go.Addr.add, ↓reduceIte] at hx116_0); (try simp only [show (3 : Int).toNat = 3 from rfl, Nat.reduceMul, Nat.reduceEqDiff, Go.Addr.add, ↓reduceIte] at hx116_1); (try simp only [show (3 : Int).toNat = 3 from rfl, Nat.reduceMul, Nat.reduceEqDiff, Go.Addr.add, ↓reduceIte] at hx116_2); (try simp only [show (3 : Int).toNat = 3 from rfl, Nat.reduceMul, Nat.reduceEqDiff, Go.Addr.add, ↓reduceIte] at hx116_3); have qi116 : (3 < t101.length) = True := eq_true (by omega); (try rw [show ((3 : Int)).toNat = 3 from rfl] at hx116_0); (try rw [show 3 * 4 = 12 from rfl] at hx116_0); (try rw [show ((3 : Int)).toNat = 3 from rfl] at hx116_1); (try rw [show 3 * 4 = 12 from rfl] at hx116_1); (try rw [show ((3 : Int)).toNat = 3 from rfl] at hx116_2); (try rw [show 3 * 4 = 12 from rfl] at hx116_2); (try rw [show ((3 : Int)).toNat = 3 from rfl] at hx116_3); (try rw [show 3 * 4 = 12 from rfl] at hx116_3); replace p116 := eq_true p116; replace q116 := eq_true q116))
                          go_ret
                          exact ⟨by first | rfl | (simp [errW_none, errW_some] <;> rfl) | (simp [*, errW_none, errW_some] <;> rfl), by repeat (first | (with_reducible first | exact HB.out | apply below_alloc | apply pw_below_drewN | apply below_drew1) | exact HB.out)⟩
                      · rw [if_neg c13] at H
                        exact absurd H (by simp)
                    · rw [if_neg c12] at H
                      have c12b0 : (((rd_T63 t101 2).f1).toList == ([59] : List UInt8)) = false := beq_eq_false_iff_ne.mpr c12
                      have c12b1 : (((rd_T63 t101 2).f1).toList != ([59] : List UInt8)) = true := bne_iff_ne.mpr c12
                      obtain rfl := Option.some.inj H
                      go_enter Tryz.func10, Tryz.ntmps10
                      go_wp2_with (first | ((with_reducible refine gate_callee (f := 22) rfl ?_); refine goesL_ (some 8) rfl rfl Tryz.func22 (by kernel_rfl) rfl #[.string (⟨#[99, 108, 97, 115, 115, 32, 60, 85, 48, 48, 52, 49, 62, 59, 37, 120]⟩ : ByteArray)] rfl (by (try simp only [List.map_toArray, List.map_cons, List.map_nil]); first | done | rfl | (simp only [List.length_drop, List.length_take]; rfl)) ?_; (with_reducible refine (lex_Tokens.calls (⟨#[99, 108, 97, 115, 115, 32, 60, 85, 48, 48, 52, 49, 62, 59, 37, 120]⟩ : ByteArray) t101 t102 t103 _ A1.out).mono ?_); rintro e w31 ⟨v104, rfl, ho0, hb⟩; refine ⟨_, rfl, ?_⟩; have n0_ := Aside0.mk (Kd.R_lower ho0 (below_size (by repeat (first | (with_reducible first | exact HB.out | apply below_alloc | apply pw_below_drewN | apply below_drew1) | exact HB.out)))); have n1_ := Aside0.mk (below_step (by repeat (first | (with_reducible first | exact HB.out | apply below_alloc | apply pw_below_drewN | apply below_drew1) | exact HB.out)) hb); clear HB; have HO105 := n0_; have HB := n1_; clear n0_ n1_; (try clear hb); (try clear hb2); (try clear hk); (try clear hi); (try clear ho0)) | ((with_reducible refine gate_callee (f := 22) rfl ?_); refine goesL_ (some 13) rfl rfl Tryz.func22 (by kernel_rfl) rfl #[.string (⟨#[97, 32, 33]⟩ : ByteArray)] rfl (by (try simp only [List.map_toArray, List.map_cons, List.map_nil]); first | done | rfl | (simp only [List.length_drop, List.length_take]; rfl)) ?_; (with_reducible refine (lex_Tokens.calls (⟨#[97, 32, 33]⟩ : ByteArray) t106 t107 t108 _ A2.out).mono ?_); rintro e w32 ⟨v109, rfl, ho0, hb⟩; refine ⟨_, rfl, ?_⟩; have n0_ := Aside0.mk (Kd.R_elder' (by (with_reducible repeat (first | apply Kd.R_alloc | apply Kd.R_drewN | apply Kd.R_drew)); exact HO105.out) (Kd.R_base ho0) hb); have n1_ := Aside0.mk (Kd.R_lower (Kd.R_new' ho0 (Kd.R_lt (by (with_reducible repeat (first | apply Kd.R_alloc | apply Kd.R_drewN | apply Kd.R_drew)); exact HO105.out))) (below_size (by repeat (first | (with_reducible first | exact HB.out | apply below_alloc | apply pw_below_drewN | apply below_drew1) | exact HB.out)))); have n2_ := Aside0.mk (below_step (by repeat (first | (with_reducible first | exact HB.out | apply below_alloc | apply pw_below_drewN | apply below_drew1) | exact HB.out)) hb); clear HO105; clear HB; have HO105 := n0_; have HO110 := n1_; have HB := n2_; clear n0_ n1_ n2_; (try clear hb); (try clear hb2); (try clear hk); (try clear hi); (try clear ho0); obtain ⟨Ao33, co33, eo33⟩ := Kd.R_slice HO105.out; subst eo33; have p111 : 0 ≤ (0 : Int) := (by omega); have q111 : 0 < (t101.length : Int) := of_decide_eq_true (by first | (with_reducible assumption) | assumption); obtain ⟨ad111, e111, hx111_0, hx111_1, hx111_2, hx111_3⟩ := at_T63 (Kd.R_reads' HO105.out).2.2 0 p111 q111; cases e111; have qi111 : (0 < t101.length) = True := eq_true (by omega); (try rw [show ((0 : Int)).toNat = 0 from rfl] at hx111_0); (try rw [show 0 * 4 = 0 from rfl] at hx111_0); (try rw [Addr.add_zero'] at hx111_0); (try rw [show ((0 : Int)).toNat = 0 from rfl] at hx111_1); (try rw [show 0 * 4 = 0 from rfl] at hx111_1); (try rw [Addr.add_zero'] at hx111_1); (try rw [show ((0 : Int)).toNat = 0 from rfl] at hx111_2); (try rw [show 0 * 4 = 0 from rfl] at hx111_2); (try rw [Addr.add_zero'] at hx111_2); (try rw [show ((0 : Int)).toNat = 0 from rfl] at hx111_3); (try rw [show 0 * 4 = 0 from rfl] at hx111_3); (try rw [Addr.add_zero'] at hx111_3); replace p111 := eq_true p111; replace q111 := eq_true q111; have p112 : 0 ≤ (0 : Int) := (by omega); have q112 : 0 < (t101.length : Int) := of_decide_eq_true (by first | (with_reducible assumption) | assumption); obtain ⟨ad112, e112, hx112_0, hx112_1, hx112_2, hx112_3⟩ := at_T63 (Kd.R_reads' HO105.out).2.2 0 p112 q112; obtain rfl : ad111 = ad112 := (by injection e112); have qi112 : (0 < t101.length) = True := eq_true (by omega); (try rw [show ((0 : Int)).toNat = 0 from rfl] at hx112_0); (try rw [show 0 * 4 = 0 from rfl] at hx112_0); (try rw [Addr.add_zero'] at hx112_0); (try rw [show ((0 : Int)).toNat = 0 from rfl] at hx112_1); (try rw [show 0 * 4 = 0 from rfl] at hx112_1); (try rw [Addr.add_zero'] at hx112_1); (try rw [show ((0 : Int)).toNat = 0 from rfl] at hx112_2); (try rw [show 0 * 4 = 0 from rfl] at hx112_2); (try rw [Addr.add_zero'] at hx112_2); (try rw [show ((0 : Int)).toNat = 0 from rfl] at hx112_3); (try rw [show 0 * 4 = 0 from rfl] at hx112_3); (try rw [Addr.add_zero'] at hx112_3); replace p112 := eq_true p112; replace q112 := eq_true q112; have p113 : 0 ≤ (1 : Int) := (by omega); have q113 : 1 < (t101.length : Int) := of_decide_eq_true (by first | (with_reducible assumption) | assumption); obtain ⟨ad113, e113, hx113_0, hx113_1, hx113_2, hx113_3⟩ := at_T63 (Kd.R_reads' HO105.out).2.2 1 p113 q113; obtain rfl : ad111 = ad113 := (by injection e113); (try simp only [show (1 : Int).toNat = 1 from rfl, Nat.reduceMul, Nat.reduceEqDiff, Go.Addr.add, ↓reduceIte] at hx113_0); (try simp only [show (1 : Int).toNat = 1 from rfl, Nat.reduceMul, Nat.reduceEqDiff, Go.Addr.add, ↓reduceIte] at hx113_1); (try simp only [show (1 : Int).toNat = 1 from rfl, Nat.reduceMul, Nat.reduceEqDiff, Go.Addr.add, ↓reduceIte] at hx113_2); (try simp only [show (1 : Int).toNat = 1 from rfl, Nat.reduceMul, Nat.reduceEqDiff, Go.Addr.add, ↓reduceIte] at hx113_3); have qi113 : (1 < t101.length) = True := eq_true (by omega); (try rw [show ((1 : Int)).toNat = 1 from rfl] at hx113_0); (try rw [show 1 * 4 = 4 from rfl] at hx113_0); (try rw [show ((1 : Int)).toNat = 1 from rfl] at hx113_1); (try rw [show 1 * 4 = 4 from rfl] at hx113_1); (try rw [show ((1 : Int)).toNat = 1 from rfl] at hx113_2); (try rw [show 1 * 4 = 4 from rfl] at hx113_2); (try rw [show ((1 : Int)).toNat = 1 from rfl] at hx113_3); (try rw [show 1 * 4 = 4 from rfl] at hx113_3); replace p113 := eq_true p113; replace q113 := eq_true q113; have p114 : 0 ≤ (1 : Int) := (by omega); have q114 : 1 < (t101.length : Int) := of_decide_eq_true (by first | (with_reducible assumption) | assumption); obtain ⟨ad114, e114, hx114_0, hx114_1, hx114_2, hx114_3⟩ := at_T63 (Kd.R_reads' HO105.out).2.2 1 p114 q114; obtain rfl : ad111 = ad114 := (by injection e114); (try simp only [show (1 : Int).toNat = 1 from rfl, Nat.reduceMul, Nat.reduceEqDiff, Go.Addr.add, ↓reduceIte] at hx114_0); (try simp only [show (1 : Int).toNat = 1 from rfl, Nat.reduceMul, Nat.reduceEqDiff, Go.Addr.add, ↓reduceIte] at hx114_1); (try simp only [show (1 : Int).toNat = 1 from rfl, Nat.reduceMul, Nat.reduceEqDiff, Go.Addr.add, ↓reduceIte] at hx114_2); (try simp only [show (1 : Int).toNat = 1 from rfl, Nat.reduceMul, Nat.reduceEqDiff, Go.Addr.add, ↓reduceIte] at hx114_3); have qi114 : (1 < t101.length) = True := eq_true (by omega); (try rw [show ((1 : Int)).toNat = 1 from rfl] at hx114_0); (try rw [show 1 * 4 = 4 from rfl] at hx114_0); (try rw [show ((1 : Int)).toNat = 1 from rfl] at hx114_1); (try rw [show 1 * 4 = 4 from rfl] at hx114_1); (try rw [show ((1 : Int)).toNat = 1 from rfl] at hx114_2); (try rw [show 1 * 4 = 4 from rfl] at hx114_2); (try rw [show ((1 : Int)).toNat = 1 from rfl] at hx114_3); (try rw [show 1 * 4 = 4 from rfl] at hx114_3); replace p114 := eq_true p114; replace q114 := eq_true q114; have p115 : 0 ≤ (2 : Int) := (by omega); have q115 : 2 < (t101.length : Int) := of_decide_eq_true (by first | (with_reducible assumption) | assumption); obtain ⟨ad115, e115, hx115_0, hx115_1, hx115_2, hx115_3⟩ := at_T63 (Kd.R_reads' HO105.out).2.2 2 p115 q115; obtain rfl : ad111 = ad115 := (by injection e115); (try simp only [show (2 : Int).toNat = 2 from rfl, Nat.reduceMul, Nat.reduceEqDiff, Go.Addr.add, ↓reduceIte] at hx115_0); (try simp only [show (2 : Int).toNat = 2 from rfl, Nat.reduceMul, Nat.reduceEqDiff, Go.Addr.add, ↓reduceIte] at hx115_1); (try simp only [show (2 : Int).toNat = 2 from rfl, Nat.reduceMul, Nat.reduceEqDiff, Go.Addr.add, ↓reduceIte] at hx115_2); (try simp only [show (2 : Int).toNat = 2 from rfl, Nat.reduceMul, Nat.reduceEqDiff, Go.Addr.add, ↓reduceIte] at hx115_3); have qi115 : (2 < t101.length) = True := eq_true (by omega); (try rw [show ((2 : Int)).toNat = 2 from rfl] at hx115_0); (try rw [show 2 * 4 = 8 from rfl] at hx115_0); (try rw [show ((2 : Int)).toNat = 2 from rfl] at hx115_1); (try rw [show 2 * 4 = 8 from rfl] at hx115_1); (try rw [show ((2 : Int)).toNat = 2 from rfl] at hx115_2); (try rw [show 2 * 4 = 8 from rfl] at hx115_2); (try rw [show ((2 : Int)).toNat = 2 from rfl] at hx115_3); (try rw [show 2 * 4 = 8 from rfl] at hx115_3); replace p115 := eq_true p115; replace q115 := eq_true q115))
                      go_ret
                      exact ⟨by first | rfl | (simp [errW_none, errW_some] <;> rfl) | (simp [*, errW_none, errW_some] <;> rfl), by repeat (first | (with_reducible first | exact HB.out | apply below_alloc | apply pw_below_drewN | apply below_drew1) | exact HB.out)⟩
                  · rw [if_neg c11] at H
                    exact absurd H (by simp)
                · rw [if_neg c10] at H
                  have c10b0 : (((rd_T63 t101 1).f2) == 65) = false := beq_eq_false_iff_ne.mpr c10
                  have c10b1 : (((rd_T63 t101 1).f2) != 65) = true := bne_iff_ne.mpr c10
                  obtain rfl := Option.some.inj H
                  go_enter Tryz.func10, Tryz.ntmps10
                  go_wp2_with (first | ((with_reducible refine gate_callee (f := 22) rfl ?_); refine goesL_ (some 8) rfl rfl Tryz.func22 (by kernel_rfl) rfl #[.string (⟨#[99, 108, 97, 115, 115, 32, 60, 85, 48, 48, 52, 49, 62, 59, 37, 120]⟩ : ByteArray)] rfl (by (try simp only [List.map_toArray, List.map_cons, List.map_nil]); first | done | rfl | (simp only [List.length_drop, List.length_take]; rfl)) ?_; (with_reducible refine (lex_Tokens.calls (⟨#[99, 108, 97, 115, 115, 32, 60, 85, 48, 48, 52, 49, 62, 59, 37, 120]⟩ : ByteArray) t101 t102 t103 _ A1.out).mono ?_); rintro e w34 ⟨v104, rfl, ho0, hb⟩; refine ⟨_, rfl, ?_⟩; have n0_ := Aside0.mk (Kd.R_lower ho0 (below_size (by repeat (first | (with_reducible first | exact HB.out | apply below_alloc | apply pw_below_drewN | apply below_drew1) | exact HB.out)))); have n1_ := Aside0.mk (below_step (by repeat (first | (with_reducible first | exact HB.out | apply below_alloc | apply pw_below_drewN | apply below_drew1) | exact HB.out)) hb); clear HB; have HO105 := n0_; have HB := n1_; clear n0_ n1_; (try clear hb); (try clear hb2); (try clear hk); (try clear hi); (try clear ho0)) | ((with_reducible refine gate_callee (f := 22) rfl ?_); refine goesL_ (some 13) rfl rfl Tryz.func22 (by kernel_rfl) rfl #[.string (⟨#[97, 32, 33]⟩ : ByteArray)] rfl (by (try simp only [List.map_toArray, List.map_cons, List.map_nil]); first | done | rfl | (simp only [List.length_drop, List.length_take]; rfl)) ?_; (with_reducible refine (lex_Tokens.calls (⟨#[97, 32, 33]⟩ : ByteArray) t106 t107 t108 _ A2.out).mono ?_); rintro e w35 ⟨v109, rfl, ho0, hb⟩; refine ⟨_, rfl, ?_⟩; have n0_ := Aside0.mk (Kd.R_elder' (by (with_reducible repeat (first | apply Kd.R_alloc | apply Kd.R_drewN | apply Kd.R_drew)); exact HO105.out) (Kd.R_base ho0) hb); have n1_ := Aside0.mk (Kd.R_lower (Kd.R_new' ho0 (Kd.R_lt (by (with_reducible repeat (first | apply Kd.R_alloc | apply Kd.R_drewN | apply Kd.R_drew)); exact HO105.out))) (below_size (by repeat (first | (with_reducible first | exact HB.out | apply below_alloc | apply pw_below_drewN | apply below_drew1) | exact HB.out)))); have n2_ := Aside0.mk (below_step (by repeat (first | (with_reducible first | exact HB.out | apply below_alloc | apply pw_below_drewN | apply below_drew1) | exact HB.out)) hb); clear HO105; clear HB; have HO105 := n0_; have HO110 := n1_; have HB := n2_; clear n0_ n1_ n2_; (try clear hb); (try clear hb2); (try clear hk); (try clear hi); (try clear ho0); obtain ⟨Ao36, co36, eo36⟩ := Kd.R_slice HO105.out; subst eo36; have p111 : 0 ≤ (0 : Int) := (by omega); have q111 : 0 < (t101.length : Int) := of_decide_eq_true (by first | (with_reducible assumption) | assumption); obtain ⟨ad111, e111, hx111_0, hx111_1, hx111_2, hx111_3⟩ := at_T63 (Kd.R_reads' HO105.out).2.2 0 p111 q111; cases e111; have qi111 : (0 < t101.length) = True := eq_true (by omega); (try rw [show ((0 : Int)).toNat = 0 from rfl] at hx111_0); (try rw [show 0 * 4 = 0 from rfl] at hx111_0); (try rw [Addr.add_zero'] at hx111_0); (try rw [show ((0 : Int)).toNat = 0 from rfl] at hx111_1); (try rw [show 0 * 4 = 0 from rfl] at hx111_1); (try rw [Addr.add_zero'] at hx111_1); (try rw [show ((0 : Int)).toNat = 0 from rfl] at hx111_2); (try rw [show 0 * 4 = 0 from rfl] at hx111_2); (try rw [Addr.add_zero'] at hx111_2); (try rw [show ((0 : Int)).toNat = 0 from rfl] at hx111_3); (try rw [show 0 * 4 = 0 from rfl] at hx111_3); (try rw [Addr.add_zero'] at hx111_3); replace p111 := eq_true p111; replace q111 := eq_true q111; have p112 : 0 ≤ (0 : Int) := (by omega); have q112 : 0 < (t101.length : Int) := of_decide_eq_true (by first | (with_reducible assumption) | assumption); obtain ⟨ad112, e112, hx112_0, hx112_1, hx112_2, hx112_3⟩ := at_T63 (Kd.R_reads' HO105.out).2.2 0 p112 q112; obtain rfl : ad111 = ad112 := (by injection e112); have qi112 : (0 < t101.length) = True := eq_true (by omega); (try rw [show ((0 : Int)).toNat = 0 from rfl] at hx112_0); (try rw [show 0 * 4 = 0 from rfl] at hx112_0); (try rw [Addr.add_zero'] at hx112_0); (try rw [show ((0 : Int)).toNat = 0 from rfl] at hx112_1); (try rw [show 0 * 4 = 0 from rfl] at hx112_1); (try rw [Addr.add_zero'] at hx112_1); (try rw [show ((0 : Int)).toNat = 0 from rfl] at hx112_2); (try rw [show 0 * 4 = 0 from rfl] at hx112_2); (try rw [Addr.add_zero'] at hx112_2); (try rw [show ((0 : Int)).toNat = 0 from rfl] at hx112_3); (try rw [show 0 * 4 = 0 from rfl] at hx112_3); (try rw [Addr.add_zero'] at hx112_3); replace p112 := eq_true p112; replace q112 := eq_true q112; have p113 : 0 ≤ (1 : Int) := (by omega); have q113 : 1 < (t101.length : Int) := of_decide_eq_true (by first | (with_reducible assumption) | assumption); obtain ⟨ad113, e113, hx113_0, hx113_1, hx113_2, hx113_3⟩ := at_T63 (Kd.R_reads' HO105.out).2.2 1 p113 q113; obtain rfl : ad111 = ad113 := (by injection e113); (try simp only [show (1 : Int).toNat = 1 from rfl, Nat.reduceMul, Nat.reduceEqDiff, Go.Addr.add, ↓reduceIte] at hx113_0); (try simp only [show (1 : Int).toNat = 1 from rfl, Nat.reduceMul, Nat.reduceEqDiff, Go.Addr.add, ↓reduceIte] at hx113_1); (try simp only [show (1 : Int).toNat = 1 from rfl, Nat.reduceMul, Nat.reduceEqDiff, Go.Addr.add, ↓reduceIte] at hx113_2); (try simp only [show (1 : Int).toNat = 1 from rfl, Nat.reduceMul, Nat.reduceEqDiff, Go.Addr.add, ↓reduceIte] at hx113_3); have qi113 : (1 < t101.length) = True := eq_true (by omega); (try rw [show ((1 : Int)).toNat = 1 from rfl] at hx113_0); (try rw [show 1 * 4 = 4 from rfl] at hx113_0); (try rw [show ((1 : Int)).toNat = 1 from rfl] at hx113_1); (try rw [show 1 * 4 = 4 from rfl] at hx113_1); (try rw [show ((1 : Int)).toNat = 1 from rfl] at hx113_2); (try rw [show 1 * 4 = 4 from rfl] at hx113_2); (try rw [show ((1 : Int)).toNat = 1 from rfl] at hx113_3); (try rw [show 1 * 4 = 4 from rfl] at hx113_3); replace p113 := eq_true p113; replace q113 := eq_true q113; have p114 : 0 ≤ (1 : Int) := (by omega); have q114 : 1 < (t101.length : Int) := of_decide_eq_true (by first | (with_reducible assumption) | assumption); obtain ⟨ad114, e114, hx114_0, hx114_1, hx114_2, hx114_3⟩ := at_T63 (Kd.R_reads' HO105.out).2.2 1 p114 q114; obtain rfl : ad111 = ad114 := (by injection e114); (try simp only [show (1 : Int).toNat = 1 from rfl, Nat.reduceMul, Nat.reduceEqDiff, Go.Addr.add, ↓reduceIte] at hx114_0); (try simp only [show (1 : Int).toNat = 1 from rfl, Nat.reduceMul, Nat.reduceEqDiff, Go.Addr.add, ↓reduceIte] at hx114_1); (try simp only [show (1 : Int).toNat = 1 from rfl, Nat.reduceMul, Nat.reduceEqDiff, Go.Addr.add, ↓reduceIte] at hx114_2); (try simp only [show (1 : Int).toNat = 1 from rfl, Nat.reduceMul, Nat.reduceEqDiff, Go.Addr.add, ↓reduceIte] at hx114_3); have qi114 : (1 < t101.length) = True := eq_true (by omega); (try rw [show ((1 : Int)).toNat = 1 from rfl] at hx114_0); (try rw [show 1 * 4 = 4 from rfl] at hx114_0); (try rw [show ((1 : Int)).toNat = 1 from rfl] at hx114_1); (try rw [show 1 * 4 = 4 from rfl] at hx114_1); (try rw [show ((1 : Int)).toNat = 1 from rfl] at hx114_2); (try rw [show 1 * 4 = 4 from rfl] at hx114_2); (try rw [show ((1 : Int)).toNat = 1 from rfl] at hx114_3); (try rw [show 1 * 4 = 4 from rfl] at hx114_3); replace p114 := eq_true p114; replace q114 := eq_true q114))
                  go_ret
                  exact ⟨by first | rfl | (simp [errW_none, errW_some] <;> rfl) | (simp [*, errW_none, errW_some] <;> rfl), by repeat (first | (with_reducible first | exact HB.out | apply below_alloc | apply pw_below_drewN | apply below_drew1) | exact HB.out)⟩
              · rw [if_neg c9] at H
                have c9b0 : (((rd_T63 t101 1).f0) == 3) = false := beq_eq_false_iff_ne.mpr c9
                have c9b1 : (((rd_T63 t101 1).f0) != 3) = true := bne_iff_ne.mpr c9
                obtain rfl := Option.some.inj H
                go_enter Tryz.func10, Tryz.ntmps10
                go_wp2_with (first | ((with_reducible refine gate_callee (f := 22) rfl ?_); refine goesL_ (some 8) rfl rfl Tryz.func22 (by kernel_rfl) rfl #[.string (⟨#[99, 108, 97, 115, 115, 32, 60, 85, 48, 48, 52, 49, 62, 59, 37, 120]⟩ : ByteArray)] rfl (by (try simp only [List.map_toArray, List.map_cons, List.map_nil]); first | done | rfl | (simp only [List.length_drop, List.length_take]; rfl)) ?_; (with_reducible refine (lex_Tokens.calls (⟨#[99, 108, 97, 115, 115, 32, 60, 85, 48, 48, 52, 49, 62, 59, 37, 120]⟩ : ByteArray) t101 t102 t103 _ A1.out).mono ?_); rintro e w37 ⟨v104, rfl, ho0, hb⟩; refine ⟨_, rfl, ?_⟩; have n0_ := Aside0.mk (Kd.R_lower ho0 (below_size (by repeat (first | (with_reducible first | exact HB.out | apply below_alloc | apply pw_below_drewN | apply below_drew1) | exact HB.out)))); have n1_ := Aside0.mk (below_step (by repeat (first | (with_reducible first | exact HB.out | apply below_alloc | apply pw_below_drewN | apply below_drew1) | exact HB.out)) hb); clear HB; have HO105 := n0_; have HB := n1_; clear n0_ n1_; (try clear hb); (try clear hb2); (try clear hk); (try clear hi); (try clear ho0)) | ((with_reducible refine gate_callee (f := 22) rfl ?_); refine goesL_ (some 13) rfl rfl Tryz.func22 (by kernel_rfl) rfl #[.string (⟨#[97, 32, 33]⟩ : ByteArray)] rfl (by (try simp only [List.map_toArray, List.map_cons, List.map_nil]); first | done | rfl | (simp only [List.length_drop, List.length_take]; rfl)) ?_; (with_reducible refine (lex_Tokens.calls (⟨#[97, 32, 33]⟩ : ByteArray) t106 t107 t108 _ A2.out).mono ?_); rintro e w38 ⟨v109, rfl, ho0, hb⟩; refine ⟨_, rfl, ?_⟩; have n0_ := Aside0.mk (Kd.R_elder' (by (with_reducible repeat (first | apply Kd.R_alloc | apply Kd.R_drewN | apply Kd.R_drew)); exact HO105.out) (Kd.R_base ho0) hb); have n1_ := Aside0.mk (Kd.R_lower (Kd.R_new' ho0 (Kd.R_lt (by (with_reducible repeat (first | apply Kd.R_alloc | apply Kd.R_drewN | apply Kd.R_drew)); exact HO105.out))) (below_size (by repeat (first | (with_reducible first | exact HB.out | apply below_alloc | apply pw_below_drewN | apply below_drew1) | exact HB.out)))); have n2_ := Aside0.mk (below_step (by repeat (first | (with_reducible first | exact HB.out | apply below_alloc | apply pw_below_drewN | apply below_drew1) | exact HB.out)) hb); clear HO105; clear HB; have HO105 := n0_; have HO110 := n1_; have HB := n2_; clear n0_ n1_ n2_; (try clear hb); (try clear hb2); (try clear hk); (try clear hi); (try clear ho0); obtain ⟨Ao39, co39, eo39⟩ := Kd.R_slice HO105.out; subst eo39; have p111 : 0 ≤ (0 : Int) := (by omega); have q111 : 0 < (t101.length : Int) := of_decide_eq_true (by first | (with_reducible assumption) | assumption); obtain ⟨ad111, e111, hx111_0, hx111_1, hx111_2, hx111_3⟩ := at_T63 (Kd.R_reads' HO105.out).2.2 0 p111 q111; cases e111; have qi111 : (0 < t101.length) = True := eq_true (by omega); (try rw [show ((0 : Int)).toNat = 0 from rfl] at hx111_0); (try rw [show 0 * 4 = 0 from rfl] at hx111_0); (try rw [Addr.add_zero'] at hx111_0); (try rw [show ((0 : Int)).toNat = 0 from rfl] at hx111_1); (try rw [show 0 * 4 = 0 from rfl] at hx111_1); (try rw [Addr.add_zero'] at hx111_1); (try rw [show ((0 : Int)).toNat = 0 from rfl] at hx111_2); (try rw [show 0 * 4 = 0 from rfl] at hx111_2); (try rw [Addr.add_zero'] at hx111_2); (try rw [show ((0 : Int)).toNat = 0 from rfl] at hx111_3); (try rw [show 0 * 4 = 0 from rfl] at hx111_3); (try rw [Addr.add_zero'] at hx111_3); replace p111 := eq_true p111; replace q111 := eq_true q111; have p112 : 0 ≤ (0 : Int) := (by omega); have q112 : 0 < (t101.length : Int) := of_decide_eq_true (by first | (with_reducible assumption) | assumption); obtain ⟨ad112, e112, hx112_0, hx112_1, hx112_2, hx112_3⟩ := at_T63 (Kd.R_reads' HO105.out).2.2 0 p112 q112; obtain rfl : ad111 = ad112 := (by injection e112); have qi112 : (0 < t101.length) = True := eq_true (by omega); (try rw [show ((0 : Int)).toNat = 0 from rfl] at hx112_0); (try rw [show 0 * 4 = 0 from rfl] at hx112_0); (try rw [Addr.add_zero'] at hx112_0); (try rw [show ((0 : Int)).toNat = 0 from rfl] at hx112_1); (try rw [show 0 * 4 = 0 from rfl] at hx112_1); (try rw [Addr.add_zero'] at hx112_1); (try rw [show ((0 : Int)).toNat = 0 from rfl] at hx112_2); (try rw [show 0 * 4 = 0 from rfl] at hx112_2); (try rw [Addr.add_zero'] at hx112_2); (try rw [show ((0 : Int)).toNat = 0 from rfl] at hx112_3); (try rw [show 0 * 4 = 0 from rfl] at hx112_3); (try rw [Addr.add_zero'] at hx112_3); replace p112 := eq_true p112; replace q112 := eq_true q112; have p113 : 0 ≤ (1 : Int) := (by omega); have q113 : 1 < (t101.length : Int) := of_decide_eq_true (by first | (with_reducible assumption) | assumption); obtain ⟨ad113, e113, hx113_0, hx113_1, hx113_2, hx113_3⟩ := at_T63 (Kd.R_reads' HO105.out).2.2 1 p113 q113; obtain rfl : ad111 = ad113 := (by injection e113); (try simp only [show (1 : Int).toNat = 1 from rfl, Nat.reduceMul, Nat.reduceEqDiff, Go.Addr.add, ↓reduceIte] at hx113_0); (try simp only [show (1 : Int).toNat = 1 from rfl, Nat.reduceMul, Nat.reduceEqDiff, Go.Addr.add, ↓reduceIte] at hx113_1); (try simp only [show (1 : Int).toNat = 1 from rfl, Nat.reduceMul, Nat.reduceEqDiff, Go.Addr.add, ↓reduceIte] at hx113_2); (try simp only [show (1 : Int).toNat = 1 from rfl, Nat.reduceMul, Nat.reduceEqDiff, Go.Addr.add, ↓reduceIte] at hx113_3); have qi113 : (1 < t101.length) = True := eq_true (by omega); (try rw [show ((1 : Int)).toNat = 1 from rfl] at hx113_0); (try rw [show 1 * 4 = 4 from rfl] at hx113_0); (try rw [show ((1 : Int)).toNat = 1 from rfl] at hx113_1); (try rw [show 1 * 4 = 4 from rfl] at hx113_1); (try rw [show ((1 : Int)).toNat = 1 from rfl] at hx113_2); (try rw [show 1 * 4 = 4 from rfl] at hx113_2); (try rw [show ((1 : Int)).toNat = 1 from rfl] at hx113_3); (try rw [show 1 * 4 = 4 from rfl] at hx113_3); replace p113 := eq_true p113; replace q113 := eq_true q113))
                go_ret
                exact ⟨by first | rfl | (simp [errW_none, errW_some] <;> rfl) | (simp [*, errW_none, errW_some] <;> rfl), by repeat (first | (with_reducible first | exact HB.out | apply below_alloc | apply pw_below_drewN | apply below_drew1) | exact HB.out)⟩
            · rw [if_neg c8] at H
              exact absurd H (by simp)
          · rw [if_neg c7] at H
            have c7b0 : (((rd_T63 t101 0).f1).toList == ([99, 108, 97, 115, 115] : List UInt8)) = false := beq_eq_false_iff_ne.mpr c7
            have c7b1 : (((rd_T63 t101 0).f1).toList != ([99, 108, 97, 115, 115] : List UInt8)) = true := bne_iff_ne.mpr c7
            obtain rfl := Option.some.inj H
            go_enter Tryz.func10, Tryz.ntmps10
            go_wp2_with (first | ((with_reducible refine gate_callee (f := 22) rfl ?_); refine goesL_ (some 8) rfl rfl Tryz.func22 (by kernel_rfl) rfl #[.string (⟨#[99, 108, 97, 115, 115, 32, 60, 85, 48, 48, 52, 49, 62, 59, 37, 120]⟩ : ByteArray)] rfl (by (try simp only [List.map_toArray, List.map_cons, List.map_nil]); first | done | rfl | (simp only [List.length_drop, List.length_take]; rfl)) ?_; (with_reducible refine (lex_Tokens.calls (⟨#[99, 108, 97, 115, 115, 32, 60, 85, 48, 48, 52, 49, 62, 59, 37, 120]⟩ : ByteArray) t101 t102 t103 _ A1.out).mono ?_); rintro e w40 ⟨v104, rfl, ho0, hb⟩; refine ⟨_, rfl, ?_⟩; have n0_ := Aside0.mk (Kd.R_lower ho0 (below_size (by repeat (first | (with_reducible first | exact HB.out | apply below_alloc | apply pw_below_drewN | apply below_drew1) | exact HB.out)))); have n1_ := Aside0.mk (below_step (by repeat (first | (with_reducible first | exact HB.out | apply below_alloc | apply pw_below_drewN | apply below_drew1) | exact HB.out)) hb); clear HB; have HO105 := n0_; have HB := n1_; clear n0_ n1_; (try clear hb); (try clear hb2); (try clear hk); (try clear hi); (try clear ho0)) | ((with_reducible refine gate_callee (f := 22) rfl ?_); refine goesL_ (some 13) rfl rfl Tryz.func22 (by kernel_rfl) rfl #[.string (⟨#[97, 32, 33]⟩ : ByteArray)] rfl (by (try simp only [List.map_toArray, List.map_cons, List.map_nil]); first | done | rfl | (simp only [List.length_drop, List.length_take]; rfl)) ?_; (with_reducible refine (lex_Tokens.calls (⟨#[97, 32, 33]⟩ : ByteArray) t106 t107 t108 _ A2.out).mono ?_); rintro e w41 ⟨v109, rfl, ho0, hb⟩; refine ⟨_, rfl, ?_⟩; have n0_ := Aside0.mk (Kd.R_elder' (by (with_reducible repeat (first | apply Kd.R_alloc | apply Kd.R_drewN | apply Kd.R_drew)); exact HO105.out) (Kd.R_base ho0) hb); have n1_ := Aside0.mk (Kd.R_lower (Kd.R_new' ho0 (Kd.R_lt (by (with_reducible repeat (first | apply Kd.R_alloc | apply Kd.R_drewN | apply Kd.R_drew)); exact HO105.out))) (below_size (by repeat (first | (with_reducible first | exact HB.out | apply below_alloc | apply pw_below_drewN | apply below_drew1) | exact HB.out)))); have n2_ := Aside0.mk (below_step (by repeat (first | (with_reducible first | exact HB.out | apply below_alloc | apply pw_below_drewN | apply below_drew1) | exact HB.out)) hb); clear HO105; clear HB; have HO105 := n0_; have HO110 := n1_; have HB := n2_; clear n0_ n1_ n2_; (try clear hb); (try clear hb2); (try clear hk); (try clear hi); (try clear ho0); obtain ⟨Ao42, co42, eo42⟩ := Kd.R_slice HO105.out; subst eo42; have p111 : 0 ≤ (0 : Int) := (by omega); have q111 : 0 < (t101.length : Int) := of_decide_eq_true (by first | (with_reducible assumption) | assumption); obtain ⟨ad111, e111, hx111_0, hx111_1, hx111_2, hx111_3⟩ := at_T63 (Kd.R_reads' HO105.out).2.2 0 p111 q111; cases e111; have qi111 : (0 < t101.length) = True := eq_true (by omega); (try rw [show ((0 : Int)).toNat = 0 from rfl] at hx111_0); (try rw [show 0 * 4 = 0 from rfl] at hx111_0); (try rw [Addr.add_zero'] at hx111_0); (try rw [show ((0 : Int)).toNat = 0 from rfl] at hx111_1); (try rw [show 0 * 4 = 0 from rfl] at hx111_1); (try rw [Addr.add_zero'] at hx111_1); (try rw [show ((0 : Int)).toNat = 0 from rfl] at hx111_2); (try rw [show 0 * 4 = 0 from rfl] at hx111_2); (try rw [Addr.add_zero'] at hx111_2); (try rw [show ((0 : Int)).toNat = 0 from rfl] at hx111_3); (try rw [show 0 * 4 = 0 from rfl] at hx111_3); (try rw [Addr.add_zero'] at hx111_3); replace p111 := eq_true p111; replace q111 := eq_true q111; have p112 : 0 ≤ (0 : Int) := (by omega); have q112 : 0 < (t101.length : Int) := of_decide_eq_true (by first | (with_reducible assumption) | assumption); obtain ⟨ad112, e112, hx112_0, hx112_1, hx112_2, hx112_3⟩ := at_T63 (Kd.R_reads' HO105.out).2.2 0 p112 q112; obtain rfl : ad111 = ad112 := (by injection e112); have qi112 : (0 < t101.length) = True := eq_true (by omega); (try rw [show ((0 : Int)).toNat = 0 from rfl] at hx112_0); (try rw [show 0 * 4 = 0 from rfl] at hx112_0); (try rw [Addr.add_zero'] at hx112_0); (try rw [show ((0 : Int)).toNat = 0 from rfl] at hx112_1); (try rw [show 0 * 4 = 0 from rfl] at hx112_1); (try rw [Addr.add_zero'] at hx112_1); (try rw [show ((0 : Int)).toNat = 0 from rfl] at hx112_2); (try rw [show 0 * 4 = 0 from rfl] at hx112_2); (try rw [Addr.add_zero'] at hx112_2); (try rw [show ((0 : Int)).toNat = 0 from rfl] at hx112_3); (try rw [show 0 * 4 = 0 from rfl] at hx112_3); (try rw [Addr.add_zero'] at hx112_3); replace p112 := eq_true p112; replace q112 := eq_true q112))
            go_ret
            exact ⟨by first | rfl | (simp [errW_none, errW_some] <;> rfl) | (simp [*, errW_none, errW_some] <;> rfl), by repeat (first | (with_reducible first | exact HB.out | apply below_alloc | apply pw_below_drewN | apply below_drew1) | exact HB.out)⟩
        · rw [if_neg c6] at H
          have c6b0 : (((rd_T63 t101 0).f0) == 1) = false := beq_eq_false_iff_ne.mpr c6
          have c6b1 : (((rd_T63 t101 0).f0) != 1) = true := bne_iff_ne.mpr c6
          obtain rfl := Option.some.inj H
          go_enter Tryz.func10, Tryz.ntmps10
          go_wp2_with (first | ((with_reducible refine gate_callee (f := 22) rfl ?_); refine goesL_ (some 8) rfl rfl Tryz.func22 (by kernel_rfl) rfl #[.string (⟨#[99, 108, 97, 115, 115, 32, 60, 85, 48, 48, 52, 49, 62, 59, 37, 120]⟩ : ByteArray)] rfl (by (try simp only [List.map_toArray, List.map_cons, List.map_nil]); first | done | rfl | (simp only [List.length_drop, List.length_take]; rfl)) ?_; (with_reducible refine (lex_Tokens.calls (⟨#[99, 108, 97, 115, 115, 32, 60, 85, 48, 48, 52, 49, 62, 59, 37, 120]⟩ : ByteArray) t101 t102 t103 _ A1.out).mono ?_); rintro e w43 ⟨v104, rfl, ho0, hb⟩; refine ⟨_, rfl, ?_⟩; have n0_ := Aside0.mk (Kd.R_lower ho0 (below_size (by repeat (first | (with_reducible first | exact HB.out | apply below_alloc | apply pw_below_drewN | apply below_drew1) | exact HB.out)))); have n1_ := Aside0.mk (below_step (by repeat (first | (with_reducible first | exact HB.out | apply below_alloc | apply pw_below_drewN | apply below_drew1) | exact HB.out)) hb); clear HB; have HO105 := n0_; have HB := n1_; clear n0_ n1_; (try clear hb); (try clear hb2); (try clear hk); (try clear hi); (try clear ho0)) | ((with_reducible refine gate_callee (f := 22) rfl ?_); refine goesL_ (some 13) rfl rfl Tryz.func22 (by kernel_rfl) rfl #[.string (⟨#[97, 32, 33]⟩ : ByteArray)] rfl (by (try simp only [List.map_toArray, List.map_cons, List.map_nil]); first | done | rfl | (simp only [List.length_drop, List.length_take]; rfl)) ?_; (with_reducible refine (lex_Tokens.calls (⟨#[97, 32, 33]⟩ : ByteArray) t106 t107 t108 _ A2.out).mono ?_); rintro e w44 ⟨v109, rfl, ho0, hb⟩; refine ⟨_, rfl, ?_⟩; have n0_ := Aside0.mk (Kd.R_elder' (by (with_reducible repeat (first | apply Kd.R_alloc | apply Kd.R_drewN | apply Kd.R_drew)); exact HO105.out) (Kd.R_base ho0) hb); have n1_ := Aside0.mk (Kd.R_lower (Kd.R_new' ho0 (Kd.R_lt (by (with_reducible repeat (first | apply Kd.R_alloc | apply Kd.R_drewN | apply Kd.R_drew)); exact HO105.out))) (below_size (by repeat (first | (with_reducible first | exact HB.out | apply below_alloc | apply pw_below_drewN | apply below_drew1) | exact HB.out)))); have n2_ := Aside0.mk (below_step (by repeat (first | (with_reducible first | exact HB.out | apply below_alloc | apply pw_below_drewN | apply below_drew1) | exact HB.out)) hb); clear HO105; clear HB; have HO105 := n0_; have HO110 := n1_; have HB := n2_; clear n0_ n1_ n2_; (try clear hb); (try clear hb2); (try clear hk); (try clear hi); (try clear ho0); obtain ⟨Ao45, co45, eo45⟩ := Kd.R_slice HO105.out; subst eo45; have p111 : 0 ≤ (0 : Int) := (by omega); have q111 : 0 < (t101.length : Int) := of_decide_eq_true (by first | (with_reducible assumption) | assumption); obtain ⟨ad111, e111, hx111_0, hx111_1, hx111_2, hx111_3⟩ := at_T63 (Kd.R_reads' HO105.out).2.2 0 p111 q111; cases e111; have qi111 : (0 < t101.length) = True := eq_true (by omega); (try rw [show ((0 : Int)).toNat = 0 from rfl] at hx111_0); (try rw [show 0 * 4 = 0 from rfl] at hx111_0); (try rw [Addr.add_zero'] at hx111_0); (try rw [show ((0 : Int)).toNat = 0 from rfl] at hx111_1); (try rw [show 0 * 4 = 0 from rfl] at hx111_1); (try rw [Addr.add_zero'] at hx111_1); (try rw [show ((0 : Int)).toNat = 0 from rfl] at hx111_2); (try rw [show 0 * 4 = 0 from rfl] at hx111_2); (try rw [Addr.add_zero'] at hx111_2); (try rw [show ((0 : Int)).toNat = 0 from rfl] at hx111_3); (try rw [show 0 * 4 = 0 from rfl] at hx111_3); (try rw [Addr.add_zero'] at hx111_3); replace p111 := eq_true p111; replace q111 := eq_true q111))
          go_ret
          exact ⟨by first | rfl | (simp [errW_none, errW_some] <;> rfl) | (simp [*, errW_none, errW_some] <;> rfl), by repeat (first | (with_reducible first | exact HB.out | apply below_alloc | apply pw_below_drewN | apply below_drew1) | exact HB.out)⟩
      · rw [if_neg c5] at H
        exact absurd H (by simp)
    · rw [if_neg c4] at H
      have c4b0 : ((t101.length : Int) == 4) = false := beq_eq_false_iff_ne.mpr c4
      have c4b1 : ((t101.length : Int) != 4) = true := bne_iff_ne.mpr c4
      obtain rfl := Option.some.inj H
      go_enter Tryz.func10, Tryz.ntmps10
      go_wp2_with (first | ((with_reducible refine gate_callee (f := 22) rfl ?_); refine goesL_ (some 8) rfl rfl Tryz.func22 (by kernel_rfl) rfl #[.string (⟨#[99, 108, 97, 115, 115, 32, 60, 85, 48, 48, 52, 49, 62, 59, 37, 120]⟩ : ByteArray)] rfl (by (try simp only [List.map_toArray, List.map_cons, List.map_nil]); first | done | rfl | (simp only [List.length_drop, List.length_take]; rfl)) ?_; (with_reducible refine (lex_Tokens.calls (⟨#[99, 108, 97, 115, 115, 32, 60, 85, 48, 48, 52, 49, 62, 59, 37, 120]⟩ : ByteArray) t101 t102 t103 _ A1.out).mono ?_); rintro e w46 ⟨v104, rfl, ho0, hb⟩; refine ⟨_, rfl, ?_⟩; have n0_ := Aside0.mk (Kd.R_lower ho0 (below_size (by repeat (first | (with_reducible first | exact HB.out | apply below_alloc | apply pw_below_drewN | apply below_drew1) | exact HB.out)))); have n1_ := Aside0.mk (below_step (by repeat (first | (with_reducible first | exact HB.out | apply below_alloc | apply pw_below_drewN | apply below_drew1) | exact HB.out)) hb); clear HB; have HO105 := n0_; have HB := n1_; clear n0_ n1_; (try clear hb); (try clear hb2); (try clear hk); (try clear hi); (try clear ho0)) | ((with_reducible refine gate_callee (f := 22) rfl ?_); refine goesL_ (some 13) rfl rfl Tryz.func22 (by kernel_rfl) rfl #[.string (⟨#[97, 32, 33]⟩ : ByteArray)] rfl (by (try simp only [List.map_toArray, List.map_cons, List.map_nil]); first | done | rfl | (simp only [List.length_drop, List.length_take]; rfl)) ?_; (with_reducible refine (lex_Tokens.calls (⟨#[97, 32, 33]⟩ : ByteArray) t106 t107 t108 _ A2.out).mono ?_); rintro e w47 ⟨v109, rfl, ho0, hb⟩; refine ⟨_, rfl, ?_⟩; have n0_ := Aside0.mk (Kd.R_elder' (by (with_reducible repeat (first | apply Kd.R_alloc | apply Kd.R_drewN | apply Kd.R_drew)); exact HO105.out) (Kd.R_base ho0) hb); have n1_ := Aside0.mk (Kd.R_lower (Kd.R_new' ho0 (Kd.R_lt (by (with_reducible repeat (first | apply Kd.R_alloc | apply Kd.R_drewN | apply Kd.R_drew)); exact HO105.out))) (below_size (by repeat (first | (with_reducible first | exact HB.out | apply below_alloc | apply pw_below_drewN | apply below_drew1) | exact HB.out)))); have n2_ := Aside0.mk (below_step (by repeat (first | (with_reducible first | exact HB.out | apply below_alloc | apply pw_below_drewN | apply below_drew1) | exact HB.out)) hb); clear HO105; clear HB; have HO105 := n0_; have HO110 := n1_; have HB := n2_; clear n0_ n1_ n2_; (try clear hb); (try clear hb2); (try clear hk); (try clear hi); (try clear ho0); obtain ⟨Ao48, co48, eo48⟩ := Kd.R_slice HO105.out; subst eo48))
      go_ret
      exact ⟨by first | rfl | (simp [errW_none, errW_some] <;> rfl) | (simp [*, errW_none, errW_some] <;> rfl), by repeat (first | (with_reducible first | exact HB.out | apply below_alloc | apply pw_below_drewN | apply below_drew1) | exact HB.out)⟩
  · rw [if_neg c3] at H
    have c3b0 : (t102 == 0) = false := beq_eq_false_iff_ne.mpr c3
    have c3b1 : (t102 != 0) = true := bne_iff_ne.mpr c3
    obtain rfl := Option.some.inj H
    go_enter Tryz.func10, Tryz.ntmps10
    go_wp2_with (first | ((with_reducible refine gate_callee (f := 22) rfl ?_); refine goesL_ (some 8) rfl rfl Tryz.func22 (by kernel_rfl) rfl #[.string (⟨#[99, 108, 97, 115, 115, 32, 60, 85, 48, 48, 52, 49, 62, 59, 37, 120]⟩ : ByteArray)] rfl (by (try simp only [List.map_toArray, List.map_cons, List.map_nil]); first | done | rfl | (simp only [List.length_drop, List.length_take]; rfl)) ?_; (with_reducible refine (lex_Tokens.calls (⟨#[99, 108, 97, 115, 115, 32, 60, 85, 48, 48, 52, 49, 62, 59, 37, 120]⟩ : ByteArray) t101 t102 t103 _ A1.out).mono ?_); rintro e w49 ⟨v104, rfl, ho0, hb⟩; refine ⟨_, rfl, ?_⟩; have n0_ := Aside0.mk (Kd.R_lower ho0 (below_size (by repeat (first | (with_reducible first | exact HB.out | apply below_alloc | apply pw_below_drewN | apply below_drew1) | exact HB.out)))); have n1_ := Aside0.mk (below_step (by repeat (first | (with_reducible first | exact HB.out | apply below_alloc | apply pw_below_drewN | apply below_drew1) | exact HB.out)) hb); clear HB; have HO105 := n0_; have HB := n1_; clear n0_ n1_; (try clear hb); (try clear hb2); (try clear hk); (try clear hi); (try clear ho0)) | ((with_reducible refine gate_callee (f := 22) rfl ?_); refine goesL_ (some 13) rfl rfl Tryz.func22 (by kernel_rfl) rfl #[.string (⟨#[97, 32, 33]⟩ : ByteArray)] rfl (by (try simp only [List.map_toArray, List.map_cons, List.map_nil]); first | done | rfl | (simp only [List.length_drop, List.length_take]; rfl)) ?_; (with_reducible refine (lex_Tokens.calls (⟨#[97, 32, 33]⟩ : ByteArray) t106 t107 t108 _ A2.out).mono ?_); rintro e w50 ⟨v109, rfl, ho0, hb⟩; refine ⟨_, rfl, ?_⟩; have n0_ := Aside0.mk (Kd.R_elder' (by (with_reducible repeat (first | apply Kd.R_alloc | apply Kd.R_drewN | apply Kd.R_drew)); exact HO105.out) (Kd.R_base ho0) hb); have n1_ := Aside0.mk (Kd.R_lower (Kd.R_new' ho0 (Kd.R_lt (by (with_reducible repeat (first | apply Kd.R_alloc | apply Kd.R_drewN | apply Kd.R_drew)); exact HO105.out))) (below_size (by repeat (first | (with_reducible first | exact HB.out | apply below_alloc | apply pw_below_drewN | apply below_drew1) | exact HB.out)))); have n2_ := Aside0.mk (below_step (by repeat (first | (with_reducible first | exact HB.out | apply below_alloc | apply pw_below_drewN | apply below_drew1) | exact HB.out)) hb); clear HO105; clear HB; have HO105 := n0_; have HO110 := n1_; have HB := n2_; clear n0_ n1_ n2_; (try clear hb); (try clear hb2); (try clear hk); (try clear hi); (try clear ho0)))
    go_ret
    exact ⟨by first | rfl | (simp [errW_none, errW_some] <;> rfl) | (simp [*, errW_none, errW_some] <;> rfl), by repeat (first | (with_reducible first | exact HB.out | apply below_alloc | apply pw_below_drewN | apply below_drew1) | exact HB.out)⟩

/-! ### redactorlaw06_Text: function 11 -/
mutual
def redactorlaw06_Text.l0 : Nat → List Int → List ByteArray → ByteArray → Int → Option (ByteArray)
  | 0, _, _, _, _ => none
  | k + 1, x0, x3, x4, x5 => if x5 < (x0.length : Int) then (redactorlaw06_Text.j1 k x0 x3 x4 x5 (decide (x5 < 40))) else (redactorlaw06_Text.j1 k x0 x3 x4 x5 false)
def redactorlaw06_Text.j1 : Nat → List Int → List ByteArray → ByteArray → Int → Bool → Option (ByteArray)
  | 0, _, _, _, _, _ => none
  | k + 1, x0, x3, x4, x5, x15 => if x15 = true then (if 0 ≤ x5 then (if x5 < (x0.length : Int) then (if (wrap64 (rd x0 x5)) > 230 then (if 0 ≤ (wrap64 (16 + (Int.tmod (wrap64 (rd x0 x5)) 9))) then (if (wrap64 (16 + (Int.tmod (wrap64 (rd x0 x5)) 9))) < (x3.length : Int) then (if x4.size + (rdOf ByteArray.empty x3 (wrap64 (16 + (Int.tmod (wrap64 (rd x0 x5)) 9)))).size ≤ 9223372036854775807 then (if (x4 ++ (rdOf ByteArray.empty x3 (wrap64 (16 + (Int.tmod (wrap64 (rd x0 x5)) 9))))).size + 1 ≤ 9223372036854775807 then (redactorlaw06_Text.l0 k x0 x3 ((x4 ++ (rdOf ByteArray.empty x3 (wrap64 (16 + (Int.tmod (wrap64 (rd x0 x5)) 9))))) ++ (⟨#[32]⟩ : ByteArray)) (wrap64 (x5 + 1))) else (none)) else (none)) else (none)) else (none)) else (if 0 ≤ (Int.tmod (wrap64 (rd x0 x5)) 16) then (if (Int.tmod (wrap64 (rd x0 x5)) 16) < (x3.length : Int) then (if x4.size + (rdOf ByteArray.empty x3 (Int.tmod (wrap64 (rd x0 x5)) 16)).size ≤ 9223372036854775807 then (if (x4 ++ (rdOf ByteArray.empty x3 (Int.tmod (wrap64 (rd x0 x5)) 16))).size + 1 ≤ 9223372036854775807 then (redactorlaw06_Text.l0 k x0 x3 ((x4 ++ (rdOf ByteArray.empty x3 (Int.tmod (wrap64 (rd x0 x5)) 16))) ++ (⟨#[32]⟩ : ByteArray)) (wrap64 (x5 + 1))) else (none)) else (none)) else (none)) else (none))) else (none)) else (none)) else (some x4)
end
def redactorlaw06_Text.f (k : Nat) (l0 : List Int) : Option (ByteArray) := redactorlaw06_Text.l0 k l0 (([(⟨#[99, 108, 97, 115, 115]⟩ : ByteArray), (⟨#[111, 114, 100, 101, 114]⟩ : ByteArray), (⟨#[120]⟩ : ByteArray), (⟨#[60, 85, 48, 48, 52, 49, 62]⟩ : ByteArray), (⟨#[60, 85, 48, 48, 101, 57, 62]⟩ : ByteArray), (⟨#[60, 85, 49, 70, 54, 48, 48, 62]⟩ : ByteArray), (⟨#[60, 99, 104, 62]⟩ : ByteArray), (⟨#[34, 97, 98, 34]⟩ : ByteArray), (⟨#[34, 34]⟩ : ByteArray), (⟨#[59]⟩ : ByteArray), (⟨#[44]⟩ : ByteArray), (⟨#[40]⟩ : ByteArray), (⟨#[41]⟩ : ByteArray), (⟨#[46, 46, 46]⟩ : ByteArray), (⟨#[10]⟩ : ByteArray), (⟨#[37, 32, 119, 111, 114, 100, 10]⟩ : ByteArray), (⟨#[32]⟩ : ByteArray), (⟨#[60, 85, 68, 56, 48, 48, 62]⟩ : ByteArray), (⟨#[34, 97, 10]⟩ : ByteArray), (⟨#[60, 62]⟩ : ByteArray), (⟨#[33]⟩ : ByteArray), (⟨#[60, 85, 52, 49, 62]⟩ : ByteArray), (⟨#[102, 114, 111, 109]⟩ : ByteArray), (⟨#[9]⟩ : ByteArray), (⟨#[97, 45, 98, 95, 57]⟩ : ByteArray)] : List ByteArray)) (⟨#[]⟩ : ByteArray) 0
theorem redactorlaw06_Text.mono_l : ∀ k, (∀ y0 y1 y2 y3, LeO (redactorlaw06_Text.l0 k y0 y1 y2 y3) (redactorlaw06_Text.l0 (k + 1) y0 y1 y2 y3)) ∧ (∀ y0 y1 y2 y3 y4, LeO (redactorlaw06_Text.j1 k y0 y1 y2 y3 y4) (redactorlaw06_Text.j1 (k + 1) y0 y1 y2 y3 y4))
  | 0 => ⟨fun _ _ _ _ r h => by simp [redactorlaw06_Text.l0] at h, fun _ _ _ _ _ r h => by simp [redactorlaw06_Text.j1] at h⟩
  | k + 1 => by
    obtain ⟨ih0, ih1⟩ := redactorlaw06_Text.mono_l k
    refine ⟨?_, ?_⟩
    · intro y0 y1 y2 y3
      unfold redactorlaw06_Text.l0
      repeat' first
      | (with_reducible exact ih0 _ _ _ _)
      | (with_reducible exact ih1 _ _ _ _ _)
      | (with_reducible exact LeO.refl _)
      | (with_reducible exact LeO.none _)
      | (with_reducible refine LeO.ite ?_ ?_)
      | (with_reducible refine LeO.bind ?_ (fun _ => ?_))
      | exact ih0 _ _ _ _
      | exact ih1 _ _ _ _ _
      | exact LeO.none _
      | refine LeO.ite ?_ ?_
      | refine LeO.bind ?_ (fun _ => ?_)
    · intro y0 y1 y2 y3 y4
      unfold redactorlaw06_Text.j1
      repeat' first
      | (with_reducible exact ih0 _ _ _ _)
      | (with_reducible exact ih1 _ _ _ _ _)
      | (with_reducible exact LeO.refl _)
      | (with_reducible exact LeO.none _)
      | (with_reducible refine LeO.ite ?_ ?_)
      | (with_reducible refine LeO.bind ?_ (fun _ => ?_))
      | exact ih0 _ _ _ _
      | exact ih1 _ _ _ _ _
      | exact LeO.none _
      | refine LeO.ite ?_ ?_
      | refine LeO.bind ?_ (fun _ => ?_)
theorem redactorlaw06_Text.mono : ∀ a0 k, LeO (redactorlaw06_Text.f k a0) (redactorlaw06_Text.f (k + 1) a0) := by
  intro a0 k
  obtain ⟨ih0, ih1⟩ := redactorlaw06_Text.mono_l k
  unfold redactorlaw06_Text.f
  repeat' first
      | (with_reducible exact ih0 _ _ _ _)
      | (with_reducible exact ih1 _ _ _ _ _)
      | (with_reducible exact LeO.refl _)
      | (with_reducible exact LeO.none _)
      | (with_reducible refine LeO.ite ?_ ?_)
      | (with_reducible refine LeO.bind ?_ (fun _ => ?_))
      | exact ih0 _ _ _ _
      | exact ih1 _ _ _ _ _
      | exact LeO.none _
      | refine LeO.ite ?_ ?_
      | refine LeO.bind ?_ (fun _ => ?_)
set_option maxHeartbeats 8000000 in
set_option maxRecDepth 100000 in
theorem redactorlaw06_Text.calls (k : Nat) (A0 : Option Addr) (c0 : Nat) (l0 : List Int) (r : ByteArray) (w : World) (hr0 : Kd.C (Kd.int .u8) w A0 l0.length l0) (hc0 : l0.length ≤ c0) (h : redactorlaw06_Text.f k l0 = some r) :
    Calls Tryz.prog 11 #[.slice A0 l0.length c0] w fun e w' => e = .returned (.string r) ∧ Below w.heap.size w w' := by
  have HR0 := Aside0.mk hr0
  have HC0 := Aside0.mk hc0
  clear hr0 hc0
  have HB := Aside0.mk (Below.refl w.heap.size w)
  have H : (redactorlaw06_Text.l0 k l0 (([(⟨#[99, 108, 97, 115, 115]⟩ : ByteArray), (⟨#[111, 114, 100, 101, 114]⟩ : ByteArray), (⟨#[120]⟩ : ByteArray), (⟨#[60, 85, 48, 48, 52, 49, 62]⟩ : ByteArray), (⟨#[60, 85, 48, 48, 101, 57, 62]⟩ : ByteArray), (⟨#[60, 85, 49, 70, 54, 48, 48, 62]⟩ : ByteArray), (⟨#[60, 99, 104, 62]⟩ : ByteArray), (⟨#[34, 97, 98, 34]⟩ : ByteArray), (⟨#[34, 34]⟩ : ByteArray), (⟨#[59]⟩ : ByteArray), (⟨#[44]⟩ : ByteArray), (⟨#[40]⟩ : ByteArray), (⟨#[41]⟩ : ByteArray), (⟨#[46, 46, 46]⟩ : ByteArray), (⟨#[10]⟩ : ByteArray), (⟨#[37, 32, 119, 111, 114, 100, 10]⟩ : ByteArray), (⟨#[32]⟩ : ByteArray), (⟨#[60, 85, 68, 56, 48, 48, 62]⟩ : ByteArray), (⟨#[34, 97, 10]⟩ : ByteArray), (⟨#[60, 62]⟩ : ByteArray), (⟨#[33]⟩ : ByteArray), (⟨#[60, 85, 52, 49, 62]⟩ : ByteArray), (⟨#[102, 114, 111, 109]⟩ : ByteArray), (⟨#[9]⟩ : ByteArray), (⟨#[97, 45, 98, 95, 57]⟩ : ByteArray)] : List ByteArray)) (⟨#[]⟩ : ByteArray) 0) = some r := h
  clear h
  obtain ⟨y118, hy118⟩ : ∃ y_ : List ByteArray, y_ = (([(⟨#[99, 108, 97, 115, 115]⟩ : ByteArray), (⟨#[111, 114, 100, 101, 114]⟩ : ByteArray), (⟨#[120]⟩ : ByteArray), (⟨#[60, 85, 48, 48, 52, 49, 62]⟩ : ByteArray), (⟨#[60, 85, 48, 48, 101, 57, 62]⟩ : ByteArray), (⟨#[60, 85, 49, 70, 54, 48, 48, 62]⟩ : ByteArray), (⟨#[60, 99, 104, 62]⟩ : ByteArray), (⟨#[34, 97, 98, 34]⟩ : ByteArray), (⟨#[34, 34]⟩ : ByteArray), (⟨#[59]⟩ : ByteArray), (⟨#[44]⟩ : ByteArray), (⟨#[40]⟩ : ByteArray), (⟨#[41]⟩ : ByteArray), (⟨#[46, 46, 46]⟩ : ByteArray), (⟨#[10]⟩ : ByteArray), (⟨#[37, 32, 119, 111, 114, 100, 10]⟩ : ByteArray), (⟨#[32]⟩ : ByteArray), (⟨#[60, 85, 68, 56, 48, 48, 62]⟩ : ByteArray), (⟨#[34, 97, 10]⟩ : ByteArray), (⟨#[60, 62]⟩ : ByteArray), (⟨#[33]⟩ : ByteArray), (⟨#[60, 85, 52, 49, 62]⟩ : ByteArray), (⟨#[102, 114, 111, 109]⟩ : ByteArray), (⟨#[9]⟩ : ByteArray), (⟨#[97, 45, 98, 95, 57]⟩ : ByteArray)] : List ByteArray)) := ⟨_, rfl⟩
  replace H : (redactorlaw06_Text.l0 k l0 y118 (⟨#[]⟩ : ByteArray) 0) = some r := by first | (rw [hy118]; with_reducible exact H) | (have H2_ := (Option.bind_some _ _).symm.trans H; rw [hy118]; with_reducible exact H2_) | (have H2_ := (Option.bind_some _ _).symm.trans H; with_reducible exact H2_) | with_reducible exact H | (rw [hy118]; exact H) | exact H
  have Ny118 := Aside0.mk hy118
  clear hy118
  have H' := Aside0.mk H
  clear H
  go_enter Tryz.func11, Tryz.ntmps11
  go_wp2_with (first | ((with_reducible refine gate_dst (N := 7) rfl ?_); refine Kd.R_lit Kd.string _ 9 ?hg (N := 7) ?hd (xs := ([(⟨#[99, 108, 97, 115, 115]⟩ : ByteArray), (⟨#[111, 114, 100, 101, 114]⟩ : ByteArray), (⟨#[120]⟩ : ByteArray), (⟨#[60, 85, 48, 48, 52, 49, 62]⟩ : ByteArray), (⟨#[60, 85, 48, 48, 101, 57, 62]⟩ : ByteArray), (⟨#[60, 85, 49, 70, 54, 48, 48, 62]⟩ : ByteArray), (⟨#[60, 99, 104, 62]⟩ : ByteArray), (⟨#[34, 97, 98, 34]⟩ : ByteArray), (⟨#[34, 34]⟩ : ByteArray), (⟨#[59]⟩ : ByteArray), (⟨#[44]⟩ : ByteArray), (⟨#[40]⟩ : ByteArray), (⟨#[41]⟩ : ByteArray), (⟨#[46, 46, 46]⟩ : ByteArray), (⟨#[10]⟩ : ByteArray), (⟨#[37, 32, 119, 111, 114, 100, 10]⟩ : ByteArray), (⟨#[32]⟩ : ByteArray), (⟨#[60, 85, 68, 56, 48, 48, 62]⟩ : ByteArray), (⟨#[34, 97, 10]⟩ : ByteArray), (⟨#[60, 62]⟩ : ByteArray), (⟨#[33]⟩ : ByteArray), (⟨#[60, 85, 52, 49, 62]⟩ : ByteArray), (⟨#[102, 114, 111, 109]⟩ : ByteArray), (⟨#[9]⟩ : ByteArray), (⟨#[97, 45, 98, 95, 57]⟩ : ByteArray)] : List ByteArray)) (inner := [.string (⟨#[99, 108, 97, 115, 115]⟩ : ByteArray), .string (⟨#[111, 114, 100, 101, 114]⟩ : ByteArray), .string (⟨#[120]⟩ : ByteArray), .string (⟨#[60, 85, 48, 48, 52, 49, 62]⟩ : ByteArray), .string (⟨#[60, 85, 48, 48, 101, 57, 62]⟩ : ByteArray), .string (⟨#[60, 85, 49, 70, 54, 48, 48, 62]⟩ : ByteArray), .string (⟨#[60, 99, 104, 62]⟩ : ByteArray), .string (⟨#[34, 97, 98, 34]⟩ : ByteArray), .string (⟨#[34, 34]⟩ : ByteArray), .string (⟨#[59]⟩ : ByteArray), .string (⟨#[44]⟩ : ByteArray), .string (⟨#[40]⟩ : ByteArray), .string (⟨#[41]⟩ : ByteArray), .string (⟨#[46, 46, 46]⟩ : ByteArray), .string (⟨#[10]⟩ : ByteArray), .string (⟨#[37, 32, 119, 111, 114, 100, 10]⟩ : ByteArray), .string (⟨#[32]⟩ : ByteArray), .string (⟨#[60, 85, 68, 56, 48, 48, 62]⟩ : ByteArray), .string (⟨#[34, 97, 10]⟩ : ByteArray), .string (⟨#[60, 62]⟩ : ByteArray), .string (⟨#[33]⟩ : ByteArray), .string (⟨#[60, 85, 52, 49, 62]⟩ : ByteArray), .string (⟨#[102, 114, 111, 109]⟩ : ByteArray), .string (⟨#[9]⟩ : ByteArray), .string (⟨#[97, 45, 98, 95, 57]⟩ : ByteArray)]) (ok := fun _ => True) (okp := fun _ => True) ?hr ?hp (fun _ hk => hk) trivial (Below.refl _ _) (Nat.le_refl _) (by simp) ?_; (case hd => rfl); (case hg => rfl); (case hr => first | (go_simp; done) | (go_simp; rfl)); (case hp => exact (Reps.one (show Kd.M Kd.string _ _ _ (⟨#[99, 108, 97, 115, 115]⟩ : ByteArray) [.string (⟨#[99, 108, 97, 115, 115]⟩ : ByteArray)] from rfl) (Reps.one (show Kd.M Kd.string _ _ _ (⟨#[111, 114, 100, 101, 114]⟩ : ByteArray) [.string (⟨#[111, 114, 100, 101, 114]⟩ : ByteArray)] from rfl) (Reps.one (show Kd.M Kd.string _ _ _ (⟨#[120]⟩ : ByteArray) [.string (⟨#[120]⟩ : ByteArray)] from rfl) (Reps.one (show Kd.M Kd.string _ _ _ (⟨#[60, 85, 48, 48, 52, 49, 62]⟩ : ByteArray) [.string (⟨#[60, 85, 48, 48, 52, 49, 62]⟩ : ByteArray)] from rfl) (Reps.one (show Kd.M Kd.string _ _ _ (⟨#[60, 85, 48, 48, 101, 57, 62]⟩ : ByteArray) [.string (⟨#[60, 85, 48, 48, 101, 57, 62]⟩ : ByteArray)] from rfl) (Reps.one (show Kd.M Kd.string _ _ _ (⟨#[60, 85, 49, 70, 54, 48, 48, 62]⟩ : ByteArray) [.string (⟨#[60, 85, 49, 70, 54, 48, 48, 62]⟩ : ByteArray)] from rfl) (Reps.one (show Kd.M Kd.string _ _ _ (⟨#[60, 99, 104, 62]⟩ : ByteArray) [.string (⟨#[60, 99, 104, 62]⟩ : ByteArray)] from rfl) (Reps.one (show Kd.M Kd.string _ _ _ (⟨#[34, 97, 98, 34]⟩ : ByteArray) [.string (⟨#[34, 97, 98, 34]⟩ : ByteArray)] from rfl) (Reps.one (show Kd.M Kd.string _ _ _ (⟨#[34, 34]⟩ : ByteArray) [.string (⟨#[34, 34]⟩ : ByteArray)] from rfl) (Reps.one (show Kd.M Kd.string _ _ _ (⟨#[59]⟩ : ByteArray) [.string (⟨#[59]⟩ : ByteArray)] from rfl) (Reps.one (show Kd.M Kd.string _ _ _ (⟨#[44]⟩ : ByteArray) [.string (⟨#[44]⟩ : ByteArray)] from rfl) (Reps.one (show Kd.M Kd.string _ _ _ (⟨#[40]⟩ : ByteArray) [.string (⟨#[40]⟩ : ByteArray)] from rfl) (Reps.one (show Kd.M Kd.string _ _ _ (⟨#[41]⟩ : ByteArray) [.string (⟨#[41]⟩ : ByteArray)] from rfl) (Reps.one (show Kd.M Kd.string _ _ _ (⟨#[46, 46, 46]⟩ : ByteArray) [.string (⟨#[46, 46, 46]⟩ : ByteArray)] from rfl) (Reps.one (show Kd.M Kd.string _ _ _ (⟨#[10]⟩ : ByteArray) [.string (⟨#[10]⟩ : ByteArray)] from rfl) (Reps.one (show Kd.M Kd.string _ _ _ (⟨#[37, 32, 119, 111, 114, 100, 10]⟩ : ByteArray) [.string (⟨#[37, 32, 119, 111, 114, 100, 10]⟩ : ByteArray)] from rfl) (Reps.one (show Kd.M Kd.string _ _ _ (⟨#[32]⟩ : ByteArray) [.string (⟨#[32]⟩ : ByteArray)] from rfl) (Reps.one (show Kd.M Kd.string _ _ _ (⟨#[60, 85, 68, 56, 48, 48, 62]⟩ : ByteArray) [.string (⟨#[60, 85, 68, 56, 48, 48, 62]⟩ : ByteArray)] from rfl) (Reps.one (show Kd.M Kd.string _ _ _ (⟨#[34, 97, 10]⟩ : ByteArray) [.string (⟨#[34, 97, 10]⟩ : ByteArray)] from rfl) (Reps.one (show Kd.M Kd.string _ _ _ (⟨#[60, 62]⟩ : ByteArray) [.string (⟨#[60, 62]⟩ : ByteArray)] from rfl) (Reps.one (show Kd.M Kd.string _ _ _ (⟨#[33]⟩ : ByteArray) [.string (⟨#[33]⟩ : ByteArray)] from rfl) (Reps.one (show Kd.M Kd.string _ _ _ (⟨#[60, 85, 52, 49, 62]⟩ : ByteArray) [.string (⟨#[60, 85, 52, 49, 62]⟩ : ByteArray)] from rfl) (Reps.one (show Kd.M Kd.string _ _ _ (⟨#[102, 114, 111, 109]⟩ : ByteArray) [.string (⟨#[102, 114, 111, 109]⟩ : ByteArray)] from rfl) (Reps.one (show Kd.M Kd.string _ _ _ (⟨#[9]⟩ : ByteArray) [.string (⟨#[9]⟩ : ByteArray)] from rfl) (Reps.one (show Kd.M Kd.string _ _ _ (⟨#[97, 45, 98, 95, 57]⟩ : ByteArray) [.string (⟨#[97, 45, 98, 95, 57]⟩ : ByteArray)] from rfl) (Reps.none _ _))))))))))))))))))))))))))); intro v119 w2 ho3 hb hg_ hnew_; clear hg_ hnew_; (first | rw [← Ny118.out] at ho3 | (simp only [Int.reduceToNat] at ho3; rw [← Ny118.out] at ho3)); have n0_ := Aside0.mk (Kd.R_lower ho3 (below_size (by repeat (first | (with_reducible first | exact HB.out | apply below_alloc | apply pw_below_drewN | apply below_drew1) | exact HB.out)))); have n1_ := Aside0.mk (below_step (by repeat (first | (with_reducible first | exact HB.out | apply below_alloc | apply pw_below_drewN | apply below_drew1) | exact HB.out)) hb); clear HB; have HO120 := n0_; have HB := n1_; clear n0_ n1_; clear hb ho3))
  go_loopg [4, 5] k (fun kq v4 v5 w' => ∃ (x4_1 : ByteArray) (x5_1 : Int), v4 = .string x4_1 ∧ v5 = .int .i64 x5_1 ∧ Aside0 (redactorlaw06_Text.l0 kq l0 y118 x4_1 x5_1 = some r) ∧ Aside0 (kq ≤ k) ∧ Aside0 (Kd.R Kd.string 9 w' w.heap.size (fun _ => True) v119 y118) ∧ Aside0 (Below w.heap.size w w'))
  case atStart => exact ⟨((⟨#[]⟩ : ByteArray)), (0), (by first | rfl | (simp; done) | (simp [*]; done)), (by first | rfl | (simp; done) | (simp [*]; done)), H', ⟨Nat.le_refl _⟩, ⟨by (with_reducible repeat (first | apply Kd.R_alloc | apply Kd.R_drewN | apply Kd.R_drew)); exact HO120.out⟩, ⟨by repeat (first | (with_reducible first | exact HB.out | apply below_alloc | apply pw_below_drewN | apply below_drew1) | exact HB.out)⟩⟩
  case round =>
    clear H'
    try clear c1
    try clear p2
    obtain ⟨x4_1, x5_1, rfl, rfl, HA, HK1, HO_3, HB⟩ := hrel
    cases gk with
    | zero => exact absurd HA.out (by simp [redactorlaw06_Text.l0])
    | succ k1 =>
      have H := HA.out
      clear HA
      simp only [redactorlaw06_Text.l0] at H
      have HC4 := Aside0.mk H
      clear H
      go_upto_region 4 with (fail)
      go_cut [15] (fun v15 wc => ∃ (kq : Nat) (x15_3 : Bool), v15 = .bool x15_3 ∧ Aside0 (redactorlaw06_Text.j1 kq l0 y118 x4_1 x5_1 x15_3 = some r) ∧ Aside0 (kq ≤ k1) ∧ Aside0 (Kd.R Kd.string 9 wc w.heap.size (fun _ => True) v119 y118) ∧ Aside0 (Below w.heap.size w wc))
      case first =>
        have H := HC4.out
        clear HC4
        by_cases c5 : x5_1 < (l0.length : Int)
        · rw [if_pos c5] at H
          have c5b0 : decide (x5_1 < (l0.length : Int)) = true := decide_eq_true c5
          clear c5
          (first | rw [c5b0] | (simp only [i64_w, i32_w]; rw [c5b0]) | skip)
          have H' := Aside0.mk H
          clear H
          go_wp2
          go_meet
          case rel => exact ⟨_, (decide (x5_1 < 40)), (by first | rfl | (simp; done) | (simp [*]; done)), H', ⟨by have := HK1.out; first | omega | exact Nat.le_refl _⟩, ⟨by (with_reducible repeat (first | apply Kd.R_alloc | apply Kd.R_drewN | apply Kd.R_drew)); exact HO_3.out⟩, ⟨by repeat (first | (with_reducible first | exact HB.out | apply below_alloc | apply pw_below_drewN | apply below_drew1) | exact HB.out)⟩⟩
        · rw [if_neg c5] at H
          have c5b0 : decide (x5_1 < (l0.length : Int)) = false := decide_eq_false c5
          clear c5
          (first | rw [c5b0] | (simp only [i64_w, i32_w]; rw [c5b0]) | skip)
          have H' := Aside0.mk H
          clear H
          go_wp2
          go_meet
          case rel => exact ⟨_, (false), (by first | rfl | (simp; done) | (simp [*]; done)), H', ⟨by have := HK1.out; first | omega | exact Nat.le_refl _⟩, ⟨by (with_reducible repeat (first | apply Kd.R_alloc | apply Kd.R_drewN | apply Kd.R_drew)); exact HO_3.out⟩, ⟨by repeat (first | (with_reducible first | exact HB.out | apply below_alloc | apply pw_below_drewN | apply below_drew1) | exact HB.out)⟩⟩
      case rest =>
        clear HC4
        try clear c1
        try clear p2
        try clear c5
        try clear c5b0
        try clear p2
        obtain ⟨kq, x15_3, rfl, HA, HJ3, HO_3, HB⟩ := hcut
        cases kq with
        | zero => exact absurd HA.out (by simp [redactorlaw06_Text.j1])
        | succ kj3 =>
          have H := HA.out
          clear HA
          simp only [redactorlaw06_Text.j1] at H
          by_cases c6 : x15_3 = true
          · subst c6
            have H1 : (if 0 ≤ x5_1 then (if x5_1 < (l0.length : Int) then (if (wrap64 (rd l0 x5_1)) > 230 then (if 0 ≤ (wrap64 (16 + (Int.tmod (wrap64 (rd l0 x5_1)) 9))) then (if (wrap64 (16 + (Int.tmod (wrap64 (rd l0 x5_1)) 9))) < (y118.length : Int) then (if x4_1.size + (rdOf ByteArray.empty y118 (wrap64 (16 + (Int.tmod (wrap64 (rd l0 x5_1)) 9)))).size ≤ 9223372036854775807 then (if (x4_1 ++ (rdOf ByteArray.empty y118 (wrap64 (16 + (Int.tmod (wrap64 (rd l0 x5_1)) 9))))).size + 1 ≤ 9223372036854775807 then (redactorlaw06_Text.l0 kj3 l0 y118 ((x4_1 ++ (rdOf ByteArray.empty y118 (wrap64 (16 + (Int.tmod (wrap64 (rd l0 x5_1)) 9))))) ++ (⟨#[32]⟩ : ByteArray)) (wrap64 (x5_1 + 1))) else (none)) else (none)) else (none)) else (none)) else (if 0 ≤ (Int.tmod (wrap64 (rd l0 x5_1)) 16) then (if (Int.tmod (wrap64 (rd l0 x5_1)) 16) < (y118.length : Int) then (if x4_1.size + (rdOf ByteArray.empty y118 (Int.tmod (wrap64 (rd l0 x5_1)) 16)).size ≤ 9223372036854775807 then (if (x4_1 ++ (rdOf ByteArray.empty y118 (Int.tmod (wrap64 (rd l0 x5_1)) 16))).size + 1 ≤ 9223372036854775807 then (redactorlaw06_Text.l0 kj3 l0 y118 ((x4_1 ++ (rdOf ByteArray.empty y118 (Int.tmod (wrap64 (rd l0 x5_1)) 16))) ++ (⟨#[32]⟩ : ByteArray)) (wrap64 (x5_1 + 1))) else (none)) else (none)) else (none)) else (none))) else (none)) else (none)) = some r := by rw [if_pos rfl] at H; exact H
            clear H
            have H := H1
            clear H1
            by_cases c7 : 0 ≤ x5_1
            · rw [if_pos c7] at H
              have c7b0 : decide (0 ≤ x5_1) = true := decide_eq_true c7
              clear c7
              by_cases c8 : x5_1 < (l0.length : Int)
              · rw [if_pos c8] at H
                have c8b0 : decide (x5_1 < (l0.length : Int)) = true := decide_eq_true c8
                clear c8
                by_cases c9 : (wrap64 (rd l0 x5_1)) > 230
                · rw [if_pos c9] at H
                  have c9b0 : decide (230 < (wrap64 (rd l0 x5_1))) = true := decide_eq_true c9
                  clear c9
                  obtain ⟨ji10, hji10⟩ : ∃ j_ : Int, (wrap64 (16 + (Int.tmod (wrap64 (rd l0 x5_1)) 9))) = j_ := ⟨_, rfl⟩
                  replace H : (if 0 ≤ (ji10) then (if (ji10) < (y118.length : Int) then (if x4_1.size + (rdOf ByteArray.empty y118 (ji10)).size ≤ 9223372036854775807 then (if (x4_1 ++ (rdOf ByteArray.empty y118 (ji10))).size + 1 ≤ 9223372036854775807 then (redactorlaw06_Text.l0 kj3 l0 y118 ((x4_1 ++ (rdOf ByteArray.empty y118 (ji10))) ++ (⟨#[32]⟩ : ByteArray)) (wrap64 (x5_1 + 1))) else (none)) else (none)) else (none)) else (none)) = some r := by first | (rw [hji10] at H; exact H) | (simp only [hji10] at H ⊢; exact H)
                  have hji10w : (IntKind.i64.wrap (16 + (Int.tmod (wrap64 (rd l0 x5_1)) 9))) = ji10 := (i64_w _).trans hji10
                  by_cases c11 : 0 ≤ (ji10)
                  · rw [if_pos c11] at H
                    have c11b0 : decide (0 ≤ (ji10)) = true := decide_eq_true c11
                    clear c11
                    by_cases c12 : (ji10) < (y118.length : Int)
                    · rw [if_pos c12] at H
                      have c12b0 : decide ((ji10) < (y118.length : Int)) = true := decide_eq_true c12
                      clear c12
                      by_cases c13 : x4_1.size + (rdOf ByteArray.empty y118 (ji10)).size ≤ 9223372036854775807
                      · rw [if_pos c13] at H
                        have c13b0 := eq_true c13
                        have c13b1 : decide (x4_1.size + (rdOf ByteArray.empty y118 (ji10)).size ≤ 9223372036854775807) = true := decide_eq_true c13
                        try have c13b2 : (9223372036854775807 < x4_1.size + (rdOf ByteArray.empty y118 (ji10)).size) = False := eq_false (Nat.not_lt.2 c13)
                        by_cases c14 : (x4_1 ++ (rdOf ByteArray.empty y118 (ji10))).size + 1 ≤ 9223372036854775807
                        · rw [if_pos c14] at H
                          have c14b0 := eq_true c14
                          have c14b1 : decide ((x4_1 ++ (rdOf ByteArray.empty y118 (ji10))).size + 1 ≤ 9223372036854775807) = true := decide_eq_true c14
                          try have c14b2 : (9223372036854775807 < (x4_1 ++ (rdOf ByteArray.empty y118 (ji10))).size + 1) = False := eq_false (Nat.not_lt.2 c14)
                          try have c14b8 := c14b2
                          try simp only [ByteArray.size_append, go_sem, List.size_toArray, List.length_cons, List.length_nil, Nat.zero_add, Nat.reduceAdd] at c14b8
                          have H' := Aside0.mk H
                          clear H
                          have p121 : 0 ≤ (x5_1 : Int) := of_decide_eq_true (by first | (with_reducible assumption) | assumption)
                          have q121 : x5_1 < (l0.length : Int) := of_decide_eq_true (by first | (with_reducible assumption) | assumption)
                          obtain ⟨ad121, e121, hx121_0⟩ := Kd.at_int HR0.out x5_1 p121 q121
                          cases e121
                          replace hx121_0 := (HB.out.cell (World.block_lt_of_cell? w _ hx121_0)).trans hx121_0
                          replace p121 := eq_true p121
                          replace q121 := eq_true q121
                          obtain ⟨Ao15, co15, eo15⟩ := Kd.R_slice HO_3.out
                          subst eo15
                          have p122 : 0 ≤ ((ji10) : Int) := of_decide_eq_true (by first | (with_reducible assumption) | assumption)
                          have q122 : (ji10) < (y118.length : Int) := of_decide_eq_true (by first | (with_reducible assumption) | assumption)
                          obtain ⟨ad122, e122, hx122_0⟩ := Kd.at_string (Kd.R_reads' HO_3.out).2.2 (ji10) p122 q122
                          cases e122
                          replace p122 := eq_true p122
                          replace q122 := eq_true q122
                          go_wp2
                          go_roundg kj3
                          case measure => have := HK1.out; have := HJ3.out; omega
                          case rel => exact ⟨((x4_1 ++ (rdOf ByteArray.empty y118 (ji10))) ++ (⟨#[32]⟩ : ByteArray)), (wrap64 (x5_1 + 1)), (by first | rfl | (simp; done) | (simp only [← hji10] <;> (first | rfl | simp)) | (simp [*]; done)), (by first | rfl | (simp; done) | (simp [*]; done)), H', ⟨by have := HK1.out; have := HJ3.out; omega⟩, ⟨by (with_reducible repeat (first | apply Kd.R_alloc | apply Kd.R_drewN | apply Kd.R_drew)); exact HO_3.out⟩, ⟨by repeat (first | (with_reducible first | exact HB.out | apply below_alloc | apply pw_below_drewN | apply below_drew1) | exact HB.out)⟩⟩
                        · rw [if_neg c14] at H
                          exact absurd H (by simp)
                      · rw [if_neg c13] at H
                        exact absurd H (by simp)
                    · rw [if_neg c12] at H
                      exact absurd H (by simp)
                  · rw [if_neg c11] at H
                    exact absurd H (by simp)
                · rw [if_neg c9] at H
                  have c9b0 : decide (230 < (wrap64 (rd l0 x5_1))) = false := decide_eq_false c9
                  clear c9
                  obtain ⟨ji16, hji16⟩ : ∃ j_ : Int, (Int.tmod (wrap64 (rd l0 x5_1)) 16) = j_ := ⟨_, rfl⟩
                  replace H : (if 0 ≤ (ji16) then (if (ji16) < (y118.length : Int) then (if x4_1.size + (rdOf ByteArray.empty y118 (ji16)).size ≤ 9223372036854775807 then (if (x4_1 ++ (rdOf ByteArray.empty y118 (ji16))).size + 1 ≤ 9223372036854775807 then (redactorlaw06_Text.l0 kj3 l0 y118 ((x4_1 ++ (rdOf ByteArray.empty y118 (ji16))) ++ (⟨#[32]⟩ : ByteArray)) (wrap64 (x5_1 + 1))) else (none)) else (none)) else (none)) else (none)) = some r := by first | (rw [hji16] at H; exact H) | (simp only [hji16] at H ⊢; exact H)
                  by_cases c17 : 0 ≤ (ji16)
                  · rw [if_pos c17] at H
                    have c17b0 : decide (0 ≤ (ji16)) = true := decide_eq_true c17
                    clear c17
                    by_cases c18 : (ji16) < (y118.length : Int)
                    · rw [if_pos c18] at H
                      have c18b0 : decide ((ji16) < (y118.length : Int)) = true := decide_eq_true c18
                      clear c18
                      by_cases c19 : x4_1.size + (rdOf ByteArray.empty y118 (ji16)).size ≤ 9223372036854775807
                      · rw [if_pos c19] at H
                        have c19b0 := eq_true c19
                        have c19b1 : decide (x4_1.size + (rdOf ByteArray.empty y118 (ji16)).size ≤ 9223372036854775807) = true := decide_eq_true c19
                        try have c19b2 : (9223372036854775807 < x4_1.size + (rdOf ByteArray.empty y118 (ji16)).size) = False := eq_false (Nat.not_lt.2 c19)
                        by_cases c20 : (x4_1 ++ (rdOf ByteArray.empty y118 (ji16))).size + 1 ≤ 9223372036854775807
                        · rw [if_pos c20] at H
                          have c20b0 := eq_true c20
                          have c20b1 : decide ((x4_1 ++ (rdOf ByteArray.empty y118 (ji16))).size + 1 ≤ 9223372036854775807) = true := decide_eq_true c20
                          try have c20b2 : (9223372036854775807 < (x4_1 ++ (rdOf ByteArray.empty y118 (ji16))).size + 1) = False := eq_false (Nat.not_lt.2 c20)
                          try have c20b8 := c20b2
                          try simp only [ByteArray.size_append, go_sem, List.size_toArray, List.length_cons, List.length_nil, Nat.zero_add, Nat.reduceAdd] at c20b8
                          have H' := Aside0.mk H
                          clear H
                          have p121 : 0 ≤ (x5_1 : Int) := of_decide_eq_true (by first | (with_reducible assumption) | assumption)
                          have q121 : x5_1 < (l0.length : Int) := of_decide_eq_true (by first | (with_reducible assumption) | assumption)
                          obtain ⟨ad121, e121, hx121_0⟩ := Kd.at_int HR0.out x5_1 p121 q121
                          cases e121
                          replace hx121_0 := (HB.out.cell (World.block_lt_of_cell? w _ hx121_0)).trans hx121_0
                          replace p121 := eq_true p121
                          replace q121 := eq_true q121
                          obtain ⟨Ao21, co21, eo21⟩ := Kd.R_slice HO_3.out
                          subst eo21
                          have p123 : 0 ≤ ((ji16) : Int) := of_decide_eq_true (by first | (with_reducible assumption) | assumption)
                          have q123 : (ji16) < (y118.length : Int) := of_decide_eq_true (by first | (with_reducible assumption) | assumption)
                          obtain ⟨ad123, e123, hx123_0⟩ := Kd.at_string (Kd.R_reads' HO_3.out).2.2 (ji16) p123 q123
                          cases e123
                          replace p123 := eq_true p123
                          replace q123 := eq_true q123
                          go_wp2
                          go_roundg kj3
                          case measure => have := HK1.out; have := HJ3.out; omega
                          case rel => exact ⟨((x4_1 ++ (rdOf ByteArray.empty y118 (ji16))) ++ (⟨#[32]⟩ : ByteArray)), (wrap64 (x5_1 + 1)), (by first | rfl | (simp; done) | (simp only [← hji16] <;> (first | rfl | simp)) | (simp [*]; done)), (by first | rfl | (simp; done) | (simp [*]; done)), H', ⟨by have := HK1.out; have := HJ3.out; omega⟩, ⟨by (with_reducible repeat (first | apply Kd.R_alloc | apply Kd.R_drewN | apply Kd.R_drew)); exact HO_3.out⟩, ⟨by repeat (first | (with_reducible first | exact HB.out | apply below_alloc | apply pw_below_drewN | apply below_drew1) | exact HB.out)⟩⟩
                        · rw [if_neg c20] at H
                          exact absurd H (by simp)
                      · rw [if_neg c19] at H
                        exact absurd H (by simp)
                    · rw [if_neg c18] at H
                      exact absurd H (by simp)
                  · rw [if_neg c17] at H
                    exact absurd H (by simp)
              · rw [if_neg c8] at H
                exact absurd H (by simp)
            · rw [if_neg c7] at H
              exact absurd H (by simp)
          · replace c6 := Bool.eq_false_iff.mpr c6
            subst c6
            have H1 : (some x4_1) = some r := by rw [if_neg (show ¬ (false = true) by decide)] at H; exact H
            clear H
            have H := H1
            clear H1
            obtain rfl := Option.some.inj H
            go_wp2
            go_ret
            exact ⟨by first | rfl | (simp [errW_none, errW_some] <;> rfl) | (simp [*, errW_none, errW_some] <;> rfl), by repeat (first | (with_reducible first | exact HB.out | apply below_alloc | apply pw_below_drewN | apply below_drew1) | exact HB.out)⟩

/-! ### redactorref06_blank: function 66 -/
mutual
def redactorref06_blank.j0 : Nat → ByteArray → Bool → Option (Int)
  | 0, _, _ => none
  | k + 1, x0, x11 => if x11 = true then (some 1) else (redactorref06_blank.l0 k x0 0)
def redactorref06_blank.l0 : Nat → ByteArray → Int → Option (Int)
  | 0, _, _ => none
  | k + 1, x0, x3 => if 0 < (x0.size : Int) then (if (bt x0 0) = 37 then (if x3 < (x0.size : Int) then (if 0 ≤ x3 then (if (bt x0 x3) = 10 then (some x3) else (redactorref06_blank.l0 k x0 (wrap64 (x3 + 1)))) else (none)) else (some x3)) else (some x3)) else (none)
end
def redactorref06_blank.f (k : Nat) (a0 : ByteArray) : Option (Int) := if 0 < (a0.size : Int) then (if (bt a0 0) = 32 then (redactorref06_blank.j0 k a0 true) else (redactorref06_blank.j0 k a0 ((bt a0 0) == 9))) else (none)
theorem redactorref06_blank.mono_l : ∀ k, (∀ y0 y1, LeO (redactorref06_blank.j0 k y0 y1) (redactorref06_blank.j0 (k + 1) y0 y1)) ∧ (∀ y0 y1, LeO (redactorref06_blank.l0 k y0 y1) (redactorref06_blank.l0 (k + 1) y0 y1))
  | 0 => ⟨fun _ _ r h => by simp [redactorref06_blank.j0] at h, fun _ _ r h => by simp [redactorref06_blank.l0] at h⟩
  | k + 1 => by
    obtain ⟨ih0, ih1⟩ := redactorref06_blank.mono_l k
    refine ⟨?_, ?_⟩
    · intro y0 y1
      unfold redactorref06_blank.j0
      repeat' first
      | (with_reducible exact ih0 _ _)
      | (with_reducible exact ih1 _ _)
      | (with_reducible exact LeO.refl _)
      | (with_reducible exact LeO.none _)
      | (with_reducible refine LeO.ite ?_ ?_)
      | (with_reducible refine LeO.bind ?_ (fun _ => ?_))
      | exact ih0 _ _
      | exact ih1 _ _
      | exact LeO.none _
      | refine LeO.ite ?_ ?_
      | refine LeO.bind ?_ (fun _ => ?_)
    · intro y0 y1
      unfold redactorref06_blank.l0
      repeat' first
      | (with_reducible exact ih0 _ _)
      | (with_reducible exact ih1 _ _)
      | (with_reducible exact LeO.refl _)
      | (with_reducible exact LeO.none _)
      | (with_reducible refine LeO.ite ?_ ?_)
      | (with_reducible refine LeO.bind ?_ (fun _ => ?_))
      | exact ih0 _ _
      | exact ih1 _ _
      | exact LeO.none _
      | refine LeO.ite ?_ ?_
      | refine LeO.bind ?_ (fun _ => ?_)
theorem redactorref06_blank.mono : ∀ a0 k, LeO (redactorref06_blank.f k a0) (redactorref06_blank.f (k + 1) a0) := by
  intro a0 k
  obtain ⟨ih0, ih1⟩ := redactorref06_blank.mono_l k
  unfold redactorref06_blank.f
  repeat' first
      | (with_reducible exact ih0 _ _)
      | (with_reducible exact ih1 _ _)
      | (with_reducible exact LeO.refl _)
      | (with_reducible exact LeO.none _)
      | (with_reducible refine LeO.ite ?_ ?_)
      | (with_reducible refine LeO.bind ?_ (fun _ => ?_))
      | exact ih0 _ _
      | exact ih1 _ _
      | exact LeO.none _
      | refine LeO.ite ?_ ?_
      | refine LeO.bind ?_ (fun _ => ?_)
set_option maxHeartbeats 8000000 in
set_option maxRecDepth 100000 in
theorem redactorref06_blank.calls (k : Nat) (a0 : ByteArray) (r : Int) (w : World) (h : redactorref06_blank.f k a0 = some r) :
    Calls Tryz.prog 66 #[.string a0] w fun e w' => e = .returned (.int .i64 r) ∧ Drawn0 w w' := by
  have H : (if 0 < (a0.size : Int) then (if (bt a0 0) = 32 then (redactorref06_blank.j0 k a0 true) else (redactorref06_blank.j0 k a0 ((bt a0 0) == 9))) else (none)) = some r := h
  clear h
  have HC2 := Aside0.mk H
  clear H
  go_enter Tryz.func66, Tryz.ntmps66
  go_upto_region 1 with (fail)
  go_cut [11] (fun v11 wc => ∃ (kq : Nat) (x11_1 : Bool), v11 = .bool x11_1 ∧ Aside0 (redactorref06_blank.j0 kq a0 x11_1 = some r) ∧ Aside0 (kq ≤ k) ∧ Drawn0 w wc)
  case first =>
    have H := HC2.out
    clear HC2
    by_cases c3 : 0 < (a0.size : Int)
    · rw [if_pos c3] at H
      have c3b0 : decide (0 < (a0.size : Int)) = true := decide_eq_true c3
      have c3b1 : decide (0 < a0.size) = true := decide_eq_true (by omega)
      clear c3
      (first | rw [c3b0] | (simp only [i64_w, i32_w]; rw [c3b0]) | skip)
      by_cases c5 : (bt a0 0) = 32
      · rw [if_pos c5] at H
        have c5b0 : ((bt a0 0) == 32) = true := beq_iff_eq.mpr c5
        have c5b1 : ((bt a0 0) != 32) = false := bne_eq_false_iff_eq.mpr c5
        clear c5
        have H' := Aside0.mk H
        clear H
        have p4 : 0 ≤ (0 : Int) := (by omega)
        have q4 : 0 < a0.size := (by have : (0 : Int) < (a0.size : Int) := of_decide_eq_true (by first | (with_reducible assumption) | assumption); omega)
        have hx4 : ∀ h : 0 < a0.size, ((a0[0]'h).toNat : Int) = bt a0 0 := bt_at a0 0
        clear p4
        have qi4 : (0 < (a0.size : Int)) = True := eq_true (of_decide_eq_true (by first | (with_reducible assumption) | assumption))
        replace q4 := eq_true q4
        go_wp2
        go_meet
        case rel => exact ⟨_, (true), (by first | rfl | (simp; done) | (simp [*]; done)), H', ⟨by first | omega | exact Nat.le_refl _⟩, by repeat (first | exact Drawn0.refl _ | apply Drawn0.step)⟩
      · rw [if_neg c5] at H
        have c5b0 : ((bt a0 0) == 32) = false := beq_eq_false_iff_ne.mpr c5
        have c5b1 : ((bt a0 0) != 32) = true := bne_iff_ne.mpr c5
        have H' := Aside0.mk H
        clear H
        have p4 : 0 ≤ (0 : Int) := (by omega)
        have q4 : 0 < a0.size := (by have : (0 : Int) < (a0.size : Int) := of_decide_eq_true (by first | (with_reducible assumption) | assumption); omega)
        have hx4 : ∀ h : 0 < a0.size, ((a0[0]'h).toNat : Int) = bt a0 0 := bt_at a0 0
        clear p4
        have qi4 : (0 < (a0.size : Int)) = True := eq_true (of_decide_eq_true (by first | (with_reducible assumption) | assumption))
        replace q4 := eq_true q4
        have p6 : 0 ≤ (0 : Int) := (by omega)
        have q6 : 0 < a0.size := (by have : (0 : Int) < (a0.size : Int) := of_decide_eq_true (by first | (with_reducible assumption) | assumption); omega)
        have hx6 : ∀ h : 0 < a0.size, ((a0[0]'h).toNat : Int) = bt a0 0 := bt_at a0 0
        clear p6
        have qi6 : (0 < (a0.size : Int)) = True := eq_true (of_decide_eq_true (by first | (with_reducible assumption) | assumption))
        replace q6 := eq_true q6
        go_wp2
        go_meet
        case rel => exact ⟨_, (((bt a0 0) == 9)), (by first | rfl | (simp; done) | (simp [*]; done)), H', ⟨by first | omega | exact Nat.le_refl _⟩, by repeat (first | exact Drawn0.refl _ | apply Drawn0.step)⟩
    · rw [if_neg c3] at H
      exact absurd H (by simp)
  case rest =>
    clear HC2
    try clear p2
    try clear c3
    try clear c3b0
    try clear c3b1
    try clear p4
    try clear q4
    try clear hx4
    try clear qi4
    try clear c5
    try clear c5b0
    try clear c5b1
    try clear c6
    try clear p6
    try clear q6
    try clear hx6
    try clear qi6
    try clear p4
    try clear p6
    try clear q4
    try clear q6
    obtain ⟨kq, x11_1, rfl, HA, HJ1, ⟨mc1, rfl⟩⟩ := hcut
    cases kq with
    | zero => exact absurd HA.out (by simp [redactorref06_blank.j0])
    | succ kj1 =>
      have H := HA.out
      clear HA
      simp only [redactorref06_blank.j0] at H
      by_cases c7 : x11_1 = true
      · subst c7
        have H1 : (some 1) = some r := by rw [if_pos rfl] at H; exact H
        clear H
        have H := H1
        clear H1
        obtain rfl := Option.some.inj H
        go_wp2
        go_ret
        exact ⟨by first | rfl | (simp; done) | (simp [*]; done), by repeat (first | exact Drawn0.refl _ | apply Drawn0.step)⟩
      · replace c7 := Bool.eq_false_iff.mpr c7
        subst c7
        have H1 : (redactorref06_blank.l0 kj1 a0 0) = some r := by rw [if_neg (show ¬ (false = true) by decide)] at H; exact H
        clear H
        have H := H1
        clear H1
        have H' := Aside0.mk H
        clear H
        go_wp2
        go_loopg [3] kj1 (fun kq v3 w' => ∃ (x3_2 : Int), v3 = .int .i64 x3_2 ∧ Aside0 (redactorref06_blank.l0 kq a0 x3_2 = some r) ∧ Aside0 (kq ≤ kj1) ∧ Drawn0 w w')
        case atStart => exact ⟨(0), (by first | rfl | (simp; done) | (simp [*]; done)), H', ⟨Nat.le_refl _⟩, by repeat (first | exact Drawn0.refl _ | apply Drawn0.step)⟩
        case round =>
          clear H'
          try clear c1
          try clear p2
          try clear c3
          try clear c3b0
          try clear c3b1
          try clear p4
          try clear q4
          try clear hx4
          try clear qi4
          try clear c5
          try clear c5b0
          try clear c5b1
          try clear c6
          try clear p6
          try clear q6
          try clear hx6
          try clear qi6
          try clear c7
          try clear p2
          try clear p4
          try clear p6
          try clear q4
          try clear q6
          obtain ⟨x3_2, rfl, HA, HK2, ⟨m2, rfl⟩⟩ := hrel
          cases gk with
          | zero => exact absurd HA.out (by simp [redactorref06_blank.l0])
          | succ k2 =>
            have H := HA.out
            clear HA
            simp only [redactorref06_blank.l0] at H
            by_cases c8 : 0 < (a0.size : Int)
            · rw [if_pos c8] at H
              have c8b0 : decide (0 < (a0.size : Int)) = true := decide_eq_true c8
              have c8b1 : decide (0 < a0.size) = true := decide_eq_true (by omega)
              clear c8
              by_cases c10 : (bt a0 0) = 37
              · rw [if_pos c10] at H
                have c10b0 : ((bt a0 0) == 37) = true := beq_iff_eq.mpr c10
                have c10b1 : ((bt a0 0) != 37) = false := bne_eq_false_iff_eq.mpr c10
                clear c10
                by_cases c11 : x3_2 < (a0.size : Int)
                · rw [if_pos c11] at H
                  have c11b0 : decide (x3_2 < (a0.size : Int)) = true := decide_eq_true c11
                  clear c11
                  by_cases c12 : 0 ≤ x3_2
                  · rw [if_pos c12] at H
                    have c12b0 : decide (0 ≤ x3_2) = true := decide_eq_true c12
                    clear c12
                    by_cases c14 : (bt a0 x3_2) = 10
                    · rw [if_pos c14] at H
                      have c14b0 : ((bt a0 x3_2) == 10) = true := beq_iff_eq.mpr c14
                      have c14b1 : ((bt a0 x3_2) != 10) = false := bne_eq_false_iff_eq.mpr c14
                      clear c14
                      obtain rfl := Option.some.inj H
                      have p9 : 0 ≤ (0 : Int) := (by omega)
                      have q9 : 0 < a0.size := (by have : (0 : Int) < (a0.size : Int) := of_decide_eq_true (by first | (with_reducible assumption) | assumption); omega)
                      have hx9 : ∀ h : 0 < a0.size, ((a0[0]'h).toNat : Int) = bt a0 0 := bt_at a0 0
                      clear p9
                      have qi9 : (0 < (a0.size : Int)) = True := eq_true (of_decide_eq_true (by first | (with_reducible assumption) | assumption))
                      replace q9 := eq_true q9
                      have p13 : 0 ≤ (x3_2 : Int) := of_decide_eq_true (by first | (with_reducible assumption) | assumption)
                      have q13 : x3_2 < (a0.size : Int) := of_decide_eq_true (by first | (with_reducible assumption) | assumption)
                      have hx13 := bt_at a0 x3_2
                      replace p13 := eq_true p13
                      replace q13 := eq_true q13
                      go_wp2
                      go_ret
                      exact ⟨by first | rfl | (simp; done) | (simp [*]; done), by repeat (first | exact Drawn0.refl _ | apply Drawn0.step)⟩
                    · rw [if_neg c14] at H
                      have c14b0 : ((bt a0 x3_2) == 10) = false := beq_eq_false_iff_ne.mpr c14
                      have c14b1 : ((bt a0 x3_2) != 10) = true := bne_iff_ne.mpr c14
                      have H' := Aside0.mk H
                      clear H
                      have p9 : 0 ≤ (0 : Int) := (by omega)
                      have q9 : 0 < a0.size := (by have : (0 : Int) < (a0.size : Int) := of_decide_eq_true (by first | (with_reducible assumption) | assumption); omega)
                      have hx9 : ∀ h : 0 < a0.size, ((a0[0]'h).toNat : Int) = bt a0 0 := bt_at a0 0
                      clear p9
                      have qi9 : (0 < (a0.size : Int)) = True := eq_true (of_decide_eq_true (by first | (with_reducible assumption) | assumption))
                      replace q9 := eq_true q9
                      have p13 : 0 ≤ (x3_2 : Int) := of_decide_eq_true (by first | (with_reducible assumption) | assumption)
                      have q13 : x3_2 < (a0.size : Int) := of_decide_eq_true (by first | (with_reducible assumption) | assumption)
                      have hx13 := bt_at a0 x3_2
                      replace p13 := eq_true p13
                      replace q13 := eq_true q13
                      go_wp2
                      go_roundg k2
                      case measure => have := HJ1.out; have := HK2.out; omega
                      case rel => exact ⟨(wrap64 (x3_2 + 1)), (by first | rfl | (simp; done) | (simp [*]; done)), H', ⟨by have := HJ1.out; have := HK2.out; omega⟩, by repeat (first | exact Drawn0.refl _ | apply Drawn0.step)⟩
                  · rw [if_neg c12] at H
                    exact absurd H (by simp)
                · rw [if_neg c11] at H
                  have c11b0 : decide (x3_2 < (a0.size : Int)) = false := decide_eq_false c11
                  clear c11
                  obtain rfl := Option.some.inj H
                  have p9 : 0 ≤ (0 : Int) := (by omega)
                  have q9 : 0 < a0.size := (by have : (0 : Int) < (a0.size : Int) := of_decide_eq_true (by first | (with_reducible assumption) | assumption); omega)
                  have hx9 : ∀ h : 0 < a0.size, ((a0[0]'h).toNat : Int) = bt a0 0 := bt_at a0 0
                  clear p9
                  have qi9 : (0 < (a0.size : Int)) = True := eq_true (of_decide_eq_true (by first | (with_reducible assumption) | assumption))
                  replace q9 := eq_true q9
                  go_wp2
                  go_ret
                  exact ⟨by first | rfl | (simp; done) | (simp [*]; done), by repeat (first | exact Drawn0.refl _ | apply Drawn0.step)⟩
              · rw [if_neg c10] at H
                have c10b0 : ((bt a0 0) == 37) = false := beq_eq_false_iff_ne.mpr c10
                have c10b1 : ((bt a0 0) != 37) = true := bne_iff_ne.mpr c10
                obtain rfl := Option.some.inj H
                have p9 : 0 ≤ (0 : Int) := (by omega)
                have q9 : 0 < a0.size := (by have : (0 : Int) < (a0.size : Int) := of_decide_eq_true (by first | (with_reducible assumption) | assumption); omega)
                have hx9 : ∀ h : 0 < a0.size, ((a0[0]'h).toNat : Int) = bt a0 0 := bt_at a0 0
                clear p9
                have qi9 : (0 < (a0.size : Int)) = True := eq_true (of_decide_eq_true (by first | (with_reducible assumption) | assumption))
                replace q9 := eq_true q9
                go_wp2
                go_ret
                exact ⟨by first | rfl | (simp; done) | (simp [*]; done), by repeat (first | exact Drawn0.refl _ | apply Drawn0.step)⟩
            · rw [if_neg c8] at H
              exact absurd H (by simp)

/-! ### redactorref06_quoted: function 110 -/
def redactorref06_quoted.l0 : Nat → ByteArray → Int → Option (Int)
  | 0, _, _ => none
  | k + 1, x0, x3 => if x3 < (x0.size : Int) then (if 0 ≤ x3 then (if (bt x0 x3) = 34 then (some (wrap64 (x3 + 1))) else (if (bt x0 x3) = 10 then (some 0) else (redactorref06_quoted.l0 k x0 (wrap64 (x3 + 1))))) else (none)) else (some 0)
def redactorref06_quoted.f (k : Nat) (a0 : ByteArray) : Option (Int) := redactorref06_quoted.l0 k a0 1
theorem redactorref06_quoted.mono_l : ∀ k, (∀ y0 y1, LeO (redactorref06_quoted.l0 k y0 y1) (redactorref06_quoted.l0 (k + 1) y0 y1))
  | 0 => fun _ _ r h => by simp [redactorref06_quoted.l0] at h
  | k + 1 => by
    have ih0 := redactorref06_quoted.mono_l k
    · intro y0 y1
      unfold redactorref06_quoted.l0
      repeat' first
      | (with_reducible exact ih0 _ _)
      | (with_reducible exact LeO.refl _)
      | (with_reducible exact LeO.none _)
      | (with_reducible refine LeO.ite ?_ ?_)
      | (with_reducible refine LeO.bind ?_ (fun _ => ?_))
      | exact ih0 _ _
      | exact LeO.none _
      | refine LeO.ite ?_ ?_
      | refine LeO.bind ?_ (fun _ => ?_)
theorem redactorref06_quoted.mono : ∀ a0 k, LeO (redactorref06_quoted.f k a0) (redactorref06_quoted.f (k + 1) a0) := by
  intro a0 k
  have ih0 := redactorref06_quoted.mono_l k
  unfold redactorref06_quoted.f
  repeat' first
      | (with_reducible exact ih0 _ _)
      | (with_reducible exact LeO.refl _)
      | (with_reducible exact LeO.none _)
      | (with_reducible refine LeO.ite ?_ ?_)
      | (with_reducible refine LeO.bind ?_ (fun _ => ?_))
      | exact ih0 _ _
      | exact LeO.none _
      | refine LeO.ite ?_ ?_
      | refine LeO.bind ?_ (fun _ => ?_)
set_option maxHeartbeats 8000000 in
set_option maxRecDepth 100000 in
theorem redactorref06_quoted.calls (k : Nat) (a0 : ByteArray) (r : Int) (w : World) (h : redactorref06_quoted.f k a0 = some r) :
    Calls Tryz.prog 110 #[.string a0] w fun e w' => e = .returned (.int .i64 r) ∧ Drawn0 w w' := by
  have H : (redactorref06_quoted.l0 k a0 1) = some r := h
  clear h
  have H' := Aside0.mk H
  clear H
  go_enter Tryz.func110, Tryz.ntmps110
  go_wp2
  go_loopg [3] k (fun kq v3 w' => ∃ (x3_1 : Int), v3 = .int .i64 x3_1 ∧ Aside0 (redactorref06_quoted.l0 kq a0 x3_1 = some r) ∧ Aside0 (kq ≤ k) ∧ Drawn0 w w')
  case atStart => exact ⟨(1), (by first | rfl | (simp; done) | (simp [*]; done)), H', ⟨Nat.le_refl _⟩, by repeat (first | exact Drawn0.refl _ | apply Drawn0.step)⟩
  case round =>
    clear H'
    try clear c1
    obtain ⟨x3_1, rfl, HA, HK1, ⟨m1, rfl⟩⟩ := hrel
    cases gk with
    | zero => exact absurd HA.out (by simp [redactorref06_quoted.l0])
    | succ k1 =>
      have H := HA.out
      clear HA
      simp only [redactorref06_quoted.l0] at H
      by_cases c2 : x3_1 < (a0.size : Int)
      · rw [if_pos c2] at H
        have c2b0 : decide (x3_1 < (a0.size : Int)) = true := decide_eq_true c2
        clear c2
        by_cases c3 : 0 ≤ x3_1
        · rw [if_pos c3] at H
          have c3b0 : decide (0 ≤ x3_1) = true := decide_eq_true c3
          clear c3
          by_cases c5 : (bt a0 x3_1) = 34
          · rw [if_pos c5] at H
            have c5b0 : ((bt a0 x3_1) == 34) = true := beq_iff_eq.mpr c5
            have c5b1 : ((bt a0 x3_1) != 34) = false := bne_eq_false_iff_eq.mpr c5
            clear c5
            obtain rfl := Option.some.inj H
            have p4 : 0 ≤ (x3_1 : Int) := of_decide_eq_true (by first | (with_reducible assumption) | assumption)
            have q4 : x3_1 < (a0.size : Int) := of_decide_eq_true (by first | (with_reducible assumption) | assumption)
            have hx4 := bt_at a0 x3_1
            replace p4 := eq_true p4
            replace q4 := eq_true q4
            go_wp2
            go_ret
            exact ⟨by first | rfl | (simp; done) | (simp [*]; done), by repeat (first | exact Drawn0.refl _ | apply Drawn0.step)⟩
          · rw [if_neg c5] at H
            have c5b0 : ((bt a0 x3_1) == 34) = false := beq_eq_false_iff_ne.mpr c5
            have c5b1 : ((bt a0 x3_1) != 34) = true := bne_iff_ne.mpr c5
            by_cases c7 : (bt a0 x3_1) = 10
            · rw [if_pos c7] at H
              have c7b0 : ((bt a0 x3_1) == 10) = true := beq_iff_eq.mpr c7
              have c7b1 : ((bt a0 x3_1) != 10) = false := bne_eq_false_iff_eq.mpr c7
              clear c7
              obtain rfl := Option.some.inj H
              have p4 : 0 ≤ (x3_1 : Int) := of_decide_eq_true (by first | (with_reducible assumption) | assumption)
              have q4 : x3_1 < (a0.size : Int) := of_decide_eq_true (by first | (with_reducible assumption) | assumption)
              have hx4 := bt_at a0 x3_1
              replace p4 := eq_true p4
              replace q4 := eq_true q4
              have p6 : 0 ≤ (x3_1 : Int) := of_decide_eq_true (by first | (with_reducible assumption) | assumption)
              have q6 : x3_1 < (a0.size : Int) := of_decide_eq_true (by first | (with_reducible assumption) | assumption)
              have hx6 := bt_at a0 x3_1
              replace p6 := eq_true p6
              replace q6 := eq_true q6
              go_wp2
              go_ret
              exact ⟨by first | rfl | (simp; done) | (simp [*]; done), by repeat (first | exact Drawn0.refl _ | apply Drawn0.step)⟩
            · rw [if_neg c7] at H
              have c7b0 : ((bt a0 x3_1) == 10) = false := beq_eq_false_iff_ne.mpr c7
              have c7b1 : ((bt a0 x3_1) != 10) = true := bne_iff_ne.mpr c7
              have H' := Aside0.mk H
              clear H
              have p4 : 0 ≤ (x3_1 : Int) := of_decide_eq_true (by first | (with_reducible assumption) | assumption)
              have q4 : x3_1 < (a0.size : Int) := of_decide_eq_true (by first | (with_reducible assumption) | assumption)
              have hx4 := bt_at a0 x3_1
              replace p4 := eq_true p4
              replace q4 := eq_true q4
              have p6 : 0 ≤ (x3_1 : Int) := of_decide_eq_true (by first | (with_reducible assumption) | assumption)
              have q6 : x3_1 < (a0.size : Int) := of_decide_eq_true (by first | (with_reducible assumption) | assumption)
              have hx6 := bt_at a0 x3_1
              replace p6 := eq_true p6
              replace q6 := eq_true q6
              go_wp2
              go_roundg k1
              case measure => have := HK1.out; omega
              case rel => exact ⟨(wrap64 (x3_1 + 1)), (by first | rfl | (simp; done) | (simp [*]; done)), H', ⟨by have := HK1.out; omega⟩, by repeat (first | exact Drawn0.refl _ | apply Drawn0.step)⟩
        · rw [if_neg c3] at H
          exact absurd H (by simp)
      · rw [if_neg c2] at H
        have c2b0 : decide (x3_1 < (a0.size : Int)) = false := decide_eq_false c2
        clear c2
        obtain rfl := Option.some.inj H
        go_wp2
        go_ret
        exact ⟨by first | rfl | (simp; done) | (simp [*]; done), by repeat (first | exact Drawn0.refl _ | apply Drawn0.step)⟩

end Go.Proofs.YtipmmkelialgkaaGreatDoor.PLex
