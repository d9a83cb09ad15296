-- WRITTEN FOR THIS CLAIM by wip/tools/told.py (the kit's printer, with some functions told by hand).
import Derived.Test.YtipmmkelialgkaaGreatDoorPLexx0
import Derived.Test.YtipmmkelialgkaaGreatDoorPLexx1
import Derived.Test.YtipmmkelialgkaaGreatDoorPLexx5
namespace Go.Proofs.YtipmmkelialgkaaGreatDoor.PLex
open Go.RowKit Go.Proofs.YtipmmkelialgkaaGreatDoorW.PrintWords Go.Proofs.YtipmmkelialgkaaGreatDoorW.PrintLast Go.Proofs.YtipmmkelialgkaaGreatDoorW.PrintMore
attribute [local go_sem] max2_int min2_int max_two min_two max_three min_three max_four min_four   -- for this text's walks alone
set_option linter.unusedVariables false
set_option linter.unusedSimpArgs false

/-! ### redactorlaw06_LexTokens: function 3 -/
def redactorlaw06_LexTokens.j0 : Nat → ByteArray → List Int → Int → Int → Bool → Option (Bool)
  | 0, _, _, _, _, _ => none
  | k + 1, x0, x1, x2, x3, x18 => if x18 = true then ((redactorlaw06_known.f).bind fun t171 => (some t171)) else ((redactorlaw06_Text.f k x1).bind fun t172 => ((redactorlaw06_tells.f k x0).bind fun t173 => (if t173 = true then ((redactorlaw06_tells.f k t172).bind fun t174 => (if (t172.size : Int) > 0 then (if (t172.size : Int) = 0 then (none) else (if 0 ≤ (Int.tmod (wrap64 (x2)) (t172.size : Int)) then (if (Int.tmod (wrap64 (x2)) (t172.size : Int)) ≤ (t172.size : Int) then ((some (([x3] : List Int) : List Int)).bind fun y175 => (if (t172.extract 0 ((Int.tmod (wrap64 (x2)) (t172.size : Int)) : Int).toNat).size + (strOfNums y175).size ≤ 9223372036854775807 then (if 0 ≤ (wrap64 ((Int.tmod (wrap64 (x2)) (t172.size : Int)) + 1)) then (if (wrap64 ((Int.tmod (wrap64 (x2)) (t172.size : Int)) + 1)) ≤ (t172.size : Int) then (if ((t172.extract 0 ((Int.tmod (wrap64 (x2)) (t172.size : Int)) : Int).toNat) ++ (strOfNums y175)).size + (t172.extract ((wrap64 ((Int.tmod (wrap64 (x2)) (t172.size : Int)) + 1)) : Int).toNat t172.size).size ≤ 9223372036854775807 then (if t174 = true then ((redactorlaw06_tells.f k (((t172.extract 0 ((Int.tmod (wrap64 (x2)) (t172.size : Int)) : Int).toNat) ++ (strOfNums y175)) ++ (t172.extract ((wrap64 ((Int.tmod (wrap64 (x2)) (t172.size : Int)) + 1)) : Int).toNat t172.size))).bind fun t178 => (some t178)) else (some false)) else (none)) else (none)) else (none)) else (none))) else (none)) else (none))) else (if t174 = true then ((redactorlaw06_tells.f k t172).bind fun t179 => (some t179)) else (some false)))) else (if (t172.size : Int) > 0 then (if (t172.size : Int) = 0 then (none) else (if 0 ≤ (Int.tmod (wrap64 (x2)) (t172.size : Int)) then (if (Int.tmod (wrap64 (x2)) (t172.size : Int)) ≤ (t172.size : Int) then ((some (([x3] : List Int) : List Int)).bind fun y180 => (if (t172.extract 0 ((Int.tmod (wrap64 (x2)) (t172.size : Int)) : Int).toNat).size + (strOfNums y180).size ≤ 9223372036854775807 then (if 0 ≤ (wrap64 ((Int.tmod (wrap64 (x2)) (t172.size : Int)) + 1)) then (if (wrap64 ((Int.tmod (wrap64 (x2)) (t172.size : Int)) + 1)) ≤ (t172.size : Int) then (if ((t172.extract 0 ((Int.tmod (wrap64 (x2)) (t172.size : Int)) : Int).toNat) ++ (strOfNums y180)).size + (t172.extract ((wrap64 ((Int.tmod (wrap64 (x2)) (t172.size : Int)) + 1)) : Int).toNat t172.size).size ≤ 9223372036854775807 then (some false) else (none)) else (none)) else (none)) else (none))) else (none)) else (none))) else (some false)))))
def redactorlaw06_LexTokens.f (k : Nat) (a0 : ByteArray) (l1 : List Int) (a2 : Int) (a3 : Int) : Option (Bool) := if (a0.size : Int) > 300 then (redactorlaw06_LexTokens.j0 k a0 l1 a2 a3 true) else ((redactorlaw06_known.f).bind fun t170 => (redactorlaw06_LexTokens.j0 k a0 l1 a2 a3 (!t170)))
theorem redactorlaw06_LexTokens.mono_l : ∀ k, (∀ y0 y1 y2 y3 y4, LeO (redactorlaw06_LexTokens.j0 k y0 y1 y2 y3 y4) (redactorlaw06_LexTokens.j0 (k + 1) y0 y1 y2 y3 y4))
  | 0 => fun _ _ _ _ _ r h => by simp [redactorlaw06_LexTokens.j0] at h
  | k + 1 => by
    have ih0 := redactorlaw06_LexTokens.mono_l k
    · intro y0 y1 y2 y3 y4
      unfold redactorlaw06_LexTokens.j0
      repeat' first
      | (with_reducible exact ih0 _ _ _ _ _)
      | (with_reducible exact redactorlaw06_Text.mono _ _)
      | (with_reducible exact redactorlaw06_tells.mono _ _)
      | (with_reducible exact LeO.refl _)
      | (with_reducible exact LeO.none _)
      | (with_reducible refine LeO.ite ?_ ?_)
      | (with_reducible refine LeO.bind ?_ (fun _ => ?_))
      | exact ih0 _ _ _ _ _
      | exact redactorlaw06_Text.mono _ _
      | exact redactorlaw06_tells.mono _ _
      | exact LeO.none _
      | refine LeO.ite ?_ ?_
      | refine LeO.bind ?_ (fun _ => ?_)
theorem redactorlaw06_LexTokens.mono : ∀ a0 a1 a2 a3 k, LeO (redactorlaw06_LexTokens.f k a0 a1 a2 a3) (redactorlaw06_LexTokens.f (k + 1) a0 a1 a2 a3) := by
  intro a0 a1 a2 a3 k
  have ih0 := redactorlaw06_LexTokens.mono_l k
  unfold redactorlaw06_LexTokens.f
  repeat' first
      | (with_reducible exact ih0 _ _ _ _ _)
      | (with_reducible exact redactorlaw06_Text.mono _ _)
      | (with_reducible exact redactorlaw06_tells.mono _ _)
      | (with_reducible exact LeO.refl _)
      | (with_reducible exact LeO.none _)
      | (with_reducible refine LeO.ite ?_ ?_)
      | (with_reducible refine LeO.bind ?_ (fun _ => ?_))
      | exact ih0 _ _ _ _ _
      | exact redactorlaw06_Text.mono _ _
      | exact redactorlaw06_tells.mono _ _
      | exact LeO.none _
      | refine LeO.ite ?_ ?_
      | refine LeO.bind ?_ (fun _ => ?_)
def redactorlaw06_LexTokens.T7 : Bool × List (List Nat × List Nat) := (true, [([], []), ([], []), ([0, 1], [0, 1]), ([], []), ([3], [3]), ([4], [4]), ([2, 5], [2, 5]), ([], []), ([], []), ([8], [8]), ([7, 9], [7, 9]), ([6, 10], [6, 10]), ([11, 0, 1, 2, 3, 4, 5, 6, 7, 8, 9, 10, 11], [0, 7, 11])])
def redactorlaw06_LexTokens.B7 : List Nat := [0, 0, 3, 0, 8, 24, 63, 0, 0, 256, 896, 2047, 4095]
theorem redactorlaw06_LexTokens.tab7 : rtab .any (opsOf Tryz.f3 7) = redactorlaw06_LexTokens.T7 := by kernel_rfl
theorem redactorlaw06_LexTokens.bits7 : waitsOk redactorlaw06_LexTokens.T7.2 redactorlaw06_LexTokens.B7 = true := by kernel_rfl
set_option maxHeartbeats 8000000 in
set_option maxRecDepth 100000 in
theorem redactorlaw06_LexTokens.calls (k : Nat) (a0 : ByteArray) (A1 : Option Addr) (c1 : Nat) (l1 : List Int) (a2 : Int) (a3 : Int) (r : Bool) (w : World) (hr1 : Kd.C (Kd.int .u8) w A1 l1.length l1) (hc1 : l1.length ≤ c1) (h : redactorlaw06_LexTokens.f k a0 l1 a2 a3 = some r) (hG : Lex.Gl w := by first | assumption | exact Lex.Gl.at_below (by assumption) (by repeat (first | (with_reducible first | exact Aside0.out (by assumption) | apply below_alloc | apply pw_below_drewN | apply below_drew1) | exact Aside0.out (by assumption)))) :
    Calls Tryz.prog 3 #[.string a0, .slice A1 l1.length c1, .int .u16 a2, .int .u8 a3] w fun e w' => e = .returned (.bool r) ∧ Below w.heap.size w w' := by
  have HR1 := Aside0.mk hr1
  have HC1 := Aside0.mk hc1
  clear hr1 hc1
  have HB := Aside0.mk (Below.refl w.heap.size w)
  have H : (if (a0.size : Int) > 300 then (redactorlaw06_LexTokens.j0 k a0 l1 a2 a3 true) else ((redactorlaw06_known.f).bind fun t170 => (redactorlaw06_LexTokens.j0 k a0 l1 a2 a3 (!t170)))) = some r := h
  clear h
  have HC5 := Aside0.mk H
  clear H
  go_enter Tryz.func3, Tryz.ntmps3
  go_upto_region 1 with (fail)
  go_cut [18] (fun v18 wc => ∃ (kq : Nat) (x18_4 : Bool), v18 = .bool x18_4 ∧ Aside0 (redactorlaw06_LexTokens.j0 kq a0 l1 a2 a3 x18_4 = some r) ∧ Aside0 (kq ≤ k) ∧ Aside0 (Below w.heap.size w wc))
  case first =>
    have H := HC5.out
    clear HC5
    by_cases c6 : (a0.size : Int) > 300
    · rw [if_pos c6] at H
      have c6b0 : decide (300 < (a0.size : Int)) = true := decide_eq_true c6
      have c6b1 : decide (300 < a0.size) = true := decide_eq_true (by omega)
      clear c6
      (first | rw [c6b0] | (simp only [i64_w, i32_w]; rw [c6b0]) | skip)
      have H' := Aside0.mk H
      clear H
      go_wp2
      go_meet
      case rel => exact ⟨_, (true), (by first | rfl | (simp; done) | (simp [*]; done)), H', ⟨by first | omega | exact Nat.le_refl _⟩, ⟨by repeat (first | (with_reducible first | exact HB.out | apply below_alloc | apply pw_below_drewN | apply below_drew1) | exact HB.out)⟩⟩
    · rw [if_neg c6] at H
      have c6b0 : decide (300 < (a0.size : Int)) = false := decide_eq_false c6
      have c6b1 : decide (300 < a0.size) = false := decide_eq_false (by omega)
      clear c6
      (first | rw [c6b0] | (simp only [i64_w, i32_w]; rw [c6b0]) | skip)
      replace H := Option.bind_eq_some_iff.mp H
      obtain ⟨t170, A70, H⟩ := H
      replace H : (redactorlaw06_LexTokens.j0 k a0 l1 a2 a3 (!t170)) = some r := H
      have A7 := Aside0.mk A70
      clear A70
      have H' := Aside0.mk H
      clear H
      go_wp2_with (first | (go_at_call 10; (with_reducible refine (redactorlaw06_known.calls  t170 _ A7.out).mono ?_); rintro e w8 ⟨rfl, hb⟩; have n0_ := Aside0.mk (below_step (by repeat (first | (with_reducible first | exact HB.out | apply below_alloc | apply pw_below_drewN | apply below_drew1) | exact HB.out)) hb); clear HB; have HB := n0_; clear n0_; (try clear hb); (try clear hb2); (try clear hk); (try clear hi)))
      go_meet
      case rel => exact ⟨_, (!t170), (by first | rfl | (simp; done) | (simp [*]; done)), H', ⟨by first | omega | exact Nat.le_refl _⟩, ⟨by repeat (first | (with_reducible first | exact HB.out | apply below_alloc | apply pw_below_drewN | apply below_drew1) | exact HB.out)⟩⟩
  case rest =>
    clear HC5
    try clear c1
    try clear p2
    try clear c3
    try clear c6
    try clear c6b0
    try clear c6b1
    obtain ⟨kq, x18_4, rfl, HA, HJ4, HB⟩ := hcut
    cases kq with
    | zero => exact absurd HA.out (by simp [redactorlaw06_LexTokens.j0])
    | succ kj4 =>
      have H := HA.out
      clear HA
      simp only [redactorlaw06_LexTokens.j0] at H
      by_cases c9 : x18_4 = true
      · subst c9
        have H1 : ((redactorlaw06_known.f).bind fun t171 => (some t171)) = some r := by rw [if_pos rfl] at H; exact H
        clear H
        have H := H1
        clear H1
        replace H := Option.bind_eq_some_iff.mp H
        obtain ⟨t171, A100, H⟩ := H
        replace H : (some t171) = some r := H
        have A10 := Aside0.mk A100
        clear A100
        obtain rfl := Option.some.inj H
        go_wp2_with (first | ((with_reducible refine gate_callee (f := 10) rfl ?_); refine goesL_ (some 19) rfl rfl Tryz.func10 (by kernel_rfl) rfl #[] rfl (by (try simp only [List.map_toArray, List.map_cons, List.map_nil]); first | done | rfl | (simp only [List.length_drop, List.length_take]; rfl)) ?_; (with_reducible refine (redactorlaw06_known.calls  t171 _ A10.out).mono ?_); rintro e w11 ⟨rfl, hb⟩; refine ⟨_, rfl, ?_⟩; have n0_ := Aside0.mk (below_step (by repeat (first | (with_reducible first | exact HB.out | apply below_alloc | apply pw_below_drewN | apply below_drew1) | exact HB.out)) hb); clear HB; have HB := n0_; clear n0_; (try clear hb); (try clear hb2); (try clear hk); (try clear hi)))
        go_ret
        exact ⟨by first | rfl | (simp [errW_none, errW_some] <;> rfl) | (simp [*, errW_none, errW_some] <;> rfl), by repeat (first | (with_reducible first | exact HB.out | apply below_alloc | apply pw_below_drewN | apply below_drew1) | exact HB.out)⟩
      · replace c9 := Bool.eq_false_iff.mpr c9
        subst c9
        have H1 : ((redactorlaw06_Text.f kj4 l1).bind fun t172 => ((redactorlaw06_tells.f kj4 a0).bind fun t173 => (if t173 = true then ((redactorlaw06_tells.f kj4 t172).bind fun t174 => (if (t172.size : Int) > 0 then (if (t172.size : Int) = 0 then (none) else (if 0 ≤ (Int.tmod (wrap64 (a2)) (t172.size : Int)) then (if (Int.tmod (wrap64 (a2)) (t172.size : Int)) ≤ (t172.size : Int) then ((some (([a3] : List Int) : List Int)).bind fun y175 => (if (t172.extract 0 ((Int.tmod (wrap64 (a2)) (t172.size : Int)) : Int).toNat).size + (strOfNums y175).size ≤ 9223372036854775807 then (if 0 ≤ (wrap64 ((Int.tmod (wrap64 (a2)) (t172.size : Int)) + 1)) then (if (wrap64 ((Int.tmod (wrap64 (a2)) (t172.size : Int)) + 1)) ≤ (t172.size : Int) then (if ((t172.extract 0 ((Int.tmod (wrap64 (a2)) (t172.size : Int)) : Int).toNat) ++ (strOfNums y175)).size + (t172.extract ((wrap64 ((Int.tmod (wrap64 (a2)) (t172.size : Int)) + 1)) : Int).toNat t172.size).size ≤ 9223372036854775807 then (if t174 = true then ((redactorlaw06_tells.f kj4 (((t172.extract 0 ((Int.tmod (wrap64 (a2)) (t172.size : Int)) : Int).toNat) ++ (strOfNums y175)) ++ (t172.extract ((wrap64 ((Int.tmod (wrap64 (a2)) (t172.size : Int)) + 1)) : Int).toNat t172.size))).bind fun t178 => (some t178)) else (some false)) else (none)) else (none)) else (none)) else (none))) else (none)) else (none))) else (if t174 = true then ((redactorlaw06_tells.f kj4 t172).bind fun t179 => (some t179)) else (some false)))) else (if (t172.size : Int) > 0 then (if (t172.size : Int) = 0 then (none) else (if 0 ≤ (Int.tmod (wrap64 (a2)) (t172.size : Int)) then (if (Int.tmod (wrap64 (a2)) (t172.size : Int)) ≤ (t172.size : Int) then ((some (([a3] : List Int) : List Int)).bind fun y180 => (if (t172.extract 0 ((Int.tmod (wrap64 (a2)) (t172.size : Int)) : Int).toNat).size + (strOfNums y180).size ≤ 9223372036854775807 then (if 0 ≤ (wrap64 ((Int.tmod (wrap64 (a2)) (t172.size : Int)) + 1)) then (if (wrap64 ((Int.tmod (wrap64 (a2)) (t172.size : Int)) + 1)) ≤ (t172.size : Int) then (if ((t172.extract 0 ((Int.tmod (wrap64 (a2)) (t172.size : Int)) : Int).toNat) ++ (strOfNums y180)).size + (t172.extract ((wrap64 ((Int.tmod (wrap64 (a2)) (t172.size : Int)) + 1)) : Int).toNat t172.size).size ≤ 9223372036854775807 then (some false) else (none)) else (none)) else (none)) else (none))) else (none)) else (none))) else (some false))))) = some r := by rw [if_neg (show ¬ (false = true) by decide)] at H; exact H
        clear H
        have H := H1
        clear H1
        replace H := Option.bind_eq_some_iff.mp H
        obtain ⟨t172, A120, H⟩ := H
        replace H : ((redactorlaw06_tells.f kj4 a0).bind fun t173 => (if t173 = true then ((redactorlaw06_tells.f kj4 t172).bind fun t174 => (if (t172.size : Int) > 0 then (if (t172.size : Int) = 0 then (none) else (if 0 ≤ (Int.tmod (wrap64 (a2)) (t172.size : Int)) then (if (Int.tmod (wrap64 (a2)) (t172.size : Int)) ≤ (t172.size : Int) then ((some (([a3] : List Int) : List Int)).bind fun y175 => (if (t172.extract 0 ((Int.tmod (wrap64 (a2)) (t172.size : Int)) : Int).toNat).size + (strOfNums y175).size ≤ 9223372036854775807 then (if 0 ≤ (wrap64 ((Int.tmod (wrap64 (a2)) (t172.size : Int)) + 1)) then (if (wrap64 ((Int.tmod (wrap64 (a2)) (t172.size : Int)) + 1)) ≤ (t172.size : Int) then (if ((t172.extract 0 ((Int.tmod (wrap64 (a2)) (t172.size : Int)) : Int).toNat) ++ (strOfNums y175)).size + (t172.extract ((wrap64 ((Int.tmod (wrap64 (a2)) (t172.size : Int)) + 1)) : Int).toNat t172.size).size ≤ 9223372036854775807 then (if t174 = true then ((redactorlaw06_tells.f kj4 (((t172.extract 0 ((Int.tmod (wrap64 (a2)) (t172.size : Int)) : Int).toNat) ++ (strOfNums y175)) ++ (t172.extract ((wrap64 ((Int.tmod (wrap64 (a2)) (t172.size : Int)) + 1)) : Int).toNat t172.size))).bind fun t178 => (some t178)) else (some false)) else (none)) else (none)) else (none)) else (none))) else (none)) else (none))) else (if t174 = true then ((redactorlaw06_tells.f kj4 t172).bind fun t179 => (some t179)) else (some false)))) else (if (t172.size : Int) > 0 then (if (t172.size : Int) = 0 then (none) else (if 0 ≤ (Int.tmod (wrap64 (a2)) (t172.size : Int)) then (if (Int.tmod (wrap64 (a2)) (t172.size : Int)) ≤ (t172.size : Int) then ((some (([a3] : List Int) : List Int)).bind fun y180 => (if (t172.extract 0 ((Int.tmod (wrap64 (a2)) (t172.size : Int)) : Int).toNat).size + (strOfNums y180).size ≤ 9223372036854775807 then (if 0 ≤ (wrap64 ((Int.tmod (wrap64 (a2)) (t172.size : Int)) + 1)) then (if (wrap64 ((Int.tmod (wrap64 (a2)) (t172.size : Int)) + 1)) ≤ (t172.size : Int) then (if ((t172.extract 0 ((Int.tmod (wrap64 (a2)) (t172.size : Int)) : Int).toNat) ++ (strOfNums y180)).size + (t172.extract ((wrap64 ((Int.tmod (wrap64 (a2)) (t172.size : Int)) + 1)) : Int).toNat t172.size).size ≤ 9223372036854775807 then (some false) else (none)) else (none)) else (none)) else (none))) else (none)) else (none))) else (some false)))) = some r := H
        have A12 := Aside0.mk A120
        clear A120
        replace H := Option.bind_eq_some_iff.mp H
        obtain ⟨t173, A130, H⟩ := H
        replace H : (if t173 = true then ((redactorlaw06_tells.f kj4 t172).bind fun t174 => (if (t172.size : Int) > 0 then (if (t172.size : Int) = 0 then (none) else (if 0 ≤ (Int.tmod (wrap64 (a2)) (t172.size : Int)) then (if (Int.tmod (wrap64 (a2)) (t172.size : Int)) ≤ (t172.size : Int) then ((some (([a3] : List Int) : List Int)).bind fun y175 => (if (t172.extract 0 ((Int.tmod (wrap64 (a2)) (t172.size : Int)) : Int).toNat).size + (strOfNums y175).size ≤ 9223372036854775807 then (if 0 ≤ (wrap64 ((Int.tmod (wrap64 (a2)) (t172.size : Int)) + 1)) then (if (wrap64 ((Int.tmod (wrap64 (a2)) (t172.size : Int)) + 1)) ≤ (t172.size : Int) then (if ((t172.extract 0 ((Int.tmod (wrap64 (a2)) (t172.size : Int)) : Int).toNat) ++ (strOfNums y175)).size + (t172.extract ((wrap64 ((Int.tmod (wrap64 (a2)) (t172.size : Int)) + 1)) : Int).toNat t172.size).size ≤ 9223372036854775807 then (if t174 = true then ((redactorlaw06_tells.f kj4 (((t172.extract 0 ((Int.tmod (wrap64 (a2)) (t172.size : Int)) : Int).toNat) ++ (strOfNums y175)) ++ (t172.extract ((wrap64 ((Int.tmod (wrap64 (a2)) (t172.size : Int)) + 1)) : Int).toNat t172.size))).bind fun t178 => (some t178)) else (some false)) else (none)) else (none)) else (none)) else (none))) else (none)) else (none))) else (if t174 = true then ((redactorlaw06_tells.f kj4 t172).bind fun t179 => (some t179)) else (some false)))) else (if (t172.size : Int) > 0 then (if (t172.size : Int) = 0 then (none) else (if 0 ≤ (Int.tmod (wrap64 (a2)) (t172.size : Int)) then (if (Int.tmod (wrap64 (a2)) (t172.size : Int)) ≤ (t172.size : Int) then ((some (([a3] : List Int) : List Int)).bind fun y180 => (if (t172.extract 0 ((Int.tmod (wrap64 (a2)) (t172.size : Int)) : Int).toNat).size + (strOfNums y180).size ≤ 9223372036854775807 then (if 0 ≤ (wrap64 ((Int.tmod (wrap64 (a2)) (t172.size : Int)) + 1)) then (if (wrap64 ((Int.tmod (wrap64 (a2)) (t172.size : Int)) + 1)) ≤ (t172.size : Int) then (if ((t172.extract 0 ((Int.tmod (wrap64 (a2)) (t172.size : Int)) : Int).toNat) ++ (strOfNums y180)).size + (t172.extract ((wrap64 ((Int.tmod (wrap64 (a2)) (t172.size : Int)) + 1)) : Int).toNat t172.size).size ≤ 9223372036854775807 then (some false) else (none)) else (none)) else (none)) else (none))) else (none)) else (none))) else (some false))) = some r := H
        have A13 := Aside0.mk A130
        clear A130
        by_cases c14 : t173 = true
        · subst c14
          have H1 : ((redactorlaw06_tells.f kj4 t172).bind fun t174 => (if (t172.size : Int) > 0 then (if (t172.size : Int) = 0 then (none) else (if 0 ≤ (Int.tmod (wrap64 (a2)) (t172.size : Int)) then (if (Int.tmod (wrap64 (a2)) (t172.size : Int)) ≤ (t172.size : Int) then ((some (([a3] : List Int) : List Int)).bind fun y175 => (if (t172.extract 0 ((Int.tmod (wrap64 (a2)) (t172.size : Int)) : Int).toNat).size + (strOfNums y175).size ≤ 9223372036854775807 then (if 0 ≤ (wrap64 ((Int.tmod (wrap64 (a2)) (t172.size : Int)) + 1)) then (if (wrap64 ((Int.tmod (wrap64 (a2)) (t172.size : Int)) + 1)) ≤ (t172.size : Int) then (if ((t172.extract 0 ((Int.tmod (wrap64 (a2)) (t172.size : Int)) : Int).toNat) ++ (strOfNums y175)).size + (t172.extract ((wrap64 ((Int.tmod (wrap64 (a2)) (t172.size : Int)) + 1)) : Int).toNat t172.size).size ≤ 9223372036854775807 then (if t174 = true then ((redactorlaw06_tells.f kj4 (((t172.extract 0 ((Int.tmod (wrap64 (a2)) (t172.size : Int)) : Int).toNat) ++ (strOfNums y175)) ++ (t172.extract ((wrap64 ((Int.tmod (wrap64 (a2)) (t172.size : Int)) + 1)) : Int).toNat t172.size))).bind fun t178 => (some t178)) else (some false)) else (none)) else (none)) else (none)) else (none))) else (none)) else (none))) else (if t174 = true then ((redactorlaw06_tells.f kj4 t172).bind fun t179 => (some t179)) else (some false)))) = some r := by rw [if_pos rfl] at H; exact H
          clear H
          have H := H1
          clear H1
          replace H := Option.bind_eq_some_iff.mp H
          obtain ⟨t174, A150, H⟩ := H
          replace H : (if (t172.size : Int) > 0 then (if (t172.size : Int) = 0 then (none) else (if 0 ≤ (Int.tmod (wrap64 (a2)) (t172.size : Int)) then (if (Int.tmod (wrap64 (a2)) (t172.size : Int)) ≤ (t172.size : Int) then ((some (([a3] : List Int) : List Int)).bind fun y175 => (if (t172.extract 0 ((Int.tmod (wrap64 (a2)) (t172.size : Int)) : Int).toNat).size + (strOfNums y175).size ≤ 9223372036854775807 then (if 0 ≤ (wrap64 ((Int.tmod (wrap64 (a2)) (t172.size : Int)) + 1)) then (if (wrap64 ((Int.tmod (wrap64 (a2)) (t172.size : Int)) + 1)) ≤ (t172.size : Int) then (if ((t172.extract 0 ((Int.tmod (wrap64 (a2)) (t172.size : Int)) : Int).toNat) ++ (strOfNums y175)).size + (t172.extract ((wrap64 ((Int.tmod (wrap64 (a2)) (t172.size : Int)) + 1)) : Int).toNat t172.size).size ≤ 9223372036854775807 then (if t174 = true then ((redactorlaw06_tells.f kj4 (((t172.extract 0 ((Int.tmod (wrap64 (a2)) (t172.size : Int)) : Int).toNat) ++ (strOfNums y175)) ++ (t172.extract ((wrap64 ((Int.tmod (wrap64 (a2)) (t172.size : Int)) + 1)) : Int).toNat t172.size))).bind fun t178 => (some t178)) else (some false)) else (none)) else (none)) else (none)) else (none))) else (none)) else (none))) else (if t174 = true then ((redactorlaw06_tells.f kj4 t172).bind fun t179 => (some t179)) else (some false))) = some r := H
          have A15 := Aside0.mk A150
          clear A150
          by_cases c16 : (t172.size : Int) > 0
          · rw [if_pos c16] at H
            have c16b0 : decide (0 < (t172.size : Int)) = true := decide_eq_true c16
            have c16b1 : decide (0 < t172.size) = true := decide_eq_true (by omega)
            clear c16
            by_cases c17 : (t172.size : Int) = 0
            · rw [if_pos c17] at H
              exact absurd H (by simp)
            · rw [if_neg c17] at H
              have c17b0 : ((t172.size : Int) == 0) = false := beq_eq_false_iff_ne.mpr c17
              have c17b1 : ((t172.size : Int) != 0) = true := bne_iff_ne.mpr c17
              obtain ⟨ji18, hji18⟩ : ∃ j_ : Int, (Int.tmod (wrap64 (a2)) (t172.size : Int)) = j_ := ⟨_, rfl⟩
              replace H : (if 0 ≤ (ji18) then (if (ji18) ≤ (t172.size : Int) then ((some (([a3] : List Int) : List Int)).bind fun y175 => (if (t172.extract 0 ((ji18) : Int).toNat).size + (strOfNums y175).size ≤ 9223372036854775807 then (if 0 ≤ (wrap64 ((ji18) + 1)) then (if (wrap64 ((ji18) + 1)) ≤ (t172.size : Int) then (if ((t172.extract 0 ((ji18) : Int).toNat) ++ (strOfNums y175)).size + (t172.extract ((wrap64 ((ji18) + 1)) : Int).toNat t172.size).size ≤ 9223372036854775807 then (if t174 = true then ((redactorlaw06_tells.f kj4 (((t172.extract 0 ((ji18) : Int).toNat) ++ (strOfNums y175)) ++ (t172.extract ((wrap64 ((ji18) + 1)) : Int).toNat t172.size))).bind fun t178 => (some t178)) else (some false)) else (none)) else (none)) else (none)) else (none))) else (none)) else (none)) = some r := by first | (rw [hji18] at H; exact H) | (simp only [hji18] at H ⊢; exact H)
              (try rw [hji18] at A12)
              (try rw [hji18] at A13)
              (try rw [hji18] at A15)
              by_cases c19 : 0 ≤ (ji18)
              · rw [if_pos c19] at H
                have c19b0 := eq_true c19
                have c19b1 : decide (0 ≤ (ji18)) = true := decide_eq_true c19
                clear c19
                by_cases c20 : (ji18) ≤ (t172.size : Int)
                · rw [if_pos c20] at H
                  have c20b0 := eq_true c20
                  have c20b1 : decide ((ji18) ≤ (t172.size : Int)) = true := decide_eq_true c20
                  clear c20
                  obtain ⟨y175, hy175⟩ : ∃ y_ : List Int, y_ = (([a3] : List Int)) := ⟨_, rfl⟩
                  replace H : (if (t172.extract 0 ((ji18) : Int).toNat).size + (strOfNums y175).size ≤ 9223372036854775807 then (if 0 ≤ (wrap64 ((ji18) + 1)) then (if (wrap64 ((ji18) + 1)) ≤ (t172.size : Int) then (if ((t172.extract 0 ((ji18) : Int).toNat) ++ (strOfNums y175)).size + (t172.extract ((wrap64 ((ji18) + 1)) : Int).toNat t172.size).size ≤ 9223372036854775807 then (if t174 = true then ((redactorlaw06_tells.f kj4 (((t172.extract 0 ((ji18) : Int).toNat) ++ (strOfNums y175)) ++ (t172.extract ((wrap64 ((ji18) + 1)) : Int).toNat t172.size))).bind fun t178 => (some t178)) else (some false)) else (none)) else (none)) else (none)) else (none)) = some r := by first | (rw [hy175]; with_reducible exact H) | (have H2_ := (Option.bind_some _ _).symm.trans H; rw [hy175]; with_reducible exact H2_) | (have H2_ := (Option.bind_some _ _).symm.trans H; with_reducible exact H2_) | with_reducible exact H | (rw [hy175]; exact H) | exact H
                  have Ny175 := Aside0.mk hy175
                  clear hy175
                  by_cases c21 : (t172.extract 0 ((ji18) : Int).toNat).size + (strOfNums y175).size ≤ 9223372036854775807
                  · rw [if_pos c21] at H
                    have c21b0 := eq_true c21
                    have c21b1 : decide ((t172.extract 0 ((ji18) : Int).toNat).size + (strOfNums y175).size ≤ 9223372036854775807) = true := decide_eq_true c21
                    try have c21b2 : (9223372036854775807 < (t172.extract 0 ((ji18) : Int).toNat).size + (strOfNums y175).size) = False := eq_false (Nat.not_lt.2 c21)
                    have c21b8 : (9223372036854775807 < ji18.toNat + (strOfNums y175).size) = False := by rw [← (show (t172.extract 0 ji18.toNat).size = ji18.toNat by have q_ := of_eq_true c20b0; rw [ByteArray.size_extract]; omega)]; exact c21b2
                    obtain ⟨ji22, hji22⟩ : ∃ j_ : Int, (wrap64 ((ji18) + 1)) = j_ := ⟨_, rfl⟩
                    replace H : (if 0 ≤ (ji22) then (if (ji22) ≤ (t172.size : Int) then (if ((t172.extract 0 ((ji18) : Int).toNat) ++ (strOfNums y175)).size + (t172.extract ((ji22) : Int).toNat t172.size).size ≤ 9223372036854775807 then (if t174 = true then ((redactorlaw06_tells.f kj4 (((t172.extract 0 ((ji18) : Int).toNat) ++ (strOfNums y175)) ++ (t172.extract ((ji22) : Int).toNat t172.size))).bind fun t178 => (some t178)) else (some false)) else (none)) else (none)) else (none)) = some r := by first | (rw [hji22] at H; exact H) | (simp only [hji22] at H ⊢; exact H)
                    (try rw [hji22] at A12)
                    (try rw [hji22] at A13)
                    (try rw [hji22] at A15)
                    have hji22w : (IntKind.i64.wrap ((ji18) + 1)) = ji22 := (i64_w _).trans hji22
                    by_cases c23 : 0 ≤ (ji22)
                    · rw [if_pos c23] at H
                      have c23b0 := eq_true c23
                      have c23b1 : decide (0 ≤ (ji22)) = true := decide_eq_true c23
                      clear c23
                      by_cases c24 : (ji22) ≤ (t172.size : Int)
                      · rw [if_pos c24] at H
                        have c24b0 := eq_true c24
                        have c24b1 : decide ((ji22) ≤ (t172.size : Int)) = true := decide_eq_true c24
                        clear c24
                        by_cases c25 : ((t172.extract 0 ((ji18) : Int).toNat) ++ (strOfNums y175)).size + (t172.extract ((ji22) : Int).toNat t172.size).size ≤ 9223372036854775807
                        · rw [if_pos c25] at H
                          have c25b0 := eq_true c25
                          have c25b1 : decide (((t172.extract 0 ((ji18) : Int).toNat) ++ (strOfNums y175)).size + (t172.extract ((ji22) : Int).toNat t172.size).size ≤ 9223372036854775807) = true := decide_eq_true c25
                          try have c25b2 : (9223372036854775807 < ((t172.extract 0 ((ji18) : Int).toNat) ++ (strOfNums y175)).size + (t172.extract ((ji22) : Int).toNat t172.size).size) = False := eq_false (Nat.not_lt.2 c25)
                          have c25b9 : (9223372036854775807 < ji18.toNat + (strOfNums y175).size + (t172.size - ji22.toNat)) = False := by have q_ := of_eq_true c20b0; have q2_ := of_eq_true c24b0; have h_ := c25b2; rw [ByteArray.size_append, ByteArray.size_extract, ByteArray.size_extract] at h_; rw [← (show min ji18.toNat t172.size - 0 = ji18.toNat by omega), ← (show min t172.size t172.size - ji22.toNat = t172.size - ji22.toNat by omega)]; exact h_
                          try have c25b8 := c25b2
                          try simp only [ByteArray.size_append, go_sem, List.size_toArray, List.length_cons, List.length_nil, Nat.zero_add, Nat.reduceAdd] at c25b8
                          by_cases c26 : t174 = true
                          · subst c26
                            have H1 : ((redactorlaw06_tells.f kj4 (((t172.extract 0 ((ji18) : Int).toNat) ++ (strOfNums y175)) ++ (t172.extract ((ji22) : Int).toNat t172.size))).bind fun t178 => (some t178)) = some r := by rw [if_pos rfl] at H; exact H
                            clear H
                            have H := H1
                            clear H1
                            replace H := Option.bind_eq_some_iff.mp H
                            obtain ⟨t178, A270, H⟩ := H
                            replace H : (some t178) = some r := H
                            have A27 := Aside0.mk A270
                            clear A270
                            obtain rfl := Option.some.inj H
                            try go_wp2_with (first | ((with_reducible refine gate_callee (f := 11) rfl ?_); refine goesL_ (some 21) rfl rfl Tryz.func11 (by kernel_rfl) rfl #[.slice A1 l1.length c1] rfl (by (try simp only [List.map_toArray, List.map_cons, List.map_nil]); first | done | rfl | (simp only [List.length_drop, List.length_take]; rfl)) ?_; (with_reducible refine (redactorlaw06_Text.calls kj4 _ _ l1 t172 _ ?side1 ?side2 A12.out).mono ?_); (case side1 => repeat (first | exact (Kd.C_below HR1.out HB.out) | (with_reducible refine Kd.C_alloc ?_ _) | (with_reducible refine Kd.C_drewN ?_ _) | (with_reducible refine Kd.C_drew ?_))); (case side2 => exact HC1.out); rintro e w28 ⟨rfl, hb⟩; refine ⟨_, rfl, ?_⟩; have n0_ := Aside0.mk (below_step (by repeat (first | (with_reducible first | exact HB.out | apply below_alloc | apply pw_below_drewN | apply below_drew1) | exact HB.out)) hb); clear HB; have HB := n0_; clear n0_; (try clear hb); (try clear hb2); (try clear hk); (try clear hi)) | ((with_reducible refine gate_callee (f := 12) rfl ?_); refine goesL_ (some 23) rfl rfl Tryz.func12 (by kernel_rfl) rfl #[.string a0] rfl (by (try simp only [List.map_toArray, List.map_cons, List.map_nil]); first | done | rfl | (simp only [List.length_drop, List.length_take]; rfl)) ?_; (with_reducible refine (redactorlaw06_tells.calls kj4 a0 true _ A13.out).mono ?_); rintro e w29 ⟨rfl, hb⟩; refine ⟨_, rfl, ?_⟩; have n0_ := Aside0.mk (below_step (by repeat (first | (with_reducible first | exact HB.out | apply below_alloc | apply pw_below_drewN | apply below_drew1) | exact HB.out)) hb); clear HB; have HB := n0_; clear n0_; (try clear hb); (try clear hb2); (try clear hk); (try clear hi)) | (go_at_call 12; (with_reducible refine (redactorlaw06_tells.calls kj4 t172 true _ A15.out).mono ?_); rintro e w30 ⟨rfl, hb⟩; have n0_ := Aside0.mk (below_step (by repeat (first | (with_reducible first | exact HB.out | apply below_alloc | apply pw_below_drewN | apply below_drew1) | exact HB.out)) hb); clear HB; have HB := n0_; clear n0_; (try clear hb); (try clear hb2); (try clear hk); (try clear hi)))
                            have n0_ := Aside0.mk (below_drew1 HB.out)
                            clear HB
                            have HB := n0_
                            clear n0_
                            refine start_ (n := 13) (S := fun w' => True) (ds := []) #[false, false, false, false, false, false, false, false, false, false, false, false, false] (by kernel_rfl) rfl rfl trivial (fun hHeld => ?_); refine with_tabW redactorlaw06_LexTokens.tab7 redactorlaw06_LexTokens.bits7 (fun HT_ HW_ => ?_)
                            generalize w30.drew = w31 at HB hHeld ⊢
                            refine pure_ (i := 0) (N := some 36) (v := ?_) (a' := ?_) #[true, false, false, false, false, false, false, false, false, false, false, false, false] rfl rfl (any_of HT_.out (by kernel_rfl)) (fun _ _ _ h => h) (Or.inl ⟨by rfl, ?_⟩) ?_ ?_
                            rotate_left
                            · intro w'
                              go_simp
                              with_reducible rfl
                            rotate_left
                            · simp only [Act.put, List.setIfInBounds_toArray, List.set_cons_zero, List.set_cons_succ, i64_w, i32_w]
                              rfl
                            refine pure_ (i := 1) (N := some 37) (v := ?_) (a' := ?_) #[true, true, false, false, false, false, false, false, false, false, false, false, false] rfl rfl (any_of HT_.out (by kernel_rfl)) (fun _ _ _ h => h) (Or.inl ⟨by rfl, ?_⟩) ?_ ?_
                            rotate_left
                            · intro w'
                              go_simp
                              with_reducible rfl
                            rotate_left
                            · simp only [Act.put, List.setIfInBounds_toArray, List.set_cons_zero, List.set_cons_succ, i64_w, i32_w]
                              rfl
                            refine pure_ (i := 2) (N := some 38) (v := ?_) (a' := ?_) #[true, true, true, false, false, false, false, false, false, false, false, false, false] rfl rfl (any_of HT_.out (by kernel_rfl)) (fun _ _ _ h => h) (Or.inl ⟨by rfl, ?_⟩) ?_ ?_
                            rotate_left
                            · intro w'
                              go_simp
                              with_reducible rfl
                            rotate_left
                            · simp only [Act.put, List.setIfInBounds_toArray, List.set_cons_zero, List.set_cons_succ, i64_w, i32_w]
                              rfl
                            refine pure_ (i := 3) (N := some 39) (v := ?_) (a' := ?_) #[true, true, true, true, false, false, false, false, false, false, false, false, false] rfl rfl (any_of HT_.out (by kernel_rfl)) (fun _ _ _ h => h) (Or.inl ⟨by rfl, ?_⟩) ?_ ?_
                            rotate_left
                            · intro w'
                              go_simp
                              with_reducible rfl
                            rotate_left
                            · simp only [Act.put, List.setIfInBounds_toArray, List.set_cons_zero, List.set_cons_succ, i64_w, i32_w]
                              rfl
                            refine pure_ (i := 7) (N := some 43) (v := ?_) (a' := ?_) #[true, true, true, true, false, false, false, true, false, false, false, false, false] rfl rfl (any_of HT_.out (by kernel_rfl)) (fun _ _ _ h => h) (Or.inl ⟨by rfl, ?_⟩) ?_ ?_
                            rotate_left
                            · intro w'
                              go_simp
                              with_reducible rfl
                            rotate_left
                            · simp only [Act.put, List.setIfInBounds_toArray, List.set_cons_zero, List.set_cons_succ, i64_w, i32_w]
                              rfl
                            refine pure_ (i := 8) (N := some 44) (v := ?_) (a' := ?_) #[true, true, true, true, false, false, false, true, true, false, false, false, false] rfl rfl (any_of HT_.out (by kernel_rfl)) (fun _ _ _ h => h) (Or.inl ⟨by rfl, ?_⟩) ?_ ?_
                            rotate_left
                            · intro w'
                              go_simp
                              with_reducible rfl
                            rotate_left
                            · simp only [Act.put, List.setIfInBounds_toArray, List.set_cons_zero, List.set_cons_succ, i64_w, i32_w]
                              rfl
                            refine pure_ (i := 9) (N := some 45) (v := ?_) (a' := ?_) #[true, true, true, true, false, false, false, true, true, true, false, false, false] rfl rfl (any_of HT_.out (by kernel_rfl)) (fun _ _ _ h => h) (Or.inl ⟨by rfl, ?_⟩) ?_ ?_
                            rotate_left
                            · intro w'
                              go_simp
                              with_reducible rfl
                            rotate_left
                            · simp only [Act.put, List.setIfInBounds_toArray, List.set_cons_zero, List.set_cons_succ, i64_w, i32_w]
                              rfl
                            refine pure_ (i := 10) (N := some 46) (v := ?_) (a' := ?_) #[true, true, true, true, false, false, false, true, true, true, true, false, false] rfl rfl (any_of HT_.out (by kernel_rfl)) (fun _ _ _ h => h) (Or.inl ⟨by rfl, ?_⟩) ?_ ?_
                            rotate_left
                            · intro w'
                              go_simp
                              with_reducible rfl
                            rotate_left
                            · simp only [Act.put, List.setIfInBounds_toArray, List.set_cons_zero, List.set_cons_succ, i64_w, i32_w]
                              rfl
                            refine one_ (i := 4) (N := some 40) #[true, true, true, true, true, false, false, true, true, true, true, false, false] rfl rfl (one_of HT_.out (by kernel_rfl)) (by decide) (fun K hK => ?_)
                            refine Kd.R_lit_step (Kd.int .u8) _ 5 ?hg (N := 40) ?hd (xs := ([a3] : List Int)) (inner := [.int .u8 a3]) (ok := fun _ => True) (okp := fun _ => True) ?hr ?hp (fun _ hk => hk) trivial (Below.refl _ _) (Nat.le_refl _) (by simp) ?_; (case hd => rfl); (case hg => rfl); (case hr => first | (go_simp; done) | (go_simp; rfl)); (case hp => exact (Reps.one (show Kd.M (Kd.int .u8) _ _ _ a3 [.int .u8 a3] from rfl) (Reps.none _ _)))
                            intro v176 w32 ho33 hb hg_ hnew_
                            clear hg_ hnew_
                            (first | rw [← Ny175.out] at ho33 | (simp only [Int.reduceToNat] at ho33; rw [← Ny175.out] at ho33))
                            have n0_ := Aside0.mk (Kd.R_lower ho33 (below_size (by repeat (first | (with_reducible first | exact HB.out | apply below_alloc | apply pw_below_drewN | apply below_drew1) | exact HB.out))))
                            have n1_ := Aside0.mk (below_step (by repeat (first | (with_reducible first | exact HB.out | apply below_alloc | apply pw_below_drewN | apply below_drew1) | exact HB.out)) hb)
                            clear HB
                            have HO177 := n0_
                            have HB := n1_
                            clear n0_ n1_
                            clear hb ho33
                            refine hK.out _ _ trivial (fun hHeld => ?_)
                            clear hK K
                            refine norm_ (a' := ?_) ?_ ?_
                            rotate_left
                            · show Act.put _ (some 40) _ = _
                              simp only [Act.put, List.setIfInBounds_toArray, List.set_cons_zero, List.set_cons_succ, i64_w, i32_w]
                              rfl
                            refine one_ (i := 5) (N := some 41) #[true, true, true, true, true, true, false, true, true, true, true, false, false] rfl rfl (one_of HT_.out (by kernel_rfl)) (by decide) (fun K hK => ?_)
                            have hcv34 := own_string (P := Tryz.prog) Tryz.underlying22 Tryz.underlying5 Tryz.underlying9 (Kd.own_of_R HO177.out)
                            refine value_ (w1 := ?_) (v := ?_) (by rfl) rfl ?_ ?_
                            rotate_left 2
                            · go_simp
                              constructor
                              · rfl
                              · rfl
                            clear hcv34
                            refine hK.out _ _ trivial (fun hHeld => ?_)
                            clear hK K
                            refine norm_ (a' := ?_) ?_ ?_
                            rotate_left
                            · show Act.put _ (some 41) _ = _
                              simp only [Act.put, List.setIfInBounds_toArray, List.set_cons_zero, List.set_cons_succ, i64_w, i32_w]
                              rfl
                            refine pure_ (i := 6) (N := some 42) (v := ?_) (a' := ?_) #[true, true, true, true, true, true, true, true, true, true, true, false, false] rfl rfl (any_of HT_.out (by kernel_rfl)) (fun _ _ _ h => h) (Or.inl ⟨by rfl, ?_⟩) ?_ ?_
                            rotate_left
                            · intro w'
                              go_simp
                              with_reducible rfl
                            rotate_left
                            · simp only [Act.put, List.setIfInBounds_toArray, List.set_cons_zero, List.set_cons_succ, i64_w, i32_w]
                              rfl
                            refine pure_ (i := 11) (N := some 47) (v := ?_) (a' := ?_) #[true, true, true, true, true, true, true, true, true, true, true, true, false] rfl rfl (any_of HT_.out (by kernel_rfl)) (fun _ _ _ h => h) (Or.inl ⟨by rfl, ?_⟩) ?_ ?_
                            rotate_left
                            · intro w'
                              go_simp
                              with_reducible rfl
                            rotate_left
                            · simp only [Act.put, List.setIfInBounds_toArray, List.set_cons_zero, List.set_cons_succ, i64_w, i32_w]
                              rfl
                            refine pure_ (i := 12) (N := some 9) (v := ?_) (a' := ?_) #[true, true, true, true, true, true, true, true, true, true, true, true, true] rfl rfl (any_of HT_.out (by kernel_rfl)) (fun _ _ _ h => h) (Or.inl ⟨by rfl, ?_⟩) ?_ ?_
                            rotate_left
                            · intro w'
                              go_simp
                              with_reducible rfl
                            rotate_left
                            · simp only [Act.put, List.setIfInBounds_toArray, List.set_cons_zero, List.set_cons_succ, i64_w, i32_w]
                              rfl
                            refine done_ (done_of HT_.out (by kernel_rfl)) ?_
                            try go_wp2_with (first | (go_at_call 12; (with_reducible refine (redactorlaw06_tells.calls kj4 (((t172.extract 0 ((ji18) : Int).toNat) ++ (strOfNums y175)) ++ (t172.extract ((ji22) : Int).toNat t172.size)) t178 _ A27.out).mono ?_); rintro e w35 ⟨rfl, hb⟩; have n0_ := Aside0.mk (Kd.R_below (by (with_reducible repeat (first | apply Kd.R_alloc | apply Kd.R_drewN | apply Kd.R_drew)); exact HO177.out) hb); have n1_ := Aside0.mk (below_step (by repeat (first | (with_reducible first | exact HB.out | apply below_alloc | apply pw_below_drewN | apply below_drew1) | exact HB.out)) hb); clear HO177; clear HB; have HO177 := n0_; have HB := n1_; clear n0_ n1_; (try clear hb); (try clear hb2); (try clear hk); (try clear hi)))
                            go_ret
                            exact ⟨by first | rfl | (simp [errW_none, errW_some] <;> rfl) | (simp only [← hji18, ← hji22]; first | rfl | (simp [errW_none, errW_some] <;> rfl)) | (simp [*, errW_none, errW_some] <;> rfl), by repeat (first | (with_reducible first | exact HB.out | apply below_alloc | apply pw_below_drewN | apply below_drew1) | exact HB.out)⟩
                          · replace c26 := Bool.eq_false_iff.mpr c26
                            subst c26
                            have H1 : (some false) = some r := by rw [if_neg (show ¬ (false = true) by decide)] at H; exact H
                            clear H
                            have H := H1
                            clear H1
                            obtain rfl := Option.some.inj H
                            try go_wp2_with (first | ((with_reducible refine gate_callee (f := 11) rfl ?_); refine goesL_ (some 21) rfl rfl Tryz.func11 (by kernel_rfl) rfl #[.slice A1 l1.length c1] rfl (by (try simp only [List.map_toArray, List.map_cons, List.map_nil]); first | done | rfl | (simp only [List.length_drop, List.length_take]; rfl)) ?_; (with_reducible refine (redactorlaw06_Text.calls kj4 _ _ l1 t172 _ ?side1 ?side2 A12.out).mono ?_); (case side1 => repeat (first | exact (Kd.C_below HR1.out HB.out) | (with_reducible refine Kd.C_alloc ?_ _) | (with_reducible refine Kd.C_drewN ?_ _) | (with_reducible refine Kd.C_drew ?_))); (case side2 => exact HC1.out); rintro e w36 ⟨rfl, hb⟩; refine ⟨_, rfl, ?_⟩; have n0_ := Aside0.mk (below_step (by repeat (first | (with_reducible first | exact HB.out | apply below_alloc | apply pw_below_drewN | apply below_drew1) | exact HB.out)) hb); clear HB; have HB := n0_; clear n0_; (try clear hb); (try clear hb2); (try clear hk); (try clear hi)) | ((with_reducible refine gate_callee (f := 12) rfl ?_); refine goesL_ (some 23) rfl rfl Tryz.func12 (by kernel_rfl) rfl #[.string a0] rfl (by (try simp only [List.map_toArray, List.map_cons, List.map_nil]); first | done | rfl | (simp only [List.length_drop, List.length_take]; rfl)) ?_; (with_reducible refine (redactorlaw06_tells.calls kj4 a0 true _ A13.out).mono ?_); rintro e w37 ⟨rfl, hb⟩; refine ⟨_, rfl, ?_⟩; have n0_ := Aside0.mk (below_step (by repeat (first | (with_reducible first | exact HB.out | apply below_alloc | apply pw_below_drewN | apply below_drew1) | exact HB.out)) hb); clear HB; have HB := n0_; clear n0_; (try clear hb); (try clear hb2); (try clear hk); (try clear hi)) | (go_at_call 12; (with_reducible refine (redactorlaw06_tells.calls kj4 t172 false _ A15.out).mono ?_); rintro e w38 ⟨rfl, hb⟩; have n0_ := Aside0.mk (below_step (by repeat (first | (with_reducible first | exact HB.out | apply below_alloc | apply pw_below_drewN | apply below_drew1) | exact HB.out)) hb); clear HB; have HB := n0_; clear n0_; (try clear hb); (try clear hb2); (try clear hk); (try clear hi)))
                            have n0_ := Aside0.mk (below_drew1 HB.out)
                            clear HB
                            have HB := n0_
                            clear n0_
                            refine start_ (n := 13) (S := fun w' => True) (ds := []) #[false, false, false, false, false, false, false, false, false, false, false, false, false] (by kernel_rfl) rfl rfl trivial (fun hHeld => ?_); refine with_tabW redactorlaw06_LexTokens.tab7 redactorlaw06_LexTokens.bits7 (fun HT_ HW_ => ?_)
                            generalize w38.drew = w39 at HB hHeld ⊢
                            refine pure_ (i := 0) (N := some 36) (v := ?_) (a' := ?_) #[true, false, false, false, false, false, false, false, false, false, false, false, false] rfl rfl (any_of HT_.out (by kernel_rfl)) (fun _ _ _ h => h) (Or.inl ⟨by rfl, ?_⟩) ?_ ?_
                            rotate_left
                            · intro w'
                              go_simp
                              with_reducible rfl
                            rotate_left
                            · simp only [Act.put, List.setIfInBounds_toArray, List.set_cons_zero, List.set_cons_succ, i64_w, i32_w]
                              rfl
                            refine pure_ (i := 1) (N := some 37) (v := ?_) (a' := ?_) #[true, true, false, false, false, false, false, false, false, false, false, false, false] rfl rfl (any_of HT_.out (by kernel_rfl)) (fun _ _ _ h => h) (Or.inl ⟨by rfl, ?_⟩) ?_ ?_
                            rotate_left
                            · intro w'
                              go_simp
                              with_reducible rfl
                            rotate_left
                            · simp only [Act.put, List.setIfInBounds_toArray, List.set_cons_zero, List.set_cons_succ, i64_w, i32_w]
                              rfl
                            refine pure_ (i := 2) (N := some 38) (v := ?_) (a' := ?_) #[true, true, true, false, false, false, false, false, false, false, false, false, false] rfl rfl (any_of HT_.out (by kernel_rfl)) (fun _ _ _ h => h) (Or.inl ⟨by rfl, ?_⟩) ?_ ?_
                            rotate_left
                            · intro w'
                              go_simp
                              with_reducible rfl
                            rotate_left
                            · simp only [Act.put, List.setIfInBounds_toArray, List.set_cons_zero, List.set_cons_succ, i64_w, i32_w]
                              rfl
                            refine pure_ (i := 3) (N := some 39) (v := ?_) (a' := ?_) #[true, true, true, true, false, false, false, false, false, false, false, false, false] rfl rfl (any_of HT_.out (by kernel_rfl)) (fun _ _ _ h => h) (Or.inl ⟨by rfl, ?_⟩) ?_ ?_
                            rotate_left
                            · intro w'
                              go_simp
                              with_reducible rfl
                            rotate_left
                            · simp only [Act.put, List.setIfInBounds_toArray, List.set_cons_zero, List.set_cons_succ, i64_w, i32_w]
                              rfl
                            refine pure_ (i := 7) (N := some 43) (v := ?_) (a' := ?_) #[true, true, true, true, false, false, false, true, false, false, false, false, false] rfl rfl (any_of HT_.out (by kernel_rfl)) (fun _ _ _ h => h) (Or.inl ⟨by rfl, ?_⟩) ?_ ?_
                            rotate_left
                            · intro w'
                              go_simp
                              with_reducible rfl
                            rotate_left
                            · simp only [Act.put, List.setIfInBounds_toArray, List.set_cons_zero, List.set_cons_succ, i64_w, i32_w]
                              rfl
                            refine pure_ (i := 8) (N := some 44) (v := ?_) (a' := ?_) #[true, true, true, true, false, false, false, true, true, false, false, false, false] rfl rfl (any_of HT_.out (by kernel_rfl)) (fun _ _ _ h => h) (Or.inl ⟨by rfl, ?_⟩) ?_ ?_
                            rotate_left
                            · intro w'
                              go_simp
                              with_reducible rfl
                            rotate_left
                            · simp only [Act.put, List.setIfInBounds_toArray, List.set_cons_zero, List.set_cons_succ, i64_w, i32_w]
                              rfl
                            refine pure_ (i := 9) (N := some 45) (v := ?_) (a' := ?_) #[true, true, true, true, false, false, false, true, true, true, false, false, false] rfl rfl (any_of HT_.out (by kernel_rfl)) (fun _ _ _ h => h) (Or.inl ⟨by rfl, ?_⟩) ?_ ?_
                            rotate_left
                            · intro w'
                              go_simp
                              with_reducible rfl
                            rotate_left
                            · simp only [Act.put, List.setIfInBounds_toArray, List.set_cons_zero, List.set_cons_succ, i64_w, i32_w]
                              rfl
                            refine pure_ (i := 10) (N := some 46) (v := ?_) (a' := ?_) #[true, true, true, true, false, false, false, true, true, true, true, false, false] rfl rfl (any_of HT_.out (by kernel_rfl)) (fun _ _ _ h => h) (Or.inl ⟨by rfl, ?_⟩) ?_ ?_
                            rotate_left
                            · intro w'
                              go_simp
                              with_reducible rfl
                            rotate_left
                            · simp only [Act.put, List.setIfInBounds_toArray, List.set_cons_zero, List.set_cons_succ, i64_w, i32_w]
                              rfl
                            refine one_ (i := 4) (N := some 40) #[true, true, true, true, true, false, false, true, true, true, true, false, false] rfl rfl (one_of HT_.out (by kernel_rfl)) (by decide) (fun K hK => ?_)
                            refine Kd.R_lit_step (Kd.int .u8) _ 5 ?hg (N := 40) ?hd (xs := ([a3] : List Int)) (inner := [.int .u8 a3]) (ok := fun _ => True) (okp := fun _ => True) ?hr ?hp (fun _ hk => hk) trivial (Below.refl _ _) (Nat.le_refl _) (by simp) ?_; (case hd => rfl); (case hg => rfl); (case hr => first | (go_simp; done) | (go_simp; rfl)); (case hp => exact (Reps.one (show Kd.M (Kd.int .u8) _ _ _ a3 [.int .u8 a3] from rfl) (Reps.none _ _)))
                            intro v176 w40 ho41 hb hg_ hnew_
                            clear hg_ hnew_
                            (first | rw [← Ny175.out] at ho41 | (simp only [Int.reduceToNat] at ho41; rw [← Ny175.out] at ho41))
                            have n0_ := Aside0.mk (Kd.R_lower ho41 (below_size (by repeat (first | (with_reducible first | exact HB.out | apply below_alloc | apply pw_below_drewN | apply below_drew1) | exact HB.out))))
                            have n1_ := Aside0.mk (below_step (by repeat (first | (with_reducible first | exact HB.out | apply below_alloc | apply pw_below_drewN | apply below_drew1) | exact HB.out)) hb)
                            clear HB
                            have HO177 := n0_
                            have HB := n1_
                            clear n0_ n1_
                            clear hb ho41
                            refine hK.out _ _ trivial (fun hHeld => ?_)
                            clear hK K
                            refine norm_ (a' := ?_) ?_ ?_
                            rotate_left
                            · show Act.put _ (some 40) _ = _
                              simp only [Act.put, List.setIfInBounds_toArray, List.set_cons_zero, List.set_cons_succ, i64_w, i32_w]
                              rfl
                            refine one_ (i := 5) (N := some 41) #[true, true, true, true, true, true, false, true, true, true, true, false, false] rfl rfl (one_of HT_.out (by kernel_rfl)) (by decide) (fun K hK => ?_)
                            have hcv42 := own_string (P := Tryz.prog) Tryz.underlying22 Tryz.underlying5 Tryz.underlying9 (Kd.own_of_R HO177.out)
                            refine value_ (w1 := ?_) (v := ?_) (by rfl) rfl ?_ ?_
                            rotate_left 2
                            · go_simp
                              constructor
                              · rfl
                              · rfl
                            clear hcv42
                            refine hK.out _ _ trivial (fun hHeld => ?_)
                            clear hK K
                            refine norm_ (a' := ?_) ?_ ?_
                            rotate_left
                            · show Act.put _ (some 41) _ = _
                              simp only [Act.put, List.setIfInBounds_toArray, List.set_cons_zero, List.set_cons_succ, i64_w, i32_w]
                              rfl
                            refine pure_ (i := 6) (N := some 42) (v := ?_) (a' := ?_) #[true, true, true, true, true, true, true, true, true, true, true, false, false] rfl rfl (any_of HT_.out (by kernel_rfl)) (fun _ _ _ h => h) (Or.inl ⟨by rfl, ?_⟩) ?_ ?_
                            rotate_left
                            · intro w'
                              go_simp
                              with_reducible rfl
                            rotate_left
                            · simp only [Act.put, List.setIfInBounds_toArray, List.set_cons_zero, List.set_cons_succ, i64_w, i32_w]
                              rfl
                            refine pure_ (i := 11) (N := some 47) (v := ?_) (a' := ?_) #[true, true, true, true, true, true, true, true, true, true, true, true, false] rfl rfl (any_of HT_.out (by kernel_rfl)) (fun _ _ _ h => h) (Or.inl ⟨by rfl, ?_⟩) ?_ ?_
                            rotate_left
                            · intro w'
                              go_simp
                              with_reducible rfl
                            rotate_left
                            · simp only [Act.put, List.setIfInBounds_toArray, List.set_cons_zero, List.set_cons_succ, i64_w, i32_w]
                              rfl
                            refine pure_ (i := 12) (N := some 9) (v := ?_) (a' := ?_) #[true, true, true, true, true, true, true, true, true, true, true, true, true] rfl rfl (any_of HT_.out (by kernel_rfl)) (fun _ _ _ h => h) (Or.inl ⟨by rfl, ?_⟩) ?_ ?_
                            rotate_left
                            · intro w'
                              go_simp
                              with_reducible rfl
                            rotate_left
                            · simp only [Act.put, List.setIfInBounds_toArray, List.set_cons_zero, List.set_cons_succ, i64_w, i32_w]
                              rfl
                            refine done_ (done_of HT_.out (by kernel_rfl)) ?_
                            try go_wp2
                            go_ret
                            exact ⟨by first | rfl | (simp [errW_none, errW_some] <;> rfl) | (simp only [← hji18, ← hji22]; first | rfl | (simp [errW_none, errW_some] <;> rfl)) | (simp [*, errW_none, errW_some] <;> rfl), by repeat (first | (with_reducible first | exact HB.out | apply below_alloc | apply pw_below_drewN | apply below_drew1) | exact HB.out)⟩
                        · rw [if_neg c25] at H
                          exact absurd H (by simp)
                      · rw [if_neg c24] at H
                        exact absurd H (by simp)
                    · rw [if_neg c23] at H
                      exact absurd H (by simp)
                  · rw [if_neg c21] at H
                    exact absurd H (by simp)
                · rw [if_neg c20] at H
                  exact absurd H (by simp)
              · rw [if_neg c19] at H
                exact absurd H (by simp)
          · rw [if_neg c16] at H
            have c16b0 : decide (0 < (t172.size : Int)) = false := decide_eq_false c16
            have c16b1 : decide (0 < t172.size) = false := decide_eq_false (by omega)
            clear c16
            by_cases c43 : t174 = true
            · subst c43
              have H1 : ((redactorlaw06_tells.f kj4 t172).bind fun t179 => (some t179)) = some r := by rw [if_pos rfl] at H; exact H
              clear H
              have H := H1
              clear H1
              replace H := Option.bind_eq_some_iff.mp H
              obtain ⟨t179, A440, H⟩ := H
              replace H : (some t179) = some r := H
              obtain rfl : t179 = true := Option.some.inj (A440.symm.trans A15.out)
              have A44 := Aside0.mk A440
              clear A440
              obtain rfl := Option.some.inj H
              go_wp2_with (first | ((with_reducible refine gate_callee (f := 11) rfl ?_); refine goesL_ (some 21) rfl rfl Tryz.func11 (by kernel_rfl) rfl #[.slice A1 l1.length c1] rfl (by (try simp only [List.map_toArray, List.map_cons, List.map_nil]); first | done | rfl | (simp only [List.length_drop, List.length_take]; rfl)) ?_; (with_reducible refine (redactorlaw06_Text.calls kj4 _ _ l1 t172 _ ?side1 ?side2 A12.out).mono ?_); (case side1 => repeat (first | exact (Kd.C_below HR1.out HB.out) | (with_reducible refine Kd.C_alloc ?_ _) | (with_reducible refine Kd.C_drewN ?_ _) | (with_reducible refine Kd.C_drew ?_))); (case side2 => exact HC1.out); rintro e w45 ⟨rfl, hb⟩; refine ⟨_, rfl, ?_⟩; have n0_ := Aside0.mk (below_step (by repeat (first | (with_reducible first | exact HB.out | apply below_alloc | apply pw_below_drewN | apply below_drew1) | exact HB.out)) hb); clear HB; have HB := n0_; clear n0_; (try clear hb); (try clear hb2); (try clear hk); (try clear hi)) | ((with_reducible refine gate_callee (f := 12) rfl ?_); refine goesL_ (some 23) rfl rfl Tryz.func12 (by kernel_rfl) rfl #[.string a0] rfl (by (try simp only [List.map_toArray, List.map_cons, List.map_nil]); first | done | rfl | (simp only [List.length_drop, List.length_take]; rfl)) ?_; (with_reducible refine (redactorlaw06_tells.calls kj4 a0 true _ A13.out).mono ?_); rintro e w46 ⟨rfl, hb⟩; refine ⟨_, rfl, ?_⟩; have n0_ := Aside0.mk (below_step (by repeat (first | (with_reducible first | exact HB.out | apply below_alloc | apply pw_below_drewN | apply below_drew1) | exact HB.out)) hb); clear HB; have HB := n0_; clear n0_; (try clear hb); (try clear hb2); (try clear hk); (try clear hi)) | (go_at_call 12; (with_reducible refine (redactorlaw06_tells.calls kj4 t172 true _ A15.out).mono ?_); rintro e w47 ⟨rfl, hb⟩; have n0_ := Aside0.mk (below_step (by repeat (first | (with_reducible first | exact HB.out | apply below_alloc | apply pw_below_drewN | apply below_drew1) | exact HB.out)) hb); clear HB; have HB := n0_; clear n0_; (try clear hb); (try clear hb2); (try clear hk); (try clear hi)) | (go_at_call 12; (with_reducible refine (redactorlaw06_tells.calls kj4 t172 t179 _ A44.out).mono ?_); rintro e w48 ⟨rfl, hb⟩; have n0_ := Aside0.mk (below_step (by repeat (first | (with_reducible first | exact HB.out | apply below_alloc | apply pw_below_drewN | apply below_drew1) | exact HB.out)) hb); clear HB; have HB := n0_; clear n0_; (try clear hb); (try clear hb2); (try clear hk); (try clear hi)))
              go_ret
              exact ⟨by first | rfl | (simp [errW_none, errW_some] <;> rfl) | (simp [*, errW_none, errW_some] <;> rfl), by repeat (first | (with_reducible first | exact HB.out | apply below_alloc | apply pw_below_drewN | apply below_drew1) | exact HB.out)⟩
            · replace c43 := Bool.eq_false_iff.mpr c43
              subst c43
              have H1 : (some false) = some r := by rw [if_neg (show ¬ (false = true) by decide)] at H; exact H
              clear H
              have H := H1
              clear H1
              obtain rfl := Option.some.inj H
              go_wp2_with (first | ((with_reducible refine gate_callee (f := 11) rfl ?_); refine goesL_ (some 21) rfl rfl Tryz.func11 (by kernel_rfl) rfl #[.slice A1 l1.length c1] rfl (by (try simp only [List.map_toArray, List.map_cons, List.map_nil]); first | done | rfl | (simp only [List.length_drop, List.length_take]; rfl)) ?_; (with_reducible refine (redactorlaw06_Text.calls kj4 _ _ l1 t172 _ ?side1 ?side2 A12.out).mono ?_); (case side1 => repeat (first | exact (Kd.C_below HR1.out HB.out) | (with_reducible refine Kd.C_alloc ?_ _) | (with_reducible refine Kd.C_drewN ?_ _) | (with_reducible refine Kd.C_drew ?_))); (case side2 => exact HC1.out); rintro e w49 ⟨rfl, hb⟩; refine ⟨_, rfl, ?_⟩; have n0_ := Aside0.mk (below_step (by repeat (first | (with_reducible first | exact HB.out | apply below_alloc | apply pw_below_drewN | apply below_drew1) | exact HB.out)) hb); clear HB; have HB := n0_; clear n0_; (try clear hb); (try clear hb2); (try clear hk); (try clear hi)) | ((with_reducible refine gate_callee (f := 12) rfl ?_); refine goesL_ (some 23) rfl rfl Tryz.func12 (by kernel_rfl) rfl #[.string a0] rfl (by (try simp only [List.map_toArray, List.map_cons, List.map_nil]); first | done | rfl | (simp only [List.length_drop, List.length_take]; rfl)) ?_; (with_reducible refine (redactorlaw06_tells.calls kj4 a0 true _ A13.out).mono ?_); rintro e w50 ⟨rfl, hb⟩; refine ⟨_, rfl, ?_⟩; have n0_ := Aside0.mk (below_step (by repeat (first | (with_reducible first | exact HB.out | apply below_alloc | apply pw_below_drewN | apply below_drew1) | exact HB.out)) hb); clear HB; have HB := n0_; clear n0_; (try clear hb); (try clear hb2); (try clear hk); (try clear hi)) | (go_at_call 12; (with_reducible refine (redactorlaw06_tells.calls kj4 t172 false _ A15.out).mono ?_); rintro e w51 ⟨rfl, hb⟩; have n0_ := Aside0.mk (below_step (by repeat (first | (with_reducible first | exact HB.out | apply below_alloc | apply pw_below_drewN | apply below_drew1) | exact HB.out)) hb); clear HB; have HB := n0_; clear n0_; (try clear hb); (try clear hb2); (try clear hk); (try clear hi)))
              go_ret
              exact ⟨by first | rfl | (simp [errW_none, errW_some] <;> rfl) | (simp [*, errW_none, errW_some] <;> rfl), by repeat (first | (with_reducible first | exact HB.out | apply below_alloc | apply pw_below_drewN | apply below_drew1) | exact HB.out)⟩
        · replace c14 := Bool.eq_false_iff.mpr c14
          subst c14
          have H1 : (if (t172.size : Int) > 0 then (if (t172.size : Int) = 0 then (none) else (if 0 ≤ (Int.tmod (wrap64 (a2)) (t172.size : Int)) then (if (Int.tmod (wrap64 (a2)) (t172.size : Int)) ≤ (t172.size : Int) then ((some (([a3] : List Int) : List Int)).bind fun y180 => (if (t172.extract 0 ((Int.tmod (wrap64 (a2)) (t172.size : Int)) : Int).toNat).size + (strOfNums y180).size ≤ 9223372036854775807 then (if 0 ≤ (wrap64 ((Int.tmod (wrap64 (a2)) (t172.size : Int)) + 1)) then (if (wrap64 ((Int.tmod (wrap64 (a2)) (t172.size : Int)) + 1)) ≤ (t172.size : Int) then (if ((t172.extract 0 ((Int.tmod (wrap64 (a2)) (t172.size : Int)) : Int).toNat) ++ (strOfNums y180)).size + (t172.extract ((wrap64 ((Int.tmod (wrap64 (a2)) (t172.size : Int)) + 1)) : Int).toNat t172.size).size ≤ 9223372036854775807 then (some false) else (none)) else (none)) else (none)) else (none))) else (none)) else (none))) else (some false)) = some r := by rw [if_neg (show ¬ (false = true) by decide)] at H; exact H
          clear H
          have H := H1
          clear H1
          by_cases c52 : (t172.size : Int) > 0
          · rw [if_pos c52] at H
            have c52b0 : decide (0 < (t172.size : Int)) = true := decide_eq_true c52
            have c52b1 : decide (0 < t172.size) = true := decide_eq_true (by omega)
            clear c52
            by_cases c53 : (t172.size : Int) = 0
            · rw [if_pos c53] at H
              exact absurd H (by simp)
            · rw [if_neg c53] at H
              have c53b0 : ((t172.size : Int) == 0) = false := beq_eq_false_iff_ne.mpr c53
              have c53b1 : ((t172.size : Int) != 0) = true := bne_iff_ne.mpr c53
              obtain ⟨ji54, hji54⟩ : ∃ j_ : Int, (Int.tmod (wrap64 (a2)) (t172.size : Int)) = j_ := ⟨_, rfl⟩
              replace H : (if 0 ≤ (ji54) then (if (ji54) ≤ (t172.size : Int) then ((some (([a3] : List Int) : List Int)).bind fun y180 => (if (t172.extract 0 ((ji54) : Int).toNat).size + (strOfNums y180).size ≤ 9223372036854775807 then (if 0 ≤ (wrap64 ((ji54) + 1)) then (if (wrap64 ((ji54) + 1)) ≤ (t172.size : Int) then (if ((t172.extract 0 ((ji54) : Int).toNat) ++ (strOfNums y180)).size + (t172.extract ((wrap64 ((ji54) + 1)) : Int).toNat t172.size).size ≤ 9223372036854775807 then (some false) else (none)) else (none)) else (none)) else (none))) else (none)) else (none)) = some r := by first | (rw [hji54] at H; exact H) | (simp only [hji54] at H ⊢; exact H)
              (try rw [hji54] at A12)
              (try rw [hji54] at A13)
              by_cases c55 : 0 ≤ (ji54)
              · rw [if_pos c55] at H
                have c55b0 := eq_true c55
                have c55b1 : decide (0 ≤ (ji54)) = true := decide_eq_true c55
                clear c55
                by_cases c56 : (ji54) ≤ (t172.size : Int)
                · rw [if_pos c56] at H
                  have c56b0 := eq_true c56
                  have c56b1 : decide ((ji54) ≤ (t172.size : Int)) = true := decide_eq_true c56
                  clear c56
                  obtain ⟨y180, hy180⟩ : ∃ y_ : List Int, y_ = (([a3] : List Int)) := ⟨_, rfl⟩
                  replace H : (if (t172.extract 0 ((ji54) : Int).toNat).size + (strOfNums y180).size ≤ 9223372036854775807 then (if 0 ≤ (wrap64 ((ji54) + 1)) then (if (wrap64 ((ji54) + 1)) ≤ (t172.size : Int) then (if ((t172.extract 0 ((ji54) : Int).toNat) ++ (strOfNums y180)).size + (t172.extract ((wrap64 ((ji54) + 1)) : Int).toNat t172.size).size ≤ 9223372036854775807 then (some false) else (none)) else (none)) else (none)) else (none)) = some r := by first | (rw [hy180]; with_reducible exact H) | (have H2_ := (Option.bind_some _ _).symm.trans H; rw [hy180]; with_reducible exact H2_) | (have H2_ := (Option.bind_some _ _).symm.trans H; with_reducible exact H2_) | with_reducible exact H | (rw [hy180]; exact H) | exact H
                  have Ny180 := Aside0.mk hy180
                  clear hy180
                  by_cases c57 : (t172.extract 0 ((ji54) : Int).toNat).size + (strOfNums y180).size ≤ 9223372036854775807
                  · rw [if_pos c57] at H
                    have c57b0 := eq_true c57
                    have c57b1 : decide ((t172.extract 0 ((ji54) : Int).toNat).size + (strOfNums y180).size ≤ 9223372036854775807) = true := decide_eq_true c57
                    try have c57b2 : (9223372036854775807 < (t172.extract 0 ((ji54) : Int).toNat).size + (strOfNums y180).size) = False := eq_false (Nat.not_lt.2 c57)
                    have c57b8 : (9223372036854775807 < ji54.toNat + (strOfNums y180).size) = False := by rw [← (show (t172.extract 0 ji54.toNat).size = ji54.toNat by have q_ := of_eq_true c56b0; rw [ByteArray.size_extract]; omega)]; exact c57b2
                    obtain ⟨ji58, hji58⟩ : ∃ j_ : Int, (wrap64 ((ji54) + 1)) = j_ := ⟨_, rfl⟩
                    replace H : (if 0 ≤ (ji58) then (if (ji58) ≤ (t172.size : Int) then (if ((t172.extract 0 ((ji54) : Int).toNat) ++ (strOfNums y180)).size + (t172.extract ((ji58) : Int).toNat t172.size).size ≤ 9223372036854775807 then (some false) else (none)) else (none)) else (none)) = some r := by first | (rw [hji58] at H; exact H) | (simp only [hji58] at H ⊢; exact H)
                    (try rw [hji58] at A12)
                    (try rw [hji58] at A13)
                    have hji58w : (IntKind.i64.wrap ((ji54) + 1)) = ji58 := (i64_w _).trans hji58
                    by_cases c59 : 0 ≤ (ji58)
                    · rw [if_pos c59] at H
                      have c59b0 := eq_true c59
                      have c59b1 : decide (0 ≤ (ji58)) = true := decide_eq_true c59
                      clear c59
                      by_cases c60 : (ji58) ≤ (t172.size : Int)
                      · rw [if_pos c60] at H
                        have c60b0 := eq_true c60
                        have c60b1 : decide ((ji58) ≤ (t172.size : Int)) = true := decide_eq_true c60
                        clear c60
                        by_cases c61 : ((t172.extract 0 ((ji54) : Int).toNat) ++ (strOfNums y180)).size + (t172.extract ((ji58) : Int).toNat t172.size).size ≤ 9223372036854775807
                        · rw [if_pos c61] at H
                          have c61b0 := eq_true c61
                          have c61b1 : decide (((t172.extract 0 ((ji54) : Int).toNat) ++ (strOfNums y180)).size + (t172.extract ((ji58) : Int).toNat t172.size).size ≤ 9223372036854775807) = true := decide_eq_true c61
                          try have c61b2 : (9223372036854775807 < ((t172.extract 0 ((ji54) : Int).toNat) ++ (strOfNums y180)).size + (t172.extract ((ji58) : Int).toNat t172.size).size) = False := eq_false (Nat.not_lt.2 c61)
                          have c61b9 : (9223372036854775807 < ji54.toNat + (strOfNums y180).size + (t172.size - ji58.toNat)) = False := by have q_ := of_eq_true c56b0; have q2_ := of_eq_true c60b0; have h_ := c61b2; rw [ByteArray.size_append, ByteArray.size_extract, ByteArray.size_extract] at h_; rw [← (show min ji54.toNat t172.size - 0 = ji54.toNat by omega), ← (show min t172.size t172.size - ji58.toNat = t172.size - ji58.toNat by omega)]; exact h_
                          try have c61b8 := c61b2
                          try simp only [ByteArray.size_append, go_sem, List.size_toArray, List.length_cons, List.length_nil, Nat.zero_add, Nat.reduceAdd] at c61b8
                          obtain rfl := Option.some.inj H
                          try go_wp2_with (first | ((with_reducible refine gate_callee (f := 11) rfl ?_); refine goesL_ (some 21) rfl rfl Tryz.func11 (by kernel_rfl) rfl #[.slice A1 l1.length c1] rfl (by (try simp only [List.map_toArray, List.map_cons, List.map_nil]); first | done | rfl | (simp only [List.length_drop, List.length_take]; rfl)) ?_; (with_reducible refine (redactorlaw06_Text.calls kj4 _ _ l1 t172 _ ?side1 ?side2 A12.out).mono ?_); (case side1 => repeat (first | exact (Kd.C_below HR1.out HB.out) | (with_reducible refine Kd.C_alloc ?_ _) | (with_reducible refine Kd.C_drewN ?_ _) | (with_reducible refine Kd.C_drew ?_))); (case side2 => exact HC1.out); rintro e w62 ⟨rfl, hb⟩; refine ⟨_, rfl, ?_⟩; have n0_ := Aside0.mk (below_step (by repeat (first | (with_reducible first | exact HB.out | apply below_alloc | apply pw_below_drewN | apply below_drew1) | exact HB.out)) hb); clear HB; have HB := n0_; clear n0_; (try clear hb); (try clear hb2); (try clear hk); (try clear hi)) | ((with_reducible refine gate_callee (f := 12) rfl ?_); refine goesL_ (some 23) rfl rfl Tryz.func12 (by kernel_rfl) rfl #[.string a0] rfl (by (try simp only [List.map_toArray, List.map_cons, List.map_nil]); first | done | rfl | (simp only [List.length_drop, List.length_take]; rfl)) ?_; (with_reducible refine (redactorlaw06_tells.calls kj4 a0 false _ A13.out).mono ?_); rintro e w63 ⟨rfl, hb⟩; refine ⟨_, rfl, ?_⟩; have n0_ := Aside0.mk (below_step (by repeat (first | (with_reducible first | exact HB.out | apply below_alloc | apply pw_below_drewN | apply below_drew1) | exact HB.out)) hb); clear HB; have HB := n0_; clear n0_; (try clear hb); (try clear hb2); (try clear hk); (try clear hi)))
                          have n0_ := Aside0.mk (below_drew1 HB.out)
                          clear HB
                          have HB := n0_
                          clear n0_
                          refine start_ (n := 13) (S := fun w' => True) (ds := []) #[false, false, false, false, false, false, false, false, false, false, false, false, false] (by kernel_rfl) rfl rfl trivial (fun hHeld => ?_); refine with_tabW redactorlaw06_LexTokens.tab7 redactorlaw06_LexTokens.bits7 (fun HT_ HW_ => ?_)
                          generalize w63.drew = w64 at HB hHeld ⊢
                          refine pure_ (i := 0) (N := some 36) (v := ?_) (a' := ?_) #[true, false, false, false, false, false, false, false, false, false, false, false, false] rfl rfl (any_of HT_.out (by kernel_rfl)) (fun _ _ _ h => h) (Or.inl ⟨by rfl, ?_⟩) ?_ ?_
                          rotate_left
                          · intro w'
                            go_simp
                            with_reducible rfl
                          rotate_left
                          · simp only [Act.put, List.setIfInBounds_toArray, List.set_cons_zero, List.set_cons_succ, i64_w, i32_w]
                            rfl
                          refine pure_ (i := 1) (N := some 37) (v := ?_) (a' := ?_) #[true, true, false, false, false, false, false, false, false, false, false, false, false] rfl rfl (any_of HT_.out (by kernel_rfl)) (fun _ _ _ h => h) (Or.inl ⟨by rfl, ?_⟩) ?_ ?_
                          rotate_left
                          · intro w'
                            go_simp
                            with_reducible rfl
                          rotate_left
                          · simp only [Act.put, List.setIfInBounds_toArray, List.set_cons_zero, List.set_cons_succ, i64_w, i32_w]
                            rfl
                          refine pure_ (i := 2) (N := some 38) (v := ?_) (a' := ?_) #[true, true, true, false, false, false, false, false, false, false, false, false, false] rfl rfl (any_of HT_.out (by kernel_rfl)) (fun _ _ _ h => h) (Or.inl ⟨by rfl, ?_⟩) ?_ ?_
                          rotate_left
                          · intro w'
                            go_simp
                            with_reducible rfl
                          rotate_left
                          · simp only [Act.put, List.setIfInBounds_toArray, List.set_cons_zero, List.set_cons_succ, i64_w, i32_w]
                            rfl
                          refine pure_ (i := 3) (N := some 39) (v := ?_) (a' := ?_) #[true, true, true, true, false, false, false, false, false, false, false, false, false] rfl rfl (any_of HT_.out (by kernel_rfl)) (fun _ _ _ h => h) (Or.inl ⟨by rfl, ?_⟩) ?_ ?_
                          rotate_left
                          · intro w'
                            go_simp
                            with_reducible rfl
                          rotate_left
                          · simp only [Act.put, List.setIfInBounds_toArray, List.set_cons_zero, List.set_cons_succ, i64_w, i32_w]
                            rfl
                          refine pure_ (i := 7) (N := some 43) (v := ?_) (a' := ?_) #[true, true, true, true, false, false, false, true, false, false, false, false, false] rfl rfl (any_of HT_.out (by kernel_rfl)) (fun _ _ _ h => h) (Or.inl ⟨by rfl, ?_⟩) ?_ ?_
                          rotate_left
                          · intro w'
                            go_simp
                            with_reducible rfl
                          rotate_left
                          · simp only [Act.put, List.setIfInBounds_toArray, List.set_cons_zero, List.set_cons_succ, i64_w, i32_w]
                            rfl
                          refine pure_ (i := 8) (N := some 44) (v := ?_) (a' := ?_) #[true, true, true, true, false, false, false, true, true, false, false, false, false] rfl rfl (any_of HT_.out (by kernel_rfl)) (fun _ _ _ h => h) (Or.inl ⟨by rfl, ?_⟩) ?_ ?_
                          rotate_left
                          · intro w'
                            go_simp
                            with_reducible rfl
                          rotate_left
                          · simp only [Act.put, List.setIfInBounds_toArray, List.set_cons_zero, List.set_cons_succ, i64_w, i32_w]
                            rfl
                          refine pure_ (i := 9) (N := some 45) (v := ?_) (a' := ?_) #[true, true, true, true, false, false, false, true, true, true, false, false, false] rfl rfl (any_of HT_.out (by kernel_rfl)) (fun _ _ _ h => h) (Or.inl ⟨by rfl, ?_⟩) ?_ ?_
                          rotate_left
                          · intro w'
                            go_simp
                            with_reducible rfl
                          rotate_left
                          · simp only [Act.put, List.setIfInBounds_toArray, List.set_cons_zero, List.set_cons_succ, i64_w, i32_w]
                            rfl
                          refine pure_ (i := 10) (N := some 46) (v := ?_) (a' := ?_) #[true, true, true, true, false, false, false, true, true, true, true, false, false] rfl rfl (any_of HT_.out (by kernel_rfl)) (fun _ _ _ h => h) (Or.inl ⟨by rfl, ?_⟩) ?_ ?_
                          rotate_left
                          · intro w'
                            go_simp
                            with_reducible rfl
                          rotate_left
                          · simp only [Act.put, List.setIfInBounds_toArray, List.set_cons_zero, List.set_cons_succ, i64_w, i32_w]
                            rfl
                          refine one_ (i := 4) (N := some 40) #[true, true, true, true, true, false, false, true, true, true, true, false, false] rfl rfl (one_of HT_.out (by kernel_rfl)) (by decide) (fun K hK => ?_)
                          refine Kd.R_lit_step (Kd.int .u8) _ 5 ?hg (N := 40) ?hd (xs := ([a3] : List Int)) (inner := [.int .u8 a3]) (ok := fun _ => True) (okp := fun _ => True) ?hr ?hp (fun _ hk => hk) trivial (Below.refl _ _) (Nat.le_refl _) (by simp) ?_; (case hd => rfl); (case hg => rfl); (case hr => first | (go_simp; done) | (go_simp; rfl)); (case hp => exact (Reps.one (show Kd.M (Kd.int .u8) _ _ _ a3 [.int .u8 a3] from rfl) (Reps.none _ _)))
                          intro v181 w65 ho66 hb hg_ hnew_
                          clear hg_ hnew_
                          (first | rw [← Ny180.out] at ho66 | (simp only [Int.reduceToNat] at ho66; rw [← Ny180.out] at ho66))
                          have n0_ := Aside0.mk (Kd.R_lower ho66 (below_size (by repeat (first | (with_reducible first | exact HB.out | apply below_alloc | apply pw_below_drewN | apply below_drew1) | exact HB.out))))
                          have n1_ := Aside0.mk (below_step (by repeat (first | (with_reducible first | exact HB.out | apply below_alloc | apply pw_below_drewN | apply below_drew1) | exact HB.out)) hb)
                          clear HB
                          have HO182 := n0_
                          have HB := n1_
                          clear n0_ n1_
                          clear hb ho66
                          refine hK.out _ _ trivial (fun hHeld => ?_)
                          clear hK K
                          refine norm_ (a' := ?_) ?_ ?_
                          rotate_left
                          · show Act.put _ (some 40) _ = _
                            simp only [Act.put, List.setIfInBounds_toArray, List.set_cons_zero, List.set_cons_succ, i64_w, i32_w]
                            rfl
                          refine one_ (i := 5) (N := some 41) #[true, true, true, true, true, true, false, true, true, true, true, false, false] rfl rfl (one_of HT_.out (by kernel_rfl)) (by decide) (fun K hK => ?_)
                          have hcv67 := own_string (P := Tryz.prog) Tryz.underlying22 Tryz.underlying5 Tryz.underlying9 (Kd.own_of_R HO182.out)
                          refine value_ (w1 := ?_) (v := ?_) (by rfl) rfl ?_ ?_
                          rotate_left 2
                          · go_simp
                            constructor
                            · rfl
                            · rfl
                          clear hcv67
                          refine hK.out _ _ trivial (fun hHeld => ?_)
                          clear hK K
                          refine norm_ (a' := ?_) ?_ ?_
                          rotate_left
                          · show Act.put _ (some 41) _ = _
                            simp only [Act.put, List.setIfInBounds_toArray, List.set_cons_zero, List.set_cons_succ, i64_w, i32_w]
                            rfl
                          refine pure_ (i := 6) (N := some 42) (v := ?_) (a' := ?_) #[true, true, true, true, true, true, true, true, true, true, true, false, false] rfl rfl (any_of HT_.out (by kernel_rfl)) (fun _ _ _ h => h) (Or.inl ⟨by rfl, ?_⟩) ?_ ?_
                          rotate_left
                          · intro w'
                            go_simp
                            with_reducible rfl
                          rotate_left
                          · simp only [Act.put, List.setIfInBounds_toArray, List.set_cons_zero, List.set_cons_succ, i64_w, i32_w]
                            rfl
                          refine pure_ (i := 11) (N := some 47) (v := ?_) (a' := ?_) #[true, true, true, true, true, true, true, true, true, true, true, true, false] rfl rfl (any_of HT_.out (by kernel_rfl)) (fun _ _ _ h => h) (Or.inl ⟨by rfl, ?_⟩) ?_ ?_
                          rotate_left
                          · intro w'
                            go_simp
                            with_reducible rfl
                          rotate_left
                          · simp only [Act.put, List.setIfInBounds_toArray, List.set_cons_zero, List.set_cons_succ, i64_w, i32_w]
                            rfl
                          refine pure_ (i := 12) (N := some 9) (v := ?_) (a' := ?_) #[true, true, true, true, true, true, true, true, true, true, true, true, true] rfl rfl (any_of HT_.out (by kernel_rfl)) (fun _ _ _ h => h) (Or.inl ⟨by rfl, ?_⟩) ?_ ?_
                          rotate_left
                          · intro w'
                            go_simp
                            with_reducible rfl
                          rotate_left
                          · simp only [Act.put, List.setIfInBounds_toArray, List.set_cons_zero, List.set_cons_succ, i64_w, i32_w]
                            rfl
                          refine done_ (done_of HT_.out (by kernel_rfl)) ?_
                          try go_wp2
                          go_ret
                          exact ⟨by first | rfl | (simp [errW_none, errW_some] <;> rfl) | (simp only [← hji54, ← hji58]; first | rfl | (simp [errW_none, errW_some] <;> rfl)) | (simp [*, errW_none, errW_some] <;> rfl), by repeat (first | (with_reducible first | exact HB.out | apply below_alloc | apply pw_below_drewN | apply below_drew1) | exact HB.out)⟩
                        · rw [if_neg c61] at H
                          exact absurd H (by simp)
                      · rw [if_neg c60] at H
                        exact absurd H (by simp)
                    · rw [if_neg c59] at H
                      exact absurd H (by simp)
                  · rw [if_neg c57] at H
                    exact absurd H (by simp)
                · rw [if_neg c56] at H
                  exact absurd H (by simp)
              · rw [if_neg c55] at H
                exact absurd H (by simp)
          · rw [if_neg c52] at H
            have c52b0 : decide (0 < (t172.size : Int)) = false := decide_eq_false c52
            have c52b1 : decide (0 < t172.size) = false := decide_eq_false (by omega)
            clear c52
            obtain rfl := Option.some.inj H
            go_wp2_with (first | ((with_reducible refine gate_callee (f := 11) rfl ?_); refine goesL_ (some 21) rfl rfl Tryz.func11 (by kernel_rfl) rfl #[.slice A1 l1.length c1] rfl (by (try simp only [List.map_toArray, List.map_cons, List.map_nil]); first | done | rfl | (simp only [List.length_drop, List.length_take]; rfl)) ?_; (with_reducible refine (redactorlaw06_Text.calls kj4 _ _ l1 t172 _ ?side1 ?side2 A12.out).mono ?_); (case side1 => repeat (first | exact (Kd.C_below HR1.out HB.out) | (with_reducible refine Kd.C_alloc ?_ _) | (with_reducible refine Kd.C_drewN ?_ _) | (with_reducible refine Kd.C_drew ?_))); (case side2 => exact HC1.out); rintro e w68 ⟨rfl, hb⟩; refine ⟨_, rfl, ?_⟩; have n0_ := Aside0.mk (below_step (by repeat (first | (with_reducible first | exact HB.out | apply below_alloc | apply pw_below_drewN | apply below_drew1) | exact HB.out)) hb); clear HB; have HB := n0_; clear n0_; (try clear hb); (try clear hb2); (try clear hk); (try clear hi)) | ((with_reducible refine gate_callee (f := 12) rfl ?_); refine goesL_ (some 23) rfl rfl Tryz.func12 (by kernel_rfl) rfl #[.string a0] rfl (by (try simp only [List.map_toArray, List.map_cons, List.map_nil]); first | done | rfl | (simp only [List.length_drop, List.length_take]; rfl)) ?_; (with_reducible refine (redactorlaw06_tells.calls kj4 a0 false _ A13.out).mono ?_); rintro e w69 ⟨rfl, hb⟩; refine ⟨_, rfl, ?_⟩; have n0_ := Aside0.mk (below_step (by repeat (first | (with_reducible first | exact HB.out | apply below_alloc | apply pw_below_drewN | apply below_drew1) | exact HB.out)) hb); clear HB; have HB := n0_; clear n0_; (try clear hb); (try clear hb2); (try clear hk); (try clear hi)))
            go_ret
            exact ⟨by first | rfl | (simp [errW_none, errW_some] <;> rfl) | (simp [*, errW_none, errW_some] <;> rfl), by repeat (first | (with_reducible first | exact HB.out | apply below_alloc | apply pw_below_drewN | apply below_drew1) | exact HB.out)⟩

/-- THE ONE PURE STATEMENT of redactorlaw06_LexTokens: yours. -/
def redactorlaw06_LexTokens.Pure : Prop := ∀ (a0 : ByteArray) (l1 : List Int) (a2 : Int) (a3 : Int), a0.size ≤ 140737488351232 → l1.length ≤ maxLen → l1.length * 1 ≤ 140737488351232 → (∀ x ∈ l1, (Lit.int .u8 x).wf = true) → (Lit.int .u16 a2).wf = true → (Lit.int .u8 a3).wf = true → ∃ k, redactorlaw06_LexTokens.f k a0 l1 a2 a3 = some true
theorem redactorlaw06_LexTokens.walk (P : redactorlaw06_LexTokens.Pure) (a0 : ByteArray) (a1 : Option Addr) (len1 cap1 : Nat) (z1 : List Int) (a2 : Int) (a3 : Int) (w : World) (w0 : a0.size ≤ 140737488351232) (w1 : (a1 = none ∧ len1 = 0 ∧ cap1 = 0 ∧ z1 = []) ∨ ∃ x, a1 = some x ∧ len1 ≤ cap1 ∧ cap1 ≤ maxLen ∧ z1.length = cap1 ∧ (∀ i, i < z1.length → w.cell? (x.add i) = some (.int .u8 (z1.getD i 0))) ∧ ∀ n ∈ z1, (Lit.int .u8 n).wf = true) (y1 : len1 * 1 ≤ 140737488351232) (w2 : (Lit.int .u16 a2).wf = true) (w3 : (Lit.int .u8 a3).wf = true) (hG : Lex.Gl w) :
    Calls Tryz.prog 3 #[.string a0, .slice a1 len1 cap1, .int .u16 a2, .int .u8 a3] w fun e w' => e = .returned (.bool true) ∧ Below w.heap.size w w' := by
  obtain ⟨l1, rfl, hr1, hm1, hw1, hc1⟩ := ReadsInt.ofRowC w1
  obtain ⟨k, h⟩ := P a0 l1 a2 a3 w0 hm1 y1 hw1 w2 w3
  refine (redactorlaw06_LexTokens.calls k a0 _ _ l1 a2 a3 true w (Kd.C_of_reads (d := (0 : Int)) (h1 := fun _ => rfl) hr1) hc1 h).mono ?_
  rintro e w' ⟨rfl, hd⟩
  exact ⟨rfl, hd⟩

end Go.Proofs.YtipmmkelialgkaaGreatDoor.PLex
