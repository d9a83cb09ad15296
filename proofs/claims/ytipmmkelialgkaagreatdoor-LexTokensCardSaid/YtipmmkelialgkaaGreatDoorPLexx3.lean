-- WRITTEN FOR THIS CLAIM by wip/tools/told.py (the kit's printer, with some functions told by hand).
import Derived.Test.YtipmmkelialgkaaGreatDoorPLexx0
import Derived.Test.YtipmmkelialgkaaGreatDoorPLexx1
import Derived.Test.YtipmmkelialgkaaGreatDoorPLexx2
namespace Go.Proofs.YtipmmkelialgkaaGreatDoor.PLex
open Go.RowKit Go.Proofs.YtipmmkelialgkaaGreatDoorW.PrintWords Go.Proofs.YtipmmkelialgkaaGreatDoorW.PrintLast Go.Proofs.YtipmmkelialgkaaGreatDoorW.PrintMore
attribute [local go_sem] max2_int min2_int max_two min_two max_three min_three max_four min_four   -- for this text's walks alone
set_option linter.unusedVariables false
set_option linter.unusedSimpArgs false

/-! ### redactorref06_one: function 67 -/
mutual
def redactorref06_one.j0 : Nat → ByteArray → Int → Bool → Option (Int × ByteArray × Int × Int × Int)
  | 0, _, _, _ => none
  | k + 1, x0, x4, x24 => if x24 = true then (if 0 ≤ 1 then (if 1 ≤ (x0.size : Int) then (some (2, x0.extract 0 1, 0, 0, 1)) else (none)) else (none)) else (if (x0.size : Int) ≥ 3 then (if 0 ≤ 3 then (if 3 ≤ (x0.size : Int) then (redactorref06_one.j1 k x0 x4 ((x0.extract 0 3).toList == ([46, 46, 46] : List UInt8))) else (none)) else (none)) else (redactorref06_one.j1 k x0 x4 false))
def redactorref06_one.j1 : Nat → ByteArray → Int → Bool → Option (Int × ByteArray × Int × Int × Int)
  | 0, _, _, _ => none
  | k + 1, x0, x4, x35 => if x35 = true then (if 0 ≤ 3 then (if 3 ≤ (x0.size : Int) then (some (2, x0.extract 0 3, 0, 0, 3)) else (none)) else (none)) else (if x4 = 34 then ((redactorref06_quoted.f k x0).bind fun t126 => (if t126 = 0 then (some (0, (⟨#[]⟩ : ByteArray), 0, 0, 0)) else (if 1 ≤ (wrap64 (t126 - 1)) then (if (wrap64 (t126 - 1)) ≤ (x0.size : Int) then (some (4, x0.extract 1 ((wrap64 (t126 - 1)) : Int).toNat, 0, 0, t126)) else (none)) else (none)))) else (if x4 = 60 then (if 1 ≤ (x0.size : Int) then ((redactorref06_word.f k (x0.extract 1 x0.size)).bind fun t127 => (if t127 = 0 then (redactorref06_one.j2 k x0 t127 true) else (if (wrap64 (t127 + 1)) ≥ (x0.size : Int) then (redactorref06_one.j2 k x0 t127 true) else (if 0 ≤ (wrap64 (t127 + 1)) then (if (wrap64 (t127 + 1)) < (x0.size : Int) then (redactorref06_one.j2 k x0 t127 ((bt x0 (wrap64 (t127 + 1))) != 62)) else (none)) else (none))))) else (none)) else ((redactorref06_word.f k x0).bind fun t131 => (if 0 ≤ t131 then (if t131 ≤ (x0.size : Int) then (some (1, x0.extract 0 (t131 : Int).toNat, 0, 0, t131)) else (none)) else (none)))))
def redactorref06_one.j2 : Nat → ByteArray → Int → Bool → Option (Int × ByteArray × Int × Int × Int)
  | 0, _, _, _ => none
  | k + 1, x0, x6, x72 => if x72 = true then (some (0, (⟨#[]⟩ : ByteArray), 0, 0, 0)) else (if 1 < (x0.size : Int) then (if (bt x0 1) = 85 then (if x6 ≥ 5 then (if x6 ≤ 7 then (if 2 ≤ (wrap64 (x6 + 1)) then (if (wrap64 (x6 + 1)) ≤ (x0.size : Int) then ((redactorref06_hex.f k (x0.extract 2 ((wrap64 (x6 + 1)) : Int).toNat)).bind fun t128 => (redactorref06_one.j3 k x0 x6 (decide (t128 ≥ 0)))) else (none)) else (none)) else (redactorref06_one.j3 k x0 x6 false)) else (redactorref06_one.j3 k x0 x6 false)) else (redactorref06_one.j3 k x0 x6 false)) else (none))
def redactorref06_one.j3 : Nat → ByteArray → Int → Bool → Option (Int × ByteArray × Int × Int × Int)
  | 0, _, _, _ => none
  | k + 1, x0, x6, x92 => if x92 = true then (if 2 ≤ (wrap64 (x6 + 1)) then (if (wrap64 (x6 + 1)) ≤ (x0.size : Int) then ((redactorref06_hex.f k (x0.extract 2 ((wrap64 (x6 + 1)) : Int).toNat)).bind fun t129 => ((redactorref01_Right.f (wrap32 (t129))).bind fun t130 => (if t130 = true then (some (3, (⟨#[]⟩ : ByteArray), t129, 0, wrap64 (x6 + 2))) else (some (0, (⟨#[]⟩ : ByteArray), 0, 0, 0))))) else (none)) else (none)) else (if 1 ≤ (wrap64 (x6 + 1)) then (if (wrap64 (x6 + 1)) ≤ (x0.size : Int) then (some (5, x0.extract 1 ((wrap64 (x6 + 1)) : Int).toNat, 0, 0, wrap64 (x6 + 2))) else (none)) else (none))
end
def redactorref06_one.f (k : Nat) (a0 : ByteArray) : Option (Int × ByteArray × Int × Int × Int) := if 0 < (a0.size : Int) then (if (bt a0 0) = 59 then (redactorref06_one.j0 k a0 (bt a0 0) true) else (if (bt a0 0) = 44 then (redactorref06_one.j0 k a0 (bt a0 0) true) else (if (bt a0 0) = 40 then (redactorref06_one.j0 k a0 (bt a0 0) true) else (redactorref06_one.j0 k a0 (bt a0 0) ((bt a0 0) == 41))))) else (none)
theorem redactorref06_one.mono_l : ∀ k, (∀ y0 y1 y2, LeO (redactorref06_one.j0 k y0 y1 y2) (redactorref06_one.j0 (k + 1) y0 y1 y2)) ∧ (∀ y0 y1 y2, LeO (redactorref06_one.j1 k y0 y1 y2) (redactorref06_one.j1 (k + 1) y0 y1 y2)) ∧ (∀ y0 y1 y2, LeO (redactorref06_one.j2 k y0 y1 y2) (redactorref06_one.j2 (k + 1) y0 y1 y2)) ∧ (∀ y0 y1 y2, LeO (redactorref06_one.j3 k y0 y1 y2) (redactorref06_one.j3 (k + 1) y0 y1 y2))
  | 0 => ⟨fun _ _ _ r h => by simp [redactorref06_one.j0] at h, fun _ _ _ r h => by simp [redactorref06_one.j1] at h, fun _ _ _ r h => by simp [redactorref06_one.j2] at h, fun _ _ _ r h => by simp [redactorref06_one.j3] at h⟩
  | k + 1 => by
    obtain ⟨ih0, ih1, ih2, ih3⟩ := redactorref06_one.mono_l k
    refine ⟨?_, ?_, ?_, ?_⟩
    · intro y0 y1 y2
      unfold redactorref06_one.j0
      repeat' first
      | (with_reducible exact ih0 _ _ _)
      | (with_reducible exact ih1 _ _ _)
      | (with_reducible exact ih2 _ _ _)
      | (with_reducible exact ih3 _ _ _)
      | (with_reducible exact redactorref06_hex.mono _ _)
      | (with_reducible exact redactorref06_quoted.mono _ _)
      | (with_reducible exact redactorref06_word.mono _ _)
      | (with_reducible exact LeO.refl _)
      | (with_reducible exact LeO.none _)
      | (with_reducible refine LeO.ite ?_ ?_)
      | (with_reducible refine LeO.bind ?_ (fun _ => ?_))
      | exact ih0 _ _ _
      | exact ih1 _ _ _
      | exact ih2 _ _ _
      | exact ih3 _ _ _
      | exact redactorref06_hex.mono _ _
      | exact redactorref06_quoted.mono _ _
      | exact redactorref06_word.mono _ _
      | exact LeO.none _
      | refine LeO.ite ?_ ?_
      | refine LeO.bind ?_ (fun _ => ?_)
    · intro y0 y1 y2
      unfold redactorref06_one.j1
      repeat' first
      | (with_reducible exact ih0 _ _ _)
      | (with_reducible exact ih1 _ _ _)
      | (with_reducible exact ih2 _ _ _)
      | (with_reducible exact ih3 _ _ _)
      | (with_reducible exact redactorref06_hex.mono _ _)
      | (with_reducible exact redactorref06_quoted.mono _ _)
      | (with_reducible exact redactorref06_word.mono _ _)
      | (with_reducible exact LeO.refl _)
      | (with_reducible exact LeO.none _)
      | (with_reducible refine LeO.ite ?_ ?_)
      | (with_reducible refine LeO.bind ?_ (fun _ => ?_))
      | exact ih0 _ _ _
      | exact ih1 _ _ _
      | exact ih2 _ _ _
      | exact ih3 _ _ _
      | exact redactorref06_hex.mono _ _
      | exact redactorref06_quoted.mono _ _
      | exact redactorref06_word.mono _ _
      | exact LeO.none _
      | refine LeO.ite ?_ ?_
      | refine LeO.bind ?_ (fun _ => ?_)
    · intro y0 y1 y2
      unfold redactorref06_one.j2
      repeat' first
      | (with_reducible exact ih0 _ _ _)
      | (with_reducible exact ih1 _ _ _)
      | (with_reducible exact ih2 _ _ _)
      | (with_reducible exact ih3 _ _ _)
      | (with_reducible exact redactorref06_hex.mono _ _)
      | (with_reducible exact redactorref06_quoted.mono _ _)
      | (with_reducible exact redactorref06_word.mono _ _)
      | (with_reducible exact LeO.refl _)
      | (with_reducible exact LeO.none _)
      | (with_reducible refine LeO.ite ?_ ?_)
      | (with_reducible refine LeO.bind ?_ (fun _ => ?_))
      | exact ih0 _ _ _
      | exact ih1 _ _ _
      | exact ih2 _ _ _
      | exact ih3 _ _ _
      | exact redactorref06_hex.mono _ _
      | exact redactorref06_quoted.mono _ _
      | exact redactorref06_word.mono _ _
      | exact LeO.none _
      | refine LeO.ite ?_ ?_
      | refine LeO.bind ?_ (fun _ => ?_)
    · intro y0 y1 y2
      unfold redactorref06_one.j3
      repeat' first
      | (with_reducible exact ih0 _ _ _)
      | (with_reducible exact ih1 _ _ _)
      | (with_reducible exact ih2 _ _ _)
      | (with_reducible exact ih3 _ _ _)
      | (with_reducible exact redactorref06_hex.mono _ _)
      | (with_reducible exact redactorref06_quoted.mono _ _)
      | (with_reducible exact redactorref06_word.mono _ _)
      | (with_reducible exact LeO.refl _)
      | (with_reducible exact LeO.none _)
      | (with_reducible refine LeO.ite ?_ ?_)
      | (with_reducible refine LeO.bind ?_ (fun _ => ?_))
      | exact ih0 _ _ _
      | exact ih1 _ _ _
      | exact ih2 _ _ _
      | exact ih3 _ _ _
      | exact redactorref06_hex.mono _ _
      | exact redactorref06_quoted.mono _ _
      | exact redactorref06_word.mono _ _
      | exact LeO.none _
      | refine LeO.ite ?_ ?_
      | refine LeO.bind ?_ (fun _ => ?_)
theorem redactorref06_one.mono : ∀ a0 k, LeO (redactorref06_one.f k a0) (redactorref06_one.f (k + 1) a0) := by
  intro a0 k
  obtain ⟨ih0, ih1, ih2, ih3⟩ := redactorref06_one.mono_l k
  unfold redactorref06_one.f
  repeat' first
      | (with_reducible exact ih0 _ _ _)
      | (with_reducible exact ih1 _ _ _)
      | (with_reducible exact ih2 _ _ _)
      | (with_reducible exact ih3 _ _ _)
      | (with_reducible exact redactorref06_hex.mono _ _)
      | (with_reducible exact redactorref06_quoted.mono _ _)
      | (with_reducible exact redactorref06_word.mono _ _)
      | (with_reducible exact LeO.refl _)
      | (with_reducible exact LeO.none _)
      | (with_reducible refine LeO.ite ?_ ?_)
      | (with_reducible refine LeO.bind ?_ (fun _ => ?_))
      | exact ih0 _ _ _
      | exact ih1 _ _ _
      | exact ih2 _ _ _
      | exact ih3 _ _ _
      | exact redactorref06_hex.mono _ _
      | exact redactorref06_quoted.mono _ _
      | exact redactorref06_word.mono _ _
      | exact LeO.none _
      | refine LeO.ite ?_ ?_
      | refine LeO.bind ?_ (fun _ => ?_)
set_option maxHeartbeats 8000000 in
set_option maxRecDepth 100000 in
theorem redactorref06_one.calls (k : Nat) (a0 : ByteArray) (r1 : Int) (r2 : ByteArray) (r3 : Int) (r4 : Int) (r5 : Int) (w : World) (h : redactorref06_one.f k a0 = some (r1, r2, r3, r4, r5)) :
    Calls Tryz.prog 67 #[.string a0] w fun e w' => e = .returned (.tuple #[.agg #[.int .u8 r1, .string r2, .int .i64 r3, .int .i64 r4], .int .i64 r5]) ∧ Below w.heap.size w w' := by
  have hu63 := Tryz.underlying63
  have HB := Aside0.mk (Below.refl w.heap.size w)
  have H : (if 0 < (a0.size : Int) then (if (bt a0 0) = 59 then (redactorref06_one.j0 k a0 (bt a0 0) true) else (if (bt a0 0) = 44 then (redactorref06_one.j0 k a0 (bt a0 0) true) else (if (bt a0 0) = 40 then (redactorref06_one.j0 k a0 (bt a0 0) true) else (redactorref06_one.j0 k a0 (bt a0 0) ((bt a0 0) == 41))))) else (none)) = some (r1, r2, r3, r4, r5) := h
  clear h
  by_cases c2 : 0 < (a0.size : Int)
  · rw [if_pos c2] at H
    have c2b0 : decide (0 < (a0.size : Int)) = true := decide_eq_true c2
    have c2b1 : decide (0 < a0.size) = true := decide_eq_true (by omega)
    clear c2
    have HC4 := Aside0.mk H
    clear H
    go_enter Tryz.func67, Tryz.ntmps67
    go_upto_region 2 with (first | ((with_reducible refine gate_dst (N := 2) rfl ?_); (try (refine gate_guard (by rfl) ?_; dsimp only)); refine box_event ?hg (N := 2) ?hd (cs := #[.int .u8 0, .string (⟨#[]⟩ : ByteArray), .int .i64 0, .int .i64 0]) (t := 63) ?hr ?_; (case hd => rfl); (case hg => rfl); (case hr => first | (go_simp; done) | (go_simp; rfl)); intro gb125 hg w5 hbox hb; have n0_ := Aside0.mk (below_step (by repeat (first | (with_reducible first | exact HB.out | apply below_alloc | apply pw_below_drewN | apply below_drew1) | exact HB.out)) hb); have n1_ := Aside0.mk (hbox); have n2_ := Aside0.mk ((by rw [hg]; exact (below_size (by repeat (first | (with_reducible first | exact HB.out | apply below_alloc | apply pw_below_drewN | apply below_drew1) | exact HB.out))) : w.heap.size ≤ gb125)); have n3_ := Aside0.mk ((by rw [hg]; exact (below_size (by repeat (first | (with_reducible first | exact HB.out | apply below_alloc | apply pw_below_drewN | apply below_drew1) | exact HB.out))) : w.heap.size ≤ gb125)); clear HB; have HB := n0_; have BK125 := n1_; have GW125 := n2_; have GE125 := n3_; clear n0_ n1_ n2_ n3_; clear hb hbox hg; have p3 : 0 ≤ (0 : Int) := (by omega); have q3 : 0 < a0.size := (by have : (0 : Int) < (a0.size : Int) := of_decide_eq_true (by first | (with_reducible assumption) | assumption); omega); have hx3 : ∀ h : 0 < a0.size, ((a0[0]'h).toNat : Int) = bt a0 0 := bt_at a0 0; clear p3; have qi3 : (0 < (a0.size : Int)) = True := eq_true (of_decide_eq_true (by first | (with_reducible assumption) | assumption)); replace q3 := eq_true q3))
    (try simp only [Act.put, List.setIfInBounds_toArray, List.set_cons_zero, List.set_cons_succ])
    go_cut [24] (fun v24 wc => ∃ (kq : Nat) (x24_3 : Bool), v24 = .bool x24_3 ∧ Aside0 (redactorref06_one.j0 kq a0 (bt a0 0) x24_3 = some (r1, r2, r3, r4, r5)) ∧ Aside0 (kq ≤ k) ∧ Aside0 (wc.heap[gb125]? = some (.cells #[.int .u8 0, .string (⟨#[]⟩ : ByteArray), .int .i64 0, .int .i64 0] 63 (0, 0))) ∧ Aside0 (Below w.heap.size w wc))
    case first =>
      have H := HC4.out
      clear HC4
      by_cases c6 : (bt a0 0) = 59
      · rw [if_pos c6] at H
        have c6b0 : ((bt a0 0) == 59) = true := beq_iff_eq.mpr c6
        have c6b1 : ((bt a0 0) != 59) = false := bne_eq_false_iff_eq.mpr c6
        clear c6
        (first | rw [c6b0] | (simp only [i64_w, i32_w]; rw [c6b0]) | skip)
        have H' := Aside0.mk H
        clear H
        go_wp2
        go_meet
        case rel => exact ⟨_, (true), (by first | rfl | (simp; done) | (simp [*]; done)), H', ⟨by first | omega | exact Nat.le_refl _⟩, ⟨by (with_reducible repeat (first | refine blk_drewN ?_ _ | refine blk_drew ?_ | refine blk_alloc ?_ _)); exact BK125.out⟩, ⟨by repeat (first | (with_reducible first | exact HB.out | apply below_alloc | apply pw_below_drewN | apply below_drew1 | refine below_set ?_ GE125.out) | exact HB.out)⟩⟩
      · rw [if_neg c6] at H
        have c6b0 : ((bt a0 0) == 59) = false := beq_eq_false_iff_ne.mpr c6
        have c6b1 : ((bt a0 0) != 59) = true := bne_iff_ne.mpr c6
        (first | rw [c6b0] | (simp only [i64_w, i32_w]; rw [c6b0]) | skip)
        by_cases c7 : (bt a0 0) = 44
        · rw [if_pos c7] at H
          have c7b0 : ((bt a0 0) == 44) = true := beq_iff_eq.mpr c7
          have c7b1 : ((bt a0 0) != 44) = false := bne_eq_false_iff_eq.mpr c7
          clear c7
          have H' := Aside0.mk H
          clear H
          go_wp2
          go_meet
          case rel => exact ⟨_, (true), (by first | rfl | (simp; done) | (simp [*]; done)), H', ⟨by first | omega | exact Nat.le_refl _⟩, ⟨by (with_reducible repeat (first | refine blk_drewN ?_ _ | refine blk_drew ?_ | refine blk_alloc ?_ _)); exact BK125.out⟩, ⟨by repeat (first | (with_reducible first | exact HB.out | apply below_alloc | apply pw_below_drewN | apply below_drew1 | refine below_set ?_ GE125.out) | exact HB.out)⟩⟩
        · rw [if_neg c7] at H
          have c7b0 : ((bt a0 0) == 44) = false := beq_eq_false_iff_ne.mpr c7
          have c7b1 : ((bt a0 0) != 44) = true := bne_iff_ne.mpr c7
          by_cases c8 : (bt a0 0) = 40
          · rw [if_pos c8] at H
            have c8b0 : ((bt a0 0) == 40) = true := beq_iff_eq.mpr c8
            have c8b1 : ((bt a0 0) != 40) = false := bne_eq_false_iff_eq.mpr c8
            clear c8
            have H' := Aside0.mk H
            clear H
            go_wp2
            go_meet
            case rel => exact ⟨_, (true), (by first | rfl | (simp; done) | (simp [*]; done)), H', ⟨by first | omega | exact Nat.le_refl _⟩, ⟨by (with_reducible repeat (first | refine blk_drewN ?_ _ | refine blk_drew ?_ | refine blk_alloc ?_ _)); exact BK125.out⟩, ⟨by repeat (first | (with_reducible first | exact HB.out | apply below_alloc | apply pw_below_drewN | apply below_drew1 | refine below_set ?_ GE125.out) | exact HB.out)⟩⟩
          · rw [if_neg c8] at H
            have c8b0 : ((bt a0 0) == 40) = false := beq_eq_false_iff_ne.mpr c8
            have c8b1 : ((bt a0 0) != 40) = true := bne_iff_ne.mpr c8
            have H' := Aside0.mk H
            clear H
            go_wp2
            go_meet
            case rel => exact ⟨_, (((bt a0 0) == 41)), (by first | rfl | (simp; done) | (simp [*]; done)), H', ⟨by first | omega | exact Nat.le_refl _⟩, ⟨by (with_reducible repeat (first | refine blk_drewN ?_ _ | refine blk_drew ?_ | refine blk_alloc ?_ _)); exact BK125.out⟩, ⟨by repeat (first | (with_reducible first | exact HB.out | apply below_alloc | apply pw_below_drewN | apply below_drew1 | refine below_set ?_ GE125.out) | exact HB.out)⟩⟩
    case rest =>
      clear HC4
      try clear c2
      try clear c2b0
      try clear c2b1
      try clear p2
      try clear p3
      try clear q3
      try clear hx3
      try clear qi3
      try clear c6
      try clear c6b0
      try clear c6b1
      try clear c7
      try clear c7b0
      try clear c7b1
      try clear c8
      try clear c8b0
      try clear c8b1
      try clear p3
      try clear q3
      obtain ⟨kq, x24_3, rfl, HA, HJ3, BK125, HB⟩ := hcut
      cases kq with
      | zero => exact absurd HA.out (by simp [redactorref06_one.j0])
      | succ kj3 =>
        have H := HA.out
        clear HA
        simp only [redactorref06_one.j0] at H
        by_cases c9 : x24_3 = true
        · subst c9
          have H1 : (if 0 ≤ 1 then (if 1 ≤ (a0.size : Int) then (some (2, a0.extract 0 1, 0, 0, 1)) else (none)) else (none)) = some (r1, r2, r3, r4, r5) := by rw [if_pos rfl] at H; exact H
          clear H
          have H := H1
          clear H1
          by_cases c10 : 0 ≤ 1
          · rw [if_pos c10] at H
            have c10b0 := eq_true c10
            have c10b1 : decide (0 ≤ 1) = true := decide_eq_true c10
            clear c10
            by_cases c11 : 1 ≤ (a0.size : Int)
            · rw [if_pos c11] at H
              have c11b0 := eq_true c11
              have c11b1 : decide (1 ≤ (a0.size : Int)) = true := decide_eq_true c11
              clear c11
              simp only [Option.some.injEq, Prod.mk.injEq] at H
              obtain ⟨rfl, rfl, rfl, rfl, rfl⟩ := H
              have hcz12_0 : wc.cell? ⟨gb125, 0, none⟩ = some (.int .u8 0) := (blk_cell BK125.out 0).trans rfl
              have hcz12_1 : wc.cell? ⟨gb125, 1, none⟩ = some (.string (⟨#[]⟩ : ByteArray)) := (blk_cell BK125.out 1).trans rfl
              have hcz12_2 : wc.cell? ⟨gb125, 2, none⟩ = some (.int .i64 0) := (blk_cell BK125.out 2).trans rfl
              have hcz12_3 : wc.cell? ⟨gb125, 3, none⟩ = some (.int .i64 0) := (blk_cell BK125.out 3).trans rfl
              have hfz12_0 := blk_frozen BK125.out 0
              have hfz12_1 := blk_frozen BK125.out 1
              have hfz12_2 := blk_frozen BK125.out 2
              have hfz12_3 := blk_frozen BK125.out 3
              go_wp2
              refine bodyPost_ret (results_ct rfl _ _ gb125 63 #[.int .u8 2, .string (a0.extract 0 1), .int .i64 0, .int .i64 0] (0, 0) _ rfl (by (with_reducible repeat (first | refine blk_drewN ?_ _ | refine blk_drew ?_ | refine blk_alloc ?_ _)); refine blk_put (cs := #[.int .u8 2, .string (a0.extract 0 1), .int .i64 0, .int .i64 0]) ?_ 3 _ rfl; (with_reducible repeat (first | refine blk_drewN ?_ _ | refine blk_drew ?_ | refine blk_alloc ?_ _)); refine blk_put (cs := #[.int .u8 2, .string (a0.extract 0 1), .int .i64 0, .int .i64 0]) ?_ 2 _ rfl; (with_reducible repeat (first | refine blk_drewN ?_ _ | refine blk_drew ?_ | refine blk_alloc ?_ _)); refine blk_put (cs := #[.int .u8 2, .string (⟨#[]⟩ : ByteArray), .int .i64 0, .int .i64 0]) ?_ 1 _ rfl; (with_reducible repeat (first | refine blk_drewN ?_ _ | refine blk_drew ?_ | refine blk_alloc ?_ _)); refine blk_put (cs := #[.int .u8 0, .string (⟨#[]⟩ : ByteArray), .int .i64 0, .int .i64 0]) ?_ 0 _ rfl; (with_reducible repeat (first | refine blk_drewN ?_ _ | refine blk_drew ?_ | refine blk_alloc ?_ _)); exact BK125.out) Tryz.underlying63 rfl (by kernel_rfl)) rfl ?_
              exact ⟨by first | rfl | (simp [errW_none, errW_some] <;> rfl) | (simp [*, errW_none, errW_some] <;> rfl), by repeat (first | (with_reducible first | exact HB.out | apply below_alloc | apply pw_below_drewN | apply below_drew1 | refine below_set ?_ GE125.out) | exact HB.out)⟩
            · rw [if_neg c11] at H
              exact absurd H (by simp)
          · rw [if_neg c10] at H
            exact absurd H (by simp)
        · replace c9 := Bool.eq_false_iff.mpr c9
          subst c9
          have H1 : (if (a0.size : Int) ≥ 3 then (if 0 ≤ 3 then (if 3 ≤ (a0.size : Int) then (redactorref06_one.j1 kj3 a0 (bt a0 0) ((a0.extract 0 3).toList == ([46, 46, 46] : List UInt8))) else (none)) else (none)) else (redactorref06_one.j1 kj3 a0 (bt a0 0) false)) = some (r1, r2, r3, r4, r5) := by rw [if_neg (show ¬ (false = true) by decide)] at H; exact H
          clear H
          have H := H1
          clear H1
          have HC13 := Aside0.mk H
          clear H
          go_upto_region 4 with (fail)
          go_cut [35] (fun v35 wc => ∃ (kq : Nat) (x35_12 : Bool), v35 = .bool x35_12 ∧ Aside0 (redactorref06_one.j1 kq a0 (bt a0 0) x35_12 = some (r1, r2, r3, r4, r5)) ∧ Aside0 (kq ≤ kj3) ∧ Aside0 (wc.heap[gb125]? = some (.cells #[.int .u8 0, .string (⟨#[]⟩ : ByteArray), .int .i64 0, .int .i64 0] 63 (0, 0))) ∧ Aside0 (Below w.heap.size w wc))
          case first =>
            have H := HC13.out
            clear HC13
            by_cases c14 : (a0.size : Int) ≥ 3
            · rw [if_pos c14] at H
              have c14b0 : decide (3 ≤ (a0.size : Int)) = true := decide_eq_true c14
              have c14b1 : decide (3 ≤ a0.size) = true := decide_eq_true (by omega)
              clear c14
              (first | rw [c14b0] | (simp only [i64_w, i32_w]; rw [c14b0]) | skip)
              by_cases c15 : 0 ≤ 3
              · rw [if_pos c15] at H
                have c15b0 := eq_true c15
                have c15b1 : decide (0 ≤ 3) = true := decide_eq_true c15
                clear c15
                by_cases c16 : 3 ≤ (a0.size : Int)
                · rw [if_pos c16] at H
                  have c16b0 := eq_true c16
                  have c16b1 : decide (3 ≤ (a0.size : Int)) = true := decide_eq_true c16
                  clear c16
                  have H' := Aside0.mk H
                  clear H
                  go_wp2
                  go_meet
                  case rel => exact ⟨_, (((a0.extract 0 3).toList == ([46, 46, 46] : List UInt8))), (by first | rfl | (simp; done) | (simp [*]; done)), H', ⟨by have := HJ3.out; first | omega | exact Nat.le_refl _⟩, ⟨by (with_reducible repeat (first | refine blk_drewN ?_ _ | refine blk_drew ?_ | refine blk_alloc ?_ _)); exact BK125.out⟩, ⟨by repeat (first | (with_reducible first | exact HB.out | apply below_alloc | apply pw_below_drewN | apply below_drew1 | refine below_set ?_ GE125.out) | exact HB.out)⟩⟩
                · rw [if_neg c16] at H
                  exact absurd H (by simp)
              · rw [if_neg c15] at H
                exact absurd H (by simp)
            · rw [if_neg c14] at H
              have c14b0 : decide (3 ≤ (a0.size : Int)) = false := decide_eq_false c14
              have c14b1 : decide (3 ≤ a0.size) = false := decide_eq_false (by omega)
              clear c14
              (first | rw [c14b0] | (simp only [i64_w, i32_w]; rw [c14b0]) | skip)
              have H' := Aside0.mk H
              clear H
              go_wp2
              go_meet
              case rel => exact ⟨_, (false), (by first | rfl | (simp; done) | (simp [*]; done)), H', ⟨by have := HJ3.out; first | omega | exact Nat.le_refl _⟩, ⟨by (with_reducible repeat (first | refine blk_drewN ?_ _ | refine blk_drew ?_ | refine blk_alloc ?_ _)); exact BK125.out⟩, ⟨by repeat (first | (with_reducible first | exact HB.out | apply below_alloc | apply pw_below_drewN | apply below_drew1 | refine below_set ?_ GE125.out) | exact HB.out)⟩⟩
          case rest =>
            clear HC13
            try clear c1
            try clear c2
            try clear c2b0
            try clear c2b1
            try clear p2
            try clear p3
            try clear q3
            try clear hx3
            try clear qi3
            try clear c6
            try clear c6b0
            try clear c6b1
            try clear c7
            try clear c7b0
            try clear c7b1
            try clear c8
            try clear c8b0
            try clear c8b1
            try clear c9
            try clear c10
            try clear c10b0
            try clear c10b1
            try clear c11
            try clear c11b0
            try clear c11b1
            try clear c14
            try clear c14b0
            try clear c14b1
            try clear c15
            try clear c15b0
            try clear c15b1
            try clear c16
            try clear c16b0
            try clear c16b1
            try clear hcz12_0
            try clear hcz12_1
            try clear hcz12_2
            try clear hcz12_3
            try clear hfz12_0
            try clear hfz12_1
            try clear hfz12_2
            try clear hfz12_3
            try clear p2
            try clear p3
            try clear q3
            obtain ⟨kq, x35_12, rfl, HA, HJ12, BK125, HB⟩ := hcut
            cases kq with
            | zero => exact absurd HA.out (by simp [redactorref06_one.j1])
            | succ kj12 =>
              have H := HA.out
              clear HA
              simp only [redactorref06_one.j1] at H
              by_cases c17 : x35_12 = true
              · subst c17
                have H1 : (if 0 ≤ 3 then (if 3 ≤ (a0.size : Int) then (some (2, a0.extract 0 3, 0, 0, 3)) else (none)) else (none)) = some (r1, r2, r3, r4, r5) := by rw [if_pos rfl] at H; exact H
                clear H
                have H := H1
                clear H1
                by_cases c18 : 0 ≤ 3
                · rw [if_pos c18] at H
                  have c18b0 := eq_true c18
                  have c18b1 : decide (0 ≤ 3) = true := decide_eq_true c18
                  clear c18
                  by_cases c19 : 3 ≤ (a0.size : Int)
                  · rw [if_pos c19] at H
                    have c19b0 := eq_true c19
                    have c19b1 : decide (3 ≤ (a0.size : Int)) = true := decide_eq_true c19
                    clear c19
                    simp only [Option.some.injEq, Prod.mk.injEq] at H
                    obtain ⟨rfl, rfl, rfl, rfl, rfl⟩ := H
                    have hcz20_0 : wc.cell? ⟨gb125, 0, none⟩ = some (.int .u8 0) := (blk_cell BK125.out 0).trans rfl
                    have hcz20_1 : wc.cell? ⟨gb125, 1, none⟩ = some (.string (⟨#[]⟩ : ByteArray)) := (blk_cell BK125.out 1).trans rfl
                    have hcz20_2 : wc.cell? ⟨gb125, 2, none⟩ = some (.int .i64 0) := (blk_cell BK125.out 2).trans rfl
                    have hcz20_3 : wc.cell? ⟨gb125, 3, none⟩ = some (.int .i64 0) := (blk_cell BK125.out 3).trans rfl
                    have hfz20_0 := blk_frozen BK125.out 0
                    have hfz20_1 := blk_frozen BK125.out 1
                    have hfz20_2 := blk_frozen BK125.out 2
                    have hfz20_3 := blk_frozen BK125.out 3
                    go_wp2
                    refine bodyPost_ret (results_ct rfl _ _ gb125 63 #[.int .u8 2, .string (a0.extract 0 3), .int .i64 0, .int .i64 0] (0, 0) _ rfl (by (with_reducible repeat (first | refine blk_drewN ?_ _ | refine blk_drew ?_ | refine blk_alloc ?_ _)); refine blk_put (cs := #[.int .u8 2, .string (a0.extract 0 3), .int .i64 0, .int .i64 0]) ?_ 3 _ rfl; (with_reducible repeat (first | refine blk_drewN ?_ _ | refine blk_drew ?_ | refine blk_alloc ?_ _)); refine blk_put (cs := #[.int .u8 2, .string (a0.extract 0 3), .int .i64 0, .int .i64 0]) ?_ 2 _ rfl; (with_reducible repeat (first | refine blk_drewN ?_ _ | refine blk_drew ?_ | refine blk_alloc ?_ _)); refine blk_put (cs := #[.int .u8 2, .string (⟨#[]⟩ : ByteArray), .int .i64 0, .int .i64 0]) ?_ 1 _ rfl; (with_reducible repeat (first | refine blk_drewN ?_ _ | refine blk_drew ?_ | refine blk_alloc ?_ _)); refine blk_put (cs := #[.int .u8 0, .string (⟨#[]⟩ : ByteArray), .int .i64 0, .int .i64 0]) ?_ 0 _ rfl; (with_reducible repeat (first | refine blk_drewN ?_ _ | refine blk_drew ?_ | refine blk_alloc ?_ _)); exact BK125.out) Tryz.underlying63 rfl (by kernel_rfl)) rfl ?_
                    exact ⟨by first | rfl | (simp [errW_none, errW_some] <;> rfl) | (simp [*, errW_none, errW_some] <;> rfl), by repeat (first | (with_reducible first | exact HB.out | apply below_alloc | apply pw_below_drewN | apply below_drew1 | refine below_set ?_ GE125.out) | exact HB.out)⟩
                  · rw [if_neg c19] at H
                    exact absurd H (by simp)
                · rw [if_neg c18] at H
                  exact absurd H (by simp)
              · replace c17 := Bool.eq_false_iff.mpr c17
                subst c17
                have H1 : (if (bt a0 0) = 34 then ((redactorref06_quoted.f kj12 a0).bind fun t126 => (if t126 = 0 then (some (0, (⟨#[]⟩ : ByteArray), 0, 0, 0)) else (if 1 ≤ (wrap64 (t126 - 1)) then (if (wrap64 (t126 - 1)) ≤ (a0.size : Int) then (some (4, a0.extract 1 ((wrap64 (t126 - 1)) : Int).toNat, 0, 0, t126)) else (none)) else (none)))) else (if (bt a0 0) = 60 then (if 1 ≤ (a0.size : Int) then ((redactorref06_word.f kj12 (a0.extract 1 a0.size)).bind fun t127 => (if t127 = 0 then (redactorref06_one.j2 kj12 a0 t127 true) else (if (wrap64 (t127 + 1)) ≥ (a0.size : Int) then (redactorref06_one.j2 kj12 a0 t127 true) else (if 0 ≤ (wrap64 (t127 + 1)) then (if (wrap64 (t127 + 1)) < (a0.size : Int) then (redactorref06_one.j2 kj12 a0 t127 ((bt a0 (wrap64 (t127 + 1))) != 62)) else (none)) else (none))))) else (none)) else ((redactorref06_word.f kj12 a0).bind fun t131 => (if 0 ≤ t131 then (if t131 ≤ (a0.size : Int) then (some (1, a0.extract 0 (t131 : Int).toNat, 0, 0, t131)) else (none)) else (none))))) = some (r1, r2, r3, r4, r5) := by rw [if_neg (show ¬ (false = true) by decide)] at H; exact H
                clear H
                have H := H1
                clear H1
                by_cases c21 : (bt a0 0) = 34
                · rw [if_pos c21] at H
                  have c21b0 : ((bt a0 0) == 34) = true := beq_iff_eq.mpr c21
                  have c21b1 : ((bt a0 0) != 34) = false := bne_eq_false_iff_eq.mpr c21
                  clear c21
                  replace H := Option.bind_eq_some_iff.mp H
                  obtain ⟨t126, A220, H⟩ := H
                  replace H : (if t126 = 0 then (some (0, (⟨#[]⟩ : ByteArray), 0, 0, 0)) else (if 1 ≤ (wrap64 (t126 - 1)) then (if (wrap64 (t126 - 1)) ≤ (a0.size : Int) then (some (4, a0.extract 1 ((wrap64 (t126 - 1)) : Int).toNat, 0, 0, t126)) else (none)) else (none))) = some (r1, r2, r3, r4, r5) := H
                  have A22 := Aside0.mk A220
                  clear A220
                  by_cases c23 : t126 = 0
                  · rw [if_pos c23] at H
                    have c23b0 : (t126 == 0) = true := beq_iff_eq.mpr c23
                    have c23b1 : (t126 != 0) = false := bne_eq_false_iff_eq.mpr c23
                    clear c23
                    simp only [Option.some.injEq, Prod.mk.injEq] at H
                    obtain ⟨rfl, rfl, rfl, rfl, rfl⟩ := H
                    go_wp2_with (first | ((with_reducible refine gate_callee (f := 110) rfl ?_); refine goesL_ (some 42) rfl rfl Tryz.func110 (by kernel_rfl) rfl #[.string a0] rfl (by (try simp only [List.map_toArray, List.map_cons, List.map_nil]); first | done | rfl | (simp only [List.length_drop, List.length_take]; rfl)) ?_; (with_reducible refine (redactorref06_quoted.calls kj12 a0 t126 _ A22.out).mono ?_); rintro e w' ⟨rfl, ⟨nd, rfl⟩⟩; refine ⟨_, rfl, ?_⟩; (try (rw [drewN_self wc]; generalize hq_ : World.drewN wc _ = wc; have n0_ : Aside0 (wc.heap[gb125]? = some (.cells #[.int .u8 0, .string (⟨#[]⟩ : ByteArray), .int .i64 0, .int .i64 0] 63 (0, 0))) := ⟨by rw [← hq_]; exact (by (with_reducible repeat (first | refine blk_drewN ?_ _ | refine blk_drew ?_ | refine blk_alloc ?_ _)); exact BK125.out)⟩; have n1_ : Aside0 (Below w.heap.size w wc) := ⟨by rw [← hq_]; exact (by repeat (first | (with_reducible first | exact HB.out | apply below_alloc | apply pw_below_drewN | apply below_drew1 | refine below_set ?_ GE125.out) | exact HB.out))⟩; clear BK125 HB hq_; have BK125 := n0_; have HB := n1_; clear n0_ n1_)); have hcz24_0 : wc.cell? ⟨gb125, 0, none⟩ = some (.int .u8 0) := (blk_cell BK125.out 0).trans rfl; have hcz24_1 : wc.cell? ⟨gb125, 1, none⟩ = some (.string (⟨#[]⟩ : ByteArray)) := (blk_cell BK125.out 1).trans rfl; have hcz24_2 : wc.cell? ⟨gb125, 2, none⟩ = some (.int .i64 0) := (blk_cell BK125.out 2).trans rfl; have hcz24_3 : wc.cell? ⟨gb125, 3, none⟩ = some (.int .i64 0) := (blk_cell BK125.out 3).trans rfl; have hfz24_0 := blk_frozen BK125.out 0; have hfz24_1 := blk_frozen BK125.out 1; have hfz24_2 := blk_frozen BK125.out 2; have hfz24_3 := blk_frozen BK125.out 3))
                    refine bodyPost_ret (results_ct rfl _ _ gb125 63 #[.int .u8 0, .string (⟨#[]⟩ : ByteArray), .int .i64 0, .int .i64 0] (0, 0) _ rfl (by (with_reducible repeat (first | refine blk_drewN ?_ _ | refine blk_drew ?_ | refine blk_alloc ?_ _)); refine blk_put (cs := #[.int .u8 0, .string (⟨#[]⟩ : ByteArray), .int .i64 0, .int .i64 0]) ?_ 3 _ rfl; (with_reducible repeat (first | refine blk_drewN ?_ _ | refine blk_drew ?_ | refine blk_alloc ?_ _)); refine blk_put (cs := #[.int .u8 0, .string (⟨#[]⟩ : ByteArray), .int .i64 0, .int .i64 0]) ?_ 2 _ rfl; (with_reducible repeat (first | refine blk_drewN ?_ _ | refine blk_drew ?_ | refine blk_alloc ?_ _)); refine blk_put (cs := #[.int .u8 0, .string (⟨#[]⟩ : ByteArray), .int .i64 0, .int .i64 0]) ?_ 1 _ rfl; (with_reducible repeat (first | refine blk_drewN ?_ _ | refine blk_drew ?_ | refine blk_alloc ?_ _)); refine blk_put (cs := #[.int .u8 0, .string (⟨#[]⟩ : ByteArray), .int .i64 0, .int .i64 0]) ?_ 0 _ rfl; (with_reducible repeat (first | refine blk_drewN ?_ _ | refine blk_drew ?_ | refine blk_alloc ?_ _)); exact BK125.out) Tryz.underlying63 rfl (by kernel_rfl)) rfl ?_
                    exact ⟨by first | rfl | (simp [errW_none, errW_some] <;> rfl) | (simp [*, errW_none, errW_some] <;> rfl), by repeat (first | (with_reducible first | exact HB.out | apply below_alloc | apply pw_below_drewN | apply below_drew1 | refine below_set ?_ GE125.out) | exact HB.out)⟩
                  · rw [if_neg c23] at H
                    have c23b0 : (t126 == 0) = false := beq_eq_false_iff_ne.mpr c23
                    have c23b1 : (t126 != 0) = true := bne_iff_ne.mpr c23
                    by_cases c25 : 1 ≤ (wrap64 (t126 - 1))
                    · rw [if_pos c25] at H
                      have c25b0 := eq_true c25
                      have c25b1 : decide (1 ≤ (wrap64 (t126 - 1))) = true := decide_eq_true c25
                      clear c25
                      by_cases c26 : (wrap64 (t126 - 1)) ≤ (a0.size : Int)
                      · rw [if_pos c26] at H
                        have c26b0 := eq_true c26
                        have c26b1 : decide ((wrap64 (t126 - 1)) ≤ (a0.size : Int)) = true := decide_eq_true c26
                        clear c26
                        simp only [Option.some.injEq, Prod.mk.injEq] at H
                        obtain ⟨rfl, rfl, rfl, rfl, rfl⟩ := H
                        go_wp2_with (first | ((with_reducible refine gate_callee (f := 110) rfl ?_); refine goesL_ (some 42) rfl rfl Tryz.func110 (by kernel_rfl) rfl #[.string a0] rfl (by (try simp only [List.map_toArray, List.map_cons, List.map_nil]); first | done | rfl | (simp only [List.length_drop, List.length_take]; rfl)) ?_; (with_reducible refine (redactorref06_quoted.calls kj12 a0 t126 _ A22.out).mono ?_); rintro e w' ⟨rfl, ⟨nd, rfl⟩⟩; refine ⟨_, rfl, ?_⟩; (try (rw [drewN_self wc]; generalize hq_ : World.drewN wc _ = wc; have n0_ : Aside0 (wc.heap[gb125]? = some (.cells #[.int .u8 0, .string (⟨#[]⟩ : ByteArray), .int .i64 0, .int .i64 0] 63 (0, 0))) := ⟨by rw [← hq_]; exact (by (with_reducible repeat (first | refine blk_drewN ?_ _ | refine blk_drew ?_ | refine blk_alloc ?_ _)); exact BK125.out)⟩; have n1_ : Aside0 (Below w.heap.size w wc) := ⟨by rw [← hq_]; exact (by repeat (first | (with_reducible first | exact HB.out | apply below_alloc | apply pw_below_drewN | apply below_drew1 | refine below_set ?_ GE125.out) | exact HB.out))⟩; clear BK125 HB hq_; have BK125 := n0_; have HB := n1_; clear n0_ n1_)); have hcz27_0 : wc.cell? ⟨gb125, 0, none⟩ = some (.int .u8 0) := (blk_cell BK125.out 0).trans rfl; have hcz27_1 : wc.cell? ⟨gb125, 1, none⟩ = some (.string (⟨#[]⟩ : ByteArray)) := (blk_cell BK125.out 1).trans rfl; have hcz27_2 : wc.cell? ⟨gb125, 2, none⟩ = some (.int .i64 0) := (blk_cell BK125.out 2).trans rfl; have hcz27_3 : wc.cell? ⟨gb125, 3, none⟩ = some (.int .i64 0) := (blk_cell BK125.out 3).trans rfl; have hfz27_0 := blk_frozen BK125.out 0; have hfz27_1 := blk_frozen BK125.out 1; have hfz27_2 := blk_frozen BK125.out 2; have hfz27_3 := blk_frozen BK125.out 3))
                        refine bodyPost_ret (results_ct rfl _ _ gb125 63 #[.int .u8 4, .string (a0.extract 1 ((wrap64 (t126 - 1)) : Int).toNat), .int .i64 0, .int .i64 0] (0, 0) _ rfl (by (with_reducible repeat (first | refine blk_drewN ?_ _ | refine blk_drew ?_ | refine blk_alloc ?_ _)); refine blk_put (cs := #[.int .u8 4, .string (a0.extract 1 ((wrap64 (t126 - 1)) : Int).toNat), .int .i64 0, .int .i64 0]) ?_ 3 _ rfl; (with_reducible repeat (first | refine blk_drewN ?_ _ | refine blk_drew ?_ | refine blk_alloc ?_ _)); refine blk_put (cs := #[.int .u8 4, .string (a0.extract 1 ((wrap64 (t126 - 1)) : Int).toNat), .int .i64 0, .int .i64 0]) ?_ 2 _ rfl; (with_reducible repeat (first | refine blk_drewN ?_ _ | refine blk_drew ?_ | refine blk_alloc ?_ _)); refine blk_put (cs := #[.int .u8 4, .string (⟨#[]⟩ : ByteArray), .int .i64 0, .int .i64 0]) ?_ 1 _ rfl; (with_reducible repeat (first | refine blk_drewN ?_ _ | refine blk_drew ?_ | refine blk_alloc ?_ _)); refine blk_put (cs := #[.int .u8 0, .string (⟨#[]⟩ : ByteArray), .int .i64 0, .int .i64 0]) ?_ 0 _ rfl; (with_reducible repeat (first | refine blk_drewN ?_ _ | refine blk_drew ?_ | refine blk_alloc ?_ _)); exact BK125.out) Tryz.underlying63 rfl (by kernel_rfl)) rfl ?_
                        exact ⟨by first | rfl | (simp [errW_none, errW_some] <;> rfl) | (simp [*, errW_none, errW_some] <;> rfl), by repeat (first | (with_reducible first | exact HB.out | apply below_alloc | apply pw_below_drewN | apply below_drew1 | refine below_set ?_ GE125.out) | exact HB.out)⟩
                      · rw [if_neg c26] at H
                        exact absurd H (by simp)
                    · rw [if_neg c25] at H
                      exact absurd H (by simp)
                · rw [if_neg c21] at H
                  have c21b0 : ((bt a0 0) == 34) = false := beq_eq_false_iff_ne.mpr c21
                  have c21b1 : ((bt a0 0) != 34) = true := bne_iff_ne.mpr c21
                  by_cases c28 : (bt a0 0) = 60
                  · rw [if_pos c28] at H
                    have c28b0 : ((bt a0 0) == 60) = true := beq_iff_eq.mpr c28
                    have c28b1 : ((bt a0 0) != 60) = false := bne_eq_false_iff_eq.mpr c28
                    clear c28
                    by_cases c29 : 1 ≤ (a0.size : Int)
                    · rw [if_pos c29] at H
                      have c29b0 := eq_true c29
                      have c29b1 : decide (1 ≤ (a0.size : Int)) = true := decide_eq_true c29
                      clear c29
                      replace H := Option.bind_eq_some_iff.mp H
                      obtain ⟨t127, A300, H⟩ := H
                      replace H : (if t127 = 0 then (redactorref06_one.j2 kj12 a0 t127 true) else (if (wrap64 (t127 + 1)) ≥ (a0.size : Int) then (redactorref06_one.j2 kj12 a0 t127 true) else (if 0 ≤ (wrap64 (t127 + 1)) then (if (wrap64 (t127 + 1)) < (a0.size : Int) then (redactorref06_one.j2 kj12 a0 t127 ((bt a0 (wrap64 (t127 + 1))) != 62)) else (none)) else (none)))) = some (r1, r2, r3, r4, r5) := H
                      have A30 := Aside0.mk A300
                      clear A300
                      have HC31 := Aside0.mk H
                      clear H
                      go_upto_region 13 with (first | ((with_reducible refine gate_callee (f := 111) rfl ?_); refine goesL_ (some 56) rfl rfl Tryz.func111 (by kernel_rfl) rfl #[.string (a0.extract 1 a0.size)] rfl (by (try simp only [List.map_toArray, List.map_cons, List.map_nil]); first | done | rfl | (simp only [List.length_drop, List.length_take]; rfl)) ?_; (with_reducible refine (redactorref06_word.calls kj12 (a0.extract 1 a0.size) t127 _ A30.out).mono ?_); rintro e w' ⟨rfl, ⟨nd, rfl⟩⟩; refine ⟨_, rfl, ?_⟩))
                      (try simp only [Act.put, List.setIfInBounds_toArray, List.set_cons_zero, List.set_cons_succ])
                      go_cut [72] (fun v72 wc => ∃ (kq : Nat) (x72_30 : Bool), v72 = .bool x72_30 ∧ Aside0 (redactorref06_one.j2 kq a0 t127 x72_30 = some (r1, r2, r3, r4, r5)) ∧ Aside0 (kq ≤ kj12) ∧ Aside0 (wc.heap[gb125]? = some (.cells #[.int .u8 0, .string (⟨#[]⟩ : ByteArray), .int .i64 0, .int .i64 0] 63 (0, 0))) ∧ Aside0 (Below w.heap.size w wc))
                      case first =>
                        have H := HC31.out
                        clear HC31
                        by_cases c32 : t127 = 0
                        · rw [if_pos c32] at H
                          have c32b0 : (t127 == 0) = true := beq_iff_eq.mpr c32
                          have c32b1 : (t127 != 0) = false := bne_eq_false_iff_eq.mpr c32
                          clear c32
                          (first | rw [c32b0] | (simp only [i64_w, i32_w]; rw [c32b0]) | skip)
                          have H' := Aside0.mk H
                          clear H
                          go_wp2
                          go_meet
                          case rel => exact ⟨_, (true), (by first | rfl | (simp; done) | (simp [*]; done)), H', ⟨by have := HJ3.out; have := HJ12.out; first | omega | exact Nat.le_refl _⟩, ⟨by (with_reducible repeat (first | refine blk_drewN ?_ _ | refine blk_drew ?_ | refine blk_alloc ?_ _)); exact BK125.out⟩, ⟨by repeat (first | (with_reducible first | exact HB.out | apply below_alloc | apply pw_below_drewN | apply below_drew1 | refine below_set ?_ GE125.out) | exact HB.out)⟩⟩
                        · rw [if_neg c32] at H
                          have c32b0 : (t127 == 0) = false := beq_eq_false_iff_ne.mpr c32
                          have c32b1 : (t127 != 0) = true := bne_iff_ne.mpr c32
                          (first | rw [c32b0] | (simp only [i64_w, i32_w]; rw [c32b0]) | skip)
                          by_cases c33 : (wrap64 (t127 + 1)) ≥ (a0.size : Int)
                          · rw [if_pos c33] at H
                            have c33b0 : decide ((a0.size : Int) ≤ (wrap64 (t127 + 1))) = true := decide_eq_true c33
                            clear c33
                            have H' := Aside0.mk H
                            clear H
                            go_wp2
                            go_meet
                            case rel => exact ⟨_, (true), (by first | rfl | (simp; done) | (simp [*]; done)), H', ⟨by have := HJ3.out; have := HJ12.out; first | omega | exact Nat.le_refl _⟩, ⟨by (with_reducible repeat (first | refine blk_drewN ?_ _ | refine blk_drew ?_ | refine blk_alloc ?_ _)); exact BK125.out⟩, ⟨by repeat (first | (with_reducible first | exact HB.out | apply below_alloc | apply pw_below_drewN | apply below_drew1 | refine below_set ?_ GE125.out) | exact HB.out)⟩⟩
                          · rw [if_neg c33] at H
                            have c33b0 : decide ((a0.size : Int) ≤ (wrap64 (t127 + 1))) = false := decide_eq_false c33
                            clear c33
                            obtain ⟨ji34, hji34⟩ : ∃ j_ : Int, (wrap64 (t127 + 1)) = j_ := ⟨_, rfl⟩
                            replace H : (if 0 ≤ (ji34) then (if (ji34) < (a0.size : Int) then (redactorref06_one.j2 kj12 a0 t127 ((bt a0 (ji34)) != 62)) else (none)) else (none)) = some (r1, r2, r3, r4, r5) := by first | (rw [hji34] at H; exact H) | (simp only [hji34] at H ⊢; exact H)
                            (try rw [hji34] at c33b0)
                            have hji34w : (IntKind.i64.wrap (t127 + 1)) = ji34 := (i64_w _).trans hji34
                            by_cases c35 : 0 ≤ (ji34)
                            · rw [if_pos c35] at H
                              have c35b0 : decide (0 ≤ (ji34)) = true := decide_eq_true c35
                              clear c35
                              by_cases c36 : (ji34) < (a0.size : Int)
                              · rw [if_pos c36] at H
                                have c36b0 : decide ((ji34) < (a0.size : Int)) = true := decide_eq_true c36
                                clear c36
                                have H' := Aside0.mk H
                                clear H
                                have p37 : 0 ≤ ((ji34) : Int) := of_decide_eq_true (by first | (with_reducible assumption) | assumption)
                                have q37 : (ji34) < (a0.size : Int) := of_decide_eq_true (by first | (with_reducible assumption) | assumption)
                                have hx37 := bt_at a0 (ji34)
                                replace p37 := eq_true p37
                                replace q37 := eq_true q37
                                go_wp2
                                go_meet
                                case rel => exact ⟨_, (((bt a0 (ji34)) != 62)), (by first | rfl | (simp; done) | (simp only [← hji34] <;> (first | rfl | simp)) | (simp [*]; done)), H', ⟨by have := HJ3.out; have := HJ12.out; first | omega | exact Nat.le_refl _⟩, ⟨by (with_reducible repeat (first | refine blk_drewN ?_ _ | refine blk_drew ?_ | refine blk_alloc ?_ _)); exact BK125.out⟩, ⟨by repeat (first | (with_reducible first | exact HB.out | apply below_alloc | apply pw_below_drewN | apply below_drew1 | refine below_set ?_ GE125.out) | exact HB.out)⟩⟩
                              · rw [if_neg c36] at H
                                exact absurd H (by simp)
                            · rw [if_neg c35] at H
                              exact absurd H (by simp)
                      case rest =>
                        clear HC31
                        try clear c1
                        try clear c2
                        try clear c2b0
                        try clear c2b1
                        try clear p2
                        try clear c3
                        try clear p3
                        try clear q3
                        try clear hx3
                        try clear qi3
                        try clear c6
                        try clear c6b0
                        try clear c6b1
                        try clear p6
                        try clear c7
                        try clear c7b0
                        try clear c7b1
                        try clear c8
                        try clear c8b0
                        try clear c8b1
                        try clear c9
                        try clear c10
                        try clear c10b0
                        try clear c10b1
                        try clear c11
                        try clear c11b0
                        try clear c11b1
                        try clear c14
                        try clear c14b0
                        try clear c14b1
                        try clear c15
                        try clear c15b0
                        try clear c15b1
                        try clear c16
                        try clear c16b0
                        try clear c16b1
                        try clear c17
                        try clear c18
                        try clear c18b0
                        try clear c18b1
                        try clear c19
                        try clear c19b0
                        try clear c19b1
                        try clear c21
                        try clear c21b0
                        try clear c21b1
                        try clear c23
                        try clear c23b0
                        try clear c23b1
                        try clear c25
                        try clear c25b0
                        try clear c25b1
                        try clear c26
                        try clear c26b0
                        try clear c26b1
                        try clear c28
                        try clear c28b0
                        try clear c28b1
                        try clear c29
                        try clear c29b0
                        try clear c29b1
                        try clear c32
                        try clear c32b0
                        try clear c32b1
                        try clear c33
                        try clear c33b0
                        try clear c35
                        try clear c35b0
                        try clear c36
                        try clear c36b0
                        try clear p37
                        try clear q37
                        try clear hx37
                        try clear hcz12_0
                        try clear hcz12_1
                        try clear hcz12_2
                        try clear hcz12_3
                        try clear hcz20_0
                        try clear hcz20_1
                        try clear hcz20_2
                        try clear hcz20_3
                        try clear hcz24_0
                        try clear hcz24_1
                        try clear hcz24_2
                        try clear hcz24_3
                        try clear hcz27_0
                        try clear hcz27_1
                        try clear hcz27_2
                        try clear hcz27_3
                        try clear hfz12_0
                        try clear hfz12_1
                        try clear hfz12_2
                        try clear hfz12_3
                        try clear hfz20_0
                        try clear hfz20_1
                        try clear hfz20_2
                        try clear hfz20_3
                        try clear hfz24_0
                        try clear hfz24_1
                        try clear hfz24_2
                        try clear hfz24_3
                        try clear hfz27_0
                        try clear hfz27_1
                        try clear hfz27_2
                        try clear hfz27_3
                        try clear p2
                        try clear p3
                        try clear p37
                        try clear q3
                        try clear q37
                        obtain ⟨kq, x72_30, rfl, HA, HJ30, BK125, HB⟩ := hcut
                        cases kq with
                        | zero => exact absurd HA.out (by simp [redactorref06_one.j2])
                        | succ kj30 =>
                          have H := HA.out
                          clear HA
                          simp only [redactorref06_one.j2] at H
                          by_cases c38 : x72_30 = true
                          · subst c38
                            have H1 : (some (0, (⟨#[]⟩ : ByteArray), 0, 0, 0)) = some (r1, r2, r3, r4, r5) := by rw [if_pos rfl] at H; exact H
                            clear H
                            have H := H1
                            clear H1
                            simp only [Option.some.injEq, Prod.mk.injEq] at H
                            obtain ⟨rfl, rfl, rfl, rfl, rfl⟩ := H
                            have hcz39_0 : wc.cell? ⟨gb125, 0, none⟩ = some (.int .u8 0) := (blk_cell BK125.out 0).trans rfl
                            have hcz39_1 : wc.cell? ⟨gb125, 1, none⟩ = some (.string (⟨#[]⟩ : ByteArray)) := (blk_cell BK125.out 1).trans rfl
                            have hcz39_2 : wc.cell? ⟨gb125, 2, none⟩ = some (.int .i64 0) := (blk_cell BK125.out 2).trans rfl
                            have hcz39_3 : wc.cell? ⟨gb125, 3, none⟩ = some (.int .i64 0) := (blk_cell BK125.out 3).trans rfl
                            have hfz39_0 := blk_frozen BK125.out 0
                            have hfz39_1 := blk_frozen BK125.out 1
                            have hfz39_2 := blk_frozen BK125.out 2
                            have hfz39_3 := blk_frozen BK125.out 3
                            go_wp2
                            refine bodyPost_ret (results_ct rfl _ _ gb125 63 #[.int .u8 0, .string (⟨#[]⟩ : ByteArray), .int .i64 0, .int .i64 0] (0, 0) _ rfl (by (with_reducible repeat (first | refine blk_drewN ?_ _ | refine blk_drew ?_ | refine blk_alloc ?_ _)); refine blk_put (cs := #[.int .u8 0, .string (⟨#[]⟩ : ByteArray), .int .i64 0, .int .i64 0]) ?_ 3 _ rfl; (with_reducible repeat (first | refine blk_drewN ?_ _ | refine blk_drew ?_ | refine blk_alloc ?_ _)); refine blk_put (cs := #[.int .u8 0, .string (⟨#[]⟩ : ByteArray), .int .i64 0, .int .i64 0]) ?_ 2 _ rfl; (with_reducible repeat (first | refine blk_drewN ?_ _ | refine blk_drew ?_ | refine blk_alloc ?_ _)); refine blk_put (cs := #[.int .u8 0, .string (⟨#[]⟩ : ByteArray), .int .i64 0, .int .i64 0]) ?_ 1 _ rfl; (with_reducible repeat (first | refine blk_drewN ?_ _ | refine blk_drew ?_ | refine blk_alloc ?_ _)); refine blk_put (cs := #[.int .u8 0, .string (⟨#[]⟩ : ByteArray), .int .i64 0, .int .i64 0]) ?_ 0 _ rfl; (with_reducible repeat (first | refine blk_drewN ?_ _ | refine blk_drew ?_ | refine blk_alloc ?_ _)); exact BK125.out) Tryz.underlying63 rfl (by kernel_rfl)) rfl ?_
                            exact ⟨by first | rfl | (simp [errW_none, errW_some] <;> rfl) | (simp [*, errW_none, errW_some] <;> rfl), by repeat (first | (with_reducible first | exact HB.out | apply below_alloc | apply pw_below_drewN | apply below_drew1 | refine below_set ?_ GE125.out) | exact HB.out)⟩
                          · replace c38 := Bool.eq_false_iff.mpr c38
                            subst c38
                            have H1 : (if 1 < (a0.size : Int) then (if (bt a0 1) = 85 then (if t127 ≥ 5 then (if t127 ≤ 7 then (if 2 ≤ (wrap64 (t127 + 1)) then (if (wrap64 (t127 + 1)) ≤ (a0.size : Int) then ((redactorref06_hex.f kj30 (a0.extract 2 ((wrap64 (t127 + 1)) : Int).toNat)).bind fun t128 => (redactorref06_one.j3 kj30 a0 t127 (decide (t128 ≥ 0)))) else (none)) else (none)) else (redactorref06_one.j3 kj30 a0 t127 false)) else (redactorref06_one.j3 kj30 a0 t127 false)) else (redactorref06_one.j3 kj30 a0 t127 false)) else (none)) = some (r1, r2, r3, r4, r5) := by rw [if_neg (show ¬ (false = true) by decide)] at H; exact H
                            clear H
                            have H := H1
                            clear H1
                            have HC40 := Aside0.mk H
                            clear H
                            go_upto_region 15 with (fail)
                            go_cut [92] (fun v92 wc => ∃ (kq : Nat) (x92_39 : Bool), v92 = .bool x92_39 ∧ Aside0 (redactorref06_one.j3 kq a0 t127 x92_39 = some (r1, r2, r3, r4, r5)) ∧ Aside0 (kq ≤ kj30) ∧ Aside0 (wc.heap[gb125]? = some (.cells #[.int .u8 0, .string (⟨#[]⟩ : ByteArray), .int .i64 0, .int .i64 0] 63 (0, 0))) ∧ Aside0 (Below w.heap.size w wc))
                            case first =>
                              have H := HC40.out
                              clear HC40
                              by_cases c41 : 1 < (a0.size : Int)
                              · rw [if_pos c41] at H
                                have c41b0 : decide (1 < (a0.size : Int)) = true := decide_eq_true c41
                                have c41b1 : decide (1 < a0.size) = true := decide_eq_true (by omega)
                                clear c41
                                (first | rw [c41b0] | (simp only [i64_w, i32_w]; rw [c41b0]) | skip)
                                by_cases c43 : (bt a0 1) = 85
                                · rw [if_pos c43] at H
                                  have c43b0 : ((bt a0 1) == 85) = true := beq_iff_eq.mpr c43
                                  have c43b1 : ((bt a0 1) != 85) = false := bne_eq_false_iff_eq.mpr c43
                                  clear c43
                                  by_cases c44 : t127 ≥ 5
                                  · rw [if_pos c44] at H
                                    have c44b0 : decide (5 ≤ t127) = true := decide_eq_true c44
                                    clear c44
                                    by_cases c45 : t127 ≤ 7
                                    · rw [if_pos c45] at H
                                      have c45b0 : decide (t127 ≤ 7) = true := decide_eq_true c45
                                      clear c45
                                      by_cases c46 : 2 ≤ (wrap64 (t127 + 1))
                                      · rw [if_pos c46] at H
                                        have c46b0 := eq_true c46
                                        have c46b1 : decide (2 ≤ (wrap64 (t127 + 1))) = true := decide_eq_true c46
                                        by_cases c47 : (wrap64 (t127 + 1)) ≤ (a0.size : Int)
                                        · rw [if_pos c47] at H
                                          have c47b0 := eq_true c47
                                          have c47b1 : decide ((wrap64 (t127 + 1)) ≤ (a0.size : Int)) = true := decide_eq_true c47
                                          replace H := Option.bind_eq_some_iff.mp H
                                          obtain ⟨t128, A480, H⟩ := H
                                          replace H : (redactorref06_one.j3 kj30 a0 t127 (decide (t128 ≥ 0))) = some (r1, r2, r3, r4, r5) := H
                                          have A48 := Aside0.mk A480
                                          clear A480
                                          have H' := Aside0.mk H
                                          clear H
                                          have p42 : 0 ≤ (1 : Int) := (by omega)
                                          have q42 : 1 < a0.size := (by have : (1 : Int) < (a0.size : Int) := of_decide_eq_true (by first | (with_reducible assumption) | assumption); omega)
                                          have hx42 : ∀ h : 1 < a0.size, ((a0[1]'h).toNat : Int) = bt a0 1 := bt_at a0 1
                                          clear p42
                                          have qi42 : (1 < (a0.size : Int)) = True := eq_true (of_decide_eq_true (by first | (with_reducible assumption) | assumption))
                                          replace q42 := eq_true q42
                                          go_wp2_with (first | (go_at_call 112; (with_reducible refine (redactorref06_hex.calls kj30 (a0.extract 2 ((wrap64 (t127 + 1)) : Int).toNat) t128 _ A48.out).mono ?_); rintro e w' ⟨rfl, ⟨nd, rfl⟩⟩))
                                          go_meet
                                          case rel => exact ⟨_, (decide (t128 ≥ 0)), (by first | rfl | (simp; done) | (simp [*]; done)), H', ⟨by have := HJ3.out; have := HJ12.out; have := HJ30.out; first | omega | exact Nat.le_refl _⟩, ⟨by (with_reducible repeat (first | refine blk_drewN ?_ _ | refine blk_drew ?_ | refine blk_alloc ?_ _)); exact BK125.out⟩, ⟨by repeat (first | (with_reducible first | exact HB.out | apply below_alloc | apply pw_below_drewN | apply below_drew1 | refine below_set ?_ GE125.out) | exact HB.out)⟩⟩
                                        · rw [if_neg c47] at H
                                          exact absurd H (by simp)
                                      · rw [if_neg c46] at H
                                        exact absurd H (by simp)
                                    · rw [if_neg c45] at H
                                      have c45b0 : decide (t127 ≤ 7) = false := decide_eq_false c45
                                      clear c45
                                      have H' := Aside0.mk H
                                      clear H
                                      have p42 : 0 ≤ (1 : Int) := (by omega)
                                      have q42 : 1 < a0.size := (by have : (1 : Int) < (a0.size : Int) := of_decide_eq_true (by first | (with_reducible assumption) | assumption); omega)
                                      have hx42 : ∀ h : 1 < a0.size, ((a0[1]'h).toNat : Int) = bt a0 1 := bt_at a0 1
                                      clear p42
                                      have qi42 : (1 < (a0.size : Int)) = True := eq_true (of_decide_eq_true (by first | (with_reducible assumption) | assumption))
                                      replace q42 := eq_true q42
                                      go_wp2
                                      go_meet
                                      case rel => exact ⟨_, (false), (by first | rfl | (simp; done) | (simp [*]; done)), H', ⟨by have := HJ3.out; have := HJ12.out; have := HJ30.out; first | omega | exact Nat.le_refl _⟩, ⟨by (with_reducible repeat (first | refine blk_drewN ?_ _ | refine blk_drew ?_ | refine blk_alloc ?_ _)); exact BK125.out⟩, ⟨by repeat (first | (with_reducible first | exact HB.out | apply below_alloc | apply pw_below_drewN | apply below_drew1 | refine below_set ?_ GE125.out) | exact HB.out)⟩⟩
                                  · rw [if_neg c44] at H
                                    have c44b0 : decide (5 ≤ t127) = false := decide_eq_false c44
                                    clear c44
                                    have H' := Aside0.mk H
                                    clear H
                                    have p42 : 0 ≤ (1 : Int) := (by omega)
                                    have q42 : 1 < a0.size := (by have : (1 : Int) < (a0.size : Int) := of_decide_eq_true (by first | (with_reducible assumption) | assumption); omega)
                                    have hx42 : ∀ h : 1 < a0.size, ((a0[1]'h).toNat : Int) = bt a0 1 := bt_at a0 1
                                    clear p42
                                    have qi42 : (1 < (a0.size : Int)) = True := eq_true (of_decide_eq_true (by first | (with_reducible assumption) | assumption))
                                    replace q42 := eq_true q42
                                    go_wp2
                                    go_meet
                                    case rel => exact ⟨_, (false), (by first | rfl | (simp; done) | (simp [*]; done)), H', ⟨by have := HJ3.out; have := HJ12.out; have := HJ30.out; first | omega | exact Nat.le_refl _⟩, ⟨by (with_reducible repeat (first | refine blk_drewN ?_ _ | refine blk_drew ?_ | refine blk_alloc ?_ _)); exact BK125.out⟩, ⟨by repeat (first | (with_reducible first | exact HB.out | apply below_alloc | apply pw_below_drewN | apply below_drew1 | refine below_set ?_ GE125.out) | exact HB.out)⟩⟩
                                · rw [if_neg c43] at H
                                  have c43b0 : ((bt a0 1) == 85) = false := beq_eq_false_iff_ne.mpr c43
                                  have c43b1 : ((bt a0 1) != 85) = true := bne_iff_ne.mpr c43
                                  have H' := Aside0.mk H
                                  clear H
                                  have p42 : 0 ≤ (1 : Int) := (by omega)
                                  have q42 : 1 < a0.size := (by have : (1 : Int) < (a0.size : Int) := of_decide_eq_true (by first | (with_reducible assumption) | assumption); omega)
                                  have hx42 : ∀ h : 1 < a0.size, ((a0[1]'h).toNat : Int) = bt a0 1 := bt_at a0 1
                                  clear p42
                                  have qi42 : (1 < (a0.size : Int)) = True := eq_true (of_decide_eq_true (by first | (with_reducible assumption) | assumption))
                                  replace q42 := eq_true q42
                                  go_wp2
                                  go_meet
                                  case rel => exact ⟨_, (false), (by first | rfl | (simp; done) | (simp [*]; done)), H', ⟨by have := HJ3.out; have := HJ12.out; have := HJ30.out; first | omega | exact Nat.le_refl _⟩, ⟨by (with_reducible repeat (first | refine blk_drewN ?_ _ | refine blk_drew ?_ | refine blk_alloc ?_ _)); exact BK125.out⟩, ⟨by repeat (first | (with_reducible first | exact HB.out | apply below_alloc | apply pw_below_drewN | apply below_drew1 | refine below_set ?_ GE125.out) | exact HB.out)⟩⟩
                              · rw [if_neg c41] at H
                                exact absurd H (by simp)
                            case rest =>
                              clear HC40
                              try clear c1
                              try clear c2
                              try clear c2b0
                              try clear c2b1
                              try clear p2
                              try clear c3
                              try clear p3
                              try clear q3
                              try clear hx3
                              try clear qi3
                              try clear c4
                              try clear p4
                              try clear q4
                              try clear hx4
                              try clear qi4
                              try clear c6
                              try clear c6b0
                              try clear c6b1
                              try clear p6
                              try clear c7
                              try clear c7b0
                              try clear c7b1
                              try clear c8
                              try clear c8b0
                              try clear c8b1
                              try clear c9
                              try clear c10
                              try clear c10b0
                              try clear c10b1
                              try clear c11
                              try clear c11b0
                              try clear c11b1
                              try clear c14
                              try clear c14b0
                              try clear c14b1
                              try clear c15
                              try clear c15b0
                              try clear c15b1
                              try clear c16
                              try clear c16b0
                              try clear c16b1
                              try clear c17
                              try clear c18
                              try clear c18b0
                              try clear c18b1
                              try clear c19
                              try clear c19b0
                              try clear c19b1
                              try clear c21
                              try clear c21b0
                              try clear c21b1
                              try clear c23
                              try clear c23b0
                              try clear c23b1
                              try clear c25
                              try clear c25b0
                              try clear c25b1
                              try clear c26
                              try clear c26b0
                              try clear c26b1
                              try clear c28
                              try clear c28b0
                              try clear c28b1
                              try clear c29
                              try clear c29b0
                              try clear c29b1
                              try clear c32
                              try clear c32b0
                              try clear c32b1
                              try clear c33
                              try clear c33b0
                              try clear c35
                              try clear c35b0
                              try clear c36
                              try clear c36b0
                              try clear p37
                              try clear q37
                              try clear hx37
                              try clear c38
                              try clear c41
                              try clear c41b0
                              try clear c41b1
                              try clear p42
                              try clear q42
                              try clear hx42
                              try clear qi42
                              try clear c43
                              try clear c43b0
                              try clear c43b1
                              try clear c44
                              try clear c44b0
                              try clear c45
                              try clear c45b0
                              try clear c46
                              try clear c46b0
                              try clear c46b1
                              try clear c47
                              try clear c47b0
                              try clear c47b1
                              try clear hcz12_0
                              try clear hcz12_1
                              try clear hcz12_2
                              try clear hcz12_3
                              try clear hcz20_0
                              try clear hcz20_1
                              try clear hcz20_2
                              try clear hcz20_3
                              try clear hcz24_0
                              try clear hcz24_1
                              try clear hcz24_2
                              try clear hcz24_3
                              try clear hcz27_0
                              try clear hcz27_1
                              try clear hcz27_2
                              try clear hcz27_3
                              try clear hcz39_0
                              try clear hcz39_1
                              try clear hcz39_2
                              try clear hcz39_3
                              try clear hfz12_0
                              try clear hfz12_1
                              try clear hfz12_2
                              try clear hfz12_3
                              try clear hfz20_0
                              try clear hfz20_1
                              try clear hfz20_2
                              try clear hfz20_3
                              try clear hfz24_0
                              try clear hfz24_1
                              try clear hfz24_2
                              try clear hfz24_3
                              try clear hfz27_0
                              try clear hfz27_1
                              try clear hfz27_2
                              try clear hfz27_3
                              try clear hfz39_0
                              try clear hfz39_1
                              try clear hfz39_2
                              try clear hfz39_3
                              try clear p2
                              try clear p3
                              try clear p37
                              try clear p42
                              try clear p6
                              try clear q3
                              try clear q37
                              try clear q42
                              obtain ⟨kq, x92_39, rfl, HA, HJ39, BK125, HB⟩ := hcut
                              cases kq with
                              | zero => exact absurd HA.out (by simp [redactorref06_one.j3])
                              | succ kj39 =>
                                have H := HA.out
                                clear HA
                                simp only [redactorref06_one.j3] at H
                                by_cases c49 : x92_39 = true
                                · subst c49
                                  have H1 : (if 2 ≤ (wrap64 (t127 + 1)) then (if (wrap64 (t127 + 1)) ≤ (a0.size : Int) then ((redactorref06_hex.f kj39 (a0.extract 2 ((wrap64 (t127 + 1)) : Int).toNat)).bind fun t129 => ((redactorref01_Right.f (wrap32 (t129))).bind fun t130 => (if t130 = true then (some (3, (⟨#[]⟩ : ByteArray), t129, 0, wrap64 (t127 + 2))) else (some (0, (⟨#[]⟩ : ByteArray), 0, 0, 0))))) else (none)) else (none)) = some (r1, r2, r3, r4, r5) := by rw [if_pos rfl] at H; exact H
                                  clear H
                                  have H := H1
                                  clear H1
                                  by_cases c50 : 2 ≤ (wrap64 (t127 + 1))
                                  · rw [if_pos c50] at H
                                    have c50b0 := eq_true c50
                                    have c50b1 : decide (2 ≤ (wrap64 (t127 + 1))) = true := decide_eq_true c50
                                    by_cases c51 : (wrap64 (t127 + 1)) ≤ (a0.size : Int)
                                    · rw [if_pos c51] at H
                                      have c51b0 := eq_true c51
                                      have c51b1 : decide ((wrap64 (t127 + 1)) ≤ (a0.size : Int)) = true := decide_eq_true c51
                                      replace H := Option.bind_eq_some_iff.mp H
                                      obtain ⟨t129, A520, H⟩ := H
                                      replace H : ((redactorref01_Right.f (wrap32 (t129))).bind fun t130 => (if t130 = true then (some (3, (⟨#[]⟩ : ByteArray), t129, 0, wrap64 (t127 + 2))) else (some (0, (⟨#[]⟩ : ByteArray), 0, 0, 0)))) = some (r1, r2, r3, r4, r5) := H
                                      have A52 := Aside0.mk A520
                                      clear A520
                                      replace H := Option.bind_eq_some_iff.mp H
                                      obtain ⟨t130, A530, H⟩ := H
                                      replace H : (if t130 = true then (some (3, (⟨#[]⟩ : ByteArray), t129, 0, wrap64 (t127 + 2))) else (some (0, (⟨#[]⟩ : ByteArray), 0, 0, 0))) = some (r1, r2, r3, r4, r5) := H
                                      have A53 := Aside0.mk A530
                                      clear A530
                                      by_cases c54 : t130 = true
                                      · subst c54
                                        have H1 : (some (3, (⟨#[]⟩ : ByteArray), t129, 0, wrap64 (t127 + 2))) = some (r1, r2, r3, r4, r5) := by rw [if_pos rfl] at H; exact H
                                        clear H
                                        have H := H1
                                        clear H1
                                        simp only [Option.some.injEq, Prod.mk.injEq] at H
                                        obtain ⟨rfl, rfl, rfl, rfl, rfl⟩ := H
                                        go_wp2_with (first | ((with_reducible refine gate_callee (f := 112) rfl ?_); refine goesL_ (some 97) rfl rfl Tryz.func112 (by kernel_rfl) rfl #[.string (a0.extract 2 ((wrap64 (t127 + 1)) : Int).toNat)] rfl (by (try simp only [List.map_toArray, List.map_cons, List.map_nil]); first | done | rfl | (simp only [List.length_drop, List.length_take]; rfl)) ?_; (with_reducible refine (redactorref06_hex.calls kj39 (a0.extract 2 ((wrap64 (t127 + 1)) : Int).toNat) t129 _ A52.out).mono ?_); rintro e w' ⟨rfl, ⟨nd, rfl⟩⟩; refine ⟨_, rfl, ?_⟩; (try (rw [drewN_self wc]; generalize hq_ : World.drewN wc _ = wc; have n0_ : Aside0 (wc.heap[gb125]? = some (.cells #[.int .u8 0, .string (⟨#[]⟩ : ByteArray), .int .i64 0, .int .i64 0] 63 (0, 0))) := ⟨by rw [← hq_]; exact (by (with_reducible repeat (first | refine blk_drewN ?_ _ | refine blk_drew ?_ | refine blk_alloc ?_ _)); exact BK125.out)⟩; have n1_ : Aside0 (Below w.heap.size w wc) := ⟨by rw [← hq_]; exact (by repeat (first | (with_reducible first | exact HB.out | apply below_alloc | apply pw_below_drewN | apply below_drew1 | refine below_set ?_ GE125.out) | exact HB.out))⟩; clear BK125 HB hq_; have BK125 := n0_; have HB := n1_; clear n0_ n1_))) | ((with_reducible refine gate_callee (f := 113) rfl ?_); refine goesL_ (some 100) rfl rfl Tryz.func113 (by kernel_rfl) rfl #[.int .i32 (wrap32 (t129))] rfl (by (try simp only [List.map_toArray, List.map_cons, List.map_nil]); first | done | rfl | (simp only [List.length_drop, List.length_take]; rfl)) ?_; (with_reducible refine (redactorref01_Right.calls (wrap32 (t129)) true _ A53.out).mono ?_); rintro e w' ⟨rfl, ⟨nd, rfl⟩⟩; refine ⟨_, rfl, ?_⟩; (try (rw [drewN_self wc]; generalize hq_ : World.drewN wc _ = wc; have n0_ : Aside0 (wc.heap[gb125]? = some (.cells #[.int .u8 0, .string (⟨#[]⟩ : ByteArray), .int .i64 0, .int .i64 0] 63 (0, 0))) := ⟨by rw [← hq_]; exact (by (with_reducible repeat (first | refine blk_drewN ?_ _ | refine blk_drew ?_ | refine blk_alloc ?_ _)); exact BK125.out)⟩; have n1_ : Aside0 (Below w.heap.size w wc) := ⟨by rw [← hq_]; exact (by repeat (first | (with_reducible first | exact HB.out | apply below_alloc | apply pw_below_drewN | apply below_drew1 | refine below_set ?_ GE125.out) | exact HB.out))⟩; clear BK125 HB hq_; have BK125 := n0_; have HB := n1_; clear n0_ n1_)); have hcz55_0 : wc.cell? ⟨gb125, 0, none⟩ = some (.int .u8 0) := (blk_cell BK125.out 0).trans rfl; have hcz55_1 : wc.cell? ⟨gb125, 1, none⟩ = some (.string (⟨#[]⟩ : ByteArray)) := (blk_cell BK125.out 1).trans rfl; have hcz55_2 : wc.cell? ⟨gb125, 2, none⟩ = some (.int .i64 0) := (blk_cell BK125.out 2).trans rfl; have hcz55_3 : wc.cell? ⟨gb125, 3, none⟩ = some (.int .i64 0) := (blk_cell BK125.out 3).trans rfl; have hfz55_0 := blk_frozen BK125.out 0; have hfz55_1 := blk_frozen BK125.out 1; have hfz55_2 := blk_frozen BK125.out 2; have hfz55_3 := blk_frozen BK125.out 3))
                                        refine bodyPost_ret (results_ct rfl _ _ gb125 63 #[.int .u8 3, .string (⟨#[]⟩ : ByteArray), .int .i64 t129, .int .i64 0] (0, 0) _ rfl (by (with_reducible repeat (first | refine blk_drewN ?_ _ | refine blk_drew ?_ | refine blk_alloc ?_ _)); refine blk_put (cs := #[.int .u8 3, .string (⟨#[]⟩ : ByteArray), .int .i64 t129, .int .i64 0]) ?_ 3 _ rfl; (with_reducible repeat (first | refine blk_drewN ?_ _ | refine blk_drew ?_ | refine blk_alloc ?_ _)); refine blk_put (cs := #[.int .u8 3, .string (⟨#[]⟩ : ByteArray), .int .i64 0, .int .i64 0]) ?_ 2 _ rfl; (with_reducible repeat (first | refine blk_drewN ?_ _ | refine blk_drew ?_ | refine blk_alloc ?_ _)); refine blk_put (cs := #[.int .u8 3, .string (⟨#[]⟩ : ByteArray), .int .i64 0, .int .i64 0]) ?_ 1 _ rfl; (with_reducible repeat (first | refine blk_drewN ?_ _ | refine blk_drew ?_ | refine blk_alloc ?_ _)); refine blk_put (cs := #[.int .u8 0, .string (⟨#[]⟩ : ByteArray), .int .i64 0, .int .i64 0]) ?_ 0 _ rfl; (with_reducible repeat (first | refine blk_drewN ?_ _ | refine blk_drew ?_ | refine blk_alloc ?_ _)); exact BK125.out) Tryz.underlying63 rfl (by kernel_rfl)) rfl ?_
                                        exact ⟨by first | rfl | (simp [errW_none, errW_some] <;> rfl) | (simp [*, errW_none, errW_some] <;> rfl), by repeat (first | (with_reducible first | exact HB.out | apply below_alloc | apply pw_below_drewN | apply below_drew1 | refine below_set ?_ GE125.out) | exact HB.out)⟩
                                      · replace c54 := Bool.eq_false_iff.mpr c54
                                        subst c54
                                        have H1 : (some (0, (⟨#[]⟩ : ByteArray), 0, 0, 0)) = some (r1, r2, r3, r4, r5) := by rw [if_neg (show ¬ (false = true) by decide)] at H; exact H
                                        clear H
                                        have H := H1
                                        clear H1
                                        simp only [Option.some.injEq, Prod.mk.injEq] at H
                                        obtain ⟨rfl, rfl, rfl, rfl, rfl⟩ := H
                                        go_wp2_with (first | ((with_reducible refine gate_callee (f := 112) rfl ?_); refine goesL_ (some 97) rfl rfl Tryz.func112 (by kernel_rfl) rfl #[.string (a0.extract 2 ((wrap64 (t127 + 1)) : Int).toNat)] rfl (by (try simp only [List.map_toArray, List.map_cons, List.map_nil]); first | done | rfl | (simp only [List.length_drop, List.length_take]; rfl)) ?_; (with_reducible refine (redactorref06_hex.calls kj39 (a0.extract 2 ((wrap64 (t127 + 1)) : Int).toNat) t129 _ A52.out).mono ?_); rintro e w' ⟨rfl, ⟨nd, rfl⟩⟩; refine ⟨_, rfl, ?_⟩; (try (rw [drewN_self wc]; generalize hq_ : World.drewN wc _ = wc; have n0_ : Aside0 (wc.heap[gb125]? = some (.cells #[.int .u8 0, .string (⟨#[]⟩ : ByteArray), .int .i64 0, .int .i64 0] 63 (0, 0))) := ⟨by rw [← hq_]; exact (by (with_reducible repeat (first | refine blk_drewN ?_ _ | refine blk_drew ?_ | refine blk_alloc ?_ _)); exact BK125.out)⟩; have n1_ : Aside0 (Below w.heap.size w wc) := ⟨by rw [← hq_]; exact (by repeat (first | (with_reducible first | exact HB.out | apply below_alloc | apply pw_below_drewN | apply below_drew1 | refine below_set ?_ GE125.out) | exact HB.out))⟩; clear BK125 HB hq_; have BK125 := n0_; have HB := n1_; clear n0_ n1_))) | ((with_reducible refine gate_callee (f := 113) rfl ?_); refine goesL_ (some 100) rfl rfl Tryz.func113 (by kernel_rfl) rfl #[.int .i32 (wrap32 (t129))] rfl (by (try simp only [List.map_toArray, List.map_cons, List.map_nil]); first | done | rfl | (simp only [List.length_drop, List.length_take]; rfl)) ?_; (with_reducible refine (redactorref01_Right.calls (wrap32 (t129)) false _ A53.out).mono ?_); rintro e w' ⟨rfl, ⟨nd, rfl⟩⟩; refine ⟨_, rfl, ?_⟩; (try (rw [drewN_self wc]; generalize hq_ : World.drewN wc _ = wc; have n0_ : Aside0 (wc.heap[gb125]? = some (.cells #[.int .u8 0, .string (⟨#[]⟩ : ByteArray), .int .i64 0, .int .i64 0] 63 (0, 0))) := ⟨by rw [← hq_]; exact (by (with_reducible repeat (first | refine blk_drewN ?_ _ | refine blk_drew ?_ | refine blk_alloc ?_ _)); exact BK125.out)⟩; have n1_ : Aside0 (Below w.heap.size w wc) := ⟨by rw [← hq_]; exact (by repeat (first | (with_reducible first | exact HB.out | apply below_alloc | apply pw_below_drewN | apply below_drew1 | refine below_set ?_ GE125.out) | exact HB.out))⟩; clear BK125 HB hq_; have BK125 := n0_; have HB := n1_; clear n0_ n1_)); have hcz56_0 : wc.cell? ⟨gb125, 0, none⟩ = some (.int .u8 0) := (blk_cell BK125.out 0).trans rfl; have hcz56_1 : wc.cell? ⟨gb125, 1, none⟩ = some (.string (⟨#[]⟩ : ByteArray)) := (blk_cell BK125.out 1).trans rfl; have hcz56_2 : wc.cell? ⟨gb125, 2, none⟩ = some (.int .i64 0) := (blk_cell BK125.out 2).trans rfl; have hcz56_3 : wc.cell? ⟨gb125, 3, none⟩ = some (.int .i64 0) := (blk_cell BK125.out 3).trans rfl; have hfz56_0 := blk_frozen BK125.out 0; have hfz56_1 := blk_frozen BK125.out 1; have hfz56_2 := blk_frozen BK125.out 2; have hfz56_3 := blk_frozen BK125.out 3))
                                        refine bodyPost_ret (results_ct rfl _ _ gb125 63 #[.int .u8 0, .string (⟨#[]⟩ : ByteArray), .int .i64 0, .int .i64 0] (0, 0) _ rfl (by (with_reducible repeat (first | refine blk_drewN ?_ _ | refine blk_drew ?_ | refine blk_alloc ?_ _)); refine blk_put (cs := #[.int .u8 0, .string (⟨#[]⟩ : ByteArray), .int .i64 0, .int .i64 0]) ?_ 3 _ rfl; (with_reducible repeat (first | refine blk_drewN ?_ _ | refine blk_drew ?_ | refine blk_alloc ?_ _)); refine blk_put (cs := #[.int .u8 0, .string (⟨#[]⟩ : ByteArray), .int .i64 0, .int .i64 0]) ?_ 2 _ rfl; (with_reducible repeat (first | refine blk_drewN ?_ _ | refine blk_drew ?_ | refine blk_alloc ?_ _)); refine blk_put (cs := #[.int .u8 0, .string (⟨#[]⟩ : ByteArray), .int .i64 0, .int .i64 0]) ?_ 1 _ rfl; (with_reducible repeat (first | refine blk_drewN ?_ _ | refine blk_drew ?_ | refine blk_alloc ?_ _)); refine blk_put (cs := #[.int .u8 0, .string (⟨#[]⟩ : ByteArray), .int .i64 0, .int .i64 0]) ?_ 0 _ rfl; (with_reducible repeat (first | refine blk_drewN ?_ _ | refine blk_drew ?_ | refine blk_alloc ?_ _)); exact BK125.out) Tryz.underlying63 rfl (by kernel_rfl)) rfl ?_
                                        exact ⟨by first | rfl | (simp [errW_none, errW_some] <;> rfl) | (simp [*, errW_none, errW_some] <;> rfl), by repeat (first | (with_reducible first | exact HB.out | apply below_alloc | apply pw_below_drewN | apply below_drew1 | refine below_set ?_ GE125.out) | exact HB.out)⟩
                                    · rw [if_neg c51] at H
                                      exact absurd H (by simp)
                                  · rw [if_neg c50] at H
                                    exact absurd H (by simp)
                                · replace c49 := Bool.eq_false_iff.mpr c49
                                  subst c49
                                  have H1 : (if 1 ≤ (wrap64 (t127 + 1)) then (if (wrap64 (t127 + 1)) ≤ (a0.size : Int) then (some (5, a0.extract 1 ((wrap64 (t127 + 1)) : Int).toNat, 0, 0, wrap64 (t127 + 2))) else (none)) else (none)) = some (r1, r2, r3, r4, r5) := by rw [if_neg (show ¬ (false = true) by decide)] at H; exact H
                                  clear H
                                  have H := H1
                                  clear H1
                                  by_cases c57 : 1 ≤ (wrap64 (t127 + 1))
                                  · rw [if_pos c57] at H
                                    have c57b0 := eq_true c57
                                    have c57b1 : decide (1 ≤ (wrap64 (t127 + 1))) = true := decide_eq_true c57
                                    by_cases c58 : (wrap64 (t127 + 1)) ≤ (a0.size : Int)
                                    · rw [if_pos c58] at H
                                      have c58b0 := eq_true c58
                                      have c58b1 : decide ((wrap64 (t127 + 1)) ≤ (a0.size : Int)) = true := decide_eq_true c58
                                      simp only [Option.some.injEq, Prod.mk.injEq] at H
                                      obtain ⟨rfl, rfl, rfl, rfl, rfl⟩ := H
                                      have hcz59_0 : wc.cell? ⟨gb125, 0, none⟩ = some (.int .u8 0) := (blk_cell BK125.out 0).trans rfl
                                      have hcz59_1 : wc.cell? ⟨gb125, 1, none⟩ = some (.string (⟨#[]⟩ : ByteArray)) := (blk_cell BK125.out 1).trans rfl
                                      have hcz59_2 : wc.cell? ⟨gb125, 2, none⟩ = some (.int .i64 0) := (blk_cell BK125.out 2).trans rfl
                                      have hcz59_3 : wc.cell? ⟨gb125, 3, none⟩ = some (.int .i64 0) := (blk_cell BK125.out 3).trans rfl
                                      have hfz59_0 := blk_frozen BK125.out 0
                                      have hfz59_1 := blk_frozen BK125.out 1
                                      have hfz59_2 := blk_frozen BK125.out 2
                                      have hfz59_3 := blk_frozen BK125.out 3
                                      go_wp2
                                      refine bodyPost_ret (results_ct rfl _ _ gb125 63 #[.int .u8 5, .string (a0.extract 1 ((wrap64 (t127 + 1)) : Int).toNat), .int .i64 0, .int .i64 0] (0, 0) _ rfl (by (with_reducible repeat (first | refine blk_drewN ?_ _ | refine blk_drew ?_ | refine blk_alloc ?_ _)); refine blk_put (cs := #[.int .u8 5, .string (a0.extract 1 ((wrap64 (t127 + 1)) : Int).toNat), .int .i64 0, .int .i64 0]) ?_ 3 _ rfl; (with_reducible repeat (first | refine blk_drewN ?_ _ | refine blk_drew ?_ | refine blk_alloc ?_ _)); refine blk_put (cs := #[.int .u8 5, .string (a0.extract 1 ((wrap64 (t127 + 1)) : Int).toNat), .int .i64 0, .int .i64 0]) ?_ 2 _ rfl; (with_reducible repeat (first | refine blk_drewN ?_ _ | refine blk_drew ?_ | refine blk_alloc ?_ _)); refine blk_put (cs := #[.int .u8 5, .string (⟨#[]⟩ : ByteArray), .int .i64 0, .int .i64 0]) ?_ 1 _ rfl; (with_reducible repeat (first | refine blk_drewN ?_ _ | refine blk_drew ?_ | refine blk_alloc ?_ _)); refine blk_put (cs := #[.int .u8 0, .string (⟨#[]⟩ : ByteArray), .int .i64 0, .int .i64 0]) ?_ 0 _ rfl; (with_reducible repeat (first | refine blk_drewN ?_ _ | refine blk_drew ?_ | refine blk_alloc ?_ _)); exact BK125.out) Tryz.underlying63 rfl (by kernel_rfl)) rfl ?_
                                      exact ⟨by first | rfl | (simp [errW_none, errW_some] <;> rfl) | (simp [*, errW_none, errW_some] <;> rfl), by repeat (first | (with_reducible first | exact HB.out | apply below_alloc | apply pw_below_drewN | apply below_drew1 | refine below_set ?_ GE125.out) | exact HB.out)⟩
                                    · rw [if_neg c58] at H
                                      exact absurd H (by simp)
                                  · rw [if_neg c57] at H
                                    exact absurd H (by simp)
                    · rw [if_neg c29] at H
                      exact absurd H (by simp)
                  · rw [if_neg c28] at H
                    have c28b0 : ((bt a0 0) == 60) = false := beq_eq_false_iff_ne.mpr c28
                    have c28b1 : ((bt a0 0) != 60) = true := bne_iff_ne.mpr c28
                    replace H := Option.bind_eq_some_iff.mp H
                    obtain ⟨t131, A600, H⟩ := H
                    replace H : (if 0 ≤ t131 then (if t131 ≤ (a0.size : Int) then (some (1, a0.extract 0 (t131 : Int).toNat, 0, 0, t131)) else (none)) else (none)) = some (r1, r2, r3, r4, r5) := H
                    have A60 := Aside0.mk A600
                    clear A600
                    by_cases c61 : 0 ≤ t131
                    · rw [if_pos c61] at H
                      have c61b0 := eq_true c61
                      have c61b1 : decide (0 ≤ t131) = true := decide_eq_true c61
                      clear c61
                      by_cases c62 : t131 ≤ (a0.size : Int)
                      · rw [if_pos c62] at H
                        have c62b0 := eq_true c62
                        have c62b1 : decide (t131 ≤ (a0.size : Int)) = true := decide_eq_true c62
                        clear c62
                        simp only [Option.some.injEq, Prod.mk.injEq] at H
                        obtain ⟨rfl, rfl, rfl, rfl, rfl⟩ := H
                        go_wp2_with (first | ((with_reducible refine gate_callee (f := 111) rfl ?_); refine goesL_ (some 115) rfl rfl Tryz.func111 (by kernel_rfl) rfl #[.string a0] rfl (by (try simp only [List.map_toArray, List.map_cons, List.map_nil]); first | done | rfl | (simp only [List.length_drop, List.length_take]; rfl)) ?_; (with_reducible refine (redactorref06_word.calls kj12 a0 t131 _ A60.out).mono ?_); rintro e w' ⟨rfl, ⟨nd, rfl⟩⟩; refine ⟨_, rfl, ?_⟩; (try (rw [drewN_self wc]; generalize hq_ : World.drewN wc _ = wc; have n0_ : Aside0 (wc.heap[gb125]? = some (.cells #[.int .u8 0, .string (⟨#[]⟩ : ByteArray), .int .i64 0, .int .i64 0] 63 (0, 0))) := ⟨by rw [← hq_]; exact (by (with_reducible repeat (first | refine blk_drewN ?_ _ | refine blk_drew ?_ | refine blk_alloc ?_ _)); exact BK125.out)⟩; have n1_ : Aside0 (Below w.heap.size w wc) := ⟨by rw [← hq_]; exact (by repeat (first | (with_reducible first | exact HB.out | apply below_alloc | apply pw_below_drewN | apply below_drew1 | refine below_set ?_ GE125.out) | exact HB.out))⟩; clear BK125 HB hq_; have BK125 := n0_; have HB := n1_; clear n0_ n1_)); have hcz63_0 : wc.cell? ⟨gb125, 0, none⟩ = some (.int .u8 0) := (blk_cell BK125.out 0).trans rfl; have hcz63_1 : wc.cell? ⟨gb125, 1, none⟩ = some (.string (⟨#[]⟩ : ByteArray)) := (blk_cell BK125.out 1).trans rfl; have hcz63_2 : wc.cell? ⟨gb125, 2, none⟩ = some (.int .i64 0) := (blk_cell BK125.out 2).trans rfl; have hcz63_3 : wc.cell? ⟨gb125, 3, none⟩ = some (.int .i64 0) := (blk_cell BK125.out 3).trans rfl; have hfz63_0 := blk_frozen BK125.out 0; have hfz63_1 := blk_frozen BK125.out 1; have hfz63_2 := blk_frozen BK125.out 2; have hfz63_3 := blk_frozen BK125.out 3))
                        refine bodyPost_ret (results_ct rfl _ _ gb125 63 #[.int .u8 1, .string (a0.extract 0 (t131 : Int).toNat), .int .i64 0, .int .i64 0] (0, 0) _ rfl (by (with_reducible repeat (first | refine blk_drewN ?_ _ | refine blk_drew ?_ | refine blk_alloc ?_ _)); refine blk_put (cs := #[.int .u8 1, .string (a0.extract 0 (t131 : Int).toNat), .int .i64 0, .int .i64 0]) ?_ 3 _ rfl; (with_reducible repeat (first | refine blk_drewN ?_ _ | refine blk_drew ?_ | refine blk_alloc ?_ _)); refine blk_put (cs := #[.int .u8 1, .string (a0.extract 0 (t131 : Int).toNat), .int .i64 0, .int .i64 0]) ?_ 2 _ rfl; (with_reducible repeat (first | refine blk_drewN ?_ _ | refine blk_drew ?_ | refine blk_alloc ?_ _)); refine blk_put (cs := #[.int .u8 1, .string (⟨#[]⟩ : ByteArray), .int .i64 0, .int .i64 0]) ?_ 1 _ rfl; (with_reducible repeat (first | refine blk_drewN ?_ _ | refine blk_drew ?_ | refine blk_alloc ?_ _)); refine blk_put (cs := #[.int .u8 0, .string (⟨#[]⟩ : ByteArray), .int .i64 0, .int .i64 0]) ?_ 0 _ rfl; (with_reducible repeat (first | refine blk_drewN ?_ _ | refine blk_drew ?_ | refine blk_alloc ?_ _)); exact BK125.out) Tryz.underlying63 rfl (by kernel_rfl)) rfl ?_
                        exact ⟨by first | rfl | (simp [errW_none, errW_some] <;> rfl) | (simp [*, errW_none, errW_some] <;> rfl), by repeat (first | (with_reducible first | exact HB.out | apply below_alloc | apply pw_below_drewN | apply below_drew1 | refine below_set ?_ GE125.out) | exact HB.out)⟩
                      · rw [if_neg c62] at H
                        exact absurd H (by simp)
                    · rw [if_neg c61] at H
                      exact absurd H (by simp)
  · rw [if_neg c2] at H
    exact absurd H (by simp)

end Go.Proofs.YtipmmkelialgkaaGreatDoor.PLex
