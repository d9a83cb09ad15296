/- WRITTEN FOR THIS CLAIM by wip/tools/told.py (the kit's printer, with some functions told by hand). · Plain words of the lexer: signs of a word, how many begin a text, as the decoder of runes tells it. No program stands here. · WRITTEN FOR THIS CLAIM by wip/tools/told.py (the kit's printer, with some functions told by hand). -/
import Derived.Test.YtipmmkelialgkaaGreatDoorGLlg1
import Derived.Lib.TrimU
import Derived.Shelf.GgClosure.StringsIndexFunc
import Derived.Test.YtipmmkelialgkaaGreatDoorProg
import Derived.Below
import Derived.Deep.Draws
import Derived.Deep.AppendLies
import Derived.Maps.AppendAt
import Derived.OwnWalk
import Derived.Laws.BytesArg
import Derived.Laws.MakeOwn
import Derived.Laws.OwnMore
import Derived.Deep.OwnRows
import Derived.Tactics
import Derived.Lib.ConvBytes
import Derived.Laws.Slices
import Derived.WalkKit
import Derived.KernelRfl
import Derived.RowKit3
import Derived.Deep.LoopGhost
import Derived.Deep.QuietTactic
import Derived.BigQuiet
import Derived.WideLaws
import Derived.Deep.DeepCutAuto
import Derived.Deep.CutBlock
import Derived.Deep.RegionHeld3
import Derived.Laws.Rows
import Derived.Lib.AppendStr
import Derived.ArgAppend
import Derived.Laws.IdiomCopy
import Derived.OrdersHeld
import Derived.Laws.BitsLemmas
import Derived.RowKit
import Derived.Test.YtipmmkelialgkaaGreatDoorWWords
import Derived.Test.YtipmmkelialgkaaGreatDoorWLast
import Derived.Test.YtipmmkelialgkaaGreatDoorWTab
import Derived.Test.YtipmmkelialgkaaGreatDoorWFour
import Derived.Test.YtipmmkelialgkaaGreatDoorWQPut
import Derived.Test.YtipmmkelialgkaaGreatDoorWApart
import Derived.Test.YtipmmkelialgkaaGreatDoorWArr
import Derived.Test.YtipmmkelialgkaaGreatDoorWZeros
import Derived.Test.YtipmmkelialgkaaGreatDoorWFoot
import Derived.Test.YtipmmkelialgkaaGreatDoorWKept
import Derived.Test.YtipmmkelialgkaaGreatDoorWShare
import Derived.Test.YtipmmkelialgkaaGreatDoorWN
import Derived.Test.YtipmmkelialgkaaGreatDoorWFootNe
import Derived.Test.YtipmmkelialgkaaGreatDoorWAt
import Derived.Test.YtipmmkelialgkaaGreatDoorWEqStruct
import Derived.Test.YtipmmkelialgkaaGreatDoorWRepsOne
import Derived.Test.YtipmmkelialgkaaGreatDoorWInv
import Derived.Test.YtipmmkelialgkaaGreatDoorWInvWords
import Derived.Test.YtipmmkelialgkaaGreatDoorWGuard
import Derived.Test.YtipmmkelialgkaaGreatDoorWNEv
import Derived.Test.YtipmmkelialgkaaGreatDoorWMore
namespace Go.Proofs.YtipmmkelialgkaaGreatDoor.PLoc
open Go.RowKit Go.Proofs.YtipmmkelialgkaaGreatDoorW.PrintWords Go.Proofs.YtipmmkelialgkaaGreatDoorW.PrintLast Go.Proofs.YtipmmkelialgkaaGreatDoorW.PrintMore
attribute [local go_sem] max2_int min2_int max_two min_two max_three min_three max_four min_four   -- for this text's walks alone
set_option linter.unusedVariables false
set_option linter.unusedSimpArgs false

/-! ### redactorlaw07_four: function 14 -/
def redactorlaw07_four.l0 : Nat → Int → ByteArray → Int → Option (ByteArray)
  | 0, _, _, _ => none
  | k + 1, x0, x3, x4 => if x4 < 4 then (if 0 ≤ (Int.tmod x0 16) then (if (Int.tmod x0 16) ≤ (wrap64 ((Int.tmod x0 16) + 1)) then (if (wrap64 ((Int.tmod x0 16) + 1)) ≤ 16 then (if ((⟨#[48, 49, 50, 51, 52, 53, 54, 55, 56, 57, 65, 66, 67, 68, 69, 70]⟩ : ByteArray).extract ((Int.tmod x0 16) : Int).toNat ((wrap64 ((Int.tmod x0 16) + 1)) : Int).toNat).size + x3.size ≤ 9223372036854775807 then (redactorlaw07_four.l0 k (wrap64 (Int.tdiv x0 16)) (((⟨#[48, 49, 50, 51, 52, 53, 54, 55, 56, 57, 65, 66, 67, 68, 69, 70]⟩ : ByteArray).extract ((Int.tmod x0 16) : Int).toNat ((wrap64 ((Int.tmod x0 16) + 1)) : Int).toNat) ++ x3) (wrap64 (x4 + 1))) else (none)) else (none)) else (none)) else (none)) else (some x3)
def redactorlaw07_four.f (k : Nat) (a0 : Int) : Option (ByteArray) := redactorlaw07_four.l0 k a0 (⟨#[]⟩ : ByteArray) 0
theorem redactorlaw07_four.mono_l : ∀ k, (∀ y0 y1 y2, LeO (redactorlaw07_four.l0 k y0 y1 y2) (redactorlaw07_four.l0 (k + 1) y0 y1 y2))
  | 0 => fun _ _ _ r h => by simp [redactorlaw07_four.l0] at h
  | k + 1 => by
    have ih0 := redactorlaw07_four.mono_l k
    · intro y0 y1 y2
      unfold redactorlaw07_four.l0
      repeat' first
      | (with_reducible exact ih0 _ _ _)
      | (with_reducible exact LeO.refl _)
      | (with_reducible exact LeO.none _)
      | (with_reducible refine LeO.ite ?_ ?_)
      | (with_reducible refine LeO.bind ?_ (fun _ => ?_))
      | exact ih0 _ _ _
      | exact LeO.none _
      | refine LeO.ite ?_ ?_
      | refine LeO.bind ?_ (fun _ => ?_)
theorem redactorlaw07_four.mono : ∀ a0 k, LeO (redactorlaw07_four.f k a0) (redactorlaw07_four.f (k + 1) a0) := by
  intro a0 k
  have ih0 := redactorlaw07_four.mono_l k
  unfold redactorlaw07_four.f
  repeat' first
      | (with_reducible exact ih0 _ _ _)
      | (with_reducible exact LeO.refl _)
      | (with_reducible exact LeO.none _)
      | (with_reducible refine LeO.ite ?_ ?_)
      | (with_reducible refine LeO.bind ?_ (fun _ => ?_))
      | exact ih0 _ _ _
      | exact LeO.none _
      | refine LeO.ite ?_ ?_
      | refine LeO.bind ?_ (fun _ => ?_)
set_option maxHeartbeats 8000000 in
set_option maxRecDepth 100000 in
theorem redactorlaw07_four.calls (k : Nat) (a0 : Int) (r : ByteArray) (w : World) (h : redactorlaw07_four.f k a0 = some r) :
    Calls Tryz.prog 14 #[.int .i64 a0] w fun e w' => e = .returned (.string r) ∧ Drawn0 w w' := by
  have H : (redactorlaw07_four.l0 k a0 (⟨#[]⟩ : ByteArray) 0) = some r := h
  clear h
  have H' := Aside0.mk H
  clear H
  go_enter Tryz.func14, Tryz.ntmps14
  go_wp2
  go_loopg [0, 3, 4] k (fun kq v0 v3 v4 w' => ∃ (x0_1 : Int) (x3_1 : ByteArray) (x4_1 : Int), v0 = .int .i64 x0_1 ∧ v3 = .string x3_1 ∧ v4 = .int .i64 x4_1 ∧ Aside0 (redactorlaw07_four.l0 kq x0_1 x3_1 x4_1 = some r) ∧ Aside0 (kq ≤ k) ∧ Drawn0 w w')
  case atStart => exact ⟨(a0), ((⟨#[]⟩ : ByteArray)), (0), (by first | rfl | (simp; done) | (simp [*]; done)), (by first | rfl | (simp; done) | (simp [*]; done)), (by first | rfl | (simp; done) | (simp [*]; done)), H', ⟨Nat.le_refl _⟩, by repeat (first | exact Drawn0.refl _ | apply Drawn0.step)⟩
  case round =>
    clear H'
    try clear c1
    obtain ⟨x0_1, x3_1, x4_1, rfl, rfl, rfl, HA, HK1, ⟨m1, rfl⟩⟩ := hrel
    cases gk with
    | zero => exact absurd HA.out (by simp [redactorlaw07_four.l0])
    | succ k1 =>
      have H := HA.out
      clear HA
      simp only [redactorlaw07_four.l0] at H
      by_cases c2 : x4_1 < 4
      · rw [if_pos c2] at H
        have c2b0 : decide (x4_1 < 4) = true := decide_eq_true c2
        clear c2
        obtain ⟨ji3, hji3⟩ : ∃ j_ : Int, (Int.tmod x0_1 16) = j_ := ⟨_, rfl⟩
        replace H : (if 0 ≤ (ji3) then (if (ji3) ≤ (wrap64 ((ji3) + 1)) then (if (wrap64 ((ji3) + 1)) ≤ 16 then (if ((⟨#[48, 49, 50, 51, 52, 53, 54, 55, 56, 57, 65, 66, 67, 68, 69, 70]⟩ : ByteArray).extract ((ji3) : Int).toNat ((wrap64 ((ji3) + 1)) : Int).toNat).size + x3_1.size ≤ 9223372036854775807 then (redactorlaw07_four.l0 k1 (wrap64 (Int.tdiv x0_1 16)) (((⟨#[48, 49, 50, 51, 52, 53, 54, 55, 56, 57, 65, 66, 67, 68, 69, 70]⟩ : ByteArray).extract ((ji3) : Int).toNat ((wrap64 ((ji3) + 1)) : Int).toNat) ++ x3_1) (wrap64 (x4_1 + 1))) else (none)) else (none)) else (none)) else (none)) = some r := by first | (rw [hji3] at H; exact H) | (simp only [hji3] at H ⊢; exact H)
        by_cases c4 : 0 ≤ (ji3)
        · rw [if_pos c4] at H
          have c4b0 := eq_true c4
          have c4b1 : decide (0 ≤ (ji3)) = true := decide_eq_true c4
          clear c4
          by_cases c5 : (ji3) ≤ (wrap64 ((ji3) + 1))
          · rw [if_pos c5] at H
            have c5b0 := eq_true c5
            have c5b1 : decide ((ji3) ≤ (wrap64 ((ji3) + 1))) = true := decide_eq_true c5
            by_cases c6 : (wrap64 ((ji3) + 1)) ≤ 16
            · rw [if_pos c6] at H
              have c6b0 := eq_true c6
              have c6b1 : decide ((wrap64 ((ji3) + 1)) ≤ 16) = true := decide_eq_true c6
              by_cases c7 : ((⟨#[48, 49, 50, 51, 52, 53, 54, 55, 56, 57, 65, 66, 67, 68, 69, 70]⟩ : ByteArray).extract ((ji3) : Int).toNat ((wrap64 ((ji3) + 1)) : Int).toNat).size + x3_1.size ≤ 9223372036854775807
              · rw [if_pos c7] at H
                have c7b0 := eq_true c7
                have c7b1 : decide (((⟨#[48, 49, 50, 51, 52, 53, 54, 55, 56, 57, 65, 66, 67, 68, 69, 70]⟩ : ByteArray).extract ((ji3) : Int).toNat ((wrap64 ((ji3) + 1)) : Int).toNat).size + x3_1.size ≤ 9223372036854775807) = true := decide_eq_true c7
                try have c7b2 : (9223372036854775807 < ((⟨#[48, 49, 50, 51, 52, 53, 54, 55, 56, 57, 65, 66, 67, 68, 69, 70]⟩ : ByteArray).extract ((ji3) : Int).toNat ((wrap64 ((ji3) + 1)) : Int).toNat).size + x3_1.size) = False := eq_false (Nat.not_lt.2 c7)
                have H' := Aside0.mk H
                clear H
                go_wp2
                go_roundg k1
                case measure => have := HK1.out; omega
                case rel => exact ⟨(wrap64 (Int.tdiv x0_1 16)), (((⟨#[48, 49, 50, 51, 52, 53, 54, 55, 56, 57, 65, 66, 67, 68, 69, 70]⟩ : ByteArray).extract ((ji3) : Int).toNat ((wrap64 ((ji3) + 1)) : Int).toNat) ++ x3_1), (wrap64 (x4_1 + 1)), (by first | rfl | (simp; done) | (simp [*]; done)), (by first | rfl | (simp; done) | (simp only [← hji3] <;> (first | rfl | simp)) | (simp [*]; done)), (by first | rfl | (simp; done) | (simp [*]; done)), H', ⟨by have := HK1.out; omega⟩, by repeat (first | exact Drawn0.refl _ | apply Drawn0.step)⟩
              · rw [if_neg c7] at H
                exact absurd H (by simp)
            · rw [if_neg c6] at H
              exact absurd H (by simp)
          · rw [if_neg c5] at H
            exact absurd H (by simp)
        · rw [if_neg c4] at H
          exact absurd H (by simp)
      · rw [if_neg c2] at H
        have c2b0 : decide (x4_1 < 4) = false := decide_eq_false c2
        clear c2
        obtain rfl := Option.some.inj H
        go_wp2
        go_ret
        exact ⟨by first | rfl | (simp; done) | (simp [*]; done), by repeat (first | exact Drawn0.refl _ | apply Drawn0.step)⟩
end Go.Proofs.YtipmmkelialgkaaGreatDoor.PLoc
set_option linter.unusedVariables false
set_option linter.unusedSimpArgs false
namespace Go.Proofs.YtipmmkelialgkaaGreatDoor.Lex
open Go.Lib

/-- A sign of a word. -/
def wordN (x : Nat) : Bool := (97 ≤ x && x ≤ 122) || (65 ≤ x && x ≤ 90) || (48 ≤ x && x ≤ 57) || x == 45 || x == 95
theorem wordN_big {x : Nat} (h : 123 ≤ x) : wordN x = false := by simp [wordN]; omega

/-- How many bytes of a word begin a text. -/
def wlen : List UInt8 → Nat
  | [] => 0
  | c :: r => if wordN c.toNat then wlen r + 1 else 0
theorem wlen_le : ∀ l : List UInt8, wlen l ≤ l.length
  | [] => Nat.le_refl _
  | c :: r => by
    have := wlen_le r
    simp only [wlen, List.length_cons]
    split <;> omega
theorem wlen_take : ∀ (l : List UInt8) (j : Nat) (c : UInt8), j < wlen l → l[j]? = some c → wordN c.toNat = true
  | [], j, c, h, _ => by simp [wlen] at h
  | d :: r, j, c, h, hj => by
    simp only [wlen] at h
    split at h
    · rename_i hd
      match j with
      | 0 =>
        have e : d = c := by simpa using hj
        rw [← e]; exact hd
      | j + 1 => exact wlen_take r j c (by omega) (by simpa using hj)
    · omega
theorem wlen_stop : ∀ (l : List UInt8) (c : UInt8), l[wlen l]? = some c → wordN c.toNat = false
  | [], c, h => by simp at h
  | d :: r, c, h => by
    simp only [wlen] at h
    split at h
    · exact wlen_stop r c (by simpa using h)
    · rename_i hd
      have e : d = c := by simpa using h
      rw [← e]; simpa using hd

theorem decodeN_big (n b0 b1 b2 b3 : Nat) (h : 128 ≤ b0) : 128 ≤ (decodeN n b0 b1 b2 b3).1 := by
  unfold decodeN
  rw [if_neg (by omega)]
  repeat' split
  all_goals (simp only; omega)
theorem get_getD (s : ByteArray) (p : Nat) (h : p < s.size) : s.get! p = s.data.toList.getD p 0 := by
  have hl : p < s.data.toList.length := by simpa using h
  have hs : p < s.data.size := h
  have e1 : s.data.toList.getD p 0 = s.data[p] := by
    rw [List.getD_eq_getElem?_getD, List.getElem?_eq_getElem hl]
    simp
  rw [e1]
  show s.data[p]! = _
  exact getElem!_pos s.data p hs

theorem idx_word (s : ByteArray) : ∀ (f p : Nat), p ≤ s.size → s.size ≤ p + f →
    idxFuncFrom (fun x => !wordN x) true s f p = if p + wlen (s.data.toList.drop p) < s.size then ((p + wlen (s.data.toList.drop p) : Nat) : Int) else -1
  | 0, p, h0, h1 => by
    have : p = s.size := by omega
    subst this
    rw [if_neg (by omega)]
    rfl
  | f + 1, p, h0, h1 => by
    unfold idxFuncFrom
    by_cases hp : p < s.size
    · rw [if_pos hp]
      have hl : p < s.data.toList.length := by simpa using hp
      have hd : s.data.toList.drop p = s.data.toList.getD p 0 :: s.data.toList.drop (p + 1) := by
        rw [List.drop_eq_getElem_cons hl]
        simp [List.getD_eq_getElem?_getD, List.getElem?_eq_getElem hl]
      have hg := get_getD s p hp
      have ih := idx_word s f (p + 1) (by omega) (by omega)
      rw [decode_at]
      rw [Nat.add_zero, hg]
      generalize s.data.toList.getD p 0 = c at *
      rw [hd]
      by_cases hc : c.toNat < 128
      · have e : ∀ n b1 b2 b3, decodeN n c.toNat b1 b2 b3 = (c.toNat, 1) := fun n b1 b2 b3 => by simp [decodeN, hc]
        rw [e]
        by_cases hw : wordN c.toNat = true
        · simp only [hw, Bool.not_true, Bool.false_eq_true, if_false, wlen, if_true]
          rw [ih]
          simp only [show p + 1 + wlen (s.data.toList.drop (p + 1)) = p + (wlen (s.data.toList.drop (p + 1)) + 1) from by omega]
        · simp only [hw, Bool.not_false, if_true, wlen, Bool.false_eq_true, if_false, Nat.add_zero]
          rw [if_pos hp]
      · have hb := decodeN_big (s.size - p) c.toNat (s.get! (p + 1)).toNat (s.get! (p + 2)).toNat (s.get! (p + 3)).toNat (by omega)
        have h1 : wordN c.toNat = false := wordN_big (by omega)
        have h2 := wordN_big (x := (decodeN (s.size - p) c.toNat (s.get! (p + 1)).toNat (s.get! (p + 2)).toNat (s.get! (p + 3)).toNat).1) (by omega)
        simp only [h2, Bool.not_false, if_true, wlen, h1, Bool.false_eq_true, if_false, Nat.add_zero]
        rw [if_pos hp]
    · have : p = s.size := by omega
      subst this
      rw [if_neg hp, if_neg (by omega)]
theorem idxFunc_word (s : ByteArray) : idxFunc (fun x => !wordN x) true s = if wlen s.data.toList < s.size then (wlen s.data.toList : Int) else -1 := by
  have h := idx_word s s.size 0 (by omega) (by omega)
  simpa [idxFunc] using h
end Go.Proofs.YtipmmkelialgkaaGreatDoor.Lex
namespace Go.Proofs.YtipmmkelialgkaaGreatDoor.PLex
open Go.RowKit Go.Proofs.YtipmmkelialgkaaGreatDoorW.PrintWords Go.Proofs.YtipmmkelialgkaaGreatDoorW.PrintLast Go.Proofs.YtipmmkelialgkaaGreatDoorW.PrintMore
attribute [local go_sem] max2_int min2_int max_two min_two max_three min_three max_four min_four   -- for this text's walks alone
set_option linter.unusedVariables false
set_option linter.unusedSimpArgs false



def errW : Option Int → Value
  | none => .nilIface
  | some c => .iface 0 (.int .i64 c)
theorem errW_none : errW none = .nilIface := rfl
theorem errW_some (c : Int) : errW (some c) = .iface 0 (.int .i64 c) := rfl

theorem info5 : (Tryz.prog.info? 5).map (fun i => (i.zero, i.size, i.bytes)) = some (some (.int .u8 0), 1, 1) := by kernel_rfl
theorem info9 : (Tryz.prog.info? 9).map (fun i => (i.zero, i.size, i.bytes)) = some (some (.string ⟨#[]⟩), 1, 16) := by kernel_rfl
theorem info63 : (Tryz.prog.info? 63).map (fun i => (i.zero, i.size, i.bytes)) = some (some (.agg #[(.int .u8 0), (.string ⟨#[]⟩), (.int .i64 0), (.int .i64 0)]), 4, 40) := by kernel_rfl
-- the values' own types
/-! #### struct type 63 -/
structure S63 where
  f0 : Int
  f1 : ByteArray
  f2 : Int
  f3 : Int
def z63 : S63 := ⟨(0 : Int), (⟨#[]⟩ : ByteArray), (0 : Int), (0 : Int)⟩
def k63 : Kd S63 := Kd.iso (Kd.pair (Kd.int .u8) (Kd.pair Kd.string (Kd.pair (Kd.int .i64) (Kd.int .i64)))) (fun x : S63 => (x.f0, x.f1, x.f2, x.f3))
theorem k63_open {w : World} {x : S63} {cs : List Value} (h : k63.K w x cs) : cs = [.int .u8 x.f0, .string x.f1, .int .i64 x.f2, .int .i64 x.f3] := by
  obtain ⟨_, _, rfl, rfl, ⟨_, _, rfl, rfl, ⟨_, _, rfl, rfl, rfl⟩⟩⟩ := h
  exact rfl
theorem k63_openM {w : World} {base : Nat} {ok : Nat → Prop} {x : S63} {cs : List Value} (h : k63.M w base ok x cs) : cs = [.int .u8 x.f0, .string x.f1, .int .i64 x.f2, .int .i64 x.f3] := by
  obtain ⟨_, _, rfl, rfl, ⟨_, _, rfl, rfl, ⟨_, _, rfl, rfl, rfl⟩⟩⟩ := h
  exact rfl
theorem k63_mk (w : World) (x : S63)  : k63.K w x [.int .u8 x.f0, .string x.f1, .int .i64 x.f2, .int .i64 x.f3] := ⟨[.int .u8 x.f0], [.string x.f1, .int .i64 x.f2, .int .i64 x.f3], rfl, rfl, ⟨[.string x.f1], [.int .i64 x.f2, .int .i64 x.f3], rfl, rfl, ⟨[.int .i64 x.f2], [.int .i64 x.f3], rfl, rfl, rfl⟩⟩⟩
theorem k63_mkM (w : World) (base : Nat) (ok : Nat → Prop) (x : S63)  : k63.M w base ok x [.int .u8 x.f0, .string x.f1, .int .i64 x.f2, .int .i64 x.f3] := ⟨[.int .u8 x.f0], [.string x.f1, .int .i64 x.f2, .int .i64 x.f3], rfl, rfl, ⟨[.string x.f1], [.int .i64 x.f2, .int .i64 x.f3], rfl, rfl, ⟨[.int .i64 x.f2], [.int .i64 x.f3], rfl, rfl, rfl⟩⟩⟩
def rd_T63 (xs : List S63) (i : Int) : S63 := xs.getD i.toNat z63
theorem at_T63 {w : World} {A : Option Addr} {n : Nat} {xs : List S63} (h : Kd.C k63 w A n xs) (i : Int) (h0 : 0 ≤ i) (h1 : i < n) : ∃ ad , A = some ad ∧ w.cell? (ad.add (i.toNat * 4)) = some (.int .u8 (rd_T63 xs i).f0) ∧ w.cell? ⟨(ad.add (i.toNat * 4)).block, (ad.add (i.toNat * 4)).off + 1, none⟩ = some (.string (rd_T63 xs i).f1) ∧ w.cell? ⟨(ad.add (i.toNat * 4)).block, (ad.add (i.toNat * 4)).off + 2, none⟩ = some (.int .i64 (rd_T63 xs i).f2) ∧ w.cell? ⟨(ad.add (i.toNat * 4)).block, (ad.add (i.toNat * 4)).off + 3, none⟩ = some (.int .i64 (rd_T63 xs i).f3) := by
  obtain ⟨ad, c, e, _, hK, hc0⟩ := Kd.C_get h z63 i h0 h1
  have hc : ∀ j u, c[j]? = some u → w.cell? (ad.add (i.toNat * 4 + j)) = some u := hc0
  obtain rfl := k63_open hK
  exact ⟨ad, e, hc 0 _ rfl, by rw [← add_field _ _ 1 (by omega)]; exact hc 1 _ rfl, by rw [← add_field _ _ 2 (by omega)]; exact hc 2 _ rfl, by rw [← add_field _ _ 3 (by omega)]; exact hc 3 _ rfl⟩

def rd_L4 (xs : List (List S63)) (i : Int) : (List S63) := xs.getD i.toNat ([] : List S63)
theorem at_L4 {w : World} {A : Option Addr} {n : Nat} {xs : List (List S63)} (h : Kd.C (Kd.slice 63 k63) w A n xs) (i : Int) (h0 : 0 ≤ i) (h1 : i < n) : ∃ ad A0 c0, A = some ad ∧ w.cell? (ad.add i.toNat) = some (.slice A0 (rd_L4 xs i).length c0) ∧ (rd_L4 xs i).length ≤ c0 ∧ k63.C w A0 (rd_L4 xs i).length (rd_L4 xs i) := by
  obtain ⟨ad, c, e, _, hK, hc0⟩ := Kd.C_get h ([] : List S63) i h0 h1
  have hc : ∀ j u, c[j]? = some u → w.cell? (ad.add (i.toNat * 1 + j)) = some u := hc0
  obtain ⟨A0, c0, rfl, l0, g0⟩ := hK
  exact ⟨ad, A0, c0, e, by have hq := hc 0 _ rfl; rwa [Nat.mul_one, Nat.add_zero] at hq, l0, g0⟩

end Go.Proofs.YtipmmkelialgkaaGreatDoor.PLex
