/- internal/strconv.ParseUint at base 16 and 32 bits, of a short text. -/
import Derived.Test.YtipmmkelialgkaaDoorLexSpec
import Derived.Test.YtipmmkelialgkaaDoorShelf
import Derived.Lib.ConvBytes
import Derived.Test.YtipmmkelialgkaaDoorLexRest
import Derived.Lib.AtoiAllMem
import Derived.Lib.Hide
import Derived.Laws.Strings3
import Derived.Laws.Closers25
import Derived.Laws.Closers25b
set_option linter.unusedVariables false
set_option linter.unusedSimpArgs false
namespace Go.Proofs.YtipmmkelialgkaaDoor.Lex
open Go.RowKit Go.Lib Go.Proofs.YtipmmkelialgkaaDoorW.PrintWords Go.Proofs.YtipmmkelialgkaaDoorW.PrintLast Go.Proofs.YtipmmkelialgkaaDoorW.PrintMore Go.Proofs.YtipmmkelialgkaaDoor.PLex

/-- The bit 32 set, of every byte. -/
theorem low_tab : ((List.range 256).all fun n => decide (bits .or .u8 (n : Int) 32 = ((n ||| 32 : Nat) : Int))) = true := by decide +kernel
theorem low_tab2 : ((List.range 256).all fun n => decide ((48 ≤ n ∧ n ≤ 57) ∨ (97 ≤ n ∧ n ≤ 102 ∧ (n ||| 32) = n) ∨ (65 ≤ n ∧ n ≤ 70 ∧ (n ||| 32) = n + 32) ∨ (¬ (48 ≤ n ∧ n ≤ 57) ∧ ¬ (97 ≤ n ∧ n ≤ 102) ∧ ¬ (65 ≤ n ∧ n ≤ 70) ∧ ((n ||| 32) < 97 ∨ 103 ≤ (n ||| 32)) ∧ (n ||| 32) < 256))) = true := by decide +kernel
/-- A byte: a digit; a letter to 'f', small or great; something else. -/
theorem low_cases (c : UInt8) : (48 ≤ c.toNat ∧ c.toNat ≤ 57 ∧ hexD c = some (c.toNat - 48)) ∨
    (∃ L : Int, bits .or .u8 (c.toNat : Int) 32 = L ∧ 97 ≤ L ∧ L ≤ 102 ∧ 58 ≤ c.toNat ∧ c.toNat ≠ 95 ∧ hexD c = some (L - 87).toNat) ∨
    (∃ L : Int, bits .or .u8 (c.toNat : Int) 32 = L ∧ (L < 97 ∨ 103 ≤ L) ∧ 0 ≤ L ∧ L < 256 ∧ ¬ (48 ≤ c.toNat ∧ c.toNat ≤ 57) ∧ c.toNat ≠ 95 ∧ hexD c = none) ∨ (c.toNat = 95 ∧ hexD c = none) := by
  have hc := c.toNat_lt
  have h1 := List.all_eq_true.1 low_tab c.toNat (List.mem_range.2 hc)
  have h2 := List.all_eq_true.1 low_tab2 c.toNat (List.mem_range.2 hc)
  have h1 := of_decide_eq_true h1
  have h2 := of_decide_eq_true h2
  rw [h1]
  rcases h2 with h | ⟨h, k, e⟩ | ⟨h, k, e⟩ | ⟨h, k, m, e, x⟩
  · left
    exact ⟨h.1, h.2, by simp only [hexD]; rw [if_pos h]⟩
  · right; left
    refine ⟨_, rfl, by omega, by omega, by omega, by omega, ?_⟩
    simp only [hexD]
    rw [if_neg (by omega), if_pos ⟨h, k⟩]
    congr 1
    omega
  · right; left
    refine ⟨_, rfl, by omega, by omega, by omega, by omega, ?_⟩
    simp only [hexD]
    rw [if_neg (by omega), if_neg (by omega), if_pos ⟨h, k⟩]
    congr 1
    omega
  · right; right
    have hx : hexD c = none := by
      simp only [hexD]
      rw [if_neg h, if_neg k, if_neg m]
    by_cases h95 : c.toNat = 95
    · exact .inr ⟨h95, hx⟩
    · exact .inl ⟨_, rfl, by omega, by omega, by omega, h, h95, hx⟩

/-- What ParseUint tells of digits to the base 16. -/
def hexTuple : Option Nat → Value
  | some v => .tuple #[.int .u64 v, .nilIface]
  | none => .tuple #[.int .u64 0, .iface 125 (.int .i64 2)]

theorem pow16 (k n acc : Nat) (hk : k < n) (hn : n ≤ 6) (h : acc < 16 ^ k) : acc < 1048576 := by
  have h1 : 16 ^ k ≤ 16 ^ 5 := Nat.pow_le_pow_right (by decide) (by omega)
  omega
theorem pow16_step (k acc d : Nat) (h : acc < 16 ^ k) (hd : d < 16) : 16 * acc + d < 16 ^ (k + 1) := by
  rw [Nat.pow_succ]
  omega

set_option maxHeartbeats 4000000 in
set_option maxRecDepth 100000 in
theorem parse16_calls (t : ByteArray) (hne : t.size ≠ 0) (hmax : t.size ≤ 6) (w : World) :
    Calls Tryd.prog 80 #[.string t, .int .i64 16, .int .i64 32] w fun e w' => e = .returned (hexTuple (hexNum t.data.toList 0)) ∧ w' = bytesWorld w 5 t := by
  have hemp : t.toList.isEmpty = false := by
    rw [← decide_eq_emptyBytes]
    exact decide_eq_false (fun h => hne (by rw [h]; rfl))
  have hcv := Lib.run_convert_string_bytes (P := Tryd.prog) w 9 35 5 t (u := .string) Tryd.underlying9 Tryd.underlying35 Tryd.underlying5
  have hB : ∀ j, j < t.size → (Lib.bytesWorld w 5 t).cell? ⟨w.heap.size, j, none⟩ = some (.int .u8 (t.data.toList.getD j 0).toNat) := fun j hj => Lib.bytesWorld_cell w 5 t j hj
  obtain ⟨W1, hW1⟩ : ∃ W1, W1 = Lib.bytesWorld w 5 t := ⟨_, rfl⟩
  rw [← hW1] at hcv hB ⊢
  clear hW1
  obtain ⟨l, hL⟩ : ∃ l, l = t.data.toList := ⟨_, rfl⟩
  have hLn : l.length = t.size := by rw [hL, Lib.size_eq]
  rw [← hL] at hB ⊢
  clear hL
  have hmv : IntKind.u64.wrap (IntKind.u64.wrap 4294967296 - 1) = 4294967295 := by
    rw [IntKind.wrap_u64, IntKind.wrap_u64]
    decide
  go_enter Tryd.func80, Tryd.ntmps80
  go_wp2
  go_loop [12, 13, 101] (fun vu vn vi => ∃ (k acc : Nat) (a : Int), vu = .bool false ∧ vn = .int .u64 a ∧ vi = .int .i64 k ∧ k ≤ t.size ∧ Hid (a = (acc : Int) ∧ acc < 16 ^ k ∧ hexNum l 0 = hexNum (l.drop k) acc))
    (fun _ _ vi => t.size - (intOf vi).toNat)
  case atStart => exact ⟨0, 0, 0, rfl, rfl, rfl, by omega, rfl, by decide, rfl⟩
  case round =>
    obtain ⟨k, acc, a, rfl, rfl, rfl, hk, hh⟩ := hrel
    obtain ⟨ha, hacc, hdec⟩ := hh.out
    clear hh
    have a0 : 0 ≤ a := by omega
    by_cases hkn : k < t.size
    · have hc := hB k hkn
      have hdrop : l.drop k = l[k]'(by omega) :: l.drop (k + 1) := List.drop_eq_getElem_cons (by omega)
      have hget : l.getD k 0 = l[k]'(by omega) := by simp [List.getD, List.getElem?_eq_getElem (show k < l.length by omega)]
      rw [hdrop] at hdec
      rw [hget] at hc
      generalize l[k]'(by omega) = c at hc hdec
      have hc256 : c.toNat < 256 := c.toNat_lt
      have hcap := pow16 k t.size acc hkn hmax hacc
      have a1 : a < 1048576 := by omega
      clear hB hdrop hget hcap
      rcases low_cases c with ⟨d0, d1, hx⟩ | ⟨L, hL, l0, l1, x0, x1, hx⟩ | ⟨L, hL, l0, l1, l2, x0, x1, hx⟩ | ⟨x1, hx⟩
      · have hst : Hid (a * 16 + ((c.toNat : Int) - 48) = ((16 * acc + (c.toNat - 48) : Nat) : Int) ∧ 16 * acc + (c.toNat - 48) < 16 ^ (k + 1) ∧ hexNum l 0 = hexNum (l.drop (k + 1)) (16 * acc + (c.toNat - 48))) := Lib.hid ⟨by omega, pow16_step k acc _ hacc (by omega), by rw [hdec, hexNum, hx]; rfl⟩
        have iov : a * 16 + ((c.toNat : Int) - 48) < 4294967296 := by omega
        clear hacc hdec ha hx
        go_wp2
        exact ⟨⟨k + 1, 16 * acc + (c.toNat - 48), a * 16 + ((c.toNat : Int) - 48), rfl, rfl, rfl, by omega, hst⟩, by simp [intOf]; omega⟩
      · have hst : Hid (a * 16 + (L - 97 + 10) = ((16 * acc + (L - 87).toNat : Nat) : Int) ∧ 16 * acc + (L - 87).toNat < 16 ^ (k + 1) ∧ hexNum l 0 = hexNum (l.drop (k + 1)) (16 * acc + (L - 87).toNat)) := Lib.hid ⟨by omega, pow16_step k acc _ hacc (by omega), by rw [hdec, hexNum, hx]; rfl⟩
        have iov : a * 16 + (L - 97 + 10) < 4294967296 := by omega
        have HL := Aside0.mk hL
        have x1' : ¬ ((c.toNat : Int) = 95) := by omega
        have x0' : ¬ ((c.toNat : Int) ≤ 57) := by omega
        clear hacc hdec ha hx hL
        go_wp2_with (go_at_call 87; refine (Tryd.internal_strconv_lower _ _).mono ?_; rintro e w' ⟨rfl, rfl⟩; rw [HL.out])
        all_goals exact ⟨⟨k + 1, 16 * acc + (L - 87).toNat, a * 16 + (L - 97 + 10), rfl, rfl, rfl, by omega, hst⟩, by simp [intOf]; omega⟩
      · have hdec2 : hexNum l 0 = none := by rw [hdec, hexNum, hx]; rfl
        have HL := Aside0.mk hL
        have HD := Aside0.mk hdec2
        have x1' : ¬ ((c.toNat : Int) = 95) := by omega
        clear hacc hdec hdec2 ha hx hL
        rcases l0 with l0 | l0
        · go_wp2_with (go_at_call 87; refine (Tryd.internal_strconv_lower _ _).mono ?_; rintro e w' ⟨rfl, rfl⟩; rw [HL.out])
          all_goals go_ret2
          all_goals exact ⟨by rw [HD.out]; rfl, rfl⟩
        · by_cases l3 : L ≤ 122
          · go_wp2_with (go_at_call 87; refine (Tryd.internal_strconv_lower _ _).mono ?_; rintro e w' ⟨rfl, rfl⟩; rw [HL.out])
            all_goals go_ret2
            all_goals exact ⟨by rw [HD.out]; rfl, rfl⟩
          · go_wp2_with (go_at_call 87; refine (Tryd.internal_strconv_lower _ _).mono ?_; rintro e w' ⟨rfl, rfl⟩; rw [HL.out])
            all_goals go_ret2
            all_goals exact ⟨by rw [HD.out]; rfl, rfl⟩
      · have hdec2 : hexNum l 0 = none := by rw [hdec, hexNum, hx]; rfl
        have HL : Aside0 (bits .or .u8 95 32 = 127) := ⟨by decide +kernel⟩
        have HD := Aside0.mk hdec2
        rw [x1] at hc
        clear hacc hdec hdec2 ha hx x1
        go_wp2_with (go_at_call 87; refine (Tryd.internal_strconv_lower _ _).mono ?_; rintro e w' ⟨rfl, rfl⟩; rw [HL.out])
        all_goals go_ret2
        all_goals exact ⟨by rw [HD.out]; rfl, rfl⟩
    · have hkk : k = t.size := by omega
      subst hkk
      have hdec2 : hexNum l 0 = some acc := by rw [hdec, List.drop_eq_nil_of_le (by omega)]; rfl
      have HD := Aside0.mk hdec2
      have HA := Aside0.mk ha
      clear hacc a0 ha hdec hdec2
      go_wp2
      go_ret2
      exact ⟨by rw [HD.out, HA.out]; rfl, rfl⟩
end Go.Proofs.YtipmmkelialgkaaDoor.Lex
