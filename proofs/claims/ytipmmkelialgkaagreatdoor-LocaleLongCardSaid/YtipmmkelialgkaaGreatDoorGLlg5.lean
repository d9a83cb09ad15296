/- What is not read yet; whether nothing is to be ended; the signs of a word: the lexer's small functions. · internal/strconv.ParseUint at base 16 and 32 bits, of a short text. · strconv.ParseUint at base 16, and lex.scalar. -/
import Derived.Test.YtipmmkelialgkaaGreatDoorGLlg3
import Derived.Deep.QuietTactic
import Derived.BigQuiet
import Derived.Test.YtipmmkelialgkaaGreatDoorGLlg4
import Derived.Lib.ConvBytes
import Derived.Lib.AtoiAllMem
import Derived.Lib.Hide
import Derived.Laws.Strings3
import Derived.Laws.Closers25
import Derived.Laws.Closers25b
set_option linter.unusedVariables false
set_option linter.unusedSimpArgs false
namespace Go.Proofs.YtipmmkelialgkaaGreatDoor.Lex
open Go.RowKit Go.Proofs.YtipmmkelialgkaaGreatDoorW.PrintWords Go.Proofs.YtipmmkelialgkaaGreatDoorW.PrintLast Go.Proofs.YtipmmkelialgkaaGreatDoorW.PrintMore Go.Proofs.YtipmmkelialgkaaGreatDoor.PLex

set_option maxRecDepth 100000 in
theorem rest_calls {B g : Nat} {s : ByteArray} {q : Nat} {l : List Tok} (w : World) (hR : Rd B g s q l w) (hp : q ≤ s.size) :
    Calls Tryz.prog 98 #[.pointer (some ⟨g, 0, none⟩)] w fun e w' =>
      e = .returned (.string (bs (s.data.toList.drop q))) ∧ ∃ n, w' = w.drewN n := by
  rw [← extract_end]
  obtain ⟨c0, c1, _⟩ := hR.cells
  clear hR
  go_enter Tryz.func98, Tryz.ntmps98
  go_wp2
  go_quiet (fail)
  go_wp2
  go_ret
  exact ⟨rfl, _, rfl⟩

set_option maxRecDepth 100000 in
theorem ended_nil {B g : Nat} {s : ByteArray} {p : Int} (w : World) (hR : Rd B g s p [] w) :
    Calls Tryz.prog 58 #[.pointer (some ⟨g, 0, none⟩)] w fun e w' => e = .returned (.bool true) ∧ ∃ n, w' = w.drewN n := by
  obtain ⟨c0, c1, _, _, _, A, c, _, c2, _⟩ := hR.cells
  simp only [List.length_nil] at c2
  clear hR c0 c1
  go_enter Tryz.func58, Tryz.ntmps58
  go_wp2
  go_quiet (fail)
  go_wp2
  go_ret
  exact ⟨rfl, _, rfl⟩

set_option maxRecDepth 100000 in
theorem ended_snoc {B g : Nat} {s : ByteArray} {p : Int} {l : List Tok} (t : Tok) (w : World) (hR : Rd B g s p (l ++ [t]) w) (hl : l.length ≤ 1000000) :
    Calls Tryz.prog 58 #[.pointer (some ⟨g, 0, none⟩)] w fun e w' => e = .returned (.bool (t.f0 == 6)) ∧ ∃ n, w' = w.drewN n := by
  obtain ⟨_, _, _, _, _, A, c, hc, c2, _, hC⟩ := hR.cells
  clear hR
  obtain ⟨ad, rfl, d0, _⟩ := at_T63 hC (l.length : Int) (by omega) (by simp; omega)
  simp only [List.length_append, List.length_singleton, Int.toNat_natCast] at c2 hc d0
  have e0 : (rd_T63 (l ++ [t]) (l.length : Int)) = t := by simp [rd_T63]
  rw [e0] at d0
  clear hC e0
  have h1 : (((l.length + 1 : Nat) : Int) == 0) = false := by simp; omega
  have h2 : ((l.length : Int) + 1 == 0) = false := by simp; omega
  have h3 : ((l.length : Int) + 1 = 0) = False := by simp; omega
  have h4 : IntKind.i64.wrap ((l.length : Int) + 1 - 1) = l.length := by rw [IntWalk.i64_in _ (by omega)]; omega
  go_enter Tryz.func58, Tryz.ntmps58
  go_wp2
  go_quiet (fail)
  go_wp2
  go_ret
  exact ⟨rfl, _, rfl⟩
end Go.Proofs.YtipmmkelialgkaaGreatDoor.Lex
set_option linter.unusedVariables false
set_option linter.unusedSimpArgs false
namespace Go.Proofs.YtipmmkelialgkaaGreatDoor.Lex
open Go.RowKit Go.Lib Go.Proofs.YtipmmkelialgkaaGreatDoorW.PrintWords Go.Proofs.YtipmmkelialgkaaGreatDoorW.PrintLast Go.Proofs.YtipmmkelialgkaaGreatDoorW.PrintMore Go.Proofs.YtipmmkelialgkaaGreatDoor.PLex

/-- The bit 32 set, of every byte. -/
theorem low_tab : ((List.range 256).all fun n => decide (bits .or .u8 (n : Int) 32 = ((n ||| 32 : Nat) : Int))) = true := by decide +kernel
theorem low_tab2 : ((List.range 256).all fun n => decide ((48 ≤ n ∧ n ≤ 57) ∨ (97 ≤ n ∧ n ≤ 102 ∧ (n ||| 32) = n) ∨ (65 ≤ n ∧ n ≤ 70 ∧ (n ||| 32) = n + 32) ∨ (¬ (48 ≤ n ∧ n ≤ 57) ∧ ¬ (97 ≤ n ∧ n ≤ 102) ∧ ¬ (65 ≤ n ∧ n ≤ 70) ∧ ((n ||| 32) < 97 ∨ 103 ≤ (n ||| 32)) ∧ (n ||| 32) < 256))) = true := by decide +kernel
/-- A byte: a digit; a letter to 'f', small or great; something else. -/
theorem low_cases (c : UInt8) : (48 ≤ c.toNat ∧ c.toNat ≤ 57 ∧ hexD c = some (c.toNat - 48)) ∨
    (∃ L : Int, bits .or .u8 (c.toNat : Int) 32 = L ∧ 97 ≤ L ∧ L ≤ 102 ∧ 58 ≤ c.toNat ∧ c.toNat ≠ 95 ∧ hexD c = some (L - 87).toNat) ∨
    (∃ L : Int, bits .or .u8 (c.toNat : Int) 32 = L ∧ (L < 97 ∨ 103 ≤ L) ∧ 0 ≤ L ∧ L < 256 ∧ ¬ (48 ≤ c.toNat ∧ c.toNat ≤ 57) ∧ c.toNat ≠ 95 ∧ hexD c = none) ∨ (c.toNat = 95 ∧ hexD c = none) := by
  have hc := c.toNat_lt
  have h1 := List.all_eq_true.1 low_tab c.toNat (List.mem_range.2 hc)
  have h2 := List.all_eq_true.1 low_tab2 c.toNat (List.mem_range.2 hc)
  have h1 := of_decide_eq_true h1
  have h2 := of_decide_eq_true h2
  rw [h1]
  rcases h2 with h | ⟨h, k, e⟩ | ⟨h, k, e⟩ | ⟨h, k, m, e, x⟩
  · left
    exact ⟨h.1, h.2, by simp only [hexD]; rw [if_pos h]⟩
  · right; left
    refine ⟨_, rfl, by omega, by omega, by omega, by omega, ?_⟩
    simp only [hexD]
    rw [if_neg (by omega), if_pos ⟨h, k⟩]
    congr 1
    omega
  · right; left
    refine ⟨_, rfl, by omega, by omega, by omega, by omega, ?_⟩
    simp only [hexD]
    rw [if_neg (by omega), if_neg (by omega), if_pos ⟨h, k⟩]
    congr 1
    omega
  · right; right
    have hx : hexD c = none := by
      simp only [hexD]
      rw [if_neg h, if_neg k, if_neg m]
    by_cases h95 : c.toNat = 95
    · exact .inr ⟨h95, hx⟩
    · exact .inl ⟨_, rfl, by omega, by omega, by omega, h, h95, hx⟩

/-- What ParseUint tells of digits to the base 16. -/
def hexTuple : Option Nat → Value
  | some v => .tuple #[.int .u64 v, .nilIface]
  | none => .tuple #[.int .u64 0, .iface 222 (.int .i64 2)]

theorem pow16 (k n acc : Nat) (hk : k < n) (hn : n ≤ 6) (h : acc < 16 ^ k) : acc < 1048576 := by
  have h1 : 16 ^ k ≤ 16 ^ 5 := Nat.pow_le_pow_right (by decide) (by omega)
  omega
theorem pow16_step (k acc d : Nat) (h : acc < 16 ^ k) (hd : d < 16) : 16 * acc + d < 16 ^ (k + 1) := by
  rw [Nat.pow_succ]
  omega

set_option maxHeartbeats 4000000 in
set_option maxRecDepth 100000 in
theorem parse16_calls (t : ByteArray) (hne : t.size ≠ 0) (hmax : t.size ≤ 6) (w : World) :
    Calls Tryz.prog 183 #[.string t, .int .i64 16, .int .i64 32] w fun e w' => e = .returned (hexTuple (hexNum t.data.toList 0)) ∧ w' = bytesWorld w 5 t := by
  have hemp : t.toList.isEmpty = false := by
    rw [← decide_eq_emptyBytes]
    exact decide_eq_false (fun h => hne (by rw [h]; rfl))
  have hcv := Lib.run_convert_string_bytes (P := Tryz.prog) w 9 22 5 t (u := .string) Tryz.underlying9 Tryz.underlying22 Tryz.underlying5
  have hB : ∀ j, j < t.size → (Lib.bytesWorld w 5 t).cell? ⟨w.heap.size, j, none⟩ = some (.int .u8 (t.data.toList.getD j 0).toNat) := fun j hj => Lib.bytesWorld_cell w 5 t j hj
  obtain ⟨W1, hW1⟩ : ∃ W1, W1 = Lib.bytesWorld w 5 t := ⟨_, rfl⟩
  rw [← hW1] at hcv hB ⊢
  clear hW1
  obtain ⟨l, hL⟩ : ∃ l, l = t.data.toList := ⟨_, rfl⟩
  have hLn : l.length = t.size := by rw [hL, Lib.size_eq]
  rw [← hL] at hB ⊢
  clear hL
  have hmv : IntKind.u64.wrap (IntKind.u64.wrap 4294967296 - 1) = 4294967295 := by
    rw [IntKind.wrap_u64, IntKind.wrap_u64]
    decide
  go_enter Tryz.func183, Tryz.ntmps183
  go_wp2
  go_loop [12, 13, 101] (fun vu vn vi => ∃ (k acc : Nat) (a : Int), vu = .bool false ∧ vn = .int .u64 a ∧ vi = .int .i64 k ∧ k ≤ t.size ∧ Hid (a = (acc : Int) ∧ acc < 16 ^ k ∧ hexNum l 0 = hexNum (l.drop k) acc))
    (fun _ _ vi => t.size - (intOf vi).toNat)
  case atStart => exact ⟨0, 0, 0, rfl, rfl, rfl, by omega, rfl, by decide, rfl⟩
  case round =>
    obtain ⟨k, acc, a, rfl, rfl, rfl, hk, hh⟩ := hrel
    obtain ⟨ha, hacc, hdec⟩ := hh.out
    clear hh
    have a0 : 0 ≤ a := by omega
    by_cases hkn : k < t.size
    · have hc := hB k hkn
      have hdrop : l.drop k = l[k]'(by omega) :: l.drop (k + 1) := List.drop_eq_getElem_cons (by omega)
      have hget : l.getD k 0 = l[k]'(by omega) := by simp [List.getD, List.getElem?_eq_getElem (show k < l.length by omega)]
      rw [hdrop] at hdec
      rw [hget] at hc
      generalize l[k]'(by omega) = c at hc hdec
      have hc256 : c.toNat < 256 := c.toNat_lt
      have hcap := pow16 k t.size acc hkn hmax hacc
      have a1 : a < 1048576 := by omega
      clear hB hdrop hget hcap
      rcases low_cases c with ⟨d0, d1, hx⟩ | ⟨L, hL, l0, l1, x0, x1, hx⟩ | ⟨L, hL, l0, l1, l2, x0, x1, hx⟩ | ⟨x1, hx⟩
      · have hst : Hid (a * 16 + ((c.toNat : Int) - 48) = ((16 * acc + (c.toNat - 48) : Nat) : Int) ∧ 16 * acc + (c.toNat - 48) < 16 ^ (k + 1) ∧ hexNum l 0 = hexNum (l.drop (k + 1)) (16 * acc + (c.toNat - 48))) := Lib.hid ⟨by omega, pow16_step k acc _ hacc (by omega), by rw [hdec, hexNum, hx]; rfl⟩
        have iov : a * 16 + ((c.toNat : Int) - 48) < 4294967296 := by omega
        clear hacc hdec ha hx
        go_wp2
        exact ⟨⟨k + 1, 16 * acc + (c.toNat - 48), a * 16 + ((c.toNat : Int) - 48), rfl, rfl, rfl, by omega, hst⟩, by simp [intOf]; omega⟩
      · have hst : Hid (a * 16 + (L - 97 + 10) = ((16 * acc + (L - 87).toNat : Nat) : Int) ∧ 16 * acc + (L - 87).toNat < 16 ^ (k + 1) ∧ hexNum l 0 = hexNum (l.drop (k + 1)) (16 * acc + (L - 87).toNat)) := Lib.hid ⟨by omega, pow16_step k acc _ hacc (by omega), by rw [hdec, hexNum, hx]; rfl⟩
        have iov : a * 16 + (L - 97 + 10) < 4294967296 := by omega
        have HL := Aside0.mk hL
        have x1' : ¬ ((c.toNat : Int) = 95) := by omega
        have x0' : ¬ ((c.toNat : Int) ≤ 57) := by omega
        clear hacc hdec ha hx hL
        go_wp2_with (go_at_call 201; refine (Tryz.internal_strconv_lower _ _).mono ?_; rintro e w' ⟨rfl, rfl⟩; rw [HL.out])
        all_goals exact ⟨⟨k + 1, 16 * acc + (L - 87).toNat, a * 16 + (L - 97 + 10), rfl, rfl, rfl, by omega, hst⟩, by simp [intOf]; omega⟩
      · have hdec2 : hexNum l 0 = none := by rw [hdec, hexNum, hx]; rfl
        have HL := Aside0.mk hL
        have HD := Aside0.mk hdec2
        have x1' : ¬ ((c.toNat : Int) = 95) := by omega
        clear hacc hdec hdec2 ha hx hL
        rcases l0 with l0 | l0
        · go_wp2_with (go_at_call 201; refine (Tryz.internal_strconv_lower _ _).mono ?_; rintro e w' ⟨rfl, rfl⟩; rw [HL.out])
          all_goals go_ret2
          all_goals exact ⟨by rw [HD.out]; rfl, rfl⟩
        · by_cases l3 : L ≤ 122
          · go_wp2_with (go_at_call 201; refine (Tryz.internal_strconv_lower _ _).mono ?_; rintro e w' ⟨rfl, rfl⟩; rw [HL.out])
            all_goals go_ret2
            all_goals exact ⟨by rw [HD.out]; rfl, rfl⟩
          · go_wp2_with (go_at_call 201; refine (Tryz.internal_strconv_lower _ _).mono ?_; rintro e w' ⟨rfl, rfl⟩; rw [HL.out])
            all_goals go_ret2
            all_goals exact ⟨by rw [HD.out]; rfl, rfl⟩
      · have hdec2 : hexNum l 0 = none := by rw [hdec, hexNum, hx]; rfl
        have HL : Aside0 (bits .or .u8 95 32 = 127) := ⟨by decide +kernel⟩
        have HD := Aside0.mk hdec2
        rw [x1] at hc
        clear hacc hdec hdec2 ha hx x1
        go_wp2_with (go_at_call 201; refine (Tryz.internal_strconv_lower _ _).mono ?_; rintro e w' ⟨rfl, rfl⟩; rw [HL.out])
        all_goals go_ret2
        all_goals exact ⟨by rw [HD.out]; rfl, rfl⟩
    · have hkk : k = t.size := by omega
      subst hkk
      have hdec2 : hexNum l 0 = some acc := by rw [hdec, List.drop_eq_nil_of_le (by omega)]; rfl
      have HD := Aside0.mk hdec2
      have HA := Aside0.mk ha
      clear hacc a0 ha hdec hdec2
      go_wp2
      go_ret2
      exact ⟨by rw [HD.out, HA.out]; rfl, rfl⟩
end Go.Proofs.YtipmmkelialgkaaGreatDoor.Lex
set_option linter.unusedVariables false
set_option linter.unusedSimpArgs false
namespace Go.Proofs.YtipmmkelialgkaaGreatDoor.Lex
open Go.RowKit Go.Lib Go.Proofs.YtipmmkelialgkaaGreatDoorW.PrintWords Go.Proofs.YtipmmkelialgkaaGreatDoorW.PrintLast Go.Proofs.YtipmmkelialgkaaGreatDoorW.PrintMore Go.Proofs.YtipmmkelialgkaaGreatDoor.PLex

/-- The laid variables that the lexer reads. -/
structure Gl (w : World) : Prop where
  err : ∃ ev, w.cell? ⟨5, 0, none⟩ = some ev ∧ (ev = .nilIface ∨ ∃ te pe, ev = .iface te pe)
  tab : w.cell? ⟨8, 15, none⟩ = some (.int .u8 4)
theorem Gl.below {B : Nat} {w w' : World} (h : Gl w) (hb : Below B w w') (h1 : 5 < B) (h2 : 8 < B) : Gl w' := by
  obtain ⟨ev, he, hv⟩ := h.err
  exact ⟨⟨ev, (hb.cell (p := ⟨5, 0, none⟩) h1).trans he, hv⟩, (hb.cell (p := ⟨8, 15, none⟩) h2).trans h.tab⟩
theorem cell_lt {w : World} {b o : Nat} {v : Value} (h : w.cell? ⟨b, o, none⟩ = some v) : b < w.heap.size := by
  refine Nat.lt_of_not_le fun hl => ?_
  have hn : w.heap[b]? = none := Array.getElem?_eq_none hl
  simp [World.cell?, hn] at h
theorem Gl.size {w : World} (h : Gl w) : 5 < w.heap.size ∧ 8 < w.heap.size := by
  obtain ⟨ev, he, hv⟩ := h.err
  exact ⟨cell_lt he, cell_lt h.tab⟩
theorem Gl.at_below {w w' : World} (h : Gl w) (hb : Below w.heap.size w w') : Gl w' := h.below hb h.size.1 h.size.2

theorem below_drewN (B : Nat) (w : World) (n : Nat) : Below B w (w.drewN n) := ⟨rfl, rfl, rfl, Nat.le_refl _, fun _ _ => rfl⟩

def HexPost (w : World) : Option Nat → Ending → World → Prop
  | some v, e, w' => e = .returned (.tuple #[.int .u64 v, .nilIface]) ∧ Below w.heap.size w w'
  | none, e, w' => ∃ N, e = .returned (.tuple #[.int .u64 0, .iface 224 (.pointer (some ⟨N, 0, none⟩))]) ∧ Below w.heap.size w w'

set_option maxRecDepth 100000 in
theorem parseUint_calls (t : ByteArray) (hne : t.size ≠ 0) (hmax : t.size ≤ 6) (w : World) (hG : Gl w) :
    Calls Tryz.prog 149 #[.string t, .int .i64 16, .int .i64 32] w (HexPost w (hexNum t.data.toList 0)) := by
  have hB := bytes_below (Below.refl w.heap.size w) (Nat.le_refl _) 5 t
  cases hx : hexNum t.data.toList 0 with
  | some v =>
    have HX := Aside0.mk hx
    have HB := Aside0.mk hB
    clear hx hB
    go_enter Tryz.func149, Tryz.ntmps149
    go_wp2_with (go_at_call 183; refine (parse16_calls t hne hmax _).mono ?_; rintro e w' ⟨rfl, rfl⟩; rw [HX.out]; unfold hexTuple)
    go_ret2
    exact ⟨rfl, HB.out⟩
  | none =>
    have HX := Aside0.mk hx
    obtain ⟨ev, he, hv⟩ := (hG.at_below hB).err
    have HE := Aside0.mk he
    have HV := Aside0.mk hv
    have HB := Aside0.mk hB
    clear hx hB he hv
    go_enter Tryz.func149, Tryz.ntmps149
    go_wp2_with (first
      | (go_at_call 183; refine (parse16_calls t hne hmax _).mono ?_; rintro e w' ⟨rfl, rfl⟩; rw [HX.out]; unfold hexTuple)
      | (go_at_call 184; refine (Tryz.strconv_toError_syntax _ _ _ _ ev _ (by omega) HE.out HV.out).mono ?_; rintro e w' ⟨N, rfl, _, _, hb⟩; have HB2 := Aside0.mk hb; clear hb))
    go_ret2
    exact ⟨_, rfl, HB.out.trans (HB2.out.mono HB.out.size)⟩

/-- Does a text tell a scalar, and which. -/
theorem scalarR_no {l : List UInt8} (h : ∀ d, l = 85 :: d → False) : scalarR l = none := by
  unfold scalarR
  split
  · rename_i d
    exact (h d rfl).elim
  · rfl

theorem prefix_85 (l : List UInt8) : (∃ d, l = 85 :: d) ∨ Lib.hasPrefix l [85] = false := by
  match l with
  | [] => exact .inr rfl
  | c :: d =>
    by_cases h : c = 85
    · exact .inl ⟨d, by rw [h]⟩
    · right
      simp [Lib.hasPrefix, List.isPrefixOf]
      exact fun e => h e.symm
theorem hexD_lt (c : UInt8) (d : Nat) (h : hexD c = some d) : d < 16 := by
  simp only [hexD] at h
  split at h
  · injection h with h; omega
  · split at h
    · injection h with h; omega
    · split at h
      · injection h with h; omega
      · exact nomatch h
theorem hexNum_pow : ∀ (l : List UInt8) (n v k : Nat), n < 16 ^ k → hexNum l n = some v → v < 16 ^ (k + l.length)
  | [], n, v, k, hn, h => by
    simp only [hexNum] at h
    injection h with h
    rw [← h]
    exact hn
  | c :: r, n, v, k, hn, h => by
    simp only [hexNum] at h
    cases hd : hexD c with
    | none => rw [hd] at h; exact nomatch h
    | some d =>
      rw [hd] at h
      have h' := hexNum_pow r _ v (k + 1) (pow16_step k n d hn (hexD_lt c d hd)) h
      rw [List.length_cons, show k + (r.length + 1) = k + 1 + r.length by omega]
      exact h'
theorem hexNum_lt (l : List UInt8) (v : Nat) (hl : l.length ≤ 6) (h : hexNum l 0 = some v) : v < 16777216 := by
  have h1 := hexNum_pow l 0 v 0 (by decide) h
  have h2 : 16 ^ (0 + l.length) ≤ 16 ^ 6 := Nat.pow_le_pow_right (by decide) (by omega)
  omega

set_option maxRecDepth 100000 in
theorem scalar_calls (t : ByteArray) (w : World) (hG : Gl w) (ht : t.size ≤ 1000000) :
    Calls Tryz.prog 102 #[.string t] w fun e w' => e = .returned (.tuple #[.int .i64 ((scalarR t.data.toList).getD 0 : Nat), .bool (scalarR t.data.toList).isSome]) ∧ Below w.heap.size w w' := by
  rcases prefix_85 t.data.toList with ⟨d, hd⟩ | hn
  · have hs : t.size = d.length + 1 := by
      have h1 : t.data.toList.length = t.size := by rw [Array.length_toList]; rfl
      rw [← h1, hd, List.length_cons]
    obtain ⟨u, hu⟩ : ∃ u, u = bs d := ⟨_, rfl⟩
    have hul : u.data.toList = d := by rw [hu, bs_list]
    have hus : u.size = d.length := by rw [hu, bs_size]
    have h1 : (⟨(Lib.trimPrefix t.data.toList (⟨#[85]⟩ : ByteArray).data.toList).toArray⟩ : ByteArray) = u := by rw [hd, hu]; rfl
    have h2 : Lib.hasPrefix t.data.toList (⟨#[85]⟩ : ByteArray).data.toList = true := by rw [hd]; rfl
    have H1 := Aside0.mk h1
    have H2 := Aside0.mk h2
    have hub : u.size ≤ 1000000 := by omega
    by_cases h4 : 4 ≤ u.size ∧ u.size ≤ 6
    · have hv : scalarR t.data.toList = hexNum u.data.toList 0 := by
        rw [hd, hul]
        simp only [scalarR]
        rw [if_pos (by omega)]
      have k4 : (4 : Int) ≤ u.size := by omega
      have k6 : (u.size : Int) ≤ 6 := by omega
      have k0 : u.size ≠ 0 := by omega
      have k7 : u.size ≤ 6 := by omega
      cases hx : hexNum u.data.toList 0 with
      | some v =>
        rw [hv, hx]
        have HX := Aside0.mk hx
        have hvb := hexNum_lt u.data.toList v (by rw [hul]; omega) hx
        clear hv hx h4 h1 h2 hus hul hu hs hd hub
        go_enter Tryz.func102, Tryz.ntmps102
        go_wp2_with (first
          | (go_at_call 148; refine (Tryz.strings_CutPrefix _ _ _).mono ?_; rintro e w' ⟨rfl, rfl⟩; rw [H1.out, H2.out])
          | (go_at_call 149; refine (parseUint_calls u k0 k7 _ hG).mono ?_; rw [HX.out]; rintro e w' ⟨rfl, hb⟩; have HB := Aside0.mk hb; clear hb))
        have hw : IntKind.i64.wrap (v : Int) = v := IntWalk.i64_in _ (by omega)
        go_quiet (fail)
        go_wp2
        go_ret2
        exact ⟨rfl, HB.out.trans (below_drewN _ _ _)⟩
      | none =>
        rw [hv, hx]
        have HX := Aside0.mk hx
        clear hv hx h4 h1 h2 hus hul hu hs hd hub
        go_enter Tryz.func102, Tryz.ntmps102
        go_wp2_with (first
          | (go_at_call 148; refine (Tryz.strings_CutPrefix _ _ _).mono ?_; rintro e w' ⟨rfl, rfl⟩; rw [H1.out, H2.out])
          | (go_at_call 149; refine (parseUint_calls u k0 k7 _ hG).mono ?_; rw [HX.out]; rintro e w' ⟨N, rfl, hb⟩; have HB := Aside0.mk hb; clear hb))
        go_quiet (fail)
        go_wp2
        go_ret2
        exact ⟨rfl, HB.out.trans (below_drewN _ _ _)⟩
    · have hv : scalarR t.data.toList = none := by
        rw [hd]
        simp only [scalarR]
        rw [if_neg (by omega)]
      rw [hv]
      have k0 : (0 : Int) ≤ u.size := Int.natCast_nonneg _
      by_cases h5 : u.size < 4
      · have k4 : (u.size : Int) < 4 := by omega
        clear hv h4 h5 h1 h2 hus hul hu hs hd hub
        go_enter Tryz.func102, Tryz.ntmps102
        go_wp2_with (first
          | (go_at_call 148; refine (Tryz.strings_CutPrefix _ _ _).mono ?_; rintro e w' ⟨rfl, rfl⟩; rw [H1.out, H2.out]))
        go_ret2
        exact ⟨rfl, Below.refl _ _⟩
      · have k4 : (4 : Int) ≤ u.size := by omega
        have k6 : (6 : Int) < u.size := by omega
        clear hv h4 h5 h1 h2 hus hul hu hs hd hub
        go_enter Tryz.func102, Tryz.ntmps102
        go_wp2_with (first
          | (go_at_call 148; refine (Tryz.strings_CutPrefix _ _ _).mono ?_; rintro e w' ⟨rfl, rfl⟩; rw [H1.out, H2.out]))
        go_ret2
        exact ⟨rfl, Below.refl _ _⟩
  · have hv : scalarR t.data.toList = none := by
      unfold scalarR
      split
      · rename_i d hd
        rw [hd] at hn
        exact nomatch hn
      · rfl
    rw [hv]
    have h1 : (⟨(Lib.trimPrefix t.data.toList (⟨#[85]⟩ : ByteArray).data.toList).toArray⟩ : ByteArray) = t := by
      show (⟨(Lib.trimPrefix t.data.toList [85]).toArray⟩ : ByteArray) = t
      unfold Lib.trimPrefix
      rw [hn]
      exact bs_of t
    have H1 := Aside0.mk h1
    have H2 : Aside0 (Lib.hasPrefix t.data.toList (⟨#[85]⟩ : ByteArray).data.toList = false) := ⟨hn⟩
    clear hv h1 hn
    go_enter Tryz.func102, Tryz.ntmps102
    go_wp2_with (first
      | (go_at_call 148; refine (Tryz.strings_CutPrefix _ _ _).mono ?_; rintro e w' ⟨rfl, rfl⟩; rw [H1.out, H2.out]))
    go_ret2
    exact ⟨rfl, Below.refl _ _⟩
end Go.Proofs.YtipmmkelialgkaaGreatDoor.Lex
