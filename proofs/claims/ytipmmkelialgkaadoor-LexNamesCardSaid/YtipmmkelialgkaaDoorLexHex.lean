/- strconv.FormatInt at base 16. -/
import Derived.Test.YtipmmkelialgkaaDoorLexScalar
import Derived.Laws.BitsLemmas
import Derived.Laws.Bits64
import Derived.Laws.IdiomStrings
set_option linter.unusedVariables false
set_option linter.unusedSimpArgs false
namespace Go.Proofs.YtipmmkelialgkaaDoor.Lex
open Go.RowKit Go.Lib Go.Proofs.YtipmmkelialgkaaDoorW.PrintWords Go.Proofs.YtipmmkelialgkaaDoorW.PrintLast Go.Proofs.YtipmmkelialgkaaDoorW.PrintMore Go.Proofs.YtipmmkelialgkaaDoor.PLex

set_option maxRecDepth 100000 in
theorem isPow_calls (w : World) : Calls Tryd.prog 72 #[.int .i64 16] w fun e w' => e = .returned (.bool true) ∧ w' = w := by
  have h1 : bits .and .i64 16 15 = 0 := by decide
  go_enter Tryd.func72, Tryd.ntmps72
  go_wp2
  go_ret
  exact ⟨rfl, rfl⟩

set_option maxRecDepth 100000 in
theorem tz64_calls (w : World) (hG : Gl w) : Calls Tryd.prog 86 #[.int .u64 16] w fun e w' => e = .returned (.int .i64 4) ∧ w' = w := by
  have h0 : IntKind.u64.wrap (-16) = 18446744073709551600 := by decide
  have h1 : bits .and .u64 16 18446744073709551600 = 16 := by decide
  have ht := hG.tab
  clear hG
  go_enter Tryd.func86, Tryd.ntmps86
  go_wp2
  go_ret
  exact ⟨rfl, rfl⟩

set_option maxRecDepth 100000 in
theorem tz_calls (w : World) (hG : Gl w) : Calls Tryd.prog 73 #[.int .u64 16] w fun e w' => e = .returned (.int .i64 4) ∧ w' = w := by
  go_enter Tryd.func73, Tryd.ntmps73
  go_wp2_with (go_at_call 86; refine (tz64_calls _ hG).mono ?_; rintro e w' ⟨rfl, rfl⟩)
  go_ret
  exact ⟨rfl, rfl⟩

/-- A digit's sign at base 16, small. -/
def hexC (d : Nat) : UInt8 := if d < 10 then UInt8.ofNat (48 + d) else UInt8.ofNat (87 + d)
/-- The digits of n ahead of the signs l: at most k of them. -/
def hexS : Nat → Nat → List UInt8 → List UInt8
  | 0, n, l => hexC (n % 16) :: l
  | k + 1, n, l => if n < 16 then hexC n :: l else hexS k (n / 16) (hexC (n % 16) :: l)
theorem hexS_len : ∀ (k n : Nat) (l : List UInt8), (hexS k n l).length ≤ l.length + k + 1
  | 0, n, l => by simp [hexS]
  | k + 1, n, l => by
    have := hexS_len k (n / 16) (hexC (n % 16) :: l)
    simp only [hexS]
    split
    · simp
    · simp at this ⊢; omega
theorem mask15 {a : Int} (h0 : 0 ≤ a) (h1 : a < 9223372036854775808) : bits .and .u64 a 15 = a % 16 := by
  have h := bits_mask .u64 63 (by decide) (fun n h₀ h₁ => by rw [IntKind.wrap_u64]; omega) 4 (by decide) a h0 (by omega)
  have e : ((2 : Int) ^ 4 - 1) = 15 := by decide
  have e2 : ((2 : Int) ^ 4) = 16 := by decide
  rw [e, e2] at h
  exact h

/-- The row of signs: from place p on it holds acc. -/
def Row65 (A p : Nat) (acc : List UInt8) (w : World) : Prop := ∃ pre : List Value, pre.length = p ∧ w.heap[A]? = some (.cells (pre ++ byteCells acc).toArray 112)
theorem Row65.at {A p : Nat} {acc : List UInt8} {w : World} (h : Row65 A (p + 1) acc w) : ∃ v, w.cell? ⟨A, p, none⟩ = some v ∧ w.frozen? ⟨A, p, none⟩ = false ∧ ∀ c : UInt8, Row65 A p (c :: acc) (w.setCell ⟨A, p, none⟩ (.int .u8 c.toNat)) := by
  obtain ⟨pre, hl, hh⟩ := h
  rcases List.eq_nil_or_concat pre with rfl | ⟨pre, v, rfl⟩
  · simp at hl
  rw [List.concat_eq_append] at hl hh
  have hl' : pre.length = p := by simpa using hl
  refine ⟨v, ?_, ?_, fun c => ⟨pre, hl', ?_⟩⟩
  · simp [World.cell?, hh, ← hl']
  · simp [World.frozen?, hh]
  · subst hl'
    simp [World.setCell, Array.getElem?_modify, hh, byteCells]
theorem dig_tab : ((List.range 16).all fun d => decide ((⟨#[48, 49, 50, 51, 52, 53, 54, 55, 56, 57, 97, 98, 99, 100, 101, 102, 103, 104, 105, 106, 107, 108, 109, 110, 111, 112, 113, 114, 115, 116, 117, 118, 119, 120, 121, 122]⟩ : ByteArray).data.toList[d]? = some (hexC d))) = true := by decide +kernel
abbrev digs : ByteArray := ⟨#[48, 49, 50, 51, 52, 53, 54, 55, 56, 57, 97, 98, 99, 100, 101, 102, 103, 104, 105, 106, 107, 108, 109, 110, 111, 112, 113, 114, 115, 116, 117, 118, 119, 120, 121, 122]⟩
theorem dig_get (d : Nat) (hd : d < 16) (h : d < digs.size) : digs[d] = hexC d := by
  have h1 := of_decide_eq_true (List.all_eq_true.1 dig_tab d (List.mem_range.2 hd))
  have hl : d < digs.data.toList.length := by rw [Array.length_toList]; exact h
  have h2 : digs.data.toList[d]? = some digs[d] := by
    rw [List.getElem?_eq_getElem hl]
    rfl
  exact Option.some.inj (h2.symm.trans h1)
theorem Row65.cells {A p : Nat} {acc : List UInt8} {w : World} (h : Row65 A p acc w) (j : Nat) (hj : j < acc.length) : w.cell? ((⟨A, p, none⟩ : Addr).add j) = some (.int .u8 (acc[j].toNat : Int)) := by
  obtain ⟨pre, hl, hh⟩ := h
  subst hl
  by_cases h0 : j = 0
  · subst h0
    simp [Addr.add, World.cell?, hh, byteCells, hj]
  · simp [Addr.add, h0, World.cell?, hh, byteCells, hj]

set_option maxRecDepth 100000 in
theorem formatBits_calls (n : Nat) (hn : n < 9223372036854775808) (w : World) (hG : Gl w) :
    Calls Tryd.prog 52 #[.slice none 0 0, .int .u64 n, .int .i64 16, .bool false, .bool false] w fun e w' => e = .returned (.tuple #[.slice none 0 0, .string (bs (hexS 16 n []))]) ∧ Below w.heap.size w w' := by
  obtain ⟨a, ha⟩ : ∃ a : Int, a = (n : Int) := ⟨_, rfl⟩
  rw [← ha]
  have a0 : 0 ≤ a := by omega
  have a1 : a < 9223372036854775808 := by omega
  have HA := Aside0.mk ha
  have HG := Aside0.mk hG
  clear hn ha hG
  go_enter Tryd.func52, Tryd.ntmps52
  go_wp2_with (first
    | (go_at_call 72; refine (isPow_calls _).mono ?_; rintro e w' ⟨rfl, rfl⟩)
    | (go_at_call 73; refine (tz_calls _ (HG.out.at_below ((Below.refl _ _).alloc (Nat.le_refl _) _))).mono ?_; rintro e w' ⟨rfl, rfl⟩))
  have hz : ∃ pre : List Value, Tryd.zeroCells112 = pre.toArray ∧ pre.length = 65 := ⟨Tryd.zeroCells112.toList, by simp, by decide +kernel⟩
  obtain ⟨pre0, hp0, hp1⟩ := hz
  rw [hp0]
  have hb0 : Below w.heap.size w (w.alloc (.cells pre0.toArray 112)) := (Below.refl _ _).alloc (Nat.le_refl _) _
  have hh0 : (w.alloc (.cells pre0.toArray 112)).heap[w.heap.size]? = some (.cells pre0.toArray 112) := by simp [World.alloc, -World.alloc_eq]
  have hR0 : Row65 w.heap.size 65 [] (w.alloc (.cells pre0.toArray 112)) := ⟨pre0, hp1, by simpa [byteCells] using hh0⟩
  clear hh0
  go_loopg [1, 13] 16 (fun gk u i wx => ∃ (x : Int) (m : Nat) (acc : List UInt8) (p : Nat), u = .int .u64 x ∧ i = .int .i64 p ∧ 0 ≤ x ∧ x < 9223372036854775808 ∧ p + acc.length = 65 ∧ acc.length + gk = 16 ∧
    Row65 w.heap.size p acc wx ∧ Below w.heap.size w wx ∧ Aside0 (x = (m : Int) ∧ m < 16 ^ gk ∧ hexS 16 n [] = hexS gk m acc))
  case atStart => exact ⟨a, n, [], 65, rfl, rfl, a0, a1, rfl, rfl, hR0, hb0, ⟨HA.out, by have := HA.out; omega, rfl⟩⟩
  case round =>
    obtain ⟨x, m, acc, p, rfl, rfl, x0, x1, hl, hk, hh, hb, hx⟩ := hrel
    have hm := mask15 x0 x1
    obtain ⟨p, rfl⟩ : ∃ p', p = p' + 1 := ⟨p - 1, by omega⟩
    obtain ⟨v0, cv, zv, hset⟩ := hh.at
    by_cases h16 : 16 ≤ x
    · obtain ⟨g', rfl⟩ : ∃ g', gk = g' + 1 := ⟨gk - 1, by
        have h1 := hx.out.1
        have h2 := hx.out.2.1
        rcases Nat.eq_zero_or_pos gk with h | h
        · rw [h] at h2; simp at h2; omega
        · omega⟩
      have hpl : (48 : Int) ≤ p := by omega
      have hpl2 : (p : Int) < 65 := by omega
      have y0 : 0 ≤ x % 16 := by omega
      have y1 : x % 16 < 36 := by omega
      have HB := Aside0.mk hb
      have HH := Aside0.mk hset
      clear hb hh hp0 hb0 hR0 hset
      go_wp2
      go_roundg g'
      case measure => omega
      case rel =>
        obtain ⟨h1, h2, h3⟩ := hx.out
        have hd : digs[(x % 16).toNat]'(by show _ < 36; omega) = hexC (m % 16) := by
          have e : (x % 16).toNat = m % 16 := by omega
          simp only [e]
          exact dig_get _ (by omega) _
        refine ⟨x / 16, m / 16, hexC (m % 16) :: acc, p, rfl, rfl, by omega, by omega, by simp; omega, by simp; omega, ?_, ?_, ⟨by omega, ?_, ?_⟩⟩
        · rw [← hd]
          exact HH.out _
        · exact HB.out.setCell (p := ⟨w.heap.size, p, none⟩) (Nat.le_refl _) _
        · rw [Nat.pow_succ] at h2
          omega
        · rw [h3, hexS, if_neg (by omega)]
    · obtain ⟨h1, h2, h3⟩ := hx.out
      have hxl : x.toNat < digs.size := by show _ < 36; omega
      have hd : digs[x.toNat]'hxl = hexC m := by
        have e : x.toNat = m := by omega
        simp only [e]
        exact dig_get _ (by omega) _
      have hr : hexS 16 n [] = hexC m :: acc := by
        rw [h3]
        cases gk with
        | zero => simp only [hexS, Nat.mod_eq_of_lt (show m < 16 by omega)]
        | succ k => rw [hexS, if_pos (by omega)]
      have hrow := hset (hexC m)
      rw [← hd] at hrow
      have hpl2 : (p : Int) < 65 := by omega
      have hpl0 : (0 : Int) ≤ p := Int.natCast_nonneg _
      have x16 : x < 16 := by omega
      have x36 : x < 36 := by omega
      have hcv := fun (cap : Nat) => run_convert_bytes_back (P := Tryd.prog) _ 35 9 5 ⟨w.heap.size, p, none⟩ cap _ Tryd.underlying35 Tryd.underlying5 Tryd.underlying9 (fun j hj => hrow.cells j hj)
      have hlen : (digs[x.toNat]'hxl :: acc).length = 65 - p := by simp; omega
      rw [hlen] at hcv
      have HR := Aside0.mk hr
      have HB := Aside0.mk hb
      have HD := Aside0.mk hd
      clear hb hh hp0 hb0 hR0 hset hx h3 hr hrow hlen h1 h2 hd hl hk
      unfold digs at hcv
      have hsl : ∀ W, (Instr.sliceAt 112 (.pointer (some ⟨w.heap.size, 0, none⟩)) (some (.int .i64 (p : Int))) none none).run Tryd.prog W = .ok (.slice (some ⟨w.heap.size, p, none⟩) (65 - p) (65 - p)) W := fun W => by
        have hal : Tryd.prog.arrayLen 112 = 65 := by kernel_rfl
        have hel : Tryd.prog.elem 112 = 5 := by kernel_rfl
        rw [run_sliceAt_array_l W 112 ⟨w.heap.size, 0, none⟩ (by rw [hal, hel]; exact Tryd.underlying112) .i64 p (by omega) (by rw [hal]; omega)]
        rw [hel, hal, Tryd.sizeOf5]
        have e1 : (p : Int).toNat = p := by omega
        have e2 : ¬ 65 = p := by omega
        by_cases h0 : p = 0
        · simp [slicedAt, e1, e2, Result.andThen, Addr.add, h0]
        · simp [slicedAt, e1, e2, Result.andThen, Addr.add, h0]
      go_wp2
      go_ret2
      refine ⟨?_, HB.out.setCell (p := ⟨w.heap.size, p, none⟩) (Nat.le_refl _) _⟩
      have hd := HD.out
      unfold digs at hd
      rw [HR.out, ← hd]
      rfl

/-- A number's digits at base 16, small. -/
def hexText (n : Nat) : List UInt8 := hexS 16 n []
set_option maxRecDepth 100000 in
theorem fmtInt_calls (n : Nat) (hn : n < 9223372036854775808) (w : World) (hG : Gl w) :
    Calls Tryd.prog 32 #[.int .i64 n, .int .i64 16] w fun e w' => e = .returned (.string (bs (hexText n))) ∧ Below w.heap.size w w' := by
  have n0 : (0 : Int) ≤ n := Int.natCast_nonneg _
  have n1 : ((n : Int) < 0) = False := by simp
  have hw : IntKind.u64.wrap (n : Int) = n := by rw [IntKind.wrap_u64]; omega
  have HG := Aside0.mk hG
  clear hG
  go_enter Tryd.func32, Tryd.ntmps32
  go_wp2_with (go_at_call 52; refine (formatBits_calls n hn _ HG.out).mono ?_; rintro e w' ⟨rfl, hb⟩; have HB := Aside0.mk hb; clear hb)
  go_ret
  exact ⟨rfl, HB.out⟩
set_option maxRecDepth 100000 in
theorem formatInt_calls (n : Nat) (hn : n < 9223372036854775808) (w : World) (hG : Gl w) :
    Calls Tryd.prog 15 #[.int .i64 n, .int .i64 16] w fun e w' => e = .returned (.string (bs (hexText n))) ∧ Below w.heap.size w w' := by
  have HG := Aside0.mk hG
  clear hG
  go_enter Tryd.func15, Tryd.ntmps15
  go_wp2_with (go_at_call 32; refine (fmtInt_calls n hn _ HG.out).mono ?_; rintro e w' ⟨rfl, hb⟩; have HB := Aside0.mk hb; clear hb)
  go_ret
  exact ⟨rfl, HB.out⟩
end Go.Proofs.YtipmmkelialgkaaDoor.Lex
