/- lex.Print: a definition's tokens as text. -/
import Derived.Test.YtipmmkelialgkaaGreatDoorLexScalar
import Derived.Laws.BitsLemmas
import Derived.Laws.Bits64
import Derived.Laws.IdiomStrings
import Derived.Test.YtipmmkelialgkaaGreatDoorShelf
import Derived.Test.YtipmmkelialgkaaGreatDoorLexRest
import Derived.Lib.Builder
import Derived.Lib.AppendStr
import Derived.Lib.UnsafeStr
import Derived.Laws.Externs
import Derived.Laws.IdiomCopy
set_option linter.unusedVariables false
set_option linter.unusedSimpArgs false
namespace Go.Proofs.YtipmmkelialgkaaGreatDoor.Lex
open Go.RowKit Go.Lib Go.Proofs.YtipmmkelialgkaaGreatDoorW.PrintWords Go.Proofs.YtipmmkelialgkaaGreatDoorW.PrintLast Go.Proofs.YtipmmkelialgkaaGreatDoorW.PrintMore Go.Proofs.YtipmmkelialgkaaGreatDoor.PLex

set_option maxRecDepth 100000 in
theorem isPow_calls (w : World) : Calls Tryz.prog 190 #[.int .i64 16] w fun e w' => e = .returned (.bool true) ∧ w' = w := by
  have h1 : bits .and .i64 16 15 = 0 := by decide
  go_enter Tryz.func190, Tryz.ntmps190
  go_wp2
  go_ret
  exact ⟨rfl, rfl⟩

set_option maxRecDepth 100000 in
theorem tz64_calls (w : World) (hG : Gl w) : Calls Tryz.prog 210 #[.int .u64 16] w fun e w' => e = .returned (.int .i64 4) ∧ w' = w := by
  have h0 : IntKind.u64.wrap (-16) = 18446744073709551600 := by decide
  have h1 : bits .and .u64 16 18446744073709551600 = 16 := by decide
  have ht := hG.tab
  clear hG
  go_enter Tryz.func210, Tryz.ntmps210
  go_wp2
  go_ret
  exact ⟨rfl, rfl⟩

set_option maxRecDepth 100000 in
theorem tz_calls (w : World) (hG : Gl w) : Calls Tryz.prog 191 #[.int .u64 16] w fun e w' => e = .returned (.int .i64 4) ∧ w' = w := by
  go_enter Tryz.func191, Tryz.ntmps191
  go_wp2_with (go_at_call 210; refine (tz64_calls _ hG).mono ?_; rintro e w' ⟨rfl, rfl⟩)
  go_ret
  exact ⟨rfl, rfl⟩

/-- A digit's sign at base 16, small. -/
def hexC (d : Nat) : UInt8 := if d < 10 then UInt8.ofNat (48 + d) else UInt8.ofNat (87 + d)
/-- The digits of n ahead of the signs l: at most k of them. -/
def hexS : Nat → Nat → List UInt8 → List UInt8
  | 0, n, l => hexC (n % 16) :: l
  | k + 1, n, l => if n < 16 then hexC n :: l else hexS k (n / 16) (hexC (n % 16) :: l)
theorem hexS_len : ∀ (k n : Nat) (l : List UInt8), (hexS k n l).length ≤ l.length + k + 1
  | 0, n, l => by simp [hexS]
  | k + 1, n, l => by
    have := hexS_len k (n / 16) (hexC (n % 16) :: l)
    simp only [hexS]
    split
    · simp
    · simp at this ⊢; omega
theorem mask15 {a : Int} (h0 : 0 ≤ a) (h1 : a < 9223372036854775808) : bits .and .u64 a 15 = a % 16 := by
  have h := bits_mask .u64 63 (by decide) (fun n h₀ h₁ => by rw [IntKind.wrap_u64]; omega) 4 (by decide) a h0 (by omega)
  have e : ((2 : Int) ^ 4 - 1) = 15 := by decide
  have e2 : ((2 : Int) ^ 4) = 16 := by decide
  rw [e, e2] at h
  exact h

/-- The row of signs: from place p on it holds acc. -/
def Row65 (A p : Nat) (acc : List UInt8) (w : World) : Prop := ∃ pre : List Value, pre.length = p ∧ w.heap[A]? = some (.cells (pre ++ byteCells acc).toArray 213)
theorem Row65.at {A p : Nat} {acc : List UInt8} {w : World} (h : Row65 A (p + 1) acc w) : ∃ v, w.cell? ⟨A, p, none⟩ = some v ∧ w.frozen? ⟨A, p, none⟩ = false ∧ ∀ c : UInt8, Row65 A p (c :: acc) (w.setCell ⟨A, p, none⟩ (.int .u8 c.toNat)) := by
  obtain ⟨pre, hl, hh⟩ := h
  rcases List.eq_nil_or_concat pre with rfl | ⟨pre, v, rfl⟩
  · simp at hl
  rw [List.concat_eq_append] at hl hh
  have hl' : pre.length = p := by simpa using hl
  refine ⟨v, ?_, ?_, fun c => ⟨pre, hl', ?_⟩⟩
  · simp [World.cell?, hh, ← hl']
  · simp [World.frozen?, hh]
  · subst hl'
    simp [World.setCell, Array.getElem?_modify, hh, byteCells]
theorem dig_tab : ((List.range 16).all fun d => decide ((⟨#[48, 49, 50, 51, 52, 53, 54, 55, 56, 57, 97, 98, 99, 100, 101, 102, 103, 104, 105, 106, 107, 108, 109, 110, 111, 112, 113, 114, 115, 116, 117, 118, 119, 120, 121, 122]⟩ : ByteArray).data.toList[d]? = some (hexC d))) = true := by decide +kernel
abbrev digs : ByteArray := ⟨#[48, 49, 50, 51, 52, 53, 54, 55, 56, 57, 97, 98, 99, 100, 101, 102, 103, 104, 105, 106, 107, 108, 109, 110, 111, 112, 113, 114, 115, 116, 117, 118, 119, 120, 121, 122]⟩
theorem dig_get (d : Nat) (hd : d < 16) (h : d < digs.size) : digs[d] = hexC d := by
  have h1 := of_decide_eq_true (List.all_eq_true.1 dig_tab d (List.mem_range.2 hd))
  have hl : d < digs.data.toList.length := by rw [Array.length_toList]; exact h
  have h2 : digs.data.toList[d]? = some digs[d] := by
    rw [List.getElem?_eq_getElem hl]
    rfl
  exact Option.some.inj (h2.symm.trans h1)
theorem Row65.cells {A p : Nat} {acc : List UInt8} {w : World} (h : Row65 A p acc w) (j : Nat) (hj : j < acc.length) : w.cell? ((⟨A, p, none⟩ : Addr).add j) = some (.int .u8 (acc[j].toNat : Int)) := by
  obtain ⟨pre, hl, hh⟩ := h
  subst hl
  by_cases h0 : j = 0
  · subst h0
    simp [Addr.add, World.cell?, hh, byteCells, hj]
  · simp [Addr.add, h0, World.cell?, hh, byteCells, hj]

set_option maxRecDepth 100000 in
theorem formatBits_calls (n : Nat) (hn : n < 9223372036854775808) (w : World) (hG : Gl w) :
    Calls Tryz.prog 159 #[.slice none 0 0, .int .u64 n, .int .i64 16, .bool false, .bool false] w fun e w' => e = .returned (.tuple #[.slice none 0 0, .string (bs (hexS 16 n []))]) ∧ Below w.heap.size w w' := by
  obtain ⟨a, ha⟩ : ∃ a : Int, a = (n : Int) := ⟨_, rfl⟩
  rw [← ha]
  have a0 : 0 ≤ a := by omega
  have a1 : a < 9223372036854775808 := by omega
  have HA := Aside0.mk ha
  have HG := Aside0.mk hG
  clear hn ha hG
  go_enter Tryz.func159, Tryz.ntmps159
  go_wp2_with (first
    | (go_at_call 190; refine (isPow_calls _).mono ?_; rintro e w' ⟨rfl, rfl⟩)
    | (go_at_call 191; refine (tz_calls _ (HG.out.at_below ((Below.refl _ _).alloc (Nat.le_refl _) _))).mono ?_; rintro e w' ⟨rfl, rfl⟩))
  have hz : ∃ pre : List Value, Tryz.zeroCells213 = pre.toArray ∧ pre.length = 65 := ⟨Tryz.zeroCells213.toList, by simp, by decide +kernel⟩
  obtain ⟨pre0, hp0, hp1⟩ := hz
  rw [hp0]
  have hb0 : Below w.heap.size w (w.alloc (.cells pre0.toArray 213)) := (Below.refl _ _).alloc (Nat.le_refl _) _
  have hh0 : (w.alloc (.cells pre0.toArray 213)).heap[w.heap.size]? = some (.cells pre0.toArray 213) := by simp [World.alloc, -World.alloc_eq]
  have hR0 : Row65 w.heap.size 65 [] (w.alloc (.cells pre0.toArray 213)) := ⟨pre0, hp1, by simpa [byteCells] using hh0⟩
  clear hh0
  go_loopg [1, 13] 16 (fun gk u i wx => ∃ (x : Int) (m : Nat) (acc : List UInt8) (p : Nat), u = .int .u64 x ∧ i = .int .i64 p ∧ 0 ≤ x ∧ x < 9223372036854775808 ∧ p + acc.length = 65 ∧ acc.length + gk = 16 ∧
    Row65 w.heap.size p acc wx ∧ Below w.heap.size w wx ∧ Aside0 (x = (m : Int) ∧ m < 16 ^ gk ∧ hexS 16 n [] = hexS gk m acc))
  case atStart => exact ⟨a, n, [], 65, rfl, rfl, a0, a1, rfl, rfl, hR0, hb0, ⟨HA.out, by have := HA.out; omega, rfl⟩⟩
  case round =>
    obtain ⟨x, m, acc, p, rfl, rfl, x0, x1, hl, hk, hh, hb, hx⟩ := hrel
    have hm := mask15 x0 x1
    obtain ⟨p, rfl⟩ : ∃ p', p = p' + 1 := ⟨p - 1, by omega⟩
    obtain ⟨v0, cv, zv, hset⟩ := hh.at
    by_cases h16 : 16 ≤ x
    · obtain ⟨g', rfl⟩ : ∃ g', gk = g' + 1 := ⟨gk - 1, by
        have h1 := hx.out.1
        have h2 := hx.out.2.1
        rcases Nat.eq_zero_or_pos gk with h | h
        · rw [h] at h2; simp at h2; omega
        · omega⟩
      have hpl : (48 : Int) ≤ p := by omega
      have hpl2 : (p : Int) < 65 := by omega
      have y0 : 0 ≤ x % 16 := by omega
      have y1 : x % 16 < 36 := by omega
      have HB := Aside0.mk hb
      have HH := Aside0.mk hset
      clear hb hh hp0 hb0 hR0 hset
      go_wp2
      go_roundg g'
      case measure => omega
      case rel =>
        obtain ⟨h1, h2, h3⟩ := hx.out
        have hd : digs[(x % 16).toNat]'(by show _ < 36; omega) = hexC (m % 16) := by
          have e : (x % 16).toNat = m % 16 := by omega
          simp only [e]
          exact dig_get _ (by omega) _
        refine ⟨x / 16, m / 16, hexC (m % 16) :: acc, p, rfl, rfl, by omega, by omega, by simp; omega, by simp; omega, ?_, ?_, ⟨by omega, ?_, ?_⟩⟩
        · rw [← hd]
          exact HH.out _
        · exact HB.out.setCell (p := ⟨w.heap.size, p, none⟩) (Nat.le_refl _) _
        · rw [Nat.pow_succ] at h2
          omega
        · rw [h3, hexS, if_neg (by omega)]
    · obtain ⟨h1, h2, h3⟩ := hx.out
      have hxl : x.toNat < digs.size := by show _ < 36; omega
      have hd : digs[x.toNat]'hxl = hexC m := by
        have e : x.toNat = m := by omega
        simp only [e]
        exact dig_get _ (by omega) _
      have hr : hexS 16 n [] = hexC m :: acc := by
        rw [h3]
        cases gk with
        | zero => simp only [hexS, Nat.mod_eq_of_lt (show m < 16 by omega)]
        | succ k => rw [hexS, if_pos (by omega)]
      have hrow := hset (hexC m)
      rw [← hd] at hrow
      have hpl2 : (p : Int) < 65 := by omega
      have hpl0 : (0 : Int) ≤ p := Int.natCast_nonneg _
      have x16 : x < 16 := by omega
      have x36 : x < 36 := by omega
      have hcv := fun (cap : Nat) => run_convert_bytes_back (P := Tryz.prog) _ 22 9 5 ⟨w.heap.size, p, none⟩ cap _ Tryz.underlying22 Tryz.underlying5 Tryz.underlying9 (fun j hj => hrow.cells j hj)
      have hlen : (digs[x.toNat]'hxl :: acc).length = 65 - p := by simp; omega
      rw [hlen] at hcv
      have HR := Aside0.mk hr
      have HB := Aside0.mk hb
      have HD := Aside0.mk hd
      clear hb hh hp0 hb0 hR0 hset hx h3 hr hrow hlen h1 h2 hd hl hk
      unfold digs at hcv
      have hsl : ∀ W, (Instr.sliceAt 213 (.pointer (some ⟨w.heap.size, 0, none⟩)) (some (.int .i64 (p : Int))) none none).run Tryz.prog W = .ok (.slice (some ⟨w.heap.size, p, none⟩) (65 - p) (65 - p)) W := fun W => by
        have hal : Tryz.prog.arrayLen 213 = 65 := by kernel_rfl
        have hel : Tryz.prog.elem 213 = 5 := by kernel_rfl
        rw [run_sliceAt_array_l W 213 ⟨w.heap.size, 0, none⟩ (by rw [hal, hel]; exact Tryz.underlying213) .i64 p (by omega) (by rw [hal]; omega)]
        rw [hel, hal, Tryz.sizeOf5]
        have e1 : (p : Int).toNat = p := by omega
        have e2 : ¬ 65 = p := by omega
        by_cases h0 : p = 0
        · simp [slicedAt, e1, e2, Result.andThen, Addr.add, h0]
        · simp [slicedAt, e1, e2, Result.andThen, Addr.add, h0]
      go_wp2
      go_ret2
      refine ⟨?_, HB.out.setCell (p := ⟨w.heap.size, p, none⟩) (Nat.le_refl _) _⟩
      have hd := HD.out
      unfold digs at hd
      rw [HR.out, ← hd]
      rfl

/-- A number's digits at base 16, small. -/
def hexText (n : Nat) : List UInt8 := hexS 16 n []
set_option maxRecDepth 100000 in
theorem fmtInt_calls (n : Nat) (hn : n < 9223372036854775808) (w : World) (hG : Gl w) :
    Calls Tryz.prog 107 #[.int .i64 n, .int .i64 16] w fun e w' => e = .returned (.string (bs (hexText n))) ∧ Below w.heap.size w w' := by
  have n0 : (0 : Int) ≤ n := Int.natCast_nonneg _
  have n1 : ((n : Int) < 0) = False := by simp
  have hw : IntKind.u64.wrap (n : Int) = n := by rw [IntKind.wrap_u64]; omega
  have HG := Aside0.mk hG
  clear hG
  go_enter Tryz.func107, Tryz.ntmps107
  go_wp2_with (go_at_call 159; refine (formatBits_calls n hn _ HG.out).mono ?_; rintro e w' ⟨rfl, hb⟩; have HB := Aside0.mk hb; clear hb)
  go_ret
  exact ⟨rfl, HB.out⟩
set_option maxRecDepth 100000 in
theorem formatInt_calls (n : Nat) (hn : n < 9223372036854775808) (w : World) (hG : Gl w) :
    Calls Tryz.prog 62 #[.int .i64 n, .int .i64 16] w fun e w' => e = .returned (.string (bs (hexText n))) ∧ Below w.heap.size w w' := by
  have HG := Aside0.mk hG
  clear hG
  go_enter Tryz.func62, Tryz.ntmps62
  go_wp2_with (go_at_call 107; refine (fmtInt_calls n hn _ HG.out).mono ?_; rintro e w' ⟨rfl, hb⟩; have HB := Aside0.mk hb; clear hb)
  go_ret
  exact ⟨rfl, HB.out⟩
end Go.Proofs.YtipmmkelialgkaaGreatDoor.Lex
set_option linter.unusedVariables false
set_option linter.unusedSimpArgs false
namespace Go.Proofs.YtipmmkelialgkaaGreatDoor.Lex
open Go.RowKit Go.Lib Go.Proofs.YtipmmkelialgkaaGreatDoorW.PrintWords Go.Proofs.YtipmmkelialgkaaGreatDoorW.PrintLast Go.Proofs.YtipmmkelialgkaaGreatDoorW.PrintMore Go.Proofs.YtipmmkelialgkaaGreatDoor.PLex

theorem sizeBuilder : (Tryz.prog.info? 110).map (·.size) = some 2 := by kernel_rfl
theorem liesBuilder : liesAt Tryz.prog Tryz.prog.depth 110 (2 / Tryz.prog.cellsOf 110) 0 110 1 = true := by kernel_rfl
theorem infoByte : (Tryz.prog.info? 5).map (fun i => (i.zero, i.size, i.bytes)) = some (some (.int .u8 0), 1, 1) := by kernel_rfl

set_option maxRecDepth 100000 in
theorem copyCheck_used (b : Nat) (w : World) (h0 : w.cell? ⟨b, 0, none⟩ = some (.pointer (some ⟨b, 0, none⟩))) :
    Calls Tryz.prog 103 #[.pointer (some ⟨b, 0, none⟩)] w fun e w' => e = .returned (.tuple #[]) ∧ w' = w := by
  obtain ⟨j, hj, _⟩ := Option.map_eq_some_iff.1 sizeBuilder
  go_enter Tryz.func103, Tryz.ntmps103
  go_wp2
  rw [Lib.run_neq_ptr_same w _ Tryz.underlying108 hj]
  go_wp2
  go_end0
  exact ⟨rfl, rfl⟩

set_option maxRecDepth 100000 in
theorem copyCheck_fresh (b : Nat) (w : World) (h0 : w.cell? ⟨b, 0, none⟩ = some (.pointer none)) (hsh : w.shape? b = some (110, 2)) (hfz : w.frozen? ⟨b, 0, none⟩ = false) :
    Calls Tryz.prog 103 #[.pointer (some ⟨b, 0, none⟩)] w fun e w' => e = .returned (.tuple #[]) ∧ w' = w.setCell ⟨b, 0, none⟩ (.pointer (some ⟨b, 0, none⟩)) := by
  obtain ⟨j, hj, hjs⟩ := Option.map_eq_some_iff.1 sizeBuilder
  go_enter Tryz.func103, Tryz.ntmps103
  go_wp2
  rw [Lib.run_to_unsafe w ⟨b, 0, none⟩ Tryz.underlying108 Tryz.underlying183 hj (by rw [hjs]; decide) hsh (Nat.zero_lt_succ 1)]
  simp only [Result.andThen]
  rw [Oper.upon_value]
  go_wp2
  rw [run_callFunc_extern Tryz.func150 (by kernel_rfl) (by kernel_rfl) (by kernel_rfl) (e := Extern.AbiNoEscape.same) (by kernel_rfl)]
  rw [Lib.run_noEscape]
  simp only [Result.andThen]
  rw [Oper.upon_value]
  go_wp2
  rw [Lib.run_from_unsafe w ⟨b, 0, none⟩ Tryz.underlying183 Tryz.underlying108 hj hsh liesBuilder]
  simp only [Result.andThen]
  rw [Oper.upon_value]
  go_wp2
  go_end0
  exact ⟨rfl, rfl⟩

theorem copyCheck_calls (B b : Nat) (bs : List Value) (w : World) (h : Lib.IsBuilder 110 5 B b bs w) :
    Calls Tryz.prog 103 #[.pointer (some ⟨b, 0, none⟩)] w fun e w' => e = .returned (.tuple #[]) ∧ (Lib.BuilderAt 110 5 B b (.pointer (some ⟨b, 0, none⟩)) bs w' ∧ Below B w w') := by
  rcases h with h | h
  · refine (copyCheck_fresh b w h.cell0 h.shape h.frozen0).mono ?_
    rintro e w' ⟨rfl, rfl⟩
    exact ⟨rfl, h.used _, (Below.refl B w).setCell (p := ⟨b, 0, none⟩) h.1 _⟩
  · refine (copyCheck_used b w h.cell0).mono ?_
    rintro e w' ⟨rfl, rfl⟩
    exact ⟨rfl, h, Below.refl B _⟩

set_option maxHeartbeats 2000000 in
set_option maxRecDepth 100000 in
theorem writeByte_calls (B b : Nat) (bs : List Value) (c : Int) (w : World) (h : Lib.IsBuilder 110 5 B b bs w) (hlen : bs.length + 1 ≤ 140737488355328) (hBw : B ≤ w.heap.size) :
    Calls Tryz.prog 60 #[.pointer (some ⟨b, 0, none⟩), .int .u8 c] w fun e w' => e = .returned .nilIface ∧ (Lib.BuilderAt 110 5 B b (.pointer (some ⟨b, 0, none⟩)) (bs ++ [.int .u8 c]) w' ∧ Below B w w') := by
  obtain ⟨i0, hi, hz0, hz1, hz2⟩ := info_parts infoByte
  go_enter Tryz.func60, Tryz.ntmps60
  go_wp2_with (go_at_call 103; refine (copyCheck_calls B b bs _ h).mono ?_)
  rintro e w1 ⟨rfl, h1, hb1⟩
  obtain ⟨hB, v, hbk, hown, hne⟩ := h1
  have c0 : w1.cell? ⟨b, 0, none⟩ = some (.pointer (some ⟨b, 0, none⟩)) := by rw [Lib.cell_of_heap hbk]; rfl
  have c1 : w1.cell? ⟨b, 1, none⟩ = some v := by rw [Lib.cell_of_heap hbk]; rfl
  go_wp2_with (at_builtin; refine wpList_append_own _ rfl _ _ 22 rfl B 5 i0 (.int .u8 0) 1 1 Tryz.underlying22 hi hz0 hz1 hz2 rfl (by decide) _ _ _ rfl (hown.alloc _) ⟨w1.heap.size, 0, none⟩ 1 1 [.int .u8 c] rfl rfl ?c1 ?c2 ?c3 ?c4 ?c5 ?_)
  case c1 =>
    intro j u hj
    match j, hj with
    | 0, hj => simp at hj; subst hj; simp [Addr.add]
  case c2 => intro u hu; simp at hu; subst hu; rfl
  case c3 => unfold maxLen; omega
  case c4 => omega
  case c5 => have := hb1.size; simp; omega
  intro v' w2 hown' hgrow _
  have hlt : b < w1.heap.size := by
    rcases Nat.lt_or_ge b w1.heap.size with h' | h'
    · exact h'
    · simp [Array.getElem?_eq_none h'] at hbk
  have hb2 : w2.heap[b]? = some (.cells #[.pointer (some ⟨b, 0, none⟩), v] 110 (0, 0)) := by
    rw [hgrow.block b (by simp; omega) (fun e => hne e.symm), Lib.alloc_old w1 _ b hlt]
    exact hbk
  have d0 : w2.cell? ⟨b, 0, none⟩ = some (.pointer (some ⟨b, 0, none⟩)) := by rw [Lib.cell_of_heap hb2]; rfl
  have d1 : w2.cell? ⟨b, 1, none⟩ = some v := by rw [Lib.cell_of_heap hb2]; rfl
  have f1 : w2.frozen? ⟨b, 1, none⟩ = false := Lib.frozen_of_heap hb2 1
  obtain ⟨g, cap, rfl⟩ : ∃ g cap, v' = .slice (some ⟨g, 0, none⟩) (bs.length + 1) cap := by
    rcases hown'.2 with ⟨_, h0⟩ | ⟨g, cap, cur, hv, _⟩
    · omega
    · exact ⟨g, cap, hv⟩
  go_wp2
  go_ret
  refine ⟨rfl, ?_, ?_⟩
  · exact Lib.BuilderAt.put (T := 110) (e := 5) hB hb2 (bs' := bs ++ [.int .u8 c]) (by simpa using hown') (by decide)
  · exact ((hb1.alloc (by have := hb1.size; omega) _).grown hgrow (by have := hb1.size; simp; omega) (fun k hk => (hown.lt k hk).1)).setCell (p := ⟨b, 1, none⟩) hB _

set_option maxHeartbeats 2000000 in
set_option maxRecDepth 100000 in
theorem writeString_calls (B b : Nat) (bs : List Value) (s : ByteArray) (w : World) (h : Lib.IsBuilder 110 5 B b bs w) (hlen : bs.length + s.size ≤ 140737488355328) (hBw : B ≤ w.heap.size) :
    Calls Tryz.prog 64 #[.pointer (some ⟨b, 0, none⟩), .string s] w fun e w' => e = .returned (.tuple #[.int .i64 s.size, .nilIface]) ∧ (Lib.BuilderAt 110 5 B b (.pointer (some ⟨b, 0, none⟩)) (bs ++ Lib.strCells s) w' ∧ Below B w w') := by
  obtain ⟨i0, hi, hz0, hz1, hz2⟩ := info_parts infoByte
  go_enter Tryz.func64, Tryz.ntmps64
  go_wp2_with (go_at_call 103; refine (copyCheck_calls B b bs _ h).mono ?_)
  rintro e w1 ⟨rfl, h1, hb1⟩
  obtain ⟨hB, v, hbk, hown, hne⟩ := h1
  have c0 : w1.cell? ⟨b, 0, none⟩ = some (.pointer (some ⟨b, 0, none⟩)) := by rw [Lib.cell_of_heap hbk]; rfl
  have c1 : w1.cell? ⟨b, 1, none⟩ = some v := by rw [Lib.cell_of_heap hbk]; rfl
  go_wp2_with (at_builtin; refine Lib.wpList_append_own_string _ rfl _ _ 22 9 rfl B 5 i0 Tryz.underlying22 Tryz.underlying9 hi hz0 hz1 hz2 _ _ _ rfl hown s rfl ?c3 ?c4 ?c5 ?_)
  case c3 => unfold maxLen; omega
  case c4 => omega
  case c5 => have := hb1.size; omega
  intro v' w2 hown' hgrow _
  have hlt : b < w1.heap.size := by
    rcases Nat.lt_or_ge b w1.heap.size with h' | h'
    · exact h'
    · simp [Array.getElem?_eq_none h'] at hbk
  have hb2 : w2.heap[b]? = some (.cells #[.pointer (some ⟨b, 0, none⟩), v] 110 (0, 0)) := by
    rw [hgrow.block b hlt (fun e => hne e.symm)]
    exact hbk
  have d0 : w2.cell? ⟨b, 0, none⟩ = some (.pointer (some ⟨b, 0, none⟩)) := by rw [Lib.cell_of_heap hb2]; rfl
  have d1 : w2.cell? ⟨b, 1, none⟩ = some v := by rw [Lib.cell_of_heap hb2]; rfl
  have f1 : w2.frozen? ⟨b, 1, none⟩ = false := Lib.frozen_of_heap hb2 1
  obtain ⟨ao, n', cap, rfl⟩ : ∃ ao n' cap, v' = .slice ao n' cap := by
    rcases hown'.2 with ⟨hv, _⟩ | ⟨g, cap, cur, hv, _⟩
    · exact ⟨_, _, _, hv⟩
    · exact ⟨_, _, _, hv⟩
  go_wp2
  go_ret2
  refine ⟨rfl, ?_, ?_⟩
  · exact Lib.BuilderAt.put (T := 110) (e := 5) hB hb2 (bs' := bs ++ Lib.strCells s) (by simpa [Lib.strCells_length] using hown') (by decide)
  · exact (hb1.grown hgrow (by have := hb1.size; omega) (fun k hk => (hown.lt k hk).1)).setCell (p := ⟨b, 1, none⟩) hB _
end Go.Proofs.YtipmmkelialgkaaGreatDoor.Lex
set_option linter.unusedVariables false
set_option linter.unusedSimpArgs false
namespace Go.Proofs.YtipmmkelialgkaaGreatDoor.Lex
open Go.RowKit Go.Lib Go.Proofs.YtipmmkelialgkaaGreatDoorW.PrintWords Go.Proofs.YtipmmkelialgkaaGreatDoorW.PrintLast Go.Proofs.YtipmmkelialgkaaGreatDoorW.PrintMore Go.Proofs.YtipmmkelialgkaaGreatDoor.PLex

/-- A number's digits, great. -/
def hexUp (n : Nat) : List UInt8 := toUpperA (hexText n)
/-- A token as text. -/
def pieceF (t : Tok) : List UInt8 :=
  if t.f0 = 6 then [10]
  else if t.f0 = 3 then ([60, 85] ++ repeatL [48] (4 - (hexUp t.f2.toNat).length) ++ hexUp t.f2.toNat ++ [62]) ++ [32]
  else if t.f0 = 5 then ([60] ++ t.f1.data.toList ++ [62]) ++ [32]
  else if t.f0 = 4 then ([34] ++ t.f1.data.toList ++ [34]) ++ [32]
  else t.f1.data.toList ++ [32]
def printF (l : List Tok) : List UInt8 := l.flatMap pieceF

theorem printF_take (l : List Tok) (i : Nat) : (printF (l.take i)).length ≤ (printF l).length := by
  have h : printF l = printF (l.take i) ++ printF (l.drop i) := by
    unfold printF
    rw [← List.flatMap_append, List.take_append_drop]
  rw [h, List.length_append]
  omega
theorem rd_eq (l : List Tok) (i : Nat) (h : i < l.length) : rd_T63 l (i : Int) = l[i] := by
  simp [rd_T63, List.getElem?_eq_getElem h]
theorem rd_mem (l : List Tok) (i : Nat) (h : i < l.length) : rd_T63 l (i : Int) ∈ l := by
  rw [rd_eq l i h]
  exact List.getElem_mem h
theorem printF_step (l : List Tok) (i : Nat) (h : i < l.length) : printF (l.take (i + 1)) = printF (l.take i) ++ pieceF (rd_T63 l (i : Int)) := by
  rw [rd_eq l i h]
  unfold printF
  rw [List.take_add_one, List.getElem?_eq_getElem h, List.flatMap_append]
  simp

theorem isBuilder_below {B b : Nat} {cs : List Value} {w w' : World} (h : IsBuilder 110 5 B b cs w) (hb : Below w.heap.size w w') : IsBuilder 110 5 B b cs w' := by
  have hat : ∀ p, BuilderAt 110 5 B b p cs w → BuilderAt 110 5 B b p cs w' := by
    rintro p ⟨h1, v, h2, h3, h4⟩
    have hlt : b < w.heap.size := (Array.getElem?_eq_some_iff.1 h2).1
    exact ⟨h1, v, (hb.block _ hlt).trans h2, own_move h3 (fun k hk => hb.block _ (own_lt h3 k hk)), h4⟩
  rcases h with h | h
  · exact .inl (hat _ h)
  · exact .inr (hat _ h)
theorem hb_two {w wr : World} {o : Obj} (h : Below w.heap.size w wr) (h1 : w.heap.size < wr.heap.size) : Below w.heap.size w (wr.alloc o) := h.trans ((Below.refl _ _).alloc (Nat.le_of_lt h1) _)
theorem hexC_ascii (d : Nat) (h : d < 16) : (hexC d).toNat < 128 := by
  have : ((List.range 16).all fun d => decide ((hexC d).toNat < 128)) = true := by decide +kernel
  exact of_decide_eq_true (List.all_eq_true.1 this d (List.mem_range.2 h))
theorem hexS_ascii : ∀ (k n : Nat) (l : List UInt8), (∀ c ∈ l, c.toNat < 128) → ∀ c ∈ hexS k n l, c.toNat < 128
  | 0, n, l, h, c, hc => by
    simp only [hexS, List.mem_cons] at hc
    rcases hc with rfl | hc
    · exact hexC_ascii _ (by omega)
    · exact h c hc
  | k + 1, n, l, h, c, hc => by
    simp only [hexS] at hc
    split at hc
    · rcases List.mem_cons.1 hc with rfl | hc
      · exact hexC_ascii _ (by omega)
      · exact h c hc
    · refine hexS_ascii k _ _ (fun c hc => ?_) c hc
      rcases List.mem_cons.1 hc with rfl | hc
      · exact hexC_ascii _ (by omega)
      · exact h c hc
theorem hexText_ascii (n j : Nat) (b : UInt8) (h : (hexText n)[j]? = some b) : b.toNat < 128 :=
  hexS_ascii 16 n [] (fun _ h => nomatch h) b (List.mem_of_getElem? h)
theorem hexText_len (n : Nat) : (hexText n).length ≤ 140737488355328 := by
  have := hexS_len 16 n []
  unfold hexText
  simp at this
  omega
theorem data_add (a b : ByteArray) : (a ++ b).data.toList = a.data.toList ++ b.data.toList := by simp
theorem size_data (s : ByteArray) : s.size = s.data.toList.length := by rw [Array.length_toList]; rfl
theorem builder_next {B b : Nat} {l : List Tok} {i : Nat} {t : Tok} {s : ByteArray} {w : World} {p : Value} (h : BuilderAt 110 5 B b (.pointer (some ⟨b, 0, none⟩)) (byteCells (printF (l.take i)) ++ strCells s) w)
    (hst : printF (l.take (i + 1)) = printF (l.take i) ++ pieceF t) (hs : s.data.toList = pieceF t) : IsBuilder 110 5 B b (byteCells (printF (l.take (i + 1)))) w := by
  right
  rw [hst]
  have e : byteCells (printF (l.take i) ++ pieceF t) = byteCells (printF (l.take i)) ++ strCells s := by
    rw [← hs]
    simp [byteCells, strCells]
  rw [e]
  exact h

set_option maxRecDepth 100000 in
theorem print_calls (A : Option Addr) (c : Nat) (l : List Tok) (w : World) (hG : Gl w) (hC : Kd.C kT w A l.length l) (hc : l.length ≤ c) (hl : l.length ≤ 1000000) (hs : (printF l).length ≤ 1000000000) (hn : ∀ t, t ∈ l → t.f2 < 9223372036854775808) :
    Calls Tryz.prog 23 #[.slice A l.length c] w fun e w' => e = .returned (.string (bs (printF l))) ∧ Below w.heap.size w w' := by
  have hb0 : Below w.heap.size w (w.alloc (.cells #[.pointer none, .slice none 0 0] 110)) := (Below.refl _ _).alloc (Nat.le_refl _) _
  have hB0 := fresh_isBuilder 110 5 w
  have HG := Aside0.mk hG
  have HC := Aside0.mk hC
  have HN := Aside0.mk hn
  have HS := Aside0.mk hs
  clear hG hC hn hs
  have hll : (l.length : Int) ≤ 1000000 := by omega
  go_enter Tryz.func23, Tryz.ntmps23
  go_wp2
  go_loopg [10] l.length (fun gk v wx => ∃ i : Nat, v = .int .i64 i ∧ i + gk = l.length ∧ IsBuilder 110 5 w.heap.size w.heap.size (byteCells (printF (l.take i))) wx ∧ Below w.heap.size w wx)
  case atStart => exact ⟨0, rfl, by omega, hB0, hb0⟩
  case round =>
    obtain ⟨i, rfl, hg, hB, hb⟩ := hrel
    by_cases hi : i < l.length
    · obtain ⟨gk, rfl⟩ : ∃ g2, gk = g2 + 1 := ⟨gk - 1, by omega⟩
      obtain ⟨ad, rfl, d0, d1, d2, d3⟩ := at_T63 (Kd.C_below HC.out hb) (i : Int) (by omega) (by omega)
      rw [Int.toNat_natCast] at d0 d1 d2 d3
      have hstep := printF_step l i hi
      have htm := rd_mem l i hi
      obtain ⟨t, ht⟩ : ∃ t, rd_T63 l (i : Int) = t := ⟨_, rfl⟩
      rw [ht] at d0 d1 d2 d3 hstep htm
      have hlen : (byteCells (printF (l.take i))).length + (pieceF t).length ≤ 1000000000 := by
        rw [byteCells_length, ← List.length_append, ← hstep]
        exact Nat.le_trans (printF_take l (i + 1)) HS.out
      have hnt := HN.out t htm
      obtain ⟨f0, f1, f2, f3⟩ := t
      have HST := Aside0.mk hstep
      have hii : (i : Int) < l.length := by omega
      have hi0 : (0 : Int) ≤ i := Int.natCast_nonneg _
      have HB := Aside0.mk hB
      have HBL := Aside0.mk hb
      clear hstep htm ht hB hb
      dsimp only at d0 d1 d2 d3 hnt
      have hbw : w.heap.size < wr.heap.size := by have := hb0.size; rcases HB.out with h | h <;> exact h.lt
      by_cases h6 : f0 = 6
      · subst h6
        have hp : pieceF ⟨6, f1, f2, f3⟩ = [10] := by simp [pieceF]
        have hlen2 : (byteCells (printF (l.take i))).length + 1 ≤ 140737488355328 := by omega
        have HP := Aside0.mk hp
        have HL2 := Aside0.mk hlen2
        clear hlen hp hlen2
        go_wp2_with fail
        refine (writeByte_calls _ _ _ _ _ (isBuilder_below HB.out ((Below.refl _ _).alloc (Nat.le_refl _) _)) HL2.out (by simp; omega)).mono ?_
        rintro e w2 ⟨rfl, h1, h2⟩
        have H1 := Aside0.mk h1
        have H2 := Aside0.mk h2
        clear h1 h2
        go_wp2_with fail
        go_roundg gk
        case measure => omega
        case rel => exact ⟨i + 1, rfl, by omega, builder_next (p := .nilIface) (s := ⟨#[10]⟩) H1.out HST.out HP.out.symm, (HBL.out.trans ((Below.refl _ _).alloc (Nat.le_of_lt hbw) _)).trans H2.out⟩
      by_cases h3 : f0 = 3
      · subst h3
        have hp : pieceF ⟨3, f1, f2, f3⟩ = ([60, 85] ++ repeatL [48] (4 - (hexUp f2.toNat).length) ++ hexUp f2.toNat ++ [62]) ++ [32] := by simp [pieceF]
        obtain ⟨n, hn⟩ : ∃ n, n = f2.toNat := ⟨_, rfl⟩
        rw [← hn] at hp
        obtain ⟨u, hu⟩ : ∃ u, u = bs (hexUp n) := ⟨_, rfl⟩
        have hul : u.data.toList = hexUp n := by rw [hu, bs_list]
        have hmx : max f2 0 = (n : Int) := by omega
        have hn63 : n < 9223372036854775808 := by omega
        have hk : (hexUp n).length ≤ 17 := by
          unfold hexUp toUpperA hexText
          rw [List.length_map]
          have := hexS_len 16 n []
          simpa using this
        rw [← hul, ← size_data] at hk
        rw [← hul, ← size_data] at hp
        obtain ⟨z, hz⟩ : ∃ z, z = bs (repeatL [48] (4 - u.size)) := ⟨_, rfl⟩
        have hzl : z.data.toList = repeatL [48] (4 - u.size) := by rw [hz, bs_list]
        rw [← hzl] at hp
        have hzs : z.size ≤ 4 := by rw [size_data, hzl, repeatL_length]; simp
        have hsz : (⟨#[60, 85]⟩ ++ z ++ u ++ ⟨#[62]⟩ ++ ⟨#[32]⟩ : ByteArray).data.toList = pieceF ⟨3, f1, f2, f3⟩ := by rw [hp]; simp only [data_add]
        have hlen2 : (byteCells (printF (l.take i))).length + (⟨#[60, 85]⟩ ++ z ++ u ++ ⟨#[62]⟩ ++ ⟨#[32]⟩ : ByteArray).size ≤ 140737488355328 := by rw [size_data, hsz]; omega
        have hks : (u.size : Int) ≤ 17 := by omega
        have hzi : (z.size : Int) ≤ 4 := by omega
        have hmx2 : max (4 - (u.size : Int)) 0 = ((4 - u.size : Nat) : Int) := by omega
        have HMX := Aside0.mk hmx
        have HMX2 := Aside0.mk hmx2
        have HZ := Aside0.mk hsz
        have HL2 := Aside0.mk hlen2
        have HU : Aside0 ((⟨(toUpperA (bs (hexText n)).data.toList).toArray⟩ : ByteArray) = u) := ⟨by rw [hu, bs_list]; rfl⟩
        have HZZ : Aside0 ((⟨(repeatL (⟨#[48]⟩ : ByteArray).data.toList (4 - u.size)).toArray⟩ : ByteArray) = z) := ⟨hz.symm⟩
        have HRp : Aside0 ((⟨#[48]⟩ : ByteArray).size * (4 - u.size) ≤ 140737488355328) := ⟨by show 1 * _ ≤ _; omega⟩
        clear hsz hlen hp hlen2 h6 hn hu hul hmx hmx2 hk hz hzl hzs
        go_wp2_with fail
        rw [HMX.out]
        refine (formatInt_calls n hn63 _ (HG.out.at_below (hb_two HBL.out hbw))).mono ?_
        rintro e w2 ⟨rfl, h2⟩
        have HB2 := Aside0.mk h2
        clear h2
        go_wp2_with fail
        refine (Tryz.strings_ToUpper_ascii _ _ (by rw [size_data, bs_list]; exact hexText_len n) (fun j b hb => hexText_ascii n j b (by rw [bs_list] at hb; exact hb))).mono ?_
        rintro e w3 ⟨rfl, h2⟩
        rw [HU.out]
        have HB3 := Aside0.mk h2
        clear h2
        go_wp2_with fail
        rw [HMX2.out]
        refine (Tryz.strings_Repeat _ _ _ (by omega) HRp.out).mono ?_
        rintro e w4 ⟨rfl, h2⟩
        rw [HZZ.out]
        have HB4 := Aside0.mk h2
        clear h2
        have hb24 := (HB2.out.trans (HB3.out.mono HB2.out.size)).trans (HB4.out.mono (Nat.le_trans HB2.out.size HB3.out.size))
        have HB24 := Aside0.mk hb24
        clear hb24
        go_wp2_with fail
        refine (writeString_calls _ _ _ _ _ (isBuilder_below (isBuilder_below HB.out ((Below.refl _ _).alloc (Nat.le_refl _) _)) HB24.out) HL2.out (Nat.le_trans (by simp; omega) HB24.out.size)).mono ?_
        rintro e w5 ⟨rfl, h1, h2⟩
        have H1 := Aside0.mk h1
        have H2 := Aside0.mk h2
        clear h1 h2
        go_wp2_with fail
        go_roundg gk
        case measure => omega
        case rel => exact ⟨i + 1, rfl, by omega, builder_next (p := .nilIface) H1.out HST.out HZ.out, ((hb_two HBL.out hbw).trans (HB24.out.mono (by simp; omega))).trans H2.out⟩
      by_cases h5 : f0 = 5
      · subst h5
        have hp : pieceF ⟨5, f1, f2, f3⟩ = ([60] ++ f1.data.toList ++ [62]) ++ [32] := by simp [pieceF]
        have hsz : (⟨#[60]⟩ ++ f1 ++ ⟨#[62]⟩ ++ ⟨#[32]⟩ : ByteArray).data.toList = pieceF ⟨5, f1, f2, f3⟩ := by rw [hp]; simp only [data_add]
        have hlen2 : (byteCells (printF (l.take i))).length + (⟨#[60]⟩ ++ f1 ++ ⟨#[62]⟩ ++ ⟨#[32]⟩ : ByteArray).size ≤ 140737488355328 := by rw [size_data, hsz]; omega
        have hf1 : (f1.size : Int) ≤ 1000000000 := by rw [hp] at hlen; rw [size_data]; simp only [List.length_append] at hlen; omega
        have HZ := Aside0.mk hsz
        have HL2 := Aside0.mk hlen2
        clear hsz hlen hp hlen2 h6 h3
        go_wp2_with fail
        refine (writeString_calls _ _ _ _ _ (isBuilder_below HB.out ((Below.refl _ _).alloc (Nat.le_refl _) _)) HL2.out (by simp; omega)).mono ?_
        rintro e w2 ⟨rfl, h1, h2⟩
        have H1 := Aside0.mk h1
        have H2 := Aside0.mk h2
        clear h1 h2
        go_wp2_with fail
        go_roundg gk
        case measure => omega
        case rel => exact ⟨i + 1, rfl, by omega, builder_next (p := .nilIface) H1.out HST.out HZ.out, (HBL.out.trans ((Below.refl _ _).alloc (Nat.le_of_lt hbw) _)).trans H2.out⟩
      by_cases h4 : f0 = 4
      · subst h4
        have hp : pieceF ⟨4, f1, f2, f3⟩ = ([34] ++ f1.data.toList ++ [34]) ++ [32] := by simp [pieceF]
        have hsz : (⟨#[34]⟩ ++ f1 ++ ⟨#[34]⟩ ++ ⟨#[32]⟩ : ByteArray).data.toList = pieceF ⟨4, f1, f2, f3⟩ := by rw [hp]; simp only [data_add]
        have hlen2 : (byteCells (printF (l.take i))).length + (⟨#[34]⟩ ++ f1 ++ ⟨#[34]⟩ ++ ⟨#[32]⟩ : ByteArray).size ≤ 140737488355328 := by rw [size_data, hsz]; omega
        have hf1 : (f1.size : Int) ≤ 1000000000 := by rw [hp] at hlen; rw [size_data]; simp only [List.length_append] at hlen; omega
        have HZ := Aside0.mk hsz
        have HL2 := Aside0.mk hlen2
        clear hsz hlen hp hlen2 h6 h3 h5
        go_wp2_with fail
        refine (writeString_calls _ _ _ _ _ (isBuilder_below HB.out ((Below.refl _ _).alloc (Nat.le_refl _) _)) HL2.out (by simp; omega)).mono ?_
        rintro e w2 ⟨rfl, h1, h2⟩
        have H1 := Aside0.mk h1
        have H2 := Aside0.mk h2
        clear h1 h2
        go_wp2_with fail
        go_roundg gk
        case measure => omega
        case rel => exact ⟨i + 1, rfl, by omega, builder_next (p := .nilIface) H1.out HST.out HZ.out, (HBL.out.trans ((Below.refl _ _).alloc (Nat.le_of_lt hbw) _)).trans H2.out⟩
      have b6 : ((f0 : Int) == 6) = false := by simp [h6]
      have b5 : ((f0 : Int) == 5) = false := by simp [h5]
      have b4 : ((f0 : Int) == 4) = false := by simp [h4]
      have b3 : ((f0 : Int) == 3) = false := by simp [h3]
      have hp : pieceF ⟨f0, f1, f2, f3⟩ = f1.data.toList ++ [32] := by simp [pieceF, h3, h4, h5, h6]
      have hsz : (f1 ++ ⟨#[32]⟩ : ByteArray).data.toList = pieceF ⟨f0, f1, f2, f3⟩ := by rw [hp]; simp only [data_add]
      have hlen2 : (byteCells (printF (l.take i))).length + (f1 ++ ⟨#[32]⟩ : ByteArray).size ≤ 140737488355328 := by rw [size_data, hsz]; omega
      have hf1 : (f1.size : Int) ≤ 1000000000 := by rw [hp] at hlen; rw [size_data]; simp only [List.length_append] at hlen; omega
      have HZ := Aside0.mk hsz
      have HL2 := Aside0.mk hlen2
      clear hsz hlen hp hlen2 h6 h3 h5 h4
      go_wp2_with fail
      refine (writeString_calls _ _ _ _ _ (isBuilder_below HB.out ((Below.refl _ _).alloc (Nat.le_refl _) _)) HL2.out (by simp; omega)).mono ?_
      rintro e w2 ⟨rfl, h1, h2⟩
      have H1 := Aside0.mk h1
      have H2 := Aside0.mk h2
      clear h1 h2
      go_wp2_with fail
      go_roundg gk
      case measure => omega
      case rel => exact ⟨i + 1, rfl, by omega, builder_next (p := .nilIface) H1.out HST.out HZ.out, (HBL.out.trans ((Below.refl _ _).alloc (Nat.le_of_lt hbw) _)).trans H2.out⟩
    · obtain rfl : i = l.length := by omega
      have hi3 : ((l.length : Int) < l.length) = False := by simp
      rw [List.take_length] at hB
      have HB := Aside0.mk hB
      have HBL := Aside0.mk hb
      clear hB hb
      go_wp2_with fail
      refine (Tryz.Builder_String_any _ _ _ _ HB.out HBL.out.size).mono ?_
      rintro e w2 ⟨rfl, h2⟩
      go_wp2_with fail
      go_ret
      exact ⟨rfl, HBL.out.trans h2⟩
end Go.Proofs.YtipmmkelialgkaaGreatDoor.Lex
