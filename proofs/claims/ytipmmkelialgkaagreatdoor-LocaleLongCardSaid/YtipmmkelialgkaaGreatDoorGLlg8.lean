/- strings.IndexAny at the cutset of a stroke and a line's end, for every text. · strings.IndexAny at the cutset of a stroke and a line's end, for every text: short ones rune by rune, others by the set. -/
import Derived.Test.YtipmmkelialgkaaGreatDoorGLlg6
import Derived.Deep.LoopGhost
set_option linter.unusedVariables false
set_option linter.unusedSimpArgs false
namespace Go.Proofs.YtipmmkelialgkaaGreatDoor.Lex
open Go.RowKit Go.Lib Go.Proofs.YtipmmkelialgkaaGreatDoorW.PrintWords Go.Proofs.YtipmmkelialgkaaGreatDoorW.PrintLast Go.Proofs.YtipmmkelialgkaaGreatDoorW.PrintMore Go.Proofs.YtipmmkelialgkaaGreatDoor.PLex

def Big (E : ByteArray) : Prop := 2 ≤ E.size ∧ E.size ≤ 4 ∧ ∀ (i : Nat) (hi : i < E.size), 128 ≤ (E[i]).toNat
def encC (c : Nat) : ByteArray :=
  if c < 128 then ⟨#[UInt8.ofNat c]⟩
  else if c < 2048 then ⟨#[UInt8.ofNat (192 + c / 64), UInt8.ofNat (128 + c % 64)]⟩
  else if c < 65536 then ⟨#[UInt8.ofNat (224 + c / 4096), UInt8.ofNat (128 + c / 64 % 64), UInt8.ofNat (128 + c % 64)]⟩
  else ⟨#[UInt8.ofNat (240 + c / 262144), UInt8.ofNat (128 + c / 4096 % 64), UInt8.ofNat (128 + c / 64 % 64), UInt8.ofNat (128 + c % 64)]⟩
theorem encode_C (r : Int) : Utf8.encode r = encC (if Utf8.valid r then r.toNat else Utf8.runeError) := rfl
theorem encode_big (r : Nat) (h : 128 ≤ r) : Big (Utf8.encode (r : Int)) := by
  have hc : ∃ c : Nat, (if Utf8.valid (r : Int) then (r : Int).toNat else Utf8.runeError) = c ∧ 128 ≤ c ∧ c ≤ 1114111 := by
    refine ⟨_, rfl, ?_, ?_⟩
    · split <;> simp [Utf8.runeError] <;> omega
    · split
      · rename_i hv
        simp [Utf8.valid] at hv
        omega
      · simp [Utf8.runeError]
  obtain ⟨c, hc, c0, c1⟩ := hc
  rw [encode_C, hc]
  unfold encC
  rw [if_neg (by omega)]
  split
  · refine ⟨Nat.le_refl 2, Nat.le_of_ble_eq_true rfl, fun i hi => ?_⟩
    have : i = 0 ∨ i = 1 := by have : i < 2 := hi; omega
    rcases this with rfl | rfl
    · show 128 ≤ (UInt8.ofNat (0xC0 + c / 64)).toNat
      rw [UInt8.toNat_ofNat']; omega
    · show 128 ≤ (UInt8.ofNat (0x80 + c % 64)).toNat
      rw [UInt8.toNat_ofNat']; omega
  split
  · refine ⟨Nat.le_of_ble_eq_true rfl, Nat.le_of_ble_eq_true rfl, fun i hi => ?_⟩
    have : i = 0 ∨ i = 1 ∨ i = 2 := by have : i < 3 := hi; omega
    rcases this with rfl | rfl | rfl
    · show 128 ≤ (UInt8.ofNat (0xE0 + c / 4096)).toNat
      rw [UInt8.toNat_ofNat']; omega
    · show 128 ≤ (UInt8.ofNat (0x80 + c / 64 % 64)).toNat
      rw [UInt8.toNat_ofNat']; omega
    · show 128 ≤ (UInt8.ofNat (0x80 + c % 64)).toNat
      rw [UInt8.toNat_ofNat']; omega
  · refine ⟨Nat.le_of_ble_eq_true rfl, Nat.le_refl 4, fun i hi => ?_⟩
    have : i = 0 ∨ i = 1 ∨ i = 2 ∨ i = 3 := by have : i < 4 := hi; omega
    rcases this with rfl | rfl | rfl | rfl
    · show 128 ≤ (UInt8.ofNat (0xF0 + c / 262144)).toNat
      rw [UInt8.toNat_ofNat']; omega
    · show 128 ≤ (UInt8.ofNat (0x80 + c / 4096 % 64)).toNat
      rw [UInt8.toNat_ofNat']; omega
    · show 128 ≤ (UInt8.ofNat (0x80 + c / 64 % 64)).toNat
      rw [UInt8.toNat_ofNat']; omega
    · show 128 ≤ (UInt8.ofNat (0x80 + c % 64)).toNat
      rw [UInt8.toNat_ofNat']; omega

set_option maxRecDepth 100000 in
set_option maxHeartbeats 1000000 in
theorem indexRune_big (r : Nat) (h : 128 ≤ r) (w : World) :
    Calls Tryz.prog 142 #[.string ⟨#[34, 10]⟩, .int .i32 r] w fun e w' => e = .returned (.int .i64 (-1)) ∧ Below w.heap.size w w' := by
  have h0 : decide ((r : Int) < 128) = false := by simp; omega
  have hr0 : (0 : Int) ≤ r := Int.natCast_nonneg _
  by_cases he : r = 65533
  · have b1 : ((r : Int) == 65533) = true := by simp [he]
    clear he
    go_enter Tryz.func142, Tryz.ntmps142
    go_wp2_with fail
    go_loopg [] 2 (fun gk wx => ∃ i : Nat, i + gk = 2 ∧ wx = w.iter ⟨#[34, 10]⟩ i)
    case atStart => exact ⟨0, rfl, rfl⟩
    case round =>
      obtain ⟨i, hi, rfl⟩ := hrel
      have hcase : i = 0 ∨ i = 1 ∨ i = 2 := by omega
      rcases hcase with rfl | rfl | rfl
      · have hnx := fun ty => run_next_ascii (P := Tryz.prog) w ⟨#[34, 10]⟩ 0 ty (by decide) (by decide)
        have q1 : (((((⟨#[34, 10]⟩ : ByteArray)[0]'(by decide)).toNat : Int)) == 65533) = false := rfl
        go_wp2_with fail
        go_roundg 1
        case measure => omega
        case rel => exact ⟨1, rfl, rfl⟩
      · have hnx := fun ty => run_next_ascii (P := Tryz.prog) w ⟨#[34, 10]⟩ 1 ty (by decide) (by decide)
        have q1 : (((((⟨#[34, 10]⟩ : ByteArray)[1]'(by decide)).toNat : Int)) == 65533) = false := rfl
        go_wp2_with fail
        go_roundg 0
        case measure => omega
        case rel => exact ⟨2, rfl, rfl⟩
      · have hnx := run_next_end (P := Tryz.prog) w ⟨#[34, 10]⟩ 2
        go_wp2_with fail
        go_ret
        exact ⟨rfl, (Below.refl _ _).alloc (Nat.le_refl _) _⟩
  · have b1 : ((r : Int) == 65533) = false := by simp; omega
    cases hv : Lib.validRune r with
    | false =>
      have HV := Aside0.mk hv
      clear hv
      go_enter Tryz.func142, Tryz.ntmps142
      go_wp2_with (go_at_call 178; refine (Tryz.utf8_ValidRune _ _).mono ?_; rintro e w' ⟨rfl, rfl⟩; rw [HV.out])
      go_ret
      exact ⟨rfl, Below.refl _ _⟩
    | true =>
      have HV := Aside0.mk hv
      clear hv
      obtain ⟨e2, e4, e5⟩ := encode_big r h
      generalize hE : Utf8.encode (r : Int) = E at *
      have q2 : (2 : Int) ≤ E.size := by omega
      have q4 : (E.size : Int) ≤ 4 := by omega
      by_cases h2 : E.size = 2
      · have q3 : (E.size : Int) - 1 = 1 := by omega
        have q5 : (1 : Int) < E.size := by omega
        have q6 : 1 < E.size := by omega
        have q7 := e5 1 q6
        have q8 : (((((⟨#[34, 10]⟩ : ByteArray)[1]'(by decide)).toNat : Int)) != (E[1].toNat : Int)) = true := by
          have : ((⟨#[34, 10]⟩ : ByteArray)[1]'(by decide)) = 10 := rfl
          rw [this, bne_iff_ne]
          intro e
          have e2 : ((10 : UInt8).toNat : Int) = 10 := rfl
          omega
        have q9 : wrap64 ((E.size : Int) - 1) = 1 := by rw [q3, IntWalk.wrap64_in _ (by decide)]
        have w2 : IntKind.i64.wrap (1 + 1) = 2 := IntWalk.i64_in _ (by decide)
        have w3 : IntKind.i64.wrap 2 = 2 := IntWalk.i64_in _ (by decide)
        have hsl : ∀ W, (Instr.slice 9 (.string ⟨#[34, 10]⟩) (some (.int .i64 2)) none none).run Tryz.prog W = .ok (.string ⟨#[]⟩) W := fun _ => by kernel_rfl
        have HI : Aside0 (Lib.indexByte [] ((E[1].toNat : Int)).toNat.toUInt8 = -1) := ⟨rfl⟩
        have HE := Aside0.mk hE
        have Q7 := Aside0.mk q7
        clear e5 h2 q3 e2 e4 hE q7
        go_enter Tryz.func142, Tryz.ntmps142
        go_wp2_with (go_at_call 178; refine (Tryz.utf8_ValidRune _ _).mono ?_; rintro e w' ⟨rfl, rfl⟩; rw [HV.out])
        go_step3
        go_wp2_with fail
        rw [HE.out]
        rw [q9]
        refine wp_loop_rounds 1 ?_
        rw [rounds_succ]
        go_wp2_with fail
        go_step3
        go_wp2_with fail
        go_quiet (fail)
        go_wp2_with fail
        have HB2 : Aside0 (Below w'.heap.size w' (w'.drewN nq)) := ⟨⟨rfl, rfl, rfl, Nat.le_refl _, fun _ _ => rfl⟩⟩
        generalize w'.drewN nq = W2 at HB2 ⊢
        go_quiet ((go_at_call 91; exact Calls.quiet_of_same (Tryz.strings_IndexByte _ _ _)))
        go_wp2_with fail
        simp only [Exit.noGoto_ret, Exit.inBlock, Exit.then]
        go_ret
        exact ⟨rfl, HB2.out.trans ⟨rfl, rfl, rfl, Nat.le_refl _, fun _ _ => rfl⟩⟩
      · have q3 : (2 : Int) ≤ E.size - 1 := by omega
        obtain ⟨m, hm⟩ : ∃ m : Int, m = E.size - 1 := ⟨_, rfl⟩
        have q9 : wrap64 ((E.size : Int) - 1) = m := by rw [IntWalk.wrap64_in _ (by omega)]; exact hm.symm
        rw [← hm] at q3
        have HE := Aside0.mk hE
        have m4 : m ≤ 3 := by omega
        clear e5 h2 e2 e4 hE hm
        go_enter Tryz.func142, Tryz.ntmps142
        go_wp2_with (go_at_call 178; refine (Tryz.utf8_ValidRune _ _).mono ?_; rintro e w' ⟨rfl, rfl⟩; rw [HV.out])
        go_step3
        go_wp2_with fail
        rw [HE.out]
        rw [q9]
        refine wp_loop_rounds 1 ?_
        rw [rounds_succ]
        go_wp2_with fail
        simp only [Exit.noGoto_ret, Exit.inBlock, Exit.then]
        go_ret
        exact ⟨rfl, Below.refl _ _⟩

theorem indexRune_small (c : UInt8) (h : c.toNat < 128) (w : World) :
    Calls Tryz.prog 142 #[.string ⟨#[34, 10]⟩, .int .i32 (c.toNat : Int)] w fun e w' => e = .returned (.int .i64 (Lib.indexByte [34, 10] c)) ∧ Below w.heap.size w w' := by
  refine (Tryz.strings_IndexRune_ascii _ _ _ (Int.natCast_nonneg _) (by omega)).mono ?_
  rintro e w' ⟨rfl, rfl⟩
  exact ⟨by simp, Below.refl _ _⟩
theorem strLen_ge : ∀ (L : List UInt8) (n : Nat), n ≤ L.length → (∀ (j : Nat) c, j < n → L[j]? = some c → (c == 34 || c == 10) = false) → n ≤ strLen L
  | [], n, h, _ => by simp at h; omega
  | d :: L, 0, _, _ => Nat.zero_le _
  | d :: L, n + 1, h, hn => by
    have h0 := hn 0 d (by omega) rfl
    have ih := strLen_ge L n (by simp at h; omega) (fun j c hj hc => hn (j + 1) c (by omega) (by simpa using hc))
    simp only [strLen, h0, Bool.false_eq_true, if_false]
    omega
theorem strLen_before : ∀ (L : List UInt8) (j : Nat) (c : UInt8), j < strLen L → L[j]? = some c → (c == 34 || c == 10) = false
  | [], j, c, h, _ => by simp [strLen] at h
  | d :: L, j, c, h, hc => by
    simp only [strLen] at h
    cases hd : (d == 34 || d == 10) with
    | true => rw [hd] at h; simp at h
    | false =>
      rw [hd] at h
      simp only [Bool.false_eq_true, if_false] at h
      match j with
      | 0 => have e : d = c := by simpa using hc
             rw [← e]; exact hd
      | j + 1 => exact strLen_before L j c (by omega) (by simpa using hc)
theorem strLen_at (L : List UInt8) (j : Nat) (c : UInt8) (h : ∀ (i : Nat) d, i < j → L[i]? = some d → (d == 34 || d == 10) = false) (hj : L[j]? = some c) (hc : (c == 34 || c == 10) = true) : strLen L = j := by
  have hl : j < L.length := (List.getElem?_eq_some_iff.1 hj).1
  have h1 := strLen_ge L j (by omega) h
  rcases Nat.lt_or_ge j (strLen L) with h2 | h2
  · have := strLen_before L j c h2 hj
    rw [hc] at this; cases this
  · omega
theorem decode_more (s : ByteArray) (p : Nat) (h : p < s.size) (ha : 128 ≤ (s.data.toList.getD p 0).toNat) :
    p + (Utf8.decode s p).2 ≤ s.size ∧ ∀ j, j < (Utf8.decode s p).2 → 128 ≤ (s.data.toList.getD (p + j) 0).toNat := by
  rw [decode_at]
  have g0 := get_getD s p h
  rw [g0]
  have hn : 1 ≤ s.size - p := by omega
  have g : ∀ j, j < s.size - p → s.get! (p + j) = s.data.toList.getD (p + j) 0 := fun j hj => get_getD s (p + j) (by omega)
  have c1 : ∀ j, j < s.size - p → (s.get! (p + j)).toNat / 64 = 2 → 128 ≤ (s.data.toList.getD (p + j) 0).toNat := fun j hj h2 => by rw [← g j hj]; omega
  unfold decodeN
  rw [if_neg (by omega)]
  have z : ∀ j, j < 1 → 128 ≤ (s.data.toList.getD (p + j) 0).toNat := fun j hj => by
    obtain rfl : j = 0 := by omega
    exact ha
  split
  · rename_i q
    split
    · refine ⟨by simp only; omega, fun j hj => ?_⟩
      have : j = 0 ∨ j = 1 := by simp only at hj; omega
      rcases this with rfl | rfl
      · exact ha
      · exact c1 1 (by omega) q.2.2
    · exact ⟨by simp only; omega, z⟩
  split
  · rename_i q
    split
    · refine ⟨by simp only; omega, fun j hj => ?_⟩
      have : j = 0 ∨ j = 1 ∨ j = 2 := by simp only at hj; omega
      rcases this with rfl | rfl | rfl
      · exact ha
      · exact c1 1 (by omega) q.2.1.2
      · exact c1 2 (by omega) q.2.2.2
    · exact ⟨by simp only; omega, z⟩
  split
  · rename_i q
    split
    · refine ⟨by simp only; omega, fun j hj => ?_⟩
      have : j = 0 ∨ j = 1 ∨ j = 2 ∨ j = 3 := by simp only at hj; omega
      rcases this with rfl | rfl | rfl | rfl
      · exact ha
      · exact c1 1 (by omega) q.2.1.2
      · exact c1 2 (by omega) q.2.2.1.2
      · exact c1 3 (by omega) q.2.2.2.2
    · exact ⟨by simp only; omega, z⟩
  · exact ⟨by simp only; omega, z⟩
theorem decode_small (s : ByteArray) (p : Nat) (h : p < s.size) (ha : (s.data.toList.getD p 0).toNat < 128) : Utf8.decode s p = ((s.data.toList.getD p 0).toNat, 1) := by
  rw [decode_at, get_getD s p h]
  unfold decodeN
  rw [if_pos ha]
theorem decode_great (s : ByteArray) (p : Nat) (h : p < s.size) (ha : 128 ≤ (s.data.toList.getD p 0).toNat) : 128 ≤ (Utf8.decode s p).1 := by
  rw [decode_at, get_getD s p h]
  exact decodeN_big _ _ _ _ _ ha
theorem stroke_ix (c : UInt8) : (c == 34 || c == 10) = true ∧ 0 ≤ Lib.indexByte [34, 10] c ∧ Lib.indexByte [34, 10] c ≤ 1 ∨ (c == 34 || c == 10) = false ∧ Lib.indexByte [34, 10] c = -1 := by
  by_cases h1 : c = 34
  · subst h1; left; decide
  by_cases h2 : c = 10
  · subst h2; left; decide
  right
  have e1 : ((34 : UInt8) == c) = false := beq_eq_false_iff_ne.2 (Ne.symm h1)
  have e2 : ((10 : UInt8) == c) = false := beq_eq_false_iff_ne.2 (Ne.symm h2)
  exact ⟨by simp [h1, h2], by simp [Lib.indexByte, e1, e2]⟩
end Go.Proofs.YtipmmkelialgkaaGreatDoor.Lex
set_option linter.unusedVariables false
set_option linter.unusedSimpArgs false
namespace Go.Proofs.YtipmmkelialgkaaGreatDoor.Lex
open Go.RowKit Go.Lib Go.Proofs.YtipmmkelialgkaaGreatDoorW.PrintWords Go.Proofs.YtipmmkelialgkaaGreatDoorW.PrintLast Go.Proofs.YtipmmkelialgkaaGreatDoorW.PrintMore Go.Proofs.YtipmmkelialgkaaGreatDoor.PLex

theorem indexRune_any (r : Nat) (hr : r ≤ 1114111) (w : World) :
    Calls Tryz.prog 142 #[.string ⟨#[34, 10]⟩, .int .i32 r] w fun e w' => e = .returned (.int .i64 (if r < 128 then Lib.indexByte [34, 10] r.toUInt8 else -1)) ∧ Below w.heap.size w w' := by
  by_cases h : r < 128
  · rw [if_pos h]
    have e : (r.toUInt8).toNat = r := by simp; omega
    have := indexRune_small r.toUInt8 (by omega) w
    rw [e] at this
    exact this
  · rw [if_neg h]
    exact indexRune_big r (by omega) w

theorem getD_some (L : List UInt8) (j : Nat) (d : UInt8) (h : L[j]? = some d) : L.getD j 0 = d := by rw [List.getD_eq_getElem?_getD, h]; rfl

/-- One rune: a stroke or a line's end stands here; or none among its bytes. -/
theorem any_step (s : ByteArray) (pos : Nat) (hp : pos < s.size) (HN : ∀ (i : Nat) d, i < pos → s.data.toList[i]? = some d → (d == 34 || d == 10) = false) :
    (∃ k : Int, (if (Utf8.decode s pos).1 < 128 then Lib.indexByte [34, 10] (Utf8.decode s pos).1.toUInt8 else -1) = k ∧ 0 ≤ k ∧ strLen s.data.toList = pos) ∨
    ((if (Utf8.decode s pos).1 < 128 then Lib.indexByte [34, 10] (Utf8.decode s pos).1.toUInt8 else -1) = -1 ∧ pos + (Utf8.decode s pos).2 ≤ s.size ∧ ∀ (i : Nat) d, i < pos + (Utf8.decode s pos).2 → s.data.toList[i]? = some d → (d == 34 || d == 10) = false) := by
  have hl : pos < s.data.toList.length := by rw [Array.length_toList]; exact hp
  obtain ⟨c, hc⟩ : ∃ c, s.data.toList[pos]? = some c := ⟨_, List.getElem?_eq_getElem hl⟩
  have hg := getD_some _ _ _ hc
  rcases Nat.lt_or_ge c.toNat 128 with h | h
  · have hd := decode_small s pos hp (by rw [hg]; exact h)
    rw [hg] at hd
    simp only [hd]
    rw [if_pos h]
    have hb : c.toNat.toUInt8 = c := by simp
    rw [hb]
    rcases stroke_ix c with ⟨h1, h2, h3⟩ | ⟨h1, h2⟩
    · exact .inl ⟨_, rfl, h2, strLen_at _ _ _ HN hc h1⟩
    · refine .inr ⟨h2, by omega, fun i d hi hd => ?_⟩
      clear h2
      rcases Nat.lt_or_ge i pos with h4 | h4
      · exact HN i d h4 hd
      · rw [show i = pos by omega, hc] at hd
        injection hd with hd
        rw [← hd]; exact h1
  · obtain ⟨h1, h2⟩ := decode_more s pos hp (by rw [hg]; exact h)
    have h3 := decode_great s pos hp (by rw [hg]; exact h)
    refine .inr ⟨by rw [if_neg (by omega)], h1, fun i d hi hd => ?_⟩
    rcases Nat.lt_or_ge i pos with h4 | h4
    · exact HN i d h4 hd
    · have h5 := h2 (i - pos) (by omega)
      rw [show pos + (i - pos) = i by omega, getD_some _ _ _ hd] at h5
      have n1 : d ≠ 34 := fun e => by rw [e] at h5; exact absurd h5 (by decide)
      have n2 : d ≠ 10 := fun e => by rw [e] at h5; exact absurd h5 (by decide)
      simp [n1, n2]

set_option maxRecDepth 100000 in
set_option maxHeartbeats 1000000 in
theorem indexAny_short (s : ByteArray) (w : World) (h8 : s.size ≤ 8) :
    Calls Tryz.prog 100 #[.string s, .string ⟨#[34, 10]⟩] w fun e w' => e = .returned (.int .i64 (if strLen s.data.toList < s.size then (strLen s.data.toList : Int) else -1)) ∧ Below w.heap.size w w' := by
  obtain ⟨V, hV⟩ : ∃ V : Int, V = (if strLen s.data.toList < s.size then (strLen s.data.toList : Int) else -1) := ⟨_, rfl⟩
  rw [← hV]
  have HV := Aside0.mk hV
  clear hV
  have h8z : decide ((8 : Int) < (s.size : Int)) = false := decide_eq_false (by omega)
  go_enter Tryz.func100, Tryz.ntmps100
  go_wp2_with (go_at_call 143; refine (Tryz.strings_shouldUseASCIISet _ _).mono ?_; rintro e w' ⟨rfl, hw⟩; rw [hw, h8z])
  go_loopg [9, 10] s.size (fun gk _ _ wx => ∃ pos : Nat, pos ≤ s.size ∧ s.size ≤ pos + gk ∧ wx.heap[w.heap.size]? = some (.stringIter s pos) ∧ Below w.heap.size w wx ∧ Aside0 (∀ (i : Nat) d, i < pos → s.data.toList[i]? = some d → (d == 34 || d == 10) = false))
  case atStart => exact ⟨0, Nat.zero_le _, by omega, World.iter_heap w s 0, (Below.refl _ w).alloc (Nat.le_refl _) _, ⟨fun i d hi => absurd hi (by omega)⟩⟩
  case round =>
    obtain ⟨pos, hp, hg, hit, hb, HN⟩ := hrel
    by_cases hps : pos < s.size
    · obtain ⟨g', rfl⟩ : ∃ g', gk = g' + 1 := ⟨gk - 1, by omega⟩
      have hnx : ∀ ty, (Instr.next (.pointer (some ⟨w.heap.size, 0, none⟩)) true ty).run Tryz.prog wr = _ := fun ty => Lib.run_next_any_at wr w.heap.size s pos ty hit hps
      have hrl := Lib.rune_le s pos
      have hwd := Lib.width_pos s pos
      have hst := any_step s pos hps HN.out
      obtain ⟨R, hR⟩ : ∃ R, (Utf8.decode s pos).1 = R := ⟨_, rfl⟩
      obtain ⟨K, hK⟩ : ∃ K, (Utf8.decode s pos).2 = K := ⟨_, rfl⟩
      rw [hR, hK] at hnx hst
      rw [hK] at hwd
      rw [hR] at hrl
      have hit2 := Lib.iterAt_heap wr w.heap.size s pos (pos + K) hit
      have hbw2 := Lib.below_iterAt hb (k := w.heap.size) (Nat.le_refl _) s (pos + K)
      have hlt : w.heap.size < wr.heap.size := (Array.getElem?_eq_some_iff.1 hit).1
      have hlt2 : w.heap.size < (wr.iterAt w.heap.size s (pos + K)).heap.size := by rw [Lib.iterAt_size]; exact hlt
      obtain ⟨W, hWd⟩ : ∃ W, wr.iterAt w.heap.size s (pos + K) = W := ⟨_, rfl⟩
      rw [hWd] at hnx hit2 hbw2 hlt2
      have HI := Aside0.mk hit2
      have HB := Aside0.mk hbw2
      clear hR hK hit hb hit2 hbw2 hlt hWd
      rcases hst with ⟨k, hk, hk0, hS⟩ | ⟨hk, hle, hN⟩
      · have HK := Aside0.mk hk
        have HS := Aside0.mk hS
        clear hk hS
        go_wp2_with (go_at_call 142; refine (indexRune_any R hrl _).mono ?_; rintro e w2 ⟨rfl, hb2⟩; rw [HK.out]; have HB2 := Aside0.mk hb2; clear hb2)
        go_ret
        exact ⟨by rw [HV.out, HS.out, if_pos hps]; rfl, HB.out.trans (HB2.out.mono (Nat.le_of_lt hlt2))⟩
      · have HK := Aside0.mk hk
        have HN2 := Aside0.mk hN
        clear hk hN
        go_wp2_with (go_at_call 142; refine (indexRune_any R hrl _).mono ?_; rintro e w2 ⟨rfl, hb2⟩; rw [HK.out]; have HB2 := Aside0.mk hb2; clear hb2)
        go_roundg g'
        case measure => omega
        case rel => exact ⟨pos + K, by omega, by omega, (HB2.out.block _ hlt2).trans HI.out, HB.out.trans (HB2.out.mono (Nat.le_of_lt hlt2)), HN2⟩
    · have hnx : ∀ ty, (Instr.next (.pointer (some ⟨w.heap.size, 0, none⟩)) true ty).run Tryz.prog wr = _ := fun ty => Lib.run_next_end_at wr w.heap.size s pos ty hit hps
      have hsl : ¬ strLen s.data.toList < s.size := by
        have h1 := strLen_ge s.data.toList s.data.toList.length (Nat.le_refl _) (fun j c hj hc => HN.out j c (by rw [Array.length_toList] at hj; have : s.data.size = s.size := rfl; omega) hc)
        rw [Array.length_toList] at h1
        have : s.data.size = s.size := rfl
        omega
      have HB := Aside0.mk hb
      have HS := Aside0.mk hsl
      clear hb hsl hit
      go_wp2
      go_ret
      exact ⟨by rw [HV.out, if_neg HS.out]; rfl, HB.out⟩

theorem indexAny_any (s : ByteArray) (w : World) (hs : s.size ≤ 1000000) :
    Calls Tryz.prog 100 #[.string s, .string ⟨#[34, 10]⟩] w fun e w' => e = .returned (.int .i64 (if strLen s.data.toList < s.size then (strLen s.data.toList : Int) else -1)) ∧ Below w.heap.size w w' := by
  by_cases h8 : s.size ≤ 8
  · exact indexAny_short s w h8
  · refine (Tryz.strings_IndexAny_long (zero_of_info (n := 256) (by kernel_rfl)).1 s ⟨#[34, 10]⟩ w (by decide) (by omega) (by omega) (by decide) (by intro j b hb; match j, hb with | 0, hb => (injection hb with hb; rw [← hb]; decide) | 1, hb => (injection hb with hb; rw [← hb]; decide))).mono ?_
    rintro e w' ⟨rfl, rfl⟩
    refine ⟨?_, ((Below.refl _ _).alloc (Nat.le_refl _) _).alloc (by simp) _⟩
    rw [indexAny_str, Array.length_toList]
    rfl
end Go.Proofs.YtipmmkelialgkaaGreatDoor.Lex
