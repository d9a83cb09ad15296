/- strings.IndexAny at the cutset of a stroke and a line's end, for every text: short ones rune by rune, others by the set. -/
import Derived.Test.YtipmmkelialgkaaDoorLexAny
import Derived.Deep.LoopGhost
set_option linter.unusedVariables false
set_option linter.unusedSimpArgs false
namespace Go.Proofs.YtipmmkelialgkaaDoor.Lex
open Go.RowKit Go.Lib Go.Proofs.YtipmmkelialgkaaDoorW.PrintWords Go.Proofs.YtipmmkelialgkaaDoorW.PrintLast Go.Proofs.YtipmmkelialgkaaDoorW.PrintMore Go.Proofs.YtipmmkelialgkaaDoor.PLex

theorem indexRune_any (r : Nat) (hr : r ≤ 1114111) (w : World) :
    Calls Tryd.prog 57 #[.string ⟨#[34, 10]⟩, .int .i32 r] w fun e w' => e = .returned (.int .i64 (if r < 128 then Lib.indexByte [34, 10] r.toUInt8 else -1)) ∧ Below w.heap.size w w' := by
  by_cases h : r < 128
  · rw [if_pos h]
    have e : (r.toUInt8).toNat = r := by simp; omega
    have := indexRune_small r.toUInt8 (by omega) w
    rw [e] at this
    exact this
  · rw [if_neg h]
    exact indexRune_big r (by omega) w

theorem getD_some (L : List UInt8) (j : Nat) (d : UInt8) (h : L[j]? = some d) : L.getD j 0 = d := by rw [List.getD_eq_getElem?_getD, h]; rfl

/-- One rune: a stroke or a line's end stands here; or none among its bytes. -/
theorem any_step (s : ByteArray) (pos : Nat) (hp : pos < s.size) (HN : ∀ (i : Nat) d, i < pos → s.data.toList[i]? = some d → (d == 34 || d == 10) = false) :
    (∃ k : Int, (if (Utf8.decode s pos).1 < 128 then Lib.indexByte [34, 10] (Utf8.decode s pos).1.toUInt8 else -1) = k ∧ 0 ≤ k ∧ strLen s.data.toList = pos) ∨
    ((if (Utf8.decode s pos).1 < 128 then Lib.indexByte [34, 10] (Utf8.decode s pos).1.toUInt8 else -1) = -1 ∧ pos + (Utf8.decode s pos).2 ≤ s.size ∧ ∀ (i : Nat) d, i < pos + (Utf8.decode s pos).2 → s.data.toList[i]? = some d → (d == 34 || d == 10) = false) := by
  have hl : pos < s.data.toList.length := by rw [Array.length_toList]; exact hp
  obtain ⟨c, hc⟩ : ∃ c, s.data.toList[pos]? = some c := ⟨_, List.getElem?_eq_getElem hl⟩
  have hg := getD_some _ _ _ hc
  rcases Nat.lt_or_ge c.toNat 128 with h | h
  · have hd := decode_small s pos hp (by rw [hg]; exact h)
    rw [hg] at hd
    simp only [hd]
    rw [if_pos h]
    have hb : c.toNat.toUInt8 = c := by simp
    rw [hb]
    rcases stroke_ix c with ⟨h1, h2, h3⟩ | ⟨h1, h2⟩
    · exact .inl ⟨_, rfl, h2, strLen_at _ _ _ HN hc h1⟩
    · refine .inr ⟨h2, by omega, fun i d hi hd => ?_⟩
      clear h2
      rcases Nat.lt_or_ge i pos with h4 | h4
      · exact HN i d h4 hd
      · rw [show i = pos by omega, hc] at hd
        injection hd with hd
        rw [← hd]; exact h1
  · obtain ⟨h1, h2⟩ := decode_more s pos hp (by rw [hg]; exact h)
    have h3 := decode_great s pos hp (by rw [hg]; exact h)
    refine .inr ⟨by rw [if_neg (by omega)], h1, fun i d hi hd => ?_⟩
    rcases Nat.lt_or_ge i pos with h4 | h4
    · exact HN i d h4 hd
    · have h5 := h2 (i - pos) (by omega)
      rw [show pos + (i - pos) = i by omega, getD_some _ _ _ hd] at h5
      have n1 : d ≠ 34 := fun e => by rw [e] at h5; exact absurd h5 (by decide)
      have n2 : d ≠ 10 := fun e => by rw [e] at h5; exact absurd h5 (by decide)
      simp [n1, n2]

set_option maxRecDepth 100000 in
set_option maxHeartbeats 1000000 in
theorem indexAny_short (s : ByteArray) (w : World) (h8 : s.size ≤ 8) :
    Calls Tryd.prog 38 #[.string s, .string ⟨#[34, 10]⟩] w fun e w' => e = .returned (.int .i64 (if strLen s.data.toList < s.size then (strLen s.data.toList : Int) else -1)) ∧ Below w.heap.size w w' := by
  obtain ⟨V, hV⟩ : ∃ V : Int, V = (if strLen s.data.toList < s.size then (strLen s.data.toList : Int) else -1) := ⟨_, rfl⟩
  rw [← hV]
  have HV := Aside0.mk hV
  clear hV
  have h8z : decide ((8 : Int) < (s.size : Int)) = false := decide_eq_false (by omega)
  go_enter Tryd.func38, Tryd.ntmps38
  go_wp2_with (go_at_call 58; refine (Tryd.strings_shouldUseASCIISet _ _).mono ?_; rintro e w' ⟨rfl, hw⟩; rw [hw, h8z])
  go_loopg [9, 10] s.size (fun gk _ _ wx => ∃ pos : Nat, pos ≤ s.size ∧ s.size ≤ pos + gk ∧ wx.heap[w.heap.size]? = some (.stringIter s pos) ∧ Below w.heap.size w wx ∧ Aside0 (∀ (i : Nat) d, i < pos → s.data.toList[i]? = some d → (d == 34 || d == 10) = false))
  case atStart => exact ⟨0, Nat.zero_le _, by omega, World.iter_heap w s 0, (Below.refl _ w).alloc (Nat.le_refl _) _, ⟨fun i d hi => absurd hi (by omega)⟩⟩
  case round =>
    obtain ⟨pos, hp, hg, hit, hb, HN⟩ := hrel
    by_cases hps : pos < s.size
    · obtain ⟨g', rfl⟩ : ∃ g', gk = g' + 1 := ⟨gk - 1, by omega⟩
      have hnx : ∀ ty, (Instr.next (.pointer (some ⟨w.heap.size, 0, none⟩)) true ty).run Tryd.prog wr = _ := fun ty => Lib.run_next_any_at wr w.heap.size s pos ty hit hps
      have hrl := Lib.rune_le s pos
      have hwd := Lib.width_pos s pos
      have hst := any_step s pos hps HN.out
      obtain ⟨R, hR⟩ : ∃ R, (Utf8.decode s pos).1 = R := ⟨_, rfl⟩
      obtain ⟨K, hK⟩ : ∃ K, (Utf8.decode s pos).2 = K := ⟨_, rfl⟩
      rw [hR, hK] at hnx hst
      rw [hK] at hwd
      rw [hR] at hrl
      have hit2 := Lib.iterAt_heap wr w.heap.size s pos (pos + K) hit
      have hbw2 := Lib.below_iterAt hb (k := w.heap.size) (Nat.le_refl _) s (pos + K)
      have hlt : w.heap.size < wr.heap.size := (Array.getElem?_eq_some_iff.1 hit).1
      have hlt2 : w.heap.size < (wr.iterAt w.heap.size s (pos + K)).heap.size := by rw [Lib.iterAt_size]; exact hlt
      obtain ⟨W, hWd⟩ : ∃ W, wr.iterAt w.heap.size s (pos + K) = W := ⟨_, rfl⟩
      rw [hWd] at hnx hit2 hbw2 hlt2
      have HI := Aside0.mk hit2
      have HB := Aside0.mk hbw2
      clear hR hK hit hb hit2 hbw2 hlt hWd
      rcases hst with ⟨k, hk, hk0, hS⟩ | ⟨hk, hle, hN⟩
      · have HK := Aside0.mk hk
        have HS := Aside0.mk hS
        clear hk hS
        go_wp2_with (go_at_call 57; refine (indexRune_any R hrl _).mono ?_; rintro e w2 ⟨rfl, hb2⟩; rw [HK.out]; have HB2 := Aside0.mk hb2; clear hb2)
        go_ret
        exact ⟨by rw [HV.out, HS.out, if_pos hps]; rfl, HB.out.trans (HB2.out.mono (Nat.le_of_lt hlt2))⟩
      · have HK := Aside0.mk hk
        have HN2 := Aside0.mk hN
        clear hk hN
        go_wp2_with (go_at_call 57; refine (indexRune_any R hrl _).mono ?_; rintro e w2 ⟨rfl, hb2⟩; rw [HK.out]; have HB2 := Aside0.mk hb2; clear hb2)
        go_roundg g'
        case measure => omega
        case rel => exact ⟨pos + K, by omega, by omega, (HB2.out.block _ hlt2).trans HI.out, HB.out.trans (HB2.out.mono (Nat.le_of_lt hlt2)), HN2⟩
    · have hnx : ∀ ty, (Instr.next (.pointer (some ⟨w.heap.size, 0, none⟩)) true ty).run Tryd.prog wr = _ := fun ty => Lib.run_next_end_at wr w.heap.size s pos ty hit hps
      have hsl : ¬ strLen s.data.toList < s.size := by
        have h1 := strLen_ge s.data.toList s.data.toList.length (Nat.le_refl _) (fun j c hj hc => HN.out j c (by rw [Array.length_toList] at hj; have : s.data.size = s.size := rfl; omega) hc)
        rw [Array.length_toList] at h1
        have : s.data.size = s.size := rfl
        omega
      have HB := Aside0.mk hb
      have HS := Aside0.mk hsl
      clear hb hsl hit
      go_wp2
      go_ret
      exact ⟨by rw [HV.out, if_neg HS.out]; rfl, HB.out⟩

theorem indexAny_any (s : ByteArray) (w : World) (hs : s.size ≤ 1000000) :
    Calls Tryd.prog 38 #[.string s, .string ⟨#[34, 10]⟩] w fun e w' => e = .returned (.int .i64 (if strLen s.data.toList < s.size then (strLen s.data.toList : Int) else -1)) ∧ Below w.heap.size w w' := by
  by_cases h8 : s.size ≤ 8
  · exact indexAny_short s w h8
  · refine (Tryd.strings_IndexAny_long (zero_of_info (n := 256) (by kernel_rfl)).1 s ⟨#[34, 10]⟩ w (by decide) (by omega) (by omega) (by decide) (by intro j b hb; match j, hb with | 0, hb => (injection hb with hb; rw [← hb]; decide) | 1, hb => (injection hb with hb; rw [← hb]; decide))).mono ?_
    rintro e w' ⟨rfl, rfl⟩
    refine ⟨?_, ((Below.refl _ _).alloc (Nat.le_refl _) _).alloc (by simp) _⟩
    rw [indexAny_str, Array.length_toList]
    rfl
end Go.Proofs.YtipmmkelialgkaaDoor.Lex
