/- strconv.ParseUint at base 16, and lex.scalar. -/
import Derived.Test.YtipmmkelialgkaaDoorLexParse
set_option linter.unusedVariables false
set_option linter.unusedSimpArgs false
namespace Go.Proofs.YtipmmkelialgkaaDoor.Lex
open Go.RowKit Go.Lib Go.Proofs.YtipmmkelialgkaaDoorW.PrintWords Go.Proofs.YtipmmkelialgkaaDoorW.PrintLast Go.Proofs.YtipmmkelialgkaaDoorW.PrintMore Go.Proofs.YtipmmkelialgkaaDoor.PLex

/-- The laid variables that the lexer reads. -/
structure Gl (w : World) : Prop where
  err : ∃ ev, w.cell? ⟨7, 0, none⟩ = some ev ∧ (ev = .nilIface ∨ ∃ te pe, ev = .iface te pe)
  tab : w.cell? ⟨6, 15, none⟩ = some (.int .u8 4)
theorem Gl.below {B : Nat} {w w' : World} (h : Gl w) (hb : Below B w w') (h1 : 7 < B) (h2 : 6 < B) : Gl w' := by
  obtain ⟨ev, he, hv⟩ := h.err
  exact ⟨⟨ev, (hb.cell (p := ⟨7, 0, none⟩) h1).trans he, hv⟩, (hb.cell (p := ⟨6, 15, none⟩) h2).trans h.tab⟩
theorem cell_lt {w : World} {b o : Nat} {v : Value} (h : w.cell? ⟨b, o, none⟩ = some v) : b < w.heap.size := by
  refine Nat.lt_of_not_le fun hl => ?_
  have hn : w.heap[b]? = none := Array.getElem?_eq_none hl
  simp [World.cell?, hn] at h
theorem Gl.size {w : World} (h : Gl w) : 7 < w.heap.size ∧ 6 < w.heap.size := by
  obtain ⟨ev, he, hv⟩ := h.err
  exact ⟨cell_lt he, cell_lt h.tab⟩
theorem Gl.at_below {w w' : World} (h : Gl w) (hb : Below w.heap.size w w') : Gl w' := h.below hb h.size.1 h.size.2

theorem below_drewN (B : Nat) (w : World) (n : Nat) : Below B w (w.drewN n) := ⟨rfl, rfl, rfl, Nat.le_refl _, fun _ _ => rfl⟩

def HexPost (w : World) : Option Nat → Ending → World → Prop
  | some v, e, w' => e = .returned (.tuple #[.int .u64 v, .nilIface]) ∧ Below w.heap.size w w'
  | none, e, w' => ∃ N, e = .returned (.tuple #[.int .u64 0, .iface 128 (.pointer (some ⟨N, 0, none⟩))]) ∧ Below w.heap.size w w'

set_option maxRecDepth 100000 in
theorem parseUint_calls (t : ByteArray) (hne : t.size ≠ 0) (hmax : t.size ≤ 6) (w : World) (hG : Gl w) :
    Calls Tryd.prog 64 #[.string t, .int .i64 16, .int .i64 32] w (HexPost w (hexNum t.data.toList 0)) := by
  have hB := bytes_below (Below.refl w.heap.size w) (Nat.le_refl _) 5 t
  cases hx : hexNum t.data.toList 0 with
  | some v =>
    have HX := Aside0.mk hx
    have HB := Aside0.mk hB
    clear hx hB
    go_enter Tryd.func64, Tryd.ntmps64
    go_wp2_with (go_at_call 80; refine (parse16_calls t hne hmax _).mono ?_; rintro e w' ⟨rfl, rfl⟩; rw [HX.out]; unfold hexTuple)
    go_ret2
    exact ⟨rfl, HB.out⟩
  | none =>
    have HX := Aside0.mk hx
    obtain ⟨ev, he, hv⟩ := (hG.at_below hB).err
    have HE := Aside0.mk he
    have HV := Aside0.mk hv
    have HB := Aside0.mk hB
    clear hx hB he hv
    go_enter Tryd.func64, Tryd.ntmps64
    go_wp2_with (first
      | (go_at_call 80; refine (parse16_calls t hne hmax _).mono ?_; rintro e w' ⟨rfl, rfl⟩; rw [HX.out]; unfold hexTuple)
      | (go_at_call 81; refine (Tryd.strconv_toError_syntax _ _ _ _ ev _ (by omega) HE.out HV.out).mono ?_; rintro e w' ⟨N, rfl, _, _, hb⟩; have HB2 := Aside0.mk hb; clear hb))
    go_ret2
    exact ⟨_, rfl, HB.out.trans (HB2.out.mono HB.out.size)⟩

/-- Does a text tell a scalar, and which. -/
theorem scalarR_no {l : List UInt8} (h : ∀ d, l = 85 :: d → False) : scalarR l = none := by
  unfold scalarR
  split
  · rename_i d
    exact (h d rfl).elim
  · rfl

theorem prefix_85 (l : List UInt8) : (∃ d, l = 85 :: d) ∨ Lib.hasPrefix l [85] = false := by
  match l with
  | [] => exact .inr rfl
  | c :: d =>
    by_cases h : c = 85
    · exact .inl ⟨d, by rw [h]⟩
    · right
      simp [Lib.hasPrefix, List.isPrefixOf]
      exact fun e => h e.symm
theorem hexD_lt (c : UInt8) (d : Nat) (h : hexD c = some d) : d < 16 := by
  simp only [hexD] at h
  split at h
  · injection h with h; omega
  · split at h
    · injection h with h; omega
    · split at h
      · injection h with h; omega
      · exact nomatch h
theorem hexNum_pow : ∀ (l : List UInt8) (n v k : Nat), n < 16 ^ k → hexNum l n = some v → v < 16 ^ (k + l.length)
  | [], n, v, k, hn, h => by
    simp only [hexNum] at h
    injection h with h
    rw [← h]
    exact hn
  | c :: r, n, v, k, hn, h => by
    simp only [hexNum] at h
    cases hd : hexD c with
    | none => rw [hd] at h; exact nomatch h
    | some d =>
      rw [hd] at h
      have h' := hexNum_pow r _ v (k + 1) (pow16_step k n d hn (hexD_lt c d hd)) h
      rw [List.length_cons, show k + (r.length + 1) = k + 1 + r.length by omega]
      exact h'
theorem hexNum_lt (l : List UInt8) (v : Nat) (hl : l.length ≤ 6) (h : hexNum l 0 = some v) : v < 16777216 := by
  have h1 := hexNum_pow l 0 v 0 (by decide) h
  have h2 : 16 ^ (0 + l.length) ≤ 16 ^ 6 := Nat.pow_le_pow_right (by decide) (by omega)
  omega

set_option maxRecDepth 100000 in
theorem scalar_calls (t : ByteArray) (w : World) (hG : Gl w) (ht : t.size ≤ 1000000) :
    Calls Tryd.prog 40 #[.string t] w fun e w' => e = .returned (.tuple #[.int .i64 ((scalarR t.data.toList).getD 0 : Nat), .bool (scalarR t.data.toList).isSome]) ∧ Below w.heap.size w w' := by
  rcases prefix_85 t.data.toList with ⟨d, hd⟩ | hn
  · have hs : t.size = d.length + 1 := by
      have h1 : t.data.toList.length = t.size := by rw [Array.length_toList]; rfl
      rw [← h1, hd, List.length_cons]
    obtain ⟨u, hu⟩ : ∃ u, u = bs d := ⟨_, rfl⟩
    have hul : u.data.toList = d := by rw [hu, bs_list]
    have hus : u.size = d.length := by rw [hu, bs_size]
    have h1 : (⟨(Lib.trimPrefix t.data.toList (⟨#[85]⟩ : ByteArray).data.toList).toArray⟩ : ByteArray) = u := by rw [hd, hu]; rfl
    have h2 : Lib.hasPrefix t.data.toList (⟨#[85]⟩ : ByteArray).data.toList = true := by rw [hd]; rfl
    have H1 := Aside0.mk h1
    have H2 := Aside0.mk h2
    have hub : u.size ≤ 1000000 := by omega
    by_cases h4 : 4 ≤ u.size ∧ u.size ≤ 6
    · have hv : scalarR t.data.toList = hexNum u.data.toList 0 := by
        rw [hd, hul]
        simp only [scalarR]
        rw [if_pos (by omega)]
      have k4 : (4 : Int) ≤ u.size := by omega
      have k6 : (u.size : Int) ≤ 6 := by omega
      have k0 : u.size ≠ 0 := by omega
      have k7 : u.size ≤ 6 := by omega
      cases hx : hexNum u.data.toList 0 with
      | some v =>
        rw [hv, hx]
        have HX := Aside0.mk hx
        have hvb := hexNum_lt u.data.toList v (by rw [hul]; omega) hx
        clear hv hx h4 h1 h2 hus hul hu hs hd hub
        go_enter Tryd.func40, Tryd.ntmps40
        go_wp2_with (first
          | (go_at_call 63; refine (Tryd.strings_CutPrefix _ _ _).mono ?_; rintro e w' ⟨rfl, rfl⟩; rw [H1.out, H2.out])
          | (go_at_call 64; refine (parseUint_calls u k0 k7 _ hG).mono ?_; rw [HX.out]; rintro e w' ⟨rfl, hb⟩; have HB := Aside0.mk hb; clear hb))
        have hw : IntKind.i64.wrap (v : Int) = v := IntWalk.i64_in _ (by omega)
        go_quiet (fail)
        go_wp2
        go_ret2
        exact ⟨rfl, HB.out.trans (below_drewN _ _ _)⟩
      | none =>
        rw [hv, hx]
        have HX := Aside0.mk hx
        clear hv hx h4 h1 h2 hus hul hu hs hd hub
        go_enter Tryd.func40, Tryd.ntmps40
        go_wp2_with (first
          | (go_at_call 63; refine (Tryd.strings_CutPrefix _ _ _).mono ?_; rintro e w' ⟨rfl, rfl⟩; rw [H1.out, H2.out])
          | (go_at_call 64; refine (parseUint_calls u k0 k7 _ hG).mono ?_; rw [HX.out]; rintro e w' ⟨N, rfl, hb⟩; have HB := Aside0.mk hb; clear hb))
        go_quiet (fail)
        go_wp2
        go_ret2
        exact ⟨rfl, HB.out.trans (below_drewN _ _ _)⟩
    · have hv : scalarR t.data.toList = none := by
        rw [hd]
        simp only [scalarR]
        rw [if_neg (by omega)]
      rw [hv]
      have k0 : (0 : Int) ≤ u.size := Int.natCast_nonneg _
      by_cases h5 : u.size < 4
      · have k4 : (u.size : Int) < 4 := by omega
        clear hv h4 h5 h1 h2 hus hul hu hs hd hub
        go_enter Tryd.func40, Tryd.ntmps40
        go_wp2_with (first
          | (go_at_call 63; refine (Tryd.strings_CutPrefix _ _ _).mono ?_; rintro e w' ⟨rfl, rfl⟩; rw [H1.out, H2.out]))
        go_ret2
        exact ⟨rfl, Below.refl _ _⟩
      · have k4 : (4 : Int) ≤ u.size := by omega
        have k6 : (6 : Int) < u.size := by omega
        clear hv h4 h5 h1 h2 hus hul hu hs hd hub
        go_enter Tryd.func40, Tryd.ntmps40
        go_wp2_with (first
          | (go_at_call 63; refine (Tryd.strings_CutPrefix _ _ _).mono ?_; rintro e w' ⟨rfl, rfl⟩; rw [H1.out, H2.out]))
        go_ret2
        exact ⟨rfl, Below.refl _ _⟩
  · have hv : scalarR t.data.toList = none := by
      unfold scalarR
      split
      · rename_i d hd
        rw [hd] at hn
        exact nomatch hn
      · rfl
    rw [hv]
    have h1 : (⟨(Lib.trimPrefix t.data.toList (⟨#[85]⟩ : ByteArray).data.toList).toArray⟩ : ByteArray) = t := by
      show (⟨(Lib.trimPrefix t.data.toList [85]).toArray⟩ : ByteArray) = t
      unfold Lib.trimPrefix
      rw [hn]
      exact bs_of t
    have H1 := Aside0.mk h1
    have H2 : Aside0 (Lib.hasPrefix t.data.toList (⟨#[85]⟩ : ByteArray).data.toList = false) := ⟨hn⟩
    clear hv h1 hn
    go_enter Tryd.func40, Tryd.ntmps40
    go_wp2_with (first
      | (go_at_call 63; refine (Tryd.strings_CutPrefix _ _ _).mono ?_; rintro e w' ⟨rfl, rfl⟩; rw [H1.out, H2.out]))
    go_ret2
    exact ⟨rfl, Below.refl _ _⟩
end Go.Proofs.YtipmmkelialgkaaDoor.Lex
