/- lex.Print: a definition's tokens as text. · Plain facts on the lexer's words: digits written and read; a word and its end. -/
import Derived.Test.YtipmmkelialgkaaGreatDoorGLlg17
import Derived.Test.YtipmmkelialgkaaGreatDoorGLlg3
set_option linter.unusedVariables false
set_option linter.unusedSimpArgs false
namespace Go.Proofs.YtipmmkelialgkaaGreatDoor.Lex
open Go.RowKit Go.Lib Go.Proofs.YtipmmkelialgkaaGreatDoorW.PrintWords Go.Proofs.YtipmmkelialgkaaGreatDoorW.PrintLast Go.Proofs.YtipmmkelialgkaaGreatDoorW.PrintMore Go.Proofs.YtipmmkelialgkaaGreatDoor.PLex

/-- A number's digits, great. -/
def hexUp (n : Nat) : List UInt8 := toUpperA (hexText n)
/-- A token as text. -/
def pieceF (t : Tok) : List UInt8 :=
  if t.f0 = 6 then [10]
  else if t.f0 = 3 then ([60, 85] ++ repeatL [48] (4 - (hexUp t.f2.toNat).length) ++ hexUp t.f2.toNat ++ [62]) ++ [32]
  else if t.f0 = 5 then ([60] ++ t.f1.data.toList ++ [62]) ++ [32]
  else if t.f0 = 4 then ([34] ++ t.f1.data.toList ++ [34]) ++ [32]
  else t.f1.data.toList ++ [32]
def printF (l : List Tok) : List UInt8 := l.flatMap pieceF

theorem printF_take (l : List Tok) (i : Nat) : (printF (l.take i)).length ≤ (printF l).length := by
  have h : printF l = printF (l.take i) ++ printF (l.drop i) := by
    unfold printF
    rw [← List.flatMap_append, List.take_append_drop]
  rw [h, List.length_append]
  omega
theorem rd_eq (l : List Tok) (i : Nat) (h : i < l.length) : rd_T63 l (i : Int) = l[i] := by
  simp [rd_T63, List.getElem?_eq_getElem h]
theorem rd_mem (l : List Tok) (i : Nat) (h : i < l.length) : rd_T63 l (i : Int) ∈ l := by
  rw [rd_eq l i h]
  exact List.getElem_mem h
theorem printF_step (l : List Tok) (i : Nat) (h : i < l.length) : printF (l.take (i + 1)) = printF (l.take i) ++ pieceF (rd_T63 l (i : Int)) := by
  rw [rd_eq l i h]
  unfold printF
  rw [List.take_add_one, List.getElem?_eq_getElem h, List.flatMap_append]
  simp

theorem isBuilder_below {B b : Nat} {cs : List Value} {w w' : World} (h : IsBuilder 110 5 B b cs w) (hb : Below w.heap.size w w') : IsBuilder 110 5 B b cs w' := by
  have hat : ∀ p, BuilderAt 110 5 B b p cs w → BuilderAt 110 5 B b p cs w' := by
    rintro p ⟨h1, v, h2, h3, h4⟩
    have hlt : b < w.heap.size := (Array.getElem?_eq_some_iff.1 h2).1
    exact ⟨h1, v, (hb.block _ hlt).trans h2, own_move h3 (fun k hk => hb.block _ (own_lt h3 k hk)), h4⟩
  rcases h with h | h
  · exact .inl (hat _ h)
  · exact .inr (hat _ h)
theorem hb_two {w wr : World} {o : Obj} (h : Below w.heap.size w wr) (h1 : w.heap.size < wr.heap.size) : Below w.heap.size w (wr.alloc o) := h.trans ((Below.refl _ _).alloc (Nat.le_of_lt h1) _)
theorem hexC_ascii (d : Nat) (h : d < 16) : (hexC d).toNat < 128 := by
  have : ((List.range 16).all fun d => decide ((hexC d).toNat < 128)) = true := by decide +kernel
  exact of_decide_eq_true (List.all_eq_true.1 this d (List.mem_range.2 h))
theorem hexS_ascii : ∀ (k n : Nat) (l : List UInt8), (∀ c ∈ l, c.toNat < 128) → ∀ c ∈ hexS k n l, c.toNat < 128
  | 0, n, l, h, c, hc => by
    simp only [hexS, List.mem_cons] at hc
    rcases hc with rfl | hc
    · exact hexC_ascii _ (by omega)
    · exact h c hc
  | k + 1, n, l, h, c, hc => by
    simp only [hexS] at hc
    split at hc
    · rcases List.mem_cons.1 hc with rfl | hc
      · exact hexC_ascii _ (by omega)
      · exact h c hc
    · refine hexS_ascii k _ _ (fun c hc => ?_) c hc
      rcases List.mem_cons.1 hc with rfl | hc
      · exact hexC_ascii _ (by omega)
      · exact h c hc
theorem hexText_ascii (n j : Nat) (b : UInt8) (h : (hexText n)[j]? = some b) : b.toNat < 128 :=
  hexS_ascii 16 n [] (fun _ h => nomatch h) b (List.mem_of_getElem? h)
theorem hexText_len (n : Nat) : (hexText n).length ≤ 140737488355328 := by
  have := hexS_len 16 n []
  unfold hexText
  simp at this
  omega
theorem data_add (a b : ByteArray) : (a ++ b).data.toList = a.data.toList ++ b.data.toList := by simp
theorem size_data (s : ByteArray) : s.size = s.data.toList.length := by rw [Array.length_toList]; rfl
theorem builder_next {B b : Nat} {l : List Tok} {i : Nat} {t : Tok} {s : ByteArray} {w : World} {p : Value} (h : BuilderAt 110 5 B b (.pointer (some ⟨b, 0, none⟩)) (byteCells (printF (l.take i)) ++ strCells s) w)
    (hst : printF (l.take (i + 1)) = printF (l.take i) ++ pieceF t) (hs : s.data.toList = pieceF t) : IsBuilder 110 5 B b (byteCells (printF (l.take (i + 1)))) w := by
  right
  rw [hst]
  have e : byteCells (printF (l.take i) ++ pieceF t) = byteCells (printF (l.take i)) ++ strCells s := by
    rw [← hs]
    simp [byteCells, strCells]
  rw [e]
  exact h

set_option maxRecDepth 100000 in
theorem print_calls (A : Option Addr) (c : Nat) (l : List Tok) (w : World) (hG : Gl w) (hC : Kd.C kT w A l.length l) (hc : l.length ≤ c) (hl : l.length ≤ 1000000) (hs : (printF l).length ≤ 1000000000) (hn : ∀ t, t ∈ l → t.f2 < 9223372036854775808) :
    Calls Tryz.prog 23 #[.slice A l.length c] w fun e w' => e = .returned (.string (bs (printF l))) ∧ Below w.heap.size w w' := by
  have hb0 : Below w.heap.size w (w.alloc (.cells #[.pointer none, .slice none 0 0] 110)) := (Below.refl _ _).alloc (Nat.le_refl _) _
  have hB0 := fresh_isBuilder 110 5 w
  have HG := Aside0.mk hG
  have HC := Aside0.mk hC
  have HN := Aside0.mk hn
  have HS := Aside0.mk hs
  clear hG hC hn hs
  have hll : (l.length : Int) ≤ 1000000 := by omega
  go_enter Tryz.func23, Tryz.ntmps23
  go_wp2
  go_loopg [10] l.length (fun gk v wx => ∃ i : Nat, v = .int .i64 i ∧ i + gk = l.length ∧ IsBuilder 110 5 w.heap.size w.heap.size (byteCells (printF (l.take i))) wx ∧ Below w.heap.size w wx)
  case atStart => exact ⟨0, rfl, by omega, hB0, hb0⟩
  case round =>
    obtain ⟨i, rfl, hg, hB, hb⟩ := hrel
    by_cases hi : i < l.length
    · obtain ⟨gk, rfl⟩ : ∃ g2, gk = g2 + 1 := ⟨gk - 1, by omega⟩
      obtain ⟨ad, rfl, d0, d1, d2, d3⟩ := at_T63 (Kd.C_below HC.out hb) (i : Int) (by omega) (by omega)
      rw [Int.toNat_natCast] at d0 d1 d2 d3
      have hstep := printF_step l i hi
      have htm := rd_mem l i hi
      obtain ⟨t, ht⟩ : ∃ t, rd_T63 l (i : Int) = t := ⟨_, rfl⟩
      rw [ht] at d0 d1 d2 d3 hstep htm
      have hlen : (byteCells (printF (l.take i))).length + (pieceF t).length ≤ 1000000000 := by
        rw [byteCells_length, ← List.length_append, ← hstep]
        exact Nat.le_trans (printF_take l (i + 1)) HS.out
      have hnt := HN.out t htm
      obtain ⟨f0, f1, f2, f3⟩ := t
      have HST := Aside0.mk hstep
      have hii : (i : Int) < l.length := by omega
      have hi0 : (0 : Int) ≤ i := Int.natCast_nonneg _
      have HB := Aside0.mk hB
      have HBL := Aside0.mk hb
      clear hstep htm ht hB hb
      dsimp only at d0 d1 d2 d3 hnt
      have hbw : w.heap.size < wr.heap.size := by have := hb0.size; rcases HB.out with h | h <;> exact h.lt
      by_cases h6 : f0 = 6
      · subst h6
        have hp : pieceF ⟨6, f1, f2, f3⟩ = [10] := by simp [pieceF]
        have hlen2 : (byteCells (printF (l.take i))).length + 1 ≤ 140737488355328 := by omega
        have HP := Aside0.mk hp
        have HL2 := Aside0.mk hlen2
        clear hlen hp hlen2
        go_wp2_with fail
        refine (writeByte_calls _ _ _ _ _ (isBuilder_below HB.out ((Below.refl _ _).alloc (Nat.le_refl _) _)) HL2.out (by simp; omega)).mono ?_
        rintro e w2 ⟨rfl, h1, h2⟩
        have H1 := Aside0.mk h1
        have H2 := Aside0.mk h2
        clear h1 h2
        go_wp2_with fail
        go_roundg gk
        case measure => omega
        case rel => exact ⟨i + 1, rfl, by omega, builder_next (p := .nilIface) (s := ⟨#[10]⟩) H1.out HST.out HP.out.symm, (HBL.out.trans ((Below.refl _ _).alloc (Nat.le_of_lt hbw) _)).trans H2.out⟩
      by_cases h3 : f0 = 3
      · subst h3
        have hp : pieceF ⟨3, f1, f2, f3⟩ = ([60, 85] ++ repeatL [48] (4 - (hexUp f2.toNat).length) ++ hexUp f2.toNat ++ [62]) ++ [32] := by simp [pieceF]
        obtain ⟨n, hn⟩ : ∃ n, n = f2.toNat := ⟨_, rfl⟩
        rw [← hn] at hp
        obtain ⟨u, hu⟩ : ∃ u, u = bs (hexUp n) := ⟨_, rfl⟩
        have hul : u.data.toList = hexUp n := by rw [hu, bs_list]
        have hmx : max f2 0 = (n : Int) := by omega
        have hn63 : n < 9223372036854775808 := by omega
        have hk : (hexUp n).length ≤ 17 := by
          unfold hexUp toUpperA hexText
          rw [List.length_map]
          have := hexS_len 16 n []
          simpa using this
        rw [← hul, ← size_data] at hk
        rw [← hul, ← size_data] at hp
        obtain ⟨z, hz⟩ : ∃ z, z = bs (repeatL [48] (4 - u.size)) := ⟨_, rfl⟩
        have hzl : z.data.toList = repeatL [48] (4 - u.size) := by rw [hz, bs_list]
        rw [← hzl] at hp
        have hzs : z.size ≤ 4 := by rw [size_data, hzl, repeatL_length]; simp
        have hsz : (⟨#[60, 85]⟩ ++ z ++ u ++ ⟨#[62]⟩ ++ ⟨#[32]⟩ : ByteArray).data.toList = pieceF ⟨3, f1, f2, f3⟩ := by rw [hp]; simp only [data_add]
        have hlen2 : (byteCells (printF (l.take i))).length + (⟨#[60, 85]⟩ ++ z ++ u ++ ⟨#[62]⟩ ++ ⟨#[32]⟩ : ByteArray).size ≤ 140737488355328 := by rw [size_data, hsz]; omega
        have hks : (u.size : Int) ≤ 17 := by omega
        have hzi : (z.size : Int) ≤ 4 := by omega
        have hmx2 : max (4 - (u.size : Int)) 0 = ((4 - u.size : Nat) : Int) := by omega
        have HMX := Aside0.mk hmx
        have HMX2 := Aside0.mk hmx2
        have HZ := Aside0.mk hsz
        have HL2 := Aside0.mk hlen2
        have HU : Aside0 ((⟨(toUpperA (bs (hexText n)).data.toList).toArray⟩ : ByteArray) = u) := ⟨by rw [hu, bs_list]; rfl⟩
        have HZZ : Aside0 ((⟨(repeatL (⟨#[48]⟩ : ByteArray).data.toList (4 - u.size)).toArray⟩ : ByteArray) = z) := ⟨hz.symm⟩
        have HRp : Aside0 ((⟨#[48]⟩ : ByteArray).size * (4 - u.size) ≤ 140737488355328) := ⟨by show 1 * _ ≤ _; omega⟩
        clear hsz hlen hp hlen2 h6 hn hu hul hmx hmx2 hk hz hzl hzs
        go_wp2_with fail
        rw [HMX.out]
        refine (formatInt_calls n hn63 _ (HG.out.at_below (hb_two HBL.out hbw))).mono ?_
        rintro e w2 ⟨rfl, h2⟩
        have HB2 := Aside0.mk h2
        clear h2
        go_wp2_with fail
        refine (Tryz.strings_ToUpper_ascii _ _ (by rw [size_data, bs_list]; exact hexText_len n) (fun j b hb => hexText_ascii n j b (by rw [bs_list] at hb; exact hb))).mono ?_
        rintro e w3 ⟨rfl, h2⟩
        rw [HU.out]
        have HB3 := Aside0.mk h2
        clear h2
        go_wp2_with fail
        rw [HMX2.out]
        refine (Tryz.strings_Repeat _ _ _ (by omega) HRp.out).mono ?_
        rintro e w4 ⟨rfl, h2⟩
        rw [HZZ.out]
        have HB4 := Aside0.mk h2
        clear h2
        have hb24 := (HB2.out.trans (HB3.out.mono HB2.out.size)).trans (HB4.out.mono (Nat.le_trans HB2.out.size HB3.out.size))
        have HB24 := Aside0.mk hb24
        clear hb24
        go_wp2_with fail
        refine (writeString_calls _ _ _ _ _ (isBuilder_below (isBuilder_below HB.out ((Below.refl _ _).alloc (Nat.le_refl _) _)) HB24.out) HL2.out (Nat.le_trans (by simp; omega) HB24.out.size)).mono ?_
        rintro e w5 ⟨rfl, h1, h2⟩
        have H1 := Aside0.mk h1
        have H2 := Aside0.mk h2
        clear h1 h2
        go_wp2_with fail
        go_roundg gk
        case measure => omega
        case rel => exact ⟨i + 1, rfl, by omega, builder_next (p := .nilIface) H1.out HST.out HZ.out, ((hb_two HBL.out hbw).trans (HB24.out.mono (by simp; omega))).trans H2.out⟩
      by_cases h5 : f0 = 5
      · subst h5
        have hp : pieceF ⟨5, f1, f2, f3⟩ = ([60] ++ f1.data.toList ++ [62]) ++ [32] := by simp [pieceF]
        have hsz : (⟨#[60]⟩ ++ f1 ++ ⟨#[62]⟩ ++ ⟨#[32]⟩ : ByteArray).data.toList = pieceF ⟨5, f1, f2, f3⟩ := by rw [hp]; simp only [data_add]
        have hlen2 : (byteCells (printF (l.take i))).length + (⟨#[60]⟩ ++ f1 ++ ⟨#[62]⟩ ++ ⟨#[32]⟩ : ByteArray).size ≤ 140737488355328 := by rw [size_data, hsz]; omega
        have hf1 : (f1.size : Int) ≤ 1000000000 := by rw [hp] at hlen; rw [size_data]; simp only [List.length_append] at hlen; omega
        have HZ := Aside0.mk hsz
        have HL2 := Aside0.mk hlen2
        clear hsz hlen hp hlen2 h6 h3
        go_wp2_with fail
        refine (writeString_calls _ _ _ _ _ (isBuilder_below HB.out ((Below.refl _ _).alloc (Nat.le_refl _) _)) HL2.out (by simp; omega)).mono ?_
        rintro e w2 ⟨rfl, h1, h2⟩
        have H1 := Aside0.mk h1
        have H2 := Aside0.mk h2
        clear h1 h2
        go_wp2_with fail
        go_roundg gk
        case measure => omega
        case rel => exact ⟨i + 1, rfl, by omega, builder_next (p := .nilIface) H1.out HST.out HZ.out, (HBL.out.trans ((Below.refl _ _).alloc (Nat.le_of_lt hbw) _)).trans H2.out⟩
      by_cases h4 : f0 = 4
      · subst h4
        have hp : pieceF ⟨4, f1, f2, f3⟩ = ([34] ++ f1.data.toList ++ [34]) ++ [32] := by simp [pieceF]
        have hsz : (⟨#[34]⟩ ++ f1 ++ ⟨#[34]⟩ ++ ⟨#[32]⟩ : ByteArray).data.toList = pieceF ⟨4, f1, f2, f3⟩ := by rw [hp]; simp only [data_add]
        have hlen2 : (byteCells (printF (l.take i))).length + (⟨#[34]⟩ ++ f1 ++ ⟨#[34]⟩ ++ ⟨#[32]⟩ : ByteArray).size ≤ 140737488355328 := by rw [size_data, hsz]; omega
        have hf1 : (f1.size : Int) ≤ 1000000000 := by rw [hp] at hlen; rw [size_data]; simp only [List.length_append] at hlen; omega
        have HZ := Aside0.mk hsz
        have HL2 := Aside0.mk hlen2
        clear hsz hlen hp hlen2 h6 h3 h5
        go_wp2_with fail
        refine (writeString_calls _ _ _ _ _ (isBuilder_below HB.out ((Below.refl _ _).alloc (Nat.le_refl _) _)) HL2.out (by simp; omega)).mono ?_
        rintro e w2 ⟨rfl, h1, h2⟩
        have H1 := Aside0.mk h1
        have H2 := Aside0.mk h2
        clear h1 h2
        go_wp2_with fail
        go_roundg gk
        case measure => omega
        case rel => exact ⟨i + 1, rfl, by omega, builder_next (p := .nilIface) H1.out HST.out HZ.out, (HBL.out.trans ((Below.refl _ _).alloc (Nat.le_of_lt hbw) _)).trans H2.out⟩
      have b6 : ((f0 : Int) == 6) = false := by simp [h6]
      have b5 : ((f0 : Int) == 5) = false := by simp [h5]
      have b4 : ((f0 : Int) == 4) = false := by simp [h4]
      have b3 : ((f0 : Int) == 3) = false := by simp [h3]
      have hp : pieceF ⟨f0, f1, f2, f3⟩ = f1.data.toList ++ [32] := by simp [pieceF, h3, h4, h5, h6]
      have hsz : (f1 ++ ⟨#[32]⟩ : ByteArray).data.toList = pieceF ⟨f0, f1, f2, f3⟩ := by rw [hp]; simp only [data_add]
      have hlen2 : (byteCells (printF (l.take i))).length + (f1 ++ ⟨#[32]⟩ : ByteArray).size ≤ 140737488355328 := by rw [size_data, hsz]; omega
      have hf1 : (f1.size : Int) ≤ 1000000000 := by rw [hp] at hlen; rw [size_data]; simp only [List.length_append] at hlen; omega
      have HZ := Aside0.mk hsz
      have HL2 := Aside0.mk hlen2
      clear hsz hlen hp hlen2 h6 h3 h5 h4
      go_wp2_with fail
      refine (writeString_calls _ _ _ _ _ (isBuilder_below HB.out ((Below.refl _ _).alloc (Nat.le_refl _) _)) HL2.out (by simp; omega)).mono ?_
      rintro e w2 ⟨rfl, h1, h2⟩
      have H1 := Aside0.mk h1
      have H2 := Aside0.mk h2
      clear h1 h2
      go_wp2_with fail
      go_roundg gk
      case measure => omega
      case rel => exact ⟨i + 1, rfl, by omega, builder_next (p := .nilIface) H1.out HST.out HZ.out, (HBL.out.trans ((Below.refl _ _).alloc (Nat.le_of_lt hbw) _)).trans H2.out⟩
    · obtain rfl : i = l.length := by omega
      have hi3 : ((l.length : Int) < l.length) = False := by simp
      rw [List.take_length] at hB
      have HB := Aside0.mk hB
      have HBL := Aside0.mk hb
      clear hB hb
      go_wp2_with fail
      refine (Tryz.Builder_String_any _ _ _ _ HB.out HBL.out.size).mono ?_
      rintro e w2 ⟨rfl, h2⟩
      go_wp2_with fail
      go_ret
      exact ⟨rfl, HBL.out.trans h2⟩
end Go.Proofs.YtipmmkelialgkaaGreatDoor.Lex
set_option linter.unusedVariables false
set_option linter.unusedSimpArgs false
namespace Go.Proofs.YtipmmkelialgkaaGreatDoor.Lex
open Go.Lib

theorem wlen_app : ∀ (W : List UInt8) (c : UInt8) (t : List UInt8), (∀ x ∈ W, wordN x.toNat = true) → wordN c.toNat = false → wlen (W ++ c :: t) = W.length
  | [], c, t, _, hc => by simp [wlen, hc]
  | x :: W, c, t, hW, hc => by
    have h1 := hW x List.mem_cons_self
    have h2 := wlen_app W c t (fun y hy => hW y (List.mem_cons_of_mem _ hy)) hc
    simp [wlen, h1, h2]
theorem up_tab : ((List.range 16).all fun d => decide (hexD (upperB (hexC d)) = some d ∧ wordN (upperB (hexC d)).toNat = true)) = true := by decide +kernel
theorem up_at (d : Nat) (h : d < 16) : hexD (upperB (hexC d)) = some d ∧ wordN (upperB (hexC d)).toNat = true := of_decide_eq_true (List.all_eq_true.1 up_tab d (List.mem_range.2 h))
theorem hexNum_hexS : ∀ (k n : Nat) (l : List UInt8), n < 16 ^ (k + 1) → hexNum ((hexS k n l).map upperB) 0 = hexNum (l.map upperB) n
  | 0, n, l, h => by
    have h1 : n < 16 := by simpa using h
    simp only [hexS, List.map_cons, hexNum, Nat.mod_eq_of_lt h1, (up_at n h1).1, Option.bind_some]
    congr 1
    omega
  | k + 1, n, l, h => by
    simp only [hexS]
    split
    · rename_i h1
      simp only [List.map_cons, hexNum, (up_at n h1).1, Option.bind_some]
      congr 1
      omega
    · rename_i h1
      rw [hexNum_hexS k (n / 16) _ (by rw [Nat.pow_succ] at h; omega)]
      simp only [List.map_cons, hexNum, (up_at (n % 16) (by omega)).1, Option.bind_some]
      congr 1
      omega
theorem hexS_word : ∀ (k n : Nat) (l : List UInt8), (∀ c ∈ l, wordN (upperB c).toNat = true) → ∀ c ∈ hexS k n l, wordN (upperB c).toNat = true
  | 0, n, l, h, c, hc => by
    simp only [hexS, List.mem_cons] at hc
    rcases hc with rfl | hc
    · exact (up_at _ (by omega)).2
    · exact h c hc
  | k + 1, n, l, h, c, hc => by
    simp only [hexS] at hc
    split at hc
    · rcases List.mem_cons.1 hc with rfl | hc
      · exact (up_at _ (by omega)).2
      · exact h c hc
    · refine hexS_word k _ _ (fun c hc => ?_) c hc
      rcases List.mem_cons.1 hc with rfl | hc
      · exact (up_at _ (by omega)).2
      · exact h c hc
theorem hexS_short : ∀ (k n j : Nat) (l : List UInt8), n < 16 ^ (j + 1) → (hexS k n l).length ≤ l.length + j + 1
  | 0, n, j, l, h => by simp only [hexS, List.length_cons]; omega
  | k + 1, n, j, l, h => by
    simp only [hexS]
    split
    · simp only [List.length_cons]; omega
    · rename_i h1
      cases j with
      | zero => simp at h; omega
      | succ j =>
        have := hexS_short k (n / 16) j (hexC (n % 16) :: l) (by rw [Nat.pow_succ] at h; omega)
        simp only [List.length_cons] at this
        omega
theorem hexNum_zeros : ∀ (j : Nat) (l : List UInt8), hexNum (repeatL [48] j ++ l) 0 = hexNum l 0
  | 0, l => rfl
  | j + 1, l => by
    have h : hexD 48 = some 0 := by decide
    simp only [repeatL, List.cons_append, List.nil_append, hexNum, h, Option.bind_some]
    exact hexNum_zeros j l
theorem zeros_word : ∀ (j : Nat), ∀ c ∈ repeatL [48] j, wordN c.toNat = true
  | j + 1, c, hc => by
    simp only [repeatL, List.cons_append, List.nil_append, List.mem_cons] at hc
    rcases hc with rfl | hc
    · decide
    · exact zeros_word j c hc
/-- A scalar's digits, as they are printed. -/
def digitsF (n : Nat) : List UInt8 := repeatL [48] (4 - (hexUp n).length) ++ hexUp n
theorem digitsF_num (n : Nat) (h : n < 16777216) : hexNum (digitsF n) 0 = some n := by
  unfold digitsF
  rw [hexNum_zeros]
  unfold hexUp toUpperA hexText
  rw [hexNum_hexS 16 n [] (by omega)]
  rfl
theorem digitsF_word (n : Nat) : ∀ c ∈ digitsF n, wordN c.toNat = true := by
  intro c hc
  unfold digitsF at hc
  rcases List.mem_append.1 hc with hc | hc
  · exact zeros_word _ c hc
  · unfold hexUp toUpperA hexText at hc
    obtain ⟨d, hd, rfl⟩ := List.mem_map.1 hc
    exact hexS_word 16 n [] (fun _ h => nomatch h) d hd
theorem digitsF_len (n : Nat) (h : n < 16777216) : 4 ≤ (digitsF n).length ∧ (digitsF n).length ≤ 6 := by
  have h1 : (hexUp n).length ≤ 6 := by
    unfold hexUp toUpperA hexText
    rw [List.length_map]
    have := hexS_short 16 n 5 [] (by simpa using h)
    simpa using this
  unfold digitsF
  rw [List.length_append, repeatL_length]
  simp only [List.length_cons, List.length_nil]
  omega
/-- A scalar in its hooks. -/
theorem nameR_scalar (n : Nat) (h : n < 16777216) (t : List UInt8) : nameR (60 :: 85 :: (digitsF n ++ 62 :: t)) = if rightN n then .tok 3 (bs []) n ((digitsF n).length + 3) else .bad := by
  have hw : wlen (85 :: (digitsF n ++ 62 :: t)) = (digitsF n).length + 1 := by
    have := wlen_app (85 :: digitsF n) 62 t (fun x hx => by
      rcases List.mem_cons.1 hx with rfl | hx
      · decide
      · exact digitsF_word n x hx) (by decide)
    simpa using this
  have hl := digitsF_len n h
  simp only [nameR, hw]
  rw [if_pos trivial, if_pos ⟨by omega, by simp⟩]
  have ht : (85 :: (digitsF n ++ 62 :: t)).take ((digitsF n).length + 1) = 85 :: digitsF n := by simp
  rw [ht]
  have hs : scalarR (85 :: digitsF n) = some n := by
    simp only [scalarR]
    rw [if_pos hl, digitsF_num n h]
  rw [hs]
theorem stepR_hook (e : Bool) (t : List UInt8) : stepR e (60 :: t) = (nameR (60 :: t)).or (wordR (60 :: t)) := by
  have h1 : blankR (60 :: t) = .no := by simp [blankR]
  have h2 : endR e (60 :: t) = .no := by simp [endR]
  have h3 : signR (60 :: t) = .no := by simp [signR, hasPrefix, List.isPrefixOf]
  have h4 : quotedR (60 :: t) = .no := by simp [quotedR]
  simp only [stepR, h1, h2, h3, h4, Res.or]
theorem stepR_space (e : Bool) (t : List UInt8) : stepR e (32 :: t) = .skip 1 := by
  have h1 : blankR (32 :: t) = .skip 1 := by simp [blankR]
  simp only [stepR, h1, Res.or]
end Go.Proofs.YtipmmkelialgkaaGreatDoor.Lex
