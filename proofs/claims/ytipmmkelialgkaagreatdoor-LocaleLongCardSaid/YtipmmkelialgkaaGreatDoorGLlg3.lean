/- The state of the lexer's reader in memory: one block with the text, the place and the slice of tokens; the tokens' rows are the call's own. · What the lexer tells, step by step, in plain words: on the bytes that are left. · The lexer's rounds in plain words: each goes on; how many rounds may come is no matter. -/
import Derived.Test.YtipmmkelialgkaaGreatDoorGLlg2
import Derived.Lib.IndexAny
namespace Go.Proofs.YtipmmkelialgkaaGreatDoor.Lex
open Go.RowKit Go.Proofs.YtipmmkelialgkaaGreatDoorW.PrintWords Go.Proofs.YtipmmkelialgkaaGreatDoorW.PrintLast Go.Proofs.YtipmmkelialgkaaGreatDoorW.PrintMore Go.Proofs.YtipmmkelialgkaaGreatDoor.PLex

/-- Below block B nothing has turned but block g. -/
structure Fr (B g : Nat) (w w' : World) : Prop where
  os : w'.os = w.os
  tape : w'.tape = w.tape
  output : w'.output = w.output
  size : w.heap.size ≤ w'.heap.size
  block : ∀ k, k < B → k ≠ g → w'.heap[k]? = w.heap[k]?

theorem Fr.refl (B g : Nat) (w : World) : Fr B g w w := ⟨rfl, rfl, rfl, Nat.le_refl _, fun _ _ _ => rfl⟩
theorem Fr.trans {B g : Nat} {a b c : World} (h : Fr B g a b) (k : Fr B g b c) : Fr B g a c :=
  ⟨k.os.trans h.os, k.tape.trans h.tape, k.output.trans h.output, Nat.le_trans h.size k.size, fun i hi hg => (k.block i hi hg).trans (h.block i hi hg)⟩
theorem Fr.of_below {B g : Nat} {w w' : World} (h : Below B w w') : Fr B g w w' := ⟨h.os, h.tape, h.output, h.size, fun k hk _ => h.block k hk⟩
theorem Fr.below {B g : Nat} {w w' : World} (h : Fr B g w w') {B' : Nat} (h1 : B' ≤ B) (h2 : B' ≤ g) : Below B' w w' := ⟨h.os, h.tape, h.output, h.size, fun k hk => h.block k (by omega) (by omega)⟩
theorem Fr.set {B g : Nat} (w : World) (o : Nat) (v : Value) : Fr B g w (w.setCell ⟨g, o, none⟩ v) :=
  ⟨rfl, rfl, rfl, by simp [World.setCell], fun k _ hk => Below.heap_setCell _ _ _ _ hk⟩
theorem Fr.alloc {B g : Nat} (w : World) (o : Obj) (h : B ≤ w.heap.size) : Fr B g w (w.alloc o) := Fr.of_below ((Below.refl B w).alloc h o)
theorem Fr.drew {B g : Nat} (w : World) : Fr B g w w.drew := Fr.of_below ((Below.refl B w).drew)
theorem Fr.cell {B g : Nat} {w w' : World} (h : Fr B g w w') {p : Addr} (hp : p.block < B) (hg : p.block ≠ g) : w'.cell? p = w.cell? p := World.cell?_of_block (w := w) (h.block p.block hp hg)

abbrev Tok := S63
abbrev kT : Kd Tok := k63

theorem infoTok : (Tryz.prog.info? 63).map (fun i => (i.zero, i.size, i.bytes)) = some (some (.agg #[.int .u8 0, .string ⟨#[]⟩, .int .i64 0, .int .i64 0]), 4, 40) := by kernel_rfl

/-- The reader at block g: text s, place p, tokens l (rows from block B on). -/
def Rd (B g : Nat) (s : ByteArray) (p : Int) (l : List Tok) (w : World) : Prop :=
  g < B ∧ B ≤ w.heap.size ∧ ∃ A c, l.length ≤ c ∧ w.heap[g]? = some (.cells #[.string s, .int .i64 p, .slice A l.length c] 103 (0, 0)) ∧ kT.R 63 w B (fun _ => True) (.slice A l.length c) l

theorem typesTR : ∀ q, q ∈ 63 :: kT.E → q ≠ 103 := by
  intro q hq
  rcases List.mem_cons.1 hq with rfl | hq
  · decide
  · exact absurd hq (by simp [kT, k63, Kd.iso, Kd.pair, Kd.int, Kd.string, Kd.scalar])
theorem Rd.drew {B g : Nat} {s : ByteArray} {p : Int} {l : List Tok} {w : World} (h : Rd B g s p l w) : Rd B g s p l w.drew := h
theorem Rd.drewN {B g : Nat} {s : ByteArray} {p : Int} {l : List Tok} {w : World} (h : Rd B g s p l w) (n : Nat) : Rd B g s p l (w.drewN n) := h
theorem Rd.alloc {B g : Nat} {s : ByteArray} {p : Int} {l : List Tok} {w : World} (h : Rd B g s p l w) (o : Obj) : Rd B g s p l (w.alloc o) := by
  obtain ⟨h1, h2, A, c, h3, h4, h5⟩ := h
  exact ⟨h1, by simp; omega, A, c, h3, by rw [Below.heap_alloc _ _ _ (by omega)]; exact h4, Kd.R_below h5 ((Below.refl _ _).alloc (Nat.le_refl _) o)⟩
theorem Rd.below {B g : Nat} {s : ByteArray} {p : Int} {l : List Tok} {w w' : World} (h : Rd B g s p l w) (hb : Below w.heap.size w w') : Rd B g s p l w' := by
  obtain ⟨h1, h2, A, c, h3, h4, h5⟩ := h
  exact ⟨h1, by have := hb.size; omega, A, c, h3, by rw [hb.block _ (by omega)]; exact h4, Kd.R_below h5 hb⟩
theorem Rd.set_at {B g : Nat} {s : ByteArray} {p : Int} {l : List Tok} {w : World} (h : Rd B g s p l w) (q : Int) : Rd B g s q l (w.setCell ⟨g, 1, none⟩ (.int .i64 q)) := by
  obtain ⟨h1, h2, A, c, h3, h4, h5⟩ := h
  refine ⟨h1, by simpa [World.setCell] using h2, A, c, h3, ?_, Kd.R_set h5 h4 typesTR _ _⟩
  simp [World.setCell, Array.getElem?_modify, h4]
theorem Rd.cells {B g : Nat} {s : ByteArray} {p : Int} {l : List Tok} {w : World} (h : Rd B g s p l w) :
    w.cell? ⟨g, 0, none⟩ = some (.string s) ∧ w.cell? ⟨g, 1, none⟩ = some (.int .i64 p) ∧ w.frozen? ⟨g, 0, none⟩ = false ∧ w.frozen? ⟨g, 1, none⟩ = false ∧ w.frozen? ⟨g, 2, none⟩ = false ∧
      ∃ A c, l.length ≤ c ∧ w.cell? ⟨g, 2, none⟩ = some (.slice A l.length c) ∧ kT.R 63 w B (fun _ => True) (.slice A l.length c) l ∧ kT.C w A l.length l := by
  obtain ⟨h1, h2, A, c, h3, h4, h5⟩ := h
  obtain ⟨A', c', e, _, hC⟩ := Kd.R_reads h5
  obtain ⟨rfl, rfl⟩ : A = A' ∧ c = c' := by
    injection e with e1 e2 e3
    exact ⟨e1, e3⟩
  refine ⟨?_, ?_, ?_, ?_, ?_, A, c, h3, ?_, h5, hC⟩ <;> simp [World.cell?, World.frozen?, h4]
end Go.Proofs.YtipmmkelialgkaaGreatDoor.Lex
set_option linter.unusedVariables false
set_option linter.unusedSimpArgs false
namespace Go.Proofs.YtipmmkelialgkaaGreatDoor.Lex
open Go.Lib

/-- Bytes as a text. -/
def bs (l : List UInt8) : ByteArray := ⟨l.toArray⟩
theorem bs_list (l : List UInt8) : (bs l).data.toList = l := by simp [bs]
theorem bs_of (s : ByteArray) : bs s.data.toList = s := by cases s; simp [bs]
theorem bs_size (l : List UInt8) : (bs l).size = l.length := by simp [bs, ByteArray.size]
theorem extract_list (s : ByteArray) (a b : Nat) : (s.extract a b).data.toList = (s.data.toList.drop a).take (b - a) := by
  rw [ByteArray.data_extract, Array.toList_extract, List.extract_eq_take_drop]
theorem extract_bs (s : ByteArray) (a b : Nat) : s.extract a b = bs ((s.data.toList.drop a).take (b - a)) := by
  rw [← bs_of (s.extract a b), extract_list]
theorem extract_end (s : ByteArray) (a : Nat) : s.extract a s.size = bs (s.data.toList.drop a) := by
  rw [extract_bs, List.take_of_length_le]
  rw [List.length_drop, Array.length_toList]
  exact Nat.le_refl _

/-- What a step tells: it is none of its own; bytes that are nothing; a token (kind, text, number) of so many bytes; it is wrong. -/
inductive Res where
  | no
  | skip (n : Nat)
  | tok (t0 : Int) (t1 : ByteArray) (t2 : Int) (n : Nat)
  | bad

/-- How many bytes stand ahead of the line's end. -/
def lineLen : List UInt8 → Nat
  | [] => 0
  | c :: r => if c == 10 then 0 else lineLen r + 1
theorem lineLen_le : ∀ l : List UInt8, lineLen l ≤ l.length
  | [] => Nat.le_refl _
  | c :: r => by
    have := lineLen_le r
    simp only [lineLen, List.length_cons]
    split <;> omega
theorem indexByte_line : ∀ l : List UInt8, indexByte l 10 = if lineLen l < l.length then (lineLen l : Int) else -1
  | [] => rfl
  | c :: r => by
    have ih := indexByte_line r
    have hl := lineLen_le r
    simp only [indexByte, lineLen, List.length_cons]
    by_cases h : (c == 10) = true
    · simp [h]
    · simp only [h, Bool.false_eq_true, if_false]
      rw [ih]
      by_cases h2 : lineLen r < r.length
      · have e : ((lineLen r : Int) == -1) = false := by simp
        simp [h2, e]
      · simp [h2]

def blankR : List UInt8 → Res
  | [] => .no
  | c :: r => if c = 32 ∨ c = 9 then .skip 1 else if c = 37 then .skip (lineLen (c :: r)) else .no
def endR (ended : Bool) : List UInt8 → Res
  | [] => .no
  | c :: r => if c = 10 then (if ended then .skip 1 else .tok 6 (bs []) 0 1) else .no
def signR : List UInt8 → Res
  | [] => .no
  | c :: r => if hasPrefix (c :: r) [46, 46, 46] then .tok 2 (bs [46, 46, 46]) 0 3 else if c = 59 ∨ c = 44 ∨ c = 40 ∨ c = 41 then .tok 2 (bs [c]) 0 1 else .no

/-- How many bytes stand ahead of a stroke or the line's end. -/
def strLen : List UInt8 → Nat
  | [] => 0
  | c :: r => if c == 34 || c == 10 then 0 else strLen r + 1
theorem strLen_le : ∀ l : List UInt8, strLen l ≤ l.length
  | [] => Nat.le_refl _
  | c :: r => by
    have := strLen_le r
    simp only [strLen, List.length_cons]
    split <;> omega
theorem indexAny_str : ∀ l : List UInt8, indexAny l [34, 10] = if strLen l < l.length then (strLen l : Int) else -1
  | [] => rfl
  | c :: r => by
    have ih := indexAny_str r
    have hl := strLen_le r
    have hc : ([34, 10] : List UInt8).contains c = (c == 34 || c == 10) := by cases h1 : (c == 34) <;> cases h2 : (c == 10) <;> simp [List.contains, List.elem, h1, h2]
    simp only [indexAny, strLen, List.length_cons, hc]
    by_cases h : (c == 34 || c == 10) = true
    · simp only [h, if_true]
      rw [if_pos (by omega)]
      rfl
    · simp only [h, Bool.false_eq_true, if_false]
      rw [ih]
      by_cases h2 : strLen r < r.length
      · have e : ((strLen r : Int) == -1) = false := by simp
        simp [h2, e]
      · simp [h2]
def quotedR : List UInt8 → Res
  | [] => .no
  | c :: r => if c = 34 then (if r[strLen r]? = some 34 then .tok 4 (bs (r.take (strLen r))) 0 (strLen r + 2) else .bad) else .no

/-- A hexadecimal digit's worth. -/
def hexD (c : UInt8) : Option Nat := if 48 ≤ c.toNat ∧ c.toNat ≤ 57 then some (c.toNat - 48) else if 97 ≤ c.toNat ∧ c.toNat ≤ 102 then some (c.toNat - 87) else if 65 ≤ c.toNat ∧ c.toNat ≤ 70 then some (c.toNat - 55) else none
def hexNum : List UInt8 → Nat → Option Nat
  | [], n => some n
  | c :: r, n => (hexD c).bind fun d => hexNum r (16 * n + d)
def scalarR : List UInt8 → Option Nat
  | 85 :: d => if 4 ≤ d.length ∧ d.length ≤ 6 then hexNum d 0 else none
  | _ => none
/-- May a number be a scalar? -/
def rightN (v : Nat) : Bool := v ≤ 1114111 && (v < 55296 || 57343 < v)
def nameR : List UInt8 → Res
  | [] => .no
  | c :: r => if c = 60 then (if wlen r ≠ 0 ∧ r[wlen r]? = some 62 then (match scalarR (r.take (wlen r)) with
      | none => .tok 5 (bs (r.take (wlen r))) 0 (wlen r + 2)
      | some v => if rightN v then .tok 3 (bs []) v (wlen r + 2) else .bad) else .bad) else .no
def wordR (r : List UInt8) : Res := if wlen r = 0 then .bad else .tok 1 (bs (r.take (wlen r))) 0 (wlen r)

def Res.or : Res → Res → Res
  | .no, b => b
  | a, _ => a
/-- One round: the steps, asked one behind the other. -/
def stepR (ended : Bool) (r : List UInt8) : Res := (blankR r).or ((endR ended r).or ((signR r).or ((quotedR r).or ((nameR r).or (wordR r)))))

def endedF (l : List Tok) : Bool := l.getLast?.all fun t => t.f0 == 6
theorem endedF_nil : endedF [] = true := rfl
theorem endedF_snoc (l : List Tok) (t : Tok) : endedF (l ++ [t]) = (t.f0 == 6) := by simp [endedF]

/-- The rounds: tokens, or the place of what is wrong. -/
def lexF : Nat → List UInt8 → Int → List Tok → List Tok ⊕ Int
  | 0, _, _, l => .inl l
  | k + 1, r, p, l => match r with
    | [] => .inl l
    | c :: t => match stepR (endedF l) (c :: t) with
      | .no => .inl l
      | .bad => .inr p
      | .skip n => lexF k ((c :: t).drop n) (p + n) l
      | .tok t0 t1 t2 n => lexF k ((c :: t).drop n) (p + n) (l ++ [(⟨t0, t1, t2, p⟩ : Tok)])
def closeF (l : List Tok) (n : Int) : List Tok := if endedF l then l else l ++ [(⟨6, bs [], 0, n⟩ : Tok)]
/-- Tokens: a definition's, or which error, and where. -/
def tokensF (s : ByteArray) : List Tok × Int × Int :=
  if 4000 < s.size then ([], 3, 0) else match lexF s.size s.data.toList 0 [] with
    | .inr p => ([], 20, p)
    | .inl l => if 1000 < (closeF l s.size).length then ([], 3, 0) else (closeF l s.size, 0, 0)
end Go.Proofs.YtipmmkelialgkaaGreatDoor.Lex
set_option linter.unusedVariables false
set_option linter.unusedSimpArgs false
namespace Go.Proofs.YtipmmkelialgkaaGreatDoor.Lex
open Go.Lib

/-- So many bytes a step may take. -/
def Res.fits (m : Nat) : Res → Prop
  | .no => True
  | .bad => True
  | .skip n => 1 ≤ n ∧ n ≤ m
  | .tok _ _ _ n => 1 ≤ n ∧ n ≤ m
theorem Res.fits_or {m : Nat} {a b : Res} (ha : a.fits m) (hb : b.fits m) : (a.or b).fits m := by
  cases a <;> simp only [Res.or] <;> assumption
theorem hasPrefix_len (l p : List UInt8) (h : hasPrefix l p = true) : p.length ≤ l.length := (List.isPrefixOf_iff_prefix.1 h).length_le
theorem blankR_fits (l : List UInt8) : (blankR l).fits l.length := by
  match l with
  | [] => exact trivial
  | c :: r =>
    simp only [blankR]
    split
    · exact ⟨Nat.le_refl _, by simp⟩
    · split
      · rename_i h
        refine ⟨?_, lineLen_le _⟩
        subst h
        simp [lineLen]
      · exact trivial
theorem endR_fits (e : Bool) (l : List UInt8) : (endR e l).fits l.length := by
  match l with
  | [] => exact trivial
  | c :: r =>
    simp only [endR]
    split
    · split
      · exact ⟨Nat.le_refl _, by simp⟩
      · exact ⟨Nat.le_refl _, by simp⟩
    · exact trivial
theorem signR_fits (l : List UInt8) : (signR l).fits l.length := by
  match l with
  | [] => exact trivial
  | c :: r =>
    simp only [signR]
    split
    · rename_i h
      exact ⟨by decide, hasPrefix_len _ _ h⟩
    · split
      · exact ⟨Nat.le_refl _, by simp⟩
      · exact trivial
theorem lt_of_some {l : List UInt8} {n : Nat} {c : UInt8} (h : l[n]? = some c) : n < l.length := (List.getElem?_eq_some_iff.1 h).1
theorem quotedR_fits (l : List UInt8) : (quotedR l).fits l.length := by
  match l with
  | [] => exact trivial
  | c :: r =>
    simp only [quotedR]
    split
    · split
      · rename_i h
        have := lt_of_some h
        refine ⟨by omega, ?_⟩
        simp only [List.length_cons]
        omega
      · exact trivial
    · exact trivial
theorem nameR_fits (l : List UInt8) : (nameR l).fits l.length := by
  match l with
  | [] => exact trivial
  | c :: r =>
    simp only [nameR]
    split
    · split
      · rename_i h
        have := lt_of_some h.2
        split
        · refine ⟨by omega, ?_⟩
          simp only [List.length_cons]
          omega
        · split
          · refine ⟨by omega, ?_⟩
            simp only [List.length_cons]
            omega
          · exact trivial
      · exact trivial
    · exact trivial
theorem wordR_fits (l : List UInt8) : (wordR l).fits l.length := by
  have := wlen_le l
  simp only [wordR]
  split
  · exact trivial
  · exact ⟨by omega, by omega⟩
theorem wordR_no (l : List UInt8) : wordR l ≠ .no := by
  simp only [wordR]
  split <;> exact fun h => nomatch h
theorem stepR_fits (e : Bool) (l : List UInt8) : (stepR e l).fits l.length :=
  Res.fits_or (blankR_fits l) (Res.fits_or (endR_fits e l) (Res.fits_or (signR_fits l) (Res.fits_or (quotedR_fits l) (Res.fits_or (nameR_fits l) (wordR_fits l)))))

/-- How many rounds may come is no matter: as many as bytes are enough. -/
theorem lexF_any : ∀ (k j : Nat) (r : List UInt8) (p : Int) (l : List Tok), r.length ≤ k → r.length ≤ j → lexF k r p l = lexF j r p l
  | 0, 0, _, _, _, _, _ => rfl
  | 0, j + 1, [], _, _, _, _ => rfl
  | k + 1, 0, [], _, _, _, _ => rfl
  | k + 1, j + 1, [], _, _, _, _ => rfl
  | 0, j + 1, c :: t, _, _, h, _ => absurd h (by simp)
  | k + 1, 0, c :: t, _, _, _, h => absurd h (by simp)
  | k + 1, j + 1, c :: t, p, l, hk, hj => by
    have hf := stepR_fits (endedF l) (c :: t)
    simp only [List.length_cons] at hk hj hf
    simp only [lexF]
    cases hs : stepR (endedF l) (c :: t) with
    | no => rfl
    | bad => rfl
    | skip n =>
      rw [hs] at hf
      obtain ⟨h1, h2⟩ := hf
      have hl : ((c :: t).drop n).length ≤ t.length := by rw [List.length_drop, List.length_cons]; omega
      exact lexF_any k j _ _ _ (by omega) (by omega)
    | tok t0 t1 t2 n =>
      rw [hs] at hf
      obtain ⟨h1, h2⟩ := hf
      have hl : ((c :: t).drop n).length ≤ t.length := by rw [List.length_drop, List.length_cons]; omega
      exact lexF_any k j _ _ _ (by omega) (by omega)
/-- The rounds from place q of a text on. -/
def lexAt (s : ByteArray) (q : Nat) (l : List Tok) : List Tok ⊕ Int := lexF (s.size - q) (s.data.toList.drop q) q l
theorem lexAt_zero (s : ByteArray) : lexAt s 0 [] = lexF s.size s.data.toList 0 [] := rfl
theorem lexAt_end (s : ByteArray) (l : List Tok) : lexAt s s.size l = .inl l := by
  simp only [lexAt, Nat.sub_self, lexF]
theorem lexAt_step (s : ByteArray) (q : Nat) (l : List Tok) (h : q < s.size) :
    lexAt s q l = match stepR (endedF l) (s.data.toList.drop q) with
      | .no => .inl l
      | .bad => .inr q
      | .skip n => lexAt s (q + n) l
      | .tok t0 t1 t2 n => lexAt s (q + n) (l ++ [(⟨t0, t1, t2, q⟩ : Tok)]) := by
  have hlen : (s.data.toList.drop q).length = s.size - q := by rw [List.length_drop, Array.length_toList]; rfl
  have hf := stepR_fits (endedF l) (s.data.toList.drop q)
  rw [hlen] at hf
  obtain ⟨k, hk⟩ : ∃ k, s.size - q = k + 1 := ⟨s.size - q - 1, by omega⟩
  unfold lexAt
  rw [hk]
  cases hd : s.data.toList.drop q with
  | nil => rw [hd, List.length_nil] at hlen; omega
  | cons c t =>
    rw [hd] at hf hlen
    rw [List.length_cons] at hlen
    simp only [lexF]
    cases hs : stepR (endedF l) (c :: t) with
    | no => rfl
    | bad => rfl
    | skip n =>
      rw [hs] at hf
      obtain ⟨h1, h2⟩ := hf
      have hdd : s.data.toList.drop (q + n) = (c :: t).drop n := by rw [← hd, List.drop_drop]
      dsimp only
      rw [hdd, Int.natCast_add]
      exact lexF_any _ _ _ _ _ (by rw [List.length_drop, List.length_cons]; omega) (by rw [List.length_drop, List.length_cons]; omega)
    | tok t0 t1 t2 n =>
      rw [hs] at hf
      obtain ⟨h1, h2⟩ := hf
      have hdd : s.data.toList.drop (q + n) = (c :: t).drop n := by rw [← hd, List.drop_drop]
      dsimp only
      rw [hdd, Int.natCast_add]
      exact lexF_any _ _ _ _ _ (by rw [List.length_drop, List.length_cons]; omega) (by rw [List.length_drop, List.length_cons]; omega)
end Go.Proofs.YtipmmkelialgkaaGreatDoor.Lex
