/- The locale reader's state in memory, and its first functions: what stops it, the next token, a sign. · The locale reader: the next token, of a kind; whether a sign is next. · What slices' functions tell of rows: whether cells are alike; the first element of which a closure says so. -/
import Derived.Test.YtipmmkelialgkaaGreatDoorGLlg1
import Derived.Test.YtipmmkelialgkaaGreatDoorGLlg10
set_option linter.unusedVariables false
set_option linter.unusedSimpArgs false
namespace Go.Proofs.YtipmmkelialgkaaGreatDoor.Loc
open Go.RowKit Go.Lib Go.Proofs.YtipmmkelialgkaaGreatDoorW.PrintWords Go.Proofs.YtipmmkelialgkaaGreatDoorW.PrintLast Go.Proofs.YtipmmkelialgkaaGreatDoorW.PrintMore Go.Proofs.YtipmmkelialgkaaGreatDoor.Lex

abbrev Rng := PLoc.S54
abbrev Cls := PLoc.S50
abbrev Elm := PLoc.S39
abbrev kG : Kd Rng := PLoc.k54
abbrev kC : Kd Cls := PLoc.k50
abbrev kE : Kd Elm := PLoc.k39

def tokV (t : Tok) : Value := .agg #[.int .u8 t.f0, .string t.f1, .int .i64 t.f2, .int .i64 t.f3]
/-- What stops the reader: an error, and where. -/
def wrongW (e p : Int) : PanicEntry := { v := .iface 73 (.agg #[.int .u16 e, .int .i64 p]), recovered := false }

/-- Tokens in their block. -/
def TK (tb : Nat) (L : List Tok) (w : World) : Prop := ∀ (j : Nat) (t : Tok), L[j]? = some t → w.cell? ⟨tb, 4 * j, none⟩ = some (.int .u8 t.f0) ∧ w.cell? ⟨tb, 4 * j + 1, none⟩ = some (.string t.f1) ∧ w.cell? ⟨tb, 4 * j + 2, none⟩ = some (.int .i64 t.f2) ∧ w.cell? ⟨tb, 4 * j + 3, none⟩ = some (.int .i64 t.f3)
theorem TK.move {tb : Nat} {L : List Tok} {w w' : World} (h : TK tb L w) (hb : w'.heap[tb]? = w.heap[tb]?) : TK tb L w' := fun j t ht => by
  obtain ⟨h0, h1, h2, h3⟩ := h j t ht
  exact ⟨(World.cell?_of_block (w := w) (a := ⟨tb, _, none⟩) hb).trans h0, (World.cell?_of_block (w := w) (a := ⟨tb, _, none⟩) hb).trans h1, (World.cell?_of_block (w := w) (a := ⟨tb, _, none⟩) hb).trans h2, (World.cell?_of_block (w := w) (a := ⟨tb, _, none⟩) hb).trans h3⟩

/-- What stands fast while the reader goes on: where it lies, its tokens (L, in block tb, of so many places cp), its empty map of declared names (mb), its slice of classes (vc). -/
structure Env where
  B : Nat
  g : Nat
  tb : Nat
  cp : Nat
  mb : Nat
  vc : Value
  L : List Tok
/-- Where the next token lies: behind the last one a slice without room stays where it was. -/
def offAt (cp i : Nat) : Nat := if i < cp then 4 * i else 4 * (i - 1)
/-- The reader's block. -/
def rdObj (E : Env) (i : Nat) (vc vo : Value) : Obj := .cells #[vc, .slice none 0 0, .slice none 0 0, vo, .slice (some ⟨E.tb, offAt E.cp i, none⟩) (E.L.length - i) (E.cp - i), .map (some E.mb)] 71 (0, 0)
/-- The reader: i tokens are taken; classes, elements in order (their rows are blocks of which ok is said). -/
structure Rd (E : Env) (i : Nat) (cl : List Cls) (od : List Elm) (ok : Nat → Prop) (w : World) : Prop where
  gB : E.g < E.B
  Bs : E.B ≤ w.heap.size
  tB : E.tb < E.B
  tg : E.tb ≠ E.g
  mB : E.mb < E.B
  mg : E.mb ≠ E.g
  iL : i ≤ E.L.length
  Lc : E.L.length ≤ E.cp
  sm : E.cp ≤ 9223372036854775807
  tk : TK E.tb E.L w
  mp : w.heap[E.mb]? = some (.map #[] 0)
  st : ∃ vo, w.heap[E.g]? = some (rdObj E i E.vc vo) ∧ Kd.S kC 50 w E.B (fun _ => True) E.vc cl ∧ Kd.S kE 39 w E.B ok vo od

theorem Rd.below {E : Env} {i : Nat} {cl : List Cls} {od : List Elm} {ok : Nat → Prop} {w w' : World} (h : Rd E i cl od ok w) (hb : Below w.heap.size w w') : Rd E i cl od ok w' := by
  obtain ⟨vo, h1, h2, h3⟩ := h.st
  have hg := h.gB
  have hBs := h.Bs
  have htB := h.tB
  have hmB := h.mB
  exact { h with
    Bs := Nat.le_trans hBs hb.size
    tk := h.tk.move (hb.block _ (by omega))
    mp := (hb.block _ (by omega)).trans h.mp
    st := ⟨vo, (hb.block _ (by omega)).trans h1, Kd.S_below h2 hb, Kd.S_below h3 hb⟩ }
theorem Rd.alloc {E : Env} {i : Nat} {cl : List Cls} {od : List Elm} {ok : Nat → Prop} {w : World} (h : Rd E i cl od ok w) (o : Obj) : Rd E i cl od ok (w.alloc o) := h.below ((Below.refl _ _).alloc (Nat.le_refl _) o)
theorem Rd.drew {E : Env} {i : Nat} {cl : List Cls} {od : List Elm} {ok : Nat → Prop} {w : World} (h : Rd E i cl od ok w) : Rd E i cl od ok w.drew := h.below ((Below.refl _ _).drew)
theorem Rd.drewN {E : Env} {i : Nat} {cl : List Cls} {od : List Elm} {ok : Nat → Prop} {w : World} (h : Rd E i cl od ok w) (n : Nat) : Rd E i cl od ok (w.drewN n) := h.below (Lex.below_drewN _ _ _)
/-- A store into a block of the call's own, of another type. -/
theorem Rd.set {E : Env} {i : Nat} {cl : List Cls} {od : List Elm} {ok : Nat → Prop} {w : World} (h : Rd E i cl od ok w) {b t : Nat} {cells : Array Value} (hb : w.heap[b]? = some (.cells cells t (0, 0))) (hB : E.B ≤ b) (ht : t ≠ 50 ∧ t ≠ 54 ∧ t ≠ 39 ∧ t ≠ 40) (j : Nat) (u : Value) : Rd E i cl od ok (w.setCell ⟨b, j, none⟩ u) := by
  obtain ⟨vo, h1, h2, h3⟩ := h.st
  have hg := h.gB
  have htB := h.tB
  have hmB := h.mB
  obtain ⟨t1, t2, t3, t4⟩ := ht
  have q := fun k (hk : k ≠ b) => Below.heap_setCell w ⟨b, j, none⟩ u k hk
  exact { h with
    Bs := by simpa [World.setCell] using h.Bs
    tk := h.tk.move (q _ (by omega))
    mp := (q _ (by omega)).trans h.mp
    st := ⟨vo, (q _ (by omega)).trans h1,
      Kd.S_set h2 hb (by intro x hx; simp [kC, PLoc.k50, PLoc.k54, Kd.iso, Kd.pair, Kd.int, Kd.string, Kd.slice, Kd.scalar] at hx; omega) _ _,
      Kd.S_set h3 hb (by intro x hx; simp [kE, PLoc.k39, Kd.iso, Kd.pair, Kd.int, Kd.string, Kd.slice, Kd.scalar] at hx; omega) _ _⟩ }
theorem Rd.weaker {E : Env} {i : Nat} {cl : List Cls} {od : List Elm} {ok ok' : Nat → Prop} {w : World} (h : Rd E i cl od ok w) (hk : ∀ k, ok k → ok' k) : Rd E i cl od ok' w := by
  obtain ⟨vo, h1, h2, h3⟩ := h.st
  exact { h with st := ⟨vo, h1, h2, Kd.S_mono h3 hk⟩ }

/-- Blocks that are neither the reader's nor rows of elements stay as they were. -/
def Keep (E : Env) (w w' : World) : Prop := w.heap.size ≤ w'.heap.size ∧ ∀ k, k < w.heap.size → k ≠ E.g → (∀ cs, w.heap[k]? ≠ some (.cells cs 39 (0, 0))) → w'.heap[k]? = w.heap[k]?
theorem Keep.trans {E : Env} {a b c : World} (h : Keep E a b) (k : Keep E b c) : Keep E a c :=
  ⟨Nat.le_trans h.1 k.1, fun i hi hg hc => by
    have e := h.2 i hi hg hc
    exact (k.2 i (Nat.lt_of_lt_of_le hi h.1) hg (fun cs => by rw [e]; exact hc cs)).trans e⟩
theorem Keep.of_below {E : Env} {w w' : World} (h : Below w.heap.size w w') : Keep E w w' := ⟨h.size, fun k hk _ _ => h.block k hk⟩
theorem Keep.set {E : Env} (w : World) (o : Nat) (v : Value) : Keep E w (w.setCell ⟨E.g, o, none⟩ v) :=
  ⟨by simp [World.setCell], fun k _ hk _ => Below.heap_setCell _ _ _ _ hk⟩
/-- A box of another type keeps what it holds. -/
theorem Keep.box {E : Env} {w w' : World} (h : Keep E w w') {b t : Nat} {cs : Array Value} (hb : w.heap[b]? = some (.cells cs t (0, 0))) (hg : b ≠ E.g) (ht : t ≠ 39) : w'.heap[b]? = some (.cells cs t (0, 0)) := by
  have hlt : b < w.heap.size := (Array.getElem?_eq_some_iff.1 hb).1
  refine (h.2 b hlt hg (fun cs' e => ?_)).trans hb
  rw [hb] at e
  simp at e
  exact ht e.2

theorem fail_calls (e : Int) (t : Tok) (w : World) :
    Calls Tryz.prog 29 #[.int .u16 e, tokV t] w fun en w' => en = .panicked [wrongW e t.f3] ∧ Below w.heap.size w w' := by
  unfold tokV
  go_enter Tryz.func29, Tryz.ntmps29
  go_wp2
  exact ⟨rfl, rfl, (Below.refl _ w).alloc (Nat.le_refl _) _⟩
end Go.Proofs.YtipmmkelialgkaaGreatDoor.Loc
set_option linter.unusedVariables false
set_option linter.unusedSimpArgs false
namespace Go.Proofs.YtipmmkelialgkaaGreatDoor.Loc
open Go.RowKit Go.Lib Go.Proofs.YtipmmkelialgkaaGreatDoorW.PrintWords Go.Proofs.YtipmmkelialgkaaGreatDoorW.PrintLast Go.Proofs.YtipmmkelialgkaaGreatDoorW.PrintMore Go.Proofs.YtipmmkelialgkaaGreatDoor.Lex

/-- The next token is taken off. -/
theorem Rd.next {E : Env} {i : Nat} {cl : List Cls} {od : List Elm} {ok : Nat → Prop} {w : World} (h : Rd E i cl od ok w) (hi : i < E.L.length) {o n c : Nat} (ho : o = offAt E.cp (i + 1)) (hn : n = E.L.length - (i + 1)) (hc : c = E.cp - (i + 1)) :
    Rd E (i + 1) cl od ok (w.setCell ⟨E.g, 4, none⟩ (.slice (some ⟨E.tb, o, none⟩) n c)) := by
  subst ho hn hc
  obtain ⟨vo, h1, h2, h3⟩ := h.st
  have hg := h.gB
  have htB := h.tB
  have hmB := h.mB
  have htg := h.tg
  have hmg := h.mg
  have q := fun k (hk : k ≠ E.g) => Below.heap_setCell w ⟨E.g, 4, none⟩ (.slice (some ⟨E.tb, offAt E.cp (i + 1), none⟩) (E.L.length - (i + 1)) (E.cp - (i + 1))) k hk
  refine { h with
    Bs := by simpa [World.setCell] using h.Bs
    iL := hi
    tk := h.tk.move (q _ htg)
    mp := (q _ hmg).trans h.mp
    st := ⟨vo, ?_, Kd.S_set h2 h1 (by intro x hx; simp [kC, PLoc.k50, PLoc.k54, Kd.iso, Kd.pair, Kd.int, Kd.string, Kd.slice, Kd.scalar] at hx; omega) _ _,
      Kd.S_set h3 h1 (by intro x hx; simp [kE, PLoc.k39, Kd.iso, Kd.pair, Kd.int, Kd.string, Kd.slice, Kd.scalar] at hx; omega) _ _⟩ }
  simp [World.setCell, Array.getElem?_modify, h1, rdObj]
theorem Rd.cells {E : Env} {i : Nat} {cl : List Cls} {od : List Elm} {ok : Nat → Prop} {w : World} (h : Rd E i cl od ok w) (hi : i < E.L.length) :
    w.cell? ⟨E.g, 4, none⟩ = some (.slice (some ⟨E.tb, 4 * i, none⟩) (E.L.length - i) (E.cp - i)) ∧ w.frozen? ⟨E.g, 4, none⟩ = false ∧ E.g < w.heap.size ∧ E.tb < w.heap.size := by
  obtain ⟨vo, h1, h2, h3⟩ := h.st
  have hg := h.gB
  have hB := h.Bs
  have htB := h.tB
  have hL := h.Lc
  have e : offAt E.cp i = 4 * i := if_pos (by omega)
  refine ⟨?_, ?_, by omega, by omega⟩ <;> simp [World.cell?, World.frozen?, h1, rdObj, e]
theorem Rd.tok {E : Env} {i : Nat} {cl : List Cls} {od : List Elm} {ok : Nat → Prop} {w : World} (h : Rd E i cl od ok w) {t : Tok} (ht : E.L[i]? = some t) :
    w.cell? ⟨E.tb, 4 * i, none⟩ = some (.int .u8 t.f0) ∧ w.cell? ⟨E.tb, 4 * i + 1, none⟩ = some (.string t.f1) ∧ w.cell? ⟨E.tb, 4 * i + 2, none⟩ = some (.int .i64 t.f2) ∧ w.cell? ⟨E.tb, 4 * i + 3, none⟩ = some (.int .i64 t.f3) ∧ i < E.L.length := by
  obtain ⟨h0, h1, h2, h3⟩ := h.tk i t ht
  exact ⟨h0, h1, h2, h3, (List.getElem?_eq_some_iff.1 ht).1⟩

/-- What taking a token of a kind tells. -/
def TakePost (E : Env) (i : Nat) (cl : List Cls) (od : List Elm) (ok : Nat → Prop) (w : World) (t : Tok) (kd : Int) (en : Ending) (w' : World) : Prop :=
  if t.f0 = kd then en = .returned (tokV t) ∧ Rd E (i + 1) cl od ok w' ∧ Fr E.B E.g w w' ∧ Keep E w w' else en = .panicked [wrongW 30 t.f3] ∧ Fr E.B E.g w w'

theorem TakePost.ok {E : Env} {i : Nat} {cl : List Cls} {od : List Elm} {ok : Nat → Prop} {w w' : World} {t : Tok} {kd : Int} (hk : t.f0 = kd) (h : Rd E (i + 1) cl od ok w') (hf : Fr E.B E.g w w') (hq : Keep E w w') : TakePost E i cl od ok w t kd (.returned (tokV t)) w' := by
  unfold TakePost
  rw [if_pos hk]
  exact ⟨rfl, h, hf, hq⟩
theorem TakePost.no {E : Env} {i : Nat} {cl : List Cls} {od : List Elm} {ok : Nat → Prop} {w w' : World} {t : Tok} {kd : Int} (hk : ¬ t.f0 = kd) (hf : Fr E.B E.g w w') : TakePost E i cl od ok w t kd (.panicked [wrongW 30 t.f3]) w' := by
  unfold TakePost
  rw [if_neg hk]
  exact ⟨rfl, hf⟩

set_option maxRecDepth 100000 in
set_option maxHeartbeats 2000000 in
theorem take_calls {E : Env} {i : Nat} {cl : List Cls} {od : List Elm} {ok : Nat → Prop} (w : World) (h : Rd E i cl od ok w) (t : Tok) (ht : E.L[i]? = some t) (kd : Int) :
    Calls Tryz.prog 27 #[.pointer (some ⟨E.g, 0, none⟩), .int .u8 kd, .string ⟨#[]⟩] w (TakePost E i cl od ok w t kd) := by
  obtain ⟨t0, t1, t2, t3, hi⟩ := h.tok ht
  obtain ⟨cs, cf, hgs, hts⟩ := h.cells hi
  have hsm := h.sm
  have hLc := h.Lc
  have hBs := h.Bs
  have HR := Aside0.mk h
  clear h
  have hl1 : (0 : Int) < ((E.L.length - i : Nat) : Int) := by omega
  have hl0 : (0 : Nat) < E.L.length - i := by omega
  by_cases hk : t.f0 = kd
  · have hk1 : (t.f0 != kd) = false := by simp [hk]
    have HK := Aside0.mk hk
    clear hk
    go_enter Tryz.func27, Tryz.ntmps27
    go_wp2
    · refine ⟨rfl, _, (by simp [results, Tryz.results27, go_sem]; rfl), ?_⟩
      refine TakePost.ok HK.out (((HR.out.next hi ?_ ?_ ?_).alloc _).alloc _) (((Fr.set _ _ _).trans (Fr.alloc _ _ ?_)).trans (Fr.alloc _ _ ?_)) (((Keep.set _ _ _).trans (Keep.of_below ((Below.refl _ _).alloc (Nat.le_refl _) _))).trans (Keep.of_below ((Below.refl _ _).alloc (Nat.le_refl _) _)))
      · unfold offAt
        rw [if_neg (by omega)]
        omega
      · omega
      · omega
      · simpa [World.setCell] using hBs
      · simp [World.setCell]
        omega
    · refine ⟨rfl, _, (by simp [results, Tryz.results27, go_sem]; rfl), ?_⟩
      refine TakePost.ok HK.out (((HR.out.next hi ?_ ?_ ?_).alloc _).alloc _) (((Fr.set _ _ _).trans (Fr.alloc _ _ ?_)).trans (Fr.alloc _ _ ?_)) (((Keep.set _ _ _).trans (Keep.of_below ((Below.refl _ _).alloc (Nat.le_refl _) _))).trans (Keep.of_below ((Below.refl _ _).alloc (Nat.le_refl _) _)))
      · unfold offAt
        rw [if_pos (by omega)]
        omega
      · omega
      · omega
      · simpa [World.setCell] using hBs
      · simp [World.setCell]
        omega
  · have hk1 : (t.f0 != kd) = true := by simp [hk]
    have HK := Aside0.mk hk
    clear hk
    go_enter Tryz.func27, Tryz.ntmps27
    go_wp2_with (go_at_call 29; refine (fail_calls 30 t _).mono ?_; rintro e w' ⟨rfl, hb⟩; have HB := Aside0.mk hb; clear hb)
    refine ⟨rfl, TakePost.no HK.out ((((Fr.alloc _ _ hBs).trans (Fr.alloc _ _ ?_))).trans (Fr.of_below (HB.out.mono ?_)))⟩
    · simp
      omega
    · simp
      omega

theorem str_eq (a b : ByteArray) : (a.toList == b.toList) = decide (a = b) := by
  rw [Bool.eq_iff_iff, beq_iff_eq, decide_eq_true_iff, ByteArray.toList_eq, ByteArray.toList_eq]
  constructor
  · intro h
    rw [← bs_of a, ← bs_of b, h]
  · rintro rfl
    rfl
/-- Is a token this sign? -/
def isB (t : Tok) (sg : ByteArray) : Bool := decide (t.f0 = 2 ∧ t.f1 = sg)
def IsPost (E : Env) (i : Nat) (cl : List Cls) (od : List Elm) (ok : Nat → Prop) (w : World) (b : Bool) (en : Ending) (w' : World) : Prop :=
  en = .returned (.bool b) ∧ Rd E (if b then i + 1 else i) cl od ok w' ∧ Fr E.B E.g w w' ∧ Keep E w w'

set_option maxRecDepth 100000 in
set_option maxHeartbeats 2000000 in
theorem is_calls {E : Env} {i : Nat} {cl : List Cls} {od : List Elm} {ok : Nat → Prop} (w : World) (h : Rd E i cl od ok w) (t : Tok) (ht : E.L[i]? = some t) (sg : ByteArray) :
    Calls Tryz.prog 117 #[.pointer (some ⟨E.g, 0, none⟩), .string sg] w (IsPost E i cl od ok w (isB t sg)) := by
  obtain ⟨t0, t1, t2, t3, hi⟩ := h.tok ht
  obtain ⟨cs, cf, hgs, hts⟩ := h.cells hi
  have hsm := h.sm
  have hLc := h.Lc
  have hBs := h.Bs
  have HR := Aside0.mk h
  clear h
  have hl1 : (0 : Int) < ((E.L.length - i : Nat) : Int) := by omega
  have hl0 : (0 : Nat) < E.L.length - i := by omega
  by_cases hk : t.f0 = 2
  · have hk1 : (t.f0 != 2) = false := by simp [hk]
    by_cases hs : t.f1 = sg
    · have hk2 : (t.f1.toList == sg.toList) = true := by rw [str_eq, decide_eq_true hs]
      have e : isB t sg = true := decide_eq_true ⟨hk, hs⟩
      rw [e]
      clear hk e
      subst hs
      go_enter Tryz.func117, Tryz.ntmps117
      go_wp2
      · go_ret
        refine ⟨rfl, HR.out.next hi ?_ ?_ ?_, Fr.set _ _ _, Keep.set _ _ _⟩
        · unfold offAt
          rw [if_neg (by omega)]
          omega
        · omega
        · omega
      · go_ret
        refine ⟨rfl, HR.out.next hi ?_ ?_ ?_, Fr.set _ _ _, Keep.set _ _ _⟩
        · unfold offAt
          rw [if_pos (by omega)]
          omega
        · omega
        · omega
    · have hk2 : (t.f1.toList == sg.toList) = false := by rw [str_eq, decide_eq_false hs]
      have e : isB t sg = false := decide_eq_false (fun h => hs h.2)
      rw [e]
      clear hk e hs
      go_enter Tryz.func117, Tryz.ntmps117
      go_wp2
      go_ret
      exact ⟨rfl, HR.out, Fr.refl _ _ _, Keep.of_below (Below.refl _ _)⟩
  · have hk1 : (t.f0 != 2) = true := by simp [hk]
    have e : isB t sg = false := decide_eq_false (fun h => hk h.1)
    rw [e]
    clear hk e
    go_enter Tryz.func117, Tryz.ntmps117
    go_wp2
    go_ret
    exact ⟨rfl, HR.out, Fr.refl _ _ _, Keep.of_below (Below.refl _ _)⟩
end Go.Proofs.YtipmmkelialgkaaGreatDoor.Loc
set_option linter.unusedVariables false
set_option linter.unusedSimpArgs false
namespace Go.Proofs.YtipmmkelialgkaaGreatDoor.Loc
open Go.RowKit Go.Lib Go.Proofs.YtipmmkelialgkaaGreatDoorW.PrintWords Go.Proofs.YtipmmkelialgkaaGreatDoorW.PrintLast Go.Proofs.YtipmmkelialgkaaGreatDoorW.PrintMore Go.Proofs.YtipmmkelialgkaaGreatDoor.Lex

abbrev kI : Kd Int := Kd.int .i32
theorem int_at {w : World} {A : Option Addr} {xs : List Int} (h : kI.C w A xs.length xs) (i : Nat) (hi : i < xs.length) : ∃ ad, A = some ad ∧ w.cell? (ad.add i) = some (.int .i32 xs[i]) := by
  obtain ⟨ad, c, e, _, hK, hc⟩ := Kd.C_get h (0 : Int) (i : Int) (by omega) (by omega)
  refine ⟨ad, e, ?_⟩
  have e2 : c = [.int .i32 xs[i]] := by
    have hK : c = [.int .i32 (xs.getD (i : Int).toNat 0)] := hK
    rw [hK, Int.toNat_natCast, List.getD_eq_getElem?_getD, List.getElem?_eq_getElem hi]
    rfl
  subst e2
  have := hc 0 _ rfl
  simpa [kI, Kd.int, Kd.scalar] using this
set_option maxRecDepth 100000 in
set_option maxHeartbeats 1000000 in
theorem equal_calls {A1 A2 : Option Addr} {c1 c2 : Nat} {xs ys : List Int} (w : World) (h1 : kI.C w A1 xs.length xs) (h2 : kI.C w A2 ys.length ys) :
    Calls Tryz.prog 140 #[.slice A1 xs.length c1, .slice A2 ys.length c2] w fun e w' => e = .returned (.bool (decide (xs = ys))) ∧ ∃ n, w' = w.drewN n := by
  have hb : xs.length ≤ 9223372036854775807 := h1.2.1
  have H1 := Aside0.mk h1
  have H2 := Aside0.mk h2
  clear h1 h2
  by_cases hl : xs.length = ys.length
  · have hn : ((xs.length : Int) != (ys.length : Int)) = false := by simp [hl]
    go_enter Tryz.func140, Tryz.ntmps140
    go_wp2
    go_loopg [13] xs.length (fun gk v wx => ∃ i n : Nat, v = .int .i64 i ∧ i ≤ xs.length ∧ xs.length ≤ i + gk ∧ wx = w.drewN n ∧ Aside0 (xs.take i = ys.take i))
    case atStart => exact ⟨0, 0, rfl, Nat.zero_le _, by omega, rfl, ⟨rfl⟩⟩
    case round =>
      obtain ⟨i, n, rfl, hi, hg, rfl, HT⟩ := hrel
      by_cases hlt : i < xs.length
      · obtain ⟨g', rfl⟩ : ∃ g', gk = g' + 1 := ⟨gk - 1, by omega⟩
        obtain ⟨a1, e1, d1⟩ := int_at H1.out i hlt
        obtain ⟨a2, e2, d2⟩ := int_at H2.out i (by omega)
        subst e1 e2
        have hlt' : (i : Int) < xs.length := by omega
        have hlt2 : (i : Int) < ys.length := by omega
        have hi0 : (0 : Int) ≤ i := by omega
        have hi1 : (i : Int) + 1 ≤ 9223372036854775807 := by omega
        have hx1 : xs[i]? = some xs[i] := List.getElem?_eq_getElem hlt
        have hy1 : ys[i]? = some (ys[i]'(by omega)) := List.getElem?_eq_getElem (by omega)
        generalize xs[i] = x at *
        generalize ys[i]'(by omega) = y at *
        have HX := Aside0.mk hx1
        have HY := Aside0.mk hy1
        clear hx1 hy1
        by_cases hxy : x = y
        · have hn2 : (x != y) = false := by simp [hxy]
          have HS : Aside0 (xs.take (i + 1) = ys.take (i + 1)) := ⟨by rw [List.take_add_one, List.take_add_one, HT.out, HX.out, HY.out, hxy]⟩
          clear hxy
          go_wp2
          go_quiet (fail)
          go_wp2
          go_roundg g'
          case measure => omega
          case rel => exact ⟨i + 1, _, rfl, by omega, by omega, by first | rfl | (simp; rfl), HS⟩
        · have hn2 : (x != y) = true := by simp [hxy]
          have HS : Aside0 (¬ xs = ys) := ⟨fun h => by subst h; exact hxy (Option.some.inj (HX.out.symm.trans HY.out))⟩
          clear hxy
          go_wp2
          go_quiet (fail)
          go_wp2
          go_ret
          exact ⟨by rw [decide_eq_false HS.out]; rfl, _, by first | rfl | (simp; rfl)⟩
      · obtain rfl : i = xs.length := by omega
        have HS : Aside0 (xs = ys) := ⟨by have h := HT.out; rw [List.take_length, hl, List.take_length] at h; exact h⟩
        have hlt' : ((xs.length : Int) < xs.length) = False := by simp
        go_wp2
        go_ret
        exact ⟨by rw [decide_eq_true HS.out]; rfl, _, rfl⟩
  · have hn : ((xs.length : Int) != (ys.length : Int)) = true := by simp; omega
    have HS : Aside0 (¬ xs = ys) := ⟨fun h => hl (by rw [h])⟩
    clear hl
    go_enter Tryz.func140, Tryz.ntmps140
    go_wp2
    go_ret
    exact ⟨by rw [decide_eq_false HS.out]; rfl, 0, rfl⟩

/-- The place of the first element of which p is said; -1: none. -/
def idxI {α : Type} (p : α → Bool) (l : List α) : Int := match l.findIdx? p with
  | some j => (j : Int)
  | none => -1
def elmV (x : Elm) (A : Option Addr) (c : Nat) : Value := .agg #[.string x.f0, .slice A x.f1.length c, .int .i64 x.f2]
theorem elm_at {w : World} {A : Option Addr} {od : List Elm} (h : kE.C w A od.length od) (i : Nat) (hi : i < od.length) : ∃ ad A1 c1, A = some ad ∧ w.cell? (ad.add (i * 3)) = some (.string od[i].f0) ∧ w.cell? ⟨(ad.add (i * 3)).block, (ad.add (i * 3)).off + 1, none⟩ = some (.slice A1 od[i].f1.length c1) ∧ w.cell? ⟨(ad.add (i * 3)).block, (ad.add (i * 3)).off + 2, none⟩ = some (.int .i64 od[i].f2) ∧ od[i].f1.length ≤ c1 ∧ kI.C w A1 od[i].f1.length od[i].f1 := by
  have e : PLoc.rd_T39 od (i : Int) = od[i] := by
    unfold PLoc.rd_T39
    rw [Int.toNat_natCast, List.getD_eq_getElem?_getD, List.getElem?_eq_getElem hi]
    rfl
  obtain ⟨ad, A1, c1, h0, h1, h2, h3, h4, h5⟩ := PLoc.at_T39 h (i : Int) (by omega) (by omega)
  rw [e] at h1 h2 h3 h4 h5
  rw [Int.toNat_natCast] at h1 h2 h3
  exact ⟨ad, A1, c1, h0, h1, h2, h3, h4, h5⟩
/-- A closure that tells p of elements, from a world on. -/
def SaysE (F : FuncId) (cap : Array Value) (p : Elm → Bool) (w : World) : Prop :=
  ∀ (W : World) (x : Elm) (A : Option Addr) (c : Nat), Below w.heap.size w W → kI.C W A x.f1.length x.f1 → Calls Tryz.prog F (#[elmV x A c] ++ cap) W fun e W' => e = .returned (.bool (p x)) ∧ Below W.heap.size W W'
theorem findIdx_next {α : Type} (p : α → Bool) (l : List α) (i : Nat) (hi : i < l.length) (h : ∀ j (hj : j < i), p (l[j]'(by omega)) = false) (hp : p l[i] = true) : idxI p l = i := by
  have : l.findIdx? p = some i := List.findIdx?_eq_some_iff_getElem.2 ⟨hi, hp, fun j hj => by rw [h j hj]; simp⟩
  unfold idxI
  rw [this]
theorem findIdx_none {α : Type} (p : α → Bool) (l : List α) (h : ∀ j (hj : j < l.length), p l[j] = false) : idxI p l = -1 := by
  have : l.findIdx? p = none := List.findIdx?_eq_none_iff.2 (fun x hx => by
    obtain ⟨j, hj, rfl⟩ := List.getElem_of_mem hx
    exact h j hj)
  unfold idxI
  rw [this]
set_option maxRecDepth 100000 in
set_option maxHeartbeats 1000000 in
theorem indexE_calls {A : Option Addr} {c : Nat} {od : List Elm} (F : FuncId) (cap : Array Value) (hF : ∀ (args : Array Value) (w : World), (callFunc F args).run Tryz.prog w = .ok (.enter F args) w) (p : Elm → Bool) (w : World) (h : kE.C w A od.length od) (hb : od.length ≤ 1000000) (hp : SaysE F cap p w) :
    Calls Tryz.prog 138 #[.slice A od.length c, .func (.func F) #[] cap] w fun e w' => e = .returned (.int .i64 (idxI p od)) ∧ Below w.heap.size w w' := by
  have H := Aside0.mk h
  clear h
  go_enter Tryz.func138, Tryz.ntmps138
  go_wp2
  go_loopg [8] od.length (fun gk v wx => ∃ i : Nat, v = .int .i64 i ∧ i ≤ od.length ∧ od.length ≤ i + gk ∧ Aside0 (Below w.heap.size w wx) ∧ Aside0 (∀ j (hj : j < i) (hl : j < od.length), p od[j] = false))
  case atStart => exact ⟨0, rfl, Nat.zero_le _, by omega, ⟨Below.refl _ _⟩, ⟨fun j hj => absurd hj (Nat.not_lt_zero _)⟩⟩
  case round =>
    obtain ⟨i, rfl, hi, hg, HB, HT⟩ := hrel
    by_cases hlt : i < od.length
    · obtain ⟨g', rfl⟩ : ∃ g', gk = g' + 1 := ⟨gk - 1, by omega⟩
      obtain ⟨ad, A1, c1, e1, d0, d1, d2, hc, hC⟩ := elm_at (Kd.C_below H.out HB.out) i hlt
      have HP := Aside0.mk (hp wr od[i] A1 c1 HB.out hC)
      have HI : Aside0 (∃ x, od[i] = x) := ⟨_, rfl⟩
      clear hC
      subst e1
      have hlt' : (i : Int) < od.length := by omega
      have hi0 : (0 : Int) ≤ i := by omega
      have hi1 : (i : Int) ≤ 1000000 := by omega
      have HN : Aside0 (p od[i] = true → idxI p od = i) := ⟨fun h => findIdx_next p od i hlt (fun j hj => HT.out j hj (by omega)) h⟩
      have HM : Aside0 (p od[i] = false → ∀ j (hj : j < i + 1) (hl : j < od.length), p od[j] = false) := ⟨fun h j hj hl => by
        by_cases e : j = i
        · subst e
          exact h
        · exact HT.out j (by omega) hl⟩
      generalize od[i] = x at *
      go_wp2_with fail
      refine HP.out.mono ?_
      rintro e w2 ⟨rfl, hb2⟩
      have HB2 := Aside0.mk (HB.out.trans (hb2.mono HB.out.size))
      clear hb2
      cases hpx : p x with
      | true =>
        have HX := Aside0.mk (HN.out hpx)
        clear hpx
        go_wp2
        go_ret
        exact ⟨by rw [HX.out]; rfl, HB2.out⟩
      | false =>
        have HX := Aside0.mk (HM.out hpx)
        clear hpx
        go_wp2
        go_roundg g'
        case measure => omega
        case rel => exact ⟨i + 1, by first | rfl | (simp; done), by omega, by omega, HB2, HX⟩
    · obtain rfl : i = od.length := by omega
      have HS : Aside0 (idxI p od = -1) := ⟨findIdx_none p od (fun j hj => HT.out j hj hj)⟩
      have hlt' : ((od.length : Int) < od.length) = False := by simp
      go_wp2
      go_ret
      exact ⟨by rw [HS.out]; rfl, HB.out⟩

theorem idxI_any {α : Type} (p : α → Bool) (l : List α) : decide (0 ≤ idxI p l) = l.any p := by
  unfold idxI
  cases h : l.findIdx? p with
  | none =>
    have h2 := List.findIdx?_eq_none_iff.1 h
    have e : l.any p = false := List.any_eq_false.2 (fun x hx => by rw [h2 x hx]; simp)
    rw [e]
    rfl
  | some j =>
    obtain ⟨hj, hp, _⟩ := List.findIdx?_eq_some_iff_getElem.1 h
    have e : l.any p = true := List.any_eq_true.2 ⟨l[j], List.getElem_mem hj, hp⟩
    rw [e]
    exact decide_eq_true (Int.natCast_nonneg j)
set_option maxRecDepth 100000 in
theorem containsE_calls {A : Option Addr} {c : Nat} {od : List Elm} (F : FuncId) (cap : Array Value) (hF : ∀ (args : Array Value) (w : World), (callFunc F args).run Tryz.prog w = .ok (.enter F args) w) (p : Elm → Bool) (w : World) (h : kE.C w A od.length od) (hb : od.length ≤ 1000000) (hp : SaysE F cap p w) :
    Calls Tryz.prog 165 #[.slice A od.length c, .func (.func F) #[] cap] w fun e w' => e = .returned (.bool (od.any p)) ∧ Below w.heap.size w w' := by
  have H := Aside0.mk h
  clear h
  have HX : Aside0 (decide (0 ≤ idxI p od) = od.any p) := ⟨idxI_any p od⟩
  go_enter Tryz.func165, Tryz.ntmps165
  go_wp2_with fail
  refine (indexE_calls F cap hF p w H.out hb hp).mono ?_
  rintro e w2 ⟨rfl, hb2⟩
  have HB := Aside0.mk hb2
  clear hb2
  go_wp2
  go_ret
  exact ⟨by rw [← HX.out]; rfl, HB.out⟩
set_option maxRecDepth 100000 in
theorem place1_says {b : Nat} {A2 : Option Addr} {c2 : Nat} {cells : List Int} (w : World) (hc : w.cell? ⟨b, 0, none⟩ = some (.slice A2 cells.length c2)) (hlt : b < w.heap.size) (hC : kI.C w A2 cells.length cells) :
    SaysE 139 #[.pointer (some ⟨b, 0, none⟩)] (fun x => decide (x.f1 = cells)) w := by
  intro W x A c hB hx
  have hc2 : W.cell? ⟨b, 0, none⟩ = some (.slice A2 cells.length c2) := (World.cell?_of_block (w := w) (a := ⟨b, 0, none⟩) (hB.block b hlt)).trans hc
  have hlt2 : b < W.heap.size := Nat.lt_of_lt_of_le hlt hB.size
  have HC := Aside0.mk (Kd.C_below hC hB)
  have HX := Aside0.mk hx
  clear hc hlt hC hB hx
  unfold elmV
  show Calls _ _ #[_, _] _ _
  go_enter Tryz.func139, Tryz.ntmps139
  go_wp2_with fail
  refine (equal_calls _ (Kd.C_below HX.out ((Below.refl _ _).alloc (Nat.le_refl _) _)) (Kd.C_below HC.out ((Below.refl _ _).alloc (Nat.le_refl _) _))).mono ?_
  rintro e w2 ⟨rfl, n, rfl⟩
  go_wp2
  go_ret
  exact ⟨rfl, ((Below.refl _ W).alloc (Nat.le_refl _) _).trans (Lex.below_drewN _ _ _)⟩
set_option maxRecDepth 100000 in
theorem place_calls {A A2 : Option Addr} {c c2 : Nat} {od : List Elm} {cells : List Int} (w : World) (h : kE.C w A od.length od) (hb : od.length ≤ 1000000) (hC : kI.C w A2 cells.length cells) :
    Calls Tryz.prog 97 #[.slice A od.length c, .slice A2 cells.length c2] w fun e w' => e = .returned (.int .i64 (idxI (fun x => decide (x.f1 = cells)) od)) ∧ Below w.heap.size w w' := by
  have H := Aside0.mk h
  have HC := Aside0.mk hC
  clear h hC
  have hmf : ∀ (fn : Fn) (first cap : Array Value) (w : World), (Instr.makeFunc fn first cap).run Tryz.prog w = .ok (.func fn first cap) w := fun _ _ _ _ => rfl
  go_enter Tryz.func97, Tryz.ntmps97
  go_wp2_with fail
  have hb0 : Below w.heap.size w (w.alloc (.cells #[.slice A2 cells.length c2] 37)) := (Below.refl _ _).alloc (Nat.le_refl _) _
  refine (indexE_calls 139 _ (enters_of Tryz.func139 (by kernel_rfl) rfl) (fun x => decide (x.f1 = cells)) _ (Kd.C_below H.out hb0) hb (place1_says (c2 := c2) _ (by go_simp) (by simp) (Kd.C_below HC.out hb0))).mono ?_
  rintro e w2 ⟨rfl, hb2⟩
  have HB := Aside0.mk (hb0.trans (hb2.mono hb0.size))
  clear hb2 hb0
  go_wp2
  go_ret
  exact ⟨rfl, HB.out⟩
end Go.Proofs.YtipmmkelialgkaaGreatDoor.Loc
