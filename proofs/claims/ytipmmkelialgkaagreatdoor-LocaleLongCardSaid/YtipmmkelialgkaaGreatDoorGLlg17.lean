/- (*locale.reader).kinds: the map of lines; what a word finds in it. · strings.Builder's writers, at this program (the shelf's walks turned: the copy check's other branch is one that the reading refuses, and none comes there). · strconv.FormatInt at base 16. -/
import Derived.Test.YtipmmkelialgkaaGreatDoorGLlg16
import Derived.Test.YtipmmkelialgkaaGreatDoorGLlg4
import Derived.Test.YtipmmkelialgkaaGreatDoorGLlg5
import Derived.Lib.Builder
import Derived.Lib.AppendStr
import Derived.Lib.UnsafeStr
import Derived.Laws.Externs
import Derived.Laws.IdiomCopy
import Derived.Laws.BitsLemmas
import Derived.Laws.Bits64
import Derived.Laws.IdiomStrings
set_option linter.unusedVariables false
set_option linter.unusedSimpArgs false
namespace Go.Proofs.YtipmmkelialgkaaGreatDoor.Loc
open Go.RowKit Go.Lib Go.Proofs.YtipmmkelialgkaaGreatDoorW.PrintWords Go.Proofs.YtipmmkelialgkaaGreatDoorW.PrintLast Go.Proofs.YtipmmkelialgkaaGreatDoorW.PrintMore Go.Proofs.YtipmmkelialgkaaGreatDoor.Lex

abbrev tyK : TypeId := 76
def setB (w : World) (b : Nat) (o : Obj) : World := Go.ChangeMaps.setBlock w b o
theorem key_str (s : ByteArray) (hs : s.size ≤ 1000000) : keyOf Tryz.prog 9 (.string s) = some (.string s.data.toList) := Go.WideMaps.keyOf_string_mk (P := Tryz.prog) Tryz.underlying9 (s := s) (Nat.le_trans hs (by decide))
theorem insert_new (W : World) (b : Nat) (es : Array MapEntry) (clock : Nat) (s : ByteArray) (val : Value) (hb : W.heap[b]? = some (.map es clock)) (hs : s.size ≤ 1000000) (hk : ∀ e ∈ es.toList, ∃ s', e.key = .string s' ∧ s'.size ≤ 1000000 ∧ s' ≠ s) :
    (Instr.mapUpdate tyK (.map (some b)) (.string s) val).run Tryz.prog W = .ok () (setB W b (.map (es.push ⟨.string s, val, clock⟩) (clock + 1))) := by
  have K := Go.Maps.string_keyed (P := Tryz.prog) Tryz.underlying9
  have hkey := key_str s hs
  rcases K.find W hkey es.toList (fun e he => by obtain ⟨s', h1, h2, _⟩ := hk e he; exact ⟨_, by rw [h1]; exact key_str s' h2⟩) with ⟨f1, _⟩ | ⟨j, e0, _, f2, f3⟩
  · simp [Instr.mapUpdate, run_underlying Tryz.underlying76, MapKept.run_getObj_map hb, K.check W false hkey, f1, MapKept.run_setObj_map _ hb, Result.andThen, setB, Go.ChangeMaps.setBlock]
  · obtain ⟨s', h1, _, h3⟩ := hk e0 (List.mem_of_getElem? f2)
    rw [h1] at f3
    exact absurd (by injection f3) h3
theorem lookup_one (W : World) (b : Nat) (es : Array MapEntry) (clock : Nat) (s : ByteArray) (val : Value) (hb : W.heap[b]? = some (.map es clock)) (hs : s.size ≤ 1000000) (hk : ∀ e ∈ es.toList, ∃ s', e.key = .string s' ∧ s'.size ≤ 1000000 ∧ (s' = s → e.val = val)) (he : ∃ e ∈ es.toList, e.key = .string s) :
    (Instr.lookup tyK (.map (some b)) (.string s) true).run Tryz.prog W = .ok (.tuple #[val, .bool true]) W := by
  have K := Go.Maps.string_keyed (P := Tryz.prog) Tryz.underlying9
  have hkey := key_str s hs
  rcases K.find W hkey es.toList (fun e he => by obtain ⟨s', h1, h2, _⟩ := hk e he; exact ⟨_, by rw [h1]; exact key_str s' h2⟩) with ⟨_, f1⟩ | ⟨j, e0, f1, f2, f3⟩
  · obtain ⟨e, h1, h2⟩ := he
    exact absurd h2 (f1 e h1)
  · obtain ⟨s', h1, _, h3⟩ := hk e0 (List.mem_of_getElem? f2)
    rw [h1] at f3
    have e1 := h3 (by injection f3)
    rw [e1] at f1
    simp [Instr.lookup, run_underlying Tryz.underlying76, MapKept.run_getObj_map hb, K.check W _ hkey, f1, Result.andThen]

def classS : ByteArray := ⟨#[99, 108, 97, 115, 115]⟩
def upperS : ByteArray := ⟨#[116, 111, 117, 112, 112, 101, 114]⟩
def lowerS : ByteArray := ⟨#[116, 111, 108, 111, 119, 101, 114]⟩
def collS : ByteArray := ⟨#[99, 111, 108, 108, 97, 116, 105, 110, 103, 45, 101, 108, 101, 109, 101, 110, 116]⟩
def orderS : ByteArray := ⟨#[111, 114, 100, 101, 114]⟩
/-- The map's entries, in the order in which they are laid. -/
def kindsE (g br : Nat) : List MapEntry := [⟨.string classS, .func (.func 69) #[.pointer (some ⟨g, 0, none⟩)] #[], 0⟩, ⟨.string upperS, .func (.func 70) #[] #[.pointer (some ⟨br, 0, none⟩)], 1⟩,
  ⟨.string lowerS, .func (.func 72) #[] #[.pointer (some ⟨br, 0, none⟩)], 2⟩, ⟨.string collS, .func (.func 73) #[.pointer (some ⟨g, 0, none⟩)] #[], 3⟩, ⟨.string orderS, .func (.func 74) #[.pointer (some ⟨g, 0, none⟩)] #[], 4⟩]
def kindsA (g br n : Nat) : Array MapEntry := ((kindsE g br).take n).toArray
theorem setB_block (w : World) (b : Nat) (o : Obj) (k : Nat) (hk : k ≠ b) : (setB w b o).heap[k]? = w.heap[k]? := by
  simp [setB, Go.ChangeMaps.setBlock, Array.getElem?_setIfInBounds, hk.symm]
theorem setB_self (w : World) (b : Nat) (o : Obj) (hb : b < w.heap.size) : (setB w b o).heap[b]? = some o := by
  simp [setB, Go.ChangeMaps.setBlock, Array.getElem?_setIfInBounds, hb]
theorem setB_size (w : World) (b : Nat) (o : Obj) : (setB w b o).heap.size = w.heap.size := by
  simp [setB, Go.ChangeMaps.setBlock]
theorem setB_below {w W : World} (h : Below w.heap.size w W) {b : Nat} (hb : w.heap.size ≤ b) (o : Obj) : Below w.heap.size w (setB W b o) :=
  ⟨h.os, h.tape, h.output, by rw [setB_size]; exact h.size, fun k hk => (setB_block W b o k (by omega)).trans (h.block k hk)⟩
/-- One line more is laid. -/
theorem lay_kind {w W : World} {g br b n : Nat} {s : ByteArray} {v : Value} (hbel : Below w.heap.size w W) (hbr : W.heap[br]? = some (.cells #[.pointer (some ⟨g, 0, none⟩)] 68 (0, 0))) (hb : W.heap[b]? = some (.map (kindsA g br n) n)) (hw : w.heap.size ≤ b) (hne : br ≠ b)
    (he : (kindsA g br n).push ⟨.string s, v, n⟩ = kindsA g br (n + 1)) (hs : s.size ≤ 1000000) (hk : ∀ e ∈ (kindsA g br n).toList, ∃ s', e.key = .string s' ∧ s'.size ≤ 1000000 ∧ s' ≠ s) :
    ∃ W2, (Instr.mapUpdate tyK (.map (some b)) (.string s) v).run Tryz.prog W = .ok () W2 ∧ Below w.heap.size w W2 ∧ W2.heap[br]? = some (.cells #[.pointer (some ⟨g, 0, none⟩)] 68 (0, 0)) ∧ W2.heap[b]? = some (.map (kindsA g br (n + 1)) (n + 1)) := by
  refine ⟨_, insert_new W b _ _ s v hb hs hk, setB_below hbel hw _, (setB_block _ _ _ _ hne).trans hbr, ?_⟩
  rw [he]
  exact setB_self _ _ _ (Array.getElem?_eq_some_iff.1 hb).1
set_option maxRecDepth 100000 in
set_option maxHeartbeats 2000000 in
theorem kinds_calls (g : Nat) (w : World) :
    Calls Tryz.prog 28 #[.pointer (some ⟨g, 0, none⟩)] w fun e w' => ∃ b br, e = .returned (.map (some b)) ∧ w'.heap[b]? = some (.map (kindsA g br 5) 5) ∧ Below w.heap.size w w' := by
  have hmf : ∀ (fn : Fn) (first cap : Array Value) (w : World), (Instr.makeFunc fn first cap).run Tryz.prog w = .ok (.func fn first cap) w := fun _ _ _ _ => rfl
  have hmk : ∀ w : World, (Instr.makeMap tyK none).run Tryz.prog w = .ok (.map (some w.heap.size)) (w.alloc (.map #[] 0)) := fun _ => rfl
  have b0 : Below w.heap.size w ((w.alloc (.cells #[.pointer (some ⟨g, 0, none⟩)] 68)).alloc (.map #[] 0)) := ((Below.refl _ _).alloc (Nat.le_refl _) _).alloc (by simp) _
  have r0 := blk_alloc (blk_new w (.cells #[.pointer (some ⟨g, 0, none⟩)] 68)) (.map #[] 0)
  have m0 : ((w.alloc (.cells #[.pointer (some ⟨g, 0, none⟩)] 68)).alloc (.map #[] 0)).heap[w.heap.size + 1]? = some (.map #[] 0) := by
    have := blk_new (w.alloc (.cells #[.pointer (some ⟨g, 0, none⟩)] 68)) (.map #[] 0)
    simpa using this
  replace m0 : ((w.alloc (.cells #[.pointer (some ⟨g, 0, none⟩)] 68)).alloc (.map #[] 0)).heap[w.heap.size + 1]? = some (.map (kindsA g w.heap.size 0) 0) := m0
  obtain ⟨W1, u1, b1, r1, m1⟩ := lay_kind (s := classS) (v := .func (.func 69) #[.pointer (some ⟨g, 0, none⟩)] #[]) b0 r0 m0 (by omega) (by omega) rfl (by decide) (by simp [kindsA])
  obtain ⟨W2, u2, b2, r2, m2⟩ := lay_kind (s := upperS) (v := .func (.func 70) #[] #[.pointer (some ⟨w.heap.size, 0, none⟩)]) b1 r1 m1 (by omega) (by omega) rfl (by decide) (by simp [kindsA, kindsE]; decide)
  obtain ⟨W3, u3, b3, r3, m3⟩ := lay_kind (s := lowerS) (v := .func (.func 72) #[] #[.pointer (some ⟨w.heap.size, 0, none⟩)]) b2 r2 m2 (by omega) (by omega) rfl (by decide) (by simp [kindsA, kindsE]; decide)
  obtain ⟨W4, u4, b4, r4, m4⟩ := lay_kind (s := collS) (v := .func (.func 73) #[.pointer (some ⟨g, 0, none⟩)] #[]) b3 r3 m3 (by omega) (by omega) rfl (by decide) (by simp [kindsA, kindsE]; decide)
  obtain ⟨W5, u5, b5, r5, m5⟩ := lay_kind (s := orderS) (v := .func (.func 74) #[.pointer (some ⟨g, 0, none⟩)] #[]) b4 r4 m4 (by omega) (by omega) rfl (by decide) (by simp [kindsA, kindsE]; decide)
  have c3 := box1 r3
  have c4 := box1 r4
  have B5 := Aside0.mk b5
  have M5 := Aside0.mk m5
  unfold classS at u1
  unfold upperS at u2
  unfold lowerS at u3
  unfold collS at u4
  unfold orderS at u5
  clear b0 b1 b2 b3 b4 b5 r0 r1 r2 r3 r4 r5 m0 m1 m2 m3 m4 m5
  go_enter Tryz.func28, Tryz.ntmps28
  go_wp2
  go_ret
  exact ⟨_, _, rfl, M5.out, B5.out⟩
end Go.Proofs.YtipmmkelialgkaaGreatDoor.Loc
set_option linter.unusedVariables false
set_option linter.unusedSimpArgs false
namespace Go.Proofs.YtipmmkelialgkaaGreatDoor.Lex
open Go.RowKit Go.Lib Go.Proofs.YtipmmkelialgkaaGreatDoorW.PrintWords Go.Proofs.YtipmmkelialgkaaGreatDoorW.PrintLast Go.Proofs.YtipmmkelialgkaaGreatDoorW.PrintMore Go.Proofs.YtipmmkelialgkaaGreatDoor.PLex

theorem sizeBuilder : (Tryz.prog.info? 110).map (·.size) = some 2 := by kernel_rfl
theorem liesBuilder : liesAt Tryz.prog Tryz.prog.depth 110 (2 / Tryz.prog.cellsOf 110) 0 110 1 = true := by kernel_rfl
theorem infoByte : (Tryz.prog.info? 5).map (fun i => (i.zero, i.size, i.bytes)) = some (some (.int .u8 0), 1, 1) := by kernel_rfl

set_option maxRecDepth 100000 in
theorem copyCheck_used (b : Nat) (w : World) (h0 : w.cell? ⟨b, 0, none⟩ = some (.pointer (some ⟨b, 0, none⟩))) :
    Calls Tryz.prog 103 #[.pointer (some ⟨b, 0, none⟩)] w fun e w' => e = .returned (.tuple #[]) ∧ w' = w := by
  obtain ⟨j, hj, _⟩ := Option.map_eq_some_iff.1 sizeBuilder
  go_enter Tryz.func103, Tryz.ntmps103
  go_wp2
  rw [Lib.run_neq_ptr_same w _ Tryz.underlying108 hj]
  go_wp2
  go_end0
  exact ⟨rfl, rfl⟩

set_option maxRecDepth 100000 in
theorem copyCheck_fresh (b : Nat) (w : World) (h0 : w.cell? ⟨b, 0, none⟩ = some (.pointer none)) (hsh : w.shape? b = some (110, 2)) (hfz : w.frozen? ⟨b, 0, none⟩ = false) :
    Calls Tryz.prog 103 #[.pointer (some ⟨b, 0, none⟩)] w fun e w' => e = .returned (.tuple #[]) ∧ w' = w.setCell ⟨b, 0, none⟩ (.pointer (some ⟨b, 0, none⟩)) := by
  obtain ⟨j, hj, hjs⟩ := Option.map_eq_some_iff.1 sizeBuilder
  go_enter Tryz.func103, Tryz.ntmps103
  go_wp2
  rw [Lib.run_to_unsafe w ⟨b, 0, none⟩ Tryz.underlying108 Tryz.underlying183 hj (by rw [hjs]; decide) hsh (Nat.zero_lt_succ 1)]
  simp only [Result.andThen]
  rw [Oper.upon_value]
  go_wp2
  rw [run_callFunc_extern Tryz.func150 (by kernel_rfl) (by kernel_rfl) (by kernel_rfl) (e := Extern.AbiNoEscape.same) (by kernel_rfl)]
  rw [Lib.run_noEscape]
  simp only [Result.andThen]
  rw [Oper.upon_value]
  go_wp2
  rw [Lib.run_from_unsafe w ⟨b, 0, none⟩ Tryz.underlying183 Tryz.underlying108 hj hsh liesBuilder]
  simp only [Result.andThen]
  rw [Oper.upon_value]
  go_wp2
  go_end0
  exact ⟨rfl, rfl⟩

theorem copyCheck_calls (B b : Nat) (bs : List Value) (w : World) (h : Lib.IsBuilder 110 5 B b bs w) :
    Calls Tryz.prog 103 #[.pointer (some ⟨b, 0, none⟩)] w fun e w' => e = .returned (.tuple #[]) ∧ (Lib.BuilderAt 110 5 B b (.pointer (some ⟨b, 0, none⟩)) bs w' ∧ Below B w w') := by
  rcases h with h | h
  · refine (copyCheck_fresh b w h.cell0 h.shape h.frozen0).mono ?_
    rintro e w' ⟨rfl, rfl⟩
    exact ⟨rfl, h.used _, (Below.refl B w).setCell (p := ⟨b, 0, none⟩) h.1 _⟩
  · refine (copyCheck_used b w h.cell0).mono ?_
    rintro e w' ⟨rfl, rfl⟩
    exact ⟨rfl, h, Below.refl B _⟩

set_option maxHeartbeats 2000000 in
set_option maxRecDepth 100000 in
theorem writeByte_calls (B b : Nat) (bs : List Value) (c : Int) (w : World) (h : Lib.IsBuilder 110 5 B b bs w) (hlen : bs.length + 1 ≤ 140737488355328) (hBw : B ≤ w.heap.size) :
    Calls Tryz.prog 60 #[.pointer (some ⟨b, 0, none⟩), .int .u8 c] w fun e w' => e = .returned .nilIface ∧ (Lib.BuilderAt 110 5 B b (.pointer (some ⟨b, 0, none⟩)) (bs ++ [.int .u8 c]) w' ∧ Below B w w') := by
  obtain ⟨i0, hi, hz0, hz1, hz2⟩ := info_parts infoByte
  go_enter Tryz.func60, Tryz.ntmps60
  go_wp2_with (go_at_call 103; refine (copyCheck_calls B b bs _ h).mono ?_)
  rintro e w1 ⟨rfl, h1, hb1⟩
  obtain ⟨hB, v, hbk, hown, hne⟩ := h1
  have c0 : w1.cell? ⟨b, 0, none⟩ = some (.pointer (some ⟨b, 0, none⟩)) := by rw [Lib.cell_of_heap hbk]; rfl
  have c1 : w1.cell? ⟨b, 1, none⟩ = some v := by rw [Lib.cell_of_heap hbk]; rfl
  go_wp2_with (at_builtin; refine wpList_append_own _ rfl _ _ 22 rfl B 5 i0 (.int .u8 0) 1 1 Tryz.underlying22 hi hz0 hz1 hz2 rfl (by decide) _ _ _ rfl (hown.alloc _) ⟨w1.heap.size, 0, none⟩ 1 1 [.int .u8 c] rfl rfl ?c1 ?c2 ?c3 ?c4 ?c5 ?_)
  case c1 =>
    intro j u hj
    match j, hj with
    | 0, hj => simp at hj; subst hj; simp [Addr.add]
  case c2 => intro u hu; simp at hu; subst hu; rfl
  case c3 => unfold maxLen; omega
  case c4 => omega
  case c5 => have := hb1.size; simp; omega
  intro v' w2 hown' hgrow _
  have hlt : b < w1.heap.size := by
    rcases Nat.lt_or_ge b w1.heap.size with h' | h'
    · exact h'
    · simp [Array.getElem?_eq_none h'] at hbk
  have hb2 : w2.heap[b]? = some (.cells #[.pointer (some ⟨b, 0, none⟩), v] 110 (0, 0)) := by
    rw [hgrow.block b (by simp; omega) (fun e => hne e.symm), Lib.alloc_old w1 _ b hlt]
    exact hbk
  have d0 : w2.cell? ⟨b, 0, none⟩ = some (.pointer (some ⟨b, 0, none⟩)) := by rw [Lib.cell_of_heap hb2]; rfl
  have d1 : w2.cell? ⟨b, 1, none⟩ = some v := by rw [Lib.cell_of_heap hb2]; rfl
  have f1 : w2.frozen? ⟨b, 1, none⟩ = false := Lib.frozen_of_heap hb2 1
  obtain ⟨g, cap, rfl⟩ : ∃ g cap, v' = .slice (some ⟨g, 0, none⟩) (bs.length + 1) cap := by
    rcases hown'.2 with ⟨_, h0⟩ | ⟨g, cap, cur, hv, _⟩
    · omega
    · exact ⟨g, cap, hv⟩
  go_wp2
  go_ret
  refine ⟨rfl, ?_, ?_⟩
  · exact Lib.BuilderAt.put (T := 110) (e := 5) hB hb2 (bs' := bs ++ [.int .u8 c]) (by simpa using hown') (by decide)
  · exact ((hb1.alloc (by have := hb1.size; omega) _).grown hgrow (by have := hb1.size; simp; omega) (fun k hk => (hown.lt k hk).1)).setCell (p := ⟨b, 1, none⟩) hB _

set_option maxHeartbeats 2000000 in
set_option maxRecDepth 100000 in
theorem writeString_calls (B b : Nat) (bs : List Value) (s : ByteArray) (w : World) (h : Lib.IsBuilder 110 5 B b bs w) (hlen : bs.length + s.size ≤ 140737488355328) (hBw : B ≤ w.heap.size) :
    Calls Tryz.prog 64 #[.pointer (some ⟨b, 0, none⟩), .string s] w fun e w' => e = .returned (.tuple #[.int .i64 s.size, .nilIface]) ∧ (Lib.BuilderAt 110 5 B b (.pointer (some ⟨b, 0, none⟩)) (bs ++ Lib.strCells s) w' ∧ Below B w w') := by
  obtain ⟨i0, hi, hz0, hz1, hz2⟩ := info_parts infoByte
  go_enter Tryz.func64, Tryz.ntmps64
  go_wp2_with (go_at_call 103; refine (copyCheck_calls B b bs _ h).mono ?_)
  rintro e w1 ⟨rfl, h1, hb1⟩
  obtain ⟨hB, v, hbk, hown, hne⟩ := h1
  have c0 : w1.cell? ⟨b, 0, none⟩ = some (.pointer (some ⟨b, 0, none⟩)) := by rw [Lib.cell_of_heap hbk]; rfl
  have c1 : w1.cell? ⟨b, 1, none⟩ = some v := by rw [Lib.cell_of_heap hbk]; rfl
  go_wp2_with (at_builtin; refine Lib.wpList_append_own_string _ rfl _ _ 22 9 rfl B 5 i0 Tryz.underlying22 Tryz.underlying9 hi hz0 hz1 hz2 _ _ _ rfl hown s rfl ?c3 ?c4 ?c5 ?_)
  case c3 => unfold maxLen; omega
  case c4 => omega
  case c5 => have := hb1.size; omega
  intro v' w2 hown' hgrow _
  have hlt : b < w1.heap.size := by
    rcases Nat.lt_or_ge b w1.heap.size with h' | h'
    · exact h'
    · simp [Array.getElem?_eq_none h'] at hbk
  have hb2 : w2.heap[b]? = some (.cells #[.pointer (some ⟨b, 0, none⟩), v] 110 (0, 0)) := by
    rw [hgrow.block b hlt (fun e => hne e.symm)]
    exact hbk
  have d0 : w2.cell? ⟨b, 0, none⟩ = some (.pointer (some ⟨b, 0, none⟩)) := by rw [Lib.cell_of_heap hb2]; rfl
  have d1 : w2.cell? ⟨b, 1, none⟩ = some v := by rw [Lib.cell_of_heap hb2]; rfl
  have f1 : w2.frozen? ⟨b, 1, none⟩ = false := Lib.frozen_of_heap hb2 1
  obtain ⟨ao, n', cap, rfl⟩ : ∃ ao n' cap, v' = .slice ao n' cap := by
    rcases hown'.2 with ⟨hv, _⟩ | ⟨g, cap, cur, hv, _⟩
    · exact ⟨_, _, _, hv⟩
    · exact ⟨_, _, _, hv⟩
  go_wp2
  go_ret2
  refine ⟨rfl, ?_, ?_⟩
  · exact Lib.BuilderAt.put (T := 110) (e := 5) hB hb2 (bs' := bs ++ Lib.strCells s) (by simpa [Lib.strCells_length] using hown') (by decide)
  · exact (hb1.grown hgrow (by have := hb1.size; omega) (fun k hk => (hown.lt k hk).1)).setCell (p := ⟨b, 1, none⟩) hB _
end Go.Proofs.YtipmmkelialgkaaGreatDoor.Lex
set_option linter.unusedVariables false
set_option linter.unusedSimpArgs false
namespace Go.Proofs.YtipmmkelialgkaaGreatDoor.Lex
open Go.RowKit Go.Lib Go.Proofs.YtipmmkelialgkaaGreatDoorW.PrintWords Go.Proofs.YtipmmkelialgkaaGreatDoorW.PrintLast Go.Proofs.YtipmmkelialgkaaGreatDoorW.PrintMore Go.Proofs.YtipmmkelialgkaaGreatDoor.PLex

set_option maxRecDepth 100000 in
theorem isPow_calls (w : World) : Calls Tryz.prog 190 #[.int .i64 16] w fun e w' => e = .returned (.bool true) ∧ w' = w := by
  have h1 : bits .and .i64 16 15 = 0 := by decide
  go_enter Tryz.func190, Tryz.ntmps190
  go_wp2
  go_ret
  exact ⟨rfl, rfl⟩

set_option maxRecDepth 100000 in
theorem tz64_calls (w : World) (hG : Gl w) : Calls Tryz.prog 210 #[.int .u64 16] w fun e w' => e = .returned (.int .i64 4) ∧ w' = w := by
  have h0 : IntKind.u64.wrap (-16) = 18446744073709551600 := by decide
  have h1 : bits .and .u64 16 18446744073709551600 = 16 := by decide
  have ht := hG.tab
  clear hG
  go_enter Tryz.func210, Tryz.ntmps210
  go_wp2
  go_ret
  exact ⟨rfl, rfl⟩

set_option maxRecDepth 100000 in
theorem tz_calls (w : World) (hG : Gl w) : Calls Tryz.prog 191 #[.int .u64 16] w fun e w' => e = .returned (.int .i64 4) ∧ w' = w := by
  go_enter Tryz.func191, Tryz.ntmps191
  go_wp2_with (go_at_call 210; refine (tz64_calls _ hG).mono ?_; rintro e w' ⟨rfl, rfl⟩)
  go_ret
  exact ⟨rfl, rfl⟩

/-- A digit's sign at base 16, small. -/
def hexC (d : Nat) : UInt8 := if d < 10 then UInt8.ofNat (48 + d) else UInt8.ofNat (87 + d)
/-- The digits of n ahead of the signs l: at most k of them. -/
def hexS : Nat → Nat → List UInt8 → List UInt8
  | 0, n, l => hexC (n % 16) :: l
  | k + 1, n, l => if n < 16 then hexC n :: l else hexS k (n / 16) (hexC (n % 16) :: l)
theorem hexS_len : ∀ (k n : Nat) (l : List UInt8), (hexS k n l).length ≤ l.length + k + 1
  | 0, n, l => by simp [hexS]
  | k + 1, n, l => by
    have := hexS_len k (n / 16) (hexC (n % 16) :: l)
    simp only [hexS]
    split
    · simp
    · simp at this ⊢; omega
theorem mask15 {a : Int} (h0 : 0 ≤ a) (h1 : a < 9223372036854775808) : bits .and .u64 a 15 = a % 16 := by
  have h := bits_mask .u64 63 (by decide) (fun n h₀ h₁ => by rw [IntKind.wrap_u64]; omega) 4 (by decide) a h0 (by omega)
  have e : ((2 : Int) ^ 4 - 1) = 15 := by decide
  have e2 : ((2 : Int) ^ 4) = 16 := by decide
  rw [e, e2] at h
  exact h

/-- The row of signs: from place p on it holds acc. -/
def Row65 (A p : Nat) (acc : List UInt8) (w : World) : Prop := ∃ pre : List Value, pre.length = p ∧ w.heap[A]? = some (.cells (pre ++ byteCells acc).toArray 213)
theorem Row65.at {A p : Nat} {acc : List UInt8} {w : World} (h : Row65 A (p + 1) acc w) : ∃ v, w.cell? ⟨A, p, none⟩ = some v ∧ w.frozen? ⟨A, p, none⟩ = false ∧ ∀ c : UInt8, Row65 A p (c :: acc) (w.setCell ⟨A, p, none⟩ (.int .u8 c.toNat)) := by
  obtain ⟨pre, hl, hh⟩ := h
  rcases List.eq_nil_or_concat pre with rfl | ⟨pre, v, rfl⟩
  · simp at hl
  rw [List.concat_eq_append] at hl hh
  have hl' : pre.length = p := by simpa using hl
  refine ⟨v, ?_, ?_, fun c => ⟨pre, hl', ?_⟩⟩
  · simp [World.cell?, hh, ← hl']
  · simp [World.frozen?, hh]
  · subst hl'
    simp [World.setCell, Array.getElem?_modify, hh, byteCells]
theorem dig_tab : ((List.range 16).all fun d => decide ((⟨#[48, 49, 50, 51, 52, 53, 54, 55, 56, 57, 97, 98, 99, 100, 101, 102, 103, 104, 105, 106, 107, 108, 109, 110, 111, 112, 113, 114, 115, 116, 117, 118, 119, 120, 121, 122]⟩ : ByteArray).data.toList[d]? = some (hexC d))) = true := by decide +kernel
abbrev digs : ByteArray := ⟨#[48, 49, 50, 51, 52, 53, 54, 55, 56, 57, 97, 98, 99, 100, 101, 102, 103, 104, 105, 106, 107, 108, 109, 110, 111, 112, 113, 114, 115, 116, 117, 118, 119, 120, 121, 122]⟩
theorem dig_get (d : Nat) (hd : d < 16) (h : d < digs.size) : digs[d] = hexC d := by
  have h1 := of_decide_eq_true (List.all_eq_true.1 dig_tab d (List.mem_range.2 hd))
  have hl : d < digs.data.toList.length := by rw [Array.length_toList]; exact h
  have h2 : digs.data.toList[d]? = some digs[d] := by
    rw [List.getElem?_eq_getElem hl]
    rfl
  exact Option.some.inj (h2.symm.trans h1)
theorem Row65.cells {A p : Nat} {acc : List UInt8} {w : World} (h : Row65 A p acc w) (j : Nat) (hj : j < acc.length) : w.cell? ((⟨A, p, none⟩ : Addr).add j) = some (.int .u8 (acc[j].toNat : Int)) := by
  obtain ⟨pre, hl, hh⟩ := h
  subst hl
  by_cases h0 : j = 0
  · subst h0
    simp [Addr.add, World.cell?, hh, byteCells, hj]
  · simp [Addr.add, h0, World.cell?, hh, byteCells, hj]

set_option maxRecDepth 100000 in
theorem formatBits_calls (n : Nat) (hn : n < 9223372036854775808) (w : World) (hG : Gl w) :
    Calls Tryz.prog 159 #[.slice none 0 0, .int .u64 n, .int .i64 16, .bool false, .bool false] w fun e w' => e = .returned (.tuple #[.slice none 0 0, .string (bs (hexS 16 n []))]) ∧ Below w.heap.size w w' := by
  obtain ⟨a, ha⟩ : ∃ a : Int, a = (n : Int) := ⟨_, rfl⟩
  rw [← ha]
  have a0 : 0 ≤ a := by omega
  have a1 : a < 9223372036854775808 := by omega
  have HA := Aside0.mk ha
  have HG := Aside0.mk hG
  clear hn ha hG
  go_enter Tryz.func159, Tryz.ntmps159
  go_wp2_with (first
    | (go_at_call 190; refine (isPow_calls _).mono ?_; rintro e w' ⟨rfl, rfl⟩)
    | (go_at_call 191; refine (tz_calls _ (HG.out.at_below ((Below.refl _ _).alloc (Nat.le_refl _) _))).mono ?_; rintro e w' ⟨rfl, rfl⟩))
  have hz : ∃ pre : List Value, Tryz.zeroCells213 = pre.toArray ∧ pre.length = 65 := ⟨Tryz.zeroCells213.toList, by simp, by decide +kernel⟩
  obtain ⟨pre0, hp0, hp1⟩ := hz
  rw [hp0]
  have hb0 : Below w.heap.size w (w.alloc (.cells pre0.toArray 213)) := (Below.refl _ _).alloc (Nat.le_refl _) _
  have hh0 : (w.alloc (.cells pre0.toArray 213)).heap[w.heap.size]? = some (.cells pre0.toArray 213) := by simp [World.alloc, -World.alloc_eq]
  have hR0 : Row65 w.heap.size 65 [] (w.alloc (.cells pre0.toArray 213)) := ⟨pre0, hp1, by simpa [byteCells] using hh0⟩
  clear hh0
  go_loopg [1, 13] 16 (fun gk u i wx => ∃ (x : Int) (m : Nat) (acc : List UInt8) (p : Nat), u = .int .u64 x ∧ i = .int .i64 p ∧ 0 ≤ x ∧ x < 9223372036854775808 ∧ p + acc.length = 65 ∧ acc.length + gk = 16 ∧
    Row65 w.heap.size p acc wx ∧ Below w.heap.size w wx ∧ Aside0 (x = (m : Int) ∧ m < 16 ^ gk ∧ hexS 16 n [] = hexS gk m acc))
  case atStart => exact ⟨a, n, [], 65, rfl, rfl, a0, a1, rfl, rfl, hR0, hb0, ⟨HA.out, by have := HA.out; omega, rfl⟩⟩
  case round =>
    obtain ⟨x, m, acc, p, rfl, rfl, x0, x1, hl, hk, hh, hb, hx⟩ := hrel
    have hm := mask15 x0 x1
    obtain ⟨p, rfl⟩ : ∃ p', p = p' + 1 := ⟨p - 1, by omega⟩
    obtain ⟨v0, cv, zv, hset⟩ := hh.at
    by_cases h16 : 16 ≤ x
    · obtain ⟨g', rfl⟩ : ∃ g', gk = g' + 1 := ⟨gk - 1, by
        have h1 := hx.out.1
        have h2 := hx.out.2.1
        rcases Nat.eq_zero_or_pos gk with h | h
        · rw [h] at h2; simp at h2; omega
        · omega⟩
      have hpl : (48 : Int) ≤ p := by omega
      have hpl2 : (p : Int) < 65 := by omega
      have y0 : 0 ≤ x % 16 := by omega
      have y1 : x % 16 < 36 := by omega
      have HB := Aside0.mk hb
      have HH := Aside0.mk hset
      clear hb hh hp0 hb0 hR0 hset
      go_wp2
      go_roundg g'
      case measure => omega
      case rel =>
        obtain ⟨h1, h2, h3⟩ := hx.out
        have hd : digs[(x % 16).toNat]'(by show _ < 36; omega) = hexC (m % 16) := by
          have e : (x % 16).toNat = m % 16 := by omega
          simp only [e]
          exact dig_get _ (by omega) _
        refine ⟨x / 16, m / 16, hexC (m % 16) :: acc, p, rfl, rfl, by omega, by omega, by simp; omega, by simp; omega, ?_, ?_, ⟨by omega, ?_, ?_⟩⟩
        · rw [← hd]
          exact HH.out _
        · exact HB.out.setCell (p := ⟨w.heap.size, p, none⟩) (Nat.le_refl _) _
        · rw [Nat.pow_succ] at h2
          omega
        · rw [h3, hexS, if_neg (by omega)]
    · obtain ⟨h1, h2, h3⟩ := hx.out
      have hxl : x.toNat < digs.size := by show _ < 36; omega
      have hd : digs[x.toNat]'hxl = hexC m := by
        have e : x.toNat = m := by omega
        simp only [e]
        exact dig_get _ (by omega) _
      have hr : hexS 16 n [] = hexC m :: acc := by
        rw [h3]
        cases gk with
        | zero => simp only [hexS, Nat.mod_eq_of_lt (show m < 16 by omega)]
        | succ k => rw [hexS, if_pos (by omega)]
      have hrow := hset (hexC m)
      rw [← hd] at hrow
      have hpl2 : (p : Int) < 65 := by omega
      have hpl0 : (0 : Int) ≤ p := Int.natCast_nonneg _
      have x16 : x < 16 := by omega
      have x36 : x < 36 := by omega
      have hcv := fun (cap : Nat) => run_convert_bytes_back (P := Tryz.prog) _ 22 9 5 ⟨w.heap.size, p, none⟩ cap _ Tryz.underlying22 Tryz.underlying5 Tryz.underlying9 (fun j hj => hrow.cells j hj)
      have hlen : (digs[x.toNat]'hxl :: acc).length = 65 - p := by simp; omega
      rw [hlen] at hcv
      have HR := Aside0.mk hr
      have HB := Aside0.mk hb
      have HD := Aside0.mk hd
      clear hb hh hp0 hb0 hR0 hset hx h3 hr hrow hlen h1 h2 hd hl hk
      unfold digs at hcv
      have hsl : ∀ W, (Instr.sliceAt 213 (.pointer (some ⟨w.heap.size, 0, none⟩)) (some (.int .i64 (p : Int))) none none).run Tryz.prog W = .ok (.slice (some ⟨w.heap.size, p, none⟩) (65 - p) (65 - p)) W := fun W => by
        have hal : Tryz.prog.arrayLen 213 = 65 := by kernel_rfl
        have hel : Tryz.prog.elem 213 = 5 := by kernel_rfl
        rw [run_sliceAt_array_l W 213 ⟨w.heap.size, 0, none⟩ (by rw [hal, hel]; exact Tryz.underlying213) .i64 p (by omega) (by rw [hal]; omega)]
        rw [hel, hal, Tryz.sizeOf5]
        have e1 : (p : Int).toNat = p := by omega
        have e2 : ¬ 65 = p := by omega
        by_cases h0 : p = 0
        · simp [slicedAt, e1, e2, Result.andThen, Addr.add, h0]
        · simp [slicedAt, e1, e2, Result.andThen, Addr.add, h0]
      go_wp2
      go_ret2
      refine ⟨?_, HB.out.setCell (p := ⟨w.heap.size, p, none⟩) (Nat.le_refl _) _⟩
      have hd := HD.out
      unfold digs at hd
      rw [HR.out, ← hd]
      rfl

/-- A number's digits at base 16, small. -/
def hexText (n : Nat) : List UInt8 := hexS 16 n []
set_option maxRecDepth 100000 in
theorem fmtInt_calls (n : Nat) (hn : n < 9223372036854775808) (w : World) (hG : Gl w) :
    Calls Tryz.prog 107 #[.int .i64 n, .int .i64 16] w fun e w' => e = .returned (.string (bs (hexText n))) ∧ Below w.heap.size w w' := by
  have n0 : (0 : Int) ≤ n := Int.natCast_nonneg _
  have n1 : ((n : Int) < 0) = False := by simp
  have hw : IntKind.u64.wrap (n : Int) = n := by rw [IntKind.wrap_u64]; omega
  have HG := Aside0.mk hG
  clear hG
  go_enter Tryz.func107, Tryz.ntmps107
  go_wp2_with (go_at_call 159; refine (formatBits_calls n hn _ HG.out).mono ?_; rintro e w' ⟨rfl, hb⟩; have HB := Aside0.mk hb; clear hb)
  go_ret
  exact ⟨rfl, HB.out⟩
set_option maxRecDepth 100000 in
theorem formatInt_calls (n : Nat) (hn : n < 9223372036854775808) (w : World) (hG : Gl w) :
    Calls Tryz.prog 62 #[.int .i64 n, .int .i64 16] w fun e w' => e = .returned (.string (bs (hexText n))) ∧ Below w.heap.size w w' := by
  have HG := Aside0.mk hG
  clear hG
  go_enter Tryz.func62, Tryz.ntmps62
  go_wp2_with (go_at_call 107; refine (fmtInt_calls n hn _ HG.out).mono ?_; rintro e w' ⟨rfl, hb⟩; have HB := Aside0.mk hb; clear hb)
  go_ret
  exact ⟨rfl, HB.out⟩
end Go.Proofs.YtipmmkelialgkaaGreatDoor.Lex
