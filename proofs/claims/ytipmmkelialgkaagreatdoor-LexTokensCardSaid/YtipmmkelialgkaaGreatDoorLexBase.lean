/- The state of the lexer's reader in memory: one block with the text, the place and the slice of tokens; the tokens' rows are the call's own. -/
import Derived.Test.YtipmmkelialgkaaGreatDoorPLexx0
namespace Go.Proofs.YtipmmkelialgkaaGreatDoor.Lex
open Go.RowKit Go.Proofs.YtipmmkelialgkaaGreatDoorW.PrintWords Go.Proofs.YtipmmkelialgkaaGreatDoorW.PrintLast Go.Proofs.YtipmmkelialgkaaGreatDoorW.PrintMore Go.Proofs.YtipmmkelialgkaaGreatDoor.PLex

/-- Below block B nothing has turned but block g. -/
structure Fr (B g : Nat) (w w' : World) : Prop where
  os : w'.os = w.os
  tape : w'.tape = w.tape
  output : w'.output = w.output
  size : w.heap.size ≤ w'.heap.size
  block : ∀ k, k < B → k ≠ g → w'.heap[k]? = w.heap[k]?

theorem Fr.refl (B g : Nat) (w : World) : Fr B g w w := ⟨rfl, rfl, rfl, Nat.le_refl _, fun _ _ _ => rfl⟩
theorem Fr.trans {B g : Nat} {a b c : World} (h : Fr B g a b) (k : Fr B g b c) : Fr B g a c :=
  ⟨k.os.trans h.os, k.tape.trans h.tape, k.output.trans h.output, Nat.le_trans h.size k.size, fun i hi hg => (k.block i hi hg).trans (h.block i hi hg)⟩
theorem Fr.of_below {B g : Nat} {w w' : World} (h : Below B w w') : Fr B g w w' := ⟨h.os, h.tape, h.output, h.size, fun k hk _ => h.block k hk⟩
theorem Fr.below {B g : Nat} {w w' : World} (h : Fr B g w w') {B' : Nat} (h1 : B' ≤ B) (h2 : B' ≤ g) : Below B' w w' := ⟨h.os, h.tape, h.output, h.size, fun k hk => h.block k (by omega) (by omega)⟩
theorem Fr.set {B g : Nat} (w : World) (o : Nat) (v : Value) : Fr B g w (w.setCell ⟨g, o, none⟩ v) :=
  ⟨rfl, rfl, rfl, by simp [World.setCell], fun k _ hk => Below.heap_setCell _ _ _ _ hk⟩
theorem Fr.alloc {B g : Nat} (w : World) (o : Obj) (h : B ≤ w.heap.size) : Fr B g w (w.alloc o) := Fr.of_below ((Below.refl B w).alloc h o)
theorem Fr.drew {B g : Nat} (w : World) : Fr B g w w.drew := Fr.of_below ((Below.refl B w).drew)
theorem Fr.cell {B g : Nat} {w w' : World} (h : Fr B g w w') {p : Addr} (hp : p.block < B) (hg : p.block ≠ g) : w'.cell? p = w.cell? p := World.cell?_of_block (w := w) (h.block p.block hp hg)

abbrev Tok := S63
abbrev kT : Kd Tok := k63

theorem infoTok : (Tryz.prog.info? 63).map (fun i => (i.zero, i.size, i.bytes)) = some (some (.agg #[.int .u8 0, .string ⟨#[]⟩, .int .i64 0, .int .i64 0]), 4, 40) := by kernel_rfl

/-- The reader at block g: text s, place p, tokens l (rows from block B on). -/
def Rd (B g : Nat) (s : ByteArray) (p : Int) (l : List Tok) (w : World) : Prop :=
  g < B ∧ B ≤ w.heap.size ∧ ∃ A c, l.length ≤ c ∧ w.heap[g]? = some (.cells #[.string s, .int .i64 p, .slice A l.length c] 103 (0, 0)) ∧ kT.R 63 w B (fun _ => True) (.slice A l.length c) l

theorem typesTR : ∀ q, q ∈ 63 :: kT.E → q ≠ 103 := by
  intro q hq
  rcases List.mem_cons.1 hq with rfl | hq
  · decide
  · exact absurd hq (by simp [kT, k63, Kd.iso, Kd.pair, Kd.int, Kd.string, Kd.scalar])
theorem Rd.drew {B g : Nat} {s : ByteArray} {p : Int} {l : List Tok} {w : World} (h : Rd B g s p l w) : Rd B g s p l w.drew := h
theorem Rd.drewN {B g : Nat} {s : ByteArray} {p : Int} {l : List Tok} {w : World} (h : Rd B g s p l w) (n : Nat) : Rd B g s p l (w.drewN n) := h
theorem Rd.alloc {B g : Nat} {s : ByteArray} {p : Int} {l : List Tok} {w : World} (h : Rd B g s p l w) (o : Obj) : Rd B g s p l (w.alloc o) := by
  obtain ⟨h1, h2, A, c, h3, h4, h5⟩ := h
  exact ⟨h1, by simp; omega, A, c, h3, by rw [Below.heap_alloc _ _ _ (by omega)]; exact h4, Kd.R_below h5 ((Below.refl _ _).alloc (Nat.le_refl _) o)⟩
theorem Rd.below {B g : Nat} {s : ByteArray} {p : Int} {l : List Tok} {w w' : World} (h : Rd B g s p l w) (hb : Below w.heap.size w w') : Rd B g s p l w' := by
  obtain ⟨h1, h2, A, c, h3, h4, h5⟩ := h
  exact ⟨h1, by have := hb.size; omega, A, c, h3, by rw [hb.block _ (by omega)]; exact h4, Kd.R_below h5 hb⟩
theorem Rd.set_at {B g : Nat} {s : ByteArray} {p : Int} {l : List Tok} {w : World} (h : Rd B g s p l w) (q : Int) : Rd B g s q l (w.setCell ⟨g, 1, none⟩ (.int .i64 q)) := by
  obtain ⟨h1, h2, A, c, h3, h4, h5⟩ := h
  refine ⟨h1, by simpa [World.setCell] using h2, A, c, h3, ?_, Kd.R_set h5 h4 typesTR _ _⟩
  simp [World.setCell, Array.getElem?_modify, h4]
theorem Rd.cells {B g : Nat} {s : ByteArray} {p : Int} {l : List Tok} {w : World} (h : Rd B g s p l w) :
    w.cell? ⟨g, 0, none⟩ = some (.string s) ∧ w.cell? ⟨g, 1, none⟩ = some (.int .i64 p) ∧ w.frozen? ⟨g, 0, none⟩ = false ∧ w.frozen? ⟨g, 1, none⟩ = false ∧ w.frozen? ⟨g, 2, none⟩ = false ∧
      ∃ A c, l.length ≤ c ∧ w.cell? ⟨g, 2, none⟩ = some (.slice A l.length c) ∧ kT.R 63 w B (fun _ => True) (.slice A l.length c) l ∧ kT.C w A l.length l := by
  obtain ⟨h1, h2, A, c, h3, h4, h5⟩ := h
  obtain ⟨A', c', e, _, hC⟩ := Kd.R_reads h5
  obtain ⟨rfl, rfl⟩ : A = A' ∧ c = c' := by
    injection e with e1 e2 e3
    exact ⟨e1, e3⟩
  refine ⟨?_, ?_, ?_, ?_, ?_, A, c, h3, ?_, h5, hC⟩ <;> simp [World.cell?, World.frozen?, h4]
end Go.Proofs.YtipmmkelialgkaaGreatDoor.Lex
