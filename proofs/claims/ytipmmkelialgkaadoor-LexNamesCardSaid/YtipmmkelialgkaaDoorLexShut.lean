/- What lex.Tokens defers: it takes what is wrong, and lays it into the results; of nothing wrong it does nothing. -/
import Derived.Test.YtipmmkelialgkaaDoorLexBlank
import Derived.Recover
import Derived.Lib.AtoiErrMem
import Derived.Deep.RegionHeld3
set_option linter.unusedVariables false
set_option linter.unusedSimpArgs false
namespace Go.Proofs.YtipmmkelialgkaaDoor.Lex
open Go.RowKit Go.Lib Go.Proofs.YtipmmkelialgkaaDoorW.PrintWords Go.Proofs.YtipmmkelialgkaaDoorW.PrintLast Go.Proofs.YtipmmkelialgkaaDoorW.PrintMore Go.Proofs.YtipmmkelialgkaaDoor.PLex

theorem shut_idle (a b c : Nat) (w : World) :
    CallsD Tryd.prog 19 #[.pointer (some ⟨a, 0, none⟩), .pointer (some ⟨b, 0, none⟩), .pointer (some ⟨c, 0, none⟩)] .returning w fun e u' w' => e = .returned (.tuple #[]) ∧ u' = .returning ∧ w' = w := by
  refine callsD_of_wpS Tryd.func19 rfl fun c₀ cs hu => ?_
  simp only [Tryd.ntmps19, List.size_toArray, List.length_cons, List.length_nil, Nat.reduceAdd, Nat.reduceSub, Array.replicate_succ, Array.replicate_zero, List.push_toArray, List.append_toArray, List.nil_append, List.cons_append]
  apply wpS_seq
  apply wpS_region
  simp [wpOpsS, go_sem, recoverD, hu, Exit.thenS]
  refine wpS_of_wp ?_
  go_wp2
  refine ⟨rfl, .returning, ?_, .tuple #[], by simp [results, Tryd.results19], rfl, rfl, rfl⟩
  rw [← hu]

theorem assert_wrong (W : World) (v : Value) : (Instr.typeAssert (.iface 55 v) 20 55 true).run Tryd.prog W = .ok (.tuple #[v, .bool true]) W := by kernel_rfl

/-- Results, wrong: so they are laid. -/
structure Shut (N a b c : Nat) (p : Int) (w w' : World) : Prop where
  c0 : w'.cell? ⟨a, 0, none⟩ = some (.slice none 0 0)
  c1 : w'.cell? ⟨b, 0, none⟩ = some (.int .u16 20)
  c2 : w'.cell? ⟨c, 0, none⟩ = some (.int .i64 p)
  below : Below N w w'

set_option maxRecDepth 100000 in
theorem shut_wrong (N a b c : Nat) (p : Int) (w : World) (hab : a ≠ b) (hac : a ≠ c) (hbc : b ≠ c) (ha : N ≤ a) (hb : N ≤ b) (hc : N ≤ c) (va vb vc : Value) (ca : w.cell? ⟨a, 0, none⟩ = some va) (cb : w.cell? ⟨b, 0, none⟩ = some vb) (cc : w.cell? ⟨c, 0, none⟩ = some vc)
    (za : w.frozen? ⟨a, 0, none⟩ = false) (zb : w.frozen? ⟨b, 0, none⟩ = false) (zc : w.frozen? ⟨c, 0, none⟩ = false) :
    CallsD Tryd.prog 19 #[.pointer (some ⟨a, 0, none⟩), .pointer (some ⟨b, 0, none⟩), .pointer (some ⟨c, 0, none⟩)] (.panicking [wrongV 20 p]) w fun e u' w' => e = .returned (.tuple #[]) ∧ u' = .panicking [{ wrongV 20 p with recovered := true }] ∧ Shut N a b c p w w' := by
  have hta := fun W v => assert_wrong W v
  have ha' : a < w.heap.size := Lib.lt_of_cell ca
  have hb' : b < w.heap.size := Lib.lt_of_cell cb
  have hc' : c < w.heap.size := Lib.lt_of_cell cc
  refine callsD_of_wpS Tryd.func19 rfl fun c₀ cs hu => ?_
  simp only [Tryd.ntmps19, List.size_toArray, List.length_cons, List.length_nil, Nat.reduceAdd, Nat.reduceSub, Array.replicate_succ, Array.replicate_zero, List.push_toArray, List.append_toArray, List.nil_append, List.cons_append]
  apply wpS_seq
  apply wpS_region
  simp [wpOpsS, go_sem, recoverD, hu, wrongV, Exit.thenS]
  refine wpS_of_wp ?_
  go_wp2
  go_region_held3 (fun w' => w'.cell? ⟨w.heap.size, 0, none⟩ = some (.int .u16 20) ∧ w'.cell? ⟨w.heap.size, 1, none⟩ = some (.int .i64 p)) (go_simp) (fail)
  refine ⟨rfl, _, rfl, .tuple #[], by simp [results, Tryd.results19], rfl, rfl, ?_⟩
  refine ⟨?_, ?_, ?_, ?_⟩
  · go_simp
  · go_simp
  · go_simp
  · exact (((((Below.refl N w).setCell ha _).setCell hb _).setCell hc _).alloc (by simp [World.setCell]; omega) _).drew
end Go.Proofs.YtipmmkelialgkaaDoor.Lex
