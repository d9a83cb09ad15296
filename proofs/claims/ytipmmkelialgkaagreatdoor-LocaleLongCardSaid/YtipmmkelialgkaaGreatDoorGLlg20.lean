/- How locale.Parse leaves; what its words find. -/
import Derived.Test.YtipmmkelialgkaaGreatDoorGLlg19
import Derived.Laws.EntriesVeiled
set_option linter.unusedVariables false
set_option linter.unusedSimpArgs false
namespace Go.Proofs.YtipmmkelialgkaaGreatDoor.Loc
open Go.RowKit Go.Lib Go.Proofs.YtipmmkelialgkaaGreatDoorW.PrintWords Go.Proofs.YtipmmkelialgkaaGreatDoorW.PrintLast Go.Proofs.YtipmmkelialgkaaGreatDoorW.PrintMore Go.Proofs.YtipmmkelialgkaaGreatDoor.Lex

abbrev Par := PLoc.S52
abbrev kP : Kd Par := PLoc.k52
/-- What locale.Parse tells: classes, an order, an error and where; no pairs. -/
def ParsePost (w : World) (cl : List Cls) (od : List Elm) (er at_ : Int) (en : Ending) (w' : World) : Prop :=
  ∃ v0 v1 v2 v3, en = .returned (.tuple #[.agg #[v0, v1, v2, v3], .int .u16 er, .int .i64 at_]) ∧ Kd.S kC 50 w' w.heap.size (fun _ => True) v0 cl ∧ kP.R 52 w' w.heap.size (fun _ => True) v1 [] ∧ kP.R 52 w' w.heap.size (fun _ => True) v2 [] ∧ Kd.S kE 39 w' w.heap.size (fun _ => True) v3 od ∧ Below w.heap.size w w'
theorem leave_ok {w w' : World} (x0 x1 : Value) (rest : List Value) (a b c : Nat) (cl : List Cls) (od : List Elm) (er at_ : Int) (v0 v3 : Value) (ca : w'.heap[a]? = some (.cells #[v0, .slice none 0 0, .slice none 0 0, v3] 32 (0, 0))) (cb : w'.cell? ⟨b, 0, none⟩ = some (.int .u16 er)) (cc : w'.cell? ⟨c, 0, none⟩ = some (.int .i64 at_))
    (hC : Kd.S kC 50 w' w.heap.size (fun _ => True) v0 cl) (hE : Kd.S kE 39 w' w.heap.size (fun _ => True) v3 od) (hb : Below w.heap.size w w') :
    Leaves Tryz.prog Tryz.f13 (x0 :: x1 :: .pointer (some ⟨a, 0, none⟩) :: .pointer (some ⟨b, 0, none⟩) :: .pointer (some ⟨c, 0, none⟩) :: rest).toArray (ParsePost w cl od er at_)
      [{ target := .fn (.func 26) #[.pointer (some ⟨a, 0, none⟩), .pointer (some ⟨b, 0, none⟩), .pointer (some ⟨c, 0, none⟩)], args := #[] }] .returning w' := by
  refine leaves_cons (f := 26) (args := #[.pointer (some ⟨a, 0, none⟩), .pointer (some ⟨b, 0, none⟩), .pointer (some ⟨c, 0, none⟩)]) (by simp) (by simp [go_sem]) ?_
  refine (shut_idle _ _ _ _).mono ?_
  rintro e u' w'' ⟨rfl, rfl, rfl⟩
  obtain ⟨a0, a1, a2, a3, _⟩ := box4 ca
  refine ⟨.tuple #[.agg #[v0, .slice none 0 0, .slice none 0 0, v3], .int .u16 er, .int .i64 at_], ?_, _, _, _, _, rfl, hC, Kd.R_nil _ _ _ _ _, Kd.R_nil _ _ _ _ _, hE, hb⟩
  have hu := Tryz.underlying32
  simp [results, Tryz.results13, go_sem, a0, a1, a2, a3, cb, cc, hu]
theorem leave_wrong {w w' : World} (x0 x1 : Value) (rest : List Value) (a b c : Nat) (er p : Int) (hab : a ≠ b) (hac : a ≠ c) (hbc : b ≠ c) (ha : w.heap.size ≤ a) (hb : w.heap.size ≤ b) (hc : w.heap.size ≤ c) (v0 v1 v2 v3 vb vc : Value)
    (ca : w'.heap[a]? = some (.cells #[v0, v1, v2, v3] 32 (0, 0))) (cb : w'.cell? ⟨b, 0, none⟩ = some vb) (cc : w'.cell? ⟨c, 0, none⟩ = some vc) (zb : w'.frozen? ⟨b, 0, none⟩ = false) (zc : w'.frozen? ⟨c, 0, none⟩ = false)
    (hbl : Below w.heap.size w w') :
    Leaves Tryz.prog Tryz.f13 (x0 :: x1 :: .pointer (some ⟨a, 0, none⟩) :: .pointer (some ⟨b, 0, none⟩) :: .pointer (some ⟨c, 0, none⟩) :: rest).toArray (ParsePost w [] [] er p)
      [{ target := .fn (.func 26) #[.pointer (some ⟨a, 0, none⟩), .pointer (some ⟨b, 0, none⟩), .pointer (some ⟨c, 0, none⟩)], args := #[] }] (.panicking [wrongW er p]) w' := by
  refine leaves_cons (f := 26) (args := #[.pointer (some ⟨a, 0, none⟩), .pointer (some ⟨b, 0, none⟩), .pointer (some ⟨c, 0, none⟩)]) (by simp) (by simp [go_sem]) ?_
  refine (shut_wrong w.heap.size a b c er p w' hab hac hbc ha hb hc v0 v1 v2 v3 vb vc ca cb cc zb zc).mono ?_
  rintro e u' w'' ⟨rfl, rfl, S⟩
  obtain ⟨a0, a1, a2, a3, _⟩ := box4 S.c0
  have c1 := S.c1
  have c2 := S.c2
  have hu := Tryz.underlying32
  refine ⟨.tuple #[.agg #[.slice none 0 0, .slice none 0 0, .slice none 0 0, .slice none 0 0], .int .u16 er, .int .i64 p], ?_, _, _, _, _, rfl, Kd.S_nil _ _ _ _ _, Kd.R_nil _ _ _ _ _, Kd.R_nil _ _ _ _ _, Kd.S_nil _ _ _ _ _, hbl.trans S.below⟩
  simp [results, Tryz.results13, go_sem, a0, a1, a2, a3, c1, c2, hu]
theorem find_order (W : World) (b g br : Nat) (h : W.heap[b]? = some (.map (kindsA g br 5) 5)) : (Instr.lookup tyK (.map (some b)) (.string orderS) true).run Tryz.prog W = .ok (.tuple #[.func (.func 74) #[.pointer (some ⟨g, 0, none⟩)] #[], .bool true]) W := by
  refine lookup_one W b _ 5 orderS _ h (by decide) ?_ ⟨_, (show _ ∈ (kindsA g br 5).toList from List.mem_of_getElem? (i := 4) rfl), rfl⟩
  intro e he
  simp only [kindsA, kindsE, List.take_succ_cons, List.take_zero, List.mem_cons, List.not_mem_nil, or_false] at he
  rcases he with rfl | rfl | rfl | rfl | rfl
  · exact ⟨_, rfl, by decide, fun h => absurd h (by decide)⟩
  · exact ⟨_, rfl, by decide, fun h => absurd h (by decide)⟩
  · exact ⟨_, rfl, by decide, fun h => absurd h (by decide)⟩
  · exact ⟨_, rfl, by decide, fun h => absurd h (by decide)⟩
  · exact ⟨_, rfl, by decide, fun _ => rfl⟩
theorem find_class (W : World) (b g br : Nat) (h : W.heap[b]? = some (.map (kindsA g br 5) 5)) : (Instr.lookup tyK (.map (some b)) (.string classS) true).run Tryz.prog W = .ok (.tuple #[.func (.func 69) #[.pointer (some ⟨g, 0, none⟩)] #[], .bool true]) W := by
  refine lookup_one W b _ 5 classS _ h (by decide) ?_ ⟨_, (show _ ∈ (kindsA g br 5).toList from List.mem_of_getElem? (i := 0) rfl), rfl⟩
  intro e he
  simp only [kindsA, kindsE, List.take_succ_cons, List.take_zero, List.mem_cons, List.not_mem_nil, or_false] at he
  rcases he with rfl | rfl | rfl | rfl | rfl
  · exact ⟨_, rfl, by decide, fun _ => rfl⟩
  · exact ⟨_, rfl, by decide, fun h => absurd h (by decide)⟩
  · exact ⟨_, rfl, by decide, fun h => absurd h (by decide)⟩
  · exact ⟨_, rfl, by decide, fun h => absurd h (by decide)⟩
  · exact ⟨_, rfl, by decide, fun h => absurd h (by decide)⟩
end Go.Proofs.YtipmmkelialgkaaGreatDoor.Loc
