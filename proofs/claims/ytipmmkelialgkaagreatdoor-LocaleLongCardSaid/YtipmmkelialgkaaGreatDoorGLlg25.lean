/- No range of a class is wrong. -/
import Derived.Test.YtipmmkelialgkaaGreatDoorGLlg24
set_option linter.unusedVariables false
set_option linter.unusedSimpArgs false
namespace Go.Proofs.YtipmmkelialgkaaGreatDoor.Loc
open Go.RowKit Go.Lib Go.Proofs.YtipmmkelialgkaaGreatDoorW.PrintWords Go.Proofs.YtipmmkelialgkaaGreatDoorW.PrintLast Go.Proofs.YtipmmkelialgkaaGreatDoorW.PrintMore Go.Proofs.YtipmmkelialgkaaGreatDoor.Lex

theorem rng_at {w : World} {A : Option Addr} {rs : List Rng} (h : kG.C w A rs.length rs) (i : Nat) (hi : i < rs.length) : ∃ ad, A = some ad ∧ w.cell? (ad.add (i * 2)) = some (.int .i32 rs[i].f0) ∧ w.cell? ⟨(ad.add (i * 2)).block, (ad.add (i * 2)).off + 1, none⟩ = some (.int .i32 rs[i].f1) := by
  have e : PLoc.rd_T54 rs (i : Int) = rs[i] := by
    unfold PLoc.rd_T54
    rw [Int.toNat_natCast, List.getD_eq_getElem?_getD, List.getElem?_eq_getElem hi]
    rfl
  obtain ⟨ad, h0, h1, h2⟩ := PLoc.at_T54 h (i : Int) (by omega) (by omega)
  rw [e] at h1 h2
  rw [Int.toNat_natCast] at h1 h2
  exact ⟨ad, h0, h1, h2⟩
set_option maxRecDepth 100000 in
set_option maxHeartbeats 1000000 in
theorem noneG_calls {A : Option Addr} {c : Nat} {rs : List Rng} (w : World) (h : kG.C w A rs.length rs) (hb : rs.length ≤ 1000000)
    (hp : ∀ x ∈ rs, ∀ W : World, Calls Tryz.prog 43 #[.agg #[.int .i32 x.f0, .int .i32 x.f1]] W fun e W' => e = .returned (.bool false) ∧ Below W.heap.size W W') :
    Calls Tryz.prog 46 #[.slice A rs.length c, .func (.func 43) #[] #[]] w fun e w' => e = .returned (.bool false) ∧ Below w.heap.size w w' := by
  have H := Aside0.mk h
  clear h
  have hx : Calls Tryz.prog 92 #[.slice A rs.length c, .func (.func 43) #[] #[]] w fun e w' => e = .returned (.int .i64 (-1)) ∧ Below w.heap.size w w' := by
    go_enter Tryz.func92, Tryz.ntmps92
    go_wp2
    go_loopg [8] rs.length (fun gk v wx => ∃ i : Nat, v = .int .i64 i ∧ i ≤ rs.length ∧ rs.length ≤ i + gk ∧ Aside0 (Below w.heap.size w wx))
    case atStart => exact ⟨0, rfl, Nat.zero_le _, by omega, ⟨Below.refl _ _⟩⟩
    case round =>
      obtain ⟨i, rfl, hi, hg, HB⟩ := hrel
      by_cases hlt : i < rs.length
      · obtain ⟨g', rfl⟩ : ∃ g', gk = g' + 1 := ⟨gk - 1, by omega⟩
        obtain ⟨ad, e1, d0, d1⟩ := rng_at (Kd.C_below H.out HB.out) i hlt
        have HP := Aside0.mk (hp rs[i] (List.getElem_mem hlt) wr)
        subst e1
        have hlt' : (i : Int) < rs.length := by omega
        have hi0 : (0 : Int) ≤ i := by omega
        have hi1 : (i : Int) ≤ 1000000 := by omega
        generalize rs[i] = x at *
        go_wp2_with fail
        refine HP.out.mono ?_
        rintro e w2 ⟨rfl, hb2⟩
        have HB2 := Aside0.mk (HB.out.trans (hb2.mono HB.out.size))
        clear hb2
        go_wp2
        go_roundg g'
        case measure => omega
        case rel => exact ⟨i + 1, by first | rfl | (simp; done), by omega, by omega, HB2⟩
      · obtain rfl : i = rs.length := by omega
        have hlt' : ((rs.length : Int) < rs.length) = False := by simp
        go_wp2
        go_ret
        exact ⟨rfl, HB.out⟩
  go_enter Tryz.func46, Tryz.ntmps46
  go_wp2_with fail
  refine hx.mono ?_
  rintro e w2 ⟨rfl, hb2⟩
  have HB := Aside0.mk hb2
  clear hb2
  go_wp2
  go_ret
  exact ⟨rfl, HB.out⟩
end Go.Proofs.YtipmmkelialgkaaGreatDoor.Loc
