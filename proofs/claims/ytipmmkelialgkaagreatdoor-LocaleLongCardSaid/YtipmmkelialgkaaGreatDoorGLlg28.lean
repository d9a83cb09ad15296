/- The chapter's examples hold: redactorlaw07.known. -/
import Derived.Test.YtipmmkelialgkaaGreatDoorGLlg27
set_option linter.unusedVariables false
set_option linter.unusedSimpArgs false
namespace Go.Proofs.YtipmmkelialgkaaGreatDoor.Loc
open Go.RowKit Go.Lib Go.Proofs.YtipmmkelialgkaaGreatDoorW.PrintWords Go.Proofs.YtipmmkelialgkaaGreatDoorW.PrintLast Go.Proofs.YtipmmkelialgkaaGreatDoorW.PrintMore Go.Proofs.YtipmmkelialgkaaGreatDoor.Lex

set_option maxRecDepth 100000 in
set_option maxHeartbeats 4000000 in
theorem known_calls (w : World) (hG : Gl w) :
    Calls Tryz.prog 15 #[] w fun e w' => e = .returned (.bool true) ∧ Below w.heap.size w w' := by
  have HG := Aside0.mk hG
  clear hG
  go_enter Tryz.func15, Tryz.ntmps15
  go_wp2_with fail
  refine (parse1_calls w HG.out).mono ?_
  rintro e w2 ⟨v0, v1, v2, v3, rfl, hC, h1, h2, hE, hb2⟩
  obtain ⟨A0, c0, rfl, hc0, hC0⟩ := Kd.S_reads hC
  obtain ⟨A1, c1, rfl, _, _⟩ := Kd.R_reads h1
  obtain ⟨A2, c2, rfl, _, _⟩ := Kd.R_reads h2
  obtain ⟨A3, c3, rfl, _, _⟩ := Kd.S_reads hE
  obtain ⟨ad, Ar, cr, rfl, d0, d1, hcr, hGr⟩ := PLoc.at_T50 hC0 0 (by decide) (by decide)
  replace d0 : w2.cell? ad = some (.string ⟨#[120]⟩) := d0
  replace d1 : w2.cell? ⟨ad.block, ad.off + 1, none⟩ = some (.slice Ar 2 cr) := d1
  replace hGr : kG.C w2 Ar 2 [⟨(65 : Nat), (67 : Nat)⟩, ⟨(97 : Nat), (97 : Nat)⟩] := hGr
  obtain ⟨ar, q0, q1, q2⟩ := rng_at (rs := [⟨(65 : Nat), (67 : Nat)⟩, ⟨(97 : Nat), (97 : Nat)⟩]) hGr 0 (by simp)
  obtain rfl : Ar = some ar := q0
  replace q1 : w2.cell? ar = some (.int .i32 65) := q1
  replace q2 : w2.cell? ⟨ar.block, ar.off + 1, none⟩ = some (.int .i32 67) := q2
  have hc0' : 1 ≤ c0 := hc0
  have HC0 := Aside0.mk hC0
  have HB2 := Aside0.mk hb2
  have hG2 := Aside0.mk (HG.out.at_below hb2)
  have D0 := Aside0.mk d0
  have D1 := Aside0.mk d1
  have Q1 := Aside0.mk q1
  have Q2 := Aside0.mk q2
  have l1 := Lib.lt_of_cell d0
  have l2 := Lib.lt_of_cell q1
  clear hC h1 h2 hE hC0 hb2 hGr d0 d1 q1 q2 hc0 hcr
  have hbx : Below w2.heap.size w2 (w2.alloc (.cells #[.slice (some ad) 1 c0, .slice A1 0 c1, .slice A2 0 c2, .slice A3 0 c3] 32)) := (Below.refl _ _).alloc (Nat.le_refl _) _
  have HBX := Aside0.mk hbx
  clear hbx
  go_wp2_with fail
  refine (parse2_calls _ (hG2.out.at_below HBX.out)).mono ?_
  rintro e w4 ⟨u0, u1, u2, u3, rfl, hC', h1', h2', hE', hb4⟩
  obtain ⟨B0, b0, rfl, _, _⟩ := Kd.S_reads hC'
  obtain ⟨B1, b1, rfl, _, _⟩ := Kd.R_reads h1'
  obtain ⟨B2, b2, rfl, _, _⟩ := Kd.R_reads h2'
  obtain ⟨B3, b3, rfl, _, _⟩ := Kd.S_reads hE'
  have hb24 : Below w2.heap.size w2 w4 := HBX.out.trans (hb4.mono HBX.out.size)
  have hal : ∀ o, Below w2.heap.size w2 (w4.alloc o) := fun o => hb24.alloc hb24.size o
  have e0 : ∀ o, (w4.alloc o).cell? ad = some (.string ⟨#[120]⟩) := fun o => ((hal o).cell (p := ad) l1).trans D0.out
  have e1 : ∀ o, (w4.alloc o).cell? ⟨ad.block, ad.off + 1, none⟩ = some (.slice (some ar) 2 cr) := fun o => ((hal o).cell (p := ⟨ad.block, ad.off + 1, none⟩) l1).trans D1.out
  have e2 : ∀ o, (w4.alloc o).cell? ar = some (.int .i32 65) := fun o => ((hal o).cell (p := ar) l2).trans Q1.out
  have e3 : ∀ o, (w4.alloc o).cell? ⟨ar.block, ar.off + 1, none⟩ = some (.int .i32 67) := fun o => ((hal o).cell (p := ⟨ar.block, ar.off + 1, none⟩) l2).trans Q2.out
  clear hal
  have kb := (hb4.block w2.heap.size (by simp)).trans (blk_new w2 (.cells #[.slice (some ad) 1 c0, .slice A1 0 c1, .slice A2 0 c2, .slice A3 0 c3] 32))
  obtain ⟨k0, k1, k2, k3, kl⟩ := box4 kb
  have HR := Aside0.mk (right_x (some ad) A1 A2 A3 c0 c1 c2 c3 65 67 97 (by decide) (by decide) (by decide) (by decide) (by decide) (by decide) hc0' (w4.alloc (.cells #[.slice B0 0 b0, .slice B1 0 b1, .slice B2 0 b2, .slice B3 0 b3] 32)) (Kd.C_below (Kd.C_below HC0.out hb24) ((Below.refl _ _).alloc (Nat.le_refl _) _)))
  have HB4 := Aside0.mk (HB2.out.trans (hb24.mono HB2.out.size))
  clear hC' h1' h2' hE' hb4 hb24 kb
  go_wp2_with fail
  refine HR.out.mono ?_
  rintro e w5 ⟨rfl, hb5⟩
  have HB5 := Aside0.mk ((HB4.out.alloc HB4.out.size _).trans (hb5.mono (HB4.out.alloc HB4.out.size _).size))
  clear hb5
  go_wp2_with fail
  refine (right_nil none none none none 0 0 0 0 _).mono ?_
  rintro e w6 ⟨rfl, hb6⟩
  have HB6 := Aside0.mk (HB5.out.trans (hb6.mono HB5.out.size))
  clear hb6
  go_wp2
  go_ret
  exact ⟨rfl, HB6.out⟩
end Go.Proofs.YtipmmkelialgkaaGreatDoor.Loc
