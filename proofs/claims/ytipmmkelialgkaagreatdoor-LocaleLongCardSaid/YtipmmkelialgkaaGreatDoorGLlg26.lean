/- locale.Right of one class by the name "x", of two ranges. -/
import Derived.Test.YtipmmkelialgkaaGreatDoorGLlg25
set_option linter.unusedVariables false
set_option linter.unusedSimpArgs false
namespace Go.Proofs.YtipmmkelialgkaaGreatDoor.Loc
open Go.RowKit Go.Lib Go.Proofs.YtipmmkelialgkaaGreatDoorW.PrintWords Go.Proofs.YtipmmkelialgkaaGreatDoorW.PrintLast Go.Proofs.YtipmmkelialgkaaGreatDoorW.PrintMore Go.Proofs.YtipmmkelialgkaaGreatDoor.Lex

set_option maxRecDepth 100000 in
set_option maxHeartbeats 4000000 in
theorem right_x (A0 A1 A2 A3 : Option Addr) (c0 c1 c2 c3 : Nat) (a b c : Nat) (ha : rightN a = true) (hb : rightN b = true) (hc : rightN c = true) (hab : a ≤ b) (hb1 : b < 16777216) (hcc : c < 16777216) (h1 : 1 ≤ c0) (w : World) (h : kC.C w A0 1 [(⟨⟨#[120]⟩, [⟨a, b⟩, ⟨c, c⟩]⟩ : Cls)]) :
    Calls Tryz.prog 20 #[.agg #[.slice A0 1 c0, .slice A1 0 c1, .slice A2 0 c2, .slice A3 0 c3]] w fun e w' => e = .returned (.bool true) ∧ Below w.heap.size w w' := by
  have hmf : ∀ (fn : Fn) (first cap : Array Value) (w : World), (Instr.makeFunc fn first cap).run Tryz.prog w = .ok (.func fn first cap) w := fun _ _ _ _ => rfl
  obtain ⟨ad, Ar, cr, rfl, d0, d1, hcr, hG⟩ := PLoc.at_T50 h 0 (by decide) (by decide)
  replace d0 : w.cell? ad = some (.string ⟨#[120]⟩) := d0
  replace d1 : w.cell? ⟨ad.block, ad.off + 1, none⟩ = some (.slice Ar 2 cr) := d1
  replace hG : kG.C w Ar 2 [⟨a, b⟩, ⟨c, c⟩] := hG
  have HG := Aside0.mk hG
  have D0 := Aside0.mk d0
  have D1 := Aside0.mk d1
  have hlad : ad.block < w.heap.size := Lib.lt_of_cell d0
  have hrg : ∀ x ∈ ([⟨a, b⟩, ⟨c, c⟩] : List Rng), ∀ W : World, Calls Tryz.prog 43 #[.agg #[.int .i32 x.f0, .int .i32 x.f1]] W fun e W' => e = .returned (.bool false) ∧ Below W.heap.size W W' := by
    intro x hx W
    simp only [List.mem_cons, List.not_mem_nil, or_false] at hx
    rcases hx with rfl | rfl
    · exact range_calls a b ha hb hab hb1 W
    · exact range_calls c c hc hc (Nat.le_refl _) hcc W
  have HRG := Aside0.mk hrg
  have h1' : (1 : Int) ≤ c0 := by omega
  clear h hG hcr hrg ha hb hc d0 d1
  go_enter Tryz.func20, Tryz.ntmps20
  go_wp2
  go_loopg [9] 1 (fun gk v wx => ∃ i : Nat, v = .int .i64 i ∧ i + gk = 1 ∧ Aside0 (Below w.heap.size w wx) ∧ wx.cell? ⟨w.heap.size, 0, none⟩ = some (.slice (some ad) 1 c0) ∧ wx.cell? ⟨w.heap.size, 1, none⟩ = some (.slice A1 0 c1) ∧ wx.cell? ⟨w.heap.size, 2, none⟩ = some (.slice A2 0 c2) ∧ wx.cell? ⟨w.heap.size, 3, none⟩ = some (.slice A3 0 c3) ∧ w.heap.size < wx.heap.size)
  case atStart => exact ⟨0, rfl, rfl, ⟨(Below.refl _ _).alloc (Nat.le_refl _) _⟩, by go_simp, by go_simp, by go_simp, by go_simp, by simp⟩
  case round =>
    obtain ⟨i, rfl, hi, HB, k0, k1, k2, k3, kl⟩ := hrel
    have hcs : i = 0 ∨ i = 1 := by omega
    rcases hcs with rfl | rfl
    · obtain rfl : gk = 1 := by omega
      have e0 : wr.cell? ad = some (.string ⟨#[120]⟩) := (HB.out.cell (p := ad) hlad).trans D0.out
      have e1 : wr.cell? ⟨ad.block, ad.off + 1, none⟩ = some (.slice Ar 2 cr) := (HB.out.cell (p := ⟨ad.block, ad.off + 1, none⟩) hlad).trans D1.out
      have kl2 : w.heap.size < wr.heap.size + 1 := by omega
      go_wp2_with fail
      refine (wordly_x _).mono ?_
      rintro e w' ⟨rfl, rfl⟩
      have hb5 : Below wr.heap.size wr (wr.alloc (.cells #[.string ⟨#[120]⟩, .slice Ar 2 cr] 50)) := (Below.refl _ _).alloc (Nat.le_refl _) _
      have HB5 := Aside0.mk (HB.out.trans (hb5.mono HB.out.size))
      go_wp2_with fail
      refine (noneG_calls (rs := [⟨a, b⟩, ⟨c, c⟩]) _ (Kd.C_below HG.out HB5.out) (by simp) HRG.out).mono ?_
      rintro e w6 ⟨rfl, hb6⟩
      have HB6 := Aside0.mk (HB5.out.trans (hb6.mono HB5.out.size))
      have m0 : w6.cell? ⟨w.heap.size, 0, none⟩ = some (.slice (some ad) 1 c0) := ((hb5.trans (hb6.mono hb5.size)).cell (p := ⟨w.heap.size, 0, none⟩) kl).trans k0
      have m1 : w6.cell? ⟨w.heap.size, 1, none⟩ = some (.slice A1 0 c1) := ((hb5.trans (hb6.mono hb5.size)).cell (p := ⟨w.heap.size, 1, none⟩) kl).trans k1
      have m2 : w6.cell? ⟨w.heap.size, 2, none⟩ = some (.slice A2 0 c2) := ((hb5.trans (hb6.mono hb5.size)).cell (p := ⟨w.heap.size, 2, none⟩) kl).trans k2
      have m3 : w6.cell? ⟨w.heap.size, 3, none⟩ = some (.slice A3 0 c3) := ((hb5.trans (hb6.mono hb5.size)).cell (p := ⟨w.heap.size, 3, none⟩) kl).trans k3
      have ml : w.heap.size < w6.heap.size := Nat.lt_of_lt_of_le kl (hb5.trans (hb6.mono hb5.size)).size
      clear hb5 hb6 k0 k1 k2 k3
      go_wp2_with (go_at_call 47; refine (noneC_calls _ _ _ _).mono ?_; rintro e w' ⟨rfl, rfl⟩)
      go_roundg 0
      case measure => omega
      case rel => exact ⟨1, rfl, rfl, HB6, m0, m1, m2, m3, ml⟩
    · go_wp2_with (go_at_call 49; refine (mapped_nil _ _ _).mono ?_; rintro e w' ⟨rfl, rfl⟩)
      refine (ordered_nil A3 c3 _).mono ?_
      rintro e w2 ⟨rfl, hb⟩
      have HB2 := Aside0.mk (HB.out.trans (hb.mono HB.out.size))
      clear hb
      go_wp2
      go_ret
      exact ⟨rfl, HB2.out⟩
end Go.Proofs.YtipmmkelialgkaaGreatDoor.Loc
