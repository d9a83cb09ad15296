/- LocaleRow: from one scalar to another one there are as many elements, each its own, as stand between. -/
import Derived.Test.YtipmmkelialgkaaGreatDoorGLrw28
set_option linter.unusedVariables false
set_option linter.unusedSimpArgs false
namespace Go.Proofs.YtipmmkelialgkaaGreatDoor.Loc
open Go.RowKit Go.Lib Go.Proofs.YtipmmkelialgkaaGreatDoorW.PrintWords Go.Proofs.YtipmmkelialgkaaGreatDoorW.PrintLast Go.Proofs.YtipmmkelialgkaaGreatDoorW.PrintMore Go.Proofs.YtipmmkelialgkaaGreatDoor.Lex
attribute [local go_sem] max_two min_two

theorem rowLaw_text (n m : Nat) : ((((⟨#[111, 114, 100, 101, 114, 32, 60, 85]⟩ : ByteArray) ++ bs (fourL n)) ++ (⟨#[62, 32, 46, 46, 46, 32, 60, 85]⟩ : ByteArray)) ++ bs (fourL m)) ++ (⟨#[62]⟩ : ByteArray) = bs (rowText n m) := by
  have e1 : (⟨#[111, 114, 100, 101, 114, 32, 60, 85]⟩ : ByteArray) = bs [111, 114, 100, 101, 114, 32, 60, 85] := rfl
  have e2 : (⟨#[62]⟩ : ByteArray) = bs [62] := rfl
  have e3 : (⟨#[62, 32, 46, 46, 46, 32, 60, 85]⟩ : ByteArray) = bs [62, 32, 46, 46, 46, 32, 60, 85] := rfl
  rw [e1, e2, e3, bs_two, bs_two, bs_two, bs_two]
  unfold rowText
  simp
set_option maxRecDepth 100000 in
set_option maxHeartbeats 4000000 in
theorem rowLaw_calls (a b : Nat) (h0 : a ≤ 255) (h1 : b ≤ 255) (w : World) (hG : Gl w) :
    Calls Tryz.prog 4 #[.int .u8 a, .int .u8 b] w fun e w' => e = .returned (.bool true) ∧ Below w.heap.size w w' := by
  have HG := Aside0.mk hG
  clear hG
  obtain ⟨lo, hi, hmin, hmax, hlh, hh⟩ : ∃ lo hi : Nat, Builtin.min2 (.int .u8 (a : Int)) (.int .u8 (b : Int)) = pure (.int .u8 (lo : Int)) ∧ Builtin.max2 (.int .u8 (a : Int)) (.int .u8 (b : Int)) = pure (.int .u8 (hi : Int)) ∧ lo ≤ hi ∧ hi ≤ 255 := by
    rw [min2_int, max2_int]
    by_cases h : a < b
    · exact ⟨a, b, by rw [if_neg (by omega)], by rw [if_pos (by omega)], by omega, by omega⟩
    · by_cases h' : b < a
      · exact ⟨b, a, by rw [if_pos (by omega)], by rw [if_neg (by omega)], by omega, by omega⟩
      · exact ⟨a, a, by rw [if_neg (by omega)], by rw [if_neg (by omega)], by omega, by omega⟩
  have h2 : (0 : Int) ≤ lo := by omega
  have h3 : (lo : Int) ≤ 255 := by omega
  have h4 : (0 : Int) ≤ hi := by omega
  have h5 : (hi : Int) ≤ 255 := by omega
  have h6 : (lo : Int) ≤ hi := by omega
  go_enter Tryz.func4, Tryz.ntmps4
  go_wp2_with fail
  refine (PLoc.redactorlaw07_four.calls 5 (lo : Int) _ w (four_is lo (by omega))).mono ?_
  rintro e w1 ⟨rfl, hd⟩
  have hs := fourS_size lo
  have HD := Aside0.mk hd.below
  have HT := Aside0.mk (rowLaw_text lo hi)
  clear hd
  generalize bs (fourL lo) = s at *
  have hs4 : s.size ≤ 4 := by omega
  clear hs
  go_wp2_with fail
  refine (PLoc.redactorlaw07_four.calls 5 (hi : Int) _ w1 (four_is hi (by omega))).mono ?_
  rintro e w2 ⟨rfl, hd⟩
  have hs := fourS_size hi
  have HD2 := Aside0.mk (HD.out.trans (hd.below.mono HD.out.size))
  clear hd HD
  generalize bs (fourL hi) = s2 at *
  have hs5 : s2.size ≤ 4 := by omega
  clear hs
  have hr : rowAns lo hi = (elsF lo (hi - lo + 1), 0, 0) := by
    unfold rowAns
    rw [if_pos (by omega)]
  have hp := rowText_calls lo hi hlh (by omega) _ HT.out w2 (HG.out.at_below HD2.out)
  rw [hr] at hp
  have HP := Aside0.mk hp
  clear hp hr
  go_wp2_with fail
  refine HP.out.mono ?_
  rintro e w3 ⟨v0, v1, v2, v3, rfl, hC, h1', h2', hE, hb2⟩
  obtain ⟨A0, c0, rfl, _, _⟩ := Kd.S_reads hC
  obtain ⟨A1, c1, rfl, _, _⟩ := Kd.R_reads h1'
  obtain ⟨A2, c2, rfl, _, _⟩ := Kd.R_reads h2'
  obtain ⟨A3, c3, rfl, hc3, hR⟩ := Kd.S_reads hE
  have HB := Aside0.mk (HD2.out.trans (hb2.mono HD2.out.size))
  have HR := Aside0.mk hR
  have hl : (elsF lo (hi - lo + 1)).length = hi - lo + 1 := elsF_len _ _
  have lk : (((elsF lo (hi - lo + 1)).length : Int) != (hi : Int) - lo + 1) = false := by rw [bne_eq_false_iff_eq, hl]; omega
  have HL := Aside0.mk hl
  have hn1 : ((elsF lo (hi - lo + 1)).length : Int) ≤ 1000 := by rw [hl]; omega
  have hg : ∀ i (h : i < (elsF lo (hi - lo + 1)).length), (elsF lo (hi - lo + 1))[i] = (⟨⟨#[]⟩, [((lo + i : Nat) : Int)], (i : Int)⟩ : Elm) := fun i h => by simp [elsF]
  have HGt := Aside0.mk hg
  generalize elsF lo (hi - lo + 1) = od at *
  clear hC h1' h2' hE hb2 HP hR hl hg
  obtain ⟨W3, hW3⟩ : ∃ W3, W3 = w3.alloc (.cells #[.slice A0 0 c0, .slice A1 0 c1, .slice A2 0 c2, .slice A3 od.length c3] 32) := ⟨_, rfl⟩
  have hbx : Below w3.heap.size w3 W3 := by rw [hW3]; exact (Below.refl _ _).alloc (Nat.le_refl _) _
  have kb3 : W3.heap[w3.heap.size]? = some (.cells #[.slice A0 0 c0, .slice A1 0 c1, .slice A2 0 c2, .slice A3 od.length c3] 32 (0, 0)) := by rw [hW3]; exact blk_new _ _
  have hlt3 : w3.heap.size < W3.heap.size := by rw [hW3]; simp
  have KB := Aside0.mk kb3
  have HB3 := Aside0.mk (HB.out.trans (hbx.mono HB.out.size))
  have HR3 := Aside0.mk (Kd.C_below HR.out hbx)
  go_wp2
  rw [← hW3]
  clear hW3 hbx kb3 HR
  go_loopg [10] od.length (fun gk v wx => ∃ i : Nat, v = .int .i64 i ∧ i ≤ od.length ∧ od.length ≤ i + gk ∧ Aside0 (Below W3.heap.size W3 wx))
  case atStart => exact ⟨0, rfl, Nat.zero_le _, by omega, ⟨Below.refl _ _⟩⟩
  case round =>
    obtain ⟨i, rfl, hi, hgk, HBr⟩ := hrel
    have kb := (HBr.out.block w3.heap.size hlt3).trans KB.out
    obtain ⟨b0, b1, b2, b3, bl⟩ := box4 kb
    have hi0 : (0 : Int) ≤ i := by omega
    clear kb
    by_cases hlt : i < od.length
    · obtain ⟨g', rfl⟩ : ∃ g', gk = g' + 1 := ⟨gk - 1, by omega⟩
      obtain ⟨ad, Ax, cx, e1, d0, d1, d2, hcx, hCx⟩ := elm_at (Kd.C_below HR3.out HBr.out) i hlt
      rw [HGt.out i hlt] at d0 d1 d2 hcx hCx
      obtain ⟨ae, e2, d3⟩ := int_at hCx 0 (by simp)
      subst e1 e2
      replace d0 : wr.cell? (ad.add (i * 3)) = some (.string ⟨#[]⟩) := d0
      replace d1 : wr.cell? ⟨(ad.add (i * 3)).block, (ad.add (i * 3)).off + 1, none⟩ = some (.slice (some ae) 1 cx) := d1
      replace d2 : wr.cell? ⟨(ad.add (i * 3)).block, (ad.add (i * 3)).off + 2, none⟩ = some (.int .i64 i) := d2
      replace d3 : wr.cell? ae = some (.int .i32 ((lo + i : Nat) : Int)) := d3
      have hcx1 : 1 ≤ cx := hcx
      have hla := Lib.lt_of_cell d3
      have d4 : ∀ o, (wr.alloc o).cell? ae = some (.int .i32 ((lo + i : Nat) : Int)) := fun o => (((Below.refl wr.heap.size wr).alloc (Nat.le_refl _) o).cell (p := ae) hla).trans d3
      have hlt' : (i : Int) < od.length := by omega
      have hk1 : (((lo + i : Nat) : Int) != (lo : Int) + i) = false := by rw [bne_eq_false_iff_eq]; omega
      have hk2 : IntKind.i64.wrap ((lo + i : Nat) : Int) = ((lo + i : Nat) : Int) := IntWalk.i64_in _ (by omega)
      have hk3 : IntKind.i64.wrap ((lo : Int) + i) = (lo : Int) + i := IntWalk.i64_in _ (by omega)
      have HBn : ∀ o n, Below W3.heap.size W3 ((wr.alloc o).drewN n) := fun o n => (HBr.out.alloc HBr.out.size o).trans ((Lex.below_drewN _ _ _).mono (by have := HBr.out.size; simp; omega))
      have HBN := Aside0.mk HBn
      clear hcx hCx d3 HBn
      go_wp2
      go_roundg g'
      case measure => omega
      case rel => exact ⟨i + 1, by first | rfl | (simp; done), by omega, by omega, ⟨HBr.out.alloc HBr.out.size _⟩⟩
    · obtain rfl : i = od.length := by omega
      have hlt' : ((od.length : Int) < od.length) = False := by simp
      have HB6 := Aside0.mk (HB3.out.trans (HBr.out.mono HB3.out.size))
      go_wp2_with fail
      refine (known_calls _ (HG.out.at_below HB6.out)).mono ?_
      rintro e w5 ⟨rfl, hb5⟩
      have HB7 := Aside0.mk (HB6.out.trans (hb5.mono HB6.out.size))
      clear hb5
      go_wp2
      go_ret
      exact ⟨rfl, HB7.out⟩
end Go.Proofs.YtipmmkelialgkaaGreatDoor.Loc
