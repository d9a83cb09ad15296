/- LocaleLong: an order of more than 500 elements is too long; any other one is told. -/
import Derived.Test.YtipmmkelialgkaaGreatDoorGLlg19
import Derived.Test.YtipmmkelialgkaaGreatDoorGLlg28
set_option linter.unusedVariables false
set_option linter.unusedSimpArgs false
namespace Go.Proofs.YtipmmkelialgkaaGreatDoor.Loc
open Go.RowKit Go.Lib Go.Proofs.YtipmmkelialgkaaGreatDoorW.PrintWords Go.Proofs.YtipmmkelialgkaaGreatDoorW.PrintLast Go.Proofs.YtipmmkelialgkaaGreatDoorW.PrintMore Go.Proofs.YtipmmkelialgkaaGreatDoor.Lex

/-- Parse of a line of an order from one scalar to another one. -/
def rowAns (a b : Nat) : List Elm × Int × Int := if b - a < 500 then (elsF a (b - a + 1), 0, 0) else ([], 3, 6)
theorem rowText_calls (a b : Nat) (hab : a ≤ b) (hb : b < 55296) (s : ByteArray) (hs : s = bs (rowText a b)) (w : World) (hG : Gl w) :
    Calls Tryz.prog 13 #[.string s] w (ParsePost w [] (rowAns a b).1 (rowAns a b).2.1 (rowAns a b).2.2) := by
  subst hs
  have ra : rightN a = true := by unfold rightN; simp; omega
  have rb : rightN b = true := by unfold rightN; simp; omega
  have ht := row_tokens a b (by omega) (by omega) ra rb
  have hp := parse_order (bs (rowText a b)) _ w hG ht ⟨1, orderS, 0, 0⟩ ⟨3, bs [], a, 6⟩ ⟨2, dotsB, 0, 14⟩ ⟨3, bs [], b, 18⟩ ⟨6, bs [], 0, 25⟩ rfl rfl rfl rfl (by simp [rowToks]) (fun _ => ⟨rfl, by simp [isB], rfl, rfl, rfl, rfl⟩) a b (fun _ => rfl) (fun _ => rfl) (by omega) (by omega) (by show (bs []).size ≤ 1000000; rw [bs_size]; decide)
  have e := row_elems a b hab hb
  unfold orderF at hp
  rw [if_pos (show (3 : Int) = 3 from rfl), e] at hp
  unfold rowAns
  by_cases h : b - a < 500
  · rw [if_pos h] at hp ⊢
    exact hp
  · rw [if_neg h] at hp ⊢
    exact hp
theorem long_text (n : Nat) : ((⟨#[111, 114, 100, 101, 114, 32, 60, 85, 48, 49, 48, 48, 62, 32, 46, 46, 46, 32, 60, 85]⟩ : ByteArray) ++ bs (fourL n)) ++ (⟨#[62]⟩ : ByteArray) = bs (rowText 256 n) := by
  have e1 : (⟨#[111, 114, 100, 101, 114, 32, 60, 85, 48, 49, 48, 48, 62, 32, 46, 46, 46, 32, 60, 85]⟩ : ByteArray) = bs [111, 114, 100, 101, 114, 32, 60, 85, 48, 49, 48, 48, 62, 32, 46, 46, 46, 32, 60, 85] := rfl
  have e2 : (⟨#[62]⟩ : ByteArray) = bs [62] := rfl
  have e3 : fourL 256 = [48, 49, 48, 48] := by decide
  rw [e1, e2, bs_two, bs_two]
  unfold rowText
  rw [e3]
  simp
theorem fourS_size (n : Nat) : (bs (fourL n)).size = 4 := by rw [bs_size]; rfl
set_option maxRecDepth 100000 in
set_option maxHeartbeats 2000000 in
theorem long_calls (a : Nat) (h0 : a ≤ 255) (w : World) (hG : Gl w) :
    Calls Tryz.prog 5 #[.int .u8 a] w fun e w' => e = .returned (.bool true) ∧ Below w.heap.size w w' := by
  have HG := Aside0.mk hG
  clear hG
  have h1 : (0 : Int) ≤ a := by omega
  have h2 : (a : Int) ≤ 255 := by omega
  go_enter Tryz.func5, Tryz.ntmps5
  go_wp2_with fail
  obtain ⟨q, hq, hq4⟩ : ∃ q : Nat, (a : Int) % 40 = q ∧ q < 40 := ⟨a % 40, by omega, by omega⟩
  rw [hq]
  clear hq
  have e0 : (256 + (480 + (q : Int)) - 1) = ((735 + q : Nat) : Int) := by omega
  rw [e0]
  refine (PLoc.redactorlaw07_four.calls 5 ((735 + q : Nat) : Int) _ w (four_is (735 + q) (by omega))).mono ?_
  rintro e w1 ⟨rfl, hd⟩
  have hs := fourS_size (735 + q)
  have HT := Aside0.mk (long_text (735 + q))
  have HD := Aside0.mk hd.below
  clear hd e0
  generalize bs (fourL (735 + q)) = s at *
  have hs4 : s.size ≤ 4 := by omega
  clear hs
  have hr : rowAns 256 (735 + q) = if q ≤ 20 then (elsF 256 (480 + q), 0, 0) else ([], 3, 6) := by
    unfold rowAns
    by_cases h : q ≤ 20
    · rw [if_pos h, if_pos (by omega), show 735 + q - 256 + 1 = 480 + q by omega]
    · rw [if_neg h, if_neg (by omega)]
  have hp := rowText_calls 256 (735 + q) (by omega) (by omega) _ HT.out w1 (HG.out.at_below HD.out)
  rw [hr] at hp
  have HP := Aside0.mk hp
  clear hp hr
  by_cases h20 : q ≤ 20
  · have hp := HP.out
    rw [if_pos h20] at hp
    have HP2 := Aside0.mk hp
    clear hp HP
    have k1 : decide ((480 : Int) + q ≤ 500) = true := decide_eq_true (by omega)
    go_wp2_with fail
    refine HP2.out.mono ?_
    rintro e w2 ⟨v0, v1, v2, v3, rfl, hC, h1', h2', hE, hb2⟩
    obtain ⟨A0, c0, rfl, _, _⟩ := Kd.S_reads hC
    obtain ⟨A1, c1, rfl, _, _⟩ := Kd.R_reads h1'
    obtain ⟨A2, c2, rfl, _, _⟩ := Kd.R_reads h2'
    obtain ⟨A3, c3, rfl, _, _⟩ := Kd.S_reads hE
    have hz1 := hb2.size
    have HB := Aside0.mk (HD.out.trans (hb2.mono HD.out.size))
    clear hC h1' h2' hE hb2 HP2
    have hl : (elsF 256 (480 + q)).length = 480 + q := elsF_len _ _
    have lk : (((elsF 256 (480 + q)).length : Int) == 480 + (q : Int)) = true := beq_iff_eq.2 (by rw [hl]; omega)
    generalize (elsF 256 (480 + q)).length = m at *
    clear hl
    have hbx : Below w2.heap.size w2 (w2.alloc (.cells #[.slice A0 0 c0, .slice A1 0 c1, .slice A2 0 c2, .slice A3 m c3] 32)) := (Below.refl _ _).alloc (Nat.le_refl _) _
    have HBX := Aside0.mk hbx
    clear hbx
    go_wp2_with fail
    refine (known_calls _ (HG.out.at_below (HB.out.trans (HBX.out.mono HB.out.size)))).mono ?_
    rintro e w4 ⟨rfl, hb4⟩
    have kb := (hb4.block w2.heap.size (by simp)).trans (blk_new w2 (.cells #[.slice A0 0 c0, .slice A1 0 c1, .slice A2 0 c2, .slice A3 m c3] 32))
    obtain ⟨b0, b1, b2, b3, bl⟩ := box4 kb
    have HB4 := Aside0.mk (HB.out.trans ((HBX.out.mono (by exact HB.out.size)).trans (hb4.mono (by have := HB.out.size; simp; omega))))
    clear kb hb4
    go_wp2
    go_ret
    exact ⟨by first | rfl | (simp; omega), HB4.out⟩
  · have hp := HP.out
    rw [if_neg h20] at hp
    have HP2 := Aside0.mk hp
    clear hp HP
    have k1 : decide ((480 : Int) + q ≤ 500) = false := decide_eq_false (by omega)
    go_wp2_with fail
    refine HP2.out.mono ?_
    rintro e w2 ⟨v0, v1, v2, v3, rfl, hC, h1', h2', hE, hb2⟩
    obtain ⟨A0, c0, rfl, _, _⟩ := Kd.S_reads hC
    obtain ⟨A1, c1, rfl, _, _⟩ := Kd.R_reads h1'
    obtain ⟨A2, c2, rfl, _, _⟩ := Kd.R_reads h2'
    obtain ⟨A3, c3, rfl, _, _⟩ := Kd.S_reads hE
    have hz1 := hb2.size
    have HB := Aside0.mk (HD.out.trans (hb2.mono HD.out.size))
    clear hC h1' h2' hE hb2 HP2
    have hbx : Below w2.heap.size w2 (w2.alloc (.cells #[.slice A0 0 c0, .slice A1 0 c1, .slice A2 0 c2, .slice A3 0 c3] 32)) := (Below.refl _ _).alloc (Nat.le_refl _) _
    have HBX := Aside0.mk hbx
    clear hbx
    go_wp2_with fail
    refine (known_calls _ (HG.out.at_below (HB.out.trans (HBX.out.mono HB.out.size)))).mono ?_
    rintro e w4 ⟨rfl, hb4⟩
    have HB4 := Aside0.mk (HB.out.trans ((HBX.out.mono (by exact HB.out.size)).trans (hb4.mono (by have := HB.out.size; simp; omega))))
    clear hb4
    go_wp2
    go_ret
    exact ⟨by first | rfl | (simp; omega), HB4.out⟩
end Go.Proofs.YtipmmkelialgkaaGreatDoor.Loc
