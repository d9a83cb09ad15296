/- Two ranges of a class, read one behind the other: (*locale.reader).each with that closure; and that no class is among none. · (*locale.reader).class, of two ranges, where no class is yet. -/
import Derived.Test.YtipmmkelialgkaaGreatDoorGLlg15
set_option linter.unusedVariables false
set_option linter.unusedSimpArgs false
namespace Go.Proofs.YtipmmkelialgkaaGreatDoor.Loc
open Go.RowKit Go.Lib Go.Proofs.YtipmmkelialgkaaGreatDoorW.PrintWords Go.Proofs.YtipmmkelialgkaaGreatDoorW.PrintLast Go.Proofs.YtipmmkelialgkaaGreatDoorW.PrintMore Go.Proofs.YtipmmkelialgkaaGreatDoor.Lex

def semiB : ByteArray := ⟨#[59]⟩
/-- Tokens of two ranges: two scalars with dots, a sign, one scalar, and what is no sign of these. -/
structure Two (L : List Tok) (i : Nat) (a b c : Nat) : Prop where
  t0 : ∃ t, L[i]? = some t ∧ t.f0 = 3 ∧ t.f2 = a
  t1 : ∃ t, L[i + 1]? = some t ∧ isB t dotsB = true
  t2 : ∃ t, L[i + 2]? = some t ∧ t.f0 = 3 ∧ t.f2 = b
  t3 : ∃ t, L[i + 3]? = some t ∧ isB t semiB = true
  t4 : ∃ t, L[i + 4]? = some t ∧ t.f0 = 3 ∧ t.f2 = c
  t5 : ∃ t, L[i + 5]? = some t ∧ isB t dotsB = false ∧ isB t semiB = false
  ab : a ≤ b
  b1 : b ≤ 1114111
  c1 : c ≤ 1114111
theorem rngF_two {L : List Tok} {i : Nat} {lo d hi : Tok} (h0 : lo.f0 = 3) (h1 : L[i + 1]? = some d) (h2 : isB d dotsB = true) (h3 : L[i + 2]? = some hi) (h4 : hi.f0 = 3) (h5 : ¬ hi.f2 < lo.f2) : rngF L i lo = .inr (⟨lo.f2, hi.f2⟩, i + 3) := by
  unfold rngF
  rw [if_neg (fun h => h h0), h1]
  simp only [h2, Bool.true_eq_false, if_false, h3]
  rw [if_neg (fun h => h h4), if_neg h5]
theorem rngF_one {L : List Tok} {i : Nat} {lo d : Tok} (h0 : lo.f0 = 3) (h1 : L[i + 1]? = some d) (h2 : isB d dotsB = false) : rngF L i lo = .inr (⟨lo.f2, lo.f2⟩, i + 1) := by
  unfold rngF
  rw [if_neg (fun h => h h0), h1]
  simp only [h2, if_true]
set_option maxRecDepth 100000 in
set_option maxHeartbeats 4000000 in
theorem each_calls {E : Env} {br bc i : Nat} {od : List Elm} {nm : ByteArray} (a b c : Nat) (w : World) (h : CB E br bc i od nm [] w) (hL : Two E.L i a b c) :
    Calls Tryz.prog 115 #[.pointer (some ⟨E.g, 0, none⟩), .func (.func 116) #[] #[.pointer (some ⟨br, 0, none⟩), .pointer (some ⟨bc, 0, none⟩)]] w fun e w' => e = .returned (.tuple #[]) ∧ CB E br bc (i + 5) od nm [⟨a, b⟩, ⟨c, c⟩] w' ∧ Fr E.B E.g w w' := by
  obtain ⟨lo, l1, l2, l3⟩ := hL.t0
  obtain ⟨d, d1, d2⟩ := hL.t1
  obtain ⟨hi, h1, h2, h3⟩ := hL.t2
  obtain ⟨s, s1, s2⟩ := hL.t3
  obtain ⟨l', m1, m2, m3⟩ := hL.t4
  obtain ⟨e, e1, e2, e3⟩ := hL.t5
  have hab := hL.ab
  have hb1 := hL.b1
  have hc1 := hL.c1
  have H := Aside0.mk h
  have hx := class2_calls w H.out lo l1 d d1 hi (fun _ => h1) a b (fun _ => l3) (fun _ => h3) (by omega) hb1 (by simp)
  rw [rngF_two l2 d1 d2 h1 h2 (by omega), l3, h3] at hx
  have HX := Aside0.mk hx
  have S1 := Aside0.mk s1
  have S2 := Aside0.mk s2
  have M1 := Aside0.mk m1
  have M2 := Aside0.mk m2
  have M3 := Aside0.mk m3
  have E1 := Aside0.mk e1
  have E2 := Aside0.mk e2
  have E3 := Aside0.mk e3
  clear hL l1 l2 l3 d1 d2 h1 h2 h3 s1 s2 m1 m2 m3 e1 e2 e3 h hx
  go_enter Tryz.func115, Tryz.ntmps115
  go_wp2_with fail
  refine HX.out.mono ?_
  rintro en w2 ⟨rfl, hc2, hf2⟩
  have HC2 := Aside0.mk hc2
  have HF2 := Aside0.mk hf2
  clear hc2 hf2 HX
  go_wp2_with fail
  go_loopg [] 1 (fun gk wx => (gk = 1 ∧ Aside0 (CB E br bc (i + 3) od nm [⟨a, b⟩] wx) ∧ Aside0 (Fr E.B E.g w wx)) ∨ (gk = 0 ∧ Aside0 (CB E br bc (i + 5) od nm [⟨a, b⟩, ⟨c, c⟩] wx) ∧ Aside0 (Fr E.B E.g w wx)))
  case atStart => exact .inl ⟨rfl, HC2, HF2⟩
  case round =>
    rcases hrel with ⟨rfl, HC, HF⟩ | ⟨rfl, HC, HF⟩
    · go_wp2_with fail
      refine (is_calls _ HC.out.rd s S1.out semiB).mono ?_
      intro en w4 hp
      obtain ⟨rfl, hR4, hf4, hk4⟩ := hp
      rw [S2.out] at hR4 ⊢
      have H4 := Aside0.mk (HC.out.keep hR4 hk4)
      have HF4 := Aside0.mk (HF.out.trans hf4)
      clear hR4 hf4 hk4
      go_wp2_with fail
      have hx := class2_calls (i := i + 4) w4 H4.out l' M1.out e E1.out l' (fun h => by rw [E2.out] at h; exact nomatch h) c c (fun _ => M3.out) (fun _ => M3.out) hc1 hc1 (by simp)
      rw [rngF_one M2.out E1.out E2.out, M3.out] at hx
      refine hx.mono ?_
      rintro en w5 ⟨rfl, hc5, hf5⟩
      have HC5 := Aside0.mk hc5
      have HF5 := Aside0.mk (HF4.out.trans hf5)
      clear hc5 hf5 hx
      go_wp2
      go_roundg 0
      case measure => omega
      case rel => exact .inr ⟨rfl, HC5, HF5⟩
    · go_wp2_with fail
      refine (is_calls _ HC.out.rd e E1.out semiB).mono ?_
      intro en w4 hp
      obtain ⟨rfl, hR4, hf4, hk4⟩ := hp
      rw [E3.out] at hR4 ⊢
      have H4 := Aside0.mk (HC.out.keep hR4 hk4)
      have HF4 := Aside0.mk (HF.out.trans hf4)
      clear hR4 hf4 hk4
      go_wp2
      refine ⟨rfl, .tuple #[], by simp [results, Tryz.results115], rfl, H4.out, HF4.out⟩
set_option maxRecDepth 100000 in
theorem noneC_calls (A : Option Addr) (c : Nat) (F : Value) (w : World) :
    Calls Tryz.prog 47 #[.slice A 0 c, F] w fun e w' => e = .returned (.bool false) ∧ w' = w := by
  go_enter Tryz.func47, Tryz.ntmps47
  go_wp2_with fail
  have hx : Calls Tryz.prog 93 #[.slice A 0 c, F] w fun e w' => e = .returned (.int .i64 (-1)) ∧ w' = w := by
    go_enter Tryz.func93, Tryz.ntmps93
    go_wp2
    go_loopg [8] 0 (fun gk v wx => v = .int .i64 0 ∧ wx = w)
    case atStart => exact ⟨rfl, rfl⟩
    case round =>
      obtain ⟨rfl, rfl⟩ := hrel
      go_wp2
      go_ret
      exact ⟨rfl, rfl⟩
  refine hx.mono ?_
  rintro e w2 ⟨rfl, rfl⟩
  go_wp2
  go_ret
  exact ⟨rfl, rfl⟩
end Go.Proofs.YtipmmkelialgkaaGreatDoor.Loc
set_option linter.unusedVariables false
set_option linter.unusedSimpArgs false
namespace Go.Proofs.YtipmmkelialgkaaGreatDoor.Loc
open Go.RowKit Go.Lib Go.Proofs.YtipmmkelialgkaaGreatDoorW.PrintWords Go.Proofs.YtipmmkelialgkaaGreatDoorW.PrintLast Go.Proofs.YtipmmkelialgkaaGreatDoorW.PrintMore Go.Proofs.YtipmmkelialgkaaGreatDoor.Lex

theorem infoCls : (Tryz.prog.info? 50).map (fun i => (i.zero, i.size, i.bytes)) = some (some (.agg #[.string ⟨#[]⟩, .slice none 0 0]), 2, 40) := by kernel_rfl
/-- What an append to the classes leaves, laid into the reader. -/
theorem Rd.putC {E : Env} {i : Nat} {cl' : List Cls} {od : List Elm} {W w1 : World} {vo v1 : Value} (h : Rd E i [] od (fun _ => True) W) (h1 : W.heap[E.g]? = some (rdObj E i E.vc vo)) (h2 : Kd.S kC 50 W E.B (fun _ => True) E.vc []) (h3 : Kd.S kE 39 W E.B (fun _ => True) vo od)
    (hS : Kd.S kC 50 w1 E.B (fun _ => True) v1 cl') (hg1 : W.grownBy w1 E.vc.ownBlock) : Rd { E with vc := v1 } i cl' od (fun _ => True) (w1.setCell ⟨E.g, 0, none⟩ v1) ∧ Fr E.B E.g W (w1.setCell ⟨E.g, 0, none⟩ v1) := by
  have hg := h.gB
  have htB := h.tB
  have hmB := h.mB
  have hBs := h.Bs
  have htg := h.tg
  have hmg := h.mg
  have hbase := Kd.S_base h2
  have ne : ∀ k, k < E.B → some k ≠ E.vc.ownBlock := fun k hk e => by
    have := hbase k e.symm
    omega
  have q := fun k (hk : k < E.B) (hkg : k ≠ E.g) => (Below.heap_setCell w1 ⟨E.g, 0, none⟩ v1 k hkg).trans (hg1.block k (by omega) (ne k hk))
  have hgb := (hg1.block E.g (by omega) (ne _ hg)).trans h1
  refine ⟨{
    gB := hg
    Bs := by simpa [World.setCell] using Nat.le_trans hBs hg1.size
    tB := htB
    tg := htg
    mB := hmB
    mg := hmg
    iL := h.iL
    Lc := h.Lc
    sm := h.sm
    tk := h.tk.move (q _ htB htg)
    mp := (q _ hmB hmg).trans h.mp
    st := ⟨vo, by simp [World.setCell, Array.getElem?_modify, hgb, rdObj],
      Kd.S_set hS hgb (typesC _ ⟨by decide, by decide⟩) _ _,
      Kd.S_set (Kd.S_over' h3 (Kd.S_typed h2) (typesE _ ⟨by decide, by decide⟩) hg1) hgb (typesE _ ⟨by decide, by decide⟩) _ _⟩ }, ?_⟩
  exact ⟨hg1.os, hg1.tape, hg1.output, by simpa [World.setCell] using hg1.size, fun k hk hkg => q k hk hkg⟩
set_option maxRecDepth 100000 in
set_option maxHeartbeats 4000000 in
theorem class_calls {E : Env} {i : Nat} {od : List Elm} (nm : Tok) (a b c : Nat) (w : World) (h : Rd E i [] od (fun _ => True) w) (hn : E.L[i]? = some nm) (hn1 : nm.f0 = 1) (hL : Two E.L (i + 1) a b c) :
    Calls Tryz.prog 69 #[.pointer (some ⟨E.g, 0, none⟩)] w fun e w' => e = .returned (.tuple #[]) ∧ (∃ v1, Rd { E with vc := v1 } (i + 6) [⟨nm.f1, [⟨a, b⟩, ⟨c, c⟩]⟩] od (fun _ => True) w') ∧ Fr E.B E.g w w' := by
  have hgB := h.gB
  have hBs := h.Bs
  have hgs : E.g < w.heap.size := by omega
  have hmf : ∀ (fn : Fn) (first cap : Array Value) (w : World), (Instr.makeFunc fn first cap).run Tryz.prog w = .ok (.func fn first cap) w := fun _ _ _ _ => rfl
  have HR := Aside0.mk h
  have HN := Aside0.mk hn
  have HN1 := Aside0.mk hn1
  have HL := Aside0.mk hL
  have hb0 : Below w.heap.size w (w.alloc (.cells #[.pointer (some ⟨E.g, 0, none⟩)] 68)) := (Below.refl _ _).alloc (Nat.le_refl _) _
  have HB0 := Aside0.mk hb0
  clear h hn hn1 hL hb0
  go_enter Tryz.func69, Tryz.ntmps69
  go_wp2_with fail
  refine (take_calls _ (HR.out.below HB0.out) nm HN.out 1).mono ?_
  intro e w2 hp
  unfold TakePost at hp
  rw [if_pos HN1.out] at hp
  obtain ⟨rfl, hR2, hf2, hk2⟩ := hp
  have xr2 : w2.heap[w.heap.size]? = some (.cells #[.pointer (some ⟨E.g, 0, none⟩)] 68 (0, 0)) := hk2.box (blk_new _ _) (by omega) (by decide)
  have cr2 := box1 xr2
  have lr2 : w.heap.size < w2.heap.size := (Array.getElem?_eq_some_iff.1 xr2).1
  have lr3 : w.heap.size < w2.heap.size + 1 := by omega
  obtain ⟨vo, g1, g2, g3⟩ := hR2.st
  obtain ⟨Ac, cc, eac, _, _⟩ := Kd.S_reads g2
  have c0 : w2.cell? ⟨E.g, 0, none⟩ = some (.slice Ac 0 cc) := by rw [show (Value.slice Ac 0 cc) = E.vc from eac.symm]; simp [World.cell?, g1, rdObj]
  have hgs2 : E.g < w2.heap.size := by omega
  have hsep : some (w2.heap.size + 1) ≠ E.vc.ownBlock := fun e => by
    have := Kd.S_lt g2 _ e.symm
    omega
  have hbb : Below w2.heap.size w2 ((w2.alloc (.cells #[.int .u8 nm.f0, .string nm.f1, .int .i64 nm.f2, .int .i64 nm.f3] 63)).alloc (.cells #[.string nm.f1, .slice none 0 0] 50)) := ((Below.refl _ _).alloc (Nat.le_refl _) _).alloc (by simp) _
  have hCB : CB E w.heap.size (w2.heap.size + 1) (i + 1) od nm.f1 [] ((w2.alloc (.cells #[.int .u8 nm.f0, .string nm.f1, .int .i64 nm.f2, .int .i64 nm.f3] 63)).alloc (.cells #[.string nm.f1, .slice none 0 0] 50)) :=
    { rd := hR2.below hbb, br1 := hBs, bc1 := Nat.le_trans hR2.Bs (Nat.le_succ _), sep := hsep, xr := (hbb.block _ lr2).trans xr2,
      xc := ⟨.slice none 0 0, by have := blk_new (w2.alloc (.cells #[.int .u8 nm.f0, .string nm.f1, .int .i64 nm.f2, .int .i64 nm.f3] 63)) (.cells #[.string nm.f1, .slice none 0 0] 50); simpa using this, Kd.R_nil _ _ _ _ _⟩ }
  have HCB := Aside0.mk hCB
  have HF3 := Aside0.mk (((Fr.of_below (HB0.out.mono hBs)).trans hf2).trans (Fr.of_below (hbb.mono hR2.Bs)))
  clear hR2 hf2 hk2 xr2 g1 g2 g3 eac hsep hbb hCB
  unfold tokV
  go_wp2_with (go_at_call 47; refine (noneC_calls _ _ _ _).mono ?_; rintro e w' ⟨rfl, rfl⟩)
  refine (each_calls a b c _ HCB.out HL.out).mono ?_
  rintro e w4 ⟨rfl, hc4, hf4⟩
  obtain ⟨vR, x1, x2⟩ := hc4.xc
  obtain ⟨Av, cv, rfl, hcv, _⟩ := Kd.R_reads x2
  replace x1 : w4.heap[w2.heap.size + 1]? = some (.cells #[.string nm.f1, .slice Av 2 cv] 50 (0, 0)) := x1
  replace x2 : kG.R 54 w4 E.B (fun _ => True) (.slice Av 2 cv) [⟨a, b⟩, ⟨c, c⟩] := x2
  obtain ⟨vo4, g1, g2, g3⟩ := hc4.rd.st
  obtain ⟨Ac, cc, eac, _, _⟩ := Kd.S_reads g2
  replace eac : E.vc = .slice Ac 0 cc := eac
  have hbase := Kd.S_base g2
  have hz4 := hc4.rd.Bs
  have k0 := box1 hc4.xr
  have l0 : w.heap.size < w4.heap.size := (Array.getElem?_eq_some_iff.1 hc4.xr).1
  have l1 : w2.heap.size + 1 < w4.heap.size := (Array.getElem?_eq_some_iff.1 x1).1
  have l2 : E.g < w4.heap.size := by omega
  have c1 : w4.cell? ⟨E.g, 0, none⟩ = some (.slice Ac 0 cc) := by rw [← eac]; simp [World.cell?, g1, rdObj]
  have y1 : w4.frozen? ⟨E.g, 0, none⟩ = false := by simp [World.frozen?, g1, rdObj]
  have b0 : w4.cell? ⟨w2.heap.size + 1, 0, none⟩ = some (.string nm.f1) := by simp [World.cell?, x1]
  have b1 : w4.cell? ⟨w2.heap.size + 1, 1, none⟩ = some (.slice Av 2 cv) := by simp [World.cell?, x1]
  have HV6 := Aside0.mk (Kd.R_below (Kd.R_tight (d := kG) rfl x2) ((Below.refl _ w4).drew))
  have nty : ∀ k, some k = (Value.slice Av 2 cv).ownBlock → some k ≠ (Value.slice Ac 0 cc).ownBlock := fun k hk e => by
    obtain ⟨cs1, q1⟩ := Kd.R_typed x2 k hk.symm
    obtain ⟨cs2, q2⟩ := Kd.S_typed g2 k (by rw [eac]; exact e.symm)
    rw [q1] at q2
    simp at q2
  have HK6 : Aside0 (∀ k, some k = (Value.slice Av 2 cv).ownBlock → True ∧ some k ≠ (Value.slice Ac 0 cc).ownBlock) := ⟨fun k hk => ⟨trivial, nty k hk⟩⟩
  have HO6 : Aside0 (Kd.S kC 50 w4.drew E.B (fun k => True ∧ ¬ some k = (Value.slice Av 2 cv).ownBlock) (.slice Ac 0 cc) []) := ⟨by
    have := Kd.S_drew (S_none g2)
    rw [eac] at this
    exact Kd.S_mono this (fun k hk => ⟨trivial, fun e => nty k e hk⟩)⟩
  have ne1 : some E.g ≠ (Value.slice Ac 0 cc).ownBlock := fun e => by
    have := hbase _ (by rw [eac]; exact e.symm)
    omega
  have ne2 : some w.heap.size ≠ (Value.slice Ac 0 cc).ownBlock := fun e => by
    obtain ⟨cs2, q2⟩ := Kd.S_typed g2 _ (by rw [eac]; exact e.symm)
    rw [hc4.xr] at q2
    simp at q2
  have ne3 : some (w2.heap.size + 1) ≠ (Value.slice Ac 0 cc).ownBlock := fun e => hc4.sep (by rw [eac]; exact e)
  have HS6 : Aside0 (∀ w1 : World, w4.drew.grownBy w1 (Value.slice Ac 0 cc).ownBlock → (w1.cell? ⟨w.heap.size, 0, none⟩ = some (.pointer (some ⟨E.g, 0, none⟩)) ∧ w1.cell? ⟨E.g, 0, none⟩ = some (.slice Ac 0 cc) ∧ w1.cell? ⟨w2.heap.size + 1, 0, none⟩ = some (.string nm.f1) ∧ w1.cell? ⟨w2.heap.size + 1, 1, none⟩ = some (.slice Av 2 cv) ∧ w1.frozen? ⟨E.g, 0, none⟩ = false)) := ⟨fun w1 hg => by
    refine ⟨hg.cell k0 ne2, hg.cell c1 ne1, hg.cell b0 ne3, hg.cell b1 ne3, ?_⟩
    exact (World.frozen?_of_block (a := ⟨E.g, 0, none⟩) (hg.block E.g l2 ne1)).trans y1⟩
  have HC4 := Aside0.mk hc4
  have HF4 := Aside0.mk (HF3.out.trans hf4)
  have G1 := Aside0.mk g1
  have G2 := Aside0.mk g2
  have G3 := Aside0.mk g3
  have EAC := Aside0.mk eac
  clear hc4 hf4 x1 x2 g1 g2 g3 eac hbase nty ne1 ne2 ne3 cr2 c0 hmf
  go_wp2
  refine start_ (n := 13) (S := fun w' => w'.cell? ⟨w.heap.size, 0, none⟩ = some (.pointer (some ⟨E.g, 0, none⟩)) ∧ w'.cell? ⟨E.g, 0, none⟩ = some (.slice Ac 0 cc) ∧ w'.cell? ⟨w2.heap.size + 1, 0, none⟩ = some (.string nm.f1) ∧ w'.cell? ⟨w2.heap.size + 1, 1, none⟩ = some (.slice Av 2 cv)) (ds := [12]) #[false, false, false, false, false, false, false, false, false, false, false, false, false] (by kernel_rfl) rfl rfl ⟨(by go_simp), (by go_simp), (by go_simp), (by go_simp)⟩ (fun hHeld => ?_)
  refine take_ (i := 0) (N := some 21) (v := ?_) (a' := ?_) #[true, false, false, false, false, false, false, false, false, false, false, false, false] rfl rfl (by kernel_rfl) (fun _ _ _ h => h) (Or.inl ⟨by rfl, ?_⟩) hHeld ?_ ?_
  rotate_left
  · rintro w' ⟨s0, s1, s2, s3⟩
    go_simp
    with_reducible rfl
  rotate_left
  · simp only [Act.put, List.setIfInBounds_toArray, List.set_cons_zero, List.set_cons_succ, i64_w, i32_w]
    rfl
  refine take_ (i := 1) (N := some 22) (v := ?_) (a' := ?_) #[true, true, false, false, false, false, false, false, false, false, false, false, false] rfl rfl (by kernel_rfl) (fun _ _ _ h => h) (Or.inl ⟨by rfl, ?_⟩) hHeld ?_ ?_
  rotate_left
  · rintro w' ⟨s0, s1, s2, s3⟩
    go_simp
    with_reducible rfl
  rotate_left
  · simp only [Act.put, List.setIfInBounds_toArray, List.set_cons_zero, List.set_cons_succ, i64_w, i32_w]
    rfl
  refine pure_ (i := 2) (N := some 23) (v := ?_) (a' := ?_) #[true, true, true, false, false, false, false, false, false, false, false, false, false] rfl rfl (by kernel_rfl) (fun _ _ _ h => h) (Or.inl ⟨by rfl, ?_⟩) ?_ ?_
  rotate_left
  · intro w'
    go_simp
    with_reducible rfl
  rotate_left
  · simp only [Act.put, List.setIfInBounds_toArray, List.set_cons_zero, List.set_cons_succ, i64_w, i32_w]
    rfl
  refine pure_ (i := 3) (N := some 24) (v := ?_) (a' := ?_) #[true, true, true, true, false, false, false, false, false, false, false, false, false] rfl rfl (by kernel_rfl) (fun _ _ _ h => h) (Or.inl ⟨by rfl, ?_⟩) ?_ ?_
  rotate_left
  · intro w'
    go_simp
    with_reducible rfl
  rotate_left
  · simp only [Act.put, List.setIfInBounds_toArray, List.set_cons_zero, List.set_cons_succ, i64_w, i32_w]
    rfl
  refine pure_ (i := 4) (N := some 25) (v := ?_) (a' := ?_) #[true, true, true, true, true, false, false, false, false, false, false, false, false] rfl rfl (by kernel_rfl) (fun _ _ _ h => h) (Or.inl ⟨by rfl, ?_⟩) ?_ ?_
  rotate_left
  · intro w'
    go_simp
    with_reducible rfl
  rotate_left
  · simp only [Act.put, List.setIfInBounds_toArray, List.set_cons_zero, List.set_cons_succ, i64_w, i32_w]
    rfl
  refine take_ (i := 5) (N := some 26) (v := ?_) (a' := ?_) #[true, true, true, true, true, true, false, false, false, false, false, false, false] rfl rfl (by kernel_rfl) (fun _ _ _ h => h) (Or.inl ⟨by rfl, ?_⟩) hHeld ?_ ?_
  rotate_left
  · rintro w' ⟨s0, s1, s2, s3⟩
    go_simp
    with_reducible rfl
  rotate_left
  · simp only [Act.put, List.setIfInBounds_toArray, List.set_cons_zero, List.set_cons_succ, i64_w, i32_w]
    rfl
  refine take_ (i := 6) (N := some 27) (v := ?_) (a' := ?_) #[true, true, true, true, true, true, true, false, false, false, false, false, false] rfl rfl (by kernel_rfl) (fun _ _ _ h => h) (Or.inl ⟨by rfl, ?_⟩) hHeld ?_ ?_
  rotate_left
  · rintro w' ⟨s0, s1, s2, s3⟩
    go_simp
    with_reducible rfl
  rotate_left
  · simp only [Act.put, List.setIfInBounds_toArray, List.set_cons_zero, List.set_cons_succ, i64_w, i32_w]
    rfl
  refine one_ (i := 7) (N := some 28) #[true, true, true, true, true, true, true, true, false, false, false, false, false] rfl rfl (by kernel_rfl) (by decide) (fun K hK => ?_)
  refine value_ (w1 := ?_) (v := ?_) (by rfl) rfl ?_ ?_
  rotate_left 2
  · go_simp
    constructor
    · rfl
    · rfl
  refine hK.out _ _ ⟨(by go_simp), (by go_simp), (by go_simp), (by go_simp)⟩ (fun hHeld => ?_)
  clear hK K
  refine norm_ (a' := ?_) ?_ ?_
  rotate_left
  · show Act.put _ (some 28) _ = _
    simp only [Act.put, List.setIfInBounds_toArray, List.set_cons_zero, List.set_cons_succ, i64_w, i32_w]
    rfl
  refine one_ (i := 8) (N := some 29) #[true, true, true, true, true, true, true, true, true, false, false, false, false] rfl rfl (by kernel_rfl) (by decide) (fun K hK => ?_)
  refine Kd.S_append_step kC (w0 := w4) (W := w4.drew) E.B rfl (.tmp 26) (.tmp 28) 28 50 _ 40 rfl Tryz.underlying28 infoCls rfl (by decide) (by decide) (.slice Ac 0 cc) [] (⟨nm.f1, [⟨a, b⟩, ⟨c, c⟩]⟩ : Cls) _ (fun _ => True) (fun k => some k = (Value.slice Av 2 cv).ownBlock) (by rfl) rfl (PLoc.k50_mkM _ _ _ (⟨nm.f1, [⟨a, b⟩, ⟨c, c⟩]⟩ : Cls) HV6.out) HK6.out (fun _ _ => trivial) HO6.out ((Below.refl _ w4).drew) hz4 (by decide) ?_
  intro v1 w5 hS5 hB5 hg5 _
  obtain ⟨i0, i1, i2, i3, z4⟩ := HS6.out _ hg5
  obtain ⟨A4, c4, rfl, hc4, _⟩ := Kd.S_reads hS5
  have HS5 := Aside0.mk hS5
  have HG5 := Aside0.mk hg5
  clear hS5 hB5 hg5 HS6
  refine hK.out _ _ ⟨i0, i1, i2, i3⟩ (fun hHeld => ?_)
  clear hK K
  refine norm_ (a' := ?_) ?_ ?_
  rotate_left
  · show Act.put _ (some 29) _ = _
    simp only [Act.put, List.setIfInBounds_toArray, List.set_cons_zero, List.set_cons_succ, i64_w, i32_w]
    rfl
  refine pure_ (i := 9) (N := some 30) (v := ?_) (a' := ?_) #[true, true, true, true, true, true, true, true, true, true, false, false, false] rfl rfl (by kernel_rfl) (fun _ _ _ h => h) (Or.inl ⟨by rfl, ?_⟩) ?_ ?_
  rotate_left
  · intro w'
    go_simp
    with_reducible rfl
  rotate_left
  · simp only [Act.put, List.setIfInBounds_toArray, List.set_cons_zero, List.set_cons_succ, i64_w, i32_w]
    rfl
  refine pure_ (i := 10) (N := some 31) (v := ?_) (a' := ?_) #[true, true, true, true, true, true, true, true, true, true, true, false, false] rfl rfl (by kernel_rfl) (fun _ _ _ h => h) (Or.inl ⟨by rfl, ?_⟩) ?_ ?_
  rotate_left
  · intro w'
    go_simp
    with_reducible rfl
  rotate_left
  · simp only [Act.put, List.setIfInBounds_toArray, List.set_cons_zero, List.set_cons_succ, i64_w, i32_w]
    rfl
  refine pure_ (i := 11) (N := some 32) (v := ?_) (a' := ?_) #[true, true, true, true, true, true, true, true, true, true, true, true, false] rfl rfl (by kernel_rfl) (fun _ _ _ h => h) (Or.inl ⟨by rfl, ?_⟩) ?_ ?_
  rotate_left
  · intro w'
    go_simp
    with_reducible rfl
  rotate_left
  · simp only [Act.put, List.setIfInBounds_toArray, List.set_cons_zero, List.set_cons_succ, i64_w, i32_w]
    rfl
  refine last_ (i := 12) (N := none) #[true, true, true, true, true, true, true, true, true, true, true, true, true] rfl rfl (by kernel_rfl) (by decide) (fun K hK => ?_)
  refine skip_ (w1 := ?_) (by rfl) rfl ?_ ?_
  rotate_left
  · go_simp
    rfl
  refine hK.out _ _ ?_
  clear hK K
  refine done_ (by kernel_rfl) ?_
  go_wp2
  have hput := HC4.out.rd.drew.putC G1.out (Kd.S_drew G2.out) (Kd.S_drew G3.out) HS5.out (by rw [EAC.out]; exact HG5.out)
  refine ⟨rfl, .tuple #[], by simp [results, Tryz.results69], rfl, ⟨_, hput.1⟩, (HF4.out.trans (Fr.drew _)).trans hput.2⟩
end Go.Proofs.YtipmmkelialgkaaGreatDoor.Loc
