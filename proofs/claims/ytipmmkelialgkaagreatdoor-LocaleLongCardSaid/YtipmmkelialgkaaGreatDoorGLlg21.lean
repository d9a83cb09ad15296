/- locale.Parse of one line of an order. -/
import Derived.Test.YtipmmkelialgkaaGreatDoorGLlg20
set_option linter.unusedVariables false
set_option linter.unusedSimpArgs false
namespace Go.Proofs.YtipmmkelialgkaaGreatDoor.Loc
open Go.RowKit Go.Lib Go.Proofs.YtipmmkelialgkaaGreatDoorW.PrintWords Go.Proofs.YtipmmkelialgkaaGreatDoorW.PrintLast Go.Proofs.YtipmmkelialgkaaGreatDoorW.PrintMore Go.Proofs.YtipmmkelialgkaaGreatDoor.Lex

theorem leaves_congr {P : Program} {fn : Func} {t1 t2 : Array Value} {R : Ending → World → Prop} (h : results fn t1 = results fn t2) : ∀ (ds : List Deferred) (u : FrameMode) (w : World), Leaves P fn t1 R ds u w → Leaves P fn t2 R ds u w
  | [], .returning, w, hl => by
    obtain ⟨v, hv, hr⟩ := hl
    exact ⟨v, by rw [← h]; exact hv, hr⟩
  | [], .panicking c, w, hl => hl
  | [], .run, w, hl => hl
  | d :: ds, u, w, hl => by
    obtain ⟨hu, fv, cap, f, args, h1, h2, h3⟩ := hl
    refine ⟨hu, fv, cap, f, args, h1, h2, h3.mono ?_⟩
    intro e u' w' hh
    cases e with
    | returned _ => exact leaves_congr h ds _ _ hh
    | panicked _ => exact leaves_congr h ds _ _ hh
    | outgrown => exact hh
theorem leavesQ {R : Ending → World → Prop} {n : Nat} (hn : n ≠ 2 ∧ n ≠ 3 ∧ n ≠ 4) {c : List PanicEntry} {a : Act} {w : World} {v : Value} (h : bodyPostD Tryz.prog Tryz.f13 R (.panic c) (a.put (some n) v) w) : bodyPostD Tryz.prog Tryz.f13 R (.panic c) a w := by
  have e : results Tryz.f13 (a.put (some n) v).tmps = results Tryz.f13 a.tmps := by
    simp [results, Tryz.results13, Act.put, Array.getD_eq_getD_getElem?, Array.getElem?_setIfInBounds, hn.1, hn.2.1, hn.2.2]
  exact leaves_congr e _ _ _ h
theorem TK_of {w : World} {B tb cap : Nat} {L : List Tok} (h : kT.R 63 w B (fun _ => True) (.slice (some ⟨tb, 0, none⟩) L.length cap) L) : TK tb L w := by
  intro j t ht
  obtain ⟨hj, ht2⟩ := List.getElem?_eq_some_iff.1 ht
  obtain ⟨ad, e, d0, d1, d2, d3⟩ := PLex.at_T63 (Kd.R_reads' h).2.2 (j : Int) (by omega) (by omega)
  have er : PLex.rd_T63 L (j : Int) = t := by
    unfold PLex.rd_T63
    rw [Int.toNat_natCast, List.getD_eq_getElem?_getD, ht]
    rfl
  have ea : ad = ⟨tb, 0, none⟩ := (Option.some.inj e).symm
  subst ea
  have eo : (⟨tb, 0, none⟩ : Addr).add ((j : Int).toNat * 4) = ⟨tb, 4 * j, none⟩ := by
    rw [Int.toNat_natCast, Nat.mul_comm]
    unfold Addr.add
    by_cases h0 : 4 * j = 0
    · rw [if_pos h0, h0]
    · rw [if_neg h0, Nat.zero_add]
  rw [er, eo] at d0 d1 d2 d3
  exact ⟨d0, d1, d2, d3⟩
/-- What a line of an order tells, all in all. -/
def ResPost (w : World) (r : (Int × Int) ⊕ List Elm) (en : Ending) (w' : World) : Prop := match r with
  | .inl ep => ParsePost w [] [] ep.1 ep.2 en w'
  | .inr od => ParsePost w [] od 0 0 en w'
set_option maxRecDepth 100000 in
set_option maxHeartbeats 8000000 in
theorem parse_order (s : ByteArray) (L : List Tok) (w : World) (hG : Gl w) (hs : tokensF s = (L, 0, 0)) (wd t v u x : Tok) (h0 : L[0]? = some wd) (hw0 : wd.f0 = 1) (hw1 : wd.f1 = orderS) (h1 : L[1]? = some t) (hlen : L.length ≤ 1000)
    (hv : t.f0 = 3 → L[2]? = some v ∧ isB v dotsB = true ∧ L[3]? = some u ∧ L[4]? = some x ∧ x.f0 = 6 ∧ L.length = 5) (a b : Nat) (ha : t.f0 = 3 → t.f2 = a) (hb : u.f0 = 3 → u.f2 = b) (ha1 : a ≤ 1114111) (hb1 : b ≤ 1114111) (ht1 : t.f1.size ≤ 1000000) :
    Calls Tryz.prog 13 #[.string s] w (ResPost w (orderF t u [])) := by
  have hmf : ∀ (fn : Fn) (first cap : Array Value) (w : World), (Instr.makeFunc fn first cap).run Tryz.prog w = .ok (.func fn first cap) w := fun _ _ _ _ => rfl
  have hmk : ∀ w : World, (Instr.makeMap 69 none).run Tryz.prog w = .ok (.map (some w.heap.size)) (w.alloc (.map #[] 0)) := fun _ => rfl
  have HG := Aside0.mk hG
  have HS := Aside0.mk hs
  clear hG hs
  go_enter_defers Tryz.func13, Tryz.ntmps13
  go_wp2_with fail
  have hb0 : Below w.heap.size w (((w.alloc (.cells #[.slice none 0 0, .slice none 0 0, .slice none 0 0, .slice none 0 0] 32)).alloc (.cells #[.int .u16 0] 33)).alloc (.cells #[.int .i64 0] 3)) := (((Below.refl _ _).alloc (Nat.le_refl _) _).alloc (by simp) _).alloc (by simp; omega) _
  refine (tokens_calls s _ (HG.out.at_below hb0)).mono ?_
  rintro e w2 ⟨vt, rfl, hR, hb2⟩
  rw [HS.out] at hR ⊢
  replace hR : kT.R 63 w2 _ (fun _ => True) vt L := hR
  have hpos : 0 < L.length := (List.getElem?_eq_some_iff.1 h0).1
  obtain ⟨tb, cp, rfl, htb, htbl, cells, hcells⟩ := Kd.R_form hR hpos
  have hTK := TK_of hR
  obtain ⟨_, hcp, _⟩ := Kd.R_reads' hR
  have hmax : cp ≤ 9223372036854775807 := by
    obtain ⟨inner, ho⟩ := Kd.R_own hR
    rcases ho.2 with ⟨e, _⟩ | ⟨g', cap', cur, e, _, _, _, hm, _⟩
    · exact nomatch e
    · injection e with _ _ e3
      rw [e3]
      exact hm
  have hsz0 : (((w.alloc (.cells #[.slice none 0 0, .slice none 0 0, .slice none 0 0, .slice none 0 0] 32)).alloc (.cells #[.int .u16 0] 33)).alloc (.cells #[.int .i64 0] 3)).heap.size = w.heap.size + 1 + 1 + 1 := by simp
  rw [hsz0] at htb hb2
  have xa : w2.heap[w.heap.size]? = some (.cells #[.slice none 0 0, .slice none 0 0, .slice none 0 0, .slice none 0 0] 32 (0, 0)) := (hb2.block _ (by omega)).trans (blk_alloc (blk_alloc (blk_new _ _) _) _)
  have xb : w2.heap[w.heap.size + 1]? = some (.cells #[.int .u16 0] 33 (0, 0)) := (hb2.block _ (by omega)).trans (blk_alloc (by have := blk_new (w.alloc (.cells #[.slice none 0 0, .slice none 0 0, .slice none 0 0, .slice none 0 0] 32)) (.cells #[.int .u16 0] 33); simpa using this) _)
  have xc : w2.heap[w.heap.size + 1 + 1]? = some (.cells #[.int .i64 0] 3 (0, 0)) := (hb2.block _ (by omega)).trans (by have := blk_new ((w.alloc (.cells #[.slice none 0 0, .slice none 0 0, .slice none 0 0, .slice none 0 0] 32)).alloc (.cells #[.int .u16 0] 33)) (.cells #[.int .i64 0] 3); simpa using this)
  have yb := box1 xb
  have yc := box1 xc
  have zb : w2.frozen? ⟨w.heap.size + 1, 0, none⟩ = false := by simp [World.frozen?, xb]
  have zc : w2.frozen? ⟨w.heap.size + 1 + 1, 0, none⟩ = false := by simp [World.frozen?, xc]
  have hbl : Below w.heap.size w w2 := hb0.trans (hb2.mono (by omega))
  have hs2 : w.heap.size + 1 + 1 + 1 ≤ w2.heap.size := by have := hb2.size; rw [hsz0] at this; exact this
  have HTK := Aside0.mk hTK
  have XA := Aside0.mk xa
  have XB := Aside0.mk xb
  have XC := Aside0.mk xc
  have HBL := Aside0.mk hbl
  clear hR hTK hb0 hb2 hcells xa xb xc hbl hsz0
  go_wp2
  obtain ⟨E, hE⟩ : ∃ E : Env, E = { B := w2.heap.size + 1 + 1, g := w2.heap.size + 1, tb := tb, cp := cp, mb := w2.heap.size, vc := .slice none 0 0, L := L } := ⟨_, rfl⟩
  obtain ⟨w3, hw3, hRd, xa3, xb3, xc3, hb3⟩ : ∃ w3, w3 = ((((w2.setCell ⟨w.heap.size + 1, 0, none⟩ (.int .u16 0)).setCell ⟨w.heap.size + 1 + 1, 0, none⟩ (.int .i64 0)).alloc (.map #[] 0)).alloc
      (.cells #[.slice none 0 0, .slice none 0 0, .slice none 0 0, .slice none 0 0, .slice (some ⟨tb, 0, none⟩) L.length cp, .map (some w2.heap.size)] 71)) ∧ Rd E 0 [] [] (fun _ => True) w3 ∧ w3.heap[w.heap.size]? = some (.cells #[.slice none 0 0, .slice none 0 0, .slice none 0 0, .slice none 0 0] 32 (0, 0)) ∧ w3.heap[w.heap.size + 1]? = some (.cells #[.int .u16 0] 33 (0, 0)) ∧ w3.heap[w.heap.size + 1 + 1]? = some (.cells #[.int .i64 0] 3 (0, 0)) ∧ Below w.heap.size w w3 := by
    have q := fun k (hk : k < w2.heap.size) (h1 : k ≠ w.heap.size + 1) (h2 : k ≠ w.heap.size + 1 + 1) => (Below.heap_alloc (((w2.setCell ⟨w.heap.size + 1, 0, none⟩ (.int .u16 0)).setCell ⟨w.heap.size + 1 + 1, 0, none⟩ (.int .i64 0)).alloc (.map #[] 0)) (.cells #[.slice none 0 0, .slice none 0 0, .slice none 0 0, .slice none 0 0, .slice (some ⟨tb, 0, none⟩) L.length cp, .map (some w2.heap.size)] 71) k (by simp [World.setCell]; omega)).trans
      ((Below.heap_alloc ((w2.setCell ⟨w.heap.size + 1, 0, none⟩ (.int .u16 0)).setCell ⟨w.heap.size + 1 + 1, 0, none⟩ (.int .i64 0)) (.map #[] 0) k (by simp [World.setCell]; omega)).trans ((Below.heap_setCell _ ⟨w.heap.size + 1 + 1, 0, none⟩ _ k h2).trans (Below.heap_setCell _ ⟨w.heap.size + 1, 0, none⟩ _ k h1)))
    have hn : ((w2.setCell ⟨w.heap.size + 1, 0, none⟩ (.int .u16 0)).setCell ⟨w.heap.size + 1 + 1, 0, none⟩ (.int .i64 0)).heap.size = w2.heap.size := by simp [World.setCell]
    have m1 := blk_alloc (blk_new ((w2.setCell ⟨w.heap.size + 1, 0, none⟩ (.int .u16 0)).setCell ⟨w.heap.size + 1 + 1, 0, none⟩ (.int .i64 0)) (.map #[] 0)) (.cells #[.slice none 0 0, .slice none 0 0, .slice none 0 0, .slice none 0 0, .slice (some ⟨tb, 0, none⟩) L.length cp, .map (some w2.heap.size)] 71)
    rw [hn] at m1
    have m2 := blk_new (((w2.setCell ⟨w.heap.size + 1, 0, none⟩ (.int .u16 0)).setCell ⟨w.heap.size + 1 + 1, 0, none⟩ (.int .i64 0)).alloc (.map #[] 0)) (.cells #[.slice none 0 0, .slice none 0 0, .slice none 0 0, .slice none 0 0, .slice (some ⟨tb, 0, none⟩) L.length cp, .map (some w2.heap.size)] 71)
    rw [show (((w2.setCell ⟨w.heap.size + 1, 0, none⟩ (.int .u16 0)).setCell ⟨w.heap.size + 1 + 1, 0, none⟩ (.int .i64 0)).alloc (.map #[] 0)).heap.size = w2.heap.size + 1 by simp [World.setCell]] at m2
    refine ⟨_, rfl, ?_, ?_, ?_, ?_, ?_⟩
    · subst hE
      exact {
        gB := Nat.lt_succ_self _
        Bs := by simp [World.setCell]
        tB := by show tb < w2.heap.size + 1 + 1; omega
        tg := by show tb ≠ w2.heap.size + 1; omega
        mB := by show w2.heap.size < w2.heap.size + 1 + 1; omega
        mg := by show w2.heap.size ≠ w2.heap.size + 1; omega
        iL := Nat.zero_le _
        Lc := hcp
        sm := hmax
        tk := HTK.out.move (q tb (by omega) (by omega) (by omega))
        mp := m1
        st := ⟨.slice none 0 0, by show _ = some (rdObj _ 0 (.slice none 0 0) (.slice none 0 0)); rw [m2]; simp [rdObj, offAt], Kd.S_nil _ _ _ _ _, Kd.S_nil _ _ _ _ _⟩ }
    · exact (q _ (by omega) (by omega) (by omega)).trans XA.out
    · refine (Below.heap_alloc _ _ _ (by simp [World.setCell]; omega)).trans ((Below.heap_alloc _ _ _ (by simp [World.setCell]; omega)).trans ((Below.heap_setCell _ _ _ _ (by show w.heap.size + 1 ≠ w.heap.size + 1 + 1; omega)).trans ?_))
      simp [World.setCell, Array.getElem?_modify, XB.out]
    · refine (Below.heap_alloc _ _ _ (by simp [World.setCell]; omega)).trans ((Below.heap_alloc _ _ _ (by simp [World.setCell]; omega)).trans ?_)
      have := (Below.heap_setCell w2 ⟨w.heap.size + 1, 0, none⟩ (.int .u16 0) (w.heap.size + 1 + 1) (by show w.heap.size + 1 + 1 ≠ w.heap.size + 1; omega)).trans XC.out
      simp [World.setCell, Array.getElem?_modify, XC.out]
    · exact (((HBL.out.setCell (p := ⟨w.heap.size + 1, 0, none⟩) (by show w.heap.size ≤ w.heap.size + 1; omega) _).setCell (p := ⟨w.heap.size + 1 + 1, 0, none⟩) (by show w.heap.size ≤ w.heap.size + 1 + 1; omega) _).alloc (by simp [World.setCell]; omega) _).alloc (by simp [World.setCell]; omega) _
  rw [← hw3]
  have hEg : E.g = w2.heap.size + 1 := by rw [hE]
  have hEB : E.B = w2.heap.size + 1 + 1 := by rw [hE]
  have hEL : E.L = L := by rw [hE]
  have hEv : E.vc = .slice none 0 0 := by rw [hE]
  have XA3 := Aside0.mk xa3
  have XB3 := Aside0.mk xb3
  have XC3 := Aside0.mk xc3
  have HB3 := Aside0.mk hb3
  have HRD := Aside0.mk hRd
  clear hw3 hRd xa3 xb3 xc3 hb3 hE XA XB XC HBL HTK yb yc zb zc hmf hmk
  rw [← hEg]
  obtain ⟨r, hr⟩ : ∃ r, orderF t u [] = r := ⟨_, rfl⟩
  rw [hr]
  have HRR := Aside0.mk hr
  have HV := Aside0.mk hv
  have HA := Aside0.mk ha
  have HBb := Aside0.mk hb
  have HW0 := Aside0.mk hw0
  have HW1 := Aside0.mk hw1
  clear hr hv ha hb hw0 hw1
  rw [← hEL] at h0 h1 hpos hlen
  have HEG := Aside0.mk hEg
  have HEB := Aside0.mk hEB
  have HEL := Aside0.mk hEL
  have HEV := Aside0.mk hEv
  have hs2 := hs2
  have HS2 := Aside0.mk hs2
  clear hEg hEB hEL hEv
  have H0 := Aside0.mk h0
  have H1 := Aside0.mk h1
  clear h0 h1
  go_loopg [] 1 (fun gk wx => (gk = 1 ∧ Aside0 (Rd E 0 [] [] (fun _ => True) wx) ∧ Aside0 (Fr E.B E.g w3 wx)) ∨ (gk = 0 ∧ ∃ od, r = .inr od ∧ Aside0 (Rd E E.L.length [] od (fun _ => True) wx) ∧ Aside0 (Fr E.B E.g w3 wx)))
  case atStart => exact .inl ⟨rfl, HRD, ⟨Fr.refl _ _ _⟩⟩
  case round =>
    rcases hrel with ⟨rfl, HR0, HF0⟩ | ⟨rfl, od, hro, HRn, HFn⟩
    · obtain ⟨c4, f4, _, _⟩ := HR0.out.cells hpos
      have hpos' : (0 : Int) < ((E.L.length - 0 : Nat) : Int) := by omega
      have hpos2 : 0 < E.L.length - 0 := by omega
      go_wp2_with fail
      refine (take_calls _ HR0.out wd H0.out 1).mono ?_
      intro e w4 hp
      unfold TakePost at hp
      rw [if_pos HW0.out] at hp
      obtain ⟨rfl, hR4, hf4, hk4⟩ := hp
      have HR4 := Aside0.mk hR4
      have HF4 := Aside0.mk (HF0.out.trans hf4)
      have hz4 := hR4.Bs
      have kb4 := blk_new w4 (.cells #[.int .u8 wd.f0, .string wd.f1, .int .i64 wd.f2, .int .i64 wd.f3] 63)
      have HBX : Aside0 (Below w4.heap.size w4 (w4.alloc (.cells #[.int .u8 wd.f0, .string wd.f1, .int .i64 wd.f2, .int .i64 wd.f3] 63)).drew) := ⟨((Below.refl _ _).alloc (Nat.le_refl _) _).drew⟩
      clear hR4 hf4 hk4 c4 f4
      unfold tokV
      go_wp2
      refine start_ (n := 10) (S := fun w' => w'.cell? ⟨w4.heap.size, 1, none⟩ = some (.string wd.f1)) (ds := []) #[false, false, false, false, false, false, false, false, false, false] (by kernel_rfl) rfl rfl ((by go_simp)) (fun hHeld => ?_)
      refine pure_ (i := 0) (N := some 35) (v := ?_) (a' := ?_) #[true, false, false, false, false, false, false, false, false, false] rfl rfl (by kernel_rfl) (fun _ _ _ h => leavesQ (by decide) h) (Or.inl ⟨by rfl, ?_⟩) ?_ ?_
      rotate_left
      · intro w'
        go_simp
        with_reducible rfl
      rotate_left
      · simp only [Act.put, List.setIfInBounds_toArray, List.set_cons_zero, List.set_cons_succ, i64_w, i32_w]
        rfl
      refine pure_ (i := 2) (N := some 37) (v := ?_) (a' := ?_) #[true, false, true, false, false, false, false, false, false, false] rfl rfl (by kernel_rfl) (fun _ _ _ h => leavesQ (by decide) h) (Or.inl ⟨by rfl, ?_⟩) ?_ ?_
      rotate_left
      · intro w'
        go_simp
        with_reducible rfl
      rotate_left
      · simp only [Act.put, List.setIfInBounds_toArray, List.set_cons_zero, List.set_cons_succ, i64_w, i32_w]
        rfl
      refine take_ (i := 3) (N := some 38) (v := ?_) (a' := ?_) #[true, false, true, true, false, false, false, false, false, false] rfl rfl (by kernel_rfl) (fun _ _ _ h => leavesQ (by decide) h) (Or.inl ⟨by rfl, ?_⟩) hHeld ?_ ?_
      rotate_left
      · intro w' s0
        go_simp
        with_reducible rfl
      rotate_left
      · simp only [Act.put, List.setIfInBounds_toArray, List.set_cons_zero, List.set_cons_succ, i64_w, i32_w]
        rfl
      refine one_ (i := 1) (N := some 36) #[true, true, true, true, false, false, false, false, false, false] rfl rfl (by kernel_rfl) (by decide) (fun K hK => ?_)
      refine goes_ Tryz.func28 (by kernel_rfl) rfl #[.pointer (some ⟨E.g, 0, none⟩)] (by rfl) rfl rfl (by simp only [List.map_toArray, List.map_cons, List.map_nil]; rfl) ?_
      with_reducible refine (kinds_calls E.g _).mono ?_
      rintro e w5 ⟨kb, br, rfl, hm5, hb5⟩
      refine ⟨_, rfl, ?_⟩
      have HB5 := Aside0.mk hb5
      have KL : (Instr.lookup tyK (.map (some kb)) (.string wd.f1) true).run Tryz.prog w5 = .ok (.tuple #[.func (.func 74) #[.pointer (some ⟨E.g, 0, none⟩)] #[], .bool true]) w5 := by rw [HW1.out]; exact find_order _ _ _ _ hm5
      have k1 : w5.cell? ⟨w4.heap.size, 1, none⟩ = some (.string wd.f1) := (hb5.cell (p := ⟨w4.heap.size, 1, none⟩) (by simp)).trans (by go_simp)
      clear hb5 hm5
      refine hK.out _ _ (k1) (fun hHeld => ?_)
      clear hK K
      refine norm_ (a' := ?_) ?_ ?_
      rotate_left
      · show Act.put _ (some 36) _ = _
        simp only [Act.put, List.setIfInBounds_toArray, List.set_cons_zero, List.set_cons_succ, i64_w, i32_w]
        rfl
      refine one_ (i := 4) (N := some 39) #[true, true, true, true, true, false, false, false, false, false] rfl rfl (by kernel_rfl) (by decide) (fun K hK => ?_)
      refine value_ (w1 := ?_) (v := ?_) (by rfl) rfl ?_ ?_
      rotate_left 2
      · go_simp
        constructor
        · rfl
        · rfl
      refine hK.out _ _ (k1) (fun hHeld => ?_)
      clear hK K
      refine norm_ (a' := ?_) ?_ ?_
      rotate_left
      · show Act.put _ (some 39) _ = _
        simp only [Act.put, List.setIfInBounds_toArray, List.set_cons_zero, List.set_cons_succ, i64_w, i32_w]
        rfl
      refine pure_ (i := 5) (N := some 34) (v := ?_) (a' := ?_) #[true, true, true, true, true, true, false, false, false, false] rfl rfl (by kernel_rfl) (fun _ _ _ h => leavesQ (by decide) h) (Or.inl ⟨by rfl, ?_⟩) ?_ ?_
      rotate_left
      · intro w'
        go_simp
        with_reducible rfl
      rotate_left
      · simp only [Act.put, List.setIfInBounds_toArray, List.set_cons_zero, List.set_cons_succ, i64_w, i32_w]
        rfl
      refine pure_ (i := 6) (N := some 40) (v := ?_) (a' := ?_) #[true, true, true, true, true, true, true, false, false, false] rfl rfl (by kernel_rfl) (fun _ _ _ h => leavesQ (by decide) h) (Or.inl ⟨by rfl, ?_⟩) ?_ ?_
      rotate_left
      · intro w'
        go_simp
        with_reducible rfl
      rotate_left
      · simp only [Act.put, List.setIfInBounds_toArray, List.set_cons_zero, List.set_cons_succ, i64_w, i32_w]
        rfl
      refine pure_ (i := 7) (N := some 41) (v := ?_) (a' := ?_) #[true, true, true, true, true, true, true, true, false, false] rfl rfl (by kernel_rfl) (fun _ _ _ h => leavesQ (by decide) h) (Or.inl ⟨by rfl, ?_⟩) ?_ ?_
      rotate_left
      · intro w'
        go_simp
        with_reducible rfl
      rotate_left
      · simp only [Act.put, List.setIfInBounds_toArray, List.set_cons_zero, List.set_cons_succ, i64_w, i32_w]
        rfl
      refine pure_ (i := 8) (N := some 8) (v := ?_) (a' := ?_) #[true, true, true, true, true, true, true, true, true, false] rfl rfl (by kernel_rfl) (fun _ _ _ h => leavesQ (by decide) h) (Or.inl ⟨by rfl, ?_⟩) ?_ ?_
      rotate_left
      · intro w'
        go_simp
        with_reducible rfl
      rotate_left
      · simp only [Act.put, List.setIfInBounds_toArray, List.set_cons_zero, List.set_cons_succ, i64_w, i32_w]
        rfl
      refine pure_ (i := 9) (N := some 9) (v := ?_) (a' := ?_) #[true, true, true, true, true, true, true, true, true, true] rfl rfl (by kernel_rfl) (fun _ _ _ h => leavesQ (by decide) h) (Or.inl ⟨by rfl, ?_⟩) ?_ ?_
      rotate_left
      · intro w'
        go_simp
        with_reducible rfl
      rotate_left
      · simp only [Act.put, List.setIfInBounds_toArray, List.set_cons_zero, List.set_cons_succ, i64_w, i32_w]
        rfl
      refine done_ (by kernel_rfl) ?_
      go_wp2_with fail
      have hw5 : Rd E 1 [] [] (fun _ => True) w5 := (HR4.out.below HBX.out).below HB5.out
      have HF5 := Aside0.mk ((HF4.out.trans (Fr.of_below (HBX.out.mono hz4))).trans (Fr.of_below (HB5.out.mono (Nat.le_trans hz4 HBX.out.size))))
      have ho := order_calls t v u _ hw5 H1.out (fun h3 => by have := HV.out h3; rw [HEL.out]; exact ⟨this.1, this.2.1, this.2.2.1⟩) a b HA.out HBb.out ha1 hb1 (by simp) ht1
      rw [HRR.out] at ho
      refine ho.mono ?_
      intro e w6 hp
      clear ho hw5 KL k1 hHeld
      cases r with
      | inl ep =>
        obtain ⟨rfl, hf⟩ := hp
        have HF6 := HF5.out.trans hf
        have qB : ∀ k, k < w2.heap.size → w6.heap[k]? = w3.heap[k]? := fun k hk => HF6.block k (by rw [HEB.out]; omega) (by rw [HEG.out]; omega)
        have xa := (qB _ (by omega)).trans XA3.out
        have xb := (qB _ (by omega)).trans XB3.out
        have xc := (qB _ (by omega)).trans XC3.out
        have XA := Aside0.mk xa
        have XB := Aside0.mk xb
        have XC := Aside0.mk xc
        have HB6 := Aside0.mk (HB3.out.trans (HF6.below (B' := w.heap.size) (by rw [HEB.out]; omega) (by rw [HEG.out]; omega)))
        clear hf HF6 qB xa xb xc kb4
        go_wp2_with fail
        exact leave_wrong _ _ _ _ _ _ _ _ (by omega) (by omega) (by omega) (by omega) (by omega) (by omega) _ _ _ _ _ _ XA.out (box1 XB.out) (box1 XC.out) (by simp [World.frozen?, XB.out]) (by simp [World.frozen?, XC.out]) HB6.out
      | inr od =>
        obtain ⟨rfl, hR6, hf6, hk6⟩ := hp
        have h3 : t.f0 = 3 := by
          by_cases h : t.f0 = 3
          · exact h
          · have := HRR.out
            unfold orderF at this
            rw [if_neg h] at this
            exact nomatch this
        obtain ⟨_, _, _, v4, v5, v6⟩ := HV.out h3
        have X4 : Aside0 (E.L[4]? = some x) := ⟨by rw [HEL.out]; exact v4⟩
        have V5 := Aside0.mk v5
        have V6 : Aside0 (E.L.length = 5) := ⟨by rw [HEL.out]; exact v6⟩
        have HR6 := Aside0.mk hR6
        have HF6 := Aside0.mk (HF5.out.trans hf6)
        clear hR6 hf6 hk6 h3 v4 v5 v6 kb4
        go_wp2_with fail
        refine (take_calls _ HR6.out x X4.out 6).mono ?_
        intro e w7 hp
        unfold TakePost at hp
        rw [if_pos V5.out] at hp
        obtain ⟨rfl, hR7, hf7, hk7⟩ := hp
        have HR7 : Aside0 (Rd E E.L.length [] od (fun _ => True) w7) := ⟨by rw [V6.out]; exact hR7⟩
        have HF7 := Aside0.mk (HF6.out.trans hf7)
        clear hR7 hf7 hk7
        go_wp2
        go_roundg 0
        case measure => omega
        case rel => exact .inr ⟨rfl, od, rfl, HR7, HF7⟩
    · subst hro
      obtain ⟨vo, g1, g2, g3⟩ := HRn.out.st
      obtain ⟨Ao, co, rfl, hco, _⟩ := Kd.S_reads g3
      rw [HEV.out] at g1
      have c0 : wr.cell? ⟨E.g, 0, none⟩ = some (.slice none 0 0) := by simp [World.cell?, g1, rdObj]
      have c1 : wr.cell? ⟨E.g, 1, none⟩ = some (.slice none 0 0) := by simp [World.cell?, g1, rdObj]
      have c2 : wr.cell? ⟨E.g, 2, none⟩ = some (.slice none 0 0) := by simp [World.cell?, g1, rdObj]
      have c3 : wr.cell? ⟨E.g, 3, none⟩ = some (.slice Ao od.length co) := by simp [World.cell?, g1, rdObj]
      have c4 : wr.cell? ⟨E.g, 4, none⟩ = some (.slice (some ⟨E.tb, offAt E.cp E.L.length, none⟩) 0 (E.cp - E.L.length)) := by simp [World.cell?, g1, rdObj]
      have qB : ∀ k, k < w2.heap.size → wr.heap[k]? = w3.heap[k]? := fun k hk => HFn.out.block k (by rw [HEB.out]; omega) (by rw [HEG.out]; omega)
      have xa := (qB _ (by omega)).trans XA3.out
      have xb := (qB _ (by omega)).trans XB3.out
      have xc := (qB _ (by omega)).trans XC3.out
      obtain ⟨a0, a1, a2, a3, _⟩ := box4 xa
      have yb := box1 xb
      have yc := box1 xc
      have za0 : wr.frozen? ⟨w.heap.size, 0, none⟩ = false := by simp [World.frozen?, xa]
      have za1 : wr.frozen? ⟨w.heap.size, 1, none⟩ = false := by simp [World.frozen?, xa]
      have za2 : wr.frozen? ⟨w.heap.size, 2, none⟩ = false := by simp [World.frozen?, xa]
      have za3 : wr.frozen? ⟨w.heap.size, 3, none⟩ = false := by simp [World.frozen?, xa]
      have zb : wr.frozen? ⟨w.heap.size + 1, 0, none⟩ = false := by simp [World.frozen?, xb]
      have zc : wr.frozen? ⟨w.heap.size + 1 + 1, 0, none⟩ = false := by simp [World.frozen?, xc]
      have XA := Aside0.mk xa
      have G3 := Aside0.mk g3
      have HBn := Aside0.mk (HB3.out.trans (HFn.out.below (B' := w.heap.size) (by rw [HEB.out]; omega) (by rw [HEG.out]; omega)))
      clear g1 g2 g3 qB xa xb xc
      go_wp2_with fail
      have e := HRR.out
      rw [e]
      have hEB := HEB.out
      obtain ⟨s1, s2, s3⟩ := set4 wr w.heap.size (.slice none 0 0) (.slice none 0 0) (.slice none 0 0) (.slice Ao od.length co) _ _ _ _ _ XA.out
      have q : ∀ k, E.B ≤ k → ((((((wr.setCell ⟨w.heap.size, 0, none⟩ (.slice none 0 0)).setCell ⟨w.heap.size, 1, none⟩ (.slice none 0 0)).setCell ⟨w.heap.size, 2, none⟩ (.slice none 0 0)).setCell ⟨w.heap.size, 3, none⟩ (.slice Ao od.length co)).setCell ⟨w.heap.size + 1, 0, none⟩ (.int .u16 0)).setCell ⟨w.heap.size + 1 + 1, 0, none⟩ (.int .i64 0)).heap[k]? = wr.heap[k]? := fun k hk =>
        (Below.heap_setCell _ _ _ _ (by show k ≠ w.heap.size + 1 + 1; omega)).trans ((Below.heap_setCell _ _ _ _ (by show k ≠ w.heap.size + 1; omega)).trans (s2 k (by omega)))
      refine leave_ok (w := w) _ _ _ w.heap.size (w.heap.size + 1) (w.heap.size + 1 + 1) [] od 0 0 (.slice none 0 0) (.slice Ao od.length co) ?_ (by go_simp) (by go_simp) (Kd.S_nil _ _ _ _ _) ?_ ?_
      · exact (Below.heap_setCell _ _ _ _ (by show w.heap.size ≠ w.heap.size + 1 + 1; omega)).trans ((Below.heap_setCell _ _ _ _ (by show w.heap.size ≠ w.heap.size + 1; omega)).trans s3)
      · exact Kd.S_mono (Kd.S_lower (Kd.S_step (Kd.S_bound G3.out) (fun k hk _ => q k hk.2.1)) (by omega)) (fun _ _ => trivial)
      · exact (((((HBn.out.setCell (p := ⟨w.heap.size, 0, none⟩) (Nat.le_refl _) _).setCell (p := ⟨w.heap.size, 1, none⟩) (Nat.le_refl _) _).setCell (p := ⟨w.heap.size, 2, none⟩) (Nat.le_refl _) _).setCell (p := ⟨w.heap.size, 3, none⟩) (Nat.le_refl _) _).setCell (p := ⟨w.heap.size + 1, 0, none⟩) (by show w.heap.size ≤ w.heap.size + 1; omega) _).setCell (p := ⟨w.heap.size + 1 + 1, 0, none⟩) (by show w.heap.size ≤ w.heap.size + 1 + 1; omega) _
end Go.Proofs.YtipmmkelialgkaaGreatDoor.Loc
