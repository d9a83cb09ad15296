/- (*locale.reader).put: an element is laid behind the others, with its place; what is there already, and too many, are wrong. -/
import Derived.Test.YtipmmkelialgkaaGreatDoorGLlg11
set_option linter.unusedVariables false
set_option linter.unusedSimpArgs false
namespace Go.Proofs.YtipmmkelialgkaaGreatDoor.Loc
open Go.RowKit Go.Lib Go.Proofs.YtipmmkelialgkaaGreatDoorW.PrintWords Go.Proofs.YtipmmkelialgkaaGreatDoorW.PrintLast Go.Proofs.YtipmmkelialgkaaGreatDoorW.PrintMore Go.Proofs.YtipmmkelialgkaaGreatDoor.Lex

theorem typesC (t : Nat) (h : t ≠ 50 ∧ t ≠ 54) : ∀ q, q ∈ 50 :: kC.E → q ≠ t := by
  intro x hx
  simp [kC, PLoc.k50, PLoc.k54, Kd.iso, Kd.pair, Kd.int, Kd.string, Kd.slice, Kd.scalar] at hx
  omega
theorem typesE (t : Nat) (h : t ≠ 39 ∧ t ≠ 40) : ∀ q, q ∈ 39 :: kE.E → q ≠ t := by
  intro x hx
  simp [kE, PLoc.k39, Kd.iso, Kd.pair, Kd.int, Kd.string, Kd.slice, Kd.scalar] at hx
  omega
/-- A store into a block that is newer than what the reader has. -/
theorem Rd.set_new {E : Env} {i : Nat} {cl : List Cls} {od : List Elm} {ok : Nat → Prop} {w w3 : World} (h : Rd E i cl od ok w) (hb : Below w.heap.size w w3) {b : Nat} (hn : w.heap.size ≤ b) (j : Nat) (u : Value) : Rd E i cl od ok (w3.setCell ⟨b, j, none⟩ u) := by
  obtain ⟨vo, h1, h2, h3⟩ := h.st
  have hg := h.gB
  have htB := h.tB
  have hmB := h.mB
  have hBs := h.Bs
  have q := fun k (hk : k < w.heap.size) => (Below.heap_setCell w3 ⟨b, j, none⟩ u k (by show k ≠ b; omega)).trans (hb.block k hk)
  have r := fun (k : Nat) (hk : True ∧ k < w.heap.size) => (show k ≠ b by omega)
  have r2 := fun (k : Nat) (hk : ok k ∧ k < w.heap.size) => (show k ≠ b by omega)
  exact { h with
    Bs := Nat.le_trans hBs (by simpa [World.setCell] using hb.size)
    tk := h.tk.move (q _ (by omega))
    mp := (q _ (by omega)).trans h.mp
    st := ⟨vo, (q _ (by omega)).trans h1, Kd.S_mono (Kd.S_far (p := ⟨b, j, none⟩) (Kd.S_old h2 hb) r u) (fun _ _ => trivial), Kd.S_mono (Kd.S_far (p := ⟨b, j, none⟩) (Kd.S_old h3 hb) r2 u) (fun _ hk => hk.1)⟩ }
/-- What an append to the order leaves, laid into the reader. -/
theorem Rd.put {E : Env} {i : Nat} {cl : List Cls} {od od' : List Elm} {ok : Nat → Prop} {W w1 : World} {v v1 : Value} (h : Rd E i cl od ok W) (h1 : W.heap[E.g]? = some (rdObj E i E.vc v)) (h2 : Kd.S kC 50 W E.B (fun _ => True) E.vc cl) (h3 : Kd.S kE 39 W E.B ok v od)
    (hS : Kd.S kE 39 w1 E.B (fun _ => True) v1 od') (hg1 : W.grownBy w1 v.ownBlock) (hsz : W.heap.size ≤ w1.heap.size) : Rd E i cl od' (fun _ => True) (w1.setCell ⟨E.g, 3, none⟩ v1) := by
  have hg := h.gB
  have htB := h.tB
  have hmB := h.mB
  have hBs := h.Bs
  have htg := h.tg
  have hmg := h.mg
  have hbase := Kd.S_base h3
  have ne : ∀ k, k < E.B → some k ≠ v.ownBlock := fun k hk e => by
    have := hbase k e.symm
    omega
  have q := fun k (hk : k < E.B) (hkg : k ≠ E.g) => (Below.heap_setCell w1 ⟨E.g, 3, none⟩ v1 k hkg).trans (hg1.block k (by omega) (ne k hk))
  have hgb := (hg1.block E.g (by omega) (ne _ hg)).trans h1
  exact {
    gB := hg
    Bs := by simpa [World.setCell] using Nat.le_trans hBs hsz
    tB := htB
    tg := htg
    mB := hmB
    mg := hmg
    iL := h.iL
    Lc := h.Lc
    sm := h.sm
    tk := h.tk.move (q _ htB htg)
    mp := (q _ hmB hmg).trans h.mp
    st := ⟨v1, by simp [World.setCell, Array.getElem?_modify, hgb, rdObj],
      Kd.S_set (Kd.S_over' h2 (Kd.S_typed h3) (typesC _ ⟨by decide, by decide⟩) hg1) hgb (typesC _ ⟨by decide, by decide⟩) _ _,
      Kd.S_set hS hgb (typesE _ ⟨by decide, by decide⟩) _ _⟩ }
theorem rdObj_inj {E : Env} {i : Nat} {vc vo vc' vo' : Value} (h : rdObj E i vc vo = rdObj E i vc' vo') : vc = vc' ∧ vo = vo' := by
  simp [rdObj] at h
  exact h
theorem infoElm : (Tryz.prog.info? 39).map (fun i => (i.zero, i.size, i.bytes)) = some (some (.agg #[.string ⟨#[]⟩, .slice none 0 0, .int .i64 0]), 3, 48) := by kernel_rfl

def PutPost (E : Env) (i : Nat) (cl : List Cls) (od : List Elm) (w : World) (x0 : ByteArray) (x1 : List Int) (p : Int) (en : Ending) (w' : World) : Prop :=
  (od.any (fun y => decide (y.f1 = x1)) = true ∧ en = .panicked [wrongW 32 p] ∧ Fr E.B E.g w w') ∨
  (od.any (fun y => decide (y.f1 = x1)) = false ∧ 500 ≤ od.length ∧ en = .panicked [wrongW 3 p] ∧ Fr E.B E.g w w') ∨
  (od.any (fun y => decide (y.f1 = x1)) = false ∧ ¬ 500 ≤ od.length ∧ en = .returned (.tuple #[]) ∧ Rd E i cl (od ++ [(⟨x0, x1, (od.length : Int)⟩ : Elm)]) (fun _ => True) w' ∧ Fr E.B E.g w w' ∧ Keep E w w')

set_option maxRecDepth 100000 in
set_option maxHeartbeats 4000000 in
theorem put_calls {E : Env} {i : Nat} {cl : List Cls} {od : List Elm} (x0 : ByteArray) (x1 : List Int) (s0 : Int) (A2 : Option Addr) (c2 : Nat) (t : Tok) (w : World) (h : Rd E i cl od (fun k => some k ≠ (Value.slice A2 x1.length c2).ownBlock) w) (hx : kI.R 40 w E.B (fun _ => True) (.slice A2 x1.length c2) x1) (hl : od.length ≤ 1000000) :
    Calls Tryz.prog 123 #[.pointer (some ⟨E.g, 0, none⟩), .agg #[.string x0, .slice A2 x1.length c2, .int .i64 s0], tokV t] w (PutPost E i cl od w x0 x1 t.f3) := by
  obtain ⟨vo, h1, h2, h3⟩ := h.st
  obtain ⟨Ao, co, rfl, hco, hC⟩ := Kd.S_reads h3
  obtain ⟨_, _, hx2⟩ := Kd.R_reads' hx
  have c3 : w.cell? ⟨E.g, 3, none⟩ = some (.slice Ao od.length co) := by simp [World.cell?, h1, rdObj]
  have z3 : w.frozen? ⟨E.g, 3, none⟩ = false := by simp [World.frozen?, h1, rdObj]
  have hgs : E.g < w.heap.size := Nat.lt_of_lt_of_le h.gB h.Bs
  have hBs := h.Bs
  have hl0 : (od.length : Int) ≤ 1000000 := by omega
  have HA : Aside0 (decide (0 ≤ idxI (fun y : Elm => decide (y.f1 = x1)) od) = od.any (fun y => decide (y.f1 = x1))) := ⟨idxI_any _ _⟩
  have hb0 : Below w.heap.size w ((w.alloc (.cells #[.string x0, .slice A2 x1.length c2, .int .i64 s0] 39)).alloc (.cells #[.int .u8 t.f0, .string t.f1, .int .i64 t.f2, .int .i64 t.f3] 63)).drew := (((Below.refl _ _).alloc (Nat.le_refl _) _).alloc (by simp) _).drew
  have HC := Aside0.mk (Kd.C_below hC hb0)
  have HX := Aside0.mk (Kd.C_below hx2 hb0)
  have HR := Aside0.mk h
  have H1 := Aside0.mk h1
  have H2 := Aside0.mk h2
  have H3 := Aside0.mk h3
  have HV := Aside0.mk hx
  have HB0 := Aside0.mk hb0
  clear h h1 h2 h3 hC hx2 hx hb0
  unfold tokV
  go_enter Tryz.func123, Tryz.ntmps123
  go_wp2
  refine start_ (n := 10) (S := fun w' => w'.cell? ⟨E.g, 3, none⟩ = some (.slice Ao od.length co) ∧ w'.cell? ⟨w.heap.size, 1, none⟩ = some (.slice A2 x1.length c2)) (ds := []) #[false, false, false, false, false, false, false, false, false, false] (by kernel_rfl) rfl rfl ⟨(by go_simp), (by go_simp)⟩ (fun hHeld => ?_)
  refine pure_ (i := 0) (N := some 7) (v := ?_) (a' := ?_) #[true, false, false, false, false, false, false, false, false, false] rfl rfl (by kernel_rfl) (fun _ _ _ h => h) (Or.inl ⟨by rfl, ?_⟩) ?_ ?_
  rotate_left
  · intro w'
    go_simp
    with_reducible rfl
  rotate_left
  · simp only [Act.put, List.setIfInBounds_toArray, List.set_cons_zero, List.set_cons_succ, i64_w, i32_w]
    rfl
  refine pure_ (i := 1) (N := some 8) (v := ?_) (a' := ?_) #[true, true, false, false, false, false, false, false, false, false] rfl rfl (by kernel_rfl) (fun _ _ _ h => h) (Or.inl ⟨by rfl, ?_⟩) ?_ ?_
  rotate_left
  · intro w'
    go_simp
    with_reducible rfl
  rotate_left
  · simp only [Act.put, List.setIfInBounds_toArray, List.set_cons_zero, List.set_cons_succ, i64_w, i32_w]
    rfl
  refine pure_ (i := 2) (N := some 9) (v := ?_) (a' := ?_) #[true, true, true, false, false, false, false, false, false, false] rfl rfl (by kernel_rfl) (fun _ _ _ h => h) (Or.inl ⟨by rfl, ?_⟩) ?_ ?_
  rotate_left
  · intro w'
    go_simp
    with_reducible rfl
  rotate_left
  · simp only [Act.put, List.setIfInBounds_toArray, List.set_cons_zero, List.set_cons_succ, i64_w, i32_w]
    rfl
  refine pure_ (i := 3) (N := some 10) (v := ?_) (a' := ?_) #[true, true, true, true, false, false, false, false, false, false] rfl rfl (by kernel_rfl) (fun _ _ _ h => h) (Or.inl ⟨by rfl, ?_⟩) ?_ ?_
  rotate_left
  · intro w'
    go_simp
    with_reducible rfl
  rotate_left
  · simp only [Act.put, List.setIfInBounds_toArray, List.set_cons_zero, List.set_cons_succ, i64_w, i32_w]
    rfl
  refine pure_ (i := 5) (N := some 12) (v := ?_) (a' := ?_) #[true, true, true, true, false, true, false, false, false, false] rfl rfl (by kernel_rfl) (fun _ _ _ h => h) (Or.inl ⟨by rfl, ?_⟩) ?_ ?_
  rotate_left
  · intro w'
    go_simp
    with_reducible rfl
  rotate_left
  · simp only [Act.put, List.setIfInBounds_toArray, List.set_cons_zero, List.set_cons_succ, i64_w, i32_w]
    rfl
  refine take_ (i := 4) (N := some 11) (v := ?_) (a' := ?_) #[true, true, true, true, true, true, false, false, false, false] rfl rfl (by kernel_rfl) (fun _ _ _ h => h) (Or.inl ⟨by rfl, ?_⟩) hHeld ?_ ?_
  rotate_left
  · rintro w' ⟨s0, s1⟩
    go_simp
    with_reducible rfl
  rotate_left
  · simp only [Act.put, List.setIfInBounds_toArray, List.set_cons_zero, List.set_cons_succ, i64_w, i32_w]
    rfl
  refine take_ (i := 6) (N := some 13) (v := ?_) (a' := ?_) #[true, true, true, true, true, true, true, false, false, false] rfl rfl (by kernel_rfl) (fun _ _ _ h => h) (Or.inl ⟨by rfl, ?_⟩) hHeld ?_ ?_
  rotate_left
  · rintro w' ⟨s0, s1⟩
    go_simp
    with_reducible rfl
  rotate_left
  · simp only [Act.put, List.setIfInBounds_toArray, List.set_cons_zero, List.set_cons_succ, i64_w, i32_w]
    rfl
  refine one_ (i := 7) (N := some 14) #[true, true, true, true, true, true, true, true, false, false] rfl rfl (by kernel_rfl) (by decide) (fun K hK => ?_)
  refine goes_ Tryz.func97 (by kernel_rfl) rfl #[.slice Ao od.length co, .slice A2 x1.length c2] (by rfl) rfl rfl (by simp only [List.map_toArray, List.map_cons, List.map_nil]; rfl) ?_
  with_reducible refine (place_calls (c := co) (c2 := c2) _ HC.out hl HX.out).mono ?_
  rintro e w3 ⟨rfl, hb2⟩
  refine ⟨_, rfl, ?_⟩
  have HB2 := Aside0.mk hb2
  have k1 : w3.cell? ⟨E.g, 3, none⟩ = some (.slice Ao od.length co) := (hb2.cell (p := ⟨E.g, 3, none⟩) (by simp; omega)).trans (by go_simp)
  have y1 : w3.frozen? ⟨E.g, 3, none⟩ = false := (World.frozen?_of_block (a := ⟨E.g, 3, none⟩) (hb2.block E.g (by simp; omega))).trans (by go_simp)
  have kb : w3.heap[w.heap.size]? = some (.cells #[.string x0, .slice A2 x1.length c2, .int .i64 s0] 39 (0, 0)) := (hb2.block _ (by simp; omega)).trans (blk_drew (blk_alloc (blk_new _ _) _))
  have kt : w3.heap[w.heap.size + 1]? = some (.cells #[.int .u8 t.f0, .string t.f1, .int .i64 t.f2, .int .i64 t.f3] 63 (0, 0)) := (hb2.block _ (by simp)).trans (blk_drew (by have := blk_new (w.alloc (.cells #[.string x0, .slice A2 x1.length c2, .int .i64 s0] 39)) (.cells #[.int .u8 t.f0, .string t.f1, .int .i64 t.f2, .int .i64 t.f3] 63); simpa using this))
  have b0 : w3.cell? ⟨w.heap.size, 0, none⟩ = some (.string x0) := by simp [World.cell?, kb]
  have b1 : w3.cell? ⟨w.heap.size, 1, none⟩ = some (.slice A2 x1.length c2) := by simp [World.cell?, kb]
  have b2 : w3.cell? ⟨w.heap.size, 2, none⟩ = some (.int .i64 s0) := by simp [World.cell?, kb]
  have b3 : w3.frozen? ⟨w.heap.size, 2, none⟩ = false := by simp [World.frozen?, kb]
  have t0 : w3.cell? ⟨w.heap.size + 1, 0, none⟩ = some (.int .u8 t.f0) := by simp [World.cell?, kt]
  have t1 : w3.cell? ⟨w.heap.size + 1, 1, none⟩ = some (.string t.f1) := by simp [World.cell?, kt]
  have t2 : w3.cell? ⟨w.heap.size + 1, 2, none⟩ = some (.int .i64 t.f2) := by simp [World.cell?, kt]
  have t3 : w3.cell? ⟨w.heap.size + 1, 3, none⟩ = some (.int .i64 t.f3) := by simp [World.cell?, kt]
  clear hb2 kb kt
  refine hK.out _ _ ⟨k1, b1⟩ (fun hHeld => ?_)
  clear hK K
  refine norm_ (a' := ?_) ?_ ?_
  rotate_left
  · show Act.put _ (some 14) _ = _
    simp only [Act.put, List.setIfInBounds_toArray, List.set_cons_zero, List.set_cons_succ, i64_w, i32_w]
    rfl
  refine pure_ (i := 8) (N := some 15) (v := ?_) (a' := ?_) #[true, true, true, true, true, true, true, true, true, false] rfl rfl (by kernel_rfl) (fun _ _ _ h => h) (Or.inl ⟨by rfl, ?_⟩) ?_ ?_
  rotate_left
  · intro w'
    go_simp
    with_reducible rfl
  rotate_left
  · simp only [Act.put, List.setIfInBounds_toArray, List.set_cons_zero, List.set_cons_succ, i64_w, i32_w]
    rfl
  refine pure_ (i := 9) (N := some 6) (v := ?_) (a' := ?_) #[true, true, true, true, true, true, true, true, true, true] rfl rfl (by kernel_rfl) (fun _ _ _ h => h) (Or.inl ⟨by rfl, ?_⟩) ?_ ?_
  rotate_left
  · intro w'
    go_simp
    with_reducible rfl
  rotate_left
  · simp only [Act.put, List.setIfInBounds_toArray, List.set_cons_zero, List.set_cons_succ, i64_w, i32_w]
    rfl
  refine done_ (by kernel_rfl) ?_
  have HBw := Aside0.mk (HB0.out.trans (HB2.out.mono HB0.out.size))
  cases ha : od.any (fun y => decide (y.f1 = x1)) with
  | true =>
    have hc : 0 ≤ idxI (fun y : Elm => decide (y.f1 = x1)) od := of_decide_eq_true (HA.out.trans ha)
    have HAA := Aside0.mk ha
    clear ha
    go_wp2_with (go_at_call 29; refine (fail_calls 32 t _).mono ?_; rintro e w5 ⟨rfl, hb5⟩; have HB5 := Aside0.mk hb5; clear hb5)
    exact ⟨rfl, .inl ⟨HAA.out, rfl, Fr.of_below ((HBw.out.trans (HB5.out.mono HBw.out.size)).mono hBs)⟩⟩
  | false =>
    have hc : idxI (fun y : Elm => decide (y.f1 = x1)) od < 0 := Int.not_le.1 (of_decide_eq_false (HA.out.trans ha))
    have HAA := Aside0.mk ha
    clear ha
    by_cases h5 : 500 ≤ od.length
    · have h5' : (500 : Int) ≤ od.length := by omega
      have H5 := Aside0.mk h5
      clear h5
      go_wp2_with (go_at_call 29; refine (fail_calls 3 t _).mono ?_; rintro e w5 ⟨rfl, hb5⟩; have HB5 := Aside0.mk hb5; clear hb5)
      exact ⟨rfl, .inr (.inl ⟨HAA.out, H5.out, rfl, Fr.of_below ((HBw.out.trans (HB5.out.mono HBw.out.size)).mono hBs)⟩)⟩
    · have h5' : (od.length : Int) < 500 := by omega
      have H5 := Aside0.mk h5
      clear h5
      have hR6 := (HR.out.set_new HBw.out (Nat.le_refl _) 2 (.int .i64 od.length)).drew
      obtain ⟨vo6, g1, g2, g3⟩ := hR6.st
      have q := fun k (hk : k < w.heap.size) => (Below.heap_setCell w3 ⟨w.heap.size, 2, none⟩ (.int .i64 od.length) k (by show k ≠ w.heap.size; omega)).trans (HBw.out.block k hk)
      have e6 := Option.some.inj (g1.symm.trans ((q E.g hgs).trans H1.out))
      obtain ⟨_, rfl⟩ := rdObj_inj e6
      have HR6 := Aside0.mk hR6
      have HG1 := Aside0.mk g1
      have HG2 := Aside0.mk g2
      have HG3 := Aside0.mk g3
      have HV6 := Aside0.mk (Kd.R_step (Kd.R_tight (d := kI) rfl HV.out) (fun k _ hk => q k hk))
      have HK6 : Aside0 (∀ k, some k = (Value.slice A2 x1.length c2).ownBlock → True ∧ some k ≠ (Value.slice Ao od.length co).ownBlock) := ⟨fun k hk => ⟨trivial, fun e => by
        obtain ⟨cs1, b1⟩ := Kd.S_typed H3.out k e.symm
        obtain ⟨cs2, b2⟩ := Kd.R_typed HV.out k hk.symm
        have := b1.symm.trans b2
        simp at this⟩⟩
      have HO6 := Aside0.mk (Kd.S_mono g3 (ok' := fun k => True ∧ ¬ some k = (Value.slice A2 x1.length c2).ownBlock) (fun k hk => ⟨trivial, hk⟩))
      have HB6 : Aside0 (Below E.B w (w3.setCell ⟨w.heap.size, 2, none⟩ (.int .i64 od.length)).drew) := ⟨((HBw.out.mono hBs).setCell (p := ⟨w.heap.size, 2, none⟩) hBs _).drew⟩
      have HBs6 : Aside0 (E.B ≤ (w3.setCell ⟨w.heap.size, 2, none⟩ (.int .i64 od.length)).drew.heap.size) := ⟨hR6.Bs⟩
      have HL6 : Aside0 ((od.length + 1) * 48 ≤ 140737488355328) := ⟨by omega⟩
      have hne : some E.g ≠ (Value.slice Ao od.length co).ownBlock := fun e => by
        have := Kd.S_base H3.out _ e.symm
        have := HR.out.gB
        omega
      have hne2 : some w.heap.size ≠ (Value.slice Ao od.length co).ownBlock := fun e => by
        have := Kd.S_lt H3.out _ e.symm
        omega
      have hws : w.heap.size < w3.heap.size := Nat.lt_of_lt_of_le (by simp; omega) HB2.out.size
      have hgw : E.g < w3.heap.size := by omega
      have HWS := Aside0.mk hws
      have HQ := Aside0.mk q
      have HS6 : Aside0 (∀ w1 : World, ((w3.setCell ⟨w.heap.size, 2, none⟩ (.int .i64 od.length)).drew).grownBy w1 (Value.slice Ao od.length co).ownBlock → (w1.cell? ⟨E.g, 3, none⟩ = some (.slice Ao od.length co) ∧ w1.cell? ⟨w.heap.size, 0, none⟩ = some (.string x0) ∧ w1.cell? ⟨w.heap.size, 1, none⟩ = some (.slice A2 x1.length c2) ∧ w1.cell? ⟨w.heap.size, 2, none⟩ = some (.int .i64 od.length) ∧ w1.frozen? ⟨E.g, 3, none⟩ = false)) := ⟨fun w1 hg => by
        refine ⟨hg.cell ?_ hne, hg.cell ?_ hne2, hg.cell ?_ hne2, hg.cell ?_ hne2, ?_⟩
        · go_simp
        · go_simp
        · go_simp
        · go_simp
        · exact (World.frozen?_of_block (a := ⟨E.g, 3, none⟩) (hg.block E.g (by simpa [World.setCell] using hgw) hne)).trans (by simp [World.frozen?, g1, rdObj])⟩
      clear hR6 g1 g2 g3 q e6 hne hne2
      go_wp2
      refine start_ (n := 13) (S := fun w' => w'.cell? ⟨E.g, 3, none⟩ = some (.slice Ao od.length co) ∧ w'.cell? ⟨w.heap.size, 0, none⟩ = some (.string x0) ∧ w'.cell? ⟨w.heap.size, 1, none⟩ = some (.slice A2 x1.length c2) ∧ w'.cell? ⟨w.heap.size, 2, none⟩ = some (.int .i64 od.length)) (ds := [12]) #[false, false, false, false, false, false, false, false, false, false, false, false, false] (by kernel_rfl) rfl rfl ⟨(by go_simp), (by go_simp), (by go_simp), (by go_simp)⟩ (fun hHeld => ?_)
      refine pure_ (i := 0) (N := some 35) (v := ?_) (a' := ?_) #[true, false, false, false, false, false, false, false, false, false, false, false, false] rfl rfl (by kernel_rfl) (fun _ _ _ h => h) (Or.inl ⟨by rfl, ?_⟩) ?_ ?_
      rotate_left
      · intro w'
        go_simp
        with_reducible rfl
      rotate_left
      · simp only [Act.put, List.setIfInBounds_toArray, List.set_cons_zero, List.set_cons_succ, i64_w, i32_w]
        rfl
      refine pure_ (i := 1) (N := some 36) (v := ?_) (a' := ?_) #[true, true, false, false, false, false, false, false, false, false, false, false, false] rfl rfl (by kernel_rfl) (fun _ _ _ h => h) (Or.inl ⟨by rfl, ?_⟩) ?_ ?_
      rotate_left
      · intro w'
        go_simp
        with_reducible rfl
      rotate_left
      · simp only [Act.put, List.setIfInBounds_toArray, List.set_cons_zero, List.set_cons_succ, i64_w, i32_w]
        rfl
      refine pure_ (i := 2) (N := some 37) (v := ?_) (a' := ?_) #[true, true, true, false, false, false, false, false, false, false, false, false, false] rfl rfl (by kernel_rfl) (fun _ _ _ h => h) (Or.inl ⟨by rfl, ?_⟩) ?_ ?_
      rotate_left
      · intro w'
        go_simp
        with_reducible rfl
      rotate_left
      · simp only [Act.put, List.setIfInBounds_toArray, List.set_cons_zero, List.set_cons_succ, i64_w, i32_w]
        rfl
      refine pure_ (i := 3) (N := some 38) (v := ?_) (a' := ?_) #[true, true, true, true, false, false, false, false, false, false, false, false, false] rfl rfl (by kernel_rfl) (fun _ _ _ h => h) (Or.inl ⟨by rfl, ?_⟩) ?_ ?_
      rotate_left
      · intro w'
        go_simp
        with_reducible rfl
      rotate_left
      · simp only [Act.put, List.setIfInBounds_toArray, List.set_cons_zero, List.set_cons_succ, i64_w, i32_w]
        rfl
      refine pure_ (i := 4) (N := some 39) (v := ?_) (a' := ?_) #[true, true, true, true, true, false, false, false, false, false, false, false, false] rfl rfl (by kernel_rfl) (fun _ _ _ h => h) (Or.inl ⟨by rfl, ?_⟩) ?_ ?_
      rotate_left
      · intro w'
        go_simp
        with_reducible rfl
      rotate_left
      · simp only [Act.put, List.setIfInBounds_toArray, List.set_cons_zero, List.set_cons_succ, i64_w, i32_w]
        rfl
      refine take_ (i := 5) (N := some 40) (v := ?_) (a' := ?_) #[true, true, true, true, true, true, false, false, false, false, false, false, false] rfl rfl (by kernel_rfl) (fun _ _ _ h => h) (Or.inl ⟨by rfl, ?_⟩) hHeld ?_ ?_
      rotate_left
      · rintro w' ⟨s0, s1, s2, s3⟩
        go_simp
        with_reducible rfl
      rotate_left
      · simp only [Act.put, List.setIfInBounds_toArray, List.set_cons_zero, List.set_cons_succ, i64_w, i32_w]
        rfl
      refine take_ (i := 6) (N := some 41) (v := ?_) (a' := ?_) #[true, true, true, true, true, true, true, false, false, false, false, false, false] rfl rfl (by kernel_rfl) (fun _ _ _ h => h) (Or.inl ⟨by rfl, ?_⟩) hHeld ?_ ?_
      rotate_left
      · rintro w' ⟨s0, s1, s2, s3⟩
        go_simp
        with_reducible rfl
      rotate_left
      · simp only [Act.put, List.setIfInBounds_toArray, List.set_cons_zero, List.set_cons_succ, i64_w, i32_w]
        rfl
      refine one_ (i := 7) (N := some 42) #[true, true, true, true, true, true, true, true, false, false, false, false, false] rfl rfl (by kernel_rfl) (by decide) (fun K hK => ?_)
      refine value_ (w1 := ?_) (v := ?_) (by rfl) rfl ?_ ?_
      rotate_left 2
      · go_simp
        constructor
        · rfl
        · rfl
      refine hK.out _ _ ⟨(by go_simp), (by go_simp), (by go_simp), (by go_simp)⟩ (fun hHeld => ?_)
      clear hK K
      refine norm_ (a' := ?_) ?_ ?_
      rotate_left
      · show Act.put _ (some 42) _ = _
        simp only [Act.put, List.setIfInBounds_toArray, List.set_cons_zero, List.set_cons_succ, i64_w, i32_w]
        rfl
      refine one_ (i := 8) (N := some 43) #[true, true, true, true, true, true, true, true, true, false, false, false, false] rfl rfl (by kernel_rfl) (by decide) (fun K hK => ?_)
      refine Kd.S_append_step kE (w0 := w) (W := (w3.setCell ⟨w.heap.size, 2, none⟩ (.int .i64 od.length)).drew) E.B rfl (.tmp 40) (.tmp 42) 30 39 _ 48 rfl Tryz.underlying30 infoElm rfl (by decide) (by decide) (.slice Ao od.length co) od (⟨x0, x1, (od.length : Int)⟩ : Elm) _ (fun _ => True) (fun k => some k = (Value.slice A2 x1.length c2).ownBlock) (by rfl) (by simp [Act.eval, World.drew, World.setCell]) (PLoc.k39_mkM _ _ _ (⟨x0, x1, (od.length : Int)⟩ : Elm) HV6.out) HK6.out (fun _ _ => trivial) HO6.out HB6.out HBs6.out HL6.out ?_
      intro v1 w4 hS4 hB4 hg4 _
      obtain ⟨i0, i1, i2, i3, z4⟩ := HS6.out _ hg4
      obtain ⟨A4, c4, rfl, hc4, _⟩ := Kd.S_reads hS4
      have HS4 := Aside0.mk hS4
      have HG4 := Aside0.mk hg4
      have HB4 := Aside0.mk hB4
      clear hS4 hB4 hg4 HS6
      refine hK.out _ _ ⟨i0, i1, i2, i3⟩ (fun hHeld => ?_)
      clear hK K
      refine norm_ (a' := ?_) ?_ ?_
      rotate_left
      · show Act.put _ (some 43) _ = _
        simp only [Act.put, List.setIfInBounds_toArray, List.set_cons_zero, List.set_cons_succ, i64_w, i32_w]
        rfl
      refine pure_ (i := 9) (N := some 44) (v := ?_) (a' := ?_) #[true, true, true, true, true, true, true, true, true, true, false, false, false] rfl rfl (by kernel_rfl) (fun _ _ _ h => h) (Or.inl ⟨by rfl, ?_⟩) ?_ ?_
      rotate_left
      · intro w'
        go_simp
        with_reducible rfl
      rotate_left
      · simp only [Act.put, List.setIfInBounds_toArray, List.set_cons_zero, List.set_cons_succ, i64_w, i32_w]
        rfl
      refine pure_ (i := 10) (N := some 45) (v := ?_) (a' := ?_) #[true, true, true, true, true, true, true, true, true, true, true, false, false] rfl rfl (by kernel_rfl) (fun _ _ _ h => h) (Or.inl ⟨by rfl, ?_⟩) ?_ ?_
      rotate_left
      · intro w'
        go_simp
        with_reducible rfl
      rotate_left
      · simp only [Act.put, List.setIfInBounds_toArray, List.set_cons_zero, List.set_cons_succ, i64_w, i32_w]
        rfl
      refine pure_ (i := 11) (N := some 46) (v := ?_) (a' := ?_) #[true, true, true, true, true, true, true, true, true, true, true, true, false] rfl rfl (by kernel_rfl) (fun _ _ _ h => h) (Or.inl ⟨by rfl, ?_⟩) ?_ ?_
      rotate_left
      · intro w'
        go_simp
        with_reducible rfl
      rotate_left
      · simp only [Act.put, List.setIfInBounds_toArray, List.set_cons_zero, List.set_cons_succ, i64_w, i32_w]
        rfl
      refine last_ (i := 12) (N := none) #[true, true, true, true, true, true, true, true, true, true, true, true, true] rfl rfl (by kernel_rfl) (by decide) (fun K hK => ?_)
      refine skip_ (w1 := ?_) (by rfl) rfl ?_ ?_
      rotate_left
      · go_simp
        rfl
      refine hK.out _ _ ?_
      clear hK K
      refine done_ (by kernel_rfl) ?_
      go_wp2
      refine ⟨rfl, .tuple #[], by simp [results, Tryz.results123], .inr (.inr ⟨HAA.out, H5.out, rfl, HR6.out.put HG1.out HG2.out HG3.out (by have h := HS4.out; rw [List.length_append, List.length_singleton] at h; exact h) HG4.out HG4.out.size, (Fr.of_below HB4.out).trans (Fr.set _ _ _), ?_⟩)⟩
      refine Keep.trans ⟨Nat.le_trans (Nat.le_of_lt HWS.out) (by simpa [World.setCell] using HG4.out.size), fun k hk hg hc => ?_⟩ (Keep.set _ _ _)
      refine (HG4.out.block k (by simpa [World.setCell] using Nat.lt_trans hk HWS.out) (fun e => ?_)).trans (HQ.out k hk)
      obtain ⟨cs, hcs⟩ := Kd.S_typed H3.out k e.symm
      exact hc cs hcs
end Go.Proofs.YtipmmkelialgkaaGreatDoor.Loc
