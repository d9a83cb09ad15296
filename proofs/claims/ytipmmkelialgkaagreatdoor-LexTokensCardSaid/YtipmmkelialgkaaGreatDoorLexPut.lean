/- What (*lex.reader).put does: the token is laid behind the others, with the reader's place; the place goes on. -/
import Derived.Test.YtipmmkelialgkaaGreatDoorLexBase
set_option linter.unusedVariables false
set_option linter.unusedSimpArgs false
namespace Go.Proofs.YtipmmkelialgkaaGreatDoor.Lex
open Go.RowKit Go.Proofs.YtipmmkelialgkaaGreatDoorW.PrintWords Go.Proofs.YtipmmkelialgkaaGreatDoorW.PrintLast Go.Proofs.YtipmmkelialgkaaGreatDoorW.PrintMore Go.Proofs.YtipmmkelialgkaaGreatDoor.PLex

theorem put_end {B g : Nat} {s : ByteArray} {p q : Int} {l' : List Tok} {w w1 : World} {A A1 : Option Addr} {n c c1 n1 : Nat} (hg : g < B) (hB : B ≤ w1.heap.size) (hb : w1.heap[g]? = w.heap[g]?)
    (hh : w.heap[g]? = some (.cells #[.string s, .int .i64 p, .slice A n c] 103 (0, 0))) (hR : kT.R 63 w1 B (fun _ => True) (.slice A1 l'.length c1) l') (hc : l'.length ≤ c1) (hn : n1 = l'.length) :
    Rd B g s q l' ((w1.setCell ⟨g, 2, none⟩ (.slice A1 n1 c1)).setCell ⟨g, 1, none⟩ (.int .i64 q)) := by
  subst hn
  have h0 := hb.trans hh
  have h1 : (w1.setCell ⟨g, 2, none⟩ (.slice A1 l'.length c1)).heap[g]? = some (.cells #[.string s, .int .i64 p, .slice A1 l'.length c1] 103 (0, 0)) := by
    simp [World.setCell, Array.getElem?_modify, h0]
  have h2 := Kd.R_set hR h0 typesTR 2 (.slice A1 l'.length c1)
  exact Rd.set_at ⟨hg, by simpa [World.setCell] using hB, A1, c1, hc, h1, h2⟩ q

set_option maxRecDepth 100000 in
set_option maxHeartbeats 1600000 in
theorem put_calls {B g : Nat} {s : ByteArray} {p : Int} {l : List Tok} (t0 : Int) (t1 : ByteArray) (t2 t3 n : Int) (w : World) (hR : Rd B g s p l w) (hp : 0 ≤ p ∧ p ≤ 1000000) (hn : 0 ≤ n ∧ n ≤ 1000000) (hl : l.length ≤ 1000000) :
    Calls Tryz.prog 59 #[.pointer (some ⟨g, 0, none⟩), .agg #[.int .u8 t0, .string t1, .int .i64 t2, .int .i64 t3], .int .i64 n] w fun e w' =>
      e = .returned (.bool true) ∧ Rd B g s (p + n) (l ++ [(⟨t0, t1, t2, p⟩ : Tok)]) w' ∧ Fr B g w w' := by
  obtain ⟨hp0, hp1⟩ := hp
  obtain ⟨hn0, hn1⟩ := hn
  obtain ⟨c0, c1, z0, z1, z2, A, c, hc, c2, hK, _⟩ := hR.cells
  obtain ⟨hg, hB, A', c', _, hh, _⟩ := hR
  have hgs : g < w.heap.size := by omega
  have hu := Tryz.underlying63
  have HK := Aside0.mk hK
  have HH := Aside0.mk hh
  clear hK hh
  have HR : Aside0 (kT.R 63 ((w.alloc (.cells #[.int .u8 t0, .string t1, .int .i64 t2, .int .i64 p] 63)).drew) B (fun _ => True) (.slice A l.length c) l) := ⟨Kd.R_below HK.out (((Below.refl _ _).alloc (Nat.le_refl _) _).drew)⟩
  have HB : Aside0 (Below B w ((w.alloc (.cells #[.int .u8 t0, .string t1, .int .i64 t2, .int .i64 p] 63)).drew)) := ⟨((Below.refl _ _).alloc hB _).drew⟩
  have HBs : Aside0 (B ≤ ((w.alloc (.cells #[.int .u8 t0, .string t1, .int .i64 t2, .int .i64 p] 63)).drew).heap.size) := ⟨by simp; omega⟩
  have HL : Aside0 ((l.length + 1) * 40 ≤ 140737488355328) := ⟨by omega⟩
  have hne : some g ≠ (Value.slice A l.length c).ownBlock := Kd.R_ne HK.out HH.out (by decide)
  have hne2 : some w.heap.size ≠ (Value.slice A l.length c).ownBlock := fun e => by
    obtain ⟨_, ho⟩ := Kd.R_own HK.out
    have := own_lt ho _ e.symm
    omega
  have HS : Aside0 (∀ w1 : World, ((w.alloc (.cells #[.int .u8 t0, .string t1, .int .i64 t2, .int .i64 p] 63)).drew).grownBy w1 (Value.slice A l.length c).ownBlock → (w1.cell? ⟨g, 2, none⟩ = some (.slice A l.length c) ∧ w1.cell? ⟨w.heap.size, 0, none⟩ = some (.int .u8 t0) ∧ w1.cell? ⟨w.heap.size, 1, none⟩ = some (.string t1) ∧ w1.cell? ⟨w.heap.size, 2, none⟩ = some (.int .i64 t2) ∧ w1.cell? ⟨w.heap.size, 3, none⟩ = some (.int .i64 p))) := ⟨fun w1 h => by
    refine ⟨h.cell ?_ hne, h.cell ?_ hne2, h.cell ?_ hne2, h.cell ?_ hne2, h.cell ?_ hne2⟩ <;> go_simp⟩
  have HT : Aside0 (∀ w1 : World, ((w.alloc (.cells #[.int .u8 t0, .string t1, .int .i64 t2, .int .i64 p] 63)).drew).grownBy w1 (Value.slice A l.length c).ownBlock → w1.cell? ⟨g, 1, none⟩ = some (.int .i64 p) ∧ w1.frozen? ⟨g, 1, none⟩ = false ∧ w1.frozen? ⟨g, 2, none⟩ = false ∧ w1.heap[g]? = w.heap[g]?) := ⟨fun w1 h => by
    have hb : w1.heap[g]? = w.heap[g]? := (h.block g (by simp; omega) hne).trans (Below.heap_alloc w _ g hgs)
    exact ⟨(World.cell?_of_block (w := w) (a := ⟨g, 1, none⟩) hb).trans c1, (World.frozen?_of_block (w := w) (a := ⟨g, 1, none⟩) hb).trans z1, (World.frozen?_of_block (w := w) (a := ⟨g, 2, none⟩) hb).trans z2, hb⟩⟩
  clear hne hne2
  go_enter Tryz.func59, Tryz.ntmps59
  go_wp2
  refine start_ (n := 11) (S := fun w' => w'.cell? ⟨g, 2, none⟩ = some (.slice A l.length c) ∧ w'.cell? ⟨w.heap.size, 0, none⟩ = some (.int .u8 t0) ∧ w'.cell? ⟨w.heap.size, 1, none⟩ = some (.string t1) ∧ w'.cell? ⟨w.heap.size, 2, none⟩ = some (.int .i64 t2) ∧ w'.cell? ⟨w.heap.size, 3, none⟩ = some (.int .i64 p)) (ds := [10]) #[false, false, false, false, false, false, false, false, false, false, false] (by kernel_rfl) rfl rfl ⟨(by go_simp), (by go_simp), (by go_simp), (by go_simp), (by go_simp)⟩ (fun hHeld => ?_)
  refine pure_ (i := 0) (N := some 12) (v := ?_) (a' := ?_) #[true, false, false, false, false, false, false, false, false, false, false] rfl rfl (by kernel_rfl) (fun _ _ _ h => h) (Or.inl ⟨by rfl, ?_⟩) ?_ ?_
  rotate_left
  · intro w'
    go_simp
    with_reducible rfl
  rotate_left
  · simp only [Act.put, List.setIfInBounds_toArray, List.set_cons_zero, List.set_cons_succ, i64_w, i32_w]
    rfl
  refine pure_ (i := 1) (N := some 13) (v := ?_) (a' := ?_) #[true, true, false, false, false, false, false, false, false, false, false] rfl rfl (by kernel_rfl) (fun _ _ _ h => h) (Or.inl ⟨by rfl, ?_⟩) ?_ ?_
  rotate_left
  · intro w'
    go_simp
    with_reducible rfl
  rotate_left
  · simp only [Act.put, List.setIfInBounds_toArray, List.set_cons_zero, List.set_cons_succ, i64_w, i32_w]
    rfl
  refine pure_ (i := 2) (N := some 14) (v := ?_) (a' := ?_) #[true, true, true, false, false, false, false, false, false, false, false] rfl rfl (by kernel_rfl) (fun _ _ _ h => h) (Or.inl ⟨by rfl, ?_⟩) ?_ ?_
  rotate_left
  · intro w'
    go_simp
    with_reducible rfl
  rotate_left
  · simp only [Act.put, List.setIfInBounds_toArray, List.set_cons_zero, List.set_cons_succ, i64_w, i32_w]
    rfl
  refine pure_ (i := 3) (N := some 15) (v := ?_) (a' := ?_) #[true, true, true, true, false, false, false, false, false, false, false] rfl rfl (by kernel_rfl) (fun _ _ _ h => h) (Or.inl ⟨by rfl, ?_⟩) ?_ ?_
  rotate_left
  · intro w'
    go_simp
    with_reducible rfl
  rotate_left
  · simp only [Act.put, List.setIfInBounds_toArray, List.set_cons_zero, List.set_cons_succ, i64_w, i32_w]
    rfl
  refine take_ (i := 4) (N := some 16) (v := ?_) (a' := ?_) #[true, true, true, true, true, false, false, false, false, false, false] rfl rfl (by kernel_rfl) (fun _ _ _ h => h) (Or.inl ⟨by rfl, ?_⟩) hHeld ?_ ?_
  rotate_left
  · rintro w' ⟨s0, s1, s2, s3, s4⟩
    go_simp
    with_reducible rfl
  rotate_left
  · simp only [Act.put, List.setIfInBounds_toArray, List.set_cons_zero, List.set_cons_succ, i64_w, i32_w]
    rfl
  refine take_ (i := 5) (N := some 17) (v := ?_) (a' := ?_) #[true, true, true, true, true, true, false, false, false, false, false] rfl rfl (by kernel_rfl) (fun _ _ _ h => h) (Or.inl ⟨by rfl, ?_⟩) hHeld ?_ ?_
  rotate_left
  · rintro w' ⟨s0, s1, s2, s3, s4⟩
    go_simp
    with_reducible rfl
  rotate_left
  · simp only [Act.put, List.setIfInBounds_toArray, List.set_cons_zero, List.set_cons_succ, i64_w, i32_w]
    rfl
  refine one_ (i := 6) (N := some 18) #[true, true, true, true, true, true, true, false, false, false, false] rfl rfl (by kernel_rfl) (by decide) (fun K hK => ?_)
  refine value_ (w1 := ?_) (v := ?_) (by rfl) rfl ?_ ?_
  rotate_left 2
  · go_simp
    constructor
    · rfl
    · rfl
  refine hK.out _ _ ⟨(by go_simp), (by go_simp), (by go_simp), (by go_simp), (by go_simp)⟩ (fun hHeld => ?_)
  clear hK K
  refine norm_ (a' := ?_) ?_ ?_
  rotate_left
  · show Act.put _ (some 18) _ = _
    simp only [Act.put, List.setIfInBounds_toArray, List.set_cons_zero, List.set_cons_succ, i64_w, i32_w]
    rfl
  refine one_ (i := 7) (N := some 19) #[true, true, true, true, true, true, true, true, false, false, false] rfl rfl (by kernel_rfl) (by decide) (fun K hK => ?_)
  refine Kd.R_append_step kT (w0 := w) (W := (w.alloc (.cells #[.int .u8 t0, .string t1, .int .i64 t2, .int .i64 p] 63)).drew) B rfl (.tmp 16) (.tmp 18) 59 63 _ 40 rfl Tryz.underlying59 infoTok rfl (by decide) (by decide) (.slice A l.length c) l (⟨t0, t1, t2, p⟩ : Tok) _ (fun _ => True) (fun _ => False) (by rfl) (by simp [Act.eval, World.drew]) (k63_mkM _ _ _ _) (fun _ h => h.elim) (fun _ _ => trivial) HR.out HB.out HBs.out HL.out ?_
  intro v1 w1 hR1 hB1 hg1 _
  obtain ⟨i0, i1, i2, i3, i4⟩ := HS.out _ hg1
  obtain ⟨q1, y1, y2, hb⟩ := HT.out _ hg1
  obtain ⟨A1, c3, rfl, hc3, _⟩ := Kd.R_reads hR1
  have HB2 := Aside0.mk hb
  have HR2 := Aside0.mk hR1
  have HG2 := Aside0.mk hB1
  clear hb hR1 hB1 hg1 HS HT
  refine hK.out _ _ ⟨i0, i1, i2, i3, i4⟩ (fun hHeld => ?_)
  clear hK K
  refine norm_ (a' := ?_) ?_ ?_
  rotate_left
  · show Act.put _ (some 19) _ = _
    simp only [Act.put, List.setIfInBounds_toArray, List.set_cons_zero, List.set_cons_succ, i64_w, i32_w]
    rfl
  refine pure_ (i := 8) (N := some 20) (v := ?_) (a' := ?_) #[true, true, true, true, true, true, true, true, true, false, false] rfl rfl (by kernel_rfl) (fun _ _ _ h => h) (Or.inl ⟨by rfl, ?_⟩) ?_ ?_
  rotate_left
  · intro w'
    go_simp
    with_reducible rfl
  rotate_left
  · simp only [Act.put, List.setIfInBounds_toArray, List.set_cons_zero, List.set_cons_succ, i64_w, i32_w]
    rfl
  refine pure_ (i := 9) (N := some 21) (v := ?_) (a' := ?_) #[true, true, true, true, true, true, true, true, true, true, false] rfl rfl (by kernel_rfl) (fun _ _ _ h => h) (Or.inl ⟨by rfl, ?_⟩) ?_ ?_
  rotate_left
  · intro w'
    go_simp
    with_reducible rfl
  rotate_left
  · simp only [Act.put, List.setIfInBounds_toArray, List.set_cons_zero, List.set_cons_succ, i64_w, i32_w]
    rfl
  refine last_ (i := 10) (N := none) #[true, true, true, true, true, true, true, true, true, true, true] rfl rfl (by kernel_rfl) (by decide) (fun K hK => ?_)
  refine skip_ (w1 := ?_) (by rfl) rfl ?_ ?_
  rotate_left
  · go_simp
    rfl
  refine hK.out _ _ ?_
  clear hK K
  refine done_ (by kernel_rfl) ?_
  go_wp2
  go_ret
  refine ⟨rfl, put_end hg (Nat.le_trans hB ?_) HB2.out HH.out HR2.out hc3 (by simp), ?_⟩
  · exact HG2.out.size
  · exact ((Fr.of_below HG2.out).trans (Fr.set _ _ _)).trans (Fr.set _ _ _)
end Go.Proofs.YtipmmkelialgkaaGreatDoor.Lex
