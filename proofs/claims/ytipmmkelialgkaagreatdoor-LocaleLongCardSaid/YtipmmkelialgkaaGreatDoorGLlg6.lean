/- How many bytes of a word begin a text: lex.word, and its closure. · What (*lex.reader).put does: the token is laid behind the others, with the reader's place; the place goes on. · (*lex.reader).blank, .end, .sign, .word: the lexer's steps, each as its plain word tells. -/
import Derived.Test.YtipmmkelialgkaaGreatDoorGLlg5
import Derived.Test.YtipmmkelialgkaaGreatDoorGLlg2
import Derived.Test.YtipmmkelialgkaaGreatDoorGLlg4
import Derived.Test.YtipmmkelialgkaaGreatDoorGLlg3
set_option linter.unusedVariables false
set_option linter.unusedSimpArgs false
namespace Go.Proofs.YtipmmkelialgkaaGreatDoor.Lex
open Go.RowKit Go.Lib Go.Proofs.YtipmmkelialgkaaGreatDoorW.PrintWords Go.Proofs.YtipmmkelialgkaaGreatDoorW.PrintLast Go.Proofs.YtipmmkelialgkaaGreatDoorW.PrintMore Go.Proofs.YtipmmkelialgkaaGreatDoor.PLex

set_option maxRecDepth 100000 in
set_option maxHeartbeats 1000000 in
theorem word1_calls (x : Nat) (W : World) :
    Calls Tryz.prog 147 #[.int .i32 x] W fun e w' => e = .returned (.bool (!wordN x)) ∧ w' = W := by
  have hx0 : (0 : Int) ≤ x := Int.natCast_nonneg _
  go_enter Tryz.func147, Tryz.ntmps147
  go_wp2
  all_goals
    go_ret
    exact ⟨congrArg (fun b => Ending.returned (.bool b)) (by first | (simp [wordN]; omega) | (rw [Bool.eq_iff_iff]; simp [wordN]; omega)), rfl⟩

theorem word1_pred (w : World) : PredAtRunes Tryz.prog 147 #[] (fun x => !wordN x) w :=
  fun W x _ _ => (word1_calls x W).mono fun e w' ⟨he, hw⟩ => ⟨he, 0, hw⟩

set_option maxRecDepth 100000 in
theorem word_calls (s : ByteArray) (w : World) (hs : s.size ≤ 1000000) :
    Calls Tryz.prog 101 #[.string s] w fun e w' => e = .returned (.int .i64 (wlen s.data.toList)) ∧ Below w.heap.size w w' := by
  have hle := wlen_le s.data.toList
  rw [Array.length_toList] at hle
  have hle' : wlen s.data.toList ≤ s.size := hle
  have hi := idxFunc_word s
  clear hle
  by_cases h : wlen s.data.toList < s.size
  · rw [if_pos h] at hi
    have H := Aside0.mk hi
    clear hi
    generalize wlen s.data.toList = n at *
    have hn : (0 : Int) ≤ n := Int.natCast_nonneg _
    go_enter Tryz.func101, Tryz.ntmps101
    go_wp2_with (go_at_call 146; refine (Tryz.strings_IndexFunc_runes 147 #[] (enters_of Tryz.func147 (by kernel_rfl) rfl) _ s w (word1_pred w)).mono ?_; rintro e w' ⟨rfl, hb⟩; rw [H.out])
    go_ret
    exact ⟨rfl, by assumption⟩
  · rw [if_neg h] at hi
    have H := Aside0.mk hi
    clear hi
    have he : wlen s.data.toList = s.size := by omega
    rw [he]
    go_enter Tryz.func101, Tryz.ntmps101
    go_wp2_with (go_at_call 146; refine (Tryz.strings_IndexFunc_runes 147 #[] (enters_of Tryz.func147 (by kernel_rfl) rfl) _ s w (word1_pred w)).mono ?_; rintro e w' ⟨rfl, hb⟩; rw [H.out])
    go_ret
    exact ⟨rfl, by assumption⟩
end Go.Proofs.YtipmmkelialgkaaGreatDoor.Lex
set_option linter.unusedVariables false
set_option linter.unusedSimpArgs false
namespace Go.Proofs.YtipmmkelialgkaaGreatDoor.Lex
open Go.RowKit Go.Proofs.YtipmmkelialgkaaGreatDoorW.PrintWords Go.Proofs.YtipmmkelialgkaaGreatDoorW.PrintLast Go.Proofs.YtipmmkelialgkaaGreatDoorW.PrintMore Go.Proofs.YtipmmkelialgkaaGreatDoor.PLex

theorem put_end {B g : Nat} {s : ByteArray} {p q : Int} {l' : List Tok} {w w1 : World} {A A1 : Option Addr} {n c c1 n1 : Nat} (hg : g < B) (hB : B ≤ w1.heap.size) (hb : w1.heap[g]? = w.heap[g]?)
    (hh : w.heap[g]? = some (.cells #[.string s, .int .i64 p, .slice A n c] 103 (0, 0))) (hR : kT.R 63 w1 B (fun _ => True) (.slice A1 l'.length c1) l') (hc : l'.length ≤ c1) (hn : n1 = l'.length) :
    Rd B g s q l' ((w1.setCell ⟨g, 2, none⟩ (.slice A1 n1 c1)).setCell ⟨g, 1, none⟩ (.int .i64 q)) := by
  subst hn
  have h0 := hb.trans hh
  have h1 : (w1.setCell ⟨g, 2, none⟩ (.slice A1 l'.length c1)).heap[g]? = some (.cells #[.string s, .int .i64 p, .slice A1 l'.length c1] 103 (0, 0)) := by
    simp [World.setCell, Array.getElem?_modify, h0]
  have h2 := Kd.R_set hR h0 typesTR 2 (.slice A1 l'.length c1)
  exact Rd.set_at ⟨hg, by simpa [World.setCell] using hB, A1, c1, hc, h1, h2⟩ q

set_option maxRecDepth 100000 in
set_option maxHeartbeats 1600000 in
theorem put_calls {B g : Nat} {s : ByteArray} {p : Int} {l : List Tok} (t0 : Int) (t1 : ByteArray) (t2 t3 n : Int) (w : World) (hR : Rd B g s p l w) (hp : 0 ≤ p ∧ p ≤ 1000000) (hn : 0 ≤ n ∧ n ≤ 1000000) (hl : l.length ≤ 1000000) :
    Calls Tryz.prog 59 #[.pointer (some ⟨g, 0, none⟩), .agg #[.int .u8 t0, .string t1, .int .i64 t2, .int .i64 t3], .int .i64 n] w fun e w' =>
      e = .returned (.bool true) ∧ Rd B g s (p + n) (l ++ [(⟨t0, t1, t2, p⟩ : Tok)]) w' ∧ Fr B g w w' := by
  obtain ⟨hp0, hp1⟩ := hp
  obtain ⟨hn0, hn1⟩ := hn
  obtain ⟨c0, c1, z0, z1, z2, A, c, hc, c2, hK, _⟩ := hR.cells
  obtain ⟨hg, hB, A', c', _, hh, _⟩ := hR
  have hgs : g < w.heap.size := by omega
  have hu := Tryz.underlying63
  have HK := Aside0.mk hK
  have HH := Aside0.mk hh
  clear hK hh
  have HR : Aside0 (kT.R 63 ((w.alloc (.cells #[.int .u8 t0, .string t1, .int .i64 t2, .int .i64 p] 63)).drew) B (fun _ => True) (.slice A l.length c) l) := ⟨Kd.R_below HK.out (((Below.refl _ _).alloc (Nat.le_refl _) _).drew)⟩
  have HB : Aside0 (Below B w ((w.alloc (.cells #[.int .u8 t0, .string t1, .int .i64 t2, .int .i64 p] 63)).drew)) := ⟨((Below.refl _ _).alloc hB _).drew⟩
  have HBs : Aside0 (B ≤ ((w.alloc (.cells #[.int .u8 t0, .string t1, .int .i64 t2, .int .i64 p] 63)).drew).heap.size) := ⟨by simp; omega⟩
  have HL : Aside0 ((l.length + 1) * 40 ≤ 140737488355328) := ⟨by omega⟩
  have hne : some g ≠ (Value.slice A l.length c).ownBlock := Kd.R_ne HK.out HH.out (by decide)
  have hne2 : some w.heap.size ≠ (Value.slice A l.length c).ownBlock := fun e => by
    obtain ⟨_, ho⟩ := Kd.R_own HK.out
    have := own_lt ho _ e.symm
    omega
  have HS : Aside0 (∀ w1 : World, ((w.alloc (.cells #[.int .u8 t0, .string t1, .int .i64 t2, .int .i64 p] 63)).drew).grownBy w1 (Value.slice A l.length c).ownBlock → (w1.cell? ⟨g, 2, none⟩ = some (.slice A l.length c) ∧ w1.cell? ⟨w.heap.size, 0, none⟩ = some (.int .u8 t0) ∧ w1.cell? ⟨w.heap.size, 1, none⟩ = some (.string t1) ∧ w1.cell? ⟨w.heap.size, 2, none⟩ = some (.int .i64 t2) ∧ w1.cell? ⟨w.heap.size, 3, none⟩ = some (.int .i64 p))) := ⟨fun w1 h => by
    refine ⟨h.cell ?_ hne, h.cell ?_ hne2, h.cell ?_ hne2, h.cell ?_ hne2, h.cell ?_ hne2⟩ <;> go_simp⟩
  have HT : Aside0 (∀ w1 : World, ((w.alloc (.cells #[.int .u8 t0, .string t1, .int .i64 t2, .int .i64 p] 63)).drew).grownBy w1 (Value.slice A l.length c).ownBlock → w1.cell? ⟨g, 1, none⟩ = some (.int .i64 p) ∧ w1.frozen? ⟨g, 1, none⟩ = false ∧ w1.frozen? ⟨g, 2, none⟩ = false ∧ w1.heap[g]? = w.heap[g]?) := ⟨fun w1 h => by
    have hb : w1.heap[g]? = w.heap[g]? := (h.block g (by simp; omega) hne).trans (Below.heap_alloc w _ g hgs)
    exact ⟨(World.cell?_of_block (w := w) (a := ⟨g, 1, none⟩) hb).trans c1, (World.frozen?_of_block (w := w) (a := ⟨g, 1, none⟩) hb).trans z1, (World.frozen?_of_block (w := w) (a := ⟨g, 2, none⟩) hb).trans z2, hb⟩⟩
  clear hne hne2
  go_enter Tryz.func59, Tryz.ntmps59
  go_wp2
  refine start_ (n := 11) (S := fun w' => w'.cell? ⟨g, 2, none⟩ = some (.slice A l.length c) ∧ w'.cell? ⟨w.heap.size, 0, none⟩ = some (.int .u8 t0) ∧ w'.cell? ⟨w.heap.size, 1, none⟩ = some (.string t1) ∧ w'.cell? ⟨w.heap.size, 2, none⟩ = some (.int .i64 t2) ∧ w'.cell? ⟨w.heap.size, 3, none⟩ = some (.int .i64 p)) (ds := [10]) #[false, false, false, false, false, false, false, false, false, false, false] (by kernel_rfl) rfl rfl ⟨(by go_simp), (by go_simp), (by go_simp), (by go_simp), (by go_simp)⟩ (fun hHeld => ?_)
  refine pure_ (i := 0) (N := some 12) (v := ?_) (a' := ?_) #[true, false, false, false, false, false, false, false, false, false, false] rfl rfl (by kernel_rfl) (fun _ _ _ h => h) (Or.inl ⟨by rfl, ?_⟩) ?_ ?_
  rotate_left
  · intro w'
    go_simp
    with_reducible rfl
  rotate_left
  · simp only [Act.put, List.setIfInBounds_toArray, List.set_cons_zero, List.set_cons_succ, i64_w, i32_w]
    rfl
  refine pure_ (i := 1) (N := some 13) (v := ?_) (a' := ?_) #[true, true, false, false, false, false, false, false, false, false, false] rfl rfl (by kernel_rfl) (fun _ _ _ h => h) (Or.inl ⟨by rfl, ?_⟩) ?_ ?_
  rotate_left
  · intro w'
    go_simp
    with_reducible rfl
  rotate_left
  · simp only [Act.put, List.setIfInBounds_toArray, List.set_cons_zero, List.set_cons_succ, i64_w, i32_w]
    rfl
  refine pure_ (i := 2) (N := some 14) (v := ?_) (a' := ?_) #[true, true, true, false, false, false, false, false, false, false, false] rfl rfl (by kernel_rfl) (fun _ _ _ h => h) (Or.inl ⟨by rfl, ?_⟩) ?_ ?_
  rotate_left
  · intro w'
    go_simp
    with_reducible rfl
  rotate_left
  · simp only [Act.put, List.setIfInBounds_toArray, List.set_cons_zero, List.set_cons_succ, i64_w, i32_w]
    rfl
  refine pure_ (i := 3) (N := some 15) (v := ?_) (a' := ?_) #[true, true, true, true, false, false, false, false, false, false, false] rfl rfl (by kernel_rfl) (fun _ _ _ h => h) (Or.inl ⟨by rfl, ?_⟩) ?_ ?_
  rotate_left
  · intro w'
    go_simp
    with_reducible rfl
  rotate_left
  · simp only [Act.put, List.setIfInBounds_toArray, List.set_cons_zero, List.set_cons_succ, i64_w, i32_w]
    rfl
  refine take_ (i := 4) (N := some 16) (v := ?_) (a' := ?_) #[true, true, true, true, true, false, false, false, false, false, false] rfl rfl (by kernel_rfl) (fun _ _ _ h => h) (Or.inl ⟨by rfl, ?_⟩) hHeld ?_ ?_
  rotate_left
  · rintro w' ⟨s0, s1, s2, s3, s4⟩
    go_simp
    with_reducible rfl
  rotate_left
  · simp only [Act.put, List.setIfInBounds_toArray, List.set_cons_zero, List.set_cons_succ, i64_w, i32_w]
    rfl
  refine take_ (i := 5) (N := some 17) (v := ?_) (a' := ?_) #[true, true, true, true, true, true, false, false, false, false, false] rfl rfl (by kernel_rfl) (fun _ _ _ h => h) (Or.inl ⟨by rfl, ?_⟩) hHeld ?_ ?_
  rotate_left
  · rintro w' ⟨s0, s1, s2, s3, s4⟩
    go_simp
    with_reducible rfl
  rotate_left
  · simp only [Act.put, List.setIfInBounds_toArray, List.set_cons_zero, List.set_cons_succ, i64_w, i32_w]
    rfl
  refine one_ (i := 6) (N := some 18) #[true, true, true, true, true, true, true, false, false, false, false] rfl rfl (by kernel_rfl) (by decide) (fun K hK => ?_)
  refine value_ (w1 := ?_) (v := ?_) (by rfl) rfl ?_ ?_
  rotate_left 2
  · go_simp
    constructor
    · rfl
    · rfl
  refine hK.out _ _ ⟨(by go_simp), (by go_simp), (by go_simp), (by go_simp), (by go_simp)⟩ (fun hHeld => ?_)
  clear hK K
  refine norm_ (a' := ?_) ?_ ?_
  rotate_left
  · show Act.put _ (some 18) _ = _
    simp only [Act.put, List.setIfInBounds_toArray, List.set_cons_zero, List.set_cons_succ, i64_w, i32_w]
    rfl
  refine one_ (i := 7) (N := some 19) #[true, true, true, true, true, true, true, true, false, false, false] rfl rfl (by kernel_rfl) (by decide) (fun K hK => ?_)
  refine Kd.R_append_step kT (w0 := w) (W := (w.alloc (.cells #[.int .u8 t0, .string t1, .int .i64 t2, .int .i64 p] 63)).drew) B rfl (.tmp 16) (.tmp 18) 59 63 _ 40 rfl Tryz.underlying59 infoTok rfl (by decide) (by decide) (.slice A l.length c) l (⟨t0, t1, t2, p⟩ : Tok) _ (fun _ => True) (fun _ => False) (by rfl) (by simp [Act.eval, World.drew]) (k63_mkM _ _ _ _) (fun _ h => h.elim) (fun _ _ => trivial) HR.out HB.out HBs.out HL.out ?_
  intro v1 w1 hR1 hB1 hg1 _
  obtain ⟨i0, i1, i2, i3, i4⟩ := HS.out _ hg1
  obtain ⟨q1, y1, y2, hb⟩ := HT.out _ hg1
  obtain ⟨A1, c3, rfl, hc3, _⟩ := Kd.R_reads hR1
  have HB2 := Aside0.mk hb
  have HR2 := Aside0.mk hR1
  have HG2 := Aside0.mk hB1
  clear hb hR1 hB1 hg1 HS HT
  refine hK.out _ _ ⟨i0, i1, i2, i3, i4⟩ (fun hHeld => ?_)
  clear hK K
  refine norm_ (a' := ?_) ?_ ?_
  rotate_left
  · show Act.put _ (some 19) _ = _
    simp only [Act.put, List.setIfInBounds_toArray, List.set_cons_zero, List.set_cons_succ, i64_w, i32_w]
    rfl
  refine pure_ (i := 8) (N := some 20) (v := ?_) (a' := ?_) #[true, true, true, true, true, true, true, true, true, false, false] rfl rfl (by kernel_rfl) (fun _ _ _ h => h) (Or.inl ⟨by rfl, ?_⟩) ?_ ?_
  rotate_left
  · intro w'
    go_simp
    with_reducible rfl
  rotate_left
  · simp only [Act.put, List.setIfInBounds_toArray, List.set_cons_zero, List.set_cons_succ, i64_w, i32_w]
    rfl
  refine pure_ (i := 9) (N := some 21) (v := ?_) (a' := ?_) #[true, true, true, true, true, true, true, true, true, true, false] rfl rfl (by kernel_rfl) (fun _ _ _ h => h) (Or.inl ⟨by rfl, ?_⟩) ?_ ?_
  rotate_left
  · intro w'
    go_simp
    with_reducible rfl
  rotate_left
  · simp only [Act.put, List.setIfInBounds_toArray, List.set_cons_zero, List.set_cons_succ, i64_w, i32_w]
    rfl
  refine last_ (i := 10) (N := none) #[true, true, true, true, true, true, true, true, true, true, true] rfl rfl (by kernel_rfl) (by decide) (fun K hK => ?_)
  refine skip_ (w1 := ?_) (by rfl) rfl ?_ ?_
  rotate_left
  · go_simp
    rfl
  refine hK.out _ _ ?_
  clear hK K
  refine done_ (by kernel_rfl) ?_
  go_wp2
  go_ret
  refine ⟨rfl, put_end hg (Nat.le_trans hB ?_) HB2.out HH.out HR2.out hc3 (by simp), ?_⟩
  · exact HG2.out.size
  · exact ((Fr.of_below HG2.out).trans (Fr.set _ _ _)).trans (Fr.set _ _ _)
end Go.Proofs.YtipmmkelialgkaaGreatDoor.Lex
set_option linter.unusedVariables false
set_option linter.unusedSimpArgs false
namespace Go.Proofs.YtipmmkelialgkaaGreatDoor.Lex
open Go.RowKit Go.Lib Go.Proofs.YtipmmkelialgkaaGreatDoorW.PrintWords Go.Proofs.YtipmmkelialgkaaGreatDoorW.PrintLast Go.Proofs.YtipmmkelialgkaaGreatDoorW.PrintMore Go.Proofs.YtipmmkelialgkaaGreatDoor.PLex

/-- What is wrong, as it is thrown. -/
def wrongV (e p : Int) : PanicEntry := { v := .iface 105 (.agg #[.int .u16 e, .int .i64 p]), recovered := false }
/-- What a step leaves. -/
def Post (B g : Nat) (s : ByteArray) (p : Int) (l : List Tok) (w : World) : Res → Ending → World → Prop
  | .no, e, w' => e = .returned (.bool false) ∧ Rd B g s p l w' ∧ Fr B g w w'
  | .skip n, e, w' => e = .returned (.bool true) ∧ Rd B g s (p + n) l w' ∧ Fr B g w w'
  | .tok t0 t1 t2 n, e, w' => e = .returned (.bool true) ∧ Rd B g s (p + n) (l ++ [(⟨t0, t1, t2, p⟩ : Tok)]) w' ∧ Fr B g w w'
  | .bad, e, w' => e = .panicked [wrongV 20 p] ∧ Rd B g s p l w' ∧ Fr B g w w'

theorem Fr.drewN {B g : Nat} (w : World) (n : Nat) : Fr B g w (w.drewN n) := ⟨rfl, rfl, rfl, Nat.le_refl _, fun _ _ _ => rfl⟩

theorem rest_cons {s : ByteArray} {q : Nat} (h : q < s.size) : s.data.toList.drop q = s[q] :: s.data.toList.drop (q + 1) := by
  have hl : q < s.data.toList.length := by rw [Array.length_toList]; exact h
  rw [List.drop_eq_getElem_cons hl]
  congr 1
theorem beqI {c : UInt8} {n : Nat} (h : c.toNat = n) : ((c.toNat : Int) == (n : Int)) = true := by simp [h]
theorem byte_eq {c : UInt8} {n : Nat} (hn : n < 256) : c = UInt8.ofNat n ↔ c.toNat = n := by
  constructor
  · rintro rfl; simp [Nat.mod_eq_of_lt hn]
  · intro h; rw [← h]; simp

set_option maxRecDepth 100000 in
theorem blank_calls {B g : Nat} {s : ByteArray} {q : Nat} {l : List Tok} (w : World) (hR : Rd B g s q l w) (hp : q < s.size) (hs : s.size ≤ 1000000) :
    Calls Tryz.prog 52 #[.pointer (some ⟨g, 0, none⟩)] w (Post B g s q l w (blankR (s.data.toList.drop q))) := by
  rw [rest_cons hp]
  have hle := lineLen_le (s.data.toList.drop q)
  have hi := indexByte_line (s.data.toList.drop q)
  rw [List.length_drop, Array.length_toList] at hle hi
  have hle' : lineLen (s.data.toList.drop q) ≤ s.size - q := hle
  rw [rest_cons hp] at hi hle'
  obtain ⟨c0, c1, z0, z1, z2, _⟩ := hR.cells
  have HR := Aside0.mk hR
  have hq : (0 : Int) ≤ q := Int.natCast_nonneg _
  have hq' : (q : Int) < s.size := by omega
  clear hR hle
  by_cases h1 : s[q].toNat = 32
  · have b1 : ((s[q].toNat : Int) == 32) = true := by simp [h1]
    have hv : blankR (s[q] :: s.data.toList.drop (q + 1)) = .skip 1 := by simp [blankR, (byte_eq (n := 32) (by decide)).2 h1]
    rw [hv]
    clear hi hv h1
    go_enter Tryz.func52, Tryz.ntmps52
    go_wp2
    go_quiet (fail)
    go_wp2
    go_ret
    exact ⟨rfl, (HR.out.drewN _).set_at _, (Fr.drewN _ _).trans (Fr.set _ _ _)⟩
  by_cases h2 : s[q].toNat = 9
  · have b1 : ((s[q].toNat : Int) == 32) = false := by simp; omega
    have b2 : ((s[q].toNat : Int) == 9) = true := by simp [h2]
    have hv : blankR (s[q] :: s.data.toList.drop (q + 1)) = .skip 1 := by simp [blankR, (byte_eq (n := 9) (by decide)).2 h2]
    rw [hv]
    clear hi hv h1 h2
    go_enter Tryz.func52, Tryz.ntmps52
    go_wp2
    go_quiet (fail)
    go_wp2
    go_ret
    exact ⟨rfl, (HR.out.drewN _).set_at _, (Fr.drewN _ _).trans (Fr.set _ _ _)⟩
  have b1 : ((s[q].toNat : Int) == 32) = false := by simp; omega
  have b2 : ((s[q].toNat : Int) == 9) = false := by simp; omega
  have n1 : s[q] ≠ 32 := fun e => h1 (by rw [e]; rfl)
  have n2 : s[q] ≠ 9 := fun e => h2 (by rw [e]; rfl)
  by_cases h3 : s[q].toNat = 37
  · have b3 : ((s[q].toNat : Int) == 37) = true := by simp [h3]
    have hv : blankR (s[q] :: s.data.toList.drop (q + 1)) = .skip (lineLen (s[q] :: s.data.toList.drop (q + 1))) := by simp [blankR, (byte_eq (n := 37) (by decide)).2 h3]
    rw [hv]
    rw [← rest_cons hp] at hi hle' ⊢
    rw [← bs_list (s.data.toList.drop q)] at hi
    have hsz : (bs (s.data.toList.drop q)).size = s.size - q := by rw [bs_size, List.length_drop, Array.length_toList]; rfl
    clear hv h1 h2 h3 n1 n2
    rw [bs_list] at hi
    rw [show s.data.size = s.size from rfl] at hi
    generalize lineLen (s.data.toList.drop q) = n at *
    have hn0 : (0 : Int) ≤ n := Int.natCast_nonneg _
    have HZ : Aside0 ((bs (s.data.toList.drop q)).size = s.size - q) := ⟨hsz⟩
    have hs0 : ((bs (s.data.toList.drop q)).size : Int) = s.size - q := by omega
    clear hsz
    by_cases hlt : n < s.size - q
    · rw [if_pos hlt] at hi
      have HI : Aside0 (Lib.indexByte (bs (s.data.toList.drop q)).data.toList ((10 : Int).toNat.toUInt8) = n) := ⟨by rw [bs_list]; exact hi⟩
      clear hi hlt hs0
      go_enter Tryz.func52, Tryz.ntmps52
      go_wp2
      go_quiet (fail)
      go_wp2_with (first
        | (go_at_call 98; refine (rest_calls _ (HR.out.drewN _) (Nat.le_of_lt hp)).mono ?_; rintro e w' ⟨rfl, ⟨nd, rfl⟩⟩)
        | (go_at_call 91; refine (Tryz.strings_IndexByte _ _ _).mono ?_; rintro e w' ⟨rfl, rfl⟩; rw [HI.out]))
      go_ret
      exact ⟨rfl, (HR.out.drewN _).set_at _, (Fr.drewN _ _).trans (Fr.set _ _ _)⟩
    · rw [if_neg hlt] at hi
      have HI : Aside0 (Lib.indexByte (bs (s.data.toList.drop q)).data.toList ((10 : Int).toNat.toUInt8) = -1) := ⟨by rw [bs_list]; exact hi⟩
      have hne : (n : Int) = (bs (s.data.toList.drop q)).size := by omega
      clear hi hlt hs0
      rw [show n = (bs (s.data.toList.drop q)).size by omega]
      clear hne hn0 hle'
      have hb : ((bs (s.data.toList.drop q)).size : Int) ≤ 1000000 := by have := HZ.out; omega
      go_enter Tryz.func52, Tryz.ntmps52
      go_wp2
      go_quiet (fail)
      go_wp2_with (first
        | (go_at_call 98; refine (rest_calls _ (HR.out.drewN _) (Nat.le_of_lt hp)).mono ?_; rintro e w' ⟨rfl, ⟨nd, rfl⟩⟩)
        | (go_at_call 91; refine (Tryz.strings_IndexByte _ _ _).mono ?_; rintro e w' ⟨rfl, rfl⟩; rw [HI.out]))
      go_ret
      exact ⟨rfl, (HR.out.drewN _).set_at _, (Fr.drewN _ _).trans (Fr.set _ _ _)⟩
  · have b3 : ((s[q].toNat : Int) == 37) = false := by simp; omega
    have n3 : s[q] ≠ 37 := fun e => h3 (by rw [e]; rfl)
    have hv : blankR (s[q] :: s.data.toList.drop (q + 1)) = .no := by simp [blankR, n1, n2, n3]
    rw [hv]
    clear hi hv h1 h2 h3 n1 n2 n3
    go_enter Tryz.func52, Tryz.ntmps52
    go_wp2
    go_quiet (fail)
    go_wp2
    go_ret
    exact ⟨rfl, HR.out.drewN _, Fr.drewN _ _⟩
end Go.Proofs.YtipmmkelialgkaaGreatDoor.Lex
