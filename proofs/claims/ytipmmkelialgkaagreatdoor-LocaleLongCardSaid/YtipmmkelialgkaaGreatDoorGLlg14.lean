/- (*locale.reader).item: a scalar, or a name (of which none is declared here). -/
import Derived.Test.YtipmmkelialgkaaGreatDoorGLlg13
import Derived.Maps.Keyed
set_option linter.unusedVariables false
set_option linter.unusedSimpArgs false
namespace Go.Proofs.YtipmmkelialgkaaGreatDoor.Loc
open Go.RowKit Go.Lib Go.Proofs.YtipmmkelialgkaaGreatDoorW.PrintWords Go.Proofs.YtipmmkelialgkaaGreatDoorW.PrintLast Go.Proofs.YtipmmkelialgkaaGreatDoorW.PrintMore Go.Proofs.YtipmmkelialgkaaGreatDoor.Lex

/-- What an item tells: its cells' block is new. -/
def ItemPost (E : Env) (i : Nat) (cl : List Cls) (od : List Elm) (w : World) (t : Tok) (en : Ending) (w' : World) : Prop :=
  (t.f0 = 3 ∧ ∃ bk, en = .returned (.tuple #[.agg #[.string ⟨#[]⟩, .slice (some ⟨bk, 0, none⟩) 1 1, .int .i64 0], tokV t]) ∧ w'.heap[bk]? = some (.cells #[.int .i32 t.f2] 40 (0, 0)) ∧ E.B ≤ bk ∧ Rd E (i + 1) cl od (fun k => some k ≠ some bk) w' ∧ Fr E.B E.g w w' ∧ Keep E w w') ∨
  (¬ t.f0 = 3 ∧ en = .panicked [wrongW (if t.f0 = 5 then 31 else 30) t.f3] ∧ Fr E.B E.g w w')
theorem lookup_empty (W : World) (m : Nat) (s : ByteArray) (hs : s.size ≤ 1000000) (h : W.heap[m]? = some (.map #[] 0)) : (Instr.lookup 69 (.map (some m)) (.string s) true).run Tryz.prog W = .ok (.tuple #[.slice none 0 0, .bool false]) W := by
  have K := Go.Maps.string_keyed (P := Tryz.prog) Tryz.underlying9
  have hkey := Go.WideMaps.keyOf_string_mk (P := Tryz.prog) Tryz.underlying9 (s := s) (Nat.le_trans hs (by decide))
  have hz : (zeroValue 37).run Tryz.prog W = .ok (.slice none 0 0) W := by kernel_rfl
  rcases K.find W hkey [] (by simp) with ⟨f1, _⟩ | ⟨j, e0, _, f2, _⟩
  · simp [Instr.lookup, run_underlying Tryz.underlying69, MapKept.run_getObj_map h, K.check W _ hkey, f1, hz, Result.andThen]
  · simp at f2
theorem four_allocs (W : World) (n : Nat) (hn : W.heap.size = n) (o1 o2 o3 o4 : Obj) : ((((W.alloc o1).alloc o2).alloc o3).alloc o4).drew.heap[n + 1 + 1 + 1]? = some o4 ∧ Below W.heap.size W ((((W.alloc o1).alloc o2).alloc o3).alloc o4).drew := by
  subst hn
  refine ⟨?_, ?_⟩
  · have := blk_new (((W.alloc o1).alloc o2).alloc o3) o4
    simpa [World.drew] using this
  · exact (((((Below.refl _ W).alloc (Nat.le_refl _) _).alloc (by simp) _).alloc (by simp; omega) _).alloc (by simp; omega) _).drew
theorem ItemPost.ok {E : Env} {i : Nat} {cl : List Cls} {od : List Elm} {w W w' : World} {t : Tok} {bk n : Nat} (hk : t.f0 = 3) (hn : W.heap.size = n) (hb : bk = n + 1 + 1 + 1) (h : Rd E (i + 1) cl od (fun _ => True) W) (hf : Fr E.B E.g w W) (hq : Keep E w W)
    (hc : w'.heap[n + 1 + 1 + 1]? = some (.cells #[.int .i32 t.f2] 40 (0, 0)) ∧ Below W.heap.size W w') :
    ItemPost E i cl od w t (.returned (.tuple #[.agg #[.string ⟨#[]⟩, .slice (some ⟨bk, 0, none⟩) 1 1, .int .i64 0], tokV t])) w' := by
  subst hb hn
  exact .inl ⟨hk, _, rfl, hc.1, by have := h.Bs; omega, h.old hc.2 (by omega), hf.trans (Fr.of_below (hc.2.mono h.Bs)), hq.trans (Keep.of_below hc.2)⟩

set_option maxRecDepth 100000 in
set_option maxHeartbeats 4000000 in
theorem item_calls {E : Env} {i : Nat} {cl : List Cls} {od : List Elm} (w : World) (h : Rd E i cl od (fun _ => True) w) (t : Tok) (ht : E.L[i]? = some t) (hn : t.f0 = 3 → 0 ≤ t.f2 ∧ t.f2 ≤ 1114111) (hts1 : t.f1.size ≤ 1000000) :
    Calls Tryz.prog 121 #[.pointer (some ⟨E.g, 0, none⟩)] w (ItemPost E i cl od w t) := by
  obtain ⟨t0, t1, t2, t3, hi⟩ := h.tok ht
  obtain ⟨cs, cf, hgs, hts⟩ := h.cells hi
  have hsm := h.sm
  have hLc := h.Lc
  have hBs := h.Bs
  have hgs2 : E.g < w.heap.size + 1 := by omega
  have hgs3 : E.g < w.heap.size + 1 + 1 := by omega
  have hts2 : E.tb < w.heap.size + 1 := by omega
  have hts3 : E.tb < w.heap.size + 1 + 1 := by omega
  have HR := Aside0.mk h
  have HTk := Aside0.mk ht
  clear h ht
  have hl1 : (0 : Int) < ((E.L.length - i : Nat) : Int) := by omega
  have hl0 : (0 : Nat) < E.L.length - i := by omega
  by_cases hk : t.f0 = 3
  · have hk1 : (t.f0 == 3) = true := by simp [hk]
    obtain ⟨hn0, hn1⟩ := hn hk
    have hwa : IntKind.i32.wrap t.f2 = t.f2 := IntWalk.i32_in _ (by omega)
    have HK := Aside0.mk hk
    clear hk hn
    go_enter Tryz.func121, Tryz.ntmps121
    go_wp2
    all_goals
      refine start_ (n := 8) (S := fun w' => w'.cell? ⟨w.heap.size + 1 + 1, 0, none⟩ = some (.int .u8 t.f0) ∧ w'.cell? ⟨w.heap.size + 1 + 1, 1, none⟩ = some (.string t.f1) ∧ w'.cell? ⟨w.heap.size + 1 + 1, 2, none⟩ = some (.int .i64 t.f2) ∧ w'.cell? ⟨w.heap.size + 1 + 1, 3, none⟩ = some (.int .i64 t.f3)) (ds := []) #[false, false, false, false, false, false, false, false] (by kernel_rfl) rfl rfl ⟨(by go_simp), (by go_simp), (by go_simp), (by go_simp)⟩ (fun hHeld => ?_)
      refine pure_ (i := 0) (N := some 24) (v := ?_) (a' := ?_) #[true, false, false, false, false, false, false, false] rfl rfl (by kernel_rfl) (fun _ _ _ h => h) (Or.inl ⟨by rfl, ?_⟩) ?_ ?_
      rotate_left
      · intro w'
        go_simp
        with_reducible rfl
      rotate_left
      · simp only [Act.put, List.setIfInBounds_toArray, List.set_cons_zero, List.set_cons_succ, i64_w, i32_w]
        rfl
      refine take_ (i := 1) (N := some 25) (v := ?_) (a' := ?_) #[true, true, false, false, false, false, false, false] rfl rfl (by kernel_rfl) (fun _ _ _ h => h) (Or.inl ⟨by rfl, ?_⟩) hHeld ?_ ?_
      rotate_left
      · rintro w' ⟨s0, s1, s2, s3⟩
        go_simp
        with_reducible rfl
      rotate_left
      · simp only [Act.put, List.setIfInBounds_toArray, List.set_cons_zero, List.set_cons_succ, i64_w, i32_w]
        rfl
      refine pure_ (i := 2) (N := some 26) (v := ?_) (a' := ?_) #[true, true, true, false, false, false, false, false] rfl rfl (by kernel_rfl) (fun _ _ _ h => h) (Or.inl ⟨by rfl, ?_⟩) ?_ ?_
      rotate_left
      · intro w'
        go_simp
        with_reducible rfl
      rotate_left
      · simp only [Act.put, List.setIfInBounds_toArray, List.set_cons_zero, List.set_cons_succ, i64_w, i32_w]
        rfl
      refine take_ (i := 5) (N := some 29) (v := ?_) (a' := ?_) #[true, true, true, false, false, true, false, false] rfl rfl (by kernel_rfl) (fun _ _ _ h => h) (Or.inl ⟨by rfl, ?_⟩) hHeld ?_ ?_
      rotate_left
      · rintro w' ⟨s0, s1, s2, s3⟩
        go_simp
        with_reducible rfl
      rotate_left
      · simp only [Act.put, List.setIfInBounds_toArray, List.set_cons_zero, List.set_cons_succ, i64_w, i32_w]
        rfl
      refine one_ (i := 3) (N := some 27) #[true, true, true, true, false, true, false, false] rfl rfl (by kernel_rfl) (by decide) (fun K hK => ?_)
      refine value_ (w1 := ?_) (v := ?_) (by rfl) rfl ?_ ?_
      rotate_left 2
      · go_simp
        constructor
        · rfl
        · rfl
      refine hK.out _ _ ⟨(by go_simp), (by go_simp), (by go_simp), (by go_simp)⟩ (fun hHeld => ?_)
      clear hK K
      refine norm_ (a' := ?_) ?_ ?_
      rotate_left
      · show Act.put _ (some 27) _ = _
        simp only [Act.put, List.setIfInBounds_toArray, List.set_cons_zero, List.set_cons_succ, i64_w, i32_w]
        rfl
      refine pure_ (i := 4) (N := some 28) (v := ?_) (a' := ?_) #[true, true, true, true, true, true, false, false] rfl rfl (by kernel_rfl) (fun _ _ _ h => h) (Or.inl ⟨by rfl, ?_⟩) ?_ ?_
      rotate_left
      · intro w'
        go_simp
        with_reducible rfl
      rotate_left
      · simp only [Act.put, List.setIfInBounds_toArray, List.set_cons_zero, List.set_cons_succ, i64_w, i32_w]
        rfl
      refine one_ (i := 6) (N := none) #[true, true, true, true, true, true, true, false] rfl rfl (by kernel_rfl) (by decide) (fun K hK => ?_)
      refine skip_ (w1 := ?_) (by rfl) rfl ?_ ?_
      rotate_left
      · go_simp
        rfl
      refine hK.out _ _ ⟨(by go_simp), (by go_simp), (by go_simp), (by go_simp)⟩ (fun hHeld => ?_)
      clear hK K
      refine one_ (i := 7) (N := none) #[true, true, true, true, true, true, true, true] rfl rfl (by kernel_rfl) (by decide) (fun K hK => ?_)
      refine skip_ (w1 := ?_) (by rfl) rfl ?_ ?_
      rotate_left
      · go_simp
        rfl
      refine hK.out _ _ ⟨(by go_simp), (by go_simp), (by go_simp), (by go_simp)⟩ (fun hHeld => ?_)
      clear hK K
      refine done_ (by kernel_rfl) ?_
      go_wp2
      refine ⟨rfl, _, (by simp [results, Tryz.results121]; go_simp; rfl), ?_⟩
      refine ItemPost.ok (n := w.heap.size) HK.out (by simp [World.setCell]) rfl (HR.out.next hi ?_ ?_ ?_) (Fr.set _ _ _) (Keep.set _ _ _) (four_allocs _ _ (by simp [World.setCell]) _ _ _ _)
      · unfold offAt
        first
          | (rw [if_pos (by omega)]; omega)
          | (rw [if_neg (by omega)]; omega)
      · omega
      · omega
  · obtain ⟨vo, g1, _, _⟩ := HR.out.st
    have c5 : w.cell? ⟨E.g, 5, none⟩ = some (.map (some E.mb)) := by simp [World.cell?, g1, rdObj]
    have hmb : E.mb < w.heap.size := Nat.lt_of_lt_of_le HR.out.mB hBs
    have mp := HR.out.mp
    have hk1 : (t.f0 == 3) = false := by simp [hk]
    have HK := Aside0.mk hk
    have hb3 : Below w.heap.size w (((w.alloc (.cells #[.string ⟨#[]⟩, .slice none 0 0, .int .i64 0] 39)).alloc (.cells #[.int .u8 0, .string ⟨#[]⟩, .int .i64 0, .int .i64 0] 63)).alloc (.cells #[.int .u8 t.f0, .string t.f1, .int .i64 t.f2, .int .i64 t.f3] 63)) := (((Below.refl _ _).alloc (Nat.le_refl _) _).alloc (by simp) _).alloc (by simp; omega) _
    have HB3 := Aside0.mk hb3
    clear hb3 hk hn g1
    by_cases hk5 : t.f0 = 5
    · have H5 := Aside0.mk hk5
      clear hk5
      go_enter Tryz.func121, Tryz.ntmps121
      go_wp2_with fail
      refine (take_calls _ (HR.out.below HB3.out) t HTk.out 5).mono ?_
      intro e w2 hp
      unfold TakePost at hp
      rw [if_pos H5.out] at hp
      obtain ⟨rfl, hR2, hf2, hk2⟩ := hp
      have kb : w2.heap[w.heap.size + 1 + 1]? = some (.cells #[.int .u8 t.f0, .string t.f1, .int .i64 t.f2, .int .i64 t.f3] 63 (0, 0)) := hk2.box (by have := blk_new ((w.alloc (.cells #[.string ⟨#[]⟩, .slice none 0 0, .int .i64 0] 39)).alloc (.cells #[.int .u8 0, .string ⟨#[]⟩, .int .i64 0, .int .i64 0] 63)) (.cells #[.int .u8 t.f0, .string t.f1, .int .i64 t.f2, .int .i64 t.f3] 63); simpa using this) (by omega) (by decide)
      obtain ⟨k0, k1, k2, k3, kl⟩ := box4 kb
      obtain ⟨vo2, g2, _, _⟩ := hR2.st
      have d5 : w2.cell? ⟨E.g, 5, none⟩ = some (.map (some E.mb)) := by simp [World.cell?, g2, rdObj]
      have mp2 := hR2.mp
      have hz := hR2.Bs
      have hgw : E.g < w2.heap.size := Nat.lt_of_lt_of_le HR.out.gB hz
      have HF2 := Aside0.mk ((Fr.of_below (HB3.out.mono hBs)).trans hf2)
      clear hR2 hf2 hk2 kb g2 mp c5 hmb cs cf t0 t1 t2 t3
      go_wp2
      refine start_ (n := 12) (S := fun w' => w'.cell? ⟨E.g, 5, none⟩ = some (.map (some E.mb)) ∧ w'.cell? ⟨w.heap.size + 1 + 1, 1, none⟩ = some (.string t.f1) ∧ (Instr.lookup 69 (.map (some E.mb)) (.string t.f1) true).run Tryz.prog w' = .ok (.tuple #[.slice none 0 0, .bool false]) w') (ds := []) #[false, false, false, false, false, false, false, false, false, false, false, false] (by kernel_rfl) rfl rfl ⟨(by go_simp), (by go_simp), (lookup_empty _ _ _ hts1 mp2)⟩ (fun hHeld => ?_)
      refine pure_ (i := 0) (N := some 33) (v := ?_) (a' := ?_) #[true, false, false, false, false, false, false, false, false, false, false, false] rfl rfl (by kernel_rfl) (fun _ _ _ h => h) (Or.inl ⟨by rfl, ?_⟩) ?_ ?_
      rotate_left
      · intro w'
        go_simp
        with_reducible rfl
      rotate_left
      · simp only [Act.put, List.setIfInBounds_toArray, List.set_cons_zero, List.set_cons_succ, i64_w, i32_w]
        rfl
      refine pure_ (i := 1) (N := some 34) (v := ?_) (a' := ?_) #[true, true, false, false, false, false, false, false, false, false, false, false] rfl rfl (by kernel_rfl) (fun _ _ _ h => h) (Or.inl ⟨by rfl, ?_⟩) ?_ ?_
      rotate_left
      · intro w'
        go_simp
        with_reducible rfl
      rotate_left
      · simp only [Act.put, List.setIfInBounds_toArray, List.set_cons_zero, List.set_cons_succ, i64_w, i32_w]
        rfl
      refine pure_ (i := 2) (N := some 35) (v := ?_) (a' := ?_) #[true, true, true, false, false, false, false, false, false, false, false, false] rfl rfl (by kernel_rfl) (fun _ _ _ h => h) (Or.inl ⟨by rfl, ?_⟩) ?_ ?_
      rotate_left
      · intro w'
        go_simp
        with_reducible rfl
      rotate_left
      · simp only [Act.put, List.setIfInBounds_toArray, List.set_cons_zero, List.set_cons_succ, i64_w, i32_w]
        rfl
      refine pure_ (i := 4) (N := some 37) (v := ?_) (a' := ?_) #[true, true, true, false, true, false, false, false, false, false, false, false] rfl rfl (by kernel_rfl) (fun _ _ _ h => h) (Or.inl ⟨by rfl, ?_⟩) ?_ ?_
      rotate_left
      · intro w'
        go_simp
        with_reducible rfl
      rotate_left
      · simp only [Act.put, List.setIfInBounds_toArray, List.set_cons_zero, List.set_cons_succ, i64_w, i32_w]
        rfl
      refine take_ (i := 3) (N := some 36) (v := ?_) (a' := ?_) #[true, true, true, true, true, false, false, false, false, false, false, false] rfl rfl (by kernel_rfl) (fun _ _ _ h => h) (Or.inl ⟨by rfl, ?_⟩) hHeld ?_ ?_
      rotate_left
      · rintro w' ⟨s0, s1, s2⟩
        go_simp
        with_reducible rfl
      rotate_left
      · simp only [Act.put, List.setIfInBounds_toArray, List.set_cons_zero, List.set_cons_succ, i64_w, i32_w]
        rfl
      refine take_ (i := 5) (N := some 38) (v := ?_) (a' := ?_) #[true, true, true, true, true, true, false, false, false, false, false, false] rfl rfl (by kernel_rfl) (fun _ _ _ h => h) (Or.inl ⟨by rfl, ?_⟩) hHeld ?_ ?_
      rotate_left
      · rintro w' ⟨s0, s1, s2⟩
        go_simp
        with_reducible rfl
      rotate_left
      · simp only [Act.put, List.setIfInBounds_toArray, List.set_cons_zero, List.set_cons_succ, i64_w, i32_w]
        rfl
      refine take_ (i := 6) (N := some 39) (v := ?_) (a' := ?_) #[true, true, true, true, true, true, true, false, false, false, false, false] rfl rfl (by kernel_rfl) (fun _ _ _ h => h) (Or.inl ⟨by rfl, ?_⟩) hHeld ?_ ?_
      rotate_left
      · rintro w' ⟨s0, s1, s2⟩
        go_simp
        with_reducible rfl
      rotate_left
      · simp only [Act.put, List.setIfInBounds_toArray, List.set_cons_zero, List.set_cons_succ, i64_w, i32_w]
        rfl
      refine pure_ (i := 7) (N := some 32) (v := ?_) (a' := ?_) #[true, true, true, true, true, true, true, true, false, false, false, false] rfl rfl (by kernel_rfl) (fun _ _ _ h => h) (Or.inl ⟨by rfl, ?_⟩) ?_ ?_
      rotate_left
      · intro w'
        go_simp
        with_reducible rfl
      rotate_left
      · simp only [Act.put, List.setIfInBounds_toArray, List.set_cons_zero, List.set_cons_succ, i64_w, i32_w]
        rfl
      refine pure_ (i := 8) (N := some 40) (v := ?_) (a' := ?_) #[true, true, true, true, true, true, true, true, true, false, false, false] rfl rfl (by kernel_rfl) (fun _ _ _ h => h) (Or.inl ⟨by rfl, ?_⟩) ?_ ?_
      rotate_left
      · intro w'
        go_simp
        with_reducible rfl
      rotate_left
      · simp only [Act.put, List.setIfInBounds_toArray, List.set_cons_zero, List.set_cons_succ, i64_w, i32_w]
        rfl
      refine pure_ (i := 9) (N := some 41) (v := ?_) (a' := ?_) #[true, true, true, true, true, true, true, true, true, true, false, false] rfl rfl (by kernel_rfl) (fun _ _ _ h => h) (Or.inl ⟨by rfl, ?_⟩) ?_ ?_
      rotate_left
      · intro w'
        go_simp
        with_reducible rfl
      rotate_left
      · simp only [Act.put, List.setIfInBounds_toArray, List.set_cons_zero, List.set_cons_succ, i64_w, i32_w]
        rfl
      refine pure_ (i := 10) (N := some 5) (v := ?_) (a' := ?_) #[true, true, true, true, true, true, true, true, true, true, true, false] rfl rfl (by kernel_rfl) (fun _ _ _ h => h) (Or.inl ⟨by rfl, ?_⟩) ?_ ?_
      rotate_left
      · intro w'
        go_simp
        with_reducible rfl
      rotate_left
      · simp only [Act.put, List.setIfInBounds_toArray, List.set_cons_zero, List.set_cons_succ, i64_w, i32_w]
        rfl
      refine pure_ (i := 11) (N := some 6) (v := ?_) (a' := ?_) #[true, true, true, true, true, true, true, true, true, true, true, true] rfl rfl (by kernel_rfl) (fun _ _ _ h => h) (Or.inl ⟨by rfl, ?_⟩) ?_ ?_
      rotate_left
      · intro w'
        go_simp
        with_reducible rfl
      rotate_left
      · simp only [Act.put, List.setIfInBounds_toArray, List.set_cons_zero, List.set_cons_succ, i64_w, i32_w]
        rfl
      refine done_ (by kernel_rfl) ?_
      have l0 : w2.drew.cell? ⟨w.heap.size + 1 + 1, 0, none⟩ = some (.int .u8 t.f0) := k0
      go_wp2_with (go_at_call 29; refine (fail_calls 31 t _).mono ?_; rintro e w9 ⟨rfl, hb9⟩; have HB9 := Aside0.mk hb9; clear hb9)
      refine ⟨rfl, .inr ⟨HK.out, ?_, HF2.out.trans ((Fr.drew _).trans (Fr.of_below (HB9.out.mono hz)))⟩⟩
      rw [if_pos H5.out]
    · have H5 := Aside0.mk hk5
      clear hk5
      go_enter Tryz.func121, Tryz.ntmps121
      go_wp2_with fail
      refine (take_calls _ (HR.out.below HB3.out) t HTk.out 5).mono ?_
      intro e w2 hp
      unfold TakePost at hp
      rw [if_neg H5.out] at hp
      obtain ⟨rfl, hf2⟩ := hp
      have HF2 := Aside0.mk ((Fr.of_below (HB3.out.mono hBs)).trans hf2)
      clear hf2
      go_wp2
      refine ⟨rfl, .inr ⟨HK.out, ?_, HF2.out⟩⟩
      rw [if_neg H5.out]
end Go.Proofs.YtipmmkelialgkaaGreatDoor.Loc
