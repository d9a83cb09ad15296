/- Whether an element is one of some scalars: the closure of (*locale.reader).row. · (*locale.reader).row: elements from one scalar to another one. -/
import Derived.Test.YtipmmkelialgkaaGreatDoorGLlg12
set_option linter.unusedVariables false
set_option linter.unusedSimpArgs false
namespace Go.Proofs.YtipmmkelialgkaaGreatDoor.Loc
open Go.RowKit Go.Lib Go.Proofs.YtipmmkelialgkaaGreatDoorW.PrintWords Go.Proofs.YtipmmkelialgkaaGreatDoorW.PrintLast Go.Proofs.YtipmmkelialgkaaGreatDoorW.PrintMore Go.Proofs.YtipmmkelialgkaaGreatDoor.Lex

/-- Is an element one scalar from lo to hi? -/
def inR (lo hi : Int) (x : Elm) : Bool := decide (x.f1.length = 1 ∧ lo ≤ x.f1.getD 0 0 ∧ x.f1.getD 0 0 ≤ hi)
theorem box1 {w : World} {b : Nat} {v : Value} {t : TypeId} (h : w.heap[b]? = some (.cells #[v] t (0, 0))) : w.cell? ⟨b, 0, none⟩ = some v := by simp [World.cell?, h]
set_option maxRecDepth 100000 in
set_option maxHeartbeats 1000000 in
theorem row1_says {b5 b6 : Nat} {lo hi : Int} (w : World) (h5 : w.heap[b5]? = some (.cells #[.int .i32 lo] 40 (0, 0))) (h6 : w.heap[b6]? = some (.cells #[.int .i32 hi] 40 (0, 0))) :
    SaysE 166 #[.pointer (some ⟨b5, 0, none⟩), .pointer (some ⟨b6, 0, none⟩)] (inR lo hi) w := by
  intro W x A c hB hx
  have l5 : b5 < w.heap.size := (Array.getElem?_eq_some_iff.1 h5).1
  have l6 : b6 < w.heap.size := (Array.getElem?_eq_some_iff.1 h6).1
  have c5 := box1 ((hB.block b5 l5).trans h5)
  have c6 := box1 ((hB.block b6 l6).trans h6)
  have m5 : b5 < W.heap.size := Nat.lt_of_lt_of_le l5 hB.size
  have m6 : b6 < W.heap.size := Nat.lt_of_lt_of_le l6 hB.size
  have hb0 : ∀ o n, Below W.heap.size W ((W.alloc o).drewN n) := fun o n => ((Below.refl _ _).alloc (Nat.le_refl _) _).trans (Lex.below_drewN _ _ _)
  unfold elmV
  show Calls _ _ #[.agg #[.string x.f0, .slice A x.f1.length c, .int .i64 x.f2], .pointer (some ⟨b5, 0, none⟩), .pointer (some ⟨b6, 0, none⟩)] _ _
  by_cases hl : x.f1.length = 1
  · obtain ⟨ad, e1, d0⟩ := int_at hx 0 (by omega)
    have hv : x.f1.getD 0 0 = x.f1[0] := by simp [List.getD_eq_getElem?_getD, List.getElem?_eq_getElem (show 0 < x.f1.length by omega)]
    have hk : (x.f1.length : Int) = 1 := by omega
    have hk1 : ((x.f1.length : Int) == 1) = true := by simp [hk]
    have hk2 : (0 : Int) < x.f1.length := by omega
    have HE : Aside0 (inR lo hi x = decide (lo ≤ x.f1[0] ∧ x.f1[0] ≤ hi)) := ⟨by unfold inR; rw [hv]; simp [hl]⟩
    subst e1
    replace d0 : W.cell? ad = some (.int .i32 x.f1[0]) := d0
    have hkn : x.f1.length = 1 := hl
    have d1 : ∀ o, (W.alloc o).cell? ad = some (.int .i32 x.f1[0]) := fun o => (((Below.refl W.heap.size W).alloc (Nat.le_refl _) o).cell (p := ad) (Lib.lt_of_cell d0)).trans d0
    clear d0
    generalize x.f1[0] = v at *
    clear hv h5 h6 l5 l6 hx
    by_cases h1 : lo ≤ v
    · by_cases h2 : v ≤ hi
      · have HX : Aside0 (inR lo hi x = true) := ⟨HE.out.trans (decide_eq_true ⟨h1, h2⟩)⟩
        clear HE
        go_enter Tryz.func166, Tryz.ntmps166
        go_wp2
        go_quiet (fail)
        go_wp2
        go_ret
        exact ⟨by rw [HX.out]; first | rfl | (simp; omega), hb0 _ _⟩
      · have HX : Aside0 (inR lo hi x = false) := ⟨HE.out.trans (decide_eq_false (fun h => h2 h.2))⟩
        have h2' : hi < v := by omega
        have e2 : decide (v ≤ hi) = false := decide_eq_false h2
        clear HE
        go_enter Tryz.func166, Tryz.ntmps166
        go_wp2
        go_quiet (fail)
        go_wp2
        go_ret
        exact ⟨by rw [HX.out]; first | rfl | (simp; omega), hb0 _ _⟩
    · have HX : Aside0 (inR lo hi x = false) := ⟨HE.out.trans (decide_eq_false (fun h => h1 h.1))⟩
      have h1' : v < lo := by omega
      have e1 : decide (lo ≤ v) = false := decide_eq_false h1
      have e1' : (lo ≤ v) = False := eq_false h1
      clear HE
      go_enter Tryz.func166, Tryz.ntmps166
      go_wp2
      go_quiet (fail)
      go_wp2
      go_ret
      exact ⟨by rw [HX.out]; first | rfl | (simp; omega), hb0 _ _⟩
  · have HX : Aside0 (inR lo hi x = false) := ⟨decide_eq_false (fun h => hl h.1)⟩
    have hk1 : ((x.f1.length : Int) == 1) = false := by simp; omega
    go_enter Tryz.func166, Tryz.ntmps166
    go_wp2
    go_quiet (fail)
    go_wp2
    go_ret
    exact ⟨by rw [HX.out]; first | rfl | (simp; omega), hb0 _ _⟩
end Go.Proofs.YtipmmkelialgkaaGreatDoor.Loc
set_option linter.unusedVariables false
set_option linter.unusedSimpArgs false
namespace Go.Proofs.YtipmmkelialgkaaGreatDoor.Loc
open Go.RowKit Go.Lib Go.Proofs.YtipmmkelialgkaaGreatDoorW.PrintWords Go.Proofs.YtipmmkelialgkaaGreatDoorW.PrintLast Go.Proofs.YtipmmkelialgkaaGreatDoorW.PrintMore Go.Proofs.YtipmmkelialgkaaGreatDoor.Lex

/-- An element behind the others, or why not. -/
def putF (od : List Elm) (x0 : ByteArray) (x1 : List Int) : Int ⊕ List Elm :=
  if od.any (fun y => decide (y.f1 = x1)) = true then .inl 32 else if 500 ≤ od.length then .inl 3 else .inr (od ++ [(⟨x0, x1, (od.length : Int)⟩ : Elm)])
/-- Scalars from c on, so many numbers. -/
def rowL : Nat → Nat → List Elm → Int ⊕ List Elm
  | 0, _, od => .inr od
  | n + 1, c, od => if rightN c then (match putF od ⟨#[]⟩ [(c : Int)] with | .inl e => .inl e | .inr od' => rowL n (c + 1) od') else rowL n (c + 1) od
def rowF (t u : Tok) (od : List Elm) : (Int × Int) ⊕ List Elm :=
  if u.f0 ≠ 3 then .inl (30, u.f3) else if u.f2 < t.f2 then .inl (30, u.f3) else if od.any (inR t.f2 u.f2) = true then .inl (32, t.f3) else match rowL (u.f2 - t.f2 + 1).toNat t.f2.toNat od with
    | .inl e => .inl (e, t.f3)
    | .inr od' => .inr od'
/-- What a reading function tells: it is stopped, or goes on with an order. -/
def ResP (E : Env) (i : Nat) (cl : List Cls) (w : World) (r : (Int × Int) ⊕ List Elm) (en : Ending) (w' : World) : Prop := match r with
  | .inl ep => en = .panicked [wrongW ep.1 ep.2] ∧ Fr E.B E.g w w'
  | .inr od' => en = .returned (.tuple #[]) ∧ Rd E i cl od' (fun _ => True) w' ∧ Fr E.B E.g w w' ∧ Keep E w w'

theorem ResP.stop {E : Env} {i : Nat} {cl : List Cls} {w w' : World} {e p : Int} (hf : Fr E.B E.g w w') : ResP E i cl w (.inl (e, p)) (.panicked [wrongW e p]) w' := ⟨rfl, hf⟩
theorem ResP.go {E : Env} {i : Nat} {cl : List Cls} {w w' : World} {od : List Elm} (h : Rd E i cl od (fun _ => True) w') (hf : Fr E.B E.g w w') (hk : Keep E w w') : ResP E i cl w (.inr od) (.returned (.tuple #[])) w' := ⟨rfl, h, hf, hk⟩
theorem one_cell {W : World} {base g : Nat} {c : Int} (hb : base ≤ g) (h : W.heap[g]? = some (.cells #[.int .i32 c] 40 (0, 0))) : kI.R 40 W base (fun _ => True) (.slice (some ⟨g, 0, none⟩) 1 1) [c] :=
  Kd.R_of_own (xs := [c]) ⟨rfl, .inr ⟨g, 1, _, rfl, hb, h, Nat.le_refl _, by decide, rfl, rfl⟩⟩ (fun _ _ => trivial)
theorem two_boxes (w2 : World) (ob o : Obj) : ((((w2.alloc ob).drew).alloc o).alloc o).heap[w2.heap.size + 1]? = some o ∧ ((((w2.alloc ob).drew).alloc o).alloc o).heap[w2.heap.size + 1 + 1]? = some o ∧ Below (w2.heap.size + 1) (w2.alloc ob) ((((w2.alloc ob).drew).alloc o).alloc o) := by
  refine ⟨?_, ?_, ?_⟩
  · have := blk_alloc (blk_new (w2.alloc ob).drew o) o
    simpa [World.drew] using this
  · have := blk_new ((w2.alloc ob).drew.alloc o) o
    simpa [World.drew] using this
  · exact (((Below.refl _ _).drew).alloc (by simp [World.drew]) _).alloc (by simp [World.drew]) _
theorem Rd.old {E : Env} {i : Nat} {cl : List Cls} {od : List Elm} {ok : Nat → Prop} {w w1 : World} (h : Rd E i cl od ok w) (hb : Below w.heap.size w w1) {k : Nat} (hk : w.heap.size ≤ k) : Rd E i cl od (fun j => some j ≠ some k) w1 := by
  obtain ⟨vo, h1, h2, h3⟩ := h.st
  have h' := h.below hb
  have hg := h.gB
  have hBs := h.Bs
  exact { h' with st := ⟨vo, (hb.block _ (by omega)).trans h1, Kd.S_below h2 hb, Kd.S_mono (Kd.S_old h3 hb) (fun j hj e => by
    have := Option.some.inj e
    have := hj.2
    omega)⟩ }

theorem rowL_step (b c : Nat) (od : List Elm) (h : c ≤ b) : rowL (b + 1 - c) c od = if rightN c then (match putF od ⟨#[]⟩ [(c : Int)] with | .inl e => .inl e | .inr od' => rowL (b + 1 - (c + 1)) (c + 1) od') else rowL (b + 1 - (c + 1)) (c + 1) od := by
  have e : b + 1 - c = (b + 1 - (c + 1)) + 1 := by omega
  rw [e, rowL]
theorem rowL_end (b : Nat) (od : List Elm) : rowL (b + 1 - (b + 1)) (b + 1) od = .inr od := by
  rw [Nat.sub_self, rowL]
theorem box4 {w : World} {b : Nat} {v0 v1 v2 v3 : Value} {t : TypeId} (h : w.heap[b]? = some (.cells #[v0, v1, v2, v3] t (0, 0))) : w.cell? ⟨b, 0, none⟩ = some v0 ∧ w.cell? ⟨b, 1, none⟩ = some v1 ∧ w.cell? ⟨b, 2, none⟩ = some v2 ∧ w.cell? ⟨b, 3, none⟩ = some v3 ∧ b < w.heap.size := by
  refine ⟨?_, ?_, ?_, ?_, (Array.getElem?_eq_some_iff.1 h).1⟩ <;> simp [World.cell?, h]

set_option maxRecDepth 100000 in
set_option maxHeartbeats 4000000 in
theorem row_calls {E : Env} {i : Nat} {cl : List Cls} {od : List Elm} (t u : Tok) (w : World) (h : Rd E i cl od (fun _ => True) w) (hu : E.L[i]? = some u) (a b : Nat) (ha : t.f2 = a) (hb : u.f0 = 3 → u.f2 = b) (ha1 : a ≤ 1114111) (hb1 : b ≤ 1114111) (hl : od.length ≤ 500) :
    Calls Tryz.prog 122 #[.pointer (some ⟨E.g, 0, none⟩), tokV t] w (ResP E (i + 1) cl w (rowF t u od)) := by
  have hgs : E.g < w.heap.size := Nat.lt_of_lt_of_le h.gB h.Bs
  have hBs := h.Bs
  have hgB := h.gB
  have hbx : Below w.heap.size w (w.alloc (.cells #[.int .u8 t.f0, .string t.f1, .int .i64 t.f2, .int .i64 t.f3] 63)) := (Below.refl _ _).alloc (Nat.le_refl _) _
  have HR := Aside0.mk (h.below hbx)
  have HBX := Aside0.mk hbx
  have HU := Aside0.mk hu
  clear h hbx hu
  by_cases h3 : u.f0 = 3
  · have hb2 := hb h3
    have H3 := Aside0.mk h3
    clear hb h3
    have HT := Aside0.mk ha
    by_cases hab : b < a
    · have hr : rowF t u od = .inl (30, u.f3) := by
        unfold rowF
        rw [if_neg (fun h => h H3.out), if_pos (by omega)]
      rw [hr]
      have hlt : u.f2 < t.f2 := by omega
      clear hr ha hb2
      unfold tokV
      go_enter Tryz.func122, Tryz.ntmps122
      go_wp2_with fail
      refine (take_calls _ HR.out u HU.out 3).mono ?_
      intro e w2 hp
      unfold TakePost at hp
      rw [if_pos H3.out] at hp
      obtain ⟨rfl, hR2, hf2, hk2⟩ := hp
      have kb : w2.heap[w.heap.size]? = some (.cells #[.int .u8 t.f0, .string t.f1, .int .i64 t.f2, .int .i64 t.f3] 63 (0, 0)) := hk2.box (blk_new _ _) (by omega) (by decide)
      have k2 : w2.cell? ⟨w.heap.size, 2, none⟩ = some (.int .i64 t.f2) := by simp [World.cell?, kb]
      have hws : w.heap.size < w2.heap.size := Nat.lt_of_lt_of_le (by simp) hf2.size
      have HF2 := Aside0.mk hf2
      have hz : E.B ≤ w2.heap.size := hR2.Bs
      clear hR2 hf2 hk2 kb
      unfold tokV
      go_wp2_with (go_at_call 29; refine (fail_calls 30 u _).mono ?_; rintro e w5 ⟨rfl, hb5⟩; have HB5 := Aside0.mk hb5; clear hb5)
      refine ⟨rfl, ResP.stop (((Fr.of_below (HBX.out.mono hBs)).trans HF2.out).trans ((Fr.alloc _ _ hz).trans (Fr.of_below (HB5.out.mono ?_))))⟩
      simp
      omega
    · have hr : rowF t u od = if od.any (inR t.f2 u.f2) = true then .inl (32, t.f3) else match rowL (b + 1 - a) a od with
          | .inl e => .inl (e, t.f3)
          | .inr od' => .inr od' := by
        unfold rowF
        rw [if_neg (fun h => h H3.out), if_neg (by omega), hb2, ha, show ((b : Int) - (a : Int) + 1).toNat = b + 1 - a by omega, Int.toNat_natCast]
      obtain ⟨r, hr0⟩ : ∃ r, rowF t u od = r := ⟨_, rfl⟩
      rw [hr0]
      have HRR := Aside0.mk (hr0.symm.trans hr)
      clear hr0
      have hlt : t.f2 ≤ u.f2 := by omega
      have hwa : IntKind.i32.wrap t.f2 = t.f2 := IntWalk.i32_in _ (by omega)
      have hwb : IntKind.i32.wrap u.f2 = u.f2 := IntWalk.i32_in _ (by omega)
      have HT2 := Aside0.mk hb2
      clear hr ha hb2
      unfold tokV
      go_enter Tryz.func122, Tryz.ntmps122
      go_wp2_with fail
      refine (take_calls _ HR.out u HU.out 3).mono ?_
      intro e w2 hp
      unfold TakePost at hp
      rw [if_pos H3.out] at hp
      obtain ⟨rfl, hR2, hf2, hk2⟩ := hp
      have kb : w2.heap[w.heap.size]? = some (.cells #[.int .u8 t.f0, .string t.f1, .int .i64 t.f2, .int .i64 t.f3] 63 (0, 0)) := hk2.box (blk_new _ _) (by omega) (by decide)
      have k2 : w2.cell? ⟨w.heap.size, 2, none⟩ = some (.int .i64 t.f2) := by simp [World.cell?, kb]
      have hws : w.heap.size < w2.heap.size := Nat.lt_of_lt_of_le (by simp) hf2.size
      have hws2 : w.heap.size < w2.heap.size + 1 := by omega
      have hws3 : w.heap.size < w2.heap.size + 1 + 1 := by omega
      have hz : E.B ≤ w2.heap.size := hR2.Bs
      have HKB := Aside0.mk kb
      have HR2 := Aside0.mk hR2
      have HF2 := Aside0.mk ((Fr.of_below (HBX.out.mono hBs)).trans hf2)
      have HK2 := Aside0.mk ((Keep.of_below HBX.out).trans hk2)
      clear hR2 hf2 hk2 kb
      unfold tokV
      go_wp2
      refine start_ (n := 10) (S := fun w' => w'.cell? ⟨w.heap.size, 2, none⟩ = some (.int .i64 t.f2) ∧ w'.cell? ⟨w2.heap.size, 2, none⟩ = some (.int .i64 u.f2)) (ds := []) #[false, false, false, false, false, false, false, false, false, false] (by kernel_rfl) rfl rfl ⟨(by go_simp), (by go_simp)⟩ (fun hHeld => ?_)
      refine pure_ (i := 0) (N := some 17) (v := ?_) (a' := ?_) #[true, false, false, false, false, false, false, false, false, false] rfl rfl (by kernel_rfl) (fun _ _ _ h => h) (Or.inl ⟨by rfl, ?_⟩) ?_ ?_
      rotate_left
      · intro w'
        go_simp
        with_reducible rfl
      rotate_left
      · simp only [Act.put, List.setIfInBounds_toArray, List.set_cons_zero, List.set_cons_succ, i64_w, i32_w]
        rfl
      refine pure_ (i := 3) (N := some 20) (v := ?_) (a' := ?_) #[true, false, false, true, false, false, false, false, false, false] rfl rfl (by kernel_rfl) (fun _ _ _ h => h) (Or.inl ⟨by rfl, ?_⟩) ?_ ?_
      rotate_left
      · intro w'
        go_simp
        with_reducible rfl
      rotate_left
      · simp only [Act.put, List.setIfInBounds_toArray, List.set_cons_zero, List.set_cons_succ, i64_w, i32_w]
        rfl
      refine take_ (i := 1) (N := some 18) (v := ?_) (a' := ?_) #[true, true, false, true, false, false, false, false, false, false] rfl rfl (by kernel_rfl) (fun _ _ _ h => h) (Or.inl ⟨by rfl, ?_⟩) hHeld ?_ ?_
      rotate_left
      · rintro w' ⟨s0, s1⟩
        go_simp
        with_reducible rfl
      rotate_left
      · simp only [Act.put, List.setIfInBounds_toArray, List.set_cons_zero, List.set_cons_succ, i64_w, i32_w]
        rfl
      refine pure_ (i := 2) (N := some 19) (v := ?_) (a' := ?_) #[true, true, true, true, false, false, false, false, false, false] rfl rfl (by kernel_rfl) (fun _ _ _ h => h) (Or.inl ⟨by rfl, ?_⟩) ?_ ?_
      rotate_left
      · intro w'
        go_simp
        with_reducible rfl
      rotate_left
      · simp only [Act.put, List.setIfInBounds_toArray, List.set_cons_zero, List.set_cons_succ, i64_w, i32_w]
        rfl
      refine take_ (i := 4) (N := some 21) (v := ?_) (a' := ?_) #[true, true, true, true, true, false, false, false, false, false] rfl rfl (by kernel_rfl) (fun _ _ _ h => h) (Or.inl ⟨by rfl, ?_⟩) hHeld ?_ ?_
      rotate_left
      · rintro w' ⟨s0, s1⟩
        go_simp
        with_reducible rfl
      rotate_left
      · simp only [Act.put, List.setIfInBounds_toArray, List.set_cons_zero, List.set_cons_succ, i64_w, i32_w]
        rfl
      refine pure_ (i := 5) (N := some 22) (v := ?_) (a' := ?_) #[true, true, true, true, true, true, false, false, false, false] rfl rfl (by kernel_rfl) (fun _ _ _ h => h) (Or.inl ⟨by rfl, ?_⟩) ?_ ?_
      rotate_left
      · intro w'
        go_simp
        with_reducible rfl
      rotate_left
      · simp only [Act.put, List.setIfInBounds_toArray, List.set_cons_zero, List.set_cons_succ, i64_w, i32_w]
        rfl
      refine join_ (σ := Nat × Nat) 2 #[true, true, true, true, true, true, true, true, false, false] (fun s => [(5, .pointer (some ⟨s.1, 0, none⟩)), (6, .pointer (some ⟨s.2, 0, none⟩))]) (fun s w' => w'.heap[s.1]? = some (.cells #[.int .i32 0] 40 (0, 0)) ∧ w'.heap[s.2]? = some (.cells #[.int .i32 0] 40 (0, 0)) ∧ s.1 ≠ s.2 ∧ w2.heap.size + 1 ≤ s.1 ∧ w2.heap.size + 1 ≤ s.2 ∧ Below (w2.heap.size + 1) (w2.alloc (.cells #[.int .u8 u.f0, .string u.f1, .int .i64 u.f2, .int .i64 u.f3] 63)) w') ?_ ?_
      rotate_left
      · intro hCont
        refine two_ (i := 6) (j := 7) (Ni := some 5) (Nj := some 6) #[true, true, true, true, true, true, true, false, false, false] #[true, true, true, true, true, true, false, true, false, false] rfl rfl rfl rfl (by kernel_rfl) (by decide) (by decide) (fun K hK => ?_) (fun K hK => ?_)
        · skip
          refine value_ (w1 := ?_) (v := ?_) (by rfl) rfl ?_ ?_
          rotate_left 2
          · go_simp
            constructor
            · rfl
            · rfl
          refine hK.out _ _ ⟨(by go_simp), (by go_simp)⟩ (fun hHeld => ?_)
          clear hK K
          refine norm_ (a' := ?_) ?_ ?_
          rotate_left
          · show Act.put _ (some 5) _ = _
            simp only [Act.put, List.setIfInBounds_toArray, List.set_cons_zero, List.set_cons_succ, i64_w, i32_w]
            rfl
          refine one_ (i := 7) (N := some 6) #[true, true, true, true, true, true, true, true, false, false] rfl rfl (by kernel_rfl) (by decide) (fun K hK => ?_)
          refine value_ (w1 := ?_) (v := ?_) (by rfl) rfl ?_ ?_
          rotate_left 2
          · go_simp
            constructor
            · rfl
            · rfl
          refine hK.out _ _ ⟨(by go_simp), (by go_simp)⟩ (fun hHeld => ?_)
          clear hK K
          refine norm_ (a' := ?_) ?_ ?_
          rotate_left
          · show Act.put _ (some 6) _ = _
            simp only [Act.put, List.setIfInBounds_toArray, List.set_cons_zero, List.set_cons_succ, i64_w, i32_w]
            rfl
          exact norm_ (by simp only [putAll, Act.put, List.setIfInBounds_toArray, List.set_cons_zero, List.set_cons_succ]) (hCont (w2.heap.size + 1, w2.heap.size + 1 + 1) _ ⟨(two_boxes w2 (.cells #[.int .u8 u.f0, .string u.f1, .int .i64 u.f2, .int .i64 u.f3] 63) (.cells #[.int .i32 0] 40)).1, (two_boxes w2 (.cells #[.int .u8 u.f0, .string u.f1, .int .i64 u.f2, .int .i64 u.f3] 63) (.cells #[.int .i32 0] 40)).2.1, by simp, Nat.le_refl _, by simp, (two_boxes w2 (.cells #[.int .u8 u.f0, .string u.f1, .int .i64 u.f2, .int .i64 u.f3] 63) (.cells #[.int .i32 0] 40)).2.2⟩)
        · skip
          refine value_ (w1 := ?_) (v := ?_) (by rfl) rfl ?_ ?_
          rotate_left 2
          · go_simp
            constructor
            · rfl
            · rfl
          refine hK.out _ _ ⟨(by go_simp), (by go_simp)⟩ (fun hHeld => ?_)
          clear hK K
          refine norm_ (a' := ?_) ?_ ?_
          rotate_left
          · show Act.put _ (some 6) _ = _
            simp only [Act.put, List.setIfInBounds_toArray, List.set_cons_zero, List.set_cons_succ, i64_w, i32_w]
            rfl
          refine one_ (i := 6) (N := some 5) #[true, true, true, true, true, true, true, true, false, false] rfl rfl (by kernel_rfl) (by decide) (fun K hK => ?_)
          refine value_ (w1 := ?_) (v := ?_) (by rfl) rfl ?_ ?_
          rotate_left 2
          · go_simp
            constructor
            · rfl
            · rfl
          refine hK.out _ _ ⟨(by go_simp), (by go_simp)⟩ (fun hHeld => ?_)
          clear hK K
          refine norm_ (a' := ?_) ?_ ?_
          rotate_left
          · show Act.put _ (some 5) _ = _
            simp only [Act.put, List.setIfInBounds_toArray, List.set_cons_zero, List.set_cons_succ, i64_w, i32_w]
            rfl
          exact norm_ (by simp only [putAll, Act.put, List.setIfInBounds_toArray, List.set_cons_zero, List.set_cons_succ]) (hCont (w2.heap.size + 1 + 1, w2.heap.size + 1) _ ⟨(two_boxes w2 (.cells #[.int .u8 u.f0, .string u.f1, .int .i64 u.f2, .int .i64 u.f3] 63) (.cells #[.int .i32 0] 40)).2.1, (two_boxes w2 (.cells #[.int .u8 u.f0, .string u.f1, .int .i64 u.f2, .int .i64 u.f3] 63) (.cells #[.int .i32 0] 40)).1, by simp, by simp, Nat.le_refl _, (two_boxes w2 (.cells #[.int .u8 u.f0, .string u.f1, .int .i64 u.f2, .int .i64 u.f3] 63) (.cells #[.int .i32 0] 40)).2.2⟩)
      rintro ⟨p5, p6⟩ w5 ⟨j5, j6, jne, l5, l6, jb⟩
      dsimp only at j5 j6 jne l5 l6
      have x5 : w5.cell? ⟨p5, 0, none⟩ = some (.int .i32 0) := by simp [World.cell?, j5]
      have x6 : w5.cell? ⟨p6, 0, none⟩ = some (.int .i32 0) := by simp [World.cell?, j6]
      have y5 : w5.frozen? ⟨p5, 0, none⟩ = false := by simp [World.frozen?, j5]
      have y6 : w5.frozen? ⟨p6, 0, none⟩ = false := by simp [World.frozen?, j6]
      have q1 : w5.cell? ⟨w.heap.size, 2, none⟩ = some (.int .i64 t.f2) := (jb.cell (p := ⟨w.heap.size, 2, none⟩) (by show w.heap.size < w2.heap.size + 1; omega)).trans (by go_simp)
      have q2 : w5.cell? ⟨w2.heap.size, 2, none⟩ = some (.int .i64 u.f2) := (jb.cell (p := ⟨w2.heap.size, 2, none⟩) (by show w2.heap.size < w2.heap.size + 1; omega)).trans (by go_simp)
      have n1 : p5 ≠ w.heap.size := by omega
      have n2 : p5 ≠ w2.heap.size := by omega
      have n3 : p6 ≠ w.heap.size := by omega
      have n4 : p6 ≠ w2.heap.size := by omega
      have n5 : p6 ≠ p5 := fun e => jne e.symm
      have J5 := Aside0.mk j5
      have J6 := Aside0.mk j6
      have JB := Aside0.mk jb
      clear j5 j6 jb
      have hHeld := And.intro q1 q2
      refine norm_ (a' := ?_) ?_ ?_
      rotate_left
      · simp only [putAll, Act.put, List.setIfInBounds_toArray, List.set_cons_zero, List.set_cons_succ]
        rfl
      refine one_ (i := 8) (N := none) #[true, true, true, true, true, true, true, true, true, false] rfl rfl (by kernel_rfl) (by decide) (fun K hK => ?_)
      refine skip_ (w1 := ?_) (by rfl) rfl ?_ ?_
      rotate_left
      · go_simp
        rfl
      refine hK.out _ _ ⟨(by go_simp), (by go_simp)⟩ (fun hHeld => ?_)
      clear hK K
      refine one_ (i := 9) (N := none) #[true, true, true, true, true, true, true, true, true, true] rfl rfl (by kernel_rfl) (by decide) (fun K hK => ?_)
      refine skip_ (w1 := ?_) (by rfl) rfl ?_ ?_
      rotate_left
      · go_simp
        rfl
      refine hK.out _ _ ⟨(by go_simp), (by go_simp)⟩ (fun hHeld => ?_)
      clear hK K
      refine done_ (by kernel_rfl) ?_
      have hsz3 : (w2.alloc (.cells #[.int .u8 u.f0, .string u.f1, .int .i64 u.f2, .int .i64 u.f3] 63)).heap.size = w2.heap.size + 1 := by simp
      obtain ⟨w7, hw7, hR7, g5, g6, gb, hb7⟩ : ∃ w7, w7 = ((w5.setCell ⟨p5, 0, none⟩ (.int .i32 t.f2)).setCell ⟨p6, 0, none⟩ (.int .i32 u.f2)) ∧ Rd E (i + 1) cl od (fun _ => True) w7 ∧ w7.heap[p5]? = some (.cells #[.int .i32 t.f2] 40 (0, 0)) ∧ w7.heap[p6]? = some (.cells #[.int .i32 u.f2] 40 (0, 0)) ∧
          w7.heap[w.heap.size]? = some (.cells #[.int .u8 t.f0, .string t.f1, .int .i64 t.f2, .int .i64 t.f3] 63 (0, 0)) ∧ Below w2.heap.size w2 w7 := by
        have jb' : Below (w2.alloc (.cells #[.int .u8 u.f0, .string u.f1, .int .i64 u.f2, .int .i64 u.f3] 63)).heap.size (w2.alloc (.cells #[.int .u8 u.f0, .string u.f1, .int .i64 u.f2, .int .i64 u.f3] 63)) w5 := by
          rw [hsz3]
          exact JB.out
        have r3 := HR2.out.alloc (.cells #[.int .u8 u.f0, .string u.f1, .int .i64 u.f2, .int .i64 u.f3] 63)
        have bb : Below w2.heap.size w2 w5 := ((Below.refl _ _).alloc (Nat.le_refl _) _).trans (JB.out.mono (Nat.le_succ _))
        refine ⟨_, rfl, r3.set_new (jb'.setCell (p := ⟨p5, 0, none⟩) (by rw [hsz3]; exact l5) _) (by rw [hsz3]; exact l6) 0 _, ?_, ?_, ?_, ?_⟩
        · simp [World.setCell, Array.getElem?_modify, J5.out, jne, jne.symm]
        · simp [World.setCell, Array.getElem?_modify, J6.out, jne, jne.symm]
        · refine (Below.heap_setCell _ _ _ _ (by show w.heap.size ≠ p6; omega)).trans ((Below.heap_setCell _ _ _ _ (by show w.heap.size ≠ p5; omega)).trans ?_)
          exact (bb.block _ hws).trans HKB.out
        · exact (bb.setCell (p := ⟨p5, 0, none⟩) (by show w2.heap.size ≤ p5; omega) _).setCell (p := ⟨p6, 0, none⟩) (by show w2.heap.size ≤ p6; omega) _
      rw [← hw7]
      have HF7 := Aside0.mk (HF2.out.trans (Fr.of_below (hb7.mono hz)))
      have HK7 := Aside0.mk (HK2.out.trans (Keep.of_below hb7))
      have hz7 : E.B ≤ w7.heap.size := hR7.Bs
      clear hw7 hb7 x5 x6 y5 y6 q1 q2 n1 n2 n3 n4 n5 J5 J6 JB hHeld HKB k2 HR2 HF2 HK2 hsz3 hws2 hws3
      obtain ⟨vo, h1, h2, h3⟩ := hR7.st
      obtain ⟨Ao, co, rfl, hco, hC⟩ := Kd.S_reads h3
      have c3 : w7.cell? ⟨E.g, 3, none⟩ = some (.slice Ao od.length co) := by simp [World.cell?, h1, rdObj]
      have HC := Aside0.mk hC
      have HR7 := Aside0.mk hR7
      have G5 := Aside0.mk g5
      have G6 := Aside0.mk g6
      have GB := Aside0.mk gb
      have hmf : ∀ (fn : Fn) (first cap : Array Value) (w : World), (Instr.makeFunc fn first cap).run Tryz.prog w = .ok (.func fn first cap) w := fun _ _ _ _ => rfl
      clear h1 h2 h3 hC hR7 g5 g6 gb
      go_wp2_with fail
      refine (containsE_calls 166 _ (enters_of Tryz.func166 (by kernel_rfl) rfl) (inR t.f2 u.f2) _ HC.out (by omega) (row1_says _ G5.out G6.out)).mono ?_
      rintro e w8 ⟨rfl, hb8⟩
      have s5 : p5 < w7.heap.size := (Array.getElem?_eq_some_iff.1 G5.out).1
      have s6 : p6 < w7.heap.size := (Array.getElem?_eq_some_iff.1 G6.out).1
      have sb : w.heap.size < w7.heap.size := (Array.getElem?_eq_some_iff.1 GB.out).1
      have b5 := (hb8.block p5 s5).trans G5.out
      have b6 := (hb8.block p6 s6).trans G6.out
      have bb := (hb8.block w.heap.size sb).trans GB.out
      have HR8 := Aside0.mk (HR7.out.below hb8)
      have HF8 := Aside0.mk (HF7.out.trans (Fr.of_below (hb8.mono hz7)))
      have HK8 := Aside0.mk (HK7.out.trans (Keep.of_below hb8))
      clear hb8 HC HR7 G5 G6 GB HF7 HK7 c3 s5 s6 sb hmf
      cases hany : od.any (inR t.f2 u.f2) with
      | true =>
        have HANY := Aside0.mk hany
        clear hany
        obtain ⟨k0, k1, k2, k3, _⟩ := box4 bb
        go_wp2_with (go_at_call 29; refine (fail_calls 32 t _).mono ?_; rintro e w9 ⟨rfl, hb9⟩; have HB9 := Aside0.mk hb9; clear hb9)
        refine ⟨rfl, ?_⟩
        rw [HRR.out, HANY.out, if_pos rfl]
        exact ResP.stop (HF8.out.trans (Fr.of_below (HB9.out.mono HR8.out.Bs)))
      | false =>
        have HRL : Aside0 (r = match rowL (b + 1 - a) a od with
          | .inl e => .inl (e, t.f3)
          | .inr od' => .inr od') := ⟨by rw [HRR.out, hany, if_neg Bool.false_ne_true]⟩
        have HB5 := Aside0.mk b5
        have HB6 : Aside0 (w8.heap[p6]? = some (.cells #[.int .i32 (b : Int)] 40 (0, 0))) := ⟨by rw [b6, HT2.out]⟩
        have HBB := Aside0.mk bb
        have c5 : w8.cell? ⟨p5, 0, none⟩ = some (.int .i32 (a : Int)) := by rw [← HT.out]; exact box1 b5
        clear b5 b6 bb hany
        have hab' : a ≤ b := by omega
        go_wp2
        clear c5
        go_loopg [7] (b + 1 - a) (fun gk v wx => ∃ (c : Nat) (od' : List Elm), v = .int .i32 c ∧ a ≤ c ∧ c ≤ b + 1 ∧ b + 1 ≤ c + gk ∧ od'.length ≤ 500 ∧ Aside0 (rowL (b + 1 - a) a od = rowL (b + 1 - c) c od') ∧ Aside0 (Rd E (i + 1) cl od' (fun _ => True) wx) ∧ Aside0 (Fr E.B E.g w wx) ∧ Aside0 (Keep E w wx) ∧
          Aside0 (wx.heap[p6]? = some (.cells #[.int .i32 (b : Int)] 40 (0, 0))) ∧ Aside0 (wx.heap[w.heap.size]? = some (.cells #[.int .u8 t.f0, .string t.f1, .int .i64 t.f2, .int .i64 t.f3] 63 (0, 0))))
        case atStart => exact ⟨a, od, rfl, by omega, by omega, by omega, hl, ⟨rfl⟩, HR8, HF8, HK8, HB6, HBB⟩
        case round =>
          obtain ⟨c, od', rfl, hc1, hc2, hg, hl', HS, HRr, HFr, HKr, H6r, HBr⟩ := hrel
          have c6 := box1 H6r.out
          have hc0 : (0 : Int) ≤ c := by omega
          by_cases hcb : c ≤ b
          · obtain ⟨g', rfl⟩ : ∃ g', gk = g' + 1 := ⟨gk - 1, by omega⟩
            have hle : (c : Int) ≤ b := by omega
            have hc7 : (c : Int) ≤ 1114111 := by omega
            have HST : Aside0 _ := ⟨rowL_step b c od' hcb⟩
            cases hrn : rightN c with
            | false =>
              have HN := Aside0.mk hrn
              have HSN : Aside0 (rowL (b + 1 - a) a od = rowL (b + 1 - (c + 1)) (c + 1) od') := ⟨by rw [HS.out, HST.out, hrn, if_neg Bool.false_ne_true]⟩
              clear hrn HST
              go_wp2_with (go_at_call 77; refine (right_calls c (by omega) _).mono ?_; rintro e w' ⟨rfl, rfl⟩; rw [HN.out])
              go_roundg g'
              case measure => omega
              case rel => exact ⟨c + 1, od', rfl, by omega, by omega, by omega, hl', HSN, HRr, HFr, HKr, H6r, HBr⟩
            | true =>
              have HN := Aside0.mk hrn
              have HSN : Aside0 (rowL (b + 1 - a) a od = match putF od' ⟨#[]⟩ [(c : Int)] with | .inl e => .inl e | .inr od2 => rowL (b + 1 - (c + 1)) (c + 1) od2) := ⟨by rw [HS.out, HST.out, hrn, if_pos rfl]⟩
              clear hrn HST
              obtain ⟨k0, k1, k2, k3, kl⟩ := box4 HBr.out
              go_wp2_with (first
                | (go_at_call 77; refine (right_calls c (by omega) _).mono ?_; rintro e w' ⟨rfl, rfl⟩; rw [HN.out])
                | fail)
              have hbn := (Below.refl w'.heap.size w').alloc (Nat.le_refl _) (.cells #[.int .i32 (c : Int)] 40)
              have HBN := Aside0.mk hbn
              clear hbn
              refine (put_calls ⟨#[]⟩ [(c : Int)] 0 (some ⟨w'.heap.size, 0, none⟩) 1 t _ (HRr.out.old HBN.out (Nat.le_refl _)) (one_cell HRr.out.Bs (blk_new _ _)) (by omega)).mono ?_
              intro e w9 hp
              have HF1 := Aside0.mk (HFr.out.trans (Fr.of_below (HBN.out.mono HRr.out.Bs)))
              have HK1 := Aside0.mk (HKr.out.trans (Keep.of_below HBN.out))
              have B6 := Aside0.mk ((HBN.out.block p6 (Array.getElem?_eq_some_iff.1 H6r.out).1).trans H6r.out)
              have BB := Aside0.mk ((HBN.out.block w.heap.size kl).trans HBr.out)
              have ng6 := Aside0.mk (show p6 ≠ E.g by omega)
              have ngb := Aside0.mk (show w.heap.size ≠ E.g by omega)
              clear k0 k1 k2 k3 kl c6
              rcases hp with ⟨h1, rfl, hf⟩ | ⟨h1, h2, rfl, hf⟩ | ⟨h1, h2, rfl, hR, hf, hk⟩
              · have HE := Aside0.mk (show putF od' ⟨#[]⟩ [(c : Int)] = .inl 32 by unfold putF; rw [if_pos h1])
                have HF9 := Aside0.mk (HF1.out.trans hf)
                clear h1 hf
                go_wp2
                refine ⟨rfl, ?_⟩
                rw [HRL.out, HSN.out, HE.out]
                exact ResP.stop HF9.out
              · have HE := Aside0.mk (show putF od' ⟨#[]⟩ [(c : Int)] = .inl 3 by unfold putF; rw [h1, if_neg Bool.false_ne_true, if_pos h2])
                have HF9 := Aside0.mk (HF1.out.trans hf)
                clear h1 h2 hf
                go_wp2
                refine ⟨rfl, ?_⟩
                rw [HRL.out, HSN.out, HE.out]
                exact ResP.stop HF9.out
              · have HE := Aside0.mk (show putF od' ⟨#[]⟩ [(c : Int)] = .inr (od' ++ [(⟨⟨#[]⟩, [(c : Int)], (od'.length : Int)⟩ : Elm)]) by unfold putF; rw [h1, if_neg Bool.false_ne_true, if_neg h2])
                have HF9 := Aside0.mk (HF1.out.trans hf)
                have HK9 := Aside0.mk (HK1.out.trans hk)
                have HR9 := Aside0.mk hR
                have B69 := Aside0.mk (hk.box B6.out ng6.out (by decide))
                have BB9 := Aside0.mk (hk.box BB.out ngb.out (by decide))
                have hl9 : (od' ++ [(⟨⟨#[]⟩, [(c : Int)], (od'.length : Int)⟩ : Elm)]).length ≤ 500 := by rw [List.length_append, List.length_singleton]; omega
                have HSN2 : Aside0 (rowL (b + 1 - a) a od = rowL (b + 1 - (c + 1)) (c + 1) (od' ++ [(⟨⟨#[]⟩, [(c : Int)], (od'.length : Int)⟩ : Elm)])) := ⟨by rw [HSN.out, HE.out]⟩
                clear h1 h2 hf hR hk
                go_wp2
                go_roundg g'
                case measure => omega
                case rel => exact ⟨c + 1, _, rfl, by omega, by omega, by omega, hl9, HSN2, HR9, HF9, HK9, B69, BB9⟩
          · obtain rfl : c = b + 1 := by omega
            have hlt' : (b : Int) < ((b + 1 : Nat) : Int) := by omega
            go_wp2
            refine ⟨rfl, .tuple #[], by simp [results, Tryz.results122], ?_⟩
            rw [HRL.out, HS.out, rowL_end]
            exact ResP.go HRr.out HFr.out HKr.out
  · have hr : rowF t u od = .inl (30, u.f3) := by
      unfold rowF
      rw [if_pos h3]
    rw [hr]
    have H3 := Aside0.mk h3
    clear h3 hb hr ha
    unfold tokV
    go_enter Tryz.func122, Tryz.ntmps122
    go_wp2_with fail
    refine (take_calls _ HR.out u HU.out 3).mono ?_
    intro e w2 hp
    unfold TakePost at hp
    rw [if_neg H3.out] at hp
    obtain ⟨rfl, hf2⟩ := hp
    have HF2 := Aside0.mk hf2
    clear hf2
    go_wp2
    exact ⟨rfl, ResP.stop ((Fr.of_below (HBX.out.mono hBs)).trans HF2.out)⟩
end Go.Proofs.YtipmmkelialgkaaGreatDoor.Loc
