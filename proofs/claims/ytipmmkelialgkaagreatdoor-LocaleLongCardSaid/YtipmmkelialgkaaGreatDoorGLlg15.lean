/- (*locale.reader).order, where a row follows: an item, three dots, another scalar. · A range of a class: the closure of (*locale.reader).class. -/
import Derived.Test.YtipmmkelialgkaaGreatDoorGLlg14
set_option linter.unusedVariables false
set_option linter.unusedSimpArgs false
namespace Go.Proofs.YtipmmkelialgkaaGreatDoor.Loc
open Go.RowKit Go.Lib Go.Proofs.YtipmmkelialgkaaGreatDoorW.PrintWords Go.Proofs.YtipmmkelialgkaaGreatDoorW.PrintLast Go.Proofs.YtipmmkelialgkaaGreatDoorW.PrintMore Go.Proofs.YtipmmkelialgkaaGreatDoor.Lex

def dotsB : ByteArray := ⟨#[46, 46, 46]⟩
/-- A line of an order: a row, or what is no item. -/
def orderF (t u : Tok) (od : List Elm) : (Int × Int) ⊕ List Elm := if t.f0 = 3 then rowF t u od else .inl (if t.f0 = 5 then 31 else 30, t.f3)
theorem ResP.before {E : Env} {i : Nat} {cl : List Cls} {w w1 : World} {r : (Int × Int) ⊕ List Elm} {en : Ending} {w' : World} (h : ResP E i cl w1 r en w') (hf : Fr E.B E.g w w1) (hk : Keep E w w1) : ResP E i cl w r en w' := by
  cases r with
  | inl ep => exact ⟨h.1, hf.trans h.2⟩
  | inr od' => exact ⟨h.1, h.2.1, hf.trans h.2.2.1, hk.trans h.2.2.2⟩
set_option maxRecDepth 100000 in
set_option maxHeartbeats 4000000 in
theorem order_calls {E : Env} {i : Nat} {cl : List Cls} {od : List Elm} (t v u : Tok) (w : World) (h : Rd E i cl od (fun _ => True) w) (ht : E.L[i]? = some t) (hv : t.f0 = 3 → E.L[i + 1]? = some v ∧ isB v dotsB = true ∧ E.L[i + 2]? = some u) (a b : Nat) (ha : t.f0 = 3 → t.f2 = a) (hb : u.f0 = 3 → u.f2 = b) (ha1 : a ≤ 1114111) (hb1 : b ≤ 1114111) (hl : od.length ≤ 500) (hts1 : t.f1.size ≤ 1000000) :
    Calls Tryz.prog 74 #[.pointer (some ⟨E.g, 0, none⟩)] w (ResP E (i + 3) cl w (orderF t u od)) := by
  have HR := Aside0.mk h
  have hBs := h.Bs
  have hgB := h.gB
  clear h
  have hi := item_calls w HR.out t ht (fun h3 => by have := ha h3; omega) hts1
  have HI := Aside0.mk hi
  clear hi ht
  obtain ⟨r, hr⟩ : ∃ r, orderF t u od = r := ⟨_, rfl⟩
  rw [hr]
  have HRR := Aside0.mk hr
  have HV := Aside0.mk hv
  have HA := Aside0.mk ha
  have HBb := Aside0.mk hb
  clear hr hv ha hb
  go_enter Tryz.func74, Tryz.ntmps74
  go_wp2_with fail
  refine HI.out.mono ?_
  intro e w2 hp
  rcases hp with ⟨h3, bk, rfl, hc, hbk, hR2, hf2, hk2⟩ | ⟨h3, rfl, hf2⟩
  · have hk1 : (t.f0 == 3) = true := by simp [h3]
    obtain ⟨v1, v2, v3⟩ := HV.out h3
    have hz := hR2.Bs
    have HR2 := Aside0.mk hR2
    have HF2 := Aside0.mk hf2
    have HK2 := Aside0.mk hk2
    have H3 := Aside0.mk h3
    have V1 := Aside0.mk v1
    have V2 := Aside0.mk v2
    have V3 := Aside0.mk v3
    clear hc hbk hR2 hf2 hk2 h3 v1 v2 v3 HI
    unfold tokV
    go_wp2_with fail
    have hbb : Below w2.heap.size w2 ((w2.alloc (.cells #[.string ⟨#[]⟩, .slice (some ⟨bk, 0, none⟩) 1 1, .int .i64 0] 39)).alloc (.cells #[.int .u8 t.f0, .string t.f1, .int .i64 t.f2, .int .i64 t.f3] 63)) := ((Below.refl _ _).alloc (Nat.le_refl _) _).alloc (by simp) _
    have HBB := Aside0.mk hbb
    clear hbb
    refine (is_calls _ (HR2.out.below HBB.out) v V1.out dotsB).mono ?_
    intro e w4 hp
    obtain ⟨rfl, hR4, hf4, hk4⟩ := hp
    rw [V2.out] at hR4 ⊢
    have kb : w4.heap[w2.heap.size + 1]? = some (.cells #[.int .u8 t.f0, .string t.f1, .int .i64 t.f2, .int .i64 t.f3] 63 (0, 0)) := hk4.box (by have := blk_new (w2.alloc (.cells #[.string ⟨#[]⟩, .slice (some ⟨bk, 0, none⟩) 1 1, .int .i64 0] 39)) (.cells #[.int .u8 t.f0, .string t.f1, .int .i64 t.f2, .int .i64 t.f3] 63); simpa using this) (by omega) (by decide)
    obtain ⟨k0, k1, k2, k3, kl⟩ := box4 kb
    have HR4 := Aside0.mk (hR4.weaker (ok' := fun _ => True) (fun _ _ => trivial))
    have HF4 := Aside0.mk ((HF2.out.trans (Fr.of_below (HBB.out.mono hz))).trans hf4)
    have HK4 := Aside0.mk ((HK2.out.trans (Keep.of_below HBB.out)).trans hk4)
    clear hR4 hf4 hk4 kb
    go_wp2_with fail
    refine (row_calls t u _ HR4.out V3.out a b (HA.out H3.out) HBb.out ha1 hb1 hl).mono ?_
    intro e w5 hp
    have hp2 := hp.before HF4.out HK4.out
    have e5 : rowF t u od = r := by rw [← HRR.out]; unfold orderF; rw [if_pos H3.out]
    rw [e5] at hp2
    have HP := Aside0.mk hp2
    clear hp hp2 e5 k0 k1 k2 k3
    cases r with
    | inl ep =>
      obtain ⟨rfl, hf⟩ := HP.out
      go_wp2
      exact ⟨rfl, rfl, hf⟩
    | inr od' =>
      obtain ⟨rfl, hrest⟩ := HP.out
      go_wp2
      refine ⟨rfl, .tuple #[], by simp [results, Tryz.results74], rfl, hrest⟩
  · have hr : r = .inl (if t.f0 = 5 then 31 else 30, t.f3) := by rw [← HRR.out]; unfold orderF; rw [if_neg h3]
    subst hr
    have HF2 := Aside0.mk hf2
    clear h3 hf2 HRR
    generalize (if t.f0 = 5 then (31 : Int) else 30) = c at *
    go_wp2
    exact ⟨rfl, rfl, HF2.out⟩
end Go.Proofs.YtipmmkelialgkaaGreatDoor.Loc
set_option linter.unusedVariables false
set_option linter.unusedSimpArgs false
namespace Go.Proofs.YtipmmkelialgkaaGreatDoor.Loc
open Go.RowKit Go.Lib Go.Proofs.YtipmmkelialgkaaGreatDoorW.PrintWords Go.Proofs.YtipmmkelialgkaaGreatDoorW.PrintLast Go.Proofs.YtipmmkelialgkaaGreatDoorW.PrintMore Go.Proofs.YtipmmkelialgkaaGreatDoor.Lex

/-- One item of a class: a scalar, or two with three dots between; and where the next token is. -/
def rngF (L : List Tok) (i : Nat) (lo : Tok) : (Int × Int) ⊕ (Rng × Nat) :=
  if lo.f0 ≠ 3 then .inl (30, lo.f3) else match L[i + 1]? with
    | none => .inl (0, 0)
    | some d => if isB d dotsB = false then .inr (⟨lo.f2, lo.f2⟩, i + 1) else match L[i + 2]? with
      | none => .inl (0, 0)
      | some hi => if hi.f0 ≠ 3 then .inl (30, hi.f3) else if hi.f2 < lo.f2 then .inl (30, hi.f3) else .inr (⟨lo.f2, hi.f2⟩, i + 3)
theorem infoRng : (Tryz.prog.info? 54).map (fun i => (i.zero, i.size, i.bytes)) = some (some (.agg #[.int .i32 0, .int .i32 0]), 2, 8) := by kernel_rfl
theorem Keep.rows {E : Env} {w w' : World} {v : Value} {rs : List Rng} (h : Keep E w w') (hr : kG.R 54 w E.B (fun _ => True) v rs) (hg : E.g < E.B) : kG.R 54 w' E.B (fun _ => True) v rs := by
  refine Kd.R_mono (Kd.R_step (Kd.R_bound hr) (fun k hk hlt => ?_)) (fun _ _ => trivial)
  obtain ⟨_, hb, _, q, hq, cs, hc⟩ := hk
  have hq' : q = 54 := by simpa [kG, PLoc.k54, Kd.iso, Kd.pair, Kd.int, Kd.scalar] using hq
  subst hq'
  exact h.2 k hlt (by omega) (fun cs' e => by rw [hc] at e; simp at e)
/-- Of no class nothing lies in other blocks. -/
theorem S_none {w : World} {B : Nat} {ok : Nat → Prop} {v : Value} (h : Kd.S kC 50 w B ok v []) : Kd.S kC 50 w B (fun k => some k = v.ownBlock) v [] := by
  obtain ⟨f, h1, h2⟩ := h
  refine ⟨f, fun k hk => hk.symm, ?_⟩
  obtain ⟨inner, ho, hr⟩ := h2
  refine ⟨inner, ho, ?_⟩
  exact ⟨hr.1, fun j p hj => by simp at hj⟩

/-- A class that is being read: no class is there yet; its box (bc), and the box of the reader's pointer (br). -/
structure CB (E : Env) (br bc : Nat) (i : Nat) (od : List Elm) (nm : ByteArray) (rs : List Rng) (w : World) : Prop where
  rd : Rd E i [] od (fun _ => True) w
  br1 : E.B ≤ br
  bc1 : E.B ≤ bc
  sep : some bc ≠ E.vc.ownBlock
  xr : w.heap[br]? = some (.cells #[.pointer (some ⟨E.g, 0, none⟩)] 68 (0, 0))
  xc : ∃ v, w.heap[bc]? = some (.cells #[.string nm, v] 50 (0, 0)) ∧ kG.R 54 w E.B (fun _ => True) v rs
theorem CB.keep {E : Env} {br bc i i' : Nat} {od : List Elm} {nm : ByteArray} {rs : List Rng} {w w' : World} (h : CB E br bc i od nm rs w) (hr : Rd E i' [] od (fun _ => True) w') (hk : Keep E w w') : CB E br bc i' od nm rs w' := by
  obtain ⟨v, h1, h2⟩ := h.xc
  have hg := h.rd.gB
  have b1 := h.br1
  have b2 := h.bc1
  exact { rd := hr, br1 := b1, bc1 := b2, sep := h.sep, xr := hk.box h.xr (by omega) (by decide), xc := ⟨v, hk.box h1 (by omega) (by decide), hk.rows h2 hg⟩ }
theorem Rd.other {E : Env} {i : Nat} {cl : List Cls} {od : List Elm} {w w' : World} (h : Rd E i cl od (fun _ => True) w) {b t : Nat} {cells : Array Value} (hb : w.heap[b]? = some (.cells cells t (0, 0))) (hB : E.B ≤ b) (ht : (t ≠ 50 ∧ t ≠ 54) ∧ (t ≠ 39 ∧ t ≠ 40)) (hs : w'.heap.size = w.heap.size) (hq : ∀ k, k ≠ b → w'.heap[k]? = w.heap[k]?) : Rd E i cl od (fun _ => True) w' := by
  obtain ⟨vo, h1, h2, h3⟩ := h.st
  have hg := h.gB
  have htB := h.tB
  have hmB := h.mB
  have hBs := h.Bs
  exact { h with
    Bs := by omega
    tk := h.tk.move (hq _ (by omega))
    mp := (hq _ (by omega)).trans h.mp
    st := ⟨vo, (hq _ (by omega)).trans h1, Kd.S_mono (Kd.S_move (Kd.S_types h2 hb (typesC _ ht.1)) (fun k hk => hq k hk.2)) (fun _ _ => trivial), Kd.S_mono (Kd.S_move (Kd.S_types h3 hb (typesE _ ht.2)) (fun k hk => hq k hk.2)) (fun _ _ => trivial)⟩ }
theorem CB.other {E : Env} {br bc i : Nat} {od : List Elm} {nm : ByteArray} {rs : List Rng} {w w' : World} (h : CB E br bc i od nm rs w) {b : Nat} {cells : Array Value} (hb : w.heap[b]? = some (.cells cells 63 (0, 0))) (hB : E.B ≤ b) (hs : w'.heap.size = w.heap.size) (hq : ∀ k, k ≠ b → w'.heap[k]? = w.heap[k]?) : CB E br bc i od nm rs w' := by
  obtain ⟨v, h1, h2⟩ := h.xc
  have n1 : br ≠ b := fun e => by
    have := h.xr
    rw [e, hb] at this
    simp at this
  have n2 : bc ≠ b := fun e => by
    rw [e, hb] at h1
    simp at h1
  exact { rd := h.rd.other hb hB (by decide) hs hq, br1 := h.br1, bc1 := h.bc1, sep := h.sep, xr := (hq _ n1).trans h.xr, xc := ⟨v, (hq _ n2).trans h1, Kd.R_mono (Kd.R_move (Kd.R_types h2 hb (by intro x hx; simp [kG, PLoc.k54, Kd.iso, Kd.pair, Kd.int, Kd.scalar] at hx; omega)) (fun k hk => hq k hk.2)) (fun _ _ => trivial)⟩ }
theorem set4 (w : World) (b : Nat) (u0 u1 u2 u3 v0 v1 v2 v3 : Value) (t : TypeId) (hb : w.heap[b]? = some (.cells #[v0, v1, v2, v3] t (0, 0))) :
    let W := ((((w.setCell ⟨b, 0, none⟩ u0).setCell ⟨b, 1, none⟩ u1).setCell ⟨b, 2, none⟩ u2).setCell ⟨b, 3, none⟩ u3)
    W.heap.size = w.heap.size ∧ (∀ k, k ≠ b → W.heap[k]? = w.heap[k]?) ∧ W.heap[b]? = some (.cells #[u0, u1, u2, u3] t (0, 0)) := by
  refine ⟨by simp [World.setCell], fun k hk => ?_, by simp [World.setCell, Array.getElem?_modify, hb]⟩
  exact ((((Below.heap_setCell _ ⟨b, 3, none⟩ _ k hk).trans (Below.heap_setCell _ ⟨b, 2, none⟩ _ k hk)).trans (Below.heap_setCell _ ⟨b, 1, none⟩ _ k hk)).trans (Below.heap_setCell _ ⟨b, 0, none⟩ _ k hk))
def Cls2Post (E : Env) (br bc : Nat) (od : List Elm) (nm : ByteArray) (rs : List Rng) (w : World) (r : (Int × Int) ⊕ (Rng × Nat)) (en : Ending) (w' : World) : Prop := match r with
  | .inl ep => en = .panicked [wrongW ep.1 ep.2] ∧ Fr E.B E.g w w'
  | .inr q => en = .returned (.tuple #[]) ∧ CB E br bc q.2 od nm (rs ++ [q.1]) w' ∧ Fr E.B E.g w w'
theorem Cls2Post.stop {E : Env} {br bc : Nat} {od : List Elm} {nm : ByteArray} {rs : List Rng} {w w' : World} {e p : Int} (hf : Fr E.B E.g w w') : Cls2Post E br bc od nm rs w (.inl (e, p)) (.panicked [wrongW e p]) w' := ⟨rfl, hf⟩
/-- What an append to the ranges leaves. -/
theorem CB.put {E : Env} {br bc i : Nat} {od : List Elm} {nm : ByteArray} {rs rs' : List Rng} {W w1 : World} {v v1 : Value} (h : CB E br bc i od nm rs W) (hv : W.heap[bc]? = some (.cells #[.string nm, v] 50 (0, 0))) (hR : kG.R 54 W E.B (fun _ => True) v rs)
    (hR1 : kG.R 54 w1 E.B (fun _ => True) v1 rs') (hg1 : W.grownBy w1 v.ownBlock) : CB E br bc i od nm rs' (w1.setCell ⟨bc, 1, none⟩ v1) ∧ Fr E.B E.g W (w1.setCell ⟨bc, 1, none⟩ v1) := by
  have hrd := h.rd
  have hg := hrd.gB
  have htB := hrd.tB
  have hmB := hrd.mB
  have hBs := hrd.Bs
  have b1 := h.br1
  have b2 := h.bc1
  have hbase := Kd.R_base hR
  have ne : ∀ k, k < E.B → some k ≠ v.ownBlock := fun k hk e => by
    have := hbase k e.symm
    omega
  have lbc : bc < W.heap.size := (Array.getElem?_eq_some_iff.1 hv).1
  have lbr : br < W.heap.size := (Array.getElem?_eq_some_iff.1 h.xr).1
  have nebc : some bc ≠ v.ownBlock := fun e => by
    obtain ⟨cs, hcs⟩ := Kd.R_typed hR bc e.symm
    rw [hv] at hcs
    simp at hcs
  have nebr : some br ≠ v.ownBlock := fun e => by
    obtain ⟨cs, hcs⟩ := Kd.R_typed hR br e.symm
    rw [h.xr] at hcs
    simp at hcs
  have hbr : br ≠ bc := fun e => by
    have := h.xr
    rw [e, hv] at this
    simp at this
  have hbc1 : w1.heap[bc]? = some (.cells #[.string nm, v] 50 (0, 0)) := (hg1.block bc lbc nebc).trans hv
  have q := fun k (hk : k < E.B) => (Below.heap_setCell w1 ⟨bc, 1, none⟩ v1 k (by show k ≠ bc; omega)).trans (hg1.block k (by omega) (ne k hk))
  obtain ⟨vo, h1, h2, h3⟩ := hrd.st
  refine ⟨{ rd := { hrd with
      Bs := Nat.le_trans hBs (by simpa [World.setCell] using hg1.size)
      tk := hrd.tk.move (q _ htB)
      mp := (q _ hmB).trans hrd.mp
      st := ⟨vo, (q _ hg).trans h1, ?_, ?_⟩ }, br1 := b1, bc1 := b2, sep := h.sep, xr := ?_, xc := ⟨v1, ?_, ?_⟩ }, ?_⟩
  · refine Kd.S_mono (Kd.S_step (S_none h2) (fun k hk hlt => ?_)) (fun _ _ => trivial)
    have n1 : some k ≠ v.ownBlock := fun e => by
      obtain ⟨cs, hcs⟩ := Kd.R_typed hR k e.symm
      obtain ⟨cs2, hcs2⟩ := Kd.S_typed h2 k hk.symm
      rw [hcs] at hcs2
      simp at hcs2
    have n2 : k ≠ bc := fun e => h.sep (by rw [← e]; exact hk)
    exact (Below.heap_setCell _ _ _ _ n2).trans (hg1.block k hlt n1)
  · exact Kd.S_set (Kd.S_over' h3 (Kd.R_typed hR) (typesE _ ⟨by decide, by decide⟩) hg1) hbc1 (typesE _ ⟨by decide, by decide⟩) _ _
  · exact (Below.heap_setCell w1 ⟨bc, 1, none⟩ v1 br hbr).trans ((hg1.block br lbr nebr).trans h.xr)
  · simp [World.setCell, Array.getElem?_modify, hbc1]
  · exact Kd.R_set hR1 hbc1 (by intro x hx; simp [kG, PLoc.k54, Kd.iso, Kd.pair, Kd.int, Kd.scalar] at hx; omega) _ _
  · exact ⟨hg1.os, hg1.tape, hg1.output, by simpa [World.setCell] using hg1.size, fun k hk _ => q k hk⟩

set_option maxRecDepth 100000 in
set_option maxHeartbeats 4000000 in
theorem class2_calls {E : Env} {br bc i : Nat} {od : List Elm} {nm : ByteArray} {rs : List Rng} (w : World) (h : CB E br bc i od nm rs w) (lo : Tok) (hlo : E.L[i]? = some lo) (d : Tok) (hd : E.L[i + 1]? = some d) (hi : Tok) (hhi : isB d dotsB = true → E.L[i + 2]? = some hi) (a b : Nat) (ha : lo.f0 = 3 → lo.f2 = a) (hb : hi.f0 = 3 → hi.f2 = b) (ha1 : a ≤ 1114111) (hb1 : b ≤ 1114111) (hl : rs.length ≤ 100000) :
    Calls Tryz.prog 116 #[.pointer (some ⟨br, 0, none⟩), .pointer (some ⟨bc, 0, none⟩)] w (Cls2Post E br bc od nm rs w (rngF E.L i lo)) := by
  have hg := h.rd.gB
  have hBs := h.rd.Bs
  have hbr := h.br1
  have hbc := h.bc1
  have cr := box1 h.xr
  have hbrl : br < w.heap.size := (Array.getElem?_eq_some_iff.1 h.xr).1
  have H := Aside0.mk h
  have HD := Aside0.mk hd
  have HLO := Aside0.mk hlo
  have HHI := Aside0.mk hhi
  obtain ⟨r, hr⟩ : ∃ r, rngF E.L i lo = r := ⟨_, rfl⟩
  rw [hr]
  unfold rngF at hr
  have HRR := Aside0.mk hr
  clear h hd hlo hhi hr
  by_cases h3 : lo.f0 = 3
  · have a2 := ha h3
    have hwa : IntKind.i32.wrap lo.f2 = lo.f2 := IntWalk.i32_in _ (by omega)
    have H3 := Aside0.mk h3
    have HA := Aside0.mk a2
    clear ha h3 a2
    by_cases hdd : isB d dotsB = true
    · have HDD := Aside0.mk hdd
      have hr1 : r = if hi.f0 ≠ 3 then .inl (30, hi.f3) else if hi.f2 < lo.f2 then .inl (30, hi.f3) else .inr (⟨lo.f2, hi.f2⟩, i + 3) := by
        have := HRR.out
        rw [if_neg (fun h => h H3.out), HD.out, HHI.out hdd] at this
        simp only [hdd, Bool.true_eq_false, if_false] at this
        exact this.symm
      clear HRR hdd
      by_cases hi3 : hi.f0 = 3
      · have HI3 := Aside0.mk hi3
        have b2 := hb hi3
        have hwb : IntKind.i32.wrap hi.f2 = hi.f2 := IntWalk.i32_in _ (by omega)
        rw [if_neg (fun h => h hi3)] at hr1
        clear hb hi3
        by_cases hlt : hi.f2 < lo.f2
        · rw [if_pos hlt] at hr1
          subst hr1
          clear b2 HA
          go_enter Tryz.func116, Tryz.ntmps116
          go_wp2_with fail
          refine (take_calls _ H.out.rd lo HLO.out 3).mono ?_
          intro e w2 hp
          unfold TakePost at hp
          rw [if_pos H3.out] at hp
          obtain ⟨rfl, hR2, hf2, hk2⟩ := hp
          have h2 := H.out.keep hR2 hk2
          have cr2 := box1 h2.xr
          have hbrl2 : br < w2.heap.size := (Array.getElem?_eq_some_iff.1 h2.xr).1
          have hbrl3 : br < w2.heap.size + 1 := by omega
          have hz2 := hR2.Bs
          have hbcl : bc < w2.heap.size := by
            obtain ⟨_, q, _⟩ := h2.xc
            exact (Array.getElem?_eq_some_iff.1 q).1
          have H2 := Aside0.mk h2
          have HF2 := Aside0.mk hf2
          have HR2 := Aside0.mk hR2
          clear h2 hf2 hk2 hR2
          unfold tokV
          go_wp2_with fail
          have hbb : Below w2.heap.size w2 ((w2.alloc (.cells #[.int .u8 lo.f0, .string lo.f1, .int .i64 lo.f2, .int .i64 lo.f3] 63)).alloc (.cells #[.int .u8 lo.f0, .string lo.f1, .int .i64 lo.f2, .int .i64 lo.f3] 63)) := ((Below.refl _ _).alloc (Nat.le_refl _) _).alloc (by simp) _
          have kb2 := blk_alloc (blk_new w2 (.cells #[.int .u8 lo.f0, .string lo.f1, .int .i64 lo.f2, .int .i64 lo.f3] 63)) (.cells #[.int .u8 lo.f0, .string lo.f1, .int .i64 lo.f2, .int .i64 lo.f3] 63)
          have kb3 := blk_new (w2.alloc (.cells #[.int .u8 lo.f0, .string lo.f1, .int .i64 lo.f2, .int .i64 lo.f3] 63)) (.cells #[.int .u8 lo.f0, .string lo.f1, .int .i64 lo.f2, .int .i64 lo.f3] 63)
          rw [show (w2.alloc (.cells #[.int .u8 lo.f0, .string lo.f1, .int .i64 lo.f2, .int .i64 lo.f3] 63)).heap.size = w2.heap.size + 1 by simp] at kb3
          have hg2 : E.g < w2.heap.size := by omega
          have h3c := H2.out.keep (HR2.out.below hbb) (Keep.of_below hbb)
          have H3C := Aside0.mk h3c
          have HF3 := Aside0.mk (HF2.out.trans (Fr.of_below (hbb.mono hz2)))
          refine (is_calls _ h3c.rd d HD.out dotsB).mono ?_
          intro e w4 hp
          obtain ⟨rfl, hR4, hf4, hk4⟩ := hp
          rw [HDD.out] at hR4 ⊢
          have h4 := H3C.out.keep hR4 hk4
          have cr4 := box1 h4.xr
          have H4 := Aside0.mk h4
          have KB2 := Aside0.mk (hk4.box kb2 (by omega) (by decide))
          have KB3 := Aside0.mk (hk4.box kb3 (by omega) (by decide))
          have HF4 := Aside0.mk (HF3.out.trans hf4)
          clear kb2 kb3 h3c hbb h4 hR4 hf4 hk4 cr2
          go_wp2_with fail
          refine (take_calls _ H4.out.rd hi (HHI.out HDD.out) 3).mono ?_
          intro e w5 hp
          unfold TakePost at hp
          rw [if_pos HI3.out] at hp
          obtain ⟨rfl, hR5, hf5, hk5⟩ := hp
          have h5 := H4.out.keep hR5 hk5
          have kb2 := hk5.box KB2.out (by omega) (by decide)
          have kb3 := hk5.box KB3.out (by omega) (by decide)
          obtain ⟨_, _, k2, _, l2⟩ := box4 kb2
          obtain ⟨j0, j1, j2, j3, l3⟩ := box4 kb3
          have y0 : w5.frozen? ⟨w2.heap.size + 1, 0, none⟩ = false := by simp [World.frozen?, kb3]
          have y1 : w5.frozen? ⟨w2.heap.size + 1, 1, none⟩ = false := by simp [World.frozen?, kb3]
          have y2 : w5.frozen? ⟨w2.heap.size + 1, 2, none⟩ = false := by simp [World.frozen?, kb3]
          have y3 : w5.frozen? ⟨w2.heap.size + 1, 3, none⟩ = false := by simp [World.frozen?, kb3]
          obtain ⟨s1, s2, s3⟩ := set4 w5 (w2.heap.size + 1) (.int .u8 hi.f0) (.string hi.f1) (.int .i64 hi.f2) (.int .i64 hi.f3) _ _ _ _ _ kb3
          have h6 := h5.other kb3 (by omega) s1 s2
          have HF6 : Aside0 (Fr E.B E.g w ((((w5.setCell ⟨w2.heap.size + 1, 0, none⟩ (.int .u8 hi.f0)).setCell ⟨w2.heap.size + 1, 1, none⟩ (.string hi.f1)).setCell ⟨w2.heap.size + 1, 2, none⟩ (.int .i64 hi.f2)).setCell ⟨w2.heap.size + 1, 3, none⟩ (.int .i64 hi.f3))) := ⟨(HF4.out.trans hf5).trans ⟨rfl, rfl, rfl, Nat.le_of_eq s1.symm, fun k hk _ => s2 k (by omega)⟩⟩
          have H6 := Aside0.mk h6
          have nbc : bc ≠ w2.heap.size + 1 := by omega
          clear hR5 hf5 hk5 h5 kb2 kb3 s1 s2 s3 h6
          unfold tokV
          go_wp2_with (go_at_call 29; refine (fail_calls 30 hi _).mono ?_; rintro e w9 ⟨rfl, hb9⟩; have HB9 := Aside0.mk hb9; clear hb9)
          exact ⟨rfl, Cls2Post.stop (HF6.out.trans (Fr.of_below (HB9.out.mono H6.out.rd.Bs)))⟩
        · rw [if_neg hlt] at hr1
          subst hr1
          have hlt' : lo.f2 ≤ hi.f2 := by omega
          clear b2 HA hlt
          go_enter Tryz.func116, Tryz.ntmps116
          go_wp2_with fail
          refine (take_calls _ H.out.rd lo HLO.out 3).mono ?_
          intro e w2 hp
          unfold TakePost at hp
          rw [if_pos H3.out] at hp
          obtain ⟨rfl, hR2, hf2, hk2⟩ := hp
          have h2 := H.out.keep hR2 hk2
          have cr2 := box1 h2.xr
          have hbrl2 : br < w2.heap.size := (Array.getElem?_eq_some_iff.1 h2.xr).1
          have hbrl3 : br < w2.heap.size + 1 := by omega
          have hz2 := hR2.Bs
          have hbcl : bc < w2.heap.size := by
            obtain ⟨_, q, _⟩ := h2.xc
            exact (Array.getElem?_eq_some_iff.1 q).1
          have H2 := Aside0.mk h2
          have HF2 := Aside0.mk hf2
          have HR2 := Aside0.mk hR2
          clear h2 hf2 hk2 hR2
          unfold tokV
          go_wp2_with fail
          have hbb : Below w2.heap.size w2 ((w2.alloc (.cells #[.int .u8 lo.f0, .string lo.f1, .int .i64 lo.f2, .int .i64 lo.f3] 63)).alloc (.cells #[.int .u8 lo.f0, .string lo.f1, .int .i64 lo.f2, .int .i64 lo.f3] 63)) := ((Below.refl _ _).alloc (Nat.le_refl _) _).alloc (by simp) _
          have kb2 := blk_alloc (blk_new w2 (.cells #[.int .u8 lo.f0, .string lo.f1, .int .i64 lo.f2, .int .i64 lo.f3] 63)) (.cells #[.int .u8 lo.f0, .string lo.f1, .int .i64 lo.f2, .int .i64 lo.f3] 63)
          have kb3 := blk_new (w2.alloc (.cells #[.int .u8 lo.f0, .string lo.f1, .int .i64 lo.f2, .int .i64 lo.f3] 63)) (.cells #[.int .u8 lo.f0, .string lo.f1, .int .i64 lo.f2, .int .i64 lo.f3] 63)
          rw [show (w2.alloc (.cells #[.int .u8 lo.f0, .string lo.f1, .int .i64 lo.f2, .int .i64 lo.f3] 63)).heap.size = w2.heap.size + 1 by simp] at kb3
          have hg2 : E.g < w2.heap.size := by omega
          have h3c := H2.out.keep (HR2.out.below hbb) (Keep.of_below hbb)
          have H3C := Aside0.mk h3c
          have HF3 := Aside0.mk (HF2.out.trans (Fr.of_below (hbb.mono hz2)))
          refine (is_calls _ h3c.rd d HD.out dotsB).mono ?_
          intro e w4 hp
          obtain ⟨rfl, hR4, hf4, hk4⟩ := hp
          rw [HDD.out] at hR4 ⊢
          have h4 := H3C.out.keep hR4 hk4
          have cr4 := box1 h4.xr
          have H4 := Aside0.mk h4
          have KB2 := Aside0.mk (hk4.box kb2 (by omega) (by decide))
          have KB3 := Aside0.mk (hk4.box kb3 (by omega) (by decide))
          have HF4 := Aside0.mk (HF3.out.trans hf4)
          clear kb2 kb3 h3c hbb h4 hR4 hf4 hk4 cr2
          go_wp2_with fail
          refine (take_calls _ H4.out.rd hi (HHI.out HDD.out) 3).mono ?_
          intro e w5 hp
          unfold TakePost at hp
          rw [if_pos HI3.out] at hp
          obtain ⟨rfl, hR5, hf5, hk5⟩ := hp
          have h5 := H4.out.keep hR5 hk5
          have kb2 := hk5.box KB2.out (by omega) (by decide)
          have kb3 := hk5.box KB3.out (by omega) (by decide)
          obtain ⟨_, _, k2, _, l2⟩ := box4 kb2
          obtain ⟨j0, j1, j2, j3, l3⟩ := box4 kb3
          have y0 : w5.frozen? ⟨w2.heap.size + 1, 0, none⟩ = false := by simp [World.frozen?, kb3]
          have y1 : w5.frozen? ⟨w2.heap.size + 1, 1, none⟩ = false := by simp [World.frozen?, kb3]
          have y2 : w5.frozen? ⟨w2.heap.size + 1, 2, none⟩ = false := by simp [World.frozen?, kb3]
          have y3 : w5.frozen? ⟨w2.heap.size + 1, 3, none⟩ = false := by simp [World.frozen?, kb3]
          obtain ⟨s1, s2, s3⟩ := set4 w5 (w2.heap.size + 1) (.int .u8 hi.f0) (.string hi.f1) (.int .i64 hi.f2) (.int .i64 hi.f3) _ _ _ _ _ kb3
          have h6 := h5.other kb3 (by omega) s1 s2
          have HF6 : Aside0 (Fr E.B E.g w ((((w5.setCell ⟨w2.heap.size + 1, 0, none⟩ (.int .u8 hi.f0)).setCell ⟨w2.heap.size + 1, 1, none⟩ (.string hi.f1)).setCell ⟨w2.heap.size + 1, 2, none⟩ (.int .i64 hi.f2)).setCell ⟨w2.heap.size + 1, 3, none⟩ (.int .i64 hi.f3))) := ⟨(HF4.out.trans hf5).trans ⟨rfl, rfl, rfl, Nat.le_of_eq s1.symm, fun k hk _ => s2 k (by omega)⟩⟩
          have H6 := Aside0.mk h6
          have nbc : bc ≠ w2.heap.size + 1 := by omega
          obtain ⟨v, x1, x2⟩ := h6.xc
          obtain ⟨Av, cv, rfl, hcv, _⟩ := Kd.R_reads x2
          have x5 : w5.heap[bc]? = some (.cells #[.string nm, .slice Av rs.length cv] 50 (0, 0)) := (s2 bc nbc).symm.trans x1
          have c1 : w5.cell? ⟨bc, 1, none⟩ = some (.slice Av rs.length cv) := by simp [World.cell?, x5]
          have f1 : w5.frozen? ⟨bc, 1, none⟩ = false := by simp [World.frozen?, x5]
          have HX1c : Aside0 (((((w5.setCell ⟨w2.heap.size + 1, 0, none⟩ (.int .u8 hi.f0)).setCell ⟨w2.heap.size + 1, 1, none⟩ (.string hi.f1)).setCell ⟨w2.heap.size + 1, 2, none⟩ (.int .i64 hi.f2)).setCell ⟨w2.heap.size + 1, 3, none⟩ (.int .i64 hi.f3)).cell? ⟨bc, 1, none⟩ = some (.slice Av rs.length cv)) := ⟨by simp [World.cell?, x1]⟩
          have HX1f : Aside0 (((((w5.setCell ⟨w2.heap.size + 1, 0, none⟩ (.int .u8 hi.f0)).setCell ⟨w2.heap.size + 1, 1, none⟩ (.string hi.f1)).setCell ⟨w2.heap.size + 1, 2, none⟩ (.int .i64 hi.f2)).setCell ⟨w2.heap.size + 1, 3, none⟩ (.int .i64 hi.f3)).frozen? ⟨bc, 1, none⟩ = false) := ⟨by simp [World.frozen?, x1]⟩
          have HLB := Aside0.mk (Array.getElem?_eq_some_iff.1 x1).1
          have HNB : Aside0 (some bc ≠ (Value.slice Av rs.length cv).ownBlock) := ⟨fun e => by
            obtain ⟨cs, hcs⟩ := Kd.R_typed x2 bc e.symm
            rw [x1] at hcs
            simp at hcs⟩
          have X1 := Aside0.mk x1
          have X2 := Aside0.mk x2
          have HZ4 := Aside0.mk h6.rd.Bs
          clear hR5 hf5 hk5 h5 kb2 kb3 s1 s2 s3 h6 x1 x2 x5
          unfold tokV
          go_wp2_with (first
            | fail
            | ((with_reducible refine gate_builtin (b := .append) (xs := #[.tmp 19, .tmp 27]) rfl ?_); (try (refine gate_guard (by rfl) ?_; dsimp only)); at_builtin; refine Kd.R_append kG (w0 := ((((w5.setCell ⟨w2.heap.size + 1, 0, none⟩ (.int .u8 hi.f0)).setCell ⟨w2.heap.size + 1, 1, none⟩ (.string hi.f1)).setCell ⟨w2.heap.size + 1, 2, none⟩ (.int .i64 hi.f2)).setCell ⟨w2.heap.size + 1, 3, none⟩ (.int .i64 hi.f3))) E.B rfl (.tmp 19) (.tmp 27) 48 54 (.agg #[(.int .i32 0), (.int .i32 0)]) 8 rfl Tryz.underlying48 infoRng rfl (by decide) (by decide) (.slice Av rs.length cv) rs (⟨lo.f2, hi.f2⟩ : Rng) [.int .i32 lo.f2, .int .i32 hi.f2] (fun _ => True) (fun _ => False) rfl (by first | (go_simp; done) | (go_simp; rfl)) ?aP (fun _ hk => hk.elim) ?aF ?aO ?aB ?aS ?aL ?_; (case aP => exact PLoc.k54_mkM _ _ _ (⟨lo.f2, hi.f2⟩ : Rng)); (case aF => exact fun _ _ => trivial); (case aO => exact X2.out); (case aB => exact Below.refl _ _); (case aS => exact HZ4.out); (case aL => omega); intro v1 w5 ho hb5 hg5 hat; obtain ⟨A1, c1, rfl, hc1, _⟩ := Kd.R_reads ho; have y0 := hg5.cell HX1c.out HNB.out; have y1 := (World.frozen?_of_block (a := ⟨bc, 1, none⟩) (hg5.block bc HLB.out HNB.out)).trans HX1f.out; have HO := Aside0.mk ho; have HG5 := Aside0.mk hg5; clear ho hb5 hg5 hat))
          have hput := H6.out.put X1.out X2.out HO.out HG5.out
          refine ⟨rfl, .tuple #[], by simp [results, Tryz.results116], rfl, ?_, ?_⟩
          · have := hput.1
            rw [List.length_append, List.length_singleton] at this
            exact this
          · have := hput.2
            rw [List.length_append, List.length_singleton] at this
            exact HF6.out.trans this
      · rw [if_pos hi3] at hr1
        subst hr1
        have HI3 := Aside0.mk hi3
        clear hi3 hb
        go_enter Tryz.func116, Tryz.ntmps116
        go_wp2_with fail
        refine (take_calls _ H.out.rd lo HLO.out 3).mono ?_
        intro e w2 hp
        unfold TakePost at hp
        rw [if_pos H3.out] at hp
        obtain ⟨rfl, hR2, hf2, hk2⟩ := hp
        have h2 := H.out.keep hR2 hk2
        have cr2 := box1 h2.xr
        have hbrl2 : br < w2.heap.size := (Array.getElem?_eq_some_iff.1 h2.xr).1
        have hbrl3 : br < w2.heap.size + 1 := by omega
        have hz2 := hR2.Bs
        have hbcl : bc < w2.heap.size := by
          obtain ⟨_, q, _⟩ := h2.xc
          exact (Array.getElem?_eq_some_iff.1 q).1
        have H2 := Aside0.mk h2
        have HF2 := Aside0.mk hf2
        have HR2 := Aside0.mk hR2
        clear h2 hf2 hk2 hR2
        unfold tokV
        go_wp2_with fail
        have hbb : Below w2.heap.size w2 ((w2.alloc (.cells #[.int .u8 lo.f0, .string lo.f1, .int .i64 lo.f2, .int .i64 lo.f3] 63)).alloc (.cells #[.int .u8 lo.f0, .string lo.f1, .int .i64 lo.f2, .int .i64 lo.f3] 63)) := ((Below.refl _ _).alloc (Nat.le_refl _) _).alloc (by simp) _
        have kb2 := blk_alloc (blk_new w2 (.cells #[.int .u8 lo.f0, .string lo.f1, .int .i64 lo.f2, .int .i64 lo.f3] 63)) (.cells #[.int .u8 lo.f0, .string lo.f1, .int .i64 lo.f2, .int .i64 lo.f3] 63)
        have kb3 := blk_new (w2.alloc (.cells #[.int .u8 lo.f0, .string lo.f1, .int .i64 lo.f2, .int .i64 lo.f3] 63)) (.cells #[.int .u8 lo.f0, .string lo.f1, .int .i64 lo.f2, .int .i64 lo.f3] 63)
        rw [show (w2.alloc (.cells #[.int .u8 lo.f0, .string lo.f1, .int .i64 lo.f2, .int .i64 lo.f3] 63)).heap.size = w2.heap.size + 1 by simp] at kb3
        have hg2 : E.g < w2.heap.size := by omega
        have h3c := H2.out.keep (HR2.out.below hbb) (Keep.of_below hbb)
        have H3C := Aside0.mk h3c
        have HF3 := Aside0.mk (HF2.out.trans (Fr.of_below (hbb.mono hz2)))
        refine (is_calls _ h3c.rd d HD.out dotsB).mono ?_
        intro e w4 hp
        obtain ⟨rfl, hR4, hf4, hk4⟩ := hp
        rw [HDD.out] at hR4 ⊢
        have h4 := H3C.out.keep hR4 hk4
        have cr4 := box1 h4.xr
        have H4 := Aside0.mk h4
        have KB2 := Aside0.mk (hk4.box kb2 (by omega) (by decide))
        have KB3 := Aside0.mk (hk4.box kb3 (by omega) (by decide))
        have HF4 := Aside0.mk (HF3.out.trans hf4)
        clear kb2 kb3 h3c hbb h4 hR4 hf4 hk4 cr2
        go_wp2_with fail
        refine (take_calls _ H4.out.rd hi (HHI.out HDD.out) 3).mono ?_
        intro e w5 hp
        unfold TakePost at hp
        rw [if_neg HI3.out] at hp
        obtain ⟨rfl, hf5⟩ := hp
        have HF5 := Aside0.mk (HF4.out.trans hf5)
        clear hf5
        go_wp2
        exact ⟨rfl, Cls2Post.stop HF5.out⟩
    · have e : r = .inr (⟨lo.f2, lo.f2⟩, i + 1) := by
        have := HRR.out
        rw [if_neg (fun h => h H3.out), HD.out] at this
        simp only [hdd] at this
        rw [← this]
        rfl
      subst e
      have hdf : isB d dotsB = false := by simpa using hdd
      have HDF := Aside0.mk hdf
      clear hdd hdf HRR
      go_enter Tryz.func116, Tryz.ntmps116
      go_wp2_with fail
      refine (take_calls _ H.out.rd lo HLO.out 3).mono ?_
      intro e w2 hp
      unfold TakePost at hp
      rw [if_pos H3.out] at hp
      obtain ⟨rfl, hR2, hf2, hk2⟩ := hp
      have h2 := H.out.keep hR2 hk2
      have cr2 := box1 h2.xr
      have hbrl2 : br < w2.heap.size := (Array.getElem?_eq_some_iff.1 h2.xr).1
      have hbrl3 : br < w2.heap.size + 1 := by omega
      have hz2 := hR2.Bs
      have H2 := Aside0.mk h2
      have HF2 := Aside0.mk hf2
      have HR2 := Aside0.mk hR2
      clear h2 hf2 hk2 hR2
      unfold tokV
      go_wp2_with fail
      have hbb : Below w2.heap.size w2 ((w2.alloc (.cells #[.int .u8 lo.f0, .string lo.f1, .int .i64 lo.f2, .int .i64 lo.f3] 63)).alloc (.cells #[.int .u8 lo.f0, .string lo.f1, .int .i64 lo.f2, .int .i64 lo.f3] 63)) := ((Below.refl _ _).alloc (Nat.le_refl _) _).alloc (by simp) _
      have kb2 := blk_alloc (blk_new w2 (.cells #[.int .u8 lo.f0, .string lo.f1, .int .i64 lo.f2, .int .i64 lo.f3] 63)) (.cells #[.int .u8 lo.f0, .string lo.f1, .int .i64 lo.f2, .int .i64 lo.f3] 63)
      have kb3 := blk_new (w2.alloc (.cells #[.int .u8 lo.f0, .string lo.f1, .int .i64 lo.f2, .int .i64 lo.f3] 63)) (.cells #[.int .u8 lo.f0, .string lo.f1, .int .i64 lo.f2, .int .i64 lo.f3] 63)
      rw [show (w2.alloc (.cells #[.int .u8 lo.f0, .string lo.f1, .int .i64 lo.f2, .int .i64 lo.f3] 63)).heap.size = w2.heap.size + 1 by simp] at kb3
      have hg2 : E.g < w2.heap.size := by omega
      have h3c := H2.out.keep (HR2.out.below hbb) (Keep.of_below hbb)
      have H3C := Aside0.mk h3c
      have HF3 := Aside0.mk (HF2.out.trans (Fr.of_below (hbb.mono hz2)))
      refine (is_calls _ h3c.rd d HD.out dotsB).mono ?_
      intro e w4 hp
      obtain ⟨rfl, hR4, hf4, hk4⟩ := hp
      rw [HDF.out] at hR4 ⊢
      have h4 := H3C.out.keep hR4 hk4
      obtain ⟨_, _, k2, _, _⟩ := box4 (hk4.box kb2 (by omega) (by decide))
      obtain ⟨_, _, k3, _, _⟩ := box4 (hk4.box kb3 (by omega) (by decide))
      obtain ⟨v, x1, x2⟩ := h4.xc
      obtain ⟨Av, cv, rfl, hcv, _⟩ := Kd.R_reads x2
      have c1 : w4.cell? ⟨bc, 1, none⟩ = some (.slice Av rs.length cv) := by simp [World.cell?, x1]
      have f1 : w4.frozen? ⟨bc, 1, none⟩ = false := by simp [World.frozen?, x1]
      have HX1c := Aside0.mk c1
      have HX1f := Aside0.mk f1
      have HLB := Aside0.mk (Array.getElem?_eq_some_iff.1 x1).1
      have HNB : Aside0 (some bc ≠ (Value.slice Av rs.length cv).ownBlock) := ⟨fun e => by
        obtain ⟨cs, hcs⟩ := Kd.R_typed x2 bc e.symm
        rw [x1] at hcs
        simp at hcs⟩
      have X1 := Aside0.mk x1
      have X2 := Aside0.mk x2
      have H4 := Aside0.mk h4
      have HZ4 := Aside0.mk hR4.Bs
      have HF4 := Aside0.mk (HF3.out.trans hf4)
      clear kb2 kb3 h3c hbb h4 x1 x2 hR4 hf4 hk4
      go_wp2_with (first
        | fail
        | ((with_reducible refine gate_builtin (b := .append) (xs := #[.tmp 19, .tmp 27]) rfl ?_); (try (refine gate_guard (by rfl) ?_; dsimp only)); at_builtin; refine Kd.R_append kG (w0 := w4) E.B rfl (.tmp 19) (.tmp 27) 48 54 (.agg #[(.int .i32 0), (.int .i32 0)]) 8 rfl Tryz.underlying48 infoRng rfl (by decide) (by decide) (.slice Av rs.length cv) rs (⟨lo.f2, lo.f2⟩ : Rng) [.int .i32 lo.f2, .int .i32 lo.f2] (fun _ => True) (fun _ => False) rfl (by first | (go_simp; done) | (go_simp; rfl)) ?aP (fun _ hk => hk.elim) ?aF ?aO ?aB ?aS ?aL ?_; (case aP => exact PLoc.k54_mkM _ _ _ (⟨lo.f2, lo.f2⟩ : Rng)); (case aF => exact fun _ _ => trivial); (case aO => exact X2.out); (case aB => exact Below.refl _ _); (case aS => exact HZ4.out); (case aL => omega); intro v1 w5 ho hb5 hg5 hat; obtain ⟨A1, c1, rfl, hc1, _⟩ := Kd.R_reads ho; have y0 := hg5.cell HX1c.out HNB.out; have y1 := (World.frozen?_of_block (a := ⟨bc, 1, none⟩) (hg5.block bc HLB.out HNB.out)).trans HX1f.out; have HO := Aside0.mk ho; have HG5 := Aside0.mk hg5; clear ho hb5 hg5 hat))
      have hput := H4.out.put X1.out X2.out HO.out HG5.out
      refine ⟨rfl, .tuple #[], by simp [results, Tryz.results116], rfl, ?_, ?_⟩
      · have := hput.1
        rw [List.length_append, List.length_singleton] at this
        exact this
      · have := hput.2
        rw [List.length_append, List.length_singleton] at this
        exact HF4.out.trans this
  · have e : r = .inl (30, lo.f3) := by rw [← HRR.out, if_pos h3]
    subst e
    have H3 := Aside0.mk h3
    clear h3 HRR ha
    go_enter Tryz.func116, Tryz.ntmps116
    go_wp2_with fail
    refine (take_calls _ H.out.rd lo HLO.out 3).mono ?_
    intro e w2 hp
    unfold TakePost at hp
    rw [if_neg H3.out] at hp
    obtain ⟨rfl, hf2⟩ := hp
    have HF2 := Aside0.mk hf2
    clear hf2
    go_wp2
    exact ⟨rfl, Cls2Post.stop HF2.out⟩
end Go.Proofs.YtipmmkelialgkaaGreatDoor.Loc
