/- (*lex.reader).quoted: bytes between strokes. · What lex.Tokens defers: it takes what is wrong, and lays it into the results; of nothing wrong it does nothing. · How lex.Tokens leaves: behind the deferred closure, its results read. -/
import Derived.Test.YtipmmkelialgkaaGreatDoorGLlg7
import Derived.Test.YtipmmkelialgkaaGreatDoorGLlg8
import Derived.Test.YtipmmkelialgkaaGreatDoorGLlg6
import Derived.Recover
import Derived.Lib.AtoiErrMem
import Derived.Deep.RegionHeld3
import Derived.Test.YtipmmkelialgkaaGreatDoorGLlg3
import Derived.Laws.EntriesVeiled
set_option linter.unusedVariables false
set_option linter.unusedSimpArgs false
namespace Go.Proofs.YtipmmkelialgkaaGreatDoor.Lex
open Go.RowKit Go.Lib Go.Proofs.YtipmmkelialgkaaGreatDoorW.PrintWords Go.Proofs.YtipmmkelialgkaaGreatDoorW.PrintLast Go.Proofs.YtipmmkelialgkaaGreatDoorW.PrintMore Go.Proofs.YtipmmkelialgkaaGreatDoor.PLex

/-- A byte of a text, by its place. -/
theorem byte_at {s : ByteArray} {q : Nat} (h : q < s.size) : s.data.toList[q]? = some s[q] := by
  have hl : q < s.data.toList.length := by rw [Array.length_toList]; exact h
  rw [List.getElem?_eq_getElem hl]
  rfl

set_option maxRecDepth 100000 in
set_option maxHeartbeats 1000000 in
theorem quoted_calls {B g : Nat} {s : ByteArray} {q : Nat} {l : List Tok} (w : World) (hR : Rd B g s q l w) (hp : q < s.size) (hs : s.size ≤ 1000000) (hl : l.length ≤ 1000000) :
    Calls Tryz.prog 55 #[.pointer (some ⟨g, 0, none⟩)] w (Post B g s q l w (quotedR (s.data.toList.drop q))) := by
  have HR := Aside0.mk hR
  have hq : (0 : Int) ≤ q := Int.natCast_nonneg _
  obtain ⟨c0, c1, _⟩ := hR.cells
  have hgs : g < w.heap.size := by have := hR.1; have := hR.2.1; omega
  have hBs : B ≤ w.heap.size := hR.2.1
  clear hR c0
  obtain ⟨t, ht⟩ : ∃ t, t = bs (s.data.toList.drop q) := ⟨_, rfl⟩
  have htl : t.data.toList = s.data.toList.drop q := by rw [ht, bs_list]
  have hts : t.size = s.size - q := by rw [ht, bs_size, List.length_drop, Array.length_toList]; rfl
  have h0 : 0 < t.size := by omega
  have hc : t.data.toList = t[0] :: t.data.toList.drop 1 := by simpa using rest_cons (s := t) (q := 0) h0
  rw [← htl]
  have HT := Aside0.mk ht
  clear ht htl
  by_cases h1 : t[0].toNat = 34
  · have b1 : ((t[0].toNat : Int) != 34) = false := by simp [h1]
    have e1 : t[0] = 34 := (byte_eq (n := 34) (by decide)).2 h1
    have hv : quotedR t.data.toList = (if (t.data.toList.drop 1)[strLen (t.data.toList.drop 1)]? = some 34 then .tok 4 (bs ((t.data.toList.drop 1).take (strLen (t.data.toList.drop 1)))) 0 (strLen (t.data.toList.drop 1) + 2) else .bad) := by
      conv => lhs; rw [hc]
      simp only [quotedR, if_pos e1]
    rw [hv]
    clear hv hc
    obtain ⟨u, hu⟩ : ∃ u, u = bs (t.data.toList.drop 1) := ⟨_, rfl⟩
    have hul : u.data.toList = t.data.toList.drop 1 := by rw [hu, bs_list]
    have hue : t.extract 1 t.size = u := by rw [extract_end, hu]
    have hus : u.size = t.size - 1 := by rw [hu, bs_size, List.length_drop, Array.length_toList]; rfl
    rw [← hul]
    have hsl := strLen_le u.data.toList
    rw [Array.length_toList] at hsl
    have hsl' : strLen u.data.toList ≤ u.size := hsl
    obtain ⟨V, hV⟩ : ∃ V : Int, V = (if strLen u.data.toList < u.size then (strLen u.data.toList : Int) else -1) := ⟨_, rfl⟩
    have HU := Aside0.mk hue
    have HS : Aside0 (u.size = t.size - 1) := ⟨hus⟩
    have hub : u.size ≤ 1000000 := by omega
    have hV0 := hV
    by_cases hlt : strLen u.data.toList < u.size
    · rw [if_pos hlt] at hV
      have hat : t.data.toList[1 + strLen u.data.toList]? = u.data.toList[strLen u.data.toList]? := by rw [hul, List.getElem?_drop]
      have hin : 1 + strLen u.data.toList < t.size := by omega
      by_cases hst : u.data.toList[strLen u.data.toList]? = some 34
      · rw [if_pos hst]
        have hx : bs (u.data.toList.take (strLen u.data.toList)) = t.extract 1 (1 + strLen u.data.toList) := by
          rw [extract_bs, hul, Nat.add_sub_cancel_left]
        rw [hx]
        rw [hst, byte_at hin] at hat
        have hb : t[1 + strLen u.data.toList] = 34 := by injection hat
        clear hsl hx hst hat hul hsl'
        generalize hn : strLen u.data.toList = n at *
        have hw1 : IntKind.i64.wrap (1 + (n : Int)) = 1 + n := IntWalk.i64_in _ (by omega)
        have HV : Aside0 ((if strLen u.data.toList < u.size then (strLen u.data.toList : Int) else -1) = n) := ⟨by rw [hn]; exact hV0.symm.trans hV⟩
        have hb1 : ((t[1 + n].toNat : Int) != 34) = false := by rw [hb]; rfl
        have hn0 : (0 : Int) ≤ n := Int.natCast_nonneg _
        have hn3 : ((n : Int) < 0) = False := by simp
        have hn4 : (1 : Int) + n < t.size := by omega
        have hts1 : t.size ≤ 1000000 := by omega
        have h0' : (1 : Int) ≤ t.size := by omega
        clear hb hV hV0 hlt hts hus hue hu hn
        go_enter Tryz.func55, Tryz.ntmps55
        go_wp2_with (first
          | (go_at_call 98; refine (rest_calls _ HR.out (Nat.le_of_lt hp)).mono ?_; rintro e w' ⟨rfl, ⟨nd, rfl⟩⟩; rw [← HT.out])
          | (go_at_call 100; rw [HU.out]; refine (indexAny_any u _ hub).mono ?_; rintro e w' ⟨rfl, hbw⟩; rw [HV.out]; have HB := Aside0.mk hbw; clear hbw))
        refine (put_calls _ _ _ _ _ _ ((HR.out.drewN _).below HB.out) ⟨hq, by omega⟩ ⟨by omega, by omega⟩ hl).mono ?_
        rintro e w3 ⟨rfl, h2, h3⟩
        have H2 := Aside0.mk h2
        have H3 := Aside0.mk h3
        clear h2 h3
        go_wp2
        go_ret
        have hc : ((n + 2 : Nat) : Int) = (n : Int) + 2 := by omega
        refine ⟨rfl, ?_, ((Fr.drewN _ _).trans (Fr.of_below (HB.out.mono (by exact hBs)))).trans H3.out⟩
        rw [hc]
        exact H2.out
      · rw [if_neg hst]
        have hb : t[1 + strLen u.data.toList] ≠ 34 := by
          intro e
          apply hst
          rw [← hat, byte_at hin, e]
        have hb' : t[1 + strLen u.data.toList].toNat ≠ 34 := fun e => hb ((byte_eq (n := 34) (by decide)).2 e)
        clear hsl hst hat hul hsl' hb
        generalize hn : strLen u.data.toList = n at *
        have hw1 : IntKind.i64.wrap (1 + (n : Int)) = 1 + n := IntWalk.i64_in _ (by omega)
        have HV : Aside0 ((if strLen u.data.toList < u.size then (strLen u.data.toList : Int) else -1) = n) := ⟨by rw [hn]; exact hV0.symm.trans hV⟩
        have hb1 : ((t[1 + n].toNat : Int) != 34) = true := by simp; omega
        have hn0 : (0 : Int) ≤ n := Int.natCast_nonneg _
        have hn3 : ((n : Int) < 0) = False := by simp
        have hn4 : (1 : Int) + n < t.size := by omega
        have hts1 : t.size ≤ 1000000 := by omega
        have h0' : (1 : Int) ≤ t.size := by omega
        clear hb' hV hV0 hlt hts hus hue hu hn
        go_enter Tryz.func55, Tryz.ntmps55
        go_wp2_with (first
          | (go_at_call 98; refine (rest_calls _ HR.out (Nat.le_of_lt hp)).mono ?_; rintro e w' ⟨rfl, ⟨nd, rfl⟩⟩; rw [← HT.out])
          | (go_at_call 100; rw [HU.out]; refine (indexAny_any u _ hub).mono ?_; rintro e w' ⟨rfl, hbw⟩; rw [HV.out]; have k1 := (hbw.cell (p := ⟨g, 1, none⟩) hgs).trans c1; have HB := Aside0.mk hbw; clear hbw))
        exact ⟨rfl, rfl, (HR.out.drewN _).below HB.out, (Fr.drewN _ _).trans (Fr.of_below (HB.out.mono hBs))⟩
    · rw [if_neg hlt] at hV
      have hno : u.data.toList[strLen u.data.toList]? ≠ some 34 := by
        rw [List.getElem?_eq_none (by rw [Array.length_toList]; show u.size ≤ _; omega)]
        exact fun h => nomatch h
      rw [if_neg hno]
      have HV : Aside0 ((if strLen u.data.toList < u.size then (strLen u.data.toList : Int) else -1) = -1) := ⟨hV0.symm.trans hV⟩
      have hts1 : t.size ≤ 1000000 := by omega
      have h0' : (1 : Int) ≤ t.size := by omega
      clear hsl hul hsl' hno hV hV0 hlt hts hus hue hu
      go_enter Tryz.func55, Tryz.ntmps55
      go_wp2_with (first
        | (go_at_call 98; refine (rest_calls _ HR.out (Nat.le_of_lt hp)).mono ?_; rintro e w' ⟨rfl, ⟨nd, rfl⟩⟩; rw [← HT.out])
        | (go_at_call 100; rw [HU.out]; refine (indexAny_any u _ hub).mono ?_; rintro e w' ⟨rfl, hbw⟩; rw [HV.out]; have k1 := (hbw.cell (p := ⟨g, 1, none⟩) hgs).trans c1; have HB := Aside0.mk hbw; clear hbw))
      exact ⟨rfl, rfl, (HR.out.drewN _).below HB.out, (Fr.drewN _ _).trans (Fr.of_below (HB.out.mono hBs))⟩
  · have b1 : ((t[0].toNat : Int) != 34) = true := by simp; omega
    have n1 : t[0] ≠ 34 := fun e => h1 (by rw [e]; rfl)
    have hv : quotedR t.data.toList = .no := by rw [hc]; simp [quotedR, n1]
    rw [hv]
    clear hv hc h1 n1
    go_enter Tryz.func55, Tryz.ntmps55
    go_wp2_with (first
      | (go_at_call 98; refine (rest_calls _ HR.out (Nat.le_of_lt hp)).mono ?_; rintro e w' ⟨rfl, ⟨nd, rfl⟩⟩; rw [← HT.out]))
    go_ret
    exact ⟨rfl, HR.out.drewN _, Fr.drewN _ _⟩
end Go.Proofs.YtipmmkelialgkaaGreatDoor.Lex
set_option linter.unusedVariables false
set_option linter.unusedSimpArgs false
namespace Go.Proofs.YtipmmkelialgkaaGreatDoor.Lex
open Go.RowKit Go.Lib Go.Proofs.YtipmmkelialgkaaGreatDoorW.PrintWords Go.Proofs.YtipmmkelialgkaaGreatDoorW.PrintLast Go.Proofs.YtipmmkelialgkaaGreatDoorW.PrintMore Go.Proofs.YtipmmkelialgkaaGreatDoor.PLex

theorem shut_idle (a b c : Nat) (w : World) :
    CallsD Tryz.prog 51 #[.pointer (some ⟨a, 0, none⟩), .pointer (some ⟨b, 0, none⟩), .pointer (some ⟨c, 0, none⟩)] .returning w fun e u' w' => e = .returned (.tuple #[]) ∧ u' = .returning ∧ w' = w := by
  refine callsD_of_wpS Tryz.func51 rfl fun c₀ cs hu => ?_
  simp only [Tryz.ntmps51, List.size_toArray, List.length_cons, List.length_nil, Nat.reduceAdd, Nat.reduceSub, Array.replicate_succ, Array.replicate_zero, List.push_toArray, List.append_toArray, List.nil_append, List.cons_append]
  apply wpS_seq
  apply wpS_region
  simp [wpOpsS, go_sem, recoverD, hu, Exit.thenS]
  refine wpS_of_wp ?_
  go_wp2
  refine ⟨rfl, .returning, ?_, .tuple #[], by simp [results, Tryz.results51], rfl, rfl, rfl⟩
  rw [← hu]

theorem assert_wrong (W : World) (v : Value) : (Instr.typeAssert (.iface 105 v) 20 105 true).run Tryz.prog W = .ok (.tuple #[v, .bool true]) W := by kernel_rfl

/-- Results, wrong: so they are laid. -/
structure Shut (N a b c : Nat) (p : Int) (w w' : World) : Prop where
  c0 : w'.cell? ⟨a, 0, none⟩ = some (.slice none 0 0)
  c1 : w'.cell? ⟨b, 0, none⟩ = some (.int .u16 20)
  c2 : w'.cell? ⟨c, 0, none⟩ = some (.int .i64 p)
  below : Below N w w'

set_option maxRecDepth 100000 in
theorem shut_wrong (N a b c : Nat) (p : Int) (w : World) (hab : a ≠ b) (hac : a ≠ c) (hbc : b ≠ c) (ha : N ≤ a) (hb : N ≤ b) (hc : N ≤ c) (va vb vc : Value) (ca : w.cell? ⟨a, 0, none⟩ = some va) (cb : w.cell? ⟨b, 0, none⟩ = some vb) (cc : w.cell? ⟨c, 0, none⟩ = some vc)
    (za : w.frozen? ⟨a, 0, none⟩ = false) (zb : w.frozen? ⟨b, 0, none⟩ = false) (zc : w.frozen? ⟨c, 0, none⟩ = false) :
    CallsD Tryz.prog 51 #[.pointer (some ⟨a, 0, none⟩), .pointer (some ⟨b, 0, none⟩), .pointer (some ⟨c, 0, none⟩)] (.panicking [wrongV 20 p]) w fun e u' w' => e = .returned (.tuple #[]) ∧ u' = .panicking [{ wrongV 20 p with recovered := true }] ∧ Shut N a b c p w w' := by
  have hta := fun W v => assert_wrong W v
  have ha' : a < w.heap.size := Lib.lt_of_cell ca
  have hb' : b < w.heap.size := Lib.lt_of_cell cb
  have hc' : c < w.heap.size := Lib.lt_of_cell cc
  refine callsD_of_wpS Tryz.func51 rfl fun c₀ cs hu => ?_
  simp only [Tryz.ntmps51, List.size_toArray, List.length_cons, List.length_nil, Nat.reduceAdd, Nat.reduceSub, Array.replicate_succ, Array.replicate_zero, List.push_toArray, List.append_toArray, List.nil_append, List.cons_append]
  apply wpS_seq
  apply wpS_region
  simp [wpOpsS, go_sem, recoverD, hu, wrongV, Exit.thenS]
  refine wpS_of_wp ?_
  go_wp2
  go_region_held3 (fun w' => w'.cell? ⟨w.heap.size, 0, none⟩ = some (.int .u16 20) ∧ w'.cell? ⟨w.heap.size, 1, none⟩ = some (.int .i64 p)) (go_simp) (fail)
  refine ⟨rfl, _, rfl, .tuple #[], by simp [results, Tryz.results51], rfl, rfl, ?_⟩
  refine ⟨?_, ?_, ?_, ?_⟩
  · go_simp
  · go_simp
  · go_simp
  · exact (((((Below.refl N w).setCell ha _).setCell hb _).setCell hc _).alloc (by simp [World.setCell]; omega) _).drew
end Go.Proofs.YtipmmkelialgkaaGreatDoor.Lex
set_option linter.unusedVariables false
set_option linter.unusedSimpArgs false
namespace Go.Proofs.YtipmmkelialgkaaGreatDoor.Lex
open Go.RowKit Go.Lib Go.Proofs.YtipmmkelialgkaaGreatDoorW.PrintWords Go.Proofs.YtipmmkelialgkaaGreatDoorW.PrintLast Go.Proofs.YtipmmkelialgkaaGreatDoorW.PrintMore Go.Proofs.YtipmmkelialgkaaGreatDoor.PLex

def TokPost (w : World) (r : List Tok × Int × Int) (e : Ending) (w' : World) : Prop :=
  ∃ v, e = .returned (.tuple #[v, .int .u16 r.2.1, .int .i64 r.2.2]) ∧ Kd.R kT 63 w' w.heap.size (fun _ => True) v r.1 ∧ Below w.heap.size w w'

theorem leave_ok {w w' : World} (x0 x1 : Value) (rest : List Value) (a b c : Nat) (r : List Tok × Int × Int) (v : Value) (ca : w'.cell? ⟨a, 0, none⟩ = some v) (cb : w'.cell? ⟨b, 0, none⟩ = some (.int .u16 r.2.1)) (cc : w'.cell? ⟨c, 0, none⟩ = some (.int .i64 r.2.2))
    (hR : Kd.R kT 63 w' w.heap.size (fun _ => True) v r.1) (hb : Below w.heap.size w w') :
    Leaves Tryz.prog Tryz.f22 (x0 :: x1 :: .pointer (some ⟨a, 0, none⟩) :: .pointer (some ⟨b, 0, none⟩) :: .pointer (some ⟨c, 0, none⟩) :: rest).toArray (TokPost w r)
      [{ target := .fn (.func 51) #[.pointer (some ⟨a, 0, none⟩), .pointer (some ⟨b, 0, none⟩), .pointer (some ⟨c, 0, none⟩)], args := #[] }] .returning w' := by
  refine leaves_cons (f := 51) (args := #[.pointer (some ⟨a, 0, none⟩), .pointer (some ⟨b, 0, none⟩), .pointer (some ⟨c, 0, none⟩)]) (by simp) (by simp [go_sem]) ?_
  refine (shut_idle _ _ _ _).mono ?_
  rintro e u' w'' ⟨rfl, rfl, rfl⟩
  refine ⟨.tuple #[v, .int .u16 r.2.1, .int .i64 r.2.2], ?_, v, rfl, hR, hb⟩
  simp [results, Tryz.results22, go_sem, ca, cb, cc]

theorem leave_wrong {w w' : World} (x0 x1 : Value) (rest : List Value) (a b c : Nat) (p : Int) (hab : a ≠ b) (hac : a ≠ c) (hbc : b ≠ c) (ha : w.heap.size ≤ a) (hb : w.heap.size ≤ b) (hc : w.heap.size ≤ c) (va vb vc : Value)
    (ca : w'.cell? ⟨a, 0, none⟩ = some va) (cb : w'.cell? ⟨b, 0, none⟩ = some vb) (cc : w'.cell? ⟨c, 0, none⟩ = some vc) (za : w'.frozen? ⟨a, 0, none⟩ = false) (zb : w'.frozen? ⟨b, 0, none⟩ = false) (zc : w'.frozen? ⟨c, 0, none⟩ = false)
    (hbl : Below w.heap.size w w') :
    Leaves Tryz.prog Tryz.f22 (x0 :: x1 :: .pointer (some ⟨a, 0, none⟩) :: .pointer (some ⟨b, 0, none⟩) :: .pointer (some ⟨c, 0, none⟩) :: rest).toArray (TokPost w ([], 20, p))
      [{ target := .fn (.func 51) #[.pointer (some ⟨a, 0, none⟩), .pointer (some ⟨b, 0, none⟩), .pointer (some ⟨c, 0, none⟩)], args := #[] }] (.panicking [wrongV 20 p]) w' := by
  refine leaves_cons (f := 51) (args := #[.pointer (some ⟨a, 0, none⟩), .pointer (some ⟨b, 0, none⟩), .pointer (some ⟨c, 0, none⟩)]) (by simp) (by simp [go_sem]) ?_
  refine (shut_wrong w.heap.size a b c p w' hab hac hbc ha hb hc va vb vc ca cb cc za zb zc).mono ?_
  rintro e u' w'' ⟨rfl, rfl, S⟩
  refine ⟨.tuple #[.slice none 0 0, .int .u16 20, .int .i64 p], ?_, .slice none 0 0, rfl, Kd.R_nil _ _ _ _ _, hbl.trans S.below⟩
  have c0 := S.c0
  have c1 := S.c1
  have c2 := S.c2
  simp [results, Tryz.results22, go_sem, c0, c1, c2]

theorem go_skip {s : ByteArray} {q n : Nat} {l : List Tok} (h : q < s.size) (hs : stepR (endedF l) (s.data.toList.drop q) = .skip n) : lexAt s q l = lexAt s (q + n) l ∧ 1 ≤ n ∧ q + n ≤ s.size := by
  have h1 := lexAt_step s q l h
  have h2 := stepR_fits (endedF l) (s.data.toList.drop q)
  rw [hs] at h1 h2
  have hlen : (s.data.toList.drop q).length = s.size - q := by rw [List.length_drop, Array.length_toList]; rfl
  rw [hlen] at h2
  exact ⟨h1, h2.1, by have := h2.2; omega⟩
theorem go_tok {s : ByteArray} {q n : Nat} {l : List Tok} {t0 : Int} {t1 : ByteArray} {t2 : Int} (h : q < s.size) (hs : stepR (endedF l) (s.data.toList.drop q) = .tok t0 t1 t2 n) : lexAt s q l = lexAt s (q + n) (l ++ [(⟨t0, t1, t2, q⟩ : Tok)]) ∧ 1 ≤ n ∧ q + n ≤ s.size := by
  have h1 := lexAt_step s q l h
  have h2 := stepR_fits (endedF l) (s.data.toList.drop q)
  rw [hs] at h1 h2
  have hlen : (s.data.toList.drop q).length = s.size - q := by rw [List.length_drop, Array.length_toList]; rfl
  rw [hlen] at h2
  exact ⟨h1, h2.1, by have := h2.2; omega⟩
theorem tokensF_bad {s : ByteArray} {p : Int} (hs : ¬ 4000 < s.size) (h : lexAt s 0 [] = .inr p) : tokensF s = ([], 20, p) := by
  rw [lexAt_zero] at h
  simp only [tokensF, if_neg hs, h]
theorem go_bad {s : ByteArray} {q : Nat} {l : List Tok} (hs4 : ¬ 4000 < s.size) (h : q < s.size) (hs : stepR (endedF l) (s.data.toList.drop q) = .bad) (h0 : lexAt s 0 [] = lexAt s q l) : tokensF s = ([], 20, (q : Int)) := by
  have h1 := lexAt_step s q l h
  rw [hs] at h1
  exact tokensF_bad hs4 (h0.trans h1)
theorem tokensF_ok {s : ByteArray} {l : List Tok} (hs : ¬ 4000 < s.size) (h : lexAt s 0 [] = lexAt s s.size l) : tokensF s = if 1000 < (closeF l s.size).length then ([], 3, 0) else (closeF l s.size, 0, 0) := by
  rw [lexAt_end, lexAt_zero] at h
  simp only [tokensF, if_neg hs, h]
/-- What the steps from the k-th on tell. -/
def restR (e : Bool) (r : List UInt8) : Nat → Res
  | 0 => stepR e r
  | 1 => (endR e r).or ((signR r).or ((quotedR r).or ((nameR r).or (wordR r))))
  | 2 => (signR r).or ((quotedR r).or ((nameR r).or (wordR r)))
  | 3 => (quotedR r).or ((nameR r).or (wordR r))
  | 4 => (nameR r).or (wordR r)
  | _ => wordR r
theorem or_no {r b : Res} (h : r = .no) : r.or b = b := by rw [h]; rfl
theorem or_skip {r b : Res} {n : Nat} (h : r = .skip n) : r.or b = .skip n := by rw [h]; rfl
theorem or_tok {r b : Res} {t0 : Int} {t1 : ByteArray} {t2 : Int} {n : Nat} (h : r = .tok t0 t1 t2 n) : r.or b = .tok t0 t1 t2 n := by rw [h]; rfl
theorem or_bad {r b : Res} (h : r = .bad) : r.or b = .bad := by rw [h]; rfl
/-- The base's places hold what they held. -/
theorem Fr.held {B g : Nat} {w w' : World} (h : Fr B g w w') {k : Nat} (hk : k < B) (hg : k ≠ g) {v : Value} {t : TypeId} (hw : w.heap[k]? = some (.cells #[v] t)) : w'.cell? ⟨k, 0, none⟩ = some v ∧ w'.frozen? ⟨k, 0, none⟩ = false := by
  have h1 := (h.block k hk hg).trans hw
  exact ⟨by simp [World.cell?, h1], by simp [World.frozen?, h1]⟩
end Go.Proofs.YtipmmkelialgkaaGreatDoor.Lex
