/- (*lex.reader).quoted: bytes between strokes. -/
import Derived.Test.YtipmmkelialgkaaGreatDoorLexEnd
import Derived.Test.YtipmmkelialgkaaGreatDoorLexAny2
set_option linter.unusedVariables false
set_option linter.unusedSimpArgs false
namespace Go.Proofs.YtipmmkelialgkaaGreatDoor.Lex
open Go.RowKit Go.Lib Go.Proofs.YtipmmkelialgkaaGreatDoorW.PrintWords Go.Proofs.YtipmmkelialgkaaGreatDoorW.PrintLast Go.Proofs.YtipmmkelialgkaaGreatDoorW.PrintMore Go.Proofs.YtipmmkelialgkaaGreatDoor.PLex

/-- A byte of a text, by its place. -/
theorem byte_at {s : ByteArray} {q : Nat} (h : q < s.size) : s.data.toList[q]? = some s[q] := by
  have hl : q < s.data.toList.length := by rw [Array.length_toList]; exact h
  rw [List.getElem?_eq_getElem hl]
  rfl

set_option maxRecDepth 100000 in
set_option maxHeartbeats 1000000 in
theorem quoted_calls {B g : Nat} {s : ByteArray} {q : Nat} {l : List Tok} (w : World) (hR : Rd B g s q l w) (hp : q < s.size) (hs : s.size ≤ 1000000) (hl : l.length ≤ 1000000) :
    Calls Tryz.prog 55 #[.pointer (some ⟨g, 0, none⟩)] w (Post B g s q l w (quotedR (s.data.toList.drop q))) := by
  have HR := Aside0.mk hR
  have hq : (0 : Int) ≤ q := Int.natCast_nonneg _
  obtain ⟨c0, c1, _⟩ := hR.cells
  have hgs : g < w.heap.size := by have := hR.1; have := hR.2.1; omega
  have hBs : B ≤ w.heap.size := hR.2.1
  clear hR c0
  obtain ⟨t, ht⟩ : ∃ t, t = bs (s.data.toList.drop q) := ⟨_, rfl⟩
  have htl : t.data.toList = s.data.toList.drop q := by rw [ht, bs_list]
  have hts : t.size = s.size - q := by rw [ht, bs_size, List.length_drop, Array.length_toList]; rfl
  have h0 : 0 < t.size := by omega
  have hc : t.data.toList = t[0] :: t.data.toList.drop 1 := by simpa using rest_cons (s := t) (q := 0) h0
  rw [← htl]
  have HT := Aside0.mk ht
  clear ht htl
  by_cases h1 : t[0].toNat = 34
  · have b1 : ((t[0].toNat : Int) != 34) = false := by simp [h1]
    have e1 : t[0] = 34 := (byte_eq (n := 34) (by decide)).2 h1
    have hv : quotedR t.data.toList = (if (t.data.toList.drop 1)[strLen (t.data.toList.drop 1)]? = some 34 then .tok 4 (bs ((t.data.toList.drop 1).take (strLen (t.data.toList.drop 1)))) 0 (strLen (t.data.toList.drop 1) + 2) else .bad) := by
      conv => lhs; rw [hc]
      simp only [quotedR, if_pos e1]
    rw [hv]
    clear hv hc
    obtain ⟨u, hu⟩ : ∃ u, u = bs (t.data.toList.drop 1) := ⟨_, rfl⟩
    have hul : u.data.toList = t.data.toList.drop 1 := by rw [hu, bs_list]
    have hue : t.extract 1 t.size = u := by rw [extract_end, hu]
    have hus : u.size = t.size - 1 := by rw [hu, bs_size, List.length_drop, Array.length_toList]; rfl
    rw [← hul]
    have hsl := strLen_le u.data.toList
    rw [Array.length_toList] at hsl
    have hsl' : strLen u.data.toList ≤ u.size := hsl
    obtain ⟨V, hV⟩ : ∃ V : Int, V = (if strLen u.data.toList < u.size then (strLen u.data.toList : Int) else -1) := ⟨_, rfl⟩
    have HU := Aside0.mk hue
    have HS : Aside0 (u.size = t.size - 1) := ⟨hus⟩
    have hub : u.size ≤ 1000000 := by omega
    have hV0 := hV
    by_cases hlt : strLen u.data.toList < u.size
    · rw [if_pos hlt] at hV
      have hat : t.data.toList[1 + strLen u.data.toList]? = u.data.toList[strLen u.data.toList]? := by rw [hul, List.getElem?_drop]
      have hin : 1 + strLen u.data.toList < t.size := by omega
      by_cases hst : u.data.toList[strLen u.data.toList]? = some 34
      · rw [if_pos hst]
        have hx : bs (u.data.toList.take (strLen u.data.toList)) = t.extract 1 (1 + strLen u.data.toList) := by
          rw [extract_bs, hul, Nat.add_sub_cancel_left]
        rw [hx]
        rw [hst, byte_at hin] at hat
        have hb : t[1 + strLen u.data.toList] = 34 := by injection hat
        clear hsl hx hst hat hul hsl'
        generalize hn : strLen u.data.toList = n at *
        have hw1 : IntKind.i64.wrap (1 + (n : Int)) = 1 + n := IntWalk.i64_in _ (by omega)
        have HV : Aside0 ((if strLen u.data.toList < u.size then (strLen u.data.toList : Int) else -1) = n) := ⟨by rw [hn]; exact hV0.symm.trans hV⟩
        have hb1 : ((t[1 + n].toNat : Int) != 34) = false := by rw [hb]; rfl
        have hn0 : (0 : Int) ≤ n := Int.natCast_nonneg _
        have hn3 : ((n : Int) < 0) = False := by simp
        have hn4 : (1 : Int) + n < t.size := by omega
        have hts1 : t.size ≤ 1000000 := by omega
        have h0' : (1 : Int) ≤ t.size := by omega
        clear hb hV hV0 hlt hts hus hue hu hn
        go_enter Tryz.func55, Tryz.ntmps55
        go_wp2_with (first
          | (go_at_call 98; refine (rest_calls _ HR.out (Nat.le_of_lt hp)).mono ?_; rintro e w' ⟨rfl, ⟨nd, rfl⟩⟩; rw [← HT.out])
          | (go_at_call 100; rw [HU.out]; refine (indexAny_any u _ hub).mono ?_; rintro e w' ⟨rfl, hbw⟩; rw [HV.out]; have HB := Aside0.mk hbw; clear hbw))
        refine (put_calls _ _ _ _ _ _ ((HR.out.drewN _).below HB.out) ⟨hq, by omega⟩ ⟨by omega, by omega⟩ hl).mono ?_
        rintro e w3 ⟨rfl, h2, h3⟩
        have H2 := Aside0.mk h2
        have H3 := Aside0.mk h3
        clear h2 h3
        go_wp2
        go_ret
        have hc : ((n + 2 : Nat) : Int) = (n : Int) + 2 := by omega
        refine ⟨rfl, ?_, ((Fr.drewN _ _).trans (Fr.of_below (HB.out.mono (by exact hBs)))).trans H3.out⟩
        rw [hc]
        exact H2.out
      · rw [if_neg hst]
        have hb : t[1 + strLen u.data.toList] ≠ 34 := by
          intro e
          apply hst
          rw [← hat, byte_at hin, e]
        have hb' : t[1 + strLen u.data.toList].toNat ≠ 34 := fun e => hb ((byte_eq (n := 34) (by decide)).2 e)
        clear hsl hst hat hul hsl' hb
        generalize hn : strLen u.data.toList = n at *
        have hw1 : IntKind.i64.wrap (1 + (n : Int)) = 1 + n := IntWalk.i64_in _ (by omega)
        have HV : Aside0 ((if strLen u.data.toList < u.size then (strLen u.data.toList : Int) else -1) = n) := ⟨by rw [hn]; exact hV0.symm.trans hV⟩
        have hb1 : ((t[1 + n].toNat : Int) != 34) = true := by simp; omega
        have hn0 : (0 : Int) ≤ n := Int.natCast_nonneg _
        have hn3 : ((n : Int) < 0) = False := by simp
        have hn4 : (1 : Int) + n < t.size := by omega
        have hts1 : t.size ≤ 1000000 := by omega
        have h0' : (1 : Int) ≤ t.size := by omega
        clear hb' hV hV0 hlt hts hus hue hu hn
        go_enter Tryz.func55, Tryz.ntmps55
        go_wp2_with (first
          | (go_at_call 98; refine (rest_calls _ HR.out (Nat.le_of_lt hp)).mono ?_; rintro e w' ⟨rfl, ⟨nd, rfl⟩⟩; rw [← HT.out])
          | (go_at_call 100; rw [HU.out]; refine (indexAny_any u _ hub).mono ?_; rintro e w' ⟨rfl, hbw⟩; rw [HV.out]; have k1 := (hbw.cell (p := ⟨g, 1, none⟩) hgs).trans c1; have HB := Aside0.mk hbw; clear hbw))
        exact ⟨rfl, rfl, (HR.out.drewN _).below HB.out, (Fr.drewN _ _).trans (Fr.of_below (HB.out.mono hBs))⟩
    · rw [if_neg hlt] at hV
      have hno : u.data.toList[strLen u.data.toList]? ≠ some 34 := by
        rw [List.getElem?_eq_none (by rw [Array.length_toList]; show u.size ≤ _; omega)]
        exact fun h => nomatch h
      rw [if_neg hno]
      have HV : Aside0 ((if strLen u.data.toList < u.size then (strLen u.data.toList : Int) else -1) = -1) := ⟨hV0.symm.trans hV⟩
      have hts1 : t.size ≤ 1000000 := by omega
      have h0' : (1 : Int) ≤ t.size := by omega
      clear hsl hul hsl' hno hV hV0 hlt hts hus hue hu
      go_enter Tryz.func55, Tryz.ntmps55
      go_wp2_with (first
        | (go_at_call 98; refine (rest_calls _ HR.out (Nat.le_of_lt hp)).mono ?_; rintro e w' ⟨rfl, ⟨nd, rfl⟩⟩; rw [← HT.out])
        | (go_at_call 100; rw [HU.out]; refine (indexAny_any u _ hub).mono ?_; rintro e w' ⟨rfl, hbw⟩; rw [HV.out]; have k1 := (hbw.cell (p := ⟨g, 1, none⟩) hgs).trans c1; have HB := Aside0.mk hbw; clear hbw))
      exact ⟨rfl, rfl, (HR.out.drewN _).below HB.out, (Fr.drewN _ _).trans (Fr.of_below (HB.out.mono hBs))⟩
  · have b1 : ((t[0].toNat : Int) != 34) = true := by simp; omega
    have n1 : t[0] ≠ 34 := fun e => h1 (by rw [e]; rfl)
    have hv : quotedR t.data.toList = .no := by rw [hc]; simp [quotedR, n1]
    rw [hv]
    clear hv hc h1 n1
    go_enter Tryz.func55, Tryz.ntmps55
    go_wp2_with (first
      | (go_at_call 98; refine (rest_calls _ HR.out (Nat.le_of_lt hp)).mono ?_; rintro e w' ⟨rfl, ⟨nd, rfl⟩⟩; rw [← HT.out]))
    go_ret
    exact ⟨rfl, HR.out.drewN _, Fr.drewN _ _⟩
end Go.Proofs.YtipmmkelialgkaaGreatDoor.Lex
