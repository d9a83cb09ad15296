/- (*lex.reader).end, .sign, .word: the lexer's steps, each as its plain word tells. · (*lex.reader).name: a name, or a scalar, in its hooks. -/
import Derived.Test.YtipmmkelialgkaaGreatDoorGLlg6
import Derived.WalkLawsBesides
import Derived.Test.YtipmmkelialgkaaGreatDoorGLlg5
set_option linter.unusedVariables false
set_option linter.unusedSimpArgs false
namespace Go.Proofs.YtipmmkelialgkaaGreatDoor.Lex
open Go.RowKit Go.Lib Go.Proofs.YtipmmkelialgkaaGreatDoorW.PrintWords Go.Proofs.YtipmmkelialgkaaGreatDoorW.PrintLast Go.Proofs.YtipmmkelialgkaaGreatDoorW.PrintMore Go.Proofs.YtipmmkelialgkaaGreatDoor.PLex

/-- 'ended', whatever tokens there are. -/
theorem ended_calls {B g : Nat} {s : ByteArray} {p : Int} {l : List Tok} (w : World) (hR : Rd B g s p l w) (hl : l.length ≤ 1000000) :
    Calls Tryz.prog 58 #[.pointer (some ⟨g, 0, none⟩)] w fun e w' => e = .returned (.bool (endedF l)) ∧ ∃ n, w' = w.drewN n := by
  rcases List.eq_nil_or_concat l with rfl | ⟨l', t, rfl⟩
  · exact ended_nil w hR
  · rw [List.concat_eq_append] at hR hl ⊢
    rw [endedF_snoc]
    exact ended_snoc t w hR (by simp at hl; omega)

set_option maxRecDepth 100000 in
theorem end_calls {B g : Nat} {s : ByteArray} {q : Nat} {l : List Tok} (w : World) (hR : Rd B g s q l w) (hp : q < s.size) (hs : s.size ≤ 1000000) (hl : l.length ≤ 1000000) :
    Calls Tryz.prog 53 #[.pointer (some ⟨g, 0, none⟩)] w (Post B g s q l w (endR (endedF l) (s.data.toList.drop q))) := by
  rw [rest_cons hp]
  obtain ⟨c0, c1, z0, z1, z2, _⟩ := hR.cells
  have HR := Aside0.mk hR
  have hq : (0 : Int) ≤ q := Int.natCast_nonneg _
  have hq' : (q : Int) < s.size := by omega
  clear hR
  by_cases h1 : s[q].toNat = 10
  · have b1 : ((s[q].toNat : Int) != 10) = false := by simp [h1]
    have e1 : s[q] = 10 := (byte_eq (n := 10) (by decide)).2 h1
    cases he : endedF l with
    | true =>
      have hv : endR true (s[q] :: s.data.toList.drop (q + 1)) = .skip 1 := by simp [endR, e1]
      rw [hv]
      have HE := Aside0.mk he
      clear hv h1 e1 he
      go_enter Tryz.func53, Tryz.ntmps53
      go_wp2
      go_quiet (fail)
      go_wp2_with (go_at_call 58; refine (ended_calls _ (HR.out.drewN _) hl).mono ?_; rintro e w' ⟨rfl, ⟨nd, rfl⟩⟩; rw [HE.out])
      go_ret
      exact ⟨rfl, (HR.out.drewN _).set_at _, (Fr.drewN _ _).trans (Fr.set _ _ _)⟩
    | false =>
      have hv : endR false (s[q] :: s.data.toList.drop (q + 1)) = .tok 6 (bs []) 0 1 := by simp [endR, e1]
      rw [hv]
      have HE := Aside0.mk he
      clear hv h1 e1 he
      go_enter Tryz.func53, Tryz.ntmps53
      go_wp2
      go_quiet (fail)
      go_wp2_with (first
        | (go_at_call 58; refine (ended_calls _ (HR.out.drewN _) hl).mono ?_; rintro e w' ⟨rfl, ⟨nd, rfl⟩⟩; rw [HE.out])
        | (go_at_call 59; refine (put_calls _ _ _ _ _ _ (HR.out.drewN _) ⟨hq, by omega⟩ ⟨by omega, by omega⟩ hl).mono ?_; rintro e w' ⟨rfl, h2, h3⟩; have H2 := Aside0.mk h2; have H3 := Aside0.mk h3; clear h2 h3))
      go_ret
      exact ⟨rfl, H2.out, (Fr.drewN _ _).trans H3.out⟩
  · have b1 : ((s[q].toNat : Int) != 10) = true := by simp; omega
    have n1 : s[q] ≠ 10 := fun e => h1 (by rw [e]; rfl)
    have hv : endR (endedF l) (s[q] :: s.data.toList.drop (q + 1)) = .no := by simp [endR, n1]
    rw [hv]
    clear hv h1 n1
    go_enter Tryz.func53, Tryz.ntmps53
    go_wp2
    go_quiet (fail)
    go_wp2
    go_ret
    exact ⟨rfl, HR.out.drewN _, Fr.drewN _ _⟩

theorem sign_ix (c : UInt8) : (0 ≤ Lib.indexByte [59, 44, 40, 41] c ∧ Lib.indexByte [59, 44, 40, 41] c ≤ 3) ∧ (c = 59 ∨ c = 44 ∨ c = 40 ∨ c = 41) ∨ Lib.indexByte [59, 44, 40, 41] c = -1 ∧ ¬ (c = 59 ∨ c = 44 ∨ c = 40 ∨ c = 41) := by
  by_cases h1 : c = 59
  · subst h1; left; decide
  by_cases h2 : c = 44
  · subst h2; left; decide
  by_cases h3 : c = 40
  · subst h3; left; decide
  by_cases h4 : c = 41
  · subst h4; left; decide
  right
  have e1 : ((59 : UInt8) == c) = false := beq_eq_false_iff_ne.2 (Ne.symm h1)
  have e2 : ((44 : UInt8) == c) = false := beq_eq_false_iff_ne.2 (Ne.symm h2)
  have e3 : ((40 : UInt8) == c) = false := beq_eq_false_iff_ne.2 (Ne.symm h3)
  have e4 : ((41 : UInt8) == c) = false := beq_eq_false_iff_ne.2 (Ne.symm h4)
  exact ⟨by simp [Lib.indexByte, e1, e2, e3, e4], by simp [h1, h2, h3, h4]⟩
theorem byte_back (c : UInt8) : ((c.toNat : Int)).toNat.toUInt8 = c := by simp

set_option maxRecDepth 100000 in
theorem sign_calls {B g : Nat} {s : ByteArray} {q : Nat} {l : List Tok} (w : World) (hR : Rd B g s q l w) (hp : q < s.size) (hs : s.size ≤ 1000000) (hl : l.length ≤ 1000000) :
    Calls Tryz.prog 54 #[.pointer (some ⟨g, 0, none⟩)] w (Post B g s q l w (signR (s.data.toList.drop q))) := by
  have HR := Aside0.mk hR
  have hq : (0 : Int) ≤ q := Int.natCast_nonneg _
  clear hR
  obtain ⟨t, ht⟩ : ∃ t, t = bs (s.data.toList.drop q) := ⟨_, rfl⟩
  have htl : t.data.toList = s.data.toList.drop q := by rw [ht, bs_list]
  have hts : t.size = s.size - q := by rw [ht, bs_size, List.length_drop, Array.length_toList]; rfl
  have h0 : 0 < t.size := by omega
  have hc : t.data.toList = t[0] :: t.data.toList.drop 1 := by simpa using rest_cons (s := t) (q := 0) h0
  rw [← htl]
  have HT := Aside0.mk ht
  clear ht htl
  by_cases h1 : Lib.hasPrefix t.data.toList [46, 46, 46] = true
  · have hv : signR t.data.toList = .tok 2 (bs [46, 46, 46]) 0 3 := by
      rw [hc] at h1 ⊢
      simp only [signR]
      rw [if_pos h1]
    rw [hv]
    have H1 := Aside0.mk h1
    clear hv h1 hc
    go_enter Tryz.func54, Tryz.ntmps54
    go_wp2_with (first
      | (go_at_call 98; refine (rest_calls _ HR.out (Nat.le_of_lt hp)).mono ?_; rintro e w' ⟨rfl, ⟨nd, rfl⟩⟩; rw [← HT.out])
      | (go_at_call 99; refine (Tryz.strings_HasPrefix _ _ _).mono ?_; rintro e w' ⟨rfl, rfl⟩; rw [H1.out])
      | (go_at_call 59; refine (put_calls _ _ _ _ _ _ (HR.out.drewN _) ⟨hq, by omega⟩ ⟨by omega, by omega⟩ hl).mono ?_; rintro e w' ⟨rfl, h2, h3⟩; have H2 := Aside0.mk h2; have H3 := Aside0.mk h3; clear h2 h3))
    go_ret
    exact ⟨rfl, H2.out, (Fr.drewN _ _).trans H3.out⟩
  · have h1' : Lib.hasPrefix t.data.toList [46, 46, 46] = false := by simpa using h1
    rcases sign_ix t[0] with ⟨⟨k0, k1⟩, hm⟩ | ⟨k0, hm⟩
    · have hv : signR t.data.toList = .tok 2 (bs [t[0]]) 0 1 := by
        rw [hc] at h1 ⊢
        simp only [signR]
        rw [if_neg h1, if_pos hm]
      rw [hv]
      have hx : bs [t[0]] = t.extract 0 1 := by rw [extract_bs, List.drop_zero, hc]; rfl
      rw [hx]
      have H1 := Aside0.mk h1'
      obtain ⟨k, hk⟩ : ∃ k, k = Lib.indexByte [59, 44, 40, 41] t[0] := ⟨_, rfl⟩
      rw [← hk] at k0 k1
      have HK : Aside0 (Lib.indexByte [59, 44, 40, 41] ((t[0].toNat : Int)).toNat.toUInt8 = k) := ⟨by rw [byte_back]; exact hk.symm⟩
      clear hv h1 h1' hc hm hx hk
      go_enter Tryz.func54, Tryz.ntmps54
      go_wp2_with (first
        | (go_at_call 98; refine (rest_calls _ HR.out (Nat.le_of_lt hp)).mono ?_; rintro e w' ⟨rfl, ⟨nd, rfl⟩⟩; rw [← HT.out])
        | (go_at_call 99; refine (Tryz.strings_HasPrefix _ _ _).mono ?_; rintro e w' ⟨rfl, rfl⟩; rw [H1.out])
        | (go_at_call 91; refine (Tryz.strings_IndexByte _ _ _).mono ?_; rintro e w' ⟨rfl, rfl⟩; rw [HK.out])
        | (go_at_call 59; refine (put_calls _ _ _ _ _ _ (HR.out.drewN _) ⟨hq, by omega⟩ ⟨by omega, by omega⟩ hl).mono ?_; rintro e w' ⟨rfl, h2, h3⟩; have H2 := Aside0.mk h2; have H3 := Aside0.mk h3; clear h2 h3))
      go_ret
      exact ⟨rfl, H2.out, (Fr.drewN _ _).trans H3.out⟩
    · have hv : signR t.data.toList = .no := by
        rw [hc] at h1 ⊢
        simp only [signR]
        rw [if_neg h1, if_neg hm]
      rw [hv]
      have H1 := Aside0.mk h1'
      have HK : Aside0 (Lib.indexByte [59, 44, 40, 41] ((t[0].toNat : Int)).toNat.toUInt8 = -1) := ⟨by rw [byte_back]; exact k0⟩
      clear hv h1 h1' hc hm k0
      go_enter Tryz.func54, Tryz.ntmps54
      go_wp2_with (first
        | (go_at_call 98; refine (rest_calls _ HR.out (Nat.le_of_lt hp)).mono ?_; rintro e w' ⟨rfl, ⟨nd, rfl⟩⟩; rw [← HT.out])
        | (go_at_call 99; refine (Tryz.strings_HasPrefix _ _ _).mono ?_; rintro e w' ⟨rfl, rfl⟩; rw [H1.out])
        | (go_at_call 91; refine (Tryz.strings_IndexByte _ _ _).mono ?_; rintro e w' ⟨rfl, rfl⟩; rw [HK.out]))
      go_ret
      exact ⟨rfl, HR.out.drewN _, Fr.drewN _ _⟩

set_option maxRecDepth 100000 in
theorem wordm_calls {B g : Nat} {s : ByteArray} {q : Nat} {l : List Tok} (w : World) (hR : Rd B g s q l w) (hp : q < s.size) (hs : s.size ≤ 1000000) (hl : l.length ≤ 1000000) :
    Calls Tryz.prog 57 #[.pointer (some ⟨g, 0, none⟩)] w (Post B g s q l w (wordR (s.data.toList.drop q))) := by
  have HR := Aside0.mk hR
  have hq : (0 : Int) ≤ q := Int.natCast_nonneg _
  obtain ⟨c0, c1, _⟩ := hR.cells
  have hgs : g < w.heap.size := by have := hR.1; have := hR.2.1; omega
  have hBs : B ≤ w.heap.size := hR.2.1
  clear hR c0
  obtain ⟨t, ht⟩ : ∃ t, t = bs (s.data.toList.drop q) := ⟨_, rfl⟩
  have htl : t.data.toList = s.data.toList.drop q := by rw [ht, bs_list]
  have hts : t.size = s.size - q := by rw [ht, bs_size, List.length_drop, Array.length_toList]; rfl
  rw [← htl]
  have hle := wlen_le t.data.toList
  rw [Array.length_toList] at hle
  have hle' : wlen t.data.toList ≤ t.size := hle
  have HT := Aside0.mk ht
  clear ht htl hle
  by_cases h1 : wlen t.data.toList = 0
  · have hv : wordR t.data.toList = .bad := by simp [wordR, h1]
    rw [hv]
    have H1 : Aside0 ((wlen t.data.toList : Int) = 0) := ⟨by omega⟩
    clear hv h1 hle'
    go_enter Tryz.func57, Tryz.ntmps57
    go_wp2_with (first
      | (go_at_call 98; refine (rest_calls _ HR.out (Nat.le_of_lt hp)).mono ?_; rintro e w' ⟨rfl, ⟨nd, rfl⟩⟩; rw [← HT.out])
      | (go_at_call 101; refine (word_calls _ _ (by omega)).mono ?_; rintro e w' ⟨rfl, hb⟩; rw [H1.out]; have k1 := (hb.cell (p := ⟨g, 1, none⟩) hgs).trans c1; have HB := Aside0.mk hb; clear hb))
    exact ⟨rfl, rfl, (HR.out.drewN _).below HB.out, (Fr.drewN _ _).trans (Fr.of_below (HB.out.mono hBs))⟩
  · have hv : wordR t.data.toList = .tok 1 (bs (t.data.toList.take (wlen t.data.toList))) 0 (wlen t.data.toList) := by simp [wordR, h1]
    rw [hv]
    have hx : bs (t.data.toList.take (wlen t.data.toList)) = t.extract 0 (wlen t.data.toList) := by rw [extract_bs]; rfl
    rw [hx]
    clear hv hx
    generalize hn : wlen t.data.toList = n at *
    have H1 : Aside0 ((wlen t.data.toList : Int) = n) := ⟨by rw [hn]⟩
    have hn0 : (0 : Int) ≤ n := Int.natCast_nonneg _
    have hn1 : ((n : Int) == 0) = false := by simp; omega
    have hn2 : (n : Int) ≤ t.size := by omega
    clear h1 hn
    go_enter Tryz.func57, Tryz.ntmps57
    go_wp2_with fail
    refine (rest_calls _ HR.out (Nat.le_of_lt hp)).mono ?_
    rintro e w' ⟨rfl, ⟨nd, rfl⟩⟩
    rw [← HT.out]
    go_wp2_with fail
    refine (word_calls _ _ (by omega)).mono ?_
    rintro e w' ⟨rfl, hb⟩
    rw [H1.out]
    have HB := Aside0.mk hb
    clear hb
    go_wp2_with fail
    refine (rest_calls _ ((HR.out.drewN _).below HB.out) (Nat.le_of_lt hp)).mono ?_
    rintro e w2 ⟨rfl, ⟨nd2, rfl⟩⟩
    rw [← HT.out]
    go_wp2_with fail
    refine (put_calls _ _ _ _ _ _ (((HR.out.drewN _).below HB.out).drewN _) ⟨hq, by omega⟩ ⟨by omega, by omega⟩ hl).mono ?_
    rintro e w3 ⟨rfl, h2, h3⟩
    have H2 := Aside0.mk h2
    have H3 := Aside0.mk h3
    clear h2 h3
    go_wp2
    go_ret
    exact ⟨rfl, H2.out, (((Fr.drewN _ _).trans (Fr.of_below (HB.out.mono hBs))).trans (Fr.drewN _ _)).trans H3.out⟩
end Go.Proofs.YtipmmkelialgkaaGreatDoor.Lex
set_option linter.unusedVariables false
set_option linter.unusedSimpArgs false
namespace Go.Proofs.YtipmmkelialgkaaGreatDoor.Lex
open Go.RowKit Go.Lib Go.Proofs.YtipmmkelialgkaaGreatDoorW.PrintWords Go.Proofs.YtipmmkelialgkaaGreatDoorW.PrintLast Go.Proofs.YtipmmkelialgkaaGreatDoorW.PrintMore Go.Proofs.YtipmmkelialgkaaGreatDoor.PLex

set_option maxRecDepth 100000 in
theorem right_calls (v : Nat) (hv : v < 16777216) (w : World) :
    Calls Tryz.prog 77 #[.int .i32 v] w fun e w' => e = .returned (.bool (rightN v)) ∧ w' = w := by
  have h0 : (0 : Int) ≤ v := Int.natCast_nonneg _
  have h1 : (v : Int) < 16777216 := by omega
  obtain ⟨a, ha⟩ : ∃ a : Int, a = (v : Int) := ⟨_, rfl⟩
  rw [← ha] at h0 h1 ⊢
  have HA := Aside0.mk ha
  clear ha hv
  go_enter Tryz.func77, Tryz.ntmps77
  go_wp2
  all_goals
    go_ret
    exact ⟨congrArg (fun b => Ending.returned (.bool b)) (by have ha := HA.out; rw [Bool.eq_iff_iff]; simp [rightN]; omega), rfl⟩

theorem scalarR_lt (l : List UInt8) (v : Nat) (h : scalarR l = some v) : v < 16777216 := by
  unfold scalarR at h
  split at h
  · rename_i d
    split at h
    · rename_i hd
      exact hexNum_lt d v hd.2 h
    · exact nomatch h
  · exact nomatch h
theorem wrap_i32 (v : Nat) (h : v < 16777216) : IntKind.i32.wrap (v : Int) = v := by
  have h1 : (0 : Int) ≤ v := Int.natCast_nonneg _
  have h2 : (v : Int) < 16777216 := by omega
  exact IntWalk.i32_in _ (by omega)

set_option maxRecDepth 100000 in
set_option maxHeartbeats 2000000 in
theorem name_calls {B g : Nat} {s : ByteArray} {q : Nat} {l : List Tok} (w : World) (hG : Gl w) (hR : Rd B g s q l w) (hp : q < s.size) (hs : s.size ≤ 1000000) (hl : l.length ≤ 1000000) :
    Calls Tryz.prog 56 #[.pointer (some ⟨g, 0, none⟩)] w (Post B g s q l w (nameR (s.data.toList.drop q))) := by
  have HR := Aside0.mk hR
  have HG := Aside0.mk hG
  have hq : (0 : Int) ≤ q := Int.natCast_nonneg _
  obtain ⟨c0, c1, _⟩ := hR.cells
  have hgs : g < w.heap.size := by have := hR.1; have := hR.2.1; omega
  have hBs : B ≤ w.heap.size := hR.2.1
  clear hR c0 hG
  obtain ⟨t, ht⟩ : ∃ t, t = bs (s.data.toList.drop q) := ⟨_, rfl⟩
  have htl : t.data.toList = s.data.toList.drop q := by rw [ht, bs_list]
  have hts : t.size = s.size - q := by rw [ht, bs_size, List.length_drop, Array.length_toList]; rfl
  have h0 : 0 < t.size := by omega
  have hc : t.data.toList = t[0] :: t.data.toList.drop 1 := by simpa using rest_cons (s := t) (q := 0) h0
  rw [← htl]
  have HT := Aside0.mk ht
  clear ht htl
  by_cases h1 : t[0].toNat = 60
  · have b1 : ((t[0].toNat : Int) != 60) = false := by simp [h1]
    have e1 : t[0] = 60 := (byte_eq (n := 60) (by decide)).2 h1
    obtain ⟨u, hu⟩ : ∃ u, u = bs (t.data.toList.drop 1) := ⟨_, rfl⟩
    have hul : u.data.toList = t.data.toList.drop 1 := by rw [hu, bs_list]
    have hue : t.extract 1 t.size = u := by rw [extract_end, hu]
    have hus : u.size = t.size - 1 := by rw [hu, bs_size, List.length_drop, Array.length_toList]; rfl
    have hv : nameR t.data.toList = (if wlen u.data.toList ≠ 0 ∧ u.data.toList[wlen u.data.toList]? = some 62 then (match scalarR (u.data.toList.take (wlen u.data.toList)) with
      | none => .tok 5 (bs (u.data.toList.take (wlen u.data.toList))) 0 (wlen u.data.toList + 2)
      | some v => if rightN v then .tok 3 (bs []) v (wlen u.data.toList + 2) else .bad) else .bad) := by
      conv => lhs; rw [hc]
      simp only [nameR, if_pos e1]
      rw [← hul]
      rfl
    rw [hv]
    have hle := wlen_le u.data.toList
    rw [Array.length_toList] at hle
    have hle' : wlen u.data.toList ≤ u.size := hle
    have hat : t.data.toList[1 + wlen u.data.toList]? = u.data.toList[wlen u.data.toList]? := by rw [hul, List.getElem?_drop]
    have hx : bs (u.data.toList.take (wlen u.data.toList)) = t.extract 1 (1 + wlen u.data.toList) := by
      rw [extract_bs, hul, Nat.add_sub_cancel_left]
    have HU := Aside0.mk hue
    have hub : u.size ≤ 1000000 := by omega
    have hts1 : t.size ≤ 1000000 := by omega
    have h0' : (1 : Int) ≤ t.size := by omega
    rw [hx]
    obtain ⟨x, hxx⟩ : ∃ x, x = t.extract 1 (1 + wlen u.data.toList) := ⟨_, rfl⟩
    have hxs : scalarR (u.data.toList.take (wlen u.data.toList)) = scalarR x.data.toList := by rw [hxx, ← hx, bs_list]
    rw [hxs, ← hxx]
    rw [← hxx] at hx
    have hxb : x.size ≤ 1000000 := by
      rw [← hx, bs_size, List.length_take]
      omega
    clear hv hc hxs hx hue hu hle
    generalize hn : wlen u.data.toList = n at *
    have HN : Aside0 ((wlen u.data.toList : Int) = n) := ⟨by rw [hn]⟩
    have HX : Aside0 (t.extract 1 (1 + n) = x) := ⟨hxx.symm⟩
    have hn0 : (0 : Int) ≤ n := Int.natCast_nonneg _
    have hw1 : IntKind.i64.wrap (1 + (n : Int)) = 1 + n := IntWalk.i64_in _ (by omega)
    by_cases hz : n = 0
    · have z : ((n : Int) == 0) = true := by simp [hz]
      rw [if_neg (fun h => h.1 hz)]
      clear hz hat hxx hul hus hle' hn hw1 hts
      go_enter Tryz.func56, Tryz.ntmps56
      go_wp2_with (first
        | (go_at_call 98; refine (rest_calls _ HR.out (Nat.le_of_lt hp)).mono ?_; rintro e w' ⟨rfl, ⟨nd, rfl⟩⟩; rw [← HT.out])
        | (go_at_call 101; rw [HU.out]; refine (word_calls u _ hub).mono ?_; rintro e w' ⟨rfl, hb⟩; rw [HN.out]; have k1 := (hb.cell (p := ⟨g, 1, none⟩) hgs).trans c1; have HB := Aside0.mk hb; clear hb))
      exact ⟨rfl, rfl, (HR.out.drewN _).below HB.out, (Fr.drewN _ _).trans (Fr.of_below (HB.out.mono hBs))⟩
    · have z : ((n : Int) == 0) = false := by simp [hz]
      by_cases hst : u.data.toList[n]? = some 62
      · rw [if_pos ⟨hz, hst⟩]
        have hnu : n < u.size := by
          refine Nat.lt_of_not_le fun h => ?_
          rw [List.getElem?_eq_none (by rw [Array.length_toList]; exact h)] at hst
          exact nomatch hst
        have hpre : Lib.hasPrefix (t.extract (1 + n) t.size).data.toList (⟨#[62]⟩ : ByteArray).data.toList = true := by
          rw [extract_end, bs_list]
          rw [hst] at hat
          have hlt : 1 + n < t.data.toList.length := by rw [Array.length_toList]; show _ < t.size; omega
          rw [List.getElem?_eq_getElem hlt] at hat
          rw [List.drop_eq_getElem_cons hlt]
          injection hat with hat
          rw [hat]
          rfl
        have hnt : (1 : Int) + n ≤ t.size := by omega
        have HP := Aside0.mk hpre
        have hn1 : (n : Int) + 2 ≤ 1000000 := by omega
        clear hz hst hat hxx hul hus hle' hn hpre hts hnu
        cases hsc : scalarR x.data.toList with
        | none =>
          have HS : Aside0 (((scalarR x.data.toList).getD 0 : Nat) = 0 ∧ (scalarR x.data.toList).isSome = false) := ⟨by rw [hsc]; exact ⟨rfl, rfl⟩⟩
          clear hsc
          go_enter Tryz.func56, Tryz.ntmps56
          go_wp2_with (first
          | (go_at_call 98; refine (rest_calls _ HR.out (Nat.le_of_lt hp)).mono ?_; rintro e w' ⟨rfl, ⟨nd, rfl⟩⟩; rw [← HT.out])
          | (go_at_call 101; rw [HU.out]; refine (word_calls u _ hub).mono ?_; rintro e w' ⟨rfl, hb⟩; rw [HN.out]; have k1 := (hb.cell (p := ⟨g, 1, none⟩) hgs).trans c1; have HB := Aside0.mk hb; clear hb)
          | (go_at_call 99; refine (Tryz.strings_HasPrefix _ _ _).mono ?_; rintro e w' ⟨rfl, rfl⟩; rw [HP.out])
          | (go_at_call 102; rw [HX.out]; refine (scalar_calls x _ (HG.out.at_below ((below_drewN _ _ _).trans HB.out)) hxb).mono ?_; rintro e w' ⟨rfl, hb2⟩; rw [HS.out.1, HS.out.2]; have HB2 := Aside0.mk hb2; clear hb2))
          rw [HX.out]
          refine (put_calls _ _ _ _ _ _ (((HR.out.drewN _).below HB.out).below HB2.out) ⟨hq, by omega⟩ ⟨by omega, by omega⟩ hl).mono ?_
          rintro e w3 ⟨rfl, h2, h3⟩
          have H2 := Aside0.mk h2
          have H3 := Aside0.mk h3
          clear h2 h3
          go_wp2
          go_ret
          have hc : ((n + 2 : Nat) : Int) = (n : Int) + 2 := by omega
          refine ⟨rfl, ?_, (((Fr.drewN _ _).trans (Fr.of_below (HB.out.mono (by exact hBs)))).trans (Fr.of_below (HB2.out.mono (Nat.le_trans hBs HB.out.size)))).trans H3.out⟩
          rw [hc]
          exact H2.out
        | some v =>
          have hvb : v < 16777216 := scalarR_lt _ _ hsc
          have HS : Aside0 (((scalarR x.data.toList).getD 0 : Nat) = v ∧ (scalarR x.data.toList).isSome = true) := ⟨by rw [hsc]; exact ⟨rfl, rfl⟩⟩
          have hw2 : IntKind.i32.wrap (v : Int) = v := wrap_i32 v hvb
          have hv0 : (0 : Int) ≤ v := Int.natCast_nonneg _
          clear hsc
          dsimp only
          cases hr : rightN v with
          | true =>
            rw [if_pos rfl]
            have HRt := Aside0.mk hr
            clear hr
            go_enter Tryz.func56, Tryz.ntmps56
            go_wp2_with (first
            | (go_at_call 98; refine (rest_calls _ HR.out (Nat.le_of_lt hp)).mono ?_; rintro e w' ⟨rfl, ⟨nd, rfl⟩⟩; rw [← HT.out])
            | (go_at_call 101; rw [HU.out]; refine (word_calls u _ hub).mono ?_; rintro e w' ⟨rfl, hb⟩; rw [HN.out]; have k1 := (hb.cell (p := ⟨g, 1, none⟩) hgs).trans c1; have HB := Aside0.mk hb; clear hb)
            | (go_at_call 99; refine (Tryz.strings_HasPrefix _ _ _).mono ?_; rintro e w' ⟨rfl, rfl⟩; rw [HP.out])
            | (go_at_call 102; rw [HX.out]; refine (scalar_calls x _ (HG.out.at_below ((below_drewN _ _ _).trans HB.out)) hxb).mono ?_; rintro e w' ⟨rfl, hb2⟩; rw [HS.out.1, HS.out.2]; have HB2 := Aside0.mk hb2; clear hb2)
              | (go_at_call 77; refine (right_calls v hvb _).mono ?_; rintro e w' ⟨rfl, rfl⟩; rw [HRt.out]))
            refine (put_calls _ _ _ _ _ _ (((HR.out.drewN _).below HB.out).below HB2.out) ⟨hq, by omega⟩ ⟨by omega, by omega⟩ hl).mono ?_
            rintro e w3 ⟨rfl, h2, h3⟩
            have H2 := Aside0.mk h2
            have H3 := Aside0.mk h3
            clear h2 h3
            go_wp2
            go_ret
            have hc : ((n + 2 : Nat) : Int) = (n : Int) + 2 := by omega
            refine ⟨rfl, ?_, (((Fr.drewN _ _).trans (Fr.of_below (HB.out.mono (by exact hBs)))).trans (Fr.of_below (HB2.out.mono (Nat.le_trans hBs HB.out.size)))).trans H3.out⟩
            rw [hc]
            exact H2.out
          | false =>
            rw [if_neg Bool.false_ne_true]
            have HRt := Aside0.mk hr
            clear hr
            go_enter Tryz.func56, Tryz.ntmps56
            go_wp2_with (first
            | (go_at_call 98; refine (rest_calls _ HR.out (Nat.le_of_lt hp)).mono ?_; rintro e w' ⟨rfl, ⟨nd, rfl⟩⟩; rw [← HT.out])
            | (go_at_call 101; rw [HU.out]; refine (word_calls u _ hub).mono ?_; rintro e w' ⟨rfl, hb⟩; rw [HN.out]; have k1 := (hb.cell (p := ⟨g, 1, none⟩) hgs).trans c1; have HB := Aside0.mk hb; clear hb)
            | (go_at_call 99; refine (Tryz.strings_HasPrefix _ _ _).mono ?_; rintro e w' ⟨rfl, rfl⟩; rw [HP.out])
            | (go_at_call 102; rw [HX.out]; refine (scalar_calls x _ (HG.out.at_below ((below_drewN _ _ _).trans HB.out)) hxb).mono ?_; rintro e w' ⟨rfl, hb2⟩; rw [HS.out.1, HS.out.2]; have k2 := (hb2.cell (p := ⟨g, 1, none⟩) (Nat.lt_of_lt_of_le hgs HB.out.size)).trans k1; have HB2 := Aside0.mk hb2; clear hb2)
              | (go_at_call 77; refine (right_calls v hvb _).mono ?_; rintro e w' ⟨rfl, rfl⟩; rw [HRt.out]))
            exact ⟨rfl, rfl, ((HR.out.drewN _).below HB.out).below HB2.out, ((Fr.drewN _ _).trans (Fr.of_below (HB.out.mono hBs))).trans (Fr.of_below (HB2.out.mono (Nat.le_trans hBs HB.out.size)))⟩
      · rw [if_neg (fun h => hst h.2)]
        have hpre : Lib.hasPrefix (t.extract (1 + n) t.size).data.toList (⟨#[62]⟩ : ByteArray).data.toList = false := by
          rw [extract_end, bs_list]
          by_cases hlt : 1 + n < t.data.toList.length
          · rw [List.getElem?_eq_getElem hlt] at hat
            rw [List.drop_eq_getElem_cons hlt]
            have hne : (62 : UInt8) ≠ t.data.toList[1 + n] := by
              intro e
              apply hst
              rw [← hat, ← e]
            simp [Lib.hasPrefix, List.isPrefixOf]
            exact fun e => hne (by rw [e]; rfl)
          · rw [List.drop_eq_nil_of_le (by omega)]
            rfl
        have hnt : (1 : Int) + n ≤ t.size := by omega
        have HP := Aside0.mk hpre
        clear hz hst hat hxx hul hus hle' hn hpre hts
        go_enter Tryz.func56, Tryz.ntmps56
        go_wp2_with (first
          | (go_at_call 98; refine (rest_calls _ HR.out (Nat.le_of_lt hp)).mono ?_; rintro e w' ⟨rfl, ⟨nd, rfl⟩⟩; rw [← HT.out])
          | (go_at_call 101; rw [HU.out]; refine (word_calls u _ hub).mono ?_; rintro e w' ⟨rfl, hb⟩; rw [HN.out]; have k1 := (hb.cell (p := ⟨g, 1, none⟩) hgs).trans c1; have HB := Aside0.mk hb; clear hb)
          | (go_at_call 99; refine (Tryz.strings_HasPrefix _ _ _).mono ?_; rintro e w' ⟨rfl, rfl⟩; rw [HP.out]))
        exact ⟨rfl, rfl, (HR.out.drewN _).below HB.out, (Fr.drewN _ _).trans (Fr.of_below (HB.out.mono hBs))⟩
  · have b1 : ((t[0].toNat : Int) != 60) = true := by simp; omega
    have n1 : t[0] ≠ 60 := fun e => h1 (by rw [e]; rfl)
    have hv : nameR t.data.toList = .no := by rw [hc]; simp [nameR, n1]
    rw [hv]
    clear hv hc h1 n1
    go_enter Tryz.func56, Tryz.ntmps56
    go_wp2_with (first
      | (go_at_call 98; refine (rest_calls _ HR.out (Nat.le_of_lt hp)).mono ?_; rintro e w' ⟨rfl, ⟨nd, rfl⟩⟩; rw [← HT.out]))
    go_ret
    exact ⟨rfl, HR.out.drewN _, Fr.drewN _ _⟩
end Go.Proofs.YtipmmkelialgkaaGreatDoor.Lex
