/- (*lex.reader).blank, .end, .sign, .word: the lexer's steps, each as its plain word tells. -/
import Derived.Test.YtipmmkelialgkaaGreatDoorLexWord
import Derived.Test.YtipmmkelialgkaaGreatDoorLexPut
set_option linter.unusedVariables false
set_option linter.unusedSimpArgs false
namespace Go.Proofs.YtipmmkelialgkaaGreatDoor.Lex
open Go.RowKit Go.Lib Go.Proofs.YtipmmkelialgkaaGreatDoorW.PrintWords Go.Proofs.YtipmmkelialgkaaGreatDoorW.PrintLast Go.Proofs.YtipmmkelialgkaaGreatDoorW.PrintMore Go.Proofs.YtipmmkelialgkaaGreatDoor.PLex

/-- What is wrong, as it is thrown. -/
def wrongV (e p : Int) : PanicEntry := { v := .iface 105 (.agg #[.int .u16 e, .int .i64 p]), recovered := false }
/-- What a step leaves. -/
def Post (B g : Nat) (s : ByteArray) (p : Int) (l : List Tok) (w : World) : Res → Ending → World → Prop
  | .no, e, w' => e = .returned (.bool false) ∧ Rd B g s p l w' ∧ Fr B g w w'
  | .skip n, e, w' => e = .returned (.bool true) ∧ Rd B g s (p + n) l w' ∧ Fr B g w w'
  | .tok t0 t1 t2 n, e, w' => e = .returned (.bool true) ∧ Rd B g s (p + n) (l ++ [(⟨t0, t1, t2, p⟩ : Tok)]) w' ∧ Fr B g w w'
  | .bad, e, w' => e = .panicked [wrongV 20 p] ∧ Rd B g s p l w' ∧ Fr B g w w'

theorem Fr.drewN {B g : Nat} (w : World) (n : Nat) : Fr B g w (w.drewN n) := ⟨rfl, rfl, rfl, Nat.le_refl _, fun _ _ _ => rfl⟩

theorem rest_cons {s : ByteArray} {q : Nat} (h : q < s.size) : s.data.toList.drop q = s[q] :: s.data.toList.drop (q + 1) := by
  have hl : q < s.data.toList.length := by rw [Array.length_toList]; exact h
  rw [List.drop_eq_getElem_cons hl]
  congr 1
theorem beqI {c : UInt8} {n : Nat} (h : c.toNat = n) : ((c.toNat : Int) == (n : Int)) = true := by simp [h]
theorem byte_eq {c : UInt8} {n : Nat} (hn : n < 256) : c = UInt8.ofNat n ↔ c.toNat = n := by
  constructor
  · rintro rfl; simp [Nat.mod_eq_of_lt hn]
  · intro h; rw [← h]; simp

set_option maxRecDepth 100000 in
theorem blank_calls {B g : Nat} {s : ByteArray} {q : Nat} {l : List Tok} (w : World) (hR : Rd B g s q l w) (hp : q < s.size) (hs : s.size ≤ 1000000) :
    Calls Tryz.prog 52 #[.pointer (some ⟨g, 0, none⟩)] w (Post B g s q l w (blankR (s.data.toList.drop q))) := by
  rw [rest_cons hp]
  have hle := lineLen_le (s.data.toList.drop q)
  have hi := indexByte_line (s.data.toList.drop q)
  rw [List.length_drop, Array.length_toList] at hle hi
  have hle' : lineLen (s.data.toList.drop q) ≤ s.size - q := hle
  rw [rest_cons hp] at hi hle'
  obtain ⟨c0, c1, z0, z1, z2, _⟩ := hR.cells
  have HR := Aside0.mk hR
  have hq : (0 : Int) ≤ q := Int.natCast_nonneg _
  have hq' : (q : Int) < s.size := by omega
  clear hR hle
  by_cases h1 : s[q].toNat = 32
  · have b1 : ((s[q].toNat : Int) == 32) = true := by simp [h1]
    have hv : blankR (s[q] :: s.data.toList.drop (q + 1)) = .skip 1 := by simp [blankR, (byte_eq (n := 32) (by decide)).2 h1]
    rw [hv]
    clear hi hv h1
    go_enter Tryz.func52, Tryz.ntmps52
    go_wp2
    go_quiet (fail)
    go_wp2
    go_ret
    exact ⟨rfl, (HR.out.drewN _).set_at _, (Fr.drewN _ _).trans (Fr.set _ _ _)⟩
  by_cases h2 : s[q].toNat = 9
  · have b1 : ((s[q].toNat : Int) == 32) = false := by simp; omega
    have b2 : ((s[q].toNat : Int) == 9) = true := by simp [h2]
    have hv : blankR (s[q] :: s.data.toList.drop (q + 1)) = .skip 1 := by simp [blankR, (byte_eq (n := 9) (by decide)).2 h2]
    rw [hv]
    clear hi hv h1 h2
    go_enter Tryz.func52, Tryz.ntmps52
    go_wp2
    go_quiet (fail)
    go_wp2
    go_ret
    exact ⟨rfl, (HR.out.drewN _).set_at _, (Fr.drewN _ _).trans (Fr.set _ _ _)⟩
  have b1 : ((s[q].toNat : Int) == 32) = false := by simp; omega
  have b2 : ((s[q].toNat : Int) == 9) = false := by simp; omega
  have n1 : s[q] ≠ 32 := fun e => h1 (by rw [e]; rfl)
  have n2 : s[q] ≠ 9 := fun e => h2 (by rw [e]; rfl)
  by_cases h3 : s[q].toNat = 37
  · have b3 : ((s[q].toNat : Int) == 37) = true := by simp [h3]
    have hv : blankR (s[q] :: s.data.toList.drop (q + 1)) = .skip (lineLen (s[q] :: s.data.toList.drop (q + 1))) := by simp [blankR, (byte_eq (n := 37) (by decide)).2 h3]
    rw [hv]
    rw [← rest_cons hp] at hi hle' ⊢
    rw [← bs_list (s.data.toList.drop q)] at hi
    have hsz : (bs (s.data.toList.drop q)).size = s.size - q := by rw [bs_size, List.length_drop, Array.length_toList]; rfl
    clear hv h1 h2 h3 n1 n2
    rw [bs_list] at hi
    rw [show s.data.size = s.size from rfl] at hi
    generalize lineLen (s.data.toList.drop q) = n at *
    have hn0 : (0 : Int) ≤ n := Int.natCast_nonneg _
    have HZ : Aside0 ((bs (s.data.toList.drop q)).size = s.size - q) := ⟨hsz⟩
    have hs0 : ((bs (s.data.toList.drop q)).size : Int) = s.size - q := by omega
    clear hsz
    by_cases hlt : n < s.size - q
    · rw [if_pos hlt] at hi
      have HI : Aside0 (Lib.indexByte (bs (s.data.toList.drop q)).data.toList ((10 : Int).toNat.toUInt8) = n) := ⟨by rw [bs_list]; exact hi⟩
      clear hi hlt hs0
      go_enter Tryz.func52, Tryz.ntmps52
      go_wp2
      go_quiet (fail)
      go_wp2_with (first
        | (go_at_call 98; refine (rest_calls _ (HR.out.drewN _) (Nat.le_of_lt hp)).mono ?_; rintro e w' ⟨rfl, ⟨nd, rfl⟩⟩)
        | (go_at_call 91; refine (Tryz.strings_IndexByte _ _ _).mono ?_; rintro e w' ⟨rfl, rfl⟩; rw [HI.out]))
      go_ret
      exact ⟨rfl, (HR.out.drewN _).set_at _, (Fr.drewN _ _).trans (Fr.set _ _ _)⟩
    · rw [if_neg hlt] at hi
      have HI : Aside0 (Lib.indexByte (bs (s.data.toList.drop q)).data.toList ((10 : Int).toNat.toUInt8) = -1) := ⟨by rw [bs_list]; exact hi⟩
      have hne : (n : Int) = (bs (s.data.toList.drop q)).size := by omega
      clear hi hlt hs0
      rw [show n = (bs (s.data.toList.drop q)).size by omega]
      clear hne hn0 hle'
      have hb : ((bs (s.data.toList.drop q)).size : Int) ≤ 1000000 := by have := HZ.out; omega
      go_enter Tryz.func52, Tryz.ntmps52
      go_wp2
      go_quiet (fail)
      go_wp2_with (first
        | (go_at_call 98; refine (rest_calls _ (HR.out.drewN _) (Nat.le_of_lt hp)).mono ?_; rintro e w' ⟨rfl, ⟨nd, rfl⟩⟩)
        | (go_at_call 91; refine (Tryz.strings_IndexByte _ _ _).mono ?_; rintro e w' ⟨rfl, rfl⟩; rw [HI.out]))
      go_ret
      exact ⟨rfl, (HR.out.drewN _).set_at _, (Fr.drewN _ _).trans (Fr.set _ _ _)⟩
  · have b3 : ((s[q].toNat : Int) == 37) = false := by simp; omega
    have n3 : s[q] ≠ 37 := fun e => h3 (by rw [e]; rfl)
    have hv : blankR (s[q] :: s.data.toList.drop (q + 1)) = .no := by simp [blankR, n1, n2, n3]
    rw [hv]
    clear hi hv h1 h2 h3 n1 n2 n3
    go_enter Tryz.func52, Tryz.ntmps52
    go_wp2
    go_quiet (fail)
    go_wp2
    go_ret
    exact ⟨rfl, HR.out.drewN _, Fr.drewN _ _⟩
end Go.Proofs.YtipmmkelialgkaaGreatDoor.Lex
