/- lex.Tokens: what the rounds tell, and the deferred closure's word. -/
import Derived.Test.YtipmmkelialgkaaGreatDoorGLlg9
set_option linter.unusedVariables false
set_option linter.unusedSimpArgs false
namespace Go.Proofs.YtipmmkelialgkaaGreatDoor.Lex
open Go.RowKit Go.Lib Go.Proofs.YtipmmkelialgkaaGreatDoorW.PrintWords Go.Proofs.YtipmmkelialgkaaGreatDoorW.PrintLast Go.Proofs.YtipmmkelialgkaaGreatDoorW.PrintMore Go.Proofs.YtipmmkelialgkaaGreatDoor.PLex

set_option maxRecDepth 100000 in
theorem tokens_long (s : ByteArray) (w : World) (hs : 4000 < s.size) :
    Calls Tryz.prog 22 #[.string s] w (TokPost w ([], 3, 0)) := by
  have hs' : (4000 : Int) < s.size := by omega
  go_enter_defers Tryz.func22, Tryz.ntmps22
  go_wp2
  go_step3
  go_wp2
  simp only [Exit.noGoto_ret]
  refine ⟨_, (by simp [results, Tryz.results22, go_sem]; rfl), ?_⟩
  refine ⟨.slice none 0 0, rfl, Kd.R_nil _ _ _ _ _, ?_⟩
  exact (((Below.refl _ w).alloc (Nat.le_refl _) _).alloc (by simp) _).alloc (by simp; omega) _

theorem R_low_set {α : Type} {d : Kd α} {e : Nat} {w : World} {base : Nat} {ok : Nat → Prop} {v : Value} {xs : List α} (h : d.R e w base ok v xs) {p : Addr} (hp : p.block < base) (u : Value) : d.R e (w.setCell p u) base ok v xs :=
  Kd.R_mono (Kd.R_far (Kd.R_bound h) (fun k hk => by have := hk.2.1; omega) u) (fun _ hk => hk.1)
theorem lay5 (w : World) (o1 o2 o3 o4 o5 : Obj) : ∃ W, W = ((((w.alloc o1).alloc o2).alloc o3).alloc o4).alloc o5 ∧ W.heap[w.heap.size]? = some o1 ∧ W.heap[w.heap.size + 1]? = some o2 ∧ W.heap[w.heap.size + 1 + 1]? = some o3 ∧
    W.heap[w.heap.size + 1 + 1 + 1]? = some o4 ∧ W.heap[w.heap.size + 1 + 1 + 1 + 1]? = some o5 ∧ W.heap.size = w.heap.size + 1 + 1 + 1 + 1 + 1 ∧ Below w.heap.size w W := by
  refine ⟨_, rfl, ?_, ?_, ?_, ?_, ?_, ?_, ?_⟩
  · show (((((w.heap.push o1).push o2).push o3).push o4).push o5)[_]? = _
    simp only [Array.getElem?_push, Array.size_push]
    repeat (first | rw [if_pos rfl] | rw [if_pos trivial] | rw [if_neg (by omega)])
  · show (((((w.heap.push o1).push o2).push o3).push o4).push o5)[_]? = _
    simp only [Array.getElem?_push, Array.size_push]
    repeat (first | rw [if_pos rfl] | rw [if_pos trivial] | rw [if_neg (by omega)])
  · show (((((w.heap.push o1).push o2).push o3).push o4).push o5)[_]? = _
    simp only [Array.getElem?_push, Array.size_push]
    repeat (first | rw [if_pos rfl] | rw [if_pos trivial] | rw [if_neg (by omega)])
  · show (((((w.heap.push o1).push o2).push o3).push o4).push o5)[_]? = _
    simp only [Array.getElem?_push, Array.size_push]
    repeat (first | rw [if_pos rfl] | rw [if_pos trivial] | rw [if_neg (by omega)])
  · show (((((w.heap.push o1).push o2).push o3).push o4).push o5)[_]? = _
    simp only [Array.getElem?_push, Array.size_push]
    repeat (first | rw [if_pos rfl] | rw [if_pos trivial] | rw [if_neg (by omega)])
  · simp [World.alloc, -World.alloc_eq]
  · exact (((((Below.refl _ w).alloc (Nat.le_refl _) _).alloc (by simp) _).alloc (by simp; omega) _).alloc (by simp; omega) _).alloc (by simp; omega) _

theorem ix0 (x0 x1 x2 x3 x4 x5 : Value) (w : World) : (Instr.index 106 (.agg #[x0, x1, x2, x3, x4, x5]) (.int .i64 0)).run Tryz.prog w = .ok x0 w := by kernel_rfl
theorem ix1 (x0 x1 x2 x3 x4 x5 : Value) (w : World) : (Instr.index 106 (.agg #[x0, x1, x2, x3, x4, x5]) (.int .i64 1)).run Tryz.prog w = .ok x1 w := by kernel_rfl
theorem ix2 (x0 x1 x2 x3 x4 x5 : Value) (w : World) : (Instr.index 106 (.agg #[x0, x1, x2, x3, x4, x5]) (.int .i64 2)).run Tryz.prog w = .ok x2 w := by kernel_rfl
theorem ix3 (x0 x1 x2 x3 x4 x5 : Value) (w : World) : (Instr.index 106 (.agg #[x0, x1, x2, x3, x4, x5]) (.int .i64 3)).run Tryz.prog w = .ok x3 w := by kernel_rfl
theorem ix4 (x0 x1 x2 x3 x4 x5 : Value) (w : World) : (Instr.index 106 (.agg #[x0, x1, x2, x3, x4, x5]) (.int .i64 4)).run Tryz.prog w = .ok x4 w := by kernel_rfl
theorem ix5 (x0 x1 x2 x3 x4 x5 : Value) (w : World) : (Instr.index 106 (.agg #[x0, x1, x2, x3, x4, x5]) (.int .i64 5)).run Tryz.prog w = .ok x5 w := by kernel_rfl

set_option maxRecDepth 100000 in
set_option maxHeartbeats 8000000 in
theorem tokens_short (s : ByteArray) (w : World) (hG : Gl w) (hs : ¬ 4000 < s.size) :
    Calls Tryz.prog 22 #[.string s] w (TokPost w (tokensF s)) := by
  have hs' : (s.size : Int) ≤ 4000 := by omega
  have hmf : ∀ (fn : Fn) (first cap : Array Value) (w : World), (Instr.makeFunc fn first cap).run Tryz.prog w = .ok (.func fn first cap) w := fun _ _ _ _ => rfl
  go_enter_defers Tryz.func22, Tryz.ntmps22
  go_wp2
  go_step3
  go_wp2
  go_step3
  go_wp2
  obtain ⟨W0, hW, hA, hBb, hC, hD, hE, hsz, hbel⟩ := lay5 w (.cells #[.slice none 0 0] 59) (.cells #[.int .u16 0] 33) (.cells #[.int .i64 0] 3) (.cells #[.string s, .int .i64 0, .slice none 0 0] 103)
    (.cells #[.func (.func 52) #[.pointer (some ⟨w.heap.size + 1 + 1 + 1, 0, none⟩)] #[], .func (.func 53) #[.pointer (some ⟨w.heap.size + 1 + 1 + 1, 0, none⟩)] #[], .func (.func 54) #[.pointer (some ⟨w.heap.size + 1 + 1 + 1, 0, none⟩)] #[], .func (.func 55) #[.pointer (some ⟨w.heap.size + 1 + 1 + 1, 0, none⟩)] #[], .func (.func 56) #[.pointer (some ⟨w.heap.size + 1 + 1 + 1, 0, none⟩)] #[], .func (.func 57) #[.pointer (some ⟨w.heap.size + 1 + 1 + 1, 0, none⟩)] #[]] 106)
  rw [← hW]
  clear hW
  have hG0 : Gl W0 := hG.at_below hbel
  have hGs := hG.size
  clear hG
  generalize hh : w.heap.size + 1 + 1 + 1 + 1 = h at *
  generalize hg : w.heap.size + 1 + 1 + 1 = g at *
  generalize hc : w.heap.size + 1 + 1 = c at *
  generalize hb : w.heap.size + 1 = b at *
  generalize ha : w.heap.size = a at *
  have hR0 : Rd (h + 1) g s 0 [] W0 := ⟨by omega, by omega, none, 0, Nat.le_refl _, hD, Kd.R_nil _ _ _ _ _⟩
  have hfr0 : Fr (h + 1) g W0 W0 := Fr.refl _ _ _
  have HA := Aside0.mk hA
  have HBb := Aside0.mk hBb
  have HC := Aside0.mk hC
  have HE := Aside0.mk hE
  have HG := Aside0.mk hG0
  have HL := Aside0.mk hbel
  have HGs := Aside0.mk hGs
  clear hGs hA hBb hC hD hE hG0 hbel
  go_loopg [37] s.size (fun gk _ wx => ∃ (q : Nat) (l : List Tok), q ≤ s.size ∧ l.length ≤ q ∧ s.size ≤ q + gk ∧ Aside0 (lexAt s 0 [] = lexAt s q l) ∧ Rd (h + 1) g s q l wx ∧ Fr (h + 1) g W0 wx)
  case atStart => exact ⟨0, [], Nat.zero_le _, Nat.le_refl _, by omega, ⟨rfl⟩, hR0, hfr0⟩
  case round =>
    obtain ⟨q, l, hq, hl, hgk, HX, hR, hf⟩ := hrel
    obtain ⟨c0, c1, z0, z1, z2, A, cc, hcc, c2, hK, _⟩ := hR.cells
    have hq0 : (0 : Int) ≤ q := Int.natCast_nonneg _
    have HR := Aside0.mk hR
    have HF := Aside0.mk hf
    have HK := Aside0.mk hK
    clear hR hf hK
    by_cases hqs : q < s.size
    · obtain ⟨g', rfl⟩ : ∃ g', gk = g' + 1 := ⟨gk - 1, by omega⟩
      have hqi : (q : Int) < s.size := by omega
      have hE : wr.heap[h]? = _ := (HF.out.block h (by omega) (by omega)).trans HE.out
      have e0 : wr.cell? ⟨h, 0, none⟩ = some (.func (.func 52) #[.pointer (some ⟨g, 0, none⟩)] #[]) := by simp [World.cell?, hE]
      have e1 : wr.cell? ⟨h, 1, none⟩ = some (.func (.func 53) #[.pointer (some ⟨g, 0, none⟩)] #[]) := by simp [World.cell?, hE]
      have e2 : wr.cell? ⟨h, 2, none⟩ = some (.func (.func 54) #[.pointer (some ⟨g, 0, none⟩)] #[]) := by simp [World.cell?, hE]
      have e3 : wr.cell? ⟨h, 3, none⟩ = some (.func (.func 55) #[.pointer (some ⟨g, 0, none⟩)] #[]) := by simp [World.cell?, hE]
      have e4 : wr.cell? ⟨h, 4, none⟩ = some (.func (.func 56) #[.pointer (some ⟨g, 0, none⟩)] #[]) := by simp [World.cell?, hE]
      have e5 : wr.cell? ⟨h, 5, none⟩ = some (.func (.func 57) #[.pointer (some ⟨g, 0, none⟩)] #[]) := by simp [World.cell?, hE]
      clear hE
      have hs6 : s.size ≤ 1000000 := by omega
      have hl6 : l.length ≤ 1000000 := by omega
      go_wp2
      clear c0 c1 z0 z1 z2 c2 HK e0 e1 e2 e3 e4 e5
      go_loopg [37] 6 (fun gg v wx => ∃ k : Nat, v = .int .i64 k ∧ k ≤ 5 ∧ 6 ≤ k + gg ∧ Rd (h + 1) g s q l wx ∧ Fr (h + 1) g W0 wx ∧ Aside0 (stepR (endedF l) (s.data.toList.drop q) = restR (endedF l) (s.data.toList.drop q) k))
      case atStart => exact ⟨0, rfl, by omega, by omega, HR.out, HF.out, ⟨rfl⟩⟩
      case round =>
      obtain ⟨k, rfl, hk5, hk6, hR2, hF2, HS0⟩ := hrel
      have hG2 : Gl wr := HG.out.below (hF2.below (B' := g) (by omega) (Nat.le_refl _)) (by have := HGs.out.1; omega) (by have := HGs.out.2; omega)
      have HG2 := Aside0.mk hG2
      have HR2 := Aside0.mk hR2
      have HF2 := Aside0.mk hF2
      clear hR2 hF2 hG2
      have hcase : k = 0 ∨ k = 1 ∨ k = 2 ∨ k = 3 ∨ k = 4 ∨ k = 5 := by omega
      obtain ⟨gg, rfl⟩ : ∃ g2, gk = g2 + 1 := ⟨gk - 1, by omega⟩
      rcases hcase with rfl | rfl | rfl | rfl | rfl | rfl
      · -- blank
        have HS : Aside0 (stepR (endedF l) (s.data.toList.drop q) = restR (endedF l) (s.data.toList.drop q) 0) := HS0
        clear HS0
        have hix := ix0
        go_wp2_with fail
        refine (blank_calls _ HR2.out hqs hs6).mono ?_
        obtain ⟨r, hr⟩ : ∃ r, blankR (s.data.toList.drop q) = r := ⟨_, rfl⟩
        rw [hr]
        cases r with
        | no =>
          rintro e w3 ⟨rfl, h2, h3⟩
          have HS2 : Aside0 (stepR (endedF l) (s.data.toList.drop q) = restR (endedF l) (s.data.toList.drop q) 1) := ⟨HS.out.trans (or_no hr)⟩
          have H2 := Aside0.mk h2
          have H3 := Aside0.mk h3
          clear h2 h3 hr HS
          go_wp2_with fail
          go_roundg gg
          case measure => omega
          case rel => exact ⟨1, rfl, by omega, by omega, H2.out, HF2.out.trans H3.out, HS2⟩
        | skip n =>
          rintro e w3 ⟨rfl, h2, h3⟩
          have hn := go_skip hqs (HS.out.trans (or_skip hr))
          have H2 := Aside0.mk h2
          have H3 := Aside0.mk h3
          have HN := Aside0.mk hn
          clear h2 h3 hn hr HS
          go_wp2_with fail
          obtain ⟨n1, n2, n3⟩ := HN.out
          have h2 := H2.out
          rw [← Int.natCast_add] at h2
          go_roundg g'
          case measure => omega
          case rel => exact ⟨q + n, l, n3, by omega, by omega, ⟨HX.out.trans n1⟩, h2, HF2.out.trans H3.out⟩
        | tok t0 t1 t2 n =>
          rintro e w3 ⟨rfl, h2, h3⟩
          have hn := go_tok hqs (HS.out.trans (or_tok hr))
          have H2 := Aside0.mk h2
          have H3 := Aside0.mk h3
          have HN := Aside0.mk hn
          clear h2 h3 hn hr HS
          go_wp2_with fail
          obtain ⟨n1, n2, n3⟩ := HN.out
          have h2 := H2.out
          rw [← Int.natCast_add] at h2
          go_roundg g'
          case measure => omega
          case rel => exact ⟨q + n, l ++ [(⟨t0, t1, t2, q⟩ : Tok)], n3, by simp; omega, by omega, ⟨HX.out.trans n1⟩, h2, HF2.out.trans H3.out⟩
        | bad =>
          rintro e w3 ⟨rfl, h2, h3⟩
          have ht := go_bad hs hqs (HS.out.trans (or_bad hr)) HX.out
          have HT := Aside0.mk ht
          have H3 := Aside0.mk h3
          clear h2 h3 hr HS ht
          go_wp2_with fail
          have hf3 := HF2.out.trans H3.out
          obtain ⟨ca, za⟩ := hf3.held (by omega) (by omega) HA.out
          obtain ⟨cb, zb⟩ := hf3.held (by omega) (by omega) HBb.out
          obtain ⟨cd, zd⟩ := hf3.held (by omega) (by omega) HC.out
          rw [HT.out]
          exact leave_wrong _ _ _ a b c q (by omega) (by omega) (by omega) (by omega) (by omega) (by omega) _ _ _ ca cb cd za zb zd (ha ▸ HL.out.trans (hf3.below (by omega) (by omega)))
      · -- end
        have HS : Aside0 (stepR (endedF l) (s.data.toList.drop q) = restR (endedF l) (s.data.toList.drop q) 1) := HS0
        clear HS0
        have hix := ix1
        go_wp2_with fail
        refine (end_calls _ HR2.out hqs hs6 hl6).mono ?_
        obtain ⟨r, hr⟩ : ∃ r, endR (endedF l) (s.data.toList.drop q) = r := ⟨_, rfl⟩
        rw [hr]
        cases r with
        | no =>
          rintro e w3 ⟨rfl, h2, h3⟩
          have HS2 : Aside0 (stepR (endedF l) (s.data.toList.drop q) = restR (endedF l) (s.data.toList.drop q) 2) := ⟨HS.out.trans (or_no hr)⟩
          have H2 := Aside0.mk h2
          have H3 := Aside0.mk h3
          clear h2 h3 hr HS
          go_wp2_with fail
          go_roundg gg
          case measure => omega
          case rel => exact ⟨2, rfl, by omega, by omega, H2.out, HF2.out.trans H3.out, HS2⟩
        | skip n =>
          rintro e w3 ⟨rfl, h2, h3⟩
          have hn := go_skip hqs (HS.out.trans (or_skip hr))
          have H2 := Aside0.mk h2
          have H3 := Aside0.mk h3
          have HN := Aside0.mk hn
          clear h2 h3 hn hr HS
          go_wp2_with fail
          obtain ⟨n1, n2, n3⟩ := HN.out
          have h2 := H2.out
          rw [← Int.natCast_add] at h2
          go_roundg g'
          case measure => omega
          case rel => exact ⟨q + n, l, n3, by omega, by omega, ⟨HX.out.trans n1⟩, h2, HF2.out.trans H3.out⟩
        | tok t0 t1 t2 n =>
          rintro e w3 ⟨rfl, h2, h3⟩
          have hn := go_tok hqs (HS.out.trans (or_tok hr))
          have H2 := Aside0.mk h2
          have H3 := Aside0.mk h3
          have HN := Aside0.mk hn
          clear h2 h3 hn hr HS
          go_wp2_with fail
          obtain ⟨n1, n2, n3⟩ := HN.out
          have h2 := H2.out
          rw [← Int.natCast_add] at h2
          go_roundg g'
          case measure => omega
          case rel => exact ⟨q + n, l ++ [(⟨t0, t1, t2, q⟩ : Tok)], n3, by simp; omega, by omega, ⟨HX.out.trans n1⟩, h2, HF2.out.trans H3.out⟩
        | bad =>
          rintro e w3 ⟨rfl, h2, h3⟩
          have ht := go_bad hs hqs (HS.out.trans (or_bad hr)) HX.out
          have HT := Aside0.mk ht
          have H3 := Aside0.mk h3
          clear h2 h3 hr HS ht
          go_wp2_with fail
          have hf3 := HF2.out.trans H3.out
          obtain ⟨ca, za⟩ := hf3.held (by omega) (by omega) HA.out
          obtain ⟨cb, zb⟩ := hf3.held (by omega) (by omega) HBb.out
          obtain ⟨cd, zd⟩ := hf3.held (by omega) (by omega) HC.out
          rw [HT.out]
          exact leave_wrong _ _ _ a b c q (by omega) (by omega) (by omega) (by omega) (by omega) (by omega) _ _ _ ca cb cd za zb zd (ha ▸ HL.out.trans (hf3.below (by omega) (by omega)))
      · -- sign
        have HS : Aside0 (stepR (endedF l) (s.data.toList.drop q) = restR (endedF l) (s.data.toList.drop q) 2) := HS0
        clear HS0
        have hix := ix2
        go_wp2_with fail
        refine (sign_calls _ HR2.out hqs hs6 hl6).mono ?_
        obtain ⟨r, hr⟩ : ∃ r, signR (s.data.toList.drop q) = r := ⟨_, rfl⟩
        rw [hr]
        cases r with
        | no =>
          rintro e w3 ⟨rfl, h2, h3⟩
          have HS2 : Aside0 (stepR (endedF l) (s.data.toList.drop q) = restR (endedF l) (s.data.toList.drop q) 3) := ⟨HS.out.trans (or_no hr)⟩
          have H2 := Aside0.mk h2
          have H3 := Aside0.mk h3
          clear h2 h3 hr HS
          go_wp2_with fail
          go_roundg gg
          case measure => omega
          case rel => exact ⟨3, rfl, by omega, by omega, H2.out, HF2.out.trans H3.out, HS2⟩
        | skip n =>
          rintro e w3 ⟨rfl, h2, h3⟩
          have hn := go_skip hqs (HS.out.trans (or_skip hr))
          have H2 := Aside0.mk h2
          have H3 := Aside0.mk h3
          have HN := Aside0.mk hn
          clear h2 h3 hn hr HS
          go_wp2_with fail
          obtain ⟨n1, n2, n3⟩ := HN.out
          have h2 := H2.out
          rw [← Int.natCast_add] at h2
          go_roundg g'
          case measure => omega
          case rel => exact ⟨q + n, l, n3, by omega, by omega, ⟨HX.out.trans n1⟩, h2, HF2.out.trans H3.out⟩
        | tok t0 t1 t2 n =>
          rintro e w3 ⟨rfl, h2, h3⟩
          have hn := go_tok hqs (HS.out.trans (or_tok hr))
          have H2 := Aside0.mk h2
          have H3 := Aside0.mk h3
          have HN := Aside0.mk hn
          clear h2 h3 hn hr HS
          go_wp2_with fail
          obtain ⟨n1, n2, n3⟩ := HN.out
          have h2 := H2.out
          rw [← Int.natCast_add] at h2
          go_roundg g'
          case measure => omega
          case rel => exact ⟨q + n, l ++ [(⟨t0, t1, t2, q⟩ : Tok)], n3, by simp; omega, by omega, ⟨HX.out.trans n1⟩, h2, HF2.out.trans H3.out⟩
        | bad =>
          rintro e w3 ⟨rfl, h2, h3⟩
          have ht := go_bad hs hqs (HS.out.trans (or_bad hr)) HX.out
          have HT := Aside0.mk ht
          have H3 := Aside0.mk h3
          clear h2 h3 hr HS ht
          go_wp2_with fail
          have hf3 := HF2.out.trans H3.out
          obtain ⟨ca, za⟩ := hf3.held (by omega) (by omega) HA.out
          obtain ⟨cb, zb⟩ := hf3.held (by omega) (by omega) HBb.out
          obtain ⟨cd, zd⟩ := hf3.held (by omega) (by omega) HC.out
          rw [HT.out]
          exact leave_wrong _ _ _ a b c q (by omega) (by omega) (by omega) (by omega) (by omega) (by omega) _ _ _ ca cb cd za zb zd (ha ▸ HL.out.trans (hf3.below (by omega) (by omega)))
      · -- quoted
        have HS : Aside0 (stepR (endedF l) (s.data.toList.drop q) = restR (endedF l) (s.data.toList.drop q) 3) := HS0
        clear HS0
        have hix := ix3
        go_wp2_with fail
        refine (quoted_calls _ HR2.out hqs hs6 hl6).mono ?_
        obtain ⟨r, hr⟩ : ∃ r, quotedR (s.data.toList.drop q) = r := ⟨_, rfl⟩
        rw [hr]
        cases r with
        | no =>
          rintro e w3 ⟨rfl, h2, h3⟩
          have HS2 : Aside0 (stepR (endedF l) (s.data.toList.drop q) = restR (endedF l) (s.data.toList.drop q) 4) := ⟨HS.out.trans (or_no hr)⟩
          have H2 := Aside0.mk h2
          have H3 := Aside0.mk h3
          clear h2 h3 hr HS
          go_wp2_with fail
          go_roundg gg
          case measure => omega
          case rel => exact ⟨4, rfl, by omega, by omega, H2.out, HF2.out.trans H3.out, HS2⟩
        | skip n =>
          rintro e w3 ⟨rfl, h2, h3⟩
          have hn := go_skip hqs (HS.out.trans (or_skip hr))
          have H2 := Aside0.mk h2
          have H3 := Aside0.mk h3
          have HN := Aside0.mk hn
          clear h2 h3 hn hr HS
          go_wp2_with fail
          obtain ⟨n1, n2, n3⟩ := HN.out
          have h2 := H2.out
          rw [← Int.natCast_add] at h2
          go_roundg g'
          case measure => omega
          case rel => exact ⟨q + n, l, n3, by omega, by omega, ⟨HX.out.trans n1⟩, h2, HF2.out.trans H3.out⟩
        | tok t0 t1 t2 n =>
          rintro e w3 ⟨rfl, h2, h3⟩
          have hn := go_tok hqs (HS.out.trans (or_tok hr))
          have H2 := Aside0.mk h2
          have H3 := Aside0.mk h3
          have HN := Aside0.mk hn
          clear h2 h3 hn hr HS
          go_wp2_with fail
          obtain ⟨n1, n2, n3⟩ := HN.out
          have h2 := H2.out
          rw [← Int.natCast_add] at h2
          go_roundg g'
          case measure => omega
          case rel => exact ⟨q + n, l ++ [(⟨t0, t1, t2, q⟩ : Tok)], n3, by simp; omega, by omega, ⟨HX.out.trans n1⟩, h2, HF2.out.trans H3.out⟩
        | bad =>
          rintro e w3 ⟨rfl, h2, h3⟩
          have ht := go_bad hs hqs (HS.out.trans (or_bad hr)) HX.out
          have HT := Aside0.mk ht
          have H3 := Aside0.mk h3
          clear h2 h3 hr HS ht
          go_wp2_with fail
          have hf3 := HF2.out.trans H3.out
          obtain ⟨ca, za⟩ := hf3.held (by omega) (by omega) HA.out
          obtain ⟨cb, zb⟩ := hf3.held (by omega) (by omega) HBb.out
          obtain ⟨cd, zd⟩ := hf3.held (by omega) (by omega) HC.out
          rw [HT.out]
          exact leave_wrong _ _ _ a b c q (by omega) (by omega) (by omega) (by omega) (by omega) (by omega) _ _ _ ca cb cd za zb zd (ha ▸ HL.out.trans (hf3.below (by omega) (by omega)))
      · -- name
        have HS : Aside0 (stepR (endedF l) (s.data.toList.drop q) = restR (endedF l) (s.data.toList.drop q) 4) := HS0
        clear HS0
        have hix := ix4
        go_wp2_with fail
        refine (name_calls _ HG2.out HR2.out hqs hs6 hl6).mono ?_
        obtain ⟨r, hr⟩ : ∃ r, nameR (s.data.toList.drop q) = r := ⟨_, rfl⟩
        rw [hr]
        cases r with
        | no =>
          rintro e w3 ⟨rfl, h2, h3⟩
          have HS2 : Aside0 (stepR (endedF l) (s.data.toList.drop q) = restR (endedF l) (s.data.toList.drop q) 5) := ⟨HS.out.trans (or_no hr)⟩
          have H2 := Aside0.mk h2
          have H3 := Aside0.mk h3
          clear h2 h3 hr HS
          go_wp2_with fail
          go_roundg gg
          case measure => omega
          case rel => exact ⟨5, rfl, by omega, by omega, H2.out, HF2.out.trans H3.out, HS2⟩
        | skip n =>
          rintro e w3 ⟨rfl, h2, h3⟩
          have hn := go_skip hqs (HS.out.trans (or_skip hr))
          have H2 := Aside0.mk h2
          have H3 := Aside0.mk h3
          have HN := Aside0.mk hn
          clear h2 h3 hn hr HS
          go_wp2_with fail
          obtain ⟨n1, n2, n3⟩ := HN.out
          have h2 := H2.out
          rw [← Int.natCast_add] at h2
          go_roundg g'
          case measure => omega
          case rel => exact ⟨q + n, l, n3, by omega, by omega, ⟨HX.out.trans n1⟩, h2, HF2.out.trans H3.out⟩
        | tok t0 t1 t2 n =>
          rintro e w3 ⟨rfl, h2, h3⟩
          have hn := go_tok hqs (HS.out.trans (or_tok hr))
          have H2 := Aside0.mk h2
          have H3 := Aside0.mk h3
          have HN := Aside0.mk hn
          clear h2 h3 hn hr HS
          go_wp2_with fail
          obtain ⟨n1, n2, n3⟩ := HN.out
          have h2 := H2.out
          rw [← Int.natCast_add] at h2
          go_roundg g'
          case measure => omega
          case rel => exact ⟨q + n, l ++ [(⟨t0, t1, t2, q⟩ : Tok)], n3, by simp; omega, by omega, ⟨HX.out.trans n1⟩, h2, HF2.out.trans H3.out⟩
        | bad =>
          rintro e w3 ⟨rfl, h2, h3⟩
          have ht := go_bad hs hqs (HS.out.trans (or_bad hr)) HX.out
          have HT := Aside0.mk ht
          have H3 := Aside0.mk h3
          clear h2 h3 hr HS ht
          go_wp2_with fail
          have hf3 := HF2.out.trans H3.out
          obtain ⟨ca, za⟩ := hf3.held (by omega) (by omega) HA.out
          obtain ⟨cb, zb⟩ := hf3.held (by omega) (by omega) HBb.out
          obtain ⟨cd, zd⟩ := hf3.held (by omega) (by omega) HC.out
          rw [HT.out]
          exact leave_wrong _ _ _ a b c q (by omega) (by omega) (by omega) (by omega) (by omega) (by omega) _ _ _ ca cb cd za zb zd (ha ▸ HL.out.trans (hf3.below (by omega) (by omega)))
      · -- word
        have HS : Aside0 (stepR (endedF l) (s.data.toList.drop q) = restR (endedF l) (s.data.toList.drop q) 5) := HS0
        clear HS0
        have hix := ix5
        go_wp2_with fail
        refine (wordm_calls _ HR2.out hqs hs6 hl6).mono ?_
        obtain ⟨r, hr⟩ : ∃ r, wordR (s.data.toList.drop q) = r := ⟨_, rfl⟩
        rw [hr]
        cases r with
        | no =>
          exact absurd hr (wordR_no _)
        | skip n =>
          rintro e w3 ⟨rfl, h2, h3⟩
          have hn := go_skip hqs (HS.out.trans hr)
          have H2 := Aside0.mk h2
          have H3 := Aside0.mk h3
          have HN := Aside0.mk hn
          clear h2 h3 hn hr HS
          go_wp2_with fail
          obtain ⟨n1, n2, n3⟩ := HN.out
          have h2 := H2.out
          rw [← Int.natCast_add] at h2
          go_roundg g'
          case measure => omega
          case rel => exact ⟨q + n, l, n3, by omega, by omega, ⟨HX.out.trans n1⟩, h2, HF2.out.trans H3.out⟩
        | tok t0 t1 t2 n =>
          rintro e w3 ⟨rfl, h2, h3⟩
          have hn := go_tok hqs (HS.out.trans hr)
          have H2 := Aside0.mk h2
          have H3 := Aside0.mk h3
          have HN := Aside0.mk hn
          clear h2 h3 hn hr HS
          go_wp2_with fail
          obtain ⟨n1, n2, n3⟩ := HN.out
          have h2 := H2.out
          rw [← Int.natCast_add] at h2
          go_roundg g'
          case measure => omega
          case rel => exact ⟨q + n, l ++ [(⟨t0, t1, t2, q⟩ : Tok)], n3, by simp; omega, by omega, ⟨HX.out.trans n1⟩, h2, HF2.out.trans H3.out⟩
        | bad =>
          rintro e w3 ⟨rfl, h2, h3⟩
          have ht := go_bad hs hqs (HS.out.trans hr) HX.out
          have HT := Aside0.mk ht
          have H3 := Aside0.mk h3
          clear h2 h3 hr HS ht
          go_wp2_with fail
          have hf3 := HF2.out.trans H3.out
          obtain ⟨ca, za⟩ := hf3.held (by omega) (by omega) HA.out
          obtain ⟨cb, zb⟩ := hf3.held (by omega) (by omega) HBb.out
          obtain ⟨cd, zd⟩ := hf3.held (by omega) (by omega) HC.out
          rw [HT.out]
          exact leave_wrong _ _ _ a b c q (by omega) (by omega) (by omega) (by omega) (by omega) (by omega) _ _ _ ca cb cd za zb zd (ha ▸ HL.out.trans (hf3.below (by omega) (by omega)))
    · obtain rfl : q = s.size := by omega
      have htok := tokensF_ok hs HX.out
      have hsi : ((s.size : Int) < s.size) = False := by simp
      have hl6 : l.length ≤ 1000000 := by omega
      have HTK := Aside0.mk htok
      clear htok c2 HK hcc
      have hf1 := HF.out
      obtain ⟨ca, za⟩ := hf1.held (by omega) (by omega) HA.out
      obtain ⟨cb, zb⟩ := hf1.held (by omega) (by omega) HBb.out
      obtain ⟨cd, zd⟩ := hf1.held (by omega) (by omega) HC.out
      clear hf1
      clear ca za cb zb cd zd
      cases hen : endedF l with
      | true =>
        have hclose : closeF l s.size = l := by simp [closeF, hen]
        have HEN := Aside0.mk hen
        clear hen
        go_wp2_with fail
        refine (ended_calls _ HR.out hl6).mono ?_
        rintro e w3 ⟨rfl, n3, hw3⟩
        rw [HEN.out]
        have hR3 : Rd (h + 1) g s s.size l w3 := by rw [hw3]; exact HR.out.drewN _
        have hf3 : Fr (h + 1) g W0 w3 := by rw [hw3]; exact HF.out.trans (Fr.drewN _ _)
        clear hw3
        obtain ⟨_, _, _, _, _, A, cc, hcc, c2, hK, _⟩ := hR3.cells
        obtain ⟨ca, za⟩ := hf3.held (by omega) (by omega) HA.out
        obtain ⟨cb, zb⟩ := hf3.held (by omega) (by omega) HBb.out
        obtain ⟨cd, zd⟩ := hf3.held (by omega) (by omega) HC.out
        have hbl : Below a w w3 := HL.out.trans (hf3.below (by omega) (by omega))
        have HK := Aside0.mk hK
        clear hK hR3 hf3
        have hlen : (l.length : Int) ≤ 1000000 := by omega
        by_cases h1000 : 1000 < l.length
        · have h1 : (1000 : Int) < l.length := by omega
          have HCL : Aside0 (tokensF s = ([], 3, 0)) := ⟨by rw [HTK.out, if_pos (by rw [hclose]; exact h1000)]⟩
          clear h1000 hclose
          go_wp2_with fail
          simp only [Exit.noGoto_ret]
          rw [HCL.out]
          refine leave_ok _ _ _ a b c _ (.slice none 0 0) (by go_simp) (by go_simp) (by go_simp) (Kd.R_nil _ _ _ _ _) ?_
          rw [ha]
          exact ((hbl.setCell (p := ⟨a, 0, none⟩) (Nat.le_refl _) _).setCell (p := ⟨b, 0, none⟩) (by show a ≤ b; omega) _).setCell (p := ⟨c, 0, none⟩) (by show a ≤ c; omega) _
        · have h1 : (l.length : Int) ≤ 1000 := by omega
          have HCL : Aside0 (tokensF s = (l, 0, 0)) := ⟨by rw [HTK.out, if_neg (by rw [hclose]; exact h1000), hclose]⟩
          clear h1000 hclose
          go_wp2_with fail
          simp only [Exit.noGoto_ret]
          rw [HCL.out]
          refine leave_ok _ _ _ a b c _ _ (by go_simp) (by go_simp) (by go_simp) (Kd.R_lower (base' := w.heap.size) (R_low_set (p := ⟨c, 0, none⟩) (R_low_set (p := ⟨b, 0, none⟩) (R_low_set (p := ⟨a, 0, none⟩) HK.out (by show a < h + 1; omega) _) (by show b < h + 1; omega) _) (by show c < h + 1; omega) _) (by omega)) ?_
          rw [ha]
          exact ((hbl.setCell (p := ⟨a, 0, none⟩) (Nat.le_refl _) _).setCell (p := ⟨b, 0, none⟩) (by show a ≤ b; omega) _).setCell (p := ⟨c, 0, none⟩) (by show a ≤ c; omega) _
      | false =>
        have hclose : closeF l s.size = l ++ [(⟨6, bs [], 0, s.size⟩ : Tok)] := by simp [closeF, hen]
        have HEN := Aside0.mk hen
        clear hen
        go_wp2_with fail
        refine (ended_calls _ HR.out hl6).mono ?_
        rintro e w2 ⟨rfl, n3, hw3⟩
        rw [HEN.out]
        have hR2 : Rd (h + 1) g s s.size l w2 := by rw [hw3]; exact HR.out.drewN _
        have hf2 : Fr (h + 1) g W0 w2 := by rw [hw3]; exact HF.out.trans (Fr.drewN _ _)
        have HR2 := Aside0.mk hR2
        have HF2 := Aside0.mk hf2
        clear hw3 hR2 hf2
        go_wp2_with fail
        refine (put_calls _ _ _ _ _ _ HR2.out ⟨hq0, by omega⟩ ⟨by omega, by omega⟩ hl6).mono ?_
        rintro e w3 ⟨rfl, h2, h3⟩
        have hf3 : Fr (h + 1) g W0 w3 := HF2.out.trans h3
        obtain ⟨_, _, _, _, _, A, cc, hcc, c2, hK, _⟩ := h2.cells
        obtain ⟨ca, za⟩ := hf3.held (by omega) (by omega) HA.out
        obtain ⟨cb, zb⟩ := hf3.held (by omega) (by omega) HBb.out
        obtain ⟨cd, zd⟩ := hf3.held (by omega) (by omega) HC.out
        have hbl : Below a w w3 := HL.out.trans (hf3.below (by omega) (by omega))
        have HK := Aside0.mk hK
        clear hK h2 h3 hf3
        generalize hL : l ++ [(⟨6, ⟨#[]⟩, 0, (s.size : Int)⟩ : Tok)] = L at *
        replace hclose : closeF l s.size = L := hclose.trans hL
        have hLl : L.length ≤ 1000000 := by rw [← hL]; simp; omega
        clear hL
        have hlen : (L.length : Int) ≤ 1000000 := by omega
        by_cases h1000 : 1000 < L.length
        · have h1 : (1000 : Int) < L.length := by omega
          have HCL : Aside0 (tokensF s = ([], 3, 0)) := ⟨by rw [HTK.out, if_pos (by rw [hclose]; exact h1000)]⟩
          clear h1000 hclose
          go_wp2_with fail
          simp only [Exit.noGoto_ret]
          rw [HCL.out]
          refine leave_ok _ _ _ a b c _ (.slice none 0 0) (by go_simp) (by go_simp) (by go_simp) (Kd.R_nil _ _ _ _ _) ?_
          rw [ha]
          exact ((hbl.setCell (p := ⟨a, 0, none⟩) (Nat.le_refl _) _).setCell (p := ⟨b, 0, none⟩) (by show a ≤ b; omega) _).setCell (p := ⟨c, 0, none⟩) (by show a ≤ c; omega) _
        · have h1 : (L.length : Int) ≤ 1000 := by omega
          have HCL : Aside0 (tokensF s = (L, 0, 0)) := ⟨by rw [HTK.out, if_neg (by rw [hclose]; exact h1000), hclose]⟩
          clear h1000 hclose
          go_wp2_with fail
          simp only [Exit.noGoto_ret]
          rw [HCL.out]
          refine leave_ok _ _ _ a b c _ _ (by go_simp) (by go_simp) (by go_simp) (Kd.R_lower (base' := w.heap.size) (R_low_set (p := ⟨c, 0, none⟩) (R_low_set (p := ⟨b, 0, none⟩) (R_low_set (p := ⟨a, 0, none⟩) HK.out (by show a < h + 1; omega) _) (by show b < h + 1; omega) _) (by show c < h + 1; omega) _) (by omega)) ?_
          rw [ha]
          exact ((hbl.setCell (p := ⟨a, 0, none⟩) (Nat.le_refl _) _).setCell (p := ⟨b, 0, none⟩) (by show a ≤ b; omega) _).setCell (p := ⟨c, 0, none⟩) (by show a ≤ c; omega) _

/-- lex.Tokens. -/
theorem tokens_calls (s : ByteArray) (w : World) (hG : Gl w) :
    Calls Tryz.prog 22 #[.string s] w (TokPost w (tokensF s)) := by
  by_cases h : 4000 < s.size
  · have e : tokensF s = ([], 3, 0) := by simp only [tokensF, if_pos h]
    rw [e]
    exact tokens_long s w h
  · exact tokens_short s w hG h
end Go.Proofs.YtipmmkelialgkaaGreatDoor.Lex
