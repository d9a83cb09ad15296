/- The laid variables hold what the lexer reads. -/
import Derived.Test.YtipmmkelialgkaaGreatDoorRows
import Derived.Test.YtipmmkelialgkaaGreatDoorGLlg5
import Derived.Lib.LaidU8
import Derived.LaidLaws
set_option linter.unusedVariables false
namespace Go.Proofs.YtipmmkelialgkaaGreatDoor.Lex
open Go.Lib

set_option maxRecDepth 100000 in
theorem gl_of_laid {l : List (String × DataW Unit)} {w : World} (h : laidMet Tryz.prog l w) (h1 : ("math/bits.deBruijn64tab", Rows.laid_math_bits_deBruijn64tab) ∈ l) (h2 : ("strconv.ErrSyntax", Rows.laid_strconv_ErrSyntax) ∈ l) : Gl w := by
  constructor
  · obtain ⟨g, t, cs, fuel, p, hg, ht, hv, hr⟩ := Lib.laidMet.reads h h2
    have hg0 : Tryz.prog.globalNamed "strconv.ErrSyntax" = some 5 := by kernel_rfl
    obtain rfl := Option.some.inj (hg0.symm.trans hg)
    have ht0 : (Tryz.prog.globals[5]?).map (·.type) = some 112 := by kernel_rfl
    obtain rfl := Option.some.inj (ht0.symm.trans ht)
    obtain ⟨ms, hms⟩ : ∃ ms, Tryz.prog.underlying 112 = some (.interface ms) := ⟨_, Tryz.underlying112⟩
    obtain ⟨f2, u, v, hc, _, _⟩ := iface_of_trod hms hr
    have hcell := World.var?_cell hg0 hv 0
    have h0 : cs[0]? = some (.iface u v) := by
      have : cs.toList[0]? = some (.iface u v) := by rw [hc]; rfl
      simpa using this
    exact ⟨_, hcell.trans h0, .inr ⟨u, v, rfl⟩⟩
  · obtain ⟨g, t, cs, fuel, p, hg, ht, hv, hr⟩ := Lib.laidMet.reads h h1
    have hg0 : Tryz.prog.globalNamed "math/bits.deBruijn64tab" = some 8 := by kernel_rfl
    obtain rfl := Option.some.inj (hg0.symm.trans hg)
    have ht0 : (Tryz.prog.globals[8]?).map (·.type) = some 241 := by kernel_rfl
    obtain rfl := Option.some.inj (ht0.symm.trans ht)
    unfold Rows.laid_math_bits_deBruijn64tab at hr
    obtain ⟨f2, d, q, hd, hr2⟩ := Lib.array_elem Tryz.underlying241 hr 15 (by decide)
    obtain rfl := Option.some.inj hd
    have hcl : Tryz.prog.cellsOf 5 = 1 := by kernel_rfl
    rw [hcl] at hr2
    obtain ⟨z, hz, hd2, _⟩ := DataW.trod_int Tryz.underlying5 hr2
    obtain rfl : z = 4 := by
      have e := congrArg Prod.fst hd2
      simp only [DataW.lit.injEq, Lit.int.injEq] at e
      exact e.2.symm
    have hcell := World.var?_cell hg0 hv 15
    have h0 : cs[15]? = some (.int .u8 4) := by
      have := congrArg (·[0]?) hz
      simpa [List.getElem?_take, List.getElem?_drop] using this
    exact hcell.trans h0
end Go.Proofs.YtipmmkelialgkaaGreatDoor.Lex
