/- The tokens of the chapter's two examples; what Parse tells of them. -/
import Derived.Test.YtipmmkelialgkaaGreatDoorGLlg26
import Derived.KernelRfl
set_option linter.unusedVariables false
set_option linter.unusedSimpArgs false
namespace Go.Proofs.YtipmmkelialgkaaGreatDoor.Loc
open Go.RowKit Go.Lib Go.Proofs.YtipmmkelialgkaaGreatDoorW.PrintWords Go.Proofs.YtipmmkelialgkaaGreatDoorW.PrintLast Go.Proofs.YtipmmkelialgkaaGreatDoorW.PrintMore Go.Proofs.YtipmmkelialgkaaGreatDoor.Lex

def text1 : ByteArray := ⟨#[99, 108, 97, 115, 115, 32, 120, 32, 60, 85, 48, 48, 52, 49, 62, 46, 46, 46, 60, 85, 48, 48, 52, 51, 62, 59, 60, 85, 48, 48, 54, 49, 62]⟩
def text2 : ByteArray := ⟨#[111, 114, 100, 101, 114, 32, 60, 99, 104, 62]⟩
def toks1 : List Tok := [⟨1, ⟨#[99, 108, 97, 115, 115]⟩, 0, 0⟩, ⟨1, ⟨#[120]⟩, 0, 6⟩, ⟨3, ⟨#[]⟩, 65, 8⟩, ⟨2, ⟨#[46, 46, 46]⟩, 0, 15⟩, ⟨3, ⟨#[]⟩, 67, 18⟩, ⟨2, ⟨#[59]⟩, 0, 25⟩, ⟨3, ⟨#[]⟩, 97, 26⟩, ⟨6, ⟨#[]⟩, 0, 33⟩]
def toks2 : List Tok := [⟨1, ⟨#[111, 114, 100, 101, 114]⟩, 0, 0⟩, ⟨5, ⟨#[99, 104]⟩, 0, 6⟩, ⟨6, ⟨#[]⟩, 0, 10⟩]
theorem tokens1 : tokensF text1 = (toks1, 0, 0) := by kernel_rfl
theorem tokens2 : tokensF text2 = (toks2, 0, 0) := by kernel_rfl
theorem two1 : Two toks1 2 65 67 97 where
  t0 := ⟨_, rfl, rfl, rfl⟩
  t1 := ⟨_, rfl, by kernel_rfl⟩
  t2 := ⟨_, rfl, rfl, rfl⟩
  t3 := ⟨_, rfl, by kernel_rfl⟩
  t4 := ⟨_, rfl, rfl, rfl⟩
  t5 := ⟨_, rfl, by kernel_rfl, by kernel_rfl⟩
  ab := by decide
  b1 := by decide
  c1 := by decide
/-- The first example: a class of two ranges. -/
theorem parse1_calls (w : World) (hG : Gl w) : Calls Tryz.prog 13 #[.string text1] w (ParsePost w [⟨⟨#[120]⟩, [⟨(65 : Nat), (67 : Nat)⟩, ⟨(97 : Nat), (97 : Nat)⟩]⟩] [] 0 0) :=
  parse_class text1 toks1 w hG tokens1 _ _ _ (show toks1[0]? = some _ from rfl) rfl rfl (show toks1[1]? = some _ from rfl) rfl rfl 65 67 97 two1 (show toks1[7]? = some _ from rfl) rfl
/-- The second example: a name that isn't declared. -/
theorem parse2_calls (w : World) (hG : Gl w) : Calls Tryz.prog 13 #[.string text2] w (ParsePost w [] [] 31 6) :=
  parse_order text2 toks2 w hG tokens2 _ ⟨5, ⟨#[99, 104]⟩, 0, 6⟩ ⟨0, ⟨#[]⟩, 0, 0⟩ ⟨0, ⟨#[]⟩, 0, 0⟩ ⟨0, ⟨#[]⟩, 0, 0⟩ (show toks2[0]? = some _ from rfl) rfl rfl (show toks2[1]? = some _ from rfl) (by decide) (fun h => absurd h (by decide)) 0 0 (fun h => absurd h (by decide)) (fun h => absurd h (by decide)) (by decide) (by decide) (by decide)
end Go.Proofs.YtipmmkelialgkaaGreatDoor.Loc
