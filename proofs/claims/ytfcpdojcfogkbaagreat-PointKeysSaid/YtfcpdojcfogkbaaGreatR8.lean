/-
  Chapter 12: the laws, for points as they come; plain Lean.
-/
import Derived.Test.YtfcpdojcfogkbaaGreatR7
import Derived.Test.YtfcpdojcfogkbaaGreatWo
set_option linter.unusedVariables false
set_option linter.unusedSimpArgs false
namespace Go.Proofs.YtfcpdojcfogkbaaGreat
open Go Go.RowKit Go.Wk
theorem back_law2 (x : Pt) {a b c d e f g h : Prop} (k : a ∧ b ∧ c ∧ d ∧ e ∧ f ∧ g ∧ (Lit.int .i64 x.Int_).wf = true ∧ h) : m_limnographlaw12_PointBack x = some true := by
  refine back_law x ?_
  have := bounds_i64 k.2.2.2.2.2.2.2.1
  exact ⟨by omega, by omega⟩
theorem keys_law2 (x y : Pt) {p q : Prop} (_ : p) (_ : q) : m_limnographlaw12_PointKeys x y = some true := keys_law x y
end Go.Proofs.YtfcpdojcfogkbaaGreat
