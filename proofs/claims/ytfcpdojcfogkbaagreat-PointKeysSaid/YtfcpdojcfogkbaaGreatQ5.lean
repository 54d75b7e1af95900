/-
  The document's parse is the same; plain Lean.
-/
import Derived.Test.YtfcpdojcfogkbaaGreatQ4
set_option linter.unusedVariables false
set_option linter.unusedSimpArgs false
namespace Go.Proofs.YtfcpdojcfogkbaaGreat
open Go Go.RowKit Go.Wk
theorem cut1_free {c : UInt8} : ∀ {s : Txt}, ∀ x ∈ (cut1 c s).1, x ≠ c
  | [], x, hx => by cases hx
  | y :: s, x, hx => by
    unfold cut1 at hx
    split at hx
    · cases hx
    · rename_i hy
      rcases List.mem_cons.1 hx with rfl | hx
      · exact hy
      · exact cut1_free x hx
theorem spl_free : ∀ (s : Txt), (∀ x ∈ (spl s).1, x ≠ 59) ∧ ∀ p ∈ (spl s).2, ∀ x ∈ p, x ≠ 59
  | [] => ⟨fun x hx => (by cases hx), fun x hx => (by cases hx)⟩
  | y :: s => by
    unfold spl
    have ih := spl_free s
    split
    · refine ⟨fun x hx => (by cases hx), fun p hp => ?_⟩
      rcases List.mem_cons.1 hp with rfl | hp
      · exact ih.1
      · exact ih.2 p hp
    · rename_i hy
      refine ⟨fun x hx => ?_, ih.2⟩
      rcases List.mem_cons.1 hx with rfl | hx
      · exact hy
      · exact ih.1 x hx
end Go.Proofs.YtfcpdojcfogkbaaGreat
