/-
  Chapter 25: the law is awake; plain Lean.
-/
import Derived.Test.YtpeloppldpdonaaMB
import Derived.Test.YtpeloppldpdonaaWp
namespace Go.Proofs.Ytpeloppldpdonaa
open Go Go.RowKit Go.Wk
theorem awake_eq : m_limnographlaw25_awake = some true := by decide +kernel
end Go.Proofs.Ytpeloppldpdonaa
