/-
  What the row lists of the package variables.
-/
import Derived.Test.YtlfppodekihcmaaGreatDoorWo
import Derived.Test.YtlfppodekihcmaaGreatDoorSB1
import Derived.Test.YtlfppodekihcmaaGreatDoorTie
import Derived.MakeChecks
set_option linter.unusedVariables false
set_option linter.unusedSimpArgs false
namespace Go.Proofs.YtlfppodekihcmaaGreatDoor
open Go Go.RowKit Go.Wk Go.WideShapes Go.ChangeShapes
abbrev laidAll : List (String × DataW Unit) := [("math/bits.deBruijn64tab", Rows.laid_math_bits_deBruijn64tab), ("limnograph/xor.none", Rows.laid_limnograph_xor_none)]
end Go.Proofs.YtlfppodekihcmaaGreatDoor
