import Derived.Test.YtffboddbdpagkaaGreatDoorVN2
import Derived.Test.YtffboddbdpagkaaGreatDoorSN2
import Derived.Test.YtffboddbdpagkaaGreatDoorTie
import Derived.MakeChecks
set_option maxRecDepth 100000
set_option linter.unusedVariables false
set_option linter.unusedSimpArgs false
namespace Go.Proofs.YtffboddbdpagkaaGreatDoor
open Go Go.RowKit Go.Wk Go.WideShapes Go.ChangeShapes
abbrev laidAll : List (String × DataW Unit) := [("limnograph/glob.none", Rows.laid_limnograph_glob_none)]
end Go.Proofs.YtffboddbdpagkaaGreatDoor
