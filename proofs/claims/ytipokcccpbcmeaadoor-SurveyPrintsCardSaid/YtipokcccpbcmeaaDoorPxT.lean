/- Functions with a slice parameter that is an own array of the caller and is used up (RdOK), and their entries (rdE). No condition of its own: over any program. -/
import Derived.Test.YtipokcccpbcmeaaDoorPxS
set_option linter.all false
namespace Go.Pv
open Go.RowKit
section
variable {t : GT} {rk : List RK}
end
end Go.Pv
