/- Plain facts for laws over the models: numbers as int64 holds them, bounds, draws. No condition of its own. -/
import Derived.Test.YthfejkflhpifnaaDoorPxM
set_option linter.all false
namespace Go.Pv
open Go.RowKit

theorem W_eq {n : Int} (h1 : -9223372036854775808 ≤ n) (h2 : n ≤ 9223372036854775807) : W n = n := wrap_eq h1 h2
end Go.Pv
