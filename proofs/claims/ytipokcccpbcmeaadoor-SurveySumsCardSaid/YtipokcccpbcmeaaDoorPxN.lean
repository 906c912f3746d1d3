/- Plain facts for laws over the models: numbers as int64 holds them, bounds, draws. No condition of its own. -/
import Derived.Test.YtipokcccpbcmeaaDoorPxM
set_option linter.all false
namespace Go.Pv
open Go.RowKit

theorem W_eq {n : Int} (h1 : -9223372036854775808 ≤ n) (h2 : n ≤ 9223372036854775807) : W n = n := wrap_eq h1 h2
theorem inB_true {n : Int} {l : Nat} (h : 0 ≤ n ∧ n < l) : inB n l = true := decide_eq_true h
theorem slB_true {a b : Int} {l : Nat} (h : 0 ≤ a ∧ a ≤ b ∧ b ≤ l) : slB a b l = true := decide_eq_true h
theorem fitsB_true {n b : Nat} (h : n * b ≤ 140737488355328 ∧ n ≤ 9223372036854775807) : fitsB n b = true := decide_eq_true h
theorem bind_some' {α β : Type} (a : α) (f : α → Option β) : Option.bind (some a) f = f a := rfl

end Go.Pv
