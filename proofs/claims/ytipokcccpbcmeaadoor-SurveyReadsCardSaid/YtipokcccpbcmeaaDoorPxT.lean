/- Functions with a slice parameter that is an own array of the caller and is used up (RdOK), and their entries (rdE). No condition of its own: over any program. -/
import Derived.Test.YtipokcccpbcmeaaDoorPxS
set_option linter.all false
namespace Go.Pv
open Go.RowKit
section
variable {t : GT} {rk : List RK}
end
def rdE (ts1 : List GT) (t : GT) (ts2 : List GT) (rk : List RK) (model : Els ts1 → List (El t) → Els ts2 → Option (Els (RK.tys rk))) : Ent := fun args H k => match decVs ts1 (args.take ts1.length), args.drop ts1.length with
  | some x, v :: r => match decVs ts2 r with
    | some y => match v with
      | .nil => Option.bind (model x [] y) fun z => k (resI (resIV rk z (H.length + 1))) (H ++ (none :: newI rk z)) [] (H.length :: numsFrom (H.length + 1) (newN rk)) []
      | v => match decOA (.a t) [v] H with
        | some (as, [o], []) => Option.bind (model x as y) fun z => k (resI (resIV rk z H.length)) (setH (killHs [o] H) o none ++ newI rk z) [o] (o :: numsFrom H.length (newN rk)) [o]
        | _ => none
    | none => none
  | _, _ => none
end Go.Pv
