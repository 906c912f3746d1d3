/- HoistRaw answers true for every input. No condition of its own. -/
import Derived.Test.YtjaoghekcifbhaaHb
set_option linter.all false
namespace Go.Proofs.Ytjaoghekcifbhaa
open Go.Pv M
theorem hoistRaw_any (dargs : List DV) (h : TyAs [(true, [.it .i64, .it .i64, .it .i64, .it .i64, .it .i64]), (true, [.it .i64, .it .i64, .bo]), (false, [.it .i64])] dargs) : CallOK Try.prog 6 dargs [] 0 (B true) [] 0 :=
  law_any (law37_HoistRaw_pure 1000) (fun x _ => raw_true _ _ _) rfl dargs h
end Go.Proofs.Ytjaoghekcifbhaa
