/- Plain models of functions of this seat, each checked against the loaded program and the walk by the kernel. No condition: closed facts. Printed by a program of ours. -/
import Derived.Test.YthfejkflhpifnaaDoorM1
set_option linter.all false
namespace Go.Proofs.YthfejkflhpifnaaDoor
open Go.Pv
namespace M
/-! law19_RuleBack -/
/-! law19_RuleKnown -/
/-! law19_RuleLaws -/
/-! law19_RuleDeep -/
end M
end Go.Proofs.YthfejkflhpifnaaDoor
