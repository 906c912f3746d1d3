/- Plain models of functions of this seat, each checked against the loaded program and the walk by the kernel. No condition: closed facts. Printed by a program of ours. -/
import Derived.Test.YthfejkflhpifnaaDoorM1
set_option linter.all false
namespace Go.Proofs.YthfejkflhpifnaaDoor
open Go.Pv
namespace M
/-! law19_RuleLaws -/
/-! law19_RuleDeep -/
def law19_RuleDeep_N1 : List NS := [.keep [1, 5, 6, 7], .cmp]
def law19_RuleDeep_C4 : TC := (.cond (.t 17) .skip (.exit 0))
def law19_RuleDeep_C8 : TC := (.cond (.t 20) (.rg [⟨⟨some 21, (.mov (.t 6)), none⟩, {}⟩, ⟨⟨some 22, (.bin .add (.c (.v (.string ⟨⟨[40]⟩⟩))) (.t 21)), none⟩, {}⟩, ⟨⟨some 23, (.bin .add (.t 22) (.c (.v (.string ⟨⟨[32, 38, 32, 99, 50, 41]⟩⟩)))), none⟩, {}⟩, ⟨⟨some 6, (.mov (.t 23)), none⟩, {}⟩] none) (.rg [⟨⟨some 24, (.mov (.t 6)),
  none⟩, {}⟩, ⟨⟨some 25, (.bin .add (.c (.v (.string ⟨⟨[33]⟩⟩))) (.t 24)), none⟩, {}⟩, ⟨⟨some 6, (.mov (.t 25)), none⟩, {}⟩] none))
def law19_RuleDeep_C9 : TC := (.rg [⟨⟨some 18, (.mov (.t 7)), none⟩, {}⟩, ⟨⟨some 19, (.bin .add (.t 18) (.c (I 1))), none⟩, {}⟩, ⟨⟨some 7, (.mov (.t 19)), none⟩, {}⟩] none)
def law19_RuleDeep_C5 : TC := (.seq (.block 1 (.seq (.rg [⟨⟨some 20, (.mov (.t 1)), none⟩, {}⟩] none) law19_RuleDeep_C8)) law19_RuleDeep_C9)
def law19_RuleDeep_C1 : TC := (.seq (.seq (.rg [⟨⟨some 15, (.mov (.t 7)), none⟩, {}⟩, ⟨⟨some 16, (.mov (.t 5)), none⟩, {}⟩, ⟨⟨some 17, (.bin .lss (.t 15) (.t 16)), none⟩, {}⟩] none) law19_RuleDeep_C4) law19_RuleDeep_C5)
def law19_RuleDeep_C12 : TC := (.cond (.t 32) (.rg [⟨⟨some 33, (.mov (.t 5)), none⟩, {}⟩, ⟨⟨some 34, (.bin .mul (.c (I 2)) (.t 33)), none⟩, {}⟩, ⟨⟨some 35, (.bin .sub (.t 34) (.c (I 1))), none⟩, {}⟩, ⟨⟨some 10, (.mov (.t 35)), none⟩, {}⟩] none) .skip)
def law19_RuleDeep_C18 : TC := .ret
def law19_RuleDeep_C15 : TC := (.cond (.t 37) (.seq (.rg [⟨⟨some 38, (.mov (.t 9)), none⟩, {}⟩, ⟨⟨some 39, (.bin .eql (.t 38) (.c (I 6))), none⟩, {}⟩, ⟨⟨some 40, (.mov (.t 39)), none⟩, {}⟩, ⟨⟨some 41, (.mov (.t 8)), some (40, true)⟩, {}⟩, ⟨⟨some 42, (.len (.t 41)), some (40, true)⟩, {}⟩, ⟨⟨some 43, (.bin .eql (.t 42) (.c (I 0))),
  some (40, true)⟩, {}⟩, ⟨⟨some 44, (.pick (.t 40) (.t 43) (.c (B false))), none⟩, {}⟩, ⟨⟨some 45, (.mov (.t 44)), none⟩, {}⟩, ⟨⟨some 46, (.call (.c (.fn 9 [])) []), some (45, true)⟩, {}⟩, ⟨⟨some 47, (.pick (.t 45) (.t 46) (.c (B false))), none⟩, {}⟩, ⟨⟨some 4, (.mov (.t 47)), none⟩, {}⟩] none)
  law19_RuleDeep_C18) .skip)
def law19_RuleDeep_C19 : TC := .ret
def law19_RuleDeep_C16 : TC := (.seq (.rg [⟨⟨some 48, (.mov (.t 9)), none⟩, {}⟩, ⟨⟨some 49, (.bin .eql (.t 48) (.c (I 0))), none⟩, {}⟩, ⟨⟨some 50, (.mov (.t 49)), none⟩, {}⟩, ⟨⟨some 51, (.mov (.t 8)), some (50, true)⟩, {}⟩, ⟨⟨some 52, (.len (.t 51)), some (50, true)⟩, {}⟩, ⟨⟨some 53, (.mov (.t 10)), some (50, true)⟩, {}⟩, ⟨⟨some
  54, (.bin .eql (.t 52) (.t 53)), some (50, true)⟩, {}⟩, ⟨⟨some 55, (.pick (.t 50) (.t 54) (.c (B false))), none⟩, {}⟩, ⟨⟨some 56, (.mov (.t 55)), none⟩, {}⟩, ⟨⟨some 57, (.call (.c (.fn 9 [])) []), some (56, true)⟩, {}⟩, ⟨⟨some 58, (.pick (.t 56) (.t 57) (.c (B false))), none⟩, {}⟩, ⟨⟨some 4, (.mov
  (.t 58)), none⟩, {}⟩] none) law19_RuleDeep_C19)
def law19_RuleDeep_C13 : TC := (.seq (.seq (.rg [⟨⟨some 36, (.mov (.t 5)), none⟩, {}⟩, ⟨⟨some 37, (.bin .gtr (.t 36) (.c (I 16))), none⟩, {}⟩] none) law19_RuleDeep_C15) law19_RuleDeep_C16)
def law19_RuleDeep_C10 : TC := (.seq (.seq (.rg [⟨⟨some 32, (.mov (.t 1)), none⟩, {}⟩] none) law19_RuleDeep_C12) law19_RuleDeep_C13)
def law19_RuleDeep_C6 : TC := (.seq (.rg [⟨⟨some 31, (.mov (.t 5)), none⟩, {}⟩, ⟨⟨some 10, (.mov (.t 31)), none⟩, {}⟩] none) law19_RuleDeep_C10)
def law19_RuleDeep_C2 : TC := (.seq (.rg [⟨⟨some 27, (.mov (.t 6)), none⟩, {}⟩, ⟨⟨some 28, (.call (.c (.fn 22 [])) [(.t 27)]), none⟩, {}⟩, ⟨⟨some 26, (.mov (.t 28)), none⟩, {}⟩, ⟨⟨some 29, (.extr 0 (.t 26)), none⟩, {}⟩, ⟨⟨some 30, (.extr 1 (.t 26)), none⟩, {}⟩, ⟨⟨some 8, (.mov (.t 29)), none⟩, {}⟩, ⟨⟨some 9, (.mov (.t 30)),
  none⟩, {}⟩] none) law19_RuleDeep_C6)
def law19_RuleDeep_C17 : TC := (.block 0 (.loop law19_RuleDeep_N1 law19_RuleDeep_C1))
def law19_RuleDeep_C14 : TC := (.seq (.seq (.rg [⟨⟨some 7, (.mov (.c (I 1))), none⟩, {}⟩] none) law19_RuleDeep_C17) law19_RuleDeep_C2)
def law19_RuleDeep_C11 : TC := (.seq (.rg [⟨⟨some 6, (.mov (.c (.v (.string ⟨⟨[99, 49]⟩⟩)))), none⟩, {}⟩] none) law19_RuleDeep_C14)
def law19_RuleDeep_C7 : TC := (.seq (.rg [⟨⟨some 11, (.mov (.t 0)), none⟩, {}⟩, ⟨⟨some 12, (.conv .i64 (.t 11)), none⟩, {}⟩, ⟨⟨some 13, (.bin .rem (.t 12) (.c (I 6))), none⟩, {}⟩, ⟨⟨some 14, (.bin .add (.c (I 13)) (.t 13)), none⟩, {}⟩, ⟨⟨some 5, (.mov (.t 14)), none⟩, {}⟩] none) law19_RuleDeep_C11)
def law19_RuleDeep_C3 : TC := (.seq (.rg [⟨⟨some 4, (.mov (.c (B false))), none⟩, {}⟩] none) law19_RuleDeep_C7)
def law19_RuleDeep_E (N : Nat) : List (Nat × Ent) := [(22, pureE [.str] [(.list G_RuleNode), (.int .i64)] (fun x => rule_Parse N x)), (9, pureE [] [.bool] (fun x => law19_awake N))]
def law19_RuleDeep_L1 (N : Nat) (n : Nat) (x1 : Bool) (x2 : Int) (x3 : List UInt8) (x4 : Int) : Option Bool := loopN (normI 0 law19_RuleDeep_N1) (run (law19_RuleDeep_E N) N 0 law19_RuleDeep_C1) n ⟨[(1, .bool x1), (5, .int .i64 x2), (6, .str x3), (7, .int .i64 x4)], []⟩ (blkK 0 (seqK (run (law19_RuleDeep_E N) N 0 law19_RuleDeep_C2) (fin [(.t 4)] [.bool])))
def law19_RuleDeep (N : Nat) (a0 : Int) (a1 : Bool) : Option Bool :=
  law19_RuleDeep_L1 N N a1 (W (13 + ((W a0).tmod 6))) [99, 49] 1
theorem law19_RuleDeep_fn : FnOK Tryd.prog 8 59 (fun _ : Nat => false) law19_RuleDeep_C3.er [(.t 4)] := FnOK.mk' Tryd.func8 (by kernel_rfl) (by kernel_rfl) (by kernel_rfl) (by kernel_rfl) (by kernel_rfl)
theorem law19_RuleDeep_envok (N : Nat) : EnvOK Tryd.prog (law19_RuleDeep_E N) := .cons (pureE_ok (rule_Parse_pure N)) (.cons (pureE_ok (law19_awake_pure N)) (.nil))
theorem law19_RuleDeep_pure (N : Nat) : PureOK Tryd.prog 8 [(.int .u8), .bool] [.bool] (fun x => law19_RuleDeep N x.1 x.2) := pureOK (N := N) mixed law19_RuleDeep_fn (law19_RuleDeep_envok N) (TC.noh_ok (by kernel_rfl)) rfl (fun x => by kernel_rfl)
end M
end Go.Proofs.YthfejkflhpifnaaDoor
