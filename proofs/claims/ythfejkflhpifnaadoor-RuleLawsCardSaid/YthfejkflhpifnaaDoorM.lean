/- Plain models of functions of this seat, each checked against the loaded program and the walk by the kernel. No condition: closed facts. Printed by a program of ours. -/
import Derived.Test.YthfejkflhpifnaaDoorM1
set_option linter.all false
namespace Go.Proofs.YthfejkflhpifnaaDoor
open Go.Pv
namespace M
/-! law19_RuleLaws -/
def law19_RuleLaws_C5 : TC := .ret
def law19_RuleLaws_C3 : TC := (.seq (.rg [⟨⟨some 121, (.mov (.t 13)), none⟩, {}⟩, ⟨⟨some 122, (.mov (.t 8)), none⟩, {}⟩, ⟨⟨some 123, (.call (.c (.fn 17 [])) [(.t 121), (.t 122)]), none⟩, {}⟩, ⟨⟨some 124, (.mov (.t 23)), none⟩, {}⟩, ⟨⟨some 125, (.un .neg (.t 124)), none⟩, {}⟩, ⟨⟨some 126, (.bin .eql (.t 123) (.t 125)), none⟩, {}⟩,
  ⟨⟨some 127, (.mov (.t 126)), none⟩, {}⟩, ⟨⟨some 128, (.mov (.t 15)), some (127, true)⟩, {}⟩, ⟨⟨some 129, (.mov (.t 8)), some (127, true)⟩, {}⟩, ⟨⟨some 130, (.call (.c (.fn 17 [])) [(.t 128), (.t 129)]), some (127, true)⟩, {}⟩, ⟨⟨some 131, (.mov (.t 23)), some (127, true)⟩, {}⟩, ⟨⟨some 132, (.mov
  (.t 24)), some (127, true)⟩, {}⟩, ⟨⟨some 133, (.mm false [(.t 131), (.t 132)]), some (127, true)⟩, {}⟩, ⟨⟨some 134, (.bin .eql (.t 130) (.t 133)), some (127, true)⟩, {}⟩, ⟨⟨some 135, (.pick (.t 127) (.t 134) (.c (B false))), none⟩, {}⟩, ⟨⟨some 136, (.mov (.t 135)), none⟩, {}⟩, ⟨⟨some 137, (.mov (.t
  17)), some (136, true)⟩, {}⟩, ⟨⟨some 138, (.mov (.t 8)), some (136, true)⟩, {}⟩, ⟨⟨some 139, (.call (.c (.fn 17 [])) [(.t 137), (.t 138)]), some (136, true)⟩, {}⟩, ⟨⟨some 140, (.mov (.t 23)), some (136, true)⟩, {}⟩, ⟨⟨some 141, (.mov (.t 24)), some (136, true)⟩, {}⟩, ⟨⟨some 142, (.mm true [(.t
  140), (.t 141)]), some (136, true)⟩, {}⟩, ⟨⟨some 143, (.bin .eql (.t 139) (.t 142)), some (136, true)⟩, {}⟩, ⟨⟨some 144, (.pick (.t 136) (.t 143) (.c (B false))), none⟩, {}⟩, ⟨⟨some 145, (.mov (.t 144)), none⟩, {}⟩, ⟨⟨some 146, (.mov (.t 19)), some (145, true)⟩, {}⟩, ⟨⟨some 147, (.mov (.t 8)), some
  (145, true)⟩, {}⟩, ⟨⟨some 148, (.call (.c (.fn 17 [])) [(.t 146), (.t 147)]), some (145, true)⟩, {}⟩, ⟨⟨some 149, (.mov (.t 21)), some (145, true)⟩, {}⟩, ⟨⟨some 150, (.mov (.t 8)), some (145, true)⟩, {}⟩, ⟨⟨some 151, (.call (.c (.fn 17 [])) [(.t 149), (.t 150)]), some (145, true)⟩, {}⟩, ⟨⟨some 152,
  (.bin .eql (.t 148) (.t 151)), some (145, true)⟩, {}⟩, ⟨⟨some 153, (.pick (.t 145) (.t 152) (.c (B false))), none⟩, {}⟩, ⟨⟨some 154, (.mov (.t 153)), none⟩, {}⟩, ⟨⟨some 155, (.call (.c (.fn 9 [])) []), some (154, true)⟩, {}⟩, ⟨⟨some 156, (.pick (.t 154) (.t 155) (.c (B false))), none⟩, {}⟩, ⟨⟨some
  4, (.mov (.t 156)), none⟩, {}⟩] none) law19_RuleLaws_C5)
def law19_RuleLaws_C1 : TC := (.seq (.rg [⟨⟨some 115, (.mov (.t 6)), none⟩, {}⟩, ⟨⟨some 116, (.mov (.t 8)), none⟩, {}⟩, ⟨⟨some 117, (.call (.c (.fn 17 [])) [(.t 115), (.t 116)]), none⟩, {}⟩, ⟨⟨some 118, (.mov (.t 7)), none⟩, {}⟩, ⟨⟨some 119, (.mov (.t 8)), none⟩, {}⟩, ⟨⟨some 120, (.call (.c (.fn 17 [])) [(.t 118), (.t 119)]),
  none⟩, {}⟩, ⟨⟨some 23, (.mov (.t 117)), none⟩, {}⟩, ⟨⟨some 24, (.mov (.t 120)), none⟩, {}⟩] none) law19_RuleLaws_C3)
def law19_RuleLaws_C18 : TC := .ret
def law19_RuleLaws_C16 : TC := (.cond (.t 114) (.seq (.rg [⟨⟨some 4, (.mov (.c (B false))), none⟩, {}⟩] none) law19_RuleLaws_C18) .skip)
def law19_RuleLaws_C17 : TC := (.join [.wk 6 (.list G_RuleNode), .wk 7 (.list G_RuleNode), .wk 8 (.list (.int .i64)), .wk 13 (.list G_RuleNode), .wk 15 (.list G_RuleNode), .wk 17 (.list G_RuleNode), .wk 19 (.list G_RuleNode), .wk 21 (.list G_RuleNode), .keep [6, 7, 8, 13, 15, 17, 19, 21], .cmp] law19_RuleLaws_C1)
def law19_RuleLaws_C15 : TC := (.seq (.seq (.rg [⟨⟨some 89, (.mov (.t 10)), none⟩, {}⟩, ⟨⟨some 90, (.bin .neq (.t 89) (.c (I 0))), none⟩, {}⟩, ⟨⟨some 91, (.mov (.t 90)), none⟩, {}⟩, ⟨⟨some 92, (.mov (.t 12)), some (91, false)⟩, {}⟩, ⟨⟨some 93, (.bin .neq (.t 92) (.c (I 0))), some (91, false)⟩, {}⟩, ⟨⟨some 94, (.pick (.t 91) (.c (B
  true)) (.t 93)), none⟩, {}⟩, ⟨⟨some 95, (.mov (.t 94)), none⟩, {}⟩, ⟨⟨some 96, (.mov (.t 14)), some (95, false)⟩, {}⟩, ⟨⟨some 97, (.bin .neq (.t 96) (.c (I 0))), some (95, false)⟩, {}⟩, ⟨⟨some 98, (.pick (.t 95) (.c (B true)) (.t 97)), none⟩, {}⟩, ⟨⟨some 99, (.mov (.t 98)), none⟩, {}⟩, ⟨⟨some 100,
  (.mov (.t 16)), some (99, false)⟩, {}⟩, ⟨⟨some 101, (.bin .neq (.t 100) (.c (I 0))), some (99, false)⟩, {}⟩, ⟨⟨some 102, (.pick (.t 99) (.c (B true)) (.t 101)), none⟩, {}⟩, ⟨⟨some 103, (.mov (.t 102)), none⟩, {}⟩, ⟨⟨some 104, (.mov (.t 18)), some (103, false)⟩, {}⟩, ⟨⟨some 105, (.bin .neq (.t 104)
  (.c (I 0))), some (103, false)⟩, {}⟩, ⟨⟨some 106, (.pick (.t 103) (.c (B true)) (.t 105)), none⟩, {}⟩, ⟨⟨some 107, (.mov (.t 106)), none⟩, {}⟩, ⟨⟨some 108, (.mov (.t 20)), some (107, false)⟩, {}⟩, ⟨⟨some 109, (.bin .neq (.t 108) (.c (I 0))), some (107, false)⟩, {}⟩, ⟨⟨some 110, (.pick (.t 107) (.c
  (B true)) (.t 109)), none⟩, {}⟩, ⟨⟨some 111, (.mov (.t 110)), none⟩, {}⟩, ⟨⟨some 112, (.mov (.t 22)), some (111, false)⟩, {}⟩, ⟨⟨some 113, (.bin .neq (.t 112) (.c (I 0))), some (111, false)⟩, {}⟩, ⟨⟨some 114, (.pick (.t 111) (.c (B true)) (.t 113)), none⟩, {}⟩] none) law19_RuleLaws_C16)
  law19_RuleLaws_C17)
def law19_RuleLaws_C14 : TC := (.seq (.rg [⟨⟨some 80, (.mov (.t 9)), none⟩, {}⟩, ⟨⟨some 81, (.bin .add (.c (.v (.string ⟨⟨[40, 33]⟩⟩))) (.t 80)), none⟩, {}⟩, ⟨⟨some 82, (.bin .add (.t 81) (.c (.v (.string ⟨⟨[32, 38, 32, 33]⟩⟩)))), none⟩, {}⟩, ⟨⟨some 83, (.mov (.t 11)), none⟩, {}⟩, ⟨⟨some 84, (.bin .add (.t 82) (.t 83)), none⟩,
  {}⟩, ⟨⟨some 85, (.bin .add (.t 84) (.c (.v (.string ⟨⟨[41]⟩⟩)))), none⟩, {}⟩, ⟨⟨some 86, (.call (.c (.fn 22 [])) [(.t 85)]), none⟩, {}⟩, ⟨⟨some 79, (.mov (.t 86)), none⟩, {}⟩, ⟨⟨some 87, (.extr 0 (.t 79)), none⟩, {}⟩, ⟨⟨some 88, (.extr 1 (.t 79)), none⟩, {}⟩, ⟨⟨some 21, (.mov (.t 87)), none⟩, {}⟩,
  ⟨⟨some 22, (.mov (.t 88)), none⟩, {}⟩] none) law19_RuleLaws_C15)
def law19_RuleLaws_C13 : TC := (.seq (.rg [⟨⟨some 70, (.mov (.t 9)), none⟩, {}⟩, ⟨⟨some 71, (.bin .add (.c (.v (.string ⟨⟨[33, 40]⟩⟩))) (.t 70)), none⟩, {}⟩, ⟨⟨some 72, (.bin .add (.t 71) (.c (.v (.string ⟨⟨[32, 124, 32]⟩⟩)))), none⟩, {}⟩, ⟨⟨some 73, (.mov (.t 11)), none⟩, {}⟩, ⟨⟨some 74, (.bin .add (.t 72) (.t 73)), none⟩, {}⟩,
  ⟨⟨some 75, (.bin .add (.t 74) (.c (.v (.string ⟨⟨[41]⟩⟩)))), none⟩, {}⟩, ⟨⟨some 76, (.call (.c (.fn 22 [])) [(.t 75)]), none⟩, {}⟩, ⟨⟨some 69, (.mov (.t 76)), none⟩, {}⟩, ⟨⟨some 77, (.extr 0 (.t 69)), none⟩, {}⟩, ⟨⟨some 78, (.extr 1 (.t 69)), none⟩, {}⟩, ⟨⟨some 19, (.mov (.t 77)), none⟩, {}⟩,
  ⟨⟨some 20, (.mov (.t 78)), none⟩, {}⟩] none) law19_RuleLaws_C14)
def law19_RuleLaws_C12 : TC := (.seq (.rg [⟨⟨some 60, (.mov (.t 9)), none⟩, {}⟩, ⟨⟨some 61, (.bin .add (.c (.v (.string ⟨⟨[40]⟩⟩))) (.t 60)), none⟩, {}⟩, ⟨⟨some 62, (.bin .add (.t 61) (.c (.v (.string ⟨⟨[32, 124, 32]⟩⟩)))), none⟩, {}⟩, ⟨⟨some 63, (.mov (.t 11)), none⟩, {}⟩, ⟨⟨some 64, (.bin .add (.t 62) (.t 63)), none⟩, {}⟩,
  ⟨⟨some 65, (.bin .add (.t 64) (.c (.v (.string ⟨⟨[41]⟩⟩)))), none⟩, {}⟩, ⟨⟨some 66, (.call (.c (.fn 22 [])) [(.t 65)]), none⟩, {}⟩, ⟨⟨some 59, (.mov (.t 66)), none⟩, {}⟩, ⟨⟨some 67, (.extr 0 (.t 59)), none⟩, {}⟩, ⟨⟨some 68, (.extr 1 (.t 59)), none⟩, {}⟩, ⟨⟨some 17, (.mov (.t 67)), none⟩, {}⟩,
  ⟨⟨some 18, (.mov (.t 68)), none⟩, {}⟩] none) law19_RuleLaws_C13)
def law19_RuleLaws_C11 : TC := (.seq (.rg [⟨⟨some 50, (.mov (.t 9)), none⟩, {}⟩, ⟨⟨some 51, (.bin .add (.c (.v (.string ⟨⟨[40]⟩⟩))) (.t 50)), none⟩, {}⟩, ⟨⟨some 52, (.bin .add (.t 51) (.c (.v (.string ⟨⟨[32, 38, 32]⟩⟩)))), none⟩, {}⟩, ⟨⟨some 53, (.mov (.t 11)), none⟩, {}⟩, ⟨⟨some 54, (.bin .add (.t 52) (.t 53)), none⟩, {}⟩, ⟨⟨some
  55, (.bin .add (.t 54) (.c (.v (.string ⟨⟨[41]⟩⟩)))), none⟩, {}⟩, ⟨⟨some 56, (.call (.c (.fn 22 [])) [(.t 55)]), none⟩, {}⟩, ⟨⟨some 49, (.mov (.t 56)), none⟩, {}⟩, ⟨⟨some 57, (.extr 0 (.t 49)), none⟩, {}⟩, ⟨⟨some 58, (.extr 1 (.t 49)), none⟩, {}⟩, ⟨⟨some 15, (.mov (.t 57)), none⟩, {}⟩, ⟨⟨some 16,
  (.mov (.t 58)), none⟩, {}⟩] none) law19_RuleLaws_C12)
def law19_RuleLaws_C10 : TC := (.seq (.rg [⟨⟨some 44, (.mov (.t 9)), none⟩, {}⟩, ⟨⟨some 45, (.bin .add (.c (.v (.string ⟨⟨[33]⟩⟩))) (.t 44)), none⟩, {}⟩, ⟨⟨some 46, (.call (.c (.fn 22 [])) [(.t 45)]), none⟩, {}⟩, ⟨⟨some 43, (.mov (.t 46)), none⟩, {}⟩, ⟨⟨some 47, (.extr 0 (.t 43)), none⟩, {}⟩, ⟨⟨some 48, (.extr 1 (.t 43)), none⟩,
  {}⟩, ⟨⟨some 13, (.mov (.t 47)), none⟩, {}⟩, ⟨⟨some 14, (.mov (.t 48)), none⟩, {}⟩] none) law19_RuleLaws_C11)
def law19_RuleLaws_C9 : TC := (.seq (.rg [⟨⟨some 39, (.mov (.t 7)), none⟩, {}⟩, ⟨⟨some 40, (.call (.c (.fn 19 [])) [(.t 39)]), none⟩, {}⟩, ⟨⟨some 38, (.mov (.t 40)), none⟩, {}⟩, ⟨⟨some 41, (.extr 0 (.t 38)), none⟩, {}⟩, ⟨⟨some 42, (.extr 1 (.t 38)), none⟩, {}⟩, ⟨⟨some 11, (.mov (.t 41)), none⟩, {}⟩, ⟨⟨some 12, (.mov (.t 42)),
  none⟩, {}⟩] none) law19_RuleLaws_C10)
def law19_RuleLaws_C8 : TC := (.seq (.rg [⟨⟨some 34, (.mov (.t 6)), none⟩, {}⟩, ⟨⟨some 35, (.call (.c (.fn 19 [])) [(.t 34)]), none⟩, {}⟩, ⟨⟨some 33, (.mov (.t 35)), none⟩, {}⟩, ⟨⟨some 36, (.extr 0 (.t 33)), none⟩, {}⟩, ⟨⟨some 37, (.extr 1 (.t 33)), none⟩, {}⟩, ⟨⟨some 9, (.mov (.t 36)), none⟩, {}⟩, ⟨⟨some 10, (.mov (.t 37)),
  none⟩, {}⟩] none) law19_RuleLaws_C9)
def law19_RuleLaws_C7 : TC := (.seq (.rg [⟨⟨some 31, (.mov (.t 1)), none⟩, {}⟩, ⟨⟨some 32, (.call (.c (.fn 10 [])) [(.t 31)]), none⟩, {}⟩, ⟨⟨some 8, (.mov (.t 32)), none⟩, {}⟩] none) law19_RuleLaws_C8)
def law19_RuleLaws_C6 : TC := (.seq (.rg [⟨⟨some 27, (.mov (.t 5)), none⟩, {}⟩, ⟨⟨some 28, (.call (.c (.fn 26 [])) [(.t 27), (.c (I 5)), (.c (I 3))]), none⟩, {}⟩, ⟨⟨some 29, (.mov (.t 5)), none⟩, {}⟩, ⟨⟨some 30, (.call (.c (.fn 26 [])) [(.t 29), (.c (I 5)), (.c (I 3))]), none⟩, {}⟩, ⟨⟨some 6, (.mov (.t 28)), none⟩, {}⟩, ⟨⟨some 7,
  (.mov (.t 30)), none⟩, {}⟩] none) law19_RuleLaws_C7)
def law19_RuleLaws_C4 : TC := (.seq (.rg [⟨⟨some 25, (.mov (.t 0)), none⟩, {}⟩, ⟨⟨some 26, (.call (.c (.fn 25 [])) [(.t 25)]), none⟩, {}⟩, ⟨⟨some 5, (.mov (.t 26)), none⟩, {}⟩] none) law19_RuleLaws_C6)
def law19_RuleLaws_C2 : TC := (.seq (.rg [⟨⟨some 4, (.mov (.c (B false))), none⟩, {}⟩] none) law19_RuleLaws_C4)
def law19_RuleLaws_E (N : Nat) : List (Nat × Ent) := [(25, sfE [none] [.v (.list (.int .u8))] [.n G_Codes] (fun x => draw_New N x)), (26, sfE [none, none, none] [.b (.v G_Codes), .v (.int .i64), .v (.int .i64)] [.o (.a G_RuleNode)] (fun x => draw_Codes_Rule N x.1 x.2.1 x.2.2)), (10, pureE [(.list (.int .u8))] [(.list (.int .i64))] (fun x => law19_values N x)), (19, pureE [(.list G_RuleNode)] [.str, (.int .i64)] (fun x => rule_Print N x)), (22, pureE [.str] [(.list G_RuleNode), (.int .i64)] (fun x => rule_Parse N x)), (17, pureE [(.list G_RuleNode), (.list (.int .i64))] [(.int .i64)] (fun x => rule_Eval N x.1 x.2)), (9, pureE [] [.bool] (fun x => law19_awake N))]
def law19_RuleLaws_J1 (N : Nat) (x29 : List Int) (x30 : List T_RuleNode) (x31 : List T_RuleNode) (x32 : List T_RuleNode) (x33 : List T_RuleNode) (x34 : List T_RuleNode) (x35 : List T_RuleNode) (x36 : List T_RuleNode) : Option Bool := joinN (run (law19_RuleLaws_E N) N 0 law19_RuleLaws_C1) N ⟨[(6, .whole 0), (7, .whole 1), (8, .lst false (.int .i64) x29), (13, .lst false G_RuleNode x30), (15, .lst false G_RuleNode x31), (17, .lst false G_RuleNode x32), (19, .lst false G_RuleNode x33), (21, .lst false G_RuleNode x34)], [some (.arr G_RuleNode x35), some (.arr G_RuleNode x36)]⟩ (fin [(.t 4)] [.bool])
theorem law19_RuleLaws_J1_eqM (N : Nat) (JM : Nat) (x29 : List Int) (x30 : List T_RuleNode) (x31 : List T_RuleNode) (x32 : List T_RuleNode) (x33 : List T_RuleNode) (x34 : List T_RuleNode) (x35 : List T_RuleNode) (x36 : List T_RuleNode) : joinN (run (law19_RuleLaws_E N) N 0 law19_RuleLaws_C1) (JM + 1) ⟨[(6, .whole 0), (7, .whole 1), (8, .lst false (.int .i64) x29), (13, .lst false G_RuleNode x30), (15, .lst false G_RuleNode x31), (17, .lst false G_RuleNode x32), (19, .lst false G_RuleNode x33), (21, .lst false G_RuleNode x34)], [some (.arr G_RuleNode x35), some (.arr G_RuleNode x36)]⟩ (fin [(.t 4)] [.bool]) =
  Option.bind (rule_Eval N x35 x29) fun r37 =>
  Option.bind (rule_Eval N x36 x29) fun r38 =>
  Option.bind (rule_Eval N x30 x29) fun r39 =>
  bif (r39 == (W (0 - r37))) then
    Option.bind (rule_Eval N x31 x29) fun r40 =>
    bif (r40 == (min r37 r38)) then
      Option.bind (rule_Eval N x32 x29) fun r41 =>
      bif (r41 == (max r37 r38)) then
        Option.bind (rule_Eval N x33 x29) fun r42 =>
        Option.bind (rule_Eval N x34 x29) fun r43 =>
        bif (r42 == r43) then
          Option.bind (law19_awake N) fun r44 =>
          some r44
        else
          some false
      else
        some false
    else
      some false
  else
    some false := by kernel_rfl
theorem law19_RuleLaws_J1_eq (N : Nat) (x29 : List Int) (x30 : List T_RuleNode) (x31 : List T_RuleNode) (x32 : List T_RuleNode) (x33 : List T_RuleNode) (x34 : List T_RuleNode) (x35 : List T_RuleNode) (x36 : List T_RuleNode) : law19_RuleLaws_J1 (N + 1) x29 x30 x31 x32 x33 x34 x35 x36 =
  Option.bind (rule_Eval (N + 1) x35 x29) fun r37 =>
  Option.bind (rule_Eval (N + 1) x36 x29) fun r38 =>
  Option.bind (rule_Eval (N + 1) x30 x29) fun r39 =>
  bif (r39 == (W (0 - r37))) then
    Option.bind (rule_Eval (N + 1) x31 x29) fun r40 =>
    bif (r40 == (min r37 r38)) then
      Option.bind (rule_Eval (N + 1) x32 x29) fun r41 =>
      bif (r41 == (max r37 r38)) then
        Option.bind (rule_Eval (N + 1) x33 x29) fun r42 =>
        Option.bind (rule_Eval (N + 1) x34 x29) fun r43 =>
        bif (r42 == r43) then
          Option.bind (law19_awake (N + 1)) fun r44 =>
          some r44
        else
          some false
      else
        some false
    else
      some false
  else
    some false := law19_RuleLaws_J1_eqM (N + 1) N x29 x30 x31 x32 x33 x34 x35 x36
def law19_RuleLaws (N : Nat) (a0 : List Int) (a1 : List Int) : Option Bool :=
  Option.bind (draw_New N a0) fun r1 =>
  Option.bind (draw_Codes_Rule N r1.1 5 3) fun r2 =>
  Option.bind (draw_Codes_Rule N r2.2 5 3) fun r3 =>
  Option.bind (law19_values N a1) fun r4 =>
  Option.bind (rule_Print N r2.1) fun r5 =>
  Option.bind (rule_Print N r3.1) fun r6 =>
  bif decide (([33] : List UInt8).length + r5.1.length ≤ 9223372036854775807) then
  Option.bind (rule_Parse N (([33] : List UInt8) ++ r5.1)) fun r8 =>
  bif decide (([40] : List UInt8).length + r5.1.length ≤ 9223372036854775807) then
  let v9 := ([40] : List UInt8) ++ r5.1
  bif decide (v9.length + ([32, 38, 32] : List UInt8).length ≤ 9223372036854775807) then
  let v10 := v9 ++ ([32, 38, 32] : List UInt8)
  bif decide (v10.length + r6.1.length ≤ 9223372036854775807) then
  bif decide ((v10 ++ r6.1).length + ([41] : List UInt8).length ≤ 9223372036854775807) then
  Option.bind (rule_Parse N ((v10 ++ r6.1) ++ ([41] : List UInt8))) fun r13 =>
  bif decide (([40] : List UInt8).length + r5.1.length ≤ 9223372036854775807) then
  let v14 := ([40] : List UInt8) ++ r5.1
  bif decide (v14.length + ([32, 124, 32] : List UInt8).length ≤ 9223372036854775807) then
  let v15 := v14 ++ ([32, 124, 32] : List UInt8)
  bif decide (v15.length + r6.1.length ≤ 9223372036854775807) then
  bif decide ((v15 ++ r6.1).length + ([41] : List UInt8).length ≤ 9223372036854775807) then
  Option.bind (rule_Parse N ((v15 ++ r6.1) ++ ([41] : List UInt8))) fun r18 =>
  bif decide (([33, 40] : List UInt8).length + r5.1.length ≤ 9223372036854775807) then
  let v19 := ([33, 40] : List UInt8) ++ r5.1
  bif decide (v19.length + ([32, 124, 32] : List UInt8).length ≤ 9223372036854775807) then
  let v20 := v19 ++ ([32, 124, 32] : List UInt8)
  bif decide (v20.length + r6.1.length ≤ 9223372036854775807) then
  bif decide ((v20 ++ r6.1).length + ([41] : List UInt8).length ≤ 9223372036854775807) then
  Option.bind (rule_Parse N ((v20 ++ r6.1) ++ ([41] : List UInt8))) fun r23 =>
  bif decide (([40, 33] : List UInt8).length + r5.1.length ≤ 9223372036854775807) then
  let v24 := ([40, 33] : List UInt8) ++ r5.1
  bif decide (v24.length + ([32, 38, 32, 33] : List UInt8).length ≤ 9223372036854775807) then
  let v25 := v24 ++ ([32, 38, 32, 33] : List UInt8)
  bif decide (v25.length + r6.1.length ≤ 9223372036854775807) then
  bif decide ((v25 ++ r6.1).length + ([41] : List UInt8).length ≤ 9223372036854775807) then
  Option.bind (rule_Parse N ((v25 ++ r6.1) ++ ([41] : List UInt8))) fun r28 =>
  bif (r5.2 != 0) then
    some false
  else
    bif (r6.2 != 0) then
      some false
    else
      bif (r8.2 != 0) then
        some false
      else
        bif (r13.2 != 0) then
          some false
        else
          bif (r18.2 != 0) then
            some false
          else
            bif (r23.2 != 0) then
              some false
            else
              bif (r28.2 != 0) then
                some false
              else
                law19_RuleLaws_J1 N r4 r8.1 r13.1 r18.1 r23.1 r28.1 r2.1 r3.1
  else none
  else none
  else none
  else none
  else none
  else none
  else none
  else none
  else none
  else none
  else none
  else none
  else none
  else none
  else none
  else none
  else none
theorem law19_RuleLaws_fn : FnOK Tryd.prog 7 157 (fun _ : Nat => false) law19_RuleLaws_C2.er [(.t 4)] := FnOK.mk' Tryd.func7 (by kernel_rfl) (by kernel_rfl) (by kernel_rfl) (by kernel_rfl) (by kernel_rfl)
theorem law19_RuleLaws_envok (N : Nat) : EnvOK Tryd.prog (law19_RuleLaws_E N) := .cons (sfE_ok (draw_New_sf N)) (.cons (sfE_ok (draw_Codes_Rule_sf N)) (.cons (pureE_ok (law19_values_pure N)) (.cons (pureE_ok (rule_Print_pure N)) (.cons (pureE_ok (rule_Parse_pure N)) (.cons (pureE_ok (rule_Eval_pure N)) (.cons (pureE_ok (law19_awake_pure N)) (.nil)))))))
theorem law19_RuleLaws_pure (N : Nat) : PureOK Tryd.prog 7 [(.list (.int .u8)), (.list (.int .u8))] [.bool] (fun x => law19_RuleLaws N x.1 x.2) := pureOK (N := N) mixed law19_RuleLaws_fn (law19_RuleLaws_envok N) (TC.noh_ok (by kernel_rfl)) rfl (fun x => by kernel_rfl)
/-! law19_RuleDeep -/
end M
end Go.Proofs.YthfejkflhpifnaaDoor
