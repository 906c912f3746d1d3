/- Plain models of functions of this seat, each checked against the loaded program and the walk by the kernel. No condition: closed facts. Printed by a program of ours. -/
import Derived.Test.YtihgpillkgndbaaM1
set_option linter.all false
namespace Go.Proofs.Ytihgpillkgndbaa
open Go.Pv
namespace M
/-! law03_WalkSums -/
def law03_WalkSums_N1 : List NS := [.wk 11 (.list (.int .i64)), .keep [7, 8, 9, 10, 11, 12], .cmp]
def law03_WalkSums_N2 : List NS := [.wk 13 (.list (.int .i64)), .keep [7, 10, 13, 14, 15, 17, 18, 19], .cmp]
def law03_WalkSums_C7 : TC := (.cond (.t 87) .skip (.exit 2))
def law03_WalkSums_C22 : TC := .ret
def law03_WalkSums_C15 : TC := (.cond (.t 104) (.seq (.rg [⟨⟨some 6, (.mov (.c (B false))), none⟩, {}⟩] none) law03_WalkSums_C22) .skip)
def law03_WalkSums_C34 : TC := .ret
def law03_WalkSums_C30 : TC := (.cond (.t 124) (.seq (.rg [⟨⟨some 6, (.mov (.c (B false))), none⟩, {}⟩] none) law03_WalkSums_C34) .skip)
def law03_WalkSums_C39 : TC := .ret
def law03_WalkSums_C37 : TC := (.cond (.t 133) (.seq (.rg [⟨⟨some 6, (.mov (.c (B false))), none⟩, {}⟩] none) law03_WalkSums_C39) .skip)
def law03_WalkSums_C40 : TC := (.rg [⟨⟨some 137, (.fadr 0 (.t 20)), none⟩, {}⟩, ⟨⟨some 138, (.load false 1 (.t 137)), none⟩, {}⟩, ⟨⟨some 139, (.fadr 1 (.t 20)), none⟩, {}⟩, ⟨⟨some 140, (.load false 1 (.t 139)), none⟩, {}⟩, ⟨⟨some 141, (.bin .add (.t 138) (.t 140)), none⟩, {}⟩, ⟨⟨some 142, (.mov (.t 17)), none⟩, {}⟩, ⟨⟨some 143,
  (.bin .sub (.t 141) (.t 142)), none⟩, {}⟩, ⟨⟨some 17, (.mov (.t 143)), none⟩, {}⟩] none)
def law03_WalkSums_C38 : TC := (.seq (.rg [⟨⟨some 134, (.mov (.t 18)), none⟩, {}⟩, ⟨⟨some 135, (.mov (.t 22)), none⟩, {}⟩, ⟨⟨some 136, (.bin .add (.t 134) (.t 135)), none⟩, {}⟩, ⟨⟨some 18, (.mov (.t 136)), none⟩, {}⟩] none) law03_WalkSums_C40)
def law03_WalkSums_C35 : TC := (.seq (.seq (.rg [⟨⟨some 132, (.mov (.t 22)), none⟩, {}⟩, ⟨⟨some 133, (.bin .lss (.t 132) (.c (I 1))), none⟩, {}⟩] none) law03_WalkSums_C37) law03_WalkSums_C38)
def law03_WalkSums_C31 : TC := (.seq (.rg [⟨⟨some 125, (.load true 2 (.t 7)), none⟩, {}⟩, ⟨⟨some 126, (.mov (.t 13)), none⟩, {}⟩, ⟨⟨some 127, (.mov (.t 19)), none⟩, {}⟩, ⟨⟨some 128, (.iadrS 1 (.t 126) (.t 127)), none⟩, {}⟩, ⟨⟨some 129, (.load false 1 (.t 128)), none⟩, {}⟩, ⟨⟨some 130, (.mov (.t 21)), none⟩, {}⟩, ⟨⟨some 131, (.call
  (.c (.fn 12 [])) [(.t 125), (.t 129), (.t 130)]), none⟩, {}⟩, ⟨⟨some 22, (.mov (.t 131)), none⟩, {}⟩] (some [])) law03_WalkSums_C35)
def law03_WalkSums_C26 : TC := (.seq (.seq (.rg [⟨⟨some 117, (.mov (.t 21)), none⟩, {}⟩, ⟨⟨some 118, (.un .not (.t 117)), none⟩, {}⟩, ⟨⟨some 119, (.mov (.t 118)), none⟩, {}⟩, ⟨⟨some 120, (.fadr 0 (.t 20)), some (119, true)⟩, {}⟩, ⟨⟨some 121, (.load false 1 (.t 120)), some (119, true)⟩, {}⟩, ⟨⟨some 122, (.mov (.t 17)), some (119,
  true)⟩, {}⟩, ⟨⟨some 123, (.bin .neq (.t 121) (.t 122)), some (119, true)⟩, {}⟩, ⟨⟨some 124, (.pick (.t 119) (.t 123) (.c (B false))), none⟩, {}⟩] none) law03_WalkSums_C30) law03_WalkSums_C31)
def law03_WalkSums_C23 : TC := (.seq (.rg [⟨⟨some 113, (.fadr 1 (.t 20)), none⟩, {}⟩, ⟨⟨some 114, (.load false 1 (.t 113)), none⟩, {}⟩, ⟨⟨some 115, (.mov (.t 17)), none⟩, {}⟩, ⟨⟨some 116, (.bin .eql (.t 114) (.t 115)), none⟩, {}⟩, ⟨⟨some 21, (.mov (.t 116)), none⟩, {}⟩] none) law03_WalkSums_C26)
def law03_WalkSums_C16 : TC := (.seq (.pre [.wait] (.rg [⟨⟨some 105, (.fadr 1 (.t 7)), none⟩, {}⟩, ⟨⟨some 106, (.load false 1 (.t 105)), none⟩, {}⟩, ⟨⟨some 107, (.mov (.t 13)), none⟩, {}⟩, ⟨⟨some 108, (.mov (.t 19)), none⟩, {}⟩, ⟨⟨some 109, (.iadrS 1 (.t 107) (.t 108)), none⟩, {}⟩, ⟨⟨some 110, (.load false 1 (.t 109)), none⟩, {}⟩,
  ⟨⟨some 111, (.iadrS 10 (.t 106) (.t 110)), none⟩, {}⟩, ⟨⟨some 112, (.load true 10 (.t 111)), none⟩, {}⟩, ⟨⟨some 20, (.alloc [(I 0), (I 0), (I 0), (I 0), (B false), (B false), (I 0), (I 0), (I 0), (I 0)]), none⟩, ⟨.unit, some 1⟩⟩, ⟨⟨none, (.store 10 (.t 20) (.t 112)), none⟩, {}⟩] (some [(0, 8), (1,
  8), (4, 8), (5, 8), (6, 8), (7, 8)]))) law03_WalkSums_C23)
def law03_WalkSums_C17 : TC := (.rg [⟨⟨some 88, (.mov (.t 19)), none⟩, {}⟩, ⟨⟨some 89, (.bin .add (.t 88) (.c (I 1))), none⟩, {}⟩, ⟨⟨some 19, (.mov (.t 89)), none⟩, {}⟩] none)
def law03_WalkSums_C8 : TC := (.seq (.block 3 (.seq (.seq (.rg [⟨⟨some 90, (.mov (.t 13)), none⟩, {}⟩, ⟨⟨some 91, (.mov (.t 19)), none⟩, {}⟩, ⟨⟨some 92, (.iadrS 1 (.t 90) (.t 91)), none⟩, {}⟩, ⟨⟨some 93, (.load false 1 (.t 92)), none⟩, {}⟩, ⟨⟨some 94, (.bin .lss (.t 93) (.c (I 0))), none⟩, {}⟩, ⟨⟨some 95, (.mov (.t 94)), none⟩,
  {}⟩, ⟨⟨some 96, (.mov (.t 13)), some (95, false)⟩, {}⟩, ⟨⟨some 97, (.mov (.t 19)), some (95, false)⟩, {}⟩, ⟨⟨some 98, (.iadrS 1 (.t 96) (.t 97)), some (95, false)⟩, {}⟩, ⟨⟨some 99, (.load false 1 (.t 98)), some (95, false)⟩, {}⟩, ⟨⟨some 100, (.fadr 1 (.t 7)), some (95, false)⟩, {}⟩, ⟨⟨some 101,
  (.load false 1 (.t 100)), some (95, false)⟩, {}⟩, ⟨⟨some 102, (.len (.t 101)), some (95, false)⟩, {}⟩, ⟨⟨some 103, (.bin .geq (.t 99) (.t 102)), some (95, false)⟩, {}⟩, ⟨⟨some 104, (.pick (.t 95) (.c (B true)) (.t 103)), none⟩, {}⟩] (some [])) law03_WalkSums_C15) law03_WalkSums_C16))
  law03_WalkSums_C17)
def law03_WalkSums_C1 : TC := (.seq (.seq (.rg [⟨⟨some 84, (.mov (.t 19)), none⟩, {}⟩, ⟨⟨some 85, (.mov (.t 13)), none⟩, {}⟩, ⟨⟨some 86, (.len (.t 85)), none⟩, {}⟩, ⟨⟨some 87, (.bin .lss (.t 84) (.t 86)), none⟩, {}⟩] none) law03_WalkSums_C7) law03_WalkSums_C8)
def law03_WalkSums_C9 : TC := .ret
def law03_WalkSums_C2 : TC := (.seq (.rg [⟨⟨some 144, (.mov (.t 15)), none⟩, {}⟩, ⟨⟨some 145, (.un .not (.t 144)), none⟩, {}⟩, ⟨⟨some 146, (.mov (.t 145)), none⟩, {}⟩, ⟨⟨some 147, (.mov (.t 17)), some (146, false)⟩, {}⟩, ⟨⟨some 148, (.mov (.t 10)), some (146, false)⟩, {}⟩, ⟨⟨some 149, (.bin .eql (.t 147) (.t 148)), some (146,
  false)⟩, {}⟩, ⟨⟨some 150, (.mov (.t 149)), some (146, false)⟩, {}⟩, ⟨⟨some 151, (.mov (.t 18)), some (150, true)⟩, {}⟩, ⟨⟨some 152, (.mov (.t 14)), some (150, true)⟩, {}⟩, ⟨⟨some 153, (.bin .eql (.t 151) (.t 152)), some (150, true)⟩, {}⟩, ⟨⟨some 154, (.pick (.t 150) (.t 153) (.c (B false))), some
  (146, false)⟩, {}⟩, ⟨⟨some 155, (.pick (.t 146) (.c (B true)) (.t 154)), none⟩, {}⟩, ⟨⟨some 156, (.mov (.t 155)), none⟩, {}⟩, ⟨⟨some 157, (.call (.c (.fn 16 [])) []), some (156, true)⟩, {}⟩, ⟨⟨some 158, (.pick (.t 156) (.t 157) (.c (B false))), none⟩, {}⟩, ⟨⟨some 6, (.mov (.t 158)), none⟩, {}⟩]
  none) law03_WalkSums_C9)
def law03_WalkSums_C18 : TC := (.block 2 (.loop law03_WalkSums_N2 law03_WalkSums_C1))
def law03_WalkSums_C10 : TC := (.seq (.seq (.rg [⟨⟨some 19, (.mov (.c (I 0))), none⟩, {}⟩] none) law03_WalkSums_C18) law03_WalkSums_C2)
def law03_WalkSums_C3 : TC := (.seq (.rg [⟨⟨some 83, (.mov (.t 9)), none⟩, {}⟩, ⟨⟨some 17, (.mov (.t 83)), none⟩, {}⟩, ⟨⟨some 18, (.mov (.c (I 0))), none⟩, {}⟩] none) law03_WalkSums_C10)
def law03_WalkSums_C11 : TC := (.cond (.t 39) .skip (.exit 0))
def law03_WalkSums_C19 : TC := (.rg [⟨⟨some 40, (.mov (.t 12)), none⟩, {}⟩, ⟨⟨some 41, (.bin .add (.t 40) (.c (I 1))), none⟩, {}⟩, ⟨⟨some 12, (.mov (.t 41)), none⟩, {}⟩] none)
def law03_WalkSums_C12 : TC := (.seq (.block 1 (.rg [⟨⟨some 42, (.mov (.t 11)), none⟩, {}⟩, ⟨⟨some 43, (.mov (.t 12)), none⟩, {}⟩, ⟨⟨some 44, (.iadrS 1 (.t 42) (.t 43)), none⟩, {}⟩, ⟨⟨none, (.store 1 (.t 44) (.c (I 1099511627776))), none⟩, {}⟩] none)) law03_WalkSums_C19)
def law03_WalkSums_C4 : TC := (.seq (.seq (.rg [⟨⟨some 37, (.mov (.t 12)), none⟩, {}⟩, ⟨⟨some 38, (.mov (.t 8)), none⟩, {}⟩, ⟨⟨some 39, (.bin .lss (.t 37) (.t 38)), none⟩, {}⟩] none) law03_WalkSums_C11) law03_WalkSums_C12)
def law03_WalkSums_C32 : TC := .ret
def law03_WalkSums_C27 : TC := (.cond (.t 82) (.seq (.rg [⟨⟨some 6, (.mov (.c (B false))), none⟩, {}⟩] none) law03_WalkSums_C32) .skip)
def law03_WalkSums_C28 : TC := (.join [.wk 13 (.list (.int .i64)), .keep [7, 9, 10, 13, 14, 15], .cmp] law03_WalkSums_C3)
def law03_WalkSums_C24 : TC := (.seq (.seq (.rg [⟨⟨some 59, (.mov (.t 16)), none⟩, {}⟩, ⟨⟨some 60, (.len (.t 59)), none⟩, {}⟩, ⟨⟨some 61, (.mov (.t 8)), none⟩, {}⟩, ⟨⟨some 62, (.bin .neq (.t 60) (.t 61)), none⟩, {}⟩, ⟨⟨some 63, (.mov (.t 62)), none⟩, {}⟩, ⟨⟨some 64, (.mov (.t 15)), some (63, false)⟩, {}⟩, ⟨⟨some 65, (.mov (.t
  16)), some (63, false)⟩, {}⟩, ⟨⟨some 66, (.mov (.t 10)), some (63, false)⟩, {}⟩, ⟨⟨some 67, (.iadrS 1 (.t 65) (.t 66)), some (63, false)⟩, {}⟩, ⟨⟨some 68, (.load false 1 (.t 67)), some (63, false)⟩, {}⟩, ⟨⟨some 69, (.bin .lss (.t 68) (.c (I 1099511627776))), some (63, false)⟩, {}⟩, ⟨⟨some 70, (.beq
  true (.t 64) (.t 69)), some (63, false)⟩, {}⟩, ⟨⟨some 71, (.pick (.t 63) (.c (B true)) (.t 70)), none⟩, {}⟩, ⟨⟨some 72, (.mov (.t 71)), none⟩, {}⟩, ⟨⟨some 73, (.mov (.t 15)), some (72, false)⟩, {}⟩, ⟨⟨some 74, (.mov (.t 73)), some (72, false)⟩, {}⟩, ⟨⟨some 75, (.mov (.t 16)), some (74, true)⟩, {}⟩,
  ⟨⟨some 76, (.mov (.t 10)), some (74, true)⟩, {}⟩, ⟨⟨some 77, (.iadrS 1 (.t 75) (.t 76)), some (74, true)⟩, {}⟩, ⟨⟨some 78, (.load false 1 (.t 77)), some (74, true)⟩, {}⟩, ⟨⟨some 79, (.mov (.t 14)), some (74, true)⟩, {}⟩, ⟨⟨some 80, (.bin .neq (.t 78) (.t 79)), some (74, true)⟩, {}⟩, ⟨⟨some 81,
  (.pick (.t 74) (.t 80) (.c (B false))), some (72, false)⟩, {}⟩, ⟨⟨some 82, (.pick (.t 72) (.c (B true)) (.t 81)), none⟩, {}⟩] none) law03_WalkSums_C27) law03_WalkSums_C28)
def law03_WalkSums_C20 : TC := (.seq (.rgw [([⟨⟨some 56, (.load true 2 (.t 7)), none⟩, {}⟩, ⟨⟨some 57, (.mov (.t 11)), none⟩, {}⟩], [.frz 11]), ([⟨⟨some 58, (.call (.c (.fn 20 [])) [(.t 56), (.t 57)]), none⟩, {}⟩, ⟨⟨some 16, (.mov (.t 58)), none⟩, {}⟩], [])]) law03_WalkSums_C24)
def law03_WalkSums_C13 : TC := (.seq (.rg [⟨⟨some 49, (.load true 2 (.t 7)), none⟩, {}⟩, ⟨⟨some 50, (.mov (.t 9)), none⟩, {}⟩, ⟨⟨some 51, (.mov (.t 10)), none⟩, {}⟩, ⟨⟨some 52, (.call (.c (.fn 17 [])) [(.t 49), (.t 50), (.t 51)]), none⟩, {}⟩, ⟨⟨some 48, (.mov (.t 52)), none⟩, {}⟩, ⟨⟨some 53, (.extr 0 (.t 48)), none⟩, {}⟩, ⟨⟨some
  54, (.extr 1 (.t 48)), none⟩, {}⟩, ⟨⟨some 55, (.extr 2 (.t 48)), none⟩, {}⟩, ⟨⟨some 13, (.mov (.t 53)), none⟩, {}⟩, ⟨⟨some 14, (.mov (.t 54)), none⟩, {}⟩, ⟨⟨some 15, (.mov (.t 55)), none⟩, {}⟩] none) law03_WalkSums_C20)
def law03_WalkSums_C5 : TC := (.seq (.rg [⟨⟨some 45, (.mov (.t 11)), none⟩, {}⟩, ⟨⟨some 46, (.mov (.t 9)), none⟩, {}⟩, ⟨⟨some 47, (.iadrS 1 (.t 45) (.t 46)), none⟩, {}⟩, ⟨⟨none, (.store 1 (.t 47) (.c (I 0))), none⟩, {}⟩] none) law03_WalkSums_C13)
def law03_WalkSums_C36 : TC := (.block 0 (.loop law03_WalkSums_N1 law03_WalkSums_C4))
def law03_WalkSums_C33 : TC := (.seq (.seq (.rg [⟨⟨some 12, (.mov (.c (I 0))), none⟩, {}⟩] none) law03_WalkSums_C36) law03_WalkSums_C5)
def law03_WalkSums_C29 : TC := (.seq (.rg [⟨⟨some 35, (.mov (.t 8)), none⟩, {}⟩, ⟨⟨some 36, (.mksl 1 8 [(I 0)] (.t 35) (.t 35)), none⟩, ⟨(.int .i64), none⟩⟩, ⟨⟨some 11, (.mov (.t 36)), none⟩, {}⟩] none) law03_WalkSums_C33)
def law03_WalkSums_C25 : TC := (.seq (.rg [⟨⟨some 29, (.mov (.t 1)), none⟩, {}⟩, ⟨⟨some 30, (.mov (.t 8)), none⟩, {}⟩, ⟨⟨some 31, (.call (.c (.fn 11 [])) [(.t 29), (.t 30)]), none⟩, {}⟩, ⟨⟨some 32, (.mov (.t 2)), none⟩, {}⟩, ⟨⟨some 33, (.mov (.t 8)), none⟩, {}⟩, ⟨⟨some 34, (.call (.c (.fn 11 [])) [(.t 32), (.t 33)]), none⟩, {}⟩,
  ⟨⟨some 9, (.mov (.t 31)), none⟩, {}⟩, ⟨⟨some 10, (.mov (.t 34)), none⟩, {}⟩] none) law03_WalkSums_C29)
def law03_WalkSums_C21 : TC := (.seq (.rg [⟨⟨some 26, (.fadr 0 (.t 7)), none⟩, {}⟩, ⟨⟨some 27, (.load false 1 (.t 26)), none⟩, {}⟩, ⟨⟨some 28, (.len (.t 27)), none⟩, {}⟩, ⟨⟨some 8, (.mov (.t 28)), none⟩, {}⟩] none) law03_WalkSums_C25)
def law03_WalkSums_C14 : TC := (.seq (.rg [⟨⟨some 23, (.mov (.t 0)), none⟩, {}⟩, ⟨⟨some 24, (.call (.c (.fn 9 [])) [(.t 23)]), none⟩, {}⟩, ⟨⟨some 25, (.call (.c (.fn 10 [])) [(.t 24)]), none⟩, {}⟩, ⟨⟨some 7, (.alloc [(.lst true []), (.lst true [])]), none⟩, {}⟩, ⟨⟨none, (.store 2 (.t 7) (.t 25)), none⟩, {}⟩] none)
  law03_WalkSums_C21)
def law03_WalkSums_C6 : TC := (.seq (.rg [⟨⟨some 6, (.mov (.c (B false))), none⟩, {}⟩] none) law03_WalkSums_C14)
def law03_WalkSums_E (N : Nat) : List (Nat × Ent) := [(9, sfE [none] [.v (.list (.int .u8))] [.n G_Codes] (fun x => draw_New N x)), (10, sfE [none] [.b (.v G_Codes)] [.v G_Mine] (fun x => draw_Codes_Mine N x)), (11, pureE [(.int .i64), (.int .i64)] [(.int .i64)] (fun x => draw_Mod N x.1 x.2)), (17, pureE [G_Mine, (.int .i64), (.int .i64)] [(.list (.int .i64)), (.int .i64), .bool] (fun x => walk_Way N x.1 x.2.1 x.2.2)), (20, pureE [G_Mine, (.list (.int .i64))] [(.list (.int .i64))] (fun x => walk_Least N x.1 x.2)), (12, pureE [G_Mine, (.int .i64), .bool] [(.int .i64)] (fun x => walk_Time N x.1 x.2.1 x.2.2)), (16, pureE [] [.bool] (fun x => law03_awake N))]
def law03_WalkSums_L2 (N : Nat) (n : Nat) (x31 : Int) (x32 : List Int) (x33 : Int) (x34 : Bool) (x35 : Int) (x36 : Int) (x37 : Int) (x38 : List T_Place) (x39 : List T_Road) : Option Bool := loopN (normI 0 law03_WalkSums_N2) (run (law03_WalkSums_E N) N 0 law03_WalkSums_C1) n ⟨[(7, .ptr 0 0 0), (10, .int .i64 x31), (13, .lst false (.int .i64) x32), (14, .int .i64 x33), (15, .bool x34), (17, .int .i64 x35), (18, .int .i64 x36), (19, .int .i64 x37)], [some (.box 0 [.lst false G_Place x38, .lst false G_Road x39])]⟩ (blkK 2 (seqK (run (law03_WalkSums_E N) N 0 law03_WalkSums_C2) (fin [(.t 6)] [.bool])))
def law03_WalkSums_J1 (N : Nat) (x24 : Int) (x25 : Int) (x26 : List Int) (x27 : Int) (x28 : Bool) (x29 : List T_Place) (x30 : List T_Road) : Option Bool := joinN (run (law03_WalkSums_E N) N 0 law03_WalkSums_C3) N ⟨[(7, .ptr 0 0 0), (9, .int .i64 x24), (10, .int .i64 x25), (13, .lst false (.int .i64) x26), (14, .int .i64 x27), (15, .bool x28)], [some (.box 0 [.lst false G_Place x29, .lst false G_Road x30])]⟩ (fin [(.t 6)] [.bool])
def law03_WalkSums_L1 (N : Nat) (n : Nat) (x6 : Int) (x7 : Int) (x8 : Int) (x9 : Int) (x10 : List T_Place) (x11 : List T_Road) (x12 : List Int) : Option Bool := loopN (normI 0 law03_WalkSums_N1) (run (law03_WalkSums_E N) N 0 law03_WalkSums_C4) n ⟨[(7, .ptr 0 0 0), (8, .int .i64 x6), (9, .int .i64 x7), (10, .int .i64 x8), (11, .whole 1), (12, .int .i64 x9)], [some (.box 0 [.lst false G_Place x10, .lst false G_Road x11]), some (.arr (.int .i64) x12)]⟩ (blkK 0 (seqK (run (law03_WalkSums_E N) N 0 law03_WalkSums_C5) (fin [(.t 6)] [.bool])))
theorem law03_WalkSums_L2_zero (N : Nat) (x31 : Int) (x32 : List Int) (x33 : Int) (x34 : Bool) (x35 : Int) (x36 : Int) (x37 : Int) (x38 : List T_Place) (x39 : List T_Road) : law03_WalkSums_L2 N 0 x31 x32 x33 x34 x35 x36 x37 x38 x39 = none := rfl
theorem law03_WalkSums_L2_succ (N : Nat) (n2 : Nat) (x31 : Int) (x32 : List Int) (x33 : Int) (x34 : Bool) (x35 : Int) (x36 : Int) (x37 : Int) (x38 : List T_Place) (x39 : List T_Road) : law03_WalkSums_L2 N (n2 + 1) x31 x32 x33 x34 x35 x36 x37 x38 x39 =
  bif (decide (x37 < (x32.length : Int))) then
    bif inB x37 x32.length then
    bif (decide ((x32.getD x37.toNat 0) < 0)) then
      some false
    else
      bif inB x37 x32.length then
      bif (decide ((x32.getD x37.toNat 0) ≥ (x39.length : Int))) then
        some false
      else
        bif inB x37 x32.length then
        bif inB (x32.getD x37.toNat 0) x39.length then
        let v40 := x39.getD (x32.getD x37.toNat 0).toNat D_Road
        bif (!(v40.2.1 == x35)) then
          bif (v40.1 != x35) then
            some false
          else
            bif inB x37 x32.length then
            Option.bind (walk_Time N (x38, x39) (x32.getD x37.toNat 0) (v40.2.1 == x35)) fun r41 =>
            bif (decide (r41 < 1)) then
              some false
            else
              law03_WalkSums_L2 N n2 x31 x32 x33 x34 (W ((W (v40.1 + v40.2.1)) - x35)) (W (x36 + r41)) (W (x37 + 1)) x38 x39
            else none
        else
          bif inB x37 x32.length then
          Option.bind (walk_Time N (x38, x39) (x32.getD x37.toNat 0) (v40.2.1 == x35)) fun r52 =>
          bif (decide (r52 < 1)) then
            some false
          else
            law03_WalkSums_L2 N n2 x31 x32 x33 x34 (W ((W (v40.1 + v40.2.1)) - x35)) (W (x36 + r52)) (W (x37 + 1)) x38 x39
          else none
        else none
        else none
      else none
    else none
  else
    bif (!x34) then
      Option.bind (law03_awake N) fun r63 =>
      some r63
    else
      bif (x35 == x31) then
        bif (x36 == x33) then
          Option.bind (law03_awake N) fun r64 =>
          some r64
        else
          some false
      else
        some false := by kernel_rfl
theorem law03_WalkSums_J1_eqM (N JM : Nat) (x24 : Int) (x25 : Int) (x26 : List Int) (x27 : Int) (x28 : Bool) (x29 : List T_Place) (x30 : List T_Road) : joinN (run (law03_WalkSums_E N) N 0 law03_WalkSums_C3) (JM + 1) ⟨[(7, .ptr 0 0 0), (9, .int .i64 x24), (10, .int .i64 x25), (13, .lst false (.int .i64) x26), (14, .int .i64 x27), (15, .bool x28)], [some (.box 0 [.lst false G_Place x29, .lst false G_Road x30])]⟩ (fin [(.t 6)] [.bool]) =
  law03_WalkSums_L2 N N x25 x26 x27 x28 x24 0 0 x29 x30 := by kernel_rfl
theorem law03_WalkSums_J1_eq (N : Nat) (x24 : Int) (x25 : Int) (x26 : List Int) (x27 : Int) (x28 : Bool) (x29 : List T_Place) (x30 : List T_Road) : law03_WalkSums_J1 (N + 1) x24 x25 x26 x27 x28 x29 x30 =
  law03_WalkSums_L2 (N + 1) (N + 1) x25 x26 x27 x28 x24 0 0 x29 x30 := law03_WalkSums_J1_eqM (N + 1) N x24 x25 x26 x27 x28 x29 x30
theorem law03_WalkSums_L1_zero (N : Nat) (x6 : Int) (x7 : Int) (x8 : Int) (x9 : Int) (x10 : List T_Place) (x11 : List T_Road) (x12 : List Int) : law03_WalkSums_L1 N 0 x6 x7 x8 x9 x10 x11 x12 = none := rfl
theorem law03_WalkSums_L1_succ (N : Nat) (n1 : Nat) (x6 : Int) (x7 : Int) (x8 : Int) (x9 : Int) (x10 : List T_Place) (x11 : List T_Road) (x12 : List Int) : law03_WalkSums_L1 N (n1 + 1) x6 x7 x8 x9 x10 x11 x12 =
  bif (decide (x9 < x6)) then
    bif inB x9 x12.length then
    law03_WalkSums_L1 N n1 x6 x7 x8 (W (x9 + 1)) x10 x11 (x12.set x9.toNat 1099511627776)
    else none
  else
    bif inB x7 x12.length then
    Option.bind (walk_Way N (x10, x11) x7 x8) fun r22 =>
    Option.bind (walk_Least N (x10, x11) (x12.set x7.toNat 0)) fun r23 =>
    bif ((r23.length : Int) != x6) then
      some false
    else
      bif inB x8 r23.length then
      bif (!(r22.2.2 == (decide ((r23.getD x8.toNat 0) < 1099511627776)))) then
        some false
      else
        bif r22.2.2 then
          bif inB x8 r23.length then
          bif ((r23.getD x8.toNat 0) != r22.2.1) then
            some false
          else
            law03_WalkSums_J1 N x7 x8 r22.1 r22.2.1 r22.2.2 x10 x11
          else none
        else
          law03_WalkSums_J1 N x7 x8 r22.1 r22.2.1 r22.2.2 x10 x11
      else none
    else none := by kernel_rfl
def law03_WalkSums (N : Nat) (a0 : List Int) (a1 : Int) (a2 : Int) : Option Bool :=
  Option.bind (draw_New N a0) fun r1 =>
  Option.bind (draw_Codes_Mine N r1.1) fun r2 =>
  Option.bind (draw_Mod N a1 (r2.1.1.length : Int)) fun r3 =>
  Option.bind (draw_Mod N a2 (r2.1.1.length : Int)) fun r4 =>
  bif mkB 8 (r2.1.1.length : Int) (r2.1.1.length : Int) then
  law03_WalkSums_L1 N N (r2.1.1.length : Int) r3 r4 0 r2.1.1 r2.1.2 (List.replicate (r2.1.1.length : Int).toNat 0)
  else none
theorem law03_WalkSums_fn : FnOK Try.prog 5 159 (fun _ : Nat => false) law03_WalkSums_C6.er [(.t 6)] := FnOK.mk' Try.func5 (by kernel_rfl) (by kernel_rfl) (by kernel_rfl) (by kernel_rfl) (by kernel_rfl)
theorem law03_WalkSums_envok (N : Nat) : EnvOK Try.prog (law03_WalkSums_E N) := .cons (sfE_ok (draw_New_sf N)) (.cons (sfE_ok (draw_Codes_Mine_sf N)) (.cons (pureE_ok (draw_Mod_pure N)) (.cons (pureE_ok (walk_Way_pure N)) (.cons (pureE_ok (walk_Least_pure N)) (.cons (pureE_ok (walk_Time_pure N)) (.cons (pureE_ok (law03_awake_pure N)) (.nil)))))))
theorem law03_WalkSums_pure (N : Nat) : PureOK Try.prog 5 [(.list (.int .u8)), (.int .i64), (.int .i64)] [.bool] (fun x => law03_WalkSums N x.1 x.2.1 x.2.2) := pureOK (N := N) mixed law03_WalkSums_fn (law03_WalkSums_envok N) (TC.noh_ok (by kernel_rfl)) rfl (fun x => by kernel_rfl)
/-! law03_times -/
def law03_times_NE : List NS := [.frz 4, .frzo 0, .keep [4], .out [0]]
def law03_times_N1 : List NS := [.own 5 (.int .i64), .keep [0, 3, 5, 6], .cmp]
def law03_times_C4 : TC := (.cond (.t 12) .skip (.exit 0))
def law03_times_C12 : TC := (.cond (.t 17) (.rg [⟨⟨some 18, (.mov (.t 0)), none⟩, {}⟩, ⟨⟨some 19, (.call (.c (.fn 26 [])) [(.t 18), (.c (I 300))]), none⟩, {}⟩, ⟨⟨some 7, (.mov (.t 19)), none⟩, {}⟩] none) .skip)
def law03_times_C13 : TC := (.rg [⟨⟨some 20, (.mov (.t 5)), none⟩, {}⟩, ⟨⟨some 21, (.mov (.t 7)), none⟩, {}⟩, ⟨⟨some 22, (.bslice false 1 [(I 0)] 1 [(0, (.t 21))]), none⟩, ⟨(.int .i64), none⟩⟩, ⟨⟨some 23, (.app 1 8 (.t 20) (.t 22)), none⟩, {}⟩, ⟨⟨some 5, (.mov (.t 23)), none⟩, {}⟩] none)
def law03_times_C8 : TC := (.seq (.seq (.rg [⟨⟨some 15, (.mov (.t 0)), none⟩, {}⟩, ⟨⟨some 16, (.call (.c (.fn 26 [])) [(.t 15), (.c (I 3))]), none⟩, {}⟩, ⟨⟨some 17, (.bin .eql (.t 16) (.c (I 0))), none⟩, {}⟩] none) law03_times_C12) law03_times_C13)
def law03_times_C9 : TC := (.rg [⟨⟨some 13, (.mov (.t 6)), none⟩, {}⟩, ⟨⟨some 14, (.bin .add (.t 13) (.c (I 1))), none⟩, {}⟩, ⟨⟨some 6, (.mov (.t 14)), none⟩, {}⟩] none)
def law03_times_C5 : TC := (.seq (.block 1 (.seq (.rg [⟨⟨some 7, (.mov (.c (I 1099511627776))), none⟩, {}⟩] none) law03_times_C8)) law03_times_C9)
def law03_times_C1 : TC := (.seq (.seq (.rg [⟨⟨some 8, (.mov (.t 6)), none⟩, {}⟩, ⟨⟨some 9, (.fadr 0 (.t 3)), none⟩, {}⟩, ⟨⟨some 10, (.load false 1 (.t 9)), none⟩, {}⟩, ⟨⟨some 11, (.len (.t 10)), none⟩, {}⟩, ⟨⟨some 12, (.bin .lss (.t 8) (.t 11)), none⟩, {}⟩] none) law03_times_C4) law03_times_C5)
def law03_times_C14 : TC := .ret
def law03_times_C10 : TC := (.pre [.frz 4, .frzo 0, .keep [4], .out [0]] law03_times_C14)
def law03_times_C6 : TC := (.seq (.rg [⟨⟨some 24, (.mov (.t 5)), none⟩, {}⟩, ⟨⟨some 4, (.mov (.t 24)), none⟩, {}⟩] none) law03_times_C10)
def law03_times_C2 : TC := (.pre [.frz 5] law03_times_C6)
def law03_times_C15 : TC := (.block 0 (.loop law03_times_N1 law03_times_C1))
def law03_times_C11 : TC := (.seq (.seq (.rg [⟨⟨some 6, (.mov (.c (I 0))), none⟩, {}⟩] none) law03_times_C15) law03_times_C2)
def law03_times_C7 : TC := (.seq (.rg [⟨⟨some 5, (.mov (.c (.lst true []))), none⟩, {}⟩] none) law03_times_C11)
def law03_times_C3 : TC := (.seq (.rg [⟨⟨some 3, (.box (.t 1)), none⟩, {}⟩, ⟨⟨some 4, (.mov (.c (.lst true []))), none⟩, {}⟩] none) law03_times_C7)
def law03_times_E (N : Nat) : List (Nat × Ent) := [(26, sfE [none, none] [.b (.v G_Codes), .v (.int .i64)] [.v (.int .i64)] (fun x => draw_Codes_Next N x.1 x.2))]
def law03_times_L1 (N : Nat) (n : Nat) (x1 : Int) (x2 : List Int) (x3 : Int) (x4 : List T_Place) (x5 : List T_Road) (x6 : List Int) : Option ((List Int) × T_Codes) := loopN (normI 1 law03_times_N1) (run (law03_times_E N) N 1 law03_times_C1) n ⟨[(0, .ptr 0 0 0), (3, .ptr 1 0 0), (5, .whole 2), (6, .int .i64 x1)], [some (.box 0 [.lst false (.int .u8) x2, .int .i64 x3]), some (.box 0 [.lst false G_Place x4, .lst false G_Road x5]), some (.arr (.int .i64) x6)]⟩ (blkK 0 (seqK (run (law03_times_E N) N 1 law03_times_C2) (finS law03_times_NE [(.t 4)] [.b (.v G_Codes), .v G_Mine] [.v (.list (.int .i64))] 1 1)))
theorem law03_times_L1_zero (N : Nat) (x1 : Int) (x2 : List Int) (x3 : Int) (x4 : List T_Place) (x5 : List T_Road) (x6 : List Int) : law03_times_L1 N 0 x1 x2 x3 x4 x5 x6 = none := rfl
theorem law03_times_L1_succ (N : Nat) (n1 : Nat) (x1 : Int) (x2 : List Int) (x3 : Int) (x4 : List T_Place) (x5 : List T_Road) (x6 : List Int) : law03_times_L1 N (n1 + 1) x1 x2 x3 x4 x5 x6 =
  bif (decide (x1 < (x4.length : Int))) then
    Option.bind (draw_Codes_Next N (x2, x3) 3) fun r7 =>
    bif (r7.1 == 0) then
      Option.bind (draw_Codes_Next N r7.2 300) fun r8 =>
      bif fitsB (x6.length + 1) 8 then
      law03_times_L1 N n1 (W (x1 + 1)) r8.2.1 r8.2.2 x4 x5 (x6 ++ [r8.1])
      else none
    else
      bif fitsB (x6.length + 1) 8 then
      law03_times_L1 N n1 (W (x1 + 1)) r7.2.1 r7.2.2 x4 x5 (x6 ++ [1099511627776])
      else none
  else
    some (x6, (x2, x3)) := by kernel_rfl
def law03_times (N : Nat) (a0 : T_Codes) (a1 : T_Mine) : Option ((List Int) × T_Codes) :=
  law03_times_L1 N N 0 a0.1 a0.2 a1.1 a1.2 []
theorem law03_times_fn : FnOK Try.prog 21 25 (fun _ : Nat => false) law03_times_C3.er [(.t 4)] := FnOK.mk' Try.func21 (by kernel_rfl) (by kernel_rfl) (by kernel_rfl) (by kernel_rfl) (by kernel_rfl)
theorem law03_times_envok (N : Nat) : EnvOK Try.prog (law03_times_E N) := .cons (sfE_ok (draw_Codes_Next_sf N)) (.nil)
theorem law03_times_sf (N : Nat) : SFOK Try.prog 21 [none, none] [.b (.v G_Codes), .v G_Mine] [.v (.list (.int .i64))] (fun x => law03_times N x.1 x.2) := sfOK (N := N) (p := 1) (q := 1) (ns := law03_times_NE) mixed law03_times_fn (law03_times_envok N) (TC.noh_ok (by kernel_rfl)) rfl rfl rfl (fun x => by kernel_rfl)
/-! ref01_Copy -/
def ref01_Copy_NE : List NS := [.ownc 2 0 G_Place, .ownc 2 1 G_Road, .keep [2], .out []]
def ref01_Copy_C4 : TC := .ret
def ref01_Copy_C3 : TC := (.pre [.ownc 2 0 G_Place, .ownc 2 1 G_Road, .keep [2], .out []] ref01_Copy_C4)
def ref01_Copy_C2 : TC := (.seq (.pre [.ghost G_Place, .ghost G_Road] (.rg [⟨⟨some 3, (.fadr 0 (.t 1)), none⟩, {}⟩, ⟨⟨some 4, (.load false 1 (.t 3)), none⟩, {}⟩, ⟨⟨some 5, (.app 2 16 (.c (.lst true [])) (.t 4)), none⟩, ⟨.unit, some 2⟩⟩, ⟨⟨some 6, (.fadr 1 (.t 1)), none⟩, {}⟩, ⟨⟨some 7, (.load false 1 (.t 6)), none⟩, {}⟩,
  ⟨⟨some 8, (.app 10 72 (.c (.lst true [])) (.t 7)), none⟩, ⟨.unit, some 3⟩⟩, ⟨⟨some 9, (.build [(.lst true []), (.lst true [])] [(0, (1, (.t 5))), (1, (1, (.t 8)))]), none⟩, {}⟩, ⟨⟨none, (.store 2 (.t 2) (.t 9)), none⟩, {}⟩] (some [(2, 3), (2, 4)]))) ref01_Copy_C3)
def ref01_Copy_C1 : TC := (.seq (.rg [⟨⟨some 1, (.box (.t 0)), none⟩, {}⟩, ⟨⟨some 2, (.alloc [(.lst true []), (.lst true [])]), none⟩, {}⟩] none) ref01_Copy_C2)
def ref01_Copy_E (N : Nat) : List (Nat × Ent) := []
def ref01_Copy (N : Nat) (a0 : T_Mine) : Option (T_Mine × Unit) :=
  bif fitsB a0.1.length 16 then
  bif fitsB a0.2.length 72 then
  some (a0, ())
  else none
  else none
theorem ref01_Copy_fn : FnOK Try.prog 22 10 (fun _ : Nat => false) ref01_Copy_C1.er [(.cell 2 true 2)] := FnOK.mk' Try.func22 (by kernel_rfl) (by kernel_rfl) (by kernel_rfl) (by kernel_rfl) (by kernel_rfl)
theorem ref01_Copy_envok (N : Nat) : EnvOK Try.prog (ref01_Copy_E N) := .nil
theorem ref01_Copy_sf (N : Nat) : SFOK Try.prog 22 [none] [.v G_Mine] [.o (.p (.a G_Place) (.a G_Road))] (fun x => ref01_Copy N x) := sfOK (N := N) (p := 0) (q := 0) (ns := ref01_Copy_NE) mixed ref01_Copy_fn (ref01_Copy_envok N) (TC.noh_ok (by kernel_rfl)) rfl rfl rfl (fun x => by kernel_rfl)
/-! law03_WalkCloses -/
def law03_WalkCloses_N1 : List NS := [.wk 9 (.list (.int .i64)), .wk 10 (.list (.int .i64)), .wk 13 (.list (.int .i64)), .wk 15 (.list (.int .i64)), .keep [9, 10, 13, 15, 16], .cmp]
def law03_WalkCloses_C5 : TC := (.cond (.t 90) .skip (.exit 0))
def law03_WalkCloses_C14 : TC := .ret
def law03_WalkCloses_C10 : TC := (.cond (.t 123) (.seq (.rg [⟨⟨some 6, (.mov (.c (B false))), none⟩, {}⟩] none) law03_WalkCloses_C14) .skip)
def law03_WalkCloses_C11 : TC := (.rg [⟨⟨some 91, (.mov (.t 16)), none⟩, {}⟩, ⟨⟨some 92, (.bin .add (.t 91) (.c (I 1))), none⟩, {}⟩, ⟨⟨some 16, (.mov (.t 92)), none⟩, {}⟩] none)
def law03_WalkCloses_C6 : TC := (.seq (.block 1 (.seq (.rg [⟨⟨some 93, (.mov (.t 10)), none⟩, {}⟩, ⟨⟨some 94, (.mov (.t 16)), none⟩, {}⟩, ⟨⟨some 95, (.iadrS 1 (.t 93) (.t 94)), none⟩, {}⟩, ⟨⟨some 96, (.load false 1 (.t 95)), none⟩, {}⟩, ⟨⟨some 97, (.mov (.t 9)), none⟩, {}⟩, ⟨⟨some 98, (.mov (.t 16)), none⟩, {}⟩, ⟨⟨some 99, (.iadrS
  1 (.t 97) (.t 98)), none⟩, {}⟩, ⟨⟨some 100, (.load false 1 (.t 99)), none⟩, {}⟩, ⟨⟨some 101, (.bin .gtr (.t 96) (.t 100)), none⟩, {}⟩, ⟨⟨some 102, (.mov (.t 101)), none⟩, {}⟩, ⟨⟨some 103, (.mov (.t 13)), some (102, false)⟩, {}⟩, ⟨⟨some 104, (.mov (.t 16)), some (102, false)⟩, {}⟩, ⟨⟨some 105,
  (.iadrS 1 (.t 103) (.t 104)), some (102, false)⟩, {}⟩, ⟨⟨some 106, (.load false 1 (.t 105)), some (102, false)⟩, {}⟩, ⟨⟨some 107, (.mov (.t 10)), some (102, false)⟩, {}⟩, ⟨⟨some 108, (.mov (.t 16)), some (102, false)⟩, {}⟩, ⟨⟨some 109, (.iadrS 1 (.t 107) (.t 108)), some (102, false)⟩, {}⟩, ⟨⟨some
  110, (.load false 1 (.t 109)), some (102, false)⟩, {}⟩, ⟨⟨some 111, (.bin .gtr (.t 106) (.t 110)), some (102, false)⟩, {}⟩, ⟨⟨some 112, (.pick (.t 102) (.c (B true)) (.t 111)), none⟩, {}⟩, ⟨⟨some 113, (.mov (.t 112)), none⟩, {}⟩, ⟨⟨some 114, (.mov (.t 15)), some (113, false)⟩, {}⟩, ⟨⟨some 115,
  (.mov (.t 16)), some (113, false)⟩, {}⟩, ⟨⟨some 116, (.iadrS 1 (.t 114) (.t 115)), some (113, false)⟩, {}⟩, ⟨⟨some 117, (.load false 1 (.t 116)), some (113, false)⟩, {}⟩, ⟨⟨some 118, (.mov (.t 10)), some (113, false)⟩, {}⟩, ⟨⟨some 119, (.mov (.t 16)), some (113, false)⟩, {}⟩, ⟨⟨some 120, (.iadrS 1
  (.t 118) (.t 119)), some (113, false)⟩, {}⟩, ⟨⟨some 121, (.load false 1 (.t 120)), some (113, false)⟩, {}⟩, ⟨⟨some 122, (.bin .lss (.t 117) (.t 121)), some (113, false)⟩, {}⟩, ⟨⟨some 123, (.pick (.t 113) (.c (B true)) (.t 122)), none⟩, {}⟩] (some [])) law03_WalkCloses_C10)) law03_WalkCloses_C11)
def law03_WalkCloses_C1 : TC := (.seq (.seq (.rg [⟨⟨some 87, (.mov (.t 16)), none⟩, {}⟩, ⟨⟨some 88, (.mov (.t 9)), none⟩, {}⟩, ⟨⟨some 89, (.len (.t 88)), none⟩, {}⟩, ⟨⟨some 90, (.bin .lss (.t 87) (.t 89)), none⟩, {}⟩] none) law03_WalkCloses_C5) law03_WalkCloses_C6)
def law03_WalkCloses_C7 : TC := .ret
def law03_WalkCloses_C2 : TC := (.seq (.rg [⟨⟨some 124, (.call (.c (.fn 16 [])) []), none⟩, {}⟩, ⟨⟨some 6, (.mov (.t 124)), none⟩, {}⟩] none) law03_WalkCloses_C7)
def law03_WalkCloses_C21 : TC := (.cond (.t 62) (.rg [⟨⟨some 63, (.fadr 1 (.t 14)), none⟩, {}⟩, ⟨⟨some 64, (.load false 1 (.t 63)), none⟩, {}⟩, ⟨⟨some 65, (.mov (.t 2)), none⟩, {}⟩, ⟨⟨some 66, (.fadr 1 (.t 14)), none⟩, {}⟩, ⟨⟨some 67, (.load false 1 (.t 66)), none⟩, {}⟩, ⟨⟨some 68, (.len (.t 67)), none⟩, {}⟩, ⟨⟨some 69, (.call (.c
  (.fn 11 [])) [(.t 65), (.t 68)]), none⟩, {}⟩, ⟨⟨some 70, (.iadrS 10 (.t 64) (.t 69)), none⟩, {}⟩, ⟨⟨some 71, (.fadr 5 (.t 70)), none⟩, {}⟩, ⟨⟨none, (.store 1 (.t 71) (.c (B true))), none⟩, {}⟩] (some [(0, 6), (1, 6)])) .skip)
def law03_WalkCloses_C29 : TC := .ret
def law03_WalkCloses_C27 : TC := (.cond (.t 86) (.seq (.rg [⟨⟨some 6, (.mov (.c (B false))), none⟩, {}⟩] none) law03_WalkCloses_C29) .skip)
def law03_WalkCloses_C30 : TC := (.block 0 (.loop law03_WalkCloses_N1 law03_WalkCloses_C1))
def law03_WalkCloses_C28 : TC := (.seq (.seq (.rg [⟨⟨some 16, (.mov (.c (I 0))), none⟩, {}⟩] none) law03_WalkCloses_C30) law03_WalkCloses_C2)
def law03_WalkCloses_C25 : TC := (.seq (.seq (.rg [⟨⟨some 75, (.mov (.t 13)), none⟩, {}⟩, ⟨⟨some 76, (.len (.t 75)), none⟩, {}⟩, ⟨⟨some 77, (.mov (.t 9)), none⟩, {}⟩, ⟨⟨some 78, (.len (.t 77)), none⟩, {}⟩, ⟨⟨some 79, (.bin .neq (.t 76) (.t 78)), none⟩, {}⟩, ⟨⟨some 80, (.mov (.t 79)), none⟩, {}⟩, ⟨⟨some 81, (.mov (.t 15)), some (80,
  false)⟩, {}⟩, ⟨⟨some 82, (.len (.t 81)), some (80, false)⟩, {}⟩, ⟨⟨some 83, (.mov (.t 9)), some (80, false)⟩, {}⟩, ⟨⟨some 84, (.len (.t 83)), some (80, false)⟩, {}⟩, ⟨⟨some 85, (.bin .neq (.t 82) (.t 84)), some (80, false)⟩, {}⟩, ⟨⟨some 86, (.pick (.t 80) (.c (B true)) (.t 85)), none⟩, {}⟩] none)
  law03_WalkCloses_C27) law03_WalkCloses_C28)
def law03_WalkCloses_C22 : TC := (.seq (.rgw [([⟨⟨some 72, (.load true 2 (.t 14)), none⟩, {}⟩, ⟨⟨some 73, (.mov (.t 9)), none⟩, {}⟩], [.frz 58]), ([⟨⟨some 74, (.call (.c (.fn 20 [])) [(.t 72), (.t 73)]), none⟩, {}⟩, ⟨⟨some 15, (.mov (.t 74)), none⟩, {}⟩], [])]) law03_WalkCloses_C25)
def law03_WalkCloses_C19 : TC := (.seq (.seq (.rg [⟨⟨some 59, (.fadr 1 (.t 14)), none⟩, {}⟩, ⟨⟨some 60, (.load false 1 (.t 59)), none⟩, {}⟩, ⟨⟨some 61, (.len (.t 60)), none⟩, {}⟩, ⟨⟨some 62, (.bin .gtr (.t 61) (.c (I 0))), none⟩, {}⟩] none) law03_WalkCloses_C21) law03_WalkCloses_C22)
def law03_WalkCloses_C17 : TC := (.seq (.rg [⟨⟨some 57, (.load true 2 (.t 8)), none⟩, {}⟩, ⟨⟨some 58, (.call (.c (.fn 22 [])) [(.t 57)]), none⟩, {}⟩, ⟨⟨some 14, (.alloc [(.lst true []), (.lst true [])]), none⟩, {}⟩, ⟨⟨none, (.store 2 (.t 14) (.t 58)), none⟩, {}⟩] none) law03_WalkCloses_C19)
def law03_WalkCloses_C15 : TC := (.seq (.rgw [([⟨⟨some 54, (.load true 2 (.t 8)), none⟩, {}⟩, ⟨⟨some 55, (.mov (.t 11)), none⟩, {}⟩], [.frz 41]), ([⟨⟨some 56, (.call (.c (.fn 20 [])) [(.t 54), (.t 55)]), none⟩, {}⟩, ⟨⟨some 13, (.mov (.t 56)), none⟩, {}⟩], [])]) law03_WalkCloses_C17)
def law03_WalkCloses_C12 : TC := (.seq (.rg [⟨⟨some 46, (.mov (.t 11)), none⟩, {}⟩, ⟨⟨some 47, (.mov (.t 12)), none⟩, {}⟩, ⟨⟨some 48, (.mov (.t 11)), none⟩, {}⟩, ⟨⟨some 49, (.mov (.t 12)), none⟩, {}⟩, ⟨⟨some 50, (.iadrS 1 (.t 48) (.t 49)), none⟩, {}⟩, ⟨⟨some 51, (.load false 1 (.t 50)), none⟩, {}⟩, ⟨⟨some 52, (.bin .quo (.t 51) (.c
  (I 2))), none⟩, {}⟩, ⟨⟨some 53, (.iadrS 1 (.t 46) (.t 47)), none⟩, {}⟩, ⟨⟨none, (.store 1 (.t 53) (.t 52)), none⟩, {}⟩] none) law03_WalkCloses_C15)
def law03_WalkCloses_C8 : TC := (.seq (.rg [⟨⟨some 42, (.mov (.t 1)), none⟩, {}⟩, ⟨⟨some 43, (.mov (.t 9)), none⟩, {}⟩, ⟨⟨some 44, (.len (.t 43)), none⟩, {}⟩, ⟨⟨some 45, (.call (.c (.fn 11 [])) [(.t 42), (.t 44)]), none⟩, {}⟩, ⟨⟨some 12, (.mov (.t 45)), none⟩, {}⟩] none) law03_WalkCloses_C12)
def law03_WalkCloses_C3 : TC := (.seq (.pre [.ghost (.int .i64)] (.rg [⟨⟨some 40, (.mov (.t 9)), none⟩, {}⟩, ⟨⟨some 41, (.app 1 8 (.c (.lst true [])) (.t 40)), none⟩, ⟨.unit, some 1⟩⟩, ⟨⟨some 11, (.mov (.t 41)), none⟩, {}⟩] none)) law03_WalkCloses_C8)
def law03_WalkCloses_C26 : TC := .ret
def law03_WalkCloses_C23 : TC := (.cond (.t 39) (.seq (.rg [⟨⟨some 6, (.mov (.c (B false))), none⟩, {}⟩] none) law03_WalkCloses_C26) .skip)
def law03_WalkCloses_C24 : TC := (.join [.wk 9 (.list (.int .i64)), .wk 10 (.list (.int .i64)), .keep [1, 2, 8, 9, 10], .cmp] law03_WalkCloses_C3)
def law03_WalkCloses_C20 : TC := (.seq (.seq (.rg [⟨⟨some 27, (.mov (.t 10)), none⟩, {}⟩, ⟨⟨some 28, (.len (.t 27)), none⟩, {}⟩, ⟨⟨some 29, (.mov (.t 9)), none⟩, {}⟩, ⟨⟨some 30, (.len (.t 29)), none⟩, {}⟩, ⟨⟨some 31, (.bin .neq (.t 28) (.t 30)), none⟩, {}⟩, ⟨⟨some 32, (.mov (.t 31)), none⟩, {}⟩, ⟨⟨some 33, (.load true 2 (.t 8)),
  some (32, false)⟩, {}⟩, ⟨⟨some 34, (.mov (.t 10)), some (32, false)⟩, {}⟩, ⟨⟨some 35, (.call (.c (.fn 20 [])) [(.t 33), (.t 34)]), some (32, false)⟩, {}⟩, ⟨⟨some 36, (.mov (.t 10)), some (32, false)⟩, {}⟩, ⟨⟨some 37, (.call (.c (.fn 19 [])) [(.t 35), (.t 36)]), some (32, false)⟩, {}⟩, ⟨⟨some 38,
  (.un .not (.t 37)), some (32, false)⟩, {}⟩, ⟨⟨some 39, (.pick (.t 32) (.c (B true)) (.t 38)), none⟩, {}⟩] none) law03_WalkCloses_C23) law03_WalkCloses_C24)
def law03_WalkCloses_C18 : TC := (.seq (.rg [⟨⟨some 24, (.load true 2 (.t 8)), none⟩, {}⟩, ⟨⟨some 25, (.mov (.t 9)), none⟩, {}⟩, ⟨⟨some 26, (.call (.c (.fn 20 [])) [(.t 24), (.t 25)]), none⟩, {}⟩, ⟨⟨some 10, (.mov (.t 26)), none⟩, {}⟩] none) law03_WalkCloses_C20)
def law03_WalkCloses_C16 : TC := (.seq (.rg [⟨⟨some 21, (.mov (.t 7)), none⟩, {}⟩, ⟨⟨some 22, (.load true 2 (.t 8)), none⟩, {}⟩, ⟨⟨some 23, (.call (.c (.fn 21 [])) [(.t 21), (.t 22)]), none⟩, {}⟩, ⟨⟨some 9, (.mov (.t 23)), none⟩, {}⟩] none) law03_WalkCloses_C18)
def law03_WalkCloses_C13 : TC := (.seq (.rg [⟨⟨some 19, (.mov (.t 7)), none⟩, {}⟩, ⟨⟨some 20, (.call (.c (.fn 10 [])) [(.t 19)]), none⟩, {}⟩, ⟨⟨some 8, (.alloc [(.lst true []), (.lst true [])]), none⟩, {}⟩, ⟨⟨none, (.store 2 (.t 8) (.t 20)), none⟩, {}⟩] none) law03_WalkCloses_C16)
def law03_WalkCloses_C9 : TC := (.seq (.rg [⟨⟨some 17, (.mov (.t 0)), none⟩, {}⟩, ⟨⟨some 18, (.call (.c (.fn 9 [])) [(.t 17)]), none⟩, {}⟩, ⟨⟨some 7, (.mov (.t 18)), none⟩, {}⟩] none) law03_WalkCloses_C13)
def law03_WalkCloses_C4 : TC := (.seq (.rg [⟨⟨some 6, (.mov (.c (B false))), none⟩, {}⟩] none) law03_WalkCloses_C9)
def law03_WalkCloses_E (N : Nat) : List (Nat × Ent) := [(9, sfE [none] [.v (.list (.int .u8))] [.n G_Codes] (fun x => draw_New N x)), (10, sfE [none] [.b (.v G_Codes)] [.v G_Mine] (fun x => draw_Codes_Mine N x)), (21, sfE [none, none] [.b (.v G_Codes), .v G_Mine] [.v (.list (.int .i64))] (fun x => law03_times N x.1 x.2)), (20, pureE [G_Mine, (.list (.int .i64))] [(.list (.int .i64))] (fun x => walk_Least N x.1 x.2)), (19, pureE [(.list (.int .i64)), (.list (.int .i64))] [.bool] (fun x => ref01_Ints N x.1 x.2)), (11, pureE [(.int .i64), (.int .i64)] [(.int .i64)] (fun x => draw_Mod N x.1 x.2)), (22, sfE [none] [.v G_Mine] [.o (.p (.a G_Place) (.a G_Road))] (fun x => ref01_Copy N x)), (16, pureE [] [.bool] (fun x => law03_awake N))]
def law03_WalkCloses_L1 (N : Nat) (n : Nat) (x22 : List Int) (x23 : List Int) (x24 : List Int) (x25 : List Int) (x26 : Int) : Option Bool := loopN (normI 0 law03_WalkCloses_N1) (run (law03_WalkCloses_E N) N 0 law03_WalkCloses_C1) n ⟨[(9, .lst false (.int .i64) x22), (10, .lst false (.int .i64) x23), (13, .lst false (.int .i64) x24), (15, .lst false (.int .i64) x25), (16, .int .i64 x26)], []⟩ (blkK 0 (seqK (run (law03_WalkCloses_E N) N 0 law03_WalkCloses_C2) (fin [(.t 6)] [.bool])))
def law03_WalkCloses_J1 (N : Nat) (x7 : Int) (x8 : Int) (x9 : List Int) (x10 : List Int) (x11 : List T_Place) (x12 : List T_Road) : Option Bool := joinN (run (law03_WalkCloses_E N) N 0 law03_WalkCloses_C3) N ⟨[(1, .int .i64 x7), (2, .int .i64 x8), (8, .ptr 0 0 0), (9, .lst false (.int .i64) x9), (10, .lst false (.int .i64) x10)], [some (.box 0 [.lst false G_Place x11, .lst false G_Road x12])]⟩ (fin [(.t 6)] [.bool])
theorem law03_WalkCloses_L1_zero (N : Nat) (x22 : List Int) (x23 : List Int) (x24 : List Int) (x25 : List Int) (x26 : Int) : law03_WalkCloses_L1 N 0 x22 x23 x24 x25 x26 = none := rfl
theorem law03_WalkCloses_L1_succ (N : Nat) (n1 : Nat) (x22 : List Int) (x23 : List Int) (x24 : List Int) (x25 : List Int) (x26 : Int) : law03_WalkCloses_L1 N (n1 + 1) x22 x23 x24 x25 x26 =
  bif (decide (x26 < (x22.length : Int))) then
    bif inB x26 x23.length then
    bif inB x26 x22.length then
    bif (decide ((x23.getD x26.toNat 0) > (x22.getD x26.toNat 0))) then
      some false
    else
      bif inB x26 x24.length then
      bif inB x26 x23.length then
      bif (decide ((x24.getD x26.toNat 0) > (x23.getD x26.toNat 0))) then
        some false
      else
        bif inB x26 x25.length then
        bif inB x26 x23.length then
        bif (decide ((x25.getD x26.toNat 0) < (x23.getD x26.toNat 0))) then
          some false
        else
          law03_WalkCloses_L1 N n1 x22 x23 x24 x25 (W (x26 + 1))
        else none
        else none
      else none
      else none
    else none
    else none
  else
    Option.bind (law03_awake N) fun r32 =>
    some r32 := by kernel_rfl
theorem law03_WalkCloses_J1_eqM (N JM : Nat) (x7 : Int) (x8 : Int) (x9 : List Int) (x10 : List Int) (x11 : List T_Place) (x12 : List T_Road) : joinN (run (law03_WalkCloses_E N) N 0 law03_WalkCloses_C3) (JM + 1) ⟨[(1, .int .i64 x7), (2, .int .i64 x8), (8, .ptr 0 0 0), (9, .lst false (.int .i64) x9), (10, .lst false (.int .i64) x10)], [some (.box 0 [.lst false G_Place x11, .lst false G_Road x12])]⟩ (fin [(.t 6)] [.bool]) =
  bif fitsB x9.length 8 then
  Option.bind (draw_Mod N x7 (x9.length : Int)) fun r13 =>
  bif inB r13 x9.length then
  bif inB r13 x9.length then
  Option.bind (walk_Least N (x11, x12) (x9.set r13.toNat (W ((x9.getD r13.toNat 0).tdiv 2)))) fun r16 =>
  Option.bind (ref01_Copy N (x11, x12)) fun r17 =>
  bif (decide ((r17.1.2.length : Int) > 0)) then
    Option.bind (draw_Mod N x8 (r17.1.2.length : Int)) fun r18 =>
    bif inB r18 r17.1.2.length then
    let v19 := r17.1.2.getD r18.toNat D_Road
    Option.bind (walk_Least N (r17.1.1, (r17.1.2.set r18.toNat (v19.1, (v19.2.1, (v19.2.2.1, (v19.2.2.2.1, (v19.2.2.2.2.1, (true, v19.2.2.2.2.2.2)))))))) x9) fun r21 =>
    bif ((r16.length : Int) != (x9.length : Int)) then
      some false
    else
      bif ((r21.length : Int) != (x9.length : Int)) then
        some false
      else
        law03_WalkCloses_L1 N N x9 x10 r16 r21 0
    else none
  else
    Option.bind (walk_Least N r17.1 x9) fun r38 =>
    bif ((r16.length : Int) != (x9.length : Int)) then
      some false
    else
      bif ((r38.length : Int) != (x9.length : Int)) then
        some false
      else
        law03_WalkCloses_L1 N N x9 x10 r16 r38 0
  else none
  else none
  else none := by kernel_rfl
theorem law03_WalkCloses_J1_eq (N : Nat) (x7 : Int) (x8 : Int) (x9 : List Int) (x10 : List Int) (x11 : List T_Place) (x12 : List T_Road) : law03_WalkCloses_J1 (N + 1) x7 x8 x9 x10 x11 x12 =
  bif fitsB x9.length 8 then
  Option.bind (draw_Mod (N + 1) x7 (x9.length : Int)) fun r13 =>
  bif inB r13 x9.length then
  bif inB r13 x9.length then
  Option.bind (walk_Least (N + 1) (x11, x12) (x9.set r13.toNat (W ((x9.getD r13.toNat 0).tdiv 2)))) fun r16 =>
  Option.bind (ref01_Copy (N + 1) (x11, x12)) fun r17 =>
  bif (decide ((r17.1.2.length : Int) > 0)) then
    Option.bind (draw_Mod (N + 1) x8 (r17.1.2.length : Int)) fun r18 =>
    bif inB r18 r17.1.2.length then
    let v19 := r17.1.2.getD r18.toNat D_Road
    Option.bind (walk_Least (N + 1) (r17.1.1, (r17.1.2.set r18.toNat (v19.1, (v19.2.1, (v19.2.2.1, (v19.2.2.2.1, (v19.2.2.2.2.1, (true, v19.2.2.2.2.2.2)))))))) x9) fun r21 =>
    bif ((r16.length : Int) != (x9.length : Int)) then
      some false
    else
      bif ((r21.length : Int) != (x9.length : Int)) then
        some false
      else
        law03_WalkCloses_L1 (N + 1) (N + 1) x9 x10 r16 r21 0
    else none
  else
    Option.bind (walk_Least (N + 1) r17.1 x9) fun r38 =>
    bif ((r16.length : Int) != (x9.length : Int)) then
      some false
    else
      bif ((r38.length : Int) != (x9.length : Int)) then
        some false
      else
        law03_WalkCloses_L1 (N + 1) (N + 1) x9 x10 r16 r38 0
  else none
  else none
  else none := law03_WalkCloses_J1_eqM (N + 1) N x7 x8 x9 x10 x11 x12
def law03_WalkCloses (N : Nat) (a0 : List Int) (a1 : Int) (a2 : Int) : Option Bool :=
  Option.bind (draw_New N a0) fun r1 =>
  Option.bind (draw_Codes_Mine N r1.1) fun r2 =>
  Option.bind (law03_times N r2.2 r2.1) fun r3 =>
  Option.bind (walk_Least N r2.1 r3.1) fun r4 =>
  bif ((r4.length : Int) != (r3.1.length : Int)) then
    some false
  else
    Option.bind (walk_Least N r2.1 r4) fun r5 =>
    Option.bind (ref01_Ints N r5 r4) fun r6 =>
    bif (!r6) then
      some false
    else
      law03_WalkCloses_J1 N a1 a2 r3.1 r4 r2.1.1 r2.1.2
theorem law03_WalkCloses_fn : FnOK Try.prog 6 125 (fun _ : Nat => false) law03_WalkCloses_C4.er [(.t 6)] := FnOK.mk' Try.func6 (by kernel_rfl) (by kernel_rfl) (by kernel_rfl) (by kernel_rfl) (by kernel_rfl)
theorem law03_WalkCloses_envok (N : Nat) : EnvOK Try.prog (law03_WalkCloses_E N) := .cons (sfE_ok (draw_New_sf N)) (.cons (sfE_ok (draw_Codes_Mine_sf N)) (.cons (sfE_ok (law03_times_sf N)) (.cons (pureE_ok (walk_Least_pure N)) (.cons (pureE_ok (ref01_Ints_pure N)) (.cons (pureE_ok (draw_Mod_pure N)) (.cons (sfE_ok (ref01_Copy_sf N)) (.cons (pureE_ok (law03_awake_pure N)) (.nil))))))))
theorem law03_WalkCloses_pure (N : Nat) : PureOK Try.prog 6 [(.list (.int .u8)), (.int .i64), (.int .i64)] [.bool] (fun x => law03_WalkCloses N x.1 x.2.1 x.2.2) := pureOK (N := N) mixed law03_WalkCloses_fn (law03_WalkCloses_envok N) (TC.noh_ok (by kernel_rfl)) rfl (fun x => by kernel_rfl)
/-! law03_WalkThrough -/
def law03_WalkThrough_C7 : TC := .ret
def law03_WalkThrough_C5 : TC := (.seq (.rg [⟨⟨some 98, (.mov (.t 28)), none⟩, {}⟩, ⟨⟨some 99, (.bin .eql (.t 98) (.c (I (-1)))), none⟩, {}⟩, ⟨⟨some 100, (.mov (.t 29)), none⟩, {}⟩, ⟨⟨some 101, (.bin .eql (.t 100) (.c (I (-1)))), none⟩, {}⟩, ⟨⟨some 102, (.beq false (.t 99) (.t 101)), none⟩, {}⟩, ⟨⟨some 103, (.mov (.t 102)), none⟩,
  {}⟩, ⟨⟨some 104, (.mov (.t 28)), some (103, true)⟩, {}⟩, ⟨⟨some 105, (.bin .eql (.t 104) (.c (I (-1)))), some (103, true)⟩, {}⟩, ⟨⟨some 106, (.mov (.t 105)), some (103, true)⟩, {}⟩, ⟨⟨some 107, (.mov (.t 28)), some (106, false)⟩, {}⟩, ⟨⟨some 108, (.bin .geq (.t 107) (.c (I 1))), some (106, false)⟩,
  {}⟩, ⟨⟨some 109, (.mov (.t 108)), some (106, false)⟩, {}⟩, ⟨⟨some 110, (.mov (.t 29)), some (109, true)⟩, {}⟩, ⟨⟨some 111, (.mov (.t 28)), some (109, true)⟩, {}⟩, ⟨⟨some 112, (.bin .geq (.t 110) (.t 111)), some (109, true)⟩, {}⟩, ⟨⟨some 113, (.pick (.t 109) (.t 112) (.c (B false))), some (106,
  false)⟩, {}⟩, ⟨⟨some 114, (.mov (.t 113)), some (106, false)⟩, {}⟩, ⟨⟨some 115, (.mov (.t 29)), some (114, true)⟩, {}⟩, ⟨⟨some 116, (.mov (.t 28)), some (114, true)⟩, {}⟩, ⟨⟨some 117, (.bin .mul (.c (I 3)) (.t 116)), some (114, true)⟩, {}⟩, ⟨⟨some 118, (.bin .leq (.t 115) (.t 117)), some (114,
  true)⟩, {}⟩, ⟨⟨some 119, (.pick (.t 114) (.t 118) (.c (B false))), some (106, false)⟩, {}⟩, ⟨⟨some 120, (.pick (.t 106) (.c (B true)) (.t 119)), some (103, true)⟩, {}⟩, ⟨⟨some 121, (.pick (.t 103) (.t 120) (.c (B false))), none⟩, {}⟩, ⟨⟨some 122, (.mov (.t 121)), none⟩, {}⟩, ⟨⟨some 123, (.call (.c
  (.fn 16 [])) []), some (122, true)⟩, {}⟩, ⟨⟨some 124, (.pick (.t 122) (.t 123) (.c (B false))), none⟩, {}⟩, ⟨⟨some 12, (.mov (.t 124)), none⟩, {}⟩] none) law03_WalkThrough_C7)
def law03_WalkThrough_C3 : TC := (.seq (.rg [⟨⟨some 90, (.load true 2 (.t 13)), none⟩, {}⟩, ⟨⟨some 91, (.mov (.t 27)), none⟩, {}⟩, ⟨⟨some 92, (.mov (.t 5)), none⟩, {}⟩, ⟨⟨some 93, (.call (.c (.fn 12 [])) [(.t 90), (.t 91), (.t 92)]), none⟩, {}⟩, ⟨⟨some 94, (.load true 2 (.t 13)), none⟩, {}⟩, ⟨⟨some 95, (.mov (.t 27)), none⟩, {}⟩,
  ⟨⟨some 96, (.mov (.t 5)), none⟩, {}⟩, ⟨⟨some 97, (.call (.c (.fn 14 [])) [(.t 94), (.t 95), (.t 96)]), none⟩, {}⟩, ⟨⟨some 28, (.mov (.t 93)), none⟩, {}⟩, ⟨⟨some 29, (.mov (.t 97)), none⟩, {}⟩] (some [(3, 4)])) law03_WalkThrough_C5)
def law03_WalkThrough_C1 : TC := (.seq (.rg [⟨⟨some 84, (.mov (.t 4)), none⟩, {}⟩, ⟨⟨some 85, (.fadr 1 (.t 13)), none⟩, {}⟩, ⟨⟨some 86, (.load false 1 (.t 85)), none⟩, {}⟩, ⟨⟨some 87, (.len (.t 86)), none⟩, {}⟩, ⟨⟨some 88, (.bin .add (.t 87) (.c (I 1))), none⟩, {}⟩, ⟨⟨some 89, (.call (.c (.fn 11 [])) [(.t 84), (.t 88)]), none⟩, {}⟩,
  ⟨⟨some 27, (.mov (.t 89)), none⟩, {}⟩] none) law03_WalkThrough_C3)
def law03_WalkThrough_C15 : TC := .ret
def law03_WalkThrough_C13 : TC := (.cond (.t 83) (.seq (.rg [⟨⟨some 12, (.mov (.c (B false))), none⟩, {}⟩] none) law03_WalkThrough_C15) .skip)
def law03_WalkThrough_C14 : TC := (.join [.keep [4, 5, 13], .cmp] law03_WalkThrough_C1)
def law03_WalkThrough_C12 : TC := (.seq (.seq (.rg [⟨⟨some 69, (.mov (.t 20)), none⟩, {}⟩, ⟨⟨some 70, (.mov (.t 69)), none⟩, {}⟩, ⟨⟨some 71, (.mov (.t 23)), some (70, true)⟩, {}⟩, ⟨⟨some 72, (.pick (.t 70) (.t 71) (.c (B false))), none⟩, {}⟩, ⟨⟨some 73, (.mov (.t 72)), none⟩, {}⟩, ⟨⟨some 74, (.mov (.t 26)), some (73, true)⟩, {}⟩,
  ⟨⟨some 75, (.un .not (.t 74)), some (73, true)⟩, {}⟩, ⟨⟨some 76, (.mov (.t 75)), some (73, true)⟩, {}⟩, ⟨⟨some 77, (.mov (.t 25)), some (76, false)⟩, {}⟩, ⟨⟨some 78, (.mov (.t 19)), some (76, false)⟩, {}⟩, ⟨⟨some 79, (.mov (.t 22)), some (76, false)⟩, {}⟩, ⟨⟨some 80, (.bin .add (.t 78) (.t 79)),
  some (76, false)⟩, {}⟩, ⟨⟨some 81, (.bin .gtr (.t 77) (.t 80)), some (76, false)⟩, {}⟩, ⟨⟨some 82, (.pick (.t 76) (.c (B true)) (.t 81)), some (73, true)⟩, {}⟩, ⟨⟨some 83, (.pick (.t 73) (.t 82) (.c (B false))), none⟩, {}⟩] none) law03_WalkThrough_C13) law03_WalkThrough_C14)
def law03_WalkThrough_C11 : TC := (.seq (.rg [⟨⟨some 62, (.load true 2 (.t 13)), none⟩, {}⟩, ⟨⟨some 63, (.mov (.t 15)), none⟩, {}⟩, ⟨⟨some 64, (.mov (.t 17)), none⟩, {}⟩, ⟨⟨some 65, (.call (.c (.fn 17 [])) [(.t 62), (.t 63), (.t 64)]), none⟩, {}⟩, ⟨⟨some 61, (.mov (.t 65)), none⟩, {}⟩, ⟨⟨some 66, (.extr 0 (.t 61)), none⟩, {}⟩, ⟨⟨some
  67, (.extr 1 (.t 61)), none⟩, {}⟩, ⟨⟨some 68, (.extr 2 (.t 61)), none⟩, {}⟩, ⟨⟨some 24, (.mov (.t 66)), none⟩, {}⟩, ⟨⟨some 25, (.mov (.t 67)), none⟩, {}⟩, ⟨⟨some 26, (.mov (.t 68)), none⟩, {}⟩] none) law03_WalkThrough_C12)
def law03_WalkThrough_C10 : TC := (.seq (.rg [⟨⟨some 54, (.load true 2 (.t 13)), none⟩, {}⟩, ⟨⟨some 55, (.mov (.t 16)), none⟩, {}⟩, ⟨⟨some 56, (.mov (.t 17)), none⟩, {}⟩, ⟨⟨some 57, (.call (.c (.fn 17 [])) [(.t 54), (.t 55), (.t 56)]), none⟩, {}⟩, ⟨⟨some 53, (.mov (.t 57)), none⟩, {}⟩, ⟨⟨some 58, (.extr 0 (.t 53)), none⟩, {}⟩, ⟨⟨some
  59, (.extr 1 (.t 53)), none⟩, {}⟩, ⟨⟨some 60, (.extr 2 (.t 53)), none⟩, {}⟩, ⟨⟨some 21, (.mov (.t 58)), none⟩, {}⟩, ⟨⟨some 22, (.mov (.t 59)), none⟩, {}⟩, ⟨⟨some 23, (.mov (.t 60)), none⟩, {}⟩] none) law03_WalkThrough_C11)
def law03_WalkThrough_C9 : TC := (.seq (.rg [⟨⟨some 46, (.load true 2 (.t 13)), none⟩, {}⟩, ⟨⟨some 47, (.mov (.t 15)), none⟩, {}⟩, ⟨⟨some 48, (.mov (.t 16)), none⟩, {}⟩, ⟨⟨some 49, (.call (.c (.fn 17 [])) [(.t 46), (.t 47), (.t 48)]), none⟩, {}⟩, ⟨⟨some 45, (.mov (.t 49)), none⟩, {}⟩, ⟨⟨some 50, (.extr 0 (.t 45)), none⟩, {}⟩, ⟨⟨some
  51, (.extr 1 (.t 45)), none⟩, {}⟩, ⟨⟨some 52, (.extr 2 (.t 45)), none⟩, {}⟩, ⟨⟨some 18, (.mov (.t 50)), none⟩, {}⟩, ⟨⟨some 19, (.mov (.t 51)), none⟩, {}⟩, ⟨⟨some 20, (.mov (.t 52)), none⟩, {}⟩] none) law03_WalkThrough_C10)
def law03_WalkThrough_C8 : TC := (.seq (.rg [⟨⟨some 36, (.mov (.t 1)), none⟩, {}⟩, ⟨⟨some 37, (.mov (.t 14)), none⟩, {}⟩, ⟨⟨some 38, (.call (.c (.fn 11 [])) [(.t 36), (.t 37)]), none⟩, {}⟩, ⟨⟨some 39, (.mov (.t 2)), none⟩, {}⟩, ⟨⟨some 40, (.mov (.t 14)), none⟩, {}⟩, ⟨⟨some 41, (.call (.c (.fn 11 [])) [(.t 39), (.t 40)]), none⟩, {}⟩,
  ⟨⟨some 42, (.mov (.t 3)), none⟩, {}⟩, ⟨⟨some 43, (.mov (.t 14)), none⟩, {}⟩, ⟨⟨some 44, (.call (.c (.fn 11 [])) [(.t 42), (.t 43)]), none⟩, {}⟩, ⟨⟨some 15, (.mov (.t 38)), none⟩, {}⟩, ⟨⟨some 16, (.mov (.t 41)), none⟩, {}⟩, ⟨⟨some 17, (.mov (.t 44)), none⟩, {}⟩] none) law03_WalkThrough_C9)
def law03_WalkThrough_C6 : TC := (.seq (.rg [⟨⟨some 33, (.fadr 0 (.t 13)), none⟩, {}⟩, ⟨⟨some 34, (.load false 1 (.t 33)), none⟩, {}⟩, ⟨⟨some 35, (.len (.t 34)), none⟩, {}⟩, ⟨⟨some 14, (.mov (.t 35)), none⟩, {}⟩] none) law03_WalkThrough_C8)
def law03_WalkThrough_C4 : TC := (.seq (.rg [⟨⟨some 30, (.mov (.t 0)), none⟩, {}⟩, ⟨⟨some 31, (.call (.c (.fn 9 [])) [(.t 30)]), none⟩, {}⟩, ⟨⟨some 32, (.call (.c (.fn 10 [])) [(.t 31)]), none⟩, {}⟩, ⟨⟨some 13, (.alloc [(.lst true []), (.lst true [])]), none⟩, {}⟩, ⟨⟨none, (.store 2 (.t 13) (.t 32)), none⟩, {}⟩] none)
  law03_WalkThrough_C6)
def law03_WalkThrough_C2 : TC := (.seq (.rg [⟨⟨some 12, (.mov (.c (B false))), none⟩, {}⟩] none) law03_WalkThrough_C4)
def law03_WalkThrough_E (N : Nat) : List (Nat × Ent) := [(9, sfE [none] [.v (.list (.int .u8))] [.n G_Codes] (fun x => draw_New N x)), (10, sfE [none] [.b (.v G_Codes)] [.v G_Mine] (fun x => draw_Codes_Mine N x)), (11, pureE [(.int .i64), (.int .i64)] [(.int .i64)] (fun x => draw_Mod N x.1 x.2)), (17, pureE [G_Mine, (.int .i64), (.int .i64)] [(.list (.int .i64)), (.int .i64), .bool] (fun x => walk_Way N x.1 x.2.1 x.2.2)), (12, pureE [G_Mine, (.int .i64), .bool] [(.int .i64)] (fun x => walk_Time N x.1 x.2.1 x.2.2)), (14, pureE [G_Mine, (.int .i64), .bool] [(.int .i64)] (fun x => walk_Slow N x.1 x.2.1 x.2.2)), (16, pureE [] [.bool] (fun x => law03_awake N))]
def law03_WalkThrough_J1 (N : Nat) (x9 : Int) (x10 : Bool) (x11 : List T_Place) (x12 : List T_Road) : Option Bool := joinN (run (law03_WalkThrough_E N) N 0 law03_WalkThrough_C1) N ⟨[(4, .int .i64 x9), (5, .bool x10), (13, .ptr 0 0 0)], [some (.box 0 [.lst false G_Place x11, .lst false G_Road x12])]⟩ (fin [(.t 12)] [.bool])
theorem law03_WalkThrough_J1_eqM (N JM : Nat) (x9 : Int) (x10 : Bool) (x11 : List T_Place) (x12 : List T_Road) : joinN (run (law03_WalkThrough_E N) N 0 law03_WalkThrough_C1) (JM + 1) ⟨[(4, .int .i64 x9), (5, .bool x10), (13, .ptr 0 0 0)], [some (.box 0 [.lst false G_Place x11, .lst false G_Road x12])]⟩ (fin [(.t 12)] [.bool]) =
  Option.bind (draw_Mod N x9 (W ((x12.length : Int) + 1))) fun r14 =>
  Option.bind (walk_Time N (x11, x12) r14 x10) fun r15 =>
  Option.bind (walk_Slow N (x11, x12) r14 x10) fun r16 =>
  bif ((r15 == (-1)) == (r16 == (-1))) then
    bif (r15 == (-1)) then
      Option.bind (law03_awake N) fun r17 =>
      some r17
    else
      bif (decide (r15 ≥ 1)) then
        bif (decide (r16 ≥ r15)) then
          bif (decide (r16 ≤ (W (3 * r15)))) then
            Option.bind (law03_awake N) fun r18 =>
            some r18
          else
            some false
        else
          some false
      else
        some false
  else
    some false := by kernel_rfl
theorem law03_WalkThrough_J1_eq (N : Nat) (x9 : Int) (x10 : Bool) (x11 : List T_Place) (x12 : List T_Road) : law03_WalkThrough_J1 (N + 1) x9 x10 x11 x12 =
  Option.bind (draw_Mod (N + 1) x9 (W ((x12.length : Int) + 1))) fun r14 =>
  Option.bind (walk_Time (N + 1) (x11, x12) r14 x10) fun r15 =>
  Option.bind (walk_Slow (N + 1) (x11, x12) r14 x10) fun r16 =>
  bif ((r15 == (-1)) == (r16 == (-1))) then
    bif (r15 == (-1)) then
      Option.bind (law03_awake (N + 1)) fun r17 =>
      some r17
    else
      bif (decide (r15 ≥ 1)) then
        bif (decide (r16 ≥ r15)) then
          bif (decide (r16 ≤ (W (3 * r15)))) then
            Option.bind (law03_awake (N + 1)) fun r18 =>
            some r18
          else
            some false
        else
          some false
      else
        some false
  else
    some false := law03_WalkThrough_J1_eqM (N + 1) N x9 x10 x11 x12
def law03_WalkThrough (N : Nat) (a0 : List Int) (a1 : Int) (a2 : Int) (a3 : Int) (a4 : Int) (a5 : Bool) : Option Bool :=
  Option.bind (draw_New N a0) fun r1 =>
  Option.bind (draw_Codes_Mine N r1.1) fun r2 =>
  Option.bind (draw_Mod N a1 (r2.1.1.length : Int)) fun r3 =>
  Option.bind (draw_Mod N a2 (r2.1.1.length : Int)) fun r4 =>
  Option.bind (draw_Mod N a3 (r2.1.1.length : Int)) fun r5 =>
  Option.bind (walk_Way N r2.1 r3 r4) fun r6 =>
  Option.bind (walk_Way N r2.1 r4 r5) fun r7 =>
  Option.bind (walk_Way N r2.1 r3 r5) fun r8 =>
  bif r6.2.2 then
    bif r7.2.2 then
      bif (!r8.2.2) then
        some false
      else
        bif (decide (r8.2.1 > (W (r6.2.1 + r7.2.1)))) then
          some false
        else
          law03_WalkThrough_J1 N a4 a5 r2.1.1 r2.1.2
    else
      law03_WalkThrough_J1 N a4 a5 r2.1.1 r2.1.2
  else
    law03_WalkThrough_J1 N a4 a5 r2.1.1 r2.1.2
theorem law03_WalkThrough_fn : FnOK Try.prog 7 125 (fun _ : Nat => false) law03_WalkThrough_C2.er [(.t 12)] := FnOK.mk' Try.func7 (by kernel_rfl) (by kernel_rfl) (by kernel_rfl) (by kernel_rfl) (by kernel_rfl)
theorem law03_WalkThrough_envok (N : Nat) : EnvOK Try.prog (law03_WalkThrough_E N) := .cons (sfE_ok (draw_New_sf N)) (.cons (sfE_ok (draw_Codes_Mine_sf N)) (.cons (pureE_ok (draw_Mod_pure N)) (.cons (pureE_ok (walk_Way_pure N)) (.cons (pureE_ok (walk_Time_pure N)) (.cons (pureE_ok (walk_Slow_pure N)) (.cons (pureE_ok (law03_awake_pure N)) (.nil)))))))
theorem law03_WalkThrough_pure (N : Nat) : PureOK Try.prog 7 [(.list (.int .u8)), (.int .i64), (.int .i64), (.int .i64), (.int .i64), .bool] [.bool] (fun x => law03_WalkThrough N x.1 x.2.1 x.2.2.1 x.2.2.2.1 x.2.2.2.2.1 x.2.2.2.2.2) := pureOK (N := N) mixed law03_WalkThrough_fn (law03_WalkThrough_envok N) (TC.noh_ok (by kernel_rfl)) rfl (fun x => by kernel_rfl)
/-! ref03_Least -/
def ref03_Least_N1 : List NS := [.wk 1 (.list (.int .i64)), .keep [1, 2, 5], .cmp]
def ref03_Least_N2 : List NS := [.wk 6 (.list (.int .i64)), .keep [2, 6, 7], .cmp]
def ref03_Least_N3 : List NS := [.wk 6 (.list (.int .i64)), .keep [2, 6, 7, 8], .cmp]
def ref03_Least_N4 : List NS := [.wk 6 (.list (.int .i64)), .keep [2, 6, 7, 8, 9], .cmp]
def ref03_Least_C10 : TC := (.cond (.t 53) .skip (.exit 6))
def ref03_Least_C36 : TC := (.cond (.t 93) (.rg [⟨⟨some 94, (.mov (.t 6)), none⟩, {}⟩, ⟨⟨some 95, (.mov (.t 11)), none⟩, {}⟩, ⟨⟨some 96, (.mov (.t 6)), none⟩, {}⟩, ⟨⟨some 97, (.mov (.t 10)), none⟩, {}⟩, ⟨⟨some 98, (.iadrS 1 (.t 96) (.t 97)), none⟩, {}⟩, ⟨⟨some 99, (.load false 1 (.t 98)), none⟩, {}⟩, ⟨⟨some 100, (.mov (.t 12)),
  none⟩, {}⟩, ⟨⟨some 101, (.bin .add (.t 99) (.t 100)), none⟩, {}⟩, ⟨⟨some 102, (.iadrS 1 (.t 94) (.t 95)), none⟩, {}⟩, ⟨⟨none, (.store 1 (.t 102) (.t 101)), none⟩, {}⟩, ⟨⟨some 7, (.mov (.c (B true))), none⟩, {}⟩] none) .skip)
def ref03_Least_C32 : TC := (.seq (.rg [⟨⟨some 72, (.mov (.t 12)), none⟩, {}⟩, ⟨⟨some 73, (.bin .geq (.t 72) (.c (I 0))), none⟩, {}⟩, ⟨⟨some 74, (.mov (.t 73)), none⟩, {}⟩, ⟨⟨some 75, (.mov (.t 6)), some (74, true)⟩, {}⟩, ⟨⟨some 76, (.mov (.t 10)), some (74, true)⟩, {}⟩, ⟨⟨some 77, (.iadrS 1 (.t 75) (.t 76)), some (74, true)⟩,
  {}⟩, ⟨⟨some 78, (.load false 1 (.t 77)), some (74, true)⟩, {}⟩, ⟨⟨some 79, (.bin .lss (.t 78) (.c (I 1099511627776))), some (74, true)⟩, {}⟩, ⟨⟨some 80, (.pick (.t 74) (.t 79) (.c (B false))), none⟩, {}⟩, ⟨⟨some 81, (.mov (.t 80)), none⟩, {}⟩, ⟨⟨some 82, (.mov (.t 6)), some (81, true)⟩, {}⟩, ⟨⟨some
  83, (.mov (.t 10)), some (81, true)⟩, {}⟩, ⟨⟨some 84, (.iadrS 1 (.t 82) (.t 83)), some (81, true)⟩, {}⟩, ⟨⟨some 85, (.load false 1 (.t 84)), some (81, true)⟩, {}⟩, ⟨⟨some 86, (.mov (.t 12)), some (81, true)⟩, {}⟩, ⟨⟨some 87, (.bin .add (.t 85) (.t 86)), some (81, true)⟩, {}⟩, ⟨⟨some 88, (.mov (.t
  6)), some (81, true)⟩, {}⟩, ⟨⟨some 89, (.mov (.t 11)), some (81, true)⟩, {}⟩, ⟨⟨some 90, (.iadrS 1 (.t 88) (.t 89)), some (81, true)⟩, {}⟩, ⟨⟨some 91, (.load false 1 (.t 90)), some (81, true)⟩, {}⟩, ⟨⟨some 92, (.bin .lss (.t 87) (.t 91)), some (81, true)⟩, {}⟩, ⟨⟨some 93, (.pick (.t 81) (.t 92) (.c
  (B false))), none⟩, {}⟩] (some [])) ref03_Least_C36)
def ref03_Least_C22 : TC := (.seq (.rg [⟨⟨some 67, (.load true 2 (.t 2)), none⟩, {}⟩, ⟨⟨some 68, (.mov (.t 8)), none⟩, {}⟩, ⟨⟨some 69, (.mov (.t 9)), none⟩, {}⟩, ⟨⟨some 70, (.bin .eql (.t 69) (.c (I 1))), none⟩, {}⟩, ⟨⟨some 71, (.call (.c (.fn 13 [])) [(.t 67), (.t 68), (.t 70)]), none⟩, {}⟩, ⟨⟨some 12, (.mov (.t 71)), none⟩,
  {}⟩] none) ref03_Least_C32)
def ref03_Least_C23 : TC := (.rg [⟨⟨some 54, (.mov (.t 9)), none⟩, {}⟩, ⟨⟨some 55, (.bin .add (.t 54) (.c (I 1))), none⟩, {}⟩, ⟨⟨some 9, (.mov (.t 55)), none⟩, {}⟩] none)
def ref03_Least_C11 : TC := (.seq (.block 7 (.seq (.rg [⟨⟨some 57, (.fadr 1 (.t 2)), none⟩, {}⟩, ⟨⟨some 58, (.load false 1 (.t 57)), none⟩, {}⟩, ⟨⟨some 59, (.mov (.t 8)), none⟩, {}⟩, ⟨⟨some 60, (.iadrS 10 (.t 58) (.t 59)), none⟩, {}⟩, ⟨⟨some 61, (.load true 10 (.t 60)), none⟩, {}⟩, ⟨⟨some 62, (.mov (.t 9)), none⟩, {}⟩, ⟨⟨some
  63, (.bin .eql (.t 62) (.c (I 1))), none⟩, {}⟩, ⟨⟨some 64, (.call (.c (.fn 41 [])) [(.t 61), (.t 63)]), none⟩, {}⟩, ⟨⟨some 56, (.mov (.t 64)), none⟩, {}⟩, ⟨⟨some 65, (.extr 0 (.t 56)), none⟩, {}⟩, ⟨⟨some 66, (.extr 1 (.t 56)), none⟩, {}⟩, ⟨⟨some 10, (.mov (.t 65)), none⟩, {}⟩, ⟨⟨some 11, (.mov (.t
  66)), none⟩, {}⟩] none) ref03_Least_C22)) ref03_Least_C23)
def ref03_Least_C1 : TC := (.seq (.seq (.rg [⟨⟨some 52, (.mov (.t 9)), none⟩, {}⟩, ⟨⟨some 53, (.bin .lss (.t 52) (.c (I 2))), none⟩, {}⟩] none) ref03_Least_C10) ref03_Least_C11)
def ref03_Least_C2 : TC := (.rg [⟨⟨some 50, (.mov (.t 8)), none⟩, {}⟩, ⟨⟨some 51, (.bin .add (.t 50) (.c (I 1))), none⟩, {}⟩, ⟨⟨some 8, (.mov (.t 51)), none⟩, {}⟩] none)
def ref03_Least_C12 : TC := (.cond (.t 49) .skip (.exit 4))
def ref03_Least_C24 : TC := (.block 6 (.loop ref03_Least_N4 ref03_Least_C1))
def ref03_Least_C13 : TC := (.seq (.block 5 (.seq (.rg [⟨⟨some 9, (.mov (.c (I 0))), none⟩, {}⟩] none) ref03_Least_C24)) ref03_Least_C2)
def ref03_Least_C3 : TC := (.seq (.seq (.rg [⟨⟨some 45, (.mov (.t 8)), none⟩, {}⟩, ⟨⟨some 46, (.fadr 1 (.t 2)), none⟩, {}⟩, ⟨⟨some 47, (.load false 1 (.t 46)), none⟩, {}⟩, ⟨⟨some 48, (.len (.t 47)), none⟩, {}⟩, ⟨⟨some 49, (.bin .lss (.t 45) (.t 48)), none⟩, {}⟩] none) ref03_Least_C12) ref03_Least_C13)
def ref03_Least_C14 : TC := (.cond (.t 44) .skip (.exit 2))
def ref03_Least_C33 : TC := (.block 4 (.loop ref03_Least_N3 ref03_Least_C3))
def ref03_Least_C25 : TC := (.seq (.rg [⟨⟨some 8, (.mov (.c (I 0))), none⟩, {}⟩] none) ref03_Least_C33)
def ref03_Least_C15 : TC := (.block 3 (.seq (.rg [⟨⟨some 7, (.mov (.c (B false))), none⟩, {}⟩] none) ref03_Least_C25))
def ref03_Least_C4 : TC := (.seq (.seq (.rg [⟨⟨some 44, (.mov (.t 7)), none⟩, {}⟩] none) ref03_Least_C14) ref03_Least_C15)
def ref03_Least_C26 : TC := .ret
def ref03_Least_C16 : TC := (.pre [.frz 4] ref03_Least_C26)
def ref03_Least_C5 : TC := (.seq (.rg [⟨⟨some 103, (.mov (.t 6)), none⟩, {}⟩, ⟨⟨some 4, (.mov (.t 103)), none⟩, {}⟩] none) ref03_Least_C16)
def ref03_Least_C17 : TC := (.cond (.t 27) .skip (.exit 0))
def ref03_Least_C37 : TC := .ret
def ref03_Least_C34 : TC := (.pre [.frz 4] ref03_Least_C37)
def ref03_Least_C27 : TC := (.cond (.t 41) (.seq (.rg [⟨⟨some 4, (.mov (.c (.lst true []))), none⟩, {}⟩] none) ref03_Least_C34) .skip)
def ref03_Least_C28 : TC := (.rg [⟨⟨some 28, (.mov (.t 5)), none⟩, {}⟩, ⟨⟨some 29, (.bin .add (.t 28) (.c (I 1))), none⟩, {}⟩, ⟨⟨some 5, (.mov (.t 29)), none⟩, {}⟩] none)
def ref03_Least_C18 : TC := (.seq (.block 1 (.seq (.rg [⟨⟨some 30, (.mov (.t 1)), none⟩, {}⟩, ⟨⟨some 31, (.mov (.t 5)), none⟩, {}⟩, ⟨⟨some 32, (.iadrS 1 (.t 30) (.t 31)), none⟩, {}⟩, ⟨⟨some 33, (.load false 1 (.t 32)), none⟩, {}⟩, ⟨⟨some 34, (.bin .lss (.t 33) (.c (I 0))), none⟩, {}⟩, ⟨⟨some 35, (.mov (.t 34)), none⟩, {}⟩,
  ⟨⟨some 36, (.mov (.t 1)), some (35, false)⟩, {}⟩, ⟨⟨some 37, (.mov (.t 5)), some (35, false)⟩, {}⟩, ⟨⟨some 38, (.iadrS 1 (.t 36) (.t 37)), some (35, false)⟩, {}⟩, ⟨⟨some 39, (.load false 1 (.t 38)), some (35, false)⟩, {}⟩, ⟨⟨some 40, (.bin .gtr (.t 39) (.c (I 1099511627776))), some (35, false)⟩,
  {}⟩, ⟨⟨some 41, (.pick (.t 35) (.c (B true)) (.t 40)), none⟩, {}⟩] none) ref03_Least_C27)) ref03_Least_C28)
def ref03_Least_C6 : TC := (.seq (.seq (.rg [⟨⟨some 24, (.mov (.t 5)), none⟩, {}⟩, ⟨⟨some 25, (.mov (.t 1)), none⟩, {}⟩, ⟨⟨some 26, (.len (.t 25)), none⟩, {}⟩, ⟨⟨some 27, (.bin .lss (.t 24) (.t 26)), none⟩, {}⟩] none) ref03_Least_C17) ref03_Least_C18)
def ref03_Least_C29 : TC := (.block 2 (.loop ref03_Least_N2 ref03_Least_C4))
def ref03_Least_C19 : TC := (.seq (.seq (.rg [⟨⟨some 7, (.mov (.c (B true))), none⟩, {}⟩] none) ref03_Least_C29) ref03_Least_C5)
def ref03_Least_C7 : TC := (.seq (.pre [.ghost (.int .i64)] (.rg [⟨⟨some 42, (.mov (.t 1)), none⟩, {}⟩, ⟨⟨some 43, (.app 1 8 (.c (.lst true [])) (.t 42)), none⟩, ⟨.unit, some 1⟩⟩, ⟨⟨some 6, (.mov (.t 43)), none⟩, {}⟩] none)) ref03_Least_C19)
def ref03_Least_C20 : TC := (.block 0 (.loop ref03_Least_N1 ref03_Least_C6))
def ref03_Least_C8 : TC := (.seq (.seq (.rg [⟨⟨some 5, (.mov (.c (I 0))), none⟩, {}⟩] none) ref03_Least_C20) ref03_Least_C7)
def ref03_Least_C38 : TC := .ret
def ref03_Least_C35 : TC := (.pre [.frz 4] ref03_Least_C38)
def ref03_Least_C30 : TC := (.cond (.t 23) (.seq (.rg [⟨⟨some 4, (.mov (.c (.lst true []))), none⟩, {}⟩] none) ref03_Least_C35) .skip)
def ref03_Least_C31 : TC := (.join [.wk 1 (.list (.int .i64)), .keep [1, 2], .cmp] ref03_Least_C8)
def ref03_Least_C21 : TC := (.seq (.seq (.rg [⟨⟨some 13, (.load true 2 (.t 2)), none⟩, {}⟩, ⟨⟨some 14, (.call (.c (.fn 39 [])) [(.t 13)]), none⟩, {}⟩, ⟨⟨some 15, (.bin .neq (.t 14) (.c (I 0))), none⟩, {}⟩, ⟨⟨some 16, (.mov (.t 15)), none⟩, {}⟩, ⟨⟨some 17, (.mov (.t 1)), some (16, false)⟩, {}⟩, ⟨⟨some 18, (.len (.t 17)), some
  (16, false)⟩, {}⟩, ⟨⟨some 19, (.fadr 0 (.t 2)), some (16, false)⟩, {}⟩, ⟨⟨some 20, (.load false 1 (.t 19)), some (16, false)⟩, {}⟩, ⟨⟨some 21, (.len (.t 20)), some (16, false)⟩, {}⟩, ⟨⟨some 22, (.bin .neq (.t 18) (.t 21)), some (16, false)⟩, {}⟩, ⟨⟨some 23, (.pick (.t 16) (.c (B true)) (.t 22)),
  none⟩, {}⟩] none) ref03_Least_C30) ref03_Least_C31)
def ref03_Least_C9 : TC := (.seq (.rg [⟨⟨some 2, (.box (.t 0)), none⟩, {}⟩, ⟨⟨some 4, (.mov (.c (.lst true []))), none⟩, {}⟩] none) ref03_Least_C21)
def ref03_Least_E (N : Nat) : List (Nat × Ent) := [(39, pureE [G_Mine] [(.int .i64)] (fun x => ref01_Check N x)), (41, pureE [G_Road, .bool] [(.int .i64), (.int .i64)] (fun x => ref03_ends N x.1 x.2)), (13, pureE [G_Mine, (.int .i64), .bool] [(.int .i64)] (fun x => ref03_Time N x.1 x.2.1 x.2.2))]
def ref03_Least_L4 (N n3 n2 : Nat) (n : Nat) (x22 : Bool) (x23 : Int) (x24 : Int) (x25 : List T_Place) (x26 : List T_Road) (x27 : List Int) : Option (List Int) := loopN (normI 0 ref03_Least_N4) (run (ref03_Least_E N) N 0 ref03_Least_C1) n ⟨[(2, .ptr 0 0 0), (6, .whole 1), (7, .bool x22), (8, .int .i64 x23), (9, .int .i64 x24)], [some (.box 0 [.lst false G_Place x25, .lst false G_Road x26]), some (.arr (.int .i64) x27)]⟩ (blkK 6 (blkK 5 (seqK (run (ref03_Least_E N) N 0 ref03_Least_C2) (seqK (nextL (normI 0 ref03_Least_N3) (loopN (normI 0 ref03_Least_N3) (run (ref03_Least_E N) N 0 ref03_Least_C3) n3)) (blkK 4 (blkK 3 (seqK (nextL (normI 0 ref03_Least_N2) (loopN (normI 0 ref03_Least_N2) (run (ref03_Least_E N) N 0 ref03_Least_C4) n2)) (blkK 2 (seqK (run (ref03_Least_E N) N 0 ref03_Least_C5) (fin [(.t 4)] [(.list (.int .i64))]))))))))))
def ref03_Least_L3 (N n2 : Nat) (n : Nat) (x17 : Bool) (x18 : Int) (x19 : List T_Place) (x20 : List T_Road) (x21 : List Int) : Option (List Int) := loopN (normI 0 ref03_Least_N3) (run (ref03_Least_E N) N 0 ref03_Least_C3) n ⟨[(2, .ptr 0 0 0), (6, .whole 1), (7, .bool x17), (8, .int .i64 x18)], [some (.box 0 [.lst false G_Place x19, .lst false G_Road x20]), some (.arr (.int .i64) x21)]⟩ (blkK 4 (blkK 3 (seqK (nextL (normI 0 ref03_Least_N2) (loopN (normI 0 ref03_Least_N2) (run (ref03_Least_E N) N 0 ref03_Least_C4) n2)) (blkK 2 (seqK (run (ref03_Least_E N) N 0 ref03_Least_C5) (fin [(.t 4)] [(.list (.int .i64))]))))))
def ref03_Least_L2 (N : Nat) (n : Nat) (x13 : Bool) (x14 : List T_Place) (x15 : List T_Road) (x16 : List Int) : Option (List Int) := loopN (normI 0 ref03_Least_N2) (run (ref03_Least_E N) N 0 ref03_Least_C4) n ⟨[(2, .ptr 0 0 0), (6, .whole 1), (7, .bool x13)], [some (.box 0 [.lst false G_Place x14, .lst false G_Road x15]), some (.arr (.int .i64) x16)]⟩ (blkK 2 (seqK (run (ref03_Least_E N) N 0 ref03_Least_C5) (fin [(.t 4)] [(.list (.int .i64))])))
def ref03_Least_L1 (N : Nat) (n : Nat) (x5 : List Int) (x6 : Int) (x7 : List T_Place) (x8 : List T_Road) : Option (List Int) := loopN (normI 0 ref03_Least_N1) (run (ref03_Least_E N) N 0 ref03_Least_C6) n ⟨[(1, .lst false (.int .i64) x5), (2, .ptr 0 0 0), (5, .int .i64 x6)], [some (.box 0 [.lst false G_Place x7, .lst false G_Road x8])]⟩ (blkK 0 (seqK (run (ref03_Least_E N) N 0 ref03_Least_C7) (fin [(.t 4)] [(.list (.int .i64))])))
def ref03_Least_J1 (N : Nat) (x2 : List Int) (x3 : List T_Place) (x4 : List T_Road) : Option (List Int) := joinN (run (ref03_Least_E N) N 0 ref03_Least_C8) N ⟨[(1, .lst false (.int .i64) x2), (2, .ptr 0 0 0)], [some (.box 0 [.lst false G_Place x3, .lst false G_Road x4])]⟩ (fin [(.t 4)] [(.list (.int .i64))])
theorem ref03_Least_L4_zero (N n3 n2 : Nat) (x22 : Bool) (x23 : Int) (x24 : Int) (x25 : List T_Place) (x26 : List T_Road) (x27 : List Int) : ref03_Least_L4 N n3 n2 0 x22 x23 x24 x25 x26 x27 = none := rfl
theorem ref03_Least_L4_succ (N n3 n2 : Nat) (n4 : Nat) (x22 : Bool) (x23 : Int) (x24 : Int) (x25 : List T_Place) (x26 : List T_Road) (x27 : List Int) : ref03_Least_L4 N n3 n2 (n4 + 1) x22 x23 x24 x25 x26 x27 =
  bif (decide (x24 < 2)) then
    bif inB x23 x26.length then
    Option.bind (ref03_ends N (x26.getD x23.toNat D_Road) (x24 == 1)) fun r29 =>
    Option.bind (ref03_Time N (x25, x26) x23 (x24 == 1)) fun r30 =>
    bif (decide (r30 ≥ 0)) then
      bif inB r29.1 x27.length then
      bif (decide ((x27.getD r29.1.toNat 0) < 1099511627776)) then
        bif inB r29.1 x27.length then
        bif inB r29.2 x27.length then
        bif (decide ((W ((x27.getD r29.1.toNat 0) + r30)) < (x27.getD r29.2.toNat 0))) then
          bif inB r29.1 x27.length then
          bif inB r29.2 x27.length then
          ref03_Least_L4 N n3 n2 n4 true x23 (W (x24 + 1)) x25 x26 (x27.set r29.2.toNat (W ((x27.getD r29.1.toNat 0) + r30)))
          else none
          else none
        else
          ref03_Least_L4 N n3 n2 n4 x22 x23 (W (x24 + 1)) x25 x26 x27
        else none
        else none
      else
        ref03_Least_L4 N n3 n2 n4 x22 x23 (W (x24 + 1)) x25 x26 x27
      else none
    else
      ref03_Least_L4 N n3 n2 n4 x22 x23 (W (x24 + 1)) x25 x26 x27
    else none
  else
    ref03_Least_L3 N n2 n3 x22 (W (x23 + 1)) x25 x26 x27 := by kernel_rfl
theorem ref03_Least_L3_zero (N n2 : Nat) (x17 : Bool) (x18 : Int) (x19 : List T_Place) (x20 : List T_Road) (x21 : List Int) : ref03_Least_L3 N n2 0 x17 x18 x19 x20 x21 = none := rfl
theorem ref03_Least_L3_succ (N n2 : Nat) (n3 : Nat) (x17 : Bool) (x18 : Int) (x19 : List T_Place) (x20 : List T_Road) (x21 : List Int) : ref03_Least_L3 N n2 (n3 + 1) x17 x18 x19 x20 x21 =
  bif (decide (x18 < (x20.length : Int))) then
    ref03_Least_L4 N n3 n2 N x17 x18 0 x19 x20 x21
  else
    ref03_Least_L2 N n2 x17 x19 x20 x21 := by kernel_rfl
theorem ref03_Least_L2_zero (N : Nat) (x13 : Bool) (x14 : List T_Place) (x15 : List T_Road) (x16 : List Int) : ref03_Least_L2 N 0 x13 x14 x15 x16 = none := rfl
theorem ref03_Least_L2_succ (N : Nat) (n2 : Nat) (x13 : Bool) (x14 : List T_Place) (x15 : List T_Road) (x16 : List Int) : ref03_Least_L2 N (n2 + 1) x13 x14 x15 x16 =
  bif x13 then
    ref03_Least_L3 N n2 N false 0 x14 x15 x16
  else
    some x16 := by kernel_rfl
theorem ref03_Least_L1_zero (N : Nat) (x5 : List Int) (x6 : Int) (x7 : List T_Place) (x8 : List T_Road) : ref03_Least_L1 N 0 x5 x6 x7 x8 = none := rfl
theorem ref03_Least_L1_succ (N : Nat) (n1 : Nat) (x5 : List Int) (x6 : Int) (x7 : List T_Place) (x8 : List T_Road) : ref03_Least_L1 N (n1 + 1) x5 x6 x7 x8 =
  bif (decide (x6 < (x5.length : Int))) then
    bif inB x6 x5.length then
    bif (decide ((x5.getD x6.toNat 0) < 0)) then
      some []
    else
      bif inB x6 x5.length then
      bif (decide ((x5.getD x6.toNat 0) > 1099511627776)) then
        some []
      else
        ref03_Least_L1 N n1 x5 (W (x6 + 1)) x7 x8
      else none
    else none
  else
    bif fitsB x5.length 8 then
    ref03_Least_L2 N N true x7 x8 x5
    else none := by kernel_rfl
theorem ref03_Least_J1_eqM (N JM : Nat) (x2 : List Int) (x3 : List T_Place) (x4 : List T_Road) : joinN (run (ref03_Least_E N) N 0 ref03_Least_C8) (JM + 1) ⟨[(1, .lst false (.int .i64) x2), (2, .ptr 0 0 0)], [some (.box 0 [.lst false G_Place x3, .lst false G_Road x4])]⟩ (fin [(.t 4)] [(.list (.int .i64))]) =
  ref03_Least_L1 N N x2 0 x3 x4 := by kernel_rfl
theorem ref03_Least_J1_eq (N : Nat) (x2 : List Int) (x3 : List T_Place) (x4 : List T_Road) : ref03_Least_J1 (N + 1) x2 x3 x4 =
  ref03_Least_L1 (N + 1) (N + 1) x2 0 x3 x4 := ref03_Least_J1_eqM (N + 1) N x2 x3 x4
def ref03_Least (N : Nat) (a0 : T_Mine) (a1 : List Int) : Option (List Int) :=
  Option.bind (ref01_Check N a0) fun r1 =>
  bif (r1 != 0) then
    some []
  else
    bif ((a1.length : Int) != (a0.1.length : Int)) then
      some []
    else
      ref03_Least_J1 N a1 a0.1 a0.2
theorem ref03_Least_fn : FnOK Try.prog 23 104 (fun _ : Nat => false) ref03_Least_C9.er [(.t 4)] := FnOK.mk' Try.func23 (by kernel_rfl) (by kernel_rfl) (by kernel_rfl) (by kernel_rfl) (by kernel_rfl)
theorem ref03_Least_envok (N : Nat) : EnvOK Try.prog (ref03_Least_E N) := .cons (pureE_ok (ref01_Check_pure N)) (.cons (pureE_ok (ref03_ends_pure N)) (.cons (pureE_ok (ref03_Time_pure N)) (.nil)))
theorem ref03_Least_pure (N : Nat) : PureOK Try.prog 23 [G_Mine, (.list (.int .i64))] [(.list (.int .i64))] (fun x => ref03_Least N x.1 x.2) := pureOK (N := N) mixed ref03_Least_fn (ref03_Least_envok N) (TC.noh_ok (by kernel_rfl)) rfl (fun x => by kernel_rfl)
/-! walk_Within -/
def walk_Within_N1 : List NS := [.own 7 (.int .i64), .wk 12 (.list (.int .i64)), .keep [2, 7, 12, 13, 14], .cmp]
def walk_Within_C14 : TC := (.cond (.t 25) (.rg [⟨⟨some 26, (.mov (.t 7)), none⟩, {}⟩, ⟨⟨some 27, (.mov (.t 8)), none⟩, {}⟩, ⟨⟨some 28, (.bslice false 1 [(I 0)] 1 [(0, (.t 27))]), none⟩, ⟨(.int .i64), none⟩⟩, ⟨⟨some 29, (.app 1 8 (.t 26) (.t 28)), none⟩, {}⟩, ⟨⟨some 7, (.mov (.t 29)), none⟩, {}⟩] none) .skip)
def walk_Within_C10 : TC := (.seq (.rg [⟨⟨some 19, (.mov (.t 9)), none⟩, {}⟩, ⟨⟨some 20, (.mov (.t 2)), none⟩, {}⟩, ⟨⟨some 21, (.bin .leq (.t 19) (.t 20)), none⟩, {}⟩, ⟨⟨some 22, (.mov (.t 21)), none⟩, {}⟩, ⟨⟨some 23, (.mov (.t 9)), some (22, true)⟩, {}⟩, ⟨⟨some 24, (.bin .lss (.t 23) (.c (I 1099511627776))), some (22, true)⟩,
  {}⟩, ⟨⟨some 25, (.pick (.t 22) (.t 24) (.c (B false))), none⟩, {}⟩] none) walk_Within_C14)
def walk_Within_C11 : TC := (.rg [⟨⟨some 30, (.bin .add (.t 14) (.c (I 1))), none⟩, {}⟩, ⟨⟨some 14, (.mov (.t 30)), none⟩, {}⟩] none)
def walk_Within_C7 : TC := (.seq (.block 1 (.seq (.rg [⟨⟨some 16, (.mov (.t 14)), none⟩, {}⟩, ⟨⟨some 17, (.iadrS 1 (.t 12) (.t 14)), none⟩, {}⟩, ⟨⟨some 18, (.load false 1 (.t 17)), none⟩, {}⟩, ⟨⟨some 8, (.mov (.t 16)), none⟩, {}⟩, ⟨⟨some 9, (.mov (.t 18)), none⟩, {}⟩] none) walk_Within_C10)) walk_Within_C11)
def walk_Within_C4 : TC := (.seq (.cond (.t 15) .skip (.exit 0)) walk_Within_C7)
def walk_Within_C1 : TC := (.seq (.rg [⟨⟨some 15, (.bin .lss (.t 14) (.t 13)), none⟩, {}⟩] none) walk_Within_C4)
def walk_Within_C12 : TC := .ret
def walk_Within_C8 : TC := (.pre [.frz 6] walk_Within_C12)
def walk_Within_C5 : TC := (.seq (.rg [⟨⟨some 31, (.mov (.t 7)), none⟩, {}⟩, ⟨⟨some 6, (.mov (.t 31)), none⟩, {}⟩] none) walk_Within_C8)
def walk_Within_C2 : TC := (.pre [.frz 7] walk_Within_C5)
def walk_Within_C13 : TC := (.block 0 (.loop walk_Within_N1 walk_Within_C1))
def walk_Within_C9 : TC := (.seq (.seq (.rg [⟨⟨some 10, (.load true 2 (.t 3)), none⟩, {}⟩, ⟨⟨some 11, (.mov (.t 1)), none⟩, {}⟩, ⟨⟨some 12, (.call (.c (.fn 20 [])) [(.t 10), (.t 11)]), none⟩, {}⟩, ⟨⟨some 13, (.len (.t 12)), none⟩, {}⟩, ⟨⟨some 14, (.mov (.c (I 0))), none⟩, {}⟩] none) walk_Within_C13) walk_Within_C2)
def walk_Within_C6 : TC := (.seq (.rg [⟨⟨some 7, (.mov (.c (.lst true []))), none⟩, {}⟩] none) walk_Within_C9)
def walk_Within_C3 : TC := (.seq (.rg [⟨⟨some 3, (.box (.t 0)), none⟩, {}⟩, ⟨⟨some 6, (.mov (.c (.lst true []))), none⟩, {}⟩] none) walk_Within_C6)
def walk_Within_E (N : Nat) : List (Nat × Ent) := [(20, pureE [G_Mine, (.list (.int .i64))] [(.list (.int .i64))] (fun x => walk_Least N x.1 x.2))]
def walk_Within_L1 (N : Nat) (n : Nat) (x2 : Int) (x3 : List Int) (x4 : Int) (x5 : Int) (x6 : List Int) : Option (List Int) := loopN (normI 0 walk_Within_N1) (run (walk_Within_E N) N 0 walk_Within_C1) n ⟨[(2, .int .i64 x2), (7, .whole 0), (12, .lst false (.int .i64) x3), (13, .int .i64 x4), (14, .int .i64 x5)], [some (.arr (.int .i64) x6)]⟩ (blkK 0 (seqK (run (walk_Within_E N) N 0 walk_Within_C2) (fin [(.t 6)] [(.list (.int .i64))])))
theorem walk_Within_L1_zero (N : Nat) (x2 : Int) (x3 : List Int) (x4 : Int) (x5 : Int) (x6 : List Int) : walk_Within_L1 N 0 x2 x3 x4 x5 x6 = none := rfl
theorem walk_Within_L1_succ (N : Nat) (n1 : Nat) (x2 : Int) (x3 : List Int) (x4 : Int) (x5 : Int) (x6 : List Int) : walk_Within_L1 N (n1 + 1) x2 x3 x4 x5 x6 =
  bif (decide (x5 < x4)) then
    bif inB x5 x3.length then
    bif (decide ((x3.getD x5.toNat 0) ≤ x2)) then
      bif (decide ((x3.getD x5.toNat 0) < 1099511627776)) then
        bif fitsB (x6.length + 1) 8 then
        walk_Within_L1 N n1 x2 x3 x4 (W (x5 + 1)) (x6 ++ [x5])
        else none
      else
        walk_Within_L1 N n1 x2 x3 x4 (W (x5 + 1)) x6
    else
      walk_Within_L1 N n1 x2 x3 x4 (W (x5 + 1)) x6
    else none
  else
    some x6 := by kernel_rfl
def walk_Within (N : Nat) (a0 : T_Mine) (a1 : List Int) (a2 : Int) : Option (List Int) :=
  Option.bind (walk_Least N a0 a1) fun r1 =>
  walk_Within_L1 N N a2 r1 (r1.length : Int) 0 []
theorem walk_Within_fn : FnOK Try.prog 24 32 (fun _ : Nat => false) walk_Within_C3.er [(.t 6)] := FnOK.mk' Try.func24 (by kernel_rfl) (by kernel_rfl) (by kernel_rfl) (by kernel_rfl) (by kernel_rfl)
theorem walk_Within_envok (N : Nat) : EnvOK Try.prog (walk_Within_E N) := .cons (pureE_ok (walk_Least_pure N)) (.nil)
theorem walk_Within_pure (N : Nat) : PureOK Try.prog 24 [G_Mine, (.list (.int .i64)), (.int .i64)] [(.list (.int .i64))] (fun x => walk_Within N x.1 x.2.1 x.2.2) := pureOK (N := N) mixed walk_Within_fn (walk_Within_envok N) (TC.noh_ok (by kernel_rfl)) rfl (fun x => by kernel_rfl)
/-! ref03_Within -/
def ref03_Within_N1 : List NS := [.own 7 (.int .i64), .wk 8 (.list (.int .i64)), .keep [2, 7, 8, 9], .cmp]
def ref03_Within_C4 : TC := (.cond (.t 16) .skip (.exit 0))
def ref03_Within_C8 : TC := (.cond (.t 31) (.rg [⟨⟨some 32, (.mov (.t 7)), none⟩, {}⟩, ⟨⟨some 33, (.mov (.t 9)), none⟩, {}⟩, ⟨⟨some 34, (.bslice false 1 [(I 0)] 1 [(0, (.t 33))]), none⟩, ⟨(.int .i64), none⟩⟩, ⟨⟨some 35, (.app 1 8 (.t 32) (.t 34)), none⟩, {}⟩, ⟨⟨some 7, (.mov (.t 35)), none⟩, {}⟩] none) .skip)
def ref03_Within_C9 : TC := (.rg [⟨⟨some 17, (.mov (.t 9)), none⟩, {}⟩, ⟨⟨some 18, (.bin .add (.t 17) (.c (I 1))), none⟩, {}⟩, ⟨⟨some 9, (.mov (.t 18)), none⟩, {}⟩] none)
def ref03_Within_C5 : TC := (.seq (.block 1 (.seq (.rg [⟨⟨some 19, (.mov (.t 8)), none⟩, {}⟩, ⟨⟨some 20, (.mov (.t 9)), none⟩, {}⟩, ⟨⟨some 21, (.iadrS 1 (.t 19) (.t 20)), none⟩, {}⟩, ⟨⟨some 22, (.load false 1 (.t 21)), none⟩, {}⟩, ⟨⟨some 23, (.bin .lss (.t 22) (.c (I 1099511627776))), none⟩, {}⟩, ⟨⟨some 24, (.mov (.t 23)),
  none⟩, {}⟩, ⟨⟨some 25, (.mov (.t 8)), some (24, true)⟩, {}⟩, ⟨⟨some 26, (.mov (.t 9)), some (24, true)⟩, {}⟩, ⟨⟨some 27, (.iadrS 1 (.t 25) (.t 26)), some (24, true)⟩, {}⟩, ⟨⟨some 28, (.load false 1 (.t 27)), some (24, true)⟩, {}⟩, ⟨⟨some 29, (.mov (.t 2)), some (24, true)⟩, {}⟩, ⟨⟨some 30, (.bin
  .leq (.t 28) (.t 29)), some (24, true)⟩, {}⟩, ⟨⟨some 31, (.pick (.t 24) (.t 30) (.c (B false))), none⟩, {}⟩] none) ref03_Within_C8)) ref03_Within_C9)
def ref03_Within_C1 : TC := (.seq (.seq (.rg [⟨⟨some 13, (.mov (.t 9)), none⟩, {}⟩, ⟨⟨some 14, (.mov (.t 8)), none⟩, {}⟩, ⟨⟨some 15, (.len (.t 14)), none⟩, {}⟩, ⟨⟨some 16, (.bin .lss (.t 13) (.t 15)), none⟩, {}⟩] none) ref03_Within_C4) ref03_Within_C5)
def ref03_Within_C12 : TC := .ret
def ref03_Within_C10 : TC := (.pre [.frz 6] ref03_Within_C12)
def ref03_Within_C6 : TC := (.seq (.rg [⟨⟨some 36, (.mov (.t 7)), none⟩, {}⟩, ⟨⟨some 6, (.mov (.t 36)), none⟩, {}⟩] none) ref03_Within_C10)
def ref03_Within_C2 : TC := (.pre [.frz 7] ref03_Within_C6)
def ref03_Within_C14 : TC := (.block 0 (.loop ref03_Within_N1 ref03_Within_C1))
def ref03_Within_C13 : TC := (.seq (.seq (.rg [⟨⟨some 9, (.mov (.c (I 0))), none⟩, {}⟩] none) ref03_Within_C14) ref03_Within_C2)
def ref03_Within_C11 : TC := (.seq (.rg [⟨⟨some 10, (.load true 2 (.t 3)), none⟩, {}⟩, ⟨⟨some 11, (.mov (.t 1)), none⟩, {}⟩, ⟨⟨some 12, (.call (.c (.fn 23 [])) [(.t 10), (.t 11)]), none⟩, {}⟩, ⟨⟨some 8, (.mov (.t 12)), none⟩, {}⟩] none) ref03_Within_C13)
def ref03_Within_C7 : TC := (.seq (.rg [⟨⟨some 7, (.mov (.c (.lst true []))), none⟩, {}⟩] none) ref03_Within_C11)
def ref03_Within_C3 : TC := (.seq (.rg [⟨⟨some 3, (.box (.t 0)), none⟩, {}⟩, ⟨⟨some 6, (.mov (.c (.lst true []))), none⟩, {}⟩] none) ref03_Within_C7)
def ref03_Within_E (N : Nat) : List (Nat × Ent) := [(23, pureE [G_Mine, (.list (.int .i64))] [(.list (.int .i64))] (fun x => ref03_Least N x.1 x.2))]
def ref03_Within_L1 (N : Nat) (n : Nat) (x2 : Int) (x3 : List Int) (x4 : Int) (x5 : List Int) : Option (List Int) := loopN (normI 0 ref03_Within_N1) (run (ref03_Within_E N) N 0 ref03_Within_C1) n ⟨[(2, .int .i64 x2), (7, .whole 0), (8, .lst false (.int .i64) x3), (9, .int .i64 x4)], [some (.arr (.int .i64) x5)]⟩ (blkK 0 (seqK (run (ref03_Within_E N) N 0 ref03_Within_C2) (fin [(.t 6)] [(.list (.int .i64))])))
theorem ref03_Within_L1_zero (N : Nat) (x2 : Int) (x3 : List Int) (x4 : Int) (x5 : List Int) : ref03_Within_L1 N 0 x2 x3 x4 x5 = none := rfl
theorem ref03_Within_L1_succ (N : Nat) (n1 : Nat) (x2 : Int) (x3 : List Int) (x4 : Int) (x5 : List Int) : ref03_Within_L1 N (n1 + 1) x2 x3 x4 x5 =
  bif (decide (x4 < (x3.length : Int))) then
    bif inB x4 x3.length then
    bif (decide ((x3.getD x4.toNat 0) < 1099511627776)) then
      bif inB x4 x3.length then
      bif (decide ((x3.getD x4.toNat 0) ≤ x2)) then
        bif fitsB (x5.length + 1) 8 then
        ref03_Within_L1 N n1 x2 x3 (W (x4 + 1)) (x5 ++ [x4])
        else none
      else
        ref03_Within_L1 N n1 x2 x3 (W (x4 + 1)) x5
      else none
    else
      ref03_Within_L1 N n1 x2 x3 (W (x4 + 1)) x5
    else none
  else
    some x5 := by kernel_rfl
def ref03_Within (N : Nat) (a0 : T_Mine) (a1 : List Int) (a2 : Int) : Option (List Int) :=
  Option.bind (ref03_Least N a0 a1) fun r1 =>
  ref03_Within_L1 N N a2 r1 0 []
theorem ref03_Within_fn : FnOK Try.prog 25 37 (fun _ : Nat => false) ref03_Within_C3.er [(.t 6)] := FnOK.mk' Try.func25 (by kernel_rfl) (by kernel_rfl) (by kernel_rfl) (by kernel_rfl) (by kernel_rfl)
theorem ref03_Within_envok (N : Nat) : EnvOK Try.prog (ref03_Within_E N) := .cons (pureE_ok (ref03_Least_pure N)) (.nil)
theorem ref03_Within_pure (N : Nat) : PureOK Try.prog 25 [G_Mine, (.list (.int .i64)), (.int .i64)] [(.list (.int .i64))] (fun x => ref03_Within N x.1 x.2.1 x.2.2) := pureOK (N := N) mixed ref03_Within_fn (ref03_Within_envok N) (TC.noh_ok (by kernel_rfl)) rfl (fun x => by kernel_rfl)
/-! law03_WalkLeast -/
def law03_WalkLeast_N1 : List NS := [.wk 24 (.list (.list (.int .i64))), .keep [2, 8, 10, 24, 25, 26], .cmp]
def law03_WalkLeast_C14 : TC := .ret
def law03_WalkLeast_C12 : TC := (.cond (.t 61) (.seq (.rg [⟨⟨some 6, (.mov (.c (B false))), none⟩, {}⟩] none) law03_WalkLeast_C14) .skip)
def law03_WalkLeast_C9 : TC := (.seq (.rg [⟨⟨some 30, (.load true 2 (.t 8)), none⟩, {}⟩, ⟨⟨some 31, (.mov (.t 12)), none⟩, {}⟩, ⟨⟨some 32, (.call (.c (.fn 20 [])) [(.t 30), (.t 31)]), none⟩, {}⟩, ⟨⟨some 33, (.load true 2 (.t 8)), none⟩, {}⟩, ⟨⟨some 34, (.mov (.t 12)), none⟩, {}⟩, ⟨⟨some 35, (.call (.c (.fn 23 [])) [(.t 33), (.t
  34)]), none⟩, {}⟩, ⟨⟨some 36, (.call (.c (.fn 19 [])) [(.t 32), (.t 35)]), none⟩, {}⟩, ⟨⟨some 37, (.un .not (.t 36)), none⟩, {}⟩, ⟨⟨some 38, (.mov (.t 37)), none⟩, {}⟩, ⟨⟨some 39, (.load true 2 (.t 8)), some (38, false)⟩, {}⟩, ⟨⟨some 40, (.mov (.t 12)), some (38, false)⟩, {}⟩, ⟨⟨some 41, (.mov (.t
  10)), some (38, false)⟩, {}⟩, ⟨⟨some 42, (.call (.c (.fn 24 [])) [(.t 39), (.t 40), (.t 41)]), some (38, false)⟩, {}⟩, ⟨⟨some 43, (.load true 2 (.t 8)), some (38, false)⟩, {}⟩, ⟨⟨some 44, (.mov (.t 12)), some (38, false)⟩, {}⟩, ⟨⟨some 45, (.mov (.t 10)), some (38, false)⟩, {}⟩, ⟨⟨some 46, (.call
  (.c (.fn 25 [])) [(.t 43), (.t 44), (.t 45)]), some (38, false)⟩, {}⟩, ⟨⟨some 47, (.call (.c (.fn 19 [])) [(.t 42), (.t 46)]), some (38, false)⟩, {}⟩, ⟨⟨some 48, (.un .not (.t 47)), some (38, false)⟩, {}⟩, ⟨⟨some 49, (.pick (.t 38) (.c (B true)) (.t 48)), none⟩, {}⟩, ⟨⟨some 50, (.mov (.t 49)),
  none⟩, {}⟩, ⟨⟨some 51, (.load true 2 (.t 8)), some (50, false)⟩, {}⟩, ⟨⟨some 52, (.mov (.t 12)), some (50, false)⟩, {}⟩, ⟨⟨some 53, (.mov (.t 2)), some (50, false)⟩, {}⟩, ⟨⟨some 54, (.call (.c (.fn 24 [])) [(.t 51), (.t 52), (.t 53)]), some (50, false)⟩, {}⟩, ⟨⟨some 55, (.load true 2 (.t 8)), some
  (50, false)⟩, {}⟩, ⟨⟨some 56, (.mov (.t 12)), some (50, false)⟩, {}⟩, ⟨⟨some 57, (.mov (.t 2)), some (50, false)⟩, {}⟩, ⟨⟨some 58, (.call (.c (.fn 25 [])) [(.t 55), (.t 56), (.t 57)]), some (50, false)⟩, {}⟩, ⟨⟨some 59, (.call (.c (.fn 19 [])) [(.t 54), (.t 58)]), some (50, false)⟩, {}⟩, ⟨⟨some 60,
  (.un .not (.t 59)), some (50, false)⟩, {}⟩, ⟨⟨some 61, (.pick (.t 50) (.c (B true)) (.t 60)), none⟩, {}⟩] (some [(2, 3), (12, 13), (24, 25)])) law03_WalkLeast_C12)
def law03_WalkLeast_C10 : TC := (.rg [⟨⟨some 62, (.bin .add (.t 26) (.c (I 1))), none⟩, {}⟩, ⟨⟨some 26, (.mov (.t 62)), none⟩, {}⟩] none)
def law03_WalkLeast_C7 : TC := (.seq (.block 1 (.seq (.rg [⟨⟨some 28, (.iadrS 1 (.t 24) (.t 26)), none⟩, {}⟩, ⟨⟨some 29, (.load false 1 (.t 28)), none⟩, {}⟩, ⟨⟨some 12, (.mov (.t 29)), none⟩, {}⟩] none) law03_WalkLeast_C9)) law03_WalkLeast_C10)
def law03_WalkLeast_C4 : TC := (.seq (.cond (.t 27) .skip (.exit 0)) law03_WalkLeast_C7)
def law03_WalkLeast_C1 : TC := (.seq (.rg [⟨⟨some 27, (.bin .lss (.t 26) (.t 25)), none⟩, {}⟩] none) law03_WalkLeast_C4)
def law03_WalkLeast_C5 : TC := .ret
def law03_WalkLeast_C2 : TC := (.seq (.rg [⟨⟨some 63, (.call (.c (.fn 16 [])) []), none⟩, {}⟩, ⟨⟨some 6, (.mov (.t 63)), none⟩, {}⟩] none) law03_WalkLeast_C5)
def law03_WalkLeast_C16 : TC := (.block 0 (.loop law03_WalkLeast_N1 law03_WalkLeast_C1))
def law03_WalkLeast_C15 : TC := (.seq (.seq (.rg [⟨⟨some 22, (.mov (.t 9)), none⟩, {}⟩, ⟨⟨some 23, (.mov (.t 1)), none⟩, {}⟩, ⟨⟨some 24, (.bslice false 1 [(.lst true [])] 2 [(0, (.t 22)), (1, (.t 23))]), none⟩, ⟨(.list (.int .i64)), none⟩⟩, ⟨⟨some 25, (.len (.t 24)), none⟩, {}⟩, ⟨⟨some 26, (.mov (.c (I 0))), none⟩, {}⟩] none)
  law03_WalkLeast_C16) law03_WalkLeast_C2)
def law03_WalkLeast_C13 : TC := (.seq (.rg [⟨⟨some 20, (.mov (.t 2)), none⟩, {}⟩, ⟨⟨some 21, (.call (.c (.fn 11 [])) [(.t 20), (.c (I 900))]), none⟩, {}⟩, ⟨⟨some 10, (.mov (.t 21)), none⟩, {}⟩] none) law03_WalkLeast_C15)
def law03_WalkLeast_C11 : TC := (.seq (.rg [⟨⟨some 17, (.mov (.t 7)), none⟩, {}⟩, ⟨⟨some 18, (.load true 2 (.t 8)), none⟩, {}⟩, ⟨⟨some 19, (.call (.c (.fn 21 [])) [(.t 17), (.t 18)]), none⟩, {}⟩, ⟨⟨some 9, (.mov (.t 19)), none⟩, {}⟩] none) law03_WalkLeast_C13)
def law03_WalkLeast_C8 : TC := (.seq (.rg [⟨⟨some 15, (.mov (.t 7)), none⟩, {}⟩, ⟨⟨some 16, (.call (.c (.fn 10 [])) [(.t 15)]), none⟩, {}⟩, ⟨⟨some 8, (.alloc [(.lst true []), (.lst true [])]), none⟩, {}⟩, ⟨⟨none, (.store 2 (.t 8) (.t 16)), none⟩, {}⟩] none) law03_WalkLeast_C11)
def law03_WalkLeast_C6 : TC := (.seq (.rg [⟨⟨some 13, (.mov (.t 0)), none⟩, {}⟩, ⟨⟨some 14, (.call (.c (.fn 9 [])) [(.t 13)]), none⟩, {}⟩, ⟨⟨some 7, (.mov (.t 14)), none⟩, {}⟩] none) law03_WalkLeast_C8)
def law03_WalkLeast_C3 : TC := (.seq (.rg [⟨⟨some 6, (.mov (.c (B false))), none⟩, {}⟩] none) law03_WalkLeast_C6)
def law03_WalkLeast_E (N : Nat) : List (Nat × Ent) := [(9, sfE [none] [.v (.list (.int .u8))] [.n G_Codes] (fun x => draw_New N x)), (10, sfE [none] [.b (.v G_Codes)] [.v G_Mine] (fun x => draw_Codes_Mine N x)), (21, sfE [none, none] [.b (.v G_Codes), .v G_Mine] [.v (.list (.int .i64))] (fun x => law03_times N x.1 x.2)), (11, pureE [(.int .i64), (.int .i64)] [(.int .i64)] (fun x => draw_Mod N x.1 x.2)), (20, pureE [G_Mine, (.list (.int .i64))] [(.list (.int .i64))] (fun x => walk_Least N x.1 x.2)), (23, pureE [G_Mine, (.list (.int .i64))] [(.list (.int .i64))] (fun x => ref03_Least N x.1 x.2)), (19, pureE [(.list (.int .i64)), (.list (.int .i64))] [.bool] (fun x => ref01_Ints N x.1 x.2)), (24, pureE [G_Mine, (.list (.int .i64)), (.int .i64)] [(.list (.int .i64))] (fun x => walk_Within N x.1 x.2.1 x.2.2)), (25, pureE [G_Mine, (.list (.int .i64)), (.int .i64)] [(.list (.int .i64))] (fun x => ref03_Within N x.1 x.2.1 x.2.2)), (16, pureE [] [.bool] (fun x => law03_awake N))]
def law03_WalkLeast_L1 (N : Nat) (n : Nat) (x5 : Int) (x6 : Int) (x7 : List (List Int)) (x8 : Int) (x9 : Int) (x10 : List T_Place) (x11 : List T_Road) : Option Bool := loopN (normI 0 law03_WalkLeast_N1) (run (law03_WalkLeast_E N) N 0 law03_WalkLeast_C1) n ⟨[(2, .int .i64 x5), (8, .ptr 0 0 0), (10, .int .i64 x6), (24, .lst false (.list (.int .i64)) x7), (25, .int .i64 x8), (26, .int .i64 x9)], [some (.box 0 [.lst false G_Place x10, .lst false G_Road x11])]⟩ (blkK 0 (seqK (run (law03_WalkLeast_E N) N 0 law03_WalkLeast_C2) (fin [(.t 6)] [.bool])))
theorem law03_WalkLeast_L1_zero (N : Nat) (x5 : Int) (x6 : Int) (x7 : List (List Int)) (x8 : Int) (x9 : Int) (x10 : List T_Place) (x11 : List T_Road) : law03_WalkLeast_L1 N 0 x5 x6 x7 x8 x9 x10 x11 = none := rfl
theorem law03_WalkLeast_L1_succ (N : Nat) (n1 : Nat) (x5 : Int) (x6 : Int) (x7 : List (List Int)) (x8 : Int) (x9 : Int) (x10 : List T_Place) (x11 : List T_Road) : law03_WalkLeast_L1 N (n1 + 1) x5 x6 x7 x8 x9 x10 x11 =
  bif (decide (x9 < x8)) then
    bif inB x9 x7.length then
    Option.bind (walk_Least N (x10, x11) (x7.getD x9.toNat [])) fun r12 =>
    Option.bind (ref03_Least N (x10, x11) (x7.getD x9.toNat [])) fun r13 =>
    Option.bind (ref01_Ints N r12 r13) fun r14 =>
    bif (!r14) then
      some false
    else
      Option.bind (walk_Within N (x10, x11) (x7.getD x9.toNat []) x6) fun r15 =>
      Option.bind (ref03_Within N (x10, x11) (x7.getD x9.toNat []) x6) fun r16 =>
      Option.bind (ref01_Ints N r15 r16) fun r17 =>
      bif (!r17) then
        some false
      else
        Option.bind (walk_Within N (x10, x11) (x7.getD x9.toNat []) x5) fun r18 =>
        Option.bind (ref03_Within N (x10, x11) (x7.getD x9.toNat []) x5) fun r19 =>
        Option.bind (ref01_Ints N r18 r19) fun r20 =>
        bif (!r20) then
          some false
        else
          law03_WalkLeast_L1 N n1 x5 x6 x7 x8 (W (x9 + 1)) x10 x11
    else none
  else
    Option.bind (law03_awake N) fun r28 =>
    some r28 := by kernel_rfl
def law03_WalkLeast (N : Nat) (a0 : List Int) (a1 : List Int) (a2 : Int) : Option Bool :=
  Option.bind (draw_New N a0) fun r1 =>
  Option.bind (draw_Codes_Mine N r1.1) fun r2 =>
  Option.bind (law03_times N r2.2 r2.1) fun r3 =>
  Option.bind (draw_Mod N a2 900) fun r4 =>
  law03_WalkLeast_L1 N N a2 r4 [r3.1, a1] ([r3.1, a1].length : Int) 0 r2.1.1 r2.1.2
theorem law03_WalkLeast_fn : FnOK Try.prog 8 64 (fun _ : Nat => false) law03_WalkLeast_C3.er [(.t 6)] := FnOK.mk' Try.func8 (by kernel_rfl) (by kernel_rfl) (by kernel_rfl) (by kernel_rfl) (by kernel_rfl)
theorem law03_WalkLeast_envok (N : Nat) : EnvOK Try.prog (law03_WalkLeast_E N) := .cons (sfE_ok (draw_New_sf N)) (.cons (sfE_ok (draw_Codes_Mine_sf N)) (.cons (sfE_ok (law03_times_sf N)) (.cons (pureE_ok (draw_Mod_pure N)) (.cons (pureE_ok (walk_Least_pure N)) (.cons (pureE_ok (ref03_Least_pure N)) (.cons (pureE_ok (ref01_Ints_pure N)) (.cons (pureE_ok (walk_Within_pure N)) (.cons (pureE_ok (ref03_Within_pure N)) (.cons (pureE_ok (law03_awake_pure N)) (.nil))))))))))
theorem law03_WalkLeast_pure (N : Nat) : PureOK Try.prog 8 [(.list (.int .u8)), (.list (.int .i64)), (.int .i64)] [.bool] (fun x => law03_WalkLeast N x.1 x.2.1 x.2.2) := pureOK (N := N) mixed law03_WalkLeast_fn (law03_WalkLeast_envok N) (TC.noh_ok (by kernel_rfl)) rfl (fun x => by kernel_rfl)
end M
end Go.Proofs.Ytihgpillkgndbaa
