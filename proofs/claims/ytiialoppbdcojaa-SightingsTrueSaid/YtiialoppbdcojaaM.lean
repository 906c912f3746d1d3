/- Plain models of functions of this seat, each checked against the loaded program and the walk by the kernel. No condition: closed facts. Printed by a program of ours. -/
import Derived.Test.YtiialoppbdcojaaM1
set_option linter.all false
namespace Go.Proofs.Ytiialoppbdcojaa
open Go.Pv
namespace M
/-! sightings_Valid_1 -/
def sightings_Valid_1_NE : List NS := [.frzo 0, .keep [3], .out [0]]
def sightings_Valid_1_C4 : TC := .ret
def sightings_Valid_1_C3 : TC := (.pre [.frzo 0, .keep [3], .out [0]] sightings_Valid_1_C4)
def sightings_Valid_1_C2 : TC := (.seq (.rg [⟨⟨some 4, (.fadr 0 (.t 2)), none⟩, {}⟩, ⟨⟨some 5, (.load false 1 (.t 4)), none⟩, {}⟩, ⟨⟨some 6, (.len (.t 5)), none⟩, {}⟩, ⟨⟨some 7, (.bin .eql (.t 6) (.c (I 0))), none⟩, {}⟩, ⟨⟨some 8, (.mov (.t 7)), none⟩, {}⟩, ⟨⟨some 9, (.fadr 0 (.t 2)), some (8, false)⟩, {}⟩, ⟨⟨some 10, (.load false 1
  (.t 9)), some (8, false)⟩, {}⟩, ⟨⟨some 11, (.fadr 0 (.t 1)), some (8, false)⟩, {}⟩, ⟨⟨some 12, (.load false 1 (.t 11)), some (8, false)⟩, {}⟩, ⟨⟨some 13, (.len (.t 12)), some (8, false)⟩, {}⟩, ⟨⟨some 14, (.bin .sub (.t 13) (.c (I 1))), some (8, false)⟩, {}⟩, ⟨⟨some 15, (.call (.c (.fn 36 [])) [(.t
  10), (.c (I 0)), (.t 14)]), some (8, false)⟩, {}⟩, ⟨⟨some 16, (.un .not (.t 15)), some (8, false)⟩, {}⟩, ⟨⟨some 17, (.pick (.t 8) (.c (B true)) (.t 16)), none⟩, {}⟩, ⟨⟨some 18, (.mov (.t 17)), none⟩, {}⟩, ⟨⟨some 19, (.fadr 1 (.t 2)), some (18, false)⟩, {}⟩, ⟨⟨some 20, (.load false 1 (.t 19)), some
  (18, false)⟩, {}⟩, ⟨⟨some 21, (.call (.c (.fn 31 [])) [(.t 20), (.c (I 1)), (.c (I 600))]), some (18, false)⟩, {}⟩, ⟨⟨some 22, (.un .not (.t 21)), some (18, false)⟩, {}⟩, ⟨⟨some 23, (.pick (.t 18) (.c (B true)) (.t 22)), none⟩, {}⟩, ⟨⟨some 24, (.mov (.t 23)), none⟩, {}⟩, ⟨⟨some 25, (.fadr 2 (.t
  2)), some (24, false)⟩, {}⟩, ⟨⟨some 26, (.load false 1 (.t 25)), some (24, false)⟩, {}⟩, ⟨⟨some 27, (.call (.c (.fn 31 [])) [(.t 26), (.c (I 0)), (.c (I 10))]), some (24, false)⟩, {}⟩, ⟨⟨some 28, (.un .not (.t 27)), some (24, false)⟩, {}⟩, ⟨⟨some 29, (.pick (.t 24) (.c (B true)) (.t 28)), none⟩,
  {}⟩, ⟨⟨some 30, (.mov (.t 29)), none⟩, {}⟩, ⟨⟨some 31, (.fadr 3 (.t 2)), some (30, false)⟩, {}⟩, ⟨⟨some 32, (.load false 1 (.t 31)), some (30, false)⟩, {}⟩, ⟨⟨some 33, (.call (.c (.fn 31 [])) [(.t 32), (.c (I 0)), (.c (I 60))]), some (30, false)⟩, {}⟩, ⟨⟨some 34, (.un .not (.t 33)), some (30,
  false)⟩, {}⟩, ⟨⟨some 35, (.pick (.t 30) (.c (B true)) (.t 34)), none⟩, {}⟩, ⟨⟨some 3, (.mov (.t 35)), none⟩, {}⟩] none) sightings_Valid_1_C3)
def sightings_Valid_1_C1 : TC := (.seq (.rg [⟨⟨some 2, (.box (.t 0)), none⟩, {}⟩, ⟨⟨some 3, (.mov (.c (B false))), none⟩, {}⟩] none) sightings_Valid_1_C2)
def sightings_Valid_1_E (N : Nat) : List (Nat × Ent) := [(36, pureE [(.list (.int .i64)), (.int .i64), (.int .i64)] [.bool] (fun x => lists_Rising N x.1 x.2.1 x.2.2)), (31, pureE [(.int .i64), (.int .i64), (.int .i64)] [.bool] (fun x => lists_In N x.1 x.2.1 x.2.2))]
def sightings_Valid_1 (N : Nat) (a0 : T_TagReader) (a1 : T_Mine) : Option (Bool × T_Mine) :=
  bif ((a0.1.length : Int) == 0) then
    some (true, a1)
  else
    Option.bind (lists_Rising N a0.1 0 (W ((a1.1.length : Int) - 1))) fun r2 =>
    bif (!r2) then
      some (true, a1)
    else
      Option.bind (lists_In N a0.2.1 1 600) fun r3 =>
      bif (!r3) then
        some (true, a1)
      else
        Option.bind (lists_In N a0.2.2.1 0 10) fun r4 =>
        bif (!r4) then
          some (true, a1)
        else
          Option.bind (lists_In N a0.2.2.2 0 60) fun r5 =>
          some ((!r5), a1)
theorem sightings_Valid_1_fn : FnOK Try.prog 35 36 (fun _ : Nat => false) sightings_Valid_1_C1.er [(.t 3)] := FnOK.mk' Try.func35 (by kernel_rfl) (by kernel_rfl) (by kernel_rfl) (by kernel_rfl) (by kernel_rfl)
theorem sightings_Valid_1_envok (N : Nat) : EnvOK Try.prog (sightings_Valid_1_E N) := .cons (pureE_ok (lists_Rising_pure N)) (.cons (pureE_ok (lists_In_pure N)) (.nil))
theorem sightings_Valid_1_sf (N : Nat) : SFOK Try.prog 35 [none, none] [.v G_TagReader, .b (.v G_Mine)] [.v .bool] (fun x => sightings_Valid_1 N x.1 x.2) := sfOK (N := N) (p := 1) (q := 1) (ns := sightings_Valid_1_NE) mixed sightings_Valid_1_fn (sightings_Valid_1_envok N) rfl rfl rfl (fun x => by kernel_rfl)
/-! plan_spanIn -/
def plan_spanIn_C3 : TC := .ret
def plan_spanIn_C2 : TC := (.seq (.rg [⟨⟨some 7, (.mov (.t 1)), none⟩, {}⟩, ⟨⟨some 8, (.fadr 0 (.t 3)), none⟩, {}⟩, ⟨⟨some 9, (.load false 1 (.t 8)), none⟩, {}⟩, ⟨⟨some 10, (.bin .leq (.t 7) (.t 9)), none⟩, {}⟩, ⟨⟨some 11, (.mov (.t 10)), none⟩, {}⟩, ⟨⟨some 12, (.fadr 0 (.t 3)), some (11, true)⟩, {}⟩, ⟨⟨some 13, (.load false 1
  (.t 12)), some (11, true)⟩, {}⟩, ⟨⟨some 14, (.fadr 1 (.t 3)), some (11, true)⟩, {}⟩, ⟨⟨some 15, (.load false 1 (.t 14)), some (11, true)⟩, {}⟩, ⟨⟨some 16, (.bin .leq (.t 13) (.t 15)), some (11, true)⟩, {}⟩, ⟨⟨some 17, (.pick (.t 11) (.t 16) (.c (B false))), none⟩, {}⟩, ⟨⟨some 18, (.mov (.t 17)),
  none⟩, {}⟩, ⟨⟨some 19, (.fadr 1 (.t 3)), some (18, true)⟩, {}⟩, ⟨⟨some 20, (.load false 1 (.t 19)), some (18, true)⟩, {}⟩, ⟨⟨some 21, (.mov (.t 2)), some (18, true)⟩, {}⟩, ⟨⟨some 22, (.bin .leq (.t 20) (.t 21)), some (18, true)⟩, {}⟩, ⟨⟨some 23, (.pick (.t 18) (.t 22) (.c (B false))), none⟩, {}⟩,
  ⟨⟨some 6, (.mov (.t 23)), none⟩, {}⟩] none) plan_spanIn_C3)
def plan_spanIn_C1 : TC := (.seq (.rg [⟨⟨some 3, (.box (.t 0)), none⟩, {}⟩, ⟨⟨some 6, (.mov (.c (B false))), none⟩, {}⟩] none) plan_spanIn_C2)
def plan_spanIn_E (N : Nat) : List (Nat × Ent) := []
def plan_spanIn (N : Nat) (a0 : T_Span) (a1 : Int) (a2 : Int) : Option Bool :=
  bif (decide (a1 ≤ a0.1)) then
    bif (decide (a0.1 ≤ a0.2)) then
      some (decide (a0.2 ≤ a2))
    else
      some false
  else
    some false
theorem plan_spanIn_fn : FnOK Try.prog 49 24 (fun _ : Nat => false) plan_spanIn_C1.er [(.t 6)] := FnOK.mk' Try.func49 (by kernel_rfl) (by kernel_rfl) (by kernel_rfl) (by kernel_rfl) (by kernel_rfl)
theorem plan_spanIn_envok (N : Nat) : EnvOK Try.prog (plan_spanIn_E N) := .nil
theorem plan_spanIn_pure (N : Nat) : PureOK Try.prog 49 [G_Span, (.int .i64), (.int .i64)] [.bool] (fun x => plan_spanIn N x.1 x.2.1 x.2.2) := pureOK (N := N) mixed plan_spanIn_fn (plan_spanIn_envok N) rfl (fun x => by kernel_rfl)
/-! plan_Check -/
def plan_Check_N1 : List NS := [.wk 19 (.list G_Place), .keep [1, 19, 20, 21], .cmp]
def plan_Check_N2 : List NS := [.wk 38 (.list G_Road), .keep [5, 38, 39, 40], .cmp]
def plan_Check_C17 : TC := .ret
def plan_Check_C9 : TC := (.cond (.t 88) (.seq (.rg [⟨⟨some 2, (.mov (.c (I 1))), none⟩, {}⟩] none) plan_Check_C17) .skip)
def plan_Check_C24 : TC := .ret
def plan_Check_C18 : TC := (.cond (.t 98) (.seq (.rg [⟨⟨some 2, (.mov (.c (I 1))), none⟩, {}⟩] none) plan_Check_C24) .skip)
def plan_Check_C10 : TC := (.seq (.rg [⟨⟨some 89, (.fadr 6 (.t 7)), none⟩, {}⟩, ⟨⟨some 90, (.load true 2 (.t 89)), none⟩, {}⟩, ⟨⟨some 91, (.call (.c (.fn 49 [])) [(.t 90), (.c (I 1)), (.c (I 262144))]), none⟩, {}⟩, ⟨⟨some 92, (.un .not (.t 91)), none⟩, {}⟩, ⟨⟨some 93, (.mov (.t 92)), none⟩, {}⟩, ⟨⟨some 94, (.fadr 8 (.t 7)),
  some (93, false)⟩, {}⟩, ⟨⟨some 95, (.load true 2 (.t 94)), some (93, false)⟩, {}⟩, ⟨⟨some 96, (.call (.c (.fn 49 [])) [(.t 95), (.c (I (-2199023255552))), (.c (I 2199023255552))]), some (93, false)⟩, {}⟩, ⟨⟨some 97, (.un .not (.t 96)), some (93, false)⟩, {}⟩, ⟨⟨some 98, (.pick (.t 93) (.c (B true))
  (.t 97)), none⟩, {}⟩] none) plan_Check_C18)
def plan_Check_C1 : TC := (.seq (.seq (.rg [⟨⟨some 71, (.fadr 2 (.t 7)), none⟩, {}⟩, ⟨⟨some 72, (.load false 1 (.t 71)), none⟩, {}⟩, ⟨⟨some 73, (.bin .lss (.t 72) (.c (I 1))), none⟩, {}⟩, ⟨⟨some 74, (.mov (.t 73)), none⟩, {}⟩, ⟨⟨some 75, (.fadr 2 (.t 7)), some (74, false)⟩, {}⟩, ⟨⟨some 76, (.load false 1 (.t 75)), some (74,
  false)⟩, {}⟩, ⟨⟨some 77, (.bin .gtr (.t 76) (.c (I 100000))), some (74, false)⟩, {}⟩, ⟨⟨some 78, (.pick (.t 74) (.c (B true)) (.t 77)), none⟩, {}⟩, ⟨⟨some 79, (.mov (.t 78)), none⟩, {}⟩, ⟨⟨some 80, (.fadr 3 (.t 7)), some (79, false)⟩, {}⟩, ⟨⟨some 81, (.load false 1 (.t 80)), some (79, false)⟩, {}⟩,
  ⟨⟨some 82, (.bin .lss (.t 81) (.c (I 1))), some (79, false)⟩, {}⟩, ⟨⟨some 83, (.pick (.t 79) (.c (B true)) (.t 82)), none⟩, {}⟩, ⟨⟨some 84, (.mov (.t 83)), none⟩, {}⟩, ⟨⟨some 85, (.fadr 3 (.t 7)), some (84, false)⟩, {}⟩, ⟨⟨some 86, (.load false 1 (.t 85)), some (84, false)⟩, {}⟩, ⟨⟨some 87, (.bin
  .gtr (.t 86) (.c (I 1000))), some (84, false)⟩, {}⟩, ⟨⟨some 88, (.pick (.t 84) (.c (B true)) (.t 87)), none⟩, {}⟩] none) plan_Check_C9) plan_Check_C10)
def plan_Check_C2 : TC := (.rg [⟨⟨some 99, (.bin .add (.t 40) (.c (I 1))), none⟩, {}⟩, ⟨⟨some 40, (.mov (.t 99)), none⟩, {}⟩] none)
def plan_Check_C32 : TC := .ret
def plan_Check_C29 : TC := (.cond (.t 70) (.seq (.rg [⟨⟨some 2, (.mov (.c (I 4))), none⟩, {}⟩] none) plan_Check_C32) .skip)
def plan_Check_C30 : TC := (.join [.wk 38 (.list G_Road), .keep [5, 7, 38, 39, 40], .cmp] plan_Check_C1)
def plan_Check_C25 : TC := (.seq (.seq (.rg [⟨⟨some 44, (.fadr 0 (.t 7)), none⟩, {}⟩, ⟨⟨some 45, (.load false 1 (.t 44)), none⟩, {}⟩, ⟨⟨some 46, (.bin .lss (.t 45) (.c (I 0))), none⟩, {}⟩, ⟨⟨some 47, (.mov (.t 46)), none⟩, {}⟩, ⟨⟨some 48, (.fadr 0 (.t 7)), some (47, false)⟩, {}⟩, ⟨⟨some 49, (.load false 1 (.t 48)), some (47,
  false)⟩, {}⟩, ⟨⟨some 50, (.mov (.t 5)), some (47, false)⟩, {}⟩, ⟨⟨some 51, (.bin .geq (.t 49) (.t 50)), some (47, false)⟩, {}⟩, ⟨⟨some 52, (.pick (.t 47) (.c (B true)) (.t 51)), none⟩, {}⟩, ⟨⟨some 53, (.mov (.t 52)), none⟩, {}⟩, ⟨⟨some 54, (.fadr 1 (.t 7)), some (53, false)⟩, {}⟩, ⟨⟨some 55, (.load
  false 1 (.t 54)), some (53, false)⟩, {}⟩, ⟨⟨some 56, (.bin .lss (.t 55) (.c (I 0))), some (53, false)⟩, {}⟩, ⟨⟨some 57, (.pick (.t 53) (.c (B true)) (.t 56)), none⟩, {}⟩, ⟨⟨some 58, (.mov (.t 57)), none⟩, {}⟩, ⟨⟨some 59, (.fadr 1 (.t 7)), some (58, false)⟩, {}⟩, ⟨⟨some 60, (.load false 1 (.t 59)),
  some (58, false)⟩, {}⟩, ⟨⟨some 61, (.mov (.t 5)), some (58, false)⟩, {}⟩, ⟨⟨some 62, (.bin .geq (.t 60) (.t 61)), some (58, false)⟩, {}⟩, ⟨⟨some 63, (.pick (.t 58) (.c (B true)) (.t 62)), none⟩, {}⟩, ⟨⟨some 64, (.mov (.t 63)), none⟩, {}⟩, ⟨⟨some 65, (.fadr 0 (.t 7)), some (64, false)⟩, {}⟩, ⟨⟨some
  66, (.load false 1 (.t 65)), some (64, false)⟩, {}⟩, ⟨⟨some 67, (.fadr 1 (.t 7)), some (64, false)⟩, {}⟩, ⟨⟨some 68, (.load false 1 (.t 67)), some (64, false)⟩, {}⟩, ⟨⟨some 69, (.bin .eql (.t 66) (.t 68)), some (64, false)⟩, {}⟩, ⟨⟨some 70, (.pick (.t 64) (.c (B true)) (.t 69)), none⟩, {}⟩] none)
  plan_Check_C29) plan_Check_C30)
def plan_Check_C19 : TC := (.seq (.block 3 (.seq (.rg [⟨⟨some 42, (.iadrS 10 (.t 38) (.t 40)), none⟩, {}⟩, ⟨⟨some 43, (.load true 10 (.t 42)), none⟩, {}⟩, ⟨⟨some 7, (.alloc [(I 0), (I 0), (I 0), (I 0), (B false), (B false), (I 0), (I 0), (I 0), (I 0)]), none⟩, {}⟩, ⟨⟨none, (.store 10 (.t 7) (.t 43)), none⟩, {}⟩] none)
  plan_Check_C25)) plan_Check_C2)
def plan_Check_C11 : TC := (.seq (.cond (.t 41) .skip (.exit 2)) plan_Check_C19)
def plan_Check_C3 : TC := (.seq (.rg [⟨⟨some 41, (.bin .lss (.t 40) (.t 39)), none⟩, {}⟩] none) plan_Check_C11)
def plan_Check_C12 : TC := .ret
def plan_Check_C4 : TC := (.seq (.rg [⟨⟨some 2, (.mov (.c (I 0))), none⟩, {}⟩] none) plan_Check_C12)
def plan_Check_C33 : TC := .ret
def plan_Check_C31 : TC := (.cond (.t 32) (.seq (.rg [⟨⟨some 2, (.mov (.c (I 1))), none⟩, {}⟩] none) plan_Check_C33) .skip)
def plan_Check_C26 : TC := (.seq (.rg [⟨⟨some 25, (.fadr 0 (.t 4)), none⟩, {}⟩, ⟨⟨some 26, (.load false 1 (.t 25)), none⟩, {}⟩, ⟨⟨some 27, (.bin .lss (.t 26) (.c (I (-10000)))), none⟩, {}⟩, ⟨⟨some 28, (.mov (.t 27)), none⟩, {}⟩, ⟨⟨some 29, (.fadr 0 (.t 4)), some (28, false)⟩, {}⟩, ⟨⟨some 30, (.load false 1 (.t 29)), some (28,
  false)⟩, {}⟩, ⟨⟨some 31, (.bin .gtr (.t 30) (.c (I 10000))), some (28, false)⟩, {}⟩, ⟨⟨some 32, (.pick (.t 28) (.c (B true)) (.t 31)), none⟩, {}⟩] none) plan_Check_C31)
def plan_Check_C27 : TC := (.rg [⟨⟨some 33, (.bin .add (.t 21) (.c (I 1))), none⟩, {}⟩, ⟨⟨some 21, (.mov (.t 33)), none⟩, {}⟩] none)
def plan_Check_C20 : TC := (.seq (.block 1 (.seq (.rg [⟨⟨some 23, (.iadrS 2 (.t 19) (.t 21)), none⟩, {}⟩, ⟨⟨some 24, (.load true 2 (.t 23)), none⟩, {}⟩, ⟨⟨some 4, (.alloc [(I 0), (B false)]), none⟩, {}⟩, ⟨⟨none, (.store 2 (.t 4) (.t 24)), none⟩, {}⟩] none) plan_Check_C26)) plan_Check_C27)
def plan_Check_C13 : TC := (.seq (.cond (.t 22) .skip (.exit 0)) plan_Check_C20)
def plan_Check_C5 : TC := (.seq (.rg [⟨⟨some 22, (.bin .lss (.t 21) (.t 20)), none⟩, {}⟩] none) plan_Check_C13)
def plan_Check_C21 : TC := (.block 2 (.loop plan_Check_N2 plan_Check_C3))
def plan_Check_C14 : TC := (.seq (.seq (.rg [⟨⟨some 37, (.fadr 1 (.t 1)), none⟩, {}⟩, ⟨⟨some 38, (.load false 1 (.t 37)), none⟩, {}⟩, ⟨⟨some 39, (.len (.t 38)), none⟩, {}⟩, ⟨⟨some 40, (.mov (.c (I 0))), none⟩, {}⟩] none) plan_Check_C21) plan_Check_C4)
def plan_Check_C6 : TC := (.seq (.rg [⟨⟨some 34, (.fadr 0 (.t 1)), none⟩, {}⟩, ⟨⟨some 35, (.load false 1 (.t 34)), none⟩, {}⟩, ⟨⟨some 36, (.len (.t 35)), none⟩, {}⟩, ⟨⟨some 5, (.mov (.t 36)), none⟩, {}⟩] none) plan_Check_C14)
def plan_Check_C15 : TC := (.block 0 (.loop plan_Check_N1 plan_Check_C5))
def plan_Check_C7 : TC := (.seq (.seq (.rg [⟨⟨some 18, (.fadr 0 (.t 1)), none⟩, {}⟩, ⟨⟨some 19, (.load false 1 (.t 18)), none⟩, {}⟩, ⟨⟨some 20, (.len (.t 19)), none⟩, {}⟩, ⟨⟨some 21, (.mov (.c (I 0))), none⟩, {}⟩] none) plan_Check_C15) plan_Check_C6)
def plan_Check_C28 : TC := .ret
def plan_Check_C22 : TC := (.cond (.t 17) (.seq (.rg [⟨⟨some 2, (.mov (.c (I 2))), none⟩, {}⟩] none) plan_Check_C28) .skip)
def plan_Check_C23 : TC := (.join [.keep [1], .cmp] plan_Check_C7)
def plan_Check_C16 : TC := (.seq (.seq (.rg [⟨⟨some 8, (.fadr 0 (.t 1)), none⟩, {}⟩, ⟨⟨some 9, (.load false 1 (.t 8)), none⟩, {}⟩, ⟨⟨some 10, (.len (.t 9)), none⟩, {}⟩, ⟨⟨some 11, (.bin .gtr (.t 10) (.c (I 64))), none⟩, {}⟩, ⟨⟨some 12, (.mov (.t 11)), none⟩, {}⟩, ⟨⟨some 13, (.fadr 1 (.t 1)), some (12, false)⟩, {}⟩, ⟨⟨some 14,
  (.load false 1 (.t 13)), some (12, false)⟩, {}⟩, ⟨⟨some 15, (.len (.t 14)), some (12, false)⟩, {}⟩, ⟨⟨some 16, (.bin .gtr (.t 15) (.c (I 128))), some (12, false)⟩, {}⟩, ⟨⟨some 17, (.pick (.t 12) (.c (B true)) (.t 16)), none⟩, {}⟩] none) plan_Check_C22) plan_Check_C23)
def plan_Check_C8 : TC := (.seq (.rg [⟨⟨some 1, (.box (.t 0)), none⟩, {}⟩, ⟨⟨some 2, (.mov (.c (I 0))), none⟩, {}⟩] none) plan_Check_C16)
def plan_Check_E (N : Nat) : List (Nat × Ent) := [(49, pureE [G_Span, (.int .i64), (.int .i64)] [.bool] (fun x => plan_spanIn N x.1 x.2.1 x.2.2))]
def plan_Check_J2 (N n2 : Nat) (x19 : Int) (x20 : List T_Road) (x21 : Int) (x22 : Int) (x23 : Int) (x24 : Int) (x25 : Int) (x26 : Int) (x27 : Bool) (x28 : Bool) (x29 : Int) (x30 : Int) (x31 : Int) (x32 : Int) : Option Int := joinN (run (plan_Check_E N) N 0 plan_Check_C1) N ⟨[(5, .int .i64 x19), (7, .ptr 0 0 0), (38, .lst false G_Road x20), (39, .int .i64 x21), (40, .int .i64 x22)], [some (.box 0 [.int .i64 x23, .int .i64 x24, .int .i64 x25, .int .i64 x26, .bool x27, .bool x28, .int .i64 x29, .int .i64 x30, .int .i64 x31, .int .i64 x32])]⟩ (blkK 3 (seqK (run (plan_Check_E N) N 0 plan_Check_C2) (seqK (nextL (normI 0 plan_Check_N2) (loopN (normI 0 plan_Check_N2) (run (plan_Check_E N) N 0 plan_Check_C3) n2)) (blkK 2 (seqK (run (plan_Check_E N) N 0 plan_Check_C4) (fin [(.t 2)] [(.int .i64)]))))))
def plan_Check_L2 (N : Nat) (n : Nat) (x14 : Int) (x15 : List T_Road) (x16 : Int) (x17 : Int) : Option Int := loopN (normI 0 plan_Check_N2) (run (plan_Check_E N) N 0 plan_Check_C3) n ⟨[(5, .int .i64 x14), (38, .lst false G_Road x15), (39, .int .i64 x16), (40, .int .i64 x17)], []⟩ (blkK 2 (seqK (run (plan_Check_E N) N 0 plan_Check_C4) (fin [(.t 2)] [(.int .i64)])))
def plan_Check_L1 (N : Nat) (n : Nat) (x3 : List T_Place) (x4 : Int) (x5 : Int) (x6 : List T_Place) (x7 : List T_Road) : Option Int := loopN (normI 0 plan_Check_N1) (run (plan_Check_E N) N 0 plan_Check_C5) n ⟨[(1, .ptr 0 0 0), (19, .lst false G_Place x3), (20, .int .i64 x4), (21, .int .i64 x5)], [some (.box 0 [.lst false G_Place x6, .lst false G_Road x7])]⟩ (blkK 0 (seqK (run (plan_Check_E N) N 0 plan_Check_C6) (fin [(.t 2)] [(.int .i64)])))
def plan_Check_J1 (N : Nat) (x1 : List T_Place) (x2 : List T_Road) : Option Int := joinN (run (plan_Check_E N) N 0 plan_Check_C7) N ⟨[(1, .ptr 0 0 0)], [some (.box 0 [.lst false G_Place x1, .lst false G_Road x2])]⟩ (fin [(.t 2)] [(.int .i64)])
theorem plan_Check_J2_eq (N n2 : Nat) (x19 : Int) (x20 : List T_Road) (x21 : Int) (x22 : Int) (x23 : Int) (x24 : Int) (x25 : Int) (x26 : Int) (x27 : Bool) (x28 : Bool) (x29 : Int) (x30 : Int) (x31 : Int) (x32 : Int) : plan_Check_J2 (N + 1) n2 x19 x20 x21 x22 x23 x24 x25 x26 x27 x28 x29 x30 x31 x32 =
  bif (decide (x25 < 1)) then
    some 1
  else
    bif (decide (x25 > 100000)) then
      some 1
    else
      bif (decide (x26 < 1)) then
        some 1
      else
        bif (decide (x26 > 1000)) then
          some 1
        else
          Option.bind (plan_spanIn (N + 1) (x29, x30) 1 262144) fun r33 =>
          bif (!r33) then
            some 1
          else
            Option.bind (plan_spanIn (N + 1) (x31, x32) (-2199023255552) 2199023255552) fun r34 =>
            bif (!r34) then
              some 1
            else
              plan_Check_L2 (N + 1) n2 x19 x20 x21 (W (x22 + 1)) := by kernel_rfl
theorem plan_Check_L2_zero (N : Nat) (x14 : Int) (x15 : List T_Road) (x16 : Int) (x17 : Int) : plan_Check_L2 N 0 x14 x15 x16 x17 = none := rfl
theorem plan_Check_L2_succ (N : Nat) (n2 : Nat) (x14 : Int) (x15 : List T_Road) (x16 : Int) (x17 : Int) : plan_Check_L2 N (n2 + 1) x14 x15 x16 x17 =
  bif (decide (x17 < x16)) then
    bif inB x17 x15.length then
    let v18 := x15.getD x17.toNat D_Road
    bif (decide (v18.1 < 0)) then
      some 4
    else
      bif (decide (v18.1 ≥ x14)) then
        some 4
      else
        bif (decide (v18.2.1 < 0)) then
          some 4
        else
          bif (decide (v18.2.1 ≥ x14)) then
            some 4
          else
            bif (v18.1 == v18.2.1) then
              some 4
            else
              plan_Check_J2 N n2 x14 x15 x16 x17 v18.1 v18.2.1 v18.2.2.1 v18.2.2.2.1 v18.2.2.2.2.1 v18.2.2.2.2.2.1 v18.2.2.2.2.2.2.1.1 v18.2.2.2.2.2.2.1.2 v18.2.2.2.2.2.2.2.1 v18.2.2.2.2.2.2.2.2
    else none
  else
    some 0 := by kernel_rfl
theorem plan_Check_L1_zero (N : Nat) (x3 : List T_Place) (x4 : Int) (x5 : Int) (x6 : List T_Place) (x7 : List T_Road) : plan_Check_L1 N 0 x3 x4 x5 x6 x7 = none := rfl
theorem plan_Check_L1_succ (N : Nat) (n1 : Nat) (x3 : List T_Place) (x4 : Int) (x5 : Int) (x6 : List T_Place) (x7 : List T_Road) : plan_Check_L1 N (n1 + 1) x3 x4 x5 x6 x7 =
  bif (decide (x5 < x4)) then
    bif inB x5 x3.length then
    bif (decide ((x3.getD x5.toNat D_Place).1 < (-10000))) then
      some 1
    else
      bif (decide ((x3.getD x5.toNat D_Place).1 > 10000)) then
        some 1
      else
        plan_Check_L1 N n1 x3 x4 (W (x5 + 1)) x6 x7
    else none
  else
    plan_Check_L2 N N (x6.length : Int) x7 (x7.length : Int) 0 := by kernel_rfl
theorem plan_Check_J1_eq (N : Nat) (x1 : List T_Place) (x2 : List T_Road) : plan_Check_J1 (N + 1) x1 x2 =
  plan_Check_L1 (N + 1) (N + 1) x1 (x1.length : Int) 0 x1 x2 := by kernel_rfl
def plan_Check (N : Nat) (a0 : T_Mine) : Option Int :=
  bif (decide ((a0.1.length : Int) > 64)) then
    some 2
  else
    bif (decide ((a0.2.length : Int) > 128)) then
      some 2
    else
      plan_Check_J1 N a0.1 a0.2
theorem plan_Check_fn : FnOK Try.prog 46 100 (fun _ : Nat => false) plan_Check_C8.er [(.t 2)] := FnOK.mk' Try.func46 (by kernel_rfl) (by kernel_rfl) (by kernel_rfl) (by kernel_rfl) (by kernel_rfl)
theorem plan_Check_envok (N : Nat) : EnvOK Try.prog (plan_Check_E N) := .cons (pureE_ok (plan_spanIn_pure N)) (.nil)
theorem plan_Check_pure (N : Nat) : PureOK Try.prog 46 [G_Mine] [(.int .i64)] (fun x => plan_Check N x) := pureOK (N := N) mixed plan_Check_fn (plan_Check_envok N) rfl (fun x => by kernel_rfl)
/-! plan_Valid -/
def plan_Valid_C3 : TC := .ret
def plan_Valid_C2 : TC := (.seq (.rg [⟨⟨some 3, (.load true 2 (.t 1)), none⟩, {}⟩, ⟨⟨some 4, (.call (.c (.fn 46 [])) [(.t 3)]), none⟩, {}⟩, ⟨⟨some 5, (.bin .eql (.t 4) (.c (I 0))), none⟩, {}⟩, ⟨⟨some 2, (.mov (.t 5)), none⟩, {}⟩] none) plan_Valid_C3)
def plan_Valid_C1 : TC := (.seq (.rg [⟨⟨some 1, (.box (.t 0)), none⟩, {}⟩, ⟨⟨some 2, (.mov (.c (B false))), none⟩, {}⟩] none) plan_Valid_C2)
def plan_Valid_E (N : Nat) : List (Nat × Ent) := [(46, pureE [G_Mine] [(.int .i64)] (fun x => plan_Check N x))]
def plan_Valid (N : Nat) (a0 : T_Mine) : Option Bool :=
  Option.bind (plan_Check N a0) fun r1 =>
  some (r1 == 0)
theorem plan_Valid_fn : FnOK Try.prog 37 6 (fun _ : Nat => false) plan_Valid_C1.er [(.t 2)] := FnOK.mk' Try.func37 (by kernel_rfl) (by kernel_rfl) (by kernel_rfl) (by kernel_rfl) (by kernel_rfl)
theorem plan_Valid_envok (N : Nat) : EnvOK Try.prog (plan_Valid_E N) := .cons (pureE_ok (plan_Check_pure N)) (.nil)
theorem plan_Valid_pure (N : Nat) : PureOK Try.prog 37 [G_Mine] [.bool] (fun x => plan_Valid N x) := pureOK (N := N) mixed plan_Valid_fn (plan_Valid_envok N) rfl (fun x => by kernel_rfl)
/-! slices_IndexFunc_api_TagReader_api_TagReader_S1 -/
def slices_IndexFunc_api_TagReader_api_TagReader_S1_NE : List NS := [.frzo 0, .keep [4], .out [0]]
def slices_IndexFunc_api_TagReader_api_TagReader_S1_N1 : List NS := [.wk 0 (.list G_TagReader), .keep [0, 1, 7, 8], .cmp]
def slices_IndexFunc_api_TagReader_api_TagReader_S1_C14 : TC := .ret
def slices_IndexFunc_api_TagReader_api_TagReader_S1_C13 : TC := (.pre [.frzo 0, .keep [4], .out [0]] slices_IndexFunc_api_TagReader_api_TagReader_S1_C14)
def slices_IndexFunc_api_TagReader_api_TagReader_S1_C12 : TC := (.cond (.t 16) (.seq (.rg [⟨⟨some 17, (.mov (.t 5)), none⟩, {}⟩, ⟨⟨some 4, (.mov (.t 17)), none⟩, {}⟩] none) slices_IndexFunc_api_TagReader_api_TagReader_S1_C13) .skip)
def slices_IndexFunc_api_TagReader_api_TagReader_S1_C10 : TC := (.seq (.rg [⟨⟨some 11, (.mov (.t 1)), none⟩, {}⟩, ⟨⟨some 12, (.mov (.t 0)), none⟩, {}⟩, ⟨⟨some 13, (.mov (.t 5)), none⟩, {}⟩, ⟨⟨some 14, (.iadrS 4 (.t 12) (.t 13)), none⟩, {}⟩, ⟨⟨some 15, (.load true 4 (.t 14)), none⟩, {}⟩, ⟨⟨some 16, (.call (.t 11) [(.t 15)]), none⟩, {}⟩] none)
  slices_IndexFunc_api_TagReader_api_TagReader_S1_C12)
def slices_IndexFunc_api_TagReader_api_TagReader_S1_C11 : TC := (.rg [⟨⟨some 18, (.bin .add (.t 8) (.c (I 1))), none⟩, {}⟩, ⟨⟨some 8, (.mov (.t 18)), none⟩, {}⟩] none)
def slices_IndexFunc_api_TagReader_api_TagReader_S1_C7 : TC := (.seq (.block 1 (.seq (.rg [⟨⟨some 10, (.mov (.t 8)), none⟩, {}⟩, ⟨⟨some 5, (.mov (.t 10)), none⟩, {}⟩] none) slices_IndexFunc_api_TagReader_api_TagReader_S1_C10)) slices_IndexFunc_api_TagReader_api_TagReader_S1_C11)
def slices_IndexFunc_api_TagReader_api_TagReader_S1_C4 : TC := (.seq (.cond (.t 9) .skip (.exit 0)) slices_IndexFunc_api_TagReader_api_TagReader_S1_C7)
def slices_IndexFunc_api_TagReader_api_TagReader_S1_C1 : TC := (.seq (.rg [⟨⟨some 9, (.bin .lss (.t 8) (.t 7)), none⟩, {}⟩] none) slices_IndexFunc_api_TagReader_api_TagReader_S1_C4)
def slices_IndexFunc_api_TagReader_api_TagReader_S1_C8 : TC := .ret
def slices_IndexFunc_api_TagReader_api_TagReader_S1_C5 : TC := (.pre [.frzo 0, .keep [4], .out [0]] slices_IndexFunc_api_TagReader_api_TagReader_S1_C8)
def slices_IndexFunc_api_TagReader_api_TagReader_S1_C2 : TC := (.seq (.rg [⟨⟨some 4, (.mov (.c (I (-1)))), none⟩, {}⟩] none) slices_IndexFunc_api_TagReader_api_TagReader_S1_C5)
def slices_IndexFunc_api_TagReader_api_TagReader_S1_C9 : TC := (.block 0 (.loop slices_IndexFunc_api_TagReader_api_TagReader_S1_N1 slices_IndexFunc_api_TagReader_api_TagReader_S1_C1))
def slices_IndexFunc_api_TagReader_api_TagReader_S1_C6 : TC := (.seq (.seq (.rg [⟨⟨some 6, (.mov (.t 0)), none⟩, {}⟩, ⟨⟨some 7, (.len (.t 6)), none⟩, {}⟩, ⟨⟨some 8, (.mov (.c (I 0))), none⟩, {}⟩] none) slices_IndexFunc_api_TagReader_api_TagReader_S1_C9) slices_IndexFunc_api_TagReader_api_TagReader_S1_C2)
def slices_IndexFunc_api_TagReader_api_TagReader_S1_C3 : TC := (.seq (.rg [⟨⟨some 4, (.mov (.c (I 0))), none⟩, {}⟩] none) slices_IndexFunc_api_TagReader_api_TagReader_S1_C6)
def slices_IndexFunc_api_TagReader_api_TagReader_S1_E (N : Nat) : List (Nat × Ent) := [(35, sfE [none, none] [.v G_TagReader, .b (.v G_Mine)] [.v .bool] (fun x => sightings_Valid_1 N x.1 x.2))]
def slices_IndexFunc_api_TagReader_api_TagReader_S1_L1 (N : Nat) (n : Nat) (x1 : List T_TagReader) (x2 : Int) (x3 : Int) (x4 : List T_Place) (x5 : List T_Road) : Option (Int × T_Mine) := loopN (normI 1 slices_IndexFunc_api_TagReader_api_TagReader_S1_N1) (run (slices_IndexFunc_api_TagReader_api_TagReader_S1_E N) N 1 slices_IndexFunc_api_TagReader_api_TagReader_S1_C1) n ⟨[(0, .lst false G_TagReader x1), (1, .fn 35 [.ptr 0 0 0]), (7, .int .i64 x2), (8, .int .i64 x3)], [some (.box 0 [.lst false G_Place x4, .lst false G_Road x5])]⟩ (blkK 0 (seqK (run (slices_IndexFunc_api_TagReader_api_TagReader_S1_E N) N 1 slices_IndexFunc_api_TagReader_api_TagReader_S1_C2) (finS slices_IndexFunc_api_TagReader_api_TagReader_S1_NE [(.t 4)] [.v (.list G_TagReader), .b (.v G_Mine)] [.v (.int .i64)] 1 1)))
theorem slices_IndexFunc_api_TagReader_api_TagReader_S1_L1_zero (N : Nat) (x1 : List T_TagReader) (x2 : Int) (x3 : Int) (x4 : List T_Place) (x5 : List T_Road) : slices_IndexFunc_api_TagReader_api_TagReader_S1_L1 N 0 x1 x2 x3 x4 x5 = none := rfl
theorem slices_IndexFunc_api_TagReader_api_TagReader_S1_L1_succ (N : Nat) (n1 : Nat) (x1 : List T_TagReader) (x2 : Int) (x3 : Int) (x4 : List T_Place) (x5 : List T_Road) : slices_IndexFunc_api_TagReader_api_TagReader_S1_L1 N (n1 + 1) x1 x2 x3 x4 x5 =
  bif (decide (x3 < x2)) then
    bif inB x3 x1.length then
    Option.bind (sightings_Valid_1 N (x1.getD x3.toNat D_TagReader) (x4, x5)) fun r7 =>
    bif r7.1 then
      some (x3, r7.2)
    else
      slices_IndexFunc_api_TagReader_api_TagReader_S1_L1 N n1 x1 x2 (W (x3 + 1)) r7.2.1 r7.2.2
    else none
  else
    some ((-1), (x4, x5)) := by kernel_rfl
def slices_IndexFunc_api_TagReader_api_TagReader_S1 (N : Nat) (a0 : List T_TagReader) (a1 : T_Mine) : Option (Int × T_Mine) :=
  slices_IndexFunc_api_TagReader_api_TagReader_S1_L1 N N a0 (a0.length : Int) 0 a1.1 a1.2
theorem slices_IndexFunc_api_TagReader_api_TagReader_S1_fn : FnOK Try.prog 47 19 (fun _ : Nat => false) slices_IndexFunc_api_TagReader_api_TagReader_S1_C3.er [(.t 4)] := FnOK.mk' Try.func47 (by kernel_rfl) (by kernel_rfl) (by kernel_rfl) (by kernel_rfl) (by kernel_rfl)
theorem slices_IndexFunc_api_TagReader_api_TagReader_S1_envok (N : Nat) : EnvOK Try.prog (slices_IndexFunc_api_TagReader_api_TagReader_S1_E N) := .cons (sfE_ok (sightings_Valid_1_sf N)) (.nil)
theorem slices_IndexFunc_api_TagReader_api_TagReader_S1_sf (N : Nat) : SFOK Try.prog 47 [none, some (35, 1)] [.v (.list G_TagReader), .b (.v G_Mine)] [.v (.int .i64)] (fun x => slices_IndexFunc_api_TagReader_api_TagReader_S1 N x.1 x.2) := sfOK (N := N) (p := 1) (q := 1) (ns := slices_IndexFunc_api_TagReader_api_TagReader_S1_NE) mixed slices_IndexFunc_api_TagReader_api_TagReader_S1_fn (slices_IndexFunc_api_TagReader_api_TagReader_S1_envok N) rfl rfl rfl (fun x => by kernel_rfl)
/-! slices_ContainsFunc_api_TagReader_api_TagReader_S1 -/
def slices_ContainsFunc_api_TagReader_api_TagReader_S1_NE : List NS := [.frzo 0, .keep [4], .out [0]]
def slices_ContainsFunc_api_TagReader_api_TagReader_S1_C4 : TC := .ret
def slices_ContainsFunc_api_TagReader_api_TagReader_S1_C3 : TC := (.pre [.frzo 0, .keep [4], .out [0]] slices_ContainsFunc_api_TagReader_api_TagReader_S1_C4)
def slices_ContainsFunc_api_TagReader_api_TagReader_S1_C2 : TC := (.seq (.rg [⟨⟨some 5, (.mov (.t 0)), none⟩, {}⟩, ⟨⟨some 6, (.mov (.t 1)), none⟩, {}⟩, ⟨⟨some 7, (.call (.c (.fn 47 [])) [(.t 5), (.t 6)]), none⟩, {}⟩, ⟨⟨some 8, (.bin .geq (.t 7) (.c (I 0))), none⟩, {}⟩, ⟨⟨some 4, (.mov (.t 8)), none⟩, {}⟩] none) slices_ContainsFunc_api_TagReader_api_TagReader_S1_C3)
def slices_ContainsFunc_api_TagReader_api_TagReader_S1_C1 : TC := (.seq (.rg [⟨⟨some 4, (.mov (.c (B false))), none⟩, {}⟩] none) slices_ContainsFunc_api_TagReader_api_TagReader_S1_C2)
def slices_ContainsFunc_api_TagReader_api_TagReader_S1_E (N : Nat) : List (Nat × Ent) := [(47, sfE [none, some (35, 1)] [.v (.list G_TagReader), .b (.v G_Mine)] [.v (.int .i64)] (fun x => slices_IndexFunc_api_TagReader_api_TagReader_S1 N x.1 x.2))]
def slices_ContainsFunc_api_TagReader_api_TagReader_S1 (N : Nat) (a0 : List T_TagReader) (a1 : T_Mine) : Option (Bool × T_Mine) :=
  Option.bind (slices_IndexFunc_api_TagReader_api_TagReader_S1 N a0 a1) fun r1 =>
  some ((decide (r1.1 ≥ 0)), r1.2)
theorem slices_ContainsFunc_api_TagReader_api_TagReader_S1_fn : FnOK Try.prog 38 9 (fun _ : Nat => false) slices_ContainsFunc_api_TagReader_api_TagReader_S1_C1.er [(.t 4)] := FnOK.mk' Try.func38 (by kernel_rfl) (by kernel_rfl) (by kernel_rfl) (by kernel_rfl) (by kernel_rfl)
theorem slices_ContainsFunc_api_TagReader_api_TagReader_S1_envok (N : Nat) : EnvOK Try.prog (slices_ContainsFunc_api_TagReader_api_TagReader_S1_E N) := .cons (sfE_ok (slices_IndexFunc_api_TagReader_api_TagReader_S1_sf N)) (.nil)
theorem slices_ContainsFunc_api_TagReader_api_TagReader_S1_sf (N : Nat) : SFOK Try.prog 38 [none, some (35, 1)] [.v (.list G_TagReader), .b (.v G_Mine)] [.v .bool] (fun x => slices_ContainsFunc_api_TagReader_api_TagReader_S1 N x.1 x.2) := sfOK (N := N) (p := 1) (q := 1) (ns := slices_ContainsFunc_api_TagReader_api_TagReader_S1_NE) mixed slices_ContainsFunc_api_TagReader_api_TagReader_S1_fn (slices_ContainsFunc_api_TagReader_api_TagReader_S1_envok N) rfl rfl rfl (fun x => by kernel_rfl)
/-! sightings_Valid -/
def sightings_Valid_C4 : TC := .ret
def sightings_Valid_C3 : TC := (.seq (.rg [⟨⟨some 7, (.load true 2 (.t 2)), none⟩, {}⟩, ⟨⟨some 8, (.call (.c (.fn 37 [])) [(.t 7)]), none⟩, {}⟩, ⟨⟨some 9, (.mov (.t 8)), none⟩, {}⟩, ⟨⟨some 10, (.mov (.t 1)), some (9, true)⟩, {}⟩, ⟨⟨some 11, (.len (.t 10)), some (9, true)⟩, {}⟩, ⟨⟨some 12, (.bin .leq (.t 11) (.c (I 32))), some (9,
  true)⟩, {}⟩, ⟨⟨some 13, (.pick (.t 9) (.t 12) (.c (B false))), none⟩, {}⟩, ⟨⟨some 14, (.mov (.t 13)), none⟩, {}⟩, ⟨⟨some 15, (.mov (.t 1)), some (14, true)⟩, {}⟩, ⟨⟨some 16, (.mov (.t 5)), some (14, true)⟩, {}⟩, ⟨⟨some 17, (.call (.c (.fn 38 [])) [(.t 15), (.t 16)]), some (14, true)⟩, {}⟩, ⟨⟨some
  18, (.un .not (.t 17)), some (14, true)⟩, {}⟩, ⟨⟨some 19, (.pick (.t 14) (.t 18) (.c (B false))), none⟩, {}⟩, ⟨⟨some 4, (.mov (.t 19)), none⟩, {}⟩] none) sightings_Valid_C4)
def sightings_Valid_C2 : TC := (.seq (.rg [⟨⟨some 6, (.mkfn 35 [(.t 2)]), none⟩, {}⟩, ⟨⟨some 5, (.mov (.t 6)), none⟩, {}⟩] none) sightings_Valid_C3)
def sightings_Valid_C1 : TC := (.seq (.rg [⟨⟨some 2, (.box (.t 0)), none⟩, {}⟩, ⟨⟨some 4, (.mov (.c (B false))), none⟩, {}⟩] none) sightings_Valid_C2)
def sightings_Valid_E (N : Nat) : List (Nat × Ent) := [(37, pureE [G_Mine] [.bool] (fun x => plan_Valid N x)), (38, sfE [none, some (35, 1)] [.v (.list G_TagReader), .b (.v G_Mine)] [.v .bool] (fun x => slices_ContainsFunc_api_TagReader_api_TagReader_S1 N x.1 x.2))]
def sightings_Valid (N : Nat) (a0 : T_Mine) (a1 : List T_TagReader) : Option Bool :=
  Option.bind (plan_Valid N a0) fun r1 =>
  bif r1 then
    bif (decide ((a1.length : Int) ≤ 32)) then
      Option.bind (slices_ContainsFunc_api_TagReader_api_TagReader_S1 N a1 a0) fun r2 =>
      some (!r2.1)
    else
      some false
  else
    some false
theorem sightings_Valid_fn : FnOK Try.prog 22 20 (fun _ : Nat => false) sightings_Valid_C1.er [(.t 4)] := FnOK.mk' Try.func22 (by kernel_rfl) (by kernel_rfl) (by kernel_rfl) (by kernel_rfl) (by kernel_rfl)
theorem sightings_Valid_envok (N : Nat) : EnvOK Try.prog (sightings_Valid_E N) := .cons (pureE_ok (plan_Valid_pure N)) (.cons (sfE_ok (slices_ContainsFunc_api_TagReader_api_TagReader_S1_sf N)) (.nil))
theorem sightings_Valid_pure (N : Nat) : PureOK Try.prog 22 [G_Mine, (.list G_TagReader)] [.bool] (fun x => sightings_Valid N x.1 x.2) := pureOK (N := N) mixed sightings_Valid_fn (sightings_Valid_envok N) rfl (fun x => by kernel_rfl)
/-! ref23_Set -/
def ref23_Set_N1 : List NS := [.wk 0 (.list (.int .i64)), .keep [0, 1, 5], .cmp]
def ref23_Set_C4 : TC := (.cond (.t 9) .skip (.exit 0))
def ref23_Set_C11 : TC := .ret
def ref23_Set_C8 : TC := (.cond (.t 40) (.seq (.rg [⟨⟨some 4, (.mov (.c (B false))), none⟩, {}⟩] none) ref23_Set_C11) .skip)
def ref23_Set_C9 : TC := (.rg [⟨⟨some 10, (.mov (.t 5)), none⟩, {}⟩, ⟨⟨some 11, (.bin .add (.t 10) (.c (I 1))), none⟩, {}⟩, ⟨⟨some 5, (.mov (.t 11)), none⟩, {}⟩] none)
def ref23_Set_C5 : TC := (.seq (.block 1 (.seq (.rg [⟨⟨some 12, (.mov (.t 0)), none⟩, {}⟩, ⟨⟨some 13, (.mov (.t 5)), none⟩, {}⟩, ⟨⟨some 14, (.iadrS 1 (.t 12) (.t 13)), none⟩, {}⟩, ⟨⟨some 15, (.load false 1 (.t 14)), none⟩, {}⟩, ⟨⟨some 16, (.bin .lss (.t 15) (.c (I 0))), none⟩, {}⟩, ⟨⟨some 17, (.mov (.t 16)), none⟩, {}⟩,
  ⟨⟨some 18, (.mov (.t 0)), some (17, false)⟩, {}⟩, ⟨⟨some 19, (.mov (.t 5)), some (17, false)⟩, {}⟩, ⟨⟨some 20, (.iadrS 1 (.t 18) (.t 19)), some (17, false)⟩, {}⟩, ⟨⟨some 21, (.load false 1 (.t 20)), some (17, false)⟩, {}⟩, ⟨⟨some 22, (.mov (.t 1)), some (17, false)⟩, {}⟩, ⟨⟨some 23, (.bin .geq (.t
  21) (.t 22)), some (17, false)⟩, {}⟩, ⟨⟨some 24, (.pick (.t 17) (.c (B true)) (.t 23)), none⟩, {}⟩, ⟨⟨some 25, (.mov (.t 24)), none⟩, {}⟩, ⟨⟨some 26, (.mov (.t 5)), some (25, false)⟩, {}⟩, ⟨⟨some 27, (.bin .gtr (.t 26) (.c (I 0))), some (25, false)⟩, {}⟩, ⟨⟨some 28, (.mov (.t 27)), some (25,
  false)⟩, {}⟩, ⟨⟨some 29, (.mov (.t 0)), some (28, true)⟩, {}⟩, ⟨⟨some 30, (.mov (.t 5)), some (28, true)⟩, {}⟩, ⟨⟨some 31, (.iadrS 1 (.t 29) (.t 30)), some (28, true)⟩, {}⟩, ⟨⟨some 32, (.load false 1 (.t 31)), some (28, true)⟩, {}⟩, ⟨⟨some 33, (.mov (.t 0)), some (28, true)⟩, {}⟩, ⟨⟨some 34, (.mov
  (.t 5)), some (28, true)⟩, {}⟩, ⟨⟨some 35, (.bin .sub (.t 34) (.c (I 1))), some (28, true)⟩, {}⟩, ⟨⟨some 36, (.iadrS 1 (.t 33) (.t 35)), some (28, true)⟩, {}⟩, ⟨⟨some 37, (.load false 1 (.t 36)), some (28, true)⟩, {}⟩, ⟨⟨some 38, (.bin .leq (.t 32) (.t 37)), some (28, true)⟩, {}⟩, ⟨⟨some 39, (.pick
  (.t 28) (.t 38) (.c (B false))), some (25, false)⟩, {}⟩, ⟨⟨some 40, (.pick (.t 25) (.c (B true)) (.t 39)), none⟩, {}⟩] (some [])) ref23_Set_C8)) ref23_Set_C9)
def ref23_Set_C1 : TC := (.seq (.seq (.rg [⟨⟨some 6, (.mov (.t 5)), none⟩, {}⟩, ⟨⟨some 7, (.mov (.t 0)), none⟩, {}⟩, ⟨⟨some 8, (.len (.t 7)), none⟩, {}⟩, ⟨⟨some 9, (.bin .lss (.t 6) (.t 8)), none⟩, {}⟩] none) ref23_Set_C4) ref23_Set_C5)
def ref23_Set_C6 : TC := .ret
def ref23_Set_C2 : TC := (.seq (.rg [⟨⟨some 4, (.mov (.c (B true))), none⟩, {}⟩] none) ref23_Set_C6)
def ref23_Set_C10 : TC := (.block 0 (.loop ref23_Set_N1 ref23_Set_C1))
def ref23_Set_C7 : TC := (.seq (.seq (.rg [⟨⟨some 5, (.mov (.c (I 0))), none⟩, {}⟩] none) ref23_Set_C10) ref23_Set_C2)
def ref23_Set_C3 : TC := (.seq (.rg [⟨⟨some 4, (.mov (.c (B false))), none⟩, {}⟩] none) ref23_Set_C7)
def ref23_Set_E (N : Nat) : List (Nat × Ent) := []
def ref23_Set_L1 (N : Nat) (n : Nat) (x1 : List Int) (x2 : Int) (x3 : Int) : Option Bool := loopN (normI 0 ref23_Set_N1) (run (ref23_Set_E N) N 0 ref23_Set_C1) n ⟨[(0, .lst false (.int .i64) x1), (1, .int .i64 x2), (5, .int .i64 x3)], []⟩ (blkK 0 (seqK (run (ref23_Set_E N) N 0 ref23_Set_C2) (fin [(.t 4)] [.bool])))
theorem ref23_Set_L1_zero (N : Nat) (x1 : List Int) (x2 : Int) (x3 : Int) : ref23_Set_L1 N 0 x1 x2 x3 = none := rfl
theorem ref23_Set_L1_succ (N : Nat) (n1 : Nat) (x1 : List Int) (x2 : Int) (x3 : Int) : ref23_Set_L1 N (n1 + 1) x1 x2 x3 =
  bif (decide (x3 < (x1.length : Int))) then
    bif inB x3 x1.length then
    bif (decide ((x1.getD x3.toNat 0) < 0)) then
      some false
    else
      bif inB x3 x1.length then
      bif (decide ((x1.getD x3.toNat 0) ≥ x2)) then
        some false
      else
        bif (decide (x3 > 0)) then
          bif inB x3 x1.length then
          bif inB (W (x3 - 1)) x1.length then
          bif (decide ((x1.getD x3.toNat 0) ≤ (x1.getD (W (x3 - 1)).toNat 0))) then
            some false
          else
            ref23_Set_L1 N n1 x1 x2 (W (x3 + 1))
          else none
          else none
        else
          ref23_Set_L1 N n1 x1 x2 (W (x3 + 1))
      else none
    else none
  else
    some true := by kernel_rfl
def ref23_Set (N : Nat) (a0 : List Int) (a1 : Int) : Option Bool :=
  ref23_Set_L1 N N a0 a1 0
theorem ref23_Set_fn : FnOK Try.prog 39 41 (fun _ : Nat => false) ref23_Set_C3.er [(.t 4)] := FnOK.mk' Try.func39 (by kernel_rfl) (by kernel_rfl) (by kernel_rfl) (by kernel_rfl) (by kernel_rfl)
theorem ref23_Set_envok (N : Nat) : EnvOK Try.prog (ref23_Set_E N) := .nil
theorem ref23_Set_pure (N : Nat) : PureOK Try.prog 39 [(.list (.int .i64)), (.int .i64)] [.bool] (fun x => ref23_Set N x.1 x.2) := pureOK (N := N) mixed ref23_Set_fn (ref23_Set_envok N) rfl (fun x => by kernel_rfl)
/-! ref01_Span -/
def ref01_Span_C3 : TC := .ret
def ref01_Span_C2 : TC := (.seq (.rg [⟨⟨some 7, (.mov (.t 1)), none⟩, {}⟩, ⟨⟨some 8, (.fadr 0 (.t 3)), none⟩, {}⟩, ⟨⟨some 9, (.load false 1 (.t 8)), none⟩, {}⟩, ⟨⟨some 10, (.bin .leq (.t 7) (.t 9)), none⟩, {}⟩, ⟨⟨some 11, (.mov (.t 10)), none⟩, {}⟩, ⟨⟨some 12, (.fadr 0 (.t 3)), some (11, true)⟩, {}⟩, ⟨⟨some 13, (.load false 1
  (.t 12)), some (11, true)⟩, {}⟩, ⟨⟨some 14, (.fadr 1 (.t 3)), some (11, true)⟩, {}⟩, ⟨⟨some 15, (.load false 1 (.t 14)), some (11, true)⟩, {}⟩, ⟨⟨some 16, (.bin .leq (.t 13) (.t 15)), some (11, true)⟩, {}⟩, ⟨⟨some 17, (.pick (.t 11) (.t 16) (.c (B false))), none⟩, {}⟩, ⟨⟨some 18, (.mov (.t 17)),
  none⟩, {}⟩, ⟨⟨some 19, (.fadr 1 (.t 3)), some (18, true)⟩, {}⟩, ⟨⟨some 20, (.load false 1 (.t 19)), some (18, true)⟩, {}⟩, ⟨⟨some 21, (.mov (.t 2)), some (18, true)⟩, {}⟩, ⟨⟨some 22, (.bin .leq (.t 20) (.t 21)), some (18, true)⟩, {}⟩, ⟨⟨some 23, (.pick (.t 18) (.t 22) (.c (B false))), none⟩, {}⟩,
  ⟨⟨some 6, (.mov (.t 23)), none⟩, {}⟩] none) ref01_Span_C3)
def ref01_Span_C1 : TC := (.seq (.rg [⟨⟨some 3, (.box (.t 0)), none⟩, {}⟩, ⟨⟨some 6, (.mov (.c (B false))), none⟩, {}⟩] none) ref01_Span_C2)
def ref01_Span_E (N : Nat) : List (Nat × Ent) := []
def ref01_Span (N : Nat) (a0 : T_Span) (a1 : Int) (a2 : Int) : Option Bool :=
  bif (decide (a1 ≤ a0.1)) then
    bif (decide (a0.1 ≤ a0.2)) then
      some (decide (a0.2 ≤ a2))
    else
      some false
  else
    some false
theorem ref01_Span_fn : FnOK Try.prog 48 24 (fun _ : Nat => false) ref01_Span_C1.er [(.t 6)] := FnOK.mk' Try.func48 (by kernel_rfl) (by kernel_rfl) (by kernel_rfl) (by kernel_rfl) (by kernel_rfl)
theorem ref01_Span_envok (N : Nat) : EnvOK Try.prog (ref01_Span_E N) := .nil
theorem ref01_Span_pure (N : Nat) : PureOK Try.prog 48 [G_Span, (.int .i64), (.int .i64)] [.bool] (fun x => ref01_Span N x.1 x.2.1 x.2.2) := pureOK (N := N) mixed ref01_Span_fn (ref01_Span_envok N) rfl (fun x => by kernel_rfl)
/-! ref01_Check -/
def ref01_Check_N1 : List NS := [.keep [1, 3], .cmp]
def ref01_Check_N2 : List NS := [.keep [1, 5], .cmp]
def ref01_Check_C18 : TC := .ret
def ref01_Check_C9 : TC := (.cond (.t 108) (.seq (.rg [⟨⟨some 2, (.mov (.c (I 1))), none⟩, {}⟩] none) ref01_Check_C18) .skip)
def ref01_Check_C1 : TC := (.seq (.rg [⟨⟨some 79, (.fadr 2 (.t 6)), none⟩, {}⟩, ⟨⟨some 80, (.load false 1 (.t 79)), none⟩, {}⟩, ⟨⟨some 81, (.bin .lss (.t 80) (.c (I 1))), none⟩, {}⟩, ⟨⟨some 82, (.mov (.t 81)), none⟩, {}⟩, ⟨⟨some 83, (.fadr 2 (.t 6)), some (82, false)⟩, {}⟩, ⟨⟨some 84, (.load false 1 (.t 83)), some (82,
  false)⟩, {}⟩, ⟨⟨some 85, (.bin .gtr (.t 84) (.c (I 100000))), some (82, false)⟩, {}⟩, ⟨⟨some 86, (.pick (.t 82) (.c (B true)) (.t 85)), none⟩, {}⟩, ⟨⟨some 87, (.mov (.t 86)), none⟩, {}⟩, ⟨⟨some 88, (.fadr 3 (.t 6)), some (87, false)⟩, {}⟩, ⟨⟨some 89, (.load false 1 (.t 88)), some (87, false)⟩, {}⟩,
  ⟨⟨some 90, (.bin .lss (.t 89) (.c (I 1))), some (87, false)⟩, {}⟩, ⟨⟨some 91, (.pick (.t 87) (.c (B true)) (.t 90)), none⟩, {}⟩, ⟨⟨some 92, (.mov (.t 91)), none⟩, {}⟩, ⟨⟨some 93, (.fadr 3 (.t 6)), some (92, false)⟩, {}⟩, ⟨⟨some 94, (.load false 1 (.t 93)), some (92, false)⟩, {}⟩, ⟨⟨some 95, (.bin
  .gtr (.t 94) (.c (I 1000))), some (92, false)⟩, {}⟩, ⟨⟨some 96, (.pick (.t 92) (.c (B true)) (.t 95)), none⟩, {}⟩, ⟨⟨some 97, (.mov (.t 96)), none⟩, {}⟩, ⟨⟨some 98, (.fadr 6 (.t 6)), some (97, false)⟩, {}⟩, ⟨⟨some 99, (.load true 2 (.t 98)), some (97, false)⟩, {}⟩, ⟨⟨some 100, (.call (.c (.fn 48
  [])) [(.t 99), (.c (I 1)), (.c (I 262144))]), some (97, false)⟩, {}⟩, ⟨⟨some 101, (.un .not (.t 100)), some (97, false)⟩, {}⟩, ⟨⟨some 102, (.pick (.t 97) (.c (B true)) (.t 101)), none⟩, {}⟩, ⟨⟨some 103, (.mov (.t 102)), none⟩, {}⟩, ⟨⟨some 104, (.fadr 8 (.t 6)), some (103, false)⟩, {}⟩, ⟨⟨some 105,
  (.load true 2 (.t 104)), some (103, false)⟩, {}⟩, ⟨⟨some 106, (.call (.c (.fn 48 [])) [(.t 105), (.c (I (-2199023255552))), (.c (I 2199023255552))]), some (103, false)⟩, {}⟩, ⟨⟨some 107, (.un .not (.t 106)), some (103, false)⟩, {}⟩, ⟨⟨some 108, (.pick (.t 103) (.c (B true)) (.t 107)), none⟩, {}⟩]
  none) ref01_Check_C9)
def ref01_Check_C2 : TC := (.rg [⟨⟨some 41, (.mov (.t 5)), none⟩, {}⟩, ⟨⟨some 42, (.bin .add (.t 41) (.c (I 1))), none⟩, {}⟩, ⟨⟨some 5, (.mov (.t 42)), none⟩, {}⟩] none)
def ref01_Check_C10 : TC := (.cond (.t 40) .skip (.exit 2))
def ref01_Check_C28 : TC := .ret
def ref01_Check_C24 : TC := (.cond (.t 78) (.seq (.rg [⟨⟨some 2, (.mov (.c (I 4))), none⟩, {}⟩] none) ref01_Check_C28) .skip)
def ref01_Check_C25 : TC := (.join [.keep [1, 5, 6], .cmp] ref01_Check_C1)
def ref01_Check_C19 : TC := (.seq (.seq (.rg [⟨⟨some 48, (.fadr 0 (.t 6)), none⟩, {}⟩, ⟨⟨some 49, (.load false 1 (.t 48)), none⟩, {}⟩, ⟨⟨some 50, (.bin .lss (.t 49) (.c (I 0))), none⟩, {}⟩, ⟨⟨some 51, (.mov (.t 50)), none⟩, {}⟩, ⟨⟨some 52, (.fadr 0 (.t 6)), some (51, false)⟩, {}⟩, ⟨⟨some 53, (.load false 1 (.t 52)), some (51,
  false)⟩, {}⟩, ⟨⟨some 54, (.fadr 0 (.t 1)), some (51, false)⟩, {}⟩, ⟨⟨some 55, (.load false 1 (.t 54)), some (51, false)⟩, {}⟩, ⟨⟨some 56, (.len (.t 55)), some (51, false)⟩, {}⟩, ⟨⟨some 57, (.bin .geq (.t 53) (.t 56)), some (51, false)⟩, {}⟩, ⟨⟨some 58, (.pick (.t 51) (.c (B true)) (.t 57)), none⟩,
  {}⟩, ⟨⟨some 59, (.mov (.t 58)), none⟩, {}⟩, ⟨⟨some 60, (.fadr 1 (.t 6)), some (59, false)⟩, {}⟩, ⟨⟨some 61, (.load false 1 (.t 60)), some (59, false)⟩, {}⟩, ⟨⟨some 62, (.bin .lss (.t 61) (.c (I 0))), some (59, false)⟩, {}⟩, ⟨⟨some 63, (.pick (.t 59) (.c (B true)) (.t 62)), none⟩, {}⟩, ⟨⟨some 64,
  (.mov (.t 63)), none⟩, {}⟩, ⟨⟨some 65, (.fadr 1 (.t 6)), some (64, false)⟩, {}⟩, ⟨⟨some 66, (.load false 1 (.t 65)), some (64, false)⟩, {}⟩, ⟨⟨some 67, (.fadr 0 (.t 1)), some (64, false)⟩, {}⟩, ⟨⟨some 68, (.load false 1 (.t 67)), some (64, false)⟩, {}⟩, ⟨⟨some 69, (.len (.t 68)), some (64, false)⟩,
  {}⟩, ⟨⟨some 70, (.bin .geq (.t 66) (.t 69)), some (64, false)⟩, {}⟩, ⟨⟨some 71, (.pick (.t 64) (.c (B true)) (.t 70)), none⟩, {}⟩, ⟨⟨some 72, (.mov (.t 71)), none⟩, {}⟩, ⟨⟨some 73, (.fadr 0 (.t 6)), some (72, false)⟩, {}⟩, ⟨⟨some 74, (.load false 1 (.t 73)), some (72, false)⟩, {}⟩, ⟨⟨some 75,
  (.fadr 1 (.t 6)), some (72, false)⟩, {}⟩, ⟨⟨some 76, (.load false 1 (.t 75)), some (72, false)⟩, {}⟩, ⟨⟨some 77, (.bin .eql (.t 74) (.t 76)), some (72, false)⟩, {}⟩, ⟨⟨some 78, (.pick (.t 72) (.c (B true)) (.t 77)), none⟩, {}⟩] none) ref01_Check_C24) ref01_Check_C25)
def ref01_Check_C11 : TC := (.seq (.block 3 (.seq (.rg [⟨⟨some 43, (.fadr 1 (.t 1)), none⟩, {}⟩, ⟨⟨some 44, (.load false 1 (.t 43)), none⟩, {}⟩, ⟨⟨some 45, (.mov (.t 5)), none⟩, {}⟩, ⟨⟨some 46, (.iadrS 10 (.t 44) (.t 45)), none⟩, {}⟩, ⟨⟨some 47, (.load true 10 (.t 46)), none⟩, {}⟩, ⟨⟨some 6, (.alloc [(I 0), (I 0), (I 0), (I 0),
  (B false), (B false), (I 0), (I 0), (I 0), (I 0)]), none⟩, {}⟩, ⟨⟨none, (.store 10 (.t 6) (.t 47)), none⟩, {}⟩] none) ref01_Check_C19)) ref01_Check_C2)
def ref01_Check_C3 : TC := (.seq (.seq (.rg [⟨⟨some 36, (.mov (.t 5)), none⟩, {}⟩, ⟨⟨some 37, (.fadr 1 (.t 1)), none⟩, {}⟩, ⟨⟨some 38, (.load false 1 (.t 37)), none⟩, {}⟩, ⟨⟨some 39, (.len (.t 38)), none⟩, {}⟩, ⟨⟨some 40, (.bin .lss (.t 36) (.t 39)), none⟩, {}⟩] none) ref01_Check_C10) ref01_Check_C11)
def ref01_Check_C12 : TC := .ret
def ref01_Check_C4 : TC := (.seq (.rg [⟨⟨some 2, (.mov (.c (I 0))), none⟩, {}⟩] none) ref01_Check_C12)
def ref01_Check_C13 : TC := (.cond (.t 21) .skip (.exit 0))
def ref01_Check_C29 : TC := .ret
def ref01_Check_C26 : TC := (.cond (.t 35) (.seq (.rg [⟨⟨some 2, (.mov (.c (I 1))), none⟩, {}⟩] none) ref01_Check_C29) .skip)
def ref01_Check_C20 : TC := (.seq (.rg [⟨⟨some 30, (.mov (.t 4)), none⟩, {}⟩, ⟨⟨some 31, (.bin .lss (.t 30) (.c (I (-10000)))), none⟩, {}⟩, ⟨⟨some 32, (.mov (.t 31)), none⟩, {}⟩, ⟨⟨some 33, (.mov (.t 4)), some (32, false)⟩, {}⟩, ⟨⟨some 34, (.bin .gtr (.t 33) (.c (I 10000))), some (32, false)⟩, {}⟩, ⟨⟨some 35, (.pick (.t 32) (.c
  (B true)) (.t 34)), none⟩, {}⟩] none) ref01_Check_C26)
def ref01_Check_C21 : TC := (.rg [⟨⟨some 22, (.mov (.t 3)), none⟩, {}⟩, ⟨⟨some 23, (.bin .add (.t 22) (.c (I 1))), none⟩, {}⟩, ⟨⟨some 3, (.mov (.t 23)), none⟩, {}⟩] none)
def ref01_Check_C14 : TC := (.seq (.block 1 (.seq (.rg [⟨⟨some 24, (.fadr 0 (.t 1)), none⟩, {}⟩, ⟨⟨some 25, (.load false 1 (.t 24)), none⟩, {}⟩, ⟨⟨some 26, (.mov (.t 3)), none⟩, {}⟩, ⟨⟨some 27, (.iadrS 2 (.t 25) (.t 26)), none⟩, {}⟩, ⟨⟨some 28, (.fadr 0 (.t 27)), none⟩, {}⟩, ⟨⟨some 29, (.load false 1 (.t 28)), none⟩, {}⟩,
  ⟨⟨some 4, (.mov (.t 29)), none⟩, {}⟩] none) ref01_Check_C20)) ref01_Check_C21)
def ref01_Check_C5 : TC := (.seq (.seq (.rg [⟨⟨some 17, (.mov (.t 3)), none⟩, {}⟩, ⟨⟨some 18, (.fadr 0 (.t 1)), none⟩, {}⟩, ⟨⟨some 19, (.load false 1 (.t 18)), none⟩, {}⟩, ⟨⟨some 20, (.len (.t 19)), none⟩, {}⟩, ⟨⟨some 21, (.bin .lss (.t 17) (.t 20)), none⟩, {}⟩] none) ref01_Check_C13) ref01_Check_C14)
def ref01_Check_C15 : TC := (.block 2 (.loop ref01_Check_N2 ref01_Check_C3))
def ref01_Check_C6 : TC := (.seq (.seq (.rg [⟨⟨some 5, (.mov (.c (I 0))), none⟩, {}⟩] none) ref01_Check_C15) ref01_Check_C4)
def ref01_Check_C16 : TC := (.block 0 (.loop ref01_Check_N1 ref01_Check_C5))
def ref01_Check_C7 : TC := (.seq (.seq (.rg [⟨⟨some 3, (.mov (.c (I 0))), none⟩, {}⟩] none) ref01_Check_C16) ref01_Check_C6)
def ref01_Check_C27 : TC := .ret
def ref01_Check_C22 : TC := (.cond (.t 16) (.seq (.rg [⟨⟨some 2, (.mov (.c (I 2))), none⟩, {}⟩] none) ref01_Check_C27) .skip)
def ref01_Check_C23 : TC := (.join [.keep [1], .cmp] ref01_Check_C7)
def ref01_Check_C17 : TC := (.seq (.seq (.rg [⟨⟨some 7, (.fadr 0 (.t 1)), none⟩, {}⟩, ⟨⟨some 8, (.load false 1 (.t 7)), none⟩, {}⟩, ⟨⟨some 9, (.len (.t 8)), none⟩, {}⟩, ⟨⟨some 10, (.bin .gtr (.t 9) (.c (I 64))), none⟩, {}⟩, ⟨⟨some 11, (.mov (.t 10)), none⟩, {}⟩, ⟨⟨some 12, (.fadr 1 (.t 1)), some (11, false)⟩, {}⟩, ⟨⟨some 13,
  (.load false 1 (.t 12)), some (11, false)⟩, {}⟩, ⟨⟨some 14, (.len (.t 13)), some (11, false)⟩, {}⟩, ⟨⟨some 15, (.bin .gtr (.t 14) (.c (I 128))), some (11, false)⟩, {}⟩, ⟨⟨some 16, (.pick (.t 11) (.c (B true)) (.t 15)), none⟩, {}⟩] none) ref01_Check_C22) ref01_Check_C23)
def ref01_Check_C8 : TC := (.seq (.rg [⟨⟨some 1, (.box (.t 0)), none⟩, {}⟩, ⟨⟨some 2, (.mov (.c (I 0))), none⟩, {}⟩] none) ref01_Check_C17)
def ref01_Check_E (N : Nat) : List (Nat × Ent) := [(48, pureE [G_Span, (.int .i64), (.int .i64)] [.bool] (fun x => ref01_Span N x.1 x.2.1 x.2.2))]
def ref01_Check_J2 (N n2 : Nat) (x14 : Int) (x15 : List T_Place) (x16 : List T_Road) (x17 : Int) (x18 : Int) (x19 : Int) (x20 : Int) (x21 : Bool) (x22 : Bool) (x23 : Int) (x24 : Int) (x25 : Int) (x26 : Int) : Option Int := joinN (run (ref01_Check_E N) N 0 ref01_Check_C1) N ⟨[(1, .ptr 0 0 0), (5, .int .i64 x14), (6, .ptr 1 0 0)], [some (.box 0 [.lst false G_Place x15, .lst false G_Road x16]), some (.box 0 [.int .i64 x17, .int .i64 x18, .int .i64 x19, .int .i64 x20, .bool x21, .bool x22, .int .i64 x23, .int .i64 x24, .int .i64 x25, .int .i64 x26])]⟩ (blkK 3 (seqK (run (ref01_Check_E N) N 0 ref01_Check_C2) (seqK (nextL (normI 0 ref01_Check_N2) (loopN (normI 0 ref01_Check_N2) (run (ref01_Check_E N) N 0 ref01_Check_C3) n2)) (blkK 2 (seqK (run (ref01_Check_E N) N 0 ref01_Check_C4) (fin [(.t 2)] [(.int .i64)]))))))
def ref01_Check_L2 (N : Nat) (n : Nat) (x10 : Int) (x11 : List T_Place) (x12 : List T_Road) : Option Int := loopN (normI 0 ref01_Check_N2) (run (ref01_Check_E N) N 0 ref01_Check_C3) n ⟨[(1, .ptr 0 0 0), (5, .int .i64 x10)], [some (.box 0 [.lst false G_Place x11, .lst false G_Road x12])]⟩ (blkK 2 (seqK (run (ref01_Check_E N) N 0 ref01_Check_C4) (fin [(.t 2)] [(.int .i64)])))
def ref01_Check_L1 (N : Nat) (n : Nat) (x3 : Int) (x4 : List T_Place) (x5 : List T_Road) : Option Int := loopN (normI 0 ref01_Check_N1) (run (ref01_Check_E N) N 0 ref01_Check_C5) n ⟨[(1, .ptr 0 0 0), (3, .int .i64 x3)], [some (.box 0 [.lst false G_Place x4, .lst false G_Road x5])]⟩ (blkK 0 (seqK (run (ref01_Check_E N) N 0 ref01_Check_C6) (fin [(.t 2)] [(.int .i64)])))
def ref01_Check_J1 (N : Nat) (x1 : List T_Place) (x2 : List T_Road) : Option Int := joinN (run (ref01_Check_E N) N 0 ref01_Check_C7) N ⟨[(1, .ptr 0 0 0)], [some (.box 0 [.lst false G_Place x1, .lst false G_Road x2])]⟩ (fin [(.t 2)] [(.int .i64)])
theorem ref01_Check_J2_eq (N n2 : Nat) (x14 : Int) (x15 : List T_Place) (x16 : List T_Road) (x17 : Int) (x18 : Int) (x19 : Int) (x20 : Int) (x21 : Bool) (x22 : Bool) (x23 : Int) (x24 : Int) (x25 : Int) (x26 : Int) : ref01_Check_J2 (N + 1) n2 x14 x15 x16 x17 x18 x19 x20 x21 x22 x23 x24 x25 x26 =
  bif (decide (x19 < 1)) then
    some 1
  else
    bif (decide (x19 > 100000)) then
      some 1
    else
      bif (decide (x20 < 1)) then
        some 1
      else
        bif (decide (x20 > 1000)) then
          some 1
        else
          Option.bind (ref01_Span (N + 1) (x23, x24) 1 262144) fun r27 =>
          bif (!r27) then
            some 1
          else
            Option.bind (ref01_Span (N + 1) (x25, x26) (-2199023255552) 2199023255552) fun r28 =>
            bif (!r28) then
              some 1
            else
              ref01_Check_L2 (N + 1) n2 (W (x14 + 1)) x15 x16 := by kernel_rfl
theorem ref01_Check_L2_zero (N : Nat) (x10 : Int) (x11 : List T_Place) (x12 : List T_Road) : ref01_Check_L2 N 0 x10 x11 x12 = none := rfl
theorem ref01_Check_L2_succ (N : Nat) (n2 : Nat) (x10 : Int) (x11 : List T_Place) (x12 : List T_Road) : ref01_Check_L2 N (n2 + 1) x10 x11 x12 =
  bif (decide (x10 < (x12.length : Int))) then
    bif inB x10 x12.length then
    let v13 := x12.getD x10.toNat D_Road
    bif (decide (v13.1 < 0)) then
      some 4
    else
      bif (decide (v13.1 ≥ (x11.length : Int))) then
        some 4
      else
        bif (decide (v13.2.1 < 0)) then
          some 4
        else
          bif (decide (v13.2.1 ≥ (x11.length : Int))) then
            some 4
          else
            bif (v13.1 == v13.2.1) then
              some 4
            else
              ref01_Check_J2 N n2 x10 x11 x12 v13.1 v13.2.1 v13.2.2.1 v13.2.2.2.1 v13.2.2.2.2.1 v13.2.2.2.2.2.1 v13.2.2.2.2.2.2.1.1 v13.2.2.2.2.2.2.1.2 v13.2.2.2.2.2.2.2.1 v13.2.2.2.2.2.2.2.2
    else none
  else
    some 0 := by kernel_rfl
theorem ref01_Check_L1_zero (N : Nat) (x3 : Int) (x4 : List T_Place) (x5 : List T_Road) : ref01_Check_L1 N 0 x3 x4 x5 = none := rfl
theorem ref01_Check_L1_succ (N : Nat) (n1 : Nat) (x3 : Int) (x4 : List T_Place) (x5 : List T_Road) : ref01_Check_L1 N (n1 + 1) x3 x4 x5 =
  bif (decide (x3 < (x4.length : Int))) then
    bif inB x3 x4.length then
    bif (decide ((x4.getD x3.toNat D_Place).1 < (-10000))) then
      some 1
    else
      bif (decide ((x4.getD x3.toNat D_Place).1 > 10000)) then
        some 1
      else
        ref01_Check_L1 N n1 (W (x3 + 1)) x4 x5
    else none
  else
    ref01_Check_L2 N N 0 x4 x5 := by kernel_rfl
theorem ref01_Check_J1_eq (N : Nat) (x1 : List T_Place) (x2 : List T_Road) : ref01_Check_J1 (N + 1) x1 x2 =
  ref01_Check_L1 (N + 1) (N + 1) 0 x1 x2 := by kernel_rfl
def ref01_Check (N : Nat) (a0 : T_Mine) : Option Int :=
  bif (decide ((a0.1.length : Int) > 64)) then
    some 2
  else
    bif (decide ((a0.2.length : Int) > 128)) then
      some 2
    else
      ref01_Check_J1 N a0.1 a0.2
theorem ref01_Check_fn : FnOK Try.prog 40 109 (fun _ : Nat => false) ref01_Check_C8.er [(.t 2)] := FnOK.mk' Try.func40 (by kernel_rfl) (by kernel_rfl) (by kernel_rfl) (by kernel_rfl) (by kernel_rfl)
theorem ref01_Check_envok (N : Nat) : EnvOK Try.prog (ref01_Check_E N) := .cons (pureE_ok (ref01_Span_pure N)) (.nil)
theorem ref01_Check_pure (N : Nat) : PureOK Try.prog 40 [G_Mine] [(.int .i64)] (fun x => ref01_Check N x) := pureOK (N := N) mixed ref01_Check_fn (ref01_Check_envok N) rfl (fun x => by kernel_rfl)
/-! ref24_Valid -/
def ref24_Valid_N1 : List NS := [.wk 1 (.list G_TagReader), .keep [1, 2, 5], .cmp]
def ref24_Valid_C4 : TC := (.cond (.t 10) .skip (.exit 0))
def ref24_Valid_C12 : TC := .ret
def ref24_Valid_C11 : TC := (.cond (.t 59) (.seq (.rg [⟨⟨some 4, (.mov (.c (B false))), none⟩, {}⟩] none) ref24_Valid_C12) .skip)
def ref24_Valid_C8 : TC := (.seq (.rg [⟨⟨some 17, (.fadr 0 (.t 6)), none⟩, {}⟩, ⟨⟨some 18, (.load false 1 (.t 17)), none⟩, {}⟩, ⟨⟨some 19, (.len (.t 18)), none⟩, {}⟩, ⟨⟨some 20, (.bin .eql (.t 19) (.c (I 0))), none⟩, {}⟩, ⟨⟨some 21, (.mov (.t 20)), none⟩, {}⟩, ⟨⟨some 22, (.fadr 0 (.t 6)), some (21, false)⟩, {}⟩, ⟨⟨some 23,
  (.load false 1 (.t 22)), some (21, false)⟩, {}⟩, ⟨⟨some 24, (.fadr 0 (.t 2)), some (21, false)⟩, {}⟩, ⟨⟨some 25, (.load false 1 (.t 24)), some (21, false)⟩, {}⟩, ⟨⟨some 26, (.len (.t 25)), some (21, false)⟩, {}⟩, ⟨⟨some 27, (.call (.c (.fn 39 [])) [(.t 23), (.t 26)]), some (21, false)⟩, {}⟩, ⟨⟨some
  28, (.un .not (.t 27)), some (21, false)⟩, {}⟩, ⟨⟨some 29, (.pick (.t 21) (.c (B true)) (.t 28)), none⟩, {}⟩, ⟨⟨some 30, (.mov (.t 29)), none⟩, {}⟩, ⟨⟨some 31, (.fadr 1 (.t 6)), some (30, false)⟩, {}⟩, ⟨⟨some 32, (.load false 1 (.t 31)), some (30, false)⟩, {}⟩, ⟨⟨some 33, (.bin .lss (.t 32) (.c (I
  1))), some (30, false)⟩, {}⟩, ⟨⟨some 34, (.pick (.t 30) (.c (B true)) (.t 33)), none⟩, {}⟩, ⟨⟨some 35, (.mov (.t 34)), none⟩, {}⟩, ⟨⟨some 36, (.fadr 1 (.t 6)), some (35, false)⟩, {}⟩, ⟨⟨some 37, (.load false 1 (.t 36)), some (35, false)⟩, {}⟩, ⟨⟨some 38, (.bin .gtr (.t 37) (.c (I 600))), some (35,
  false)⟩, {}⟩, ⟨⟨some 39, (.pick (.t 35) (.c (B true)) (.t 38)), none⟩, {}⟩, ⟨⟨some 40, (.mov (.t 39)), none⟩, {}⟩, ⟨⟨some 41, (.fadr 2 (.t 6)), some (40, false)⟩, {}⟩, ⟨⟨some 42, (.load false 1 (.t 41)), some (40, false)⟩, {}⟩, ⟨⟨some 43, (.bin .lss (.t 42) (.c (I 0))), some (40, false)⟩, {}⟩,
  ⟨⟨some 44, (.pick (.t 40) (.c (B true)) (.t 43)), none⟩, {}⟩, ⟨⟨some 45, (.mov (.t 44)), none⟩, {}⟩, ⟨⟨some 46, (.fadr 2 (.t 6)), some (45, false)⟩, {}⟩, ⟨⟨some 47, (.load false 1 (.t 46)), some (45, false)⟩, {}⟩, ⟨⟨some 48, (.bin .gtr (.t 47) (.c (I 10))), some (45, false)⟩, {}⟩, ⟨⟨some 49, (.pick
  (.t 45) (.c (B true)) (.t 48)), none⟩, {}⟩, ⟨⟨some 50, (.mov (.t 49)), none⟩, {}⟩, ⟨⟨some 51, (.fadr 3 (.t 6)), some (50, false)⟩, {}⟩, ⟨⟨some 52, (.load false 1 (.t 51)), some (50, false)⟩, {}⟩, ⟨⟨some 53, (.bin .lss (.t 52) (.c (I 0))), some (50, false)⟩, {}⟩, ⟨⟨some 54, (.pick (.t 50) (.c (B
  true)) (.t 53)), none⟩, {}⟩, ⟨⟨some 55, (.mov (.t 54)), none⟩, {}⟩, ⟨⟨some 56, (.fadr 3 (.t 6)), some (55, false)⟩, {}⟩, ⟨⟨some 57, (.load false 1 (.t 56)), some (55, false)⟩, {}⟩, ⟨⟨some 58, (.bin .gtr (.t 57) (.c (I 60))), some (55, false)⟩, {}⟩, ⟨⟨some 59, (.pick (.t 55) (.c (B true)) (.t 58)),
  none⟩, {}⟩] none) ref24_Valid_C11)
def ref24_Valid_C9 : TC := (.rg [⟨⟨some 11, (.mov (.t 5)), none⟩, {}⟩, ⟨⟨some 12, (.bin .add (.t 11) (.c (I 1))), none⟩, {}⟩, ⟨⟨some 5, (.mov (.t 12)), none⟩, {}⟩] none)
def ref24_Valid_C5 : TC := (.seq (.block 1 (.seq (.rg [⟨⟨some 13, (.mov (.t 1)), none⟩, {}⟩, ⟨⟨some 14, (.mov (.t 5)), none⟩, {}⟩, ⟨⟨some 15, (.iadrS 4 (.t 13) (.t 14)), none⟩, {}⟩, ⟨⟨some 16, (.load true 4 (.t 15)), none⟩, {}⟩, ⟨⟨some 6, (.alloc [(.lst true []), (I 0), (I 0), (I 0)]), none⟩, {}⟩, ⟨⟨none, (.store 4 (.t 6) (.t
  16)), none⟩, {}⟩] none) ref24_Valid_C8)) ref24_Valid_C9)
def ref24_Valid_C1 : TC := (.seq (.seq (.rg [⟨⟨some 7, (.mov (.t 5)), none⟩, {}⟩, ⟨⟨some 8, (.mov (.t 1)), none⟩, {}⟩, ⟨⟨some 9, (.len (.t 8)), none⟩, {}⟩, ⟨⟨some 10, (.bin .lss (.t 7) (.t 9)), none⟩, {}⟩] none) ref24_Valid_C4) ref24_Valid_C5)
def ref24_Valid_C6 : TC := .ret
def ref24_Valid_C2 : TC := (.seq (.rg [⟨⟨some 60, (.load true 2 (.t 2)), none⟩, {}⟩, ⟨⟨some 61, (.call (.c (.fn 40 [])) [(.t 60)]), none⟩, {}⟩, ⟨⟨some 62, (.bin .eql (.t 61) (.c (I 0))), none⟩, {}⟩, ⟨⟨some 63, (.mov (.t 62)), none⟩, {}⟩, ⟨⟨some 64, (.mov (.t 1)), some (63, true)⟩, {}⟩, ⟨⟨some 65, (.len (.t 64)), some (63,
  true)⟩, {}⟩, ⟨⟨some 66, (.bin .leq (.t 65) (.c (I 32))), some (63, true)⟩, {}⟩, ⟨⟨some 67, (.pick (.t 63) (.t 66) (.c (B false))), none⟩, {}⟩, ⟨⟨some 4, (.mov (.t 67)), none⟩, {}⟩] none) ref24_Valid_C6)
def ref24_Valid_C10 : TC := (.block 0 (.loop ref24_Valid_N1 ref24_Valid_C1))
def ref24_Valid_C7 : TC := (.seq (.seq (.rg [⟨⟨some 5, (.mov (.c (I 0))), none⟩, {}⟩] none) ref24_Valid_C10) ref24_Valid_C2)
def ref24_Valid_C3 : TC := (.seq (.rg [⟨⟨some 2, (.box (.t 0)), none⟩, {}⟩, ⟨⟨some 4, (.mov (.c (B false))), none⟩, {}⟩] none) ref24_Valid_C7)
def ref24_Valid_E (N : Nat) : List (Nat × Ent) := [(39, pureE [(.list (.int .i64)), (.int .i64)] [.bool] (fun x => ref23_Set N x.1 x.2)), (40, pureE [G_Mine] [(.int .i64)] (fun x => ref01_Check N x))]
def ref24_Valid_L1 (N : Nat) (n : Nat) (x1 : List T_TagReader) (x2 : Int) (x3 : List T_Place) (x4 : List T_Road) : Option Bool := loopN (normI 0 ref24_Valid_N1) (run (ref24_Valid_E N) N 0 ref24_Valid_C1) n ⟨[(1, .lst false G_TagReader x1), (2, .ptr 0 0 0), (5, .int .i64 x2)], [some (.box 0 [.lst false G_Place x3, .lst false G_Road x4])]⟩ (blkK 0 (seqK (run (ref24_Valid_E N) N 0 ref24_Valid_C2) (fin [(.t 4)] [.bool])))
theorem ref24_Valid_L1_zero (N : Nat) (x1 : List T_TagReader) (x2 : Int) (x3 : List T_Place) (x4 : List T_Road) : ref24_Valid_L1 N 0 x1 x2 x3 x4 = none := rfl
theorem ref24_Valid_L1_succ (N : Nat) (n1 : Nat) (x1 : List T_TagReader) (x2 : Int) (x3 : List T_Place) (x4 : List T_Road) : ref24_Valid_L1 N (n1 + 1) x1 x2 x3 x4 =
  bif (decide (x2 < (x1.length : Int))) then
    bif inB x2 x1.length then
    let v5 := x1.getD x2.toNat D_TagReader
    bif ((v5.1.length : Int) == 0) then
      some false
    else
      Option.bind (ref23_Set N v5.1 (x3.length : Int)) fun r6 =>
      bif (!r6) then
        some false
      else
        bif (decide (v5.2.1 < 1)) then
          some false
        else
          bif (decide (v5.2.1 > 600)) then
            some false
          else
            bif (decide (v5.2.2.1 < 0)) then
              some false
            else
              bif (decide (v5.2.2.1 > 10)) then
                some false
              else
                bif (decide (v5.2.2.2 < 0)) then
                  some false
                else
                  bif (decide (v5.2.2.2 > 60)) then
                    some false
                  else
                    ref24_Valid_L1 N n1 x1 (W (x2 + 1)) x3 x4
    else none
  else
    Option.bind (ref01_Check N (x3, x4)) fun r11 =>
    bif (r11 == 0) then
      some (decide ((x1.length : Int) ≤ 32))
    else
      some false := by kernel_rfl
def ref24_Valid (N : Nat) (a0 : T_Mine) (a1 : List T_TagReader) : Option Bool :=
  ref24_Valid_L1 N N a1 0 a0.1 a0.2
theorem ref24_Valid_fn : FnOK Try.prog 23 68 (fun _ : Nat => false) ref24_Valid_C3.er [(.t 4)] := FnOK.mk' Try.func23 (by kernel_rfl) (by kernel_rfl) (by kernel_rfl) (by kernel_rfl) (by kernel_rfl)
theorem ref24_Valid_envok (N : Nat) : EnvOK Try.prog (ref24_Valid_E N) := .cons (pureE_ok (ref23_Set_pure N)) (.cons (pureE_ok (ref01_Check_pure N)) (.nil))
theorem ref24_Valid_pure (N : Nat) : PureOK Try.prog 23 [G_Mine, (.list G_TagReader)] [.bool] (fun x => ref24_Valid N x.1 x.2) := pureOK (N := N) mixed ref24_Valid_fn (ref24_Valid_envok N) rfl (fun x => by kernel_rfl)
end M
end Go.Proofs.Ytiialoppbdcojaa
