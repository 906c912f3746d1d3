/- Plain models of functions of this seat, each checked against the loaded program and the walk by the kernel. No condition: closed facts. Printed by a program of ours. -/
import Derived.Test.YtpmpmlhjnddikaaPxN
import Derived.Test.YtpmpmlhjnddikaaRows
set_option linter.all false
namespace Go.Proofs.Ytpmpmlhjnddikaa
open Go.Pv
namespace M
theorem mixed : Try.prog.follows .mixedOrders = true := Try.checked.mixed
abbrev G_boundsError : GT := (.pair (.int .i64) (.pair (.int .i64) (.pair .bool (.int .u8))))
abbrev T_boundsError := Int × Int × Bool × Int
abbrev D_boundsError : T_boundsError := (0, (0, (false, 0)))
abbrev G_errorAddressString : GT := (.pair .str (.int .u64))
abbrev T_errorAddressString := ByteArray × Int
abbrev D_errorAddressString : T_errorAddressString := (ByteArray.empty, 0)
abbrev G_Span : GT := (.pair (.int .i64) (.int .i64))
abbrev T_Span := Int × Int
abbrev D_Span : T_Span := (0, 0)
abbrev G_Fumes : GT := (.pair (.int .i64) (.list (.int .i64)))
abbrev T_Fumes := Int × List Int
abbrev D_Fumes : T_Fumes := (0, [])
abbrev G_Place : GT := (.pair (.int .i64) .bool)
abbrev T_Place := Int × Bool
abbrev D_Place : T_Place := (0, false)
abbrev G_Road : GT := (.pair (.int .i64) (.pair (.int .i64) (.pair (.int .i64) (.pair (.int .i64) (.pair .bool (.pair .bool (.pair G_Span (.pair (.int .i64) (.int .i64)))))))))
abbrev T_Road := Int × Int × Int × Int × Bool × Bool × T_Span × Int × Int
abbrev D_Road : T_Road := (0, (0, (0, (0, (false, (false, (D_Span, (0, 0))))))))
abbrev G_Mine : GT := (.pair (.list G_Place) (.list G_Road))
abbrev T_Mine := (List T_Place) × List T_Road
abbrev D_Mine : T_Mine := ([], [])
abbrev G_Dice : GT := (.pair (.list (.int .i64)) (.int .i64))
abbrev T_Dice := (List Int) × Int
abbrev D_Dice : T_Dice := ([], 0)
abbrev G_air : GT := (.pair G_Mine (.pair (.list (.list (.int .i64))) (.list (.int .i64))))
abbrev T_air := T_Mine × (List (List Int)) × List Int
abbrev D_air : T_air := (D_Mine, ([], []))
/-! made_Light -/
def made_Light_C3 : TC := .ret
def made_Light_C2 : TC := (.seq (.rg [⟨⟨some 3, (.mov (.t 0)), none⟩, {}⟩, ⟨⟨some 4, (.len (.t 3)), none⟩, {}⟩, ⟨⟨some 5, (.bin .leq (.t 4) (.c (I 400))), none⟩, {}⟩, ⟨⟨some 2, (.mov (.t 5)), none⟩, {}⟩] none) made_Light_C3)
def made_Light_C1 : TC := (.seq (.rg [⟨⟨some 2, (.mov (.c (B false))), none⟩, {}⟩] none) made_Light_C2)
def made_Light_E (N : Nat) : List (Nat × Ent) := []
def made_Light (N : Nat) (a0 : List Int) : Option Bool :=
  some (decide ((a0.length : Int) ≤ 400))
theorem made_Light_fn : FnOK Try.prog 7 6 (fun _ : Nat => false) made_Light_C1.er [(.t 2)] := FnOK.mk' Try.func7 (by kernel_rfl) (by kernel_rfl) (by kernel_rfl) (by kernel_rfl) (by kernel_rfl)
theorem made_Light_envok (N : Nat) : EnvOK Try.prog (made_Light_E N) := .nil
theorem made_Light_pure (N : Nat) : PureOK Try.prog 7 [(.list (.int .i64))] [.bool] (fun x => made_Light N x) := pureOK (N := N) mixed made_Light_fn (made_Light_envok N) rfl (fun x => by kernel_rfl)
/-! lists_In -/
def lists_In_C3 : TC := .ret
def lists_In_C2 : TC := (.seq (.rg [⟨⟨some 7, (.mov (.t 0)), none⟩, {}⟩, ⟨⟨some 8, (.mov (.t 1)), none⟩, {}⟩, ⟨⟨some 9, (.bin .geq (.t 7) (.t 8)), none⟩, {}⟩, ⟨⟨some 10, (.mov (.t 9)), none⟩, {}⟩, ⟨⟨some 11, (.mov (.t 0)), some (10, true)⟩, {}⟩, ⟨⟨some 12, (.mov (.t 2)), some (10, true)⟩, {}⟩, ⟨⟨some 13, (.bin .leq (.t 11)
  (.t 12)), some (10, true)⟩, {}⟩, ⟨⟨some 14, (.pick (.t 10) (.t 13) (.c (B false))), none⟩, {}⟩, ⟨⟨some 6, (.mov (.t 14)), none⟩, {}⟩] none) lists_In_C3)
def lists_In_C1 : TC := (.seq (.rg [⟨⟨some 6, (.mov (.c (B false))), none⟩, {}⟩] none) lists_In_C2)
def lists_In_E (N : Nat) : List (Nat × Ent) := []
def lists_In (N : Nat) (a0 : Int) (a1 : Int) (a2 : Int) : Option Bool :=
  bif (decide (a0 ≥ a1)) then
    some (decide (a0 ≤ a2))
  else
    some false
theorem lists_In_fn : FnOK Try.prog 34 15 (fun _ : Nat => false) lists_In_C1.er [(.t 6)] := FnOK.mk' Try.func34 (by kernel_rfl) (by kernel_rfl) (by kernel_rfl) (by kernel_rfl) (by kernel_rfl)
theorem lists_In_envok (N : Nat) : EnvOK Try.prog (lists_In_E N) := .nil
theorem lists_In_pure (N : Nat) : PureOK Try.prog 34 [(.int .i64), (.int .i64), (.int .i64)] [.bool] (fun x => lists_In N x.1 x.2.1 x.2.2) := pureOK (N := N) mixed lists_In_fn (lists_In_envok N) rfl (fun x => by kernel_rfl)
/-! plan_spanIn -/
def plan_spanIn_C3 : TC := .ret
def plan_spanIn_C2 : TC := (.seq (.rg [⟨⟨some 7, (.mov (.t 1)), none⟩, {}⟩, ⟨⟨some 8, (.fadr 0 (.t 3)), none⟩, {}⟩, ⟨⟨some 9, (.load false 1 (.t 8)), none⟩, {}⟩, ⟨⟨some 10, (.bin .leq (.t 7) (.t 9)), none⟩, {}⟩, ⟨⟨some 11, (.mov (.t 10)), none⟩, {}⟩, ⟨⟨some 12, (.fadr 0 (.t 3)), some (11, true)⟩, {}⟩, ⟨⟨some 13, (.load false 1
  (.t 12)), some (11, true)⟩, {}⟩, ⟨⟨some 14, (.fadr 1 (.t 3)), some (11, true)⟩, {}⟩, ⟨⟨some 15, (.load false 1 (.t 14)), some (11, true)⟩, {}⟩, ⟨⟨some 16, (.bin .leq (.t 13) (.t 15)), some (11, true)⟩, {}⟩, ⟨⟨some 17, (.pick (.t 11) (.t 16) (.c (B false))), none⟩, {}⟩, ⟨⟨some 18, (.mov (.t 17)),
  none⟩, {}⟩, ⟨⟨some 19, (.fadr 1 (.t 3)), some (18, true)⟩, {}⟩, ⟨⟨some 20, (.load false 1 (.t 19)), some (18, true)⟩, {}⟩, ⟨⟨some 21, (.mov (.t 2)), some (18, true)⟩, {}⟩, ⟨⟨some 22, (.bin .leq (.t 20) (.t 21)), some (18, true)⟩, {}⟩, ⟨⟨some 23, (.pick (.t 18) (.t 22) (.c (B false))), none⟩, {}⟩,
  ⟨⟨some 6, (.mov (.t 23)), none⟩, {}⟩] none) plan_spanIn_C3)
def plan_spanIn_C1 : TC := (.seq (.rg [⟨⟨some 3, (.box (.t 0)), none⟩, {}⟩, ⟨⟨some 6, (.mov (.c (B false))), none⟩, {}⟩] none) plan_spanIn_C2)
def plan_spanIn_E (N : Nat) : List (Nat × Ent) := []
def plan_spanIn (N : Nat) (a0 : T_Span) (a1 : Int) (a2 : Int) : Option Bool :=
  bif (decide (a1 ≤ a0.1)) then
    bif (decide (a0.1 ≤ a0.2)) then
      some (decide (a0.2 ≤ a2))
    else
      some false
  else
    some false
theorem plan_spanIn_fn : FnOK Try.prog 63 24 (fun _ : Nat => false) plan_spanIn_C1.er [(.t 6)] := FnOK.mk' Try.func63 (by kernel_rfl) (by kernel_rfl) (by kernel_rfl) (by kernel_rfl) (by kernel_rfl)
theorem plan_spanIn_envok (N : Nat) : EnvOK Try.prog (plan_spanIn_E N) := .nil
theorem plan_spanIn_pure (N : Nat) : PureOK Try.prog 63 [G_Span, (.int .i64), (.int .i64)] [.bool] (fun x => plan_spanIn N x.1 x.2.1 x.2.2) := pureOK (N := N) mixed plan_spanIn_fn (plan_spanIn_envok N) rfl (fun x => by kernel_rfl)
/-! plan_Check -/
def plan_Check_N1 : List NS := [.wk 19 (.list G_Place), .keep [1, 19, 20, 21], .cmp]
def plan_Check_N2 : List NS := [.wk 38 (.list G_Road), .keep [5, 38, 39, 40], .cmp]
def plan_Check_C17 : TC := .ret
def plan_Check_C9 : TC := (.cond (.t 88) (.seq (.rg [⟨⟨some 2, (.mov (.c (I 1))), none⟩, {}⟩] none) plan_Check_C17) .skip)
def plan_Check_C24 : TC := .ret
def plan_Check_C18 : TC := (.cond (.t 98) (.seq (.rg [⟨⟨some 2, (.mov (.c (I 1))), none⟩, {}⟩] none) plan_Check_C24) .skip)
def plan_Check_C10 : TC := (.seq (.rg [⟨⟨some 89, (.fadr 6 (.t 7)), none⟩, {}⟩, ⟨⟨some 90, (.load true 2 (.t 89)), none⟩, {}⟩, ⟨⟨some 91, (.call (.c (.fn 63 [])) [(.t 90), (.c (I 1)), (.c (I 262144))]), none⟩, {}⟩, ⟨⟨some 92, (.un .not (.t 91)), none⟩, {}⟩, ⟨⟨some 93, (.mov (.t 92)), none⟩, {}⟩, ⟨⟨some 94, (.fadr 8 (.t 7)),
  some (93, false)⟩, {}⟩, ⟨⟨some 95, (.load true 2 (.t 94)), some (93, false)⟩, {}⟩, ⟨⟨some 96, (.call (.c (.fn 63 [])) [(.t 95), (.c (I (-2199023255552))), (.c (I 2199023255552))]), some (93, false)⟩, {}⟩, ⟨⟨some 97, (.un .not (.t 96)), some (93, false)⟩, {}⟩, ⟨⟨some 98, (.pick (.t 93) (.c (B true))
  (.t 97)), none⟩, {}⟩] none) plan_Check_C18)
def plan_Check_C1 : TC := (.seq (.seq (.rg [⟨⟨some 71, (.fadr 2 (.t 7)), none⟩, {}⟩, ⟨⟨some 72, (.load false 1 (.t 71)), none⟩, {}⟩, ⟨⟨some 73, (.bin .lss (.t 72) (.c (I 1))), none⟩, {}⟩, ⟨⟨some 74, (.mov (.t 73)), none⟩, {}⟩, ⟨⟨some 75, (.fadr 2 (.t 7)), some (74, false)⟩, {}⟩, ⟨⟨some 76, (.load false 1 (.t 75)), some (74,
  false)⟩, {}⟩, ⟨⟨some 77, (.bin .gtr (.t 76) (.c (I 100000))), some (74, false)⟩, {}⟩, ⟨⟨some 78, (.pick (.t 74) (.c (B true)) (.t 77)), none⟩, {}⟩, ⟨⟨some 79, (.mov (.t 78)), none⟩, {}⟩, ⟨⟨some 80, (.fadr 3 (.t 7)), some (79, false)⟩, {}⟩, ⟨⟨some 81, (.load false 1 (.t 80)), some (79, false)⟩, {}⟩,
  ⟨⟨some 82, (.bin .lss (.t 81) (.c (I 1))), some (79, false)⟩, {}⟩, ⟨⟨some 83, (.pick (.t 79) (.c (B true)) (.t 82)), none⟩, {}⟩, ⟨⟨some 84, (.mov (.t 83)), none⟩, {}⟩, ⟨⟨some 85, (.fadr 3 (.t 7)), some (84, false)⟩, {}⟩, ⟨⟨some 86, (.load false 1 (.t 85)), some (84, false)⟩, {}⟩, ⟨⟨some 87, (.bin
  .gtr (.t 86) (.c (I 1000))), some (84, false)⟩, {}⟩, ⟨⟨some 88, (.pick (.t 84) (.c (B true)) (.t 87)), none⟩, {}⟩] none) plan_Check_C9) plan_Check_C10)
def plan_Check_C2 : TC := (.rg [⟨⟨some 99, (.bin .add (.t 40) (.c (I 1))), none⟩, {}⟩, ⟨⟨some 40, (.mov (.t 99)), none⟩, {}⟩] none)
def plan_Check_C32 : TC := .ret
def plan_Check_C29 : TC := (.cond (.t 70) (.seq (.rg [⟨⟨some 2, (.mov (.c (I 4))), none⟩, {}⟩] none) plan_Check_C32) .skip)
def plan_Check_C30 : TC := (.join [.wk 38 (.list G_Road), .keep [5, 7, 38, 39, 40], .cmp] plan_Check_C1)
def plan_Check_C25 : TC := (.seq (.seq (.rg [⟨⟨some 44, (.fadr 0 (.t 7)), none⟩, {}⟩, ⟨⟨some 45, (.load false 1 (.t 44)), none⟩, {}⟩, ⟨⟨some 46, (.bin .lss (.t 45) (.c (I 0))), none⟩, {}⟩, ⟨⟨some 47, (.mov (.t 46)), none⟩, {}⟩, ⟨⟨some 48, (.fadr 0 (.t 7)), some (47, false)⟩, {}⟩, ⟨⟨some 49, (.load false 1 (.t 48)), some (47,
  false)⟩, {}⟩, ⟨⟨some 50, (.mov (.t 5)), some (47, false)⟩, {}⟩, ⟨⟨some 51, (.bin .geq (.t 49) (.t 50)), some (47, false)⟩, {}⟩, ⟨⟨some 52, (.pick (.t 47) (.c (B true)) (.t 51)), none⟩, {}⟩, ⟨⟨some 53, (.mov (.t 52)), none⟩, {}⟩, ⟨⟨some 54, (.fadr 1 (.t 7)), some (53, false)⟩, {}⟩, ⟨⟨some 55, (.load
  false 1 (.t 54)), some (53, false)⟩, {}⟩, ⟨⟨some 56, (.bin .lss (.t 55) (.c (I 0))), some (53, false)⟩, {}⟩, ⟨⟨some 57, (.pick (.t 53) (.c (B true)) (.t 56)), none⟩, {}⟩, ⟨⟨some 58, (.mov (.t 57)), none⟩, {}⟩, ⟨⟨some 59, (.fadr 1 (.t 7)), some (58, false)⟩, {}⟩, ⟨⟨some 60, (.load false 1 (.t 59)),
  some (58, false)⟩, {}⟩, ⟨⟨some 61, (.mov (.t 5)), some (58, false)⟩, {}⟩, ⟨⟨some 62, (.bin .geq (.t 60) (.t 61)), some (58, false)⟩, {}⟩, ⟨⟨some 63, (.pick (.t 58) (.c (B true)) (.t 62)), none⟩, {}⟩, ⟨⟨some 64, (.mov (.t 63)), none⟩, {}⟩, ⟨⟨some 65, (.fadr 0 (.t 7)), some (64, false)⟩, {}⟩, ⟨⟨some
  66, (.load false 1 (.t 65)), some (64, false)⟩, {}⟩, ⟨⟨some 67, (.fadr 1 (.t 7)), some (64, false)⟩, {}⟩, ⟨⟨some 68, (.load false 1 (.t 67)), some (64, false)⟩, {}⟩, ⟨⟨some 69, (.bin .eql (.t 66) (.t 68)), some (64, false)⟩, {}⟩, ⟨⟨some 70, (.pick (.t 64) (.c (B true)) (.t 69)), none⟩, {}⟩] none)
  plan_Check_C29) plan_Check_C30)
def plan_Check_C19 : TC := (.seq (.block 3 (.seq (.rg [⟨⟨some 42, (.iadrS 10 (.t 38) (.t 40)), none⟩, {}⟩, ⟨⟨some 43, (.load true 10 (.t 42)), none⟩, {}⟩, ⟨⟨some 7, (.alloc [(I 0), (I 0), (I 0), (I 0), (B false), (B false), (I 0), (I 0), (I 0), (I 0)]), none⟩, {}⟩, ⟨⟨none, (.store 10 (.t 7) (.t 43)), none⟩, {}⟩] none)
  plan_Check_C25)) plan_Check_C2)
def plan_Check_C11 : TC := (.seq (.cond (.t 41) .skip (.exit 2)) plan_Check_C19)
def plan_Check_C3 : TC := (.seq (.rg [⟨⟨some 41, (.bin .lss (.t 40) (.t 39)), none⟩, {}⟩] none) plan_Check_C11)
def plan_Check_C12 : TC := .ret
def plan_Check_C4 : TC := (.seq (.rg [⟨⟨some 2, (.mov (.c (I 0))), none⟩, {}⟩] none) plan_Check_C12)
def plan_Check_C33 : TC := .ret
def plan_Check_C31 : TC := (.cond (.t 32) (.seq (.rg [⟨⟨some 2, (.mov (.c (I 1))), none⟩, {}⟩] none) plan_Check_C33) .skip)
def plan_Check_C26 : TC := (.seq (.rg [⟨⟨some 25, (.fadr 0 (.t 4)), none⟩, {}⟩, ⟨⟨some 26, (.load false 1 (.t 25)), none⟩, {}⟩, ⟨⟨some 27, (.bin .lss (.t 26) (.c (I (-10000)))), none⟩, {}⟩, ⟨⟨some 28, (.mov (.t 27)), none⟩, {}⟩, ⟨⟨some 29, (.fadr 0 (.t 4)), some (28, false)⟩, {}⟩, ⟨⟨some 30, (.load false 1 (.t 29)), some (28,
  false)⟩, {}⟩, ⟨⟨some 31, (.bin .gtr (.t 30) (.c (I 10000))), some (28, false)⟩, {}⟩, ⟨⟨some 32, (.pick (.t 28) (.c (B true)) (.t 31)), none⟩, {}⟩] none) plan_Check_C31)
def plan_Check_C27 : TC := (.rg [⟨⟨some 33, (.bin .add (.t 21) (.c (I 1))), none⟩, {}⟩, ⟨⟨some 21, (.mov (.t 33)), none⟩, {}⟩] none)
def plan_Check_C20 : TC := (.seq (.block 1 (.seq (.rg [⟨⟨some 23, (.iadrS 2 (.t 19) (.t 21)), none⟩, {}⟩, ⟨⟨some 24, (.load true 2 (.t 23)), none⟩, {}⟩, ⟨⟨some 4, (.alloc [(I 0), (B false)]), none⟩, {}⟩, ⟨⟨none, (.store 2 (.t 4) (.t 24)), none⟩, {}⟩] none) plan_Check_C26)) plan_Check_C27)
def plan_Check_C13 : TC := (.seq (.cond (.t 22) .skip (.exit 0)) plan_Check_C20)
def plan_Check_C5 : TC := (.seq (.rg [⟨⟨some 22, (.bin .lss (.t 21) (.t 20)), none⟩, {}⟩] none) plan_Check_C13)
def plan_Check_C21 : TC := (.block 2 (.loop plan_Check_N2 plan_Check_C3))
def plan_Check_C14 : TC := (.seq (.seq (.rg [⟨⟨some 37, (.fadr 1 (.t 1)), none⟩, {}⟩, ⟨⟨some 38, (.load false 1 (.t 37)), none⟩, {}⟩, ⟨⟨some 39, (.len (.t 38)), none⟩, {}⟩, ⟨⟨some 40, (.mov (.c (I 0))), none⟩, {}⟩] none) plan_Check_C21) plan_Check_C4)
def plan_Check_C6 : TC := (.seq (.rg [⟨⟨some 34, (.fadr 0 (.t 1)), none⟩, {}⟩, ⟨⟨some 35, (.load false 1 (.t 34)), none⟩, {}⟩, ⟨⟨some 36, (.len (.t 35)), none⟩, {}⟩, ⟨⟨some 5, (.mov (.t 36)), none⟩, {}⟩] none) plan_Check_C14)
def plan_Check_C15 : TC := (.block 0 (.loop plan_Check_N1 plan_Check_C5))
def plan_Check_C7 : TC := (.seq (.seq (.rg [⟨⟨some 18, (.fadr 0 (.t 1)), none⟩, {}⟩, ⟨⟨some 19, (.load false 1 (.t 18)), none⟩, {}⟩, ⟨⟨some 20, (.len (.t 19)), none⟩, {}⟩, ⟨⟨some 21, (.mov (.c (I 0))), none⟩, {}⟩] none) plan_Check_C15) plan_Check_C6)
def plan_Check_C28 : TC := .ret
def plan_Check_C22 : TC := (.cond (.t 17) (.seq (.rg [⟨⟨some 2, (.mov (.c (I 2))), none⟩, {}⟩] none) plan_Check_C28) .skip)
def plan_Check_C23 : TC := (.join [.keep [1], .cmp] plan_Check_C7)
def plan_Check_C16 : TC := (.seq (.seq (.rg [⟨⟨some 8, (.fadr 0 (.t 1)), none⟩, {}⟩, ⟨⟨some 9, (.load false 1 (.t 8)), none⟩, {}⟩, ⟨⟨some 10, (.len (.t 9)), none⟩, {}⟩, ⟨⟨some 11, (.bin .gtr (.t 10) (.c (I 64))), none⟩, {}⟩, ⟨⟨some 12, (.mov (.t 11)), none⟩, {}⟩, ⟨⟨some 13, (.fadr 1 (.t 1)), some (12, false)⟩, {}⟩, ⟨⟨some 14,
  (.load false 1 (.t 13)), some (12, false)⟩, {}⟩, ⟨⟨some 15, (.len (.t 14)), some (12, false)⟩, {}⟩, ⟨⟨some 16, (.bin .gtr (.t 15) (.c (I 128))), some (12, false)⟩, {}⟩, ⟨⟨some 17, (.pick (.t 12) (.c (B true)) (.t 16)), none⟩, {}⟩] none) plan_Check_C22) plan_Check_C23)
def plan_Check_C8 : TC := (.seq (.rg [⟨⟨some 1, (.box (.t 0)), none⟩, {}⟩, ⟨⟨some 2, (.mov (.c (I 0))), none⟩, {}⟩] none) plan_Check_C16)
def plan_Check_E (N : Nat) : List (Nat × Ent) := [(63, pureE [G_Span, (.int .i64), (.int .i64)] [.bool] (fun x => plan_spanIn N x.1 x.2.1 x.2.2))]
def plan_Check_J2 (N n2 : Nat) (x19 : Int) (x20 : List T_Road) (x21 : Int) (x22 : Int) (x23 : Int) (x24 : Int) (x25 : Int) (x26 : Int) (x27 : Bool) (x28 : Bool) (x29 : Int) (x30 : Int) (x31 : Int) (x32 : Int) : Option Int := joinN (run (plan_Check_E N) N 0 plan_Check_C1) N ⟨[(5, .int .i64 x19), (7, .ptr 0 0 0), (38, .lst false G_Road x20), (39, .int .i64 x21), (40, .int .i64 x22)], [some (.box 0 [.int .i64 x23, .int .i64 x24, .int .i64 x25, .int .i64 x26, .bool x27, .bool x28, .int .i64 x29, .int .i64 x30, .int .i64 x31, .int .i64 x32])]⟩ (blkK 3 (seqK (run (plan_Check_E N) N 0 plan_Check_C2) (seqK (nextL (normI 0 plan_Check_N2) (loopN (normI 0 plan_Check_N2) (run (plan_Check_E N) N 0 plan_Check_C3) n2)) (blkK 2 (seqK (run (plan_Check_E N) N 0 plan_Check_C4) (fin [(.t 2)] [(.int .i64)]))))))
def plan_Check_L2 (N : Nat) (n : Nat) (x14 : Int) (x15 : List T_Road) (x16 : Int) (x17 : Int) : Option Int := loopN (normI 0 plan_Check_N2) (run (plan_Check_E N) N 0 plan_Check_C3) n ⟨[(5, .int .i64 x14), (38, .lst false G_Road x15), (39, .int .i64 x16), (40, .int .i64 x17)], []⟩ (blkK 2 (seqK (run (plan_Check_E N) N 0 plan_Check_C4) (fin [(.t 2)] [(.int .i64)])))
def plan_Check_L1 (N : Nat) (n : Nat) (x3 : List T_Place) (x4 : Int) (x5 : Int) (x6 : List T_Place) (x7 : List T_Road) : Option Int := loopN (normI 0 plan_Check_N1) (run (plan_Check_E N) N 0 plan_Check_C5) n ⟨[(1, .ptr 0 0 0), (19, .lst false G_Place x3), (20, .int .i64 x4), (21, .int .i64 x5)], [some (.box 0 [.lst false G_Place x6, .lst false G_Road x7])]⟩ (blkK 0 (seqK (run (plan_Check_E N) N 0 plan_Check_C6) (fin [(.t 2)] [(.int .i64)])))
def plan_Check_J1 (N : Nat) (x1 : List T_Place) (x2 : List T_Road) : Option Int := joinN (run (plan_Check_E N) N 0 plan_Check_C7) N ⟨[(1, .ptr 0 0 0)], [some (.box 0 [.lst false G_Place x1, .lst false G_Road x2])]⟩ (fin [(.t 2)] [(.int .i64)])
theorem plan_Check_J2_eq (N n2 : Nat) (x19 : Int) (x20 : List T_Road) (x21 : Int) (x22 : Int) (x23 : Int) (x24 : Int) (x25 : Int) (x26 : Int) (x27 : Bool) (x28 : Bool) (x29 : Int) (x30 : Int) (x31 : Int) (x32 : Int) : plan_Check_J2 (N + 1) n2 x19 x20 x21 x22 x23 x24 x25 x26 x27 x28 x29 x30 x31 x32 =
  bif (decide (x25 < 1)) then
    some 1
  else
    bif (decide (x25 > 100000)) then
      some 1
    else
      bif (decide (x26 < 1)) then
        some 1
      else
        bif (decide (x26 > 1000)) then
          some 1
        else
          Option.bind (plan_spanIn (N + 1) (x29, x30) 1 262144) fun r33 =>
          bif (!r33) then
            some 1
          else
            Option.bind (plan_spanIn (N + 1) (x31, x32) (-2199023255552) 2199023255552) fun r34 =>
            bif (!r34) then
              some 1
            else
              plan_Check_L2 (N + 1) n2 x19 x20 x21 (W (x22 + 1)) := by kernel_rfl
theorem plan_Check_L2_zero (N : Nat) (x14 : Int) (x15 : List T_Road) (x16 : Int) (x17 : Int) : plan_Check_L2 N 0 x14 x15 x16 x17 = none := rfl
theorem plan_Check_L2_succ (N : Nat) (n2 : Nat) (x14 : Int) (x15 : List T_Road) (x16 : Int) (x17 : Int) : plan_Check_L2 N (n2 + 1) x14 x15 x16 x17 =
  bif (decide (x17 < x16)) then
    bif inB x17 x15.length then
    let v18 := x15.getD x17.toNat D_Road
    bif (decide (v18.1 < 0)) then
      some 4
    else
      bif (decide (v18.1 ≥ x14)) then
        some 4
      else
        bif (decide (v18.2.1 < 0)) then
          some 4
        else
          bif (decide (v18.2.1 ≥ x14)) then
            some 4
          else
            bif (v18.1 == v18.2.1) then
              some 4
            else
              plan_Check_J2 N n2 x14 x15 x16 x17 v18.1 v18.2.1 v18.2.2.1 v18.2.2.2.1 v18.2.2.2.2.1 v18.2.2.2.2.2.1 v18.2.2.2.2.2.2.1.1 v18.2.2.2.2.2.2.1.2 v18.2.2.2.2.2.2.2.1 v18.2.2.2.2.2.2.2.2
    else none
  else
    some 0 := by kernel_rfl
theorem plan_Check_L1_zero (N : Nat) (x3 : List T_Place) (x4 : Int) (x5 : Int) (x6 : List T_Place) (x7 : List T_Road) : plan_Check_L1 N 0 x3 x4 x5 x6 x7 = none := rfl
theorem plan_Check_L1_succ (N : Nat) (n1 : Nat) (x3 : List T_Place) (x4 : Int) (x5 : Int) (x6 : List T_Place) (x7 : List T_Road) : plan_Check_L1 N (n1 + 1) x3 x4 x5 x6 x7 =
  bif (decide (x5 < x4)) then
    bif inB x5 x3.length then
    bif (decide ((x3.getD x5.toNat D_Place).1 < (-10000))) then
      some 1
    else
      bif (decide ((x3.getD x5.toNat D_Place).1 > 10000)) then
        some 1
      else
        plan_Check_L1 N n1 x3 x4 (W (x5 + 1)) x6 x7
    else none
  else
    plan_Check_L2 N N (x6.length : Int) x7 (x7.length : Int) 0 := by kernel_rfl
theorem plan_Check_J1_eq (N : Nat) (x1 : List T_Place) (x2 : List T_Road) : plan_Check_J1 (N + 1) x1 x2 =
  plan_Check_L1 (N + 1) (N + 1) x1 (x1.length : Int) 0 x1 x2 := by kernel_rfl
def plan_Check (N : Nat) (a0 : T_Mine) : Option Int :=
  bif (decide ((a0.1.length : Int) > 64)) then
    some 2
  else
    bif (decide ((a0.2.length : Int) > 128)) then
      some 2
    else
      plan_Check_J1 N a0.1 a0.2
theorem plan_Check_fn : FnOK Try.prog 57 100 (fun _ : Nat => false) plan_Check_C8.er [(.t 2)] := FnOK.mk' Try.func57 (by kernel_rfl) (by kernel_rfl) (by kernel_rfl) (by kernel_rfl) (by kernel_rfl)
theorem plan_Check_envok (N : Nat) : EnvOK Try.prog (plan_Check_E N) := .cons (pureE_ok (plan_spanIn_pure N)) (.nil)
theorem plan_Check_pure (N : Nat) : PureOK Try.prog 57 [G_Mine] [(.int .i64)] (fun x => plan_Check N x) := pureOK (N := N) mixed plan_Check_fn (plan_Check_envok N) rfl (fun x => by kernel_rfl)
/-! plan_Valid -/
def plan_Valid_C3 : TC := .ret
def plan_Valid_C2 : TC := (.seq (.rg [⟨⟨some 3, (.load true 2 (.t 1)), none⟩, {}⟩, ⟨⟨some 4, (.call (.c (.fn 57 [])) [(.t 3)]), none⟩, {}⟩, ⟨⟨some 5, (.bin .eql (.t 4) (.c (I 0))), none⟩, {}⟩, ⟨⟨some 2, (.mov (.t 5)), none⟩, {}⟩] none) plan_Valid_C3)
def plan_Valid_C1 : TC := (.seq (.rg [⟨⟨some 1, (.box (.t 0)), none⟩, {}⟩, ⟨⟨some 2, (.mov (.c (B false))), none⟩, {}⟩] none) plan_Valid_C2)
def plan_Valid_E (N : Nat) : List (Nat × Ent) := [(57, pureE [G_Mine] [(.int .i64)] (fun x => plan_Check N x))]
def plan_Valid (N : Nat) (a0 : T_Mine) : Option Bool :=
  Option.bind (plan_Check N a0) fun r1 =>
  some (r1 == 0)
theorem plan_Valid_fn : FnOK Try.prog 41 6 (fun _ : Nat => false) plan_Valid_C1.er [(.t 2)] := FnOK.mk' Try.func41 (by kernel_rfl) (by kernel_rfl) (by kernel_rfl) (by kernel_rfl) (by kernel_rfl)
theorem plan_Valid_envok (N : Nat) : EnvOK Try.prog (plan_Valid_E N) := .cons (pureE_ok (plan_Check_pure N)) (.nil)
theorem plan_Valid_pure (N : Nat) : PureOK Try.prog 41 [G_Mine] [.bool] (fun x => plan_Valid N x) := pureOK (N := N) mixed plan_Valid_fn (plan_Valid_envok N) rfl (fun x => by kernel_rfl)
/-! clearance_Valid_1 -/
def clearance_Valid_1_C3 : TC := .ret
def clearance_Valid_1_C2 : TC := (.seq (.rg [⟨⟨some 3, (.mov (.t 0)), none⟩, {}⟩, ⟨⟨some 4, (.call (.c (.fn 34 [])) [(.t 3), (.c (I 0)), (.c (I 1000000))]), none⟩, {}⟩, ⟨⟨some 5, (.un .not (.t 4)), none⟩, {}⟩, ⟨⟨some 2, (.mov (.t 5)), none⟩, {}⟩] none) clearance_Valid_1_C3)
def clearance_Valid_1_C1 : TC := (.seq (.rg [⟨⟨some 2, (.mov (.c (B false))), none⟩, {}⟩] none) clearance_Valid_1_C2)
def clearance_Valid_1_E (N : Nat) : List (Nat × Ent) := [(34, pureE [(.int .i64), (.int .i64), (.int .i64)] [.bool] (fun x => lists_In N x.1 x.2.1 x.2.2))]
def clearance_Valid_1 (N : Nat) (a0 : Int) : Option Bool :=
  Option.bind (lists_In N a0 0 1000000) fun r1 =>
  some (!r1)
theorem clearance_Valid_1_fn : FnOK Try.prog 50 6 (fun _ : Nat => false) clearance_Valid_1_C1.er [(.t 2)] := FnOK.mk' Try.func50 (by kernel_rfl) (by kernel_rfl) (by kernel_rfl) (by kernel_rfl) (by kernel_rfl)
theorem clearance_Valid_1_envok (N : Nat) : EnvOK Try.prog (clearance_Valid_1_E N) := .cons (pureE_ok (lists_In_pure N)) (.nil)
theorem clearance_Valid_1_pure (N : Nat) : PureOK Try.prog 50 [(.int .i64)] [.bool] (fun x => clearance_Valid_1 N x) := pureOK (N := N) mixed clearance_Valid_1_fn (clearance_Valid_1_envok N) rfl (fun x => by kernel_rfl)
/-! slices_IndexFunc_int_int_S1 -/
def slices_IndexFunc_int_int_S1_NE : List NS := [.keep [4], .out []]
def slices_IndexFunc_int_int_S1_N1 : List NS := [.wk 0 (.list (.int .i64)), .keep [0, 1, 7, 8], .cmp]
def slices_IndexFunc_int_int_S1_C14 : TC := .ret
def slices_IndexFunc_int_int_S1_C13 : TC := (.pre [.keep [4], .out []] slices_IndexFunc_int_int_S1_C14)
def slices_IndexFunc_int_int_S1_C12 : TC := (.cond (.t 16) (.seq (.rg [⟨⟨some 17, (.mov (.t 5)), none⟩, {}⟩, ⟨⟨some 4, (.mov (.t 17)), none⟩, {}⟩] none) slices_IndexFunc_int_int_S1_C13) .skip)
def slices_IndexFunc_int_int_S1_C10 : TC := (.seq (.rg [⟨⟨some 11, (.mov (.t 1)), none⟩, {}⟩, ⟨⟨some 12, (.mov (.t 0)), none⟩, {}⟩, ⟨⟨some 13, (.mov (.t 5)), none⟩, {}⟩, ⟨⟨some 14, (.iadrS 1 (.t 12) (.t 13)), none⟩, {}⟩, ⟨⟨some 15, (.load false 1 (.t 14)), none⟩, {}⟩, ⟨⟨some 16, (.call (.t 11) [(.t 15)]), none⟩, {}⟩] none)
  slices_IndexFunc_int_int_S1_C12)
def slices_IndexFunc_int_int_S1_C11 : TC := (.rg [⟨⟨some 18, (.bin .add (.t 8) (.c (I 1))), none⟩, {}⟩, ⟨⟨some 8, (.mov (.t 18)), none⟩, {}⟩] none)
def slices_IndexFunc_int_int_S1_C7 : TC := (.seq (.block 1 (.seq (.rg [⟨⟨some 10, (.mov (.t 8)), none⟩, {}⟩, ⟨⟨some 5, (.mov (.t 10)), none⟩, {}⟩] none) slices_IndexFunc_int_int_S1_C10)) slices_IndexFunc_int_int_S1_C11)
def slices_IndexFunc_int_int_S1_C4 : TC := (.seq (.cond (.t 9) .skip (.exit 0)) slices_IndexFunc_int_int_S1_C7)
def slices_IndexFunc_int_int_S1_C1 : TC := (.seq (.rg [⟨⟨some 9, (.bin .lss (.t 8) (.t 7)), none⟩, {}⟩] none) slices_IndexFunc_int_int_S1_C4)
def slices_IndexFunc_int_int_S1_C8 : TC := .ret
def slices_IndexFunc_int_int_S1_C5 : TC := (.pre [.keep [4], .out []] slices_IndexFunc_int_int_S1_C8)
def slices_IndexFunc_int_int_S1_C2 : TC := (.seq (.rg [⟨⟨some 4, (.mov (.c (I (-1)))), none⟩, {}⟩] none) slices_IndexFunc_int_int_S1_C5)
def slices_IndexFunc_int_int_S1_C9 : TC := (.block 0 (.loop slices_IndexFunc_int_int_S1_N1 slices_IndexFunc_int_int_S1_C1))
def slices_IndexFunc_int_int_S1_C6 : TC := (.seq (.seq (.rg [⟨⟨some 6, (.mov (.t 0)), none⟩, {}⟩, ⟨⟨some 7, (.len (.t 6)), none⟩, {}⟩, ⟨⟨some 8, (.mov (.c (I 0))), none⟩, {}⟩] none) slices_IndexFunc_int_int_S1_C9) slices_IndexFunc_int_int_S1_C2)
def slices_IndexFunc_int_int_S1_C3 : TC := (.seq (.rg [⟨⟨some 4, (.mov (.c (I 0))), none⟩, {}⟩] none) slices_IndexFunc_int_int_S1_C6)
def slices_IndexFunc_int_int_S1_E (N : Nat) : List (Nat × Ent) := [(50, pureE [(.int .i64)] [.bool] (fun x => clearance_Valid_1 N x))]
def slices_IndexFunc_int_int_S1_L1 (N : Nat) (n : Nat) (x1 : List Int) (x2 : Int) (x3 : Int) : Option (Int × Unit) := loopN (normI 0 slices_IndexFunc_int_int_S1_N1) (run (slices_IndexFunc_int_int_S1_E N) N 0 slices_IndexFunc_int_int_S1_C1) n ⟨[(0, .lst false (.int .i64) x1), (1, .fn 50 []), (7, .int .i64 x2), (8, .int .i64 x3)], []⟩ (blkK 0 (seqK (run (slices_IndexFunc_int_int_S1_E N) N 0 slices_IndexFunc_int_int_S1_C2) (finS slices_IndexFunc_int_int_S1_NE [(.t 4)] [.v (.list (.int .i64))] [.v (.int .i64)] 0 0)))
theorem slices_IndexFunc_int_int_S1_L1_zero (N : Nat) (x1 : List Int) (x2 : Int) (x3 : Int) : slices_IndexFunc_int_int_S1_L1 N 0 x1 x2 x3 = none := rfl
theorem slices_IndexFunc_int_int_S1_L1_succ (N : Nat) (n1 : Nat) (x1 : List Int) (x2 : Int) (x3 : Int) : slices_IndexFunc_int_int_S1_L1 N (n1 + 1) x1 x2 x3 =
  bif (decide (x3 < x2)) then
    bif inB x3 x1.length then
    Option.bind (clearance_Valid_1 N (x1.getD x3.toNat 0)) fun r4 =>
    bif r4 then
      some (x3, ())
    else
      slices_IndexFunc_int_int_S1_L1 N n1 x1 x2 (W (x3 + 1))
    else none
  else
    some ((-1), ()) := by kernel_rfl
def slices_IndexFunc_int_int_S1 (N : Nat) (a0 : List Int) : Option (Int × Unit) :=
  slices_IndexFunc_int_int_S1_L1 N N a0 (a0.length : Int) 0
theorem slices_IndexFunc_int_int_S1_fn : FnOK Try.prog 56 19 (fun _ : Nat => false) slices_IndexFunc_int_int_S1_C3.er [(.t 4)] := FnOK.mk' Try.func56 (by kernel_rfl) (by kernel_rfl) (by kernel_rfl) (by kernel_rfl) (by kernel_rfl)
theorem slices_IndexFunc_int_int_S1_envok (N : Nat) : EnvOK Try.prog (slices_IndexFunc_int_int_S1_E N) := .cons (pureE_ok (clearance_Valid_1_pure N)) (.nil)
theorem slices_IndexFunc_int_int_S1_sf (N : Nat) : SFOK Try.prog 56 [none, some (50, 0)] [.v (.list (.int .i64))] [.v (.int .i64)] (fun x => slices_IndexFunc_int_int_S1 N x) := sfOK (N := N) (p := 0) (q := 0) (ns := slices_IndexFunc_int_int_S1_NE) mixed slices_IndexFunc_int_int_S1_fn (slices_IndexFunc_int_int_S1_envok N) rfl rfl rfl (fun x => by kernel_rfl)
/-! slices_ContainsFunc_int_int_S1 -/
def slices_ContainsFunc_int_int_S1_NE : List NS := [.keep [4], .out []]
def slices_ContainsFunc_int_int_S1_C4 : TC := .ret
def slices_ContainsFunc_int_int_S1_C3 : TC := (.pre [.keep [4], .out []] slices_ContainsFunc_int_int_S1_C4)
def slices_ContainsFunc_int_int_S1_C2 : TC := (.seq (.rg [⟨⟨some 5, (.mov (.t 0)), none⟩, {}⟩, ⟨⟨some 6, (.mov (.t 1)), none⟩, {}⟩, ⟨⟨some 7, (.call (.c (.fn 56 [])) [(.t 5), (.t 6)]), none⟩, {}⟩, ⟨⟨some 8, (.bin .geq (.t 7) (.c (I 0))), none⟩, {}⟩, ⟨⟨some 4, (.mov (.t 8)), none⟩, {}⟩] none) slices_ContainsFunc_int_int_S1_C3)
def slices_ContainsFunc_int_int_S1_C1 : TC := (.seq (.rg [⟨⟨some 4, (.mov (.c (B false))), none⟩, {}⟩] none) slices_ContainsFunc_int_int_S1_C2)
def slices_ContainsFunc_int_int_S1_E (N : Nat) : List (Nat × Ent) := [(56, sfE [none, some (50, 0)] [.v (.list (.int .i64))] [.v (.int .i64)] (fun x => slices_IndexFunc_int_int_S1 N x))]
def slices_ContainsFunc_int_int_S1 (N : Nat) (a0 : List Int) : Option (Bool × Unit) :=
  Option.bind (slices_IndexFunc_int_int_S1 N a0) fun r1 =>
  some ((decide (r1.1 ≥ 0)), ())
theorem slices_ContainsFunc_int_int_S1_fn : FnOK Try.prog 39 9 (fun _ : Nat => false) slices_ContainsFunc_int_int_S1_C1.er [(.t 4)] := FnOK.mk' Try.func39 (by kernel_rfl) (by kernel_rfl) (by kernel_rfl) (by kernel_rfl) (by kernel_rfl)
theorem slices_ContainsFunc_int_int_S1_envok (N : Nat) : EnvOK Try.prog (slices_ContainsFunc_int_int_S1_E N) := .cons (sfE_ok (slices_IndexFunc_int_int_S1_sf N)) (.nil)
theorem slices_ContainsFunc_int_int_S1_sf (N : Nat) : SFOK Try.prog 39 [none, some (50, 0)] [.v (.list (.int .i64))] [.v .bool] (fun x => slices_ContainsFunc_int_int_S1 N x) := sfOK (N := N) (p := 0) (q := 0) (ns := slices_ContainsFunc_int_int_S1_NE) mixed slices_ContainsFunc_int_int_S1_fn (slices_ContainsFunc_int_int_S1_envok N) rfl rfl rfl (fun x => by kernel_rfl)
/-! clearance_Valid -/
def clearance_Valid_C3 : TC := .ret
def clearance_Valid_C2 : TC := (.seq (.rg [⟨⟨some 5, (.load true 2 (.t 2)), none⟩, {}⟩, ⟨⟨some 6, (.call (.c (.fn 41 [])) [(.t 5)]), none⟩, {}⟩, ⟨⟨some 7, (.mov (.t 6)), none⟩, {}⟩, ⟨⟨some 8, (.fadr 1 (.t 3)), some (7, true)⟩, {}⟩, ⟨⟨some 9, (.load false 1 (.t 8)), some (7, true)⟩, {}⟩, ⟨⟨some 10, (.len (.t 9)), some (7, true)⟩,
  {}⟩, ⟨⟨some 11, (.fadr 1 (.t 2)), some (7, true)⟩, {}⟩, ⟨⟨some 12, (.load false 1 (.t 11)), some (7, true)⟩, {}⟩, ⟨⟨some 13, (.len (.t 12)), some (7, true)⟩, {}⟩, ⟨⟨some 14, (.bin .eql (.t 10) (.t 13)), some (7, true)⟩, {}⟩, ⟨⟨some 15, (.pick (.t 7) (.t 14) (.c (B false))), none⟩, {}⟩, ⟨⟨some 16,
  (.mov (.t 15)), none⟩, {}⟩, ⟨⟨some 17, (.fadr 0 (.t 3)), some (16, true)⟩, {}⟩, ⟨⟨some 18, (.load false 1 (.t 17)), some (16, true)⟩, {}⟩, ⟨⟨some 19, (.call (.c (.fn 34 [])) [(.t 18), (.c (I 0)), (.c (I 2147483648))]), some (16, true)⟩, {}⟩, ⟨⟨some 20, (.pick (.t 16) (.t 19) (.c (B false))), none⟩,
  {}⟩, ⟨⟨some 21, (.mov (.t 20)), none⟩, {}⟩, ⟨⟨some 22, (.fadr 1 (.t 3)), some (21, true)⟩, {}⟩, ⟨⟨some 23, (.load false 1 (.t 22)), some (21, true)⟩, {}⟩, ⟨⟨some 24, (.call (.c (.fn 39 [])) [(.t 23), (.c (.fn 50 []))]), some (21, true)⟩, {}⟩, ⟨⟨some 25, (.un .not (.t 24)), some (21, true)⟩, {}⟩,
  ⟨⟨some 26, (.pick (.t 21) (.t 25) (.c (B false))), none⟩, {}⟩, ⟨⟨some 4, (.mov (.t 26)), none⟩, {}⟩] none) clearance_Valid_C3)
def clearance_Valid_C1 : TC := (.seq (.rg [⟨⟨some 2, (.box (.t 0)), none⟩, {}⟩, ⟨⟨some 3, (.box (.t 1)), none⟩, {}⟩, ⟨⟨some 4, (.mov (.c (B false))), none⟩, {}⟩] none) clearance_Valid_C2)
def clearance_Valid_E (N : Nat) : List (Nat × Ent) := [(41, pureE [G_Mine] [.bool] (fun x => plan_Valid N x)), (34, pureE [(.int .i64), (.int .i64), (.int .i64)] [.bool] (fun x => lists_In N x.1 x.2.1 x.2.2)), (39, sfE [none, some (50, 0)] [.v (.list (.int .i64))] [.v .bool] (fun x => slices_ContainsFunc_int_int_S1 N x))]
def clearance_Valid (N : Nat) (a0 : T_Mine) (a1 : T_Fumes) : Option Bool :=
  Option.bind (plan_Valid N a0) fun r1 =>
  bif r1 then
    bif ((a1.2.length : Int) == (a0.2.length : Int)) then
      Option.bind (lists_In N a1.1 0 2147483648) fun r2 =>
      bif r2 then
        Option.bind (slices_ContainsFunc_int_int_S1 N a1.2) fun r3 =>
        some (!r3.1)
      else
        some false
    else
      some false
  else
    some false
theorem clearance_Valid_fn : FnOK Try.prog 28 27 (fun _ : Nat => false) clearance_Valid_C1.er [(.t 4)] := FnOK.mk' Try.func28 (by kernel_rfl) (by kernel_rfl) (by kernel_rfl) (by kernel_rfl) (by kernel_rfl)
theorem clearance_Valid_envok (N : Nat) : EnvOK Try.prog (clearance_Valid_E N) := .cons (pureE_ok (plan_Valid_pure N)) (.cons (pureE_ok (lists_In_pure N)) (.cons (sfE_ok (slices_ContainsFunc_int_int_S1_sf N)) (.nil)))
theorem clearance_Valid_pure (N : Nat) : PureOK Try.prog 28 [G_Mine, G_Fumes] [.bool] (fun x => clearance_Valid N x.1 x.2) := pureOK (N := N) mixed clearance_Valid_fn (clearance_Valid_envok N) rfl (fun x => by kernel_rfl)
/-! clearance_given_1 -/
def clearance_given_1_C3 : TC := .ret
def clearance_given_1_C2 : TC := (.seq (.rg [⟨⟨some 3, (.fadr 0 (.t 1)), none⟩, {}⟩, ⟨⟨some 4, (.load false 1 (.t 3)), none⟩, {}⟩, ⟨⟨some 5, (.bin .lss (.t 4) (.c (I (-1125899906842624)))), none⟩, {}⟩, ⟨⟨some 6, (.mov (.t 5)), none⟩, {}⟩, ⟨⟨some 7, (.fadr 1 (.t 1)), some (6, false)⟩, {}⟩, ⟨⟨some 8, (.load false 1 (.t 7)), some (6,
  false)⟩, {}⟩, ⟨⟨some 9, (.bin .gtr (.t 8) (.c (I 1125899906842624))), some (6, false)⟩, {}⟩, ⟨⟨some 10, (.pick (.t 6) (.c (B true)) (.t 9)), none⟩, {}⟩, ⟨⟨some 11, (.mov (.t 10)), none⟩, {}⟩, ⟨⟨some 12, (.fadr 0 (.t 1)), some (11, false)⟩, {}⟩, ⟨⟨some 13, (.load false 1 (.t 12)), some (11, false)⟩,
  {}⟩, ⟨⟨some 14, (.fadr 1 (.t 1)), some (11, false)⟩, {}⟩, ⟨⟨some 15, (.load false 1 (.t 14)), some (11, false)⟩, {}⟩, ⟨⟨some 16, (.bin .gtr (.t 13) (.t 15)), some (11, false)⟩, {}⟩, ⟨⟨some 17, (.pick (.t 11) (.c (B true)) (.t 16)), none⟩, {}⟩, ⟨⟨some 2, (.mov (.t 17)), none⟩, {}⟩] none)
  clearance_given_1_C3)
def clearance_given_1_C1 : TC := (.seq (.rg [⟨⟨some 1, (.box (.t 0)), none⟩, {}⟩, ⟨⟨some 2, (.mov (.c (B false))), none⟩, {}⟩] none) clearance_given_1_C2)
def clearance_given_1_E (N : Nat) : List (Nat × Ent) := []
def clearance_given_1 (N : Nat) (a0 : T_Span) : Option Bool :=
  bif (decide (a0.1 < (-1125899906842624))) then
    some true
  else
    bif (decide (a0.2 > 1125899906842624)) then
      some true
    else
      some (decide (a0.1 > a0.2))
theorem clearance_given_1_fn : FnOK Try.prog 52 18 (fun _ : Nat => false) clearance_given_1_C1.er [(.t 2)] := FnOK.mk' Try.func52 (by kernel_rfl) (by kernel_rfl) (by kernel_rfl) (by kernel_rfl) (by kernel_rfl)
theorem clearance_given_1_envok (N : Nat) : EnvOK Try.prog (clearance_given_1_E N) := .nil
theorem clearance_given_1_pure (N : Nat) : PureOK Try.prog 52 [G_Span] [.bool] (fun x => clearance_given_1 N x) := pureOK (N := N) mixed clearance_given_1_fn (clearance_given_1_envok N) rfl (fun x => by kernel_rfl)
/-! slices_IndexFunc_api_Span_api_Span_S1 -/
def slices_IndexFunc_api_Span_api_Span_S1_NE : List NS := [.keep [4], .out []]
def slices_IndexFunc_api_Span_api_Span_S1_N1 : List NS := [.wk 0 (.list G_Span), .keep [0, 1, 7, 8], .cmp]
def slices_IndexFunc_api_Span_api_Span_S1_C14 : TC := .ret
def slices_IndexFunc_api_Span_api_Span_S1_C13 : TC := (.pre [.keep [4], .out []] slices_IndexFunc_api_Span_api_Span_S1_C14)
def slices_IndexFunc_api_Span_api_Span_S1_C12 : TC := (.cond (.t 16) (.seq (.rg [⟨⟨some 17, (.mov (.t 5)), none⟩, {}⟩, ⟨⟨some 4, (.mov (.t 17)), none⟩, {}⟩] none) slices_IndexFunc_api_Span_api_Span_S1_C13) .skip)
def slices_IndexFunc_api_Span_api_Span_S1_C10 : TC := (.seq (.rg [⟨⟨some 11, (.mov (.t 1)), none⟩, {}⟩, ⟨⟨some 12, (.mov (.t 0)), none⟩, {}⟩, ⟨⟨some 13, (.mov (.t 5)), none⟩, {}⟩, ⟨⟨some 14, (.iadrS 2 (.t 12) (.t 13)), none⟩, {}⟩, ⟨⟨some 15, (.load true 2 (.t 14)), none⟩, {}⟩, ⟨⟨some 16, (.call (.t 11) [(.t 15)]), none⟩, {}⟩] none)
  slices_IndexFunc_api_Span_api_Span_S1_C12)
def slices_IndexFunc_api_Span_api_Span_S1_C11 : TC := (.rg [⟨⟨some 18, (.bin .add (.t 8) (.c (I 1))), none⟩, {}⟩, ⟨⟨some 8, (.mov (.t 18)), none⟩, {}⟩] none)
def slices_IndexFunc_api_Span_api_Span_S1_C7 : TC := (.seq (.block 1 (.seq (.rg [⟨⟨some 10, (.mov (.t 8)), none⟩, {}⟩, ⟨⟨some 5, (.mov (.t 10)), none⟩, {}⟩] none) slices_IndexFunc_api_Span_api_Span_S1_C10)) slices_IndexFunc_api_Span_api_Span_S1_C11)
def slices_IndexFunc_api_Span_api_Span_S1_C4 : TC := (.seq (.cond (.t 9) .skip (.exit 0)) slices_IndexFunc_api_Span_api_Span_S1_C7)
def slices_IndexFunc_api_Span_api_Span_S1_C1 : TC := (.seq (.rg [⟨⟨some 9, (.bin .lss (.t 8) (.t 7)), none⟩, {}⟩] none) slices_IndexFunc_api_Span_api_Span_S1_C4)
def slices_IndexFunc_api_Span_api_Span_S1_C8 : TC := .ret
def slices_IndexFunc_api_Span_api_Span_S1_C5 : TC := (.pre [.keep [4], .out []] slices_IndexFunc_api_Span_api_Span_S1_C8)
def slices_IndexFunc_api_Span_api_Span_S1_C2 : TC := (.seq (.rg [⟨⟨some 4, (.mov (.c (I (-1)))), none⟩, {}⟩] none) slices_IndexFunc_api_Span_api_Span_S1_C5)
def slices_IndexFunc_api_Span_api_Span_S1_C9 : TC := (.block 0 (.loop slices_IndexFunc_api_Span_api_Span_S1_N1 slices_IndexFunc_api_Span_api_Span_S1_C1))
def slices_IndexFunc_api_Span_api_Span_S1_C6 : TC := (.seq (.seq (.rg [⟨⟨some 6, (.mov (.t 0)), none⟩, {}⟩, ⟨⟨some 7, (.len (.t 6)), none⟩, {}⟩, ⟨⟨some 8, (.mov (.c (I 0))), none⟩, {}⟩] none) slices_IndexFunc_api_Span_api_Span_S1_C9) slices_IndexFunc_api_Span_api_Span_S1_C2)
def slices_IndexFunc_api_Span_api_Span_S1_C3 : TC := (.seq (.rg [⟨⟨some 4, (.mov (.c (I 0))), none⟩, {}⟩] none) slices_IndexFunc_api_Span_api_Span_S1_C6)
def slices_IndexFunc_api_Span_api_Span_S1_E (N : Nat) : List (Nat × Ent) := [(52, pureE [G_Span] [.bool] (fun x => clearance_given_1 N x))]
def slices_IndexFunc_api_Span_api_Span_S1_L1 (N : Nat) (n : Nat) (x1 : List T_Span) (x2 : Int) (x3 : Int) : Option (Int × Unit) := loopN (normI 0 slices_IndexFunc_api_Span_api_Span_S1_N1) (run (slices_IndexFunc_api_Span_api_Span_S1_E N) N 0 slices_IndexFunc_api_Span_api_Span_S1_C1) n ⟨[(0, .lst false G_Span x1), (1, .fn 52 []), (7, .int .i64 x2), (8, .int .i64 x3)], []⟩ (blkK 0 (seqK (run (slices_IndexFunc_api_Span_api_Span_S1_E N) N 0 slices_IndexFunc_api_Span_api_Span_S1_C2) (finS slices_IndexFunc_api_Span_api_Span_S1_NE [(.t 4)] [.v (.list G_Span)] [.v (.int .i64)] 0 0)))
theorem slices_IndexFunc_api_Span_api_Span_S1_L1_zero (N : Nat) (x1 : List T_Span) (x2 : Int) (x3 : Int) : slices_IndexFunc_api_Span_api_Span_S1_L1 N 0 x1 x2 x3 = none := rfl
theorem slices_IndexFunc_api_Span_api_Span_S1_L1_succ (N : Nat) (n1 : Nat) (x1 : List T_Span) (x2 : Int) (x3 : Int) : slices_IndexFunc_api_Span_api_Span_S1_L1 N (n1 + 1) x1 x2 x3 =
  bif (decide (x3 < x2)) then
    bif inB x3 x1.length then
    Option.bind (clearance_given_1 N (x1.getD x3.toNat D_Span)) fun r5 =>
    bif r5 then
      some (x3, ())
    else
      slices_IndexFunc_api_Span_api_Span_S1_L1 N n1 x1 x2 (W (x3 + 1))
    else none
  else
    some ((-1), ()) := by kernel_rfl
def slices_IndexFunc_api_Span_api_Span_S1 (N : Nat) (a0 : List T_Span) : Option (Int × Unit) :=
  slices_IndexFunc_api_Span_api_Span_S1_L1 N N a0 (a0.length : Int) 0
theorem slices_IndexFunc_api_Span_api_Span_S1_fn : FnOK Try.prog 61 19 (fun _ : Nat => false) slices_IndexFunc_api_Span_api_Span_S1_C3.er [(.t 4)] := FnOK.mk' Try.func61 (by kernel_rfl) (by kernel_rfl) (by kernel_rfl) (by kernel_rfl) (by kernel_rfl)
theorem slices_IndexFunc_api_Span_api_Span_S1_envok (N : Nat) : EnvOK Try.prog (slices_IndexFunc_api_Span_api_Span_S1_E N) := .cons (pureE_ok (clearance_given_1_pure N)) (.nil)
theorem slices_IndexFunc_api_Span_api_Span_S1_sf (N : Nat) : SFOK Try.prog 61 [none, some (52, 0)] [.v (.list G_Span)] [.v (.int .i64)] (fun x => slices_IndexFunc_api_Span_api_Span_S1 N x) := sfOK (N := N) (p := 0) (q := 0) (ns := slices_IndexFunc_api_Span_api_Span_S1_NE) mixed slices_IndexFunc_api_Span_api_Span_S1_fn (slices_IndexFunc_api_Span_api_Span_S1_envok N) rfl rfl rfl (fun x => by kernel_rfl)
/-! slices_ContainsFunc_api_Span_api_Span_S1 -/
def slices_ContainsFunc_api_Span_api_Span_S1_NE : List NS := [.keep [4], .out []]
def slices_ContainsFunc_api_Span_api_Span_S1_C4 : TC := .ret
def slices_ContainsFunc_api_Span_api_Span_S1_C3 : TC := (.pre [.keep [4], .out []] slices_ContainsFunc_api_Span_api_Span_S1_C4)
def slices_ContainsFunc_api_Span_api_Span_S1_C2 : TC := (.seq (.rg [⟨⟨some 5, (.mov (.t 0)), none⟩, {}⟩, ⟨⟨some 6, (.mov (.t 1)), none⟩, {}⟩, ⟨⟨some 7, (.call (.c (.fn 61 [])) [(.t 5), (.t 6)]), none⟩, {}⟩, ⟨⟨some 8, (.bin .geq (.t 7) (.c (I 0))), none⟩, {}⟩, ⟨⟨some 4, (.mov (.t 8)), none⟩, {}⟩] none) slices_ContainsFunc_api_Span_api_Span_S1_C3)
def slices_ContainsFunc_api_Span_api_Span_S1_C1 : TC := (.seq (.rg [⟨⟨some 4, (.mov (.c (B false))), none⟩, {}⟩] none) slices_ContainsFunc_api_Span_api_Span_S1_C2)
def slices_ContainsFunc_api_Span_api_Span_S1_E (N : Nat) : List (Nat × Ent) := [(61, sfE [none, some (52, 0)] [.v (.list G_Span)] [.v (.int .i64)] (fun x => slices_IndexFunc_api_Span_api_Span_S1 N x))]
def slices_ContainsFunc_api_Span_api_Span_S1 (N : Nat) (a0 : List T_Span) : Option (Bool × Unit) :=
  Option.bind (slices_IndexFunc_api_Span_api_Span_S1 N a0) fun r1 =>
  some ((decide (r1.1 ≥ 0)), ())
theorem slices_ContainsFunc_api_Span_api_Span_S1_fn : FnOK Try.prog 51 9 (fun _ : Nat => false) slices_ContainsFunc_api_Span_api_Span_S1_C1.er [(.t 4)] := FnOK.mk' Try.func51 (by kernel_rfl) (by kernel_rfl) (by kernel_rfl) (by kernel_rfl) (by kernel_rfl)
theorem slices_ContainsFunc_api_Span_api_Span_S1_envok (N : Nat) : EnvOK Try.prog (slices_ContainsFunc_api_Span_api_Span_S1_E N) := .cons (sfE_ok (slices_IndexFunc_api_Span_api_Span_S1_sf N)) (.nil)
theorem slices_ContainsFunc_api_Span_api_Span_S1_sf (N : Nat) : SFOK Try.prog 51 [none, some (52, 0)] [.v (.list G_Span)] [.v .bool] (fun x => slices_ContainsFunc_api_Span_api_Span_S1 N x) := sfOK (N := N) (p := 0) (q := 0) (ns := slices_ContainsFunc_api_Span_api_Span_S1_NE) mixed slices_ContainsFunc_api_Span_api_Span_S1_fn (slices_ContainsFunc_api_Span_api_Span_S1_envok N) rfl rfl rfl (fun x => by kernel_rfl)
/-! clearance_given -/
def clearance_given_C3 : TC := .ret
def clearance_given_C2 : TC := (.seq (.rg [⟨⟨some 7, (.load true 2 (.t 3)), none⟩, {}⟩, ⟨⟨some 8, (.load true 2 (.t 5)), none⟩, {}⟩, ⟨⟨some 9, (.call (.c (.fn 28 [])) [(.t 7), (.t 8)]), none⟩, {}⟩, ⟨⟨some 10, (.mov (.t 9)), none⟩, {}⟩, ⟨⟨some 11, (.mov (.t 1)), some (10, true)⟩, {}⟩, ⟨⟨some 12, (.len (.t 11)), some (10, true)⟩,
  {}⟩, ⟨⟨some 13, (.fadr 1 (.t 3)), some (10, true)⟩, {}⟩, ⟨⟨some 14, (.load false 1 (.t 13)), some (10, true)⟩, {}⟩, ⟨⟨some 15, (.len (.t 14)), some (10, true)⟩, {}⟩, ⟨⟨some 16, (.bin .eql (.t 12) (.t 15)), some (10, true)⟩, {}⟩, ⟨⟨some 17, (.pick (.t 10) (.t 16) (.c (B false))), none⟩, {}⟩, ⟨⟨some
  18, (.mov (.t 17)), none⟩, {}⟩, ⟨⟨some 19, (.mov (.t 1)), some (18, true)⟩, {}⟩, ⟨⟨some 20, (.call (.c (.fn 51 [])) [(.t 19), (.c (.fn 52 []))]), some (18, true)⟩, {}⟩, ⟨⟨some 21, (.un .not (.t 20)), some (18, true)⟩, {}⟩, ⟨⟨some 22, (.pick (.t 18) (.t 21) (.c (B false))), none⟩, {}⟩, ⟨⟨some 6,
  (.mov (.t 22)), none⟩, {}⟩] none) clearance_given_C3)
def clearance_given_C1 : TC := (.seq (.rg [⟨⟨some 3, (.box (.t 0)), none⟩, {}⟩, ⟨⟨some 5, (.box (.t 2)), none⟩, {}⟩, ⟨⟨some 6, (.mov (.c (B false))), none⟩, {}⟩] none) clearance_given_C2)
def clearance_given_E (N : Nat) : List (Nat × Ent) := [(28, pureE [G_Mine, G_Fumes] [.bool] (fun x => clearance_Valid N x.1 x.2)), (51, sfE [none, some (52, 0)] [.v (.list G_Span)] [.v .bool] (fun x => slices_ContainsFunc_api_Span_api_Span_S1 N x))]
def clearance_given (N : Nat) (a0 : T_Mine) (a1 : List T_Span) (a2 : T_Fumes) : Option Bool :=
  Option.bind (clearance_Valid N a0 a2) fun r1 =>
  bif r1 then
    bif ((a1.length : Int) == (a0.2.length : Int)) then
      Option.bind (slices_ContainsFunc_api_Span_api_Span_S1 N a1) fun r2 =>
      some (!r2.1)
    else
      some false
  else
    some false
theorem clearance_given_fn : FnOK Try.prog 31 23 (fun _ : Nat => false) clearance_given_C1.er [(.t 6)] := FnOK.mk' Try.func31 (by kernel_rfl) (by kernel_rfl) (by kernel_rfl) (by kernel_rfl) (by kernel_rfl)
theorem clearance_given_envok (N : Nat) : EnvOK Try.prog (clearance_given_E N) := .cons (pureE_ok (clearance_Valid_pure N)) (.cons (sfE_ok (slices_ContainsFunc_api_Span_api_Span_S1_sf N)) (.nil))
theorem clearance_given_pure (N : Nat) : PureOK Try.prog 31 [G_Mine, (.list G_Span), G_Fumes] [.bool] (fun x => clearance_given N x.1 x.2.1 x.2.2) := pureOK (N := N) mixed clearance_given_fn (clearance_given_envok N) rfl (fun x => by kernel_rfl)
/-! clearance_ends -/
def clearance_ends_C8 : TC := .ret
def clearance_ends_C5 : TC := (.pre [.frz 4, .frz 5] clearance_ends_C8)
def clearance_ends_C3 : TC := (.cond (.t 7) (.seq (.rg [⟨⟨some 4, (.mov (.c (.lst true []))), none⟩, {}⟩, ⟨⟨some 5, (.mov (.c (.lst true []))), none⟩, {}⟩] none) clearance_ends_C5) .skip)
def clearance_ends_C9 : TC := .skip
def clearance_ends_C6 : TC := (.cond (.t 10) (.pre [.ghost (.int .i64), .ghost (.int .i64)] (.rg [⟨⟨some 11, (.mov (.t 4)), none⟩, {}⟩, ⟨⟨some 12, (.fadr 1 (.t 2)), none⟩, {}⟩, ⟨⟨some 13, (.load false 1 (.t 12)), none⟩, {}⟩, ⟨⟨some 14, (.bslice false 1 [(I 0)] 1 [(0, (.t 13))]), none⟩, ⟨(.int .i64), none⟩⟩, ⟨⟨some 15, (.app 1 8
  (.t 11) (.t 14)), none⟩, ⟨.unit, some 2⟩⟩, ⟨⟨some 16, (.mov (.t 5)), none⟩, {}⟩, ⟨⟨some 17, (.fadr 0 (.t 2)), none⟩, {}⟩, ⟨⟨some 18, (.load false 1 (.t 17)), none⟩, {}⟩, ⟨⟨some 19, (.bslice false 1 [(I 0)] 1 [(0, (.t 18))]), none⟩, ⟨(.int .i64), none⟩⟩, ⟨⟨some 20, (.app 1 8 (.t 16) (.t 19)), none⟩,
  ⟨.unit, some 3⟩⟩, ⟨⟨some 4, (.mov (.t 15)), none⟩, {}⟩, ⟨⟨some 5, (.mov (.t 20)), none⟩, {}⟩] (some [(4, 6), (4, 7)]))) (.pre [.ghost (.int .i64), .ghost (.int .i64)] clearance_ends_C9))
def clearance_ends_C12 : TC := .skip
def clearance_ends_C10 : TC := (.cond (.t 23) (.pre [.ghost (.int .i64), .ghost (.int .i64)] (.rg [⟨⟨some 24, (.mov (.t 4)), none⟩, {}⟩, ⟨⟨some 25, (.fadr 0 (.t 2)), none⟩, {}⟩, ⟨⟨some 26, (.load false 1 (.t 25)), none⟩, {}⟩, ⟨⟨some 27, (.bslice false 1 [(I 0)] 1 [(0, (.t 26))]), none⟩, ⟨(.int .i64), none⟩⟩, ⟨⟨some 28, (.app 1 8
  (.t 24) (.t 27)), none⟩, ⟨.unit, some 4⟩⟩, ⟨⟨some 29, (.mov (.t 5)), none⟩, {}⟩, ⟨⟨some 30, (.fadr 1 (.t 2)), none⟩, {}⟩, ⟨⟨some 31, (.load false 1 (.t 30)), none⟩, {}⟩, ⟨⟨some 32, (.bslice false 1 [(I 0)] 1 [(0, (.t 31))]), none⟩, ⟨(.int .i64), none⟩⟩, ⟨⟨some 33, (.app 1 8 (.t 29) (.t 32)), none⟩,
  ⟨.unit, some 5⟩⟩, ⟨⟨some 4, (.mov (.t 28)), none⟩, {}⟩, ⟨⟨some 5, (.mov (.t 33)), none⟩, {}⟩] (some [(4, 6), (4, 7)]))) (.pre [.ghost (.int .i64), .ghost (.int .i64)] clearance_ends_C12))
def clearance_ends_C14 : TC := .ret
def clearance_ends_C13 : TC := (.pre [.frz 4, .frz 5] clearance_ends_C14)
def clearance_ends_C11 : TC := (.seq (.rg [⟨⟨some 34, (.mov (.t 4)), none⟩, {}⟩, ⟨⟨some 35, (.mov (.t 5)), none⟩, {}⟩, ⟨⟨some 4, (.mov (.t 34)), none⟩, {}⟩, ⟨⟨some 5, (.mov (.t 35)), none⟩, {}⟩] none) clearance_ends_C13)
def clearance_ends_C7 : TC := (.seq (.seq (.rg [⟨⟨some 21, (.fadr 0 (.t 3)), none⟩, {}⟩, ⟨⟨some 22, (.load false 1 (.t 21)), none⟩, {}⟩, ⟨⟨some 23, (.bin .lss (.t 22) (.c (I 0))), none⟩, {}⟩] none) clearance_ends_C10) clearance_ends_C11)
def clearance_ends_C4 : TC := (.seq (.seq (.rg [⟨⟨some 8, (.fadr 1 (.t 3)), none⟩, {}⟩, ⟨⟨some 9, (.load false 1 (.t 8)), none⟩, {}⟩, ⟨⟨some 10, (.bin .gtr (.t 9) (.c (I 0))), none⟩, {}⟩] none) clearance_ends_C6) clearance_ends_C7)
def clearance_ends_C2 : TC := (.seq (.seq (.rg [⟨⟨some 6, (.fadr 5 (.t 2)), none⟩, {}⟩, ⟨⟨some 7, (.load false 1 (.t 6)), none⟩, {}⟩] none) clearance_ends_C3) clearance_ends_C4)
def clearance_ends_C1 : TC := (.seq (.rg [⟨⟨some 2, (.box (.t 0)), none⟩, {}⟩, ⟨⟨some 3, (.box (.t 1)), none⟩, {}⟩, ⟨⟨some 4, (.mov (.c (.lst true []))), none⟩, {}⟩, ⟨⟨some 5, (.mov (.c (.lst true []))), none⟩, {}⟩] none) clearance_ends_C2)
def clearance_ends_E (N : Nat) : List (Nat × Ent) := []
def clearance_ends (N : Nat) (a0 : T_Road) (a1 : T_Span) : Option ((List Int) × List Int) :=
  bif a0.2.2.2.2.2.1 then
    some ([], [])
  else
    bif (decide (a1.2 > 0)) then
      bif fitsB ([a0.2.1].length) 8 then
      bif fitsB ([a0.1].length) 8 then
      bif (decide (a1.1 < 0)) then
        bif fitsB ([a0.2.1].length + 1) 8 then
        bif fitsB ([a0.1].length + 1) 8 then
        some (([a0.2.1] ++ [a0.1]), ([a0.1] ++ [a0.2.1]))
        else none
        else none
      else
        some ([a0.2.1], [a0.1])
      else none
      else none
    else
      bif (decide (a1.1 < 0)) then
        bif fitsB ([a0.1].length) 8 then
        bif fitsB ([a0.2.1].length) 8 then
        some ([a0.1], [a0.2.1])
        else none
        else none
      else
        some ([], [])
theorem clearance_ends_fn : FnOK Try.prog 53 36 (fun _ : Nat => false) clearance_ends_C1.er [(.t 4), (.t 5)] := FnOK.mk' Try.func53 (by kernel_rfl) (by kernel_rfl) (by kernel_rfl) (by kernel_rfl) (by kernel_rfl)
theorem clearance_ends_envok (N : Nat) : EnvOK Try.prog (clearance_ends_E N) := .nil
theorem clearance_ends_pure (N : Nat) : PureOK Try.prog 53 [G_Road, G_Span] [(.list (.int .i64)), (.list (.int .i64))] (fun x => clearance_ends N x.1 x.2) := pureOK (N := N) mixed clearance_ends_fn (clearance_ends_envok N) rfl (fun x => by kernel_rfl)
/-! slices_Index_int_int -/
def slices_Index_int_int_N1 : List NS := [.wk 0 (.list (.int .i64)), .keep [0, 1, 7, 8], .cmp]
def slices_Index_int_int_C12 : TC := .ret
def slices_Index_int_int_C11 : TC := (.cond (.t 16) (.seq (.rg [⟨⟨some 17, (.mov (.t 5)), none⟩, {}⟩, ⟨⟨some 4, (.mov (.t 17)), none⟩, {}⟩] none) slices_Index_int_int_C12) .skip)
def slices_Index_int_int_C9 : TC := (.seq (.rg [⟨⟨some 11, (.mov (.t 1)), none⟩, {}⟩, ⟨⟨some 12, (.mov (.t 0)), none⟩, {}⟩, ⟨⟨some 13, (.mov (.t 5)), none⟩, {}⟩, ⟨⟨some 14, (.iadrS 1 (.t 12) (.t 13)), none⟩, {}⟩, ⟨⟨some 15, (.load false 1 (.t 14)), none⟩, {}⟩, ⟨⟨some 16, (.bin .eql (.t 11) (.t 15)), none⟩, {}⟩] none)
  slices_Index_int_int_C11)
def slices_Index_int_int_C10 : TC := (.rg [⟨⟨some 18, (.bin .add (.t 8) (.c (I 1))), none⟩, {}⟩, ⟨⟨some 8, (.mov (.t 18)), none⟩, {}⟩] none)
def slices_Index_int_int_C7 : TC := (.seq (.block 1 (.seq (.rg [⟨⟨some 10, (.mov (.t 8)), none⟩, {}⟩, ⟨⟨some 5, (.mov (.t 10)), none⟩, {}⟩] none) slices_Index_int_int_C9)) slices_Index_int_int_C10)
def slices_Index_int_int_C4 : TC := (.seq (.cond (.t 9) .skip (.exit 0)) slices_Index_int_int_C7)
def slices_Index_int_int_C1 : TC := (.seq (.rg [⟨⟨some 9, (.bin .lss (.t 8) (.t 7)), none⟩, {}⟩] none) slices_Index_int_int_C4)
def slices_Index_int_int_C5 : TC := .ret
def slices_Index_int_int_C2 : TC := (.seq (.rg [⟨⟨some 4, (.mov (.c (I (-1)))), none⟩, {}⟩] none) slices_Index_int_int_C5)
def slices_Index_int_int_C8 : TC := (.block 0 (.loop slices_Index_int_int_N1 slices_Index_int_int_C1))
def slices_Index_int_int_C6 : TC := (.seq (.seq (.rg [⟨⟨some 6, (.mov (.t 0)), none⟩, {}⟩, ⟨⟨some 7, (.len (.t 6)), none⟩, {}⟩, ⟨⟨some 8, (.mov (.c (I 0))), none⟩, {}⟩] none) slices_Index_int_int_C8) slices_Index_int_int_C2)
def slices_Index_int_int_C3 : TC := (.seq (.rg [⟨⟨some 4, (.mov (.c (I 0))), none⟩, {}⟩] none) slices_Index_int_int_C6)
def slices_Index_int_int_E (N : Nat) : List (Nat × Ent) := []
def slices_Index_int_int_L1 (N : Nat) (n : Nat) (x1 : List Int) (x2 : Int) (x3 : Int) (x4 : Int) : Option Int := loopN (normI 0 slices_Index_int_int_N1) (run (slices_Index_int_int_E N) N 0 slices_Index_int_int_C1) n ⟨[(0, .lst false (.int .i64) x1), (1, .int .i64 x2), (7, .int .i64 x3), (8, .int .i64 x4)], []⟩ (blkK 0 (seqK (run (slices_Index_int_int_E N) N 0 slices_Index_int_int_C2) (fin [(.t 4)] [(.int .i64)])))
theorem slices_Index_int_int_L1_zero (N : Nat) (x1 : List Int) (x2 : Int) (x3 : Int) (x4 : Int) : slices_Index_int_int_L1 N 0 x1 x2 x3 x4 = none := rfl
theorem slices_Index_int_int_L1_succ (N : Nat) (n1 : Nat) (x1 : List Int) (x2 : Int) (x3 : Int) (x4 : Int) : slices_Index_int_int_L1 N (n1 + 1) x1 x2 x3 x4 =
  bif (decide (x4 < x3)) then
    bif inB x4 x1.length then
    bif (x2 == (x1.getD x4.toNat 0)) then
      some x4
    else
      slices_Index_int_int_L1 N n1 x1 x2 x3 (W (x4 + 1))
    else none
  else
    some (-1) := by kernel_rfl
def slices_Index_int_int (N : Nat) (a0 : List Int) (a1 : Int) : Option Int :=
  slices_Index_int_int_L1 N N a0 a1 (a0.length : Int) 0
theorem slices_Index_int_int_fn : FnOK Try.prog 62 19 (fun _ : Nat => false) slices_Index_int_int_C3.er [(.t 4)] := FnOK.mk' Try.func62 (by kernel_rfl) (by kernel_rfl) (by kernel_rfl) (by kernel_rfl) (by kernel_rfl)
theorem slices_Index_int_int_envok (N : Nat) : EnvOK Try.prog (slices_Index_int_int_E N) := .nil
theorem slices_Index_int_int_pure (N : Nat) : PureOK Try.prog 62 [(.list (.int .i64)), (.int .i64)] [(.int .i64)] (fun x => slices_Index_int_int N x.1 x.2) := pureOK (N := N) mixed slices_Index_int_int_fn (slices_Index_int_int_envok N) rfl (fun x => by kernel_rfl)
/-! slices_Contains_int_int -/
def slices_Contains_int_int_C3 : TC := .ret
def slices_Contains_int_int_C2 : TC := (.seq (.rg [⟨⟨some 5, (.mov (.t 0)), none⟩, {}⟩, ⟨⟨some 6, (.mov (.t 1)), none⟩, {}⟩, ⟨⟨some 7, (.call (.c (.fn 62 [])) [(.t 5), (.t 6)]), none⟩, {}⟩, ⟨⟨some 8, (.bin .geq (.t 7) (.c (I 0))), none⟩, {}⟩, ⟨⟨some 4, (.mov (.t 8)), none⟩, {}⟩] none) slices_Contains_int_int_C3)
def slices_Contains_int_int_C1 : TC := (.seq (.rg [⟨⟨some 4, (.mov (.c (B false))), none⟩, {}⟩] none) slices_Contains_int_int_C2)
def slices_Contains_int_int_E (N : Nat) : List (Nat × Ent) := [(62, pureE [(.list (.int .i64)), (.int .i64)] [(.int .i64)] (fun x => slices_Index_int_int N x.1 x.2))]
def slices_Contains_int_int (N : Nat) (a0 : List Int) (a1 : Int) : Option Bool :=
  Option.bind (slices_Index_int_int N a0 a1) fun r1 =>
  some (decide (r1 ≥ 0))
theorem slices_Contains_int_int_fn : FnOK Try.prog 55 9 (fun _ : Nat => false) slices_Contains_int_int_C1.er [(.t 4)] := FnOK.mk' Try.func55 (by kernel_rfl) (by kernel_rfl) (by kernel_rfl) (by kernel_rfl) (by kernel_rfl)
theorem slices_Contains_int_int_envok (N : Nat) : EnvOK Try.prog (slices_Contains_int_int_E N) := .cons (pureE_ok (slices_Index_int_int_pure N)) (.nil)
theorem slices_Contains_int_int_pure (N : Nat) : PureOK Try.prog 55 [(.list (.int .i64)), (.int .i64)] [.bool] (fun x => slices_Contains_int_int N x.1 x.2) := pureOK (N := N) mixed slices_Contains_int_int_fn (slices_Contains_int_int_envok N) rfl (fun x => by kernel_rfl)
/-! clearance_feeds_1 -/
def clearance_feeds_1_NE : List NS := [.frzo 0, .frzo 1, .keep [4], .out [0, 1]]
def clearance_feeds_1_C4 : TC := .ret
def clearance_feeds_1_C3 : TC := (.pre [.frzo 0, .frzo 1, .keep [4], .out [0, 1]] clearance_feeds_1_C4)
def clearance_feeds_1_C2 : TC := (.seq (.rg [⟨⟨some 5, (.mov (.t 0)), none⟩, {}⟩, ⟨⟨some 6, (.fadr 0 (.t 1)), none⟩, {}⟩, ⟨⟨some 7, (.load false 1 (.t 6)), none⟩, {}⟩, ⟨⟨some 8, (.len (.t 7)), none⟩, {}⟩, ⟨⟨some 9, (.bin .sub (.t 8) (.c (I 1))), none⟩, {}⟩, ⟨⟨some 10, (.call (.c (.fn 34 [])) [(.t 5), (.c (I 0)), (.t 9)]), none⟩,
  {}⟩, ⟨⟨some 11, (.mov (.t 10)), none⟩, {}⟩, ⟨⟨some 12, (.fadr 0 (.t 1)), some (11, true)⟩, {}⟩, ⟨⟨some 13, (.load false 1 (.t 12)), some (11, true)⟩, {}⟩, ⟨⟨some 14, (.mov (.t 0)), some (11, true)⟩, {}⟩, ⟨⟨some 15, (.iadrS 2 (.t 13) (.t 14)), some (11, true)⟩, {}⟩, ⟨⟨some 16, (.fadr 1 (.t 15)),
  some (11, true)⟩, {}⟩, ⟨⟨some 17, (.load false 1 (.t 16)), some (11, true)⟩, {}⟩, ⟨⟨some 18, (.un .not (.t 17)), some (11, true)⟩, {}⟩, ⟨⟨some 19, (.pick (.t 11) (.t 18) (.c (B false))), none⟩, {}⟩, ⟨⟨some 20, (.mov (.t 19)), none⟩, {}⟩, ⟨⟨some 21, (.load false 1 (.t 2)), some (20, true)⟩, {}⟩,
  ⟨⟨some 22, (.mov (.t 0)), some (20, true)⟩, {}⟩, ⟨⟨some 23, (.call (.c (.fn 55 [])) [(.t 21), (.t 22)]), some (20, true)⟩, {}⟩, ⟨⟨some 24, (.pick (.t 20) (.t 23) (.c (B false))), none⟩, {}⟩, ⟨⟨some 4, (.mov (.t 24)), none⟩, {}⟩] none) clearance_feeds_1_C3)
def clearance_feeds_1_C1 : TC := (.seq (.rg [⟨⟨some 4, (.mov (.c (B false))), none⟩, {}⟩] none) clearance_feeds_1_C2)
def clearance_feeds_1_E (N : Nat) : List (Nat × Ent) := [(34, pureE [(.int .i64), (.int .i64), (.int .i64)] [.bool] (fun x => lists_In N x.1 x.2.1 x.2.2)), (55, pureE [(.list (.int .i64)), (.int .i64)] [.bool] (fun x => slices_Contains_int_int N x.1 x.2))]
def clearance_feeds_1 (N : Nat) (a0 : Int) (a1 : T_Mine) (a2 : List Int) : Option (Bool × (T_Mine × List Int)) :=
  Option.bind (lists_In N a0 0 (W ((a1.1.length : Int) - 1))) fun r2 =>
  bif r2 then
    bif inB a0 a1.1.length then
    bif (!(a1.1.getD a0.toNat D_Place).2) then
      Option.bind (slices_Contains_int_int N a2 a0) fun r4 =>
      some (r4, (a1, a2))
    else
      some (false, (a1, a2))
    else none
  else
    some (false, (a1, a2))
theorem clearance_feeds_1_fn : FnOK Try.prog 54 25 (fun _ : Nat => false) clearance_feeds_1_C1.er [(.t 4)] := FnOK.mk' Try.func54 (by kernel_rfl) (by kernel_rfl) (by kernel_rfl) (by kernel_rfl) (by kernel_rfl)
theorem clearance_feeds_1_envok (N : Nat) : EnvOK Try.prog (clearance_feeds_1_E N) := .cons (pureE_ok (lists_In_pure N)) (.cons (pureE_ok (slices_Contains_int_int_pure N)) (.nil))
theorem clearance_feeds_1_sf (N : Nat) : SFOK Try.prog 54 [none, none, none] [.v (.int .i64), .b (.v G_Mine), .b (.v (.list (.int .i64)))] [.v .bool] (fun x => clearance_feeds_1 N x.1 x.2.1 x.2.2) := sfOK (N := N) (p := 2) (q := 2) (ns := clearance_feeds_1_NE) mixed clearance_feeds_1_fn (clearance_feeds_1_envok N) rfl rfl rfl (fun x => by kernel_rfl)
/-! slices_IndexFunc_int_int_S2 -/
def slices_IndexFunc_int_int_S2_NE : List NS := [.frzo 0, .frzo 1, .keep [4], .out [0, 1]]
def slices_IndexFunc_int_int_S2_N1 : List NS := [.wk 0 (.list (.int .i64)), .keep [0, 1, 7, 8], .cmp]
def slices_IndexFunc_int_int_S2_C14 : TC := .ret
def slices_IndexFunc_int_int_S2_C13 : TC := (.pre [.frzo 0, .frzo 1, .keep [4], .out [0, 1]] slices_IndexFunc_int_int_S2_C14)
def slices_IndexFunc_int_int_S2_C12 : TC := (.cond (.t 16) (.seq (.rg [⟨⟨some 17, (.mov (.t 5)), none⟩, {}⟩, ⟨⟨some 4, (.mov (.t 17)), none⟩, {}⟩] none) slices_IndexFunc_int_int_S2_C13) .skip)
def slices_IndexFunc_int_int_S2_C10 : TC := (.seq (.rg [⟨⟨some 11, (.mov (.t 1)), none⟩, {}⟩, ⟨⟨some 12, (.mov (.t 0)), none⟩, {}⟩, ⟨⟨some 13, (.mov (.t 5)), none⟩, {}⟩, ⟨⟨some 14, (.iadrS 1 (.t 12) (.t 13)), none⟩, {}⟩, ⟨⟨some 15, (.load false 1 (.t 14)), none⟩, {}⟩, ⟨⟨some 16, (.call (.t 11) [(.t 15)]), none⟩, {}⟩] none)
  slices_IndexFunc_int_int_S2_C12)
def slices_IndexFunc_int_int_S2_C11 : TC := (.rg [⟨⟨some 18, (.bin .add (.t 8) (.c (I 1))), none⟩, {}⟩, ⟨⟨some 8, (.mov (.t 18)), none⟩, {}⟩] none)
def slices_IndexFunc_int_int_S2_C7 : TC := (.seq (.block 1 (.seq (.rg [⟨⟨some 10, (.mov (.t 8)), none⟩, {}⟩, ⟨⟨some 5, (.mov (.t 10)), none⟩, {}⟩] none) slices_IndexFunc_int_int_S2_C10)) slices_IndexFunc_int_int_S2_C11)
def slices_IndexFunc_int_int_S2_C4 : TC := (.seq (.cond (.t 9) .skip (.exit 0)) slices_IndexFunc_int_int_S2_C7)
def slices_IndexFunc_int_int_S2_C1 : TC := (.seq (.rg [⟨⟨some 9, (.bin .lss (.t 8) (.t 7)), none⟩, {}⟩] none) slices_IndexFunc_int_int_S2_C4)
def slices_IndexFunc_int_int_S2_C8 : TC := .ret
def slices_IndexFunc_int_int_S2_C5 : TC := (.pre [.frzo 0, .frzo 1, .keep [4], .out [0, 1]] slices_IndexFunc_int_int_S2_C8)
def slices_IndexFunc_int_int_S2_C2 : TC := (.seq (.rg [⟨⟨some 4, (.mov (.c (I (-1)))), none⟩, {}⟩] none) slices_IndexFunc_int_int_S2_C5)
def slices_IndexFunc_int_int_S2_C9 : TC := (.block 0 (.loop slices_IndexFunc_int_int_S2_N1 slices_IndexFunc_int_int_S2_C1))
def slices_IndexFunc_int_int_S2_C6 : TC := (.seq (.seq (.rg [⟨⟨some 6, (.mov (.t 0)), none⟩, {}⟩, ⟨⟨some 7, (.len (.t 6)), none⟩, {}⟩, ⟨⟨some 8, (.mov (.c (I 0))), none⟩, {}⟩] none) slices_IndexFunc_int_int_S2_C9) slices_IndexFunc_int_int_S2_C2)
def slices_IndexFunc_int_int_S2_C3 : TC := (.seq (.rg [⟨⟨some 4, (.mov (.c (I 0))), none⟩, {}⟩] none) slices_IndexFunc_int_int_S2_C6)
def slices_IndexFunc_int_int_S2_E (N : Nat) : List (Nat × Ent) := [(54, sfE [none, none, none] [.v (.int .i64), .b (.v G_Mine), .b (.v (.list (.int .i64)))] [.v .bool] (fun x => clearance_feeds_1 N x.1 x.2.1 x.2.2))]
def slices_IndexFunc_int_int_S2_L1 (N : Nat) (n : Nat) (x1 : List Int) (x2 : Int) (x3 : Int) (x4 : List T_Place) (x5 : List T_Road) (x6 : List Int) : Option (Int × (T_Mine × List Int)) := loopN (normI 2 slices_IndexFunc_int_int_S2_N1) (run (slices_IndexFunc_int_int_S2_E N) N 2 slices_IndexFunc_int_int_S2_C1) n ⟨[(0, .lst false (.int .i64) x1), (1, .fn 54 [.ptr 0 0 0, .ptr 1 0 0]), (7, .int .i64 x2), (8, .int .i64 x3)], [some (.box 0 [.lst false G_Place x4, .lst false G_Road x5]), some (.box 0 [.lst false (.int .i64) x6])]⟩ (blkK 0 (seqK (run (slices_IndexFunc_int_int_S2_E N) N 2 slices_IndexFunc_int_int_S2_C2) (finS slices_IndexFunc_int_int_S2_NE [(.t 4)] [.v (.list (.int .i64)), .b (.v G_Mine), .b (.v (.list (.int .i64)))] [.v (.int .i64)] 2 2)))
theorem slices_IndexFunc_int_int_S2_L1_zero (N : Nat) (x1 : List Int) (x2 : Int) (x3 : Int) (x4 : List T_Place) (x5 : List T_Road) (x6 : List Int) : slices_IndexFunc_int_int_S2_L1 N 0 x1 x2 x3 x4 x5 x6 = none := rfl
theorem slices_IndexFunc_int_int_S2_L1_succ (N : Nat) (n1 : Nat) (x1 : List Int) (x2 : Int) (x3 : Int) (x4 : List T_Place) (x5 : List T_Road) (x6 : List Int) : slices_IndexFunc_int_int_S2_L1 N (n1 + 1) x1 x2 x3 x4 x5 x6 =
  bif (decide (x3 < x2)) then
    bif inB x3 x1.length then
    Option.bind (clearance_feeds_1 N (x1.getD x3.toNat 0) (x4, x5) x6) fun r7 =>
    bif r7.1 then
      some (x3, (r7.2.1, r7.2.2))
    else
      slices_IndexFunc_int_int_S2_L1 N n1 x1 x2 (W (x3 + 1)) r7.2.1.1 r7.2.1.2 r7.2.2
    else none
  else
    some ((-1), ((x4, x5), x6)) := by kernel_rfl
def slices_IndexFunc_int_int_S2 (N : Nat) (a0 : List Int) (a1 : T_Mine) (a2 : List Int) : Option (Int × (T_Mine × List Int)) :=
  slices_IndexFunc_int_int_S2_L1 N N a0 (a0.length : Int) 0 a1.1 a1.2 a2
theorem slices_IndexFunc_int_int_S2_fn : FnOK Try.prog 56 19 (fun _ : Nat => false) slices_IndexFunc_int_int_S2_C3.er [(.t 4)] := FnOK.mk' Try.func56 (by kernel_rfl) (by kernel_rfl) (by kernel_rfl) (by kernel_rfl) (by kernel_rfl)
theorem slices_IndexFunc_int_int_S2_envok (N : Nat) : EnvOK Try.prog (slices_IndexFunc_int_int_S2_E N) := .cons (sfE_ok (clearance_feeds_1_sf N)) (.nil)
theorem slices_IndexFunc_int_int_S2_sf (N : Nat) : SFOK Try.prog 56 [none, some (54, 2)] [.v (.list (.int .i64)), .b (.v G_Mine), .b (.v (.list (.int .i64)))] [.v (.int .i64)] (fun x => slices_IndexFunc_int_int_S2 N x.1 x.2.1 x.2.2) := sfOK (N := N) (p := 2) (q := 2) (ns := slices_IndexFunc_int_int_S2_NE) mixed slices_IndexFunc_int_int_S2_fn (slices_IndexFunc_int_int_S2_envok N) rfl rfl rfl (fun x => by kernel_rfl)
/-! slices_ContainsFunc_int_int_S2 -/
def slices_ContainsFunc_int_int_S2_NE : List NS := [.frzo 0, .frzo 1, .keep [4], .out [0, 1]]
def slices_ContainsFunc_int_int_S2_C4 : TC := .ret
def slices_ContainsFunc_int_int_S2_C3 : TC := (.pre [.frzo 0, .frzo 1, .keep [4], .out [0, 1]] slices_ContainsFunc_int_int_S2_C4)
def slices_ContainsFunc_int_int_S2_C2 : TC := (.seq (.rg [⟨⟨some 5, (.mov (.t 0)), none⟩, {}⟩, ⟨⟨some 6, (.mov (.t 1)), none⟩, {}⟩, ⟨⟨some 7, (.call (.c (.fn 56 [])) [(.t 5), (.t 6)]), none⟩, {}⟩, ⟨⟨some 8, (.bin .geq (.t 7) (.c (I 0))), none⟩, {}⟩, ⟨⟨some 4, (.mov (.t 8)), none⟩, {}⟩] none) slices_ContainsFunc_int_int_S2_C3)
def slices_ContainsFunc_int_int_S2_C1 : TC := (.seq (.rg [⟨⟨some 4, (.mov (.c (B false))), none⟩, {}⟩] none) slices_ContainsFunc_int_int_S2_C2)
def slices_ContainsFunc_int_int_S2_E (N : Nat) : List (Nat × Ent) := [(56, sfE [none, some (54, 2)] [.v (.list (.int .i64)), .b (.v G_Mine), .b (.v (.list (.int .i64)))] [.v (.int .i64)] (fun x => slices_IndexFunc_int_int_S2 N x.1 x.2.1 x.2.2))]
def slices_ContainsFunc_int_int_S2 (N : Nat) (a0 : List Int) (a1 : T_Mine) (a2 : List Int) : Option (Bool × (T_Mine × List Int)) :=
  Option.bind (slices_IndexFunc_int_int_S2 N a0 a1 a2) fun r1 =>
  some ((decide (r1.1 ≥ 0)), (r1.2.1, r1.2.2))
theorem slices_ContainsFunc_int_int_S2_fn : FnOK Try.prog 39 9 (fun _ : Nat => false) slices_ContainsFunc_int_int_S2_C1.er [(.t 4)] := FnOK.mk' Try.func39 (by kernel_rfl) (by kernel_rfl) (by kernel_rfl) (by kernel_rfl) (by kernel_rfl)
theorem slices_ContainsFunc_int_int_S2_envok (N : Nat) : EnvOK Try.prog (slices_ContainsFunc_int_int_S2_E N) := .cons (sfE_ok (slices_IndexFunc_int_int_S2_sf N)) (.nil)
theorem slices_ContainsFunc_int_int_S2_sf (N : Nat) : SFOK Try.prog 39 [none, some (54, 2)] [.v (.list (.int .i64)), .b (.v G_Mine), .b (.v (.list (.int .i64)))] [.v .bool] (fun x => slices_ContainsFunc_int_int_S2 N x.1 x.2.1 x.2.2) := sfOK (N := N) (p := 2) (q := 2) (ns := slices_ContainsFunc_int_int_S2_NE) mixed slices_ContainsFunc_int_int_S2_fn (slices_ContainsFunc_int_int_S2_envok N) rfl rfl rfl (fun x => by kernel_rfl)
/-! clearance_feeds -/
def clearance_feeds_C5 : TC := .ret
def clearance_feeds_C4 : TC := (.seq (.rg [⟨⟨some 39, (.mov (.t 9)), none⟩, {}⟩, ⟨⟨some 40, (.mkfn 54 [(.t 4), (.t 12)]), none⟩, {}⟩, ⟨⟨some 41, (.call (.c (.fn 39 [])) [(.t 39), (.t 40)]), none⟩, {}⟩, ⟨⟨some 8, (.mov (.t 41)), none⟩, {}⟩] none) clearance_feeds_C5)
def clearance_feeds_C3 : TC := (.seq (.pre [.wait] (.rg [⟨⟨some 27, (.fadr 1 (.t 4)), none⟩, {}⟩, ⟨⟨some 28, (.load false 1 (.t 27)), none⟩, {}⟩, ⟨⟨some 29, (.mov (.t 3)), none⟩, {}⟩, ⟨⟨some 30, (.iadrS 10 (.t 28) (.t 29)), none⟩, {}⟩, ⟨⟨some 31, (.load true 10 (.t 30)), none⟩, {}⟩, ⟨⟨some 32, (.mov (.t 1)), none⟩, {}⟩, ⟨⟨some 33,
  (.mov (.t 3)), none⟩, {}⟩, ⟨⟨some 34, (.iadrS 2 (.t 32) (.t 33)), none⟩, {}⟩, ⟨⟨some 35, (.load true 2 (.t 34)), none⟩, {}⟩, ⟨⟨some 36, (.call (.c (.fn 53 [])) [(.t 31), (.t 35)]), none⟩, {}⟩, ⟨⟨some 26, (.mov (.t 36)), none⟩, {}⟩, ⟨⟨some 37, (.extr 0 (.t 26)), none⟩, {}⟩, ⟨⟨some 38, (.extr 1 (.t
  26)), none⟩, {}⟩, ⟨⟨some 12, (.alloc [(.lst true [])]), none⟩, ⟨.unit, some 1⟩⟩, ⟨⟨some 11, (.mov (.t 37)), none⟩, {}⟩, ⟨⟨none, (.store 1 (.t 12) (.t 38)), none⟩, {}⟩] (some [(0, 13), (1, 13), (3, 13), (4, 13), (7, 13), (8, 13), (9, 13)]))) clearance_feeds_C4)
def clearance_feeds_C2 : TC := (.seq (.rg [⟨⟨some 14, (.fadr 1 (.t 4)), none⟩, {}⟩, ⟨⟨some 15, (.load false 1 (.t 14)), none⟩, {}⟩, ⟨⟨some 16, (.mov (.t 2)), none⟩, {}⟩, ⟨⟨some 17, (.iadrS 10 (.t 15) (.t 16)), none⟩, {}⟩, ⟨⟨some 18, (.load true 10 (.t 17)), none⟩, {}⟩, ⟨⟨some 19, (.mov (.t 1)), none⟩, {}⟩, ⟨⟨some 20, (.mov (.t
  2)), none⟩, {}⟩, ⟨⟨some 21, (.iadrS 2 (.t 19) (.t 20)), none⟩, {}⟩, ⟨⟨some 22, (.load true 2 (.t 21)), none⟩, {}⟩, ⟨⟨some 23, (.call (.c (.fn 53 [])) [(.t 18), (.t 22)]), none⟩, {}⟩, ⟨⟨some 13, (.mov (.t 23)), none⟩, {}⟩, ⟨⟨some 24, (.extr 0 (.t 13)), none⟩, {}⟩, ⟨⟨some 25, (.extr 1 (.t 13)),
  none⟩, {}⟩, ⟨⟨some 9, (.mov (.t 24)), none⟩, {}⟩, ⟨⟨some 10, (.mov (.t 25)), none⟩, {}⟩] (some [])) clearance_feeds_C3)
def clearance_feeds_C1 : TC := (.seq (.rg [⟨⟨some 4, (.box (.t 0)), none⟩, {}⟩, ⟨⟨some 8, (.mov (.c (B false))), none⟩, {}⟩] none) clearance_feeds_C2)
def clearance_feeds_E (N : Nat) : List (Nat × Ent) := [(53, pureE [G_Road, G_Span] [(.list (.int .i64)), (.list (.int .i64))] (fun x => clearance_ends N x.1 x.2)), (39, sfE [none, some (54, 2)] [.v (.list (.int .i64)), .b (.v G_Mine), .b (.v (.list (.int .i64)))] [.v .bool] (fun x => slices_ContainsFunc_int_int_S2 N x.1 x.2.1 x.2.2))]
def clearance_feeds (N : Nat) (a0 : T_Mine) (a1 : List T_Span) (a2 : Int) (a3 : Int) : Option Bool :=
  bif inB a2 a0.2.length then
  bif inB a2 a1.length then
  Option.bind (clearance_ends N (a0.2.getD a2.toNat D_Road) (a1.getD a2.toNat D_Span)) fun r3 =>
  bif inB a3 a0.2.length then
  bif inB a3 a1.length then
  Option.bind (clearance_ends N (a0.2.getD a3.toNat D_Road) (a1.getD a3.toNat D_Span)) fun r6 =>
  Option.bind (slices_ContainsFunc_int_int_S2 N r3.1 a0 r6.2) fun r7 =>
  some r7.1
  else none
  else none
  else none
  else none
theorem clearance_feeds_fn : FnOK Try.prog 35 42 (fun _ : Nat => false) clearance_feeds_C1.er [(.t 8)] := FnOK.mk' Try.func35 (by kernel_rfl) (by kernel_rfl) (by kernel_rfl) (by kernel_rfl) (by kernel_rfl)
theorem clearance_feeds_envok (N : Nat) : EnvOK Try.prog (clearance_feeds_E N) := .cons (pureE_ok (clearance_ends_pure N)) (.cons (sfE_ok (slices_ContainsFunc_int_int_S2_sf N)) (.nil))
theorem clearance_feeds_pure (N : Nat) : PureOK Try.prog 35 [G_Mine, (.list G_Span), (.int .i64), (.int .i64)] [.bool] (fun x => clearance_feeds N x.1 x.2.1 x.2.2.1 x.2.2.2) := pureOK (N := N) mixed clearance_feeds_fn (clearance_feeds_envok N) rfl (fun x => by kernel_rfl)
/-! clearance_Sources_1 -/
def clearance_Sources_1_NE : List NS := [.frzo 0, .keep [3], .out [0]]
def clearance_Sources_1_C4 : TC := .ret
def clearance_Sources_1_C3 : TC := (.pre [.frzo 0, .keep [3], .out [0]] clearance_Sources_1_C4)
def clearance_Sources_1_C2 : TC := (.seq (.rg [⟨⟨some 4, (.load false 1 (.t 1)), none⟩, {}⟩, ⟨⟨some 5, (.mov (.t 0)), none⟩, {}⟩, ⟨⟨some 6, (.iadrS 1 (.t 4) (.t 5)), none⟩, {}⟩, ⟨⟨some 7, (.load false 1 (.t 6)), none⟩, {}⟩, ⟨⟨some 3, (.mov (.t 7)), none⟩, {}⟩] none) clearance_Sources_1_C3)
def clearance_Sources_1_C1 : TC := (.seq (.rg [⟨⟨some 3, (.mov (.c (B false))), none⟩, {}⟩] none) clearance_Sources_1_C2)
def clearance_Sources_1_E (N : Nat) : List (Nat × Ent) := []
def clearance_Sources_1 (N : Nat) (a0 : Int) (a1 : List Bool) : Option (Bool × (List Bool)) :=
  bif inB a0 a1.length then
  some (a1.getD a0.toNat false, a1)
  else none
theorem clearance_Sources_1_fn : FnOK Try.prog 37 8 (fun _ : Nat => false) clearance_Sources_1_C1.er [(.t 3)] := FnOK.mk' Try.func37 (by kernel_rfl) (by kernel_rfl) (by kernel_rfl) (by kernel_rfl) (by kernel_rfl)
theorem clearance_Sources_1_envok (N : Nat) : EnvOK Try.prog (clearance_Sources_1_E N) := .nil
theorem clearance_Sources_1_sf (N : Nat) : SFOK Try.prog 37 [none, none] [.v (.int .i64), .b (.v (.list .bool))] [.v .bool] (fun x => clearance_Sources_1 N x.1 x.2) := sfOK (N := N) (p := 1) (q := 1) (ns := clearance_Sources_1_NE) mixed clearance_Sources_1_fn (clearance_Sources_1_envok N) rfl rfl rfl (fun x => by kernel_rfl)
/-! lists_Where_S1 -/
def lists_Where_S1_NE : List NS := [.frz 4, .frzo 0, .keep [4], .out [0]]
def lists_Where_S1_N1 : List NS := [.own 5 (.int .i64), .keep [1, 5, 7, 8], .cmp]
def lists_Where_S1_C14 : TC := (.cond (.t 13) (.rg [⟨⟨some 14, (.mov (.t 5)), none⟩, {}⟩, ⟨⟨some 15, (.mov (.t 6)), none⟩, {}⟩, ⟨⟨some 16, (.bslice false 1 [(I 0)] 1 [(0, (.t 15))]), none⟩, ⟨(.int .i64), none⟩⟩, ⟨⟨some 17, (.app 1 8 (.t 14) (.t 16)), none⟩, {}⟩, ⟨⟨some 5, (.mov (.t 17)), none⟩, {}⟩] none) .skip)
def lists_Where_S1_C10 : TC := (.seq (.rg [⟨⟨some 11, (.mov (.t 1)), none⟩, {}⟩, ⟨⟨some 12, (.mov (.t 6)), none⟩, {}⟩, ⟨⟨some 13, (.call (.t 11) [(.t 12)]), none⟩, {}⟩] none) lists_Where_S1_C14)
def lists_Where_S1_C11 : TC := (.rg [⟨⟨some 18, (.bin .add (.t 8) (.c (I 1))), none⟩, {}⟩, ⟨⟨some 8, (.mov (.t 18)), none⟩, {}⟩] none)
def lists_Where_S1_C7 : TC := (.seq (.block 1 (.seq (.rg [⟨⟨some 10, (.mov (.t 8)), none⟩, {}⟩, ⟨⟨some 6, (.mov (.t 10)), none⟩, {}⟩] none) lists_Where_S1_C10)) lists_Where_S1_C11)
def lists_Where_S1_C4 : TC := (.seq (.cond (.t 9) .skip (.exit 0)) lists_Where_S1_C7)
def lists_Where_S1_C1 : TC := (.seq (.rg [⟨⟨some 9, (.bin .lss (.t 8) (.t 7)), none⟩, {}⟩] none) lists_Where_S1_C4)
def lists_Where_S1_C12 : TC := .ret
def lists_Where_S1_C8 : TC := (.pre [.frz 4, .frzo 0, .keep [4], .out [0]] lists_Where_S1_C12)
def lists_Where_S1_C5 : TC := (.seq (.rg [⟨⟨some 19, (.mov (.t 5)), none⟩, {}⟩, ⟨⟨some 4, (.mov (.t 19)), none⟩, {}⟩] none) lists_Where_S1_C8)
def lists_Where_S1_C2 : TC := (.pre [.frz 5] lists_Where_S1_C5)
def lists_Where_S1_C13 : TC := (.block 0 (.loop lists_Where_S1_N1 lists_Where_S1_C1))
def lists_Where_S1_C9 : TC := (.seq (.seq (.rg [⟨⟨some 7, (.mov (.t 0)), none⟩, {}⟩, ⟨⟨some 8, (.mov (.c (I 0))), none⟩, {}⟩] none) lists_Where_S1_C13) lists_Where_S1_C2)
def lists_Where_S1_C6 : TC := (.seq (.rg [⟨⟨some 5, (.mov (.c (.lst true []))), none⟩, {}⟩] none) lists_Where_S1_C9)
def lists_Where_S1_C3 : TC := (.seq (.rg [⟨⟨some 4, (.mov (.c (.lst true []))), none⟩, {}⟩] none) lists_Where_S1_C6)
def lists_Where_S1_E (N : Nat) : List (Nat × Ent) := [(37, sfE [none, none] [.v (.int .i64), .b (.v (.list .bool))] [.v .bool] (fun x => clearance_Sources_1 N x.1 x.2))]
def lists_Where_S1_L1 (N : Nat) (n : Nat) (x1 : Int) (x2 : Int) (x3 : List Bool) (x4 : List Int) : Option ((List Int) × (List Bool)) := loopN (normI 1 lists_Where_S1_N1) (run (lists_Where_S1_E N) N 1 lists_Where_S1_C1) n ⟨[(1, .fn 37 [.ptr 0 0 0]), (5, .whole 1), (7, .int .i64 x1), (8, .int .i64 x2)], [some (.box 0 [.lst false .bool x3]), some (.arr (.int .i64) x4)]⟩ (blkK 0 (seqK (run (lists_Where_S1_E N) N 1 lists_Where_S1_C2) (finS lists_Where_S1_NE [(.t 4)] [.v (.int .i64), .b (.v (.list .bool))] [.v (.list (.int .i64))] 1 1)))
theorem lists_Where_S1_L1_zero (N : Nat) (x1 : Int) (x2 : Int) (x3 : List Bool) (x4 : List Int) : lists_Where_S1_L1 N 0 x1 x2 x3 x4 = none := rfl
theorem lists_Where_S1_L1_succ (N : Nat) (n1 : Nat) (x1 : Int) (x2 : Int) (x3 : List Bool) (x4 : List Int) : lists_Where_S1_L1 N (n1 + 1) x1 x2 x3 x4 =
  bif (decide (x2 < x1)) then
    Option.bind (clearance_Sources_1 N x2 x3) fun r5 =>
    bif r5.1 then
      bif fitsB (x4.length + 1) 8 then
      lists_Where_S1_L1 N n1 x1 (W (x2 + 1)) r5.2 (x4 ++ [x2])
      else none
    else
      lists_Where_S1_L1 N n1 x1 (W (x2 + 1)) r5.2 x4
  else
    some (x4, x3) := by kernel_rfl
def lists_Where_S1 (N : Nat) (a0 : Int) (a1 : List Bool) : Option ((List Int) × (List Bool)) :=
  lists_Where_S1_L1 N N a0 0 a1 []
theorem lists_Where_S1_fn : FnOK Try.prog 36 20 (fun _ : Nat => false) lists_Where_S1_C3.er [(.t 4)] := FnOK.mk' Try.func36 (by kernel_rfl) (by kernel_rfl) (by kernel_rfl) (by kernel_rfl) (by kernel_rfl)
theorem lists_Where_S1_envok (N : Nat) : EnvOK Try.prog (lists_Where_S1_E N) := .cons (sfE_ok (clearance_Sources_1_sf N)) (.nil)
theorem lists_Where_S1_sf (N : Nat) : SFOK Try.prog 36 [none, some (37, 1)] [.v (.int .i64), .b (.v (.list .bool))] [.v (.list (.int .i64))] (fun x => lists_Where_S1 N x.1 x.2) := sfOK (N := N) (p := 1) (q := 1) (ns := lists_Where_S1_NE) mixed lists_Where_S1_fn (lists_Where_S1_envok N) rfl rfl rfl (fun x => by kernel_rfl)
/-! clearance_Sources -/
def clearance_Sources_N1 : List NS := [.own 8 (.int .i64), .wk 1 (.list G_Span), .keep [1, 3, 7, 8], .cmp]
def clearance_Sources_N2 : List NS := [.own 8 (.int .i64), .wk 1 (.list G_Span), .keep [1, 3, 7, 8, 9, 42, 43], .cmp]
def clearance_Sources_C24 : TC := (.rg [⟨⟨some 61, (.mov (.t 8)), none⟩, {}⟩, ⟨⟨some 62, (.mov (.t 10)), none⟩, {}⟩, ⟨⟨some 63, (.bslice false 1 [(I 0)] 1 [(0, (.t 62))]), none⟩, ⟨(.int .i64), none⟩⟩, ⟨⟨some 64, (.app 1 8 (.t 61) (.t 63)), none⟩, {}⟩, ⟨⟨some 8, (.mov (.t 64)), none⟩, {}⟩] none)
def clearance_Sources_C20 : TC := (.cond (.t 57) (.seq (.rg [⟨⟨some 58, (.load false 1 (.t 7)), none⟩, {}⟩, ⟨⟨some 59, (.mov (.t 10)), none⟩, {}⟩, ⟨⟨some 60, (.iadrS 1 (.t 58) (.t 59)), none⟩, {}⟩, ⟨⟨none, (.store 1 (.t 60) (.c (B true))), none⟩, {}⟩] none) clearance_Sources_C24) .skip)
def clearance_Sources_C15 : TC := (.seq (.rg [⟨⟨some 46, (.load false 1 (.t 7)), none⟩, {}⟩, ⟨⟨some 47, (.mov (.t 10)), none⟩, {}⟩, ⟨⟨some 48, (.iadrS 1 (.t 46) (.t 47)), none⟩, {}⟩, ⟨⟨some 49, (.load false 1 (.t 48)), none⟩, {}⟩, ⟨⟨some 50, (.un .not (.t 49)), none⟩, {}⟩, ⟨⟨some 51, (.mov (.t 50)), none⟩, {}⟩, ⟨⟨some 52, (.load true
  2 (.t 3)), some (51, true)⟩, {}⟩, ⟨⟨some 53, (.mov (.t 1)), some (51, true)⟩, {}⟩, ⟨⟨some 54, (.mov (.t 10)), some (51, true)⟩, {}⟩, ⟨⟨some 55, (.mov (.t 9)), some (51, true)⟩, {}⟩, ⟨⟨some 56, (.call (.c (.fn 35 [])) [(.t 52), (.t 53), (.t 54), (.t 55)]), some (51, true)⟩, {}⟩, ⟨⟨some 57, (.pick
  (.t 51) (.t 56) (.c (B false))), none⟩, {}⟩] none) clearance_Sources_C20)
def clearance_Sources_C16 : TC := (.rg [⟨⟨some 65, (.bin .add (.t 43) (.c (I 1))), none⟩, {}⟩, ⟨⟨some 43, (.mov (.t 65)), none⟩, {}⟩] none)
def clearance_Sources_C10 : TC := (.seq (.block 3 (.seq (.rg [⟨⟨some 45, (.mov (.t 43)), none⟩, {}⟩, ⟨⟨some 10, (.mov (.t 45)), none⟩, {}⟩] none) clearance_Sources_C15)) clearance_Sources_C16)
def clearance_Sources_C5 : TC := (.seq (.cond (.t 44) .skip (.exit 2)) clearance_Sources_C10)
def clearance_Sources_C1 : TC := (.seq (.rg [⟨⟨some 44, (.bin .lss (.t 43) (.t 42)), none⟩, {}⟩] none) clearance_Sources_C5)
def clearance_Sources_C6 : TC := (.cond (.t 34) .skip (.exit 0))
def clearance_Sources_C21 : TC := (.block 2 (.loop clearance_Sources_N2 clearance_Sources_C1))
def clearance_Sources_C17 : TC := (.seq (.rg [⟨⟨some 40, (.fadr 1 (.t 3)), none⟩, {}⟩, ⟨⟨some 41, (.load false 1 (.t 40)), none⟩, {}⟩, ⟨⟨some 42, (.len (.t 41)), none⟩, {}⟩, ⟨⟨some 43, (.mov (.c (I 0))), none⟩, {}⟩] none) clearance_Sources_C21)
def clearance_Sources_C11 : TC := (.seq (.rg [⟨⟨some 38, (.mov (.t 8)), none⟩, {}⟩, ⟨⟨some 39, (.slc 1 (.t 38) (some (.c (I 1))) none), none⟩, {}⟩, ⟨⟨some 8, (.mov (.t 39)), none⟩, {}⟩] none) clearance_Sources_C17)
def clearance_Sources_C7 : TC := (.block 1 (.seq (.rg [⟨⟨some 35, (.mov (.t 8)), none⟩, {}⟩, ⟨⟨some 36, (.iadrS 1 (.t 35) (.c (I 0))), none⟩, {}⟩, ⟨⟨some 37, (.load false 1 (.t 36)), none⟩, {}⟩, ⟨⟨some 9, (.mov (.t 37)), none⟩, {}⟩] none) clearance_Sources_C11))
def clearance_Sources_C2 : TC := (.seq (.seq (.rg [⟨⟨some 32, (.mov (.t 8)), none⟩, {}⟩, ⟨⟨some 33, (.len (.t 32)), none⟩, {}⟩, ⟨⟨some 34, (.bin .gtr (.t 33) (.c (I 0))), none⟩, {}⟩] none) clearance_Sources_C6) clearance_Sources_C7)
def clearance_Sources_C12 : TC := .ret
def clearance_Sources_C8 : TC := (.pre [.frz 6] clearance_Sources_C12)
def clearance_Sources_C3 : TC := (.seq (.rgw [([⟨⟨some 66, (.load false 1 (.t 7)), none⟩, {}⟩, ⟨⟨some 67, (.len (.t 66)), none⟩, {}⟩, ⟨⟨some 68, (.mkfn 37 [(.t 7)]), none⟩, {}⟩], [.frz 66]), ([⟨⟨some 69, (.call (.c (.fn 36 [])) [(.t 67), (.t 68)]), none⟩, {}⟩, ⟨⟨some 6, (.mov (.t 69)), none⟩, {}⟩], [])]) clearance_Sources_C8)
def clearance_Sources_C22 : TC := .ret
def clearance_Sources_C18 : TC := (.pre [.frz 6] clearance_Sources_C22)
def clearance_Sources_C13 : TC := (.cond (.t 25) (.seq (.rg [⟨⟨some 6, (.mov (.c (.lst true []))), none⟩, {}⟩] none) clearance_Sources_C18) .skip)
def clearance_Sources_C23 : TC := (.seq (.block 0 (.loop clearance_Sources_N1 clearance_Sources_C2)) clearance_Sources_C3)
def clearance_Sources_C19 : TC := (.seq (.rg [⟨⟨some 30, (.mov (.t 2)), none⟩, {}⟩, ⟨⟨some 31, (.bslice true 1 [(I 0)] 1 [(0, (.t 30))]), none⟩, ⟨(.int .i64), none⟩⟩, ⟨⟨some 8, (.mov (.t 31)), none⟩, {}⟩] none) clearance_Sources_C23)
def clearance_Sources_C14 : TC := (.seq (.rg [⟨⟨some 26, (.fadr 1 (.t 3)), none⟩, {}⟩, ⟨⟨some 27, (.load false 1 (.t 26)), none⟩, {}⟩, ⟨⟨some 28, (.len (.t 27)), none⟩, {}⟩, ⟨⟨some 29, (.mksl 1 1 [(B false)] (.t 28) (.t 28)), none⟩, ⟨.bool, none⟩⟩, ⟨⟨some 7, (.alloc [(.lst true [])]), none⟩, {}⟩, ⟨⟨none, (.store 1 (.t 7) (.t 29)),
  none⟩, {}⟩] none) clearance_Sources_C19)
def clearance_Sources_C9 : TC := (.seq (.seq (.rg [⟨⟨some 11, (.mov (.t 2)), none⟩, {}⟩, ⟨⟨some 12, (.fadr 1 (.t 3)), none⟩, {}⟩, ⟨⟨some 13, (.load false 1 (.t 12)), none⟩, {}⟩, ⟨⟨some 14, (.len (.t 13)), none⟩, {}⟩, ⟨⟨some 15, (.bin .sub (.t 14) (.c (I 1))), none⟩, {}⟩, ⟨⟨some 16, (.call (.c (.fn 34 [])) [(.t 11), (.c (I 0)), (.t
  15)]), none⟩, {}⟩, ⟨⟨some 17, (.un .not (.t 16)), none⟩, {}⟩, ⟨⟨some 18, (.mov (.t 17)), none⟩, {}⟩, ⟨⟨some 19, (.mov (.t 1)), some (18, false)⟩, {}⟩, ⟨⟨some 20, (.len (.t 19)), some (18, false)⟩, {}⟩, ⟨⟨some 21, (.fadr 1 (.t 3)), some (18, false)⟩, {}⟩, ⟨⟨some 22, (.load false 1 (.t 21)), some
  (18, false)⟩, {}⟩, ⟨⟨some 23, (.len (.t 22)), some (18, false)⟩, {}⟩, ⟨⟨some 24, (.bin .neq (.t 20) (.t 23)), some (18, false)⟩, {}⟩, ⟨⟨some 25, (.pick (.t 18) (.c (B true)) (.t 24)), none⟩, {}⟩] none) clearance_Sources_C13) clearance_Sources_C14)
def clearance_Sources_C4 : TC := (.seq (.rg [⟨⟨some 3, (.box (.t 0)), none⟩, {}⟩, ⟨⟨some 6, (.mov (.c (.lst true []))), none⟩, {}⟩] none) clearance_Sources_C9)
def clearance_Sources_E (N : Nat) : List (Nat × Ent) := [(34, pureE [(.int .i64), (.int .i64), (.int .i64)] [.bool] (fun x => lists_In N x.1 x.2.1 x.2.2)), (35, pureE [G_Mine, (.list G_Span), (.int .i64), (.int .i64)] [.bool] (fun x => clearance_feeds N x.1 x.2.1 x.2.2.1 x.2.2.2)), (36, sfE [none, some (37, 1)] [.v (.int .i64), .b (.v (.list .bool))] [.v (.list (.int .i64))] (fun x => lists_Where_S1 N x.1 x.2))]
def clearance_Sources_L2 (N n1 : Nat) (n : Nat) (x10 : List T_Span) (x11 : Int) (x12 : Int) (x13 : Int) (x14 : List T_Place) (x15 : List T_Road) (x16 : List Int) (x17 : List Bool) : Option (List Int) := loopN (normI 0 clearance_Sources_N2) (run (clearance_Sources_E N) N 0 clearance_Sources_C1) n ⟨[(1, .lst false G_Span x10), (3, .ptr 0 0 0), (7, .ptr 1 0 0), (8, .whole 2), (9, .int .i64 x11), (42, .int .i64 x12), (43, .int .i64 x13)], [some (.box 0 [.lst false G_Place x14, .lst false G_Road x15]), some (.box 0 [.whole 3]), some (.arr (.int .i64) x16), some (.arr .bool x17)]⟩ (blkK 2 (blkK 1 (seqK (nextL (normI 0 clearance_Sources_N1) (loopN (normI 0 clearance_Sources_N1) (run (clearance_Sources_E N) N 0 clearance_Sources_C2) n1)) (blkK 0 (seqK (run (clearance_Sources_E N) N 0 clearance_Sources_C3) (fin [(.t 6)] [(.list (.int .i64))]))))))
def clearance_Sources_L1 (N : Nat) (n : Nat) (x4 : List T_Span) (x5 : List T_Place) (x6 : List T_Road) (x7 : List Int) (x8 : List Bool) : Option (List Int) := loopN (normI 0 clearance_Sources_N1) (run (clearance_Sources_E N) N 0 clearance_Sources_C2) n ⟨[(1, .lst false G_Span x4), (3, .ptr 0 0 0), (7, .ptr 1 0 0), (8, .whole 2)], [some (.box 0 [.lst false G_Place x5, .lst false G_Road x6]), some (.box 0 [.whole 3]), some (.arr (.int .i64) x7), some (.arr .bool x8)]⟩ (blkK 0 (seqK (run (clearance_Sources_E N) N 0 clearance_Sources_C3) (fin [(.t 6)] [(.list (.int .i64))])))
theorem clearance_Sources_L2_zero (N n1 : Nat) (x10 : List T_Span) (x11 : Int) (x12 : Int) (x13 : Int) (x14 : List T_Place) (x15 : List T_Road) (x16 : List Int) (x17 : List Bool) : clearance_Sources_L2 N n1 0 x10 x11 x12 x13 x14 x15 x16 x17 = none := rfl
theorem clearance_Sources_L2_succ (N n1 : Nat) (n2 : Nat) (x10 : List T_Span) (x11 : Int) (x12 : Int) (x13 : Int) (x14 : List T_Place) (x15 : List T_Road) (x16 : List Int) (x17 : List Bool) : clearance_Sources_L2 N n1 (n2 + 1) x10 x11 x12 x13 x14 x15 x16 x17 =
  bif (decide (x13 < x12)) then
    bif inB x13 x17.length then
    bif (!(x17.getD x13.toNat false)) then
      Option.bind (clearance_feeds N (x14, x15) x10 x13 x11) fun r18 =>
      bif r18 then
        bif inB x13 x17.length then
        bif fitsB (x16.length + 1) 8 then
        clearance_Sources_L2 N n1 n2 x10 x11 x12 (W (x13 + 1)) x14 x15 (x16 ++ [x13]) (x17.set x13.toNat true)
        else none
        else none
      else
        clearance_Sources_L2 N n1 n2 x10 x11 x12 (W (x13 + 1)) x14 x15 x16 x17
    else
      clearance_Sources_L2 N n1 n2 x10 x11 x12 (W (x13 + 1)) x14 x15 x16 x17
    else none
  else
    clearance_Sources_L1 N n1 x10 x14 x15 x16 x17 := by kernel_rfl
theorem clearance_Sources_L1_zero (N : Nat) (x4 : List T_Span) (x5 : List T_Place) (x6 : List T_Road) (x7 : List Int) (x8 : List Bool) : clearance_Sources_L1 N 0 x4 x5 x6 x7 x8 = none := rfl
theorem clearance_Sources_L1_succ (N : Nat) (n1 : Nat) (x4 : List T_Span) (x5 : List T_Place) (x6 : List T_Road) (x7 : List Int) (x8 : List Bool) : clearance_Sources_L1 N (n1 + 1) x4 x5 x6 x7 x8 =
  bif (decide ((x7.length : Int) > 0)) then
    bif inB 0 x7.length then
    bif slB 1 x7.length x7.length then
    clearance_Sources_L2 N n1 N x4 (x7.getD ((0 : Int).toNat) 0) (x6.length : Int) 0 x5 x6 ((x7.drop ((1 : Int).toNat)).take ((x7.length : Int).toNat - (1 : Int).toNat)) x8
    else none
    else none
  else
    Option.bind (lists_Where_S1 N (x8.length : Int) x8) fun r58 =>
    some r58.1 := by kernel_rfl
def clearance_Sources (N : Nat) (a0 : T_Mine) (a1 : List T_Span) (a2 : Int) : Option (List Int) :=
  Option.bind (lists_In N a2 0 (W ((a0.2.length : Int) - 1))) fun r2 =>
  bif (!r2) then
    some []
  else
    bif ((a1.length : Int) != (a0.2.length : Int)) then
      some []
    else
      bif mkB 1 (a0.2.length : Int) (a0.2.length : Int) then
      clearance_Sources_L1 N N a1 a0.1 a0.2 [a2] (List.replicate (a0.2.length : Int).toNat false)
      else none
theorem clearance_Sources_fn : FnOK Try.prog 19 70 (fun t : Nat => Nat.beq t 31) clearance_Sources_C4.er [(.t 6)] := FnOK.mk' Try.func19 (by kernel_rfl) (by kernel_rfl) (by kernel_rfl) (by kernel_rfl) (by kernel_rfl)
theorem clearance_Sources_envok (N : Nat) : EnvOK Try.prog (clearance_Sources_E N) := .cons (pureE_ok (lists_In_pure N)) (.cons (pureE_ok (clearance_feeds_pure N)) (.cons (sfE_ok (lists_Where_S1_sf N)) (.nil)))
theorem clearance_Sources_pure (N : Nat) : PureOK Try.prog 19 [G_Mine, (.list G_Span), (.int .i64)] [(.list (.int .i64))] (fun x => clearance_Sources N x.1 x.2.1 x.2.2) := pureOK (N := N) mixed clearance_Sources_fn (clearance_Sources_envok N) rfl (fun x => by kernel_rfl)
/-! clearance_of -/
def clearance_of_N1 : List NS := [.ownc 5 2 (.list (.int .i64)), .ownc 5 3 (.int .i64), .wk 1 (.list G_Span), .wk 12 (.list G_Road), .keep [1, 2, 4, 5, 12, 13, 14], .cmp]
def clearance_of_C15 : TC := (.cond (.t 33) (.rg [⟨⟨some 8, (.mov (.c (I 0))), none⟩, {}⟩] none) .skip)
def clearance_of_C16 : TC := (.rg [⟨⟨some 34, (.fadr 2 (.t 5)), none⟩, {}⟩, ⟨⟨some 35, (.load false 1 (.t 34)), none⟩, {}⟩, ⟨⟨some 36, (.load true 2 (.t 2)), none⟩, {}⟩, ⟨⟨some 37, (.mov (.t 1)), none⟩, {}⟩, ⟨⟨some 38, (.mov (.t 6)), none⟩, {}⟩, ⟨⟨some 39, (.call (.c (.fn 19 [])) [(.t 36), (.t 37), (.t 38)]), none⟩, {}⟩, ⟨⟨some
  40, (.bslice false 1 [(.lst true [])] 1 [(0, (.t 39))]), none⟩, ⟨(.list (.int .i64)), none⟩⟩, ⟨⟨some 41, (.app 1 24 (.t 35) (.t 40)), none⟩, {}⟩, ⟨⟨some 42, (.fadr 3 (.t 5)), none⟩, {}⟩, ⟨⟨some 43, (.load false 1 (.t 42)), none⟩, {}⟩, ⟨⟨some 44, (.mov (.t 8)), none⟩, {}⟩, ⟨⟨some 45, (.bslice false
  1 [(I 0)] 1 [(0, (.t 44))]), none⟩, ⟨(.int .i64), none⟩⟩, ⟨⟨some 46, (.app 1 8 (.t 43) (.t 45)), none⟩, {}⟩, ⟨⟨some 47, (.fadr 2 (.t 5)), none⟩, {}⟩, ⟨⟨none, (.store 1 (.t 47) (.t 41)), none⟩, {}⟩, ⟨⟨some 48, (.fadr 3 (.t 5)), none⟩, {}⟩, ⟨⟨none, (.store 1 (.t 48) (.t 46)), none⟩, {}⟩] (some [(0,
  5), (1, 5), (5, 8), (7, 8), (5, 9), (7, 9), (12, 13)]))
def clearance_of_C14 : TC := (.seq (.seq (.rg [⟨⟨some 32, (.fadr 5 (.t 7)), none⟩, {}⟩, ⟨⟨some 33, (.load false 1 (.t 32)), none⟩, {}⟩] none) clearance_of_C15) clearance_of_C16)
def clearance_of_C10 : TC := (.seq (.rg [⟨⟨some 19, (.mov (.t 1)), none⟩, {}⟩, ⟨⟨some 20, (.mov (.t 6)), none⟩, {}⟩, ⟨⟨some 21, (.iadrS 2 (.t 19) (.t 20)), none⟩, {}⟩, ⟨⟨some 22, (.fadr 0 (.t 21)), none⟩, {}⟩, ⟨⟨some 23, (.load false 1 (.t 22)), none⟩, {}⟩, ⟨⟨some 24, (.mov (.t 1)), none⟩, {}⟩, ⟨⟨some 25, (.mov (.t 6)), none⟩,
  {}⟩, ⟨⟨some 26, (.iadrS 2 (.t 24) (.t 25)), none⟩, {}⟩, ⟨⟨some 27, (.fadr 1 (.t 26)), none⟩, {}⟩, ⟨⟨some 28, (.load false 1 (.t 27)), none⟩, {}⟩, ⟨⟨some 29, (.un .neg (.t 28)), none⟩, {}⟩, ⟨⟨some 30, (.mm true [(.c (I 0)), (.t 23), (.t 29)]), none⟩, {}⟩, ⟨⟨some 31, (.mm false [(.t 30), (.c (I
  1048576))]), none⟩, {}⟩, ⟨⟨some 8, (.mov (.t 31)), none⟩, {}⟩] (some [])) clearance_of_C14)
def clearance_of_C11 : TC := (.rg [⟨⟨some 49, (.bin .add (.t 14) (.c (I 1))), none⟩, {}⟩, ⟨⟨some 14, (.mov (.t 49)), none⟩, {}⟩] none)
def clearance_of_C7 : TC := (.seq (.block 1 (.seq (.rg [⟨⟨some 16, (.mov (.t 14)), none⟩, {}⟩, ⟨⟨some 17, (.iadrS 10 (.t 12) (.t 14)), none⟩, {}⟩, ⟨⟨some 18, (.load true 10 (.t 17)), none⟩, {}⟩, ⟨⟨some 7, (.alloc [(I 0), (I 0), (I 0), (I 0), (B false), (B false), (I 0), (I 0), (I 0), (I 0)]), none⟩, {}⟩, ⟨⟨some 6, (.mov (.t
  16)), none⟩, {}⟩, ⟨⟨none, (.store 10 (.t 7) (.t 18)), none⟩, {}⟩] none) clearance_of_C10)) clearance_of_C11)
def clearance_of_C4 : TC := (.seq (.cond (.t 15) .skip (.exit 0)) clearance_of_C7)
def clearance_of_C1 : TC := (.seq (.rg [⟨⟨some 15, (.bin .lss (.t 14) (.t 13)), none⟩, {}⟩] none) clearance_of_C4)
def clearance_of_C12 : TC := .ret
def clearance_of_C8 : TC := (.pre [.frzb 4] clearance_of_C12)
def clearance_of_C5 : TC := (.seq (.rg [⟨⟨some 50, (.load true 4 (.t 5)), none⟩, {}⟩, ⟨⟨none, (.store 4 (.t 4) (.t 50)), none⟩, {}⟩] none) clearance_of_C8)
def clearance_of_C2 : TC := (.pre [.frzb 5] clearance_of_C5)
def clearance_of_C13 : TC := (.block 0 (.loop clearance_of_N1 clearance_of_C1))
def clearance_of_C9 : TC := (.seq (.seq (.rg [⟨⟨some 11, (.fadr 1 (.t 2)), none⟩, {}⟩, ⟨⟨some 12, (.load false 1 (.t 11)), none⟩, {}⟩, ⟨⟨some 13, (.len (.t 12)), none⟩, {}⟩, ⟨⟨some 14, (.mov (.c (I 0))), none⟩, {}⟩] none) clearance_of_C13) clearance_of_C2)
def clearance_of_C6 : TC := (.seq (.rg [⟨⟨some 9, (.load true 2 (.t 2)), none⟩, {}⟩, ⟨⟨some 10, (.build [(.lst true []), (.lst true []), (.lst true []), (.lst true [])] [(0, (2, (.t 9)))]), none⟩, {}⟩, ⟨⟨some 5, (.alloc [(.lst true []), (.lst true []), (.lst true []), (.lst true [])]), none⟩, {}⟩, ⟨⟨none, (.store 4 (.t 5) (.t
  10)), none⟩, {}⟩] none) clearance_of_C9)
def clearance_of_C3 : TC := (.seq (.rg [⟨⟨some 2, (.box (.t 0)), none⟩, {}⟩, ⟨⟨some 4, (.alloc [(.lst true []), (.lst true []), (.lst true []), (.lst true [])]), none⟩, {}⟩] none) clearance_of_C6)
def clearance_of_E (N : Nat) : List (Nat × Ent) := [(19, pureE [G_Mine, (.list G_Span), (.int .i64)] [(.list (.int .i64))] (fun x => clearance_Sources N x.1 x.2.1 x.2.2))]
def clearance_of_L1 (N : Nat) (n : Nat) (x1 : List T_Span) (x2 : List T_Road) (x3 : Int) (x4 : Int) (x5 : List T_Place) (x6 : List T_Road) (x7 : List T_Place) (x8 : List T_Road) (x9 : List (List Int)) (x10 : List Int) : Option T_air := loopN (normI 0 clearance_of_N1) (run (clearance_of_E N) N 0 clearance_of_C1) n ⟨[(1, .lst false G_Span x1), (2, .ptr 0 0 0), (4, .ptr 1 0 0), (5, .ptr 2 0 0), (12, .lst false G_Road x2), (13, .int .i64 x3), (14, .int .i64 x4)], [some (.box 0 [.lst false G_Place x5, .lst false G_Road x6]), some (.box 0 [.nil, .nil, .nil, .nil]), some (.box 0 [.lst false G_Place x7, .lst false G_Road x8, .whole 3, .whole 4]), some (.arr (.list (.int .i64)) x9), some (.arr (.int .i64) x10)]⟩ (blkK 0 (seqK (run (clearance_of_E N) N 0 clearance_of_C2) (fin [(.cell 4 true 4)] [G_air])))
theorem clearance_of_L1_zero (N : Nat) (x1 : List T_Span) (x2 : List T_Road) (x3 : Int) (x4 : Int) (x5 : List T_Place) (x6 : List T_Road) (x7 : List T_Place) (x8 : List T_Road) (x9 : List (List Int)) (x10 : List Int) : clearance_of_L1 N 0 x1 x2 x3 x4 x5 x6 x7 x8 x9 x10 = none := rfl
theorem clearance_of_L1_succ (N : Nat) (n1 : Nat) (x1 : List T_Span) (x2 : List T_Road) (x3 : Int) (x4 : Int) (x5 : List T_Place) (x6 : List T_Road) (x7 : List T_Place) (x8 : List T_Road) (x9 : List (List Int)) (x10 : List Int) : clearance_of_L1 N (n1 + 1) x1 x2 x3 x4 x5 x6 x7 x8 x9 x10 =
  bif (decide (x4 < x3)) then
    bif inB x4 x2.length then
    bif inB x4 x1.length then
    bif inB x4 x1.length then
    bif (x2.getD x4.toNat D_Road).2.2.2.2.2.1 then
      Option.bind (clearance_Sources N (x5, x6) x1 x4) fun r15 =>
      bif fitsB (x9.length + 1) 24 then
      bif fitsB (x10.length + 1) 8 then
      clearance_of_L1 N n1 x1 x2 x3 (W (x4 + 1)) x5 x6 x7 x8 (x9 ++ [r15]) (x10 ++ [0])
      else none
      else none
    else
      Option.bind (clearance_Sources N (x5, x6) x1 x4) fun r28 =>
      bif fitsB (x9.length + 1) 24 then
      bif fitsB (x10.length + 1) 8 then
      clearance_of_L1 N n1 x1 x2 x3 (W (x4 + 1)) x5 x6 x7 x8 (x9 ++ [r28]) (x10 ++ [min (max (max 0 (x1.getD x4.toNat D_Span).1) (W (0 - (x1.getD x4.toNat D_Span).2))) 1048576])
      else none
      else none
    else none
    else none
    else none
  else
    some ((x7, x8), (x9, x10)) := by kernel_rfl
def clearance_of (N : Nat) (a0 : T_Mine) (a1 : List T_Span) : Option T_air :=
  clearance_of_L1 N N a1 a0.2 (a0.2.length : Int) 0 a0.1 a0.2 a0.1 a0.2 [] []
theorem clearance_of_fn : FnOK Try.prog 32 51 (fun _ : Nat => false) clearance_of_C3.er [(.cell 4 true 4)] := FnOK.mk' Try.func32 (by kernel_rfl) (by kernel_rfl) (by kernel_rfl) (by kernel_rfl) (by kernel_rfl)
theorem clearance_of_envok (N : Nat) : EnvOK Try.prog (clearance_of_E N) := .cons (pureE_ok (clearance_Sources_pure N)) (.nil)
theorem clearance_of_pure (N : Nat) : PureOK Try.prog 32 [G_Mine, (.list G_Span)] [G_air] (fun x => clearance_of N x.1 x.2) := pureOK (N := N) mixed clearance_of_fn (clearance_of_envok N) rfl (fun x => by kernel_rfl)
/-! clearance_air_after -/
def clearance_air_after_N1 : List NS := [.wk 1 (.list (.int .i64)), .wk 7 (.list (.int .i64)), .wk 18 (.list (.int .i64)), .keep [1, 2, 3, 7, 18, 19, 20], .cmp]
def clearance_air_after_N2 : List NS := [.wk 1 (.list (.int .i64)), .wk 7 (.list (.int .i64)), .wk 18 (.list (.int .i64)), .wk 29 (.list (.int .i64)), .keep [1, 2, 3, 7, 8, 9, 10, 18, 19, 20, 29, 30, 31], .cmp]
def clearance_air_after_C17 : TC := (.rg [⟨⟨some 35, (.mov (.t 10)), none⟩, {}⟩, ⟨⟨some 36, (.mov (.t 1)), none⟩, {}⟩, ⟨⟨some 37, (.mov (.t 12)), none⟩, {}⟩, ⟨⟨some 38, (.iadrS 1 (.t 36) (.t 37)), none⟩, {}⟩, ⟨⟨some 39, (.load false 1 (.t 38)), none⟩, {}⟩, ⟨⟨some 40, (.mm true [(.t 35), (.t 39)]), none⟩, {}⟩, ⟨⟨some 10, (.mov (.t 40)),
  none⟩, {}⟩] none)
def clearance_air_after_C18 : TC := (.rg [⟨⟨some 41, (.bin .add (.t 31) (.c (I 1))), none⟩, {}⟩, ⟨⟨some 31, (.mov (.t 41)), none⟩, {}⟩] none)
def clearance_air_after_C12 : TC := (.seq (.block 3 (.seq (.rg [⟨⟨some 33, (.iadrS 1 (.t 29) (.t 31)), none⟩, {}⟩, ⟨⟨some 34, (.load false 1 (.t 33)), none⟩, {}⟩, ⟨⟨some 12, (.mov (.t 34)), none⟩, {}⟩] none) clearance_air_after_C17)) clearance_air_after_C18)
def clearance_air_after_C7 : TC := (.seq (.cond (.t 32) .skip (.exit 2)) clearance_air_after_C12)
def clearance_air_after_C1 : TC := (.seq (.rg [⟨⟨some 32, (.bin .lss (.t 31) (.t 30)), none⟩, {}⟩] none) clearance_air_after_C7)
def clearance_air_after_C22 : TC := (.rg [⟨⟨some 74, (.mov (.t 7)), none⟩, {}⟩, ⟨⟨some 75, (.mov (.t 8)), none⟩, {}⟩, ⟨⟨some 76, (.iadrS 1 (.t 74) (.t 75)), none⟩, {}⟩, ⟨⟨some 77, (.load false 1 (.t 76)), none⟩, {}⟩, ⟨⟨some 78, (.mov (.t 9)), none⟩, {}⟩, ⟨⟨some 79, (.mov (.t 10)), none⟩, {}⟩, ⟨⟨some 80, (.bin .sub (.t 78) (.t 79)),
  none⟩, {}⟩, ⟨⟨some 81, (.mov (.t 13)), none⟩, {}⟩, ⟨⟨some 82, (.bin .mul (.t 80) (.t 81)), none⟩, {}⟩, ⟨⟨some 83, (.mov (.t 14)), none⟩, {}⟩, ⟨⟨some 84, (.bin .add (.t 82) (.t 83)), none⟩, {}⟩, ⟨⟨some 85, (.bin .sub (.t 84) (.c (I 1))), none⟩, {}⟩, ⟨⟨some 86, (.mov (.t 14)), none⟩, {}⟩, ⟨⟨some 87,
  (.bin .quo (.t 85) (.t 86)), none⟩, {}⟩, ⟨⟨some 88, (.bin .add (.t 77) (.t 87)), none⟩, {}⟩, ⟨⟨some 89, (.iadrS 1 (.t 74) (.t 75)), none⟩, {}⟩, ⟨⟨none, (.store 1 (.t 89) (.t 88)), none⟩, {}⟩] (some []))
def clearance_air_after_C19 : TC := (.cond (.t 64) (.seq (.rg [⟨⟨some 65, (.mov (.t 13)), none⟩, {}⟩, ⟨⟨some 66, (.fadr 3 (.t 3)), none⟩, {}⟩, ⟨⟨some 67, (.load false 1 (.t 66)), none⟩, {}⟩, ⟨⟨some 68, (.mov (.t 8)), none⟩, {}⟩, ⟨⟨some 69, (.iadrS 1 (.t 67) (.t 68)), none⟩, {}⟩, ⟨⟨some 70, (.load false 1 (.t 69)), none⟩, {}⟩, ⟨⟨some
  71, (.mov (.t 2)), none⟩, {}⟩, ⟨⟨some 72, (.bin .mul (.t 70) (.t 71)), none⟩, {}⟩, ⟨⟨some 73, (.bin .add (.t 65) (.t 72)), none⟩, {}⟩, ⟨⟨some 14, (.mov (.t 73)), none⟩, {}⟩] none) clearance_air_after_C22) .skip)
def clearance_air_after_C13 : TC := (.seq (.rg [⟨⟨some 62, (.mov (.t 9)), none⟩, {}⟩, ⟨⟨some 63, (.mov (.t 10)), none⟩, {}⟩, ⟨⟨some 64, (.bin .gtr (.t 62) (.t 63)), none⟩, {}⟩] none) clearance_air_after_C19)
def clearance_air_after_C8 : TC := (.seq (.rg [⟨⟨some 58, (.mov (.t 7)), none⟩, {}⟩, ⟨⟨some 59, (.mov (.t 8)), none⟩, {}⟩, ⟨⟨some 60, (.mov (.t 10)), none⟩, {}⟩, ⟨⟨some 61, (.iadrS 1 (.t 58) (.t 59)), none⟩, {}⟩, ⟨⟨none, (.store 1 (.t 61) (.t 60)), none⟩, {}⟩] none) clearance_air_after_C13)
def clearance_air_after_C2 : TC := (.seq (.rg [⟨⟨some 42, (.fadr 0 (.t 3)), none⟩, {}⟩, ⟨⟨some 43, (.fadr 1 (.t 42)), none⟩, {}⟩, ⟨⟨some 44, (.load false 1 (.t 43)), none⟩, {}⟩, ⟨⟨some 45, (.mov (.t 8)), none⟩, {}⟩, ⟨⟨some 46, (.iadrS 10 (.t 44) (.t 45)), none⟩, {}⟩, ⟨⟨some 47, (.fadr 2 (.t 46)), none⟩, {}⟩, ⟨⟨some 48, (.load false 1
  (.t 47)), none⟩, {}⟩, ⟨⟨some 49, (.fadr 0 (.t 3)), none⟩, {}⟩, ⟨⟨some 50, (.fadr 1 (.t 49)), none⟩, {}⟩, ⟨⟨some 51, (.load false 1 (.t 50)), none⟩, {}⟩, ⟨⟨some 52, (.mov (.t 8)), none⟩, {}⟩, ⟨⟨some 53, (.iadrS 10 (.t 51) (.t 52)), none⟩, {}⟩, ⟨⟨some 54, (.fadr 3 (.t 53)), none⟩, {}⟩, ⟨⟨some 55,
  (.load false 1 (.t 54)), none⟩, {}⟩, ⟨⟨some 56, (.bin .mul (.t 48) (.t 55)), none⟩, {}⟩, ⟨⟨some 57, (.bin .mul (.t 56) (.c (I 1000))), none⟩, {}⟩, ⟨⟨some 13, (.mov (.t 57)), none⟩, {}⟩] (some [])) clearance_air_after_C8)
def clearance_air_after_C3 : TC := (.rg [⟨⟨some 90, (.bin .add (.t 20) (.c (I 1))), none⟩, {}⟩, ⟨⟨some 20, (.mov (.t 90)), none⟩, {}⟩] none)
def clearance_air_after_C24 : TC := (.block 2 (.loop clearance_air_after_N2 clearance_air_after_C1))
def clearance_air_after_C23 : TC := (.seq (.seq (.rg [⟨⟨some 25, (.fadr 2 (.t 3)), none⟩, {}⟩, ⟨⟨some 26, (.load false 1 (.t 25)), none⟩, {}⟩, ⟨⟨some 27, (.mov (.t 8)), none⟩, {}⟩, ⟨⟨some 28, (.iadrS 1 (.t 26) (.t 27)), none⟩, {}⟩, ⟨⟨some 29, (.load false 1 (.t 28)), none⟩, {}⟩, ⟨⟨some 30, (.len (.t 29)), none⟩, {}⟩, ⟨⟨some 31, (.mov
  (.c (I 0))), none⟩, {}⟩] none) clearance_air_after_C24) clearance_air_after_C2)
def clearance_air_after_C20 : TC := (.seq (.rg [⟨⟨some 10, (.mov (.c (I 0))), none⟩, {}⟩] none) clearance_air_after_C23)
def clearance_air_after_C14 : TC := (.seq (.block 1 (.seq (.rg [⟨⟨some 22, (.mov (.t 20)), none⟩, {}⟩, ⟨⟨some 23, (.iadrS 1 (.t 18) (.t 20)), none⟩, {}⟩, ⟨⟨some 24, (.load false 1 (.t 23)), none⟩, {}⟩, ⟨⟨some 8, (.mov (.t 22)), none⟩, {}⟩, ⟨⟨some 9, (.mov (.t 24)), none⟩, {}⟩] none) clearance_air_after_C20)) clearance_air_after_C3)
def clearance_air_after_C9 : TC := (.seq (.cond (.t 21) .skip (.exit 0)) clearance_air_after_C14)
def clearance_air_after_C4 : TC := (.seq (.rg [⟨⟨some 21, (.bin .lss (.t 20) (.t 19)), none⟩, {}⟩] none) clearance_air_after_C9)
def clearance_air_after_C15 : TC := .ret
def clearance_air_after_C10 : TC := (.pre [.frz 6] clearance_air_after_C15)
def clearance_air_after_C5 : TC := (.seq (.rg [⟨⟨some 91, (.mov (.t 7)), none⟩, {}⟩, ⟨⟨some 6, (.mov (.t 91)), none⟩, {}⟩] none) clearance_air_after_C10)
def clearance_air_after_C21 : TC := (.block 0 (.loop clearance_air_after_N1 clearance_air_after_C4))
def clearance_air_after_C16 : TC := (.seq (.seq (.rg [⟨⟨some 18, (.mov (.t 1)), none⟩, {}⟩, ⟨⟨some 19, (.len (.t 18)), none⟩, {}⟩, ⟨⟨some 20, (.mov (.c (I 0))), none⟩, {}⟩] none) clearance_air_after_C21) clearance_air_after_C5)
def clearance_air_after_C11 : TC := (.seq (.rg [⟨⟨some 15, (.mov (.t 1)), none⟩, {}⟩, ⟨⟨some 16, (.len (.t 15)), none⟩, {}⟩, ⟨⟨some 17, (.mksl 1 8 [(I 0)] (.t 16) (.t 16)), none⟩, ⟨(.int .i64), none⟩⟩, ⟨⟨some 7, (.mov (.t 17)), none⟩, {}⟩] none) clearance_air_after_C16)
def clearance_air_after_C6 : TC := (.seq (.rg [⟨⟨some 3, (.box (.t 0)), none⟩, {}⟩, ⟨⟨some 6, (.mov (.c (.lst true []))), none⟩, {}⟩] none) clearance_air_after_C11)
def clearance_air_after_E (N : Nat) : List (Nat × Ent) := []
def clearance_air_after_L2 (N n1 : Nat) (n : Nat) (x12 : List Int) (x13 : Int) (x14 : Int) (x15 : Int) (x16 : Int) (x17 : List Int) (x18 : Int) (x19 : Int) (x20 : List Int) (x21 : Int) (x22 : Int) (x23 : List T_Place) (x24 : List T_Road) (x25 : List (List Int)) (x26 : List Int) (x27 : List Int) : Option (List Int) := loopN (normI 0 clearance_air_after_N2) (run (clearance_air_after_E N) N 0 clearance_air_after_C1) n ⟨[(1, .lst false (.int .i64) x12), (2, .int .i64 x13), (3, .ptr 0 0 0), (7, .whole 1), (8, .int .i64 x14), (9, .int .i64 x15), (10, .int .i64 x16), (18, .lst false (.int .i64) x17), (19, .int .i64 x18), (20, .int .i64 x19), (29, .lst false (.int .i64) x20), (30, .int .i64 x21), (31, .int .i64 x22)], [some (.box 0 [.lst false G_Place x23, .lst false G_Road x24, .lst false (.list (.int .i64)) x25, .lst false (.int .i64) x26]), some (.arr (.int .i64) x27)]⟩ (blkK 2 (seqK (run (clearance_air_after_E N) N 0 clearance_air_after_C2) (blkK 1 (seqK (run (clearance_air_after_E N) N 0 clearance_air_after_C3) (seqK (nextL (normI 0 clearance_air_after_N1) (loopN (normI 0 clearance_air_after_N1) (run (clearance_air_after_E N) N 0 clearance_air_after_C4) n1)) (blkK 0 (seqK (run (clearance_air_after_E N) N 0 clearance_air_after_C5) (fin [(.t 6)] [(.list (.int .i64))]))))))))
def clearance_air_after_L1 (N : Nat) (n : Nat) (x2 : List Int) (x3 : Int) (x4 : List Int) (x5 : Int) (x6 : Int) (x7 : List T_Place) (x8 : List T_Road) (x9 : List (List Int)) (x10 : List Int) (x11 : List Int) : Option (List Int) := loopN (normI 0 clearance_air_after_N1) (run (clearance_air_after_E N) N 0 clearance_air_after_C4) n ⟨[(1, .lst false (.int .i64) x2), (2, .int .i64 x3), (3, .ptr 0 0 0), (7, .whole 1), (18, .lst false (.int .i64) x4), (19, .int .i64 x5), (20, .int .i64 x6)], [some (.box 0 [.lst false G_Place x7, .lst false G_Road x8, .lst false (.list (.int .i64)) x9, .lst false (.int .i64) x10]), some (.arr (.int .i64) x11)]⟩ (blkK 0 (seqK (run (clearance_air_after_E N) N 0 clearance_air_after_C5) (fin [(.t 6)] [(.list (.int .i64))])))
theorem clearance_air_after_L2_zero (N n1 : Nat) (x12 : List Int) (x13 : Int) (x14 : Int) (x15 : Int) (x16 : Int) (x17 : List Int) (x18 : Int) (x19 : Int) (x20 : List Int) (x21 : Int) (x22 : Int) (x23 : List T_Place) (x24 : List T_Road) (x25 : List (List Int)) (x26 : List Int) (x27 : List Int) : clearance_air_after_L2 N n1 0 x12 x13 x14 x15 x16 x17 x18 x19 x20 x21 x22 x23 x24 x25 x26 x27 = none := rfl
theorem clearance_air_after_L2_succ (N n1 : Nat) (n2 : Nat) (x12 : List Int) (x13 : Int) (x14 : Int) (x15 : Int) (x16 : Int) (x17 : List Int) (x18 : Int) (x19 : Int) (x20 : List Int) (x21 : Int) (x22 : Int) (x23 : List T_Place) (x24 : List T_Road) (x25 : List (List Int)) (x26 : List Int) (x27 : List Int) : clearance_air_after_L2 N n1 (n2 + 1) x12 x13 x14 x15 x16 x17 x18 x19 x20 x21 x22 x23 x24 x25 x26 x27 =
  bif (decide (x22 < x21)) then
    bif inB x22 x20.length then
    bif inB (x20.getD x22.toNat 0) x12.length then
    clearance_air_after_L2 N n1 n2 x12 x13 x14 x15 (max x16 (x12.getD (x20.getD x22.toNat 0).toNat 0)) x17 x18 x19 x20 x21 (W (x22 + 1)) x23 x24 x25 x26 x27
    else none
    else none
  else
    bif inB x14 x24.length then
    bif inB x14 x24.length then
    let v47 := W ((x24.getD x14.toNat D_Road).2.2.1 * (x24.getD x14.toNat D_Road).2.2.2.1)
    bif inB x14 x27.length then
    bif (decide (x15 > x16)) then
      bif inB x14 x26.length then
      let v50 := W ((W (v47 * 1000)) + (W ((x26.getD x14.toNat 0) * x13)))
      bif inB x14 (x27.set x14.toNat x16).length then
      bif v50 == 0 then none else
      bif inB x14 (x27.set x14.toNat x16).length then
      clearance_air_after_L1 N n1 x12 x13 x17 x18 (W (x19 + 1)) x23 x24 x25 x26 ((x27.set x14.toNat x16).set x14.toNat (W (((x27.set x14.toNat x16).getD x14.toNat 0) + (W ((W ((W ((W ((W (x15 - x16)) * (W (v47 * 1000)))) + v50)) - 1)).tdiv v50)))))
      else none
      else none
      else none
    else
      clearance_air_after_L1 N n1 x12 x13 x17 x18 (W (x19 + 1)) x23 x24 x25 x26 (x27.set x14.toNat x16)
    else none
    else none
    else none := by kernel_rfl
theorem clearance_air_after_L1_zero (N : Nat) (x2 : List Int) (x3 : Int) (x4 : List Int) (x5 : Int) (x6 : Int) (x7 : List T_Place) (x8 : List T_Road) (x9 : List (List Int)) (x10 : List Int) (x11 : List Int) : clearance_air_after_L1 N 0 x2 x3 x4 x5 x6 x7 x8 x9 x10 x11 = none := rfl
theorem clearance_air_after_L1_succ (N : Nat) (n1 : Nat) (x2 : List Int) (x3 : Int) (x4 : List Int) (x5 : Int) (x6 : Int) (x7 : List T_Place) (x8 : List T_Road) (x9 : List (List Int)) (x10 : List Int) (x11 : List Int) : clearance_air_after_L1 N (n1 + 1) x2 x3 x4 x5 x6 x7 x8 x9 x10 x11 =
  bif (decide (x6 < x5)) then
    bif inB x6 x4.length then
    bif inB x6 x9.length then
    clearance_air_after_L2 N n1 N x2 x3 x6 (x4.getD x6.toNat 0) 0 x4 x5 x6 (x9.getD x6.toNat []) ((x9.getD x6.toNat []).length : Int) 0 x7 x8 x9 x10 x11
    else none
    else none
  else
    some x11 := by kernel_rfl
def clearance_air_after (N : Nat) (a0 : T_air) (a1 : List Int) (a2 : Int) : Option (List Int) :=
  bif mkB 8 (a1.length : Int) (a1.length : Int) then
  clearance_air_after_L1 N N a1 a2 a1 (a1.length : Int) 0 a0.1.1 a0.1.2 a0.2.1 a0.2.2 (List.replicate (a1.length : Int).toNat 0)
  else none
theorem clearance_air_after_fn : FnOK Try.prog 33 92 (fun _ : Nat => false) clearance_air_after_C6.er [(.t 6)] := FnOK.mk' Try.func33 (by kernel_rfl) (by kernel_rfl) (by kernel_rfl) (by kernel_rfl) (by kernel_rfl)
theorem clearance_air_after_envok (N : Nat) : EnvOK Try.prog (clearance_air_after_E N) := .nil
theorem clearance_air_after_pure (N : Nat) : PureOK Try.prog 33 [G_air, (.list (.int .i64)), (.int .i64)] [(.list (.int .i64))] (fun x => clearance_air_after N x.1 x.2.1 x.2.2) := pureOK (N := N) mixed clearance_air_after_fn (clearance_air_after_envok N) rfl (fun x => by kernel_rfl)
/-! clearance_Step -/
def clearance_Step_C8 : TC := .ret
def clearance_Step_C5 : TC := (.pre [.frzb 8] clearance_Step_C8)
def clearance_Step_C11 : TC := .ret
def clearance_Step_C9 : TC := (.pre [.frzb 8] clearance_Step_C11)
def clearance_Step_C6 : TC := (.cond (.t 17) (.seq (.rg [⟨⟨some 26, (.load true 2 (.t 6)), none⟩, {}⟩, ⟨⟨none, (.store 2 (.t 8) (.t 26)), none⟩, {}⟩, ⟨⟨some 9, (.mov (.c (I 8))), none⟩, {}⟩] none) clearance_Step_C9) .skip)
def clearance_Step_C3 : TC := (.cond (.t 10) (.seq (.rg [⟨⟨some 16, (.load true 2 (.t 6)), none⟩, {}⟩, ⟨⟨none, (.store 2 (.t 8) (.t 16)), none⟩, {}⟩, ⟨⟨some 9, (.mov (.c (I 6))), none⟩, {}⟩] none) clearance_Step_C5) (.seq (.rg [⟨⟨some 18, (.mov (.t 3)), none⟩, {}⟩, ⟨⟨some 19, (.fadr 0 (.t 6)), none⟩, {}⟩, ⟨⟨some 20, (.load false
  1 (.t 19)), none⟩, {}⟩, ⟨⟨some 21, (.bin .lss (.t 18) (.t 20)), none⟩, {}⟩, ⟨⟨some 22, (.mov (.t 21)), none⟩, {}⟩, ⟨⟨some 23, (.mov (.t 3)), some (22, false)⟩, {}⟩, ⟨⟨some 24, (.bin .gtr (.t 23) (.c (I 2147483648))), some (22, false)⟩, {}⟩, ⟨⟨some 25, (.pick (.t 22) (.c (B true)) (.t 24)), none⟩,
  {}⟩, ⟨⟨some 17, (.mov (.t 25)), none⟩, {}⟩] none) clearance_Step_C6))
def clearance_Step_C10 : TC := .ret
def clearance_Step_C7 : TC := (.pre [.frzb 8] clearance_Step_C10)
def clearance_Step_C4 : TC := (.seq (.rg [⟨⟨some 27, (.mov (.t 3)), none⟩, {}⟩, ⟨⟨some 28, (.load true 2 (.t 4)), none⟩, {}⟩, ⟨⟨some 29, (.mov (.t 1)), none⟩, {}⟩, ⟨⟨some 30, (.call (.c (.fn 32 [])) [(.t 28), (.t 29)]), none⟩, {}⟩, ⟨⟨some 31, (.fadr 1 (.t 6)), none⟩, {}⟩, ⟨⟨some 32, (.load false 1 (.t 31)), none⟩, {}⟩, ⟨⟨some 33,
  (.mov (.t 3)), none⟩, {}⟩, ⟨⟨some 34, (.fadr 0 (.t 6)), none⟩, {}⟩, ⟨⟨some 35, (.load false 1 (.t 34)), none⟩, {}⟩, ⟨⟨some 36, (.bin .sub (.t 33) (.t 35)), none⟩, {}⟩, ⟨⟨some 37, (.call (.c (.fn 33 [])) [(.t 30), (.t 32), (.t 36)]), none⟩, {}⟩, ⟨⟨some 38, (.build [(I 0), (.lst true [])] [(0, (1,
  (.t 27))), (1, (1, (.t 37)))]), none⟩, {}⟩, ⟨⟨none, (.store 2 (.t 8) (.t 38)), none⟩, {}⟩, ⟨⟨some 9, (.mov (.c (I 0))), none⟩, {}⟩] (some [(3, 4), (3, 5), (3, 7), (3, 8)])) clearance_Step_C7)
def clearance_Step_C2 : TC := (.seq (.block 0 (.seq (.rg [⟨⟨some 11, (.load true 2 (.t 4)), none⟩, {}⟩, ⟨⟨some 12, (.mov (.t 1)), none⟩, {}⟩, ⟨⟨some 13, (.load true 2 (.t 6)), none⟩, {}⟩, ⟨⟨some 14, (.call (.c (.fn 31 [])) [(.t 11), (.t 12), (.t 13)]), none⟩, {}⟩, ⟨⟨some 15, (.un .not (.t 14)), none⟩, {}⟩, ⟨⟨some 10, (.mov (.t
  15)), none⟩, {}⟩] none) clearance_Step_C3)) clearance_Step_C4)
def clearance_Step_C1 : TC := (.seq (.rg [⟨⟨some 4, (.box (.t 0)), none⟩, {}⟩, ⟨⟨some 6, (.box (.t 2)), none⟩, {}⟩, ⟨⟨some 8, (.alloc [(I 0), (.lst true [])]), none⟩, {}⟩, ⟨⟨some 9, (.mov (.c (I 0))), none⟩, {}⟩] none) clearance_Step_C2)
def clearance_Step_E (N : Nat) : List (Nat × Ent) := [(31, pureE [G_Mine, (.list G_Span), G_Fumes] [.bool] (fun x => clearance_given N x.1 x.2.1 x.2.2)), (32, pureE [G_Mine, (.list G_Span)] [G_air] (fun x => clearance_of N x.1 x.2)), (33, pureE [G_air, (.list (.int .i64)), (.int .i64)] [(.list (.int .i64))] (fun x => clearance_air_after N x.1 x.2.1 x.2.2))]
def clearance_Step (N : Nat) (a0 : T_Mine) (a1 : List T_Span) (a2 : T_Fumes) (a3 : Int) : Option (T_Fumes × Int) :=
  Option.bind (clearance_given N a0 a1 a2) fun r1 =>
  bif (!r1) then
    some (a2, 6)
  else
    bif (decide (a3 < a2.1)) then
      some (a2, 8)
    else
      bif (decide (a3 > 2147483648)) then
        some (a2, 8)
      else
        Option.bind (clearance_of N a0 a1) fun r2 =>
        Option.bind (clearance_air_after N r2 a2.2 (W (a3 - a2.1))) fun r3 =>
        some ((a3, r3), 0)
theorem clearance_Step_fn : FnOK Try.prog 18 39 (fun _ : Nat => false) clearance_Step_C1.er [(.cell 8 true 2), (.t 9)] := FnOK.mk' Try.func18 (by kernel_rfl) (by kernel_rfl) (by kernel_rfl) (by kernel_rfl) (by kernel_rfl)
theorem clearance_Step_envok (N : Nat) : EnvOK Try.prog (clearance_Step_E N) := .cons (pureE_ok (clearance_given_pure N)) (.cons (pureE_ok (clearance_of_pure N)) (.cons (pureE_ok (clearance_air_after_pure N)) (.nil)))
theorem clearance_Step_pure (N : Nat) : PureOK Try.prog 18 [G_Mine, (.list G_Span), G_Fumes, (.int .i64)] [G_Fumes, (.int .i64)] (fun x => clearance_Step N x.1 x.2.1 x.2.2.1 x.2.2.2) := pureOK (N := N) mixed clearance_Step_fn (clearance_Step_envok N) rfl (fun x => by kernel_rfl)
/-! lists_Rising -/
def lists_Rising_N1 : List NS := [.wk 0 (.list (.int .i64)), .wk 9 (.list (.int .i64)), .keep [0, 1, 2, 9, 10, 11], .cmp]
def lists_Rising_C12 : TC := .ret
def lists_Rising_C11 : TC := (.cond (.t 36) (.seq (.rg [⟨⟨some 6, (.mov (.c (B false))), none⟩, {}⟩] none) lists_Rising_C12) .skip)
def lists_Rising_C9 : TC := (.seq (.rg [⟨⟨some 16, (.mov (.t 8)), none⟩, {}⟩, ⟨⟨some 17, (.mov (.t 1)), none⟩, {}⟩, ⟨⟨some 18, (.bin .lss (.t 16) (.t 17)), none⟩, {}⟩, ⟨⟨some 19, (.mov (.t 18)), none⟩, {}⟩, ⟨⟨some 20, (.mov (.t 8)), some (19, false)⟩, {}⟩, ⟨⟨some 21, (.mov (.t 2)), some (19, false)⟩, {}⟩, ⟨⟨some 22, (.bin .gtr
  (.t 20) (.t 21)), some (19, false)⟩, {}⟩, ⟨⟨some 23, (.pick (.t 19) (.c (B true)) (.t 22)), none⟩, {}⟩, ⟨⟨some 24, (.mov (.t 23)), none⟩, {}⟩, ⟨⟨some 25, (.mov (.t 7)), some (24, false)⟩, {}⟩, ⟨⟨some 26, (.bin .gtr (.t 25) (.c (I 0))), some (24, false)⟩, {}⟩, ⟨⟨some 27, (.mov (.t 26)), some (24,
  false)⟩, {}⟩, ⟨⟨some 28, (.mov (.t 8)), some (27, true)⟩, {}⟩, ⟨⟨some 29, (.mov (.t 0)), some (27, true)⟩, {}⟩, ⟨⟨some 30, (.mov (.t 7)), some (27, true)⟩, {}⟩, ⟨⟨some 31, (.bin .sub (.t 30) (.c (I 1))), some (27, true)⟩, {}⟩, ⟨⟨some 32, (.iadrS 1 (.t 29) (.t 31)), some (27, true)⟩, {}⟩, ⟨⟨some 33,
  (.load false 1 (.t 32)), some (27, true)⟩, {}⟩, ⟨⟨some 34, (.bin .leq (.t 28) (.t 33)), some (27, true)⟩, {}⟩, ⟨⟨some 35, (.pick (.t 27) (.t 34) (.c (B false))), some (24, false)⟩, {}⟩, ⟨⟨some 36, (.pick (.t 24) (.c (B true)) (.t 35)), none⟩, {}⟩] none) lists_Rising_C11)
def lists_Rising_C10 : TC := (.rg [⟨⟨some 37, (.bin .add (.t 11) (.c (I 1))), none⟩, {}⟩, ⟨⟨some 11, (.mov (.t 37)), none⟩, {}⟩] none)
def lists_Rising_C7 : TC := (.seq (.block 1 (.seq (.rg [⟨⟨some 13, (.mov (.t 11)), none⟩, {}⟩, ⟨⟨some 14, (.iadrS 1 (.t 9) (.t 11)), none⟩, {}⟩, ⟨⟨some 15, (.load false 1 (.t 14)), none⟩, {}⟩, ⟨⟨some 7, (.mov (.t 13)), none⟩, {}⟩, ⟨⟨some 8, (.mov (.t 15)), none⟩, {}⟩] none) lists_Rising_C9)) lists_Rising_C10)
def lists_Rising_C4 : TC := (.seq (.cond (.t 12) .skip (.exit 0)) lists_Rising_C7)
def lists_Rising_C1 : TC := (.seq (.rg [⟨⟨some 12, (.bin .lss (.t 11) (.t 10)), none⟩, {}⟩] none) lists_Rising_C4)
def lists_Rising_C5 : TC := .ret
def lists_Rising_C2 : TC := (.seq (.rg [⟨⟨some 6, (.mov (.c (B true))), none⟩, {}⟩] none) lists_Rising_C5)
def lists_Rising_C8 : TC := (.block 0 (.loop lists_Rising_N1 lists_Rising_C1))
def lists_Rising_C6 : TC := (.seq (.seq (.rg [⟨⟨some 9, (.mov (.t 0)), none⟩, {}⟩, ⟨⟨some 10, (.len (.t 9)), none⟩, {}⟩, ⟨⟨some 11, (.mov (.c (I 0))), none⟩, {}⟩] none) lists_Rising_C8) lists_Rising_C2)
def lists_Rising_C3 : TC := (.seq (.rg [⟨⟨some 6, (.mov (.c (B false))), none⟩, {}⟩] none) lists_Rising_C6)
def lists_Rising_E (N : Nat) : List (Nat × Ent) := []
def lists_Rising_L1 (N : Nat) (n : Nat) (x1 : List Int) (x2 : Int) (x3 : Int) (x4 : List Int) (x5 : Int) (x6 : Int) : Option Bool := loopN (normI 0 lists_Rising_N1) (run (lists_Rising_E N) N 0 lists_Rising_C1) n ⟨[(0, .lst false (.int .i64) x1), (1, .int .i64 x2), (2, .int .i64 x3), (9, .lst false (.int .i64) x4), (10, .int .i64 x5), (11, .int .i64 x6)], []⟩ (blkK 0 (seqK (run (lists_Rising_E N) N 0 lists_Rising_C2) (fin [(.t 6)] [.bool])))
theorem lists_Rising_L1_zero (N : Nat) (x1 : List Int) (x2 : Int) (x3 : Int) (x4 : List Int) (x5 : Int) (x6 : Int) : lists_Rising_L1 N 0 x1 x2 x3 x4 x5 x6 = none := rfl
theorem lists_Rising_L1_succ (N : Nat) (n1 : Nat) (x1 : List Int) (x2 : Int) (x3 : Int) (x4 : List Int) (x5 : Int) (x6 : Int) : lists_Rising_L1 N (n1 + 1) x1 x2 x3 x4 x5 x6 =
  bif (decide (x6 < x5)) then
    bif inB x6 x4.length then
    bif (decide ((x4.getD x6.toNat 0) < x2)) then
      some false
    else
      bif (decide ((x4.getD x6.toNat 0) > x3)) then
        some false
      else
        bif (decide (x6 > 0)) then
          bif inB (W (x6 - 1)) x1.length then
          bif (decide ((x4.getD x6.toNat 0) ≤ (x1.getD (W (x6 - 1)).toNat 0))) then
            some false
          else
            lists_Rising_L1 N n1 x1 x2 x3 x4 x5 (W (x6 + 1))
          else none
        else
          lists_Rising_L1 N n1 x1 x2 x3 x4 x5 (W (x6 + 1))
    else none
  else
    some true := by kernel_rfl
def lists_Rising (N : Nat) (a0 : List Int) (a1 : Int) (a2 : Int) : Option Bool :=
  lists_Rising_L1 N N a0 a1 a2 a0 (a0.length : Int) 0
theorem lists_Rising_fn : FnOK Try.prog 38 38 (fun _ : Nat => false) lists_Rising_C3.er [(.t 6)] := FnOK.mk' Try.func38 (by kernel_rfl) (by kernel_rfl) (by kernel_rfl) (by kernel_rfl) (by kernel_rfl)
theorem lists_Rising_envok (N : Nat) : EnvOK Try.prog (lists_Rising_E N) := .nil
theorem lists_Rising_pure (N : Nat) : PureOK Try.prog 38 [(.list (.int .i64)), (.int .i64), (.int .i64)] [.bool] (fun x => lists_Rising N x.1 x.2.1 x.2.2) := pureOK (N := N) mixed lists_Rising_fn (lists_Rising_envok N) rfl (fun x => by kernel_rfl)
/-! clearance_Until_1 -/
def clearance_Until_1_NE : List NS := [.frzo 0, .keep [4], .out [0, 1]]
def clearance_Until_1_C4 : TC := .ret
def clearance_Until_1_C3 : TC := (.pre [.frzo 0, .keep [4], .out [0, 1]] clearance_Until_1_C4)
def clearance_Until_1_C2 : TC := (.seq (.rg [⟨⟨some 5, (.load false 1 (.t 1)), none⟩, {}⟩, ⟨⟨some 6, (.mov (.t 0)), none⟩, {}⟩, ⟨⟨some 7, (.iadrS 1 (.t 5) (.t 6)), none⟩, {}⟩, ⟨⟨some 8, (.load false 1 (.t 7)), none⟩, {}⟩, ⟨⟨some 9, (.load false 1 (.t 2)), none⟩, {}⟩, ⟨⟨some 10, (.bin .gtr (.t 8) (.t 9)), none⟩, {}⟩, ⟨⟨some 4, (.mov
  (.t 10)), none⟩, {}⟩] (some [])) clearance_Until_1_C3)
def clearance_Until_1_C1 : TC := (.seq (.rg [⟨⟨some 4, (.mov (.c (B false))), none⟩, {}⟩] none) clearance_Until_1_C2)
def clearance_Until_1_E (N : Nat) : List (Nat × Ent) := []
def clearance_Until_1 (N : Nat) (a0 : Int) (a1 : List Int) (a2 : Int) : Option (Bool × ((List Int) × Int)) :=
  bif inB a0 a1.length then
  some ((decide ((a1.getD a0.toNat 0) > a2)), (a1, a2))
  else none
theorem clearance_Until_1_fn : FnOK Try.prog 40 11 (fun _ : Nat => false) clearance_Until_1_C1.er [(.t 4)] := FnOK.mk' Try.func40 (by kernel_rfl) (by kernel_rfl) (by kernel_rfl) (by kernel_rfl) (by kernel_rfl)
theorem clearance_Until_1_envok (N : Nat) : EnvOK Try.prog (clearance_Until_1_E N) := .nil
theorem clearance_Until_1_sf (N : Nat) : SFOK Try.prog 40 [none, none, none] [.v (.int .i64), .b (.v (.list (.int .i64))), .b (.v (.int .i64))] [.v .bool] (fun x => clearance_Until_1 N x.1 x.2.1 x.2.2) := sfOK (N := N) (p := 2) (q := 2) (ns := clearance_Until_1_NE) mixed clearance_Until_1_fn (clearance_Until_1_envok N) rfl rfl rfl (fun x => by kernel_rfl)
/-! slices_IndexFunc_int_int_S3 -/
def slices_IndexFunc_int_int_S3_NE : List NS := [.frzo 0, .keep [4], .out [0, 1]]
def slices_IndexFunc_int_int_S3_N1 : List NS := [.wk 0 (.list (.int .i64)), .keep [0, 1, 7, 8], .cmp]
def slices_IndexFunc_int_int_S3_C14 : TC := .ret
def slices_IndexFunc_int_int_S3_C13 : TC := (.pre [.frzo 0, .keep [4], .out [0, 1]] slices_IndexFunc_int_int_S3_C14)
def slices_IndexFunc_int_int_S3_C12 : TC := (.cond (.t 16) (.seq (.rg [⟨⟨some 17, (.mov (.t 5)), none⟩, {}⟩, ⟨⟨some 4, (.mov (.t 17)), none⟩, {}⟩] none) slices_IndexFunc_int_int_S3_C13) .skip)
def slices_IndexFunc_int_int_S3_C10 : TC := (.seq (.rg [⟨⟨some 11, (.mov (.t 1)), none⟩, {}⟩, ⟨⟨some 12, (.mov (.t 0)), none⟩, {}⟩, ⟨⟨some 13, (.mov (.t 5)), none⟩, {}⟩, ⟨⟨some 14, (.iadrS 1 (.t 12) (.t 13)), none⟩, {}⟩, ⟨⟨some 15, (.load false 1 (.t 14)), none⟩, {}⟩, ⟨⟨some 16, (.call (.t 11) [(.t 15)]), none⟩, {}⟩] none)
  slices_IndexFunc_int_int_S3_C12)
def slices_IndexFunc_int_int_S3_C11 : TC := (.rg [⟨⟨some 18, (.bin .add (.t 8) (.c (I 1))), none⟩, {}⟩, ⟨⟨some 8, (.mov (.t 18)), none⟩, {}⟩] none)
def slices_IndexFunc_int_int_S3_C7 : TC := (.seq (.block 1 (.seq (.rg [⟨⟨some 10, (.mov (.t 8)), none⟩, {}⟩, ⟨⟨some 5, (.mov (.t 10)), none⟩, {}⟩] none) slices_IndexFunc_int_int_S3_C10)) slices_IndexFunc_int_int_S3_C11)
def slices_IndexFunc_int_int_S3_C4 : TC := (.seq (.cond (.t 9) .skip (.exit 0)) slices_IndexFunc_int_int_S3_C7)
def slices_IndexFunc_int_int_S3_C1 : TC := (.seq (.rg [⟨⟨some 9, (.bin .lss (.t 8) (.t 7)), none⟩, {}⟩] none) slices_IndexFunc_int_int_S3_C4)
def slices_IndexFunc_int_int_S3_C8 : TC := .ret
def slices_IndexFunc_int_int_S3_C5 : TC := (.pre [.frzo 0, .keep [4], .out [0, 1]] slices_IndexFunc_int_int_S3_C8)
def slices_IndexFunc_int_int_S3_C2 : TC := (.seq (.rg [⟨⟨some 4, (.mov (.c (I (-1)))), none⟩, {}⟩] none) slices_IndexFunc_int_int_S3_C5)
def slices_IndexFunc_int_int_S3_C9 : TC := (.block 0 (.loop slices_IndexFunc_int_int_S3_N1 slices_IndexFunc_int_int_S3_C1))
def slices_IndexFunc_int_int_S3_C6 : TC := (.seq (.seq (.rg [⟨⟨some 6, (.mov (.t 0)), none⟩, {}⟩, ⟨⟨some 7, (.len (.t 6)), none⟩, {}⟩, ⟨⟨some 8, (.mov (.c (I 0))), none⟩, {}⟩] none) slices_IndexFunc_int_int_S3_C9) slices_IndexFunc_int_int_S3_C2)
def slices_IndexFunc_int_int_S3_C3 : TC := (.seq (.rg [⟨⟨some 4, (.mov (.c (I 0))), none⟩, {}⟩] none) slices_IndexFunc_int_int_S3_C6)
def slices_IndexFunc_int_int_S3_E (N : Nat) : List (Nat × Ent) := [(40, sfE [none, none, none] [.v (.int .i64), .b (.v (.list (.int .i64))), .b (.v (.int .i64))] [.v .bool] (fun x => clearance_Until_1 N x.1 x.2.1 x.2.2))]
def slices_IndexFunc_int_int_S3_L1 (N : Nat) (n : Nat) (x1 : List Int) (x2 : Int) (x3 : Int) (x4 : List Int) (x5 : Int) : Option (Int × ((List Int) × Int)) := loopN (normI 2 slices_IndexFunc_int_int_S3_N1) (run (slices_IndexFunc_int_int_S3_E N) N 2 slices_IndexFunc_int_int_S3_C1) n ⟨[(0, .lst false (.int .i64) x1), (1, .fn 40 [.ptr 0 0 0, .ptr 1 0 0]), (7, .int .i64 x2), (8, .int .i64 x3)], [some (.box 0 [.lst false (.int .i64) x4]), some (.box 0 [.int .i64 x5])]⟩ (blkK 0 (seqK (run (slices_IndexFunc_int_int_S3_E N) N 2 slices_IndexFunc_int_int_S3_C2) (finS slices_IndexFunc_int_int_S3_NE [(.t 4)] [.v (.list (.int .i64)), .b (.v (.list (.int .i64))), .b (.v (.int .i64))] [.v (.int .i64)] 2 2)))
theorem slices_IndexFunc_int_int_S3_L1_zero (N : Nat) (x1 : List Int) (x2 : Int) (x3 : Int) (x4 : List Int) (x5 : Int) : slices_IndexFunc_int_int_S3_L1 N 0 x1 x2 x3 x4 x5 = none := rfl
theorem slices_IndexFunc_int_int_S3_L1_succ (N : Nat) (n1 : Nat) (x1 : List Int) (x2 : Int) (x3 : Int) (x4 : List Int) (x5 : Int) : slices_IndexFunc_int_int_S3_L1 N (n1 + 1) x1 x2 x3 x4 x5 =
  bif (decide (x3 < x2)) then
    bif inB x3 x1.length then
    Option.bind (clearance_Until_1 N (x1.getD x3.toNat 0) x4 x5) fun r6 =>
    bif r6.1 then
      some (x3, (r6.2.1, r6.2.2))
    else
      slices_IndexFunc_int_int_S3_L1 N n1 x1 x2 (W (x3 + 1)) r6.2.1 r6.2.2
    else none
  else
    some ((-1), (x4, x5)) := by kernel_rfl
def slices_IndexFunc_int_int_S3 (N : Nat) (a0 : List Int) (a1 : List Int) (a2 : Int) : Option (Int × ((List Int) × Int)) :=
  slices_IndexFunc_int_int_S3_L1 N N a0 (a0.length : Int) 0 a1 a2
theorem slices_IndexFunc_int_int_S3_fn : FnOK Try.prog 56 19 (fun _ : Nat => false) slices_IndexFunc_int_int_S3_C3.er [(.t 4)] := FnOK.mk' Try.func56 (by kernel_rfl) (by kernel_rfl) (by kernel_rfl) (by kernel_rfl) (by kernel_rfl)
theorem slices_IndexFunc_int_int_S3_envok (N : Nat) : EnvOK Try.prog (slices_IndexFunc_int_int_S3_E N) := .cons (sfE_ok (clearance_Until_1_sf N)) (.nil)
theorem slices_IndexFunc_int_int_S3_sf (N : Nat) : SFOK Try.prog 56 [none, some (40, 2)] [.v (.list (.int .i64)), .b (.v (.list (.int .i64))), .b (.v (.int .i64))] [.v (.int .i64)] (fun x => slices_IndexFunc_int_int_S3 N x.1 x.2.1 x.2.2) := sfOK (N := N) (p := 2) (q := 2) (ns := slices_IndexFunc_int_int_S3_NE) mixed slices_IndexFunc_int_int_S3_fn (slices_IndexFunc_int_int_S3_envok N) rfl rfl rfl (fun x => by kernel_rfl)
/-! slices_ContainsFunc_int_int_S3 -/
def slices_ContainsFunc_int_int_S3_NE : List NS := [.frzo 0, .keep [4], .out [0, 1]]
def slices_ContainsFunc_int_int_S3_C4 : TC := .ret
def slices_ContainsFunc_int_int_S3_C3 : TC := (.pre [.frzo 0, .keep [4], .out [0, 1]] slices_ContainsFunc_int_int_S3_C4)
def slices_ContainsFunc_int_int_S3_C2 : TC := (.seq (.rg [⟨⟨some 5, (.mov (.t 0)), none⟩, {}⟩, ⟨⟨some 6, (.mov (.t 1)), none⟩, {}⟩, ⟨⟨some 7, (.call (.c (.fn 56 [])) [(.t 5), (.t 6)]), none⟩, {}⟩, ⟨⟨some 8, (.bin .geq (.t 7) (.c (I 0))), none⟩, {}⟩, ⟨⟨some 4, (.mov (.t 8)), none⟩, {}⟩] none) slices_ContainsFunc_int_int_S3_C3)
def slices_ContainsFunc_int_int_S3_C1 : TC := (.seq (.rg [⟨⟨some 4, (.mov (.c (B false))), none⟩, {}⟩] none) slices_ContainsFunc_int_int_S3_C2)
def slices_ContainsFunc_int_int_S3_E (N : Nat) : List (Nat × Ent) := [(56, sfE [none, some (40, 2)] [.v (.list (.int .i64)), .b (.v (.list (.int .i64))), .b (.v (.int .i64))] [.v (.int .i64)] (fun x => slices_IndexFunc_int_int_S3 N x.1 x.2.1 x.2.2))]
def slices_ContainsFunc_int_int_S3 (N : Nat) (a0 : List Int) (a1 : List Int) (a2 : Int) : Option (Bool × ((List Int) × Int)) :=
  Option.bind (slices_IndexFunc_int_int_S3 N a0 a1 a2) fun r1 =>
  some ((decide (r1.1 ≥ 0)), (r1.2.1, r1.2.2))
theorem slices_ContainsFunc_int_int_S3_fn : FnOK Try.prog 39 9 (fun _ : Nat => false) slices_ContainsFunc_int_int_S3_C1.er [(.t 4)] := FnOK.mk' Try.func39 (by kernel_rfl) (by kernel_rfl) (by kernel_rfl) (by kernel_rfl) (by kernel_rfl)
theorem slices_ContainsFunc_int_int_S3_envok (N : Nat) : EnvOK Try.prog (slices_ContainsFunc_int_int_S3_E N) := .cons (sfE_ok (slices_IndexFunc_int_int_S3_sf N)) (.nil)
theorem slices_ContainsFunc_int_int_S3_sf (N : Nat) : SFOK Try.prog 39 [none, some (40, 2)] [.v (.list (.int .i64)), .b (.v (.list (.int .i64))), .b (.v (.int .i64))] [.v .bool] (fun x => slices_ContainsFunc_int_int_S3 N x.1 x.2.1 x.2.2) := sfOK (N := N) (p := 2) (q := 2) (ns := slices_ContainsFunc_int_int_S3_NE) mixed slices_ContainsFunc_int_int_S3_fn (slices_ContainsFunc_int_int_S3_envok N) rfl rfl rfl (fun x => by kernel_rfl)
/-! clearance_Until -/
def clearance_Until_N1 : List NS := [.wk 3 (.list (.int .i64)), .keep [3, 5, 6, 9, 11, 16, 17, 18], .cmp]
def clearance_Until_C5 : TC := (.cond (.t 63) .skip (.exit 1))
def clearance_Until_C16 : TC := .ret
def clearance_Until_C10 : TC := (.cond (.t 69) (.seq (.rg [⟨⟨some 70, (.mov (.t 18)), none⟩, {}⟩, ⟨⟨some 71, (.mov (.t 5)), none⟩, {}⟩, ⟨⟨some 72, (.bin .mul (.t 70) (.t 71)), none⟩, {}⟩, ⟨⟨some 14, (.mov (.t 72)), none⟩, {}⟩, ⟨⟨some 15, (.mov (.c (I 0))), none⟩, {}⟩] none) clearance_Until_C16) .skip)
def clearance_Until_C11 : TC := (.rg [⟨⟨some 73, (.load true 4 (.t 16)), none⟩, {}⟩, ⟨⟨some 74, (.load false 1 (.t 17)), none⟩, {}⟩, ⟨⟨some 75, (.mov (.t 5)), none⟩, {}⟩, ⟨⟨some 76, (.call (.c (.fn 33 [])) [(.t 73), (.t 74), (.t 75)]), none⟩, {}⟩, ⟨⟨none, (.store 1 (.t 17) (.t 76)), none⟩, {}⟩] none)
def clearance_Until_C12 : TC := (.rg [⟨⟨some 64, (.mov (.t 18)), none⟩, {}⟩, ⟨⟨some 65, (.bin .add (.t 64) (.c (I 1))), none⟩, {}⟩, ⟨⟨some 18, (.mov (.t 65)), none⟩, {}⟩] none)
def clearance_Until_C6 : TC := (.seq (.block 2 (.seq (.seq (.rg [⟨⟨some 66, (.mov (.t 3)), none⟩, {}⟩, ⟨⟨some 67, (.mkfn 40 [(.t 17), (.t 11)]), none⟩, {}⟩, ⟨⟨some 68, (.call (.c (.fn 39 [])) [(.t 66), (.t 67)]), none⟩, {}⟩, ⟨⟨some 69, (.un .not (.t 68)), none⟩, {}⟩] none) clearance_Until_C10) clearance_Until_C11))
  clearance_Until_C12)
def clearance_Until_C1 : TC := (.seq (.seq (.rg [⟨⟨some 52, (.mov (.t 18)), none⟩, {}⟩, ⟨⟨some 53, (.mov (.t 6)), none⟩, {}⟩, ⟨⟨some 54, (.bin .leq (.t 52) (.t 53)), none⟩, {}⟩, ⟨⟨some 55, (.mov (.t 54)), none⟩, {}⟩, ⟨⟨some 56, (.fadr 0 (.t 9)), some (55, true)⟩, {}⟩, ⟨⟨some 57, (.load false 1 (.t 56)), some (55, true)⟩, {}⟩,
  ⟨⟨some 58, (.mov (.t 18)), some (55, true)⟩, {}⟩, ⟨⟨some 59, (.mov (.t 5)), some (55, true)⟩, {}⟩, ⟨⟨some 60, (.bin .mul (.t 58) (.t 59)), some (55, true)⟩, {}⟩, ⟨⟨some 61, (.bin .add (.t 57) (.t 60)), some (55, true)⟩, {}⟩, ⟨⟨some 62, (.bin .leq (.t 61) (.c (I 2147483648))), some (55, true)⟩, {}⟩,
  ⟨⟨some 63, (.pick (.t 55) (.t 62) (.c (B false))), none⟩, {}⟩] none) clearance_Until_C5) clearance_Until_C6)
def clearance_Until_C7 : TC := .ret
def clearance_Until_C2 : TC := (.seq (.rg [⟨⟨some 14, (.mov (.c (I 0))), none⟩, {}⟩, ⟨⟨some 15, (.mov (.c (I 50))), none⟩, {}⟩] none) clearance_Until_C7)
def clearance_Until_C13 : TC := (.block 1 (.loop clearance_Until_N1 clearance_Until_C1))
def clearance_Until_C8 : TC := (.seq (.seq (.rg [⟨⟨some 18, (.mov (.c (I 0))), none⟩, {}⟩] none) clearance_Until_C13) clearance_Until_C2)
def clearance_Until_C3 : TC := (.seq (.pre [.wait, .wait] (.rg [⟨⟨some 47, (.load true 2 (.t 7)), none⟩, {}⟩, ⟨⟨some 48, (.mov (.t 1)), none⟩, {}⟩, ⟨⟨some 49, (.call (.c (.fn 32 [])) [(.t 47), (.t 48)]), none⟩, {}⟩, ⟨⟨some 50, (.fadr 1 (.t 9)), none⟩, {}⟩, ⟨⟨some 51, (.load false 1 (.t 50)), none⟩, {}⟩, ⟨⟨some 16, (.alloc [(.lst
  true []), (.lst true []), (.lst true []), (.lst true [])]), none⟩, ⟨.unit, some 3⟩⟩, ⟨⟨some 17, (.alloc [(.lst true [])]), none⟩, ⟨.unit, some 4⟩⟩, ⟨⟨none, (.store 4 (.t 16) (.t 49)), none⟩, {}⟩, ⟨⟨none, (.store 1 (.t 17) (.t 51)), none⟩, {}⟩] (some [(2, 3), (2, 4), (0, 5), (2, 5), (3, 5), (4, 5),
  (0, 6), (2, 6), (3, 6), (4, 6), (5, 6), (3, 7), (4, 7)]))) clearance_Until_C8)
def clearance_Until_C17 : TC := .ret
def clearance_Until_C19 : TC := .ret
def clearance_Until_C21 : TC := .ret
def clearance_Until_C20 : TC := (.cond (.t 33) (.seq (.rg [⟨⟨some 14, (.mov (.c (I 0))), none⟩, {}⟩, ⟨⟨some 15, (.mov (.c (I 1))), none⟩, {}⟩] none) clearance_Until_C21) .skip)
def clearance_Until_C18 : TC := (.cond (.t 25) (.seq (.rg [⟨⟨some 14, (.mov (.c (I 0))), none⟩, {}⟩, ⟨⟨some 15, (.mov (.c (I 4))), none⟩, {}⟩] none) clearance_Until_C19) (.seq (.rg [⟨⟨some 34, (.load false 1 (.t 11)), none⟩, {}⟩, ⟨⟨some 35, (.call (.c (.fn 34 [])) [(.t 34), (.c (I 0)), (.c (I 1000000))]), none⟩, {}⟩, ⟨⟨some 36,
  (.un .not (.t 35)), none⟩, {}⟩, ⟨⟨some 37, (.mov (.t 36)), none⟩, {}⟩, ⟨⟨some 38, (.mov (.t 5)), some (37, false)⟩, {}⟩, ⟨⟨some 39, (.call (.c (.fn 34 [])) [(.t 38), (.c (I 1)), (.c (I 3600))]), some (37, false)⟩, {}⟩, ⟨⟨some 40, (.un .not (.t 39)), some (37, false)⟩, {}⟩, ⟨⟨some 41, (.pick (.t 37)
  (.c (B true)) (.t 40)), none⟩, {}⟩, ⟨⟨some 42, (.mov (.t 41)), none⟩, {}⟩, ⟨⟨some 43, (.mov (.t 6)), some (42, false)⟩, {}⟩, ⟨⟨some 44, (.call (.c (.fn 34 [])) [(.t 43), (.c (I 0)), (.c (I 1000))]), some (42, false)⟩, {}⟩, ⟨⟨some 45, (.un .not (.t 44)), some (42, false)⟩, {}⟩, ⟨⟨some 46, (.pick (.t
  42) (.c (B true)) (.t 45)), none⟩, {}⟩, ⟨⟨some 33, (.mov (.t 46)), none⟩, {}⟩] none) clearance_Until_C20))
def clearance_Until_C14 : TC := (.cond (.t 19) (.seq (.rg [⟨⟨some 14, (.mov (.c (I 0))), none⟩, {}⟩, ⟨⟨some 15, (.mov (.c (I 6))), none⟩, {}⟩] none) clearance_Until_C17) (.seq (.rg [⟨⟨some 26, (.mov (.t 3)), none⟩, {}⟩, ⟨⟨some 27, (.fadr 1 (.t 7)), none⟩, {}⟩, ⟨⟨some 28, (.load false 1 (.t 27)), none⟩, {}⟩, ⟨⟨some 29, (.len (.t
  28)), none⟩, {}⟩, ⟨⟨some 30, (.bin .sub (.t 29) (.c (I 1))), none⟩, {}⟩, ⟨⟨some 31, (.call (.c (.fn 38 [])) [(.t 26), (.c (I 0)), (.t 30)]), none⟩, {}⟩, ⟨⟨some 32, (.un .not (.t 31)), none⟩, {}⟩, ⟨⟨some 25, (.mov (.t 32)), none⟩, {}⟩] none) clearance_Until_C18))
def clearance_Until_C15 : TC := (.join [.wk 1 (.list G_Span), .wk 3 (.list (.int .i64)), .keep [1, 3, 5, 6, 7, 9, 11], .cmp] clearance_Until_C3)
def clearance_Until_C9 : TC := (.seq (.block 0 (.seq (.rg [⟨⟨some 20, (.load true 2 (.t 7)), none⟩, {}⟩, ⟨⟨some 21, (.mov (.t 1)), none⟩, {}⟩, ⟨⟨some 22, (.load true 2 (.t 9)), none⟩, {}⟩, ⟨⟨some 23, (.call (.c (.fn 31 [])) [(.t 20), (.t 21), (.t 22)]), none⟩, {}⟩, ⟨⟨some 24, (.un .not (.t 23)), none⟩, {}⟩, ⟨⟨some 19, (.mov (.t
  24)), none⟩, {}⟩] none) clearance_Until_C14)) clearance_Until_C15)
def clearance_Until_C4 : TC := (.seq (.rg [⟨⟨some 7, (.box (.t 0)), none⟩, {}⟩, ⟨⟨some 9, (.box (.t 2)), none⟩, {}⟩, ⟨⟨some 11, (.box (.t 4)), none⟩, {}⟩, ⟨⟨some 14, (.mov (.c (I 0))), none⟩, {}⟩, ⟨⟨some 15, (.mov (.c (I 0))), none⟩, {}⟩] none) clearance_Until_C9)
def clearance_Until_E (N : Nat) : List (Nat × Ent) := [(31, pureE [G_Mine, (.list G_Span), G_Fumes] [.bool] (fun x => clearance_given N x.1 x.2.1 x.2.2)), (38, pureE [(.list (.int .i64)), (.int .i64), (.int .i64)] [.bool] (fun x => lists_Rising N x.1 x.2.1 x.2.2)), (34, pureE [(.int .i64), (.int .i64), (.int .i64)] [.bool] (fun x => lists_In N x.1 x.2.1 x.2.2)), (32, pureE [G_Mine, (.list G_Span)] [G_air] (fun x => clearance_of N x.1 x.2)), (39, sfE [none, some (40, 2)] [.v (.list (.int .i64)), .b (.v (.list (.int .i64))), .b (.v (.int .i64))] [.v .bool] (fun x => slices_ContainsFunc_int_int_S3 N x.1 x.2.1 x.2.2)), (33, pureE [G_air, (.list (.int .i64)), (.int .i64)] [(.list (.int .i64))] (fun x => clearance_air_after N x.1 x.2.1 x.2.2))]
def clearance_Until_L1 (N : Nat) (n : Nat) (x17 : List Int) (x18 : Int) (x19 : Int) (x20 : Int) (x21 : Int) (x22 : List Int) (x23 : Int) (x24 : List T_Place) (x25 : List T_Road) (x26 : List (List Int)) (x27 : List Int) (x28 : List Int) : Option (Int × Int) := loopN (normI 0 clearance_Until_N1) (run (clearance_Until_E N) N 0 clearance_Until_C1) n ⟨[(3, .lst false (.int .i64) x17), (5, .int .i64 x18), (6, .int .i64 x19), (9, .ptr 0 0 0), (11, .ptr 1 0 0), (16, .ptr 2 0 0), (17, .ptr 3 0 0), (18, .int .i64 x20)], [some (.box 0 [.int .i64 x21, .lst false (.int .i64) x22]), some (.box 0 [.int .i64 x23]), some (.box 1 [.lst false G_Place x24, .lst false G_Road x25, .lst false (.list (.int .i64)) x26, .lst false (.int .i64) x27]), some (.box 1 [.lst false (.int .i64) x28])]⟩ (blkK 1 (seqK (run (clearance_Until_E N) N 0 clearance_Until_C2) (fin [(.t 14), (.t 15)] [(.int .i64), (.int .i64)])))
def clearance_Until_J1 (N : Nat) (x7 : List T_Span) (x8 : List Int) (x9 : Int) (x10 : Int) (x11 : List T_Place) (x12 : List T_Road) (x13 : Int) (x14 : List Int) (x15 : Int) : Option (Int × Int) := joinN (run (clearance_Until_E N) N 0 clearance_Until_C3) N ⟨[(1, .lst false G_Span x7), (3, .lst false (.int .i64) x8), (5, .int .i64 x9), (6, .int .i64 x10), (7, .ptr 0 0 0), (9, .ptr 1 0 0), (11, .ptr 2 0 0)], [some (.box 0 [.lst false G_Place x11, .lst false G_Road x12]), some (.box 0 [.int .i64 x13, .lst false (.int .i64) x14]), some (.box 0 [.int .i64 x15])]⟩ (fin [(.t 14), (.t 15)] [(.int .i64), (.int .i64)])
theorem clearance_Until_L1_zero (N : Nat) (x17 : List Int) (x18 : Int) (x19 : Int) (x20 : Int) (x21 : Int) (x22 : List Int) (x23 : Int) (x24 : List T_Place) (x25 : List T_Road) (x26 : List (List Int)) (x27 : List Int) (x28 : List Int) : clearance_Until_L1 N 0 x17 x18 x19 x20 x21 x22 x23 x24 x25 x26 x27 x28 = none := rfl
theorem clearance_Until_L1_succ (N : Nat) (n1 : Nat) (x17 : List Int) (x18 : Int) (x19 : Int) (x20 : Int) (x21 : Int) (x22 : List Int) (x23 : Int) (x24 : List T_Place) (x25 : List T_Road) (x26 : List (List Int)) (x27 : List Int) (x28 : List Int) : clearance_Until_L1 N (n1 + 1) x17 x18 x19 x20 x21 x22 x23 x24 x25 x26 x27 x28 =
  bif (decide (x20 ≤ x19)) then
    bif (decide ((W (x21 + (W (x20 * x18)))) ≤ 2147483648)) then
      Option.bind (slices_ContainsFunc_int_int_S3 N x17 x28 x23) fun r30 =>
      bif (!r30.1) then
        some (W (x20 * x18), 0)
      else
        Option.bind (clearance_air_after N ((x24, x25), (x26, x27)) r30.2.1 x18) fun r31 =>
        clearance_Until_L1 N n1 x17 x18 x19 (W (x20 + 1)) x21 x22 r30.2.2 x24 x25 x26 x27 r31
    else
      some (0, 50)
  else
    some (0, 50) := by kernel_rfl
theorem clearance_Until_J1_eq (N : Nat) (x7 : List T_Span) (x8 : List Int) (x9 : Int) (x10 : Int) (x11 : List T_Place) (x12 : List T_Road) (x13 : Int) (x14 : List Int) (x15 : Int) : clearance_Until_J1 (N + 1) x7 x8 x9 x10 x11 x12 x13 x14 x15 =
  Option.bind (clearance_of (N + 1) (x11, x12) x7) fun r16 =>
  clearance_Until_L1 (N + 1) (N + 1) x8 x9 x10 0 x13 x14 x15 r16.1.1 r16.1.2 r16.2.1 r16.2.2 x14 := by kernel_rfl
def clearance_Until (N : Nat) (a0 : T_Mine) (a1 : List T_Span) (a2 : T_Fumes) (a3 : List Int) (a4 : Int) (a5 : Int) (a6 : Int) : Option (Int × Int) :=
  Option.bind (clearance_given N a0 a1 a2) fun r1 =>
  bif (!r1) then
    some (0, 6)
  else
    Option.bind (lists_Rising N a3 0 (W ((a0.2.length : Int) - 1))) fun r3 =>
    bif (!r3) then
      some (0, 4)
    else
      Option.bind (lists_In N a4 0 1000000) fun r4 =>
      bif (!r4) then
        some (0, 1)
      else
        Option.bind (lists_In N a5 1 3600) fun r5 =>
        bif (!r5) then
          some (0, 1)
        else
          Option.bind (lists_In N a6 0 1000) fun r6 =>
          bif (!r6) then
            some (0, 1)
          else
            clearance_Until_J1 N a1 a3 a5 a6 a0.1 a0.2 a2.1 a2.2 a4
theorem clearance_Until_fn : FnOK Try.prog 20 77 (fun _ : Nat => false) clearance_Until_C4.er [(.t 14), (.t 15)] := FnOK.mk' Try.func20 (by kernel_rfl) (by kernel_rfl) (by kernel_rfl) (by kernel_rfl) (by kernel_rfl)
theorem clearance_Until_envok (N : Nat) : EnvOK Try.prog (clearance_Until_E N) := .cons (pureE_ok (clearance_given_pure N)) (.cons (pureE_ok (lists_Rising_pure N)) (.cons (pureE_ok (lists_In_pure N)) (.cons (pureE_ok (clearance_of_pure N)) (.cons (sfE_ok (slices_ContainsFunc_int_int_S3_sf N)) (.cons (pureE_ok (clearance_air_after_pure N)) (.nil))))))
theorem clearance_Until_pure (N : Nat) : PureOK Try.prog 20 [G_Mine, (.list G_Span), G_Fumes, (.list (.int .i64)), (.int .i64), (.int .i64), (.int .i64)] [(.int .i64), (.int .i64)] (fun x => clearance_Until N x.1 x.2.1 x.2.2.1 x.2.2.2.1 x.2.2.2.2.1 x.2.2.2.2.2.1 x.2.2.2.2.2.2) := pureOK (N := N) mixed clearance_Until_fn (clearance_Until_envok N) rfl (fun x => by kernel_rfl)
/-! clearance_Start -/
def clearance_Start_N1 : List NS := [.wk 43 (.list (.int .i64)), .keep [2, 8, 10, 43, 44, 45], .cmp]
def clearance_Start_C11 : TC := (.rg [⟨⟨some 49, (.fadr 1 (.t 10)), none⟩, {}⟩, ⟨⟨some 50, (.load false 1 (.t 49)), none⟩, {}⟩, ⟨⟨some 51, (.mov (.t 12)), none⟩, {}⟩, ⟨⟨some 52, (.mov (.t 2)), none⟩, {}⟩, ⟨⟨some 53, (.iadrS 1 (.t 50) (.t 51)), none⟩, {}⟩, ⟨⟨none, (.store 1 (.t 53) (.t 52)), none⟩, {}⟩] none)
def clearance_Start_C12 : TC := (.rg [⟨⟨some 54, (.bin .add (.t 45) (.c (I 1))), none⟩, {}⟩, ⟨⟨some 45, (.mov (.t 54)), none⟩, {}⟩] none)
def clearance_Start_C7 : TC := (.seq (.block 2 (.seq (.rg [⟨⟨some 47, (.iadrS 1 (.t 43) (.t 45)), none⟩, {}⟩, ⟨⟨some 48, (.load false 1 (.t 47)), none⟩, {}⟩, ⟨⟨some 12, (.mov (.t 48)), none⟩, {}⟩] none) clearance_Start_C11)) clearance_Start_C12)
def clearance_Start_C4 : TC := (.seq (.cond (.t 46) .skip (.exit 1)) clearance_Start_C7)
def clearance_Start_C1 : TC := (.seq (.rg [⟨⟨some 46, (.bin .lss (.t 45) (.t 44)), none⟩, {}⟩] none) clearance_Start_C4)
def clearance_Start_C8 : TC := .ret
def clearance_Start_C5 : TC := (.pre [.frzb 8] clearance_Start_C8)
def clearance_Start_C2 : TC := (.seq (.rg [⟨⟨some 55, (.load true 2 (.t 10)), none⟩, {}⟩, ⟨⟨none, (.store 2 (.t 8) (.t 55)), none⟩, {}⟩, ⟨⟨some 9, (.mov (.c (I 0))), none⟩, {}⟩] none) clearance_Start_C5)
def clearance_Start_C16 : TC := .ret
def clearance_Start_C13 : TC := (.pre [.frzb 8] clearance_Start_C16)
def clearance_Start_C20 : TC := .ret
def clearance_Start_C17 : TC := (.pre [.frzb 8] clearance_Start_C20)
def clearance_Start_C23 : TC := .ret
def clearance_Start_C21 : TC := (.pre [.frzb 8] clearance_Start_C23)
def clearance_Start_C25 : TC := .ret
def clearance_Start_C24 : TC := (.pre [.frzb 8] clearance_Start_C25)
def clearance_Start_C22 : TC := (.cond (.t 32) (.seq (.rg [⟨⟨some 36, (.build [(I 0), (.lst true [])] []), none⟩, {}⟩, ⟨⟨none, (.store 2 (.t 8) (.t 36)), none⟩, {}⟩, ⟨⟨some 9, (.mov (.c (I 8))), none⟩, {}⟩] none) clearance_Start_C24) .skip)
def clearance_Start_C18 : TC := (.cond (.t 27) (.seq (.rg [⟨⟨some 31, (.build [(I 0), (.lst true [])] []), none⟩, {}⟩, ⟨⟨none, (.store 2 (.t 8) (.t 31)), none⟩, {}⟩, ⟨⟨some 9, (.mov (.c (I 1))), none⟩, {}⟩] none) clearance_Start_C21) (.seq (.rg [⟨⟨some 33, (.mov (.t 3)), none⟩, {}⟩, ⟨⟨some 34, (.call (.c (.fn 34 [])) [(.t 33), (.c
  (I 0)), (.c (I 2147483648))]), none⟩, {}⟩, ⟨⟨some 35, (.un .not (.t 34)), none⟩, {}⟩, ⟨⟨some 32, (.mov (.t 35)), none⟩, {}⟩] none) clearance_Start_C22))
def clearance_Start_C14 : TC := (.cond (.t 18) (.seq (.rg [⟨⟨some 26, (.build [(I 0), (.lst true [])] []), none⟩, {}⟩, ⟨⟨none, (.store 2 (.t 8) (.t 26)), none⟩, {}⟩, ⟨⟨some 9, (.mov (.c (I 4))), none⟩, {}⟩] none) clearance_Start_C17) (.seq (.rg [⟨⟨some 28, (.mov (.t 2)), none⟩, {}⟩, ⟨⟨some 29, (.call (.c (.fn 34 [])) [(.t 28), (.c
  (I 0)), (.c (I 1000000))]), none⟩, {}⟩, ⟨⟨some 30, (.un .not (.t 29)), none⟩, {}⟩, ⟨⟨some 27, (.mov (.t 30)), none⟩, {}⟩] none) clearance_Start_C18))
def clearance_Start_C9 : TC := (.cond (.t 13) (.seq (.rg [⟨⟨some 17, (.build [(I 0), (.lst true [])] []), none⟩, {}⟩, ⟨⟨none, (.store 2 (.t 8) (.t 17)), none⟩, {}⟩, ⟨⟨some 9, (.mov (.c (I 6))), none⟩, {}⟩] none) clearance_Start_C13) (.seq (.rg [⟨⟨some 19, (.mov (.t 1)), none⟩, {}⟩, ⟨⟨some 20, (.fadr 1 (.t 4)), none⟩, {}⟩, ⟨⟨some
  21, (.load false 1 (.t 20)), none⟩, {}⟩, ⟨⟨some 22, (.len (.t 21)), none⟩, {}⟩, ⟨⟨some 23, (.bin .sub (.t 22) (.c (I 1))), none⟩, {}⟩, ⟨⟨some 24, (.call (.c (.fn 38 [])) [(.t 19), (.c (I 0)), (.t 23)]), none⟩, {}⟩, ⟨⟨some 25, (.un .not (.t 24)), none⟩, {}⟩, ⟨⟨some 18, (.mov (.t 25)), none⟩, {}⟩]
  none) clearance_Start_C14))
def clearance_Start_C19 : TC := (.block 1 (.loop clearance_Start_N1 clearance_Start_C1))
def clearance_Start_C15 : TC := (.seq (.seq (.rg [⟨⟨some 43, (.mov (.t 1)), none⟩, {}⟩, ⟨⟨some 44, (.len (.t 43)), none⟩, {}⟩, ⟨⟨some 45, (.mov (.c (I 0))), none⟩, {}⟩] none) clearance_Start_C19) clearance_Start_C2)
def clearance_Start_C10 : TC := (.seq (.rg [⟨⟨some 37, (.mov (.t 3)), none⟩, {}⟩, ⟨⟨some 38, (.fadr 1 (.t 4)), none⟩, {}⟩, ⟨⟨some 39, (.load false 1 (.t 38)), none⟩, {}⟩, ⟨⟨some 40, (.len (.t 39)), none⟩, {}⟩, ⟨⟨some 41, (.mksl 1 8 [(I 0)] (.t 40) (.t 40)), none⟩, ⟨(.int .i64), none⟩⟩, ⟨⟨some 42, (.build [(I 0), (.lst true [])]
  [(0, (1, (.t 37))), (1, (1, (.t 41)))]), none⟩, {}⟩, ⟨⟨some 10, (.alloc [(I 0), (.lst true [])]), none⟩, {}⟩, ⟨⟨none, (.store 2 (.t 10) (.t 42)), none⟩, {}⟩] none) clearance_Start_C15)
def clearance_Start_C6 : TC := (.seq (.block 0 (.seq (.rg [⟨⟨some 14, (.load true 2 (.t 4)), none⟩, {}⟩, ⟨⟨some 15, (.call (.c (.fn 41 [])) [(.t 14)]), none⟩, {}⟩, ⟨⟨some 16, (.un .not (.t 15)), none⟩, {}⟩, ⟨⟨some 13, (.mov (.t 16)), none⟩, {}⟩] none) clearance_Start_C9)) clearance_Start_C10)
def clearance_Start_C3 : TC := (.seq (.rg [⟨⟨some 4, (.box (.t 0)), none⟩, {}⟩, ⟨⟨some 8, (.alloc [(I 0), (.lst true [])]), none⟩, {}⟩, ⟨⟨some 9, (.mov (.c (I 0))), none⟩, {}⟩] none) clearance_Start_C6)
def clearance_Start_E (N : Nat) : List (Nat × Ent) := [(41, pureE [G_Mine] [.bool] (fun x => plan_Valid N x)), (38, pureE [(.list (.int .i64)), (.int .i64), (.int .i64)] [.bool] (fun x => lists_Rising N x.1 x.2.1 x.2.2)), (34, pureE [(.int .i64), (.int .i64), (.int .i64)] [.bool] (fun x => lists_In N x.1 x.2.1 x.2.2))]
def clearance_Start_L1 (N : Nat) (n : Nat) (x7 : Int) (x8 : List Int) (x9 : Int) (x10 : Int) (x11 : Int) (x12 : Int) (x13 : List Int) : Option (T_Fumes × Int) := loopN (normI 0 clearance_Start_N1) (run (clearance_Start_E N) N 0 clearance_Start_C1) n ⟨[(2, .int .i64 x7), (8, .ptr 0 0 0), (10, .ptr 1 0 0), (43, .lst false (.int .i64) x8), (44, .int .i64 x9), (45, .int .i64 x10)], [some (.box 0 [.int .i64 x11, .nil]), some (.box 0 [.int .i64 x12, .whole 2]), some (.arr (.int .i64) x13)]⟩ (blkK 1 (seqK (run (clearance_Start_E N) N 0 clearance_Start_C2) (fin [(.cell 8 true 2), (.t 9)] [G_Fumes, (.int .i64)])))
theorem clearance_Start_L1_zero (N : Nat) (x7 : Int) (x8 : List Int) (x9 : Int) (x10 : Int) (x11 : Int) (x12 : Int) (x13 : List Int) : clearance_Start_L1 N 0 x7 x8 x9 x10 x11 x12 x13 = none := rfl
theorem clearance_Start_L1_succ (N : Nat) (n1 : Nat) (x7 : Int) (x8 : List Int) (x9 : Int) (x10 : Int) (x11 : Int) (x12 : Int) (x13 : List Int) : clearance_Start_L1 N (n1 + 1) x7 x8 x9 x10 x11 x12 x13 =
  bif (decide (x10 < x9)) then
    bif inB x10 x8.length then
    bif inB (x8.getD x10.toNat 0) x13.length then
    clearance_Start_L1 N n1 x7 x8 x9 (W (x10 + 1)) x11 x12 (x13.set ((x8.getD x10.toNat 0).toNat) x7)
    else none
    else none
  else
    some ((x12, x13), 0) := by kernel_rfl
def clearance_Start (N : Nat) (a0 : T_Mine) (a1 : List Int) (a2 : Int) (a3 : Int) : Option (T_Fumes × Int) :=
  Option.bind (plan_Valid N a0) fun r1 =>
  bif (!r1) then
    some ((0, []), 6)
  else
    Option.bind (lists_Rising N a1 0 (W ((a0.2.length : Int) - 1))) fun r3 =>
    bif (!r3) then
      some ((0, []), 4)
    else
      Option.bind (lists_In N a2 0 1000000) fun r4 =>
      bif (!r4) then
        some ((0, []), 1)
      else
        Option.bind (lists_In N a3 0 2147483648) fun r5 =>
        bif (!r5) then
          some ((0, []), 8)
        else
          bif mkB 8 (a0.2.length : Int) (a0.2.length : Int) then
          clearance_Start_L1 N N a2 a1 (a1.length : Int) 0 0 a3 (List.replicate (a0.2.length : Int).toNat 0)
          else none
theorem clearance_Start_fn : FnOK Try.prog 22 56 (fun _ : Nat => false) clearance_Start_C3.er [(.cell 8 true 2), (.t 9)] := FnOK.mk' Try.func22 (by kernel_rfl) (by kernel_rfl) (by kernel_rfl) (by kernel_rfl) (by kernel_rfl)
theorem clearance_Start_envok (N : Nat) : EnvOK Try.prog (clearance_Start_E N) := .cons (pureE_ok (plan_Valid_pure N)) (.cons (pureE_ok (lists_Rising_pure N)) (.cons (pureE_ok (lists_In_pure N)) (.nil)))
theorem clearance_Start_pure (N : Nat) : PureOK Try.prog 22 [G_Mine, (.list (.int .i64)), (.int .i64), (.int .i64)] [G_Fumes, (.int .i64)] (fun x => clearance_Start N x.1 x.2.1 x.2.2.1 x.2.2.2) := pureOK (N := N) mixed clearance_Start_fn (clearance_Start_envok N) rfl (fun x => by kernel_rfl)
/-! law35_awake -/
def law35_awake_C8 : TC := .ret
def law35_awake_C7 : TC := (.seq (.rg [⟨⟨some 39, (.mov (.t 3)), none⟩, {}⟩, ⟨⟨some 40, (.bin .eql (.t 39) (.c (I 0))), none⟩, {}⟩, ⟨⟨some 41, (.mov (.t 40)), none⟩, {}⟩, ⟨⟨some 42, (.mov (.t 6)), some (41, true)⟩, {}⟩, ⟨⟨some 43, (.bin .eql (.t 42) (.c (I 0))), some (41, true)⟩, {}⟩, ⟨⟨some 44, (.pick (.t 41) (.t 43) (.c (B
  false))), none⟩, {}⟩, ⟨⟨some 45, (.mov (.t 44)), none⟩, {}⟩, ⟨⟨some 46, (.mov (.t 8)), some (45, true)⟩, {}⟩, ⟨⟨some 47, (.bin .eql (.t 46) (.c (I 0))), some (45, true)⟩, {}⟩, ⟨⟨some 48, (.pick (.t 45) (.t 47) (.c (B false))), none⟩, {}⟩, ⟨⟨some 49, (.mov (.t 48)), none⟩, {}⟩, ⟨⟨some 50, (.fadr 1
  (.t 5)), some (49, true)⟩, {}⟩, ⟨⟨some 51, (.load false 1 (.t 50)), some (49, true)⟩, {}⟩, ⟨⟨some 52, (.len (.t 51)), some (49, true)⟩, {}⟩, ⟨⟨some 53, (.bin .eql (.t 52) (.c (I 1))), some (49, true)⟩, {}⟩, ⟨⟨some 54, (.pick (.t 49) (.t 53) (.c (B false))), none⟩, {}⟩, ⟨⟨some 55, (.mov (.t 54)),
  none⟩, {}⟩, ⟨⟨some 56, (.fadr 1 (.t 5)), some (55, true)⟩, {}⟩, ⟨⟨some 57, (.load false 1 (.t 56)), some (55, true)⟩, {}⟩, ⟨⟨some 58, (.iadrS 1 (.t 57) (.c (I 0))), some (55, true)⟩, {}⟩, ⟨⟨some 59, (.load false 1 (.t 58)), some (55, true)⟩, {}⟩, ⟨⟨some 60, (.bin .eql (.t 59) (.c (I 500))), some
  (55, true)⟩, {}⟩, ⟨⟨some 61, (.pick (.t 55) (.t 60) (.c (B false))), none⟩, {}⟩, ⟨⟨some 62, (.mov (.t 61)), none⟩, {}⟩, ⟨⟨some 63, (.mov (.t 7)), some (62, true)⟩, {}⟩, ⟨⟨some 64, (.bin .eql (.t 63) (.c (I 100))), some (62, true)⟩, {}⟩, ⟨⟨some 65, (.pick (.t 62) (.t 64) (.c (B false))), none⟩, {}⟩,
  ⟨⟨some 66, (.mov (.t 65)), none⟩, {}⟩, ⟨⟨some 67, (.load true 2 (.t 1)), some (66, true)⟩, {}⟩, ⟨⟨some 68, (.mov (.t 4)), some (66, true)⟩, {}⟩, ⟨⟨some 69, (.call (.c (.fn 19 [])) [(.t 67), (.t 68), (.c (I 0))]), some (66, true)⟩, {}⟩, ⟨⟨some 70, (.len (.t 69)), some (66, true)⟩, {}⟩, ⟨⟨some 71,
  (.bin .eql (.t 70) (.c (I 0))), some (66, true)⟩, {}⟩, ⟨⟨some 72, (.pick (.t 66) (.t 71) (.c (B false))), none⟩, {}⟩, ⟨⟨some 0, (.mov (.t 72)), none⟩, {}⟩] none) law35_awake_C8)
def law35_awake_C6 : TC := (.seq (.rg [⟨⟨some 32, (.load true 2 (.t 1)), none⟩, {}⟩, ⟨⟨some 33, (.mov (.t 4)), none⟩, {}⟩, ⟨⟨some 34, (.load true 2 (.t 2)), none⟩, {}⟩, ⟨⟨some 35, (.bslice false 1 [(I 0)] 1 [(0, (.c (I 0)))]), none⟩, ⟨(.int .i64), none⟩⟩, ⟨⟨some 36, (.call (.c (.fn 20 [])) [(.t 32), (.t 33), (.t 34), (.t 35),
  (.c (I 500)), (.c (I 50)), (.c (I 10))]), none⟩, {}⟩, ⟨⟨some 31, (.mov (.t 36)), none⟩, {}⟩, ⟨⟨some 37, (.extr 0 (.t 31)), none⟩, {}⟩, ⟨⟨some 38, (.extr 1 (.t 31)), none⟩, {}⟩, ⟨⟨some 7, (.mov (.t 37)), none⟩, {}⟩, ⟨⟨some 8, (.mov (.t 38)), none⟩, {}⟩] none) law35_awake_C7)
def law35_awake_C5 : TC := (.seq (.rg [⟨⟨some 25, (.load true 2 (.t 1)), none⟩, {}⟩, ⟨⟨some 26, (.mov (.t 4)), none⟩, {}⟩, ⟨⟨some 27, (.load true 2 (.t 2)), none⟩, {}⟩, ⟨⟨some 28, (.call (.c (.fn 18 [])) [(.t 25), (.t 26), (.t 27), (.c (I 100))]), none⟩, {}⟩, ⟨⟨some 24, (.mov (.t 28)), none⟩, {}⟩, ⟨⟨some 29, (.extr 0 (.t 24)),
  none⟩, {}⟩, ⟨⟨some 30, (.extr 1 (.t 24)), none⟩, {}⟩, ⟨⟨some 5, (.alloc [(I 0), (.lst true [])]), none⟩, {}⟩, ⟨⟨none, (.store 2 (.t 5) (.t 29)), none⟩, {}⟩, ⟨⟨some 6, (.mov (.t 30)), none⟩, {}⟩] none) law35_awake_C6)
def law35_awake_C4 : TC := (.seq (.rg [⟨⟨some 22, (.build [(I 0), (I 0)] [(0, (1, (.c (I 10000)))), (1, (1, (.c (I 10000))))]), none⟩, {}⟩, ⟨⟨some 23, (.bslice false 2 [(I 0), (I 0)] 1 [(0, (.t 22))]), none⟩, ⟨G_Span, none⟩⟩, ⟨⟨some 4, (.mov (.t 23)), none⟩, {}⟩] none) law35_awake_C5)
def law35_awake_C3 : TC := (.seq (.rg [⟨⟨some 17, (.load true 2 (.t 1)), none⟩, {}⟩, ⟨⟨some 18, (.bslice false 1 [(I 0)] 1 [(0, (.c (I 0)))]), none⟩, ⟨(.int .i64), none⟩⟩, ⟨⟨some 19, (.call (.c (.fn 22 [])) [(.t 17), (.t 18), (.c (I 1000)), (.c (I 0))]), none⟩, {}⟩, ⟨⟨some 16, (.mov (.t 19)), none⟩, {}⟩, ⟨⟨some 20, (.extr 0
  (.t 16)), none⟩, {}⟩, ⟨⟨some 21, (.extr 1 (.t 16)), none⟩, {}⟩, ⟨⟨some 2, (.alloc [(I 0), (.lst true [])]), none⟩, {}⟩, ⟨⟨none, (.store 2 (.t 2) (.t 20)), none⟩, {}⟩, ⟨⟨some 3, (.mov (.t 21)), none⟩, {}⟩] none) law35_awake_C4)
def law35_awake_C2 : TC := (.seq (.rg [⟨⟨some 9, (.build [(I 0), (B false)] [(1, (1, (.c (B true))))]), none⟩, {}⟩, ⟨⟨some 10, (.build [(I 0), (B false)] []), none⟩, {}⟩, ⟨⟨some 11, (.bslice false 2 [(I 0), (B false)] 2 [(0, (.t 9)), (1, (.t 10))]), none⟩, ⟨G_Place, none⟩⟩, ⟨⟨some 12, (.build [(I 0), (I 0)] [(0, (1, (.c (I
  1)))), (1, (1, (.c (I 1))))]), none⟩, {}⟩, ⟨⟨some 13, (.build [(I 0), (I 0), (I 0), (I 0), (B false), (B false), (I 0), (I 0), (I 0), (I 0)] [(1, (1, (.c (I 1)))), (2, (1, (.c (I 100)))), (3, (1, (.c (I 10)))), (4, (1, (.c (B true)))), (6, (2, (.t 12)))]), none⟩, {}⟩, ⟨⟨some 14, (.bslice false 10
  [(I 0), (I 0), (I 0), (I 0), (B false), (B false), (I 0), (I 0), (I 0), (I 0)] 1 [(0, (.t 13))]), none⟩, ⟨G_Road, none⟩⟩, ⟨⟨some 15, (.build [(.lst true []), (.lst true [])] [(0, (1, (.t 11))), (1, (1, (.t 14)))]), none⟩, {}⟩, ⟨⟨some 1, (.alloc [(.lst true []), (.lst true [])]), none⟩, {}⟩, ⟨⟨none,
  (.store 2 (.t 1) (.t 15)), none⟩, {}⟩] none) law35_awake_C3)
def law35_awake_C1 : TC := (.seq (.rg [⟨⟨some 0, (.mov (.c (B false))), none⟩, {}⟩] none) law35_awake_C2)
def law35_awake_E (N : Nat) : List (Nat × Ent) := [(22, pureE [G_Mine, (.list (.int .i64)), (.int .i64), (.int .i64)] [G_Fumes, (.int .i64)] (fun x => clearance_Start N x.1 x.2.1 x.2.2.1 x.2.2.2)), (18, pureE [G_Mine, (.list G_Span), G_Fumes, (.int .i64)] [G_Fumes, (.int .i64)] (fun x => clearance_Step N x.1 x.2.1 x.2.2.1 x.2.2.2)), (20, pureE [G_Mine, (.list G_Span), G_Fumes, (.list (.int .i64)), (.int .i64), (.int .i64), (.int .i64)] [(.int .i64), (.int .i64)] (fun x => clearance_Until N x.1 x.2.1 x.2.2.1 x.2.2.2.1 x.2.2.2.2.1 x.2.2.2.2.2.1 x.2.2.2.2.2.2)), (19, pureE [G_Mine, (.list G_Span), (.int .i64)] [(.list (.int .i64))] (fun x => clearance_Sources N x.1 x.2.1 x.2.2))]
def law35_awake (N : Nat) : Option Bool :=
  Option.bind (clearance_Start N ([(0, true), (0, false)], [(0, (1, (100, (10, (true, (false, ((1, 1), (0, 0))))))))]) [0] 1000 0) fun r1 =>
  Option.bind (clearance_Step N ([(0, true), (0, false)], [(0, (1, (100, (10, (true, (false, ((1, 1), (0, 0))))))))]) [(10000, 10000)] r1.1 100) fun r2 =>
  Option.bind (clearance_Until N ([(0, true), (0, false)], [(0, (1, (100, (10, (true, (false, ((1, 1), (0, 0))))))))]) [(10000, 10000)] r1.1 [0] 500 50 10) fun r3 =>
  bif (r1.2 == 0) then
    bif (r2.2 == 0) then
      bif (r3.2 == 0) then
        bif ((r2.1.2.length : Int) == 1) then
          bif inB 0 r2.1.2.length then
          bif ((r2.1.2.getD (0 : Int).toNat 0) == 500) then
            bif (r3.1 == 100) then
              Option.bind (clearance_Sources N ([(0, true), (0, false)], [(0, (1, (100, (10, (true, (false, ((1, 1), (0, 0))))))))]) [(10000, 10000)] 0) fun r5 =>
              some ((r5.length : Int) == 0)
            else
              some false
          else
            some false
          else none
        else
          some false
      else
        some false
    else
      some false
  else
    some false
theorem law35_awake_fn : FnOK Try.prog 8 73 (fun _ : Nat => false) law35_awake_C1.er [(.t 0)] := FnOK.mk' Try.func8 (by kernel_rfl) (by kernel_rfl) (by kernel_rfl) (by kernel_rfl) (by kernel_rfl)
theorem law35_awake_envok (N : Nat) : EnvOK Try.prog (law35_awake_E N) := .cons (pureE_ok (clearance_Start_pure N)) (.cons (pureE_ok (clearance_Step_pure N)) (.cons (pureE_ok (clearance_Until_pure N)) (.cons (pureE_ok (clearance_Sources_pure N)) (.nil))))
theorem law35_awake_pure (N : Nat) : PureOK Try.prog 8 [] [.bool] (fun x => law35_awake N) := pureOK (N := N) mixed law35_awake_fn (law35_awake_envok N) rfl (fun x => by kernel_rfl)
/-! made_Roll -/
def made_Roll_NE : List NS := [.keep [2], .out []]
def made_Roll_C4 : TC := .ret
def made_Roll_C3 : TC := (.pre [.keep [2], .out []] made_Roll_C4)
def made_Roll_C2 : TC := (.seq (.rg [⟨⟨some 3, (.mov (.t 0)), none⟩, {}⟩, ⟨⟨some 4, (.build [(.lst true []), (I 0)] [(0, (1, (.t 3)))]), none⟩, {}⟩, ⟨⟨some 5, (.box (.t 4)), none⟩, {}⟩, ⟨⟨some 2, (.mov (.t 5)), none⟩, {}⟩] none) made_Roll_C3)
def made_Roll_C1 : TC := (.seq (.rg [⟨⟨some 2, (.mov (.c (.v (.pointer none)))), none⟩, {}⟩] none) made_Roll_C2)
def made_Roll_E (N : Nat) : List (Nat × Ent) := []
def made_Roll (N : Nat) (a0 : List Int) : Option (T_Dice × Unit) :=
  some ((a0, 0), ())
theorem made_Roll_fn : FnOK Try.prog 9 6 (fun _ : Nat => false) made_Roll_C1.er [(.t 2)] := FnOK.mk' Try.func9 (by kernel_rfl) (by kernel_rfl) (by kernel_rfl) (by kernel_rfl) (by kernel_rfl)
theorem made_Roll_envok (N : Nat) : EnvOK Try.prog (made_Roll_E N) := .nil
theorem made_Roll_sf (N : Nat) : SFOK Try.prog 9 [none] [.v (.list (.int .i64))] [.n G_Dice] (fun x => made_Roll N x) := sfOK (N := N) (p := 0) (q := 0) (ns := made_Roll_NE) mixed made_Roll_fn (made_Roll_envok N) rfl rfl rfl (fun x => by kernel_rfl)
/-! made_Mod -/
def made_Mod_C5 : TC := .ret
def made_Mod_C3 : TC := (.cond (.t 6) (.seq (.rg [⟨⟨some 4, (.mov (.c (I 0))), none⟩, {}⟩] none) made_Mod_C5) .skip)
def made_Mod_C7 : TC := (.cond (.t 11) (.rg [⟨⟨some 12, (.mov (.t 0)), none⟩, {}⟩, ⟨⟨some 13, (.mov (.t 1)), none⟩, {}⟩, ⟨⟨some 14, (.bin .add (.t 12) (.t 13)), none⟩, {}⟩, ⟨⟨some 0, (.mov (.t 14)), none⟩, {}⟩] none) .skip)
def made_Mod_C9 : TC := .ret
def made_Mod_C8 : TC := (.seq (.rg [⟨⟨some 15, (.mov (.t 0)), none⟩, {}⟩, ⟨⟨some 4, (.mov (.t 15)), none⟩, {}⟩] none) made_Mod_C9)
def made_Mod_C6 : TC := (.seq (.seq (.rg [⟨⟨some 10, (.mov (.t 0)), none⟩, {}⟩, ⟨⟨some 11, (.bin .lss (.t 10) (.c (I 0))), none⟩, {}⟩] none) made_Mod_C7) made_Mod_C8)
def made_Mod_C4 : TC := (.seq (.rg [⟨⟨some 7, (.mov (.t 0)), none⟩, {}⟩, ⟨⟨some 8, (.mov (.t 1)), none⟩, {}⟩, ⟨⟨some 9, (.bin .rem (.t 7) (.t 8)), none⟩, {}⟩, ⟨⟨some 0, (.mov (.t 9)), none⟩, {}⟩] none) made_Mod_C6)
def made_Mod_C2 : TC := (.seq (.seq (.rg [⟨⟨some 5, (.mov (.t 1)), none⟩, {}⟩, ⟨⟨some 6, (.bin .lss (.t 5) (.c (I 1))), none⟩, {}⟩] none) made_Mod_C3) made_Mod_C4)
def made_Mod_C1 : TC := (.seq (.rg [⟨⟨some 4, (.mov (.c (I 0))), none⟩, {}⟩] none) made_Mod_C2)
def made_Mod_E (N : Nat) : List (Nat × Ent) := []
def made_Mod (N : Nat) (a0 : Int) (a1 : Int) : Option Int :=
  bif (decide (a1 < 1)) then
    some 0
  else
    bif a1 == 0 then none else
    bif (decide ((a0.tmod a1) < 0)) then
      some (W ((a0.tmod a1) + a1))
    else
      some (a0.tmod a1)
theorem made_Mod_fn : FnOK Try.prog 30 16 (fun _ : Nat => false) made_Mod_C1.er [(.t 4)] := FnOK.mk' Try.func30 (by kernel_rfl) (by kernel_rfl) (by kernel_rfl) (by kernel_rfl) (by kernel_rfl)
theorem made_Mod_envok (N : Nat) : EnvOK Try.prog (made_Mod_E N) := .nil
theorem made_Mod_pure (N : Nat) : PureOK Try.prog 30 [(.int .i64), (.int .i64)] [(.int .i64)] (fun x => made_Mod N x.1 x.2) := pureOK (N := N) mixed made_Mod_fn (made_Mod_envok N) rfl (fun x => by kernel_rfl)
/-! made_Dice_Next -/
def made_Dice_Next_NE : List NS := [.frzo 0, .keep [4], .out [0]]
def made_Dice_Next_C7 : TC := .ret
def made_Dice_Next_C5 : TC := (.pre [.frzo 0, .keep [4], .out [0]] made_Dice_Next_C7)
def made_Dice_Next_C3 : TC := (.cond (.t 14) (.seq (.rg [⟨⟨some 4, (.mov (.c (I 0))), none⟩, {}⟩] none) made_Dice_Next_C5) .skip)
def made_Dice_Next_C9 : TC := .ret
def made_Dice_Next_C8 : TC := (.pre [.frzo 0, .keep [4], .out [0]] made_Dice_Next_C9)
def made_Dice_Next_C6 : TC := (.seq (.rg [⟨⟨some 22, (.mov (.t 0)), none⟩, {}⟩, ⟨⟨some 23, (.nilck (.t 22)), none⟩, {}⟩, ⟨⟨some 24, (.fadr 0 (.t 23)), none⟩, {}⟩, ⟨⟨some 25, (.load false 1 (.t 24)), none⟩, {}⟩, ⟨⟨some 26, (.mov (.t 0)), none⟩, {}⟩, ⟨⟨some 27, (.nilck (.t 26)), none⟩, {}⟩, ⟨⟨some 28, (.fadr 1 (.t 27)), none⟩, {}⟩,
  ⟨⟨some 29, (.load false 1 (.t 28)), none⟩, {}⟩, ⟨⟨some 30, (.bin .sub (.t 29) (.c (I 1))), none⟩, {}⟩, ⟨⟨some 31, (.iadrS 1 (.t 25) (.t 30)), none⟩, {}⟩, ⟨⟨some 32, (.load false 1 (.t 31)), none⟩, {}⟩, ⟨⟨some 33, (.mov (.t 1)), none⟩, {}⟩, ⟨⟨some 34, (.call (.c (.fn 30 [])) [(.t 32), (.t 33)]),
  none⟩, {}⟩, ⟨⟨some 4, (.mov (.t 34)), none⟩, {}⟩] (some [])) made_Dice_Next_C8)
def made_Dice_Next_C4 : TC := (.seq (.rg [⟨⟨some 15, (.mov (.t 0)), none⟩, {}⟩, ⟨⟨some 16, (.nilck (.t 15)), none⟩, {}⟩, ⟨⟨some 17, (.fadr 1 (.t 16)), none⟩, {}⟩, ⟨⟨some 18, (.load false 1 (.t 17)), none⟩, {}⟩, ⟨⟨some 19, (.bin .add (.t 18) (.c (I 1))), none⟩, {}⟩, ⟨⟨some 20, (.nilck (.t 15)), none⟩, {}⟩, ⟨⟨some 21, (.fadr 1 (.t
  20)), none⟩, {}⟩, ⟨⟨none, (.store 1 (.t 21) (.t 19)), none⟩, {}⟩] none) made_Dice_Next_C6)
def made_Dice_Next_C2 : TC := (.seq (.seq (.rg [⟨⟨some 5, (.mov (.t 0)), none⟩, {}⟩, ⟨⟨some 6, (.nilck (.t 5)), none⟩, {}⟩, ⟨⟨some 7, (.fadr 1 (.t 6)), none⟩, {}⟩, ⟨⟨some 8, (.load false 1 (.t 7)), none⟩, {}⟩, ⟨⟨some 9, (.mov (.t 0)), none⟩, {}⟩, ⟨⟨some 10, (.nilck (.t 9)), none⟩, {}⟩, ⟨⟨some 11, (.fadr 0 (.t 10)), none⟩, {}⟩,
  ⟨⟨some 12, (.load false 1 (.t 11)), none⟩, {}⟩, ⟨⟨some 13, (.len (.t 12)), none⟩, {}⟩, ⟨⟨some 14, (.bin .geq (.t 8) (.t 13)), none⟩, {}⟩] (some [])) made_Dice_Next_C3) made_Dice_Next_C4)
def made_Dice_Next_C1 : TC := (.seq (.rg [⟨⟨some 4, (.mov (.c (I 0))), none⟩, {}⟩] none) made_Dice_Next_C2)
def made_Dice_Next_E (N : Nat) : List (Nat × Ent) := [(30, pureE [(.int .i64), (.int .i64)] [(.int .i64)] (fun x => made_Mod N x.1 x.2))]
def made_Dice_Next (N : Nat) (a0 : T_Dice) (a1 : Int) : Option (Int × T_Dice) :=
  bif (decide (a0.2 ≥ (a0.1.length : Int))) then
    some (0, a0)
  else
    bif inB (W ((W (a0.2 + 1)) - 1)) a0.1.length then
    Option.bind (made_Mod N (a0.1.getD (W ((W (a0.2 + 1)) - 1)).toNat 0) a1) fun r2 =>
    some (r2, (a0.1, W (a0.2 + 1)))
    else none
theorem made_Dice_Next_fn : FnOK Try.prog 17 35 (fun _ : Nat => false) made_Dice_Next_C1.er [(.t 4)] := FnOK.mk' Try.func17 (by kernel_rfl) (by kernel_rfl) (by kernel_rfl) (by kernel_rfl) (by kernel_rfl)
theorem made_Dice_Next_envok (N : Nat) : EnvOK Try.prog (made_Dice_Next_E N) := .cons (pureE_ok (made_Mod_pure N)) (.nil)
theorem made_Dice_Next_sf (N : Nat) : SFOK Try.prog 17 [none, none] [.b (.v G_Dice), .v (.int .i64)] [.v (.int .i64)] (fun x => made_Dice_Next N x.1 x.2) := sfOK (N := N) (p := 1) (q := 1) (ns := made_Dice_Next_NE) mixed made_Dice_Next_fn (made_Dice_Next_envok N) rfl rfl rfl (fun x => by kernel_rfl)
/-! made_Dice_Of -/
def made_Dice_Of_NE : List NS := [.frzo 0, .keep [4], .out [0]]
def made_Dice_Of_C4 : TC := .ret
def made_Dice_Of_C3 : TC := (.pre [.frzo 0, .keep [4], .out [0]] made_Dice_Of_C4)
def made_Dice_Of_C2 : TC := (.seq (.rg [⟨⟨some 5, (.mov (.t 1)), none⟩, {}⟩, ⟨⟨some 6, (.mov (.t 0)), none⟩, {}⟩, ⟨⟨some 7, (.mov (.t 1)), none⟩, {}⟩, ⟨⟨some 8, (.len (.t 7)), none⟩, {}⟩, ⟨⟨some 9, (.call (.c (.fn 17 [])) [(.t 6), (.t 8)]), none⟩, {}⟩, ⟨⟨some 10, (.iadrS 1 (.t 5) (.t 9)), none⟩, {}⟩, ⟨⟨some 11, (.load false 1
  (.t 10)), none⟩, {}⟩, ⟨⟨some 4, (.mov (.t 11)), none⟩, {}⟩] none) made_Dice_Of_C3)
def made_Dice_Of_C1 : TC := (.seq (.rg [⟨⟨some 4, (.mov (.c (I 0))), none⟩, {}⟩] none) made_Dice_Of_C2)
def made_Dice_Of_E (N : Nat) : List (Nat × Ent) := [(17, sfE [none, none] [.b (.v G_Dice), .v (.int .i64)] [.v (.int .i64)] (fun x => made_Dice_Next N x.1 x.2))]
def made_Dice_Of (N : Nat) (a0 : T_Dice) (a1 : List Int) : Option (Int × T_Dice) :=
  Option.bind (made_Dice_Next N a0 (a1.length : Int)) fun r1 =>
  bif inB r1.1 a1.length then
  some (a1.getD r1.1.toNat 0, r1.2)
  else none
theorem made_Dice_Of_fn : FnOK Try.prog 14 12 (fun _ : Nat => false) made_Dice_Of_C1.er [(.t 4)] := FnOK.mk' Try.func14 (by kernel_rfl) (by kernel_rfl) (by kernel_rfl) (by kernel_rfl) (by kernel_rfl)
theorem made_Dice_Of_envok (N : Nat) : EnvOK Try.prog (made_Dice_Of_E N) := .cons (sfE_ok (made_Dice_Next_sf N)) (.nil)
theorem made_Dice_Of_sf (N : Nat) : SFOK Try.prog 14 [none, none] [.b (.v G_Dice), .v (.list (.int .i64))] [.v (.int .i64)] (fun x => made_Dice_Of N x.1 x.2) := sfOK (N := N) (p := 1) (q := 1) (ns := made_Dice_Of_NE) mixed made_Dice_Of_fn (made_Dice_Of_envok N) rfl rfl rfl (fun x => by kernel_rfl)
/-! made_Dice_One -/
def made_Dice_One_NE : List NS := [.frzo 0, .keep [4], .out [0]]
def made_Dice_One_C4 : TC := .ret
def made_Dice_One_C3 : TC := (.pre [.frzo 0, .keep [4], .out [0]] made_Dice_One_C4)
def made_Dice_One_C2 : TC := (.seq (.rg [⟨⟨some 5, (.mov (.t 0)), none⟩, {}⟩, ⟨⟨some 6, (.mov (.t 1)), none⟩, {}⟩, ⟨⟨some 7, (.call (.c (.fn 17 [])) [(.t 5), (.t 6)]), none⟩, {}⟩, ⟨⟨some 8, (.mov (.t 1)), none⟩, {}⟩, ⟨⟨some 9, (.bin .sub (.t 8) (.c (I 1))), none⟩, {}⟩, ⟨⟨some 10, (.bin .eql (.t 7) (.t 9)), none⟩, {}⟩, ⟨⟨some 4,
  (.mov (.t 10)), none⟩, {}⟩] none) made_Dice_One_C3)
def made_Dice_One_C1 : TC := (.seq (.rg [⟨⟨some 4, (.mov (.c (B false))), none⟩, {}⟩] none) made_Dice_One_C2)
def made_Dice_One_E (N : Nat) : List (Nat × Ent) := [(17, sfE [none, none] [.b (.v G_Dice), .v (.int .i64)] [.v (.int .i64)] (fun x => made_Dice_Next N x.1 x.2))]
def made_Dice_One (N : Nat) (a0 : T_Dice) (a1 : Int) : Option (Bool × T_Dice) :=
  Option.bind (made_Dice_Next N a0 a1) fun r1 =>
  some ((r1.1 == (W (a1 - 1))), r1.2)
theorem made_Dice_One_fn : FnOK Try.prog 23 11 (fun _ : Nat => false) made_Dice_One_C1.er [(.t 4)] := FnOK.mk' Try.func23 (by kernel_rfl) (by kernel_rfl) (by kernel_rfl) (by kernel_rfl) (by kernel_rfl)
theorem made_Dice_One_envok (N : Nat) : EnvOK Try.prog (made_Dice_One_E N) := .cons (sfE_ok (made_Dice_Next_sf N)) (.nil)
theorem made_Dice_One_sf (N : Nat) : SFOK Try.prog 23 [none, none] [.b (.v G_Dice), .v (.int .i64)] [.v .bool] (fun x => made_Dice_One N x.1 x.2) := sfOK (N := N) (p := 1) (q := 1) (ns := made_Dice_One_NE) mixed made_Dice_One_fn (made_Dice_One_envok N) rfl rfl rfl (fun x => by kernel_rfl)
/-! made_Dice_Mine -/
def made_Dice_Mine_NE : List NS := [.frzb 2, .frzo 0, .keep [2], .out [0]]
def made_Dice_Mine_N1 : List NS := [.ownc 3 0 G_Place, .keep [0, 2, 3, 4, 5], .cmp]
def made_Dice_Mine_N2 : List NS := [.ownc 3 1 G_Road, .keep [0, 2, 3, 4, 6, 7], .cmp]
def made_Dice_Mine_N3 : List NS := [.ownc 3 1 G_Road, .keep [0, 2, 3, 4, 6, 9], .cmp]
def made_Dice_Mine_C9 : TC := (.cond (.t 83) .skip (.exit 4))
def made_Dice_Mine_C35 : TC := (.cond (.t 116) (.rg [⟨⟨some 117, (.fadr 1 (.t 3)), none⟩, {}⟩, ⟨⟨some 118, (.load false 1 (.t 117)), none⟩, {}⟩, ⟨⟨some 119, (.load true 10 (.t 10)), none⟩, {}⟩, ⟨⟨some 120, (.bslice false 10 [(I 0), (I 0), (I 0), (I 0), (B false), (B false), (I 0), (I 0), (I 0), (I 0)] 1 [(0, (.t 119))]), none⟩,
  ⟨G_Road, none⟩⟩, ⟨⟨some 121, (.app 10 72 (.t 118) (.t 120)), none⟩, {}⟩, ⟨⟨some 122, (.fadr 1 (.t 3)), none⟩, {}⟩, ⟨⟨none, (.store 1 (.t 122) (.t 121)), none⟩, {}⟩] none) .skip)
def made_Dice_Mine_C32 : TC := (.seq (.rg [⟨⟨some 112, (.fadr 0 (.t 10)), none⟩, {}⟩, ⟨⟨some 113, (.load false 1 (.t 112)), none⟩, {}⟩, ⟨⟨some 114, (.fadr 1 (.t 10)), none⟩, {}⟩, ⟨⟨some 115, (.load false 1 (.t 114)), none⟩, {}⟩, ⟨⟨some 116, (.bin .neq (.t 113) (.t 115)), none⟩, {}⟩] none) made_Dice_Mine_C35)
def made_Dice_Mine_C28 : TC := (.seq (.rg [⟨⟨some 105, (.mov (.t 0)), none⟩, {}⟩, ⟨⟨some 106, (.call (.c (.fn 17 [])) [(.t 105), (.c (I 5))]), none⟩, {}⟩, ⟨⟨some 107, (.bin .gtr (.t 106) (.c (I 0))), none⟩, {}⟩, ⟨⟨some 108, (.mov (.t 0)), none⟩, {}⟩, ⟨⟨some 109, (.call (.c (.fn 23 [])) [(.t 108), (.c (I 6))]), none⟩, {}⟩, ⟨⟨some
  110, (.fadr 4 (.t 10)), none⟩, {}⟩, ⟨⟨none, (.store 1 (.t 110) (.t 107)), none⟩, {}⟩, ⟨⟨some 111, (.fadr 5 (.t 10)), none⟩, {}⟩, ⟨⟨none, (.store 1 (.t 111) (.t 109)), none⟩, {}⟩] none) made_Dice_Mine_C32)
def made_Dice_Mine_C20 : TC := (.seq (.rg [⟨⟨some 87, (.mov (.t 0)), none⟩, {}⟩, ⟨⟨some 88, (.mov (.t 4)), none⟩, {}⟩, ⟨⟨some 89, (.call (.c (.fn 17 [])) [(.t 87), (.t 88)]), none⟩, {}⟩, ⟨⟨some 90, (.mov (.t 0)), none⟩, {}⟩, ⟨⟨some 91, (.mov (.t 4)), none⟩, {}⟩, ⟨⟨some 92, (.call (.c (.fn 17 [])) [(.t 90), (.t 91)]), none⟩, {}⟩,
  ⟨⟨some 93, (.mov (.t 0)), none⟩, {}⟩, ⟨⟨some 94, (.bslice false 1 [(I 0)] 3 [(0, (.c (I 11))), (1, (.c (I 59))), (2, (.c (I 199)))]), none⟩, ⟨(.int .i64), none⟩⟩, ⟨⟨some 95, (.call (.c (.fn 14 [])) [(.t 93), (.t 94)]), none⟩, {}⟩, ⟨⟨some 96, (.bin .add (.c (I 1)) (.t 95)), none⟩, {}⟩, ⟨⟨some 97,
  (.mov (.t 0)), none⟩, {}⟩, ⟨⟨some 98, (.bslice false 1 [(I 0)] 2 [(0, (.c (I 9))), (1, (.c (I 3)))]), none⟩, ⟨(.int .i64), none⟩⟩, ⟨⟨some 99, (.call (.c (.fn 14 [])) [(.t 97), (.t 98)]), none⟩, {}⟩, ⟨⟨some 100, (.bin .add (.c (I 1)) (.t 99)), none⟩, {}⟩, ⟨⟨some 101, (.fadr 0 (.t 10)), none⟩, {}⟩,
  ⟨⟨none, (.store 1 (.t 101) (.t 89)), none⟩, {}⟩, ⟨⟨some 102, (.fadr 1 (.t 10)), none⟩, {}⟩, ⟨⟨none, (.store 1 (.t 102) (.t 92)), none⟩, {}⟩, ⟨⟨some 103, (.fadr 2 (.t 10)), none⟩, {}⟩, ⟨⟨none, (.store 1 (.t 103) (.t 96)), none⟩, {}⟩, ⟨⟨some 104, (.fadr 3 (.t 10)), none⟩, {}⟩, ⟨⟨none, (.store 1 (.t
  104) (.t 100)), none⟩, {}⟩] none) made_Dice_Mine_C28)
def made_Dice_Mine_C21 : TC := (.rg [⟨⟨some 84, (.mov (.t 9)), none⟩, {}⟩, ⟨⟨some 85, (.bin .sub (.t 84) (.c (I 1))), none⟩, {}⟩, ⟨⟨some 9, (.mov (.t 85)), none⟩, {}⟩] none)
def made_Dice_Mine_C10 : TC := (.seq (.block 5 (.seq (.rg [⟨⟨some 86, (.load true 10 (.t 6)), none⟩, {}⟩, ⟨⟨some 10, (.alloc [(I 0), (I 0), (I 0), (I 0), (B false), (B false), (I 0), (I 0), (I 0), (I 0)]), none⟩, {}⟩, ⟨⟨none, (.store 10 (.t 10) (.t 86)), none⟩, {}⟩] none) made_Dice_Mine_C20)) made_Dice_Mine_C21)
def made_Dice_Mine_C1 : TC := (.seq (.seq (.rg [⟨⟨some 76, (.mov (.t 9)), none⟩, {}⟩, ⟨⟨some 77, (.bin .gtr (.t 76) (.c (I 0))), none⟩, {}⟩, ⟨⟨some 78, (.mov (.t 77)), none⟩, {}⟩, ⟨⟨some 79, (.fadr 1 (.t 3)), some (78, true)⟩, {}⟩, ⟨⟨some 80, (.load false 1 (.t 79)), some (78, true)⟩, {}⟩, ⟨⟨some 81, (.len (.t 80)), some (78,
  true)⟩, {}⟩, ⟨⟨some 82, (.bin .lss (.t 81) (.c (I 10))), some (78, true)⟩, {}⟩, ⟨⟨some 83, (.pick (.t 78) (.t 82) (.c (B false))), none⟩, {}⟩] none) made_Dice_Mine_C9) made_Dice_Mine_C10)
def made_Dice_Mine_C29 : TC := .ret
def made_Dice_Mine_C22 : TC := (.pre [.frzb 2, .frzo 0, .keep [2], .out [0]] made_Dice_Mine_C29)
def made_Dice_Mine_C11 : TC := (.seq (.rg [⟨⟨some 123, (.load true 2 (.t 3)), none⟩, {}⟩, ⟨⟨none, (.store 2 (.t 2) (.t 123)), none⟩, {}⟩] none) made_Dice_Mine_C22)
def made_Dice_Mine_C2 : TC := (.pre [.frzb 3] made_Dice_Mine_C11)
def made_Dice_Mine_C12 : TC := (.cond (.t 44) .skip (.exit 2))
def made_Dice_Mine_C30 : TC := (.rg [⟨⟨some 68, (.fadr 1 (.t 3)), none⟩, {}⟩, ⟨⟨some 69, (.load false 1 (.t 68)), none⟩, {}⟩, ⟨⟨some 70, (.load true 10 (.t 8)), none⟩, {}⟩, ⟨⟨some 71, (.bslice false 10 [(I 0), (I 0), (I 0), (I 0), (B false), (B false), (I 0), (I 0), (I 0), (I 0)] 1 [(0, (.t 70))]), none⟩, ⟨G_Road, none⟩⟩, ⟨⟨some
  72, (.app 10 72 (.t 69) (.t 71)), none⟩, {}⟩, ⟨⟨some 73, (.fadr 1 (.t 3)), none⟩, {}⟩, ⟨⟨none, (.store 1 (.t 73) (.t 72)), none⟩, {}⟩] none)
def made_Dice_Mine_C23 : TC := (.seq (.rg [⟨⟨some 48, (.mov (.t 7)), none⟩, {}⟩, ⟨⟨some 49, (.bin .sub (.t 48) (.c (I 1))), none⟩, {}⟩, ⟨⟨some 50, (.mov (.t 0)), none⟩, {}⟩, ⟨⟨some 51, (.mov (.t 7)), none⟩, {}⟩, ⟨⟨some 52, (.mm false [(.t 51), (.c (I 2))]), none⟩, {}⟩, ⟨⟨some 53, (.call (.c (.fn 17 [])) [(.t 50), (.t 52)]), none⟩,
  {}⟩, ⟨⟨some 54, (.bin .sub (.t 49) (.t 53)), none⟩, {}⟩, ⟨⟨some 55, (.mov (.t 7)), none⟩, {}⟩, ⟨⟨some 56, (.mov (.t 0)), none⟩, {}⟩, ⟨⟨some 57, (.bslice false 1 [(I 0)] 4 [(0, (.c (I 11))), (1, (.c (I 59))), (2, (.c (I 119))), (3, (.c (I 4)))]), none⟩, ⟨(.int .i64), none⟩⟩, ⟨⟨some 58, (.call (.c
  (.fn 14 [])) [(.t 56), (.t 57)]), none⟩, {}⟩, ⟨⟨some 59, (.bin .add (.c (I 1)) (.t 58)), none⟩, {}⟩, ⟨⟨some 60, (.mov (.t 0)), none⟩, {}⟩, ⟨⟨some 61, (.bslice false 1 [(I 0)] 3 [(0, (.c (I 9))), (1, (.c (I 3))), (2, (.c (I 19)))]), none⟩, ⟨(.int .i64), none⟩⟩, ⟨⟨some 62, (.call (.c (.fn 14 []))
  [(.t 60), (.t 61)]), none⟩, {}⟩, ⟨⟨some 63, (.bin .add (.c (I 1)) (.t 62)), none⟩, {}⟩, ⟨⟨some 64, (.fadr 0 (.t 8)), none⟩, {}⟩, ⟨⟨none, (.store 1 (.t 64) (.t 54)), none⟩, {}⟩, ⟨⟨some 65, (.fadr 1 (.t 8)), none⟩, {}⟩, ⟨⟨none, (.store 1 (.t 65) (.t 55)), none⟩, {}⟩, ⟨⟨some 66, (.fadr 2 (.t 8)),
  none⟩, {}⟩, ⟨⟨none, (.store 1 (.t 66) (.t 59)), none⟩, {}⟩, ⟨⟨some 67, (.fadr 3 (.t 8)), none⟩, {}⟩, ⟨⟨none, (.store 1 (.t 67) (.t 63)), none⟩, {}⟩] none) made_Dice_Mine_C30)
def made_Dice_Mine_C24 : TC := (.rg [⟨⟨some 45, (.mov (.t 7)), none⟩, {}⟩, ⟨⟨some 46, (.bin .add (.t 45) (.c (I 1))), none⟩, {}⟩, ⟨⟨some 7, (.mov (.t 46)), none⟩, {}⟩] none)
def made_Dice_Mine_C13 : TC := (.seq (.block 3 (.seq (.rg [⟨⟨some 47, (.load true 10 (.t 6)), none⟩, {}⟩, ⟨⟨some 8, (.alloc [(I 0), (I 0), (I 0), (I 0), (B false), (B false), (I 0), (I 0), (I 0), (I 0)]), none⟩, {}⟩, ⟨⟨none, (.store 10 (.t 8) (.t 47)), none⟩, {}⟩] none) made_Dice_Mine_C23)) made_Dice_Mine_C24)
def made_Dice_Mine_C3 : TC := (.seq (.seq (.rg [⟨⟨some 42, (.mov (.t 7)), none⟩, {}⟩, ⟨⟨some 43, (.mov (.t 4)), none⟩, {}⟩, ⟨⟨some 44, (.bin .lss (.t 42) (.t 43)), none⟩, {}⟩] none) made_Dice_Mine_C12) made_Dice_Mine_C13)
def made_Dice_Mine_C14 : TC := (.block 4 (.loop made_Dice_Mine_N3 made_Dice_Mine_C1))
def made_Dice_Mine_C4 : TC := (.seq (.seq (.rg [⟨⟨some 74, (.mov (.t 0)), none⟩, {}⟩, ⟨⟨some 75, (.call (.c (.fn 17 [])) [(.t 74), (.c (I 4))]), none⟩, {}⟩, ⟨⟨some 9, (.mov (.t 75)), none⟩, {}⟩] none) made_Dice_Mine_C14) made_Dice_Mine_C2)
def made_Dice_Mine_C15 : TC := (.cond (.t 22) .skip (.exit 0))
def made_Dice_Mine_C25 : TC := (.rg [⟨⟨some 23, (.mov (.t 5)), none⟩, {}⟩, ⟨⟨some 24, (.bin .add (.t 23) (.c (I 1))), none⟩, {}⟩, ⟨⟨some 5, (.mov (.t 24)), none⟩, {}⟩] none)
def made_Dice_Mine_C16 : TC := (.seq (.block 1 (.rg [⟨⟨some 25, (.fadr 0 (.t 3)), none⟩, {}⟩, ⟨⟨some 26, (.load false 1 (.t 25)), none⟩, {}⟩, ⟨⟨some 27, (.mov (.t 0)), none⟩, {}⟩, ⟨⟨some 28, (.call (.c (.fn 17 [])) [(.t 27), (.c (I 4))]), none⟩, {}⟩, ⟨⟨some 29, (.bin .mul (.c (I (-10))) (.t 28)), none⟩, {}⟩, ⟨⟨some 30, (.mov (.t
  5)), none⟩, {}⟩, ⟨⟨some 31, (.bin .eql (.t 30) (.c (I 0))), none⟩, {}⟩, ⟨⟨some 32, (.mov (.t 31)), none⟩, {}⟩, ⟨⟨some 33, (.mov (.t 0)), some (32, false)⟩, {}⟩, ⟨⟨some 34, (.call (.c (.fn 23 [])) [(.t 33), (.c (I 6))]), some (32, false)⟩, {}⟩, ⟨⟨some 35, (.pick (.t 32) (.c (B true)) (.t 34)),
  none⟩, {}⟩, ⟨⟨some 36, (.build [(I 0), (B false)] [(0, (1, (.t 29))), (1, (1, (.t 35)))]), none⟩, {}⟩, ⟨⟨some 37, (.bslice false 2 [(I 0), (B false)] 1 [(0, (.t 36))]), none⟩, ⟨G_Place, none⟩⟩, ⟨⟨some 38, (.app 2 16 (.t 26) (.t 37)), none⟩, {}⟩, ⟨⟨some 39, (.fadr 0 (.t 3)), none⟩, {}⟩, ⟨⟨none,
  (.store 1 (.t 39) (.t 38)), none⟩, {}⟩] (some [(0, 3), (1, 3), (0, 9), (1, 9)]))) made_Dice_Mine_C25)
def made_Dice_Mine_C5 : TC := (.seq (.seq (.rg [⟨⟨some 20, (.mov (.t 5)), none⟩, {}⟩, ⟨⟨some 21, (.mov (.t 4)), none⟩, {}⟩, ⟨⟨some 22, (.bin .lss (.t 20) (.t 21)), none⟩, {}⟩] none) made_Dice_Mine_C15) made_Dice_Mine_C16)
def made_Dice_Mine_C26 : TC := (.block 2 (.loop made_Dice_Mine_N2 made_Dice_Mine_C3))
def made_Dice_Mine_C17 : TC := (.seq (.seq (.rg [⟨⟨some 7, (.mov (.c (I 1))), none⟩, {}⟩] none) made_Dice_Mine_C26) made_Dice_Mine_C4)
def made_Dice_Mine_C6 : TC := (.seq (.rg [⟨⟨some 40, (.build [(I 0), (I 0)] [(0, (1, (.c (I 1)))), (1, (1, (.c (I 1))))]), none⟩, {}⟩, ⟨⟨some 41, (.build [(I 0), (I 0), (I 0), (I 0), (B false), (B false), (I 0), (I 0), (I 0), (I 0)] [(2, (1, (.c (I 12)))), (3, (1, (.c (I 10)))), (4, (1, (.c (B true)))), (6, (2, (.t 40)))]),
  none⟩, {}⟩, ⟨⟨some 6, (.alloc [(I 0), (I 0), (I 0), (I 0), (B false), (B false), (I 0), (I 0), (I 0), (I 0)]), none⟩, {}⟩, ⟨⟨none, (.store 10 (.t 6) (.t 41)), none⟩, {}⟩] none) made_Dice_Mine_C17)
def made_Dice_Mine_C18 : TC := (.block 0 (.loop made_Dice_Mine_N1 made_Dice_Mine_C5))
def made_Dice_Mine_C7 : TC := (.seq (.seq (.rg [⟨⟨some 5, (.mov (.c (I 0))), none⟩, {}⟩] none) made_Dice_Mine_C18) made_Dice_Mine_C6)
def made_Dice_Mine_C33 : TC := (.cond (.t 19) (.rg [⟨⟨some 4, (.mov (.c (I 4))), none⟩, {}⟩] none) .skip)
def made_Dice_Mine_C34 : TC := (.join [.keep [0, 2, 3, 4], .cmp] made_Dice_Mine_C7)
def made_Dice_Mine_C31 : TC := (.seq (.seq (.rg [⟨⟨some 14, (.mov (.t 0)), none⟩, {}⟩, ⟨⟨some 15, (.nilck (.t 14)), none⟩, {}⟩, ⟨⟨some 16, (.fadr 0 (.t 15)), none⟩, {}⟩, ⟨⟨some 17, (.load false 1 (.t 16)), none⟩, {}⟩, ⟨⟨some 18, (.len (.t 17)), none⟩, {}⟩, ⟨⟨some 19, (.bin .eql (.t 18) (.c (I 0))), none⟩, {}⟩] none)
  made_Dice_Mine_C33) made_Dice_Mine_C34)
def made_Dice_Mine_C27 : TC := (.seq (.rg [⟨⟨some 11, (.mov (.t 0)), none⟩, {}⟩, ⟨⟨some 12, (.call (.c (.fn 17 [])) [(.t 11), (.c (I 6))]), none⟩, {}⟩, ⟨⟨some 13, (.bin .add (.c (I 2)) (.t 12)), none⟩, {}⟩, ⟨⟨some 4, (.mov (.t 13)), none⟩, {}⟩] none) made_Dice_Mine_C31)
def made_Dice_Mine_C19 : TC := (.seq (.rg [⟨⟨some 3, (.alloc [(.lst true []), (.lst true [])]), none⟩, {}⟩] none) made_Dice_Mine_C27)
def made_Dice_Mine_C8 : TC := (.seq (.rg [⟨⟨some 2, (.alloc [(.lst true []), (.lst true [])]), none⟩, {}⟩] none) made_Dice_Mine_C19)
def made_Dice_Mine_E (N : Nat) : List (Nat × Ent) := [(17, sfE [none, none] [.b (.v G_Dice), .v (.int .i64)] [.v (.int .i64)] (fun x => made_Dice_Next N x.1 x.2)), (23, sfE [none, none] [.b (.v G_Dice), .v (.int .i64)] [.v .bool] (fun x => made_Dice_One N x.1 x.2)), (14, sfE [none, none] [.b (.v G_Dice), .v (.list (.int .i64))] [.v (.int .i64)] (fun x => made_Dice_Of N x.1 x.2))]
def made_Dice_Mine_L3 (N : Nat) (n : Nat) (x62 : Int) (x63 : Int) (x64 : List Int) (x65 : Int) (x66 : Int) (x67 : Int) (x68 : Int) (x69 : Int) (x70 : Bool) (x71 : Bool) (x72 : Int) (x73 : Int) (x74 : Int) (x75 : Int) (x76 : List T_Place) (x77 : List T_Road) : Option (T_Mine × T_Dice) := loopN (normI 1 made_Dice_Mine_N3) (run (made_Dice_Mine_E N) N 1 made_Dice_Mine_C1) n ⟨[(0, .ptr 0 0 0), (2, .ptr 1 0 0), (3, .ptr 2 0 0), (4, .int .i64 x62), (6, .ptr 3 0 0), (9, .int .i64 x63)], [some (.box 0 [.lst false (.int .i64) x64, .int .i64 x65]), some (.box 0 [.nil, .nil]), some (.box 0 [.whole 4, .whole 5]), some (.box 0 [.int .i64 x66, .int .i64 x67, .int .i64 x68, .int .i64 x69, .bool x70, .bool x71, .int .i64 x72, .int .i64 x73, .int .i64 x74, .int .i64 x75]), some (.arr G_Place x76), some (.arr G_Road x77)]⟩ (blkK 4 (seqK (run (made_Dice_Mine_E N) N 1 made_Dice_Mine_C2) (finS made_Dice_Mine_NE [(.cell 2 true 2)] [.b (.v G_Dice)] [.v G_Mine] 1 1)))
def made_Dice_Mine_L2 (N : Nat) (n : Nat) (x24 : Int) (x25 : Int) (x26 : List Int) (x27 : Int) (x28 : Int) (x29 : Int) (x30 : Int) (x31 : Int) (x32 : Bool) (x33 : Bool) (x34 : Int) (x35 : Int) (x36 : Int) (x37 : Int) (x38 : List T_Place) (x39 : List T_Road) : Option (T_Mine × T_Dice) := loopN (normI 1 made_Dice_Mine_N2) (run (made_Dice_Mine_E N) N 1 made_Dice_Mine_C3) n ⟨[(0, .ptr 0 0 0), (2, .ptr 1 0 0), (3, .ptr 2 0 0), (4, .int .i64 x24), (6, .ptr 3 0 0), (7, .int .i64 x25)], [some (.box 0 [.lst false (.int .i64) x26, .int .i64 x27]), some (.box 0 [.nil, .nil]), some (.box 0 [.whole 4, .whole 5]), some (.box 0 [.int .i64 x28, .int .i64 x29, .int .i64 x30, .int .i64 x31, .bool x32, .bool x33, .int .i64 x34, .int .i64 x35, .int .i64 x36, .int .i64 x37]), some (.arr G_Place x38), some (.arr G_Road x39)]⟩ (blkK 2 (seqK (run (made_Dice_Mine_E N) N 1 made_Dice_Mine_C4) (finS made_Dice_Mine_NE [(.cell 2 true 2)] [.b (.v G_Dice)] [.v G_Mine] 1 1)))
def made_Dice_Mine_L1 (N : Nat) (n : Nat) (x5 : Int) (x6 : Int) (x7 : List Int) (x8 : Int) (x9 : List T_Place) : Option (T_Mine × T_Dice) := loopN (normI 1 made_Dice_Mine_N1) (run (made_Dice_Mine_E N) N 1 made_Dice_Mine_C5) n ⟨[(0, .ptr 0 0 0), (2, .ptr 1 0 0), (3, .ptr 2 0 0), (4, .int .i64 x5), (5, .int .i64 x6)], [some (.box 0 [.lst false (.int .i64) x7, .int .i64 x8]), some (.box 0 [.nil, .nil]), some (.box 0 [.whole 3, .nil]), some (.arr G_Place x9)]⟩ (blkK 0 (seqK (run (made_Dice_Mine_E N) N 1 made_Dice_Mine_C6) (finS made_Dice_Mine_NE [(.cell 2 true 2)] [.b (.v G_Dice)] [.v G_Mine] 1 1)))
def made_Dice_Mine_J1 (N : Nat) (x2 : Int) (x3 : List Int) (x4 : Int) : Option (T_Mine × T_Dice) := joinN (run (made_Dice_Mine_E N) N 1 made_Dice_Mine_C7) N ⟨[(0, .ptr 0 0 0), (2, .ptr 1 0 0), (3, .ptr 2 0 0), (4, .int .i64 x2)], [some (.box 0 [.lst false (.int .i64) x3, .int .i64 x4]), some (.box 0 [.nil, .nil]), some (.box 0 [.nil, .nil])]⟩ (finS made_Dice_Mine_NE [(.cell 2 true 2)] [.b (.v G_Dice)] [.v G_Mine] 1 1)
theorem made_Dice_Mine_L3_zero (N : Nat) (x62 : Int) (x63 : Int) (x64 : List Int) (x65 : Int) (x66 : Int) (x67 : Int) (x68 : Int) (x69 : Int) (x70 : Bool) (x71 : Bool) (x72 : Int) (x73 : Int) (x74 : Int) (x75 : Int) (x76 : List T_Place) (x77 : List T_Road) : made_Dice_Mine_L3 N 0 x62 x63 x64 x65 x66 x67 x68 x69 x70 x71 x72 x73 x74 x75 x76 x77 = none := rfl
theorem made_Dice_Mine_L3_succ (N : Nat) (n3 : Nat) (x62 : Int) (x63 : Int) (x64 : List Int) (x65 : Int) (x66 : Int) (x67 : Int) (x68 : Int) (x69 : Int) (x70 : Bool) (x71 : Bool) (x72 : Int) (x73 : Int) (x74 : Int) (x75 : Int) (x76 : List T_Place) (x77 : List T_Road) : made_Dice_Mine_L3 N (n3 + 1) x62 x63 x64 x65 x66 x67 x68 x69 x70 x71 x72 x73 x74 x75 x76 x77 =
  bif (decide (x63 > 0)) then
    bif (decide ((x77.length : Int) < 10)) then
      Option.bind (made_Dice_Next N (x64, x65) x62) fun r78 =>
      Option.bind (made_Dice_Next N r78.2 x62) fun r79 =>
      Option.bind (made_Dice_Of N r79.2 [11, 59, 199]) fun r80 =>
      Option.bind (made_Dice_Of N r80.2 [9, 3]) fun r81 =>
      Option.bind (made_Dice_Next N r81.2 5) fun r82 =>
      Option.bind (made_Dice_One N r82.2 6) fun r83 =>
      bif (r78.1 != r79.1) then
        bif fitsB (x77.length + 1) 72 then
        made_Dice_Mine_L3 N n3 x62 (W (x63 - 1)) r83.2.1 r83.2.2 x66 x67 x68 x69 x70 x71 x72 x73 x74 x75 x76 (x77 ++ [(r78.1, (r79.1, (W (1 + r80.1), (W (1 + r81.1), ((decide (r82.1 > 0)), (r83.1, ((x72, x73), (x74, x75))))))))])
        else none
      else
        made_Dice_Mine_L3 N n3 x62 (W (x63 - 1)) r83.2.1 r83.2.2 x66 x67 x68 x69 x70 x71 x72 x73 x74 x75 x76 x77
    else
      some ((x76, x77), (x64, x65))
  else
    some ((x76, x77), (x64, x65)) := by kernel_rfl
theorem made_Dice_Mine_L2_zero (N : Nat) (x24 : Int) (x25 : Int) (x26 : List Int) (x27 : Int) (x28 : Int) (x29 : Int) (x30 : Int) (x31 : Int) (x32 : Bool) (x33 : Bool) (x34 : Int) (x35 : Int) (x36 : Int) (x37 : Int) (x38 : List T_Place) (x39 : List T_Road) : made_Dice_Mine_L2 N 0 x24 x25 x26 x27 x28 x29 x30 x31 x32 x33 x34 x35 x36 x37 x38 x39 = none := rfl
theorem made_Dice_Mine_L2_succ (N : Nat) (n2 : Nat) (x24 : Int) (x25 : Int) (x26 : List Int) (x27 : Int) (x28 : Int) (x29 : Int) (x30 : Int) (x31 : Int) (x32 : Bool) (x33 : Bool) (x34 : Int) (x35 : Int) (x36 : Int) (x37 : Int) (x38 : List T_Place) (x39 : List T_Road) : made_Dice_Mine_L2 N (n2 + 1) x24 x25 x26 x27 x28 x29 x30 x31 x32 x33 x34 x35 x36 x37 x38 x39 =
  bif (decide (x25 < x24)) then
    Option.bind (made_Dice_Next N (x26, x27) (min x25 2)) fun r40 =>
    Option.bind (made_Dice_Of N r40.2 [11, 59, 119, 4]) fun r42 =>
    Option.bind (made_Dice_Of N r42.2 [9, 3, 19]) fun r43 =>
    bif fitsB (x39.length + 1) 72 then
    made_Dice_Mine_L2 N n2 x24 (W (x25 + 1)) r43.2.1 r43.2.2 x28 x29 x30 x31 x32 x33 x34 x35 x36 x37 x38 (x39 ++ [((W ((W (x25 - 1)) - r40.1)), (x25, (W (1 + r42.1), (W (1 + r43.1), (x32, (x33, ((x34, x35), (x36, x37))))))))])
    else none
  else
    Option.bind (made_Dice_Next N (x26, x27) 4) fun r61 =>
    made_Dice_Mine_L3 N N x24 r61.1 r61.2.1 r61.2.2 x28 x29 x30 x31 x32 x33 x34 x35 x36 x37 x38 x39 := by kernel_rfl
theorem made_Dice_Mine_L1_zero (N : Nat) (x5 : Int) (x6 : Int) (x7 : List Int) (x8 : Int) (x9 : List T_Place) : made_Dice_Mine_L1 N 0 x5 x6 x7 x8 x9 = none := rfl
theorem made_Dice_Mine_L1_succ (N : Nat) (n1 : Nat) (x5 : Int) (x6 : Int) (x7 : List Int) (x8 : Int) (x9 : List T_Place) : made_Dice_Mine_L1 N (n1 + 1) x5 x6 x7 x8 x9 =
  bif (decide (x6 < x5)) then
    Option.bind (made_Dice_Next N (x7, x8) 4) fun r10 =>
    bif (x6 == 0) then
      bif fitsB (x9.length + 1) 16 then
      made_Dice_Mine_L1 N n1 x5 (W (x6 + 1)) r10.2.1 r10.2.2 (x9 ++ [(W ((-10) * r10.1), true)])
      else none
    else
      Option.bind (made_Dice_One N r10.2 6) fun r17 =>
      bif fitsB (x9.length + 1) 16 then
      made_Dice_Mine_L1 N n1 x5 (W (x6 + 1)) r17.2.1 r17.2.2 (x9 ++ [(W ((-10) * r10.1), r17.1)])
      else none
  else
    made_Dice_Mine_L2 N N x5 1 x7 x8 0 0 12 10 true false 1 1 0 0 x9 [] := by kernel_rfl
theorem made_Dice_Mine_J1_eq (N : Nat) (x2 : Int) (x3 : List Int) (x4 : Int) : made_Dice_Mine_J1 (N + 1) x2 x3 x4 =
  made_Dice_Mine_L1 (N + 1) (N + 1) x2 0 x3 x4 [] := by kernel_rfl
def made_Dice_Mine (N : Nat) (a0 : T_Dice) : Option (T_Mine × T_Dice) :=
  Option.bind (made_Dice_Next N a0 6) fun r1 =>
  bif ((r1.2.1.length : Int) == 0) then
    made_Dice_Mine_J1 N 4 r1.2.1 r1.2.2
  else
    made_Dice_Mine_J1 N (W (2 + r1.1)) r1.2.1 r1.2.2
theorem made_Dice_Mine_fn : FnOK Try.prog 10 124 (fun _ : Nat => false) made_Dice_Mine_C8.er [(.cell 2 true 2)] := FnOK.mk' Try.func10 (by kernel_rfl) (by kernel_rfl) (by kernel_rfl) (by kernel_rfl) (by kernel_rfl)
theorem made_Dice_Mine_envok (N : Nat) : EnvOK Try.prog (made_Dice_Mine_E N) := .cons (sfE_ok (made_Dice_Next_sf N)) (.cons (sfE_ok (made_Dice_One_sf N)) (.cons (sfE_ok (made_Dice_Of_sf N)) (.nil)))
theorem made_Dice_Mine_sf (N : Nat) : SFOK Try.prog 10 [none] [.b (.v G_Dice)] [.v G_Mine] (fun x => made_Dice_Mine N x) := sfOK (N := N) (p := 1) (q := 1) (ns := made_Dice_Mine_NE) mixed made_Dice_Mine_fn (made_Dice_Mine_envok N) rfl rfl rfl (fun x => by kernel_rfl)
/-! made_Dice_Flows -/
def made_Dice_Flows_NE : List NS := [.frz 4, .frzo 0, .keep [4], .out [0]]
def made_Dice_Flows_N1 : List NS := [.own 5 G_Span, .keep [0, 3, 5, 6], .cmp]
def made_Dice_Flows_C4 : TC := (.cond (.t 12) .skip (.exit 0))
def made_Dice_Flows_C15 : TC := (.cond (.t 33) (.rg [⟨⟨some 34, (.mov (.t 5)), none⟩, {}⟩, ⟨⟨some 35, (.mov (.t 6)), none⟩, {}⟩, ⟨⟨some 36, (.build [(I 0), (I 0)] [(0, (1, (.c (I (-1125899906842624))))), (1, (1, (.c (I 1125899906842624))))]), none⟩, {}⟩, ⟨⟨some 37, (.iadrS 2 (.t 34) (.t 35)), none⟩, {}⟩, ⟨⟨none, (.store 2 (.t 37)
  (.t 36)), none⟩, {}⟩] none) .skip)
def made_Dice_Flows_C12 : TC := (.seq (.rg [⟨⟨some 32, (.mov (.t 0)), none⟩, {}⟩, ⟨⟨some 33, (.call (.c (.fn 23 [])) [(.t 32), (.c (I 9))]), none⟩, {}⟩] none) made_Dice_Flows_C15)
def made_Dice_Flows_C8 : TC := (.seq (.rg [⟨⟨some 18, (.mov (.t 5)), none⟩, {}⟩, ⟨⟨some 19, (.mov (.t 7)), none⟩, {}⟩, ⟨⟨some 20, (.mov (.t 0)), none⟩, {}⟩, ⟨⟨some 21, (.bslice false 1 [(I 0)] 4 [(0, (.c (I 0))), (1, (.c (I 1))), (2, (.c (I 1000))), (3, (.c (I 6000)))]), none⟩, ⟨(.int .i64), none⟩⟩, ⟨⟨some 22, (.call (.c (.fn 14
  [])) [(.t 20), (.t 21)]), none⟩, {}⟩, ⟨⟨some 23, (.bin .sub (.t 19) (.t 22)), none⟩, {}⟩, ⟨⟨some 24, (.mov (.t 7)), none⟩, {}⟩, ⟨⟨some 25, (.mov (.t 0)), none⟩, {}⟩, ⟨⟨some 26, (.bslice false 1 [(I 0)] 3 [(0, (.c (I 0))), (1, (.c (I 1))), (2, (.c (I 500)))]), none⟩, ⟨(.int .i64), none⟩⟩, ⟨⟨some 27,
  (.call (.c (.fn 14 [])) [(.t 25), (.t 26)]), none⟩, {}⟩, ⟨⟨some 28, (.bin .add (.t 24) (.t 27)), none⟩, {}⟩, ⟨⟨some 29, (.build [(I 0), (I 0)] [(0, (1, (.t 23))), (1, (1, (.t 28)))]), none⟩, {}⟩, ⟨⟨some 30, (.bslice false 2 [(I 0), (I 0)] 1 [(0, (.t 29))]), none⟩, ⟨G_Span, none⟩⟩, ⟨⟨some 31, (.app
  2 16 (.t 18) (.t 30)), none⟩, {}⟩, ⟨⟨some 5, (.mov (.t 31)), none⟩, {}⟩] none) made_Dice_Flows_C12)
def made_Dice_Flows_C9 : TC := (.rg [⟨⟨some 13, (.mov (.t 6)), none⟩, {}⟩, ⟨⟨some 14, (.bin .add (.t 13) (.c (I 1))), none⟩, {}⟩, ⟨⟨some 6, (.mov (.t 14)), none⟩, {}⟩] none)
def made_Dice_Flows_C5 : TC := (.seq (.block 1 (.seq (.rg [⟨⟨some 15, (.mov (.t 0)), none⟩, {}⟩, ⟨⟨some 16, (.bslice false 1 [(I 0)] 8 [(0, (.c (I 0))), (1, (.c (I 1000))), (2, (.c (I 5000))), (3, (.c (I 20000))), (4, (.c (I (-5000)))), (5, (.c (I (-20000)))), (6, (.c (I 4999))), (7, (.c (I 100)))]), none⟩, ⟨(.int .i64), none⟩⟩,
  ⟨⟨some 17, (.call (.c (.fn 14 [])) [(.t 15), (.t 16)]), none⟩, {}⟩, ⟨⟨some 7, (.mov (.t 17)), none⟩, {}⟩] none) made_Dice_Flows_C8)) made_Dice_Flows_C9)
def made_Dice_Flows_C1 : TC := (.seq (.seq (.rg [⟨⟨some 8, (.mov (.t 6)), none⟩, {}⟩, ⟨⟨some 9, (.fadr 1 (.t 3)), none⟩, {}⟩, ⟨⟨some 10, (.load false 1 (.t 9)), none⟩, {}⟩, ⟨⟨some 11, (.len (.t 10)), none⟩, {}⟩, ⟨⟨some 12, (.bin .lss (.t 8) (.t 11)), none⟩, {}⟩] none) made_Dice_Flows_C4) made_Dice_Flows_C5)
def made_Dice_Flows_C13 : TC := .ret
def made_Dice_Flows_C10 : TC := (.pre [.frz 4, .frzo 0, .keep [4], .out [0]] made_Dice_Flows_C13)
def made_Dice_Flows_C6 : TC := (.seq (.rg [⟨⟨some 38, (.mov (.t 5)), none⟩, {}⟩, ⟨⟨some 4, (.mov (.t 38)), none⟩, {}⟩] none) made_Dice_Flows_C10)
def made_Dice_Flows_C2 : TC := (.pre [.frz 5] made_Dice_Flows_C6)
def made_Dice_Flows_C14 : TC := (.block 0 (.loop made_Dice_Flows_N1 made_Dice_Flows_C1))
def made_Dice_Flows_C11 : TC := (.seq (.seq (.rg [⟨⟨some 6, (.mov (.c (I 0))), none⟩, {}⟩] none) made_Dice_Flows_C14) made_Dice_Flows_C2)
def made_Dice_Flows_C7 : TC := (.seq (.rg [⟨⟨some 5, (.mov (.c (.lst true []))), none⟩, {}⟩] none) made_Dice_Flows_C11)
def made_Dice_Flows_C3 : TC := (.seq (.rg [⟨⟨some 3, (.box (.t 1)), none⟩, {}⟩, ⟨⟨some 4, (.mov (.c (.lst true []))), none⟩, {}⟩] none) made_Dice_Flows_C7)
def made_Dice_Flows_E (N : Nat) : List (Nat × Ent) := [(14, sfE [none, none] [.b (.v G_Dice), .v (.list (.int .i64))] [.v (.int .i64)] (fun x => made_Dice_Of N x.1 x.2)), (23, sfE [none, none] [.b (.v G_Dice), .v (.int .i64)] [.v .bool] (fun x => made_Dice_One N x.1 x.2))]
def made_Dice_Flows_L1 (N : Nat) (n : Nat) (x1 : Int) (x2 : List Int) (x3 : Int) (x4 : List T_Place) (x5 : List T_Road) (x6 : List T_Span) : Option ((List T_Span) × T_Dice) := loopN (normI 1 made_Dice_Flows_N1) (run (made_Dice_Flows_E N) N 1 made_Dice_Flows_C1) n ⟨[(0, .ptr 0 0 0), (3, .ptr 1 0 0), (5, .whole 2), (6, .int .i64 x1)], [some (.box 0 [.lst false (.int .i64) x2, .int .i64 x3]), some (.box 0 [.lst false G_Place x4, .lst false G_Road x5]), some (.arr G_Span x6)]⟩ (blkK 0 (seqK (run (made_Dice_Flows_E N) N 1 made_Dice_Flows_C2) (finS made_Dice_Flows_NE [(.t 4)] [.b (.v G_Dice), .v G_Mine] [.v (.list G_Span)] 1 1)))
theorem made_Dice_Flows_L1_zero (N : Nat) (x1 : Int) (x2 : List Int) (x3 : Int) (x4 : List T_Place) (x5 : List T_Road) (x6 : List T_Span) : made_Dice_Flows_L1 N 0 x1 x2 x3 x4 x5 x6 = none := rfl
theorem made_Dice_Flows_L1_succ (N : Nat) (n1 : Nat) (x1 : Int) (x2 : List Int) (x3 : Int) (x4 : List T_Place) (x5 : List T_Road) (x6 : List T_Span) : made_Dice_Flows_L1 N (n1 + 1) x1 x2 x3 x4 x5 x6 =
  bif (decide (x1 < (x5.length : Int))) then
    Option.bind (made_Dice_Of N (x2, x3) [0, 1000, 5000, 20000, (-5000), (-20000), 4999, 100]) fun r7 =>
    Option.bind (made_Dice_Of N r7.2 [0, 1, 1000, 6000]) fun r8 =>
    Option.bind (made_Dice_Of N r8.2 [0, 1, 500]) fun r9 =>
    bif fitsB (x6.length + 1) 16 then
    let v10 := x6 ++ [(W (r7.1 - r8.1), W (r7.1 + r9.1))]
    Option.bind (made_Dice_One N r9.2 9) fun r11 =>
    bif r11.1 then
      bif inB x1 v10.length then
      made_Dice_Flows_L1 N n1 (W (x1 + 1)) r11.2.1 r11.2.2 x4 x5 (v10.set x1.toNat ((-1125899906842624), 1125899906842624))
      else none
    else
      made_Dice_Flows_L1 N n1 (W (x1 + 1)) r11.2.1 r11.2.2 x4 x5 v10
    else none
  else
    some (x6, (x2, x3)) := by kernel_rfl
def made_Dice_Flows (N : Nat) (a0 : T_Dice) (a1 : T_Mine) : Option ((List T_Span) × T_Dice) :=
  made_Dice_Flows_L1 N N 0 a0.1 a0.2 a1.1 a1.2 []
theorem made_Dice_Flows_fn : FnOK Try.prog 11 39 (fun _ : Nat => false) made_Dice_Flows_C3.er [(.t 4)] := FnOK.mk' Try.func11 (by kernel_rfl) (by kernel_rfl) (by kernel_rfl) (by kernel_rfl) (by kernel_rfl)
theorem made_Dice_Flows_envok (N : Nat) : EnvOK Try.prog (made_Dice_Flows_E N) := .cons (sfE_ok (made_Dice_Of_sf N)) (.cons (sfE_ok (made_Dice_One_sf N)) (.nil))
theorem made_Dice_Flows_sf (N : Nat) : SFOK Try.prog 11 [none, none] [.b (.v G_Dice), .v G_Mine] [.v (.list G_Span)] (fun x => made_Dice_Flows N x.1 x.2) := sfOK (N := N) (p := 1) (q := 1) (ns := made_Dice_Flows_NE) mixed made_Dice_Flows_fn (made_Dice_Flows_envok N) rfl rfl rfl (fun x => by kernel_rfl)
/-! law35_fumes -/
def law35_fumes_NE : List NS := [.frzb 4, .frzo 0, .keep [4], .out [0]]
def law35_fumes_N1 : List NS := [.ownc 5 1 (.int .i64), .keep [0, 3, 4, 5, 6], .cmp]
def law35_fumes_C4 : TC := (.cond (.t 14) .skip (.exit 0))
def law35_fumes_C8 : TC := (.rg [⟨⟨some 15, (.mov (.t 6)), none⟩, {}⟩, ⟨⟨some 16, (.bin .add (.t 15) (.c (I 1))), none⟩, {}⟩, ⟨⟨some 6, (.mov (.t 16)), none⟩, {}⟩] none)
def law35_fumes_C5 : TC := (.seq (.block 1 (.rg [⟨⟨some 17, (.fadr 1 (.t 5)), none⟩, {}⟩, ⟨⟨some 18, (.load false 1 (.t 17)), none⟩, {}⟩, ⟨⟨some 19, (.mov (.t 0)), none⟩, {}⟩, ⟨⟨some 20, (.bslice false 1 [(I 0)] 6 [(0, (.c (I 0))), (1, (.c (I 1000))), (2, (.c (I 30))), (3, (.c (I 5))), (4, (.c (I 999999))), (5, (.c (I
  1000000)))]), none⟩, ⟨(.int .i64), none⟩⟩, ⟨⟨some 21, (.call (.c (.fn 14 [])) [(.t 19), (.t 20)]), none⟩, {}⟩, ⟨⟨some 22, (.bslice false 1 [(I 0)] 1 [(0, (.t 21))]), none⟩, ⟨(.int .i64), none⟩⟩, ⟨⟨some 23, (.app 1 8 (.t 18) (.t 22)), none⟩, {}⟩, ⟨⟨some 24, (.fadr 1 (.t 5)), none⟩, {}⟩, ⟨⟨none,
  (.store 1 (.t 24) (.t 23)), none⟩, {}⟩] (some [(0, 4), (1, 4)]))) law35_fumes_C8)
def law35_fumes_C1 : TC := (.seq (.seq (.rg [⟨⟨some 10, (.mov (.t 6)), none⟩, {}⟩, ⟨⟨some 11, (.fadr 1 (.t 3)), none⟩, {}⟩, ⟨⟨some 12, (.load false 1 (.t 11)), none⟩, {}⟩, ⟨⟨some 13, (.len (.t 12)), none⟩, {}⟩, ⟨⟨some 14, (.bin .lss (.t 10) (.t 13)), none⟩, {}⟩] none) law35_fumes_C4) law35_fumes_C5)
def law35_fumes_C11 : TC := .ret
def law35_fumes_C9 : TC := (.pre [.frzb 4, .frzo 0, .keep [4], .out [0]] law35_fumes_C11)
def law35_fumes_C6 : TC := (.seq (.rg [⟨⟨some 25, (.load true 2 (.t 5)), none⟩, {}⟩, ⟨⟨none, (.store 2 (.t 4) (.t 25)), none⟩, {}⟩] none) law35_fumes_C9)
def law35_fumes_C2 : TC := (.pre [.frzb 5] law35_fumes_C6)
def law35_fumes_C12 : TC := (.block 0 (.loop law35_fumes_N1 law35_fumes_C1))
def law35_fumes_C10 : TC := (.seq (.seq (.rg [⟨⟨some 6, (.mov (.c (I 0))), none⟩, {}⟩] none) law35_fumes_C12) law35_fumes_C2)
def law35_fumes_C7 : TC := (.seq (.rg [⟨⟨some 7, (.mov (.t 0)), none⟩, {}⟩, ⟨⟨some 8, (.call (.c (.fn 17 [])) [(.t 7), (.c (I 200))]), none⟩, {}⟩, ⟨⟨some 9, (.build [(I 0), (.lst true [])] [(0, (1, (.t 8)))]), none⟩, {}⟩, ⟨⟨some 5, (.alloc [(I 0), (.lst true [])]), none⟩, {}⟩, ⟨⟨none, (.store 2 (.t 5) (.t 9)), none⟩, {}⟩]
  none) law35_fumes_C10)
def law35_fumes_C3 : TC := (.seq (.rg [⟨⟨some 3, (.box (.t 1)), none⟩, {}⟩, ⟨⟨some 4, (.alloc [(I 0), (.lst true [])]), none⟩, {}⟩] none) law35_fumes_C7)
def law35_fumes_E (N : Nat) : List (Nat × Ent) := [(17, sfE [none, none] [.b (.v G_Dice), .v (.int .i64)] [.v (.int .i64)] (fun x => made_Dice_Next N x.1 x.2)), (14, sfE [none, none] [.b (.v G_Dice), .v (.list (.int .i64))] [.v (.int .i64)] (fun x => made_Dice_Of N x.1 x.2))]
def law35_fumes_L1 (N : Nat) (n : Nat) (x2 : Int) (x3 : List Int) (x4 : Int) (x5 : List T_Place) (x6 : List T_Road) (x7 : Int) (x8 : Int) (x9 : List Int) : Option (T_Fumes × T_Dice) := loopN (normI 1 law35_fumes_N1) (run (law35_fumes_E N) N 1 law35_fumes_C1) n ⟨[(0, .ptr 0 0 0), (3, .ptr 1 0 0), (4, .ptr 2 0 0), (5, .ptr 3 0 0), (6, .int .i64 x2)], [some (.box 0 [.lst false (.int .i64) x3, .int .i64 x4]), some (.box 0 [.lst false G_Place x5, .lst false G_Road x6]), some (.box 0 [.int .i64 x7, .nil]), some (.box 0 [.int .i64 x8, .whole 4]), some (.arr (.int .i64) x9)]⟩ (blkK 0 (seqK (run (law35_fumes_E N) N 1 law35_fumes_C2) (finS law35_fumes_NE [(.cell 4 true 2)] [.b (.v G_Dice), .v G_Mine] [.v G_Fumes] 1 1)))
theorem law35_fumes_L1_zero (N : Nat) (x2 : Int) (x3 : List Int) (x4 : Int) (x5 : List T_Place) (x6 : List T_Road) (x7 : Int) (x8 : Int) (x9 : List Int) : law35_fumes_L1 N 0 x2 x3 x4 x5 x6 x7 x8 x9 = none := rfl
theorem law35_fumes_L1_succ (N : Nat) (n1 : Nat) (x2 : Int) (x3 : List Int) (x4 : Int) (x5 : List T_Place) (x6 : List T_Road) (x7 : Int) (x8 : Int) (x9 : List Int) : law35_fumes_L1 N (n1 + 1) x2 x3 x4 x5 x6 x7 x8 x9 =
  bif (decide (x2 < (x6.length : Int))) then
    Option.bind (made_Dice_Of N (x3, x4) [0, 1000, 30, 5, 999999, 1000000]) fun r10 =>
    bif fitsB (x9.length + 1) 8 then
    law35_fumes_L1 N n1 (W (x2 + 1)) r10.2.1 r10.2.2 x5 x6 x7 x8 (x9 ++ [r10.1])
    else none
  else
    some ((x8, x9), (x3, x4)) := by kernel_rfl
def law35_fumes (N : Nat) (a0 : T_Dice) (a1 : T_Mine) : Option (T_Fumes × T_Dice) :=
  Option.bind (made_Dice_Next N a0 200) fun r1 =>
  law35_fumes_L1 N N 0 r1.2.1 r1.2.2 a1.1 a1.2 0 r1.1 []
theorem law35_fumes_fn : FnOK Try.prog 12 26 (fun _ : Nat => false) law35_fumes_C3.er [(.cell 4 true 2)] := FnOK.mk' Try.func12 (by kernel_rfl) (by kernel_rfl) (by kernel_rfl) (by kernel_rfl) (by kernel_rfl)
theorem law35_fumes_envok (N : Nat) : EnvOK Try.prog (law35_fumes_E N) := .cons (sfE_ok (made_Dice_Next_sf N)) (.cons (sfE_ok (made_Dice_Of_sf N)) (.nil))
theorem law35_fumes_sf (N : Nat) : SFOK Try.prog 12 [none, none] [.b (.v G_Dice), .v G_Mine] [.v G_Fumes] (fun x => law35_fumes N x.1 x.2) := sfOK (N := N) (p := 1) (q := 1) (ns := law35_fumes_NE) mixed law35_fumes_fn (law35_fumes_envok N) rfl rfl rfl (fun x => by kernel_rfl)
/-! made_Dice_Ints -/
def made_Dice_Ints_NE : List NS := [.frz 2, .frzo 0, .keep [2], .out [0]]
def made_Dice_Ints_N1 : List NS := [.own 3 (.int .i64), .keep [0, 3, 4], .cmp]
def made_Dice_Ints_C4 : TC := (.cond (.t 8) .skip (.exit 0))
def made_Dice_Ints_C8 : TC := (.rg [⟨⟨some 9, (.mov (.t 4)), none⟩, {}⟩, ⟨⟨some 10, (.bin .sub (.t 9) (.c (I 1))), none⟩, {}⟩, ⟨⟨some 4, (.mov (.t 10)), none⟩, {}⟩] none)
def made_Dice_Ints_C5 : TC := (.seq (.block 1 (.rg [⟨⟨some 11, (.mov (.t 3)), none⟩, {}⟩, ⟨⟨some 12, (.mov (.t 0)), none⟩, {}⟩, ⟨⟨some 13, (.call (.c (.fn 17 [])) [(.t 12), (.c (I 9))]), none⟩, {}⟩, ⟨⟨some 14, (.bin .sub (.t 13) (.c (I 1))), none⟩, {}⟩, ⟨⟨some 15, (.bslice false 1 [(I 0)] 1 [(0, (.t 14))]), none⟩, ⟨(.int .i64),
  none⟩⟩, ⟨⟨some 16, (.app 1 8 (.t 11) (.t 15)), none⟩, {}⟩, ⟨⟨some 3, (.mov (.t 16)), none⟩, {}⟩] none)) made_Dice_Ints_C8)
def made_Dice_Ints_C1 : TC := (.seq (.seq (.rg [⟨⟨some 7, (.mov (.t 4)), none⟩, {}⟩, ⟨⟨some 8, (.bin .gtr (.t 7) (.c (I 0))), none⟩, {}⟩] none) made_Dice_Ints_C4) made_Dice_Ints_C5)
def made_Dice_Ints_C11 : TC := .ret
def made_Dice_Ints_C9 : TC := (.pre [.frz 2, .frzo 0, .keep [2], .out [0]] made_Dice_Ints_C11)
def made_Dice_Ints_C6 : TC := (.seq (.rg [⟨⟨some 17, (.mov (.t 3)), none⟩, {}⟩, ⟨⟨some 2, (.mov (.t 17)), none⟩, {}⟩] none) made_Dice_Ints_C9)
def made_Dice_Ints_C2 : TC := (.pre [.frz 3] made_Dice_Ints_C6)
def made_Dice_Ints_C12 : TC := (.block 0 (.loop made_Dice_Ints_N1 made_Dice_Ints_C1))
def made_Dice_Ints_C10 : TC := (.seq (.seq (.rg [⟨⟨some 5, (.mov (.t 0)), none⟩, {}⟩, ⟨⟨some 6, (.call (.c (.fn 17 [])) [(.t 5), (.c (I 5))]), none⟩, {}⟩, ⟨⟨some 4, (.mov (.t 6)), none⟩, {}⟩] none) made_Dice_Ints_C12) made_Dice_Ints_C2)
def made_Dice_Ints_C7 : TC := (.seq (.rg [⟨⟨some 3, (.mov (.c (.lst true []))), none⟩, {}⟩] none) made_Dice_Ints_C10)
def made_Dice_Ints_C3 : TC := (.seq (.rg [⟨⟨some 2, (.mov (.c (.lst true []))), none⟩, {}⟩] none) made_Dice_Ints_C7)
def made_Dice_Ints_E (N : Nat) : List (Nat × Ent) := [(17, sfE [none, none] [.b (.v G_Dice), .v (.int .i64)] [.v (.int .i64)] (fun x => made_Dice_Next N x.1 x.2))]
def made_Dice_Ints_L1 (N : Nat) (n : Nat) (x2 : Int) (x3 : List Int) (x4 : Int) (x5 : List Int) : Option ((List Int) × T_Dice) := loopN (normI 1 made_Dice_Ints_N1) (run (made_Dice_Ints_E N) N 1 made_Dice_Ints_C1) n ⟨[(0, .ptr 0 0 0), (3, .whole 1), (4, .int .i64 x2)], [some (.box 0 [.lst false (.int .i64) x3, .int .i64 x4]), some (.arr (.int .i64) x5)]⟩ (blkK 0 (seqK (run (made_Dice_Ints_E N) N 1 made_Dice_Ints_C2) (finS made_Dice_Ints_NE [(.t 2)] [.b (.v G_Dice)] [.v (.list (.int .i64))] 1 1)))
theorem made_Dice_Ints_L1_zero (N : Nat) (x2 : Int) (x3 : List Int) (x4 : Int) (x5 : List Int) : made_Dice_Ints_L1 N 0 x2 x3 x4 x5 = none := rfl
theorem made_Dice_Ints_L1_succ (N : Nat) (n1 : Nat) (x2 : Int) (x3 : List Int) (x4 : Int) (x5 : List Int) : made_Dice_Ints_L1 N (n1 + 1) x2 x3 x4 x5 =
  bif (decide (x2 > 0)) then
    Option.bind (made_Dice_Next N (x3, x4) 9) fun r6 =>
    bif fitsB (x5.length + 1) 8 then
    made_Dice_Ints_L1 N n1 (W (x2 - 1)) r6.2.1 r6.2.2 (x5 ++ [W (r6.1 - 1)])
    else none
  else
    some (x5, (x3, x4)) := by kernel_rfl
def made_Dice_Ints (N : Nat) (a0 : T_Dice) : Option ((List Int) × T_Dice) :=
  Option.bind (made_Dice_Next N a0 5) fun r1 =>
  made_Dice_Ints_L1 N N r1.1 r1.2.1 r1.2.2 []
theorem made_Dice_Ints_fn : FnOK Try.prog 13 18 (fun _ : Nat => false) made_Dice_Ints_C3.er [(.t 2)] := FnOK.mk' Try.func13 (by kernel_rfl) (by kernel_rfl) (by kernel_rfl) (by kernel_rfl) (by kernel_rfl)
theorem made_Dice_Ints_envok (N : Nat) : EnvOK Try.prog (made_Dice_Ints_E N) := .cons (sfE_ok (made_Dice_Next_sf N)) (.nil)
theorem made_Dice_Ints_sf (N : Nat) : SFOK Try.prog 13 [none] [.b (.v G_Dice)] [.v (.list (.int .i64))] (fun x => made_Dice_Ints N x) := sfOK (N := N) (p := 1) (q := 1) (ns := made_Dice_Ints_NE) mixed made_Dice_Ints_fn (made_Dice_Ints_envok N) rfl rfl rfl (fun x => by kernel_rfl)
/-! ref01_Span -/
def ref01_Span_C3 : TC := .ret
def ref01_Span_C2 : TC := (.seq (.rg [⟨⟨some 7, (.mov (.t 1)), none⟩, {}⟩, ⟨⟨some 8, (.fadr 0 (.t 3)), none⟩, {}⟩, ⟨⟨some 9, (.load false 1 (.t 8)), none⟩, {}⟩, ⟨⟨some 10, (.bin .leq (.t 7) (.t 9)), none⟩, {}⟩, ⟨⟨some 11, (.mov (.t 10)), none⟩, {}⟩, ⟨⟨some 12, (.fadr 0 (.t 3)), some (11, true)⟩, {}⟩, ⟨⟨some 13, (.load false 1
  (.t 12)), some (11, true)⟩, {}⟩, ⟨⟨some 14, (.fadr 1 (.t 3)), some (11, true)⟩, {}⟩, ⟨⟨some 15, (.load false 1 (.t 14)), some (11, true)⟩, {}⟩, ⟨⟨some 16, (.bin .leq (.t 13) (.t 15)), some (11, true)⟩, {}⟩, ⟨⟨some 17, (.pick (.t 11) (.t 16) (.c (B false))), none⟩, {}⟩, ⟨⟨some 18, (.mov (.t 17)),
  none⟩, {}⟩, ⟨⟨some 19, (.fadr 1 (.t 3)), some (18, true)⟩, {}⟩, ⟨⟨some 20, (.load false 1 (.t 19)), some (18, true)⟩, {}⟩, ⟨⟨some 21, (.mov (.t 2)), some (18, true)⟩, {}⟩, ⟨⟨some 22, (.bin .leq (.t 20) (.t 21)), some (18, true)⟩, {}⟩, ⟨⟨some 23, (.pick (.t 18) (.t 22) (.c (B false))), none⟩, {}⟩,
  ⟨⟨some 6, (.mov (.t 23)), none⟩, {}⟩] none) ref01_Span_C3)
def ref01_Span_C1 : TC := (.seq (.rg [⟨⟨some 3, (.box (.t 0)), none⟩, {}⟩, ⟨⟨some 6, (.mov (.c (B false))), none⟩, {}⟩] none) ref01_Span_C2)
def ref01_Span_E (N : Nat) : List (Nat × Ent) := []
def ref01_Span (N : Nat) (a0 : T_Span) (a1 : Int) (a2 : Int) : Option Bool :=
  bif (decide (a1 ≤ a0.1)) then
    bif (decide (a0.1 ≤ a0.2)) then
      some (decide (a0.2 ≤ a2))
    else
      some false
  else
    some false
theorem ref01_Span_fn : FnOK Try.prog 58 24 (fun _ : Nat => false) ref01_Span_C1.er [(.t 6)] := FnOK.mk' Try.func58 (by kernel_rfl) (by kernel_rfl) (by kernel_rfl) (by kernel_rfl) (by kernel_rfl)
theorem ref01_Span_envok (N : Nat) : EnvOK Try.prog (ref01_Span_E N) := .nil
theorem ref01_Span_pure (N : Nat) : PureOK Try.prog 58 [G_Span, (.int .i64), (.int .i64)] [.bool] (fun x => ref01_Span N x.1 x.2.1 x.2.2) := pureOK (N := N) mixed ref01_Span_fn (ref01_Span_envok N) rfl (fun x => by kernel_rfl)
/-! ref01_Check -/
def ref01_Check_N1 : List NS := [.keep [1, 3], .cmp]
def ref01_Check_N2 : List NS := [.keep [1, 5], .cmp]
def ref01_Check_C18 : TC := .ret
def ref01_Check_C9 : TC := (.cond (.t 108) (.seq (.rg [⟨⟨some 2, (.mov (.c (I 1))), none⟩, {}⟩] none) ref01_Check_C18) .skip)
def ref01_Check_C1 : TC := (.seq (.rg [⟨⟨some 79, (.fadr 2 (.t 6)), none⟩, {}⟩, ⟨⟨some 80, (.load false 1 (.t 79)), none⟩, {}⟩, ⟨⟨some 81, (.bin .lss (.t 80) (.c (I 1))), none⟩, {}⟩, ⟨⟨some 82, (.mov (.t 81)), none⟩, {}⟩, ⟨⟨some 83, (.fadr 2 (.t 6)), some (82, false)⟩, {}⟩, ⟨⟨some 84, (.load false 1 (.t 83)), some (82,
  false)⟩, {}⟩, ⟨⟨some 85, (.bin .gtr (.t 84) (.c (I 100000))), some (82, false)⟩, {}⟩, ⟨⟨some 86, (.pick (.t 82) (.c (B true)) (.t 85)), none⟩, {}⟩, ⟨⟨some 87, (.mov (.t 86)), none⟩, {}⟩, ⟨⟨some 88, (.fadr 3 (.t 6)), some (87, false)⟩, {}⟩, ⟨⟨some 89, (.load false 1 (.t 88)), some (87, false)⟩, {}⟩,
  ⟨⟨some 90, (.bin .lss (.t 89) (.c (I 1))), some (87, false)⟩, {}⟩, ⟨⟨some 91, (.pick (.t 87) (.c (B true)) (.t 90)), none⟩, {}⟩, ⟨⟨some 92, (.mov (.t 91)), none⟩, {}⟩, ⟨⟨some 93, (.fadr 3 (.t 6)), some (92, false)⟩, {}⟩, ⟨⟨some 94, (.load false 1 (.t 93)), some (92, false)⟩, {}⟩, ⟨⟨some 95, (.bin
  .gtr (.t 94) (.c (I 1000))), some (92, false)⟩, {}⟩, ⟨⟨some 96, (.pick (.t 92) (.c (B true)) (.t 95)), none⟩, {}⟩, ⟨⟨some 97, (.mov (.t 96)), none⟩, {}⟩, ⟨⟨some 98, (.fadr 6 (.t 6)), some (97, false)⟩, {}⟩, ⟨⟨some 99, (.load true 2 (.t 98)), some (97, false)⟩, {}⟩, ⟨⟨some 100, (.call (.c (.fn 58
  [])) [(.t 99), (.c (I 1)), (.c (I 262144))]), some (97, false)⟩, {}⟩, ⟨⟨some 101, (.un .not (.t 100)), some (97, false)⟩, {}⟩, ⟨⟨some 102, (.pick (.t 97) (.c (B true)) (.t 101)), none⟩, {}⟩, ⟨⟨some 103, (.mov (.t 102)), none⟩, {}⟩, ⟨⟨some 104, (.fadr 8 (.t 6)), some (103, false)⟩, {}⟩, ⟨⟨some 105,
  (.load true 2 (.t 104)), some (103, false)⟩, {}⟩, ⟨⟨some 106, (.call (.c (.fn 58 [])) [(.t 105), (.c (I (-2199023255552))), (.c (I 2199023255552))]), some (103, false)⟩, {}⟩, ⟨⟨some 107, (.un .not (.t 106)), some (103, false)⟩, {}⟩, ⟨⟨some 108, (.pick (.t 103) (.c (B true)) (.t 107)), none⟩, {}⟩]
  none) ref01_Check_C9)
def ref01_Check_C2 : TC := (.rg [⟨⟨some 41, (.mov (.t 5)), none⟩, {}⟩, ⟨⟨some 42, (.bin .add (.t 41) (.c (I 1))), none⟩, {}⟩, ⟨⟨some 5, (.mov (.t 42)), none⟩, {}⟩] none)
def ref01_Check_C10 : TC := (.cond (.t 40) .skip (.exit 2))
def ref01_Check_C28 : TC := .ret
def ref01_Check_C24 : TC := (.cond (.t 78) (.seq (.rg [⟨⟨some 2, (.mov (.c (I 4))), none⟩, {}⟩] none) ref01_Check_C28) .skip)
def ref01_Check_C25 : TC := (.join [.keep [1, 5, 6], .cmp] ref01_Check_C1)
def ref01_Check_C19 : TC := (.seq (.seq (.rg [⟨⟨some 48, (.fadr 0 (.t 6)), none⟩, {}⟩, ⟨⟨some 49, (.load false 1 (.t 48)), none⟩, {}⟩, ⟨⟨some 50, (.bin .lss (.t 49) (.c (I 0))), none⟩, {}⟩, ⟨⟨some 51, (.mov (.t 50)), none⟩, {}⟩, ⟨⟨some 52, (.fadr 0 (.t 6)), some (51, false)⟩, {}⟩, ⟨⟨some 53, (.load false 1 (.t 52)), some (51,
  false)⟩, {}⟩, ⟨⟨some 54, (.fadr 0 (.t 1)), some (51, false)⟩, {}⟩, ⟨⟨some 55, (.load false 1 (.t 54)), some (51, false)⟩, {}⟩, ⟨⟨some 56, (.len (.t 55)), some (51, false)⟩, {}⟩, ⟨⟨some 57, (.bin .geq (.t 53) (.t 56)), some (51, false)⟩, {}⟩, ⟨⟨some 58, (.pick (.t 51) (.c (B true)) (.t 57)), none⟩,
  {}⟩, ⟨⟨some 59, (.mov (.t 58)), none⟩, {}⟩, ⟨⟨some 60, (.fadr 1 (.t 6)), some (59, false)⟩, {}⟩, ⟨⟨some 61, (.load false 1 (.t 60)), some (59, false)⟩, {}⟩, ⟨⟨some 62, (.bin .lss (.t 61) (.c (I 0))), some (59, false)⟩, {}⟩, ⟨⟨some 63, (.pick (.t 59) (.c (B true)) (.t 62)), none⟩, {}⟩, ⟨⟨some 64,
  (.mov (.t 63)), none⟩, {}⟩, ⟨⟨some 65, (.fadr 1 (.t 6)), some (64, false)⟩, {}⟩, ⟨⟨some 66, (.load false 1 (.t 65)), some (64, false)⟩, {}⟩, ⟨⟨some 67, (.fadr 0 (.t 1)), some (64, false)⟩, {}⟩, ⟨⟨some 68, (.load false 1 (.t 67)), some (64, false)⟩, {}⟩, ⟨⟨some 69, (.len (.t 68)), some (64, false)⟩,
  {}⟩, ⟨⟨some 70, (.bin .geq (.t 66) (.t 69)), some (64, false)⟩, {}⟩, ⟨⟨some 71, (.pick (.t 64) (.c (B true)) (.t 70)), none⟩, {}⟩, ⟨⟨some 72, (.mov (.t 71)), none⟩, {}⟩, ⟨⟨some 73, (.fadr 0 (.t 6)), some (72, false)⟩, {}⟩, ⟨⟨some 74, (.load false 1 (.t 73)), some (72, false)⟩, {}⟩, ⟨⟨some 75,
  (.fadr 1 (.t 6)), some (72, false)⟩, {}⟩, ⟨⟨some 76, (.load false 1 (.t 75)), some (72, false)⟩, {}⟩, ⟨⟨some 77, (.bin .eql (.t 74) (.t 76)), some (72, false)⟩, {}⟩, ⟨⟨some 78, (.pick (.t 72) (.c (B true)) (.t 77)), none⟩, {}⟩] none) ref01_Check_C24) ref01_Check_C25)
def ref01_Check_C11 : TC := (.seq (.block 3 (.seq (.rg [⟨⟨some 43, (.fadr 1 (.t 1)), none⟩, {}⟩, ⟨⟨some 44, (.load false 1 (.t 43)), none⟩, {}⟩, ⟨⟨some 45, (.mov (.t 5)), none⟩, {}⟩, ⟨⟨some 46, (.iadrS 10 (.t 44) (.t 45)), none⟩, {}⟩, ⟨⟨some 47, (.load true 10 (.t 46)), none⟩, {}⟩, ⟨⟨some 6, (.alloc [(I 0), (I 0), (I 0), (I 0),
  (B false), (B false), (I 0), (I 0), (I 0), (I 0)]), none⟩, {}⟩, ⟨⟨none, (.store 10 (.t 6) (.t 47)), none⟩, {}⟩] none) ref01_Check_C19)) ref01_Check_C2)
def ref01_Check_C3 : TC := (.seq (.seq (.rg [⟨⟨some 36, (.mov (.t 5)), none⟩, {}⟩, ⟨⟨some 37, (.fadr 1 (.t 1)), none⟩, {}⟩, ⟨⟨some 38, (.load false 1 (.t 37)), none⟩, {}⟩, ⟨⟨some 39, (.len (.t 38)), none⟩, {}⟩, ⟨⟨some 40, (.bin .lss (.t 36) (.t 39)), none⟩, {}⟩] none) ref01_Check_C10) ref01_Check_C11)
def ref01_Check_C12 : TC := .ret
def ref01_Check_C4 : TC := (.seq (.rg [⟨⟨some 2, (.mov (.c (I 0))), none⟩, {}⟩] none) ref01_Check_C12)
def ref01_Check_C13 : TC := (.cond (.t 21) .skip (.exit 0))
def ref01_Check_C29 : TC := .ret
def ref01_Check_C26 : TC := (.cond (.t 35) (.seq (.rg [⟨⟨some 2, (.mov (.c (I 1))), none⟩, {}⟩] none) ref01_Check_C29) .skip)
def ref01_Check_C20 : TC := (.seq (.rg [⟨⟨some 30, (.mov (.t 4)), none⟩, {}⟩, ⟨⟨some 31, (.bin .lss (.t 30) (.c (I (-10000)))), none⟩, {}⟩, ⟨⟨some 32, (.mov (.t 31)), none⟩, {}⟩, ⟨⟨some 33, (.mov (.t 4)), some (32, false)⟩, {}⟩, ⟨⟨some 34, (.bin .gtr (.t 33) (.c (I 10000))), some (32, false)⟩, {}⟩, ⟨⟨some 35, (.pick (.t 32) (.c
  (B true)) (.t 34)), none⟩, {}⟩] none) ref01_Check_C26)
def ref01_Check_C21 : TC := (.rg [⟨⟨some 22, (.mov (.t 3)), none⟩, {}⟩, ⟨⟨some 23, (.bin .add (.t 22) (.c (I 1))), none⟩, {}⟩, ⟨⟨some 3, (.mov (.t 23)), none⟩, {}⟩] none)
def ref01_Check_C14 : TC := (.seq (.block 1 (.seq (.rg [⟨⟨some 24, (.fadr 0 (.t 1)), none⟩, {}⟩, ⟨⟨some 25, (.load false 1 (.t 24)), none⟩, {}⟩, ⟨⟨some 26, (.mov (.t 3)), none⟩, {}⟩, ⟨⟨some 27, (.iadrS 2 (.t 25) (.t 26)), none⟩, {}⟩, ⟨⟨some 28, (.fadr 0 (.t 27)), none⟩, {}⟩, ⟨⟨some 29, (.load false 1 (.t 28)), none⟩, {}⟩,
  ⟨⟨some 4, (.mov (.t 29)), none⟩, {}⟩] none) ref01_Check_C20)) ref01_Check_C21)
def ref01_Check_C5 : TC := (.seq (.seq (.rg [⟨⟨some 17, (.mov (.t 3)), none⟩, {}⟩, ⟨⟨some 18, (.fadr 0 (.t 1)), none⟩, {}⟩, ⟨⟨some 19, (.load false 1 (.t 18)), none⟩, {}⟩, ⟨⟨some 20, (.len (.t 19)), none⟩, {}⟩, ⟨⟨some 21, (.bin .lss (.t 17) (.t 20)), none⟩, {}⟩] none) ref01_Check_C13) ref01_Check_C14)
def ref01_Check_C15 : TC := (.block 2 (.loop ref01_Check_N2 ref01_Check_C3))
def ref01_Check_C6 : TC := (.seq (.seq (.rg [⟨⟨some 5, (.mov (.c (I 0))), none⟩, {}⟩] none) ref01_Check_C15) ref01_Check_C4)
def ref01_Check_C16 : TC := (.block 0 (.loop ref01_Check_N1 ref01_Check_C5))
def ref01_Check_C7 : TC := (.seq (.seq (.rg [⟨⟨some 3, (.mov (.c (I 0))), none⟩, {}⟩] none) ref01_Check_C16) ref01_Check_C6)
def ref01_Check_C27 : TC := .ret
def ref01_Check_C22 : TC := (.cond (.t 16) (.seq (.rg [⟨⟨some 2, (.mov (.c (I 2))), none⟩, {}⟩] none) ref01_Check_C27) .skip)
def ref01_Check_C23 : TC := (.join [.keep [1], .cmp] ref01_Check_C7)
def ref01_Check_C17 : TC := (.seq (.seq (.rg [⟨⟨some 7, (.fadr 0 (.t 1)), none⟩, {}⟩, ⟨⟨some 8, (.load false 1 (.t 7)), none⟩, {}⟩, ⟨⟨some 9, (.len (.t 8)), none⟩, {}⟩, ⟨⟨some 10, (.bin .gtr (.t 9) (.c (I 64))), none⟩, {}⟩, ⟨⟨some 11, (.mov (.t 10)), none⟩, {}⟩, ⟨⟨some 12, (.fadr 1 (.t 1)), some (11, false)⟩, {}⟩, ⟨⟨some 13,
  (.load false 1 (.t 12)), some (11, false)⟩, {}⟩, ⟨⟨some 14, (.len (.t 13)), some (11, false)⟩, {}⟩, ⟨⟨some 15, (.bin .gtr (.t 14) (.c (I 128))), some (11, false)⟩, {}⟩, ⟨⟨some 16, (.pick (.t 11) (.c (B true)) (.t 15)), none⟩, {}⟩] none) ref01_Check_C22) ref01_Check_C23)
def ref01_Check_C8 : TC := (.seq (.rg [⟨⟨some 1, (.box (.t 0)), none⟩, {}⟩, ⟨⟨some 2, (.mov (.c (I 0))), none⟩, {}⟩] none) ref01_Check_C17)
def ref01_Check_E (N : Nat) : List (Nat × Ent) := [(58, pureE [G_Span, (.int .i64), (.int .i64)] [.bool] (fun x => ref01_Span N x.1 x.2.1 x.2.2))]
def ref01_Check_J2 (N n2 : Nat) (x14 : Int) (x15 : List T_Place) (x16 : List T_Road) (x17 : Int) (x18 : Int) (x19 : Int) (x20 : Int) (x21 : Bool) (x22 : Bool) (x23 : Int) (x24 : Int) (x25 : Int) (x26 : Int) : Option Int := joinN (run (ref01_Check_E N) N 0 ref01_Check_C1) N ⟨[(1, .ptr 0 0 0), (5, .int .i64 x14), (6, .ptr 1 0 0)], [some (.box 0 [.lst false G_Place x15, .lst false G_Road x16]), some (.box 0 [.int .i64 x17, .int .i64 x18, .int .i64 x19, .int .i64 x20, .bool x21, .bool x22, .int .i64 x23, .int .i64 x24, .int .i64 x25, .int .i64 x26])]⟩ (blkK 3 (seqK (run (ref01_Check_E N) N 0 ref01_Check_C2) (seqK (nextL (normI 0 ref01_Check_N2) (loopN (normI 0 ref01_Check_N2) (run (ref01_Check_E N) N 0 ref01_Check_C3) n2)) (blkK 2 (seqK (run (ref01_Check_E N) N 0 ref01_Check_C4) (fin [(.t 2)] [(.int .i64)]))))))
def ref01_Check_L2 (N : Nat) (n : Nat) (x10 : Int) (x11 : List T_Place) (x12 : List T_Road) : Option Int := loopN (normI 0 ref01_Check_N2) (run (ref01_Check_E N) N 0 ref01_Check_C3) n ⟨[(1, .ptr 0 0 0), (5, .int .i64 x10)], [some (.box 0 [.lst false G_Place x11, .lst false G_Road x12])]⟩ (blkK 2 (seqK (run (ref01_Check_E N) N 0 ref01_Check_C4) (fin [(.t 2)] [(.int .i64)])))
def ref01_Check_L1 (N : Nat) (n : Nat) (x3 : Int) (x4 : List T_Place) (x5 : List T_Road) : Option Int := loopN (normI 0 ref01_Check_N1) (run (ref01_Check_E N) N 0 ref01_Check_C5) n ⟨[(1, .ptr 0 0 0), (3, .int .i64 x3)], [some (.box 0 [.lst false G_Place x4, .lst false G_Road x5])]⟩ (blkK 0 (seqK (run (ref01_Check_E N) N 0 ref01_Check_C6) (fin [(.t 2)] [(.int .i64)])))
def ref01_Check_J1 (N : Nat) (x1 : List T_Place) (x2 : List T_Road) : Option Int := joinN (run (ref01_Check_E N) N 0 ref01_Check_C7) N ⟨[(1, .ptr 0 0 0)], [some (.box 0 [.lst false G_Place x1, .lst false G_Road x2])]⟩ (fin [(.t 2)] [(.int .i64)])
theorem ref01_Check_J2_eq (N n2 : Nat) (x14 : Int) (x15 : List T_Place) (x16 : List T_Road) (x17 : Int) (x18 : Int) (x19 : Int) (x20 : Int) (x21 : Bool) (x22 : Bool) (x23 : Int) (x24 : Int) (x25 : Int) (x26 : Int) : ref01_Check_J2 (N + 1) n2 x14 x15 x16 x17 x18 x19 x20 x21 x22 x23 x24 x25 x26 =
  bif (decide (x19 < 1)) then
    some 1
  else
    bif (decide (x19 > 100000)) then
      some 1
    else
      bif (decide (x20 < 1)) then
        some 1
      else
        bif (decide (x20 > 1000)) then
          some 1
        else
          Option.bind (ref01_Span (N + 1) (x23, x24) 1 262144) fun r27 =>
          bif (!r27) then
            some 1
          else
            Option.bind (ref01_Span (N + 1) (x25, x26) (-2199023255552) 2199023255552) fun r28 =>
            bif (!r28) then
              some 1
            else
              ref01_Check_L2 (N + 1) n2 (W (x14 + 1)) x15 x16 := by kernel_rfl
theorem ref01_Check_L2_zero (N : Nat) (x10 : Int) (x11 : List T_Place) (x12 : List T_Road) : ref01_Check_L2 N 0 x10 x11 x12 = none := rfl
theorem ref01_Check_L2_succ (N : Nat) (n2 : Nat) (x10 : Int) (x11 : List T_Place) (x12 : List T_Road) : ref01_Check_L2 N (n2 + 1) x10 x11 x12 =
  bif (decide (x10 < (x12.length : Int))) then
    bif inB x10 x12.length then
    let v13 := x12.getD x10.toNat D_Road
    bif (decide (v13.1 < 0)) then
      some 4
    else
      bif (decide (v13.1 ≥ (x11.length : Int))) then
        some 4
      else
        bif (decide (v13.2.1 < 0)) then
          some 4
        else
          bif (decide (v13.2.1 ≥ (x11.length : Int))) then
            some 4
          else
            bif (v13.1 == v13.2.1) then
              some 4
            else
              ref01_Check_J2 N n2 x10 x11 x12 v13.1 v13.2.1 v13.2.2.1 v13.2.2.2.1 v13.2.2.2.2.1 v13.2.2.2.2.2.1 v13.2.2.2.2.2.2.1.1 v13.2.2.2.2.2.2.1.2 v13.2.2.2.2.2.2.2.1 v13.2.2.2.2.2.2.2.2
    else none
  else
    some 0 := by kernel_rfl
theorem ref01_Check_L1_zero (N : Nat) (x3 : Int) (x4 : List T_Place) (x5 : List T_Road) : ref01_Check_L1 N 0 x3 x4 x5 = none := rfl
theorem ref01_Check_L1_succ (N : Nat) (n1 : Nat) (x3 : Int) (x4 : List T_Place) (x5 : List T_Road) : ref01_Check_L1 N (n1 + 1) x3 x4 x5 =
  bif (decide (x3 < (x4.length : Int))) then
    bif inB x3 x4.length then
    bif (decide ((x4.getD x3.toNat D_Place).1 < (-10000))) then
      some 1
    else
      bif (decide ((x4.getD x3.toNat D_Place).1 > 10000)) then
        some 1
      else
        ref01_Check_L1 N n1 (W (x3 + 1)) x4 x5
    else none
  else
    ref01_Check_L2 N N 0 x4 x5 := by kernel_rfl
theorem ref01_Check_J1_eq (N : Nat) (x1 : List T_Place) (x2 : List T_Road) : ref01_Check_J1 (N + 1) x1 x2 =
  ref01_Check_L1 (N + 1) (N + 1) 0 x1 x2 := by kernel_rfl
def ref01_Check (N : Nat) (a0 : T_Mine) : Option Int :=
  bif (decide ((a0.1.length : Int) > 64)) then
    some 2
  else
    bif (decide ((a0.2.length : Int) > 128)) then
      some 2
    else
      ref01_Check_J1 N a0.1 a0.2
theorem ref01_Check_fn : FnOK Try.prog 42 109 (fun _ : Nat => false) ref01_Check_C8.er [(.t 2)] := FnOK.mk' Try.func42 (by kernel_rfl) (by kernel_rfl) (by kernel_rfl) (by kernel_rfl) (by kernel_rfl)
theorem ref01_Check_envok (N : Nat) : EnvOK Try.prog (ref01_Check_E N) := .cons (pureE_ok (ref01_Span_pure N)) (.nil)
theorem ref01_Check_pure (N : Nat) : PureOK Try.prog 42 [G_Mine] [(.int .i64)] (fun x => ref01_Check N x) := pureOK (N := N) mixed ref01_Check_fn (ref01_Check_envok N) rfl (fun x => by kernel_rfl)
/-! ref23_Set -/
def ref23_Set_N1 : List NS := [.wk 0 (.list (.int .i64)), .keep [0, 1, 5], .cmp]
def ref23_Set_C4 : TC := (.cond (.t 9) .skip (.exit 0))
def ref23_Set_C11 : TC := .ret
def ref23_Set_C8 : TC := (.cond (.t 40) (.seq (.rg [⟨⟨some 4, (.mov (.c (B false))), none⟩, {}⟩] none) ref23_Set_C11) .skip)
def ref23_Set_C9 : TC := (.rg [⟨⟨some 10, (.mov (.t 5)), none⟩, {}⟩, ⟨⟨some 11, (.bin .add (.t 10) (.c (I 1))), none⟩, {}⟩, ⟨⟨some 5, (.mov (.t 11)), none⟩, {}⟩] none)
def ref23_Set_C5 : TC := (.seq (.block 1 (.seq (.rg [⟨⟨some 12, (.mov (.t 0)), none⟩, {}⟩, ⟨⟨some 13, (.mov (.t 5)), none⟩, {}⟩, ⟨⟨some 14, (.iadrS 1 (.t 12) (.t 13)), none⟩, {}⟩, ⟨⟨some 15, (.load false 1 (.t 14)), none⟩, {}⟩, ⟨⟨some 16, (.bin .lss (.t 15) (.c (I 0))), none⟩, {}⟩, ⟨⟨some 17, (.mov (.t 16)), none⟩, {}⟩,
  ⟨⟨some 18, (.mov (.t 0)), some (17, false)⟩, {}⟩, ⟨⟨some 19, (.mov (.t 5)), some (17, false)⟩, {}⟩, ⟨⟨some 20, (.iadrS 1 (.t 18) (.t 19)), some (17, false)⟩, {}⟩, ⟨⟨some 21, (.load false 1 (.t 20)), some (17, false)⟩, {}⟩, ⟨⟨some 22, (.mov (.t 1)), some (17, false)⟩, {}⟩, ⟨⟨some 23, (.bin .geq (.t
  21) (.t 22)), some (17, false)⟩, {}⟩, ⟨⟨some 24, (.pick (.t 17) (.c (B true)) (.t 23)), none⟩, {}⟩, ⟨⟨some 25, (.mov (.t 24)), none⟩, {}⟩, ⟨⟨some 26, (.mov (.t 5)), some (25, false)⟩, {}⟩, ⟨⟨some 27, (.bin .gtr (.t 26) (.c (I 0))), some (25, false)⟩, {}⟩, ⟨⟨some 28, (.mov (.t 27)), some (25,
  false)⟩, {}⟩, ⟨⟨some 29, (.mov (.t 0)), some (28, true)⟩, {}⟩, ⟨⟨some 30, (.mov (.t 5)), some (28, true)⟩, {}⟩, ⟨⟨some 31, (.iadrS 1 (.t 29) (.t 30)), some (28, true)⟩, {}⟩, ⟨⟨some 32, (.load false 1 (.t 31)), some (28, true)⟩, {}⟩, ⟨⟨some 33, (.mov (.t 0)), some (28, true)⟩, {}⟩, ⟨⟨some 34, (.mov
  (.t 5)), some (28, true)⟩, {}⟩, ⟨⟨some 35, (.bin .sub (.t 34) (.c (I 1))), some (28, true)⟩, {}⟩, ⟨⟨some 36, (.iadrS 1 (.t 33) (.t 35)), some (28, true)⟩, {}⟩, ⟨⟨some 37, (.load false 1 (.t 36)), some (28, true)⟩, {}⟩, ⟨⟨some 38, (.bin .leq (.t 32) (.t 37)), some (28, true)⟩, {}⟩, ⟨⟨some 39, (.pick
  (.t 28) (.t 38) (.c (B false))), some (25, false)⟩, {}⟩, ⟨⟨some 40, (.pick (.t 25) (.c (B true)) (.t 39)), none⟩, {}⟩] (some [])) ref23_Set_C8)) ref23_Set_C9)
def ref23_Set_C1 : TC := (.seq (.seq (.rg [⟨⟨some 6, (.mov (.t 5)), none⟩, {}⟩, ⟨⟨some 7, (.mov (.t 0)), none⟩, {}⟩, ⟨⟨some 8, (.len (.t 7)), none⟩, {}⟩, ⟨⟨some 9, (.bin .lss (.t 6) (.t 8)), none⟩, {}⟩] none) ref23_Set_C4) ref23_Set_C5)
def ref23_Set_C6 : TC := .ret
def ref23_Set_C2 : TC := (.seq (.rg [⟨⟨some 4, (.mov (.c (B true))), none⟩, {}⟩] none) ref23_Set_C6)
def ref23_Set_C10 : TC := (.block 0 (.loop ref23_Set_N1 ref23_Set_C1))
def ref23_Set_C7 : TC := (.seq (.seq (.rg [⟨⟨some 5, (.mov (.c (I 0))), none⟩, {}⟩] none) ref23_Set_C10) ref23_Set_C2)
def ref23_Set_C3 : TC := (.seq (.rg [⟨⟨some 4, (.mov (.c (B false))), none⟩, {}⟩] none) ref23_Set_C7)
def ref23_Set_E (N : Nat) : List (Nat × Ent) := []
def ref23_Set_L1 (N : Nat) (n : Nat) (x1 : List Int) (x2 : Int) (x3 : Int) : Option Bool := loopN (normI 0 ref23_Set_N1) (run (ref23_Set_E N) N 0 ref23_Set_C1) n ⟨[(0, .lst false (.int .i64) x1), (1, .int .i64 x2), (5, .int .i64 x3)], []⟩ (blkK 0 (seqK (run (ref23_Set_E N) N 0 ref23_Set_C2) (fin [(.t 4)] [.bool])))
theorem ref23_Set_L1_zero (N : Nat) (x1 : List Int) (x2 : Int) (x3 : Int) : ref23_Set_L1 N 0 x1 x2 x3 = none := rfl
theorem ref23_Set_L1_succ (N : Nat) (n1 : Nat) (x1 : List Int) (x2 : Int) (x3 : Int) : ref23_Set_L1 N (n1 + 1) x1 x2 x3 =
  bif (decide (x3 < (x1.length : Int))) then
    bif inB x3 x1.length then
    bif (decide ((x1.getD x3.toNat 0) < 0)) then
      some false
    else
      bif inB x3 x1.length then
      bif (decide ((x1.getD x3.toNat 0) ≥ x2)) then
        some false
      else
        bif (decide (x3 > 0)) then
          bif inB x3 x1.length then
          bif inB (W (x3 - 1)) x1.length then
          bif (decide ((x1.getD x3.toNat 0) ≤ (x1.getD (W (x3 - 1)).toNat 0))) then
            some false
          else
            ref23_Set_L1 N n1 x1 x2 (W (x3 + 1))
          else none
          else none
        else
          ref23_Set_L1 N n1 x1 x2 (W (x3 + 1))
      else none
    else none
  else
    some true := by kernel_rfl
def ref23_Set (N : Nat) (a0 : List Int) (a1 : Int) : Option Bool :=
  ref23_Set_L1 N N a0 a1 0
theorem ref23_Set_fn : FnOK Try.prog 43 41 (fun _ : Nat => false) ref23_Set_C3.er [(.t 4)] := FnOK.mk' Try.func43 (by kernel_rfl) (by kernel_rfl) (by kernel_rfl) (by kernel_rfl) (by kernel_rfl)
theorem ref23_Set_envok (N : Nat) : EnvOK Try.prog (ref23_Set_E N) := .nil
theorem ref23_Set_pure (N : Nat) : PureOK Try.prog 43 [(.list (.int .i64)), (.int .i64)] [.bool] (fun x => ref23_Set N x.1 x.2) := pureOK (N := N) mixed ref23_Set_fn (ref23_Set_envok N) rfl (fun x => by kernel_rfl)
/-! ref23_Has -/
def ref23_Has_N1 : List NS := [.wk 0 (.list (.int .i64)), .keep [0, 1, 5], .cmp]
def ref23_Has_C4 : TC := (.cond (.t 9) .skip (.exit 0))
def ref23_Has_C11 : TC := .ret
def ref23_Has_C8 : TC := (.cond (.t 17) (.seq (.rg [⟨⟨some 4, (.mov (.c (B true))), none⟩, {}⟩] none) ref23_Has_C11) .skip)
def ref23_Has_C9 : TC := (.rg [⟨⟨some 10, (.mov (.t 5)), none⟩, {}⟩, ⟨⟨some 11, (.bin .add (.t 10) (.c (I 1))), none⟩, {}⟩, ⟨⟨some 5, (.mov (.t 11)), none⟩, {}⟩] none)
def ref23_Has_C5 : TC := (.seq (.block 1 (.seq (.rg [⟨⟨some 12, (.mov (.t 0)), none⟩, {}⟩, ⟨⟨some 13, (.mov (.t 5)), none⟩, {}⟩, ⟨⟨some 14, (.iadrS 1 (.t 12) (.t 13)), none⟩, {}⟩, ⟨⟨some 15, (.load false 1 (.t 14)), none⟩, {}⟩, ⟨⟨some 16, (.mov (.t 1)), none⟩, {}⟩, ⟨⟨some 17, (.bin .eql (.t 15) (.t 16)), none⟩, {}⟩] none)
  ref23_Has_C8)) ref23_Has_C9)
def ref23_Has_C1 : TC := (.seq (.seq (.rg [⟨⟨some 6, (.mov (.t 5)), none⟩, {}⟩, ⟨⟨some 7, (.mov (.t 0)), none⟩, {}⟩, ⟨⟨some 8, (.len (.t 7)), none⟩, {}⟩, ⟨⟨some 9, (.bin .lss (.t 6) (.t 8)), none⟩, {}⟩] none) ref23_Has_C4) ref23_Has_C5)
def ref23_Has_C6 : TC := .ret
def ref23_Has_C2 : TC := (.seq (.rg [⟨⟨some 4, (.mov (.c (B false))), none⟩, {}⟩] none) ref23_Has_C6)
def ref23_Has_C10 : TC := (.block 0 (.loop ref23_Has_N1 ref23_Has_C1))
def ref23_Has_C7 : TC := (.seq (.seq (.rg [⟨⟨some 5, (.mov (.c (I 0))), none⟩, {}⟩] none) ref23_Has_C10) ref23_Has_C2)
def ref23_Has_C3 : TC := (.seq (.rg [⟨⟨some 4, (.mov (.c (B false))), none⟩, {}⟩] none) ref23_Has_C7)
def ref23_Has_E (N : Nat) : List (Nat × Ent) := []
def ref23_Has_L1 (N : Nat) (n : Nat) (x1 : List Int) (x2 : Int) (x3 : Int) : Option Bool := loopN (normI 0 ref23_Has_N1) (run (ref23_Has_E N) N 0 ref23_Has_C1) n ⟨[(0, .lst false (.int .i64) x1), (1, .int .i64 x2), (5, .int .i64 x3)], []⟩ (blkK 0 (seqK (run (ref23_Has_E N) N 0 ref23_Has_C2) (fin [(.t 4)] [.bool])))
theorem ref23_Has_L1_zero (N : Nat) (x1 : List Int) (x2 : Int) (x3 : Int) : ref23_Has_L1 N 0 x1 x2 x3 = none := rfl
theorem ref23_Has_L1_succ (N : Nat) (n1 : Nat) (x1 : List Int) (x2 : Int) (x3 : Int) : ref23_Has_L1 N (n1 + 1) x1 x2 x3 =
  bif (decide (x3 < (x1.length : Int))) then
    bif inB x3 x1.length then
    bif ((x1.getD x3.toNat 0) == x2) then
      some true
    else
      ref23_Has_L1 N n1 x1 x2 (W (x3 + 1))
    else none
  else
    some false := by kernel_rfl
def ref23_Has (N : Nat) (a0 : List Int) (a1 : Int) : Option Bool :=
  ref23_Has_L1 N N a0 a1 0
theorem ref23_Has_fn : FnOK Try.prog 44 18 (fun _ : Nat => false) ref23_Has_C3.er [(.t 4)] := FnOK.mk' Try.func44 (by kernel_rfl) (by kernel_rfl) (by kernel_rfl) (by kernel_rfl) (by kernel_rfl)
theorem ref23_Has_envok (N : Nat) : EnvOK Try.prog (ref23_Has_E N) := .nil
theorem ref23_Has_pure (N : Nat) : PureOK Try.prog 44 [(.list (.int .i64)), (.int .i64)] [.bool] (fun x => ref23_Has N x.1 x.2) := pureOK (N := N) mixed ref23_Has_fn (ref23_Has_envok N) rfl (fun x => by kernel_rfl)
/-! ref35_Start -/
def ref35_Start_N1 : List NS := [.ownc 10 1 (.int .i64), .wk 1 (.list (.int .i64)), .keep [1, 2, 4, 8, 10, 11], .cmp]
def ref35_Start_C5 : TC := (.cond (.t 47) .skip (.exit 1))
def ref35_Start_C10 : TC := (.cond (.t 52) (.rg [⟨⟨some 53, (.fadr 1 (.t 10)), none⟩, {}⟩, ⟨⟨some 54, (.load false 1 (.t 53)), none⟩, {}⟩, ⟨⟨some 55, (.mov (.t 2)), none⟩, {}⟩, ⟨⟨some 56, (.bslice false 1 [(I 0)] 1 [(0, (.t 55))]), none⟩, ⟨(.int .i64), none⟩⟩, ⟨⟨some 57, (.app 1 8 (.t 54) (.t 56)), none⟩, {}⟩, ⟨⟨some 58, (.fadr
  1 (.t 10)), none⟩, {}⟩, ⟨⟨none, (.store 1 (.t 58) (.t 57)), none⟩, {}⟩] none) (.rg [⟨⟨some 59, (.fadr 1 (.t 10)), none⟩, {}⟩, ⟨⟨some 60, (.load false 1 (.t 59)), none⟩, {}⟩, ⟨⟨some 61, (.bslice false 1 [(I 0)] 1 [(0, (.c (I 0)))]), none⟩, ⟨(.int .i64), none⟩⟩, ⟨⟨some 62, (.app 1 8 (.t 60) (.t 61)),
  none⟩, {}⟩, ⟨⟨some 63, (.fadr 1 (.t 10)), none⟩, {}⟩, ⟨⟨none, (.store 1 (.t 63) (.t 62)), none⟩, {}⟩] none))
def ref35_Start_C11 : TC := (.rg [⟨⟨some 48, (.mov (.t 11)), none⟩, {}⟩, ⟨⟨some 49, (.bin .add (.t 48) (.c (I 1))), none⟩, {}⟩, ⟨⟨some 11, (.mov (.t 49)), none⟩, {}⟩] none)
def ref35_Start_C6 : TC := (.seq (.block 2 (.seq (.rg [⟨⟨some 50, (.mov (.t 1)), none⟩, {}⟩, ⟨⟨some 51, (.mov (.t 11)), none⟩, {}⟩, ⟨⟨some 52, (.call (.c (.fn 44 [])) [(.t 50), (.t 51)]), none⟩, {}⟩] none) ref35_Start_C10)) ref35_Start_C11)
def ref35_Start_C1 : TC := (.seq (.seq (.rg [⟨⟨some 43, (.mov (.t 11)), none⟩, {}⟩, ⟨⟨some 44, (.fadr 1 (.t 4)), none⟩, {}⟩, ⟨⟨some 45, (.load false 1 (.t 44)), none⟩, {}⟩, ⟨⟨some 46, (.len (.t 45)), none⟩, {}⟩, ⟨⟨some 47, (.bin .lss (.t 43) (.t 46)), none⟩, {}⟩] none) ref35_Start_C5) ref35_Start_C6)
def ref35_Start_C16 : TC := .ret
def ref35_Start_C12 : TC := (.pre [.frzb 8] ref35_Start_C16)
def ref35_Start_C7 : TC := (.seq (.rg [⟨⟨some 64, (.load true 2 (.t 10)), none⟩, {}⟩, ⟨⟨none, (.store 2 (.t 8) (.t 64)), none⟩, {}⟩, ⟨⟨some 9, (.mov (.c (I 0))), none⟩, {}⟩] none) ref35_Start_C12)
def ref35_Start_C2 : TC := (.pre [.frzb 10] ref35_Start_C7)
def ref35_Start_C13 : TC := (.block 1 (.loop ref35_Start_N1 ref35_Start_C1))
def ref35_Start_C8 : TC := (.seq (.seq (.rg [⟨⟨some 11, (.mov (.c (I 0))), none⟩, {}⟩] none) ref35_Start_C13) ref35_Start_C2)
def ref35_Start_C3 : TC := (.seq (.rg [⟨⟨some 41, (.mov (.t 3)), none⟩, {}⟩, ⟨⟨some 42, (.build [(I 0), (.lst true [])] [(0, (1, (.t 41)))]), none⟩, {}⟩, ⟨⟨some 10, (.alloc [(I 0), (.lst true [])]), none⟩, {}⟩, ⟨⟨none, (.store 2 (.t 10) (.t 42)), none⟩, {}⟩] none) ref35_Start_C8)
def ref35_Start_C19 : TC := .ret
def ref35_Start_C17 : TC := (.pre [.frzb 8] ref35_Start_C19)
def ref35_Start_C22 : TC := .ret
def ref35_Start_C20 : TC := (.pre [.frzb 8] ref35_Start_C22)
def ref35_Start_C25 : TC := .ret
def ref35_Start_C23 : TC := (.pre [.frzb 8] ref35_Start_C25)
def ref35_Start_C27 : TC := .ret
def ref35_Start_C26 : TC := (.pre [.frzb 8] ref35_Start_C27)
def ref35_Start_C24 : TC := (.cond (.t 33) (.seq (.rg [⟨⟨some 40, (.build [(I 0), (.lst true [])] []), none⟩, {}⟩, ⟨⟨none, (.store 2 (.t 8) (.t 40)), none⟩, {}⟩, ⟨⟨some 9, (.mov (.c (I 8))), none⟩, {}⟩] none) ref35_Start_C26) .skip)
def ref35_Start_C21 : TC := (.cond (.t 25) (.seq (.rg [⟨⟨some 32, (.build [(I 0), (.lst true [])] []), none⟩, {}⟩, ⟨⟨none, (.store 2 (.t 8) (.t 32)), none⟩, {}⟩, ⟨⟨some 9, (.mov (.c (I 1))), none⟩, {}⟩] none) ref35_Start_C23) (.seq (.rg [⟨⟨some 34, (.mov (.t 3)), none⟩, {}⟩, ⟨⟨some 35, (.bin .lss (.t 34) (.c (I 0))), none⟩,
  {}⟩, ⟨⟨some 36, (.mov (.t 35)), none⟩, {}⟩, ⟨⟨some 37, (.mov (.t 3)), some (36, false)⟩, {}⟩, ⟨⟨some 38, (.bin .gtr (.t 37) (.c (I 2147483648))), some (36, false)⟩, {}⟩, ⟨⟨some 39, (.pick (.t 36) (.c (B true)) (.t 38)), none⟩, {}⟩, ⟨⟨some 33, (.mov (.t 39)), none⟩, {}⟩] none) ref35_Start_C24))
def ref35_Start_C18 : TC := (.cond (.t 17) (.seq (.rg [⟨⟨some 24, (.build [(I 0), (.lst true [])] []), none⟩, {}⟩, ⟨⟨none, (.store 2 (.t 8) (.t 24)), none⟩, {}⟩, ⟨⟨some 9, (.mov (.c (I 4))), none⟩, {}⟩] none) ref35_Start_C20) (.seq (.rg [⟨⟨some 26, (.mov (.t 2)), none⟩, {}⟩, ⟨⟨some 27, (.bin .lss (.t 26) (.c (I 0))), none⟩,
  {}⟩, ⟨⟨some 28, (.mov (.t 27)), none⟩, {}⟩, ⟨⟨some 29, (.mov (.t 2)), some (28, false)⟩, {}⟩, ⟨⟨some 30, (.bin .gtr (.t 29) (.c (I 1000000))), some (28, false)⟩, {}⟩, ⟨⟨some 31, (.pick (.t 28) (.c (B true)) (.t 30)), none⟩, {}⟩, ⟨⟨some 25, (.mov (.t 31)), none⟩, {}⟩] none) ref35_Start_C21))
def ref35_Start_C14 : TC := (.cond (.t 12) (.seq (.rg [⟨⟨some 16, (.build [(I 0), (.lst true [])] []), none⟩, {}⟩, ⟨⟨none, (.store 2 (.t 8) (.t 16)), none⟩, {}⟩, ⟨⟨some 9, (.mov (.c (I 6))), none⟩, {}⟩] none) ref35_Start_C17) (.seq (.rg [⟨⟨some 18, (.mov (.t 1)), none⟩, {}⟩, ⟨⟨some 19, (.fadr 1 (.t 4)), none⟩, {}⟩, ⟨⟨some 20,
  (.load false 1 (.t 19)), none⟩, {}⟩, ⟨⟨some 21, (.len (.t 20)), none⟩, {}⟩, ⟨⟨some 22, (.call (.c (.fn 43 [])) [(.t 18), (.t 21)]), none⟩, {}⟩, ⟨⟨some 23, (.un .not (.t 22)), none⟩, {}⟩, ⟨⟨some 17, (.mov (.t 23)), none⟩, {}⟩] none) ref35_Start_C18))
def ref35_Start_C15 : TC := (.join [.wk 1 (.list (.int .i64)), .keep [1, 2, 3, 4, 8], .cmp] ref35_Start_C3)
def ref35_Start_C9 : TC := (.seq (.block 0 (.seq (.rg [⟨⟨some 13, (.load true 2 (.t 4)), none⟩, {}⟩, ⟨⟨some 14, (.call (.c (.fn 42 [])) [(.t 13)]), none⟩, {}⟩, ⟨⟨some 15, (.bin .neq (.t 14) (.c (I 0))), none⟩, {}⟩, ⟨⟨some 12, (.mov (.t 15)), none⟩, {}⟩] none) ref35_Start_C14)) ref35_Start_C15)
def ref35_Start_C4 : TC := (.seq (.rg [⟨⟨some 4, (.box (.t 0)), none⟩, {}⟩, ⟨⟨some 8, (.alloc [(I 0), (.lst true [])]), none⟩, {}⟩, ⟨⟨some 9, (.mov (.c (I 0))), none⟩, {}⟩] none) ref35_Start_C9)
def ref35_Start_E (N : Nat) : List (Nat × Ent) := [(42, pureE [G_Mine] [(.int .i64)] (fun x => ref01_Check N x)), (43, pureE [(.list (.int .i64)), (.int .i64)] [.bool] (fun x => ref23_Set N x.1 x.2)), (44, pureE [(.list (.int .i64)), (.int .i64)] [.bool] (fun x => ref23_Has N x.1 x.2))]
def ref35_Start_L1 (N : Nat) (n : Nat) (x9 : List Int) (x10 : Int) (x11 : Int) (x12 : List T_Place) (x13 : List T_Road) (x14 : Int) (x15 : Int) (x16 : List Int) : Option (T_Fumes × Int) := loopN (normI 0 ref35_Start_N1) (run (ref35_Start_E N) N 0 ref35_Start_C1) n ⟨[(1, .lst false (.int .i64) x9), (2, .int .i64 x10), (4, .ptr 0 0 0), (8, .ptr 1 0 0), (10, .ptr 2 0 0), (11, .int .i64 x11)], [some (.box 0 [.lst false G_Place x12, .lst false G_Road x13]), some (.box 0 [.int .i64 x14, .nil]), some (.box 0 [.int .i64 x15, .whole 3]), some (.arr (.int .i64) x16)]⟩ (blkK 1 (seqK (run (ref35_Start_E N) N 0 ref35_Start_C2) (fin [(.cell 8 true 2), (.t 9)] [G_Fumes, (.int .i64)])))
def ref35_Start_J1 (N : Nat) (x3 : List Int) (x4 : Int) (x5 : Int) (x6 : List T_Place) (x7 : List T_Road) (x8 : Int) : Option (T_Fumes × Int) := joinN (run (ref35_Start_E N) N 0 ref35_Start_C3) N ⟨[(1, .lst false (.int .i64) x3), (2, .int .i64 x4), (3, .int .i64 x5), (4, .ptr 0 0 0), (8, .ptr 1 0 0)], [some (.box 0 [.lst false G_Place x6, .lst false G_Road x7]), some (.box 0 [.int .i64 x8, .nil])]⟩ (fin [(.cell 8 true 2), (.t 9)] [G_Fumes, (.int .i64)])
theorem ref35_Start_L1_zero (N : Nat) (x9 : List Int) (x10 : Int) (x11 : Int) (x12 : List T_Place) (x13 : List T_Road) (x14 : Int) (x15 : Int) (x16 : List Int) : ref35_Start_L1 N 0 x9 x10 x11 x12 x13 x14 x15 x16 = none := rfl
theorem ref35_Start_L1_succ (N : Nat) (n1 : Nat) (x9 : List Int) (x10 : Int) (x11 : Int) (x12 : List T_Place) (x13 : List T_Road) (x14 : Int) (x15 : Int) (x16 : List Int) : ref35_Start_L1 N (n1 + 1) x9 x10 x11 x12 x13 x14 x15 x16 =
  bif (decide (x11 < (x13.length : Int))) then
    Option.bind (ref23_Has N x9 x11) fun r17 =>
    bif r17 then
      bif fitsB (x16.length + 1) 8 then
      ref35_Start_L1 N n1 x9 x10 (W (x11 + 1)) x12 x13 x14 x15 (x16 ++ [x10])
      else none
    else
      bif fitsB (x16.length + 1) 8 then
      ref35_Start_L1 N n1 x9 x10 (W (x11 + 1)) x12 x13 x14 x15 (x16 ++ [0])
      else none
  else
    some ((x15, x16), 0) := by kernel_rfl
theorem ref35_Start_J1_eq (N : Nat) (x3 : List Int) (x4 : Int) (x5 : Int) (x6 : List T_Place) (x7 : List T_Road) (x8 : Int) : ref35_Start_J1 (N + 1) x3 x4 x5 x6 x7 x8 =
  ref35_Start_L1 (N + 1) (N + 1) x3 x4 0 x6 x7 x8 x5 [] := by kernel_rfl
def ref35_Start (N : Nat) (a0 : T_Mine) (a1 : List Int) (a2 : Int) (a3 : Int) : Option (T_Fumes × Int) :=
  Option.bind (ref01_Check N a0) fun r1 =>
  bif (r1 != 0) then
    some ((0, []), 6)
  else
    Option.bind (ref23_Set N a1 (a0.2.length : Int)) fun r2 =>
    bif (!r2) then
      some ((0, []), 4)
    else
      bif (decide (a2 < 0)) then
        some ((0, []), 1)
      else
        bif (decide (a2 > 1000000)) then
          some ((0, []), 1)
        else
          bif (decide (a3 < 0)) then
            some ((0, []), 8)
          else
            bif (decide (a3 > 2147483648)) then
              some ((0, []), 8)
            else
              ref35_Start_J1 N a1 a2 a3 a0.1 a0.2 0
theorem ref35_Start_fn : FnOK Try.prog 24 65 (fun _ : Nat => false) ref35_Start_C4.er [(.cell 8 true 2), (.t 9)] := FnOK.mk' Try.func24 (by kernel_rfl) (by kernel_rfl) (by kernel_rfl) (by kernel_rfl) (by kernel_rfl)
theorem ref35_Start_envok (N : Nat) : EnvOK Try.prog (ref35_Start_E N) := .cons (pureE_ok (ref01_Check_pure N)) (.cons (pureE_ok (ref23_Set_pure N)) (.cons (pureE_ok (ref23_Has_pure N)) (.nil)))
theorem ref35_Start_pure (N : Nat) : PureOK Try.prog 24 [G_Mine, (.list (.int .i64)), (.int .i64), (.int .i64)] [G_Fumes, (.int .i64)] (fun x => ref35_Start N x.1 x.2.1 x.2.2.1 x.2.2.2) := pureOK (N := N) mixed ref35_Start_fn (ref35_Start_envok N) rfl (fun x => by kernel_rfl)
/-! ref35_Copy -/
def ref35_Copy_NE : List NS := [.ownc 2 1 (.int .i64), .keep [2], .out []]
def ref35_Copy_C4 : TC := .ret
def ref35_Copy_C3 : TC := (.pre [.ownc 2 1 (.int .i64), .keep [2], .out []] ref35_Copy_C4)
def ref35_Copy_C2 : TC := (.seq (.pre [.ghost (.int .i64)] (.rg [⟨⟨some 3, (.fadr 0 (.t 1)), none⟩, {}⟩, ⟨⟨some 4, (.load false 1 (.t 3)), none⟩, {}⟩, ⟨⟨some 5, (.fadr 1 (.t 1)), none⟩, {}⟩, ⟨⟨some 6, (.load false 1 (.t 5)), none⟩, {}⟩, ⟨⟨some 7, (.app 1 8 (.c (.lst true [])) (.t 6)), none⟩, ⟨.unit, some 2⟩⟩, ⟨⟨some 8,
  (.build [(I 0), (.lst true [])] [(0, (1, (.t 4))), (1, (1, (.t 7)))]), none⟩, {}⟩, ⟨⟨none, (.store 2 (.t 2) (.t 8)), none⟩, {}⟩] (some [(0, 4), (1, 4)]))) ref35_Copy_C3)
def ref35_Copy_C1 : TC := (.seq (.rg [⟨⟨some 1, (.box (.t 0)), none⟩, {}⟩, ⟨⟨some 2, (.alloc [(I 0), (.lst true [])]), none⟩, {}⟩] none) ref35_Copy_C2)
def ref35_Copy_E (N : Nat) : List (Nat × Ent) := []
def ref35_Copy (N : Nat) (a0 : T_Fumes) : Option (T_Fumes × Unit) :=
  bif fitsB a0.2.length 8 then
  some (a0, ())
  else none
theorem ref35_Copy_fn : FnOK Try.prog 21 9 (fun _ : Nat => false) ref35_Copy_C1.er [(.cell 2 true 2)] := FnOK.mk' Try.func21 (by kernel_rfl) (by kernel_rfl) (by kernel_rfl) (by kernel_rfl) (by kernel_rfl)
theorem ref35_Copy_envok (N : Nat) : EnvOK Try.prog (ref35_Copy_E N) := .nil
theorem ref35_Copy_sf (N : Nat) : SFOK Try.prog 21 [none] [.v G_Fumes] [.o (.p (.v (.int .i64)) (.a (.int .i64)))] (fun x => ref35_Copy N x) := sfOK (N := N) (p := 0) (q := 0) (ns := ref35_Copy_NE) mixed ref35_Copy_fn (ref35_Copy_envok N) rfl rfl rfl (fun x => by kernel_rfl)
/-! ref35_Valid -/
def ref35_Valid_N1 : List NS := [.keep [2, 3, 5], .cmp]
def ref35_Valid_C4 : TC := (.cond (.t 10) .skip (.exit 0))
def ref35_Valid_C11 : TC := .ret
def ref35_Valid_C8 : TC := (.cond (.t 26) (.seq (.rg [⟨⟨some 4, (.mov (.c (B false))), none⟩, {}⟩] none) ref35_Valid_C11) .skip)
def ref35_Valid_C9 : TC := (.rg [⟨⟨some 11, (.mov (.t 5)), none⟩, {}⟩, ⟨⟨some 12, (.bin .add (.t 11) (.c (I 1))), none⟩, {}⟩, ⟨⟨some 5, (.mov (.t 12)), none⟩, {}⟩] none)
def ref35_Valid_C5 : TC := (.seq (.block 1 (.seq (.rg [⟨⟨some 13, (.fadr 1 (.t 3)), none⟩, {}⟩, ⟨⟨some 14, (.load false 1 (.t 13)), none⟩, {}⟩, ⟨⟨some 15, (.mov (.t 5)), none⟩, {}⟩, ⟨⟨some 16, (.iadrS 1 (.t 14) (.t 15)), none⟩, {}⟩, ⟨⟨some 17, (.load false 1 (.t 16)), none⟩, {}⟩, ⟨⟨some 18, (.bin .lss (.t 17) (.c (I 0))),
  none⟩, {}⟩, ⟨⟨some 19, (.mov (.t 18)), none⟩, {}⟩, ⟨⟨some 20, (.fadr 1 (.t 3)), some (19, false)⟩, {}⟩, ⟨⟨some 21, (.load false 1 (.t 20)), some (19, false)⟩, {}⟩, ⟨⟨some 22, (.mov (.t 5)), some (19, false)⟩, {}⟩, ⟨⟨some 23, (.iadrS 1 (.t 21) (.t 22)), some (19, false)⟩, {}⟩, ⟨⟨some 24, (.load
  false 1 (.t 23)), some (19, false)⟩, {}⟩, ⟨⟨some 25, (.bin .gtr (.t 24) (.c (I 1000000))), some (19, false)⟩, {}⟩, ⟨⟨some 26, (.pick (.t 19) (.c (B true)) (.t 25)), none⟩, {}⟩] none) ref35_Valid_C8)) ref35_Valid_C9)
def ref35_Valid_C1 : TC := (.seq (.seq (.rg [⟨⟨some 6, (.mov (.t 5)), none⟩, {}⟩, ⟨⟨some 7, (.fadr 1 (.t 3)), none⟩, {}⟩, ⟨⟨some 8, (.load false 1 (.t 7)), none⟩, {}⟩, ⟨⟨some 9, (.len (.t 8)), none⟩, {}⟩, ⟨⟨some 10, (.bin .lss (.t 6) (.t 9)), none⟩, {}⟩] none) ref35_Valid_C4) ref35_Valid_C5)
def ref35_Valid_C6 : TC := .ret
def ref35_Valid_C2 : TC := (.seq (.rg [⟨⟨some 27, (.load true 2 (.t 2)), none⟩, {}⟩, ⟨⟨some 28, (.call (.c (.fn 42 [])) [(.t 27)]), none⟩, {}⟩, ⟨⟨some 29, (.bin .eql (.t 28) (.c (I 0))), none⟩, {}⟩, ⟨⟨some 30, (.mov (.t 29)), none⟩, {}⟩, ⟨⟨some 31, (.fadr 1 (.t 3)), some (30, true)⟩, {}⟩, ⟨⟨some 32, (.load false 1 (.t 31)),
  some (30, true)⟩, {}⟩, ⟨⟨some 33, (.len (.t 32)), some (30, true)⟩, {}⟩, ⟨⟨some 34, (.fadr 1 (.t 2)), some (30, true)⟩, {}⟩, ⟨⟨some 35, (.load false 1 (.t 34)), some (30, true)⟩, {}⟩, ⟨⟨some 36, (.len (.t 35)), some (30, true)⟩, {}⟩, ⟨⟨some 37, (.bin .eql (.t 33) (.t 36)), some (30, true)⟩, {}⟩,
  ⟨⟨some 38, (.pick (.t 30) (.t 37) (.c (B false))), none⟩, {}⟩, ⟨⟨some 39, (.mov (.t 38)), none⟩, {}⟩, ⟨⟨some 40, (.fadr 0 (.t 3)), some (39, true)⟩, {}⟩, ⟨⟨some 41, (.load false 1 (.t 40)), some (39, true)⟩, {}⟩, ⟨⟨some 42, (.bin .geq (.t 41) (.c (I 0))), some (39, true)⟩, {}⟩, ⟨⟨some 43, (.pick
  (.t 39) (.t 42) (.c (B false))), none⟩, {}⟩, ⟨⟨some 44, (.mov (.t 43)), none⟩, {}⟩, ⟨⟨some 45, (.fadr 0 (.t 3)), some (44, true)⟩, {}⟩, ⟨⟨some 46, (.load false 1 (.t 45)), some (44, true)⟩, {}⟩, ⟨⟨some 47, (.bin .leq (.t 46) (.c (I 2147483648))), some (44, true)⟩, {}⟩, ⟨⟨some 48, (.pick (.t 44) (.t
  47) (.c (B false))), none⟩, {}⟩, ⟨⟨some 4, (.mov (.t 48)), none⟩, {}⟩] none) ref35_Valid_C6)
def ref35_Valid_C10 : TC := (.block 0 (.loop ref35_Valid_N1 ref35_Valid_C1))
def ref35_Valid_C7 : TC := (.seq (.seq (.rg [⟨⟨some 5, (.mov (.c (I 0))), none⟩, {}⟩] none) ref35_Valid_C10) ref35_Valid_C2)
def ref35_Valid_C3 : TC := (.seq (.rg [⟨⟨some 2, (.box (.t 0)), none⟩, {}⟩, ⟨⟨some 3, (.box (.t 1)), none⟩, {}⟩, ⟨⟨some 4, (.mov (.c (B false))), none⟩, {}⟩] none) ref35_Valid_C7)
def ref35_Valid_E (N : Nat) : List (Nat × Ent) := [(42, pureE [G_Mine] [(.int .i64)] (fun x => ref01_Check N x))]
def ref35_Valid_L1 (N : Nat) (n : Nat) (x1 : Int) (x2 : List T_Place) (x3 : List T_Road) (x4 : Int) (x5 : List Int) : Option Bool := loopN (normI 0 ref35_Valid_N1) (run (ref35_Valid_E N) N 0 ref35_Valid_C1) n ⟨[(2, .ptr 0 0 0), (3, .ptr 1 0 0), (5, .int .i64 x1)], [some (.box 0 [.lst false G_Place x2, .lst false G_Road x3]), some (.box 0 [.int .i64 x4, .lst false (.int .i64) x5])]⟩ (blkK 0 (seqK (run (ref35_Valid_E N) N 0 ref35_Valid_C2) (fin [(.t 4)] [.bool])))
theorem ref35_Valid_L1_zero (N : Nat) (x1 : Int) (x2 : List T_Place) (x3 : List T_Road) (x4 : Int) (x5 : List Int) : ref35_Valid_L1 N 0 x1 x2 x3 x4 x5 = none := rfl
theorem ref35_Valid_L1_succ (N : Nat) (n1 : Nat) (x1 : Int) (x2 : List T_Place) (x3 : List T_Road) (x4 : Int) (x5 : List Int) : ref35_Valid_L1 N (n1 + 1) x1 x2 x3 x4 x5 =
  bif (decide (x1 < (x5.length : Int))) then
    bif inB x1 x5.length then
    bif (decide ((x5.getD x1.toNat 0) < 0)) then
      some false
    else
      bif inB x1 x5.length then
      bif (decide ((x5.getD x1.toNat 0) > 1000000)) then
        some false
      else
        ref35_Valid_L1 N n1 (W (x1 + 1)) x2 x3 x4 x5
      else none
    else none
  else
    Option.bind (ref01_Check N (x2, x3)) fun r11 =>
    bif (r11 == 0) then
      bif ((x5.length : Int) == (x3.length : Int)) then
        bif (decide (x4 ≥ 0)) then
          some (decide (x4 ≤ 2147483648))
        else
          some false
      else
        some false
    else
      some false := by kernel_rfl
def ref35_Valid (N : Nat) (a0 : T_Mine) (a1 : T_Fumes) : Option Bool :=
  ref35_Valid_L1 N N 0 a0.1 a0.2 a1.1 a1.2
theorem ref35_Valid_fn : FnOK Try.prog 29 49 (fun _ : Nat => false) ref35_Valid_C3.er [(.t 4)] := FnOK.mk' Try.func29 (by kernel_rfl) (by kernel_rfl) (by kernel_rfl) (by kernel_rfl) (by kernel_rfl)
theorem ref35_Valid_envok (N : Nat) : EnvOK Try.prog (ref35_Valid_E N) := .cons (pureE_ok (ref01_Check_pure N)) (.nil)
theorem ref35_Valid_pure (N : Nat) : PureOK Try.prog 29 [G_Mine, G_Fumes] [.bool] (fun x => ref35_Valid N x.1 x.2) := pureOK (N := N) mixed ref35_Valid_fn (ref35_Valid_envok N) rfl (fun x => by kernel_rfl)
/-! ref28_Span -/
def ref28_Span_C3 : TC := .ret
def ref28_Span_C2 : TC := (.seq (.rg [⟨⟨some 3, (.fadr 0 (.t 1)), none⟩, {}⟩, ⟨⟨some 4, (.load false 1 (.t 3)), none⟩, {}⟩, ⟨⟨some 5, (.bin .geq (.t 4) (.c (I (-1125899906842624)))), none⟩, {}⟩, ⟨⟨some 6, (.mov (.t 5)), none⟩, {}⟩, ⟨⟨some 7, (.fadr 1 (.t 1)), some (6, true)⟩, {}⟩, ⟨⟨some 8, (.load false 1 (.t 7)), some (6,
  true)⟩, {}⟩, ⟨⟨some 9, (.bin .leq (.t 8) (.c (I 1125899906842624))), some (6, true)⟩, {}⟩, ⟨⟨some 10, (.pick (.t 6) (.t 9) (.c (B false))), none⟩, {}⟩, ⟨⟨some 11, (.mov (.t 10)), none⟩, {}⟩, ⟨⟨some 12, (.fadr 0 (.t 1)), some (11, true)⟩, {}⟩, ⟨⟨some 13, (.load false 1 (.t 12)), some (11, true)⟩,
  {}⟩, ⟨⟨some 14, (.fadr 1 (.t 1)), some (11, true)⟩, {}⟩, ⟨⟨some 15, (.load false 1 (.t 14)), some (11, true)⟩, {}⟩, ⟨⟨some 16, (.bin .leq (.t 13) (.t 15)), some (11, true)⟩, {}⟩, ⟨⟨some 17, (.pick (.t 11) (.t 16) (.c (B false))), none⟩, {}⟩, ⟨⟨some 2, (.mov (.t 17)), none⟩, {}⟩] none)
  ref28_Span_C3)
def ref28_Span_C1 : TC := (.seq (.rg [⟨⟨some 1, (.box (.t 0)), none⟩, {}⟩, ⟨⟨some 2, (.mov (.c (B false))), none⟩, {}⟩] none) ref28_Span_C2)
def ref28_Span_E (N : Nat) : List (Nat × Ent) := []
def ref28_Span (N : Nat) (a0 : T_Span) : Option Bool :=
  bif (decide (a0.1 ≥ (-1125899906842624))) then
    bif (decide (a0.2 ≤ 1125899906842624)) then
      some (decide (a0.1 ≤ a0.2))
    else
      some false
  else
    some false
theorem ref28_Span_fn : FnOK Try.prog 59 18 (fun _ : Nat => false) ref28_Span_C1.er [(.t 2)] := FnOK.mk' Try.func59 (by kernel_rfl) (by kernel_rfl) (by kernel_rfl) (by kernel_rfl) (by kernel_rfl)
theorem ref28_Span_envok (N : Nat) : EnvOK Try.prog (ref28_Span_E N) := .nil
theorem ref28_Span_pure (N : Nat) : PureOK Try.prog 59 [G_Span] [.bool] (fun x => ref28_Span N x) := pureOK (N := N) mixed ref28_Span_fn (ref28_Span_envok N) rfl (fun x => by kernel_rfl)
/-! ref28_Flows -/
def ref28_Flows_N1 : List NS := [.wk 1 (.list G_Span), .keep [1, 2, 5], .cmp]
def ref28_Flows_C4 : TC := (.cond (.t 9) .skip (.exit 0))
def ref28_Flows_C11 : TC := .ret
def ref28_Flows_C8 : TC := (.cond (.t 17) (.seq (.rg [⟨⟨some 4, (.mov (.c (B false))), none⟩, {}⟩] none) ref28_Flows_C11) .skip)
def ref28_Flows_C9 : TC := (.rg [⟨⟨some 10, (.mov (.t 5)), none⟩, {}⟩, ⟨⟨some 11, (.bin .add (.t 10) (.c (I 1))), none⟩, {}⟩, ⟨⟨some 5, (.mov (.t 11)), none⟩, {}⟩] none)
def ref28_Flows_C5 : TC := (.seq (.block 1 (.seq (.rg [⟨⟨some 12, (.mov (.t 1)), none⟩, {}⟩, ⟨⟨some 13, (.mov (.t 5)), none⟩, {}⟩, ⟨⟨some 14, (.iadrS 2 (.t 12) (.t 13)), none⟩, {}⟩, ⟨⟨some 15, (.load true 2 (.t 14)), none⟩, {}⟩, ⟨⟨some 16, (.call (.c (.fn 59 [])) [(.t 15)]), none⟩, {}⟩, ⟨⟨some 17, (.un .not (.t 16)), none⟩,
  {}⟩] none) ref28_Flows_C8)) ref28_Flows_C9)
def ref28_Flows_C1 : TC := (.seq (.seq (.rg [⟨⟨some 6, (.mov (.t 5)), none⟩, {}⟩, ⟨⟨some 7, (.mov (.t 1)), none⟩, {}⟩, ⟨⟨some 8, (.len (.t 7)), none⟩, {}⟩, ⟨⟨some 9, (.bin .lss (.t 6) (.t 8)), none⟩, {}⟩] none) ref28_Flows_C4) ref28_Flows_C5)
def ref28_Flows_C6 : TC := .ret
def ref28_Flows_C2 : TC := (.seq (.rg [⟨⟨some 18, (.mov (.t 1)), none⟩, {}⟩, ⟨⟨some 19, (.len (.t 18)), none⟩, {}⟩, ⟨⟨some 20, (.fadr 1 (.t 2)), none⟩, {}⟩, ⟨⟨some 21, (.load false 1 (.t 20)), none⟩, {}⟩, ⟨⟨some 22, (.len (.t 21)), none⟩, {}⟩, ⟨⟨some 23, (.bin .eql (.t 19) (.t 22)), none⟩, {}⟩, ⟨⟨some 4, (.mov (.t 23)), none⟩,
  {}⟩] none) ref28_Flows_C6)
def ref28_Flows_C10 : TC := (.block 0 (.loop ref28_Flows_N1 ref28_Flows_C1))
def ref28_Flows_C7 : TC := (.seq (.seq (.rg [⟨⟨some 5, (.mov (.c (I 0))), none⟩, {}⟩] none) ref28_Flows_C10) ref28_Flows_C2)
def ref28_Flows_C3 : TC := (.seq (.rg [⟨⟨some 2, (.box (.t 0)), none⟩, {}⟩, ⟨⟨some 4, (.mov (.c (B false))), none⟩, {}⟩] none) ref28_Flows_C7)
def ref28_Flows_E (N : Nat) : List (Nat × Ent) := [(59, pureE [G_Span] [.bool] (fun x => ref28_Span N x))]
def ref28_Flows_L1 (N : Nat) (n : Nat) (x1 : List T_Span) (x2 : Int) (x3 : List T_Place) (x4 : List T_Road) : Option Bool := loopN (normI 0 ref28_Flows_N1) (run (ref28_Flows_E N) N 0 ref28_Flows_C1) n ⟨[(1, .lst false G_Span x1), (2, .ptr 0 0 0), (5, .int .i64 x2)], [some (.box 0 [.lst false G_Place x3, .lst false G_Road x4])]⟩ (blkK 0 (seqK (run (ref28_Flows_E N) N 0 ref28_Flows_C2) (fin [(.t 4)] [.bool])))
theorem ref28_Flows_L1_zero (N : Nat) (x1 : List T_Span) (x2 : Int) (x3 : List T_Place) (x4 : List T_Road) : ref28_Flows_L1 N 0 x1 x2 x3 x4 = none := rfl
theorem ref28_Flows_L1_succ (N : Nat) (n1 : Nat) (x1 : List T_Span) (x2 : Int) (x3 : List T_Place) (x4 : List T_Road) : ref28_Flows_L1 N (n1 + 1) x1 x2 x3 x4 =
  bif (decide (x2 < (x1.length : Int))) then
    bif inB x2 x1.length then
    Option.bind (ref28_Span N (x1.getD x2.toNat D_Span)) fun r6 =>
    bif (!r6) then
      some false
    else
      ref28_Flows_L1 N n1 x1 (W (x2 + 1)) x3 x4
    else none
  else
    some ((x1.length : Int) == (x4.length : Int)) := by kernel_rfl
def ref28_Flows (N : Nat) (a0 : T_Mine) (a1 : List T_Span) : Option Bool :=
  ref28_Flows_L1 N N a1 0 a0.1 a0.2
theorem ref28_Flows_fn : FnOK Try.prog 45 24 (fun _ : Nat => false) ref28_Flows_C3.er [(.t 4)] := FnOK.mk' Try.func45 (by kernel_rfl) (by kernel_rfl) (by kernel_rfl) (by kernel_rfl) (by kernel_rfl)
theorem ref28_Flows_envok (N : Nat) : EnvOK Try.prog (ref28_Flows_E N) := .cons (pureE_ok (ref28_Span_pure N)) (.nil)
theorem ref28_Flows_pure (N : Nat) : PureOK Try.prog 45 [G_Mine, (.list G_Span)] [.bool] (fun x => ref28_Flows N x.1 x.2) := pureOK (N := N) mixed ref28_Flows_fn (ref28_Flows_envok N) rfl (fun x => by kernel_rfl)
end M
end Go.Proofs.Ytpmpmlhjnddikaa
