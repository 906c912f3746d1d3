/- Plain models of functions of this seat, each checked against the loaded program and the walk by the kernel. No condition: closed facts. Printed by a program of ours. -/
import Derived.Test.YtjaoghekcifbhaaHl
import Derived.Test.YtjaoghekcifbhaaRows
set_option linter.all false
namespace Go.Proofs.Ytjaoghekcifbhaa
open Go.Pv
namespace M
theorem mixed : Try.prog.follows .mixedOrders = true := Try.checked.mixed
abbrev G_boundsError : GT := (.pair (.int .i64) (.pair (.int .i64) (.pair .bool (.int .u8))))
abbrev T_boundsError := Int × Int × Bool × Int
abbrev D_boundsError : T_boundsError := (0, (0, (false, 0)))
abbrev G_errorAddressString : GT := (.pair .str (.int .u64))
abbrev T_errorAddressString := ByteArray × Int
abbrev D_errorAddressString : T_errorAddressString := (ByteArray.empty, 0)
abbrev G_Hoist : GT := (.pair (.int .i64) (.pair (.int .i64) (.pair (.int .i64) (.pair (.int .i64) (.int .i64)))))
abbrev T_Hoist := Int × Int × Int × Int × Int
abbrev D_Hoist : T_Hoist := (0, (0, (0, (0, 0))))
abbrev G_Ride : GT := (.pair (.int .i64) (.pair (.int .i64) .bool))
abbrev T_Ride := Int × Int × Bool
abbrev D_Ride : T_Ride := (0, (0, false))
abbrev G_Dice : GT := (.pair (.list (.int .i64)) (.int .i64))
abbrev T_Dice := (List Int) × Int
abbrev D_Dice : T_Dice := ([], 0)
/-! made_Light -/
def made_Light_C3 : TC := .ret
def made_Light_C2 : TC := (.seq (.rg [⟨⟨some 3, (.mov (.t 0)), none⟩, {}⟩, ⟨⟨some 4, (.len (.t 3)), none⟩, {}⟩, ⟨⟨some 5, (.bin .leq (.t 4) (.c (I 400))), none⟩, {}⟩, ⟨⟨some 2, (.mov (.t 5)), none⟩, {}⟩] none) made_Light_C3)
def made_Light_C1 : TC := (.seq (.rg [⟨⟨some 2, (.mov (.c (B false))), none⟩, {}⟩] none) made_Light_C2)
def made_Light_E (N : Nat) : List (Nat × Ent) := []
def made_Light (N : Nat) (a0 : List Int) : Option Bool :=
  some (decide ((a0.length : Int) ≤ 400))
theorem made_Light_fn : FnOK Try.prog 8 6 (fun _ : Nat => false) made_Light_C1.er [(.t 2)] := FnOK.mk' Try.func8 (by kernel_rfl) (by kernel_rfl) (by kernel_rfl) (by kernel_rfl) (by kernel_rfl)
theorem made_Light_envok (N : Nat) : EnvOK Try.prog (made_Light_E N) := .nil
theorem made_Light_pure (N : Nat) : PureOK Try.prog 8 [(.list (.int .i64))] [.bool] (fun x => made_Light N x) := pureOK (N := N) mixed made_Light_fn (made_Light_envok N) rfl (fun x => by kernel_rfl)
/-! hoist_Stop -/
def hoist_Stop_C5 : TC := .ret
def hoist_Stop_C3 : TC := (.cond (.t 7) (.seq (.rg [⟨⟨some 4, (.mov (.c (I 0))), none⟩, {}⟩] none) hoist_Stop_C5) .skip)
def hoist_Stop_C6 : TC := .ret
def hoist_Stop_C4 : TC := (.seq (.rg [⟨⟨some 8, (.mov (.t 1)), none⟩, {}⟩, ⟨⟨some 9, (.mov (.t 1)), none⟩, {}⟩, ⟨⟨some 10, (.bin .mul (.t 8) (.t 9)), none⟩, {}⟩, ⟨⟨some 11, (.fadr 2 (.t 2)), none⟩, {}⟩, ⟨⟨some 12, (.load false 1 (.t 11)), none⟩, {}⟩, ⟨⟨some 13, (.bin .mul (.c (I 2)) (.t 12)), none⟩, {}⟩, ⟨⟨some 14, (.bin .add
  (.t 10) (.t 13)), none⟩, {}⟩, ⟨⟨some 15, (.bin .sub (.t 14) (.c (I 1))), none⟩, {}⟩, ⟨⟨some 16, (.fadr 2 (.t 2)), none⟩, {}⟩, ⟨⟨some 17, (.load false 1 (.t 16)), none⟩, {}⟩, ⟨⟨some 18, (.bin .mul (.c (I 2)) (.t 17)), none⟩, {}⟩, ⟨⟨some 19, (.bin .quo (.t 15) (.t 18)), none⟩, {}⟩, ⟨⟨some 4, (.mov
  (.t 19)), none⟩, {}⟩] none) hoist_Stop_C6)
def hoist_Stop_C2 : TC := (.seq (.seq (.rg [⟨⟨some 5, (.fadr 2 (.t 2)), none⟩, {}⟩, ⟨⟨some 6, (.load false 1 (.t 5)), none⟩, {}⟩, ⟨⟨some 7, (.bin .lss (.t 6) (.c (I 1))), none⟩, {}⟩] none) hoist_Stop_C3) hoist_Stop_C4)
def hoist_Stop_C1 : TC := (.seq (.rg [⟨⟨some 2, (.box (.t 0)), none⟩, {}⟩, ⟨⟨some 4, (.mov (.c (I 0))), none⟩, {}⟩] none) hoist_Stop_C2)
def hoist_Stop_E (N : Nat) : List (Nat × Ent) := []
def hoist_Stop (N : Nat) (a0 : T_Hoist) (a1 : Int) : Option Int :=
  bif (decide (a0.2.2.1 < 1)) then
    some 0
  else
    bif (W (2 * a0.2.2.1)) == 0 then none else
    some (W ((W ((W ((W (a1 * a1)) + (W (2 * a0.2.2.1)))) - 1)).tdiv (W (2 * a0.2.2.1))))
theorem hoist_Stop_fn : FnOK Try.prog 14 20 (fun _ : Nat => false) hoist_Stop_C1.er [(.t 4)] := FnOK.mk' Try.func14 (by kernel_rfl) (by kernel_rfl) (by kernel_rfl) (by kernel_rfl) (by kernel_rfl)
theorem hoist_Stop_envok (N : Nat) : EnvOK Try.prog (hoist_Stop_E N) := .nil
theorem hoist_Stop_pure (N : Nat) : PureOK Try.prog 14 [G_Hoist, (.int .i64)] [(.int .i64)] (fun x => hoist_Stop N x.1 x.2) := pureOK (N := N) mixed hoist_Stop_fn (hoist_Stop_envok N) rfl (fun x => by kernel_rfl)
/-! lists_In -/
def lists_In_C3 : TC := .ret
def lists_In_C2 : TC := (.seq (.rg [⟨⟨some 7, (.mov (.t 0)), none⟩, {}⟩, ⟨⟨some 8, (.mov (.t 1)), none⟩, {}⟩, ⟨⟨some 9, (.bin .geq (.t 7) (.t 8)), none⟩, {}⟩, ⟨⟨some 10, (.mov (.t 9)), none⟩, {}⟩, ⟨⟨some 11, (.mov (.t 0)), some (10, true)⟩, {}⟩, ⟨⟨some 12, (.mov (.t 2)), some (10, true)⟩, {}⟩, ⟨⟨some 13, (.bin .leq (.t 11)
  (.t 12)), some (10, true)⟩, {}⟩, ⟨⟨some 14, (.pick (.t 10) (.t 13) (.c (B false))), none⟩, {}⟩, ⟨⟨some 6, (.mov (.t 14)), none⟩, {}⟩] none) lists_In_C3)
def lists_In_C1 : TC := (.seq (.rg [⟨⟨some 6, (.mov (.c (B false))), none⟩, {}⟩] none) lists_In_C2)
def lists_In_E (N : Nat) : List (Nat × Ent) := []
def lists_In (N : Nat) (a0 : Int) (a1 : Int) (a2 : Int) : Option Bool :=
  bif (decide (a0 ≥ a1)) then
    some (decide (a0 ≤ a2))
  else
    some false
theorem lists_In_fn : FnOK Try.prog 27 15 (fun _ : Nat => false) lists_In_C1.er [(.t 6)] := FnOK.mk' Try.func27 (by kernel_rfl) (by kernel_rfl) (by kernel_rfl) (by kernel_rfl) (by kernel_rfl)
theorem lists_In_envok (N : Nat) : EnvOK Try.prog (lists_In_E N) := .nil
theorem lists_In_pure (N : Nat) : PureOK Try.prog 27 [(.int .i64), (.int .i64), (.int .i64)] [.bool] (fun x => lists_In N x.1 x.2.1 x.2.2) := pureOK (N := N) mixed lists_In_fn (lists_In_envok N) rfl (fun x => by kernel_rfl)
/-! hoist_Valid -/
def hoist_Valid_C3 : TC := .ret
def hoist_Valid_C2 : TC := (.seq (.rg [⟨⟨some 5, (.fadr 0 (.t 2)), none⟩, {}⟩, ⟨⟨some 6, (.load false 1 (.t 5)), none⟩, {}⟩, ⟨⟨some 7, (.call (.c (.fn 27 [])) [(.t 6), (.c (I 1)), (.c (I 4000000))]), none⟩, {}⟩, ⟨⟨some 8, (.mov (.t 7)), none⟩, {}⟩, ⟨⟨some 9, (.fadr 1 (.t 2)), some (8, true)⟩, {}⟩, ⟨⟨some 10, (.load false 1 (.t
  9)), some (8, true)⟩, {}⟩, ⟨⟨some 11, (.call (.c (.fn 27 [])) [(.t 10), (.c (I 1)), (.c (I 20000))]), some (8, true)⟩, {}⟩, ⟨⟨some 12, (.pick (.t 8) (.t 11) (.c (B false))), none⟩, {}⟩, ⟨⟨some 13, (.mov (.t 12)), none⟩, {}⟩, ⟨⟨some 14, (.fadr 2 (.t 2)), some (13, true)⟩, {}⟩, ⟨⟨some 15, (.load
  false 1 (.t 14)), some (13, true)⟩, {}⟩, ⟨⟨some 16, (.call (.c (.fn 27 [])) [(.t 15), (.c (I 1)), (.c (I 5000))]), some (13, true)⟩, {}⟩, ⟨⟨some 17, (.pick (.t 13) (.t 16) (.c (B false))), none⟩, {}⟩, ⟨⟨some 18, (.mov (.t 17)), none⟩, {}⟩, ⟨⟨some 19, (.fadr 3 (.t 2)), some (18, true)⟩, {}⟩, ⟨⟨some
  20, (.load false 1 (.t 19)), some (18, true)⟩, {}⟩, ⟨⟨some 21, (.fadr 1 (.t 2)), some (18, true)⟩, {}⟩, ⟨⟨some 22, (.load false 1 (.t 21)), some (18, true)⟩, {}⟩, ⟨⟨some 23, (.call (.c (.fn 27 [])) [(.t 20), (.c (I 0)), (.t 22)]), some (18, true)⟩, {}⟩, ⟨⟨some 24, (.pick (.t 18) (.t 23) (.c (B
  false))), none⟩, {}⟩, ⟨⟨some 25, (.mov (.t 24)), none⟩, {}⟩, ⟨⟨some 26, (.fadr 4 (.t 2)), some (25, true)⟩, {}⟩, ⟨⟨some 27, (.load false 1 (.t 26)), some (25, true)⟩, {}⟩, ⟨⟨some 28, (.call (.c (.fn 27 [])) [(.t 27), (.c (I 0)), (.c (I 20))]), some (25, true)⟩, {}⟩, ⟨⟨some 29, (.pick (.t 25) (.t
  28) (.c (B false))), none⟩, {}⟩, ⟨⟨some 30, (.mov (.t 29)), none⟩, {}⟩, ⟨⟨some 31, (.fadr 0 (.t 3)), some (30, true)⟩, {}⟩, ⟨⟨some 32, (.load false 1 (.t 31)), some (30, true)⟩, {}⟩, ⟨⟨some 33, (.fadr 0 (.t 2)), some (30, true)⟩, {}⟩, ⟨⟨some 34, (.load false 1 (.t 33)), some (30, true)⟩, {}⟩,
  ⟨⟨some 35, (.bin .add (.t 34) (.c (I 1000))), some (30, true)⟩, {}⟩, ⟨⟨some 36, (.call (.c (.fn 27 [])) [(.t 32), (.c (I (-1000))), (.t 35)]), some (30, true)⟩, {}⟩, ⟨⟨some 37, (.pick (.t 30) (.t 36) (.c (B false))), none⟩, {}⟩, ⟨⟨some 38, (.mov (.t 37)), none⟩, {}⟩, ⟨⟨some 39, (.fadr 1 (.t 3)),
  some (38, true)⟩, {}⟩, ⟨⟨some 40, (.load false 1 (.t 39)), some (38, true)⟩, {}⟩, ⟨⟨some 41, (.call (.c (.fn 27 [])) [(.t 40), (.c (I (-40000))), (.c (I 40000))]), some (38, true)⟩, {}⟩, ⟨⟨some 42, (.pick (.t 38) (.t 41) (.c (B false))), none⟩, {}⟩, ⟨⟨some 4, (.mov (.t 42)), none⟩, {}⟩] none)
  hoist_Valid_C3)
def hoist_Valid_C1 : TC := (.seq (.rg [⟨⟨some 2, (.box (.t 0)), none⟩, {}⟩, ⟨⟨some 3, (.box (.t 1)), none⟩, {}⟩, ⟨⟨some 4, (.mov (.c (B false))), none⟩, {}⟩] none) hoist_Valid_C2)
def hoist_Valid_E (N : Nat) : List (Nat × Ent) := [(27, pureE [(.int .i64), (.int .i64), (.int .i64)] [.bool] (fun x => lists_In N x.1 x.2.1 x.2.2))]
def hoist_Valid (N : Nat) (a0 : T_Hoist) (a1 : T_Ride) : Option Bool :=
  Option.bind (lists_In N a0.1 1 4000000) fun r1 =>
  bif r1 then
    Option.bind (lists_In N a0.2.1 1 20000) fun r2 =>
    bif r2 then
      Option.bind (lists_In N a0.2.2.1 1 5000) fun r3 =>
      bif r3 then
        Option.bind (lists_In N a0.2.2.2.1 0 a0.2.1) fun r4 =>
        bif r4 then
          Option.bind (lists_In N a0.2.2.2.2 0 20) fun r5 =>
          bif r5 then
            Option.bind (lists_In N a1.1 (-1000) (W (a0.1 + 1000))) fun r6 =>
            bif r6 then
              Option.bind (lists_In N a1.2.1 (-40000) 40000) fun r7 =>
              some r7
            else
              some false
          else
            some false
        else
          some false
      else
        some false
    else
      some false
  else
    some false
theorem hoist_Valid_fn : FnOK Try.prog 25 43 (fun _ : Nat => false) hoist_Valid_C1.er [(.t 4)] := FnOK.mk' Try.func25 (by kernel_rfl) (by kernel_rfl) (by kernel_rfl) (by kernel_rfl) (by kernel_rfl)
theorem hoist_Valid_envok (N : Nat) : EnvOK Try.prog (hoist_Valid_E N) := .cons (pureE_ok (lists_In_pure N)) (.nil)
theorem hoist_Valid_pure (N : Nat) : PureOK Try.prog 25 [G_Hoist, G_Ride] [.bool] (fun x => hoist_Valid N x.1 x.2) := pureOK (N := N) mixed hoist_Valid_fn (hoist_Valid_envok N) rfl (fun x => by kernel_rfl)
/-! hoist_room -/
def hoist_room_C5 : TC := .ret
def hoist_room_C8 : TC := .ret
def hoist_room_C6 : TC := (.cond (.t 15) (.seq (.rg [⟨⟨some 19, (.fadr 0 (.t 3)), none⟩, {}⟩, ⟨⟨some 20, (.load false 1 (.t 19)), none⟩, {}⟩, ⟨⟨some 21, (.mm true [(.c (I 0)), (.t 20)]), none⟩, {}⟩, ⟨⟨some 4, (.mov (.t 21)), none⟩, {}⟩] none) hoist_room_C8) .skip)
def hoist_room_C3 : TC := (.cond (.t 5) (.seq (.rg [⟨⟨some 9, (.fadr 0 (.t 2)), none⟩, {}⟩, ⟨⟨some 10, (.load false 1 (.t 9)), none⟩, {}⟩, ⟨⟨some 11, (.fadr 0 (.t 3)), none⟩, {}⟩, ⟨⟨some 12, (.load false 1 (.t 11)), none⟩, {}⟩, ⟨⟨some 13, (.bin .sub (.t 10) (.t 12)), none⟩, {}⟩, ⟨⟨some 14, (.mm true [(.c (I 0)), (.t 13)]),
  none⟩, {}⟩, ⟨⟨some 4, (.mov (.t 14)), none⟩, {}⟩] none) hoist_room_C5) (.seq (.rg [⟨⟨some 16, (.fadr 1 (.t 3)), none⟩, {}⟩, ⟨⟨some 17, (.load false 1 (.t 16)), none⟩, {}⟩, ⟨⟨some 18, (.bin .lss (.t 17) (.c (I 0))), none⟩, {}⟩, ⟨⟨some 15, (.mov (.t 18)), none⟩, {}⟩] none) hoist_room_C6))
def hoist_room_C7 : TC := .ret
def hoist_room_C4 : TC := (.seq (.rg [⟨⟨some 4, (.mov (.c (I 0))), none⟩, {}⟩] none) hoist_room_C7)
def hoist_room_C2 : TC := (.seq (.block 0 (.seq (.rg [⟨⟨some 6, (.fadr 1 (.t 3)), none⟩, {}⟩, ⟨⟨some 7, (.load false 1 (.t 6)), none⟩, {}⟩, ⟨⟨some 8, (.bin .gtr (.t 7) (.c (I 0))), none⟩, {}⟩, ⟨⟨some 5, (.mov (.t 8)), none⟩, {}⟩] none) hoist_room_C3)) hoist_room_C4)
def hoist_room_C1 : TC := (.seq (.rg [⟨⟨some 2, (.box (.t 0)), none⟩, {}⟩, ⟨⟨some 3, (.box (.t 1)), none⟩, {}⟩, ⟨⟨some 4, (.mov (.c (I 0))), none⟩, {}⟩] none) hoist_room_C2)
def hoist_room_E (N : Nat) : List (Nat × Ent) := []
def hoist_room (N : Nat) (a0 : T_Hoist) (a1 : T_Ride) : Option Int :=
  bif (decide (a1.2.1 > 0)) then
    some (max 0 (W (a0.1 - a1.1)))
  else
    bif (decide (a1.2.1 < 0)) then
      some (max 0 a1.1)
    else
      some 0
theorem hoist_room_fn : FnOK Try.prog 26 22 (fun _ : Nat => false) hoist_room_C1.er [(.t 4)] := FnOK.mk' Try.func26 (by kernel_rfl) (by kernel_rfl) (by kernel_rfl) (by kernel_rfl) (by kernel_rfl)
theorem hoist_room_envok (N : Nat) : EnvOK Try.prog (hoist_room_E N) := .nil
theorem hoist_room_pure (N : Nat) : PureOK Try.prog 26 [G_Hoist, G_Ride] [(.int .i64)] (fun x => hoist_room N x.1 x.2) := pureOK (N := N) mixed hoist_room_fn (hoist_room_envok N) rfl (fun x => by kernel_rfl)
/-! hoist_clamp -/
def hoist_clamp_C3 : TC := .ret
def hoist_clamp_C2 : TC := (.seq (.rg [⟨⟨some 7, (.mov (.t 1)), none⟩, {}⟩, ⟨⟨some 8, (.mov (.t 0)), none⟩, {}⟩, ⟨⟨some 9, (.mov (.t 2)), none⟩, {}⟩, ⟨⟨some 10, (.mm false [(.t 8), (.t 9)]), none⟩, {}⟩, ⟨⟨some 11, (.mm true [(.t 7), (.t 10)]), none⟩, {}⟩, ⟨⟨some 6, (.mov (.t 11)), none⟩, {}⟩] none) hoist_clamp_C3)
def hoist_clamp_C1 : TC := (.seq (.rg [⟨⟨some 6, (.mov (.c (I 0))), none⟩, {}⟩] none) hoist_clamp_C2)
def hoist_clamp_E (N : Nat) : List (Nat × Ent) := []
def hoist_clamp (N : Nat) (a0 : Int) (a1 : Int) (a2 : Int) : Option Int :=
  some (max a1 (min a0 a2))
theorem hoist_clamp_fn : FnOK Try.prog 28 12 (fun _ : Nat => false) hoist_clamp_C1.er [(.t 6)] := FnOK.mk' Try.func28 (by kernel_rfl) (by kernel_rfl) (by kernel_rfl) (by kernel_rfl) (by kernel_rfl)
theorem hoist_clamp_envok (N : Nat) : EnvOK Try.prog (hoist_clamp_E N) := .nil
theorem hoist_clamp_pure (N : Nat) : PureOK Try.prog 28 [(.int .i64), (.int .i64), (.int .i64)] [(.int .i64)] (fun x => hoist_clamp N x.1 x.2.1 x.2.2) := pureOK (N := N) mixed hoist_clamp_fn (hoist_clamp_envok N) rfl (fun x => by kernel_rfl)
/-! hoist_Tick -/
def hoist_Tick_C3 : TC := (.cond (.t 47) (.rg [⟨⟨some 48, (.fadr 1 (.t 4)), none⟩, {}⟩, ⟨⟨some 49, (.load false 1 (.t 48)), none⟩, {}⟩, ⟨⟨some 50, (.fadr 1 (.t 4)), none⟩, {}⟩, ⟨⟨some 51, (.load false 1 (.t 50)), none⟩, {}⟩, ⟨⟨some 52, (.fadr 2 (.t 3)), none⟩, {}⟩, ⟨⟨some 53, (.load false 1 (.t 52)), none⟩, {}⟩, ⟨⟨some 54,
  (.un .neg (.t 53)), none⟩, {}⟩, ⟨⟨some 55, (.fadr 2 (.t 3)), none⟩, {}⟩, ⟨⟨some 56, (.load false 1 (.t 55)), none⟩, {}⟩, ⟨⟨some 57, (.call (.c (.fn 28 [])) [(.t 51), (.t 54), (.t 56)]), none⟩, {}⟩, ⟨⟨some 58, (.bin .sub (.t 49) (.t 57)), none⟩, {}⟩, ⟨⟨some 59, (.fadr 1 (.t 9)), none⟩, {}⟩, ⟨⟨none,
  (.store 1 (.t 59) (.t 58)), none⟩, {}⟩] (some [(0, 9), (1, 9)])) (.rg [⟨⟨some 60, (.fadr 1 (.t 4)), none⟩, {}⟩, ⟨⟨some 61, (.load false 1 (.t 60)), none⟩, {}⟩, ⟨⟨some 62, (.mov (.t 2)), none⟩, {}⟩, ⟨⟨some 63, (.fadr 2 (.t 3)), none⟩, {}⟩, ⟨⟨some 64, (.load false 1 (.t 63)), none⟩, {}⟩, ⟨⟨some 65,
  (.un .neg (.t 64)), none⟩, {}⟩, ⟨⟨some 66, (.fadr 2 (.t 3)), none⟩, {}⟩, ⟨⟨some 67, (.load false 1 (.t 66)), none⟩, {}⟩, ⟨⟨some 68, (.call (.c (.fn 28 [])) [(.t 62), (.t 65), (.t 67)]), none⟩, {}⟩, ⟨⟨some 69, (.bin .add (.t 61) (.t 68)), none⟩, {}⟩, ⟨⟨some 70, (.fadr 1 (.t 3)), none⟩, {}⟩, ⟨⟨some
  71, (.load false 1 (.t 70)), none⟩, {}⟩, ⟨⟨some 72, (.un .neg (.t 71)), none⟩, {}⟩, ⟨⟨some 73, (.fadr 1 (.t 3)), none⟩, {}⟩, ⟨⟨some 74, (.load false 1 (.t 73)), none⟩, {}⟩, ⟨⟨some 75, (.call (.c (.fn 28 [])) [(.t 69), (.t 72), (.t 74)]), none⟩, {}⟩, ⟨⟨some 76, (.fadr 1 (.t 9)), none⟩, {}⟩, ⟨⟨none,
  (.store 1 (.t 76) (.t 75)), none⟩, {}⟩] (some [(0, 8), (1, 8), (8, 10), (8, 11), (8, 13), (8, 14)])))
def hoist_Tick_C9 : TC := .ret
def hoist_Tick_C6 : TC := (.seq (.rg [⟨⟨some 91, (.load true 3 (.t 9)), none⟩, {}⟩, ⟨⟨none, (.store 3 (.t 6) (.t 91)), none⟩, {}⟩, ⟨⟨some 7, (.mov (.c (I 0))), none⟩, {}⟩] none) hoist_Tick_C9)
def hoist_Tick_C4 : TC := (.seq (.rg [⟨⟨some 77, (.fadr 0 (.t 4)), none⟩, {}⟩, ⟨⟨some 78, (.load false 1 (.t 77)), none⟩, {}⟩, ⟨⟨some 79, (.fadr 1 (.t 4)), none⟩, {}⟩, ⟨⟨some 80, (.load false 1 (.t 79)), none⟩, {}⟩, ⟨⟨some 81, (.fadr 1 (.t 9)), none⟩, {}⟩, ⟨⟨some 82, (.load false 1 (.t 81)), none⟩, {}⟩, ⟨⟨some 83, (.bin .add
  (.t 80) (.t 82)), none⟩, {}⟩, ⟨⟨some 84, (.bin .quo (.t 83) (.c (I 2))), none⟩, {}⟩, ⟨⟨some 85, (.bin .add (.t 78) (.t 84)), none⟩, {}⟩, ⟨⟨some 86, (.fadr 0 (.t 3)), none⟩, {}⟩, ⟨⟨some 87, (.load false 1 (.t 86)), none⟩, {}⟩, ⟨⟨some 88, (.bin .add (.t 87) (.c (I 1000))), none⟩, {}⟩, ⟨⟨some 89,
  (.call (.c (.fn 28 [])) [(.t 85), (.c (I (-1000))), (.t 88)]), none⟩, {}⟩, ⟨⟨some 90, (.fadr 0 (.t 9)), none⟩, {}⟩, ⟨⟨none, (.store 1 (.t 90) (.t 89)), none⟩, {}⟩] none) hoist_Tick_C6)
def hoist_Tick_C1 : TC := (.seq (.seq (.rg [⟨⟨some 46, (.fadr 2 (.t 9)), none⟩, {}⟩, ⟨⟨some 47, (.load false 1 (.t 46)), none⟩, {}⟩] none) hoist_Tick_C3) hoist_Tick_C4)
def hoist_Tick_C10 : TC := .ret
def hoist_Tick_C7 : TC := (.cond (.t 13) (.seq (.rg [⟨⟨some 14, (.load true 3 (.t 4)), none⟩, {}⟩, ⟨⟨none, (.store 3 (.t 6) (.t 14)), none⟩, {}⟩, ⟨⟨some 7, (.mov (.c (I 6))), none⟩, {}⟩] none) hoist_Tick_C10) .skip)
def hoist_Tick_C12 : TC := (.join [.keep [2, 3, 4, 6, 9], .cmp] hoist_Tick_C1)
def hoist_Tick_C11 : TC := (.seq (.rg [⟨⟨some 32, (.fadr 2 (.t 4)), none⟩, {}⟩, ⟨⟨some 33, (.load false 1 (.t 32)), none⟩, {}⟩, ⟨⟨some 34, (.mov (.t 33)), none⟩, {}⟩, ⟨⟨some 35, (.mov (.t 8)), some (34, false)⟩, {}⟩, ⟨⟨some 36, (.pick (.t 34) (.c (B true)) (.t 35)), none⟩, {}⟩, ⟨⟨some 37, (.mov (.t 36)), none⟩, {}⟩, ⟨⟨some 38,
  (.fadr 0 (.t 4)), some (37, false)⟩, {}⟩, ⟨⟨some 39, (.load false 1 (.t 38)), some (37, false)⟩, {}⟩, ⟨⟨some 40, (.fadr 0 (.t 3)), some (37, false)⟩, {}⟩, ⟨⟨some 41, (.load false 1 (.t 40)), some (37, false)⟩, {}⟩, ⟨⟨some 42, (.call (.c (.fn 27 [])) [(.t 39), (.c (I 0)), (.t 41)]), some (37,
  false)⟩, {}⟩, ⟨⟨some 43, (.un .not (.t 42)), some (37, false)⟩, {}⟩, ⟨⟨some 44, (.pick (.t 37) (.c (B true)) (.t 43)), none⟩, {}⟩, ⟨⟨some 45, (.build [(I 0), (I 0), (B false)] [(2, (1, (.t 44)))]), none⟩, {}⟩, ⟨⟨some 9, (.alloc [(I 0), (I 0), (B false)]), none⟩, {}⟩, ⟨⟨none, (.store 3 (.t 9) (.t
  45)), none⟩, {}⟩] none) hoist_Tick_C12)
def hoist_Tick_C8 : TC := (.seq (.rg [⟨⟨some 15, (.fadr 1 (.t 4)), none⟩, {}⟩, ⟨⟨some 16, (.load false 1 (.t 15)), none⟩, {}⟩, ⟨⟨some 17, (.fadr 1 (.t 4)), none⟩, {}⟩, ⟨⟨some 18, (.load false 1 (.t 17)), none⟩, {}⟩, ⟨⟨some 19, (.un .neg (.t 18)), none⟩, {}⟩, ⟨⟨some 20, (.mm true [(.t 16), (.t 19)]), none⟩, {}⟩, ⟨⟨some 21,
  (.load true 5 (.t 3)), none⟩, {}⟩, ⟨⟨some 22, (.load true 5 (.t 3)), none⟩, {}⟩, ⟨⟨some 23, (.load true 3 (.t 4)), none⟩, {}⟩, ⟨⟨some 24, (.call (.c (.fn 26 [])) [(.t 22), (.t 23)]), none⟩, {}⟩, ⟨⟨some 25, (.call (.c (.fn 13 [])) [(.t 21), (.t 24)]), none⟩, {}⟩, ⟨⟨some 26, (.fadr 4 (.t 3)), none⟩,
  {}⟩, ⟨⟨some 27, (.load false 1 (.t 26)), none⟩, {}⟩, ⟨⟨some 28, (.bin .add (.c (I 100)) (.t 27)), none⟩, {}⟩, ⟨⟨some 29, (.bin .mul (.t 25) (.t 28)), none⟩, {}⟩, ⟨⟨some 30, (.bin .quo (.t 29) (.c (I 100))), none⟩, {}⟩, ⟨⟨some 31, (.bin .gtr (.t 20) (.t 30)), none⟩, {}⟩, ⟨⟨some 8, (.mov (.t 31)),
  none⟩, {}⟩] (some [(0, 9), (1, 9), (2, 9), (3, 9), (6, 9), (0, 10), (1, 10), (2, 10), (3, 10), (9, 11), (10, 11), (9, 12), (10, 12)])) hoist_Tick_C11)
def hoist_Tick_C5 : TC := (.seq (.seq (.rg [⟨⟨some 10, (.load true 5 (.t 3)), none⟩, {}⟩, ⟨⟨some 11, (.load true 3 (.t 4)), none⟩, {}⟩, ⟨⟨some 12, (.call (.c (.fn 25 [])) [(.t 10), (.t 11)]), none⟩, {}⟩, ⟨⟨some 13, (.un .not (.t 12)), none⟩, {}⟩] none) hoist_Tick_C7) hoist_Tick_C8)
def hoist_Tick_C2 : TC := (.seq (.rg [⟨⟨some 3, (.box (.t 0)), none⟩, {}⟩, ⟨⟨some 4, (.box (.t 1)), none⟩, {}⟩, ⟨⟨some 6, (.alloc [(I 0), (I 0), (B false)]), none⟩, {}⟩, ⟨⟨some 7, (.mov (.c (I 0))), none⟩, {}⟩] none) hoist_Tick_C5)
def hoist_Tick_E (N : Nat) : List (Nat × Ent) := [(25, pureE [G_Hoist, G_Ride] [.bool] (fun x => hoist_Valid N x.1 x.2)), (26, pureE [G_Hoist, G_Ride] [(.int .i64)] (fun x => hoist_room N x.1 x.2)), (13, pureE [G_Hoist, (.int .i64)] [(.int .i64)] (fun x => hoist_Limit N x.1 x.2)), (28, pureE [(.int .i64), (.int .i64), (.int .i64)] [(.int .i64)] (fun x => hoist_clamp N x.1 x.2.1 x.2.2)), (27, pureE [(.int .i64), (.int .i64), (.int .i64)] [.bool] (fun x => lists_In N x.1 x.2.1 x.2.2))]
def hoist_Tick_J1 (N : Nat) (x6 : Int) (x7 : Int) (x8 : Int) (x9 : Int) (x10 : Int) (x11 : Int) (x12 : Int) (x13 : Int) (x14 : Bool) (x15 : Int) (x16 : Int) (x17 : Bool) (x18 : Int) (x19 : Int) (x20 : Bool) : Option (T_Ride × Int) := joinN (run (hoist_Tick_E N) N 0 hoist_Tick_C1) N ⟨[(2, .int .i64 x6), (3, .ptr 0 0 0), (4, .ptr 1 0 0), (6, .ptr 2 0 0), (9, .ptr 3 0 0)], [some (.box 0 [.int .i64 x7, .int .i64 x8, .int .i64 x9, .int .i64 x10, .int .i64 x11]), some (.box 0 [.int .i64 x12, .int .i64 x13, .bool x14]), some (.box 0 [.int .i64 x15, .int .i64 x16, .bool x17]), some (.box 0 [.int .i64 x18, .int .i64 x19, .bool x20])]⟩ (fin [(.cell 6 true 3), (.t 7)] [G_Ride, (.int .i64)])
theorem hoist_Tick_J1_eq (N : Nat) (x6 : Int) (x7 : Int) (x8 : Int) (x9 : Int) (x10 : Int) (x11 : Int) (x12 : Int) (x13 : Int) (x14 : Bool) (x15 : Int) (x16 : Int) (x17 : Bool) (x18 : Int) (x19 : Int) (x20 : Bool) : hoist_Tick_J1 (N + 1) x6 x7 x8 x9 x10 x11 x12 x13 x14 x15 x16 x17 x18 x19 x20 =
  bif x20 then
    Option.bind (hoist_clamp (N + 1) x13 (W (0 - x9)) x9) fun r21 =>
    Option.bind (hoist_clamp (N + 1) (W (x12 + (W ((W (x13 + (W (x13 - r21)))).tdiv 2)))) (-1000) (W (x7 + 1000))) fun r24 =>
    some ((r24, (W (x13 - r21), x20)), 0)
  else
    Option.bind (hoist_clamp (N + 1) x6 (W (0 - x9)) x9) fun r25 =>
    Option.bind (hoist_clamp (N + 1) (W (x13 + r25)) (W (0 - x8)) x8) fun r26 =>
    Option.bind (hoist_clamp (N + 1) (W (x12 + (W ((W (x13 + r26)).tdiv 2)))) (-1000) (W (x7 + 1000))) fun r28 =>
    some ((r28, (r26, x20)), 0) := by kernel_rfl
def hoist_Tick (N : Nat) (a0 : T_Hoist) (a1 : T_Ride) (a2 : Int) : Option (T_Ride × Int) :=
  Option.bind (hoist_Valid N a0 a1) fun r1 =>
  bif (!r1) then
    some (a1, 6)
  else
    Option.bind (hoist_room N a0 a1) fun r3 =>
    Option.bind (hoist_Limit N a0 r3) fun r4 =>
    bif a1.2.2 then
      hoist_Tick_J1 N a2 a0.1 a0.2.1 a0.2.2.1 a0.2.2.2.1 a0.2.2.2.2 a1.1 a1.2.1 a1.2.2 0 0 false 0 0 true
    else
      bif (decide ((max a1.2.1 (W (0 - a1.2.1))) > (W ((W (r4 * (W (100 + a0.2.2.2.2)))).tdiv 100)))) then
        hoist_Tick_J1 N a2 a0.1 a0.2.1 a0.2.2.1 a0.2.2.2.1 a0.2.2.2.2 a1.1 a1.2.1 a1.2.2 0 0 false 0 0 true
      else
        Option.bind (lists_In N a1.1 0 a0.1) fun r59 =>
        hoist_Tick_J1 N a2 a0.1 a0.2.1 a0.2.2.1 a0.2.2.2.1 a0.2.2.2.2 a1.1 a1.2.1 a1.2.2 0 0 false 0 0 (!r59)
theorem hoist_Tick_fn : FnOK Try.prog 16 92 (fun _ : Nat => false) hoist_Tick_C2.er [(.cell 6 true 3), (.t 7)] := FnOK.mk' Try.func16 (by kernel_rfl) (by kernel_rfl) (by kernel_rfl) (by kernel_rfl) (by kernel_rfl)
theorem hoist_Tick_envok (N : Nat) : EnvOK Try.prog (hoist_Tick_E N) := .cons (pureE_ok (hoist_Valid_pure N)) (.cons (pureE_ok (hoist_room_pure N)) (.cons (pureE_ok (hoist_Limit_pure N)) (.cons (pureE_ok (hoist_clamp_pure N)) (.cons (pureE_ok (lists_In_pure N)) (.nil)))))
theorem hoist_Tick_pure (N : Nat) : PureOK Try.prog 16 [G_Hoist, G_Ride, (.int .i64)] [G_Ride, (.int .i64)] (fun x => hoist_Tick N x.1 x.2.1 x.2.2) := pureOK (N := N) mixed hoist_Tick_fn (hoist_Tick_envok N) rfl (fun x => by kernel_rfl)
/-! law37_shaft -/
def law37_shaft_C3 : TC := .ret
def law37_shaft_C2 : TC := (.seq (.rg [⟨⟨some 1, (.build [(I 0), (I 0), (I 0), (I 0), (I 0)] [(0, (1, (.c (I 500000)))), (1, (1, (.c (I 15000)))), (2, (1, (.c (I 1000)))), (3, (1, (.c (I 300)))), (4, (1, (.c (I 10))))]), none⟩, {}⟩, ⟨⟨none, (.store 5 (.t 0) (.t 1)), none⟩, {}⟩] none) law37_shaft_C3)
def law37_shaft_C1 : TC := (.seq (.rg [⟨⟨some 0, (.alloc [(I 0), (I 0), (I 0), (I 0), (I 0)]), none⟩, {}⟩] none) law37_shaft_C2)
def law37_shaft_E (N : Nat) : List (Nat × Ent) := []
def law37_shaft (N : Nat) : Option T_Hoist :=
  some (500000, (15000, (1000, (300, 10))))
theorem law37_shaft_fn : FnOK Try.prog 18 2 (fun _ : Nat => false) law37_shaft_C1.er [(.cell 0 true 5)] := FnOK.mk' Try.func18 (by kernel_rfl) (by kernel_rfl) (by kernel_rfl) (by kernel_rfl) (by kernel_rfl)
theorem law37_shaft_envok (N : Nat) : EnvOK Try.prog (law37_shaft_E N) := .nil
theorem law37_shaft_pure (N : Nat) : PureOK Try.prog 18 [] [G_Hoist] (fun x => law37_shaft N) := pureOK (N := N) mixed law37_shaft_fn (law37_shaft_envok N) rfl (fun x => by kernel_rfl)
/-! law37_awake -/
def law37_awake_C4 : TC := .ret
def law37_awake_C3 : TC := (.seq (.rg [⟨⟨some 9, (.call (.c (.fn 18 [])) []), none⟩, {}⟩, ⟨⟨some 10, (.call (.c (.fn 13 [])) [(.t 9), (.c (I 50000))]), none⟩, {}⟩, ⟨⟨some 11, (.bin .eql (.t 10) (.c (I 10300))), none⟩, {}⟩, ⟨⟨some 12, (.mov (.t 11)), none⟩, {}⟩, ⟨⟨some 13, (.call (.c (.fn 18 [])) []), some (12, true)⟩, {}⟩,
  ⟨⟨some 14, (.call (.c (.fn 13 [])) [(.t 13), (.c (I 0))]), some (12, true)⟩, {}⟩, ⟨⟨some 15, (.bin .eql (.t 14) (.c (I 300))), some (12, true)⟩, {}⟩, ⟨⟨some 16, (.pick (.t 12) (.t 15) (.c (B false))), none⟩, {}⟩, ⟨⟨some 17, (.mov (.t 16)), none⟩, {}⟩, ⟨⟨some 18, (.call (.c (.fn 18 [])) []), some
  (17, true)⟩, {}⟩, ⟨⟨some 19, (.call (.c (.fn 14 [])) [(.t 18), (.c (I 10000))]), some (17, true)⟩, {}⟩, ⟨⟨some 20, (.bin .eql (.t 19) (.c (I 50000))), some (17, true)⟩, {}⟩, ⟨⟨some 21, (.pick (.t 17) (.t 20) (.c (B false))), none⟩, {}⟩, ⟨⟨some 22, (.mov (.t 21)), none⟩, {}⟩, ⟨⟨some 23, (.mov (.t
  2)), some (22, true)⟩, {}⟩, ⟨⟨some 24, (.bin .eql (.t 23) (.c (I 0))), some (22, true)⟩, {}⟩, ⟨⟨some 25, (.pick (.t 22) (.t 24) (.c (B false))), none⟩, {}⟩, ⟨⟨some 26, (.mov (.t 25)), none⟩, {}⟩, ⟨⟨some 27, (.fadr 2 (.t 1)), some (26, true)⟩, {}⟩, ⟨⟨some 28, (.load false 1 (.t 27)), some (26,
  true)⟩, {}⟩, ⟨⟨some 29, (.pick (.t 26) (.t 28) (.c (B false))), none⟩, {}⟩, ⟨⟨some 30, (.mov (.t 29)), none⟩, {}⟩, ⟨⟨some 31, (.fadr 1 (.t 1)), some (30, true)⟩, {}⟩, ⟨⟨some 32, (.load false 1 (.t 31)), some (30, true)⟩, {}⟩, ⟨⟨some 33, (.bin .eql (.t 32) (.c (I 8000))), some (30, true)⟩, {}⟩,
  ⟨⟨some 34, (.pick (.t 30) (.t 33) (.c (B false))), none⟩, {}⟩, ⟨⟨some 35, (.mov (.t 34)), none⟩, {}⟩, ⟨⟨some 36, (.fadr 0 (.t 1)), some (35, true)⟩, {}⟩, ⟨⟨some 37, (.load false 1 (.t 36)), some (35, true)⟩, {}⟩, ⟨⟨some 38, (.bin .eql (.t 37) (.c (I 501000))), some (35, true)⟩, {}⟩, ⟨⟨some 39,
  (.pick (.t 35) (.t 38) (.c (B false))), none⟩, {}⟩, ⟨⟨some 0, (.mov (.t 39)), none⟩, {}⟩] none) law37_awake_C4)
def law37_awake_C2 : TC := (.seq (.rg [⟨⟨some 4, (.call (.c (.fn 18 [])) []), none⟩, {}⟩, ⟨⟨some 5, (.build [(I 0), (I 0), (B false)] [(0, (1, (.c (I 499000)))), (1, (1, (.c (I 9000))))]), none⟩, {}⟩, ⟨⟨some 6, (.call (.c (.fn 16 [])) [(.t 4), (.t 5), (.c (I 0))]), none⟩, {}⟩, ⟨⟨some 3, (.mov (.t 6)), none⟩, {}⟩, ⟨⟨some 7,
  (.extr 0 (.t 3)), none⟩, {}⟩, ⟨⟨some 8, (.extr 1 (.t 3)), none⟩, {}⟩, ⟨⟨some 1, (.alloc [(I 0), (I 0), (B false)]), none⟩, {}⟩, ⟨⟨none, (.store 3 (.t 1) (.t 7)), none⟩, {}⟩, ⟨⟨some 2, (.mov (.t 8)), none⟩, {}⟩] none) law37_awake_C3)
def law37_awake_C1 : TC := (.seq (.rg [⟨⟨some 0, (.mov (.c (B false))), none⟩, {}⟩] none) law37_awake_C2)
def law37_awake_E (N : Nat) : List (Nat × Ent) := [(18, pureE [] [G_Hoist] (fun x => law37_shaft N)), (16, pureE [G_Hoist, G_Ride, (.int .i64)] [G_Ride, (.int .i64)] (fun x => hoist_Tick N x.1 x.2.1 x.2.2)), (13, pureE [G_Hoist, (.int .i64)] [(.int .i64)] (fun x => hoist_Limit N x.1 x.2)), (14, pureE [G_Hoist, (.int .i64)] [(.int .i64)] (fun x => hoist_Stop N x.1 x.2))]
def law37_awake (N : Nat) : Option Bool :=
  Option.bind (law37_shaft N) fun r1 =>
  Option.bind (hoist_Tick N r1 (499000, (9000, false)) 0) fun r2 =>
  Option.bind (law37_shaft N) fun r3 =>
  Option.bind (hoist_Limit N r3 50000) fun r4 =>
  bif (r4 == 10300) then
    Option.bind (law37_shaft N) fun r5 =>
    Option.bind (hoist_Limit N r5 0) fun r6 =>
    bif (r6 == 300) then
      Option.bind (law37_shaft N) fun r7 =>
      Option.bind (hoist_Stop N r7 10000) fun r8 =>
      bif (r8 == 50000) then
        bif (r2.2 == 0) then
          bif r2.1.2.2 then
            bif (r2.1.2.1 == 8000) then
              some (r2.1.1 == 501000)
            else
              some false
          else
            some false
        else
          some false
      else
        some false
    else
      some false
  else
    some false
theorem law37_awake_fn : FnOK Try.prog 9 40 (fun _ : Nat => false) law37_awake_C1.er [(.t 0)] := FnOK.mk' Try.func9 (by kernel_rfl) (by kernel_rfl) (by kernel_rfl) (by kernel_rfl) (by kernel_rfl)
theorem law37_awake_envok (N : Nat) : EnvOK Try.prog (law37_awake_E N) := .cons (pureE_ok (law37_shaft_pure N)) (.cons (pureE_ok (hoist_Tick_pure N)) (.cons (pureE_ok (hoist_Limit_pure N)) (.cons (pureE_ok (hoist_Stop_pure N)) (.nil))))
theorem law37_awake_pure (N : Nat) : PureOK Try.prog 9 [] [.bool] (fun x => law37_awake N) := pureOK (N := N) mixed law37_awake_fn (law37_awake_envok N) rfl (fun x => by kernel_rfl)
/-! made_Roll -/
def made_Roll_C4 : TC := .ret
def made_Roll_C3 : TC := (.pre [.keep [2], .cmp] made_Roll_C4)
def made_Roll_C2 : TC := (.seq (.rg [⟨⟨some 3, (.mov (.t 0)), none⟩, {}⟩, ⟨⟨some 4, (.build [(.lst true []), (I 0)] [(0, (1, (.t 3)))]), none⟩, {}⟩, ⟨⟨some 5, (.box (.t 4)), none⟩, {}⟩, ⟨⟨some 2, (.mov (.t 5)), none⟩, {}⟩] none) made_Roll_C3)
def made_Roll_C1 : TC := (.seq (.rg [⟨⟨some 2, (.mov (.c (.v (.pointer none)))), none⟩, {}⟩] none) made_Roll_C2)
def made_Roll_E (N : Nat) : List (Nat × Ent) := []
def made_Roll (N : Nat) (a0 : List Int) : Option (T_Dice × Unit) :=
  some ((a0, 0), ())
theorem made_Roll_fn : FnOK Try.prog 10 6 (fun _ : Nat => false) made_Roll_C1.er [(.t 2)] := FnOK.mk' Try.func10 (by kernel_rfl) (by kernel_rfl) (by kernel_rfl) (by kernel_rfl) (by kernel_rfl)
theorem made_Roll_envok (N : Nat) : EnvOK Try.prog (made_Roll_E N) := .nil
theorem made_Roll_sf (N : Nat) : SFOK Try.prog 10 [(false, (.list (.int .i64)))] [.n G_Dice] (fun x => made_Roll N x) := sfOK (N := N) (p := 0) mixed made_Roll_fn (made_Roll_envok N) rfl rfl (fun x => by kernel_rfl)
/-! made_Mod -/
def made_Mod_C5 : TC := .ret
def made_Mod_C3 : TC := (.cond (.t 6) (.seq (.rg [⟨⟨some 4, (.mov (.c (I 0))), none⟩, {}⟩] none) made_Mod_C5) .skip)
def made_Mod_C7 : TC := (.cond (.t 11) (.rg [⟨⟨some 12, (.mov (.t 0)), none⟩, {}⟩, ⟨⟨some 13, (.mov (.t 1)), none⟩, {}⟩, ⟨⟨some 14, (.bin .add (.t 12) (.t 13)), none⟩, {}⟩, ⟨⟨some 0, (.mov (.t 14)), none⟩, {}⟩] none) .skip)
def made_Mod_C9 : TC := .ret
def made_Mod_C8 : TC := (.seq (.rg [⟨⟨some 15, (.mov (.t 0)), none⟩, {}⟩, ⟨⟨some 4, (.mov (.t 15)), none⟩, {}⟩] none) made_Mod_C9)
def made_Mod_C6 : TC := (.seq (.seq (.rg [⟨⟨some 10, (.mov (.t 0)), none⟩, {}⟩, ⟨⟨some 11, (.bin .lss (.t 10) (.c (I 0))), none⟩, {}⟩] none) made_Mod_C7) made_Mod_C8)
def made_Mod_C4 : TC := (.seq (.rg [⟨⟨some 7, (.mov (.t 0)), none⟩, {}⟩, ⟨⟨some 8, (.mov (.t 1)), none⟩, {}⟩, ⟨⟨some 9, (.bin .rem (.t 7) (.t 8)), none⟩, {}⟩, ⟨⟨some 0, (.mov (.t 9)), none⟩, {}⟩] none) made_Mod_C6)
def made_Mod_C2 : TC := (.seq (.seq (.rg [⟨⟨some 5, (.mov (.t 1)), none⟩, {}⟩, ⟨⟨some 6, (.bin .lss (.t 5) (.c (I 1))), none⟩, {}⟩] none) made_Mod_C3) made_Mod_C4)
def made_Mod_C1 : TC := (.seq (.rg [⟨⟨some 4, (.mov (.c (I 0))), none⟩, {}⟩] none) made_Mod_C2)
def made_Mod_E (N : Nat) : List (Nat × Ent) := []
def made_Mod (N : Nat) (a0 : Int) (a1 : Int) : Option Int :=
  bif (decide (a1 < 1)) then
    some 0
  else
    bif a1 == 0 then none else
    bif (decide ((a0.tmod a1) < 0)) then
      some (W ((a0.tmod a1) + a1))
    else
      some (a0.tmod a1)
theorem made_Mod_fn : FnOK Try.prog 12 16 (fun _ : Nat => false) made_Mod_C1.er [(.t 4)] := FnOK.mk' Try.func12 (by kernel_rfl) (by kernel_rfl) (by kernel_rfl) (by kernel_rfl) (by kernel_rfl)
theorem made_Mod_envok (N : Nat) : EnvOK Try.prog (made_Mod_E N) := .nil
theorem made_Mod_pure (N : Nat) : PureOK Try.prog 12 [(.int .i64), (.int .i64)] [(.int .i64)] (fun x => made_Mod N x.1 x.2) := pureOK (N := N) mixed made_Mod_fn (made_Mod_envok N) rfl (fun x => by kernel_rfl)
/-! made_Dice_Next -/
def made_Dice_Next_C7 : TC := .ret
def made_Dice_Next_C5 : TC := (.pre [.frzo 0] made_Dice_Next_C7)
def made_Dice_Next_C3 : TC := (.cond (.t 14) (.seq (.rg [⟨⟨some 4, (.mov (.c (I 0))), none⟩, {}⟩] none) made_Dice_Next_C5) .skip)
def made_Dice_Next_C9 : TC := .ret
def made_Dice_Next_C8 : TC := (.pre [.frzo 0] made_Dice_Next_C9)
def made_Dice_Next_C6 : TC := (.seq (.rg [⟨⟨some 22, (.mov (.t 0)), none⟩, {}⟩, ⟨⟨some 23, (.nilck (.t 22)), none⟩, {}⟩, ⟨⟨some 24, (.fadr 0 (.t 23)), none⟩, {}⟩, ⟨⟨some 25, (.load false 1 (.t 24)), none⟩, {}⟩, ⟨⟨some 26, (.mov (.t 0)), none⟩, {}⟩, ⟨⟨some 27, (.nilck (.t 26)), none⟩, {}⟩, ⟨⟨some 28, (.fadr 1 (.t 27)), none⟩, {}⟩,
  ⟨⟨some 29, (.load false 1 (.t 28)), none⟩, {}⟩, ⟨⟨some 30, (.bin .sub (.t 29) (.c (I 1))), none⟩, {}⟩, ⟨⟨some 31, (.iadrS 1 (.t 25) (.t 30)), none⟩, {}⟩, ⟨⟨some 32, (.load false 1 (.t 31)), none⟩, {}⟩, ⟨⟨some 33, (.mov (.t 1)), none⟩, {}⟩, ⟨⟨some 34, (.call (.c (.fn 12 [])) [(.t 32), (.t 33)]),
  none⟩, {}⟩, ⟨⟨some 4, (.mov (.t 34)), none⟩, {}⟩] (some [])) made_Dice_Next_C8)
def made_Dice_Next_C4 : TC := (.seq (.rg [⟨⟨some 15, (.mov (.t 0)), none⟩, {}⟩, ⟨⟨some 16, (.nilck (.t 15)), none⟩, {}⟩, ⟨⟨some 17, (.fadr 1 (.t 16)), none⟩, {}⟩, ⟨⟨some 18, (.load false 1 (.t 17)), none⟩, {}⟩, ⟨⟨some 19, (.bin .add (.t 18) (.c (I 1))), none⟩, {}⟩, ⟨⟨some 20, (.nilck (.t 15)), none⟩, {}⟩, ⟨⟨some 21, (.fadr 1 (.t
  20)), none⟩, {}⟩, ⟨⟨none, (.store 1 (.t 21) (.t 19)), none⟩, {}⟩] none) made_Dice_Next_C6)
def made_Dice_Next_C2 : TC := (.seq (.seq (.rg [⟨⟨some 5, (.mov (.t 0)), none⟩, {}⟩, ⟨⟨some 6, (.nilck (.t 5)), none⟩, {}⟩, ⟨⟨some 7, (.fadr 1 (.t 6)), none⟩, {}⟩, ⟨⟨some 8, (.load false 1 (.t 7)), none⟩, {}⟩, ⟨⟨some 9, (.mov (.t 0)), none⟩, {}⟩, ⟨⟨some 10, (.nilck (.t 9)), none⟩, {}⟩, ⟨⟨some 11, (.fadr 0 (.t 10)), none⟩, {}⟩,
  ⟨⟨some 12, (.load false 1 (.t 11)), none⟩, {}⟩, ⟨⟨some 13, (.len (.t 12)), none⟩, {}⟩, ⟨⟨some 14, (.bin .geq (.t 8) (.t 13)), none⟩, {}⟩] (some [])) made_Dice_Next_C3) made_Dice_Next_C4)
def made_Dice_Next_C1 : TC := (.seq (.rg [⟨⟨some 4, (.mov (.c (I 0))), none⟩, {}⟩] none) made_Dice_Next_C2)
def made_Dice_Next_E (N : Nat) : List (Nat × Ent) := [(12, pureE [(.int .i64), (.int .i64)] [(.int .i64)] (fun x => made_Mod N x.1 x.2))]
def made_Dice_Next (N : Nat) (a0 : T_Dice) (a1 : Int) : Option (Int × T_Dice) :=
  bif (decide (a0.2 ≥ (a0.1.length : Int))) then
    some (0, a0)
  else
    bif inB (W ((W (a0.2 + 1)) - 1)) a0.1.length then
    Option.bind (made_Mod N (a0.1.getD (W ((W (a0.2 + 1)) - 1)).toNat 0) a1) fun r2 =>
    some (r2, (a0.1, W (a0.2 + 1)))
    else none
theorem made_Dice_Next_fn : FnOK Try.prog 15 35 (fun _ : Nat => false) made_Dice_Next_C1.er [(.t 4)] := FnOK.mk' Try.func15 (by kernel_rfl) (by kernel_rfl) (by kernel_rfl) (by kernel_rfl) (by kernel_rfl)
theorem made_Dice_Next_envok (N : Nat) : EnvOK Try.prog (made_Dice_Next_E N) := .cons (pureE_ok (made_Mod_pure N)) (.nil)
theorem made_Dice_Next_sf (N : Nat) : SFOK Try.prog 15 [(true, G_Dice), (false, (.int .i64))] [.v (.int .i64)] (fun x => made_Dice_Next N x.1 x.2) := sfOK (N := N) (p := 1) mixed made_Dice_Next_fn (made_Dice_Next_envok N) rfl rfl (fun x => by kernel_rfl)
/-! made_Dice_Of -/
def made_Dice_Of_C4 : TC := .ret
def made_Dice_Of_C3 : TC := (.pre [.frzo 0] made_Dice_Of_C4)
def made_Dice_Of_C2 : TC := (.seq (.rg [⟨⟨some 5, (.mov (.t 1)), none⟩, {}⟩, ⟨⟨some 6, (.mov (.t 0)), none⟩, {}⟩, ⟨⟨some 7, (.mov (.t 1)), none⟩, {}⟩, ⟨⟨some 8, (.len (.t 7)), none⟩, {}⟩, ⟨⟨some 9, (.call (.c (.fn 15 [])) [(.t 6), (.t 8)]), none⟩, {}⟩, ⟨⟨some 10, (.iadrS 1 (.t 5) (.t 9)), none⟩, {}⟩, ⟨⟨some 11, (.load false 1
  (.t 10)), none⟩, {}⟩, ⟨⟨some 4, (.mov (.t 11)), none⟩, {}⟩] none) made_Dice_Of_C3)
def made_Dice_Of_C1 : TC := (.seq (.rg [⟨⟨some 4, (.mov (.c (I 0))), none⟩, {}⟩] none) made_Dice_Of_C2)
def made_Dice_Of_E (N : Nat) : List (Nat × Ent) := [(15, sfE [(true, G_Dice), (false, (.int .i64))] [.v (.int .i64)] (fun x => made_Dice_Next N x.1 x.2))]
def made_Dice_Of (N : Nat) (a0 : T_Dice) (a1 : List Int) : Option (Int × T_Dice) :=
  Option.bind (made_Dice_Next N a0 (a1.length : Int)) fun r1 =>
  bif inB r1.1 a1.length then
  some (a1.getD r1.1.toNat 0, r1.2)
  else none
theorem made_Dice_Of_fn : FnOK Try.prog 17 12 (fun _ : Nat => false) made_Dice_Of_C1.er [(.t 4)] := FnOK.mk' Try.func17 (by kernel_rfl) (by kernel_rfl) (by kernel_rfl) (by kernel_rfl) (by kernel_rfl)
theorem made_Dice_Of_envok (N : Nat) : EnvOK Try.prog (made_Dice_Of_E N) := .cons (sfE_ok (made_Dice_Next_sf N)) (.nil)
theorem made_Dice_Of_sf (N : Nat) : SFOK Try.prog 17 [(true, G_Dice), (false, (.list (.int .i64)))] [.v (.int .i64)] (fun x => made_Dice_Of N x.1 x.2) := sfOK (N := N) (p := 1) mixed made_Dice_Of_fn (made_Dice_Of_envok N) rfl rfl (fun x => by kernel_rfl)
/-! law37_made1 -/
def law37_made1_C4 : TC := .ret
def law37_made1_C3 : TC := (.pre [.frzo 0] law37_made1_C4)
def law37_made1_C2 : TC := (.seq (.rg [⟨⟨some 3, (.mov (.t 0)), none⟩, {}⟩, ⟨⟨some 4, (.bslice false 1 [(I 0)] 4 [(0, (.c (I 499999))), (1, (.c (I 0))), (2, (.c (I 999))), (3, (.c (I 3999999)))]), none⟩, ⟨(.int .i64), none⟩⟩, ⟨⟨some 5, (.call (.c (.fn 17 [])) [(.t 3), (.t 4)]), none⟩, {}⟩, ⟨⟨some 6, (.bin .add (.c (I 1)) (.t
  5)), none⟩, {}⟩, ⟨⟨some 7, (.mov (.t 0)), none⟩, {}⟩, ⟨⟨some 8, (.bslice false 1 [(I 0)] 4 [(0, (.c (I 14999))), (1, (.c (I 0))), (2, (.c (I 19999))), (3, (.c (I 999)))]), none⟩, ⟨(.int .i64), none⟩⟩, ⟨⟨some 9, (.call (.c (.fn 17 [])) [(.t 7), (.t 8)]), none⟩, {}⟩, ⟨⟨some 10, (.bin .add (.c (I 1))
  (.t 9)), none⟩, {}⟩, ⟨⟨some 11, (.mov (.t 0)), none⟩, {}⟩, ⟨⟨some 12, (.bslice false 1 [(I 0)] 4 [(0, (.c (I 999))), (1, (.c (I 0))), (2, (.c (I 4999))), (3, (.c (I 99)))]), none⟩, ⟨(.int .i64), none⟩⟩, ⟨⟨some 13, (.call (.c (.fn 17 [])) [(.t 11), (.t 12)]), none⟩, {}⟩, ⟨⟨some 14, (.bin .add (.c (I
  1)) (.t 13)), none⟩, {}⟩, ⟨⟨some 15, (.mov (.t 0)), none⟩, {}⟩, ⟨⟨some 16, (.bslice false 1 [(I 0)] 3 [(0, (.c (I 10))), (1, (.c (I 0))), (2, (.c (I 20)))]), none⟩, ⟨(.int .i64), none⟩⟩, ⟨⟨some 17, (.call (.c (.fn 17 [])) [(.t 15), (.t 16)]), none⟩, {}⟩, ⟨⟨some 18, (.build [(I 0), (I 0), (I 0), (I
  0), (I 0)] [(0, (1, (.t 6))), (1, (1, (.t 10))), (2, (1, (.t 14))), (4, (1, (.t 17)))]), none⟩, {}⟩, ⟨⟨none, (.store 5 (.t 2) (.t 18)), none⟩, {}⟩] none) law37_made1_C3)
def law37_made1_C1 : TC := (.seq (.rg [⟨⟨some 2, (.alloc [(I 0), (I 0), (I 0), (I 0), (I 0)]), none⟩, {}⟩] none) law37_made1_C2)
def law37_made1_E (N : Nat) : List (Nat × Ent) := [(17, sfE [(true, G_Dice), (false, (.list (.int .i64)))] [.v (.int .i64)] (fun x => made_Dice_Of N x.1 x.2))]
def law37_made1 (N : Nat) (a0 : T_Dice) : Option (T_Hoist × T_Dice) :=
  Option.bind (made_Dice_Of N a0 [499999, 0, 999, 3999999]) fun r1 =>
  Option.bind (made_Dice_Of N r1.2 [14999, 0, 19999, 999]) fun r2 =>
  Option.bind (made_Dice_Of N r2.2 [999, 0, 4999, 99]) fun r3 =>
  Option.bind (made_Dice_Of N r3.2 [10, 0, 20]) fun r4 =>
  some ((W (1 + r1.1), (W (1 + r2.1), (W (1 + r3.1), (0, r4.1)))), r4.2)
theorem law37_made1_fn : FnOK Try.prog 11 19 (fun _ : Nat => false) law37_made1_C1.er [(.cell 2 true 5)] := FnOK.mk' Try.func11 (by kernel_rfl) (by kernel_rfl) (by kernel_rfl) (by kernel_rfl) (by kernel_rfl)
theorem law37_made1_envok (N : Nat) : EnvOK Try.prog (law37_made1_E N) := .cons (sfE_ok (made_Dice_Of_sf N)) (.nil)
theorem law37_made1_sf (N : Nat) : SFOK Try.prog 11 [(true, G_Dice)] [.v G_Hoist] (fun x => law37_made1 N x) := sfOK (N := N) (p := 1) mixed law37_made1_fn (law37_made1_envok N) rfl rfl (fun x => by kernel_rfl)
/-! law37_HoistStops -/
def law37_HoistStops_N1 : List NS := [.keep [7, 8, 12, 13], .cmp]
def law37_HoistStops_C5 : TC := (.cond (.t 80) .skip (.exit 0))
def law37_HoistStops_C19 : TC := .ret
def law37_HoistStops_C15 : TC := (.cond (.t 113) (.seq (.rg [⟨⟨some 6, (.mov (.c (B false))), none⟩, {}⟩] none) law37_HoistStops_C19) .skip)
def law37_HoistStops_C16 : TC := (.rg [⟨⟨some 114, (.load true 3 (.t 14)), none⟩, {}⟩, ⟨⟨none, (.store 3 (.t 12) (.t 114)), none⟩, {}⟩] none)
def law37_HoistStops_C10 : TC := (.seq (.seq (.rg [⟨⟨some 92, (.mov (.t 15)), none⟩, {}⟩, ⟨⟨some 93, (.bin .neq (.t 92) (.c (I 0))), none⟩, {}⟩, ⟨⟨some 94, (.mov (.t 93)), none⟩, {}⟩, ⟨⟨some 95, (.fadr 2 (.t 14)), some (94, false)⟩, {}⟩, ⟨⟨some 96, (.load false 1 (.t 95)), some (94, false)⟩, {}⟩, ⟨⟨some 97, (.un .not (.t 96)), some
  (94, false)⟩, {}⟩, ⟨⟨some 98, (.pick (.t 94) (.c (B true)) (.t 97)), none⟩, {}⟩, ⟨⟨some 99, (.mov (.t 98)), none⟩, {}⟩, ⟨⟨some 100, (.fadr 1 (.t 14)), some (99, false)⟩, {}⟩, ⟨⟨some 101, (.load false 1 (.t 100)), some (99, false)⟩, {}⟩, ⟨⟨some 102, (.fadr 1 (.t 14)), some (99, false)⟩, {}⟩, ⟨⟨some
  103, (.load false 1 (.t 102)), some (99, false)⟩, {}⟩, ⟨⟨some 104, (.un .neg (.t 103)), some (99, false)⟩, {}⟩, ⟨⟨some 105, (.mm true [(.t 101), (.t 104)]), some (99, false)⟩, {}⟩, ⟨⟨some 106, (.fadr 1 (.t 12)), some (99, false)⟩, {}⟩, ⟨⟨some 107, (.load false 1 (.t 106)), some (99, false)⟩, {}⟩,
  ⟨⟨some 108, (.fadr 1 (.t 12)), some (99, false)⟩, {}⟩, ⟨⟨some 109, (.load false 1 (.t 108)), some (99, false)⟩, {}⟩, ⟨⟨some 110, (.un .neg (.t 109)), some (99, false)⟩, {}⟩, ⟨⟨some 111, (.mm true [(.t 107), (.t 110)]), some (99, false)⟩, {}⟩, ⟨⟨some 112, (.bin .gtr (.t 105) (.t 111)), some (99,
  false)⟩, {}⟩, ⟨⟨some 113, (.pick (.t 99) (.c (B true)) (.t 112)), none⟩, {}⟩] none) law37_HoistStops_C15) law37_HoistStops_C16)
def law37_HoistStops_C11 : TC := (.rg [⟨⟨some 81, (.mov (.t 13)), none⟩, {}⟩, ⟨⟨some 82, (.bin .add (.t 81) (.c (I 1))), none⟩, {}⟩, ⟨⟨some 13, (.mov (.t 82)), none⟩, {}⟩] none)
def law37_HoistStops_C6 : TC := (.seq (.block 1 (.seq (.pre [.wait] (.rg [⟨⟨some 84, (.load true 5 (.t 8)), none⟩, {}⟩, ⟨⟨some 85, (.load true 3 (.t 12)), none⟩, {}⟩, ⟨⟨some 86, (.mov (.t 7)), none⟩, {}⟩, ⟨⟨some 87, (.bslice false 1 [(I 0)] 3 [(0, (.c (I 0))), (1, (.c (I 5000))), (2, (.c (I (-5000))))]), none⟩, ⟨(.int .i64),
  none⟩⟩, ⟨⟨some 88, (.call (.c (.fn 17 [])) [(.t 86), (.t 87)]), none⟩, {}⟩, ⟨⟨some 89, (.call (.c (.fn 16 [])) [(.t 84), (.t 85), (.t 88)]), none⟩, {}⟩, ⟨⟨some 83, (.mov (.t 89)), none⟩, {}⟩, ⟨⟨some 90, (.extr 0 (.t 83)), none⟩, {}⟩, ⟨⟨some 91, (.extr 1 (.t 83)), none⟩, {}⟩, ⟨⟨some 14, (.alloc [(I
  0), (I 0), (B false)]), none⟩, ⟨.unit, some 3⟩⟩, ⟨⟨none, (.store 3 (.t 14) (.t 90)), none⟩, {}⟩, ⟨⟨some 15, (.mov (.t 91)), none⟩, {}⟩] (some [(0, 4), (1, 4), (0, 9), (1, 9), (4, 9), (5, 9)]))) law37_HoistStops_C10)) law37_HoistStops_C11)
def law37_HoistStops_C1 : TC := (.seq (.seq (.rg [⟨⟨some 71, (.mov (.t 13)), none⟩, {}⟩, ⟨⟨some 72, (.fadr 2 (.t 8)), none⟩, {}⟩, ⟨⟨some 73, (.load false 1 (.t 72)), none⟩, {}⟩, ⟨⟨some 74, (.bin .quo (.c (I 20000)) (.t 73)), none⟩, {}⟩, ⟨⟨some 75, (.bin .add (.t 74) (.c (I 1))), none⟩, {}⟩, ⟨⟨some 76, (.bin .leq (.t 71) (.t 75)),
  none⟩, {}⟩, ⟨⟨some 77, (.mov (.t 76)), none⟩, {}⟩, ⟨⟨some 78, (.mov (.t 13)), some (77, true)⟩, {}⟩, ⟨⟨some 79, (.bin .lss (.t 78) (.c (I 300))), some (77, true)⟩, {}⟩, ⟨⟨some 80, (.pick (.t 77) (.t 79) (.c (B false))), none⟩, {}⟩] none) law37_HoistStops_C5) law37_HoistStops_C6)
def law37_HoistStops_C7 : TC := .ret
def law37_HoistStops_C2 : TC := (.seq (.rg [⟨⟨some 115, (.call (.c (.fn 9 [])) []), none⟩, {}⟩, ⟨⟨some 116, (.mov (.t 115)), none⟩, {}⟩, ⟨⟨some 117, (.fadr 1 (.t 12)), some (116, true)⟩, {}⟩, ⟨⟨some 118, (.load false 1 (.t 117)), some (116, true)⟩, {}⟩, ⟨⟨some 119, (.bin .eql (.t 118) (.c (I 0))), some (116, true)⟩, {}⟩, ⟨⟨some
  120, (.mov (.t 119)), some (116, true)⟩, {}⟩, ⟨⟨some 121, (.fadr 2 (.t 8)), some (120, false)⟩, {}⟩, ⟨⟨some 122, (.load false 1 (.t 121)), some (120, false)⟩, {}⟩, ⟨⟨some 123, (.bin .quo (.c (I 20000)) (.t 122)), some (120, false)⟩, {}⟩, ⟨⟨some 124, (.bin .add (.t 123) (.c (I 1))), some (120,
  false)⟩, {}⟩, ⟨⟨some 125, (.bin .geq (.t 124) (.c (I 300))), some (120, false)⟩, {}⟩, ⟨⟨some 126, (.pick (.t 120) (.c (B true)) (.t 125)), some (116, true)⟩, {}⟩, ⟨⟨some 127, (.pick (.t 116) (.t 126) (.c (B false))), none⟩, {}⟩, ⟨⟨some 6, (.mov (.t 127)), none⟩, {}⟩] none) law37_HoistStops_C7)
def law37_HoistStops_C12 : TC := (.block 0 (.loop law37_HoistStops_N1 law37_HoistStops_C1))
def law37_HoistStops_C8 : TC := (.seq (.seq (.rg [⟨⟨some 13, (.mov (.c (I 0))), none⟩, {}⟩] none) law37_HoistStops_C12) law37_HoistStops_C2)
def law37_HoistStops_C3 : TC := (.seq (.rg [⟨⟨some 62, (.mov (.t 1)), none⟩, {}⟩, ⟨⟨some 63, (.fadr 0 (.t 8)), none⟩, {}⟩, ⟨⟨some 64, (.load false 1 (.t 63)), none⟩, {}⟩, ⟨⟨some 65, (.bin .add (.t 64) (.c (I 1))), none⟩, {}⟩, ⟨⟨some 66, (.call (.c (.fn 12 [])) [(.t 62), (.t 65)]), none⟩, {}⟩, ⟨⟨some 67, (.mov (.t 2)), none⟩, {}⟩,
  ⟨⟨some 68, (.call (.c (.fn 12 [])) [(.t 67), (.c (I 40000))]), none⟩, {}⟩, ⟨⟨some 69, (.bin .sub (.t 68) (.c (I 20000))), none⟩, {}⟩, ⟨⟨some 70, (.build [(I 0), (I 0), (B false)] [(0, (1, (.t 66))), (1, (1, (.t 69))), (2, (1, (.c (B true))))]), none⟩, {}⟩, ⟨⟨some 12, (.alloc [(I 0), (I 0), (B
  false)]), none⟩, {}⟩, ⟨⟨none, (.store 3 (.t 12) (.t 70)), none⟩, {}⟩] none) law37_HoistStops_C8)
def law37_HoistStops_C17 : TC := .ret
def law37_HoistStops_C13 : TC := (.cond (.t 18) (.seq (.rg [⟨⟨some 19, (.call (.c (.fn 9 [])) []), none⟩, {}⟩, ⟨⟨some 6, (.mov (.t 19)), none⟩, {}⟩] none) law37_HoistStops_C17) .skip)
def law37_HoistStops_C26 : TC := .ret
def law37_HoistStops_C24 : TC := (.cond (.t 61) (.seq (.rg [⟨⟨some 6, (.mov (.c (B false))), none⟩, {}⟩] none) law37_HoistStops_C26) .skip)
def law37_HoistStops_C25 : TC := (.join [.keep [1, 2, 7, 8], .cmp] law37_HoistStops_C3)
def law37_HoistStops_C23 : TC := (.seq (.seq (.rg [⟨⟨some 37, (.mov (.t 10)), none⟩, {}⟩, ⟨⟨some 38, (.bin .lss (.t 37) (.c (I 0))), none⟩, {}⟩, ⟨⟨some 39, (.mov (.t 38)), none⟩, {}⟩, ⟨⟨some 40, (.load true 5 (.t 8)), some (39, false)⟩, {}⟩, ⟨⟨some 41, (.mov (.t 11)), some (39, false)⟩, {}⟩, ⟨⟨some 42, (.call (.c (.fn 14 [])) [(.t
  40), (.t 41)]), some (39, false)⟩, {}⟩, ⟨⟨some 43, (.mov (.t 9)), some (39, false)⟩, {}⟩, ⟨⟨some 44, (.bin .gtr (.t 42) (.t 43)), some (39, false)⟩, {}⟩, ⟨⟨some 45, (.pick (.t 39) (.c (B true)) (.t 44)), none⟩, {}⟩, ⟨⟨some 46, (.mov (.t 45)), none⟩, {}⟩, ⟨⟨some 47, (.load true 5 (.t 8)), some (46,
  false)⟩, {}⟩, ⟨⟨some 48, (.mov (.t 9)), some (46, false)⟩, {}⟩, ⟨⟨some 49, (.mov (.t 7)), some (46, false)⟩, {}⟩, ⟨⟨some 50, (.call (.c (.fn 15 [])) [(.t 49), (.c (I 1000))]), some (46, false)⟩, {}⟩, ⟨⟨some 51, (.bin .add (.t 48) (.t 50)), some (46, false)⟩, {}⟩, ⟨⟨some 52, (.call (.c (.fn 13 []))
  [(.t 47), (.t 51)]), some (46, false)⟩, {}⟩, ⟨⟨some 53, (.mov (.t 10)), some (46, false)⟩, {}⟩, ⟨⟨some 54, (.bin .lss (.t 52) (.t 53)), some (46, false)⟩, {}⟩, ⟨⟨some 55, (.pick (.t 46) (.c (B true)) (.t 54)), none⟩, {}⟩, ⟨⟨some 56, (.mov (.t 55)), none⟩, {}⟩, ⟨⟨some 57, (.mov (.t 10)), some (56,
  false)⟩, {}⟩, ⟨⟨some 58, (.fadr 1 (.t 8)), some (56, false)⟩, {}⟩, ⟨⟨some 59, (.load false 1 (.t 58)), some (56, false)⟩, {}⟩, ⟨⟨some 60, (.bin .gtr (.t 57) (.t 59)), some (56, false)⟩, {}⟩, ⟨⟨some 61, (.pick (.t 56) (.c (B true)) (.t 60)), none⟩, {}⟩] (some [(10, 13)])) law37_HoistStops_C24)
  law37_HoistStops_C25)
def law37_HoistStops_C22 : TC := (.seq (.rg [⟨⟨some 32, (.mov (.t 2)), none⟩, {}⟩, ⟨⟨some 33, (.mov (.t 10)), none⟩, {}⟩, ⟨⟨some 34, (.bin .add (.t 33) (.c (I 1))), none⟩, {}⟩, ⟨⟨some 35, (.mm true [(.c (I 1)), (.t 34)]), none⟩, {}⟩, ⟨⟨some 36, (.call (.c (.fn 12 [])) [(.t 32), (.t 35)]), none⟩, {}⟩, ⟨⟨some 11, (.mov (.t 36)),
  none⟩, {}⟩] none) law37_HoistStops_C23)
def law37_HoistStops_C21 : TC := (.seq (.rg [⟨⟨some 29, (.load true 5 (.t 8)), none⟩, {}⟩, ⟨⟨some 30, (.mov (.t 9)), none⟩, {}⟩, ⟨⟨some 31, (.call (.c (.fn 13 [])) [(.t 29), (.t 30)]), none⟩, {}⟩, ⟨⟨some 10, (.mov (.t 31)), none⟩, {}⟩] none) law37_HoistStops_C22)
def law37_HoistStops_C20 : TC := (.seq (.rg [⟨⟨some 24, (.mov (.t 1)), none⟩, {}⟩, ⟨⟨some 25, (.fadr 0 (.t 8)), none⟩, {}⟩, ⟨⟨some 26, (.load false 1 (.t 25)), none⟩, {}⟩, ⟨⟨some 27, (.bin .add (.t 26) (.c (I 1))), none⟩, {}⟩, ⟨⟨some 28, (.call (.c (.fn 12 [])) [(.t 24), (.t 27)]), none⟩, {}⟩, ⟨⟨some 9, (.mov (.t 28)), none⟩, {}⟩]
  none) law37_HoistStops_C21)
def law37_HoistStops_C18 : TC := (.seq (.rg [⟨⟨some 22, (.mov (.t 7)), none⟩, {}⟩, ⟨⟨some 23, (.call (.c (.fn 11 [])) [(.t 22)]), none⟩, {}⟩, ⟨⟨some 8, (.alloc [(I 0), (I 0), (I 0), (I 0), (I 0)]), none⟩, {}⟩, ⟨⟨none, (.store 5 (.t 8) (.t 23)), none⟩, {}⟩] none) law37_HoistStops_C20)
def law37_HoistStops_C14 : TC := (.seq (.rg [⟨⟨some 20, (.mov (.t 0)), none⟩, {}⟩, ⟨⟨some 21, (.call (.c (.fn 10 [])) [(.t 20)]), none⟩, {}⟩, ⟨⟨some 7, (.mov (.t 21)), none⟩, {}⟩] none) law37_HoistStops_C18)
def law37_HoistStops_C9 : TC := (.seq (.seq (.rg [⟨⟨some 16, (.mov (.t 0)), none⟩, {}⟩, ⟨⟨some 17, (.call (.c (.fn 8 [])) [(.t 16)]), none⟩, {}⟩, ⟨⟨some 18, (.un .not (.t 17)), none⟩, {}⟩] none) law37_HoistStops_C13) law37_HoistStops_C14)
def law37_HoistStops_C4 : TC := (.seq (.rg [⟨⟨some 6, (.mov (.c (B false))), none⟩, {}⟩] none) law37_HoistStops_C9)
def law37_HoistStops_E (N : Nat) : List (Nat × Ent) := [(8, pureE [(.list (.int .i64))] [.bool] (fun x => made_Light N x)), (9, pureE [] [.bool] (fun x => law37_awake N)), (10, sfE [(false, (.list (.int .i64)))] [.n G_Dice] (fun x => made_Roll N x)), (11, sfE [(true, G_Dice)] [.v G_Hoist] (fun x => law37_made1 N x)), (12, pureE [(.int .i64), (.int .i64)] [(.int .i64)] (fun x => made_Mod N x.1 x.2)), (13, pureE [G_Hoist, (.int .i64)] [(.int .i64)] (fun x => hoist_Limit N x.1 x.2)), (14, pureE [G_Hoist, (.int .i64)] [(.int .i64)] (fun x => hoist_Stop N x.1 x.2)), (15, sfE [(true, G_Dice), (false, (.int .i64))] [.v (.int .i64)] (fun x => made_Dice_Next N x.1 x.2)), (17, sfE [(true, G_Dice), (false, (.list (.int .i64)))] [.v (.int .i64)] (fun x => made_Dice_Of N x.1 x.2)), (16, pureE [G_Hoist, G_Ride, (.int .i64)] [G_Ride, (.int .i64)] (fun x => hoist_Tick N x.1 x.2.1 x.2.2))]
def law37_HoistStops_L1 (N : Nat) (n : Nat) (x22 : Int) (x23 : List Int) (x24 : Int) (x25 : Int) (x26 : Int) (x27 : Int) (x28 : Int) (x29 : Int) (x30 : Int) (x31 : Int) (x32 : Bool) : Option Bool := loopN (normI 0 law37_HoistStops_N1) (run (law37_HoistStops_E N) N 0 law37_HoistStops_C1) n ⟨[(7, .ptr 0 0 0), (8, .ptr 1 0 0), (12, .ptr 2 0 0), (13, .int .i64 x22)], [some (.box 0 [.lst false (.int .i64) x23, .int .i64 x24]), some (.box 0 [.int .i64 x25, .int .i64 x26, .int .i64 x27, .int .i64 x28, .int .i64 x29]), some (.box 0 [.int .i64 x30, .int .i64 x31, .bool x32])]⟩ (blkK 0 (seqK (run (law37_HoistStops_E N) N 0 law37_HoistStops_C2) (fin [(.t 6)] [.bool])))
def law37_HoistStops_J1 (N : Nat) (x11 : Int) (x12 : Int) (x13 : List Int) (x14 : Int) (x15 : Int) (x16 : Int) (x17 : Int) (x18 : Int) (x19 : Int) : Option Bool := joinN (run (law37_HoistStops_E N) N 0 law37_HoistStops_C3) N ⟨[(1, .int .i64 x11), (2, .int .i64 x12), (7, .ptr 0 0 0), (8, .ptr 1 0 0)], [some (.box 0 [.lst false (.int .i64) x13, .int .i64 x14]), some (.box 0 [.int .i64 x15, .int .i64 x16, .int .i64 x17, .int .i64 x18, .int .i64 x19])]⟩ (fin [(.t 6)] [.bool])
theorem law37_HoistStops_L1_zero (N : Nat) (x22 : Int) (x23 : List Int) (x24 : Int) (x25 : Int) (x26 : Int) (x27 : Int) (x28 : Int) (x29 : Int) (x30 : Int) (x31 : Int) (x32 : Bool) : law37_HoistStops_L1 N 0 x22 x23 x24 x25 x26 x27 x28 x29 x30 x31 x32 = none := rfl
theorem law37_HoistStops_L1_succ (N : Nat) (n1 : Nat) (x22 : Int) (x23 : List Int) (x24 : Int) (x25 : Int) (x26 : Int) (x27 : Int) (x28 : Int) (x29 : Int) (x30 : Int) (x31 : Int) (x32 : Bool) : law37_HoistStops_L1 N (n1 + 1) x22 x23 x24 x25 x26 x27 x28 x29 x30 x31 x32 =
  bif x27 == 0 then none else
  bif (decide (x22 ≤ (W ((W ((20000 : Int).tdiv x27)) + 1)))) then
    bif (decide (x22 < 300)) then
      Option.bind (made_Dice_Of N (x23, x24) [0, 5000, (-5000)]) fun r34 =>
      Option.bind (hoist_Tick N (x25, (x26, (x27, (x28, x29)))) (x30, (x31, x32)) r34.1) fun r35 =>
      bif (r35.2 != 0) then
        some false
      else
        bif (!r35.1.2.2) then
          some false
        else
          bif (decide ((max r35.1.2.1 (W (0 - r35.1.2.1))) > (max x31 (W (0 - x31))))) then
            some false
          else
            law37_HoistStops_L1 N n1 (W (x22 + 1)) r34.2.1 r34.2.2 x25 x26 x27 x28 x29 r35.1.1 r35.1.2.1 r35.1.2.2
    else
      Option.bind (law37_awake N) fun r48 =>
      bif r48 then
        bif (x31 == 0) then
          some true
        else
          bif x27 == 0 then none else
          some (decide ((W ((W ((20000 : Int).tdiv x27)) + 1)) ≥ 300))
      else
        some false
  else
    Option.bind (law37_awake N) fun r50 =>
    bif r50 then
      bif (x31 == 0) then
        some true
      else
        bif x27 == 0 then none else
        some (decide ((W ((W ((20000 : Int).tdiv x27)) + 1)) ≥ 300))
    else
      some false := by kernel_rfl
theorem law37_HoistStops_J1_eq (N : Nat) (x11 : Int) (x12 : Int) (x13 : List Int) (x14 : Int) (x15 : Int) (x16 : Int) (x17 : Int) (x18 : Int) (x19 : Int) : law37_HoistStops_J1 (N + 1) x11 x12 x13 x14 x15 x16 x17 x18 x19 =
  Option.bind (made_Mod (N + 1) x11 (W (x15 + 1))) fun r20 =>
  Option.bind (made_Mod (N + 1) x12 40000) fun r21 =>
  law37_HoistStops_L1 (N + 1) (N + 1) 0 x13 x14 x15 x16 x17 x18 x19 r20 (W (r21 - 20000)) true := by kernel_rfl
def law37_HoistStops (N : Nat) (a0 : List Int) (a1 : Int) (a2 : Int) : Option Bool :=
  Option.bind (made_Light N a0) fun r1 =>
  bif (!r1) then
    Option.bind (law37_awake N) fun r2 =>
    some r2
  else
    Option.bind (made_Roll N a0) fun r3 =>
    Option.bind (law37_made1 N r3.1) fun r4 =>
    Option.bind (made_Mod N a1 (W (r4.1.1 + 1))) fun r5 =>
    Option.bind (hoist_Limit N r4.1 r5) fun r6 =>
    Option.bind (made_Mod N a2 (max 1 (W (r6 + 1)))) fun r7 =>
    bif (decide (r6 < 0)) then
      some false
    else
      Option.bind (hoist_Stop N r4.1 r7) fun r8 =>
      bif (decide (r8 > r5)) then
        some false
      else
        Option.bind (made_Dice_Next N r4.2 1000) fun r9 =>
        Option.bind (hoist_Limit N r4.1 (W (r5 + r9.1))) fun r10 =>
        bif (decide (r10 < r6)) then
          some false
        else
          bif (decide (r6 > r4.1.2.1)) then
            some false
          else
            law37_HoistStops_J1 N a1 a2 r9.2.1 r9.2.2 r4.1.1 r4.1.2.1 r4.1.2.2.1 r4.1.2.2.2.1 r4.1.2.2.2.2
theorem law37_HoistStops_fn : FnOK Try.prog 3 128 (fun _ : Nat => false) law37_HoistStops_C4.er [(.t 6)] := FnOK.mk' Try.func3 (by kernel_rfl) (by kernel_rfl) (by kernel_rfl) (by kernel_rfl) (by kernel_rfl)
theorem law37_HoistStops_envok (N : Nat) : EnvOK Try.prog (law37_HoistStops_E N) := .cons (pureE_ok (made_Light_pure N)) (.cons (pureE_ok (law37_awake_pure N)) (.cons (sfE_ok (made_Roll_sf N)) (.cons (sfE_ok (law37_made1_sf N)) (.cons (pureE_ok (made_Mod_pure N)) (.cons (pureE_ok (hoist_Limit_pure N)) (.cons (pureE_ok (hoist_Stop_pure N)) (.cons (sfE_ok (made_Dice_Next_sf N)) (.cons (sfE_ok (made_Dice_Of_sf N)) (.cons (pureE_ok (hoist_Tick_pure N)) (.nil))))))))))
theorem law37_HoistStops_pure (N : Nat) : PureOK Try.prog 3 [(.list (.int .i64)), (.int .i64), (.int .i64)] [.bool] (fun x => law37_HoistStops N x.1 x.2.1 x.2.2) := pureOK (N := N) mixed law37_HoistStops_fn (law37_HoistStops_envok N) rfl (fun x => by kernel_rfl)
/-! law37_HoistKeeps -/
def law37_HoistKeeps_N1 : List NS := [.keep [4, 5, 6], .cmp]
def law37_HoistKeeps_C4 : TC := (.cond (.t 25) .skip (.exit 0))
def law37_HoistKeeps_C16 : TC := (.cond (.t 34) (.rg [⟨⟨some 35, (.fadr 1 (.t 4)), none⟩, {}⟩, ⟨⟨some 36, (.load false 1 (.t 35)), none⟩, {}⟩, ⟨⟨some 37, (.bin .quo (.t 36) (.c (I 2))), none⟩, {}⟩, ⟨⟨some 38, (.mov (.t 8)), none⟩, {}⟩, ⟨⟨some 39, (.bin .quo (.t 38) (.c (I 20))), none⟩, {}⟩, ⟨⟨some 40, (.mm false [(.t 37), (.t 39)]),
  none⟩, {}⟩, ⟨⟨some 7, (.mov (.t 40)), none⟩, {}⟩] none) .skip)
def law37_HoistKeeps_C12 : TC := (.seq (.rg [⟨⟨some 33, (.mov (.t 8)), none⟩, {}⟩, ⟨⟨some 34, (.bin .gtr (.t 33) (.c (I 60000))), none⟩, {}⟩] none) law37_HoistKeeps_C16)
def law37_HoistKeeps_C22 : TC := .ret
def law37_HoistKeeps_C19 : TC := (.cond (.t 75) (.seq (.rg [⟨⟨some 2, (.mov (.c (B false))), none⟩, {}⟩] none) law37_HoistKeeps_C22) .skip)
def law37_HoistKeeps_C20 : TC := (.rg [⟨⟨some 76, (.load true 3 (.t 9)), none⟩, {}⟩, ⟨⟨none, (.store 3 (.t 5) (.t 76)), none⟩, {}⟩] none)
def law37_HoistKeeps_C17 : TC := (.seq (.seq (.rg [⟨⟨some 51, (.mov (.t 10)), none⟩, {}⟩, ⟨⟨some 52, (.bin .neq (.t 51) (.c (I 0))), none⟩, {}⟩, ⟨⟨some 53, (.mov (.t 52)), none⟩, {}⟩, ⟨⟨some 54, (.fadr 2 (.t 9)), some (53, false)⟩, {}⟩, ⟨⟨some 55, (.load false 1 (.t 54)), some (53, false)⟩, {}⟩, ⟨⟨some 56, (.pick (.t 53) (.c (B
  true)) (.t 55)), none⟩, {}⟩, ⟨⟨some 57, (.mov (.t 56)), none⟩, {}⟩, ⟨⟨some 58, (.fadr 0 (.t 9)), some (57, false)⟩, {}⟩, ⟨⟨some 59, (.load false 1 (.t 58)), some (57, false)⟩, {}⟩, ⟨⟨some 60, (.bin .lss (.t 59) (.c (I 0))), some (57, false)⟩, {}⟩, ⟨⟨some 61, (.pick (.t 57) (.c (B true)) (.t 60)),
  none⟩, {}⟩, ⟨⟨some 62, (.mov (.t 61)), none⟩, {}⟩, ⟨⟨some 63, (.fadr 0 (.t 9)), some (62, false)⟩, {}⟩, ⟨⟨some 64, (.load false 1 (.t 63)), some (62, false)⟩, {}⟩, ⟨⟨some 65, (.fadr 0 (.t 4)), some (62, false)⟩, {}⟩, ⟨⟨some 66, (.load false 1 (.t 65)), some (62, false)⟩, {}⟩, ⟨⟨some 67, (.bin .gtr
  (.t 64) (.t 66)), some (62, false)⟩, {}⟩, ⟨⟨some 68, (.pick (.t 62) (.c (B true)) (.t 67)), none⟩, {}⟩, ⟨⟨some 69, (.mov (.t 68)), none⟩, {}⟩, ⟨⟨some 70, (.fadr 1 (.t 9)), some (69, false)⟩, {}⟩, ⟨⟨some 71, (.load false 1 (.t 70)), some (69, false)⟩, {}⟩, ⟨⟨some 72, (.fadr 1 (.t 4)), some (69,
  false)⟩, {}⟩, ⟨⟨some 73, (.load false 1 (.t 72)), some (69, false)⟩, {}⟩, ⟨⟨some 74, (.bin .gtr (.t 71) (.t 73)), some (69, false)⟩, {}⟩, ⟨⟨some 75, (.pick (.t 69) (.c (B true)) (.t 74)), none⟩, {}⟩] none) law37_HoistKeeps_C19) law37_HoistKeeps_C20)
def law37_HoistKeeps_C13 : TC := (.seq (.rg [⟨⟨some 42, (.load true 5 (.t 4)), none⟩, {}⟩, ⟨⟨some 43, (.load true 3 (.t 5)), none⟩, {}⟩, ⟨⟨some 44, (.mov (.t 7)), none⟩, {}⟩, ⟨⟨some 45, (.fadr 1 (.t 5)), none⟩, {}⟩, ⟨⟨some 46, (.load false 1 (.t 45)), none⟩, {}⟩, ⟨⟨some 47, (.bin .sub (.t 44) (.t 46)), none⟩, {}⟩, ⟨⟨some 48, (.call
  (.c (.fn 16 [])) [(.t 42), (.t 43), (.t 47)]), none⟩, {}⟩, ⟨⟨some 41, (.mov (.t 48)), none⟩, {}⟩, ⟨⟨some 49, (.extr 0 (.t 41)), none⟩, {}⟩, ⟨⟨some 50, (.extr 1 (.t 41)), none⟩, {}⟩, ⟨⟨some 9, (.alloc [(I 0), (I 0), (B false)]), none⟩, {}⟩, ⟨⟨none, (.store 3 (.t 9) (.t 49)), none⟩, {}⟩, ⟨⟨some 10,
  (.mov (.t 50)), none⟩, {}⟩] none) law37_HoistKeeps_C17)
def law37_HoistKeeps_C8 : TC := (.seq (.seq (.rg [⟨⟨some 28, (.fadr 0 (.t 4)), none⟩, {}⟩, ⟨⟨some 29, (.load false 1 (.t 28)), none⟩, {}⟩, ⟨⟨some 30, (.fadr 0 (.t 5)), none⟩, {}⟩, ⟨⟨some 31, (.load false 1 (.t 30)), none⟩, {}⟩, ⟨⟨some 32, (.bin .sub (.t 29) (.t 31)), none⟩, {}⟩, ⟨⟨some 8, (.mov (.t 32)), none⟩, {}⟩] none)
  law37_HoistKeeps_C12) law37_HoistKeeps_C13)
def law37_HoistKeeps_C9 : TC := (.rg [⟨⟨some 26, (.mov (.t 6)), none⟩, {}⟩, ⟨⟨some 27, (.bin .add (.t 26) (.c (I 1))), none⟩, {}⟩, ⟨⟨some 6, (.mov (.t 27)), none⟩, {}⟩] none)
def law37_HoistKeeps_C5 : TC := (.seq (.block 1 (.seq (.rg [⟨⟨some 7, (.mov (.c (I 0))), none⟩, {}⟩] none) law37_HoistKeeps_C8)) law37_HoistKeeps_C9)
def law37_HoistKeeps_C1 : TC := (.seq (.seq (.rg [⟨⟨some 24, (.mov (.t 6)), none⟩, {}⟩, ⟨⟨some 25, (.bin .lss (.t 24) (.c (I 120))), none⟩, {}⟩] none) law37_HoistKeeps_C4) law37_HoistKeeps_C5)
def law37_HoistKeeps_C6 : TC := .ret
def law37_HoistKeeps_C2 : TC := (.seq (.rg [⟨⟨some 77, (.call (.c (.fn 9 [])) []), none⟩, {}⟩, ⟨⟨some 2, (.mov (.t 77)), none⟩, {}⟩] none) law37_HoistKeeps_C6)
def law37_HoistKeeps_C14 : TC := .ret
def law37_HoistKeeps_C10 : TC := (.cond (.t 13) (.seq (.rg [⟨⟨some 14, (.call (.c (.fn 9 [])) []), none⟩, {}⟩, ⟨⟨some 2, (.mov (.t 14)), none⟩, {}⟩] none) law37_HoistKeeps_C14) .skip)
def law37_HoistKeeps_C23 : TC := (.block 0 (.loop law37_HoistKeeps_N1 law37_HoistKeeps_C1))
def law37_HoistKeeps_C21 : TC := (.seq (.seq (.rg [⟨⟨some 6, (.mov (.c (I 0))), none⟩, {}⟩] none) law37_HoistKeeps_C23) law37_HoistKeeps_C2)
def law37_HoistKeeps_C18 : TC := (.seq (.rg [⟨⟨some 18, (.mov (.t 3)), none⟩, {}⟩, ⟨⟨some 19, (.fadr 0 (.t 4)), none⟩, {}⟩, ⟨⟨some 20, (.load false 1 (.t 19)), none⟩, {}⟩, ⟨⟨some 21, (.bin .add (.t 20) (.c (I 1))), none⟩, {}⟩, ⟨⟨some 22, (.call (.c (.fn 15 [])) [(.t 18), (.t 21)]), none⟩, {}⟩, ⟨⟨some 23, (.build [(I 0), (I 0), (B
  false)] [(0, (1, (.t 22)))]), none⟩, {}⟩, ⟨⟨some 5, (.alloc [(I 0), (I 0), (B false)]), none⟩, {}⟩, ⟨⟨none, (.store 3 (.t 5) (.t 23)), none⟩, {}⟩] none) law37_HoistKeeps_C21)
def law37_HoistKeeps_C15 : TC := (.seq (.rg [⟨⟨some 17, (.call (.c (.fn 18 [])) []), none⟩, {}⟩, ⟨⟨some 4, (.alloc [(I 0), (I 0), (I 0), (I 0), (I 0)]), none⟩, {}⟩, ⟨⟨none, (.store 5 (.t 4) (.t 17)), none⟩, {}⟩] none) law37_HoistKeeps_C18)
def law37_HoistKeeps_C11 : TC := (.seq (.rg [⟨⟨some 15, (.mov (.t 0)), none⟩, {}⟩, ⟨⟨some 16, (.call (.c (.fn 10 [])) [(.t 15)]), none⟩, {}⟩, ⟨⟨some 3, (.mov (.t 16)), none⟩, {}⟩] none) law37_HoistKeeps_C15)
def law37_HoistKeeps_C7 : TC := (.seq (.seq (.rg [⟨⟨some 11, (.mov (.t 0)), none⟩, {}⟩, ⟨⟨some 12, (.call (.c (.fn 8 [])) [(.t 11)]), none⟩, {}⟩, ⟨⟨some 13, (.un .not (.t 12)), none⟩, {}⟩] none) law37_HoistKeeps_C10) law37_HoistKeeps_C11)
def law37_HoistKeeps_C3 : TC := (.seq (.rg [⟨⟨some 2, (.mov (.c (B false))), none⟩, {}⟩] none) law37_HoistKeeps_C7)
def law37_HoistKeeps_E (N : Nat) : List (Nat × Ent) := [(8, pureE [(.list (.int .i64))] [.bool] (fun x => made_Light N x)), (9, pureE [] [.bool] (fun x => law37_awake N)), (10, sfE [(false, (.list (.int .i64)))] [.n G_Dice] (fun x => made_Roll N x)), (18, pureE [] [G_Hoist] (fun x => law37_shaft N)), (15, sfE [(true, G_Dice), (false, (.int .i64))] [.v (.int .i64)] (fun x => made_Dice_Next N x.1 x.2)), (16, pureE [G_Hoist, G_Ride, (.int .i64)] [G_Ride, (.int .i64)] (fun x => hoist_Tick N x.1 x.2.1 x.2.2))]
def law37_HoistKeeps_L1 (N : Nat) (n : Nat) (x6 : Int) (x7 : Int) (x8 : Int) (x9 : Int) (x10 : Int) (x11 : Int) (x12 : Int) (x13 : Int) (x14 : Bool) : Option Bool := loopN (normI 0 law37_HoistKeeps_N1) (run (law37_HoistKeeps_E N) N 0 law37_HoistKeeps_C1) n ⟨[(4, .ptr 0 0 0), (5, .ptr 1 0 0), (6, .int .i64 x6)], [some (.box 0 [.int .i64 x7, .int .i64 x8, .int .i64 x9, .int .i64 x10, .int .i64 x11]), some (.box 0 [.int .i64 x12, .int .i64 x13, .bool x14])]⟩ (blkK 0 (seqK (run (law37_HoistKeeps_E N) N 0 law37_HoistKeeps_C2) (fin [(.t 2)] [.bool])))
theorem law37_HoistKeeps_L1_zero (N : Nat) (x6 : Int) (x7 : Int) (x8 : Int) (x9 : Int) (x10 : Int) (x11 : Int) (x12 : Int) (x13 : Int) (x14 : Bool) : law37_HoistKeeps_L1 N 0 x6 x7 x8 x9 x10 x11 x12 x13 x14 = none := rfl
theorem law37_HoistKeeps_L1_succ (N : Nat) (n1 : Nat) (x6 : Int) (x7 : Int) (x8 : Int) (x9 : Int) (x10 : Int) (x11 : Int) (x12 : Int) (x13 : Int) (x14 : Bool) : law37_HoistKeeps_L1 N (n1 + 1) x6 x7 x8 x9 x10 x11 x12 x13 x14 =
  bif (decide (x6 < 120)) then
    bif (decide ((W (x7 - x12)) > 60000)) then
      Option.bind (hoist_Tick N (x7, (x8, (x9, (x10, x11)))) (x12, (x13, x14)) (W ((min (W (x8.tdiv 2)) (W ((W (x7 - x12)).tdiv 20))) - x13))) fun r17 =>
      bif (r17.2 != 0) then
        some false
      else
        bif r17.1.2.2 then
          some false
        else
          bif (decide (r17.1.1 < 0)) then
            some false
          else
            bif (decide (r17.1.1 > x7)) then
              some false
            else
              bif (decide (r17.1.2.1 > x8)) then
                some false
              else
                law37_HoistKeeps_L1 N n1 (W (x6 + 1)) x7 x8 x9 x10 x11 r17.1.1 r17.1.2.1 r17.1.2.2
    else
      Option.bind (hoist_Tick N (x7, (x8, (x9, (x10, x11)))) (x12, (x13, x14)) (W (0 - x13))) fun r27 =>
      bif (r27.2 != 0) then
        some false
      else
        bif r27.1.2.2 then
          some false
        else
          bif (decide (r27.1.1 < 0)) then
            some false
          else
            bif (decide (r27.1.1 > x7)) then
              some false
            else
              bif (decide (r27.1.2.1 > x8)) then
                some false
              else
                law37_HoistKeeps_L1 N n1 (W (x6 + 1)) x7 x8 x9 x10 x11 r27.1.1 r27.1.2.1 r27.1.2.2
  else
    Option.bind (law37_awake N) fun r37 =>
    some r37 := by kernel_rfl
def law37_HoistKeeps (N : Nat) (a0 : List Int) : Option Bool :=
  Option.bind (made_Light N a0) fun r1 =>
  bif (!r1) then
    Option.bind (law37_awake N) fun r2 =>
    some r2
  else
    Option.bind (made_Roll N a0) fun r3 =>
    Option.bind (law37_shaft N) fun r4 =>
    Option.bind (made_Dice_Next N r3.1 (W (r4.1 + 1))) fun r5 =>
    law37_HoistKeeps_L1 N N 0 r4.1 r4.2.1 r4.2.2.1 r4.2.2.2.1 r4.2.2.2.2 r5.1 0 false
theorem law37_HoistKeeps_fn : FnOK Try.prog 4 78 (fun _ : Nat => false) law37_HoistKeeps_C3.er [(.t 2)] := FnOK.mk' Try.func4 (by kernel_rfl) (by kernel_rfl) (by kernel_rfl) (by kernel_rfl) (by kernel_rfl)
theorem law37_HoistKeeps_envok (N : Nat) : EnvOK Try.prog (law37_HoistKeeps_E N) := .cons (pureE_ok (made_Light_pure N)) (.cons (pureE_ok (law37_awake_pure N)) (.cons (sfE_ok (made_Roll_sf N)) (.cons (pureE_ok (law37_shaft_pure N)) (.cons (sfE_ok (made_Dice_Next_sf N)) (.cons (pureE_ok (hoist_Tick_pure N)) (.nil))))))
theorem law37_HoistKeeps_pure (N : Nat) : PureOK Try.prog 4 [(.list (.int .i64))] [.bool] (fun x => law37_HoistKeeps N x) := pureOK (N := N) mixed law37_HoistKeeps_fn (law37_HoistKeeps_envok N) rfl (fun x => by kernel_rfl)
/-! made_Dice_One -/
def made_Dice_One_C4 : TC := .ret
def made_Dice_One_C3 : TC := (.pre [.frzo 0] made_Dice_One_C4)
def made_Dice_One_C2 : TC := (.seq (.rg [⟨⟨some 5, (.mov (.t 0)), none⟩, {}⟩, ⟨⟨some 6, (.mov (.t 1)), none⟩, {}⟩, ⟨⟨some 7, (.call (.c (.fn 15 [])) [(.t 5), (.t 6)]), none⟩, {}⟩, ⟨⟨some 8, (.mov (.t 1)), none⟩, {}⟩, ⟨⟨some 9, (.bin .sub (.t 8) (.c (I 1))), none⟩, {}⟩, ⟨⟨some 10, (.bin .eql (.t 7) (.t 9)), none⟩, {}⟩, ⟨⟨some 4,
  (.mov (.t 10)), none⟩, {}⟩] none) made_Dice_One_C3)
def made_Dice_One_C1 : TC := (.seq (.rg [⟨⟨some 4, (.mov (.c (B false))), none⟩, {}⟩] none) made_Dice_One_C2)
def made_Dice_One_E (N : Nat) : List (Nat × Ent) := [(15, sfE [(true, G_Dice), (false, (.int .i64))] [.v (.int .i64)] (fun x => made_Dice_Next N x.1 x.2))]
def made_Dice_One (N : Nat) (a0 : T_Dice) (a1 : Int) : Option (Bool × T_Dice) :=
  Option.bind (made_Dice_Next N a0 a1) fun r1 =>
  some ((r1.1 == (W (a1 - 1))), r1.2)
theorem made_Dice_One_fn : FnOK Try.prog 19 11 (fun _ : Nat => false) made_Dice_One_C1.er [(.t 4)] := FnOK.mk' Try.func19 (by kernel_rfl) (by kernel_rfl) (by kernel_rfl) (by kernel_rfl) (by kernel_rfl)
theorem made_Dice_One_envok (N : Nat) : EnvOK Try.prog (made_Dice_One_E N) := .cons (sfE_ok (made_Dice_Next_sf N)) (.nil)
theorem made_Dice_One_sf (N : Nat) : SFOK Try.prog 19 [(true, G_Dice), (false, (.int .i64))] [.v .bool] (fun x => made_Dice_One N x.1 x.2) := sfOK (N := N) (p := 1) mixed made_Dice_One_fn (made_Dice_One_envok N) rfl rfl (fun x => by kernel_rfl)
/-! law37_HoistMirror -/
def law37_HoistMirror_C5 : TC := .ret
def law37_HoistMirror_C3 : TC := (.cond (.t 18) (.seq (.rg [⟨⟨some 19, (.call (.c (.fn 9 [])) []), none⟩, {}⟩, ⟨⟨some 6, (.mov (.t 19)), none⟩, {}⟩] none) law37_HoistMirror_C5) .skip)
def law37_HoistMirror_C14 : TC := .ret
def law37_HoistMirror_C13 : TC := (.seq (.rg [⟨⟨some 72, (.call (.c (.fn 9 [])) []), none⟩, {}⟩, ⟨⟨some 73, (.mov (.t 72)), none⟩, {}⟩, ⟨⟨some 74, (.mov (.t 13)), some (73, true)⟩, {}⟩, ⟨⟨some 75, (.bin .eql (.t 74) (.c (I 0))), some (73, true)⟩, {}⟩, ⟨⟨some 76, (.pick (.t 73) (.t 75) (.c (B false))), none⟩, {}⟩, ⟨⟨some 77, (.mov (.t
  76)), none⟩, {}⟩, ⟨⟨some 78, (.mov (.t 15)), some (77, true)⟩, {}⟩, ⟨⟨some 79, (.bin .eql (.t 78) (.c (I 0))), some (77, true)⟩, {}⟩, ⟨⟨some 80, (.pick (.t 77) (.t 79) (.c (B false))), none⟩, {}⟩, ⟨⟨some 81, (.mov (.t 80)), none⟩, {}⟩, ⟨⟨some 82, (.fadr 0 (.t 14)), some (81, true)⟩, {}⟩, ⟨⟨some 83,
  (.load false 1 (.t 82)), some (81, true)⟩, {}⟩, ⟨⟨some 84, (.fadr 0 (.t 8)), some (81, true)⟩, {}⟩, ⟨⟨some 85, (.load false 1 (.t 84)), some (81, true)⟩, {}⟩, ⟨⟨some 86, (.fadr 0 (.t 12)), some (81, true)⟩, {}⟩, ⟨⟨some 87, (.load false 1 (.t 86)), some (81, true)⟩, {}⟩, ⟨⟨some 88, (.bin .sub (.t
  85) (.t 87)), some (81, true)⟩, {}⟩, ⟨⟨some 89, (.bin .eql (.t 83) (.t 88)), some (81, true)⟩, {}⟩, ⟨⟨some 90, (.pick (.t 81) (.t 89) (.c (B false))), none⟩, {}⟩, ⟨⟨some 91, (.mov (.t 90)), none⟩, {}⟩, ⟨⟨some 92, (.fadr 1 (.t 14)), some (91, true)⟩, {}⟩, ⟨⟨some 93, (.load false 1 (.t 92)), some
  (91, true)⟩, {}⟩, ⟨⟨some 94, (.fadr 1 (.t 12)), some (91, true)⟩, {}⟩, ⟨⟨some 95, (.load false 1 (.t 94)), some (91, true)⟩, {}⟩, ⟨⟨some 96, (.un .neg (.t 95)), some (91, true)⟩, {}⟩, ⟨⟨some 97, (.bin .eql (.t 93) (.t 96)), some (91, true)⟩, {}⟩, ⟨⟨some 98, (.pick (.t 91) (.t 97) (.c (B false))),
  none⟩, {}⟩, ⟨⟨some 99, (.mov (.t 98)), none⟩, {}⟩, ⟨⟨some 100, (.fadr 2 (.t 12)), some (99, true)⟩, {}⟩, ⟨⟨some 101, (.load false 1 (.t 100)), some (99, true)⟩, {}⟩, ⟨⟨some 102, (.fadr 2 (.t 14)), some (99, true)⟩, {}⟩, ⟨⟨some 103, (.load false 1 (.t 102)), some (99, true)⟩, {}⟩, ⟨⟨some 104, (.beq
  false (.t 101) (.t 103)), some (99, true)⟩, {}⟩, ⟨⟨some 105, (.pick (.t 99) (.t 104) (.c (B false))), none⟩, {}⟩, ⟨⟨some 6, (.mov (.t 105)), none⟩, {}⟩] none) law37_HoistMirror_C14)
def law37_HoistMirror_C12 : TC := (.seq (.rg [⟨⟨some 65, (.load true 5 (.t 8)), none⟩, {}⟩, ⟨⟨some 66, (.load true 3 (.t 11)), none⟩, {}⟩, ⟨⟨some 67, (.mov (.t 10)), none⟩, {}⟩, ⟨⟨some 68, (.un .neg (.t 67)), none⟩, {}⟩, ⟨⟨some 69, (.call (.c (.fn 16 [])) [(.t 65), (.t 66), (.t 68)]), none⟩, {}⟩, ⟨⟨some 64, (.mov (.t 69)), none⟩,
  {}⟩, ⟨⟨some 70, (.extr 0 (.t 64)), none⟩, {}⟩, ⟨⟨some 71, (.extr 1 (.t 64)), none⟩, {}⟩, ⟨⟨some 14, (.alloc [(I 0), (I 0), (B false)]), none⟩, {}⟩, ⟨⟨none, (.store 3 (.t 14) (.t 70)), none⟩, {}⟩, ⟨⟨some 15, (.mov (.t 71)), none⟩, {}⟩] none) law37_HoistMirror_C13)
def law37_HoistMirror_C11 : TC := (.seq (.rg [⟨⟨some 58, (.load true 5 (.t 8)), none⟩, {}⟩, ⟨⟨some 59, (.load true 3 (.t 9)), none⟩, {}⟩, ⟨⟨some 60, (.mov (.t 10)), none⟩, {}⟩, ⟨⟨some 61, (.call (.c (.fn 16 [])) [(.t 58), (.t 59), (.t 60)]), none⟩, {}⟩, ⟨⟨some 57, (.mov (.t 61)), none⟩, {}⟩, ⟨⟨some 62, (.extr 0 (.t 57)), none⟩, {}⟩,
  ⟨⟨some 63, (.extr 1 (.t 57)), none⟩, {}⟩, ⟨⟨some 12, (.alloc [(I 0), (I 0), (B false)]), none⟩, {}⟩, ⟨⟨none, (.store 3 (.t 12) (.t 62)), none⟩, {}⟩, ⟨⟨some 13, (.mov (.t 63)), none⟩, {}⟩] none) law37_HoistMirror_C12)
def law37_HoistMirror_C10 : TC := (.seq (.rg [⟨⟨some 46, (.fadr 0 (.t 8)), none⟩, {}⟩, ⟨⟨some 47, (.load false 1 (.t 46)), none⟩, {}⟩, ⟨⟨some 48, (.fadr 0 (.t 9)), none⟩, {}⟩, ⟨⟨some 49, (.load false 1 (.t 48)), none⟩, {}⟩, ⟨⟨some 50, (.bin .sub (.t 47) (.t 49)), none⟩, {}⟩, ⟨⟨some 51, (.fadr 1 (.t 9)), none⟩, {}⟩, ⟨⟨some 52, (.load
  false 1 (.t 51)), none⟩, {}⟩, ⟨⟨some 53, (.un .neg (.t 52)), none⟩, {}⟩, ⟨⟨some 54, (.fadr 2 (.t 9)), none⟩, {}⟩, ⟨⟨some 55, (.load false 1 (.t 54)), none⟩, {}⟩, ⟨⟨some 56, (.build [(I 0), (I 0), (B false)] [(0, (1, (.t 50))), (1, (1, (.t 53))), (2, (1, (.t 55)))]), none⟩, {}⟩, ⟨⟨some 11, (.alloc
  [(I 0), (I 0), (B false)]), none⟩, {}⟩, ⟨⟨none, (.store 3 (.t 11) (.t 56)), none⟩, {}⟩] none) law37_HoistMirror_C11)
def law37_HoistMirror_C9 : TC := (.seq (.rg [⟨⟨some 43, (.mov (.t 7)), none⟩, {}⟩, ⟨⟨some 44, (.call (.c (.fn 15 [])) [(.t 43), (.c (I 20001))]), none⟩, {}⟩, ⟨⟨some 45, (.bin .sub (.t 44) (.c (I 10000))), none⟩, {}⟩, ⟨⟨some 10, (.mov (.t 45)), none⟩, {}⟩] none) law37_HoistMirror_C10)
def law37_HoistMirror_C8 : TC := (.seq (.rg [⟨⟨some 31, (.mov (.t 1)), none⟩, {}⟩, ⟨⟨some 32, (.fadr 0 (.t 8)), none⟩, {}⟩, ⟨⟨some 33, (.load false 1 (.t 32)), none⟩, {}⟩, ⟨⟨some 34, (.bin .add (.t 33) (.c (I 2001))), none⟩, {}⟩, ⟨⟨some 35, (.call (.c (.fn 12 [])) [(.t 31), (.t 34)]), none⟩, {}⟩, ⟨⟨some 36, (.bin .sub (.t 35) (.c (I
  1000))), none⟩, {}⟩, ⟨⟨some 37, (.mov (.t 2)), none⟩, {}⟩, ⟨⟨some 38, (.call (.c (.fn 12 [])) [(.t 37), (.c (I 80001))]), none⟩, {}⟩, ⟨⟨some 39, (.bin .sub (.t 38) (.c (I 40000))), none⟩, {}⟩, ⟨⟨some 40, (.mov (.t 7)), none⟩, {}⟩, ⟨⟨some 41, (.call (.c (.fn 19 [])) [(.t 40), (.c (I 3))]), none⟩,
  {}⟩, ⟨⟨some 42, (.build [(I 0), (I 0), (B false)] [(0, (1, (.t 36))), (1, (1, (.t 39))), (2, (1, (.t 41)))]), none⟩, {}⟩, ⟨⟨some 9, (.alloc [(I 0), (I 0), (B false)]), none⟩, {}⟩, ⟨⟨none, (.store 3 (.t 9) (.t 42)), none⟩, {}⟩] none) law37_HoistMirror_C9)
def law37_HoistMirror_C7 : TC := (.seq (.rg [⟨⟨some 24, (.mov (.t 7)), none⟩, {}⟩, ⟨⟨some 25, (.fadr 1 (.t 8)), none⟩, {}⟩, ⟨⟨some 26, (.load false 1 (.t 25)), none⟩, {}⟩, ⟨⟨some 27, (.bin .quo (.t 26) (.c (I 3))), none⟩, {}⟩, ⟨⟨some 28, (.bslice false 1 [(I 0)] 2 [(0, (.c (I 0))), (1, (.t 27))]), none⟩, ⟨(.int .i64), none⟩⟩, ⟨⟨some
  29, (.call (.c (.fn 17 [])) [(.t 24), (.t 28)]), none⟩, {}⟩, ⟨⟨some 30, (.fadr 3 (.t 8)), none⟩, {}⟩, ⟨⟨none, (.store 1 (.t 30) (.t 29)), none⟩, {}⟩] none) law37_HoistMirror_C8)
def law37_HoistMirror_C6 : TC := (.seq (.rg [⟨⟨some 22, (.mov (.t 7)), none⟩, {}⟩, ⟨⟨some 23, (.call (.c (.fn 11 [])) [(.t 22)]), none⟩, {}⟩, ⟨⟨some 8, (.alloc [(I 0), (I 0), (I 0), (I 0), (I 0)]), none⟩, {}⟩, ⟨⟨none, (.store 5 (.t 8) (.t 23)), none⟩, {}⟩] none) law37_HoistMirror_C7)
def law37_HoistMirror_C4 : TC := (.seq (.rg [⟨⟨some 20, (.mov (.t 0)), none⟩, {}⟩, ⟨⟨some 21, (.call (.c (.fn 10 [])) [(.t 20)]), none⟩, {}⟩, ⟨⟨some 7, (.mov (.t 21)), none⟩, {}⟩] none) law37_HoistMirror_C6)
def law37_HoistMirror_C2 : TC := (.seq (.seq (.rg [⟨⟨some 16, (.mov (.t 0)), none⟩, {}⟩, ⟨⟨some 17, (.call (.c (.fn 8 [])) [(.t 16)]), none⟩, {}⟩, ⟨⟨some 18, (.un .not (.t 17)), none⟩, {}⟩] none) law37_HoistMirror_C3) law37_HoistMirror_C4)
def law37_HoistMirror_C1 : TC := (.seq (.rg [⟨⟨some 6, (.mov (.c (B false))), none⟩, {}⟩] none) law37_HoistMirror_C2)
def law37_HoistMirror_E (N : Nat) : List (Nat × Ent) := [(8, pureE [(.list (.int .i64))] [.bool] (fun x => made_Light N x)), (9, pureE [] [.bool] (fun x => law37_awake N)), (10, sfE [(false, (.list (.int .i64)))] [.n G_Dice] (fun x => made_Roll N x)), (11, sfE [(true, G_Dice)] [.v G_Hoist] (fun x => law37_made1 N x)), (17, sfE [(true, G_Dice), (false, (.list (.int .i64)))] [.v (.int .i64)] (fun x => made_Dice_Of N x.1 x.2)), (12, pureE [(.int .i64), (.int .i64)] [(.int .i64)] (fun x => made_Mod N x.1 x.2)), (19, sfE [(true, G_Dice), (false, (.int .i64))] [.v .bool] (fun x => made_Dice_One N x.1 x.2)), (15, sfE [(true, G_Dice), (false, (.int .i64))] [.v (.int .i64)] (fun x => made_Dice_Next N x.1 x.2)), (16, pureE [G_Hoist, G_Ride, (.int .i64)] [G_Ride, (.int .i64)] (fun x => hoist_Tick N x.1 x.2.1 x.2.2))]
def law37_HoistMirror (N : Nat) (a0 : List Int) (a1 : Int) (a2 : Int) : Option Bool :=
  Option.bind (made_Light N a0) fun r1 =>
  bif (!r1) then
    Option.bind (law37_awake N) fun r2 =>
    some r2
  else
    Option.bind (made_Roll N a0) fun r3 =>
    Option.bind (law37_made1 N r3.1) fun r4 =>
    Option.bind (made_Dice_Of N r4.2 [0, W (r4.1.2.1.tdiv 3)]) fun r5 =>
    Option.bind (made_Mod N a1 (W (r4.1.1 + 2001))) fun r6 =>
    Option.bind (made_Mod N a2 80001) fun r7 =>
    Option.bind (made_Dice_One N r5.2 3) fun r8 =>
    Option.bind (made_Dice_Next N r8.2 20001) fun r9 =>
    Option.bind (hoist_Tick N (r4.1.1, (r4.1.2.1, (r4.1.2.2.1, (r5.1, r4.1.2.2.2.2)))) (W (r6 - 1000), (W (r7 - 40000), r8.1)) (W (r9.1 - 10000))) fun r11 =>
    Option.bind (hoist_Tick N (r4.1.1, (r4.1.2.1, (r4.1.2.2.1, (r5.1, r4.1.2.2.2.2)))) ((W (r4.1.1 - (W (r6 - 1000)))), (W (0 - (W (r7 - 40000))), r8.1)) (W (0 - (W (r9.1 - 10000))))) fun r13 =>
    Option.bind (law37_awake N) fun r14 =>
    bif r14 then
      bif (r11.2 == 0) then
        bif (r13.2 == 0) then
          bif (r13.1.1 == (W (r4.1.1 - r11.1.1))) then
            bif (r13.1.2.1 == (W (0 - r11.1.2.1))) then
              some (r11.1.2.2 == r13.1.2.2)
            else
              some false
          else
            some false
        else
          some false
      else
        some false
    else
      some false
theorem law37_HoistMirror_fn : FnOK Try.prog 5 106 (fun _ : Nat => false) law37_HoistMirror_C1.er [(.t 6)] := FnOK.mk' Try.func5 (by kernel_rfl) (by kernel_rfl) (by kernel_rfl) (by kernel_rfl) (by kernel_rfl)
theorem law37_HoistMirror_envok (N : Nat) : EnvOK Try.prog (law37_HoistMirror_E N) := .cons (pureE_ok (made_Light_pure N)) (.cons (pureE_ok (law37_awake_pure N)) (.cons (sfE_ok (made_Roll_sf N)) (.cons (sfE_ok (law37_made1_sf N)) (.cons (sfE_ok (made_Dice_Of_sf N)) (.cons (pureE_ok (made_Mod_pure N)) (.cons (sfE_ok (made_Dice_One_sf N)) (.cons (sfE_ok (made_Dice_Next_sf N)) (.cons (pureE_ok (hoist_Tick_pure N)) (.nil)))))))))
theorem law37_HoistMirror_pure (N : Nat) : PureOK Try.prog 5 [(.list (.int .i64)), (.int .i64), (.int .i64)] [.bool] (fun x => law37_HoistMirror N x.1 x.2.1 x.2.2) := pureOK (N := N) mixed law37_HoistMirror_fn (law37_HoistMirror_envok N) rfl (fun x => by kernel_rfl)
/-! ref37_Limit -/
def ref37_Limit_N1 : List NS := [.keep [1, 2, 5, 6], .cmp]
def ref37_Limit_C4 : TC := (.cond (.t 21) .skip (.exit 0))
def ref37_Limit_C11 : TC := (.cond (.t 35) (.rg [⟨⟨some 36, (.mov (.t 7)), none⟩, {}⟩, ⟨⟨some 5, (.mov (.t 36)), none⟩, {}⟩] none) (.rg [⟨⟨some 37, (.mov (.t 7)), none⟩, {}⟩, ⟨⟨some 6, (.mov (.t 37)), none⟩, {}⟩] none))
def ref37_Limit_C8 : TC := (.seq (.rg [⟨⟨some 26, (.mov (.t 7)), none⟩, {}⟩, ⟨⟨some 27, (.mov (.t 7)), none⟩, {}⟩, ⟨⟨some 28, (.bin .mul (.t 26) (.t 27)), none⟩, {}⟩, ⟨⟨some 29, (.fadr 2 (.t 2)), none⟩, {}⟩, ⟨⟨some 30, (.load false 1 (.t 29)), none⟩, {}⟩, ⟨⟨some 31, (.bin .mul (.c (I 2)) (.t 30)), none⟩, {}⟩, ⟨⟨some 32, (.mov
  (.t 1)), none⟩, {}⟩, ⟨⟨some 33, (.mm false [(.t 32), (.c (I 1099511627776))]), none⟩, {}⟩, ⟨⟨some 34, (.bin .mul (.t 31) (.t 33)), none⟩, {}⟩, ⟨⟨some 35, (.bin .leq (.t 28) (.t 34)), none⟩, {}⟩] none) ref37_Limit_C11)
def ref37_Limit_C5 : TC := (.block 1 (.seq (.rg [⟨⟨some 22, (.mov (.t 5)), none⟩, {}⟩, ⟨⟨some 23, (.mov (.t 6)), none⟩, {}⟩, ⟨⟨some 24, (.bin .add (.t 22) (.t 23)), none⟩, {}⟩, ⟨⟨some 25, (.bin .quo (.t 24) (.c (I 2))), none⟩, {}⟩, ⟨⟨some 7, (.mov (.t 25)), none⟩, {}⟩] none) ref37_Limit_C8))
def ref37_Limit_C1 : TC := (.seq (.seq (.rg [⟨⟨some 18, (.mov (.t 6)), none⟩, {}⟩, ⟨⟨some 19, (.mov (.t 5)), none⟩, {}⟩, ⟨⟨some 20, (.bin .sub (.t 18) (.t 19)), none⟩, {}⟩, ⟨⟨some 21, (.bin .gtr (.t 20) (.c (I 1))), none⟩, {}⟩] none) ref37_Limit_C4) ref37_Limit_C5)
def ref37_Limit_C6 : TC := .ret
def ref37_Limit_C2 : TC := (.seq (.rg [⟨⟨some 38, (.mov (.t 5)), none⟩, {}⟩, ⟨⟨some 39, (.fadr 3 (.t 2)), none⟩, {}⟩, ⟨⟨some 40, (.load false 1 (.t 39)), none⟩, {}⟩, ⟨⟨some 41, (.bin .add (.t 38) (.t 40)), none⟩, {}⟩, ⟨⟨some 42, (.fadr 1 (.t 2)), none⟩, {}⟩, ⟨⟨some 43, (.load false 1 (.t 42)), none⟩, {}⟩, ⟨⟨some 44, (.mm false
  [(.t 41), (.t 43)]), none⟩, {}⟩, ⟨⟨some 4, (.mov (.t 44)), none⟩, {}⟩] none) ref37_Limit_C6)
def ref37_Limit_C12 : TC := .ret
def ref37_Limit_C9 : TC := (.cond (.t 9) (.seq (.rg [⟨⟨some 10, (.fadr 3 (.t 2)), none⟩, {}⟩, ⟨⟨some 11, (.load false 1 (.t 10)), none⟩, {}⟩, ⟨⟨some 12, (.fadr 1 (.t 2)), none⟩, {}⟩, ⟨⟨some 13, (.load false 1 (.t 12)), none⟩, {}⟩, ⟨⟨some 14, (.mm false [(.t 11), (.t 13)]), none⟩, {}⟩, ⟨⟨some 4, (.mov (.t 14)), none⟩, {}⟩]
  none) ref37_Limit_C12) .skip)
def ref37_Limit_C13 : TC := (.seq (.block 0 (.loop ref37_Limit_N1 ref37_Limit_C1)) ref37_Limit_C2)
def ref37_Limit_C10 : TC := (.seq (.rg [⟨⟨some 15, (.fadr 1 (.t 2)), none⟩, {}⟩, ⟨⟨some 16, (.load false 1 (.t 15)), none⟩, {}⟩, ⟨⟨some 17, (.bin .add (.t 16) (.c (I 1))), none⟩, {}⟩, ⟨⟨some 5, (.mov (.c (I 0))), none⟩, {}⟩, ⟨⟨some 6, (.mov (.t 17)), none⟩, {}⟩] (some [])) ref37_Limit_C13)
def ref37_Limit_C7 : TC := (.seq (.seq (.rg [⟨⟨some 8, (.mov (.t 1)), none⟩, {}⟩, ⟨⟨some 9, (.bin .leq (.t 8) (.c (I 0))), none⟩, {}⟩] none) ref37_Limit_C9) ref37_Limit_C10)
def ref37_Limit_C3 : TC := (.seq (.rg [⟨⟨some 2, (.box (.t 0)), none⟩, {}⟩, ⟨⟨some 4, (.mov (.c (I 0))), none⟩, {}⟩] none) ref37_Limit_C7)
def ref37_Limit_E (N : Nat) : List (Nat × Ent) := []
def ref37_Limit_L1 (N : Nat) (n : Nat) (x1 : Int) (x2 : Int) (x3 : Int) (x4 : Int) (x5 : Int) (x6 : Int) (x7 : Int) (x8 : Int) : Option Int := loopN (normI 0 ref37_Limit_N1) (run (ref37_Limit_E N) N 0 ref37_Limit_C1) n ⟨[(1, .int .i64 x1), (2, .ptr 0 0 0), (5, .int .i64 x2), (6, .int .i64 x3)], [some (.box 0 [.int .i64 x4, .int .i64 x5, .int .i64 x6, .int .i64 x7, .int .i64 x8])]⟩ (blkK 0 (seqK (run (ref37_Limit_E N) N 0 ref37_Limit_C2) (fin [(.t 4)] [(.int .i64)])))
theorem ref37_Limit_L1_zero (N : Nat) (x1 : Int) (x2 : Int) (x3 : Int) (x4 : Int) (x5 : Int) (x6 : Int) (x7 : Int) (x8 : Int) : ref37_Limit_L1 N 0 x1 x2 x3 x4 x5 x6 x7 x8 = none := rfl
theorem ref37_Limit_L1_succ (N : Nat) (n1 : Nat) (x1 : Int) (x2 : Int) (x3 : Int) (x4 : Int) (x5 : Int) (x6 : Int) (x7 : Int) (x8 : Int) : ref37_Limit_L1 N (n1 + 1) x1 x2 x3 x4 x5 x6 x7 x8 =
  bif (decide ((W (x3 - x2)) > 1)) then
    bif (decide ((W ((W ((W (x2 + x3)).tdiv 2)) * (W ((W (x2 + x3)).tdiv 2)))) ≤ (W ((W (2 * x6)) * (min x1 1099511627776))))) then
      ref37_Limit_L1 N n1 x1 (W ((W (x2 + x3)).tdiv 2)) x3 x4 x5 x6 x7 x8
    else
      ref37_Limit_L1 N n1 x1 x2 (W ((W (x2 + x3)).tdiv 2)) x4 x5 x6 x7 x8
  else
    some (min (W (x2 + x7)) x5) := by kernel_rfl
def ref37_Limit (N : Nat) (a0 : T_Hoist) (a1 : Int) : Option Int :=
  bif (decide (a1 ≤ 0)) then
    some (min a0.2.2.2.1 a0.2.1)
  else
    ref37_Limit_L1 N N a1 0 (W (a0.2.1 + 1)) a0.1 a0.2.1 a0.2.2.1 a0.2.2.2.1 a0.2.2.2.2
theorem ref37_Limit_fn : FnOK Try.prog 21 45 (fun _ : Nat => false) ref37_Limit_C3.er [(.t 4)] := FnOK.mk' Try.func21 (by kernel_rfl) (by kernel_rfl) (by kernel_rfl) (by kernel_rfl) (by kernel_rfl)
theorem ref37_Limit_envok (N : Nat) : EnvOK Try.prog (ref37_Limit_E N) := .nil
theorem ref37_Limit_pure (N : Nat) : PureOK Try.prog 21 [G_Hoist, (.int .i64)] [(.int .i64)] (fun x => ref37_Limit N x.1 x.2) := pureOK (N := N) mixed ref37_Limit_fn (ref37_Limit_envok N) rfl (fun x => by kernel_rfl)
/-! ref37_hoist -/
def ref37_hoist_C3 : TC := .ret
def ref37_hoist_C2 : TC := (.seq (.rg [⟨⟨some 3, (.fadr 0 (.t 1)), none⟩, {}⟩, ⟨⟨some 4, (.load false 1 (.t 3)), none⟩, {}⟩, ⟨⟨some 5, (.bin .geq (.t 4) (.c (I 1))), none⟩, {}⟩, ⟨⟨some 6, (.mov (.t 5)), none⟩, {}⟩, ⟨⟨some 7, (.fadr 0 (.t 1)), some (6, true)⟩, {}⟩, ⟨⟨some 8, (.load false 1 (.t 7)), some (6, true)⟩, {}⟩, ⟨⟨some
  9, (.bin .leq (.t 8) (.c (I 4000000))), some (6, true)⟩, {}⟩, ⟨⟨some 10, (.pick (.t 6) (.t 9) (.c (B false))), none⟩, {}⟩, ⟨⟨some 11, (.mov (.t 10)), none⟩, {}⟩, ⟨⟨some 12, (.fadr 1 (.t 1)), some (11, true)⟩, {}⟩, ⟨⟨some 13, (.load false 1 (.t 12)), some (11, true)⟩, {}⟩, ⟨⟨some 14, (.bin .geq (.t
  13) (.c (I 1))), some (11, true)⟩, {}⟩, ⟨⟨some 15, (.pick (.t 11) (.t 14) (.c (B false))), none⟩, {}⟩, ⟨⟨some 16, (.mov (.t 15)), none⟩, {}⟩, ⟨⟨some 17, (.fadr 1 (.t 1)), some (16, true)⟩, {}⟩, ⟨⟨some 18, (.load false 1 (.t 17)), some (16, true)⟩, {}⟩, ⟨⟨some 19, (.bin .leq (.t 18) (.c (I 20000))),
  some (16, true)⟩, {}⟩, ⟨⟨some 20, (.pick (.t 16) (.t 19) (.c (B false))), none⟩, {}⟩, ⟨⟨some 21, (.mov (.t 20)), none⟩, {}⟩, ⟨⟨some 22, (.fadr 2 (.t 1)), some (21, true)⟩, {}⟩, ⟨⟨some 23, (.load false 1 (.t 22)), some (21, true)⟩, {}⟩, ⟨⟨some 24, (.bin .geq (.t 23) (.c (I 1))), some (21, true)⟩,
  {}⟩, ⟨⟨some 25, (.pick (.t 21) (.t 24) (.c (B false))), none⟩, {}⟩, ⟨⟨some 26, (.mov (.t 25)), none⟩, {}⟩, ⟨⟨some 27, (.fadr 2 (.t 1)), some (26, true)⟩, {}⟩, ⟨⟨some 28, (.load false 1 (.t 27)), some (26, true)⟩, {}⟩, ⟨⟨some 29, (.bin .leq (.t 28) (.c (I 5000))), some (26, true)⟩, {}⟩, ⟨⟨some 30,
  (.pick (.t 26) (.t 29) (.c (B false))), none⟩, {}⟩, ⟨⟨some 31, (.mov (.t 30)), none⟩, {}⟩, ⟨⟨some 32, (.fadr 3 (.t 1)), some (31, true)⟩, {}⟩, ⟨⟨some 33, (.load false 1 (.t 32)), some (31, true)⟩, {}⟩, ⟨⟨some 34, (.bin .geq (.t 33) (.c (I 0))), some (31, true)⟩, {}⟩, ⟨⟨some 35, (.pick (.t 31) (.t
  34) (.c (B false))), none⟩, {}⟩, ⟨⟨some 36, (.mov (.t 35)), none⟩, {}⟩, ⟨⟨some 37, (.fadr 3 (.t 1)), some (36, true)⟩, {}⟩, ⟨⟨some 38, (.load false 1 (.t 37)), some (36, true)⟩, {}⟩, ⟨⟨some 39, (.fadr 1 (.t 1)), some (36, true)⟩, {}⟩, ⟨⟨some 40, (.load false 1 (.t 39)), some (36, true)⟩, {}⟩,
  ⟨⟨some 41, (.bin .leq (.t 38) (.t 40)), some (36, true)⟩, {}⟩, ⟨⟨some 42, (.pick (.t 36) (.t 41) (.c (B false))), none⟩, {}⟩, ⟨⟨some 43, (.mov (.t 42)), none⟩, {}⟩, ⟨⟨some 44, (.fadr 4 (.t 1)), some (43, true)⟩, {}⟩, ⟨⟨some 45, (.load false 1 (.t 44)), some (43, true)⟩, {}⟩, ⟨⟨some 46, (.bin .geq
  (.t 45) (.c (I 0))), some (43, true)⟩, {}⟩, ⟨⟨some 47, (.pick (.t 43) (.t 46) (.c (B false))), none⟩, {}⟩, ⟨⟨some 48, (.mov (.t 47)), none⟩, {}⟩, ⟨⟨some 49, (.fadr 4 (.t 1)), some (48, true)⟩, {}⟩, ⟨⟨some 50, (.load false 1 (.t 49)), some (48, true)⟩, {}⟩, ⟨⟨some 51, (.bin .leq (.t 50) (.c (I
  20))), some (48, true)⟩, {}⟩, ⟨⟨some 52, (.pick (.t 48) (.t 51) (.c (B false))), none⟩, {}⟩, ⟨⟨some 2, (.mov (.t 52)), none⟩, {}⟩] none) ref37_hoist_C3)
def ref37_hoist_C1 : TC := (.seq (.rg [⟨⟨some 1, (.box (.t 0)), none⟩, {}⟩, ⟨⟨some 2, (.mov (.c (B false))), none⟩, {}⟩] none) ref37_hoist_C2)
def ref37_hoist_E (N : Nat) : List (Nat × Ent) := []
def ref37_hoist (N : Nat) (a0 : T_Hoist) : Option Bool :=
  bif (decide (a0.1 ≥ 1)) then
    bif (decide (a0.1 ≤ 4000000)) then
      bif (decide (a0.2.1 ≥ 1)) then
        bif (decide (a0.2.1 ≤ 20000)) then
          bif (decide (a0.2.2.1 ≥ 1)) then
            bif (decide (a0.2.2.1 ≤ 5000)) then
              bif (decide (a0.2.2.2.1 ≥ 0)) then
                bif (decide (a0.2.2.2.1 ≤ a0.2.1)) then
                  bif (decide (a0.2.2.2.2 ≥ 0)) then
                    some (decide (a0.2.2.2.2 ≤ 20))
                  else
                    some false
                else
                  some false
              else
                some false
            else
              some false
          else
            some false
        else
          some false
      else
        some false
    else
      some false
  else
    some false
theorem ref37_hoist_fn : FnOK Try.prog 35 53 (fun _ : Nat => false) ref37_hoist_C1.er [(.t 2)] := FnOK.mk' Try.func35 (by kernel_rfl) (by kernel_rfl) (by kernel_rfl) (by kernel_rfl) (by kernel_rfl)
theorem ref37_hoist_envok (N : Nat) : EnvOK Try.prog (ref37_hoist_E N) := .nil
theorem ref37_hoist_pure (N : Nat) : PureOK Try.prog 35 [G_Hoist] [.bool] (fun x => ref37_hoist N x) := pureOK (N := N) mixed ref37_hoist_fn (ref37_hoist_envok N) rfl (fun x => by kernel_rfl)
/-! ref37_Valid -/
def ref37_Valid_C3 : TC := .ret
def ref37_Valid_C2 : TC := (.seq (.rg [⟨⟨some 5, (.load true 5 (.t 2)), none⟩, {}⟩, ⟨⟨some 6, (.call (.c (.fn 35 [])) [(.t 5)]), none⟩, {}⟩, ⟨⟨some 7, (.mov (.t 6)), none⟩, {}⟩, ⟨⟨some 8, (.fadr 0 (.t 3)), some (7, true)⟩, {}⟩, ⟨⟨some 9, (.load false 1 (.t 8)), some (7, true)⟩, {}⟩, ⟨⟨some 10, (.bin .geq (.t 9) (.c (I
  (-1000)))), some (7, true)⟩, {}⟩, ⟨⟨some 11, (.pick (.t 7) (.t 10) (.c (B false))), none⟩, {}⟩, ⟨⟨some 12, (.mov (.t 11)), none⟩, {}⟩, ⟨⟨some 13, (.fadr 0 (.t 3)), some (12, true)⟩, {}⟩, ⟨⟨some 14, (.load false 1 (.t 13)), some (12, true)⟩, {}⟩, ⟨⟨some 15, (.fadr 0 (.t 2)), some (12, true)⟩, {}⟩,
  ⟨⟨some 16, (.load false 1 (.t 15)), some (12, true)⟩, {}⟩, ⟨⟨some 17, (.bin .add (.t 16) (.c (I 1000))), some (12, true)⟩, {}⟩, ⟨⟨some 18, (.bin .leq (.t 14) (.t 17)), some (12, true)⟩, {}⟩, ⟨⟨some 19, (.pick (.t 12) (.t 18) (.c (B false))), none⟩, {}⟩, ⟨⟨some 20, (.mov (.t 19)), none⟩, {}⟩, ⟨⟨some
  21, (.fadr 1 (.t 3)), some (20, true)⟩, {}⟩, ⟨⟨some 22, (.load false 1 (.t 21)), some (20, true)⟩, {}⟩, ⟨⟨some 23, (.bin .geq (.t 22) (.c (I (-40000)))), some (20, true)⟩, {}⟩, ⟨⟨some 24, (.pick (.t 20) (.t 23) (.c (B false))), none⟩, {}⟩, ⟨⟨some 25, (.mov (.t 24)), none⟩, {}⟩, ⟨⟨some 26, (.fadr 1
  (.t 3)), some (25, true)⟩, {}⟩, ⟨⟨some 27, (.load false 1 (.t 26)), some (25, true)⟩, {}⟩, ⟨⟨some 28, (.bin .leq (.t 27) (.c (I 40000))), some (25, true)⟩, {}⟩, ⟨⟨some 29, (.pick (.t 25) (.t 28) (.c (B false))), none⟩, {}⟩, ⟨⟨some 4, (.mov (.t 29)), none⟩, {}⟩] none) ref37_Valid_C3)
def ref37_Valid_C1 : TC := (.seq (.rg [⟨⟨some 2, (.box (.t 0)), none⟩, {}⟩, ⟨⟨some 3, (.box (.t 1)), none⟩, {}⟩, ⟨⟨some 4, (.mov (.c (B false))), none⟩, {}⟩] none) ref37_Valid_C2)
def ref37_Valid_E (N : Nat) : List (Nat × Ent) := [(35, pureE [G_Hoist] [.bool] (fun x => ref37_hoist N x))]
def ref37_Valid (N : Nat) (a0 : T_Hoist) (a1 : T_Ride) : Option Bool :=
  Option.bind (ref37_hoist N a0) fun r1 =>
  bif r1 then
    bif (decide (a1.1 ≥ (-1000))) then
      bif (decide (a1.1 ≤ (W (a0.1 + 1000)))) then
        bif (decide (a1.2.1 ≥ (-40000))) then
          some (decide (a1.2.1 ≤ 40000))
        else
          some false
      else
        some false
    else
      some false
  else
    some false
theorem ref37_Valid_fn : FnOK Try.prog 32 30 (fun _ : Nat => false) ref37_Valid_C1.er [(.t 4)] := FnOK.mk' Try.func32 (by kernel_rfl) (by kernel_rfl) (by kernel_rfl) (by kernel_rfl) (by kernel_rfl)
theorem ref37_Valid_envok (N : Nat) : EnvOK Try.prog (ref37_Valid_E N) := .cons (pureE_ok (ref37_hoist_pure N)) (.nil)
theorem ref37_Valid_pure (N : Nat) : PureOK Try.prog 32 [G_Hoist, G_Ride] [.bool] (fun x => ref37_Valid N x.1 x.2) := pureOK (N := N) mixed ref37_Valid_fn (ref37_Valid_envok N) rfl (fun x => by kernel_rfl)
/-! ref37_size -/
def ref37_size_C3 : TC := .ret
def ref37_size_C2 : TC := (.seq (.rg [⟨⟨some 3, (.mov (.t 0)), none⟩, {}⟩, ⟨⟨some 4, (.mov (.t 0)), none⟩, {}⟩, ⟨⟨some 5, (.un .neg (.t 4)), none⟩, {}⟩, ⟨⟨some 6, (.mm true [(.t 3), (.t 5)]), none⟩, {}⟩, ⟨⟨some 2, (.mov (.t 6)), none⟩, {}⟩] none) ref37_size_C3)
def ref37_size_C1 : TC := (.seq (.rg [⟨⟨some 2, (.mov (.c (I 0))), none⟩, {}⟩] none) ref37_size_C2)
def ref37_size_E (N : Nat) : List (Nat × Ent) := []
def ref37_size (N : Nat) (a0 : Int) : Option Int :=
  some (max a0 (W (0 - a0)))
theorem ref37_size_fn : FnOK Try.prog 33 7 (fun _ : Nat => false) ref37_size_C1.er [(.t 2)] := FnOK.mk' Try.func33 (by kernel_rfl) (by kernel_rfl) (by kernel_rfl) (by kernel_rfl) (by kernel_rfl)
theorem ref37_size_envok (N : Nat) : EnvOK Try.prog (ref37_size_E N) := .nil
theorem ref37_size_pure (N : Nat) : PureOK Try.prog 33 [(.int .i64)] [(.int .i64)] (fun x => ref37_size N x) := pureOK (N := N) mixed ref37_size_fn (ref37_size_envok N) rfl (fun x => by kernel_rfl)
/-! ref37_room -/
def ref37_room_C5 : TC := .ret
def ref37_room_C3 : TC := (.cond (.t 7) (.seq (.rg [⟨⟨some 8, (.fadr 0 (.t 2)), none⟩, {}⟩, ⟨⟨some 9, (.load false 1 (.t 8)), none⟩, {}⟩, ⟨⟨some 10, (.fadr 0 (.t 3)), none⟩, {}⟩, ⟨⟨some 11, (.load false 1 (.t 10)), none⟩, {}⟩, ⟨⟨some 12, (.bin .sub (.t 9) (.t 11)), none⟩, {}⟩, ⟨⟨some 13, (.mm true [(.c (I 0)), (.t 12)]),
  none⟩, {}⟩, ⟨⟨some 4, (.mov (.t 13)), none⟩, {}⟩] none) ref37_room_C5) .skip)
def ref37_room_C6 : TC := .ret
def ref37_room_C4 : TC := (.seq (.rg [⟨⟨some 14, (.fadr 0 (.t 3)), none⟩, {}⟩, ⟨⟨some 15, (.load false 1 (.t 14)), none⟩, {}⟩, ⟨⟨some 16, (.mm true [(.c (I 0)), (.t 15)]), none⟩, {}⟩, ⟨⟨some 4, (.mov (.t 16)), none⟩, {}⟩] none) ref37_room_C6)
def ref37_room_C2 : TC := (.seq (.seq (.rg [⟨⟨some 5, (.fadr 1 (.t 3)), none⟩, {}⟩, ⟨⟨some 6, (.load false 1 (.t 5)), none⟩, {}⟩, ⟨⟨some 7, (.bin .gtr (.t 6) (.c (I 0))), none⟩, {}⟩] none) ref37_room_C3) ref37_room_C4)
def ref37_room_C1 : TC := (.seq (.rg [⟨⟨some 2, (.box (.t 0)), none⟩, {}⟩, ⟨⟨some 3, (.box (.t 1)), none⟩, {}⟩, ⟨⟨some 4, (.mov (.c (I 0))), none⟩, {}⟩] none) ref37_room_C2)
def ref37_room_E (N : Nat) : List (Nat × Ent) := []
def ref37_room (N : Nat) (a0 : T_Hoist) (a1 : T_Ride) : Option Int :=
  bif (decide (a1.2.1 > 0)) then
    some (max 0 (W (a0.1 - a1.1)))
  else
    some (max 0 a1.1)
theorem ref37_room_fn : FnOK Try.prog 34 17 (fun _ : Nat => false) ref37_room_C1.er [(.t 4)] := FnOK.mk' Try.func34 (by kernel_rfl) (by kernel_rfl) (by kernel_rfl) (by kernel_rfl) (by kernel_rfl)
theorem ref37_room_envok (N : Nat) : EnvOK Try.prog (ref37_room_E N) := .nil
theorem ref37_room_pure (N : Nat) : PureOK Try.prog 34 [G_Hoist, G_Ride] [(.int .i64)] (fun x => ref37_room N x.1 x.2) := pureOK (N := N) mixed ref37_room_fn (ref37_room_envok N) rfl (fun x => by kernel_rfl)
/-! ref37_Tick -/
def ref37_Tick_C9 : TC := (.cond (.t 47) (.rg [⟨⟨some 48, (.fadr 1 (.t 4)), none⟩, {}⟩, ⟨⟨some 49, (.load false 1 (.t 48)), none⟩, {}⟩, ⟨⟨some 50, (.fadr 2 (.t 3)), none⟩, {}⟩, ⟨⟨some 51, (.load false 1 (.t 50)), none⟩, {}⟩, ⟨⟨some 52, (.bin .sub (.t 49) (.t 51)), none⟩, {}⟩, ⟨⟨some 53, (.mm true [(.c (I 0)), (.t 52)]),
  none⟩, {}⟩, ⟨⟨some 54, (.fadr 1 (.t 4)), none⟩, {}⟩, ⟨⟨none, (.store 1 (.t 54) (.t 53)), none⟩, {}⟩] none) (.rg [⟨⟨some 55, (.fadr 1 (.t 4)), none⟩, {}⟩, ⟨⟨some 56, (.load false 1 (.t 55)), none⟩, {}⟩, ⟨⟨some 57, (.fadr 2 (.t 3)), none⟩, {}⟩, ⟨⟨some 58, (.load false 1 (.t 57)), none⟩, {}⟩, ⟨⟨some
  59, (.bin .add (.t 56) (.t 58)), none⟩, {}⟩, ⟨⟨some 60, (.mm false [(.c (I 0)), (.t 59)]), none⟩, {}⟩, ⟨⟨some 61, (.fadr 1 (.t 4)), none⟩, {}⟩, ⟨⟨none, (.store 1 (.t 61) (.t 60)), none⟩, {}⟩] none))
def ref37_Tick_C5 : TC := (.cond (.t 44) (.seq (.rg [⟨⟨some 45, (.fadr 1 (.t 4)), none⟩, {}⟩, ⟨⟨some 46, (.load false 1 (.t 45)), none⟩, {}⟩, ⟨⟨some 47, (.bin .gtr (.t 46) (.c (I 0))), none⟩, {}⟩] none) ref37_Tick_C9) (.rg [⟨⟨some 62, (.fadr 1 (.t 3)), none⟩, {}⟩, ⟨⟨some 63, (.load false 1 (.t 62)), none⟩, {}⟩, ⟨⟨some 64,
  (.un .neg (.t 63)), none⟩, {}⟩, ⟨⟨some 65, (.fadr 1 (.t 3)), none⟩, {}⟩, ⟨⟨some 66, (.load false 1 (.t 65)), none⟩, {}⟩, ⟨⟨some 67, (.fadr 1 (.t 4)), none⟩, {}⟩, ⟨⟨some 68, (.load false 1 (.t 67)), none⟩, {}⟩, ⟨⟨some 69, (.fadr 2 (.t 3)), none⟩, {}⟩, ⟨⟨some 70, (.load false 1 (.t 69)), none⟩, {}⟩,
  ⟨⟨some 71, (.un .neg (.t 70)), none⟩, {}⟩, ⟨⟨some 72, (.fadr 2 (.t 3)), none⟩, {}⟩, ⟨⟨some 73, (.load false 1 (.t 72)), none⟩, {}⟩, ⟨⟨some 74, (.mov (.t 2)), none⟩, {}⟩, ⟨⟨some 75, (.mm false [(.t 73), (.t 74)]), none⟩, {}⟩, ⟨⟨some 76, (.mm true [(.t 71), (.t 75)]), none⟩, {}⟩, ⟨⟨some 77, (.bin
  .add (.t 68) (.t 76)), none⟩, {}⟩, ⟨⟨some 78, (.mm false [(.t 66), (.t 77)]), none⟩, {}⟩, ⟨⟨some 79, (.mm true [(.t 64), (.t 78)]), none⟩, {}⟩, ⟨⟨some 80, (.fadr 1 (.t 4)), none⟩, {}⟩, ⟨⟨none, (.store 1 (.t 80) (.t 79)), none⟩, {}⟩] none))
def ref37_Tick_C14 : TC := .ret
def ref37_Tick_C10 : TC := (.seq (.rg [⟨⟨some 95, (.load true 3 (.t 4)), none⟩, {}⟩, ⟨⟨none, (.store 3 (.t 6) (.t 95)), none⟩, {}⟩, ⟨⟨some 7, (.mov (.c (I 0))), none⟩, {}⟩] none) ref37_Tick_C14)
def ref37_Tick_C6 : TC := (.seq (.rg [⟨⟨some 81, (.fadr 0 (.t 3)), none⟩, {}⟩, ⟨⟨some 82, (.load false 1 (.t 81)), none⟩, {}⟩, ⟨⟨some 83, (.bin .add (.t 82) (.c (I 1000))), none⟩, {}⟩, ⟨⟨some 84, (.fadr 0 (.t 4)), none⟩, {}⟩, ⟨⟨some 85, (.load false 1 (.t 84)), none⟩, {}⟩, ⟨⟨some 86, (.mov (.t 8)), none⟩, {}⟩, ⟨⟨some 87,
  (.fadr 1 (.t 4)), none⟩, {}⟩, ⟨⟨some 88, (.load false 1 (.t 87)), none⟩, {}⟩, ⟨⟨some 89, (.bin .add (.t 86) (.t 88)), none⟩, {}⟩, ⟨⟨some 90, (.bin .quo (.t 89) (.c (I 2))), none⟩, {}⟩, ⟨⟨some 91, (.bin .add (.t 85) (.t 90)), none⟩, {}⟩, ⟨⟨some 92, (.mm false [(.t 83), (.t 91)]), none⟩, {}⟩, ⟨⟨some
  93, (.mm true [(.c (I (-1000))), (.t 92)]), none⟩, {}⟩, ⟨⟨some 94, (.fadr 0 (.t 4)), none⟩, {}⟩, ⟨⟨none, (.store 1 (.t 94) (.t 93)), none⟩, {}⟩] none) ref37_Tick_C10)
def ref37_Tick_C3 : TC := (.seq (.seq (.rg [⟨⟨some 43, (.fadr 2 (.t 4)), none⟩, {}⟩, ⟨⟨some 44, (.load false 1 (.t 43)), none⟩, {}⟩] none) ref37_Tick_C5) ref37_Tick_C6)
def ref37_Tick_C1 : TC := (.seq (.rg [⟨⟨some 41, (.fadr 1 (.t 4)), none⟩, {}⟩, ⟨⟨some 42, (.load false 1 (.t 41)), none⟩, {}⟩, ⟨⟨some 8, (.mov (.t 42)), none⟩, {}⟩] none) ref37_Tick_C3)
def ref37_Tick_C11 : TC := .ret
def ref37_Tick_C7 : TC := (.cond (.t 12) (.seq (.rg [⟨⟨some 13, (.load true 3 (.t 4)), none⟩, {}⟩, ⟨⟨none, (.store 3 (.t 6) (.t 13)), none⟩, {}⟩, ⟨⟨some 7, (.mov (.c (I 6))), none⟩, {}⟩] none) ref37_Tick_C11) .skip)
def ref37_Tick_C12 : TC := (.cond (.t 39) (.rg [⟨⟨some 40, (.fadr 2 (.t 4)), none⟩, {}⟩, ⟨⟨none, (.store 1 (.t 40) (.c (B true))), none⟩, {}⟩] none) .skip)
def ref37_Tick_C13 : TC := (.join [.keep [2, 3, 4, 6], .cmp] ref37_Tick_C1)
def ref37_Tick_C8 : TC := (.seq (.seq (.rg [⟨⟨some 14, (.fadr 1 (.t 4)), none⟩, {}⟩, ⟨⟨some 15, (.load false 1 (.t 14)), none⟩, {}⟩, ⟨⟨some 16, (.call (.c (.fn 33 [])) [(.t 15)]), none⟩, {}⟩, ⟨⟨some 17, (.load true 5 (.t 3)), none⟩, {}⟩, ⟨⟨some 18, (.load true 5 (.t 3)), none⟩, {}⟩, ⟨⟨some 19, (.load true 3 (.t 4)), none⟩,
  {}⟩, ⟨⟨some 20, (.call (.c (.fn 34 [])) [(.t 18), (.t 19)]), none⟩, {}⟩, ⟨⟨some 21, (.call (.c (.fn 21 [])) [(.t 17), (.t 20)]), none⟩, {}⟩, ⟨⟨some 22, (.fadr 4 (.t 3)), none⟩, {}⟩, ⟨⟨some 23, (.load false 1 (.t 22)), none⟩, {}⟩, ⟨⟨some 24, (.bin .add (.c (I 100)) (.t 23)), none⟩, {}⟩, ⟨⟨some 25,
  (.bin .mul (.t 21) (.t 24)), none⟩, {}⟩, ⟨⟨some 26, (.bin .quo (.t 25) (.c (I 100))), none⟩, {}⟩, ⟨⟨some 27, (.bin .gtr (.t 16) (.t 26)), none⟩, {}⟩, ⟨⟨some 28, (.mov (.t 27)), none⟩, {}⟩, ⟨⟨some 29, (.fadr 0 (.t 4)), some (28, false)⟩, {}⟩, ⟨⟨some 30, (.load false 1 (.t 29)), some (28, false)⟩,
  {}⟩, ⟨⟨some 31, (.bin .lss (.t 30) (.c (I 0))), some (28, false)⟩, {}⟩, ⟨⟨some 32, (.pick (.t 28) (.c (B true)) (.t 31)), none⟩, {}⟩, ⟨⟨some 33, (.mov (.t 32)), none⟩, {}⟩, ⟨⟨some 34, (.fadr 0 (.t 4)), some (33, false)⟩, {}⟩, ⟨⟨some 35, (.load false 1 (.t 34)), some (33, false)⟩, {}⟩, ⟨⟨some 36,
  (.fadr 0 (.t 3)), some (33, false)⟩, {}⟩, ⟨⟨some 37, (.load false 1 (.t 36)), some (33, false)⟩, {}⟩, ⟨⟨some 38, (.bin .gtr (.t 35) (.t 37)), some (33, false)⟩, {}⟩, ⟨⟨some 39, (.pick (.t 33) (.c (B true)) (.t 38)), none⟩, {}⟩] (some [(2, 3), (2, 4), (2, 5), (3, 6), (2, 8), (6, 8), (7, 8), (2, 9),
  (6, 9), (7, 9)])) ref37_Tick_C12) ref37_Tick_C13)
def ref37_Tick_C4 : TC := (.seq (.seq (.rg [⟨⟨some 9, (.load true 5 (.t 3)), none⟩, {}⟩, ⟨⟨some 10, (.load true 3 (.t 4)), none⟩, {}⟩, ⟨⟨some 11, (.call (.c (.fn 32 [])) [(.t 9), (.t 10)]), none⟩, {}⟩, ⟨⟨some 12, (.un .not (.t 11)), none⟩, {}⟩] none) ref37_Tick_C7) ref37_Tick_C8)
def ref37_Tick_C2 : TC := (.seq (.rg [⟨⟨some 3, (.box (.t 0)), none⟩, {}⟩, ⟨⟨some 4, (.box (.t 1)), none⟩, {}⟩, ⟨⟨some 6, (.alloc [(I 0), (I 0), (B false)]), none⟩, {}⟩, ⟨⟨some 7, (.mov (.c (I 0))), none⟩, {}⟩] none) ref37_Tick_C4)
def ref37_Tick_E (N : Nat) : List (Nat × Ent) := [(32, pureE [G_Hoist, G_Ride] [.bool] (fun x => ref37_Valid N x.1 x.2)), (33, pureE [(.int .i64)] [(.int .i64)] (fun x => ref37_size N x)), (34, pureE [G_Hoist, G_Ride] [(.int .i64)] (fun x => ref37_room N x.1 x.2)), (21, pureE [G_Hoist, (.int .i64)] [(.int .i64)] (fun x => ref37_Limit N x.1 x.2))]
def ref37_Tick_J1 (N : Nat) (x6 : Int) (x7 : Int) (x8 : Int) (x9 : Int) (x10 : Int) (x11 : Int) (x12 : Int) (x13 : Int) (x14 : Bool) (x15 : Int) (x16 : Int) (x17 : Bool) : Option (T_Ride × Int) := joinN (run (ref37_Tick_E N) N 0 ref37_Tick_C1) N ⟨[(2, .int .i64 x6), (3, .ptr 0 0 0), (4, .ptr 1 0 0), (6, .ptr 2 0 0)], [some (.box 0 [.int .i64 x7, .int .i64 x8, .int .i64 x9, .int .i64 x10, .int .i64 x11]), some (.box 0 [.int .i64 x12, .int .i64 x13, .bool x14]), some (.box 0 [.int .i64 x15, .int .i64 x16, .bool x17])]⟩ (fin [(.cell 6 true 3), (.t 7)] [G_Ride, (.int .i64)])
theorem ref37_Tick_J1_eq (N : Nat) (x6 : Int) (x7 : Int) (x8 : Int) (x9 : Int) (x10 : Int) (x11 : Int) (x12 : Int) (x13 : Int) (x14 : Bool) (x15 : Int) (x16 : Int) (x17 : Bool) : ref37_Tick_J1 (N + 1) x6 x7 x8 x9 x10 x11 x12 x13 x14 x15 x16 x17 =
  bif x14 then
    bif (decide (x13 > 0)) then
      some (((max (-1000) (min (W (x7 + 1000)) (W (x12 + (W ((W (x13 + (max 0 (W (x13 - x9))))).tdiv 2)))))), (max 0 (W (x13 - x9)), x14)), 0)
    else
      some (((max (-1000) (min (W (x7 + 1000)) (W (x12 + (W ((W (x13 + (min 0 (W (x13 + x9))))).tdiv 2)))))), (min 0 (W (x13 + x9)), x14)), 0)
  else
    let v25 := max (W (0 - x8)) (min x8 (W (x13 + (max (W (0 - x9)) (min x9 x6)))))
    some ((max (-1000) (min (W (x7 + 1000)) (W (x12 + (W ((W (x13 + v25)).tdiv 2))))), (v25, x14)), 0) := by kernel_rfl
def ref37_Tick (N : Nat) (a0 : T_Hoist) (a1 : T_Ride) (a2 : Int) : Option (T_Ride × Int) :=
  Option.bind (ref37_Valid N a0 a1) fun r1 =>
  bif (!r1) then
    some (a1, 6)
  else
    Option.bind (ref37_size N a1.2.1) fun r2 =>
    Option.bind (ref37_room N a0 a1) fun r3 =>
    Option.bind (ref37_Limit N a0 r3) fun r4 =>
    bif (decide (r2 > (W ((W (r4 * (W (100 + a0.2.2.2.2)))).tdiv 100)))) then
      ref37_Tick_J1 N a2 a0.1 a0.2.1 a0.2.2.1 a0.2.2.2.1 a0.2.2.2.2 a1.1 a1.2.1 true 0 0 false
    else
      bif (decide (a1.1 < 0)) then
        ref37_Tick_J1 N a2 a0.1 a0.2.1 a0.2.2.1 a0.2.2.2.1 a0.2.2.2.2 a1.1 a1.2.1 true 0 0 false
      else
        bif (decide (a1.1 > a0.1)) then
          ref37_Tick_J1 N a2 a0.1 a0.2.1 a0.2.2.1 a0.2.2.2.1 a0.2.2.2.2 a1.1 a1.2.1 true 0 0 false
        else
          ref37_Tick_J1 N a2 a0.1 a0.2.1 a0.2.2.1 a0.2.2.2.1 a0.2.2.2.2 a1.1 a1.2.1 a1.2.2 0 0 false
theorem ref37_Tick_fn : FnOK Try.prog 29 96 (fun _ : Nat => false) ref37_Tick_C2.er [(.cell 6 true 3), (.t 7)] := FnOK.mk' Try.func29 (by kernel_rfl) (by kernel_rfl) (by kernel_rfl) (by kernel_rfl) (by kernel_rfl)
theorem ref37_Tick_envok (N : Nat) : EnvOK Try.prog (ref37_Tick_E N) := .cons (pureE_ok (ref37_Valid_pure N)) (.cons (pureE_ok (ref37_size_pure N)) (.cons (pureE_ok (ref37_room_pure N)) (.cons (pureE_ok (ref37_Limit_pure N)) (.nil))))
theorem ref37_Tick_pure (N : Nat) : PureOK Try.prog 29 [G_Hoist, G_Ride, (.int .i64)] [G_Ride, (.int .i64)] (fun x => ref37_Tick N x.1 x.2.1 x.2.2) := pureOK (N := N) mixed ref37_Tick_fn (ref37_Tick_envok N) rfl (fun x => by kernel_rfl)
/-! hoist_Reset -/
def hoist_Reset_C5 : TC := .ret
def hoist_Reset_C8 : TC := .ret
def hoist_Reset_C11 : TC := .ret
def hoist_Reset_C9 : TC := (.cond (.t 17) (.seq (.rg [⟨⟨some 21, (.load true 3 (.t 3)), none⟩, {}⟩, ⟨⟨none, (.store 3 (.t 4) (.t 21)), none⟩, {}⟩, ⟨⟨some 5, (.mov (.c (I 10))), none⟩, {}⟩] none) hoist_Reset_C11) .skip)
def hoist_Reset_C6 : TC := (.cond (.t 12) (.seq (.rg [⟨⟨some 16, (.load true 3 (.t 3)), none⟩, {}⟩, ⟨⟨none, (.store 3 (.t 4) (.t 16)), none⟩, {}⟩, ⟨⟨some 5, (.mov (.c (I 51))), none⟩, {}⟩] none) hoist_Reset_C8) (.seq (.rg [⟨⟨some 18, (.fadr 2 (.t 3)), none⟩, {}⟩, ⟨⟨some 19, (.load false 1 (.t 18)), none⟩, {}⟩, ⟨⟨some 20, (.un
  .not (.t 19)), none⟩, {}⟩, ⟨⟨some 17, (.mov (.t 20)), none⟩, {}⟩] none) hoist_Reset_C9))
def hoist_Reset_C3 : TC := (.cond (.t 6) (.seq (.rg [⟨⟨some 11, (.load true 3 (.t 3)), none⟩, {}⟩, ⟨⟨none, (.store 3 (.t 4) (.t 11)), none⟩, {}⟩, ⟨⟨some 5, (.mov (.c (I 6))), none⟩, {}⟩] none) hoist_Reset_C5) (.seq (.rg [⟨⟨some 13, (.fadr 1 (.t 3)), none⟩, {}⟩, ⟨⟨some 14, (.load false 1 (.t 13)), none⟩, {}⟩, ⟨⟨some 15, (.bin
  .neq (.t 14) (.c (I 0))), none⟩, {}⟩, ⟨⟨some 12, (.mov (.t 15)), none⟩, {}⟩] none) hoist_Reset_C6))
def hoist_Reset_C10 : TC := .ret
def hoist_Reset_C7 : TC := (.seq (.rg [⟨⟨some 23, (.load true 3 (.t 3)), none⟩, {}⟩, ⟨⟨none, (.store 3 (.t 4) (.t 23)), none⟩, {}⟩, ⟨⟨some 5, (.mov (.c (I 0))), none⟩, {}⟩] none) hoist_Reset_C10)
def hoist_Reset_C4 : TC := (.seq (.rg [⟨⟨some 22, (.fadr 2 (.t 3)), none⟩, {}⟩, ⟨⟨none, (.store 1 (.t 22) (.c (B false))), none⟩, {}⟩] none) hoist_Reset_C7)
def hoist_Reset_C2 : TC := (.seq (.block 0 (.seq (.rg [⟨⟨some 7, (.load true 5 (.t 2)), none⟩, {}⟩, ⟨⟨some 8, (.load true 3 (.t 3)), none⟩, {}⟩, ⟨⟨some 9, (.call (.c (.fn 25 [])) [(.t 7), (.t 8)]), none⟩, {}⟩, ⟨⟨some 10, (.un .not (.t 9)), none⟩, {}⟩, ⟨⟨some 6, (.mov (.t 10)), none⟩, {}⟩] none) hoist_Reset_C3)) hoist_Reset_C4)
def hoist_Reset_C1 : TC := (.seq (.rg [⟨⟨some 2, (.box (.t 0)), none⟩, {}⟩, ⟨⟨some 3, (.box (.t 1)), none⟩, {}⟩, ⟨⟨some 4, (.alloc [(I 0), (I 0), (B false)]), none⟩, {}⟩, ⟨⟨some 5, (.mov (.c (I 0))), none⟩, {}⟩] none) hoist_Reset_C2)
def hoist_Reset_E (N : Nat) : List (Nat × Ent) := [(25, pureE [G_Hoist, G_Ride] [.bool] (fun x => hoist_Valid N x.1 x.2))]
def hoist_Reset (N : Nat) (a0 : T_Hoist) (a1 : T_Ride) : Option (T_Ride × Int) :=
  Option.bind (hoist_Valid N a0 a1) fun r1 =>
  bif (!r1) then
    some (a1, 6)
  else
    bif (a1.2.1 != 0) then
      some (a1, 51)
    else
      bif (!a1.2.2) then
        some (a1, 10)
      else
        some ((a1.1, (a1.2.1, false)), 0)
theorem hoist_Reset_fn : FnOK Try.prog 30 24 (fun _ : Nat => false) hoist_Reset_C1.er [(.cell 4 true 3), (.t 5)] := FnOK.mk' Try.func30 (by kernel_rfl) (by kernel_rfl) (by kernel_rfl) (by kernel_rfl) (by kernel_rfl)
theorem hoist_Reset_envok (N : Nat) : EnvOK Try.prog (hoist_Reset_E N) := .cons (pureE_ok (hoist_Valid_pure N)) (.nil)
theorem hoist_Reset_pure (N : Nat) : PureOK Try.prog 30 [G_Hoist, G_Ride] [G_Ride, (.int .i64)] (fun x => hoist_Reset N x.1 x.2) := pureOK (N := N) mixed hoist_Reset_fn (hoist_Reset_envok N) rfl (fun x => by kernel_rfl)
/-! ref37_Reset -/
def ref37_Reset_C5 : TC := .ret
def ref37_Reset_C8 : TC := .ret
def ref37_Reset_C11 : TC := .ret
def ref37_Reset_C9 : TC := (.cond (.t 17) (.seq (.rg [⟨⟨some 21, (.load true 3 (.t 3)), none⟩, {}⟩, ⟨⟨none, (.store 3 (.t 4) (.t 21)), none⟩, {}⟩, ⟨⟨some 5, (.mov (.c (I 10))), none⟩, {}⟩] none) ref37_Reset_C11) .skip)
def ref37_Reset_C6 : TC := (.cond (.t 12) (.seq (.rg [⟨⟨some 16, (.load true 3 (.t 3)), none⟩, {}⟩, ⟨⟨none, (.store 3 (.t 4) (.t 16)), none⟩, {}⟩, ⟨⟨some 5, (.mov (.c (I 51))), none⟩, {}⟩] none) ref37_Reset_C8) (.seq (.rg [⟨⟨some 18, (.fadr 2 (.t 3)), none⟩, {}⟩, ⟨⟨some 19, (.load false 1 (.t 18)), none⟩, {}⟩, ⟨⟨some 20, (.un
  .not (.t 19)), none⟩, {}⟩, ⟨⟨some 17, (.mov (.t 20)), none⟩, {}⟩] none) ref37_Reset_C9))
def ref37_Reset_C3 : TC := (.cond (.t 6) (.seq (.rg [⟨⟨some 11, (.load true 3 (.t 3)), none⟩, {}⟩, ⟨⟨none, (.store 3 (.t 4) (.t 11)), none⟩, {}⟩, ⟨⟨some 5, (.mov (.c (I 6))), none⟩, {}⟩] none) ref37_Reset_C5) (.seq (.rg [⟨⟨some 13, (.fadr 1 (.t 3)), none⟩, {}⟩, ⟨⟨some 14, (.load false 1 (.t 13)), none⟩, {}⟩, ⟨⟨some 15, (.bin
  .neq (.t 14) (.c (I 0))), none⟩, {}⟩, ⟨⟨some 12, (.mov (.t 15)), none⟩, {}⟩] none) ref37_Reset_C6))
def ref37_Reset_C10 : TC := .ret
def ref37_Reset_C7 : TC := (.seq (.rg [⟨⟨some 23, (.load true 3 (.t 3)), none⟩, {}⟩, ⟨⟨none, (.store 3 (.t 4) (.t 23)), none⟩, {}⟩, ⟨⟨some 5, (.mov (.c (I 0))), none⟩, {}⟩] none) ref37_Reset_C10)
def ref37_Reset_C4 : TC := (.seq (.rg [⟨⟨some 22, (.fadr 2 (.t 3)), none⟩, {}⟩, ⟨⟨none, (.store 1 (.t 22) (.c (B false))), none⟩, {}⟩] none) ref37_Reset_C7)
def ref37_Reset_C2 : TC := (.seq (.block 0 (.seq (.rg [⟨⟨some 7, (.load true 5 (.t 2)), none⟩, {}⟩, ⟨⟨some 8, (.load true 3 (.t 3)), none⟩, {}⟩, ⟨⟨some 9, (.call (.c (.fn 32 [])) [(.t 7), (.t 8)]), none⟩, {}⟩, ⟨⟨some 10, (.un .not (.t 9)), none⟩, {}⟩, ⟨⟨some 6, (.mov (.t 10)), none⟩, {}⟩] none) ref37_Reset_C3)) ref37_Reset_C4)
def ref37_Reset_C1 : TC := (.seq (.rg [⟨⟨some 2, (.box (.t 0)), none⟩, {}⟩, ⟨⟨some 3, (.box (.t 1)), none⟩, {}⟩, ⟨⟨some 4, (.alloc [(I 0), (I 0), (B false)]), none⟩, {}⟩, ⟨⟨some 5, (.mov (.c (I 0))), none⟩, {}⟩] none) ref37_Reset_C2)
def ref37_Reset_E (N : Nat) : List (Nat × Ent) := [(32, pureE [G_Hoist, G_Ride] [.bool] (fun x => ref37_Valid N x.1 x.2))]
def ref37_Reset (N : Nat) (a0 : T_Hoist) (a1 : T_Ride) : Option (T_Ride × Int) :=
  Option.bind (ref37_Valid N a0 a1) fun r1 =>
  bif (!r1) then
    some (a1, 6)
  else
    bif (a1.2.1 != 0) then
      some (a1, 51)
    else
      bif (!a1.2.2) then
        some (a1, 10)
      else
        some ((a1.1, (a1.2.1, false)), 0)
theorem ref37_Reset_fn : FnOK Try.prog 31 24 (fun _ : Nat => false) ref37_Reset_C1.er [(.cell 4 true 3), (.t 5)] := FnOK.mk' Try.func31 (by kernel_rfl) (by kernel_rfl) (by kernel_rfl) (by kernel_rfl) (by kernel_rfl)
theorem ref37_Reset_envok (N : Nat) : EnvOK Try.prog (ref37_Reset_E N) := .cons (pureE_ok (ref37_Valid_pure N)) (.nil)
theorem ref37_Reset_pure (N : Nat) : PureOK Try.prog 31 [G_Hoist, G_Ride] [G_Ride, (.int .i64)] (fun x => ref37_Reset N x.1 x.2) := pureOK (N := N) mixed ref37_Reset_fn (ref37_Reset_envok N) rfl (fun x => by kernel_rfl)
/-! law37_agree -/
def law37_agree_C7 : TC := .ret
def law37_agree_C6 : TC := (.seq (.rg [⟨⟨some 41, (.load true 3 (.t 7)), none⟩, {}⟩, ⟨⟨some 42, (.load true 3 (.t 9)), none⟩, {}⟩, ⟨⟨some 43, (.eqa false [(0, 1), (1, 1), (2, 0)] (.t 41) (.t 42)), none⟩, {}⟩, ⟨⟨some 44, (.mov (.t 43)), none⟩, {}⟩, ⟨⟨some 45, (.mov (.t 8)), some (44, true)⟩, {}⟩, ⟨⟨some 46, (.mov (.t 10)), some
  (44, true)⟩, {}⟩, ⟨⟨some 47, (.bin .eql (.t 45) (.t 46)), some (44, true)⟩, {}⟩, ⟨⟨some 48, (.pick (.t 44) (.t 47) (.c (B false))), none⟩, {}⟩, ⟨⟨some 49, (.mov (.t 48)), none⟩, {}⟩, ⟨⟨some 50, (.load true 3 (.t 11)), some (49, true)⟩, {}⟩, ⟨⟨some 51, (.load true 3 (.t 13)), some (49, true)⟩, {}⟩,
  ⟨⟨some 52, (.eqa false [(0, 1), (1, 1), (2, 0)] (.t 50) (.t 51)), some (49, true)⟩, {}⟩, ⟨⟨some 53, (.pick (.t 49) (.t 52) (.c (B false))), none⟩, {}⟩, ⟨⟨some 54, (.mov (.t 53)), none⟩, {}⟩, ⟨⟨some 55, (.mov (.t 12)), some (54, true)⟩, {}⟩, ⟨⟨some 56, (.mov (.t 14)), some (54, true)⟩, {}⟩, ⟨⟨some
  57, (.bin .eql (.t 55) (.t 56)), some (54, true)⟩, {}⟩, ⟨⟨some 58, (.pick (.t 54) (.t 57) (.c (B false))), none⟩, {}⟩, ⟨⟨some 59, (.mov (.t 58)), none⟩, {}⟩, ⟨⟨some 60, (.load true 5 (.t 3)), some (59, true)⟩, {}⟩, ⟨⟨some 61, (.load true 3 (.t 4)), some (59, true)⟩, {}⟩, ⟨⟨some 62, (.call (.c (.fn
  25 [])) [(.t 60), (.t 61)]), some (59, true)⟩, {}⟩, ⟨⟨some 63, (.load true 5 (.t 3)), some (59, true)⟩, {}⟩, ⟨⟨some 64, (.load true 3 (.t 4)), some (59, true)⟩, {}⟩, ⟨⟨some 65, (.call (.c (.fn 32 [])) [(.t 63), (.t 64)]), some (59, true)⟩, {}⟩, ⟨⟨some 66, (.beq false (.t 62) (.t 65)), some (59,
  true)⟩, {}⟩, ⟨⟨some 67, (.pick (.t 59) (.t 66) (.c (B false))), none⟩, {}⟩, ⟨⟨some 6, (.mov (.t 67)), none⟩, {}⟩] (some [(21, 22), (21, 23)])) law37_agree_C7)
def law37_agree_C5 : TC := (.seq (.rg [⟨⟨some 36, (.load true 5 (.t 3)), none⟩, {}⟩, ⟨⟨some 37, (.load true 3 (.t 4)), none⟩, {}⟩, ⟨⟨some 38, (.call (.c (.fn 31 [])) [(.t 36), (.t 37)]), none⟩, {}⟩, ⟨⟨some 35, (.mov (.t 38)), none⟩, {}⟩, ⟨⟨some 39, (.extr 0 (.t 35)), none⟩, {}⟩, ⟨⟨some 40, (.extr 1 (.t 35)), none⟩, {}⟩, ⟨⟨some
  13, (.alloc [(I 0), (I 0), (B false)]), none⟩, {}⟩, ⟨⟨none, (.store 3 (.t 13) (.t 39)), none⟩, {}⟩, ⟨⟨some 14, (.mov (.t 40)), none⟩, {}⟩] none) law37_agree_C6)
def law37_agree_C4 : TC := (.seq (.rg [⟨⟨some 30, (.load true 5 (.t 3)), none⟩, {}⟩, ⟨⟨some 31, (.load true 3 (.t 4)), none⟩, {}⟩, ⟨⟨some 32, (.call (.c (.fn 30 [])) [(.t 30), (.t 31)]), none⟩, {}⟩, ⟨⟨some 29, (.mov (.t 32)), none⟩, {}⟩, ⟨⟨some 33, (.extr 0 (.t 29)), none⟩, {}⟩, ⟨⟨some 34, (.extr 1 (.t 29)), none⟩, {}⟩, ⟨⟨some
  11, (.alloc [(I 0), (I 0), (B false)]), none⟩, {}⟩, ⟨⟨none, (.store 3 (.t 11) (.t 33)), none⟩, {}⟩, ⟨⟨some 12, (.mov (.t 34)), none⟩, {}⟩] none) law37_agree_C5)
def law37_agree_C3 : TC := (.seq (.rg [⟨⟨some 23, (.load true 5 (.t 3)), none⟩, {}⟩, ⟨⟨some 24, (.load true 3 (.t 4)), none⟩, {}⟩, ⟨⟨some 25, (.mov (.t 2)), none⟩, {}⟩, ⟨⟨some 26, (.call (.c (.fn 29 [])) [(.t 23), (.t 24), (.t 25)]), none⟩, {}⟩, ⟨⟨some 22, (.mov (.t 26)), none⟩, {}⟩, ⟨⟨some 27, (.extr 0 (.t 22)), none⟩, {}⟩,
  ⟨⟨some 28, (.extr 1 (.t 22)), none⟩, {}⟩, ⟨⟨some 9, (.alloc [(I 0), (I 0), (B false)]), none⟩, {}⟩, ⟨⟨none, (.store 3 (.t 9) (.t 27)), none⟩, {}⟩, ⟨⟨some 10, (.mov (.t 28)), none⟩, {}⟩] none) law37_agree_C4)
def law37_agree_C2 : TC := (.seq (.rg [⟨⟨some 16, (.load true 5 (.t 3)), none⟩, {}⟩, ⟨⟨some 17, (.load true 3 (.t 4)), none⟩, {}⟩, ⟨⟨some 18, (.mov (.t 2)), none⟩, {}⟩, ⟨⟨some 19, (.call (.c (.fn 16 [])) [(.t 16), (.t 17), (.t 18)]), none⟩, {}⟩, ⟨⟨some 15, (.mov (.t 19)), none⟩, {}⟩, ⟨⟨some 20, (.extr 0 (.t 15)), none⟩, {}⟩,
  ⟨⟨some 21, (.extr 1 (.t 15)), none⟩, {}⟩, ⟨⟨some 7, (.alloc [(I 0), (I 0), (B false)]), none⟩, {}⟩, ⟨⟨none, (.store 3 (.t 7) (.t 20)), none⟩, {}⟩, ⟨⟨some 8, (.mov (.t 21)), none⟩, {}⟩] none) law37_agree_C3)
def law37_agree_C1 : TC := (.seq (.rg [⟨⟨some 3, (.box (.t 0)), none⟩, {}⟩, ⟨⟨some 4, (.box (.t 1)), none⟩, {}⟩, ⟨⟨some 6, (.mov (.c (B false))), none⟩, {}⟩] none) law37_agree_C2)
def law37_agree_E (N : Nat) : List (Nat × Ent) := [(16, pureE [G_Hoist, G_Ride, (.int .i64)] [G_Ride, (.int .i64)] (fun x => hoist_Tick N x.1 x.2.1 x.2.2)), (29, pureE [G_Hoist, G_Ride, (.int .i64)] [G_Ride, (.int .i64)] (fun x => ref37_Tick N x.1 x.2.1 x.2.2)), (30, pureE [G_Hoist, G_Ride] [G_Ride, (.int .i64)] (fun x => hoist_Reset N x.1 x.2)), (31, pureE [G_Hoist, G_Ride] [G_Ride, (.int .i64)] (fun x => ref37_Reset N x.1 x.2)), (25, pureE [G_Hoist, G_Ride] [.bool] (fun x => hoist_Valid N x.1 x.2)), (32, pureE [G_Hoist, G_Ride] [.bool] (fun x => ref37_Valid N x.1 x.2))]
def law37_agree (N : Nat) (a0 : T_Hoist) (a1 : T_Ride) (a2 : Int) : Option Bool :=
  Option.bind (hoist_Tick N a0 a1 a2) fun r1 =>
  Option.bind (ref37_Tick N a0 a1 a2) fun r2 =>
  Option.bind (hoist_Reset N a0 a1) fun r3 =>
  Option.bind (ref37_Reset N a0 a1) fun r4 =>
  bif ((r1.1.1 == r2.1.1) && ((r1.1.2.1 == r2.1.2.1) && (r1.1.2.2 == r2.1.2.2))) then
    bif (r1.2 == r2.2) then
      bif ((r3.1.1 == r4.1.1) && ((r3.1.2.1 == r4.1.2.1) && (r3.1.2.2 == r4.1.2.2))) then
        bif (r3.2 == r4.2) then
          Option.bind (hoist_Valid N a0 a1) fun r5 =>
          Option.bind (ref37_Valid N a0 a1) fun r6 =>
          some (r5 == r6)
        else
          some false
      else
        some false
    else
      some false
  else
    some false
theorem law37_agree_fn : FnOK Try.prog 20 68 (fun _ : Nat => false) law37_agree_C1.er [(.t 6)] := FnOK.mk' Try.func20 (by kernel_rfl) (by kernel_rfl) (by kernel_rfl) (by kernel_rfl) (by kernel_rfl)
theorem law37_agree_envok (N : Nat) : EnvOK Try.prog (law37_agree_E N) := .cons (pureE_ok (hoist_Tick_pure N)) (.cons (pureE_ok (ref37_Tick_pure N)) (.cons (pureE_ok (hoist_Reset_pure N)) (.cons (pureE_ok (ref37_Reset_pure N)) (.cons (pureE_ok (hoist_Valid_pure N)) (.cons (pureE_ok (ref37_Valid_pure N)) (.nil))))))
theorem law37_agree_pure (N : Nat) : PureOK Try.prog 20 [G_Hoist, G_Ride, (.int .i64)] [.bool] (fun x => law37_agree N x.1 x.2.1 x.2.2) := pureOK (N := N) mixed law37_agree_fn (law37_agree_envok N) rfl (fun x => by kernel_rfl)
/-! law37_HoistRaw -/
def law37_HoistRaw_C3 : TC := .ret
def law37_HoistRaw_C2 : TC := (.seq (.rg [⟨⟨some 7, (.call (.c (.fn 9 [])) []), none⟩, {}⟩, ⟨⟨some 8, (.mov (.t 7)), none⟩, {}⟩, ⟨⟨some 9, (.load true 5 (.t 3)), some (8, true)⟩, {}⟩, ⟨⟨some 10, (.load true 3 (.t 4)), some (8, true)⟩, {}⟩, ⟨⟨some 11, (.mov (.t 2)), some (8, true)⟩, {}⟩, ⟨⟨some 12, (.call (.c (.fn 20 [])) [(.t 9),
  (.t 10), (.t 11)]), some (8, true)⟩, {}⟩, ⟨⟨some 13, (.pick (.t 8) (.t 12) (.c (B false))), none⟩, {}⟩, ⟨⟨some 14, (.mov (.t 13)), none⟩, {}⟩, ⟨⟨some 15, (.call (.c (.fn 18 [])) []), some (14, true)⟩, {}⟩, ⟨⟨some 16, (.load true 3 (.t 4)), some (14, true)⟩, {}⟩, ⟨⟨some 17, (.mov (.t 2)), some (14,
  true)⟩, {}⟩, ⟨⟨some 18, (.call (.c (.fn 20 [])) [(.t 15), (.t 16), (.t 17)]), some (14, true)⟩, {}⟩, ⟨⟨some 19, (.pick (.t 14) (.t 18) (.c (B false))), none⟩, {}⟩, ⟨⟨some 6, (.mov (.t 19)), none⟩, {}⟩] (some [(8, 9)])) law37_HoistRaw_C3)
def law37_HoistRaw_C1 : TC := (.seq (.rg [⟨⟨some 3, (.box (.t 0)), none⟩, {}⟩, ⟨⟨some 4, (.box (.t 1)), none⟩, {}⟩, ⟨⟨some 6, (.mov (.c (B false))), none⟩, {}⟩] none) law37_HoistRaw_C2)
def law37_HoistRaw_E (N : Nat) : List (Nat × Ent) := [(9, pureE [] [.bool] (fun x => law37_awake N)), (20, pureE [G_Hoist, G_Ride, (.int .i64)] [.bool] (fun x => law37_agree N x.1 x.2.1 x.2.2)), (18, pureE [] [G_Hoist] (fun x => law37_shaft N))]
def law37_HoistRaw (N : Nat) (a0 : T_Hoist) (a1 : T_Ride) (a2 : Int) : Option Bool :=
  Option.bind (law37_awake N) fun r1 =>
  bif r1 then
    Option.bind (law37_agree N a0 a1 a2) fun r2 =>
    bif r2 then
      Option.bind (law37_shaft N) fun r3 =>
      Option.bind (law37_agree N r3 a1 a2) fun r4 =>
      some r4
    else
      some false
  else
    some false
theorem law37_HoistRaw_fn : FnOK Try.prog 6 20 (fun _ : Nat => false) law37_HoistRaw_C1.er [(.t 6)] := FnOK.mk' Try.func6 (by kernel_rfl) (by kernel_rfl) (by kernel_rfl) (by kernel_rfl) (by kernel_rfl)
theorem law37_HoistRaw_envok (N : Nat) : EnvOK Try.prog (law37_HoistRaw_E N) := .cons (pureE_ok (law37_awake_pure N)) (.cons (pureE_ok (law37_agree_pure N)) (.cons (pureE_ok (law37_shaft_pure N)) (.nil)))
theorem law37_HoistRaw_pure (N : Nat) : PureOK Try.prog 6 [G_Hoist, G_Ride, (.int .i64)] [.bool] (fun x => law37_HoistRaw N x.1 x.2.1 x.2.2) := pureOK (N := N) mixed law37_HoistRaw_fn (law37_HoistRaw_envok N) rfl (fun x => by kernel_rfl)
/-! ref37_Stop -/
def ref37_Stop_C3 : TC := .ret
def ref37_Stop_C2 : TC := (.seq (.rg [⟨⟨some 5, (.mov (.t 1)), none⟩, {}⟩, ⟨⟨some 6, (.mov (.t 1)), none⟩, {}⟩, ⟨⟨some 7, (.bin .mul (.t 5) (.t 6)), none⟩, {}⟩, ⟨⟨some 8, (.fadr 2 (.t 2)), none⟩, {}⟩, ⟨⟨some 9, (.load false 1 (.t 8)), none⟩, {}⟩, ⟨⟨some 10, (.bin .mul (.c (I 2)) (.t 9)), none⟩, {}⟩, ⟨⟨some 11, (.bin .add (.t
  7) (.t 10)), none⟩, {}⟩, ⟨⟨some 12, (.bin .sub (.t 11) (.c (I 1))), none⟩, {}⟩, ⟨⟨some 13, (.fadr 2 (.t 2)), none⟩, {}⟩, ⟨⟨some 14, (.load false 1 (.t 13)), none⟩, {}⟩, ⟨⟨some 15, (.bin .mul (.c (I 2)) (.t 14)), none⟩, {}⟩, ⟨⟨some 16, (.bin .quo (.t 12) (.t 15)), none⟩, {}⟩, ⟨⟨some 4, (.mov (.t
  16)), none⟩, {}⟩] none) ref37_Stop_C3)
def ref37_Stop_C1 : TC := (.seq (.rg [⟨⟨some 2, (.box (.t 0)), none⟩, {}⟩, ⟨⟨some 4, (.mov (.c (I 0))), none⟩, {}⟩] none) ref37_Stop_C2)
def ref37_Stop_E (N : Nat) : List (Nat × Ent) := []
def ref37_Stop (N : Nat) (a0 : T_Hoist) (a1 : Int) : Option Int :=
  bif (W (2 * a0.2.2.1)) == 0 then none else
  some (W ((W ((W ((W (a1 * a1)) + (W (2 * a0.2.2.1)))) - 1)).tdiv (W (2 * a0.2.2.1))))
theorem ref37_Stop_fn : FnOK Try.prog 22 17 (fun _ : Nat => false) ref37_Stop_C1.er [(.t 4)] := FnOK.mk' Try.func22 (by kernel_rfl) (by kernel_rfl) (by kernel_rfl) (by kernel_rfl) (by kernel_rfl)
theorem ref37_Stop_envok (N : Nat) : EnvOK Try.prog (ref37_Stop_E N) := .nil
theorem ref37_Stop_pure (N : Nat) : PureOK Try.prog 22 [G_Hoist, (.int .i64)] [(.int .i64)] (fun x => ref37_Stop N x.1 x.2) := pureOK (N := N) mixed ref37_Stop_fn (ref37_Stop_envok N) rfl (fun x => by kernel_rfl)
/-! law37_HoistMade -/
def law37_HoistMade_N1 : List NS := [.keep [1, 5, 6, 7], .cmp]
def law37_HoistMade_C5 : TC := .ret
def law37_HoistMade_C1 : TC := (.seq (.rg [⟨⟨some 114, (.call (.c (.fn 9 [])) []), none⟩, {}⟩, ⟨⟨some 115, (.mov (.t 114)), none⟩, {}⟩, ⟨⟨some 116, (.load true 5 (.t 11)), some (115, true)⟩, {}⟩, ⟨⟨some 117, (.build [(I 0), (I 0), (B false)] [(0, (1, (.c (I 0)))), (1, (1, (.c (I 0))))]), some (115, true)⟩, {}⟩, ⟨⟨some 118, (.call
  (.c (.fn 20 [])) [(.t 116), (.t 117), (.c (I 0))]), some (115, true)⟩, {}⟩, ⟨⟨some 119, (.pick (.t 115) (.t 118) (.c (B false))), none⟩, {}⟩, ⟨⟨some 120, (.mov (.t 119)), none⟩, {}⟩, ⟨⟨some 121, (.load true 5 (.t 6)), some (120, true)⟩, {}⟩, ⟨⟨some 122, (.fadr 0 (.t 6)), some (120, true)⟩, {}⟩,
  ⟨⟨some 123, (.load false 1 (.t 122)), some (120, true)⟩, {}⟩, ⟨⟨some 124, (.mov (.t 5)), some (120, true)⟩, {}⟩, ⟨⟨some 125, (.bslice false 1 [(I 0)] 2 [(0, (.c (I 1000))), (1, (.c (I 1001)))]), some (120, true)⟩, ⟨(.int .i64), none⟩⟩, ⟨⟨some 126, (.call (.c (.fn 17 [])) [(.t 124), (.t 125)]), some
  (120, true)⟩, {}⟩, ⟨⟨some 127, (.bin .add (.t 123) (.t 126)), some (120, true)⟩, {}⟩, ⟨⟨some 128, (.mov (.t 5)), some (120, true)⟩, {}⟩, ⟨⟨some 129, (.bslice false 1 [(I 0)] 2 [(0, (.c (I 40000))), (1, (.c (I 40001)))]), some (120, true)⟩, ⟨(.int .i64), none⟩⟩, ⟨⟨some 130, (.call (.c (.fn 17 []))
  [(.t 128), (.t 129)]), some (120, true)⟩, {}⟩, ⟨⟨some 131, (.build [(I 0), (I 0), (B false)] [(0, (1, (.t 127))), (1, (1, (.t 130)))]), some (120, true)⟩, {}⟩, ⟨⟨some 132, (.call (.c (.fn 20 [])) [(.t 121), (.t 131), (.c (I 3))]), some (120, true)⟩, {}⟩, ⟨⟨some 133, (.pick (.t 120) (.t 132) (.c (B
  false))), none⟩, {}⟩, ⟨⟨some 4, (.mov (.t 133)), none⟩, {}⟩] (some [(7, 12), (8, 12), (9, 12), (7, 16), (8, 16), (9, 16)])) law37_HoistMade_C5)
def law37_HoistMade_C6 : TC := (.cond (.t 30) .skip (.exit 0))
def law37_HoistMade_C21 : TC := .ret
def law37_HoistMade_C16 : TC := (.cond (.t 59) (.seq (.rg [⟨⟨some 4, (.mov (.c (B false))), none⟩, {}⟩] none) law37_HoistMade_C21) .skip)
def law37_HoistMade_C28 : TC := .ret
def law37_HoistMade_C25 : TC := (.cond (.t 79) (.seq (.rg [⟨⟨some 4, (.mov (.c (B false))), none⟩, {}⟩] none) law37_HoistMade_C28) .skip)
def law37_HoistMade_C22 : TC := (.seq (.rg [⟨⟨some 73, (.load true 5 (.t 6)), none⟩, {}⟩, ⟨⟨some 74, (.load true 3 (.t 10)), none⟩, {}⟩, ⟨⟨some 75, (.mov (.t 5)), none⟩, {}⟩, ⟨⟨some 76, (.bslice false 1 [(I 0)] 5 [(0, (.c (I 0))), (1, (.c (I 500))), (2, (.c (I (-500)))), (3, (.c (I 1099511627776))), (4, (.c (I (-5000))))]), none⟩,
  ⟨(.int .i64), none⟩⟩, ⟨⟨some 77, (.call (.c (.fn 17 [])) [(.t 75), (.t 76)]), none⟩, {}⟩, ⟨⟨some 78, (.call (.c (.fn 20 [])) [(.t 73), (.t 74), (.t 77)]), none⟩, {}⟩, ⟨⟨some 79, (.un .not (.t 78)), none⟩, {}⟩] (some [(0, 4), (1, 4)])) law37_HoistMade_C25)
def law37_HoistMade_C17 : TC := (.seq (.rg [⟨⟨some 60, (.mov (.t 1)), none⟩, {}⟩, ⟨⟨some 61, (.mov (.t 7)), none⟩, {}⟩, ⟨⟨some 62, (.bin .mul (.t 61) (.c (I 977))), none⟩, {}⟩, ⟨⟨some 63, (.bin .add (.t 60) (.t 62)), none⟩, {}⟩, ⟨⟨some 64, (.fadr 0 (.t 6)), none⟩, {}⟩, ⟨⟨some 65, (.load false 1 (.t 64)), none⟩, {}⟩, ⟨⟨some 66,
  (.bin .add (.t 65) (.c (I 2001))), none⟩, {}⟩, ⟨⟨some 67, (.call (.c (.fn 12 [])) [(.t 63), (.t 66)]), none⟩, {}⟩, ⟨⟨some 68, (.bin .sub (.t 67) (.c (I 1000))), none⟩, {}⟩, ⟨⟨some 69, (.mov (.t 9)), none⟩, {}⟩, ⟨⟨some 70, (.mov (.t 5)), none⟩, {}⟩, ⟨⟨some 71, (.call (.c (.fn 19 [])) [(.t 70), (.c
  (I 3))]), none⟩, {}⟩, ⟨⟨some 72, (.build [(I 0), (I 0), (B false)] [(0, (1, (.t 68))), (1, (1, (.t 69))), (2, (1, (.t 71)))]), none⟩, {}⟩, ⟨⟨some 10, (.alloc [(I 0), (I 0), (B false)]), none⟩, {}⟩, ⟨⟨none, (.store 3 (.t 10) (.t 72)), none⟩, {}⟩] none) law37_HoistMade_C22)
def law37_HoistMade_C10 : TC := (.seq (.seq (.rg [⟨⟨some 44, (.load true 5 (.t 6)), none⟩, {}⟩, ⟨⟨some 45, (.mov (.t 8)), none⟩, {}⟩, ⟨⟨some 46, (.call (.c (.fn 13 [])) [(.t 44), (.t 45)]), none⟩, {}⟩, ⟨⟨some 47, (.load true 5 (.t 6)), none⟩, {}⟩, ⟨⟨some 48, (.mov (.t 8)), none⟩, {}⟩, ⟨⟨some 49, (.call (.c (.fn 21 [])) [(.t 47),
  (.t 48)]), none⟩, {}⟩, ⟨⟨some 50, (.bin .neq (.t 46) (.t 49)), none⟩, {}⟩, ⟨⟨some 51, (.mov (.t 50)), none⟩, {}⟩, ⟨⟨some 52, (.load true 5 (.t 6)), some (51, false)⟩, {}⟩, ⟨⟨some 53, (.mov (.t 9)), some (51, false)⟩, {}⟩, ⟨⟨some 54, (.call (.c (.fn 14 [])) [(.t 52), (.t 53)]), some (51, false)⟩,
  {}⟩, ⟨⟨some 55, (.load true 5 (.t 6)), some (51, false)⟩, {}⟩, ⟨⟨some 56, (.mov (.t 9)), some (51, false)⟩, {}⟩, ⟨⟨some 57, (.call (.c (.fn 22 [])) [(.t 55), (.t 56)]), some (51, false)⟩, {}⟩, ⟨⟨some 58, (.bin .neq (.t 54) (.t 57)), some (51, false)⟩, {}⟩, ⟨⟨some 59, (.pick (.t 51) (.c (B true))
  (.t 58)), none⟩, {}⟩] (some [(2, 3), (10, 11)])) law37_HoistMade_C16) law37_HoistMade_C17)
def law37_HoistMade_C11 : TC := (.rg [⟨⟨some 31, (.mov (.t 7)), none⟩, {}⟩, ⟨⟨some 32, (.bin .add (.t 31) (.c (I 1))), none⟩, {}⟩, ⟨⟨some 7, (.mov (.t 32)), none⟩, {}⟩] none)
def law37_HoistMade_C7 : TC := (.seq (.block 1 (.seq (.rg [⟨⟨some 33, (.mov (.t 5)), none⟩, {}⟩, ⟨⟨some 34, (.fadr 0 (.t 6)), none⟩, {}⟩, ⟨⟨some 35, (.load false 1 (.t 34)), none⟩, {}⟩, ⟨⟨some 36, (.mov (.t 1)), none⟩, {}⟩, ⟨⟨some 37, (.call (.c (.fn 12 [])) [(.t 36), (.c (I 5000000))]), none⟩, {}⟩, ⟨⟨some 38, (.mov (.t 1)),
  none⟩, {}⟩, ⟨⟨some 39, (.bslice false 1 [(I 0)] 6 [(0, (.c (I 0))), (1, (.c (I 1))), (2, (.t 35)), (3, (.t 37)), (4, (.c (I (-7)))), (5, (.t 38))]), none⟩, ⟨(.int .i64), none⟩⟩, ⟨⟨some 40, (.call (.c (.fn 17 [])) [(.t 33), (.t 39)]), none⟩, {}⟩, ⟨⟨some 41, (.mov (.t 1)), none⟩, {}⟩, ⟨⟨some 42,
  (.call (.c (.fn 12 [])) [(.t 41), (.c (I 80001))]), none⟩, {}⟩, ⟨⟨some 43, (.bin .sub (.t 42) (.c (I 40000))), none⟩, {}⟩, ⟨⟨some 8, (.mov (.t 40)), none⟩, {}⟩, ⟨⟨some 9, (.mov (.t 43)), none⟩, {}⟩] (some [(1, 4), (2, 4)])) law37_HoistMade_C10)) law37_HoistMade_C11)
def law37_HoistMade_C2 : TC := (.seq (.seq (.rg [⟨⟨some 29, (.mov (.t 7)), none⟩, {}⟩, ⟨⟨some 30, (.bin .lss (.t 29) (.c (I 4))), none⟩, {}⟩] none) law37_HoistMade_C6) law37_HoistMade_C7)
def law37_HoistMade_C29 : TC := (.cond (.t 105) (.rg [⟨⟨some 107, (.mov (.t 5)), none⟩, {}⟩, ⟨⟨some 108, (.fadr 1 (.t 6)), none⟩, {}⟩, ⟨⟨some 109, (.load false 1 (.t 108)), none⟩, {}⟩, ⟨⟨some 110, (.bin .add (.t 109) (.c (I 1))), none⟩, {}⟩, ⟨⟨some 111, (.bslice false 1 [(I 0)] 2 [(0, (.c (I (-1)))), (1, (.t 110))]), none⟩, ⟨(.int
  .i64), none⟩⟩, ⟨⟨some 112, (.call (.c (.fn 17 [])) [(.t 107), (.t 111)]), none⟩, {}⟩, ⟨⟨some 113, (.fadr 3 (.t 11)), none⟩, {}⟩, ⟨⟨none, (.store 1 (.t 113) (.t 112)), none⟩, {}⟩] none) (.rg [⟨⟨some 83, (.mov (.t 5)), none⟩, {}⟩, ⟨⟨some 84, (.bslice false 1 [(I 0)] 2 [(0, (.c (I (-1)))), (1, (.c (I
  21)))]), none⟩, ⟨(.int .i64), none⟩⟩, ⟨⟨some 85, (.call (.c (.fn 17 [])) [(.t 83), (.t 84)]), none⟩, {}⟩, ⟨⟨some 86, (.fadr 4 (.t 11)), none⟩, {}⟩, ⟨⟨none, (.store 1 (.t 86) (.t 85)), none⟩, {}⟩] none))
def law37_HoistMade_C26 : TC := (.cond (.t 99) (.rg [⟨⟨some 101, (.mov (.t 5)), none⟩, {}⟩, ⟨⟨some 102, (.bslice false 1 [(I 0)] 2 [(0, (.c (I 0))), (1, (.c (I 5001)))]), none⟩, ⟨(.int .i64), none⟩⟩, ⟨⟨some 103, (.call (.c (.fn 17 [])) [(.t 101), (.t 102)]), none⟩, {}⟩, ⟨⟨some 104, (.fadr 2 (.t 11)), none⟩, {}⟩, ⟨⟨none, (.store 1
  (.t 104) (.t 103)), none⟩, {}⟩] none) (.seq (.rg [⟨⟨some 106, (.bin .eql (.t 82) (.c (I 3))), none⟩, {}⟩, ⟨⟨some 105, (.mov (.t 106)), none⟩, {}⟩] none) law37_HoistMade_C29))
def law37_HoistMade_C23 : TC := (.cond (.t 93) (.rg [⟨⟨some 95, (.mov (.t 5)), none⟩, {}⟩, ⟨⟨some 96, (.bslice false 1 [(I 0)] 2 [(0, (.c (I 0))), (1, (.c (I 20001)))]), none⟩, ⟨(.int .i64), none⟩⟩, ⟨⟨some 97, (.call (.c (.fn 17 [])) [(.t 95), (.t 96)]), none⟩, {}⟩, ⟨⟨some 98, (.fadr 1 (.t 11)), none⟩, {}⟩, ⟨⟨none, (.store 1 (.t
  98) (.t 97)), none⟩, {}⟩] none) (.seq (.rg [⟨⟨some 100, (.bin .eql (.t 82) (.c (I 2))), none⟩, {}⟩, ⟨⟨some 99, (.mov (.t 100)), none⟩, {}⟩] none) law37_HoistMade_C26))
def law37_HoistMade_C18 : TC := (.cond (.t 87) (.rg [⟨⟨some 89, (.mov (.t 5)), none⟩, {}⟩, ⟨⟨some 90, (.bslice false 1 [(I 0)] 2 [(0, (.c (I 0))), (1, (.c (I 4000001)))]), none⟩, ⟨(.int .i64), none⟩⟩, ⟨⟨some 91, (.call (.c (.fn 17 [])) [(.t 89), (.t 90)]), none⟩, {}⟩, ⟨⟨some 92, (.fadr 0 (.t 11)), none⟩, {}⟩, ⟨⟨none, (.store 1 (.t
  92) (.t 91)), none⟩, {}⟩] none) (.seq (.rg [⟨⟨some 94, (.bin .eql (.t 82) (.c (I 1))), none⟩, {}⟩, ⟨⟨some 93, (.mov (.t 94)), none⟩, {}⟩] none) law37_HoistMade_C23))
def law37_HoistMade_C12 : TC := (.block 2 (.seq (.rg [⟨⟨some 88, (.bin .eql (.t 82) (.c (I 0))), none⟩, {}⟩, ⟨⟨some 87, (.mov (.t 88)), none⟩, {}⟩] none) law37_HoistMade_C18))
def law37_HoistMade_C13 : TC := (.join [.keep [5, 6, 11], .cmp] law37_HoistMade_C1)
def law37_HoistMade_C8 : TC := (.seq (.seq (.rg [⟨⟨some 81, (.mov (.t 5)), none⟩, {}⟩, ⟨⟨some 82, (.call (.c (.fn 15 [])) [(.t 81), (.c (I 5))]), none⟩, {}⟩] none) law37_HoistMade_C12) law37_HoistMade_C13)
def law37_HoistMade_C3 : TC := (.seq (.rg [⟨⟨some 80, (.load true 5 (.t 6)), none⟩, {}⟩, ⟨⟨some 11, (.alloc [(I 0), (I 0), (I 0), (I 0), (I 0)]), none⟩, {}⟩, ⟨⟨none, (.store 5 (.t 11) (.t 80)), none⟩, {}⟩] none) law37_HoistMade_C8)
def law37_HoistMade_C19 : TC := .ret
def law37_HoistMade_C14 : TC := (.cond (.t 14) (.seq (.rg [⟨⟨some 15, (.call (.c (.fn 9 [])) []), none⟩, {}⟩, ⟨⟨some 4, (.mov (.t 15)), none⟩, {}⟩] none) law37_HoistMade_C19) .skip)
def law37_HoistMade_C30 : TC := (.block 0 (.loop law37_HoistMade_N1 law37_HoistMade_C2))
def law37_HoistMade_C27 : TC := (.seq (.seq (.rg [⟨⟨some 7, (.mov (.c (I 0))), none⟩, {}⟩] none) law37_HoistMade_C30) law37_HoistMade_C3)
def law37_HoistMade_C24 : TC := (.seq (.rg [⟨⟨some 20, (.mov (.t 5)), none⟩, {}⟩, ⟨⟨some 21, (.fadr 1 (.t 6)), none⟩, {}⟩, ⟨⟨some 22, (.load false 1 (.t 21)), none⟩, {}⟩, ⟨⟨some 23, (.fadr 1 (.t 6)), none⟩, {}⟩, ⟨⟨some 24, (.load false 1 (.t 23)), none⟩, {}⟩, ⟨⟨some 25, (.bin .quo (.t 24) (.c (I 3))), none⟩, {}⟩, ⟨⟨some 26,
  (.bslice false 1 [(I 0)] 3 [(0, (.c (I 0))), (1, (.t 22)), (2, (.t 25))]), none⟩, ⟨(.int .i64), none⟩⟩, ⟨⟨some 27, (.call (.c (.fn 17 [])) [(.t 20), (.t 26)]), none⟩, {}⟩, ⟨⟨some 28, (.fadr 3 (.t 6)), none⟩, {}⟩, ⟨⟨none, (.store 1 (.t 28) (.t 27)), none⟩, {}⟩] none) law37_HoistMade_C27)
def law37_HoistMade_C20 : TC := (.seq (.rg [⟨⟨some 18, (.mov (.t 5)), none⟩, {}⟩, ⟨⟨some 19, (.call (.c (.fn 11 [])) [(.t 18)]), none⟩, {}⟩, ⟨⟨some 6, (.alloc [(I 0), (I 0), (I 0), (I 0), (I 0)]), none⟩, {}⟩, ⟨⟨none, (.store 5 (.t 6) (.t 19)), none⟩, {}⟩] none) law37_HoistMade_C24)
def law37_HoistMade_C15 : TC := (.seq (.rg [⟨⟨some 16, (.mov (.t 0)), none⟩, {}⟩, ⟨⟨some 17, (.call (.c (.fn 10 [])) [(.t 16)]), none⟩, {}⟩, ⟨⟨some 5, (.mov (.t 17)), none⟩, {}⟩] none) law37_HoistMade_C20)
def law37_HoistMade_C9 : TC := (.seq (.seq (.rg [⟨⟨some 12, (.mov (.t 0)), none⟩, {}⟩, ⟨⟨some 13, (.call (.c (.fn 8 [])) [(.t 12)]), none⟩, {}⟩, ⟨⟨some 14, (.un .not (.t 13)), none⟩, {}⟩] none) law37_HoistMade_C14) law37_HoistMade_C15)
def law37_HoistMade_C4 : TC := (.seq (.rg [⟨⟨some 4, (.mov (.c (B false))), none⟩, {}⟩] none) law37_HoistMade_C9)
def law37_HoistMade_E (N : Nat) : List (Nat × Ent) := [(8, pureE [(.list (.int .i64))] [.bool] (fun x => made_Light N x)), (9, pureE [] [.bool] (fun x => law37_awake N)), (10, sfE [(false, (.list (.int .i64)))] [.n G_Dice] (fun x => made_Roll N x)), (11, sfE [(true, G_Dice)] [.v G_Hoist] (fun x => law37_made1 N x)), (17, sfE [(true, G_Dice), (false, (.list (.int .i64)))] [.v (.int .i64)] (fun x => made_Dice_Of N x.1 x.2)), (12, pureE [(.int .i64), (.int .i64)] [(.int .i64)] (fun x => made_Mod N x.1 x.2)), (13, pureE [G_Hoist, (.int .i64)] [(.int .i64)] (fun x => hoist_Limit N x.1 x.2)), (21, pureE [G_Hoist, (.int .i64)] [(.int .i64)] (fun x => ref37_Limit N x.1 x.2)), (14, pureE [G_Hoist, (.int .i64)] [(.int .i64)] (fun x => hoist_Stop N x.1 x.2)), (22, pureE [G_Hoist, (.int .i64)] [(.int .i64)] (fun x => ref37_Stop N x.1 x.2)), (19, sfE [(true, G_Dice), (false, (.int .i64))] [.v .bool] (fun x => made_Dice_One N x.1 x.2)), (20, pureE [G_Hoist, G_Ride, (.int .i64)] [.bool] (fun x => law37_agree N x.1 x.2.1 x.2.2)), (15, sfE [(true, G_Dice), (false, (.int .i64))] [.v (.int .i64)] (fun x => made_Dice_Next N x.1 x.2))]
def law37_HoistMade_J1 (N : Nat) (x37 : List Int) (x38 : Int) (x39 : Int) (x40 : Int) (x41 : Int) (x42 : Int) (x43 : Int) (x44 : Int) (x45 : Int) (x46 : Int) (x47 : Int) (x48 : Int) : Option Bool := joinN (run (law37_HoistMade_E N) N 0 law37_HoistMade_C1) N ⟨[(5, .ptr 0 0 0), (6, .ptr 1 0 0), (11, .ptr 2 0 0)], [some (.box 0 [.lst false (.int .i64) x37, .int .i64 x38]), some (.box 0 [.int .i64 x39, .int .i64 x40, .int .i64 x41, .int .i64 x42, .int .i64 x43]), some (.box 0 [.int .i64 x44, .int .i64 x45, .int .i64 x46, .int .i64 x47, .int .i64 x48])]⟩ (fin [(.t 4)] [.bool])
def law37_HoistMade_L1 (N : Nat) (n : Nat) (x6 : Int) (x7 : Int) (x8 : List Int) (x9 : Int) (x10 : Int) (x11 : Int) (x12 : Int) (x13 : Int) (x14 : Int) : Option Bool := loopN (normI 0 law37_HoistMade_N1) (run (law37_HoistMade_E N) N 0 law37_HoistMade_C2) n ⟨[(1, .int .i64 x6), (5, .ptr 0 0 0), (6, .ptr 1 0 0), (7, .int .i64 x7)], [some (.box 0 [.lst false (.int .i64) x8, .int .i64 x9]), some (.box 0 [.int .i64 x10, .int .i64 x11, .int .i64 x12, .int .i64 x13, .int .i64 x14])]⟩ (blkK 0 (seqK (run (law37_HoistMade_E N) N 0 law37_HoistMade_C3) (fin [(.t 4)] [.bool])))
theorem law37_HoistMade_J1_eq (N : Nat) (x37 : List Int) (x38 : Int) (x39 : Int) (x40 : Int) (x41 : Int) (x42 : Int) (x43 : Int) (x44 : Int) (x45 : Int) (x46 : Int) (x47 : Int) (x48 : Int) : law37_HoistMade_J1 (N + 1) x37 x38 x39 x40 x41 x42 x43 x44 x45 x46 x47 x48 =
  Option.bind (law37_awake (N + 1)) fun r49 =>
  bif r49 then
    Option.bind (law37_agree (N + 1) (x44, (x45, (x46, (x47, x48)))) (0, (0, false)) 0) fun r50 =>
    bif r50 then
      Option.bind (made_Dice_Of (N + 1) (x37, x38) [1000, 1001]) fun r51 =>
      Option.bind (made_Dice_Of (N + 1) r51.2 [40000, 40001]) fun r52 =>
      Option.bind (law37_agree (N + 1) (x39, (x40, (x41, (x42, x43)))) (W (x39 + r51.1), (r52.1, false)) 3) fun r53 =>
      some r53
    else
      some false
  else
    some false := by kernel_rfl
theorem law37_HoistMade_L1_zero (N : Nat) (x6 : Int) (x7 : Int) (x8 : List Int) (x9 : Int) (x10 : Int) (x11 : Int) (x12 : Int) (x13 : Int) (x14 : Int) : law37_HoistMade_L1 N 0 x6 x7 x8 x9 x10 x11 x12 x13 x14 = none := rfl
theorem law37_HoistMade_L1_succ (N : Nat) (n1 : Nat) (x6 : Int) (x7 : Int) (x8 : List Int) (x9 : Int) (x10 : Int) (x11 : Int) (x12 : Int) (x13 : Int) (x14 : Int) : law37_HoistMade_L1 N (n1 + 1) x6 x7 x8 x9 x10 x11 x12 x13 x14 =
  bif (decide (x7 < 4)) then
    Option.bind (made_Mod N x6 5000000) fun r15 =>
    Option.bind (made_Dice_Of N (x8, x9) [0, 1, x10, r15, (-7), x6]) fun r16 =>
    Option.bind (made_Mod N x6 80001) fun r17 =>
    Option.bind (hoist_Limit N (x10, (x11, (x12, (x13, x14)))) r16.1) fun r18 =>
    Option.bind (ref37_Limit N (x10, (x11, (x12, (x13, x14)))) r16.1) fun r19 =>
    bif (r18 != r19) then
      some false
    else
      Option.bind (hoist_Stop N (x10, (x11, (x12, (x13, x14)))) (W (r17 - 40000))) fun r20 =>
      Option.bind (ref37_Stop N (x10, (x11, (x12, (x13, x14)))) (W (r17 - 40000))) fun r21 =>
      bif (r20 != r21) then
        some false
      else
        Option.bind (made_Mod N (W (x6 + (W (x7 * 977)))) (W (x10 + 2001))) fun r22 =>
        Option.bind (made_Dice_One N r16.2 3) fun r23 =>
        Option.bind (made_Dice_Of N r23.2 [0, 500, (-500), 1099511627776, (-5000)]) fun r24 =>
        Option.bind (law37_agree N (x10, (x11, (x12, (x13, x14)))) (W (r22 - 1000), (W (r17 - 40000), r23.1)) r24.1) fun r25 =>
        bif (!r25) then
          some false
        else
          law37_HoistMade_L1 N n1 x6 (W (x7 + 1)) r24.2.1 r24.2.2 x10 x11 x12 x13 x14
  else
    Option.bind (made_Dice_Next N (x8, x9) 5) fun r35 =>
    bif (r35.1 == 0) then
      Option.bind (made_Dice_Of N r35.2 [0, 4000001]) fun r36 =>
      law37_HoistMade_J1 N r36.2.1 r36.2.2 x10 x11 x12 x13 x14 r36.1 x11 x12 x13 x14
    else
      bif (r35.1 == 1) then
        Option.bind (made_Dice_Of N r35.2 [0, 20001]) fun r66 =>
        law37_HoistMade_J1 N r66.2.1 r66.2.2 x10 x11 x12 x13 x14 x10 r66.1 x12 x13 x14
      else
        bif (r35.1 == 2) then
          Option.bind (made_Dice_Of N r35.2 [0, 5001]) fun r79 =>
          law37_HoistMade_J1 N r79.2.1 r79.2.2 x10 x11 x12 x13 x14 x10 x11 r79.1 x13 x14
        else
          bif (r35.1 == 3) then
            Option.bind (made_Dice_Of N r35.2 [(-1), W (x11 + 1)]) fun r92 =>
            law37_HoistMade_J1 N r92.2.1 r92.2.2 x10 x11 x12 x13 x14 x10 x11 x12 r92.1 x14
          else
            Option.bind (made_Dice_Of N r35.2 [(-1), 21]) fun r105 =>
            law37_HoistMade_J1 N r105.2.1 r105.2.2 x10 x11 x12 x13 x14 x10 x11 x12 x13 r105.1 := by kernel_rfl
def law37_HoistMade (N : Nat) (a0 : List Int) (a1 : Int) : Option Bool :=
  Option.bind (made_Light N a0) fun r1 =>
  bif (!r1) then
    Option.bind (law37_awake N) fun r2 =>
    some r2
  else
    Option.bind (made_Roll N a0) fun r3 =>
    Option.bind (law37_made1 N r3.1) fun r4 =>
    Option.bind (made_Dice_Of N r4.2 [0, r4.1.2.1, W (r4.1.2.1.tdiv 3)]) fun r5 =>
    law37_HoistMade_L1 N N a1 0 r5.2.1 r5.2.2 r4.1.1 r4.1.2.1 r4.1.2.2.1 r5.1 r4.1.2.2.2.2
theorem law37_HoistMade_fn : FnOK Try.prog 7 134 (fun _ : Nat => false) law37_HoistMade_C4.er [(.t 4)] := FnOK.mk' Try.func7 (by kernel_rfl) (by kernel_rfl) (by kernel_rfl) (by kernel_rfl) (by kernel_rfl)
theorem law37_HoistMade_envok (N : Nat) : EnvOK Try.prog (law37_HoistMade_E N) := .cons (pureE_ok (made_Light_pure N)) (.cons (pureE_ok (law37_awake_pure N)) (.cons (sfE_ok (made_Roll_sf N)) (.cons (sfE_ok (law37_made1_sf N)) (.cons (sfE_ok (made_Dice_Of_sf N)) (.cons (pureE_ok (made_Mod_pure N)) (.cons (pureE_ok (hoist_Limit_pure N)) (.cons (pureE_ok (ref37_Limit_pure N)) (.cons (pureE_ok (hoist_Stop_pure N)) (.cons (pureE_ok (ref37_Stop_pure N)) (.cons (sfE_ok (made_Dice_One_sf N)) (.cons (pureE_ok (law37_agree_pure N)) (.cons (sfE_ok (made_Dice_Next_sf N)) (.nil)))))))))))))
theorem law37_HoistMade_pure (N : Nat) : PureOK Try.prog 7 [(.list (.int .i64)), (.int .i64)] [.bool] (fun x => law37_HoistMade N x.1 x.2) := pureOK (N := N) mixed law37_HoistMade_fn (law37_HoistMade_envok N) rfl (fun x => by kernel_rfl)
end M
end Go.Proofs.Ytjaoghekcifbhaa
