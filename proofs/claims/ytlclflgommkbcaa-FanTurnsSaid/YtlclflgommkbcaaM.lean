/- Plain models of functions of this seat, each checked against the loaded program and the walk by the kernel. No condition: closed facts. Printed by a program of ours. -/
import Derived.Test.YtlclflgommkbcaaPxN
import Derived.Test.YtlclflgommkbcaaRows
set_option linter.all false
namespace Go.Proofs.Ytlclflgommkbcaa
open Go.Pv
namespace M
theorem mixed : Try.prog.follows .mixedOrders = true := Try.checked.mixed
abbrev G_boundsError : GT := (.pair (.int .i64) (.pair (.int .i64) (.pair .bool (.int .u8))))
abbrev T_boundsError := Int × Int × Bool × Int
abbrev D_boundsError : T_boundsError := (0, (0, (false, 0)))
abbrev G_errorAddressString : GT := (.pair .str (.int .u64))
abbrev T_errorAddressString := ByteArray × Int
abbrev D_errorAddressString : T_errorAddressString := (ByteArray.empty, 0)
abbrev G_Point : GT := (.pair (.int .i64) (.int .i64))
abbrev T_Point := Int × Int
abbrev D_Point : T_Point := (0, 0)
abbrev G_Fan : GT := (.pair (.int .i64) (.pair .bool (.pair .bool (.list G_Point))))
abbrev T_Fan := Int × Bool × Bool × List T_Point
abbrev D_Fan : T_Fan := (0, (false, (false, [])))
abbrev G_Codes : GT := (.pair (.list (.int .u8)) (.int .i64))
abbrev T_Codes := (List Int) × Int
abbrev D_Codes : T_Codes := ([], 0)
/-! draw_Mod -/
def draw_Mod_C5 : TC := .ret
def draw_Mod_C3 : TC := (.cond (.t 6) (.seq (.rg [⟨⟨some 4, (.mov (.c (I 0))), none⟩, {}⟩] none) draw_Mod_C5) .skip)
def draw_Mod_C7 : TC := (.cond (.t 11) (.rg [⟨⟨some 12, (.mov (.t 0)), none⟩, {}⟩, ⟨⟨some 13, (.mov (.t 1)), none⟩, {}⟩, ⟨⟨some 14, (.bin .add (.t 12) (.t 13)), none⟩, {}⟩, ⟨⟨some 0, (.mov (.t 14)), none⟩, {}⟩] none) .skip)
def draw_Mod_C9 : TC := .ret
def draw_Mod_C8 : TC := (.seq (.rg [⟨⟨some 15, (.mov (.t 0)), none⟩, {}⟩, ⟨⟨some 4, (.mov (.t 15)), none⟩, {}⟩] none) draw_Mod_C9)
def draw_Mod_C6 : TC := (.seq (.seq (.rg [⟨⟨some 10, (.mov (.t 0)), none⟩, {}⟩, ⟨⟨some 11, (.bin .lss (.t 10) (.c (I 0))), none⟩, {}⟩] none) draw_Mod_C7) draw_Mod_C8)
def draw_Mod_C4 : TC := (.seq (.rg [⟨⟨some 7, (.mov (.t 0)), none⟩, {}⟩, ⟨⟨some 8, (.mov (.t 1)), none⟩, {}⟩, ⟨⟨some 9, (.bin .rem (.t 7) (.t 8)), none⟩, {}⟩, ⟨⟨some 0, (.mov (.t 9)), none⟩, {}⟩] none) draw_Mod_C6)
def draw_Mod_C2 : TC := (.seq (.seq (.rg [⟨⟨some 5, (.mov (.t 1)), none⟩, {}⟩, ⟨⟨some 6, (.bin .lss (.t 5) (.c (I 1))), none⟩, {}⟩] none) draw_Mod_C3) draw_Mod_C4)
def draw_Mod_C1 : TC := (.seq (.rg [⟨⟨some 4, (.mov (.c (I 0))), none⟩, {}⟩] none) draw_Mod_C2)
def draw_Mod_E (N : Nat) : List (Nat × Ent) := []
def draw_Mod (N : Nat) (a0 : Int) (a1 : Int) : Option Int :=
  bif (decide (a1 < 1)) then
    some 0
  else
    bif a1 == 0 then none else
    bif (decide ((a0.tmod a1) < 0)) then
      some (W ((a0.tmod a1) + a1))
    else
      some (a0.tmod a1)
theorem draw_Mod_fn : FnOK Try.prog 13 16 (fun _ : Nat => false) draw_Mod_C1.er [(.t 4)] := FnOK.mk' Try.func13 (by kernel_rfl) (by kernel_rfl) (by kernel_rfl) (by kernel_rfl) (by kernel_rfl)
theorem draw_Mod_envok (N : Nat) : EnvOK Try.prog (draw_Mod_E N) := .nil
theorem draw_Mod_pure (N : Nat) : PureOK Try.prog 13 [(.int .i64), (.int .i64)] [(.int .i64)] (fun x => draw_Mod N x.1 x.2) := pureOK (N := N) mixed draw_Mod_fn (draw_Mod_envok N) rfl (fun x => by kernel_rfl)
/-! draw_New -/
def draw_New_C4 : TC := .ret
def draw_New_C3 : TC := (.pre [.keep [2], .cmp] draw_New_C4)
def draw_New_C2 : TC := (.seq (.rg [⟨⟨some 3, (.mov (.t 0)), none⟩, {}⟩, ⟨⟨some 4, (.mov (.t 0)), none⟩, {}⟩, ⟨⟨some 5, (.len (.t 4)), none⟩, {}⟩, ⟨⟨some 6, (.mm false [(.t 5), (.c (I 300))]), none⟩, {}⟩, ⟨⟨some 7, (.slc 1 (.t 3) none (some (.t 6))), none⟩, {}⟩, ⟨⟨some 8, (.build [(.lst true []), (I 0)] [(0, (1, (.t 7)))]),
  none⟩, {}⟩, ⟨⟨some 9, (.box (.t 8)), none⟩, {}⟩, ⟨⟨some 2, (.mov (.t 9)), none⟩, {}⟩] none) draw_New_C3)
def draw_New_C1 : TC := (.seq (.rg [⟨⟨some 2, (.mov (.c (.v (.pointer none)))), none⟩, {}⟩] none) draw_New_C2)
def draw_New_E (N : Nat) : List (Nat × Ent) := []
def draw_New (N : Nat) (a0 : List Int) : Option (T_Codes × Unit) :=
  let v1 := min (a0.length : Int) 300
  bif slB 0 v1 a0.length then
  some (((a0.take v1.toNat), 0), ())
  else none
theorem draw_New_fn : FnOK Try.prog 18 10 (fun _ : Nat => false) draw_New_C1.er [(.t 2)] := FnOK.mk' Try.func18 (by kernel_rfl) (by kernel_rfl) (by kernel_rfl) (by kernel_rfl) (by kernel_rfl)
theorem draw_New_envok (N : Nat) : EnvOK Try.prog (draw_New_E N) := .nil
theorem draw_New_sf (N : Nat) : SFOK Try.prog 18 [(false, (.list (.int .u8)))] [.n G_Codes] (fun x => draw_New N x) := sfOK (N := N) (p := 0) mixed draw_New_fn (draw_New_envok N) rfl rfl (fun x => by kernel_rfl)
/-! draw_Codes_Next -/
def draw_Codes_Next_C11 : TC := (.rg [⟨⟨some 67, (.mov (.t 0)), none⟩, {}⟩, ⟨⟨some 68, (.nilck (.t 67)), none⟩, {}⟩, ⟨⟨some 69, (.fadr 1 (.t 68)), none⟩, {}⟩, ⟨⟨some 70, (.load false 1 (.t 69)), none⟩, {}⟩, ⟨⟨some 71, (.bin .add (.t 70) (.c (I 1))), none⟩, {}⟩, ⟨⟨some 72, (.nilck (.t 67)), none⟩, {}⟩, ⟨⟨some 73, (.fadr 1 (.t 72)),
  none⟩, {}⟩, ⟨⟨none, (.store 1 (.t 73) (.t 71)), none⟩, {}⟩] none)
def draw_Codes_Next_C8 : TC := (.cond (.t 52) (.seq (.rg [⟨⟨some 53, (.mov (.t 5)), none⟩, {}⟩, ⟨⟨some 54, (.bin .mul (.t 53) (.c (I 256))), none⟩, {}⟩, ⟨⟨some 55, (.mov (.t 0)), none⟩, {}⟩, ⟨⟨some 56, (.nilck (.t 55)), none⟩, {}⟩, ⟨⟨some 57, (.fadr 0 (.t 56)), none⟩, {}⟩, ⟨⟨some 58, (.load false 1 (.t 57)), none⟩, {}⟩, ⟨⟨some 59,
  (.mov (.t 0)), none⟩, {}⟩, ⟨⟨some 60, (.nilck (.t 59)), none⟩, {}⟩, ⟨⟨some 61, (.fadr 1 (.t 60)), none⟩, {}⟩, ⟨⟨some 62, (.load false 1 (.t 61)), none⟩, {}⟩, ⟨⟨some 63, (.iadrS 1 (.t 58) (.t 62)), none⟩, {}⟩, ⟨⟨some 64, (.load false 1 (.t 63)), none⟩, {}⟩, ⟨⟨some 65, (.conv .i64 (.t 64)), none⟩,
  {}⟩, ⟨⟨some 66, (.bin .add (.t 54) (.t 65)), none⟩, {}⟩, ⟨⟨some 5, (.mov (.t 66)), none⟩, {}⟩] (some [])) draw_Codes_Next_C11) .skip)
def draw_Codes_Next_C14 : TC := .ret
def draw_Codes_Next_C12 : TC := (.pre [.frzo 0] draw_Codes_Next_C14)
def draw_Codes_Next_C9 : TC := (.seq (.rg [⟨⟨some 74, (.mov (.t 5)), none⟩, {}⟩, ⟨⟨some 75, (.mov (.t 1)), none⟩, {}⟩, ⟨⟨some 76, (.bin .rem (.t 74) (.t 75)), none⟩, {}⟩, ⟨⟨some 4, (.mov (.t 76)), none⟩, {}⟩] none) draw_Codes_Next_C12)
def draw_Codes_Next_C5 : TC := (.seq (.seq (.rg [⟨⟨some 39, (.mov (.t 1)), none⟩, {}⟩, ⟨⟨some 40, (.bin .gtr (.t 39) (.c (I 256))), none⟩, {}⟩, ⟨⟨some 41, (.mov (.t 40)), none⟩, {}⟩, ⟨⟨some 42, (.mov (.t 0)), some (41, true)⟩, {}⟩, ⟨⟨some 43, (.nilck (.t 42)), some (41, true)⟩, {}⟩, ⟨⟨some 44, (.fadr 1 (.t 43)), some (41, true)⟩,
  {}⟩, ⟨⟨some 45, (.load false 1 (.t 44)), some (41, true)⟩, {}⟩, ⟨⟨some 46, (.mov (.t 0)), some (41, true)⟩, {}⟩, ⟨⟨some 47, (.nilck (.t 46)), some (41, true)⟩, {}⟩, ⟨⟨some 48, (.fadr 0 (.t 47)), some (41, true)⟩, {}⟩, ⟨⟨some 49, (.load false 1 (.t 48)), some (41, true)⟩, {}⟩, ⟨⟨some 50, (.len (.t
  49)), some (41, true)⟩, {}⟩, ⟨⟨some 51, (.bin .lss (.t 45) (.t 50)), some (41, true)⟩, {}⟩, ⟨⟨some 52, (.pick (.t 41) (.t 51) (.c (B false))), none⟩, {}⟩] (some [])) draw_Codes_Next_C8) draw_Codes_Next_C9)
def draw_Codes_Next_C3 : TC := (.seq (.rg [⟨⟨some 27, (.mov (.t 0)), none⟩, {}⟩, ⟨⟨some 28, (.nilck (.t 27)), none⟩, {}⟩, ⟨⟨some 29, (.fadr 0 (.t 28)), none⟩, {}⟩, ⟨⟨some 30, (.load false 1 (.t 29)), none⟩, {}⟩, ⟨⟨some 31, (.mov (.t 0)), none⟩, {}⟩, ⟨⟨some 32, (.nilck (.t 31)), none⟩, {}⟩, ⟨⟨some 33, (.fadr 1 (.t 32)), none⟩, {}⟩,
  ⟨⟨some 34, (.load false 1 (.t 33)), none⟩, {}⟩, ⟨⟨some 35, (.bin .sub (.t 34) (.c (I 1))), none⟩, {}⟩, ⟨⟨some 36, (.iadrS 1 (.t 30) (.t 35)), none⟩, {}⟩, ⟨⟨some 37, (.load false 1 (.t 36)), none⟩, {}⟩, ⟨⟨some 38, (.conv .i64 (.t 37)), none⟩, {}⟩, ⟨⟨some 5, (.mov (.t 38)), none⟩, {}⟩] (some []))
  draw_Codes_Next_C5)
def draw_Codes_Next_C1 : TC := (.seq (.rg [⟨⟨some 20, (.mov (.t 0)), none⟩, {}⟩, ⟨⟨some 21, (.nilck (.t 20)), none⟩, {}⟩, ⟨⟨some 22, (.fadr 1 (.t 21)), none⟩, {}⟩, ⟨⟨some 23, (.load false 1 (.t 22)), none⟩, {}⟩, ⟨⟨some 24, (.bin .add (.t 23) (.c (I 1))), none⟩, {}⟩, ⟨⟨some 25, (.nilck (.t 20)), none⟩, {}⟩, ⟨⟨some 26, (.fadr 1 (.t
  25)), none⟩, {}⟩, ⟨⟨none, (.store 1 (.t 26) (.t 24)), none⟩, {}⟩] none) draw_Codes_Next_C3)
def draw_Codes_Next_C13 : TC := .ret
def draw_Codes_Next_C10 : TC := (.pre [.frzo 0] draw_Codes_Next_C13)
def draw_Codes_Next_C6 : TC := (.cond (.t 19) (.seq (.rg [⟨⟨some 4, (.mov (.c (I 0))), none⟩, {}⟩] none) draw_Codes_Next_C10) .skip)
def draw_Codes_Next_C7 : TC := (.join [.keep [0, 1], .cmp] draw_Codes_Next_C1)
def draw_Codes_Next_C4 : TC := (.seq (.seq (.rg [⟨⟨some 6, (.mov (.t 1)), none⟩, {}⟩, ⟨⟨some 7, (.bin .lss (.t 6) (.c (I 1))), none⟩, {}⟩, ⟨⟨some 8, (.mov (.t 7)), none⟩, {}⟩, ⟨⟨some 9, (.mov (.t 0)), some (8, false)⟩, {}⟩, ⟨⟨some 10, (.nilck (.t 9)), some (8, false)⟩, {}⟩, ⟨⟨some 11, (.fadr 1 (.t 10)), some (8, false)⟩, {}⟩,
  ⟨⟨some 12, (.load false 1 (.t 11)), some (8, false)⟩, {}⟩, ⟨⟨some 13, (.mov (.t 0)), some (8, false)⟩, {}⟩, ⟨⟨some 14, (.nilck (.t 13)), some (8, false)⟩, {}⟩, ⟨⟨some 15, (.fadr 0 (.t 14)), some (8, false)⟩, {}⟩, ⟨⟨some 16, (.load false 1 (.t 15)), some (8, false)⟩, {}⟩, ⟨⟨some 17, (.len (.t 16)),
  some (8, false)⟩, {}⟩, ⟨⟨some 18, (.bin .geq (.t 12) (.t 17)), some (8, false)⟩, {}⟩, ⟨⟨some 19, (.pick (.t 8) (.c (B true)) (.t 18)), none⟩, {}⟩] (some [])) draw_Codes_Next_C6) draw_Codes_Next_C7)
def draw_Codes_Next_C2 : TC := (.seq (.rg [⟨⟨some 4, (.mov (.c (I 0))), none⟩, {}⟩] none) draw_Codes_Next_C4)
def draw_Codes_Next_E (N : Nat) : List (Nat × Ent) := []
def draw_Codes_Next_J1 (N : Nat) (x1 : Int) (x2 : List Int) (x3 : Int) : Option (Int × T_Codes) := joinN (run (draw_Codes_Next_E N) N 1 draw_Codes_Next_C1) N ⟨[(0, .ptr 0 0 0), (1, .int .i64 x1)], [some (.box 0 [.lst false (.int .u8) x2, .int .i64 x3])]⟩ (finS [(.t 4)] [(true, G_Codes), (false, (.int .i64))] [.v (.int .i64)] 1)
theorem draw_Codes_Next_J1_eq (N : Nat) (x1 : Int) (x2 : List Int) (x3 : Int) : draw_Codes_Next_J1 (N + 1) x1 x2 x3 =
  bif inB (W ((W (x3 + 1)) - 1)) x2.length then
  let v4 := x2.getD (W ((W (x3 + 1)) - 1)).toNat 0
  bif (decide (x1 > 256)) then
    bif (decide ((W (x3 + 1)) < (x2.length : Int))) then
      bif inB (W (x3 + 1)) x2.length then
      bif x1 == 0 then none else
      some ((W ((W ((W v4) * 256)) + (W (x2.getD (W (x3 + 1)).toNat 0)))).tmod x1, (x2, W ((W (x3 + 1)) + 1)))
      else none
    else
      bif x1 == 0 then none else
      some ((W v4).tmod x1, (x2, W (x3 + 1)))
  else
    bif x1 == 0 then none else
    some ((W v4).tmod x1, (x2, W (x3 + 1)))
  else none := by kernel_rfl
def draw_Codes_Next (N : Nat) (a0 : T_Codes) (a1 : Int) : Option (Int × T_Codes) :=
  bif (decide (a1 < 1)) then
    some (0, a0)
  else
    bif (decide (a0.2 ≥ (a0.1.length : Int))) then
      some (0, a0)
    else
      draw_Codes_Next_J1 N a1 a0.1 a0.2
theorem draw_Codes_Next_fn : FnOK Try.prog 19 77 (fun _ : Nat => false) draw_Codes_Next_C2.er [(.t 4)] := FnOK.mk' Try.func19 (by kernel_rfl) (by kernel_rfl) (by kernel_rfl) (by kernel_rfl) (by kernel_rfl)
theorem draw_Codes_Next_envok (N : Nat) : EnvOK Try.prog (draw_Codes_Next_E N) := .nil
theorem draw_Codes_Next_sf (N : Nat) : SFOK Try.prog 19 [(true, G_Codes), (false, (.int .i64))] [.v (.int .i64)] (fun x => draw_Codes_Next N x.1 x.2) := sfOK (N := N) (p := 1) mixed draw_Codes_Next_fn (draw_Codes_Next_envok N) rfl rfl (fun x => by kernel_rfl)
/-! draw_Codes_One -/
def draw_Codes_One_C4 : TC := .ret
def draw_Codes_One_C3 : TC := (.pre [.frzo 0] draw_Codes_One_C4)
def draw_Codes_One_C2 : TC := (.seq (.rg [⟨⟨some 5, (.mov (.t 0)), none⟩, {}⟩, ⟨⟨some 6, (.mov (.t 1)), none⟩, {}⟩, ⟨⟨some 7, (.call (.c (.fn 19 [])) [(.t 5), (.t 6)]), none⟩, {}⟩, ⟨⟨some 8, (.mov (.t 1)), none⟩, {}⟩, ⟨⟨some 9, (.bin .sub (.t 8) (.c (I 1))), none⟩, {}⟩, ⟨⟨some 10, (.bin .eql (.t 7) (.t 9)), none⟩, {}⟩, ⟨⟨some 4,
  (.mov (.t 10)), none⟩, {}⟩] none) draw_Codes_One_C3)
def draw_Codes_One_C1 : TC := (.seq (.rg [⟨⟨some 4, (.mov (.c (B false))), none⟩, {}⟩] none) draw_Codes_One_C2)
def draw_Codes_One_E (N : Nat) : List (Nat × Ent) := [(19, sfE [(true, G_Codes), (false, (.int .i64))] [.v (.int .i64)] (fun x => draw_Codes_Next N x.1 x.2))]
def draw_Codes_One (N : Nat) (a0 : T_Codes) (a1 : Int) : Option (Bool × T_Codes) :=
  Option.bind (draw_Codes_Next N a0 a1) fun r1 =>
  some ((r1.1 == (W (a1 - 1))), r1.2)
theorem draw_Codes_One_fn : FnOK Try.prog 20 11 (fun _ : Nat => false) draw_Codes_One_C1.er [(.t 4)] := FnOK.mk' Try.func20 (by kernel_rfl) (by kernel_rfl) (by kernel_rfl) (by kernel_rfl) (by kernel_rfl)
theorem draw_Codes_One_envok (N : Nat) : EnvOK Try.prog (draw_Codes_One_E N) := .cons (sfE_ok (draw_Codes_Next_sf N)) (.nil)
theorem draw_Codes_One_sf (N : Nat) : SFOK Try.prog 20 [(true, G_Codes), (false, (.int .i64))] [.v .bool] (fun x => draw_Codes_One N x.1 x.2) := sfOK (N := N) (p := 1) mixed draw_Codes_One_fn (draw_Codes_One_envok N) rfl rfl (fun x => by kernel_rfl)
/-! draw_Codes_Range -/
def draw_Codes_Range_C4 : TC := .ret
def draw_Codes_Range_C3 : TC := (.pre [.frzo 0] draw_Codes_Range_C4)
def draw_Codes_Range_C2 : TC := (.seq (.rg [⟨⟨some 7, (.mov (.t 1)), none⟩, {}⟩, ⟨⟨some 8, (.mov (.t 0)), none⟩, {}⟩, ⟨⟨some 9, (.mov (.t 2)), none⟩, {}⟩, ⟨⟨some 10, (.mov (.t 1)), none⟩, {}⟩, ⟨⟨some 11, (.bin .sub (.t 9) (.t 10)), none⟩, {}⟩, ⟨⟨some 12, (.bin .add (.t 11) (.c (I 1))), none⟩, {}⟩, ⟨⟨some 13, (.call (.c (.fn 19 []))
  [(.t 8), (.t 12)]), none⟩, {}⟩, ⟨⟨some 14, (.bin .add (.t 7) (.t 13)), none⟩, {}⟩, ⟨⟨some 6, (.mov (.t 14)), none⟩, {}⟩] none) draw_Codes_Range_C3)
def draw_Codes_Range_C1 : TC := (.seq (.rg [⟨⟨some 6, (.mov (.c (I 0))), none⟩, {}⟩] none) draw_Codes_Range_C2)
def draw_Codes_Range_E (N : Nat) : List (Nat × Ent) := [(19, sfE [(true, G_Codes), (false, (.int .i64))] [.v (.int .i64)] (fun x => draw_Codes_Next N x.1 x.2))]
def draw_Codes_Range (N : Nat) (a0 : T_Codes) (a1 : Int) (a2 : Int) : Option (Int × T_Codes) :=
  Option.bind (draw_Codes_Next N a0 (W ((W (a2 - a1)) + 1))) fun r1 =>
  some (W (a1 + r1.1), r1.2)
theorem draw_Codes_Range_fn : FnOK Try.prog 26 15 (fun _ : Nat => false) draw_Codes_Range_C1.er [(.t 6)] := FnOK.mk' Try.func26 (by kernel_rfl) (by kernel_rfl) (by kernel_rfl) (by kernel_rfl) (by kernel_rfl)
theorem draw_Codes_Range_envok (N : Nat) : EnvOK Try.prog (draw_Codes_Range_E N) := .cons (sfE_ok (draw_Codes_Next_sf N)) (.nil)
theorem draw_Codes_Range_sf (N : Nat) : SFOK Try.prog 26 [(true, G_Codes), (false, (.int .i64)), (false, (.int .i64))] [.v (.int .i64)] (fun x => draw_Codes_Range N x.1 x.2.1 x.2.2) := sfOK (N := N) (p := 1) mixed draw_Codes_Range_fn (draw_Codes_Range_envok N) rfl rfl (fun x => by kernel_rfl)
/-! draw_Codes_Curve -/
def draw_Codes_Curve_N1 : List NS := [.own 3 G_Point, .keep [0, 3, 4], .cmp]
def draw_Codes_Curve_C4 : TC := (.cond (.t 15) .skip (.exit 0))
def draw_Codes_Curve_C8 : TC := (.rg [⟨⟨some 24, (.mov (.t 3)), none⟩, {}⟩, ⟨⟨some 25, (.fadr 0 (.t 5)), none⟩, {}⟩, ⟨⟨some 26, (.load false 1 (.t 25)), none⟩, {}⟩, ⟨⟨some 27, (.mov (.t 0)), none⟩, {}⟩, ⟨⟨some 28, (.call (.c (.fn 26 [])) [(.t 27), (.c (I 1)), (.c (I 40))]), none⟩, {}⟩, ⟨⟨some 29, (.bin .add (.t 26) (.t 28)), none⟩,
  {}⟩, ⟨⟨some 30, (.fadr 1 (.t 5)), none⟩, {}⟩, ⟨⟨some 31, (.load false 1 (.t 30)), none⟩, {}⟩, ⟨⟨some 32, (.mov (.t 0)), none⟩, {}⟩, ⟨⟨some 33, (.call (.c (.fn 19 [])) [(.t 32), (.c (I 900))]), none⟩, {}⟩, ⟨⟨some 34, (.bin .sub (.t 31) (.t 33)), none⟩, {}⟩, ⟨⟨some 35, (.mm true [(.c (I 0)), (.t
  34)]), none⟩, {}⟩, ⟨⟨some 36, (.build [(I 0), (I 0)] [(0, (1, (.t 29))), (1, (1, (.t 35)))]), none⟩, {}⟩, ⟨⟨some 37, (.bslice false 2 [(I 0), (I 0)] 1 [(0, (.t 36))]), none⟩, ⟨G_Point, none⟩⟩, ⟨⟨some 38, (.app 2 16 (.t 24) (.t 37)), none⟩, {}⟩, ⟨⟨some 3, (.mov (.t 38)), none⟩, {}⟩] (some [(1, 4),
  (2, 4), (4, 6), (4, 7), (1, 9), (2, 9), (6, 9), (7, 9)]))
def draw_Codes_Curve_C9 : TC := (.rg [⟨⟨some 16, (.mov (.t 4)), none⟩, {}⟩, ⟨⟨some 17, (.bin .sub (.t 16) (.c (I 1))), none⟩, {}⟩, ⟨⟨some 4, (.mov (.t 17)), none⟩, {}⟩] none)
def draw_Codes_Curve_C5 : TC := (.seq (.block 1 (.seq (.rg [⟨⟨some 18, (.mov (.t 3)), none⟩, {}⟩, ⟨⟨some 19, (.mov (.t 3)), none⟩, {}⟩, ⟨⟨some 20, (.len (.t 19)), none⟩, {}⟩, ⟨⟨some 21, (.bin .sub (.t 20) (.c (I 1))), none⟩, {}⟩, ⟨⟨some 22, (.iadrS 2 (.t 18) (.t 21)), none⟩, {}⟩, ⟨⟨some 23, (.load true 2 (.t 22)), none⟩, {}⟩,
  ⟨⟨some 5, (.alloc [(I 0), (I 0)]), none⟩, {}⟩, ⟨⟨none, (.store 2 (.t 5) (.t 23)), none⟩, {}⟩] none) draw_Codes_Curve_C8)) draw_Codes_Curve_C9)
def draw_Codes_Curve_C1 : TC := (.seq (.seq (.rg [⟨⟨some 14, (.mov (.t 4)), none⟩, {}⟩, ⟨⟨some 15, (.bin .gtr (.t 14) (.c (I 0))), none⟩, {}⟩] none) draw_Codes_Curve_C4) draw_Codes_Curve_C5)
def draw_Codes_Curve_C10 : TC := .ret
def draw_Codes_Curve_C6 : TC := (.pre [.own 2 G_Point, .frzo 0, .keep [2], .cmp] draw_Codes_Curve_C10)
def draw_Codes_Curve_C2 : TC := (.seq (.rg [⟨⟨some 39, (.mov (.t 3)), none⟩, {}⟩, ⟨⟨some 2, (.mov (.t 39)), none⟩, {}⟩] none) draw_Codes_Curve_C6)
def draw_Codes_Curve_C12 : TC := (.block 0 (.loop draw_Codes_Curve_N1 draw_Codes_Curve_C1))
def draw_Codes_Curve_C11 : TC := (.seq (.seq (.rg [⟨⟨some 12, (.mov (.t 0)), none⟩, {}⟩, ⟨⟨some 13, (.call (.c (.fn 19 [])) [(.t 12), (.c (I 4))]), none⟩, {}⟩, ⟨⟨some 4, (.mov (.t 13)), none⟩, {}⟩] none) draw_Codes_Curve_C12) draw_Codes_Curve_C2)
def draw_Codes_Curve_C7 : TC := (.seq (.rg [⟨⟨some 6, (.mov (.t 0)), none⟩, {}⟩, ⟨⟨some 7, (.call (.c (.fn 26 [])) [(.t 6), (.c (I (-20))), (.c (I 10))]), none⟩, {}⟩, ⟨⟨some 8, (.mov (.t 0)), none⟩, {}⟩, ⟨⟨some 9, (.call (.c (.fn 26 [])) [(.t 8), (.c (I 500)), (.c (I 3000))]), none⟩, {}⟩, ⟨⟨some 10, (.build [(I 0), (I 0)] [(0, (1,
  (.t 7))), (1, (1, (.t 9)))]), none⟩, {}⟩, ⟨⟨some 11, (.bslice true 2 [(I 0), (I 0)] 1 [(0, (.t 10))]), none⟩, ⟨G_Point, none⟩⟩, ⟨⟨some 3, (.mov (.t 11)), none⟩, {}⟩] none) draw_Codes_Curve_C11)
def draw_Codes_Curve_C3 : TC := (.seq (.rg [⟨⟨some 2, (.mov (.c (.lst true []))), none⟩, {}⟩] none) draw_Codes_Curve_C7)
def draw_Codes_Curve_E (N : Nat) : List (Nat × Ent) := [(26, sfE [(true, G_Codes), (false, (.int .i64)), (false, (.int .i64))] [.v (.int .i64)] (fun x => draw_Codes_Range N x.1 x.2.1 x.2.2)), (19, sfE [(true, G_Codes), (false, (.int .i64))] [.v (.int .i64)] (fun x => draw_Codes_Next N x.1 x.2))]
def draw_Codes_Curve_L1 (N : Nat) (n : Nat) (x4 : Int) (x5 : List Int) (x6 : Int) (x7 : List T_Point) : Option ((List T_Point) × T_Codes) := loopN (normI 1 draw_Codes_Curve_N1) (run (draw_Codes_Curve_E N) N 1 draw_Codes_Curve_C1) n ⟨[(0, .ptr 0 0 0), (3, .whole 1), (4, .int .i64 x4)], [some (.box 0 [.lst false (.int .u8) x5, .int .i64 x6]), some (.arr G_Point x7)]⟩ (blkK 0 (seqK (run (draw_Codes_Curve_E N) N 1 draw_Codes_Curve_C2) (finS [(.t 2)] [(true, G_Codes)] [.o (.a G_Point)] 1)))
theorem draw_Codes_Curve_L1_zero (N : Nat) (x4 : Int) (x5 : List Int) (x6 : Int) (x7 : List T_Point) : draw_Codes_Curve_L1 N 0 x4 x5 x6 x7 = none := rfl
theorem draw_Codes_Curve_L1_succ (N : Nat) (n1 : Nat) (x4 : Int) (x5 : List Int) (x6 : Int) (x7 : List T_Point) : draw_Codes_Curve_L1 N (n1 + 1) x4 x5 x6 x7 =
  bif (decide (x4 > 0)) then
    let v8 := W ((x7.length : Int) - 1)
    bif inB v8 x7.length then
    Option.bind (draw_Codes_Range N (x5, x6) 1 40) fun r10 =>
    Option.bind (draw_Codes_Next N r10.2 900) fun r11 =>
    bif fitsB (x7.length + 1) 16 then
    draw_Codes_Curve_L1 N n1 (W (x4 - 1)) r11.2.1 r11.2.2 (x7 ++ [(W ((x7.getD v8.toNat D_Point).1 + r10.1), max 0 (W ((x7.getD v8.toNat D_Point).2 - r11.1)))])
    else none
    else none
  else
    some (x7, (x5, x6)) := by kernel_rfl
def draw_Codes_Curve (N : Nat) (a0 : T_Codes) : Option ((List T_Point) × T_Codes) :=
  Option.bind (draw_Codes_Range N a0 (-20) 10) fun r1 =>
  Option.bind (draw_Codes_Range N r1.2 500 3000) fun r2 =>
  Option.bind (draw_Codes_Next N r2.2 4) fun r3 =>
  draw_Codes_Curve_L1 N N r3.1 r3.2.1 r3.2.2 [(r1.1, r2.1)]
theorem draw_Codes_Curve_fn : FnOK Try.prog 21 40 (fun t : Nat => Nat.beq t 11) draw_Codes_Curve_C3.er [(.t 2)] := FnOK.mk' Try.func21 (by kernel_rfl) (by kernel_rfl) (by kernel_rfl) (by kernel_rfl) (by kernel_rfl)
theorem draw_Codes_Curve_envok (N : Nat) : EnvOK Try.prog (draw_Codes_Curve_E N) := .cons (sfE_ok (draw_Codes_Range_sf N)) (.cons (sfE_ok (draw_Codes_Next_sf N)) (.nil))
theorem draw_Codes_Curve_sf (N : Nat) : SFOK Try.prog 21 [(true, G_Codes)] [.o (.a G_Point)] (fun x => draw_Codes_Curve N x) := sfOK (N := N) (p := 1) mixed draw_Codes_Curve_fn (draw_Codes_Curve_envok N) rfl rfl (fun x => by kernel_rfl)
/-! law07_made -/
def law07_made_C12 : TC := (.cond (.t 48) (.rg [⟨⟨some 50, (.fadr 3 (.t 8)), none⟩, {}⟩, ⟨⟨some 51, (.load false 1 (.t 50)), none⟩, {}⟩, ⟨⟨some 52, (.fadr 3 (.t 8)), none⟩, {}⟩, ⟨⟨some 53, (.load false 1 (.t 52)), none⟩, {}⟩, ⟨⟨some 54, (.app 2 16 (.t 51) (.t 53)), none⟩, {}⟩, ⟨⟨some 55, (.fadr 3 (.t 8)), none⟩, {}⟩, ⟨⟨none,
  (.store 1 (.t 55) (.t 54)), none⟩, {}⟩] none) .skip)
def law07_made_C11 : TC := (.cond (.t 44) (.rg [⟨⟨some 46, (.mov (.t 2)), none⟩, {}⟩, ⟨⟨some 47, (.fadr 0 (.t 8)), none⟩, {}⟩, ⟨⟨none, (.store 1 (.t 47) (.t 46)), none⟩, {}⟩] none) (.seq (.rg [⟨⟨some 49, (.bin .eql (.t 19) (.c (I 4))), none⟩, {}⟩, ⟨⟨some 48, (.mov (.t 49)), none⟩, {}⟩] none) law07_made_C12))
def law07_made_C9 : TC := (.cond (.t 32) (.rg [⟨⟨some 34, (.fadr 3 (.t 8)), none⟩, {}⟩, ⟨⟨some 35, (.load false 1 (.t 34)), none⟩, {}⟩, ⟨⟨some 36, (.mov (.t 1)), none⟩, {}⟩, ⟨⟨some 37, (.fadr 3 (.t 8)), none⟩, {}⟩, ⟨⟨some 38, (.load false 1 (.t 37)), none⟩, {}⟩, ⟨⟨some 39, (.len (.t 38)), none⟩, {}⟩, ⟨⟨some 40, (.call (.c
  (.fn 13 [])) [(.t 36), (.t 39)]), none⟩, {}⟩, ⟨⟨some 41, (.mov (.t 2)), none⟩, {}⟩, ⟨⟨some 42, (.iadrS 2 (.t 35) (.t 40)), none⟩, {}⟩, ⟨⟨some 43, (.fadr 1 (.t 42)), none⟩, {}⟩, ⟨⟨none, (.store 1 (.t 43) (.t 41)), none⟩, {}⟩] (some [(0, 6), (1, 6)])) (.seq (.rg [⟨⟨some 45, (.bin .eql (.t 19) (.c (I
  3))), none⟩, {}⟩, ⟨⟨some 44, (.mov (.t 45)), none⟩, {}⟩] none) law07_made_C11))
def law07_made_C7 : TC := (.cond (.t 20) (.rg [⟨⟨some 22, (.fadr 3 (.t 8)), none⟩, {}⟩, ⟨⟨some 23, (.load false 1 (.t 22)), none⟩, {}⟩, ⟨⟨some 24, (.mov (.t 1)), none⟩, {}⟩, ⟨⟨some 25, (.fadr 3 (.t 8)), none⟩, {}⟩, ⟨⟨some 26, (.load false 1 (.t 25)), none⟩, {}⟩, ⟨⟨some 27, (.len (.t 26)), none⟩, {}⟩, ⟨⟨some 28, (.call (.c
  (.fn 13 [])) [(.t 24), (.t 27)]), none⟩, {}⟩, ⟨⟨some 29, (.mov (.t 2)), none⟩, {}⟩, ⟨⟨some 30, (.iadrS 2 (.t 23) (.t 28)), none⟩, {}⟩, ⟨⟨some 31, (.fadr 0 (.t 30)), none⟩, {}⟩, ⟨⟨none, (.store 1 (.t 31) (.t 29)), none⟩, {}⟩] (some [(0, 6), (1, 6)])) (.seq (.rg [⟨⟨some 33, (.bin .eql (.t 19) (.c (I
  2))), none⟩, {}⟩, ⟨⟨some 32, (.mov (.t 33)), none⟩, {}⟩] none) law07_made_C9))
def law07_made_C5 : TC := (.block 0 (.seq (.rg [⟨⟨some 21, (.bin .eql (.t 19) (.c (I 1))), none⟩, {}⟩, ⟨⟨some 20, (.mov (.t 21)), none⟩, {}⟩] none) law07_made_C7))
def law07_made_C10 : TC := .ret
def law07_made_C8 : TC := (.pre [.frzb 6] law07_made_C10)
def law07_made_C6 : TC := (.seq (.rg [⟨⟨some 56, (.load true 4 (.t 8)), none⟩, {}⟩, ⟨⟨none, (.store 4 (.t 6) (.t 56)), none⟩, {}⟩] none) law07_made_C8)
def law07_made_C4 : TC := (.seq (.seq (.rg [⟨⟨some 18, (.mov (.t 7)), none⟩, {}⟩, ⟨⟨some 19, (.call (.c (.fn 19 [])) [(.t 18), (.c (I 8))]), none⟩, {}⟩] none) law07_made_C5) law07_made_C6)
def law07_made_C3 : TC := (.seq (.rg [⟨⟨some 11, (.mov (.t 7)), none⟩, {}⟩, ⟨⟨some 12, (.call (.c (.fn 19 [])) [(.t 11), (.c (I 3))]), none⟩, {}⟩, ⟨⟨some 13, (.mov (.t 7)), none⟩, {}⟩, ⟨⟨some 14, (.call (.c (.fn 20 [])) [(.t 13), (.c (I 2))]), none⟩, {}⟩, ⟨⟨some 15, (.mov (.t 7)), none⟩, {}⟩, ⟨⟨some 16, (.call (.c (.fn 21
  [])) [(.t 15)]), none⟩, {}⟩, ⟨⟨some 17, (.build [(I 0), (B false), (B false), (.lst true [])] [(0, (1, (.t 12))), (1, (1, (.t 14))), (3, (1, (.t 16)))]), none⟩, {}⟩, ⟨⟨some 8, (.alloc [(I 0), (B false), (B false), (.lst true [])]), none⟩, {}⟩, ⟨⟨none, (.store 4 (.t 8) (.t 17)), none⟩, {}⟩] none)
  law07_made_C4)
def law07_made_C2 : TC := (.seq (.rg [⟨⟨some 9, (.mov (.t 0)), none⟩, {}⟩, ⟨⟨some 10, (.call (.c (.fn 18 [])) [(.t 9)]), none⟩, {}⟩, ⟨⟨some 7, (.mov (.t 10)), none⟩, {}⟩] none) law07_made_C3)
def law07_made_C1 : TC := (.seq (.rg [⟨⟨some 6, (.alloc [(I 0), (B false), (B false), (.lst true [])]), none⟩, {}⟩] none) law07_made_C2)
def law07_made_E (N : Nat) : List (Nat × Ent) := [(18, sfE [(false, (.list (.int .u8)))] [.n G_Codes] (fun x => draw_New N x)), (19, sfE [(true, G_Codes), (false, (.int .i64))] [.v (.int .i64)] (fun x => draw_Codes_Next N x.1 x.2)), (20, sfE [(true, G_Codes), (false, (.int .i64))] [.v .bool] (fun x => draw_Codes_One N x.1 x.2)), (21, sfE [(true, G_Codes)] [.o (.a G_Point)] (fun x => draw_Codes_Curve N x)), (13, pureE [(.int .i64), (.int .i64)] [(.int .i64)] (fun x => draw_Mod N x.1 x.2))]
def law07_made (N : Nat) (a0 : List Int) (a1 : Int) (a2 : Int) : Option T_Fan :=
  Option.bind (draw_New N a0) fun r1 =>
  Option.bind (draw_Codes_Next N r1.1 3) fun r2 =>
  Option.bind (draw_Codes_One N r2.2 2) fun r3 =>
  Option.bind (draw_Codes_Curve N r3.2) fun r4 =>
  Option.bind (draw_Codes_Next N r4.2 8) fun r5 =>
  bif (r5.1 == 1) then
    Option.bind (draw_Mod N a1 (r4.1.length : Int)) fun r6 =>
    bif inB r6 r4.1.length then
    some (r2.1, (r3.1, (false, (r4.1.set r6.toNat (a2, (r4.1.getD r6.toNat D_Point).2)))))
    else none
  else
    bif (r5.1 == 2) then
      Option.bind (draw_Mod N a1 (r4.1.length : Int)) fun r9 =>
      bif inB r9 r4.1.length then
      some (r2.1, (r3.1, (false, (r4.1.set r9.toNat ((r4.1.getD r9.toNat D_Point).1, a2)))))
      else none
    else
      bif (r5.1 == 3) then
        some (a2, (r3.1, (false, r4.1)))
      else
        bif (r5.1 == 4) then
          bif fitsB (r4.1.length + r4.1.length) 16 then
          some (r2.1, (r3.1, (false, (r4.1 ++ r4.1))))
          else none
        else
          some (r2.1, (r3.1, (false, r4.1)))
theorem law07_made_fn : FnOK Try.prog 9 57 (fun _ : Nat => false) law07_made_C1.er [(.cell 6 true 4)] := FnOK.mk' Try.func9 (by kernel_rfl) (by kernel_rfl) (by kernel_rfl) (by kernel_rfl) (by kernel_rfl)
theorem law07_made_envok (N : Nat) : EnvOK Try.prog (law07_made_E N) := .cons (sfE_ok (draw_New_sf N)) (.cons (sfE_ok (draw_Codes_Next_sf N)) (.cons (sfE_ok (draw_Codes_One_sf N)) (.cons (sfE_ok (draw_Codes_Curve_sf N)) (.cons (pureE_ok (draw_Mod_pure N)) (.nil)))))
theorem law07_made_pure (N : Nat) : PureOK Try.prog 9 [(.list (.int .u8)), (.int .i64), (.int .i64)] [G_Fan] (fun x => law07_made N x.1 x.2.1 x.2.2) := pureOK (N := N) mixed law07_made_fn (law07_made_envok N) rfl (fun x => by kernel_rfl)
/-! fan_Check -/
def fan_Check_N1 : List NS := [.wk 19 (.list G_Point), .keep [1, 19, 20, 21], .cmp]
def fan_Check_C10 : TC := .ret
def fan_Check_C6 : TC := (.cond (.t 69) (.seq (.rg [⟨⟨some 2, (.mov (.c (I 14))), none⟩, {}⟩] none) fan_Check_C10) .skip)
def fan_Check_C1 : TC := (.seq (.rg [⟨⟨some 44, (.mov (.t 3)), none⟩, {}⟩, ⟨⟨some 45, (.bin .gtr (.t 44) (.c (I 0))), none⟩, {}⟩, ⟨⟨some 46, (.mov (.t 45)), none⟩, {}⟩, ⟨⟨some 47, (.fadr 0 (.t 4)), some (46, true)⟩, {}⟩, ⟨⟨some 48, (.load false 1 (.t 47)), some (46, true)⟩, {}⟩, ⟨⟨some 49, (.fadr 3 (.t 1)), some (46, true)⟩,
  {}⟩, ⟨⟨some 50, (.load false 1 (.t 49)), some (46, true)⟩, {}⟩, ⟨⟨some 51, (.mov (.t 3)), some (46, true)⟩, {}⟩, ⟨⟨some 52, (.bin .sub (.t 51) (.c (I 1))), some (46, true)⟩, {}⟩, ⟨⟨some 53, (.iadrS 2 (.t 50) (.t 52)), some (46, true)⟩, {}⟩, ⟨⟨some 54, (.fadr 0 (.t 53)), some (46, true)⟩, {}⟩,
  ⟨⟨some 55, (.load false 1 (.t 54)), some (46, true)⟩, {}⟩, ⟨⟨some 56, (.bin .leq (.t 48) (.t 55)), some (46, true)⟩, {}⟩, ⟨⟨some 57, (.mov (.t 56)), some (46, true)⟩, {}⟩, ⟨⟨some 58, (.fadr 1 (.t 4)), some (57, false)⟩, {}⟩, ⟨⟨some 59, (.load false 1 (.t 58)), some (57, false)⟩, {}⟩, ⟨⟨some 60,
  (.fadr 3 (.t 1)), some (57, false)⟩, {}⟩, ⟨⟨some 61, (.load false 1 (.t 60)), some (57, false)⟩, {}⟩, ⟨⟨some 62, (.mov (.t 3)), some (57, false)⟩, {}⟩, ⟨⟨some 63, (.bin .sub (.t 62) (.c (I 1))), some (57, false)⟩, {}⟩, ⟨⟨some 64, (.iadrS 2 (.t 61) (.t 63)), some (57, false)⟩, {}⟩, ⟨⟨some 65, (.fadr
  1 (.t 64)), some (57, false)⟩, {}⟩, ⟨⟨some 66, (.load false 1 (.t 65)), some (57, false)⟩, {}⟩, ⟨⟨some 67, (.bin .gtr (.t 59) (.t 66)), some (57, false)⟩, {}⟩, ⟨⟨some 68, (.pick (.t 57) (.c (B true)) (.t 67)), some (46, true)⟩, {}⟩, ⟨⟨some 69, (.pick (.t 46) (.t 68) (.c (B false))), none⟩, {}⟩]
  (some [])) fan_Check_C6)
def fan_Check_C2 : TC := (.rg [⟨⟨some 70, (.bin .add (.t 21) (.c (I 1))), none⟩, {}⟩, ⟨⟨some 21, (.mov (.t 70)), none⟩, {}⟩] none)
def fan_Check_C22 : TC := .ret
def fan_Check_C18 : TC := (.cond (.t 43) (.seq (.rg [⟨⟨some 2, (.mov (.c (I 1))), none⟩, {}⟩] none) fan_Check_C22) .skip)
def fan_Check_C19 : TC := (.join [.wk 19 (.list G_Point), .keep [1, 3, 4, 19, 20, 21], .cmp] fan_Check_C1)
def fan_Check_C14 : TC := (.seq (.seq (.rg [⟨⟨some 26, (.fadr 0 (.t 4)), none⟩, {}⟩, ⟨⟨some 27, (.load false 1 (.t 26)), none⟩, {}⟩, ⟨⟨some 28, (.bin .lss (.t 27) (.c (I (-1048576)))), none⟩, {}⟩, ⟨⟨some 29, (.mov (.t 28)), none⟩, {}⟩, ⟨⟨some 30, (.fadr 0 (.t 4)), some (29, false)⟩, {}⟩, ⟨⟨some 31, (.load false 1 (.t 30)),
  some (29, false)⟩, {}⟩, ⟨⟨some 32, (.bin .gtr (.t 31) (.c (I 1048576))), some (29, false)⟩, {}⟩, ⟨⟨some 33, (.pick (.t 29) (.c (B true)) (.t 32)), none⟩, {}⟩, ⟨⟨some 34, (.mov (.t 33)), none⟩, {}⟩, ⟨⟨some 35, (.fadr 1 (.t 4)), some (34, false)⟩, {}⟩, ⟨⟨some 36, (.load false 1 (.t 35)), some (34,
  false)⟩, {}⟩, ⟨⟨some 37, (.bin .lss (.t 36) (.c (I 0))), some (34, false)⟩, {}⟩, ⟨⟨some 38, (.pick (.t 34) (.c (B true)) (.t 37)), none⟩, {}⟩, ⟨⟨some 39, (.mov (.t 38)), none⟩, {}⟩, ⟨⟨some 40, (.fadr 1 (.t 4)), some (39, false)⟩, {}⟩, ⟨⟨some 41, (.load false 1 (.t 40)), some (39, false)⟩, {}⟩,
  ⟨⟨some 42, (.bin .gtr (.t 41) (.c (I 2199023255552))), some (39, false)⟩, {}⟩, ⟨⟨some 43, (.pick (.t 39) (.c (B true)) (.t 42)), none⟩, {}⟩] none) fan_Check_C18) fan_Check_C19)
def fan_Check_C11 : TC := (.seq (.block 1 (.seq (.rg [⟨⟨some 23, (.mov (.t 21)), none⟩, {}⟩, ⟨⟨some 24, (.iadrS 2 (.t 19) (.t 21)), none⟩, {}⟩, ⟨⟨some 25, (.load true 2 (.t 24)), none⟩, {}⟩, ⟨⟨some 4, (.alloc [(I 0), (I 0)]), none⟩, {}⟩, ⟨⟨some 3, (.mov (.t 23)), none⟩, {}⟩, ⟨⟨none, (.store 2 (.t 4) (.t 25)), none⟩, {}⟩]
  none) fan_Check_C14)) fan_Check_C2)
def fan_Check_C7 : TC := (.seq (.cond (.t 22) .skip (.exit 0)) fan_Check_C11)
def fan_Check_C3 : TC := (.seq (.rg [⟨⟨some 22, (.bin .lss (.t 21) (.t 20)), none⟩, {}⟩] none) fan_Check_C7)
def fan_Check_C8 : TC := .ret
def fan_Check_C4 : TC := (.seq (.rg [⟨⟨some 2, (.mov (.c (I 0))), none⟩, {}⟩] none) fan_Check_C8)
def fan_Check_C15 : TC := .ret
def fan_Check_C12 : TC := (.cond (.t 7) (.seq (.rg [⟨⟨some 2, (.mov (.c (I 4))), none⟩, {}⟩] none) fan_Check_C15) .skip)
def fan_Check_C20 : TC := .ret
def fan_Check_C16 : TC := (.cond (.t 17) (.seq (.rg [⟨⟨some 2, (.mov (.c (I 2))), none⟩, {}⟩] none) fan_Check_C20) .skip)
def fan_Check_C21 : TC := (.block 0 (.loop fan_Check_N1 fan_Check_C3))
def fan_Check_C17 : TC := (.seq (.seq (.rg [⟨⟨some 18, (.fadr 3 (.t 1)), none⟩, {}⟩, ⟨⟨some 19, (.load false 1 (.t 18)), none⟩, {}⟩, ⟨⟨some 20, (.len (.t 19)), none⟩, {}⟩, ⟨⟨some 21, (.mov (.c (I 0))), none⟩, {}⟩] none) fan_Check_C21) fan_Check_C4)
def fan_Check_C13 : TC := (.seq (.seq (.rg [⟨⟨some 8, (.fadr 3 (.t 1)), none⟩, {}⟩, ⟨⟨some 9, (.load false 1 (.t 8)), none⟩, {}⟩, ⟨⟨some 10, (.len (.t 9)), none⟩, {}⟩, ⟨⟨some 11, (.bin .lss (.t 10) (.c (I 1))), none⟩, {}⟩, ⟨⟨some 12, (.mov (.t 11)), none⟩, {}⟩, ⟨⟨some 13, (.fadr 3 (.t 1)), some (12, false)⟩, {}⟩, ⟨⟨some 14,
  (.load false 1 (.t 13)), some (12, false)⟩, {}⟩, ⟨⟨some 15, (.len (.t 14)), some (12, false)⟩, {}⟩, ⟨⟨some 16, (.bin .gtr (.t 15) (.c (I 8))), some (12, false)⟩, {}⟩, ⟨⟨some 17, (.pick (.t 12) (.c (B true)) (.t 16)), none⟩, {}⟩] none) fan_Check_C16) fan_Check_C17)
def fan_Check_C9 : TC := (.seq (.seq (.rg [⟨⟨some 5, (.fadr 0 (.t 1)), none⟩, {}⟩, ⟨⟨some 6, (.load false 1 (.t 5)), none⟩, {}⟩, ⟨⟨some 7, (.bin .lss (.t 6) (.c (I 0))), none⟩, {}⟩] none) fan_Check_C12) fan_Check_C13)
def fan_Check_C5 : TC := (.seq (.rg [⟨⟨some 1, (.box (.t 0)), none⟩, {}⟩, ⟨⟨some 2, (.mov (.c (I 0))), none⟩, {}⟩] none) fan_Check_C9)
def fan_Check_E (N : Nat) : List (Nat × Ent) := []
def fan_Check_J1 (N n1 : Nat) (x9 : Int) (x10 : List T_Point) (x11 : Int) (x12 : Int) (x13 : Int) (x14 : Bool) (x15 : Bool) (x16 : List T_Point) (x17 : Int) (x18 : Int) : Option Int := joinN (run (fan_Check_E N) N 0 fan_Check_C1) N ⟨[(1, .ptr 0 0 0), (3, .int .i64 x9), (4, .ptr 1 0 0), (19, .lst false G_Point x10), (20, .int .i64 x11), (21, .int .i64 x12)], [some (.box 0 [.int .i64 x13, .bool x14, .bool x15, .lst false G_Point x16]), some (.box 0 [.int .i64 x17, .int .i64 x18])]⟩ (blkK 1 (seqK (run (fan_Check_E N) N 0 fan_Check_C2) (seqK (nextL (normI 0 fan_Check_N1) (loopN (normI 0 fan_Check_N1) (run (fan_Check_E N) N 0 fan_Check_C3) n1)) (blkK 0 (seqK (run (fan_Check_E N) N 0 fan_Check_C4) (fin [(.t 2)] [(.int .i64)]))))))
def fan_Check_L1 (N : Nat) (n : Nat) (x1 : List T_Point) (x2 : Int) (x3 : Int) (x4 : Int) (x5 : Bool) (x6 : Bool) (x7 : List T_Point) : Option Int := loopN (normI 0 fan_Check_N1) (run (fan_Check_E N) N 0 fan_Check_C3) n ⟨[(1, .ptr 0 0 0), (19, .lst false G_Point x1), (20, .int .i64 x2), (21, .int .i64 x3)], [some (.box 0 [.int .i64 x4, .bool x5, .bool x6, .lst false G_Point x7])]⟩ (blkK 0 (seqK (run (fan_Check_E N) N 0 fan_Check_C4) (fin [(.t 2)] [(.int .i64)])))
theorem fan_Check_J1_eq (N n1 : Nat) (x9 : Int) (x10 : List T_Point) (x11 : Int) (x12 : Int) (x13 : Int) (x14 : Bool) (x15 : Bool) (x16 : List T_Point) (x17 : Int) (x18 : Int) : fan_Check_J1 (N + 1) n1 x9 x10 x11 x12 x13 x14 x15 x16 x17 x18 =
  bif (decide (x9 > 0)) then
    bif inB (W (x9 - 1)) x16.length then
    bif (decide (x17 ≤ (x16.getD (W (x9 - 1)).toNat D_Point).1)) then
      some 14
    else
      bif inB (W (x9 - 1)) x16.length then
      bif (decide (x18 > (x16.getD (W (x9 - 1)).toNat D_Point).2)) then
        some 14
      else
        fan_Check_L1 (N + 1) n1 x10 x11 (W (x12 + 1)) x13 x14 x15 x16
      else none
    else none
  else
    fan_Check_L1 (N + 1) n1 x10 x11 (W (x12 + 1)) x13 x14 x15 x16 := by kernel_rfl
theorem fan_Check_L1_zero (N : Nat) (x1 : List T_Point) (x2 : Int) (x3 : Int) (x4 : Int) (x5 : Bool) (x6 : Bool) (x7 : List T_Point) : fan_Check_L1 N 0 x1 x2 x3 x4 x5 x6 x7 = none := rfl
theorem fan_Check_L1_succ (N : Nat) (n1 : Nat) (x1 : List T_Point) (x2 : Int) (x3 : Int) (x4 : Int) (x5 : Bool) (x6 : Bool) (x7 : List T_Point) : fan_Check_L1 N (n1 + 1) x1 x2 x3 x4 x5 x6 x7 =
  bif (decide (x3 < x2)) then
    bif inB x3 x1.length then
    bif (decide ((x1.getD x3.toNat D_Point).1 < (-1048576))) then
      some 1
    else
      bif (decide ((x1.getD x3.toNat D_Point).1 > 1048576)) then
        some 1
      else
        bif (decide ((x1.getD x3.toNat D_Point).2 < 0)) then
          some 1
        else
          bif (decide ((x1.getD x3.toNat D_Point).2 > 2199023255552)) then
            some 1
          else
            fan_Check_J1 N n1 x3 x1 x2 x3 x4 x5 x6 x7 (x1.getD x3.toNat D_Point).1 (x1.getD x3.toNat D_Point).2
    else none
  else
    some 0 := by kernel_rfl
def fan_Check (N : Nat) (a0 : T_Fan) : Option Int :=
  bif (decide (a0.1 < 0)) then
    some 4
  else
    bif (decide ((a0.2.2.2.length : Int) < 1)) then
      some 2
    else
      bif (decide ((a0.2.2.2.length : Int) > 8)) then
        some 2
      else
        fan_Check_L1 N N a0.2.2.2 (a0.2.2.2.length : Int) 0 a0.1 a0.2.1 a0.2.2.1 a0.2.2.2
theorem fan_Check_fn : FnOK Try.prog 10 71 (fun _ : Nat => false) fan_Check_C5.er [(.t 2)] := FnOK.mk' Try.func10 (by kernel_rfl) (by kernel_rfl) (by kernel_rfl) (by kernel_rfl) (by kernel_rfl)
theorem fan_Check_envok (N : Nat) : EnvOK Try.prog (fan_Check_E N) := .nil
theorem fan_Check_pure (N : Nat) : PureOK Try.prog 10 [G_Fan] [(.int .i64)] (fun x => fan_Check N x) := pureOK (N := N) mixed fan_Check_fn (fan_Check_envok N) rfl (fun x => by kernel_rfl)
/-! ref07_Check -/
def ref07_Check_N1 : List NS := [.keep [1, 3], .cmp]
def ref07_Check_C13 : TC := .ret
def ref07_Check_C7 : TC := (.cond (.t 73) (.seq (.rg [⟨⟨some 2, (.mov (.c (I 14))), none⟩, {}⟩] none) ref07_Check_C13) .skip)
def ref07_Check_C1 : TC := (.seq (.rg [⟨⟨some 48, (.mov (.t 3)), none⟩, {}⟩, ⟨⟨some 49, (.bin .gtr (.t 48) (.c (I 0))), none⟩, {}⟩, ⟨⟨some 50, (.mov (.t 49)), none⟩, {}⟩, ⟨⟨some 51, (.fadr 0 (.t 4)), some (50, true)⟩, {}⟩, ⟨⟨some 52, (.load false 1 (.t 51)), some (50, true)⟩, {}⟩, ⟨⟨some 53, (.fadr 3 (.t 1)), some (50, true)⟩,
  {}⟩, ⟨⟨some 54, (.load false 1 (.t 53)), some (50, true)⟩, {}⟩, ⟨⟨some 55, (.mov (.t 3)), some (50, true)⟩, {}⟩, ⟨⟨some 56, (.bin .sub (.t 55) (.c (I 1))), some (50, true)⟩, {}⟩, ⟨⟨some 57, (.iadrS 2 (.t 54) (.t 56)), some (50, true)⟩, {}⟩, ⟨⟨some 58, (.fadr 0 (.t 57)), some (50, true)⟩, {}⟩,
  ⟨⟨some 59, (.load false 1 (.t 58)), some (50, true)⟩, {}⟩, ⟨⟨some 60, (.bin .leq (.t 52) (.t 59)), some (50, true)⟩, {}⟩, ⟨⟨some 61, (.mov (.t 60)), some (50, true)⟩, {}⟩, ⟨⟨some 62, (.fadr 1 (.t 4)), some (61, false)⟩, {}⟩, ⟨⟨some 63, (.load false 1 (.t 62)), some (61, false)⟩, {}⟩, ⟨⟨some 64,
  (.fadr 3 (.t 1)), some (61, false)⟩, {}⟩, ⟨⟨some 65, (.load false 1 (.t 64)), some (61, false)⟩, {}⟩, ⟨⟨some 66, (.mov (.t 3)), some (61, false)⟩, {}⟩, ⟨⟨some 67, (.bin .sub (.t 66) (.c (I 1))), some (61, false)⟩, {}⟩, ⟨⟨some 68, (.iadrS 2 (.t 65) (.t 67)), some (61, false)⟩, {}⟩, ⟨⟨some 69, (.fadr
  1 (.t 68)), some (61, false)⟩, {}⟩, ⟨⟨some 70, (.load false 1 (.t 69)), some (61, false)⟩, {}⟩, ⟨⟨some 71, (.bin .gtr (.t 63) (.t 70)), some (61, false)⟩, {}⟩, ⟨⟨some 72, (.pick (.t 61) (.c (B true)) (.t 71)), some (50, true)⟩, {}⟩, ⟨⟨some 73, (.pick (.t 50) (.t 72) (.c (B false))), none⟩, {}⟩]
  (some [])) ref07_Check_C7)
def ref07_Check_C2 : TC := (.rg [⟨⟨some 23, (.mov (.t 3)), none⟩, {}⟩, ⟨⟨some 24, (.bin .add (.t 23) (.c (I 1))), none⟩, {}⟩, ⟨⟨some 3, (.mov (.t 24)), none⟩, {}⟩] none)
def ref07_Check_C8 : TC := (.cond (.t 22) .skip (.exit 0))
def ref07_Check_C22 : TC := .ret
def ref07_Check_C17 : TC := (.cond (.t 47) (.seq (.rg [⟨⟨some 2, (.mov (.c (I 1))), none⟩, {}⟩] none) ref07_Check_C22) .skip)
def ref07_Check_C18 : TC := (.join [.keep [1, 3, 4], .cmp] ref07_Check_C1)
def ref07_Check_C14 : TC := (.seq (.seq (.rg [⟨⟨some 30, (.fadr 0 (.t 4)), none⟩, {}⟩, ⟨⟨some 31, (.load false 1 (.t 30)), none⟩, {}⟩, ⟨⟨some 32, (.bin .lss (.t 31) (.c (I (-1048576)))), none⟩, {}⟩, ⟨⟨some 33, (.mov (.t 32)), none⟩, {}⟩, ⟨⟨some 34, (.fadr 0 (.t 4)), some (33, false)⟩, {}⟩, ⟨⟨some 35, (.load false 1 (.t 34)),
  some (33, false)⟩, {}⟩, ⟨⟨some 36, (.bin .gtr (.t 35) (.c (I 1048576))), some (33, false)⟩, {}⟩, ⟨⟨some 37, (.pick (.t 33) (.c (B true)) (.t 36)), none⟩, {}⟩, ⟨⟨some 38, (.mov (.t 37)), none⟩, {}⟩, ⟨⟨some 39, (.fadr 1 (.t 4)), some (38, false)⟩, {}⟩, ⟨⟨some 40, (.load false 1 (.t 39)), some (38,
  false)⟩, {}⟩, ⟨⟨some 41, (.bin .lss (.t 40) (.c (I 0))), some (38, false)⟩, {}⟩, ⟨⟨some 42, (.pick (.t 38) (.c (B true)) (.t 41)), none⟩, {}⟩, ⟨⟨some 43, (.mov (.t 42)), none⟩, {}⟩, ⟨⟨some 44, (.fadr 1 (.t 4)), some (43, false)⟩, {}⟩, ⟨⟨some 45, (.load false 1 (.t 44)), some (43, false)⟩, {}⟩,
  ⟨⟨some 46, (.bin .gtr (.t 45) (.c (I 2199023255552))), some (43, false)⟩, {}⟩, ⟨⟨some 47, (.pick (.t 43) (.c (B true)) (.t 46)), none⟩, {}⟩] none) ref07_Check_C17) ref07_Check_C18)
def ref07_Check_C9 : TC := (.seq (.block 1 (.seq (.rg [⟨⟨some 25, (.fadr 3 (.t 1)), none⟩, {}⟩, ⟨⟨some 26, (.load false 1 (.t 25)), none⟩, {}⟩, ⟨⟨some 27, (.mov (.t 3)), none⟩, {}⟩, ⟨⟨some 28, (.iadrS 2 (.t 26) (.t 27)), none⟩, {}⟩, ⟨⟨some 29, (.load true 2 (.t 28)), none⟩, {}⟩, ⟨⟨some 4, (.alloc [(I 0), (I 0)]), none⟩, {}⟩,
  ⟨⟨none, (.store 2 (.t 4) (.t 29)), none⟩, {}⟩] none) ref07_Check_C14)) ref07_Check_C2)
def ref07_Check_C3 : TC := (.seq (.seq (.rg [⟨⟨some 18, (.mov (.t 3)), none⟩, {}⟩, ⟨⟨some 19, (.fadr 3 (.t 1)), none⟩, {}⟩, ⟨⟨some 20, (.load false 1 (.t 19)), none⟩, {}⟩, ⟨⟨some 21, (.len (.t 20)), none⟩, {}⟩, ⟨⟨some 22, (.bin .lss (.t 18) (.t 21)), none⟩, {}⟩] none) ref07_Check_C8) ref07_Check_C9)
def ref07_Check_C10 : TC := .ret
def ref07_Check_C4 : TC := (.seq (.rg [⟨⟨some 2, (.mov (.c (I 0))), none⟩, {}⟩] none) ref07_Check_C10)
def ref07_Check_C11 : TC := (.block 0 (.loop ref07_Check_N1 ref07_Check_C3))
def ref07_Check_C5 : TC := (.seq (.seq (.rg [⟨⟨some 3, (.mov (.c (I 0))), none⟩, {}⟩] none) ref07_Check_C11) ref07_Check_C4)
def ref07_Check_C19 : TC := .ret
def ref07_Check_C15 : TC := (.cond (.t 7) (.seq (.rg [⟨⟨some 2, (.mov (.c (I 4))), none⟩, {}⟩] none) ref07_Check_C19) .skip)
def ref07_Check_C23 : TC := .ret
def ref07_Check_C20 : TC := (.cond (.t 17) (.seq (.rg [⟨⟨some 2, (.mov (.c (I 2))), none⟩, {}⟩] none) ref07_Check_C23) .skip)
def ref07_Check_C21 : TC := (.join [.keep [1], .cmp] ref07_Check_C5)
def ref07_Check_C16 : TC := (.seq (.seq (.rg [⟨⟨some 8, (.fadr 3 (.t 1)), none⟩, {}⟩, ⟨⟨some 9, (.load false 1 (.t 8)), none⟩, {}⟩, ⟨⟨some 10, (.len (.t 9)), none⟩, {}⟩, ⟨⟨some 11, (.bin .lss (.t 10) (.c (I 1))), none⟩, {}⟩, ⟨⟨some 12, (.mov (.t 11)), none⟩, {}⟩, ⟨⟨some 13, (.fadr 3 (.t 1)), some (12, false)⟩, {}⟩, ⟨⟨some 14,
  (.load false 1 (.t 13)), some (12, false)⟩, {}⟩, ⟨⟨some 15, (.len (.t 14)), some (12, false)⟩, {}⟩, ⟨⟨some 16, (.bin .gtr (.t 15) (.c (I 8))), some (12, false)⟩, {}⟩, ⟨⟨some 17, (.pick (.t 12) (.c (B true)) (.t 16)), none⟩, {}⟩] none) ref07_Check_C20) ref07_Check_C21)
def ref07_Check_C12 : TC := (.seq (.seq (.rg [⟨⟨some 5, (.fadr 0 (.t 1)), none⟩, {}⟩, ⟨⟨some 6, (.load false 1 (.t 5)), none⟩, {}⟩, ⟨⟨some 7, (.bin .lss (.t 6) (.c (I 0))), none⟩, {}⟩] none) ref07_Check_C15) ref07_Check_C16)
def ref07_Check_C6 : TC := (.seq (.rg [⟨⟨some 1, (.box (.t 0)), none⟩, {}⟩, ⟨⟨some 2, (.mov (.c (I 0))), none⟩, {}⟩] none) ref07_Check_C12)
def ref07_Check_E (N : Nat) : List (Nat × Ent) := []
def ref07_Check_J2 (N n1 : Nat) (x11 : Int) (x12 : Int) (x13 : Bool) (x14 : Bool) (x15 : List T_Point) (x16 : Int) (x17 : Int) : Option Int := joinN (run (ref07_Check_E N) N 0 ref07_Check_C1) N ⟨[(1, .ptr 0 0 0), (3, .int .i64 x11), (4, .ptr 1 0 0)], [some (.box 0 [.int .i64 x12, .bool x13, .bool x14, .lst false G_Point x15]), some (.box 0 [.int .i64 x16, .int .i64 x17])]⟩ (blkK 1 (seqK (run (ref07_Check_E N) N 0 ref07_Check_C2) (seqK (nextL (normI 0 ref07_Check_N1) (loopN (normI 0 ref07_Check_N1) (run (ref07_Check_E N) N 0 ref07_Check_C3) n1)) (blkK 0 (seqK (run (ref07_Check_E N) N 0 ref07_Check_C4) (fin [(.t 2)] [(.int .i64)]))))))
def ref07_Check_L1 (N : Nat) (n : Nat) (x5 : Int) (x6 : Int) (x7 : Bool) (x8 : Bool) (x9 : List T_Point) : Option Int := loopN (normI 0 ref07_Check_N1) (run (ref07_Check_E N) N 0 ref07_Check_C3) n ⟨[(1, .ptr 0 0 0), (3, .int .i64 x5)], [some (.box 0 [.int .i64 x6, .bool x7, .bool x8, .lst false G_Point x9])]⟩ (blkK 0 (seqK (run (ref07_Check_E N) N 0 ref07_Check_C4) (fin [(.t 2)] [(.int .i64)])))
def ref07_Check_J1 (N : Nat) (x1 : Int) (x2 : Bool) (x3 : Bool) (x4 : List T_Point) : Option Int := joinN (run (ref07_Check_E N) N 0 ref07_Check_C5) N ⟨[(1, .ptr 0 0 0)], [some (.box 0 [.int .i64 x1, .bool x2, .bool x3, .lst false G_Point x4])]⟩ (fin [(.t 2)] [(.int .i64)])
theorem ref07_Check_J2_eq (N n1 : Nat) (x11 : Int) (x12 : Int) (x13 : Bool) (x14 : Bool) (x15 : List T_Point) (x16 : Int) (x17 : Int) : ref07_Check_J2 (N + 1) n1 x11 x12 x13 x14 x15 x16 x17 =
  bif (decide (x11 > 0)) then
    bif inB (W (x11 - 1)) x15.length then
    bif (decide (x16 ≤ (x15.getD (W (x11 - 1)).toNat D_Point).1)) then
      some 14
    else
      bif inB (W (x11 - 1)) x15.length then
      bif (decide (x17 > (x15.getD (W (x11 - 1)).toNat D_Point).2)) then
        some 14
      else
        ref07_Check_L1 (N + 1) n1 (W (x11 + 1)) x12 x13 x14 x15
      else none
    else none
  else
    ref07_Check_L1 (N + 1) n1 (W (x11 + 1)) x12 x13 x14 x15 := by kernel_rfl
theorem ref07_Check_L1_zero (N : Nat) (x5 : Int) (x6 : Int) (x7 : Bool) (x8 : Bool) (x9 : List T_Point) : ref07_Check_L1 N 0 x5 x6 x7 x8 x9 = none := rfl
theorem ref07_Check_L1_succ (N : Nat) (n1 : Nat) (x5 : Int) (x6 : Int) (x7 : Bool) (x8 : Bool) (x9 : List T_Point) : ref07_Check_L1 N (n1 + 1) x5 x6 x7 x8 x9 =
  bif (decide (x5 < (x9.length : Int))) then
    bif inB x5 x9.length then
    bif (decide ((x9.getD x5.toNat D_Point).1 < (-1048576))) then
      some 1
    else
      bif (decide ((x9.getD x5.toNat D_Point).1 > 1048576)) then
        some 1
      else
        bif (decide ((x9.getD x5.toNat D_Point).2 < 0)) then
          some 1
        else
          bif (decide ((x9.getD x5.toNat D_Point).2 > 2199023255552)) then
            some 1
          else
            ref07_Check_J2 N n1 x5 x6 x7 x8 x9 (x9.getD x5.toNat D_Point).1 (x9.getD x5.toNat D_Point).2
    else none
  else
    some 0 := by kernel_rfl
theorem ref07_Check_J1_eq (N : Nat) (x1 : Int) (x2 : Bool) (x3 : Bool) (x4 : List T_Point) : ref07_Check_J1 (N + 1) x1 x2 x3 x4 =
  ref07_Check_L1 (N + 1) (N + 1) 0 x1 x2 x3 x4 := by kernel_rfl
def ref07_Check (N : Nat) (a0 : T_Fan) : Option Int :=
  bif (decide (a0.1 < 0)) then
    some 4
  else
    bif (decide ((a0.2.2.2.length : Int) < 1)) then
      some 2
    else
      bif (decide ((a0.2.2.2.length : Int) > 8)) then
        some 2
      else
        ref07_Check_J1 N a0.1 a0.2.1 a0.2.2.1 a0.2.2.2
theorem ref07_Check_fn : FnOK Try.prog 11 74 (fun _ : Nat => false) ref07_Check_C6.er [(.t 2)] := FnOK.mk' Try.func11 (by kernel_rfl) (by kernel_rfl) (by kernel_rfl) (by kernel_rfl) (by kernel_rfl)
theorem ref07_Check_envok (N : Nat) : EnvOK Try.prog (ref07_Check_E N) := .nil
theorem ref07_Check_pure (N : Nat) : PureOK Try.prog 11 [G_Fan] [(.int .i64)] (fun x => ref07_Check N x) := pureOK (N := N) mixed ref07_Check_fn (ref07_Check_envok N) rfl (fun x => by kernel_rfl)
/-! math_bits_Mul64 -/
def math_bits_Mul64_C13 : TC := .ret
def math_bits_Mul64_C12 : TC := (.seq (.rg [⟨⟨some 48, (.mov (.t 0)), none⟩, {}⟩, ⟨⟨some 49, (.mov (.t 1)), none⟩, {}⟩, ⟨⟨some 50, (.bin .mul (.t 48) (.t 49)), none⟩, {}⟩, ⟨⟨some 5, (.mov (.t 50)), none⟩, {}⟩] none) math_bits_Mul64_C13)
def math_bits_Mul64_C11 : TC := (.seq (.rg [⟨⟨some 40, (.mov (.t 7)), none⟩, {}⟩, ⟨⟨some 41, (.mov (.t 9)), none⟩, {}⟩, ⟨⟨some 42, (.bin .mul (.t 40) (.t 41)), none⟩, {}⟩, ⟨⟨some 43, (.mov (.t 13)), none⟩, {}⟩, ⟨⟨some 44, (.bin .add (.t 42) (.t 43)), none⟩, {}⟩, ⟨⟨some 45, (.mov (.t 12)), none⟩, {}⟩, ⟨⟨some 46, (.bin .shr (.t 45)
  (.c (.v (.int .u64 32)))), none⟩, {}⟩, ⟨⟨some 47, (.bin .add (.t 44) (.t 46)), none⟩, {}⟩, ⟨⟨some 4, (.mov (.t 47)), none⟩, {}⟩] none) math_bits_Mul64_C12)
def math_bits_Mul64_C10 : TC := (.seq (.rg [⟨⟨some 35, (.mov (.t 12)), none⟩, {}⟩, ⟨⟨some 36, (.mov (.t 6)), none⟩, {}⟩, ⟨⟨some 37, (.mov (.t 9)), none⟩, {}⟩, ⟨⟨some 38, (.bin .mul (.t 36) (.t 37)), none⟩, {}⟩, ⟨⟨some 39, (.bin .add (.t 35) (.t 38)), none⟩, {}⟩, ⟨⟨some 12, (.mov (.t 39)), none⟩, {}⟩] none) math_bits_Mul64_C11)
def math_bits_Mul64_C9 : TC := (.seq (.rg [⟨⟨some 33, (.mov (.t 11)), none⟩, {}⟩, ⟨⟨some 34, (.bin .shr (.t 33) (.c (.v (.int .u64 32)))), none⟩, {}⟩, ⟨⟨some 13, (.mov (.t 34)), none⟩, {}⟩] none) math_bits_Mul64_C10)
def math_bits_Mul64_C8 : TC := (.seq (.rg [⟨⟨some 31, (.mov (.t 11)), none⟩, {}⟩, ⟨⟨some 32, (.bin .and (.t 31) (.c (.v (.int .u64 4294967295)))), none⟩, {}⟩, ⟨⟨some 12, (.mov (.t 32)), none⟩, {}⟩] none) math_bits_Mul64_C9)
def math_bits_Mul64_C7 : TC := (.seq (.rg [⟨⟨some 25, (.mov (.t 7)), none⟩, {}⟩, ⟨⟨some 26, (.mov (.t 8)), none⟩, {}⟩, ⟨⟨some 27, (.bin .mul (.t 25) (.t 26)), none⟩, {}⟩, ⟨⟨some 28, (.mov (.t 10)), none⟩, {}⟩, ⟨⟨some 29, (.bin .shr (.t 28) (.c (.v (.int .u64 32)))), none⟩, {}⟩, ⟨⟨some 30, (.bin .add (.t 27) (.t 29)), none⟩, {}⟩,
  ⟨⟨some 11, (.mov (.t 30)), none⟩, {}⟩] none) math_bits_Mul64_C8)
def math_bits_Mul64_C6 : TC := (.seq (.rg [⟨⟨some 22, (.mov (.t 6)), none⟩, {}⟩, ⟨⟨some 23, (.mov (.t 8)), none⟩, {}⟩, ⟨⟨some 24, (.bin .mul (.t 22) (.t 23)), none⟩, {}⟩, ⟨⟨some 10, (.mov (.t 24)), none⟩, {}⟩] none) math_bits_Mul64_C7)
def math_bits_Mul64_C5 : TC := (.seq (.rg [⟨⟨some 20, (.mov (.t 1)), none⟩, {}⟩, ⟨⟨some 21, (.bin .shr (.t 20) (.c (.v (.int .u64 32)))), none⟩, {}⟩, ⟨⟨some 9, (.mov (.t 21)), none⟩, {}⟩] none) math_bits_Mul64_C6)
def math_bits_Mul64_C4 : TC := (.seq (.rg [⟨⟨some 18, (.mov (.t 1)), none⟩, {}⟩, ⟨⟨some 19, (.bin .and (.t 18) (.c (.v (.int .u64 4294967295)))), none⟩, {}⟩, ⟨⟨some 8, (.mov (.t 19)), none⟩, {}⟩] none) math_bits_Mul64_C5)
def math_bits_Mul64_C3 : TC := (.seq (.rg [⟨⟨some 16, (.mov (.t 0)), none⟩, {}⟩, ⟨⟨some 17, (.bin .shr (.t 16) (.c (.v (.int .u64 32)))), none⟩, {}⟩, ⟨⟨some 7, (.mov (.t 17)), none⟩, {}⟩] none) math_bits_Mul64_C4)
def math_bits_Mul64_C2 : TC := (.seq (.rg [⟨⟨some 14, (.mov (.t 0)), none⟩, {}⟩, ⟨⟨some 15, (.bin .and (.t 14) (.c (.v (.int .u64 4294967295)))), none⟩, {}⟩, ⟨⟨some 6, (.mov (.t 15)), none⟩, {}⟩] none) math_bits_Mul64_C3)
def math_bits_Mul64_C1 : TC := (.seq (.rg [⟨⟨some 4, (.mov (.c (.v (.int .u64 0)))), none⟩, {}⟩, ⟨⟨some 5, (.mov (.c (.v (.int .u64 0)))), none⟩, {}⟩] none) math_bits_Mul64_C2)
def math_bits_Mul64_E (N : Nat) : List (Nat × Ent) := []
def math_bits_Mul64 (N : Nat) (a0 : Int) (a1 : Int) : Option (Int × Int) :=
  let v1 := IntKind.u64.wrap (BitVec.ofInt IntKind.u64.bits a0 &&& BitVec.ofInt IntKind.u64.bits 4294967295).toNat
  let v2 := a0.fdiv (2 ^ (min (32 : Int).toNat IntKind.u64.bits))
  let v3 := IntKind.u64.wrap (BitVec.ofInt IntKind.u64.bits a1 &&& BitVec.ofInt IntKind.u64.bits 4294967295).toNat
  let v4 := a1.fdiv (2 ^ (min (32 : Int).toNat IntKind.u64.bits))
  let v8 := IntKind.u64.wrap ((IntKind.u64.wrap (v2 * v3)) + ((IntKind.u64.wrap (v1 * v3)).fdiv (2 ^ (min (32 : Int).toNat IntKind.u64.bits))))
  some ((IntKind.u64.wrap ((IntKind.u64.wrap ((IntKind.u64.wrap (v2 * v4)) + (v8.fdiv (2 ^ (min (32 : Int).toNat IntKind.u64.bits))))) + ((IntKind.u64.wrap ((IntKind.u64.wrap (BitVec.ofInt IntKind.u64.bits v8 &&& BitVec.ofInt IntKind.u64.bits 4294967295).toNat) + (IntKind.u64.wrap (v1 * v4)))).fdiv (2 ^ (min (32 : Int).toNat IntKind.u64.bits))))), (IntKind.u64.wrap (a0 * a1)))
theorem math_bits_Mul64_fn : FnOK Try.prog 32 51 (fun _ : Nat => false) math_bits_Mul64_C1.er [(.t 4), (.t 5)] := FnOK.mk' Try.func32 (by kernel_rfl) (by kernel_rfl) (by kernel_rfl) (by kernel_rfl) (by kernel_rfl)
theorem math_bits_Mul64_envok (N : Nat) : EnvOK Try.prog (math_bits_Mul64_E N) := .nil
theorem math_bits_Mul64_pure (N : Nat) : PureOK Try.prog 32 [(.int .u64), (.int .u64)] [(.int .u64), (.int .u64)] (fun x => math_bits_Mul64 N x.1 x.2) := pureOK (N := N) mixed math_bits_Mul64_fn (math_bits_Mul64_envok N) rfl (fun x => by kernel_rfl)
/-! math_bits_Len64 -/
def math_bits_Len64_C5 : TC := (.rg [⟨⟨some 2, (.mov (.c (I 32))), none⟩, {}⟩] none)
def math_bits_Len64_C3 : TC := (.cond (.t 4) (.seq (.rg [⟨⟨some 5, (.mov (.t 0)), none⟩, {}⟩, ⟨⟨some 6, (.bin .shr (.t 5) (.c (.v (.int .u64 32)))), none⟩, {}⟩, ⟨⟨some 0, (.mov (.t 6)), none⟩, {}⟩] none) math_bits_Len64_C5) .skip)
def math_bits_Len64_C8 : TC := (.rg [⟨⟨some 11, (.mov (.t 2)), none⟩, {}⟩, ⟨⟨some 12, (.bin .add (.t 11) (.c (I 16))), none⟩, {}⟩, ⟨⟨some 2, (.mov (.t 12)), none⟩, {}⟩] none)
def math_bits_Len64_C6 : TC := (.cond (.t 8) (.seq (.rg [⟨⟨some 9, (.mov (.t 0)), none⟩, {}⟩, ⟨⟨some 10, (.bin .shr (.t 9) (.c (.v (.int .u64 16)))), none⟩, {}⟩, ⟨⟨some 0, (.mov (.t 10)), none⟩, {}⟩] none) math_bits_Len64_C8) .skip)
def math_bits_Len64_C11 : TC := (.rg [⟨⟨some 17, (.mov (.t 2)), none⟩, {}⟩, ⟨⟨some 18, (.bin .add (.t 17) (.c (I 8))), none⟩, {}⟩, ⟨⟨some 2, (.mov (.t 18)), none⟩, {}⟩] none)
def math_bits_Len64_C9 : TC := (.cond (.t 14) (.seq (.rg [⟨⟨some 15, (.mov (.t 0)), none⟩, {}⟩, ⟨⟨some 16, (.bin .shr (.t 15) (.c (.v (.int .u64 8)))), none⟩, {}⟩, ⟨⟨some 0, (.mov (.t 16)), none⟩, {}⟩] none) math_bits_Len64_C11) .skip)
def math_bits_Len64_C12 : TC := .ret
def math_bits_Len64_C10 : TC := (.seq .bad math_bits_Len64_C12)
def math_bits_Len64_C7 : TC := (.seq (.seq (.rg [⟨⟨some 13, (.mov (.t 0)), none⟩, {}⟩, ⟨⟨some 14, (.bin .geq (.t 13) (.c (.v (.int .u64 256)))), none⟩, {}⟩] none) math_bits_Len64_C9) math_bits_Len64_C10)
def math_bits_Len64_C4 : TC := (.seq (.seq (.rg [⟨⟨some 7, (.mov (.t 0)), none⟩, {}⟩, ⟨⟨some 8, (.bin .geq (.t 7) (.c (.v (.int .u64 65536)))), none⟩, {}⟩] none) math_bits_Len64_C6) math_bits_Len64_C7)
def math_bits_Len64_C2 : TC := (.seq (.seq (.rg [⟨⟨some 3, (.mov (.t 0)), none⟩, {}⟩, ⟨⟨some 4, (.bin .geq (.t 3) (.c (.v (.int .u64 4294967296)))), none⟩, {}⟩] none) math_bits_Len64_C3) math_bits_Len64_C4)
def math_bits_Len64_C1 : TC := (.seq (.rg [⟨⟨some 2, (.mov (.c (I 0))), none⟩, {}⟩] none) math_bits_Len64_C2)
def math_bits_Len64_E (N : Nat) : List (Nat × Ent) := []
def math_bits_Len64 (N : Nat) (a0 : Int) : Option Int :=
  bif (decide (a0 ≥ 4294967296)) then
    let v1 := a0.fdiv (2 ^ (min (32 : Int).toNat IntKind.u64.bits))
    bif (decide (v1 ≥ 65536)) then
      bif (decide ((v1.fdiv (2 ^ (min (16 : Int).toNat IntKind.u64.bits))) ≥ 256)) then
        none
      else
        none
    else
      bif (decide (v1 ≥ 256)) then
        none
      else
        none
  else
    bif (decide (a0 ≥ 65536)) then
      bif (decide ((a0.fdiv (2 ^ (min (16 : Int).toNat IntKind.u64.bits))) ≥ 256)) then
        none
      else
        none
    else
      bif (decide (a0 ≥ 256)) then
        none
      else
        none
theorem math_bits_Len64_fn : FnOK Try.prog 35 25 (fun _ : Nat => false) math_bits_Len64_C1.er [(.t 2)] := FnOK.mk' Try.func35 (by kernel_rfl) (by kernel_rfl) (by kernel_rfl) (by kernel_rfl) (by kernel_rfl)
theorem math_bits_Len64_envok (N : Nat) : EnvOK Try.prog (math_bits_Len64_E N) := .nil
theorem math_bits_Len64_pure (N : Nat) : PureOK Try.prog 35 [(.int .u64)] [(.int .i64)] (fun x => math_bits_Len64 N x) := pureOK (N := N) mixed math_bits_Len64_fn (math_bits_Len64_envok N) rfl (fun x => by kernel_rfl)
/-! math_bits_LeadingZeros64 -/
def math_bits_LeadingZeros64_C3 : TC := .ret
def math_bits_LeadingZeros64_C2 : TC := (.seq (.rg [⟨⟨some 3, (.mov (.t 0)), none⟩, {}⟩, ⟨⟨some 4, (.call (.c (.fn 35 [])) [(.t 3)]), none⟩, {}⟩, ⟨⟨some 5, (.bin .sub (.c (I 64)) (.t 4)), none⟩, {}⟩, ⟨⟨some 2, (.mov (.t 5)), none⟩, {}⟩] none) math_bits_LeadingZeros64_C3)
def math_bits_LeadingZeros64_C1 : TC := (.seq (.rg [⟨⟨some 2, (.mov (.c (I 0))), none⟩, {}⟩] none) math_bits_LeadingZeros64_C2)
def math_bits_LeadingZeros64_E (N : Nat) : List (Nat × Ent) := [(35, pureE [(.int .u64)] [(.int .i64)] (fun x => math_bits_Len64 N x))]
def math_bits_LeadingZeros64 (N : Nat) (a0 : Int) : Option Int :=
  Option.bind (math_bits_Len64 N a0) fun r1 =>
  some (W (64 - r1))
theorem math_bits_LeadingZeros64_fn : FnOK Try.prog 34 6 (fun _ : Nat => false) math_bits_LeadingZeros64_C1.er [(.t 2)] := FnOK.mk' Try.func34 (by kernel_rfl) (by kernel_rfl) (by kernel_rfl) (by kernel_rfl) (by kernel_rfl)
theorem math_bits_LeadingZeros64_envok (N : Nat) : EnvOK Try.prog (math_bits_LeadingZeros64_E N) := .cons (pureE_ok (math_bits_Len64_pure N)) (.nil)
theorem math_bits_LeadingZeros64_pure (N : Nat) : PureOK Try.prog 34 [(.int .u64)] [(.int .i64)] (fun x => math_bits_LeadingZeros64 N x) := pureOK (N := N) mixed math_bits_LeadingZeros64_fn (math_bits_LeadingZeros64_envok N) rfl (fun x => by kernel_rfl)
/-! math_bits_Div64 -/
def math_bits_Div64_N1 : List NS := [.keep [2, 8, 9, 10, 11, 13, 14, 15, 16], .cmp]
def math_bits_Div64_N2 : List NS := [.keep [2, 8, 9, 10, 14, 15, 16, 17, 18], .cmp]
def math_bits_Div64_C7 : TC := (.cond (.t 113) .skip (.exit 2))
def math_bits_Div64_C24 : TC := (.cond (.t 120) (.exit 2) .skip)
def math_bits_Div64_C19 : TC := (.seq (.rg [⟨⟨some 119, (.mov (.t 16)), none⟩, {}⟩, ⟨⟨some 120, (.bin .geq (.t 119) (.c (.v (.int .u64 4294967296)))), none⟩, {}⟩] none) math_bits_Div64_C24)
def math_bits_Div64_C14 : TC := (.seq (.rg [⟨⟨some 116, (.mov (.t 16)), none⟩, {}⟩, ⟨⟨some 117, (.mov (.t 9)), none⟩, {}⟩, ⟨⟨some 118, (.bin .add (.t 116) (.t 117)), none⟩, {}⟩, ⟨⟨some 16, (.mov (.t 118)), none⟩, {}⟩] none) math_bits_Div64_C19)
def math_bits_Div64_C8 : TC := (.block 3 (.seq (.rg [⟨⟨some 114, (.mov (.t 18)), none⟩, {}⟩, ⟨⟨some 115, (.bin .sub (.t 114) (.c (.v (.int .u64 1)))), none⟩, {}⟩, ⟨⟨some 18, (.mov (.t 115)), none⟩, {}⟩] none) math_bits_Div64_C14))
def math_bits_Div64_C1 : TC := (.seq (.seq (.rg [⟨⟨some 102, (.mov (.t 18)), none⟩, {}⟩, ⟨⟨some 103, (.bin .geq (.t 102) (.c (.v (.int .u64 4294967296)))), none⟩, {}⟩, ⟨⟨some 104, (.mov (.t 103)), none⟩, {}⟩, ⟨⟨some 105, (.mov (.t 18)), some (104, false)⟩, {}⟩, ⟨⟨some 106, (.mov (.t 10)), some (104, false)⟩, {}⟩, ⟨⟨some 107, (.bin
  .mul (.t 105) (.t 106)), some (104, false)⟩, {}⟩, ⟨⟨some 108, (.mov (.t 16)), some (104, false)⟩, {}⟩, ⟨⟨some 109, (.bin .mul (.c (.v (.int .u64 4294967296))) (.t 108)), some (104, false)⟩, {}⟩, ⟨⟨some 110, (.mov (.t 14)), some (104, false)⟩, {}⟩, ⟨⟨some 111, (.bin .add (.t 109) (.t 110)), some
  (104, false)⟩, {}⟩, ⟨⟨some 112, (.bin .gtr (.t 107) (.t 111)), some (104, false)⟩, {}⟩, ⟨⟨some 113, (.pick (.t 104) (.c (B true)) (.t 112)), none⟩, {}⟩] none) math_bits_Div64_C7) math_bits_Div64_C8)
def math_bits_Div64_C9 : TC := .ret
def math_bits_Div64_C2 : TC := (.seq (.rg [⟨⟨some 121, (.mov (.t 15)), none⟩, {}⟩, ⟨⟨some 122, (.bin .mul (.t 121) (.c (.v (.int .u64 4294967296)))), none⟩, {}⟩, ⟨⟨some 123, (.mov (.t 18)), none⟩, {}⟩, ⟨⟨some 124, (.bin .add (.t 122) (.t 123)), none⟩, {}⟩, ⟨⟨some 125, (.mov (.t 17)), none⟩, {}⟩, ⟨⟨some 126, (.bin .mul (.t 125) (.c
  (.v (.int .u64 4294967296)))), none⟩, {}⟩, ⟨⟨some 127, (.mov (.t 14)), none⟩, {}⟩, ⟨⟨some 128, (.bin .add (.t 126) (.t 127)), none⟩, {}⟩, ⟨⟨some 129, (.mov (.t 18)), none⟩, {}⟩, ⟨⟨some 130, (.mov (.t 2)), none⟩, {}⟩, ⟨⟨some 131, (.bin .mul (.t 129) (.t 130)), none⟩, {}⟩, ⟨⟨some 132, (.bin .sub (.t
  128) (.t 131)), none⟩, {}⟩, ⟨⟨some 133, (.mov (.t 8)), none⟩, {}⟩, ⟨⟨some 134, (.bin .shr (.t 132) (.t 133)), none⟩, {}⟩, ⟨⟨some 6, (.mov (.t 124)), none⟩, {}⟩, ⟨⟨some 7, (.mov (.t 134)), none⟩, {}⟩] none) math_bits_Div64_C9)
def math_bits_Div64_C20 : TC := (.seq (.block 2 (.loop math_bits_Div64_N2 math_bits_Div64_C1)) math_bits_Div64_C2)
def math_bits_Div64_C15 : TC := (.seq (.rg [⟨⟨some 97, (.mov (.t 17)), none⟩, {}⟩, ⟨⟨some 98, (.mov (.t 18)), none⟩, {}⟩, ⟨⟨some 99, (.mov (.t 9)), none⟩, {}⟩, ⟨⟨some 100, (.bin .mul (.t 98) (.t 99)), none⟩, {}⟩, ⟨⟨some 101, (.bin .sub (.t 97) (.t 100)), none⟩, {}⟩, ⟨⟨some 16, (.mov (.t 101)), none⟩, {}⟩] none) math_bits_Div64_C20)
def math_bits_Div64_C10 : TC := (.seq (.rg [⟨⟨some 94, (.mov (.t 17)), none⟩, {}⟩, ⟨⟨some 95, (.mov (.t 9)), none⟩, {}⟩, ⟨⟨some 96, (.bin .quo (.t 94) (.t 95)), none⟩, {}⟩, ⟨⟨some 18, (.mov (.t 96)), none⟩, {}⟩] none) math_bits_Div64_C15)
def math_bits_Div64_C3 : TC := (.seq (.rg [⟨⟨some 86, (.mov (.t 11)), none⟩, {}⟩, ⟨⟨some 87, (.bin .mul (.t 86) (.c (.v (.int .u64 4294967296)))), none⟩, {}⟩, ⟨⟨some 88, (.mov (.t 13)), none⟩, {}⟩, ⟨⟨some 89, (.bin .add (.t 87) (.t 88)), none⟩, {}⟩, ⟨⟨some 90, (.mov (.t 15)), none⟩, {}⟩, ⟨⟨some 91, (.mov (.t 2)), none⟩, {}⟩,
  ⟨⟨some 92, (.bin .mul (.t 90) (.t 91)), none⟩, {}⟩, ⟨⟨some 93, (.bin .sub (.t 89) (.t 92)), none⟩, {}⟩, ⟨⟨some 17, (.mov (.t 93)), none⟩, {}⟩] none) math_bits_Div64_C10)
def math_bits_Div64_C11 : TC := (.cond (.t 78) .skip (.exit 0))
def math_bits_Div64_C25 : TC := (.cond (.t 85) (.exit 0) .skip)
def math_bits_Div64_C21 : TC := (.seq (.rg [⟨⟨some 84, (.mov (.t 16)), none⟩, {}⟩, ⟨⟨some 85, (.bin .geq (.t 84) (.c (.v (.int .u64 4294967296)))), none⟩, {}⟩] none) math_bits_Div64_C25)
def math_bits_Div64_C16 : TC := (.seq (.rg [⟨⟨some 81, (.mov (.t 16)), none⟩, {}⟩, ⟨⟨some 82, (.mov (.t 9)), none⟩, {}⟩, ⟨⟨some 83, (.bin .add (.t 81) (.t 82)), none⟩, {}⟩, ⟨⟨some 16, (.mov (.t 83)), none⟩, {}⟩] none) math_bits_Div64_C21)
def math_bits_Div64_C12 : TC := (.block 1 (.seq (.rg [⟨⟨some 79, (.mov (.t 15)), none⟩, {}⟩, ⟨⟨some 80, (.bin .sub (.t 79) (.c (.v (.int .u64 1)))), none⟩, {}⟩, ⟨⟨some 15, (.mov (.t 80)), none⟩, {}⟩] none) math_bits_Div64_C16))
def math_bits_Div64_C4 : TC := (.seq (.seq (.rg [⟨⟨some 67, (.mov (.t 15)), none⟩, {}⟩, ⟨⟨some 68, (.bin .geq (.t 67) (.c (.v (.int .u64 4294967296)))), none⟩, {}⟩, ⟨⟨some 69, (.mov (.t 68)), none⟩, {}⟩, ⟨⟨some 70, (.mov (.t 15)), some (69, false)⟩, {}⟩, ⟨⟨some 71, (.mov (.t 10)), some (69, false)⟩, {}⟩, ⟨⟨some 72, (.bin .mul (.t
  70) (.t 71)), some (69, false)⟩, {}⟩, ⟨⟨some 73, (.mov (.t 16)), some (69, false)⟩, {}⟩, ⟨⟨some 74, (.bin .mul (.c (.v (.int .u64 4294967296))) (.t 73)), some (69, false)⟩, {}⟩, ⟨⟨some 75, (.mov (.t 13)), some (69, false)⟩, {}⟩, ⟨⟨some 76, (.bin .add (.t 74) (.t 75)), some (69, false)⟩, {}⟩, ⟨⟨some
  77, (.bin .gtr (.t 72) (.t 76)), some (69, false)⟩, {}⟩, ⟨⟨some 78, (.pick (.t 69) (.c (B true)) (.t 77)), none⟩, {}⟩] none) math_bits_Div64_C11) math_bits_Div64_C12)
def math_bits_Div64_C5 : TC := (.join [.keep [2, 8, 9, 10, 11, 13, 14, 15], .cmp] math_bits_Div64_C3)
def math_bits_Div64_C17 : TC := (.cond (.t 20) .bad .skip)
def math_bits_Div64_C22 : TC := (.cond (.t 24) .bad .skip)
def math_bits_Div64_C28 : TC := .ret
def math_bits_Div64_C26 : TC := (.cond (.t 27) (.seq (.rg [⟨⟨some 28, (.mov (.t 1)), none⟩, {}⟩, ⟨⟨some 29, (.mov (.t 2)), none⟩, {}⟩, ⟨⟨some 30, (.bin .quo (.t 28) (.t 29)), none⟩, {}⟩, ⟨⟨some 31, (.mov (.t 1)), none⟩, {}⟩, ⟨⟨some 32, (.mov (.t 2)), none⟩, {}⟩, ⟨⟨some 33, (.bin .rem (.t 31) (.t 32)), none⟩, {}⟩, ⟨⟨some 6, (.mov
  (.t 30)), none⟩, {}⟩, ⟨⟨some 7, (.mov (.t 33)), none⟩, {}⟩] (some [])) math_bits_Div64_C28) .skip)
def math_bits_Div64_C38 : TC := (.seq (.block 0 (.loop math_bits_Div64_N1 math_bits_Div64_C4)) math_bits_Div64_C5)
def math_bits_Div64_C37 : TC := (.seq (.rg [⟨⟨some 62, (.mov (.t 11)), none⟩, {}⟩, ⟨⟨some 63, (.mov (.t 15)), none⟩, {}⟩, ⟨⟨some 64, (.mov (.t 9)), none⟩, {}⟩, ⟨⟨some 65, (.bin .mul (.t 63) (.t 64)), none⟩, {}⟩, ⟨⟨some 66, (.bin .sub (.t 62) (.t 65)), none⟩, {}⟩, ⟨⟨some 16, (.mov (.t 66)), none⟩, {}⟩] none) math_bits_Div64_C38)
def math_bits_Div64_C36 : TC := (.seq (.rg [⟨⟨some 59, (.mov (.t 11)), none⟩, {}⟩, ⟨⟨some 60, (.mov (.t 9)), none⟩, {}⟩, ⟨⟨some 61, (.bin .quo (.t 59) (.t 60)), none⟩, {}⟩, ⟨⟨some 15, (.mov (.t 61)), none⟩, {}⟩] none) math_bits_Div64_C37)
def math_bits_Div64_C35 : TC := (.seq (.rg [⟨⟨some 57, (.mov (.t 12)), none⟩, {}⟩, ⟨⟨some 58, (.bin .and (.t 57) (.c (.v (.int .u64 4294967295)))), none⟩, {}⟩, ⟨⟨some 14, (.mov (.t 58)), none⟩, {}⟩] none) math_bits_Div64_C36)
def math_bits_Div64_C34 : TC := (.seq (.rg [⟨⟨some 55, (.mov (.t 12)), none⟩, {}⟩, ⟨⟨some 56, (.bin .shr (.t 55) (.c (.v (.int .u64 32)))), none⟩, {}⟩, ⟨⟨some 13, (.mov (.t 56)), none⟩, {}⟩] none) math_bits_Div64_C35)
def math_bits_Div64_C33 : TC := (.seq (.rg [⟨⟨some 52, (.mov (.t 1)), none⟩, {}⟩, ⟨⟨some 53, (.mov (.t 8)), none⟩, {}⟩, ⟨⟨some 54, (.bin .shl (.t 52) (.t 53)), none⟩, {}⟩, ⟨⟨some 12, (.mov (.t 54)), none⟩, {}⟩] none) math_bits_Div64_C34)
def math_bits_Div64_C32 : TC := (.seq (.rg [⟨⟨some 44, (.mov (.t 0)), none⟩, {}⟩, ⟨⟨some 45, (.mov (.t 8)), none⟩, {}⟩, ⟨⟨some 46, (.bin .shl (.t 44) (.t 45)), none⟩, {}⟩, ⟨⟨some 47, (.mov (.t 1)), none⟩, {}⟩, ⟨⟨some 48, (.mov (.t 8)), none⟩, {}⟩, ⟨⟨some 49, (.bin .sub (.c (.v (.int .u64 64))) (.t 48)), none⟩, {}⟩, ⟨⟨some 50, (.bin
  .shr (.t 47) (.t 49)), none⟩, {}⟩, ⟨⟨some 51, (.bin .or (.t 46) (.t 50)), none⟩, {}⟩, ⟨⟨some 11, (.mov (.t 51)), none⟩, {}⟩] none) math_bits_Div64_C33)
def math_bits_Div64_C31 : TC := (.seq (.rg [⟨⟨some 42, (.mov (.t 2)), none⟩, {}⟩, ⟨⟨some 43, (.bin .and (.t 42) (.c (.v (.int .u64 4294967295)))), none⟩, {}⟩, ⟨⟨some 10, (.mov (.t 43)), none⟩, {}⟩] none) math_bits_Div64_C32)
def math_bits_Div64_C30 : TC := (.seq (.rg [⟨⟨some 40, (.mov (.t 2)), none⟩, {}⟩, ⟨⟨some 41, (.bin .shr (.t 40) (.c (.v (.int .u64 32)))), none⟩, {}⟩, ⟨⟨some 9, (.mov (.t 41)), none⟩, {}⟩] none) math_bits_Div64_C31)
def math_bits_Div64_C29 : TC := (.seq (.rg [⟨⟨some 37, (.mov (.t 2)), none⟩, {}⟩, ⟨⟨some 38, (.mov (.t 8)), none⟩, {}⟩, ⟨⟨some 39, (.bin .shl (.t 37) (.t 38)), none⟩, {}⟩, ⟨⟨some 2, (.mov (.t 39)), none⟩, {}⟩] none) math_bits_Div64_C30)
def math_bits_Div64_C27 : TC := (.seq (.rg [⟨⟨some 34, (.mov (.t 2)), none⟩, {}⟩, ⟨⟨some 35, (.call (.c (.fn 34 [])) [(.t 34)]), none⟩, {}⟩, ⟨⟨some 36, (.conv .u64 (.t 35)), none⟩, {}⟩, ⟨⟨some 8, (.mov (.t 36)), none⟩, {}⟩] none) math_bits_Div64_C29)
def math_bits_Div64_C23 : TC := (.seq (.seq (.rg [⟨⟨some 26, (.mov (.t 0)), none⟩, {}⟩, ⟨⟨some 27, (.bin .eql (.t 26) (.c (.v (.int .u64 0)))), none⟩, {}⟩] none) math_bits_Div64_C26) math_bits_Div64_C27)
def math_bits_Div64_C18 : TC := (.seq (.seq (.rg [⟨⟨some 22, (.mov (.t 2)), none⟩, {}⟩, ⟨⟨some 23, (.mov (.t 0)), none⟩, {}⟩, ⟨⟨some 24, (.bin .leq (.t 22) (.t 23)), none⟩, {}⟩] none) math_bits_Div64_C22) math_bits_Div64_C23)
def math_bits_Div64_C13 : TC := (.seq (.seq (.rg [⟨⟨some 19, (.mov (.t 2)), none⟩, {}⟩, ⟨⟨some 20, (.bin .eql (.t 19) (.c (.v (.int .u64 0)))), none⟩, {}⟩] none) math_bits_Div64_C17) math_bits_Div64_C18)
def math_bits_Div64_C6 : TC := (.seq (.rg [⟨⟨some 6, (.mov (.c (.v (.int .u64 0)))), none⟩, {}⟩, ⟨⟨some 7, (.mov (.c (.v (.int .u64 0)))), none⟩, {}⟩] none) math_bits_Div64_C13)
def math_bits_Div64_E (N : Nat) : List (Nat × Ent) := [(34, pureE [(.int .u64)] [(.int .i64)] (fun x => math_bits_LeadingZeros64 N x))]
def math_bits_Div64_L2 (N : Nat) (n : Nat) (x42 : Int) (x43 : Int) (x44 : Int) (x45 : Int) (x46 : Int) (x47 : Int) (x48 : Int) (x49 : Int) (x50 : Int) : Option (Int × Int) := loopN (normI 0 math_bits_Div64_N2) (run (math_bits_Div64_E N) N 0 math_bits_Div64_C1) n ⟨[(2, .int .u64 x42), (8, .int .u64 x43), (9, .int .u64 x44), (10, .int .u64 x45), (14, .int .u64 x46), (15, .int .u64 x47), (16, .int .u64 x48), (17, .int .u64 x49), (18, .int .u64 x50)], []⟩ (blkK 2 (seqK (run (math_bits_Div64_E N) N 0 math_bits_Div64_C2) (fin [(.t 6), (.t 7)] [(.int .u64), (.int .u64)])))
def math_bits_Div64_J1 (N : Nat) (x27 : Int) (x28 : Int) (x29 : Int) (x30 : Int) (x31 : Int) (x32 : Int) (x33 : Int) (x34 : Int) : Option (Int × Int) := joinN (run (math_bits_Div64_E N) N 0 math_bits_Div64_C3) N ⟨[(2, .int .u64 x27), (8, .int .u64 x28), (9, .int .u64 x29), (10, .int .u64 x30), (11, .int .u64 x31), (13, .int .u64 x32), (14, .int .u64 x33), (15, .int .u64 x34)], []⟩ (fin [(.t 6), (.t 7)] [(.int .u64), (.int .u64)])
def math_bits_Div64_L1 (N : Nat) (n : Nat) (x16 : Int) (x17 : Int) (x18 : Int) (x19 : Int) (x20 : Int) (x21 : Int) (x22 : Int) (x23 : Int) (x24 : Int) : Option (Int × Int) := loopN (normI 0 math_bits_Div64_N1) (run (math_bits_Div64_E N) N 0 math_bits_Div64_C4) n ⟨[(2, .int .u64 x16), (8, .int .u64 x17), (9, .int .u64 x18), (10, .int .u64 x19), (11, .int .u64 x20), (13, .int .u64 x21), (14, .int .u64 x22), (15, .int .u64 x23), (16, .int .u64 x24)], []⟩ (blkK 0 (seqK (run (math_bits_Div64_E N) N 0 math_bits_Div64_C5) (fin [(.t 6), (.t 7)] [(.int .u64), (.int .u64)])))
theorem math_bits_Div64_L2_zero (N : Nat) (x42 : Int) (x43 : Int) (x44 : Int) (x45 : Int) (x46 : Int) (x47 : Int) (x48 : Int) (x49 : Int) (x50 : Int) : math_bits_Div64_L2 N 0 x42 x43 x44 x45 x46 x47 x48 x49 x50 = none := rfl
theorem math_bits_Div64_L2_succ (N : Nat) (n2 : Nat) (x42 : Int) (x43 : Int) (x44 : Int) (x45 : Int) (x46 : Int) (x47 : Int) (x48 : Int) (x49 : Int) (x50 : Int) : math_bits_Div64_L2 N (n2 + 1) x42 x43 x44 x45 x46 x47 x48 x49 x50 =
  bif (decide (x50 ≥ 4294967296)) then
    let v51 := IntKind.u64.wrap (x50 - 1)
    let v52 := IntKind.u64.wrap (x48 + x44)
    bif (decide (v52 ≥ 4294967296)) then
      bif decide (x43 < 0) then none else
      some ((IntKind.u64.wrap ((IntKind.u64.wrap (x47 * 4294967296)) + v51)), ((IntKind.u64.wrap ((IntKind.u64.wrap ((IntKind.u64.wrap (x49 * 4294967296)) + x46)) - (IntKind.u64.wrap (v51 * x42)))).fdiv (2 ^ (min x43.toNat IntKind.u64.bits))))
    else
      math_bits_Div64_L2 N n2 x42 x43 x44 x45 x46 x47 v52 x49 v51
  else
    bif (decide ((IntKind.u64.wrap (x50 * x45)) > (IntKind.u64.wrap ((IntKind.u64.wrap (4294967296 * x48)) + x46)))) then
      let v72 := IntKind.u64.wrap (x50 - 1)
      let v73 := IntKind.u64.wrap (x48 + x44)
      bif (decide (v73 ≥ 4294967296)) then
        bif decide (x43 < 0) then none else
        some ((IntKind.u64.wrap ((IntKind.u64.wrap (x47 * 4294967296)) + v72)), ((IntKind.u64.wrap ((IntKind.u64.wrap ((IntKind.u64.wrap (x49 * 4294967296)) + x46)) - (IntKind.u64.wrap (v72 * x42)))).fdiv (2 ^ (min x43.toNat IntKind.u64.bits))))
      else
        math_bits_Div64_L2 N n2 x42 x43 x44 x45 x46 x47 v73 x49 v72
    else
      bif decide (x43 < 0) then none else
      some ((IntKind.u64.wrap ((IntKind.u64.wrap (x47 * 4294967296)) + x50)), ((IntKind.u64.wrap ((IntKind.u64.wrap ((IntKind.u64.wrap (x49 * 4294967296)) + x46)) - (IntKind.u64.wrap (x50 * x42)))).fdiv (2 ^ (min x43.toNat IntKind.u64.bits)))) := by kernel_rfl
theorem math_bits_Div64_J1_eq (N : Nat) (x27 : Int) (x28 : Int) (x29 : Int) (x30 : Int) (x31 : Int) (x32 : Int) (x33 : Int) (x34 : Int) : math_bits_Div64_J1 (N + 1) x27 x28 x29 x30 x31 x32 x33 x34 =
  let v38 := IntKind.u64.wrap ((IntKind.u64.wrap ((IntKind.u64.wrap (x31 * 4294967296)) + x32)) - (IntKind.u64.wrap (x34 * x27)))
  bif x29 == 0 then none else
  let v39 := IntKind.u64.wrap (v38.tdiv x29)
  math_bits_Div64_L2 (N + 1) (N + 1) x27 x28 x29 x30 x33 x34 (IntKind.u64.wrap (v38 - (IntKind.u64.wrap (v39 * x29)))) v38 v39 := by kernel_rfl
theorem math_bits_Div64_L1_zero (N : Nat) (x16 : Int) (x17 : Int) (x18 : Int) (x19 : Int) (x20 : Int) (x21 : Int) (x22 : Int) (x23 : Int) (x24 : Int) : math_bits_Div64_L1 N 0 x16 x17 x18 x19 x20 x21 x22 x23 x24 = none := rfl
theorem math_bits_Div64_L1_succ (N : Nat) (n1 : Nat) (x16 : Int) (x17 : Int) (x18 : Int) (x19 : Int) (x20 : Int) (x21 : Int) (x22 : Int) (x23 : Int) (x24 : Int) : math_bits_Div64_L1 N (n1 + 1) x16 x17 x18 x19 x20 x21 x22 x23 x24 =
  bif (decide (x23 ≥ 4294967296)) then
    let v25 := IntKind.u64.wrap (x23 - 1)
    let v26 := IntKind.u64.wrap (x24 + x18)
    bif (decide (v26 ≥ 4294967296)) then
      math_bits_Div64_J1 N x16 x17 x18 x19 x20 x21 x22 v25
    else
      math_bits_Div64_L1 N n1 x16 x17 x18 x19 x20 x21 x22 v25 v26
  else
    bif (decide ((IntKind.u64.wrap (x23 * x19)) > (IntKind.u64.wrap ((IntKind.u64.wrap (4294967296 * x24)) + x21)))) then
      let v126 := IntKind.u64.wrap (x23 - 1)
      let v127 := IntKind.u64.wrap (x24 + x18)
      bif (decide (v127 ≥ 4294967296)) then
        math_bits_Div64_J1 N x16 x17 x18 x19 x20 x21 x22 v126
      else
        math_bits_Div64_L1 N n1 x16 x17 x18 x19 x20 x21 x22 v126 v127
    else
      math_bits_Div64_J1 N x16 x17 x18 x19 x20 x21 x22 x23 := by kernel_rfl
def math_bits_Div64 (N : Nat) (a0 : Int) (a1 : Int) (a2 : Int) : Option (Int × Int) :=
  bif (a2 == 0) then
    none
  else
    bif (decide (a2 ≤ a0)) then
      none
    else
      bif (a0 == 0) then
        bif a2 == 0 then none else
        bif a2 == 0 then none else
        some ((IntKind.u64.wrap (a1.tdiv a2)), a1.tmod a2)
      else
        Option.bind (math_bits_LeadingZeros64 N a2) fun r2 =>
        bif decide ((IntKind.u64.wrap r2) < 0) then none else
        let v3 := IntKind.u64.wrap (a2 * 2 ^ (min (IntKind.u64.wrap r2).toNat IntKind.u64.bits))
        let v4 := v3.fdiv (2 ^ (min (32 : Int).toNat IntKind.u64.bits))
        bif decide ((IntKind.u64.wrap r2) < 0) then none else
        let v7 := IntKind.u64.wrap (64 - (IntKind.u64.wrap r2))
        bif decide (v7 < 0) then none else
        let v9 := IntKind.u64.wrap (BitVec.ofInt IntKind.u64.bits (IntKind.u64.wrap (a0 * 2 ^ (min (IntKind.u64.wrap r2).toNat IntKind.u64.bits))) ||| BitVec.ofInt IntKind.u64.bits (a1.fdiv (2 ^ (min v7.toNat IntKind.u64.bits)))).toNat
        bif decide ((IntKind.u64.wrap r2) < 0) then none else
        let v10 := IntKind.u64.wrap (a1 * 2 ^ (min (IntKind.u64.wrap r2).toNat IntKind.u64.bits))
        bif v4 == 0 then none else
        let v13 := IntKind.u64.wrap (v9.tdiv v4)
        math_bits_Div64_L1 N N v3 (IntKind.u64.wrap r2) v4 (IntKind.u64.wrap (BitVec.ofInt IntKind.u64.bits v3 &&& BitVec.ofInt IntKind.u64.bits 4294967295).toNat) v9 (v10.fdiv (2 ^ (min (32 : Int).toNat IntKind.u64.bits))) (IntKind.u64.wrap (BitVec.ofInt IntKind.u64.bits v10 &&& BitVec.ofInt IntKind.u64.bits 4294967295).toNat) v13 (IntKind.u64.wrap (v9 - (IntKind.u64.wrap (v13 * v4))))
theorem math_bits_Div64_fn : FnOK Try.prog 33 135 (fun _ : Nat => false) math_bits_Div64_C6.er [(.t 6), (.t 7)] := FnOK.mk' Try.func33 (by kernel_rfl) (by kernel_rfl) (by kernel_rfl) (by kernel_rfl) (by kernel_rfl)
theorem math_bits_Div64_envok (N : Nat) : EnvOK Try.prog (math_bits_Div64_E N) := .cons (pureE_ok (math_bits_LeadingZeros64_pure N)) (.nil)
theorem math_bits_Div64_pure (N : Nat) : PureOK Try.prog 33 [(.int .u64), (.int .u64), (.int .u64)] [(.int .u64), (.int .u64)] (fun x => math_bits_Div64 N x.1 x.2.1 x.2.2) := pureOK (N := N) mixed math_bits_Div64_fn (math_bits_Div64_envok N) rfl (fun x => by kernel_rfl)
/-! fan_between -/
def fan_between_C6 : TC := (.cond (.t 51) (.rg [⟨⟨some 52, (.fadr 0 (.t 11)), none⟩, {}⟩, ⟨⟨some 53, (.load false 1 (.t 52)), none⟩, {}⟩, ⟨⟨some 54, (.bin .sub (.t 53) (.c (I 1))), none⟩, {}⟩, ⟨⟨some 55, (.fadr 0 (.t 11)), none⟩, {}⟩, ⟨⟨none, (.store 1 (.t 55) (.t 54)), none⟩, {}⟩] none) .skip)
def fan_between_C8 : TC := .ret
def fan_between_C7 : TC := (.seq (.rg [⟨⟨some 56, (.load true 2 (.t 11)), none⟩, {}⟩, ⟨⟨none, (.store 2 (.t 6) (.t 56)), none⟩, {}⟩] none) fan_between_C8)
def fan_between_C5 : TC := (.seq (.seq (.rg [⟨⟨some 50, (.mov (.t 10)), none⟩, {}⟩, ⟨⟨some 51, (.bin .gtr (.t 50) (.c (.v (.int .u64 0)))), none⟩, {}⟩] none) fan_between_C6) fan_between_C7)
def fan_between_C4 : TC := (.seq (.rg [⟨⟨some 39, (.fadr 1 (.t 3)), none⟩, {}⟩, ⟨⟨some 40, (.load false 1 (.t 39)), none⟩, {}⟩, ⟨⟨some 41, (.mov (.t 9)), none⟩, {}⟩, ⟨⟨some 42, (.conv .i64 (.t 41)), none⟩, {}⟩, ⟨⟨some 43, (.bin .sub (.t 40) (.t 42)), none⟩, {}⟩, ⟨⟨some 44, (.fadr 1 (.t 3)), none⟩, {}⟩, ⟨⟨some 45, (.load false
  1 (.t 44)), none⟩, {}⟩, ⟨⟨some 46, (.mov (.t 9)), none⟩, {}⟩, ⟨⟨some 47, (.conv .i64 (.t 46)), none⟩, {}⟩, ⟨⟨some 48, (.bin .sub (.t 45) (.t 47)), none⟩, {}⟩, ⟨⟨some 49, (.build [(I 0), (I 0)] [(0, (1, (.t 43))), (1, (1, (.t 48)))]), none⟩, {}⟩, ⟨⟨some 11, (.alloc [(I 0), (I 0)]), none⟩, {}⟩,
  ⟨⟨none, (.store 2 (.t 11) (.t 49)), none⟩, {}⟩] none) fan_between_C5)
def fan_between_C3 : TC := (.seq (.rg [⟨⟨some 28, (.mov (.t 7)), none⟩, {}⟩, ⟨⟨some 29, (.mov (.t 8)), none⟩, {}⟩, ⟨⟨some 30, (.fadr 0 (.t 4)), none⟩, {}⟩, ⟨⟨some 31, (.load false 1 (.t 30)), none⟩, {}⟩, ⟨⟨some 32, (.fadr 0 (.t 3)), none⟩, {}⟩, ⟨⟨some 33, (.load false 1 (.t 32)), none⟩, {}⟩, ⟨⟨some 34, (.bin .sub (.t 31) (.t
  33)), none⟩, {}⟩, ⟨⟨some 35, (.conv .u64 (.t 34)), none⟩, {}⟩, ⟨⟨some 36, (.call (.c (.fn 33 [])) [(.t 28), (.t 29), (.t 35)]), none⟩, {}⟩, ⟨⟨some 27, (.mov (.t 36)), none⟩, {}⟩, ⟨⟨some 37, (.extr 0 (.t 27)), none⟩, {}⟩, ⟨⟨some 38, (.extr 1 (.t 27)), none⟩, {}⟩, ⟨⟨some 9, (.mov (.t 37)), none⟩,
  {}⟩, ⟨⟨some 10, (.mov (.t 38)), none⟩, {}⟩] none) fan_between_C4)
def fan_between_C2 : TC := (.seq (.rg [⟨⟨some 13, (.fadr 1 (.t 3)), none⟩, {}⟩, ⟨⟨some 14, (.load false 1 (.t 13)), none⟩, {}⟩, ⟨⟨some 15, (.fadr 1 (.t 4)), none⟩, {}⟩, ⟨⟨some 16, (.load false 1 (.t 15)), none⟩, {}⟩, ⟨⟨some 17, (.bin .sub (.t 14) (.t 16)), none⟩, {}⟩, ⟨⟨some 18, (.conv .u64 (.t 17)), none⟩, {}⟩, ⟨⟨some 19,
  (.mov (.t 2)), none⟩, {}⟩, ⟨⟨some 20, (.fadr 0 (.t 3)), none⟩, {}⟩, ⟨⟨some 21, (.load false 1 (.t 20)), none⟩, {}⟩, ⟨⟨some 22, (.bin .sub (.t 19) (.t 21)), none⟩, {}⟩, ⟨⟨some 23, (.conv .u64 (.t 22)), none⟩, {}⟩, ⟨⟨some 24, (.call (.c (.fn 32 [])) [(.t 18), (.t 23)]), none⟩, {}⟩, ⟨⟨some 12, (.mov
  (.t 24)), none⟩, {}⟩, ⟨⟨some 25, (.extr 0 (.t 12)), none⟩, {}⟩, ⟨⟨some 26, (.extr 1 (.t 12)), none⟩, {}⟩, ⟨⟨some 7, (.mov (.t 25)), none⟩, {}⟩, ⟨⟨some 8, (.mov (.t 26)), none⟩, {}⟩] none) fan_between_C3)
def fan_between_C1 : TC := (.seq (.rg [⟨⟨some 3, (.box (.t 0)), none⟩, {}⟩, ⟨⟨some 4, (.box (.t 1)), none⟩, {}⟩, ⟨⟨some 6, (.alloc [(I 0), (I 0)]), none⟩, {}⟩] none) fan_between_C2)
def fan_between_E (N : Nat) : List (Nat × Ent) := [(32, pureE [(.int .u64), (.int .u64)] [(.int .u64), (.int .u64)] (fun x => math_bits_Mul64 N x.1 x.2)), (33, pureE [(.int .u64), (.int .u64), (.int .u64)] [(.int .u64), (.int .u64)] (fun x => math_bits_Div64 N x.1 x.2.1 x.2.2))]
def fan_between (N : Nat) (a0 : T_Point) (a1 : T_Point) (a2 : Int) : Option T_Point :=
  Option.bind (math_bits_Mul64 N (IntKind.u64.wrap (W (a0.2 - a1.2))) (IntKind.u64.wrap (W (a2 - a0.1)))) fun r3 =>
  Option.bind (math_bits_Div64 N r3.1 r3.2 (IntKind.u64.wrap (W (a1.1 - a0.1)))) fun r5 =>
  bif (decide (r5.2 > 0)) then
    some ((W ((W (a0.2 - (W r5.1))) - 1)), W (a0.2 - (W r5.1)))
  else
    some (W (a0.2 - (W r5.1)), W (a0.2 - (W r5.1)))
theorem fan_between_fn : FnOK Try.prog 27 57 (fun _ : Nat => false) fan_between_C1.er [(.cell 6 true 2)] := FnOK.mk' Try.func27 (by kernel_rfl) (by kernel_rfl) (by kernel_rfl) (by kernel_rfl) (by kernel_rfl)
theorem fan_between_envok (N : Nat) : EnvOK Try.prog (fan_between_E N) := .cons (pureE_ok (math_bits_Mul64_pure N)) (.cons (pureE_ok (math_bits_Div64_pure N)) (.nil))
theorem fan_between_pure (N : Nat) : PureOK Try.prog 27 [G_Point, G_Point, (.int .i64)] [G_Point] (fun x => fan_between N x.1 x.2.1 x.2.2) := pureOK (N := N) mixed fan_between_fn (fan_between_envok N) rfl (fun x => by kernel_rfl)
/-! fan_curve -/
def fan_curve_N1 : List NS := [.keep [1, 2, 4, 6, 7], .cmp]
def fan_curve_C4 : TC := (.cond (.t 33) .skip (.exit 0))
def fan_curve_C11 : TC := .ret
def fan_curve_C8 : TC := (.cond (.t 43) (.seq (.rg [⟨⟨some 44, (.fadr 3 (.t 2)), none⟩, {}⟩, ⟨⟨some 45, (.load false 1 (.t 44)), none⟩, {}⟩, ⟨⟨some 46, (.mov (.t 7)), none⟩, {}⟩, ⟨⟨some 47, (.bin .sub (.t 46) (.c (I 1))), none⟩, {}⟩, ⟨⟨some 48, (.iadrS 2 (.t 45) (.t 47)), none⟩, {}⟩, ⟨⟨some 49, (.load true 2 (.t 48)), none⟩,
  {}⟩, ⟨⟨some 50, (.fadr 3 (.t 2)), none⟩, {}⟩, ⟨⟨some 51, (.load false 1 (.t 50)), none⟩, {}⟩, ⟨⟨some 52, (.mov (.t 7)), none⟩, {}⟩, ⟨⟨some 53, (.iadrS 2 (.t 51) (.t 52)), none⟩, {}⟩, ⟨⟨some 54, (.load true 2 (.t 53)), none⟩, {}⟩, ⟨⟨some 55, (.mov (.t 1)), none⟩, {}⟩, ⟨⟨some 56, (.call (.c (.fn 27
  [])) [(.t 49), (.t 54), (.t 55)]), none⟩, {}⟩, ⟨⟨none, (.store 2 (.t 4) (.t 56)), none⟩, {}⟩] (some [])) fan_curve_C11) .skip)
def fan_curve_C9 : TC := (.rg [⟨⟨some 34, (.mov (.t 7)), none⟩, {}⟩, ⟨⟨some 35, (.bin .add (.t 34) (.c (I 1))), none⟩, {}⟩, ⟨⟨some 7, (.mov (.t 35)), none⟩, {}⟩] none)
def fan_curve_C5 : TC := (.seq (.block 1 (.seq (.rg [⟨⟨some 36, (.mov (.t 1)), none⟩, {}⟩, ⟨⟨some 37, (.fadr 3 (.t 2)), none⟩, {}⟩, ⟨⟨some 38, (.load false 1 (.t 37)), none⟩, {}⟩, ⟨⟨some 39, (.mov (.t 7)), none⟩, {}⟩, ⟨⟨some 40, (.iadrS 2 (.t 38) (.t 39)), none⟩, {}⟩, ⟨⟨some 41, (.fadr 0 (.t 40)), none⟩, {}⟩, ⟨⟨some 42,
  (.load false 1 (.t 41)), none⟩, {}⟩, ⟨⟨some 43, (.bin .leq (.t 36) (.t 42)), none⟩, {}⟩] none) fan_curve_C8)) fan_curve_C9)
def fan_curve_C1 : TC := (.seq (.seq (.rg [⟨⟨some 29, (.mov (.t 7)), none⟩, {}⟩, ⟨⟨some 30, (.fadr 3 (.t 2)), none⟩, {}⟩, ⟨⟨some 31, (.load false 1 (.t 30)), none⟩, {}⟩, ⟨⟨some 32, (.len (.t 31)), none⟩, {}⟩, ⟨⟨some 33, (.bin .lss (.t 29) (.t 32)), none⟩, {}⟩] none) fan_curve_C4) fan_curve_C5)
def fan_curve_C6 : TC := .ret
def fan_curve_C2 : TC := (.seq (.rg [⟨⟨some 57, (.fadr 1 (.t 6)), none⟩, {}⟩, ⟨⟨some 58, (.load false 1 (.t 57)), none⟩, {}⟩, ⟨⟨some 59, (.fadr 1 (.t 6)), none⟩, {}⟩, ⟨⟨some 60, (.load false 1 (.t 59)), none⟩, {}⟩, ⟨⟨some 61, (.build [(I 0), (I 0)] [(0, (1, (.t 58))), (1, (1, (.t 60)))]), none⟩, {}⟩, ⟨⟨none, (.store 2 (.t 4)
  (.t 61)), none⟩, {}⟩] none) fan_curve_C6)
def fan_curve_C14 : TC := .ret
def fan_curve_C12 : TC := (.cond (.t 23) (.seq (.rg [⟨⟨some 24, (.fadr 1 (.t 5)), none⟩, {}⟩, ⟨⟨some 25, (.load false 1 (.t 24)), none⟩, {}⟩, ⟨⟨some 26, (.fadr 1 (.t 5)), none⟩, {}⟩, ⟨⟨some 27, (.load false 1 (.t 26)), none⟩, {}⟩, ⟨⟨some 28, (.build [(I 0), (I 0)] [(0, (1, (.t 25))), (1, (1, (.t 27)))]), none⟩, {}⟩, ⟨⟨none,
  (.store 2 (.t 4) (.t 28)), none⟩, {}⟩] none) fan_curve_C14) .skip)
def fan_curve_C15 : TC := (.block 0 (.loop fan_curve_N1 fan_curve_C1))
def fan_curve_C13 : TC := (.seq (.seq (.rg [⟨⟨some 7, (.mov (.c (I 1))), none⟩, {}⟩] none) fan_curve_C15) fan_curve_C2)
def fan_curve_C10 : TC := (.seq (.seq (.rg [⟨⟨some 20, (.mov (.t 1)), none⟩, {}⟩, ⟨⟨some 21, (.fadr 0 (.t 5)), none⟩, {}⟩, ⟨⟨some 22, (.load false 1 (.t 21)), none⟩, {}⟩, ⟨⟨some 23, (.bin .leq (.t 20) (.t 22)), none⟩, {}⟩] none) fan_curve_C12) fan_curve_C13)
def fan_curve_C7 : TC := (.seq (.pre [.wait, .wait] (.rg [⟨⟨some 8, (.fadr 3 (.t 2)), none⟩, {}⟩, ⟨⟨some 9, (.load false 1 (.t 8)), none⟩, {}⟩, ⟨⟨some 10, (.iadrS 2 (.t 9) (.c (I 0))), none⟩, {}⟩, ⟨⟨some 11, (.load true 2 (.t 10)), none⟩, {}⟩, ⟨⟨some 12, (.fadr 3 (.t 2)), none⟩, {}⟩, ⟨⟨some 13, (.load false 1 (.t 12)),
  none⟩, {}⟩, ⟨⟨some 14, (.fadr 3 (.t 2)), none⟩, {}⟩, ⟨⟨some 15, (.load false 1 (.t 14)), none⟩, {}⟩, ⟨⟨some 16, (.len (.t 15)), none⟩, {}⟩, ⟨⟨some 17, (.bin .sub (.t 16) (.c (I 1))), none⟩, {}⟩, ⟨⟨some 18, (.iadrS 2 (.t 13) (.t 17)), none⟩, {}⟩, ⟨⟨some 19, (.load true 2 (.t 18)), none⟩, {}⟩, ⟨⟨some
  5, (.alloc [(I 0), (I 0)]), none⟩, ⟨.unit, some 2⟩⟩, ⟨⟨some 6, (.alloc [(I 0), (I 0)]), none⟩, ⟨.unit, some 3⟩⟩, ⟨⟨none, (.store 2 (.t 5) (.t 11)), none⟩, {}⟩, ⟨⟨none, (.store 2 (.t 6) (.t 19)), none⟩, {}⟩] (some [(0, 12), (1, 12), (2, 12), (3, 12), (4, 12), (5, 12), (6, 12), (7, 12), (8, 12), (10,
  12), (11, 12), (0, 13), (1, 13), (2, 13), (3, 13), (4, 13), (5, 13), (6, 13), (7, 13), (8, 13), (10, 13), (11, 13), (12, 13), (4, 14), (5, 14), (6, 14), (7, 14), (8, 14), (10, 14), (11, 14)]))) fan_curve_C10)
def fan_curve_C3 : TC := (.seq (.rg [⟨⟨some 2, (.box (.t 0)), none⟩, {}⟩, ⟨⟨some 4, (.alloc [(I 0), (I 0)]), none⟩, {}⟩] none) fan_curve_C7)
def fan_curve_E (N : Nat) : List (Nat × Ent) := [(27, pureE [G_Point, G_Point, (.int .i64)] [G_Point] (fun x => fan_between N x.1 x.2.1 x.2.2))]
def fan_curve_L1 (N : Nat) (n : Nat) (x4 : Int) (x5 : Int) (x6 : Int) (x7 : Bool) (x8 : Bool) (x9 : List T_Point) (x10 : Int) (x11 : Int) (x12 : Int) (x13 : Int) : Option T_Point := loopN (normI 0 fan_curve_N1) (run (fan_curve_E N) N 0 fan_curve_C1) n ⟨[(1, .int .i64 x4), (2, .ptr 0 0 0), (4, .ptr 1 0 0), (6, .ptr 2 0 0), (7, .int .i64 x5)], [some (.box 0 [.int .i64 x6, .bool x7, .bool x8, .lst false G_Point x9]), some (.box 0 [.int .i64 x10, .int .i64 x11]), some (.box 1 [.int .i64 x12, .int .i64 x13])]⟩ (blkK 0 (seqK (run (fan_curve_E N) N 0 fan_curve_C2) (fin [(.cell 4 true 2)] [G_Point])))
theorem fan_curve_L1_zero (N : Nat) (x4 : Int) (x5 : Int) (x6 : Int) (x7 : Bool) (x8 : Bool) (x9 : List T_Point) (x10 : Int) (x11 : Int) (x12 : Int) (x13 : Int) : fan_curve_L1 N 0 x4 x5 x6 x7 x8 x9 x10 x11 x12 x13 = none := rfl
theorem fan_curve_L1_succ (N : Nat) (n1 : Nat) (x4 : Int) (x5 : Int) (x6 : Int) (x7 : Bool) (x8 : Bool) (x9 : List T_Point) (x10 : Int) (x11 : Int) (x12 : Int) (x13 : Int) : fan_curve_L1 N (n1 + 1) x4 x5 x6 x7 x8 x9 x10 x11 x12 x13 =
  bif (decide (x5 < (x9.length : Int))) then
    bif inB x5 x9.length then
    bif (decide (x4 ≤ (x9.getD x5.toNat D_Point).1)) then
      bif inB (W (x5 - 1)) x9.length then
      bif inB x5 x9.length then
      Option.bind (fan_between N (x9.getD (W (x5 - 1)).toNat D_Point) (x9.getD x5.toNat D_Point) x4) fun r17 =>
      some r17
      else none
      else none
    else
      fan_curve_L1 N n1 x4 (W (x5 + 1)) x6 x7 x8 x9 x10 x11 x12 x13
    else none
  else
    some (x13, x13) := by kernel_rfl
def fan_curve (N : Nat) (a0 : T_Fan) (a1 : Int) : Option T_Point :=
  bif inB 0 a0.2.2.2.length then
  let v1 := a0.2.2.2.getD (0 : Int).toNat D_Point
  let v2 := W ((a0.2.2.2.length : Int) - 1)
  bif inB v2 a0.2.2.2.length then
  let v3 := a0.2.2.2.getD v2.toNat D_Point
  bif (decide (a1 ≤ v1.1)) then
    some (v1.2, v1.2)
  else
    fan_curve_L1 N N a1 1 a0.1 a0.2.1 a0.2.2.1 a0.2.2.2 0 0 v3.1 v3.2
  else none
  else none
theorem fan_curve_fn : FnOK Try.prog 22 62 (fun _ : Nat => false) fan_curve_C3.er [(.cell 4 true 2)] := FnOK.mk' Try.func22 (by kernel_rfl) (by kernel_rfl) (by kernel_rfl) (by kernel_rfl) (by kernel_rfl)
theorem fan_curve_envok (N : Nat) : EnvOK Try.prog (fan_curve_E N) := .cons (pureE_ok (fan_between_pure N)) (.nil)
theorem fan_curve_pure (N : Nat) : PureOK Try.prog 22 [G_Fan, (.int .i64)] [G_Point] (fun x => fan_curve N x.1 x.2) := pureOK (N := N) mixed fan_curve_fn (fan_curve_envok N) rfl (fun x => by kernel_rfl)
/-! fan_Curve -/
def fan_Curve_C5 : TC := .ret
def fan_Curve_C3 : TC := (.cond (.t 7) (.seq (.rg [⟨⟨some 8, (.build [(I 0), (I 0)] []), none⟩, {}⟩, ⟨⟨none, (.store 2 (.t 4) (.t 8)), none⟩, {}⟩] none) fan_Curve_C5) .skip)
def fan_Curve_C6 : TC := .ret
def fan_Curve_C4 : TC := (.seq (.rg [⟨⟨some 9, (.load true 4 (.t 2)), none⟩, {}⟩, ⟨⟨some 10, (.mov (.t 1)), none⟩, {}⟩, ⟨⟨some 11, (.call (.c (.fn 22 [])) [(.t 9), (.t 10)]), none⟩, {}⟩, ⟨⟨none, (.store 2 (.t 4) (.t 11)), none⟩, {}⟩] none) fan_Curve_C6)
def fan_Curve_C2 : TC := (.seq (.seq (.rg [⟨⟨some 5, (.load true 4 (.t 2)), none⟩, {}⟩, ⟨⟨some 6, (.call (.c (.fn 10 [])) [(.t 5)]), none⟩, {}⟩, ⟨⟨some 7, (.bin .neq (.t 6) (.c (I 0))), none⟩, {}⟩] none) fan_Curve_C3) fan_Curve_C4)
def fan_Curve_C1 : TC := (.seq (.rg [⟨⟨some 2, (.box (.t 0)), none⟩, {}⟩, ⟨⟨some 4, (.alloc [(I 0), (I 0)]), none⟩, {}⟩] none) fan_Curve_C2)
def fan_Curve_E (N : Nat) : List (Nat × Ent) := [(10, pureE [G_Fan] [(.int .i64)] (fun x => fan_Check N x)), (22, pureE [G_Fan, (.int .i64)] [G_Point] (fun x => fan_curve N x.1 x.2))]
def fan_Curve (N : Nat) (a0 : T_Fan) (a1 : Int) : Option T_Point :=
  Option.bind (fan_Check N a0) fun r1 =>
  bif (r1 != 0) then
    some (0, 0)
  else
    Option.bind (fan_curve N a0 a1) fun r2 =>
    some r2
theorem fan_Curve_fn : FnOK Try.prog 14 12 (fun _ : Nat => false) fan_Curve_C1.er [(.cell 4 true 2)] := FnOK.mk' Try.func14 (by kernel_rfl) (by kernel_rfl) (by kernel_rfl) (by kernel_rfl) (by kernel_rfl)
theorem fan_Curve_envok (N : Nat) : EnvOK Try.prog (fan_Curve_E N) := .cons (pureE_ok (fan_Check_pure N)) (.cons (pureE_ok (fan_curve_pure N)) (.nil))
theorem fan_Curve_pure (N : Nat) : PureOK Try.prog 14 [G_Fan, (.int .i64)] [G_Point] (fun x => fan_Curve N x.1 x.2) := pureOK (N := N) mixed fan_Curve_fn (fan_Curve_envok N) rfl (fun x => by kernel_rfl)
/-! fan_along -/
def fan_along_C5 : TC := .ret
def fan_along_C3 : TC := (.cond (.t 9) (.seq (.rg [⟨⟨some 10, (.load true 4 (.t 3)), none⟩, {}⟩, ⟨⟨some 11, (.mov (.t 2)), none⟩, {}⟩, ⟨⟨some 12, (.call (.c (.fn 22 [])) [(.t 10), (.t 11)]), none⟩, {}⟩, ⟨⟨none, (.store 2 (.t 6) (.t 12)), none⟩, {}⟩] none) fan_along_C5) .skip)
def fan_along_C7 : TC := .ret
def fan_along_C6 : TC := (.seq (.rg [⟨⟨some 17, (.fadr 1 (.t 7)), none⟩, {}⟩, ⟨⟨some 18, (.load false 1 (.t 17)), none⟩, {}⟩, ⟨⟨some 19, (.un .neg (.t 18)), none⟩, {}⟩, ⟨⟨some 20, (.fadr 0 (.t 7)), none⟩, {}⟩, ⟨⟨some 21, (.load false 1 (.t 20)), none⟩, {}⟩, ⟨⟨some 22, (.un .neg (.t 21)), none⟩, {}⟩, ⟨⟨some 23, (.build [(I
  0), (I 0)] [(0, (1, (.t 19))), (1, (1, (.t 22)))]), none⟩, {}⟩, ⟨⟨none, (.store 2 (.t 6) (.t 23)), none⟩, {}⟩] none) fan_along_C7)
def fan_along_C4 : TC := (.seq (.rg [⟨⟨some 13, (.load true 4 (.t 3)), none⟩, {}⟩, ⟨⟨some 14, (.mov (.t 2)), none⟩, {}⟩, ⟨⟨some 15, (.un .neg (.t 14)), none⟩, {}⟩, ⟨⟨some 16, (.call (.c (.fn 22 [])) [(.t 13), (.t 15)]), none⟩, {}⟩, ⟨⟨some 7, (.alloc [(I 0), (I 0)]), none⟩, {}⟩, ⟨⟨none, (.store 2 (.t 7) (.t 16)), none⟩, {}⟩]
  none) fan_along_C6)
def fan_along_C2 : TC := (.seq (.seq (.rg [⟨⟨some 8, (.mov (.t 1)), none⟩, {}⟩, ⟨⟨some 9, (.un .not (.t 8)), none⟩, {}⟩] none) fan_along_C3) fan_along_C4)
def fan_along_C1 : TC := (.seq (.rg [⟨⟨some 3, (.box (.t 0)), none⟩, {}⟩, ⟨⟨some 6, (.alloc [(I 0), (I 0)]), none⟩, {}⟩] none) fan_along_C2)
def fan_along_E (N : Nat) : List (Nat × Ent) := [(22, pureE [G_Fan, (.int .i64)] [G_Point] (fun x => fan_curve N x.1 x.2))]
def fan_along (N : Nat) (a0 : T_Fan) (a1 : Bool) (a2 : Int) : Option T_Point :=
  bif (!a1) then
    Option.bind (fan_curve N a0 a2) fun r1 =>
    some r1
  else
    Option.bind (fan_curve N a0 (W (0 - a2))) fun r2 =>
    some (W (0 - r2.2), W (0 - r2.1))
theorem fan_along_fn : FnOK Try.prog 30 24 (fun _ : Nat => false) fan_along_C1.er [(.cell 6 true 2)] := FnOK.mk' Try.func30 (by kernel_rfl) (by kernel_rfl) (by kernel_rfl) (by kernel_rfl) (by kernel_rfl)
theorem fan_along_envok (N : Nat) : EnvOK Try.prog (fan_along_E N) := .cons (pureE_ok (fan_curve_pure N)) (.nil)
theorem fan_along_pure (N : Nat) : PureOK Try.prog 30 [G_Fan, .bool, (.int .i64)] [G_Point] (fun x => fan_along N x.1 x.2.1 x.2.2) := pureOK (N := N) mixed fan_along_fn (fan_along_envok N) rfl (fun x => by kernel_rfl)
/-! fan_Sure -/
def fan_Sure_C7 : TC := .ret
def fan_Sure_C9 : TC := .ret
def fan_Sure_C12 : TC := .ret
def fan_Sure_C11 : TC := (.seq (.rg [⟨⟨some 33, (.fadr 0 (.t 7)), none⟩, {}⟩, ⟨⟨some 34, (.load false 1 (.t 33)), none⟩, {}⟩, ⟨⟨some 35, (.fadr 0 (.t 8)), none⟩, {}⟩, ⟨⟨some 36, (.load false 1 (.t 35)), none⟩, {}⟩, ⟨⟨some 37, (.mm false [(.c (I 0)), (.t 34), (.t 36)]), none⟩, {}⟩, ⟨⟨some 38, (.fadr 1 (.t 7)), none⟩, {}⟩,
  ⟨⟨some 39, (.load false 1 (.t 38)), none⟩, {}⟩, ⟨⟨some 40, (.fadr 1 (.t 8)), none⟩, {}⟩, ⟨⟨some 41, (.load false 1 (.t 40)), none⟩, {}⟩, ⟨⟨some 42, (.mm true [(.c (I 0)), (.t 39), (.t 41)]), none⟩, {}⟩, ⟨⟨some 43, (.build [(I 0), (I 0)] [(0, (1, (.t 37))), (1, (1, (.t 42)))]), none⟩, {}⟩, ⟨⟨none,
  (.store 2 (.t 6) (.t 43)), none⟩, {}⟩] none) fan_Sure_C12)
def fan_Sure_C10 : TC := (.cond (.t 25) (.seq (.pre [.wait, .wait] (.rg [⟨⟨some 27, (.load true 4 (.t 3)), none⟩, {}⟩, ⟨⟨some 28, (.mov (.t 2)), none⟩, {}⟩, ⟨⟨some 29, (.call (.c (.fn 30 [])) [(.t 27), (.c (B false)), (.t 28)]), none⟩, {}⟩, ⟨⟨some 30, (.load true 4 (.t 3)), none⟩, {}⟩, ⟨⟨some 31, (.mov (.t 2)), none⟩, {}⟩,
  ⟨⟨some 32, (.call (.c (.fn 30 [])) [(.t 30), (.c (B true)), (.t 31)]), none⟩, {}⟩, ⟨⟨some 7, (.alloc [(I 0), (I 0)]), none⟩, ⟨.unit, some 2⟩⟩, ⟨⟨some 8, (.alloc [(I 0), (I 0)]), none⟩, ⟨.unit, some 3⟩⟩, ⟨⟨none, (.store 2 (.t 7) (.t 29)), none⟩, {}⟩, ⟨⟨none, (.store 2 (.t 8) (.t 32)), none⟩, {}⟩]
  (some [(2, 3), (0, 6), (2, 6), (3, 6), (5, 6), (0, 7), (2, 7), (3, 7), (5, 7), (6, 7)]))) fan_Sure_C11) .skip)
def fan_Sure_C8 : TC := (.cond (.t 17) (.seq (.rg [⟨⟨some 19, (.load true 4 (.t 3)), none⟩, {}⟩, ⟨⟨some 20, (.fadr 1 (.t 3)), none⟩, {}⟩, ⟨⟨some 21, (.load false 1 (.t 20)), none⟩, {}⟩, ⟨⟨some 22, (.un .not (.t 21)), none⟩, {}⟩, ⟨⟨some 23, (.mov (.t 2)), none⟩, {}⟩, ⟨⟨some 24, (.call (.c (.fn 30 [])) [(.t 19), (.t 22), (.t
  23)]), none⟩, {}⟩, ⟨⟨none, (.store 2 (.t 6) (.t 24)), none⟩, {}⟩] none) fan_Sure_C9) (.seq (.rg [⟨⟨some 26, (.bin .eql (.t 9) (.c (I (-1)))), none⟩, {}⟩, ⟨⟨some 25, (.mov (.t 26)), none⟩, {}⟩] none) fan_Sure_C10))
def fan_Sure_C5 : TC := (.cond (.t 10) (.seq (.rg [⟨⟨some 12, (.load true 4 (.t 3)), none⟩, {}⟩, ⟨⟨some 13, (.fadr 1 (.t 3)), none⟩, {}⟩, ⟨⟨some 14, (.load false 1 (.t 13)), none⟩, {}⟩, ⟨⟨some 15, (.mov (.t 2)), none⟩, {}⟩, ⟨⟨some 16, (.call (.c (.fn 30 [])) [(.t 12), (.t 14), (.t 15)]), none⟩, {}⟩, ⟨⟨none, (.store 2 (.t 6)
  (.t 16)), none⟩, {}⟩] none) fan_Sure_C7) (.seq (.rg [⟨⟨some 18, (.bin .eql (.t 9) (.c (I 2))), none⟩, {}⟩, ⟨⟨some 17, (.mov (.t 18)), none⟩, {}⟩] none) fan_Sure_C8))
def fan_Sure_C3 : TC := (.block 0 (.seq (.rg [⟨⟨some 11, (.bin .eql (.t 9) (.c (I 1))), none⟩, {}⟩, ⟨⟨some 10, (.mov (.t 11)), none⟩, {}⟩] none) fan_Sure_C5))
def fan_Sure_C6 : TC := .ret
def fan_Sure_C4 : TC := (.seq (.rg [⟨⟨some 44, (.build [(I 0), (I 0)] []), none⟩, {}⟩, ⟨⟨none, (.store 2 (.t 6) (.t 44)), none⟩, {}⟩] none) fan_Sure_C6)
def fan_Sure_C2 : TC := (.seq (.seq (.rg [⟨⟨some 9, (.mov (.t 1)), none⟩, {}⟩] none) fan_Sure_C3) fan_Sure_C4)
def fan_Sure_C1 : TC := (.seq (.rg [⟨⟨some 3, (.box (.t 0)), none⟩, {}⟩, ⟨⟨some 6, (.alloc [(I 0), (I 0)]), none⟩, {}⟩] none) fan_Sure_C2)
def fan_Sure_E (N : Nat) : List (Nat × Ent) := [(30, pureE [G_Fan, .bool, (.int .i64)] [G_Point] (fun x => fan_along N x.1 x.2.1 x.2.2))]
def fan_Sure (N : Nat) (a0 : T_Fan) (a1 : Int) (a2 : Int) : Option T_Point :=
  bif (a1 == 1) then
    Option.bind (fan_along N a0 a0.2.1 a2) fun r1 =>
    some r1
  else
    bif (a1 == 2) then
      Option.bind (fan_along N a0 (!a0.2.1) a2) fun r2 =>
      some r2
    else
      bif (a1 == (-1)) then
        Option.bind (fan_along N a0 false a2) fun r3 =>
        Option.bind (fan_along N a0 true a2) fun r4 =>
        some (min (min 0 r3.1) r4.1, max (max 0 r3.2) r4.2)
      else
        some (0, 0)
theorem fan_Sure_fn : FnOK Try.prog 24 45 (fun _ : Nat => false) fan_Sure_C1.er [(.cell 6 true 2)] := FnOK.mk' Try.func24 (by kernel_rfl) (by kernel_rfl) (by kernel_rfl) (by kernel_rfl) (by kernel_rfl)
theorem fan_Sure_envok (N : Nat) : EnvOK Try.prog (fan_Sure_E N) := .cons (pureE_ok (fan_along_pure N)) (.nil)
theorem fan_Sure_pure (N : Nat) : PureOK Try.prog 24 [G_Fan, (.int .i64), (.int .i64)] [G_Point] (fun x => fan_Sure N x.1 x.2.1 x.2.2) := pureOK (N := N) mixed fan_Sure_fn (fan_Sure_envok N) rfl (fun x => by kernel_rfl)
/-! fan_At -/
def fan_At_C5 : TC := .ret
def fan_At_C3 : TC := (.cond (.t 25) (.seq (.rg [⟨⟨some 26, (.build [(I 0), (I 0)] []), none⟩, {}⟩, ⟨⟨none, (.store 2 (.t 6) (.t 26)), none⟩, {}⟩] none) fan_At_C5) .skip)
def fan_At_C6 : TC := .ret
def fan_At_C4 : TC := (.seq (.rg [⟨⟨some 27, (.load true 4 (.t 3)), none⟩, {}⟩, ⟨⟨some 28, (.mov (.t 1)), none⟩, {}⟩, ⟨⟨some 29, (.mov (.t 2)), none⟩, {}⟩, ⟨⟨some 30, (.call (.c (.fn 24 [])) [(.t 27), (.t 28), (.t 29)]), none⟩, {}⟩, ⟨⟨none, (.store 2 (.t 6) (.t 30)), none⟩, {}⟩] none) fan_At_C6)
def fan_At_C2 : TC := (.seq (.seq (.rg [⟨⟨some 7, (.load true 4 (.t 3)), none⟩, {}⟩, ⟨⟨some 8, (.call (.c (.fn 10 [])) [(.t 7)]), none⟩, {}⟩, ⟨⟨some 9, (.bin .neq (.t 8) (.c (I 0))), none⟩, {}⟩, ⟨⟨some 10, (.mov (.t 9)), none⟩, {}⟩, ⟨⟨some 11, (.mov (.t 1)), some (10, false)⟩, {}⟩, ⟨⟨some 12, (.bin .lss (.t 11) (.c (I
  (-1)))), some (10, false)⟩, {}⟩, ⟨⟨some 13, (.pick (.t 10) (.c (B true)) (.t 12)), none⟩, {}⟩, ⟨⟨some 14, (.mov (.t 13)), none⟩, {}⟩, ⟨⟨some 15, (.mov (.t 1)), some (14, false)⟩, {}⟩, ⟨⟨some 16, (.bin .gtr (.t 15) (.c (I 2))), some (14, false)⟩, {}⟩, ⟨⟨some 17, (.pick (.t 14) (.c (B true)) (.t
  16)), none⟩, {}⟩, ⟨⟨some 18, (.mov (.t 17)), none⟩, {}⟩, ⟨⟨some 19, (.mov (.t 2)), some (18, false)⟩, {}⟩, ⟨⟨some 20, (.bin .lss (.t 19) (.c (I (-1048577)))), some (18, false)⟩, {}⟩, ⟨⟨some 21, (.pick (.t 18) (.c (B true)) (.t 20)), none⟩, {}⟩, ⟨⟨some 22, (.mov (.t 21)), none⟩, {}⟩, ⟨⟨some 23,
  (.mov (.t 2)), some (22, false)⟩, {}⟩, ⟨⟨some 24, (.bin .gtr (.t 23) (.c (I 1048577))), some (22, false)⟩, {}⟩, ⟨⟨some 25, (.pick (.t 22) (.c (B true)) (.t 24)), none⟩, {}⟩] none) fan_At_C3) fan_At_C4)
def fan_At_C1 : TC := (.seq (.rg [⟨⟨some 3, (.box (.t 0)), none⟩, {}⟩, ⟨⟨some 6, (.alloc [(I 0), (I 0)]), none⟩, {}⟩] none) fan_At_C2)
def fan_At_E (N : Nat) : List (Nat × Ent) := [(10, pureE [G_Fan] [(.int .i64)] (fun x => fan_Check N x)), (24, pureE [G_Fan, (.int .i64), (.int .i64)] [G_Point] (fun x => fan_Sure N x.1 x.2.1 x.2.2))]
def fan_At (N : Nat) (a0 : T_Fan) (a1 : Int) (a2 : Int) : Option T_Point :=
  Option.bind (fan_Check N a0) fun r1 =>
  bif (r1 != 0) then
    some (0, 0)
  else
    bif (decide (a1 < (-1))) then
      some (0, 0)
    else
      bif (decide (a1 > 2)) then
        some (0, 0)
      else
        bif (decide (a2 < (-1048577))) then
          some (0, 0)
        else
          bif (decide (a2 > 1048577)) then
            some (0, 0)
          else
            Option.bind (fan_Sure N a0 a1 a2) fun r2 =>
            some r2
theorem fan_At_fn : FnOK Try.prog 16 31 (fun _ : Nat => false) fan_At_C1.er [(.cell 6 true 2)] := FnOK.mk' Try.func16 (by kernel_rfl) (by kernel_rfl) (by kernel_rfl) (by kernel_rfl) (by kernel_rfl)
theorem fan_At_envok (N : Nat) : EnvOK Try.prog (fan_At_E N) := .cons (pureE_ok (fan_Check_pure N)) (.cons (pureE_ok (fan_Sure_pure N)) (.nil))
theorem fan_At_pure (N : Nat) : PureOK Try.prog 16 [G_Fan, (.int .i64), (.int .i64)] [G_Point] (fun x => fan_At N x.1 x.2.1 x.2.2) := pureOK (N := N) mixed fan_At_fn (fan_At_envok N) rfl (fun x => by kernel_rfl)
/-! law07_awake -/
def law07_awake_C4 : TC := .ret
def law07_awake_C3 : TC := (.seq (.rg [⟨⟨some 6, (.load true 4 (.t 1)), none⟩, {}⟩, ⟨⟨some 7, (.call (.c (.fn 10 [])) [(.t 6)]), none⟩, {}⟩, ⟨⟨some 8, (.bin .eql (.t 7) (.c (I 0))), none⟩, {}⟩, ⟨⟨some 9, (.mov (.t 8)), none⟩, {}⟩, ⟨⟨some 10, (.load true 4 (.t 1)), some (9, true)⟩, {}⟩, ⟨⟨some 11, (.call (.c (.fn 14 [])) [(.t
  10), (.c (I 1))]), some (9, true)⟩, {}⟩, ⟨⟨some 12, (.build [(I 0), (I 0)] [(0, (1, (.c (I 96)))), (1, (1, (.c (I 97))))]), some (9, true)⟩, {}⟩, ⟨⟨some 13, (.eqa false [(0, 1), (1, 1)] (.t 11) (.t 12)), some (9, true)⟩, {}⟩, ⟨⟨some 14, (.pick (.t 9) (.t 13) (.c (B false))), none⟩, {}⟩, ⟨⟨some 15,
  (.mov (.t 14)), none⟩, {}⟩, ⟨⟨some 16, (.load true 4 (.t 1)), some (15, true)⟩, {}⟩, ⟨⟨some 17, (.call (.c (.fn 14 [])) [(.t 16), (.c (I (-5)))]), some (15, true)⟩, {}⟩, ⟨⟨some 18, (.build [(I 0), (I 0)] [(0, (1, (.c (I 100)))), (1, (1, (.c (I 100))))]), some (15, true)⟩, {}⟩, ⟨⟨some 19, (.eqa
  false [(0, 1), (1, 1)] (.t 17) (.t 18)), some (15, true)⟩, {}⟩, ⟨⟨some 20, (.pick (.t 15) (.t 19) (.c (B false))), none⟩, {}⟩, ⟨⟨some 21, (.mov (.t 20)), none⟩, {}⟩, ⟨⟨some 22, (.load true 4 (.t 1)), some (21, true)⟩, {}⟩, ⟨⟨some 23, (.call (.c (.fn 16 [])) [(.t 22), (.c (I 2)), (.c (I (-3)))]),
  some (21, true)⟩, {}⟩, ⟨⟨some 24, (.build [(I 0), (I 0)] [(0, (1, (.c (I (-90))))), (1, (1, (.c (I (-90)))))]), some (21, true)⟩, {}⟩, ⟨⟨some 25, (.eqa false [(0, 1), (1, 1)] (.t 23) (.t 24)), some (21, true)⟩, {}⟩, ⟨⟨some 26, (.pick (.t 21) (.t 25) (.c (B false))), none⟩, {}⟩, ⟨⟨some 0, (.mov (.t
  26)), none⟩, {}⟩] none) law07_awake_C4)
def law07_awake_C2 : TC := (.seq (.rg [⟨⟨some 2, (.build [(I 0), (I 0)] [(1, (1, (.c (I 100))))]), none⟩, {}⟩, ⟨⟨some 3, (.build [(I 0), (I 0)] [(0, (1, (.c (I 3)))), (1, (1, (.c (I 90))))]), none⟩, {}⟩, ⟨⟨some 4, (.bslice false 2 [(I 0), (I 0)] 2 [(0, (.t 2)), (1, (.t 3))]), none⟩, ⟨G_Point, none⟩⟩, ⟨⟨some 5, (.build [(I 0),
  (B false), (B false), (.lst true [])] [(3, (1, (.t 4)))]), none⟩, {}⟩, ⟨⟨some 1, (.alloc [(I 0), (B false), (B false), (.lst true [])]), none⟩, {}⟩, ⟨⟨none, (.store 4 (.t 1) (.t 5)), none⟩, {}⟩] none) law07_awake_C3)
def law07_awake_C1 : TC := (.seq (.rg [⟨⟨some 0, (.mov (.c (B false))), none⟩, {}⟩] none) law07_awake_C2)
def law07_awake_E (N : Nat) : List (Nat × Ent) := [(10, pureE [G_Fan] [(.int .i64)] (fun x => fan_Check N x)), (14, pureE [G_Fan, (.int .i64)] [G_Point] (fun x => fan_Curve N x.1 x.2)), (16, pureE [G_Fan, (.int .i64), (.int .i64)] [G_Point] (fun x => fan_At N x.1 x.2.1 x.2.2))]
def law07_awake (N : Nat) : Option Bool :=
  Option.bind (fan_Check N (0, (false, (false, [(0, 100), (3, 90)])))) fun r1 =>
  bif (r1 == 0) then
    Option.bind (fan_Curve N (0, (false, (false, [(0, 100), (3, 90)]))) 1) fun r2 =>
    bif ((r2.1 == 96) && (r2.2 == 97)) then
      Option.bind (fan_Curve N (0, (false, (false, [(0, 100), (3, 90)]))) (-5)) fun r3 =>
      bif ((r3.1 == 100) && (r3.2 == 100)) then
        Option.bind (fan_At N (0, (false, (false, [(0, 100), (3, 90)]))) 2 (-3)) fun r4 =>
        some ((r4.1 == (-90)) && (r4.2 == (-90)))
      else
        some false
    else
      some false
  else
    some false
theorem law07_awake_fn : FnOK Try.prog 12 27 (fun _ : Nat => false) law07_awake_C1.er [(.t 0)] := FnOK.mk' Try.func12 (by kernel_rfl) (by kernel_rfl) (by kernel_rfl) (by kernel_rfl) (by kernel_rfl)
theorem law07_awake_envok (N : Nat) : EnvOK Try.prog (law07_awake_E N) := .cons (pureE_ok (fan_Check_pure N)) (.cons (pureE_ok (fan_Curve_pure N)) (.cons (pureE_ok (fan_At_pure N)) (.nil)))
theorem law07_awake_pure (N : Nat) : PureOK Try.prog 12 [] [.bool] (fun x => law07_awake N) := pureOK (N := N) mixed law07_awake_fn (law07_awake_envok N) rfl (fun x => by kernel_rfl)
/-! law07_FanChecks -/
def law07_FanChecks_C4 : TC := .ret
def law07_FanChecks_C3 : TC := (.seq (.rg [⟨⟨some 14, (.load true 4 (.t 9)), none⟩, {}⟩, ⟨⟨some 15, (.call (.c (.fn 10 [])) [(.t 14)]), none⟩, {}⟩, ⟨⟨some 16, (.load true 4 (.t 9)), none⟩, {}⟩, ⟨⟨some 17, (.call (.c (.fn 11 [])) [(.t 16)]), none⟩, {}⟩, ⟨⟨some 18, (.bin .eql (.t 15) (.t 17)), none⟩, {}⟩, ⟨⟨some 19, (.mov (.t 18)),
  none⟩, {}⟩, ⟨⟨some 20, (.load true 4 (.t 5)), some (19, true)⟩, {}⟩, ⟨⟨some 21, (.call (.c (.fn 10 [])) [(.t 20)]), some (19, true)⟩, {}⟩, ⟨⟨some 22, (.load true 4 (.t 5)), some (19, true)⟩, {}⟩, ⟨⟨some 23, (.call (.c (.fn 11 [])) [(.t 22)]), some (19, true)⟩, {}⟩, ⟨⟨some 24, (.bin .eql (.t 21) (.t
  23)), some (19, true)⟩, {}⟩, ⟨⟨some 25, (.pick (.t 19) (.t 24) (.c (B false))), none⟩, {}⟩, ⟨⟨some 26, (.mov (.t 25)), none⟩, {}⟩, ⟨⟨some 27, (.call (.c (.fn 12 [])) []), some (26, true)⟩, {}⟩, ⟨⟨some 28, (.pick (.t 26) (.t 27) (.c (B false))), none⟩, {}⟩, ⟨⟨some 8, (.mov (.t 28)), none⟩, {}⟩]
  (some [(1, 2), (7, 8)])) law07_FanChecks_C4)
def law07_FanChecks_C2 : TC := (.seq (.rg [⟨⟨some 10, (.mov (.t 0)), none⟩, {}⟩, ⟨⟨some 11, (.mov (.t 2)), none⟩, {}⟩, ⟨⟨some 12, (.mov (.t 3)), none⟩, {}⟩, ⟨⟨some 13, (.call (.c (.fn 9 [])) [(.t 10), (.t 11), (.t 12)]), none⟩, {}⟩, ⟨⟨some 9, (.alloc [(I 0), (B false), (B false), (.lst true [])]), none⟩, {}⟩, ⟨⟨none, (.store 4 (.t
  9) (.t 13)), none⟩, {}⟩] none) law07_FanChecks_C3)
def law07_FanChecks_C1 : TC := (.seq (.rg [⟨⟨some 5, (.box (.t 1)), none⟩, {}⟩, ⟨⟨some 8, (.mov (.c (B false))), none⟩, {}⟩] none) law07_FanChecks_C2)
def law07_FanChecks_E (N : Nat) : List (Nat × Ent) := [(9, pureE [(.list (.int .u8)), (.int .i64), (.int .i64)] [G_Fan] (fun x => law07_made N x.1 x.2.1 x.2.2)), (10, pureE [G_Fan] [(.int .i64)] (fun x => fan_Check N x)), (11, pureE [G_Fan] [(.int .i64)] (fun x => ref07_Check N x)), (12, pureE [] [.bool] (fun x => law07_awake N))]
def law07_FanChecks (N : Nat) (a0 : List Int) (a1 : T_Fan) (a2 : Int) (a3 : Int) : Option Bool :=
  Option.bind (law07_made N a0 a2 a3) fun r1 =>
  Option.bind (fan_Check N r1) fun r2 =>
  Option.bind (ref07_Check N r1) fun r3 =>
  bif (r2 == r3) then
    Option.bind (fan_Check N a1) fun r4 =>
    Option.bind (ref07_Check N a1) fun r5 =>
    bif (r4 == r5) then
      Option.bind (law07_awake N) fun r6 =>
      some r6
    else
      some false
  else
    some false
theorem law07_FanChecks_fn : FnOK Try.prog 3 29 (fun _ : Nat => false) law07_FanChecks_C1.er [(.t 8)] := FnOK.mk' Try.func3 (by kernel_rfl) (by kernel_rfl) (by kernel_rfl) (by kernel_rfl) (by kernel_rfl)
theorem law07_FanChecks_envok (N : Nat) : EnvOK Try.prog (law07_FanChecks_E N) := .cons (pureE_ok (law07_made_pure N)) (.cons (pureE_ok (fan_Check_pure N)) (.cons (pureE_ok (ref07_Check_pure N)) (.cons (pureE_ok (law07_awake_pure N)) (.nil))))
theorem law07_FanChecks_pure (N : Nat) : PureOK Try.prog 3 [(.list (.int .u8)), G_Fan, (.int .i64), (.int .i64)] [.bool] (fun x => law07_FanChecks N x.1 x.2.1 x.2.2.1 x.2.2.2) := pureOK (N := N) mixed law07_FanChecks_fn (law07_FanChecks_envok N) rfl (fun x => by kernel_rfl)
/-! ref05_Floor -/
def ref05_Floor_C4 : TC := (.cond (.t 12) (.rg [⟨⟨some 13, (.mov (.t 5)), none⟩, {}⟩, ⟨⟨some 14, (.bin .sub (.t 13) (.c (I 1))), none⟩, {}⟩, ⟨⟨some 5, (.mov (.t 14)), none⟩, {}⟩] none) .skip)
def ref05_Floor_C6 : TC := .ret
def ref05_Floor_C5 : TC := (.seq (.rg [⟨⟨some 15, (.mov (.t 5)), none⟩, {}⟩, ⟨⟨some 4, (.mov (.t 15)), none⟩, {}⟩] none) ref05_Floor_C6)
def ref05_Floor_C3 : TC := (.seq (.seq (.rg [⟨⟨some 9, (.mov (.t 0)), none⟩, {}⟩, ⟨⟨some 10, (.mov (.t 1)), none⟩, {}⟩, ⟨⟨some 11, (.bin .rem (.t 9) (.t 10)), none⟩, {}⟩, ⟨⟨some 12, (.bin .lss (.t 11) (.c (I 0))), none⟩, {}⟩] none) ref05_Floor_C4) ref05_Floor_C5)
def ref05_Floor_C2 : TC := (.seq (.rg [⟨⟨some 6, (.mov (.t 0)), none⟩, {}⟩, ⟨⟨some 7, (.mov (.t 1)), none⟩, {}⟩, ⟨⟨some 8, (.bin .quo (.t 6) (.t 7)), none⟩, {}⟩, ⟨⟨some 5, (.mov (.t 8)), none⟩, {}⟩] none) ref05_Floor_C3)
def ref05_Floor_C1 : TC := (.seq (.rg [⟨⟨some 4, (.mov (.c (I 0))), none⟩, {}⟩] none) ref05_Floor_C2)
def ref05_Floor_E (N : Nat) : List (Nat × Ent) := []
def ref05_Floor (N : Nat) (a0 : Int) (a1 : Int) : Option Int :=
  bif a1 == 0 then none else
  bif a1 == 0 then none else
  bif (decide ((a0.tmod a1) < 0)) then
    some (W ((W (a0.tdiv a1)) - 1))
  else
    some (W (a0.tdiv a1))
theorem ref05_Floor_fn : FnOK Try.prog 28 16 (fun _ : Nat => false) ref05_Floor_C1.er [(.t 4)] := FnOK.mk' Try.func28 (by kernel_rfl) (by kernel_rfl) (by kernel_rfl) (by kernel_rfl) (by kernel_rfl)
theorem ref05_Floor_envok (N : Nat) : EnvOK Try.prog (ref05_Floor_E N) := .nil
theorem ref05_Floor_pure (N : Nat) : PureOK Try.prog 28 [(.int .i64), (.int .i64)] [(.int .i64)] (fun x => ref05_Floor N x.1 x.2) := pureOK (N := N) mixed ref05_Floor_fn (ref05_Floor_envok N) rfl (fun x => by kernel_rfl)
/-! ref05_Ceil -/
def ref05_Ceil_C3 : TC := .ret
def ref05_Ceil_C2 : TC := (.seq (.rg [⟨⟨some 5, (.mov (.t 0)), none⟩, {}⟩, ⟨⟨some 6, (.un .neg (.t 5)), none⟩, {}⟩, ⟨⟨some 7, (.mov (.t 1)), none⟩, {}⟩, ⟨⟨some 8, (.call (.c (.fn 28 [])) [(.t 6), (.t 7)]), none⟩, {}⟩, ⟨⟨some 9, (.un .neg (.t 8)), none⟩, {}⟩, ⟨⟨some 4, (.mov (.t 9)), none⟩, {}⟩] none) ref05_Ceil_C3)
def ref05_Ceil_C1 : TC := (.seq (.rg [⟨⟨some 4, (.mov (.c (I 0))), none⟩, {}⟩] none) ref05_Ceil_C2)
def ref05_Ceil_E (N : Nat) : List (Nat × Ent) := [(28, pureE [(.int .i64), (.int .i64)] [(.int .i64)] (fun x => ref05_Floor N x.1 x.2))]
def ref05_Ceil (N : Nat) (a0 : Int) (a1 : Int) : Option Int :=
  Option.bind (ref05_Floor N (W (0 - a0)) a1) fun r1 =>
  some (W (0 - r1))
theorem ref05_Ceil_fn : FnOK Try.prog 29 10 (fun _ : Nat => false) ref05_Ceil_C1.er [(.t 4)] := FnOK.mk' Try.func29 (by kernel_rfl) (by kernel_rfl) (by kernel_rfl) (by kernel_rfl) (by kernel_rfl)
theorem ref05_Ceil_envok (N : Nat) : EnvOK Try.prog (ref05_Ceil_E N) := .cons (pureE_ok (ref05_Floor_pure N)) (.nil)
theorem ref05_Ceil_pure (N : Nat) : PureOK Try.prog 29 [(.int .i64), (.int .i64)] [(.int .i64)] (fun x => ref05_Ceil N x.1 x.2) := pureOK (N := N) mixed ref05_Ceil_fn (ref05_Ceil_envok N) rfl (fun x => by kernel_rfl)
/-! ref07_Inner -/
def ref07_Inner_N1 : List NS := [.keep [1, 2, 4, 6], .cmp]
def ref07_Inner_C4 : TC := (.cond (.t 64) .skip (.exit 0))
def ref07_Inner_C5 : TC := (.block 1 (.rg [⟨⟨some 65, (.mov (.t 6)), none⟩, {}⟩, ⟨⟨some 66, (.bin .add (.t 65) (.c (I 1))), none⟩, {}⟩, ⟨⟨some 6, (.mov (.t 66)), none⟩, {}⟩] none))
def ref07_Inner_C1 : TC := (.seq (.seq (.rg [⟨⟨some 56, (.fadr 3 (.t 2)), none⟩, {}⟩, ⟨⟨some 57, (.load false 1 (.t 56)), none⟩, {}⟩, ⟨⟨some 58, (.mov (.t 6)), none⟩, {}⟩, ⟨⟨some 59, (.bin .add (.t 58) (.c (I 1))), none⟩, {}⟩, ⟨⟨some 60, (.iadrS 2 (.t 57) (.t 59)), none⟩, {}⟩, ⟨⟨some 61, (.fadr 0 (.t 60)), none⟩, {}⟩, ⟨⟨some
  62, (.load false 1 (.t 61)), none⟩, {}⟩, ⟨⟨some 63, (.mov (.t 1)), none⟩, {}⟩, ⟨⟨some 64, (.bin .leq (.t 62) (.t 63)), none⟩, {}⟩] none) ref07_Inner_C4) ref07_Inner_C5)
def ref07_Inner_C10 : TC := .ret
def ref07_Inner_C8 : TC := (.seq (.rg [⟨⟨some 93, (.fadr 1 (.t 7)), none⟩, {}⟩, ⟨⟨some 94, (.load false 1 (.t 93)), none⟩, {}⟩, ⟨⟨some 95, (.mov (.t 9)), none⟩, {}⟩, ⟨⟨some 96, (.mov (.t 10)), none⟩, {}⟩, ⟨⟨some 97, (.call (.c (.fn 28 [])) [(.t 95), (.t 96)]), none⟩, {}⟩, ⟨⟨some 98, (.bin .add (.t 94) (.t 97)), none⟩, {}⟩,
  ⟨⟨some 99, (.fadr 1 (.t 7)), none⟩, {}⟩, ⟨⟨some 100, (.load false 1 (.t 99)), none⟩, {}⟩, ⟨⟨some 101, (.mov (.t 9)), none⟩, {}⟩, ⟨⟨some 102, (.mov (.t 10)), none⟩, {}⟩, ⟨⟨some 103, (.call (.c (.fn 29 [])) [(.t 101), (.t 102)]), none⟩, {}⟩, ⟨⟨some 104, (.bin .add (.t 100) (.t 103)), none⟩, {}⟩,
  ⟨⟨some 105, (.build [(I 0), (I 0)] [(0, (1, (.t 98))), (1, (1, (.t 104)))]), none⟩, {}⟩, ⟨⟨none, (.store 2 (.t 4) (.t 105)), none⟩, {}⟩] (some [(0, 4), (1, 4), (4, 6), (4, 7), (0, 10), (1, 10), (6, 10), (7, 10)])) ref07_Inner_C10)
def ref07_Inner_C6 : TC := (.seq (.rg [⟨⟨some 78, (.fadr 1 (.t 8)), none⟩, {}⟩, ⟨⟨some 79, (.load false 1 (.t 78)), none⟩, {}⟩, ⟨⟨some 80, (.fadr 1 (.t 7)), none⟩, {}⟩, ⟨⟨some 81, (.load false 1 (.t 80)), none⟩, {}⟩, ⟨⟨some 82, (.bin .sub (.t 79) (.t 81)), none⟩, {}⟩, ⟨⟨some 83, (.mov (.t 1)), none⟩, {}⟩, ⟨⟨some 84, (.fadr 0
  (.t 7)), none⟩, {}⟩, ⟨⟨some 85, (.load false 1 (.t 84)), none⟩, {}⟩, ⟨⟨some 86, (.bin .sub (.t 83) (.t 85)), none⟩, {}⟩, ⟨⟨some 87, (.bin .mul (.t 82) (.t 86)), none⟩, {}⟩, ⟨⟨some 88, (.fadr 0 (.t 8)), none⟩, {}⟩, ⟨⟨some 89, (.load false 1 (.t 88)), none⟩, {}⟩, ⟨⟨some 90, (.fadr 0 (.t 7)), none⟩,
  {}⟩, ⟨⟨some 91, (.load false 1 (.t 90)), none⟩, {}⟩, ⟨⟨some 92, (.bin .sub (.t 89) (.t 91)), none⟩, {}⟩, ⟨⟨some 9, (.mov (.t 87)), none⟩, {}⟩, ⟨⟨some 10, (.mov (.t 92)), none⟩, {}⟩] (some [])) ref07_Inner_C8)
def ref07_Inner_C2 : TC := (.seq (.pre [.wait, .wait] (.rg [⟨⟨some 67, (.fadr 3 (.t 2)), none⟩, {}⟩, ⟨⟨some 68, (.load false 1 (.t 67)), none⟩, {}⟩, ⟨⟨some 69, (.mov (.t 6)), none⟩, {}⟩, ⟨⟨some 70, (.iadrS 2 (.t 68) (.t 69)), none⟩, {}⟩, ⟨⟨some 71, (.load true 2 (.t 70)), none⟩, {}⟩, ⟨⟨some 72, (.fadr 3 (.t 2)), none⟩, {}⟩,
  ⟨⟨some 73, (.load false 1 (.t 72)), none⟩, {}⟩, ⟨⟨some 74, (.mov (.t 6)), none⟩, {}⟩, ⟨⟨some 75, (.bin .add (.t 74) (.c (I 1))), none⟩, {}⟩, ⟨⟨some 76, (.iadrS 2 (.t 73) (.t 75)), none⟩, {}⟩, ⟨⟨some 77, (.load true 2 (.t 76)), none⟩, {}⟩, ⟨⟨some 7, (.alloc [(I 0), (I 0)]), none⟩, ⟨.unit, some 2⟩⟩,
  ⟨⟨some 8, (.alloc [(I 0), (I 0)]), none⟩, ⟨.unit, some 3⟩⟩, ⟨⟨none, (.store 2 (.t 7) (.t 71)), none⟩, {}⟩, ⟨⟨none, (.store 2 (.t 8) (.t 77)), none⟩, {}⟩] (some [(0, 11), (1, 11), (3, 11), (4, 11), (5, 11), (6, 11), (9, 11), (10, 11), (0, 12), (1, 12), (3, 12), (4, 12), (5, 12), (6, 12), (9, 12),
  (10, 12), (11, 12), (5, 13), (6, 13), (9, 13), (10, 13)]))) ref07_Inner_C6)
def ref07_Inner_C13 : TC := .ret
def ref07_Inner_C11 : TC := (.cond (.t 20) (.seq (.rg [⟨⟨some 21, (.fadr 3 (.t 2)), none⟩, {}⟩, ⟨⟨some 22, (.load false 1 (.t 21)), none⟩, {}⟩, ⟨⟨some 23, (.iadrS 2 (.t 22) (.c (I 0))), none⟩, {}⟩, ⟨⟨some 24, (.fadr 1 (.t 23)), none⟩, {}⟩, ⟨⟨some 25, (.load false 1 (.t 24)), none⟩, {}⟩, ⟨⟨some 26, (.fadr 3 (.t 2)), none⟩, {}⟩,
  ⟨⟨some 27, (.load false 1 (.t 26)), none⟩, {}⟩, ⟨⟨some 28, (.iadrS 2 (.t 27) (.c (I 0))), none⟩, {}⟩, ⟨⟨some 29, (.fadr 1 (.t 28)), none⟩, {}⟩, ⟨⟨some 30, (.load false 1 (.t 29)), none⟩, {}⟩, ⟨⟨some 31, (.build [(I 0), (I 0)] [(0, (1, (.t 25))), (1, (1, (.t 30)))]), none⟩, {}⟩, ⟨⟨none, (.store 2
  (.t 4) (.t 31)), none⟩, {}⟩] (some [])) ref07_Inner_C13) .skip)
def ref07_Inner_C16 : TC := .ret
def ref07_Inner_C14 : TC := (.cond (.t 40) (.seq (.rg [⟨⟨some 41, (.fadr 3 (.t 2)), none⟩, {}⟩, ⟨⟨some 42, (.load false 1 (.t 41)), none⟩, {}⟩, ⟨⟨some 43, (.mov (.t 5)), none⟩, {}⟩, ⟨⟨some 44, (.bin .sub (.t 43) (.c (I 1))), none⟩, {}⟩, ⟨⟨some 45, (.iadrS 2 (.t 42) (.t 44)), none⟩, {}⟩, ⟨⟨some 46, (.fadr 1 (.t 45)), none⟩, {}⟩,
  ⟨⟨some 47, (.load false 1 (.t 46)), none⟩, {}⟩, ⟨⟨some 48, (.fadr 3 (.t 2)), none⟩, {}⟩, ⟨⟨some 49, (.load false 1 (.t 48)), none⟩, {}⟩, ⟨⟨some 50, (.mov (.t 5)), none⟩, {}⟩, ⟨⟨some 51, (.bin .sub (.t 50) (.c (I 1))), none⟩, {}⟩, ⟨⟨some 52, (.iadrS 2 (.t 49) (.t 51)), none⟩, {}⟩, ⟨⟨some 53, (.fadr
  1 (.t 52)), none⟩, {}⟩, ⟨⟨some 54, (.load false 1 (.t 53)), none⟩, {}⟩, ⟨⟨some 55, (.build [(I 0), (I 0)] [(0, (1, (.t 47))), (1, (1, (.t 54)))]), none⟩, {}⟩, ⟨⟨none, (.store 2 (.t 4) (.t 55)), none⟩, {}⟩] (some [])) ref07_Inner_C16) .skip)
def ref07_Inner_C17 : TC := (.seq (.block 0 (.loop ref07_Inner_N1 ref07_Inner_C1)) ref07_Inner_C2)
def ref07_Inner_C15 : TC := (.seq (.rg [⟨⟨some 6, (.mov (.c (I 0))), none⟩, {}⟩] none) ref07_Inner_C17)
def ref07_Inner_C12 : TC := (.seq (.seq (.rg [⟨⟨some 32, (.mov (.t 1)), none⟩, {}⟩, ⟨⟨some 33, (.fadr 3 (.t 2)), none⟩, {}⟩, ⟨⟨some 34, (.load false 1 (.t 33)), none⟩, {}⟩, ⟨⟨some 35, (.mov (.t 5)), none⟩, {}⟩, ⟨⟨some 36, (.bin .sub (.t 35) (.c (I 1))), none⟩, {}⟩, ⟨⟨some 37, (.iadrS 2 (.t 34) (.t 36)), none⟩, {}⟩, ⟨⟨some 38,
  (.fadr 0 (.t 37)), none⟩, {}⟩, ⟨⟨some 39, (.load false 1 (.t 38)), none⟩, {}⟩, ⟨⟨some 40, (.bin .geq (.t 32) (.t 39)), none⟩, {}⟩] none) ref07_Inner_C14) ref07_Inner_C15)
def ref07_Inner_C9 : TC := (.seq (.seq (.rg [⟨⟨some 14, (.mov (.t 1)), none⟩, {}⟩, ⟨⟨some 15, (.fadr 3 (.t 2)), none⟩, {}⟩, ⟨⟨some 16, (.load false 1 (.t 15)), none⟩, {}⟩, ⟨⟨some 17, (.iadrS 2 (.t 16) (.c (I 0))), none⟩, {}⟩, ⟨⟨some 18, (.fadr 0 (.t 17)), none⟩, {}⟩, ⟨⟨some 19, (.load false 1 (.t 18)), none⟩, {}⟩, ⟨⟨some 20,
  (.bin .leq (.t 14) (.t 19)), none⟩, {}⟩] none) ref07_Inner_C11) ref07_Inner_C12)
def ref07_Inner_C7 : TC := (.seq (.rg [⟨⟨some 11, (.fadr 3 (.t 2)), none⟩, {}⟩, ⟨⟨some 12, (.load false 1 (.t 11)), none⟩, {}⟩, ⟨⟨some 13, (.len (.t 12)), none⟩, {}⟩, ⟨⟨some 5, (.mov (.t 13)), none⟩, {}⟩] none) ref07_Inner_C9)
def ref07_Inner_C3 : TC := (.seq (.rg [⟨⟨some 2, (.box (.t 0)), none⟩, {}⟩, ⟨⟨some 4, (.alloc [(I 0), (I 0)]), none⟩, {}⟩] none) ref07_Inner_C7)
def ref07_Inner_E (N : Nat) : List (Nat × Ent) := [(28, pureE [(.int .i64), (.int .i64)] [(.int .i64)] (fun x => ref05_Floor N x.1 x.2)), (29, pureE [(.int .i64), (.int .i64)] [(.int .i64)] (fun x => ref05_Ceil N x.1 x.2))]
def ref07_Inner_L1 (N : Nat) (n : Nat) (x10 : Int) (x11 : Int) (x12 : Int) (x13 : Bool) (x14 : Bool) (x15 : List T_Point) (x16 : Int) (x17 : Int) : Option T_Point := loopN (normI 0 ref07_Inner_N1) (run (ref07_Inner_E N) N 0 ref07_Inner_C1) n ⟨[(1, .int .i64 x10), (2, .ptr 0 0 0), (4, .ptr 1 0 0), (6, .int .i64 x11)], [some (.box 0 [.int .i64 x12, .bool x13, .bool x14, .lst false G_Point x15]), some (.box 0 [.int .i64 x16, .int .i64 x17])]⟩ (blkK 0 (seqK (run (ref07_Inner_E N) N 0 ref07_Inner_C2) (fin [(.cell 4 true 2)] [G_Point])))
theorem ref07_Inner_L1_zero (N : Nat) (x10 : Int) (x11 : Int) (x12 : Int) (x13 : Bool) (x14 : Bool) (x15 : List T_Point) (x16 : Int) (x17 : Int) : ref07_Inner_L1 N 0 x10 x11 x12 x13 x14 x15 x16 x17 = none := rfl
theorem ref07_Inner_L1_succ (N : Nat) (n1 : Nat) (x10 : Int) (x11 : Int) (x12 : Int) (x13 : Bool) (x14 : Bool) (x15 : List T_Point) (x16 : Int) (x17 : Int) : ref07_Inner_L1 N (n1 + 1) x10 x11 x12 x13 x14 x15 x16 x17 =
  bif inB (W (x11 + 1)) x15.length then
  bif (decide ((x15.getD (W (x11 + 1)).toNat D_Point).1 ≤ x10)) then
    ref07_Inner_L1 N n1 x10 (W (x11 + 1)) x12 x13 x14 x15 x16 x17
  else
    bif inB x11 x15.length then
    let v27 := x15.getD x11.toNat D_Point
    bif inB (W (x11 + 1)) x15.length then
    let v28 := x15.getD (W (x11 + 1)).toNat D_Point
    let v29 := W ((W (v28.2 - v27.2)) * (W (x10 - v27.1)))
    Option.bind (ref05_Floor N v29 (W (v28.1 - v27.1))) fun r30 =>
    Option.bind (ref05_Ceil N v29 (W (v28.1 - v27.1))) fun r31 =>
    some (W (v27.2 + r30), W (v27.2 + r31))
    else none
    else none
  else none := by kernel_rfl
def ref07_Inner (N : Nat) (a0 : T_Fan) (a1 : Int) : Option T_Point :=
  bif inB 0 a0.2.2.2.length then
  bif (decide (a1 ≤ (a0.2.2.2.getD (0 : Int).toNat D_Point).1)) then
    bif inB 0 a0.2.2.2.length then
    bif inB 0 a0.2.2.2.length then
    some ((a0.2.2.2.getD (0 : Int).toNat D_Point).2, (a0.2.2.2.getD (0 : Int).toNat D_Point).2)
    else none
    else none
  else
    let v4 := W ((a0.2.2.2.length : Int) - 1)
    bif inB v4 a0.2.2.2.length then
    bif (decide (a1 ≥ (a0.2.2.2.getD v4.toNat D_Point).1)) then
      let v6 := W ((a0.2.2.2.length : Int) - 1)
      bif inB v6 a0.2.2.2.length then
      let v8 := W ((a0.2.2.2.length : Int) - 1)
      bif inB v8 a0.2.2.2.length then
      some ((a0.2.2.2.getD v6.toNat D_Point).2, (a0.2.2.2.getD v8.toNat D_Point).2)
      else none
      else none
    else
      ref07_Inner_L1 N N a1 0 a0.1 a0.2.1 a0.2.2.1 a0.2.2.2 0 0
    else none
  else none
theorem ref07_Inner_fn : FnOK Try.prog 23 106 (fun _ : Nat => false) ref07_Inner_C3.er [(.cell 4 true 2)] := FnOK.mk' Try.func23 (by kernel_rfl) (by kernel_rfl) (by kernel_rfl) (by kernel_rfl) (by kernel_rfl)
theorem ref07_Inner_envok (N : Nat) : EnvOK Try.prog (ref07_Inner_E N) := .cons (pureE_ok (ref05_Floor_pure N)) (.cons (pureE_ok (ref05_Ceil_pure N)) (.nil))
theorem ref07_Inner_pure (N : Nat) : PureOK Try.prog 23 [G_Fan, (.int .i64)] [G_Point] (fun x => ref07_Inner N x.1 x.2) := pureOK (N := N) mixed ref07_Inner_fn (ref07_Inner_envok N) rfl (fun x => by kernel_rfl)
/-! ref07_Curve -/
def ref07_Curve_C5 : TC := .ret
def ref07_Curve_C3 : TC := (.cond (.t 7) (.seq (.rg [⟨⟨some 8, (.build [(I 0), (I 0)] []), none⟩, {}⟩, ⟨⟨none, (.store 2 (.t 4) (.t 8)), none⟩, {}⟩] none) ref07_Curve_C5) .skip)
def ref07_Curve_C6 : TC := .ret
def ref07_Curve_C4 : TC := (.seq (.rg [⟨⟨some 9, (.load true 4 (.t 2)), none⟩, {}⟩, ⟨⟨some 10, (.mov (.t 1)), none⟩, {}⟩, ⟨⟨some 11, (.call (.c (.fn 23 [])) [(.t 9), (.t 10)]), none⟩, {}⟩, ⟨⟨none, (.store 2 (.t 4) (.t 11)), none⟩, {}⟩] none) ref07_Curve_C6)
def ref07_Curve_C2 : TC := (.seq (.seq (.rg [⟨⟨some 5, (.load true 4 (.t 2)), none⟩, {}⟩, ⟨⟨some 6, (.call (.c (.fn 11 [])) [(.t 5)]), none⟩, {}⟩, ⟨⟨some 7, (.bin .neq (.t 6) (.c (I 0))), none⟩, {}⟩] none) ref07_Curve_C3) ref07_Curve_C4)
def ref07_Curve_C1 : TC := (.seq (.rg [⟨⟨some 2, (.box (.t 0)), none⟩, {}⟩, ⟨⟨some 4, (.alloc [(I 0), (I 0)]), none⟩, {}⟩] none) ref07_Curve_C2)
def ref07_Curve_E (N : Nat) : List (Nat × Ent) := [(11, pureE [G_Fan] [(.int .i64)] (fun x => ref07_Check N x)), (23, pureE [G_Fan, (.int .i64)] [G_Point] (fun x => ref07_Inner N x.1 x.2))]
def ref07_Curve (N : Nat) (a0 : T_Fan) (a1 : Int) : Option T_Point :=
  Option.bind (ref07_Check N a0) fun r1 =>
  bif (r1 != 0) then
    some (0, 0)
  else
    Option.bind (ref07_Inner N a0 a1) fun r2 =>
    some r2
theorem ref07_Curve_fn : FnOK Try.prog 15 12 (fun _ : Nat => false) ref07_Curve_C1.er [(.cell 4 true 2)] := FnOK.mk' Try.func15 (by kernel_rfl) (by kernel_rfl) (by kernel_rfl) (by kernel_rfl) (by kernel_rfl)
theorem ref07_Curve_envok (N : Nat) : EnvOK Try.prog (ref07_Curve_E N) := .cons (pureE_ok (ref07_Check_pure N)) (.cons (pureE_ok (ref07_Inner_pure N)) (.nil))
theorem ref07_Curve_pure (N : Nat) : PureOK Try.prog 15 [G_Fan, (.int .i64)] [G_Point] (fun x => ref07_Curve N x.1 x.2) := pureOK (N := N) mixed ref07_Curve_fn (ref07_Curve_envok N) rfl (fun x => by kernel_rfl)
/-! law07_FanCurves -/
def law07_FanCurves_N1 : List NS := [.wk 22 (.list G_Fan), .keep [4, 11, 22, 23, 24], .cmp]
def law07_FanCurves_C13 : TC := .ret
def law07_FanCurves_C12 : TC := (.cond (.t 43) (.seq (.rg [⟨⟨some 10, (.mov (.c (B false))), none⟩, {}⟩] none) law07_FanCurves_C13) .skip)
def law07_FanCurves_C9 : TC := (.seq (.rg [⟨⟨some 28, (.load true 4 (.t 13)), none⟩, {}⟩, ⟨⟨some 29, (.mov (.t 4)), none⟩, {}⟩, ⟨⟨some 30, (.call (.c (.fn 14 [])) [(.t 28), (.t 29)]), none⟩, {}⟩, ⟨⟨some 31, (.load true 4 (.t 13)), none⟩, {}⟩, ⟨⟨some 32, (.mov (.t 4)), none⟩, {}⟩, ⟨⟨some 33, (.call (.c (.fn 15 [])) [(.t 31), (.t
  32)]), none⟩, {}⟩, ⟨⟨some 34, (.eqa true [(0, 1), (1, 1)] (.t 30) (.t 33)), none⟩, {}⟩, ⟨⟨some 35, (.mov (.t 34)), none⟩, {}⟩, ⟨⟨some 36, (.load true 4 (.t 13)), some (35, false)⟩, {}⟩, ⟨⟨some 37, (.mov (.t 11)), some (35, false)⟩, {}⟩, ⟨⟨some 38, (.call (.c (.fn 14 [])) [(.t 36), (.t 37)]), some
  (35, false)⟩, {}⟩, ⟨⟨some 39, (.load true 4 (.t 13)), some (35, false)⟩, {}⟩, ⟨⟨some 40, (.mov (.t 11)), some (35, false)⟩, {}⟩, ⟨⟨some 41, (.call (.c (.fn 15 [])) [(.t 39), (.t 40)]), some (35, false)⟩, {}⟩, ⟨⟨some 42, (.eqa true [(0, 1), (1, 1)] (.t 38) (.t 41)), some (35, false)⟩, {}⟩, ⟨⟨some
  43, (.pick (.t 35) (.c (B true)) (.t 42)), none⟩, {}⟩] (some [(2, 3), (10, 11)])) law07_FanCurves_C12)
def law07_FanCurves_C10 : TC := (.rg [⟨⟨some 44, (.bin .add (.t 24) (.c (I 1))), none⟩, {}⟩, ⟨⟨some 24, (.mov (.t 44)), none⟩, {}⟩] none)
def law07_FanCurves_C7 : TC := (.seq (.block 1 (.seq (.rg [⟨⟨some 26, (.iadrS 4 (.t 22) (.t 24)), none⟩, {}⟩, ⟨⟨some 27, (.load true 4 (.t 26)), none⟩, {}⟩, ⟨⟨some 13, (.alloc [(I 0), (B false), (B false), (.lst true [])]), none⟩, {}⟩, ⟨⟨none, (.store 4 (.t 13) (.t 27)), none⟩, {}⟩] none) law07_FanCurves_C9)) law07_FanCurves_C10)
def law07_FanCurves_C4 : TC := (.seq (.cond (.t 25) .skip (.exit 0)) law07_FanCurves_C7)
def law07_FanCurves_C1 : TC := (.seq (.rg [⟨⟨some 25, (.bin .lss (.t 24) (.t 23)), none⟩, {}⟩] none) law07_FanCurves_C4)
def law07_FanCurves_C5 : TC := .ret
def law07_FanCurves_C2 : TC := (.seq (.rg [⟨⟨some 45, (.call (.c (.fn 12 [])) []), none⟩, {}⟩, ⟨⟨some 10, (.mov (.t 45)), none⟩, {}⟩] none) law07_FanCurves_C5)
def law07_FanCurves_C11 : TC := (.block 0 (.loop law07_FanCurves_N1 law07_FanCurves_C1))
def law07_FanCurves_C8 : TC := (.seq (.seq (.rg [⟨⟨some 17, (.mov (.t 0)), none⟩, {}⟩, ⟨⟨some 18, (.mov (.t 2)), none⟩, {}⟩, ⟨⟨some 19, (.mov (.t 3)), none⟩, {}⟩, ⟨⟨some 20, (.call (.c (.fn 9 [])) [(.t 17), (.t 18), (.t 19)]), none⟩, {}⟩, ⟨⟨some 21, (.load true 4 (.t 6)), none⟩, {}⟩, ⟨⟨some 22, (.bslice false 4 [(I 0), (B false),
  (B false), (.lst true [])] 2 [(0, (.t 20)), (1, (.t 21))]), none⟩, ⟨G_Fan, none⟩⟩, ⟨⟨some 23, (.len (.t 22)), none⟩, {}⟩, ⟨⟨some 24, (.mov (.c (I 0))), none⟩, {}⟩] (some [(3, 4)])) law07_FanCurves_C11) law07_FanCurves_C2)
def law07_FanCurves_C6 : TC := (.seq (.rg [⟨⟨some 14, (.mov (.t 4)), none⟩, {}⟩, ⟨⟨some 15, (.call (.c (.fn 13 [])) [(.t 14), (.c (I 300))]), none⟩, {}⟩, ⟨⟨some 16, (.bin .sub (.t 15) (.c (I 100))), none⟩, {}⟩, ⟨⟨some 11, (.mov (.t 16)), none⟩, {}⟩] none) law07_FanCurves_C8)
def law07_FanCurves_C3 : TC := (.seq (.rg [⟨⟨some 6, (.box (.t 1)), none⟩, {}⟩, ⟨⟨some 10, (.mov (.c (B false))), none⟩, {}⟩] none) law07_FanCurves_C6)
def law07_FanCurves_E (N : Nat) : List (Nat × Ent) := [(13, pureE [(.int .i64), (.int .i64)] [(.int .i64)] (fun x => draw_Mod N x.1 x.2)), (9, pureE [(.list (.int .u8)), (.int .i64), (.int .i64)] [G_Fan] (fun x => law07_made N x.1 x.2.1 x.2.2)), (14, pureE [G_Fan, (.int .i64)] [G_Point] (fun x => fan_Curve N x.1 x.2)), (15, pureE [G_Fan, (.int .i64)] [G_Point] (fun x => ref07_Curve N x.1 x.2)), (12, pureE [] [.bool] (fun x => law07_awake N))]
def law07_FanCurves_L1 (N : Nat) (n : Nat) (x3 : Int) (x4 : Int) (x5 : List T_Fan) (x6 : Int) (x7 : Int) : Option Bool := loopN (normI 0 law07_FanCurves_N1) (run (law07_FanCurves_E N) N 0 law07_FanCurves_C1) n ⟨[(4, .int .i64 x3), (11, .int .i64 x4), (22, .lst false G_Fan x5), (23, .int .i64 x6), (24, .int .i64 x7)], []⟩ (blkK 0 (seqK (run (law07_FanCurves_E N) N 0 law07_FanCurves_C2) (fin [(.t 10)] [.bool])))
theorem law07_FanCurves_L1_zero (N : Nat) (x3 : Int) (x4 : Int) (x5 : List T_Fan) (x6 : Int) (x7 : Int) : law07_FanCurves_L1 N 0 x3 x4 x5 x6 x7 = none := rfl
theorem law07_FanCurves_L1_succ (N : Nat) (n1 : Nat) (x3 : Int) (x4 : Int) (x5 : List T_Fan) (x6 : Int) (x7 : Int) : law07_FanCurves_L1 N (n1 + 1) x3 x4 x5 x6 x7 =
  bif (decide (x7 < x6)) then
    bif inB x7 x5.length then
    Option.bind (fan_Curve N (x5.getD x7.toNat D_Fan) x3) fun r9 =>
    Option.bind (ref07_Curve N (x5.getD x7.toNat D_Fan) x3) fun r10 =>
    bif (!((r9.1 == r10.1) && (r9.2 == r10.2))) then
      some false
    else
      Option.bind (fan_Curve N (x5.getD x7.toNat D_Fan) x4) fun r11 =>
      Option.bind (ref07_Curve N (x5.getD x7.toNat D_Fan) x4) fun r12 =>
      bif (!((r11.1 == r12.1) && (r11.2 == r12.2))) then
        some false
      else
        law07_FanCurves_L1 N n1 x3 x4 x5 x6 (W (x7 + 1))
    else none
  else
    Option.bind (law07_awake N) fun r18 =>
    some r18 := by kernel_rfl
def law07_FanCurves (N : Nat) (a0 : List Int) (a1 : T_Fan) (a2 : Int) (a3 : Int) (a4 : Int) : Option Bool :=
  Option.bind (draw_Mod N a4 300) fun r1 =>
  Option.bind (law07_made N a0 a2 a3) fun r2 =>
  law07_FanCurves_L1 N N a4 (W (r1 - 100)) [r2, a1] ([r2, a1].length : Int) 0
theorem law07_FanCurves_fn : FnOK Try.prog 4 46 (fun _ : Nat => false) law07_FanCurves_C3.er [(.t 10)] := FnOK.mk' Try.func4 (by kernel_rfl) (by kernel_rfl) (by kernel_rfl) (by kernel_rfl) (by kernel_rfl)
theorem law07_FanCurves_envok (N : Nat) : EnvOK Try.prog (law07_FanCurves_E N) := .cons (pureE_ok (draw_Mod_pure N)) (.cons (pureE_ok (law07_made_pure N)) (.cons (pureE_ok (fan_Curve_pure N)) (.cons (pureE_ok (ref07_Curve_pure N)) (.cons (pureE_ok (law07_awake_pure N)) (.nil)))))
theorem law07_FanCurves_pure (N : Nat) : PureOK Try.prog 4 [(.list (.int .u8)), G_Fan, (.int .i64), (.int .i64), (.int .i64)] [.bool] (fun x => law07_FanCurves N x.1 x.2.1 x.2.2.1 x.2.2.2.1 x.2.2.2.2) := pureOK (N := N) mixed law07_FanCurves_fn (law07_FanCurves_envok N) rfl (fun x => by kernel_rfl)
/-! ref07_Along -/
def ref07_Along_C7 : TC := .ret
def ref07_Along_C5 : TC := (.seq (.rg [⟨⟨some 13, (.fadr 1 (.t 7)), none⟩, {}⟩, ⟨⟨some 14, (.load false 1 (.t 13)), none⟩, {}⟩, ⟨⟨some 15, (.un .neg (.t 14)), none⟩, {}⟩, ⟨⟨some 16, (.fadr 0 (.t 7)), none⟩, {}⟩, ⟨⟨some 17, (.load false 1 (.t 16)), none⟩, {}⟩, ⟨⟨some 18, (.un .neg (.t 17)), none⟩, {}⟩, ⟨⟨some 19, (.build [(I
  0), (I 0)] [(0, (1, (.t 15))), (1, (1, (.t 18)))]), none⟩, {}⟩, ⟨⟨none, (.store 2 (.t 6) (.t 19)), none⟩, {}⟩] none) ref07_Along_C7)
def ref07_Along_C3 : TC := (.cond (.t 8) (.seq (.rg [⟨⟨some 9, (.load true 4 (.t 3)), none⟩, {}⟩, ⟨⟨some 10, (.mov (.t 2)), none⟩, {}⟩, ⟨⟨some 11, (.un .neg (.t 10)), none⟩, {}⟩, ⟨⟨some 12, (.call (.c (.fn 23 [])) [(.t 9), (.t 11)]), none⟩, {}⟩, ⟨⟨some 7, (.alloc [(I 0), (I 0)]), none⟩, {}⟩, ⟨⟨none, (.store 2 (.t 7) (.t 12)),
  none⟩, {}⟩] none) ref07_Along_C5) .skip)
def ref07_Along_C6 : TC := .ret
def ref07_Along_C4 : TC := (.seq (.rg [⟨⟨some 20, (.load true 4 (.t 3)), none⟩, {}⟩, ⟨⟨some 21, (.mov (.t 2)), none⟩, {}⟩, ⟨⟨some 22, (.call (.c (.fn 23 [])) [(.t 20), (.t 21)]), none⟩, {}⟩, ⟨⟨none, (.store 2 (.t 6) (.t 22)), none⟩, {}⟩] none) ref07_Along_C6)
def ref07_Along_C2 : TC := (.seq (.seq (.rg [⟨⟨some 8, (.mov (.t 1)), none⟩, {}⟩] none) ref07_Along_C3) ref07_Along_C4)
def ref07_Along_C1 : TC := (.seq (.rg [⟨⟨some 3, (.box (.t 0)), none⟩, {}⟩, ⟨⟨some 6, (.alloc [(I 0), (I 0)]), none⟩, {}⟩] none) ref07_Along_C2)
def ref07_Along_E (N : Nat) : List (Nat × Ent) := [(23, pureE [G_Fan, (.int .i64)] [G_Point] (fun x => ref07_Inner N x.1 x.2))]
def ref07_Along (N : Nat) (a0 : T_Fan) (a1 : Bool) (a2 : Int) : Option T_Point :=
  bif a1 then
    Option.bind (ref07_Inner N a0 (W (0 - a2))) fun r1 =>
    some (W (0 - r1.2), W (0 - r1.1))
  else
    Option.bind (ref07_Inner N a0 a2) fun r2 =>
    some r2
theorem ref07_Along_fn : FnOK Try.prog 31 23 (fun _ : Nat => false) ref07_Along_C1.er [(.cell 6 true 2)] := FnOK.mk' Try.func31 (by kernel_rfl) (by kernel_rfl) (by kernel_rfl) (by kernel_rfl) (by kernel_rfl)
theorem ref07_Along_envok (N : Nat) : EnvOK Try.prog (ref07_Along_E N) := .cons (pureE_ok (ref07_Inner_pure N)) (.nil)
theorem ref07_Along_pure (N : Nat) : PureOK Try.prog 31 [G_Fan, .bool, (.int .i64)] [G_Point] (fun x => ref07_Along N x.1 x.2.1 x.2.2) := pureOK (N := N) mixed ref07_Along_fn (ref07_Along_envok N) rfl (fun x => by kernel_rfl)
/-! ref07_State -/
def ref07_State_C7 : TC := .ret
def ref07_State_C10 : TC := .ret
def ref07_State_C12 : TC := .ret
def ref07_State_C11 : TC := (.cond (.t 20) (.seq (.rg [⟨⟨some 22, (.load true 4 (.t 3)), none⟩, {}⟩, ⟨⟨some 23, (.fadr 1 (.t 3)), none⟩, {}⟩, ⟨⟨some 24, (.load false 1 (.t 23)), none⟩, {}⟩, ⟨⟨some 25, (.un .not (.t 24)), none⟩, {}⟩, ⟨⟨some 26, (.mov (.t 2)), none⟩, {}⟩, ⟨⟨some 27, (.call (.c (.fn 31 [])) [(.t 22), (.t 25), (.t
  26)]), none⟩, {}⟩, ⟨⟨none, (.store 2 (.t 6) (.t 27)), none⟩, {}⟩] none) ref07_State_C12) .skip)
def ref07_State_C8 : TC := (.cond (.t 13) (.seq (.rg [⟨⟨some 15, (.load true 4 (.t 3)), none⟩, {}⟩, ⟨⟨some 16, (.fadr 1 (.t 3)), none⟩, {}⟩, ⟨⟨some 17, (.load false 1 (.t 16)), none⟩, {}⟩, ⟨⟨some 18, (.mov (.t 2)), none⟩, {}⟩, ⟨⟨some 19, (.call (.c (.fn 31 [])) [(.t 15), (.t 17), (.t 18)]), none⟩, {}⟩, ⟨⟨none, (.store 2 (.t 6)
  (.t 19)), none⟩, {}⟩] none) ref07_State_C10) (.seq (.rg [⟨⟨some 21, (.bin .eql (.t 9) (.c (I 2))), none⟩, {}⟩, ⟨⟨some 20, (.mov (.t 21)), none⟩, {}⟩] none) ref07_State_C11))
def ref07_State_C5 : TC := (.cond (.t 10) (.seq (.rg [⟨⟨some 12, (.build [(I 0), (I 0)] []), none⟩, {}⟩, ⟨⟨none, (.store 2 (.t 6) (.t 12)), none⟩, {}⟩] none) ref07_State_C7) (.seq (.rg [⟨⟨some 14, (.bin .eql (.t 9) (.c (I 1))), none⟩, {}⟩, ⟨⟨some 13, (.mov (.t 14)), none⟩, {}⟩] none) ref07_State_C8))
def ref07_State_C3 : TC := (.block 0 (.seq (.rg [⟨⟨some 11, (.bin .eql (.t 9) (.c (I 0))), none⟩, {}⟩, ⟨⟨some 10, (.mov (.t 11)), none⟩, {}⟩] none) ref07_State_C5))
def ref07_State_C9 : TC := .ret
def ref07_State_C6 : TC := (.seq (.rg [⟨⟨some 34, (.fadr 0 (.t 7)), none⟩, {}⟩, ⟨⟨some 35, (.load false 1 (.t 34)), none⟩, {}⟩, ⟨⟨some 36, (.fadr 0 (.t 8)), none⟩, {}⟩, ⟨⟨some 37, (.load false 1 (.t 36)), none⟩, {}⟩, ⟨⟨some 38, (.mm false [(.t 35), (.t 37), (.c (I 0))]), none⟩, {}⟩, ⟨⟨some 39, (.fadr 1 (.t 7)), none⟩, {}⟩,
  ⟨⟨some 40, (.load false 1 (.t 39)), none⟩, {}⟩, ⟨⟨some 41, (.fadr 1 (.t 8)), none⟩, {}⟩, ⟨⟨some 42, (.load false 1 (.t 41)), none⟩, {}⟩, ⟨⟨some 43, (.mm true [(.t 40), (.t 42), (.c (I 0))]), none⟩, {}⟩, ⟨⟨some 44, (.build [(I 0), (I 0)] [(0, (1, (.t 38))), (1, (1, (.t 43)))]), none⟩, {}⟩, ⟨⟨none,
  (.store 2 (.t 6) (.t 44)), none⟩, {}⟩] none) ref07_State_C9)
def ref07_State_C4 : TC := (.seq (.pre [.wait, .wait] (.rg [⟨⟨some 28, (.load true 4 (.t 3)), none⟩, {}⟩, ⟨⟨some 29, (.mov (.t 2)), none⟩, {}⟩, ⟨⟨some 30, (.call (.c (.fn 31 [])) [(.t 28), (.c (B false)), (.t 29)]), none⟩, {}⟩, ⟨⟨some 31, (.load true 4 (.t 3)), none⟩, {}⟩, ⟨⟨some 32, (.mov (.t 2)), none⟩, {}⟩, ⟨⟨some 33,
  (.call (.c (.fn 31 [])) [(.t 31), (.c (B true)), (.t 32)]), none⟩, {}⟩, ⟨⟨some 7, (.alloc [(I 0), (I 0)]), none⟩, ⟨.unit, some 2⟩⟩, ⟨⟨some 8, (.alloc [(I 0), (I 0)]), none⟩, ⟨.unit, some 3⟩⟩, ⟨⟨none, (.store 2 (.t 7) (.t 30)), none⟩, {}⟩, ⟨⟨none, (.store 2 (.t 8) (.t 33)), none⟩, {}⟩] (some [(2,
  3), (0, 6), (2, 6), (3, 6), (5, 6), (0, 7), (2, 7), (3, 7), (5, 7), (6, 7)]))) ref07_State_C6)
def ref07_State_C2 : TC := (.seq (.seq (.rg [⟨⟨some 9, (.mov (.t 1)), none⟩, {}⟩] none) ref07_State_C3) ref07_State_C4)
def ref07_State_C1 : TC := (.seq (.rg [⟨⟨some 3, (.box (.t 0)), none⟩, {}⟩, ⟨⟨some 6, (.alloc [(I 0), (I 0)]), none⟩, {}⟩] none) ref07_State_C2)
def ref07_State_E (N : Nat) : List (Nat × Ent) := [(31, pureE [G_Fan, .bool, (.int .i64)] [G_Point] (fun x => ref07_Along N x.1 x.2.1 x.2.2))]
def ref07_State (N : Nat) (a0 : T_Fan) (a1 : Int) (a2 : Int) : Option T_Point :=
  bif (a1 == 0) then
    some (0, 0)
  else
    bif (a1 == 1) then
      Option.bind (ref07_Along N a0 a0.2.1 a2) fun r1 =>
      some r1
    else
      bif (a1 == 2) then
        Option.bind (ref07_Along N a0 (!a0.2.1) a2) fun r2 =>
        some r2
      else
        Option.bind (ref07_Along N a0 false a2) fun r3 =>
        Option.bind (ref07_Along N a0 true a2) fun r4 =>
        some (min (min r3.1 r4.1) 0, max (max r3.2 r4.2) 0)
theorem ref07_State_fn : FnOK Try.prog 25 45 (fun _ : Nat => false) ref07_State_C1.er [(.cell 6 true 2)] := FnOK.mk' Try.func25 (by kernel_rfl) (by kernel_rfl) (by kernel_rfl) (by kernel_rfl) (by kernel_rfl)
theorem ref07_State_envok (N : Nat) : EnvOK Try.prog (ref07_State_E N) := .cons (pureE_ok (ref07_Along_pure N)) (.nil)
theorem ref07_State_pure (N : Nat) : PureOK Try.prog 25 [G_Fan, (.int .i64), (.int .i64)] [G_Point] (fun x => ref07_State N x.1 x.2.1 x.2.2) := pureOK (N := N) mixed ref07_State_fn (ref07_State_envok N) rfl (fun x => by kernel_rfl)
/-! ref07_At -/
def ref07_At_C5 : TC := .ret
def ref07_At_C3 : TC := (.cond (.t 25) (.seq (.rg [⟨⟨some 26, (.build [(I 0), (I 0)] []), none⟩, {}⟩, ⟨⟨none, (.store 2 (.t 6) (.t 26)), none⟩, {}⟩] none) ref07_At_C5) .skip)
def ref07_At_C6 : TC := .ret
def ref07_At_C4 : TC := (.seq (.rg [⟨⟨some 27, (.load true 4 (.t 3)), none⟩, {}⟩, ⟨⟨some 28, (.mov (.t 1)), none⟩, {}⟩, ⟨⟨some 29, (.mov (.t 2)), none⟩, {}⟩, ⟨⟨some 30, (.call (.c (.fn 25 [])) [(.t 27), (.t 28), (.t 29)]), none⟩, {}⟩, ⟨⟨none, (.store 2 (.t 6) (.t 30)), none⟩, {}⟩] none) ref07_At_C6)
def ref07_At_C2 : TC := (.seq (.seq (.rg [⟨⟨some 7, (.load true 4 (.t 3)), none⟩, {}⟩, ⟨⟨some 8, (.call (.c (.fn 11 [])) [(.t 7)]), none⟩, {}⟩, ⟨⟨some 9, (.bin .neq (.t 8) (.c (I 0))), none⟩, {}⟩, ⟨⟨some 10, (.mov (.t 9)), none⟩, {}⟩, ⟨⟨some 11, (.mov (.t 1)), some (10, false)⟩, {}⟩, ⟨⟨some 12, (.bin .lss (.t 11) (.c (I
  (-1)))), some (10, false)⟩, {}⟩, ⟨⟨some 13, (.pick (.t 10) (.c (B true)) (.t 12)), none⟩, {}⟩, ⟨⟨some 14, (.mov (.t 13)), none⟩, {}⟩, ⟨⟨some 15, (.mov (.t 1)), some (14, false)⟩, {}⟩, ⟨⟨some 16, (.bin .gtr (.t 15) (.c (I 2))), some (14, false)⟩, {}⟩, ⟨⟨some 17, (.pick (.t 14) (.c (B true)) (.t
  16)), none⟩, {}⟩, ⟨⟨some 18, (.mov (.t 17)), none⟩, {}⟩, ⟨⟨some 19, (.mov (.t 2)), some (18, false)⟩, {}⟩, ⟨⟨some 20, (.bin .lss (.t 19) (.c (I (-1048577)))), some (18, false)⟩, {}⟩, ⟨⟨some 21, (.pick (.t 18) (.c (B true)) (.t 20)), none⟩, {}⟩, ⟨⟨some 22, (.mov (.t 21)), none⟩, {}⟩, ⟨⟨some 23,
  (.mov (.t 2)), some (22, false)⟩, {}⟩, ⟨⟨some 24, (.bin .gtr (.t 23) (.c (I 1048577))), some (22, false)⟩, {}⟩, ⟨⟨some 25, (.pick (.t 22) (.c (B true)) (.t 24)), none⟩, {}⟩] none) ref07_At_C3) ref07_At_C4)
def ref07_At_C1 : TC := (.seq (.rg [⟨⟨some 3, (.box (.t 0)), none⟩, {}⟩, ⟨⟨some 6, (.alloc [(I 0), (I 0)]), none⟩, {}⟩] none) ref07_At_C2)
def ref07_At_E (N : Nat) : List (Nat × Ent) := [(11, pureE [G_Fan] [(.int .i64)] (fun x => ref07_Check N x)), (25, pureE [G_Fan, (.int .i64), (.int .i64)] [G_Point] (fun x => ref07_State N x.1 x.2.1 x.2.2))]
def ref07_At (N : Nat) (a0 : T_Fan) (a1 : Int) (a2 : Int) : Option T_Point :=
  Option.bind (ref07_Check N a0) fun r1 =>
  bif (r1 != 0) then
    some (0, 0)
  else
    bif (decide (a1 < (-1))) then
      some (0, 0)
    else
      bif (decide (a1 > 2)) then
        some (0, 0)
      else
        bif (decide (a2 < (-1048577))) then
          some (0, 0)
        else
          bif (decide (a2 > 1048577)) then
            some (0, 0)
          else
            Option.bind (ref07_State N a0 a1 a2) fun r2 =>
            some r2
theorem ref07_At_fn : FnOK Try.prog 17 31 (fun _ : Nat => false) ref07_At_C1.er [(.cell 6 true 2)] := FnOK.mk' Try.func17 (by kernel_rfl) (by kernel_rfl) (by kernel_rfl) (by kernel_rfl) (by kernel_rfl)
theorem ref07_At_envok (N : Nat) : EnvOK Try.prog (ref07_At_E N) := .cons (pureE_ok (ref07_Check_pure N)) (.cons (pureE_ok (ref07_State_pure N)) (.nil))
theorem ref07_At_pure (N : Nat) : PureOK Try.prog 17 [G_Fan, (.int .i64), (.int .i64)] [G_Point] (fun x => ref07_At N x.1 x.2.1 x.2.2) := pureOK (N := N) mixed ref07_At_fn (ref07_At_envok N) rfl (fun x => by kernel_rfl)
/-! law07_FanStates -/
def law07_FanStates_N1 : List NS := [.wk 28 (.list G_Fan), .keep [4, 5, 13, 14, 28, 29, 30], .cmp]
def law07_FanStates_C13 : TC := .ret
def law07_FanStates_C12 : TC := (.cond (.t 68) (.seq (.rg [⟨⟨some 12, (.mov (.c (B false))), none⟩, {}⟩] none) law07_FanStates_C13) .skip)
def law07_FanStates_C9 : TC := (.seq (.rg [⟨⟨some 34, (.load true 4 (.t 16)), none⟩, {}⟩, ⟨⟨some 35, (.mov (.t 4)), none⟩, {}⟩, ⟨⟨some 36, (.mov (.t 5)), none⟩, {}⟩, ⟨⟨some 37, (.call (.c (.fn 16 [])) [(.t 34), (.t 35), (.t 36)]), none⟩, {}⟩, ⟨⟨some 38, (.load true 4 (.t 16)), none⟩, {}⟩, ⟨⟨some 39, (.mov (.t 4)), none⟩, {}⟩,
  ⟨⟨some 40, (.mov (.t 5)), none⟩, {}⟩, ⟨⟨some 41, (.call (.c (.fn 17 [])) [(.t 38), (.t 39), (.t 40)]), none⟩, {}⟩, ⟨⟨some 42, (.eqa true [(0, 1), (1, 1)] (.t 37) (.t 41)), none⟩, {}⟩, ⟨⟨some 43, (.mov (.t 42)), none⟩, {}⟩, ⟨⟨some 44, (.load true 4 (.t 16)), some (43, false)⟩, {}⟩, ⟨⟨some 45, (.mov
  (.t 14)), some (43, false)⟩, {}⟩, ⟨⟨some 46, (.mov (.t 13)), some (43, false)⟩, {}⟩, ⟨⟨some 47, (.call (.c (.fn 16 [])) [(.t 44), (.t 45), (.t 46)]), some (43, false)⟩, {}⟩, ⟨⟨some 48, (.load true 4 (.t 16)), some (43, false)⟩, {}⟩, ⟨⟨some 49, (.mov (.t 14)), some (43, false)⟩, {}⟩, ⟨⟨some 50,
  (.mov (.t 13)), some (43, false)⟩, {}⟩, ⟨⟨some 51, (.call (.c (.fn 17 [])) [(.t 48), (.t 49), (.t 50)]), some (43, false)⟩, {}⟩, ⟨⟨some 52, (.eqa true [(0, 1), (1, 1)] (.t 47) (.t 51)), some (43, false)⟩, {}⟩, ⟨⟨some 53, (.pick (.t 43) (.c (B true)) (.t 52)), none⟩, {}⟩, ⟨⟨some 54, (.mov (.t 53)),
  none⟩, {}⟩, ⟨⟨some 55, (.load true 4 (.t 16)), some (54, false)⟩, {}⟩, ⟨⟨some 56, (.mov (.t 14)), some (54, false)⟩, {}⟩, ⟨⟨some 57, (.mov (.t 13)), some (54, false)⟩, {}⟩, ⟨⟨some 58, (.bin .rem (.t 57) (.c (I 3))), some (54, false)⟩, {}⟩, ⟨⟨some 59, (.bin .add (.c (I 1048576)) (.t 58)), some (54,
  false)⟩, {}⟩, ⟨⟨some 60, (.call (.c (.fn 16 [])) [(.t 55), (.t 56), (.t 59)]), some (54, false)⟩, {}⟩, ⟨⟨some 61, (.load true 4 (.t 16)), some (54, false)⟩, {}⟩, ⟨⟨some 62, (.mov (.t 14)), some (54, false)⟩, {}⟩, ⟨⟨some 63, (.mov (.t 13)), some (54, false)⟩, {}⟩, ⟨⟨some 64, (.bin .rem (.t 63) (.c
  (I 3))), some (54, false)⟩, {}⟩, ⟨⟨some 65, (.bin .add (.c (I 1048576)) (.t 64)), some (54, false)⟩, {}⟩, ⟨⟨some 66, (.call (.c (.fn 17 [])) [(.t 61), (.t 62), (.t 65)]), some (54, false)⟩, {}⟩, ⟨⟨some 67, (.eqa true [(0, 1), (1, 1)] (.t 60) (.t 66)), some (54, false)⟩, {}⟩, ⟨⟨some 68, (.pick (.t
  54) (.c (B true)) (.t 67)), none⟩, {}⟩] (some [(3, 4), (13, 14), (26, 27)])) law07_FanStates_C12)
def law07_FanStates_C10 : TC := (.rg [⟨⟨some 69, (.bin .add (.t 30) (.c (I 1))), none⟩, {}⟩, ⟨⟨some 30, (.mov (.t 69)), none⟩, {}⟩] none)
def law07_FanStates_C7 : TC := (.seq (.block 1 (.seq (.rg [⟨⟨some 32, (.iadrS 4 (.t 28) (.t 30)), none⟩, {}⟩, ⟨⟨some 33, (.load true 4 (.t 32)), none⟩, {}⟩, ⟨⟨some 16, (.alloc [(I 0), (B false), (B false), (.lst true [])]), none⟩, {}⟩, ⟨⟨none, (.store 4 (.t 16) (.t 33)), none⟩, {}⟩] none) law07_FanStates_C9)) law07_FanStates_C10)
def law07_FanStates_C4 : TC := (.seq (.cond (.t 31) .skip (.exit 0)) law07_FanStates_C7)
def law07_FanStates_C1 : TC := (.seq (.rg [⟨⟨some 31, (.bin .lss (.t 30) (.t 29)), none⟩, {}⟩] none) law07_FanStates_C4)
def law07_FanStates_C5 : TC := .ret
def law07_FanStates_C2 : TC := (.seq (.rg [⟨⟨some 70, (.call (.c (.fn 12 [])) []), none⟩, {}⟩, ⟨⟨some 12, (.mov (.t 70)), none⟩, {}⟩] none) law07_FanStates_C5)
def law07_FanStates_C11 : TC := (.block 0 (.loop law07_FanStates_N1 law07_FanStates_C1))
def law07_FanStates_C8 : TC := (.seq (.seq (.rg [⟨⟨some 23, (.mov (.t 0)), none⟩, {}⟩, ⟨⟨some 24, (.mov (.t 2)), none⟩, {}⟩, ⟨⟨some 25, (.mov (.t 3)), none⟩, {}⟩, ⟨⟨some 26, (.call (.c (.fn 9 [])) [(.t 23), (.t 24), (.t 25)]), none⟩, {}⟩, ⟨⟨some 27, (.load true 4 (.t 7)), none⟩, {}⟩, ⟨⟨some 28, (.bslice false 4 [(I 0), (B false),
  (B false), (.lst true [])] 2 [(0, (.t 26)), (1, (.t 27))]), none⟩, ⟨G_Fan, none⟩⟩, ⟨⟨some 29, (.len (.t 28)), none⟩, {}⟩, ⟨⟨some 30, (.mov (.c (I 0))), none⟩, {}⟩] (some [(3, 4)])) law07_FanStates_C11) law07_FanStates_C2)
def law07_FanStates_C6 : TC := (.seq (.rg [⟨⟨some 17, (.mov (.t 5)), none⟩, {}⟩, ⟨⟨some 18, (.call (.c (.fn 13 [])) [(.t 17), (.c (I 300))]), none⟩, {}⟩, ⟨⟨some 19, (.bin .sub (.t 18) (.c (I 150))), none⟩, {}⟩, ⟨⟨some 20, (.mov (.t 4)), none⟩, {}⟩, ⟨⟨some 21, (.call (.c (.fn 13 [])) [(.t 20), (.c (I 6))]), none⟩, {}⟩, ⟨⟨some 22,
  (.bin .sub (.t 21) (.c (I 2))), none⟩, {}⟩, ⟨⟨some 13, (.mov (.t 19)), none⟩, {}⟩, ⟨⟨some 14, (.mov (.t 22)), none⟩, {}⟩] none) law07_FanStates_C8)
def law07_FanStates_C3 : TC := (.seq (.rg [⟨⟨some 7, (.box (.t 1)), none⟩, {}⟩, ⟨⟨some 12, (.mov (.c (B false))), none⟩, {}⟩] none) law07_FanStates_C6)
def law07_FanStates_E (N : Nat) : List (Nat × Ent) := [(13, pureE [(.int .i64), (.int .i64)] [(.int .i64)] (fun x => draw_Mod N x.1 x.2)), (9, pureE [(.list (.int .u8)), (.int .i64), (.int .i64)] [G_Fan] (fun x => law07_made N x.1 x.2.1 x.2.2)), (16, pureE [G_Fan, (.int .i64), (.int .i64)] [G_Point] (fun x => fan_At N x.1 x.2.1 x.2.2)), (17, pureE [G_Fan, (.int .i64), (.int .i64)] [G_Point] (fun x => ref07_At N x.1 x.2.1 x.2.2)), (12, pureE [] [.bool] (fun x => law07_awake N))]
def law07_FanStates_L1 (N : Nat) (n : Nat) (x4 : Int) (x5 : Int) (x6 : Int) (x7 : Int) (x8 : List T_Fan) (x9 : Int) (x10 : Int) : Option Bool := loopN (normI 0 law07_FanStates_N1) (run (law07_FanStates_E N) N 0 law07_FanStates_C1) n ⟨[(4, .int .i64 x4), (5, .int .i64 x5), (13, .int .i64 x6), (14, .int .i64 x7), (28, .lst false G_Fan x8), (29, .int .i64 x9), (30, .int .i64 x10)], []⟩ (blkK 0 (seqK (run (law07_FanStates_E N) N 0 law07_FanStates_C2) (fin [(.t 12)] [.bool])))
theorem law07_FanStates_L1_zero (N : Nat) (x4 : Int) (x5 : Int) (x6 : Int) (x7 : Int) (x8 : List T_Fan) (x9 : Int) (x10 : Int) : law07_FanStates_L1 N 0 x4 x5 x6 x7 x8 x9 x10 = none := rfl
theorem law07_FanStates_L1_succ (N : Nat) (n1 : Nat) (x4 : Int) (x5 : Int) (x6 : Int) (x7 : Int) (x8 : List T_Fan) (x9 : Int) (x10 : Int) : law07_FanStates_L1 N (n1 + 1) x4 x5 x6 x7 x8 x9 x10 =
  bif (decide (x10 < x9)) then
    bif inB x10 x8.length then
    Option.bind (fan_At N (x8.getD x10.toNat D_Fan) x4 x5) fun r12 =>
    Option.bind (ref07_At N (x8.getD x10.toNat D_Fan) x4 x5) fun r13 =>
    bif (!((r12.1 == r13.1) && (r12.2 == r13.2))) then
      some false
    else
      Option.bind (fan_At N (x8.getD x10.toNat D_Fan) x7 x6) fun r14 =>
      Option.bind (ref07_At N (x8.getD x10.toNat D_Fan) x7 x6) fun r15 =>
      bif (!((r14.1 == r15.1) && (r14.2 == r15.2))) then
        some false
      else
        Option.bind (fan_At N (x8.getD x10.toNat D_Fan) x7 (W (1048576 + (x6.tmod 3)))) fun r17 =>
        Option.bind (ref07_At N (x8.getD x10.toNat D_Fan) x7 (W (1048576 + (x6.tmod 3)))) fun r19 =>
        bif (!((r17.1 == r19.1) && (r17.2 == r19.2))) then
          some false
        else
          law07_FanStates_L1 N n1 x4 x5 x6 x7 x8 x9 (W (x10 + 1))
    else none
  else
    Option.bind (law07_awake N) fun r27 =>
    some r27 := by kernel_rfl
def law07_FanStates (N : Nat) (a0 : List Int) (a1 : T_Fan) (a2 : Int) (a3 : Int) (a4 : Int) (a5 : Int) : Option Bool :=
  Option.bind (draw_Mod N a5 300) fun r1 =>
  Option.bind (draw_Mod N a4 6) fun r2 =>
  Option.bind (law07_made N a0 a2 a3) fun r3 =>
  law07_FanStates_L1 N N a4 a5 (W (r1 - 150)) (W (r2 - 2)) [r3, a1] ([r3, a1].length : Int) 0
theorem law07_FanStates_fn : FnOK Try.prog 5 71 (fun _ : Nat => false) law07_FanStates_C3.er [(.t 12)] := FnOK.mk' Try.func5 (by kernel_rfl) (by kernel_rfl) (by kernel_rfl) (by kernel_rfl) (by kernel_rfl)
theorem law07_FanStates_envok (N : Nat) : EnvOK Try.prog (law07_FanStates_E N) := .cons (pureE_ok (draw_Mod_pure N)) (.cons (pureE_ok (law07_made_pure N)) (.cons (pureE_ok (fan_At_pure N)) (.cons (pureE_ok (ref07_At_pure N)) (.cons (pureE_ok (law07_awake_pure N)) (.nil)))))
theorem law07_FanStates_pure (N : Nat) : PureOK Try.prog 5 [(.list (.int .u8)), G_Fan, (.int .i64), (.int .i64), (.int .i64), (.int .i64)] [.bool] (fun x => law07_FanStates N x.1 x.2.1 x.2.2.1 x.2.2.2.1 x.2.2.2.2.1 x.2.2.2.2.2) := pureOK (N := N) mixed law07_FanStates_fn (law07_FanStates_envok N) rfl (fun x => by kernel_rfl)
/-! law07_FanFalls -/
def law07_FanFalls_C6 : TC := .ret
def law07_FanFalls_C4 : TC := (.cond (.t 18) (.seq (.rg [⟨⟨some 19, (.call (.c (.fn 12 [])) []), none⟩, {}⟩, ⟨⟨some 8, (.mov (.t 19)), none⟩, {}⟩] none) law07_FanFalls_C6) .skip)
def law07_FanFalls_C9 : TC := .ret
def law07_FanFalls_C8 : TC := (.seq (.rg [⟨⟨some 38, (.fadr 0 (.t 12)), none⟩, {}⟩, ⟨⟨some 39, (.load false 1 (.t 38)), none⟩, {}⟩, ⟨⟨some 40, (.fadr 1 (.t 12)), none⟩, {}⟩, ⟨⟨some 41, (.load false 1 (.t 40)), none⟩, {}⟩, ⟨⟨some 42, (.bin .leq (.t 39) (.t 41)), none⟩, {}⟩, ⟨⟨some 43, (.mov (.t 42)), none⟩, {}⟩, ⟨⟨some 44, (.fadr
  1 (.t 12)), some (43, true)⟩, {}⟩, ⟨⟨some 45, (.load false 1 (.t 44)), some (43, true)⟩, {}⟩, ⟨⟨some 46, (.fadr 0 (.t 12)), some (43, true)⟩, {}⟩, ⟨⟨some 47, (.load false 1 (.t 46)), some (43, true)⟩, {}⟩, ⟨⟨some 48, (.bin .sub (.t 45) (.t 47)), some (43, true)⟩, {}⟩, ⟨⟨some 49, (.bin .geq (.t 48)
  (.c (I 0))), some (43, true)⟩, {}⟩, ⟨⟨some 50, (.pick (.t 43) (.t 49) (.c (B false))), none⟩, {}⟩, ⟨⟨some 51, (.mov (.t 50)), none⟩, {}⟩, ⟨⟨some 52, (.fadr 0 (.t 13)), some (51, true)⟩, {}⟩, ⟨⟨some 53, (.load false 1 (.t 52)), some (51, true)⟩, {}⟩, ⟨⟨some 54, (.fadr 0 (.t 12)), some (51, true)⟩,
  {}⟩, ⟨⟨some 55, (.load false 1 (.t 54)), some (51, true)⟩, {}⟩, ⟨⟨some 56, (.bin .leq (.t 53) (.t 55)), some (51, true)⟩, {}⟩, ⟨⟨some 57, (.pick (.t 51) (.t 56) (.c (B false))), none⟩, {}⟩, ⟨⟨some 58, (.mov (.t 57)), none⟩, {}⟩, ⟨⟨some 59, (.fadr 1 (.t 13)), some (58, true)⟩, {}⟩, ⟨⟨some 60, (.load
  false 1 (.t 59)), some (58, true)⟩, {}⟩, ⟨⟨some 61, (.fadr 1 (.t 12)), some (58, true)⟩, {}⟩, ⟨⟨some 62, (.load false 1 (.t 61)), some (58, true)⟩, {}⟩, ⟨⟨some 63, (.bin .leq (.t 60) (.t 62)), some (58, true)⟩, {}⟩, ⟨⟨some 64, (.pick (.t 58) (.t 63) (.c (B false))), none⟩, {}⟩, ⟨⟨some 65, (.mov (.t
  64)), none⟩, {}⟩, ⟨⟨some 66, (.call (.c (.fn 12 [])) []), some (65, true)⟩, {}⟩, ⟨⟨some 67, (.pick (.t 65) (.t 66) (.c (B false))), none⟩, {}⟩, ⟨⟨some 8, (.mov (.t 67)), none⟩, {}⟩] none) law07_FanFalls_C9)
def law07_FanFalls_C7 : TC := (.seq (.pre [.wait, .wait] (.rg [⟨⟨some 27, (.load true 4 (.t 9)), none⟩, {}⟩, ⟨⟨some 28, (.mov (.t 11)), none⟩, {}⟩, ⟨⟨some 29, (.mov (.t 10)), none⟩, {}⟩, ⟨⟨some 30, (.call (.c (.fn 16 [])) [(.t 27), (.t 28), (.t 29)]), none⟩, {}⟩, ⟨⟨some 31, (.load true 4 (.t 9)), none⟩, {}⟩, ⟨⟨some 32, (.mov (.t
  11)), none⟩, {}⟩, ⟨⟨some 33, (.mov (.t 10)), none⟩, {}⟩, ⟨⟨some 34, (.mov (.t 2)), none⟩, {}⟩, ⟨⟨some 35, (.conv .i64 (.t 34)), none⟩, {}⟩, ⟨⟨some 36, (.bin .add (.t 33) (.t 35)), none⟩, {}⟩, ⟨⟨some 37, (.call (.c (.fn 16 [])) [(.t 31), (.t 32), (.t 36)]), none⟩, {}⟩, ⟨⟨some 12, (.alloc [(I 0), (I
  0)]), none⟩, ⟨.unit, some 1⟩⟩, ⟨⟨some 13, (.alloc [(I 0), (I 0)]), none⟩, ⟨.unit, some 2⟩⟩, ⟨⟨none, (.store 2 (.t 12) (.t 30)), none⟩, {}⟩, ⟨⟨none, (.store 2 (.t 13) (.t 37)), none⟩, {}⟩] (some [(3, 4), (0, 11), (3, 11), (4, 11), (10, 11), (0, 12), (3, 12), (4, 12), (10, 12), (11, 12)])))
  law07_FanFalls_C8)
def law07_FanFalls_C5 : TC := (.seq (.rg [⟨⟨some 20, (.mov (.t 1)), none⟩, {}⟩, ⟨⟨some 21, (.call (.c (.fn 13 [])) [(.t 20), (.c (I 400))]), none⟩, {}⟩, ⟨⟨some 22, (.bin .sub (.t 21) (.c (I 200))), none⟩, {}⟩, ⟨⟨some 23, (.mov (.t 3)), none⟩, {}⟩, ⟨⟨some 24, (.conv .i64 (.t 23)), none⟩, {}⟩, ⟨⟨some 25, (.bin .rem (.t 24) (.c (I
  4))), none⟩, {}⟩, ⟨⟨some 26, (.bin .sub (.t 25) (.c (I 1))), none⟩, {}⟩, ⟨⟨some 10, (.mov (.t 22)), none⟩, {}⟩, ⟨⟨some 11, (.mov (.t 26)), none⟩, {}⟩] none) law07_FanFalls_C7)
def law07_FanFalls_C3 : TC := (.seq (.seq (.rg [⟨⟨some 16, (.load true 4 (.t 9)), none⟩, {}⟩, ⟨⟨some 17, (.call (.c (.fn 11 [])) [(.t 16)]), none⟩, {}⟩, ⟨⟨some 18, (.bin .neq (.t 17) (.c (I 0))), none⟩, {}⟩] none) law07_FanFalls_C4) law07_FanFalls_C5)
def law07_FanFalls_C2 : TC := (.seq (.rg [⟨⟨some 14, (.mov (.t 0)), none⟩, {}⟩, ⟨⟨some 15, (.call (.c (.fn 9 [])) [(.t 14), (.c (I 0)), (.c (I 0))]), none⟩, {}⟩, ⟨⟨some 9, (.alloc [(I 0), (B false), (B false), (.lst true [])]), none⟩, {}⟩, ⟨⟨none, (.store 4 (.t 9) (.t 15)), none⟩, {}⟩] none) law07_FanFalls_C3)
def law07_FanFalls_C1 : TC := (.seq (.rg [⟨⟨some 8, (.mov (.c (B false))), none⟩, {}⟩] none) law07_FanFalls_C2)
def law07_FanFalls_E (N : Nat) : List (Nat × Ent) := [(9, pureE [(.list (.int .u8)), (.int .i64), (.int .i64)] [G_Fan] (fun x => law07_made N x.1 x.2.1 x.2.2)), (11, pureE [G_Fan] [(.int .i64)] (fun x => ref07_Check N x)), (12, pureE [] [.bool] (fun x => law07_awake N)), (13, pureE [(.int .i64), (.int .i64)] [(.int .i64)] (fun x => draw_Mod N x.1 x.2)), (16, pureE [G_Fan, (.int .i64), (.int .i64)] [G_Point] (fun x => fan_At N x.1 x.2.1 x.2.2))]
def law07_FanFalls (N : Nat) (a0 : List Int) (a1 : Int) (a2 : Int) (a3 : Int) : Option Bool :=
  Option.bind (law07_made N a0 0 0) fun r1 =>
  Option.bind (ref07_Check N r1) fun r2 =>
  bif (r2 != 0) then
    Option.bind (law07_awake N) fun r3 =>
    some r3
  else
    Option.bind (draw_Mod N a1 400) fun r4 =>
    Option.bind (fan_At N r1 (W (((W a3).tmod 4) - 1)) (W (r4 - 200))) fun r5 =>
    Option.bind (fan_At N r1 (W (((W a3).tmod 4) - 1)) (W ((W (r4 - 200)) + (W a2)))) fun r7 =>
    bif (decide (r5.1 ≤ r5.2)) then
      bif (decide ((W (r5.2 - r5.1)) ≥ 0)) then
        bif (decide (r7.1 ≤ r5.1)) then
          bif (decide (r7.2 ≤ r5.2)) then
            Option.bind (law07_awake N) fun r8 =>
            some r8
          else
            some false
        else
          some false
      else
        some false
    else
      some false
theorem law07_FanFalls_fn : FnOK Try.prog 6 68 (fun _ : Nat => false) law07_FanFalls_C1.er [(.t 8)] := FnOK.mk' Try.func6 (by kernel_rfl) (by kernel_rfl) (by kernel_rfl) (by kernel_rfl) (by kernel_rfl)
theorem law07_FanFalls_envok (N : Nat) : EnvOK Try.prog (law07_FanFalls_E N) := .cons (pureE_ok (law07_made_pure N)) (.cons (pureE_ok (ref07_Check_pure N)) (.cons (pureE_ok (law07_awake_pure N)) (.cons (pureE_ok (draw_Mod_pure N)) (.cons (pureE_ok (fan_At_pure N)) (.nil)))))
theorem law07_FanFalls_pure (N : Nat) : PureOK Try.prog 6 [(.list (.int .u8)), (.int .i64), (.int .u8), (.int .u8)] [.bool] (fun x => law07_FanFalls N x.1 x.2.1 x.2.2.1 x.2.2.2) := pureOK (N := N) mixed law07_FanFalls_fn (law07_FanFalls_envok N) rfl (fun x => by kernel_rfl)
/-! law07_FanTurns -/
def law07_FanTurns_C6 : TC := .ret
def law07_FanTurns_C4 : TC := (.cond (.t 16) (.seq (.rg [⟨⟨some 17, (.call (.c (.fn 12 [])) []), none⟩, {}⟩, ⟨⟨some 4, (.mov (.t 17)), none⟩, {}⟩] none) law07_FanTurns_C6) .skip)
def law07_FanTurns_C12 : TC := .ret
def law07_FanTurns_C11 : TC := (.seq (.rg [⟨⟨some 39, (.load true 4 (.t 7)), none⟩, {}⟩, ⟨⟨some 40, (.mov (.t 6)), none⟩, {}⟩, ⟨⟨some 41, (.call (.c (.fn 16 [])) [(.t 39), (.c (I 2)), (.t 40)]), none⟩, {}⟩, ⟨⟨some 42, (.load true 2 (.t 8)), none⟩, {}⟩, ⟨⟨some 43, (.eqa false [(0, 1), (1, 1)] (.t 41) (.t 42)), none⟩, {}⟩, ⟨⟨some
  44, (.mov (.t 43)), none⟩, {}⟩, ⟨⟨some 45, (.load true 4 (.t 7)), some (44, true)⟩, {}⟩, ⟨⟨some 46, (.mov (.t 6)), some (44, true)⟩, {}⟩, ⟨⟨some 47, (.call (.c (.fn 16 [])) [(.t 45), (.c (I 1)), (.t 46)]), some (44, true)⟩, {}⟩, ⟨⟨some 48, (.load true 2 (.t 9)), some (44, true)⟩, {}⟩, ⟨⟨some 49,
  (.eqa false [(0, 1), (1, 1)] (.t 47) (.t 48)), some (44, true)⟩, {}⟩, ⟨⟨some 50, (.pick (.t 44) (.t 49) (.c (B false))), none⟩, {}⟩, ⟨⟨some 51, (.mov (.t 50)), none⟩, {}⟩, ⟨⟨some 52, (.load true 2 (.t 9)), some (51, true)⟩, {}⟩, ⟨⟨some 53, (.fadr 1 (.t 11)), some (51, true)⟩, {}⟩, ⟨⟨some 54, (.load
  false 1 (.t 53)), some (51, true)⟩, {}⟩, ⟨⟨some 55, (.un .neg (.t 54)), some (51, true)⟩, {}⟩, ⟨⟨some 56, (.fadr 0 (.t 11)), some (51, true)⟩, {}⟩, ⟨⟨some 57, (.load false 1 (.t 56)), some (51, true)⟩, {}⟩, ⟨⟨some 58, (.un .neg (.t 57)), some (51, true)⟩, {}⟩, ⟨⟨some 59, (.build [(I 0), (I 0)] [(0,
  (1, (.t 55))), (1, (1, (.t 58)))]), some (51, true)⟩, {}⟩, ⟨⟨some 60, (.eqa false [(0, 1), (1, 1)] (.t 52) (.t 59)), some (51, true)⟩, {}⟩, ⟨⟨some 61, (.pick (.t 51) (.t 60) (.c (B false))), none⟩, {}⟩, ⟨⟨some 62, (.mov (.t 61)), none⟩, {}⟩, ⟨⟨some 63, (.fadr 0 (.t 10)), some (62, true)⟩, {}⟩,
  ⟨⟨some 64, (.load false 1 (.t 63)), some (62, true)⟩, {}⟩, ⟨⟨some 65, (.fadr 0 (.t 8)), some (62, true)⟩, {}⟩, ⟨⟨some 66, (.load false 1 (.t 65)), some (62, true)⟩, {}⟩, ⟨⟨some 67, (.fadr 0 (.t 9)), some (62, true)⟩, {}⟩, ⟨⟨some 68, (.load false 1 (.t 67)), some (62, true)⟩, {}⟩, ⟨⟨some 69, (.mm
  false [(.t 66), (.t 68), (.c (I 0))]), some (62, true)⟩, {}⟩, ⟨⟨some 70, (.bin .leq (.t 64) (.t 69)), some (62, true)⟩, {}⟩, ⟨⟨some 71, (.pick (.t 62) (.t 70) (.c (B false))), none⟩, {}⟩, ⟨⟨some 72, (.mov (.t 71)), none⟩, {}⟩, ⟨⟨some 73, (.fadr 1 (.t 10)), some (72, true)⟩, {}⟩, ⟨⟨some 74, (.load
  false 1 (.t 73)), some (72, true)⟩, {}⟩, ⟨⟨some 75, (.fadr 1 (.t 8)), some (72, true)⟩, {}⟩, ⟨⟨some 76, (.load false 1 (.t 75)), some (72, true)⟩, {}⟩, ⟨⟨some 77, (.fadr 1 (.t 9)), some (72, true)⟩, {}⟩, ⟨⟨some 78, (.load false 1 (.t 77)), some (72, true)⟩, {}⟩, ⟨⟨some 79, (.mm true [(.t 76), (.t
  78), (.c (I 0))]), some (72, true)⟩, {}⟩, ⟨⟨some 80, (.bin .geq (.t 74) (.t 79)), some (72, true)⟩, {}⟩, ⟨⟨some 81, (.pick (.t 72) (.t 80) (.c (B false))), none⟩, {}⟩, ⟨⟨some 82, (.mov (.t 81)), none⟩, {}⟩, ⟨⟨some 83, (.call (.c (.fn 12 [])) []), some (82, true)⟩, {}⟩, ⟨⟨some 84, (.pick (.t 82) (.t
  83) (.c (B false))), none⟩, {}⟩, ⟨⟨some 4, (.mov (.t 84)), none⟩, {}⟩] (some [(2, 3), (8, 9)])) law07_FanTurns_C12)
def law07_FanTurns_C10 : TC := (.seq (.rg [⟨⟨some 35, (.load true 4 (.t 5)), none⟩, {}⟩, ⟨⟨some 36, (.mov (.t 6)), none⟩, {}⟩, ⟨⟨some 37, (.un .neg (.t 36)), none⟩, {}⟩, ⟨⟨some 38, (.call (.c (.fn 16 [])) [(.t 35), (.c (I 1)), (.t 37)]), none⟩, {}⟩, ⟨⟨some 11, (.alloc [(I 0), (I 0)]), none⟩, {}⟩, ⟨⟨none, (.store 2 (.t 11) (.t
  38)), none⟩, {}⟩] none) law07_FanTurns_C11)
def law07_FanTurns_C9 : TC := (.seq (.pre [.wait, .wait, .wait] (.rg [⟨⟨some 26, (.load true 4 (.t 5)), none⟩, {}⟩, ⟨⟨some 27, (.mov (.t 6)), none⟩, {}⟩, ⟨⟨some 28, (.call (.c (.fn 16 [])) [(.t 26), (.c (I 1)), (.t 27)]), none⟩, {}⟩, ⟨⟨some 29, (.load true 4 (.t 5)), none⟩, {}⟩, ⟨⟨some 30, (.mov (.t 6)), none⟩, {}⟩, ⟨⟨some 31,
  (.call (.c (.fn 16 [])) [(.t 29), (.c (I 2)), (.t 30)]), none⟩, {}⟩, ⟨⟨some 32, (.load true 4 (.t 5)), none⟩, {}⟩, ⟨⟨some 33, (.mov (.t 6)), none⟩, {}⟩, ⟨⟨some 34, (.call (.c (.fn 16 [])) [(.t 32), (.c (I (-1))), (.t 33)]), none⟩, {}⟩, ⟨⟨some 8, (.alloc [(I 0), (I 0)]), none⟩, ⟨.unit, some 2⟩⟩,
  ⟨⟨some 9, (.alloc [(I 0), (I 0)]), none⟩, ⟨.unit, some 3⟩⟩, ⟨⟨some 10, (.alloc [(I 0), (I 0)]), none⟩, ⟨.unit, some 4⟩⟩, ⟨⟨none, (.store 2 (.t 8) (.t 28)), none⟩, {}⟩, ⟨⟨none, (.store 2 (.t 9) (.t 31)), none⟩, {}⟩, ⟨⟨none, (.store 2 (.t 10) (.t 34)), none⟩, {}⟩] (some [(2, 3), (2, 6), (5, 6), (0,
  9), (2, 9), (3, 9), (5, 9), (6, 9), (8, 9), (0, 10), (2, 10), (3, 10), (5, 10), (6, 10), (8, 10), (9, 10), (0, 11), (2, 11), (3, 11), (5, 11), (6, 11), (8, 11), (9, 11), (10, 11)]))) law07_FanTurns_C10)
def law07_FanTurns_C8 : TC := (.seq (.rg [⟨⟨some 22, (.fadr 1 (.t 5)), none⟩, {}⟩, ⟨⟨some 23, (.load false 1 (.t 22)), none⟩, {}⟩, ⟨⟨some 24, (.un .not (.t 23)), none⟩, {}⟩, ⟨⟨some 25, (.fadr 1 (.t 7)), none⟩, {}⟩, ⟨⟨none, (.store 1 (.t 25) (.t 24)), none⟩, {}⟩] none) law07_FanTurns_C9)
def law07_FanTurns_C7 : TC := (.seq (.rg [⟨⟨some 21, (.load true 4 (.t 5)), none⟩, {}⟩, ⟨⟨some 7, (.alloc [(I 0), (B false), (B false), (.lst true [])]), none⟩, {}⟩, ⟨⟨none, (.store 4 (.t 7) (.t 21)), none⟩, {}⟩] none) law07_FanTurns_C8)
def law07_FanTurns_C5 : TC := (.seq (.rg [⟨⟨some 18, (.mov (.t 1)), none⟩, {}⟩, ⟨⟨some 19, (.call (.c (.fn 13 [])) [(.t 18), (.c (I 400))]), none⟩, {}⟩, ⟨⟨some 20, (.bin .sub (.t 19) (.c (I 200))), none⟩, {}⟩, ⟨⟨some 6, (.mov (.t 20)), none⟩, {}⟩] none) law07_FanTurns_C7)
def law07_FanTurns_C3 : TC := (.seq (.seq (.rg [⟨⟨some 14, (.load true 4 (.t 5)), none⟩, {}⟩, ⟨⟨some 15, (.call (.c (.fn 11 [])) [(.t 14)]), none⟩, {}⟩, ⟨⟨some 16, (.bin .neq (.t 15) (.c (I 0))), none⟩, {}⟩] none) law07_FanTurns_C4) law07_FanTurns_C5)
def law07_FanTurns_C2 : TC := (.seq (.rg [⟨⟨some 12, (.mov (.t 0)), none⟩, {}⟩, ⟨⟨some 13, (.call (.c (.fn 9 [])) [(.t 12), (.c (I 0)), (.c (I 0))]), none⟩, {}⟩, ⟨⟨some 5, (.alloc [(I 0), (B false), (B false), (.lst true [])]), none⟩, {}⟩, ⟨⟨none, (.store 4 (.t 5) (.t 13)), none⟩, {}⟩] none) law07_FanTurns_C3)
def law07_FanTurns_C1 : TC := (.seq (.rg [⟨⟨some 4, (.mov (.c (B false))), none⟩, {}⟩] none) law07_FanTurns_C2)
def law07_FanTurns_E (N : Nat) : List (Nat × Ent) := [(9, pureE [(.list (.int .u8)), (.int .i64), (.int .i64)] [G_Fan] (fun x => law07_made N x.1 x.2.1 x.2.2)), (11, pureE [G_Fan] [(.int .i64)] (fun x => ref07_Check N x)), (12, pureE [] [.bool] (fun x => law07_awake N)), (13, pureE [(.int .i64), (.int .i64)] [(.int .i64)] (fun x => draw_Mod N x.1 x.2)), (16, pureE [G_Fan, (.int .i64), (.int .i64)] [G_Point] (fun x => fan_At N x.1 x.2.1 x.2.2))]
def law07_FanTurns (N : Nat) (a0 : List Int) (a1 : Int) : Option Bool :=
  Option.bind (law07_made N a0 0 0) fun r1 =>
  Option.bind (ref07_Check N r1) fun r2 =>
  bif (r2 != 0) then
    Option.bind (law07_awake N) fun r3 =>
    some r3
  else
    Option.bind (draw_Mod N a1 400) fun r4 =>
    Option.bind (fan_At N r1 1 (W (r4 - 200))) fun r5 =>
    Option.bind (fan_At N r1 2 (W (r4 - 200))) fun r6 =>
    Option.bind (fan_At N r1 (-1) (W (r4 - 200))) fun r7 =>
    Option.bind (fan_At N r1 1 (W (0 - (W (r4 - 200))))) fun r8 =>
    Option.bind (fan_At N (r1.1, ((!r1.2.1), r1.2.2)) 2 (W (r4 - 200))) fun r9 =>
    bif ((r9.1 == r5.1) && (r9.2 == r5.2)) then
      Option.bind (fan_At N (r1.1, ((!r1.2.1), r1.2.2)) 1 (W (r4 - 200))) fun r10 =>
      bif ((r10.1 == r6.1) && (r10.2 == r6.2)) then
        bif ((r6.1 == (W (0 - r8.2))) && (r6.2 == (W (0 - r8.1)))) then
          bif (decide (r7.1 ≤ (min (min r5.1 r6.1) 0))) then
            bif (decide (r7.2 ≥ (max (max r5.2 r6.2) 0))) then
              Option.bind (law07_awake N) fun r11 =>
              some r11
            else
              some false
          else
            some false
        else
          some false
      else
        some false
    else
      some false
theorem law07_FanTurns_fn : FnOK Try.prog 7 85 (fun _ : Nat => false) law07_FanTurns_C1.er [(.t 4)] := FnOK.mk' Try.func7 (by kernel_rfl) (by kernel_rfl) (by kernel_rfl) (by kernel_rfl) (by kernel_rfl)
theorem law07_FanTurns_envok (N : Nat) : EnvOK Try.prog (law07_FanTurns_E N) := .cons (pureE_ok (law07_made_pure N)) (.cons (pureE_ok (ref07_Check_pure N)) (.cons (pureE_ok (law07_awake_pure N)) (.cons (pureE_ok (draw_Mod_pure N)) (.cons (pureE_ok (fan_At_pure N)) (.nil)))))
theorem law07_FanTurns_pure (N : Nat) : PureOK Try.prog 7 [(.list (.int .u8)), (.int .i64)] [.bool] (fun x => law07_FanTurns N x.1 x.2) := pureOK (N := N) mixed law07_FanTurns_fn (law07_FanTurns_envok N) rfl (fun x => by kernel_rfl)
/-! law07_FanPoints -/
def law07_FanPoints_C6 : TC := .ret
def law07_FanPoints_C4 : TC := (.cond (.t 16) (.seq (.rg [⟨⟨some 17, (.call (.c (.fn 12 [])) []), none⟩, {}⟩, ⟨⟨some 6, (.mov (.t 17)), none⟩, {}⟩] none) law07_FanPoints_C6) .skip)
def law07_FanPoints_C11 : TC := .ret
def law07_FanPoints_C9 : TC := (.cond (.t 37) (.seq (.rg [⟨⟨some 6, (.mov (.c (B false))), none⟩, {}⟩] none) law07_FanPoints_C11) .skip)
def law07_FanPoints_C14 : TC := .ret
def law07_FanPoints_C12 : TC := (.cond (.t 43) (.seq (.rg [⟨⟨some 44, (.call (.c (.fn 12 [])) []), none⟩, {}⟩, ⟨⟨some 6, (.mov (.t 44)), none⟩, {}⟩] none) law07_FanPoints_C14) .skip)
def law07_FanPoints_C17 : TC := .ret
def law07_FanPoints_C16 : TC := (.seq (.rg [⟨⟨some 65, (.fadr 1 (.t 10)), none⟩, {}⟩, ⟨⟨some 66, (.load false 1 (.t 65)), none⟩, {}⟩, ⟨⟨some 67, (.fadr 0 (.t 11)), none⟩, {}⟩, ⟨⟨some 68, (.load false 1 (.t 67)), none⟩, {}⟩, ⟨⟨some 69, (.bin .leq (.t 66) (.t 68)), none⟩, {}⟩, ⟨⟨some 70, (.mov (.t 69)), none⟩, {}⟩, ⟨⟨some 71, (.fadr
  1 (.t 11)), some (70, true)⟩, {}⟩, ⟨⟨some 72, (.load false 1 (.t 71)), some (70, true)⟩, {}⟩, ⟨⟨some 73, (.fadr 1 (.t 9)), some (70, true)⟩, {}⟩, ⟨⟨some 74, (.load false 1 (.t 73)), some (70, true)⟩, {}⟩, ⟨⟨some 75, (.bin .leq (.t 72) (.t 74)), some (70, true)⟩, {}⟩, ⟨⟨some 76, (.pick (.t 70) (.t
  75) (.c (B false))), none⟩, {}⟩, ⟨⟨some 77, (.mov (.t 76)), none⟩, {}⟩, ⟨⟨some 78, (.fadr 1 (.t 11)), some (77, true)⟩, {}⟩, ⟨⟨some 79, (.load false 1 (.t 78)), some (77, true)⟩, {}⟩, ⟨⟨some 80, (.fadr 0 (.t 11)), some (77, true)⟩, {}⟩, ⟨⟨some 81, (.load false 1 (.t 80)), some (77, true)⟩, {}⟩,
  ⟨⟨some 82, (.bin .sub (.t 79) (.t 81)), some (77, true)⟩, {}⟩, ⟨⟨some 83, (.bin .leq (.t 82) (.c (I 1))), some (77, true)⟩, {}⟩, ⟨⟨some 84, (.pick (.t 77) (.t 83) (.c (B false))), none⟩, {}⟩, ⟨⟨some 85, (.mov (.t 84)), none⟩, {}⟩, ⟨⟨some 86, (.call (.c (.fn 12 [])) []), some (85, true)⟩, {}⟩,
  ⟨⟨some 87, (.pick (.t 85) (.t 86) (.c (B false))), none⟩, {}⟩, ⟨⟨some 6, (.mov (.t 87)), none⟩, {}⟩] none) law07_FanPoints_C17)
def law07_FanPoints_C15 : TC := (.seq (.pre [.wait] (.rg [⟨⟨some 51, (.load true 4 (.t 7)), none⟩, {}⟩, ⟨⟨some 52, (.fadr 0 (.t 9)), none⟩, {}⟩, ⟨⟨some 53, (.load false 1 (.t 52)), none⟩, {}⟩, ⟨⟨some 54, (.mov (.t 2)), none⟩, {}⟩, ⟨⟨some 55, (.conv .i64 (.t 54)), none⟩, {}⟩, ⟨⟨some 56, (.fadr 0 (.t 10)), none⟩, {}⟩, ⟨⟨some 57,
  (.load false 1 (.t 56)), none⟩, {}⟩, ⟨⟨some 58, (.fadr 0 (.t 9)), none⟩, {}⟩, ⟨⟨some 59, (.load false 1 (.t 58)), none⟩, {}⟩, ⟨⟨some 60, (.bin .sub (.t 57) (.t 59)), none⟩, {}⟩, ⟨⟨some 61, (.bin .add (.t 60) (.c (I 1))), none⟩, {}⟩, ⟨⟨some 62, (.bin .rem (.t 55) (.t 61)), none⟩, {}⟩, ⟨⟨some 63,
  (.bin .add (.t 53) (.t 62)), none⟩, {}⟩, ⟨⟨some 64, (.call (.c (.fn 14 [])) [(.t 51), (.t 63)]), none⟩, {}⟩, ⟨⟨some 11, (.alloc [(I 0), (I 0)]), none⟩, ⟨.unit, some 3⟩⟩, ⟨⟨none, (.store 2 (.t 11) (.t 64)), none⟩, {}⟩] (some [(0, 14), (1, 14), (2, 14), (5, 14), (6, 14), (7, 14), (8, 14), (13,
  14)]))) law07_FanPoints_C16)
def law07_FanPoints_C13 : TC := (.seq (.rg [⟨⟨some 45, (.fadr 3 (.t 7)), none⟩, {}⟩, ⟨⟨some 46, (.load false 1 (.t 45)), none⟩, {}⟩, ⟨⟨some 47, (.mov (.t 8)), none⟩, {}⟩, ⟨⟨some 48, (.bin .add (.t 47) (.c (I 1))), none⟩, {}⟩, ⟨⟨some 49, (.iadrS 2 (.t 46) (.t 48)), none⟩, {}⟩, ⟨⟨some 50, (.load true 2 (.t 49)), none⟩, {}⟩, ⟨⟨some
  10, (.alloc [(I 0), (I 0)]), none⟩, {}⟩, ⟨⟨none, (.store 2 (.t 10) (.t 50)), none⟩, {}⟩] none) law07_FanPoints_C15)
def law07_FanPoints_C10 : TC := (.seq (.seq (.rg [⟨⟨some 38, (.mov (.t 8)), none⟩, {}⟩, ⟨⟨some 39, (.bin .add (.t 38) (.c (I 1))), none⟩, {}⟩, ⟨⟨some 40, (.fadr 3 (.t 7)), none⟩, {}⟩, ⟨⟨some 41, (.load false 1 (.t 40)), none⟩, {}⟩, ⟨⟨some 42, (.len (.t 41)), none⟩, {}⟩, ⟨⟨some 43, (.bin .eql (.t 39) (.t 42)), none⟩, {}⟩] none)
  law07_FanPoints_C12) law07_FanPoints_C13)
def law07_FanPoints_C8 : TC := (.seq (.seq (.rg [⟨⟨some 28, (.load true 4 (.t 7)), none⟩, {}⟩, ⟨⟨some 29, (.fadr 0 (.t 9)), none⟩, {}⟩, ⟨⟨some 30, (.load false 1 (.t 29)), none⟩, {}⟩, ⟨⟨some 31, (.call (.c (.fn 14 [])) [(.t 28), (.t 30)]), none⟩, {}⟩, ⟨⟨some 32, (.fadr 1 (.t 9)), none⟩, {}⟩, ⟨⟨some 33, (.load false 1 (.t 32)),
  none⟩, {}⟩, ⟨⟨some 34, (.fadr 1 (.t 9)), none⟩, {}⟩, ⟨⟨some 35, (.load false 1 (.t 34)), none⟩, {}⟩, ⟨⟨some 36, (.build [(I 0), (I 0)] [(0, (1, (.t 33))), (1, (1, (.t 35)))]), none⟩, {}⟩, ⟨⟨some 37, (.eqa true [(0, 1), (1, 1)] (.t 31) (.t 36)), none⟩, {}⟩] (some [(3, 4), (3, 5), (3, 6), (3, 7)]))
  law07_FanPoints_C9) law07_FanPoints_C10)
def law07_FanPoints_C7 : TC := (.seq (.rg [⟨⟨some 23, (.fadr 3 (.t 7)), none⟩, {}⟩, ⟨⟨some 24, (.load false 1 (.t 23)), none⟩, {}⟩, ⟨⟨some 25, (.mov (.t 8)), none⟩, {}⟩, ⟨⟨some 26, (.iadrS 2 (.t 24) (.t 25)), none⟩, {}⟩, ⟨⟨some 27, (.load true 2 (.t 26)), none⟩, {}⟩, ⟨⟨some 9, (.alloc [(I 0), (I 0)]), none⟩, {}⟩, ⟨⟨none, (.store 2
  (.t 9) (.t 27)), none⟩, {}⟩] none) law07_FanPoints_C8)
def law07_FanPoints_C5 : TC := (.seq (.rg [⟨⟨some 18, (.mov (.t 1)), none⟩, {}⟩, ⟨⟨some 19, (.fadr 3 (.t 7)), none⟩, {}⟩, ⟨⟨some 20, (.load false 1 (.t 19)), none⟩, {}⟩, ⟨⟨some 21, (.len (.t 20)), none⟩, {}⟩, ⟨⟨some 22, (.call (.c (.fn 13 [])) [(.t 18), (.t 21)]), none⟩, {}⟩, ⟨⟨some 8, (.mov (.t 22)), none⟩, {}⟩] none)
  law07_FanPoints_C7)
def law07_FanPoints_C3 : TC := (.seq (.seq (.rg [⟨⟨some 14, (.load true 4 (.t 7)), none⟩, {}⟩, ⟨⟨some 15, (.call (.c (.fn 11 [])) [(.t 14)]), none⟩, {}⟩, ⟨⟨some 16, (.bin .neq (.t 15) (.c (I 0))), none⟩, {}⟩] none) law07_FanPoints_C4) law07_FanPoints_C5)
def law07_FanPoints_C2 : TC := (.seq (.rg [⟨⟨some 12, (.mov (.t 0)), none⟩, {}⟩, ⟨⟨some 13, (.call (.c (.fn 9 [])) [(.t 12), (.c (I 0)), (.c (I 0))]), none⟩, {}⟩, ⟨⟨some 7, (.alloc [(I 0), (B false), (B false), (.lst true [])]), none⟩, {}⟩, ⟨⟨none, (.store 4 (.t 7) (.t 13)), none⟩, {}⟩] none) law07_FanPoints_C3)
def law07_FanPoints_C1 : TC := (.seq (.rg [⟨⟨some 6, (.mov (.c (B false))), none⟩, {}⟩] none) law07_FanPoints_C2)
def law07_FanPoints_E (N : Nat) : List (Nat × Ent) := [(9, pureE [(.list (.int .u8)), (.int .i64), (.int .i64)] [G_Fan] (fun x => law07_made N x.1 x.2.1 x.2.2)), (11, pureE [G_Fan] [(.int .i64)] (fun x => ref07_Check N x)), (12, pureE [] [.bool] (fun x => law07_awake N)), (13, pureE [(.int .i64), (.int .i64)] [(.int .i64)] (fun x => draw_Mod N x.1 x.2)), (14, pureE [G_Fan, (.int .i64)] [G_Point] (fun x => fan_Curve N x.1 x.2))]
def law07_FanPoints (N : Nat) (a0 : List Int) (a1 : Int) (a2 : Int) : Option Bool :=
  Option.bind (law07_made N a0 0 0) fun r1 =>
  Option.bind (ref07_Check N r1) fun r2 =>
  bif (r2 != 0) then
    Option.bind (law07_awake N) fun r3 =>
    some r3
  else
    Option.bind (draw_Mod N a1 (r1.2.2.2.length : Int)) fun r4 =>
    bif inB r4 r1.2.2.2.length then
    let v5 := r1.2.2.2.getD r4.toNat D_Point
    Option.bind (fan_Curve N r1 v5.1) fun r6 =>
    bif (!((r6.1 == v5.2) && (r6.2 == v5.2))) then
      some false
    else
      bif ((W (r4 + 1)) == (r1.2.2.2.length : Int)) then
        Option.bind (law07_awake N) fun r7 =>
        some r7
      else
        bif inB (W (r4 + 1)) r1.2.2.2.length then
        let v8 := r1.2.2.2.getD (W (r4 + 1)).toNat D_Point
        let v9 := W ((W (v8.1 - v5.1)) + 1)
        bif v9 == 0 then none else
        Option.bind (fan_Curve N r1 (W (v5.1 + ((W a2).tmod v9)))) fun r11 =>
        bif (decide (v8.2 ≤ r11.1)) then
          bif (decide (r11.2 ≤ v5.2)) then
            bif (decide ((W (r11.2 - r11.1)) ≤ 1)) then
              Option.bind (law07_awake N) fun r12 =>
              some r12
            else
              some false
          else
            some false
        else
          some false
        else none
    else none
theorem law07_FanPoints_fn : FnOK Try.prog 8 88 (fun _ : Nat => false) law07_FanPoints_C1.er [(.t 6)] := FnOK.mk' Try.func8 (by kernel_rfl) (by kernel_rfl) (by kernel_rfl) (by kernel_rfl) (by kernel_rfl)
theorem law07_FanPoints_envok (N : Nat) : EnvOK Try.prog (law07_FanPoints_E N) := .cons (pureE_ok (law07_made_pure N)) (.cons (pureE_ok (ref07_Check_pure N)) (.cons (pureE_ok (law07_awake_pure N)) (.cons (pureE_ok (draw_Mod_pure N)) (.cons (pureE_ok (fan_Curve_pure N)) (.nil)))))
theorem law07_FanPoints_pure (N : Nat) : PureOK Try.prog 8 [(.list (.int .u8)), (.int .i64), (.int .u8)] [.bool] (fun x => law07_FanPoints N x.1 x.2.1 x.2.2) := pureOK (N := N) mixed law07_FanPoints_fn (law07_FanPoints_envok N) rfl (fun x => by kernel_rfl)
end M
end Go.Proofs.Ytlclflgommkbcaa
