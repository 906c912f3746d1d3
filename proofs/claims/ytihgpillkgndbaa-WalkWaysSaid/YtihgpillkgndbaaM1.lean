/- Plain models of functions of this seat, each checked against the loaded program and the walk by the kernel. No condition: closed facts. Printed by a program of ours. -/
import Derived.Test.YtihgpillkgndbaaBo
import Derived.Test.YtihgpillkgndbaaRows
set_option linter.all false
namespace Go.Proofs.Ytihgpillkgndbaa
open Go.Pv
namespace M
theorem mixed : Try.prog.follows .mixedOrders = true := Try.checked.mixed
theorem brB_cond {α : Type} (b : Bool) (x y : α) : brB b x y = (bif b then x else y) := by cases b <;> rfl
abbrev G_boundsError : GT := (.pair (.int .i64) (.pair (.int .i64) (.pair .bool (.int .u8))))
abbrev T_boundsError := Int × Int × Bool × Int
abbrev D_boundsError : T_boundsError := (0, (0, (false, 0)))
abbrev G_errorAddressString : GT := (.pair .str (.int .u64))
abbrev T_errorAddressString := ByteArray × Int
abbrev D_errorAddressString : T_errorAddressString := (ByteArray.empty, 0)
abbrev G_Place : GT := (.pair (.int .i64) .bool)
abbrev T_Place := Int × Bool
abbrev D_Place : T_Place := (0, false)
abbrev G_Span : GT := (.pair (.int .i64) (.int .i64))
abbrev T_Span := Int × Int
abbrev D_Span : T_Span := (0, 0)
abbrev G_Road : GT := (.pair (.int .i64) (.pair (.int .i64) (.pair (.int .i64) (.pair (.int .i64) (.pair .bool (.pair .bool (.pair G_Span (.pair (.int .i64) (.int .i64)))))))))
abbrev T_Road := Int × Int × Int × Int × Bool × Bool × T_Span × Int × Int
abbrev D_Road : T_Road := (0, (0, (0, (0, (false, (false, (D_Span, (0, 0))))))))
abbrev G_Mine : GT := (.pair (.list G_Place) (.list G_Road))
abbrev T_Mine := (List T_Place) × List T_Road
abbrev D_Mine : T_Mine := ([], [])
abbrev G_Codes : GT := (.pair (.list (.int .u8)) (.int .i64))
abbrev T_Codes := (List Int) × Int
abbrev D_Codes : T_Codes := ([], 0)
abbrev G_pace : GT := (.pair (.int .i64) (.pair (.int .i64) (.int .i64)))
abbrev T_pace := Int × Int × Int
abbrev D_pace : T_pace := (0, (0, 0))
/-! draw_New -/
def draw_New_NE : List NS := [.keep [2], .out []]
def draw_New_C4 : TC := .ret
def draw_New_C3 : TC := (.pre [.keep [2], .out []] draw_New_C4)
def draw_New_C2 : TC := (.seq (.rg [⟨⟨some 3, (.mov (.t 0)), none⟩, {}⟩, ⟨⟨some 4, (.mov (.t 0)), none⟩, {}⟩, ⟨⟨some 5, (.len (.t 4)), none⟩, {}⟩, ⟨⟨some 6, (.mm false [(.t 5), (.c (I 300))]), none⟩, {}⟩, ⟨⟨some 7, (.slc 1 (.t 3) none (some (.t 6))), none⟩, {}⟩, ⟨⟨some 8, (.build [(.lst true []), (I 0)] [(0, (1, (.t 7)))]),
  none⟩, {}⟩, ⟨⟨some 9, (.box (.t 8)), none⟩, {}⟩, ⟨⟨some 2, (.mov (.t 9)), none⟩, {}⟩] none) draw_New_C3)
def draw_New_C1 : TC := (.seq (.rg [⟨⟨some 2, (.mov (.c (.v (.pointer none)))), none⟩, {}⟩] none) draw_New_C2)
def draw_New_E (N : Nat) : List (Nat × Ent) := []
def draw_New (N : Nat) (a0 : List Int) : Option (T_Codes × Unit) :=
  let v1 := min (a0.length : Int) 300
  bif slB 0 v1 a0.length then
  some (((a0.take v1.toNat), 0), ())
  else none
theorem draw_New_fn : FnOK Try.prog 9 10 (fun _ : Nat => false) draw_New_C1.er [(.t 2)] := FnOK.mk' Try.func9 (by kernel_rfl) (by kernel_rfl) (by kernel_rfl) (by kernel_rfl) (by kernel_rfl)
theorem draw_New_envok (N : Nat) : EnvOK Try.prog (draw_New_E N) := .nil
theorem draw_New_sf (N : Nat) : SFOK Try.prog 9 [none] [.v (.list (.int .u8))] [.n G_Codes] (fun x => draw_New N x) := sfOK (N := N) (p := 0) (q := 0) (ns := draw_New_NE) mixed draw_New_fn (draw_New_envok N) (TC.noh_ok (by kernel_rfl)) rfl rfl rfl (fun x => by kernel_rfl)
/-! draw_Codes_Next -/
def draw_Codes_Next_NE : List NS := [.frzo 0, .keep [4], .out [0]]
def draw_Codes_Next_C11 : TC := (.rg [⟨⟨some 67, (.mov (.t 0)), none⟩, {}⟩, ⟨⟨some 68, (.nilck (.t 67)), none⟩, {}⟩, ⟨⟨some 69, (.fadr 1 (.t 68)), none⟩, {}⟩, ⟨⟨some 70, (.load false 1 (.t 69)), none⟩, {}⟩, ⟨⟨some 71, (.bin .add (.t 70) (.c (I 1))), none⟩, {}⟩, ⟨⟨some 72, (.nilck (.t 67)), none⟩, {}⟩, ⟨⟨some 73, (.fadr 1 (.t 72)),
  none⟩, {}⟩, ⟨⟨none, (.store 1 (.t 73) (.t 71)), none⟩, {}⟩] none)
def draw_Codes_Next_C8 : TC := (.cond (.t 52) (.seq (.rg [⟨⟨some 53, (.mov (.t 5)), none⟩, {}⟩, ⟨⟨some 54, (.bin .mul (.t 53) (.c (I 256))), none⟩, {}⟩, ⟨⟨some 55, (.mov (.t 0)), none⟩, {}⟩, ⟨⟨some 56, (.nilck (.t 55)), none⟩, {}⟩, ⟨⟨some 57, (.fadr 0 (.t 56)), none⟩, {}⟩, ⟨⟨some 58, (.load false 1 (.t 57)), none⟩, {}⟩, ⟨⟨some 59,
  (.mov (.t 0)), none⟩, {}⟩, ⟨⟨some 60, (.nilck (.t 59)), none⟩, {}⟩, ⟨⟨some 61, (.fadr 1 (.t 60)), none⟩, {}⟩, ⟨⟨some 62, (.load false 1 (.t 61)), none⟩, {}⟩, ⟨⟨some 63, (.iadrS 1 (.t 58) (.t 62)), none⟩, {}⟩, ⟨⟨some 64, (.load false 1 (.t 63)), none⟩, {}⟩, ⟨⟨some 65, (.conv .i64 (.t 64)), none⟩,
  {}⟩, ⟨⟨some 66, (.bin .add (.t 54) (.t 65)), none⟩, {}⟩, ⟨⟨some 5, (.mov (.t 66)), none⟩, {}⟩] (some [])) draw_Codes_Next_C11) .skip)
def draw_Codes_Next_C14 : TC := .ret
def draw_Codes_Next_C12 : TC := (.pre [.frzo 0, .keep [4], .out [0]] draw_Codes_Next_C14)
def draw_Codes_Next_C9 : TC := (.seq (.rg [⟨⟨some 74, (.mov (.t 5)), none⟩, {}⟩, ⟨⟨some 75, (.mov (.t 1)), none⟩, {}⟩, ⟨⟨some 76, (.bin .rem (.t 74) (.t 75)), none⟩, {}⟩, ⟨⟨some 4, (.mov (.t 76)), none⟩, {}⟩] none) draw_Codes_Next_C12)
def draw_Codes_Next_C5 : TC := (.seq (.seq (.rg [⟨⟨some 39, (.mov (.t 1)), none⟩, {}⟩, ⟨⟨some 40, (.bin .gtr (.t 39) (.c (I 256))), none⟩, {}⟩, ⟨⟨some 41, (.mov (.t 40)), none⟩, {}⟩, ⟨⟨some 42, (.mov (.t 0)), some (41, true)⟩, {}⟩, ⟨⟨some 43, (.nilck (.t 42)), some (41, true)⟩, {}⟩, ⟨⟨some 44, (.fadr 1 (.t 43)), some (41, true)⟩,
  {}⟩, ⟨⟨some 45, (.load false 1 (.t 44)), some (41, true)⟩, {}⟩, ⟨⟨some 46, (.mov (.t 0)), some (41, true)⟩, {}⟩, ⟨⟨some 47, (.nilck (.t 46)), some (41, true)⟩, {}⟩, ⟨⟨some 48, (.fadr 0 (.t 47)), some (41, true)⟩, {}⟩, ⟨⟨some 49, (.load false 1 (.t 48)), some (41, true)⟩, {}⟩, ⟨⟨some 50, (.len (.t
  49)), some (41, true)⟩, {}⟩, ⟨⟨some 51, (.bin .lss (.t 45) (.t 50)), some (41, true)⟩, {}⟩, ⟨⟨some 52, (.pick (.t 41) (.t 51) (.c (B false))), none⟩, {}⟩] (some [])) draw_Codes_Next_C8) draw_Codes_Next_C9)
def draw_Codes_Next_C3 : TC := (.seq (.rg [⟨⟨some 27, (.mov (.t 0)), none⟩, {}⟩, ⟨⟨some 28, (.nilck (.t 27)), none⟩, {}⟩, ⟨⟨some 29, (.fadr 0 (.t 28)), none⟩, {}⟩, ⟨⟨some 30, (.load false 1 (.t 29)), none⟩, {}⟩, ⟨⟨some 31, (.mov (.t 0)), none⟩, {}⟩, ⟨⟨some 32, (.nilck (.t 31)), none⟩, {}⟩, ⟨⟨some 33, (.fadr 1 (.t 32)), none⟩, {}⟩,
  ⟨⟨some 34, (.load false 1 (.t 33)), none⟩, {}⟩, ⟨⟨some 35, (.bin .sub (.t 34) (.c (I 1))), none⟩, {}⟩, ⟨⟨some 36, (.iadrS 1 (.t 30) (.t 35)), none⟩, {}⟩, ⟨⟨some 37, (.load false 1 (.t 36)), none⟩, {}⟩, ⟨⟨some 38, (.conv .i64 (.t 37)), none⟩, {}⟩, ⟨⟨some 5, (.mov (.t 38)), none⟩, {}⟩] (some []))
  draw_Codes_Next_C5)
def draw_Codes_Next_C1 : TC := (.seq (.rg [⟨⟨some 20, (.mov (.t 0)), none⟩, {}⟩, ⟨⟨some 21, (.nilck (.t 20)), none⟩, {}⟩, ⟨⟨some 22, (.fadr 1 (.t 21)), none⟩, {}⟩, ⟨⟨some 23, (.load false 1 (.t 22)), none⟩, {}⟩, ⟨⟨some 24, (.bin .add (.t 23) (.c (I 1))), none⟩, {}⟩, ⟨⟨some 25, (.nilck (.t 20)), none⟩, {}⟩, ⟨⟨some 26, (.fadr 1 (.t
  25)), none⟩, {}⟩, ⟨⟨none, (.store 1 (.t 26) (.t 24)), none⟩, {}⟩] none) draw_Codes_Next_C3)
def draw_Codes_Next_C13 : TC := .ret
def draw_Codes_Next_C10 : TC := (.pre [.frzo 0, .keep [4], .out [0]] draw_Codes_Next_C13)
def draw_Codes_Next_C6 : TC := (.cond (.t 19) (.seq (.rg [⟨⟨some 4, (.mov (.c (I 0))), none⟩, {}⟩] none) draw_Codes_Next_C10) .skip)
def draw_Codes_Next_C7 : TC := (.join [.keep [0, 1], .cmp] draw_Codes_Next_C1)
def draw_Codes_Next_C4 : TC := (.seq (.seq (.rg [⟨⟨some 6, (.mov (.t 1)), none⟩, {}⟩, ⟨⟨some 7, (.bin .lss (.t 6) (.c (I 1))), none⟩, {}⟩, ⟨⟨some 8, (.mov (.t 7)), none⟩, {}⟩, ⟨⟨some 9, (.mov (.t 0)), some (8, false)⟩, {}⟩, ⟨⟨some 10, (.nilck (.t 9)), some (8, false)⟩, {}⟩, ⟨⟨some 11, (.fadr 1 (.t 10)), some (8, false)⟩, {}⟩,
  ⟨⟨some 12, (.load false 1 (.t 11)), some (8, false)⟩, {}⟩, ⟨⟨some 13, (.mov (.t 0)), some (8, false)⟩, {}⟩, ⟨⟨some 14, (.nilck (.t 13)), some (8, false)⟩, {}⟩, ⟨⟨some 15, (.fadr 0 (.t 14)), some (8, false)⟩, {}⟩, ⟨⟨some 16, (.load false 1 (.t 15)), some (8, false)⟩, {}⟩, ⟨⟨some 17, (.len (.t 16)),
  some (8, false)⟩, {}⟩, ⟨⟨some 18, (.bin .geq (.t 12) (.t 17)), some (8, false)⟩, {}⟩, ⟨⟨some 19, (.pick (.t 8) (.c (B true)) (.t 18)), none⟩, {}⟩] (some [])) draw_Codes_Next_C6) draw_Codes_Next_C7)
def draw_Codes_Next_C2 : TC := (.seq (.rg [⟨⟨some 4, (.mov (.c (I 0))), none⟩, {}⟩] none) draw_Codes_Next_C4)
def draw_Codes_Next_E (N : Nat) : List (Nat × Ent) := []
def draw_Codes_Next_J1 (N : Nat) (x1 : Int) (x2 : List Int) (x3 : Int) : Option (Int × T_Codes) := joinN (run (draw_Codes_Next_E N) N 1 draw_Codes_Next_C1) N ⟨[(0, .ptr 0 0 0), (1, .int .i64 x1)], [some (.box 0 [.lst false (.int .u8) x2, .int .i64 x3])]⟩ (finS draw_Codes_Next_NE [(.t 4)] [.b (.v G_Codes), .v (.int .i64)] [.v (.int .i64)] 1 1)
theorem draw_Codes_Next_J1_eqM (N JM : Nat) (x1 : Int) (x2 : List Int) (x3 : Int) : joinN (run (draw_Codes_Next_E N) N 1 draw_Codes_Next_C1) (JM + 1) ⟨[(0, .ptr 0 0 0), (1, .int .i64 x1)], [some (.box 0 [.lst false (.int .u8) x2, .int .i64 x3])]⟩ (finS draw_Codes_Next_NE [(.t 4)] [.b (.v G_Codes), .v (.int .i64)] [.v (.int .i64)] 1 1) =
  bif inB (W ((W (x3 + 1)) - 1)) x2.length then
  let v4 := x2.getD (W ((W (x3 + 1)) - 1)).toNat 0
  bif (decide (x1 > 256)) then
    bif (decide ((W (x3 + 1)) < (x2.length : Int))) then
      bif inB (W (x3 + 1)) x2.length then
      bif x1 == 0 then none else
      some ((W ((W ((W v4) * 256)) + (W (x2.getD (W (x3 + 1)).toNat 0)))).tmod x1, (x2, W ((W (x3 + 1)) + 1)))
      else none
    else
      bif x1 == 0 then none else
      some ((W v4).tmod x1, (x2, W (x3 + 1)))
  else
    bif x1 == 0 then none else
    some ((W v4).tmod x1, (x2, W (x3 + 1)))
  else none := by kernel_rfl
theorem draw_Codes_Next_J1_eq (N : Nat) (x1 : Int) (x2 : List Int) (x3 : Int) : draw_Codes_Next_J1 (N + 1) x1 x2 x3 =
  bif inB (W ((W (x3 + 1)) - 1)) x2.length then
  let v4 := x2.getD (W ((W (x3 + 1)) - 1)).toNat 0
  bif (decide (x1 > 256)) then
    bif (decide ((W (x3 + 1)) < (x2.length : Int))) then
      bif inB (W (x3 + 1)) x2.length then
      bif x1 == 0 then none else
      some ((W ((W ((W v4) * 256)) + (W (x2.getD (W (x3 + 1)).toNat 0)))).tmod x1, (x2, W ((W (x3 + 1)) + 1)))
      else none
    else
      bif x1 == 0 then none else
      some ((W v4).tmod x1, (x2, W (x3 + 1)))
  else
    bif x1 == 0 then none else
    some ((W v4).tmod x1, (x2, W (x3 + 1)))
  else none := draw_Codes_Next_J1_eqM (N + 1) N x1 x2 x3
def draw_Codes_Next (N : Nat) (a0 : T_Codes) (a1 : Int) : Option (Int × T_Codes) :=
  bif (decide (a1 < 1)) then
    some (0, a0)
  else
    bif (decide (a0.2 ≥ (a0.1.length : Int))) then
      some (0, a0)
    else
      draw_Codes_Next_J1 N a1 a0.1 a0.2
theorem draw_Codes_Next_fn : FnOK Try.prog 26 77 (fun _ : Nat => false) draw_Codes_Next_C2.er [(.t 4)] := FnOK.mk' Try.func26 (by kernel_rfl) (by kernel_rfl) (by kernel_rfl) (by kernel_rfl) (by kernel_rfl)
theorem draw_Codes_Next_envok (N : Nat) : EnvOK Try.prog (draw_Codes_Next_E N) := .nil
theorem draw_Codes_Next_sf (N : Nat) : SFOK Try.prog 26 [none, none] [.b (.v G_Codes), .v (.int .i64)] [.v (.int .i64)] (fun x => draw_Codes_Next N x.1 x.2) := sfOK (N := N) (p := 1) (q := 1) (ns := draw_Codes_Next_NE) mixed draw_Codes_Next_fn (draw_Codes_Next_envok N) (TC.noh_ok (by kernel_rfl)) rfl rfl rfl (fun x => by kernel_rfl)
/-! draw_Codes_Range -/
def draw_Codes_Range_NE : List NS := [.frzo 0, .keep [6], .out [0]]
def draw_Codes_Range_C4 : TC := .ret
def draw_Codes_Range_C3 : TC := (.pre [.frzo 0, .keep [6], .out [0]] draw_Codes_Range_C4)
def draw_Codes_Range_C2 : TC := (.seq (.rg [⟨⟨some 7, (.mov (.t 1)), none⟩, {}⟩, ⟨⟨some 8, (.mov (.t 0)), none⟩, {}⟩, ⟨⟨some 9, (.mov (.t 2)), none⟩, {}⟩, ⟨⟨some 10, (.mov (.t 1)), none⟩, {}⟩, ⟨⟨some 11, (.bin .sub (.t 9) (.t 10)), none⟩, {}⟩, ⟨⟨some 12, (.bin .add (.t 11) (.c (I 1))), none⟩, {}⟩, ⟨⟨some 13, (.call (.c (.fn 26 []))
  [(.t 8), (.t 12)]), none⟩, {}⟩, ⟨⟨some 14, (.bin .add (.t 7) (.t 13)), none⟩, {}⟩, ⟨⟨some 6, (.mov (.t 14)), none⟩, {}⟩] none) draw_Codes_Range_C3)
def draw_Codes_Range_C1 : TC := (.seq (.rg [⟨⟨some 6, (.mov (.c (I 0))), none⟩, {}⟩] none) draw_Codes_Range_C2)
def draw_Codes_Range_E (N : Nat) : List (Nat × Ent) := [(26, sfE [none, none] [.b (.v G_Codes), .v (.int .i64)] [.v (.int .i64)] (fun x => draw_Codes_Next N x.1 x.2))]
def draw_Codes_Range (N : Nat) (a0 : T_Codes) (a1 : Int) (a2 : Int) : Option (Int × T_Codes) :=
  Option.bind (draw_Codes_Next N a0 (W ((W (a2 - a1)) + 1))) fun r1 =>
  some (W (a1 + r1.1), r1.2)
theorem draw_Codes_Range_fn : FnOK Try.prog 27 15 (fun _ : Nat => false) draw_Codes_Range_C1.er [(.t 6)] := FnOK.mk' Try.func27 (by kernel_rfl) (by kernel_rfl) (by kernel_rfl) (by kernel_rfl) (by kernel_rfl)
theorem draw_Codes_Range_envok (N : Nat) : EnvOK Try.prog (draw_Codes_Range_E N) := .cons (sfE_ok (draw_Codes_Next_sf N)) (.nil)
theorem draw_Codes_Range_sf (N : Nat) : SFOK Try.prog 27 [none, none, none] [.b (.v G_Codes), .v (.int .i64), .v (.int .i64)] [.v (.int .i64)] (fun x => draw_Codes_Range N x.1 x.2.1 x.2.2) := sfOK (N := N) (p := 1) (q := 1) (ns := draw_Codes_Range_NE) mixed draw_Codes_Range_fn (draw_Codes_Range_envok N) (TC.noh_ok (by kernel_rfl)) rfl rfl rfl (fun x => by kernel_rfl)
/-! draw_Codes_One -/
def draw_Codes_One_NE : List NS := [.frzo 0, .keep [4], .out [0]]
def draw_Codes_One_C4 : TC := .ret
def draw_Codes_One_C3 : TC := (.pre [.frzo 0, .keep [4], .out [0]] draw_Codes_One_C4)
def draw_Codes_One_C2 : TC := (.seq (.rg [⟨⟨some 5, (.mov (.t 0)), none⟩, {}⟩, ⟨⟨some 6, (.mov (.t 1)), none⟩, {}⟩, ⟨⟨some 7, (.call (.c (.fn 26 [])) [(.t 5), (.t 6)]), none⟩, {}⟩, ⟨⟨some 8, (.mov (.t 1)), none⟩, {}⟩, ⟨⟨some 9, (.bin .sub (.t 8) (.c (I 1))), none⟩, {}⟩, ⟨⟨some 10, (.bin .eql (.t 7) (.t 9)), none⟩, {}⟩, ⟨⟨some 4,
  (.mov (.t 10)), none⟩, {}⟩] none) draw_Codes_One_C3)
def draw_Codes_One_C1 : TC := (.seq (.rg [⟨⟨some 4, (.mov (.c (B false))), none⟩, {}⟩] none) draw_Codes_One_C2)
def draw_Codes_One_E (N : Nat) : List (Nat × Ent) := [(26, sfE [none, none] [.b (.v G_Codes), .v (.int .i64)] [.v (.int .i64)] (fun x => draw_Codes_Next N x.1 x.2))]
def draw_Codes_One (N : Nat) (a0 : T_Codes) (a1 : Int) : Option (Bool × T_Codes) :=
  Option.bind (draw_Codes_Next N a0 a1) fun r1 =>
  some ((r1.1 == (W (a1 - 1))), r1.2)
theorem draw_Codes_One_fn : FnOK Try.prog 28 11 (fun _ : Nat => false) draw_Codes_One_C1.er [(.t 4)] := FnOK.mk' Try.func28 (by kernel_rfl) (by kernel_rfl) (by kernel_rfl) (by kernel_rfl) (by kernel_rfl)
theorem draw_Codes_One_envok (N : Nat) : EnvOK Try.prog (draw_Codes_One_E N) := .cons (sfE_ok (draw_Codes_Next_sf N)) (.nil)
theorem draw_Codes_One_sf (N : Nat) : SFOK Try.prog 28 [none, none] [.b (.v G_Codes), .v (.int .i64)] [.v .bool] (fun x => draw_Codes_One N x.1 x.2) := sfOK (N := N) (p := 1) (q := 1) (ns := draw_Codes_One_NE) mixed draw_Codes_One_fn (draw_Codes_One_envok N) (TC.noh_ok (by kernel_rfl)) rfl rfl rfl (fun x => by kernel_rfl)
/-! draw_Codes_Road -/
def draw_Codes_Road_NE : List NS := [.frzo 0, .keep [6], .out [0]]
def draw_Codes_Road_C8 : TC := .ret
def draw_Codes_Road_C7 : TC := (.pre [.frzo 0, .keep [6], .out [0]] draw_Codes_Road_C8)
def draw_Codes_Road_C6 : TC := (.seq (.rg [⟨⟨some 41, (.load true 10 (.t 7)), none⟩, {}⟩, ⟨⟨none, (.store 10 (.t 6) (.t 41)), none⟩, {}⟩] none) draw_Codes_Road_C7)
def draw_Codes_Road_C5 : TC := (.seq (.rg [⟨⟨some 33, (.fadr 8 (.t 7)), none⟩, {}⟩, ⟨⟨some 34, (.fadr 0 (.t 33)), none⟩, {}⟩, ⟨⟨some 35, (.load false 1 (.t 34)), none⟩, {}⟩, ⟨⟨some 36, (.mov (.t 0)), none⟩, {}⟩, ⟨⟨some 37, (.call (.c (.fn 26 [])) [(.t 36), (.c (I 20))]), none⟩, {}⟩, ⟨⟨some 38, (.bin .add (.t 35) (.t 37)), none⟩,
  {}⟩, ⟨⟨some 39, (.fadr 8 (.t 7)), none⟩, {}⟩, ⟨⟨some 40, (.fadr 1 (.t 39)), none⟩, {}⟩, ⟨⟨none, (.store 1 (.t 40) (.t 38)), none⟩, {}⟩] (some [(0, 4), (1, 4), (2, 4)])) draw_Codes_Road_C6)
def draw_Codes_Road_C4 : TC := (.seq (.rg [⟨⟨some 29, (.mov (.t 0)), none⟩, {}⟩, ⟨⟨some 30, (.call (.c (.fn 27 [])) [(.t 29), (.c (I (-300))), (.c (I 300))]), none⟩, {}⟩, ⟨⟨some 31, (.fadr 8 (.t 7)), none⟩, {}⟩, ⟨⟨some 32, (.fadr 0 (.t 31)), none⟩, {}⟩, ⟨⟨none, (.store 1 (.t 32) (.t 30)), none⟩, {}⟩] none) draw_Codes_Road_C5)
def draw_Codes_Road_C3 : TC := (.seq (.rg [⟨⟨some 21, (.fadr 6 (.t 7)), none⟩, {}⟩, ⟨⟨some 22, (.fadr 0 (.t 21)), none⟩, {}⟩, ⟨⟨some 23, (.load false 1 (.t 22)), none⟩, {}⟩, ⟨⟨some 24, (.mov (.t 0)), none⟩, {}⟩, ⟨⟨some 25, (.call (.c (.fn 26 [])) [(.t 24), (.c (I 3))]), none⟩, {}⟩, ⟨⟨some 26, (.bin .add (.t 23) (.t 25)), none⟩,
  {}⟩, ⟨⟨some 27, (.fadr 6 (.t 7)), none⟩, {}⟩, ⟨⟨some 28, (.fadr 1 (.t 27)), none⟩, {}⟩, ⟨⟨none, (.store 1 (.t 28) (.t 26)), none⟩, {}⟩] (some [(0, 4), (1, 4), (2, 4)])) draw_Codes_Road_C4)
def draw_Codes_Road_C2 : TC := (.seq (.rg [⟨⟨some 8, (.mov (.t 1)), none⟩, {}⟩, ⟨⟨some 9, (.mov (.t 2)), none⟩, {}⟩, ⟨⟨some 10, (.mov (.t 0)), none⟩, {}⟩, ⟨⟨some 11, (.call (.c (.fn 27 [])) [(.t 10), (.c (I 1)), (.c (I 400))]), none⟩, {}⟩, ⟨⟨some 12, (.mov (.t 0)), none⟩, {}⟩, ⟨⟨some 13, (.call (.c (.fn 27 [])) [(.t 12), (.c (I
  4)), (.c (I 30))]), none⟩, {}⟩, ⟨⟨some 14, (.mov (.t 0)), none⟩, {}⟩, ⟨⟨some 15, (.call (.c (.fn 26 [])) [(.t 14), (.c (I 4))]), none⟩, {}⟩, ⟨⟨some 16, (.bin .gtr (.t 15) (.c (I 0))), none⟩, {}⟩, ⟨⟨some 17, (.mov (.t 0)), none⟩, {}⟩, ⟨⟨some 18, (.call (.c (.fn 27 [])) [(.t 17), (.c (I 1)), (.c (I
  20))]), none⟩, {}⟩, ⟨⟨some 19, (.build [(I 0), (I 0)] [(0, (1, (.t 18)))]), none⟩, {}⟩, ⟨⟨some 20, (.build [(I 0), (I 0), (I 0), (I 0), (B false), (B false), (I 0), (I 0), (I 0), (I 0)] [(0, (1, (.t 8))), (1, (1, (.t 9))), (2, (1, (.t 11))), (3, (1, (.t 13))), (4, (1, (.t 16))), (6, (2, (.t
  19)))]), none⟩, {}⟩, ⟨⟨some 7, (.alloc [(I 0), (I 0), (I 0), (I 0), (B false), (B false), (I 0), (I 0), (I 0), (I 0)]), none⟩, {}⟩, ⟨⟨none, (.store 10 (.t 7) (.t 20)), none⟩, {}⟩] none) draw_Codes_Road_C3)
def draw_Codes_Road_C1 : TC := (.seq (.rg [⟨⟨some 6, (.alloc [(I 0), (I 0), (I 0), (I 0), (B false), (B false), (I 0), (I 0), (I 0), (I 0)]), none⟩, {}⟩] none) draw_Codes_Road_C2)
def draw_Codes_Road_E (N : Nat) : List (Nat × Ent) := [(27, sfE [none, none, none] [.b (.v G_Codes), .v (.int .i64), .v (.int .i64)] [.v (.int .i64)] (fun x => draw_Codes_Range N x.1 x.2.1 x.2.2)), (26, sfE [none, none] [.b (.v G_Codes), .v (.int .i64)] [.v (.int .i64)] (fun x => draw_Codes_Next N x.1 x.2))]
def draw_Codes_Road (N : Nat) (a0 : T_Codes) (a1 : Int) (a2 : Int) : Option (T_Road × T_Codes) :=
  Option.bind (draw_Codes_Range N a0 1 400) fun r1 =>
  Option.bind (draw_Codes_Range N r1.2 4 30) fun r2 =>
  Option.bind (draw_Codes_Next N r2.2 4) fun r3 =>
  Option.bind (draw_Codes_Range N r3.2 1 20) fun r4 =>
  Option.bind (draw_Codes_Next N r4.2 3) fun r5 =>
  Option.bind (draw_Codes_Range N r5.2 (-300) 300) fun r6 =>
  Option.bind (draw_Codes_Next N r6.2 20) fun r7 =>
  some ((a1, (a2, (r1.1, (r2.1, ((decide (r3.1 > 0)), (false, ((r4.1, W (r4.1 + r5.1)), (r6.1, W (r6.1 + r7.1))))))))), r7.2)
theorem draw_Codes_Road_fn : FnOK Try.prog 29 42 (fun _ : Nat => false) draw_Codes_Road_C1.er [(.cell 6 true 10)] := FnOK.mk' Try.func29 (by kernel_rfl) (by kernel_rfl) (by kernel_rfl) (by kernel_rfl) (by kernel_rfl)
theorem draw_Codes_Road_envok (N : Nat) : EnvOK Try.prog (draw_Codes_Road_E N) := .cons (sfE_ok (draw_Codes_Range_sf N)) (.cons (sfE_ok (draw_Codes_Next_sf N)) (.nil))
theorem draw_Codes_Road_sf (N : Nat) : SFOK Try.prog 29 [none, none, none] [.b (.v G_Codes), .v (.int .i64), .v (.int .i64)] [.v G_Road] (fun x => draw_Codes_Road N x.1 x.2.1 x.2.2) := sfOK (N := N) (p := 1) (q := 1) (ns := draw_Codes_Road_NE) mixed draw_Codes_Road_fn (draw_Codes_Road_envok N) (TC.noh_ok (by kernel_rfl)) rfl rfl rfl (fun x => by kernel_rfl)
/-! draw_Codes_Mine -/
def draw_Codes_Mine_NE : List NS := [.frzb 2, .frzo 0, .keep [2], .out [0]]
def draw_Codes_Mine_N1 : List NS := [.ownc 3 0 G_Place, .keep [0, 2, 3, 4], .cmp]
def draw_Codes_Mine_N2 : List NS := [.ownc 3 1 G_Road, .keep [0, 2, 3, 5, 6], .cmp]
def draw_Codes_Mine_C6 : TC := (.cond (.t 35) .skip (.exit 2))
def draw_Codes_Mine_C22 : TC := (.rg [⟨⟨some 56, (.fadr 1 (.t 3)), none⟩, {}⟩, ⟨⟨some 57, (.load false 1 (.t 56)), none⟩, {}⟩, ⟨⟨some 58, (.load true 10 (.t 8)), none⟩, {}⟩, ⟨⟨some 59, (.bslice false 10 [(I 0), (I 0), (I 0), (I 0), (B false), (B false), (I 0), (I 0), (I 0), (I 0)] 1 [(0, (.t 58))]), none⟩, ⟨G_Road, none⟩⟩, ⟨⟨some
  60, (.app 10 72 (.t 57) (.t 59)), none⟩, {}⟩, ⟨⟨some 61, (.fadr 1 (.t 3)), none⟩, {}⟩, ⟨⟨none, (.store 1 (.t 61) (.t 60)), none⟩, {}⟩] none)
def draw_Codes_Mine_C19 : TC := (.seq (.rg [⟨⟨some 53, (.mov (.t 0)), none⟩, {}⟩, ⟨⟨some 54, (.call (.c (.fn 28 [])) [(.t 53), (.c (I 6))]), none⟩, {}⟩, ⟨⟨some 55, (.fadr 5 (.t 8)), none⟩, {}⟩, ⟨⟨none, (.store 1 (.t 55) (.t 54)), none⟩, {}⟩] none) draw_Codes_Mine_C22)
def draw_Codes_Mine_C13 : TC := (.seq (.rg [⟨⟨some 41, (.mov (.t 0)), none⟩, {}⟩, ⟨⟨some 42, (.mov (.t 7)), none⟩, {}⟩, ⟨⟨some 43, (.mov (.t 7)), none⟩, {}⟩, ⟨⟨some 44, (.bin .add (.t 43) (.c (I 1))), none⟩, {}⟩, ⟨⟨some 45, (.mov (.t 0)), none⟩, {}⟩, ⟨⟨some 46, (.mov (.t 5)), none⟩, {}⟩, ⟨⟨some 47, (.bin .sub (.t 46) (.c (I 1))),
  none⟩, {}⟩, ⟨⟨some 48, (.call (.c (.fn 26 [])) [(.t 45), (.t 47)]), none⟩, {}⟩, ⟨⟨some 49, (.bin .add (.t 44) (.t 48)), none⟩, {}⟩, ⟨⟨some 50, (.mov (.t 5)), none⟩, {}⟩, ⟨⟨some 51, (.bin .rem (.t 49) (.t 50)), none⟩, {}⟩, ⟨⟨some 52, (.call (.c (.fn 29 [])) [(.t 41), (.t 42), (.t 51)]), none⟩, {}⟩,
  ⟨⟨some 8, (.alloc [(I 0), (I 0), (I 0), (I 0), (B false), (B false), (I 0), (I 0), (I 0), (I 0)]), none⟩, {}⟩, ⟨⟨none, (.store 10 (.t 8) (.t 52)), none⟩, {}⟩] none) draw_Codes_Mine_C19)
def draw_Codes_Mine_C14 : TC := (.rg [⟨⟨some 36, (.mov (.t 6)), none⟩, {}⟩, ⟨⟨some 37, (.bin .sub (.t 36) (.c (I 1))), none⟩, {}⟩, ⟨⟨some 6, (.mov (.t 37)), none⟩, {}⟩] none)
def draw_Codes_Mine_C7 : TC := (.seq (.block 3 (.seq (.rg [⟨⟨some 38, (.mov (.t 0)), none⟩, {}⟩, ⟨⟨some 39, (.mov (.t 5)), none⟩, {}⟩, ⟨⟨some 40, (.call (.c (.fn 26 [])) [(.t 38), (.t 39)]), none⟩, {}⟩, ⟨⟨some 7, (.mov (.t 40)), none⟩, {}⟩] none) draw_Codes_Mine_C13)) draw_Codes_Mine_C14)
def draw_Codes_Mine_C1 : TC := (.seq (.seq (.rg [⟨⟨some 34, (.mov (.t 6)), none⟩, {}⟩, ⟨⟨some 35, (.bin .gtr (.t 34) (.c (I 0))), none⟩, {}⟩] none) draw_Codes_Mine_C6) draw_Codes_Mine_C7)
def draw_Codes_Mine_C20 : TC := .ret
def draw_Codes_Mine_C15 : TC := (.pre [.frzb 2, .frzo 0, .keep [2], .out [0]] draw_Codes_Mine_C20)
def draw_Codes_Mine_C8 : TC := (.seq (.rg [⟨⟨some 62, (.load true 2 (.t 3)), none⟩, {}⟩, ⟨⟨none, (.store 2 (.t 2) (.t 62)), none⟩, {}⟩] none) draw_Codes_Mine_C15)
def draw_Codes_Mine_C2 : TC := (.pre [.frzb 3] draw_Codes_Mine_C8)
def draw_Codes_Mine_C9 : TC := (.cond (.t 16) .skip (.exit 0))
def draw_Codes_Mine_C16 : TC := (.rg [⟨⟨some 17, (.mov (.t 4)), none⟩, {}⟩, ⟨⟨some 18, (.bin .sub (.t 17) (.c (I 1))), none⟩, {}⟩, ⟨⟨some 4, (.mov (.t 18)), none⟩, {}⟩] none)
def draw_Codes_Mine_C10 : TC := (.seq (.block 1 (.rg [⟨⟨some 19, (.fadr 0 (.t 3)), none⟩, {}⟩, ⟨⟨some 20, (.load false 1 (.t 19)), none⟩, {}⟩, ⟨⟨some 21, (.mov (.t 0)), none⟩, {}⟩, ⟨⟨some 22, (.call (.c (.fn 27 [])) [(.t 21), (.c (I (-60))), (.c (I 60))]), none⟩, {}⟩, ⟨⟨some 23, (.mov (.t 0)), none⟩, {}⟩, ⟨⟨some 24, (.call (.c (.fn
  28 [])) [(.t 23), (.c (I 5))]), none⟩, {}⟩, ⟨⟨some 25, (.build [(I 0), (B false)] [(0, (1, (.t 22))), (1, (1, (.t 24)))]), none⟩, {}⟩, ⟨⟨some 26, (.bslice false 2 [(I 0), (B false)] 1 [(0, (.t 25))]), none⟩, ⟨G_Place, none⟩⟩, ⟨⟨some 27, (.app 2 16 (.t 20) (.t 26)), none⟩, {}⟩, ⟨⟨some 28, (.fadr 0
  (.t 3)), none⟩, {}⟩, ⟨⟨none, (.store 1 (.t 28) (.t 27)), none⟩, {}⟩] (some [(0, 3), (1, 3), (0, 5), (1, 5)]))) draw_Codes_Mine_C16)
def draw_Codes_Mine_C3 : TC := (.seq (.seq (.rg [⟨⟨some 15, (.mov (.t 4)), none⟩, {}⟩, ⟨⟨some 16, (.bin .gtr (.t 15) (.c (I 0))), none⟩, {}⟩] none) draw_Codes_Mine_C9) draw_Codes_Mine_C10)
def draw_Codes_Mine_C17 : TC := (.block 2 (.loop draw_Codes_Mine_N2 draw_Codes_Mine_C1))
def draw_Codes_Mine_C11 : TC := (.seq (.seq (.rg [⟨⟨some 32, (.mov (.t 0)), none⟩, {}⟩, ⟨⟨some 33, (.call (.c (.fn 26 [])) [(.t 32), (.c (I 9))]), none⟩, {}⟩, ⟨⟨some 6, (.mov (.t 33)), none⟩, {}⟩] none) draw_Codes_Mine_C17) draw_Codes_Mine_C2)
def draw_Codes_Mine_C4 : TC := (.seq (.rg [⟨⟨some 29, (.fadr 0 (.t 3)), none⟩, {}⟩, ⟨⟨some 30, (.load false 1 (.t 29)), none⟩, {}⟩, ⟨⟨some 31, (.len (.t 30)), none⟩, {}⟩, ⟨⟨some 5, (.mov (.t 31)), none⟩, {}⟩] none) draw_Codes_Mine_C11)
def draw_Codes_Mine_C21 : TC := (.block 0 (.loop draw_Codes_Mine_N1 draw_Codes_Mine_C3))
def draw_Codes_Mine_C18 : TC := (.seq (.seq (.rg [⟨⟨some 12, (.mov (.t 0)), none⟩, {}⟩, ⟨⟨some 13, (.call (.c (.fn 26 [])) [(.t 12), (.c (I 6))]), none⟩, {}⟩, ⟨⟨some 14, (.bin .add (.c (I 1)) (.t 13)), none⟩, {}⟩, ⟨⟨some 4, (.mov (.t 14)), none⟩, {}⟩] none) draw_Codes_Mine_C21) draw_Codes_Mine_C4)
def draw_Codes_Mine_C12 : TC := (.seq (.rg [⟨⟨some 9, (.build [(I 0), (B false)] [(1, (1, (.c (B true))))]), none⟩, {}⟩, ⟨⟨some 10, (.bslice true 2 [(I 0), (B false)] 1 [(0, (.t 9))]), none⟩, ⟨G_Place, none⟩⟩, ⟨⟨some 11, (.build [(.lst true []), (.lst true [])] [(0, (1, (.t 10)))]), none⟩, {}⟩, ⟨⟨some 3, (.alloc [(.lst true []),
  (.lst true [])]), none⟩, {}⟩, ⟨⟨none, (.store 2 (.t 3) (.t 11)), none⟩, {}⟩] none) draw_Codes_Mine_C18)
def draw_Codes_Mine_C5 : TC := (.seq (.rg [⟨⟨some 2, (.alloc [(.lst true []), (.lst true [])]), none⟩, {}⟩] none) draw_Codes_Mine_C12)
def draw_Codes_Mine_E (N : Nat) : List (Nat × Ent) := [(26, sfE [none, none] [.b (.v G_Codes), .v (.int .i64)] [.v (.int .i64)] (fun x => draw_Codes_Next N x.1 x.2)), (27, sfE [none, none, none] [.b (.v G_Codes), .v (.int .i64), .v (.int .i64)] [.v (.int .i64)] (fun x => draw_Codes_Range N x.1 x.2.1 x.2.2)), (28, sfE [none, none] [.b (.v G_Codes), .v (.int .i64)] [.v .bool] (fun x => draw_Codes_One N x.1 x.2)), (29, sfE [none, none, none] [.b (.v G_Codes), .v (.int .i64), .v (.int .i64)] [.v G_Road] (fun x => draw_Codes_Road N x.1 x.2.1 x.2.2))]
def draw_Codes_Mine_L2 (N : Nat) (n : Nat) (x14 : Int) (x15 : Int) (x16 : List Int) (x17 : Int) (x18 : List T_Place) (x19 : List T_Road) : Option (T_Mine × T_Codes) := loopN (normI 1 draw_Codes_Mine_N2) (run (draw_Codes_Mine_E N) N 1 draw_Codes_Mine_C1) n ⟨[(0, .ptr 0 0 0), (2, .ptr 1 0 0), (3, .ptr 2 0 0), (5, .int .i64 x14), (6, .int .i64 x15)], [some (.box 0 [.lst false (.int .u8) x16, .int .i64 x17]), some (.box 0 [.nil, .nil]), some (.box 0 [.whole 3, .whole 4]), some (.arr G_Place x18), some (.arr G_Road x19)]⟩ (blkK 2 (seqK (run (draw_Codes_Mine_E N) N 1 draw_Codes_Mine_C2) (finS draw_Codes_Mine_NE [(.cell 2 true 2)] [.b (.v G_Codes)] [.v G_Mine] 1 1)))
def draw_Codes_Mine_L1 (N : Nat) (n : Nat) (x2 : Int) (x3 : List Int) (x4 : Int) (x5 : List T_Place) : Option (T_Mine × T_Codes) := loopN (normI 1 draw_Codes_Mine_N1) (run (draw_Codes_Mine_E N) N 1 draw_Codes_Mine_C3) n ⟨[(0, .ptr 0 0 0), (2, .ptr 1 0 0), (3, .ptr 2 0 0), (4, .int .i64 x2)], [some (.box 0 [.lst false (.int .u8) x3, .int .i64 x4]), some (.box 0 [.nil, .nil]), some (.box 0 [.whole 3, .nil]), some (.arr G_Place x5)]⟩ (blkK 0 (seqK (run (draw_Codes_Mine_E N) N 1 draw_Codes_Mine_C4) (finS draw_Codes_Mine_NE [(.cell 2 true 2)] [.b (.v G_Codes)] [.v G_Mine] 1 1)))
theorem draw_Codes_Mine_L2_zero (N : Nat) (x14 : Int) (x15 : Int) (x16 : List Int) (x17 : Int) (x18 : List T_Place) (x19 : List T_Road) : draw_Codes_Mine_L2 N 0 x14 x15 x16 x17 x18 x19 = none := rfl
theorem draw_Codes_Mine_L2_succ (N : Nat) (n2 : Nat) (x14 : Int) (x15 : Int) (x16 : List Int) (x17 : Int) (x18 : List T_Place) (x19 : List T_Road) : draw_Codes_Mine_L2 N (n2 + 1) x14 x15 x16 x17 x18 x19 =
  bif (decide (x15 > 0)) then
    Option.bind (draw_Codes_Next N (x16, x17) x14) fun r20 =>
    Option.bind (draw_Codes_Next N r20.2 (W (x14 - 1))) fun r21 =>
    bif x14 == 0 then none else
    Option.bind (draw_Codes_Road N r21.2 r20.1 ((W ((W (r20.1 + 1)) + r21.1)).tmod x14)) fun r23 =>
    Option.bind (draw_Codes_One N r23.2 6) fun r24 =>
    bif fitsB (x19.length + 1) 72 then
    draw_Codes_Mine_L2 N n2 x14 (W (x15 - 1)) r24.2.1 r24.2.2 x18 (x19 ++ [(r23.1.1, (r23.1.2.1, (r23.1.2.2.1, (r23.1.2.2.2.1, (r23.1.2.2.2.2.1, (r24.1, r23.1.2.2.2.2.2.2))))))])
    else none
  else
    some ((x18, x19), (x16, x17)) := by kernel_rfl
theorem draw_Codes_Mine_L1_zero (N : Nat) (x2 : Int) (x3 : List Int) (x4 : Int) (x5 : List T_Place) : draw_Codes_Mine_L1 N 0 x2 x3 x4 x5 = none := rfl
theorem draw_Codes_Mine_L1_succ (N : Nat) (n1 : Nat) (x2 : Int) (x3 : List Int) (x4 : Int) (x5 : List T_Place) : draw_Codes_Mine_L1 N (n1 + 1) x2 x3 x4 x5 =
  bif (decide (x2 > 0)) then
    Option.bind (draw_Codes_Range N (x3, x4) (-60) 60) fun r6 =>
    Option.bind (draw_Codes_One N r6.2 5) fun r7 =>
    bif fitsB (x5.length + 1) 16 then
    draw_Codes_Mine_L1 N n1 (W (x2 - 1)) r7.2.1 r7.2.2 (x5 ++ [(r6.1, r7.1)])
    else none
  else
    Option.bind (draw_Codes_Next N (x3, x4) 9) fun r13 =>
    draw_Codes_Mine_L2 N N (x5.length : Int) r13.1 r13.2.1 r13.2.2 x5 [] := by kernel_rfl
def draw_Codes_Mine (N : Nat) (a0 : T_Codes) : Option (T_Mine × T_Codes) :=
  Option.bind (draw_Codes_Next N a0 6) fun r1 =>
  draw_Codes_Mine_L1 N N (W (1 + r1.1)) r1.2.1 r1.2.2 [(0, true)]
theorem draw_Codes_Mine_fn : FnOK Try.prog 10 63 (fun t : Nat => Nat.beq t 10) draw_Codes_Mine_C5.er [(.cell 2 true 2)] := FnOK.mk' Try.func10 (by kernel_rfl) (by kernel_rfl) (by kernel_rfl) (by kernel_rfl) (by kernel_rfl)
theorem draw_Codes_Mine_envok (N : Nat) : EnvOK Try.prog (draw_Codes_Mine_E N) := .cons (sfE_ok (draw_Codes_Next_sf N)) (.cons (sfE_ok (draw_Codes_Range_sf N)) (.cons (sfE_ok (draw_Codes_One_sf N)) (.cons (sfE_ok (draw_Codes_Road_sf N)) (.nil))))
theorem draw_Codes_Mine_sf (N : Nat) : SFOK Try.prog 10 [none] [.b (.v G_Codes)] [.v G_Mine] (fun x => draw_Codes_Mine N x) := sfOK (N := N) (p := 1) (q := 1) (ns := draw_Codes_Mine_NE) mixed draw_Codes_Mine_fn (draw_Codes_Mine_envok N) (TC.noh_ok (by kernel_rfl)) rfl rfl rfl (fun x => by kernel_rfl)
/-! draw_Mod -/
def draw_Mod_C5 : TC := .ret
def draw_Mod_C3 : TC := (.cond (.t 6) (.seq (.rg [⟨⟨some 4, (.mov (.c (I 0))), none⟩, {}⟩] none) draw_Mod_C5) .skip)
def draw_Mod_C7 : TC := (.cond (.t 11) (.rg [⟨⟨some 12, (.mov (.t 0)), none⟩, {}⟩, ⟨⟨some 13, (.mov (.t 1)), none⟩, {}⟩, ⟨⟨some 14, (.bin .add (.t 12) (.t 13)), none⟩, {}⟩, ⟨⟨some 0, (.mov (.t 14)), none⟩, {}⟩] none) .skip)
def draw_Mod_C9 : TC := .ret
def draw_Mod_C8 : TC := (.seq (.rg [⟨⟨some 15, (.mov (.t 0)), none⟩, {}⟩, ⟨⟨some 4, (.mov (.t 15)), none⟩, {}⟩] none) draw_Mod_C9)
def draw_Mod_C6 : TC := (.seq (.seq (.rg [⟨⟨some 10, (.mov (.t 0)), none⟩, {}⟩, ⟨⟨some 11, (.bin .lss (.t 10) (.c (I 0))), none⟩, {}⟩] none) draw_Mod_C7) draw_Mod_C8)
def draw_Mod_C4 : TC := (.seq (.rg [⟨⟨some 7, (.mov (.t 0)), none⟩, {}⟩, ⟨⟨some 8, (.mov (.t 1)), none⟩, {}⟩, ⟨⟨some 9, (.bin .rem (.t 7) (.t 8)), none⟩, {}⟩, ⟨⟨some 0, (.mov (.t 9)), none⟩, {}⟩] none) draw_Mod_C6)
def draw_Mod_C2 : TC := (.seq (.seq (.rg [⟨⟨some 5, (.mov (.t 1)), none⟩, {}⟩, ⟨⟨some 6, (.bin .lss (.t 5) (.c (I 1))), none⟩, {}⟩] none) draw_Mod_C3) draw_Mod_C4)
def draw_Mod_C1 : TC := (.seq (.rg [⟨⟨some 4, (.mov (.c (I 0))), none⟩, {}⟩] none) draw_Mod_C2)
def draw_Mod_E (N : Nat) : List (Nat × Ent) := []
def draw_Mod (N : Nat) (a0 : Int) (a1 : Int) : Option Int :=
  bif (decide (a1 < 1)) then
    some 0
  else
    bif a1 == 0 then none else
    bif (decide ((a0.tmod a1) < 0)) then
      some (W ((a0.tmod a1) + a1))
    else
      some (a0.tmod a1)
theorem draw_Mod_fn : FnOK Try.prog 11 16 (fun _ : Nat => false) draw_Mod_C1.er [(.t 4)] := FnOK.mk' Try.func11 (by kernel_rfl) (by kernel_rfl) (by kernel_rfl) (by kernel_rfl) (by kernel_rfl)
theorem draw_Mod_envok (N : Nat) : EnvOK Try.prog (draw_Mod_E N) := .nil
theorem draw_Mod_pure (N : Nat) : PureOK Try.prog 11 [(.int .i64), (.int .i64)] [(.int .i64)] (fun x => draw_Mod N x.1 x.2) := pureOK (N := N) mixed draw_Mod_fn (draw_Mod_envok N) (TC.noh_ok (by kernel_rfl)) rfl (fun x => by kernel_rfl)
/-! plan_spanIn -/
def plan_spanIn_C3 : TC := .ret
def plan_spanIn_C2 : TC := (.seq (.rg [⟨⟨some 7, (.mov (.t 1)), none⟩, {}⟩, ⟨⟨some 8, (.fadr 0 (.t 3)), none⟩, {}⟩, ⟨⟨some 9, (.load false 1 (.t 8)), none⟩, {}⟩, ⟨⟨some 10, (.bin .leq (.t 7) (.t 9)), none⟩, {}⟩, ⟨⟨some 11, (.mov (.t 10)), none⟩, {}⟩, ⟨⟨some 12, (.fadr 0 (.t 3)), some (11, true)⟩, {}⟩, ⟨⟨some 13, (.load false 1
  (.t 12)), some (11, true)⟩, {}⟩, ⟨⟨some 14, (.fadr 1 (.t 3)), some (11, true)⟩, {}⟩, ⟨⟨some 15, (.load false 1 (.t 14)), some (11, true)⟩, {}⟩, ⟨⟨some 16, (.bin .leq (.t 13) (.t 15)), some (11, true)⟩, {}⟩, ⟨⟨some 17, (.pick (.t 11) (.t 16) (.c (B false))), none⟩, {}⟩, ⟨⟨some 18, (.mov (.t 17)),
  none⟩, {}⟩, ⟨⟨some 19, (.fadr 1 (.t 3)), some (18, true)⟩, {}⟩, ⟨⟨some 20, (.load false 1 (.t 19)), some (18, true)⟩, {}⟩, ⟨⟨some 21, (.mov (.t 2)), some (18, true)⟩, {}⟩, ⟨⟨some 22, (.bin .leq (.t 20) (.t 21)), some (18, true)⟩, {}⟩, ⟨⟨some 23, (.pick (.t 18) (.t 22) (.c (B false))), none⟩, {}⟩,
  ⟨⟨some 6, (.mov (.t 23)), none⟩, {}⟩] none) plan_spanIn_C3)
def plan_spanIn_C1 : TC := (.seq (.rg [⟨⟨some 3, (.box (.t 0)), none⟩, {}⟩, ⟨⟨some 6, (.mov (.c (B false))), none⟩, {}⟩] none) plan_spanIn_C2)
def plan_spanIn_E (N : Nat) : List (Nat × Ent) := []
def plan_spanIn (N : Nat) (a0 : T_Span) (a1 : Int) (a2 : Int) : Option Bool :=
  bif (decide (a1 ≤ a0.1)) then
    bif (decide (a0.1 ≤ a0.2)) then
      some (decide (a0.2 ≤ a2))
    else
      some false
  else
    some false
theorem plan_spanIn_fn : FnOK Try.prog 45 24 (fun _ : Nat => false) plan_spanIn_C1.er [(.t 6)] := FnOK.mk' Try.func45 (by kernel_rfl) (by kernel_rfl) (by kernel_rfl) (by kernel_rfl) (by kernel_rfl)
theorem plan_spanIn_envok (N : Nat) : EnvOK Try.prog (plan_spanIn_E N) := .nil
theorem plan_spanIn_pure (N : Nat) : PureOK Try.prog 45 [G_Span, (.int .i64), (.int .i64)] [.bool] (fun x => plan_spanIn N x.1 x.2.1 x.2.2) := pureOK (N := N) mixed plan_spanIn_fn (plan_spanIn_envok N) (TC.noh_ok (by kernel_rfl)) rfl (fun x => by kernel_rfl)
/-! plan_Check -/
def plan_Check_N1 : List NS := [.wk 19 (.list G_Place), .keep [1, 19, 20, 21], .cmp]
def plan_Check_N2 : List NS := [.wk 38 (.list G_Road), .keep [5, 38, 39, 40], .cmp]
def plan_Check_C17 : TC := .ret
def plan_Check_C9 : TC := (.cond (.t 88) (.seq (.rg [⟨⟨some 2, (.mov (.c (I 1))), none⟩, {}⟩] none) plan_Check_C17) .skip)
def plan_Check_C24 : TC := .ret
def plan_Check_C18 : TC := (.cond (.t 98) (.seq (.rg [⟨⟨some 2, (.mov (.c (I 1))), none⟩, {}⟩] none) plan_Check_C24) .skip)
def plan_Check_C10 : TC := (.seq (.rg [⟨⟨some 89, (.fadr 6 (.t 7)), none⟩, {}⟩, ⟨⟨some 90, (.load true 2 (.t 89)), none⟩, {}⟩, ⟨⟨some 91, (.call (.c (.fn 45 [])) [(.t 90), (.c (I 1)), (.c (I 262144))]), none⟩, {}⟩, ⟨⟨some 92, (.un .not (.t 91)), none⟩, {}⟩, ⟨⟨some 93, (.mov (.t 92)), none⟩, {}⟩, ⟨⟨some 94, (.fadr 8 (.t 7)),
  some (93, false)⟩, {}⟩, ⟨⟨some 95, (.load true 2 (.t 94)), some (93, false)⟩, {}⟩, ⟨⟨some 96, (.call (.c (.fn 45 [])) [(.t 95), (.c (I (-2199023255552))), (.c (I 2199023255552))]), some (93, false)⟩, {}⟩, ⟨⟨some 97, (.un .not (.t 96)), some (93, false)⟩, {}⟩, ⟨⟨some 98, (.pick (.t 93) (.c (B true))
  (.t 97)), none⟩, {}⟩] none) plan_Check_C18)
def plan_Check_C1 : TC := (.seq (.seq (.rg [⟨⟨some 71, (.fadr 2 (.t 7)), none⟩, {}⟩, ⟨⟨some 72, (.load false 1 (.t 71)), none⟩, {}⟩, ⟨⟨some 73, (.bin .lss (.t 72) (.c (I 1))), none⟩, {}⟩, ⟨⟨some 74, (.mov (.t 73)), none⟩, {}⟩, ⟨⟨some 75, (.fadr 2 (.t 7)), some (74, false)⟩, {}⟩, ⟨⟨some 76, (.load false 1 (.t 75)), some (74,
  false)⟩, {}⟩, ⟨⟨some 77, (.bin .gtr (.t 76) (.c (I 100000))), some (74, false)⟩, {}⟩, ⟨⟨some 78, (.pick (.t 74) (.c (B true)) (.t 77)), none⟩, {}⟩, ⟨⟨some 79, (.mov (.t 78)), none⟩, {}⟩, ⟨⟨some 80, (.fadr 3 (.t 7)), some (79, false)⟩, {}⟩, ⟨⟨some 81, (.load false 1 (.t 80)), some (79, false)⟩, {}⟩,
  ⟨⟨some 82, (.bin .lss (.t 81) (.c (I 1))), some (79, false)⟩, {}⟩, ⟨⟨some 83, (.pick (.t 79) (.c (B true)) (.t 82)), none⟩, {}⟩, ⟨⟨some 84, (.mov (.t 83)), none⟩, {}⟩, ⟨⟨some 85, (.fadr 3 (.t 7)), some (84, false)⟩, {}⟩, ⟨⟨some 86, (.load false 1 (.t 85)), some (84, false)⟩, {}⟩, ⟨⟨some 87, (.bin
  .gtr (.t 86) (.c (I 1000))), some (84, false)⟩, {}⟩, ⟨⟨some 88, (.pick (.t 84) (.c (B true)) (.t 87)), none⟩, {}⟩] none) plan_Check_C9) plan_Check_C10)
def plan_Check_C2 : TC := (.rg [⟨⟨some 99, (.bin .add (.t 40) (.c (I 1))), none⟩, {}⟩, ⟨⟨some 40, (.mov (.t 99)), none⟩, {}⟩] none)
def plan_Check_C32 : TC := .ret
def plan_Check_C29 : TC := (.cond (.t 70) (.seq (.rg [⟨⟨some 2, (.mov (.c (I 4))), none⟩, {}⟩] none) plan_Check_C32) .skip)
def plan_Check_C30 : TC := (.join [.wk 38 (.list G_Road), .keep [5, 7, 38, 39, 40], .cmp] plan_Check_C1)
def plan_Check_C25 : TC := (.seq (.seq (.rg [⟨⟨some 44, (.fadr 0 (.t 7)), none⟩, {}⟩, ⟨⟨some 45, (.load false 1 (.t 44)), none⟩, {}⟩, ⟨⟨some 46, (.bin .lss (.t 45) (.c (I 0))), none⟩, {}⟩, ⟨⟨some 47, (.mov (.t 46)), none⟩, {}⟩, ⟨⟨some 48, (.fadr 0 (.t 7)), some (47, false)⟩, {}⟩, ⟨⟨some 49, (.load false 1 (.t 48)), some (47,
  false)⟩, {}⟩, ⟨⟨some 50, (.mov (.t 5)), some (47, false)⟩, {}⟩, ⟨⟨some 51, (.bin .geq (.t 49) (.t 50)), some (47, false)⟩, {}⟩, ⟨⟨some 52, (.pick (.t 47) (.c (B true)) (.t 51)), none⟩, {}⟩, ⟨⟨some 53, (.mov (.t 52)), none⟩, {}⟩, ⟨⟨some 54, (.fadr 1 (.t 7)), some (53, false)⟩, {}⟩, ⟨⟨some 55, (.load
  false 1 (.t 54)), some (53, false)⟩, {}⟩, ⟨⟨some 56, (.bin .lss (.t 55) (.c (I 0))), some (53, false)⟩, {}⟩, ⟨⟨some 57, (.pick (.t 53) (.c (B true)) (.t 56)), none⟩, {}⟩, ⟨⟨some 58, (.mov (.t 57)), none⟩, {}⟩, ⟨⟨some 59, (.fadr 1 (.t 7)), some (58, false)⟩, {}⟩, ⟨⟨some 60, (.load false 1 (.t 59)),
  some (58, false)⟩, {}⟩, ⟨⟨some 61, (.mov (.t 5)), some (58, false)⟩, {}⟩, ⟨⟨some 62, (.bin .geq (.t 60) (.t 61)), some (58, false)⟩, {}⟩, ⟨⟨some 63, (.pick (.t 58) (.c (B true)) (.t 62)), none⟩, {}⟩, ⟨⟨some 64, (.mov (.t 63)), none⟩, {}⟩, ⟨⟨some 65, (.fadr 0 (.t 7)), some (64, false)⟩, {}⟩, ⟨⟨some
  66, (.load false 1 (.t 65)), some (64, false)⟩, {}⟩, ⟨⟨some 67, (.fadr 1 (.t 7)), some (64, false)⟩, {}⟩, ⟨⟨some 68, (.load false 1 (.t 67)), some (64, false)⟩, {}⟩, ⟨⟨some 69, (.bin .eql (.t 66) (.t 68)), some (64, false)⟩, {}⟩, ⟨⟨some 70, (.pick (.t 64) (.c (B true)) (.t 69)), none⟩, {}⟩] none)
  plan_Check_C29) plan_Check_C30)
def plan_Check_C19 : TC := (.seq (.block 3 (.seq (.rg [⟨⟨some 42, (.iadrS 10 (.t 38) (.t 40)), none⟩, {}⟩, ⟨⟨some 43, (.load true 10 (.t 42)), none⟩, {}⟩, ⟨⟨some 7, (.alloc [(I 0), (I 0), (I 0), (I 0), (B false), (B false), (I 0), (I 0), (I 0), (I 0)]), none⟩, {}⟩, ⟨⟨none, (.store 10 (.t 7) (.t 43)), none⟩, {}⟩] none)
  plan_Check_C25)) plan_Check_C2)
def plan_Check_C11 : TC := (.seq (.cond (.t 41) .skip (.exit 2)) plan_Check_C19)
def plan_Check_C3 : TC := (.seq (.rg [⟨⟨some 41, (.bin .lss (.t 40) (.t 39)), none⟩, {}⟩] none) plan_Check_C11)
def plan_Check_C12 : TC := .ret
def plan_Check_C4 : TC := (.seq (.rg [⟨⟨some 2, (.mov (.c (I 0))), none⟩, {}⟩] none) plan_Check_C12)
def plan_Check_C33 : TC := .ret
def plan_Check_C31 : TC := (.cond (.t 32) (.seq (.rg [⟨⟨some 2, (.mov (.c (I 1))), none⟩, {}⟩] none) plan_Check_C33) .skip)
def plan_Check_C26 : TC := (.seq (.rg [⟨⟨some 25, (.fadr 0 (.t 4)), none⟩, {}⟩, ⟨⟨some 26, (.load false 1 (.t 25)), none⟩, {}⟩, ⟨⟨some 27, (.bin .lss (.t 26) (.c (I (-10000)))), none⟩, {}⟩, ⟨⟨some 28, (.mov (.t 27)), none⟩, {}⟩, ⟨⟨some 29, (.fadr 0 (.t 4)), some (28, false)⟩, {}⟩, ⟨⟨some 30, (.load false 1 (.t 29)), some (28,
  false)⟩, {}⟩, ⟨⟨some 31, (.bin .gtr (.t 30) (.c (I 10000))), some (28, false)⟩, {}⟩, ⟨⟨some 32, (.pick (.t 28) (.c (B true)) (.t 31)), none⟩, {}⟩] none) plan_Check_C31)
def plan_Check_C27 : TC := (.rg [⟨⟨some 33, (.bin .add (.t 21) (.c (I 1))), none⟩, {}⟩, ⟨⟨some 21, (.mov (.t 33)), none⟩, {}⟩] none)
def plan_Check_C20 : TC := (.seq (.block 1 (.seq (.rg [⟨⟨some 23, (.iadrS 2 (.t 19) (.t 21)), none⟩, {}⟩, ⟨⟨some 24, (.load true 2 (.t 23)), none⟩, {}⟩, ⟨⟨some 4, (.alloc [(I 0), (B false)]), none⟩, {}⟩, ⟨⟨none, (.store 2 (.t 4) (.t 24)), none⟩, {}⟩] none) plan_Check_C26)) plan_Check_C27)
def plan_Check_C13 : TC := (.seq (.cond (.t 22) .skip (.exit 0)) plan_Check_C20)
def plan_Check_C5 : TC := (.seq (.rg [⟨⟨some 22, (.bin .lss (.t 21) (.t 20)), none⟩, {}⟩] none) plan_Check_C13)
def plan_Check_C21 : TC := (.block 2 (.loop plan_Check_N2 plan_Check_C3))
def plan_Check_C14 : TC := (.seq (.seq (.rg [⟨⟨some 37, (.fadr 1 (.t 1)), none⟩, {}⟩, ⟨⟨some 38, (.load false 1 (.t 37)), none⟩, {}⟩, ⟨⟨some 39, (.len (.t 38)), none⟩, {}⟩, ⟨⟨some 40, (.mov (.c (I 0))), none⟩, {}⟩] none) plan_Check_C21) plan_Check_C4)
def plan_Check_C6 : TC := (.seq (.rg [⟨⟨some 34, (.fadr 0 (.t 1)), none⟩, {}⟩, ⟨⟨some 35, (.load false 1 (.t 34)), none⟩, {}⟩, ⟨⟨some 36, (.len (.t 35)), none⟩, {}⟩, ⟨⟨some 5, (.mov (.t 36)), none⟩, {}⟩] none) plan_Check_C14)
def plan_Check_C15 : TC := (.block 0 (.loop plan_Check_N1 plan_Check_C5))
def plan_Check_C7 : TC := (.seq (.seq (.rg [⟨⟨some 18, (.fadr 0 (.t 1)), none⟩, {}⟩, ⟨⟨some 19, (.load false 1 (.t 18)), none⟩, {}⟩, ⟨⟨some 20, (.len (.t 19)), none⟩, {}⟩, ⟨⟨some 21, (.mov (.c (I 0))), none⟩, {}⟩] none) plan_Check_C15) plan_Check_C6)
def plan_Check_C28 : TC := .ret
def plan_Check_C22 : TC := (.cond (.t 17) (.seq (.rg [⟨⟨some 2, (.mov (.c (I 2))), none⟩, {}⟩] none) plan_Check_C28) .skip)
def plan_Check_C23 : TC := (.join [.keep [1], .cmp] plan_Check_C7)
def plan_Check_C16 : TC := (.seq (.seq (.rg [⟨⟨some 8, (.fadr 0 (.t 1)), none⟩, {}⟩, ⟨⟨some 9, (.load false 1 (.t 8)), none⟩, {}⟩, ⟨⟨some 10, (.len (.t 9)), none⟩, {}⟩, ⟨⟨some 11, (.bin .gtr (.t 10) (.c (I 64))), none⟩, {}⟩, ⟨⟨some 12, (.mov (.t 11)), none⟩, {}⟩, ⟨⟨some 13, (.fadr 1 (.t 1)), some (12, false)⟩, {}⟩, ⟨⟨some 14,
  (.load false 1 (.t 13)), some (12, false)⟩, {}⟩, ⟨⟨some 15, (.len (.t 14)), some (12, false)⟩, {}⟩, ⟨⟨some 16, (.bin .gtr (.t 15) (.c (I 128))), some (12, false)⟩, {}⟩, ⟨⟨some 17, (.pick (.t 12) (.c (B true)) (.t 16)), none⟩, {}⟩] none) plan_Check_C22) plan_Check_C23)
def plan_Check_C8 : TC := (.seq (.rg [⟨⟨some 1, (.box (.t 0)), none⟩, {}⟩, ⟨⟨some 2, (.mov (.c (I 0))), none⟩, {}⟩] none) plan_Check_C16)
def plan_Check_E (N : Nat) : List (Nat × Ent) := [(45, pureE [G_Span, (.int .i64), (.int .i64)] [.bool] (fun x => plan_spanIn N x.1 x.2.1 x.2.2))]
def plan_Check_J2 (N n2 : Nat) (x19 : Int) (x20 : List T_Road) (x21 : Int) (x22 : Int) (x23 : Int) (x24 : Int) (x25 : Int) (x26 : Int) (x27 : Bool) (x28 : Bool) (x29 : Int) (x30 : Int) (x31 : Int) (x32 : Int) : Option Int := joinN (run (plan_Check_E N) N 0 plan_Check_C1) N ⟨[(5, .int .i64 x19), (7, .ptr 0 0 0), (38, .lst false G_Road x20), (39, .int .i64 x21), (40, .int .i64 x22)], [some (.box 0 [.int .i64 x23, .int .i64 x24, .int .i64 x25, .int .i64 x26, .bool x27, .bool x28, .int .i64 x29, .int .i64 x30, .int .i64 x31, .int .i64 x32])]⟩ (blkK 3 (seqK (run (plan_Check_E N) N 0 plan_Check_C2) (seqK (nextL (normI 0 plan_Check_N2) (loopN (normI 0 plan_Check_N2) (run (plan_Check_E N) N 0 plan_Check_C3) n2)) (blkK 2 (seqK (run (plan_Check_E N) N 0 plan_Check_C4) (fin [(.t 2)] [(.int .i64)]))))))
def plan_Check_L2 (N : Nat) (n : Nat) (x14 : Int) (x15 : List T_Road) (x16 : Int) (x17 : Int) : Option Int := loopN (normI 0 plan_Check_N2) (run (plan_Check_E N) N 0 plan_Check_C3) n ⟨[(5, .int .i64 x14), (38, .lst false G_Road x15), (39, .int .i64 x16), (40, .int .i64 x17)], []⟩ (blkK 2 (seqK (run (plan_Check_E N) N 0 plan_Check_C4) (fin [(.t 2)] [(.int .i64)])))
def plan_Check_L1 (N : Nat) (n : Nat) (x3 : List T_Place) (x4 : Int) (x5 : Int) (x6 : List T_Place) (x7 : List T_Road) : Option Int := loopN (normI 0 plan_Check_N1) (run (plan_Check_E N) N 0 plan_Check_C5) n ⟨[(1, .ptr 0 0 0), (19, .lst false G_Place x3), (20, .int .i64 x4), (21, .int .i64 x5)], [some (.box 0 [.lst false G_Place x6, .lst false G_Road x7])]⟩ (blkK 0 (seqK (run (plan_Check_E N) N 0 plan_Check_C6) (fin [(.t 2)] [(.int .i64)])))
def plan_Check_J1 (N : Nat) (x1 : List T_Place) (x2 : List T_Road) : Option Int := joinN (run (plan_Check_E N) N 0 plan_Check_C7) N ⟨[(1, .ptr 0 0 0)], [some (.box 0 [.lst false G_Place x1, .lst false G_Road x2])]⟩ (fin [(.t 2)] [(.int .i64)])
theorem plan_Check_J2_eqM (N JM n2 : Nat) (x19 : Int) (x20 : List T_Road) (x21 : Int) (x22 : Int) (x23 : Int) (x24 : Int) (x25 : Int) (x26 : Int) (x27 : Bool) (x28 : Bool) (x29 : Int) (x30 : Int) (x31 : Int) (x32 : Int) : joinN (run (plan_Check_E N) N 0 plan_Check_C1) (JM + 1) ⟨[(5, .int .i64 x19), (7, .ptr 0 0 0), (38, .lst false G_Road x20), (39, .int .i64 x21), (40, .int .i64 x22)], [some (.box 0 [.int .i64 x23, .int .i64 x24, .int .i64 x25, .int .i64 x26, .bool x27, .bool x28, .int .i64 x29, .int .i64 x30, .int .i64 x31, .int .i64 x32])]⟩ (blkK 3 (seqK (run (plan_Check_E N) N 0 plan_Check_C2) (seqK (nextL (normI 0 plan_Check_N2) (loopN (normI 0 plan_Check_N2) (run (plan_Check_E N) N 0 plan_Check_C3) n2)) (blkK 2 (seqK (run (plan_Check_E N) N 0 plan_Check_C4) (fin [(.t 2)] [(.int .i64)])))))) =
  bif (decide (x25 < 1)) then
    some 1
  else
    bif (decide (x25 > 100000)) then
      some 1
    else
      bif (decide (x26 < 1)) then
        some 1
      else
        bif (decide (x26 > 1000)) then
          some 1
        else
          Option.bind (plan_spanIn N (x29, x30) 1 262144) fun r33 =>
          bif (!r33) then
            some 1
          else
            Option.bind (plan_spanIn N (x31, x32) (-2199023255552) 2199023255552) fun r34 =>
            bif (!r34) then
              some 1
            else
              plan_Check_L2 N n2 x19 x20 x21 (W (x22 + 1)) := by kernel_rfl
theorem plan_Check_J2_eq (N n2 : Nat) (x19 : Int) (x20 : List T_Road) (x21 : Int) (x22 : Int) (x23 : Int) (x24 : Int) (x25 : Int) (x26 : Int) (x27 : Bool) (x28 : Bool) (x29 : Int) (x30 : Int) (x31 : Int) (x32 : Int) : plan_Check_J2 (N + 1) n2 x19 x20 x21 x22 x23 x24 x25 x26 x27 x28 x29 x30 x31 x32 =
  bif (decide (x25 < 1)) then
    some 1
  else
    bif (decide (x25 > 100000)) then
      some 1
    else
      bif (decide (x26 < 1)) then
        some 1
      else
        bif (decide (x26 > 1000)) then
          some 1
        else
          Option.bind (plan_spanIn (N + 1) (x29, x30) 1 262144) fun r33 =>
          bif (!r33) then
            some 1
          else
            Option.bind (plan_spanIn (N + 1) (x31, x32) (-2199023255552) 2199023255552) fun r34 =>
            bif (!r34) then
              some 1
            else
              plan_Check_L2 (N + 1) n2 x19 x20 x21 (W (x22 + 1)) := plan_Check_J2_eqM (N + 1) N n2 x19 x20 x21 x22 x23 x24 x25 x26 x27 x28 x29 x30 x31 x32
theorem plan_Check_L2_zero (N : Nat) (x14 : Int) (x15 : List T_Road) (x16 : Int) (x17 : Int) : plan_Check_L2 N 0 x14 x15 x16 x17 = none := rfl
theorem plan_Check_L2_succ (N : Nat) (n2 : Nat) (x14 : Int) (x15 : List T_Road) (x16 : Int) (x17 : Int) : plan_Check_L2 N (n2 + 1) x14 x15 x16 x17 =
  bif (decide (x17 < x16)) then
    bif inB x17 x15.length then
    let v18 := x15.getD x17.toNat D_Road
    bif (decide (v18.1 < 0)) then
      some 4
    else
      bif (decide (v18.1 ≥ x14)) then
        some 4
      else
        bif (decide (v18.2.1 < 0)) then
          some 4
        else
          bif (decide (v18.2.1 ≥ x14)) then
            some 4
          else
            bif (v18.1 == v18.2.1) then
              some 4
            else
              plan_Check_J2 N n2 x14 x15 x16 x17 v18.1 v18.2.1 v18.2.2.1 v18.2.2.2.1 v18.2.2.2.2.1 v18.2.2.2.2.2.1 v18.2.2.2.2.2.2.1.1 v18.2.2.2.2.2.2.1.2 v18.2.2.2.2.2.2.2.1 v18.2.2.2.2.2.2.2.2
    else none
  else
    some 0 := by kernel_rfl
theorem plan_Check_L1_zero (N : Nat) (x3 : List T_Place) (x4 : Int) (x5 : Int) (x6 : List T_Place) (x7 : List T_Road) : plan_Check_L1 N 0 x3 x4 x5 x6 x7 = none := rfl
theorem plan_Check_L1_succ (N : Nat) (n1 : Nat) (x3 : List T_Place) (x4 : Int) (x5 : Int) (x6 : List T_Place) (x7 : List T_Road) : plan_Check_L1 N (n1 + 1) x3 x4 x5 x6 x7 =
  bif (decide (x5 < x4)) then
    bif inB x5 x3.length then
    bif (decide ((x3.getD x5.toNat D_Place).1 < (-10000))) then
      some 1
    else
      bif (decide ((x3.getD x5.toNat D_Place).1 > 10000)) then
        some 1
      else
        plan_Check_L1 N n1 x3 x4 (W (x5 + 1)) x6 x7
    else none
  else
    plan_Check_L2 N N (x6.length : Int) x7 (x7.length : Int) 0 := by kernel_rfl
theorem plan_Check_J1_eqM (N JM : Nat) (x1 : List T_Place) (x2 : List T_Road) : joinN (run (plan_Check_E N) N 0 plan_Check_C7) (JM + 1) ⟨[(1, .ptr 0 0 0)], [some (.box 0 [.lst false G_Place x1, .lst false G_Road x2])]⟩ (fin [(.t 2)] [(.int .i64)]) =
  plan_Check_L1 N N x1 (x1.length : Int) 0 x1 x2 := by kernel_rfl
theorem plan_Check_J1_eq (N : Nat) (x1 : List T_Place) (x2 : List T_Road) : plan_Check_J1 (N + 1) x1 x2 =
  plan_Check_L1 (N + 1) (N + 1) x1 (x1.length : Int) 0 x1 x2 := plan_Check_J1_eqM (N + 1) N x1 x2
def plan_Check (N : Nat) (a0 : T_Mine) : Option Int :=
  bif (decide ((a0.1.length : Int) > 64)) then
    some 2
  else
    bif (decide ((a0.2.length : Int) > 128)) then
      some 2
    else
      plan_Check_J1 N a0.1 a0.2
theorem plan_Check_fn : FnOK Try.prog 42 100 (fun _ : Nat => false) plan_Check_C8.er [(.t 2)] := FnOK.mk' Try.func42 (by kernel_rfl) (by kernel_rfl) (by kernel_rfl) (by kernel_rfl) (by kernel_rfl)
theorem plan_Check_envok (N : Nat) : EnvOK Try.prog (plan_Check_E N) := .cons (pureE_ok (plan_spanIn_pure N)) (.nil)
theorem plan_Check_pure (N : Nat) : PureOK Try.prog 42 [G_Mine] [(.int .i64)] (fun x => plan_Check N x) := pureOK (N := N) mixed plan_Check_fn (plan_Check_envok N) (TC.noh_ok (by kernel_rfl)) rfl (fun x => by kernel_rfl)
/-! plan_Valid -/
def plan_Valid_C3 : TC := .ret
def plan_Valid_C2 : TC := (.seq (.rg [⟨⟨some 3, (.load true 2 (.t 1)), none⟩, {}⟩, ⟨⟨some 4, (.call (.c (.fn 42 [])) [(.t 3)]), none⟩, {}⟩, ⟨⟨some 5, (.bin .eql (.t 4) (.c (I 0))), none⟩, {}⟩, ⟨⟨some 2, (.mov (.t 5)), none⟩, {}⟩] none) plan_Valid_C3)
def plan_Valid_C1 : TC := (.seq (.rg [⟨⟨some 1, (.box (.t 0)), none⟩, {}⟩, ⟨⟨some 2, (.mov (.c (B false))), none⟩, {}⟩] none) plan_Valid_C2)
def plan_Valid_E (N : Nat) : List (Nat × Ent) := [(42, pureE [G_Mine] [(.int .i64)] (fun x => plan_Check N x))]
def plan_Valid (N : Nat) (a0 : T_Mine) : Option Bool :=
  Option.bind (plan_Check N a0) fun r1 =>
  some (r1 == 0)
theorem plan_Valid_fn : FnOK Try.prog 30 6 (fun _ : Nat => false) plan_Valid_C1.er [(.t 2)] := FnOK.mk' Try.func30 (by kernel_rfl) (by kernel_rfl) (by kernel_rfl) (by kernel_rfl) (by kernel_rfl)
theorem plan_Valid_envok (N : Nat) : EnvOK Try.prog (plan_Valid_E N) := .cons (pureE_ok (plan_Check_pure N)) (.nil)
theorem plan_Valid_pure (N : Nat) : PureOK Try.prog 30 [G_Mine] [.bool] (fun x => plan_Valid N x) := pureOK (N := N) mixed plan_Valid_fn (plan_Valid_envok N) (TC.noh_ok (by kernel_rfl)) rfl (fun x => by kernel_rfl)
/-! walk_with -/
def walk_with_C6 : TC := .ret
def walk_with_C4 : TC := (.cond (.t 23) (.seq (.rg [⟨⟨some 8, (.mov (.c (I (-1)))), none⟩, {}⟩] none) walk_with_C6) .skip)
def walk_with_C8 : TC := (.cond (.t 39) (.rg [⟨⟨some 40, (.mov (.t 10)), none⟩, {}⟩, ⟨⟨some 41, (.un .neg (.t 40)), none⟩, {}⟩, ⟨⟨some 10, (.mov (.t 41)), none⟩, {}⟩] none) .skip)
def walk_with_C13 : TC := (.cond (.t 52) (.rg [⟨⟨some 58, (.fadr 1 (.t 7)), none⟩, {}⟩, ⟨⟨some 59, (.load false 1 (.t 58)), none⟩, {}⟩, ⟨⟨some 11, (.mov (.t 59)), none⟩, {}⟩] none) .skip)
def walk_with_C11 : TC := (.cond (.t 44) (.rg [⟨⟨some 50, (.fadr 0 (.t 7)), none⟩, {}⟩, ⟨⟨some 51, (.load false 1 (.t 50)), none⟩, {}⟩, ⟨⟨some 11, (.mov (.t 51)), none⟩, {}⟩] none) (.seq (.rg [⟨⟨some 53, (.mov (.t 10)), none⟩, {}⟩, ⟨⟨some 54, (.bin .mul (.c (I (-10))) (.t 53)), none⟩, {}⟩, ⟨⟨some 55, (.fadr 2 (.t 9)), none⟩,
  {}⟩, ⟨⟨some 56, (.load false 1 (.t 55)), none⟩, {}⟩, ⟨⟨some 57, (.bin .gtr (.t 54) (.t 56)), none⟩, {}⟩, ⟨⟨some 52, (.mov (.t 57)), none⟩, {}⟩] none) walk_with_C13))
def walk_with_C14 : TC := .ret
def walk_with_C12 : TC := (.seq (.rg [⟨⟨some 60, (.fadr 2 (.t 9)), none⟩, {}⟩, ⟨⟨some 61, (.load false 1 (.t 60)), none⟩, {}⟩, ⟨⟨some 62, (.bin .mul (.c (I 10)) (.t 61)), none⟩, {}⟩, ⟨⟨some 63, (.mov (.t 11)), none⟩, {}⟩, ⟨⟨some 64, (.bin .add (.t 62) (.t 63)), none⟩, {}⟩, ⟨⟨some 65, (.bin .sub (.t 64) (.c (I 1))), none⟩,
  {}⟩, ⟨⟨some 66, (.mov (.t 11)), none⟩, {}⟩, ⟨⟨some 67, (.bin .quo (.t 65) (.t 66)), none⟩, {}⟩, ⟨⟨some 8, (.mov (.t 67)), none⟩, {}⟩] none) walk_with_C14)
def walk_with_C10 : TC := (.seq (.block 0 (.seq (.rg [⟨⟨some 45, (.mov (.t 10)), none⟩, {}⟩, ⟨⟨some 46, (.bin .mul (.c (I 10)) (.t 45)), none⟩, {}⟩, ⟨⟨some 47, (.fadr 2 (.t 9)), none⟩, {}⟩, ⟨⟨some 48, (.load false 1 (.t 47)), none⟩, {}⟩, ⟨⟨some 49, (.bin .gtr (.t 46) (.t 48)), none⟩, {}⟩, ⟨⟨some 44, (.mov (.t 49)), none⟩,
  {}⟩] none) walk_with_C11)) walk_with_C12)
def walk_with_C9 : TC := (.seq (.rg [⟨⟨some 42, (.fadr 2 (.t 7)), none⟩, {}⟩, ⟨⟨some 43, (.load false 1 (.t 42)), none⟩, {}⟩, ⟨⟨some 11, (.mov (.t 43)), none⟩, {}⟩] none) walk_with_C10)
def walk_with_C7 : TC := (.seq (.seq (.rg [⟨⟨some 39, (.mov (.t 2)), none⟩, {}⟩] none) walk_with_C8) walk_with_C9)
def walk_with_C5 : TC := (.seq (.rg [⟨⟨some 24, (.fadr 0 (.t 4)), none⟩, {}⟩, ⟨⟨some 25, (.load false 1 (.t 24)), none⟩, {}⟩, ⟨⟨some 26, (.fadr 1 (.t 9)), none⟩, {}⟩, ⟨⟨some 27, (.load false 1 (.t 26)), none⟩, {}⟩, ⟨⟨some 28, (.iadrS 2 (.t 25) (.t 27)), none⟩, {}⟩, ⟨⟨some 29, (.fadr 0 (.t 28)), none⟩, {}⟩, ⟨⟨some 30, (.load
  false 1 (.t 29)), none⟩, {}⟩, ⟨⟨some 31, (.fadr 0 (.t 4)), none⟩, {}⟩, ⟨⟨some 32, (.load false 1 (.t 31)), none⟩, {}⟩, ⟨⟨some 33, (.fadr 0 (.t 9)), none⟩, {}⟩, ⟨⟨some 34, (.load false 1 (.t 33)), none⟩, {}⟩, ⟨⟨some 35, (.iadrS 2 (.t 32) (.t 34)), none⟩, {}⟩, ⟨⟨some 36, (.fadr 0 (.t 35)), none⟩,
  {}⟩, ⟨⟨some 37, (.load false 1 (.t 36)), none⟩, {}⟩, ⟨⟨some 38, (.bin .sub (.t 30) (.t 37)), none⟩, {}⟩, ⟨⟨some 10, (.mov (.t 38)), none⟩, {}⟩] (some [])) walk_with_C7)
def walk_with_C3 : TC := (.seq (.seq (.rg [⟨⟨some 17, (.fadr 5 (.t 9)), none⟩, {}⟩, ⟨⟨some 18, (.load false 1 (.t 17)), none⟩, {}⟩, ⟨⟨some 19, (.mov (.t 18)), none⟩, {}⟩, ⟨⟨some 20, (.fadr 4 (.t 9)), some (19, false)⟩, {}⟩, ⟨⟨some 21, (.load false 1 (.t 20)), some (19, false)⟩, {}⟩, ⟨⟨some 22, (.un .not (.t 21)), some (19,
  false)⟩, {}⟩, ⟨⟨some 23, (.pick (.t 19) (.c (B true)) (.t 22)), none⟩, {}⟩] none) walk_with_C4) walk_with_C5)
def walk_with_C2 : TC := (.seq (.rg [⟨⟨some 12, (.fadr 1 (.t 4)), none⟩, {}⟩, ⟨⟨some 13, (.load false 1 (.t 12)), none⟩, {}⟩, ⟨⟨some 14, (.mov (.t 1)), none⟩, {}⟩, ⟨⟨some 15, (.iadrS 10 (.t 13) (.t 14)), none⟩, {}⟩, ⟨⟨some 16, (.load true 10 (.t 15)), none⟩, {}⟩, ⟨⟨some 9, (.alloc [(I 0), (I 0), (I 0), (I 0), (B false), (B
  false), (I 0), (I 0), (I 0), (I 0)]), none⟩, {}⟩, ⟨⟨none, (.store 10 (.t 9) (.t 16)), none⟩, {}⟩] none) walk_with_C3)
def walk_with_C1 : TC := (.seq (.rg [⟨⟨some 4, (.box (.t 0)), none⟩, {}⟩, ⟨⟨some 7, (.box (.t 3)), none⟩, {}⟩, ⟨⟨some 8, (.mov (.c (I 0))), none⟩, {}⟩] none) walk_with_C2)
def walk_with_E (N : Nat) : List (Nat × Ent) := []
def walk_with (N : Nat) (a0 : T_Mine) (a1 : Int) (a2 : Bool) (a3 : T_pace) : Option Int :=
  bif inB a1 a0.2.length then
  let v1 := a0.2.getD a1.toNat D_Road
  bif v1.2.2.2.2.2.1 then
    some (-1)
  else
    bif (!v1.2.2.2.2.1) then
      some (-1)
    else
      bif inB v1.2.1 a0.1.length then
      let v2 := a0.1.getD v1.2.1.toNat D_Place
      bif inB v1.1 a0.1.length then
      let v3 := a0.1.getD v1.1.toNat D_Place
      bif a2 then
        let v4 := W (0 - (W (v2.1 - v3.1)))
        bif (decide ((W (10 * v4)) > v1.2.2.1)) then
          bif a3.1 == 0 then none else
          some (W ((W ((W ((W (10 * v1.2.2.1)) + a3.1)) - 1)).tdiv a3.1))
        else
          bif (decide ((W ((-10) * v4)) > v1.2.2.1)) then
            bif a3.2.1 == 0 then none else
            some (W ((W ((W ((W (10 * v1.2.2.1)) + a3.2.1)) - 1)).tdiv a3.2.1))
          else
            bif a3.2.2 == 0 then none else
            some (W ((W ((W ((W (10 * v1.2.2.1)) + a3.2.2)) - 1)).tdiv a3.2.2))
      else
        bif (decide ((W (10 * (W (v2.1 - v3.1)))) > v1.2.2.1)) then
          bif a3.1 == 0 then none else
          some (W ((W ((W ((W (10 * v1.2.2.1)) + a3.1)) - 1)).tdiv a3.1))
        else
          bif (decide ((W ((-10) * (W (v2.1 - v3.1)))) > v1.2.2.1)) then
            bif a3.2.1 == 0 then none else
            some (W ((W ((W ((W (10 * v1.2.2.1)) + a3.2.1)) - 1)).tdiv a3.2.1))
          else
            bif a3.2.2 == 0 then none else
            some (W ((W ((W ((W (10 * v1.2.2.1)) + a3.2.2)) - 1)).tdiv a3.2.2))
      else none
      else none
  else none
theorem walk_with_fn : FnOK Try.prog 33 68 (fun _ : Nat => false) walk_with_C1.er [(.t 8)] := FnOK.mk' Try.func33 (by kernel_rfl) (by kernel_rfl) (by kernel_rfl) (by kernel_rfl) (by kernel_rfl)
theorem walk_with_envok (N : Nat) : EnvOK Try.prog (walk_with_E N) := .nil
theorem walk_with_pure (N : Nat) : PureOK Try.prog 33 [G_Mine, (.int .i64), .bool, G_pace] [(.int .i64)] (fun x => walk_with N x.1 x.2.1 x.2.2.1 x.2.2.2) := pureOK (N := N) mixed walk_with_fn (walk_with_envok N) (TC.noh_ok (by kernel_rfl)) rfl (fun x => by kernel_rfl)
/-! walk_quick -/
def walk_quick_C3 : TC := .ret
def walk_quick_C2 : TC := (.seq (.rg [⟨⟨some 1, (.build [(I 0), (I 0), (I 0)] [(0, (1, (.c (I 6)))), (1, (1, (.c (I 9)))), (2, (1, (.c (I 12))))]), none⟩, {}⟩, ⟨⟨none, (.store 3 (.t 0) (.t 1)), none⟩, {}⟩] none) walk_quick_C3)
def walk_quick_C1 : TC := (.seq (.rg [⟨⟨some 0, (.alloc [(I 0), (I 0), (I 0)]), none⟩, {}⟩] none) walk_quick_C2)
def walk_quick_E (N : Nat) : List (Nat × Ent) := []
def walk_quick (N : Nat) : Option T_pace :=
  some (6, (9, 12))
theorem walk_quick_fn : FnOK Try.prog 43 2 (fun _ : Nat => false) walk_quick_C1.er [(.cell 0 true 3)] := FnOK.mk' Try.func43 (by kernel_rfl) (by kernel_rfl) (by kernel_rfl) (by kernel_rfl) (by kernel_rfl)
theorem walk_quick_envok (N : Nat) : EnvOK Try.prog (walk_quick_E N) := .nil
theorem walk_quick_pure (N : Nat) : PureOK Try.prog 43 [] [G_pace] (fun x => walk_quick N) := pureOK (N := N) mixed walk_quick_fn (walk_quick_envok N) (TC.noh_ok (by kernel_rfl)) rfl (fun x => by kernel_rfl)
/-! walk_step -/
def walk_step_C3 : TC := .ret
def walk_step_C2 : TC := (.seq (.rg [⟨⟨some 7, (.load true 2 (.t 3)), none⟩, {}⟩, ⟨⟨some 8, (.mov (.t 1)), none⟩, {}⟩, ⟨⟨some 9, (.mov (.t 2)), none⟩, {}⟩, ⟨⟨some 10, (.call (.c (.fn 43 [])) []), none⟩, {}⟩, ⟨⟨some 11, (.call (.c (.fn 33 [])) [(.t 7), (.t 8), (.t 9), (.t 10)]), none⟩, {}⟩, ⟨⟨some 6, (.mov (.t 11)), none⟩,
  {}⟩] (some [(0, 3)])) walk_step_C3)
def walk_step_C1 : TC := (.seq (.rg [⟨⟨some 3, (.box (.t 0)), none⟩, {}⟩, ⟨⟨some 6, (.mov (.c (I 0))), none⟩, {}⟩] none) walk_step_C2)
def walk_step_E (N : Nat) : List (Nat × Ent) := [(43, pureE [] [G_pace] (fun x => walk_quick N)), (33, pureE [G_Mine, (.int .i64), .bool, G_pace] [(.int .i64)] (fun x => walk_with N x.1 x.2.1 x.2.2.1 x.2.2.2))]
def walk_step (N : Nat) (a0 : T_Mine) (a1 : Int) (a2 : Bool) : Option Int :=
  Option.bind (walk_quick N) fun r1 =>
  Option.bind (walk_with N a0 a1 a2 r1) fun r2 =>
  some r2
theorem walk_step_fn : FnOK Try.prog 31 12 (fun _ : Nat => false) walk_step_C1.er [(.t 6)] := FnOK.mk' Try.func31 (by kernel_rfl) (by kernel_rfl) (by kernel_rfl) (by kernel_rfl) (by kernel_rfl)
theorem walk_step_envok (N : Nat) : EnvOK Try.prog (walk_step_E N) := .cons (pureE_ok (walk_quick_pure N)) (.cons (pureE_ok (walk_with_pure N)) (.nil))
theorem walk_step_pure (N : Nat) : PureOK Try.prog 31 [G_Mine, (.int .i64), .bool] [(.int .i64)] (fun x => walk_step N x.1 x.2.1 x.2.2) := pureOK (N := N) mixed walk_step_fn (walk_step_envok N) (TC.noh_ok (by kernel_rfl)) rfl (fun x => by kernel_rfl)
/-! walk_Time -/
def walk_Time_C5 : TC := .ret
def walk_Time_C3 : TC := (.cond (.t 20) (.seq (.rg [⟨⟨some 6, (.mov (.c (I (-1)))), none⟩, {}⟩] none) walk_Time_C5) .skip)
def walk_Time_C6 : TC := .ret
def walk_Time_C4 : TC := (.seq (.rg [⟨⟨some 21, (.load true 2 (.t 3)), none⟩, {}⟩, ⟨⟨some 22, (.mov (.t 1)), none⟩, {}⟩, ⟨⟨some 23, (.mov (.t 2)), none⟩, {}⟩, ⟨⟨some 24, (.call (.c (.fn 31 [])) [(.t 21), (.t 22), (.t 23)]), none⟩, {}⟩, ⟨⟨some 6, (.mov (.t 24)), none⟩, {}⟩] none) walk_Time_C6)
def walk_Time_C2 : TC := (.seq (.seq (.rg [⟨⟨some 7, (.load true 2 (.t 3)), none⟩, {}⟩, ⟨⟨some 8, (.call (.c (.fn 30 [])) [(.t 7)]), none⟩, {}⟩, ⟨⟨some 9, (.un .not (.t 8)), none⟩, {}⟩, ⟨⟨some 10, (.mov (.t 9)), none⟩, {}⟩, ⟨⟨some 11, (.mov (.t 1)), some (10, false)⟩, {}⟩, ⟨⟨some 12, (.bin .lss (.t 11) (.c (I 0))), some (10,
  false)⟩, {}⟩, ⟨⟨some 13, (.pick (.t 10) (.c (B true)) (.t 12)), none⟩, {}⟩, ⟨⟨some 14, (.mov (.t 13)), none⟩, {}⟩, ⟨⟨some 15, (.mov (.t 1)), some (14, false)⟩, {}⟩, ⟨⟨some 16, (.fadr 1 (.t 3)), some (14, false)⟩, {}⟩, ⟨⟨some 17, (.load false 1 (.t 16)), some (14, false)⟩, {}⟩, ⟨⟨some 18, (.len (.t
  17)), some (14, false)⟩, {}⟩, ⟨⟨some 19, (.bin .geq (.t 15) (.t 18)), some (14, false)⟩, {}⟩, ⟨⟨some 20, (.pick (.t 14) (.c (B true)) (.t 19)), none⟩, {}⟩] none) walk_Time_C3) walk_Time_C4)
def walk_Time_C1 : TC := (.seq (.rg [⟨⟨some 3, (.box (.t 0)), none⟩, {}⟩, ⟨⟨some 6, (.mov (.c (I 0))), none⟩, {}⟩] none) walk_Time_C2)
def walk_Time_E (N : Nat) : List (Nat × Ent) := [(30, pureE [G_Mine] [.bool] (fun x => plan_Valid N x)), (31, pureE [G_Mine, (.int .i64), .bool] [(.int .i64)] (fun x => walk_step N x.1 x.2.1 x.2.2))]
def walk_Time (N : Nat) (a0 : T_Mine) (a1 : Int) (a2 : Bool) : Option Int :=
  Option.bind (plan_Valid N a0) fun r1 =>
  bif (!r1) then
    some (-1)
  else
    bif (decide (a1 < 0)) then
      some (-1)
    else
      bif (decide (a1 ≥ (a0.2.length : Int))) then
        some (-1)
      else
        Option.bind (walk_step N a0 a1 a2) fun r2 =>
        some r2
theorem walk_Time_fn : FnOK Try.prog 12 25 (fun _ : Nat => false) walk_Time_C1.er [(.t 6)] := FnOK.mk' Try.func12 (by kernel_rfl) (by kernel_rfl) (by kernel_rfl) (by kernel_rfl) (by kernel_rfl)
theorem walk_Time_envok (N : Nat) : EnvOK Try.prog (walk_Time_E N) := .cons (pureE_ok (plan_Valid_pure N)) (.cons (pureE_ok (walk_step_pure N)) (.nil))
theorem walk_Time_pure (N : Nat) : PureOK Try.prog 12 [G_Mine, (.int .i64), .bool] [(.int .i64)] (fun x => walk_Time N x.1 x.2.1 x.2.2) := pureOK (N := N) mixed walk_Time_fn (walk_Time_envok N) (TC.noh_ok (by kernel_rfl)) rfl (fun x => by kernel_rfl)
/-! ref01_Span -/
def ref01_Span_C3 : TC := .ret
def ref01_Span_C2 : TC := (.seq (.rg [⟨⟨some 7, (.mov (.t 1)), none⟩, {}⟩, ⟨⟨some 8, (.fadr 0 (.t 3)), none⟩, {}⟩, ⟨⟨some 9, (.load false 1 (.t 8)), none⟩, {}⟩, ⟨⟨some 10, (.bin .leq (.t 7) (.t 9)), none⟩, {}⟩, ⟨⟨some 11, (.mov (.t 10)), none⟩, {}⟩, ⟨⟨some 12, (.fadr 0 (.t 3)), some (11, true)⟩, {}⟩, ⟨⟨some 13, (.load false 1
  (.t 12)), some (11, true)⟩, {}⟩, ⟨⟨some 14, (.fadr 1 (.t 3)), some (11, true)⟩, {}⟩, ⟨⟨some 15, (.load false 1 (.t 14)), some (11, true)⟩, {}⟩, ⟨⟨some 16, (.bin .leq (.t 13) (.t 15)), some (11, true)⟩, {}⟩, ⟨⟨some 17, (.pick (.t 11) (.t 16) (.c (B false))), none⟩, {}⟩, ⟨⟨some 18, (.mov (.t 17)),
  none⟩, {}⟩, ⟨⟨some 19, (.fadr 1 (.t 3)), some (18, true)⟩, {}⟩, ⟨⟨some 20, (.load false 1 (.t 19)), some (18, true)⟩, {}⟩, ⟨⟨some 21, (.mov (.t 2)), some (18, true)⟩, {}⟩, ⟨⟨some 22, (.bin .leq (.t 20) (.t 21)), some (18, true)⟩, {}⟩, ⟨⟨some 23, (.pick (.t 18) (.t 22) (.c (B false))), none⟩, {}⟩,
  ⟨⟨some 6, (.mov (.t 23)), none⟩, {}⟩] none) ref01_Span_C3)
def ref01_Span_C1 : TC := (.seq (.rg [⟨⟨some 3, (.box (.t 0)), none⟩, {}⟩, ⟨⟨some 6, (.mov (.c (B false))), none⟩, {}⟩] none) ref01_Span_C2)
def ref01_Span_E (N : Nat) : List (Nat × Ent) := []
def ref01_Span (N : Nat) (a0 : T_Span) (a1 : Int) (a2 : Int) : Option Bool :=
  bif (decide (a1 ≤ a0.1)) then
    bif (decide (a0.1 ≤ a0.2)) then
      some (decide (a0.2 ≤ a2))
    else
      some false
  else
    some false
theorem ref01_Span_fn : FnOK Try.prog 44 24 (fun _ : Nat => false) ref01_Span_C1.er [(.t 6)] := FnOK.mk' Try.func44 (by kernel_rfl) (by kernel_rfl) (by kernel_rfl) (by kernel_rfl) (by kernel_rfl)
theorem ref01_Span_envok (N : Nat) : EnvOK Try.prog (ref01_Span_E N) := .nil
theorem ref01_Span_pure (N : Nat) : PureOK Try.prog 44 [G_Span, (.int .i64), (.int .i64)] [.bool] (fun x => ref01_Span N x.1 x.2.1 x.2.2) := pureOK (N := N) mixed ref01_Span_fn (ref01_Span_envok N) (TC.noh_ok (by kernel_rfl)) rfl (fun x => by kernel_rfl)
/-! ref01_Check -/
def ref01_Check_N1 : List NS := [.keep [1, 3], .cmp]
def ref01_Check_N2 : List NS := [.keep [1, 5], .cmp]
def ref01_Check_C18 : TC := .ret
def ref01_Check_C9 : TC := (.cond (.t 108) (.seq (.rg [⟨⟨some 2, (.mov (.c (I 1))), none⟩, {}⟩] none) ref01_Check_C18) .skip)
def ref01_Check_C1 : TC := (.seq (.rg [⟨⟨some 79, (.fadr 2 (.t 6)), none⟩, {}⟩, ⟨⟨some 80, (.load false 1 (.t 79)), none⟩, {}⟩, ⟨⟨some 81, (.bin .lss (.t 80) (.c (I 1))), none⟩, {}⟩, ⟨⟨some 82, (.mov (.t 81)), none⟩, {}⟩, ⟨⟨some 83, (.fadr 2 (.t 6)), some (82, false)⟩, {}⟩, ⟨⟨some 84, (.load false 1 (.t 83)), some (82,
  false)⟩, {}⟩, ⟨⟨some 85, (.bin .gtr (.t 84) (.c (I 100000))), some (82, false)⟩, {}⟩, ⟨⟨some 86, (.pick (.t 82) (.c (B true)) (.t 85)), none⟩, {}⟩, ⟨⟨some 87, (.mov (.t 86)), none⟩, {}⟩, ⟨⟨some 88, (.fadr 3 (.t 6)), some (87, false)⟩, {}⟩, ⟨⟨some 89, (.load false 1 (.t 88)), some (87, false)⟩, {}⟩,
  ⟨⟨some 90, (.bin .lss (.t 89) (.c (I 1))), some (87, false)⟩, {}⟩, ⟨⟨some 91, (.pick (.t 87) (.c (B true)) (.t 90)), none⟩, {}⟩, ⟨⟨some 92, (.mov (.t 91)), none⟩, {}⟩, ⟨⟨some 93, (.fadr 3 (.t 6)), some (92, false)⟩, {}⟩, ⟨⟨some 94, (.load false 1 (.t 93)), some (92, false)⟩, {}⟩, ⟨⟨some 95, (.bin
  .gtr (.t 94) (.c (I 1000))), some (92, false)⟩, {}⟩, ⟨⟨some 96, (.pick (.t 92) (.c (B true)) (.t 95)), none⟩, {}⟩, ⟨⟨some 97, (.mov (.t 96)), none⟩, {}⟩, ⟨⟨some 98, (.fadr 6 (.t 6)), some (97, false)⟩, {}⟩, ⟨⟨some 99, (.load true 2 (.t 98)), some (97, false)⟩, {}⟩, ⟨⟨some 100, (.call (.c (.fn 44
  [])) [(.t 99), (.c (I 1)), (.c (I 262144))]), some (97, false)⟩, {}⟩, ⟨⟨some 101, (.un .not (.t 100)), some (97, false)⟩, {}⟩, ⟨⟨some 102, (.pick (.t 97) (.c (B true)) (.t 101)), none⟩, {}⟩, ⟨⟨some 103, (.mov (.t 102)), none⟩, {}⟩, ⟨⟨some 104, (.fadr 8 (.t 6)), some (103, false)⟩, {}⟩, ⟨⟨some 105,
  (.load true 2 (.t 104)), some (103, false)⟩, {}⟩, ⟨⟨some 106, (.call (.c (.fn 44 [])) [(.t 105), (.c (I (-2199023255552))), (.c (I 2199023255552))]), some (103, false)⟩, {}⟩, ⟨⟨some 107, (.un .not (.t 106)), some (103, false)⟩, {}⟩, ⟨⟨some 108, (.pick (.t 103) (.c (B true)) (.t 107)), none⟩, {}⟩]
  none) ref01_Check_C9)
def ref01_Check_C2 : TC := (.rg [⟨⟨some 41, (.mov (.t 5)), none⟩, {}⟩, ⟨⟨some 42, (.bin .add (.t 41) (.c (I 1))), none⟩, {}⟩, ⟨⟨some 5, (.mov (.t 42)), none⟩, {}⟩] none)
def ref01_Check_C10 : TC := (.cond (.t 40) .skip (.exit 2))
def ref01_Check_C28 : TC := .ret
def ref01_Check_C24 : TC := (.cond (.t 78) (.seq (.rg [⟨⟨some 2, (.mov (.c (I 4))), none⟩, {}⟩] none) ref01_Check_C28) .skip)
def ref01_Check_C25 : TC := (.join [.keep [1, 5, 6], .cmp] ref01_Check_C1)
def ref01_Check_C19 : TC := (.seq (.seq (.rg [⟨⟨some 48, (.fadr 0 (.t 6)), none⟩, {}⟩, ⟨⟨some 49, (.load false 1 (.t 48)), none⟩, {}⟩, ⟨⟨some 50, (.bin .lss (.t 49) (.c (I 0))), none⟩, {}⟩, ⟨⟨some 51, (.mov (.t 50)), none⟩, {}⟩, ⟨⟨some 52, (.fadr 0 (.t 6)), some (51, false)⟩, {}⟩, ⟨⟨some 53, (.load false 1 (.t 52)), some (51,
  false)⟩, {}⟩, ⟨⟨some 54, (.fadr 0 (.t 1)), some (51, false)⟩, {}⟩, ⟨⟨some 55, (.load false 1 (.t 54)), some (51, false)⟩, {}⟩, ⟨⟨some 56, (.len (.t 55)), some (51, false)⟩, {}⟩, ⟨⟨some 57, (.bin .geq (.t 53) (.t 56)), some (51, false)⟩, {}⟩, ⟨⟨some 58, (.pick (.t 51) (.c (B true)) (.t 57)), none⟩,
  {}⟩, ⟨⟨some 59, (.mov (.t 58)), none⟩, {}⟩, ⟨⟨some 60, (.fadr 1 (.t 6)), some (59, false)⟩, {}⟩, ⟨⟨some 61, (.load false 1 (.t 60)), some (59, false)⟩, {}⟩, ⟨⟨some 62, (.bin .lss (.t 61) (.c (I 0))), some (59, false)⟩, {}⟩, ⟨⟨some 63, (.pick (.t 59) (.c (B true)) (.t 62)), none⟩, {}⟩, ⟨⟨some 64,
  (.mov (.t 63)), none⟩, {}⟩, ⟨⟨some 65, (.fadr 1 (.t 6)), some (64, false)⟩, {}⟩, ⟨⟨some 66, (.load false 1 (.t 65)), some (64, false)⟩, {}⟩, ⟨⟨some 67, (.fadr 0 (.t 1)), some (64, false)⟩, {}⟩, ⟨⟨some 68, (.load false 1 (.t 67)), some (64, false)⟩, {}⟩, ⟨⟨some 69, (.len (.t 68)), some (64, false)⟩,
  {}⟩, ⟨⟨some 70, (.bin .geq (.t 66) (.t 69)), some (64, false)⟩, {}⟩, ⟨⟨some 71, (.pick (.t 64) (.c (B true)) (.t 70)), none⟩, {}⟩, ⟨⟨some 72, (.mov (.t 71)), none⟩, {}⟩, ⟨⟨some 73, (.fadr 0 (.t 6)), some (72, false)⟩, {}⟩, ⟨⟨some 74, (.load false 1 (.t 73)), some (72, false)⟩, {}⟩, ⟨⟨some 75,
  (.fadr 1 (.t 6)), some (72, false)⟩, {}⟩, ⟨⟨some 76, (.load false 1 (.t 75)), some (72, false)⟩, {}⟩, ⟨⟨some 77, (.bin .eql (.t 74) (.t 76)), some (72, false)⟩, {}⟩, ⟨⟨some 78, (.pick (.t 72) (.c (B true)) (.t 77)), none⟩, {}⟩] none) ref01_Check_C24) ref01_Check_C25)
def ref01_Check_C11 : TC := (.seq (.block 3 (.seq (.rg [⟨⟨some 43, (.fadr 1 (.t 1)), none⟩, {}⟩, ⟨⟨some 44, (.load false 1 (.t 43)), none⟩, {}⟩, ⟨⟨some 45, (.mov (.t 5)), none⟩, {}⟩, ⟨⟨some 46, (.iadrS 10 (.t 44) (.t 45)), none⟩, {}⟩, ⟨⟨some 47, (.load true 10 (.t 46)), none⟩, {}⟩, ⟨⟨some 6, (.alloc [(I 0), (I 0), (I 0), (I 0),
  (B false), (B false), (I 0), (I 0), (I 0), (I 0)]), none⟩, {}⟩, ⟨⟨none, (.store 10 (.t 6) (.t 47)), none⟩, {}⟩] none) ref01_Check_C19)) ref01_Check_C2)
def ref01_Check_C3 : TC := (.seq (.seq (.rg [⟨⟨some 36, (.mov (.t 5)), none⟩, {}⟩, ⟨⟨some 37, (.fadr 1 (.t 1)), none⟩, {}⟩, ⟨⟨some 38, (.load false 1 (.t 37)), none⟩, {}⟩, ⟨⟨some 39, (.len (.t 38)), none⟩, {}⟩, ⟨⟨some 40, (.bin .lss (.t 36) (.t 39)), none⟩, {}⟩] none) ref01_Check_C10) ref01_Check_C11)
def ref01_Check_C12 : TC := .ret
def ref01_Check_C4 : TC := (.seq (.rg [⟨⟨some 2, (.mov (.c (I 0))), none⟩, {}⟩] none) ref01_Check_C12)
def ref01_Check_C13 : TC := (.cond (.t 21) .skip (.exit 0))
def ref01_Check_C29 : TC := .ret
def ref01_Check_C26 : TC := (.cond (.t 35) (.seq (.rg [⟨⟨some 2, (.mov (.c (I 1))), none⟩, {}⟩] none) ref01_Check_C29) .skip)
def ref01_Check_C20 : TC := (.seq (.rg [⟨⟨some 30, (.mov (.t 4)), none⟩, {}⟩, ⟨⟨some 31, (.bin .lss (.t 30) (.c (I (-10000)))), none⟩, {}⟩, ⟨⟨some 32, (.mov (.t 31)), none⟩, {}⟩, ⟨⟨some 33, (.mov (.t 4)), some (32, false)⟩, {}⟩, ⟨⟨some 34, (.bin .gtr (.t 33) (.c (I 10000))), some (32, false)⟩, {}⟩, ⟨⟨some 35, (.pick (.t 32) (.c
  (B true)) (.t 34)), none⟩, {}⟩] none) ref01_Check_C26)
def ref01_Check_C21 : TC := (.rg [⟨⟨some 22, (.mov (.t 3)), none⟩, {}⟩, ⟨⟨some 23, (.bin .add (.t 22) (.c (I 1))), none⟩, {}⟩, ⟨⟨some 3, (.mov (.t 23)), none⟩, {}⟩] none)
def ref01_Check_C14 : TC := (.seq (.block 1 (.seq (.rg [⟨⟨some 24, (.fadr 0 (.t 1)), none⟩, {}⟩, ⟨⟨some 25, (.load false 1 (.t 24)), none⟩, {}⟩, ⟨⟨some 26, (.mov (.t 3)), none⟩, {}⟩, ⟨⟨some 27, (.iadrS 2 (.t 25) (.t 26)), none⟩, {}⟩, ⟨⟨some 28, (.fadr 0 (.t 27)), none⟩, {}⟩, ⟨⟨some 29, (.load false 1 (.t 28)), none⟩, {}⟩,
  ⟨⟨some 4, (.mov (.t 29)), none⟩, {}⟩] none) ref01_Check_C20)) ref01_Check_C21)
def ref01_Check_C5 : TC := (.seq (.seq (.rg [⟨⟨some 17, (.mov (.t 3)), none⟩, {}⟩, ⟨⟨some 18, (.fadr 0 (.t 1)), none⟩, {}⟩, ⟨⟨some 19, (.load false 1 (.t 18)), none⟩, {}⟩, ⟨⟨some 20, (.len (.t 19)), none⟩, {}⟩, ⟨⟨some 21, (.bin .lss (.t 17) (.t 20)), none⟩, {}⟩] none) ref01_Check_C13) ref01_Check_C14)
def ref01_Check_C15 : TC := (.block 2 (.loop ref01_Check_N2 ref01_Check_C3))
def ref01_Check_C6 : TC := (.seq (.seq (.rg [⟨⟨some 5, (.mov (.c (I 0))), none⟩, {}⟩] none) ref01_Check_C15) ref01_Check_C4)
def ref01_Check_C16 : TC := (.block 0 (.loop ref01_Check_N1 ref01_Check_C5))
def ref01_Check_C7 : TC := (.seq (.seq (.rg [⟨⟨some 3, (.mov (.c (I 0))), none⟩, {}⟩] none) ref01_Check_C16) ref01_Check_C6)
def ref01_Check_C27 : TC := .ret
def ref01_Check_C22 : TC := (.cond (.t 16) (.seq (.rg [⟨⟨some 2, (.mov (.c (I 2))), none⟩, {}⟩] none) ref01_Check_C27) .skip)
def ref01_Check_C23 : TC := (.join [.keep [1], .cmp] ref01_Check_C7)
def ref01_Check_C17 : TC := (.seq (.seq (.rg [⟨⟨some 7, (.fadr 0 (.t 1)), none⟩, {}⟩, ⟨⟨some 8, (.load false 1 (.t 7)), none⟩, {}⟩, ⟨⟨some 9, (.len (.t 8)), none⟩, {}⟩, ⟨⟨some 10, (.bin .gtr (.t 9) (.c (I 64))), none⟩, {}⟩, ⟨⟨some 11, (.mov (.t 10)), none⟩, {}⟩, ⟨⟨some 12, (.fadr 1 (.t 1)), some (11, false)⟩, {}⟩, ⟨⟨some 13,
  (.load false 1 (.t 12)), some (11, false)⟩, {}⟩, ⟨⟨some 14, (.len (.t 13)), some (11, false)⟩, {}⟩, ⟨⟨some 15, (.bin .gtr (.t 14) (.c (I 128))), some (11, false)⟩, {}⟩, ⟨⟨some 16, (.pick (.t 11) (.c (B true)) (.t 15)), none⟩, {}⟩] none) ref01_Check_C22) ref01_Check_C23)
def ref01_Check_C8 : TC := (.seq (.rg [⟨⟨some 1, (.box (.t 0)), none⟩, {}⟩, ⟨⟨some 2, (.mov (.c (I 0))), none⟩, {}⟩] none) ref01_Check_C17)
def ref01_Check_E (N : Nat) : List (Nat × Ent) := [(44, pureE [G_Span, (.int .i64), (.int .i64)] [.bool] (fun x => ref01_Span N x.1 x.2.1 x.2.2))]
def ref01_Check_J2 (N n2 : Nat) (x14 : Int) (x15 : List T_Place) (x16 : List T_Road) (x17 : Int) (x18 : Int) (x19 : Int) (x20 : Int) (x21 : Bool) (x22 : Bool) (x23 : Int) (x24 : Int) (x25 : Int) (x26 : Int) : Option Int := joinN (run (ref01_Check_E N) N 0 ref01_Check_C1) N ⟨[(1, .ptr 0 0 0), (5, .int .i64 x14), (6, .ptr 1 0 0)], [some (.box 0 [.lst false G_Place x15, .lst false G_Road x16]), some (.box 0 [.int .i64 x17, .int .i64 x18, .int .i64 x19, .int .i64 x20, .bool x21, .bool x22, .int .i64 x23, .int .i64 x24, .int .i64 x25, .int .i64 x26])]⟩ (blkK 3 (seqK (run (ref01_Check_E N) N 0 ref01_Check_C2) (seqK (nextL (normI 0 ref01_Check_N2) (loopN (normI 0 ref01_Check_N2) (run (ref01_Check_E N) N 0 ref01_Check_C3) n2)) (blkK 2 (seqK (run (ref01_Check_E N) N 0 ref01_Check_C4) (fin [(.t 2)] [(.int .i64)]))))))
def ref01_Check_L2 (N : Nat) (n : Nat) (x10 : Int) (x11 : List T_Place) (x12 : List T_Road) : Option Int := loopN (normI 0 ref01_Check_N2) (run (ref01_Check_E N) N 0 ref01_Check_C3) n ⟨[(1, .ptr 0 0 0), (5, .int .i64 x10)], [some (.box 0 [.lst false G_Place x11, .lst false G_Road x12])]⟩ (blkK 2 (seqK (run (ref01_Check_E N) N 0 ref01_Check_C4) (fin [(.t 2)] [(.int .i64)])))
def ref01_Check_L1 (N : Nat) (n : Nat) (x3 : Int) (x4 : List T_Place) (x5 : List T_Road) : Option Int := loopN (normI 0 ref01_Check_N1) (run (ref01_Check_E N) N 0 ref01_Check_C5) n ⟨[(1, .ptr 0 0 0), (3, .int .i64 x3)], [some (.box 0 [.lst false G_Place x4, .lst false G_Road x5])]⟩ (blkK 0 (seqK (run (ref01_Check_E N) N 0 ref01_Check_C6) (fin [(.t 2)] [(.int .i64)])))
def ref01_Check_J1 (N : Nat) (x1 : List T_Place) (x2 : List T_Road) : Option Int := joinN (run (ref01_Check_E N) N 0 ref01_Check_C7) N ⟨[(1, .ptr 0 0 0)], [some (.box 0 [.lst false G_Place x1, .lst false G_Road x2])]⟩ (fin [(.t 2)] [(.int .i64)])
theorem ref01_Check_J2_eqM (N JM n2 : Nat) (x14 : Int) (x15 : List T_Place) (x16 : List T_Road) (x17 : Int) (x18 : Int) (x19 : Int) (x20 : Int) (x21 : Bool) (x22 : Bool) (x23 : Int) (x24 : Int) (x25 : Int) (x26 : Int) : joinN (run (ref01_Check_E N) N 0 ref01_Check_C1) (JM + 1) ⟨[(1, .ptr 0 0 0), (5, .int .i64 x14), (6, .ptr 1 0 0)], [some (.box 0 [.lst false G_Place x15, .lst false G_Road x16]), some (.box 0 [.int .i64 x17, .int .i64 x18, .int .i64 x19, .int .i64 x20, .bool x21, .bool x22, .int .i64 x23, .int .i64 x24, .int .i64 x25, .int .i64 x26])]⟩ (blkK 3 (seqK (run (ref01_Check_E N) N 0 ref01_Check_C2) (seqK (nextL (normI 0 ref01_Check_N2) (loopN (normI 0 ref01_Check_N2) (run (ref01_Check_E N) N 0 ref01_Check_C3) n2)) (blkK 2 (seqK (run (ref01_Check_E N) N 0 ref01_Check_C4) (fin [(.t 2)] [(.int .i64)])))))) =
  bif (decide (x19 < 1)) then
    some 1
  else
    bif (decide (x19 > 100000)) then
      some 1
    else
      bif (decide (x20 < 1)) then
        some 1
      else
        bif (decide (x20 > 1000)) then
          some 1
        else
          Option.bind (ref01_Span N (x23, x24) 1 262144) fun r27 =>
          bif (!r27) then
            some 1
          else
            Option.bind (ref01_Span N (x25, x26) (-2199023255552) 2199023255552) fun r28 =>
            bif (!r28) then
              some 1
            else
              ref01_Check_L2 N n2 (W (x14 + 1)) x15 x16 := by kernel_rfl
theorem ref01_Check_J2_eq (N n2 : Nat) (x14 : Int) (x15 : List T_Place) (x16 : List T_Road) (x17 : Int) (x18 : Int) (x19 : Int) (x20 : Int) (x21 : Bool) (x22 : Bool) (x23 : Int) (x24 : Int) (x25 : Int) (x26 : Int) : ref01_Check_J2 (N + 1) n2 x14 x15 x16 x17 x18 x19 x20 x21 x22 x23 x24 x25 x26 =
  bif (decide (x19 < 1)) then
    some 1
  else
    bif (decide (x19 > 100000)) then
      some 1
    else
      bif (decide (x20 < 1)) then
        some 1
      else
        bif (decide (x20 > 1000)) then
          some 1
        else
          Option.bind (ref01_Span (N + 1) (x23, x24) 1 262144) fun r27 =>
          bif (!r27) then
            some 1
          else
            Option.bind (ref01_Span (N + 1) (x25, x26) (-2199023255552) 2199023255552) fun r28 =>
            bif (!r28) then
              some 1
            else
              ref01_Check_L2 (N + 1) n2 (W (x14 + 1)) x15 x16 := ref01_Check_J2_eqM (N + 1) N n2 x14 x15 x16 x17 x18 x19 x20 x21 x22 x23 x24 x25 x26
theorem ref01_Check_L2_zero (N : Nat) (x10 : Int) (x11 : List T_Place) (x12 : List T_Road) : ref01_Check_L2 N 0 x10 x11 x12 = none := rfl
theorem ref01_Check_L2_succ (N : Nat) (n2 : Nat) (x10 : Int) (x11 : List T_Place) (x12 : List T_Road) : ref01_Check_L2 N (n2 + 1) x10 x11 x12 =
  bif (decide (x10 < (x12.length : Int))) then
    bif inB x10 x12.length then
    let v13 := x12.getD x10.toNat D_Road
    bif (decide (v13.1 < 0)) then
      some 4
    else
      bif (decide (v13.1 ≥ (x11.length : Int))) then
        some 4
      else
        bif (decide (v13.2.1 < 0)) then
          some 4
        else
          bif (decide (v13.2.1 ≥ (x11.length : Int))) then
            some 4
          else
            bif (v13.1 == v13.2.1) then
              some 4
            else
              ref01_Check_J2 N n2 x10 x11 x12 v13.1 v13.2.1 v13.2.2.1 v13.2.2.2.1 v13.2.2.2.2.1 v13.2.2.2.2.2.1 v13.2.2.2.2.2.2.1.1 v13.2.2.2.2.2.2.1.2 v13.2.2.2.2.2.2.2.1 v13.2.2.2.2.2.2.2.2
    else none
  else
    some 0 := by kernel_rfl
theorem ref01_Check_L1_zero (N : Nat) (x3 : Int) (x4 : List T_Place) (x5 : List T_Road) : ref01_Check_L1 N 0 x3 x4 x5 = none := rfl
theorem ref01_Check_L1_succ (N : Nat) (n1 : Nat) (x3 : Int) (x4 : List T_Place) (x5 : List T_Road) : ref01_Check_L1 N (n1 + 1) x3 x4 x5 =
  bif (decide (x3 < (x4.length : Int))) then
    bif inB x3 x4.length then
    bif (decide ((x4.getD x3.toNat D_Place).1 < (-10000))) then
      some 1
    else
      bif (decide ((x4.getD x3.toNat D_Place).1 > 10000)) then
        some 1
      else
        ref01_Check_L1 N n1 (W (x3 + 1)) x4 x5
    else none
  else
    ref01_Check_L2 N N 0 x4 x5 := by kernel_rfl
theorem ref01_Check_J1_eqM (N JM : Nat) (x1 : List T_Place) (x2 : List T_Road) : joinN (run (ref01_Check_E N) N 0 ref01_Check_C7) (JM + 1) ⟨[(1, .ptr 0 0 0)], [some (.box 0 [.lst false G_Place x1, .lst false G_Road x2])]⟩ (fin [(.t 2)] [(.int .i64)]) =
  ref01_Check_L1 N N 0 x1 x2 := by kernel_rfl
theorem ref01_Check_J1_eq (N : Nat) (x1 : List T_Place) (x2 : List T_Road) : ref01_Check_J1 (N + 1) x1 x2 =
  ref01_Check_L1 (N + 1) (N + 1) 0 x1 x2 := ref01_Check_J1_eqM (N + 1) N x1 x2
def ref01_Check (N : Nat) (a0 : T_Mine) : Option Int :=
  bif (decide ((a0.1.length : Int) > 64)) then
    some 2
  else
    bif (decide ((a0.2.length : Int) > 128)) then
      some 2
    else
      ref01_Check_J1 N a0.1 a0.2
theorem ref01_Check_fn : FnOK Try.prog 39 109 (fun _ : Nat => false) ref01_Check_C8.er [(.t 2)] := FnOK.mk' Try.func39 (by kernel_rfl) (by kernel_rfl) (by kernel_rfl) (by kernel_rfl) (by kernel_rfl)
theorem ref01_Check_envok (N : Nat) : EnvOK Try.prog (ref01_Check_E N) := .cons (pureE_ok (ref01_Span_pure N)) (.nil)
theorem ref01_Check_pure (N : Nat) : PureOK Try.prog 39 [G_Mine] [(.int .i64)] (fun x => ref01_Check N x) := pureOK (N := N) mixed ref01_Check_fn (ref01_Check_envok N) (TC.noh_ok (by kernel_rfl)) rfl (fun x => by kernel_rfl)
/-! ref03_ends -/
def ref03_ends_C5 : TC := .ret
def ref03_ends_C3 : TC := (.cond (.t 6) (.seq (.rg [⟨⟨some 7, (.fadr 1 (.t 2)), none⟩, {}⟩, ⟨⟨some 8, (.load false 1 (.t 7)), none⟩, {}⟩, ⟨⟨some 9, (.fadr 0 (.t 2)), none⟩, {}⟩, ⟨⟨some 10, (.load false 1 (.t 9)), none⟩, {}⟩, ⟨⟨some 4, (.mov (.t 8)), none⟩, {}⟩, ⟨⟨some 5, (.mov (.t 10)), none⟩, {}⟩] (some [])) ref03_ends_C5)
  .skip)
def ref03_ends_C6 : TC := .ret
def ref03_ends_C4 : TC := (.seq (.rg [⟨⟨some 11, (.fadr 0 (.t 2)), none⟩, {}⟩, ⟨⟨some 12, (.load false 1 (.t 11)), none⟩, {}⟩, ⟨⟨some 13, (.fadr 1 (.t 2)), none⟩, {}⟩, ⟨⟨some 14, (.load false 1 (.t 13)), none⟩, {}⟩, ⟨⟨some 4, (.mov (.t 12)), none⟩, {}⟩, ⟨⟨some 5, (.mov (.t 14)), none⟩, {}⟩] (some [])) ref03_ends_C6)
def ref03_ends_C2 : TC := (.seq (.seq (.rg [⟨⟨some 6, (.mov (.t 1)), none⟩, {}⟩] none) ref03_ends_C3) ref03_ends_C4)
def ref03_ends_C1 : TC := (.seq (.rg [⟨⟨some 2, (.box (.t 0)), none⟩, {}⟩, ⟨⟨some 4, (.mov (.c (I 0))), none⟩, {}⟩, ⟨⟨some 5, (.mov (.c (I 0))), none⟩, {}⟩] none) ref03_ends_C2)
def ref03_ends_E (N : Nat) : List (Nat × Ent) := []
def ref03_ends (N : Nat) (a0 : T_Road) (a1 : Bool) : Option (Int × Int) :=
  bif a1 then
    some (a0.2.1, a0.1)
  else
    some (a0.1, a0.2.1)
theorem ref03_ends_fn : FnOK Try.prog 41 15 (fun _ : Nat => false) ref03_ends_C1.er [(.t 4), (.t 5)] := FnOK.mk' Try.func41 (by kernel_rfl) (by kernel_rfl) (by kernel_rfl) (by kernel_rfl) (by kernel_rfl)
theorem ref03_ends_envok (N : Nat) : EnvOK Try.prog (ref03_ends_E N) := .nil
theorem ref03_ends_pure (N : Nat) : PureOK Try.prog 41 [G_Road, .bool] [(.int .i64), (.int .i64)] (fun x => ref03_ends N x.1 x.2) := pureOK (N := N) mixed ref03_ends_fn (ref03_ends_envok N) (TC.noh_ok (by kernel_rfl)) rfl (fun x => by kernel_rfl)
/-! ref03_walked -/
def ref03_walked_C11 : TC := (.cond (.t 78) (.rg [⟨⟨some 79, (.mov (.t 3)), none⟩, {}⟩, ⟨⟨some 17, (.mov (.t 79)), none⟩, {}⟩] none) .skip)
def ref03_walked_C13 : TC := (.cond (.t 84) (.rg [⟨⟨some 85, (.mov (.t 4)), none⟩, {}⟩, ⟨⟨some 17, (.mov (.t 85)), none⟩, {}⟩] none) .skip)
def ref03_walked_C15 : TC := .ret
def ref03_walked_C14 : TC := (.seq (.rg [⟨⟨some 86, (.fadr 2 (.t 13)), none⟩, {}⟩, ⟨⟨some 87, (.load false 1 (.t 86)), none⟩, {}⟩, ⟨⟨some 88, (.bin .mul (.c (I 10)) (.t 87)), none⟩, {}⟩, ⟨⟨some 89, (.mov (.t 17)), none⟩, {}⟩, ⟨⟨some 90, (.bin .add (.t 88) (.t 89)), none⟩, {}⟩, ⟨⟨some 91, (.bin .sub (.t 90) (.c (I 1))), none⟩,
  {}⟩, ⟨⟨some 92, (.mov (.t 17)), none⟩, {}⟩, ⟨⟨some 93, (.bin .quo (.t 91) (.t 92)), none⟩, {}⟩, ⟨⟨some 12, (.mov (.t 93)), none⟩, {}⟩] none) ref03_walked_C15)
def ref03_walked_C12 : TC := (.seq (.seq (.rg [⟨⟨some 80, (.mov (.t 16)), none⟩, {}⟩, ⟨⟨some 81, (.bin .mul (.c (I (-10))) (.t 80)), none⟩, {}⟩, ⟨⟨some 82, (.fadr 2 (.t 13)), none⟩, {}⟩, ⟨⟨some 83, (.load false 1 (.t 82)), none⟩, {}⟩, ⟨⟨some 84, (.bin .gtr (.t 81) (.t 83)), none⟩, {}⟩] none) ref03_walked_C13) ref03_walked_C14)
def ref03_walked_C10 : TC := (.seq (.seq (.rg [⟨⟨some 74, (.mov (.t 16)), none⟩, {}⟩, ⟨⟨some 75, (.bin .mul (.c (I 10)) (.t 74)), none⟩, {}⟩, ⟨⟨some 76, (.fadr 2 (.t 13)), none⟩, {}⟩, ⟨⟨some 77, (.load false 1 (.t 76)), none⟩, {}⟩, ⟨⟨some 78, (.bin .gtr (.t 75) (.t 77)), none⟩, {}⟩] none) ref03_walked_C11) ref03_walked_C12)
def ref03_walked_C8 : TC := (.seq (.rg [⟨⟨some 73, (.mov (.t 5)), none⟩, {}⟩, ⟨⟨some 17, (.mov (.t 73)), none⟩, {}⟩] none) ref03_walked_C10)
def ref03_walked_C5 : TC := (.seq (.rg [⟨⟨some 60, (.fadr 0 (.t 6)), none⟩, {}⟩, ⟨⟨some 61, (.load false 1 (.t 60)), none⟩, {}⟩, ⟨⟨some 62, (.mov (.t 15)), none⟩, {}⟩, ⟨⟨some 63, (.iadrS 2 (.t 61) (.t 62)), none⟩, {}⟩, ⟨⟨some 64, (.fadr 0 (.t 63)), none⟩, {}⟩, ⟨⟨some 65, (.load false 1 (.t 64)), none⟩, {}⟩, ⟨⟨some 66, (.fadr 0
  (.t 6)), none⟩, {}⟩, ⟨⟨some 67, (.load false 1 (.t 66)), none⟩, {}⟩, ⟨⟨some 68, (.mov (.t 14)), none⟩, {}⟩, ⟨⟨some 69, (.iadrS 2 (.t 67) (.t 68)), none⟩, {}⟩, ⟨⟨some 70, (.fadr 0 (.t 69)), none⟩, {}⟩, ⟨⟨some 71, (.load false 1 (.t 70)), none⟩, {}⟩, ⟨⟨some 72, (.bin .sub (.t 65) (.t 71)), none⟩,
  {}⟩, ⟨⟨some 16, (.mov (.t 72)), none⟩, {}⟩] (some [])) ref03_walked_C8)
def ref03_walked_C3 : TC := (.seq (.rg [⟨⟨some 55, (.load true 10 (.t 13)), none⟩, {}⟩, ⟨⟨some 56, (.mov (.t 2)), none⟩, {}⟩, ⟨⟨some 57, (.call (.c (.fn 41 [])) [(.t 55), (.t 56)]), none⟩, {}⟩, ⟨⟨some 54, (.mov (.t 57)), none⟩, {}⟩, ⟨⟨some 58, (.extr 0 (.t 54)), none⟩, {}⟩, ⟨⟨some 59, (.extr 1 (.t 54)), none⟩, {}⟩, ⟨⟨some 14,
  (.mov (.t 58)), none⟩, {}⟩, ⟨⟨some 15, (.mov (.t 59)), none⟩, {}⟩] none) ref03_walked_C5)
def ref03_walked_C1 : TC := (.seq (.rg [⟨⟨some 49, (.fadr 1 (.t 6)), none⟩, {}⟩, ⟨⟨some 50, (.load false 1 (.t 49)), none⟩, {}⟩, ⟨⟨some 51, (.mov (.t 1)), none⟩, {}⟩, ⟨⟨some 52, (.iadrS 10 (.t 50) (.t 51)), none⟩, {}⟩, ⟨⟨some 53, (.load true 10 (.t 52)), none⟩, {}⟩, ⟨⟨some 13, (.alloc [(I 0), (I 0), (I 0), (I 0), (B false), (B
  false), (I 0), (I 0), (I 0), (I 0)]), none⟩, {}⟩, ⟨⟨none, (.store 10 (.t 13) (.t 53)), none⟩, {}⟩] none) ref03_walked_C3)
def ref03_walked_C9 : TC := .ret
def ref03_walked_C6 : TC := (.cond (.t 48) (.seq (.rg [⟨⟨some 12, (.mov (.c (I (-1)))), none⟩, {}⟩] none) ref03_walked_C9) .skip)
def ref03_walked_C7 : TC := (.join [.keep [1, 2, 3, 4, 5, 6], .cmp] ref03_walked_C1)
def ref03_walked_C4 : TC := (.seq (.seq (.rg [⟨⟨some 18, (.load true 2 (.t 6)), none⟩, {}⟩, ⟨⟨some 19, (.call (.c (.fn 39 [])) [(.t 18)]), none⟩, {}⟩, ⟨⟨some 20, (.bin .neq (.t 19) (.c (I 0))), none⟩, {}⟩, ⟨⟨some 21, (.mov (.t 20)), none⟩, {}⟩, ⟨⟨some 22, (.mov (.t 1)), some (21, false)⟩, {}⟩, ⟨⟨some 23, (.bin .lss (.t 22) (.c
  (I 0))), some (21, false)⟩, {}⟩, ⟨⟨some 24, (.pick (.t 21) (.c (B true)) (.t 23)), none⟩, {}⟩, ⟨⟨some 25, (.mov (.t 24)), none⟩, {}⟩, ⟨⟨some 26, (.mov (.t 1)), some (25, false)⟩, {}⟩, ⟨⟨some 27, (.fadr 1 (.t 6)), some (25, false)⟩, {}⟩, ⟨⟨some 28, (.load false 1 (.t 27)), some (25, false)⟩, {}⟩,
  ⟨⟨some 29, (.len (.t 28)), some (25, false)⟩, {}⟩, ⟨⟨some 30, (.bin .geq (.t 26) (.t 29)), some (25, false)⟩, {}⟩, ⟨⟨some 31, (.pick (.t 25) (.c (B true)) (.t 30)), none⟩, {}⟩, ⟨⟨some 32, (.mov (.t 31)), none⟩, {}⟩, ⟨⟨some 33, (.fadr 1 (.t 6)), some (32, false)⟩, {}⟩, ⟨⟨some 34, (.load false 1 (.t
  33)), some (32, false)⟩, {}⟩, ⟨⟨some 35, (.mov (.t 1)), some (32, false)⟩, {}⟩, ⟨⟨some 36, (.iadrS 10 (.t 34) (.t 35)), some (32, false)⟩, {}⟩, ⟨⟨some 37, (.fadr 5 (.t 36)), some (32, false)⟩, {}⟩, ⟨⟨some 38, (.load false 1 (.t 37)), some (32, false)⟩, {}⟩, ⟨⟨some 39, (.pick (.t 32) (.c (B true))
  (.t 38)), none⟩, {}⟩, ⟨⟨some 40, (.mov (.t 39)), none⟩, {}⟩, ⟨⟨some 41, (.fadr 1 (.t 6)), some (40, false)⟩, {}⟩, ⟨⟨some 42, (.load false 1 (.t 41)), some (40, false)⟩, {}⟩, ⟨⟨some 43, (.mov (.t 1)), some (40, false)⟩, {}⟩, ⟨⟨some 44, (.iadrS 10 (.t 42) (.t 43)), some (40, false)⟩, {}⟩, ⟨⟨some 45,
  (.fadr 4 (.t 44)), some (40, false)⟩, {}⟩, ⟨⟨some 46, (.load false 1 (.t 45)), some (40, false)⟩, {}⟩, ⟨⟨some 47, (.un .not (.t 46)), some (40, false)⟩, {}⟩, ⟨⟨some 48, (.pick (.t 40) (.c (B true)) (.t 47)), none⟩, {}⟩] none) ref03_walked_C6) ref03_walked_C7)
def ref03_walked_C2 : TC := (.seq (.rg [⟨⟨some 6, (.box (.t 0)), none⟩, {}⟩, ⟨⟨some 12, (.mov (.c (I 0))), none⟩, {}⟩] none) ref03_walked_C4)
def ref03_walked_E (N : Nat) : List (Nat × Ent) := [(39, pureE [G_Mine] [(.int .i64)] (fun x => ref01_Check N x)), (41, pureE [G_Road, .bool] [(.int .i64), (.int .i64)] (fun x => ref03_ends N x.1 x.2))]
def ref03_walked_J1 (N : Nat) (x4 : Int) (x5 : Bool) (x6 : Int) (x7 : Int) (x8 : Int) (x9 : List T_Place) (x10 : List T_Road) : Option Int := joinN (run (ref03_walked_E N) N 0 ref03_walked_C1) N ⟨[(1, .int .i64 x4), (2, .bool x5), (3, .int .i64 x6), (4, .int .i64 x7), (5, .int .i64 x8), (6, .ptr 0 0 0)], [some (.box 0 [.lst false G_Place x9, .lst false G_Road x10])]⟩ (fin [(.t 12)] [(.int .i64)])
theorem ref03_walked_J1_eqM (N JM : Nat) (x4 : Int) (x5 : Bool) (x6 : Int) (x7 : Int) (x8 : Int) (x9 : List T_Place) (x10 : List T_Road) : joinN (run (ref03_walked_E N) N 0 ref03_walked_C1) (JM + 1) ⟨[(1, .int .i64 x4), (2, .bool x5), (3, .int .i64 x6), (4, .int .i64 x7), (5, .int .i64 x8), (6, .ptr 0 0 0)], [some (.box 0 [.lst false G_Place x9, .lst false G_Road x10])]⟩ (fin [(.t 12)] [(.int .i64)]) =
  bif inB x4 x10.length then
  Option.bind (ref03_ends N (x10.getD x4.toNat D_Road) x5) fun r12 =>
  bif inB r12.2 x9.length then
  let v13 := x9.getD r12.2.toNat D_Place
  bif inB r12.1 x9.length then
  let v14 := x9.getD r12.1.toNat D_Place
  bif (decide ((W (10 * (W (v13.1 - v14.1)))) > (x10.getD x4.toNat D_Road).2.2.1)) then
    bif (decide ((W ((-10) * (W (v13.1 - v14.1)))) > (x10.getD x4.toNat D_Road).2.2.1)) then
      bif x7 == 0 then none else
      some (W ((W ((W ((W (10 * (x10.getD x4.toNat D_Road).2.2.1)) + x7)) - 1)).tdiv x7))
    else
      bif x6 == 0 then none else
      some (W ((W ((W ((W (10 * (x10.getD x4.toNat D_Road).2.2.1)) + x6)) - 1)).tdiv x6))
  else
    bif (decide ((W ((-10) * (W (v13.1 - v14.1)))) > (x10.getD x4.toNat D_Road).2.2.1)) then
      bif x7 == 0 then none else
      some (W ((W ((W ((W (10 * (x10.getD x4.toNat D_Road).2.2.1)) + x7)) - 1)).tdiv x7))
    else
      bif x8 == 0 then none else
      some (W ((W ((W ((W (10 * (x10.getD x4.toNat D_Road).2.2.1)) + x8)) - 1)).tdiv x8))
  else none
  else none
  else none := by kernel_rfl
theorem ref03_walked_J1_eq (N : Nat) (x4 : Int) (x5 : Bool) (x6 : Int) (x7 : Int) (x8 : Int) (x9 : List T_Place) (x10 : List T_Road) : ref03_walked_J1 (N + 1) x4 x5 x6 x7 x8 x9 x10 =
  bif inB x4 x10.length then
  Option.bind (ref03_ends (N + 1) (x10.getD x4.toNat D_Road) x5) fun r12 =>
  bif inB r12.2 x9.length then
  let v13 := x9.getD r12.2.toNat D_Place
  bif inB r12.1 x9.length then
  let v14 := x9.getD r12.1.toNat D_Place
  bif (decide ((W (10 * (W (v13.1 - v14.1)))) > (x10.getD x4.toNat D_Road).2.2.1)) then
    bif (decide ((W ((-10) * (W (v13.1 - v14.1)))) > (x10.getD x4.toNat D_Road).2.2.1)) then
      bif x7 == 0 then none else
      some (W ((W ((W ((W (10 * (x10.getD x4.toNat D_Road).2.2.1)) + x7)) - 1)).tdiv x7))
    else
      bif x6 == 0 then none else
      some (W ((W ((W ((W (10 * (x10.getD x4.toNat D_Road).2.2.1)) + x6)) - 1)).tdiv x6))
  else
    bif (decide ((W ((-10) * (W (v13.1 - v14.1)))) > (x10.getD x4.toNat D_Road).2.2.1)) then
      bif x7 == 0 then none else
      some (W ((W ((W ((W (10 * (x10.getD x4.toNat D_Road).2.2.1)) + x7)) - 1)).tdiv x7))
    else
      bif x8 == 0 then none else
      some (W ((W ((W ((W (10 * (x10.getD x4.toNat D_Road).2.2.1)) + x8)) - 1)).tdiv x8))
  else none
  else none
  else none := ref03_walked_J1_eqM (N + 1) N x4 x5 x6 x7 x8 x9 x10
def ref03_walked (N : Nat) (a0 : T_Mine) (a1 : Int) (a2 : Bool) (a3 : Int) (a4 : Int) (a5 : Int) : Option Int :=
  Option.bind (ref01_Check N a0) fun r1 =>
  bif (r1 != 0) then
    some (-1)
  else
    bif (decide (a1 < 0)) then
      some (-1)
    else
      bif (decide (a1 ≥ (a0.2.length : Int))) then
        some (-1)
      else
        bif inB a1 a0.2.length then
        bif (a0.2.getD a1.toNat D_Road).2.2.2.2.2.1 then
          some (-1)
        else
          bif inB a1 a0.2.length then
          bif (!(a0.2.getD a1.toNat D_Road).2.2.2.2.1) then
            some (-1)
          else
            ref03_walked_J1 N a1 a2 a3 a4 a5 a0.1 a0.2
          else none
        else none
theorem ref03_walked_fn : FnOK Try.prog 32 94 (fun _ : Nat => false) ref03_walked_C2.er [(.t 12)] := FnOK.mk' Try.func32 (by kernel_rfl) (by kernel_rfl) (by kernel_rfl) (by kernel_rfl) (by kernel_rfl)
theorem ref03_walked_envok (N : Nat) : EnvOK Try.prog (ref03_walked_E N) := .cons (pureE_ok (ref01_Check_pure N)) (.cons (pureE_ok (ref03_ends_pure N)) (.nil))
theorem ref03_walked_pure (N : Nat) : PureOK Try.prog 32 [G_Mine, (.int .i64), .bool, (.int .i64), (.int .i64), (.int .i64)] [(.int .i64)] (fun x => ref03_walked N x.1 x.2.1 x.2.2.1 x.2.2.2.1 x.2.2.2.2.1 x.2.2.2.2.2) := pureOK (N := N) mixed ref03_walked_fn (ref03_walked_envok N) (TC.noh_ok (by kernel_rfl)) rfl (fun x => by kernel_rfl)
/-! ref03_Time -/
def ref03_Time_C3 : TC := .ret
def ref03_Time_C2 : TC := (.seq (.rg [⟨⟨some 7, (.load true 2 (.t 3)), none⟩, {}⟩, ⟨⟨some 8, (.mov (.t 1)), none⟩, {}⟩, ⟨⟨some 9, (.mov (.t 2)), none⟩, {}⟩, ⟨⟨some 10, (.call (.c (.fn 32 [])) [(.t 7), (.t 8), (.t 9), (.c (I 6)), (.c (I 9)), (.c (I 12))]), none⟩, {}⟩, ⟨⟨some 6, (.mov (.t 10)), none⟩, {}⟩] none) ref03_Time_C3)
def ref03_Time_C1 : TC := (.seq (.rg [⟨⟨some 3, (.box (.t 0)), none⟩, {}⟩, ⟨⟨some 6, (.mov (.c (I 0))), none⟩, {}⟩] none) ref03_Time_C2)
def ref03_Time_E (N : Nat) : List (Nat × Ent) := [(32, pureE [G_Mine, (.int .i64), .bool, (.int .i64), (.int .i64), (.int .i64)] [(.int .i64)] (fun x => ref03_walked N x.1 x.2.1 x.2.2.1 x.2.2.2.1 x.2.2.2.2.1 x.2.2.2.2.2))]
def ref03_Time (N : Nat) (a0 : T_Mine) (a1 : Int) (a2 : Bool) : Option Int :=
  Option.bind (ref03_walked N a0 a1 a2 6 9 12) fun r1 =>
  some r1
theorem ref03_Time_fn : FnOK Try.prog 13 11 (fun _ : Nat => false) ref03_Time_C1.er [(.t 6)] := FnOK.mk' Try.func13 (by kernel_rfl) (by kernel_rfl) (by kernel_rfl) (by kernel_rfl) (by kernel_rfl)
theorem ref03_Time_envok (N : Nat) : EnvOK Try.prog (ref03_Time_E N) := .cons (pureE_ok (ref03_walked_pure N)) (.nil)
theorem ref03_Time_pure (N : Nat) : PureOK Try.prog 13 [G_Mine, (.int .i64), .bool] [(.int .i64)] (fun x => ref03_Time N x.1 x.2.1 x.2.2) := pureOK (N := N) mixed ref03_Time_fn (ref03_Time_envok N) (TC.noh_ok (by kernel_rfl)) rfl (fun x => by kernel_rfl)
/-! walk_slow -/
def walk_slow_C3 : TC := .ret
def walk_slow_C2 : TC := (.seq (.rg [⟨⟨some 1, (.build [(I 0), (I 0), (I 0)] [(0, (1, (.c (I 2)))), (1, (1, (.c (I 3)))), (2, (1, (.c (I 4))))]), none⟩, {}⟩, ⟨⟨none, (.store 3 (.t 0) (.t 1)), none⟩, {}⟩] none) walk_slow_C3)
def walk_slow_C1 : TC := (.seq (.rg [⟨⟨some 0, (.alloc [(I 0), (I 0), (I 0)]), none⟩, {}⟩] none) walk_slow_C2)
def walk_slow_E (N : Nat) : List (Nat × Ent) := []
def walk_slow (N : Nat) : Option T_pace :=
  some (2, (3, 4))
theorem walk_slow_fn : FnOK Try.prog 34 2 (fun _ : Nat => false) walk_slow_C1.er [(.cell 0 true 3)] := FnOK.mk' Try.func34 (by kernel_rfl) (by kernel_rfl) (by kernel_rfl) (by kernel_rfl) (by kernel_rfl)
theorem walk_slow_envok (N : Nat) : EnvOK Try.prog (walk_slow_E N) := .nil
theorem walk_slow_pure (N : Nat) : PureOK Try.prog 34 [] [G_pace] (fun x => walk_slow N) := pureOK (N := N) mixed walk_slow_fn (walk_slow_envok N) (TC.noh_ok (by kernel_rfl)) rfl (fun x => by kernel_rfl)
/-! walk_Slow -/
def walk_Slow_C5 : TC := .ret
def walk_Slow_C3 : TC := (.cond (.t 20) (.seq (.rg [⟨⟨some 6, (.mov (.c (I (-1)))), none⟩, {}⟩] none) walk_Slow_C5) .skip)
def walk_Slow_C6 : TC := .ret
def walk_Slow_C4 : TC := (.seq (.rg [⟨⟨some 21, (.load true 2 (.t 3)), none⟩, {}⟩, ⟨⟨some 22, (.mov (.t 1)), none⟩, {}⟩, ⟨⟨some 23, (.mov (.t 2)), none⟩, {}⟩, ⟨⟨some 24, (.call (.c (.fn 34 [])) []), none⟩, {}⟩, ⟨⟨some 25, (.call (.c (.fn 33 [])) [(.t 21), (.t 22), (.t 23), (.t 24)]), none⟩, {}⟩, ⟨⟨some 6, (.mov (.t 25)),
  none⟩, {}⟩] (some [(0, 3)])) walk_Slow_C6)
def walk_Slow_C2 : TC := (.seq (.seq (.rg [⟨⟨some 7, (.load true 2 (.t 3)), none⟩, {}⟩, ⟨⟨some 8, (.call (.c (.fn 30 [])) [(.t 7)]), none⟩, {}⟩, ⟨⟨some 9, (.un .not (.t 8)), none⟩, {}⟩, ⟨⟨some 10, (.mov (.t 9)), none⟩, {}⟩, ⟨⟨some 11, (.mov (.t 1)), some (10, false)⟩, {}⟩, ⟨⟨some 12, (.bin .lss (.t 11) (.c (I 0))), some (10,
  false)⟩, {}⟩, ⟨⟨some 13, (.pick (.t 10) (.c (B true)) (.t 12)), none⟩, {}⟩, ⟨⟨some 14, (.mov (.t 13)), none⟩, {}⟩, ⟨⟨some 15, (.mov (.t 1)), some (14, false)⟩, {}⟩, ⟨⟨some 16, (.fadr 1 (.t 3)), some (14, false)⟩, {}⟩, ⟨⟨some 17, (.load false 1 (.t 16)), some (14, false)⟩, {}⟩, ⟨⟨some 18, (.len (.t
  17)), some (14, false)⟩, {}⟩, ⟨⟨some 19, (.bin .geq (.t 15) (.t 18)), some (14, false)⟩, {}⟩, ⟨⟨some 20, (.pick (.t 14) (.c (B true)) (.t 19)), none⟩, {}⟩] none) walk_Slow_C3) walk_Slow_C4)
def walk_Slow_C1 : TC := (.seq (.rg [⟨⟨some 3, (.box (.t 0)), none⟩, {}⟩, ⟨⟨some 6, (.mov (.c (I 0))), none⟩, {}⟩] none) walk_Slow_C2)
def walk_Slow_E (N : Nat) : List (Nat × Ent) := [(30, pureE [G_Mine] [.bool] (fun x => plan_Valid N x)), (34, pureE [] [G_pace] (fun x => walk_slow N)), (33, pureE [G_Mine, (.int .i64), .bool, G_pace] [(.int .i64)] (fun x => walk_with N x.1 x.2.1 x.2.2.1 x.2.2.2))]
def walk_Slow (N : Nat) (a0 : T_Mine) (a1 : Int) (a2 : Bool) : Option Int :=
  Option.bind (plan_Valid N a0) fun r1 =>
  bif (!r1) then
    some (-1)
  else
    bif (decide (a1 < 0)) then
      some (-1)
    else
      bif (decide (a1 ≥ (a0.2.length : Int))) then
        some (-1)
      else
        Option.bind (walk_slow N) fun r2 =>
        Option.bind (walk_with N a0 a1 a2 r2) fun r3 =>
        some r3
theorem walk_Slow_fn : FnOK Try.prog 14 26 (fun _ : Nat => false) walk_Slow_C1.er [(.t 6)] := FnOK.mk' Try.func14 (by kernel_rfl) (by kernel_rfl) (by kernel_rfl) (by kernel_rfl) (by kernel_rfl)
theorem walk_Slow_envok (N : Nat) : EnvOK Try.prog (walk_Slow_E N) := .cons (pureE_ok (plan_Valid_pure N)) (.cons (pureE_ok (walk_slow_pure N)) (.cons (pureE_ok (walk_with_pure N)) (.nil)))
theorem walk_Slow_pure (N : Nat) : PureOK Try.prog 14 [G_Mine, (.int .i64), .bool] [(.int .i64)] (fun x => walk_Slow N x.1 x.2.1 x.2.2) := pureOK (N := N) mixed walk_Slow_fn (walk_Slow_envok N) (TC.noh_ok (by kernel_rfl)) rfl (fun x => by kernel_rfl)
/-! ref03_Slow -/
def ref03_Slow_C3 : TC := .ret
def ref03_Slow_C2 : TC := (.seq (.rg [⟨⟨some 7, (.load true 2 (.t 3)), none⟩, {}⟩, ⟨⟨some 8, (.mov (.t 1)), none⟩, {}⟩, ⟨⟨some 9, (.mov (.t 2)), none⟩, {}⟩, ⟨⟨some 10, (.call (.c (.fn 32 [])) [(.t 7), (.t 8), (.t 9), (.c (I 2)), (.c (I 3)), (.c (I 4))]), none⟩, {}⟩, ⟨⟨some 6, (.mov (.t 10)), none⟩, {}⟩] none) ref03_Slow_C3)
def ref03_Slow_C1 : TC := (.seq (.rg [⟨⟨some 3, (.box (.t 0)), none⟩, {}⟩, ⟨⟨some 6, (.mov (.c (I 0))), none⟩, {}⟩] none) ref03_Slow_C2)
def ref03_Slow_E (N : Nat) : List (Nat × Ent) := [(32, pureE [G_Mine, (.int .i64), .bool, (.int .i64), (.int .i64), (.int .i64)] [(.int .i64)] (fun x => ref03_walked N x.1 x.2.1 x.2.2.1 x.2.2.2.1 x.2.2.2.2.1 x.2.2.2.2.2))]
def ref03_Slow (N : Nat) (a0 : T_Mine) (a1 : Int) (a2 : Bool) : Option Int :=
  Option.bind (ref03_walked N a0 a1 a2 2 3 4) fun r1 =>
  some r1
theorem ref03_Slow_fn : FnOK Try.prog 15 11 (fun _ : Nat => false) ref03_Slow_C1.er [(.t 6)] := FnOK.mk' Try.func15 (by kernel_rfl) (by kernel_rfl) (by kernel_rfl) (by kernel_rfl) (by kernel_rfl)
theorem ref03_Slow_envok (N : Nat) : EnvOK Try.prog (ref03_Slow_E N) := .cons (pureE_ok (ref03_walked_pure N)) (.nil)
theorem ref03_Slow_pure (N : Nat) : PureOK Try.prog 15 [G_Mine, (.int .i64), .bool] [(.int .i64)] (fun x => ref03_Slow N x.1 x.2.1 x.2.2) := pureOK (N := N) mixed ref03_Slow_fn (ref03_Slow_envok N) (TC.noh_ok (by kernel_rfl)) rfl (fun x => by kernel_rfl)
/-! walk_cost_less -/
def walk_cost_less_C3 : TC := .ret
def walk_cost_less_C2 : TC := (.seq (.rg [⟨⟨some 5, (.fadr 0 (.t 2)), none⟩, {}⟩, ⟨⟨some 6, (.load false 1 (.t 5)), none⟩, {}⟩, ⟨⟨some 7, (.fadr 0 (.t 3)), none⟩, {}⟩, ⟨⟨some 8, (.load false 1 (.t 7)), none⟩, {}⟩, ⟨⟨some 9, (.bin .lss (.t 6) (.t 8)), none⟩, {}⟩, ⟨⟨some 10, (.mov (.t 9)), none⟩, {}⟩, ⟨⟨some 11, (.fadr 0 (.t 2)),
  some (10, false)⟩, {}⟩, ⟨⟨some 12, (.load false 1 (.t 11)), some (10, false)⟩, {}⟩, ⟨⟨some 13, (.fadr 0 (.t 3)), some (10, false)⟩, {}⟩, ⟨⟨some 14, (.load false 1 (.t 13)), some (10, false)⟩, {}⟩, ⟨⟨some 15, (.bin .eql (.t 12) (.t 14)), some (10, false)⟩, {}⟩, ⟨⟨some 16, (.mov (.t 15)), some (10,
  false)⟩, {}⟩, ⟨⟨some 17, (.fadr 1 (.t 2)), some (16, true)⟩, {}⟩, ⟨⟨some 18, (.load false 1 (.t 17)), some (16, true)⟩, {}⟩, ⟨⟨some 19, (.fadr 1 (.t 3)), some (16, true)⟩, {}⟩, ⟨⟨some 20, (.load false 1 (.t 19)), some (16, true)⟩, {}⟩, ⟨⟨some 21, (.bin .lss (.t 18) (.t 20)), some (16, true)⟩, {}⟩,
  ⟨⟨some 22, (.pick (.t 16) (.t 21) (.c (B false))), some (10, false)⟩, {}⟩, ⟨⟨some 23, (.pick (.t 10) (.c (B true)) (.t 22)), none⟩, {}⟩, ⟨⟨some 4, (.mov (.t 23)), none⟩, {}⟩] none) walk_cost_less_C3)
def walk_cost_less_C1 : TC := (.seq (.rg [⟨⟨some 2, (.box (.t 0)), none⟩, {}⟩, ⟨⟨some 3, (.box (.t 1)), none⟩, {}⟩, ⟨⟨some 4, (.mov (.c (B false))), none⟩, {}⟩] none) walk_cost_less_C2)
def walk_cost_less_E (N : Nat) : List (Nat × Ent) := []
def walk_cost_less (N : Nat) (a0 : T_Span) (a1 : T_Span) : Option Bool :=
  bif (decide (a0.1 < a1.1)) then
    some true
  else
    bif (a0.1 == a1.1) then
      some (decide (a0.2 < a1.2))
    else
      some false
theorem walk_cost_less_fn : FnOK Try.prog 36 24 (fun _ : Nat => false) walk_cost_less_C1.er [(.t 4)] := FnOK.mk' Try.func36 (by kernel_rfl) (by kernel_rfl) (by kernel_rfl) (by kernel_rfl) (by kernel_rfl)
theorem walk_cost_less_envok (N : Nat) : EnvOK Try.prog (walk_cost_less_E N) := .nil
theorem walk_cost_less_pure (N : Nat) : PureOK Try.prog 36 [G_Span, G_Span] [.bool] (fun x => walk_cost_less N x.1 x.2) := pureOK (N := N) mixed walk_cost_less_fn (walk_cost_less_envok N) (TC.noh_ok (by kernel_rfl)) rfl (fun x => by kernel_rfl)
/-! plan_Roads -/
def plan_Roads_N1 : List NS := [.own 5 (.int .i64), .wk 9 (.list G_Road), .keep [1, 5, 9, 10, 11], .cmp]
def plan_Roads_C14 : TC := (.cond (.t 25) (.rg [⟨⟨some 26, (.mov (.t 5)), none⟩, {}⟩, ⟨⟨some 27, (.mov (.t 6)), none⟩, {}⟩, ⟨⟨some 28, (.bslice false 1 [(I 0)] 1 [(0, (.t 27))]), none⟩, ⟨(.int .i64), none⟩⟩, ⟨⟨some 29, (.app 1 8 (.t 26) (.t 28)), none⟩, {}⟩, ⟨⟨some 5, (.mov (.t 29)), none⟩, {}⟩] none) .skip)
def plan_Roads_C10 : TC := (.seq (.rg [⟨⟨some 16, (.fadr 0 (.t 7)), none⟩, {}⟩, ⟨⟨some 17, (.load false 1 (.t 16)), none⟩, {}⟩, ⟨⟨some 18, (.mov (.t 1)), none⟩, {}⟩, ⟨⟨some 19, (.bin .eql (.t 17) (.t 18)), none⟩, {}⟩, ⟨⟨some 20, (.mov (.t 19)), none⟩, {}⟩, ⟨⟨some 21, (.fadr 1 (.t 7)), some (20, false)⟩, {}⟩, ⟨⟨some 22, (.load
  false 1 (.t 21)), some (20, false)⟩, {}⟩, ⟨⟨some 23, (.mov (.t 1)), some (20, false)⟩, {}⟩, ⟨⟨some 24, (.bin .eql (.t 22) (.t 23)), some (20, false)⟩, {}⟩, ⟨⟨some 25, (.pick (.t 20) (.c (B true)) (.t 24)), none⟩, {}⟩] none) plan_Roads_C14)
def plan_Roads_C11 : TC := (.rg [⟨⟨some 30, (.bin .add (.t 11) (.c (I 1))), none⟩, {}⟩, ⟨⟨some 11, (.mov (.t 30)), none⟩, {}⟩] none)
def plan_Roads_C7 : TC := (.seq (.block 1 (.seq (.rg [⟨⟨some 13, (.mov (.t 11)), none⟩, {}⟩, ⟨⟨some 14, (.iadrS 10 (.t 9) (.t 11)), none⟩, {}⟩, ⟨⟨some 15, (.load true 10 (.t 14)), none⟩, {}⟩, ⟨⟨some 7, (.alloc [(I 0), (I 0), (I 0), (I 0), (B false), (B false), (I 0), (I 0), (I 0), (I 0)]), none⟩, {}⟩, ⟨⟨some 6, (.mov (.t
  13)), none⟩, {}⟩, ⟨⟨none, (.store 10 (.t 7) (.t 15)), none⟩, {}⟩] none) plan_Roads_C10)) plan_Roads_C11)
def plan_Roads_C4 : TC := (.seq (.cond (.t 12) .skip (.exit 0)) plan_Roads_C7)
def plan_Roads_C1 : TC := (.seq (.rg [⟨⟨some 12, (.bin .lss (.t 11) (.t 10)), none⟩, {}⟩] none) plan_Roads_C4)
def plan_Roads_C12 : TC := .ret
def plan_Roads_C8 : TC := (.pre [.frz 4] plan_Roads_C12)
def plan_Roads_C5 : TC := (.seq (.rg [⟨⟨some 31, (.mov (.t 5)), none⟩, {}⟩, ⟨⟨some 4, (.mov (.t 31)), none⟩, {}⟩] none) plan_Roads_C8)
def plan_Roads_C2 : TC := (.pre [.frz 5] plan_Roads_C5)
def plan_Roads_C13 : TC := (.block 0 (.loop plan_Roads_N1 plan_Roads_C1))
def plan_Roads_C9 : TC := (.seq (.seq (.rg [⟨⟨some 8, (.fadr 1 (.t 2)), none⟩, {}⟩, ⟨⟨some 9, (.load false 1 (.t 8)), none⟩, {}⟩, ⟨⟨some 10, (.len (.t 9)), none⟩, {}⟩, ⟨⟨some 11, (.mov (.c (I 0))), none⟩, {}⟩] none) plan_Roads_C13) plan_Roads_C2)
def plan_Roads_C6 : TC := (.seq (.rg [⟨⟨some 5, (.mov (.c (.lst true []))), none⟩, {}⟩] none) plan_Roads_C9)
def plan_Roads_C3 : TC := (.seq (.rg [⟨⟨some 2, (.box (.t 0)), none⟩, {}⟩, ⟨⟨some 4, (.mov (.c (.lst true []))), none⟩, {}⟩] none) plan_Roads_C6)
def plan_Roads_E (N : Nat) : List (Nat × Ent) := []
def plan_Roads_L1 (N : Nat) (n : Nat) (x1 : Int) (x2 : List T_Road) (x3 : Int) (x4 : Int) (x5 : List Int) : Option (List Int) := loopN (normI 0 plan_Roads_N1) (run (plan_Roads_E N) N 0 plan_Roads_C1) n ⟨[(1, .int .i64 x1), (5, .whole 0), (9, .lst false G_Road x2), (10, .int .i64 x3), (11, .int .i64 x4)], [some (.arr (.int .i64) x5)]⟩ (blkK 0 (seqK (run (plan_Roads_E N) N 0 plan_Roads_C2) (fin [(.t 4)] [(.list (.int .i64))])))
theorem plan_Roads_L1_zero (N : Nat) (x1 : Int) (x2 : List T_Road) (x3 : Int) (x4 : Int) (x5 : List Int) : plan_Roads_L1 N 0 x1 x2 x3 x4 x5 = none := rfl
theorem plan_Roads_L1_succ (N : Nat) (n1 : Nat) (x1 : Int) (x2 : List T_Road) (x3 : Int) (x4 : Int) (x5 : List Int) : plan_Roads_L1 N (n1 + 1) x1 x2 x3 x4 x5 =
  bif (decide (x4 < x3)) then
    bif inB x4 x2.length then
    bif ((x2.getD x4.toNat D_Road).1 == x1) then
      bif fitsB (x5.length + 1) 8 then
      plan_Roads_L1 N n1 x1 x2 x3 (W (x4 + 1)) (x5 ++ [x4])
      else none
    else
      bif ((x2.getD x4.toNat D_Road).2.1 == x1) then
        bif fitsB (x5.length + 1) 8 then
        plan_Roads_L1 N n1 x1 x2 x3 (W (x4 + 1)) (x5 ++ [x4])
        else none
      else
        plan_Roads_L1 N n1 x1 x2 x3 (W (x4 + 1)) x5
    else none
  else
    some x5 := by kernel_rfl
def plan_Roads (N : Nat) (a0 : T_Mine) (a1 : Int) : Option (List Int) :=
  plan_Roads_L1 N N a1 a0.2 (a0.2.length : Int) 0 []
theorem plan_Roads_fn : FnOK Try.prog 37 32 (fun _ : Nat => false) plan_Roads_C3.er [(.t 4)] := FnOK.mk' Try.func37 (by kernel_rfl) (by kernel_rfl) (by kernel_rfl) (by kernel_rfl) (by kernel_rfl)
theorem plan_Roads_envok (N : Nat) : EnvOK Try.prog (plan_Roads_E N) := .nil
theorem plan_Roads_pure (N : Nat) : PureOK Try.prog 37 [G_Mine, (.int .i64)] [(.list (.int .i64))] (fun x => plan_Roads N x.1 x.2) := pureOK (N := N) mixed plan_Roads_fn (plan_Roads_envok N) (TC.noh_ok (by kernel_rfl)) rfl (fun x => by kernel_rfl)
/-! plan_Other -/
def plan_Other_C5 : TC := .ret
def plan_Other_C3 : TC := (.cond (.t 16) (.seq (.rg [⟨⟨some 6, (.mov (.c (I (-1)))), none⟩, {}⟩] none) plan_Other_C5) .skip)
def plan_Other_C11 : TC := .ret
def plan_Other_C13 : TC := .ret
def plan_Other_C12 : TC := (.cond (.t 29) (.seq (.rg [⟨⟨some 33, (.fadr 0 (.t 7)), none⟩, {}⟩, ⟨⟨some 34, (.load false 1 (.t 33)), none⟩, {}⟩, ⟨⟨some 6, (.mov (.t 34)), none⟩, {}⟩] none) plan_Other_C13) .skip)
def plan_Other_C10 : TC := (.cond (.t 23) (.seq (.rg [⟨⟨some 27, (.fadr 1 (.t 7)), none⟩, {}⟩, ⟨⟨some 28, (.load false 1 (.t 27)), none⟩, {}⟩, ⟨⟨some 6, (.mov (.t 28)), none⟩, {}⟩] none) plan_Other_C11) (.seq (.rg [⟨⟨some 30, (.fadr 1 (.t 7)), none⟩, {}⟩, ⟨⟨some 31, (.load false 1 (.t 30)), none⟩, {}⟩, ⟨⟨some 32, (.bin .eql
  (.t 22) (.t 31)), none⟩, {}⟩, ⟨⟨some 29, (.mov (.t 32)), none⟩, {}⟩] none) plan_Other_C12))
def plan_Other_C8 : TC := (.block 0 (.seq (.rg [⟨⟨some 24, (.fadr 0 (.t 7)), none⟩, {}⟩, ⟨⟨some 25, (.load false 1 (.t 24)), none⟩, {}⟩, ⟨⟨some 26, (.bin .eql (.t 22) (.t 25)), none⟩, {}⟩, ⟨⟨some 23, (.mov (.t 26)), none⟩, {}⟩] none) plan_Other_C10))
def plan_Other_C6 : TC := (.seq (.rg [⟨⟨some 22, (.mov (.t 2)), none⟩, {}⟩] none) plan_Other_C8)
def plan_Other_C9 : TC := .ret
def plan_Other_C7 : TC := (.seq (.rg [⟨⟨some 6, (.mov (.c (I (-1)))), none⟩, {}⟩] none) plan_Other_C9)
def plan_Other_C4 : TC := (.seq (.seq (.rg [⟨⟨some 17, (.fadr 1 (.t 3)), none⟩, {}⟩, ⟨⟨some 18, (.load false 1 (.t 17)), none⟩, {}⟩, ⟨⟨some 19, (.mov (.t 1)), none⟩, {}⟩, ⟨⟨some 20, (.iadrS 10 (.t 18) (.t 19)), none⟩, {}⟩, ⟨⟨some 21, (.load true 10 (.t 20)), none⟩, {}⟩, ⟨⟨some 7, (.alloc [(I 0), (I 0), (I 0), (I 0), (B
  false), (B false), (I 0), (I 0), (I 0), (I 0)]), none⟩, {}⟩, ⟨⟨none, (.store 10 (.t 7) (.t 21)), none⟩, {}⟩] none) plan_Other_C6) plan_Other_C7)
def plan_Other_C2 : TC := (.seq (.seq (.rg [⟨⟨some 8, (.mov (.t 1)), none⟩, {}⟩, ⟨⟨some 9, (.bin .lss (.t 8) (.c (I 0))), none⟩, {}⟩, ⟨⟨some 10, (.mov (.t 9)), none⟩, {}⟩, ⟨⟨some 11, (.mov (.t 1)), some (10, false)⟩, {}⟩, ⟨⟨some 12, (.fadr 1 (.t 3)), some (10, false)⟩, {}⟩, ⟨⟨some 13, (.load false 1 (.t 12)), some (10,
  false)⟩, {}⟩, ⟨⟨some 14, (.len (.t 13)), some (10, false)⟩, {}⟩, ⟨⟨some 15, (.bin .geq (.t 11) (.t 14)), some (10, false)⟩, {}⟩, ⟨⟨some 16, (.pick (.t 10) (.c (B true)) (.t 15)), none⟩, {}⟩] none) plan_Other_C3) plan_Other_C4)
def plan_Other_C1 : TC := (.seq (.rg [⟨⟨some 3, (.box (.t 0)), none⟩, {}⟩, ⟨⟨some 6, (.mov (.c (I 0))), none⟩, {}⟩] none) plan_Other_C2)
def plan_Other_E (N : Nat) : List (Nat × Ent) := []
def plan_Other (N : Nat) (a0 : T_Mine) (a1 : Int) (a2 : Int) : Option Int :=
  bif (decide (a1 < 0)) then
    some (-1)
  else
    bif (decide (a1 ≥ (a0.2.length : Int))) then
      some (-1)
    else
      bif inB a1 a0.2.length then
      let v1 := a0.2.getD a1.toNat D_Road
      bif (a2 == v1.1) then
        some v1.2.1
      else
        bif (a2 == v1.2.1) then
          some v1.1
        else
          some (-1)
      else none
theorem plan_Other_fn : FnOK Try.prog 38 35 (fun _ : Nat => false) plan_Other_C1.er [(.t 6)] := FnOK.mk' Try.func38 (by kernel_rfl) (by kernel_rfl) (by kernel_rfl) (by kernel_rfl) (by kernel_rfl)
theorem plan_Other_envok (N : Nat) : EnvOK Try.prog (plan_Other_E N) := .nil
theorem plan_Other_pure (N : Nat) : PureOK Try.prog 38 [G_Mine, (.int .i64), (.int .i64)] [(.int .i64)] (fun x => plan_Other N x.1 x.2.1 x.2.2) := pureOK (N := N) mixed plan_Other_fn (plan_Other_envok N) (TC.noh_ok (by kernel_rfl)) rfl (fun x => by kernel_rfl)
/-! walk_Way -/
def walk_Way_N1 : List NS := [.keep [1, 2, 3, 10, 54, 55], .cmp]
def walk_Way_N2 : List NS := [.keep [1, 2, 3, 10, 12], .cmp]
def walk_Way_N3 : List NS := [.wk 69 (.list G_Road), .keep [1, 2, 3, 10, 12, 69, 70, 71], .cmp]
def walk_Way_NG1 : List NS := [.wk 69 (.list G_Road), .keep [1, 2, 3, 10, 12, 13, 14, 69, 70, 71], .cmp]
def walk_Way_N4 : List NS := [.own 20 (.int .i64), .keep [1, 2, 3, 10, 20, 21], .cmp]
def walk_Way_N5 : List NS := [.own 20 (.int .i64), .wk 136 (.list (.int .i64)), .keep [1, 2, 3, 10, 20, 21, 22, 136, 137, 138], .cmp]
def walk_Way_C1 : TC := (.rg [⟨⟨some 15, (.mov (.t 76)), none⟩, {}⟩] none)
def walk_Way_C33 : TC := (.cond (.t 81) (.rg [⟨⟨some 82, (.mov (.t 17)), none⟩, {}⟩, ⟨⟨some 83, (.mov (.t 16)), none⟩, {}⟩, ⟨⟨some 16, (.mov (.t 82)), none⟩, {}⟩, ⟨⟨some 17, (.mov (.t 83)), none⟩, {}⟩] none) .skip)
def walk_Way_C61 : TC := (.cond (.t 97) (.exit 7) .skip)
def walk_Way_C68 : TC := (.cond (.t 117) (.rg [⟨⟨some 118, (.load false 1 (.t 10)), none⟩, {}⟩, ⟨⟨some 119, (.mov (.t 16)), none⟩, {}⟩, ⟨⟨some 120, (.load true 2 (.t 19)), none⟩, {}⟩, ⟨⟨some 121, (.iadrS 2 (.t 118) (.t 119)), none⟩, {}⟩, ⟨⟨none, (.store 2 (.t 121) (.t 120)), none⟩, {}⟩, ⟨⟨none, (.store 1 (.t 12) (.c (B
  true))), none⟩, {}⟩] none) .skip)
def walk_Way_C65 : TC := (.seq (.rg [⟨⟨some 112, (.load true 2 (.t 19)), none⟩, {}⟩, ⟨⟨some 113, (.load false 1 (.t 10)), none⟩, {}⟩, ⟨⟨some 114, (.mov (.t 16)), none⟩, {}⟩, ⟨⟨some 115, (.iadrS 2 (.t 113) (.t 114)), none⟩, {}⟩, ⟨⟨some 116, (.load true 2 (.t 115)), none⟩, {}⟩, ⟨⟨some 117, (.call (.c (.fn 36 [])) [(.t 112),
  (.t 116)]), none⟩, {}⟩] (some [])) walk_Way_C68)
def walk_Way_C62 : TC := (.seq (.pre [.wait] (.rg [⟨⟨some 98, (.load false 1 (.t 10)), none⟩, {}⟩, ⟨⟨some 99, (.mov (.t 17)), none⟩, {}⟩, ⟨⟨some 100, (.iadrS 2 (.t 98) (.t 99)), none⟩, {}⟩, ⟨⟨some 101, (.fadr 0 (.t 100)), none⟩, {}⟩, ⟨⟨some 102, (.load false 1 (.t 101)), none⟩, {}⟩, ⟨⟨some 103, (.mov (.t 18)), none⟩, {}⟩,
  ⟨⟨some 104, (.bin .add (.t 102) (.t 103)), none⟩, {}⟩, ⟨⟨some 105, (.load false 1 (.t 10)), none⟩, {}⟩, ⟨⟨some 106, (.mov (.t 17)), none⟩, {}⟩, ⟨⟨some 107, (.iadrS 2 (.t 105) (.t 106)), none⟩, {}⟩, ⟨⟨some 108, (.fadr 1 (.t 107)), none⟩, {}⟩, ⟨⟨some 109, (.load false 1 (.t 108)), none⟩, {}⟩, ⟨⟨some
  110, (.bin .add (.t 109) (.c (I 1))), none⟩, {}⟩, ⟨⟨some 111, (.build [(I 0), (I 0)] [(0, (1, (.t 104))), (1, (1, (.t 110)))]), none⟩, {}⟩, ⟨⟨some 19, (.alloc [(I 0), (I 0)]), none⟩, ⟨.unit, some 6⟩⟩, ⟨⟨none, (.store 2 (.t 19) (.t 111)), none⟩, {}⟩] (some [(0, 14), (2, 14), (3, 14), (4, 14), (7,
  14), (9, 14), (10, 14), (11, 14)]))) walk_Way_C65)
def walk_Way_C47 : TC := (.seq (.seq (.rg [⟨⟨some 88, (.mov (.t 18)), none⟩, {}⟩, ⟨⟨some 89, (.bin .lss (.t 88) (.c (I 0))), none⟩, {}⟩, ⟨⟨some 90, (.mov (.t 89)), none⟩, {}⟩, ⟨⟨some 91, (.load false 1 (.t 10)), some (90, false)⟩, {}⟩, ⟨⟨some 92, (.mov (.t 17)), some (90, false)⟩, {}⟩, ⟨⟨some 93, (.iadrS 2 (.t 91) (.t 92)),
  some (90, false)⟩, {}⟩, ⟨⟨some 94, (.fadr 0 (.t 93)), some (90, false)⟩, {}⟩, ⟨⟨some 95, (.load false 1 (.t 94)), some (90, false)⟩, {}⟩, ⟨⟨some 96, (.bin .geq (.t 95) (.c (I 1099511627776))), some (90, false)⟩, {}⟩, ⟨⟨some 97, (.pick (.t 90) (.c (B true)) (.t 96)), none⟩, {}⟩] none) walk_Way_C61)
  walk_Way_C62)
def walk_Way_C34 : TC := (.seq (.rg [⟨⟨some 84, (.load true 2 (.t 3)), none⟩, {}⟩, ⟨⟨some 85, (.load false 1 (.t 13)), none⟩, {}⟩, ⟨⟨some 86, (.mov (.t 15)), none⟩, {}⟩, ⟨⟨some 87, (.call (.c (.fn 31 [])) [(.t 84), (.t 85), (.t 86)]), none⟩, {}⟩, ⟨⟨some 18, (.mov (.t 87)), none⟩, {}⟩] none) walk_Way_C47)
def walk_Way_C16 : TC := (.seq (.seq (.rg [⟨⟨some 81, (.mov (.t 15)), none⟩, {}⟩] none) walk_Way_C33) walk_Way_C34)
def walk_Way_C2 : TC := (.block 7 (.seq (.rg [⟨⟨some 77, (.fadr 0 (.t 14)), none⟩, {}⟩, ⟨⟨some 78, (.load false 1 (.t 77)), none⟩, {}⟩, ⟨⟨some 79, (.fadr 1 (.t 14)), none⟩, {}⟩, ⟨⟨some 80, (.load false 1 (.t 79)), none⟩, {}⟩, ⟨⟨some 16, (.mov (.t 78)), none⟩, {}⟩, ⟨⟨some 17, (.mov (.t 80)), none⟩, {}⟩] (some []))
  walk_Way_C16))
def walk_Way_C3 : TC := (.rg [⟨⟨some 122, (.bin .add (.t 71) (.c (I 1))), none⟩, {}⟩, ⟨⟨some 71, (.mov (.t 122)), none⟩, {}⟩] none)
def walk_Way_C48 : TC := (.block 6 (.rngf (.c (.fn 35 [])) 76 35 walk_Way_NG1 walk_Way_C1 walk_Way_C2))
def walk_Way_C35 : TC := (.seq (.block 5 (.seq (.rg [⟨⟨some 73, (.mov (.t 71)), none⟩, {}⟩, ⟨⟨some 74, (.iadrS 10 (.t 69) (.t 71)), none⟩, {}⟩, ⟨⟨some 75, (.load true 10 (.t 74)), none⟩, {}⟩, ⟨⟨some 13, (.alloc [(I 0)]), none⟩, {}⟩, ⟨⟨some 14, (.alloc [(I 0), (I 0), (I 0), (I 0), (B false), (B false), (I 0), (I 0), (I 0), (I
  0)]), none⟩, {}⟩, ⟨⟨none, (.store 1 (.t 13) (.t 73)), none⟩, {}⟩, ⟨⟨none, (.store 10 (.t 14) (.t 75)), none⟩, {}⟩] none) walk_Way_C48)) walk_Way_C3)
def walk_Way_C17 : TC := (.seq (.cond (.t 72) .skip (.exit 4)) walk_Way_C35)
def walk_Way_C4 : TC := (.seq (.rg [⟨⟨some 72, (.bin .lss (.t 71) (.t 70)), none⟩, {}⟩] none) walk_Way_C17)
def walk_Way_C18 : TC := (.rg [⟨⟨some 12, (.alloc [(B false)]), none⟩, {}⟩, ⟨⟨none, (.store 1 (.t 12) (.t 123)), none⟩, {}⟩] none)
def walk_Way_C5 : TC := (.seq (.rg [⟨⟨some 123, (.load false 1 (.t 12)), none⟩, {}⟩] none) walk_Way_C18)
def walk_Way_C19 : TC := (.cond (.t 67) .skip (.exit 2))
def walk_Way_C49 : TC := (.block 4 (.loop walk_Way_N3 walk_Way_C4))
def walk_Way_C36 : TC := (.seq (.rg [⟨⟨some 68, (.fadr 1 (.t 3)), none⟩, {}⟩, ⟨⟨some 69, (.load false 1 (.t 68)), none⟩, {}⟩, ⟨⟨some 70, (.len (.t 69)), none⟩, {}⟩, ⟨⟨some 71, (.mov (.c (I 0))), none⟩, {}⟩] none) walk_Way_C49)
def walk_Way_C20 : TC := (.seq (.block 3 (.seq (.rg [⟨⟨none, (.store 1 (.t 12) (.c (B false))), none⟩, {}⟩] none) walk_Way_C36)) walk_Way_C5)
def walk_Way_C6 : TC := (.seq (.seq (.rg [⟨⟨some 67, (.load false 1 (.t 12)), none⟩, {}⟩] none) walk_Way_C19) walk_Way_C20)
def walk_Way_C50 : TC := .ret
def walk_Way_C37 : TC := (.pre [.frz 6] walk_Way_C50)
def walk_Way_C21 : TC := (.cond (.t 129) (.seq (.rg [⟨⟨some 6, (.mov (.c (.lst true []))), none⟩, {}⟩, ⟨⟨some 7, (.mov (.c (I 0))), none⟩, {}⟩, ⟨⟨some 8, (.mov (.c (B false))), none⟩, {}⟩] none) walk_Way_C37) .skip)
def walk_Way_C26 : TC := (.cond (.t 133) .skip (.exit 8))
def walk_Way_C70 : TC := (.exit 10)
def walk_Way_C69 : TC := (.cond (.t 187) (.seq (.rg [⟨⟨some 188, (.mov (.t 20)), none⟩, {}⟩, ⟨⟨some 189, (.mov (.t 24)), none⟩, {}⟩, ⟨⟨some 190, (.bslice false 1 [(I 0)] 1 [(0, (.t 189))]), none⟩, ⟨(.int .i64), none⟩⟩, ⟨⟨some 191, (.app 1 8 (.t 188) (.t 190)), none⟩, {}⟩, ⟨⟨some 192, (.mov (.t 25)), none⟩, {}⟩, ⟨⟨some 20,
  (.mov (.t 191)), none⟩, {}⟩, ⟨⟨some 22, (.mov (.t 192)), none⟩, {}⟩] none) walk_Way_C70) .skip)
def walk_Way_C66 : TC := (.seq (.rg [⟨⟨some 157, (.mov (.t 26)), none⟩, {}⟩, ⟨⟨some 158, (.bin .geq (.t 157) (.c (I 0))), none⟩, {}⟩, ⟨⟨some 159, (.mov (.t 158)), none⟩, {}⟩, ⟨⟨some 160, (.load false 1 (.t 10)), some (159, true)⟩, {}⟩, ⟨⟨some 161, (.mov (.t 25)), some (159, true)⟩, {}⟩, ⟨⟨some 162, (.iadrS 2 (.t 160) (.t
  161)), some (159, true)⟩, {}⟩, ⟨⟨some 163, (.fadr 0 (.t 162)), some (159, true)⟩, {}⟩, ⟨⟨some 164, (.load false 1 (.t 163)), some (159, true)⟩, {}⟩, ⟨⟨some 165, (.bin .lss (.t 164) (.c (I 1099511627776))), some (159, true)⟩, {}⟩, ⟨⟨some 166, (.pick (.t 159) (.t 165) (.c (B false))), none⟩, {}⟩,
  ⟨⟨some 167, (.mov (.t 166)), none⟩, {}⟩, ⟨⟨some 168, (.load false 1 (.t 10)), some (167, true)⟩, {}⟩, ⟨⟨some 169, (.mov (.t 21)), some (167, true)⟩, {}⟩, ⟨⟨some 170, (.iadrS 2 (.t 168) (.t 169)), some (167, true)⟩, {}⟩, ⟨⟨some 171, (.load true 2 (.t 170)), some (167, true)⟩, {}⟩, ⟨⟨some 172, (.load
  false 1 (.t 10)), some (167, true)⟩, {}⟩, ⟨⟨some 173, (.mov (.t 25)), some (167, true)⟩, {}⟩, ⟨⟨some 174, (.iadrS 2 (.t 172) (.t 173)), some (167, true)⟩, {}⟩, ⟨⟨some 175, (.fadr 0 (.t 174)), some (167, true)⟩, {}⟩, ⟨⟨some 176, (.load false 1 (.t 175)), some (167, true)⟩, {}⟩, ⟨⟨some 177, (.mov (.t
  26)), some (167, true)⟩, {}⟩, ⟨⟨some 178, (.bin .add (.t 176) (.t 177)), some (167, true)⟩, {}⟩, ⟨⟨some 179, (.load false 1 (.t 10)), some (167, true)⟩, {}⟩, ⟨⟨some 180, (.mov (.t 25)), some (167, true)⟩, {}⟩, ⟨⟨some 181, (.iadrS 2 (.t 179) (.t 180)), some (167, true)⟩, {}⟩, ⟨⟨some 182, (.fadr 1
  (.t 181)), some (167, true)⟩, {}⟩, ⟨⟨some 183, (.load false 1 (.t 182)), some (167, true)⟩, {}⟩, ⟨⟨some 184, (.bin .add (.t 183) (.c (I 1))), some (167, true)⟩, {}⟩, ⟨⟨some 185, (.build [(I 0), (I 0)] [(0, (1, (.t 178))), (1, (1, (.t 184)))]), some (167, true)⟩, {}⟩, ⟨⟨some 186, (.eqa false [(0,
  1), (1, 1)] (.t 171) (.t 185)), some (167, true)⟩, {}⟩, ⟨⟨some 187, (.pick (.t 167) (.t 186) (.c (B false))), none⟩, {}⟩] (some [])) walk_Way_C69)
def walk_Way_C63 : TC := (.seq (.rg [⟨⟨some 146, (.load true 2 (.t 3)), none⟩, {}⟩, ⟨⟨some 147, (.mov (.t 24)), none⟩, {}⟩, ⟨⟨some 148, (.fadr 1 (.t 3)), none⟩, {}⟩, ⟨⟨some 149, (.load false 1 (.t 148)), none⟩, {}⟩, ⟨⟨some 150, (.mov (.t 24)), none⟩, {}⟩, ⟨⟨some 151, (.iadrS 10 (.t 149) (.t 150)), none⟩, {}⟩, ⟨⟨some 152,
  (.fadr 0 (.t 151)), none⟩, {}⟩, ⟨⟨some 153, (.load false 1 (.t 152)), none⟩, {}⟩, ⟨⟨some 154, (.mov (.t 21)), none⟩, {}⟩, ⟨⟨some 155, (.bin .neq (.t 153) (.t 154)), none⟩, {}⟩, ⟨⟨some 156, (.call (.c (.fn 31 [])) [(.t 146), (.t 147), (.t 155)]), none⟩, {}⟩, ⟨⟨some 26, (.mov (.t 156)), none⟩, {}⟩]
  (some [])) walk_Way_C66)
def walk_Way_C52 : TC := (.seq (.rg [⟨⟨some 142, (.load true 2 (.t 3)), none⟩, {}⟩, ⟨⟨some 143, (.mov (.t 24)), none⟩, {}⟩, ⟨⟨some 144, (.mov (.t 21)), none⟩, {}⟩, ⟨⟨some 145, (.call (.c (.fn 38 [])) [(.t 142), (.t 143), (.t 144)]), none⟩, {}⟩, ⟨⟨some 25, (.mov (.t 145)), none⟩, {}⟩] none) walk_Way_C63)
def walk_Way_C53 : TC := (.rg [⟨⟨some 193, (.bin .add (.t 138) (.c (I 1))), none⟩, {}⟩, ⟨⟨some 138, (.mov (.t 193)), none⟩, {}⟩] none)
def walk_Way_C39 : TC := (.seq (.block 11 (.seq (.rg [⟨⟨some 140, (.iadrS 1 (.t 136) (.t 138)), none⟩, {}⟩, ⟨⟨some 141, (.load false 1 (.t 140)), none⟩, {}⟩, ⟨⟨some 24, (.mov (.t 141)), none⟩, {}⟩] none) walk_Way_C52)) walk_Way_C53)
def walk_Way_C23 : TC := (.seq (.cond (.t 139) .skip (.exit 10)) walk_Way_C39)
def walk_Way_C8 : TC := (.seq (.rg [⟨⟨some 139, (.bin .lss (.t 138) (.t 137)), none⟩, {}⟩] none) walk_Way_C23)
def walk_Way_C55 : TC := (.block 10 (.loop walk_Way_N5 walk_Way_C8))
def walk_Way_C54 : TC := .ret
def walk_Way_C40 : TC := (.pre [.frz 6] walk_Way_C54)
def walk_Way_C24 : TC := (.cond (.t 195) (.seq (.rg [⟨⟨some 6, (.mov (.c (.lst true []))), none⟩, {}⟩, ⟨⟨some 7, (.mov (.c (I 0))), none⟩, {}⟩, ⟨⟨some 8, (.mov (.c (B false))), none⟩, {}⟩] none) walk_Way_C40) .skip)
def walk_Way_C25 : TC := (.rg [⟨⟨some 196, (.mov (.t 22)), none⟩, {}⟩, ⟨⟨some 21, (.mov (.t 196)), none⟩, {}⟩] none)
def walk_Way_C9 : TC := (.seq (.seq (.rg [⟨⟨some 194, (.mov (.t 22)), none⟩, {}⟩, ⟨⟨some 195, (.bin .lss (.t 194) (.c (I 0))), none⟩, {}⟩] none) walk_Way_C24) walk_Way_C25)
def walk_Way_C41 : TC := (.seq (.seq (.rg [⟨⟨some 134, (.load true 2 (.t 3)), none⟩, {}⟩, ⟨⟨some 135, (.mov (.t 21)), none⟩, {}⟩, ⟨⟨some 136, (.call (.c (.fn 37 [])) [(.t 134), (.t 135)]), none⟩, {}⟩, ⟨⟨some 137, (.len (.t 136)), none⟩, {}⟩, ⟨⟨some 138, (.mov (.c (I 0))), none⟩, {}⟩] none) walk_Way_C55) walk_Way_C9)
def walk_Way_C27 : TC := (.block 9 (.seq (.rg [⟨⟨some 22, (.mov (.c (I (-1)))), none⟩, {}⟩] none) walk_Way_C41))
def walk_Way_C10 : TC := (.seq (.seq (.rg [⟨⟨some 131, (.mov (.t 21)), none⟩, {}⟩, ⟨⟨some 132, (.mov (.t 2)), none⟩, {}⟩, ⟨⟨some 133, (.bin .neq (.t 131) (.t 132)), none⟩, {}⟩] none) walk_Way_C26) walk_Way_C27)
def walk_Way_C51 : TC := (.block 8 (.loop walk_Way_N4 walk_Way_C10))
def walk_Way_C56 : TC := .ret
def walk_Way_C42 : TC := (.pre [.frz 6] walk_Way_C56)
def walk_Way_C28 : TC := (.seq (.rg [⟨⟨some 197, (.mov (.t 20)), none⟩, {}⟩, ⟨⟨some 198, (.load false 1 (.t 10)), none⟩, {}⟩, ⟨⟨some 199, (.mov (.t 1)), none⟩, {}⟩, ⟨⟨some 200, (.iadrS 2 (.t 198) (.t 199)), none⟩, {}⟩, ⟨⟨some 201, (.fadr 0 (.t 200)), none⟩, {}⟩, ⟨⟨some 202, (.load false 1 (.t 201)), none⟩, {}⟩, ⟨⟨some 6,
  (.mov (.t 197)), none⟩, {}⟩, ⟨⟨some 7, (.mov (.t 202)), none⟩, {}⟩, ⟨⟨some 8, (.mov (.c (B true))), none⟩, {}⟩] (some [])) walk_Way_C42)
def walk_Way_C11 : TC := (.pre [.frz 20] walk_Way_C28)
def walk_Way_C38 : TC := (.seq (.seq (.rg [⟨⟨some 130, (.mov (.t 1)), none⟩, {}⟩, ⟨⟨some 21, (.mov (.t 130)), none⟩, {}⟩] none) walk_Way_C51) walk_Way_C11)
def walk_Way_C22 : TC := (.seq (.rg [⟨⟨some 20, (.mov (.c (.lst true []))), none⟩, {}⟩] none) walk_Way_C38)
def walk_Way_C7 : TC := (.seq (.seq (.rg [⟨⟨some 124, (.load false 1 (.t 10)), none⟩, {}⟩, ⟨⟨some 125, (.mov (.t 1)), none⟩, {}⟩, ⟨⟨some 126, (.iadrS 2 (.t 124) (.t 125)), none⟩, {}⟩, ⟨⟨some 127, (.fadr 0 (.t 126)), none⟩, {}⟩, ⟨⟨some 128, (.load false 1 (.t 127)), none⟩, {}⟩, ⟨⟨some 129, (.bin .geq (.t 128) (.c (I
  1099511627776))), none⟩, {}⟩] none) walk_Way_C21) walk_Way_C22)
def walk_Way_C57 : TC := (.rg [⟨⟨some 58, (.load false 1 (.t 10)), none⟩, {}⟩, ⟨⟨some 59, (.mov (.t 11)), none⟩, {}⟩, ⟨⟨some 60, (.build [(I 0), (I 0)] [(0, (1, (.c (I 1099511627776))))]), none⟩, {}⟩, ⟨⟨some 61, (.iadrS 2 (.t 58) (.t 59)), none⟩, {}⟩, ⟨⟨none, (.store 2 (.t 61) (.t 60)), none⟩, {}⟩] none)
def walk_Way_C58 : TC := (.rg [⟨⟨some 62, (.bin .add (.t 55) (.c (I 1))), none⟩, {}⟩, ⟨⟨some 55, (.mov (.t 62)), none⟩, {}⟩] none)
def walk_Way_C43 : TC := (.seq (.block 1 (.seq (.rg [⟨⟨some 57, (.mov (.t 55)), none⟩, {}⟩, ⟨⟨some 11, (.mov (.t 57)), none⟩, {}⟩] none) walk_Way_C57)) walk_Way_C58)
def walk_Way_C29 : TC := (.seq (.cond (.t 56) .skip (.exit 0)) walk_Way_C43)
def walk_Way_C12 : TC := (.seq (.rg [⟨⟨some 56, (.bin .lss (.t 55) (.t 54)), none⟩, {}⟩] none) walk_Way_C29)
def walk_Way_C44 : TC := (.block 2 (.loop walk_Way_N2 walk_Way_C6))
def walk_Way_C30 : TC := (.seq (.seq (.rg [⟨⟨some 12, (.alloc [(B false)]), none⟩, {}⟩, ⟨⟨none, (.store 1 (.t 12) (.c (B true))), none⟩, {}⟩] none) walk_Way_C44) walk_Way_C7)
def walk_Way_C13 : TC := (.seq (.rg [⟨⟨some 63, (.load false 1 (.t 10)), none⟩, {}⟩, ⟨⟨some 64, (.mov (.t 2)), none⟩, {}⟩, ⟨⟨some 65, (.build [(I 0), (I 0)] []), none⟩, {}⟩, ⟨⟨some 66, (.iadrS 2 (.t 63) (.t 64)), none⟩, {}⟩, ⟨⟨none, (.store 2 (.t 66) (.t 65)), none⟩, {}⟩] none) walk_Way_C30)
def walk_Way_C45 : TC := (.block 0 (.loop walk_Way_N1 walk_Way_C12))
def walk_Way_C31 : TC := (.seq (.seq (.rg [⟨⟨some 53, (.load false 1 (.t 10)), none⟩, {}⟩, ⟨⟨some 54, (.len (.t 53)), none⟩, {}⟩, ⟨⟨some 55, (.mov (.c (I 0))), none⟩, {}⟩] none) walk_Way_C45) walk_Way_C13)
def walk_Way_C14 : TC := (.seq (.rg [⟨⟨some 51, (.mov (.t 9)), none⟩, {}⟩, ⟨⟨some 52, (.mksl 2 16 [(I 0), (I 0)] (.t 51) (.t 51)), none⟩, ⟨G_Span, none⟩⟩, ⟨⟨some 10, (.alloc [(.lst true [])]), none⟩, {}⟩, ⟨⟨none, (.store 1 (.t 10) (.t 52)), none⟩, {}⟩] none) walk_Way_C31)
def walk_Way_C67 : TC := .ret
def walk_Way_C64 : TC := (.pre [.frz 6] walk_Way_C67)
def walk_Way_C59 : TC := (.cond (.t 50) (.seq (.rg [⟨⟨some 6, (.mov (.c (.lst true []))), none⟩, {}⟩, ⟨⟨some 7, (.mov (.c (I 0))), none⟩, {}⟩, ⟨⟨some 8, (.mov (.c (B false))), none⟩, {}⟩] none) walk_Way_C64) .skip)
def walk_Way_C60 : TC := (.join [.keep [1, 2, 3, 9], .cmp] walk_Way_C14)
def walk_Way_C46 : TC := (.seq (.seq (.rg [⟨⟨some 30, (.load true 2 (.t 3)), none⟩, {}⟩, ⟨⟨some 31, (.call (.c (.fn 30 [])) [(.t 30)]), none⟩, {}⟩, ⟨⟨some 32, (.un .not (.t 31)), none⟩, {}⟩, ⟨⟨some 33, (.mov (.t 32)), none⟩, {}⟩, ⟨⟨some 34, (.mov (.t 1)), some (33, false)⟩, {}⟩, ⟨⟨some 35, (.bin .lss (.t 34) (.c (I 0))),
  some (33, false)⟩, {}⟩, ⟨⟨some 36, (.pick (.t 33) (.c (B true)) (.t 35)), none⟩, {}⟩, ⟨⟨some 37, (.mov (.t 36)), none⟩, {}⟩, ⟨⟨some 38, (.mov (.t 1)), some (37, false)⟩, {}⟩, ⟨⟨some 39, (.mov (.t 9)), some (37, false)⟩, {}⟩, ⟨⟨some 40, (.bin .geq (.t 38) (.t 39)), some (37, false)⟩, {}⟩, ⟨⟨some 41,
  (.pick (.t 37) (.c (B true)) (.t 40)), none⟩, {}⟩, ⟨⟨some 42, (.mov (.t 41)), none⟩, {}⟩, ⟨⟨some 43, (.mov (.t 2)), some (42, false)⟩, {}⟩, ⟨⟨some 44, (.bin .lss (.t 43) (.c (I 0))), some (42, false)⟩, {}⟩, ⟨⟨some 45, (.pick (.t 42) (.c (B true)) (.t 44)), none⟩, {}⟩, ⟨⟨some 46, (.mov (.t 45)),
  none⟩, {}⟩, ⟨⟨some 47, (.mov (.t 2)), some (46, false)⟩, {}⟩, ⟨⟨some 48, (.mov (.t 9)), some (46, false)⟩, {}⟩, ⟨⟨some 49, (.bin .geq (.t 47) (.t 48)), some (46, false)⟩, {}⟩, ⟨⟨some 50, (.pick (.t 46) (.c (B true)) (.t 49)), none⟩, {}⟩] none) walk_Way_C59) walk_Way_C60)
def walk_Way_C32 : TC := (.seq (.rg [⟨⟨some 27, (.fadr 0 (.t 3)), none⟩, {}⟩, ⟨⟨some 28, (.load false 1 (.t 27)), none⟩, {}⟩, ⟨⟨some 29, (.len (.t 28)), none⟩, {}⟩, ⟨⟨some 9, (.mov (.t 29)), none⟩, {}⟩] none) walk_Way_C46)
def walk_Way_C15 : TC := (.seq (.rg [⟨⟨some 3, (.box (.t 0)), none⟩, {}⟩, ⟨⟨some 6, (.mov (.c (.lst true []))), none⟩, {}⟩, ⟨⟨some 7, (.mov (.c (I 0))), none⟩, {}⟩, ⟨⟨some 8, (.mov (.c (B false))), none⟩, {}⟩] none) walk_Way_C32)
def walk_Way_E (N : Nat) : List (Nat × Ent) := [(30, pureE [G_Mine] [.bool] (fun x => plan_Valid N x)), (31, pureE [G_Mine, (.int .i64), .bool] [(.int .i64)] (fun x => walk_step N x.1 x.2.1 x.2.2)), (36, pureE [G_Span, G_Span] [.bool] (fun x => walk_cost_less N x.1 x.2)), (37, pureE [G_Mine, (.int .i64)] [(.list (.int .i64))] (fun x => plan_Roads N x.1 x.2)), (38, pureE [G_Mine, (.int .i64), (.int .i64)] [(.int .i64)] (fun x => plan_Other N x.1 x.2.1 x.2.2))]
def walk_Way_G1_2 (N n3 n2 : Nat) (x62 : Int) (x63 : Int) (x64 : List T_Road) (x65 : Int) (x66 : Int) (x67 : List T_Place) (x68 : List T_Road) (x69 : Bool) (x70 : Int) (x71 : Int) (x72 : Int) (x73 : Int) (x74 : Int) (x75 : Bool) (x76 : Bool) (x77 : Int) (x78 : Int) (x79 : Int) (x80 : Int) (x81 : List T_Span) : Option ((List Int) × Int × Bool) := joinN (rngN (run (walk_Way_E N) N 0 walk_Way_C1) (run (walk_Way_E N) N 0 walk_Way_C2) (normI 0 walk_Way_NG1) N 76 (76 :: (walk_Way_C1.er.dsts ++ walk_Way_C2.er.dsts)) []) N ⟨[(1, .int .i64 x62), (2, .int .i64 x63), (3, .ptr 0 0 0), (10, .ptr 1 0 0), (12, .ptr 2 0 0), (13, .ptr 3 0 0), (14, .ptr 4 0 0), (69, .lst false G_Road x64), (70, .int .i64 x65), (71, .int .i64 x66)], [some (.box 0 [.lst false G_Place x67, .lst false G_Road x68]), some (.box 0 [.whole 5]), some (.box 0 [.bool x69]), some (.box 0 [.int .i64 x70]), some (.box 0 [.int .i64 x71, .int .i64 x72, .int .i64 x73, .int .i64 x74, .bool x75, .bool x76, .int .i64 x77, .int .i64 x78, .int .i64 x79, .int .i64 x80]), some (.arr G_Span x81)]⟩ (blkK 6 (blkK 5 (seqK (run (walk_Way_E N) N 0 walk_Way_C3) (seqK (nextL (normI 0 walk_Way_N3) (loopN (normI 0 walk_Way_N3) (run (walk_Way_E N) N 0 walk_Way_C4) n3)) (blkK 4 (blkK 3 (seqK (run (walk_Way_E N) N 0 walk_Way_C5) (seqK (nextL (normI 0 walk_Way_N2) (loopN (normI 0 walk_Way_N2) (run (walk_Way_E N) N 0 walk_Way_C6) n2)) (blkK 2 (seqK (run (walk_Way_E N) N 0 walk_Way_C7) (fin [(.t 6), (.t 7), (.t 8)] [(.list (.int .i64)), (.int .i64), .bool])))))))))))
def walk_Way_G1_1 (N n3 n2 : Nat) (x41 : Int) (x42 : Int) (x43 : List T_Road) (x44 : Int) (x45 : Int) (x46 : List T_Place) (x47 : List T_Road) (x48 : Bool) (x49 : Int) (x50 : Int) (x51 : Int) (x52 : Int) (x53 : Int) (x54 : Bool) (x55 : Bool) (x56 : Int) (x57 : Int) (x58 : Int) (x59 : Int) (x60 : List T_Span) : Option ((List Int) × Int × Bool) := joinN (rngN (run (walk_Way_E N) N 0 walk_Way_C1) (run (walk_Way_E N) N 0 walk_Way_C2) (normI 0 walk_Way_NG1) N 76 (76 :: (walk_Way_C1.er.dsts ++ walk_Way_C2.er.dsts)) [true]) N ⟨[(1, .int .i64 x41), (2, .int .i64 x42), (3, .ptr 0 0 0), (10, .ptr 1 0 0), (12, .ptr 2 0 0), (13, .ptr 3 0 0), (14, .ptr 4 0 0), (69, .lst false G_Road x43), (70, .int .i64 x44), (71, .int .i64 x45)], [some (.box 0 [.lst false G_Place x46, .lst false G_Road x47]), some (.box 0 [.whole 5]), some (.box 0 [.bool x48]), some (.box 0 [.int .i64 x49]), some (.box 0 [.int .i64 x50, .int .i64 x51, .int .i64 x52, .int .i64 x53, .bool x54, .bool x55, .int .i64 x56, .int .i64 x57, .int .i64 x58, .int .i64 x59]), some (.arr G_Span x60)]⟩ (blkK 6 (blkK 5 (seqK (run (walk_Way_E N) N 0 walk_Way_C3) (seqK (nextL (normI 0 walk_Way_N3) (loopN (normI 0 walk_Way_N3) (run (walk_Way_E N) N 0 walk_Way_C4) n3)) (blkK 4 (blkK 3 (seqK (run (walk_Way_E N) N 0 walk_Way_C5) (seqK (nextL (normI 0 walk_Way_N2) (loopN (normI 0 walk_Way_N2) (run (walk_Way_E N) N 0 walk_Way_C6) n2)) (blkK 2 (seqK (run (walk_Way_E N) N 0 walk_Way_C7) (fin [(.t 6), (.t 7), (.t 8)] [(.list (.int .i64)), (.int .i64), .bool])))))))))))
def walk_Way_L3 (N n2 : Nat) (n : Nat) (x30 : Int) (x31 : Int) (x32 : List T_Road) (x33 : Int) (x34 : Int) (x35 : List T_Place) (x36 : List T_Road) (x37 : Bool) (x38 : List T_Span) : Option ((List Int) × Int × Bool) := loopN (normI 0 walk_Way_N3) (run (walk_Way_E N) N 0 walk_Way_C4) n ⟨[(1, .int .i64 x30), (2, .int .i64 x31), (3, .ptr 0 0 0), (10, .ptr 1 0 0), (12, .ptr 2 0 0), (69, .lst false G_Road x32), (70, .int .i64 x33), (71, .int .i64 x34)], [some (.box 0 [.lst false G_Place x35, .lst false G_Road x36]), some (.box 0 [.whole 3]), some (.box 0 [.bool x37]), some (.arr G_Span x38)]⟩ (blkK 4 (blkK 3 (seqK (run (walk_Way_E N) N 0 walk_Way_C5) (seqK (nextL (normI 0 walk_Way_N2) (loopN (normI 0 walk_Way_N2) (run (walk_Way_E N) N 0 walk_Way_C6) n2)) (blkK 2 (seqK (run (walk_Way_E N) N 0 walk_Way_C7) (fin [(.t 6), (.t 7), (.t 8)] [(.list (.int .i64)), (.int .i64), .bool])))))))
def walk_Way_L5 (N n4 : Nat) (n : Nat) (x287 : Int) (x288 : Int) (x289 : Int) (x290 : Int) (x291 : List Int) (x292 : Int) (x293 : Int) (x294 : List T_Place) (x295 : List T_Road) (x296 : List Int) (x297 : List T_Span) : Option ((List Int) × Int × Bool) := loopN (normI 0 walk_Way_N5) (run (walk_Way_E N) N 0 walk_Way_C8) n ⟨[(1, .int .i64 x287), (2, .int .i64 x288), (3, .ptr 0 0 0), (10, .ptr 1 0 0), (20, .whole 2), (21, .int .i64 x289), (22, .int .i64 x290), (136, .lst false (.int .i64) x291), (137, .int .i64 x292), (138, .int .i64 x293)], [some (.box 0 [.lst false G_Place x294, .lst false G_Road x295]), some (.box 0 [.whole 3]), some (.arr (.int .i64) x296), some (.arr G_Span x297)]⟩ (blkK 10 (seqK (run (walk_Way_E N) N 0 walk_Way_C9) (blkK 9 (seqK (nextL (normI 0 walk_Way_N4) (loopN (normI 0 walk_Way_N4) (run (walk_Way_E N) N 0 walk_Way_C10) n4)) (blkK 8 (seqK (run (walk_Way_E N) N 0 walk_Way_C11) (fin [(.t 6), (.t 7), (.t 8)] [(.list (.int .i64)), (.int .i64), .bool])))))))
def walk_Way_L4 (N : Nat) (n : Nat) (x279 : Int) (x280 : Int) (x281 : Int) (x282 : List T_Place) (x283 : List T_Road) (x284 : List Int) (x285 : List T_Span) : Option ((List Int) × Int × Bool) := loopN (normI 0 walk_Way_N4) (run (walk_Way_E N) N 0 walk_Way_C10) n ⟨[(1, .int .i64 x279), (2, .int .i64 x280), (3, .ptr 0 0 0), (10, .ptr 1 0 0), (20, .whole 2), (21, .int .i64 x281)], [some (.box 0 [.lst false G_Place x282, .lst false G_Road x283]), some (.box 0 [.whole 3]), some (.arr (.int .i64) x284), some (.arr G_Span x285)]⟩ (blkK 8 (seqK (run (walk_Way_E N) N 0 walk_Way_C11) (fin [(.t 6), (.t 7), (.t 8)] [(.list (.int .i64)), (.int .i64), .bool])))
def walk_Way_L2 (N : Nat) (n : Nat) (x24 : Int) (x25 : Int) (x26 : List T_Place) (x27 : List T_Road) (x28 : Bool) (x29 : List T_Span) : Option ((List Int) × Int × Bool) := loopN (normI 0 walk_Way_N2) (run (walk_Way_E N) N 0 walk_Way_C6) n ⟨[(1, .int .i64 x24), (2, .int .i64 x25), (3, .ptr 0 0 0), (10, .ptr 1 0 0), (12, .ptr 2 0 0)], [some (.box 0 [.lst false G_Place x26, .lst false G_Road x27]), some (.box 0 [.whole 3]), some (.box 0 [.bool x28]), some (.arr G_Span x29)]⟩ (blkK 2 (seqK (run (walk_Way_E N) N 0 walk_Way_C7) (fin [(.t 6), (.t 7), (.t 8)] [(.list (.int .i64)), (.int .i64), .bool])))
def walk_Way_L1 (N : Nat) (n : Nat) (x8 : Int) (x9 : Int) (x10 : Int) (x11 : Int) (x12 : List T_Place) (x13 : List T_Road) (x14 : List T_Span) : Option ((List Int) × Int × Bool) := loopN (normI 0 walk_Way_N1) (run (walk_Way_E N) N 0 walk_Way_C12) n ⟨[(1, .int .i64 x8), (2, .int .i64 x9), (3, .ptr 0 0 0), (10, .ptr 1 0 0), (54, .int .i64 x10), (55, .int .i64 x11)], [some (.box 0 [.lst false G_Place x12, .lst false G_Road x13]), some (.box 0 [.whole 2]), some (.arr G_Span x14)]⟩ (blkK 0 (seqK (run (walk_Way_E N) N 0 walk_Way_C13) (fin [(.t 6), (.t 7), (.t 8)] [(.list (.int .i64)), (.int .i64), .bool])))
def walk_Way_J1 (N : Nat) (x2 : Int) (x3 : Int) (x4 : Int) (x5 : List T_Place) (x6 : List T_Road) : Option ((List Int) × Int × Bool) := joinN (run (walk_Way_E N) N 0 walk_Way_C14) N ⟨[(1, .int .i64 x2), (2, .int .i64 x3), (3, .ptr 0 0 0), (9, .int .i64 x4)], [some (.box 0 [.lst false G_Place x5, .lst false G_Road x6])]⟩ (fin [(.t 6), (.t 7), (.t 8)] [(.list (.int .i64)), (.int .i64), .bool])
theorem walk_Way_G1_2_eqM (N JM n3 n2 : Nat) (x62 : Int) (x63 : Int) (x64 : List T_Road) (x65 : Int) (x66 : Int) (x67 : List T_Place) (x68 : List T_Road) (x69 : Bool) (x70 : Int) (x71 : Int) (x72 : Int) (x73 : Int) (x74 : Int) (x75 : Bool) (x76 : Bool) (x77 : Int) (x78 : Int) (x79 : Int) (x80 : Int) (x81 : List T_Span) : joinN (rngN (run (walk_Way_E N) N 0 walk_Way_C1) (run (walk_Way_E N) N 0 walk_Way_C2) (normI 0 walk_Way_NG1) N 76 (76 :: (walk_Way_C1.er.dsts ++ walk_Way_C2.er.dsts)) []) (JM + 1) ⟨[(1, .int .i64 x62), (2, .int .i64 x63), (3, .ptr 0 0 0), (10, .ptr 1 0 0), (12, .ptr 2 0 0), (13, .ptr 3 0 0), (14, .ptr 4 0 0), (69, .lst false G_Road x64), (70, .int .i64 x65), (71, .int .i64 x66)], [some (.box 0 [.lst false G_Place x67, .lst false G_Road x68]), some (.box 0 [.whole 5]), some (.box 0 [.bool x69]), some (.box 0 [.int .i64 x70]), some (.box 0 [.int .i64 x71, .int .i64 x72, .int .i64 x73, .int .i64 x74, .bool x75, .bool x76, .int .i64 x77, .int .i64 x78, .int .i64 x79, .int .i64 x80]), some (.arr G_Span x81)]⟩ (blkK 6 (blkK 5 (seqK (run (walk_Way_E N) N 0 walk_Way_C3) (seqK (nextL (normI 0 walk_Way_N3) (loopN (normI 0 walk_Way_N3) (run (walk_Way_E N) N 0 walk_Way_C4) n3)) (blkK 4 (blkK 3 (seqK (run (walk_Way_E N) N 0 walk_Way_C5) (seqK (nextL (normI 0 walk_Way_N2) (loopN (normI 0 walk_Way_N2) (run (walk_Way_E N) N 0 walk_Way_C6) n2)) (blkK 2 (seqK (run (walk_Way_E N) N 0 walk_Way_C7) (fin [(.t 6), (.t 7), (.t 8)] [(.list (.int .i64)), (.int .i64), .bool]))))))))))) =
  walk_Way_L3 N n2 n3 x62 x63 x64 x65 (W (x66 + 1)) x67 x68 x69 x81 := by kernel_rfl
theorem walk_Way_G1_2_eq (N n3 n2 : Nat) (x62 : Int) (x63 : Int) (x64 : List T_Road) (x65 : Int) (x66 : Int) (x67 : List T_Place) (x68 : List T_Road) (x69 : Bool) (x70 : Int) (x71 : Int) (x72 : Int) (x73 : Int) (x74 : Int) (x75 : Bool) (x76 : Bool) (x77 : Int) (x78 : Int) (x79 : Int) (x80 : Int) (x81 : List T_Span) : walk_Way_G1_2 (N + 1) n3 n2 x62 x63 x64 x65 x66 x67 x68 x69 x70 x71 x72 x73 x74 x75 x76 x77 x78 x79 x80 x81 =
  walk_Way_L3 (N + 1) n2 n3 x62 x63 x64 x65 (W (x66 + 1)) x67 x68 x69 x81 := walk_Way_G1_2_eqM (N + 1) N n3 n2 x62 x63 x64 x65 x66 x67 x68 x69 x70 x71 x72 x73 x74 x75 x76 x77 x78 x79 x80 x81
theorem walk_Way_G1_1_eqM (N JM n3 n2 : Nat) (x41 : Int) (x42 : Int) (x43 : List T_Road) (x44 : Int) (x45 : Int) (x46 : List T_Place) (x47 : List T_Road) (x48 : Bool) (x49 : Int) (x50 : Int) (x51 : Int) (x52 : Int) (x53 : Int) (x54 : Bool) (x55 : Bool) (x56 : Int) (x57 : Int) (x58 : Int) (x59 : Int) (x60 : List T_Span) : joinN (rngN (run (walk_Way_E N) N 0 walk_Way_C1) (run (walk_Way_E N) N 0 walk_Way_C2) (normI 0 walk_Way_NG1) N 76 (76 :: (walk_Way_C1.er.dsts ++ walk_Way_C2.er.dsts)) [true]) (JM + 1) ⟨[(1, .int .i64 x41), (2, .int .i64 x42), (3, .ptr 0 0 0), (10, .ptr 1 0 0), (12, .ptr 2 0 0), (13, .ptr 3 0 0), (14, .ptr 4 0 0), (69, .lst false G_Road x43), (70, .int .i64 x44), (71, .int .i64 x45)], [some (.box 0 [.lst false G_Place x46, .lst false G_Road x47]), some (.box 0 [.whole 5]), some (.box 0 [.bool x48]), some (.box 0 [.int .i64 x49]), some (.box 0 [.int .i64 x50, .int .i64 x51, .int .i64 x52, .int .i64 x53, .bool x54, .bool x55, .int .i64 x56, .int .i64 x57, .int .i64 x58, .int .i64 x59]), some (.arr G_Span x60)]⟩ (blkK 6 (blkK 5 (seqK (run (walk_Way_E N) N 0 walk_Way_C3) (seqK (nextL (normI 0 walk_Way_N3) (loopN (normI 0 walk_Way_N3) (run (walk_Way_E N) N 0 walk_Way_C4) n3)) (blkK 4 (blkK 3 (seqK (run (walk_Way_E N) N 0 walk_Way_C5) (seqK (nextL (normI 0 walk_Way_N2) (loopN (normI 0 walk_Way_N2) (run (walk_Way_E N) N 0 walk_Way_C6) n2)) (blkK 2 (seqK (run (walk_Way_E N) N 0 walk_Way_C7) (fin [(.t 6), (.t 7), (.t 8)] [(.list (.int .i64)), (.int .i64), .bool]))))))))))) =
  Option.bind (walk_step N (x46, x47) x49 true) fun r61 =>
  bif (decide (r61 < 0)) then
    walk_Way_G1_2 N n3 n2 x41 x42 x43 x44 x45 x46 x47 x48 x49 x50 x51 x52 x53 x54 x55 x56 x57 x58 x59 x60
  else
    bif inB x50 x60.length then
    bif (decide ((x60.getD x50.toNat D_Span).1 ≥ 1099511627776)) then
      walk_Way_G1_2 N n3 n2 x41 x42 x43 x44 x45 x46 x47 x48 x49 x50 x51 x52 x53 x54 x55 x56 x57 x58 x59 x60
    else
      bif inB x50 x60.length then
      let v132 := x60.getD x50.toNat D_Span
      bif inB x50 x60.length then
      let v133 := x60.getD x50.toNat D_Span
      bif inB x51 x60.length then
      Option.bind (walk_cost_less N (W (v132.1 + r61), W (v133.2 + 1)) (x60.getD x51.toNat D_Span)) fun r135 =>
      bif r135 then
        bif inB x51 x60.length then
        walk_Way_G1_2 N n3 n2 x41 x42 x43 x44 x45 x46 x47 true x49 x50 x51 x52 x53 x54 x55 x56 x57 x58 x59 (x60.set x51.toNat (W (v132.1 + r61), W (v133.2 + 1)))
        else none
      else
        walk_Way_G1_2 N n3 n2 x41 x42 x43 x44 x45 x46 x47 x48 x49 x50 x51 x52 x53 x54 x55 x56 x57 x58 x59 x60
      else none
      else none
      else none
    else none := by kernel_rfl
theorem walk_Way_G1_1_eq (N n3 n2 : Nat) (x41 : Int) (x42 : Int) (x43 : List T_Road) (x44 : Int) (x45 : Int) (x46 : List T_Place) (x47 : List T_Road) (x48 : Bool) (x49 : Int) (x50 : Int) (x51 : Int) (x52 : Int) (x53 : Int) (x54 : Bool) (x55 : Bool) (x56 : Int) (x57 : Int) (x58 : Int) (x59 : Int) (x60 : List T_Span) : walk_Way_G1_1 (N + 1) n3 n2 x41 x42 x43 x44 x45 x46 x47 x48 x49 x50 x51 x52 x53 x54 x55 x56 x57 x58 x59 x60 =
  Option.bind (walk_step (N + 1) (x46, x47) x49 true) fun r61 =>
  bif (decide (r61 < 0)) then
    walk_Way_G1_2 (N + 1) n3 n2 x41 x42 x43 x44 x45 x46 x47 x48 x49 x50 x51 x52 x53 x54 x55 x56 x57 x58 x59 x60
  else
    bif inB x50 x60.length then
    bif (decide ((x60.getD x50.toNat D_Span).1 ≥ 1099511627776)) then
      walk_Way_G1_2 (N + 1) n3 n2 x41 x42 x43 x44 x45 x46 x47 x48 x49 x50 x51 x52 x53 x54 x55 x56 x57 x58 x59 x60
    else
      bif inB x50 x60.length then
      let v132 := x60.getD x50.toNat D_Span
      bif inB x50 x60.length then
      let v133 := x60.getD x50.toNat D_Span
      bif inB x51 x60.length then
      Option.bind (walk_cost_less (N + 1) (W (v132.1 + r61), W (v133.2 + 1)) (x60.getD x51.toNat D_Span)) fun r135 =>
      bif r135 then
        bif inB x51 x60.length then
        walk_Way_G1_2 (N + 1) n3 n2 x41 x42 x43 x44 x45 x46 x47 true x49 x50 x51 x52 x53 x54 x55 x56 x57 x58 x59 (x60.set x51.toNat (W (v132.1 + r61), W (v133.2 + 1)))
        else none
      else
        walk_Way_G1_2 (N + 1) n3 n2 x41 x42 x43 x44 x45 x46 x47 x48 x49 x50 x51 x52 x53 x54 x55 x56 x57 x58 x59 x60
      else none
      else none
      else none
    else none := walk_Way_G1_1_eqM (N + 1) N n3 n2 x41 x42 x43 x44 x45 x46 x47 x48 x49 x50 x51 x52 x53 x54 x55 x56 x57 x58 x59 x60
theorem walk_Way_L3_zero (N n2 : Nat) (x30 : Int) (x31 : Int) (x32 : List T_Road) (x33 : Int) (x34 : Int) (x35 : List T_Place) (x36 : List T_Road) (x37 : Bool) (x38 : List T_Span) : walk_Way_L3 N n2 0 x30 x31 x32 x33 x34 x35 x36 x37 x38 = none := rfl
theorem walk_Way_L3_succ (N n2 : Nat) (n3 : Nat) (x30 : Int) (x31 : Int) (x32 : List T_Road) (x33 : Int) (x34 : Int) (x35 : List T_Place) (x36 : List T_Road) (x37 : Bool) (x38 : List T_Span) : walk_Way_L3 N n2 (n3 + 1) x30 x31 x32 x33 x34 x35 x36 x37 x38 =
  bif (decide (x34 < x33)) then
    bif inB x34 x32.length then
    let v39 := x32.getD x34.toNat D_Road
    Option.bind (walk_step N (x35, x36) x34 false) fun r40 =>
    bif (decide (r40 < 0)) then
      walk_Way_G1_1 N n3 n2 x30 x31 x32 x33 x34 x35 x36 x37 x34 v39.1 v39.2.1 v39.2.2.1 v39.2.2.2.1 v39.2.2.2.2.1 v39.2.2.2.2.2.1 v39.2.2.2.2.2.2.1.1 v39.2.2.2.2.2.2.1.2 v39.2.2.2.2.2.2.2.1 v39.2.2.2.2.2.2.2.2 x38
    else
      bif inB v39.2.1 x38.length then
      bif (decide ((x38.getD v39.2.1.toNat D_Span).1 ≥ 1099511627776)) then
        walk_Way_G1_1 N n3 n2 x30 x31 x32 x33 x34 x35 x36 x37 x34 v39.1 v39.2.1 v39.2.2.1 v39.2.2.2.1 v39.2.2.2.2.1 v39.2.2.2.2.2.1 v39.2.2.2.2.2.2.1.1 v39.2.2.2.2.2.2.1.2 v39.2.2.2.2.2.2.2.1 v39.2.2.2.2.2.2.2.2 x38
      else
        bif inB v39.2.1 x38.length then
        let v218 := x38.getD v39.2.1.toNat D_Span
        bif inB v39.2.1 x38.length then
        let v219 := x38.getD v39.2.1.toNat D_Span
        bif inB v39.1 x38.length then
        Option.bind (walk_cost_less N (W (v218.1 + r40), W (v219.2 + 1)) (x38.getD v39.1.toNat D_Span)) fun r221 =>
        bif r221 then
          bif inB v39.1 x38.length then
          walk_Way_G1_1 N n3 n2 x30 x31 x32 x33 x34 x35 x36 true x34 v39.1 v39.2.1 v39.2.2.1 v39.2.2.2.1 v39.2.2.2.2.1 v39.2.2.2.2.2.1 v39.2.2.2.2.2.2.1.1 v39.2.2.2.2.2.2.1.2 v39.2.2.2.2.2.2.2.1 v39.2.2.2.2.2.2.2.2 (x38.set v39.1.toNat (W (v218.1 + r40), W (v219.2 + 1)))
          else none
        else
          walk_Way_G1_1 N n3 n2 x30 x31 x32 x33 x34 x35 x36 x37 x34 v39.1 v39.2.1 v39.2.2.1 v39.2.2.2.1 v39.2.2.2.2.1 v39.2.2.2.2.2.1 v39.2.2.2.2.2.2.1.1 v39.2.2.2.2.2.2.1.2 v39.2.2.2.2.2.2.2.1 v39.2.2.2.2.2.2.2.2 x38
        else none
        else none
        else none
      else none
    else none
  else
    walk_Way_L2 N n2 x30 x31 x35 x36 x37 x38 := by kernel_rfl
theorem walk_Way_L5_zero (N n4 : Nat) (x287 : Int) (x288 : Int) (x289 : Int) (x290 : Int) (x291 : List Int) (x292 : Int) (x293 : Int) (x294 : List T_Place) (x295 : List T_Road) (x296 : List Int) (x297 : List T_Span) : walk_Way_L5 N n4 0 x287 x288 x289 x290 x291 x292 x293 x294 x295 x296 x297 = none := rfl
theorem walk_Way_L5_succ (N n4 : Nat) (n5 : Nat) (x287 : Int) (x288 : Int) (x289 : Int) (x290 : Int) (x291 : List Int) (x292 : Int) (x293 : Int) (x294 : List T_Place) (x295 : List T_Road) (x296 : List Int) (x297 : List T_Span) : walk_Way_L5 N n4 (n5 + 1) x287 x288 x289 x290 x291 x292 x293 x294 x295 x296 x297 =
  bif (decide (x293 < x292)) then
    bif inB x293 x291.length then
    Option.bind (plan_Other N (x294, x295) (x291.getD x293.toNat 0) x289) fun r298 =>
    bif inB (x291.getD x293.toNat 0) x295.length then
    Option.bind (walk_step N (x294, x295) (x291.getD x293.toNat 0) ((x295.getD (x291.getD x293.toNat 0).toNat D_Road).1 != x289)) fun r300 =>
    bif (decide (r300 ≥ 0)) then
      bif inB r298 x297.length then
      bif (decide ((x297.getD r298.toNat D_Span).1 < 1099511627776)) then
        bif inB x289 x297.length then
        let v302 := x297.getD x289.toNat D_Span
        bif inB r298 x297.length then
        bif inB r298 x297.length then
        bif ((v302.1 == (W ((x297.getD r298.toNat D_Span).1 + r300))) && (v302.2 == (W ((x297.getD r298.toNat D_Span).2 + 1)))) then
          bif fitsB (x296.length + 1) 8 then
          bif (decide (r298 < 0)) then
            some ([], 0, false)
          else
            walk_Way_L4 N n4 x287 x288 r298 x294 x295 (x296 ++ [x291.getD x293.toNat 0]) x297
          else none
        else
          walk_Way_L5 N n4 n5 x287 x288 x289 x290 x291 x292 (W (x293 + 1)) x294 x295 x296 x297
        else none
        else none
        else none
      else
        walk_Way_L5 N n4 n5 x287 x288 x289 x290 x291 x292 (W (x293 + 1)) x294 x295 x296 x297
      else none
    else
      walk_Way_L5 N n4 n5 x287 x288 x289 x290 x291 x292 (W (x293 + 1)) x294 x295 x296 x297
    else none
    else none
  else
    bif (decide (x290 < 0)) then
      some ([], 0, false)
    else
      walk_Way_L4 N n4 x287 x288 x290 x294 x295 x296 x297 := by kernel_rfl
theorem walk_Way_L4_zero (N : Nat) (x279 : Int) (x280 : Int) (x281 : Int) (x282 : List T_Place) (x283 : List T_Road) (x284 : List Int) (x285 : List T_Span) : walk_Way_L4 N 0 x279 x280 x281 x282 x283 x284 x285 = none := rfl
theorem walk_Way_L4_succ (N : Nat) (n4 : Nat) (x279 : Int) (x280 : Int) (x281 : Int) (x282 : List T_Place) (x283 : List T_Road) (x284 : List Int) (x285 : List T_Span) : walk_Way_L4 N (n4 + 1) x279 x280 x281 x282 x283 x284 x285 =
  bif (x281 != x280) then
    Option.bind (plan_Roads N (x282, x283) x281) fun r286 =>
    walk_Way_L5 N n4 N x279 x280 x281 (-1) r286 (r286.length : Int) 0 x282 x283 x284 x285
  else
    bif inB x279 x285.length then
    some (x284, (x285.getD x279.toNat D_Span).1, true)
    else none := by kernel_rfl
theorem walk_Way_L2_zero (N : Nat) (x24 : Int) (x25 : Int) (x26 : List T_Place) (x27 : List T_Road) (x28 : Bool) (x29 : List T_Span) : walk_Way_L2 N 0 x24 x25 x26 x27 x28 x29 = none := rfl
theorem walk_Way_L2_succ (N : Nat) (n2 : Nat) (x24 : Int) (x25 : Int) (x26 : List T_Place) (x27 : List T_Road) (x28 : Bool) (x29 : List T_Span) : walk_Way_L2 N (n2 + 1) x24 x25 x26 x27 x28 x29 =
  bif x28 then
    walk_Way_L3 N n2 N x24 x25 x27 (x27.length : Int) 0 x26 x27 false x29
  else
    bif inB x24 x29.length then
    bif (decide ((x29.getD x24.toNat D_Span).1 ≥ 1099511627776)) then
      some ([], 0, false)
    else
      walk_Way_L4 N N x24 x25 x24 x26 x27 [] x29
    else none := by kernel_rfl
theorem walk_Way_L1_zero (N : Nat) (x8 : Int) (x9 : Int) (x10 : Int) (x11 : Int) (x12 : List T_Place) (x13 : List T_Road) (x14 : List T_Span) : walk_Way_L1 N 0 x8 x9 x10 x11 x12 x13 x14 = none := rfl
theorem walk_Way_L1_succ (N : Nat) (n1 : Nat) (x8 : Int) (x9 : Int) (x10 : Int) (x11 : Int) (x12 : List T_Place) (x13 : List T_Road) (x14 : List T_Span) : walk_Way_L1 N (n1 + 1) x8 x9 x10 x11 x12 x13 x14 =
  bif (decide (x11 < x10)) then
    bif inB x11 x14.length then
    walk_Way_L1 N n1 x8 x9 x10 (W (x11 + 1)) x12 x13 (x14.set x11.toNat (1099511627776, 0))
    else none
  else
    bif inB x9 x14.length then
    walk_Way_L2 N N x8 x9 x12 x13 true (x14.set x9.toNat (0, 0))
    else none := by kernel_rfl
theorem walk_Way_J1_eqM (N JM : Nat) (x2 : Int) (x3 : Int) (x4 : Int) (x5 : List T_Place) (x6 : List T_Road) : joinN (run (walk_Way_E N) N 0 walk_Way_C14) (JM + 1) ⟨[(1, .int .i64 x2), (2, .int .i64 x3), (3, .ptr 0 0 0), (9, .int .i64 x4)], [some (.box 0 [.lst false G_Place x5, .lst false G_Road x6])]⟩ (fin [(.t 6), (.t 7), (.t 8)] [(.list (.int .i64)), (.int .i64), .bool]) =
  bif mkB 16 x4 x4 then
  let v7 := List.replicate x4.toNat (0, 0)
  walk_Way_L1 N N x2 x3 (v7.length : Int) 0 x5 x6 v7
  else none := by kernel_rfl
theorem walk_Way_J1_eq (N : Nat) (x2 : Int) (x3 : Int) (x4 : Int) (x5 : List T_Place) (x6 : List T_Road) : walk_Way_J1 (N + 1) x2 x3 x4 x5 x6 =
  bif mkB 16 x4 x4 then
  let v7 := List.replicate x4.toNat (0, 0)
  walk_Way_L1 (N + 1) (N + 1) x2 x3 (v7.length : Int) 0 x5 x6 v7
  else none := walk_Way_J1_eqM (N + 1) N x2 x3 x4 x5 x6
def walk_Way (N : Nat) (a0 : T_Mine) (a1 : Int) (a2 : Int) : Option ((List Int) × Int × Bool) :=
  Option.bind (plan_Valid N a0) fun r1 =>
  bif (!r1) then
    some ([], 0, false)
  else
    bif (decide (a1 < 0)) then
      some ([], 0, false)
    else
      bif (decide (a1 ≥ (a0.1.length : Int))) then
        some ([], 0, false)
      else
        bif (decide (a2 < 0)) then
          some ([], 0, false)
        else
          bif (decide (a2 ≥ (a0.1.length : Int))) then
            some ([], 0, false)
          else
            walk_Way_J1 N a1 a2 (a0.1.length : Int) a0.1 a0.2
theorem walk_Way_fn : FnOK Try.prog 17 203 (fun _ : Nat => false) walk_Way_C15.er [(.t 6), (.t 7), (.t 8)] := FnOK.mk' Try.func17 (by kernel_rfl) (by kernel_rfl) (by kernel_rfl) (by kernel_rfl) (by kernel_rfl)
theorem walk_Way_envok (N : Nat) : EnvOK Try.prog (walk_Way_E N) := .cons (pureE_ok (plan_Valid_pure N)) (.cons (pureE_ok (walk_step_pure N)) (.cons (pureE_ok (walk_cost_less_pure N)) (.cons (pureE_ok (plan_Roads_pure N)) (.cons (pureE_ok (plan_Other_pure N)) (.nil)))))
theorem walk_Way_pure (N : Nat) : PureOK Try.prog 17 [G_Mine, (.int .i64), (.int .i64)] [(.list (.int .i64)), (.int .i64), .bool] (fun x => walk_Way N x.1 x.2.1 x.2.2) := pureOK (N := N) mixed walk_Way_fn (walk_Way_envok N) (And.intro trivial (And.intro trivial (And.intro (And.intro trivial (And.intro (And.intro trivial trivial) trivial)) (And.intro trivial (And.intro (And.intro trivial (And.intro trivial (And.intro (And.intro trivial trivial) (And.intro (And.intro trivial trivial) trivial)))) (And.intro trivial (And.intro (And.intro trivial (And.intro (And.intro trivial (And.intro trivial trivial)) (And.intro (And.intro trivial (And.intro trivial (And.intro trivial (And.intro (And.intro trivial trivial) (And.intro (And.intro trivial (And.intro rfl (And.intro (And.intro both_iter both_fn) (And.intro trivial (And.intro trivial (And.intro (And.intro trivial (And.intro trivial trivial)) (And.intro trivial (And.intro (And.intro trivial (And.intro trivial trivial)) (And.intro trivial (And.intro trivial (And.intro trivial trivial))))))))))) trivial))))) (And.intro trivial trivial)))) (And.intro (And.intro trivial (And.intro (And.intro trivial trivial) trivial)) (And.intro trivial (And.intro (And.intro trivial (And.intro (And.intro trivial (And.intro trivial trivial)) (And.intro trivial (And.intro (And.intro trivial (And.intro trivial (And.intro (And.intro trivial trivial) (And.intro (And.intro trivial (And.intro trivial (And.intro trivial (And.intro trivial (And.intro (And.intro trivial trivial) trivial))))) trivial)))) (And.intro (And.intro trivial (And.intro (And.intro trivial trivial) trivial)) trivial))))) (And.intro trivial trivial))))))))))) rfl (fun x => by kernel_rfl)
/-! ref01_Ints -/
def ref01_Ints_N1 : List NS := [.wk 0 (.list (.int .i64)), .wk 1 (.list (.int .i64)), .keep [0, 1, 5], .cmp]
def ref01_Ints_C4 : TC := (.cond (.t 14) .skip (.exit 0))
def ref01_Ints_C12 : TC := .ret
def ref01_Ints_C8 : TC := (.cond (.t 25) (.seq (.rg [⟨⟨some 4, (.mov (.c (B false))), none⟩, {}⟩] none) ref01_Ints_C12) .skip)
def ref01_Ints_C9 : TC := (.rg [⟨⟨some 15, (.mov (.t 5)), none⟩, {}⟩, ⟨⟨some 16, (.bin .add (.t 15) (.c (I 1))), none⟩, {}⟩, ⟨⟨some 5, (.mov (.t 16)), none⟩, {}⟩] none)
def ref01_Ints_C5 : TC := (.seq (.block 1 (.seq (.rg [⟨⟨some 17, (.mov (.t 0)), none⟩, {}⟩, ⟨⟨some 18, (.mov (.t 5)), none⟩, {}⟩, ⟨⟨some 19, (.iadrS 1 (.t 17) (.t 18)), none⟩, {}⟩, ⟨⟨some 20, (.load false 1 (.t 19)), none⟩, {}⟩, ⟨⟨some 21, (.mov (.t 1)), none⟩, {}⟩, ⟨⟨some 22, (.mov (.t 5)), none⟩, {}⟩, ⟨⟨some 23, (.iadrS 1
  (.t 21) (.t 22)), none⟩, {}⟩, ⟨⟨some 24, (.load false 1 (.t 23)), none⟩, {}⟩, ⟨⟨some 25, (.bin .neq (.t 20) (.t 24)), none⟩, {}⟩] (some [])) ref01_Ints_C8)) ref01_Ints_C9)
def ref01_Ints_C1 : TC := (.seq (.seq (.rg [⟨⟨some 11, (.mov (.t 5)), none⟩, {}⟩, ⟨⟨some 12, (.mov (.t 0)), none⟩, {}⟩, ⟨⟨some 13, (.len (.t 12)), none⟩, {}⟩, ⟨⟨some 14, (.bin .lss (.t 11) (.t 13)), none⟩, {}⟩] none) ref01_Ints_C4) ref01_Ints_C5)
def ref01_Ints_C6 : TC := .ret
def ref01_Ints_C2 : TC := (.seq (.rg [⟨⟨some 4, (.mov (.c (B true))), none⟩, {}⟩] none) ref01_Ints_C6)
def ref01_Ints_C13 : TC := .ret
def ref01_Ints_C10 : TC := (.cond (.t 10) (.seq (.rg [⟨⟨some 4, (.mov (.c (B false))), none⟩, {}⟩] none) ref01_Ints_C13) .skip)
def ref01_Ints_C14 : TC := (.block 0 (.loop ref01_Ints_N1 ref01_Ints_C1))
def ref01_Ints_C11 : TC := (.seq (.seq (.rg [⟨⟨some 5, (.mov (.c (I 0))), none⟩, {}⟩] none) ref01_Ints_C14) ref01_Ints_C2)
def ref01_Ints_C7 : TC := (.seq (.seq (.rg [⟨⟨some 6, (.mov (.t 0)), none⟩, {}⟩, ⟨⟨some 7, (.len (.t 6)), none⟩, {}⟩, ⟨⟨some 8, (.mov (.t 1)), none⟩, {}⟩, ⟨⟨some 9, (.len (.t 8)), none⟩, {}⟩, ⟨⟨some 10, (.bin .neq (.t 7) (.t 9)), none⟩, {}⟩] none) ref01_Ints_C10) ref01_Ints_C11)
def ref01_Ints_C3 : TC := (.seq (.rg [⟨⟨some 4, (.mov (.c (B false))), none⟩, {}⟩] none) ref01_Ints_C7)
def ref01_Ints_E (N : Nat) : List (Nat × Ent) := []
def ref01_Ints_L1 (N : Nat) (n : Nat) (x1 : List Int) (x2 : List Int) (x3 : Int) : Option Bool := loopN (normI 0 ref01_Ints_N1) (run (ref01_Ints_E N) N 0 ref01_Ints_C1) n ⟨[(0, .lst false (.int .i64) x1), (1, .lst false (.int .i64) x2), (5, .int .i64 x3)], []⟩ (blkK 0 (seqK (run (ref01_Ints_E N) N 0 ref01_Ints_C2) (fin [(.t 4)] [.bool])))
theorem ref01_Ints_L1_zero (N : Nat) (x1 : List Int) (x2 : List Int) (x3 : Int) : ref01_Ints_L1 N 0 x1 x2 x3 = none := rfl
theorem ref01_Ints_L1_succ (N : Nat) (n1 : Nat) (x1 : List Int) (x2 : List Int) (x3 : Int) : ref01_Ints_L1 N (n1 + 1) x1 x2 x3 =
  bif (decide (x3 < (x1.length : Int))) then
    bif inB x3 x1.length then
    bif inB x3 x2.length then
    bif ((x1.getD x3.toNat 0) != (x2.getD x3.toNat 0)) then
      some false
    else
      ref01_Ints_L1 N n1 x1 x2 (W (x3 + 1))
    else none
    else none
  else
    some true := by kernel_rfl
def ref01_Ints (N : Nat) (a0 : List Int) (a1 : List Int) : Option Bool :=
  bif ((a0.length : Int) != (a1.length : Int)) then
    some false
  else
    ref01_Ints_L1 N N a0 a1 0
theorem ref01_Ints_fn : FnOK Try.prog 19 26 (fun _ : Nat => false) ref01_Ints_C3.er [(.t 4)] := FnOK.mk' Try.func19 (by kernel_rfl) (by kernel_rfl) (by kernel_rfl) (by kernel_rfl) (by kernel_rfl)
theorem ref01_Ints_envok (N : Nat) : EnvOK Try.prog (ref01_Ints_E N) := .nil
theorem ref01_Ints_pure (N : Nat) : PureOK Try.prog 19 [(.list (.int .i64)), (.list (.int .i64))] [.bool] (fun x => ref01_Ints N x.1 x.2) := pureOK (N := N) mixed ref01_Ints_fn (ref01_Ints_envok N) (TC.noh_ok (by kernel_rfl)) rfl (fun x => by kernel_rfl)
/-! walk_Least -/
def walk_Least_N1 : List NS := [.wk 1 (.list (.int .i64)), .wk 26 (.list (.int .i64)), .keep [1, 2, 26, 27, 28], .cmp]
def walk_Least_N2 : List NS := [.keep [2, 7, 8], .cmp]
def walk_Least_N3 : List NS := [.wk 43 (.list G_Road), .keep [2, 7, 8, 43, 44, 45], .cmp]
def walk_Least_NG1 : List NS := [.wk 43 (.list G_Road), .keep [2, 7, 8, 9, 10, 43, 44, 45], .cmp]
def walk_Least_C1 : TC := (.rg [⟨⟨some 11, (.mov (.t 50)), none⟩, {}⟩] none)
def walk_Least_C22 : TC := (.cond (.t 55) (.rg [⟨⟨some 56, (.mov (.t 13)), none⟩, {}⟩, ⟨⟨some 57, (.mov (.t 12)), none⟩, {}⟩, ⟨⟨some 12, (.mov (.t 56)), none⟩, {}⟩, ⟨⟨some 13, (.mov (.t 57)), none⟩, {}⟩] none) .skip)
def walk_Least_C37 : TC := (.cond (.t 76) (.rg [⟨⟨some 77, (.load false 1 (.t 7)), none⟩, {}⟩, ⟨⟨some 78, (.mov (.t 13)), none⟩, {}⟩, ⟨⟨some 79, (.load false 1 (.t 7)), none⟩, {}⟩, ⟨⟨some 80, (.mov (.t 12)), none⟩, {}⟩, ⟨⟨some 81, (.iadrS 1 (.t 79) (.t 80)), none⟩, {}⟩, ⟨⟨some 82, (.load false 1 (.t 81)), none⟩, {}⟩, ⟨⟨some
  83, (.mov (.t 14)), none⟩, {}⟩, ⟨⟨some 84, (.bin .add (.t 82) (.t 83)), none⟩, {}⟩, ⟨⟨some 85, (.iadrS 1 (.t 77) (.t 78)), none⟩, {}⟩, ⟨⟨none, (.store 1 (.t 85) (.t 84)), none⟩, {}⟩, ⟨⟨none, (.store 1 (.t 8) (.c (B true))), none⟩, {}⟩] (some [])) .skip)
def walk_Least_C31 : TC := (.seq (.rg [⟨⟨some 62, (.mov (.t 14)), none⟩, {}⟩, ⟨⟨some 63, (.bin .geq (.t 62) (.c (I 0))), none⟩, {}⟩, ⟨⟨some 64, (.mov (.t 63)), none⟩, {}⟩, ⟨⟨some 65, (.load false 1 (.t 7)), some (64, true)⟩, {}⟩, ⟨⟨some 66, (.mov (.t 12)), some (64, true)⟩, {}⟩, ⟨⟨some 67, (.iadrS 1 (.t 65) (.t 66)), some (64,
  true)⟩, {}⟩, ⟨⟨some 68, (.load false 1 (.t 67)), some (64, true)⟩, {}⟩, ⟨⟨some 69, (.mov (.t 14)), some (64, true)⟩, {}⟩, ⟨⟨some 70, (.bin .add (.t 68) (.t 69)), some (64, true)⟩, {}⟩, ⟨⟨some 71, (.load false 1 (.t 7)), some (64, true)⟩, {}⟩, ⟨⟨some 72, (.mov (.t 13)), some (64, true)⟩, {}⟩, ⟨⟨some
  73, (.iadrS 1 (.t 71) (.t 72)), some (64, true)⟩, {}⟩, ⟨⟨some 74, (.load false 1 (.t 73)), some (64, true)⟩, {}⟩, ⟨⟨some 75, (.bin .lss (.t 70) (.t 74)), some (64, true)⟩, {}⟩, ⟨⟨some 76, (.pick (.t 64) (.t 75) (.c (B false))), none⟩, {}⟩] (some [])) walk_Least_C37)
def walk_Least_C23 : TC := (.seq (.rg [⟨⟨some 58, (.load true 2 (.t 2)), none⟩, {}⟩, ⟨⟨some 59, (.load false 1 (.t 9)), none⟩, {}⟩, ⟨⟨some 60, (.mov (.t 11)), none⟩, {}⟩, ⟨⟨some 61, (.call (.c (.fn 31 [])) [(.t 58), (.t 59), (.t 60)]), none⟩, {}⟩, ⟨⟨some 14, (.mov (.t 61)), none⟩, {}⟩] none) walk_Least_C31)
def walk_Least_C12 : TC := (.seq (.seq (.rg [⟨⟨some 55, (.mov (.t 11)), none⟩, {}⟩] none) walk_Least_C22) walk_Least_C23)
def walk_Least_C2 : TC := (.block 7 (.seq (.rg [⟨⟨some 51, (.fadr 0 (.t 10)), none⟩, {}⟩, ⟨⟨some 52, (.load false 1 (.t 51)), none⟩, {}⟩, ⟨⟨some 53, (.fadr 1 (.t 10)), none⟩, {}⟩, ⟨⟨some 54, (.load false 1 (.t 53)), none⟩, {}⟩, ⟨⟨some 12, (.mov (.t 52)), none⟩, {}⟩, ⟨⟨some 13, (.mov (.t 54)), none⟩, {}⟩] (some []))
  walk_Least_C12))
def walk_Least_C3 : TC := (.rg [⟨⟨some 86, (.bin .add (.t 45) (.c (I 1))), none⟩, {}⟩, ⟨⟨some 45, (.mov (.t 86)), none⟩, {}⟩] none)
def walk_Least_C32 : TC := (.block 6 (.rngf (.c (.fn 35 [])) 50 35 walk_Least_NG1 walk_Least_C1 walk_Least_C2))
def walk_Least_C24 : TC := (.seq (.block 5 (.seq (.rg [⟨⟨some 47, (.mov (.t 45)), none⟩, {}⟩, ⟨⟨some 48, (.iadrS 10 (.t 43) (.t 45)), none⟩, {}⟩, ⟨⟨some 49, (.load true 10 (.t 48)), none⟩, {}⟩, ⟨⟨some 9, (.alloc [(I 0)]), none⟩, {}⟩, ⟨⟨some 10, (.alloc [(I 0), (I 0), (I 0), (I 0), (B false), (B false), (I 0), (I 0), (I 0), (I
  0)]), none⟩, {}⟩, ⟨⟨none, (.store 1 (.t 9) (.t 47)), none⟩, {}⟩, ⟨⟨none, (.store 10 (.t 10) (.t 49)), none⟩, {}⟩] none) walk_Least_C32)) walk_Least_C3)
def walk_Least_C13 : TC := (.seq (.cond (.t 46) .skip (.exit 4)) walk_Least_C24)
def walk_Least_C4 : TC := (.seq (.rg [⟨⟨some 46, (.bin .lss (.t 45) (.t 44)), none⟩, {}⟩] none) walk_Least_C13)
def walk_Least_C14 : TC := (.rg [⟨⟨some 8, (.alloc [(B false)]), none⟩, {}⟩, ⟨⟨none, (.store 1 (.t 8) (.t 87)), none⟩, {}⟩] none)
def walk_Least_C5 : TC := (.seq (.rg [⟨⟨some 87, (.load false 1 (.t 8)), none⟩, {}⟩] none) walk_Least_C14)
def walk_Least_C15 : TC := (.cond (.t 41) .skip (.exit 2))
def walk_Least_C33 : TC := (.block 4 (.loop walk_Least_N3 walk_Least_C4))
def walk_Least_C25 : TC := (.seq (.rg [⟨⟨some 42, (.fadr 1 (.t 2)), none⟩, {}⟩, ⟨⟨some 43, (.load false 1 (.t 42)), none⟩, {}⟩, ⟨⟨some 44, (.len (.t 43)), none⟩, {}⟩, ⟨⟨some 45, (.mov (.c (I 0))), none⟩, {}⟩] none) walk_Least_C33)
def walk_Least_C16 : TC := (.seq (.block 3 (.seq (.rg [⟨⟨none, (.store 1 (.t 8) (.c (B false))), none⟩, {}⟩] none) walk_Least_C25)) walk_Least_C5)
def walk_Least_C6 : TC := (.seq (.seq (.rg [⟨⟨some 41, (.load false 1 (.t 8)), none⟩, {}⟩] none) walk_Least_C15) walk_Least_C16)
def walk_Least_C26 : TC := .ret
def walk_Least_C17 : TC := (.pre [.frz 4] walk_Least_C26)
def walk_Least_C7 : TC := (.seq (.rg [⟨⟨some 88, (.load false 1 (.t 7)), none⟩, {}⟩, ⟨⟨some 4, (.mov (.t 88)), none⟩, {}⟩] none) walk_Least_C17)
def walk_Least_C41 : TC := .ret
def walk_Least_C40 : TC := (.pre [.frz 4] walk_Least_C41)
def walk_Least_C38 : TC := (.cond (.t 37) (.seq (.rg [⟨⟨some 4, (.mov (.c (.lst true []))), none⟩, {}⟩] none) walk_Least_C40) .skip)
def walk_Least_C34 : TC := (.seq (.rg [⟨⟨some 32, (.mov (.t 6)), none⟩, {}⟩, ⟨⟨some 33, (.bin .lss (.t 32) (.c (I 0))), none⟩, {}⟩, ⟨⟨some 34, (.mov (.t 33)), none⟩, {}⟩, ⟨⟨some 35, (.mov (.t 6)), some (34, false)⟩, {}⟩, ⟨⟨some 36, (.bin .gtr (.t 35) (.c (I 1099511627776))), some (34, false)⟩, {}⟩, ⟨⟨some 37, (.pick (.t 34)
  (.c (B true)) (.t 36)), none⟩, {}⟩] none) walk_Least_C38)
def walk_Least_C35 : TC := (.rg [⟨⟨some 38, (.bin .add (.t 28) (.c (I 1))), none⟩, {}⟩, ⟨⟨some 28, (.mov (.t 38)), none⟩, {}⟩] none)
def walk_Least_C27 : TC := (.seq (.block 1 (.seq (.rg [⟨⟨some 30, (.iadrS 1 (.t 26) (.t 28)), none⟩, {}⟩, ⟨⟨some 31, (.load false 1 (.t 30)), none⟩, {}⟩, ⟨⟨some 6, (.mov (.t 31)), none⟩, {}⟩] none) walk_Least_C34)) walk_Least_C35)
def walk_Least_C18 : TC := (.seq (.cond (.t 29) .skip (.exit 0)) walk_Least_C27)
def walk_Least_C8 : TC := (.seq (.rg [⟨⟨some 29, (.bin .lss (.t 28) (.t 27)), none⟩, {}⟩] none) walk_Least_C18)
def walk_Least_C28 : TC := (.block 2 (.loop walk_Least_N2 walk_Least_C6))
def walk_Least_C19 : TC := (.seq (.seq (.rg [⟨⟨some 8, (.alloc [(B false)]), none⟩, {}⟩, ⟨⟨none, (.store 1 (.t 8) (.c (B true))), none⟩, {}⟩] none) walk_Least_C28) walk_Least_C7)
def walk_Least_C9 : TC := (.seq (.pre [.ghost (.int .i64)] (.rg [⟨⟨some 39, (.mov (.t 1)), none⟩, {}⟩, ⟨⟨some 40, (.app 1 8 (.c (.lst true [])) (.t 39)), none⟩, ⟨.unit, some 1⟩⟩, ⟨⟨some 7, (.alloc [(.lst true [])]), none⟩, {}⟩, ⟨⟨none, (.store 1 (.t 7) (.t 40)), none⟩, {}⟩] none)) walk_Least_C19)
def walk_Least_C20 : TC := (.block 0 (.loop walk_Least_N1 walk_Least_C8))
def walk_Least_C10 : TC := (.seq (.seq (.rg [⟨⟨some 26, (.mov (.t 1)), none⟩, {}⟩, ⟨⟨some 27, (.len (.t 26)), none⟩, {}⟩, ⟨⟨some 28, (.mov (.c (I 0))), none⟩, {}⟩] none) walk_Least_C20) walk_Least_C9)
def walk_Least_C39 : TC := .ret
def walk_Least_C36 : TC := (.pre [.frz 4] walk_Least_C39)
def walk_Least_C29 : TC := (.cond (.t 25) (.seq (.rg [⟨⟨some 4, (.mov (.c (.lst true []))), none⟩, {}⟩] none) walk_Least_C36) .skip)
def walk_Least_C30 : TC := (.join [.wk 1 (.list (.int .i64)), .keep [1, 2], .cmp] walk_Least_C10)
def walk_Least_C21 : TC := (.seq (.seq (.rg [⟨⟨some 15, (.load true 2 (.t 2)), none⟩, {}⟩, ⟨⟨some 16, (.call (.c (.fn 30 [])) [(.t 15)]), none⟩, {}⟩, ⟨⟨some 17, (.un .not (.t 16)), none⟩, {}⟩, ⟨⟨some 18, (.mov (.t 17)), none⟩, {}⟩, ⟨⟨some 19, (.mov (.t 1)), some (18, false)⟩, {}⟩, ⟨⟨some 20, (.len (.t 19)), some (18, false)⟩,
  {}⟩, ⟨⟨some 21, (.fadr 0 (.t 2)), some (18, false)⟩, {}⟩, ⟨⟨some 22, (.load false 1 (.t 21)), some (18, false)⟩, {}⟩, ⟨⟨some 23, (.len (.t 22)), some (18, false)⟩, {}⟩, ⟨⟨some 24, (.bin .neq (.t 20) (.t 23)), some (18, false)⟩, {}⟩, ⟨⟨some 25, (.pick (.t 18) (.c (B true)) (.t 24)), none⟩, {}⟩]
  none) walk_Least_C29) walk_Least_C30)
def walk_Least_C11 : TC := (.seq (.rg [⟨⟨some 2, (.box (.t 0)), none⟩, {}⟩, ⟨⟨some 4, (.mov (.c (.lst true []))), none⟩, {}⟩] none) walk_Least_C21)
def walk_Least_E (N : Nat) : List (Nat × Ent) := [(30, pureE [G_Mine] [.bool] (fun x => plan_Valid N x)), (31, pureE [G_Mine, (.int .i64), .bool] [(.int .i64)] (fun x => walk_step N x.1 x.2.1 x.2.2))]
def walk_Least_G1_2 (N n3 n2 : Nat) (x55 : List T_Road) (x56 : Int) (x57 : Int) (x58 : List T_Place) (x59 : List T_Road) (x60 : Bool) (x61 : Int) (x62 : Int) (x63 : Int) (x64 : Int) (x65 : Int) (x66 : Bool) (x67 : Bool) (x68 : Int) (x69 : Int) (x70 : Int) (x71 : Int) (x72 : List Int) : Option (List Int) := joinN (rngN (run (walk_Least_E N) N 0 walk_Least_C1) (run (walk_Least_E N) N 0 walk_Least_C2) (normI 0 walk_Least_NG1) N 50 (50 :: (walk_Least_C1.er.dsts ++ walk_Least_C2.er.dsts)) []) N ⟨[(2, .ptr 0 0 0), (7, .ptr 1 0 0), (8, .ptr 2 0 0), (9, .ptr 3 0 0), (10, .ptr 4 0 0), (43, .lst false G_Road x55), (44, .int .i64 x56), (45, .int .i64 x57)], [some (.box 0 [.lst false G_Place x58, .lst false G_Road x59]), some (.box 0 [.whole 5]), some (.box 0 [.bool x60]), some (.box 0 [.int .i64 x61]), some (.box 0 [.int .i64 x62, .int .i64 x63, .int .i64 x64, .int .i64 x65, .bool x66, .bool x67, .int .i64 x68, .int .i64 x69, .int .i64 x70, .int .i64 x71]), some (.arr (.int .i64) x72)]⟩ (blkK 6 (blkK 5 (seqK (run (walk_Least_E N) N 0 walk_Least_C3) (seqK (nextL (normI 0 walk_Least_N3) (loopN (normI 0 walk_Least_N3) (run (walk_Least_E N) N 0 walk_Least_C4) n3)) (blkK 4 (blkK 3 (seqK (run (walk_Least_E N) N 0 walk_Least_C5) (seqK (nextL (normI 0 walk_Least_N2) (loopN (normI 0 walk_Least_N2) (run (walk_Least_E N) N 0 walk_Least_C6) n2)) (blkK 2 (seqK (run (walk_Least_E N) N 0 walk_Least_C7) (fin [(.t 4)] [(.list (.int .i64))])))))))))))
def walk_Least_G1_1 (N n3 n2 : Nat) (x33 : List T_Road) (x34 : Int) (x35 : Int) (x36 : List T_Place) (x37 : List T_Road) (x38 : Bool) (x39 : Int) (x40 : Int) (x41 : Int) (x42 : Int) (x43 : Int) (x44 : Bool) (x45 : Bool) (x46 : Int) (x47 : Int) (x48 : Int) (x49 : Int) (x50 : List Int) : Option (List Int) := joinN (rngN (run (walk_Least_E N) N 0 walk_Least_C1) (run (walk_Least_E N) N 0 walk_Least_C2) (normI 0 walk_Least_NG1) N 50 (50 :: (walk_Least_C1.er.dsts ++ walk_Least_C2.er.dsts)) [true]) N ⟨[(2, .ptr 0 0 0), (7, .ptr 1 0 0), (8, .ptr 2 0 0), (9, .ptr 3 0 0), (10, .ptr 4 0 0), (43, .lst false G_Road x33), (44, .int .i64 x34), (45, .int .i64 x35)], [some (.box 0 [.lst false G_Place x36, .lst false G_Road x37]), some (.box 0 [.whole 5]), some (.box 0 [.bool x38]), some (.box 0 [.int .i64 x39]), some (.box 0 [.int .i64 x40, .int .i64 x41, .int .i64 x42, .int .i64 x43, .bool x44, .bool x45, .int .i64 x46, .int .i64 x47, .int .i64 x48, .int .i64 x49]), some (.arr (.int .i64) x50)]⟩ (blkK 6 (blkK 5 (seqK (run (walk_Least_E N) N 0 walk_Least_C3) (seqK (nextL (normI 0 walk_Least_N3) (loopN (normI 0 walk_Least_N3) (run (walk_Least_E N) N 0 walk_Least_C4) n3)) (blkK 4 (blkK 3 (seqK (run (walk_Least_E N) N 0 walk_Least_C5) (seqK (nextL (normI 0 walk_Least_N2) (loopN (normI 0 walk_Least_N2) (run (walk_Least_E N) N 0 walk_Least_C6) n2)) (blkK 2 (seqK (run (walk_Least_E N) N 0 walk_Least_C7) (fin [(.t 4)] [(.list (.int .i64))])))))))))))
def walk_Least_L3 (N n2 : Nat) (n : Nat) (x21 : List T_Road) (x22 : Int) (x23 : Int) (x24 : List T_Place) (x25 : List T_Road) (x26 : Bool) (x27 : List Int) : Option (List Int) := loopN (normI 0 walk_Least_N3) (run (walk_Least_E N) N 0 walk_Least_C4) n ⟨[(2, .ptr 0 0 0), (7, .ptr 1 0 0), (8, .ptr 2 0 0), (43, .lst false G_Road x21), (44, .int .i64 x22), (45, .int .i64 x23)], [some (.box 0 [.lst false G_Place x24, .lst false G_Road x25]), some (.box 0 [.whole 3]), some (.box 0 [.bool x26]), some (.arr (.int .i64) x27)]⟩ (blkK 4 (blkK 3 (seqK (run (walk_Least_E N) N 0 walk_Least_C5) (seqK (nextL (normI 0 walk_Least_N2) (loopN (normI 0 walk_Least_N2) (run (walk_Least_E N) N 0 walk_Least_C6) n2)) (blkK 2 (seqK (run (walk_Least_E N) N 0 walk_Least_C7) (fin [(.t 4)] [(.list (.int .i64))])))))))
def walk_Least_L2 (N : Nat) (n : Nat) (x17 : List T_Place) (x18 : List T_Road) (x19 : Bool) (x20 : List Int) : Option (List Int) := loopN (normI 0 walk_Least_N2) (run (walk_Least_E N) N 0 walk_Least_C6) n ⟨[(2, .ptr 0 0 0), (7, .ptr 1 0 0), (8, .ptr 2 0 0)], [some (.box 0 [.lst false G_Place x17, .lst false G_Road x18]), some (.box 0 [.whole 3]), some (.box 0 [.bool x19]), some (.arr (.int .i64) x20)]⟩ (blkK 2 (seqK (run (walk_Least_E N) N 0 walk_Least_C7) (fin [(.t 4)] [(.list (.int .i64))])))
def walk_Least_L1 (N : Nat) (n : Nat) (x5 : List Int) (x6 : List Int) (x7 : Int) (x8 : Int) (x9 : List T_Place) (x10 : List T_Road) : Option (List Int) := loopN (normI 0 walk_Least_N1) (run (walk_Least_E N) N 0 walk_Least_C8) n ⟨[(1, .lst false (.int .i64) x5), (2, .ptr 0 0 0), (26, .lst false (.int .i64) x6), (27, .int .i64 x7), (28, .int .i64 x8)], [some (.box 0 [.lst false G_Place x9, .lst false G_Road x10])]⟩ (blkK 0 (seqK (run (walk_Least_E N) N 0 walk_Least_C9) (fin [(.t 4)] [(.list (.int .i64))])))
def walk_Least_J1 (N : Nat) (x2 : List Int) (x3 : List T_Place) (x4 : List T_Road) : Option (List Int) := joinN (run (walk_Least_E N) N 0 walk_Least_C10) N ⟨[(1, .lst false (.int .i64) x2), (2, .ptr 0 0 0)], [some (.box 0 [.lst false G_Place x3, .lst false G_Road x4])]⟩ (fin [(.t 4)] [(.list (.int .i64))])
theorem walk_Least_G1_2_eqM (N JM n3 n2 : Nat) (x55 : List T_Road) (x56 : Int) (x57 : Int) (x58 : List T_Place) (x59 : List T_Road) (x60 : Bool) (x61 : Int) (x62 : Int) (x63 : Int) (x64 : Int) (x65 : Int) (x66 : Bool) (x67 : Bool) (x68 : Int) (x69 : Int) (x70 : Int) (x71 : Int) (x72 : List Int) : joinN (rngN (run (walk_Least_E N) N 0 walk_Least_C1) (run (walk_Least_E N) N 0 walk_Least_C2) (normI 0 walk_Least_NG1) N 50 (50 :: (walk_Least_C1.er.dsts ++ walk_Least_C2.er.dsts)) []) (JM + 1) ⟨[(2, .ptr 0 0 0), (7, .ptr 1 0 0), (8, .ptr 2 0 0), (9, .ptr 3 0 0), (10, .ptr 4 0 0), (43, .lst false G_Road x55), (44, .int .i64 x56), (45, .int .i64 x57)], [some (.box 0 [.lst false G_Place x58, .lst false G_Road x59]), some (.box 0 [.whole 5]), some (.box 0 [.bool x60]), some (.box 0 [.int .i64 x61]), some (.box 0 [.int .i64 x62, .int .i64 x63, .int .i64 x64, .int .i64 x65, .bool x66, .bool x67, .int .i64 x68, .int .i64 x69, .int .i64 x70, .int .i64 x71]), some (.arr (.int .i64) x72)]⟩ (blkK 6 (blkK 5 (seqK (run (walk_Least_E N) N 0 walk_Least_C3) (seqK (nextL (normI 0 walk_Least_N3) (loopN (normI 0 walk_Least_N3) (run (walk_Least_E N) N 0 walk_Least_C4) n3)) (blkK 4 (blkK 3 (seqK (run (walk_Least_E N) N 0 walk_Least_C5) (seqK (nextL (normI 0 walk_Least_N2) (loopN (normI 0 walk_Least_N2) (run (walk_Least_E N) N 0 walk_Least_C6) n2)) (blkK 2 (seqK (run (walk_Least_E N) N 0 walk_Least_C7) (fin [(.t 4)] [(.list (.int .i64))]))))))))))) =
  walk_Least_L3 N n2 n3 x55 x56 (W (x57 + 1)) x58 x59 x60 x72 := by kernel_rfl
theorem walk_Least_G1_2_eq (N n3 n2 : Nat) (x55 : List T_Road) (x56 : Int) (x57 : Int) (x58 : List T_Place) (x59 : List T_Road) (x60 : Bool) (x61 : Int) (x62 : Int) (x63 : Int) (x64 : Int) (x65 : Int) (x66 : Bool) (x67 : Bool) (x68 : Int) (x69 : Int) (x70 : Int) (x71 : Int) (x72 : List Int) : walk_Least_G1_2 (N + 1) n3 n2 x55 x56 x57 x58 x59 x60 x61 x62 x63 x64 x65 x66 x67 x68 x69 x70 x71 x72 =
  walk_Least_L3 (N + 1) n2 n3 x55 x56 (W (x57 + 1)) x58 x59 x60 x72 := walk_Least_G1_2_eqM (N + 1) N n3 n2 x55 x56 x57 x58 x59 x60 x61 x62 x63 x64 x65 x66 x67 x68 x69 x70 x71 x72
theorem walk_Least_G1_1_eqM (N JM n3 n2 : Nat) (x33 : List T_Road) (x34 : Int) (x35 : Int) (x36 : List T_Place) (x37 : List T_Road) (x38 : Bool) (x39 : Int) (x40 : Int) (x41 : Int) (x42 : Int) (x43 : Int) (x44 : Bool) (x45 : Bool) (x46 : Int) (x47 : Int) (x48 : Int) (x49 : Int) (x50 : List Int) : joinN (rngN (run (walk_Least_E N) N 0 walk_Least_C1) (run (walk_Least_E N) N 0 walk_Least_C2) (normI 0 walk_Least_NG1) N 50 (50 :: (walk_Least_C1.er.dsts ++ walk_Least_C2.er.dsts)) [true]) (JM + 1) ⟨[(2, .ptr 0 0 0), (7, .ptr 1 0 0), (8, .ptr 2 0 0), (9, .ptr 3 0 0), (10, .ptr 4 0 0), (43, .lst false G_Road x33), (44, .int .i64 x34), (45, .int .i64 x35)], [some (.box 0 [.lst false G_Place x36, .lst false G_Road x37]), some (.box 0 [.whole 5]), some (.box 0 [.bool x38]), some (.box 0 [.int .i64 x39]), some (.box 0 [.int .i64 x40, .int .i64 x41, .int .i64 x42, .int .i64 x43, .bool x44, .bool x45, .int .i64 x46, .int .i64 x47, .int .i64 x48, .int .i64 x49]), some (.arr (.int .i64) x50)]⟩ (blkK 6 (blkK 5 (seqK (run (walk_Least_E N) N 0 walk_Least_C3) (seqK (nextL (normI 0 walk_Least_N3) (loopN (normI 0 walk_Least_N3) (run (walk_Least_E N) N 0 walk_Least_C4) n3)) (blkK 4 (blkK 3 (seqK (run (walk_Least_E N) N 0 walk_Least_C5) (seqK (nextL (normI 0 walk_Least_N2) (loopN (normI 0 walk_Least_N2) (run (walk_Least_E N) N 0 walk_Least_C6) n2)) (blkK 2 (seqK (run (walk_Least_E N) N 0 walk_Least_C7) (fin [(.t 4)] [(.list (.int .i64))]))))))))))) =
  Option.bind (walk_step N (x36, x37) x39 true) fun r51 =>
  bif (decide (r51 ≥ 0)) then
    bif inB x41 x50.length then
    bif inB x40 x50.length then
    bif (decide ((W ((x50.getD x41.toNat 0) + r51)) < (x50.getD x40.toNat 0))) then
      bif inB x41 x50.length then
      bif inB x40 x50.length then
      walk_Least_G1_2 N n3 n2 x33 x34 x35 x36 x37 true x39 x40 x41 x42 x43 x44 x45 x46 x47 x48 x49 (x50.set x40.toNat (W ((x50.getD x41.toNat 0) + r51)))
      else none
      else none
    else
      walk_Least_G1_2 N n3 n2 x33 x34 x35 x36 x37 x38 x39 x40 x41 x42 x43 x44 x45 x46 x47 x48 x49 x50
    else none
    else none
  else
    walk_Least_G1_2 N n3 n2 x33 x34 x35 x36 x37 x38 x39 x40 x41 x42 x43 x44 x45 x46 x47 x48 x49 x50 := by kernel_rfl
theorem walk_Least_G1_1_eq (N n3 n2 : Nat) (x33 : List T_Road) (x34 : Int) (x35 : Int) (x36 : List T_Place) (x37 : List T_Road) (x38 : Bool) (x39 : Int) (x40 : Int) (x41 : Int) (x42 : Int) (x43 : Int) (x44 : Bool) (x45 : Bool) (x46 : Int) (x47 : Int) (x48 : Int) (x49 : Int) (x50 : List Int) : walk_Least_G1_1 (N + 1) n3 n2 x33 x34 x35 x36 x37 x38 x39 x40 x41 x42 x43 x44 x45 x46 x47 x48 x49 x50 =
  Option.bind (walk_step (N + 1) (x36, x37) x39 true) fun r51 =>
  bif (decide (r51 ≥ 0)) then
    bif inB x41 x50.length then
    bif inB x40 x50.length then
    bif (decide ((W ((x50.getD x41.toNat 0) + r51)) < (x50.getD x40.toNat 0))) then
      bif inB x41 x50.length then
      bif inB x40 x50.length then
      walk_Least_G1_2 (N + 1) n3 n2 x33 x34 x35 x36 x37 true x39 x40 x41 x42 x43 x44 x45 x46 x47 x48 x49 (x50.set x40.toNat (W ((x50.getD x41.toNat 0) + r51)))
      else none
      else none
    else
      walk_Least_G1_2 (N + 1) n3 n2 x33 x34 x35 x36 x37 x38 x39 x40 x41 x42 x43 x44 x45 x46 x47 x48 x49 x50
    else none
    else none
  else
    walk_Least_G1_2 (N + 1) n3 n2 x33 x34 x35 x36 x37 x38 x39 x40 x41 x42 x43 x44 x45 x46 x47 x48 x49 x50 := walk_Least_G1_1_eqM (N + 1) N n3 n2 x33 x34 x35 x36 x37 x38 x39 x40 x41 x42 x43 x44 x45 x46 x47 x48 x49 x50
theorem walk_Least_L3_zero (N n2 : Nat) (x21 : List T_Road) (x22 : Int) (x23 : Int) (x24 : List T_Place) (x25 : List T_Road) (x26 : Bool) (x27 : List Int) : walk_Least_L3 N n2 0 x21 x22 x23 x24 x25 x26 x27 = none := rfl
theorem walk_Least_L3_succ (N n2 : Nat) (n3 : Nat) (x21 : List T_Road) (x22 : Int) (x23 : Int) (x24 : List T_Place) (x25 : List T_Road) (x26 : Bool) (x27 : List Int) : walk_Least_L3 N n2 (n3 + 1) x21 x22 x23 x24 x25 x26 x27 =
  bif (decide (x23 < x22)) then
    bif inB x23 x21.length then
    let v28 := x21.getD x23.toNat D_Road
    Option.bind (walk_step N (x24, x25) x23 false) fun r29 =>
    bif (decide (r29 ≥ 0)) then
      bif inB v28.1 x27.length then
      bif inB v28.2.1 x27.length then
      bif (decide ((W ((x27.getD v28.1.toNat 0) + r29)) < (x27.getD v28.2.1.toNat 0))) then
        bif inB v28.1 x27.length then
        bif inB v28.2.1 x27.length then
        walk_Least_G1_1 N n3 n2 x21 x22 x23 x24 x25 true x23 v28.1 v28.2.1 v28.2.2.1 v28.2.2.2.1 v28.2.2.2.2.1 v28.2.2.2.2.2.1 v28.2.2.2.2.2.2.1.1 v28.2.2.2.2.2.2.1.2 v28.2.2.2.2.2.2.2.1 v28.2.2.2.2.2.2.2.2 (x27.set v28.2.1.toNat (W ((x27.getD v28.1.toNat 0) + r29)))
        else none
        else none
      else
        walk_Least_G1_1 N n3 n2 x21 x22 x23 x24 x25 x26 x23 v28.1 v28.2.1 v28.2.2.1 v28.2.2.2.1 v28.2.2.2.2.1 v28.2.2.2.2.2.1 v28.2.2.2.2.2.2.1.1 v28.2.2.2.2.2.2.1.2 v28.2.2.2.2.2.2.2.1 v28.2.2.2.2.2.2.2.2 x27
      else none
      else none
    else
      walk_Least_G1_1 N n3 n2 x21 x22 x23 x24 x25 x26 x23 v28.1 v28.2.1 v28.2.2.1 v28.2.2.2.1 v28.2.2.2.2.1 v28.2.2.2.2.2.1 v28.2.2.2.2.2.2.1.1 v28.2.2.2.2.2.2.1.2 v28.2.2.2.2.2.2.2.1 v28.2.2.2.2.2.2.2.2 x27
    else none
  else
    walk_Least_L2 N n2 x24 x25 x26 x27 := by kernel_rfl
theorem walk_Least_L2_zero (N : Nat) (x17 : List T_Place) (x18 : List T_Road) (x19 : Bool) (x20 : List Int) : walk_Least_L2 N 0 x17 x18 x19 x20 = none := rfl
theorem walk_Least_L2_succ (N : Nat) (n2 : Nat) (x17 : List T_Place) (x18 : List T_Road) (x19 : Bool) (x20 : List Int) : walk_Least_L2 N (n2 + 1) x17 x18 x19 x20 =
  bif x19 then
    walk_Least_L3 N n2 N x18 (x18.length : Int) 0 x17 x18 false x20
  else
    some x20 := by kernel_rfl
theorem walk_Least_L1_zero (N : Nat) (x5 : List Int) (x6 : List Int) (x7 : Int) (x8 : Int) (x9 : List T_Place) (x10 : List T_Road) : walk_Least_L1 N 0 x5 x6 x7 x8 x9 x10 = none := rfl
theorem walk_Least_L1_succ (N : Nat) (n1 : Nat) (x5 : List Int) (x6 : List Int) (x7 : Int) (x8 : Int) (x9 : List T_Place) (x10 : List T_Road) : walk_Least_L1 N (n1 + 1) x5 x6 x7 x8 x9 x10 =
  bif (decide (x8 < x7)) then
    bif inB x8 x6.length then
    bif (decide ((x6.getD x8.toNat 0) < 0)) then
      some []
    else
      bif (decide ((x6.getD x8.toNat 0) > 1099511627776)) then
        some []
      else
        walk_Least_L1 N n1 x5 x6 x7 (W (x8 + 1)) x9 x10
    else none
  else
    bif fitsB x5.length 8 then
    walk_Least_L2 N N x9 x10 true x5
    else none := by kernel_rfl
theorem walk_Least_J1_eqM (N JM : Nat) (x2 : List Int) (x3 : List T_Place) (x4 : List T_Road) : joinN (run (walk_Least_E N) N 0 walk_Least_C10) (JM + 1) ⟨[(1, .lst false (.int .i64) x2), (2, .ptr 0 0 0)], [some (.box 0 [.lst false G_Place x3, .lst false G_Road x4])]⟩ (fin [(.t 4)] [(.list (.int .i64))]) =
  walk_Least_L1 N N x2 x2 (x2.length : Int) 0 x3 x4 := by kernel_rfl
theorem walk_Least_J1_eq (N : Nat) (x2 : List Int) (x3 : List T_Place) (x4 : List T_Road) : walk_Least_J1 (N + 1) x2 x3 x4 =
  walk_Least_L1 (N + 1) (N + 1) x2 x2 (x2.length : Int) 0 x3 x4 := walk_Least_J1_eqM (N + 1) N x2 x3 x4
def walk_Least (N : Nat) (a0 : T_Mine) (a1 : List Int) : Option (List Int) :=
  Option.bind (plan_Valid N a0) fun r1 =>
  bif (!r1) then
    some []
  else
    bif ((a1.length : Int) != (a0.1.length : Int)) then
      some []
    else
      walk_Least_J1 N a1 a0.1 a0.2
theorem walk_Least_fn : FnOK Try.prog 20 89 (fun _ : Nat => false) walk_Least_C11.er [(.t 4)] := FnOK.mk' Try.func20 (by kernel_rfl) (by kernel_rfl) (by kernel_rfl) (by kernel_rfl) (by kernel_rfl)
theorem walk_Least_envok (N : Nat) : EnvOK Try.prog (walk_Least_E N) := .cons (pureE_ok (plan_Valid_pure N)) (.cons (pureE_ok (walk_step_pure N)) (.nil))
theorem walk_Least_pure (N : Nat) : PureOK Try.prog 20 [G_Mine, (.list (.int .i64))] [(.list (.int .i64))] (fun x => walk_Least N x.1 x.2) := pureOK (N := N) mixed walk_Least_fn (walk_Least_envok N) (And.intro trivial (And.intro (And.intro trivial (And.intro (And.intro trivial trivial) trivial)) (And.intro (And.intro trivial (And.intro trivial (And.intro (And.intro trivial trivial) (And.intro (And.intro trivial (And.intro trivial (And.intro (And.intro trivial trivial) trivial))) trivial)))) (And.intro trivial (And.intro (And.intro trivial (And.intro (And.intro trivial (And.intro trivial trivial)) (And.intro (And.intro trivial (And.intro trivial (And.intro trivial (And.intro (And.intro trivial trivial) (And.intro (And.intro trivial (And.intro rfl (And.intro (And.intro both_iter both_fn) (And.intro trivial (And.intro trivial (And.intro (And.intro trivial (And.intro trivial trivial)) (And.intro trivial (And.intro trivial (And.intro trivial trivial))))))))) trivial))))) (And.intro trivial trivial)))) (And.intro trivial trivial)))))) rfl (fun x => by kernel_rfl)
/-! law03_awake -/
def law03_awake_C7 : TC := .ret
def law03_awake_C6 : TC := (.seq (.rg [⟨⟨some 27, (.load true 2 (.t 2)), none⟩, {}⟩, ⟨⟨some 28, (.call (.c (.fn 12 [])) [(.t 27), (.c (I 0)), (.c (B false))]), none⟩, {}⟩, ⟨⟨some 29, (.bin .eql (.t 28) (.c (I 100))), none⟩, {}⟩, ⟨⟨some 30, (.mov (.t 29)), none⟩, {}⟩, ⟨⟨some 31, (.load true 2 (.t 3)), some (30, true)⟩, {}⟩,
  ⟨⟨some 32, (.call (.c (.fn 12 [])) [(.t 31), (.c (I 0)), (.c (B false))]), some (30, true)⟩, {}⟩, ⟨⟨some 33, (.bin .eql (.t 32) (.c (I 200))), some (30, true)⟩, {}⟩, ⟨⟨some 34, (.pick (.t 30) (.t 33) (.c (B false))), none⟩, {}⟩, ⟨⟨some 35, (.mov (.t 34)), none⟩, {}⟩, ⟨⟨some 36, (.load true 2 (.t
  2)), some (35, true)⟩, {}⟩, ⟨⟨some 37, (.call (.c (.fn 14 [])) [(.t 36), (.c (I 0)), (.c (B true))]), some (35, true)⟩, {}⟩, ⟨⟨some 38, (.bin .eql (.t 37) (.c (I 300))), some (35, true)⟩, {}⟩, ⟨⟨some 39, (.pick (.t 35) (.t 38) (.c (B false))), none⟩, {}⟩, ⟨⟨some 40, (.mov (.t 39)), none⟩, {}⟩,
  ⟨⟨some 41, (.mov (.t 6)), some (40, true)⟩, {}⟩, ⟨⟨some 42, (.pick (.t 40) (.t 41) (.c (B false))), none⟩, {}⟩, ⟨⟨some 43, (.mov (.t 42)), none⟩, {}⟩, ⟨⟨some 44, (.mov (.t 5)), some (43, true)⟩, {}⟩, ⟨⟨some 45, (.bin .eql (.t 44) (.c (I 100))), some (43, true)⟩, {}⟩, ⟨⟨some 46, (.pick (.t 43) (.t
  45) (.c (B false))), none⟩, {}⟩, ⟨⟨some 47, (.mov (.t 46)), none⟩, {}⟩, ⟨⟨some 48, (.mov (.t 4)), some (47, true)⟩, {}⟩, ⟨⟨some 49, (.bslice false 1 [(I 0)] 1 [(0, (.c (I 0)))]), some (47, true)⟩, ⟨(.int .i64), none⟩⟩, ⟨⟨some 50, (.call (.c (.fn 19 [])) [(.t 48), (.t 49)]), some (47, true)⟩, {}⟩,
  ⟨⟨some 51, (.pick (.t 47) (.t 50) (.c (B false))), none⟩, {}⟩, ⟨⟨some 52, (.mov (.t 51)), none⟩, {}⟩, ⟨⟨some 53, (.load true 2 (.t 2)), some (52, true)⟩, {}⟩, ⟨⟨some 54, (.bslice false 1 [(I 0)] 2 [(0, (.c (I 5))), (1, (.c (I 1099511627776)))]), some (52, true)⟩, ⟨(.int .i64), none⟩⟩, ⟨⟨some 55,
  (.call (.c (.fn 20 [])) [(.t 53), (.t 54)]), some (52, true)⟩, {}⟩, ⟨⟨some 56, (.len (.t 55)), some (52, true)⟩, {}⟩, ⟨⟨some 57, (.bin .eql (.t 56) (.c (I 2))), some (52, true)⟩, {}⟩, ⟨⟨some 58, (.pick (.t 52) (.t 57) (.c (B false))), none⟩, {}⟩, ⟨⟨some 0, (.mov (.t 58)), none⟩, {}⟩] none)
  law03_awake_C7)
def law03_awake_C5 : TC := (.seq (.rg [⟨⟨some 22, (.load true 2 (.t 2)), none⟩, {}⟩, ⟨⟨some 23, (.call (.c (.fn 17 [])) [(.t 22), (.c (I 0)), (.c (I 1))]), none⟩, {}⟩, ⟨⟨some 21, (.mov (.t 23)), none⟩, {}⟩, ⟨⟨some 24, (.extr 0 (.t 21)), none⟩, {}⟩, ⟨⟨some 25, (.extr 1 (.t 21)), none⟩, {}⟩, ⟨⟨some 26, (.extr 2 (.t 21)), none⟩,
  {}⟩, ⟨⟨some 4, (.mov (.t 24)), none⟩, {}⟩, ⟨⟨some 5, (.mov (.t 25)), none⟩, {}⟩, ⟨⟨some 6, (.mov (.t 26)), none⟩, {}⟩] none) law03_awake_C6)
def law03_awake_C4 : TC := (.seq (.rg [⟨⟨some 15, (.build [(I 0), (B false)] []), none⟩, {}⟩, ⟨⟨some 16, (.build [(I 0), (B false)] [(0, (1, (.c (I 20))))]), none⟩, {}⟩, ⟨⟨some 17, (.bslice false 2 [(I 0), (B false)] 2 [(0, (.t 15)), (1, (.t 16))]), none⟩, ⟨G_Place, none⟩⟩, ⟨⟨some 18, (.load true 10 (.t 1)), none⟩, {}⟩, ⟨⟨some
  19, (.bslice false 10 [(I 0), (I 0), (I 0), (I 0), (B false), (B false), (I 0), (I 0), (I 0), (I 0)] 1 [(0, (.t 18))]), none⟩, ⟨G_Road, none⟩⟩, ⟨⟨some 20, (.build [(.lst true []), (.lst true [])] [(0, (1, (.t 17))), (1, (1, (.t 19)))]), none⟩, {}⟩, ⟨⟨some 3, (.alloc [(.lst true []), (.lst true
  [])]), none⟩, {}⟩, ⟨⟨none, (.store 2 (.t 3) (.t 20)), none⟩, {}⟩] none) law03_awake_C5)
def law03_awake_C3 : TC := (.seq (.rg [⟨⟨some 9, (.build [(I 0), (B false)] []), none⟩, {}⟩, ⟨⟨some 10, (.build [(I 0), (B false)] []), none⟩, {}⟩, ⟨⟨some 11, (.bslice false 2 [(I 0), (B false)] 2 [(0, (.t 9)), (1, (.t 10))]), none⟩, ⟨G_Place, none⟩⟩, ⟨⟨some 12, (.load true 10 (.t 1)), none⟩, {}⟩, ⟨⟨some 13, (.bslice false 10
  [(I 0), (I 0), (I 0), (I 0), (B false), (B false), (I 0), (I 0), (I 0), (I 0)] 1 [(0, (.t 12))]), none⟩, ⟨G_Road, none⟩⟩, ⟨⟨some 14, (.build [(.lst true []), (.lst true [])] [(0, (1, (.t 11))), (1, (1, (.t 13)))]), none⟩, {}⟩, ⟨⟨some 2, (.alloc [(.lst true []), (.lst true [])]), none⟩, {}⟩, ⟨⟨none,
  (.store 2 (.t 2) (.t 14)), none⟩, {}⟩] none) law03_awake_C4)
def law03_awake_C2 : TC := (.seq (.rg [⟨⟨some 7, (.build [(I 0), (I 0)] [(0, (1, (.c (I 1)))), (1, (1, (.c (I 1))))]), none⟩, {}⟩, ⟨⟨some 8, (.build [(I 0), (I 0), (I 0), (I 0), (B false), (B false), (I 0), (I 0), (I 0), (I 0)] [(1, (1, (.c (I 1)))), (2, (1, (.c (I 120)))), (3, (1, (.c (I 1)))), (4, (1, (.c (B true)))), (6,
  (2, (.t 7)))]), none⟩, {}⟩, ⟨⟨some 1, (.alloc [(I 0), (I 0), (I 0), (I 0), (B false), (B false), (I 0), (I 0), (I 0), (I 0)]), none⟩, {}⟩, ⟨⟨none, (.store 10 (.t 1) (.t 8)), none⟩, {}⟩] none) law03_awake_C3)
def law03_awake_C1 : TC := (.seq (.rg [⟨⟨some 0, (.mov (.c (B false))), none⟩, {}⟩] none) law03_awake_C2)
def law03_awake_E (N : Nat) : List (Nat × Ent) := [(17, pureE [G_Mine, (.int .i64), (.int .i64)] [(.list (.int .i64)), (.int .i64), .bool] (fun x => walk_Way N x.1 x.2.1 x.2.2)), (12, pureE [G_Mine, (.int .i64), .bool] [(.int .i64)] (fun x => walk_Time N x.1 x.2.1 x.2.2)), (14, pureE [G_Mine, (.int .i64), .bool] [(.int .i64)] (fun x => walk_Slow N x.1 x.2.1 x.2.2)), (19, pureE [(.list (.int .i64)), (.list (.int .i64))] [.bool] (fun x => ref01_Ints N x.1 x.2)), (20, pureE [G_Mine, (.list (.int .i64))] [(.list (.int .i64))] (fun x => walk_Least N x.1 x.2))]
def law03_awake (N : Nat) : Option Bool :=
  Option.bind (walk_Way N ([(0, false), (0, false)], [(0, (1, (120, (1, (true, (false, ((1, 1), (0, 0))))))))]) 0 1) fun r1 =>
  Option.bind (walk_Time N ([(0, false), (0, false)], [(0, (1, (120, (1, (true, (false, ((1, 1), (0, 0))))))))]) 0 false) fun r2 =>
  bif (r2 == 100) then
    Option.bind (walk_Time N ([(0, false), (20, false)], [(0, (1, (120, (1, (true, (false, ((1, 1), (0, 0))))))))]) 0 false) fun r3 =>
    bif (r3 == 200) then
      Option.bind (walk_Slow N ([(0, false), (0, false)], [(0, (1, (120, (1, (true, (false, ((1, 1), (0, 0))))))))]) 0 true) fun r4 =>
      bif (r4 == 300) then
        bif r1.2.2 then
          bif (r1.2.1 == 100) then
            Option.bind (ref01_Ints N r1.1 [0]) fun r5 =>
            bif r5 then
              Option.bind (walk_Least N ([(0, false), (0, false)], [(0, (1, (120, (1, (true, (false, ((1, 1), (0, 0))))))))]) [5, 1099511627776]) fun r6 =>
              some ((r6.length : Int) == 2)
            else
              some false
          else
            some false
        else
          some false
      else
        some false
    else
      some false
  else
    some false
theorem law03_awake_fn : FnOK Try.prog 16 59 (fun _ : Nat => false) law03_awake_C1.er [(.t 0)] := FnOK.mk' Try.func16 (by kernel_rfl) (by kernel_rfl) (by kernel_rfl) (by kernel_rfl) (by kernel_rfl)
theorem law03_awake_envok (N : Nat) : EnvOK Try.prog (law03_awake_E N) := .cons (pureE_ok (walk_Way_pure N)) (.cons (pureE_ok (walk_Time_pure N)) (.cons (pureE_ok (walk_Slow_pure N)) (.cons (pureE_ok (ref01_Ints_pure N)) (.cons (pureE_ok (walk_Least_pure N)) (.nil)))))
theorem law03_awake_pure (N : Nat) : PureOK Try.prog 16 [] [.bool] (fun x => law03_awake N) := pureOK (N := N) mixed law03_awake_fn (law03_awake_envok N) (TC.noh_ok (by kernel_rfl)) rfl (fun x => by kernel_rfl)
/-! law03_WalkTimes -/
def law03_WalkTimes_N1 : List NS := [.wk 20 (.list (.int .i64)), .keep [2, 7, 20, 21, 22], .cmp]
def law03_WalkTimes_C13 : TC := .ret
def law03_WalkTimes_C12 : TC := (.cond (.t 45) (.seq (.rg [⟨⟨some 6, (.mov (.c (B false))), none⟩, {}⟩] none) law03_WalkTimes_C13) .skip)
def law03_WalkTimes_C9 : TC := (.seq (.rg [⟨⟨some 26, (.load true 2 (.t 7)), none⟩, {}⟩, ⟨⟨some 27, (.mov (.t 9)), none⟩, {}⟩, ⟨⟨some 28, (.mov (.t 2)), none⟩, {}⟩, ⟨⟨some 29, (.call (.c (.fn 12 [])) [(.t 26), (.t 27), (.t 28)]), none⟩, {}⟩, ⟨⟨some 30, (.load true 2 (.t 7)), none⟩, {}⟩, ⟨⟨some 31, (.mov (.t 9)), none⟩, {}⟩, ⟨⟨some
  32, (.mov (.t 2)), none⟩, {}⟩, ⟨⟨some 33, (.call (.c (.fn 13 [])) [(.t 30), (.t 31), (.t 32)]), none⟩, {}⟩, ⟨⟨some 34, (.bin .neq (.t 29) (.t 33)), none⟩, {}⟩, ⟨⟨some 35, (.mov (.t 34)), none⟩, {}⟩, ⟨⟨some 36, (.load true 2 (.t 7)), some (35, false)⟩, {}⟩, ⟨⟨some 37, (.mov (.t 9)), some (35,
  false)⟩, {}⟩, ⟨⟨some 38, (.mov (.t 2)), some (35, false)⟩, {}⟩, ⟨⟨some 39, (.call (.c (.fn 14 [])) [(.t 36), (.t 37), (.t 38)]), some (35, false)⟩, {}⟩, ⟨⟨some 40, (.load true 2 (.t 7)), some (35, false)⟩, {}⟩, ⟨⟨some 41, (.mov (.t 9)), some (35, false)⟩, {}⟩, ⟨⟨some 42, (.mov (.t 2)), some (35,
  false)⟩, {}⟩, ⟨⟨some 43, (.call (.c (.fn 15 [])) [(.t 40), (.t 41), (.t 42)]), some (35, false)⟩, {}⟩, ⟨⟨some 44, (.bin .neq (.t 39) (.t 43)), some (35, false)⟩, {}⟩, ⟨⟨some 45, (.pick (.t 35) (.c (B true)) (.t 44)), none⟩, {}⟩] (some [(3, 4), (13, 14)])) law03_WalkTimes_C12)
def law03_WalkTimes_C10 : TC := (.rg [⟨⟨some 46, (.bin .add (.t 22) (.c (I 1))), none⟩, {}⟩, ⟨⟨some 22, (.mov (.t 46)), none⟩, {}⟩] none)
def law03_WalkTimes_C7 : TC := (.seq (.block 1 (.seq (.rg [⟨⟨some 24, (.iadrS 1 (.t 20) (.t 22)), none⟩, {}⟩, ⟨⟨some 25, (.load false 1 (.t 24)), none⟩, {}⟩, ⟨⟨some 9, (.mov (.t 25)), none⟩, {}⟩] none) law03_WalkTimes_C9)) law03_WalkTimes_C10)
def law03_WalkTimes_C4 : TC := (.seq (.cond (.t 23) .skip (.exit 0)) law03_WalkTimes_C7)
def law03_WalkTimes_C1 : TC := (.seq (.rg [⟨⟨some 23, (.bin .lss (.t 22) (.t 21)), none⟩, {}⟩] none) law03_WalkTimes_C4)
def law03_WalkTimes_C5 : TC := .ret
def law03_WalkTimes_C2 : TC := (.seq (.rg [⟨⟨some 47, (.call (.c (.fn 16 [])) []), none⟩, {}⟩, ⟨⟨some 6, (.mov (.t 47)), none⟩, {}⟩] none) law03_WalkTimes_C5)
def law03_WalkTimes_C11 : TC := (.block 0 (.loop law03_WalkTimes_N1 law03_WalkTimes_C1))
def law03_WalkTimes_C8 : TC := (.seq (.seq (.rg [⟨⟨some 13, (.mov (.t 1)), none⟩, {}⟩, ⟨⟨some 14, (.mov (.t 1)), none⟩, {}⟩, ⟨⟨some 15, (.fadr 1 (.t 7)), none⟩, {}⟩, ⟨⟨some 16, (.load false 1 (.t 15)), none⟩, {}⟩, ⟨⟨some 17, (.len (.t 16)), none⟩, {}⟩, ⟨⟨some 18, (.bin .add (.t 17) (.c (I 1))), none⟩, {}⟩, ⟨⟨some 19, (.call (.c
  (.fn 11 [])) [(.t 14), (.t 18)]), none⟩, {}⟩, ⟨⟨some 20, (.bslice false 1 [(I 0)] 2 [(0, (.t 13)), (1, (.t 19))]), none⟩, ⟨(.int .i64), none⟩⟩, ⟨⟨some 21, (.len (.t 20)), none⟩, {}⟩, ⟨⟨some 22, (.mov (.c (I 0))), none⟩, {}⟩] none) law03_WalkTimes_C11) law03_WalkTimes_C2)
def law03_WalkTimes_C6 : TC := (.seq (.rg [⟨⟨some 10, (.mov (.t 0)), none⟩, {}⟩, ⟨⟨some 11, (.call (.c (.fn 9 [])) [(.t 10)]), none⟩, {}⟩, ⟨⟨some 12, (.call (.c (.fn 10 [])) [(.t 11)]), none⟩, {}⟩, ⟨⟨some 7, (.alloc [(.lst true []), (.lst true [])]), none⟩, {}⟩, ⟨⟨none, (.store 2 (.t 7) (.t 12)), none⟩, {}⟩] none)
  law03_WalkTimes_C8)
def law03_WalkTimes_C3 : TC := (.seq (.rg [⟨⟨some 6, (.mov (.c (B false))), none⟩, {}⟩] none) law03_WalkTimes_C6)
def law03_WalkTimes_E (N : Nat) : List (Nat × Ent) := [(9, sfE [none] [.v (.list (.int .u8))] [.n G_Codes] (fun x => draw_New N x)), (10, sfE [none] [.b (.v G_Codes)] [.v G_Mine] (fun x => draw_Codes_Mine N x)), (11, pureE [(.int .i64), (.int .i64)] [(.int .i64)] (fun x => draw_Mod N x.1 x.2)), (12, pureE [G_Mine, (.int .i64), .bool] [(.int .i64)] (fun x => walk_Time N x.1 x.2.1 x.2.2)), (13, pureE [G_Mine, (.int .i64), .bool] [(.int .i64)] (fun x => ref03_Time N x.1 x.2.1 x.2.2)), (14, pureE [G_Mine, (.int .i64), .bool] [(.int .i64)] (fun x => walk_Slow N x.1 x.2.1 x.2.2)), (15, pureE [G_Mine, (.int .i64), .bool] [(.int .i64)] (fun x => ref03_Slow N x.1 x.2.1 x.2.2)), (16, pureE [] [.bool] (fun x => law03_awake N))]
def law03_WalkTimes_L1 (N : Nat) (n : Nat) (x5 : Bool) (x6 : List Int) (x7 : Int) (x8 : Int) (x9 : List T_Place) (x10 : List T_Road) : Option Bool := loopN (normI 0 law03_WalkTimes_N1) (run (law03_WalkTimes_E N) N 0 law03_WalkTimes_C1) n ⟨[(2, .bool x5), (7, .ptr 0 0 0), (20, .lst false (.int .i64) x6), (21, .int .i64 x7), (22, .int .i64 x8)], [some (.box 0 [.lst false G_Place x9, .lst false G_Road x10])]⟩ (blkK 0 (seqK (run (law03_WalkTimes_E N) N 0 law03_WalkTimes_C2) (fin [(.t 6)] [.bool])))
theorem law03_WalkTimes_L1_zero (N : Nat) (x5 : Bool) (x6 : List Int) (x7 : Int) (x8 : Int) (x9 : List T_Place) (x10 : List T_Road) : law03_WalkTimes_L1 N 0 x5 x6 x7 x8 x9 x10 = none := rfl
theorem law03_WalkTimes_L1_succ (N : Nat) (n1 : Nat) (x5 : Bool) (x6 : List Int) (x7 : Int) (x8 : Int) (x9 : List T_Place) (x10 : List T_Road) : law03_WalkTimes_L1 N (n1 + 1) x5 x6 x7 x8 x9 x10 =
  bif (decide (x8 < x7)) then
    bif inB x8 x6.length then
    Option.bind (walk_Time N (x9, x10) (x6.getD x8.toNat 0) x5) fun r11 =>
    Option.bind (ref03_Time N (x9, x10) (x6.getD x8.toNat 0) x5) fun r12 =>
    bif (r11 != r12) then
      some false
    else
      Option.bind (walk_Slow N (x9, x10) (x6.getD x8.toNat 0) x5) fun r13 =>
      Option.bind (ref03_Slow N (x9, x10) (x6.getD x8.toNat 0) x5) fun r14 =>
      bif (r13 != r14) then
        some false
      else
        law03_WalkTimes_L1 N n1 x5 x6 x7 (W (x8 + 1)) x9 x10
    else none
  else
    Option.bind (law03_awake N) fun r21 =>
    some r21 := by kernel_rfl
def law03_WalkTimes (N : Nat) (a0 : List Int) (a1 : Int) (a2 : Bool) : Option Bool :=
  Option.bind (draw_New N a0) fun r1 =>
  Option.bind (draw_Codes_Mine N r1.1) fun r2 =>
  Option.bind (draw_Mod N a1 (W ((r2.1.2.length : Int) + 1))) fun r4 =>
  law03_WalkTimes_L1 N N a2 [a1, r4] ([a1, r4].length : Int) 0 r2.1.1 r2.1.2
theorem law03_WalkTimes_fn : FnOK Try.prog 3 48 (fun _ : Nat => false) law03_WalkTimes_C3.er [(.t 6)] := FnOK.mk' Try.func3 (by kernel_rfl) (by kernel_rfl) (by kernel_rfl) (by kernel_rfl) (by kernel_rfl)
theorem law03_WalkTimes_envok (N : Nat) : EnvOK Try.prog (law03_WalkTimes_E N) := .cons (sfE_ok (draw_New_sf N)) (.cons (sfE_ok (draw_Codes_Mine_sf N)) (.cons (pureE_ok (draw_Mod_pure N)) (.cons (pureE_ok (walk_Time_pure N)) (.cons (pureE_ok (ref03_Time_pure N)) (.cons (pureE_ok (walk_Slow_pure N)) (.cons (pureE_ok (ref03_Slow_pure N)) (.cons (pureE_ok (law03_awake_pure N)) (.nil))))))))
theorem law03_WalkTimes_pure (N : Nat) : PureOK Try.prog 3 [(.list (.int .u8)), (.int .i64), .bool] [.bool] (fun x => law03_WalkTimes N x.1 x.2.1 x.2.2) := pureOK (N := N) mixed law03_WalkTimes_fn (law03_WalkTimes_envok N) (TC.noh_ok (by kernel_rfl)) rfl (fun x => by kernel_rfl)
/-! ref03_to -/
def ref03_to_N1 : List NS := [.wk 6 (.list (.int .i64)), .wk 7 (.list (.int .i64)), .keep [1, 2, 6, 7, 8], .cmp]
def ref03_to_N2 : List NS := [.wk 6 (.list (.int .i64)), .wk 7 (.list (.int .i64)), .keep [2, 6, 7, 9], .cmp]
def ref03_to_N3 : List NS := [.wk 6 (.list (.int .i64)), .wk 7 (.list (.int .i64)), .keep [2, 6, 7, 9, 10], .cmp]
def ref03_to_N4 : List NS := [.wk 6 (.list (.int .i64)), .wk 7 (.list (.int .i64)), .keep [2, 6, 7, 9, 10, 11], .cmp]
def ref03_to_C11 : TC := (.cond (.t 114) (.rg [⟨⟨some 115, (.mov (.t 6)), none⟩, {}⟩, ⟨⟨some 116, (.mov (.t 12)), none⟩, {}⟩, ⟨⟨some 117, (.mov (.t 7)), none⟩, {}⟩, ⟨⟨some 118, (.mov (.t 12)), none⟩, {}⟩, ⟨⟨some 119, (.mov (.t 6)), none⟩, {}⟩, ⟨⟨some 120, (.mov (.t 13)), none⟩, {}⟩, ⟨⟨some 121, (.iadrS 1 (.t 119) (.t 120)),
  none⟩, {}⟩, ⟨⟨some 122, (.load false 1 (.t 121)), none⟩, {}⟩, ⟨⟨some 123, (.mov (.t 14)), none⟩, {}⟩, ⟨⟨some 124, (.bin .add (.t 122) (.t 123)), none⟩, {}⟩, ⟨⟨some 125, (.mov (.t 7)), none⟩, {}⟩, ⟨⟨some 126, (.mov (.t 13)), none⟩, {}⟩, ⟨⟨some 127, (.iadrS 1 (.t 125) (.t 126)), none⟩, {}⟩, ⟨⟨some
  128, (.load false 1 (.t 127)), none⟩, {}⟩, ⟨⟨some 129, (.bin .add (.t 128) (.c (I 1))), none⟩, {}⟩, ⟨⟨some 130, (.iadrS 1 (.t 115) (.t 116)), none⟩, {}⟩, ⟨⟨none, (.store 1 (.t 130) (.t 124)), none⟩, {}⟩, ⟨⟨some 131, (.iadrS 1 (.t 117) (.t 118)), none⟩, {}⟩, ⟨⟨none, (.store 1 (.t 131) (.t 129)),
  none⟩, {}⟩, ⟨⟨some 9, (.mov (.c (B true))), none⟩, {}⟩] (some [])) .skip)
def ref03_to_C1 : TC := (.seq (.rg [⟨⟨some 72, (.mov (.t 6)), none⟩, {}⟩, ⟨⟨some 73, (.mov (.t 12)), none⟩, {}⟩, ⟨⟨some 74, (.iadrS 1 (.t 72) (.t 73)), none⟩, {}⟩, ⟨⟨some 75, (.load false 1 (.t 74)), none⟩, {}⟩, ⟨⟨some 76, (.bin .lss (.t 75) (.c (I 0))), none⟩, {}⟩, ⟨⟨some 77, (.mov (.t 76)), none⟩, {}⟩, ⟨⟨some 78, (.mov
  (.t 6)), some (77, false)⟩, {}⟩, ⟨⟨some 79, (.mov (.t 13)), some (77, false)⟩, {}⟩, ⟨⟨some 80, (.iadrS 1 (.t 78) (.t 79)), some (77, false)⟩, {}⟩, ⟨⟨some 81, (.load false 1 (.t 80)), some (77, false)⟩, {}⟩, ⟨⟨some 82, (.mov (.t 14)), some (77, false)⟩, {}⟩, ⟨⟨some 83, (.bin .add (.t 81) (.t 82)),
  some (77, false)⟩, {}⟩, ⟨⟨some 84, (.mov (.t 6)), some (77, false)⟩, {}⟩, ⟨⟨some 85, (.mov (.t 12)), some (77, false)⟩, {}⟩, ⟨⟨some 86, (.iadrS 1 (.t 84) (.t 85)), some (77, false)⟩, {}⟩, ⟨⟨some 87, (.load false 1 (.t 86)), some (77, false)⟩, {}⟩, ⟨⟨some 88, (.bin .lss (.t 83) (.t 87)), some (77,
  false)⟩, {}⟩, ⟨⟨some 89, (.pick (.t 77) (.c (B true)) (.t 88)), none⟩, {}⟩, ⟨⟨some 90, (.mov (.t 89)), none⟩, {}⟩, ⟨⟨some 91, (.mov (.t 6)), some (90, false)⟩, {}⟩, ⟨⟨some 92, (.mov (.t 13)), some (90, false)⟩, {}⟩, ⟨⟨some 93, (.iadrS 1 (.t 91) (.t 92)), some (90, false)⟩, {}⟩, ⟨⟨some 94, (.load
  false 1 (.t 93)), some (90, false)⟩, {}⟩, ⟨⟨some 95, (.mov (.t 14)), some (90, false)⟩, {}⟩, ⟨⟨some 96, (.bin .add (.t 94) (.t 95)), some (90, false)⟩, {}⟩, ⟨⟨some 97, (.mov (.t 6)), some (90, false)⟩, {}⟩, ⟨⟨some 98, (.mov (.t 12)), some (90, false)⟩, {}⟩, ⟨⟨some 99, (.iadrS 1 (.t 97) (.t 98)),
  some (90, false)⟩, {}⟩, ⟨⟨some 100, (.load false 1 (.t 99)), some (90, false)⟩, {}⟩, ⟨⟨some 101, (.bin .eql (.t 96) (.t 100)), some (90, false)⟩, {}⟩, ⟨⟨some 102, (.mov (.t 101)), some (90, false)⟩, {}⟩, ⟨⟨some 103, (.mov (.t 7)), some (102, true)⟩, {}⟩, ⟨⟨some 104, (.mov (.t 13)), some (102,
  true)⟩, {}⟩, ⟨⟨some 105, (.iadrS 1 (.t 103) (.t 104)), some (102, true)⟩, {}⟩, ⟨⟨some 106, (.load false 1 (.t 105)), some (102, true)⟩, {}⟩, ⟨⟨some 107, (.bin .add (.t 106) (.c (I 1))), some (102, true)⟩, {}⟩, ⟨⟨some 108, (.mov (.t 7)), some (102, true)⟩, {}⟩, ⟨⟨some 109, (.mov (.t 12)), some (102,
  true)⟩, {}⟩, ⟨⟨some 110, (.iadrS 1 (.t 108) (.t 109)), some (102, true)⟩, {}⟩, ⟨⟨some 111, (.load false 1 (.t 110)), some (102, true)⟩, {}⟩, ⟨⟨some 112, (.bin .lss (.t 107) (.t 111)), some (102, true)⟩, {}⟩, ⟨⟨some 113, (.pick (.t 102) (.t 112) (.c (B false))), some (90, false)⟩, {}⟩, ⟨⟨some 114,
  (.pick (.t 90) (.c (B true)) (.t 113)), none⟩, {}⟩] (some [])) ref03_to_C11)
def ref03_to_C2 : TC := (.rg [⟨⟨some 45, (.mov (.t 11)), none⟩, {}⟩, ⟨⟨some 46, (.bin .add (.t 45) (.c (I 1))), none⟩, {}⟩, ⟨⟨some 11, (.mov (.t 46)), none⟩, {}⟩] none)
def ref03_to_C12 : TC := (.cond (.t 44) .skip (.exit 6))
def ref03_to_C33 : TC := (.cond (.t 71) (.exit 7) .skip)
def ref03_to_C34 : TC := (.join [.wk 6 (.list (.int .i64)), .wk 7 (.list (.int .i64)), .keep [2, 6, 7, 9, 10, 11, 12, 13, 14], .cmp] ref03_to_C1)
def ref03_to_C30 : TC := (.seq (.seq (.rg [⟨⟨some 63, (.mov (.t 14)), none⟩, {}⟩, ⟨⟨some 64, (.bin .lss (.t 63) (.c (I 0))), none⟩, {}⟩, ⟨⟨some 65, (.mov (.t 64)), none⟩, {}⟩, ⟨⟨some 66, (.mov (.t 6)), some (65, false)⟩, {}⟩, ⟨⟨some 67, (.mov (.t 13)), some (65, false)⟩, {}⟩, ⟨⟨some 68, (.iadrS 1 (.t 66) (.t 67)), some (65,
  false)⟩, {}⟩, ⟨⟨some 69, (.load false 1 (.t 68)), some (65, false)⟩, {}⟩, ⟨⟨some 70, (.bin .lss (.t 69) (.c (I 0))), some (65, false)⟩, {}⟩, ⟨⟨some 71, (.pick (.t 65) (.c (B true)) (.t 70)), none⟩, {}⟩] none) ref03_to_C33) ref03_to_C34)
def ref03_to_C23 : TC := (.seq (.rg [⟨⟨some 58, (.load true 2 (.t 2)), none⟩, {}⟩, ⟨⟨some 59, (.mov (.t 10)), none⟩, {}⟩, ⟨⟨some 60, (.mov (.t 11)), none⟩, {}⟩, ⟨⟨some 61, (.bin .eql (.t 60) (.c (I 1))), none⟩, {}⟩, ⟨⟨some 62, (.call (.c (.fn 13 [])) [(.t 58), (.t 59), (.t 61)]), none⟩, {}⟩, ⟨⟨some 14, (.mov (.t 62)), none⟩,
  {}⟩] none) ref03_to_C30)
def ref03_to_C13 : TC := (.seq (.block 7 (.seq (.rg [⟨⟨some 48, (.fadr 1 (.t 2)), none⟩, {}⟩, ⟨⟨some 49, (.load false 1 (.t 48)), none⟩, {}⟩, ⟨⟨some 50, (.mov (.t 10)), none⟩, {}⟩, ⟨⟨some 51, (.iadrS 10 (.t 49) (.t 50)), none⟩, {}⟩, ⟨⟨some 52, (.load true 10 (.t 51)), none⟩, {}⟩, ⟨⟨some 53, (.mov (.t 11)), none⟩, {}⟩, ⟨⟨some
  54, (.bin .eql (.t 53) (.c (I 1))), none⟩, {}⟩, ⟨⟨some 55, (.call (.c (.fn 41 [])) [(.t 52), (.t 54)]), none⟩, {}⟩, ⟨⟨some 47, (.mov (.t 55)), none⟩, {}⟩, ⟨⟨some 56, (.extr 0 (.t 47)), none⟩, {}⟩, ⟨⟨some 57, (.extr 1 (.t 47)), none⟩, {}⟩, ⟨⟨some 12, (.mov (.t 56)), none⟩, {}⟩, ⟨⟨some 13, (.mov (.t
  57)), none⟩, {}⟩] none) ref03_to_C23)) ref03_to_C2)
def ref03_to_C3 : TC := (.seq (.seq (.rg [⟨⟨some 43, (.mov (.t 11)), none⟩, {}⟩, ⟨⟨some 44, (.bin .lss (.t 43) (.c (I 2))), none⟩, {}⟩] none) ref03_to_C12) ref03_to_C13)
def ref03_to_C4 : TC := (.rg [⟨⟨some 41, (.mov (.t 10)), none⟩, {}⟩, ⟨⟨some 42, (.bin .add (.t 41) (.c (I 1))), none⟩, {}⟩, ⟨⟨some 10, (.mov (.t 42)), none⟩, {}⟩] none)
def ref03_to_C14 : TC := (.cond (.t 40) .skip (.exit 4))
def ref03_to_C24 : TC := (.block 6 (.loop ref03_to_N4 ref03_to_C3))
def ref03_to_C15 : TC := (.seq (.block 5 (.seq (.rg [⟨⟨some 11, (.mov (.c (I 0))), none⟩, {}⟩] none) ref03_to_C24)) ref03_to_C4)
def ref03_to_C5 : TC := (.seq (.seq (.rg [⟨⟨some 36, (.mov (.t 10)), none⟩, {}⟩, ⟨⟨some 37, (.fadr 1 (.t 2)), none⟩, {}⟩, ⟨⟨some 38, (.load false 1 (.t 37)), none⟩, {}⟩, ⟨⟨some 39, (.len (.t 38)), none⟩, {}⟩, ⟨⟨some 40, (.bin .lss (.t 36) (.t 39)), none⟩, {}⟩] none) ref03_to_C14) ref03_to_C15)
def ref03_to_C16 : TC := (.cond (.t 35) .skip (.exit 2))
def ref03_to_C31 : TC := (.block 4 (.loop ref03_to_N3 ref03_to_C5))
def ref03_to_C25 : TC := (.seq (.rg [⟨⟨some 10, (.mov (.c (I 0))), none⟩, {}⟩] none) ref03_to_C31)
def ref03_to_C17 : TC := (.block 3 (.seq (.rg [⟨⟨some 9, (.mov (.c (B false))), none⟩, {}⟩] none) ref03_to_C25))
def ref03_to_C6 : TC := (.seq (.seq (.rg [⟨⟨some 35, (.mov (.t 9)), none⟩, {}⟩] none) ref03_to_C16) ref03_to_C17)
def ref03_to_C26 : TC := .ret
def ref03_to_C18 : TC := (.pre [.frz 4, .frz 5] ref03_to_C26)
def ref03_to_C7 : TC := (.seq (.rg [⟨⟨some 132, (.mov (.t 6)), none⟩, {}⟩, ⟨⟨some 133, (.mov (.t 7)), none⟩, {}⟩, ⟨⟨some 4, (.mov (.t 132)), none⟩, {}⟩, ⟨⟨some 5, (.mov (.t 133)), none⟩, {}⟩] none) ref03_to_C18)
def ref03_to_C19 : TC := (.cond (.t 26) .skip (.exit 0))
def ref03_to_C27 : TC := (.rg [⟨⟨some 27, (.mov (.t 8)), none⟩, {}⟩, ⟨⟨some 28, (.bin .add (.t 27) (.c (I 1))), none⟩, {}⟩, ⟨⟨some 8, (.mov (.t 28)), none⟩, {}⟩] none)
def ref03_to_C20 : TC := (.seq (.block 1 (.rg [⟨⟨some 29, (.mov (.t 6)), none⟩, {}⟩, ⟨⟨some 30, (.mov (.t 8)), none⟩, {}⟩, ⟨⟨some 31, (.iadrS 1 (.t 29) (.t 30)), none⟩, {}⟩, ⟨⟨none, (.store 1 (.t 31) (.c (I (-1)))), none⟩, {}⟩] none)) ref03_to_C27)
def ref03_to_C8 : TC := (.seq (.seq (.rg [⟨⟨some 23, (.mov (.t 8)), none⟩, {}⟩, ⟨⟨some 24, (.mov (.t 6)), none⟩, {}⟩, ⟨⟨some 25, (.len (.t 24)), none⟩, {}⟩, ⟨⟨some 26, (.bin .lss (.t 23) (.t 25)), none⟩, {}⟩] none) ref03_to_C19) ref03_to_C20)
def ref03_to_C28 : TC := (.block 2 (.loop ref03_to_N2 ref03_to_C6))
def ref03_to_C21 : TC := (.seq (.seq (.rg [⟨⟨some 9, (.mov (.c (B true))), none⟩, {}⟩] none) ref03_to_C28) ref03_to_C7)
def ref03_to_C9 : TC := (.seq (.rg [⟨⟨some 32, (.mov (.t 6)), none⟩, {}⟩, ⟨⟨some 33, (.mov (.t 1)), none⟩, {}⟩, ⟨⟨some 34, (.iadrS 1 (.t 32) (.t 33)), none⟩, {}⟩, ⟨⟨none, (.store 1 (.t 34) (.c (I 0))), none⟩, {}⟩] none) ref03_to_C21)
def ref03_to_C32 : TC := (.block 0 (.loop ref03_to_N1 ref03_to_C8))
def ref03_to_C29 : TC := (.seq (.seq (.rg [⟨⟨some 8, (.mov (.c (I 0))), none⟩, {}⟩] none) ref03_to_C32) ref03_to_C9)
def ref03_to_C22 : TC := (.seq (.pre [.wait, .wait] (.rg [⟨⟨some 15, (.fadr 0 (.t 2)), none⟩, {}⟩, ⟨⟨some 16, (.load false 1 (.t 15)), none⟩, {}⟩, ⟨⟨some 17, (.len (.t 16)), none⟩, {}⟩, ⟨⟨some 18, (.mksl 1 8 [(I 0)] (.t 17) (.t 17)), none⟩, ⟨(.int .i64), some 1⟩⟩, ⟨⟨some 19, (.fadr 0 (.t 2)), none⟩, {}⟩, ⟨⟨some 20, (.load
  false 1 (.t 19)), none⟩, {}⟩, ⟨⟨some 21, (.len (.t 20)), none⟩, {}⟩, ⟨⟨some 22, (.mksl 1 8 [(I 0)] (.t 21) (.t 21)), none⟩, ⟨(.int .i64), some 2⟩⟩, ⟨⟨some 6, (.mov (.t 18)), none⟩, {}⟩, ⟨⟨some 7, (.mov (.t 22)), none⟩, {}⟩] (some [(3, 4), (3, 5), (3, 6), (0, 7), (1, 7), (2, 7), (3, 7)])))
  ref03_to_C29)
def ref03_to_C10 : TC := (.seq (.rg [⟨⟨some 2, (.box (.t 0)), none⟩, {}⟩, ⟨⟨some 4, (.mov (.c (.lst true []))), none⟩, {}⟩, ⟨⟨some 5, (.mov (.c (.lst true []))), none⟩, {}⟩] none) ref03_to_C22)
def ref03_to_E (N : Nat) : List (Nat × Ent) := [(41, pureE [G_Road, .bool] [(.int .i64), (.int .i64)] (fun x => ref03_ends N x.1 x.2)), (13, pureE [G_Mine, (.int .i64), .bool] [(.int .i64)] (fun x => ref03_Time N x.1 x.2.1 x.2.2))]
def ref03_to_J1 (N n4 n3 n2 : Nat) (x52 : Bool) (x53 : Int) (x54 : Int) (x55 : Int) (x56 : Int) (x57 : Int) (x58 : List T_Place) (x59 : List T_Road) (x60 : List Int) (x61 : List Int) : Option ((List Int) × List Int) := joinN (run (ref03_to_E N) N 0 ref03_to_C1) N ⟨[(2, .ptr 0 0 0), (6, .whole 1), (7, .whole 2), (9, .bool x52), (10, .int .i64 x53), (11, .int .i64 x54), (12, .int .i64 x55), (13, .int .i64 x56), (14, .int .i64 x57)], [some (.box 0 [.lst false G_Place x58, .lst false G_Road x59]), some (.arr (.int .i64) x60), some (.arr (.int .i64) x61)]⟩ (blkK 7 (seqK (run (ref03_to_E N) N 0 ref03_to_C2) (seqK (nextL (normI 0 ref03_to_N4) (loopN (normI 0 ref03_to_N4) (run (ref03_to_E N) N 0 ref03_to_C3) n4)) (blkK 6 (blkK 5 (seqK (run (ref03_to_E N) N 0 ref03_to_C4) (seqK (nextL (normI 0 ref03_to_N3) (loopN (normI 0 ref03_to_N3) (run (ref03_to_E N) N 0 ref03_to_C5) n3)) (blkK 4 (blkK 3 (seqK (nextL (normI 0 ref03_to_N2) (loopN (normI 0 ref03_to_N2) (run (ref03_to_E N) N 0 ref03_to_C6) n2)) (blkK 2 (seqK (run (ref03_to_E N) N 0 ref03_to_C7) (fin [(.t 4), (.t 5)] [(.list (.int .i64)), (.list (.int .i64))])))))))))))))
def ref03_to_L4 (N n3 n2 : Nat) (n : Nat) (x28 : Bool) (x29 : Int) (x30 : Int) (x31 : List T_Place) (x32 : List T_Road) (x33 : List Int) (x34 : List Int) : Option ((List Int) × List Int) := loopN (normI 0 ref03_to_N4) (run (ref03_to_E N) N 0 ref03_to_C3) n ⟨[(2, .ptr 0 0 0), (6, .whole 1), (7, .whole 2), (9, .bool x28), (10, .int .i64 x29), (11, .int .i64 x30)], [some (.box 0 [.lst false G_Place x31, .lst false G_Road x32]), some (.arr (.int .i64) x33), some (.arr (.int .i64) x34)]⟩ (blkK 6 (blkK 5 (seqK (run (ref03_to_E N) N 0 ref03_to_C4) (seqK (nextL (normI 0 ref03_to_N3) (loopN (normI 0 ref03_to_N3) (run (ref03_to_E N) N 0 ref03_to_C5) n3)) (blkK 4 (blkK 3 (seqK (nextL (normI 0 ref03_to_N2) (loopN (normI 0 ref03_to_N2) (run (ref03_to_E N) N 0 ref03_to_C6) n2)) (blkK 2 (seqK (run (ref03_to_E N) N 0 ref03_to_C7) (fin [(.t 4), (.t 5)] [(.list (.int .i64)), (.list (.int .i64))]))))))))))
def ref03_to_L3 (N n2 : Nat) (n : Nat) (x22 : Bool) (x23 : Int) (x24 : List T_Place) (x25 : List T_Road) (x26 : List Int) (x27 : List Int) : Option ((List Int) × List Int) := loopN (normI 0 ref03_to_N3) (run (ref03_to_E N) N 0 ref03_to_C5) n ⟨[(2, .ptr 0 0 0), (6, .whole 1), (7, .whole 2), (9, .bool x22), (10, .int .i64 x23)], [some (.box 0 [.lst false G_Place x24, .lst false G_Road x25]), some (.arr (.int .i64) x26), some (.arr (.int .i64) x27)]⟩ (blkK 4 (blkK 3 (seqK (nextL (normI 0 ref03_to_N2) (loopN (normI 0 ref03_to_N2) (run (ref03_to_E N) N 0 ref03_to_C6) n2)) (blkK 2 (seqK (run (ref03_to_E N) N 0 ref03_to_C7) (fin [(.t 4), (.t 5)] [(.list (.int .i64)), (.list (.int .i64))]))))))
def ref03_to_L2 (N : Nat) (n : Nat) (x17 : Bool) (x18 : List T_Place) (x19 : List T_Road) (x20 : List Int) (x21 : List Int) : Option ((List Int) × List Int) := loopN (normI 0 ref03_to_N2) (run (ref03_to_E N) N 0 ref03_to_C6) n ⟨[(2, .ptr 0 0 0), (6, .whole 1), (7, .whole 2), (9, .bool x17)], [some (.box 0 [.lst false G_Place x18, .lst false G_Road x19]), some (.arr (.int .i64) x20), some (.arr (.int .i64) x21)]⟩ (blkK 2 (seqK (run (ref03_to_E N) N 0 ref03_to_C7) (fin [(.t 4), (.t 5)] [(.list (.int .i64)), (.list (.int .i64))])))
def ref03_to_L1 (N : Nat) (n : Nat) (x3 : Int) (x4 : Int) (x5 : List T_Place) (x6 : List T_Road) (x7 : List Int) (x8 : List Int) : Option ((List Int) × List Int) := loopN (normI 0 ref03_to_N1) (run (ref03_to_E N) N 0 ref03_to_C8) n ⟨[(1, .int .i64 x3), (2, .ptr 0 0 0), (6, .whole 1), (7, .whole 2), (8, .int .i64 x4)], [some (.box 0 [.lst false G_Place x5, .lst false G_Road x6]), some (.arr (.int .i64) x7), some (.arr (.int .i64) x8)]⟩ (blkK 0 (seqK (run (ref03_to_E N) N 0 ref03_to_C9) (fin [(.t 4), (.t 5)] [(.list (.int .i64)), (.list (.int .i64))])))
theorem ref03_to_J1_eqM (N JM n4 n3 n2 : Nat) (x52 : Bool) (x53 : Int) (x54 : Int) (x55 : Int) (x56 : Int) (x57 : Int) (x58 : List T_Place) (x59 : List T_Road) (x60 : List Int) (x61 : List Int) : joinN (run (ref03_to_E N) N 0 ref03_to_C1) (JM + 1) ⟨[(2, .ptr 0 0 0), (6, .whole 1), (7, .whole 2), (9, .bool x52), (10, .int .i64 x53), (11, .int .i64 x54), (12, .int .i64 x55), (13, .int .i64 x56), (14, .int .i64 x57)], [some (.box 0 [.lst false G_Place x58, .lst false G_Road x59]), some (.arr (.int .i64) x60), some (.arr (.int .i64) x61)]⟩ (blkK 7 (seqK (run (ref03_to_E N) N 0 ref03_to_C2) (seqK (nextL (normI 0 ref03_to_N4) (loopN (normI 0 ref03_to_N4) (run (ref03_to_E N) N 0 ref03_to_C3) n4)) (blkK 6 (blkK 5 (seqK (run (ref03_to_E N) N 0 ref03_to_C4) (seqK (nextL (normI 0 ref03_to_N3) (loopN (normI 0 ref03_to_N3) (run (ref03_to_E N) N 0 ref03_to_C5) n3)) (blkK 4 (blkK 3 (seqK (nextL (normI 0 ref03_to_N2) (loopN (normI 0 ref03_to_N2) (run (ref03_to_E N) N 0 ref03_to_C6) n2)) (blkK 2 (seqK (run (ref03_to_E N) N 0 ref03_to_C7) (fin [(.t 4), (.t 5)] [(.list (.int .i64)), (.list (.int .i64))]))))))))))))) =
  bif inB x55 x60.length then
  bif (decide ((x60.getD x55.toNat 0) < 0)) then
    bif inB x56 x60.length then
    bif inB x56 x61.length then
    bif inB x55 x60.length then
    bif inB x55 x61.length then
    ref03_to_L4 N n3 n2 n4 true x53 (W (x54 + 1)) x58 x59 (x60.set x55.toNat (W ((x60.getD x56.toNat 0) + x57))) (x61.set x55.toNat (W ((x61.getD x56.toNat 0) + 1)))
    else none
    else none
    else none
    else none
  else
    bif inB x56 x60.length then
    bif inB x55 x60.length then
    bif (decide ((W ((x60.getD x56.toNat 0) + x57)) < (x60.getD x55.toNat 0))) then
      bif inB x56 x60.length then
      bif inB x56 x61.length then
      bif inB x55 x60.length then
      bif inB x55 x61.length then
      ref03_to_L4 N n3 n2 n4 true x53 (W (x54 + 1)) x58 x59 (x60.set x55.toNat (W ((x60.getD x56.toNat 0) + x57))) (x61.set x55.toNat (W ((x61.getD x56.toNat 0) + 1)))
      else none
      else none
      else none
      else none
    else
      bif inB x56 x60.length then
      bif inB x55 x60.length then
      bif ((W ((x60.getD x56.toNat 0) + x57)) == (x60.getD x55.toNat 0)) then
        bif inB x56 x61.length then
        bif inB x55 x61.length then
        bif (decide ((W ((x61.getD x56.toNat 0) + 1)) < (x61.getD x55.toNat 0))) then
          bif inB x56 x60.length then
          bif inB x56 x61.length then
          bif inB x55 x60.length then
          bif inB x55 x61.length then
          ref03_to_L4 N n3 n2 n4 true x53 (W (x54 + 1)) x58 x59 (x60.set x55.toNat (W ((x60.getD x56.toNat 0) + x57))) (x61.set x55.toNat (W ((x61.getD x56.toNat 0) + 1)))
          else none
          else none
          else none
          else none
        else
          ref03_to_L4 N n3 n2 n4 x52 x53 (W (x54 + 1)) x58 x59 x60 x61
        else none
        else none
      else
        ref03_to_L4 N n3 n2 n4 x52 x53 (W (x54 + 1)) x58 x59 x60 x61
      else none
      else none
    else none
    else none
  else none := by kernel_rfl
theorem ref03_to_J1_eq (N n4 n3 n2 : Nat) (x52 : Bool) (x53 : Int) (x54 : Int) (x55 : Int) (x56 : Int) (x57 : Int) (x58 : List T_Place) (x59 : List T_Road) (x60 : List Int) (x61 : List Int) : ref03_to_J1 (N + 1) n4 n3 n2 x52 x53 x54 x55 x56 x57 x58 x59 x60 x61 =
  bif inB x55 x60.length then
  bif (decide ((x60.getD x55.toNat 0) < 0)) then
    bif inB x56 x60.length then
    bif inB x56 x61.length then
    bif inB x55 x60.length then
    bif inB x55 x61.length then
    ref03_to_L4 (N + 1) n3 n2 n4 true x53 (W (x54 + 1)) x58 x59 (x60.set x55.toNat (W ((x60.getD x56.toNat 0) + x57))) (x61.set x55.toNat (W ((x61.getD x56.toNat 0) + 1)))
    else none
    else none
    else none
    else none
  else
    bif inB x56 x60.length then
    bif inB x55 x60.length then
    bif (decide ((W ((x60.getD x56.toNat 0) + x57)) < (x60.getD x55.toNat 0))) then
      bif inB x56 x60.length then
      bif inB x56 x61.length then
      bif inB x55 x60.length then
      bif inB x55 x61.length then
      ref03_to_L4 (N + 1) n3 n2 n4 true x53 (W (x54 + 1)) x58 x59 (x60.set x55.toNat (W ((x60.getD x56.toNat 0) + x57))) (x61.set x55.toNat (W ((x61.getD x56.toNat 0) + 1)))
      else none
      else none
      else none
      else none
    else
      bif inB x56 x60.length then
      bif inB x55 x60.length then
      bif ((W ((x60.getD x56.toNat 0) + x57)) == (x60.getD x55.toNat 0)) then
        bif inB x56 x61.length then
        bif inB x55 x61.length then
        bif (decide ((W ((x61.getD x56.toNat 0) + 1)) < (x61.getD x55.toNat 0))) then
          bif inB x56 x60.length then
          bif inB x56 x61.length then
          bif inB x55 x60.length then
          bif inB x55 x61.length then
          ref03_to_L4 (N + 1) n3 n2 n4 true x53 (W (x54 + 1)) x58 x59 (x60.set x55.toNat (W ((x60.getD x56.toNat 0) + x57))) (x61.set x55.toNat (W ((x61.getD x56.toNat 0) + 1)))
          else none
          else none
          else none
          else none
        else
          ref03_to_L4 (N + 1) n3 n2 n4 x52 x53 (W (x54 + 1)) x58 x59 x60 x61
        else none
        else none
      else
        ref03_to_L4 (N + 1) n3 n2 n4 x52 x53 (W (x54 + 1)) x58 x59 x60 x61
      else none
      else none
    else none
    else none
  else none := ref03_to_J1_eqM (N + 1) N n4 n3 n2 x52 x53 x54 x55 x56 x57 x58 x59 x60 x61
theorem ref03_to_L4_zero (N n3 n2 : Nat) (x28 : Bool) (x29 : Int) (x30 : Int) (x31 : List T_Place) (x32 : List T_Road) (x33 : List Int) (x34 : List Int) : ref03_to_L4 N n3 n2 0 x28 x29 x30 x31 x32 x33 x34 = none := rfl
theorem ref03_to_L4_succ (N n3 n2 : Nat) (n4 : Nat) (x28 : Bool) (x29 : Int) (x30 : Int) (x31 : List T_Place) (x32 : List T_Road) (x33 : List Int) (x34 : List Int) : ref03_to_L4 N n3 n2 (n4 + 1) x28 x29 x30 x31 x32 x33 x34 =
  bif (decide (x30 < 2)) then
    bif inB x29 x32.length then
    Option.bind (ref03_ends N (x32.getD x29.toNat D_Road) (x30 == 1)) fun r36 =>
    Option.bind (ref03_Time N (x31, x32) x29 (x30 == 1)) fun r37 =>
    bif (decide (r37 < 0)) then
      ref03_to_L4 N n3 n2 n4 x28 x29 (W (x30 + 1)) x31 x32 x33 x34
    else
      bif inB r36.2 x33.length then
      bif (decide ((x33.getD r36.2.toNat 0) < 0)) then
        ref03_to_L4 N n3 n2 n4 x28 x29 (W (x30 + 1)) x31 x32 x33 x34
      else
        ref03_to_J1 N n4 n3 n2 x28 x29 x30 r36.1 r36.2 r37 x31 x32 x33 x34
      else none
    else none
  else
    ref03_to_L3 N n2 n3 x28 (W (x29 + 1)) x31 x32 x33 x34 := by kernel_rfl
theorem ref03_to_L3_zero (N n2 : Nat) (x22 : Bool) (x23 : Int) (x24 : List T_Place) (x25 : List T_Road) (x26 : List Int) (x27 : List Int) : ref03_to_L3 N n2 0 x22 x23 x24 x25 x26 x27 = none := rfl
theorem ref03_to_L3_succ (N n2 : Nat) (n3 : Nat) (x22 : Bool) (x23 : Int) (x24 : List T_Place) (x25 : List T_Road) (x26 : List Int) (x27 : List Int) : ref03_to_L3 N n2 (n3 + 1) x22 x23 x24 x25 x26 x27 =
  bif (decide (x23 < (x25.length : Int))) then
    ref03_to_L4 N n3 n2 N x22 x23 0 x24 x25 x26 x27
  else
    ref03_to_L2 N n2 x22 x24 x25 x26 x27 := by kernel_rfl
theorem ref03_to_L2_zero (N : Nat) (x17 : Bool) (x18 : List T_Place) (x19 : List T_Road) (x20 : List Int) (x21 : List Int) : ref03_to_L2 N 0 x17 x18 x19 x20 x21 = none := rfl
theorem ref03_to_L2_succ (N : Nat) (n2 : Nat) (x17 : Bool) (x18 : List T_Place) (x19 : List T_Road) (x20 : List Int) (x21 : List Int) : ref03_to_L2 N (n2 + 1) x17 x18 x19 x20 x21 =
  bif x17 then
    ref03_to_L3 N n2 N false 0 x18 x19 x20 x21
  else
    some (x20, x21) := by kernel_rfl
theorem ref03_to_L1_zero (N : Nat) (x3 : Int) (x4 : Int) (x5 : List T_Place) (x6 : List T_Road) (x7 : List Int) (x8 : List Int) : ref03_to_L1 N 0 x3 x4 x5 x6 x7 x8 = none := rfl
theorem ref03_to_L1_succ (N : Nat) (n1 : Nat) (x3 : Int) (x4 : Int) (x5 : List T_Place) (x6 : List T_Road) (x7 : List Int) (x8 : List Int) : ref03_to_L1 N (n1 + 1) x3 x4 x5 x6 x7 x8 =
  bif (decide (x4 < (x7.length : Int))) then
    bif inB x4 x7.length then
    ref03_to_L1 N n1 x3 (W (x4 + 1)) x5 x6 (x7.set x4.toNat (-1)) x8
    else none
  else
    bif inB x3 x7.length then
    ref03_to_L2 N N true x5 x6 (x7.set x3.toNat 0) x8
    else none := by kernel_rfl
def ref03_to (N : Nat) (a0 : T_Mine) (a1 : Int) : Option ((List Int) × List Int) :=
  bif mkB 8 (a0.1.length : Int) (a0.1.length : Int) then
  bif mkB 8 (a0.1.length : Int) (a0.1.length : Int) then
  ref03_to_L1 N N a1 0 a0.1 a0.2 (List.replicate (a0.1.length : Int).toNat 0) (List.replicate (a0.1.length : Int).toNat 0)
  else none
  else none
theorem ref03_to_fn : FnOK Try.prog 40 134 (fun _ : Nat => false) ref03_to_C10.er [(.t 4), (.t 5)] := FnOK.mk' Try.func40 (by kernel_rfl) (by kernel_rfl) (by kernel_rfl) (by kernel_rfl) (by kernel_rfl)
theorem ref03_to_envok (N : Nat) : EnvOK Try.prog (ref03_to_E N) := .cons (pureE_ok (ref03_ends_pure N)) (.cons (pureE_ok (ref03_Time_pure N)) (.nil))
theorem ref03_to_pure (N : Nat) : PureOK Try.prog 40 [G_Mine, (.int .i64)] [(.list (.int .i64)), (.list (.int .i64))] (fun x => ref03_to N x.1 x.2) := pureOK (N := N) mixed ref03_to_fn (ref03_to_envok N) (TC.noh_ok (by kernel_rfl)) rfl (fun x => by kernel_rfl)
/-! ref03_Way -/
def ref03_Way_N1 : List NS := [.own 11 (.int .i64), .wk 9 (.list (.int .i64)), .wk 10 (.list (.int .i64)), .keep [1, 2, 3, 9, 10, 11, 12], .cmp]
def ref03_Way_N2 : List NS := [.own 11 (.int .i64), .wk 9 (.list (.int .i64)), .wk 10 (.list (.int .i64)), .keep [1, 2, 3, 9, 10, 11, 12, 13, 14], .cmp]
def ref03_Way_N3 : List NS := [.own 11 (.int .i64), .wk 9 (.list (.int .i64)), .wk 10 (.list (.int .i64)), .keep [1, 2, 3, 9, 10, 11, 12, 13, 14, 15], .cmp]
def ref03_Way_C10 : TC := (.cond (.t 71) .skip (.exit 4))
def ref03_Way_C38 : TC := (.rg [⟨⟨some 137, (.mov (.t 17)), none⟩, {}⟩, ⟨⟨some 13, (.mov (.t 137)), none⟩, {}⟩] none)
def ref03_Way_C34 : TC := (.cond (.t 132) (.seq (.rg [⟨⟨some 133, (.mov (.t 11)), none⟩, {}⟩, ⟨⟨some 134, (.mov (.t 14)), none⟩, {}⟩, ⟨⟨some 135, (.bslice false 1 [(I 0)] 1 [(0, (.t 134))]), none⟩, ⟨(.int .i64), none⟩⟩, ⟨⟨some 136, (.app 1 8 (.t 133) (.t 135)), none⟩, {}⟩, ⟨⟨some 11, (.mov (.t 136)), none⟩, {}⟩] none)
  ref03_Way_C38) .skip)
def ref03_Way_C28 : TC := (.seq (.rg [⟨⟨some 90, (.mov (.t 16)), none⟩, {}⟩, ⟨⟨some 91, (.mov (.t 12)), none⟩, {}⟩, ⟨⟨some 92, (.bin .eql (.t 90) (.t 91)), none⟩, {}⟩, ⟨⟨some 93, (.mov (.t 92)), none⟩, {}⟩, ⟨⟨some 94, (.mov (.t 18)), some (93, true)⟩, {}⟩, ⟨⟨some 95, (.bin .geq (.t 94) (.c (I 0))), some (93, true)⟩, {}⟩,
  ⟨⟨some 96, (.pick (.t 93) (.t 95) (.c (B false))), none⟩, {}⟩, ⟨⟨some 97, (.mov (.t 96)), none⟩, {}⟩, ⟨⟨some 98, (.mov (.t 9)), some (97, true)⟩, {}⟩, ⟨⟨some 99, (.mov (.t 17)), some (97, true)⟩, {}⟩, ⟨⟨some 100, (.iadrS 1 (.t 98) (.t 99)), some (97, true)⟩, {}⟩, ⟨⟨some 101, (.load false 1 (.t
  100)), some (97, true)⟩, {}⟩, ⟨⟨some 102, (.bin .geq (.t 101) (.c (I 0))), some (97, true)⟩, {}⟩, ⟨⟨some 103, (.pick (.t 97) (.t 102) (.c (B false))), none⟩, {}⟩, ⟨⟨some 104, (.mov (.t 103)), none⟩, {}⟩, ⟨⟨some 105, (.mov (.t 9)), some (104, true)⟩, {}⟩, ⟨⟨some 106, (.mov (.t 17)), some (104,
  true)⟩, {}⟩, ⟨⟨some 107, (.iadrS 1 (.t 105) (.t 106)), some (104, true)⟩, {}⟩, ⟨⟨some 108, (.load false 1 (.t 107)), some (104, true)⟩, {}⟩, ⟨⟨some 109, (.mov (.t 18)), some (104, true)⟩, {}⟩, ⟨⟨some 110, (.bin .add (.t 108) (.t 109)), some (104, true)⟩, {}⟩, ⟨⟨some 111, (.mov (.t 9)), some (104,
  true)⟩, {}⟩, ⟨⟨some 112, (.mov (.t 12)), some (104, true)⟩, {}⟩, ⟨⟨some 113, (.iadrS 1 (.t 111) (.t 112)), some (104, true)⟩, {}⟩, ⟨⟨some 114, (.load false 1 (.t 113)), some (104, true)⟩, {}⟩, ⟨⟨some 115, (.bin .eql (.t 110) (.t 114)), some (104, true)⟩, {}⟩, ⟨⟨some 116, (.pick (.t 104) (.t 115)
  (.c (B false))), none⟩, {}⟩, ⟨⟨some 117, (.mov (.t 116)), none⟩, {}⟩, ⟨⟨some 118, (.mov (.t 10)), some (117, true)⟩, {}⟩, ⟨⟨some 119, (.mov (.t 17)), some (117, true)⟩, {}⟩, ⟨⟨some 120, (.iadrS 1 (.t 118) (.t 119)), some (117, true)⟩, {}⟩, ⟨⟨some 121, (.load false 1 (.t 120)), some (117, true)⟩,
  {}⟩, ⟨⟨some 122, (.bin .add (.t 121) (.c (I 1))), some (117, true)⟩, {}⟩, ⟨⟨some 123, (.mov (.t 10)), some (117, true)⟩, {}⟩, ⟨⟨some 124, (.mov (.t 12)), some (117, true)⟩, {}⟩, ⟨⟨some 125, (.iadrS 1 (.t 123) (.t 124)), some (117, true)⟩, {}⟩, ⟨⟨some 126, (.load false 1 (.t 125)), some (117,
  true)⟩, {}⟩, ⟨⟨some 127, (.bin .eql (.t 122) (.t 126)), some (117, true)⟩, {}⟩, ⟨⟨some 128, (.pick (.t 117) (.t 127) (.c (B false))), none⟩, {}⟩, ⟨⟨some 129, (.mov (.t 128)), none⟩, {}⟩, ⟨⟨some 130, (.mov (.t 13)), some (129, true)⟩, {}⟩, ⟨⟨some 131, (.bin .lss (.t 130) (.c (I 0))), some (129,
  true)⟩, {}⟩, ⟨⟨some 132, (.pick (.t 129) (.t 131) (.c (B false))), none⟩, {}⟩] (some [])) ref03_Way_C34)
def ref03_Way_C20 : TC := (.seq (.rg [⟨⟨some 85, (.load true 2 (.t 3)), none⟩, {}⟩, ⟨⟨some 86, (.mov (.t 14)), none⟩, {}⟩, ⟨⟨some 87, (.mov (.t 15)), none⟩, {}⟩, ⟨⟨some 88, (.bin .eql (.t 87) (.c (I 1))), none⟩, {}⟩, ⟨⟨some 89, (.call (.c (.fn 13 [])) [(.t 85), (.t 86), (.t 88)]), none⟩, {}⟩, ⟨⟨some 18, (.mov (.t 89)), none⟩,
  {}⟩] none) ref03_Way_C28)
def ref03_Way_C21 : TC := (.rg [⟨⟨some 72, (.mov (.t 15)), none⟩, {}⟩, ⟨⟨some 73, (.bin .add (.t 72) (.c (I 1))), none⟩, {}⟩, ⟨⟨some 15, (.mov (.t 73)), none⟩, {}⟩] none)
def ref03_Way_C11 : TC := (.seq (.block 5 (.seq (.rg [⟨⟨some 75, (.fadr 1 (.t 3)), none⟩, {}⟩, ⟨⟨some 76, (.load false 1 (.t 75)), none⟩, {}⟩, ⟨⟨some 77, (.mov (.t 14)), none⟩, {}⟩, ⟨⟨some 78, (.iadrS 10 (.t 76) (.t 77)), none⟩, {}⟩, ⟨⟨some 79, (.load true 10 (.t 78)), none⟩, {}⟩, ⟨⟨some 80, (.mov (.t 15)), none⟩, {}⟩, ⟨⟨some
  81, (.bin .eql (.t 80) (.c (I 1))), none⟩, {}⟩, ⟨⟨some 82, (.call (.c (.fn 41 [])) [(.t 79), (.t 81)]), none⟩, {}⟩, ⟨⟨some 74, (.mov (.t 82)), none⟩, {}⟩, ⟨⟨some 83, (.extr 0 (.t 74)), none⟩, {}⟩, ⟨⟨some 84, (.extr 1 (.t 74)), none⟩, {}⟩, ⟨⟨some 16, (.mov (.t 83)), none⟩, {}⟩, ⟨⟨some 17, (.mov (.t
  84)), none⟩, {}⟩] none) ref03_Way_C20)) ref03_Way_C21)
def ref03_Way_C1 : TC := (.seq (.seq (.rg [⟨⟨some 70, (.mov (.t 15)), none⟩, {}⟩, ⟨⟨some 71, (.bin .lss (.t 70) (.c (I 2))), none⟩, {}⟩] none) ref03_Way_C10) ref03_Way_C11)
def ref03_Way_C2 : TC := (.rg [⟨⟨some 68, (.mov (.t 14)), none⟩, {}⟩, ⟨⟨some 69, (.bin .add (.t 68) (.c (I 1))), none⟩, {}⟩, ⟨⟨some 14, (.mov (.t 69)), none⟩, {}⟩] none)
def ref03_Way_C12 : TC := (.cond (.t 67) .skip (.exit 2))
def ref03_Way_C17 : TC := (.block 4 (.loop ref03_Way_N3 ref03_Way_C1))
def ref03_Way_C7 : TC := (.seq (.block 3 (.seq (.rg [⟨⟨some 15, (.mov (.c (I 0))), none⟩, {}⟩] none) ref03_Way_C17)) ref03_Way_C2)
def ref03_Way_C13 : TC := (.join [.wk 9 (.list (.int .i64)), .wk 10 (.list (.int .i64)), .wk 11 (.list (.int .i64)), .keep [1, 2, 3, 9, 10, 11, 12, 13, 14], .cmp] ref03_Way_C7)
def ref03_Way_C3 : TC := (.seq (.seq (.rg [⟨⟨some 59, (.mov (.t 14)), none⟩, {}⟩, ⟨⟨some 60, (.fadr 1 (.t 3)), none⟩, {}⟩, ⟨⟨some 61, (.load false 1 (.t 60)), none⟩, {}⟩, ⟨⟨some 62, (.len (.t 61)), none⟩, {}⟩, ⟨⟨some 63, (.bin .lss (.t 59) (.t 62)), none⟩, {}⟩, ⟨⟨some 64, (.mov (.t 63)), none⟩, {}⟩, ⟨⟨some 65, (.mov (.t
  13)), some (64, true)⟩, {}⟩, ⟨⟨some 66, (.bin .lss (.t 65) (.c (I 0))), some (64, true)⟩, {}⟩, ⟨⟨some 67, (.pick (.t 64) (.t 66) (.c (B false))), none⟩, {}⟩] none) ref03_Way_C12) ref03_Way_C13)
def ref03_Way_C4 : TC := (.rg [⟨⟨some 138, (.mov (.t 13)), none⟩, {}⟩, ⟨⟨some 12, (.mov (.t 138)), none⟩, {}⟩] none)
def ref03_Way_C14 : TC := (.cond (.t 58) .skip (.exit 0))
def ref03_Way_C29 : TC := (.block 2 (.loop ref03_Way_N2 ref03_Way_C3))
def ref03_Way_C22 : TC := (.seq (.seq (.rg [⟨⟨some 14, (.mov (.c (I 0))), none⟩, {}⟩] none) ref03_Way_C29) ref03_Way_C4)
def ref03_Way_C15 : TC := (.block 1 (.seq (.rg [⟨⟨some 13, (.mov (.c (I (-1)))), none⟩, {}⟩] none) ref03_Way_C22))
def ref03_Way_C5 : TC := (.seq (.seq (.rg [⟨⟨some 56, (.mov (.t 12)), none⟩, {}⟩, ⟨⟨some 57, (.mov (.t 2)), none⟩, {}⟩, ⟨⟨some 58, (.bin .neq (.t 56) (.t 57)), none⟩, {}⟩] none) ref03_Way_C14) ref03_Way_C15)
def ref03_Way_C30 : TC := .ret
def ref03_Way_C23 : TC := (.pre [.frz 6] ref03_Way_C30)
def ref03_Way_C16 : TC := (.seq (.rg [⟨⟨some 139, (.mov (.t 11)), none⟩, {}⟩, ⟨⟨some 140, (.mov (.t 9)), none⟩, {}⟩, ⟨⟨some 141, (.mov (.t 1)), none⟩, {}⟩, ⟨⟨some 142, (.iadrS 1 (.t 140) (.t 141)), none⟩, {}⟩, ⟨⟨some 143, (.load false 1 (.t 142)), none⟩, {}⟩, ⟨⟨some 6, (.mov (.t 139)), none⟩, {}⟩, ⟨⟨some 7, (.mov (.t 143)),
  none⟩, {}⟩, ⟨⟨some 8, (.mov (.c (B true))), none⟩, {}⟩] (some [])) ref03_Way_C23)
def ref03_Way_C6 : TC := (.pre [.frz 11] ref03_Way_C16)
def ref03_Way_C35 : TC := .ret
def ref03_Way_C31 : TC := (.pre [.frz 6] ref03_Way_C35)
def ref03_Way_C24 : TC := (.cond (.t 54) (.seq (.rg [⟨⟨some 6, (.mov (.c (.lst true []))), none⟩, {}⟩, ⟨⟨some 7, (.mov (.c (I 0))), none⟩, {}⟩, ⟨⟨some 8, (.mov (.c (B false))), none⟩, {}⟩] none) ref03_Way_C31) .skip)
def ref03_Way_C36 : TC := (.seq (.block 0 (.loop ref03_Way_N1 ref03_Way_C5)) ref03_Way_C6)
def ref03_Way_C32 : TC := (.seq (.rg [⟨⟨some 55, (.mov (.t 1)), none⟩, {}⟩, ⟨⟨some 12, (.mov (.t 55)), none⟩, {}⟩] none) ref03_Way_C36)
def ref03_Way_C25 : TC := (.seq (.rg [⟨⟨some 11, (.mov (.c (.lst true []))), none⟩, {}⟩] none) ref03_Way_C32)
def ref03_Way_C18 : TC := (.seq (.seq (.rg [⟨⟨some 50, (.mov (.t 9)), none⟩, {}⟩, ⟨⟨some 51, (.mov (.t 1)), none⟩, {}⟩, ⟨⟨some 52, (.iadrS 1 (.t 50) (.t 51)), none⟩, {}⟩, ⟨⟨some 53, (.load false 1 (.t 52)), none⟩, {}⟩, ⟨⟨some 54, (.bin .lss (.t 53) (.c (I 0))), none⟩, {}⟩] none) ref03_Way_C24) ref03_Way_C25)
def ref03_Way_C8 : TC := (.seq (.rg [⟨⟨some 45, (.load true 2 (.t 3)), none⟩, {}⟩, ⟨⟨some 46, (.mov (.t 2)), none⟩, {}⟩, ⟨⟨some 47, (.call (.c (.fn 40 [])) [(.t 45), (.t 46)]), none⟩, {}⟩, ⟨⟨some 44, (.mov (.t 47)), none⟩, {}⟩, ⟨⟨some 48, (.extr 0 (.t 44)), none⟩, {}⟩, ⟨⟨some 49, (.extr 1 (.t 44)), none⟩, {}⟩, ⟨⟨some 9,
  (.mov (.t 48)), none⟩, {}⟩, ⟨⟨some 10, (.mov (.t 49)), none⟩, {}⟩] none) ref03_Way_C18)
def ref03_Way_C37 : TC := .ret
def ref03_Way_C33 : TC := (.pre [.frz 6] ref03_Way_C37)
def ref03_Way_C26 : TC := (.cond (.t 43) (.seq (.rg [⟨⟨some 6, (.mov (.c (.lst true []))), none⟩, {}⟩, ⟨⟨some 7, (.mov (.c (I 0))), none⟩, {}⟩, ⟨⟨some 8, (.mov (.c (B false))), none⟩, {}⟩] none) ref03_Way_C33) .skip)
def ref03_Way_C27 : TC := (.join [.keep [1, 2, 3], .cmp] ref03_Way_C8)
def ref03_Way_C19 : TC := (.seq (.seq (.rg [⟨⟨some 19, (.load true 2 (.t 3)), none⟩, {}⟩, ⟨⟨some 20, (.call (.c (.fn 39 [])) [(.t 19)]), none⟩, {}⟩, ⟨⟨some 21, (.bin .neq (.t 20) (.c (I 0))), none⟩, {}⟩, ⟨⟨some 22, (.mov (.t 21)), none⟩, {}⟩, ⟨⟨some 23, (.mov (.t 1)), some (22, false)⟩, {}⟩, ⟨⟨some 24, (.bin .lss (.t 23) (.c
  (I 0))), some (22, false)⟩, {}⟩, ⟨⟨some 25, (.pick (.t 22) (.c (B true)) (.t 24)), none⟩, {}⟩, ⟨⟨some 26, (.mov (.t 25)), none⟩, {}⟩, ⟨⟨some 27, (.mov (.t 1)), some (26, false)⟩, {}⟩, ⟨⟨some 28, (.fadr 0 (.t 3)), some (26, false)⟩, {}⟩, ⟨⟨some 29, (.load false 1 (.t 28)), some (26, false)⟩, {}⟩,
  ⟨⟨some 30, (.len (.t 29)), some (26, false)⟩, {}⟩, ⟨⟨some 31, (.bin .geq (.t 27) (.t 30)), some (26, false)⟩, {}⟩, ⟨⟨some 32, (.pick (.t 26) (.c (B true)) (.t 31)), none⟩, {}⟩, ⟨⟨some 33, (.mov (.t 32)), none⟩, {}⟩, ⟨⟨some 34, (.mov (.t 2)), some (33, false)⟩, {}⟩, ⟨⟨some 35, (.bin .lss (.t 34) (.c
  (I 0))), some (33, false)⟩, {}⟩, ⟨⟨some 36, (.pick (.t 33) (.c (B true)) (.t 35)), none⟩, {}⟩, ⟨⟨some 37, (.mov (.t 36)), none⟩, {}⟩, ⟨⟨some 38, (.mov (.t 2)), some (37, false)⟩, {}⟩, ⟨⟨some 39, (.fadr 0 (.t 3)), some (37, false)⟩, {}⟩, ⟨⟨some 40, (.load false 1 (.t 39)), some (37, false)⟩, {}⟩,
  ⟨⟨some 41, (.len (.t 40)), some (37, false)⟩, {}⟩, ⟨⟨some 42, (.bin .geq (.t 38) (.t 41)), some (37, false)⟩, {}⟩, ⟨⟨some 43, (.pick (.t 37) (.c (B true)) (.t 42)), none⟩, {}⟩] none) ref03_Way_C26) ref03_Way_C27)
def ref03_Way_C9 : TC := (.seq (.rg [⟨⟨some 3, (.box (.t 0)), none⟩, {}⟩, ⟨⟨some 6, (.mov (.c (.lst true []))), none⟩, {}⟩, ⟨⟨some 7, (.mov (.c (I 0))), none⟩, {}⟩, ⟨⟨some 8, (.mov (.c (B false))), none⟩, {}⟩] none) ref03_Way_C19)
def ref03_Way_E (N : Nat) : List (Nat × Ent) := [(39, pureE [G_Mine] [(.int .i64)] (fun x => ref01_Check N x)), (40, pureE [G_Mine, (.int .i64)] [(.list (.int .i64)), (.list (.int .i64))] (fun x => ref03_to N x.1 x.2)), (41, pureE [G_Road, .bool] [(.int .i64), (.int .i64)] (fun x => ref03_ends N x.1 x.2)), (13, pureE [G_Mine, (.int .i64), .bool] [(.int .i64)] (fun x => ref03_Time N x.1 x.2.1 x.2.2))]
def ref03_Way_L3 (N n2 n1 : Nat) (n : Nat) (x35 : Int) (x36 : Int) (x37 : List Int) (x38 : List Int) (x39 : Int) (x40 : Int) (x41 : Int) (x42 : Int) (x43 : List T_Place) (x44 : List T_Road) (x45 : List Int) : Option ((List Int) × Int × Bool) := loopN (normI 0 ref03_Way_N3) (run (ref03_Way_E N) N 0 ref03_Way_C1) n ⟨[(1, .int .i64 x35), (2, .int .i64 x36), (3, .ptr 0 0 0), (9, .lst false (.int .i64) x37), (10, .lst false (.int .i64) x38), (11, .whole 1), (12, .int .i64 x39), (13, .int .i64 x40), (14, .int .i64 x41), (15, .int .i64 x42)], [some (.box 0 [.lst false G_Place x43, .lst false G_Road x44]), some (.arr (.int .i64) x45)]⟩ (blkK 4 (blkK 3 (seqK (run (ref03_Way_E N) N 0 ref03_Way_C2) (seqK (nextL (normI 0 ref03_Way_N2) (loopN (normI 0 ref03_Way_N2) (run (ref03_Way_E N) N 0 ref03_Way_C3) n2)) (blkK 2 (seqK (run (ref03_Way_E N) N 0 ref03_Way_C4) (blkK 1 (seqK (nextL (normI 0 ref03_Way_N1) (loopN (normI 0 ref03_Way_N1) (run (ref03_Way_E N) N 0 ref03_Way_C5) n1)) (blkK 0 (seqK (run (ref03_Way_E N) N 0 ref03_Way_C6) (fin [(.t 6), (.t 7), (.t 8)] [(.list (.int .i64)), (.int .i64), .bool])))))))))))
def ref03_Way_J2 (N n2 n1 : Nat) (x25 : Int) (x26 : Int) (x27 : List Int) (x28 : List Int) (x29 : Int) (x30 : Int) (x31 : Int) (x32 : List T_Place) (x33 : List T_Road) (x34 : List Int) : Option ((List Int) × Int × Bool) := joinN (run (ref03_Way_E N) N 0 ref03_Way_C7) N ⟨[(1, .int .i64 x25), (2, .int .i64 x26), (3, .ptr 0 0 0), (9, .lst false (.int .i64) x27), (10, .lst false (.int .i64) x28), (11, .whole 1), (12, .int .i64 x29), (13, .int .i64 x30), (14, .int .i64 x31)], [some (.box 0 [.lst false G_Place x32, .lst false G_Road x33]), some (.arr (.int .i64) x34)]⟩ (seqK (nextL (normI 0 ref03_Way_N2) (loopN (normI 0 ref03_Way_N2) (run (ref03_Way_E N) N 0 ref03_Way_C3) n2)) (blkK 2 (seqK (run (ref03_Way_E N) N 0 ref03_Way_C4) (blkK 1 (seqK (nextL (normI 0 ref03_Way_N1) (loopN (normI 0 ref03_Way_N1) (run (ref03_Way_E N) N 0 ref03_Way_C5) n1)) (blkK 0 (seqK (run (ref03_Way_E N) N 0 ref03_Way_C6) (fin [(.t 6), (.t 7), (.t 8)] [(.list (.int .i64)), (.int .i64), .bool]))))))))
def ref03_Way_L2 (N n1 : Nat) (n : Nat) (x15 : Int) (x16 : Int) (x17 : List Int) (x18 : List Int) (x19 : Int) (x20 : Int) (x21 : Int) (x22 : List T_Place) (x23 : List T_Road) (x24 : List Int) : Option ((List Int) × Int × Bool) := loopN (normI 0 ref03_Way_N2) (run (ref03_Way_E N) N 0 ref03_Way_C3) n ⟨[(1, .int .i64 x15), (2, .int .i64 x16), (3, .ptr 0 0 0), (9, .lst false (.int .i64) x17), (10, .lst false (.int .i64) x18), (11, .whole 1), (12, .int .i64 x19), (13, .int .i64 x20), (14, .int .i64 x21)], [some (.box 0 [.lst false G_Place x22, .lst false G_Road x23]), some (.arr (.int .i64) x24)]⟩ (blkK 2 (seqK (run (ref03_Way_E N) N 0 ref03_Way_C4) (blkK 1 (seqK (nextL (normI 0 ref03_Way_N1) (loopN (normI 0 ref03_Way_N1) (run (ref03_Way_E N) N 0 ref03_Way_C5) n1)) (blkK 0 (seqK (run (ref03_Way_E N) N 0 ref03_Way_C6) (fin [(.t 6), (.t 7), (.t 8)] [(.list (.int .i64)), (.int .i64), .bool])))))))
def ref03_Way_L1 (N : Nat) (n : Nat) (x7 : Int) (x8 : Int) (x9 : List Int) (x10 : List Int) (x11 : Int) (x12 : List T_Place) (x13 : List T_Road) (x14 : List Int) : Option ((List Int) × Int × Bool) := loopN (normI 0 ref03_Way_N1) (run (ref03_Way_E N) N 0 ref03_Way_C5) n ⟨[(1, .int .i64 x7), (2, .int .i64 x8), (3, .ptr 0 0 0), (9, .lst false (.int .i64) x9), (10, .lst false (.int .i64) x10), (11, .whole 1), (12, .int .i64 x11)], [some (.box 0 [.lst false G_Place x12, .lst false G_Road x13]), some (.arr (.int .i64) x14)]⟩ (blkK 0 (seqK (run (ref03_Way_E N) N 0 ref03_Way_C6) (fin [(.t 6), (.t 7), (.t 8)] [(.list (.int .i64)), (.int .i64), .bool])))
def ref03_Way_J1 (N : Nat) (x2 : Int) (x3 : Int) (x4 : List T_Place) (x5 : List T_Road) : Option ((List Int) × Int × Bool) := joinN (run (ref03_Way_E N) N 0 ref03_Way_C8) N ⟨[(1, .int .i64 x2), (2, .int .i64 x3), (3, .ptr 0 0 0)], [some (.box 0 [.lst false G_Place x4, .lst false G_Road x5])]⟩ (fin [(.t 6), (.t 7), (.t 8)] [(.list (.int .i64)), (.int .i64), .bool])
theorem ref03_Way_L3_zero (N n2 n1 : Nat) (x35 : Int) (x36 : Int) (x37 : List Int) (x38 : List Int) (x39 : Int) (x40 : Int) (x41 : Int) (x42 : Int) (x43 : List T_Place) (x44 : List T_Road) (x45 : List Int) : ref03_Way_L3 N n2 n1 0 x35 x36 x37 x38 x39 x40 x41 x42 x43 x44 x45 = none := rfl
theorem ref03_Way_L3_succ (N n2 n1 : Nat) (n3 : Nat) (x35 : Int) (x36 : Int) (x37 : List Int) (x38 : List Int) (x39 : Int) (x40 : Int) (x41 : Int) (x42 : Int) (x43 : List T_Place) (x44 : List T_Road) (x45 : List Int) : ref03_Way_L3 N n2 n1 (n3 + 1) x35 x36 x37 x38 x39 x40 x41 x42 x43 x44 x45 =
  bif (decide (x42 < 2)) then
    bif inB x41 x44.length then
    Option.bind (ref03_ends N (x44.getD x41.toNat D_Road) (x42 == 1)) fun r47 =>
    Option.bind (ref03_Time N (x43, x44) x41 (x42 == 1)) fun r48 =>
    bif (r47.1 == x39) then
      bif (decide (r48 ≥ 0)) then
        bif inB r47.2 x37.length then
        bif (decide ((x37.getD r47.2.toNat 0) ≥ 0)) then
          bif inB r47.2 x37.length then
          bif inB x39 x37.length then
          bif ((W ((x37.getD r47.2.toNat 0) + r48)) == (x37.getD x39.toNat 0)) then
            bif inB r47.2 x38.length then
            bif inB x39 x38.length then
            bif ((W ((x38.getD r47.2.toNat 0) + 1)) == (x38.getD x39.toNat 0)) then
              bif (decide (x40 < 0)) then
                bif fitsB (x45.length + 1) 8 then
                ref03_Way_L3 N n2 n1 n3 x35 x36 x37 x38 x39 r47.2 x41 (W (x42 + 1)) x43 x44 (x45 ++ [x41])
                else none
              else
                ref03_Way_L3 N n2 n1 n3 x35 x36 x37 x38 x39 x40 x41 (W (x42 + 1)) x43 x44 x45
            else
              ref03_Way_L3 N n2 n1 n3 x35 x36 x37 x38 x39 x40 x41 (W (x42 + 1)) x43 x44 x45
            else none
            else none
          else
            ref03_Way_L3 N n2 n1 n3 x35 x36 x37 x38 x39 x40 x41 (W (x42 + 1)) x43 x44 x45
          else none
          else none
        else
          ref03_Way_L3 N n2 n1 n3 x35 x36 x37 x38 x39 x40 x41 (W (x42 + 1)) x43 x44 x45
        else none
      else
        ref03_Way_L3 N n2 n1 n3 x35 x36 x37 x38 x39 x40 x41 (W (x42 + 1)) x43 x44 x45
    else
      ref03_Way_L3 N n2 n1 n3 x35 x36 x37 x38 x39 x40 x41 (W (x42 + 1)) x43 x44 x45
    else none
  else
    ref03_Way_L2 N n1 n2 x35 x36 x37 x38 x39 x40 (W (x41 + 1)) x43 x44 x45 := by kernel_rfl
theorem ref03_Way_J2_eqM (N JM n2 n1 : Nat) (x25 : Int) (x26 : Int) (x27 : List Int) (x28 : List Int) (x29 : Int) (x30 : Int) (x31 : Int) (x32 : List T_Place) (x33 : List T_Road) (x34 : List Int) : joinN (run (ref03_Way_E N) N 0 ref03_Way_C7) (JM + 1) ⟨[(1, .int .i64 x25), (2, .int .i64 x26), (3, .ptr 0 0 0), (9, .lst false (.int .i64) x27), (10, .lst false (.int .i64) x28), (11, .whole 1), (12, .int .i64 x29), (13, .int .i64 x30), (14, .int .i64 x31)], [some (.box 0 [.lst false G_Place x32, .lst false G_Road x33]), some (.arr (.int .i64) x34)]⟩ (seqK (nextL (normI 0 ref03_Way_N2) (loopN (normI 0 ref03_Way_N2) (run (ref03_Way_E N) N 0 ref03_Way_C3) n2)) (blkK 2 (seqK (run (ref03_Way_E N) N 0 ref03_Way_C4) (blkK 1 (seqK (nextL (normI 0 ref03_Way_N1) (loopN (normI 0 ref03_Way_N1) (run (ref03_Way_E N) N 0 ref03_Way_C5) n1)) (blkK 0 (seqK (run (ref03_Way_E N) N 0 ref03_Way_C6) (fin [(.t 6), (.t 7), (.t 8)] [(.list (.int .i64)), (.int .i64), .bool])))))))) =
  ref03_Way_L3 N n2 n1 N x25 x26 x27 x28 x29 x30 x31 0 x32 x33 x34 := by kernel_rfl
theorem ref03_Way_J2_eq (N n2 n1 : Nat) (x25 : Int) (x26 : Int) (x27 : List Int) (x28 : List Int) (x29 : Int) (x30 : Int) (x31 : Int) (x32 : List T_Place) (x33 : List T_Road) (x34 : List Int) : ref03_Way_J2 (N + 1) n2 n1 x25 x26 x27 x28 x29 x30 x31 x32 x33 x34 =
  ref03_Way_L3 (N + 1) n2 n1 (N + 1) x25 x26 x27 x28 x29 x30 x31 0 x32 x33 x34 := ref03_Way_J2_eqM (N + 1) N n2 n1 x25 x26 x27 x28 x29 x30 x31 x32 x33 x34
theorem ref03_Way_L2_zero (N n1 : Nat) (x15 : Int) (x16 : Int) (x17 : List Int) (x18 : List Int) (x19 : Int) (x20 : Int) (x21 : Int) (x22 : List T_Place) (x23 : List T_Road) (x24 : List Int) : ref03_Way_L2 N n1 0 x15 x16 x17 x18 x19 x20 x21 x22 x23 x24 = none := rfl
theorem ref03_Way_L2_succ (N n1 : Nat) (n2 : Nat) (x15 : Int) (x16 : Int) (x17 : List Int) (x18 : List Int) (x19 : Int) (x20 : Int) (x21 : Int) (x22 : List T_Place) (x23 : List T_Road) (x24 : List Int) : ref03_Way_L2 N n1 (n2 + 1) x15 x16 x17 x18 x19 x20 x21 x22 x23 x24 =
  bif (decide (x21 < (x23.length : Int))) then
    bif (decide (x20 < 0)) then
      ref03_Way_J2 N n2 n1 x15 x16 x17 x18 x19 x20 x21 x22 x23 x24
    else
      ref03_Way_L1 N n1 x15 x16 x17 x18 x20 x22 x23 x24
  else
    ref03_Way_L1 N n1 x15 x16 x17 x18 x20 x22 x23 x24 := by kernel_rfl
theorem ref03_Way_L1_zero (N : Nat) (x7 : Int) (x8 : Int) (x9 : List Int) (x10 : List Int) (x11 : Int) (x12 : List T_Place) (x13 : List T_Road) (x14 : List Int) : ref03_Way_L1 N 0 x7 x8 x9 x10 x11 x12 x13 x14 = none := rfl
theorem ref03_Way_L1_succ (N : Nat) (n1 : Nat) (x7 : Int) (x8 : Int) (x9 : List Int) (x10 : List Int) (x11 : Int) (x12 : List T_Place) (x13 : List T_Road) (x14 : List Int) : ref03_Way_L1 N (n1 + 1) x7 x8 x9 x10 x11 x12 x13 x14 =
  bif (x11 != x8) then
    ref03_Way_L2 N n1 N x7 x8 x9 x10 x11 (-1) 0 x12 x13 x14
  else
    bif inB x7 x9.length then
    some (x14, x9.getD x7.toNat 0, true)
    else none := by kernel_rfl
theorem ref03_Way_J1_eqM (N JM : Nat) (x2 : Int) (x3 : Int) (x4 : List T_Place) (x5 : List T_Road) : joinN (run (ref03_Way_E N) N 0 ref03_Way_C8) (JM + 1) ⟨[(1, .int .i64 x2), (2, .int .i64 x3), (3, .ptr 0 0 0)], [some (.box 0 [.lst false G_Place x4, .lst false G_Road x5])]⟩ (fin [(.t 6), (.t 7), (.t 8)] [(.list (.int .i64)), (.int .i64), .bool]) =
  Option.bind (ref03_to N (x4, x5) x3) fun r6 =>
  bif inB x2 r6.1.length then
  bif (decide ((r6.1.getD x2.toNat 0) < 0)) then
    some ([], 0, false)
  else
    ref03_Way_L1 N N x2 x3 r6.1 r6.2 x2 x4 x5 []
  else none := by kernel_rfl
theorem ref03_Way_J1_eq (N : Nat) (x2 : Int) (x3 : Int) (x4 : List T_Place) (x5 : List T_Road) : ref03_Way_J1 (N + 1) x2 x3 x4 x5 =
  Option.bind (ref03_to (N + 1) (x4, x5) x3) fun r6 =>
  bif inB x2 r6.1.length then
  bif (decide ((r6.1.getD x2.toNat 0) < 0)) then
    some ([], 0, false)
  else
    ref03_Way_L1 (N + 1) (N + 1) x2 x3 r6.1 r6.2 x2 x4 x5 []
  else none := ref03_Way_J1_eqM (N + 1) N x2 x3 x4 x5
def ref03_Way (N : Nat) (a0 : T_Mine) (a1 : Int) (a2 : Int) : Option ((List Int) × Int × Bool) :=
  Option.bind (ref01_Check N a0) fun r1 =>
  bif (r1 != 0) then
    some ([], 0, false)
  else
    bif (decide (a1 < 0)) then
      some ([], 0, false)
    else
      bif (decide (a1 ≥ (a0.1.length : Int))) then
        some ([], 0, false)
      else
        bif (decide (a2 < 0)) then
          some ([], 0, false)
        else
          bif (decide (a2 ≥ (a0.1.length : Int))) then
            some ([], 0, false)
          else
            ref03_Way_J1 N a1 a2 a0.1 a0.2
theorem ref03_Way_fn : FnOK Try.prog 18 144 (fun _ : Nat => false) ref03_Way_C9.er [(.t 6), (.t 7), (.t 8)] := FnOK.mk' Try.func18 (by kernel_rfl) (by kernel_rfl) (by kernel_rfl) (by kernel_rfl) (by kernel_rfl)
theorem ref03_Way_envok (N : Nat) : EnvOK Try.prog (ref03_Way_E N) := .cons (pureE_ok (ref01_Check_pure N)) (.cons (pureE_ok (ref03_to_pure N)) (.cons (pureE_ok (ref03_ends_pure N)) (.cons (pureE_ok (ref03_Time_pure N)) (.nil))))
theorem ref03_Way_pure (N : Nat) : PureOK Try.prog 18 [G_Mine, (.int .i64), (.int .i64)] [(.list (.int .i64)), (.int .i64), .bool] (fun x => ref03_Way N x.1 x.2.1 x.2.2) := pureOK (N := N) mixed ref03_Way_fn (ref03_Way_envok N) (TC.noh_ok (by kernel_rfl)) rfl (fun x => by kernel_rfl)
/-! law03_WalkWays -/
def law03_WalkWays_N1 : List NS := [.wk 33 (.list G_Span), .keep [7, 33, 34, 35], .cmp]
def law03_WalkWays_C16 : TC := .ret
def law03_WalkWays_C15 : TC := (.cond (.t 72) (.seq (.rg [⟨⟨some 6, (.mov (.c (B false))), none⟩, {}⟩] none) law03_WalkWays_C16) .skip)
def law03_WalkWays_C14 : TC := (.seq (.rg [⟨⟨some 59, (.mov (.t 11)), none⟩, {}⟩, ⟨⟨some 60, (.mov (.t 14)), none⟩, {}⟩, ⟨⟨some 61, (.call (.c (.fn 19 [])) [(.t 59), (.t 60)]), none⟩, {}⟩, ⟨⟨some 62, (.un .not (.t 61)), none⟩, {}⟩, ⟨⟨some 63, (.mov (.t 62)), none⟩, {}⟩, ⟨⟨some 64, (.mov (.t 12)), some (63, false)⟩, {}⟩, ⟨⟨some 65,
  (.mov (.t 15)), some (63, false)⟩, {}⟩, ⟨⟨some 66, (.bin .neq (.t 64) (.t 65)), some (63, false)⟩, {}⟩, ⟨⟨some 67, (.pick (.t 63) (.c (B true)) (.t 66)), none⟩, {}⟩, ⟨⟨some 68, (.mov (.t 67)), none⟩, {}⟩, ⟨⟨some 69, (.mov (.t 13)), some (68, false)⟩, {}⟩, ⟨⟨some 70, (.mov (.t 16)), some (68,
  false)⟩, {}⟩, ⟨⟨some 71, (.beq true (.t 69) (.t 70)), some (68, false)⟩, {}⟩, ⟨⟨some 72, (.pick (.t 68) (.c (B true)) (.t 71)), none⟩, {}⟩] none) law03_WalkWays_C15)
def law03_WalkWays_C12 : TC := (.seq (.rg [⟨⟨some 50, (.load true 2 (.t 7)), none⟩, {}⟩, ⟨⟨some 51, (.iadrA 1 2 (.t 10) (.c (I 0))), none⟩, {}⟩, ⟨⟨some 52, (.load false 1 (.t 51)), none⟩, {}⟩, ⟨⟨some 53, (.iadrA 1 2 (.t 10) (.c (I 1))), none⟩, {}⟩, ⟨⟨some 54, (.load false 1 (.t 53)), none⟩, {}⟩, ⟨⟨some 55, (.call (.c (.fn 18 []))
  [(.t 50), (.t 52), (.t 54)]), none⟩, {}⟩, ⟨⟨some 49, (.mov (.t 55)), none⟩, {}⟩, ⟨⟨some 56, (.extr 0 (.t 49)), none⟩, {}⟩, ⟨⟨some 57, (.extr 1 (.t 49)), none⟩, {}⟩, ⟨⟨some 58, (.extr 2 (.t 49)), none⟩, {}⟩, ⟨⟨some 14, (.mov (.t 56)), none⟩, {}⟩, ⟨⟨some 15, (.mov (.t 57)), none⟩, {}⟩, ⟨⟨some 16,
  (.mov (.t 58)), none⟩, {}⟩] none) law03_WalkWays_C14)
def law03_WalkWays_C9 : TC := (.seq (.rg [⟨⟨some 40, (.load true 2 (.t 7)), none⟩, {}⟩, ⟨⟨some 41, (.iadrA 1 2 (.t 10) (.c (I 0))), none⟩, {}⟩, ⟨⟨some 42, (.load false 1 (.t 41)), none⟩, {}⟩, ⟨⟨some 43, (.iadrA 1 2 (.t 10) (.c (I 1))), none⟩, {}⟩, ⟨⟨some 44, (.load false 1 (.t 43)), none⟩, {}⟩, ⟨⟨some 45, (.call (.c (.fn 17 []))
  [(.t 40), (.t 42), (.t 44)]), none⟩, {}⟩, ⟨⟨some 39, (.mov (.t 45)), none⟩, {}⟩, ⟨⟨some 46, (.extr 0 (.t 39)), none⟩, {}⟩, ⟨⟨some 47, (.extr 1 (.t 39)), none⟩, {}⟩, ⟨⟨some 48, (.extr 2 (.t 39)), none⟩, {}⟩, ⟨⟨some 11, (.mov (.t 46)), none⟩, {}⟩, ⟨⟨some 12, (.mov (.t 47)), none⟩, {}⟩, ⟨⟨some 13,
  (.mov (.t 48)), none⟩, {}⟩] none) law03_WalkWays_C12)
def law03_WalkWays_C10 : TC := (.rg [⟨⟨some 73, (.bin .add (.t 35) (.c (I 1))), none⟩, {}⟩, ⟨⟨some 35, (.mov (.t 73)), none⟩, {}⟩] none)
def law03_WalkWays_C7 : TC := (.seq (.block 1 (.seq (.rg [⟨⟨some 37, (.iadrS 2 (.t 33) (.t 35)), none⟩, {}⟩, ⟨⟨some 38, (.load true 2 (.t 37)), none⟩, {}⟩, ⟨⟨some 10, (.alloc [(I 0), (I 0)]), none⟩, {}⟩, ⟨⟨none, (.store 2 (.t 10) (.t 38)), none⟩, {}⟩] none) law03_WalkWays_C9)) law03_WalkWays_C10)
def law03_WalkWays_C4 : TC := (.seq (.cond (.t 36) .skip (.exit 0)) law03_WalkWays_C7)
def law03_WalkWays_C1 : TC := (.seq (.rg [⟨⟨some 36, (.bin .lss (.t 35) (.t 34)), none⟩, {}⟩] none) law03_WalkWays_C4)
def law03_WalkWays_C5 : TC := .ret
def law03_WalkWays_C2 : TC := (.seq (.rg [⟨⟨some 74, (.call (.c (.fn 16 [])) []), none⟩, {}⟩, ⟨⟨some 6, (.mov (.t 74)), none⟩, {}⟩] none) law03_WalkWays_C5)
def law03_WalkWays_C13 : TC := (.block 0 (.loop law03_WalkWays_N1 law03_WalkWays_C1))
def law03_WalkWays_C11 : TC := (.seq (.seq (.rg [⟨⟨some 23, (.mov (.t 1)), none⟩, {}⟩, ⟨⟨some 24, (.mov (.t 2)), none⟩, {}⟩, ⟨⟨some 25, (.build [(I 0), (I 0)] [(0, (1, (.t 23))), (1, (1, (.t 24)))]), none⟩, {}⟩, ⟨⟨some 26, (.mov (.t 1)), none⟩, {}⟩, ⟨⟨some 27, (.mov (.t 8)), none⟩, {}⟩, ⟨⟨some 28, (.call (.c (.fn 11 [])) [(.t 26),
  (.t 27)]), none⟩, {}⟩, ⟨⟨some 29, (.mov (.t 2)), none⟩, {}⟩, ⟨⟨some 30, (.mov (.t 8)), none⟩, {}⟩, ⟨⟨some 31, (.call (.c (.fn 11 [])) [(.t 29), (.t 30)]), none⟩, {}⟩, ⟨⟨some 32, (.build [(I 0), (I 0)] [(0, (1, (.t 28))), (1, (1, (.t 31)))]), none⟩, {}⟩, ⟨⟨some 33, (.bslice false 2 [(I 0), (I 0)] 2
  [(0, (.t 25)), (1, (.t 32))]), none⟩, ⟨G_Span, none⟩⟩, ⟨⟨some 34, (.len (.t 33)), none⟩, {}⟩, ⟨⟨some 35, (.mov (.c (I 0))), none⟩, {}⟩] none) law03_WalkWays_C13) law03_WalkWays_C2)
def law03_WalkWays_C8 : TC := (.seq (.rg [⟨⟨some 20, (.fadr 0 (.t 7)), none⟩, {}⟩, ⟨⟨some 21, (.load false 1 (.t 20)), none⟩, {}⟩, ⟨⟨some 22, (.len (.t 21)), none⟩, {}⟩, ⟨⟨some 8, (.mov (.t 22)), none⟩, {}⟩] none) law03_WalkWays_C11)
def law03_WalkWays_C6 : TC := (.seq (.rg [⟨⟨some 17, (.mov (.t 0)), none⟩, {}⟩, ⟨⟨some 18, (.call (.c (.fn 9 [])) [(.t 17)]), none⟩, {}⟩, ⟨⟨some 19, (.call (.c (.fn 10 [])) [(.t 18)]), none⟩, {}⟩, ⟨⟨some 7, (.alloc [(.lst true []), (.lst true [])]), none⟩, {}⟩, ⟨⟨none, (.store 2 (.t 7) (.t 19)), none⟩, {}⟩] none)
  law03_WalkWays_C8)
def law03_WalkWays_C3 : TC := (.seq (.rg [⟨⟨some 6, (.mov (.c (B false))), none⟩, {}⟩] none) law03_WalkWays_C6)
def law03_WalkWays_E (N : Nat) : List (Nat × Ent) := [(9, sfE [none] [.v (.list (.int .u8))] [.n G_Codes] (fun x => draw_New N x)), (10, sfE [none] [.b (.v G_Codes)] [.v G_Mine] (fun x => draw_Codes_Mine N x)), (11, pureE [(.int .i64), (.int .i64)] [(.int .i64)] (fun x => draw_Mod N x.1 x.2)), (17, pureE [G_Mine, (.int .i64), (.int .i64)] [(.list (.int .i64)), (.int .i64), .bool] (fun x => walk_Way N x.1 x.2.1 x.2.2)), (18, pureE [G_Mine, (.int .i64), (.int .i64)] [(.list (.int .i64)), (.int .i64), .bool] (fun x => ref03_Way N x.1 x.2.1 x.2.2)), (19, pureE [(.list (.int .i64)), (.list (.int .i64))] [.bool] (fun x => ref01_Ints N x.1 x.2)), (16, pureE [] [.bool] (fun x => law03_awake N))]
def law03_WalkWays_L1 (N : Nat) (n : Nat) (x5 : List T_Span) (x6 : Int) (x7 : Int) (x8 : List T_Place) (x9 : List T_Road) : Option Bool := loopN (normI 0 law03_WalkWays_N1) (run (law03_WalkWays_E N) N 0 law03_WalkWays_C1) n ⟨[(7, .ptr 0 0 0), (33, .lst false G_Span x5), (34, .int .i64 x6), (35, .int .i64 x7)], [some (.box 0 [.lst false G_Place x8, .lst false G_Road x9])]⟩ (blkK 0 (seqK (run (law03_WalkWays_E N) N 0 law03_WalkWays_C2) (fin [(.t 6)] [.bool])))
theorem law03_WalkWays_L1_zero (N : Nat) (x5 : List T_Span) (x6 : Int) (x7 : Int) (x8 : List T_Place) (x9 : List T_Road) : law03_WalkWays_L1 N 0 x5 x6 x7 x8 x9 = none := rfl
theorem law03_WalkWays_L1_succ (N : Nat) (n1 : Nat) (x5 : List T_Span) (x6 : Int) (x7 : Int) (x8 : List T_Place) (x9 : List T_Road) : law03_WalkWays_L1 N (n1 + 1) x5 x6 x7 x8 x9 =
  bif (decide (x7 < x6)) then
    bif inB x7 x5.length then
    Option.bind (walk_Way N (x8, x9) (x5.getD x7.toNat D_Span).1 (x5.getD x7.toNat D_Span).2) fun r11 =>
    Option.bind (ref03_Way N (x8, x9) (x5.getD x7.toNat D_Span).1 (x5.getD x7.toNat D_Span).2) fun r12 =>
    Option.bind (ref01_Ints N r11.1 r12.1) fun r13 =>
    bif (!r13) then
      some false
    else
      bif (r11.2.1 != r12.2.1) then
        some false
      else
        bif (!(r11.2.2 == r12.2.2)) then
          some false
        else
          law03_WalkWays_L1 N n1 x5 x6 (W (x7 + 1)) x8 x9
    else none
  else
    Option.bind (law03_awake N) fun r19 =>
    some r19 := by kernel_rfl
def law03_WalkWays (N : Nat) (a0 : List Int) (a1 : Int) (a2 : Int) : Option Bool :=
  Option.bind (draw_New N a0) fun r1 =>
  Option.bind (draw_Codes_Mine N r1.1) fun r2 =>
  Option.bind (draw_Mod N a1 (r2.1.1.length : Int)) fun r3 =>
  Option.bind (draw_Mod N a2 (r2.1.1.length : Int)) fun r4 =>
  law03_WalkWays_L1 N N [(a1, a2), (r3, r4)] ([(a1, a2), (r3, r4)].length : Int) 0 r2.1.1 r2.1.2
theorem law03_WalkWays_fn : FnOK Try.prog 4 75 (fun _ : Nat => false) law03_WalkWays_C3.er [(.t 6)] := FnOK.mk' Try.func4 (by kernel_rfl) (by kernel_rfl) (by kernel_rfl) (by kernel_rfl) (by kernel_rfl)
theorem law03_WalkWays_envok (N : Nat) : EnvOK Try.prog (law03_WalkWays_E N) := .cons (sfE_ok (draw_New_sf N)) (.cons (sfE_ok (draw_Codes_Mine_sf N)) (.cons (pureE_ok (draw_Mod_pure N)) (.cons (pureE_ok (walk_Way_pure N)) (.cons (pureE_ok (ref03_Way_pure N)) (.cons (pureE_ok (ref01_Ints_pure N)) (.cons (pureE_ok (law03_awake_pure N)) (.nil)))))))
theorem law03_WalkWays_pure (N : Nat) : PureOK Try.prog 4 [(.list (.int .u8)), (.int .i64), (.int .i64)] [.bool] (fun x => law03_WalkWays N x.1 x.2.1 x.2.2) := pureOK (N := N) mixed law03_WalkWays_fn (law03_WalkWays_envok N) (TC.noh_ok (by kernel_rfl)) rfl (fun x => by kernel_rfl)
end M
end Go.Proofs.Ytihgpillkgndbaa
