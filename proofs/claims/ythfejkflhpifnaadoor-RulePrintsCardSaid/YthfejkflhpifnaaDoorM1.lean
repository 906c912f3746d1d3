/- Plain models of functions of this seat, each checked against the loaded program and the walk by the kernel. No condition: closed facts. Printed by a program of ours. -/
import Derived.Test.YthfejkflhpifnaaDoorRl
import Derived.Test.YthfejkflhpifnaaDoorUs
import Derived.Test.YthfejkflhpifnaaDoorRp
import Derived.Test.YthfejkflhpifnaaDoorRows
set_option linter.all false
namespace Go.Proofs.YthfejkflhpifnaaDoor
open Go.Pv
namespace M
theorem mixed : Tryd.prog.follows .mixedOrders = true := Tryd.checked.mixed
abbrev G_boundsError : GT := (.pair (.int .i64) (.pair (.int .i64) (.pair .bool (.int .u8))))
abbrev T_boundsError := Int × Int × Bool × Int
abbrev D_boundsError : T_boundsError := (0, (0, (false, 0)))
abbrev G_errorAddressString : GT := (.pair .str (.int .u64))
abbrev T_errorAddressString := (List UInt8) × Int
abbrev D_errorAddressString : T_errorAddressString := ([], 0)
abbrev G_RuleNode : GT := (.pair (.int .i64) (.pair (.int .i64) (.pair (.int .i64) (.int .i64))))
abbrev T_RuleNode := Int × Int × Int × Int
abbrev D_RuleNode : T_RuleNode := (0, (0, (0, 0)))
abbrev G_reader : GT := (.pair .str (.list G_RuleNode))
abbrev T_reader := (List UInt8) × List T_RuleNode
abbrev D_reader : T_reader := ([], [])
abbrev G_Codes : GT := (.pair (.list (.int .u8)) (.int .i64))
abbrev T_Codes := (List Int) × Int
abbrev D_Codes : T_Codes := ([], 0)
abbrev G_errorString : GT := (.pair .str .unit)
abbrev T_errorString := (List UInt8) × Unit
abbrev D_errorString : T_errorString := ([], ())
/-! rule_part -/
def rule_part_C5 : TC := .ret
def rule_part_C3 : TC := (.cond (.t 17) (.seq (.rg [⟨⟨some 4, (.mov (.c (I 0))), none⟩, {}⟩, ⟨⟨some 5, (.mov (.c (I 0))), none⟩, {}⟩, ⟨⟨some 6, (.mov (.c (B false))), none⟩, {}⟩] none) rule_part_C5) .skip)
def rule_part_C11 : TC := .ret
def rule_part_C16 : TC := .ret
def rule_part_C13 : TC := (.seq (.rg [⟨⟨some 55, (.mov (.t 8)), none⟩, {}⟩, ⟨⟨some 56, (.mov (.t 9)), none⟩, {}⟩, ⟨⟨some 57, (.bin .add (.t 56) (.c (I 1))), none⟩, {}⟩, ⟨⟨some 58, (.mov (.t 10)), none⟩, {}⟩, ⟨⟨some 59, (.mov (.t 58)), none⟩, {}⟩, ⟨⟨some 60, (.fadr 1 (.t 7)), some (59, true)⟩, {}⟩, ⟨⟨some 61, (.load false 1
  (.t 60)), some (59, true)⟩, {}⟩, ⟨⟨some 62, (.bin .eql (.t 61) (.c (I 0))), some (59, true)⟩, {}⟩, ⟨⟨some 63, (.pick (.t 59) (.t 62) (.c (B false))), none⟩, {}⟩, ⟨⟨some 64, (.mov (.t 63)), none⟩, {}⟩, ⟨⟨some 65, (.fadr 3 (.t 7)), some (64, true)⟩, {}⟩, ⟨⟨some 66, (.load false 1 (.t 65)), some (64,
  true)⟩, {}⟩, ⟨⟨some 67, (.bin .eql (.t 66) (.c (I 0))), some (64, true)⟩, {}⟩, ⟨⟨some 68, (.pick (.t 64) (.t 67) (.c (B false))), none⟩, {}⟩, ⟨⟨some 69, (.mov (.t 68)), none⟩, {}⟩, ⟨⟨some 70, (.fadr 2 (.t 7)), some (69, true)⟩, {}⟩, ⟨⟨some 71, (.load false 1 (.t 70)), some (69, true)⟩, {}⟩, ⟨⟨some
  72, (.mov (.t 1)), some (69, true)⟩, {}⟩, ⟨⟨some 73, (.bin .sub (.t 72) (.c (I 1))), some (69, true)⟩, {}⟩, ⟨⟨some 74, (.bin .eql (.t 71) (.t 73)), some (69, true)⟩, {}⟩, ⟨⟨some 75, (.pick (.t 69) (.t 74) (.c (B false))), none⟩, {}⟩, ⟨⟨some 4, (.mov (.t 55)), none⟩, {}⟩, ⟨⟨some 5, (.mov (.t 57)),
  none⟩, {}⟩, ⟨⟨some 6, (.mov (.t 75)), none⟩, {}⟩] (some [])) rule_part_C16)
def rule_part_C14 : TC := (.cond (.t 76) .skip (.rg [⟨⟨some 78, (.bin .eql (.t 23) (.c (I 4))), none⟩, {}⟩, ⟨⟨some 76, (.mov (.t 78)), none⟩, {}⟩] none))
def rule_part_C20 : TC := .ret
def rule_part_C18 : TC := (.cond (.t 107) (.seq (.rg [⟨⟨some 4, (.mov (.c (I 0))), none⟩, {}⟩, ⟨⟨some 5, (.mov (.c (I 0))), none⟩, {}⟩, ⟨⟨some 6, (.mov (.c (B false))), none⟩, {}⟩] none) rule_part_C20) .skip)
def rule_part_C22 : TC := .ret
def rule_part_C21 : TC := (.seq (.rg [⟨⟨some 116, (.mov (.t 14)), none⟩, {}⟩, ⟨⟨some 117, (.mov (.t 15)), none⟩, {}⟩, ⟨⟨some 118, (.mov (.t 12)), none⟩, {}⟩, ⟨⟨some 119, (.mm true [(.t 117), (.t 118)]), none⟩, {}⟩, ⟨⟨some 120, (.bin .add (.t 119) (.c (I 1))), none⟩, {}⟩, ⟨⟨some 121, (.mov (.t 13)), none⟩, {}⟩, ⟨⟨some 4, (.mov
  (.t 116)), none⟩, {}⟩, ⟨⟨some 5, (.mov (.t 120)), none⟩, {}⟩, ⟨⟨some 6, (.mov (.t 121)), none⟩, {}⟩] none) rule_part_C22)
def rule_part_C19 : TC := (.seq (.rg [⟨⟨some 109, (.mov (.t 0)), none⟩, {}⟩, ⟨⟨some 110, (.mov (.t 11)), none⟩, {}⟩, ⟨⟨some 111, (.bin .sub (.t 110) (.c (I 1))), none⟩, {}⟩, ⟨⟨some 112, (.call (.c (.fn 40 [])) [(.t 109), (.t 111)]), none⟩, {}⟩, ⟨⟨some 108, (.mov (.t 112)), none⟩, {}⟩, ⟨⟨some 113, (.extr 0 (.t 108)), none⟩,
  {}⟩, ⟨⟨some 114, (.extr 1 (.t 108)), none⟩, {}⟩, ⟨⟨some 115, (.extr 2 (.t 108)), none⟩, {}⟩, ⟨⟨some 14, (.mov (.t 113)), none⟩, {}⟩, ⟨⟨some 15, (.mov (.t 114)), none⟩, {}⟩, ⟨⟨some 13, (.mov (.t 115)), none⟩, {}⟩] none) rule_part_C21)
def rule_part_C17 : TC := (.seq (.seq (.rg [⟨⟨some 87, (.mov (.t 13)), none⟩, {}⟩, ⟨⟨some 88, (.un .not (.t 87)), none⟩, {}⟩, ⟨⟨some 89, (.mov (.t 88)), none⟩, {}⟩, ⟨⟨some 90, (.fadr 1 (.t 7)), some (89, false)⟩, {}⟩, ⟨⟨some 91, (.load false 1 (.t 90)), some (89, false)⟩, {}⟩, ⟨⟨some 92, (.bin .neq (.t 91) (.c (I 0))), some
  (89, false)⟩, {}⟩, ⟨⟨some 93, (.pick (.t 89) (.c (B true)) (.t 92)), none⟩, {}⟩, ⟨⟨some 94, (.mov (.t 93)), none⟩, {}⟩, ⟨⟨some 95, (.fadr 3 (.t 7)), some (94, false)⟩, {}⟩, ⟨⟨some 96, (.load false 1 (.t 95)), some (94, false)⟩, {}⟩, ⟨⟨some 97, (.mov (.t 1)), some (94, false)⟩, {}⟩, ⟨⟨some 98, (.bin
  .sub (.t 97) (.c (I 1))), some (94, false)⟩, {}⟩, ⟨⟨some 99, (.bin .neq (.t 96) (.t 98)), some (94, false)⟩, {}⟩, ⟨⟨some 100, (.pick (.t 94) (.c (B true)) (.t 99)), none⟩, {}⟩, ⟨⟨some 101, (.mov (.t 100)), none⟩, {}⟩, ⟨⟨some 102, (.fadr 2 (.t 7)), some (101, false)⟩, {}⟩, ⟨⟨some 103, (.load false 1
  (.t 102)), some (101, false)⟩, {}⟩, ⟨⟨some 104, (.mov (.t 11)), some (101, false)⟩, {}⟩, ⟨⟨some 105, (.bin .sub (.t 104) (.c (I 1))), some (101, false)⟩, {}⟩, ⟨⟨some 106, (.bin .neq (.t 103) (.t 105)), some (101, false)⟩, {}⟩, ⟨⟨some 107, (.pick (.t 101) (.c (B true)) (.t 106)), none⟩, {}⟩] none)
  rule_part_C18) rule_part_C19)
def rule_part_C15 : TC := (.cond (.t 76) (.seq (.rg [⟨⟨some 80, (.mov (.t 0)), none⟩, {}⟩, ⟨⟨some 81, (.mov (.t 1)), none⟩, {}⟩, ⟨⟨some 82, (.bin .sub (.t 81) (.c (I 1))), none⟩, {}⟩, ⟨⟨some 83, (.call (.c (.fn 40 [])) [(.t 80), (.t 82)]), none⟩, {}⟩, ⟨⟨some 79, (.mov (.t 83)), none⟩, {}⟩, ⟨⟨some 84, (.extr 0 (.t 79)), none⟩,
  {}⟩, ⟨⟨some 85, (.extr 1 (.t 79)), none⟩, {}⟩, ⟨⟨some 86, (.extr 2 (.t 79)), none⟩, {}⟩, ⟨⟨some 11, (.mov (.t 84)), none⟩, {}⟩, ⟨⟨some 12, (.mov (.t 85)), none⟩, {}⟩, ⟨⟨some 13, (.mov (.t 86)), none⟩, {}⟩] none) rule_part_C17) .skip)
def rule_part_C12 : TC := (.cond (.t 45) (.seq (.rg [⟨⟨some 48, (.mov (.t 0)), none⟩, {}⟩, ⟨⟨some 49, (.mov (.t 1)), none⟩, {}⟩, ⟨⟨some 50, (.bin .sub (.t 49) (.c (I 1))), none⟩, {}⟩, ⟨⟨some 51, (.call (.c (.fn 40 [])) [(.t 48), (.t 50)]), none⟩, {}⟩, ⟨⟨some 47, (.mov (.t 51)), none⟩, {}⟩, ⟨⟨some 52, (.extr 0 (.t 47)), none⟩,
  {}⟩, ⟨⟨some 53, (.extr 1 (.t 47)), none⟩, {}⟩, ⟨⟨some 54, (.extr 2 (.t 47)), none⟩, {}⟩, ⟨⟨some 8, (.mov (.t 52)), none⟩, {}⟩, ⟨⟨some 9, (.mov (.t 53)), none⟩, {}⟩, ⟨⟨some 10, (.mov (.t 54)), none⟩, {}⟩] none) rule_part_C13) (.seq (.seq (.rg [⟨⟨some 77, (.bin .eql (.t 23) (.c (I 3))), none⟩, {}⟩,
  ⟨⟨some 76, (.mov (.t 77)), none⟩, {}⟩] none) rule_part_C14) rule_part_C15))
def rule_part_C9 : TC := (.cond (.t 24) (.seq (.rg [⟨⟨some 26, (.mov (.t 1)), none⟩, {}⟩, ⟨⟨some 27, (.fadr 2 (.t 7)), none⟩, {}⟩, ⟨⟨some 28, (.load false 1 (.t 27)), none⟩, {}⟩, ⟨⟨some 29, (.bin .eql (.t 28) (.c (I 0))), none⟩, {}⟩, ⟨⟨some 30, (.mov (.t 29)), none⟩, {}⟩, ⟨⟨some 31, (.fadr 3 (.t 7)), some (30, true)⟩, {}⟩,
  ⟨⟨some 32, (.load false 1 (.t 31)), some (30, true)⟩, {}⟩, ⟨⟨some 33, (.bin .eql (.t 32) (.c (I 0))), some (30, true)⟩, {}⟩, ⟨⟨some 34, (.pick (.t 30) (.t 33) (.c (B false))), none⟩, {}⟩, ⟨⟨some 35, (.mov (.t 34)), none⟩, {}⟩, ⟨⟨some 36, (.fadr 1 (.t 7)), some (35, true)⟩, {}⟩, ⟨⟨some 37, (.load
  false 1 (.t 36)), some (35, true)⟩, {}⟩, ⟨⟨some 38, (.bin .geq (.t 37) (.c (I 0))), some (35, true)⟩, {}⟩, ⟨⟨some 39, (.pick (.t 35) (.t 38) (.c (B false))), none⟩, {}⟩, ⟨⟨some 40, (.mov (.t 39)), none⟩, {}⟩, ⟨⟨some 41, (.fadr 1 (.t 7)), some (40, true)⟩, {}⟩, ⟨⟨some 42, (.load false 1 (.t 41)),
  some (40, true)⟩, {}⟩, ⟨⟨some 43, (.bin .lss (.t 42) (.c (I 64))), some (40, true)⟩, {}⟩, ⟨⟨some 44, (.pick (.t 40) (.t 43) (.c (B false))), none⟩, {}⟩, ⟨⟨some 4, (.mov (.t 26)), none⟩, {}⟩, ⟨⟨some 5, (.mov (.c (I 1))), none⟩, {}⟩, ⟨⟨some 6, (.mov (.t 44)), none⟩, {}⟩] (some [])) rule_part_C11)
  (.seq (.rg [⟨⟨some 46, (.bin .eql (.t 23) (.c (I 2))), none⟩, {}⟩, ⟨⟨some 45, (.mov (.t 46)), none⟩, {}⟩] none) rule_part_C12))
def rule_part_C7 : TC := (.block 0 (.seq (.rg [⟨⟨some 25, (.bin .eql (.t 23) (.c (I 1))), none⟩, {}⟩, ⟨⟨some 24, (.mov (.t 25)), none⟩, {}⟩] none) rule_part_C9))
def rule_part_C10 : TC := .ret
def rule_part_C8 : TC := (.seq (.rg [⟨⟨some 4, (.mov (.c (I 0))), none⟩, {}⟩, ⟨⟨some 5, (.mov (.c (I 0))), none⟩, {}⟩, ⟨⟨some 6, (.mov (.c (B false))), none⟩, {}⟩] none) rule_part_C10)
def rule_part_C6 : TC := (.seq (.seq (.rg [⟨⟨some 22, (.fadr 0 (.t 7)), none⟩, {}⟩, ⟨⟨some 23, (.load false 1 (.t 22)), none⟩, {}⟩] none) rule_part_C7) rule_part_C8)
def rule_part_C4 : TC := (.seq (.rg [⟨⟨some 18, (.mov (.t 0)), none⟩, {}⟩, ⟨⟨some 19, (.mov (.t 1)), none⟩, {}⟩, ⟨⟨some 20, (.iadrS 4 (.t 18) (.t 19)), none⟩, {}⟩, ⟨⟨some 21, (.load true 4 (.t 20)), none⟩, {}⟩, ⟨⟨some 7, (.alloc [(I 0), (I 0), (I 0), (I 0)]), none⟩, {}⟩, ⟨⟨none, (.store 4 (.t 7) (.t 21)), none⟩, {}⟩] none)
  rule_part_C6)
def rule_part_C2 : TC := (.seq (.seq (.rg [⟨⟨some 16, (.mov (.t 1)), none⟩, {}⟩, ⟨⟨some 17, (.bin .lss (.t 16) (.c (I 0))), none⟩, {}⟩] none) rule_part_C3) rule_part_C4)
def rule_part_C1 : TC := (.seq (.rg [⟨⟨some 4, (.mov (.c (I 0))), none⟩, {}⟩, ⟨⟨some 5, (.mov (.c (I 0))), none⟩, {}⟩, ⟨⟨some 6, (.mov (.c (B false))), none⟩, {}⟩] none) rule_part_C2)
def rule_part_E (N : Nat) (self : (List T_RuleNode) → Int → Option (Int × Int × Bool)) : List (Nat × Ent) := [(40, pureE [(.list G_RuleNode), (.int .i64)] [(.int .i64), (.int .i64), .bool] (fun x => self x.1 x.2))]
def rule_part_R (N : Nat) (self : (List T_RuleNode) → Int → Option (Int × Int × Bool)) (a0 : List T_RuleNode) (a1 : Int) : Option (Int × Int × Bool) :=
  bif (decide (a1 < 0)) then
    some (0, 0, false)
  else
    bif inB a1 a0.length then
    let v1 := a0.getD a1.toNat D_RuleNode
    bif (v1.1 == 1) then
      bif (v1.2.2.1 == 0) then
        bif (v1.2.2.2 == 0) then
          bif (decide (v1.2.1 ≥ 0)) then
            some (a1, 1, (decide (v1.2.1 < 64)))
          else
            some (a1, 1, false)
        else
          some (a1, 1, false)
      else
        some (a1, 1, false)
    else
      bif (v1.1 == 2) then
        Option.bind (self a0 (W (a1 - 1))) fun r2 =>
        bif r2.2.2 then
          bif (v1.2.1 == 0) then
            bif (v1.2.2.2 == 0) then
              some (r2.1, W (r2.2.1 + 1), (v1.2.2.1 == (W (a1 - 1))))
            else
              some (r2.1, W (r2.2.1 + 1), false)
          else
            some (r2.1, W (r2.2.1 + 1), false)
        else
          some (r2.1, W (r2.2.1 + 1), false)
      else
        bif (v1.1 == 3) then
          Option.bind (self a0 (W (a1 - 1))) fun r3 =>
          bif (!r3.2.2) then
            some (0, 0, false)
          else
            bif (v1.2.1 != 0) then
              some (0, 0, false)
            else
              bif (v1.2.2.2 != (W (a1 - 1))) then
                some (0, 0, false)
              else
                bif (v1.2.2.1 != (W (r3.1 - 1))) then
                  some (0, 0, false)
                else
                  Option.bind (self a0 (W (r3.1 - 1))) fun r4 =>
                  some (r4.1, (W ((max r4.2.1 r3.2.1) + 1)), r4.2.2)
        else
          bif (v1.1 == 4) then
            Option.bind (self a0 (W (a1 - 1))) fun r6 =>
            bif (!r6.2.2) then
              some (0, 0, false)
            else
              bif (v1.2.1 != 0) then
                some (0, 0, false)
              else
                bif (v1.2.2.2 != (W (a1 - 1))) then
                  some (0, 0, false)
                else
                  bif (v1.2.2.1 != (W (r6.1 - 1))) then
                    some (0, 0, false)
                  else
                    Option.bind (self a0 (W (r6.1 - 1))) fun r7 =>
                    some (r7.1, (W ((max r7.2.1 r6.2.1) + 1)), r7.2.2)
          else
            some (0, 0, false)
    else none
def rule_part_M (N : Nat) : Nat → (List T_RuleNode) → Int → Option (Int × Int × Bool)
  | 0, _, _ => none
  | n + 1, a0, a1 => rule_part_R N (rule_part_M N n) a0 a1
theorem rule_part_M_succ (N n : Nat) (a0 : List T_RuleNode) (a1 : Int) : rule_part_M N (n + 1) a0 a1 = rule_part_R N (rule_part_M N n) a0 a1 := rfl
def rule_part (N : Nat) (a0 : List T_RuleNode) (a1 : Int) : Option (Int × Int × Bool) := rule_part_M N N a0 a1
theorem rule_part_fn : FnOK Tryd.prog 40 122 (fun _ : Nat => false) rule_part_C1.er [(.t 4), (.t 5), (.t 6)] := FnOK.mk' Tryd.func40 (by kernel_rfl) (by kernel_rfl) (by kernel_rfl) (by kernel_rfl) (by kernel_rfl)
theorem rule_part_envok (N : Nat) (self : (List T_RuleNode) → Int → Option (Int × Int × Bool)) (hself : PureOK Tryd.prog 40 [(.list G_RuleNode), (.int .i64)] [(.int .i64), (.int .i64), .bool] (fun x => self x.1 x.2)) : EnvOK Tryd.prog (rule_part_E N self) := .cons (pureE_ok hself) (.nil)
theorem rule_part_pures (N : Nat) : ∀ n, PureOK Tryd.prog 40 [(.list G_RuleNode), (.int .i64)] [(.int .i64), (.int .i64), .bool] (fun x => rule_part_M N n x.1 x.2)
  | 0 => fun x y h => by cases h
  | n + 1 => pureOK (N := N) mixed rule_part_fn (rule_part_envok N (rule_part_M N n) (rule_part_pures N n)) (TC.noh_ok (by kernel_rfl)) rfl (fun x => by kernel_rfl)
theorem rule_part_pure (N : Nat) : PureOK Tryd.prog 40 [(.list G_RuleNode), (.int .i64)] [(.int .i64), (.int .i64), .bool] (fun x => rule_part N x.1 x.2) := rule_part_pures N N
/-! rule_right -/
def rule_right_C5 : TC := .ret
def rule_right_C3 : TC := (.cond (.t 13) (.seq (.rg [⟨⟨some 2, (.mov (.c (B false))), none⟩, {}⟩] none) rule_right_C5) .skip)
def rule_right_C7 : TC := .ret
def rule_right_C6 : TC := (.seq (.rg [⟨⟨some 23, (.mov (.t 5)), none⟩, {}⟩, ⟨⟨some 24, (.mov (.t 23)), none⟩, {}⟩, ⟨⟨some 25, (.mov (.t 3)), some (24, true)⟩, {}⟩, ⟨⟨some 26, (.bin .eql (.t 25) (.c (I 0))), some (24, true)⟩, {}⟩, ⟨⟨some 27, (.pick (.t 24) (.t 26) (.c (B false))), none⟩, {}⟩, ⟨⟨some 28, (.mov (.t 27)), none⟩,
  {}⟩, ⟨⟨some 29, (.mov (.t 4)), some (28, true)⟩, {}⟩, ⟨⟨some 30, (.bin .leq (.t 29) (.c (I 16))), some (28, true)⟩, {}⟩, ⟨⟨some 31, (.pick (.t 28) (.t 30) (.c (B false))), none⟩, {}⟩, ⟨⟨some 2, (.mov (.t 31)), none⟩, {}⟩] none) rule_right_C7)
def rule_right_C4 : TC := (.seq (.rg [⟨⟨some 15, (.mov (.t 0)), none⟩, {}⟩, ⟨⟨some 16, (.mov (.t 0)), none⟩, {}⟩, ⟨⟨some 17, (.len (.t 16)), none⟩, {}⟩, ⟨⟨some 18, (.bin .sub (.t 17) (.c (I 1))), none⟩, {}⟩, ⟨⟨some 19, (.call (.c (.fn 40 [])) [(.t 15), (.t 18)]), none⟩, {}⟩, ⟨⟨some 14, (.mov (.t 19)), none⟩, {}⟩, ⟨⟨some 20,
  (.extr 0 (.t 14)), none⟩, {}⟩, ⟨⟨some 21, (.extr 1 (.t 14)), none⟩, {}⟩, ⟨⟨some 22, (.extr 2 (.t 14)), none⟩, {}⟩, ⟨⟨some 3, (.mov (.t 20)), none⟩, {}⟩, ⟨⟨some 4, (.mov (.t 21)), none⟩, {}⟩, ⟨⟨some 5, (.mov (.t 22)), none⟩, {}⟩] none) rule_right_C6)
def rule_right_C2 : TC := (.seq (.seq (.rg [⟨⟨some 6, (.mov (.t 0)), none⟩, {}⟩, ⟨⟨some 7, (.len (.t 6)), none⟩, {}⟩, ⟨⟨some 8, (.bin .lss (.t 7) (.c (I 1))), none⟩, {}⟩, ⟨⟨some 9, (.mov (.t 8)), none⟩, {}⟩, ⟨⟨some 10, (.mov (.t 0)), some (9, false)⟩, {}⟩, ⟨⟨some 11, (.len (.t 10)), some (9, false)⟩, {}⟩, ⟨⟨some 12, (.bin
  .gtr (.t 11) (.c (I 64))), some (9, false)⟩, {}⟩, ⟨⟨some 13, (.pick (.t 9) (.c (B true)) (.t 12)), none⟩, {}⟩] none) rule_right_C3) rule_right_C4)
def rule_right_C1 : TC := (.seq (.rg [⟨⟨some 2, (.mov (.c (B false))), none⟩, {}⟩] none) rule_right_C2)
def rule_right_E (N : Nat) : List (Nat × Ent) := [(40, pureE [(.list G_RuleNode), (.int .i64)] [(.int .i64), (.int .i64), .bool] (fun x => rule_part N x.1 x.2))]
def rule_right (N : Nat) (a0 : List T_RuleNode) : Option Bool :=
  bif (decide ((a0.length : Int) < 1)) then
    some false
  else
    bif (decide ((a0.length : Int) > 64)) then
      some false
    else
      Option.bind (rule_part N a0 (W ((a0.length : Int) - 1))) fun r2 =>
      bif r2.2.2 then
        bif (r2.1 == 0) then
          some (decide (r2.2.1 ≤ 16))
        else
          some false
      else
        some false
theorem rule_right_fn : FnOK Tryd.prog 31 32 (fun _ : Nat => false) rule_right_C1.er [(.t 2)] := FnOK.mk' Tryd.func31 (by kernel_rfl) (by kernel_rfl) (by kernel_rfl) (by kernel_rfl) (by kernel_rfl)
theorem rule_right_envok (N : Nat) : EnvOK Tryd.prog (rule_right_E N) := .cons (pureE_ok (rule_part_pure N)) (.nil)
theorem rule_right_pure (N : Nat) : PureOK Tryd.prog 31 [(.list G_RuleNode)] [.bool] (fun x => rule_right N x) := pureOK (N := N) mixed rule_right_fn (rule_right_envok N) (TC.noh_ok (by kernel_rfl)) rfl (fun x => by kernel_rfl)
/-! rule_Check -/
def rule_Check_N1 : List NS := [.wk 10 (.list G_RuleNode), .keep [1, 10, 11, 12], .cmp]
def rule_Check_C15 : TC := .ret
def rule_Check_C14 : TC := (.cond (.t 24) (.seq (.rg [⟨⟨some 4, (.mov (.c (I 1))), none⟩, {}⟩] none) rule_Check_C15) .skip)
def rule_Check_C10 : TC := (.seq (.rg [⟨⟨some 16, (.fadr 0 (.t 6)), none⟩, {}⟩, ⟨⟨some 17, (.load false 1 (.t 16)), none⟩, {}⟩, ⟨⟨some 18, (.bin .eql (.t 17) (.c (I 1))), none⟩, {}⟩, ⟨⟨some 19, (.mov (.t 18)), none⟩, {}⟩, ⟨⟨some 20, (.fadr 1 (.t 6)), some (19, true)⟩, {}⟩, ⟨⟨some 21, (.load false 1 (.t 20)), some (19, true)⟩,
  {}⟩, ⟨⟨some 22, (.mov (.t 1)), some (19, true)⟩, {}⟩, ⟨⟨some 23, (.bin .geq (.t 21) (.t 22)), some (19, true)⟩, {}⟩, ⟨⟨some 24, (.pick (.t 19) (.t 23) (.c (B false))), none⟩, {}⟩] none) rule_Check_C14)
def rule_Check_C11 : TC := (.rg [⟨⟨some 25, (.bin .add (.t 12) (.c (I 1))), none⟩, {}⟩, ⟨⟨some 12, (.mov (.t 25)), none⟩, {}⟩] none)
def rule_Check_C7 : TC := (.seq (.block 1 (.seq (.rg [⟨⟨some 14, (.iadrS 4 (.t 10) (.t 12)), none⟩, {}⟩, ⟨⟨some 15, (.load true 4 (.t 14)), none⟩, {}⟩, ⟨⟨some 6, (.alloc [(I 0), (I 0), (I 0), (I 0)]), none⟩, {}⟩, ⟨⟨none, (.store 4 (.t 6) (.t 15)), none⟩, {}⟩] none) rule_Check_C10)) rule_Check_C11)
def rule_Check_C4 : TC := (.seq (.cond (.t 13) .skip (.exit 0)) rule_Check_C7)
def rule_Check_C1 : TC := (.seq (.rg [⟨⟨some 13, (.bin .lss (.t 12) (.t 11)), none⟩, {}⟩] none) rule_Check_C4)
def rule_Check_C5 : TC := .ret
def rule_Check_C2 : TC := (.seq (.rg [⟨⟨some 4, (.mov (.c (I 0))), none⟩, {}⟩] none) rule_Check_C5)
def rule_Check_C12 : TC := .ret
def rule_Check_C8 : TC := (.cond (.t 9) (.seq (.rg [⟨⟨some 4, (.mov (.c (I 18))), none⟩, {}⟩] none) rule_Check_C12) .skip)
def rule_Check_C13 : TC := (.block 0 (.loop rule_Check_N1 rule_Check_C1))
def rule_Check_C9 : TC := (.seq (.seq (.rg [⟨⟨some 10, (.mov (.t 0)), none⟩, {}⟩, ⟨⟨some 11, (.len (.t 10)), none⟩, {}⟩, ⟨⟨some 12, (.mov (.c (I 0))), none⟩, {}⟩] none) rule_Check_C13) rule_Check_C2)
def rule_Check_C6 : TC := (.seq (.seq (.rg [⟨⟨some 7, (.mov (.t 0)), none⟩, {}⟩, ⟨⟨some 8, (.call (.c (.fn 31 [])) [(.t 7)]), none⟩, {}⟩, ⟨⟨some 9, (.un .not (.t 8)), none⟩, {}⟩] none) rule_Check_C8) rule_Check_C9)
def rule_Check_C3 : TC := (.seq (.rg [⟨⟨some 4, (.mov (.c (I 0))), none⟩, {}⟩] none) rule_Check_C6)
def rule_Check_E (N : Nat) : List (Nat × Ent) := [(31, pureE [(.list G_RuleNode)] [.bool] (fun x => rule_right N x))]
def rule_Check_L1 (N : Nat) (n : Nat) (x2 : Int) (x3 : List T_RuleNode) (x4 : Int) (x5 : Int) : Option Int := loopN (normI 0 rule_Check_N1) (run (rule_Check_E N) N 0 rule_Check_C1) n ⟨[(1, .int .i64 x2), (10, .lst false G_RuleNode x3), (11, .int .i64 x4), (12, .int .i64 x5)], []⟩ (blkK 0 (seqK (run (rule_Check_E N) N 0 rule_Check_C2) (fin [(.t 4)] [(.int .i64)])))
def rule_Check (N : Nat) (a0 : List T_RuleNode) (a1 : Int) : Option Int :=
  Option.bind (rule_right N a0) fun r1 =>
  bif (!r1) then
    some 18
  else
    rule_Check_L1 N N a1 a0 (a0.length : Int) 0
theorem rule_Check_fn : FnOK Tryd.prog 12 26 (fun _ : Nat => false) rule_Check_C3.er [(.t 4)] := FnOK.mk' Tryd.func12 (by kernel_rfl) (by kernel_rfl) (by kernel_rfl) (by kernel_rfl) (by kernel_rfl)
theorem rule_Check_envok (N : Nat) : EnvOK Tryd.prog (rule_Check_E N) := .cons (pureE_ok (rule_right_pure N)) (.nil)
theorem rule_Check_pure (N : Nat) : PureOK Tryd.prog 12 [(.list G_RuleNode), (.int .i64)] [(.int .i64)] (fun x => rule_Check N x.1 x.2) := pureOK (N := N) mixed rule_Check_fn (rule_Check_envok N) (TC.noh_ok (by kernel_rfl)) rfl (fun x => by kernel_rfl)
/-! ref01_Ints -/
def ref01_Ints_N1 : List NS := [.wk 0 (.list (.int .i64)), .wk 1 (.list (.int .i64)), .keep [0, 1, 5], .cmp]
def ref01_Ints_C4 : TC := (.cond (.t 14) .skip (.exit 0))
def ref01_Ints_C12 : TC := .ret
def ref01_Ints_C8 : TC := (.cond (.t 25) (.seq (.rg [⟨⟨some 4, (.mov (.c (B false))), none⟩, {}⟩] none) ref01_Ints_C12) .skip)
def ref01_Ints_C9 : TC := (.rg [⟨⟨some 15, (.mov (.t 5)), none⟩, {}⟩, ⟨⟨some 16, (.bin .add (.t 15) (.c (I 1))), none⟩, {}⟩, ⟨⟨some 5, (.mov (.t 16)), none⟩, {}⟩] none)
def ref01_Ints_C5 : TC := (.seq (.block 1 (.seq (.rg [⟨⟨some 17, (.mov (.t 0)), none⟩, {}⟩, ⟨⟨some 18, (.mov (.t 5)), none⟩, {}⟩, ⟨⟨some 19, (.iadrS 1 (.t 17) (.t 18)), none⟩, {}⟩, ⟨⟨some 20, (.load false 1 (.t 19)), none⟩, {}⟩, ⟨⟨some 21, (.mov (.t 1)), none⟩, {}⟩, ⟨⟨some 22, (.mov (.t 5)), none⟩, {}⟩, ⟨⟨some 23, (.iadrS 1
  (.t 21) (.t 22)), none⟩, {}⟩, ⟨⟨some 24, (.load false 1 (.t 23)), none⟩, {}⟩, ⟨⟨some 25, (.bin .neq (.t 20) (.t 24)), none⟩, {}⟩] (some [])) ref01_Ints_C8)) ref01_Ints_C9)
def ref01_Ints_C1 : TC := (.seq (.seq (.rg [⟨⟨some 11, (.mov (.t 5)), none⟩, {}⟩, ⟨⟨some 12, (.mov (.t 0)), none⟩, {}⟩, ⟨⟨some 13, (.len (.t 12)), none⟩, {}⟩, ⟨⟨some 14, (.bin .lss (.t 11) (.t 13)), none⟩, {}⟩] none) ref01_Ints_C4) ref01_Ints_C5)
def ref01_Ints_C6 : TC := .ret
def ref01_Ints_C2 : TC := (.seq (.rg [⟨⟨some 4, (.mov (.c (B true))), none⟩, {}⟩] none) ref01_Ints_C6)
def ref01_Ints_C13 : TC := .ret
def ref01_Ints_C10 : TC := (.cond (.t 10) (.seq (.rg [⟨⟨some 4, (.mov (.c (B false))), none⟩, {}⟩] none) ref01_Ints_C13) .skip)
def ref01_Ints_C14 : TC := (.block 0 (.loop ref01_Ints_N1 ref01_Ints_C1))
def ref01_Ints_C11 : TC := (.seq (.seq (.rg [⟨⟨some 5, (.mov (.c (I 0))), none⟩, {}⟩] none) ref01_Ints_C14) ref01_Ints_C2)
def ref01_Ints_C7 : TC := (.seq (.seq (.rg [⟨⟨some 6, (.mov (.t 0)), none⟩, {}⟩, ⟨⟨some 7, (.len (.t 6)), none⟩, {}⟩, ⟨⟨some 8, (.mov (.t 1)), none⟩, {}⟩, ⟨⟨some 9, (.len (.t 8)), none⟩, {}⟩, ⟨⟨some 10, (.bin .neq (.t 7) (.t 9)), none⟩, {}⟩] none) ref01_Ints_C10) ref01_Ints_C11)
def ref01_Ints_C3 : TC := (.seq (.rg [⟨⟨some 4, (.mov (.c (B false))), none⟩, {}⟩] none) ref01_Ints_C7)
def ref01_Ints_E (N : Nat) : List (Nat × Ent) := []
def ref01_Ints_L1 (N : Nat) (n : Nat) (x1 : List Int) (x2 : List Int) (x3 : Int) : Option Bool := loopN (normI 0 ref01_Ints_N1) (run (ref01_Ints_E N) N 0 ref01_Ints_C1) n ⟨[(0, .lst false (.int .i64) x1), (1, .lst false (.int .i64) x2), (5, .int .i64 x3)], []⟩ (blkK 0 (seqK (run (ref01_Ints_E N) N 0 ref01_Ints_C2) (fin [(.t 4)] [.bool])))
def ref01_Ints (N : Nat) (a0 : List Int) (a1 : List Int) : Option Bool :=
  bif ((a0.length : Int) != (a1.length : Int)) then
    some false
  else
    ref01_Ints_L1 N N a0 a1 0
theorem ref01_Ints_fn : FnOK Tryd.prog 14 26 (fun _ : Nat => false) ref01_Ints_C3.er [(.t 4)] := FnOK.mk' Tryd.func14 (by kernel_rfl) (by kernel_rfl) (by kernel_rfl) (by kernel_rfl) (by kernel_rfl)
theorem ref01_Ints_envok (N : Nat) : EnvOK Tryd.prog (ref01_Ints_E N) := .nil
theorem ref01_Ints_pure (N : Nat) : PureOK Tryd.prog 14 [(.list (.int .i64)), (.list (.int .i64))] [.bool] (fun x => ref01_Ints N x.1 x.2) := pureOK (N := N) mixed ref01_Ints_fn (ref01_Ints_envok N) (TC.noh_ok (by kernel_rfl)) rfl (fun x => by kernel_rfl)
/-! rule_Uses -/
def rule_Uses_C7 : TC := .ret
def rule_Uses_C5 : TC := (.pre [.frz 2] rule_Uses_C7)
def rule_Uses_C3 : TC := (.cond (.t 11) (.seq (.rg [⟨⟨some 2, (.mov (.c (.lst true []))), none⟩, {}⟩] none) rule_Uses_C5) .skip)
def rule_Uses_C9 : TC := .ret
def rule_Uses_C8 : TC := (.pre [.frz 2] rule_Uses_C9)
def rule_Uses_C6 : TC := (.seq (.rg [⟨⟨some 36, (.mov (.t 6)), none⟩, {}⟩, ⟨⟨some 2, (.mov (.t 36)), none⟩, {}⟩] none) rule_Uses_C8)
def rule_Uses_C4 : TC := (.hand [uses_A, uses_B, uses_C, uses_D] (.list (.int .i64)) uses_g uses_u rule_Uses_C6)
def rule_Uses_C2 : TC := (.seq (.seq (.rg [⟨⟨some 9, (.mov (.t 0)), none⟩, {}⟩, ⟨⟨some 10, (.call (.c (.fn 31 [])) [(.t 9)]), none⟩, {}⟩, ⟨⟨some 11, (.un .not (.t 10)), none⟩, {}⟩] none) rule_Uses_C3) rule_Uses_C4)
def rule_Uses_C1 : TC := (.seq (.rg [⟨⟨some 2, (.mov (.c (.lst true []))), none⟩, {}⟩] none) rule_Uses_C2)
def rule_Uses_E (N : Nat) : List (Nat × Ent) := [(31, pureE [(.list G_RuleNode)] [.bool] (fun x => rule_right N x))]
def rule_Uses (N : Nat) (a0 : List T_RuleNode) : Option (List Int) :=
  Option.bind (rule_right N a0) fun r1 =>
  bif (!r1) then
    some []
  else
    Option.bind (usesM a0) fun r2 =>
    some r2
theorem rule_Uses_fn : FnOK Tryd.prog 15 37 (fun _ : Nat => false) rule_Uses_C1.er [(.t 2)] := FnOK.mk' Tryd.func15 (by kernel_rfl) (by kernel_rfl) (by kernel_rfl) (by kernel_rfl) (by kernel_rfl)
theorem rule_Uses_envok (N : Nat) : EnvOK Tryd.prog (rule_Uses_E N) := .cons (pureE_ok (rule_right_pure N)) (.nil)
theorem rule_Uses_pure (N : Nat) : PureOK Tryd.prog 15 [(.list G_RuleNode)] [(.list (.int .i64))] (fun x => rule_Uses N x) := pureOK (N := N) mixed rule_Uses_fn (rule_Uses_envok N) (And.intro trivial (And.intro (And.intro trivial (And.intro (And.intro trivial trivial) trivial)) (And.intro uses_hand (And.intro trivial trivial)))) rfl (fun x => by kernel_rfl)
/-! rule_Eval -/
def rule_Eval_N1 : List NS := [.wk 1 (.list (.int .i64)), .wk 5 (.list (.int .i64)), .wk 14 (.list G_RuleNode), .keep [1, 5, 14, 15, 16], .cmp]
def rule_Eval_C17 : TC := (.cond (.t 59) (.rg [⟨⟨some 60, (.mov (.t 5)), none⟩, {}⟩, ⟨⟨some 61, (.mov (.t 6)), none⟩, {}⟩, ⟨⟨some 62, (.mov (.t 1)), none⟩, {}⟩, ⟨⟨some 63, (.fadr 1 (.t 7)), none⟩, {}⟩, ⟨⟨some 64, (.load false 1 (.t 63)), none⟩, {}⟩, ⟨⟨some 65, (.iadrS 1 (.t 62) (.t 64)), none⟩, {}⟩, ⟨⟨some 66, (.load false 1
  (.t 65)), none⟩, {}⟩, ⟨⟨some 67, (.iadrS 1 (.t 60) (.t 61)), none⟩, {}⟩, ⟨⟨none, (.store 1 (.t 67) (.t 66)), none⟩, {}⟩] none) .skip)
def rule_Eval_C19 : TC := (.cond (.t 79) (.rg [⟨⟨some 81, (.mov (.t 5)), none⟩, {}⟩, ⟨⟨some 82, (.mov (.t 6)), none⟩, {}⟩, ⟨⟨some 83, (.mov (.t 5)), none⟩, {}⟩, ⟨⟨some 84, (.fadr 2 (.t 7)), none⟩, {}⟩, ⟨⟨some 85, (.load false 1 (.t 84)), none⟩, {}⟩, ⟨⟨some 86, (.iadrS 1 (.t 83) (.t 85)), none⟩, {}⟩, ⟨⟨some 87, (.load false 1
  (.t 86)), none⟩, {}⟩, ⟨⟨some 88, (.mov (.t 5)), none⟩, {}⟩, ⟨⟨some 89, (.fadr 3 (.t 7)), none⟩, {}⟩, ⟨⟨some 90, (.load false 1 (.t 89)), none⟩, {}⟩, ⟨⟨some 91, (.iadrS 1 (.t 88) (.t 90)), none⟩, {}⟩, ⟨⟨some 92, (.load false 1 (.t 91)), none⟩, {}⟩, ⟨⟨some 93, (.mm false [(.t 87), (.t 92)]), none⟩,
  {}⟩, ⟨⟨some 94, (.iadrS 1 (.t 81) (.t 82)), none⟩, {}⟩, ⟨⟨none, (.store 1 (.t 94) (.t 93)), none⟩, {}⟩] (some [])) (.rg [⟨⟨some 23, (.mov (.t 5)), none⟩, {}⟩, ⟨⟨some 24, (.mov (.t 6)), none⟩, {}⟩, ⟨⟨some 25, (.mov (.t 5)), none⟩, {}⟩, ⟨⟨some 26, (.fadr 2 (.t 7)), none⟩, {}⟩, ⟨⟨some 27, (.load false
  1 (.t 26)), none⟩, {}⟩, ⟨⟨some 28, (.iadrS 1 (.t 25) (.t 27)), none⟩, {}⟩, ⟨⟨some 29, (.load false 1 (.t 28)), none⟩, {}⟩, ⟨⟨some 30, (.mov (.t 5)), none⟩, {}⟩, ⟨⟨some 31, (.fadr 3 (.t 7)), none⟩, {}⟩, ⟨⟨some 32, (.load false 1 (.t 31)), none⟩, {}⟩, ⟨⟨some 33, (.iadrS 1 (.t 30) (.t 32)), none⟩,
  {}⟩, ⟨⟨some 34, (.load false 1 (.t 33)), none⟩, {}⟩, ⟨⟨some 35, (.mm true [(.t 29), (.t 34)]), none⟩, {}⟩, ⟨⟨some 36, (.iadrS 1 (.t 23) (.t 24)), none⟩, {}⟩, ⟨⟨none, (.store 1 (.t 36) (.t 35)), none⟩, {}⟩] (some [])))
def rule_Eval_C18 : TC := (.cond (.t 68) (.rg [⟨⟨some 70, (.mov (.t 5)), none⟩, {}⟩, ⟨⟨some 71, (.mov (.t 6)), none⟩, {}⟩, ⟨⟨some 72, (.mov (.t 5)), none⟩, {}⟩, ⟨⟨some 73, (.fadr 2 (.t 7)), none⟩, {}⟩, ⟨⟨some 74, (.load false 1 (.t 73)), none⟩, {}⟩, ⟨⟨some 75, (.iadrS 1 (.t 72) (.t 74)), none⟩, {}⟩, ⟨⟨some 76, (.load false 1
  (.t 75)), none⟩, {}⟩, ⟨⟨some 77, (.un .neg (.t 76)), none⟩, {}⟩, ⟨⟨some 78, (.iadrS 1 (.t 70) (.t 71)), none⟩, {}⟩, ⟨⟨none, (.store 1 (.t 78) (.t 77)), none⟩, {}⟩] none) (.seq (.rg [⟨⟨some 80, (.bin .eql (.t 22) (.c (I 3))), none⟩, {}⟩, ⟨⟨some 79, (.mov (.t 80)), none⟩, {}⟩] none) rule_Eval_C19))
def rule_Eval_C16 : TC := (.cond (.t 37) (.seq (.rg [⟨⟨some 39, (.fadr 1 (.t 7)), none⟩, {}⟩, ⟨⟨some 40, (.load false 1 (.t 39)), none⟩, {}⟩, ⟨⟨some 41, (.mov (.t 1)), none⟩, {}⟩, ⟨⟨some 42, (.len (.t 41)), none⟩, {}⟩, ⟨⟨some 43, (.bin .lss (.t 40) (.t 42)), none⟩, {}⟩, ⟨⟨some 44, (.mov (.t 43)), none⟩, {}⟩, ⟨⟨some 45, (.mov
  (.t 1)), some (44, true)⟩, {}⟩, ⟨⟨some 46, (.fadr 1 (.t 7)), some (44, true)⟩, {}⟩, ⟨⟨some 47, (.load false 1 (.t 46)), some (44, true)⟩, {}⟩, ⟨⟨some 48, (.iadrS 1 (.t 45) (.t 47)), some (44, true)⟩, {}⟩, ⟨⟨some 49, (.load false 1 (.t 48)), some (44, true)⟩, {}⟩, ⟨⟨some 50, (.bin .geq (.t 49) (.c
  (I (-1)))), some (44, true)⟩, {}⟩, ⟨⟨some 51, (.pick (.t 44) (.t 50) (.c (B false))), none⟩, {}⟩, ⟨⟨some 52, (.mov (.t 51)), none⟩, {}⟩, ⟨⟨some 53, (.mov (.t 1)), some (52, true)⟩, {}⟩, ⟨⟨some 54, (.fadr 1 (.t 7)), some (52, true)⟩, {}⟩, ⟨⟨some 55, (.load false 1 (.t 54)), some (52, true)⟩, {}⟩,
  ⟨⟨some 56, (.iadrS 1 (.t 53) (.t 55)), some (52, true)⟩, {}⟩, ⟨⟨some 57, (.load false 1 (.t 56)), some (52, true)⟩, {}⟩, ⟨⟨some 58, (.bin .leq (.t 57) (.c (I 1))), some (52, true)⟩, {}⟩, ⟨⟨some 59, (.pick (.t 52) (.t 58) (.c (B false))), none⟩, {}⟩] none) rule_Eval_C17) (.seq (.rg [⟨⟨some 69, (.bin
  .eql (.t 22) (.c (I 2))), none⟩, {}⟩, ⟨⟨some 68, (.mov (.t 69)), none⟩, {}⟩] none) rule_Eval_C18))
def rule_Eval_C14 : TC := (.block 2 (.seq (.rg [⟨⟨some 38, (.bin .eql (.t 22) (.c (I 1))), none⟩, {}⟩, ⟨⟨some 37, (.mov (.t 38)), none⟩, {}⟩] none) rule_Eval_C16))
def rule_Eval_C10 : TC := (.seq (.rg [⟨⟨some 21, (.fadr 0 (.t 7)), none⟩, {}⟩, ⟨⟨some 22, (.load false 1 (.t 21)), none⟩, {}⟩] none) rule_Eval_C14)
def rule_Eval_C11 : TC := (.rg [⟨⟨some 95, (.bin .add (.t 16) (.c (I 1))), none⟩, {}⟩, ⟨⟨some 16, (.mov (.t 95)), none⟩, {}⟩] none)
def rule_Eval_C7 : TC := (.seq (.block 1 (.seq (.rg [⟨⟨some 18, (.mov (.t 16)), none⟩, {}⟩, ⟨⟨some 19, (.iadrS 4 (.t 14) (.t 16)), none⟩, {}⟩, ⟨⟨some 20, (.load true 4 (.t 19)), none⟩, {}⟩, ⟨⟨some 7, (.alloc [(I 0), (I 0), (I 0), (I 0)]), none⟩, {}⟩, ⟨⟨some 6, (.mov (.t 18)), none⟩, {}⟩, ⟨⟨none, (.store 4 (.t 7) (.t 20)),
  none⟩, {}⟩] none) rule_Eval_C10)) rule_Eval_C11)
def rule_Eval_C4 : TC := (.seq (.cond (.t 17) .skip (.exit 0)) rule_Eval_C7)
def rule_Eval_C1 : TC := (.seq (.rg [⟨⟨some 17, (.bin .lss (.t 16) (.t 15)), none⟩, {}⟩] none) rule_Eval_C4)
def rule_Eval_C5 : TC := .ret
def rule_Eval_C2 : TC := (.seq (.rg [⟨⟨some 96, (.mov (.t 5)), none⟩, {}⟩, ⟨⟨some 97, (.mov (.t 5)), none⟩, {}⟩, ⟨⟨some 98, (.len (.t 97)), none⟩, {}⟩, ⟨⟨some 99, (.bin .sub (.t 98) (.c (I 1))), none⟩, {}⟩, ⟨⟨some 100, (.iadrS 1 (.t 96) (.t 99)), none⟩, {}⟩, ⟨⟨some 101, (.load false 1 (.t 100)), none⟩, {}⟩, ⟨⟨some 4, (.mov
  (.t 101)), none⟩, {}⟩] none) rule_Eval_C5)
def rule_Eval_C12 : TC := .ret
def rule_Eval_C8 : TC := (.cond (.t 10) (.seq (.rg [⟨⟨some 4, (.mov (.c (I 0))), none⟩, {}⟩] none) rule_Eval_C12) .skip)
def rule_Eval_C15 : TC := (.block 0 (.loop rule_Eval_N1 rule_Eval_C1))
def rule_Eval_C13 : TC := (.seq (.seq (.rg [⟨⟨some 14, (.mov (.t 0)), none⟩, {}⟩, ⟨⟨some 15, (.len (.t 14)), none⟩, {}⟩, ⟨⟨some 16, (.mov (.c (I 0))), none⟩, {}⟩] none) rule_Eval_C15) rule_Eval_C2)
def rule_Eval_C9 : TC := (.seq (.rg [⟨⟨some 11, (.mov (.t 0)), none⟩, {}⟩, ⟨⟨some 12, (.len (.t 11)), none⟩, {}⟩, ⟨⟨some 13, (.mksl 1 8 [(I 0)] (.t 12) (.t 12)), none⟩, ⟨(.int .i64), none, []⟩⟩, ⟨⟨some 5, (.mov (.t 13)), none⟩, {}⟩] none) rule_Eval_C13)
def rule_Eval_C6 : TC := (.seq (.seq (.rg [⟨⟨some 8, (.mov (.t 0)), none⟩, {}⟩, ⟨⟨some 9, (.call (.c (.fn 31 [])) [(.t 8)]), none⟩, {}⟩, ⟨⟨some 10, (.un .not (.t 9)), none⟩, {}⟩] none) rule_Eval_C8) rule_Eval_C9)
def rule_Eval_C3 : TC := (.seq (.rg [⟨⟨some 4, (.mov (.c (I 0))), none⟩, {}⟩] none) rule_Eval_C6)
def rule_Eval_E (N : Nat) : List (Nat × Ent) := [(31, pureE [(.list G_RuleNode)] [.bool] (fun x => rule_right N x))]
def rule_Eval_L1 (N : Nat) (n : Nat) (x3 : List Int) (x4 : List T_RuleNode) (x5 : Int) (x6 : Int) (x7 : List Int) : Option Int := loopN (normI 0 rule_Eval_N1) (run (rule_Eval_E N) N 0 rule_Eval_C1) n ⟨[(1, .lst false (.int .i64) x3), (5, .whole 0), (14, .lst false G_RuleNode x4), (15, .int .i64 x5), (16, .int .i64 x6)], [some (.arr (.int .i64) x7)]⟩ (blkK 0 (seqK (run (rule_Eval_E N) N 0 rule_Eval_C2) (fin [(.t 4)] [(.int .i64)])))
def rule_Eval (N : Nat) (a0 : List T_RuleNode) (a1 : List Int) : Option Int :=
  Option.bind (rule_right N a0) fun r1 =>
  bif (!r1) then
    some 0
  else
    bif mkB 8 (a0.length : Int) (a0.length : Int) then
    rule_Eval_L1 N N a1 a0 (a0.length : Int) 0 (List.replicate (a0.length : Int).toNat 0)
    else none
theorem rule_Eval_fn : FnOK Tryd.prog 17 102 (fun _ : Nat => false) rule_Eval_C3.er [(.t 4)] := FnOK.mk' Tryd.func17 (by kernel_rfl) (by kernel_rfl) (by kernel_rfl) (by kernel_rfl) (by kernel_rfl)
theorem rule_Eval_envok (N : Nat) : EnvOK Tryd.prog (rule_Eval_E N) := .cons (pureE_ok (rule_right_pure N)) (.nil)
theorem rule_Eval_pure (N : Nat) : PureOK Tryd.prog 17 [(.list G_RuleNode), (.list (.int .i64))] [(.int .i64)] (fun x => rule_Eval N x.1 x.2) := pureOK (N := N) mixed rule_Eval_fn (rule_Eval_envok N) (TC.noh_ok (by kernel_rfl)) rfl (fun x => by kernel_rfl)
/-! rule_Print -/
def rule_Print_N1 : List NS := [.wk 4 (.list .str), .wk 13 (.list G_RuleNode), .keep [4, 13, 14, 15], .cmp]
def rule_Print_C18 : TC := (.cond (.t 59) (.rg [⟨⟨some 61, (.mov (.t 4)), none⟩, {}⟩, ⟨⟨some 62, (.mov (.t 5)), none⟩, {}⟩, ⟨⟨some 63, (.mov (.t 4)), none⟩, {}⟩, ⟨⟨some 64, (.fadr 2 (.t 6)), none⟩, {}⟩, ⟨⟨some 65, (.load false 1 (.t 64)), none⟩, {}⟩, ⟨⟨some 66, (.iadrS 1 (.t 63) (.t 65)), none⟩, {}⟩, ⟨⟨some 67, (.load false 1
  (.t 66)), none⟩, {}⟩, ⟨⟨some 68, (.bin .add (.c (.v (.string ⟨⟨[40]⟩⟩))) (.t 67)), none⟩, {}⟩, ⟨⟨some 69, (.bin .add (.t 68) (.c (.v (.string ⟨⟨[32, 38, 32]⟩⟩)))), none⟩, {}⟩, ⟨⟨some 70, (.mov (.t 4)), none⟩, {}⟩, ⟨⟨some 71, (.fadr 3 (.t 6)), none⟩, {}⟩, ⟨⟨some 72, (.load false 1 (.t 71)), none⟩,
  {}⟩, ⟨⟨some 73, (.iadrS 1 (.t 70) (.t 72)), none⟩, {}⟩, ⟨⟨some 74, (.load false 1 (.t 73)), none⟩, {}⟩, ⟨⟨some 75, (.bin .add (.t 69) (.t 74)), none⟩, {}⟩, ⟨⟨some 76, (.bin .add (.t 75) (.c (.v (.string ⟨⟨[41]⟩⟩)))), none⟩, {}⟩, ⟨⟨some 77, (.iadrS 1 (.t 61) (.t 62)), none⟩, {}⟩, ⟨⟨none, (.store 1
  (.t 77) (.t 76)), none⟩, {}⟩] (some [])) (.rg [⟨⟨some 22, (.mov (.t 4)), none⟩, {}⟩, ⟨⟨some 23, (.mov (.t 5)), none⟩, {}⟩, ⟨⟨some 24, (.mov (.t 4)), none⟩, {}⟩, ⟨⟨some 25, (.fadr 2 (.t 6)), none⟩, {}⟩, ⟨⟨some 26, (.load false 1 (.t 25)), none⟩, {}⟩, ⟨⟨some 27, (.iadrS 1 (.t 24) (.t 26)), none⟩,
  {}⟩, ⟨⟨some 28, (.load false 1 (.t 27)), none⟩, {}⟩, ⟨⟨some 29, (.bin .add (.c (.v (.string ⟨⟨[40]⟩⟩))) (.t 28)), none⟩, {}⟩, ⟨⟨some 30, (.bin .add (.t 29) (.c (.v (.string ⟨⟨[32, 124, 32]⟩⟩)))), none⟩, {}⟩, ⟨⟨some 31, (.mov (.t 4)), none⟩, {}⟩, ⟨⟨some 32, (.fadr 3 (.t 6)), none⟩, {}⟩, ⟨⟨some 33,
  (.load false 1 (.t 32)), none⟩, {}⟩, ⟨⟨some 34, (.iadrS 1 (.t 31) (.t 33)), none⟩, {}⟩, ⟨⟨some 35, (.load false 1 (.t 34)), none⟩, {}⟩, ⟨⟨some 36, (.bin .add (.t 30) (.t 35)), none⟩, {}⟩, ⟨⟨some 37, (.bin .add (.t 36) (.c (.v (.string ⟨⟨[41]⟩⟩)))), none⟩, {}⟩, ⟨⟨some 38, (.iadrS 1 (.t 22) (.t 23)),
  none⟩, {}⟩, ⟨⟨none, (.store 1 (.t 38) (.t 37)), none⟩, {}⟩] (some [])))
def rule_Print_C17 : TC := (.cond (.t 48) (.rg [⟨⟨some 50, (.mov (.t 4)), none⟩, {}⟩, ⟨⟨some 51, (.mov (.t 5)), none⟩, {}⟩, ⟨⟨some 52, (.mov (.t 4)), none⟩, {}⟩, ⟨⟨some 53, (.fadr 2 (.t 6)), none⟩, {}⟩, ⟨⟨some 54, (.load false 1 (.t 53)), none⟩, {}⟩, ⟨⟨some 55, (.iadrS 1 (.t 52) (.t 54)), none⟩, {}⟩, ⟨⟨some 56, (.load false 1
  (.t 55)), none⟩, {}⟩, ⟨⟨some 57, (.bin .add (.c (.v (.string ⟨⟨[33]⟩⟩))) (.t 56)), none⟩, {}⟩, ⟨⟨some 58, (.iadrS 1 (.t 50) (.t 51)), none⟩, {}⟩, ⟨⟨none, (.store 1 (.t 58) (.t 57)), none⟩, {}⟩] none) (.seq (.rg [⟨⟨some 60, (.bin .eql (.t 21) (.c (I 3))), none⟩, {}⟩, ⟨⟨some 59, (.mov (.t 60)),
  none⟩, {}⟩] none) rule_Print_C18))
def rule_Print_C16 : TC := (.cond (.t 39) (.rg [⟨⟨some 41, (.mov (.t 4)), none⟩, {}⟩, ⟨⟨some 42, (.mov (.t 5)), none⟩, {}⟩, ⟨⟨some 43, (.fadr 1 (.t 6)), none⟩, {}⟩, ⟨⟨some 44, (.load false 1 (.t 43)), none⟩, {}⟩, ⟨⟨some 45, (.call (.c (.fn 34 [])) [(.t 44)]), none⟩, {}⟩, ⟨⟨some 46, (.bin .add (.c (.v (.string ⟨⟨[99]⟩⟩))) (.t
  45)), none⟩, {}⟩, ⟨⟨some 47, (.iadrS 1 (.t 41) (.t 42)), none⟩, {}⟩, ⟨⟨none, (.store 1 (.t 47) (.t 46)), none⟩, {}⟩] none) (.seq (.rg [⟨⟨some 49, (.bin .eql (.t 21) (.c (I 2))), none⟩, {}⟩, ⟨⟨some 48, (.mov (.t 49)), none⟩, {}⟩] none) rule_Print_C17))
def rule_Print_C14 : TC := (.block 2 (.seq (.rg [⟨⟨some 40, (.bin .eql (.t 21) (.c (I 1))), none⟩, {}⟩, ⟨⟨some 39, (.mov (.t 40)), none⟩, {}⟩] none) rule_Print_C16))
def rule_Print_C10 : TC := (.seq (.rg [⟨⟨some 20, (.fadr 0 (.t 6)), none⟩, {}⟩, ⟨⟨some 21, (.load false 1 (.t 20)), none⟩, {}⟩] none) rule_Print_C14)
def rule_Print_C11 : TC := (.rg [⟨⟨some 78, (.bin .add (.t 15) (.c (I 1))), none⟩, {}⟩, ⟨⟨some 15, (.mov (.t 78)), none⟩, {}⟩] none)
def rule_Print_C7 : TC := (.seq (.block 1 (.seq (.rg [⟨⟨some 17, (.mov (.t 15)), none⟩, {}⟩, ⟨⟨some 18, (.iadrS 4 (.t 13) (.t 15)), none⟩, {}⟩, ⟨⟨some 19, (.load true 4 (.t 18)), none⟩, {}⟩, ⟨⟨some 6, (.alloc [(I 0), (I 0), (I 0), (I 0)]), none⟩, {}⟩, ⟨⟨some 5, (.mov (.t 17)), none⟩, {}⟩, ⟨⟨none, (.store 4 (.t 6) (.t 19)),
  none⟩, {}⟩] none) rule_Print_C10)) rule_Print_C11)
def rule_Print_C4 : TC := (.seq (.cond (.t 16) .skip (.exit 0)) rule_Print_C7)
def rule_Print_C1 : TC := (.seq (.rg [⟨⟨some 16, (.bin .lss (.t 15) (.t 14)), none⟩, {}⟩] none) rule_Print_C4)
def rule_Print_C5 : TC := .ret
def rule_Print_C2 : TC := (.seq (.rg [⟨⟨some 79, (.mov (.t 4)), none⟩, {}⟩, ⟨⟨some 80, (.mov (.t 4)), none⟩, {}⟩, ⟨⟨some 81, (.len (.t 80)), none⟩, {}⟩, ⟨⟨some 82, (.bin .sub (.t 81) (.c (I 1))), none⟩, {}⟩, ⟨⟨some 83, (.iadrS 1 (.t 79) (.t 82)), none⟩, {}⟩, ⟨⟨some 84, (.load false 1 (.t 83)), none⟩, {}⟩, ⟨⟨some 2, (.mov (.t
  84)), none⟩, {}⟩, ⟨⟨some 3, (.mov (.c (I 0))), none⟩, {}⟩] none) rule_Print_C5)
def rule_Print_C12 : TC := .ret
def rule_Print_C8 : TC := (.cond (.t 9) (.seq (.rg [⟨⟨some 2, (.mov (.c (.v (.string ⟨⟨[]⟩⟩)))), none⟩, {}⟩, ⟨⟨some 3, (.mov (.c (I 18))), none⟩, {}⟩] none) rule_Print_C12) .skip)
def rule_Print_C15 : TC := (.block 0 (.loop rule_Print_N1 rule_Print_C1))
def rule_Print_C13 : TC := (.seq (.seq (.rg [⟨⟨some 13, (.mov (.t 0)), none⟩, {}⟩, ⟨⟨some 14, (.len (.t 13)), none⟩, {}⟩, ⟨⟨some 15, (.mov (.c (I 0))), none⟩, {}⟩] none) rule_Print_C15) rule_Print_C2)
def rule_Print_C9 : TC := (.seq (.rg [⟨⟨some 10, (.mov (.t 0)), none⟩, {}⟩, ⟨⟨some 11, (.len (.t 10)), none⟩, {}⟩, ⟨⟨some 12, (.mksl 1 16 [(.v (.string ⟨⟨[]⟩⟩))] (.t 11) (.t 11)), none⟩, ⟨.str, none, []⟩⟩, ⟨⟨some 4, (.mov (.t 12)), none⟩, {}⟩] none) rule_Print_C13)
def rule_Print_C6 : TC := (.seq (.seq (.rg [⟨⟨some 7, (.mov (.t 0)), none⟩, {}⟩, ⟨⟨some 8, (.call (.c (.fn 31 [])) [(.t 7)]), none⟩, {}⟩, ⟨⟨some 9, (.un .not (.t 8)), none⟩, {}⟩] none) rule_Print_C8) rule_Print_C9)
def rule_Print_C3 : TC := (.seq (.rg [⟨⟨some 2, (.mov (.c (.v (.string ⟨⟨[]⟩⟩)))), none⟩, {}⟩, ⟨⟨some 3, (.mov (.c (I 0))), none⟩, {}⟩] none) rule_Print_C6)
def rule_Print_E (N : Nat) : List (Nat × Ent) := [(31, pureE [(.list G_RuleNode)] [.bool] (fun x => rule_right N x)), (34, pureE [(.int .i64)] [.str] (fun x => strconv_Itoa N x))]
def rule_Print_L1 (N : Nat) (n : Nat) (x3 : List T_RuleNode) (x4 : Int) (x5 : Int) (x6 : List (List UInt8)) : Option ((List UInt8) × Int) := loopN (normI 0 rule_Print_N1) (run (rule_Print_E N) N 0 rule_Print_C1) n ⟨[(4, .whole 0), (13, .lst false G_RuleNode x3), (14, .int .i64 x4), (15, .int .i64 x5)], [some (.arr .str x6)]⟩ (blkK 0 (seqK (run (rule_Print_E N) N 0 rule_Print_C2) (fin [(.t 2), (.t 3)] [.str, (.int .i64)])))
theorem rule_Print_L1_succ (N : Nat) (n1 : Nat) (x3 : List T_RuleNode) (x4 : Int) (x5 : Int) (x6 : List (List UInt8)) : rule_Print_L1 N (n1 + 1) x3 x4 x5 x6 =
  bif (decide (x5 < x4)) then
    bif inB x5 x3.length then
    let v7 := x3.getD x5.toNat D_RuleNode
    bif (v7.1 == 1) then
      Option.bind (strconv_Itoa N v7.2.1) fun r8 =>
      bif decide (([99] : List UInt8).length + r8.length ≤ 9223372036854775807) then
      bif inB x5 x6.length then
      rule_Print_L1 N n1 x3 x4 (W (x5 + 1)) (x6.set x5.toNat (([99] : List UInt8) ++ r8))
      else none
      else none
    else
      bif (v7.1 == 2) then
        bif inB v7.2.2.1 x6.length then
        let v15 := x6.getD v7.2.2.1.toNat []
        bif decide (([33] : List UInt8).length + v15.length ≤ 9223372036854775807) then
        bif inB x5 x6.length then
        rule_Print_L1 N n1 x3 x4 (W (x5 + 1)) (x6.set x5.toNat (([33] : List UInt8) ++ v15))
        else none
        else none
        else none
      else
        bif (v7.1 == 3) then
          bif inB v7.2.2.1 x6.length then
          let v22 := x6.getD v7.2.2.1.toNat []
          bif decide (([40] : List UInt8).length + v22.length ≤ 9223372036854775807) then
          let v23 := ([40] : List UInt8) ++ v22
          bif decide (v23.length + ([32, 38, 32] : List UInt8).length ≤ 9223372036854775807) then
          let v24 := v23 ++ ([32, 38, 32] : List UInt8)
          bif inB v7.2.2.2 x6.length then
          let v25 := x6.getD v7.2.2.2.toNat []
          bif decide (v24.length + v25.length ≤ 9223372036854775807) then
          bif decide ((v24 ++ v25).length + ([41] : List UInt8).length ≤ 9223372036854775807) then
          bif inB x5 x6.length then
          rule_Print_L1 N n1 x3 x4 (W (x5 + 1)) (x6.set x5.toNat ((v24 ++ v25) ++ ([41] : List UInt8)))
          else none
          else none
          else none
          else none
          else none
          else none
          else none
        else
          bif inB v7.2.2.1 x6.length then
          let v33 := x6.getD v7.2.2.1.toNat []
          bif decide (([40] : List UInt8).length + v33.length ≤ 9223372036854775807) then
          let v34 := ([40] : List UInt8) ++ v33
          bif decide (v34.length + ([32, 124, 32] : List UInt8).length ≤ 9223372036854775807) then
          let v35 := v34 ++ ([32, 124, 32] : List UInt8)
          bif inB v7.2.2.2 x6.length then
          let v36 := x6.getD v7.2.2.2.toNat []
          bif decide (v35.length + v36.length ≤ 9223372036854775807) then
          bif decide ((v35 ++ v36).length + ([41] : List UInt8).length ≤ 9223372036854775807) then
          bif inB x5 x6.length then
          rule_Print_L1 N n1 x3 x4 (W (x5 + 1)) (x6.set x5.toNat ((v35 ++ v36) ++ ([41] : List UInt8)))
          else none
          else none
          else none
          else none
          else none
          else none
          else none
    else none
  else
    let v44 := W ((x6.length : Int) - 1)
    bif inB v44 x6.length then
    some (x6.getD v44.toNat [], 0)
    else none := by kernel_rfl
def rule_Print (N : Nat) (a0 : List T_RuleNode) : Option ((List UInt8) × Int) :=
  Option.bind (rule_right N a0) fun r1 =>
  bif (!r1) then
    some ([], 18)
  else
    bif mkB 16 (a0.length : Int) (a0.length : Int) then
    rule_Print_L1 N N a0 (a0.length : Int) 0 (List.replicate (a0.length : Int).toNat [])
    else none
theorem rule_Print_fn : FnOK Tryd.prog 19 85 (fun _ : Nat => false) rule_Print_C3.er [(.t 2), (.t 3)] := FnOK.mk' Tryd.func19 (by kernel_rfl) (by kernel_rfl) (by kernel_rfl) (by kernel_rfl) (by kernel_rfl)
theorem rule_Print_envok (N : Nat) : EnvOK Tryd.prog (rule_Print_E N) := .cons (pureE_ok (rule_right_pure N)) (.cons (pureE_ok (strconv_Itoa_pure N)) (.nil))
theorem rule_Print_pure (N : Nat) : PureOK Tryd.prog 19 [(.list G_RuleNode)] [.str, (.int .i64)] (fun x => rule_Print N x) := pureOK (N := N) mixed rule_Print_fn (rule_Print_envok N) (TC.noh_ok (by kernel_rfl)) rfl (fun x => by kernel_rfl)
/-! rule_reader_need -/
def rule_reader_need_NE : List NS := [.ownc 0 1 G_RuleNode, .keep [], .out [0]]
def rule_reader_need_C2 : TC := (.cond (.t 5) .bad .skip)
def rule_reader_need_C1 : TC := (.seq (.rg [⟨⟨some 4, (.mov (.t 1)), none⟩, {}⟩, ⟨⟨some 5, (.un .not (.t 4)), none⟩, {}⟩] none) rule_reader_need_C2)
def rule_reader_need_E (N : Nat) : List (Nat × Ent) := []
def rule_reader_need (N : Nat) (a0 : T_reader) (a1 : Bool) : Option (Unit × T_reader) :=
  bif (!a1) then
    none
  else
    some ((), a0)
theorem rule_reader_need_fn : FnOK Tryd.prog 38 8 (fun _ : Nat => false) rule_reader_need_C1.er [] := FnOK.mk' Tryd.func38 (by kernel_rfl) (by kernel_rfl) (by kernel_rfl) (by kernel_rfl) (by kernel_rfl)
theorem rule_reader_need_envok (N : Nat) : EnvOK Tryd.prog (rule_reader_need_E N) := .nil
theorem rule_reader_need_sf (N : Nat) : SFOK Tryd.prog 38 [none, none] [.b (.p (.v .str) (.a G_RuleNode)), .v .bool] [] (fun x => rule_reader_need N x.1 x.2) := sfOK (N := N) (p := 2) (q := 3) (ns := rule_reader_need_NE) mixed rule_reader_need_fn (rule_reader_need_envok N) (TC.noh_ok (by kernel_rfl)) rfl rfl rfl (fun x => by kernel_rfl)
def rule_reader_needP (N : Nat) (a0 : T_reader) (a1 : Bool) : Option (Option (Unit × T_reader)) := needP a1 (rule_reader_need N a0 a1)
theorem rule_reader_needP_sf (N : Nat) : SFOK Tryd.prog 38 [none, none] [.b (.p (.v .str) (.a G_RuleNode)), .v .bool] [] (fun x => joinP ((fun x => rule_reader_needP N x.1 x.2) x)) := fun x y z h => rule_reader_need_sf N x y z (needP_j h)
theorem rule_reader_needP_pan (N : Nat) : PanOK Tryd.prog chF 38 [none, none] [.b (.p (.v .str) (.a G_RuleNode)), .v .bool] (fun x => rule_reader_needP N x.1 x.2) := fun x h => by
  have hb := needP_n h
  obtain ⟨x1, x2⟩ := x
  cases (show x2 = false from hb)
  exact need_pan
/-! rule_reader_take -/
def rule_reader_take_NE : List NS := [.ownc 0 1 G_RuleNode, .keep [4], .out [0]]
def rule_reader_take_C6 : TC := .ret
def rule_reader_take_C5 : TC := (.pre [.ownc 0 1 G_RuleNode, .keep [4], .out [0]] rule_reader_take_C6)
def rule_reader_take_C4 : TC := (.seq (.rg [⟨⟨some 20, (.mov (.t 6)), none⟩, {}⟩, ⟨⟨some 4, (.mov (.t 20)), none⟩, {}⟩] none) rule_reader_take_C5)
def rule_reader_take_C3 : TC := (.seq (.rg [⟨⟨some 16, (.mov (.t 0)), none⟩, {}⟩, ⟨⟨some 17, (.mov (.t 5)), none⟩, {}⟩, ⟨⟨some 18, (.nilck (.t 16)), none⟩, {}⟩, ⟨⟨some 19, (.fadr 0 (.t 18)), none⟩, {}⟩, ⟨⟨none, (.store 1 (.t 19) (.t 17)), none⟩, {}⟩] none) rule_reader_take_C4)
def rule_reader_take_C2 : TC := (.seq (.rg [⟨⟨some 8, (.mov (.t 0)), none⟩, {}⟩, ⟨⟨some 9, (.nilck (.t 8)), none⟩, {}⟩, ⟨⟨some 10, (.fadr 0 (.t 9)), none⟩, {}⟩, ⟨⟨some 11, (.load false 1 (.t 10)), none⟩, {}⟩, ⟨⟨some 12, (.mov (.t 1)), none⟩, {}⟩, ⟨⟨some 13, (.call (.c (.fn 47 [])) [(.t 11), (.t 12)]), none⟩, {}⟩, ⟨⟨some 7, (.mov
  (.t 13)), none⟩, {}⟩, ⟨⟨some 14, (.extr 0 (.t 7)), none⟩, {}⟩, ⟨⟨some 15, (.extr 1 (.t 7)), none⟩, {}⟩, ⟨⟨some 5, (.mov (.t 14)), none⟩, {}⟩, ⟨⟨some 6, (.mov (.t 15)), none⟩, {}⟩] none) rule_reader_take_C3)
def rule_reader_take_C1 : TC := (.seq (.rg [⟨⟨some 4, (.mov (.c (B false))), none⟩, {}⟩] none) rule_reader_take_C2)
def rule_reader_take_E (N : Nat) : List (Nat × Ent) := [(47, pureE [.str, .str] [.str, .bool] (fun x => strings_CutPrefix N x.1 x.2))]
def rule_reader_take (N : Nat) (a0 : T_reader) (a1 : List UInt8) : Option (Bool × T_reader) :=
  Option.bind (strings_CutPrefix N a0.1 a1) fun r1 =>
  some (r1.2, (r1.1, a0.2))
theorem rule_reader_take_fn : FnOK Tryd.prog 43 21 (fun _ : Nat => false) rule_reader_take_C1.er [(.t 4)] := FnOK.mk' Tryd.func43 (by kernel_rfl) (by kernel_rfl) (by kernel_rfl) (by kernel_rfl) (by kernel_rfl)
theorem rule_reader_take_envok (N : Nat) : EnvOK Tryd.prog (rule_reader_take_E N) := .cons (pureE_ok (strings_CutPrefix_pure N)) (.nil)
theorem rule_reader_take_sf (N : Nat) : SFOK Tryd.prog 43 [none, none] [.b (.p (.v .str) (.a G_RuleNode)), .v .str] [.v .bool] (fun x => rule_reader_take N x.1 x.2) := sfOK (N := N) (p := 2) (q := 3) (ns := rule_reader_take_NE) mixed rule_reader_take_fn (rule_reader_take_envok N) (TC.noh_ok (by kernel_rfl)) rfl rfl rfl (fun x => by kernel_rfl)
/-! rule_reader_add -/
def rule_reader_add_NE : List NS := [.ownc 0 1 G_RuleNode, .keep [4], .out [0]]
def rule_reader_add_C5 : TC := .ret
def rule_reader_add_C4 : TC := (.pre [.ownc 0 1 G_RuleNode, .keep [4], .out [0]] rule_reader_add_C5)
def rule_reader_add_C3 : TC := (.seq (.rg [⟨⟨some 15, (.mov (.t 0)), none⟩, {}⟩, ⟨⟨some 16, (.nilck (.t 15)), none⟩, {}⟩, ⟨⟨some 17, (.fadr 1 (.t 16)), none⟩, {}⟩, ⟨⟨some 18, (.load false 1 (.t 17)), none⟩, {}⟩, ⟨⟨some 19, (.len (.t 18)), none⟩, {}⟩, ⟨⟨some 20, (.bin .sub (.t 19) (.c (I 1))), none⟩, {}⟩, ⟨⟨some 4, (.mov (.t 20)),
  none⟩, {}⟩] none) rule_reader_add_C4)
def rule_reader_add_C2 : TC := (.seq (.rg [⟨⟨some 5, (.mov (.t 0)), none⟩, {}⟩, ⟨⟨some 6, (.mov (.t 0)), none⟩, {}⟩, ⟨⟨some 7, (.nilck (.t 6)), none⟩, {}⟩, ⟨⟨some 8, (.fadr 1 (.t 7)), none⟩, {}⟩, ⟨⟨some 9, (.load false 1 (.t 8)), none⟩, {}⟩, ⟨⟨some 10, (.load true 4 (.t 3)), none⟩, {}⟩, ⟨⟨some 11, (.bslice false 4 [(I 0), (I 0),
  (I 0), (I 0)] 1 [(0, (.t 10))]), none⟩, ⟨G_RuleNode, none, []⟩⟩, ⟨⟨some 12, (.app 4 32 (.t 9) (.t 11)), none⟩, {}⟩, ⟨⟨some 13, (.nilck (.t 5)), none⟩, {}⟩, ⟨⟨some 14, (.fadr 1 (.t 13)), none⟩, {}⟩, ⟨⟨none, (.store 1 (.t 14) (.t 12)), none⟩, {}⟩] (some [])) rule_reader_add_C3)
def rule_reader_add_C1 : TC := (.seq (.rg [⟨⟨some 3, (.box (.t 1)), none⟩, {}⟩, ⟨⟨some 4, (.mov (.c (I 0))), none⟩, {}⟩] none) rule_reader_add_C2)
def rule_reader_add_E (N : Nat) : List (Nat × Ent) := []
def rule_reader_add (N : Nat) (a0 : T_reader) (a1 : T_RuleNode) : Option (Int × T_reader) :=
  bif fitsB (a0.2.length + 1) 32 then
  some ((W (((a0.2 ++ [a1]).length : Int) - 1)), (a0.1, (a0.2 ++ [a1])))
  else none
theorem rule_reader_add_fn : FnOK Tryd.prog 44 21 (fun _ : Nat => false) rule_reader_add_C1.er [(.t 4)] := FnOK.mk' Tryd.func44 (by kernel_rfl) (by kernel_rfl) (by kernel_rfl) (by kernel_rfl) (by kernel_rfl)
theorem rule_reader_add_envok (N : Nat) : EnvOK Tryd.prog (rule_reader_add_E N) := .nil
theorem rule_reader_add_sf (N : Nat) : SFOK Tryd.prog 44 [none, none] [.b (.p (.v .str) (.a G_RuleNode)), .v G_RuleNode] [.v (.int .i64)] (fun x => rule_reader_add N x.1 x.2) := sfOK (N := N) (p := 2) (q := 3) (ns := rule_reader_add_NE) mixed rule_reader_add_fn (rule_reader_add_envok N) (TC.noh_ok (by kernel_rfl)) rfl rfl rfl (fun x => by kernel_rfl)
/-! rule_reader_read -/
def rule_reader_read_NE : List NS := [.ownc 0 1 G_RuleNode, .keep [4], .out [0]]
def rule_reader_read_N1 : List NS := [.keep [0, 9], .out [0]]
def rule_reader_read_C9 : TP := (.pcall [⟨⟨some 104, (.mov (.t 0)), none⟩, {}⟩, ⟨⟨some 105, (.mov (.t 11)), none⟩, {}⟩, ⟨⟨some 106, (.isn false (.t 105)), none⟩, {}⟩, ⟨⟨some 107, (.mov (.t 106)), none⟩, {}⟩, ⟨⟨some 108, (.mov (.t 9)), some (107, true)⟩, {}⟩, ⟨⟨some 109, (.bin .eql (.t 108) (.c (I 1))), some (107, true)⟩, {}⟩,
  ⟨⟨some 110, (.mov (.t 109)), some (107, true)⟩, {}⟩, ⟨⟨some 111, (.mov (.t 0)), some (110, false)⟩, {}⟩, ⟨⟨some 112, (.nilck (.t 111)), some (110, false)⟩, {}⟩, ⟨⟨some 113, (.fadr 0 (.t 112)), some (110, false)⟩, {}⟩, ⟨⟨some 114, (.load false 1 (.t 113)), some (110, false)⟩, {}⟩, ⟨⟨some 115, (.sidx
  (.t 114) (.c (I 0))), some (110, false)⟩, {}⟩, ⟨⟨some 116, (.bin .neq (.t 115) (.c (.v (.int .u8 48)))), some (110, false)⟩, {}⟩, ⟨⟨some 117, (.pick (.t 110) (.c (B true)) (.t 116)), some (107, true)⟩, {}⟩, ⟨⟨some 118, (.pick (.t 107) (.t 117) (.c (B false))), none⟩, {}⟩] ⟨⟨some 119, (.call (.c
  (.fn 38 [])) [(.t 104), (.t 118)]), none⟩, {}⟩ [])
def rule_reader_read_C17 : TC := (.rg [⟨⟨some 129, (.mov (.t 0)), none⟩, {}⟩, ⟨⟨some 130, (.mov (.t 10)), none⟩, {}⟩, ⟨⟨some 131, (.build [(I 0), (I 0), (I 0), (I 0)] [(0, (1, (.c (I 1)))), (1, (1, (.t 130)))]), none⟩, {}⟩, ⟨⟨some 132, (.call (.c (.fn 44 [])) [(.t 129), (.t 131)]), none⟩, {}⟩, ⟨⟨some 4, (.mov (.t 132)), none⟩, {}⟩]
  none)
def rule_reader_read_C25 : TC := .ret
def rule_reader_read_C18 : TC := (.pre [.ownc 0 1 G_RuleNode, .keep [4], .out [0]] rule_reader_read_C25)
def rule_reader_read_C13 : TC := (.seq (.pre [.ownc 0 1 G_RuleNode] rule_reader_read_C17) rule_reader_read_C18)
def rule_reader_read_C10 : TC := (.seq (.rg [⟨⟨some 120, (.mov (.t 0)), none⟩, {}⟩, ⟨⟨some 121, (.mov (.t 0)), none⟩, {}⟩, ⟨⟨some 122, (.nilck (.t 121)), none⟩, {}⟩, ⟨⟨some 123, (.fadr 0 (.t 122)), none⟩, {}⟩, ⟨⟨some 124, (.load false 1 (.t 123)), none⟩, {}⟩, ⟨⟨some 125, (.mov (.t 9)), none⟩, {}⟩, ⟨⟨some 126, (.sslc (.t 124) (some
  (.t 125)) none), none⟩, {}⟩, ⟨⟨some 127, (.nilck (.t 120)), none⟩, {}⟩, ⟨⟨some 128, (.fadr 0 (.t 127)), none⟩, {}⟩, ⟨⟨none, (.store 1 (.t 128) (.t 126)), none⟩, {}⟩] none) rule_reader_read_C13)
def rule_reader_read_C5 : TP := (.seq (.pre [.ownc 0 1 G_RuleNode] rule_reader_read_C9) (.tc rule_reader_read_C10))
def rule_reader_read_C1 : TP := (.seq (.tc (.rg [⟨⟨some 95, (.mov (.t 0)), none⟩, {}⟩, ⟨⟨some 96, (.nilck (.t 95)), none⟩, {}⟩, ⟨⟨some 97, (.fadr 0 (.t 96)), none⟩, {}⟩, ⟨⟨some 98, (.load false 1 (.t 97)), none⟩, {}⟩, ⟨⟨some 99, (.mov (.t 9)), none⟩, {}⟩, ⟨⟨some 100, (.sslc (.t 98) none (some (.t 99))), none⟩, {}⟩, ⟨⟨some 101,
  (.call (.c (.fn 45 [])) [(.t 100)]), none⟩, {}⟩, ⟨⟨some 94, (.mov (.t 101)), none⟩, {}⟩, ⟨⟨some 102, (.extr 0 (.t 94)), none⟩, {}⟩, ⟨⟨some 103, (.extr 1 (.t 94)), none⟩, {}⟩, ⟨⟨some 10, (.mov (.t 102)), none⟩, {}⟩, ⟨⟨some 11, (.mov (.t 103)), none⟩, {}⟩] none)) rule_reader_read_C5)
def rule_reader_read_C6 : TC := (.cond (.t 91) .skip (.exit 1))
def rule_reader_read_C7 : TC := (.block 2 (.rg [⟨⟨some 92, (.mov (.t 9)), none⟩, {}⟩, ⟨⟨some 93, (.bin .add (.t 92) (.c (I 1))), none⟩, {}⟩, ⟨⟨some 9, (.mov (.t 93)), none⟩, {}⟩] none))
def rule_reader_read_C2 : TC := (.seq (.seq (.rg [⟨⟨some 67, (.mov (.t 9)), none⟩, {}⟩, ⟨⟨some 68, (.mov (.t 0)), none⟩, {}⟩, ⟨⟨some 69, (.nilck (.t 68)), none⟩, {}⟩, ⟨⟨some 70, (.fadr 0 (.t 69)), none⟩, {}⟩, ⟨⟨some 71, (.load false 1 (.t 70)), none⟩, {}⟩, ⟨⟨some 72, (.lens (.t 71)), none⟩, {}⟩, ⟨⟨some 73, (.bin .lss (.t 67) (.t
  72)), none⟩, {}⟩, ⟨⟨some 74, (.mov (.t 73)), none⟩, {}⟩, ⟨⟨some 75, (.mov (.t 0)), some (74, true)⟩, {}⟩, ⟨⟨some 76, (.nilck (.t 75)), some (74, true)⟩, {}⟩, ⟨⟨some 77, (.fadr 0 (.t 76)), some (74, true)⟩, {}⟩, ⟨⟨some 78, (.load false 1 (.t 77)), some (74, true)⟩, {}⟩, ⟨⟨some 79, (.mov (.t 9)),
  some (74, true)⟩, {}⟩, ⟨⟨some 80, (.sidx (.t 78) (.t 79)), some (74, true)⟩, {}⟩, ⟨⟨some 81, (.bin .geq (.t 80) (.c (.v (.int .u8 48)))), some (74, true)⟩, {}⟩, ⟨⟨some 82, (.pick (.t 74) (.t 81) (.c (B false))), none⟩, {}⟩, ⟨⟨some 83, (.mov (.t 82)), none⟩, {}⟩, ⟨⟨some 84, (.mov (.t 0)), some (83,
  true)⟩, {}⟩, ⟨⟨some 85, (.nilck (.t 84)), some (83, true)⟩, {}⟩, ⟨⟨some 86, (.fadr 0 (.t 85)), some (83, true)⟩, {}⟩, ⟨⟨some 87, (.load false 1 (.t 86)), some (83, true)⟩, {}⟩, ⟨⟨some 88, (.mov (.t 9)), some (83, true)⟩, {}⟩, ⟨⟨some 89, (.sidx (.t 87) (.t 88)), some (83, true)⟩, {}⟩, ⟨⟨some 90,
  (.bin .leq (.t 89) (.c (.v (.int .u8 57)))), some (83, true)⟩, {}⟩, ⟨⟨some 91, (.pick (.t 83) (.t 90) (.c (B false))), none⟩, {}⟩] none) rule_reader_read_C6) rule_reader_read_C7)
def rule_reader_read_C3 : TP := (.join [.keep [0, 9], .out [0]] rule_reader_read_C1)
def rule_reader_read_C11 : TP := (.pcall [⟨⟨some 12, (.mov (.t 0)), none⟩, {}⟩, ⟨⟨some 13, (.mov (.t 1)), none⟩, {}⟩, ⟨⟨some 14, (.bin .gtr (.t 13) (.c (I 0))), none⟩, {}⟩, ⟨⟨some 15, (.mov (.t 14)), none⟩, {}⟩, ⟨⟨some 16, (.mov (.t 0)), some (15, true)⟩, {}⟩, ⟨⟨some 17, (.nilck (.t 16)), some (15, true)⟩, {}⟩, ⟨⟨some 18, (.fadr 1
  (.t 17)), some (15, true)⟩, {}⟩, ⟨⟨some 19, (.load false 1 (.t 18)), some (15, true)⟩, {}⟩, ⟨⟨some 20, (.len (.t 19)), some (15, true)⟩, {}⟩, ⟨⟨some 21, (.bin .leq (.t 20) (.c (I 64))), some (15, true)⟩, {}⟩, ⟨⟨some 22, (.pick (.t 15) (.t 21) (.c (B false))), none⟩, {}⟩] ⟨⟨some 23, (.call (.c (.fn
  38 [])) [(.t 12), (.t 22)]), none⟩, {}⟩ [])
def rule_reader_read_C14 : TC := (.rg [⟨⟨some 25, (.mov (.t 0)), none⟩, {}⟩, ⟨⟨some 26, (.call (.c (.fn 43 [])) [(.t 25), (.c (.v (.string ⟨⟨[33]⟩⟩)))]), none⟩, {}⟩, ⟨⟨some 24, (.mov (.t 26)), none⟩, {}⟩] none)
def rule_reader_read_C19 : TP := (.pcall [⟨⟨some 27, (.mov (.t 0)), none⟩, {}⟩, ⟨⟨some 28, (.mov (.t 1)), none⟩, {}⟩, ⟨⟨some 29, (.bin .sub (.t 28) (.c (I 1))), none⟩, {}⟩] ⟨⟨some 30, (.call (.c (.fn 37 [])) [(.t 27), (.t 29)]), none⟩, {}⟩ [⟨⟨some 5, (.mov (.t 30)), none⟩, {}⟩])
def rule_reader_read_C26 : TC := (.rg [⟨⟨some 31, (.mov (.t 0)), none⟩, {}⟩, ⟨⟨some 32, (.mov (.t 5)), none⟩, {}⟩, ⟨⟨some 33, (.build [(I 0), (I 0), (I 0), (I 0)] [(0, (1, (.c (I 2)))), (2, (1, (.t 32)))]), none⟩, {}⟩, ⟨⟨some 34, (.call (.c (.fn 44 [])) [(.t 31), (.t 33)]), none⟩, {}⟩, ⟨⟨some 4, (.mov (.t 34)), none⟩, {}⟩] none)
def rule_reader_read_C31 : TC := .ret
def rule_reader_read_C27 : TC := (.pre [.ownc 0 1 G_RuleNode, .keep [4], .out [0]] rule_reader_read_C31)
def rule_reader_read_C20 : TC := (.seq (.pre [.ownc 0 1 G_RuleNode] rule_reader_read_C26) rule_reader_read_C27)
def rule_reader_read_C21 : TC := (.rg [⟨⟨some 36, (.mov (.t 0)), none⟩, {}⟩, ⟨⟨some 37, (.call (.c (.fn 43 [])) [(.t 36), (.c (.v (.string ⟨⟨[40]⟩⟩)))]), none⟩, {}⟩, ⟨⟨some 35, (.mov (.t 37)), none⟩, {}⟩] none)
def rule_reader_read_C28 : TP := (.pcall [⟨⟨some 38, (.mov (.t 0)), none⟩, {}⟩, ⟨⟨some 39, (.mov (.t 1)), none⟩, {}⟩, ⟨⟨some 40, (.bin .sub (.t 39) (.c (I 1))), none⟩, {}⟩] ⟨⟨some 41, (.call (.c (.fn 37 [])) [(.t 38), (.t 40)]), none⟩, {}⟩ [⟨⟨some 6, (.mov (.t 41)), none⟩, {}⟩])
def rule_reader_read_C33 : TC := (.rg [⟨⟨some 42, (.mov (.t 0)), none⟩, {}⟩, ⟨⟨some 43, (.call (.c (.fn 43 [])) [(.t 42), (.c (.v (.string ⟨⟨[32, 38, 32]⟩⟩)))]), none⟩, {}⟩, ⟨⟨some 44, (.un .not (.t 43)), none⟩, {}⟩] none)
def rule_reader_read_C39 : TP := (.pcall [⟨⟨some 45, (.mov (.t 0)), none⟩, {}⟩, ⟨⟨some 46, (.mov (.t 0)), none⟩, {}⟩, ⟨⟨some 47, (.call (.c (.fn 43 [])) [(.t 46), (.c (.v (.string ⟨⟨[32, 124, 32]⟩⟩)))]), none⟩, {}⟩] ⟨⟨some 48, (.call (.c (.fn 38 [])) [(.t 45), (.t 47)]), none⟩, {}⟩ [])
def rule_reader_read_C36 : TP := (.pre [.ownc 0 1 G_RuleNode] rule_reader_read_C39)
def rule_reader_read_C34 : TP := (.cond (.t 44) (.seq (.tc (.rg [⟨⟨some 7, (.mov (.c (I 4))), none⟩, {}⟩] none)) rule_reader_read_C36) (.tc .skip))
def rule_reader_read_C37 : TP := (.pcall [⟨⟨some 49, (.mov (.t 0)), none⟩, {}⟩, ⟨⟨some 50, (.mov (.t 1)), none⟩, {}⟩, ⟨⟨some 51, (.bin .sub (.t 50) (.c (I 1))), none⟩, {}⟩] ⟨⟨some 52, (.call (.c (.fn 37 [])) [(.t 49), (.t 51)]), none⟩, {}⟩ [⟨⟨some 8, (.mov (.t 52)), none⟩, {}⟩])
def rule_reader_read_C40 : TP := (.pcall [⟨⟨some 53, (.mov (.t 0)), none⟩, {}⟩, ⟨⟨some 54, (.mov (.t 0)), none⟩, {}⟩, ⟨⟨some 55, (.call (.c (.fn 43 [])) [(.t 54), (.c (.v (.string ⟨⟨[41]⟩⟩)))]), none⟩, {}⟩] ⟨⟨some 56, (.call (.c (.fn 38 [])) [(.t 53), (.t 55)]), none⟩, {}⟩ [])
def rule_reader_read_C42 : TC := (.rg [⟨⟨some 57, (.mov (.t 0)), none⟩, {}⟩, ⟨⟨some 58, (.mov (.t 7)), none⟩, {}⟩, ⟨⟨some 59, (.mov (.t 6)), none⟩, {}⟩, ⟨⟨some 60, (.mov (.t 8)), none⟩, {}⟩, ⟨⟨some 61, (.build [(I 0), (I 0), (I 0), (I 0)] [(0, (1, (.t 58))), (2, (1, (.t 59))), (3, (1, (.t 60)))]), none⟩, {}⟩, ⟨⟨some 62, (.call (.c
  (.fn 44 [])) [(.t 57), (.t 61)]), none⟩, {}⟩, ⟨⟨some 4, (.mov (.t 62)), none⟩, {}⟩] none)
def rule_reader_read_C44 : TC := .ret
def rule_reader_read_C43 : TC := (.pre [.ownc 0 1 G_RuleNode, .keep [4], .out [0]] rule_reader_read_C44)
def rule_reader_read_C41 : TC := (.seq (.pre [.ownc 0 1 G_RuleNode] rule_reader_read_C42) rule_reader_read_C43)
def rule_reader_read_C38 : TP := (.seq (.pre [.ownc 0 1 G_RuleNode] rule_reader_read_C40) (.tc rule_reader_read_C41))
def rule_reader_read_C35 : TP := (.seq (.pre [.ownc 0 1 G_RuleNode] rule_reader_read_C37) rule_reader_read_C38)
def rule_reader_read_C32 : TP := (.seq (.seq (.tc (.pre [.ownc 0 1 G_RuleNode] rule_reader_read_C33)) rule_reader_read_C34) rule_reader_read_C35)
def rule_reader_read_C29 : TP := (.seq (.tc (.rg [⟨⟨some 7, (.mov (.c (I 3))), none⟩, {}⟩] none)) rule_reader_read_C32)
def rule_reader_read_C22 : TP := (.cond (.t 35) (.seq (.pre [.ownc 0 1 G_RuleNode] rule_reader_read_C28) rule_reader_read_C29) (.tc .skip))
def rule_reader_read_C15 : TP := (.cond (.t 24) (.seq (.pre [.ownc 0 1 G_RuleNode] rule_reader_read_C19) (.tc rule_reader_read_C20)) (.seq (.tc (.pre [.ownc 0 1 G_RuleNode] rule_reader_read_C21)) rule_reader_read_C22))
def rule_reader_read_C23 : TP := (.pcall [⟨⟨some 63, (.mov (.t 0)), none⟩, {}⟩, ⟨⟨some 64, (.mov (.t 0)), none⟩, {}⟩, ⟨⟨some 65, (.call (.c (.fn 43 [])) [(.t 64), (.c (.v (.string ⟨⟨[99]⟩⟩)))]), none⟩, {}⟩] ⟨⟨some 66, (.call (.c (.fn 38 [])) [(.t 63), (.t 65)]), none⟩, {}⟩ [])
def rule_reader_read_C30 : TP := (.seq (.tc (.block 1 (.loop rule_reader_read_N1 rule_reader_read_C2))) rule_reader_read_C3)
def rule_reader_read_C24 : TP := (.seq (.tc (.rg [⟨⟨some 9, (.mov (.c (I 0))), none⟩, {}⟩] none)) rule_reader_read_C30)
def rule_reader_read_C16 : TP := (.seq (.pre [.ownc 0 1 G_RuleNode] rule_reader_read_C23) rule_reader_read_C24)
def rule_reader_read_C12 : TP := (.seq (.block 0 (.seq (.tc (.pre [.ownc 0 1 G_RuleNode] rule_reader_read_C14)) rule_reader_read_C15)) rule_reader_read_C16)
def rule_reader_read_C8 : TP := (.seq (.pre [.ownc 0 1 G_RuleNode] rule_reader_read_C11) rule_reader_read_C12)
def rule_reader_read_C4 : TP := (.seq (.tc (.rg [⟨⟨some 4, (.mov (.c (I 0))), none⟩, {}⟩] none)) rule_reader_read_C8)
def rule_reader_read_E (N : Nat) (self : T_reader → Int → Option (Option (Int × T_reader))) : List (Nat × Ent) := [(38, sfE [none, none] [.b (.p (.v .str) (.a G_RuleNode)), .v .bool] [] (fun x => joinP ((fun x => rule_reader_needP N x.1 x.2) x))), (43, sfE [none, none] [.b (.p (.v .str) (.a G_RuleNode)), .v .str] [.v .bool] (fun x => rule_reader_take N x.1 x.2)), (37, sfE [none, none] [.b (.p (.v .str) (.a G_RuleNode)), .v (.int .i64)] [.v (.int .i64)] (fun x => joinP ((fun x => self x.1 x.2) x))), (44, sfE [none, none] [.b (.p (.v .str) (.a G_RuleNode)), .v G_RuleNode] [.v (.int .i64)] (fun x => rule_reader_add N x.1 x.2)), (45, atoiE)]
def rule_reader_read_P (N : Nat) (self : T_reader → Int → Option (Option (Int × T_reader))) : List (Nat × PEnt) := [(38, panE [none, none] [.b (.p (.v .str) (.a G_RuleNode)), .v .bool] (fun x => rule_reader_needP N x.1 x.2)), (37, panE [none, none] [.b (.p (.v .str) (.a G_RuleNode)), .v (.int .i64)] (fun x => self x.1 x.2))]
def rule_reader_read_J1 (N : Nat) (self : T_reader → Int → Option (Option (Int × T_reader))) (x28 : Int) (x29 : List UInt8) (x30 : List T_RuleNode) : Option (Option (Int × T_reader)) := joinN (runP (rule_reader_read_P N self) (rule_reader_read_E N self) N 2 kpN rule_reader_read_C1) N ⟨[(0, .ptr 0 0 0), (9, .int .i64 x28)], [some (.box 0 [.str x29, .whole 2]), none, some (.arr G_RuleNode x30)]⟩ (mapS (finS rule_reader_read_NE [(.t 4)] [.b (.p (.v .str) (.a G_RuleNode)), .v (.int .i64)] [.v (.int .i64)] 2 3))
def rule_reader_read_L1 (N : Nat) (self : T_reader → Int → Option (Option (Int × T_reader))) (n : Nat) (x20 : Int) (x21 : List UInt8) (x22 : List T_RuleNode) : Option (Option (Int × T_reader)) := loopN (normI 2 rule_reader_read_N1) (run (rule_reader_read_E N self) N 2 rule_reader_read_C2) n ⟨[(0, .ptr 0 0 0), (9, .int .i64 x20)], [some (.box 0 [.str x21, .whole 2]), none, some (.arr G_RuleNode x22)]⟩ (blkK 1 (seqK (runP (rule_reader_read_P N self) (rule_reader_read_E N self) N 2 kpN rule_reader_read_C3) (mapS (finS rule_reader_read_NE [(.t 4)] [.b (.p (.v .str) (.a G_RuleNode)), .v (.int .i64)] [.v (.int .i64)] 2 3))))
theorem rule_reader_read_J1_eqM (N : Nat) (self : T_reader → Int → Option (Option (Int × T_reader))) (JM : Nat) (x28 : Int) (x29 : List UInt8) (x30 : List T_RuleNode) : joinN (runP (rule_reader_read_P N self) (rule_reader_read_E N self) N 2 kpN rule_reader_read_C1) (JM + 1) ⟨[(0, .ptr 0 0 0), (9, .int .i64 x28)], [some (.box 0 [.str x29, .whole 2]), none, some (.arr G_RuleNode x30)]⟩ (mapS (finS rule_reader_read_NE [(.t 4)] [.b (.p (.v .str) (.a G_RuleNode)), .v (.int .i64)] [.v (.int .i64)] 2 3)) =
  bif slB 0 x28 x29.length then
  bif decide ((x29.take x28.toNat).length ≤ 281474976710656) then
  bif atoiB (x29.take x28.toNat) then
    bif (x28 == 1) then
      bif isPan (rule_reader_needP N (x29, x30) true) then some none else
      Option.bind (joinP (rule_reader_needP N (x29, x30) true)) fun r32 =>
      bif slB x28 r32.2.1.length r32.2.1.length then
      Option.bind (rule_reader_add N ((r32.2.1.drop x28.toNat), r32.2.2) (1, ((atoiV (x29.take x28.toNat)), (0, 0)))) fun r34 =>
      some (some (r34.1, r34.2))
      else none
    else
      bif inB 0 x29.length then
      let v35 := ((x29.getD (0 : Int).toNat 0).toNat : Int)
      bif isPan (rule_reader_needP N (x29, x30) (v35 != 48)) then some none else
      Option.bind (joinP (rule_reader_needP N (x29, x30) (v35 != 48))) fun r36 =>
      bif slB x28 r36.2.1.length r36.2.1.length then
      Option.bind (rule_reader_add N ((r36.2.1.drop x28.toNat), r36.2.2) (1, ((atoiV (x29.take x28.toNat)), (0, 0)))) fun r38 =>
      some (some (r38.1, r38.2))
      else none
      else none
  else
    bif isPan (rule_reader_needP N (x29, x30) false) then some none else
    Option.bind (joinP (rule_reader_needP N (x29, x30) false)) fun r39 =>
    bif slB x28 r39.2.1.length r39.2.1.length then
    none
    else none
  else none
  else none := by kernel_rfl
theorem rule_reader_read_J1_eq (N : Nat) (self : T_reader → Int → Option (Option (Int × T_reader))) (x28 : Int) (x29 : List UInt8) (x30 : List T_RuleNode) : rule_reader_read_J1 (N + 1) self x28 x29 x30 =
  bif slB 0 x28 x29.length then
  bif decide ((x29.take x28.toNat).length ≤ 281474976710656) then
  bif atoiB (x29.take x28.toNat) then
    bif (x28 == 1) then
      bif isPan (rule_reader_needP (N + 1) (x29, x30) true) then some none else
      Option.bind (joinP (rule_reader_needP (N + 1) (x29, x30) true)) fun r32 =>
      bif slB x28 r32.2.1.length r32.2.1.length then
      Option.bind (rule_reader_add (N + 1) ((r32.2.1.drop x28.toNat), r32.2.2) (1, ((atoiV (x29.take x28.toNat)), (0, 0)))) fun r34 =>
      some (some (r34.1, r34.2))
      else none
    else
      bif inB 0 x29.length then
      let v35 := ((x29.getD (0 : Int).toNat 0).toNat : Int)
      bif isPan (rule_reader_needP (N + 1) (x29, x30) (v35 != 48)) then some none else
      Option.bind (joinP (rule_reader_needP (N + 1) (x29, x30) (v35 != 48))) fun r36 =>
      bif slB x28 r36.2.1.length r36.2.1.length then
      Option.bind (rule_reader_add (N + 1) ((r36.2.1.drop x28.toNat), r36.2.2) (1, ((atoiV (x29.take x28.toNat)), (0, 0)))) fun r38 =>
      some (some (r38.1, r38.2))
      else none
      else none
  else
    bif isPan (rule_reader_needP (N + 1) (x29, x30) false) then some none else
    Option.bind (joinP (rule_reader_needP (N + 1) (x29, x30) false)) fun r39 =>
    bif slB x28 r39.2.1.length r39.2.1.length then
    none
    else none
  else none
  else none := rule_reader_read_J1_eqM (N + 1) self N x28 x29 x30
theorem rule_reader_read_L1_succ (N : Nat) (self : T_reader → Int → Option (Option (Int × T_reader))) (n1 : Nat) (x20 : Int) (x21 : List UInt8) (x22 : List T_RuleNode) : rule_reader_read_L1 N self (n1 + 1) x20 x21 x22 =
  bif (decide (x20 < (x21.length : Int))) then
    bif inB x20 x21.length then
    bif (decide (((x21.getD x20.toNat 0).toNat : Int) ≥ 48)) then
      bif inB x20 x21.length then
      bif (decide (((x21.getD x20.toNat 0).toNat : Int) ≤ 57)) then
        rule_reader_read_L1 N self n1 (W (x20 + 1)) x21 x22
      else
        rule_reader_read_J1 N self x20 x21 x22
      else none
    else
      rule_reader_read_J1 N self x20 x21 x22
    else none
  else
    rule_reader_read_J1 N self x20 x21 x22 := by kernel_rfl
def rule_reader_read_R (N : Nat) (self : T_reader → Int → Option (Option (Int × T_reader))) (a0 : T_reader) (a1 : Int) : Option (Option (Int × T_reader)) :=
  bif (decide (a1 > 0)) then
    bif isPan (rule_reader_needP N a0 (decide ((a0.2.length : Int) ≤ 64))) then some none else
    Option.bind (joinP (rule_reader_needP N a0 (decide ((a0.2.length : Int) ≤ 64)))) fun r1 =>
    Option.bind (rule_reader_take N r1.2 [33]) fun r2 =>
    bif r2.1 then
      bif isPan (self r2.2 (W (a1 - 1))) then some none else
      Option.bind (joinP (self r2.2 (W (a1 - 1)))) fun r3 =>
      Option.bind (rule_reader_add N r3.2 (2, (0, (r3.1, 0)))) fun r4 =>
      some (some (r4.1, r4.2))
    else
      Option.bind (rule_reader_take N r2.2 [40]) fun r5 =>
      bif r5.1 then
        bif isPan (self r5.2 (W (a1 - 1))) then some none else
        Option.bind (joinP (self r5.2 (W (a1 - 1)))) fun r6 =>
        Option.bind (rule_reader_take N r6.2 [32, 38, 32]) fun r7 =>
        bif (!r7.1) then
          Option.bind (rule_reader_take N r7.2 [32, 124, 32]) fun r8 =>
          bif isPan (rule_reader_needP N r8.2 r8.1) then some none else
          Option.bind (joinP (rule_reader_needP N r8.2 r8.1)) fun r9 =>
          bif isPan (self r9.2 (W (a1 - 1))) then some none else
          Option.bind (joinP (self r9.2 (W (a1 - 1)))) fun r10 =>
          Option.bind (rule_reader_take N r10.2 [41]) fun r11 =>
          bif isPan (rule_reader_needP N r11.2 r11.1) then some none else
          Option.bind (joinP (rule_reader_needP N r11.2 r11.1)) fun r12 =>
          Option.bind (rule_reader_add N r12.2 (4, (0, (r6.1, r10.1)))) fun r13 =>
          some (some (r13.1, r13.2))
        else
          bif isPan (self r7.2 (W (a1 - 1))) then some none else
          Option.bind (joinP (self r7.2 (W (a1 - 1)))) fun r14 =>
          Option.bind (rule_reader_take N r14.2 [41]) fun r15 =>
          bif isPan (rule_reader_needP N r15.2 r15.1) then some none else
          Option.bind (joinP (rule_reader_needP N r15.2 r15.1)) fun r16 =>
          Option.bind (rule_reader_add N r16.2 (3, (0, (r6.1, r14.1)))) fun r17 =>
          some (some (r17.1, r17.2))
      else
        Option.bind (rule_reader_take N r5.2 [99]) fun r18 =>
        bif isPan (rule_reader_needP N r18.2 r18.1) then some none else
        Option.bind (joinP (rule_reader_needP N r18.2 r18.1)) fun r19 =>
        rule_reader_read_L1 N self N 0 r19.2.1 r19.2.2
  else
    bif isPan (rule_reader_needP N a0 false) then some none else
    Option.bind (joinP (rule_reader_needP N a0 false)) fun r53 =>
    Option.bind (rule_reader_take N r53.2 [33]) fun r54 =>
    bif r54.1 then
      bif isPan (self r54.2 (W (a1 - 1))) then some none else
      Option.bind (joinP (self r54.2 (W (a1 - 1)))) fun r55 =>
      Option.bind (rule_reader_add N r55.2 (2, (0, (r55.1, 0)))) fun r56 =>
      some (some (r56.1, r56.2))
    else
      Option.bind (rule_reader_take N r54.2 [40]) fun r57 =>
      bif r57.1 then
        bif isPan (self r57.2 (W (a1 - 1))) then some none else
        Option.bind (joinP (self r57.2 (W (a1 - 1)))) fun r58 =>
        Option.bind (rule_reader_take N r58.2 [32, 38, 32]) fun r59 =>
        bif (!r59.1) then
          Option.bind (rule_reader_take N r59.2 [32, 124, 32]) fun r60 =>
          bif isPan (rule_reader_needP N r60.2 r60.1) then some none else
          Option.bind (joinP (rule_reader_needP N r60.2 r60.1)) fun r61 =>
          bif isPan (self r61.2 (W (a1 - 1))) then some none else
          Option.bind (joinP (self r61.2 (W (a1 - 1)))) fun r62 =>
          Option.bind (rule_reader_take N r62.2 [41]) fun r63 =>
          bif isPan (rule_reader_needP N r63.2 r63.1) then some none else
          Option.bind (joinP (rule_reader_needP N r63.2 r63.1)) fun r64 =>
          Option.bind (rule_reader_add N r64.2 (4, (0, (r58.1, r62.1)))) fun r65 =>
          some (some (r65.1, r65.2))
        else
          bif isPan (self r59.2 (W (a1 - 1))) then some none else
          Option.bind (joinP (self r59.2 (W (a1 - 1)))) fun r66 =>
          Option.bind (rule_reader_take N r66.2 [41]) fun r67 =>
          bif isPan (rule_reader_needP N r67.2 r67.1) then some none else
          Option.bind (joinP (rule_reader_needP N r67.2 r67.1)) fun r68 =>
          Option.bind (rule_reader_add N r68.2 (3, (0, (r58.1, r66.1)))) fun r69 =>
          some (some (r69.1, r69.2))
      else
        Option.bind (rule_reader_take N r57.2 [99]) fun r70 =>
        bif isPan (rule_reader_needP N r70.2 r70.1) then some none else
        Option.bind (joinP (rule_reader_needP N r70.2 r70.1)) fun r71 =>
        rule_reader_read_L1 N self N 0 r71.2.1 r71.2.2
def rule_reader_read_M (N : Nat) : Nat → T_reader → Int → Option (Option (Int × T_reader))
  | 0, _, _ => none
  | n + 1, a0, a1 => rule_reader_read_R N (rule_reader_read_M N n) a0 a1
theorem rule_reader_read_M_succ (N n : Nat) (a0 : T_reader) (a1 : Int) : rule_reader_read_M N (n + 1) a0 a1 = rule_reader_read_R N (rule_reader_read_M N n) a0 a1 := rfl
def rule_reader_read (N : Nat) (a0 : T_reader) (a1 : Int) : Option (Option (Int × T_reader)) := rule_reader_read_M N N a0 a1
theorem rule_reader_read_fn : FnOK Tryd.prog 37 133 (fun _ : Nat => false) rule_reader_read_C4.er [(.t 4)] := FnOK.mk' Tryd.func37 (by kernel_rfl) (by kernel_rfl) (by kernel_rfl) (by kernel_rfl) (by kernel_rfl)
theorem rule_reader_read_envok (N : Nat) (self : T_reader → Int → Option (Option (Int × T_reader))) (hself : SFOK Tryd.prog 37 [none, none] [.b (.p (.v .str) (.a G_RuleNode)), .v (.int .i64)] [.v (.int .i64)] (fun x => joinP ((fun x => self x.1 x.2) x))) : EnvOK Tryd.prog (rule_reader_read_E N self) := .cons (sfE_ok (rule_reader_needP_sf N)) (.cons (sfE_ok (rule_reader_take_sf N)) (.cons (sfE_ok hself) (.cons (sfE_ok (rule_reader_add_sf N)) (.cons (atoiE_ok) (.nil)))))
theorem rule_reader_read_penvok (N : Nat) (self : T_reader → Int → Option (Option (Int × T_reader))) (hpan : PanOK Tryd.prog chF 37 [none, none] [.b (.p (.v .str) (.a G_RuleNode)), .v (.int .i64)] (fun x => self x.1 x.2)) : PEnvOK Tryd.prog chF (rule_reader_read_P N self) := .cons (panE_ok (rule_reader_needP_pan N)) (.cons (panE_ok hpan) (.nil))
theorem rule_reader_read_sps (N : Nat) : ∀ n, SFOK Tryd.prog 37 [none, none] [.b (.p (.v .str) (.a G_RuleNode)), .v (.int .i64)] [.v (.int .i64)] (fun x => joinP ((fun x => rule_reader_read_M N n x.1 x.2) x)) ∧ PanOK Tryd.prog chF 37 [none, none] [.b (.p (.v .str) (.a G_RuleNode)), .v (.int .i64)] (fun x => rule_reader_read_M N n x.1 x.2)
  | 0 => ⟨fun x y z h => (by cases h), fun x h => (by cases h)⟩
  | n + 1 => ⟨psfOK (pk := [none, none]) (ks := [.b (.p (.v .str) (.a G_RuleNode)), .v (.int .i64)]) (rk := [.v (.int .i64)]) (N := N) (p := 2) (q := 3) (ns := rule_reader_read_NE) mixed rule_reader_read_fn (rule_reader_read_envok N (rule_reader_read_M N n) (rule_reader_read_sps N n).1) (rule_reader_read_penvok N (rule_reader_read_M N n) (rule_reader_read_sps N n).2) (TP.noh_ok (by kernel_rfl)) rfl rfl rfl (fun x => by kernel_rfl), ppanOK (pk := [none, none]) (ks := [.b (.p (.v .str) (.a G_RuleNode)), .v (.int .i64)]) (rk := [.v (.int .i64)]) (N := N) (p := 2) (q := 3) (ns := rule_reader_read_NE) mixed rule_reader_read_fn (rule_reader_read_envok N (rule_reader_read_M N n) (rule_reader_read_sps N n).1) (rule_reader_read_penvok N (rule_reader_read_M N n) (rule_reader_read_sps N n).2) (TP.noh_ok (by kernel_rfl)) rfl rfl rfl (fun x => by kernel_rfl)⟩
theorem rule_reader_read_sf (N : Nat) : SFOK Tryd.prog 37 [none, none] [.b (.p (.v .str) (.a G_RuleNode)), .v (.int .i64)] [.v (.int .i64)] (fun x => joinP ((fun x => rule_reader_read N x.1 x.2) x)) := (rule_reader_read_sps N N).1
theorem rule_reader_read_pan (N : Nat) : PanOK Tryd.prog chF 37 [none, none] [.b (.p (.v .str) (.a G_RuleNode)), .v (.int .i64)] (fun x => rule_reader_read N x.1 x.2) := (rule_reader_read_sps N N).2
/-! rule_Parse -/
def rule_Parse_C3 : TP := (.pcall [⟨⟨some 9, (.mov (.t 4)), none⟩, {}⟩] ⟨⟨some 10, (.call (.c (.fn 37 [])) [(.t 9), (.c (I 16))]), none⟩, {}⟩ [])
def rule_Parse_C5 : TP := (.pcall [⟨⟨some 11, (.mov (.t 4)), none⟩, {}⟩, ⟨⟨some 12, (.mov (.t 4)), none⟩, {}⟩, ⟨⟨some 13, (.nilck (.t 12)), none⟩, {}⟩, ⟨⟨some 14, (.fadr 0 (.t 13)), none⟩, {}⟩, ⟨⟨some 15, (.load false 1 (.t 14)), none⟩, {}⟩, ⟨⟨some 16, (.bin .eql (.t 15) (.c (.v (.string ⟨⟨[]⟩⟩)))), none⟩, {}⟩, ⟨⟨some 17,
  (.mov (.t 16)), none⟩, {}⟩, ⟨⟨some 18, (.mov (.t 4)), some (17, true)⟩, {}⟩, ⟨⟨some 19, (.nilck (.t 18)), some (17, true)⟩, {}⟩, ⟨⟨some 20, (.fadr 1 (.t 19)), some (17, true)⟩, {}⟩, ⟨⟨some 21, (.load false 1 (.t 20)), some (17, true)⟩, {}⟩, ⟨⟨some 22, (.call (.c (.fn 31 [])) [(.t 21)]), some (17,
  true)⟩, {}⟩, ⟨⟨some 23, (.pick (.t 17) (.t 22) (.c (B false))), none⟩, {}⟩] ⟨⟨some 24, (.call (.c (.fn 38 [])) [(.t 11), (.t 23)]), none⟩, {}⟩ [])
def rule_Parse_C8 : TC := .ret
def rule_Parse_C7 : TC := (.pre [.frzb 2] rule_Parse_C8)
def rule_Parse_C6 : TC := (.seq (.rg [⟨⟨some 25, (.mov (.t 4)), none⟩, {}⟩, ⟨⟨some 26, (.nilck (.t 25)), none⟩, {}⟩, ⟨⟨some 27, (.fadr 1 (.t 26)), none⟩, {}⟩, ⟨⟨some 28, (.load false 1 (.t 27)), none⟩, {}⟩, ⟨⟨none, (.store 1 (.t 2) (.t 28)), none⟩, {}⟩, ⟨⟨none, (.store 1 (.t 3) (.c (I 0))), none⟩, {}⟩] none) rule_Parse_C7)
def rule_Parse_C4 : TP := (.seq (.pre [.ownc 4 1 G_RuleNode] rule_Parse_C5) (.tc rule_Parse_C6))
def rule_Parse_C2 : TP := (.seq (.pre [.ownc 4 1 G_RuleNode] rule_Parse_C3) rule_Parse_C4)
def rule_Parse_C1 : TP := (.seq (.tc (.rg [⟨⟨some 6, (.mov (.t 0)), none⟩, {}⟩, ⟨⟨some 7, (.build [(.v (.string ⟨⟨[]⟩⟩)), (.lst true [])] [(0, (1, (.t 6)))]), none⟩, {}⟩, ⟨⟨some 8, (.box (.t 7)), none⟩, {}⟩, ⟨⟨some 4, (.mov (.t 8)), none⟩, {}⟩] none)) rule_Parse_C2)
def rule_Parse_E (N : Nat) : List (Nat × Ent) := [(37, sfE [none, none] [.b (.p (.v .str) (.a G_RuleNode)), .v (.int .i64)] [.v (.int .i64)] (fun x => joinP ((fun x => rule_reader_read N x.1 x.2) x))), (31, pureE [(.list G_RuleNode)] [.bool] (fun x => rule_right N x)), (38, sfE [none, none] [.b (.p (.v .str) (.a G_RuleNode)), .v .bool] [] (fun x => joinP ((fun x => rule_reader_needP N x.1 x.2) x)))]
def rule_Parse_P (N : Nat) : List (Nat × PEnt) := [(37, panE [none, none] [.b (.p (.v .str) (.a G_RuleNode)), .v (.int .i64)] (fun x => rule_reader_read N x.1 x.2)), (38, panE [none, none] [.b (.p (.v .str) (.a G_RuleNode)), .v .bool] (fun x => rule_reader_needP N x.1 x.2))]
def rule_ParseP (N : Nat) (a0 : List UInt8) : Option (Option ((List T_RuleNode) × Int)) :=
  bif isPan (rule_reader_read N (a0, []) 16) then some none else
  Option.bind (joinP (rule_reader_read N (a0, []) 16)) fun r1 =>
  bif (r1.2.1 == ([] : List UInt8)) then
    Option.bind (rule_right N r1.2.2) fun r2 =>
    bif isPan (rule_reader_needP N r1.2 r2) then some none else
    Option.bind (joinP (rule_reader_needP N r1.2 r2)) fun r3 =>
    some (some (r3.2.2, 0))
  else
    bif isPan (rule_reader_needP N r1.2 false) then some none else
    Option.bind (joinP (rule_reader_needP N r1.2 false)) fun r4 =>
    some (some (r4.2.2, 0))
def rule_Parse (N : Nat) (a0 : List UInt8) : Option ((List T_RuleNode) × Int) := recM (rule_ParseP N a0)
theorem rule_Parse_envok (N : Nat) : EnvOK Tryd.prog (rule_Parse_E N) := .cons (sfE_ok (rule_reader_read_sf N)) (.cons (pureE_ok (rule_right_pure N)) (.cons (sfE_ok (rule_reader_needP_sf N)) (.nil)))
theorem rule_Parse_penvok (N : Nat) : PEnvOK Tryd.prog chF (rule_Parse_P N) := .cons (panE_ok (rule_reader_read_pan N)) (.cons (panE_ok (rule_reader_needP_pan N)) (.nil))
theorem rule_Parse_pure (N : Nat) : PureOK Tryd.prog 22 [.str] [(.list G_RuleNode), (.int .i64)] (fun x => rule_Parse N x) := parse_ok (N := N) (tp := rule_Parse_C1) (modelP := fun x => rule_ParseP N x) (by kernel_rfl) (by kernel_rfl) (rule_Parse_envok N) (rule_Parse_penvok N) (TP.noh_ok (by kernel_rfl)) (fun x => by kernel_rfl)
/-! law19_awake -/
def law19_awake_C5 : TC := .ret
def law19_awake_C4 : TC := (.seq (.rg [⟨⟨some 14, (.mov (.t 2)), none⟩, {}⟩, ⟨⟨some 15, (.bin .eql (.t 14) (.c (I 0))), none⟩, {}⟩, ⟨⟨some 16, (.mov (.t 15)), none⟩, {}⟩, ⟨⟨some 17, (.mov (.t 4)), some (16, true)⟩, {}⟩, ⟨⟨some 18, (.bin .eql (.t 17) (.c (I 0))), some (16, true)⟩, {}⟩, ⟨⟨some 19, (.pick (.t 16) (.t 18) (.c (B
  false))), none⟩, {}⟩, ⟨⟨some 20, (.mov (.t 19)), none⟩, {}⟩, ⟨⟨some 21, (.mov (.t 3)), some (20, true)⟩, {}⟩, ⟨⟨some 22, (.bin .eql (.t 21) (.c (.v (.string ⟨⟨[40, 99, 48, 32, 38, 32, 33, 99, 50, 41]⟩⟩)))), some (20, true)⟩, {}⟩, ⟨⟨some 23, (.pick (.t 20) (.t 22) (.c (B false))), none⟩, {}⟩, ⟨⟨some
  24, (.mov (.t 23)), none⟩, {}⟩, ⟨⟨some 25, (.mov (.t 1)), some (24, true)⟩, {}⟩, ⟨⟨some 26, (.call (.c (.fn 12 [])) [(.t 25), (.c (I 3))]), some (24, true)⟩, {}⟩, ⟨⟨some 27, (.bin .eql (.t 26) (.c (I 0))), some (24, true)⟩, {}⟩, ⟨⟨some 28, (.pick (.t 24) (.t 27) (.c (B false))), none⟩, {}⟩, ⟨⟨some
  29, (.mov (.t 28)), none⟩, {}⟩, ⟨⟨some 30, (.mov (.t 1)), some (29, true)⟩, {}⟩, ⟨⟨some 31, (.call (.c (.fn 12 [])) [(.t 30), (.c (I 2))]), some (29, true)⟩, {}⟩, ⟨⟨some 32, (.bin .eql (.t 31) (.c (I 1))), some (29, true)⟩, {}⟩, ⟨⟨some 33, (.pick (.t 29) (.t 32) (.c (B false))), none⟩, {}⟩, ⟨⟨some
  34, (.mov (.t 33)), none⟩, {}⟩, ⟨⟨some 35, (.mov (.t 1)), some (34, true)⟩, {}⟩, ⟨⟨some 36, (.call (.c (.fn 15 [])) [(.t 35)]), some (34, true)⟩, {}⟩, ⟨⟨some 37, (.bslice false 1 [(I 0)] 2 [(0, (.c (I 0))), (1, (.c (I 2)))]), some (34, true)⟩, ⟨(.int .i64), none, []⟩⟩, ⟨⟨some 38, (.call (.c (.fn 14
  [])) [(.t 36), (.t 37)]), some (34, true)⟩, {}⟩, ⟨⟨some 39, (.pick (.t 34) (.t 38) (.c (B false))), none⟩, {}⟩, ⟨⟨some 40, (.mov (.t 39)), none⟩, {}⟩, ⟨⟨some 41, (.mov (.t 1)), some (40, true)⟩, {}⟩, ⟨⟨some 42, (.bslice false 1 [(I 0)] 3 [(0, (.c (I (-1)))), (1, (.c (I 0))), (2, (.c (I 0)))]), some
  (40, true)⟩, ⟨(.int .i64), none, []⟩⟩, ⟨⟨some 43, (.call (.c (.fn 17 [])) [(.t 41), (.t 42)]), some (40, true)⟩, {}⟩, ⟨⟨some 44, (.bin .eql (.t 43) (.c (I (-1)))), some (40, true)⟩, {}⟩, ⟨⟨some 45, (.pick (.t 40) (.t 44) (.c (B false))), none⟩, {}⟩, ⟨⟨some 46, (.mov (.t 45)), none⟩, {}⟩, ⟨⟨some 47,
  (.mov (.t 1)), some (46, true)⟩, {}⟩, ⟨⟨some 48, (.bslice false 1 [(I 0)] 3 [(0, (.c (I 1))), (1, (.c (I 0))), (2, (.c (I (-1))))]), some (46, true)⟩, ⟨(.int .i64), none, []⟩⟩, ⟨⟨some 49, (.call (.c (.fn 17 [])) [(.t 47), (.t 48)]), some (46, true)⟩, {}⟩, ⟨⟨some 50, (.bin .eql (.t 49) (.c (I 1))),
  some (46, true)⟩, {}⟩, ⟨⟨some 51, (.pick (.t 46) (.t 50) (.c (B false))), none⟩, {}⟩, ⟨⟨some 0, (.mov (.t 51)), none⟩, {}⟩] none) law19_awake_C5)
def law19_awake_C3 : TC := (.seq (.rg [⟨⟨some 10, (.mov (.t 1)), none⟩, {}⟩, ⟨⟨some 11, (.call (.c (.fn 19 [])) [(.t 10)]), none⟩, {}⟩, ⟨⟨some 9, (.mov (.t 11)), none⟩, {}⟩, ⟨⟨some 12, (.extr 0 (.t 9)), none⟩, {}⟩, ⟨⟨some 13, (.extr 1 (.t 9)), none⟩, {}⟩, ⟨⟨some 3, (.mov (.t 12)), none⟩, {}⟩, ⟨⟨some 4, (.mov (.t 13)), none⟩,
  {}⟩] none) law19_awake_C4)
def law19_awake_C2 : TC := (.seq (.rg [⟨⟨some 6, (.call (.c (.fn 22 [])) [(.c (.v (.string ⟨⟨[40, 99, 48, 32, 38, 32, 33, 99, 50, 41]⟩⟩)))]), none⟩, {}⟩, ⟨⟨some 5, (.mov (.t 6)), none⟩, {}⟩, ⟨⟨some 7, (.extr 0 (.t 5)), none⟩, {}⟩, ⟨⟨some 8, (.extr 1 (.t 5)), none⟩, {}⟩, ⟨⟨some 1, (.mov (.t 7)), none⟩, {}⟩, ⟨⟨some 2, (.mov (.t
  8)), none⟩, {}⟩] none) law19_awake_C3)
def law19_awake_C1 : TC := (.seq (.rg [⟨⟨some 0, (.mov (.c (B false))), none⟩, {}⟩] none) law19_awake_C2)
def law19_awake_E (N : Nat) : List (Nat × Ent) := [(22, pureE [.str] [(.list G_RuleNode), (.int .i64)] (fun x => rule_Parse N x)), (19, pureE [(.list G_RuleNode)] [.str, (.int .i64)] (fun x => rule_Print N x)), (12, pureE [(.list G_RuleNode), (.int .i64)] [(.int .i64)] (fun x => rule_Check N x.1 x.2)), (15, pureE [(.list G_RuleNode)] [(.list (.int .i64))] (fun x => rule_Uses N x)), (14, pureE [(.list (.int .i64)), (.list (.int .i64))] [.bool] (fun x => ref01_Ints N x.1 x.2)), (17, pureE [(.list G_RuleNode), (.list (.int .i64))] [(.int .i64)] (fun x => rule_Eval N x.1 x.2))]
def law19_awake (N : Nat) : Option Bool :=
  Option.bind (rule_Parse N [40, 99, 48, 32, 38, 32, 33, 99, 50, 41]) fun r1 =>
  Option.bind (rule_Print N r1.1) fun r2 =>
  bif (r1.2 == 0) then
    bif (r2.2 == 0) then
      bif (r2.1 == ([40, 99, 48, 32, 38, 32, 33, 99, 50, 41] : List UInt8)) then
        Option.bind (rule_Check N r1.1 3) fun r3 =>
        bif (r3 == 0) then
          Option.bind (rule_Check N r1.1 2) fun r4 =>
          bif (r4 == 1) then
            Option.bind (rule_Uses N r1.1) fun r5 =>
            Option.bind (ref01_Ints N r5 [0, 2]) fun r6 =>
            bif r6 then
              Option.bind (rule_Eval N r1.1 [(-1), 0, 0]) fun r7 =>
              bif (r7 == (-1)) then
                Option.bind (rule_Eval N r1.1 [1, 0, (-1)]) fun r8 =>
                some (r8 == 1)
              else
                some false
            else
              some false
          else
            some false
        else
          some false
      else
        some false
    else
      some false
  else
    some false
theorem law19_awake_fn : FnOK Tryd.prog 9 52 (fun _ : Nat => false) law19_awake_C1.er [(.t 0)] := FnOK.mk' Tryd.func9 (by kernel_rfl) (by kernel_rfl) (by kernel_rfl) (by kernel_rfl) (by kernel_rfl)
theorem law19_awake_envok (N : Nat) : EnvOK Tryd.prog (law19_awake_E N) := .cons (pureE_ok (rule_Parse_pure N)) (.cons (pureE_ok (rule_Print_pure N)) (.cons (pureE_ok (rule_Check_pure N)) (.cons (pureE_ok (rule_Uses_pure N)) (.cons (pureE_ok (ref01_Ints_pure N)) (.cons (pureE_ok (rule_Eval_pure N)) (.nil))))))
theorem law19_awake_pure (N : Nat) : PureOK Tryd.prog 9 [] [.bool] (fun x => law19_awake N) := pureOK (N := N) mixed law19_awake_fn (law19_awake_envok N) (TC.noh_ok (by kernel_rfl)) rfl (fun x => by kernel_rfl)
/-! draw_New -/
def draw_New_NE : List NS := [.keep [2], .out []]
def draw_New_C4 : TC := .ret
def draw_New_C3 : TC := (.pre [.keep [2], .out []] draw_New_C4)
def draw_New_C2 : TC := (.seq (.rg [⟨⟨some 3, (.mov (.t 0)), none⟩, {}⟩, ⟨⟨some 4, (.mov (.t 0)), none⟩, {}⟩, ⟨⟨some 5, (.len (.t 4)), none⟩, {}⟩, ⟨⟨some 6, (.mm false [(.t 5), (.c (I 300))]), none⟩, {}⟩, ⟨⟨some 7, (.slc 1 (.t 3) none (some (.t 6))), none⟩, {}⟩, ⟨⟨some 8, (.build [(.lst true []), (I 0)] [(0, (1, (.t 7)))]),
  none⟩, {}⟩, ⟨⟨some 9, (.box (.t 8)), none⟩, {}⟩, ⟨⟨some 2, (.mov (.t 9)), none⟩, {}⟩] none) draw_New_C3)
def draw_New_C1 : TC := (.seq (.rg [⟨⟨some 2, (.mov (.c (.v (.pointer none)))), none⟩, {}⟩] none) draw_New_C2)
def draw_New_E (N : Nat) : List (Nat × Ent) := []
def draw_New (N : Nat) (a0 : List Int) : Option (T_Codes × Unit) :=
  let v1 := min (a0.length : Int) 300
  bif slB 0 v1 a0.length then
  some (((a0.take v1.toNat), 0), ())
  else none
theorem draw_New_fn : FnOK Tryd.prog 25 10 (fun _ : Nat => false) draw_New_C1.er [(.t 2)] := FnOK.mk' Tryd.func25 (by kernel_rfl) (by kernel_rfl) (by kernel_rfl) (by kernel_rfl) (by kernel_rfl)
theorem draw_New_envok (N : Nat) : EnvOK Tryd.prog (draw_New_E N) := .nil
theorem draw_New_sf (N : Nat) : SFOK Tryd.prog 25 [none] [.v (.list (.int .u8))] [.n G_Codes] (fun x => draw_New N x) := sfOK (N := N) (p := 0) (q := 0) (ns := draw_New_NE) mixed draw_New_fn (draw_New_envok N) (TC.noh_ok (by kernel_rfl)) rfl rfl rfl (fun x => by kernel_rfl)
/-! draw_Codes_Next -/
def draw_Codes_Next_NE : List NS := [.frzo 0, .keep [4], .out [0]]
def draw_Codes_Next_C11 : TC := (.rg [⟨⟨some 67, (.mov (.t 0)), none⟩, {}⟩, ⟨⟨some 68, (.nilck (.t 67)), none⟩, {}⟩, ⟨⟨some 69, (.fadr 1 (.t 68)), none⟩, {}⟩, ⟨⟨some 70, (.load false 1 (.t 69)), none⟩, {}⟩, ⟨⟨some 71, (.bin .add (.t 70) (.c (I 1))), none⟩, {}⟩, ⟨⟨some 72, (.nilck (.t 67)), none⟩, {}⟩, ⟨⟨some 73, (.fadr 1 (.t 72)),
  none⟩, {}⟩, ⟨⟨none, (.store 1 (.t 73) (.t 71)), none⟩, {}⟩] none)
def draw_Codes_Next_C8 : TC := (.cond (.t 52) (.seq (.rg [⟨⟨some 53, (.mov (.t 5)), none⟩, {}⟩, ⟨⟨some 54, (.bin .mul (.t 53) (.c (I 256))), none⟩, {}⟩, ⟨⟨some 55, (.mov (.t 0)), none⟩, {}⟩, ⟨⟨some 56, (.nilck (.t 55)), none⟩, {}⟩, ⟨⟨some 57, (.fadr 0 (.t 56)), none⟩, {}⟩, ⟨⟨some 58, (.load false 1 (.t 57)), none⟩, {}⟩, ⟨⟨some 59,
  (.mov (.t 0)), none⟩, {}⟩, ⟨⟨some 60, (.nilck (.t 59)), none⟩, {}⟩, ⟨⟨some 61, (.fadr 1 (.t 60)), none⟩, {}⟩, ⟨⟨some 62, (.load false 1 (.t 61)), none⟩, {}⟩, ⟨⟨some 63, (.iadrS 1 (.t 58) (.t 62)), none⟩, {}⟩, ⟨⟨some 64, (.load false 1 (.t 63)), none⟩, {}⟩, ⟨⟨some 65, (.conv .i64 (.t 64)), none⟩,
  {}⟩, ⟨⟨some 66, (.bin .add (.t 54) (.t 65)), none⟩, {}⟩, ⟨⟨some 5, (.mov (.t 66)), none⟩, {}⟩] (some [])) draw_Codes_Next_C11) .skip)
def draw_Codes_Next_C14 : TC := .ret
def draw_Codes_Next_C12 : TC := (.pre [.frzo 0, .keep [4], .out [0]] draw_Codes_Next_C14)
def draw_Codes_Next_C9 : TC := (.seq (.rg [⟨⟨some 74, (.mov (.t 5)), none⟩, {}⟩, ⟨⟨some 75, (.mov (.t 1)), none⟩, {}⟩, ⟨⟨some 76, (.bin .rem (.t 74) (.t 75)), none⟩, {}⟩, ⟨⟨some 4, (.mov (.t 76)), none⟩, {}⟩] none) draw_Codes_Next_C12)
def draw_Codes_Next_C5 : TC := (.seq (.seq (.rg [⟨⟨some 39, (.mov (.t 1)), none⟩, {}⟩, ⟨⟨some 40, (.bin .gtr (.t 39) (.c (I 256))), none⟩, {}⟩, ⟨⟨some 41, (.mov (.t 40)), none⟩, {}⟩, ⟨⟨some 42, (.mov (.t 0)), some (41, true)⟩, {}⟩, ⟨⟨some 43, (.nilck (.t 42)), some (41, true)⟩, {}⟩, ⟨⟨some 44, (.fadr 1 (.t 43)), some (41, true)⟩,
  {}⟩, ⟨⟨some 45, (.load false 1 (.t 44)), some (41, true)⟩, {}⟩, ⟨⟨some 46, (.mov (.t 0)), some (41, true)⟩, {}⟩, ⟨⟨some 47, (.nilck (.t 46)), some (41, true)⟩, {}⟩, ⟨⟨some 48, (.fadr 0 (.t 47)), some (41, true)⟩, {}⟩, ⟨⟨some 49, (.load false 1 (.t 48)), some (41, true)⟩, {}⟩, ⟨⟨some 50, (.len (.t
  49)), some (41, true)⟩, {}⟩, ⟨⟨some 51, (.bin .lss (.t 45) (.t 50)), some (41, true)⟩, {}⟩, ⟨⟨some 52, (.pick (.t 41) (.t 51) (.c (B false))), none⟩, {}⟩] (some [])) draw_Codes_Next_C8) draw_Codes_Next_C9)
def draw_Codes_Next_C3 : TC := (.seq (.rg [⟨⟨some 27, (.mov (.t 0)), none⟩, {}⟩, ⟨⟨some 28, (.nilck (.t 27)), none⟩, {}⟩, ⟨⟨some 29, (.fadr 0 (.t 28)), none⟩, {}⟩, ⟨⟨some 30, (.load false 1 (.t 29)), none⟩, {}⟩, ⟨⟨some 31, (.mov (.t 0)), none⟩, {}⟩, ⟨⟨some 32, (.nilck (.t 31)), none⟩, {}⟩, ⟨⟨some 33, (.fadr 1 (.t 32)), none⟩, {}⟩,
  ⟨⟨some 34, (.load false 1 (.t 33)), none⟩, {}⟩, ⟨⟨some 35, (.bin .sub (.t 34) (.c (I 1))), none⟩, {}⟩, ⟨⟨some 36, (.iadrS 1 (.t 30) (.t 35)), none⟩, {}⟩, ⟨⟨some 37, (.load false 1 (.t 36)), none⟩, {}⟩, ⟨⟨some 38, (.conv .i64 (.t 37)), none⟩, {}⟩, ⟨⟨some 5, (.mov (.t 38)), none⟩, {}⟩] (some []))
  draw_Codes_Next_C5)
def draw_Codes_Next_C1 : TC := (.seq (.rg [⟨⟨some 20, (.mov (.t 0)), none⟩, {}⟩, ⟨⟨some 21, (.nilck (.t 20)), none⟩, {}⟩, ⟨⟨some 22, (.fadr 1 (.t 21)), none⟩, {}⟩, ⟨⟨some 23, (.load false 1 (.t 22)), none⟩, {}⟩, ⟨⟨some 24, (.bin .add (.t 23) (.c (I 1))), none⟩, {}⟩, ⟨⟨some 25, (.nilck (.t 20)), none⟩, {}⟩, ⟨⟨some 26, (.fadr 1 (.t
  25)), none⟩, {}⟩, ⟨⟨none, (.store 1 (.t 26) (.t 24)), none⟩, {}⟩] none) draw_Codes_Next_C3)
def draw_Codes_Next_C13 : TC := .ret
def draw_Codes_Next_C10 : TC := (.pre [.frzo 0, .keep [4], .out [0]] draw_Codes_Next_C13)
def draw_Codes_Next_C6 : TC := (.cond (.t 19) (.seq (.rg [⟨⟨some 4, (.mov (.c (I 0))), none⟩, {}⟩] none) draw_Codes_Next_C10) .skip)
def draw_Codes_Next_C7 : TC := (.join [.keep [0, 1], .cmp] draw_Codes_Next_C1)
def draw_Codes_Next_C4 : TC := (.seq (.seq (.rg [⟨⟨some 6, (.mov (.t 1)), none⟩, {}⟩, ⟨⟨some 7, (.bin .lss (.t 6) (.c (I 1))), none⟩, {}⟩, ⟨⟨some 8, (.mov (.t 7)), none⟩, {}⟩, ⟨⟨some 9, (.mov (.t 0)), some (8, false)⟩, {}⟩, ⟨⟨some 10, (.nilck (.t 9)), some (8, false)⟩, {}⟩, ⟨⟨some 11, (.fadr 1 (.t 10)), some (8, false)⟩, {}⟩,
  ⟨⟨some 12, (.load false 1 (.t 11)), some (8, false)⟩, {}⟩, ⟨⟨some 13, (.mov (.t 0)), some (8, false)⟩, {}⟩, ⟨⟨some 14, (.nilck (.t 13)), some (8, false)⟩, {}⟩, ⟨⟨some 15, (.fadr 0 (.t 14)), some (8, false)⟩, {}⟩, ⟨⟨some 16, (.load false 1 (.t 15)), some (8, false)⟩, {}⟩, ⟨⟨some 17, (.len (.t 16)),
  some (8, false)⟩, {}⟩, ⟨⟨some 18, (.bin .geq (.t 12) (.t 17)), some (8, false)⟩, {}⟩, ⟨⟨some 19, (.pick (.t 8) (.c (B true)) (.t 18)), none⟩, {}⟩] (some [])) draw_Codes_Next_C6) draw_Codes_Next_C7)
def draw_Codes_Next_C2 : TC := (.seq (.rg [⟨⟨some 4, (.mov (.c (I 0))), none⟩, {}⟩] none) draw_Codes_Next_C4)
def draw_Codes_Next_E (N : Nat) : List (Nat × Ent) := []
def draw_Codes_Next_J1 (N : Nat) (x1 : Int) (x2 : List Int) (x3 : Int) : Option (Int × T_Codes) := joinN (run (draw_Codes_Next_E N) N 1 draw_Codes_Next_C1) N ⟨[(0, .ptr 0 0 0), (1, .int .i64 x1)], [some (.box 0 [.lst false (.int .u8) x2, .int .i64 x3])]⟩ (finS draw_Codes_Next_NE [(.t 4)] [.b (.v G_Codes), .v (.int .i64)] [.v (.int .i64)] 1 1)
theorem draw_Codes_Next_J1_eqM (N : Nat) (JM : Nat) (x1 : Int) (x2 : List Int) (x3 : Int) : joinN (run (draw_Codes_Next_E N) N 1 draw_Codes_Next_C1) (JM + 1) ⟨[(0, .ptr 0 0 0), (1, .int .i64 x1)], [some (.box 0 [.lst false (.int .u8) x2, .int .i64 x3])]⟩ (finS draw_Codes_Next_NE [(.t 4)] [.b (.v G_Codes), .v (.int .i64)] [.v (.int .i64)] 1 1) =
  bif inB (W ((W (x3 + 1)) - 1)) x2.length then
  let v4 := x2.getD (W ((W (x3 + 1)) - 1)).toNat 0
  bif (decide (x1 > 256)) then
    bif (decide ((W (x3 + 1)) < (x2.length : Int))) then
      bif inB (W (x3 + 1)) x2.length then
      bif x1 == 0 then none else
      some ((W ((W ((W v4) * 256)) + (W (x2.getD (W (x3 + 1)).toNat 0)))).tmod x1, (x2, W ((W (x3 + 1)) + 1)))
      else none
    else
      bif x1 == 0 then none else
      some ((W v4).tmod x1, (x2, W (x3 + 1)))
  else
    bif x1 == 0 then none else
    some ((W v4).tmod x1, (x2, W (x3 + 1)))
  else none := by kernel_rfl
theorem draw_Codes_Next_J1_eq (N : Nat) (x1 : Int) (x2 : List Int) (x3 : Int) : draw_Codes_Next_J1 (N + 1) x1 x2 x3 =
  bif inB (W ((W (x3 + 1)) - 1)) x2.length then
  let v4 := x2.getD (W ((W (x3 + 1)) - 1)).toNat 0
  bif (decide (x1 > 256)) then
    bif (decide ((W (x3 + 1)) < (x2.length : Int))) then
      bif inB (W (x3 + 1)) x2.length then
      bif x1 == 0 then none else
      some ((W ((W ((W v4) * 256)) + (W (x2.getD (W (x3 + 1)).toNat 0)))).tmod x1, (x2, W ((W (x3 + 1)) + 1)))
      else none
    else
      bif x1 == 0 then none else
      some ((W v4).tmod x1, (x2, W (x3 + 1)))
  else
    bif x1 == 0 then none else
    some ((W v4).tmod x1, (x2, W (x3 + 1)))
  else none := draw_Codes_Next_J1_eqM (N + 1) N x1 x2 x3
def draw_Codes_Next (N : Nat) (a0 : T_Codes) (a1 : Int) : Option (Int × T_Codes) :=
  bif (decide (a1 < 1)) then
    some (0, a0)
  else
    bif (decide (a0.2 ≥ (a0.1.length : Int))) then
      some (0, a0)
    else
      draw_Codes_Next_J1 N a1 a0.1 a0.2
theorem draw_Codes_Next_fn : FnOK Tryd.prog 27 77 (fun _ : Nat => false) draw_Codes_Next_C2.er [(.t 4)] := FnOK.mk' Tryd.func27 (by kernel_rfl) (by kernel_rfl) (by kernel_rfl) (by kernel_rfl) (by kernel_rfl)
theorem draw_Codes_Next_envok (N : Nat) : EnvOK Tryd.prog (draw_Codes_Next_E N) := .nil
theorem draw_Codes_Next_sf (N : Nat) : SFOK Tryd.prog 27 [none, none] [.b (.v G_Codes), .v (.int .i64)] [.v (.int .i64)] (fun x => draw_Codes_Next N x.1 x.2) := sfOK (N := N) (p := 1) (q := 1) (ns := draw_Codes_Next_NE) mixed draw_Codes_Next_fn (draw_Codes_Next_envok N) (TC.noh_ok (by kernel_rfl)) rfl rfl rfl (fun x => by kernel_rfl)
/-! draw_Codes_Truth -/
/-! draw_Codes_One -/
def draw_Codes_One_NE : List NS := [.frzo 0, .keep [4], .out [0]]
def draw_Codes_One_C4 : TC := .ret
def draw_Codes_One_C3 : TC := (.pre [.frzo 0, .keep [4], .out [0]] draw_Codes_One_C4)
def draw_Codes_One_C2 : TC := (.seq (.rg [⟨⟨some 5, (.mov (.t 0)), none⟩, {}⟩, ⟨⟨some 6, (.mov (.t 1)), none⟩, {}⟩, ⟨⟨some 7, (.call (.c (.fn 27 [])) [(.t 5), (.t 6)]), none⟩, {}⟩, ⟨⟨some 8, (.mov (.t 1)), none⟩, {}⟩, ⟨⟨some 9, (.bin .sub (.t 8) (.c (I 1))), none⟩, {}⟩, ⟨⟨some 10, (.bin .eql (.t 7) (.t 9)), none⟩, {}⟩, ⟨⟨some 4,
  (.mov (.t 10)), none⟩, {}⟩] none) draw_Codes_One_C3)
def draw_Codes_One_C1 : TC := (.seq (.rg [⟨⟨some 4, (.mov (.c (B false))), none⟩, {}⟩] none) draw_Codes_One_C2)
def draw_Codes_One_E (N : Nat) : List (Nat × Ent) := [(27, sfE [none, none] [.b (.v G_Codes), .v (.int .i64)] [.v (.int .i64)] (fun x => draw_Codes_Next N x.1 x.2))]
def draw_Codes_One (N : Nat) (a0 : T_Codes) (a1 : Int) : Option (Bool × T_Codes) :=
  Option.bind (draw_Codes_Next N a0 a1) fun r1 =>
  some ((r1.1 == (W (a1 - 1))), r1.2)
theorem draw_Codes_One_fn : FnOK Tryd.prog 29 11 (fun _ : Nat => false) draw_Codes_One_C1.er [(.t 4)] := FnOK.mk' Tryd.func29 (by kernel_rfl) (by kernel_rfl) (by kernel_rfl) (by kernel_rfl) (by kernel_rfl)
theorem draw_Codes_One_envok (N : Nat) : EnvOK Tryd.prog (draw_Codes_One_E N) := .cons (sfE_ok (draw_Codes_Next_sf N)) (.nil)
theorem draw_Codes_One_sf (N : Nat) : SFOK Tryd.prog 29 [none, none] [.b (.v G_Codes), .v (.int .i64)] [.v .bool] (fun x => draw_Codes_One N x.1 x.2) := sfOK (N := N) (p := 1) (q := 1) (ns := draw_Codes_One_NE) mixed draw_Codes_One_fn (draw_Codes_One_envok N) (TC.noh_ok (by kernel_rfl)) rfl rfl rfl (fun x => by kernel_rfl)
/-! draw_Codes_Range -/
def draw_Codes_Range_NE : List NS := [.frzo 0, .keep [6], .out [0]]
def draw_Codes_Range_C4 : TC := .ret
def draw_Codes_Range_C3 : TC := (.pre [.frzo 0, .keep [6], .out [0]] draw_Codes_Range_C4)
def draw_Codes_Range_C2 : TC := (.seq (.rg [⟨⟨some 7, (.mov (.t 1)), none⟩, {}⟩, ⟨⟨some 8, (.mov (.t 0)), none⟩, {}⟩, ⟨⟨some 9, (.mov (.t 2)), none⟩, {}⟩, ⟨⟨some 10, (.mov (.t 1)), none⟩, {}⟩, ⟨⟨some 11, (.bin .sub (.t 9) (.t 10)), none⟩, {}⟩, ⟨⟨some 12, (.bin .add (.t 11) (.c (I 1))), none⟩, {}⟩, ⟨⟨some 13, (.call (.c (.fn 27 []))
  [(.t 8), (.t 12)]), none⟩, {}⟩, ⟨⟨some 14, (.bin .add (.t 7) (.t 13)), none⟩, {}⟩, ⟨⟨some 6, (.mov (.t 14)), none⟩, {}⟩] none) draw_Codes_Range_C3)
def draw_Codes_Range_C1 : TC := (.seq (.rg [⟨⟨some 6, (.mov (.c (I 0))), none⟩, {}⟩] none) draw_Codes_Range_C2)
def draw_Codes_Range_E (N : Nat) : List (Nat × Ent) := [(27, sfE [none, none] [.b (.v G_Codes), .v (.int .i64)] [.v (.int .i64)] (fun x => draw_Codes_Next N x.1 x.2))]
def draw_Codes_Range (N : Nat) (a0 : T_Codes) (a1 : Int) (a2 : Int) : Option (Int × T_Codes) :=
  Option.bind (draw_Codes_Next N a0 (W ((W (a2 - a1)) + 1))) fun r1 =>
  some (W (a1 + r1.1), r1.2)
theorem draw_Codes_Range_fn : FnOK Tryd.prog 30 15 (fun _ : Nat => false) draw_Codes_Range_C1.er [(.t 6)] := FnOK.mk' Tryd.func30 (by kernel_rfl) (by kernel_rfl) (by kernel_rfl) (by kernel_rfl) (by kernel_rfl)
theorem draw_Codes_Range_envok (N : Nat) : EnvOK Tryd.prog (draw_Codes_Range_E N) := .cons (sfE_ok (draw_Codes_Next_sf N)) (.nil)
theorem draw_Codes_Range_sf (N : Nat) : SFOK Tryd.prog 30 [none, none, none] [.b (.v G_Codes), .v (.int .i64), .v (.int .i64)] [.v (.int .i64)] (fun x => draw_Codes_Range N x.1 x.2.1 x.2.2) := sfOK (N := N) (p := 1) (q := 1) (ns := draw_Codes_Range_NE) mixed draw_Codes_Range_fn (draw_Codes_Range_envok N) (TC.noh_ok (by kernel_rfl)) rfl rfl rfl (fun x => by kernel_rfl)
/-! law19_values -/
/-! draw_Mod -/
def draw_Mod_C5 : TC := .ret
def draw_Mod_C3 : TC := (.cond (.t 6) (.seq (.rg [⟨⟨some 4, (.mov (.c (I 0))), none⟩, {}⟩] none) draw_Mod_C5) .skip)
def draw_Mod_C7 : TC := (.cond (.t 11) (.rg [⟨⟨some 12, (.mov (.t 0)), none⟩, {}⟩, ⟨⟨some 13, (.mov (.t 1)), none⟩, {}⟩, ⟨⟨some 14, (.bin .add (.t 12) (.t 13)), none⟩, {}⟩, ⟨⟨some 0, (.mov (.t 14)), none⟩, {}⟩] none) .skip)
def draw_Mod_C9 : TC := .ret
def draw_Mod_C8 : TC := (.seq (.rg [⟨⟨some 15, (.mov (.t 0)), none⟩, {}⟩, ⟨⟨some 4, (.mov (.t 15)), none⟩, {}⟩] none) draw_Mod_C9)
def draw_Mod_C6 : TC := (.seq (.seq (.rg [⟨⟨some 10, (.mov (.t 0)), none⟩, {}⟩, ⟨⟨some 11, (.bin .lss (.t 10) (.c (I 0))), none⟩, {}⟩] none) draw_Mod_C7) draw_Mod_C8)
def draw_Mod_C4 : TC := (.seq (.rg [⟨⟨some 7, (.mov (.t 0)), none⟩, {}⟩, ⟨⟨some 8, (.mov (.t 1)), none⟩, {}⟩, ⟨⟨some 9, (.bin .rem (.t 7) (.t 8)), none⟩, {}⟩, ⟨⟨some 0, (.mov (.t 9)), none⟩, {}⟩] none) draw_Mod_C6)
def draw_Mod_C2 : TC := (.seq (.seq (.rg [⟨⟨some 5, (.mov (.t 1)), none⟩, {}⟩, ⟨⟨some 6, (.bin .lss (.t 5) (.c (I 1))), none⟩, {}⟩] none) draw_Mod_C3) draw_Mod_C4)
def draw_Mod_C1 : TC := (.seq (.rg [⟨⟨some 4, (.mov (.c (I 0))), none⟩, {}⟩] none) draw_Mod_C2)
def draw_Mod_E (N : Nat) : List (Nat × Ent) := []
def draw_Mod (N : Nat) (a0 : Int) (a1 : Int) : Option Int :=
  bif (decide (a1 < 1)) then
    some 0
  else
    bif a1 == 0 then none else
    bif (decide ((a0.tmod a1) < 0)) then
      some (W ((a0.tmod a1) + a1))
    else
      some (a0.tmod a1)
theorem draw_Mod_fn : FnOK Tryd.prog 21 16 (fun _ : Nat => false) draw_Mod_C1.er [(.t 4)] := FnOK.mk' Tryd.func21 (by kernel_rfl) (by kernel_rfl) (by kernel_rfl) (by kernel_rfl) (by kernel_rfl)
theorem draw_Mod_envok (N : Nat) : EnvOK Tryd.prog (draw_Mod_E N) := .nil
theorem draw_Mod_pure (N : Nat) : PureOK Tryd.prog 21 [(.int .i64), (.int .i64)] [(.int .i64)] (fun x => draw_Mod N x.1 x.2) := pureOK (N := N) mixed draw_Mod_fn (draw_Mod_envok N) (TC.noh_ok (by kernel_rfl)) rfl (fun x => by kernel_rfl)
/-! draw_Codes_Rule -/
def draw_Codes_Rule_NE : List NS := [.own 6 G_RuleNode, .frzo 0, .keep [6], .out [0]]
def draw_Codes_Rule_N1 : List NS := [.wk 7 (.list G_RuleNode), .wk 8 (.list G_RuleNode), .keep [0, 7, 8, 9], .cmp]
def draw_Codes_Rule_C5 : TC := (.cond (.t 45) .skip (.exit 0))
def draw_Codes_Rule_C10 : TC := (.cond (.t 53) (.rg [⟨⟨some 54, (.mov (.t 8)), none⟩, {}⟩, ⟨⟨some 55, (.mov (.t 9)), none⟩, {}⟩, ⟨⟨some 56, (.iadrS 4 (.t 54) (.t 55)), none⟩, {}⟩, ⟨⟨some 57, (.fadr 2 (.t 56)), none⟩, {}⟩, ⟨⟨some 58, (.load false 1 (.t 57)), none⟩, {}⟩, ⟨⟨some 59, (.mov (.t 7)), none⟩, {}⟩, ⟨⟨some 60, (.len (.t
  59)), none⟩, {}⟩, ⟨⟨some 61, (.bin .add (.t 58) (.t 60)), none⟩, {}⟩, ⟨⟨some 62, (.iadrS 4 (.t 54) (.t 55)), none⟩, {}⟩, ⟨⟨some 63, (.fadr 2 (.t 62)), none⟩, {}⟩, ⟨⟨none, (.store 1 (.t 63) (.t 61)), none⟩, {}⟩] none) .skip)
def draw_Codes_Rule_C18 : TC := (.cond (.t 77) (.rg [⟨⟨some 78, (.mov (.t 8)), none⟩, {}⟩, ⟨⟨some 79, (.mov (.t 9)), none⟩, {}⟩, ⟨⟨some 80, (.iadrS 4 (.t 78) (.t 79)), none⟩, {}⟩, ⟨⟨some 81, (.fadr 3 (.t 80)), none⟩, {}⟩, ⟨⟨some 82, (.load false 1 (.t 81)), none⟩, {}⟩, ⟨⟨some 83, (.mov (.t 7)), none⟩, {}⟩, ⟨⟨some 84, (.len (.t
  83)), none⟩, {}⟩, ⟨⟨some 85, (.bin .add (.t 82) (.t 84)), none⟩, {}⟩, ⟨⟨some 86, (.iadrS 4 (.t 78) (.t 79)), none⟩, {}⟩, ⟨⟨some 87, (.fadr 3 (.t 86)), none⟩, {}⟩, ⟨⟨none, (.store 1 (.t 87) (.t 85)), none⟩, {}⟩] none) .skip)
def draw_Codes_Rule_C11 : TC := (.seq (.rg [⟨⟨some 64, (.mov (.t 8)), none⟩, {}⟩, ⟨⟨some 65, (.mov (.t 9)), none⟩, {}⟩, ⟨⟨some 66, (.iadrS 4 (.t 64) (.t 65)), none⟩, {}⟩, ⟨⟨some 67, (.fadr 0 (.t 66)), none⟩, {}⟩, ⟨⟨some 68, (.load false 1 (.t 67)), none⟩, {}⟩, ⟨⟨some 69, (.bin .eql (.t 68) (.c (I 3))), none⟩, {}⟩, ⟨⟨some 70, (.mov
  (.t 69)), none⟩, {}⟩, ⟨⟨some 71, (.mov (.t 8)), some (70, false)⟩, {}⟩, ⟨⟨some 72, (.mov (.t 9)), some (70, false)⟩, {}⟩, ⟨⟨some 73, (.iadrS 4 (.t 71) (.t 72)), some (70, false)⟩, {}⟩, ⟨⟨some 74, (.fadr 0 (.t 73)), some (70, false)⟩, {}⟩, ⟨⟨some 75, (.load false 1 (.t 74)), some (70, false)⟩, {}⟩,
  ⟨⟨some 76, (.bin .eql (.t 75) (.c (I 4))), some (70, false)⟩, {}⟩, ⟨⟨some 77, (.pick (.t 70) (.c (B true)) (.t 76)), none⟩, {}⟩] none) draw_Codes_Rule_C18)
def draw_Codes_Rule_C12 : TC := (.rg [⟨⟨some 46, (.mov (.t 9)), none⟩, {}⟩, ⟨⟨some 47, (.bin .add (.t 46) (.c (I 1))), none⟩, {}⟩, ⟨⟨some 9, (.mov (.t 47)), none⟩, {}⟩] none)
def draw_Codes_Rule_C6 : TC := (.seq (.block 1 (.seq (.seq (.rg [⟨⟨some 48, (.mov (.t 8)), none⟩, {}⟩, ⟨⟨some 49, (.mov (.t 9)), none⟩, {}⟩, ⟨⟨some 50, (.iadrS 4 (.t 48) (.t 49)), none⟩, {}⟩, ⟨⟨some 51, (.fadr 0 (.t 50)), none⟩, {}⟩, ⟨⟨some 52, (.load false 1 (.t 51)), none⟩, {}⟩, ⟨⟨some 53, (.bin .neq (.t 52) (.c (I 1))), none⟩,
  {}⟩] none) draw_Codes_Rule_C10) draw_Codes_Rule_C11)) draw_Codes_Rule_C12)
def draw_Codes_Rule_C1 : TC := (.seq (.seq (.rg [⟨⟨some 42, (.mov (.t 9)), none⟩, {}⟩, ⟨⟨some 43, (.mov (.t 8)), none⟩, {}⟩, ⟨⟨some 44, (.len (.t 43)), none⟩, {}⟩, ⟨⟨some 45, (.bin .lss (.t 42) (.t 44)), none⟩, {}⟩] none) draw_Codes_Rule_C5) draw_Codes_Rule_C6)
def draw_Codes_Rule_C19 : TC := .ret
def draw_Codes_Rule_C13 : TC := (.pre [.own 6 G_RuleNode, .frzo 0, .keep [6], .out [0]] draw_Codes_Rule_C19)
def draw_Codes_Rule_C7 : TC := (.seq (.rgw [([⟨⟨some 93, (.mov (.t 7)), none⟩, {}⟩, ⟨⟨some 94, (.mov (.t 8)), none⟩, {}⟩], [.sl 7]), ([⟨⟨some 95, (.app 4 32 (.t 93) (.t 94)), none⟩, {}⟩, ⟨⟨some 96, (.mov (.t 0)), none⟩, {}⟩, ⟨⟨some 97, (.call (.c (.fn 30 [])) [(.t 96), (.c (I 3)), (.c (I 4))]), none⟩, {}⟩, ⟨⟨some 98, (.mov (.t
  7)), none⟩, {}⟩, ⟨⟨some 99, (.len (.t 98)), none⟩, {}⟩, ⟨⟨some 100, (.bin .sub (.t 99) (.c (I 1))), none⟩, {}⟩, ⟨⟨some 101, (.mov (.t 10)), none⟩, {}⟩, ⟨⟨some 102, (.bin .sub (.t 101) (.c (I 1))), none⟩, {}⟩, ⟨⟨some 103, (.build [(I 0), (I 0), (I 0), (I 0)] [(0, (1, (.t 97))), (2, (1, (.t 100))),
  (3, (1, (.t 102)))]), none⟩, {}⟩, ⟨⟨some 104, (.bslice false 4 [(I 0), (I 0), (I 0), (I 0)] 1 [(0, (.t 103))]), none⟩, ⟨G_RuleNode, none, []⟩⟩, ⟨⟨some 105, (.app 4 32 (.t 95) (.t 104)), none⟩, {}⟩, ⟨⟨some 6, (.mov (.t 105)), none⟩, {}⟩], [])]) draw_Codes_Rule_C13)
def draw_Codes_Rule_C2 : TC := (.seq (.rg [⟨⟨some 88, (.mov (.t 7)), none⟩, {}⟩, ⟨⟨some 89, (.len (.t 88)), none⟩, {}⟩, ⟨⟨some 90, (.mov (.t 8)), none⟩, {}⟩, ⟨⟨some 91, (.len (.t 90)), none⟩, {}⟩, ⟨⟨some 92, (.bin .add (.t 89) (.t 91)), none⟩, {}⟩, ⟨⟨some 10, (.mov (.t 92)), none⟩, {}⟩] none) draw_Codes_Rule_C7)
def draw_Codes_Rule_C23 : TC := .ret
def draw_Codes_Rule_C20 : TC := (.pre [.own 6 G_RuleNode, .frzo 0, .keep [6], .out [0]] draw_Codes_Rule_C23)
def draw_Codes_Rule_C14 : TC := (.cond (.t 29) (.seq (.rg [⟨⟨some 30, (.mov (.t 7)), none⟩, {}⟩, ⟨⟨some 31, (.mov (.t 7)), none⟩, {}⟩, ⟨⟨some 32, (.len (.t 31)), none⟩, {}⟩, ⟨⟨some 33, (.bin .sub (.t 32) (.c (I 1))), none⟩, {}⟩, ⟨⟨some 34, (.build [(I 0), (I 0), (I 0), (I 0)] [(0, (1, (.c (I 2)))), (2, (1, (.t 33)))]), none⟩, {}⟩,
  ⟨⟨some 35, (.bslice false 4 [(I 0), (I 0), (I 0), (I 0)] 1 [(0, (.t 34))]), none⟩, ⟨G_RuleNode, none, []⟩⟩, ⟨⟨some 36, (.app 4 32 (.t 30) (.t 35)), none⟩, {}⟩, ⟨⟨some 6, (.mov (.t 36)), none⟩, {}⟩] none) draw_Codes_Rule_C20) .skip)
def draw_Codes_Rule_C24 : TC := (.block 0 (.loop draw_Codes_Rule_N1 draw_Codes_Rule_C1))
def draw_Codes_Rule_C21 : TC := (.seq (.seq (.rg [⟨⟨some 9, (.mov (.c (I 0))), none⟩, {}⟩] none) draw_Codes_Rule_C24) draw_Codes_Rule_C2)
def draw_Codes_Rule_C15 : TC := (.seq (.rg [⟨⟨some 37, (.mov (.t 0)), none⟩, {}⟩, ⟨⟨some 38, (.mov (.t 1)), none⟩, {}⟩, ⟨⟨some 39, (.mov (.t 2)), none⟩, {}⟩, ⟨⟨some 40, (.bin .sub (.t 39) (.c (I 1))), none⟩, {}⟩, ⟨⟨some 41, (.call (.c (.fn 26 [])) [(.t 37), (.t 38), (.t 40)]), none⟩, {}⟩, ⟨⟨some 8, (.mov (.t 41)), none⟩, {}⟩] none)
  draw_Codes_Rule_C21)
def draw_Codes_Rule_C8 : TC := (.seq (.seq (.rg [⟨⟨some 28, (.mov (.t 0)), none⟩, {}⟩, ⟨⟨some 29, (.call (.c (.fn 29 [])) [(.t 28), (.c (I 4))]), none⟩, {}⟩] none) draw_Codes_Rule_C14) draw_Codes_Rule_C15)
def draw_Codes_Rule_C3 : TC := (.seq (.rg [⟨⟨some 23, (.mov (.t 0)), none⟩, {}⟩, ⟨⟨some 24, (.mov (.t 1)), none⟩, {}⟩, ⟨⟨some 25, (.mov (.t 2)), none⟩, {}⟩, ⟨⟨some 26, (.bin .sub (.t 25) (.c (I 1))), none⟩, {}⟩, ⟨⟨some 27, (.call (.c (.fn 26 [])) [(.t 23), (.t 24), (.t 26)]), none⟩, {}⟩, ⟨⟨some 7, (.mov (.t 27)), none⟩, {}⟩] none)
  draw_Codes_Rule_C8)
def draw_Codes_Rule_C25 : TC := .ret
def draw_Codes_Rule_C22 : TC := (.pre [.own 6 G_RuleNode, .frzo 0, .keep [6], .out [0]] draw_Codes_Rule_C25)
def draw_Codes_Rule_C16 : TC := (.cond (.t 17) (.seq (.rg [⟨⟨some 18, (.mov (.t 0)), none⟩, {}⟩, ⟨⟨some 19, (.mov (.t 1)), none⟩, {}⟩, ⟨⟨some 20, (.call (.c (.fn 27 [])) [(.t 18), (.t 19)]), none⟩, {}⟩, ⟨⟨some 21, (.build [(I 0), (I 0), (I 0), (I 0)] [(0, (1, (.c (I 1)))), (1, (1, (.t 20)))]), none⟩, {}⟩, ⟨⟨some 22, (.bslice true 4
  [(I 0), (I 0), (I 0), (I 0)] 1 [(0, (.t 21))]), none⟩, ⟨G_RuleNode, none, []⟩⟩, ⟨⟨some 6, (.mov (.t 22)), none⟩, {}⟩] none) draw_Codes_Rule_C22) .skip)
def draw_Codes_Rule_C17 : TC := (.join [.keep [0, 1, 2], .cmp] draw_Codes_Rule_C3)
def draw_Codes_Rule_C9 : TC := (.seq (.seq (.rg [⟨⟨some 11, (.mov (.t 2)), none⟩, {}⟩, ⟨⟨some 12, (.bin .lss (.t 11) (.c (I 1))), none⟩, {}⟩, ⟨⟨some 13, (.mov (.t 12)), none⟩, {}⟩, ⟨⟨some 14, (.mov (.t 0)), some (13, false)⟩, {}⟩, ⟨⟨some 15, (.call (.c (.fn 27 [])) [(.t 14), (.c (I 3))]), some (13, false)⟩, {}⟩, ⟨⟨some 16, (.bin
  .eql (.t 15) (.c (I 0))), some (13, false)⟩, {}⟩, ⟨⟨some 17, (.pick (.t 13) (.c (B true)) (.t 16)), none⟩, {}⟩] none) draw_Codes_Rule_C16) draw_Codes_Rule_C17)
def draw_Codes_Rule_C4 : TC := (.seq (.rg [⟨⟨some 6, (.mov (.c (.lst true []))), none⟩, {}⟩] none) draw_Codes_Rule_C9)
def draw_Codes_Rule_E (N : Nat) (self : T_Codes → Int → Int → Option ((List T_RuleNode) × T_Codes)) : List (Nat × Ent) := [(27, sfE [none, none] [.b (.v G_Codes), .v (.int .i64)] [.v (.int .i64)] (fun x => draw_Codes_Next N x.1 x.2)), (26, sfE [none, none, none] [.b (.v G_Codes), .v (.int .i64), .v (.int .i64)] [.o (.a G_RuleNode)] (fun x => self x.1 x.2.1 x.2.2)), (29, sfE [none, none] [.b (.v G_Codes), .v (.int .i64)] [.v .bool] (fun x => draw_Codes_One N x.1 x.2)), (30, sfE [none, none, none] [.b (.v G_Codes), .v (.int .i64), .v (.int .i64)] [.v (.int .i64)] (fun x => draw_Codes_Range N x.1 x.2.1 x.2.2))]
def draw_Codes_Rule_L1 (N : Nat) (self : T_Codes → Int → Int → Option ((List T_RuleNode) × T_Codes)) (n : Nat) (x13 : Int) (x14 : List Int) (x15 : Int) (x16 : List T_RuleNode) (x17 : List T_RuleNode) : Option ((List T_RuleNode) × T_Codes) := loopN (normI 1 draw_Codes_Rule_N1) (run (draw_Codes_Rule_E N self) N 1 draw_Codes_Rule_C1) n ⟨[(0, .ptr 0 0 0), (7, .whole 1), (8, .whole 2), (9, .int .i64 x13)], [some (.box 0 [.lst false (.int .u8) x14, .int .i64 x15]), some (.arr G_RuleNode x16), some (.arr G_RuleNode x17)]⟩ (blkK 0 (seqK (run (draw_Codes_Rule_E N self) N 1 draw_Codes_Rule_C2) (finS draw_Codes_Rule_NE [(.t 6)] [.b (.v G_Codes), .v (.int .i64), .v (.int .i64)] [.o (.a G_RuleNode)] 1 1)))
def draw_Codes_Rule_J1 (N : Nat) (self : T_Codes → Int → Int → Option ((List T_RuleNode) × T_Codes)) (x4 : Int) (x5 : Int) (x6 : List Int) (x7 : Int) : Option ((List T_RuleNode) × T_Codes) := joinN (run (draw_Codes_Rule_E N self) N 1 draw_Codes_Rule_C3) N ⟨[(0, .ptr 0 0 0), (1, .int .i64 x4), (2, .int .i64 x5)], [some (.box 0 [.lst false (.int .u8) x6, .int .i64 x7])]⟩ (finS draw_Codes_Rule_NE [(.t 6)] [.b (.v G_Codes), .v (.int .i64), .v (.int .i64)] [.o (.a G_RuleNode)] 1 1)
theorem draw_Codes_Rule_L1_succ (N : Nat) (self : T_Codes → Int → Int → Option ((List T_RuleNode) × T_Codes)) (n1 : Nat) (x13 : Int) (x14 : List Int) (x15 : Int) (x16 : List T_RuleNode) (x17 : List T_RuleNode) : draw_Codes_Rule_L1 N self (n1 + 1) x13 x14 x15 x16 x17 =
  bif (decide (x13 < (x17.length : Int))) then
    bif inB x13 x17.length then
    bif ((x17.getD x13.toNat D_RuleNode).1 != 1) then
      bif inB x13 x17.length then
      bif inB x13 x17.length then
      let v21 := x17.getD x13.toNat D_RuleNode
      let v22 := x17.set x13.toNat (v21.1, (v21.2.1, ((W ((x17.getD x13.toNat D_RuleNode).2.2.1 + (x16.length : Int))), v21.2.2.2)))
      bif inB x13 v22.length then
      bif ((v22.getD x13.toNat D_RuleNode).1 == 3) then
        bif inB x13 v22.length then
        bif inB x13 v22.length then
        let v26 := v22.getD x13.toNat D_RuleNode
        draw_Codes_Rule_L1 N self n1 (W (x13 + 1)) x14 x15 x16 (v22.set x13.toNat (v26.1, (v26.2.1, (v26.2.2.1, (W ((v22.getD x13.toNat D_RuleNode).2.2.2 + (x16.length : Int)))))))
        else none
        else none
      else
        bif inB x13 v22.length then
        bif ((v22.getD x13.toNat D_RuleNode).1 == 4) then
          bif inB x13 v22.length then
          bif inB x13 v22.length then
          let v36 := v22.getD x13.toNat D_RuleNode
          draw_Codes_Rule_L1 N self n1 (W (x13 + 1)) x14 x15 x16 (v22.set x13.toNat (v36.1, (v36.2.1, (v36.2.2.1, (W ((v22.getD x13.toNat D_RuleNode).2.2.2 + (x16.length : Int)))))))
          else none
          else none
        else
          draw_Codes_Rule_L1 N self n1 (W (x13 + 1)) x14 x15 x16 v22
        else none
      else none
      else none
      else none
    else
      bif inB x13 x17.length then
      bif ((x17.getD x13.toNat D_RuleNode).1 == 3) then
        bif inB x13 x17.length then
        bif inB x13 x17.length then
        let v51 := x17.getD x13.toNat D_RuleNode
        draw_Codes_Rule_L1 N self n1 (W (x13 + 1)) x14 x15 x16 (x17.set x13.toNat (v51.1, (v51.2.1, (v51.2.2.1, (W ((x17.getD x13.toNat D_RuleNode).2.2.2 + (x16.length : Int)))))))
        else none
        else none
      else
        bif inB x13 x17.length then
        bif ((x17.getD x13.toNat D_RuleNode).1 == 4) then
          bif inB x13 x17.length then
          bif inB x13 x17.length then
          let v61 := x17.getD x13.toNat D_RuleNode
          draw_Codes_Rule_L1 N self n1 (W (x13 + 1)) x14 x15 x16 (x17.set x13.toNat (v61.1, (v61.2.1, (v61.2.2.1, (W ((x17.getD x13.toNat D_RuleNode).2.2.2 + (x16.length : Int)))))))
          else none
          else none
        else
          draw_Codes_Rule_L1 N self n1 (W (x13 + 1)) x14 x15 x16 x17
        else none
      else none
    else none
  else
    bif fitsB (x16.length + x17.length) 32 then
    Option.bind (draw_Codes_Range N (x14, x15) 3 4) fun r75 =>
    bif fitsB ((x16 ++ x17).length + 1) 32 then
    some (((x16 ++ x17) ++ [(r75.1, (0, ((W ((x16.length : Int) - 1)), W ((W ((x16.length : Int) + (x17.length : Int))) - 1))))]), r75.2)
    else none
    else none := by kernel_rfl
theorem draw_Codes_Rule_J1_eqM (N : Nat) (self : T_Codes → Int → Int → Option ((List T_RuleNode) × T_Codes)) (JM : Nat) (x4 : Int) (x5 : Int) (x6 : List Int) (x7 : Int) : joinN (run (draw_Codes_Rule_E N self) N 1 draw_Codes_Rule_C3) (JM + 1) ⟨[(0, .ptr 0 0 0), (1, .int .i64 x4), (2, .int .i64 x5)], [some (.box 0 [.lst false (.int .u8) x6, .int .i64 x7])]⟩ (finS draw_Codes_Rule_NE [(.t 6)] [.b (.v G_Codes), .v (.int .i64), .v (.int .i64)] [.o (.a G_RuleNode)] 1 1) =
  Option.bind (self (x6, x7) x4 (W (x5 - 1))) fun r8 =>
  Option.bind (draw_Codes_One N r8.2 4) fun r9 =>
  bif r9.1 then
    bif fitsB (r8.1.length + 1) 32 then
    some ((r8.1 ++ [(2, (0, ((W ((r8.1.length : Int) - 1)), 0)))]), r9.2)
    else none
  else
    Option.bind (self r9.2 x4 (W (x5 - 1))) fun r12 =>
    draw_Codes_Rule_L1 N self N 0 r12.2.1 r12.2.2 r8.1 r12.1 := by kernel_rfl
theorem draw_Codes_Rule_J1_eq (N : Nat) (self : T_Codes → Int → Int → Option ((List T_RuleNode) × T_Codes)) (x4 : Int) (x5 : Int) (x6 : List Int) (x7 : Int) : draw_Codes_Rule_J1 (N + 1) self x4 x5 x6 x7 =
  Option.bind (self (x6, x7) x4 (W (x5 - 1))) fun r8 =>
  Option.bind (draw_Codes_One (N + 1) r8.2 4) fun r9 =>
  bif r9.1 then
    bif fitsB (r8.1.length + 1) 32 then
    some ((r8.1 ++ [(2, (0, ((W ((r8.1.length : Int) - 1)), 0)))]), r9.2)
    else none
  else
    Option.bind (self r9.2 x4 (W (x5 - 1))) fun r12 =>
    draw_Codes_Rule_L1 (N + 1) self (N + 1) 0 r12.2.1 r12.2.2 r8.1 r12.1 := draw_Codes_Rule_J1_eqM (N + 1) self N x4 x5 x6 x7
def draw_Codes_Rule_R (N : Nat) (self : T_Codes → Int → Int → Option ((List T_RuleNode) × T_Codes)) (a0 : T_Codes) (a1 : Int) (a2 : Int) : Option ((List T_RuleNode) × T_Codes) :=
  bif (decide (a2 < 1)) then
    Option.bind (draw_Codes_Next N a0 a1) fun r1 =>
    some ([(1, (r1.1, (0, 0)))], r1.2)
  else
    Option.bind (draw_Codes_Next N a0 3) fun r2 =>
    bif (r2.1 == 0) then
      Option.bind (draw_Codes_Next N r2.2 a1) fun r3 =>
      some ([(1, (r3.1, (0, 0)))], r3.2)
    else
      draw_Codes_Rule_J1 N self a1 a2 r2.2.1 r2.2.2
def draw_Codes_Rule_M (N : Nat) : Nat → T_Codes → Int → Int → Option ((List T_RuleNode) × T_Codes)
  | 0, _, _, _ => none
  | n + 1, a0, a1, a2 => draw_Codes_Rule_R N (draw_Codes_Rule_M N n) a0 a1 a2
theorem draw_Codes_Rule_M_succ (N n : Nat) (a0 : T_Codes) (a1 : Int) (a2 : Int) : draw_Codes_Rule_M N (n + 1) a0 a1 a2 = draw_Codes_Rule_R N (draw_Codes_Rule_M N n) a0 a1 a2 := rfl
def draw_Codes_Rule (N : Nat) (a0 : T_Codes) (a1 : Int) (a2 : Int) : Option ((List T_RuleNode) × T_Codes) := draw_Codes_Rule_M N N a0 a1 a2
theorem draw_Codes_Rule_fn : FnOK Tryd.prog 26 106 (fun t : Nat => Nat.beq t 22) draw_Codes_Rule_C4.er [(.t 6)] := FnOK.mk' Tryd.func26 (by kernel_rfl) (by kernel_rfl) (by kernel_rfl) (by kernel_rfl) (by kernel_rfl)
theorem draw_Codes_Rule_envok (N : Nat) (self : T_Codes → Int → Int → Option ((List T_RuleNode) × T_Codes)) (hself : SFOK Tryd.prog 26 [none, none, none] [.b (.v G_Codes), .v (.int .i64), .v (.int .i64)] [.o (.a G_RuleNode)] (fun x => self x.1 x.2.1 x.2.2)) : EnvOK Tryd.prog (draw_Codes_Rule_E N self) := .cons (sfE_ok (draw_Codes_Next_sf N)) (.cons (sfE_ok hself) (.cons (sfE_ok (draw_Codes_One_sf N)) (.cons (sfE_ok (draw_Codes_Range_sf N)) (.nil))))
theorem draw_Codes_Rule_sfs (N : Nat) : ∀ n, SFOK Tryd.prog 26 [none, none, none] [.b (.v G_Codes), .v (.int .i64), .v (.int .i64)] [.o (.a G_RuleNode)] (fun x => draw_Codes_Rule_M N n x.1 x.2.1 x.2.2)
  | 0 => fun x y z h => by cases h
  | n + 1 => sfOK (N := N) (p := 1) (q := 1) (ns := draw_Codes_Rule_NE) mixed draw_Codes_Rule_fn (draw_Codes_Rule_envok N (draw_Codes_Rule_M N n) (draw_Codes_Rule_sfs N n)) (TC.noh_ok (by kernel_rfl)) rfl rfl rfl (fun x => by kernel_rfl)
theorem draw_Codes_Rule_sf (N : Nat) : SFOK Tryd.prog 26 [none, none, none] [.b (.v G_Codes), .v (.int .i64), .v (.int .i64)] [.o (.a G_RuleNode)] (fun x => draw_Codes_Rule N x.1 x.2.1 x.2.2) := draw_Codes_Rule_sfs N N
/-! law19_made -/
def law19_made_C14 : TC := (.cond (.t 46) (.rg [⟨⟨some 48, (.mov (.t 8)), none⟩, {}⟩, ⟨⟨some 49, (.mov (.t 8)), none⟩, {}⟩, ⟨⟨some 50, (.len (.t 49)), none⟩, {}⟩, ⟨⟨some 51, (.bin .sub (.t 50) (.c (I 1))), none⟩, {}⟩, ⟨⟨some 52, (.slc 4 (.t 48) none (some (.t 51))), none⟩, {}⟩, ⟨⟨some 8, (.mov (.t 52)), none⟩, {}⟩] none)
  .skip)
def law19_made_C13 : TC := (.cond (.t 40) (.rg [⟨⟨some 42, (.mov (.t 9)), none⟩, {}⟩, ⟨⟨some 43, (.mov (.t 2)), none⟩, {}⟩, ⟨⟨some 44, (.nilck (.t 42)), none⟩, {}⟩, ⟨⟨some 45, (.fadr 3 (.t 44)), none⟩, {}⟩, ⟨⟨none, (.store 1 (.t 45) (.t 43)), none⟩, {}⟩] none) (.seq (.rg [⟨⟨some 47, (.bin .eql (.t 21) (.c (I 5))), none⟩, {}⟩,
  ⟨⟨some 46, (.mov (.t 47)), none⟩, {}⟩] none) law19_made_C14))
def law19_made_C12 : TC := (.cond (.t 34) (.rg [⟨⟨some 36, (.mov (.t 9)), none⟩, {}⟩, ⟨⟨some 37, (.mov (.t 2)), none⟩, {}⟩, ⟨⟨some 38, (.nilck (.t 36)), none⟩, {}⟩, ⟨⟨some 39, (.fadr 2 (.t 38)), none⟩, {}⟩, ⟨⟨none, (.store 1 (.t 39) (.t 37)), none⟩, {}⟩] none) (.seq (.rg [⟨⟨some 41, (.bin .eql (.t 21) (.c (I 4))), none⟩, {}⟩,
  ⟨⟨some 40, (.mov (.t 41)), none⟩, {}⟩] none) law19_made_C13))
def law19_made_C10 : TC := (.cond (.t 28) (.rg [⟨⟨some 30, (.mov (.t 9)), none⟩, {}⟩, ⟨⟨some 31, (.mov (.t 2)), none⟩, {}⟩, ⟨⟨some 32, (.nilck (.t 30)), none⟩, {}⟩, ⟨⟨some 33, (.fadr 1 (.t 32)), none⟩, {}⟩, ⟨⟨none, (.store 1 (.t 33) (.t 31)), none⟩, {}⟩] none) (.seq (.rg [⟨⟨some 35, (.bin .eql (.t 21) (.c (I 3))), none⟩, {}⟩,
  ⟨⟨some 34, (.mov (.t 35)), none⟩, {}⟩] none) law19_made_C12))
def law19_made_C8 : TC := (.cond (.t 22) (.rg [⟨⟨some 24, (.mov (.t 9)), none⟩, {}⟩, ⟨⟨some 25, (.mov (.t 2)), none⟩, {}⟩, ⟨⟨some 26, (.nilck (.t 24)), none⟩, {}⟩, ⟨⟨some 27, (.fadr 0 (.t 26)), none⟩, {}⟩, ⟨⟨none, (.store 1 (.t 27) (.t 25)), none⟩, {}⟩] none) (.seq (.rg [⟨⟨some 29, (.bin .eql (.t 21) (.c (I 2))), none⟩, {}⟩,
  ⟨⟨some 28, (.mov (.t 29)), none⟩, {}⟩] none) law19_made_C10))
def law19_made_C6 : TC := (.block 0 (.seq (.rg [⟨⟨some 23, (.bin .eql (.t 21) (.c (I 1))), none⟩, {}⟩, ⟨⟨some 22, (.mov (.t 23)), none⟩, {}⟩] none) law19_made_C8))
def law19_made_C11 : TC := .ret
def law19_made_C9 : TC := (.pre [.frz 6] law19_made_C11)
def law19_made_C7 : TC := (.seq (.rg [⟨⟨some 53, (.mov (.t 8)), none⟩, {}⟩, ⟨⟨some 6, (.mov (.t 53)), none⟩, {}⟩] none) law19_made_C9)
def law19_made_C5 : TC := (.seq (.seq (.rg [⟨⟨some 20, (.mov (.t 7)), none⟩, {}⟩, ⟨⟨some 21, (.call (.c (.fn 27 [])) [(.t 20), (.c (I 9))]), none⟩, {}⟩] none) law19_made_C6) law19_made_C7)
def law19_made_C4 : TC := (.seq (.rg [⟨⟨some 14, (.mov (.t 8)), none⟩, {}⟩, ⟨⟨some 15, (.mov (.t 1)), none⟩, {}⟩, ⟨⟨some 16, (.mov (.t 8)), none⟩, {}⟩, ⟨⟨some 17, (.len (.t 16)), none⟩, {}⟩, ⟨⟨some 18, (.call (.c (.fn 21 [])) [(.t 15), (.t 17)]), none⟩, {}⟩, ⟨⟨some 19, (.iadrS 4 (.t 14) (.t 18)), none⟩, {}⟩, ⟨⟨some 9, (.mov
  (.t 19)), none⟩, {}⟩] none) law19_made_C5)
def law19_made_C3 : TC := (.seq (.rg [⟨⟨some 12, (.mov (.t 7)), none⟩, {}⟩, ⟨⟨some 13, (.call (.c (.fn 26 [])) [(.t 12), (.c (I 6)), (.c (I 4))]), none⟩, {}⟩, ⟨⟨some 8, (.mov (.t 13)), none⟩, {}⟩] none) law19_made_C4)
def law19_made_C2 : TC := (.seq (.rg [⟨⟨some 10, (.mov (.t 0)), none⟩, {}⟩, ⟨⟨some 11, (.call (.c (.fn 25 [])) [(.t 10)]), none⟩, {}⟩, ⟨⟨some 7, (.mov (.t 11)), none⟩, {}⟩] none) law19_made_C3)
def law19_made_C1 : TC := (.seq (.rg [⟨⟨some 6, (.mov (.c (.lst true []))), none⟩, {}⟩] none) law19_made_C2)
def law19_made_E (N : Nat) : List (Nat × Ent) := [(25, sfE [none] [.v (.list (.int .u8))] [.n G_Codes] (fun x => draw_New N x)), (26, sfE [none, none, none] [.b (.v G_Codes), .v (.int .i64), .v (.int .i64)] [.o (.a G_RuleNode)] (fun x => draw_Codes_Rule N x.1 x.2.1 x.2.2)), (21, pureE [(.int .i64), (.int .i64)] [(.int .i64)] (fun x => draw_Mod N x.1 x.2)), (27, sfE [none, none] [.b (.v G_Codes), .v (.int .i64)] [.v (.int .i64)] (fun x => draw_Codes_Next N x.1 x.2))]
def law19_made (N : Nat) (a0 : List Int) (a1 : Int) (a2 : Int) : Option (List T_RuleNode) :=
  Option.bind (draw_New N a0) fun r1 =>
  Option.bind (draw_Codes_Rule N r1.1 6 4) fun r2 =>
  Option.bind (draw_Mod N a1 (r2.1.length : Int)) fun r3 =>
  bif inB r3 r2.1.length then
  Option.bind (draw_Codes_Next N r2.2 9) fun r4 =>
  bif (r4.1 == 1) then
    some (r2.1.set r3.toNat (a2, (r2.1.getD r3.toNat D_RuleNode).2))
  else
    bif (r4.1 == 2) then
      let v7 := r2.1.getD r3.toNat D_RuleNode
      some (r2.1.set r3.toNat (v7.1, (a2, v7.2.2)))
    else
      bif (r4.1 == 3) then
        let v9 := r2.1.getD r3.toNat D_RuleNode
        some (r2.1.set r3.toNat (v9.1, (v9.2.1, (a2, v9.2.2.2))))
      else
        bif (r4.1 == 4) then
          let v11 := r2.1.getD r3.toNat D_RuleNode
          some (r2.1.set r3.toNat (v11.1, (v11.2.1, (v11.2.2.1, a2))))
        else
          bif (r4.1 == 5) then
            let v13 := W ((r2.1.length : Int) - 1)
            bif slB 0 v13 r2.1.length then
            some ((r2.1.drop ((0 : Int).toNat)).take (v13.toNat - (0 : Int).toNat))
            else none
          else
            some r2.1
  else none
theorem law19_made_fn : FnOK Tryd.prog 11 54 (fun _ : Nat => false) law19_made_C1.er [(.t 6)] := FnOK.mk' Tryd.func11 (by kernel_rfl) (by kernel_rfl) (by kernel_rfl) (by kernel_rfl) (by kernel_rfl)
theorem law19_made_envok (N : Nat) : EnvOK Tryd.prog (law19_made_E N) := .cons (sfE_ok (draw_New_sf N)) (.cons (sfE_ok (draw_Codes_Rule_sf N)) (.cons (pureE_ok (draw_Mod_pure N)) (.cons (sfE_ok (draw_Codes_Next_sf N)) (.nil))))
theorem law19_made_pure (N : Nat) : PureOK Tryd.prog 11 [(.list (.int .u8)), (.int .i64), (.int .i64)] [(.list G_RuleNode)] (fun x => law19_made N x.1 x.2.1 x.2.2) := pureOK (N := N) mixed law19_made_fn (law19_made_envok N) (TC.noh_ok (by kernel_rfl)) rfl (fun x => by kernel_rfl)
/-! ref19_part -/
def ref19_part_C15 : TC := .ret
def ref19_part_C12 : TC := (.cond (.t 46) (.seq (.rg [⟨⟨some 4, (.mov (.c (I (-1)))), none⟩, {}⟩, ⟨⟨some 5, (.mov (.c (I 0))), none⟩, {}⟩] none) ref19_part_C15) .skip)
def ref19_part_C16 : TC := .ret
def ref19_part_C13 : TC := (.seq (.rg [⟨⟨some 47, (.mov (.t 1)), none⟩, {}⟩, ⟨⟨some 4, (.mov (.t 47)), none⟩, {}⟩, ⟨⟨some 5, (.mov (.c (I 1))), none⟩, {}⟩] none) ref19_part_C16)
def ref19_part_C21 : TC := .ret
def ref19_part_C17 : TC := (.cond (.t 64) (.seq (.rg [⟨⟨some 4, (.mov (.c (I (-1)))), none⟩, {}⟩, ⟨⟨some 5, (.mov (.c (I 0))), none⟩, {}⟩] none) ref19_part_C21) .skip)
def ref19_part_C25 : TC := .ret
def ref19_part_C22 : TC := (.seq (.rg [⟨⟨some 72, (.mov (.t 7)), none⟩, {}⟩, ⟨⟨some 73, (.mov (.t 8)), none⟩, {}⟩, ⟨⟨some 74, (.bin .add (.t 73) (.c (I 1))), none⟩, {}⟩, ⟨⟨some 4, (.mov (.t 72)), none⟩, {}⟩, ⟨⟨some 5, (.mov (.t 74)), none⟩, {}⟩] none) ref19_part_C25)
def ref19_part_C18 : TC := (.seq (.rg [⟨⟨some 66, (.mov (.t 0)), none⟩, {}⟩, ⟨⟨some 67, (.mov (.t 1)), none⟩, {}⟩, ⟨⟨some 68, (.bin .sub (.t 67) (.c (I 1))), none⟩, {}⟩, ⟨⟨some 69, (.call (.c (.fn 41 [])) [(.t 66), (.t 68)]), none⟩, {}⟩, ⟨⟨some 65, (.mov (.t 69)), none⟩, {}⟩, ⟨⟨some 70, (.extr 0 (.t 65)), none⟩, {}⟩, ⟨⟨some
  71, (.extr 1 (.t 65)), none⟩, {}⟩, ⟨⟨some 7, (.mov (.t 70)), none⟩, {}⟩, ⟨⟨some 8, (.mov (.t 71)), none⟩, {}⟩] none) ref19_part_C22)
def ref19_part_C19 : TC := (.cond (.t 75) .skip (.rg [⟨⟨some 77, (.bin .eql (.t 26) (.c (I 4))), none⟩, {}⟩, ⟨⟨some 75, (.mov (.t 77)), none⟩, {}⟩] none))
def ref19_part_C26 : TC := .ret
def ref19_part_C23 : TC := (.cond (.t 87) (.seq (.rg [⟨⟨some 4, (.mov (.c (I (-1)))), none⟩, {}⟩, ⟨⟨some 5, (.mov (.c (I 0))), none⟩, {}⟩] none) ref19_part_C26) .skip)
def ref19_part_C30 : TC := .ret
def ref19_part_C28 : TC := (.cond (.t 103) (.seq (.rg [⟨⟨some 4, (.mov (.c (I (-1)))), none⟩, {}⟩, ⟨⟨some 5, (.mov (.c (I 0))), none⟩, {}⟩] none) ref19_part_C30) .skip)
def ref19_part_C32 : TC := .ret
def ref19_part_C31 : TC := (.seq (.rg [⟨⟨some 111, (.mov (.t 11)), none⟩, {}⟩, ⟨⟨some 112, (.mov (.t 12)), none⟩, {}⟩, ⟨⟨some 113, (.mov (.t 10)), none⟩, {}⟩, ⟨⟨some 114, (.mm true [(.t 112), (.t 113)]), none⟩, {}⟩, ⟨⟨some 115, (.bin .add (.t 114) (.c (I 1))), none⟩, {}⟩, ⟨⟨some 4, (.mov (.t 111)), none⟩, {}⟩, ⟨⟨some 5, (.mov
  (.t 115)), none⟩, {}⟩] none) ref19_part_C32)
def ref19_part_C29 : TC := (.seq (.rg [⟨⟨some 105, (.mov (.t 0)), none⟩, {}⟩, ⟨⟨some 106, (.mov (.t 9)), none⟩, {}⟩, ⟨⟨some 107, (.bin .sub (.t 106) (.c (I 1))), none⟩, {}⟩, ⟨⟨some 108, (.call (.c (.fn 41 [])) [(.t 105), (.t 107)]), none⟩, {}⟩, ⟨⟨some 104, (.mov (.t 108)), none⟩, {}⟩, ⟨⟨some 109, (.extr 0 (.t 104)), none⟩,
  {}⟩, ⟨⟨some 110, (.extr 1 (.t 104)), none⟩, {}⟩, ⟨⟨some 11, (.mov (.t 109)), none⟩, {}⟩, ⟨⟨some 12, (.mov (.t 110)), none⟩, {}⟩] none) ref19_part_C31)
def ref19_part_C27 : TC := (.seq (.seq (.rg [⟨⟨some 95, (.mov (.t 9)), none⟩, {}⟩, ⟨⟨some 96, (.bin .lss (.t 95) (.c (I 1))), none⟩, {}⟩, ⟨⟨some 97, (.mov (.t 96)), none⟩, {}⟩, ⟨⟨some 98, (.fadr 2 (.t 6)), some (97, false)⟩, {}⟩, ⟨⟨some 99, (.load false 1 (.t 98)), some (97, false)⟩, {}⟩, ⟨⟨some 100, (.mov (.t 9)), some (97,
  false)⟩, {}⟩, ⟨⟨some 101, (.bin .sub (.t 100) (.c (I 1))), some (97, false)⟩, {}⟩, ⟨⟨some 102, (.bin .neq (.t 99) (.t 101)), some (97, false)⟩, {}⟩, ⟨⟨some 103, (.pick (.t 97) (.c (B true)) (.t 102)), none⟩, {}⟩] none) ref19_part_C28) ref19_part_C29)
def ref19_part_C24 : TC := (.seq (.rg [⟨⟨some 89, (.mov (.t 0)), none⟩, {}⟩, ⟨⟨some 90, (.mov (.t 1)), none⟩, {}⟩, ⟨⟨some 91, (.bin .sub (.t 90) (.c (I 1))), none⟩, {}⟩, ⟨⟨some 92, (.call (.c (.fn 41 [])) [(.t 89), (.t 91)]), none⟩, {}⟩, ⟨⟨some 88, (.mov (.t 92)), none⟩, {}⟩, ⟨⟨some 93, (.extr 0 (.t 88)), none⟩, {}⟩, ⟨⟨some
  94, (.extr 1 (.t 88)), none⟩, {}⟩, ⟨⟨some 9, (.mov (.t 93)), none⟩, {}⟩, ⟨⟨some 10, (.mov (.t 94)), none⟩, {}⟩] none) ref19_part_C27)
def ref19_part_C20 : TC := (.cond (.t 75) (.seq (.seq (.rg [⟨⟨some 78, (.fadr 1 (.t 6)), none⟩, {}⟩, ⟨⟨some 79, (.load false 1 (.t 78)), none⟩, {}⟩, ⟨⟨some 80, (.bin .neq (.t 79) (.c (I 0))), none⟩, {}⟩, ⟨⟨some 81, (.mov (.t 80)), none⟩, {}⟩, ⟨⟨some 82, (.fadr 3 (.t 6)), some (81, false)⟩, {}⟩, ⟨⟨some 83, (.load false 1 (.t
  82)), some (81, false)⟩, {}⟩, ⟨⟨some 84, (.mov (.t 1)), some (81, false)⟩, {}⟩, ⟨⟨some 85, (.bin .sub (.t 84) (.c (I 1))), some (81, false)⟩, {}⟩, ⟨⟨some 86, (.bin .neq (.t 83) (.t 85)), some (81, false)⟩, {}⟩, ⟨⟨some 87, (.pick (.t 81) (.c (B true)) (.t 86)), none⟩, {}⟩] none) ref19_part_C23)
  ref19_part_C24) .skip)
def ref19_part_C14 : TC := (.cond (.t 48) (.seq (.seq (.rg [⟨⟨some 50, (.fadr 1 (.t 6)), none⟩, {}⟩, ⟨⟨some 51, (.load false 1 (.t 50)), none⟩, {}⟩, ⟨⟨some 52, (.bin .neq (.t 51) (.c (I 0))), none⟩, {}⟩, ⟨⟨some 53, (.mov (.t 52)), none⟩, {}⟩, ⟨⟨some 54, (.fadr 3 (.t 6)), some (53, false)⟩, {}⟩, ⟨⟨some 55, (.load false 1 (.t
  54)), some (53, false)⟩, {}⟩, ⟨⟨some 56, (.bin .neq (.t 55) (.c (I 0))), some (53, false)⟩, {}⟩, ⟨⟨some 57, (.pick (.t 53) (.c (B true)) (.t 56)), none⟩, {}⟩, ⟨⟨some 58, (.mov (.t 57)), none⟩, {}⟩, ⟨⟨some 59, (.fadr 2 (.t 6)), some (58, false)⟩, {}⟩, ⟨⟨some 60, (.load false 1 (.t 59)), some (58,
  false)⟩, {}⟩, ⟨⟨some 61, (.mov (.t 1)), some (58, false)⟩, {}⟩, ⟨⟨some 62, (.bin .sub (.t 61) (.c (I 1))), some (58, false)⟩, {}⟩, ⟨⟨some 63, (.bin .neq (.t 60) (.t 62)), some (58, false)⟩, {}⟩, ⟨⟨some 64, (.pick (.t 58) (.c (B true)) (.t 63)), none⟩, {}⟩] none) ref19_part_C17) ref19_part_C18)
  (.seq (.seq (.rg [⟨⟨some 76, (.bin .eql (.t 26) (.c (I 3))), none⟩, {}⟩, ⟨⟨some 75, (.mov (.t 76)), none⟩, {}⟩] none) ref19_part_C19) ref19_part_C20))
def ref19_part_C9 : TC := (.cond (.t 27) (.seq (.seq (.rg [⟨⟨some 29, (.fadr 1 (.t 6)), none⟩, {}⟩, ⟨⟨some 30, (.load false 1 (.t 29)), none⟩, {}⟩, ⟨⟨some 31, (.bin .lss (.t 30) (.c (I 0))), none⟩, {}⟩, ⟨⟨some 32, (.mov (.t 31)), none⟩, {}⟩, ⟨⟨some 33, (.fadr 1 (.t 6)), some (32, false)⟩, {}⟩, ⟨⟨some 34, (.load false 1 (.t
  33)), some (32, false)⟩, {}⟩, ⟨⟨some 35, (.bin .geq (.t 34) (.c (I 64))), some (32, false)⟩, {}⟩, ⟨⟨some 36, (.pick (.t 32) (.c (B true)) (.t 35)), none⟩, {}⟩, ⟨⟨some 37, (.mov (.t 36)), none⟩, {}⟩, ⟨⟨some 38, (.fadr 2 (.t 6)), some (37, false)⟩, {}⟩, ⟨⟨some 39, (.load false 1 (.t 38)), some (37,
  false)⟩, {}⟩, ⟨⟨some 40, (.bin .neq (.t 39) (.c (I 0))), some (37, false)⟩, {}⟩, ⟨⟨some 41, (.pick (.t 37) (.c (B true)) (.t 40)), none⟩, {}⟩, ⟨⟨some 42, (.mov (.t 41)), none⟩, {}⟩, ⟨⟨some 43, (.fadr 3 (.t 6)), some (42, false)⟩, {}⟩, ⟨⟨some 44, (.load false 1 (.t 43)), some (42, false)⟩, {}⟩,
  ⟨⟨some 45, (.bin .neq (.t 44) (.c (I 0))), some (42, false)⟩, {}⟩, ⟨⟨some 46, (.pick (.t 42) (.c (B true)) (.t 45)), none⟩, {}⟩] none) ref19_part_C12) ref19_part_C13) (.seq (.rg [⟨⟨some 49, (.bin .eql (.t 26) (.c (I 2))), none⟩, {}⟩, ⟨⟨some 48, (.mov (.t 49)), none⟩, {}⟩] none) ref19_part_C14))
def ref19_part_C5 : TC := (.block 0 (.seq (.rg [⟨⟨some 28, (.bin .eql (.t 26) (.c (I 1))), none⟩, {}⟩, ⟨⟨some 27, (.mov (.t 28)), none⟩, {}⟩] none) ref19_part_C9))
def ref19_part_C10 : TC := .ret
def ref19_part_C6 : TC := (.seq (.rg [⟨⟨some 4, (.mov (.c (I (-1)))), none⟩, {}⟩, ⟨⟨some 5, (.mov (.c (I 0))), none⟩, {}⟩] none) ref19_part_C10)
def ref19_part_C3 : TC := (.seq (.seq (.rg [⟨⟨some 25, (.fadr 0 (.t 6)), none⟩, {}⟩, ⟨⟨some 26, (.load false 1 (.t 25)), none⟩, {}⟩] none) ref19_part_C5) ref19_part_C6)
def ref19_part_C1 : TC := (.seq (.rg [⟨⟨some 21, (.mov (.t 0)), none⟩, {}⟩, ⟨⟨some 22, (.mov (.t 1)), none⟩, {}⟩, ⟨⟨some 23, (.iadrS 4 (.t 21) (.t 22)), none⟩, {}⟩, ⟨⟨some 24, (.load true 4 (.t 23)), none⟩, {}⟩, ⟨⟨some 6, (.alloc [(I 0), (I 0), (I 0), (I 0)]), none⟩, {}⟩, ⟨⟨none, (.store 4 (.t 6) (.t 24)), none⟩, {}⟩] none)
  ref19_part_C3)
def ref19_part_C11 : TC := .ret
def ref19_part_C7 : TC := (.cond (.t 20) (.seq (.rg [⟨⟨some 4, (.mov (.c (I (-1)))), none⟩, {}⟩, ⟨⟨some 5, (.mov (.c (I 0))), none⟩, {}⟩] none) ref19_part_C11) .skip)
def ref19_part_C8 : TC := (.join [.wk 0 (.list G_RuleNode), .keep [0, 1], .cmp] ref19_part_C1)
def ref19_part_C4 : TC := (.seq (.seq (.rg [⟨⟨some 13, (.mov (.t 1)), none⟩, {}⟩, ⟨⟨some 14, (.bin .lss (.t 13) (.c (I 0))), none⟩, {}⟩, ⟨⟨some 15, (.mov (.t 14)), none⟩, {}⟩, ⟨⟨some 16, (.mov (.t 1)), some (15, false)⟩, {}⟩, ⟨⟨some 17, (.mov (.t 0)), some (15, false)⟩, {}⟩, ⟨⟨some 18, (.len (.t 17)), some (15, false)⟩, {}⟩,
  ⟨⟨some 19, (.bin .geq (.t 16) (.t 18)), some (15, false)⟩, {}⟩, ⟨⟨some 20, (.pick (.t 15) (.c (B true)) (.t 19)), none⟩, {}⟩] none) ref19_part_C7) ref19_part_C8)
def ref19_part_C2 : TC := (.seq (.rg [⟨⟨some 4, (.mov (.c (I 0))), none⟩, {}⟩, ⟨⟨some 5, (.mov (.c (I 0))), none⟩, {}⟩] none) ref19_part_C4)
def ref19_part_E (N : Nat) (self : (List T_RuleNode) → Int → Option (Int × Int)) : List (Nat × Ent) := [(41, pureE [(.list G_RuleNode), (.int .i64)] [(.int .i64), (.int .i64)] (fun x => self x.1 x.2))]
def ref19_part_J1 (N : Nat) (self : (List T_RuleNode) → Int → Option (Int × Int)) (x1 : List T_RuleNode) (x2 : Int) : Option (Int × Int) := joinN (run (ref19_part_E N self) N 0 ref19_part_C1) N ⟨[(0, .lst false G_RuleNode x1), (1, .int .i64 x2)], []⟩ (fin [(.t 4), (.t 5)] [(.int .i64), (.int .i64)])
theorem ref19_part_J1_eqM (N : Nat) (self : (List T_RuleNode) → Int → Option (Int × Int)) (JM : Nat) (x1 : List T_RuleNode) (x2 : Int) : joinN (run (ref19_part_E N self) N 0 ref19_part_C1) (JM + 1) ⟨[(0, .lst false G_RuleNode x1), (1, .int .i64 x2)], []⟩ (fin [(.t 4), (.t 5)] [(.int .i64), (.int .i64)]) =
  bif inB x2 x1.length then
  let v3 := x1.getD x2.toNat D_RuleNode
  bif (v3.1 == 1) then
    bif (decide (v3.2.1 < 0)) then
      some ((-1), 0)
    else
      bif (decide (v3.2.1 ≥ 64)) then
        some ((-1), 0)
      else
        bif (v3.2.2.1 != 0) then
          some ((-1), 0)
        else
          bif (v3.2.2.2 != 0) then
            some ((-1), 0)
          else
            some (x2, 1)
  else
    bif (v3.1 == 2) then
      bif (v3.2.1 != 0) then
        some ((-1), 0)
      else
        bif (v3.2.2.2 != 0) then
          some ((-1), 0)
        else
          bif (v3.2.2.1 != (W (x2 - 1))) then
            some ((-1), 0)
          else
            Option.bind (self x1 (W (x2 - 1))) fun r4 =>
            some (r4.1, W (r4.2 + 1))
    else
      bif (v3.1 == 3) then
        bif (v3.2.1 != 0) then
          some ((-1), 0)
        else
          bif (v3.2.2.2 != (W (x2 - 1))) then
            some ((-1), 0)
          else
            Option.bind (self x1 (W (x2 - 1))) fun r5 =>
            bif (decide (r5.1 < 1)) then
              some ((-1), 0)
            else
              bif (v3.2.2.1 != (W (r5.1 - 1))) then
                some ((-1), 0)
              else
                Option.bind (self x1 (W (r5.1 - 1))) fun r6 =>
                some (r6.1, W ((max r6.2 r5.2) + 1))
      else
        bif (v3.1 == 4) then
          bif (v3.2.1 != 0) then
            some ((-1), 0)
          else
            bif (v3.2.2.2 != (W (x2 - 1))) then
              some ((-1), 0)
            else
              Option.bind (self x1 (W (x2 - 1))) fun r7 =>
              bif (decide (r7.1 < 1)) then
                some ((-1), 0)
              else
                bif (v3.2.2.1 != (W (r7.1 - 1))) then
                  some ((-1), 0)
                else
                  Option.bind (self x1 (W (r7.1 - 1))) fun r8 =>
                  some (r8.1, W ((max r8.2 r7.2) + 1))
        else
          some ((-1), 0)
  else none := by kernel_rfl
theorem ref19_part_J1_eq (N : Nat) (self : (List T_RuleNode) → Int → Option (Int × Int)) (x1 : List T_RuleNode) (x2 : Int) : ref19_part_J1 (N + 1) self x1 x2 =
  bif inB x2 x1.length then
  let v3 := x1.getD x2.toNat D_RuleNode
  bif (v3.1 == 1) then
    bif (decide (v3.2.1 < 0)) then
      some ((-1), 0)
    else
      bif (decide (v3.2.1 ≥ 64)) then
        some ((-1), 0)
      else
        bif (v3.2.2.1 != 0) then
          some ((-1), 0)
        else
          bif (v3.2.2.2 != 0) then
            some ((-1), 0)
          else
            some (x2, 1)
  else
    bif (v3.1 == 2) then
      bif (v3.2.1 != 0) then
        some ((-1), 0)
      else
        bif (v3.2.2.2 != 0) then
          some ((-1), 0)
        else
          bif (v3.2.2.1 != (W (x2 - 1))) then
            some ((-1), 0)
          else
            Option.bind (self x1 (W (x2 - 1))) fun r4 =>
            some (r4.1, W (r4.2 + 1))
    else
      bif (v3.1 == 3) then
        bif (v3.2.1 != 0) then
          some ((-1), 0)
        else
          bif (v3.2.2.2 != (W (x2 - 1))) then
            some ((-1), 0)
          else
            Option.bind (self x1 (W (x2 - 1))) fun r5 =>
            bif (decide (r5.1 < 1)) then
              some ((-1), 0)
            else
              bif (v3.2.2.1 != (W (r5.1 - 1))) then
                some ((-1), 0)
              else
                Option.bind (self x1 (W (r5.1 - 1))) fun r6 =>
                some (r6.1, W ((max r6.2 r5.2) + 1))
      else
        bif (v3.1 == 4) then
          bif (v3.2.1 != 0) then
            some ((-1), 0)
          else
            bif (v3.2.2.2 != (W (x2 - 1))) then
              some ((-1), 0)
            else
              Option.bind (self x1 (W (x2 - 1))) fun r7 =>
              bif (decide (r7.1 < 1)) then
                some ((-1), 0)
              else
                bif (v3.2.2.1 != (W (r7.1 - 1))) then
                  some ((-1), 0)
                else
                  Option.bind (self x1 (W (r7.1 - 1))) fun r8 =>
                  some (r8.1, W ((max r8.2 r7.2) + 1))
        else
          some ((-1), 0)
  else none := ref19_part_J1_eqM (N + 1) self N x1 x2
def ref19_part_R (N : Nat) (self : (List T_RuleNode) → Int → Option (Int × Int)) (a0 : List T_RuleNode) (a1 : Int) : Option (Int × Int) :=
  bif (decide (a1 < 0)) then
    some ((-1), 0)
  else
    bif (decide (a1 ≥ (a0.length : Int))) then
      some ((-1), 0)
    else
      ref19_part_J1 N self a0 a1
def ref19_part_M (N : Nat) : Nat → (List T_RuleNode) → Int → Option (Int × Int)
  | 0, _, _ => none
  | n + 1, a0, a1 => ref19_part_R N (ref19_part_M N n) a0 a1
theorem ref19_part_M_succ (N n : Nat) (a0 : List T_RuleNode) (a1 : Int) : ref19_part_M N (n + 1) a0 a1 = ref19_part_R N (ref19_part_M N n) a0 a1 := rfl
def ref19_part (N : Nat) (a0 : List T_RuleNode) (a1 : Int) : Option (Int × Int) := ref19_part_M N N a0 a1
theorem ref19_part_fn : FnOK Tryd.prog 41 116 (fun _ : Nat => false) ref19_part_C2.er [(.t 4), (.t 5)] := FnOK.mk' Tryd.func41 (by kernel_rfl) (by kernel_rfl) (by kernel_rfl) (by kernel_rfl) (by kernel_rfl)
theorem ref19_part_envok (N : Nat) (self : (List T_RuleNode) → Int → Option (Int × Int)) (hself : PureOK Tryd.prog 41 [(.list G_RuleNode), (.int .i64)] [(.int .i64), (.int .i64)] (fun x => self x.1 x.2)) : EnvOK Tryd.prog (ref19_part_E N self) := .cons (pureE_ok hself) (.nil)
theorem ref19_part_pures (N : Nat) : ∀ n, PureOK Tryd.prog 41 [(.list G_RuleNode), (.int .i64)] [(.int .i64), (.int .i64)] (fun x => ref19_part_M N n x.1 x.2)
  | 0 => fun x y h => by cases h
  | n + 1 => pureOK (N := N) mixed ref19_part_fn (ref19_part_envok N (ref19_part_M N n) (ref19_part_pures N n)) (TC.noh_ok (by kernel_rfl)) rfl (fun x => by kernel_rfl)
theorem ref19_part_pure (N : Nat) : PureOK Tryd.prog 41 [(.list G_RuleNode), (.int .i64)] [(.int .i64), (.int .i64)] (fun x => ref19_part N x.1 x.2) := ref19_part_pures N N
/-! ref19_Right -/
def ref19_Right_C5 : TC := .ret
def ref19_Right_C3 : TC := (.cond (.t 12) (.seq (.rg [⟨⟨some 2, (.mov (.c (B false))), none⟩, {}⟩] none) ref19_Right_C5) .skip)
def ref19_Right_C7 : TC := .ret
def ref19_Right_C6 : TC := (.seq (.rg [⟨⟨some 21, (.mov (.t 3)), none⟩, {}⟩, ⟨⟨some 22, (.bin .eql (.t 21) (.c (I 0))), none⟩, {}⟩, ⟨⟨some 23, (.mov (.t 22)), none⟩, {}⟩, ⟨⟨some 24, (.mov (.t 4)), some (23, true)⟩, {}⟩, ⟨⟨some 25, (.bin .leq (.t 24) (.c (I 16))), some (23, true)⟩, {}⟩, ⟨⟨some 26, (.pick (.t 23) (.t 25) (.c (B
  false))), none⟩, {}⟩, ⟨⟨some 2, (.mov (.t 26)), none⟩, {}⟩] none) ref19_Right_C7)
def ref19_Right_C4 : TC := (.seq (.rg [⟨⟨some 14, (.mov (.t 0)), none⟩, {}⟩, ⟨⟨some 15, (.mov (.t 0)), none⟩, {}⟩, ⟨⟨some 16, (.len (.t 15)), none⟩, {}⟩, ⟨⟨some 17, (.bin .sub (.t 16) (.c (I 1))), none⟩, {}⟩, ⟨⟨some 18, (.call (.c (.fn 41 [])) [(.t 14), (.t 17)]), none⟩, {}⟩, ⟨⟨some 13, (.mov (.t 18)), none⟩, {}⟩, ⟨⟨some 19,
  (.extr 0 (.t 13)), none⟩, {}⟩, ⟨⟨some 20, (.extr 1 (.t 13)), none⟩, {}⟩, ⟨⟨some 3, (.mov (.t 19)), none⟩, {}⟩, ⟨⟨some 4, (.mov (.t 20)), none⟩, {}⟩] none) ref19_Right_C6)
def ref19_Right_C2 : TC := (.seq (.seq (.rg [⟨⟨some 5, (.mov (.t 0)), none⟩, {}⟩, ⟨⟨some 6, (.len (.t 5)), none⟩, {}⟩, ⟨⟨some 7, (.bin .lss (.t 6) (.c (I 1))), none⟩, {}⟩, ⟨⟨some 8, (.mov (.t 7)), none⟩, {}⟩, ⟨⟨some 9, (.mov (.t 0)), some (8, false)⟩, {}⟩, ⟨⟨some 10, (.len (.t 9)), some (8, false)⟩, {}⟩, ⟨⟨some 11, (.bin .gtr
  (.t 10) (.c (I 64))), some (8, false)⟩, {}⟩, ⟨⟨some 12, (.pick (.t 8) (.c (B true)) (.t 11)), none⟩, {}⟩] none) ref19_Right_C3) ref19_Right_C4)
def ref19_Right_C1 : TC := (.seq (.rg [⟨⟨some 2, (.mov (.c (B false))), none⟩, {}⟩] none) ref19_Right_C2)
def ref19_Right_E (N : Nat) : List (Nat × Ent) := [(41, pureE [(.list G_RuleNode), (.int .i64)] [(.int .i64), (.int .i64)] (fun x => ref19_part N x.1 x.2))]
def ref19_Right (N : Nat) (a0 : List T_RuleNode) : Option Bool :=
  bif (decide ((a0.length : Int) < 1)) then
    some false
  else
    bif (decide ((a0.length : Int) > 64)) then
      some false
    else
      Option.bind (ref19_part N a0 (W ((a0.length : Int) - 1))) fun r2 =>
      bif (r2.1 == 0) then
        some (decide (r2.2 ≤ 16))
      else
        some false
theorem ref19_Right_fn : FnOK Tryd.prog 32 27 (fun _ : Nat => false) ref19_Right_C1.er [(.t 2)] := FnOK.mk' Tryd.func32 (by kernel_rfl) (by kernel_rfl) (by kernel_rfl) (by kernel_rfl) (by kernel_rfl)
theorem ref19_Right_envok (N : Nat) : EnvOK Tryd.prog (ref19_Right_E N) := .cons (pureE_ok (ref19_part_pure N)) (.nil)
theorem ref19_Right_pure (N : Nat) : PureOK Tryd.prog 32 [(.list G_RuleNode)] [.bool] (fun x => ref19_Right N x) := pureOK (N := N) mixed ref19_Right_fn (ref19_Right_envok N) (TC.noh_ok (by kernel_rfl)) rfl (fun x => by kernel_rfl)
/-! ref19_Check -/
/-! ref19_Uses -/
/-! ref19_value -/
/-! ref19_Eval -/
/-! law19_RuleChecks -/
/-! ref19_text -/
def ref19_text_C8 : TC := .ret
def ref19_text_C10 : TC := .ret
def ref19_text_C12 : TC := .ret
def ref19_text_C11 : TC := (.cond (.t 25) (.seq (.rg [⟨⟨some 27, (.mov (.t 0)), none⟩, {}⟩, ⟨⟨some 28, (.fadr 2 (.t 5)), none⟩, {}⟩, ⟨⟨some 29, (.load false 1 (.t 28)), none⟩, {}⟩, ⟨⟨some 30, (.call (.c (.fn 35 [])) [(.t 27), (.t 29)]), none⟩, {}⟩, ⟨⟨some 31, (.bin .add (.c (.v (.string ⟨⟨[40]⟩⟩))) (.t 30)), none⟩, {}⟩, ⟨⟨some
  32, (.bin .add (.t 31) (.c (.v (.string ⟨⟨[32, 38, 32]⟩⟩)))), none⟩, {}⟩, ⟨⟨some 33, (.mov (.t 0)), none⟩, {}⟩, ⟨⟨some 34, (.fadr 3 (.t 5)), none⟩, {}⟩, ⟨⟨some 35, (.load false 1 (.t 34)), none⟩, {}⟩, ⟨⟨some 36, (.call (.c (.fn 35 [])) [(.t 33), (.t 35)]), none⟩, {}⟩, ⟨⟨some 37, (.bin .add (.t 32)
  (.t 36)), none⟩, {}⟩, ⟨⟨some 38, (.bin .add (.t 37) (.c (.v (.string ⟨⟨[41]⟩⟩)))), none⟩, {}⟩, ⟨⟨some 4, (.mov (.t 38)), none⟩, {}⟩] (some [(3, 7), (3, 8)])) ref19_text_C12) .skip)
def ref19_text_C9 : TC := (.cond (.t 18) (.seq (.rg [⟨⟨some 20, (.mov (.t 0)), none⟩, {}⟩, ⟨⟨some 21, (.fadr 2 (.t 5)), none⟩, {}⟩, ⟨⟨some 22, (.load false 1 (.t 21)), none⟩, {}⟩, ⟨⟨some 23, (.call (.c (.fn 35 [])) [(.t 20), (.t 22)]), none⟩, {}⟩, ⟨⟨some 24, (.bin .add (.c (.v (.string ⟨⟨[33]⟩⟩))) (.t 23)), none⟩, {}⟩, ⟨⟨some
  4, (.mov (.t 24)), none⟩, {}⟩] none) ref19_text_C10) (.seq (.rg [⟨⟨some 26, (.bin .eql (.t 11) (.c (I 3))), none⟩, {}⟩, ⟨⟨some 25, (.mov (.t 26)), none⟩, {}⟩] none) ref19_text_C11))
def ref19_text_C6 : TC := (.cond (.t 12) (.seq (.rg [⟨⟨some 14, (.fadr 1 (.t 5)), none⟩, {}⟩, ⟨⟨some 15, (.load false 1 (.t 14)), none⟩, {}⟩, ⟨⟨some 16, (.call (.c (.fn 34 [])) [(.t 15)]), none⟩, {}⟩, ⟨⟨some 17, (.bin .add (.c (.v (.string ⟨⟨[99]⟩⟩))) (.t 16)), none⟩, {}⟩, ⟨⟨some 4, (.mov (.t 17)), none⟩, {}⟩] none)
  ref19_text_C8) (.seq (.rg [⟨⟨some 19, (.bin .eql (.t 11) (.c (I 2))), none⟩, {}⟩, ⟨⟨some 18, (.mov (.t 19)), none⟩, {}⟩] none) ref19_text_C9))
def ref19_text_C4 : TC := (.block 0 (.seq (.rg [⟨⟨some 13, (.bin .eql (.t 11) (.c (I 1))), none⟩, {}⟩, ⟨⟨some 12, (.mov (.t 13)), none⟩, {}⟩] none) ref19_text_C6))
def ref19_text_C7 : TC := .ret
def ref19_text_C5 : TC := (.seq (.rg [⟨⟨some 39, (.mov (.t 0)), none⟩, {}⟩, ⟨⟨some 40, (.fadr 2 (.t 5)), none⟩, {}⟩, ⟨⟨some 41, (.load false 1 (.t 40)), none⟩, {}⟩, ⟨⟨some 42, (.call (.c (.fn 35 [])) [(.t 39), (.t 41)]), none⟩, {}⟩, ⟨⟨some 43, (.bin .add (.c (.v (.string ⟨⟨[40]⟩⟩))) (.t 42)), none⟩, {}⟩, ⟨⟨some 44, (.bin .add
  (.t 43) (.c (.v (.string ⟨⟨[32, 124, 32]⟩⟩)))), none⟩, {}⟩, ⟨⟨some 45, (.mov (.t 0)), none⟩, {}⟩, ⟨⟨some 46, (.fadr 3 (.t 5)), none⟩, {}⟩, ⟨⟨some 47, (.load false 1 (.t 46)), none⟩, {}⟩, ⟨⟨some 48, (.call (.c (.fn 35 [])) [(.t 45), (.t 47)]), none⟩, {}⟩, ⟨⟨some 49, (.bin .add (.t 44) (.t 48)),
  none⟩, {}⟩, ⟨⟨some 50, (.bin .add (.t 49) (.c (.v (.string ⟨⟨[41]⟩⟩)))), none⟩, {}⟩, ⟨⟨some 4, (.mov (.t 50)), none⟩, {}⟩] (some [(3, 7), (3, 8)])) ref19_text_C7)
def ref19_text_C3 : TC := (.seq (.seq (.rg [⟨⟨some 10, (.fadr 0 (.t 5)), none⟩, {}⟩, ⟨⟨some 11, (.load false 1 (.t 10)), none⟩, {}⟩] none) ref19_text_C4) ref19_text_C5)
def ref19_text_C2 : TC := (.seq (.rg [⟨⟨some 6, (.mov (.t 0)), none⟩, {}⟩, ⟨⟨some 7, (.mov (.t 1)), none⟩, {}⟩, ⟨⟨some 8, (.iadrS 4 (.t 6) (.t 7)), none⟩, {}⟩, ⟨⟨some 9, (.load true 4 (.t 8)), none⟩, {}⟩, ⟨⟨some 5, (.alloc [(I 0), (I 0), (I 0), (I 0)]), none⟩, {}⟩, ⟨⟨none, (.store 4 (.t 5) (.t 9)), none⟩, {}⟩] none)
  ref19_text_C3)
def ref19_text_C1 : TC := (.seq (.rg [⟨⟨some 4, (.mov (.c (.v (.string ⟨⟨[]⟩⟩)))), none⟩, {}⟩] none) ref19_text_C2)
def ref19_text_E (N : Nat) (self : (List T_RuleNode) → Int → Option (List UInt8)) : List (Nat × Ent) := [(34, pureE [(.int .i64)] [.str] (fun x => strconv_Itoa N x)), (35, pureE [(.list G_RuleNode), (.int .i64)] [.str] (fun x => self x.1 x.2))]
def ref19_text_R (N : Nat) (self : (List T_RuleNode) → Int → Option (List UInt8)) (a0 : List T_RuleNode) (a1 : Int) : Option (List UInt8) :=
  bif inB a1 a0.length then
  let v1 := a0.getD a1.toNat D_RuleNode
  bif (v1.1 == 1) then
    Option.bind (strconv_Itoa N v1.2.1) fun r2 =>
    bif decide (([99] : List UInt8).length + r2.length ≤ 9223372036854775807) then
    some (([99] : List UInt8) ++ r2)
    else none
  else
    bif (v1.1 == 2) then
      Option.bind (self a0 v1.2.2.1) fun r4 =>
      bif decide (([33] : List UInt8).length + r4.length ≤ 9223372036854775807) then
      some (([33] : List UInt8) ++ r4)
      else none
    else
      bif (v1.1 == 3) then
        Option.bind (self a0 v1.2.2.1) fun r6 =>
        bif decide (([40] : List UInt8).length + r6.length ≤ 9223372036854775807) then
        let v7 := ([40] : List UInt8) ++ r6
        bif decide (v7.length + ([32, 38, 32] : List UInt8).length ≤ 9223372036854775807) then
        let v8 := v7 ++ ([32, 38, 32] : List UInt8)
        Option.bind (self a0 v1.2.2.2) fun r9 =>
        bif decide (v8.length + r9.length ≤ 9223372036854775807) then
        bif decide ((v8 ++ r9).length + ([41] : List UInt8).length ≤ 9223372036854775807) then
        some ((v8 ++ r9) ++ ([41] : List UInt8))
        else none
        else none
        else none
        else none
      else
        Option.bind (self a0 v1.2.2.1) fun r12 =>
        bif decide (([40] : List UInt8).length + r12.length ≤ 9223372036854775807) then
        let v13 := ([40] : List UInt8) ++ r12
        bif decide (v13.length + ([32, 124, 32] : List UInt8).length ≤ 9223372036854775807) then
        let v14 := v13 ++ ([32, 124, 32] : List UInt8)
        Option.bind (self a0 v1.2.2.2) fun r15 =>
        bif decide (v14.length + r15.length ≤ 9223372036854775807) then
        bif decide ((v14 ++ r15).length + ([41] : List UInt8).length ≤ 9223372036854775807) then
        some ((v14 ++ r15) ++ ([41] : List UInt8))
        else none
        else none
        else none
        else none
  else none
def ref19_text_M (N : Nat) : Nat → (List T_RuleNode) → Int → Option (List UInt8)
  | 0, _, _ => none
  | n + 1, a0, a1 => ref19_text_R N (ref19_text_M N n) a0 a1
theorem ref19_text_M_succ (N n : Nat) (a0 : List T_RuleNode) (a1 : Int) : ref19_text_M N (n + 1) a0 a1 = ref19_text_R N (ref19_text_M N n) a0 a1 := rfl
def ref19_text (N : Nat) (a0 : List T_RuleNode) (a1 : Int) : Option (List UInt8) := ref19_text_M N N a0 a1
theorem ref19_text_fn : FnOK Tryd.prog 35 51 (fun _ : Nat => false) ref19_text_C1.er [(.t 4)] := FnOK.mk' Tryd.func35 (by kernel_rfl) (by kernel_rfl) (by kernel_rfl) (by kernel_rfl) (by kernel_rfl)
theorem ref19_text_envok (N : Nat) (self : (List T_RuleNode) → Int → Option (List UInt8)) (hself : PureOK Tryd.prog 35 [(.list G_RuleNode), (.int .i64)] [.str] (fun x => self x.1 x.2)) : EnvOK Tryd.prog (ref19_text_E N self) := .cons (pureE_ok (strconv_Itoa_pure N)) (.cons (pureE_ok hself) (.nil))
theorem ref19_text_pures (N : Nat) : ∀ n, PureOK Tryd.prog 35 [(.list G_RuleNode), (.int .i64)] [.str] (fun x => ref19_text_M N n x.1 x.2)
  | 0 => fun x y h => by cases h
  | n + 1 => pureOK (N := N) mixed ref19_text_fn (ref19_text_envok N (ref19_text_M N n) (ref19_text_pures N n)) (TC.noh_ok (by kernel_rfl)) rfl (fun x => by kernel_rfl)
theorem ref19_text_pure (N : Nat) : PureOK Tryd.prog 35 [(.list G_RuleNode), (.int .i64)] [.str] (fun x => ref19_text N x.1 x.2) := ref19_text_pures N N
/-! ref19_Print -/
def ref19_Print_C5 : TC := .ret
def ref19_Print_C3 : TC := (.cond (.t 6) (.seq (.rg [⟨⟨some 2, (.mov (.c (.v (.string ⟨⟨[]⟩⟩)))), none⟩, {}⟩, ⟨⟨some 3, (.mov (.c (I 18))), none⟩, {}⟩] none) ref19_Print_C5) .skip)
def ref19_Print_C6 : TC := .ret
def ref19_Print_C4 : TC := (.seq (.rg [⟨⟨some 7, (.mov (.t 0)), none⟩, {}⟩, ⟨⟨some 8, (.mov (.t 0)), none⟩, {}⟩, ⟨⟨some 9, (.len (.t 8)), none⟩, {}⟩, ⟨⟨some 10, (.bin .sub (.t 9) (.c (I 1))), none⟩, {}⟩, ⟨⟨some 11, (.call (.c (.fn 35 [])) [(.t 7), (.t 10)]), none⟩, {}⟩, ⟨⟨some 2, (.mov (.t 11)), none⟩, {}⟩, ⟨⟨some 3, (.mov (.c
  (I 0))), none⟩, {}⟩] none) ref19_Print_C6)
def ref19_Print_C2 : TC := (.seq (.seq (.rg [⟨⟨some 4, (.mov (.t 0)), none⟩, {}⟩, ⟨⟨some 5, (.call (.c (.fn 32 [])) [(.t 4)]), none⟩, {}⟩, ⟨⟨some 6, (.un .not (.t 5)), none⟩, {}⟩] none) ref19_Print_C3) ref19_Print_C4)
def ref19_Print_C1 : TC := (.seq (.rg [⟨⟨some 2, (.mov (.c (.v (.string ⟨⟨[]⟩⟩)))), none⟩, {}⟩, ⟨⟨some 3, (.mov (.c (I 0))), none⟩, {}⟩] none) ref19_Print_C2)
def ref19_Print_E (N : Nat) : List (Nat × Ent) := [(32, pureE [(.list G_RuleNode)] [.bool] (fun x => ref19_Right N x)), (35, pureE [(.list G_RuleNode), (.int .i64)] [.str] (fun x => ref19_text N x.1 x.2))]
def ref19_Print (N : Nat) (a0 : List T_RuleNode) : Option ((List UInt8) × Int) :=
  Option.bind (ref19_Right N a0) fun r1 =>
  bif (!r1) then
    some ([], 18)
  else
    Option.bind (ref19_text N a0 (W ((a0.length : Int) - 1))) fun r3 =>
    some (r3, 0)
theorem ref19_Print_fn : FnOK Tryd.prog 20 12 (fun _ : Nat => false) ref19_Print_C1.er [(.t 2), (.t 3)] := FnOK.mk' Tryd.func20 (by kernel_rfl) (by kernel_rfl) (by kernel_rfl) (by kernel_rfl) (by kernel_rfl)
theorem ref19_Print_envok (N : Nat) : EnvOK Tryd.prog (ref19_Print_E N) := .cons (pureE_ok (ref19_Right_pure N)) (.cons (pureE_ok (ref19_text_pure N)) (.nil))
theorem ref19_Print_pure (N : Nat) : PureOK Tryd.prog 20 [(.list G_RuleNode)] [.str, (.int .i64)] (fun x => ref19_Print N x) := pureOK (N := N) mixed ref19_Print_fn (ref19_Print_envok N) (TC.noh_ok (by kernel_rfl)) rfl (fun x => by kernel_rfl)
/-! ref19_read -/
def ref19_read_NE : List NS := [.own 8 G_RuleNode, .keep [8, 9], .out []]
def ref19_read_N1 : List NS := [.wk 2 (.list G_RuleNode), .keep [0, 1, 2, 10, 11], .out []]
def ref19_read_C24 : TC := .ret
def ref19_read_C16 : TC := (.pre [.own 8 G_RuleNode, .keep [8, 9], .out []] ref19_read_C24)
def ref19_read_C8 : TC := (.cond (.t 82) (.seq (.rg [⟨⟨some 8, (.mov (.c (.lst true []))), none⟩, {}⟩, ⟨⟨some 9, (.mov (.c (I (-1)))), none⟩, {}⟩] none) ref19_read_C16) .skip)
def ref19_read_C25 : TC := .ret
def ref19_read_C17 : TC := (.pre [.own 8 G_RuleNode, .keep [8, 9], .out []] ref19_read_C25)
def ref19_read_C9 : TC := (.seq (.rg [⟨⟨some 83, (.mov (.t 2)), none⟩, {}⟩, ⟨⟨some 84, (.mov (.t 11)), none⟩, {}⟩, ⟨⟨some 85, (.build [(I 0), (I 0), (I 0), (I 0)] [(0, (1, (.c (I 1)))), (1, (1, (.t 84)))]), none⟩, {}⟩, ⟨⟨some 86, (.bslice false 4 [(I 0), (I 0), (I 0), (I 0)] 1 [(0, (.t 85))]), none⟩, ⟨G_RuleNode, none, []⟩⟩,
  ⟨⟨some 87, (.app 4 32 (.t 83) (.t 86)), none⟩, {}⟩, ⟨⟨some 88, (.mov (.t 10)), none⟩, {}⟩, ⟨⟨some 8, (.mov (.t 87)), none⟩, {}⟩, ⟨⟨some 9, (.mov (.t 88)), none⟩, {}⟩] none) ref19_read_C17)
def ref19_read_C1 : TC := (.seq (.seq (.rg [⟨⟨some 71, (.mov (.t 11)), none⟩, {}⟩, ⟨⟨some 72, (.call (.c (.fn 34 [])) [(.t 71)]), none⟩, {}⟩, ⟨⟨some 73, (.mov (.t 0)), none⟩, {}⟩, ⟨⟨some 74, (.mov (.t 1)), none⟩, {}⟩, ⟨⟨some 75, (.bin .add (.t 74) (.c (I 1))), none⟩, {}⟩, ⟨⟨some 76, (.mov (.t 10)), none⟩, {}⟩, ⟨⟨some 77,
  (.sslc (.t 73) (some (.t 75)) (some (.t 76))), none⟩, {}⟩, ⟨⟨some 78, (.bin .neq (.t 72) (.t 77)), none⟩, {}⟩, ⟨⟨some 79, (.mov (.t 78)), none⟩, {}⟩, ⟨⟨some 80, (.mov (.t 11)), some (79, false)⟩, {}⟩, ⟨⟨some 81, (.bin .geq (.t 80) (.c (I 64))), some (79, false)⟩, {}⟩, ⟨⟨some 82, (.pick (.t 79) (.c
  (B true)) (.t 81)), none⟩, {}⟩] (some [])) ref19_read_C8) ref19_read_C9)
def ref19_read_C18 : TC := .ret
def ref19_read_C10 : TC := (.pre [.own 8 G_RuleNode, .keep [8, 9], .out []] ref19_read_C18)
def ref19_read_C2 : TC := (.seq (.rg [⟨⟨some 8, (.mov (.c (.lst true []))), none⟩, {}⟩, ⟨⟨some 9, (.mov (.c (I (-1)))), none⟩, {}⟩] none) ref19_read_C10)
def ref19_read_C11 : TC := (.cond (.t 60) .skip (.exit 1))
def ref19_read_C19 : TC := (.rg [⟨⟨some 69, (.mov (.t 10)), none⟩, {}⟩, ⟨⟨some 70, (.bin .add (.t 69) (.c (I 1))), none⟩, {}⟩, ⟨⟨some 10, (.mov (.t 70)), none⟩, {}⟩] none)
def ref19_read_C12 : TC := (.block 2 (.seq (.rg [⟨⟨some 61, (.mov (.t 11)), none⟩, {}⟩, ⟨⟨some 62, (.bin .mul (.c (I 10)) (.t 61)), none⟩, {}⟩, ⟨⟨some 63, (.mov (.t 0)), none⟩, {}⟩, ⟨⟨some 64, (.mov (.t 10)), none⟩, {}⟩, ⟨⟨some 65, (.sidx (.t 63) (.t 64)), none⟩, {}⟩, ⟨⟨some 66, (.bin .sub (.t 65) (.c (.v (.int .u8 48)))),
  none⟩, {}⟩, ⟨⟨some 67, (.conv .i64 (.t 66)), none⟩, {}⟩, ⟨⟨some 68, (.bin .add (.t 62) (.t 67)), none⟩, {}⟩, ⟨⟨some 11, (.mov (.t 68)), none⟩, {}⟩] none) ref19_read_C19))
def ref19_read_C3 : TC := (.seq (.seq (.rg [⟨⟨some 39, (.mov (.t 10)), none⟩, {}⟩, ⟨⟨some 40, (.mov (.t 0)), none⟩, {}⟩, ⟨⟨some 41, (.lens (.t 40)), none⟩, {}⟩, ⟨⟨some 42, (.bin .lss (.t 39) (.t 41)), none⟩, {}⟩, ⟨⟨some 43, (.mov (.t 42)), none⟩, {}⟩, ⟨⟨some 44, (.mov (.t 10)), some (43, true)⟩, {}⟩, ⟨⟨some 45, (.mov (.t 1)),
  some (43, true)⟩, {}⟩, ⟨⟨some 46, (.bin .add (.t 45) (.c (I 4))), some (43, true)⟩, {}⟩, ⟨⟨some 47, (.bin .lss (.t 44) (.t 46)), some (43, true)⟩, {}⟩, ⟨⟨some 48, (.pick (.t 43) (.t 47) (.c (B false))), none⟩, {}⟩, ⟨⟨some 49, (.mov (.t 48)), none⟩, {}⟩, ⟨⟨some 50, (.mov (.t 0)), some (49, true)⟩,
  {}⟩, ⟨⟨some 51, (.mov (.t 10)), some (49, true)⟩, {}⟩, ⟨⟨some 52, (.sidx (.t 50) (.t 51)), some (49, true)⟩, {}⟩, ⟨⟨some 53, (.bin .geq (.t 52) (.c (.v (.int .u8 48)))), some (49, true)⟩, {}⟩, ⟨⟨some 54, (.pick (.t 49) (.t 53) (.c (B false))), none⟩, {}⟩, ⟨⟨some 55, (.mov (.t 54)), none⟩, {}⟩,
  ⟨⟨some 56, (.mov (.t 0)), some (55, true)⟩, {}⟩, ⟨⟨some 57, (.mov (.t 10)), some (55, true)⟩, {}⟩, ⟨⟨some 58, (.sidx (.t 56) (.t 57)), some (55, true)⟩, {}⟩, ⟨⟨some 59, (.bin .leq (.t 58) (.c (.v (.int .u8 57)))), some (55, true)⟩, {}⟩, ⟨⟨some 60, (.pick (.t 55) (.t 59) (.c (B false))), none⟩, {}⟩]
  none) ref19_read_C11) ref19_read_C12)
def ref19_read_C4 : TC := (.join [.wk 2 (.list G_RuleNode), .keep [0, 1, 2, 10, 11], .out []] ref19_read_C1)
def ref19_read_C36 : TC := .ret
def ref19_read_C31 : TC := (.pre [.own 8 G_RuleNode, .keep [8, 9], .out []] ref19_read_C36)
def ref19_read_C26 : TC := (.cond (.t 174) (.seq (.rg [⟨⟨some 8, (.mov (.c (.lst true []))), none⟩, {}⟩, ⟨⟨some 9, (.mov (.c (I (-1)))), none⟩, {}⟩] none) ref19_read_C31) .skip)
def ref19_read_C37 : TC := (.cond (.t 179) (.rg [⟨⟨some 18, (.mov (.c (I 4))), none⟩, {}⟩] none) .skip)
def ref19_read_C47 : TC := .ret
def ref19_read_C42 : TC := (.pre [.own 8 G_RuleNode, .keep [8, 9], .out []] ref19_read_C47)
def ref19_read_C38 : TC := (.seq (.rg [⟨⟨some 180, (.mov (.t 14)), none⟩, {}⟩, ⟨⟨some 181, (.mov (.t 18)), none⟩, {}⟩, ⟨⟨some 182, (.mov (.t 16)), none⟩, {}⟩, ⟨⟨some 183, (.mov (.t 14)), none⟩, {}⟩, ⟨⟨some 184, (.len (.t 183)), none⟩, {}⟩, ⟨⟨some 185, (.bin .sub (.t 184) (.c (I 1))), none⟩, {}⟩, ⟨⟨some 186, (.build [(I 0), (I
  0), (I 0), (I 0)] [(0, (1, (.t 181))), (2, (1, (.t 182))), (3, (1, (.t 185)))]), none⟩, {}⟩, ⟨⟨some 187, (.bslice false 4 [(I 0), (I 0), (I 0), (I 0)] 1 [(0, (.t 186))]), none⟩, ⟨G_RuleNode, none, []⟩⟩, ⟨⟨some 188, (.app 4 32 (.t 180) (.t 187)), none⟩, {}⟩, ⟨⟨some 189, (.mov (.t 17)), none⟩, {}⟩,
  ⟨⟨some 190, (.bin .add (.t 189) (.c (I 1))), none⟩, {}⟩, ⟨⟨some 8, (.mov (.t 188)), none⟩, {}⟩, ⟨⟨some 9, (.mov (.t 190)), none⟩, {}⟩] none) ref19_read_C42)
def ref19_read_C32 : TC := (.seq (.seq (.rg [⟨⟨some 175, (.mov (.t 0)), none⟩, {}⟩, ⟨⟨some 176, (.mov (.t 15)), none⟩, {}⟩, ⟨⟨some 177, (.bin .add (.t 176) (.c (I 1))), none⟩, {}⟩, ⟨⟨some 178, (.sidx (.t 175) (.t 177)), none⟩, {}⟩, ⟨⟨some 179, (.bin .eql (.t 178) (.c (.v (.int .u8 124)))), none⟩, {}⟩] none) ref19_read_C37)
  ref19_read_C38)
def ref19_read_C27 : TC := (.seq (.rg [⟨⟨some 18, (.mov (.c (I 3))), none⟩, {}⟩] none) ref19_read_C32)
def ref19_read_C20 : TC := (.seq (.seq (.rg [⟨⟨some 161, (.mov (.t 17)), none⟩, {}⟩, ⟨⟨some 162, (.bin .lss (.t 161) (.c (I 0))), none⟩, {}⟩, ⟨⟨some 163, (.mov (.t 162)), none⟩, {}⟩, ⟨⟨some 164, (.mov (.t 17)), some (163, false)⟩, {}⟩, ⟨⟨some 165, (.mov (.t 0)), some (163, false)⟩, {}⟩, ⟨⟨some 166, (.lens (.t 165)), some (163,
  false)⟩, {}⟩, ⟨⟨some 167, (.bin .geq (.t 164) (.t 166)), some (163, false)⟩, {}⟩, ⟨⟨some 168, (.pick (.t 163) (.c (B true)) (.t 167)), none⟩, {}⟩, ⟨⟨some 169, (.mov (.t 168)), none⟩, {}⟩, ⟨⟨some 170, (.mov (.t 0)), some (169, false)⟩, {}⟩, ⟨⟨some 171, (.mov (.t 17)), some (169, false)⟩, {}⟩, ⟨⟨some
  172, (.sidx (.t 170) (.t 171)), some (169, false)⟩, {}⟩, ⟨⟨some 173, (.bin .neq (.t 172) (.c (.v (.int .u8 41)))), some (169, false)⟩, {}⟩, ⟨⟨some 174, (.pick (.t 169) (.c (B true)) (.t 173)), none⟩, {}⟩] none) ref19_read_C26) ref19_read_C27)
def ref19_read_C13 : TC := (.seq (.rg [⟨⟨some 152, (.mov (.t 0)), none⟩, {}⟩, ⟨⟨some 153, (.mov (.t 15)), none⟩, {}⟩, ⟨⟨some 154, (.bin .add (.t 153) (.c (I 3))), none⟩, {}⟩, ⟨⟨some 155, (.mov (.t 14)), none⟩, {}⟩, ⟨⟨some 156, (.mov (.t 3)), none⟩, {}⟩, ⟨⟨some 157, (.bin .add (.t 156) (.c (I 1))), none⟩, {}⟩, ⟨⟨some 158,
  (.call (.c (.fn 39 [])) [(.t 152), (.t 154), (.t 155), (.t 157)]), none⟩, {}⟩, ⟨⟨some 151, (.mov (.t 158)), none⟩, {}⟩, ⟨⟨some 159, (.extr 0 (.t 151)), none⟩, {}⟩, ⟨⟨some 160, (.extr 1 (.t 151)), none⟩, {}⟩, ⟨⟨some 14, (.mov (.t 159)), none⟩, {}⟩, ⟨⟨some 17, (.mov (.t 160)), none⟩, {}⟩] none)
  ref19_read_C20)
def ref19_read_C5 : TC := (.seq (.rg [⟨⟨some 148, (.mov (.t 14)), none⟩, {}⟩, ⟨⟨some 149, (.len (.t 148)), none⟩, {}⟩, ⟨⟨some 150, (.bin .sub (.t 149) (.c (I 1))), none⟩, {}⟩, ⟨⟨some 16, (.mov (.t 150)), none⟩, {}⟩] none) ref19_read_C13)
def ref19_read_C28 : TC := (.seq (.block 1 (.loop ref19_read_N1 ref19_read_C3)) ref19_read_C4)
def ref19_read_C48 : TC := .ret
def ref19_read_C43 : TC := (.pre [.own 8 G_RuleNode, .keep [8, 9], .out []] ref19_read_C48)
def ref19_read_C39 : TC := (.cond (.t 102) (.seq (.rg [⟨⟨some 8, (.mov (.c (.lst true []))), none⟩, {}⟩, ⟨⟨some 9, (.mov (.c (I (-1)))), none⟩, {}⟩] none) ref19_read_C43) .skip)
def ref19_read_C49 : TC := .ret
def ref19_read_C44 : TC := (.pre [.own 8 G_RuleNode, .keep [8, 9], .out []] ref19_read_C49)
def ref19_read_C40 : TC := (.seq (.rg [⟨⟨some 103, (.mov (.t 12)), none⟩, {}⟩, ⟨⟨some 104, (.mov (.t 12)), none⟩, {}⟩, ⟨⟨some 105, (.len (.t 104)), none⟩, {}⟩, ⟨⟨some 106, (.bin .sub (.t 105) (.c (I 1))), none⟩, {}⟩, ⟨⟨some 107, (.build [(I 0), (I 0), (I 0), (I 0)] [(0, (1, (.c (I 2)))), (2, (1, (.t 106)))]), none⟩, {}⟩,
  ⟨⟨some 108, (.bslice false 4 [(I 0), (I 0), (I 0), (I 0)] 1 [(0, (.t 107))]), none⟩, ⟨G_RuleNode, none, []⟩⟩, ⟨⟨some 109, (.app 4 32 (.t 103) (.t 108)), none⟩, {}⟩, ⟨⟨some 110, (.mov (.t 13)), none⟩, {}⟩, ⟨⟨some 8, (.mov (.t 109)), none⟩, {}⟩, ⟨⟨some 9, (.mov (.t 110)), none⟩, {}⟩] none)
  ref19_read_C44)
def ref19_read_C33 : TC := (.seq (.seq (.rg [⟨⟨some 101, (.mov (.t 13)), none⟩, {}⟩, ⟨⟨some 102, (.bin .lss (.t 101) (.c (I 0))), none⟩, {}⟩] none) ref19_read_C39) ref19_read_C40)
def ref19_read_C51 : TC := .ret
def ref19_read_C50 : TC := (.pre [.own 8 G_RuleNode, .keep [8, 9], .out []] ref19_read_C51)
def ref19_read_C45 : TC := (.cond (.t 147) (.seq (.rg [⟨⟨some 8, (.mov (.c (.lst true []))), none⟩, {}⟩, ⟨⟨some 9, (.mov (.c (I (-1)))), none⟩, {}⟩] none) ref19_read_C50) .skip)
def ref19_read_C46 : TC := (.join [.wk 14 (.list G_RuleNode), .keep [0, 3, 14, 15], .out []] ref19_read_C5)
def ref19_read_C41 : TC := (.seq (.seq (.rg [⟨⟨some 123, (.mov (.t 15)), none⟩, {}⟩, ⟨⟨some 124, (.bin .lss (.t 123) (.c (I 0))), none⟩, {}⟩, ⟨⟨some 125, (.mov (.t 124)), none⟩, {}⟩, ⟨⟨some 126, (.mov (.t 15)), some (125, false)⟩, {}⟩, ⟨⟨some 127, (.bin .add (.t 126) (.c (I 3))), some (125, false)⟩, {}⟩, ⟨⟨some 128, (.mov (.t
  0)), some (125, false)⟩, {}⟩, ⟨⟨some 129, (.lens (.t 128)), some (125, false)⟩, {}⟩, ⟨⟨some 130, (.bin .gtr (.t 127) (.t 129)), some (125, false)⟩, {}⟩, ⟨⟨some 131, (.pick (.t 125) (.c (B true)) (.t 130)), none⟩, {}⟩, ⟨⟨some 132, (.mov (.t 131)), none⟩, {}⟩, ⟨⟨some 133, (.mov (.t 0)), some (132,
  false)⟩, {}⟩, ⟨⟨some 134, (.mov (.t 15)), some (132, false)⟩, {}⟩, ⟨⟨some 135, (.mov (.t 15)), some (132, false)⟩, {}⟩, ⟨⟨some 136, (.bin .add (.t 135) (.c (I 3))), some (132, false)⟩, {}⟩, ⟨⟨some 137, (.sslc (.t 133) (some (.t 134)) (some (.t 136))), some (132, false)⟩, {}⟩, ⟨⟨some 138, (.bin .neq
  (.t 137) (.c (.v (.string ⟨⟨[32, 38, 32]⟩⟩)))), some (132, false)⟩, {}⟩, ⟨⟨some 139, (.mov (.t 138)), some (132, false)⟩, {}⟩, ⟨⟨some 140, (.mov (.t 0)), some (139, true)⟩, {}⟩, ⟨⟨some 141, (.mov (.t 15)), some (139, true)⟩, {}⟩, ⟨⟨some 142, (.mov (.t 15)), some (139, true)⟩, {}⟩, ⟨⟨some 143, (.bin
  .add (.t 142) (.c (I 3))), some (139, true)⟩, {}⟩, ⟨⟨some 144, (.sslc (.t 140) (some (.t 141)) (some (.t 143))), some (139, true)⟩, {}⟩, ⟨⟨some 145, (.bin .neq (.t 144) (.c (.v (.string ⟨⟨[32, 124, 32]⟩⟩)))), some (139, true)⟩, {}⟩, ⟨⟨some 146, (.pick (.t 139) (.t 145) (.c (B false))), some (132,
  false)⟩, {}⟩, ⟨⟨some 147, (.pick (.t 132) (.c (B true)) (.t 146)), none⟩, {}⟩] none) ref19_read_C45) ref19_read_C46)
def ref19_read_C34 : TC := (.cond (.t 111) (.seq (.rg [⟨⟨some 114, (.mov (.t 0)), none⟩, {}⟩, ⟨⟨some 115, (.mov (.t 1)), none⟩, {}⟩, ⟨⟨some 116, (.bin .add (.t 115) (.c (I 1))), none⟩, {}⟩, ⟨⟨some 117, (.mov (.t 2)), none⟩, {}⟩, ⟨⟨some 118, (.mov (.t 3)), none⟩, {}⟩, ⟨⟨some 119, (.bin .add (.t 118) (.c (I 1))), none⟩, {}⟩,
  ⟨⟨some 120, (.call (.c (.fn 39 [])) [(.t 114), (.t 116), (.t 117), (.t 119)]), none⟩, {}⟩, ⟨⟨some 113, (.mov (.t 120)), none⟩, {}⟩, ⟨⟨some 121, (.extr 0 (.t 113)), none⟩, {}⟩, ⟨⟨some 122, (.extr 1 (.t 113)), none⟩, {}⟩, ⟨⟨some 14, (.mov (.t 121)), none⟩, {}⟩, ⟨⟨some 15, (.mov (.t 122)), none⟩, {}⟩]
  none) ref19_read_C41) .skip)
def ref19_read_C29 : TC := (.cond (.t 89) (.seq (.rg [⟨⟨some 92, (.mov (.t 0)), none⟩, {}⟩, ⟨⟨some 93, (.mov (.t 1)), none⟩, {}⟩, ⟨⟨some 94, (.bin .add (.t 93) (.c (I 1))), none⟩, {}⟩, ⟨⟨some 95, (.mov (.t 2)), none⟩, {}⟩, ⟨⟨some 96, (.mov (.t 3)), none⟩, {}⟩, ⟨⟨some 97, (.bin .add (.t 96) (.c (I 1))), none⟩, {}⟩, ⟨⟨some 98,
  (.call (.c (.fn 39 [])) [(.t 92), (.t 94), (.t 95), (.t 97)]), none⟩, {}⟩, ⟨⟨some 91, (.mov (.t 98)), none⟩, {}⟩, ⟨⟨some 99, (.extr 0 (.t 91)), none⟩, {}⟩, ⟨⟨some 100, (.extr 1 (.t 91)), none⟩, {}⟩, ⟨⟨some 12, (.mov (.t 99)), none⟩, {}⟩, ⟨⟨some 13, (.mov (.t 100)), none⟩, {}⟩] none) ref19_read_C33)
  (.seq (.rg [⟨⟨some 112, (.bin .eql (.t 34) (.c (.v (.int .u8 40)))), none⟩, {}⟩, ⟨⟨some 111, (.mov (.t 112)), none⟩, {}⟩] none) ref19_read_C34))
def ref19_read_C21 : TC := (.cond (.t 35) (.seq (.rg [⟨⟨some 37, (.mov (.t 1)), none⟩, {}⟩, ⟨⟨some 38, (.bin .add (.t 37) (.c (I 1))), none⟩, {}⟩, ⟨⟨some 10, (.mov (.t 38)), none⟩, {}⟩, ⟨⟨some 11, (.mov (.c (I 0))), none⟩, {}⟩] none) ref19_read_C28) (.seq (.rg [⟨⟨some 90, (.bin .eql (.t 34) (.c (.v (.int .u8 33)))), none⟩,
  {}⟩, ⟨⟨some 89, (.mov (.t 90)), none⟩, {}⟩] none) ref19_read_C29))
def ref19_read_C14 : TC := (.block 0 (.seq (.rg [⟨⟨some 36, (.bin .eql (.t 34) (.c (.v (.int .u8 99)))), none⟩, {}⟩, ⟨⟨some 35, (.mov (.t 36)), none⟩, {}⟩] none) ref19_read_C21))
def ref19_read_C6 : TC := (.seq (.seq (.rg [⟨⟨some 32, (.mov (.t 0)), none⟩, {}⟩, ⟨⟨some 33, (.mov (.t 1)), none⟩, {}⟩, ⟨⟨some 34, (.sidx (.t 32) (.t 33)), none⟩, {}⟩] none) ref19_read_C14) ref19_read_C2)
def ref19_read_C35 : TC := .ret
def ref19_read_C30 : TC := (.pre [.own 8 G_RuleNode, .keep [8, 9], .out []] ref19_read_C35)
def ref19_read_C22 : TC := (.cond (.t 31) (.seq (.rg [⟨⟨some 8, (.mov (.c (.lst true []))), none⟩, {}⟩, ⟨⟨some 9, (.mov (.c (I (-1)))), none⟩, {}⟩] none) ref19_read_C30) .skip)
def ref19_read_C23 : TC := (.join [.wk 2 (.list G_RuleNode), .keep [0, 1, 2, 3], .out []] ref19_read_C6)
def ref19_read_C15 : TC := (.seq (.seq (.rg [⟨⟨some 19, (.mov (.t 1)), none⟩, {}⟩, ⟨⟨some 20, (.mov (.t 0)), none⟩, {}⟩, ⟨⟨some 21, (.lens (.t 20)), none⟩, {}⟩, ⟨⟨some 22, (.bin .geq (.t 19) (.t 21)), none⟩, {}⟩, ⟨⟨some 23, (.mov (.t 22)), none⟩, {}⟩, ⟨⟨some 24, (.mov (.t 3)), some (23, false)⟩, {}⟩, ⟨⟨some 25, (.bin .gtr (.t
  24) (.c (I 16))), some (23, false)⟩, {}⟩, ⟨⟨some 26, (.pick (.t 23) (.c (B true)) (.t 25)), none⟩, {}⟩, ⟨⟨some 27, (.mov (.t 26)), none⟩, {}⟩, ⟨⟨some 28, (.mov (.t 2)), some (27, false)⟩, {}⟩, ⟨⟨some 29, (.len (.t 28)), some (27, false)⟩, {}⟩, ⟨⟨some 30, (.bin .gtr (.t 29) (.c (I 64))), some (27,
  false)⟩, {}⟩, ⟨⟨some 31, (.pick (.t 27) (.c (B true)) (.t 30)), none⟩, {}⟩] none) ref19_read_C22) ref19_read_C23)
def ref19_read_C7 : TC := (.seq (.rg [⟨⟨some 8, (.mov (.c (.lst true []))), none⟩, {}⟩, ⟨⟨some 9, (.mov (.c (I 0))), none⟩, {}⟩] none) ref19_read_C15)
def ref19_read_E (N : Nat) (self : (List UInt8) → Int → (List T_RuleNode) → Int → Option ((List T_RuleNode) × Int)) : List (Nat × Ent) := [(34, pureE [(.int .i64)] [.str] (fun x => strconv_Itoa N x)), (39, rdE [.str, (.int .i64)] G_RuleNode [(.int .i64)] [.o (.a G_RuleNode), .v (.int .i64)] (fun x l y => self x.1 x.2 l y))]
def ref19_read_J2 (N : Nat) (self : (List UInt8) → Int → (List T_RuleNode) → Int → Option ((List T_RuleNode) × Int)) (x21 : List UInt8) (x22 : Int) (x23 : Int) (x24 : Int) (x25 : List T_RuleNode) : Option ((List T_RuleNode) × Int) := joinN (run (ref19_read_E N self) N 1 ref19_read_C1) N ⟨[(0, .str x21), (1, .int .i64 x22), (2, .whole 1), (10, .int .i64 x23), (11, .int .i64 x24)], [none, some (.arr G_RuleNode x25)]⟩ (blkK 0 (seqK (run (ref19_read_E N self) N 1 ref19_read_C2) (finR ref19_read_NE [(.t 8), (.t 9)] [.o (.a G_RuleNode), .v (.int .i64)])))
def ref19_read_L1 (N : Nat) (self : (List UInt8) → Int → (List T_RuleNode) → Int → Option ((List T_RuleNode) × Int)) (n : Nat) (x6 : List UInt8) (x7 : Int) (x8 : Int) (x9 : Int) (x10 : List T_RuleNode) : Option ((List T_RuleNode) × Int) := loopN (normI 1 ref19_read_N1) (run (ref19_read_E N self) N 1 ref19_read_C3) n ⟨[(0, .str x6), (1, .int .i64 x7), (2, .whole 1), (10, .int .i64 x8), (11, .int .i64 x9)], [none, some (.arr G_RuleNode x10)]⟩ (blkK 1 (seqK (run (ref19_read_E N self) N 1 ref19_read_C4) (blkK 0 (seqK (run (ref19_read_E N self) N 1 ref19_read_C2) (finR ref19_read_NE [(.t 8), (.t 9)] [.o (.a G_RuleNode), .v (.int .i64)])))))
def ref19_read_J3 (N : Nat) (self : (List UInt8) → Int → (List T_RuleNode) → Int → Option ((List T_RuleNode) × Int)) (x60 : List UInt8) (x61 : Int) (x62 : Int) (x63 : List T_RuleNode) : Option ((List T_RuleNode) × Int) := joinN (run (ref19_read_E N self) N 1 ref19_read_C5) N ⟨[(0, .str x60), (3, .int .i64 x61), (14, .whole 1), (15, .int .i64 x62)], [none, some (.arr G_RuleNode x63)]⟩ (blkK 0 (seqK (run (ref19_read_E N self) N 1 ref19_read_C2) (finR ref19_read_NE [(.t 8), (.t 9)] [.o (.a G_RuleNode), .v (.int .i64)])))
def ref19_read_J1 (N : Nat) (self : (List UInt8) → Int → (List T_RuleNode) → Int → Option ((List T_RuleNode) × Int)) (x1 : List UInt8) (x2 : Int) (x3 : Int) (x4 : List T_RuleNode) : Option ((List T_RuleNode) × Int) := joinN (run (ref19_read_E N self) N 1 ref19_read_C6) N ⟨[(0, .str x1), (1, .int .i64 x2), (2, .whole 1), (3, .int .i64 x3)], [none, some (.arr G_RuleNode x4)]⟩ (finR ref19_read_NE [(.t 8), (.t 9)] [.o (.a G_RuleNode), .v (.int .i64)])
theorem ref19_read_J2_eqM (N : Nat) (self : (List UInt8) → Int → (List T_RuleNode) → Int → Option ((List T_RuleNode) × Int)) (JM : Nat) (x21 : List UInt8) (x22 : Int) (x23 : Int) (x24 : Int) (x25 : List T_RuleNode) : joinN (run (ref19_read_E N self) N 1 ref19_read_C1) (JM + 1) ⟨[(0, .str x21), (1, .int .i64 x22), (2, .whole 1), (10, .int .i64 x23), (11, .int .i64 x24)], [none, some (.arr G_RuleNode x25)]⟩ (blkK 0 (seqK (run (ref19_read_E N self) N 1 ref19_read_C2) (finR ref19_read_NE [(.t 8), (.t 9)] [.o (.a G_RuleNode), .v (.int .i64)]))) =
  Option.bind (strconv_Itoa N x24) fun r26 =>
  bif slB (W (x22 + 1)) x23 x21.length then
  bif (!(r26 == ((x21.drop (W (x22 + 1)).toNat).take (x23.toNat - (W (x22 + 1)).toNat)))) then
    some ([], (-1))
  else
    bif (decide (x24 ≥ 64)) then
      some ([], (-1))
    else
      bif fitsB (x25.length + 1) 32 then
      some ((x25 ++ [(1, (x24, (0, 0)))]), x23)
      else none
  else none := by kernel_rfl
theorem ref19_read_J2_eq (N : Nat) (self : (List UInt8) → Int → (List T_RuleNode) → Int → Option ((List T_RuleNode) × Int)) (x21 : List UInt8) (x22 : Int) (x23 : Int) (x24 : Int) (x25 : List T_RuleNode) : ref19_read_J2 (N + 1) self x21 x22 x23 x24 x25 =
  Option.bind (strconv_Itoa (N + 1) x24) fun r26 =>
  bif slB (W (x22 + 1)) x23 x21.length then
  bif (!(r26 == ((x21.drop (W (x22 + 1)).toNat).take (x23.toNat - (W (x22 + 1)).toNat)))) then
    some ([], (-1))
  else
    bif (decide (x24 ≥ 64)) then
      some ([], (-1))
    else
      bif fitsB (x25.length + 1) 32 then
      some ((x25 ++ [(1, (x24, (0, 0)))]), x23)
      else none
  else none := ref19_read_J2_eqM (N + 1) self N x21 x22 x23 x24 x25
theorem ref19_read_L1_succ (N : Nat) (self : (List UInt8) → Int → (List T_RuleNode) → Int → Option ((List T_RuleNode) × Int)) (n1 : Nat) (x6 : List UInt8) (x7 : Int) (x8 : Int) (x9 : Int) (x10 : List T_RuleNode) : ref19_read_L1 N self (n1 + 1) x6 x7 x8 x9 x10 =
  bif (decide (x8 < (x6.length : Int))) then
    bif (decide (x8 < (W (x7 + 4)))) then
      bif inB x8 x6.length then
      bif (decide (((x6.getD x8.toNat 0).toNat : Int) ≥ 48)) then
        bif inB x8 x6.length then
        bif (decide (((x6.getD x8.toNat 0).toNat : Int) ≤ 57)) then
          bif inB x8 x6.length then
          ref19_read_L1 N self n1 x6 x7 (W (x8 + 1)) (W ((W (10 * x9)) + (W (IntKind.u8.wrap (((x6.getD x8.toNat 0).toNat : Int) - 48))))) x10
          else none
        else
          ref19_read_J2 N self x6 x7 x8 x9 x10
        else none
      else
        ref19_read_J2 N self x6 x7 x8 x9 x10
      else none
    else
      ref19_read_J2 N self x6 x7 x8 x9 x10
  else
    ref19_read_J2 N self x6 x7 x8 x9 x10 := by kernel_rfl
theorem ref19_read_J3_eqM (N : Nat) (self : (List UInt8) → Int → (List T_RuleNode) → Int → Option ((List T_RuleNode) × Int)) (JM : Nat) (x60 : List UInt8) (x61 : Int) (x62 : Int) (x63 : List T_RuleNode) : joinN (run (ref19_read_E N self) N 1 ref19_read_C5) (JM + 1) ⟨[(0, .str x60), (3, .int .i64 x61), (14, .whole 1), (15, .int .i64 x62)], [none, some (.arr G_RuleNode x63)]⟩ (blkK 0 (seqK (run (ref19_read_E N self) N 1 ref19_read_C2) (finR ref19_read_NE [(.t 8), (.t 9)] [.o (.a G_RuleNode), .v (.int .i64)]))) =
  let v64 := W ((x63.length : Int) - 1)
  Option.bind (self x60 (W (x62 + 3)) x63 (W (x61 + 1))) fun r65 =>
  bif (decide (r65.2 < 0)) then
    some ([], (-1))
  else
    bif (decide (r65.2 ≥ (x60.length : Int))) then
      some ([], (-1))
    else
      bif inB r65.2 x60.length then
      bif (((x60.getD r65.2.toNat 0).toNat : Int) != 41) then
        some ([], (-1))
      else
        bif inB (W (x62 + 1)) x60.length then
        bif (((x60.getD (W (x62 + 1)).toNat 0).toNat : Int) == 124) then
          bif fitsB (r65.1.length + 1) 32 then
          some ((r65.1 ++ [(4, (0, (v64, (W ((r65.1.length : Int) - 1)))))]), W (r65.2 + 1))
          else none
        else
          bif fitsB (r65.1.length + 1) 32 then
          some ((r65.1 ++ [(3, (0, (v64, (W ((r65.1.length : Int) - 1)))))]), W (r65.2 + 1))
          else none
        else none
      else none := by kernel_rfl
theorem ref19_read_J3_eq (N : Nat) (self : (List UInt8) → Int → (List T_RuleNode) → Int → Option ((List T_RuleNode) × Int)) (x60 : List UInt8) (x61 : Int) (x62 : Int) (x63 : List T_RuleNode) : ref19_read_J3 (N + 1) self x60 x61 x62 x63 =
  let v64 := W ((x63.length : Int) - 1)
  Option.bind (self x60 (W (x62 + 3)) x63 (W (x61 + 1))) fun r65 =>
  bif (decide (r65.2 < 0)) then
    some ([], (-1))
  else
    bif (decide (r65.2 ≥ (x60.length : Int))) then
      some ([], (-1))
    else
      bif inB r65.2 x60.length then
      bif (((x60.getD r65.2.toNat 0).toNat : Int) != 41) then
        some ([], (-1))
      else
        bif inB (W (x62 + 1)) x60.length then
        bif (((x60.getD (W (x62 + 1)).toNat 0).toNat : Int) == 124) then
          bif fitsB (r65.1.length + 1) 32 then
          some ((r65.1 ++ [(4, (0, (v64, (W ((r65.1.length : Int) - 1)))))]), W (r65.2 + 1))
          else none
        else
          bif fitsB (r65.1.length + 1) 32 then
          some ((r65.1 ++ [(3, (0, (v64, (W ((r65.1.length : Int) - 1)))))]), W (r65.2 + 1))
          else none
        else none
      else none := ref19_read_J3_eqM (N + 1) self N x60 x61 x62 x63
theorem ref19_read_J1_eqM (N : Nat) (self : (List UInt8) → Int → (List T_RuleNode) → Int → Option ((List T_RuleNode) × Int)) (JM : Nat) (x1 : List UInt8) (x2 : Int) (x3 : Int) (x4 : List T_RuleNode) : joinN (run (ref19_read_E N self) N 1 ref19_read_C6) (JM + 1) ⟨[(0, .str x1), (1, .int .i64 x2), (2, .whole 1), (3, .int .i64 x3)], [none, some (.arr G_RuleNode x4)]⟩ (finR ref19_read_NE [(.t 8), (.t 9)] [.o (.a G_RuleNode), .v (.int .i64)]) =
  bif inB x2 x1.length then
  let v5 := ((x1.getD x2.toNat 0).toNat : Int)
  bif (v5 == 99) then
    ref19_read_L1 N self N x1 x2 (W (x2 + 1)) 0 x4
  else
    bif (v5 == 33) then
      Option.bind (self x1 (W (x2 + 1)) x4 (W (x3 + 1))) fun r54 =>
      bif (decide (r54.2 < 0)) then
        some ([], (-1))
      else
        bif fitsB (r54.1.length + 1) 32 then
        some ((r54.1 ++ [(2, (0, ((W ((r54.1.length : Int) - 1)), 0)))]), r54.2)
        else none
    else
      bif (v5 == 40) then
        Option.bind (self x1 (W (x2 + 1)) x4 (W (x3 + 1))) fun r57 =>
        bif (decide (r57.2 < 0)) then
          some ([], (-1))
        else
          bif (decide ((W (r57.2 + 3)) > (x1.length : Int))) then
            some ([], (-1))
          else
            bif slB r57.2 (W (r57.2 + 3)) x1.length then
            bif (!(((x1.drop r57.2.toNat).take ((W (r57.2 + 3)).toNat - r57.2.toNat)) == ([32, 38, 32] : List UInt8))) then
              bif slB r57.2 (W (r57.2 + 3)) x1.length then
              bif (!(((x1.drop r57.2.toNat).take ((W (r57.2 + 3)).toNat - r57.2.toNat)) == ([32, 124, 32] : List UInt8))) then
                some ([], (-1))
              else
                ref19_read_J3 N self x1 x3 r57.2 r57.1
              else none
            else
              ref19_read_J3 N self x1 x3 r57.2 r57.1
            else none
      else
        some ([], (-1))
  else none := by kernel_rfl
theorem ref19_read_J1_eq (N : Nat) (self : (List UInt8) → Int → (List T_RuleNode) → Int → Option ((List T_RuleNode) × Int)) (x1 : List UInt8) (x2 : Int) (x3 : Int) (x4 : List T_RuleNode) : ref19_read_J1 (N + 1) self x1 x2 x3 x4 =
  bif inB x2 x1.length then
  let v5 := ((x1.getD x2.toNat 0).toNat : Int)
  bif (v5 == 99) then
    ref19_read_L1 (N + 1) self (N + 1) x1 x2 (W (x2 + 1)) 0 x4
  else
    bif (v5 == 33) then
      Option.bind (self x1 (W (x2 + 1)) x4 (W (x3 + 1))) fun r54 =>
      bif (decide (r54.2 < 0)) then
        some ([], (-1))
      else
        bif fitsB (r54.1.length + 1) 32 then
        some ((r54.1 ++ [(2, (0, ((W ((r54.1.length : Int) - 1)), 0)))]), r54.2)
        else none
    else
      bif (v5 == 40) then
        Option.bind (self x1 (W (x2 + 1)) x4 (W (x3 + 1))) fun r57 =>
        bif (decide (r57.2 < 0)) then
          some ([], (-1))
        else
          bif (decide ((W (r57.2 + 3)) > (x1.length : Int))) then
            some ([], (-1))
          else
            bif slB r57.2 (W (r57.2 + 3)) x1.length then
            bif (!(((x1.drop r57.2.toNat).take ((W (r57.2 + 3)).toNat - r57.2.toNat)) == ([32, 38, 32] : List UInt8))) then
              bif slB r57.2 (W (r57.2 + 3)) x1.length then
              bif (!(((x1.drop r57.2.toNat).take ((W (r57.2 + 3)).toNat - r57.2.toNat)) == ([32, 124, 32] : List UInt8))) then
                some ([], (-1))
              else
                ref19_read_J3 (N + 1) self x1 x3 r57.2 r57.1
              else none
            else
              ref19_read_J3 (N + 1) self x1 x3 r57.2 r57.1
            else none
      else
        some ([], (-1))
  else none := ref19_read_J1_eqM (N + 1) self N x1 x2 x3 x4
def ref19_read_R (N : Nat) (self : (List UInt8) → Int → (List T_RuleNode) → Int → Option ((List T_RuleNode) × Int)) (a0 : List UInt8) (a1 : Int) (a2 : List T_RuleNode) (a3 : Int) : Option ((List T_RuleNode) × Int) :=
  bif (decide (a1 ≥ (a0.length : Int))) then
    some ([], (-1))
  else
    bif (decide (a3 > 16)) then
      some ([], (-1))
    else
      bif (decide ((a2.length : Int) > 64)) then
        some ([], (-1))
      else
        ref19_read_J1 N self a0 a1 a3 a2
def ref19_read_M (N : Nat) : Nat → (List UInt8) → Int → (List T_RuleNode) → Int → Option ((List T_RuleNode) × Int)
  | 0, _, _, _, _ => none
  | n + 1, a0, a1, a2, a3 => ref19_read_R N (ref19_read_M N n) a0 a1 a2 a3
theorem ref19_read_M_succ (N n : Nat) (a0 : List UInt8) (a1 : Int) (a2 : List T_RuleNode) (a3 : Int) : ref19_read_M N (n + 1) a0 a1 a2 a3 = ref19_read_R N (ref19_read_M N n) a0 a1 a2 a3 := rfl
def ref19_read (N : Nat) (a0 : List UInt8) (a1 : Int) (a2 : List T_RuleNode) (a3 : Int) : Option ((List T_RuleNode) × Int) := ref19_read_M N N a0 a1 a2 a3
theorem ref19_read_fn : FnOK Tryd.prog 39 191 (fun _ : Nat => false) ref19_read_C7.er [(.t 8), (.t 9)] := FnOK.mk' Tryd.func39 (by kernel_rfl) (by kernel_rfl) (by kernel_rfl) (by kernel_rfl) (by kernel_rfl)
theorem ref19_read_envok (N : Nat) (self : (List UInt8) → Int → (List T_RuleNode) → Int → Option ((List T_RuleNode) × Int)) (hself : RdOK Tryd.prog 39 [.str, (.int .i64)] G_RuleNode [(.int .i64)] [.o (.a G_RuleNode), .v (.int .i64)] (fun x l y => self x.1 x.2 l y)) : EnvOK Tryd.prog (ref19_read_E N self) := .cons (pureE_ok (strconv_Itoa_pure N)) (.cons (rdE_ok hself) (.nil))
theorem ref19_read_rds (N : Nat) : ∀ n, RdOK Tryd.prog 39 [.str, (.int .i64)] G_RuleNode [(.int .i64)] [.o (.a G_RuleNode), .v (.int .i64)] (fun x l y => ref19_read_M N n x.1 x.2 l y)
  | 0 => fun x l y z h => by cases h
  | n + 1 => rdOK (ts1 := [.str, (.int .i64)]) (t := G_RuleNode) (ts2 := [(.int .i64)]) (rk := [.o (.a G_RuleNode), .v (.int .i64)]) (N := N) (ns := ref19_read_NE) mixed ref19_read_fn (ref19_read_envok N (ref19_read_M N n) (ref19_read_rds N n)) (TC.noh_ok (by kernel_rfl)) rfl (fun x l y => by kernel_rfl)
theorem ref19_read_rd (N : Nat) : RdOK Tryd.prog 39 [.str, (.int .i64)] G_RuleNode [(.int .i64)] [.o (.a G_RuleNode), .v (.int .i64)] (fun x l y => ref19_read N x.1 x.2 l y) := ref19_read_rds N N
/-! ref19_Parse -/
def ref19_Parse_C8 : TC := .ret
def ref19_Parse_C6 : TC := (.pre [.frz 2] ref19_Parse_C8)
def ref19_Parse_C4 : TC := (.cond (.t 19) (.seq (.rg [⟨⟨some 2, (.mov (.c (.lst true []))), none⟩, {}⟩, ⟨⟨some 3, (.mov (.c (I 6))), none⟩, {}⟩] none) ref19_Parse_C6) .skip)
def ref19_Parse_C9 : TC := .ret
def ref19_Parse_C7 : TC := (.pre [.frz 2] ref19_Parse_C9)
def ref19_Parse_C5 : TC := (.seq (.rg [⟨⟨some 20, (.mov (.t 4)), none⟩, {}⟩, ⟨⟨some 2, (.mov (.t 20)), none⟩, {}⟩, ⟨⟨some 3, (.mov (.c (I 0))), none⟩, {}⟩] none) ref19_Parse_C7)
def ref19_Parse_C3 : TC := (.seq (.seq (.rg [⟨⟨some 11, (.mov (.t 5)), none⟩, {}⟩, ⟨⟨some 12, (.mov (.t 0)), none⟩, {}⟩, ⟨⟨some 13, (.lens (.t 12)), none⟩, {}⟩, ⟨⟨some 14, (.bin .neq (.t 11) (.t 13)), none⟩, {}⟩, ⟨⟨some 15, (.mov (.t 14)), none⟩, {}⟩, ⟨⟨some 16, (.mov (.t 4)), some (15, false)⟩, {}⟩, ⟨⟨some 17, (.call (.c (.fn
  32 [])) [(.t 16)]), some (15, false)⟩, {}⟩, ⟨⟨some 18, (.un .not (.t 17)), some (15, false)⟩, {}⟩, ⟨⟨some 19, (.pick (.t 15) (.c (B true)) (.t 18)), none⟩, {}⟩] none) ref19_Parse_C4) ref19_Parse_C5)
def ref19_Parse_C2 : TC := (.seq (.rg [⟨⟨some 7, (.mov (.t 0)), none⟩, {}⟩, ⟨⟨some 8, (.call (.c (.fn 39 [])) [(.t 7), (.c (I 0)), (.c (.lst true [])), (.c (I 1))]), none⟩, {}⟩, ⟨⟨some 6, (.mov (.t 8)), none⟩, {}⟩, ⟨⟨some 9, (.extr 0 (.t 6)), none⟩, {}⟩, ⟨⟨some 10, (.extr 1 (.t 6)), none⟩, {}⟩, ⟨⟨some 4, (.mov (.t 9)), none⟩,
  {}⟩, ⟨⟨some 5, (.mov (.t 10)), none⟩, {}⟩] none) ref19_Parse_C3)
def ref19_Parse_C1 : TC := (.seq (.rg [⟨⟨some 2, (.mov (.c (.lst true []))), none⟩, {}⟩, ⟨⟨some 3, (.mov (.c (I 0))), none⟩, {}⟩] none) ref19_Parse_C2)
def ref19_Parse_E (N : Nat) : List (Nat × Ent) := [(39, rdE [.str, (.int .i64)] G_RuleNode [(.int .i64)] [.o (.a G_RuleNode), .v (.int .i64)] (fun x l y => ref19_read N x.1 x.2 l y)), (32, pureE [(.list G_RuleNode)] [.bool] (fun x => ref19_Right N x))]
def ref19_Parse (N : Nat) (a0 : List UInt8) : Option ((List T_RuleNode) × Int) :=
  Option.bind (ref19_read N a0 0 [] 1) fun r1 =>
  bif (r1.2 != (a0.length : Int)) then
    some ([], 6)
  else
    Option.bind (ref19_Right N r1.1) fun r2 =>
    bif (!r2) then
      some ([], 6)
    else
      some (r1.1, 0)
theorem ref19_Parse_fn : FnOK Tryd.prog 23 21 (fun _ : Nat => false) ref19_Parse_C1.er [(.t 2), (.t 3)] := FnOK.mk' Tryd.func23 (by kernel_rfl) (by kernel_rfl) (by kernel_rfl) (by kernel_rfl) (by kernel_rfl)
theorem ref19_Parse_envok (N : Nat) : EnvOK Tryd.prog (ref19_Parse_E N) := .cons (rdE_ok (ref19_read_rd N)) (.cons (pureE_ok (ref19_Right_pure N)) (.nil))
theorem ref19_Parse_pure (N : Nat) : PureOK Tryd.prog 23 [.str] [(.list G_RuleNode), (.int .i64)] (fun x => ref19_Parse N x) := pureOK (N := N) mixed ref19_Parse_fn (ref19_Parse_envok N) (TC.noh_ok (by kernel_rfl)) rfl (fun x => by kernel_rfl)
/-! ref19_Same -/
def ref19_Same_N1 : List NS := [.wk 0 (.list G_RuleNode), .wk 1 (.list G_RuleNode), .keep [0, 1, 5], .cmp]
def ref19_Same_C4 : TC := (.cond (.t 14) .skip (.exit 0))
def ref19_Same_C12 : TC := .ret
def ref19_Same_C8 : TC := (.cond (.t 25) (.seq (.rg [⟨⟨some 4, (.mov (.c (B false))), none⟩, {}⟩] none) ref19_Same_C12) .skip)
def ref19_Same_C9 : TC := (.rg [⟨⟨some 15, (.mov (.t 5)), none⟩, {}⟩, ⟨⟨some 16, (.bin .add (.t 15) (.c (I 1))), none⟩, {}⟩, ⟨⟨some 5, (.mov (.t 16)), none⟩, {}⟩] none)
def ref19_Same_C5 : TC := (.seq (.block 1 (.seq (.rg [⟨⟨some 17, (.mov (.t 0)), none⟩, {}⟩, ⟨⟨some 18, (.mov (.t 5)), none⟩, {}⟩, ⟨⟨some 19, (.iadrS 4 (.t 17) (.t 18)), none⟩, {}⟩, ⟨⟨some 20, (.load true 4 (.t 19)), none⟩, {}⟩, ⟨⟨some 21, (.mov (.t 1)), none⟩, {}⟩, ⟨⟨some 22, (.mov (.t 5)), none⟩, {}⟩, ⟨⟨some 23, (.iadrS 4
  (.t 21) (.t 22)), none⟩, {}⟩, ⟨⟨some 24, (.load true 4 (.t 23)), none⟩, {}⟩, ⟨⟨some 25, (.eqa true [(0, 1), (1, 1), (2, 1), (3, 1)] (.t 20) (.t 24)), none⟩, {}⟩] (some [])) ref19_Same_C8)) ref19_Same_C9)
def ref19_Same_C1 : TC := (.seq (.seq (.rg [⟨⟨some 11, (.mov (.t 5)), none⟩, {}⟩, ⟨⟨some 12, (.mov (.t 0)), none⟩, {}⟩, ⟨⟨some 13, (.len (.t 12)), none⟩, {}⟩, ⟨⟨some 14, (.bin .lss (.t 11) (.t 13)), none⟩, {}⟩] none) ref19_Same_C4) ref19_Same_C5)
def ref19_Same_C6 : TC := .ret
def ref19_Same_C2 : TC := (.seq (.rg [⟨⟨some 4, (.mov (.c (B true))), none⟩, {}⟩] none) ref19_Same_C6)
def ref19_Same_C13 : TC := .ret
def ref19_Same_C10 : TC := (.cond (.t 10) (.seq (.rg [⟨⟨some 4, (.mov (.c (B false))), none⟩, {}⟩] none) ref19_Same_C13) .skip)
def ref19_Same_C14 : TC := (.block 0 (.loop ref19_Same_N1 ref19_Same_C1))
def ref19_Same_C11 : TC := (.seq (.seq (.rg [⟨⟨some 5, (.mov (.c (I 0))), none⟩, {}⟩] none) ref19_Same_C14) ref19_Same_C2)
def ref19_Same_C7 : TC := (.seq (.seq (.rg [⟨⟨some 6, (.mov (.t 0)), none⟩, {}⟩, ⟨⟨some 7, (.len (.t 6)), none⟩, {}⟩, ⟨⟨some 8, (.mov (.t 1)), none⟩, {}⟩, ⟨⟨some 9, (.len (.t 8)), none⟩, {}⟩, ⟨⟨some 10, (.bin .neq (.t 7) (.t 9)), none⟩, {}⟩] none) ref19_Same_C10) ref19_Same_C11)
def ref19_Same_C3 : TC := (.seq (.rg [⟨⟨some 4, (.mov (.c (B false))), none⟩, {}⟩] none) ref19_Same_C7)
def ref19_Same_E (N : Nat) : List (Nat × Ent) := []
def ref19_Same_L1 (N : Nat) (n : Nat) (x1 : List T_RuleNode) (x2 : List T_RuleNode) (x3 : Int) : Option Bool := loopN (normI 0 ref19_Same_N1) (run (ref19_Same_E N) N 0 ref19_Same_C1) n ⟨[(0, .lst false G_RuleNode x1), (1, .lst false G_RuleNode x2), (5, .int .i64 x3)], []⟩ (blkK 0 (seqK (run (ref19_Same_E N) N 0 ref19_Same_C2) (fin [(.t 4)] [.bool])))
theorem ref19_Same_L1_succ (N : Nat) (n1 : Nat) (x1 : List T_RuleNode) (x2 : List T_RuleNode) (x3 : Int) : ref19_Same_L1 N (n1 + 1) x1 x2 x3 =
  bif (decide (x3 < (x1.length : Int))) then
    bif inB x3 x1.length then
    let v4 := x1.getD x3.toNat D_RuleNode
    bif inB x3 x2.length then
    let v5 := x2.getD x3.toNat D_RuleNode
    bif (!((v4.1 == v5.1) && ((v4.2.1 == v5.2.1) && ((v4.2.2.1 == v5.2.2.1) && (v4.2.2.2 == v5.2.2.2))))) then
      some false
    else
      ref19_Same_L1 N n1 x1 x2 (W (x3 + 1))
    else none
    else none
  else
    some true := by kernel_rfl
def ref19_Same (N : Nat) (a0 : List T_RuleNode) (a1 : List T_RuleNode) : Option Bool :=
  bif ((a0.length : Int) != (a1.length : Int)) then
    some false
  else
    ref19_Same_L1 N N a0 a1 0
theorem ref19_Same_fn : FnOK Tryd.prog 24 26 (fun _ : Nat => false) ref19_Same_C3.er [(.t 4)] := FnOK.mk' Tryd.func24 (by kernel_rfl) (by kernel_rfl) (by kernel_rfl) (by kernel_rfl) (by kernel_rfl)
theorem ref19_Same_envok (N : Nat) : EnvOK Tryd.prog (ref19_Same_E N) := .nil
theorem ref19_Same_pure (N : Nat) : PureOK Tryd.prog 24 [(.list G_RuleNode), (.list G_RuleNode)] [.bool] (fun x => ref19_Same N x.1 x.2) := pureOK (N := N) mixed ref19_Same_fn (ref19_Same_envok N) (TC.noh_ok (by kernel_rfl)) rfl (fun x => by kernel_rfl)
/-! law19_RulePrints -/
def law19_RulePrints_N1 : List NS := [.wk 90 (.list .str), .keep [90, 91, 92], .cmp]
def law19_RulePrints_C24 : TC := .ret
def law19_RulePrints_C22 : TC := (.cond (.t 114) (.seq (.rg [⟨⟨some 8, (.mov (.c (B false))), none⟩, {}⟩] none) law19_RulePrints_C24) .skip)
def law19_RulePrints_C19 : TC := (.seq (.rg [⟨⟨some 106, (.mov (.t 17)), none⟩, {}⟩, ⟨⟨some 107, (.mov (.t 19)), none⟩, {}⟩, ⟨⟨some 108, (.call (.c (.fn 24 [])) [(.t 106), (.t 107)]), none⟩, {}⟩, ⟨⟨some 109, (.un .not (.t 108)), none⟩, {}⟩, ⟨⟨some 110, (.mov (.t 109)), none⟩, {}⟩, ⟨⟨some 111, (.mov (.t 18)), some (110, false)⟩, {}⟩,
  ⟨⟨some 112, (.mov (.t 20)), some (110, false)⟩, {}⟩, ⟨⟨some 113, (.bin .neq (.t 111) (.t 112)), some (110, false)⟩, {}⟩, ⟨⟨some 114, (.pick (.t 110) (.c (B true)) (.t 113)), none⟩, {}⟩] none) law19_RulePrints_C22)
def law19_RulePrints_C17 : TC := (.seq (.rg [⟨⟨some 102, (.mov (.t 16)), none⟩, {}⟩, ⟨⟨some 103, (.call (.c (.fn 23 [])) [(.t 102)]), none⟩, {}⟩, ⟨⟨some 101, (.mov (.t 103)), none⟩, {}⟩, ⟨⟨some 104, (.extr 0 (.t 101)), none⟩, {}⟩, ⟨⟨some 105, (.extr 1 (.t 101)), none⟩, {}⟩, ⟨⟨some 19, (.mov (.t 104)), none⟩, {}⟩, ⟨⟨some 20, (.mov
  (.t 105)), none⟩, {}⟩] none) law19_RulePrints_C19)
def law19_RulePrints_C13 : TC := (.seq (.rg [⟨⟨some 97, (.mov (.t 16)), none⟩, {}⟩, ⟨⟨some 98, (.call (.c (.fn 22 [])) [(.t 97)]), none⟩, {}⟩, ⟨⟨some 96, (.mov (.t 98)), none⟩, {}⟩, ⟨⟨some 99, (.extr 0 (.t 96)), none⟩, {}⟩, ⟨⟨some 100, (.extr 1 (.t 96)), none⟩, {}⟩, ⟨⟨some 17, (.mov (.t 99)), none⟩, {}⟩, ⟨⟨some 18, (.mov (.t 100)),
  none⟩, {}⟩] none) law19_RulePrints_C17)
def law19_RulePrints_C14 : TC := (.rg [⟨⟨some 115, (.bin .add (.t 92) (.c (I 1))), none⟩, {}⟩, ⟨⟨some 92, (.mov (.t 115)), none⟩, {}⟩] none)
def law19_RulePrints_C9 : TC := (.seq (.block 1 (.seq (.rg [⟨⟨some 94, (.iadrS 1 (.t 90) (.t 92)), none⟩, {}⟩, ⟨⟨some 95, (.load false 1 (.t 94)), none⟩, {}⟩, ⟨⟨some 16, (.mov (.t 95)), none⟩, {}⟩] none) law19_RulePrints_C13)) law19_RulePrints_C14)
def law19_RulePrints_C5 : TC := (.seq (.cond (.t 93) .skip (.exit 0)) law19_RulePrints_C9)
def law19_RulePrints_C1 : TC := (.seq (.rg [⟨⟨some 93, (.bin .lss (.t 92) (.t 91)), none⟩, {}⟩] none) law19_RulePrints_C5)
def law19_RulePrints_C6 : TC := .ret
def law19_RulePrints_C2 : TC := (.seq (.rg [⟨⟨some 116, (.call (.c (.fn 9 [])) []), none⟩, {}⟩, ⟨⟨some 8, (.mov (.t 116)), none⟩, {}⟩] none) law19_RulePrints_C6)
def law19_RulePrints_C10 : TC := (.cond (.t 65) (.rg [⟨⟨some 66, (.mov (.t 14)), none⟩, {}⟩, ⟨⟨some 67, (.mov (.t 2)), none⟩, {}⟩, ⟨⟨some 68, (.mov (.t 14)), none⟩, {}⟩, ⟨⟨some 69, (.len (.t 68)), none⟩, {}⟩, ⟨⟨some 70, (.call (.c (.fn 21 [])) [(.t 67), (.t 69)]), none⟩, {}⟩, ⟨⟨some 71, (.mov (.t 3)), none⟩, {}⟩, ⟨⟨some 72, (.conv
  .i64 (.t 71)), none⟩, {}⟩, ⟨⟨some 73, (.bin .rem (.t 72) (.c (I 11))), none⟩, {}⟩, ⟨⟨some 74, (.sidx (.c (.v (.string ⟨⟨[99, 33, 40, 38, 124, 32, 41, 48, 49, 50, 51]⟩⟩))) (.t 73)), none⟩, {}⟩, ⟨⟨some 75, (.iadrS 1 (.t 66) (.t 70)), none⟩, {}⟩, ⟨⟨none, (.store 1 (.t 75) (.t 74)), none⟩, {}⟩] (some
  [])) .skip)
def law19_RulePrints_C15 : TC := (.block 0 (.loop law19_RulePrints_N1 law19_RulePrints_C1))
def law19_RulePrints_C11 : TC := (.seq (.seq (.rg [⟨⟨some 76, (.mov (.t 12)), none⟩, {}⟩, ⟨⟨some 77, (.mov (.t 14)), none⟩, {}⟩, ⟨⟨some 78, (.b2s (.t 77)), none⟩, {}⟩, ⟨⟨some 79, (.mov (.t 1)), none⟩, {}⟩, ⟨⟨some 80, (.mov (.t 12)), none⟩, {}⟩, ⟨⟨some 81, (.bin .add (.t 80) (.c (.v (.string ⟨⟨[32]⟩⟩)))), none⟩, {}⟩, ⟨⟨some 82, (.mov
  (.t 12)), none⟩, {}⟩, ⟨⟨some 83, (.bin .add (.c (.v (.string ⟨⟨[40]⟩⟩))) (.t 82)), none⟩, {}⟩, ⟨⟨some 84, (.mov (.t 12)), none⟩, {}⟩, ⟨⟨some 85, (.bin .add (.c (.v (.string ⟨⟨[40]⟩⟩))) (.t 84)), none⟩, {}⟩, ⟨⟨some 86, (.bin .add (.t 85) (.c (.v (.string ⟨⟨[32, 38, 32]⟩⟩)))), none⟩, {}⟩, ⟨⟨some 87,
  (.mov (.t 12)), none⟩, {}⟩, ⟨⟨some 88, (.bin .add (.t 86) (.t 87)), none⟩, {}⟩, ⟨⟨some 89, (.bin .add (.t 88) (.c (.v (.string ⟨⟨[41]⟩⟩)))), none⟩, {}⟩, ⟨⟨some 90, (.bslice false 1 [(.v (.string ⟨⟨[]⟩⟩))] 6 [(0, (.t 76)), (1, (.t 78)), (2, (.t 79)), (3, (.t 81)), (4, (.t 83)), (5, (.t 89))]),
  none⟩, ⟨.str, none, []⟩⟩, ⟨⟨some 91, (.len (.t 90)), none⟩, {}⟩, ⟨⟨some 92, (.mov (.c (I 0))), none⟩, {}⟩] none) law19_RulePrints_C15) law19_RulePrints_C2)
def law19_RulePrints_C7 : TC := (.seq (.seq (.rg [⟨⟨some 63, (.mov (.t 14)), none⟩, {}⟩, ⟨⟨some 64, (.len (.t 63)), none⟩, {}⟩, ⟨⟨some 65, (.bin .gtr (.t 64) (.c (I 0))), none⟩, {}⟩] none) law19_RulePrints_C10) law19_RulePrints_C11)
def law19_RulePrints_C3 : TC := (.seq (.rg [⟨⟨some 61, (.mov (.t 12)), none⟩, {}⟩, ⟨⟨some 62, (.s2b (.t 61)), none⟩, {}⟩, ⟨⟨some 14, (.mov (.t 62)), none⟩, {}⟩] none) law19_RulePrints_C7)
def law19_RulePrints_C23 : TC := .ret
def law19_RulePrints_C20 : TC := (.cond (.t 49) (.seq (.rg [⟨⟨some 50, (.mov (.t 10)), none⟩, {}⟩, ⟨⟨some 51, (.mov (.t 12)), none⟩, {}⟩, ⟨⟨some 52, (.bin .eql (.t 50) (.t 51)), none⟩, {}⟩, ⟨⟨some 53, (.mov (.t 52)), none⟩, {}⟩, ⟨⟨some 54, (.mov (.t 11)), some (53, true)⟩, {}⟩, ⟨⟨some 55, (.mov (.t 13)), some (53, true)⟩, {}⟩,
  ⟨⟨some 56, (.bin .eql (.t 54) (.t 55)), some (53, true)⟩, {}⟩, ⟨⟨some 57, (.pick (.t 53) (.t 56) (.c (B false))), none⟩, {}⟩, ⟨⟨some 58, (.mov (.t 57)), none⟩, {}⟩, ⟨⟨some 59, (.call (.c (.fn 9 [])) []), some (58, true)⟩, {}⟩, ⟨⟨some 60, (.pick (.t 58) (.t 59) (.c (B false))), none⟩, {}⟩, ⟨⟨some 8,
  (.mov (.t 60)), none⟩, {}⟩] none) law19_RulePrints_C23) .skip)
def law19_RulePrints_C21 : TC := (.join [.keep [1, 2, 3, 12], .cmp] law19_RulePrints_C3)
def law19_RulePrints_C18 : TC := (.seq (.seq (.rg [⟨⟨some 37, (.mov (.t 10)), none⟩, {}⟩, ⟨⟨some 38, (.mov (.t 12)), none⟩, {}⟩, ⟨⟨some 39, (.bin .neq (.t 37) (.t 38)), none⟩, {}⟩, ⟨⟨some 40, (.mov (.t 39)), none⟩, {}⟩, ⟨⟨some 41, (.mov (.t 11)), some (40, false)⟩, {}⟩, ⟨⟨some 42, (.mov (.t 13)), some (40, false)⟩, {}⟩, ⟨⟨some 43,
  (.bin .neq (.t 41) (.t 42)), some (40, false)⟩, {}⟩, ⟨⟨some 44, (.pick (.t 40) (.c (B true)) (.t 43)), none⟩, {}⟩, ⟨⟨some 45, (.mov (.t 44)), none⟩, {}⟩, ⟨⟨some 46, (.mov (.t 1)), some (45, false)⟩, {}⟩, ⟨⟨some 47, (.lens (.t 46)), some (45, false)⟩, {}⟩, ⟨⟨some 48, (.bin .gtr (.t 47) (.c (I
  400))), some (45, false)⟩, {}⟩, ⟨⟨some 49, (.pick (.t 45) (.c (B true)) (.t 48)), none⟩, {}⟩] none) law19_RulePrints_C20) law19_RulePrints_C21)
def law19_RulePrints_C16 : TC := (.seq (.rg [⟨⟨some 33, (.mov (.t 9)), none⟩, {}⟩, ⟨⟨some 34, (.call (.c (.fn 20 [])) [(.t 33)]), none⟩, {}⟩, ⟨⟨some 32, (.mov (.t 34)), none⟩, {}⟩, ⟨⟨some 35, (.extr 0 (.t 32)), none⟩, {}⟩, ⟨⟨some 36, (.extr 1 (.t 32)), none⟩, {}⟩, ⟨⟨some 12, (.mov (.t 35)), none⟩, {}⟩, ⟨⟨some 13, (.mov (.t 36)),
  none⟩, {}⟩] none) law19_RulePrints_C18)
def law19_RulePrints_C12 : TC := (.seq (.rg [⟨⟨some 28, (.mov (.t 9)), none⟩, {}⟩, ⟨⟨some 29, (.call (.c (.fn 19 [])) [(.t 28)]), none⟩, {}⟩, ⟨⟨some 27, (.mov (.t 29)), none⟩, {}⟩, ⟨⟨some 30, (.extr 0 (.t 27)), none⟩, {}⟩, ⟨⟨some 31, (.extr 1 (.t 27)), none⟩, {}⟩, ⟨⟨some 10, (.mov (.t 30)), none⟩, {}⟩, ⟨⟨some 11, (.mov (.t 31)),
  none⟩, {}⟩] none) law19_RulePrints_C16)
def law19_RulePrints_C8 : TC := (.seq (.rg [⟨⟨some 21, (.mov (.t 0)), none⟩, {}⟩, ⟨⟨some 22, (.mov (.t 2)), none⟩, {}⟩, ⟨⟨some 23, (.mov (.t 3)), none⟩, {}⟩, ⟨⟨some 24, (.conv .i64 (.t 23)), none⟩, {}⟩, ⟨⟨some 25, (.bin .rem (.t 24) (.c (I 8))), none⟩, {}⟩, ⟨⟨some 26, (.call (.c (.fn 11 [])) [(.t 21), (.t 22), (.t 25)]), none⟩,
  {}⟩, ⟨⟨some 9, (.mov (.t 26)), none⟩, {}⟩] none) law19_RulePrints_C12)
def law19_RulePrints_C4 : TC := (.seq (.rg [⟨⟨some 8, (.mov (.c (B false))), none⟩, {}⟩] none) law19_RulePrints_C8)
def law19_RulePrints_E (N : Nat) : List (Nat × Ent) := [(11, pureE [(.list (.int .u8)), (.int .i64), (.int .i64)] [(.list G_RuleNode)] (fun x => law19_made N x.1 x.2.1 x.2.2)), (19, pureE [(.list G_RuleNode)] [.str, (.int .i64)] (fun x => rule_Print N x)), (20, pureE [(.list G_RuleNode)] [.str, (.int .i64)] (fun x => ref19_Print N x)), (9, pureE [] [.bool] (fun x => law19_awake N)), (21, pureE [(.int .i64), (.int .i64)] [(.int .i64)] (fun x => draw_Mod N x.1 x.2)), (22, pureE [.str] [(.list G_RuleNode), (.int .i64)] (fun x => rule_Parse N x)), (23, pureE [.str] [(.list G_RuleNode), (.int .i64)] (fun x => ref19_Parse N x)), (24, pureE [(.list G_RuleNode), (.list G_RuleNode)] [.bool] (fun x => ref19_Same N x.1 x.2))]
def law19_RulePrints_L1 (N : Nat) (n : Nat) (x22 : List (List UInt8)) (x23 : Int) (x24 : Int) : Option Bool := loopN (normI 0 law19_RulePrints_N1) (run (law19_RulePrints_E N) N 0 law19_RulePrints_C1) n ⟨[(90, .lst false .str x22), (91, .int .i64 x23), (92, .int .i64 x24)], []⟩ (blkK 0 (seqK (run (law19_RulePrints_E N) N 0 law19_RulePrints_C2) (fin [(.t 8)] [.bool])))
def law19_RulePrints_J1 (N : Nat) (x7 : List UInt8) (x8 : Int) (x9 : Int) (x10 : List UInt8) : Option Bool := joinN (run (law19_RulePrints_E N) N 0 law19_RulePrints_C3) N ⟨[(1, .str x7), (2, .int .i64 x8), (3, .int .u8 x9), (12, .str x10)], []⟩ (fin [(.t 8)] [.bool])
theorem law19_RulePrints_L1_succ (N : Nat) (n1 : Nat) (x22 : List (List UInt8)) (x23 : Int) (x24 : Int) : law19_RulePrints_L1 N (n1 + 1) x22 x23 x24 =
  bif (decide (x24 < x23)) then
    bif inB x24 x22.length then
    Option.bind (rule_Parse N (x22.getD x24.toNat [])) fun r25 =>
    Option.bind (ref19_Parse N (x22.getD x24.toNat [])) fun r26 =>
    Option.bind (ref19_Same N r25.1 r26.1) fun r27 =>
    bif (!r27) then
      some false
    else
      bif (r25.2 != r26.2) then
        some false
      else
        law19_RulePrints_L1 N n1 x22 x23 (W (x24 + 1))
    else none
  else
    Option.bind (law19_awake N) fun r31 =>
    some r31 := by kernel_rfl
theorem law19_RulePrints_J1_eqM (N : Nat) (JM : Nat) (x7 : List UInt8) (x8 : Int) (x9 : Int) (x10 : List UInt8) : joinN (run (law19_RulePrints_E N) N 0 law19_RulePrints_C3) (JM + 1) ⟨[(1, .str x7), (2, .int .i64 x8), (3, .int .u8 x9), (12, .str x10)], []⟩ (fin [(.t 8)] [.bool]) =
  let v11 := x10.map fun b => (b.toNat : Int)
  bif (decide ((v11.length : Int) > 0)) then
    Option.bind (draw_Mod N x8 (v11.length : Int)) fun r12 =>
    bif inB ((W x9).tmod 11) ([99, 33, 40, 38, 124, 32, 41, 48, 49, 50, 51] : List UInt8).length then
    bif inB r12 v11.length then
    let v15 := (v11.set r12.toNat ((([99, 33, 40, 38, 124, 32, 41, 48, 49, 50, 51] : List UInt8).getD ((W x9).tmod 11).toNat 0).toNat : Int)).map fun n => UInt8.ofNat n.toNat
    bif decide (x10.length + ([32] : List UInt8).length ≤ 9223372036854775807) then
    let v16 := x10 ++ ([32] : List UInt8)
    bif decide (([40] : List UInt8).length + x10.length ≤ 9223372036854775807) then
    let v17 := ([40] : List UInt8) ++ x10
    bif decide (([40] : List UInt8).length + x10.length ≤ 9223372036854775807) then
    let v18 := ([40] : List UInt8) ++ x10
    bif decide (v18.length + ([32, 38, 32] : List UInt8).length ≤ 9223372036854775807) then
    let v19 := v18 ++ ([32, 38, 32] : List UInt8)
    bif decide (v19.length + x10.length ≤ 9223372036854775807) then
    bif decide ((v19 ++ x10).length + ([41] : List UInt8).length ≤ 9223372036854775807) then
    let v21 := (v19 ++ x10) ++ ([41] : List UInt8)
    law19_RulePrints_L1 N N [x10, v15, x7, v16, v17, v21] ([x10, v15, x7, v16, v17, v21].length : Int) 0
    else none
    else none
    else none
    else none
    else none
    else none
    else none
    else none
  else
    let v35 := v11.map fun n => UInt8.ofNat n.toNat
    bif decide (x10.length + ([32] : List UInt8).length ≤ 9223372036854775807) then
    let v36 := x10 ++ ([32] : List UInt8)
    bif decide (([40] : List UInt8).length + x10.length ≤ 9223372036854775807) then
    let v37 := ([40] : List UInt8) ++ x10
    bif decide (([40] : List UInt8).length + x10.length ≤ 9223372036854775807) then
    let v38 := ([40] : List UInt8) ++ x10
    bif decide (v38.length + ([32, 38, 32] : List UInt8).length ≤ 9223372036854775807) then
    let v39 := v38 ++ ([32, 38, 32] : List UInt8)
    bif decide (v39.length + x10.length ≤ 9223372036854775807) then
    bif decide ((v39 ++ x10).length + ([41] : List UInt8).length ≤ 9223372036854775807) then
    let v41 := (v39 ++ x10) ++ ([41] : List UInt8)
    law19_RulePrints_L1 N N [x10, v35, x7, v36, v37, v41] ([x10, v35, x7, v36, v37, v41].length : Int) 0
    else none
    else none
    else none
    else none
    else none
    else none := by kernel_rfl
theorem law19_RulePrints_J1_eq (N : Nat) (x7 : List UInt8) (x8 : Int) (x9 : Int) (x10 : List UInt8) : law19_RulePrints_J1 (N + 1) x7 x8 x9 x10 =
  let v11 := x10.map fun b => (b.toNat : Int)
  bif (decide ((v11.length : Int) > 0)) then
    Option.bind (draw_Mod (N + 1) x8 (v11.length : Int)) fun r12 =>
    bif inB ((W x9).tmod 11) ([99, 33, 40, 38, 124, 32, 41, 48, 49, 50, 51] : List UInt8).length then
    bif inB r12 v11.length then
    let v15 := (v11.set r12.toNat ((([99, 33, 40, 38, 124, 32, 41, 48, 49, 50, 51] : List UInt8).getD ((W x9).tmod 11).toNat 0).toNat : Int)).map fun n => UInt8.ofNat n.toNat
    bif decide (x10.length + ([32] : List UInt8).length ≤ 9223372036854775807) then
    let v16 := x10 ++ ([32] : List UInt8)
    bif decide (([40] : List UInt8).length + x10.length ≤ 9223372036854775807) then
    let v17 := ([40] : List UInt8) ++ x10
    bif decide (([40] : List UInt8).length + x10.length ≤ 9223372036854775807) then
    let v18 := ([40] : List UInt8) ++ x10
    bif decide (v18.length + ([32, 38, 32] : List UInt8).length ≤ 9223372036854775807) then
    let v19 := v18 ++ ([32, 38, 32] : List UInt8)
    bif decide (v19.length + x10.length ≤ 9223372036854775807) then
    bif decide ((v19 ++ x10).length + ([41] : List UInt8).length ≤ 9223372036854775807) then
    let v21 := (v19 ++ x10) ++ ([41] : List UInt8)
    law19_RulePrints_L1 (N + 1) (N + 1) [x10, v15, x7, v16, v17, v21] ([x10, v15, x7, v16, v17, v21].length : Int) 0
    else none
    else none
    else none
    else none
    else none
    else none
    else none
    else none
  else
    let v35 := v11.map fun n => UInt8.ofNat n.toNat
    bif decide (x10.length + ([32] : List UInt8).length ≤ 9223372036854775807) then
    let v36 := x10 ++ ([32] : List UInt8)
    bif decide (([40] : List UInt8).length + x10.length ≤ 9223372036854775807) then
    let v37 := ([40] : List UInt8) ++ x10
    bif decide (([40] : List UInt8).length + x10.length ≤ 9223372036854775807) then
    let v38 := ([40] : List UInt8) ++ x10
    bif decide (v38.length + ([32, 38, 32] : List UInt8).length ≤ 9223372036854775807) then
    let v39 := v38 ++ ([32, 38, 32] : List UInt8)
    bif decide (v39.length + x10.length ≤ 9223372036854775807) then
    bif decide ((v39 ++ x10).length + ([41] : List UInt8).length ≤ 9223372036854775807) then
    let v41 := (v39 ++ x10) ++ ([41] : List UInt8)
    law19_RulePrints_L1 (N + 1) (N + 1) [x10, v35, x7, v36, v37, v41] ([x10, v35, x7, v36, v37, v41].length : Int) 0
    else none
    else none
    else none
    else none
    else none
    else none := law19_RulePrints_J1_eqM (N + 1) N x7 x8 x9 x10
def law19_RulePrints (N : Nat) (a0 : List Int) (a1 : List UInt8) (a2 : Int) (a3 : Int) : Option Bool :=
  Option.bind (law19_made N a0 a2 ((W a3).tmod 8)) fun r1 =>
  Option.bind (rule_Print N r1) fun r2 =>
  Option.bind (ref19_Print N r1) fun r3 =>
  bif (!(r2.1 == r3.1)) then
    bif (r2.1 == r3.1) then
      bif (r2.2 == r3.2) then
        Option.bind (law19_awake N) fun r4 =>
        some r4
      else
        some false
    else
      some false
  else
    bif (r2.2 != r3.2) then
      bif (r2.1 == r3.1) then
        bif (r2.2 == r3.2) then
          Option.bind (law19_awake N) fun r5 =>
          some r5
        else
          some false
      else
        some false
    else
      bif (decide ((a1.length : Int) > 400)) then
        bif (r2.1 == r3.1) then
          bif (r2.2 == r3.2) then
            Option.bind (law19_awake N) fun r6 =>
            some r6
          else
            some false
        else
          some false
      else
        law19_RulePrints_J1 N a1 a2 a3 r3.1
theorem law19_RulePrints_fn : FnOK Tryd.prog 4 117 (fun _ : Nat => false) law19_RulePrints_C4.er [(.t 8)] := FnOK.mk' Tryd.func4 (by kernel_rfl) (by kernel_rfl) (by kernel_rfl) (by kernel_rfl) (by kernel_rfl)
theorem law19_RulePrints_envok (N : Nat) : EnvOK Tryd.prog (law19_RulePrints_E N) := .cons (pureE_ok (law19_made_pure N)) (.cons (pureE_ok (rule_Print_pure N)) (.cons (pureE_ok (ref19_Print_pure N)) (.cons (pureE_ok (law19_awake_pure N)) (.cons (pureE_ok (draw_Mod_pure N)) (.cons (pureE_ok (rule_Parse_pure N)) (.cons (pureE_ok (ref19_Parse_pure N)) (.cons (pureE_ok (ref19_Same_pure N)) (.nil))))))))
theorem law19_RulePrints_pure (N : Nat) : PureOK Tryd.prog 4 [(.list (.int .u8)), .str, (.int .i64), (.int .u8)] [.bool] (fun x => law19_RulePrints N x.1 x.2.1 x.2.2.1 x.2.2.2) := pureOK (N := N) mixed law19_RulePrints_fn (law19_RulePrints_envok N) (TC.noh_ok (by kernel_rfl)) rfl (fun x => by kernel_rfl)
end M
end Go.Proofs.YthfejkflhpifnaaDoor
