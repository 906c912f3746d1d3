/- Plain models of functions of this seat, each checked against the loaded program and the walk by the kernel. No condition: closed facts. Printed by a program of ours. -/
import Derived.Test.YtipokcccpbcmeaaDoorM1
set_option linter.all false
namespace Go.Proofs.YtipokcccpbcmeaaDoor
open Go.Pv
namespace M
/-! plan_clone -/
/-! plan_spanIn -/
/-! plan_Check -/
/-! plan_Apply -/
/-! plan_All -/
/-! survey_Read -/
/-! ref02_number -/
def ref02_number_N1 : List NS := [.keep [0, 4, 5, 6], .cmp]
def ref02_number_C4 : TC := (.cond (.t 15) .skip (.exit 0))
def ref02_number_C14 : TC := .ret
def ref02_number_C9 : TC := (.cond (.t 27) (.seq (.rg [⟨⟨some 2, (.mov (.c (I 0))), none⟩, {}⟩, ⟨⟨some 3, (.mov (.c (B false))), none⟩, {}⟩] none) ref02_number_C14) .skip)
def ref02_number_C10 : TC := (.rg [⟨⟨some 28, (.mov (.t 5)), none⟩, {}⟩, ⟨⟨some 29, (.bin .mul (.c (I 10)) (.t 28)), none⟩, {}⟩, ⟨⟨some 30, (.mov (.t 4)), none⟩, {}⟩, ⟨⟨some 31, (.mov (.t 6)), none⟩, {}⟩, ⟨⟨some 32, (.sidx (.t 30) (.t 31)), none⟩, {}⟩, ⟨⟨some 33, (.bin .sub (.t 32) (.c (.v (.int .u8 48)))), none⟩, {}⟩, ⟨⟨some
  34, (.conv .i64 (.t 33)), none⟩, {}⟩, ⟨⟨some 35, (.bin .add (.t 29) (.t 34)), none⟩, {}⟩, ⟨⟨some 5, (.mov (.t 35)), none⟩, {}⟩] none)
def ref02_number_C11 : TC := (.rg [⟨⟨some 16, (.mov (.t 6)), none⟩, {}⟩, ⟨⟨some 17, (.bin .add (.t 16) (.c (I 1))), none⟩, {}⟩, ⟨⟨some 6, (.mov (.t 17)), none⟩, {}⟩] none)
def ref02_number_C5 : TC := (.seq (.block 1 (.seq (.seq (.rg [⟨⟨some 18, (.mov (.t 4)), none⟩, {}⟩, ⟨⟨some 19, (.mov (.t 6)), none⟩, {}⟩, ⟨⟨some 20, (.sidx (.t 18) (.t 19)), none⟩, {}⟩, ⟨⟨some 21, (.bin .lss (.t 20) (.c (.v (.int .u8 48)))), none⟩, {}⟩, ⟨⟨some 22, (.mov (.t 21)), none⟩, {}⟩, ⟨⟨some 23, (.mov (.t 4)), some (22,
  false)⟩, {}⟩, ⟨⟨some 24, (.mov (.t 6)), some (22, false)⟩, {}⟩, ⟨⟨some 25, (.sidx (.t 23) (.t 24)), some (22, false)⟩, {}⟩, ⟨⟨some 26, (.bin .gtr (.t 25) (.c (.v (.int .u8 57)))), some (22, false)⟩, {}⟩, ⟨⟨some 27, (.pick (.t 22) (.c (B true)) (.t 26)), none⟩, {}⟩] none) ref02_number_C9)
  ref02_number_C10)) ref02_number_C11)
def ref02_number_C1 : TC := (.seq (.seq (.rg [⟨⟨some 12, (.mov (.t 6)), none⟩, {}⟩, ⟨⟨some 13, (.mov (.t 4)), none⟩, {}⟩, ⟨⟨some 14, (.lens (.t 13)), none⟩, {}⟩, ⟨⟨some 15, (.bin .lss (.t 12) (.t 14)), none⟩, {}⟩] none) ref02_number_C4) ref02_number_C5)
def ref02_number_C6 : TC := (.cond (.t 40) (.rg [⟨⟨some 41, (.mov (.t 5)), none⟩, {}⟩, ⟨⟨some 42, (.un .neg (.t 41)), none⟩, {}⟩, ⟨⟨some 5, (.mov (.t 42)), none⟩, {}⟩] none) .skip)
def ref02_number_C12 : TC := .ret
def ref02_number_C7 : TC := (.seq (.rg [⟨⟨some 43, (.mov (.t 5)), none⟩, {}⟩, ⟨⟨some 44, (.mov (.t 5)), none⟩, {}⟩, ⟨⟨some 45, (.call (.c (.fn 43 [])) [(.t 44)]), none⟩, {}⟩, ⟨⟨some 46, (.mov (.t 0)), none⟩, {}⟩, ⟨⟨some 47, (.bin .eql (.t 45) (.t 46)), none⟩, {}⟩, ⟨⟨some 2, (.mov (.t 43)), none⟩, {}⟩, ⟨⟨some 3, (.mov (.t 47)),
  none⟩, {}⟩] none) ref02_number_C12)
def ref02_number_C2 : TC := (.seq (.seq (.rg [⟨⟨some 36, (.mov (.t 4)), none⟩, {}⟩, ⟨⟨some 37, (.lens (.t 36)), none⟩, {}⟩, ⟨⟨some 38, (.mov (.t 0)), none⟩, {}⟩, ⟨⟨some 39, (.lens (.t 38)), none⟩, {}⟩, ⟨⟨some 40, (.bin .lss (.t 37) (.t 39)), none⟩, {}⟩] none) ref02_number_C6) ref02_number_C7)
def ref02_number_E (N : Nat) : List (Nat × Ent) := [(60, pureE [.str, .str] [.str] (fun x => strings_TrimPrefix N x.1 x.2)), (43, pureE [(.int .i64)] [.str] (fun x => strconv_Itoa N x))]
def ref02_number_L1 (N : Nat) (n : Nat) (x2 : List UInt8) (x3 : List UInt8) (x4 : Int) (x5 : Int) : Option (Int × Bool) := loopN (normI 0 ref02_number_N1) (run (ref02_number_E N) N 0 ref02_number_C1) n ⟨[(0, .str x2), (4, .str x3), (5, .int .i64 x4), (6, .int .i64 x5)], []⟩ (blkK 0 (seqK (run (ref02_number_E N) N 0 ref02_number_C2) (fin [(.t 2), (.t 3)] [(.int .i64), .bool])))
theorem ref02_number_L1_succ (N : Nat) (n1 : Nat) (x2 : List UInt8) (x3 : List UInt8) (x4 : Int) (x5 : Int) : ref02_number_L1 N (n1 + 1) x2 x3 x4 x5 =
  bif (decide (x5 < (x3.length : Int))) then
    bif inB x5 x3.length then
    bif (decide (((x3.getD x5.toNat 0).toNat : Int) < 48)) then
      some (0, false)
    else
      bif inB x5 x3.length then
      bif (decide (((x3.getD x5.toNat 0).toNat : Int) > 57)) then
        some (0, false)
      else
        bif inB x5 x3.length then
        ref02_number_L1 N n1 x2 x3 (W ((W (10 * x4)) + (W (IntKind.u8.wrap (((x3.getD x5.toNat 0).toNat : Int) - 48))))) (W (x5 + 1))
        else none
      else none
    else none
  else
    bif (decide ((x3.length : Int) < (x2.length : Int))) then
      Option.bind (strconv_Itoa N (W (0 - x4))) fun r15 =>
      some (W (0 - x4), (r15 == x2))
    else
      Option.bind (strconv_Itoa N x4) fun r16 =>
      some (x4, (r16 == x2)) := by kernel_rfl
def ref02_number (N : Nat) (a0 : List UInt8) : Option (Int × Bool) :=
  Option.bind (strings_TrimPrefix N a0 [45]) fun r1 =>
  bif (decide ((r1.length : Int) > 18)) then
    some (0, false)
  else
    ref02_number_L1 N N a0 r1 0 0
/-! ref02_numbers -/
def ref02_numbers_N1 : List NS := [.own 4 (.int .i64), .wk 0 (.list .str), .keep [0, 4, 5], .cmp]
def ref02_numbers_C4 : TC := (.cond (.t 11) .skip (.exit 0))
def ref02_numbers_C17 : TC := .ret
def ref02_numbers_C16 : TC := (.pre [.frz 2] ref02_numbers_C17)
def ref02_numbers_C12 : TC := (.cond (.t 23) (.seq (.rg [⟨⟨some 2, (.mov (.c (.lst true []))), none⟩, {}⟩, ⟨⟨some 3, (.mov (.c (B false))), none⟩, {}⟩] none) ref02_numbers_C16) .skip)
def ref02_numbers_C13 : TC := (.rg [⟨⟨some 24, (.mov (.t 4)), none⟩, {}⟩, ⟨⟨some 25, (.mov (.t 6)), none⟩, {}⟩, ⟨⟨some 26, (.bslice false 1 [(I 0)] 1 [(0, (.t 25))]), none⟩, ⟨(.int .i64), none, []⟩⟩, ⟨⟨some 27, (.app 1 8 (.t 24) (.t 26)), none⟩, {}⟩, ⟨⟨some 4, (.mov (.t 27)), none⟩, {}⟩] none)
def ref02_numbers_C8 : TC := (.seq (.seq (.rg [⟨⟨some 22, (.mov (.t 7)), none⟩, {}⟩, ⟨⟨some 23, (.un .not (.t 22)), none⟩, {}⟩] none) ref02_numbers_C12) ref02_numbers_C13)
def ref02_numbers_C9 : TC := (.rg [⟨⟨some 12, (.mov (.t 5)), none⟩, {}⟩, ⟨⟨some 13, (.bin .add (.t 12) (.c (I 1))), none⟩, {}⟩, ⟨⟨some 5, (.mov (.t 13)), none⟩, {}⟩] none)
def ref02_numbers_C5 : TC := (.seq (.block 1 (.seq (.rg [⟨⟨some 15, (.mov (.t 0)), none⟩, {}⟩, ⟨⟨some 16, (.mov (.t 5)), none⟩, {}⟩, ⟨⟨some 17, (.iadrS 1 (.t 15) (.t 16)), none⟩, {}⟩, ⟨⟨some 18, (.load false 1 (.t 17)), none⟩, {}⟩, ⟨⟨some 19, (.call (.c (.fn 52 [])) [(.t 18)]), none⟩, {}⟩, ⟨⟨some 14, (.mov (.t 19)), none⟩, {}⟩,
  ⟨⟨some 20, (.extr 0 (.t 14)), none⟩, {}⟩, ⟨⟨some 21, (.extr 1 (.t 14)), none⟩, {}⟩, ⟨⟨some 6, (.mov (.t 20)), none⟩, {}⟩, ⟨⟨some 7, (.mov (.t 21)), none⟩, {}⟩] none) ref02_numbers_C8)) ref02_numbers_C9)
def ref02_numbers_C1 : TC := (.seq (.seq (.rg [⟨⟨some 8, (.mov (.t 5)), none⟩, {}⟩, ⟨⟨some 9, (.mov (.t 0)), none⟩, {}⟩, ⟨⟨some 10, (.len (.t 9)), none⟩, {}⟩, ⟨⟨some 11, (.bin .lss (.t 8) (.t 10)), none⟩, {}⟩] none) ref02_numbers_C4) ref02_numbers_C5)
def ref02_numbers_C14 : TC := .ret
def ref02_numbers_C10 : TC := (.pre [.frz 2] ref02_numbers_C14)
def ref02_numbers_C6 : TC := (.seq (.rg [⟨⟨some 28, (.mov (.t 4)), none⟩, {}⟩, ⟨⟨some 2, (.mov (.t 28)), none⟩, {}⟩, ⟨⟨some 3, (.mov (.c (B true))), none⟩, {}⟩] none) ref02_numbers_C10)
def ref02_numbers_C2 : TC := (.pre [.frz 4] ref02_numbers_C6)
def ref02_numbers_E (N : Nat) : List (Nat × Ent) := [(52, pureE [.str] [(.int .i64), .bool] (fun x => ref02_number N x))]
def ref02_numbers_L1 (N : Nat) (n : Nat) (x1 : List (List UInt8)) (x2 : Int) (x3 : List Int) : Option ((List Int) × Bool) := loopN (normI 0 ref02_numbers_N1) (run (ref02_numbers_E N) N 0 ref02_numbers_C1) n ⟨[(0, .lst false .str x1), (4, .whole 0), (5, .int .i64 x2)], [some (.arr (.int .i64) x3)]⟩ (blkK 0 (seqK (run (ref02_numbers_E N) N 0 ref02_numbers_C2) (fin [(.t 2), (.t 3)] [(.list (.int .i64)), .bool])))
theorem ref02_numbers_L1_succ (N : Nat) (n1 : Nat) (x1 : List (List UInt8)) (x2 : Int) (x3 : List Int) : ref02_numbers_L1 N (n1 + 1) x1 x2 x3 =
  bif (decide (x2 < (x1.length : Int))) then
    bif inB x2 x1.length then
    Option.bind (ref02_number N (x1.getD x2.toNat [])) fun r4 =>
    bif (!r4.2) then
      some ([], false)
    else
      bif fitsB (x3.length + 1) 8 then
      ref02_numbers_L1 N n1 x1 (W (x2 + 1)) (x3 ++ [r4.1])
      else none
    else none
  else
    some (x3, true) := by kernel_rfl
def ref02_numbers (N : Nat) (a0 : List (List UInt8)) : Option ((List Int) × Bool) :=
  ref02_numbers_L1 N N a0 0 []
/-! ref02_edit -/
def ref02_edit_C26 : TC := .ret
def ref02_edit_C20 : TC := (.cond (.t 95) (.seq (.rg [⟨⟨some 96, (.build [(I 0), (I 0), (B false), (I 0), (I 0), (I 0), (I 0), (B false), (B false), (I 0), (I 0), (I 0), (I 0), (I 0), (I 0), (I 0)] []), none⟩, {}⟩, ⟨⟨none, (.store 16 (.t 2) (.t 96)), none⟩, {}⟩, ⟨⟨some 3, (.mov (.c (B false))), none⟩, {}⟩] none)
  ref02_edit_C26) .skip)
def ref02_edit_C27 : TC := .ret
def ref02_edit_C21 : TC := (.seq (.rg [⟨⟨some 97, (.mov (.t 7)), none⟩, {}⟩, ⟨⟨some 98, (.iadrS 1 (.t 97) (.c (I 0))), none⟩, {}⟩, ⟨⟨some 99, (.load false 1 (.t 98)), none⟩, {}⟩, ⟨⟨some 100, (.mov (.t 7)), none⟩, {}⟩, ⟨⟨some 101, (.iadrS 1 (.t 100) (.c (I 1))), none⟩, {}⟩, ⟨⟨some 102, (.load false 1 (.t 101)), none⟩, {}⟩,
  ⟨⟨some 103, (.mov (.t 7)), none⟩, {}⟩, ⟨⟨some 104, (.iadrS 1 (.t 103) (.c (I 2))), none⟩, {}⟩, ⟨⟨some 105, (.load false 1 (.t 104)), none⟩, {}⟩, ⟨⟨some 106, (.mov (.t 7)), none⟩, {}⟩, ⟨⟨some 107, (.iadrS 1 (.t 106) (.c (I 3))), none⟩, {}⟩, ⟨⟨some 108, (.load false 1 (.t 107)), none⟩, {}⟩, ⟨⟨some
  109, (.mov (.t 4)), none⟩, {}⟩, ⟨⟨some 110, (.iadrS 1 (.t 109) (.c (I 5))), none⟩, {}⟩, ⟨⟨some 111, (.load false 1 (.t 110)), none⟩, {}⟩, ⟨⟨some 112, (.bin .eql (.t 111) (.c (.v (.string ⟨⟨[119, 97, 108, 107]⟩⟩)))), none⟩, {}⟩, ⟨⟨some 113, (.mov (.t 9)), none⟩, {}⟩, ⟨⟨some 114, (.iadrS 1 (.t 113)
  (.c (I 0))), none⟩, {}⟩, ⟨⟨some 115, (.load false 1 (.t 114)), none⟩, {}⟩, ⟨⟨some 116, (.mov (.t 9)), none⟩, {}⟩, ⟨⟨some 117, (.iadrS 1 (.t 116) (.c (I 1))), none⟩, {}⟩, ⟨⟨some 118, (.load false 1 (.t 117)), none⟩, {}⟩, ⟨⟨some 119, (.build [(I 0), (I 0)] [(0, (1, (.t 115))), (1, (1, (.t 118)))]),
  none⟩, {}⟩, ⟨⟨some 120, (.mov (.t 9)), none⟩, {}⟩, ⟨⟨some 121, (.iadrS 1 (.t 120) (.c (I 2))), none⟩, {}⟩, ⟨⟨some 122, (.load false 1 (.t 121)), none⟩, {}⟩, ⟨⟨some 123, (.mov (.t 9)), none⟩, {}⟩, ⟨⟨some 124, (.iadrS 1 (.t 123) (.c (I 3))), none⟩, {}⟩, ⟨⟨some 125, (.load false 1 (.t 124)), none⟩,
  {}⟩, ⟨⟨some 126, (.build [(I 0), (I 0)] [(0, (1, (.t 122))), (1, (1, (.t 125)))]), none⟩, {}⟩, ⟨⟨some 127, (.build [(I 0), (I 0), (I 0), (I 0), (B false), (B false), (I 0), (I 0), (I 0), (I 0)] [(0, (1, (.t 99))), (1, (1, (.t 102))), (2, (1, (.t 105))), (3, (1, (.t 108))), (4, (1, (.t 112))), (6,
  (2, (.t 119))), (8, (2, (.t 126)))]), none⟩, {}⟩, ⟨⟨some 128, (.build [(I 0), (I 0), (B false), (I 0), (I 0), (I 0), (I 0), (B false), (B false), (I 0), (I 0), (I 0), (I 0), (I 0), (I 0), (I 0)] [(0, (1, (.c (I 2)))), (3, (10, (.t 127)))]), none⟩, {}⟩, ⟨⟨none, (.store 16 (.t 2) (.t 128)), none⟩,
  {}⟩, ⟨⟨some 3, (.mov (.c (B true))), none⟩, {}⟩] (some [])) ref02_edit_C27)
def ref02_edit_C15 : TC := (.seq (.seq (.rg [⟨⟨some 90, (.mov (.t 8)), none⟩, {}⟩, ⟨⟨some 91, (.un .not (.t 90)), none⟩, {}⟩, ⟨⟨some 92, (.mov (.t 91)), none⟩, {}⟩, ⟨⟨some 93, (.mov (.t 10)), some (92, false)⟩, {}⟩, ⟨⟨some 94, (.un .not (.t 93)), some (92, false)⟩, {}⟩, ⟨⟨some 95, (.pick (.t 92) (.c (B true)) (.t 94)), none⟩,
  {}⟩] none) ref02_edit_C20) ref02_edit_C21)
def ref02_edit_C8 : TC := (.seq (.rg [⟨⟨some 85, (.mov (.t 4)), none⟩, {}⟩, ⟨⟨some 86, (.slc 1 (.t 85) (some (.c (I 6))) none), none⟩, {}⟩, ⟨⟨some 87, (.call (.c (.fn 63 [])) [(.t 86)]), none⟩, {}⟩, ⟨⟨some 84, (.mov (.t 87)), none⟩, {}⟩, ⟨⟨some 88, (.extr 0 (.t 84)), none⟩, {}⟩, ⟨⟨some 89, (.extr 1 (.t 84)), none⟩, {}⟩,
  ⟨⟨some 9, (.mov (.t 88)), none⟩, {}⟩, ⟨⟨some 10, (.mov (.t 89)), none⟩, {}⟩] none) ref02_edit_C15)
def ref02_edit_C1 : TC := (.seq (.rg [⟨⟨some 79, (.mov (.t 4)), none⟩, {}⟩, ⟨⟨some 80, (.slc 1 (.t 79) (some (.c (I 1))) (some (.c (I 5)))), none⟩, {}⟩, ⟨⟨some 81, (.call (.c (.fn 63 [])) [(.t 80)]), none⟩, {}⟩, ⟨⟨some 78, (.mov (.t 81)), none⟩, {}⟩, ⟨⟨some 82, (.extr 0 (.t 78)), none⟩, {}⟩, ⟨⟨some 83, (.extr 1 (.t 78)),
  none⟩, {}⟩, ⟨⟨some 7, (.mov (.t 82)), none⟩, {}⟩, ⟨⟨some 8, (.mov (.t 83)), none⟩, {}⟩] none) ref02_edit_C8)
def ref02_edit_C9 : TC := .ret
def ref02_edit_C2 : TC := (.seq (.rg [⟨⟨some 203, (.build [(I 0), (I 0), (B false), (I 0), (I 0), (I 0), (I 0), (B false), (B false), (I 0), (I 0), (I 0), (I 0), (I 0), (I 0), (I 0)] []), none⟩, {}⟩, ⟨⟨none, (.store 16 (.t 2) (.t 203)), none⟩, {}⟩, ⟨⟨some 3, (.mov (.c (B false))), none⟩, {}⟩] none) ref02_edit_C9)
def ref02_edit_C22 : TC := .ret
def ref02_edit_C16 : TC := (.cond (.t 184) (.seq (.rg [⟨⟨some 185, (.build [(I 0), (I 0), (B false), (I 0), (I 0), (I 0), (I 0), (B false), (B false), (I 0), (I 0), (I 0), (I 0), (I 0), (I 0), (I 0)] []), none⟩, {}⟩, ⟨⟨none, (.store 16 (.t 2) (.t 185)), none⟩, {}⟩, ⟨⟨some 3, (.mov (.c (B false))), none⟩, {}⟩] none)
  ref02_edit_C22) .skip)
def ref02_edit_C28 : TC := (.cond (.t 200) (.rg [⟨⟨some 201, (.fadr 0 (.t 16)), none⟩, {}⟩, ⟨⟨none, (.store 1 (.t 201) (.c (I 6))), none⟩, {}⟩] none) .skip)
def ref02_edit_C33 : TC := .ret
def ref02_edit_C29 : TC := (.seq (.rg [⟨⟨some 202, (.load true 16 (.t 16)), none⟩, {}⟩, ⟨⟨none, (.store 16 (.t 2) (.t 202)), none⟩, {}⟩, ⟨⟨some 3, (.mov (.c (B true))), none⟩, {}⟩] none) ref02_edit_C33)
def ref02_edit_C23 : TC := (.seq (.seq (.rg [⟨⟨some 197, (.mov (.t 4)), none⟩, {}⟩, ⟨⟨some 198, (.iadrS 1 (.t 197) (.c (I 0))), none⟩, {}⟩, ⟨⟨some 199, (.load false 1 (.t 198)), none⟩, {}⟩, ⟨⟨some 200, (.bin .eql (.t 199) (.c (.v (.string ⟨⟨[108, 105, 102, 116]⟩⟩)))), none⟩, {}⟩] none) ref02_edit_C28) ref02_edit_C29)
def ref02_edit_C17 : TC := (.seq (.pre [.wait] (.rg [⟨⟨some 186, (.mov (.t 14)), none⟩, {}⟩, ⟨⟨some 187, (.iadrS 1 (.t 186) (.c (I 0))), none⟩, {}⟩, ⟨⟨some 188, (.load false 1 (.t 187)), none⟩, {}⟩, ⟨⟨some 189, (.mov (.t 14)), none⟩, {}⟩, ⟨⟨some 190, (.iadrS 1 (.t 189) (.c (I 1))), none⟩, {}⟩, ⟨⟨some 191, (.load false 1 (.t
  190)), none⟩, {}⟩, ⟨⟨some 192, (.mov (.t 14)), none⟩, {}⟩, ⟨⟨some 193, (.iadrS 1 (.t 192) (.c (I 2))), none⟩, {}⟩, ⟨⟨some 194, (.load false 1 (.t 193)), none⟩, {}⟩, ⟨⟨some 195, (.build [(I 0), (I 0)] [(0, (1, (.t 191))), (1, (1, (.t 194)))]), none⟩, {}⟩, ⟨⟨some 196, (.build [(I 0), (I 0), (B
  false), (I 0), (I 0), (I 0), (I 0), (B false), (B false), (I 0), (I 0), (I 0), (I 0), (I 0), (I 0), (I 0)] [(0, (1, (.c (I 5)))), (13, (1, (.t 188))), (14, (2, (.t 195)))]), none⟩, {}⟩, ⟨⟨some 16, (.alloc [(I 0), (I 0), (B false), (I 0), (I 0), (I 0), (I 0), (B false), (B false), (I 0), (I 0), (I
  0), (I 0), (I 0), (I 0), (I 0)]), none⟩, ⟨.unit, some 1, []⟩⟩, ⟨⟨none, (.store 16 (.t 16) (.t 196)), none⟩, {}⟩] (some [(1, 11), (2, 11), (4, 11), (5, 11), (7, 11), (8, 11)]))) ref02_edit_C23)
def ref02_edit_C10 : TC := (.seq (.seq (.rg [⟨⟨some 183, (.mov (.t 15)), none⟩, {}⟩, ⟨⟨some 184, (.un .not (.t 183)), none⟩, {}⟩] none) ref02_edit_C16) ref02_edit_C17)
def ref02_edit_C3 : TC := (.seq (.rg [⟨⟨some 178, (.mov (.t 4)), none⟩, {}⟩, ⟨⟨some 179, (.slc 1 (.t 178) (some (.c (I 1))) none), none⟩, {}⟩, ⟨⟨some 180, (.call (.c (.fn 63 [])) [(.t 179)]), none⟩, {}⟩, ⟨⟨some 177, (.mov (.t 180)), none⟩, {}⟩, ⟨⟨some 181, (.extr 0 (.t 177)), none⟩, {}⟩, ⟨⟨some 182, (.extr 1 (.t 177)), none⟩,
  {}⟩, ⟨⟨some 14, (.mov (.t 181)), none⟩, {}⟩, ⟨⟨some 15, (.mov (.t 182)), none⟩, {}⟩] none) ref02_edit_C10)
def ref02_edit_C11 : TC := (.cond (.t 161) (.join [.wk 4 (.list .str), .keep [2, 4], .cmp] ref02_edit_C3) .skip)
def ref02_edit_C4 : TC := (.seq (.rg [⟨⟨some 162, (.mov (.t 4)), none⟩, {}⟩, ⟨⟨some 163, (.iadrS 1 (.t 162) (.c (I 0))), none⟩, {}⟩, ⟨⟨some 164, (.load false 1 (.t 163)), none⟩, {}⟩, ⟨⟨some 165, (.bin .eql (.t 164) (.c (.v (.string ⟨⟨[114, 101, 115, 116]⟩⟩)))), none⟩, {}⟩, ⟨⟨some 166, (.mov (.t 165)), none⟩, {}⟩, ⟨⟨some 167,
  (.mov (.t 4)), some (166, false)⟩, {}⟩, ⟨⟨some 168, (.iadrS 1 (.t 167) (.c (I 0))), some (166, false)⟩, {}⟩, ⟨⟨some 169, (.load false 1 (.t 168)), some (166, false)⟩, {}⟩, ⟨⟨some 170, (.bin .eql (.t 169) (.c (.v (.string ⟨⟨[108, 105, 102, 116]⟩⟩)))), some (166, false)⟩, {}⟩, ⟨⟨some 171, (.pick (.t
  166) (.c (B true)) (.t 170)), none⟩, {}⟩, ⟨⟨some 172, (.mov (.t 171)), none⟩, {}⟩, ⟨⟨some 173, (.mov (.t 4)), some (172, true)⟩, {}⟩, ⟨⟨some 174, (.len (.t 173)), some (172, true)⟩, {}⟩, ⟨⟨some 175, (.bin .eql (.t 174) (.c (I 4))), some (172, true)⟩, {}⟩, ⟨⟨some 176, (.pick (.t 172) (.t 175) (.c (B
  false))), none⟩, {}⟩, ⟨⟨some 161, (.mov (.t 176)), none⟩, {}⟩] none) ref02_edit_C11)
def ref02_edit_C30 : TC := (.cond (.t 157) (.rg [⟨⟨some 158, (.fadr 0 (.t 13)), none⟩, {}⟩, ⟨⟨none, (.store 1 (.t 158) (.c (I 4))), none⟩, {}⟩] none) .skip)
def ref02_edit_C34 : TC := .ret
def ref02_edit_C31 : TC := (.seq (.rg [⟨⟨some 159, (.load true 16 (.t 13)), none⟩, {}⟩, ⟨⟨some 160, (.mov (.t 12)), none⟩, {}⟩, ⟨⟨none, (.store 16 (.t 2) (.t 159)), none⟩, {}⟩, ⟨⟨some 3, (.mov (.t 160)), none⟩, {}⟩] none) ref02_edit_C34)
def ref02_edit_C24 : TC := (.seq (.seq (.rg [⟨⟨some 154, (.mov (.t 4)), none⟩, {}⟩, ⟨⟨some 155, (.iadrS 1 (.t 154) (.c (I 0))), none⟩, {}⟩, ⟨⟨some 156, (.load false 1 (.t 155)), none⟩, {}⟩, ⟨⟨some 157, (.bin .eql (.t 156) (.c (.v (.string ⟨⟨[111, 112, 101, 110]⟩⟩)))), none⟩, {}⟩] none) ref02_edit_C30) ref02_edit_C31)
def ref02_edit_C18 : TC := (.seq (.rg [⟨⟨some 152, (.mov (.t 11)), none⟩, {}⟩, ⟨⟨some 153, (.build [(I 0), (I 0), (B false), (I 0), (I 0), (I 0), (I 0), (B false), (B false), (I 0), (I 0), (I 0), (I 0), (I 0), (I 0), (I 0)] [(0, (1, (.c (I 3)))), (13, (1, (.t 152)))]), none⟩, {}⟩, ⟨⟨some 13, (.alloc [(I 0), (I 0), (B false),
  (I 0), (I 0), (I 0), (I 0), (B false), (B false), (I 0), (I 0), (I 0), (I 0), (I 0), (I 0), (I 0)]), none⟩, {}⟩, ⟨⟨none, (.store 16 (.t 13) (.t 153)), none⟩, {}⟩] none) ref02_edit_C24)
def ref02_edit_C12 : TC := (.cond (.t 129) (.seq (.rg [⟨⟨some 146, (.mov (.t 4)), none⟩, {}⟩, ⟨⟨some 147, (.iadrS 1 (.t 146) (.c (I 1))), none⟩, {}⟩, ⟨⟨some 148, (.load false 1 (.t 147)), none⟩, {}⟩, ⟨⟨some 149, (.call (.c (.fn 52 [])) [(.t 148)]), none⟩, {}⟩, ⟨⟨some 145, (.mov (.t 149)), none⟩, {}⟩, ⟨⟨some 150, (.extr 0 (.t
  145)), none⟩, {}⟩, ⟨⟨some 151, (.extr 1 (.t 145)), none⟩, {}⟩, ⟨⟨some 11, (.mov (.t 150)), none⟩, {}⟩, ⟨⟨some 12, (.mov (.t 151)), none⟩, {}⟩] none) ref02_edit_C18) (.join [.wk 4 (.list .str), .keep [2, 4], .cmp] ref02_edit_C4))
def ref02_edit_C5 : TC := (.seq (.rg [⟨⟨some 130, (.mov (.t 4)), none⟩, {}⟩, ⟨⟨some 131, (.iadrS 1 (.t 130) (.c (I 0))), none⟩, {}⟩, ⟨⟨some 132, (.load false 1 (.t 131)), none⟩, {}⟩, ⟨⟨some 133, (.bin .eql (.t 132) (.c (.v (.string ⟨⟨[99, 108, 111, 115, 101]⟩⟩)))), none⟩, {}⟩, ⟨⟨some 134, (.mov (.t 133)), none⟩, {}⟩, ⟨⟨some
  135, (.mov (.t 4)), some (134, false)⟩, {}⟩, ⟨⟨some 136, (.iadrS 1 (.t 135) (.c (I 0))), some (134, false)⟩, {}⟩, ⟨⟨some 137, (.load false 1 (.t 136)), some (134, false)⟩, {}⟩, ⟨⟨some 138, (.bin .eql (.t 137) (.c (.v (.string ⟨⟨[111, 112, 101, 110]⟩⟩)))), some (134, false)⟩, {}⟩, ⟨⟨some 139, (.pick
  (.t 134) (.c (B true)) (.t 138)), none⟩, {}⟩, ⟨⟨some 140, (.mov (.t 139)), none⟩, {}⟩, ⟨⟨some 141, (.mov (.t 4)), some (140, true)⟩, {}⟩, ⟨⟨some 142, (.len (.t 141)), some (140, true)⟩, {}⟩, ⟨⟨some 143, (.bin .eql (.t 142) (.c (I 2))), some (140, true)⟩, {}⟩, ⟨⟨some 144, (.pick (.t 140) (.t 143)
  (.c (B false))), none⟩, {}⟩, ⟨⟨some 129, (.mov (.t 144)), none⟩, {}⟩] none) ref02_edit_C12)
def ref02_edit_C13 : TC := (.cond (.t 56) (.join [.wk 4 (.list .str), .keep [2, 4], .cmp] ref02_edit_C1) (.join [.wk 4 (.list .str), .keep [2, 4], .cmp] ref02_edit_C5))
def ref02_edit_C6 : TC := (.seq (.rg [⟨⟨some 57, (.mov (.t 4)), none⟩, {}⟩, ⟨⟨some 58, (.iadrS 1 (.t 57) (.c (I 0))), none⟩, {}⟩, ⟨⟨some 59, (.load false 1 (.t 58)), none⟩, {}⟩, ⟨⟨some 60, (.bin .eql (.t 59) (.c (.v (.string ⟨⟨[114, 111, 97, 100]⟩⟩)))), none⟩, {}⟩, ⟨⟨some 61, (.mov (.t 60)), none⟩, {}⟩, ⟨⟨some 62, (.mov (.t
  4)), some (61, true)⟩, {}⟩, ⟨⟨some 63, (.len (.t 62)), some (61, true)⟩, {}⟩, ⟨⟨some 64, (.bin .eql (.t 63) (.c (I 10))), some (61, true)⟩, {}⟩, ⟨⟨some 65, (.pick (.t 61) (.t 64) (.c (B false))), none⟩, {}⟩, ⟨⟨some 66, (.mov (.t 65)), none⟩, {}⟩, ⟨⟨some 67, (.mov (.t 4)), some (66, true)⟩, {}⟩,
  ⟨⟨some 68, (.iadrS 1 (.t 67) (.c (I 5))), some (66, true)⟩, {}⟩, ⟨⟨some 69, (.load false 1 (.t 68)), some (66, true)⟩, {}⟩, ⟨⟨some 70, (.bin .eql (.t 69) (.c (.v (.string ⟨⟨[119, 97, 108, 107]⟩⟩)))), some (66, true)⟩, {}⟩, ⟨⟨some 71, (.mov (.t 70)), some (66, true)⟩, {}⟩, ⟨⟨some 72, (.mov (.t 4)),
  some (71, false)⟩, {}⟩, ⟨⟨some 73, (.iadrS 1 (.t 72) (.c (I 5))), some (71, false)⟩, {}⟩, ⟨⟨some 74, (.load false 1 (.t 73)), some (71, false)⟩, {}⟩, ⟨⟨some 75, (.bin .eql (.t 74) (.c (.v (.string ⟨⟨[109, 97, 99, 104, 105, 110, 101]⟩⟩)))), some (71, false)⟩, {}⟩, ⟨⟨some 76, (.pick (.t 71) (.c (B
  true)) (.t 75)), some (66, true)⟩, {}⟩, ⟨⟨some 77, (.pick (.t 66) (.t 76) (.c (B false))), none⟩, {}⟩, ⟨⟨some 56, (.mov (.t 77)), none⟩, {}⟩] none) ref02_edit_C13)
def ref02_edit_E (N : Nat) : List (Nat × Ent) := [(32, pureE [.str, .str] [(.list .str)] (fun x => strings_Split N x.1 x.2)), (52, pureE [.str] [(.int .i64), .bool] (fun x => ref02_number N x)), (63, pureE [(.list .str)] [(.list (.int .i64)), .bool] (fun x => ref02_numbers N x))]
def ref02_edit_J2 (N : Nat) (x30 : List (List UInt8)) (x31 : Int) (x32 : Int) (x33 : Bool) (x34 : Int) (x35 : Int) (x36 : Int) (x37 : Int) (x38 : Bool) (x39 : Bool) (x40 : Int) (x41 : Int) (x42 : Int) (x43 : Int) (x44 : Int) (x45 : Int) (x46 : Int) : Option (T_Edit × Bool) := joinN (run (ref02_edit_E N) N 0 ref02_edit_C1) N ⟨[(2, .ptr 0 0 0), (4, .lst false .str x30)], [some (.box 0 [.int .i64 x31, .int .i64 x32, .bool x33, .int .i64 x34, .int .i64 x35, .int .i64 x36, .int .i64 x37, .bool x38, .bool x39, .int .i64 x40, .int .i64 x41, .int .i64 x42, .int .i64 x43, .int .i64 x44, .int .i64 x45, .int .i64 x46])]⟩ (blkK 0 (seqK (run (ref02_edit_E N) N 0 ref02_edit_C2) (fin [(.cell 2 true 16), (.t 3)] [G_Edit, .bool])))
def ref02_edit_J5 (N : Nat) (x134 : List (List UInt8)) (x135 : Int) (x136 : Int) (x137 : Bool) (x138 : Int) (x139 : Int) (x140 : Int) (x141 : Int) (x142 : Bool) (x143 : Bool) (x144 : Int) (x145 : Int) (x146 : Int) (x147 : Int) (x148 : Int) (x149 : Int) (x150 : Int) : Option (T_Edit × Bool) := joinN (run (ref02_edit_E N) N 0 ref02_edit_C3) N ⟨[(2, .ptr 0 0 0), (4, .lst false .str x134)], [some (.box 0 [.int .i64 x135, .int .i64 x136, .bool x137, .int .i64 x138, .int .i64 x139, .int .i64 x140, .int .i64 x141, .bool x142, .bool x143, .int .i64 x144, .int .i64 x145, .int .i64 x146, .int .i64 x147, .int .i64 x148, .int .i64 x149, .int .i64 x150])]⟩ (blkK 0 (seqK (run (ref02_edit_E N) N 0 ref02_edit_C2) (fin [(.cell 2 true 16), (.t 3)] [G_Edit, .bool])))
def ref02_edit_J4 (N : Nat) (x116 : List (List UInt8)) (x117 : Int) (x118 : Int) (x119 : Bool) (x120 : Int) (x121 : Int) (x122 : Int) (x123 : Int) (x124 : Bool) (x125 : Bool) (x126 : Int) (x127 : Int) (x128 : Int) (x129 : Int) (x130 : Int) (x131 : Int) (x132 : Int) : Option (T_Edit × Bool) := joinN (run (ref02_edit_E N) N 0 ref02_edit_C4) N ⟨[(2, .ptr 0 0 0), (4, .lst false .str x116)], [some (.box 0 [.int .i64 x117, .int .i64 x118, .bool x119, .int .i64 x120, .int .i64 x121, .int .i64 x122, .int .i64 x123, .bool x124, .bool x125, .int .i64 x126, .int .i64 x127, .int .i64 x128, .int .i64 x129, .int .i64 x130, .int .i64 x131, .int .i64 x132])]⟩ (blkK 0 (seqK (run (ref02_edit_E N) N 0 ref02_edit_C2) (fin [(.cell 2 true 16), (.t 3)] [G_Edit, .bool])))
def ref02_edit_J3 (N : Nat) (x95 : List (List UInt8)) (x96 : Int) (x97 : Int) (x98 : Bool) (x99 : Int) (x100 : Int) (x101 : Int) (x102 : Int) (x103 : Bool) (x104 : Bool) (x105 : Int) (x106 : Int) (x107 : Int) (x108 : Int) (x109 : Int) (x110 : Int) (x111 : Int) : Option (T_Edit × Bool) := joinN (run (ref02_edit_E N) N 0 ref02_edit_C5) N ⟨[(2, .ptr 0 0 0), (4, .lst false .str x95)], [some (.box 0 [.int .i64 x96, .int .i64 x97, .bool x98, .int .i64 x99, .int .i64 x100, .int .i64 x101, .int .i64 x102, .bool x103, .bool x104, .int .i64 x105, .int .i64 x106, .int .i64 x107, .int .i64 x108, .int .i64 x109, .int .i64 x110, .int .i64 x111])]⟩ (blkK 0 (seqK (run (ref02_edit_E N) N 0 ref02_edit_C2) (fin [(.cell 2 true 16), (.t 3)] [G_Edit, .bool])))
def ref02_edit_J1 (N : Nat) (x11 : List (List UInt8)) (x12 : Int) (x13 : Int) (x14 : Bool) (x15 : Int) (x16 : Int) (x17 : Int) (x18 : Int) (x19 : Bool) (x20 : Bool) (x21 : Int) (x22 : Int) (x23 : Int) (x24 : Int) (x25 : Int) (x26 : Int) (x27 : Int) : Option (T_Edit × Bool) := joinN (run (ref02_edit_E N) N 0 ref02_edit_C6) N ⟨[(2, .ptr 0 0 0), (4, .lst false .str x11)], [some (.box 0 [.int .i64 x12, .int .i64 x13, .bool x14, .int .i64 x15, .int .i64 x16, .int .i64 x17, .int .i64 x18, .bool x19, .bool x20, .int .i64 x21, .int .i64 x22, .int .i64 x23, .int .i64 x24, .int .i64 x25, .int .i64 x26, .int .i64 x27])]⟩ (blkK 0 (seqK (run (ref02_edit_E N) N 0 ref02_edit_C2) (fin [(.cell 2 true 16), (.t 3)] [G_Edit, .bool])))
theorem ref02_edit_J2_eqM (N : Nat) (JM : Nat) (x30 : List (List UInt8)) (x31 : Int) (x32 : Int) (x33 : Bool) (x34 : Int) (x35 : Int) (x36 : Int) (x37 : Int) (x38 : Bool) (x39 : Bool) (x40 : Int) (x41 : Int) (x42 : Int) (x43 : Int) (x44 : Int) (x45 : Int) (x46 : Int) : joinN (run (ref02_edit_E N) N 0 ref02_edit_C1) (JM + 1) ⟨[(2, .ptr 0 0 0), (4, .lst false .str x30)], [some (.box 0 [.int .i64 x31, .int .i64 x32, .bool x33, .int .i64 x34, .int .i64 x35, .int .i64 x36, .int .i64 x37, .bool x38, .bool x39, .int .i64 x40, .int .i64 x41, .int .i64 x42, .int .i64 x43, .int .i64 x44, .int .i64 x45, .int .i64 x46])]⟩ (blkK 0 (seqK (run (ref02_edit_E N) N 0 ref02_edit_C2) (fin [(.cell 2 true 16), (.t 3)] [G_Edit, .bool]))) =
  bif slB 1 5 x30.length then
  Option.bind (ref02_numbers N ((x30.drop (1 : Int).toNat).take ((5 : Int).toNat - (1 : Int).toNat))) fun r48 =>
  bif slB 6 x30.length x30.length then
  Option.bind (ref02_numbers N (x30.drop (6 : Int).toNat)) fun r50 =>
  bif (!r48.2) then
    some ((0, ((0, false), ((0, (0, (0, (0, (false, (false, ((0, 0), (0, 0)))))))), (0, (0, 0))))), false)
  else
    bif (!r50.2) then
      some ((0, ((0, false), ((0, (0, (0, (0, (false, (false, ((0, 0), (0, 0)))))))), (0, (0, 0))))), false)
    else
      bif inB 0 r48.1.length then
      bif inB 1 r48.1.length then
      bif inB 2 r48.1.length then
      bif inB 3 r48.1.length then
      bif inB 5 x30.length then
      bif inB 0 r50.1.length then
      bif inB 1 r50.1.length then
      bif inB 2 r50.1.length then
      bif inB 3 r50.1.length then
      some ((2, ((0, false), (((r48.1.getD (0 : Int).toNat 0), ((r48.1.getD (1 : Int).toNat 0), ((r48.1.getD (2 : Int).toNat 0), ((r48.1.getD (3 : Int).toNat 0), (((x30.getD (5 : Int).toNat []) == ([119, 97, 108, 107] : List UInt8)), (false, (((r50.1.getD (0 : Int).toNat 0), (r50.1.getD (1 : Int).toNat 0)), ((r50.1.getD (2 : Int).toNat 0), (r50.1.getD (3 : Int).toNat 0))))))))), (0, (0, 0))))), true)
      else none
      else none
      else none
      else none
      else none
      else none
      else none
      else none
      else none
  else none
  else none := by kernel_rfl
theorem ref02_edit_J2_eq (N : Nat) (x30 : List (List UInt8)) (x31 : Int) (x32 : Int) (x33 : Bool) (x34 : Int) (x35 : Int) (x36 : Int) (x37 : Int) (x38 : Bool) (x39 : Bool) (x40 : Int) (x41 : Int) (x42 : Int) (x43 : Int) (x44 : Int) (x45 : Int) (x46 : Int) : ref02_edit_J2 (N + 1) x30 x31 x32 x33 x34 x35 x36 x37 x38 x39 x40 x41 x42 x43 x44 x45 x46 =
  bif slB 1 5 x30.length then
  Option.bind (ref02_numbers (N + 1) ((x30.drop (1 : Int).toNat).take ((5 : Int).toNat - (1 : Int).toNat))) fun r48 =>
  bif slB 6 x30.length x30.length then
  Option.bind (ref02_numbers (N + 1) (x30.drop (6 : Int).toNat)) fun r50 =>
  bif (!r48.2) then
    some ((0, ((0, false), ((0, (0, (0, (0, (false, (false, ((0, 0), (0, 0)))))))), (0, (0, 0))))), false)
  else
    bif (!r50.2) then
      some ((0, ((0, false), ((0, (0, (0, (0, (false, (false, ((0, 0), (0, 0)))))))), (0, (0, 0))))), false)
    else
      bif inB 0 r48.1.length then
      bif inB 1 r48.1.length then
      bif inB 2 r48.1.length then
      bif inB 3 r48.1.length then
      bif inB 5 x30.length then
      bif inB 0 r50.1.length then
      bif inB 1 r50.1.length then
      bif inB 2 r50.1.length then
      bif inB 3 r50.1.length then
      some ((2, ((0, false), (((r48.1.getD (0 : Int).toNat 0), ((r48.1.getD (1 : Int).toNat 0), ((r48.1.getD (2 : Int).toNat 0), ((r48.1.getD (3 : Int).toNat 0), (((x30.getD (5 : Int).toNat []) == ([119, 97, 108, 107] : List UInt8)), (false, (((r50.1.getD (0 : Int).toNat 0), (r50.1.getD (1 : Int).toNat 0)), ((r50.1.getD (2 : Int).toNat 0), (r50.1.getD (3 : Int).toNat 0))))))))), (0, (0, 0))))), true)
      else none
      else none
      else none
      else none
      else none
      else none
      else none
      else none
      else none
  else none
  else none := ref02_edit_J2_eqM (N + 1) N x30 x31 x32 x33 x34 x35 x36 x37 x38 x39 x40 x41 x42 x43 x44 x45 x46
theorem ref02_edit_J5_eqM (N : Nat) (JM : Nat) (x134 : List (List UInt8)) (x135 : Int) (x136 : Int) (x137 : Bool) (x138 : Int) (x139 : Int) (x140 : Int) (x141 : Int) (x142 : Bool) (x143 : Bool) (x144 : Int) (x145 : Int) (x146 : Int) (x147 : Int) (x148 : Int) (x149 : Int) (x150 : Int) : joinN (run (ref02_edit_E N) N 0 ref02_edit_C3) (JM + 1) ⟨[(2, .ptr 0 0 0), (4, .lst false .str x134)], [some (.box 0 [.int .i64 x135, .int .i64 x136, .bool x137, .int .i64 x138, .int .i64 x139, .int .i64 x140, .int .i64 x141, .bool x142, .bool x143, .int .i64 x144, .int .i64 x145, .int .i64 x146, .int .i64 x147, .int .i64 x148, .int .i64 x149, .int .i64 x150])]⟩ (blkK 0 (seqK (run (ref02_edit_E N) N 0 ref02_edit_C2) (fin [(.cell 2 true 16), (.t 3)] [G_Edit, .bool]))) =
  bif slB 1 x134.length x134.length then
  Option.bind (ref02_numbers N (x134.drop (1 : Int).toNat)) fun r152 =>
  bif (!r152.2) then
    some ((0, ((0, false), ((0, (0, (0, (0, (false, (false, ((0, 0), (0, 0)))))))), (0, (0, 0))))), false)
  else
    bif inB 0 r152.1.length then
    let v153 := r152.1.getD (0 : Int).toNat 0
    bif inB 1 r152.1.length then
    let v154 := r152.1.getD (1 : Int).toNat 0
    bif inB 2 r152.1.length then
    let v155 := r152.1.getD (2 : Int).toNat 0
    bif inB 0 x134.length then
    bif ((x134.getD (0 : Int).toNat []) == ([108, 105, 102, 116] : List UInt8)) then
      some ((6, ((0, false), ((0, (0, (0, (0, (false, (false, ((0, 0), (0, 0)))))))), (v153, (v154, v155))))), true)
    else
      some ((5, ((0, false), ((0, (0, (0, (0, (false, (false, ((0, 0), (0, 0)))))))), (v153, (v154, v155))))), true)
    else none
    else none
    else none
    else none
  else none := by kernel_rfl
theorem ref02_edit_J5_eq (N : Nat) (x134 : List (List UInt8)) (x135 : Int) (x136 : Int) (x137 : Bool) (x138 : Int) (x139 : Int) (x140 : Int) (x141 : Int) (x142 : Bool) (x143 : Bool) (x144 : Int) (x145 : Int) (x146 : Int) (x147 : Int) (x148 : Int) (x149 : Int) (x150 : Int) : ref02_edit_J5 (N + 1) x134 x135 x136 x137 x138 x139 x140 x141 x142 x143 x144 x145 x146 x147 x148 x149 x150 =
  bif slB 1 x134.length x134.length then
  Option.bind (ref02_numbers (N + 1) (x134.drop (1 : Int).toNat)) fun r152 =>
  bif (!r152.2) then
    some ((0, ((0, false), ((0, (0, (0, (0, (false, (false, ((0, 0), (0, 0)))))))), (0, (0, 0))))), false)
  else
    bif inB 0 r152.1.length then
    let v153 := r152.1.getD (0 : Int).toNat 0
    bif inB 1 r152.1.length then
    let v154 := r152.1.getD (1 : Int).toNat 0
    bif inB 2 r152.1.length then
    let v155 := r152.1.getD (2 : Int).toNat 0
    bif inB 0 x134.length then
    bif ((x134.getD (0 : Int).toNat []) == ([108, 105, 102, 116] : List UInt8)) then
      some ((6, ((0, false), ((0, (0, (0, (0, (false, (false, ((0, 0), (0, 0)))))))), (v153, (v154, v155))))), true)
    else
      some ((5, ((0, false), ((0, (0, (0, (0, (false, (false, ((0, 0), (0, 0)))))))), (v153, (v154, v155))))), true)
    else none
    else none
    else none
    else none
  else none := ref02_edit_J5_eqM (N + 1) N x134 x135 x136 x137 x138 x139 x140 x141 x142 x143 x144 x145 x146 x147 x148 x149 x150
theorem ref02_edit_J4_eqM (N : Nat) (JM : Nat) (x116 : List (List UInt8)) (x117 : Int) (x118 : Int) (x119 : Bool) (x120 : Int) (x121 : Int) (x122 : Int) (x123 : Int) (x124 : Bool) (x125 : Bool) (x126 : Int) (x127 : Int) (x128 : Int) (x129 : Int) (x130 : Int) (x131 : Int) (x132 : Int) : joinN (run (ref02_edit_E N) N 0 ref02_edit_C4) (JM + 1) ⟨[(2, .ptr 0 0 0), (4, .lst false .str x116)], [some (.box 0 [.int .i64 x117, .int .i64 x118, .bool x119, .int .i64 x120, .int .i64 x121, .int .i64 x122, .int .i64 x123, .bool x124, .bool x125, .int .i64 x126, .int .i64 x127, .int .i64 x128, .int .i64 x129, .int .i64 x130, .int .i64 x131, .int .i64 x132])]⟩ (blkK 0 (seqK (run (ref02_edit_E N) N 0 ref02_edit_C2) (fin [(.cell 2 true 16), (.t 3)] [G_Edit, .bool]))) =
  bif inB 0 x116.length then
  bif ((x116.getD (0 : Int).toNat []) == ([114, 101, 115, 116] : List UInt8)) then
    bif ((x116.length : Int) == 4) then
      ref02_edit_J5 N x116 x117 x118 x119 x120 x121 x122 x123 x124 x125 x126 x127 x128 x129 x130 x131 x132
    else
      some ((0, ((0, false), ((0, (0, (0, (0, (false, (false, ((0, 0), (0, 0)))))))), (0, (0, 0))))), false)
  else
    bif inB 0 x116.length then
    bif ((x116.getD (0 : Int).toNat []) == ([108, 105, 102, 116] : List UInt8)) then
      bif ((x116.length : Int) == 4) then
        ref02_edit_J5 N x116 x117 x118 x119 x120 x121 x122 x123 x124 x125 x126 x127 x128 x129 x130 x131 x132
      else
        some ((0, ((0, false), ((0, (0, (0, (0, (false, (false, ((0, 0), (0, 0)))))))), (0, (0, 0))))), false)
    else
      some ((0, ((0, false), ((0, (0, (0, (0, (false, (false, ((0, 0), (0, 0)))))))), (0, (0, 0))))), false)
    else none
  else none := by kernel_rfl
theorem ref02_edit_J4_eq (N : Nat) (x116 : List (List UInt8)) (x117 : Int) (x118 : Int) (x119 : Bool) (x120 : Int) (x121 : Int) (x122 : Int) (x123 : Int) (x124 : Bool) (x125 : Bool) (x126 : Int) (x127 : Int) (x128 : Int) (x129 : Int) (x130 : Int) (x131 : Int) (x132 : Int) : ref02_edit_J4 (N + 1) x116 x117 x118 x119 x120 x121 x122 x123 x124 x125 x126 x127 x128 x129 x130 x131 x132 =
  bif inB 0 x116.length then
  bif ((x116.getD (0 : Int).toNat []) == ([114, 101, 115, 116] : List UInt8)) then
    bif ((x116.length : Int) == 4) then
      ref02_edit_J5 (N + 1) x116 x117 x118 x119 x120 x121 x122 x123 x124 x125 x126 x127 x128 x129 x130 x131 x132
    else
      some ((0, ((0, false), ((0, (0, (0, (0, (false, (false, ((0, 0), (0, 0)))))))), (0, (0, 0))))), false)
  else
    bif inB 0 x116.length then
    bif ((x116.getD (0 : Int).toNat []) == ([108, 105, 102, 116] : List UInt8)) then
      bif ((x116.length : Int) == 4) then
        ref02_edit_J5 (N + 1) x116 x117 x118 x119 x120 x121 x122 x123 x124 x125 x126 x127 x128 x129 x130 x131 x132
      else
        some ((0, ((0, false), ((0, (0, (0, (0, (false, (false, ((0, 0), (0, 0)))))))), (0, (0, 0))))), false)
    else
      some ((0, ((0, false), ((0, (0, (0, (0, (false, (false, ((0, 0), (0, 0)))))))), (0, (0, 0))))), false)
    else none
  else none := ref02_edit_J4_eqM (N + 1) N x116 x117 x118 x119 x120 x121 x122 x123 x124 x125 x126 x127 x128 x129 x130 x131 x132
theorem ref02_edit_J3_eqM (N : Nat) (JM : Nat) (x95 : List (List UInt8)) (x96 : Int) (x97 : Int) (x98 : Bool) (x99 : Int) (x100 : Int) (x101 : Int) (x102 : Int) (x103 : Bool) (x104 : Bool) (x105 : Int) (x106 : Int) (x107 : Int) (x108 : Int) (x109 : Int) (x110 : Int) (x111 : Int) : joinN (run (ref02_edit_E N) N 0 ref02_edit_C5) (JM + 1) ⟨[(2, .ptr 0 0 0), (4, .lst false .str x95)], [some (.box 0 [.int .i64 x96, .int .i64 x97, .bool x98, .int .i64 x99, .int .i64 x100, .int .i64 x101, .int .i64 x102, .bool x103, .bool x104, .int .i64 x105, .int .i64 x106, .int .i64 x107, .int .i64 x108, .int .i64 x109, .int .i64 x110, .int .i64 x111])]⟩ (blkK 0 (seqK (run (ref02_edit_E N) N 0 ref02_edit_C2) (fin [(.cell 2 true 16), (.t 3)] [G_Edit, .bool]))) =
  bif inB 0 x95.length then
  bif ((x95.getD (0 : Int).toNat []) == ([99, 108, 111, 115, 101] : List UInt8)) then
    bif ((x95.length : Int) == 2) then
      bif inB 1 x95.length then
      Option.bind (ref02_number N (x95.getD (1 : Int).toNat [])) fun r114 =>
      bif inB 0 x95.length then
      bif ((x95.getD (0 : Int).toNat []) == ([111, 112, 101, 110] : List UInt8)) then
        some ((4, ((0, false), ((0, (0, (0, (0, (false, (false, ((0, 0), (0, 0)))))))), (r114.1, (0, 0))))), r114.2)
      else
        some ((3, ((0, false), ((0, (0, (0, (0, (false, (false, ((0, 0), (0, 0)))))))), (r114.1, (0, 0))))), r114.2)
      else none
      else none
    else
      ref02_edit_J4 N x95 x96 x97 x98 x99 x100 x101 x102 x103 x104 x105 x106 x107 x108 x109 x110 x111
  else
    bif inB 0 x95.length then
    bif ((x95.getD (0 : Int).toNat []) == ([111, 112, 101, 110] : List UInt8)) then
      bif ((x95.length : Int) == 2) then
        bif inB 1 x95.length then
        Option.bind (ref02_number N (x95.getD (1 : Int).toNat [])) fun r211 =>
        bif inB 0 x95.length then
        bif ((x95.getD (0 : Int).toNat []) == ([111, 112, 101, 110] : List UInt8)) then
          some ((4, ((0, false), ((0, (0, (0, (0, (false, (false, ((0, 0), (0, 0)))))))), (r211.1, (0, 0))))), r211.2)
        else
          some ((3, ((0, false), ((0, (0, (0, (0, (false, (false, ((0, 0), (0, 0)))))))), (r211.1, (0, 0))))), r211.2)
        else none
        else none
      else
        ref02_edit_J4 N x95 x96 x97 x98 x99 x100 x101 x102 x103 x104 x105 x106 x107 x108 x109 x110 x111
    else
      ref02_edit_J4 N x95 x96 x97 x98 x99 x100 x101 x102 x103 x104 x105 x106 x107 x108 x109 x110 x111
    else none
  else none := by kernel_rfl
theorem ref02_edit_J3_eq (N : Nat) (x95 : List (List UInt8)) (x96 : Int) (x97 : Int) (x98 : Bool) (x99 : Int) (x100 : Int) (x101 : Int) (x102 : Int) (x103 : Bool) (x104 : Bool) (x105 : Int) (x106 : Int) (x107 : Int) (x108 : Int) (x109 : Int) (x110 : Int) (x111 : Int) : ref02_edit_J3 (N + 1) x95 x96 x97 x98 x99 x100 x101 x102 x103 x104 x105 x106 x107 x108 x109 x110 x111 =
  bif inB 0 x95.length then
  bif ((x95.getD (0 : Int).toNat []) == ([99, 108, 111, 115, 101] : List UInt8)) then
    bif ((x95.length : Int) == 2) then
      bif inB 1 x95.length then
      Option.bind (ref02_number (N + 1) (x95.getD (1 : Int).toNat [])) fun r114 =>
      bif inB 0 x95.length then
      bif ((x95.getD (0 : Int).toNat []) == ([111, 112, 101, 110] : List UInt8)) then
        some ((4, ((0, false), ((0, (0, (0, (0, (false, (false, ((0, 0), (0, 0)))))))), (r114.1, (0, 0))))), r114.2)
      else
        some ((3, ((0, false), ((0, (0, (0, (0, (false, (false, ((0, 0), (0, 0)))))))), (r114.1, (0, 0))))), r114.2)
      else none
      else none
    else
      ref02_edit_J4 (N + 1) x95 x96 x97 x98 x99 x100 x101 x102 x103 x104 x105 x106 x107 x108 x109 x110 x111
  else
    bif inB 0 x95.length then
    bif ((x95.getD (0 : Int).toNat []) == ([111, 112, 101, 110] : List UInt8)) then
      bif ((x95.length : Int) == 2) then
        bif inB 1 x95.length then
        Option.bind (ref02_number (N + 1) (x95.getD (1 : Int).toNat [])) fun r211 =>
        bif inB 0 x95.length then
        bif ((x95.getD (0 : Int).toNat []) == ([111, 112, 101, 110] : List UInt8)) then
          some ((4, ((0, false), ((0, (0, (0, (0, (false, (false, ((0, 0), (0, 0)))))))), (r211.1, (0, 0))))), r211.2)
        else
          some ((3, ((0, false), ((0, (0, (0, (0, (false, (false, ((0, 0), (0, 0)))))))), (r211.1, (0, 0))))), r211.2)
        else none
        else none
      else
        ref02_edit_J4 (N + 1) x95 x96 x97 x98 x99 x100 x101 x102 x103 x104 x105 x106 x107 x108 x109 x110 x111
    else
      ref02_edit_J4 (N + 1) x95 x96 x97 x98 x99 x100 x101 x102 x103 x104 x105 x106 x107 x108 x109 x110 x111
    else none
  else none := ref02_edit_J3_eqM (N + 1) N x95 x96 x97 x98 x99 x100 x101 x102 x103 x104 x105 x106 x107 x108 x109 x110 x111
theorem ref02_edit_J1_eqM (N : Nat) (JM : Nat) (x11 : List (List UInt8)) (x12 : Int) (x13 : Int) (x14 : Bool) (x15 : Int) (x16 : Int) (x17 : Int) (x18 : Int) (x19 : Bool) (x20 : Bool) (x21 : Int) (x22 : Int) (x23 : Int) (x24 : Int) (x25 : Int) (x26 : Int) (x27 : Int) : joinN (run (ref02_edit_E N) N 0 ref02_edit_C6) (JM + 1) ⟨[(2, .ptr 0 0 0), (4, .lst false .str x11)], [some (.box 0 [.int .i64 x12, .int .i64 x13, .bool x14, .int .i64 x15, .int .i64 x16, .int .i64 x17, .int .i64 x18, .bool x19, .bool x20, .int .i64 x21, .int .i64 x22, .int .i64 x23, .int .i64 x24, .int .i64 x25, .int .i64 x26, .int .i64 x27])]⟩ (blkK 0 (seqK (run (ref02_edit_E N) N 0 ref02_edit_C2) (fin [(.cell 2 true 16), (.t 3)] [G_Edit, .bool]))) =
  bif inB 0 x11.length then
  bif ((x11.getD (0 : Int).toNat []) == ([114, 111, 97, 100] : List UInt8)) then
    bif ((x11.length : Int) == 10) then
      bif inB 5 x11.length then
      bif ((x11.getD (5 : Int).toNat []) == ([119, 97, 108, 107] : List UInt8)) then
        ref02_edit_J2 N x11 x12 x13 x14 x15 x16 x17 x18 x19 x20 x21 x22 x23 x24 x25 x26 x27
      else
        bif inB 5 x11.length then
        bif ((x11.getD (5 : Int).toNat []) == ([109, 97, 99, 104, 105, 110, 101] : List UInt8)) then
          ref02_edit_J2 N x11 x12 x13 x14 x15 x16 x17 x18 x19 x20 x21 x22 x23 x24 x25 x26 x27
        else
          ref02_edit_J3 N x11 x12 x13 x14 x15 x16 x17 x18 x19 x20 x21 x22 x23 x24 x25 x26 x27
        else none
      else none
    else
      ref02_edit_J3 N x11 x12 x13 x14 x15 x16 x17 x18 x19 x20 x21 x22 x23 x24 x25 x26 x27
  else
    ref02_edit_J3 N x11 x12 x13 x14 x15 x16 x17 x18 x19 x20 x21 x22 x23 x24 x25 x26 x27
  else none := by kernel_rfl
theorem ref02_edit_J1_eq (N : Nat) (x11 : List (List UInt8)) (x12 : Int) (x13 : Int) (x14 : Bool) (x15 : Int) (x16 : Int) (x17 : Int) (x18 : Int) (x19 : Bool) (x20 : Bool) (x21 : Int) (x22 : Int) (x23 : Int) (x24 : Int) (x25 : Int) (x26 : Int) (x27 : Int) : ref02_edit_J1 (N + 1) x11 x12 x13 x14 x15 x16 x17 x18 x19 x20 x21 x22 x23 x24 x25 x26 x27 =
  bif inB 0 x11.length then
  bif ((x11.getD (0 : Int).toNat []) == ([114, 111, 97, 100] : List UInt8)) then
    bif ((x11.length : Int) == 10) then
      bif inB 5 x11.length then
      bif ((x11.getD (5 : Int).toNat []) == ([119, 97, 108, 107] : List UInt8)) then
        ref02_edit_J2 (N + 1) x11 x12 x13 x14 x15 x16 x17 x18 x19 x20 x21 x22 x23 x24 x25 x26 x27
      else
        bif inB 5 x11.length then
        bif ((x11.getD (5 : Int).toNat []) == ([109, 97, 99, 104, 105, 110, 101] : List UInt8)) then
          ref02_edit_J2 (N + 1) x11 x12 x13 x14 x15 x16 x17 x18 x19 x20 x21 x22 x23 x24 x25 x26 x27
        else
          ref02_edit_J3 (N + 1) x11 x12 x13 x14 x15 x16 x17 x18 x19 x20 x21 x22 x23 x24 x25 x26 x27
        else none
      else none
    else
      ref02_edit_J3 (N + 1) x11 x12 x13 x14 x15 x16 x17 x18 x19 x20 x21 x22 x23 x24 x25 x26 x27
  else
    ref02_edit_J3 (N + 1) x11 x12 x13 x14 x15 x16 x17 x18 x19 x20 x21 x22 x23 x24 x25 x26 x27
  else none := ref02_edit_J1_eqM (N + 1) N x11 x12 x13 x14 x15 x16 x17 x18 x19 x20 x21 x22 x23 x24 x25 x26 x27
def ref02_edit (N : Nat) (a0 : List UInt8) : Option (T_Edit × Bool) :=
  Option.bind (strings_Split N a0 [32]) fun r1 =>
  bif inB 0 r1.length then
  bif ((r1.getD (0 : Int).toNat []) == ([112, 108, 97, 99, 101] : List UInt8)) then
    bif ((r1.length : Int) == 3) then
      bif inB 2 r1.length then
      bif ((r1.getD (2 : Int).toNat []) == ([115, 117, 114, 102, 97, 99, 101] : List UInt8)) then
        bif inB 1 r1.length then
        Option.bind (ref02_number N (r1.getD (1 : Int).toNat [])) fun r5 =>
        bif inB 2 r1.length then
        some ((1, ((r5.1, ((r1.getD (2 : Int).toNat []) == ([115, 117, 114, 102, 97, 99, 101] : List UInt8))), ((0, (0, (0, (0, (false, (false, ((0, 0), (0, 0)))))))), (0, (0, 0))))), r5.2)
        else none
        else none
      else
        bif inB 2 r1.length then
        bif ((r1.getD (2 : Int).toNat []) == ([98, 101, 108, 111, 119] : List UInt8)) then
          bif inB 1 r1.length then
          Option.bind (ref02_number N (r1.getD (1 : Int).toNat [])) fun r9 =>
          bif inB 2 r1.length then
          some ((1, ((r9.1, ((r1.getD (2 : Int).toNat []) == ([115, 117, 114, 102, 97, 99, 101] : List UInt8))), ((0, (0, (0, (0, (false, (false, ((0, 0), (0, 0)))))))), (0, (0, 0))))), r9.2)
          else none
          else none
        else
          ref02_edit_J1 N r1 0 0 false 0 0 0 0 false false 0 0 0 0 0 0 0
        else none
      else none
    else
      ref02_edit_J1 N r1 0 0 false 0 0 0 0 false false 0 0 0 0 0 0 0
  else
    ref02_edit_J1 N r1 0 0 false 0 0 0 0 false false 0 0 0 0 0 0 0
  else none
/-! ref02_Parse -/
def ref02_Parse_N1 : List NS := [.own 5 G_Edit, .keep [0, 5, 6, 7], .cmp]
def ref02_Parse_C14 : TC := .ret
def ref02_Parse_C10 : TC := (.pre [.frz 2] ref02_Parse_C14)
def ref02_Parse_C6 : TC := (.cond (.t 24) (.seq (.rg [⟨⟨some 25, (.mov (.t 7)), none⟩, {}⟩, ⟨⟨some 2, (.mov (.c (.lst true []))), none⟩, {}⟩, ⟨⟨some 3, (.mov (.t 25)), none⟩, {}⟩, ⟨⟨some 4, (.mov (.c (I 6))), none⟩, {}⟩] none) ref02_Parse_C10) .skip)
def ref02_Parse_C32 : TC := .ret
def ref02_Parse_C26 : TC := (.pre [.frz 2] ref02_Parse_C32)
def ref02_Parse_C22 : TC := (.cond (.t 41) (.seq (.rg [⟨⟨some 42, (.mov (.t 7)), none⟩, {}⟩, ⟨⟨some 2, (.mov (.c (.lst true []))), none⟩, {}⟩, ⟨⟨some 3, (.mov (.t 42)), none⟩, {}⟩, ⟨⟨some 4, (.mov (.c (I 6))), none⟩, {}⟩] none) ref02_Parse_C26) .skip)
def ref02_Parse_C39 : TC := .ret
def ref02_Parse_C33 : TC := (.pre [.frz 2] ref02_Parse_C39)
def ref02_Parse_C27 : TC := (.cond (.t 48) (.seq (.rg [⟨⟨some 49, (.mov (.t 7)), none⟩, {}⟩, ⟨⟨some 2, (.mov (.c (.lst true []))), none⟩, {}⟩, ⟨⟨some 3, (.mov (.t 49)), none⟩, {}⟩, ⟨⟨some 4, (.mov (.c (I 7))), none⟩, {}⟩] none) ref02_Parse_C33) .skip)
def ref02_Parse_C43 : TC := .ret
def ref02_Parse_C40 : TC := (.pre [.frz 2] ref02_Parse_C43)
def ref02_Parse_C34 : TC := (.cond (.t 56) (.seq (.rg [⟨⟨some 57, (.mov (.t 7)), none⟩, {}⟩, ⟨⟨some 58, (.bin .add (.t 57) (.c (I 1))), none⟩, {}⟩, ⟨⟨some 2, (.mov (.c (.lst true []))), none⟩, {}⟩, ⟨⟨some 3, (.mov (.t 58)), none⟩, {}⟩, ⟨⟨some 4, (.mov (.c (I 6))), none⟩, {}⟩] none) ref02_Parse_C40) .skip)
def ref02_Parse_C44 : TC := .ret
def ref02_Parse_C41 : TC := (.pre [.frz 2] ref02_Parse_C44)
def ref02_Parse_C35 : TC := (.seq (.rg [⟨⟨some 59, (.mov (.t 5)), none⟩, {}⟩, ⟨⟨some 2, (.mov (.t 59)), none⟩, {}⟩, ⟨⟨some 3, (.mov (.c (I 0))), none⟩, {}⟩, ⟨⟨some 4, (.mov (.c (I 0))), none⟩, {}⟩] none) ref02_Parse_C41)
def ref02_Parse_C28 : TC := (.seq (.seq (.rg [⟨⟨some 50, (.mov (.t 6)), none⟩, {}⟩, ⟨⟨some 51, (.mov (.t 8)), none⟩, {}⟩, ⟨⟨some 52, (.bin .add (.t 50) (.t 51)), none⟩, {}⟩, ⟨⟨some 53, (.bin .add (.t 52) (.c (I 1))), none⟩, {}⟩, ⟨⟨some 54, (.mov (.t 0)), none⟩, {}⟩, ⟨⟨some 55, (.lens (.t 54)), none⟩, {}⟩, ⟨⟨some 56, (.bin .lss
  (.t 53) (.t 55)), none⟩, {}⟩] none) ref02_Parse_C34) ref02_Parse_C35)
def ref02_Parse_C23 : TC := (.seq (.seq (.rg [⟨⟨some 43, (.mov (.t 10)), none⟩, {}⟩, ⟨⟨some 44, (.mov (.t 0)), none⟩, {}⟩, ⟨⟨some 45, (.mov (.t 6)), none⟩, {}⟩, ⟨⟨some 46, (.sslc (.t 44) none (some (.t 45))), none⟩, {}⟩, ⟨⟨some 47, (.call (.c (.fn 8 [])) [(.t 46)]), none⟩, {}⟩, ⟨⟨some 48, (.bin .neq (.t 43) (.t 47)), none⟩,
  {}⟩] none) ref02_Parse_C27) ref02_Parse_C28)
def ref02_Parse_C19 : TC := (.seq (.seq (.rg [⟨⟨some 40, (.mov (.t 11)), none⟩, {}⟩, ⟨⟨some 41, (.un .not (.t 40)), none⟩, {}⟩] none) ref02_Parse_C22) ref02_Parse_C23)
def ref02_Parse_C15 : TC := (.cond (.t 33) (.seq (.rg [⟨⟨some 35, (.mov (.t 9)), none⟩, {}⟩, ⟨⟨some 36, (.sslc (.t 35) (some (.c (I 4))) none), none⟩, {}⟩, ⟨⟨some 37, (.call (.c (.fn 52 [])) [(.t 36)]), none⟩, {}⟩, ⟨⟨some 34, (.mov (.t 37)), none⟩, {}⟩, ⟨⟨some 38, (.extr 0 (.t 34)), none⟩, {}⟩, ⟨⟨some 39, (.extr 1 (.t 34)),
  none⟩, {}⟩, ⟨⟨some 10, (.mov (.t 38)), none⟩, {}⟩, ⟨⟨some 11, (.mov (.t 39)), none⟩, {}⟩] none) ref02_Parse_C19) .skip)
def ref02_Parse_C36 : TC := .ret
def ref02_Parse_C29 : TC := (.pre [.frz 2] ref02_Parse_C36)
def ref02_Parse_C24 : TC := (.cond (.t 66) (.seq (.rg [⟨⟨some 67, (.mov (.t 7)), none⟩, {}⟩, ⟨⟨some 2, (.mov (.c (.lst true []))), none⟩, {}⟩, ⟨⟨some 3, (.mov (.t 67)), none⟩, {}⟩, ⟨⟨some 4, (.mov (.c (I 6))), none⟩, {}⟩] none) ref02_Parse_C29) .skip)
def ref02_Parse_C42 : TC := .ret
def ref02_Parse_C37 : TC := (.pre [.frz 2] ref02_Parse_C42)
def ref02_Parse_C30 : TC := (.cond (.t 69) (.seq (.rg [⟨⟨some 70, (.mov (.t 7)), none⟩, {}⟩, ⟨⟨some 2, (.mov (.c (.lst true []))), none⟩, {}⟩, ⟨⟨some 3, (.mov (.t 70)), none⟩, {}⟩, ⟨⟨some 4, (.mov (.c (I 2))), none⟩, {}⟩] none) ref02_Parse_C37) .skip)
def ref02_Parse_C38 : TC := (.rg [⟨⟨some 75, (.mov (.t 6)), none⟩, {}⟩, ⟨⟨some 76, (.mov (.t 8)), none⟩, {}⟩, ⟨⟨some 77, (.bin .add (.t 76) (.c (I 1))), none⟩, {}⟩, ⟨⟨some 78, (.bin .add (.t 75) (.t 77)), none⟩, {}⟩, ⟨⟨some 6, (.mov (.t 78)), none⟩, {}⟩] none)
def ref02_Parse_C31 : TC := (.seq (.rg [⟨⟨some 71, (.mov (.t 5)), none⟩, {}⟩, ⟨⟨some 72, (.load true 16 (.t 12)), none⟩, {}⟩, ⟨⟨some 73, (.bslice false 16 [(I 0), (I 0), (B false), (I 0), (I 0), (I 0), (I 0), (B false), (B false), (I 0), (I 0), (I 0), (I 0), (I 0), (I 0), (I 0)] 1 [(0, (.t 72))]), none⟩, ⟨G_Edit, none, []⟩⟩,
  ⟨⟨some 74, (.app 16 120 (.t 71) (.t 73)), none⟩, {}⟩, ⟨⟨some 5, (.mov (.t 74)), none⟩, {}⟩] none) ref02_Parse_C38)
def ref02_Parse_C25 : TC := (.seq (.seq (.rg [⟨⟨some 68, (.mov (.t 7)), none⟩, {}⟩, ⟨⟨some 69, (.bin .gtr (.t 68) (.c (I 1000))), none⟩, {}⟩] none) ref02_Parse_C30) ref02_Parse_C31)
def ref02_Parse_C20 : TC := (.seq (.seq (.rg [⟨⟨some 65, (.mov (.t 13)), none⟩, {}⟩, ⟨⟨some 66, (.un .not (.t 65)), none⟩, {}⟩] none) ref02_Parse_C24) ref02_Parse_C25)
def ref02_Parse_C16 : TC := (.seq (.rg [⟨⟨some 61, (.mov (.t 9)), none⟩, {}⟩, ⟨⟨some 62, (.call (.c (.fn 53 [])) [(.t 61)]), none⟩, {}⟩, ⟨⟨some 60, (.mov (.t 62)), none⟩, {}⟩, ⟨⟨some 63, (.extr 0 (.t 60)), none⟩, {}⟩, ⟨⟨some 64, (.extr 1 (.t 60)), none⟩, {}⟩, ⟨⟨some 12, (.alloc [(I 0), (I 0), (B false), (I 0), (I 0), (I 0), (I
  0), (B false), (B false), (I 0), (I 0), (I 0), (I 0), (I 0), (I 0), (I 0)]), none⟩, {}⟩, ⟨⟨none, (.store 16 (.t 12) (.t 63)), none⟩, {}⟩, ⟨⟨some 13, (.mov (.t 64)), none⟩, {}⟩] none) ref02_Parse_C20)
def ref02_Parse_C11 : TC := (.seq (.seq (.rg [⟨⟨some 32, (.mov (.t 9)), none⟩, {}⟩, ⟨⟨some 33, (.call (.c (.fn 51 [])) [(.t 32), (.c (.v (.string ⟨⟨[115, 117, 109, 32]⟩⟩)))]), none⟩, {}⟩] none) ref02_Parse_C15) ref02_Parse_C16)
def ref02_Parse_C7 : TC := (.seq (.rg [⟨⟨some 26, (.mov (.t 0)), none⟩, {}⟩, ⟨⟨some 27, (.mov (.t 6)), none⟩, {}⟩, ⟨⟨some 28, (.mov (.t 6)), none⟩, {}⟩, ⟨⟨some 29, (.mov (.t 8)), none⟩, {}⟩, ⟨⟨some 30, (.bin .add (.t 28) (.t 29)), none⟩, {}⟩, ⟨⟨some 31, (.sslc (.t 26) (some (.t 27)) (some (.t 30))), none⟩, {}⟩, ⟨⟨some 9, (.mov
  (.t 31)), none⟩, {}⟩] none) ref02_Parse_C11)
def ref02_Parse_C3 : TC := (.seq (.seq (.rg [⟨⟨some 23, (.mov (.t 8)), none⟩, {}⟩, ⟨⟨some 24, (.bin .lss (.t 23) (.c (I 0))), none⟩, {}⟩] none) ref02_Parse_C6) ref02_Parse_C7)
def ref02_Parse_C4 : TC := (.rg [⟨⟨some 17, (.mov (.t 7)), none⟩, {}⟩, ⟨⟨some 18, (.bin .add (.t 17) (.c (I 1))), none⟩, {}⟩, ⟨⟨some 7, (.mov (.t 18)), none⟩, {}⟩] none)
def ref02_Parse_C1 : TC := (.seq (.block 1 (.seq (.rg [⟨⟨some 19, (.mov (.t 0)), none⟩, {}⟩, ⟨⟨some 20, (.mov (.t 6)), none⟩, {}⟩, ⟨⟨some 21, (.sslc (.t 19) (some (.t 20)) none), none⟩, {}⟩, ⟨⟨some 22, (.call (.c (.fn 50 [])) [(.t 21), (.c (.v (.string ⟨⟨[10]⟩⟩)))]), none⟩, {}⟩, ⟨⟨some 8, (.mov (.t 22)), none⟩, {}⟩] none)
  ref02_Parse_C3)) ref02_Parse_C4)
def ref02_Parse_E (N : Nat) : List (Nat × Ent) := [(50, pureE [.str, .str] [(.int .i64)] (fun x => strings_Index N x.1 x.2)), (51, pureE [.str, .str] [.bool] (fun x => strings_HasPrefix N x.1 x.2)), (52, pureE [.str] [(.int .i64), .bool] (fun x => ref02_number N x)), (8, pureE [.str] [(.int .i64)] (fun x => ref02_Sum N x)), (53, pureE [.str] [G_Edit, .bool] (fun x => ref02_edit N x))]
def ref02_Parse_L1 (N : Nat) (n : Nat) (x1 : List UInt8) (x2 : Int) (x3 : Int) (x4 : List T_Edit) : Option ((List T_Edit) × Int × Int) := loopN (normI 0 ref02_Parse_N1) (run (ref02_Parse_E N) N 0 ref02_Parse_C1) n ⟨[(0, .str x1), (5, .whole 0), (6, .int .i64 x2), (7, .int .i64 x3)], [some (.arr G_Edit x4)]⟩ (blkK 0 (fin [(.t 2), (.t 3), (.t 4)] [(.list G_Edit), (.int .i64), (.int .i64)]))
theorem ref02_Parse_L1_succ (N : Nat) (n1 : Nat) (x1 : List UInt8) (x2 : Int) (x3 : Int) (x4 : List T_Edit) : ref02_Parse_L1 N (n1 + 1) x1 x2 x3 x4 =
  bif slB x2 x1.length x1.length then
  Option.bind (strings_Index N (x1.drop x2.toNat) [10]) fun r6 =>
  bif (decide (r6 < 0)) then
    some ([], x3, 6)
  else
    bif slB x2 (W (x2 + r6)) x1.length then
    let v7 := (x1.drop x2.toNat).take ((W (x2 + r6)).toNat - x2.toNat)
    Option.bind (strings_HasPrefix N v7 [115, 117, 109, 32]) fun r8 =>
    bif r8 then
      bif slB 4 v7.length v7.length then
      Option.bind (ref02_number N (v7.drop (4 : Int).toNat)) fun r10 =>
      bif (!r10.2) then
        some ([], x3, 6)
      else
        bif slB 0 x2 x1.length then
        Option.bind (ref02_Sum N (x1.take x2.toNat)) fun r12 =>
        bif (r10.1 != r12) then
          some ([], x3, 7)
        else
          bif (decide ((W ((W (x2 + r6)) + 1)) < (x1.length : Int))) then
            some ([], W (x3 + 1), 6)
          else
            some (x4, 0, 0)
        else none
      else none
    else
      Option.bind (ref02_edit N v7) fun r13 =>
      bif (!r13.2) then
        some ([], x3, 6)
      else
        bif (decide (x3 > 1000)) then
          some ([], x3, 2)
        else
          bif fitsB (x4.length + 1) 120 then
          ref02_Parse_L1 N n1 x1 (W (x2 + (W (r6 + 1)))) (W (x3 + 1)) (x4 ++ [r13.1])
          else none
    else none
  else none := by kernel_rfl
/-! ref01_Span -/
/-! ref01_Check -/
/-! ref01_Copy -/
/-! ref01_Apply -/
/-! ref01_All -/
/-! ref02_Read -/
/-! ref01_Same -/
/-! law02_SurveyReads -/
end M
end Go.Proofs.YtipokcccpbcmeaaDoor
