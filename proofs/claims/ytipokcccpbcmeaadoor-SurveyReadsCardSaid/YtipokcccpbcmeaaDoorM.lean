/- Plain models of functions of this seat, each checked against the loaded program and the walk by the kernel. No condition: closed facts. Printed by a program of ours. -/
import Derived.Test.YtipokcccpbcmeaaDoorM1
set_option linter.all false
namespace Go.Proofs.YtipokcccpbcmeaaDoor
open Go.Pv
namespace M
def ref02_Parse_N1 : List NS := [.own 5 G_Edit, .keep [0, 5, 6, 7], .cmp]
def ref02_Parse_C14 : TC := .ret
def ref02_Parse_C10 : TC := (.pre [.frz 2] ref02_Parse_C14)
def ref02_Parse_C6 : TC := (.cond (.t 24) (.seq (.rg [.m 25 7, .s 2 (.mov (.c (.lst true []))), .m 3 25, .s 4 (.mov (.c (I 6)))] none) ref02_Parse_C10) .skip)
def ref02_Parse_C32 : TC := .ret
def ref02_Parse_C26 : TC := (.pre [.frz 2] ref02_Parse_C32)
def ref02_Parse_C22 : TC := (.cond (.t 41) (.seq (.rg [.m 42 7, .s 2 (.mov (.c (.lst true []))), .m 3 42, .s 4 (.mov (.c (I 6)))] none) ref02_Parse_C26) .skip)
def ref02_Parse_C39 : TC := .ret
def ref02_Parse_C33 : TC := (.pre [.frz 2] ref02_Parse_C39)
def ref02_Parse_C27 : TC := (.cond (.t 48) (.seq (.rg [.m 49 7, .s 2 (.mov (.c (.lst true []))), .m 3 49, .s 4 (.mov (.c (I 7)))] none) ref02_Parse_C33) .skip)
def ref02_Parse_C43 : TC := .ret
def ref02_Parse_C40 : TC := (.pre [.frz 2] ref02_Parse_C43)
def ref02_Parse_C34 : TC := (.cond (.t 56) (.seq (.rg [.m 57 7, .s 58 (.bin .add (.t 57) (.c (I 1))), .s 2 (.mov (.c (.lst true []))), .m 3 58, .s 4 (.mov (.c (I 6)))] none) ref02_Parse_C40) .skip)
def ref02_Parse_C44 : TC := .ret
def ref02_Parse_C41 : TC := (.pre [.frz 2] ref02_Parse_C44)
def ref02_Parse_C35 : TC := (.seq (.rg [.m 59 5, .m 2 59, .s 3 (.mov (.c (I 0))), .s 4 (.mov (.c (I 0)))] none) ref02_Parse_C41)
def ref02_Parse_C28 : TC := (.seq (.seq (.rg [.m 50 6, .m 51 8, .s 52 (.bin .add (.t 50) (.t 51)), .s 53 (.bin .add (.t 52) (.c (I 1))), .m 54 0, .s 55 (.lens (.t 54)), .s 56 (.bin .lss (.t 53) (.t 55))] none) ref02_Parse_C34) ref02_Parse_C35)
def ref02_Parse_C23 : TC := (.seq (.seq (.rg [.m 43 10, .m 44 0, .m 45 6, .s 46 (.sslc (.t 44) none (some (.t 45))), .s 47 (.call (.c (.fn 8 [])) [(.t 46)]), .s 48 (.bin .neq (.t 43) (.t 47))] none) ref02_Parse_C27) ref02_Parse_C28)
def ref02_Parse_C19 : TC := (.seq (.seq (.rg [.m 40 11, .s 41 (.un .not (.t 40))] none) ref02_Parse_C22) ref02_Parse_C23)
def ref02_Parse_C15 : TC := (.cond (.t 33) (.seq (.rg [.m 35 9, .s 36 (.sslc (.t 35) (some (.c (I 4))) none), .s 37 (.call (.c (.fn 52 [])) [(.t 36)]), .m 34 37, .s 38 (.extr 0 (.t 34)), .s 39 (.extr 1 (.t 34)), .m 10 38, .m 11 39] none) ref02_Parse_C19) .skip)
def ref02_Parse_C36 : TC := .ret
def ref02_Parse_C29 : TC := (.pre [.frz 2] ref02_Parse_C36)
def ref02_Parse_C24 : TC := (.cond (.t 66) (.seq (.rg [.m 67 7, .s 2 (.mov (.c (.lst true []))), .m 3 67, .s 4 (.mov (.c (I 6)))] none) ref02_Parse_C29) .skip)
def ref02_Parse_C42 : TC := .ret
def ref02_Parse_C37 : TC := (.pre [.frz 2] ref02_Parse_C42)
def ref02_Parse_C30 : TC := (.cond (.t 69) (.seq (.rg [.m 70 7, .s 2 (.mov (.c (.lst true []))), .m 3 70, .s 4 (.mov (.c (I 2)))] none) ref02_Parse_C37) .skip)
def ref02_Parse_C38 : TC := (.rg [.m 75 6, .m 76 8, .s 77 (.bin .add (.t 76) (.c (I 1))), .s 78 (.bin .add (.t 75) (.t 77)), .m 6 78] none)
def ref02_Parse_C31 : TC := (.seq (.rg [.m 71 5, .s 72 (.load true 16 (.t 12)), ⟨⟨some 73, (.bslice false 16 [(I 0), (I 0), (B false), (I 0), (I 0), (I 0), (I 0), (B false), (B false), (I 0), (I 0), (I 0), (I 0), (I 0), (I 0), (I 0)] 1 [(0, (.t 72))]), none⟩, ⟨G_Edit, none, []⟩⟩, .s 74 (.app 16 120 (.t 71) (.t 73)), .m 5 74]
  none) ref02_Parse_C38)
def ref02_Parse_C25 : TC := (.seq (.seq (.rg [.m 68 7, .s 69 (.bin .gtr (.t 68) (.c (I 1000)))] none) ref02_Parse_C30) ref02_Parse_C31)
def ref02_Parse_C20 : TC := (.seq (.seq (.rg [.m 65 13, .s 66 (.un .not (.t 65))] none) ref02_Parse_C24) ref02_Parse_C25)
def ref02_Parse_C16 : TC := (.seq (.rg [.m 61 9, .s 62 (.call (.c (.fn 53 [])) [(.t 61)]), .m 60 62, .s 63 (.extr 0 (.t 60)), .s 64 (.extr 1 (.t 60)), .s 12 (.alloc [(I 0), (I 0), (B false), (I 0), (I 0), (I 0), (I 0), (B false), (B false), (I 0), (I 0), (I 0), (I 0), (I 0), (I 0), (I 0)]), .d (.store 16 (.t 12) (.t 63)), .m 13
  64] none) ref02_Parse_C20)
def ref02_Parse_C11 : TC := (.seq (.seq (.rg [.m 32 9, .s 33 (.call (.c (.fn 51 [])) [(.t 32), (.c (.v (.string ⟨⟨[115, 117, 109, 32]⟩⟩)))])] none) ref02_Parse_C15) ref02_Parse_C16)
def ref02_Parse_C7 : TC := (.seq (.rg [.m 26 0, .m 27 6, .m 28 6, .m 29 8, .s 30 (.bin .add (.t 28) (.t 29)), .s 31 (.sslc (.t 26) (some (.t 27)) (some (.t 30))), .m 9 31] none) ref02_Parse_C11)
def ref02_Parse_C3 : TC := (.seq (.seq (.rg [.m 23 8, .s 24 (.bin .lss (.t 23) (.c (I 0)))] none) ref02_Parse_C6) ref02_Parse_C7)
def ref02_Parse_C4 : TC := (.rg [.m 17 7, .s 18 (.bin .add (.t 17) (.c (I 1))), .m 7 18] none)
def ref02_Parse_C1 : TC := (.seq (.block 1 (.seq (.rg [.m 19 0, .m 20 6, .s 21 (.sslc (.t 19) (some (.t 20)) none), .s 22 (.call (.c (.fn 50 [])) [(.t 21), (.c (.v (.string ⟨⟨[10]⟩⟩)))]), .m 8 22] none) ref02_Parse_C3)) ref02_Parse_C4)
def ref02_Parse_C17 : TC := .ret
def ref02_Parse_C12 : TC := (.pre [.frz 2] ref02_Parse_C17)
def ref02_Parse_C8 : TC := (.cond (.t 16) (.seq (.rg [.s 2 (.mov (.c (.lst true []))), .s 3 (.mov (.c (I 0))), .s 4 (.mov (.c (I 2)))] none) ref02_Parse_C12) .skip)
def ref02_Parse_C21 : TC := (.block 0 (.loop ref02_Parse_N1 ref02_Parse_C1))
def ref02_Parse_C18 : TC := (.seq (.rg [.s 7 (.mov (.c (I 1)))] none) ref02_Parse_C21)
def ref02_Parse_C13 : TC := (.seq (.rg [.s 6 (.mov (.c (I 0)))] none) ref02_Parse_C18)
def ref02_Parse_C9 : TC := (.seq (.rg [.s 5 (.mov (.c (.lst true [])))] none) ref02_Parse_C13)
def ref02_Parse_C5 : TC := (.seq (.seq (.rg [.m 14 0, .s 15 (.lens (.t 14)), .s 16 (.bin .gtr (.t 15) (.c (I 65536)))] none) ref02_Parse_C8) ref02_Parse_C9)
def ref02_Parse_C2 : TC := (.seq (.rg [.s 2 (.mov (.c (.lst true []))), .s 3 (.mov (.c (I 0))), .s 4 (.mov (.c (I 0)))] none) ref02_Parse_C5)
def ref02_Parse_E (N : Nat) : List (Nat × Ent) := [(50, pureE [.str, .str] [(.int .i64)] (fun x => strings_Index N x.1 x.2)), (51, pureE [.str, .str] [.bool] (fun x => strings_HasPrefix N x.1 x.2)), (52, pureE [.str] [(.int .i64), .bool] (fun x => ref02_number N x)), (8, pureE [.str] [(.int .i64)] (fun x => ref02_Sum N x)), (53, pureE [.str] [G_Edit, .bool] (fun x => ref02_edit N x))]
def ref02_Parse_L1 (N : Nat) (n : Nat) (x1 : List UInt8) (x2 x3 : Int) (x4 : List T_Edit) : Option ((List T_Edit) × Int × Int) := loopN (normI 0 ref02_Parse_N1) (run (ref02_Parse_E N) N 0 ref02_Parse_C1) n ⟨[(0, .str x1), (5, .whole 0), (6, .int .i64 x2), (7, .int .i64 x3)], [some (.arr G_Edit x4)]⟩ (blkK 0 (fin [(.t 2), (.t 3), (.t 4)] [(.list G_Edit), (.int .i64), (.int .i64)]))
theorem ref02_Parse_L1_succ (N : Nat) (n1 : Nat) (x1 : List UInt8) (x2 x3 : Int) (x4 : List T_Edit) : ref02_Parse_L1 N (n1 + 1) x1 x2 x3 x4 =
  bif slB x2 x1.length x1.length then
  Option.bind (strings_Index N (x1.drop x2.toNat) [10]) fun r6 =>
  bif (decide (r6 < 0)) then
    some ([], x3, 6)
  else
    bif slB x2 (W (x2 + r6)) x1.length then
    let v7 := (x1.drop x2.toNat).take ((W (x2 + r6)).toNat - x2.toNat)
    Option.bind (strings_HasPrefix N v7 [115, 117, 109, 32]) fun r8 =>
    bif r8 then
      bif slB 4 v7.length v7.length then
      Option.bind (ref02_number N (v7.drop (4 : Int).toNat)) fun r10 =>
      bif (!r10.2) then
        some ([], x3, 6)
      else
        bif slB 0 x2 x1.length then
        Option.bind (ref02_Sum N (x1.take x2.toNat)) fun r12 =>
        bif (r10.1 != r12) then
          some ([], x3, 7)
        else
          bif (decide ((W ((W (x2 + r6)) + 1)) < (x1.length : Int))) then
            some ([], W (x3 + 1), 6)
          else
            some (x4, 0, 0)
        else none
      else none
    else
      Option.bind (ref02_edit N v7) fun r13 =>
      bif (!r13.2) then
        some ([], x3, 6)
      else
        bif (decide (x3 > 1000)) then
          some ([], x3, 2)
        else
          bif fitsB (x4.length + 1) 120 then
          ref02_Parse_L1 N n1 x1 (W (x2 + (W (r6 + 1)))) (W (x3 + 1)) (x4 ++ [r13.1])
          else none
    else none
  else none := by kernel_rfl
def ref02_Parse (N : Nat) (a0 : List UInt8) : Option ((List T_Edit) × Int × Int) :=
  bif (decide ((a0.length : Int) > 65536)) then
    some ([], 0, 2)
  else
    ref02_Parse_L1 N N a0 0 1 []
theorem ref02_Parse_fn : FnOK Tryd.prog 39 79 (fun _ : Nat => false) ref02_Parse_C2.er [(.t 2), (.t 3), (.t 4)] := FnOK.mk' Tryd.func39 (by kernel_rfl) (by kernel_rfl) (by kernel_rfl) (by kernel_rfl) (by kernel_rfl)
theorem ref02_Parse_envok (N : Nat) : EnvOK Tryd.prog (ref02_Parse_E N) := .cons (pureE_ok (strings_Index_pure N)) (.cons (pureE_ok (strings_HasPrefix_pure N)) (.cons (pureE_ok (ref02_number_pure N)) (.cons (pureE_ok (ref02_Sum_pure N)) (.cons (pureE_ok (ref02_edit_pure N)) (.nil)))))
theorem ref02_Parse_pure (N : Nat) : PureOK Tryd.prog 39 [.str] [(.list G_Edit), (.int .i64), (.int .i64)] (fun x => ref02_Parse N x) := pureOK (N := N) mixed ref02_Parse_fn (ref02_Parse_envok N) (TC.noh_ok (by kernel_rfl)) rfl (fun x => by kernel_rfl)
def ref01_Span_C3 : TC := .ret
def ref01_Span_C2 : TC := (.seq (.rg [.m 7 1, .s 8 (.fadr 0 (.t 3)), .s 9 (.load false 1 (.t 8)), .s 10 (.bin .leq (.t 7) (.t 9)), .m 11 10, ⟨⟨some 12, (.fadr 0 (.t 3)), some (11, true)⟩, {}⟩, ⟨⟨some 13, (.load false 1 (.t 12)), some (11, true)⟩, {}⟩, ⟨⟨some 14, (.fadr 1 (.t 3)), some (11, true)⟩, {}⟩, ⟨⟨some 15, (.load false
  1 (.t 14)), some (11, true)⟩, {}⟩, ⟨⟨some 16, (.bin .leq (.t 13) (.t 15)), some (11, true)⟩, {}⟩, .s 17 (.pick (.t 11) (.t 16) (.c (B false))), .m 18 17, ⟨⟨some 19, (.fadr 1 (.t 3)), some (18, true)⟩, {}⟩, ⟨⟨some 20, (.load false 1 (.t 19)), some (18, true)⟩, {}⟩, ⟨⟨some 21, (.mov (.t 2)), some
  (18, true)⟩, {}⟩, ⟨⟨some 22, (.bin .leq (.t 20) (.t 21)), some (18, true)⟩, {}⟩, .s 23 (.pick (.t 18) (.t 22) (.c (B false))), .m 6 23] none) ref01_Span_C3)
def ref01_Span_C1 : TC := (.seq (.rg [.s 3 (.box (.t 0)), .s 6 (.mov (.c (B false)))] none) ref01_Span_C2)
def ref01_Span_E (N : Nat) : List (Nat × Ent) := []
def ref01_Span (N : Nat) (a0 : T_Span) (a1 : Int) (a2 : Int) : Option Bool :=
  bif (decide (a1 ≤ a0.1)) then
    bif (decide (a0.1 ≤ a0.2)) then
      some (decide (a0.2 ≤ a2))
    else
      some false
  else
    some false
theorem ref01_Span_fn : FnOK Tryd.prog 76 24 (fun _ : Nat => false) ref01_Span_C1.er [(.t 6)] := FnOK.mk' Tryd.func76 (by kernel_rfl) (by kernel_rfl) (by kernel_rfl) (by kernel_rfl) (by kernel_rfl)
theorem ref01_Span_envok (N : Nat) : EnvOK Tryd.prog (ref01_Span_E N) := .nil
theorem ref01_Span_pure (N : Nat) : PureOK Tryd.prog 76 [G_Span, (.int .i64), (.int .i64)] [.bool] (fun x => ref01_Span N x.1 x.2.1 x.2.2) := pureOK (N := N) mixed ref01_Span_fn (ref01_Span_envok N) (TC.noh_ok (by kernel_rfl)) rfl (fun x => by kernel_rfl)
def ref01_Check_N1 : List NS := [.keep [1, 3], .cmp]
def ref01_Check_N2 : List NS := [.keep [1, 5], .cmp]
def ref01_Check_C18 : TC := .ret
def ref01_Check_C9 : TC := (.cond (.t 108) (.seq (.rg [.s 2 (.mov (.c (I 1)))] none) ref01_Check_C18) .skip)
def ref01_Check_C1 : TC := (.seq (.rg [.s 79 (.fadr 2 (.t 6)), .s 80 (.load false 1 (.t 79)), .s 81 (.bin .lss (.t 80) (.c (I 1))), .m 82 81, ⟨⟨some 83, (.fadr 2 (.t 6)), some (82, false)⟩, {}⟩, ⟨⟨some 84, (.load false 1 (.t 83)), some (82, false)⟩, {}⟩, ⟨⟨some 85, (.bin .gtr (.t 84) (.c (I 100000))), some (82, false)⟩, {}⟩,
  .s 86 (.pick (.t 82) (.c (B true)) (.t 85)), .m 87 86, ⟨⟨some 88, (.fadr 3 (.t 6)), some (87, false)⟩, {}⟩, ⟨⟨some 89, (.load false 1 (.t 88)), some (87, false)⟩, {}⟩, ⟨⟨some 90, (.bin .lss (.t 89) (.c (I 1))), some (87, false)⟩, {}⟩, .s 91 (.pick (.t 87) (.c (B true)) (.t 90)), .m 92 91, ⟨⟨some
  93, (.fadr 3 (.t 6)), some (92, false)⟩, {}⟩, ⟨⟨some 94, (.load false 1 (.t 93)), some (92, false)⟩, {}⟩, ⟨⟨some 95, (.bin .gtr (.t 94) (.c (I 1000))), some (92, false)⟩, {}⟩, .s 96 (.pick (.t 92) (.c (B true)) (.t 95)), .m 97 96, ⟨⟨some 98, (.fadr 6 (.t 6)), some (97, false)⟩, {}⟩, ⟨⟨some 99,
  (.load true 2 (.t 98)), some (97, false)⟩, {}⟩, ⟨⟨some 100, (.call (.c (.fn 76 [])) [(.t 99), (.c (I 1)), (.c (I 262144))]), some (97, false)⟩, {}⟩, ⟨⟨some 101, (.un .not (.t 100)), some (97, false)⟩, {}⟩, .s 102 (.pick (.t 97) (.c (B true)) (.t 101)), .m 103 102, ⟨⟨some 104, (.fadr 8 (.t 6)), some
  (103, false)⟩, {}⟩, ⟨⟨some 105, (.load true 2 (.t 104)), some (103, false)⟩, {}⟩, ⟨⟨some 106, (.call (.c (.fn 76 [])) [(.t 105), (.c (I (-2199023255552))), (.c (I 2199023255552))]), some (103, false)⟩, {}⟩, ⟨⟨some 107, (.un .not (.t 106)), some (103, false)⟩, {}⟩, .s 108 (.pick (.t 103) (.c (B
  true)) (.t 107))] none) ref01_Check_C9)
def ref01_Check_C2 : TC := (.rg [.m 41 5, .s 42 (.bin .add (.t 41) (.c (I 1))), .m 5 42] none)
def ref01_Check_C10 : TC := (.cond (.t 40) .skip (.exit 2))
def ref01_Check_C28 : TC := .ret
def ref01_Check_C24 : TC := (.cond (.t 78) (.seq (.rg [.s 2 (.mov (.c (I 4)))] none) ref01_Check_C28) .skip)
def ref01_Check_C25 : TC := (.join [.keep [1, 5, 6], .cmp] ref01_Check_C1)
def ref01_Check_C19 : TC := (.seq (.seq (.rg [.s 48 (.fadr 0 (.t 6)), .s 49 (.load false 1 (.t 48)), .s 50 (.bin .lss (.t 49) (.c (I 0))), .m 51 50, ⟨⟨some 52, (.fadr 0 (.t 6)), some (51, false)⟩, {}⟩, ⟨⟨some 53, (.load false 1 (.t 52)), some (51, false)⟩, {}⟩, ⟨⟨some 54, (.fadr 0 (.t 1)), some (51, false)⟩, {}⟩, ⟨⟨some 55,
  (.load false 1 (.t 54)), some (51, false)⟩, {}⟩, ⟨⟨some 56, (.len (.t 55)), some (51, false)⟩, {}⟩, ⟨⟨some 57, (.bin .geq (.t 53) (.t 56)), some (51, false)⟩, {}⟩, .s 58 (.pick (.t 51) (.c (B true)) (.t 57)), .m 59 58, ⟨⟨some 60, (.fadr 1 (.t 6)), some (59, false)⟩, {}⟩, ⟨⟨some 61, (.load false 1
  (.t 60)), some (59, false)⟩, {}⟩, ⟨⟨some 62, (.bin .lss (.t 61) (.c (I 0))), some (59, false)⟩, {}⟩, .s 63 (.pick (.t 59) (.c (B true)) (.t 62)), .m 64 63, ⟨⟨some 65, (.fadr 1 (.t 6)), some (64, false)⟩, {}⟩, ⟨⟨some 66, (.load false 1 (.t 65)), some (64, false)⟩, {}⟩, ⟨⟨some 67, (.fadr 0 (.t 1)),
  some (64, false)⟩, {}⟩, ⟨⟨some 68, (.load false 1 (.t 67)), some (64, false)⟩, {}⟩, ⟨⟨some 69, (.len (.t 68)), some (64, false)⟩, {}⟩, ⟨⟨some 70, (.bin .geq (.t 66) (.t 69)), some (64, false)⟩, {}⟩, .s 71 (.pick (.t 64) (.c (B true)) (.t 70)), .m 72 71, ⟨⟨some 73, (.fadr 0 (.t 6)), some (72,
  false)⟩, {}⟩, ⟨⟨some 74, (.load false 1 (.t 73)), some (72, false)⟩, {}⟩, ⟨⟨some 75, (.fadr 1 (.t 6)), some (72, false)⟩, {}⟩, ⟨⟨some 76, (.load false 1 (.t 75)), some (72, false)⟩, {}⟩, ⟨⟨some 77, (.bin .eql (.t 74) (.t 76)), some (72, false)⟩, {}⟩, .s 78 (.pick (.t 72) (.c (B true)) (.t 77))]
  none) ref01_Check_C24) ref01_Check_C25)
def ref01_Check_C11 : TC := (.seq (.block 3 (.seq (.rg [.s 43 (.fadr 1 (.t 1)), .s 44 (.load false 1 (.t 43)), .m 45 5, .s 46 (.iadrS 10 (.t 44) (.t 45)), .s 47 (.load true 10 (.t 46)), .s 6 (.alloc [(I 0), (I 0), (I 0), (I 0), (B false), (B false), (I 0), (I 0), (I 0), (I 0)]), .d (.store 10 (.t 6) (.t 47))] none)
  ref01_Check_C19)) ref01_Check_C2)
def ref01_Check_C3 : TC := (.seq (.seq (.rg [.m 36 5, .s 37 (.fadr 1 (.t 1)), .s 38 (.load false 1 (.t 37)), .s 39 (.len (.t 38)), .s 40 (.bin .lss (.t 36) (.t 39))] none) ref01_Check_C10) ref01_Check_C11)
def ref01_Check_C12 : TC := .ret
def ref01_Check_C4 : TC := (.seq (.rg [.s 2 (.mov (.c (I 0)))] none) ref01_Check_C12)
def ref01_Check_C13 : TC := (.cond (.t 21) .skip (.exit 0))
def ref01_Check_C29 : TC := .ret
def ref01_Check_C26 : TC := (.cond (.t 35) (.seq (.rg [.s 2 (.mov (.c (I 1)))] none) ref01_Check_C29) .skip)
def ref01_Check_C20 : TC := (.seq (.rg [.m 30 4, .s 31 (.bin .lss (.t 30) (.c (I (-10000)))), .m 32 31, ⟨⟨some 33, (.mov (.t 4)), some (32, false)⟩, {}⟩, ⟨⟨some 34, (.bin .gtr (.t 33) (.c (I 10000))), some (32, false)⟩, {}⟩, .s 35 (.pick (.t 32) (.c (B true)) (.t 34))] none) ref01_Check_C26)
def ref01_Check_C21 : TC := (.rg [.m 22 3, .s 23 (.bin .add (.t 22) (.c (I 1))), .m 3 23] none)
def ref01_Check_C14 : TC := (.seq (.block 1 (.seq (.rg [.s 24 (.fadr 0 (.t 1)), .s 25 (.load false 1 (.t 24)), .m 26 3, .s 27 (.iadrS 2 (.t 25) (.t 26)), .s 28 (.fadr 0 (.t 27)), .s 29 (.load false 1 (.t 28)), .m 4 29] none) ref01_Check_C20)) ref01_Check_C21)
def ref01_Check_C5 : TC := (.seq (.seq (.rg [.m 17 3, .s 18 (.fadr 0 (.t 1)), .s 19 (.load false 1 (.t 18)), .s 20 (.len (.t 19)), .s 21 (.bin .lss (.t 17) (.t 20))] none) ref01_Check_C13) ref01_Check_C14)
def ref01_Check_C15 : TC := (.block 2 (.loop ref01_Check_N2 ref01_Check_C3))
def ref01_Check_C6 : TC := (.seq (.seq (.rg [.s 5 (.mov (.c (I 0)))] none) ref01_Check_C15) ref01_Check_C4)
def ref01_Check_C16 : TC := (.block 0 (.loop ref01_Check_N1 ref01_Check_C5))
def ref01_Check_C7 : TC := (.seq (.seq (.rg [.s 3 (.mov (.c (I 0)))] none) ref01_Check_C16) ref01_Check_C6)
def ref01_Check_C27 : TC := .ret
def ref01_Check_C22 : TC := (.cond (.t 16) (.seq (.rg [.s 2 (.mov (.c (I 2)))] none) ref01_Check_C27) .skip)
def ref01_Check_C23 : TC := (.join [.keep [1], .cmp] ref01_Check_C7)
def ref01_Check_C17 : TC := (.seq (.seq (.rg [.s 7 (.fadr 0 (.t 1)), .s 8 (.load false 1 (.t 7)), .s 9 (.len (.t 8)), .s 10 (.bin .gtr (.t 9) (.c (I 64))), .m 11 10, ⟨⟨some 12, (.fadr 1 (.t 1)), some (11, false)⟩, {}⟩, ⟨⟨some 13, (.load false 1 (.t 12)), some (11, false)⟩, {}⟩, ⟨⟨some 14, (.len (.t 13)), some (11, false)⟩, {}⟩,
  ⟨⟨some 15, (.bin .gtr (.t 14) (.c (I 128))), some (11, false)⟩, {}⟩, .s 16 (.pick (.t 11) (.c (B true)) (.t 15))] none) ref01_Check_C22) ref01_Check_C23)
def ref01_Check_C8 : TC := (.seq (.rg [.s 1 (.box (.t 0)), .s 2 (.mov (.c (I 0)))] none) ref01_Check_C17)
def ref01_Check_E (N : Nat) : List (Nat × Ent) := [(76, pureE [G_Span, (.int .i64), (.int .i64)] [.bool] (fun x => ref01_Span N x.1 x.2.1 x.2.2))]
def ref01_Check_J2 (N : Nat) (JM n2 : Nat) (x14 : Int) (x15 : List T_Place) (x16 : List T_Road) (x17 x18 x19 x20 : Int) (x21 x22 : Bool) (x23 x24 x25 x26 : Int) : Option Int := joinN (run (ref01_Check_E N) N 0 ref01_Check_C1) JM ⟨[(1, .ptr 0 0 0), (5, .int .i64 x14), (6, .ptr 1 0 0)], [some (.box 0 [.lst false G_Place x15, .lst false G_Road x16]), some (.box 0 [.int .i64 x17, .int .i64 x18, .int .i64 x19, .int .i64 x20, .bool x21, .bool x22, .int .i64 x23, .int .i64 x24, .int .i64 x25, .int .i64 x26])]⟩ (blkK 3 (seqK (run (ref01_Check_E N) N 0 ref01_Check_C2) (seqK (nextL (normI 0 ref01_Check_N2) (loopN (normI 0 ref01_Check_N2) (run (ref01_Check_E N) N 0 ref01_Check_C3) n2)) (blkK 2 (seqK (run (ref01_Check_E N) N 0 ref01_Check_C4) (fin [(.t 2)] [(.int .i64)]))))))
def ref01_Check_L2 (N : Nat) (n : Nat) (x10 : Int) (x11 : List T_Place) (x12 : List T_Road) : Option Int := loopN (normI 0 ref01_Check_N2) (run (ref01_Check_E N) N 0 ref01_Check_C3) n ⟨[(1, .ptr 0 0 0), (5, .int .i64 x10)], [some (.box 0 [.lst false G_Place x11, .lst false G_Road x12])]⟩ (blkK 2 (seqK (run (ref01_Check_E N) N 0 ref01_Check_C4) (fin [(.t 2)] [(.int .i64)])))
def ref01_Check_L1 (N : Nat) (n : Nat) (x3 : Int) (x4 : List T_Place) (x5 : List T_Road) : Option Int := loopN (normI 0 ref01_Check_N1) (run (ref01_Check_E N) N 0 ref01_Check_C5) n ⟨[(1, .ptr 0 0 0), (3, .int .i64 x3)], [some (.box 0 [.lst false G_Place x4, .lst false G_Road x5])]⟩ (blkK 0 (seqK (run (ref01_Check_E N) N 0 ref01_Check_C6) (fin [(.t 2)] [(.int .i64)])))
def ref01_Check_J1 (N : Nat) (JM : Nat) (x1 : List T_Place) (x2 : List T_Road) : Option Int := joinN (run (ref01_Check_E N) N 0 ref01_Check_C7) JM ⟨[(1, .ptr 0 0 0)], [some (.box 0 [.lst false G_Place x1, .lst false G_Road x2])]⟩ (fin [(.t 2)] [(.int .i64)])
theorem ref01_Check_J2_eq (N : Nat) (JM n2 : Nat) (x14 : Int) (x15 : List T_Place) (x16 : List T_Road) (x17 x18 x19 x20 : Int) (x21 x22 : Bool) (x23 x24 x25 x26 : Int) : ref01_Check_J2 N (JM + 1) n2 x14 x15 x16 x17 x18 x19 x20 x21 x22 x23 x24 x25 x26 =
  bif (decide (x19 < 1)) then
    some 1
  else
    bif (decide (x19 > 100000)) then
      some 1
    else
      bif (decide (x20 < 1)) then
        some 1
      else
        bif (decide (x20 > 1000)) then
          some 1
        else
          Option.bind (ref01_Span N (x23, x24) 1 262144) fun r27 =>
          bif (!r27) then
            some 1
          else
            Option.bind (ref01_Span N (x25, x26) (-2199023255552) 2199023255552) fun r28 =>
            bif (!r28) then
              some 1
            else
              ref01_Check_L2 N n2 (W (x14 + 1)) x15 x16 := by kernel_rfl
theorem ref01_Check_L2_succ (N : Nat) (n2 : Nat) (x10 : Int) (x11 : List T_Place) (x12 : List T_Road) : ref01_Check_L2 N (n2 + 1) x10 x11 x12 =
  bif (decide (x10 < (x12.length : Int))) then
    bif inB x10 x12.length then
    let v13 := x12.getD x10.toNat D_Road
    bif (decide (v13.1 < 0)) then
      some 4
    else
      bif (decide (v13.1 ≥ (x11.length : Int))) then
        some 4
      else
        bif (decide (v13.2.1 < 0)) then
          some 4
        else
          bif (decide (v13.2.1 ≥ (x11.length : Int))) then
            some 4
          else
            bif (v13.1 == v13.2.1) then
              some 4
            else
              ref01_Check_J2 N N n2 x10 x11 x12 v13.1 v13.2.1 v13.2.2.1 v13.2.2.2.1 v13.2.2.2.2.1 v13.2.2.2.2.2.1 v13.2.2.2.2.2.2.1.1 v13.2.2.2.2.2.2.1.2 v13.2.2.2.2.2.2.2.1 v13.2.2.2.2.2.2.2.2
    else none
  else
    some 0 := by kernel_rfl
theorem ref01_Check_L1_succ (N : Nat) (n1 : Nat) (x3 : Int) (x4 : List T_Place) (x5 : List T_Road) : ref01_Check_L1 N (n1 + 1) x3 x4 x5 =
  bif (decide (x3 < (x4.length : Int))) then
    bif inB x3 x4.length then
    bif (decide ((x4.getD x3.toNat D_Place).1 < (-10000))) then
      some 1
    else
      bif (decide ((x4.getD x3.toNat D_Place).1 > 10000)) then
        some 1
      else
        ref01_Check_L1 N n1 (W (x3 + 1)) x4 x5
    else none
  else
    ref01_Check_L2 N N 0 x4 x5 := by kernel_rfl
theorem ref01_Check_J1_eq (N : Nat) (JM : Nat) (x1 : List T_Place) (x2 : List T_Road) : ref01_Check_J1 N (JM + 1) x1 x2 =
  ref01_Check_L1 N N 0 x1 x2 := by kernel_rfl
def ref01_Check (N : Nat) (a0 : T_Mine) : Option Int :=
  bif (decide ((a0.1.length : Int) > 64)) then
    some 2
  else
    bif (decide ((a0.2.length : Int) > 128)) then
      some 2
    else
      ref01_Check_J1 N N a0.1 a0.2
theorem ref01_Check_fn : FnOK Tryd.prog 64 109 (fun _ : Nat => false) ref01_Check_C8.er [(.t 2)] := FnOK.mk' Tryd.func64 (by kernel_rfl) (by kernel_rfl) (by kernel_rfl) (by kernel_rfl) (by kernel_rfl)
theorem ref01_Check_envok (N : Nat) : EnvOK Tryd.prog (ref01_Check_E N) := .cons (pureE_ok (ref01_Span_pure N)) (.nil)
theorem ref01_Check_pure (N : Nat) : PureOK Tryd.prog 64 [G_Mine] [(.int .i64)] (fun x => ref01_Check N x) := pureOK (N := N) mixed ref01_Check_fn (ref01_Check_envok N) (TC.noh_ok (by kernel_rfl)) rfl (fun x => by kernel_rfl)
def ref01_Copy_NE : List NS := [.ownc 2 0 G_Place, .ownc 2 1 G_Road, .keep [2], .out []]
def ref01_Copy_C4 : TC := .ret
def ref01_Copy_C3 : TC := (.pre [.ownc 2 0 G_Place, .ownc 2 1 G_Road, .keep [2], .out []] ref01_Copy_C4)
def ref01_Copy_C2 : TC := (.seq (.pre [.ghost G_Place, .ghost G_Road] (.rg [.s 3 (.fadr 0 (.t 1)), .s 4 (.load false 1 (.t 3)), ⟨⟨some 5, (.app 2 16 (.c (.lst true [])) (.t 4)), none⟩, ⟨.unit, some 2, []⟩⟩, .s 6 (.fadr 1 (.t 1)), .s 7 (.load false 1 (.t 6)), ⟨⟨some 8, (.app 10 72 (.c (.lst true [])) (.t 7)), none⟩, ⟨.unit,
  some 3, []⟩⟩, .s 9 (.build [(.lst true []), (.lst true [])] [(0, (1, (.t 5))), (1, (1, (.t 8)))]), .d (.store 2 (.t 2) (.t 9))] (some [(2, 3), (2, 4)]))) ref01_Copy_C3)
def ref01_Copy_C1 : TC := (.seq (.rg [.s 1 (.box (.t 0)), .s 2 (.alloc [(.lst true []), (.lst true [])])] none) ref01_Copy_C2)
def ref01_Copy_E (N : Nat) : List (Nat × Ent) := []
def ref01_Copy (N : Nat) (a0 : T_Mine) : Option (T_Mine × Unit) :=
  bif fitsB a0.1.length 16 then
  bif fitsB a0.2.length 72 then
  some (a0, ())
  else none
  else none
theorem ref01_Copy_fn : FnOK Tryd.prog 65 10 (fun _ : Nat => false) ref01_Copy_C1.er [(.cell 2 true 2)] := FnOK.mk' Tryd.func65 (by kernel_rfl) (by kernel_rfl) (by kernel_rfl) (by kernel_rfl) (by kernel_rfl)
theorem ref01_Copy_envok (N : Nat) : EnvOK Tryd.prog (ref01_Copy_E N) := .nil
theorem ref01_Copy_sf (N : Nat) : SFOK Tryd.prog 65 [none] [.v G_Mine] [.o (.p (.a G_Place) (.a G_Road))] (fun x => ref01_Copy N x) := sfOK (N := N) (p := 0) (q := 0) (ns := ref01_Copy_NE) mixed ref01_Copy_fn (ref01_Copy_envok N) (TC.noh_ok (by kernel_rfl)) rfl rfl rfl (fun x => by kernel_rfl)
def ref01_Apply_C25 : TC := .ret
def ref01_Apply_C18 : TC := (.pre [.frzb 4] ref01_Apply_C25)
def ref01_Apply_C11 : TC := (.cond (.t 108) (.seq (.rg [.s 109 (.build [(.lst true []), (.lst true [])] []), .m 110 8, .d (.store 2 (.t 4) (.t 109)), .m 5 110] none) ref01_Apply_C18) .skip)
def ref01_Apply_C5 : TC := (.seq (.rg [.m 107 8, .s 108 (.bin .neq (.t 107) (.c (I 0)))] none) ref01_Apply_C11)
def ref01_Apply_C19 : TC := .ret
def ref01_Apply_C12 : TC := (.pre [.frzb 4] ref01_Apply_C19)
def ref01_Apply_C6 : TC := (.seq (.rg [.s 111 (.load true 2 (.t 7)), .d (.store 2 (.t 4) (.t 111)), .s 5 (.mov (.c (I 0)))] none) ref01_Apply_C12)
def ref01_Apply_C1 : TC := (.seq (.seq (.rg [.s 105 (.load true 2 (.t 7)), .s 106 (.call (.c (.fn 64 [])) [(.t 105)]), .m 8 106] none) ref01_Apply_C5) ref01_Apply_C6)
def ref01_Apply_C29 : TC := (.cond (.t 71) .skip (.rg [.s 73 (.bin .eql (.t 44) (.c (I 4))), .m 71 73] none))
def ref01_Apply_C37 : TC := .ret
def ref01_Apply_C36 : TC := (.pre [.frzb 4] ref01_Apply_C37)
def ref01_Apply_C33 : TC := (.cond (.t 84) (.seq (.rg [.s 85 (.build [(.lst true []), (.lst true [])] []), .d (.store 2 (.t 4) (.t 85)), .s 5 (.mov (.c (I 10)))] none) ref01_Apply_C36) .skip)
def ref01_Apply_C34 : TC := (.rg [.s 86 (.fadr 1 (.t 7)), .s 87 (.load false 1 (.t 86)), .s 88 (.fadr 13 (.t 3)), .s 89 (.load false 1 (.t 88)), .s 90 (.fadr 0 (.t 3)), .s 91 (.load false 1 (.t 90)), .s 92 (.bin .eql (.t 91) (.c (I 3))), .s 93 (.iadrS 10 (.t 87) (.t 89)), .s 94 (.fadr 5 (.t 93)), .d (.store 1 (.t 94) (.t 92))]
  none)
def ref01_Apply_C35 : TC := (.cond (.t 95) (.rg [.s 97 (.fadr 1 (.t 7)), .s 98 (.load false 1 (.t 97)), .s 99 (.fadr 13 (.t 3)), .s 100 (.load false 1 (.t 99)), .s 101 (.fadr 14 (.t 3)), .s 102 (.load true 2 (.t 101)), .s 103 (.iadrS 10 (.t 98) (.t 100)), .s 104 (.fadr 6 (.t 103)), .d (.store 2 (.t 104) (.t 102))] none) (.rg
  [.s 45 (.fadr 1 (.t 7)), .s 46 (.load false 1 (.t 45)), .s 47 (.fadr 13 (.t 3)), .s 48 (.load false 1 (.t 47)), .s 49 (.fadr 14 (.t 3)), .s 50 (.load true 2 (.t 49)), .s 51 (.iadrS 10 (.t 46) (.t 48)), .s 52 (.fadr 8 (.t 51)), .d (.store 2 (.t 52) (.t 50))] none))
def ref01_Apply_C30 : TC := (.cond (.t 71) (.seq (.seq (.rg [.s 74 (.fadr 1 (.t 7)), .s 75 (.load false 1 (.t 74)), .s 76 (.fadr 13 (.t 3)), .s 77 (.load false 1 (.t 76)), .s 78 (.iadrS 10 (.t 75) (.t 77)), .s 79 (.fadr 5 (.t 78)), .s 80 (.load false 1 (.t 79)), .s 81 (.fadr 0 (.t 3)), .s 82 (.load false 1 (.t 81)), .s 83 (.bin
  .eql (.t 82) (.c (I 3))), .s 84 (.beq false (.t 80) (.t 83))] (some [])) ref01_Apply_C33) ref01_Apply_C34) (.seq (.rg [.s 96 (.bin .eql (.t 44) (.c (I 5))), .m 95 96] none) ref01_Apply_C35))
def ref01_Apply_C26 : TC := (.cond (.t 62) (.rg [.s 64 (.fadr 1 (.t 7)), .s 65 (.load false 1 (.t 64)), .s 66 (.fadr 3 (.t 3)), .s 67 (.load true 10 (.t 66)), ⟨⟨some 68, (.bslice false 10 [(I 0), (I 0), (I 0), (I 0), (B false), (B false), (I 0), (I 0), (I 0), (I 0)] 1 [(0, (.t 67))]), none⟩, ⟨G_Road, none, []⟩⟩, .s 69 (.app 10
  72 (.t 65) (.t 68)), .s 70 (.fadr 1 (.t 7)), .d (.store 1 (.t 70) (.t 69))] none) (.seq (.seq (.rg [.s 72 (.bin .eql (.t 44) (.c (I 3))), .m 71 72] none) ref01_Apply_C29) ref01_Apply_C30))
def ref01_Apply_C20 : TC := (.cond (.t 53) (.rg [.s 55 (.fadr 0 (.t 7)), .s 56 (.load false 1 (.t 55)), .s 57 (.fadr 1 (.t 3)), .s 58 (.load true 2 (.t 57)), ⟨⟨some 59, (.bslice false 2 [(I 0), (B false)] 1 [(0, (.t 58))]), none⟩, ⟨G_Place, none, []⟩⟩, .s 60 (.app 2 16 (.t 56) (.t 59)), .s 61 (.fadr 0 (.t 7)), .d (.store 1 (.t
  61) (.t 60))] none) (.seq (.rg [.s 63 (.bin .eql (.t 44) (.c (I 2))), .m 62 63] none) ref01_Apply_C26))
def ref01_Apply_C13 : TC := (.block 0 (.seq (.rg [.s 54 (.bin .eql (.t 44) (.c (I 1))), .m 53 54] none) ref01_Apply_C20))
def ref01_Apply_C14 : TC := (.join [.keep [4, 7], .cmp] ref01_Apply_C1)
def ref01_Apply_C7 : TC := (.seq (.seq (.rg [.s 43 (.fadr 0 (.t 3)), .s 44 (.load false 1 (.t 43))] none) ref01_Apply_C13) ref01_Apply_C14)
def ref01_Apply_C2 : TC := (.seq (.rg [.s 41 (.load true 2 (.t 2)), .s 42 (.call (.c (.fn 65 [])) [(.t 41)]), .s 7 (.alloc [(.lst true []), (.lst true [])]), .d (.store 2 (.t 7) (.t 42))] none) ref01_Apply_C7)
def ref01_Apply_C21 : TC := .ret
def ref01_Apply_C15 : TC := (.pre [.frzb 4] ref01_Apply_C21)
def ref01_Apply_C8 : TC := (.cond (.t 39) (.seq (.rg [.s 40 (.build [(.lst true []), (.lst true [])] []), .d (.store 2 (.t 4) (.t 40)), .s 5 (.mov (.c (I 4)))] none) ref01_Apply_C15) .skip)
def ref01_Apply_C9 : TC := (.join [.keep [2, 3, 4], .cmp] ref01_Apply_C2)
def ref01_Apply_C3 : TC := (.seq (.seq (.rg [.s 24 (.fadr 0 (.t 3)), .s 25 (.load false 1 (.t 24)), .s 26 (.bin .geq (.t 25) (.c (I 3))), .m 27 26, ⟨⟨some 28, (.fadr 13 (.t 3)), some (27, true)⟩, {}⟩, ⟨⟨some 29, (.load false 1 (.t 28)), some (27, true)⟩, {}⟩, ⟨⟨some 30, (.bin .lss (.t 29) (.c (I 0))), some (27, true)⟩, {}⟩,
  ⟨⟨some 31, (.mov (.t 30)), some (27, true)⟩, {}⟩, ⟨⟨some 32, (.fadr 13 (.t 3)), some (31, false)⟩, {}⟩, ⟨⟨some 33, (.load false 1 (.t 32)), some (31, false)⟩, {}⟩, ⟨⟨some 34, (.fadr 1 (.t 2)), some (31, false)⟩, {}⟩, ⟨⟨some 35, (.load false 1 (.t 34)), some (31, false)⟩, {}⟩, ⟨⟨some 36, (.len (.t
  35)), some (31, false)⟩, {}⟩, ⟨⟨some 37, (.bin .geq (.t 33) (.t 36)), some (31, false)⟩, {}⟩, ⟨⟨some 38, (.pick (.t 31) (.c (B true)) (.t 37)), some (27, true)⟩, {}⟩, .s 39 (.pick (.t 27) (.t 38) (.c (B false)))] none) ref01_Apply_C8) ref01_Apply_C9)
def ref01_Apply_C31 : TC := .ret
def ref01_Apply_C27 : TC := (.pre [.frzb 4] ref01_Apply_C31)
def ref01_Apply_C22 : TC := (.cond (.t 12) (.seq (.rg [.s 13 (.build [(.lst true []), (.lst true [])] []), .m 14 6, .d (.store 2 (.t 4) (.t 13)), .m 5 14] none) ref01_Apply_C27) .skip)
def ref01_Apply_C16 : TC := (.seq (.rg [.m 11 6, .s 12 (.bin .neq (.t 11) (.c (I 0)))] none) ref01_Apply_C22)
def ref01_Apply_C32 : TC := .ret
def ref01_Apply_C28 : TC := (.pre [.frzb 4] ref01_Apply_C32)
def ref01_Apply_C23 : TC := (.cond (.t 22) (.seq (.rg [.s 23 (.build [(.lst true []), (.lst true [])] []), .d (.store 2 (.t 4) (.t 23)), .s 5 (.mov (.c (I 5)))] none) ref01_Apply_C28) .skip)
def ref01_Apply_C24 : TC := (.join [.keep [2, 3, 4], .cmp] ref01_Apply_C3)
def ref01_Apply_C17 : TC := (.seq (.seq (.rg [.s 15 (.fadr 0 (.t 3)), .s 16 (.load false 1 (.t 15)), .s 17 (.bin .lss (.t 16) (.c (I 1))), .m 18 17, ⟨⟨some 19, (.fadr 0 (.t 3)), some (18, false)⟩, {}⟩, ⟨⟨some 20, (.load false 1 (.t 19)), some (18, false)⟩, {}⟩, ⟨⟨some 21, (.bin .gtr (.t 20) (.c (I 6))), some (18, false)⟩, {}⟩,
  .s 22 (.pick (.t 18) (.c (B true)) (.t 21))] none) ref01_Apply_C23) ref01_Apply_C24)
def ref01_Apply_C10 : TC := (.seq (.seq (.rg [.s 9 (.load true 2 (.t 2)), .s 10 (.call (.c (.fn 64 [])) [(.t 9)]), .m 6 10] none) ref01_Apply_C16) ref01_Apply_C17)
def ref01_Apply_C4 : TC := (.seq (.rg [.s 2 (.box (.t 0)), .s 3 (.box (.t 1)), .s 4 (.alloc [(.lst true []), (.lst true [])]), .s 5 (.mov (.c (I 0)))] none) ref01_Apply_C10)
def ref01_Apply_E (N : Nat) : List (Nat × Ent) := [(64, pureE [G_Mine] [(.int .i64)] (fun x => ref01_Check N x)), (65, sfE [none] [.v G_Mine] [.o (.p (.a G_Place) (.a G_Road))] (fun x => ref01_Copy N x))]
def ref01_Apply_J3 (N : Nat) (JM : Nat) (x40 : List T_Place) (x41 : List T_Road) : Option (T_Mine × Int) := joinN (run (ref01_Apply_E N) N 0 ref01_Apply_C1) JM ⟨[(4, .ptr 0 0 0), (7, .ptr 1 0 0)], [some (.box 0 [.nil, .nil]), some (.box 0 [.whole 2, .whole 3]), some (.arr G_Place x40), some (.arr G_Road x41)]⟩ (fin [(.cell 4 true 2), (.t 5)] [G_Mine, (.int .i64)])
def ref01_Apply_J2 (N : Nat) (JM : Nat) (x20 : List T_Place) (x21 : List T_Road) (x22 x23 : Int) (x24 : Bool) (x25 x26 x27 x28 : Int) (x29 x30 : Bool) (x31 x32 x33 x34 x35 x36 x37 : Int) : Option (T_Mine × Int) := joinN (run (ref01_Apply_E N) N 0 ref01_Apply_C2) JM ⟨[(2, .ptr 0 0 0), (3, .ptr 1 0 0), (4, .ptr 2 0 0)], [some (.box 0 [.lst false G_Place x20, .lst false G_Road x21]), some (.box 0 [.int .i64 x22, .int .i64 x23, .bool x24, .int .i64 x25, .int .i64 x26, .int .i64 x27, .int .i64 x28, .bool x29, .bool x30, .int .i64 x31, .int .i64 x32, .int .i64 x33, .int .i64 x34, .int .i64 x35, .int .i64 x36, .int .i64 x37]), some (.box 0 [.nil, .nil])]⟩ (fin [(.cell 4 true 2), (.t 5)] [G_Mine, (.int .i64)])
def ref01_Apply_J1 (N : Nat) (JM : Nat) (x2 : List T_Place) (x3 : List T_Road) (x4 x5 : Int) (x6 : Bool) (x7 x8 x9 x10 : Int) (x11 x12 : Bool) (x13 x14 x15 x16 x17 x18 x19 : Int) : Option (T_Mine × Int) := joinN (run (ref01_Apply_E N) N 0 ref01_Apply_C3) JM ⟨[(2, .ptr 0 0 0), (3, .ptr 1 0 0), (4, .ptr 2 0 0)], [some (.box 0 [.lst false G_Place x2, .lst false G_Road x3]), some (.box 0 [.int .i64 x4, .int .i64 x5, .bool x6, .int .i64 x7, .int .i64 x8, .int .i64 x9, .int .i64 x10, .bool x11, .bool x12, .int .i64 x13, .int .i64 x14, .int .i64 x15, .int .i64 x16, .int .i64 x17, .int .i64 x18, .int .i64 x19]), some (.box 0 [.nil, .nil])]⟩ (fin [(.cell 4 true 2), (.t 5)] [G_Mine, (.int .i64)])
theorem ref01_Apply_J3_eq (N : Nat) (JM : Nat) (x40 : List T_Place) (x41 : List T_Road) : ref01_Apply_J3 N (JM + 1) x40 x41 =
  Option.bind (ref01_Check N (x40, x41)) fun r42 =>
  bif (r42 != 0) then
    some (([], []), r42)
  else
    some ((x40, x41), 0) := by kernel_rfl
theorem ref01_Apply_J2_eq (N : Nat) (JM : Nat) (x20 : List T_Place) (x21 : List T_Road) (x22 x23 : Int) (x24 : Bool) (x25 x26 x27 x28 : Int) (x29 x30 : Bool) (x31 x32 x33 x34 x35 x36 x37 : Int) : ref01_Apply_J2 N (JM + 1) x20 x21 x22 x23 x24 x25 x26 x27 x28 x29 x30 x31 x32 x33 x34 x35 x36 x37 =
  Option.bind (ref01_Copy N (x20, x21)) fun r38 =>
  bif (x22 == 1) then
    bif fitsB (r38.1.1.length + 1) 16 then
    ref01_Apply_J3 N N (r38.1.1 ++ [(x23, x24)]) r38.1.2
    else none
  else
    bif (x22 == 2) then
      bif fitsB (r38.1.2.length + 1) 72 then
      ref01_Apply_J3 N N r38.1.1 (r38.1.2 ++ [(x25, (x26, (x27, (x28, (x29, (x30, ((x31, x32), (x33, x34))))))))])
      else none
    else
      bif (x22 == 3) then
        bif inB x35 r38.1.2.length then
        bif ((r38.1.2.getD x35.toNat D_Road).2.2.2.2.2.1 == (x22 == 3)) then
          some (([], []), 10)
        else
          bif inB x35 r38.1.2.length then
          let v49 := r38.1.2.getD x35.toNat D_Road
          ref01_Apply_J3 N N r38.1.1 (r38.1.2.set x35.toNat (v49.1, (v49.2.1, (v49.2.2.1, (v49.2.2.2.1, (v49.2.2.2.2.1, ((x22 == 3), v49.2.2.2.2.2.2)))))))
          else none
        else none
      else
        bif (x22 == 4) then
          bif inB x35 r38.1.2.length then
          bif ((r38.1.2.getD x35.toNat D_Road).2.2.2.2.2.1 == (x22 == 3)) then
            some (([], []), 10)
          else
            bif inB x35 r38.1.2.length then
            let v54 := r38.1.2.getD x35.toNat D_Road
            ref01_Apply_J3 N N r38.1.1 (r38.1.2.set x35.toNat (v54.1, (v54.2.1, (v54.2.2.1, (v54.2.2.2.1, (v54.2.2.2.2.1, ((x22 == 3), v54.2.2.2.2.2.2)))))))
            else none
          else none
        else
          bif (x22 == 5) then
            bif inB x35 r38.1.2.length then
            let v58 := r38.1.2.getD x35.toNat D_Road
            ref01_Apply_J3 N N r38.1.1 (r38.1.2.set x35.toNat (v58.1, (v58.2.1, (v58.2.2.1, (v58.2.2.2.1, (v58.2.2.2.2.1, (v58.2.2.2.2.2.1, ((x36, x37), v58.2.2.2.2.2.2.2))))))))
            else none
          else
            bif inB x35 r38.1.2.length then
            let v62 := r38.1.2.getD x35.toNat D_Road
            ref01_Apply_J3 N N r38.1.1 (r38.1.2.set x35.toNat (v62.1, (v62.2.1, (v62.2.2.1, (v62.2.2.2.1, (v62.2.2.2.2.1, (v62.2.2.2.2.2.1, (v62.2.2.2.2.2.2.1, (x36, x37)))))))))
            else none := by kernel_rfl
theorem ref01_Apply_J1_eq (N : Nat) (JM : Nat) (x2 : List T_Place) (x3 : List T_Road) (x4 x5 : Int) (x6 : Bool) (x7 x8 x9 x10 : Int) (x11 x12 : Bool) (x13 x14 x15 x16 x17 x18 x19 : Int) : ref01_Apply_J1 N (JM + 1) x2 x3 x4 x5 x6 x7 x8 x9 x10 x11 x12 x13 x14 x15 x16 x17 x18 x19 =
  bif (decide (x4 ≥ 3)) then
    bif (decide (x17 < 0)) then
      some (([], []), 4)
    else
      bif (decide (x17 ≥ (x3.length : Int))) then
        some (([], []), 4)
      else
        ref01_Apply_J2 N N x2 x3 x4 x5 x6 x7 x8 x9 x10 x11 x12 x13 x14 x15 x16 x17 x18 x19
  else
    ref01_Apply_J2 N N x2 x3 x4 x5 x6 x7 x8 x9 x10 x11 x12 x13 x14 x15 x16 x17 x18 x19 := by kernel_rfl
def ref01_Apply (N : Nat) (a0 : T_Mine) (a1 : T_Edit) : Option (T_Mine × Int) :=
  Option.bind (ref01_Check N a0) fun r1 =>
  bif (r1 != 0) then
    some (([], []), r1)
  else
    bif (decide (a1.1 < 1)) then
      some (([], []), 5)
    else
      bif (decide (a1.1 > 6)) then
        some (([], []), 5)
      else
        ref01_Apply_J1 N N a0.1 a0.2 a1.1 a1.2.1.1 a1.2.1.2 a1.2.2.1.1 a1.2.2.1.2.1 a1.2.2.1.2.2.1 a1.2.2.1.2.2.2.1 a1.2.2.1.2.2.2.2.1 a1.2.2.1.2.2.2.2.2.1 a1.2.2.1.2.2.2.2.2.2.1.1 a1.2.2.1.2.2.2.2.2.2.1.2 a1.2.2.1.2.2.2.2.2.2.2.1 a1.2.2.1.2.2.2.2.2.2.2.2 a1.2.2.2.1 a1.2.2.2.2.1 a1.2.2.2.2.2
theorem ref01_Apply_fn : FnOK Tryd.prog 54 112 (fun _ : Nat => false) ref01_Apply_C4.er [(.cell 4 true 2), (.t 5)] := FnOK.mk' Tryd.func54 (by kernel_rfl) (by kernel_rfl) (by kernel_rfl) (by kernel_rfl) (by kernel_rfl)
theorem ref01_Apply_envok (N : Nat) : EnvOK Tryd.prog (ref01_Apply_E N) := .cons (pureE_ok (ref01_Check_pure N)) (.cons (sfE_ok (ref01_Copy_sf N)) (.nil))
theorem ref01_Apply_pure (N : Nat) : PureOK Tryd.prog 54 [G_Mine, G_Edit] [G_Mine, (.int .i64)] (fun x => ref01_Apply N x.1 x.2) := pureOK (N := N) mixed ref01_Apply_fn (ref01_Apply_envok N) (TC.noh_ok (by kernel_rfl)) rfl (fun x => by kernel_rfl)
def ref01_All_N1 : List NS := [.wk 1 (.list G_Edit), .keep [1, 2, 4, 7], .cmp]
def ref01_All_C4 : TC := (.cond (.t 13) .skip (.exit 0))
def ref01_All_C15 : TC := .ret
def ref01_All_C14 : TC := (.pre [.frzb 4] ref01_All_C15)
def ref01_All_C12 : TC := (.cond (.t 26) (.seq (.rg [.s 27 (.load true 2 (.t 2)), .m 28 7, .m 29 9, .d (.store 2 (.t 4) (.t 27)), .m 5 28, .m 6 29] none) ref01_All_C14) .skip)
def ref01_All_C13 : TC := (.rg [.s 30 (.load true 2 (.t 8)), .d (.store 2 (.t 2) (.t 30))] none)
def ref01_All_C8 : TC := (.seq (.seq (.rg [.m 25 9, .s 26 (.bin .neq (.t 25) (.c (I 0)))] none) ref01_All_C12) ref01_All_C13)
def ref01_All_C9 : TC := (.rg [.m 14 7, .s 15 (.bin .add (.t 14) (.c (I 1))), .m 7 15] none)
def ref01_All_C5 : TC := (.seq (.block 1 (.seq (.pre [.wait] (.rg [.s 17 (.load true 2 (.t 2)), .m 18 1, .m 19 7, .s 20 (.iadrS 16 (.t 18) (.t 19)), .s 21 (.load true 16 (.t 20)), .s 22 (.call (.c (.fn 54 [])) [(.t 17), (.t 21)]), .m 16 22, .s 23 (.extr 0 (.t 16)), .s 24 (.extr 1 (.t 16)), ⟨⟨some 8, (.alloc [(.lst true []),
  (.lst true [])]), none⟩, ⟨.unit, some 2, []⟩⟩, .d (.store 2 (.t 8) (.t 23)), .m 9 24] (some [(0, 9), (3, 9), (4, 9), (5, 9)]))) ref01_All_C8)) ref01_All_C9)
def ref01_All_C1 : TC := (.seq (.seq (.rg [.m 10 7, .m 11 1, .s 12 (.len (.t 11)), .s 13 (.bin .lss (.t 10) (.t 12))] none) ref01_All_C4) ref01_All_C5)
def ref01_All_C10 : TC := .ret
def ref01_All_C6 : TC := (.pre [.frzb 4] ref01_All_C10)
def ref01_All_C2 : TC := (.seq (.rg [.s 31 (.load true 2 (.t 2)), .m 32 1, .s 33 (.len (.t 32)), .d (.store 2 (.t 4) (.t 31)), .m 5 33, .s 6 (.mov (.c (I 0)))] none) ref01_All_C6)
def ref01_All_C11 : TC := (.block 0 (.loop ref01_All_N1 ref01_All_C1))
def ref01_All_C7 : TC := (.seq (.seq (.rg [.s 7 (.mov (.c (I 0)))] none) ref01_All_C11) ref01_All_C2)
def ref01_All_C3 : TC := (.seq (.rg [.s 2 (.box (.t 0)), .s 4 (.alloc [(.lst true []), (.lst true [])]), .s 5 (.mov (.c (I 0))), .s 6 (.mov (.c (I 0)))] none) ref01_All_C7)
def ref01_All_E (N : Nat) : List (Nat × Ent) := [(54, pureE [G_Mine, G_Edit] [G_Mine, (.int .i64)] (fun x => ref01_Apply N x.1 x.2))]
def ref01_All_L1 (N : Nat) (n : Nat) (x1 : List T_Edit) (x2 : Int) (x3 : List T_Place) (x4 : List T_Road) : Option (T_Mine × Int × Int) := loopN (normI 0 ref01_All_N1) (run (ref01_All_E N) N 0 ref01_All_C1) n ⟨[(1, .lst false G_Edit x1), (2, .ptr 0 0 0), (4, .ptr 1 0 0), (7, .int .i64 x2)], [some (.box 0 [.lst false G_Place x3, .lst false G_Road x4]), some (.box 0 [.nil, .nil])]⟩ (blkK 0 (seqK (run (ref01_All_E N) N 0 ref01_All_C2) (fin [(.cell 4 true 2), (.t 5), (.t 6)] [G_Mine, (.int .i64), (.int .i64)])))
theorem ref01_All_L1_succ (N : Nat) (n1 : Nat) (x1 : List T_Edit) (x2 : Int) (x3 : List T_Place) (x4 : List T_Road) : ref01_All_L1 N (n1 + 1) x1 x2 x3 x4 =
  bif (decide (x2 < (x1.length : Int))) then
    bif inB x2 x1.length then
    Option.bind (ref01_Apply N (x3, x4) (x1.getD x2.toNat D_Edit)) fun r6 =>
    bif (r6.2 != 0) then
      some ((x3, x4), x2, r6.2)
    else
      ref01_All_L1 N n1 x1 (W (x2 + 1)) r6.1.1 r6.1.2
    else none
  else
    some ((x3, x4), (x1.length : Int), 0) := by kernel_rfl
def ref01_All (N : Nat) (a0 : T_Mine) (a1 : List T_Edit) : Option (T_Mine × Int × Int) :=
  ref01_All_L1 N N a1 0 a0.1 a0.2
theorem ref01_All_fn : FnOK Tryd.prog 40 34 (fun _ : Nat => false) ref01_All_C3.er [(.cell 4 true 2), (.t 5), (.t 6)] := FnOK.mk' Tryd.func40 (by kernel_rfl) (by kernel_rfl) (by kernel_rfl) (by kernel_rfl) (by kernel_rfl)
theorem ref01_All_envok (N : Nat) : EnvOK Tryd.prog (ref01_All_E N) := .cons (pureE_ok (ref01_Apply_pure N)) (.nil)
theorem ref01_All_pure (N : Nat) : PureOK Tryd.prog 40 [G_Mine, (.list G_Edit)] [G_Mine, (.int .i64), (.int .i64)] (fun x => ref01_All N x.1 x.2) := pureOK (N := N) mixed ref01_All_fn (ref01_All_envok N) (TC.noh_ok (by kernel_rfl)) rfl (fun x => by kernel_rfl)
def ref02_Read_C8 : TC := .ret
def ref02_Read_C6 : TC := (.pre [.frzb 4] ref02_Read_C8)
def ref02_Read_C4 : TC := (.cond (.t 17) (.seq (.rg [.s 18 (.load true 2 (.t 2)), .m 19 8, .m 20 9, .d (.store 2 (.t 4) (.t 18)), .m 5 19, .m 6 20] none) ref02_Read_C6) .skip)
def ref02_Read_C9 : TC := .ret
def ref02_Read_C7 : TC := (.pre [.frzb 4] ref02_Read_C9)
def ref02_Read_C5 : TC := (.seq (.rg [.s 21 (.load true 2 (.t 2)), .m 22 7, .s 23 (.call (.c (.fn 40 [])) [(.t 21), (.t 22)]), .s 24 (.extr 0 (.t 23)), .s 25 (.extr 1 (.t 23)), .s 26 (.extr 2 (.t 23)), .d (.store 2 (.t 4) (.t 24)), .m 5 25, .m 6 26] none) ref02_Read_C7)
def ref02_Read_C3 : TC := (.seq (.seq (.rg [.m 16 9, .s 17 (.bin .neq (.t 16) (.c (I 0)))] none) ref02_Read_C4) ref02_Read_C5)
def ref02_Read_C2 : TC := (.seq (.rg [.m 11 1, .s 12 (.call (.c (.fn 39 [])) [(.t 11)]), .m 10 12, .s 13 (.extr 0 (.t 10)), .s 14 (.extr 1 (.t 10)), .s 15 (.extr 2 (.t 10)), .m 7 13, .m 8 14, .m 9 15] none) ref02_Read_C3)
def ref02_Read_C1 : TC := (.seq (.rg [.s 2 (.box (.t 0)), .s 4 (.alloc [(.lst true []), (.lst true [])]), .s 5 (.mov (.c (I 0))), .s 6 (.mov (.c (I 0)))] none) ref02_Read_C2)
def ref02_Read_E (N : Nat) : List (Nat × Ent) := [(39, pureE [.str] [(.list G_Edit), (.int .i64), (.int .i64)] (fun x => ref02_Parse N x)), (40, pureE [G_Mine, (.list G_Edit)] [G_Mine, (.int .i64), (.int .i64)] (fun x => ref01_All N x.1 x.2))]
def ref02_Read (N : Nat) (a0 : T_Mine) (a1 : List UInt8) : Option (T_Mine × Int × Int) :=
  Option.bind (ref02_Parse N a1) fun r1 =>
  bif (r1.2.2 != 0) then
    some (a0, r1.2.1, r1.2.2)
  else
    Option.bind (ref01_All N a0 r1.1) fun r2 =>
    some (r2.1, r2.2.1, r2.2.2)
theorem ref02_Read_fn : FnOK Tryd.prog 19 27 (fun _ : Nat => false) ref02_Read_C1.er [(.cell 4 true 2), (.t 5), (.t 6)] := FnOK.mk' Tryd.func19 (by kernel_rfl) (by kernel_rfl) (by kernel_rfl) (by kernel_rfl) (by kernel_rfl)
theorem ref02_Read_envok (N : Nat) : EnvOK Tryd.prog (ref02_Read_E N) := .cons (pureE_ok (ref02_Parse_pure N)) (.cons (pureE_ok (ref01_All_pure N)) (.nil))
theorem ref02_Read_pure (N : Nat) : PureOK Tryd.prog 19 [G_Mine, .str] [G_Mine, (.int .i64), (.int .i64)] (fun x => ref02_Read N x.1 x.2) := pureOK (N := N) mixed ref02_Read_fn (ref02_Read_envok N) (TC.noh_ok (by kernel_rfl)) rfl (fun x => by kernel_rfl)
def ref01_Same_N1 : List NS := [.keep [2, 3, 5], .cmp]
def ref01_Same_N2 : List NS := [.keep [2, 3, 6], .cmp]
def ref01_Same_C6 : TC := (.cond (.t 45) .skip (.exit 2))
def ref01_Same_C19 : TC := .ret
def ref01_Same_C13 : TC := (.cond (.t 58) (.seq (.rg [.s 4 (.mov (.c (B false)))] none) ref01_Same_C19) .skip)
def ref01_Same_C14 : TC := (.rg [.m 46 6, .s 47 (.bin .add (.t 46) (.c (I 1))), .m 6 47] none)
def ref01_Same_C7 : TC := (.seq (.block 3 (.seq (.rg [.s 48 (.fadr 1 (.t 2)), .s 49 (.load false 1 (.t 48)), .m 50 6, .s 51 (.iadrS 10 (.t 49) (.t 50)), .s 52 (.load true 10 (.t 51)), .s 53 (.fadr 1 (.t 3)), .s 54 (.load false 1 (.t 53)), .m 55 6, .s 56 (.iadrS 10 (.t 54) (.t 55)), .s 57 (.load true 10 (.t 56)), .s 58 (.eqa
  true [(0, 1), (1, 1), (2, 1), (3, 1), (4, 0), (5, 0), (6, 1), (7, 1), (8, 1), (9, 1)] (.t 52) (.t 57))] (some [])) ref01_Same_C13)) ref01_Same_C14)
def ref01_Same_C1 : TC := (.seq (.seq (.rg [.m 41 6, .s 42 (.fadr 1 (.t 2)), .s 43 (.load false 1 (.t 42)), .s 44 (.len (.t 43)), .s 45 (.bin .lss (.t 41) (.t 44))] none) ref01_Same_C6) ref01_Same_C7)
def ref01_Same_C8 : TC := .ret
def ref01_Same_C2 : TC := (.seq (.rg [.s 4 (.mov (.c (B true)))] none) ref01_Same_C8)
def ref01_Same_C9 : TC := (.cond (.t 27) .skip (.exit 0))
def ref01_Same_C20 : TC := .ret
def ref01_Same_C15 : TC := (.cond (.t 40) (.seq (.rg [.s 4 (.mov (.c (B false)))] none) ref01_Same_C20) .skip)
def ref01_Same_C16 : TC := (.rg [.m 28 5, .s 29 (.bin .add (.t 28) (.c (I 1))), .m 5 29] none)
def ref01_Same_C10 : TC := (.seq (.block 1 (.seq (.rg [.s 30 (.fadr 0 (.t 2)), .s 31 (.load false 1 (.t 30)), .m 32 5, .s 33 (.iadrS 2 (.t 31) (.t 32)), .s 34 (.load true 2 (.t 33)), .s 35 (.fadr 0 (.t 3)), .s 36 (.load false 1 (.t 35)), .m 37 5, .s 38 (.iadrS 2 (.t 36) (.t 37)), .s 39 (.load true 2 (.t 38)), .s 40 (.eqa true
  [(0, 1), (1, 0)] (.t 34) (.t 39))] (some [])) ref01_Same_C15)) ref01_Same_C16)
def ref01_Same_C3 : TC := (.seq (.seq (.rg [.m 23 5, .s 24 (.fadr 0 (.t 2)), .s 25 (.load false 1 (.t 24)), .s 26 (.len (.t 25)), .s 27 (.bin .lss (.t 23) (.t 26))] none) ref01_Same_C9) ref01_Same_C10)
def ref01_Same_C11 : TC := (.block 2 (.loop ref01_Same_N2 ref01_Same_C1))
def ref01_Same_C4 : TC := (.seq (.seq (.rg [.s 6 (.mov (.c (I 0)))] none) ref01_Same_C11) ref01_Same_C2)
def ref01_Same_C21 : TC := .ret
def ref01_Same_C17 : TC := (.cond (.t 22) (.seq (.rg [.s 4 (.mov (.c (B false)))] none) ref01_Same_C21) .skip)
def ref01_Same_C22 : TC := (.block 0 (.loop ref01_Same_N1 ref01_Same_C3))
def ref01_Same_C18 : TC := (.seq (.seq (.rg [.s 5 (.mov (.c (I 0)))] none) ref01_Same_C22) ref01_Same_C4)
def ref01_Same_C12 : TC := (.seq (.seq (.rg [.s 7 (.fadr 0 (.t 2)), .s 8 (.load false 1 (.t 7)), .s 9 (.len (.t 8)), .s 10 (.fadr 0 (.t 3)), .s 11 (.load false 1 (.t 10)), .s 12 (.len (.t 11)), .s 13 (.bin .neq (.t 9) (.t 12)), .m 14 13, ⟨⟨some 15, (.fadr 1 (.t 2)), some (14, false)⟩, {}⟩, ⟨⟨some 16, (.load false 1 (.t 15)),
  some (14, false)⟩, {}⟩, ⟨⟨some 17, (.len (.t 16)), some (14, false)⟩, {}⟩, ⟨⟨some 18, (.fadr 1 (.t 3)), some (14, false)⟩, {}⟩, ⟨⟨some 19, (.load false 1 (.t 18)), some (14, false)⟩, {}⟩, ⟨⟨some 20, (.len (.t 19)), some (14, false)⟩, {}⟩, ⟨⟨some 21, (.bin .neq (.t 17) (.t 20)), some (14, false)⟩,
  {}⟩, .s 22 (.pick (.t 14) (.c (B true)) (.t 21))] none) ref01_Same_C17) ref01_Same_C18)
def ref01_Same_C5 : TC := (.seq (.rg [.s 2 (.box (.t 0)), .s 3 (.box (.t 1)), .s 4 (.mov (.c (B false)))] none) ref01_Same_C12)
def ref01_Same_E (N : Nat) : List (Nat × Ent) := []
def ref01_Same_L2 (N : Nat) (n : Nat) (x13 : Int) (x14 : List T_Place) (x15 : List T_Road) (x16 : List T_Place) (x17 : List T_Road) : Option Bool := loopN (normI 0 ref01_Same_N2) (run (ref01_Same_E N) N 0 ref01_Same_C1) n ⟨[(2, .ptr 0 0 0), (3, .ptr 1 0 0), (6, .int .i64 x13)], [some (.box 0 [.lst false G_Place x14, .lst false G_Road x15]), some (.box 0 [.lst false G_Place x16, .lst false G_Road x17])]⟩ (blkK 2 (seqK (run (ref01_Same_E N) N 0 ref01_Same_C2) (fin [(.t 4)] [.bool])))
def ref01_Same_L1 (N : Nat) (n : Nat) (x1 : Int) (x2 : List T_Place) (x3 : List T_Road) (x4 : List T_Place) (x5 : List T_Road) : Option Bool := loopN (normI 0 ref01_Same_N1) (run (ref01_Same_E N) N 0 ref01_Same_C3) n ⟨[(2, .ptr 0 0 0), (3, .ptr 1 0 0), (5, .int .i64 x1)], [some (.box 0 [.lst false G_Place x2, .lst false G_Road x3]), some (.box 0 [.lst false G_Place x4, .lst false G_Road x5])]⟩ (blkK 0 (seqK (run (ref01_Same_E N) N 0 ref01_Same_C4) (fin [(.t 4)] [.bool])))
theorem ref01_Same_L2_succ (N : Nat) (n2 : Nat) (x13 : Int) (x14 : List T_Place) (x15 : List T_Road) (x16 : List T_Place) (x17 : List T_Road) : ref01_Same_L2 N (n2 + 1) x13 x14 x15 x16 x17 =
  bif (decide (x13 < (x15.length : Int))) then
    bif inB x13 x15.length then
    let v18 := x15.getD x13.toNat D_Road
    bif inB x13 x17.length then
    let v19 := x17.getD x13.toNat D_Road
    bif (!((v18.1 == v19.1) && ((v18.2.1 == v19.2.1) && ((v18.2.2.1 == v19.2.2.1) && ((v18.2.2.2.1 == v19.2.2.2.1) && ((v18.2.2.2.2.1 == v19.2.2.2.2.1) && ((v18.2.2.2.2.2.1 == v19.2.2.2.2.2.1) && ((v18.2.2.2.2.2.2.1.1 == v19.2.2.2.2.2.2.1.1) && ((v18.2.2.2.2.2.2.1.2 == v19.2.2.2.2.2.2.1.2) && ((v18.2.2.2.2.2.2.2.1 == v19.2.2.2.2.2.2.2.1) && (v18.2.2.2.2.2.2.2.2 == v19.2.2.2.2.2.2.2.2))))))))))) then
      some false
    else
      ref01_Same_L2 N n2 (W (x13 + 1)) x14 x15 x16 x17
    else none
    else none
  else
    some true := by kernel_rfl
theorem ref01_Same_L1_succ (N : Nat) (n1 : Nat) (x1 : Int) (x2 : List T_Place) (x3 : List T_Road) (x4 : List T_Place) (x5 : List T_Road) : ref01_Same_L1 N (n1 + 1) x1 x2 x3 x4 x5 =
  bif (decide (x1 < (x2.length : Int))) then
    bif inB x1 x2.length then
    bif inB x1 x4.length then
    bif (!(((x2.getD x1.toNat D_Place).1 == (x4.getD x1.toNat D_Place).1) && ((x2.getD x1.toNat D_Place).2 == (x4.getD x1.toNat D_Place).2))) then
      some false
    else
      ref01_Same_L1 N n1 (W (x1 + 1)) x2 x3 x4 x5
    else none
    else none
  else
    ref01_Same_L2 N N 0 x2 x3 x4 x5 := by kernel_rfl
def ref01_Same (N : Nat) (a0 : T_Mine) (a1 : T_Mine) : Option Bool :=
  bif ((a0.1.length : Int) != (a1.1.length : Int)) then
    some false
  else
    bif ((a0.2.length : Int) != (a1.2.length : Int)) then
      some false
    else
      ref01_Same_L1 N N 0 a0.1 a0.2 a1.1 a1.2
theorem ref01_Same_fn : FnOK Tryd.prog 20 59 (fun _ : Nat => false) ref01_Same_C5.er [(.t 4)] := FnOK.mk' Tryd.func20 (by kernel_rfl) (by kernel_rfl) (by kernel_rfl) (by kernel_rfl) (by kernel_rfl)
theorem ref01_Same_envok (N : Nat) : EnvOK Tryd.prog (ref01_Same_E N) := .nil
theorem ref01_Same_pure (N : Nat) : PureOK Tryd.prog 20 [G_Mine, G_Mine] [.bool] (fun x => ref01_Same N x.1 x.2) := pureOK (N := N) mixed ref01_Same_fn (ref01_Same_envok N) (TC.noh_ok (by kernel_rfl)) rfl (fun x => by kernel_rfl)
def law02_SurveyReads_N1 : List NS := [.wk 29 (.list .str), .keep [6, 29, 30, 31], .cmp]
def law02_SurveyReads_C17 : TC := .ret
def law02_SurveyReads_C16 : TC := (.cond (.t 62) (.seq (.rg [.s 4 (.mov (.c (B false)))] none) law02_SurveyReads_C17) .skip)
def law02_SurveyReads_C14 : TC := (.seq (.rg [.s 49 (.load true 2 (.t 11)), .s 50 (.load true 2 (.t 14)), .s 51 (.call (.c (.fn 20 [])) [(.t 49), (.t 50)]), .s 52 (.un .not (.t 51)), .m 53 52, ⟨⟨some 54, (.mov (.t 12)), some (53, false)⟩, {}⟩, ⟨⟨some 55, (.mov (.t 15)), some (53, false)⟩, {}⟩, ⟨⟨some 56, (.bin .neq (.t 54) (.t 55)),
  some (53, false)⟩, {}⟩, .s 57 (.pick (.t 53) (.c (B true)) (.t 56)), .m 58 57, ⟨⟨some 59, (.mov (.t 13)), some (58, false)⟩, {}⟩, ⟨⟨some 60, (.mov (.t 16)), some (58, false)⟩, {}⟩, ⟨⟨some 61, (.bin .neq (.t 59) (.t 60)), some (58, false)⟩, {}⟩, .s 62 (.pick (.t 58) (.c (B true)) (.t 61))] none)
  law02_SurveyReads_C16)
def law02_SurveyReads_C12 : TC := (.seq (.rg [.s 43 (.load true 2 (.t 6)), .m 44 10, .s 45 (.call (.c (.fn 19 [])) [(.t 43), (.t 44)]), .m 42 45, .s 46 (.extr 0 (.t 42)), .s 47 (.extr 1 (.t 42)), .s 48 (.extr 2 (.t 42)), .s 14 (.alloc [(.lst true []), (.lst true [])]), .d (.store 2 (.t 14) (.t 46)), .m 15 47, .m 16 48] none)
  law02_SurveyReads_C14)
def law02_SurveyReads_C9 : TC := (.seq (.rg [.s 36 (.load true 2 (.t 6)), .m 37 10, .s 38 (.call (.c (.fn 18 [])) [(.t 36), (.t 37)]), .m 35 38, .s 39 (.extr 0 (.t 35)), .s 40 (.extr 1 (.t 35)), .s 41 (.extr 2 (.t 35)), .s 11 (.alloc [(.lst true []), (.lst true [])]), .d (.store 2 (.t 11) (.t 39)), .m 12 40, .m 13 41] none)
  law02_SurveyReads_C12)
def law02_SurveyReads_C10 : TC := (.rg [.s 63 (.bin .add (.t 31) (.c (I 1))), .m 31 63] none)
def law02_SurveyReads_C7 : TC := (.seq (.block 1 (.seq (.rg [.s 33 (.iadrS 1 (.t 29) (.t 31)), .s 34 (.load false 1 (.t 33)), .m 10 34] none) law02_SurveyReads_C9)) law02_SurveyReads_C10)
def law02_SurveyReads_C4 : TC := (.seq (.cond (.t 32) .skip (.exit 0)) law02_SurveyReads_C7)
def law02_SurveyReads_C1 : TC := (.seq (.rg [.s 32 (.bin .lss (.t 31) (.t 30))] none) law02_SurveyReads_C4)
def law02_SurveyReads_C5 : TC := .ret
def law02_SurveyReads_C2 : TC := (.seq (.rg [.s 64 (.call (.c (.fn 9 [])) []), .m 4 64] none) law02_SurveyReads_C5)
def law02_SurveyReads_C15 : TC := (.block 0 (.loop law02_SurveyReads_N1 law02_SurveyReads_C1))
def law02_SurveyReads_C13 : TC := (.seq (.seq (.rg [.m 27 7, .m 28 1, ⟨⟨some 29, (.bslice false 1 [(.v (.string ⟨⟨[]⟩⟩))] 2 [(0, (.t 27)), (1, (.t 28))]), none⟩, ⟨.str, none, []⟩⟩, .s 30 (.len (.t 29)), .s 31 (.mov (.c (I 0)))] none) law02_SurveyReads_C15) law02_SurveyReads_C2)
def law02_SurveyReads_C11 : TC := (.seq (.rg [.m 22 5, .s 23 (.call (.c (.fn 11 [])) [(.t 22), (.c (I 6))]), .s 24 (.call (.c (.fn 13 [])) [(.t 23)]), .m 21 24, .s 25 (.extr 0 (.t 21)), .s 26 (.extr 1 (.t 21)), .m 7 25, .m 8 26] none) law02_SurveyReads_C13)
def law02_SurveyReads_C8 : TC := (.seq (.rg [.m 19 5, .s 20 (.call (.c (.fn 17 [])) [(.t 19)]), .s 6 (.alloc [(.lst true []), (.lst true [])]), .d (.store 2 (.t 6) (.t 20))] none) law02_SurveyReads_C11)
def law02_SurveyReads_C6 : TC := (.seq (.rg [.m 17 0, .s 18 (.call (.c (.fn 10 [])) [(.t 17)]), .m 5 18] none) law02_SurveyReads_C8)
def law02_SurveyReads_C3 : TC := (.seq (.rg [.s 4 (.mov (.c (B false)))] none) law02_SurveyReads_C6)
def law02_SurveyReads_E (N : Nat) : List (Nat × Ent) := [(10, sfE [none] [.v (.list (.int .u8))] [.n G_Codes] (fun x => draw_New N x)), (17, sfE [none] [.b (.v G_Codes)] [.v G_Mine] (fun x => draw_Codes_Mine N x)), (11, sfE [none, none] [.b (.v G_Codes), .v (.int .i64)] [.o (.a G_Edit)] (fun x => draw_Codes_Edits N x.1 x.2)), (13, pureE [(.list G_Edit)] [.str, (.int .i64)] (fun x => ref02_Print N x)), (18, pureE [G_Mine, .str] [G_Mine, (.int .i64), (.int .i64)] (fun x => survey_Read N x.1 x.2)), (19, pureE [G_Mine, .str] [G_Mine, (.int .i64), (.int .i64)] (fun x => ref02_Read N x.1 x.2)), (20, pureE [G_Mine, G_Mine] [.bool] (fun x => ref01_Same N x.1 x.2)), (9, pureE [] [.bool] (fun x => law02_awake N))]
def law02_SurveyReads_L1 (N : Nat) (n : Nat) (x5 : List (List UInt8)) (x6 x7 : Int) (x8 : List T_Place) (x9 : List T_Road) : Option Bool := loopN (normI 0 law02_SurveyReads_N1) (run (law02_SurveyReads_E N) N 0 law02_SurveyReads_C1) n ⟨[(6, .ptr 0 0 0), (29, .lst false .str x5), (30, .int .i64 x6), (31, .int .i64 x7)], [some (.box 0 [.lst false G_Place x8, .lst false G_Road x9])]⟩ (blkK 0 (seqK (run (law02_SurveyReads_E N) N 0 law02_SurveyReads_C2) (fin [(.t 4)] [.bool])))
theorem law02_SurveyReads_L1_succ (N : Nat) (n1 : Nat) (x5 : List (List UInt8)) (x6 x7 : Int) (x8 : List T_Place) (x9 : List T_Road) : law02_SurveyReads_L1 N (n1 + 1) x5 x6 x7 x8 x9 =
  bif (decide (x7 < x6)) then
    bif inB x7 x5.length then
    Option.bind (survey_Read N (x8, x9) (x5.getD x7.toNat [])) fun r10 =>
    Option.bind (ref02_Read N (x8, x9) (x5.getD x7.toNat [])) fun r11 =>
    Option.bind (ref01_Same N r10.1 r11.1) fun r12 =>
    bif (!r12) then
      some false
    else
      bif (r10.2.1 != r11.2.1) then
        some false
      else
        bif (r10.2.2 != r11.2.2) then
          some false
        else
          law02_SurveyReads_L1 N n1 x5 x6 (W (x7 + 1)) x8 x9
    else none
  else
    Option.bind (law02_awake N) fun r18 =>
    some r18 := by kernel_rfl
def law02_SurveyReads (N : Nat) (a0 : List Int) (a1 : List UInt8) : Option Bool :=
  Option.bind (draw_New N a0) fun r1 =>
  Option.bind (draw_Codes_Mine N r1.1) fun r2 =>
  Option.bind (draw_Codes_Edits N r2.2 6) fun r3 =>
  Option.bind (ref02_Print N r3.1) fun r4 =>
  law02_SurveyReads_L1 N N [r4.1, a1] ([r4.1, a1].length : Int) 0 r2.1.1 r2.1.2
theorem law02_SurveyReads_fn : FnOK Tryd.prog 6 65 (fun _ : Nat => false) law02_SurveyReads_C3.er [(.t 4)] := FnOK.mk' Tryd.func6 (by kernel_rfl) (by kernel_rfl) (by kernel_rfl) (by kernel_rfl) (by kernel_rfl)
theorem law02_SurveyReads_envok (N : Nat) : EnvOK Tryd.prog (law02_SurveyReads_E N) := .cons (sfE_ok (draw_New_sf N)) (.cons (sfE_ok (draw_Codes_Mine_sf N)) (.cons (sfE_ok (draw_Codes_Edits_sf N)) (.cons (pureE_ok (ref02_Print_pure N)) (.cons (pureE_ok (survey_Read_pure N)) (.cons (pureE_ok (ref02_Read_pure N)) (.cons (pureE_ok (ref01_Same_pure N)) (.cons (pureE_ok (law02_awake_pure N)) (.nil))))))))
theorem law02_SurveyReads_pure (N : Nat) : PureOK Tryd.prog 6 [(.list (.int .u8)), .str] [.bool] (fun x => law02_SurveyReads N x.1 x.2) := pureOK (N := N) mixed law02_SurveyReads_fn (law02_SurveyReads_envok N) (TC.noh_ok (by kernel_rfl)) rfl (fun x => by kernel_rfl)
end M
end Go.Proofs.YtipokcccpbcmeaaDoor
