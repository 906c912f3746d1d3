/- Plain models of functions of this seat, each checked against the loaded program and the walk by the kernel. No condition: closed facts. Printed by a program of ours. -/
import Derived.Test.YtipokcccpbcmeaaDoorM1
set_option linter.all false
namespace Go.Proofs.YtipokcccpbcmeaaDoor
open Go.Pv
namespace M
def ref02_Parse_N1 : List NS := [.own 5 G_Edit, .keep [0, 5, 6, 7], .cmp]
def ref02_Parse_C14 : TC := .ret
def ref02_Parse_C10 : TC := (.pre [.frz 2] ref02_Parse_C14)
def ref02_Parse_C6 : TC := (.cond (.t 24) (.seq (.rg [.m 25 7, .s 2 (.mov (.c (.lst true []))), .m 3 25, .s 4 (.mov (.c (I 6)))] none) ref02_Parse_C10) .skip)
def ref02_Parse_C32 : TC := .ret
def ref02_Parse_C26 : TC := (.pre [.frz 2] ref02_Parse_C32)
def ref02_Parse_C22 : TC := (.cond (.t 41) (.seq (.rg [.m 42 7, .s 2 (.mov (.c (.lst true []))), .m 3 42, .s 4 (.mov (.c (I 6)))] none) ref02_Parse_C26) .skip)
def ref02_Parse_C39 : TC := .ret
def ref02_Parse_C33 : TC := (.pre [.frz 2] ref02_Parse_C39)
def ref02_Parse_C27 : TC := (.cond (.t 48) (.seq (.rg [.m 49 7, .s 2 (.mov (.c (.lst true []))), .m 3 49, .s 4 (.mov (.c (I 7)))] none) ref02_Parse_C33) .skip)
def ref02_Parse_C43 : TC := .ret
def ref02_Parse_C40 : TC := (.pre [.frz 2] ref02_Parse_C43)
def ref02_Parse_C34 : TC := (.cond (.t 56) (.seq (.rg [.m 57 7, .s 58 (.bin .add (.t 57) (.c (I 1))), .s 2 (.mov (.c (.lst true []))), .m 3 58, .s 4 (.mov (.c (I 6)))] none) ref02_Parse_C40) .skip)
def ref02_Parse_C44 : TC := .ret
def ref02_Parse_C41 : TC := (.pre [.frz 2] ref02_Parse_C44)
def ref02_Parse_C35 : TC := (.seq (.rg [.m 59 5, .m 2 59, .s 3 (.mov (.c (I 0))), .s 4 (.mov (.c (I 0)))] none) ref02_Parse_C41)
def ref02_Parse_C28 : TC := (.seq (.seq (.rg [.m 50 6, .m 51 8, .s 52 (.bin .add (.t 50) (.t 51)), .s 53 (.bin .add (.t 52) (.c (I 1))), .m 54 0, .s 55 (.lens (.t 54)), .s 56 (.bin .lss (.t 53) (.t 55))] none) ref02_Parse_C34) ref02_Parse_C35)
def ref02_Parse_C23 : TC := (.seq (.seq (.rg [.m 43 10, .m 44 0, .m 45 6, .s 46 (.sslc (.t 44) none (some (.t 45))), .s 47 (.call (.c (.fn 8 [])) [(.t 46)]), .s 48 (.bin .neq (.t 43) (.t 47))] none) ref02_Parse_C27) ref02_Parse_C28)
def ref02_Parse_C19 : TC := (.seq (.seq (.rg [.m 40 11, .s 41 (.un .not (.t 40))] none) ref02_Parse_C22) ref02_Parse_C23)
def ref02_Parse_C15 : TC := (.cond (.t 33) (.seq (.rg [.m 35 9, .s 36 (.sslc (.t 35) (some (.c (I 4))) none), .s 37 (.call (.c (.fn 52 [])) [(.t 36)]), .m 34 37, .s 38 (.extr 0 (.t 34)), .s 39 (.extr 1 (.t 34)), .m 10 38, .m 11 39] none) ref02_Parse_C19) .skip)
def ref02_Parse_C36 : TC := .ret
def ref02_Parse_C29 : TC := (.pre [.frz 2] ref02_Parse_C36)
def ref02_Parse_C24 : TC := (.cond (.t 66) (.seq (.rg [.m 67 7, .s 2 (.mov (.c (.lst true []))), .m 3 67, .s 4 (.mov (.c (I 6)))] none) ref02_Parse_C29) .skip)
def ref02_Parse_C42 : TC := .ret
def ref02_Parse_C37 : TC := (.pre [.frz 2] ref02_Parse_C42)
def ref02_Parse_C30 : TC := (.cond (.t 69) (.seq (.rg [.m 70 7, .s 2 (.mov (.c (.lst true []))), .m 3 70, .s 4 (.mov (.c (I 2)))] none) ref02_Parse_C37) .skip)
def ref02_Parse_C38 : TC := (.rg [.m 75 6, .m 76 8, .s 77 (.bin .add (.t 76) (.c (I 1))), .s 78 (.bin .add (.t 75) (.t 77)), .m 6 78] none)
def ref02_Parse_C31 : TC := (.seq (.rg [.m 71 5, .s 72 (.load true 16 (.t 12)), ⟨⟨some 73, (.bslice false 16 [(I 0), (I 0), (B false), (I 0), (I 0), (I 0), (I 0), (B false), (B false), (I 0), (I 0), (I 0), (I 0), (I 0), (I 0), (I 0)] 1 [(0, (.t 72))]), none⟩, ⟨G_Edit, none, []⟩⟩, .s 74 (.app 16 120 (.t 71) (.t 73)), .m 5 74]
  none) ref02_Parse_C38)
def ref02_Parse_C25 : TC := (.seq (.seq (.rg [.m 68 7, .s 69 (.bin .gtr (.t 68) (.c (I 1000)))] none) ref02_Parse_C30) ref02_Parse_C31)
def ref02_Parse_C20 : TC := (.seq (.seq (.rg [.m 65 13, .s 66 (.un .not (.t 65))] none) ref02_Parse_C24) ref02_Parse_C25)
def ref02_Parse_C16 : TC := (.seq (.rg [.m 61 9, .s 62 (.call (.c (.fn 53 [])) [(.t 61)]), .m 60 62, .s 63 (.extr 0 (.t 60)), .s 64 (.extr 1 (.t 60)), .s 12 (.alloc [(I 0), (I 0), (B false), (I 0), (I 0), (I 0), (I 0), (B false), (B false), (I 0), (I 0), (I 0), (I 0), (I 0), (I 0), (I 0)]), .d (.store 16 (.t 12) (.t 63)), .m 13
  64] none) ref02_Parse_C20)
def ref02_Parse_C11 : TC := (.seq (.seq (.rg [.m 32 9, .s 33 (.call (.c (.fn 51 [])) [(.t 32), (.c (.v (.string ⟨⟨[115, 117, 109, 32]⟩⟩)))])] none) ref02_Parse_C15) ref02_Parse_C16)
def ref02_Parse_C7 : TC := (.seq (.rg [.m 26 0, .m 27 6, .m 28 6, .m 29 8, .s 30 (.bin .add (.t 28) (.t 29)), .s 31 (.sslc (.t 26) (some (.t 27)) (some (.t 30))), .m 9 31] none) ref02_Parse_C11)
def ref02_Parse_C3 : TC := (.seq (.seq (.rg [.m 23 8, .s 24 (.bin .lss (.t 23) (.c (I 0)))] none) ref02_Parse_C6) ref02_Parse_C7)
def ref02_Parse_C4 : TC := (.rg [.m 17 7, .s 18 (.bin .add (.t 17) (.c (I 1))), .m 7 18] none)
def ref02_Parse_C1 : TC := (.seq (.block 1 (.seq (.rg [.m 19 0, .m 20 6, .s 21 (.sslc (.t 19) (some (.t 20)) none), .s 22 (.call (.c (.fn 50 [])) [(.t 21), (.c (.v (.string ⟨⟨[10]⟩⟩)))]), .m 8 22] none) ref02_Parse_C3)) ref02_Parse_C4)
def ref02_Parse_E (N : Nat) : List (Nat × Ent) := [(50, pureE [.str, .str] [(.int .i64)] (fun x => strings_Index N x.1 x.2)), (51, pureE [.str, .str] [.bool] (fun x => strings_HasPrefix N x.1 x.2)), (52, pureE [.str] [(.int .i64), .bool] (fun x => ref02_number N x)), (8, pureE [.str] [(.int .i64)] (fun x => ref02_Sum N x)), (53, pureE [.str] [G_Edit, .bool] (fun x => ref02_edit N x))]
def ref02_Parse_L1 (N : Nat) (n : Nat) (x1 : List UInt8) (x2 x3 : Int) (x4 : List T_Edit) : Option ((List T_Edit) × Int × Int) := loopN (normI 0 ref02_Parse_N1) (run (ref02_Parse_E N) N 0 ref02_Parse_C1) n ⟨[(0, .str x1), (5, .whole 0), (6, .int .i64 x2), (7, .int .i64 x3)], [some (.arr G_Edit x4)]⟩ (blkK 0 (fin [(.t 2), (.t 3), (.t 4)] [(.list G_Edit), (.int .i64), (.int .i64)]))
theorem ref02_Parse_L1_succ (N : Nat) (n1 : Nat) (x1 : List UInt8) (x2 x3 : Int) (x4 : List T_Edit) : ref02_Parse_L1 N (n1 + 1) x1 x2 x3 x4 =
  bif slB x2 x1.length x1.length then
  Option.bind (strings_Index N (x1.drop x2.toNat) [10]) fun r6 =>
  bif (decide (r6 < 0)) then
    some ([], x3, 6)
  else
    bif slB x2 (W (x2 + r6)) x1.length then
    let v7 := (x1.drop x2.toNat).take ((W (x2 + r6)).toNat - x2.toNat)
    Option.bind (strings_HasPrefix N v7 [115, 117, 109, 32]) fun r8 =>
    bif r8 then
      bif slB 4 v7.length v7.length then
      Option.bind (ref02_number N (v7.drop (4 : Int).toNat)) fun r10 =>
      bif (!r10.2) then
        some ([], x3, 6)
      else
        bif slB 0 x2 x1.length then
        Option.bind (ref02_Sum N (x1.take x2.toNat)) fun r12 =>
        bif (r10.1 != r12) then
          some ([], x3, 7)
        else
          bif (decide ((W ((W (x2 + r6)) + 1)) < (x1.length : Int))) then
            some ([], W (x3 + 1), 6)
          else
            some (x4, 0, 0)
        else none
      else none
    else
      Option.bind (ref02_edit N v7) fun r13 =>
      bif (!r13.2) then
        some ([], x3, 6)
      else
        bif (decide (x3 > 1000)) then
          some ([], x3, 2)
        else
          bif fitsB (x4.length + 1) 120 then
          ref02_Parse_L1 N n1 x1 (W (x2 + (W (r6 + 1)))) (W (x3 + 1)) (x4 ++ [r13.1])
          else none
    else none
  else none := by kernel_rfl
end M
end Go.Proofs.YtipokcccpbcmeaaDoor
