/- Plain models of functions of this seat, each checked against the loaded program and the walk by the kernel. No condition: closed facts. Printed by a program of ours. -/
import Derived.Test.YtdmggkpefjpknaaM1
set_option linter.all false
namespace Go.Proofs.Ytdmggkpefjpknaa
open Go.Pv
namespace M
/-! plan_Roads -/
def plan_Roads_N1 : List NS := [.own 5 (.int .i64), .wk 9 (.list G_Road), .keep [1, 5, 9, 10, 11], .cmp]
def plan_Roads_C14 : TC := (.cond (.t 25) (.rg [⟨⟨some 26, (.mov (.t 5)), none⟩, {}⟩, ⟨⟨some 27, (.mov (.t 6)), none⟩, {}⟩, ⟨⟨some 28, (.bslice false 1 [(I 0)] 1 [(0, (.t 27))]), none⟩, ⟨(.int .i64), none⟩⟩, ⟨⟨some 29, (.app 1 8 (.t 26) (.t 28)), none⟩, {}⟩, ⟨⟨some 5, (.mov (.t 29)), none⟩, {}⟩] none) .skip)
def plan_Roads_C10 : TC := (.seq (.rg [⟨⟨some 16, (.fadr 0 (.t 7)), none⟩, {}⟩, ⟨⟨some 17, (.load false 1 (.t 16)), none⟩, {}⟩, ⟨⟨some 18, (.mov (.t 1)), none⟩, {}⟩, ⟨⟨some 19, (.bin .eql (.t 17) (.t 18)), none⟩, {}⟩, ⟨⟨some 20, (.mov (.t 19)), none⟩, {}⟩, ⟨⟨some 21, (.fadr 1 (.t 7)), some (20, false)⟩, {}⟩, ⟨⟨some 22, (.load
  false 1 (.t 21)), some (20, false)⟩, {}⟩, ⟨⟨some 23, (.mov (.t 1)), some (20, false)⟩, {}⟩, ⟨⟨some 24, (.bin .eql (.t 22) (.t 23)), some (20, false)⟩, {}⟩, ⟨⟨some 25, (.pick (.t 20) (.c (B true)) (.t 24)), none⟩, {}⟩] none) plan_Roads_C14)
def plan_Roads_C11 : TC := (.rg [⟨⟨some 30, (.bin .add (.t 11) (.c (I 1))), none⟩, {}⟩, ⟨⟨some 11, (.mov (.t 30)), none⟩, {}⟩] none)
def plan_Roads_C7 : TC := (.seq (.block 1 (.seq (.rg [⟨⟨some 13, (.mov (.t 11)), none⟩, {}⟩, ⟨⟨some 14, (.iadrS 10 (.t 9) (.t 11)), none⟩, {}⟩, ⟨⟨some 15, (.load true 10 (.t 14)), none⟩, {}⟩, ⟨⟨some 7, (.alloc [(I 0), (I 0), (I 0), (I 0), (B false), (B false), (I 0), (I 0), (I 0), (I 0)]), none⟩, {}⟩, ⟨⟨some 6, (.mov (.t
  13)), none⟩, {}⟩, ⟨⟨none, (.store 10 (.t 7) (.t 15)), none⟩, {}⟩] none) plan_Roads_C10)) plan_Roads_C11)
def plan_Roads_C4 : TC := (.seq (.cond (.t 12) .skip (.exit 0)) plan_Roads_C7)
def plan_Roads_C1 : TC := (.seq (.rg [⟨⟨some 12, (.bin .lss (.t 11) (.t 10)), none⟩, {}⟩] none) plan_Roads_C4)
def plan_Roads_C12 : TC := .ret
def plan_Roads_C8 : TC := (.pre [.frz 4] plan_Roads_C12)
def plan_Roads_C5 : TC := (.seq (.rg [⟨⟨some 31, (.mov (.t 5)), none⟩, {}⟩, ⟨⟨some 4, (.mov (.t 31)), none⟩, {}⟩] none) plan_Roads_C8)
def plan_Roads_C2 : TC := (.pre [.frz 5] plan_Roads_C5)
def plan_Roads_C13 : TC := (.block 0 (.loop plan_Roads_N1 plan_Roads_C1))
def plan_Roads_C9 : TC := (.seq (.seq (.rg [⟨⟨some 8, (.fadr 1 (.t 2)), none⟩, {}⟩, ⟨⟨some 9, (.load false 1 (.t 8)), none⟩, {}⟩, ⟨⟨some 10, (.len (.t 9)), none⟩, {}⟩, ⟨⟨some 11, (.mov (.c (I 0))), none⟩, {}⟩] none) plan_Roads_C13) plan_Roads_C2)
def plan_Roads_C6 : TC := (.seq (.rg [⟨⟨some 5, (.mov (.c (.lst true []))), none⟩, {}⟩] none) plan_Roads_C9)
def plan_Roads_C3 : TC := (.seq (.rg [⟨⟨some 2, (.box (.t 0)), none⟩, {}⟩, ⟨⟨some 4, (.mov (.c (.lst true []))), none⟩, {}⟩] none) plan_Roads_C6)
def plan_Roads_E (N : Nat) : List (Nat × Ent) := []
def plan_Roads_L1 (N : Nat) (n : Nat) (x1 : Int) (x2 : List T_Road) (x3 : Int) (x4 : Int) (x5 : List Int) : Option (List Int) := loopN (normI 0 plan_Roads_N1) (run (plan_Roads_E N) N 0 plan_Roads_C1) n ⟨[(1, .int .i64 x1), (5, .whole 0), (9, .lst false G_Road x2), (10, .int .i64 x3), (11, .int .i64 x4)], [some (.arr (.int .i64) x5)]⟩ (blkK 0 (seqK (run (plan_Roads_E N) N 0 plan_Roads_C2) (fin [(.t 4)] [(.list (.int .i64))])))
theorem plan_Roads_L1_zero (N : Nat) (x1 : Int) (x2 : List T_Road) (x3 : Int) (x4 : Int) (x5 : List Int) : plan_Roads_L1 N 0 x1 x2 x3 x4 x5 = none := rfl
theorem plan_Roads_L1_succ (N : Nat) (n1 : Nat) (x1 : Int) (x2 : List T_Road) (x3 : Int) (x4 : Int) (x5 : List Int) : plan_Roads_L1 N (n1 + 1) x1 x2 x3 x4 x5 =
  bif (decide (x4 < x3)) then
    bif inB x4 x2.length then
    bif ((x2.getD x4.toNat D_Road).1 == x1) then
      bif fitsB (x5.length + 1) 8 then
      plan_Roads_L1 N n1 x1 x2 x3 (W (x4 + 1)) (x5 ++ [x4])
      else none
    else
      bif ((x2.getD x4.toNat D_Road).2.1 == x1) then
        bif fitsB (x5.length + 1) 8 then
        plan_Roads_L1 N n1 x1 x2 x3 (W (x4 + 1)) (x5 ++ [x4])
        else none
      else
        plan_Roads_L1 N n1 x1 x2 x3 (W (x4 + 1)) x5
    else none
  else
    some x5 := by kernel_rfl
def plan_Roads (N : Nat) (a0 : T_Mine) (a1 : Int) : Option (List Int) :=
  plan_Roads_L1 N N a1 a0.2 (a0.2.length : Int) 0 []
theorem plan_Roads_fn : FnOK Try.prog 29 32 (fun _ : Nat => false) plan_Roads_C3.er [(.t 4)] := FnOK.mk' Try.func29 (by kernel_rfl) (by kernel_rfl) (by kernel_rfl) (by kernel_rfl) (by kernel_rfl)
theorem plan_Roads_envok (N : Nat) : EnvOK Try.prog (plan_Roads_E N) := .nil
theorem plan_Roads_pure (N : Nat) : PureOK Try.prog 29 [G_Mine, (.int .i64)] [(.list (.int .i64))] (fun x => plan_Roads N x.1 x.2) := pureOK (N := N) mixed plan_Roads_fn (plan_Roads_envok N) (TC.noh_ok (by kernel_rfl)) rfl (fun x => by kernel_rfl)
/-! ref01_Roads -/
def ref01_Roads_N1 : List NS := [.own 5 (.int .i64), .keep [1, 2, 5, 6], .cmp]
def ref01_Roads_C4 : TC := (.cond (.t 11) .skip (.exit 0))
def ref01_Roads_C8 : TC := (.cond (.t 31) (.rg [⟨⟨some 32, (.mov (.t 5)), none⟩, {}⟩, ⟨⟨some 33, (.mov (.t 6)), none⟩, {}⟩, ⟨⟨some 34, (.bslice false 1 [(I 0)] 1 [(0, (.t 33))]), none⟩, ⟨(.int .i64), none⟩⟩, ⟨⟨some 35, (.app 1 8 (.t 32) (.t 34)), none⟩, {}⟩, ⟨⟨some 5, (.mov (.t 35)), none⟩, {}⟩] none) .skip)
def ref01_Roads_C9 : TC := (.rg [⟨⟨some 12, (.mov (.t 6)), none⟩, {}⟩, ⟨⟨some 13, (.bin .add (.t 12) (.c (I 1))), none⟩, {}⟩, ⟨⟨some 6, (.mov (.t 13)), none⟩, {}⟩] none)
def ref01_Roads_C5 : TC := (.seq (.block 1 (.seq (.rg [⟨⟨some 14, (.fadr 1 (.t 2)), none⟩, {}⟩, ⟨⟨some 15, (.load false 1 (.t 14)), none⟩, {}⟩, ⟨⟨some 16, (.mov (.t 6)), none⟩, {}⟩, ⟨⟨some 17, (.iadrS 10 (.t 15) (.t 16)), none⟩, {}⟩, ⟨⟨some 18, (.fadr 0 (.t 17)), none⟩, {}⟩, ⟨⟨some 19, (.load false 1 (.t 18)), none⟩, {}⟩,
  ⟨⟨some 20, (.mov (.t 1)), none⟩, {}⟩, ⟨⟨some 21, (.bin .eql (.t 19) (.t 20)), none⟩, {}⟩, ⟨⟨some 22, (.mov (.t 21)), none⟩, {}⟩, ⟨⟨some 23, (.fadr 1 (.t 2)), some (22, false)⟩, {}⟩, ⟨⟨some 24, (.load false 1 (.t 23)), some (22, false)⟩, {}⟩, ⟨⟨some 25, (.mov (.t 6)), some (22, false)⟩, {}⟩, ⟨⟨some
  26, (.iadrS 10 (.t 24) (.t 25)), some (22, false)⟩, {}⟩, ⟨⟨some 27, (.fadr 1 (.t 26)), some (22, false)⟩, {}⟩, ⟨⟨some 28, (.load false 1 (.t 27)), some (22, false)⟩, {}⟩, ⟨⟨some 29, (.mov (.t 1)), some (22, false)⟩, {}⟩, ⟨⟨some 30, (.bin .eql (.t 28) (.t 29)), some (22, false)⟩, {}⟩, ⟨⟨some 31,
  (.pick (.t 22) (.c (B true)) (.t 30)), none⟩, {}⟩] none) ref01_Roads_C8)) ref01_Roads_C9)
def ref01_Roads_C1 : TC := (.seq (.seq (.rg [⟨⟨some 7, (.mov (.t 6)), none⟩, {}⟩, ⟨⟨some 8, (.fadr 1 (.t 2)), none⟩, {}⟩, ⟨⟨some 9, (.load false 1 (.t 8)), none⟩, {}⟩, ⟨⟨some 10, (.len (.t 9)), none⟩, {}⟩, ⟨⟨some 11, (.bin .lss (.t 7) (.t 10)), none⟩, {}⟩] none) ref01_Roads_C4) ref01_Roads_C5)
def ref01_Roads_C12 : TC := .ret
def ref01_Roads_C10 : TC := (.pre [.frz 4] ref01_Roads_C12)
def ref01_Roads_C6 : TC := (.seq (.rg [⟨⟨some 36, (.mov (.t 5)), none⟩, {}⟩, ⟨⟨some 4, (.mov (.t 36)), none⟩, {}⟩] none) ref01_Roads_C10)
def ref01_Roads_C2 : TC := (.pre [.frz 5] ref01_Roads_C6)
def ref01_Roads_C13 : TC := (.block 0 (.loop ref01_Roads_N1 ref01_Roads_C1))
def ref01_Roads_C11 : TC := (.seq (.seq (.rg [⟨⟨some 6, (.mov (.c (I 0))), none⟩, {}⟩] none) ref01_Roads_C13) ref01_Roads_C2)
def ref01_Roads_C7 : TC := (.seq (.rg [⟨⟨some 5, (.mov (.c (.lst true []))), none⟩, {}⟩] none) ref01_Roads_C11)
def ref01_Roads_C3 : TC := (.seq (.rg [⟨⟨some 2, (.box (.t 0)), none⟩, {}⟩, ⟨⟨some 4, (.mov (.c (.lst true []))), none⟩, {}⟩] none) ref01_Roads_C7)
def ref01_Roads_E (N : Nat) : List (Nat × Ent) := []
def ref01_Roads_L1 (N : Nat) (n : Nat) (x1 : Int) (x2 : Int) (x3 : List T_Place) (x4 : List T_Road) (x5 : List Int) : Option (List Int) := loopN (normI 0 ref01_Roads_N1) (run (ref01_Roads_E N) N 0 ref01_Roads_C1) n ⟨[(1, .int .i64 x1), (2, .ptr 0 0 0), (5, .whole 1), (6, .int .i64 x2)], [some (.box 0 [.lst false G_Place x3, .lst false G_Road x4]), some (.arr (.int .i64) x5)]⟩ (blkK 0 (seqK (run (ref01_Roads_E N) N 0 ref01_Roads_C2) (fin [(.t 4)] [(.list (.int .i64))])))
theorem ref01_Roads_L1_zero (N : Nat) (x1 : Int) (x2 : Int) (x3 : List T_Place) (x4 : List T_Road) (x5 : List Int) : ref01_Roads_L1 N 0 x1 x2 x3 x4 x5 = none := rfl
theorem ref01_Roads_L1_succ (N : Nat) (n1 : Nat) (x1 : Int) (x2 : Int) (x3 : List T_Place) (x4 : List T_Road) (x5 : List Int) : ref01_Roads_L1 N (n1 + 1) x1 x2 x3 x4 x5 =
  bif (decide (x2 < (x4.length : Int))) then
    bif inB x2 x4.length then
    bif ((x4.getD x2.toNat D_Road).1 == x1) then
      bif fitsB (x5.length + 1) 8 then
      ref01_Roads_L1 N n1 x1 (W (x2 + 1)) x3 x4 (x5 ++ [x2])
      else none
    else
      bif inB x2 x4.length then
      bif ((x4.getD x2.toNat D_Road).2.1 == x1) then
        bif fitsB (x5.length + 1) 8 then
        ref01_Roads_L1 N n1 x1 (W (x2 + 1)) x3 x4 (x5 ++ [x2])
        else none
      else
        ref01_Roads_L1 N n1 x1 (W (x2 + 1)) x3 x4 x5
      else none
    else none
  else
    some x5 := by kernel_rfl
def ref01_Roads (N : Nat) (a0 : T_Mine) (a1 : Int) : Option (List Int) :=
  ref01_Roads_L1 N N a1 0 a0.1 a0.2 []
theorem ref01_Roads_fn : FnOK Try.prog 30 37 (fun _ : Nat => false) ref01_Roads_C3.er [(.t 4)] := FnOK.mk' Try.func30 (by kernel_rfl) (by kernel_rfl) (by kernel_rfl) (by kernel_rfl) (by kernel_rfl)
theorem ref01_Roads_envok (N : Nat) : EnvOK Try.prog (ref01_Roads_E N) := .nil
theorem ref01_Roads_pure (N : Nat) : PureOK Try.prog 30 [G_Mine, (.int .i64)] [(.list (.int .i64))] (fun x => ref01_Roads N x.1 x.2) := pureOK (N := N) mixed ref01_Roads_fn (ref01_Roads_envok N) (TC.noh_ok (by kernel_rfl)) rfl (fun x => by kernel_rfl)
/-! plan_Other -/
def plan_Other_C5 : TC := .ret
def plan_Other_C3 : TC := (.cond (.t 16) (.seq (.rg [⟨⟨some 6, (.mov (.c (I (-1)))), none⟩, {}⟩] none) plan_Other_C5) .skip)
def plan_Other_C11 : TC := .ret
def plan_Other_C13 : TC := .ret
def plan_Other_C12 : TC := (.cond (.t 29) (.seq (.rg [⟨⟨some 33, (.fadr 0 (.t 7)), none⟩, {}⟩, ⟨⟨some 34, (.load false 1 (.t 33)), none⟩, {}⟩, ⟨⟨some 6, (.mov (.t 34)), none⟩, {}⟩] none) plan_Other_C13) .skip)
def plan_Other_C10 : TC := (.cond (.t 23) (.seq (.rg [⟨⟨some 27, (.fadr 1 (.t 7)), none⟩, {}⟩, ⟨⟨some 28, (.load false 1 (.t 27)), none⟩, {}⟩, ⟨⟨some 6, (.mov (.t 28)), none⟩, {}⟩] none) plan_Other_C11) (.seq (.rg [⟨⟨some 30, (.fadr 1 (.t 7)), none⟩, {}⟩, ⟨⟨some 31, (.load false 1 (.t 30)), none⟩, {}⟩, ⟨⟨some 32, (.bin .eql
  (.t 22) (.t 31)), none⟩, {}⟩, ⟨⟨some 29, (.mov (.t 32)), none⟩, {}⟩] none) plan_Other_C12))
def plan_Other_C8 : TC := (.block 0 (.seq (.rg [⟨⟨some 24, (.fadr 0 (.t 7)), none⟩, {}⟩, ⟨⟨some 25, (.load false 1 (.t 24)), none⟩, {}⟩, ⟨⟨some 26, (.bin .eql (.t 22) (.t 25)), none⟩, {}⟩, ⟨⟨some 23, (.mov (.t 26)), none⟩, {}⟩] none) plan_Other_C10))
def plan_Other_C6 : TC := (.seq (.rg [⟨⟨some 22, (.mov (.t 2)), none⟩, {}⟩] none) plan_Other_C8)
def plan_Other_C9 : TC := .ret
def plan_Other_C7 : TC := (.seq (.rg [⟨⟨some 6, (.mov (.c (I (-1)))), none⟩, {}⟩] none) plan_Other_C9)
def plan_Other_C4 : TC := (.seq (.seq (.rg [⟨⟨some 17, (.fadr 1 (.t 3)), none⟩, {}⟩, ⟨⟨some 18, (.load false 1 (.t 17)), none⟩, {}⟩, ⟨⟨some 19, (.mov (.t 1)), none⟩, {}⟩, ⟨⟨some 20, (.iadrS 10 (.t 18) (.t 19)), none⟩, {}⟩, ⟨⟨some 21, (.load true 10 (.t 20)), none⟩, {}⟩, ⟨⟨some 7, (.alloc [(I 0), (I 0), (I 0), (I 0), (B
  false), (B false), (I 0), (I 0), (I 0), (I 0)]), none⟩, {}⟩, ⟨⟨none, (.store 10 (.t 7) (.t 21)), none⟩, {}⟩] none) plan_Other_C6) plan_Other_C7)
def plan_Other_C2 : TC := (.seq (.seq (.rg [⟨⟨some 8, (.mov (.t 1)), none⟩, {}⟩, ⟨⟨some 9, (.bin .lss (.t 8) (.c (I 0))), none⟩, {}⟩, ⟨⟨some 10, (.mov (.t 9)), none⟩, {}⟩, ⟨⟨some 11, (.mov (.t 1)), some (10, false)⟩, {}⟩, ⟨⟨some 12, (.fadr 1 (.t 3)), some (10, false)⟩, {}⟩, ⟨⟨some 13, (.load false 1 (.t 12)), some (10,
  false)⟩, {}⟩, ⟨⟨some 14, (.len (.t 13)), some (10, false)⟩, {}⟩, ⟨⟨some 15, (.bin .geq (.t 11) (.t 14)), some (10, false)⟩, {}⟩, ⟨⟨some 16, (.pick (.t 10) (.c (B true)) (.t 15)), none⟩, {}⟩] none) plan_Other_C3) plan_Other_C4)
def plan_Other_C1 : TC := (.seq (.rg [⟨⟨some 3, (.box (.t 0)), none⟩, {}⟩, ⟨⟨some 6, (.mov (.c (I 0))), none⟩, {}⟩] none) plan_Other_C2)
def plan_Other_E (N : Nat) : List (Nat × Ent) := []
def plan_Other (N : Nat) (a0 : T_Mine) (a1 : Int) (a2 : Int) : Option Int :=
  bif (decide (a1 < 0)) then
    some (-1)
  else
    bif (decide (a1 ≥ (a0.2.length : Int))) then
      some (-1)
    else
      bif inB a1 a0.2.length then
      let v1 := a0.2.getD a1.toNat D_Road
      bif (a2 == v1.1) then
        some v1.2.1
      else
        bif (a2 == v1.2.1) then
          some v1.1
        else
          some (-1)
      else none
theorem plan_Other_fn : FnOK Try.prog 31 35 (fun _ : Nat => false) plan_Other_C1.er [(.t 6)] := FnOK.mk' Try.func31 (by kernel_rfl) (by kernel_rfl) (by kernel_rfl) (by kernel_rfl) (by kernel_rfl)
theorem plan_Other_envok (N : Nat) : EnvOK Try.prog (plan_Other_E N) := .nil
theorem plan_Other_pure (N : Nat) : PureOK Try.prog 31 [G_Mine, (.int .i64), (.int .i64)] [(.int .i64)] (fun x => plan_Other N x.1 x.2.1 x.2.2) := pureOK (N := N) mixed plan_Other_fn (plan_Other_envok N) (TC.noh_ok (by kernel_rfl)) rfl (fun x => by kernel_rfl)
/-! ref01_Other -/
def ref01_Other_C5 : TC := .ret
def ref01_Other_C3 : TC := (.cond (.t 15) (.seq (.rg [⟨⟨some 6, (.mov (.c (I (-1)))), none⟩, {}⟩] none) ref01_Other_C5) .skip)
def ref01_Other_C8 : TC := .ret
def ref01_Other_C6 : TC := (.cond (.t 23) (.seq (.rg [⟨⟨some 24, (.fadr 1 (.t 3)), none⟩, {}⟩, ⟨⟨some 25, (.load false 1 (.t 24)), none⟩, {}⟩, ⟨⟨some 26, (.mov (.t 1)), none⟩, {}⟩, ⟨⟨some 27, (.iadrS 10 (.t 25) (.t 26)), none⟩, {}⟩, ⟨⟨some 28, (.fadr 1 (.t 27)), none⟩, {}⟩, ⟨⟨some 29, (.load false 1 (.t 28)), none⟩, {}⟩,
  ⟨⟨some 6, (.mov (.t 29)), none⟩, {}⟩] none) ref01_Other_C8) .skip)
def ref01_Other_C11 : TC := .ret
def ref01_Other_C9 : TC := (.cond (.t 37) (.seq (.rg [⟨⟨some 38, (.fadr 1 (.t 3)), none⟩, {}⟩, ⟨⟨some 39, (.load false 1 (.t 38)), none⟩, {}⟩, ⟨⟨some 40, (.mov (.t 1)), none⟩, {}⟩, ⟨⟨some 41, (.iadrS 10 (.t 39) (.t 40)), none⟩, {}⟩, ⟨⟨some 42, (.fadr 0 (.t 41)), none⟩, {}⟩, ⟨⟨some 43, (.load false 1 (.t 42)), none⟩, {}⟩,
  ⟨⟨some 6, (.mov (.t 43)), none⟩, {}⟩] none) ref01_Other_C11) .skip)
def ref01_Other_C12 : TC := .ret
def ref01_Other_C10 : TC := (.seq (.rg [⟨⟨some 6, (.mov (.c (I (-1)))), none⟩, {}⟩] none) ref01_Other_C12)
def ref01_Other_C7 : TC := (.seq (.seq (.rg [⟨⟨some 30, (.fadr 1 (.t 3)), none⟩, {}⟩, ⟨⟨some 31, (.load false 1 (.t 30)), none⟩, {}⟩, ⟨⟨some 32, (.mov (.t 1)), none⟩, {}⟩, ⟨⟨some 33, (.iadrS 10 (.t 31) (.t 32)), none⟩, {}⟩, ⟨⟨some 34, (.fadr 1 (.t 33)), none⟩, {}⟩, ⟨⟨some 35, (.load false 1 (.t 34)), none⟩, {}⟩, ⟨⟨some 36,
  (.mov (.t 2)), none⟩, {}⟩, ⟨⟨some 37, (.bin .eql (.t 35) (.t 36)), none⟩, {}⟩] none) ref01_Other_C9) ref01_Other_C10)
def ref01_Other_C4 : TC := (.seq (.seq (.rg [⟨⟨some 16, (.fadr 1 (.t 3)), none⟩, {}⟩, ⟨⟨some 17, (.load false 1 (.t 16)), none⟩, {}⟩, ⟨⟨some 18, (.mov (.t 1)), none⟩, {}⟩, ⟨⟨some 19, (.iadrS 10 (.t 17) (.t 18)), none⟩, {}⟩, ⟨⟨some 20, (.fadr 0 (.t 19)), none⟩, {}⟩, ⟨⟨some 21, (.load false 1 (.t 20)), none⟩, {}⟩, ⟨⟨some 22,
  (.mov (.t 2)), none⟩, {}⟩, ⟨⟨some 23, (.bin .eql (.t 21) (.t 22)), none⟩, {}⟩] none) ref01_Other_C6) ref01_Other_C7)
def ref01_Other_C2 : TC := (.seq (.seq (.rg [⟨⟨some 7, (.mov (.t 1)), none⟩, {}⟩, ⟨⟨some 8, (.bin .lss (.t 7) (.c (I 0))), none⟩, {}⟩, ⟨⟨some 9, (.mov (.t 8)), none⟩, {}⟩, ⟨⟨some 10, (.mov (.t 1)), some (9, false)⟩, {}⟩, ⟨⟨some 11, (.fadr 1 (.t 3)), some (9, false)⟩, {}⟩, ⟨⟨some 12, (.load false 1 (.t 11)), some (9, false)⟩,
  {}⟩, ⟨⟨some 13, (.len (.t 12)), some (9, false)⟩, {}⟩, ⟨⟨some 14, (.bin .geq (.t 10) (.t 13)), some (9, false)⟩, {}⟩, ⟨⟨some 15, (.pick (.t 9) (.c (B true)) (.t 14)), none⟩, {}⟩] none) ref01_Other_C3) ref01_Other_C4)
def ref01_Other_C1 : TC := (.seq (.rg [⟨⟨some 3, (.box (.t 0)), none⟩, {}⟩, ⟨⟨some 6, (.mov (.c (I 0))), none⟩, {}⟩] none) ref01_Other_C2)
def ref01_Other_E (N : Nat) : List (Nat × Ent) := []
def ref01_Other (N : Nat) (a0 : T_Mine) (a1 : Int) (a2 : Int) : Option Int :=
  bif (decide (a1 < 0)) then
    some (-1)
  else
    bif (decide (a1 ≥ (a0.2.length : Int))) then
      some (-1)
    else
      bif inB a1 a0.2.length then
      bif ((a0.2.getD a1.toNat D_Road).1 == a2) then
        bif inB a1 a0.2.length then
        some (a0.2.getD a1.toNat D_Road).2.1
        else none
      else
        bif inB a1 a0.2.length then
        bif ((a0.2.getD a1.toNat D_Road).2.1 == a2) then
          bif inB a1 a0.2.length then
          some (a0.2.getD a1.toNat D_Road).1
          else none
        else
          some (-1)
        else none
      else none
theorem ref01_Other_fn : FnOK Try.prog 32 44 (fun _ : Nat => false) ref01_Other_C1.er [(.t 6)] := FnOK.mk' Try.func32 (by kernel_rfl) (by kernel_rfl) (by kernel_rfl) (by kernel_rfl) (by kernel_rfl)
theorem ref01_Other_envok (N : Nat) : EnvOK Try.prog (ref01_Other_E N) := .nil
theorem ref01_Other_pure (N : Nat) : PureOK Try.prog 32 [G_Mine, (.int .i64), (.int .i64)] [(.int .i64)] (fun x => ref01_Other N x.1 x.2.1 x.2.2) := pureOK (N := N) mixed ref01_Other_fn (ref01_Other_envok N) (TC.noh_ok (by kernel_rfl)) rfl (fun x => by kernel_rfl)
/-! ref01_From -/
def ref01_From_N1 : List NS := [.wk 5 (.list .bool), .keep [2, 5, 6], .cmp]
def ref01_From_N2 : List NS := [.wk 5 (.list .bool), .keep [2, 5, 6, 7], .cmp]
def ref01_From_C5 : TC := (.cond (.t 16) .skip (.exit 2))
def ref01_From_C16 : TC := (.cond (.t 39) (.rg [⟨⟨some 40, (.mov (.t 5)), none⟩, {}⟩, ⟨⟨some 41, (.fadr 0 (.t 8)), none⟩, {}⟩, ⟨⟨some 42, (.load false 1 (.t 41)), none⟩, {}⟩, ⟨⟨some 43, (.mov (.t 5)), none⟩, {}⟩, ⟨⟨some 44, (.fadr 1 (.t 8)), none⟩, {}⟩, ⟨⟨some 45, (.load false 1 (.t 44)), none⟩, {}⟩, ⟨⟨some 46, (.iadrS 1 (.t
  40) (.t 42)), none⟩, {}⟩, ⟨⟨none, (.store 1 (.t 46) (.c (B true))), none⟩, {}⟩, ⟨⟨some 47, (.iadrS 1 (.t 43) (.t 45)), none⟩, {}⟩, ⟨⟨none, (.store 1 (.t 47) (.c (B true))), none⟩, {}⟩, ⟨⟨some 6, (.mov (.c (B true))), none⟩, {}⟩] (some [(4, 7), (5, 7)])) .skip)
def ref01_From_C11 : TC := (.seq (.rg [⟨⟨some 24, (.fadr 5 (.t 8)), none⟩, {}⟩, ⟨⟨some 25, (.load false 1 (.t 24)), none⟩, {}⟩, ⟨⟨some 26, (.un .not (.t 25)), none⟩, {}⟩, ⟨⟨some 27, (.mov (.t 26)), none⟩, {}⟩, ⟨⟨some 28, (.mov (.t 5)), some (27, true)⟩, {}⟩, ⟨⟨some 29, (.fadr 0 (.t 8)), some (27, true)⟩, {}⟩, ⟨⟨some 30, (.load
  false 1 (.t 29)), some (27, true)⟩, {}⟩, ⟨⟨some 31, (.iadrS 1 (.t 28) (.t 30)), some (27, true)⟩, {}⟩, ⟨⟨some 32, (.load false 1 (.t 31)), some (27, true)⟩, {}⟩, ⟨⟨some 33, (.mov (.t 5)), some (27, true)⟩, {}⟩, ⟨⟨some 34, (.fadr 1 (.t 8)), some (27, true)⟩, {}⟩, ⟨⟨some 35, (.load false 1 (.t 34)),
  some (27, true)⟩, {}⟩, ⟨⟨some 36, (.iadrS 1 (.t 33) (.t 35)), some (27, true)⟩, {}⟩, ⟨⟨some 37, (.load false 1 (.t 36)), some (27, true)⟩, {}⟩, ⟨⟨some 38, (.beq true (.t 32) (.t 37)), some (27, true)⟩, {}⟩, ⟨⟨some 39, (.pick (.t 27) (.t 38) (.c (B false))), none⟩, {}⟩] (some [])) ref01_From_C16)
def ref01_From_C12 : TC := (.rg [⟨⟨some 17, (.mov (.t 7)), none⟩, {}⟩, ⟨⟨some 18, (.bin .add (.t 17) (.c (I 1))), none⟩, {}⟩, ⟨⟨some 7, (.mov (.t 18)), none⟩, {}⟩] none)
def ref01_From_C6 : TC := (.seq (.block 3 (.seq (.rg [⟨⟨some 19, (.fadr 1 (.t 2)), none⟩, {}⟩, ⟨⟨some 20, (.load false 1 (.t 19)), none⟩, {}⟩, ⟨⟨some 21, (.mov (.t 7)), none⟩, {}⟩, ⟨⟨some 22, (.iadrS 10 (.t 20) (.t 21)), none⟩, {}⟩, ⟨⟨some 23, (.load true 10 (.t 22)), none⟩, {}⟩, ⟨⟨some 8, (.alloc [(I 0), (I 0), (I 0), (I 0),
  (B false), (B false), (I 0), (I 0), (I 0), (I 0)]), none⟩, {}⟩, ⟨⟨none, (.store 10 (.t 8) (.t 23)), none⟩, {}⟩] none) ref01_From_C11)) ref01_From_C12)
def ref01_From_C1 : TC := (.seq (.seq (.rg [⟨⟨some 12, (.mov (.t 7)), none⟩, {}⟩, ⟨⟨some 13, (.fadr 1 (.t 2)), none⟩, {}⟩, ⟨⟨some 14, (.load false 1 (.t 13)), none⟩, {}⟩, ⟨⟨some 15, (.len (.t 14)), none⟩, {}⟩, ⟨⟨some 16, (.bin .lss (.t 12) (.t 15)), none⟩, {}⟩] none) ref01_From_C5) ref01_From_C6)
def ref01_From_C7 : TC := (.cond (.t 11) .skip (.exit 0))
def ref01_From_C17 : TC := (.block 2 (.loop ref01_From_N2 ref01_From_C1))
def ref01_From_C13 : TC := (.seq (.rg [⟨⟨some 7, (.mov (.c (I 0))), none⟩, {}⟩] none) ref01_From_C17)
def ref01_From_C8 : TC := (.block 1 (.seq (.rg [⟨⟨some 6, (.mov (.c (B false))), none⟩, {}⟩] none) ref01_From_C13))
def ref01_From_C2 : TC := (.seq (.seq (.rg [⟨⟨some 11, (.mov (.t 6)), none⟩, {}⟩] none) ref01_From_C7) ref01_From_C8)
def ref01_From_C14 : TC := .ret
def ref01_From_C9 : TC := (.pre [.frz 4] ref01_From_C14)
def ref01_From_C3 : TC := (.seq (.rg [⟨⟨some 48, (.mov (.t 5)), none⟩, {}⟩, ⟨⟨some 4, (.mov (.t 48)), none⟩, {}⟩] none) ref01_From_C9)
def ref01_From_C18 : TC := (.block 0 (.loop ref01_From_N1 ref01_From_C2))
def ref01_From_C15 : TC := (.seq (.seq (.rg [⟨⟨some 6, (.mov (.c (B true))), none⟩, {}⟩] none) ref01_From_C18) ref01_From_C3)
def ref01_From_C10 : TC := (.seq (.pre [.ghost .bool] (.rg [⟨⟨some 9, (.mov (.t 1)), none⟩, {}⟩, ⟨⟨some 10, (.app 1 1 (.c (.lst true [])) (.t 9)), none⟩, ⟨.unit, some 1⟩⟩, ⟨⟨some 5, (.mov (.t 10)), none⟩, {}⟩] none)) ref01_From_C15)
def ref01_From_C4 : TC := (.seq (.rg [⟨⟨some 2, (.box (.t 0)), none⟩, {}⟩, ⟨⟨some 4, (.mov (.c (.lst true []))), none⟩, {}⟩] none) ref01_From_C10)
def ref01_From_E (N : Nat) : List (Nat × Ent) := []
def ref01_From_L2 (N n1 : Nat) (n : Nat) (x5 : Bool) (x6 : Int) (x7 : List T_Place) (x8 : List T_Road) (x9 : List Bool) : Option (List Bool) := loopN (normI 0 ref01_From_N2) (run (ref01_From_E N) N 0 ref01_From_C1) n ⟨[(2, .ptr 0 0 0), (5, .whole 1), (6, .bool x5), (7, .int .i64 x6)], [some (.box 0 [.lst false G_Place x7, .lst false G_Road x8]), some (.arr .bool x9)]⟩ (blkK 2 (blkK 1 (seqK (nextL (normI 0 ref01_From_N1) (loopN (normI 0 ref01_From_N1) (run (ref01_From_E N) N 0 ref01_From_C2) n1)) (blkK 0 (seqK (run (ref01_From_E N) N 0 ref01_From_C3) (fin [(.t 4)] [(.list .bool)]))))))
def ref01_From_L1 (N : Nat) (n : Nat) (x1 : Bool) (x2 : List T_Place) (x3 : List T_Road) (x4 : List Bool) : Option (List Bool) := loopN (normI 0 ref01_From_N1) (run (ref01_From_E N) N 0 ref01_From_C2) n ⟨[(2, .ptr 0 0 0), (5, .whole 1), (6, .bool x1)], [some (.box 0 [.lst false G_Place x2, .lst false G_Road x3]), some (.arr .bool x4)]⟩ (blkK 0 (seqK (run (ref01_From_E N) N 0 ref01_From_C3) (fin [(.t 4)] [(.list .bool)])))
theorem ref01_From_L2_zero (N n1 : Nat) (x5 : Bool) (x6 : Int) (x7 : List T_Place) (x8 : List T_Road) (x9 : List Bool) : ref01_From_L2 N n1 0 x5 x6 x7 x8 x9 = none := rfl
theorem ref01_From_L2_succ (N n1 : Nat) (n2 : Nat) (x5 : Bool) (x6 : Int) (x7 : List T_Place) (x8 : List T_Road) (x9 : List Bool) : ref01_From_L2 N n1 (n2 + 1) x5 x6 x7 x8 x9 =
  bif (decide (x6 < (x8.length : Int))) then
    bif inB x6 x8.length then
    bif (!(x8.getD x6.toNat D_Road).2.2.2.2.2.1) then
      bif inB (x8.getD x6.toNat D_Road).1 x9.length then
      bif inB (x8.getD x6.toNat D_Road).2.1 x9.length then
      bif (!((x9.getD (x8.getD x6.toNat D_Road).1.toNat false) == (x9.getD (x8.getD x6.toNat D_Road).2.1.toNat false))) then
        bif inB (x8.getD x6.toNat D_Road).1 x9.length then
        bif inB (x8.getD x6.toNat D_Road).2.1 (x9.set (x8.getD x6.toNat D_Road).1.toNat true).length then
        ref01_From_L2 N n1 n2 true (W (x6 + 1)) x7 x8 ((x9.set (x8.getD x6.toNat D_Road).1.toNat true).set (x8.getD x6.toNat D_Road).2.1.toNat true)
        else none
        else none
      else
        ref01_From_L2 N n1 n2 x5 (W (x6 + 1)) x7 x8 x9
      else none
      else none
    else
      ref01_From_L2 N n1 n2 x5 (W (x6 + 1)) x7 x8 x9
    else none
  else
    ref01_From_L1 N n1 x5 x7 x8 x9 := by kernel_rfl
theorem ref01_From_L1_zero (N : Nat) (x1 : Bool) (x2 : List T_Place) (x3 : List T_Road) (x4 : List Bool) : ref01_From_L1 N 0 x1 x2 x3 x4 = none := rfl
theorem ref01_From_L1_succ (N : Nat) (n1 : Nat) (x1 : Bool) (x2 : List T_Place) (x3 : List T_Road) (x4 : List Bool) : ref01_From_L1 N (n1 + 1) x1 x2 x3 x4 =
  bif x1 then
    ref01_From_L2 N n1 N false 0 x2 x3 x4
  else
    some x4 := by kernel_rfl
def ref01_From (N : Nat) (a0 : T_Mine) (a1 : List Bool) : Option (List Bool) :=
  bif fitsB a1.length 1 then
  ref01_From_L1 N N true a0.1 a0.2 a1
  else none
theorem ref01_From_fn : FnOK Try.prog 45 49 (fun _ : Nat => false) ref01_From_C4.er [(.t 4)] := FnOK.mk' Try.func45 (by kernel_rfl) (by kernel_rfl) (by kernel_rfl) (by kernel_rfl) (by kernel_rfl)
theorem ref01_From_envok (N : Nat) : EnvOK Try.prog (ref01_From_E N) := .nil
theorem ref01_From_pure (N : Nat) : PureOK Try.prog 45 [G_Mine, (.list .bool)] [(.list .bool)] (fun x => ref01_From N x.1 x.2) := pureOK (N := N) mixed ref01_From_fn (ref01_From_envok N) (TC.noh_ok (by kernel_rfl)) rfl (fun x => by kernel_rfl)
/-! ref01_Airy -/
def ref01_Airy_N1 : List NS := [.wk 3 (.list .bool), .keep [1, 3, 4], .cmp]
def ref01_Airy_C4 : TC := (.cond (.t 13) .skip (.exit 0))
def ref01_Airy_C8 : TC := (.rg [⟨⟨some 14, (.mov (.t 4)), none⟩, {}⟩, ⟨⟨some 15, (.bin .add (.t 14) (.c (I 1))), none⟩, {}⟩, ⟨⟨some 4, (.mov (.t 15)), none⟩, {}⟩] none)
def ref01_Airy_C5 : TC := (.seq (.block 1 (.rg [⟨⟨some 16, (.mov (.t 3)), none⟩, {}⟩, ⟨⟨some 17, (.mov (.t 4)), none⟩, {}⟩, ⟨⟨some 18, (.fadr 0 (.t 1)), none⟩, {}⟩, ⟨⟨some 19, (.load false 1 (.t 18)), none⟩, {}⟩, ⟨⟨some 20, (.mov (.t 4)), none⟩, {}⟩, ⟨⟨some 21, (.iadrS 2 (.t 19) (.t 20)), none⟩, {}⟩, ⟨⟨some 22, (.fadr 1 (.t
  21)), none⟩, {}⟩, ⟨⟨some 23, (.load false 1 (.t 22)), none⟩, {}⟩, ⟨⟨some 24, (.iadrS 1 (.t 16) (.t 17)), none⟩, {}⟩, ⟨⟨none, (.store 1 (.t 24) (.t 23)), none⟩, {}⟩] none)) ref01_Airy_C8)
def ref01_Airy_C1 : TC := (.seq (.seq (.rg [⟨⟨some 9, (.mov (.t 4)), none⟩, {}⟩, ⟨⟨some 10, (.fadr 0 (.t 1)), none⟩, {}⟩, ⟨⟨some 11, (.load false 1 (.t 10)), none⟩, {}⟩, ⟨⟨some 12, (.len (.t 11)), none⟩, {}⟩, ⟨⟨some 13, (.bin .lss (.t 9) (.t 12)), none⟩, {}⟩] none) ref01_Airy_C4) ref01_Airy_C5)
def ref01_Airy_C9 : TC := .ret
def ref01_Airy_C6 : TC := (.pre [.frz 2] ref01_Airy_C9)
def ref01_Airy_C2 : TC := (.seq (.rgw [([⟨⟨some 25, (.load true 2 (.t 1)), none⟩, {}⟩, ⟨⟨some 26, (.mov (.t 3)), none⟩, {}⟩], [.frz 3]), ([⟨⟨some 27, (.call (.c (.fn 45 [])) [(.t 25), (.t 26)]), none⟩, {}⟩, ⟨⟨some 2, (.mov (.t 27)), none⟩, {}⟩], [])]) ref01_Airy_C6)
def ref01_Airy_C11 : TC := (.block 0 (.loop ref01_Airy_N1 ref01_Airy_C1))
def ref01_Airy_C10 : TC := (.seq (.seq (.rg [⟨⟨some 4, (.mov (.c (I 0))), none⟩, {}⟩] none) ref01_Airy_C11) ref01_Airy_C2)
def ref01_Airy_C7 : TC := (.seq (.rg [⟨⟨some 5, (.fadr 0 (.t 1)), none⟩, {}⟩, ⟨⟨some 6, (.load false 1 (.t 5)), none⟩, {}⟩, ⟨⟨some 7, (.len (.t 6)), none⟩, {}⟩, ⟨⟨some 8, (.mksl 1 1 [(B false)] (.t 7) (.t 7)), none⟩, ⟨.bool, none⟩⟩, ⟨⟨some 3, (.mov (.t 8)), none⟩, {}⟩] none) ref01_Airy_C10)
def ref01_Airy_C3 : TC := (.seq (.rg [⟨⟨some 1, (.box (.t 0)), none⟩, {}⟩, ⟨⟨some 2, (.mov (.c (.lst true []))), none⟩, {}⟩] none) ref01_Airy_C7)
def ref01_Airy_E (N : Nat) : List (Nat × Ent) := [(45, pureE [G_Mine, (.list .bool)] [(.list .bool)] (fun x => ref01_From N x.1 x.2))]
def ref01_Airy_L1 (N : Nat) (n : Nat) (x2 : Int) (x3 : List T_Place) (x4 : List T_Road) (x5 : List Bool) : Option (List Bool) := loopN (normI 0 ref01_Airy_N1) (run (ref01_Airy_E N) N 0 ref01_Airy_C1) n ⟨[(1, .ptr 0 0 0), (3, .whole 1), (4, .int .i64 x2)], [some (.box 0 [.lst false G_Place x3, .lst false G_Road x4]), some (.arr .bool x5)]⟩ (blkK 0 (seqK (run (ref01_Airy_E N) N 0 ref01_Airy_C2) (fin [(.t 2)] [(.list .bool)])))
theorem ref01_Airy_L1_zero (N : Nat) (x2 : Int) (x3 : List T_Place) (x4 : List T_Road) (x5 : List Bool) : ref01_Airy_L1 N 0 x2 x3 x4 x5 = none := rfl
theorem ref01_Airy_L1_succ (N : Nat) (n1 : Nat) (x2 : Int) (x3 : List T_Place) (x4 : List T_Road) (x5 : List Bool) : ref01_Airy_L1 N (n1 + 1) x2 x3 x4 x5 =
  bif (decide (x2 < (x3.length : Int))) then
    bif inB x2 x3.length then
    bif inB x2 x5.length then
    ref01_Airy_L1 N n1 (W (x2 + 1)) x3 x4 (x5.set x2.toNat (x3.getD x2.toNat D_Place).2)
    else none
    else none
  else
    Option.bind (ref01_From N (x3, x4) x5) fun r12 =>
    some r12 := by kernel_rfl
def ref01_Airy (N : Nat) (a0 : T_Mine) : Option (List Bool) :=
  bif mkB 1 (a0.1.length : Int) (a0.1.length : Int) then
  ref01_Airy_L1 N N 0 a0.1 a0.2 (List.replicate (a0.1.length : Int).toNat false)
  else none
theorem ref01_Airy_fn : FnOK Try.prog 44 28 (fun _ : Nat => false) ref01_Airy_C3.er [(.t 2)] := FnOK.mk' Try.func44 (by kernel_rfl) (by kernel_rfl) (by kernel_rfl) (by kernel_rfl) (by kernel_rfl)
theorem ref01_Airy_envok (N : Nat) : EnvOK Try.prog (ref01_Airy_E N) := .cons (pureE_ok (ref01_From_pure N)) (.nil)
theorem ref01_Airy_pure (N : Nat) : PureOK Try.prog 44 [G_Mine] [(.list .bool)] (fun x => ref01_Airy N x) := pureOK (N := N) mixed ref01_Airy_fn (ref01_Airy_envok N) (TC.noh_ok (by kernel_rfl)) rfl (fun x => by kernel_rfl)
/-! ref01_CutOff -/
def ref01_CutOff_N1 : List NS := [.own 3 (.int .i64), .wk 4 (.list .bool), .keep [3, 4, 5], .cmp]
def ref01_CutOff_C4 : TC := (.cond (.t 14) .skip (.exit 0))
def ref01_CutOff_C8 : TC := (.cond (.t 21) (.rg [⟨⟨some 22, (.mov (.t 3)), none⟩, {}⟩, ⟨⟨some 23, (.mov (.t 5)), none⟩, {}⟩, ⟨⟨some 24, (.bslice false 1 [(I 0)] 1 [(0, (.t 23))]), none⟩, ⟨(.int .i64), none⟩⟩, ⟨⟨some 25, (.app 1 8 (.t 22) (.t 24)), none⟩, {}⟩, ⟨⟨some 3, (.mov (.t 25)), none⟩, {}⟩] none) .skip)
def ref01_CutOff_C9 : TC := (.rg [⟨⟨some 15, (.mov (.t 5)), none⟩, {}⟩, ⟨⟨some 16, (.bin .add (.t 15) (.c (I 1))), none⟩, {}⟩, ⟨⟨some 5, (.mov (.t 16)), none⟩, {}⟩] none)
def ref01_CutOff_C5 : TC := (.seq (.block 1 (.seq (.rg [⟨⟨some 17, (.mov (.t 4)), none⟩, {}⟩, ⟨⟨some 18, (.mov (.t 5)), none⟩, {}⟩, ⟨⟨some 19, (.iadrS 1 (.t 17) (.t 18)), none⟩, {}⟩, ⟨⟨some 20, (.load false 1 (.t 19)), none⟩, {}⟩, ⟨⟨some 21, (.un .not (.t 20)), none⟩, {}⟩] none) ref01_CutOff_C8)) ref01_CutOff_C9)
def ref01_CutOff_C1 : TC := (.seq (.seq (.rg [⟨⟨some 11, (.mov (.t 5)), none⟩, {}⟩, ⟨⟨some 12, (.mov (.t 4)), none⟩, {}⟩, ⟨⟨some 13, (.len (.t 12)), none⟩, {}⟩, ⟨⟨some 14, (.bin .lss (.t 11) (.t 13)), none⟩, {}⟩] none) ref01_CutOff_C4) ref01_CutOff_C5)
def ref01_CutOff_C13 : TC := .ret
def ref01_CutOff_C10 : TC := (.pre [.frz 2] ref01_CutOff_C13)
def ref01_CutOff_C6 : TC := (.seq (.rg [⟨⟨some 26, (.mov (.t 3)), none⟩, {}⟩, ⟨⟨some 2, (.mov (.t 26)), none⟩, {}⟩] none) ref01_CutOff_C10)
def ref01_CutOff_C2 : TC := (.pre [.frz 3] ref01_CutOff_C6)
def ref01_CutOff_C16 : TC := .ret
def ref01_CutOff_C14 : TC := (.pre [.frz 2] ref01_CutOff_C16)
def ref01_CutOff_C11 : TC := (.cond (.t 8) (.seq (.rg [⟨⟨some 2, (.mov (.c (.lst true []))), none⟩, {}⟩] none) ref01_CutOff_C14) .skip)
def ref01_CutOff_C18 : TC := (.block 0 (.loop ref01_CutOff_N1 ref01_CutOff_C1))
def ref01_CutOff_C17 : TC := (.seq (.seq (.rg [⟨⟨some 5, (.mov (.c (I 0))), none⟩, {}⟩] none) ref01_CutOff_C18) ref01_CutOff_C2)
def ref01_CutOff_C15 : TC := (.seq (.rg [⟨⟨some 9, (.load true 2 (.t 1)), none⟩, {}⟩, ⟨⟨some 10, (.call (.c (.fn 44 [])) [(.t 9)]), none⟩, {}⟩, ⟨⟨some 4, (.mov (.t 10)), none⟩, {}⟩] none) ref01_CutOff_C17)
def ref01_CutOff_C12 : TC := (.seq (.rg [⟨⟨some 3, (.mov (.c (.lst true []))), none⟩, {}⟩] none) ref01_CutOff_C15)
def ref01_CutOff_C7 : TC := (.seq (.seq (.rg [⟨⟨some 6, (.load true 2 (.t 1)), none⟩, {}⟩, ⟨⟨some 7, (.call (.c (.fn 13 [])) [(.t 6)]), none⟩, {}⟩, ⟨⟨some 8, (.bin .neq (.t 7) (.c (I 0))), none⟩, {}⟩] none) ref01_CutOff_C11) ref01_CutOff_C12)
def ref01_CutOff_C3 : TC := (.seq (.rg [⟨⟨some 1, (.box (.t 0)), none⟩, {}⟩, ⟨⟨some 2, (.mov (.c (.lst true []))), none⟩, {}⟩] none) ref01_CutOff_C7)
def ref01_CutOff_E (N : Nat) : List (Nat × Ent) := [(13, pureE [G_Mine] [(.int .i64)] (fun x => ref01_Check N x)), (44, pureE [G_Mine] [(.list .bool)] (fun x => ref01_Airy N x))]
def ref01_CutOff_L1 (N : Nat) (n : Nat) (x3 : List Bool) (x4 : Int) (x5 : List Int) : Option (List Int) := loopN (normI 0 ref01_CutOff_N1) (run (ref01_CutOff_E N) N 0 ref01_CutOff_C1) n ⟨[(3, .whole 0), (4, .lst false .bool x3), (5, .int .i64 x4)], [some (.arr (.int .i64) x5)]⟩ (blkK 0 (seqK (run (ref01_CutOff_E N) N 0 ref01_CutOff_C2) (fin [(.t 2)] [(.list (.int .i64))])))
theorem ref01_CutOff_L1_zero (N : Nat) (x3 : List Bool) (x4 : Int) (x5 : List Int) : ref01_CutOff_L1 N 0 x3 x4 x5 = none := rfl
theorem ref01_CutOff_L1_succ (N : Nat) (n1 : Nat) (x3 : List Bool) (x4 : Int) (x5 : List Int) : ref01_CutOff_L1 N (n1 + 1) x3 x4 x5 =
  bif (decide (x4 < (x3.length : Int))) then
    bif inB x4 x3.length then
    bif (!(x3.getD x4.toNat false)) then
      bif fitsB (x5.length + 1) 8 then
      ref01_CutOff_L1 N n1 x3 (W (x4 + 1)) (x5 ++ [x4])
      else none
    else
      ref01_CutOff_L1 N n1 x3 (W (x4 + 1)) x5
    else none
  else
    some x5 := by kernel_rfl
def ref01_CutOff (N : Nat) (a0 : T_Mine) : Option (List Int) :=
  Option.bind (ref01_Check N a0) fun r1 =>
  bif (r1 != 0) then
    some []
  else
    Option.bind (ref01_Airy N a0) fun r2 =>
    ref01_CutOff_L1 N N r2 0 []
theorem ref01_CutOff_fn : FnOK Try.prog 33 27 (fun _ : Nat => false) ref01_CutOff_C3.er [(.t 2)] := FnOK.mk' Try.func33 (by kernel_rfl) (by kernel_rfl) (by kernel_rfl) (by kernel_rfl) (by kernel_rfl)
theorem ref01_CutOff_envok (N : Nat) : EnvOK Try.prog (ref01_CutOff_E N) := .cons (pureE_ok (ref01_Check_pure N)) (.cons (pureE_ok (ref01_Airy_pure N)) (.nil))
theorem ref01_CutOff_pure (N : Nat) : PureOK Try.prog 33 [G_Mine] [(.list (.int .i64))] (fun x => ref01_CutOff N x) := pureOK (N := N) mixed ref01_CutOff_fn (ref01_CutOff_envok N) (TC.noh_ok (by kernel_rfl)) rfl (fun x => by kernel_rfl)
/-! ref01_Lists -/
def ref01_Lists_N1 : List NS := [.wk 0 (.list (.list (.int .i64))), .wk 1 (.list (.list (.int .i64))), .keep [0, 1, 5], .cmp]
def ref01_Lists_C4 : TC := (.cond (.t 14) .skip (.exit 0))
def ref01_Lists_C12 : TC := .ret
def ref01_Lists_C8 : TC := (.cond (.t 26) (.seq (.rg [⟨⟨some 4, (.mov (.c (B false))), none⟩, {}⟩] none) ref01_Lists_C12) .skip)
def ref01_Lists_C9 : TC := (.rg [⟨⟨some 15, (.mov (.t 5)), none⟩, {}⟩, ⟨⟨some 16, (.bin .add (.t 15) (.c (I 1))), none⟩, {}⟩, ⟨⟨some 5, (.mov (.t 16)), none⟩, {}⟩] none)
def ref01_Lists_C5 : TC := (.seq (.block 1 (.seq (.rg [⟨⟨some 17, (.mov (.t 0)), none⟩, {}⟩, ⟨⟨some 18, (.mov (.t 5)), none⟩, {}⟩, ⟨⟨some 19, (.iadrS 1 (.t 17) (.t 18)), none⟩, {}⟩, ⟨⟨some 20, (.load false 1 (.t 19)), none⟩, {}⟩, ⟨⟨some 21, (.mov (.t 1)), none⟩, {}⟩, ⟨⟨some 22, (.mov (.t 5)), none⟩, {}⟩, ⟨⟨some 23, (.iadrS 1
  (.t 21) (.t 22)), none⟩, {}⟩, ⟨⟨some 24, (.load false 1 (.t 23)), none⟩, {}⟩, ⟨⟨some 25, (.call (.c (.fn 28 [])) [(.t 20), (.t 24)]), none⟩, {}⟩, ⟨⟨some 26, (.un .not (.t 25)), none⟩, {}⟩] (some [])) ref01_Lists_C8)) ref01_Lists_C9)
def ref01_Lists_C1 : TC := (.seq (.seq (.rg [⟨⟨some 11, (.mov (.t 5)), none⟩, {}⟩, ⟨⟨some 12, (.mov (.t 0)), none⟩, {}⟩, ⟨⟨some 13, (.len (.t 12)), none⟩, {}⟩, ⟨⟨some 14, (.bin .lss (.t 11) (.t 13)), none⟩, {}⟩] none) ref01_Lists_C4) ref01_Lists_C5)
def ref01_Lists_C6 : TC := .ret
def ref01_Lists_C2 : TC := (.seq (.rg [⟨⟨some 4, (.mov (.c (B true))), none⟩, {}⟩] none) ref01_Lists_C6)
def ref01_Lists_C13 : TC := .ret
def ref01_Lists_C10 : TC := (.cond (.t 10) (.seq (.rg [⟨⟨some 4, (.mov (.c (B false))), none⟩, {}⟩] none) ref01_Lists_C13) .skip)
def ref01_Lists_C14 : TC := (.block 0 (.loop ref01_Lists_N1 ref01_Lists_C1))
def ref01_Lists_C11 : TC := (.seq (.seq (.rg [⟨⟨some 5, (.mov (.c (I 0))), none⟩, {}⟩] none) ref01_Lists_C14) ref01_Lists_C2)
def ref01_Lists_C7 : TC := (.seq (.seq (.rg [⟨⟨some 6, (.mov (.t 0)), none⟩, {}⟩, ⟨⟨some 7, (.len (.t 6)), none⟩, {}⟩, ⟨⟨some 8, (.mov (.t 1)), none⟩, {}⟩, ⟨⟨some 9, (.len (.t 8)), none⟩, {}⟩, ⟨⟨some 10, (.bin .neq (.t 7) (.t 9)), none⟩, {}⟩] none) ref01_Lists_C10) ref01_Lists_C11)
def ref01_Lists_C3 : TC := (.seq (.rg [⟨⟨some 4, (.mov (.c (B false))), none⟩, {}⟩] none) ref01_Lists_C7)
def ref01_Lists_E (N : Nat) : List (Nat × Ent) := [(28, pureE [(.list (.int .i64)), (.list (.int .i64))] [.bool] (fun x => ref01_Ints N x.1 x.2))]
def ref01_Lists_L1 (N : Nat) (n : Nat) (x1 : List (List Int)) (x2 : List (List Int)) (x3 : Int) : Option Bool := loopN (normI 0 ref01_Lists_N1) (run (ref01_Lists_E N) N 0 ref01_Lists_C1) n ⟨[(0, .lst false (.list (.int .i64)) x1), (1, .lst false (.list (.int .i64)) x2), (5, .int .i64 x3)], []⟩ (blkK 0 (seqK (run (ref01_Lists_E N) N 0 ref01_Lists_C2) (fin [(.t 4)] [.bool])))
theorem ref01_Lists_L1_zero (N : Nat) (x1 : List (List Int)) (x2 : List (List Int)) (x3 : Int) : ref01_Lists_L1 N 0 x1 x2 x3 = none := rfl
theorem ref01_Lists_L1_succ (N : Nat) (n1 : Nat) (x1 : List (List Int)) (x2 : List (List Int)) (x3 : Int) : ref01_Lists_L1 N (n1 + 1) x1 x2 x3 =
  bif (decide (x3 < (x1.length : Int))) then
    bif inB x3 x1.length then
    bif inB x3 x2.length then
    Option.bind (ref01_Ints N (x1.getD x3.toNat []) (x2.getD x3.toNat [])) fun r4 =>
    bif (!r4) then
      some false
    else
      ref01_Lists_L1 N n1 x1 x2 (W (x3 + 1))
    else none
    else none
  else
    some true := by kernel_rfl
def ref01_Lists (N : Nat) (a0 : List (List Int)) (a1 : List (List Int)) : Option Bool :=
  bif ((a0.length : Int) != (a1.length : Int)) then
    some false
  else
    ref01_Lists_L1 N N a0 a1 0
theorem ref01_Lists_fn : FnOK Try.prog 34 27 (fun _ : Nat => false) ref01_Lists_C3.er [(.t 4)] := FnOK.mk' Try.func34 (by kernel_rfl) (by kernel_rfl) (by kernel_rfl) (by kernel_rfl) (by kernel_rfl)
theorem ref01_Lists_envok (N : Nat) : EnvOK Try.prog (ref01_Lists_E N) := .cons (pureE_ok (ref01_Ints_pure N)) (.nil)
theorem ref01_Lists_pure (N : Nat) : PureOK Try.prog 34 [(.list (.list (.int .i64))), (.list (.list (.int .i64)))] [.bool] (fun x => ref01_Lists N x.1 x.2) := pureOK (N := N) mixed ref01_Lists_fn (ref01_Lists_envok N) (TC.noh_ok (by kernel_rfl)) rfl (fun x => by kernel_rfl)
/-! ref01_Parts -/
def ref01_Parts_N1 : List NS := [.own 3 (.list (.int .i64)), .wk 4 (.list .bool), .keep [1, 3, 4, 5], .cmp]
def ref01_Parts_N2 : List NS := [.own 7 (.int .i64), .wk 3 (.list (.list (.int .i64))), .wk 4 (.list .bool), .wk 6 (.list .bool), .keep [1, 3, 4, 5, 6, 7, 8], .cmp]
def ref01_Parts_C7 : TC := (.cond (.t 40) .skip (.exit 2))
def ref01_Parts_C21 : TC := (.rg [⟨⟨some 51, (.mov (.t 4)), none⟩, {}⟩, ⟨⟨some 52, (.mov (.t 8)), none⟩, {}⟩, ⟨⟨some 53, (.iadrS 1 (.t 51) (.t 52)), none⟩, {}⟩, ⟨⟨none, (.store 1 (.t 53) (.c (B true))), none⟩, {}⟩] none)
def ref01_Parts_C14 : TC := (.cond (.t 46) (.seq (.rg [⟨⟨some 47, (.mov (.t 7)), none⟩, {}⟩, ⟨⟨some 48, (.mov (.t 8)), none⟩, {}⟩, ⟨⟨some 49, (.bslice false 1 [(I 0)] 1 [(0, (.t 48))]), none⟩, ⟨(.int .i64), none⟩⟩, ⟨⟨some 50, (.app 1 8 (.t 47) (.t 49)), none⟩, {}⟩, ⟨⟨some 7, (.mov (.t 50)), none⟩, {}⟩] none) ref01_Parts_C21)
  .skip)
def ref01_Parts_C15 : TC := (.rg [⟨⟨some 41, (.mov (.t 8)), none⟩, {}⟩, ⟨⟨some 42, (.bin .add (.t 41) (.c (I 1))), none⟩, {}⟩, ⟨⟨some 8, (.mov (.t 42)), none⟩, {}⟩] none)
def ref01_Parts_C8 : TC := (.seq (.block 3 (.seq (.rg [⟨⟨some 43, (.mov (.t 6)), none⟩, {}⟩, ⟨⟨some 44, (.mov (.t 8)), none⟩, {}⟩, ⟨⟨some 45, (.iadrS 1 (.t 43) (.t 44)), none⟩, {}⟩, ⟨⟨some 46, (.load false 1 (.t 45)), none⟩, {}⟩] none) ref01_Parts_C14)) ref01_Parts_C15)
def ref01_Parts_C1 : TC := (.seq (.seq (.rg [⟨⟨some 37, (.mov (.t 8)), none⟩, {}⟩, ⟨⟨some 38, (.mov (.t 6)), none⟩, {}⟩, ⟨⟨some 39, (.len (.t 38)), none⟩, {}⟩, ⟨⟨some 40, (.bin .lss (.t 37) (.t 39)), none⟩, {}⟩] none) ref01_Parts_C7) ref01_Parts_C8)
def ref01_Parts_C9 : TC := (.rg [⟨⟨some 54, (.mov (.t 3)), none⟩, {}⟩, ⟨⟨some 55, (.mov (.t 7)), none⟩, {}⟩, ⟨⟨some 56, (.bslice false 1 [(.lst true [])] 1 [(0, (.t 55))]), none⟩, ⟨(.list (.int .i64)), none⟩⟩, ⟨⟨some 57, (.app 1 24 (.t 54) (.t 56)), none⟩, {}⟩, ⟨⟨some 3, (.mov (.t 57)), none⟩, {}⟩] none)
def ref01_Parts_C2 : TC := (.pre [.frz 7] ref01_Parts_C9)
def ref01_Parts_C3 : TC := (.rg [⟨⟨some 21, (.mov (.t 5)), none⟩, {}⟩, ⟨⟨some 22, (.bin .add (.t 21) (.c (I 1))), none⟩, {}⟩, ⟨⟨some 5, (.mov (.t 22)), none⟩, {}⟩] none)
def ref01_Parts_C10 : TC := (.cond (.t 20) .skip (.exit 0))
def ref01_Parts_C16 : TC := (.cond (.t 26) (.exit 1) .skip)
def ref01_Parts_C32 : TC := (.block 2 (.loop ref01_Parts_N2 ref01_Parts_C1))
def ref01_Parts_C31 : TC := (.seq (.seq (.rg [⟨⟨some 8, (.mov (.c (I 0))), none⟩, {}⟩] none) ref01_Parts_C32) ref01_Parts_C2)
def ref01_Parts_C29 : TC := (.seq (.rg [⟨⟨some 7, (.mov (.c (.lst true []))), none⟩, {}⟩] none) ref01_Parts_C31)
def ref01_Parts_C26 : TC := (.seq (.rgw [([⟨⟨some 34, (.load true 2 (.t 1)), none⟩, {}⟩, ⟨⟨some 35, (.mov (.t 6)), none⟩, {}⟩], [.frz 30]), ([⟨⟨some 36, (.call (.c (.fn 45 [])) [(.t 34), (.t 35)]), none⟩, {}⟩, ⟨⟨some 6, (.mov (.t 36)), none⟩, {}⟩], [])]) ref01_Parts_C29)
def ref01_Parts_C22 : TC := (.seq (.rg [⟨⟨some 31, (.mov (.t 6)), none⟩, {}⟩, ⟨⟨some 32, (.mov (.t 5)), none⟩, {}⟩, ⟨⟨some 33, (.iadrS 1 (.t 31) (.t 32)), none⟩, {}⟩, ⟨⟨none, (.store 1 (.t 33) (.c (B true))), none⟩, {}⟩] none) ref01_Parts_C26)
def ref01_Parts_C17 : TC := (.seq (.rg [⟨⟨some 27, (.fadr 0 (.t 1)), none⟩, {}⟩, ⟨⟨some 28, (.load false 1 (.t 27)), none⟩, {}⟩, ⟨⟨some 29, (.len (.t 28)), none⟩, {}⟩, ⟨⟨some 30, (.mksl 1 1 [(B false)] (.t 29) (.t 29)), none⟩, ⟨.bool, none⟩⟩, ⟨⟨some 6, (.mov (.t 30)), none⟩, {}⟩] none) ref01_Parts_C22)
def ref01_Parts_C11 : TC := (.seq (.block 1 (.seq (.seq (.rg [⟨⟨some 23, (.mov (.t 4)), none⟩, {}⟩, ⟨⟨some 24, (.mov (.t 5)), none⟩, {}⟩, ⟨⟨some 25, (.iadrS 1 (.t 23) (.t 24)), none⟩, {}⟩, ⟨⟨some 26, (.load false 1 (.t 25)), none⟩, {}⟩] none) ref01_Parts_C16) ref01_Parts_C17)) ref01_Parts_C3)
def ref01_Parts_C4 : TC := (.seq (.seq (.rg [⟨⟨some 16, (.mov (.t 5)), none⟩, {}⟩, ⟨⟨some 17, (.fadr 0 (.t 1)), none⟩, {}⟩, ⟨⟨some 18, (.load false 1 (.t 17)), none⟩, {}⟩, ⟨⟨some 19, (.len (.t 18)), none⟩, {}⟩, ⟨⟨some 20, (.bin .lss (.t 16) (.t 19)), none⟩, {}⟩] none) ref01_Parts_C10) ref01_Parts_C11)
def ref01_Parts_C23 : TC := .ret
def ref01_Parts_C18 : TC := (.pre [.frz 2] ref01_Parts_C23)
def ref01_Parts_C12 : TC := (.seq (.rg [⟨⟨some 58, (.mov (.t 3)), none⟩, {}⟩, ⟨⟨some 2, (.mov (.t 58)), none⟩, {}⟩] none) ref01_Parts_C18)
def ref01_Parts_C5 : TC := (.pre [.frz 3] ref01_Parts_C12)
def ref01_Parts_C27 : TC := .ret
def ref01_Parts_C24 : TC := (.pre [.frz 2] ref01_Parts_C27)
def ref01_Parts_C19 : TC := (.cond (.t 11) (.seq (.rg [⟨⟨some 2, (.mov (.c (.lst true []))), none⟩, {}⟩] none) ref01_Parts_C24) .skip)
def ref01_Parts_C30 : TC := (.block 0 (.loop ref01_Parts_N1 ref01_Parts_C4))
def ref01_Parts_C28 : TC := (.seq (.seq (.rg [⟨⟨some 5, (.mov (.c (I 0))), none⟩, {}⟩] none) ref01_Parts_C30) ref01_Parts_C5)
def ref01_Parts_C25 : TC := (.seq (.rg [⟨⟨some 12, (.fadr 0 (.t 1)), none⟩, {}⟩, ⟨⟨some 13, (.load false 1 (.t 12)), none⟩, {}⟩, ⟨⟨some 14, (.len (.t 13)), none⟩, {}⟩, ⟨⟨some 15, (.mksl 1 1 [(B false)] (.t 14) (.t 14)), none⟩, ⟨.bool, none⟩⟩, ⟨⟨some 4, (.mov (.t 15)), none⟩, {}⟩] none) ref01_Parts_C28)
def ref01_Parts_C20 : TC := (.seq (.rg [⟨⟨some 3, (.mov (.c (.lst true []))), none⟩, {}⟩] none) ref01_Parts_C25)
def ref01_Parts_C13 : TC := (.seq (.seq (.rg [⟨⟨some 9, (.load true 2 (.t 1)), none⟩, {}⟩, ⟨⟨some 10, (.call (.c (.fn 13 [])) [(.t 9)]), none⟩, {}⟩, ⟨⟨some 11, (.bin .neq (.t 10) (.c (I 0))), none⟩, {}⟩] none) ref01_Parts_C19) ref01_Parts_C20)
def ref01_Parts_C6 : TC := (.seq (.rg [⟨⟨some 1, (.box (.t 0)), none⟩, {}⟩, ⟨⟨some 2, (.mov (.c (.lst true []))), none⟩, {}⟩] none) ref01_Parts_C13)
def ref01_Parts_E (N : Nat) : List (Nat × Ent) := [(13, pureE [G_Mine] [(.int .i64)] (fun x => ref01_Check N x)), (45, pureE [G_Mine, (.list .bool)] [(.list .bool)] (fun x => ref01_From N x.1 x.2))]
def ref01_Parts_L2 (N n1 : Nat) (n : Nat) (x16 : Int) (x17 : List Bool) (x18 : Int) (x19 : List T_Place) (x20 : List T_Road) (x21 : List (List Int)) (x22 : List Bool) (x23 : List Int) : Option (List (List Int)) := loopN (normI 0 ref01_Parts_N2) (run (ref01_Parts_E N) N 0 ref01_Parts_C1) n ⟨[(1, .ptr 0 0 0), (3, .whole 1), (4, .whole 2), (5, .int .i64 x16), (6, .lst false .bool x17), (7, .whole 3), (8, .int .i64 x18)], [some (.box 0 [.lst false G_Place x19, .lst false G_Road x20]), some (.arr (.list (.int .i64)) x21), some (.arr .bool x22), some (.arr (.int .i64) x23)]⟩ (blkK 2 (seqK (run (ref01_Parts_E N) N 0 ref01_Parts_C2) (blkK 1 (seqK (run (ref01_Parts_E N) N 0 ref01_Parts_C3) (seqK (nextL (normI 0 ref01_Parts_N1) (loopN (normI 0 ref01_Parts_N1) (run (ref01_Parts_E N) N 0 ref01_Parts_C4) n1)) (blkK 0 (seqK (run (ref01_Parts_E N) N 0 ref01_Parts_C5) (fin [(.t 2)] [(.list (.list (.int .i64)))]))))))))
def ref01_Parts_L1 (N : Nat) (n : Nat) (x3 : Int) (x4 : List T_Place) (x5 : List T_Road) (x6 : List (List Int)) (x7 : List Bool) : Option (List (List Int)) := loopN (normI 0 ref01_Parts_N1) (run (ref01_Parts_E N) N 0 ref01_Parts_C4) n ⟨[(1, .ptr 0 0 0), (3, .whole 1), (4, .whole 2), (5, .int .i64 x3)], [some (.box 0 [.lst false G_Place x4, .lst false G_Road x5]), some (.arr (.list (.int .i64)) x6), some (.arr .bool x7)]⟩ (blkK 0 (seqK (run (ref01_Parts_E N) N 0 ref01_Parts_C5) (fin [(.t 2)] [(.list (.list (.int .i64)))])))
theorem ref01_Parts_L2_zero (N n1 : Nat) (x16 : Int) (x17 : List Bool) (x18 : Int) (x19 : List T_Place) (x20 : List T_Road) (x21 : List (List Int)) (x22 : List Bool) (x23 : List Int) : ref01_Parts_L2 N n1 0 x16 x17 x18 x19 x20 x21 x22 x23 = none := rfl
theorem ref01_Parts_L2_succ (N n1 : Nat) (n2 : Nat) (x16 : Int) (x17 : List Bool) (x18 : Int) (x19 : List T_Place) (x20 : List T_Road) (x21 : List (List Int)) (x22 : List Bool) (x23 : List Int) : ref01_Parts_L2 N n1 (n2 + 1) x16 x17 x18 x19 x20 x21 x22 x23 =
  bif (decide (x18 < (x17.length : Int))) then
    bif inB x18 x17.length then
    bif x17.getD x18.toNat false then
      bif fitsB (x23.length + 1) 8 then
      bif inB x18 x22.length then
      ref01_Parts_L2 N n1 n2 x16 x17 (W (x18 + 1)) x19 x20 x21 (x22.set x18.toNat true) (x23 ++ [x18])
      else none
      else none
    else
      ref01_Parts_L2 N n1 n2 x16 x17 (W (x18 + 1)) x19 x20 x21 x22 x23
    else none
  else
    bif fitsB (x21.length + 1) 24 then
    ref01_Parts_L1 N n1 (W (x16 + 1)) x19 x20 (x21 ++ [x23]) x22
    else none := by kernel_rfl
theorem ref01_Parts_L1_zero (N : Nat) (x3 : Int) (x4 : List T_Place) (x5 : List T_Road) (x6 : List (List Int)) (x7 : List Bool) : ref01_Parts_L1 N 0 x3 x4 x5 x6 x7 = none := rfl
theorem ref01_Parts_L1_succ (N : Nat) (n1 : Nat) (x3 : Int) (x4 : List T_Place) (x5 : List T_Road) (x6 : List (List Int)) (x7 : List Bool) : ref01_Parts_L1 N (n1 + 1) x3 x4 x5 x6 x7 =
  bif (decide (x3 < (x4.length : Int))) then
    bif inB x3 x7.length then
    bif x7.getD x3.toNat false then
      ref01_Parts_L1 N n1 (W (x3 + 1)) x4 x5 x6 x7
    else
      bif mkB 1 (x4.length : Int) (x4.length : Int) then
      let v13 := List.replicate (x4.length : Int).toNat false
      bif inB x3 v13.length then
      Option.bind (ref01_From N (x4, x5) (v13.set x3.toNat true)) fun r15 =>
      ref01_Parts_L2 N n1 N x3 r15 0 x4 x5 x6 x7 []
      else none
      else none
    else none
  else
    some x6 := by kernel_rfl
def ref01_Parts (N : Nat) (a0 : T_Mine) : Option (List (List Int)) :=
  Option.bind (ref01_Check N a0) fun r1 =>
  bif (r1 != 0) then
    some []
  else
    bif mkB 1 (a0.1.length : Int) (a0.1.length : Int) then
    ref01_Parts_L1 N N 0 a0.1 a0.2 [] (List.replicate (a0.1.length : Int).toNat false)
    else none
theorem ref01_Parts_fn : FnOK Try.prog 35 59 (fun _ : Nat => false) ref01_Parts_C6.er [(.t 2)] := FnOK.mk' Try.func35 (by kernel_rfl) (by kernel_rfl) (by kernel_rfl) (by kernel_rfl) (by kernel_rfl)
theorem ref01_Parts_envok (N : Nat) : EnvOK Try.prog (ref01_Parts_E N) := .cons (pureE_ok (ref01_Check_pure N)) (.cons (pureE_ok (ref01_From_pure N)) (.nil))
theorem ref01_Parts_pure (N : Nat) : PureOK Try.prog 35 [G_Mine] [(.list (.list (.int .i64)))] (fun x => ref01_Parts N x) := pureOK (N := N) mixed ref01_Parts_fn (ref01_Parts_envok N) (TC.noh_ok (by kernel_rfl)) rfl (fun x => by kernel_rfl)
/-! law01_PlanLooks -/
def law01_PlanLooks_N1 : List NS := [.wk 30 (.list G_Mine), .keep [2, 3, 30, 31, 32], .cmp]
def law01_PlanLooks_C18 : TC := .ret
def law01_PlanLooks_C16 : TC := (.cond (.t 87) (.seq (.rg [⟨⟨some 8, (.mov (.c (B false))), none⟩, {}⟩] none) law01_PlanLooks_C18) .skip)
def law01_PlanLooks_C20 : TC := .ret
def law01_PlanLooks_C19 : TC := (.cond (.t 101) (.seq (.rg [⟨⟨some 8, (.mov (.c (B false))), none⟩, {}⟩] none) law01_PlanLooks_C20) .skip)
def law01_PlanLooks_C17 : TC := (.seq (.rg [⟨⟨some 88, (.load true 2 (.t 11)), none⟩, {}⟩, ⟨⟨some 89, (.call (.c (.fn 25 [])) [(.t 88)]), none⟩, {}⟩, ⟨⟨some 90, (.load true 2 (.t 11)), none⟩, {}⟩, ⟨⟨some 91, (.call (.c (.fn 33 [])) [(.t 90)]), none⟩, {}⟩, ⟨⟨some 92, (.call (.c (.fn 28 [])) [(.t 89), (.t 91)]), none⟩, {}⟩, ⟨⟨some
  93, (.un .not (.t 92)), none⟩, {}⟩, ⟨⟨some 94, (.mov (.t 93)), none⟩, {}⟩, ⟨⟨some 95, (.load true 2 (.t 11)), some (94, false)⟩, {}⟩, ⟨⟨some 96, (.call (.c (.fn 27 [])) [(.t 95)]), some (94, false)⟩, {}⟩, ⟨⟨some 97, (.load true 2 (.t 11)), some (94, false)⟩, {}⟩, ⟨⟨some 98, (.call (.c (.fn 35 []))
  [(.t 97)]), some (94, false)⟩, {}⟩, ⟨⟨some 99, (.call (.c (.fn 34 [])) [(.t 96), (.t 98)]), some (94, false)⟩, {}⟩, ⟨⟨some 100, (.un .not (.t 99)), some (94, false)⟩, {}⟩, ⟨⟨some 101, (.pick (.t 94) (.c (B true)) (.t 100)), none⟩, {}⟩] (some [(1, 2), (8, 9)])) law01_PlanLooks_C19)
def law01_PlanLooks_C15 : TC := (.seq (.seq (.rg [⟨⟨some 48, (.load true 2 (.t 11)), none⟩, {}⟩, ⟨⟨some 49, (.mov (.t 12)), none⟩, {}⟩, ⟨⟨some 50, (.call (.c (.fn 29 [])) [(.t 48), (.t 49)]), none⟩, {}⟩, ⟨⟨some 51, (.load true 2 (.t 11)), none⟩, {}⟩, ⟨⟨some 52, (.mov (.t 12)), none⟩, {}⟩, ⟨⟨some 53, (.call (.c (.fn 30 [])) [(.t
  51), (.t 52)]), none⟩, {}⟩, ⟨⟨some 54, (.call (.c (.fn 28 [])) [(.t 50), (.t 53)]), none⟩, {}⟩, ⟨⟨some 55, (.un .not (.t 54)), none⟩, {}⟩, ⟨⟨some 56, (.mov (.t 55)), none⟩, {}⟩, ⟨⟨some 57, (.load true 2 (.t 11)), some (56, false)⟩, {}⟩, ⟨⟨some 58, (.mov (.t 2)), some (56, false)⟩, {}⟩, ⟨⟨some 59,
  (.call (.c (.fn 29 [])) [(.t 57), (.t 58)]), some (56, false)⟩, {}⟩, ⟨⟨some 60, (.load true 2 (.t 11)), some (56, false)⟩, {}⟩, ⟨⟨some 61, (.mov (.t 2)), some (56, false)⟩, {}⟩, ⟨⟨some 62, (.call (.c (.fn 30 [])) [(.t 60), (.t 61)]), some (56, false)⟩, {}⟩, ⟨⟨some 63, (.call (.c (.fn 28 [])) [(.t
  59), (.t 62)]), some (56, false)⟩, {}⟩, ⟨⟨some 64, (.un .not (.t 63)), some (56, false)⟩, {}⟩, ⟨⟨some 65, (.pick (.t 56) (.c (B true)) (.t 64)), none⟩, {}⟩, ⟨⟨some 66, (.mov (.t 65)), none⟩, {}⟩, ⟨⟨some 67, (.load true 2 (.t 11)), some (66, false)⟩, {}⟩, ⟨⟨some 68, (.mov (.t 13)), some (66,
  false)⟩, {}⟩, ⟨⟨some 69, (.mov (.t 12)), some (66, false)⟩, {}⟩, ⟨⟨some 70, (.call (.c (.fn 31 [])) [(.t 67), (.t 68), (.t 69)]), some (66, false)⟩, {}⟩, ⟨⟨some 71, (.load true 2 (.t 11)), some (66, false)⟩, {}⟩, ⟨⟨some 72, (.mov (.t 13)), some (66, false)⟩, {}⟩, ⟨⟨some 73, (.mov (.t 12)), some
  (66, false)⟩, {}⟩, ⟨⟨some 74, (.call (.c (.fn 32 [])) [(.t 71), (.t 72), (.t 73)]), some (66, false)⟩, {}⟩, ⟨⟨some 75, (.bin .neq (.t 70) (.t 74)), some (66, false)⟩, {}⟩, ⟨⟨some 76, (.pick (.t 66) (.c (B true)) (.t 75)), none⟩, {}⟩, ⟨⟨some 77, (.mov (.t 76)), none⟩, {}⟩, ⟨⟨some 78, (.load true 2
  (.t 11)), some (77, false)⟩, {}⟩, ⟨⟨some 79, (.mov (.t 3)), some (77, false)⟩, {}⟩, ⟨⟨some 80, (.mov (.t 2)), some (77, false)⟩, {}⟩, ⟨⟨some 81, (.call (.c (.fn 31 [])) [(.t 78), (.t 79), (.t 80)]), some (77, false)⟩, {}⟩, ⟨⟨some 82, (.load true 2 (.t 11)), some (77, false)⟩, {}⟩, ⟨⟨some 83, (.mov
  (.t 3)), some (77, false)⟩, {}⟩, ⟨⟨some 84, (.mov (.t 2)), some (77, false)⟩, {}⟩, ⟨⟨some 85, (.call (.c (.fn 32 [])) [(.t 82), (.t 83), (.t 84)]), some (77, false)⟩, {}⟩, ⟨⟨some 86, (.bin .neq (.t 81) (.t 85)), some (77, false)⟩, {}⟩, ⟨⟨some 87, (.pick (.t 77) (.c (B true)) (.t 86)), none⟩, {}⟩]
  (some [(2, 3), (11, 12), (22, 23), (33, 34)])) law01_PlanLooks_C16) law01_PlanLooks_C17)
def law01_PlanLooks_C11 : TC := (.seq (.rg [⟨⟨some 36, (.mov (.t 2)), none⟩, {}⟩, ⟨⟨some 37, (.fadr 0 (.t 11)), none⟩, {}⟩, ⟨⟨some 38, (.load false 1 (.t 37)), none⟩, {}⟩, ⟨⟨some 39, (.len (.t 38)), none⟩, {}⟩, ⟨⟨some 40, (.bin .add (.t 39) (.c (I 1))), none⟩, {}⟩, ⟨⟨some 41, (.call (.c (.fn 18 [])) [(.t 36), (.t 40)]), none⟩, {}⟩,
  ⟨⟨some 42, (.mov (.t 3)), none⟩, {}⟩, ⟨⟨some 43, (.fadr 1 (.t 11)), none⟩, {}⟩, ⟨⟨some 44, (.load false 1 (.t 43)), none⟩, {}⟩, ⟨⟨some 45, (.len (.t 44)), none⟩, {}⟩, ⟨⟨some 46, (.bin .add (.t 45) (.c (I 1))), none⟩, {}⟩, ⟨⟨some 47, (.call (.c (.fn 18 [])) [(.t 42), (.t 46)]), none⟩, {}⟩, ⟨⟨some
  12, (.mov (.t 41)), none⟩, {}⟩, ⟨⟨some 13, (.mov (.t 47)), none⟩, {}⟩] (some [(5, 7), (5, 8), (5, 9)])) law01_PlanLooks_C15)
def law01_PlanLooks_C12 : TC := (.rg [⟨⟨some 102, (.bin .add (.t 32) (.c (I 1))), none⟩, {}⟩, ⟨⟨some 32, (.mov (.t 102)), none⟩, {}⟩] none)
def law01_PlanLooks_C9 : TC := (.seq (.block 1 (.seq (.rg [⟨⟨some 34, (.iadrS 2 (.t 30) (.t 32)), none⟩, {}⟩, ⟨⟨some 35, (.load true 2 (.t 34)), none⟩, {}⟩, ⟨⟨some 11, (.alloc [(.lst true []), (.lst true [])]), none⟩, {}⟩, ⟨⟨none, (.store 2 (.t 11) (.t 35)), none⟩, {}⟩] none) law01_PlanLooks_C11)) law01_PlanLooks_C12)
def law01_PlanLooks_C5 : TC := (.seq (.cond (.t 33) .skip (.exit 0)) law01_PlanLooks_C9)
def law01_PlanLooks_C1 : TC := (.seq (.rg [⟨⟨some 33, (.bin .lss (.t 32) (.t 31)), none⟩, {}⟩] none) law01_PlanLooks_C5)
def law01_PlanLooks_C6 : TC := .ret
def law01_PlanLooks_C2 : TC := (.seq (.rg [⟨⟨some 103, (.call (.c (.fn 15 [])) []), none⟩, {}⟩, ⟨⟨some 8, (.mov (.t 103)), none⟩, {}⟩] none) law01_PlanLooks_C6)
def law01_PlanLooks_C7 : TC := (.block 0 (.loop law01_PlanLooks_N1 law01_PlanLooks_C1))
def law01_PlanLooks_C3 : TC := (.seq (.seq (.rg [⟨⟨some 28, (.load true 2 (.t 9)), none⟩, {}⟩, ⟨⟨some 29, (.load true 2 (.t 5)), none⟩, {}⟩, ⟨⟨some 30, (.bslice false 2 [(.lst true []), (.lst true [])] 2 [(0, (.t 28)), (1, (.t 29))]), none⟩, ⟨G_Mine, none⟩⟩, ⟨⟨some 31, (.len (.t 30)), none⟩, {}⟩, ⟨⟨some 32, (.mov (.c (I 0))),
  none⟩, {}⟩] none) law01_PlanLooks_C7) law01_PlanLooks_C2)
def law01_PlanLooks_C13 : TC := (.cond (.t 26) (.rg [⟨⟨some 27, (.build [(.lst true []), (.lst true [])] []), none⟩, {}⟩, ⟨⟨none, (.store 2 (.t 5) (.t 27)), none⟩, {}⟩] none) .skip)
def law01_PlanLooks_C14 : TC := (.join [.wkb 5 G_Mine, .keep [2, 3, 5, 9], .cmp] law01_PlanLooks_C3)
def law01_PlanLooks_C10 : TC := (.seq (.seq (.rg [⟨⟨some 17, (.fadr 0 (.t 5)), none⟩, {}⟩, ⟨⟨some 18, (.load false 1 (.t 17)), none⟩, {}⟩, ⟨⟨some 19, (.len (.t 18)), none⟩, {}⟩, ⟨⟨some 20, (.bin .gtr (.t 19) (.c (I 20))), none⟩, {}⟩, ⟨⟨some 21, (.mov (.t 20)), none⟩, {}⟩, ⟨⟨some 22, (.fadr 1 (.t 5)), some (21, false)⟩, {}⟩, ⟨⟨some
  23, (.load false 1 (.t 22)), some (21, false)⟩, {}⟩, ⟨⟨some 24, (.len (.t 23)), some (21, false)⟩, {}⟩, ⟨⟨some 25, (.bin .gtr (.t 24) (.c (I 20))), some (21, false)⟩, {}⟩, ⟨⟨some 26, (.pick (.t 21) (.c (B true)) (.t 25)), none⟩, {}⟩] none) law01_PlanLooks_C13) law01_PlanLooks_C14)
def law01_PlanLooks_C8 : TC := (.seq (.rg [⟨⟨some 14, (.mov (.t 0)), none⟩, {}⟩, ⟨⟨some 15, (.call (.c (.fn 10 [])) [(.t 14)]), none⟩, {}⟩, ⟨⟨some 16, (.call (.c (.fn 11 [])) [(.t 15)]), none⟩, {}⟩, ⟨⟨some 9, (.alloc [(.lst true []), (.lst true [])]), none⟩, {}⟩, ⟨⟨none, (.store 2 (.t 9) (.t 16)), none⟩, {}⟩] none)
  law01_PlanLooks_C10)
def law01_PlanLooks_C4 : TC := (.seq (.rg [⟨⟨some 5, (.box (.t 1)), none⟩, {}⟩, ⟨⟨some 8, (.mov (.c (B false))), none⟩, {}⟩] none) law01_PlanLooks_C8)
def law01_PlanLooks_E (N : Nat) : List (Nat × Ent) := [(10, sfE [none] [.v (.list (.int .u8))] [.n G_Codes] (fun x => draw_New N x)), (11, sfE [none] [.b (.v G_Codes)] [.v G_Mine] (fun x => draw_Codes_Mine N x)), (18, pureE [(.int .i64), (.int .i64)] [(.int .i64)] (fun x => draw_Mod N x.1 x.2)), (29, pureE [G_Mine, (.int .i64)] [(.list (.int .i64))] (fun x => plan_Roads N x.1 x.2)), (30, pureE [G_Mine, (.int .i64)] [(.list (.int .i64))] (fun x => ref01_Roads N x.1 x.2)), (28, pureE [(.list (.int .i64)), (.list (.int .i64))] [.bool] (fun x => ref01_Ints N x.1 x.2)), (31, pureE [G_Mine, (.int .i64), (.int .i64)] [(.int .i64)] (fun x => plan_Other N x.1 x.2.1 x.2.2)), (32, pureE [G_Mine, (.int .i64), (.int .i64)] [(.int .i64)] (fun x => ref01_Other N x.1 x.2.1 x.2.2)), (25, pureE [G_Mine] [(.list (.int .i64))] (fun x => plan_CutOff N x)), (33, pureE [G_Mine] [(.list (.int .i64))] (fun x => ref01_CutOff N x)), (27, pureE [G_Mine] [(.list (.list (.int .i64)))] (fun x => plan_Parts N x)), (35, pureE [G_Mine] [(.list (.list (.int .i64)))] (fun x => ref01_Parts N x)), (34, pureE [(.list (.list (.int .i64))), (.list (.list (.int .i64)))] [.bool] (fun x => ref01_Lists N x.1 x.2)), (15, pureE [] [.bool] (fun x => law01_awake N))]
def law01_PlanLooks_L1 (N : Nat) (n : Nat) (x9 : Int) (x10 : Int) (x11 : List T_Mine) (x12 : Int) (x13 : Int) : Option Bool := loopN (normI 0 law01_PlanLooks_N1) (run (law01_PlanLooks_E N) N 0 law01_PlanLooks_C1) n ⟨[(2, .int .i64 x9), (3, .int .i64 x10), (30, .lst false G_Mine x11), (31, .int .i64 x12), (32, .int .i64 x13)], []⟩ (blkK 0 (seqK (run (law01_PlanLooks_E N) N 0 law01_PlanLooks_C2) (fin [(.t 8)] [.bool])))
def law01_PlanLooks_J1 (N : Nat) (x3 : Int) (x4 : Int) (x5 : List T_Place) (x6 : List T_Road) (x7 : List T_Place) (x8 : List T_Road) : Option Bool := joinN (run (law01_PlanLooks_E N) N 0 law01_PlanLooks_C3) N ⟨[(2, .int .i64 x3), (3, .int .i64 x4), (5, .ptr 0 0 0), (9, .ptr 1 0 0)], [some (.box 0 [.lst false G_Place x5, .lst false G_Road x6]), some (.box 0 [.lst false G_Place x7, .lst false G_Road x8])]⟩ (fin [(.t 8)] [.bool])
theorem law01_PlanLooks_L1_zero (N : Nat) (x9 : Int) (x10 : Int) (x11 : List T_Mine) (x12 : Int) (x13 : Int) : law01_PlanLooks_L1 N 0 x9 x10 x11 x12 x13 = none := rfl
theorem law01_PlanLooks_L1_succ (N : Nat) (n1 : Nat) (x9 : Int) (x10 : Int) (x11 : List T_Mine) (x12 : Int) (x13 : Int) : law01_PlanLooks_L1 N (n1 + 1) x9 x10 x11 x12 x13 =
  bif (decide (x13 < x12)) then
    bif inB x13 x11.length then
    let v14 := x11.getD x13.toNat D_Mine
    Option.bind (draw_Mod N x9 (W ((v14.1.length : Int) + 1))) fun r16 =>
    Option.bind (draw_Mod N x10 (W ((v14.2.length : Int) + 1))) fun r18 =>
    Option.bind (plan_Roads N v14 r16) fun r19 =>
    Option.bind (ref01_Roads N v14 r16) fun r20 =>
    Option.bind (ref01_Ints N r19 r20) fun r21 =>
    bif (!r21) then
      some false
    else
      Option.bind (plan_Roads N v14 x9) fun r22 =>
      Option.bind (ref01_Roads N v14 x9) fun r23 =>
      Option.bind (ref01_Ints N r22 r23) fun r24 =>
      bif (!r24) then
        some false
      else
        Option.bind (plan_Other N v14 r18 r16) fun r25 =>
        Option.bind (ref01_Other N v14 r18 r16) fun r26 =>
        bif (r25 != r26) then
          some false
        else
          Option.bind (plan_Other N v14 x10 x9) fun r27 =>
          Option.bind (ref01_Other N v14 x10 x9) fun r28 =>
          bif (r27 != r28) then
            some false
          else
            Option.bind (plan_CutOff N v14) fun r29 =>
            Option.bind (ref01_CutOff N v14) fun r30 =>
            Option.bind (ref01_Ints N r29 r30) fun r31 =>
            bif (!r31) then
              some false
            else
              Option.bind (plan_Parts N v14) fun r32 =>
              Option.bind (ref01_Parts N v14) fun r33 =>
              Option.bind (ref01_Lists N r32 r33) fun r34 =>
              bif (!r34) then
                some false
              else
                law01_PlanLooks_L1 N n1 x9 x10 x11 x12 (W (x13 + 1))
    else none
  else
    Option.bind (law01_awake N) fun r40 =>
    some r40 := by kernel_rfl
theorem law01_PlanLooks_J1_eqM (N JM : Nat) (x3 : Int) (x4 : Int) (x5 : List T_Place) (x6 : List T_Road) (x7 : List T_Place) (x8 : List T_Road) : joinN (run (law01_PlanLooks_E N) N 0 law01_PlanLooks_C3) (JM + 1) ⟨[(2, .int .i64 x3), (3, .int .i64 x4), (5, .ptr 0 0 0), (9, .ptr 1 0 0)], [some (.box 0 [.lst false G_Place x5, .lst false G_Road x6]), some (.box 0 [.lst false G_Place x7, .lst false G_Road x8])]⟩ (fin [(.t 8)] [.bool]) =
  law01_PlanLooks_L1 N N x3 x4 [(x7, x8), (x5, x6)] ([(x7, x8), (x5, x6)].length : Int) 0 := by kernel_rfl
theorem law01_PlanLooks_J1_eq (N : Nat) (x3 : Int) (x4 : Int) (x5 : List T_Place) (x6 : List T_Road) (x7 : List T_Place) (x8 : List T_Road) : law01_PlanLooks_J1 (N + 1) x3 x4 x5 x6 x7 x8 =
  law01_PlanLooks_L1 (N + 1) (N + 1) x3 x4 [(x7, x8), (x5, x6)] ([(x7, x8), (x5, x6)].length : Int) 0 := law01_PlanLooks_J1_eqM (N + 1) N x3 x4 x5 x6 x7 x8
def law01_PlanLooks (N : Nat) (a0 : List Int) (a1 : T_Mine) (a2 : Int) (a3 : Int) : Option Bool :=
  Option.bind (draw_New N a0) fun r1 =>
  Option.bind (draw_Codes_Mine N r1.1) fun r2 =>
  bif (decide ((a1.1.length : Int) > 20)) then
    law01_PlanLooks_J1 N a2 a3 [] [] r2.1.1 r2.1.2
  else
    bif (decide ((a1.2.length : Int) > 20)) then
      law01_PlanLooks_J1 N a2 a3 [] [] r2.1.1 r2.1.2
    else
      law01_PlanLooks_J1 N a2 a3 a1.1 a1.2 r2.1.1 r2.1.2
theorem law01_PlanLooks_fn : FnOK Try.prog 8 104 (fun _ : Nat => false) law01_PlanLooks_C4.er [(.t 8)] := FnOK.mk' Try.func8 (by kernel_rfl) (by kernel_rfl) (by kernel_rfl) (by kernel_rfl) (by kernel_rfl)
theorem law01_PlanLooks_envok (N : Nat) : EnvOK Try.prog (law01_PlanLooks_E N) := .cons (sfE_ok (draw_New_sf N)) (.cons (sfE_ok (draw_Codes_Mine_sf N)) (.cons (pureE_ok (draw_Mod_pure N)) (.cons (pureE_ok (plan_Roads_pure N)) (.cons (pureE_ok (ref01_Roads_pure N)) (.cons (pureE_ok (ref01_Ints_pure N)) (.cons (pureE_ok (plan_Other_pure N)) (.cons (pureE_ok (ref01_Other_pure N)) (.cons (pureE_ok (plan_CutOff_pure N)) (.cons (pureE_ok (ref01_CutOff_pure N)) (.cons (pureE_ok (plan_Parts_pure N)) (.cons (pureE_ok (ref01_Parts_pure N)) (.cons (pureE_ok (ref01_Lists_pure N)) (.cons (pureE_ok (law01_awake_pure N)) (.nil))))))))))))))
theorem law01_PlanLooks_pure (N : Nat) : PureOK Try.prog 8 [(.list (.int .u8)), G_Mine, (.int .i64), (.int .i64)] [.bool] (fun x => law01_PlanLooks N x.1 x.2.1 x.2.2.1 x.2.2.2) := pureOK (N := N) mixed law01_PlanLooks_fn (law01_PlanLooks_envok N) (TC.noh_ok (by kernel_rfl)) rfl (fun x => by kernel_rfl)
end M
end Go.Proofs.Ytdmggkpefjpknaa
