/- Plain models of functions of this seat, each checked against the loaded program and the walk by the kernel. No condition: closed facts. Printed by a program of ours. -/
import Derived.Test.YtpmpmlhjnddikaaM1
set_option linter.all false
namespace Go.Proofs.Ytpmpmlhjnddikaa
open Go.Pv
namespace M
/-! ref35_out -/
def ref35_out_C4 : TC := .ret
def ref35_out_C3 : TC := (.seq (.rg [⟨⟨some 15, (.fadr 5 (.t 9)), none⟩, {}⟩, ⟨⟨some 16, (.load false 1 (.t 15)), none⟩, {}⟩, ⟨⟨some 17, (.un .not (.t 16)), none⟩, {}⟩, ⟨⟨some 18, (.mov (.t 17)), none⟩, {}⟩, ⟨⟨some 19, (.fadr 1 (.t 9)), some (18, true)⟩, {}⟩, ⟨⟨some 20, (.load false 1 (.t 19)), some (18, true)⟩, {}⟩, ⟨⟨some
  21, (.mov (.t 3)), some (18, true)⟩, {}⟩, ⟨⟨some 22, (.bin .eql (.t 20) (.t 21)), some (18, true)⟩, {}⟩, ⟨⟨some 23, (.mov (.t 22)), some (18, true)⟩, {}⟩, ⟨⟨some 24, (.mov (.t 1)), some (23, true)⟩, {}⟩, ⟨⟨some 25, (.mov (.t 2)), some (23, true)⟩, {}⟩, ⟨⟨some 26, (.iadrS 2 (.t 24) (.t 25)), some
  (23, true)⟩, {}⟩, ⟨⟨some 27, (.fadr 1 (.t 26)), some (23, true)⟩, {}⟩, ⟨⟨some 28, (.load false 1 (.t 27)), some (23, true)⟩, {}⟩, ⟨⟨some 29, (.bin .gtr (.t 28) (.c (I 0))), some (23, true)⟩, {}⟩, ⟨⟨some 30, (.pick (.t 23) (.t 29) (.c (B false))), some (18, true)⟩, {}⟩, ⟨⟨some 31, (.mov (.t 30)),
  some (18, true)⟩, {}⟩, ⟨⟨some 32, (.fadr 0 (.t 9)), some (31, false)⟩, {}⟩, ⟨⟨some 33, (.load false 1 (.t 32)), some (31, false)⟩, {}⟩, ⟨⟨some 34, (.mov (.t 3)), some (31, false)⟩, {}⟩, ⟨⟨some 35, (.bin .eql (.t 33) (.t 34)), some (31, false)⟩, {}⟩, ⟨⟨some 36, (.mov (.t 35)), some (31, false)⟩,
  {}⟩, ⟨⟨some 37, (.mov (.t 1)), some (36, true)⟩, {}⟩, ⟨⟨some 38, (.mov (.t 2)), some (36, true)⟩, {}⟩, ⟨⟨some 39, (.iadrS 2 (.t 37) (.t 38)), some (36, true)⟩, {}⟩, ⟨⟨some 40, (.fadr 0 (.t 39)), some (36, true)⟩, {}⟩, ⟨⟨some 41, (.load false 1 (.t 40)), some (36, true)⟩, {}⟩, ⟨⟨some 42, (.bin .lss
  (.t 41) (.c (I 0))), some (36, true)⟩, {}⟩, ⟨⟨some 43, (.pick (.t 36) (.t 42) (.c (B false))), some (31, false)⟩, {}⟩, ⟨⟨some 44, (.pick (.t 31) (.c (B true)) (.t 43)), some (18, true)⟩, {}⟩, ⟨⟨some 45, (.pick (.t 18) (.t 44) (.c (B false))), none⟩, {}⟩, ⟨⟨some 8, (.mov (.t 45)), none⟩, {}⟩] none)
  ref35_out_C4)
def ref35_out_C2 : TC := (.seq (.rg [⟨⟨some 10, (.fadr 1 (.t 4)), none⟩, {}⟩, ⟨⟨some 11, (.load false 1 (.t 10)), none⟩, {}⟩, ⟨⟨some 12, (.mov (.t 2)), none⟩, {}⟩, ⟨⟨some 13, (.iadrS 10 (.t 11) (.t 12)), none⟩, {}⟩, ⟨⟨some 14, (.load true 10 (.t 13)), none⟩, {}⟩, ⟨⟨some 9, (.alloc [(I 0), (I 0), (I 0), (I 0), (B false), (B
  false), (I 0), (I 0), (I 0), (I 0)]), none⟩, {}⟩, ⟨⟨none, (.store 10 (.t 9) (.t 14)), none⟩, {}⟩] none) ref35_out_C3)
def ref35_out_C1 : TC := (.seq (.rg [⟨⟨some 4, (.box (.t 0)), none⟩, {}⟩, ⟨⟨some 8, (.mov (.c (B false))), none⟩, {}⟩] none) ref35_out_C2)
def ref35_out_E (N : Nat) : List (Nat × Ent) := []
def ref35_out (N : Nat) (a0 : T_Mine) (a1 : List T_Span) (a2 : Int) (a3 : Int) : Option Bool :=
  bif inB a2 a0.2.length then
  let v1 := a0.2.getD a2.toNat D_Road
  bif (!v1.2.2.2.2.2.1) then
    bif (v1.2.1 == a3) then
      bif inB a2 a1.length then
      bif (decide ((a1.getD a2.toNat D_Span).2 > 0)) then
        some true
      else
        bif (v1.1 == a3) then
          bif inB a2 a1.length then
          some (decide ((a1.getD a2.toNat D_Span).1 < 0))
          else none
        else
          some false
      else none
    else
      bif (v1.1 == a3) then
        bif inB a2 a1.length then
        some (decide ((a1.getD a2.toNat D_Span).1 < 0))
        else none
      else
        some false
  else
    some false
  else none
theorem ref35_out_fn : FnOK Try.prog 64 46 (fun _ : Nat => false) ref35_out_C1.er [(.t 8)] := FnOK.mk' Try.func64 (by kernel_rfl) (by kernel_rfl) (by kernel_rfl) (by kernel_rfl) (by kernel_rfl)
theorem ref35_out_envok (N : Nat) : EnvOK Try.prog (ref35_out_E N) := .nil
theorem ref35_out_pure (N : Nat) : PureOK Try.prog 64 [G_Mine, (.list G_Span), (.int .i64), (.int .i64)] [.bool] (fun x => ref35_out N x.1 x.2.1 x.2.2.1 x.2.2.2) := pureOK (N := N) mixed ref35_out_fn (ref35_out_envok N) rfl (fun x => by kernel_rfl)
/-! ref35_in -/
def ref35_in_C4 : TC := .ret
def ref35_in_C3 : TC := (.seq (.rg [⟨⟨some 15, (.fadr 5 (.t 9)), none⟩, {}⟩, ⟨⟨some 16, (.load false 1 (.t 15)), none⟩, {}⟩, ⟨⟨some 17, (.un .not (.t 16)), none⟩, {}⟩, ⟨⟨some 18, (.mov (.t 17)), none⟩, {}⟩, ⟨⟨some 19, (.fadr 0 (.t 9)), some (18, true)⟩, {}⟩, ⟨⟨some 20, (.load false 1 (.t 19)), some (18, true)⟩, {}⟩, ⟨⟨some
  21, (.mov (.t 3)), some (18, true)⟩, {}⟩, ⟨⟨some 22, (.bin .eql (.t 20) (.t 21)), some (18, true)⟩, {}⟩, ⟨⟨some 23, (.mov (.t 22)), some (18, true)⟩, {}⟩, ⟨⟨some 24, (.mov (.t 1)), some (23, true)⟩, {}⟩, ⟨⟨some 25, (.mov (.t 2)), some (23, true)⟩, {}⟩, ⟨⟨some 26, (.iadrS 2 (.t 24) (.t 25)), some
  (23, true)⟩, {}⟩, ⟨⟨some 27, (.fadr 1 (.t 26)), some (23, true)⟩, {}⟩, ⟨⟨some 28, (.load false 1 (.t 27)), some (23, true)⟩, {}⟩, ⟨⟨some 29, (.bin .gtr (.t 28) (.c (I 0))), some (23, true)⟩, {}⟩, ⟨⟨some 30, (.pick (.t 23) (.t 29) (.c (B false))), some (18, true)⟩, {}⟩, ⟨⟨some 31, (.mov (.t 30)),
  some (18, true)⟩, {}⟩, ⟨⟨some 32, (.fadr 1 (.t 9)), some (31, false)⟩, {}⟩, ⟨⟨some 33, (.load false 1 (.t 32)), some (31, false)⟩, {}⟩, ⟨⟨some 34, (.mov (.t 3)), some (31, false)⟩, {}⟩, ⟨⟨some 35, (.bin .eql (.t 33) (.t 34)), some (31, false)⟩, {}⟩, ⟨⟨some 36, (.mov (.t 35)), some (31, false)⟩,
  {}⟩, ⟨⟨some 37, (.mov (.t 1)), some (36, true)⟩, {}⟩, ⟨⟨some 38, (.mov (.t 2)), some (36, true)⟩, {}⟩, ⟨⟨some 39, (.iadrS 2 (.t 37) (.t 38)), some (36, true)⟩, {}⟩, ⟨⟨some 40, (.fadr 0 (.t 39)), some (36, true)⟩, {}⟩, ⟨⟨some 41, (.load false 1 (.t 40)), some (36, true)⟩, {}⟩, ⟨⟨some 42, (.bin .lss
  (.t 41) (.c (I 0))), some (36, true)⟩, {}⟩, ⟨⟨some 43, (.pick (.t 36) (.t 42) (.c (B false))), some (31, false)⟩, {}⟩, ⟨⟨some 44, (.pick (.t 31) (.c (B true)) (.t 43)), some (18, true)⟩, {}⟩, ⟨⟨some 45, (.pick (.t 18) (.t 44) (.c (B false))), none⟩, {}⟩, ⟨⟨some 8, (.mov (.t 45)), none⟩, {}⟩] none)
  ref35_in_C4)
def ref35_in_C2 : TC := (.seq (.rg [⟨⟨some 10, (.fadr 1 (.t 4)), none⟩, {}⟩, ⟨⟨some 11, (.load false 1 (.t 10)), none⟩, {}⟩, ⟨⟨some 12, (.mov (.t 2)), none⟩, {}⟩, ⟨⟨some 13, (.iadrS 10 (.t 11) (.t 12)), none⟩, {}⟩, ⟨⟨some 14, (.load true 10 (.t 13)), none⟩, {}⟩, ⟨⟨some 9, (.alloc [(I 0), (I 0), (I 0), (I 0), (B false), (B
  false), (I 0), (I 0), (I 0), (I 0)]), none⟩, {}⟩, ⟨⟨none, (.store 10 (.t 9) (.t 14)), none⟩, {}⟩] none) ref35_in_C3)
def ref35_in_C1 : TC := (.seq (.rg [⟨⟨some 4, (.box (.t 0)), none⟩, {}⟩, ⟨⟨some 8, (.mov (.c (B false))), none⟩, {}⟩] none) ref35_in_C2)
def ref35_in_E (N : Nat) : List (Nat × Ent) := []
def ref35_in (N : Nat) (a0 : T_Mine) (a1 : List T_Span) (a2 : Int) (a3 : Int) : Option Bool :=
  bif inB a2 a0.2.length then
  let v1 := a0.2.getD a2.toNat D_Road
  bif (!v1.2.2.2.2.2.1) then
    bif (v1.1 == a3) then
      bif inB a2 a1.length then
      bif (decide ((a1.getD a2.toNat D_Span).2 > 0)) then
        some true
      else
        bif (v1.2.1 == a3) then
          bif inB a2 a1.length then
          some (decide ((a1.getD a2.toNat D_Span).1 < 0))
          else none
        else
          some false
      else none
    else
      bif (v1.2.1 == a3) then
        bif inB a2 a1.length then
        some (decide ((a1.getD a2.toNat D_Span).1 < 0))
        else none
      else
        some false
  else
    some false
  else none
theorem ref35_in_fn : FnOK Try.prog 65 46 (fun _ : Nat => false) ref35_in_C1.er [(.t 8)] := FnOK.mk' Try.func65 (by kernel_rfl) (by kernel_rfl) (by kernel_rfl) (by kernel_rfl) (by kernel_rfl)
theorem ref35_in_envok (N : Nat) : EnvOK Try.prog (ref35_in_E N) := .nil
theorem ref35_in_pure (N : Nat) : PureOK Try.prog 65 [G_Mine, (.list G_Span), (.int .i64), (.int .i64)] [.bool] (fun x => ref35_in N x.1 x.2.1 x.2.2.1 x.2.2.2) := pureOK (N := N) mixed ref35_in_fn (ref35_in_envok N) rfl (fun x => by kernel_rfl)
/-! ref35_feeds -/
def ref35_feeds_N1 : List NS := [.wk 1 (.list G_Span), .keep [1, 2, 3, 4, 9], .cmp]
def ref35_feeds_C4 : TC := (.cond (.t 14) .skip (.exit 0))
def ref35_feeds_C11 : TC := .ret
def ref35_feeds_C8 : TC := (.cond (.t 37) (.seq (.rg [⟨⟨some 8, (.mov (.c (B true))), none⟩, {}⟩] none) ref35_feeds_C11) .skip)
def ref35_feeds_C9 : TC := (.rg [⟨⟨some 15, (.mov (.t 9)), none⟩, {}⟩, ⟨⟨some 16, (.bin .add (.t 15) (.c (I 1))), none⟩, {}⟩, ⟨⟨some 9, (.mov (.t 16)), none⟩, {}⟩] none)
def ref35_feeds_C5 : TC := (.seq (.block 1 (.seq (.rg [⟨⟨some 17, (.fadr 0 (.t 4)), none⟩, {}⟩, ⟨⟨some 18, (.load false 1 (.t 17)), none⟩, {}⟩, ⟨⟨some 19, (.mov (.t 9)), none⟩, {}⟩, ⟨⟨some 20, (.iadrS 2 (.t 18) (.t 19)), none⟩, {}⟩, ⟨⟨some 21, (.fadr 1 (.t 20)), none⟩, {}⟩, ⟨⟨some 22, (.load false 1 (.t 21)), none⟩, {}⟩,
  ⟨⟨some 23, (.un .not (.t 22)), none⟩, {}⟩, ⟨⟨some 24, (.mov (.t 23)), none⟩, {}⟩, ⟨⟨some 25, (.load true 2 (.t 4)), some (24, true)⟩, {}⟩, ⟨⟨some 26, (.mov (.t 1)), some (24, true)⟩, {}⟩, ⟨⟨some 27, (.mov (.t 2)), some (24, true)⟩, {}⟩, ⟨⟨some 28, (.mov (.t 9)), some (24, true)⟩, {}⟩, ⟨⟨some 29,
  (.call (.c (.fn 64 [])) [(.t 25), (.t 26), (.t 27), (.t 28)]), some (24, true)⟩, {}⟩, ⟨⟨some 30, (.pick (.t 24) (.t 29) (.c (B false))), none⟩, {}⟩, ⟨⟨some 31, (.mov (.t 30)), none⟩, {}⟩, ⟨⟨some 32, (.load true 2 (.t 4)), some (31, true)⟩, {}⟩, ⟨⟨some 33, (.mov (.t 1)), some (31, true)⟩, {}⟩,
  ⟨⟨some 34, (.mov (.t 3)), some (31, true)⟩, {}⟩, ⟨⟨some 35, (.mov (.t 9)), some (31, true)⟩, {}⟩, ⟨⟨some 36, (.call (.c (.fn 65 [])) [(.t 32), (.t 33), (.t 34), (.t 35)]), some (31, true)⟩, {}⟩, ⟨⟨some 37, (.pick (.t 31) (.t 36) (.c (B false))), none⟩, {}⟩] none) ref35_feeds_C8)) ref35_feeds_C9)
def ref35_feeds_C1 : TC := (.seq (.seq (.rg [⟨⟨some 10, (.mov (.t 9)), none⟩, {}⟩, ⟨⟨some 11, (.fadr 0 (.t 4)), none⟩, {}⟩, ⟨⟨some 12, (.load false 1 (.t 11)), none⟩, {}⟩, ⟨⟨some 13, (.len (.t 12)), none⟩, {}⟩, ⟨⟨some 14, (.bin .lss (.t 10) (.t 13)), none⟩, {}⟩] none) ref35_feeds_C4) ref35_feeds_C5)
def ref35_feeds_C6 : TC := .ret
def ref35_feeds_C2 : TC := (.seq (.rg [⟨⟨some 8, (.mov (.c (B false))), none⟩, {}⟩] none) ref35_feeds_C6)
def ref35_feeds_C10 : TC := (.block 0 (.loop ref35_feeds_N1 ref35_feeds_C1))
def ref35_feeds_C7 : TC := (.seq (.seq (.rg [⟨⟨some 9, (.mov (.c (I 0))), none⟩, {}⟩] none) ref35_feeds_C10) ref35_feeds_C2)
def ref35_feeds_C3 : TC := (.seq (.rg [⟨⟨some 4, (.box (.t 0)), none⟩, {}⟩, ⟨⟨some 8, (.mov (.c (B false))), none⟩, {}⟩] none) ref35_feeds_C7)
def ref35_feeds_E (N : Nat) : List (Nat × Ent) := [(64, pureE [G_Mine, (.list G_Span), (.int .i64), (.int .i64)] [.bool] (fun x => ref35_out N x.1 x.2.1 x.2.2.1 x.2.2.2)), (65, pureE [G_Mine, (.list G_Span), (.int .i64), (.int .i64)] [.bool] (fun x => ref35_in N x.1 x.2.1 x.2.2.1 x.2.2.2))]
def ref35_feeds_L1 (N : Nat) (n : Nat) (x1 : List T_Span) (x2 : Int) (x3 : Int) (x4 : Int) (x5 : List T_Place) (x6 : List T_Road) : Option Bool := loopN (normI 0 ref35_feeds_N1) (run (ref35_feeds_E N) N 0 ref35_feeds_C1) n ⟨[(1, .lst false G_Span x1), (2, .int .i64 x2), (3, .int .i64 x3), (4, .ptr 0 0 0), (9, .int .i64 x4)], [some (.box 0 [.lst false G_Place x5, .lst false G_Road x6])]⟩ (blkK 0 (seqK (run (ref35_feeds_E N) N 0 ref35_feeds_C2) (fin [(.t 8)] [.bool])))
theorem ref35_feeds_L1_zero (N : Nat) (x1 : List T_Span) (x2 : Int) (x3 : Int) (x4 : Int) (x5 : List T_Place) (x6 : List T_Road) : ref35_feeds_L1 N 0 x1 x2 x3 x4 x5 x6 = none := rfl
theorem ref35_feeds_L1_succ (N : Nat) (n1 : Nat) (x1 : List T_Span) (x2 : Int) (x3 : Int) (x4 : Int) (x5 : List T_Place) (x6 : List T_Road) : ref35_feeds_L1 N (n1 + 1) x1 x2 x3 x4 x5 x6 =
  bif (decide (x4 < (x5.length : Int))) then
    bif inB x4 x5.length then
    bif (!(x5.getD x4.toNat D_Place).2) then
      Option.bind (ref35_out N (x5, x6) x1 x2 x4) fun r8 =>
      bif r8 then
        Option.bind (ref35_in N (x5, x6) x1 x3 x4) fun r9 =>
        bif r9 then
          some true
        else
          ref35_feeds_L1 N n1 x1 x2 x3 (W (x4 + 1)) x5 x6
      else
        ref35_feeds_L1 N n1 x1 x2 x3 (W (x4 + 1)) x5 x6
    else
      ref35_feeds_L1 N n1 x1 x2 x3 (W (x4 + 1)) x5 x6
    else none
  else
    some false := by kernel_rfl
def ref35_feeds (N : Nat) (a0 : T_Mine) (a1 : List T_Span) (a2 : Int) (a3 : Int) : Option Bool :=
  ref35_feeds_L1 N N a1 a2 a3 0 a0.1 a0.2
theorem ref35_feeds_fn : FnOK Try.prog 60 38 (fun _ : Nat => false) ref35_feeds_C3.er [(.t 8)] := FnOK.mk' Try.func60 (by kernel_rfl) (by kernel_rfl) (by kernel_rfl) (by kernel_rfl) (by kernel_rfl)
theorem ref35_feeds_envok (N : Nat) : EnvOK Try.prog (ref35_feeds_E N) := .cons (pureE_ok (ref35_out_pure N)) (.cons (pureE_ok (ref35_in_pure N)) (.nil))
theorem ref35_feeds_pure (N : Nat) : PureOK Try.prog 60 [G_Mine, (.list G_Span), (.int .i64), (.int .i64)] [.bool] (fun x => ref35_feeds N x.1 x.2.1 x.2.2.1 x.2.2.2) := pureOK (N := N) mixed ref35_feeds_fn (ref35_feeds_envok N) rfl (fun x => by kernel_rfl)
/-! ref35_Sources -/
def ref35_Sources_N1 : List NS := [.wk 1 (.list G_Span), .wk 7 (.list .bool), .keep [1, 2, 3, 7, 8], .cmp]
def ref35_Sources_N2 : List NS := [.wk 1 (.list G_Span), .wk 7 (.list .bool), .keep [1, 2, 3, 7, 8, 9], .cmp]
def ref35_Sources_N3 : List NS := [.wk 1 (.list G_Span), .wk 7 (.list .bool), .keep [1, 2, 3, 7, 8, 9, 10], .cmp]
def ref35_Sources_N4 : List NS := [.own 11 (.int .i64), .wk 7 (.list .bool), .keep [7, 11, 12], .cmp]
def ref35_Sources_C10 : TC := (.cond (.t 45) .skip (.exit 4))
def ref35_Sources_C22 : TC := (.cond (.t 63) (.rg [⟨⟨some 64, (.mov (.t 7)), none⟩, {}⟩, ⟨⟨some 65, (.mov (.t 9)), none⟩, {}⟩, ⟨⟨some 66, (.iadrS 1 (.t 64) (.t 65)), none⟩, {}⟩, ⟨⟨none, (.store 1 (.t 66) (.c (B true))), none⟩, {}⟩, ⟨⟨some 8, (.mov (.c (B true))), none⟩, {}⟩] none) .skip)
def ref35_Sources_C23 : TC := (.rg [⟨⟨some 46, (.mov (.t 10)), none⟩, {}⟩, ⟨⟨some 47, (.bin .add (.t 46) (.c (I 1))), none⟩, {}⟩, ⟨⟨some 10, (.mov (.t 47)), none⟩, {}⟩] none)
def ref35_Sources_C11 : TC := (.seq (.block 5 (.seq (.rg [⟨⟨some 48, (.mov (.t 10)), none⟩, {}⟩, ⟨⟨some 49, (.mov (.t 2)), none⟩, {}⟩, ⟨⟨some 50, (.bin .eql (.t 48) (.t 49)), none⟩, {}⟩, ⟨⟨some 51, (.mov (.t 50)), none⟩, {}⟩, ⟨⟨some 52, (.mov (.t 7)), some (51, false)⟩, {}⟩, ⟨⟨some 53, (.mov (.t 10)), some (51, false)⟩, {}⟩,
  ⟨⟨some 54, (.iadrS 1 (.t 52) (.t 53)), some (51, false)⟩, {}⟩, ⟨⟨some 55, (.load false 1 (.t 54)), some (51, false)⟩, {}⟩, ⟨⟨some 56, (.pick (.t 51) (.c (B true)) (.t 55)), none⟩, {}⟩, ⟨⟨some 57, (.mov (.t 56)), none⟩, {}⟩, ⟨⟨some 58, (.load true 2 (.t 3)), some (57, true)⟩, {}⟩, ⟨⟨some 59, (.mov
  (.t 1)), some (57, true)⟩, {}⟩, ⟨⟨some 60, (.mov (.t 9)), some (57, true)⟩, {}⟩, ⟨⟨some 61, (.mov (.t 10)), some (57, true)⟩, {}⟩, ⟨⟨some 62, (.call (.c (.fn 60 [])) [(.t 58), (.t 59), (.t 60), (.t 61)]), some (57, true)⟩, {}⟩, ⟨⟨some 63, (.pick (.t 57) (.t 62) (.c (B false))), none⟩, {}⟩] none)
  ref35_Sources_C22)) ref35_Sources_C23)
def ref35_Sources_C1 : TC := (.seq (.seq (.rg [⟨⟨some 34, (.mov (.t 10)), none⟩, {}⟩, ⟨⟨some 35, (.fadr 1 (.t 3)), none⟩, {}⟩, ⟨⟨some 36, (.load false 1 (.t 35)), none⟩, {}⟩, ⟨⟨some 37, (.len (.t 36)), none⟩, {}⟩, ⟨⟨some 38, (.bin .lss (.t 34) (.t 37)), none⟩, {}⟩, ⟨⟨some 39, (.mov (.t 38)), none⟩, {}⟩, ⟨⟨some 40, (.mov (.t 7)),
  some (39, true)⟩, {}⟩, ⟨⟨some 41, (.mov (.t 9)), some (39, true)⟩, {}⟩, ⟨⟨some 42, (.iadrS 1 (.t 40) (.t 41)), some (39, true)⟩, {}⟩, ⟨⟨some 43, (.load false 1 (.t 42)), some (39, true)⟩, {}⟩, ⟨⟨some 44, (.un .not (.t 43)), some (39, true)⟩, {}⟩, ⟨⟨some 45, (.pick (.t 39) (.t 44) (.c (B false))),
  none⟩, {}⟩] none) ref35_Sources_C10) ref35_Sources_C11)
def ref35_Sources_C2 : TC := (.rg [⟨⟨some 32, (.mov (.t 9)), none⟩, {}⟩, ⟨⟨some 33, (.bin .add (.t 32) (.c (I 1))), none⟩, {}⟩, ⟨⟨some 9, (.mov (.t 33)), none⟩, {}⟩] none)
def ref35_Sources_C12 : TC := (.cond (.t 31) .skip (.exit 2))
def ref35_Sources_C24 : TC := (.block 4 (.loop ref35_Sources_N3 ref35_Sources_C1))
def ref35_Sources_C13 : TC := (.seq (.block 3 (.seq (.rg [⟨⟨some 10, (.mov (.c (I 0))), none⟩, {}⟩] none) ref35_Sources_C24)) ref35_Sources_C2)
def ref35_Sources_C3 : TC := (.seq (.seq (.rg [⟨⟨some 27, (.mov (.t 9)), none⟩, {}⟩, ⟨⟨some 28, (.fadr 1 (.t 3)), none⟩, {}⟩, ⟨⟨some 29, (.load false 1 (.t 28)), none⟩, {}⟩, ⟨⟨some 30, (.len (.t 29)), none⟩, {}⟩, ⟨⟨some 31, (.bin .lss (.t 27) (.t 30)), none⟩, {}⟩] none) ref35_Sources_C12) ref35_Sources_C13)
def ref35_Sources_C14 : TC := (.cond (.t 26) .skip (.exit 0))
def ref35_Sources_C33 : TC := (.block 2 (.loop ref35_Sources_N2 ref35_Sources_C3))
def ref35_Sources_C25 : TC := (.seq (.rg [⟨⟨some 9, (.mov (.c (I 0))), none⟩, {}⟩] none) ref35_Sources_C33)
def ref35_Sources_C15 : TC := (.block 1 (.seq (.rg [⟨⟨some 8, (.mov (.c (B false))), none⟩, {}⟩] none) ref35_Sources_C25))
def ref35_Sources_C4 : TC := (.seq (.seq (.rg [⟨⟨some 26, (.mov (.t 8)), none⟩, {}⟩] none) ref35_Sources_C14) ref35_Sources_C15)
def ref35_Sources_C17 : TC := (.cond (.t 70) .skip (.exit 6))
def ref35_Sources_C27 : TC := (.cond (.t 76) (.rg [⟨⟨some 77, (.mov (.t 11)), none⟩, {}⟩, ⟨⟨some 78, (.mov (.t 12)), none⟩, {}⟩, ⟨⟨some 79, (.bslice false 1 [(I 0)] 1 [(0, (.t 78))]), none⟩, ⟨(.int .i64), none⟩⟩, ⟨⟨some 80, (.app 1 8 (.t 77) (.t 79)), none⟩, {}⟩, ⟨⟨some 11, (.mov (.t 80)), none⟩, {}⟩] none) .skip)
def ref35_Sources_C28 : TC := (.rg [⟨⟨some 71, (.mov (.t 12)), none⟩, {}⟩, ⟨⟨some 72, (.bin .add (.t 71) (.c (I 1))), none⟩, {}⟩, ⟨⟨some 12, (.mov (.t 72)), none⟩, {}⟩] none)
def ref35_Sources_C18 : TC := (.seq (.block 7 (.seq (.rg [⟨⟨some 73, (.mov (.t 7)), none⟩, {}⟩, ⟨⟨some 74, (.mov (.t 12)), none⟩, {}⟩, ⟨⟨some 75, (.iadrS 1 (.t 73) (.t 74)), none⟩, {}⟩, ⟨⟨some 76, (.load false 1 (.t 75)), none⟩, {}⟩] none) ref35_Sources_C27)) ref35_Sources_C28)
def ref35_Sources_C6 : TC := (.seq (.seq (.rg [⟨⟨some 67, (.mov (.t 12)), none⟩, {}⟩, ⟨⟨some 68, (.mov (.t 7)), none⟩, {}⟩, ⟨⟨some 69, (.len (.t 68)), none⟩, {}⟩, ⟨⟨some 70, (.bin .lss (.t 67) (.t 69)), none⟩, {}⟩] none) ref35_Sources_C17) ref35_Sources_C18)
def ref35_Sources_C26 : TC := (.block 6 (.loop ref35_Sources_N4 ref35_Sources_C6))
def ref35_Sources_C34 : TC := .ret
def ref35_Sources_C29 : TC := (.pre [.frz 6] ref35_Sources_C34)
def ref35_Sources_C19 : TC := (.seq (.rg [⟨⟨some 81, (.mov (.t 11)), none⟩, {}⟩, ⟨⟨some 6, (.mov (.t 81)), none⟩, {}⟩] none) ref35_Sources_C29)
def ref35_Sources_C7 : TC := (.pre [.frz 11] ref35_Sources_C19)
def ref35_Sources_C16 : TC := (.seq (.seq (.rg [⟨⟨some 12, (.mov (.c (I 0))), none⟩, {}⟩] none) ref35_Sources_C26) ref35_Sources_C7)
def ref35_Sources_C5 : TC := (.seq (.rg [⟨⟨some 11, (.mov (.c (.lst true []))), none⟩, {}⟩] none) ref35_Sources_C16)
def ref35_Sources_C30 : TC := (.block 0 (.loop ref35_Sources_N1 ref35_Sources_C4))
def ref35_Sources_C20 : TC := (.seq (.seq (.rg [⟨⟨some 8, (.mov (.c (B true))), none⟩, {}⟩] none) ref35_Sources_C30) ref35_Sources_C5)
def ref35_Sources_C8 : TC := (.seq (.rg [⟨⟨some 22, (.fadr 1 (.t 3)), none⟩, {}⟩, ⟨⟨some 23, (.load false 1 (.t 22)), none⟩, {}⟩, ⟨⟨some 24, (.len (.t 23)), none⟩, {}⟩, ⟨⟨some 25, (.mksl 1 1 [(B false)] (.t 24) (.t 24)), none⟩, ⟨.bool, none⟩⟩, ⟨⟨some 7, (.mov (.t 25)), none⟩, {}⟩] none) ref35_Sources_C20)
def ref35_Sources_C36 : TC := .ret
def ref35_Sources_C35 : TC := (.pre [.frz 6] ref35_Sources_C36)
def ref35_Sources_C31 : TC := (.cond (.t 21) (.seq (.rg [⟨⟨some 6, (.mov (.c (.lst true []))), none⟩, {}⟩] none) ref35_Sources_C35) .skip)
def ref35_Sources_C32 : TC := (.join [.wk 1 (.list G_Span), .keep [1, 2, 3], .cmp] ref35_Sources_C8)
def ref35_Sources_C21 : TC := (.seq (.seq (.rg [⟨⟨some 13, (.mov (.t 2)), none⟩, {}⟩, ⟨⟨some 14, (.bin .lss (.t 13) (.c (I 0))), none⟩, {}⟩, ⟨⟨some 15, (.mov (.t 14)), none⟩, {}⟩, ⟨⟨some 16, (.mov (.t 2)), some (15, false)⟩, {}⟩, ⟨⟨some 17, (.fadr 1 (.t 3)), some (15, false)⟩, {}⟩, ⟨⟨some 18, (.load false 1 (.t 17)), some (15,
  false)⟩, {}⟩, ⟨⟨some 19, (.len (.t 18)), some (15, false)⟩, {}⟩, ⟨⟨some 20, (.bin .geq (.t 16) (.t 19)), some (15, false)⟩, {}⟩, ⟨⟨some 21, (.pick (.t 15) (.c (B true)) (.t 20)), none⟩, {}⟩] none) ref35_Sources_C31) ref35_Sources_C32)
def ref35_Sources_C9 : TC := (.seq (.rg [⟨⟨some 3, (.box (.t 0)), none⟩, {}⟩, ⟨⟨some 6, (.mov (.c (.lst true []))), none⟩, {}⟩] none) ref35_Sources_C21)
def ref35_Sources_E (N : Nat) : List (Nat × Ent) := [(60, pureE [G_Mine, (.list G_Span), (.int .i64), (.int .i64)] [.bool] (fun x => ref35_feeds N x.1 x.2.1 x.2.2.1 x.2.2.2))]
def ref35_Sources_L3 (N n2 n1 : Nat) (n : Nat) (x19 : List T_Span) (x20 : Int) (x21 : Bool) (x22 : Int) (x23 : Int) (x24 : List T_Place) (x25 : List T_Road) (x26 : List Bool) : Option (List Int) := loopN (normI 0 ref35_Sources_N3) (run (ref35_Sources_E N) N 0 ref35_Sources_C1) n ⟨[(1, .lst false G_Span x19), (2, .int .i64 x20), (3, .ptr 0 0 0), (7, .whole 1), (8, .bool x21), (9, .int .i64 x22), (10, .int .i64 x23)], [some (.box 0 [.lst false G_Place x24, .lst false G_Road x25]), some (.arr .bool x26)]⟩ (blkK 4 (blkK 3 (seqK (run (ref35_Sources_E N) N 0 ref35_Sources_C2) (seqK (nextL (normI 0 ref35_Sources_N2) (loopN (normI 0 ref35_Sources_N2) (run (ref35_Sources_E N) N 0 ref35_Sources_C3) n2)) (blkK 2 (blkK 1 (seqK (nextL (normI 0 ref35_Sources_N1) (loopN (normI 0 ref35_Sources_N1) (run (ref35_Sources_E N) N 0 ref35_Sources_C4) n1)) (blkK 0 (seqK (run (ref35_Sources_E N) N 0 ref35_Sources_C5) (fin [(.t 6)] [(.list (.int .i64))]))))))))))
def ref35_Sources_L2 (N n1 : Nat) (n : Nat) (x12 : List T_Span) (x13 : Int) (x14 : Bool) (x15 : Int) (x16 : List T_Place) (x17 : List T_Road) (x18 : List Bool) : Option (List Int) := loopN (normI 0 ref35_Sources_N2) (run (ref35_Sources_E N) N 0 ref35_Sources_C3) n ⟨[(1, .lst false G_Span x12), (2, .int .i64 x13), (3, .ptr 0 0 0), (7, .whole 1), (8, .bool x14), (9, .int .i64 x15)], [some (.box 0 [.lst false G_Place x16, .lst false G_Road x17]), some (.arr .bool x18)]⟩ (blkK 2 (blkK 1 (seqK (nextL (normI 0 ref35_Sources_N1) (loopN (normI 0 ref35_Sources_N1) (run (ref35_Sources_E N) N 0 ref35_Sources_C4) n1)) (blkK 0 (seqK (run (ref35_Sources_E N) N 0 ref35_Sources_C5) (fin [(.t 6)] [(.list (.int .i64))]))))))
def ref35_Sources_L4 (N : Nat) (n : Nat) (x106 : Int) (x107 : List Bool) (x108 : List Int) : Option (List Int) := loopN (normI 0 ref35_Sources_N4) (run (ref35_Sources_E N) N 0 ref35_Sources_C6) n ⟨[(7, .whole 0), (11, .whole 1), (12, .int .i64 x106)], [some (.arr .bool x107), some (.arr (.int .i64) x108)]⟩ (blkK 6 (seqK (run (ref35_Sources_E N) N 0 ref35_Sources_C7) (fin [(.t 6)] [(.list (.int .i64))])))
def ref35_Sources_L1 (N : Nat) (n : Nat) (x6 : List T_Span) (x7 : Int) (x8 : Bool) (x9 : List T_Place) (x10 : List T_Road) (x11 : List Bool) : Option (List Int) := loopN (normI 0 ref35_Sources_N1) (run (ref35_Sources_E N) N 0 ref35_Sources_C4) n ⟨[(1, .lst false G_Span x6), (2, .int .i64 x7), (3, .ptr 0 0 0), (7, .whole 1), (8, .bool x8)], [some (.box 0 [.lst false G_Place x9, .lst false G_Road x10]), some (.arr .bool x11)]⟩ (blkK 0 (seqK (run (ref35_Sources_E N) N 0 ref35_Sources_C5) (fin [(.t 6)] [(.list (.int .i64))])))
def ref35_Sources_J1 (N : Nat) (x1 : List T_Span) (x2 : Int) (x3 : List T_Place) (x4 : List T_Road) : Option (List Int) := joinN (run (ref35_Sources_E N) N 0 ref35_Sources_C8) N ⟨[(1, .lst false G_Span x1), (2, .int .i64 x2), (3, .ptr 0 0 0)], [some (.box 0 [.lst false G_Place x3, .lst false G_Road x4])]⟩ (fin [(.t 6)] [(.list (.int .i64))])
theorem ref35_Sources_L3_zero (N n2 n1 : Nat) (x19 : List T_Span) (x20 : Int) (x21 : Bool) (x22 : Int) (x23 : Int) (x24 : List T_Place) (x25 : List T_Road) (x26 : List Bool) : ref35_Sources_L3 N n2 n1 0 x19 x20 x21 x22 x23 x24 x25 x26 = none := rfl
theorem ref35_Sources_L3_succ (N n2 n1 : Nat) (n3 : Nat) (x19 : List T_Span) (x20 : Int) (x21 : Bool) (x22 : Int) (x23 : Int) (x24 : List T_Place) (x25 : List T_Road) (x26 : List Bool) : ref35_Sources_L3 N n2 n1 (n3 + 1) x19 x20 x21 x22 x23 x24 x25 x26 =
  bif (decide (x23 < (x25.length : Int))) then
    bif inB x22 x26.length then
    bif (!(x26.getD x22.toNat false)) then
      bif (x23 == x20) then
        Option.bind (ref35_feeds N (x24, x25) x19 x22 x23) fun r27 =>
        bif r27 then
          bif inB x22 x26.length then
          ref35_Sources_L3 N n2 n1 n3 x19 x20 true x22 (W (x23 + 1)) x24 x25 (x26.set x22.toNat true)
          else none
        else
          ref35_Sources_L3 N n2 n1 n3 x19 x20 x21 x22 (W (x23 + 1)) x24 x25 x26
      else
        bif inB x23 x26.length then
        bif x26.getD x23.toNat false then
          Option.bind (ref35_feeds N (x24, x25) x19 x22 x23) fun r45 =>
          bif r45 then
            bif inB x22 x26.length then
            ref35_Sources_L3 N n2 n1 n3 x19 x20 true x22 (W (x23 + 1)) x24 x25 (x26.set x22.toNat true)
            else none
          else
            ref35_Sources_L3 N n2 n1 n3 x19 x20 x21 x22 (W (x23 + 1)) x24 x25 x26
        else
          ref35_Sources_L3 N n2 n1 n3 x19 x20 x21 x22 (W (x23 + 1)) x24 x25 x26
        else none
    else
      ref35_Sources_L2 N n1 n2 x19 x20 x21 (W (x22 + 1)) x24 x25 x26
    else none
  else
    ref35_Sources_L2 N n1 n2 x19 x20 x21 (W (x22 + 1)) x24 x25 x26 := by kernel_rfl
theorem ref35_Sources_L2_zero (N n1 : Nat) (x12 : List T_Span) (x13 : Int) (x14 : Bool) (x15 : Int) (x16 : List T_Place) (x17 : List T_Road) (x18 : List Bool) : ref35_Sources_L2 N n1 0 x12 x13 x14 x15 x16 x17 x18 = none := rfl
theorem ref35_Sources_L2_succ (N n1 : Nat) (n2 : Nat) (x12 : List T_Span) (x13 : Int) (x14 : Bool) (x15 : Int) (x16 : List T_Place) (x17 : List T_Road) (x18 : List Bool) : ref35_Sources_L2 N n1 (n2 + 1) x12 x13 x14 x15 x16 x17 x18 =
  bif (decide (x15 < (x17.length : Int))) then
    ref35_Sources_L3 N n2 n1 N x12 x13 x14 x15 0 x16 x17 x18
  else
    ref35_Sources_L1 N n1 x12 x13 x14 x16 x17 x18 := by kernel_rfl
theorem ref35_Sources_L4_zero (N : Nat) (x106 : Int) (x107 : List Bool) (x108 : List Int) : ref35_Sources_L4 N 0 x106 x107 x108 = none := rfl
theorem ref35_Sources_L4_succ (N : Nat) (n4 : Nat) (x106 : Int) (x107 : List Bool) (x108 : List Int) : ref35_Sources_L4 N (n4 + 1) x106 x107 x108 =
  bif (decide (x106 < (x107.length : Int))) then
    bif inB x106 x107.length then
    bif (x107.getD x106.toNat false) then
      bif fitsB (x108.length + 1) 8 then
      ref35_Sources_L4 N n4 (W (x106 + 1)) x107 (x108 ++ [x106])
      else none
    else
      ref35_Sources_L4 N n4 (W (x106 + 1)) x107 x108
    else none
  else
    some x108 := by kernel_rfl
theorem ref35_Sources_L1_zero (N : Nat) (x6 : List T_Span) (x7 : Int) (x8 : Bool) (x9 : List T_Place) (x10 : List T_Road) (x11 : List Bool) : ref35_Sources_L1 N 0 x6 x7 x8 x9 x10 x11 = none := rfl
theorem ref35_Sources_L1_succ (N : Nat) (n1 : Nat) (x6 : List T_Span) (x7 : Int) (x8 : Bool) (x9 : List T_Place) (x10 : List T_Road) (x11 : List Bool) : ref35_Sources_L1 N (n1 + 1) x6 x7 x8 x9 x10 x11 =
  bif x8 then
    ref35_Sources_L2 N n1 N x6 x7 false 0 x9 x10 x11
  else
    ref35_Sources_L4 N N 0 x11 [] := by kernel_rfl
theorem ref35_Sources_J1_eq (N : Nat) (x1 : List T_Span) (x2 : Int) (x3 : List T_Place) (x4 : List T_Road) : ref35_Sources_J1 (N + 1) x1 x2 x3 x4 =
  bif mkB 1 (x4.length : Int) (x4.length : Int) then
  ref35_Sources_L1 (N + 1) (N + 1) x1 x2 true x3 x4 (List.replicate (x4.length : Int).toNat false)
  else none := by kernel_rfl
def ref35_Sources (N : Nat) (a0 : T_Mine) (a1 : List T_Span) (a2 : Int) : Option (List Int) :=
  bif (decide (a2 < 0)) then
    some []
  else
    bif (decide (a2 ≥ (a0.2.length : Int))) then
      some []
    else
      ref35_Sources_J1 N a1 a2 a0.1 a0.2
theorem ref35_Sources_fn : FnOK Try.prog 46 82 (fun _ : Nat => false) ref35_Sources_C9.er [(.t 6)] := FnOK.mk' Try.func46 (by kernel_rfl) (by kernel_rfl) (by kernel_rfl) (by kernel_rfl) (by kernel_rfl)
theorem ref35_Sources_envok (N : Nat) : EnvOK Try.prog (ref35_Sources_E N) := .cons (pureE_ok (ref35_feeds_pure N)) (.nil)
theorem ref35_Sources_pure (N : Nat) : PureOK Try.prog 46 [G_Mine, (.list G_Span), (.int .i64)] [(.list (.int .i64))] (fun x => ref35_Sources N x.1 x.2.1 x.2.2) := pureOK (N := N) mixed ref35_Sources_fn (ref35_Sources_envok N) rfl (fun x => by kernel_rfl)
/-! ref35_sure -/
def ref35_sure_C5 : TC := .ret
def ref35_sure_C3 : TC := (.cond (.t 12) (.seq (.rg [⟨⟨some 6, (.mov (.c (I 0))), none⟩, {}⟩] none) ref35_sure_C5) .skip)
def ref35_sure_C6 : TC := .ret
def ref35_sure_C4 : TC := (.seq (.rg [⟨⟨some 13, (.mov (.t 1)), none⟩, {}⟩, ⟨⟨some 14, (.mov (.t 2)), none⟩, {}⟩, ⟨⟨some 15, (.iadrS 2 (.t 13) (.t 14)), none⟩, {}⟩, ⟨⟨some 16, (.fadr 0 (.t 15)), none⟩, {}⟩, ⟨⟨some 17, (.load false 1 (.t 16)), none⟩, {}⟩, ⟨⟨some 18, (.mov (.t 1)), none⟩, {}⟩, ⟨⟨some 19, (.mov (.t 2)), none⟩,
  {}⟩, ⟨⟨some 20, (.iadrS 2 (.t 18) (.t 19)), none⟩, {}⟩, ⟨⟨some 21, (.fadr 1 (.t 20)), none⟩, {}⟩, ⟨⟨some 22, (.load false 1 (.t 21)), none⟩, {}⟩, ⟨⟨some 23, (.un .neg (.t 22)), none⟩, {}⟩, ⟨⟨some 24, (.mm true [(.c (I 0)), (.t 17), (.t 23)]), none⟩, {}⟩, ⟨⟨some 25, (.mm false [(.t 24), (.c (I
  1048576))]), none⟩, {}⟩, ⟨⟨some 6, (.mov (.t 25)), none⟩, {}⟩] (some [])) ref35_sure_C6)
def ref35_sure_C2 : TC := (.seq (.seq (.rg [⟨⟨some 7, (.fadr 1 (.t 3)), none⟩, {}⟩, ⟨⟨some 8, (.load false 1 (.t 7)), none⟩, {}⟩, ⟨⟨some 9, (.mov (.t 2)), none⟩, {}⟩, ⟨⟨some 10, (.iadrS 10 (.t 8) (.t 9)), none⟩, {}⟩, ⟨⟨some 11, (.fadr 5 (.t 10)), none⟩, {}⟩, ⟨⟨some 12, (.load false 1 (.t 11)), none⟩, {}⟩] none) ref35_sure_C3)
  ref35_sure_C4)
def ref35_sure_C1 : TC := (.seq (.rg [⟨⟨some 3, (.box (.t 0)), none⟩, {}⟩, ⟨⟨some 6, (.mov (.c (I 0))), none⟩, {}⟩] none) ref35_sure_C2)
def ref35_sure_E (N : Nat) : List (Nat × Ent) := []
def ref35_sure (N : Nat) (a0 : T_Mine) (a1 : List T_Span) (a2 : Int) : Option Int :=
  bif inB a2 a0.2.length then
  bif (a0.2.getD a2.toNat D_Road).2.2.2.2.2.1 then
    some 0
  else
    bif inB a2 a1.length then
    bif inB a2 a1.length then
    some (min (max (max 0 (a1.getD a2.toNat D_Span).1) (W (0 - (a1.getD a2.toNat D_Span).2))) 1048576)
    else none
    else none
  else none
theorem ref35_sure_fn : FnOK Try.prog 47 26 (fun _ : Nat => false) ref35_sure_C1.er [(.t 6)] := FnOK.mk' Try.func47 (by kernel_rfl) (by kernel_rfl) (by kernel_rfl) (by kernel_rfl) (by kernel_rfl)
theorem ref35_sure_envok (N : Nat) : EnvOK Try.prog (ref35_sure_E N) := .nil
theorem ref35_sure_pure (N : Nat) : PureOK Try.prog 47 [G_Mine, (.list G_Span), (.int .i64)] [(.int .i64)] (fun x => ref35_sure N x.1 x.2.1 x.2.2) := pureOK (N := N) mixed ref35_sure_fn (ref35_sure_envok N) rfl (fun x => by kernel_rfl)
/-! ref35_Step -/
def ref35_Step_N1 : List NS := [.ownc 10 1 (.int .i64), .wk 1 (.list G_Span), .keep [1, 3, 4, 6, 8, 10, 11], .cmp]
def ref35_Step_N2 : List NS := [.wk 1 (.list G_Span), .wk 13 (.list (.int .i64)), .keep [1, 3, 4, 6, 8, 10, 11, 12, 13, 14], .cmp]
def ref35_Step_C9 : TC := (.cond (.t 56) .skip (.exit 2))
def ref35_Step_C19 : TC := (.rg [⟨⟨some 57, (.mov (.t 14)), none⟩, {}⟩, ⟨⟨some 58, (.bin .add (.t 57) (.c (I 1))), none⟩, {}⟩, ⟨⟨some 14, (.mov (.t 58)), none⟩, {}⟩] none)
def ref35_Step_C10 : TC := (.seq (.block 3 (.rg [⟨⟨some 59, (.mov (.t 12)), none⟩, {}⟩, ⟨⟨some 60, (.fadr 1 (.t 6)), none⟩, {}⟩, ⟨⟨some 61, (.load false 1 (.t 60)), none⟩, {}⟩, ⟨⟨some 62, (.mov (.t 13)), none⟩, {}⟩, ⟨⟨some 63, (.mov (.t 14)), none⟩, {}⟩, ⟨⟨some 64, (.iadrS 1 (.t 62) (.t 63)), none⟩, {}⟩, ⟨⟨some 65, (.load
  false 1 (.t 64)), none⟩, {}⟩, ⟨⟨some 66, (.iadrS 1 (.t 61) (.t 65)), none⟩, {}⟩, ⟨⟨some 67, (.load false 1 (.t 66)), none⟩, {}⟩, ⟨⟨some 68, (.mm true [(.t 59), (.t 67)]), none⟩, {}⟩, ⟨⟨some 12, (.mov (.t 68)), none⟩, {}⟩] (some []))) ref35_Step_C19)
def ref35_Step_C1 : TC := (.seq (.seq (.rg [⟨⟨some 53, (.mov (.t 14)), none⟩, {}⟩, ⟨⟨some 54, (.mov (.t 13)), none⟩, {}⟩, ⟨⟨some 55, (.len (.t 54)), none⟩, {}⟩, ⟨⟨some 56, (.bin .lss (.t 53) (.t 55)), none⟩, {}⟩] none) ref35_Step_C9) ref35_Step_C10)
def ref35_Step_C33 : TC := (.rg [⟨⟨some 102, (.mov (.t 12)), none⟩, {}⟩, ⟨⟨some 103, (.mov (.t 15)), none⟩, {}⟩, ⟨⟨some 104, (.mov (.t 12)), none⟩, {}⟩, ⟨⟨some 105, (.bin .sub (.t 103) (.t 104)), none⟩, {}⟩, ⟨⟨some 106, (.mov (.t 16)), none⟩, {}⟩, ⟨⟨some 107, (.bin .mul (.t 105) (.t 106)), none⟩, {}⟩, ⟨⟨some 108, (.mov (.t
  17)), none⟩, {}⟩, ⟨⟨some 109, (.bin .add (.t 107) (.t 108)), none⟩, {}⟩, ⟨⟨some 110, (.bin .sub (.t 109) (.c (I 1))), none⟩, {}⟩, ⟨⟨some 111, (.mov (.t 17)), none⟩, {}⟩, ⟨⟨some 112, (.bin .quo (.t 110) (.t 111)), none⟩, {}⟩, ⟨⟨some 113, (.bin .add (.t 102) (.t 112)), none⟩, {}⟩, ⟨⟨some 15, (.mov
  (.t 113)), none⟩, {}⟩] none)
def ref35_Step_C27 : TC := (.seq (.rg [⟨⟨some 91, (.mov (.t 16)), none⟩, {}⟩, ⟨⟨some 92, (.load true 2 (.t 4)), none⟩, {}⟩, ⟨⟨some 93, (.mov (.t 1)), none⟩, {}⟩, ⟨⟨some 94, (.mov (.t 11)), none⟩, {}⟩, ⟨⟨some 95, (.call (.c (.fn 47 [])) [(.t 92), (.t 93), (.t 94)]), none⟩, {}⟩, ⟨⟨some 96, (.mov (.t 3)), none⟩, {}⟩, ⟨⟨some 97,
  (.fadr 0 (.t 6)), none⟩, {}⟩, ⟨⟨some 98, (.load false 1 (.t 97)), none⟩, {}⟩, ⟨⟨some 99, (.bin .sub (.t 96) (.t 98)), none⟩, {}⟩, ⟨⟨some 100, (.bin .mul (.t 95) (.t 99)), none⟩, {}⟩, ⟨⟨some 101, (.bin .add (.t 91) (.t 100)), none⟩, {}⟩, ⟨⟨some 17, (.mov (.t 101)), none⟩, {}⟩] (some [(4, 6), (4,
  7)])) ref35_Step_C33)
def ref35_Step_C20 : TC := (.cond (.t 76) (.seq (.rg [⟨⟨some 77, (.fadr 1 (.t 4)), none⟩, {}⟩, ⟨⟨some 78, (.load false 1 (.t 77)), none⟩, {}⟩, ⟨⟨some 79, (.mov (.t 11)), none⟩, {}⟩, ⟨⟨some 80, (.iadrS 10 (.t 78) (.t 79)), none⟩, {}⟩, ⟨⟨some 81, (.fadr 2 (.t 80)), none⟩, {}⟩, ⟨⟨some 82, (.load false 1 (.t 81)), none⟩, {}⟩,
  ⟨⟨some 83, (.fadr 1 (.t 4)), none⟩, {}⟩, ⟨⟨some 84, (.load false 1 (.t 83)), none⟩, {}⟩, ⟨⟨some 85, (.mov (.t 11)), none⟩, {}⟩, ⟨⟨some 86, (.iadrS 10 (.t 84) (.t 85)), none⟩, {}⟩, ⟨⟨some 87, (.fadr 3 (.t 86)), none⟩, {}⟩, ⟨⟨some 88, (.load false 1 (.t 87)), none⟩, {}⟩, ⟨⟨some 89, (.bin .mul (.t 82)
  (.t 88)), none⟩, {}⟩, ⟨⟨some 90, (.bin .mul (.t 89) (.c (I 1000))), none⟩, {}⟩, ⟨⟨some 16, (.mov (.t 90)), none⟩, {}⟩] (some [])) ref35_Step_C27) (.rg [⟨⟨some 114, (.mov (.t 12)), none⟩, {}⟩, ⟨⟨some 15, (.mov (.t 114)), none⟩, {}⟩] none))
def ref35_Step_C21 : TC := (.rg [⟨⟨some 115, (.fadr 1 (.t 10)), none⟩, {}⟩, ⟨⟨some 116, (.load false 1 (.t 115)), none⟩, {}⟩, ⟨⟨some 117, (.mov (.t 15)), none⟩, {}⟩, ⟨⟨some 118, (.bslice false 1 [(I 0)] 1 [(0, (.t 117))]), none⟩, ⟨(.int .i64), none⟩⟩, ⟨⟨some 119, (.app 1 8 (.t 116) (.t 118)), none⟩, {}⟩, ⟨⟨some 120, (.fadr 1
  (.t 10)), none⟩, {}⟩, ⟨⟨none, (.store 1 (.t 120) (.t 119)), none⟩, {}⟩] none)
def ref35_Step_C11 : TC := (.seq (.seq (.rg [⟨⟨some 74, (.mov (.t 15)), none⟩, {}⟩, ⟨⟨some 75, (.mov (.t 12)), none⟩, {}⟩, ⟨⟨some 76, (.bin .gtr (.t 74) (.t 75)), none⟩, {}⟩] none) ref35_Step_C20) ref35_Step_C21)
def ref35_Step_C2 : TC := (.seq (.rg [⟨⟨some 69, (.fadr 1 (.t 6)), none⟩, {}⟩, ⟨⟨some 70, (.load false 1 (.t 69)), none⟩, {}⟩, ⟨⟨some 71, (.mov (.t 11)), none⟩, {}⟩, ⟨⟨some 72, (.iadrS 1 (.t 70) (.t 71)), none⟩, {}⟩, ⟨⟨some 73, (.load false 1 (.t 72)), none⟩, {}⟩, ⟨⟨some 15, (.mov (.t 73)), none⟩, {}⟩] none) ref35_Step_C11)
def ref35_Step_C3 : TC := (.rg [⟨⟨some 47, (.mov (.t 11)), none⟩, {}⟩, ⟨⟨some 48, (.bin .add (.t 47) (.c (I 1))), none⟩, {}⟩, ⟨⟨some 11, (.mov (.t 48)), none⟩, {}⟩] none)
def ref35_Step_C12 : TC := (.cond (.t 46) .skip (.exit 0))
def ref35_Step_C34 : TC := (.block 2 (.loop ref35_Step_N2 ref35_Step_C1))
def ref35_Step_C28 : TC := (.seq (.seq (.rg [⟨⟨some 14, (.mov (.c (I 0))), none⟩, {}⟩] none) ref35_Step_C34) ref35_Step_C2)
def ref35_Step_C22 : TC := (.seq (.rg [⟨⟨some 49, (.load true 2 (.t 4)), none⟩, {}⟩, ⟨⟨some 50, (.mov (.t 1)), none⟩, {}⟩, ⟨⟨some 51, (.mov (.t 11)), none⟩, {}⟩, ⟨⟨some 52, (.call (.c (.fn 46 [])) [(.t 49), (.t 50), (.t 51)]), none⟩, {}⟩, ⟨⟨some 13, (.mov (.t 52)), none⟩, {}⟩] none) ref35_Step_C28)
def ref35_Step_C13 : TC := (.seq (.block 1 (.seq (.rg [⟨⟨some 12, (.mov (.c (I 0))), none⟩, {}⟩] none) ref35_Step_C22)) ref35_Step_C3)
def ref35_Step_C4 : TC := (.seq (.seq (.rg [⟨⟨some 42, (.mov (.t 11)), none⟩, {}⟩, ⟨⟨some 43, (.fadr 1 (.t 4)), none⟩, {}⟩, ⟨⟨some 44, (.load false 1 (.t 43)), none⟩, {}⟩, ⟨⟨some 45, (.len (.t 44)), none⟩, {}⟩, ⟨⟨some 46, (.bin .lss (.t 42) (.t 45)), none⟩, {}⟩] none) ref35_Step_C12) ref35_Step_C13)
def ref35_Step_C29 : TC := .ret
def ref35_Step_C23 : TC := (.pre [.frzb 8] ref35_Step_C29)
def ref35_Step_C14 : TC := (.seq (.rg [⟨⟨some 121, (.load true 2 (.t 10)), none⟩, {}⟩, ⟨⟨none, (.store 2 (.t 8) (.t 121)), none⟩, {}⟩, ⟨⟨some 9, (.mov (.c (I 0))), none⟩, {}⟩] none) ref35_Step_C23)
def ref35_Step_C5 : TC := (.pre [.frzb 10] ref35_Step_C14)
def ref35_Step_C24 : TC := (.block 0 (.loop ref35_Step_N1 ref35_Step_C4))
def ref35_Step_C15 : TC := (.seq (.seq (.rg [⟨⟨some 11, (.mov (.c (I 0))), none⟩, {}⟩] none) ref35_Step_C24) ref35_Step_C5)
def ref35_Step_C6 : TC := (.seq (.rg [⟨⟨some 40, (.mov (.t 3)), none⟩, {}⟩, ⟨⟨some 41, (.build [(I 0), (.lst true [])] [(0, (1, (.t 40)))]), none⟩, {}⟩, ⟨⟨some 10, (.alloc [(I 0), (.lst true [])]), none⟩, {}⟩, ⟨⟨none, (.store 2 (.t 10) (.t 41)), none⟩, {}⟩] none) ref35_Step_C15)
def ref35_Step_C30 : TC := .ret
def ref35_Step_C25 : TC := (.pre [.frzb 8] ref35_Step_C30)
def ref35_Step_C16 : TC := (.cond (.t 38) (.seq (.rg [⟨⟨some 39, (.load true 2 (.t 6)), none⟩, {}⟩, ⟨⟨none, (.store 2 (.t 8) (.t 39)), none⟩, {}⟩, ⟨⟨some 9, (.mov (.c (I 8))), none⟩, {}⟩] none) ref35_Step_C25) .skip)
def ref35_Step_C17 : TC := (.join [.wk 1 (.list G_Span), .keep [1, 3, 4, 6, 8], .cmp] ref35_Step_C6)
def ref35_Step_C7 : TC := (.seq (.seq (.rg [⟨⟨some 31, (.mov (.t 3)), none⟩, {}⟩, ⟨⟨some 32, (.fadr 0 (.t 6)), none⟩, {}⟩, ⟨⟨some 33, (.load false 1 (.t 32)), none⟩, {}⟩, ⟨⟨some 34, (.bin .lss (.t 31) (.t 33)), none⟩, {}⟩, ⟨⟨some 35, (.mov (.t 34)), none⟩, {}⟩, ⟨⟨some 36, (.mov (.t 3)), some (35, false)⟩, {}⟩, ⟨⟨some 37,
  (.bin .gtr (.t 36) (.c (I 2147483648))), some (35, false)⟩, {}⟩, ⟨⟨some 38, (.pick (.t 35) (.c (B true)) (.t 37)), none⟩, {}⟩] none) ref35_Step_C16) ref35_Step_C17)
def ref35_Step_C36 : TC := .ret
def ref35_Step_C35 : TC := (.pre [.frzb 8] ref35_Step_C36)
def ref35_Step_C31 : TC := (.cond (.t 29) (.seq (.rg [⟨⟨some 30, (.load true 2 (.t 6)), none⟩, {}⟩, ⟨⟨none, (.store 2 (.t 8) (.t 30)), none⟩, {}⟩, ⟨⟨some 9, (.mov (.c (I 6))), none⟩, {}⟩] none) ref35_Step_C35) .skip)
def ref35_Step_C32 : TC := (.join [.wk 1 (.list G_Span), .keep [1, 3, 4, 6, 8], .cmp] ref35_Step_C7)
def ref35_Step_C26 : TC := (.seq (.seq (.rg [⟨⟨some 20, (.load true 2 (.t 4)), none⟩, {}⟩, ⟨⟨some 21, (.load true 2 (.t 6)), none⟩, {}⟩, ⟨⟨some 22, (.call (.c (.fn 29 [])) [(.t 20), (.t 21)]), none⟩, {}⟩, ⟨⟨some 23, (.un .not (.t 22)), none⟩, {}⟩, ⟨⟨some 24, (.mov (.t 23)), none⟩, {}⟩, ⟨⟨some 25, (.load true 2 (.t 4)), some
  (24, false)⟩, {}⟩, ⟨⟨some 26, (.mov (.t 1)), some (24, false)⟩, {}⟩, ⟨⟨some 27, (.call (.c (.fn 45 [])) [(.t 25), (.t 26)]), some (24, false)⟩, {}⟩, ⟨⟨some 28, (.un .not (.t 27)), some (24, false)⟩, {}⟩, ⟨⟨some 29, (.pick (.t 24) (.c (B true)) (.t 28)), none⟩, {}⟩] none) ref35_Step_C31)
  ref35_Step_C32)
def ref35_Step_C18 : TC := (.seq (.rg [⟨⟨some 18, (.load true 2 (.t 6)), none⟩, {}⟩, ⟨⟨some 19, (.call (.c (.fn 21 [])) [(.t 18)]), none⟩, {}⟩, ⟨⟨none, (.store 2 (.t 6) (.t 19)), none⟩, {}⟩] none) ref35_Step_C26)
def ref35_Step_C8 : TC := (.seq (.rg [⟨⟨some 4, (.box (.t 0)), none⟩, {}⟩, ⟨⟨some 6, (.box (.t 2)), none⟩, {}⟩, ⟨⟨some 8, (.alloc [(I 0), (.lst true [])]), none⟩, {}⟩, ⟨⟨some 9, (.mov (.c (I 0))), none⟩, {}⟩] none) ref35_Step_C18)
def ref35_Step_E (N : Nat) : List (Nat × Ent) := [(21, sfE [none] [.v G_Fumes] [.o (.p (.v (.int .i64)) (.a (.int .i64)))] (fun x => ref35_Copy N x)), (29, pureE [G_Mine, G_Fumes] [.bool] (fun x => ref35_Valid N x.1 x.2)), (45, pureE [G_Mine, (.list G_Span)] [.bool] (fun x => ref28_Flows N x.1 x.2)), (46, pureE [G_Mine, (.list G_Span), (.int .i64)] [(.list (.int .i64))] (fun x => ref35_Sources N x.1 x.2.1 x.2.2)), (47, pureE [G_Mine, (.list G_Span), (.int .i64)] [(.int .i64)] (fun x => ref35_sure N x.1 x.2.1 x.2.2))]
def ref35_Step_L2 (N n1 : Nat) (n : Nat) (x29 : List T_Span) (x30 : Int) (x31 : Int) (x32 : Int) (x33 : List Int) (x34 : Int) (x35 : List T_Place) (x36 : List T_Road) (x37 : Int) (x38 : Int) (x39 : Int) (x40 : List Int) (x41 : List Int) : Option (T_Fumes × Int) := loopN (normI 0 ref35_Step_N2) (run (ref35_Step_E N) N 0 ref35_Step_C1) n ⟨[(1, .lst false G_Span x29), (3, .int .i64 x30), (4, .ptr 0 0 0), (6, .ptr 1 0 0), (8, .ptr 2 0 0), (10, .ptr 3 0 0), (11, .int .i64 x31), (12, .int .i64 x32), (13, .lst false (.int .i64) x33), (14, .int .i64 x34)], [some (.box 0 [.lst false G_Place x35, .lst false G_Road x36]), some (.box 0 [.int .i64 x37, .whole 4]), some (.box 0 [.int .i64 x38, .nil]), some (.box 0 [.int .i64 x39, .whole 5]), some (.arr (.int .i64) x40), some (.arr (.int .i64) x41)]⟩ (blkK 2 (seqK (run (ref35_Step_E N) N 0 ref35_Step_C2) (blkK 1 (seqK (run (ref35_Step_E N) N 0 ref35_Step_C3) (seqK (nextL (normI 0 ref35_Step_N1) (loopN (normI 0 ref35_Step_N1) (run (ref35_Step_E N) N 0 ref35_Step_C4) n1)) (blkK 0 (seqK (run (ref35_Step_E N) N 0 ref35_Step_C5) (fin [(.cell 8 true 2), (.t 9)] [G_Fumes, (.int .i64)]))))))))
def ref35_Step_L1 (N : Nat) (n : Nat) (x18 : List T_Span) (x19 : Int) (x20 : Int) (x21 : List T_Place) (x22 : List T_Road) (x23 : Int) (x24 : Int) (x25 : Int) (x26 : List Int) (x27 : List Int) : Option (T_Fumes × Int) := loopN (normI 0 ref35_Step_N1) (run (ref35_Step_E N) N 0 ref35_Step_C4) n ⟨[(1, .lst false G_Span x18), (3, .int .i64 x19), (4, .ptr 0 0 0), (6, .ptr 1 0 0), (8, .ptr 2 0 0), (10, .ptr 3 0 0), (11, .int .i64 x20)], [some (.box 0 [.lst false G_Place x21, .lst false G_Road x22]), some (.box 0 [.int .i64 x23, .whole 4]), some (.box 0 [.int .i64 x24, .nil]), some (.box 0 [.int .i64 x25, .whole 5]), some (.arr (.int .i64) x26), some (.arr (.int .i64) x27)]⟩ (blkK 0 (seqK (run (ref35_Step_E N) N 0 ref35_Step_C5) (fin [(.cell 8 true 2), (.t 9)] [G_Fumes, (.int .i64)])))
def ref35_Step_J2 (N : Nat) (x11 : List T_Span) (x12 : Int) (x13 : List T_Place) (x14 : List T_Road) (x15 : Int) (x16 : Int) (x17 : List Int) : Option (T_Fumes × Int) := joinN (run (ref35_Step_E N) N 0 ref35_Step_C6) N ⟨[(1, .lst false G_Span x11), (3, .int .i64 x12), (4, .ptr 0 0 0), (6, .ptr 1 0 0), (8, .ptr 2 0 0)], [some (.box 0 [.lst false G_Place x13, .lst false G_Road x14]), some (.box 0 [.int .i64 x15, .whole 3]), some (.box 0 [.int .i64 x16, .nil]), some (.arr (.int .i64) x17)]⟩ (fin [(.cell 8 true 2), (.t 9)] [G_Fumes, (.int .i64)])
def ref35_Step_J1 (N : Nat) (x4 : List T_Span) (x5 : Int) (x6 : List T_Place) (x7 : List T_Road) (x8 : Int) (x9 : Int) (x10 : List Int) : Option (T_Fumes × Int) := joinN (run (ref35_Step_E N) N 0 ref35_Step_C7) N ⟨[(1, .lst false G_Span x4), (3, .int .i64 x5), (4, .ptr 0 0 0), (6, .ptr 1 0 0), (8, .ptr 2 0 0)], [some (.box 0 [.lst false G_Place x6, .lst false G_Road x7]), some (.box 0 [.int .i64 x8, .whole 3]), some (.box 0 [.int .i64 x9, .nil]), some (.arr (.int .i64) x10)]⟩ (fin [(.cell 8 true 2), (.t 9)] [G_Fumes, (.int .i64)])
theorem ref35_Step_L2_zero (N n1 : Nat) (x29 : List T_Span) (x30 : Int) (x31 : Int) (x32 : Int) (x33 : List Int) (x34 : Int) (x35 : List T_Place) (x36 : List T_Road) (x37 : Int) (x38 : Int) (x39 : Int) (x40 : List Int) (x41 : List Int) : ref35_Step_L2 N n1 0 x29 x30 x31 x32 x33 x34 x35 x36 x37 x38 x39 x40 x41 = none := rfl
theorem ref35_Step_L2_succ (N n1 : Nat) (n2 : Nat) (x29 : List T_Span) (x30 : Int) (x31 : Int) (x32 : Int) (x33 : List Int) (x34 : Int) (x35 : List T_Place) (x36 : List T_Road) (x37 : Int) (x38 : Int) (x39 : Int) (x40 : List Int) (x41 : List Int) : ref35_Step_L2 N n1 (n2 + 1) x29 x30 x31 x32 x33 x34 x35 x36 x37 x38 x39 x40 x41 =
  bif (decide (x34 < (x33.length : Int))) then
    bif inB x34 x33.length then
    bif inB (x33.getD x34.toNat 0) x40.length then
    ref35_Step_L2 N n1 n2 x29 x30 x31 (max x32 (x40.getD ((x33.getD x34.toNat 0).toNat) 0)) x33 (W (x34 + 1)) x35 x36 x37 x38 x39 x40 x41
    else none
    else none
  else
    bif inB x31 x40.length then
    bif (decide ((x40.getD x31.toNat 0) > x32)) then
      bif inB x31 x36.length then
      bif inB x31 x36.length then
      let v58 := W ((x36.getD x31.toNat D_Road).2.2.1 * (x36.getD x31.toNat D_Road).2.2.2.1)
      Option.bind (ref35_sure N (x35, x36) x29 x31) fun r59 =>
      let v61 := W ((W (v58 * 1000)) + (W (r59 * (W (x30 - x37)))))
      bif v61 == 0 then none else
      bif fitsB (x41.length + 1) 8 then
      ref35_Step_L1 N n1 x29 x30 (W (x31 + 1)) x35 x36 x37 x38 x39 x40 (x41 ++ [W (x32 + (W ((W ((W ((W ((W ((x40.getD x31.toNat 0) - x32)) * (W (v58 * 1000)))) + v61)) - 1)).tdiv v61)))])
      else none
      else none
      else none
    else
      bif fitsB (x41.length + 1) 8 then
      ref35_Step_L1 N n1 x29 x30 (W (x31 + 1)) x35 x36 x37 x38 x39 x40 (x41 ++ [x32])
      else none
    else none := by kernel_rfl
theorem ref35_Step_L1_zero (N : Nat) (x18 : List T_Span) (x19 : Int) (x20 : Int) (x21 : List T_Place) (x22 : List T_Road) (x23 : Int) (x24 : Int) (x25 : Int) (x26 : List Int) (x27 : List Int) : ref35_Step_L1 N 0 x18 x19 x20 x21 x22 x23 x24 x25 x26 x27 = none := rfl
theorem ref35_Step_L1_succ (N : Nat) (n1 : Nat) (x18 : List T_Span) (x19 : Int) (x20 : Int) (x21 : List T_Place) (x22 : List T_Road) (x23 : Int) (x24 : Int) (x25 : Int) (x26 : List Int) (x27 : List Int) : ref35_Step_L1 N (n1 + 1) x18 x19 x20 x21 x22 x23 x24 x25 x26 x27 =
  bif (decide (x20 < (x22.length : Int))) then
    Option.bind (ref35_Sources N (x21, x22) x18 x20) fun r28 =>
    ref35_Step_L2 N n1 N x18 x19 x20 0 r28 0 x21 x22 x23 x24 x25 x26 x27
  else
    some ((x25, x27), 0) := by kernel_rfl
theorem ref35_Step_J2_eq (N : Nat) (x11 : List T_Span) (x12 : Int) (x13 : List T_Place) (x14 : List T_Road) (x15 : Int) (x16 : Int) (x17 : List Int) : ref35_Step_J2 (N + 1) x11 x12 x13 x14 x15 x16 x17 =
  ref35_Step_L1 (N + 1) (N + 1) x11 x12 0 x13 x14 x15 x16 x12 x17 [] := by kernel_rfl
theorem ref35_Step_J1_eq (N : Nat) (x4 : List T_Span) (x5 : Int) (x6 : List T_Place) (x7 : List T_Road) (x8 : Int) (x9 : Int) (x10 : List Int) : ref35_Step_J1 (N + 1) x4 x5 x6 x7 x8 x9 x10 =
  bif (decide (x5 < x8)) then
    some ((x8, x10), 8)
  else
    bif (decide (x5 > 2147483648)) then
      some ((x8, x10), 8)
    else
      ref35_Step_J2 (N + 1) x4 x5 x6 x7 x8 x9 x10 := by kernel_rfl
def ref35_Step (N : Nat) (a0 : T_Mine) (a1 : List T_Span) (a2 : T_Fumes) (a3 : Int) : Option (T_Fumes × Int) :=
  Option.bind (ref35_Copy N a2) fun r1 =>
  Option.bind (ref35_Valid N a0 r1.1) fun r2 =>
  bif (!r2) then
    some (r1.1, 6)
  else
    Option.bind (ref28_Flows N a0 a1) fun r3 =>
    bif (!r3) then
      some (r1.1, 6)
    else
      ref35_Step_J1 N a1 a3 a0.1 a0.2 r1.1.1 0 r1.1.2
theorem ref35_Step_fn : FnOK Try.prog 25 122 (fun _ : Nat => false) ref35_Step_C8.er [(.cell 8 true 2), (.t 9)] := FnOK.mk' Try.func25 (by kernel_rfl) (by kernel_rfl) (by kernel_rfl) (by kernel_rfl) (by kernel_rfl)
theorem ref35_Step_envok (N : Nat) : EnvOK Try.prog (ref35_Step_E N) := .cons (sfE_ok (ref35_Copy_sf N)) (.cons (pureE_ok (ref35_Valid_pure N)) (.cons (pureE_ok (ref28_Flows_pure N)) (.cons (pureE_ok (ref35_Sources_pure N)) (.cons (pureE_ok (ref35_sure_pure N)) (.nil)))))
theorem ref35_Step_pure (N : Nat) : PureOK Try.prog 25 [G_Mine, (.list G_Span), G_Fumes, (.int .i64)] [G_Fumes, (.int .i64)] (fun x => ref35_Step N x.1 x.2.1 x.2.2.1 x.2.2.2) := pureOK (N := N) mixed ref35_Step_fn (ref35_Step_envok N) rfl (fun x => by kernel_rfl)
/-! ref35_low -/
def ref35_low_N1 : List NS := [.wk 1 (.list (.int .i64)), .keep [1, 2, 3, 7], .cmp]
def ref35_low_C4 : TC := (.cond (.t 11) .skip (.exit 0))
def ref35_low_C11 : TC := .ret
def ref35_low_C8 : TC := (.cond (.t 23) (.seq (.rg [⟨⟨some 6, (.mov (.c (B false))), none⟩, {}⟩] none) ref35_low_C11) .skip)
def ref35_low_C9 : TC := (.rg [⟨⟨some 12, (.mov (.t 7)), none⟩, {}⟩, ⟨⟨some 13, (.bin .add (.t 12) (.c (I 1))), none⟩, {}⟩, ⟨⟨some 7, (.mov (.t 13)), none⟩, {}⟩] none)
def ref35_low_C5 : TC := (.seq (.block 1 (.seq (.rg [⟨⟨some 14, (.fadr 1 (.t 3)), none⟩, {}⟩, ⟨⟨some 15, (.load false 1 (.t 14)), none⟩, {}⟩, ⟨⟨some 16, (.mov (.t 1)), none⟩, {}⟩, ⟨⟨some 17, (.mov (.t 7)), none⟩, {}⟩, ⟨⟨some 18, (.iadrS 1 (.t 16) (.t 17)), none⟩, {}⟩, ⟨⟨some 19, (.load false 1 (.t 18)), none⟩, {}⟩, ⟨⟨some
  20, (.iadrS 1 (.t 15) (.t 19)), none⟩, {}⟩, ⟨⟨some 21, (.load false 1 (.t 20)), none⟩, {}⟩, ⟨⟨some 22, (.mov (.t 2)), none⟩, {}⟩, ⟨⟨some 23, (.bin .gtr (.t 21) (.t 22)), none⟩, {}⟩] (some [])) ref35_low_C8)) ref35_low_C9)
def ref35_low_C1 : TC := (.seq (.seq (.rg [⟨⟨some 8, (.mov (.t 7)), none⟩, {}⟩, ⟨⟨some 9, (.mov (.t 1)), none⟩, {}⟩, ⟨⟨some 10, (.len (.t 9)), none⟩, {}⟩, ⟨⟨some 11, (.bin .lss (.t 8) (.t 10)), none⟩, {}⟩] none) ref35_low_C4) ref35_low_C5)
def ref35_low_C6 : TC := .ret
def ref35_low_C2 : TC := (.seq (.rg [⟨⟨some 6, (.mov (.c (B true))), none⟩, {}⟩] none) ref35_low_C6)
def ref35_low_C10 : TC := (.block 0 (.loop ref35_low_N1 ref35_low_C1))
def ref35_low_C7 : TC := (.seq (.seq (.rg [⟨⟨some 7, (.mov (.c (I 0))), none⟩, {}⟩] none) ref35_low_C10) ref35_low_C2)
def ref35_low_C3 : TC := (.seq (.rg [⟨⟨some 3, (.box (.t 0)), none⟩, {}⟩, ⟨⟨some 6, (.mov (.c (B false))), none⟩, {}⟩] none) ref35_low_C7)
def ref35_low_E (N : Nat) : List (Nat × Ent) := []
def ref35_low_L1 (N : Nat) (n : Nat) (x1 : List Int) (x2 : Int) (x3 : Int) (x4 : Int) (x5 : List Int) : Option Bool := loopN (normI 0 ref35_low_N1) (run (ref35_low_E N) N 0 ref35_low_C1) n ⟨[(1, .lst false (.int .i64) x1), (2, .int .i64 x2), (3, .ptr 0 0 0), (7, .int .i64 x3)], [some (.box 0 [.int .i64 x4, .lst false (.int .i64) x5])]⟩ (blkK 0 (seqK (run (ref35_low_E N) N 0 ref35_low_C2) (fin [(.t 6)] [.bool])))
theorem ref35_low_L1_zero (N : Nat) (x1 : List Int) (x2 : Int) (x3 : Int) (x4 : Int) (x5 : List Int) : ref35_low_L1 N 0 x1 x2 x3 x4 x5 = none := rfl
theorem ref35_low_L1_succ (N : Nat) (n1 : Nat) (x1 : List Int) (x2 : Int) (x3 : Int) (x4 : Int) (x5 : List Int) : ref35_low_L1 N (n1 + 1) x1 x2 x3 x4 x5 =
  bif (decide (x3 < (x1.length : Int))) then
    bif inB x3 x1.length then
    bif inB (x1.getD x3.toNat 0) x5.length then
    bif (decide ((x5.getD (x1.getD x3.toNat 0).toNat 0) > x2)) then
      some false
    else
      ref35_low_L1 N n1 x1 x2 (W (x3 + 1)) x4 x5
    else none
    else none
  else
    some true := by kernel_rfl
def ref35_low (N : Nat) (a0 : T_Fumes) (a1 : List Int) (a2 : Int) : Option Bool :=
  ref35_low_L1 N N a1 a2 0 a0.1 a0.2
theorem ref35_low_fn : FnOK Try.prog 48 24 (fun _ : Nat => false) ref35_low_C3.er [(.t 6)] := FnOK.mk' Try.func48 (by kernel_rfl) (by kernel_rfl) (by kernel_rfl) (by kernel_rfl) (by kernel_rfl)
theorem ref35_low_envok (N : Nat) : EnvOK Try.prog (ref35_low_E N) := .nil
theorem ref35_low_pure (N : Nat) : PureOK Try.prog 48 [G_Fumes, (.list (.int .i64)), (.int .i64)] [.bool] (fun x => ref35_low N x.1 x.2.1 x.2.2) := pureOK (N := N) mixed ref35_low_fn (ref35_low_envok N) rfl (fun x => by kernel_rfl)
/-! ref35_Until -/
def ref35_Until_N1 : List NS := [.wk 1 (.list G_Span), .wk 3 (.list (.int .i64)), .frzb 9, .keep [1, 3, 4, 5, 6, 7, 9, 16], .cmp]
def ref35_Until_C9 : TC := .ret
def ref35_Until_C4 : TC := (.cond (.t 67) (.seq (.rg [⟨⟨some 68, (.mov (.t 16)), none⟩, {}⟩, ⟨⟨some 69, (.mov (.t 5)), none⟩, {}⟩, ⟨⟨some 70, (.bin .mul (.t 68) (.t 69)), none⟩, {}⟩, ⟨⟨some 14, (.mov (.t 70)), none⟩, {}⟩, ⟨⟨some 15, (.mov (.c (I 0))), none⟩, {}⟩] none) ref35_Until_C9) .skip)
def ref35_Until_C15 : TC := .ret
def ref35_Until_C10 : TC := (.cond (.t 73) (.seq (.rg [⟨⟨some 14, (.mov (.c (I 0))), none⟩, {}⟩, ⟨⟨some 15, (.mov (.c (I 50))), none⟩, {}⟩] none) ref35_Until_C15) .skip)
def ref35_Until_C23 : TC := .ret
def ref35_Until_C19 : TC := (.cond (.t 86) (.seq (.rg [⟨⟨some 14, (.mov (.c (I 0))), none⟩, {}⟩, ⟨⟨some 15, (.mov (.c (I 50))), none⟩, {}⟩] none) ref35_Until_C23) .skip)
def ref35_Until_C20 : TC := (.rg [⟨⟨some 87, (.load true 2 (.t 17)), none⟩, {}⟩, ⟨⟨none, (.store 2 (.t 9) (.t 87)), none⟩, {}⟩] none)
def ref35_Until_C16 : TC := (.seq (.seq (.rg [⟨⟨some 85, (.mov (.t 18)), none⟩, {}⟩, ⟨⟨some 86, (.bin .neq (.t 85) (.c (I 0))), none⟩, {}⟩] none) ref35_Until_C19) ref35_Until_C20)
def ref35_Until_C11 : TC := (.seq (.rgw [([⟨⟨some 75, (.load true 2 (.t 7)), none⟩, {}⟩, ⟨⟨some 76, (.mov (.t 1)), none⟩, {}⟩, ⟨⟨some 77, (.load true 2 (.t 9)), none⟩, {}⟩, ⟨⟨some 78, (.fadr 0 (.t 9)), none⟩, {}⟩, ⟨⟨some 79, (.load false 1 (.t 78)), none⟩, {}⟩, ⟨⟨some 80, (.mov (.t 5)), none⟩, {}⟩, ⟨⟨some 81, (.bin .add (.t 79)
  (.t 80)), none⟩, {}⟩], [.frz 64]), ([⟨⟨some 82, (.call (.c (.fn 25 [])) [(.t 75), (.t 76), (.t 77), (.t 81)]), none⟩, {}⟩, ⟨⟨some 74, (.mov (.t 82)), none⟩, {}⟩, ⟨⟨some 83, (.extr 0 (.t 74)), none⟩, {}⟩, ⟨⟨some 84, (.extr 1 (.t 74)), none⟩, {}⟩, ⟨⟨some 17, (.alloc [(I 0), (.lst true [])]), none⟩,
  {}⟩, ⟨⟨none, (.store 2 (.t 17) (.t 83)), none⟩, {}⟩, ⟨⟨some 18, (.mov (.t 84)), none⟩, {}⟩], [])]) ref35_Until_C16)
def ref35_Until_C5 : TC := (.seq (.seq (.rg [⟨⟨some 71, (.mov (.t 16)), none⟩, {}⟩, ⟨⟨some 72, (.mov (.t 6)), none⟩, {}⟩, ⟨⟨some 73, (.bin .eql (.t 71) (.t 72)), none⟩, {}⟩] none) ref35_Until_C10) ref35_Until_C11)
def ref35_Until_C6 : TC := (.rg [⟨⟨some 62, (.mov (.t 16)), none⟩, {}⟩, ⟨⟨some 63, (.bin .add (.t 62) (.c (I 1))), none⟩, {}⟩, ⟨⟨some 16, (.mov (.t 63)), none⟩, {}⟩] none)
def ref35_Until_C1 : TC := (.seq (.block 2 (.seq (.seq (.rg [⟨⟨some 64, (.load true 2 (.t 9)), none⟩, {}⟩, ⟨⟨some 65, (.mov (.t 3)), none⟩, {}⟩, ⟨⟨some 66, (.mov (.t 4)), none⟩, {}⟩, ⟨⟨some 67, (.call (.c (.fn 48 [])) [(.t 64), (.t 65), (.t 66)]), none⟩, {}⟩] none) ref35_Until_C4) ref35_Until_C5)) ref35_Until_C6)
def ref35_Until_C12 : TC := (.block 1 (.loop ref35_Until_N1 ref35_Until_C1))
def ref35_Until_C7 : TC := (.seq (.rg [⟨⟨some 16, (.mov (.c (I 0))), none⟩, {}⟩] none) ref35_Until_C12)
def ref35_Until_C2 : TC := (.seq (.rg [⟨⟨some 60, (.load true 2 (.t 9)), none⟩, {}⟩, ⟨⟨some 61, (.call (.c (.fn 21 [])) [(.t 60)]), none⟩, {}⟩, ⟨⟨none, (.store 2 (.t 9) (.t 61)), none⟩, {}⟩] none) ref35_Until_C7)
def ref35_Until_C17 : TC := .ret
def ref35_Until_C21 : TC := .ret
def ref35_Until_C24 : TC := .ret
def ref35_Until_C22 : TC := (.cond (.t 37) (.seq (.rg [⟨⟨some 14, (.mov (.c (I 0))), none⟩, {}⟩, ⟨⟨some 15, (.mov (.c (I 1))), none⟩, {}⟩] none) ref35_Until_C24) .skip)
def ref35_Until_C18 : TC := (.cond (.t 30) (.seq (.rg [⟨⟨some 14, (.mov (.c (I 0))), none⟩, {}⟩, ⟨⟨some 15, (.mov (.c (I 4))), none⟩, {}⟩] none) ref35_Until_C21) (.seq (.rg [⟨⟨some 38, (.mov (.t 4)), none⟩, {}⟩, ⟨⟨some 39, (.bin .lss (.t 38) (.c (I 0))), none⟩, {}⟩, ⟨⟨some 40, (.mov (.t 39)), none⟩, {}⟩, ⟨⟨some 41, (.mov (.t
  4)), some (40, false)⟩, {}⟩, ⟨⟨some 42, (.bin .gtr (.t 41) (.c (I 1000000))), some (40, false)⟩, {}⟩, ⟨⟨some 43, (.pick (.t 40) (.c (B true)) (.t 42)), none⟩, {}⟩, ⟨⟨some 44, (.mov (.t 43)), none⟩, {}⟩, ⟨⟨some 45, (.mov (.t 5)), some (44, false)⟩, {}⟩, ⟨⟨some 46, (.bin .lss (.t 45) (.c (I 1))),
  some (44, false)⟩, {}⟩, ⟨⟨some 47, (.pick (.t 44) (.c (B true)) (.t 46)), none⟩, {}⟩, ⟨⟨some 48, (.mov (.t 47)), none⟩, {}⟩, ⟨⟨some 49, (.mov (.t 5)), some (48, false)⟩, {}⟩, ⟨⟨some 50, (.bin .gtr (.t 49) (.c (I 3600))), some (48, false)⟩, {}⟩, ⟨⟨some 51, (.pick (.t 48) (.c (B true)) (.t 50)),
  none⟩, {}⟩, ⟨⟨some 52, (.mov (.t 51)), none⟩, {}⟩, ⟨⟨some 53, (.mov (.t 6)), some (52, false)⟩, {}⟩, ⟨⟨some 54, (.bin .lss (.t 53) (.c (I 0))), some (52, false)⟩, {}⟩, ⟨⟨some 55, (.pick (.t 52) (.c (B true)) (.t 54)), none⟩, {}⟩, ⟨⟨some 56, (.mov (.t 55)), none⟩, {}⟩, ⟨⟨some 57, (.mov (.t 6)), some
  (56, false)⟩, {}⟩, ⟨⟨some 58, (.bin .gtr (.t 57) (.c (I 1000))), some (56, false)⟩, {}⟩, ⟨⟨some 59, (.pick (.t 56) (.c (B true)) (.t 58)), none⟩, {}⟩, ⟨⟨some 37, (.mov (.t 59)), none⟩, {}⟩] none) ref35_Until_C22))
def ref35_Until_C13 : TC := (.cond (.t 19) (.seq (.rg [⟨⟨some 14, (.mov (.c (I 0))), none⟩, {}⟩, ⟨⟨some 15, (.mov (.c (I 6))), none⟩, {}⟩] none) ref35_Until_C17) (.seq (.rg [⟨⟨some 31, (.mov (.t 3)), none⟩, {}⟩, ⟨⟨some 32, (.fadr 1 (.t 7)), none⟩, {}⟩, ⟨⟨some 33, (.load false 1 (.t 32)), none⟩, {}⟩, ⟨⟨some 34, (.len (.t 33)),
  none⟩, {}⟩, ⟨⟨some 35, (.call (.c (.fn 43 [])) [(.t 31), (.t 34)]), none⟩, {}⟩, ⟨⟨some 36, (.un .not (.t 35)), none⟩, {}⟩, ⟨⟨some 30, (.mov (.t 36)), none⟩, {}⟩] none) ref35_Until_C18))
def ref35_Until_C14 : TC := (.join [.wk 1 (.list G_Span), .wk 3 (.list (.int .i64)), .keep [1, 3, 4, 5, 6, 7, 9], .cmp] ref35_Until_C2)
def ref35_Until_C8 : TC := (.seq (.block 0 (.seq (.rg [⟨⟨some 20, (.load true 2 (.t 7)), none⟩, {}⟩, ⟨⟨some 21, (.load true 2 (.t 9)), none⟩, {}⟩, ⟨⟨some 22, (.call (.c (.fn 29 [])) [(.t 20), (.t 21)]), none⟩, {}⟩, ⟨⟨some 23, (.un .not (.t 22)), none⟩, {}⟩, ⟨⟨some 24, (.mov (.t 23)), none⟩, {}⟩, ⟨⟨some 25, (.load true 2 (.t
  7)), some (24, false)⟩, {}⟩, ⟨⟨some 26, (.mov (.t 1)), some (24, false)⟩, {}⟩, ⟨⟨some 27, (.call (.c (.fn 45 [])) [(.t 25), (.t 26)]), some (24, false)⟩, {}⟩, ⟨⟨some 28, (.un .not (.t 27)), some (24, false)⟩, {}⟩, ⟨⟨some 29, (.pick (.t 24) (.c (B true)) (.t 28)), none⟩, {}⟩, ⟨⟨some 19, (.mov (.t
  29)), none⟩, {}⟩] none) ref35_Until_C13)) ref35_Until_C14)
def ref35_Until_C3 : TC := (.seq (.rg [⟨⟨some 7, (.box (.t 0)), none⟩, {}⟩, ⟨⟨some 9, (.box (.t 2)), none⟩, {}⟩, ⟨⟨some 14, (.mov (.c (I 0))), none⟩, {}⟩, ⟨⟨some 15, (.mov (.c (I 0))), none⟩, {}⟩] none) ref35_Until_C8)
def ref35_Until_E (N : Nat) : List (Nat × Ent) := [(29, pureE [G_Mine, G_Fumes] [.bool] (fun x => ref35_Valid N x.1 x.2)), (45, pureE [G_Mine, (.list G_Span)] [.bool] (fun x => ref28_Flows N x.1 x.2)), (43, pureE [(.list (.int .i64)), (.int .i64)] [.bool] (fun x => ref23_Set N x.1 x.2)), (21, sfE [none] [.v G_Fumes] [.o (.p (.v (.int .i64)) (.a (.int .i64)))] (fun x => ref35_Copy N x)), (48, pureE [G_Fumes, (.list (.int .i64)), (.int .i64)] [.bool] (fun x => ref35_low N x.1 x.2.1 x.2.2)), (25, pureE [G_Mine, (.list G_Span), G_Fumes, (.int .i64)] [G_Fumes, (.int .i64)] (fun x => ref35_Step N x.1 x.2.1 x.2.2.1 x.2.2.2))]
def ref35_Until_L1 (N : Nat) (n : Nat) (x14 : List T_Span) (x15 : List Int) (x16 : Int) (x17 : Int) (x18 : Int) (x19 : Int) (x20 : List T_Place) (x21 : List T_Road) (x22 : Int) (x23 : List Int) : Option (Int × Int) := loopN (normI 0 ref35_Until_N1) (run (ref35_Until_E N) N 0 ref35_Until_C1) n ⟨[(1, .lst false G_Span x14), (3, .lst false (.int .i64) x15), (4, .int .i64 x16), (5, .int .i64 x17), (6, .int .i64 x18), (7, .ptr 0 0 0), (9, .ptr 1 0 0), (16, .int .i64 x19)], [some (.box 0 [.lst false G_Place x20, .lst false G_Road x21]), some (.box 0 [.int .i64 x22, .lst false (.int .i64) x23])]⟩ (blkK 1 (fin [(.t 14), (.t 15)] [(.int .i64), (.int .i64)]))
def ref35_Until_J1 (N : Nat) (x4 : List T_Span) (x5 : List Int) (x6 : Int) (x7 : Int) (x8 : Int) (x9 : List T_Place) (x10 : List T_Road) (x11 : Int) (x12 : List Int) : Option (Int × Int) := joinN (run (ref35_Until_E N) N 0 ref35_Until_C2) N ⟨[(1, .lst false G_Span x4), (3, .lst false (.int .i64) x5), (4, .int .i64 x6), (5, .int .i64 x7), (6, .int .i64 x8), (7, .ptr 0 0 0), (9, .ptr 1 0 0)], [some (.box 0 [.lst false G_Place x9, .lst false G_Road x10]), some (.box 0 [.int .i64 x11, .lst false (.int .i64) x12])]⟩ (fin [(.t 14), (.t 15)] [(.int .i64), (.int .i64)])
theorem ref35_Until_L1_zero (N : Nat) (x14 : List T_Span) (x15 : List Int) (x16 : Int) (x17 : Int) (x18 : Int) (x19 : Int) (x20 : List T_Place) (x21 : List T_Road) (x22 : Int) (x23 : List Int) : ref35_Until_L1 N 0 x14 x15 x16 x17 x18 x19 x20 x21 x22 x23 = none := rfl
theorem ref35_Until_L1_succ (N : Nat) (n1 : Nat) (x14 : List T_Span) (x15 : List Int) (x16 : Int) (x17 : Int) (x18 : Int) (x19 : Int) (x20 : List T_Place) (x21 : List T_Road) (x22 : Int) (x23 : List Int) : ref35_Until_L1 N (n1 + 1) x14 x15 x16 x17 x18 x19 x20 x21 x22 x23 =
  Option.bind (ref35_low N (x22, x23) x15 x16) fun r24 =>
  bif r24 then
    some (W (x19 * x17), 0)
  else
    bif (x19 == x18) then
      some (0, 50)
    else
      Option.bind (ref35_Step N (x20, x21) x14 (x22, x23) (W (x22 + x17))) fun r25 =>
      bif (r25.2 != 0) then
        some (0, 50)
      else
        ref35_Until_L1 N n1 x14 x15 x16 x17 x18 (W (x19 + 1)) x20 x21 r25.1.1 r25.1.2 := by kernel_rfl
theorem ref35_Until_J1_eq (N : Nat) (x4 : List T_Span) (x5 : List Int) (x6 : Int) (x7 : Int) (x8 : Int) (x9 : List T_Place) (x10 : List T_Road) (x11 : Int) (x12 : List Int) : ref35_Until_J1 (N + 1) x4 x5 x6 x7 x8 x9 x10 x11 x12 =
  Option.bind (ref35_Copy (N + 1) (x11, x12)) fun r13 =>
  ref35_Until_L1 (N + 1) (N + 1) x4 x5 x6 x7 x8 0 x9 x10 r13.1.1 r13.1.2 := by kernel_rfl
def ref35_Until (N : Nat) (a0 : T_Mine) (a1 : List T_Span) (a2 : T_Fumes) (a3 : List Int) (a4 : Int) (a5 : Int) (a6 : Int) : Option (Int × Int) :=
  Option.bind (ref35_Valid N a0 a2) fun r1 =>
  bif (!r1) then
    some (0, 6)
  else
    Option.bind (ref28_Flows N a0 a1) fun r2 =>
    bif (!r2) then
      some (0, 6)
    else
      Option.bind (ref23_Set N a3 (a0.2.length : Int)) fun r3 =>
      bif (!r3) then
        some (0, 4)
      else
        bif (decide (a4 < 0)) then
          some (0, 1)
        else
          bif (decide (a4 > 1000000)) then
            some (0, 1)
          else
            bif (decide (a5 < 1)) then
              some (0, 1)
            else
              bif (decide (a5 > 3600)) then
                some (0, 1)
              else
                bif (decide (a6 < 0)) then
                  some (0, 1)
                else
                  bif (decide (a6 > 1000)) then
                    some (0, 1)
                  else
                    ref35_Until_J1 N a1 a3 a4 a5 a6 a0.1 a0.2 a2.1 a2.2
theorem ref35_Until_fn : FnOK Try.prog 26 88 (fun _ : Nat => false) ref35_Until_C3.er [(.t 14), (.t 15)] := FnOK.mk' Try.func26 (by kernel_rfl) (by kernel_rfl) (by kernel_rfl) (by kernel_rfl) (by kernel_rfl)
theorem ref35_Until_envok (N : Nat) : EnvOK Try.prog (ref35_Until_E N) := .cons (pureE_ok (ref35_Valid_pure N)) (.cons (pureE_ok (ref28_Flows_pure N)) (.cons (pureE_ok (ref23_Set_pure N)) (.cons (sfE_ok (ref35_Copy_sf N)) (.cons (pureE_ok (ref35_low_pure N)) (.cons (pureE_ok (ref35_Step_pure N)) (.nil))))))
theorem ref35_Until_pure (N : Nat) : PureOK Try.prog 26 [G_Mine, (.list G_Span), G_Fumes, (.list (.int .i64)), (.int .i64), (.int .i64), (.int .i64)] [(.int .i64), (.int .i64)] (fun x => ref35_Until N x.1 x.2.1 x.2.2.1 x.2.2.2.1 x.2.2.2.2.1 x.2.2.2.2.2.1 x.2.2.2.2.2.2) := pureOK (N := N) mixed ref35_Until_fn (ref35_Until_envok N) rfl (fun x => by kernel_rfl)
/-! ref23_SameInts -/
def ref23_SameInts_N1 : List NS := [.wk 0 (.list (.int .i64)), .wk 1 (.list (.int .i64)), .keep [0, 1, 5], .cmp]
def ref23_SameInts_C4 : TC := (.cond (.t 14) .skip (.exit 0))
def ref23_SameInts_C12 : TC := .ret
def ref23_SameInts_C8 : TC := (.cond (.t 25) (.seq (.rg [⟨⟨some 4, (.mov (.c (B false))), none⟩, {}⟩] none) ref23_SameInts_C12) .skip)
def ref23_SameInts_C9 : TC := (.rg [⟨⟨some 15, (.mov (.t 5)), none⟩, {}⟩, ⟨⟨some 16, (.bin .add (.t 15) (.c (I 1))), none⟩, {}⟩, ⟨⟨some 5, (.mov (.t 16)), none⟩, {}⟩] none)
def ref23_SameInts_C5 : TC := (.seq (.block 1 (.seq (.rg [⟨⟨some 17, (.mov (.t 0)), none⟩, {}⟩, ⟨⟨some 18, (.mov (.t 5)), none⟩, {}⟩, ⟨⟨some 19, (.iadrS 1 (.t 17) (.t 18)), none⟩, {}⟩, ⟨⟨some 20, (.load false 1 (.t 19)), none⟩, {}⟩, ⟨⟨some 21, (.mov (.t 1)), none⟩, {}⟩, ⟨⟨some 22, (.mov (.t 5)), none⟩, {}⟩, ⟨⟨some 23, (.iadrS 1
  (.t 21) (.t 22)), none⟩, {}⟩, ⟨⟨some 24, (.load false 1 (.t 23)), none⟩, {}⟩, ⟨⟨some 25, (.bin .neq (.t 20) (.t 24)), none⟩, {}⟩] (some [])) ref23_SameInts_C8)) ref23_SameInts_C9)
def ref23_SameInts_C1 : TC := (.seq (.seq (.rg [⟨⟨some 11, (.mov (.t 5)), none⟩, {}⟩, ⟨⟨some 12, (.mov (.t 0)), none⟩, {}⟩, ⟨⟨some 13, (.len (.t 12)), none⟩, {}⟩, ⟨⟨some 14, (.bin .lss (.t 11) (.t 13)), none⟩, {}⟩] none) ref23_SameInts_C4) ref23_SameInts_C5)
def ref23_SameInts_C6 : TC := .ret
def ref23_SameInts_C2 : TC := (.seq (.rg [⟨⟨some 4, (.mov (.c (B true))), none⟩, {}⟩] none) ref23_SameInts_C6)
def ref23_SameInts_C13 : TC := .ret
def ref23_SameInts_C10 : TC := (.cond (.t 10) (.seq (.rg [⟨⟨some 4, (.mov (.c (B false))), none⟩, {}⟩] none) ref23_SameInts_C13) .skip)
def ref23_SameInts_C14 : TC := (.block 0 (.loop ref23_SameInts_N1 ref23_SameInts_C1))
def ref23_SameInts_C11 : TC := (.seq (.seq (.rg [⟨⟨some 5, (.mov (.c (I 0))), none⟩, {}⟩] none) ref23_SameInts_C14) ref23_SameInts_C2)
def ref23_SameInts_C7 : TC := (.seq (.seq (.rg [⟨⟨some 6, (.mov (.t 0)), none⟩, {}⟩, ⟨⟨some 7, (.len (.t 6)), none⟩, {}⟩, ⟨⟨some 8, (.mov (.t 1)), none⟩, {}⟩, ⟨⟨some 9, (.len (.t 8)), none⟩, {}⟩, ⟨⟨some 10, (.bin .neq (.t 7) (.t 9)), none⟩, {}⟩] none) ref23_SameInts_C10) ref23_SameInts_C11)
def ref23_SameInts_C3 : TC := (.seq (.rg [⟨⟨some 4, (.mov (.c (B false))), none⟩, {}⟩] none) ref23_SameInts_C7)
def ref23_SameInts_E (N : Nat) : List (Nat × Ent) := []
def ref23_SameInts_L1 (N : Nat) (n : Nat) (x1 : List Int) (x2 : List Int) (x3 : Int) : Option Bool := loopN (normI 0 ref23_SameInts_N1) (run (ref23_SameInts_E N) N 0 ref23_SameInts_C1) n ⟨[(0, .lst false (.int .i64) x1), (1, .lst false (.int .i64) x2), (5, .int .i64 x3)], []⟩ (blkK 0 (seqK (run (ref23_SameInts_E N) N 0 ref23_SameInts_C2) (fin [(.t 4)] [.bool])))
theorem ref23_SameInts_L1_zero (N : Nat) (x1 : List Int) (x2 : List Int) (x3 : Int) : ref23_SameInts_L1 N 0 x1 x2 x3 = none := rfl
theorem ref23_SameInts_L1_succ (N : Nat) (n1 : Nat) (x1 : List Int) (x2 : List Int) (x3 : Int) : ref23_SameInts_L1 N (n1 + 1) x1 x2 x3 =
  bif (decide (x3 < (x1.length : Int))) then
    bif inB x3 x1.length then
    bif inB x3 x2.length then
    bif ((x1.getD x3.toNat 0) != (x2.getD x3.toNat 0)) then
      some false
    else
      ref23_SameInts_L1 N n1 x1 x2 (W (x3 + 1))
    else none
    else none
  else
    some true := by kernel_rfl
def ref23_SameInts (N : Nat) (a0 : List Int) (a1 : List Int) : Option Bool :=
  bif ((a0.length : Int) != (a1.length : Int)) then
    some false
  else
    ref23_SameInts_L1 N N a0 a1 0
theorem ref23_SameInts_fn : FnOK Try.prog 49 26 (fun _ : Nat => false) ref23_SameInts_C3.er [(.t 4)] := FnOK.mk' Try.func49 (by kernel_rfl) (by kernel_rfl) (by kernel_rfl) (by kernel_rfl) (by kernel_rfl)
theorem ref23_SameInts_envok (N : Nat) : EnvOK Try.prog (ref23_SameInts_E N) := .nil
theorem ref23_SameInts_pure (N : Nat) : PureOK Try.prog 49 [(.list (.int .i64)), (.list (.int .i64))] [.bool] (fun x => ref23_SameInts N x.1 x.2) := pureOK (N := N) mixed ref23_SameInts_fn (ref23_SameInts_envok N) rfl (fun x => by kernel_rfl)
/-! ref35_Same -/
def ref35_Same_C3 : TC := .ret
def ref35_Same_C2 : TC := (.seq (.rg [⟨⟨some 5, (.fadr 0 (.t 2)), none⟩, {}⟩, ⟨⟨some 6, (.load false 1 (.t 5)), none⟩, {}⟩, ⟨⟨some 7, (.fadr 0 (.t 3)), none⟩, {}⟩, ⟨⟨some 8, (.load false 1 (.t 7)), none⟩, {}⟩, ⟨⟨some 9, (.bin .eql (.t 6) (.t 8)), none⟩, {}⟩, ⟨⟨some 10, (.mov (.t 9)), none⟩, {}⟩, ⟨⟨some 11, (.fadr 1 (.t 2)),
  some (10, true)⟩, {}⟩, ⟨⟨some 12, (.load false 1 (.t 11)), some (10, true)⟩, {}⟩, ⟨⟨some 13, (.fadr 1 (.t 3)), some (10, true)⟩, {}⟩, ⟨⟨some 14, (.load false 1 (.t 13)), some (10, true)⟩, {}⟩, ⟨⟨some 15, (.call (.c (.fn 49 [])) [(.t 12), (.t 14)]), some (10, true)⟩, {}⟩, ⟨⟨some 16, (.pick (.t 10)
  (.t 15) (.c (B false))), none⟩, {}⟩, ⟨⟨some 4, (.mov (.t 16)), none⟩, {}⟩] none) ref35_Same_C3)
def ref35_Same_C1 : TC := (.seq (.rg [⟨⟨some 2, (.box (.t 0)), none⟩, {}⟩, ⟨⟨some 3, (.box (.t 1)), none⟩, {}⟩, ⟨⟨some 4, (.mov (.c (B false))), none⟩, {}⟩] none) ref35_Same_C2)
def ref35_Same_E (N : Nat) : List (Nat × Ent) := [(49, pureE [(.list (.int .i64)), (.list (.int .i64))] [.bool] (fun x => ref23_SameInts N x.1 x.2))]
def ref35_Same (N : Nat) (a0 : T_Fumes) (a1 : T_Fumes) : Option Bool :=
  bif (a0.1 == a1.1) then
    Option.bind (ref23_SameInts N a0.2 a1.2) fun r1 =>
    some r1
  else
    some false
theorem ref35_Same_fn : FnOK Try.prog 27 17 (fun _ : Nat => false) ref35_Same_C1.er [(.t 4)] := FnOK.mk' Try.func27 (by kernel_rfl) (by kernel_rfl) (by kernel_rfl) (by kernel_rfl) (by kernel_rfl)
theorem ref35_Same_envok (N : Nat) : EnvOK Try.prog (ref35_Same_E N) := .cons (pureE_ok (ref23_SameInts_pure N)) (.nil)
theorem ref35_Same_pure (N : Nat) : PureOK Try.prog 27 [G_Fumes, G_Fumes] [.bool] (fun x => ref35_Same N x.1 x.2) := pureOK (N := N) mixed ref35_Same_fn (ref35_Same_envok N) rfl (fun x => by kernel_rfl)
/-! law35_agree -/
def law35_agree_C9 : TC := .ret
def law35_agree_C8 : TC := (.seq (.rg [⟨⟨some 89, (.mov (.t 12)), none⟩, {}⟩, ⟨⟨some 90, (.mov (.t 14)), none⟩, {}⟩, ⟨⟨some 91, (.bin .eql (.t 89) (.t 90)), none⟩, {}⟩, ⟨⟨some 92, (.mov (.t 91)), none⟩, {}⟩, ⟨⟨some 93, (.load true 2 (.t 11)), some (92, true)⟩, {}⟩, ⟨⟨some 94, (.load true 2 (.t 13)), some (92, true)⟩, {}⟩,
  ⟨⟨some 95, (.call (.c (.fn 27 [])) [(.t 93), (.t 94)]), some (92, true)⟩, {}⟩, ⟨⟨some 96, (.pick (.t 92) (.t 95) (.c (B false))), none⟩, {}⟩, ⟨⟨some 97, (.mov (.t 96)), none⟩, {}⟩, ⟨⟨some 98, (.mov (.t 16)), some (97, true)⟩, {}⟩, ⟨⟨some 99, (.mov (.t 18)), some (97, true)⟩, {}⟩, ⟨⟨some 100, (.bin
  .eql (.t 98) (.t 99)), some (97, true)⟩, {}⟩, ⟨⟨some 101, (.pick (.t 97) (.t 100) (.c (B false))), none⟩, {}⟩, ⟨⟨some 102, (.mov (.t 101)), none⟩, {}⟩, ⟨⟨some 103, (.load true 2 (.t 15)), some (102, true)⟩, {}⟩, ⟨⟨some 104, (.load true 2 (.t 17)), some (102, true)⟩, {}⟩, ⟨⟨some 105, (.call (.c (.fn
  27 [])) [(.t 103), (.t 104)]), some (102, true)⟩, {}⟩, ⟨⟨some 106, (.pick (.t 102) (.t 105) (.c (B false))), none⟩, {}⟩, ⟨⟨some 107, (.mov (.t 106)), none⟩, {}⟩, ⟨⟨some 108, (.mov (.t 19)), some (107, true)⟩, {}⟩, ⟨⟨some 109, (.mov (.t 21)), some (107, true)⟩, {}⟩, ⟨⟨some 110, (.bin .eql (.t 108)
  (.t 109)), some (107, true)⟩, {}⟩, ⟨⟨some 111, (.pick (.t 107) (.t 110) (.c (B false))), none⟩, {}⟩, ⟨⟨some 112, (.mov (.t 111)), none⟩, {}⟩, ⟨⟨some 113, (.mov (.t 20)), some (112, true)⟩, {}⟩, ⟨⟨some 114, (.mov (.t 22)), some (112, true)⟩, {}⟩, ⟨⟨some 115, (.bin .eql (.t 113) (.t 114)), some (112,
  true)⟩, {}⟩, ⟨⟨some 116, (.pick (.t 112) (.t 115) (.c (B false))), none⟩, {}⟩, ⟨⟨some 117, (.mov (.t 116)), none⟩, {}⟩, ⟨⟨some 118, (.load true 2 (.t 5)), some (117, true)⟩, {}⟩, ⟨⟨some 119, (.load true 2 (.t 7)), some (117, true)⟩, {}⟩, ⟨⟨some 120, (.call (.c (.fn 28 [])) [(.t 118), (.t 119)]),
  some (117, true)⟩, {}⟩, ⟨⟨some 121, (.load true 2 (.t 5)), some (117, true)⟩, {}⟩, ⟨⟨some 122, (.load true 2 (.t 7)), some (117, true)⟩, {}⟩, ⟨⟨some 123, (.call (.c (.fn 29 [])) [(.t 121), (.t 122)]), some (117, true)⟩, {}⟩, ⟨⟨some 124, (.beq false (.t 120) (.t 123)), some (117, true)⟩, {}⟩, ⟨⟨some
  125, (.pick (.t 117) (.t 124) (.c (B false))), none⟩, {}⟩, ⟨⟨some 10, (.mov (.t 125)), none⟩, {}⟩] (some [(31, 32), (31, 33)])) law35_agree_C9)
def law35_agree_C7 : TC := (.seq (.rg [⟨⟨some 76, (.load true 2 (.t 5)), none⟩, {}⟩, ⟨⟨some 77, (.mov (.t 1)), none⟩, {}⟩, ⟨⟨some 78, (.load true 2 (.t 7)), none⟩, {}⟩, ⟨⟨some 79, (.mov (.t 3)), none⟩, {}⟩, ⟨⟨some 80, (.iadrA 1 4 (.t 9) (.c (I 0))), none⟩, {}⟩, ⟨⟨some 81, (.load false 1 (.t 80)), none⟩, {}⟩, ⟨⟨some 82, (.iadrA
  1 4 (.t 9) (.c (I 2))), none⟩, {}⟩, ⟨⟨some 83, (.load false 1 (.t 82)), none⟩, {}⟩, ⟨⟨some 84, (.iadrA 1 4 (.t 9) (.c (I 3))), none⟩, {}⟩, ⟨⟨some 85, (.load false 1 (.t 84)), none⟩, {}⟩, ⟨⟨some 86, (.call (.c (.fn 26 [])) [(.t 76), (.t 77), (.t 78), (.t 79), (.t 81), (.t 83), (.t 85)]), none⟩, {}⟩,
  ⟨⟨some 75, (.mov (.t 86)), none⟩, {}⟩, ⟨⟨some 87, (.extr 0 (.t 75)), none⟩, {}⟩, ⟨⟨some 88, (.extr 1 (.t 75)), none⟩, {}⟩, ⟨⟨some 21, (.mov (.t 87)), none⟩, {}⟩, ⟨⟨some 22, (.mov (.t 88)), none⟩, {}⟩] none) law35_agree_C8)
def law35_agree_C6 : TC := (.seq (.rg [⟨⟨some 62, (.load true 2 (.t 5)), none⟩, {}⟩, ⟨⟨some 63, (.mov (.t 1)), none⟩, {}⟩, ⟨⟨some 64, (.load true 2 (.t 7)), none⟩, {}⟩, ⟨⟨some 65, (.mov (.t 3)), none⟩, {}⟩, ⟨⟨some 66, (.iadrA 1 4 (.t 9) (.c (I 0))), none⟩, {}⟩, ⟨⟨some 67, (.load false 1 (.t 66)), none⟩, {}⟩, ⟨⟨some 68, (.iadrA
  1 4 (.t 9) (.c (I 2))), none⟩, {}⟩, ⟨⟨some 69, (.load false 1 (.t 68)), none⟩, {}⟩, ⟨⟨some 70, (.iadrA 1 4 (.t 9) (.c (I 3))), none⟩, {}⟩, ⟨⟨some 71, (.load false 1 (.t 70)), none⟩, {}⟩, ⟨⟨some 72, (.call (.c (.fn 20 [])) [(.t 62), (.t 63), (.t 64), (.t 65), (.t 67), (.t 69), (.t 71)]), none⟩, {}⟩,
  ⟨⟨some 61, (.mov (.t 72)), none⟩, {}⟩, ⟨⟨some 73, (.extr 0 (.t 61)), none⟩, {}⟩, ⟨⟨some 74, (.extr 1 (.t 61)), none⟩, {}⟩, ⟨⟨some 19, (.mov (.t 73)), none⟩, {}⟩, ⟨⟨some 20, (.mov (.t 74)), none⟩, {}⟩] none) law35_agree_C7)
def law35_agree_C5 : TC := (.seq (.rg [⟨⟨some 53, (.load true 2 (.t 5)), none⟩, {}⟩, ⟨⟨some 54, (.mov (.t 1)), none⟩, {}⟩, ⟨⟨some 55, (.load true 2 (.t 7)), none⟩, {}⟩, ⟨⟨some 56, (.iadrA 1 4 (.t 9) (.c (I 1))), none⟩, {}⟩, ⟨⟨some 57, (.load false 1 (.t 56)), none⟩, {}⟩, ⟨⟨some 58, (.call (.c (.fn 25 [])) [(.t 53), (.t 54),
  (.t 55), (.t 57)]), none⟩, {}⟩, ⟨⟨some 52, (.mov (.t 58)), none⟩, {}⟩, ⟨⟨some 59, (.extr 0 (.t 52)), none⟩, {}⟩, ⟨⟨some 60, (.extr 1 (.t 52)), none⟩, {}⟩, ⟨⟨some 17, (.alloc [(I 0), (.lst true [])]), none⟩, {}⟩, ⟨⟨none, (.store 2 (.t 17) (.t 59)), none⟩, {}⟩, ⟨⟨some 18, (.mov (.t 60)), none⟩, {}⟩]
  none) law35_agree_C6)
def law35_agree_C4 : TC := (.seq (.rg [⟨⟨some 44, (.load true 2 (.t 5)), none⟩, {}⟩, ⟨⟨some 45, (.mov (.t 1)), none⟩, {}⟩, ⟨⟨some 46, (.load true 2 (.t 7)), none⟩, {}⟩, ⟨⟨some 47, (.iadrA 1 4 (.t 9) (.c (I 1))), none⟩, {}⟩, ⟨⟨some 48, (.load false 1 (.t 47)), none⟩, {}⟩, ⟨⟨some 49, (.call (.c (.fn 18 [])) [(.t 44), (.t 45),
  (.t 46), (.t 48)]), none⟩, {}⟩, ⟨⟨some 43, (.mov (.t 49)), none⟩, {}⟩, ⟨⟨some 50, (.extr 0 (.t 43)), none⟩, {}⟩, ⟨⟨some 51, (.extr 1 (.t 43)), none⟩, {}⟩, ⟨⟨some 15, (.alloc [(I 0), (.lst true [])]), none⟩, {}⟩, ⟨⟨none, (.store 2 (.t 15) (.t 50)), none⟩, {}⟩, ⟨⟨some 16, (.mov (.t 51)), none⟩, {}⟩]
  none) law35_agree_C5)
def law35_agree_C3 : TC := (.seq (.rg [⟨⟨some 34, (.load true 2 (.t 5)), none⟩, {}⟩, ⟨⟨some 35, (.mov (.t 3)), none⟩, {}⟩, ⟨⟨some 36, (.iadrA 1 4 (.t 9) (.c (I 0))), none⟩, {}⟩, ⟨⟨some 37, (.load false 1 (.t 36)), none⟩, {}⟩, ⟨⟨some 38, (.iadrA 1 4 (.t 9) (.c (I 1))), none⟩, {}⟩, ⟨⟨some 39, (.load false 1 (.t 38)), none⟩, {}⟩,
  ⟨⟨some 40, (.call (.c (.fn 24 [])) [(.t 34), (.t 35), (.t 37), (.t 39)]), none⟩, {}⟩, ⟨⟨some 33, (.mov (.t 40)), none⟩, {}⟩, ⟨⟨some 41, (.extr 0 (.t 33)), none⟩, {}⟩, ⟨⟨some 42, (.extr 1 (.t 33)), none⟩, {}⟩, ⟨⟨some 13, (.alloc [(I 0), (.lst true [])]), none⟩, {}⟩, ⟨⟨none, (.store 2 (.t 13) (.t
  41)), none⟩, {}⟩, ⟨⟨some 14, (.mov (.t 42)), none⟩, {}⟩] none) law35_agree_C4)
def law35_agree_C2 : TC := (.seq (.rg [⟨⟨some 24, (.load true 2 (.t 5)), none⟩, {}⟩, ⟨⟨some 25, (.mov (.t 3)), none⟩, {}⟩, ⟨⟨some 26, (.iadrA 1 4 (.t 9) (.c (I 0))), none⟩, {}⟩, ⟨⟨some 27, (.load false 1 (.t 26)), none⟩, {}⟩, ⟨⟨some 28, (.iadrA 1 4 (.t 9) (.c (I 1))), none⟩, {}⟩, ⟨⟨some 29, (.load false 1 (.t 28)), none⟩, {}⟩,
  ⟨⟨some 30, (.call (.c (.fn 22 [])) [(.t 24), (.t 25), (.t 27), (.t 29)]), none⟩, {}⟩, ⟨⟨some 23, (.mov (.t 30)), none⟩, {}⟩, ⟨⟨some 31, (.extr 0 (.t 23)), none⟩, {}⟩, ⟨⟨some 32, (.extr 1 (.t 23)), none⟩, {}⟩, ⟨⟨some 11, (.alloc [(I 0), (.lst true [])]), none⟩, {}⟩, ⟨⟨none, (.store 2 (.t 11) (.t
  31)), none⟩, {}⟩, ⟨⟨some 12, (.mov (.t 32)), none⟩, {}⟩] none) law35_agree_C3)
def law35_agree_C1 : TC := (.seq (.rg [⟨⟨some 5, (.box (.t 0)), none⟩, {}⟩, ⟨⟨some 7, (.box (.t 2)), none⟩, {}⟩, ⟨⟨some 9, (.box (.t 4)), none⟩, {}⟩, ⟨⟨some 10, (.mov (.c (B false))), none⟩, {}⟩] none) law35_agree_C2)
def law35_agree_E (N : Nat) : List (Nat × Ent) := [(22, pureE [G_Mine, (.list (.int .i64)), (.int .i64), (.int .i64)] [G_Fumes, (.int .i64)] (fun x => clearance_Start N x.1 x.2.1 x.2.2.1 x.2.2.2)), (24, pureE [G_Mine, (.list (.int .i64)), (.int .i64), (.int .i64)] [G_Fumes, (.int .i64)] (fun x => ref35_Start N x.1 x.2.1 x.2.2.1 x.2.2.2)), (18, pureE [G_Mine, (.list G_Span), G_Fumes, (.int .i64)] [G_Fumes, (.int .i64)] (fun x => clearance_Step N x.1 x.2.1 x.2.2.1 x.2.2.2)), (25, pureE [G_Mine, (.list G_Span), G_Fumes, (.int .i64)] [G_Fumes, (.int .i64)] (fun x => ref35_Step N x.1 x.2.1 x.2.2.1 x.2.2.2)), (20, pureE [G_Mine, (.list G_Span), G_Fumes, (.list (.int .i64)), (.int .i64), (.int .i64), (.int .i64)] [(.int .i64), (.int .i64)] (fun x => clearance_Until N x.1 x.2.1 x.2.2.1 x.2.2.2.1 x.2.2.2.2.1 x.2.2.2.2.2.1 x.2.2.2.2.2.2)), (26, pureE [G_Mine, (.list G_Span), G_Fumes, (.list (.int .i64)), (.int .i64), (.int .i64), (.int .i64)] [(.int .i64), (.int .i64)] (fun x => ref35_Until N x.1 x.2.1 x.2.2.1 x.2.2.2.1 x.2.2.2.2.1 x.2.2.2.2.2.1 x.2.2.2.2.2.2)), (27, pureE [G_Fumes, G_Fumes] [.bool] (fun x => ref35_Same N x.1 x.2)), (28, pureE [G_Mine, G_Fumes] [.bool] (fun x => clearance_Valid N x.1 x.2)), (29, pureE [G_Mine, G_Fumes] [.bool] (fun x => ref35_Valid N x.1 x.2))]
def law35_agree (N : Nat) (a0 : T_Mine) (a1 : List T_Span) (a2 : T_Fumes) (a3 : List Int) (a4 : Int × Int × Int × Int) : Option Bool :=
  Option.bind (clearance_Start N a0 a3 a4.1 a4.2.1) fun r1 =>
  Option.bind (ref35_Start N a0 a3 a4.1 a4.2.1) fun r2 =>
  Option.bind (clearance_Step N a0 a1 a2 a4.2.1) fun r3 =>
  Option.bind (ref35_Step N a0 a1 a2 a4.2.1) fun r4 =>
  Option.bind (clearance_Until N a0 a1 a2 a3 a4.1 a4.2.2.1 a4.2.2.2) fun r5 =>
  Option.bind (ref35_Until N a0 a1 a2 a3 a4.1 a4.2.2.1 a4.2.2.2) fun r6 =>
  bif (r1.2 == r2.2) then
    Option.bind (ref35_Same N r1.1 r2.1) fun r7 =>
    bif r7 then
      bif (r3.2 == r4.2) then
        Option.bind (ref35_Same N r3.1 r4.1) fun r8 =>
        bif r8 then
          bif (r5.1 == r6.1) then
            bif (r5.2 == r6.2) then
              Option.bind (clearance_Valid N a0 a2) fun r9 =>
              Option.bind (ref35_Valid N a0 a2) fun r10 =>
              some (r9 == r10)
            else
              some false
          else
            some false
        else
          some false
      else
        some false
    else
      some false
  else
    some false
theorem law35_agree_fn : FnOK Try.prog 15 126 (fun _ : Nat => false) law35_agree_C1.er [(.t 10)] := FnOK.mk' Try.func15 (by kernel_rfl) (by kernel_rfl) (by kernel_rfl) (by kernel_rfl) (by kernel_rfl)
theorem law35_agree_envok (N : Nat) : EnvOK Try.prog (law35_agree_E N) := .cons (pureE_ok (clearance_Start_pure N)) (.cons (pureE_ok (ref35_Start_pure N)) (.cons (pureE_ok (clearance_Step_pure N)) (.cons (pureE_ok (ref35_Step_pure N)) (.cons (pureE_ok (clearance_Until_pure N)) (.cons (pureE_ok (ref35_Until_pure N)) (.cons (pureE_ok (ref35_Same_pure N)) (.cons (pureE_ok (clearance_Valid_pure N)) (.cons (pureE_ok (ref35_Valid_pure N)) (.nil)))))))))
theorem law35_agree_pure (N : Nat) : PureOK Try.prog 15 [G_Mine, (.list G_Span), G_Fumes, (.list (.int .i64)), (.pair (.int .i64) (.pair (.int .i64) (.pair (.int .i64) (.int .i64))))] [.bool] (fun x => law35_agree N x.1 x.2.1 x.2.2.1 x.2.2.2.1 x.2.2.2.2) := pureOK (N := N) mixed law35_agree_fn (law35_agree_envok N) rfl (fun x => by kernel_rfl)
/-! made_Dice_Some -/
def made_Dice_Some_NE : List NS := [.frz 4, .frzo 0, .keep [4], .out [0]]
def made_Dice_Some_N1 : List NS := [.own 5 (.int .i64), .keep [0, 1, 5, 6], .cmp]
def made_Dice_Some_C4 : TC := (.cond (.t 9) .skip (.exit 0))
def made_Dice_Some_C8 : TC := (.cond (.t 14) (.rg [⟨⟨some 15, (.mov (.t 5)), none⟩, {}⟩, ⟨⟨some 16, (.mov (.t 6)), none⟩, {}⟩, ⟨⟨some 17, (.bslice false 1 [(I 0)] 1 [(0, (.t 16))]), none⟩, ⟨(.int .i64), none⟩⟩, ⟨⟨some 18, (.app 1 8 (.t 15) (.t 17)), none⟩, {}⟩, ⟨⟨some 5, (.mov (.t 18)), none⟩, {}⟩] none) .skip)
def made_Dice_Some_C9 : TC := (.rg [⟨⟨some 10, (.mov (.t 6)), none⟩, {}⟩, ⟨⟨some 11, (.bin .add (.t 10) (.c (I 1))), none⟩, {}⟩, ⟨⟨some 6, (.mov (.t 11)), none⟩, {}⟩] none)
def made_Dice_Some_C5 : TC := (.seq (.block 1 (.seq (.rg [⟨⟨some 12, (.mov (.t 0)), none⟩, {}⟩, ⟨⟨some 13, (.call (.c (.fn 17 [])) [(.t 12), (.c (I 3))]), none⟩, {}⟩, ⟨⟨some 14, (.bin .eql (.t 13) (.c (I 0))), none⟩, {}⟩] none) made_Dice_Some_C8)) made_Dice_Some_C9)
def made_Dice_Some_C1 : TC := (.seq (.seq (.rg [⟨⟨some 7, (.mov (.t 6)), none⟩, {}⟩, ⟨⟨some 8, (.mov (.t 1)), none⟩, {}⟩, ⟨⟨some 9, (.bin .lss (.t 7) (.t 8)), none⟩, {}⟩] none) made_Dice_Some_C4) made_Dice_Some_C5)
def made_Dice_Some_C12 : TC := .ret
def made_Dice_Some_C10 : TC := (.pre [.frz 4, .frzo 0, .keep [4], .out [0]] made_Dice_Some_C12)
def made_Dice_Some_C6 : TC := (.seq (.rg [⟨⟨some 19, (.mov (.t 5)), none⟩, {}⟩, ⟨⟨some 4, (.mov (.t 19)), none⟩, {}⟩] none) made_Dice_Some_C10)
def made_Dice_Some_C2 : TC := (.pre [.frz 5] made_Dice_Some_C6)
def made_Dice_Some_C13 : TC := (.block 0 (.loop made_Dice_Some_N1 made_Dice_Some_C1))
def made_Dice_Some_C11 : TC := (.seq (.seq (.rg [⟨⟨some 6, (.mov (.c (I 0))), none⟩, {}⟩] none) made_Dice_Some_C13) made_Dice_Some_C2)
def made_Dice_Some_C7 : TC := (.seq (.rg [⟨⟨some 5, (.mov (.c (.lst true []))), none⟩, {}⟩] none) made_Dice_Some_C11)
def made_Dice_Some_C3 : TC := (.seq (.rg [⟨⟨some 4, (.mov (.c (.lst true []))), none⟩, {}⟩] none) made_Dice_Some_C7)
def made_Dice_Some_E (N : Nat) : List (Nat × Ent) := [(17, sfE [none, none] [.b (.v G_Dice), .v (.int .i64)] [.v (.int .i64)] (fun x => made_Dice_Next N x.1 x.2))]
def made_Dice_Some_L1 (N : Nat) (n : Nat) (x1 : Int) (x2 : Int) (x3 : List Int) (x4 : Int) (x5 : List Int) : Option ((List Int) × T_Dice) := loopN (normI 1 made_Dice_Some_N1) (run (made_Dice_Some_E N) N 1 made_Dice_Some_C1) n ⟨[(0, .ptr 0 0 0), (1, .int .i64 x1), (5, .whole 1), (6, .int .i64 x2)], [some (.box 0 [.lst false (.int .i64) x3, .int .i64 x4]), some (.arr (.int .i64) x5)]⟩ (blkK 0 (seqK (run (made_Dice_Some_E N) N 1 made_Dice_Some_C2) (finS made_Dice_Some_NE [(.t 4)] [.b (.v G_Dice), .v (.int .i64)] [.v (.list (.int .i64))] 1 1)))
theorem made_Dice_Some_L1_zero (N : Nat) (x1 : Int) (x2 : Int) (x3 : List Int) (x4 : Int) (x5 : List Int) : made_Dice_Some_L1 N 0 x1 x2 x3 x4 x5 = none := rfl
theorem made_Dice_Some_L1_succ (N : Nat) (n1 : Nat) (x1 : Int) (x2 : Int) (x3 : List Int) (x4 : Int) (x5 : List Int) : made_Dice_Some_L1 N (n1 + 1) x1 x2 x3 x4 x5 =
  bif (decide (x2 < x1)) then
    Option.bind (made_Dice_Next N (x3, x4) 3) fun r6 =>
    bif (r6.1 == 0) then
      bif fitsB (x5.length + 1) 8 then
      made_Dice_Some_L1 N n1 x1 (W (x2 + 1)) r6.2.1 r6.2.2 (x5 ++ [x2])
      else none
    else
      made_Dice_Some_L1 N n1 x1 (W (x2 + 1)) r6.2.1 r6.2.2 x5
  else
    some (x5, (x3, x4)) := by kernel_rfl
def made_Dice_Some (N : Nat) (a0 : T_Dice) (a1 : Int) : Option ((List Int) × T_Dice) :=
  made_Dice_Some_L1 N N a1 0 a0.1 a0.2 []
theorem made_Dice_Some_fn : FnOK Try.prog 16 20 (fun _ : Nat => false) made_Dice_Some_C3.er [(.t 4)] := FnOK.mk' Try.func16 (by kernel_rfl) (by kernel_rfl) (by kernel_rfl) (by kernel_rfl) (by kernel_rfl)
theorem made_Dice_Some_envok (N : Nat) : EnvOK Try.prog (made_Dice_Some_E N) := .cons (sfE_ok (made_Dice_Next_sf N)) (.nil)
theorem made_Dice_Some_sf (N : Nat) : SFOK Try.prog 16 [none, none] [.b (.v G_Dice), .v (.int .i64)] [.v (.list (.int .i64))] (fun x => made_Dice_Some N x.1 x.2) := sfOK (N := N) (p := 1) (q := 1) (ns := made_Dice_Some_NE) mixed made_Dice_Some_fn (made_Dice_Some_envok N) rfl rfl rfl (fun x => by kernel_rfl)
/-! law35_ClearanceRaw -/
def law35_ClearanceRaw_C12 : TC := .ret
def law35_ClearanceRaw_C11 : TC := (.seq (.rg [⟨⟨some 55, (.call (.c (.fn 8 [])) []), none⟩, {}⟩, ⟨⟨some 56, (.mov (.t 55)), none⟩, {}⟩, ⟨⟨some 57, (.load true 2 (.t 8)), some (56, true)⟩, {}⟩, ⟨⟨some 58, (.mov (.t 1)), some (56, true)⟩, {}⟩, ⟨⟨some 59, (.load true 2 (.t 10)), some (56, true)⟩, {}⟩, ⟨⟨some 60, (.mov (.t 7)), some (56,
  true)⟩, {}⟩, ⟨⟨some 61, (.fadr 1 (.t 8)), some (56, true)⟩, {}⟩, ⟨⟨some 62, (.load false 1 (.t 61)), some (56, true)⟩, {}⟩, ⟨⟨some 63, (.len (.t 62)), some (56, true)⟩, {}⟩, ⟨⟨some 64, (.call (.c (.fn 16 [])) [(.t 60), (.t 63)]), some (56, true)⟩, {}⟩, ⟨⟨some 65, (.load true 4 (.t 12)), some (56,
  true)⟩, {}⟩, ⟨⟨some 66, (.call (.c (.fn 15 [])) [(.t 57), (.t 58), (.t 59), (.t 64), (.t 65)]), some (56, true)⟩, {}⟩, ⟨⟨some 67, (.pick (.t 56) (.t 66) (.c (B false))), none⟩, {}⟩, ⟨⟨some 68, (.mov (.t 67)), none⟩, {}⟩, ⟨⟨some 69, (.load true 2 (.t 8)), some (68, true)⟩, {}⟩, ⟨⟨some 70, (.mov (.t
  9)), some (68, true)⟩, {}⟩, ⟨⟨some 71, (.load true 2 (.t 5)), some (68, true)⟩, {}⟩, ⟨⟨some 72, (.mov (.t 7)), some (68, true)⟩, {}⟩, ⟨⟨some 73, (.fadr 1 (.t 8)), some (68, true)⟩, {}⟩, ⟨⟨some 74, (.load false 1 (.t 73)), some (68, true)⟩, {}⟩, ⟨⟨some 75, (.len (.t 74)), some (68, true)⟩, {}⟩,
  ⟨⟨some 76, (.call (.c (.fn 16 [])) [(.t 72), (.t 75)]), some (68, true)⟩, {}⟩, ⟨⟨some 77, (.load true 4 (.t 12)), some (68, true)⟩, {}⟩, ⟨⟨some 78, (.call (.c (.fn 15 [])) [(.t 69), (.t 70), (.t 71), (.t 76), (.t 77)]), some (68, true)⟩, {}⟩, ⟨⟨some 79, (.pick (.t 68) (.t 78) (.c (B false))),
  none⟩, {}⟩, ⟨⟨some 80, (.mov (.t 79)), none⟩, {}⟩, ⟨⟨some 81, (.load true 2 (.t 8)), some (80, true)⟩, {}⟩, ⟨⟨some 82, (.mov (.t 9)), some (80, true)⟩, {}⟩, ⟨⟨some 83, (.load true 2 (.t 10)), some (80, true)⟩, {}⟩, ⟨⟨some 84, (.mov (.t 11)), some (80, true)⟩, {}⟩, ⟨⟨some 85, (.load true 4 (.t 12)),
  some (80, true)⟩, {}⟩, ⟨⟨some 86, (.call (.c (.fn 15 [])) [(.t 81), (.t 82), (.t 83), (.t 84), (.t 85)]), some (80, true)⟩, {}⟩, ⟨⟨some 87, (.pick (.t 80) (.t 86) (.c (B false))), none⟩, {}⟩, ⟨⟨some 6, (.mov (.t 87)), none⟩, {}⟩] (some [(2, 9), (4, 9), (9, 10), (14, 21), (16, 21), (21, 22)]))
  law35_ClearanceRaw_C12)
def law35_ClearanceRaw_C10 : TC := (.seq (.pre [.wait] (.rg [⟨⟨some 40, (.mov (.t 7)), none⟩, {}⟩, ⟨⟨some 41, (.bslice false 1 [(I 0)] 5 [(0, (.c (I 30))), (1, (.c (I 0))), (2, (.c (I (-1)))), (3, (.c (I 1000000))), (4, (.c (I 1000001)))]), none⟩, ⟨(.int .i64), none⟩⟩, ⟨⟨some 42, (.call (.c (.fn 14 [])) [(.t 40), (.t 41)]), none⟩,
  {}⟩, ⟨⟨some 43, (.mov (.t 7)), none⟩, {}⟩, ⟨⟨some 44, (.fadr 0 (.t 5)), none⟩, {}⟩, ⟨⟨some 45, (.load false 1 (.t 44)), none⟩, {}⟩, ⟨⟨some 46, (.bslice false 1 [(I 0)] 5 [(0, (.t 45)), (1, (.c (I 500))), (2, (.c (I (-1)))), (3, (.c (I 2147483648))), (4, (.c (I 2147483649)))]), none⟩, ⟨(.int .i64),
  none⟩⟩, ⟨⟨some 47, (.call (.c (.fn 14 [])) [(.t 43), (.t 46)]), none⟩, {}⟩, ⟨⟨some 48, (.mov (.t 7)), none⟩, {}⟩, ⟨⟨some 49, (.bslice false 1 [(I 0)] 5 [(0, (.c (I 60))), (1, (.c (I 0))), (2, (.c (I 3600))), (3, (.c (I 3601))), (4, (.c (I (-5))))]), none⟩, ⟨(.int .i64), none⟩⟩, ⟨⟨some 50, (.call
  (.c (.fn 14 [])) [(.t 48), (.t 49)]), none⟩, {}⟩, ⟨⟨some 51, (.mov (.t 7)), none⟩, {}⟩, ⟨⟨some 52, (.bslice false 1 [(I 0)] 5 [(0, (.c (I 5))), (1, (.c (I 0))), (2, (.c (I 20))), (3, (.c (I (-1)))), (4, (.c (I 1001)))]), none⟩, ⟨(.int .i64), none⟩⟩, ⟨⟨some 53, (.call (.c (.fn 14 [])) [(.t 51), (.t
  52)]), none⟩, {}⟩, ⟨⟨some 54, (.build [(I 0), (I 0), (I 0), (I 0)] [(0, (1, (.t 42))), (1, (1, (.t 47))), (2, (1, (.t 50))), (3, (1, (.t 53)))]), none⟩, {}⟩, ⟨⟨some 12, (.alloc [(I 0), (I 0), (I 0), (I 0)]), none⟩, ⟨.unit, some 4⟩⟩, ⟨⟨none, (.store 4 (.t 12) (.t 54)), none⟩, {}⟩] (some [(2, 4), (2,
  5), (2, 15), (4, 15), (5, 15), (7, 15), (10, 15), (13, 15)]))) law35_ClearanceRaw_C11)
def law35_ClearanceRaw_C8 : TC := (.seq (.rg [⟨⟨some 38, (.mov (.t 7)), none⟩, {}⟩, ⟨⟨some 39, (.call (.c (.fn 13 [])) [(.t 38)]), none⟩, {}⟩, ⟨⟨some 11, (.mov (.t 39)), none⟩, {}⟩] none) law35_ClearanceRaw_C10)
def law35_ClearanceRaw_C5 : TC := (.seq (.pre [.wait] (.rg [⟨⟨some 32, (.mov (.t 7)), none⟩, {}⟩, ⟨⟨some 33, (.load true 2 (.t 8)), none⟩, {}⟩, ⟨⟨some 34, (.call (.c (.fn 11 [])) [(.t 32), (.t 33)]), none⟩, {}⟩, ⟨⟨some 35, (.mov (.t 7)), none⟩, {}⟩, ⟨⟨some 36, (.load true 2 (.t 8)), none⟩, {}⟩, ⟨⟨some 37, (.call (.c (.fn 12 [])) [(.t
  35), (.t 36)]), none⟩, {}⟩, ⟨⟨some 10, (.alloc [(I 0), (.lst true [])]), none⟩, ⟨.unit, some 3⟩⟩, ⟨⟨some 9, (.mov (.t 34)), none⟩, {}⟩, ⟨⟨none, (.store 2 (.t 10) (.t 37)), none⟩, {}⟩] (some [(2, 4), (1, 6), (2, 6), (4, 6), (5, 6)]))) law35_ClearanceRaw_C8)
def law35_ClearanceRaw_C3 : TC := (.seq (.rg [⟨⟨some 30, (.mov (.t 7)), none⟩, {}⟩, ⟨⟨some 31, (.call (.c (.fn 10 [])) [(.t 30)]), none⟩, {}⟩, ⟨⟨some 8, (.alloc [(.lst true []), (.lst true [])]), none⟩, {}⟩, ⟨⟨none, (.store 2 (.t 8) (.t 31)), none⟩, {}⟩] none) law35_ClearanceRaw_C5)
def law35_ClearanceRaw_C1 : TC := (.seq (.rg [⟨⟨some 28, (.mov (.t 0)), none⟩, {}⟩, ⟨⟨some 29, (.call (.c (.fn 9 [])) [(.t 28)]), none⟩, {}⟩, ⟨⟨some 7, (.mov (.t 29)), none⟩, {}⟩] none) law35_ClearanceRaw_C3)
def law35_ClearanceRaw_C9 : TC := .ret
def law35_ClearanceRaw_C6 : TC := (.cond (.t 26) (.seq (.rg [⟨⟨some 27, (.call (.c (.fn 8 [])) []), none⟩, {}⟩, ⟨⟨some 6, (.mov (.t 27)), none⟩, {}⟩] none) law35_ClearanceRaw_C9) .skip)
def law35_ClearanceRaw_C7 : TC := (.join [.wk 0 (.list (.int .i64)), .wk 1 (.list G_Span), .keep [0, 1, 5], .cmp] law35_ClearanceRaw_C1)
def law35_ClearanceRaw_C4 : TC := (.seq (.seq (.rg [⟨⟨some 13, (.mov (.t 0)), none⟩, {}⟩, ⟨⟨some 14, (.call (.c (.fn 7 [])) [(.t 13)]), none⟩, {}⟩, ⟨⟨some 15, (.un .not (.t 14)), none⟩, {}⟩, ⟨⟨some 16, (.mov (.t 15)), none⟩, {}⟩, ⟨⟨some 17, (.mov (.t 1)), some (16, false)⟩, {}⟩, ⟨⟨some 18, (.len (.t 17)), some (16, false)⟩, {}⟩,
  ⟨⟨some 19, (.bin .gtr (.t 18) (.c (I 140))), some (16, false)⟩, {}⟩, ⟨⟨some 20, (.pick (.t 16) (.c (B true)) (.t 19)), none⟩, {}⟩, ⟨⟨some 21, (.mov (.t 20)), none⟩, {}⟩, ⟨⟨some 22, (.fadr 1 (.t 5)), some (21, false)⟩, {}⟩, ⟨⟨some 23, (.load false 1 (.t 22)), some (21, false)⟩, {}⟩, ⟨⟨some 24, (.len
  (.t 23)), some (21, false)⟩, {}⟩, ⟨⟨some 25, (.bin .gtr (.t 24) (.c (I 140))), some (21, false)⟩, {}⟩, ⟨⟨some 26, (.pick (.t 21) (.c (B true)) (.t 25)), none⟩, {}⟩] none) law35_ClearanceRaw_C6) law35_ClearanceRaw_C7)
def law35_ClearanceRaw_C2 : TC := (.seq (.rg [⟨⟨some 5, (.box (.t 2)), none⟩, {}⟩, ⟨⟨some 6, (.mov (.c (B false))), none⟩, {}⟩] none) law35_ClearanceRaw_C4)
def law35_ClearanceRaw_E (N : Nat) : List (Nat × Ent) := [(7, pureE [(.list (.int .i64))] [.bool] (fun x => made_Light N x)), (8, pureE [] [.bool] (fun x => law35_awake N)), (9, sfE [none] [.v (.list (.int .i64))] [.n G_Dice] (fun x => made_Roll N x)), (10, sfE [none] [.b (.v G_Dice)] [.v G_Mine] (fun x => made_Dice_Mine N x)), (11, sfE [none, none] [.b (.v G_Dice), .v G_Mine] [.v (.list G_Span)] (fun x => made_Dice_Flows N x.1 x.2)), (12, sfE [none, none] [.b (.v G_Dice), .v G_Mine] [.v G_Fumes] (fun x => law35_fumes N x.1 x.2)), (13, sfE [none] [.b (.v G_Dice)] [.v (.list (.int .i64))] (fun x => made_Dice_Ints N x)), (14, sfE [none, none] [.b (.v G_Dice), .v (.list (.int .i64))] [.v (.int .i64)] (fun x => made_Dice_Of N x.1 x.2)), (16, sfE [none, none] [.b (.v G_Dice), .v (.int .i64)] [.v (.list (.int .i64))] (fun x => made_Dice_Some N x.1 x.2)), (15, pureE [G_Mine, (.list G_Span), G_Fumes, (.list (.int .i64)), (.pair (.int .i64) (.pair (.int .i64) (.pair (.int .i64) (.int .i64))))] [.bool] (fun x => law35_agree N x.1 x.2.1 x.2.2.1 x.2.2.2.1 x.2.2.2.2))]
def law35_ClearanceRaw_J1 (N : Nat) (x5 : List Int) (x6 : List T_Span) (x7 : Int) (x8 : List Int) : Option Bool := joinN (run (law35_ClearanceRaw_E N) N 0 law35_ClearanceRaw_C1) N ⟨[(0, .lst false (.int .i64) x5), (1, .lst false G_Span x6), (5, .ptr 0 0 0)], [some (.box 0 [.int .i64 x7, .lst false (.int .i64) x8])]⟩ (fin [(.t 6)] [.bool])
theorem law35_ClearanceRaw_J1_eq (N : Nat) (x5 : List Int) (x6 : List T_Span) (x7 : Int) (x8 : List Int) : law35_ClearanceRaw_J1 (N + 1) x5 x6 x7 x8 =
  Option.bind (made_Roll (N + 1) x5) fun r9 =>
  Option.bind (made_Dice_Mine (N + 1) r9.1) fun r10 =>
  Option.bind (made_Dice_Flows (N + 1) r10.2 r10.1) fun r11 =>
  Option.bind (law35_fumes (N + 1) r11.2 r10.1) fun r12 =>
  Option.bind (made_Dice_Ints (N + 1) r12.2) fun r13 =>
  Option.bind (made_Dice_Of (N + 1) r13.2 [30, 0, (-1), 1000000, 1000001]) fun r14 =>
  Option.bind (made_Dice_Of (N + 1) r14.2 [x7, 500, (-1), 2147483648, 2147483649]) fun r15 =>
  Option.bind (made_Dice_Of (N + 1) r15.2 [60, 0, 3600, 3601, (-5)]) fun r16 =>
  Option.bind (made_Dice_Of (N + 1) r16.2 [5, 0, 20, (-1), 1001]) fun r17 =>
  Option.bind (law35_awake (N + 1)) fun r18 =>
  bif r18 then
    Option.bind (made_Dice_Some (N + 1) r17.2 (r10.1.2.length : Int)) fun r19 =>
    Option.bind (law35_agree (N + 1) r10.1 x6 r12.1 r19.1 (r14.1, (r15.1, (r16.1, r17.1)))) fun r20 =>
    bif r20 then
      Option.bind (made_Dice_Some (N + 1) r19.2 (r10.1.2.length : Int)) fun r21 =>
      Option.bind (law35_agree (N + 1) r10.1 r11.1 (x7, x8) r21.1 (r14.1, (r15.1, (r16.1, r17.1)))) fun r22 =>
      bif r22 then
        Option.bind (law35_agree (N + 1) r10.1 r11.1 r12.1 r13.1 (r14.1, (r15.1, (r16.1, r17.1)))) fun r23 =>
        some r23
      else
        some false
    else
      some false
  else
    some false := by kernel_rfl
def law35_ClearanceRaw (N : Nat) (a0 : List Int) (a1 : List T_Span) (a2 : T_Fumes) : Option Bool :=
  Option.bind (made_Light N a0) fun r1 =>
  bif (!r1) then
    Option.bind (law35_awake N) fun r2 =>
    some r2
  else
    bif (decide ((a1.length : Int) > 140)) then
      Option.bind (law35_awake N) fun r3 =>
      some r3
    else
      bif (decide ((a2.2.length : Int) > 140)) then
        Option.bind (law35_awake N) fun r4 =>
        some r4
      else
        law35_ClearanceRaw_J1 N a0 a1 a2.1 a2.2
theorem law35_ClearanceRaw_fn : FnOK Try.prog 3 88 (fun _ : Nat => false) law35_ClearanceRaw_C2.er [(.t 6)] := FnOK.mk' Try.func3 (by kernel_rfl) (by kernel_rfl) (by kernel_rfl) (by kernel_rfl) (by kernel_rfl)
theorem law35_ClearanceRaw_envok (N : Nat) : EnvOK Try.prog (law35_ClearanceRaw_E N) := .cons (pureE_ok (made_Light_pure N)) (.cons (pureE_ok (law35_awake_pure N)) (.cons (sfE_ok (made_Roll_sf N)) (.cons (sfE_ok (made_Dice_Mine_sf N)) (.cons (sfE_ok (made_Dice_Flows_sf N)) (.cons (sfE_ok (law35_fumes_sf N)) (.cons (sfE_ok (made_Dice_Ints_sf N)) (.cons (sfE_ok (made_Dice_Of_sf N)) (.cons (sfE_ok (made_Dice_Some_sf N)) (.cons (pureE_ok (law35_agree_pure N)) (.nil))))))))))
theorem law35_ClearanceRaw_pure (N : Nat) : PureOK Try.prog 3 [(.list (.int .i64)), (.list G_Span), G_Fumes] [.bool] (fun x => law35_ClearanceRaw N x.1 x.2.1 x.2.2) := pureOK (N := N) mixed law35_ClearanceRaw_fn (law35_ClearanceRaw_envok N) rfl (fun x => by kernel_rfl)
/-! law35_ClearanceSinks -/
def law35_ClearanceSinks_N1 : List NS := [.wk 5 (.list G_Span), .keep [4, 5, 6, 8, 10, 12, 14], .cmp]
def law35_ClearanceSinks_N2 : List NS := [.wk 5 (.list G_Span), .wk 15 (.list (.int .i64)), .keep [4, 5, 6, 8, 10, 12, 14, 15, 16, 17], .cmp]
def law35_ClearanceSinks_C18 : TC := .ret
def law35_ClearanceSinks_C9 : TC := (.cond (.t 216) (.seq (.rg [⟨⟨some 2, (.mov (.c (B false))), none⟩, {}⟩] none) law35_ClearanceSinks_C18) .skip)
def law35_ClearanceSinks_C1 : TC := (.seq (.rg [⟨⟨some 175, (.fadr 1 (.t 8)), none⟩, {}⟩, ⟨⟨some 176, (.load false 1 (.t 175)), none⟩, {}⟩, ⟨⟨some 177, (.mov (.t 14)), none⟩, {}⟩, ⟨⟨some 178, (.iadrS 1 (.t 176) (.t 177)), none⟩, {}⟩, ⟨⟨some 179, (.load false 1 (.t 178)), none⟩, {}⟩, ⟨⟨some 180, (.mov (.t 16)), none⟩, {}⟩, ⟨⟨some 181,
  (.bin .gtr (.t 179) (.t 180)), none⟩, {}⟩, ⟨⟨some 182, (.mov (.t 181)), none⟩, {}⟩, ⟨⟨some 183, (.mov (.t 18)), some (182, false)⟩, {}⟩, ⟨⟨some 184, (.mov (.t 183)), some (182, false)⟩, {}⟩, ⟨⟨some 185, (.fadr 1 (.t 8)), some (184, true)⟩, {}⟩, ⟨⟨some 186, (.load false 1 (.t 185)), some (184,
  true)⟩, {}⟩, ⟨⟨some 187, (.mov (.t 14)), some (184, true)⟩, {}⟩, ⟨⟨some 188, (.iadrS 1 (.t 186) (.t 187)), some (184, true)⟩, {}⟩, ⟨⟨some 189, (.load false 1 (.t 188)), some (184, true)⟩, {}⟩, ⟨⟨some 190, (.fadr 1 (.t 6)), some (184, true)⟩, {}⟩, ⟨⟨some 191, (.load false 1 (.t 190)), some (184,
  true)⟩, {}⟩, ⟨⟨some 192, (.mov (.t 14)), some (184, true)⟩, {}⟩, ⟨⟨some 193, (.iadrS 1 (.t 191) (.t 192)), some (184, true)⟩, {}⟩, ⟨⟨some 194, (.load false 1 (.t 193)), some (184, true)⟩, {}⟩, ⟨⟨some 195, (.bin .lss (.t 189) (.t 194)), some (184, true)⟩, {}⟩, ⟨⟨some 196, (.pick (.t 184) (.t 195)
  (.c (B false))), some (182, false)⟩, {}⟩, ⟨⟨some 197, (.pick (.t 182) (.c (B true)) (.t 196)), none⟩, {}⟩, ⟨⟨some 198, (.mov (.t 197)), none⟩, {}⟩, ⟨⟨some 199, (.mov (.t 15)), some (198, false)⟩, {}⟩, ⟨⟨some 200, (.len (.t 199)), some (198, false)⟩, {}⟩, ⟨⟨some 201, (.bin .eql (.t 200) (.c (I 0))),
  some (198, false)⟩, {}⟩, ⟨⟨some 202, (.mov (.t 201)), some (198, false)⟩, {}⟩, ⟨⟨some 203, (.fadr 1 (.t 10)), some (202, true)⟩, {}⟩, ⟨⟨some 204, (.load false 1 (.t 203)), some (202, true)⟩, {}⟩, ⟨⟨some 205, (.mov (.t 14)), some (202, true)⟩, {}⟩, ⟨⟨some 206, (.iadrS 1 (.t 204) (.t 205)), some
  (202, true)⟩, {}⟩, ⟨⟨some 207, (.load false 1 (.t 206)), some (202, true)⟩, {}⟩, ⟨⟨some 208, (.fadr 1 (.t 12)), some (202, true)⟩, {}⟩, ⟨⟨some 209, (.load false 1 (.t 208)), some (202, true)⟩, {}⟩, ⟨⟨some 210, (.mov (.t 14)), some (202, true)⟩, {}⟩, ⟨⟨some 211, (.iadrS 1 (.t 209) (.t 210)), some
  (202, true)⟩, {}⟩, ⟨⟨some 212, (.load false 1 (.t 211)), some (202, true)⟩, {}⟩, ⟨⟨some 213, (.bin .add (.t 212) (.c (I 2))), some (202, true)⟩, {}⟩, ⟨⟨some 214, (.bin .gtr (.t 207) (.t 213)), some (202, true)⟩, {}⟩, ⟨⟨some 215, (.pick (.t 202) (.t 214) (.c (B false))), some (198, false)⟩, {}⟩,
  ⟨⟨some 216, (.pick (.t 198) (.c (B true)) (.t 215)), none⟩, {}⟩] (some [])) law35_ClearanceSinks_C9)
def law35_ClearanceSinks_C2 : TC := (.rg [⟨⟨some 111, (.mov (.t 14)), none⟩, {}⟩, ⟨⟨some 112, (.bin .add (.t 111) (.c (I 1))), none⟩, {}⟩, ⟨⟨some 14, (.mov (.t 112)), none⟩, {}⟩] none)
def law35_ClearanceSinks_C10 : TC := (.cond (.t 110) .skip (.exit 0))
def law35_ClearanceSinks_C13 : TC := (.cond (.t 125) .skip (.exit 2))
def law35_ClearanceSinks_C26 : TC := .ret
def law35_ClearanceSinks_C20 : TC := (.cond (.t 142) (.seq (.rg [⟨⟨some 2, (.mov (.c (B false))), none⟩, {}⟩] none) law35_ClearanceSinks_C26) .skip)
def law35_ClearanceSinks_C21 : TC := (.rg [⟨⟨some 143, (.mov (.t 16)), none⟩, {}⟩, ⟨⟨some 144, (.fadr 1 (.t 6)), none⟩, {}⟩, ⟨⟨some 145, (.load false 1 (.t 144)), none⟩, {}⟩, ⟨⟨some 146, (.mov (.t 15)), none⟩, {}⟩, ⟨⟨some 147, (.mov (.t 17)), none⟩, {}⟩, ⟨⟨some 148, (.iadrS 1 (.t 146) (.t 147)), none⟩, {}⟩, ⟨⟨some 149, (.load false 1
  (.t 148)), none⟩, {}⟩, ⟨⟨some 150, (.iadrS 1 (.t 145) (.t 149)), none⟩, {}⟩, ⟨⟨some 151, (.load false 1 (.t 150)), none⟩, {}⟩, ⟨⟨some 152, (.mm true [(.t 143), (.t 151)]), none⟩, {}⟩, ⟨⟨some 16, (.mov (.t 152)), none⟩, {}⟩] (some []))
def law35_ClearanceSinks_C22 : TC := (.rg [⟨⟨some 126, (.mov (.t 17)), none⟩, {}⟩, ⟨⟨some 127, (.bin .add (.t 126) (.c (I 1))), none⟩, {}⟩, ⟨⟨some 17, (.mov (.t 127)), none⟩, {}⟩] none)
def law35_ClearanceSinks_C14 : TC := (.seq (.block 3 (.seq (.seq (.rg [⟨⟨some 128, (.mov (.t 15)), none⟩, {}⟩, ⟨⟨some 129, (.mov (.t 17)), none⟩, {}⟩, ⟨⟨some 130, (.iadrS 1 (.t 128) (.t 129)), none⟩, {}⟩, ⟨⟨some 131, (.load false 1 (.t 130)), none⟩, {}⟩, ⟨⟨some 132, (.bin .lss (.t 131) (.c (I 0))), none⟩, {}⟩, ⟨⟨some 133, (.mov (.t
  132)), none⟩, {}⟩, ⟨⟨some 134, (.mov (.t 15)), some (133, false)⟩, {}⟩, ⟨⟨some 135, (.mov (.t 17)), some (133, false)⟩, {}⟩, ⟨⟨some 136, (.iadrS 1 (.t 134) (.t 135)), some (133, false)⟩, {}⟩, ⟨⟨some 137, (.load false 1 (.t 136)), some (133, false)⟩, {}⟩, ⟨⟨some 138, (.fadr 1 (.t 4)), some (133,
  false)⟩, {}⟩, ⟨⟨some 139, (.load false 1 (.t 138)), some (133, false)⟩, {}⟩, ⟨⟨some 140, (.len (.t 139)), some (133, false)⟩, {}⟩, ⟨⟨some 141, (.bin .geq (.t 137) (.t 140)), some (133, false)⟩, {}⟩, ⟨⟨some 142, (.pick (.t 133) (.c (B true)) (.t 141)), none⟩, {}⟩] (some []))
  law35_ClearanceSinks_C20) law35_ClearanceSinks_C21)) law35_ClearanceSinks_C22)
def law35_ClearanceSinks_C5 : TC := (.seq (.seq (.rg [⟨⟨some 122, (.mov (.t 17)), none⟩, {}⟩, ⟨⟨some 123, (.mov (.t 15)), none⟩, {}⟩, ⟨⟨some 124, (.len (.t 123)), none⟩, {}⟩, ⟨⟨some 125, (.bin .lss (.t 122) (.t 124)), none⟩, {}⟩] none) law35_ClearanceSinks_C13) law35_ClearanceSinks_C14)
def law35_ClearanceSinks_C29 : TC := (.block 2 (.loop law35_ClearanceSinks_N2 law35_ClearanceSinks_C5))
def law35_ClearanceSinks_C15 : TC := (.join [.wk 5 (.list G_Span), .wk 15 (.list (.int .i64)), .keep [4, 5, 6, 8, 10, 12, 14, 15, 16, 18], .cmp] law35_ClearanceSinks_C1)
def law35_ClearanceSinks_C6 : TC := (.seq (.rg [⟨⟨some 153, (.fadr 1 (.t 4)), none⟩, {}⟩, ⟨⟨some 154, (.load false 1 (.t 153)), none⟩, {}⟩, ⟨⟨some 155, (.mov (.t 14)), none⟩, {}⟩, ⟨⟨some 156, (.iadrS 10 (.t 154) (.t 155)), none⟩, {}⟩, ⟨⟨some 157, (.fadr 5 (.t 156)), none⟩, {}⟩, ⟨⟨some 158, (.load false 1 (.t 157)), none⟩, {}⟩, ⟨⟨some
  159, (.mov (.t 158)), none⟩, {}⟩, ⟨⟨some 160, (.mov (.t 5)), some (159, false)⟩, {}⟩, ⟨⟨some 161, (.mov (.t 14)), some (159, false)⟩, {}⟩, ⟨⟨some 162, (.iadrS 2 (.t 160) (.t 161)), some (159, false)⟩, {}⟩, ⟨⟨some 163, (.fadr 0 (.t 162)), some (159, false)⟩, {}⟩, ⟨⟨some 164, (.load false 1 (.t
  163)), some (159, false)⟩, {}⟩, ⟨⟨some 165, (.bin .leq (.t 164) (.c (I 0))), some (159, false)⟩, {}⟩, ⟨⟨some 166, (.mov (.t 165)), some (159, false)⟩, {}⟩, ⟨⟨some 167, (.mov (.t 5)), some (166, true)⟩, {}⟩, ⟨⟨some 168, (.mov (.t 14)), some (166, true)⟩, {}⟩, ⟨⟨some 169, (.iadrS 2 (.t 167) (.t
  168)), some (166, true)⟩, {}⟩, ⟨⟨some 170, (.fadr 1 (.t 169)), some (166, true)⟩, {}⟩, ⟨⟨some 171, (.load false 1 (.t 170)), some (166, true)⟩, {}⟩, ⟨⟨some 172, (.bin .geq (.t 171) (.c (I 0))), some (166, true)⟩, {}⟩, ⟨⟨some 173, (.pick (.t 166) (.t 172) (.c (B false))), some (159, false)⟩, {}⟩,
  ⟨⟨some 174, (.pick (.t 159) (.c (B true)) (.t 173)), none⟩, {}⟩, ⟨⟨some 18, (.mov (.t 174)), none⟩, {}⟩] none) law35_ClearanceSinks_C15)
def law35_ClearanceSinks_C25 : TC := (.seq (.seq (.rg [⟨⟨some 17, (.mov (.c (I 0))), none⟩, {}⟩] none) law35_ClearanceSinks_C29) law35_ClearanceSinks_C6)
def law35_ClearanceSinks_C19 : TC := (.seq (.rg [⟨⟨some 117, (.fadr 1 (.t 6)), none⟩, {}⟩, ⟨⟨some 118, (.load false 1 (.t 117)), none⟩, {}⟩, ⟨⟨some 119, (.mov (.t 14)), none⟩, {}⟩, ⟨⟨some 120, (.iadrS 1 (.t 118) (.t 119)), none⟩, {}⟩, ⟨⟨some 121, (.load false 1 (.t 120)), none⟩, {}⟩, ⟨⟨some 16, (.mov (.t 121)), none⟩, {}⟩] none)
  law35_ClearanceSinks_C25)
def law35_ClearanceSinks_C11 : TC := (.seq (.block 1 (.seq (.rg [⟨⟨some 113, (.load true 2 (.t 4)), none⟩, {}⟩, ⟨⟨some 114, (.mov (.t 5)), none⟩, {}⟩, ⟨⟨some 115, (.mov (.t 14)), none⟩, {}⟩, ⟨⟨some 116, (.call (.c (.fn 19 [])) [(.t 113), (.t 114), (.t 115)]), none⟩, {}⟩, ⟨⟨some 15, (.mov (.t 116)), none⟩, {}⟩] none)
  law35_ClearanceSinks_C19)) law35_ClearanceSinks_C2)
def law35_ClearanceSinks_C3 : TC := (.seq (.seq (.rg [⟨⟨some 106, (.mov (.t 14)), none⟩, {}⟩, ⟨⟨some 107, (.fadr 1 (.t 4)), none⟩, {}⟩, ⟨⟨some 108, (.load false 1 (.t 107)), none⟩, {}⟩, ⟨⟨some 109, (.len (.t 108)), none⟩, {}⟩, ⟨⟨some 110, (.bin .lss (.t 106) (.t 109)), none⟩, {}⟩] none) law35_ClearanceSinks_C10)
  law35_ClearanceSinks_C11)
def law35_ClearanceSinks_C12 : TC := .ret
def law35_ClearanceSinks_C4 : TC := (.seq (.rg [⟨⟨some 217, (.call (.c (.fn 8 [])) []), none⟩, {}⟩, ⟨⟨some 2, (.mov (.t 217)), none⟩, {}⟩] none) law35_ClearanceSinks_C12)
def law35_ClearanceSinks_C16 : TC := (.block 0 (.loop law35_ClearanceSinks_N1 law35_ClearanceSinks_C3))
def law35_ClearanceSinks_C7 : TC := (.seq (.seq (.rg [⟨⟨some 14, (.mov (.c (I 0))), none⟩, {}⟩] none) law35_ClearanceSinks_C16) law35_ClearanceSinks_C4)
def law35_ClearanceSinks_C27 : TC := .ret
def law35_ClearanceSinks_C23 : TC := (.cond (.t 21) (.seq (.rg [⟨⟨some 22, (.call (.c (.fn 8 [])) []), none⟩, {}⟩, ⟨⟨some 2, (.mov (.t 22)), none⟩, {}⟩] none) law35_ClearanceSinks_C27) .skip)
def law35_ClearanceSinks_C38 : TC := .ret
def law35_ClearanceSinks_C36 : TC := (.cond (.t 105) (.seq (.rg [⟨⟨some 2, (.mov (.c (B false))), none⟩, {}⟩] none) law35_ClearanceSinks_C38) .skip)
def law35_ClearanceSinks_C37 : TC := (.join [.wk 5 (.list G_Span), .keep [4, 5, 6, 8, 10, 12], .cmp] law35_ClearanceSinks_C7)
def law35_ClearanceSinks_C35 : TC := (.seq (.seq (.rg [⟨⟨some 69, (.mov (.t 9)), none⟩, {}⟩, ⟨⟨some 70, (.bin .neq (.t 69) (.c (I 0))), none⟩, {}⟩, ⟨⟨some 71, (.mov (.t 70)), none⟩, {}⟩, ⟨⟨some 72, (.mov (.t 11)), some (71, false)⟩, {}⟩, ⟨⟨some 73, (.bin .neq (.t 72) (.c (I 0))), some (71, false)⟩, {}⟩, ⟨⟨some 74, (.pick (.t 71) (.c (B
  true)) (.t 73)), none⟩, {}⟩, ⟨⟨some 75, (.mov (.t 74)), none⟩, {}⟩, ⟨⟨some 76, (.mov (.t 13)), some (75, false)⟩, {}⟩, ⟨⟨some 77, (.bin .neq (.t 76) (.c (I 0))), some (75, false)⟩, {}⟩, ⟨⟨some 78, (.pick (.t 75) (.c (B true)) (.t 77)), none⟩, {}⟩, ⟨⟨some 79, (.mov (.t 78)), none⟩, {}⟩, ⟨⟨some 80,
  (.fadr 1 (.t 8)), some (79, false)⟩, {}⟩, ⟨⟨some 81, (.load false 1 (.t 80)), some (79, false)⟩, {}⟩, ⟨⟨some 82, (.len (.t 81)), some (79, false)⟩, {}⟩, ⟨⟨some 83, (.fadr 1 (.t 4)), some (79, false)⟩, {}⟩, ⟨⟨some 84, (.load false 1 (.t 83)), some (79, false)⟩, {}⟩, ⟨⟨some 85, (.len (.t 84)), some
  (79, false)⟩, {}⟩, ⟨⟨some 86, (.bin .neq (.t 82) (.t 85)), some (79, false)⟩, {}⟩, ⟨⟨some 87, (.pick (.t 79) (.c (B true)) (.t 86)), none⟩, {}⟩, ⟨⟨some 88, (.mov (.t 87)), none⟩, {}⟩, ⟨⟨some 89, (.fadr 1 (.t 10)), some (88, false)⟩, {}⟩, ⟨⟨some 90, (.load false 1 (.t 89)), some (88, false)⟩, {}⟩,
  ⟨⟨some 91, (.len (.t 90)), some (88, false)⟩, {}⟩, ⟨⟨some 92, (.fadr 1 (.t 4)), some (88, false)⟩, {}⟩, ⟨⟨some 93, (.load false 1 (.t 92)), some (88, false)⟩, {}⟩, ⟨⟨some 94, (.len (.t 93)), some (88, false)⟩, {}⟩, ⟨⟨some 95, (.bin .neq (.t 91) (.t 94)), some (88, false)⟩, {}⟩, ⟨⟨some 96, (.pick
  (.t 88) (.c (B true)) (.t 95)), none⟩, {}⟩, ⟨⟨some 97, (.mov (.t 96)), none⟩, {}⟩, ⟨⟨some 98, (.fadr 1 (.t 12)), some (97, false)⟩, {}⟩, ⟨⟨some 99, (.load false 1 (.t 98)), some (97, false)⟩, {}⟩, ⟨⟨some 100, (.len (.t 99)), some (97, false)⟩, {}⟩, ⟨⟨some 101, (.fadr 1 (.t 4)), some (97, false)⟩,
  {}⟩, ⟨⟨some 102, (.load false 1 (.t 101)), some (97, false)⟩, {}⟩, ⟨⟨some 103, (.len (.t 102)), some (97, false)⟩, {}⟩, ⟨⟨some 104, (.bin .neq (.t 100) (.t 103)), some (97, false)⟩, {}⟩, ⟨⟨some 105, (.pick (.t 97) (.c (B true)) (.t 104)), none⟩, {}⟩] none) law35_ClearanceSinks_C36)
  law35_ClearanceSinks_C37)
def law35_ClearanceSinks_C34 : TC := (.seq (.rg [⟨⟨some 58, (.load true 2 (.t 4)), none⟩, {}⟩, ⟨⟨some 59, (.mov (.t 5)), none⟩, {}⟩, ⟨⟨some 60, (.load true 2 (.t 6)), none⟩, {}⟩, ⟨⟨some 61, (.fadr 0 (.t 6)), none⟩, {}⟩, ⟨⟨some 62, (.load false 1 (.t 61)), none⟩, {}⟩, ⟨⟨some 63, (.mov (.t 7)), none⟩, {}⟩, ⟨⟨some 64, (.bin .mul (.c (I 2))
  (.t 63)), none⟩, {}⟩, ⟨⟨some 65, (.bin .add (.t 62) (.t 64)), none⟩, {}⟩, ⟨⟨some 66, (.call (.c (.fn 18 [])) [(.t 58), (.t 59), (.t 60), (.t 65)]), none⟩, {}⟩, ⟨⟨some 57, (.mov (.t 66)), none⟩, {}⟩, ⟨⟨some 67, (.extr 0 (.t 57)), none⟩, {}⟩, ⟨⟨some 68, (.extr 1 (.t 57)), none⟩, {}⟩, ⟨⟨some 12,
  (.alloc [(I 0), (.lst true [])]), none⟩, {}⟩, ⟨⟨none, (.store 2 (.t 12) (.t 67)), none⟩, {}⟩, ⟨⟨some 13, (.mov (.t 68)), none⟩, {}⟩] none) law35_ClearanceSinks_C35)
def law35_ClearanceSinks_C33 : TC := (.seq (.rg [⟨⟨some 47, (.load true 2 (.t 4)), none⟩, {}⟩, ⟨⟨some 48, (.mov (.t 5)), none⟩, {}⟩, ⟨⟨some 49, (.load true 2 (.t 8)), none⟩, {}⟩, ⟨⟨some 50, (.fadr 0 (.t 8)), none⟩, {}⟩, ⟨⟨some 51, (.load false 1 (.t 50)), none⟩, {}⟩, ⟨⟨some 52, (.mov (.t 7)), none⟩, {}⟩, ⟨⟨some 53, (.bin .add (.t 51)
  (.t 52)), none⟩, {}⟩, ⟨⟨some 54, (.call (.c (.fn 18 [])) [(.t 47), (.t 48), (.t 49), (.t 53)]), none⟩, {}⟩, ⟨⟨some 46, (.mov (.t 54)), none⟩, {}⟩, ⟨⟨some 55, (.extr 0 (.t 46)), none⟩, {}⟩, ⟨⟨some 56, (.extr 1 (.t 46)), none⟩, {}⟩, ⟨⟨some 10, (.alloc [(I 0), (.lst true [])]), none⟩, {}⟩, ⟨⟨none,
  (.store 2 (.t 10) (.t 55)), none⟩, {}⟩, ⟨⟨some 11, (.mov (.t 56)), none⟩, {}⟩] none) law35_ClearanceSinks_C34)
def law35_ClearanceSinks_C32 : TC := (.seq (.rg [⟨⟨some 36, (.load true 2 (.t 4)), none⟩, {}⟩, ⟨⟨some 37, (.mov (.t 5)), none⟩, {}⟩, ⟨⟨some 38, (.load true 2 (.t 6)), none⟩, {}⟩, ⟨⟨some 39, (.fadr 0 (.t 6)), none⟩, {}⟩, ⟨⟨some 40, (.load false 1 (.t 39)), none⟩, {}⟩, ⟨⟨some 41, (.mov (.t 7)), none⟩, {}⟩, ⟨⟨some 42, (.bin .add (.t 40)
  (.t 41)), none⟩, {}⟩, ⟨⟨some 43, (.call (.c (.fn 18 [])) [(.t 36), (.t 37), (.t 38), (.t 42)]), none⟩, {}⟩, ⟨⟨some 35, (.mov (.t 43)), none⟩, {}⟩, ⟨⟨some 44, (.extr 0 (.t 35)), none⟩, {}⟩, ⟨⟨some 45, (.extr 1 (.t 35)), none⟩, {}⟩, ⟨⟨some 8, (.alloc [(I 0), (.lst true [])]), none⟩, {}⟩, ⟨⟨none,
  (.store 2 (.t 8) (.t 44)), none⟩, {}⟩, ⟨⟨some 9, (.mov (.t 45)), none⟩, {}⟩] none) law35_ClearanceSinks_C33)
def law35_ClearanceSinks_C31 : TC := (.seq (.rg [⟨⟨some 33, (.mov (.t 3)), none⟩, {}⟩, ⟨⟨some 34, (.call (.c (.fn 17 [])) [(.t 33), (.c (I 300))]), none⟩, {}⟩, ⟨⟨some 7, (.mov (.t 34)), none⟩, {}⟩] none) law35_ClearanceSinks_C32)
def law35_ClearanceSinks_C30 : TC := (.seq (.pre [.wait] (.rg [⟨⟨some 27, (.mov (.t 3)), none⟩, {}⟩, ⟨⟨some 28, (.load true 2 (.t 4)), none⟩, {}⟩, ⟨⟨some 29, (.call (.c (.fn 11 [])) [(.t 27), (.t 28)]), none⟩, {}⟩, ⟨⟨some 30, (.mov (.t 3)), none⟩, {}⟩, ⟨⟨some 31, (.load true 2 (.t 4)), none⟩, {}⟩, ⟨⟨some 32, (.call (.c (.fn 12 [])) [(.t
  30), (.t 31)]), none⟩, {}⟩, ⟨⟨some 6, (.alloc [(I 0), (.lst true [])]), none⟩, ⟨.unit, some 2⟩⟩, ⟨⟨some 5, (.mov (.t 29)), none⟩, {}⟩, ⟨⟨none, (.store 2 (.t 6) (.t 32)), none⟩, {}⟩] (some [(2, 4), (1, 6), (2, 6), (4, 6), (5, 6)]))) law35_ClearanceSinks_C31)
def law35_ClearanceSinks_C28 : TC := (.seq (.rg [⟨⟨some 25, (.mov (.t 3)), none⟩, {}⟩, ⟨⟨some 26, (.call (.c (.fn 10 [])) [(.t 25)]), none⟩, {}⟩, ⟨⟨some 4, (.alloc [(.lst true []), (.lst true [])]), none⟩, {}⟩, ⟨⟨none, (.store 2 (.t 4) (.t 26)), none⟩, {}⟩] none) law35_ClearanceSinks_C30)
def law35_ClearanceSinks_C24 : TC := (.seq (.rg [⟨⟨some 23, (.mov (.t 0)), none⟩, {}⟩, ⟨⟨some 24, (.call (.c (.fn 9 [])) [(.t 23)]), none⟩, {}⟩, ⟨⟨some 3, (.mov (.t 24)), none⟩, {}⟩] none) law35_ClearanceSinks_C28)
def law35_ClearanceSinks_C17 : TC := (.seq (.seq (.rg [⟨⟨some 19, (.mov (.t 0)), none⟩, {}⟩, ⟨⟨some 20, (.call (.c (.fn 7 [])) [(.t 19)]), none⟩, {}⟩, ⟨⟨some 21, (.un .not (.t 20)), none⟩, {}⟩] none) law35_ClearanceSinks_C23) law35_ClearanceSinks_C24)
def law35_ClearanceSinks_C8 : TC := (.seq (.rg [⟨⟨some 2, (.mov (.c (B false))), none⟩, {}⟩] none) law35_ClearanceSinks_C17)
def law35_ClearanceSinks_E (N : Nat) : List (Nat × Ent) := [(7, pureE [(.list (.int .i64))] [.bool] (fun x => made_Light N x)), (8, pureE [] [.bool] (fun x => law35_awake N)), (9, sfE [none] [.v (.list (.int .i64))] [.n G_Dice] (fun x => made_Roll N x)), (10, sfE [none] [.b (.v G_Dice)] [.v G_Mine] (fun x => made_Dice_Mine N x)), (11, sfE [none, none] [.b (.v G_Dice), .v G_Mine] [.v (.list G_Span)] (fun x => made_Dice_Flows N x.1 x.2)), (12, sfE [none, none] [.b (.v G_Dice), .v G_Mine] [.v G_Fumes] (fun x => law35_fumes N x.1 x.2)), (17, sfE [none, none] [.b (.v G_Dice), .v (.int .i64)] [.v (.int .i64)] (fun x => made_Dice_Next N x.1 x.2)), (18, pureE [G_Mine, (.list G_Span), G_Fumes, (.int .i64)] [G_Fumes, (.int .i64)] (fun x => clearance_Step N x.1 x.2.1 x.2.2.1 x.2.2.2)), (19, pureE [G_Mine, (.list G_Span), (.int .i64)] [(.list (.int .i64))] (fun x => clearance_Sources N x.1 x.2.1 x.2.2))]
def law35_ClearanceSinks_J2 (N n1 : Nat) (x68 : List T_Span) (x69 : Int) (x70 : List Int) (x71 : Int) (x72 : Bool) (x73 : List T_Place) (x74 : List T_Road) (x75 : Int) (x76 : List Int) (x77 : Int) (x78 : List Int) (x79 : Int) (x80 : List Int) (x81 : Int) (x82 : List Int) : Option Bool := joinN (run (law35_ClearanceSinks_E N) N 0 law35_ClearanceSinks_C1) N ⟨[(4, .ptr 0 0 0), (5, .lst false G_Span x68), (6, .ptr 1 0 0), (8, .ptr 2 0 0), (10, .ptr 3 0 0), (12, .ptr 4 0 0), (14, .int .i64 x69), (15, .lst false (.int .i64) x70), (16, .int .i64 x71), (18, .bool x72)], [some (.box 0 [.lst false G_Place x73, .lst false G_Road x74]), some (.box 1 [.int .i64 x75, .lst false (.int .i64) x76]), some (.box 0 [.int .i64 x77, .lst false (.int .i64) x78]), some (.box 0 [.int .i64 x79, .lst false (.int .i64) x80]), some (.box 0 [.int .i64 x81, .lst false (.int .i64) x82])]⟩ (blkK 1 (seqK (run (law35_ClearanceSinks_E N) N 0 law35_ClearanceSinks_C2) (seqK (nextL (normI 0 law35_ClearanceSinks_N1) (loopN (normI 0 law35_ClearanceSinks_N1) (run (law35_ClearanceSinks_E N) N 0 law35_ClearanceSinks_C3) n1)) (blkK 0 (seqK (run (law35_ClearanceSinks_E N) N 0 law35_ClearanceSinks_C4) (fin [(.t 2)] [.bool]))))))
def law35_ClearanceSinks_L2 (N n1 : Nat) (n : Nat) (x36 : List T_Span) (x37 : Int) (x38 : List Int) (x39 : Int) (x40 : Int) (x41 : List T_Place) (x42 : List T_Road) (x43 : Int) (x44 : List Int) (x45 : Int) (x46 : List Int) (x47 : Int) (x48 : List Int) (x49 : Int) (x50 : List Int) : Option Bool := loopN (normI 0 law35_ClearanceSinks_N2) (run (law35_ClearanceSinks_E N) N 0 law35_ClearanceSinks_C5) n ⟨[(4, .ptr 0 0 0), (5, .lst false G_Span x36), (6, .ptr 1 0 0), (8, .ptr 2 0 0), (10, .ptr 3 0 0), (12, .ptr 4 0 0), (14, .int .i64 x37), (15, .lst false (.int .i64) x38), (16, .int .i64 x39), (17, .int .i64 x40)], [some (.box 0 [.lst false G_Place x41, .lst false G_Road x42]), some (.box 1 [.int .i64 x43, .lst false (.int .i64) x44]), some (.box 0 [.int .i64 x45, .lst false (.int .i64) x46]), some (.box 0 [.int .i64 x47, .lst false (.int .i64) x48]), some (.box 0 [.int .i64 x49, .lst false (.int .i64) x50])]⟩ (blkK 2 (seqK (run (law35_ClearanceSinks_E N) N 0 law35_ClearanceSinks_C6) (blkK 1 (seqK (run (law35_ClearanceSinks_E N) N 0 law35_ClearanceSinks_C2) (seqK (nextL (normI 0 law35_ClearanceSinks_N1) (loopN (normI 0 law35_ClearanceSinks_N1) (run (law35_ClearanceSinks_E N) N 0 law35_ClearanceSinks_C3) n1)) (blkK 0 (seqK (run (law35_ClearanceSinks_E N) N 0 law35_ClearanceSinks_C4) (fin [(.t 2)] [.bool]))))))))
def law35_ClearanceSinks_L1 (N : Nat) (n : Nat) (x23 : List T_Span) (x24 : Int) (x25 : List T_Place) (x26 : List T_Road) (x27 : Int) (x28 : List Int) (x29 : Int) (x30 : List Int) (x31 : Int) (x32 : List Int) (x33 : Int) (x34 : List Int) : Option Bool := loopN (normI 0 law35_ClearanceSinks_N1) (run (law35_ClearanceSinks_E N) N 0 law35_ClearanceSinks_C3) n ⟨[(4, .ptr 0 0 0), (5, .lst false G_Span x23), (6, .ptr 1 0 0), (8, .ptr 2 0 0), (10, .ptr 3 0 0), (12, .ptr 4 0 0), (14, .int .i64 x24)], [some (.box 0 [.lst false G_Place x25, .lst false G_Road x26]), some (.box 1 [.int .i64 x27, .lst false (.int .i64) x28]), some (.box 0 [.int .i64 x29, .lst false (.int .i64) x30]), some (.box 0 [.int .i64 x31, .lst false (.int .i64) x32]), some (.box 0 [.int .i64 x33, .lst false (.int .i64) x34])]⟩ (blkK 0 (seqK (run (law35_ClearanceSinks_E N) N 0 law35_ClearanceSinks_C4) (fin [(.t 2)] [.bool])))
def law35_ClearanceSinks_J1 (N : Nat) (x12 : List T_Span) (x13 : List T_Place) (x14 : List T_Road) (x15 : Int) (x16 : List Int) (x17 : Int) (x18 : List Int) (x19 : Int) (x20 : List Int) (x21 : Int) (x22 : List Int) : Option Bool := joinN (run (law35_ClearanceSinks_E N) N 0 law35_ClearanceSinks_C7) N ⟨[(4, .ptr 0 0 0), (5, .lst false G_Span x12), (6, .ptr 1 0 0), (8, .ptr 2 0 0), (10, .ptr 3 0 0), (12, .ptr 4 0 0)], [some (.box 0 [.lst false G_Place x13, .lst false G_Road x14]), some (.box 1 [.int .i64 x15, .lst false (.int .i64) x16]), some (.box 0 [.int .i64 x17, .lst false (.int .i64) x18]), some (.box 0 [.int .i64 x19, .lst false (.int .i64) x20]), some (.box 0 [.int .i64 x21, .lst false (.int .i64) x22])]⟩ (fin [(.t 2)] [.bool])
theorem law35_ClearanceSinks_J2_eq (N n1 : Nat) (x68 : List T_Span) (x69 : Int) (x70 : List Int) (x71 : Int) (x72 : Bool) (x73 : List T_Place) (x74 : List T_Road) (x75 : Int) (x76 : List Int) (x77 : Int) (x78 : List Int) (x79 : Int) (x80 : List Int) (x81 : Int) (x82 : List Int) : law35_ClearanceSinks_J2 (N + 1) n1 x68 x69 x70 x71 x72 x73 x74 x75 x76 x77 x78 x79 x80 x81 x82 =
  bif inB x69 x78.length then
  bif (decide ((x78.getD x69.toNat 0) > x71)) then
    some false
  else
    bif x72 then
      bif inB x69 x78.length then
      bif inB x69 x76.length then
      bif (decide ((x78.getD x69.toNat 0) < (x76.getD x69.toNat 0))) then
        some false
      else
        bif ((x70.length : Int) == 0) then
          bif inB x69 x80.length then
          bif inB x69 x82.length then
          bif (decide ((x80.getD x69.toNat 0) > (W ((x82.getD x69.toNat 0) + 2)))) then
            some false
          else
            law35_ClearanceSinks_L1 (N + 1) n1 x68 (W (x69 + 1)) x73 x74 x75 x76 x77 x78 x79 x80 x81 x82
          else none
          else none
        else
          law35_ClearanceSinks_L1 (N + 1) n1 x68 (W (x69 + 1)) x73 x74 x75 x76 x77 x78 x79 x80 x81 x82
      else none
      else none
    else
      bif ((x70.length : Int) == 0) then
        bif inB x69 x80.length then
        bif inB x69 x82.length then
        bif (decide ((x80.getD x69.toNat 0) > (W ((x82.getD x69.toNat 0) + 2)))) then
          some false
        else
          law35_ClearanceSinks_L1 (N + 1) n1 x68 (W (x69 + 1)) x73 x74 x75 x76 x77 x78 x79 x80 x81 x82
        else none
        else none
      else
        law35_ClearanceSinks_L1 (N + 1) n1 x68 (W (x69 + 1)) x73 x74 x75 x76 x77 x78 x79 x80 x81 x82
  else none := by kernel_rfl
theorem law35_ClearanceSinks_L2_zero (N n1 : Nat) (x36 : List T_Span) (x37 : Int) (x38 : List Int) (x39 : Int) (x40 : Int) (x41 : List T_Place) (x42 : List T_Road) (x43 : Int) (x44 : List Int) (x45 : Int) (x46 : List Int) (x47 : Int) (x48 : List Int) (x49 : Int) (x50 : List Int) : law35_ClearanceSinks_L2 N n1 0 x36 x37 x38 x39 x40 x41 x42 x43 x44 x45 x46 x47 x48 x49 x50 = none := rfl
theorem law35_ClearanceSinks_L2_succ (N n1 : Nat) (n2 : Nat) (x36 : List T_Span) (x37 : Int) (x38 : List Int) (x39 : Int) (x40 : Int) (x41 : List T_Place) (x42 : List T_Road) (x43 : Int) (x44 : List Int) (x45 : Int) (x46 : List Int) (x47 : Int) (x48 : List Int) (x49 : Int) (x50 : List Int) : law35_ClearanceSinks_L2 N n1 (n2 + 1) x36 x37 x38 x39 x40 x41 x42 x43 x44 x45 x46 x47 x48 x49 x50 =
  bif (decide (x40 < (x38.length : Int))) then
    bif inB x40 x38.length then
    bif (decide ((x38.getD x40.toNat 0) < 0)) then
      some false
    else
      bif inB x40 x38.length then
      bif (decide ((x38.getD x40.toNat 0) ≥ (x42.length : Int))) then
        some false
      else
        bif inB x40 x38.length then
        bif inB (x38.getD x40.toNat 0) x44.length then
        law35_ClearanceSinks_L2 N n1 n2 x36 x37 x38 (max x39 (x44.getD (x38.getD x40.toNat 0).toNat 0)) (W (x40 + 1)) x41 x42 x43 x44 x45 x46 x47 x48 x49 x50
        else none
        else none
      else none
    else none
  else
    bif inB x37 x42.length then
    bif (x42.getD x37.toNat D_Road).2.2.2.2.2.1 then
      law35_ClearanceSinks_J2 N n1 x36 x37 x38 x39 true x41 x42 x43 x44 x45 x46 x47 x48 x49 x50
    else
      bif inB x37 x36.length then
      bif (decide ((x36.getD x37.toNat D_Span).1 ≤ 0)) then
        bif inB x37 x36.length then
        law35_ClearanceSinks_J2 N n1 x36 x37 x38 x39 (decide ((x36.getD x37.toNat D_Span).2 ≥ 0)) x41 x42 x43 x44 x45 x46 x47 x48 x49 x50
        else none
      else
        law35_ClearanceSinks_J2 N n1 x36 x37 x38 x39 false x41 x42 x43 x44 x45 x46 x47 x48 x49 x50
      else none
    else none := by kernel_rfl
theorem law35_ClearanceSinks_L1_zero (N : Nat) (x23 : List T_Span) (x24 : Int) (x25 : List T_Place) (x26 : List T_Road) (x27 : Int) (x28 : List Int) (x29 : Int) (x30 : List Int) (x31 : Int) (x32 : List Int) (x33 : Int) (x34 : List Int) : law35_ClearanceSinks_L1 N 0 x23 x24 x25 x26 x27 x28 x29 x30 x31 x32 x33 x34 = none := rfl
theorem law35_ClearanceSinks_L1_succ (N : Nat) (n1 : Nat) (x23 : List T_Span) (x24 : Int) (x25 : List T_Place) (x26 : List T_Road) (x27 : Int) (x28 : List Int) (x29 : Int) (x30 : List Int) (x31 : Int) (x32 : List Int) (x33 : Int) (x34 : List Int) : law35_ClearanceSinks_L1 N (n1 + 1) x23 x24 x25 x26 x27 x28 x29 x30 x31 x32 x33 x34 =
  bif (decide (x24 < (x26.length : Int))) then
    Option.bind (clearance_Sources N (x25, x26) x23 x24) fun r35 =>
    bif inB x24 x28.length then
    law35_ClearanceSinks_L2 N n1 N x23 x24 r35 (x28.getD x24.toNat 0) 0 x25 x26 x27 x28 x29 x30 x31 x32 x33 x34
    else none
  else
    Option.bind (law35_awake N) fun r195 =>
    some r195 := by kernel_rfl
theorem law35_ClearanceSinks_J1_eq (N : Nat) (x12 : List T_Span) (x13 : List T_Place) (x14 : List T_Road) (x15 : Int) (x16 : List Int) (x17 : Int) (x18 : List Int) (x19 : Int) (x20 : List Int) (x21 : Int) (x22 : List Int) : law35_ClearanceSinks_J1 (N + 1) x12 x13 x14 x15 x16 x17 x18 x19 x20 x21 x22 =
  law35_ClearanceSinks_L1 (N + 1) (N + 1) x12 0 x13 x14 x15 x16 x17 x18 x19 x20 x21 x22 := by kernel_rfl
def law35_ClearanceSinks (N : Nat) (a0 : List Int) : Option Bool :=
  Option.bind (made_Light N a0) fun r1 =>
  bif (!r1) then
    Option.bind (law35_awake N) fun r2 =>
    some r2
  else
    Option.bind (made_Roll N a0) fun r3 =>
    Option.bind (made_Dice_Mine N r3.1) fun r4 =>
    Option.bind (made_Dice_Flows N r4.2 r4.1) fun r5 =>
    Option.bind (law35_fumes N r5.2 r4.1) fun r6 =>
    Option.bind (made_Dice_Next N r6.2 300) fun r7 =>
    Option.bind (clearance_Step N r4.1 r5.1 r6.1 (W (r6.1.1 + r7.1))) fun r8 =>
    Option.bind (clearance_Step N r4.1 r5.1 r8.1 (W (r8.1.1 + r7.1))) fun r9 =>
    Option.bind (clearance_Step N r4.1 r5.1 r6.1 (W (r6.1.1 + (W (2 * r7.1))))) fun r11 =>
    bif (r8.2 != 0) then
      some false
    else
      bif (r9.2 != 0) then
        some false
      else
        bif (r11.2 != 0) then
          some false
        else
          bif ((r8.1.2.length : Int) != (r4.1.2.length : Int)) then
            some false
          else
            bif ((r9.1.2.length : Int) != (r4.1.2.length : Int)) then
              some false
            else
              bif ((r11.1.2.length : Int) != (r4.1.2.length : Int)) then
                some false
              else
                law35_ClearanceSinks_J1 N r5.1 r4.1.1 r4.1.2 r6.1.1 r6.1.2 r8.1.1 r8.1.2 r9.1.1 r9.1.2 r11.1.1 r11.1.2
theorem law35_ClearanceSinks_fn : FnOK Try.prog 4 218 (fun _ : Nat => false) law35_ClearanceSinks_C8.er [(.t 2)] := FnOK.mk' Try.func4 (by kernel_rfl) (by kernel_rfl) (by kernel_rfl) (by kernel_rfl) (by kernel_rfl)
theorem law35_ClearanceSinks_envok (N : Nat) : EnvOK Try.prog (law35_ClearanceSinks_E N) := .cons (pureE_ok (made_Light_pure N)) (.cons (pureE_ok (law35_awake_pure N)) (.cons (sfE_ok (made_Roll_sf N)) (.cons (sfE_ok (made_Dice_Mine_sf N)) (.cons (sfE_ok (made_Dice_Flows_sf N)) (.cons (sfE_ok (law35_fumes_sf N)) (.cons (sfE_ok (made_Dice_Next_sf N)) (.cons (pureE_ok (clearance_Step_pure N)) (.cons (pureE_ok (clearance_Sources_pure N)) (.nil)))))))))
theorem law35_ClearanceSinks_pure (N : Nat) : PureOK Try.prog 4 [(.list (.int .i64))] [.bool] (fun x => law35_ClearanceSinks N x) := pureOK (N := N) mixed law35_ClearanceSinks_fn (law35_ClearanceSinks_envok N) rfl (fun x => by kernel_rfl)
/-! law35_ClearanceUntil -/
def law35_ClearanceUntil_N1 : List NS := [.wk 5 (.list G_Span), .wk 7 (.list (.int .i64)), .keep [4, 5, 6, 7, 8, 9, 10, 12], .cmp]
def law35_ClearanceUntil_N2 : List NS := [.wk 5 (.list G_Span), .wk 7 (.list (.int .i64)), .keep [4, 5, 6, 7, 8, 9, 10, 12, 13, 14], .cmp]
def law35_ClearanceUntil_C7 : TC := (.cond (.t 68) .skip (.exit 2))
def law35_ClearanceUntil_C15 : TC := (.rg [⟨⟨some 69, (.mov (.t 14)), none⟩, {}⟩, ⟨⟨some 70, (.bin .add (.t 69) (.c (I 1))), none⟩, {}⟩, ⟨⟨some 14, (.mov (.t 70)), none⟩, {}⟩] none)
def law35_ClearanceUntil_C8 : TC := (.seq (.block 3 (.rg [⟨⟨some 71, (.mov (.t 13)), none⟩, {}⟩, ⟨⟨some 72, (.mov (.t 71)), none⟩, {}⟩, ⟨⟨some 73, (.fadr 1 (.t 6)), some (72, true)⟩, {}⟩, ⟨⟨some 74, (.load false 1 (.t 73)), some (72, true)⟩, {}⟩, ⟨⟨some 75, (.mov (.t 7)), some (72, true)⟩, {}⟩, ⟨⟨some 76, (.mov (.t 14)), some (72,
  true)⟩, {}⟩, ⟨⟨some 77, (.iadrS 1 (.t 75) (.t 76)), some (72, true)⟩, {}⟩, ⟨⟨some 78, (.load false 1 (.t 77)), some (72, true)⟩, {}⟩, ⟨⟨some 79, (.iadrS 1 (.t 74) (.t 78)), some (72, true)⟩, {}⟩, ⟨⟨some 80, (.load false 1 (.t 79)), some (72, true)⟩, {}⟩, ⟨⟨some 81, (.mov (.t 8)), some (72, true)⟩,
  {}⟩, ⟨⟨some 82, (.bin .leq (.t 80) (.t 81)), some (72, true)⟩, {}⟩, ⟨⟨some 83, (.pick (.t 72) (.t 82) (.c (B false))), none⟩, {}⟩, ⟨⟨some 13, (.mov (.t 83)), none⟩, {}⟩] (some []))) law35_ClearanceUntil_C15)
def law35_ClearanceUntil_C1 : TC := (.seq (.seq (.rg [⟨⟨some 65, (.mov (.t 14)), none⟩, {}⟩, ⟨⟨some 66, (.mov (.t 7)), none⟩, {}⟩, ⟨⟨some 67, (.len (.t 66)), none⟩, {}⟩, ⟨⟨some 68, (.bin .lss (.t 65) (.t 67)), none⟩, {}⟩] none) law35_ClearanceUntil_C7) law35_ClearanceUntil_C8)
def law35_ClearanceUntil_C16 : TC := .ret
def law35_ClearanceUntil_C9 : TC := (.cond (.t 90) (.seq (.rg [⟨⟨some 2, (.mov (.c (B false))), none⟩, {}⟩] none) law35_ClearanceUntil_C16) .skip)
def law35_ClearanceUntil_C27 : TC := .ret
def law35_ClearanceUntil_C25 : TC := (.cond (.t 112) (.seq (.rg [⟨⟨some 2, (.mov (.c (B false))), none⟩, {}⟩] none) law35_ClearanceUntil_C27) .skip)
def law35_ClearanceUntil_C21 : TC := (.seq (.rg [⟨⟨some 102, (.mov (.t 15)), none⟩, {}⟩, ⟨⟨some 103, (.bin .neq (.t 102) (.c (I 0))), none⟩, {}⟩, ⟨⟨some 104, (.mov (.t 103)), none⟩, {}⟩, ⟨⟨some 105, (.fadr 1 (.t 6)), some (104, false)⟩, {}⟩, ⟨⟨some 106, (.load false 1 (.t 105)), some (104, false)⟩, {}⟩, ⟨⟨some 107, (.len (.t 106)), some
  (104, false)⟩, {}⟩, ⟨⟨some 108, (.fadr 1 (.t 4)), some (104, false)⟩, {}⟩, ⟨⟨some 109, (.load false 1 (.t 108)), some (104, false)⟩, {}⟩, ⟨⟨some 110, (.len (.t 109)), some (104, false)⟩, {}⟩, ⟨⟨some 111, (.bin .neq (.t 107) (.t 110)), some (104, false)⟩, {}⟩, ⟨⟨some 112, (.pick (.t 104) (.c (B
  true)) (.t 111)), none⟩, {}⟩] none) law35_ClearanceUntil_C25)
def law35_ClearanceUntil_C17 : TC := (.seq (.rg [⟨⟨some 92, (.load true 2 (.t 4)), none⟩, {}⟩, ⟨⟨some 93, (.mov (.t 5)), none⟩, {}⟩, ⟨⟨some 94, (.load true 2 (.t 6)), none⟩, {}⟩, ⟨⟨some 95, (.fadr 0 (.t 6)), none⟩, {}⟩, ⟨⟨some 96, (.load false 1 (.t 95)), none⟩, {}⟩, ⟨⟨some 97, (.mov (.t 9)), none⟩, {}⟩, ⟨⟨some 98, (.bin .add (.t 96)
  (.t 97)), none⟩, {}⟩, ⟨⟨some 99, (.call (.c (.fn 18 [])) [(.t 92), (.t 93), (.t 94), (.t 98)]), none⟩, {}⟩, ⟨⟨some 91, (.mov (.t 99)), none⟩, {}⟩, ⟨⟨some 100, (.extr 0 (.t 91)), none⟩, {}⟩, ⟨⟨some 101, (.extr 1 (.t 91)), none⟩, {}⟩, ⟨⟨none, (.store 2 (.t 6) (.t 100)), none⟩, {}⟩, ⟨⟨some 15, (.mov
  (.t 101)), none⟩, {}⟩] none) law35_ClearanceUntil_C21)
def law35_ClearanceUntil_C10 : TC := (.seq (.rg [⟨⟨some 15, (.mov (.c (I 0))), none⟩, {}⟩] none) law35_ClearanceUntil_C17)
def law35_ClearanceUntil_C2 : TC := (.seq (.seq (.rg [⟨⟨some 84, (.mov (.t 13)), none⟩, {}⟩, ⟨⟨some 85, (.mov (.t 12)), none⟩, {}⟩, ⟨⟨some 86, (.mov (.t 9)), none⟩, {}⟩, ⟨⟨some 87, (.bin .mul (.t 85) (.t 86)), none⟩, {}⟩, ⟨⟨some 88, (.mov (.t 10)), none⟩, {}⟩, ⟨⟨some 89, (.bin .eql (.t 87) (.t 88)), none⟩, {}⟩, ⟨⟨some 90, (.beq true
  (.t 84) (.t 89)), none⟩, {}⟩] none) law35_ClearanceUntil_C9) law35_ClearanceUntil_C10)
def law35_ClearanceUntil_C3 : TC := (.rg [⟨⟨some 63, (.mov (.t 12)), none⟩, {}⟩, ⟨⟨some 64, (.bin .add (.t 63) (.c (I 1))), none⟩, {}⟩, ⟨⟨some 12, (.mov (.t 64)), none⟩, {}⟩] none)
def law35_ClearanceUntil_C11 : TC := (.cond (.t 62) .skip (.exit 0))
def law35_ClearanceUntil_C22 : TC := (.block 2 (.loop law35_ClearanceUntil_N2 law35_ClearanceUntil_C1))
def law35_ClearanceUntil_C18 : TC := (.seq (.seq (.rg [⟨⟨some 14, (.mov (.c (I 0))), none⟩, {}⟩] none) law35_ClearanceUntil_C22) law35_ClearanceUntil_C2)
def law35_ClearanceUntil_C12 : TC := (.seq (.block 1 (.seq (.rg [⟨⟨some 13, (.mov (.c (B true))), none⟩, {}⟩] none) law35_ClearanceUntil_C18)) law35_ClearanceUntil_C3)
def law35_ClearanceUntil_C4 : TC := (.seq (.seq (.rg [⟨⟨some 58, (.mov (.t 12)), none⟩, {}⟩, ⟨⟨some 59, (.mov (.t 10)), none⟩, {}⟩, ⟨⟨some 60, (.mov (.t 9)), none⟩, {}⟩, ⟨⟨some 61, (.bin .quo (.t 59) (.t 60)), none⟩, {}⟩, ⟨⟨some 62, (.bin .leq (.t 58) (.t 61)), none⟩, {}⟩] none) law35_ClearanceUntil_C11) law35_ClearanceUntil_C12)
def law35_ClearanceUntil_C13 : TC := .ret
def law35_ClearanceUntil_C5 : TC := (.seq (.rg [⟨⟨some 113, (.call (.c (.fn 8 [])) []), none⟩, {}⟩, ⟨⟨some 114, (.mov (.t 113)), none⟩, {}⟩, ⟨⟨some 115, (.mov (.t 10)), some (114, true)⟩, {}⟩, ⟨⟨some 116, (.mov (.t 9)), some (114, true)⟩, {}⟩, ⟨⟨some 117, (.bin .rem (.t 115) (.t 116)), some (114, true)⟩, {}⟩, ⟨⟨some 118, (.bin .eql (.t
  117) (.c (I 0))), some (114, true)⟩, {}⟩, ⟨⟨some 119, (.pick (.t 114) (.t 118) (.c (B false))), none⟩, {}⟩, ⟨⟨some 2, (.mov (.t 119)), none⟩, {}⟩] none) law35_ClearanceUntil_C13)
def law35_ClearanceUntil_C23 : TC := .ret
def law35_ClearanceUntil_C19 : TC := (.cond (.t 18) (.seq (.rg [⟨⟨some 19, (.call (.c (.fn 8 [])) []), none⟩, {}⟩, ⟨⟨some 2, (.mov (.t 19)), none⟩, {}⟩] none) law35_ClearanceUntil_C23) .skip)
def law35_ClearanceUntil_C33 : TC := .ret
def law35_ClearanceUntil_C31 : TC := (.cond (.t 52) (.seq (.rg [⟨⟨some 53, (.call (.c (.fn 8 [])) []), none⟩, {}⟩, ⟨⟨some 54, (.mov (.t 53)), none⟩, {}⟩, ⟨⟨some 55, (.mov (.t 11)), some (54, true)⟩, {}⟩, ⟨⟨some 56, (.bin .eql (.t 55) (.c (I 50))), some (54, true)⟩, {}⟩, ⟨⟨some 57, (.pick (.t 54) (.t 56) (.c (B false))), none⟩, {}⟩,
  ⟨⟨some 2, (.mov (.t 57)), none⟩, {}⟩] none) law35_ClearanceUntil_C33) .skip)
def law35_ClearanceUntil_C34 : TC := (.block 0 (.loop law35_ClearanceUntil_N1 law35_ClearanceUntil_C4))
def law35_ClearanceUntil_C32 : TC := (.seq (.seq (.rg [⟨⟨some 12, (.mov (.c (I 0))), none⟩, {}⟩] none) law35_ClearanceUntil_C34) law35_ClearanceUntil_C5)
def law35_ClearanceUntil_C30 : TC := (.seq (.seq (.rg [⟨⟨some 51, (.mov (.t 11)), none⟩, {}⟩, ⟨⟨some 52, (.bin .neq (.t 51) (.c (I 0))), none⟩, {}⟩] none) law35_ClearanceUntil_C31) law35_ClearanceUntil_C32)
def law35_ClearanceUntil_C29 : TC := (.seq (.rg [⟨⟨some 42, (.load true 2 (.t 4)), none⟩, {}⟩, ⟨⟨some 43, (.mov (.t 5)), none⟩, {}⟩, ⟨⟨some 44, (.load true 2 (.t 6)), none⟩, {}⟩, ⟨⟨some 45, (.mov (.t 7)), none⟩, {}⟩, ⟨⟨some 46, (.mov (.t 8)), none⟩, {}⟩, ⟨⟨some 47, (.mov (.t 9)), none⟩, {}⟩, ⟨⟨some 48, (.call (.c (.fn 20 [])) [(.t 42),
  (.t 43), (.t 44), (.t 45), (.t 46), (.t 47), (.c (I 20))]), none⟩, {}⟩, ⟨⟨some 41, (.mov (.t 48)), none⟩, {}⟩, ⟨⟨some 49, (.extr 0 (.t 41)), none⟩, {}⟩, ⟨⟨some 50, (.extr 1 (.t 41)), none⟩, {}⟩, ⟨⟨some 10, (.mov (.t 49)), none⟩, {}⟩, ⟨⟨some 11, (.mov (.t 50)), none⟩, {}⟩] none)
  law35_ClearanceUntil_C30)
def law35_ClearanceUntil_C28 : TC := (.seq (.rg [⟨⟨some 30, (.mov (.t 3)), none⟩, {}⟩, ⟨⟨some 31, (.fadr 1 (.t 4)), none⟩, {}⟩, ⟨⟨some 32, (.load false 1 (.t 31)), none⟩, {}⟩, ⟨⟨some 33, (.len (.t 32)), none⟩, {}⟩, ⟨⟨some 34, (.call (.c (.fn 16 [])) [(.t 30), (.t 33)]), none⟩, {}⟩, ⟨⟨some 35, (.mov (.t 3)), none⟩, {}⟩, ⟨⟨some 36,
  (.bslice false 1 [(I 0)] 3 [(0, (.c (I 30))), (1, (.c (I 500))), (2, (.c (I 0)))]), none⟩, ⟨(.int .i64), none⟩⟩, ⟨⟨some 37, (.call (.c (.fn 14 [])) [(.t 35), (.t 36)]), none⟩, {}⟩, ⟨⟨some 38, (.mov (.t 3)), none⟩, {}⟩, ⟨⟨some 39, (.call (.c (.fn 17 [])) [(.t 38), (.c (I 200))]), none⟩, {}⟩, ⟨⟨some
  40, (.bin .add (.c (I 1)) (.t 39)), none⟩, {}⟩, ⟨⟨some 7, (.mov (.t 34)), none⟩, {}⟩, ⟨⟨some 8, (.mov (.t 37)), none⟩, {}⟩, ⟨⟨some 9, (.mov (.t 40)), none⟩, {}⟩] none) law35_ClearanceUntil_C29)
def law35_ClearanceUntil_C26 : TC := (.seq (.pre [.wait] (.rg [⟨⟨some 24, (.mov (.t 3)), none⟩, {}⟩, ⟨⟨some 25, (.load true 2 (.t 4)), none⟩, {}⟩, ⟨⟨some 26, (.call (.c (.fn 11 [])) [(.t 24), (.t 25)]), none⟩, {}⟩, ⟨⟨some 27, (.mov (.t 3)), none⟩, {}⟩, ⟨⟨some 28, (.load true 2 (.t 4)), none⟩, {}⟩, ⟨⟨some 29, (.call (.c (.fn 12 [])) [(.t
  27), (.t 28)]), none⟩, {}⟩, ⟨⟨some 6, (.alloc [(I 0), (.lst true [])]), none⟩, ⟨.unit, some 2⟩⟩, ⟨⟨some 5, (.mov (.t 26)), none⟩, {}⟩, ⟨⟨none, (.store 2 (.t 6) (.t 29)), none⟩, {}⟩] (some [(2, 4), (1, 6), (2, 6), (4, 6), (5, 6)]))) law35_ClearanceUntil_C28)
def law35_ClearanceUntil_C24 : TC := (.seq (.rg [⟨⟨some 22, (.mov (.t 3)), none⟩, {}⟩, ⟨⟨some 23, (.call (.c (.fn 10 [])) [(.t 22)]), none⟩, {}⟩, ⟨⟨some 4, (.alloc [(.lst true []), (.lst true [])]), none⟩, {}⟩, ⟨⟨none, (.store 2 (.t 4) (.t 23)), none⟩, {}⟩] none) law35_ClearanceUntil_C26)
def law35_ClearanceUntil_C20 : TC := (.seq (.rg [⟨⟨some 20, (.mov (.t 0)), none⟩, {}⟩, ⟨⟨some 21, (.call (.c (.fn 9 [])) [(.t 20)]), none⟩, {}⟩, ⟨⟨some 3, (.mov (.t 21)), none⟩, {}⟩] none) law35_ClearanceUntil_C24)
def law35_ClearanceUntil_C14 : TC := (.seq (.seq (.rg [⟨⟨some 16, (.mov (.t 0)), none⟩, {}⟩, ⟨⟨some 17, (.call (.c (.fn 7 [])) [(.t 16)]), none⟩, {}⟩, ⟨⟨some 18, (.un .not (.t 17)), none⟩, {}⟩] none) law35_ClearanceUntil_C19) law35_ClearanceUntil_C20)
def law35_ClearanceUntil_C6 : TC := (.seq (.rg [⟨⟨some 2, (.mov (.c (B false))), none⟩, {}⟩] none) law35_ClearanceUntil_C14)
def law35_ClearanceUntil_E (N : Nat) : List (Nat × Ent) := [(7, pureE [(.list (.int .i64))] [.bool] (fun x => made_Light N x)), (8, pureE [] [.bool] (fun x => law35_awake N)), (9, sfE [none] [.v (.list (.int .i64))] [.n G_Dice] (fun x => made_Roll N x)), (10, sfE [none] [.b (.v G_Dice)] [.v G_Mine] (fun x => made_Dice_Mine N x)), (11, sfE [none, none] [.b (.v G_Dice), .v G_Mine] [.v (.list G_Span)] (fun x => made_Dice_Flows N x.1 x.2)), (12, sfE [none, none] [.b (.v G_Dice), .v G_Mine] [.v G_Fumes] (fun x => law35_fumes N x.1 x.2)), (16, sfE [none, none] [.b (.v G_Dice), .v (.int .i64)] [.v (.list (.int .i64))] (fun x => made_Dice_Some N x.1 x.2)), (14, sfE [none, none] [.b (.v G_Dice), .v (.list (.int .i64))] [.v (.int .i64)] (fun x => made_Dice_Of N x.1 x.2)), (17, sfE [none, none] [.b (.v G_Dice), .v (.int .i64)] [.v (.int .i64)] (fun x => made_Dice_Next N x.1 x.2)), (20, pureE [G_Mine, (.list G_Span), G_Fumes, (.list (.int .i64)), (.int .i64), (.int .i64), (.int .i64)] [(.int .i64), (.int .i64)] (fun x => clearance_Until N x.1 x.2.1 x.2.2.1 x.2.2.2.1 x.2.2.2.2.1 x.2.2.2.2.2.1 x.2.2.2.2.2.2)), (18, pureE [G_Mine, (.list G_Span), G_Fumes, (.int .i64)] [G_Fumes, (.int .i64)] (fun x => clearance_Step N x.1 x.2.1 x.2.2.1 x.2.2.2))]
def law35_ClearanceUntil_L2 (N n1 : Nat) (n : Nat) (x22 : List T_Span) (x23 : List Int) (x24 : Int) (x25 : Int) (x26 : Int) (x27 : Int) (x28 : Bool) (x29 : Int) (x30 : List T_Place) (x31 : List T_Road) (x32 : Int) (x33 : List Int) : Option Bool := loopN (normI 0 law35_ClearanceUntil_N2) (run (law35_ClearanceUntil_E N) N 0 law35_ClearanceUntil_C1) n ⟨[(4, .ptr 0 0 0), (5, .lst false G_Span x22), (6, .ptr 1 0 0), (7, .lst false (.int .i64) x23), (8, .int .i64 x24), (9, .int .i64 x25), (10, .int .i64 x26), (12, .int .i64 x27), (13, .bool x28), (14, .int .i64 x29)], [some (.box 0 [.lst false G_Place x30, .lst false G_Road x31]), some (.box 1 [.int .i64 x32, .lst false (.int .i64) x33])]⟩ (blkK 2 (seqK (run (law35_ClearanceUntil_E N) N 0 law35_ClearanceUntil_C2) (blkK 1 (seqK (run (law35_ClearanceUntil_E N) N 0 law35_ClearanceUntil_C3) (seqK (nextL (normI 0 law35_ClearanceUntil_N1) (loopN (normI 0 law35_ClearanceUntil_N1) (run (law35_ClearanceUntil_E N) N 0 law35_ClearanceUntil_C4) n1)) (blkK 0 (seqK (run (law35_ClearanceUntil_E N) N 0 law35_ClearanceUntil_C5) (fin [(.t 2)] [.bool]))))))))
def law35_ClearanceUntil_L1 (N : Nat) (n : Nat) (x12 : List T_Span) (x13 : List Int) (x14 : Int) (x15 : Int) (x16 : Int) (x17 : Int) (x18 : List T_Place) (x19 : List T_Road) (x20 : Int) (x21 : List Int) : Option Bool := loopN (normI 0 law35_ClearanceUntil_N1) (run (law35_ClearanceUntil_E N) N 0 law35_ClearanceUntil_C4) n ⟨[(4, .ptr 0 0 0), (5, .lst false G_Span x12), (6, .ptr 1 0 0), (7, .lst false (.int .i64) x13), (8, .int .i64 x14), (9, .int .i64 x15), (10, .int .i64 x16), (12, .int .i64 x17)], [some (.box 0 [.lst false G_Place x18, .lst false G_Road x19]), some (.box 1 [.int .i64 x20, .lst false (.int .i64) x21])]⟩ (blkK 0 (seqK (run (law35_ClearanceUntil_E N) N 0 law35_ClearanceUntil_C5) (fin [(.t 2)] [.bool])))
theorem law35_ClearanceUntil_L2_zero (N n1 : Nat) (x22 : List T_Span) (x23 : List Int) (x24 : Int) (x25 : Int) (x26 : Int) (x27 : Int) (x28 : Bool) (x29 : Int) (x30 : List T_Place) (x31 : List T_Road) (x32 : Int) (x33 : List Int) : law35_ClearanceUntil_L2 N n1 0 x22 x23 x24 x25 x26 x27 x28 x29 x30 x31 x32 x33 = none := rfl
theorem law35_ClearanceUntil_L2_succ (N n1 : Nat) (n2 : Nat) (x22 : List T_Span) (x23 : List Int) (x24 : Int) (x25 : Int) (x26 : Int) (x27 : Int) (x28 : Bool) (x29 : Int) (x30 : List T_Place) (x31 : List T_Road) (x32 : Int) (x33 : List Int) : law35_ClearanceUntil_L2 N n1 (n2 + 1) x22 x23 x24 x25 x26 x27 x28 x29 x30 x31 x32 x33 =
  bif (decide (x29 < (x23.length : Int))) then
    bif x28 then
      bif inB x29 x23.length then
      bif inB (x23.getD x29.toNat 0) x33.length then
      law35_ClearanceUntil_L2 N n1 n2 x22 x23 x24 x25 x26 x27 (decide ((x33.getD (x23.getD x29.toNat 0).toNat 0) ≤ x24)) (W (x29 + 1)) x30 x31 x32 x33
      else none
      else none
    else
      law35_ClearanceUntil_L2 N n1 n2 x22 x23 x24 x25 x26 x27 false (W (x29 + 1)) x30 x31 x32 x33
  else
    bif (!(x28 == ((W (x27 * x25)) == x26))) then
      some false
    else
      Option.bind (clearance_Step N (x30, x31) x22 (x32, x33) (W (x32 + x25))) fun r59 =>
      bif (r59.2 != 0) then
        some false
      else
        bif ((r59.1.2.length : Int) != (x31.length : Int)) then
          some false
        else
          law35_ClearanceUntil_L1 N n1 x22 x23 x24 x25 x26 (W (x27 + 1)) x30 x31 r59.1.1 r59.1.2 := by kernel_rfl
theorem law35_ClearanceUntil_L1_zero (N : Nat) (x12 : List T_Span) (x13 : List Int) (x14 : Int) (x15 : Int) (x16 : Int) (x17 : Int) (x18 : List T_Place) (x19 : List T_Road) (x20 : Int) (x21 : List Int) : law35_ClearanceUntil_L1 N 0 x12 x13 x14 x15 x16 x17 x18 x19 x20 x21 = none := rfl
theorem law35_ClearanceUntil_L1_succ (N : Nat) (n1 : Nat) (x12 : List T_Span) (x13 : List Int) (x14 : Int) (x15 : Int) (x16 : Int) (x17 : Int) (x18 : List T_Place) (x19 : List T_Road) (x20 : Int) (x21 : List Int) : law35_ClearanceUntil_L1 N (n1 + 1) x12 x13 x14 x15 x16 x17 x18 x19 x20 x21 =
  bif x15 == 0 then none else
  bif (decide (x17 ≤ (W (x16.tdiv x15)))) then
    law35_ClearanceUntil_L2 N n1 N x12 x13 x14 x15 x16 x17 true 0 x18 x19 x20 x21
  else
    Option.bind (law35_awake N) fun r82 =>
    bif r82 then
      bif x15 == 0 then none else
      some ((x16.tmod x15) == 0)
    else
      some false := by kernel_rfl
def law35_ClearanceUntil (N : Nat) (a0 : List Int) : Option Bool :=
  Option.bind (made_Light N a0) fun r1 =>
  bif (!r1) then
    Option.bind (law35_awake N) fun r2 =>
    some r2
  else
    Option.bind (made_Roll N a0) fun r3 =>
    Option.bind (made_Dice_Mine N r3.1) fun r4 =>
    Option.bind (made_Dice_Flows N r4.2 r4.1) fun r5 =>
    Option.bind (law35_fumes N r5.2 r4.1) fun r6 =>
    Option.bind (made_Dice_Some N r6.2 (r4.1.2.length : Int)) fun r7 =>
    Option.bind (made_Dice_Of N r7.2 [30, 500, 0]) fun r8 =>
    Option.bind (made_Dice_Next N r8.2 200) fun r9 =>
    Option.bind (clearance_Until N r4.1 r5.1 r6.1 r7.1 r8.1 (W (1 + r9.1)) 20) fun r10 =>
    bif (r10.2 != 0) then
      Option.bind (law35_awake N) fun r11 =>
      bif r11 then
        some (r10.2 == 50)
      else
        some false
    else
      law35_ClearanceUntil_L1 N N r5.1 r7.1 r8.1 (W (1 + r9.1)) r10.1 0 r4.1.1 r4.1.2 r6.1.1 r6.1.2
theorem law35_ClearanceUntil_fn : FnOK Try.prog 5 120 (fun _ : Nat => false) law35_ClearanceUntil_C6.er [(.t 2)] := FnOK.mk' Try.func5 (by kernel_rfl) (by kernel_rfl) (by kernel_rfl) (by kernel_rfl) (by kernel_rfl)
theorem law35_ClearanceUntil_envok (N : Nat) : EnvOK Try.prog (law35_ClearanceUntil_E N) := .cons (pureE_ok (made_Light_pure N)) (.cons (pureE_ok (law35_awake_pure N)) (.cons (sfE_ok (made_Roll_sf N)) (.cons (sfE_ok (made_Dice_Mine_sf N)) (.cons (sfE_ok (made_Dice_Flows_sf N)) (.cons (sfE_ok (law35_fumes_sf N)) (.cons (sfE_ok (made_Dice_Some_sf N)) (.cons (sfE_ok (made_Dice_Of_sf N)) (.cons (sfE_ok (made_Dice_Next_sf N)) (.cons (pureE_ok (clearance_Until_pure N)) (.cons (pureE_ok (clearance_Step_pure N)) (.nil)))))))))))
theorem law35_ClearanceUntil_pure (N : Nat) : PureOK Try.prog 5 [(.list (.int .i64))] [.bool] (fun x => law35_ClearanceUntil N x) := pureOK (N := N) mixed law35_ClearanceUntil_fn (law35_ClearanceUntil_envok N) rfl (fun x => by kernel_rfl)
/-! law35_ClearanceWide -/
def law35_ClearanceWide_N1 : List NS := [.keep [4, 12, 14, 16, 18], .cmp]
def law35_ClearanceWide_C5 : TC := (.cond (.t 155) .skip (.exit 0))
def law35_ClearanceWide_C14 : TC := .ret
def law35_ClearanceWide_C10 : TC := (.cond (.t 181) (.seq (.rg [⟨⟨some 2, (.mov (.c (B false))), none⟩, {}⟩] none) law35_ClearanceWide_C14) .skip)
def law35_ClearanceWide_C11 : TC := (.rg [⟨⟨some 156, (.mov (.t 18)), none⟩, {}⟩, ⟨⟨some 157, (.bin .add (.t 156) (.c (I 1))), none⟩, {}⟩, ⟨⟨some 18, (.mov (.t 157)), none⟩, {}⟩] none)
def law35_ClearanceWide_C6 : TC := (.seq (.block 1 (.seq (.rg [⟨⟨some 158, (.fadr 1 (.t 14)), none⟩, {}⟩, ⟨⟨some 159, (.load false 1 (.t 158)), none⟩, {}⟩, ⟨⟨some 160, (.mov (.t 18)), none⟩, {}⟩, ⟨⟨some 161, (.iadrS 1 (.t 159) (.t 160)), none⟩, {}⟩, ⟨⟨some 162, (.load false 1 (.t 161)), none⟩, {}⟩, ⟨⟨some 163, (.fadr 1 (.t 12)),
  none⟩, {}⟩, ⟨⟨some 164, (.load false 1 (.t 163)), none⟩, {}⟩, ⟨⟨some 165, (.mov (.t 18)), none⟩, {}⟩, ⟨⟨some 166, (.iadrS 1 (.t 164) (.t 165)), none⟩, {}⟩, ⟨⟨some 167, (.load false 1 (.t 166)), none⟩, {}⟩, ⟨⟨some 168, (.bin .lss (.t 162) (.t 167)), none⟩, {}⟩, ⟨⟨some 169, (.mov (.t 168)), none⟩,
  {}⟩, ⟨⟨some 170, (.fadr 1 (.t 16)), some (169, false)⟩, {}⟩, ⟨⟨some 171, (.load false 1 (.t 170)), some (169, false)⟩, {}⟩, ⟨⟨some 172, (.mov (.t 18)), some (169, false)⟩, {}⟩, ⟨⟨some 173, (.iadrS 1 (.t 171) (.t 172)), some (169, false)⟩, {}⟩, ⟨⟨some 174, (.load false 1 (.t 173)), some (169,
  false)⟩, {}⟩, ⟨⟨some 175, (.fadr 1 (.t 12)), some (169, false)⟩, {}⟩, ⟨⟨some 176, (.load false 1 (.t 175)), some (169, false)⟩, {}⟩, ⟨⟨some 177, (.mov (.t 18)), some (169, false)⟩, {}⟩, ⟨⟨some 178, (.iadrS 1 (.t 176) (.t 177)), some (169, false)⟩, {}⟩, ⟨⟨some 179, (.load false 1 (.t 178)), some
  (169, false)⟩, {}⟩, ⟨⟨some 180, (.bin .lss (.t 174) (.t 179)), some (169, false)⟩, {}⟩, ⟨⟨some 181, (.pick (.t 169) (.c (B true)) (.t 180)), none⟩, {}⟩] (some [])) law35_ClearanceWide_C10)) law35_ClearanceWide_C11)
def law35_ClearanceWide_C1 : TC := (.seq (.seq (.rg [⟨⟨some 151, (.mov (.t 18)), none⟩, {}⟩, ⟨⟨some 152, (.fadr 1 (.t 4)), none⟩, {}⟩, ⟨⟨some 153, (.load false 1 (.t 152)), none⟩, {}⟩, ⟨⟨some 154, (.len (.t 153)), none⟩, {}⟩, ⟨⟨some 155, (.bin .lss (.t 151) (.t 154)), none⟩, {}⟩] none) law35_ClearanceWide_C5) law35_ClearanceWide_C6)
def law35_ClearanceWide_C7 : TC := .ret
def law35_ClearanceWide_C2 : TC := (.seq (.rg [⟨⟨some 182, (.call (.c (.fn 8 [])) []), none⟩, {}⟩, ⟨⟨some 2, (.mov (.t 182)), none⟩, {}⟩] none) law35_ClearanceWide_C7)
def law35_ClearanceWide_C8 : TC := (.block 0 (.loop law35_ClearanceWide_N1 law35_ClearanceWide_C1))
def law35_ClearanceWide_C3 : TC := (.seq (.seq (.rg [⟨⟨some 18, (.mov (.c (I 0))), none⟩, {}⟩] none) law35_ClearanceWide_C8) law35_ClearanceWide_C2)
def law35_ClearanceWide_C15 : TC := .ret
def law35_ClearanceWide_C12 : TC := (.cond (.t 21) (.seq (.rg [⟨⟨some 22, (.call (.c (.fn 8 [])) []), none⟩, {}⟩, ⟨⟨some 2, (.mov (.t 22)), none⟩, {}⟩] none) law35_ClearanceWide_C15) .skip)
def law35_ClearanceWide_C31 : TC := .ret
def law35_ClearanceWide_C29 : TC := (.cond (.t 150) (.seq (.rg [⟨⟨some 2, (.mov (.c (B false))), none⟩, {}⟩] none) law35_ClearanceWide_C31) .skip)
def law35_ClearanceWide_C30 : TC := (.join [.keep [4, 12, 14, 16], .cmp] law35_ClearanceWide_C3)
def law35_ClearanceWide_C28 : TC := (.seq (.seq (.rg [⟨⟨some 114, (.mov (.t 13)), none⟩, {}⟩, ⟨⟨some 115, (.bin .neq (.t 114) (.c (I 0))), none⟩, {}⟩, ⟨⟨some 116, (.mov (.t 115)), none⟩, {}⟩, ⟨⟨some 117, (.mov (.t 15)), some (116, false)⟩, {}⟩, ⟨⟨some 118, (.bin .neq (.t 117) (.c (I 0))), some (116, false)⟩, {}⟩, ⟨⟨some 119, (.pick (.t
  116) (.c (B true)) (.t 118)), none⟩, {}⟩, ⟨⟨some 120, (.mov (.t 119)), none⟩, {}⟩, ⟨⟨some 121, (.mov (.t 17)), some (120, false)⟩, {}⟩, ⟨⟨some 122, (.bin .neq (.t 121) (.c (I 0))), some (120, false)⟩, {}⟩, ⟨⟨some 123, (.pick (.t 120) (.c (B true)) (.t 122)), none⟩, {}⟩, ⟨⟨some 124, (.mov (.t 123)),
  none⟩, {}⟩, ⟨⟨some 125, (.fadr 1 (.t 12)), some (124, false)⟩, {}⟩, ⟨⟨some 126, (.load false 1 (.t 125)), some (124, false)⟩, {}⟩, ⟨⟨some 127, (.len (.t 126)), some (124, false)⟩, {}⟩, ⟨⟨some 128, (.fadr 1 (.t 4)), some (124, false)⟩, {}⟩, ⟨⟨some 129, (.load false 1 (.t 128)), some (124, false)⟩,
  {}⟩, ⟨⟨some 130, (.len (.t 129)), some (124, false)⟩, {}⟩, ⟨⟨some 131, (.bin .neq (.t 127) (.t 130)), some (124, false)⟩, {}⟩, ⟨⟨some 132, (.pick (.t 124) (.c (B true)) (.t 131)), none⟩, {}⟩, ⟨⟨some 133, (.mov (.t 132)), none⟩, {}⟩, ⟨⟨some 134, (.fadr 1 (.t 14)), some (133, false)⟩, {}⟩, ⟨⟨some
  135, (.load false 1 (.t 134)), some (133, false)⟩, {}⟩, ⟨⟨some 136, (.len (.t 135)), some (133, false)⟩, {}⟩, ⟨⟨some 137, (.fadr 1 (.t 4)), some (133, false)⟩, {}⟩, ⟨⟨some 138, (.load false 1 (.t 137)), some (133, false)⟩, {}⟩, ⟨⟨some 139, (.len (.t 138)), some (133, false)⟩, {}⟩, ⟨⟨some 140, (.bin
  .neq (.t 136) (.t 139)), some (133, false)⟩, {}⟩, ⟨⟨some 141, (.pick (.t 133) (.c (B true)) (.t 140)), none⟩, {}⟩, ⟨⟨some 142, (.mov (.t 141)), none⟩, {}⟩, ⟨⟨some 143, (.fadr 1 (.t 16)), some (142, false)⟩, {}⟩, ⟨⟨some 144, (.load false 1 (.t 143)), some (142, false)⟩, {}⟩, ⟨⟨some 145, (.len (.t
  144)), some (142, false)⟩, {}⟩, ⟨⟨some 146, (.fadr 1 (.t 4)), some (142, false)⟩, {}⟩, ⟨⟨some 147, (.load false 1 (.t 146)), some (142, false)⟩, {}⟩, ⟨⟨some 148, (.len (.t 147)), some (142, false)⟩, {}⟩, ⟨⟨some 149, (.bin .neq (.t 145) (.t 148)), some (142, false)⟩, {}⟩, ⟨⟨some 150, (.pick (.t 142)
  (.c (B true)) (.t 149)), none⟩, {}⟩] none) law35_ClearanceWide_C29) law35_ClearanceWide_C30)
def law35_ClearanceWide_C27 : TC := (.seq (.rgw [([⟨⟨some 107, (.load true 2 (.t 4)), none⟩, {}⟩, ⟨⟨some 108, (.mov (.t 5)), none⟩, {}⟩, ⟨⟨some 109, (.load true 2 (.t 9)), none⟩, {}⟩, ⟨⟨some 110, (.mov (.t 11)), none⟩, {}⟩], [.frz 66]), ([⟨⟨some 111, (.call (.c (.fn 18 [])) [(.t 107), (.t 108), (.t 109), (.t 110)]), none⟩, {}⟩, ⟨⟨some
  106, (.mov (.t 111)), none⟩, {}⟩, ⟨⟨some 112, (.extr 0 (.t 106)), none⟩, {}⟩, ⟨⟨some 113, (.extr 1 (.t 106)), none⟩, {}⟩, ⟨⟨some 16, (.alloc [(I 0), (.lst true [])]), none⟩, {}⟩, ⟨⟨none, (.store 2 (.t 16) (.t 112)), none⟩, {}⟩, ⟨⟨some 17, (.mov (.t 113)), none⟩, {}⟩], [])]) law35_ClearanceWide_C28)
def law35_ClearanceWide_C26 : TC := (.seq (.rgw [([⟨⟨some 99, (.load true 2 (.t 4)), none⟩, {}⟩, ⟨⟨some 100, (.mov (.t 7)), none⟩, {}⟩, ⟨⟨some 101, (.load true 2 (.t 6)), none⟩, {}⟩, ⟨⟨some 102, (.mov (.t 11)), none⟩, {}⟩], [.frz 34]), ([⟨⟨some 103, (.call (.c (.fn 18 [])) [(.t 99), (.t 100), (.t 101), (.t 102)]), none⟩, {}⟩, ⟨⟨some
  98, (.mov (.t 103)), none⟩, {}⟩, ⟨⟨some 104, (.extr 0 (.t 98)), none⟩, {}⟩, ⟨⟨some 105, (.extr 1 (.t 98)), none⟩, {}⟩, ⟨⟨some 14, (.alloc [(I 0), (.lst true [])]), none⟩, {}⟩, ⟨⟨none, (.store 2 (.t 14) (.t 104)), none⟩, {}⟩, ⟨⟨some 15, (.mov (.t 105)), none⟩, {}⟩], [])]) law35_ClearanceWide_C27)
def law35_ClearanceWide_C25 : TC := (.seq (.rg [⟨⟨some 91, (.load true 2 (.t 4)), none⟩, {}⟩, ⟨⟨some 92, (.mov (.t 5)), none⟩, {}⟩, ⟨⟨some 93, (.load true 2 (.t 6)), none⟩, {}⟩, ⟨⟨some 94, (.mov (.t 11)), none⟩, {}⟩, ⟨⟨some 95, (.call (.c (.fn 18 [])) [(.t 91), (.t 92), (.t 93), (.t 94)]), none⟩, {}⟩, ⟨⟨some 90, (.mov (.t 95)), none⟩,
  {}⟩, ⟨⟨some 96, (.extr 0 (.t 90)), none⟩, {}⟩, ⟨⟨some 97, (.extr 1 (.t 90)), none⟩, {}⟩, ⟨⟨some 12, (.alloc [(I 0), (.lst true [])]), none⟩, {}⟩, ⟨⟨none, (.store 2 (.t 12) (.t 96)), none⟩, {}⟩, ⟨⟨some 13, (.mov (.t 97)), none⟩, {}⟩] none) law35_ClearanceWide_C26)
def law35_ClearanceWide_C24 : TC := (.seq (.rg [⟨⟨some 85, (.fadr 0 (.t 6)), none⟩, {}⟩, ⟨⟨some 86, (.load false 1 (.t 85)), none⟩, {}⟩, ⟨⟨some 87, (.mov (.t 3)), none⟩, {}⟩, ⟨⟨some 88, (.call (.c (.fn 17 [])) [(.t 87), (.c (I 600))]), none⟩, {}⟩, ⟨⟨some 89, (.bin .add (.t 86) (.t 88)), none⟩, {}⟩, ⟨⟨some 11, (.mov (.t 89)), none⟩,
  {}⟩] (some [(0, 3), (1, 3)])) law35_ClearanceWide_C25)
def law35_ClearanceWide_C23 : TC := (.seq (.rg [⟨⟨some 72, (.fadr 1 (.t 9)), none⟩, {}⟩, ⟨⟨some 73, (.load false 1 (.t 72)), none⟩, {}⟩, ⟨⟨some 74, (.mov (.t 10)), none⟩, {}⟩, ⟨⟨some 75, (.fadr 1 (.t 9)), none⟩, {}⟩, ⟨⟨some 76, (.load false 1 (.t 75)), none⟩, {}⟩, ⟨⟨some 77, (.mov (.t 10)), none⟩, {}⟩, ⟨⟨some 78, (.iadrS 1 (.t 76) (.t
  77)), none⟩, {}⟩, ⟨⟨some 79, (.load false 1 (.t 78)), none⟩, {}⟩, ⟨⟨some 80, (.mov (.t 3)), none⟩, {}⟩, ⟨⟨some 81, (.call (.c (.fn 17 [])) [(.t 80), (.c (I 500))]), none⟩, {}⟩, ⟨⟨some 82, (.bin .add (.t 79) (.t 81)), none⟩, {}⟩, ⟨⟨some 83, (.mm false [(.c (I 1000000)), (.t 82)]), none⟩, {}⟩, ⟨⟨some
  84, (.iadrS 1 (.t 73) (.t 74)), none⟩, {}⟩, ⟨⟨none, (.store 1 (.t 84) (.t 83)), none⟩, {}⟩] (some [(0, 9), (1, 9), (3, 9), (4, 9), (6, 9), (7, 9)])) law35_ClearanceWide_C24)
def law35_ClearanceWide_C22 : TC := (.seq (.rg [⟨⟨some 67, (.mov (.t 3)), none⟩, {}⟩, ⟨⟨some 68, (.fadr 1 (.t 9)), none⟩, {}⟩, ⟨⟨some 69, (.load false 1 (.t 68)), none⟩, {}⟩, ⟨⟨some 70, (.len (.t 69)), none⟩, {}⟩, ⟨⟨some 71, (.call (.c (.fn 17 [])) [(.t 67), (.t 70)]), none⟩, {}⟩, ⟨⟨some 10, (.mov (.t 71)), none⟩, {}⟩] none)
  law35_ClearanceWide_C23)
def law35_ClearanceWide_C21 : TC := (.seq (.rg [⟨⟨some 65, (.load true 2 (.t 6)), none⟩, {}⟩, ⟨⟨some 66, (.call (.c (.fn 21 [])) [(.t 65)]), none⟩, {}⟩, ⟨⟨some 9, (.alloc [(I 0), (.lst true [])]), none⟩, {}⟩, ⟨⟨none, (.store 2 (.t 9) (.t 66)), none⟩, {}⟩] none) law35_ClearanceWide_C22)
def law35_ClearanceWide_C20 : TC := (.seq (.rg [⟨⟨some 39, (.mov (.t 7)), none⟩, {}⟩, ⟨⟨some 40, (.mov (.t 8)), none⟩, {}⟩, ⟨⟨some 41, (.mov (.t 7)), none⟩, {}⟩, ⟨⟨some 42, (.mov (.t 8)), none⟩, {}⟩, ⟨⟨some 43, (.mov (.t 7)), none⟩, {}⟩, ⟨⟨some 44, (.mov (.t 8)), none⟩, {}⟩, ⟨⟨some 45, (.iadrS 2 (.t 43) (.t 44)), none⟩, {}⟩, ⟨⟨some 46,
  (.fadr 0 (.t 45)), none⟩, {}⟩, ⟨⟨some 47, (.load false 1 (.t 46)), none⟩, {}⟩, ⟨⟨some 48, (.mov (.t 3)), none⟩, {}⟩, ⟨⟨some 49, (.call (.c (.fn 17 [])) [(.t 48), (.c (I 3000))]), none⟩, {}⟩, ⟨⟨some 50, (.bin .sub (.t 47) (.t 49)), none⟩, {}⟩, ⟨⟨some 51, (.mm true [(.c (I (-1125899906842624))), (.t
  50)]), none⟩, {}⟩, ⟨⟨some 52, (.mov (.t 7)), none⟩, {}⟩, ⟨⟨some 53, (.mov (.t 8)), none⟩, {}⟩, ⟨⟨some 54, (.iadrS 2 (.t 52) (.t 53)), none⟩, {}⟩, ⟨⟨some 55, (.fadr 1 (.t 54)), none⟩, {}⟩, ⟨⟨some 56, (.load false 1 (.t 55)), none⟩, {}⟩, ⟨⟨some 57, (.mov (.t 3)), none⟩, {}⟩, ⟨⟨some 58, (.call (.c
  (.fn 17 [])) [(.t 57), (.c (I 3000))]), none⟩, {}⟩, ⟨⟨some 59, (.bin .add (.t 56) (.t 58)), none⟩, {}⟩, ⟨⟨some 60, (.mm false [(.c (I 1125899906842624)), (.t 59)]), none⟩, {}⟩, ⟨⟨some 61, (.iadrS 2 (.t 39) (.t 40)), none⟩, {}⟩, ⟨⟨some 62, (.fadr 0 (.t 61)), none⟩, {}⟩, ⟨⟨none, (.store 1 (.t 62) (.t
  51)), none⟩, {}⟩, ⟨⟨some 63, (.iadrS 2 (.t 41) (.t 42)), none⟩, {}⟩, ⟨⟨some 64, (.fadr 1 (.t 63)), none⟩, {}⟩, ⟨⟨none, (.store 1 (.t 64) (.t 60)), none⟩, {}⟩] (some [(6, 10), (7, 10), (8, 10), (10, 15), (10, 16), (10, 17), (6, 19), (7, 19), (8, 19), (15, 19), (16, 19), (17, 19)]))
  law35_ClearanceWide_C21)
def law35_ClearanceWide_C19 : TC := (.seq (.rg [⟨⟨some 35, (.mov (.t 3)), none⟩, {}⟩, ⟨⟨some 36, (.mov (.t 7)), none⟩, {}⟩, ⟨⟨some 37, (.len (.t 36)), none⟩, {}⟩, ⟨⟨some 38, (.call (.c (.fn 17 [])) [(.t 35), (.t 37)]), none⟩, {}⟩, ⟨⟨some 8, (.mov (.t 38)), none⟩, {}⟩] none) law35_ClearanceWide_C20)
def law35_ClearanceWide_C18 : TC := (.seq (.pre [.ghost G_Span] (.rg [⟨⟨some 33, (.mov (.t 5)), none⟩, {}⟩, ⟨⟨some 34, (.app 2 16 (.c (.lst true [])) (.t 33)), none⟩, ⟨.unit, some 3⟩⟩, ⟨⟨some 7, (.mov (.t 34)), none⟩, {}⟩] none)) law35_ClearanceWide_C19)
def law35_ClearanceWide_C17 : TC := (.seq (.pre [.wait] (.rg [⟨⟨some 27, (.mov (.t 3)), none⟩, {}⟩, ⟨⟨some 28, (.load true 2 (.t 4)), none⟩, {}⟩, ⟨⟨some 29, (.call (.c (.fn 11 [])) [(.t 27), (.t 28)]), none⟩, {}⟩, ⟨⟨some 30, (.mov (.t 3)), none⟩, {}⟩, ⟨⟨some 31, (.load true 2 (.t 4)), none⟩, {}⟩, ⟨⟨some 32, (.call (.c (.fn 12 [])) [(.t
  30), (.t 31)]), none⟩, {}⟩, ⟨⟨some 6, (.alloc [(I 0), (.lst true [])]), none⟩, ⟨.unit, some 2⟩⟩, ⟨⟨some 5, (.mov (.t 29)), none⟩, {}⟩, ⟨⟨none, (.store 2 (.t 6) (.t 32)), none⟩, {}⟩] (some [(2, 4), (1, 6), (2, 6), (4, 6), (5, 6)]))) law35_ClearanceWide_C18)
def law35_ClearanceWide_C16 : TC := (.seq (.rg [⟨⟨some 25, (.mov (.t 3)), none⟩, {}⟩, ⟨⟨some 26, (.call (.c (.fn 10 [])) [(.t 25)]), none⟩, {}⟩, ⟨⟨some 4, (.alloc [(.lst true []), (.lst true [])]), none⟩, {}⟩, ⟨⟨none, (.store 2 (.t 4) (.t 26)), none⟩, {}⟩] none) law35_ClearanceWide_C17)
def law35_ClearanceWide_C13 : TC := (.seq (.rg [⟨⟨some 23, (.mov (.t 0)), none⟩, {}⟩, ⟨⟨some 24, (.call (.c (.fn 9 [])) [(.t 23)]), none⟩, {}⟩, ⟨⟨some 3, (.mov (.t 24)), none⟩, {}⟩] none) law35_ClearanceWide_C16)
def law35_ClearanceWide_C9 : TC := (.seq (.seq (.rg [⟨⟨some 19, (.mov (.t 0)), none⟩, {}⟩, ⟨⟨some 20, (.call (.c (.fn 7 [])) [(.t 19)]), none⟩, {}⟩, ⟨⟨some 21, (.un .not (.t 20)), none⟩, {}⟩] none) law35_ClearanceWide_C12) law35_ClearanceWide_C13)
def law35_ClearanceWide_C4 : TC := (.seq (.rg [⟨⟨some 2, (.mov (.c (B false))), none⟩, {}⟩] none) law35_ClearanceWide_C9)
def law35_ClearanceWide_E (N : Nat) : List (Nat × Ent) := [(7, pureE [(.list (.int .i64))] [.bool] (fun x => made_Light N x)), (8, pureE [] [.bool] (fun x => law35_awake N)), (9, sfE [none] [.v (.list (.int .i64))] [.n G_Dice] (fun x => made_Roll N x)), (10, sfE [none] [.b (.v G_Dice)] [.v G_Mine] (fun x => made_Dice_Mine N x)), (11, sfE [none, none] [.b (.v G_Dice), .v G_Mine] [.v (.list G_Span)] (fun x => made_Dice_Flows N x.1 x.2)), (12, sfE [none, none] [.b (.v G_Dice), .v G_Mine] [.v G_Fumes] (fun x => law35_fumes N x.1 x.2)), (17, sfE [none, none] [.b (.v G_Dice), .v (.int .i64)] [.v (.int .i64)] (fun x => made_Dice_Next N x.1 x.2)), (21, sfE [none] [.v G_Fumes] [.o (.p (.v (.int .i64)) (.a (.int .i64)))] (fun x => ref35_Copy N x)), (18, pureE [G_Mine, (.list G_Span), G_Fumes, (.int .i64)] [G_Fumes, (.int .i64)] (fun x => clearance_Step N x.1 x.2.1 x.2.2.1 x.2.2.2))]
def law35_ClearanceWide_L1 (N : Nat) (n : Nat) (x36 : Int) (x37 : List T_Place) (x38 : List T_Road) (x39 : Int) (x40 : List Int) (x41 : Int) (x42 : List Int) (x43 : Int) (x44 : List Int) : Option Bool := loopN (normI 0 law35_ClearanceWide_N1) (run (law35_ClearanceWide_E N) N 0 law35_ClearanceWide_C1) n ⟨[(4, .ptr 0 0 0), (12, .ptr 1 0 0), (14, .ptr 2 0 0), (16, .ptr 3 0 0), (18, .int .i64 x36)], [some (.box 0 [.lst false G_Place x37, .lst false G_Road x38]), some (.box 0 [.int .i64 x39, .lst false (.int .i64) x40]), some (.box 0 [.int .i64 x41, .lst false (.int .i64) x42]), some (.box 0 [.int .i64 x43, .lst false (.int .i64) x44])]⟩ (blkK 0 (seqK (run (law35_ClearanceWide_E N) N 0 law35_ClearanceWide_C2) (fin [(.t 2)] [.bool])))
def law35_ClearanceWide_J1 (N : Nat) (x28 : List T_Place) (x29 : List T_Road) (x30 : Int) (x31 : List Int) (x32 : Int) (x33 : List Int) (x34 : Int) (x35 : List Int) : Option Bool := joinN (run (law35_ClearanceWide_E N) N 0 law35_ClearanceWide_C3) N ⟨[(4, .ptr 0 0 0), (12, .ptr 1 0 0), (14, .ptr 2 0 0), (16, .ptr 3 0 0)], [some (.box 0 [.lst false G_Place x28, .lst false G_Road x29]), some (.box 0 [.int .i64 x30, .lst false (.int .i64) x31]), some (.box 0 [.int .i64 x32, .lst false (.int .i64) x33]), some (.box 0 [.int .i64 x34, .lst false (.int .i64) x35])]⟩ (fin [(.t 2)] [.bool])
theorem law35_ClearanceWide_L1_zero (N : Nat) (x36 : Int) (x37 : List T_Place) (x38 : List T_Road) (x39 : Int) (x40 : List Int) (x41 : Int) (x42 : List Int) (x43 : Int) (x44 : List Int) : law35_ClearanceWide_L1 N 0 x36 x37 x38 x39 x40 x41 x42 x43 x44 = none := rfl
theorem law35_ClearanceWide_L1_succ (N : Nat) (n1 : Nat) (x36 : Int) (x37 : List T_Place) (x38 : List T_Road) (x39 : Int) (x40 : List Int) (x41 : Int) (x42 : List Int) (x43 : Int) (x44 : List Int) : law35_ClearanceWide_L1 N (n1 + 1) x36 x37 x38 x39 x40 x41 x42 x43 x44 =
  bif (decide (x36 < (x38.length : Int))) then
    bif inB x36 x42.length then
    bif inB x36 x40.length then
    bif (decide ((x42.getD x36.toNat 0) < (x40.getD x36.toNat 0))) then
      some false
    else
      bif inB x36 x44.length then
      bif inB x36 x40.length then
      bif (decide ((x44.getD x36.toNat 0) < (x40.getD x36.toNat 0))) then
        some false
      else
        law35_ClearanceWide_L1 N n1 (W (x36 + 1)) x37 x38 x39 x40 x41 x42 x43 x44
      else none
      else none
    else none
    else none
  else
    Option.bind (law35_awake N) fun r54 =>
    some r54 := by kernel_rfl
theorem law35_ClearanceWide_J1_eq (N : Nat) (x28 : List T_Place) (x29 : List T_Road) (x30 : Int) (x31 : List Int) (x32 : Int) (x33 : List Int) (x34 : Int) (x35 : List Int) : law35_ClearanceWide_J1 (N + 1) x28 x29 x30 x31 x32 x33 x34 x35 =
  law35_ClearanceWide_L1 (N + 1) (N + 1) 0 x28 x29 x30 x31 x32 x33 x34 x35 := by kernel_rfl
def law35_ClearanceWide (N : Nat) (a0 : List Int) : Option Bool :=
  Option.bind (made_Light N a0) fun r1 =>
  bif (!r1) then
    Option.bind (law35_awake N) fun r2 =>
    some r2
  else
    Option.bind (made_Roll N a0) fun r3 =>
    Option.bind (made_Dice_Mine N r3.1) fun r4 =>
    Option.bind (made_Dice_Flows N r4.2 r4.1) fun r5 =>
    Option.bind (law35_fumes N r5.2 r4.1) fun r6 =>
    bif fitsB r5.1.length 16 then
    Option.bind (made_Dice_Next N r6.2 (r5.1.length : Int)) fun r7 =>
    bif inB r7.1 r5.1.length then
    Option.bind (made_Dice_Next N r7.2 3000) fun r9 =>
    bif inB r7.1 r5.1.length then
    Option.bind (made_Dice_Next N r9.2 3000) fun r12 =>
    bif inB r7.1 r5.1.length then
    let v15 := r5.1.set r7.1.toNat ((max (-1125899906842624) (W ((r5.1.getD r7.1.toNat D_Span).1 - r9.1))), (r5.1.getD r7.1.toNat D_Span).2)
    bif inB r7.1 v15.length then
    Option.bind (ref35_Copy N r6.1) fun r18 =>
    Option.bind (made_Dice_Next N r12.2 (r18.1.2.length : Int)) fun r19 =>
    bif inB r19.1 r18.1.2.length then
    Option.bind (made_Dice_Next N r19.2 500) fun r21 =>
    bif inB r19.1 r18.1.2.length then
    Option.bind (made_Dice_Next N r21.2 600) fun r24 =>
    Option.bind (clearance_Step N r4.1 r5.1 r6.1 (W (r6.1.1 + r24.1))) fun r25 =>
    Option.bind (clearance_Step N r4.1 (v15.set r7.1.toNat ((v15.getD r7.1.toNat D_Span).1, (min 1125899906842624 (W ((r5.1.getD r7.1.toNat D_Span).2 + r12.1))))) r6.1 (W (r6.1.1 + r24.1))) fun r26 =>
    Option.bind (clearance_Step N r4.1 r5.1 (r18.1.1, (r18.1.2.set r19.1.toNat (min 1000000 (W ((r18.1.2.getD r19.1.toNat 0) + r21.1))))) (W (r6.1.1 + r24.1))) fun r27 =>
    bif (r25.2 != 0) then
      some false
    else
      bif (r26.2 != 0) then
        some false
      else
        bif (r27.2 != 0) then
          some false
        else
          bif ((r25.1.2.length : Int) != (r4.1.2.length : Int)) then
            some false
          else
            bif ((r26.1.2.length : Int) != (r4.1.2.length : Int)) then
              some false
            else
              bif ((r27.1.2.length : Int) != (r4.1.2.length : Int)) then
                some false
              else
                law35_ClearanceWide_J1 N r4.1.1 r4.1.2 r25.1.1 r25.1.2 r26.1.1 r26.1.2 r27.1.1 r27.1.2
    else none
    else none
    else none
    else none
    else none
    else none
    else none
theorem law35_ClearanceWide_fn : FnOK Try.prog 6 183 (fun _ : Nat => false) law35_ClearanceWide_C4.er [(.t 2)] := FnOK.mk' Try.func6 (by kernel_rfl) (by kernel_rfl) (by kernel_rfl) (by kernel_rfl) (by kernel_rfl)
theorem law35_ClearanceWide_envok (N : Nat) : EnvOK Try.prog (law35_ClearanceWide_E N) := .cons (pureE_ok (made_Light_pure N)) (.cons (pureE_ok (law35_awake_pure N)) (.cons (sfE_ok (made_Roll_sf N)) (.cons (sfE_ok (made_Dice_Mine_sf N)) (.cons (sfE_ok (made_Dice_Flows_sf N)) (.cons (sfE_ok (law35_fumes_sf N)) (.cons (sfE_ok (made_Dice_Next_sf N)) (.cons (sfE_ok (ref35_Copy_sf N)) (.cons (pureE_ok (clearance_Step_pure N)) (.nil)))))))))
theorem law35_ClearanceWide_pure (N : Nat) : PureOK Try.prog 6 [(.list (.int .i64))] [.bool] (fun x => law35_ClearanceWide N x) := pureOK (N := N) mixed law35_ClearanceWide_fn (law35_ClearanceWide_envok N) rfl (fun x => by kernel_rfl)
end M
end Go.Proofs.Ytpmpmlhjnddikaa
