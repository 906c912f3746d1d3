/- Plain models of functions of this seat, each checked against the loaded program and the walk by the kernel. No condition: closed facts. Printed by a program of ours. -/
import Derived.Test.YtlnilmcocbbohaaPxL
import Derived.Test.YtlnilmcocbbohaaRows
set_option linter.all false
namespace Go.Proofs.Ytlnilmcocbbohaa
open Go.Pv
theorem mixed : Try.prog.follows .mixedOrders = true := Try.checked.mixed
namespace M
abbrev G_boundsError : GT := (.pair (.int .i64) (.pair (.int .i64) (.pair .bool (.int .u8))))
abbrev T_boundsError := Int × Int × Bool × Int
abbrev D_boundsError : T_boundsError := (0, (0, (false, 0)))
abbrev G_errorAddressString : GT := (.pair .str (.int .u64))
abbrev T_errorAddressString := ByteArray × Int
abbrev D_errorAddressString : T_errorAddressString := (ByteArray.empty, 0)
abbrev G_Fumes : GT := (.pair (.int .i64) (.list (.int .i64)))
abbrev T_Fumes := Int × List Int
abbrev D_Fumes : T_Fumes := (0, [])
abbrev G_EntryRule : GT := (.pair (.int .i64) (.pair (.int .i64) (.list (.int .i64))))
abbrev T_EntryRule := Int × Int × List Int
abbrev D_EntryRule : T_EntryRule := (0, (0, []))
abbrev G_Span : GT := (.pair (.int .i64) (.int .i64))
abbrev T_Span := Int × Int
abbrev D_Span : T_Span := (0, 0)
abbrev G_Entering : GT := (.pair (.int .i64) (.pair (.int .i64) (.pair (.int .i64) (.int .i64))))
abbrev T_Entering := Int × Int × Int × Int
abbrev D_Entering : T_Entering := (0, (0, (0, 0)))
abbrev G_Dice : GT := (.pair (.list (.int .i64)) (.int .i64))
abbrev T_Dice := (List Int) × Int
abbrev D_Dice : T_Dice := ([], 0)
/-! made_Light -/
def made_Light_C3 : TC := .ret
def made_Light_C2 : TC := (.seq (.rg [⟨⟨some 3, (.mov (.t 0)), none⟩, {}⟩, ⟨⟨some 4, (.len (.t 3)), none⟩, {}⟩, ⟨⟨some 5, (.bin .leq (.t 4) (.c (I 400))), none⟩, {}⟩, ⟨⟨some 2, (.mov (.t 5)), none⟩, {}⟩] none) made_Light_C3)
def made_Light_C1 : TC := (.seq (.rg [⟨⟨some 2, (.mov (.c (B false))), none⟩, {}⟩] none) made_Light_C2)
def made_Light_E (N : Nat) : List (Nat × Ent) := []
def made_Light (N : Nat) (a0 : List Int) : Option Bool :=
  some (decide ((a0.length : Int) ≤ 400))
theorem made_Light_fn : FnOK Try.prog 4 6 (fun _ : Nat => false) made_Light_C1.er [(.t 2)] := FnOK.mk' Try.func4 (by kernel_rfl) (by kernel_rfl) (by kernel_rfl) (by kernel_rfl) (by kernel_rfl)
theorem made_Light_envok (N : Nat) : EnvOK Try.prog (made_Light_E N) := .nil
theorem made_Light_pure (N : Nat) : PureOK Try.prog 4 [(.list (.int .i64))] [.bool] (fun x => made_Light N x) := pureOK (N := N) mixed made_Light_fn (made_Light_envok N) rfl (fun x => by kernel_rfl)
/-! lists_In -/
def lists_In_C3 : TC := .ret
def lists_In_C2 : TC := (.seq (.rg [⟨⟨some 7, (.mov (.t 0)), none⟩, {}⟩, ⟨⟨some 8, (.mov (.t 1)), none⟩, {}⟩, ⟨⟨some 9, (.bin .geq (.t 7) (.t 8)), none⟩, {}⟩, ⟨⟨some 10, (.mov (.t 9)), none⟩, {}⟩, ⟨⟨some 11, (.mov (.t 0)), some (10, true)⟩, {}⟩, ⟨⟨some 12, (.mov (.t 2)), some (10, true)⟩, {}⟩, ⟨⟨some 13, (.bin .leq (.t 11)
  (.t 12)), some (10, true)⟩, {}⟩, ⟨⟨some 14, (.pick (.t 10) (.t 13) (.c (B false))), none⟩, {}⟩, ⟨⟨some 6, (.mov (.t 14)), none⟩, {}⟩] none) lists_In_C3)
def lists_In_C1 : TC := (.seq (.rg [⟨⟨some 6, (.mov (.c (B false))), none⟩, {}⟩] none) lists_In_C2)
def lists_In_E (N : Nat) : List (Nat × Ent) := []
def lists_In (N : Nat) (a0 : Int) (a1 : Int) (a2 : Int) : Option Bool :=
  bif (decide (a0 ≥ a1)) then
    some (decide (a0 ≤ a2))
  else
    some false
theorem lists_In_fn : FnOK Try.prog 16 15 (fun _ : Nat => false) lists_In_C1.er [(.t 6)] := FnOK.mk' Try.func16 (by kernel_rfl) (by kernel_rfl) (by kernel_rfl) (by kernel_rfl) (by kernel_rfl)
theorem lists_In_envok (N : Nat) : EnvOK Try.prog (lists_In_E N) := .nil
theorem lists_In_pure (N : Nat) : PureOK Try.prog 16 [(.int .i64), (.int .i64), (.int .i64)] [.bool] (fun x => lists_In N x.1 x.2.1 x.2.2) := pureOK (N := N) mixed lists_In_fn (lists_In_envok N) rfl (fun x => by kernel_rfl)
/-! reentry_pair -/
def reentry_pair_C3 : TC := .ret
def reentry_pair_C2 : TC := (.seq (.rg [⟨⟨some 5, (.mov (.t 0)), none⟩, {}⟩, ⟨⟨some 6, (.bin .gtr (.t 5) (.c (I 0))), none⟩, {}⟩, ⟨⟨some 7, (.mov (.t 6)), none⟩, {}⟩, ⟨⟨some 8, (.mov (.t 1)), some (7, true)⟩, {}⟩, ⟨⟨some 9, (.bin .gtr (.t 8) (.c (I 0))), some (7, true)⟩, {}⟩, ⟨⟨some 10, (.pick (.t 7) (.t 9) (.c (B false))),
  none⟩, {}⟩, ⟨⟨some 11, (.mov (.t 10)), none⟩, {}⟩, ⟨⟨some 12, (.mov (.t 0)), some (11, true)⟩, {}⟩, ⟨⟨some 13, (.mov (.t 1)), some (11, true)⟩, {}⟩, ⟨⟨some 14, (.bin .neq (.t 12) (.t 13)), some (11, true)⟩, {}⟩, ⟨⟨some 15, (.pick (.t 11) (.t 14) (.c (B false))), none⟩, {}⟩, ⟨⟨some 4, (.mov (.t
  15)), none⟩, {}⟩] none) reentry_pair_C3)
def reentry_pair_C1 : TC := (.seq (.rg [⟨⟨some 4, (.mov (.c (B false))), none⟩, {}⟩] none) reentry_pair_C2)
def reentry_pair_E (N : Nat) : List (Nat × Ent) := []
def reentry_pair (N : Nat) (a0 : Int) (a1 : Int) : Option Bool :=
  bif (decide (a0 > 0)) then
    bif (decide (a1 > 0)) then
      some (a0 != a1)
    else
      some false
  else
    some false
theorem reentry_pair_fn : FnOK Try.prog 17 16 (fun _ : Nat => false) reentry_pair_C1.er [(.t 4)] := FnOK.mk' Try.func17 (by kernel_rfl) (by kernel_rfl) (by kernel_rfl) (by kernel_rfl) (by kernel_rfl)
theorem reentry_pair_envok (N : Nat) : EnvOK Try.prog (reentry_pair_E N) := .nil
theorem reentry_pair_pure (N : Nat) : PureOK Try.prog 17 [(.int .i64), (.int .i64)] [.bool] (fun x => reentry_pair N x.1 x.2) := pureOK (N := N) mixed reentry_pair_fn (reentry_pair_envok N) rfl (fun x => by kernel_rfl)
/-! lists_Rising -/
def lists_Rising_N1 : List NS := [.wk 0 (.list (.int .i64)), .wk 9 (.list (.int .i64)), .keep [0, 1, 2, 9, 10, 11], .cmp]
def lists_Rising_C12 : TC := .ret
def lists_Rising_C11 : TC := (.cond (.t 36) (.seq (.rg [⟨⟨some 6, (.mov (.c (B false))), none⟩, {}⟩] none) lists_Rising_C12) .skip)
def lists_Rising_C9 : TC := (.seq (.rg [⟨⟨some 16, (.mov (.t 8)), none⟩, {}⟩, ⟨⟨some 17, (.mov (.t 1)), none⟩, {}⟩, ⟨⟨some 18, (.bin .lss (.t 16) (.t 17)), none⟩, {}⟩, ⟨⟨some 19, (.mov (.t 18)), none⟩, {}⟩, ⟨⟨some 20, (.mov (.t 8)), some (19, false)⟩, {}⟩, ⟨⟨some 21, (.mov (.t 2)), some (19, false)⟩, {}⟩, ⟨⟨some 22, (.bin .gtr
  (.t 20) (.t 21)), some (19, false)⟩, {}⟩, ⟨⟨some 23, (.pick (.t 19) (.c (B true)) (.t 22)), none⟩, {}⟩, ⟨⟨some 24, (.mov (.t 23)), none⟩, {}⟩, ⟨⟨some 25, (.mov (.t 7)), some (24, false)⟩, {}⟩, ⟨⟨some 26, (.bin .gtr (.t 25) (.c (I 0))), some (24, false)⟩, {}⟩, ⟨⟨some 27, (.mov (.t 26)), some (24,
  false)⟩, {}⟩, ⟨⟨some 28, (.mov (.t 8)), some (27, true)⟩, {}⟩, ⟨⟨some 29, (.mov (.t 0)), some (27, true)⟩, {}⟩, ⟨⟨some 30, (.mov (.t 7)), some (27, true)⟩, {}⟩, ⟨⟨some 31, (.bin .sub (.t 30) (.c (I 1))), some (27, true)⟩, {}⟩, ⟨⟨some 32, (.iadrS 1 (.t 29) (.t 31)), some (27, true)⟩, {}⟩, ⟨⟨some 33,
  (.load false 1 (.t 32)), some (27, true)⟩, {}⟩, ⟨⟨some 34, (.bin .leq (.t 28) (.t 33)), some (27, true)⟩, {}⟩, ⟨⟨some 35, (.pick (.t 27) (.t 34) (.c (B false))), some (24, false)⟩, {}⟩, ⟨⟨some 36, (.pick (.t 24) (.c (B true)) (.t 35)), none⟩, {}⟩] none) lists_Rising_C11)
def lists_Rising_C10 : TC := (.rg [⟨⟨some 37, (.bin .add (.t 11) (.c (I 1))), none⟩, {}⟩, ⟨⟨some 11, (.mov (.t 37)), none⟩, {}⟩] none)
def lists_Rising_C7 : TC := (.seq (.block 1 (.seq (.rg [⟨⟨some 13, (.mov (.t 11)), none⟩, {}⟩, ⟨⟨some 14, (.iadrS 1 (.t 9) (.t 11)), none⟩, {}⟩, ⟨⟨some 15, (.load false 1 (.t 14)), none⟩, {}⟩, ⟨⟨some 7, (.mov (.t 13)), none⟩, {}⟩, ⟨⟨some 8, (.mov (.t 15)), none⟩, {}⟩] none) lists_Rising_C9)) lists_Rising_C10)
def lists_Rising_C4 : TC := (.seq (.cond (.t 12) .skip (.exit 0)) lists_Rising_C7)
def lists_Rising_C1 : TC := (.seq (.rg [⟨⟨some 12, (.bin .lss (.t 11) (.t 10)), none⟩, {}⟩] none) lists_Rising_C4)
def lists_Rising_C5 : TC := .ret
def lists_Rising_C2 : TC := (.seq (.rg [⟨⟨some 6, (.mov (.c (B true))), none⟩, {}⟩] none) lists_Rising_C5)
def lists_Rising_C8 : TC := (.block 0 (.loop lists_Rising_N1 lists_Rising_C1))
def lists_Rising_C6 : TC := (.seq (.seq (.rg [⟨⟨some 9, (.mov (.t 0)), none⟩, {}⟩, ⟨⟨some 10, (.len (.t 9)), none⟩, {}⟩, ⟨⟨some 11, (.mov (.c (I 0))), none⟩, {}⟩] none) lists_Rising_C8) lists_Rising_C2)
def lists_Rising_C3 : TC := (.seq (.rg [⟨⟨some 6, (.mov (.c (B false))), none⟩, {}⟩] none) lists_Rising_C6)
def lists_Rising_E (N : Nat) : List (Nat × Ent) := []
def lists_Rising_L1 (N : Nat) (n : Nat) (x1 : List Int) (x2 : Int) (x3 : Int) (x4 : List Int) (x5 : Int) (x6 : Int) : Option Bool := loopN (normI 0 lists_Rising_N1) (run (lists_Rising_E N) N 0 lists_Rising_C1) n ⟨[(0, .lst false (.int .i64) x1), (1, .int .i64 x2), (2, .int .i64 x3), (9, .lst false (.int .i64) x4), (10, .int .i64 x5), (11, .int .i64 x6)], []⟩ (blkK 0 (seqK (run (lists_Rising_E N) N 0 lists_Rising_C2) (fin [(.t 6)] [.bool])))
theorem lists_Rising_L1_zero (N : Nat) (x1 : List Int) (x2 : Int) (x3 : Int) (x4 : List Int) (x5 : Int) (x6 : Int) : lists_Rising_L1 N 0 x1 x2 x3 x4 x5 x6 = none := rfl
theorem lists_Rising_L1_succ (N : Nat) (n1 : Nat) (x1 : List Int) (x2 : Int) (x3 : Int) (x4 : List Int) (x5 : Int) (x6 : Int) : lists_Rising_L1 N (n1 + 1) x1 x2 x3 x4 x5 x6 =
  bif (decide (x6 < x5)) then
    bif inB x6 x4.length then
    bif (decide ((x4.getD x6.toNat 0) < x2)) then
      some false
    else
      bif (decide ((x4.getD x6.toNat 0) > x3)) then
        some false
      else
        bif (decide (x6 > 0)) then
          bif inB (W (x6 - 1)) x1.length then
          bif (decide ((x4.getD x6.toNat 0) ≤ (x1.getD (W (x6 - 1)).toNat 0))) then
            some false
          else
            lists_Rising_L1 N n1 x1 x2 x3 x4 x5 (W (x6 + 1))
          else none
        else
          lists_Rising_L1 N n1 x1 x2 x3 x4 x5 (W (x6 + 1))
    else none
  else
    some true := by kernel_rfl
def lists_Rising (N : Nat) (a0 : List Int) (a1 : Int) (a2 : Int) : Option Bool :=
  lists_Rising_L1 N N a0 a1 a2 a0 (a0.length : Int) 0
theorem lists_Rising_fn : FnOK Try.prog 18 38 (fun _ : Nat => false) lists_Rising_C3.er [(.t 6)] := FnOK.mk' Try.func18 (by kernel_rfl) (by kernel_rfl) (by kernel_rfl) (by kernel_rfl) (by kernel_rfl)
theorem lists_Rising_envok (N : Nat) : EnvOK Try.prog (lists_Rising_E N) := .nil
theorem lists_Rising_pure (N : Nat) : PureOK Try.prog 18 [(.list (.int .i64)), (.int .i64), (.int .i64)] [.bool] (fun x => lists_Rising N x.1 x.2.1 x.2.2) := pureOK (N := N) mixed lists_Rising_fn (lists_Rising_envok N) rfl (fun x => by kernel_rfl)
/-! reentry_Valid -/
def reentry_Valid_C6 : TC := .ret
def reentry_Valid_C3 : TC := (.cond (.t 35) (.seq (.rg [⟨⟨some 36, (.fadr 2 (.t 3)), none⟩, {}⟩, ⟨⟨some 37, (.load false 1 (.t 36)), none⟩, {}⟩, ⟨⟨some 38, (.bin .eql (.t 37) (.c (I 0))), none⟩, {}⟩, ⟨⟨some 39, (.mov (.t 38)), none⟩, {}⟩, ⟨⟨some 40, (.fadr 3 (.t 3)), some (39, true)⟩, {}⟩, ⟨⟨some 41, (.load false 1 (.t 40)),
  some (39, true)⟩, {}⟩, ⟨⟨some 42, (.bin .eql (.t 41) (.c (I 0))), some (39, true)⟩, {}⟩, ⟨⟨some 43, (.pick (.t 39) (.t 42) (.c (B false))), none⟩, {}⟩, ⟨⟨some 4, (.mov (.t 43)), none⟩, {}⟩] none) reentry_Valid_C6) .skip)
def reentry_Valid_C7 : TC := .ret
def reentry_Valid_C4 : TC := (.seq (.rg [⟨⟨some 44, (.fadr 0 (.t 3)), none⟩, {}⟩, ⟨⟨some 45, (.load false 1 (.t 44)), none⟩, {}⟩, ⟨⟨some 46, (.call (.c (.fn 16 [])) [(.t 45), (.c (I 1)), (.c (I 2))]), none⟩, {}⟩, ⟨⟨some 47, (.mov (.t 46)), none⟩, {}⟩, ⟨⟨some 48, (.fadr 2 (.t 3)), some (47, true)⟩, {}⟩, ⟨⟨some 49, (.load false 1
  (.t 48)), some (47, true)⟩, {}⟩, ⟨⟨some 50, (.fadr 3 (.t 3)), some (47, true)⟩, {}⟩, ⟨⟨some 51, (.load false 1 (.t 50)), some (47, true)⟩, {}⟩, ⟨⟨some 52, (.call (.c (.fn 17 [])) [(.t 49), (.t 51)]), some (47, true)⟩, {}⟩, ⟨⟨some 53, (.pick (.t 47) (.t 52) (.c (B false))), none⟩, {}⟩, ⟨⟨some 4,
  (.mov (.t 53)), none⟩, {}⟩] none) reentry_Valid_C7)
def reentry_Valid_C1 : TC := (.seq (.seq (.rg [⟨⟨some 33, (.fadr 0 (.t 3)), none⟩, {}⟩, ⟨⟨some 34, (.load false 1 (.t 33)), none⟩, {}⟩, ⟨⟨some 35, (.bin .eql (.t 34) (.c (I 0))), none⟩, {}⟩] none) reentry_Valid_C3) reentry_Valid_C4)
def reentry_Valid_C10 : TC := .ret
def reentry_Valid_C8 : TC := (.cond (.t 32) (.seq (.rg [⟨⟨some 4, (.mov (.c (B false))), none⟩, {}⟩] none) reentry_Valid_C10) .skip)
def reentry_Valid_C9 : TC := (.pre [.keep [3], .cmp] reentry_Valid_C1)
def reentry_Valid_C5 : TC := (.seq (.seq (.rg [⟨⟨some 5, (.fadr 0 (.t 2)), none⟩, {}⟩, ⟨⟨some 6, (.load false 1 (.t 5)), none⟩, {}⟩, ⟨⟨some 7, (.call (.c (.fn 16 [])) [(.t 6), (.c (I 0)), (.c (I 2147483648))]), none⟩, {}⟩, ⟨⟨some 8, (.un .not (.t 7)), none⟩, {}⟩, ⟨⟨some 9, (.mov (.t 8)), none⟩, {}⟩, ⟨⟨some 10, (.fadr 1 (.t 2)),
  some (9, false)⟩, {}⟩, ⟨⟨some 11, (.load false 1 (.t 10)), some (9, false)⟩, {}⟩, ⟨⟨some 12, (.call (.c (.fn 16 [])) [(.t 11), (.c (I 0)), (.c (I 1000000))]), some (9, false)⟩, {}⟩, ⟨⟨some 13, (.un .not (.t 12)), some (9, false)⟩, {}⟩, ⟨⟨some 14, (.pick (.t 9) (.c (B true)) (.t 13)), none⟩, {}⟩,
  ⟨⟨some 15, (.mov (.t 14)), none⟩, {}⟩, ⟨⟨some 16, (.fadr 2 (.t 2)), some (15, false)⟩, {}⟩, ⟨⟨some 17, (.load false 1 (.t 16)), some (15, false)⟩, {}⟩, ⟨⟨some 18, (.len (.t 17)), some (15, false)⟩, {}⟩, ⟨⟨some 19, (.bin .eql (.t 18) (.c (I 0))), some (15, false)⟩, {}⟩, ⟨⟨some 20, (.pick (.t 15) (.c
  (B true)) (.t 19)), none⟩, {}⟩, ⟨⟨some 21, (.mov (.t 20)), none⟩, {}⟩, ⟨⟨some 22, (.fadr 2 (.t 2)), some (21, false)⟩, {}⟩, ⟨⟨some 23, (.load false 1 (.t 22)), some (21, false)⟩, {}⟩, ⟨⟨some 24, (.call (.c (.fn 18 [])) [(.t 23), (.c (I 0)), (.c (I 127))]), some (21, false)⟩, {}⟩, ⟨⟨some 25, (.un
  .not (.t 24)), some (21, false)⟩, {}⟩, ⟨⟨some 26, (.pick (.t 21) (.c (B true)) (.t 25)), none⟩, {}⟩, ⟨⟨some 27, (.mov (.t 26)), none⟩, {}⟩, ⟨⟨some 28, (.fadr 1 (.t 3)), some (27, false)⟩, {}⟩, ⟨⟨some 29, (.load false 1 (.t 28)), some (27, false)⟩, {}⟩, ⟨⟨some 30, (.call (.c (.fn 16 [])) [(.t 29),
  (.c (I 0)), (.c (I 2147483648))]), some (27, false)⟩, {}⟩, ⟨⟨some 31, (.un .not (.t 30)), some (27, false)⟩, {}⟩, ⟨⟨some 32, (.pick (.t 27) (.c (B true)) (.t 31)), none⟩, {}⟩] none) reentry_Valid_C8) reentry_Valid_C9)
def reentry_Valid_C2 : TC := (.seq (.rg [⟨⟨some 2, (.box (.t 0)), none⟩, {}⟩, ⟨⟨some 3, (.box (.t 1)), none⟩, {}⟩, ⟨⟨some 4, (.mov (.c (B false))), none⟩, {}⟩] none) reentry_Valid_C5)
def reentry_Valid_E (N : Nat) : List (Nat × Ent) := [(16, pureE [(.int .i64), (.int .i64), (.int .i64)] [.bool] (fun x => lists_In N x.1 x.2.1 x.2.2)), (18, pureE [(.list (.int .i64)), (.int .i64), (.int .i64)] [.bool] (fun x => lists_Rising N x.1 x.2.1 x.2.2)), (17, pureE [(.int .i64), (.int .i64)] [.bool] (fun x => reentry_pair N x.1 x.2))]
def reentry_Valid_J1 (N : Nat) (x5 : Int) (x6 : Int) (x7 : Int) (x8 : Int) : Option Bool := run (reentry_Valid_E N) N 0 reentry_Valid_C1 ⟨[(3, .ptr 0 0 0)], [some (.box 0 [.int .i64 x5, .int .i64 x6, .int .i64 x7, .int .i64 x8])]⟩ (fin [(.t 4)] [.bool])
theorem reentry_Valid_J1_eq (N : Nat) (x5 : Int) (x6 : Int) (x7 : Int) (x8 : Int) : reentry_Valid_J1 N x5 x6 x7 x8 =
  bif (x5 == 0) then
    bif (x7 == 0) then
      some (x8 == 0)
    else
      some false
  else
    Option.bind (lists_In N x5 1 2) fun r9 =>
    bif r9 then
      Option.bind (reentry_pair N x7 x8) fun r10 =>
      some r10
    else
      some false := by kernel_rfl
def reentry_Valid (N : Nat) (a0 : T_EntryRule) (a1 : T_Entering) : Option Bool :=
  Option.bind (lists_In N a0.1 0 2147483648) fun r1 =>
  bif (!r1) then
    some false
  else
    Option.bind (lists_In N a0.2.1 0 1000000) fun r2 =>
    bif (!r2) then
      some false
    else
      bif ((a0.2.2.length : Int) == 0) then
        some false
      else
        Option.bind (lists_Rising N a0.2.2 0 127) fun r3 =>
        bif (!r3) then
          some false
        else
          Option.bind (lists_In N a1.2.1 0 2147483648) fun r4 =>
          bif (!r4) then
            some false
          else
            reentry_Valid_J1 N a1.1 a1.2.1 a1.2.2.1 a1.2.2.2
theorem reentry_Valid_fn : FnOK Try.prog 15 54 (fun _ : Nat => false) reentry_Valid_C2.er [(.t 4)] := FnOK.mk' Try.func15 (by kernel_rfl) (by kernel_rfl) (by kernel_rfl) (by kernel_rfl) (by kernel_rfl)
theorem reentry_Valid_envok (N : Nat) : EnvOK Try.prog (reentry_Valid_E N) := .cons (pureE_ok (lists_In_pure N)) (.cons (pureE_ok (lists_Rising_pure N)) (.cons (pureE_ok (reentry_pair_pure N)) (.nil)))
theorem reentry_Valid_pure (N : Nat) : PureOK Try.prog 15 [G_EntryRule, G_Entering] [.bool] (fun x => reentry_Valid N x.1 x.2) := pureOK (N := N) mixed reentry_Valid_fn (reentry_Valid_envok N) rfl (fun x => by kernel_rfl)
/-! reentry_Clear -/
def reentry_Clear_N1 : List NS := [.wk 2 (.list G_Span), .wk 31 (.list (.int .i64)), .keep [2, 4, 5, 31, 32, 33], .cmp]
def reentry_Clear_C17 : TC := .ret
def reentry_Clear_C16 : TC := (.cond (.t 70) (.seq (.rg [⟨⟨some 8, (.mov (.c (B false))), none⟩, {}⟩] none) reentry_Clear_C17) .skip)
def reentry_Clear_C15 : TC := (.seq (.rg [⟨⟨some 42, (.mov (.t 10)), none⟩, {}⟩, ⟨⟨some 43, (.fadr 1 (.t 5)), none⟩, {}⟩, ⟨⟨some 44, (.load false 1 (.t 43)), none⟩, {}⟩, ⟨⟨some 45, (.len (.t 44)), none⟩, {}⟩, ⟨⟨some 46, (.bin .geq (.t 42) (.t 45)), none⟩, {}⟩, ⟨⟨some 47, (.mov (.t 46)), none⟩, {}⟩, ⟨⟨some 48, (.fadr 1 (.t 5)),
  some (47, false)⟩, {}⟩, ⟨⟨some 49, (.load false 1 (.t 48)), some (47, false)⟩, {}⟩, ⟨⟨some 50, (.mov (.t 10)), some (47, false)⟩, {}⟩, ⟨⟨some 51, (.iadrS 1 (.t 49) (.t 50)), some (47, false)⟩, {}⟩, ⟨⟨some 52, (.load false 1 (.t 51)), some (47, false)⟩, {}⟩, ⟨⟨some 53, (.fadr 1 (.t 4)), some (47,
  false)⟩, {}⟩, ⟨⟨some 54, (.load false 1 (.t 53)), some (47, false)⟩, {}⟩, ⟨⟨some 55, (.bin .gtr (.t 52) (.t 54)), some (47, false)⟩, {}⟩, ⟨⟨some 56, (.pick (.t 47) (.c (B true)) (.t 55)), none⟩, {}⟩, ⟨⟨some 57, (.mov (.t 56)), none⟩, {}⟩, ⟨⟨some 58, (.fadr 1 (.t 11)), some (57, false)⟩, {}⟩, ⟨⟨some
  59, (.load false 1 (.t 58)), some (57, false)⟩, {}⟩, ⟨⟨some 60, (.fadr 1 (.t 4)), some (57, false)⟩, {}⟩, ⟨⟨some 61, (.load false 1 (.t 60)), some (57, false)⟩, {}⟩, ⟨⟨some 62, (.bin .gtr (.t 59) (.t 61)), some (57, false)⟩, {}⟩, ⟨⟨some 63, (.pick (.t 57) (.c (B true)) (.t 62)), none⟩, {}⟩, ⟨⟨some
  64, (.mov (.t 63)), none⟩, {}⟩, ⟨⟨some 65, (.fadr 0 (.t 11)), some (64, false)⟩, {}⟩, ⟨⟨some 66, (.load false 1 (.t 65)), some (64, false)⟩, {}⟩, ⟨⟨some 67, (.fadr 1 (.t 11)), some (64, false)⟩, {}⟩, ⟨⟨some 68, (.load false 1 (.t 67)), some (64, false)⟩, {}⟩, ⟨⟨some 69, (.bin .gtr (.t 66) (.t 68)),
  some (64, false)⟩, {}⟩, ⟨⟨some 70, (.pick (.t 64) (.c (B true)) (.t 69)), none⟩, {}⟩] (some [])) reentry_Clear_C16)
def reentry_Clear_C12 : TC := (.seq (.rg [⟨⟨some 38, (.mov (.t 2)), none⟩, {}⟩, ⟨⟨some 39, (.mov (.t 9)), none⟩, {}⟩, ⟨⟨some 40, (.iadrS 2 (.t 38) (.t 39)), none⟩, {}⟩, ⟨⟨some 41, (.load true 2 (.t 40)), none⟩, {}⟩, ⟨⟨some 11, (.alloc [(I 0), (I 0)]), none⟩, {}⟩, ⟨⟨none, (.store 2 (.t 11) (.t 41)), none⟩, {}⟩] none)
  reentry_Clear_C15)
def reentry_Clear_C13 : TC := (.rg [⟨⟨some 71, (.bin .add (.t 33) (.c (I 1))), none⟩, {}⟩, ⟨⟨some 33, (.mov (.t 71)), none⟩, {}⟩] none)
def reentry_Clear_C9 : TC := (.seq (.block 1 (.seq (.rg [⟨⟨some 35, (.mov (.t 33)), none⟩, {}⟩, ⟨⟨some 36, (.iadrS 1 (.t 31) (.t 33)), none⟩, {}⟩, ⟨⟨some 37, (.load false 1 (.t 36)), none⟩, {}⟩, ⟨⟨some 9, (.mov (.t 35)), none⟩, {}⟩, ⟨⟨some 10, (.mov (.t 37)), none⟩, {}⟩] none) reentry_Clear_C12)) reentry_Clear_C13)
def reentry_Clear_C5 : TC := (.seq (.cond (.t 34) .skip (.exit 0)) reentry_Clear_C9)
def reentry_Clear_C1 : TC := (.seq (.rg [⟨⟨some 34, (.bin .lss (.t 33) (.t 32)), none⟩, {}⟩] none) reentry_Clear_C5)
def reentry_Clear_C6 : TC := .ret
def reentry_Clear_C2 : TC := (.seq (.rg [⟨⟨some 8, (.mov (.c (B true))), none⟩, {}⟩] none) reentry_Clear_C6)
def reentry_Clear_C7 : TC := (.block 0 (.loop reentry_Clear_N1 reentry_Clear_C1))
def reentry_Clear_C3 : TC := (.seq (.seq (.rg [⟨⟨some 30, (.fadr 2 (.t 4)), none⟩, {}⟩, ⟨⟨some 31, (.load false 1 (.t 30)), none⟩, {}⟩, ⟨⟨some 32, (.len (.t 31)), none⟩, {}⟩, ⟨⟨some 33, (.mov (.c (I 0))), none⟩, {}⟩] none) reentry_Clear_C7) reentry_Clear_C2)
def reentry_Clear_C14 : TC := .ret
def reentry_Clear_C10 : TC := (.cond (.t 29) (.seq (.rg [⟨⟨some 8, (.mov (.c (B false))), none⟩, {}⟩] none) reentry_Clear_C14) .skip)
def reentry_Clear_C11 : TC := (.pre [.wk 2 (.list G_Span), .keep [2, 4, 5], .cmp] reentry_Clear_C3)
def reentry_Clear_C8 : TC := (.seq (.seq (.rg [⟨⟨some 12, (.load true 3 (.t 4)), none⟩, {}⟩, ⟨⟨some 13, (.build [(I 0), (I 0), (I 0), (I 0)] []), none⟩, {}⟩, ⟨⟨some 14, (.call (.c (.fn 15 [])) [(.t 12), (.t 13)]), none⟩, {}⟩, ⟨⟨some 15, (.un .not (.t 14)), none⟩, {}⟩, ⟨⟨some 16, (.mov (.t 15)), none⟩, {}⟩, ⟨⟨some 17, (.mov (.t
  2)), some (16, false)⟩, {}⟩, ⟨⟨some 18, (.len (.t 17)), some (16, false)⟩, {}⟩, ⟨⟨some 19, (.fadr 2 (.t 4)), some (16, false)⟩, {}⟩, ⟨⟨some 20, (.load false 1 (.t 19)), some (16, false)⟩, {}⟩, ⟨⟨some 21, (.len (.t 20)), some (16, false)⟩, {}⟩, ⟨⟨some 22, (.bin .neq (.t 18) (.t 21)), some (16,
  false)⟩, {}⟩, ⟨⟨some 23, (.pick (.t 16) (.c (B true)) (.t 22)), none⟩, {}⟩, ⟨⟨some 24, (.mov (.t 23)), none⟩, {}⟩, ⟨⟨some 25, (.fadr 0 (.t 5)), some (24, false)⟩, {}⟩, ⟨⟨some 26, (.load false 1 (.t 25)), some (24, false)⟩, {}⟩, ⟨⟨some 27, (.mov (.t 3)), some (24, false)⟩, {}⟩, ⟨⟨some 28, (.bin .gtr
  (.t 26) (.t 27)), some (24, false)⟩, {}⟩, ⟨⟨some 29, (.pick (.t 24) (.c (B true)) (.t 28)), none⟩, {}⟩] none) reentry_Clear_C10) reentry_Clear_C11)
def reentry_Clear_C4 : TC := (.seq (.rg [⟨⟨some 4, (.box (.t 0)), none⟩, {}⟩, ⟨⟨some 5, (.box (.t 1)), none⟩, {}⟩, ⟨⟨some 8, (.mov (.c (B false))), none⟩, {}⟩] none) reentry_Clear_C8)
def reentry_Clear_E (N : Nat) : List (Nat × Ent) := [(15, pureE [G_EntryRule, G_Entering] [.bool] (fun x => reentry_Valid N x.1 x.2))]
def reentry_Clear_L1 (N : Nat) (n : Nat) (x8 : List T_Span) (x9 : List Int) (x10 : Int) (x11 : Int) (x12 : Int) (x13 : Int) (x14 : List Int) (x15 : Int) (x16 : List Int) : Option Bool := loopN (normI 0 reentry_Clear_N1) (run (reentry_Clear_E N) N 0 reentry_Clear_C1) n ⟨[(2, .lst false G_Span x8), (4, .ptr 0 0 0), (5, .ptr 1 0 0), (31, .lst false (.int .i64) x9), (32, .int .i64 x10), (33, .int .i64 x11)], [some (.box 0 [.int .i64 x12, .int .i64 x13, .lst false (.int .i64) x14]), some (.box 0 [.int .i64 x15, .lst false (.int .i64) x16])]⟩ (blkK 0 (seqK (run (reentry_Clear_E N) N 0 reentry_Clear_C2) (fin [(.t 8)] [.bool])))
theorem reentry_Clear_L1_zero (N : Nat) (x8 : List T_Span) (x9 : List Int) (x10 : Int) (x11 : Int) (x12 : Int) (x13 : Int) (x14 : List Int) (x15 : Int) (x16 : List Int) : reentry_Clear_L1 N 0 x8 x9 x10 x11 x12 x13 x14 x15 x16 = none := rfl
theorem reentry_Clear_L1_succ (N : Nat) (n1 : Nat) (x8 : List T_Span) (x9 : List Int) (x10 : Int) (x11 : Int) (x12 : Int) (x13 : Int) (x14 : List Int) (x15 : Int) (x16 : List Int) : reentry_Clear_L1 N (n1 + 1) x8 x9 x10 x11 x12 x13 x14 x15 x16 =
  bif (decide (x11 < x10)) then
    bif inB x11 x9.length then
    bif inB x11 x8.length then
    bif (decide ((x9.getD x11.toNat 0) ≥ (x16.length : Int))) then
      some false
    else
      bif inB (x9.getD x11.toNat 0) x16.length then
      bif (decide ((x16.getD (x9.getD x11.toNat 0).toNat 0) > x13)) then
        some false
      else
        bif (decide ((x8.getD x11.toNat D_Span).2 > x13)) then
          some false
        else
          bif (decide ((x8.getD x11.toNat D_Span).1 > (x8.getD x11.toNat D_Span).2)) then
            some false
          else
            reentry_Clear_L1 N n1 x8 x9 x10 (W (x11 + 1)) x12 x13 x14 x15 x16
      else none
    else none
    else none
  else
    some true := by kernel_rfl
def reentry_Clear_J1 (N : Nat) (x2 : List T_Span) (x3 : Int) (x4 : Int) (x5 : List Int) (x6 : Int) (x7 : List Int) : Option Bool := run (reentry_Clear_E N) N 0 reentry_Clear_C3 ⟨[(2, .lst false G_Span x2), (4, .ptr 0 0 0), (5, .ptr 1 0 0)], [some (.box 0 [.int .i64 x3, .int .i64 x4, .lst false (.int .i64) x5]), some (.box 0 [.int .i64 x6, .lst false (.int .i64) x7])]⟩ (fin [(.t 8)] [.bool])
theorem reentry_Clear_J1_eq (N : Nat) (x2 : List T_Span) (x3 : Int) (x4 : Int) (x5 : List Int) (x6 : Int) (x7 : List Int) : reentry_Clear_J1 N x2 x3 x4 x5 x6 x7 =
  reentry_Clear_L1 N N x2 x5 (x5.length : Int) 0 x3 x4 x5 x6 x7 := by kernel_rfl
def reentry_Clear (N : Nat) (a0 : T_EntryRule) (a1 : T_Fumes) (a2 : List T_Span) (a3 : Int) : Option Bool :=
  Option.bind (reentry_Valid N a0 (0, (0, (0, 0)))) fun r1 =>
  bif (!r1) then
    some false
  else
    bif ((a2.length : Int) != (a0.2.2.length : Int)) then
      some false
    else
      bif (decide (a1.1 > a3)) then
        some false
      else
        reentry_Clear_J1 N a2 a0.1 a0.2.1 a0.2.2 a1.1 a1.2
theorem reentry_Clear_fn : FnOK Try.prog 9 72 (fun _ : Nat => false) reentry_Clear_C4.er [(.t 8)] := FnOK.mk' Try.func9 (by kernel_rfl) (by kernel_rfl) (by kernel_rfl) (by kernel_rfl) (by kernel_rfl)
theorem reentry_Clear_envok (N : Nat) : EnvOK Try.prog (reentry_Clear_E N) := .cons (pureE_ok (reentry_Valid_pure N)) (.nil)
theorem reentry_Clear_pure (N : Nat) : PureOK Try.prog 9 [G_EntryRule, G_Fumes, (.list G_Span), (.int .i64)] [.bool] (fun x => reentry_Clear N x.1 x.2.1 x.2.2.1 x.2.2.2) := pureOK (N := N) mixed reentry_Clear_fn (reentry_Clear_envok N) rfl (fun x => by kernel_rfl)
/-! reentry_Inspect -/
def reentry_Inspect_C5 : TC := .ret
def reentry_Inspect_C8 : TC := .ret
def reentry_Inspect_C10 : TC := .ret
def reentry_Inspect_C12 : TC := .ret
def reentry_Inspect_C14 : TC := .ret
def reentry_Inspect_C16 : TC := .ret
def reentry_Inspect_C15 : TC := (.cond (.t 56) (.seq (.rg [⟨⟨some 63, (.load true 4 (.t 9)), none⟩, {}⟩, ⟨⟨none, (.store 4 (.t 16) (.t 63)), none⟩, {}⟩, ⟨⟨some 17, (.mov (.c (I 50))), none⟩, {}⟩] none) reentry_Inspect_C16) .skip)
def reentry_Inspect_C13 : TC := (.cond (.t 44) (.seq (.rg [⟨⟨some 55, (.load true 4 (.t 9)), none⟩, {}⟩, ⟨⟨none, (.store 4 (.t 16) (.t 55)), none⟩, {}⟩, ⟨⟨some 17, (.mov (.c (I 8))), none⟩, {}⟩] none) reentry_Inspect_C14) (.seq (.rg [⟨⟨some 57, (.load true 3 (.t 8)), none⟩, {}⟩, ⟨⟨some 58, (.load true 2 (.t 10)), none⟩, {}⟩, ⟨⟨some
  59, (.mov (.t 3)), none⟩, {}⟩, ⟨⟨some 60, (.mov (.t 7)), none⟩, {}⟩, ⟨⟨some 61, (.call (.c (.fn 9 [])) [(.t 57), (.t 58), (.t 59), (.t 60)]), none⟩, {}⟩, ⟨⟨some 62, (.un .not (.t 61)), none⟩, {}⟩, ⟨⟨some 56, (.mov (.t 62)), none⟩, {}⟩] none) reentry_Inspect_C15))
def reentry_Inspect_C11 : TC := (.cond (.t 38) (.seq (.rg [⟨⟨some 43, (.load true 4 (.t 9)), none⟩, {}⟩, ⟨⟨none, (.store 4 (.t 16) (.t 43)), none⟩, {}⟩, ⟨⟨some 17, (.mov (.c (I 19))), none⟩, {}⟩] none) reentry_Inspect_C12) (.seq (.rg [⟨⟨some 45, (.mov (.t 6)), none⟩, {}⟩, ⟨⟨some 46, (.bin .lss (.t 45) (.c (I 0))), none⟩, {}⟩,
  ⟨⟨some 47, (.mov (.t 46)), none⟩, {}⟩, ⟨⟨some 48, (.mov (.t 6)), some (47, false)⟩, {}⟩, ⟨⟨some 49, (.mov (.t 7)), some (47, false)⟩, {}⟩, ⟨⟨some 50, (.fadr 0 (.t 8)), some (47, false)⟩, {}⟩, ⟨⟨some 51, (.load false 1 (.t 50)), some (47, false)⟩, {}⟩, ⟨⟨some 52, (.bin .sub (.t 49) (.t 51)), some
  (47, false)⟩, {}⟩, ⟨⟨some 53, (.bin .gtr (.t 48) (.t 52)), some (47, false)⟩, {}⟩, ⟨⟨some 54, (.pick (.t 47) (.c (B true)) (.t 53)), none⟩, {}⟩, ⟨⟨some 44, (.mov (.t 54)), none⟩, {}⟩] none) reentry_Inspect_C13))
def reentry_Inspect_C9 : TC := (.cond (.t 29) (.seq (.rg [⟨⟨some 37, (.load true 4 (.t 9)), none⟩, {}⟩, ⟨⟨none, (.store 4 (.t 16) (.t 37)), none⟩, {}⟩, ⟨⟨some 17, (.mov (.c (I 8))), none⟩, {}⟩] none) reentry_Inspect_C10) (.seq (.rg [⟨⟨some 39, (.mov (.t 4)), none⟩, {}⟩, ⟨⟨some 40, (.mov (.t 5)), none⟩, {}⟩, ⟨⟨some 41, (.call (.c
  (.fn 17 [])) [(.t 39), (.t 40)]), none⟩, {}⟩, ⟨⟨some 42, (.un .not (.t 41)), none⟩, {}⟩, ⟨⟨some 38, (.mov (.t 42)), none⟩, {}⟩] none) reentry_Inspect_C11))
def reentry_Inspect_C6 : TC := (.cond (.t 24) (.seq (.rg [⟨⟨some 28, (.load true 4 (.t 9)), none⟩, {}⟩, ⟨⟨none, (.store 4 (.t 16) (.t 28)), none⟩, {}⟩, ⟨⟨some 17, (.mov (.c (I 10))), none⟩, {}⟩] none) reentry_Inspect_C8) (.seq (.rg [⟨⟨some 30, (.mov (.t 7)), none⟩, {}⟩, ⟨⟨some 31, (.fadr 1 (.t 9)), none⟩, {}⟩, ⟨⟨some 32, (.load
  false 1 (.t 31)), none⟩, {}⟩, ⟨⟨some 33, (.mov (.t 6)), none⟩, {}⟩, ⟨⟨some 34, (.mm true [(.c (I 0)), (.t 32), (.t 33)]), none⟩, {}⟩, ⟨⟨some 35, (.call (.c (.fn 16 [])) [(.t 30), (.t 34), (.c (I 2147483648))]), none⟩, {}⟩, ⟨⟨some 36, (.un .not (.t 35)), none⟩, {}⟩, ⟨⟨some 29, (.mov (.t 36)), none⟩,
  {}⟩] none) reentry_Inspect_C9))
def reentry_Inspect_C3 : TC := (.cond (.t 18) (.seq (.rg [⟨⟨some 23, (.load true 4 (.t 9)), none⟩, {}⟩, ⟨⟨none, (.store 4 (.t 16) (.t 23)), none⟩, {}⟩, ⟨⟨some 17, (.mov (.c (I 6))), none⟩, {}⟩] none) reentry_Inspect_C5) (.seq (.rg [⟨⟨some 25, (.fadr 0 (.t 9)), none⟩, {}⟩, ⟨⟨some 26, (.load false 1 (.t 25)), none⟩, {}⟩, ⟨⟨some 27,
  (.bin .neq (.t 26) (.c (I 0))), none⟩, {}⟩, ⟨⟨some 24, (.mov (.t 27)), none⟩, {}⟩] none) reentry_Inspect_C6))
def reentry_Inspect_C7 : TC := .ret
def reentry_Inspect_C4 : TC := (.seq (.rg [⟨⟨some 64, (.mov (.t 7)), none⟩, {}⟩, ⟨⟨some 65, (.mov (.t 4)), none⟩, {}⟩, ⟨⟨some 66, (.mov (.t 5)), none⟩, {}⟩, ⟨⟨some 67, (.build [(I 0), (I 0), (I 0), (I 0)] [(0, (1, (.c (I 1)))), (1, (1, (.t 64))), (2, (1, (.t 65))), (3, (1, (.t 66)))]), none⟩, {}⟩, ⟨⟨none, (.store 4 (.t 16) (.t
  67)), none⟩, {}⟩, ⟨⟨some 17, (.mov (.c (I 0))), none⟩, {}⟩] none) reentry_Inspect_C7)
def reentry_Inspect_C2 : TC := (.seq (.block 0 (.seq (.rg [⟨⟨some 19, (.load true 3 (.t 8)), none⟩, {}⟩, ⟨⟨some 20, (.load true 4 (.t 9)), none⟩, {}⟩, ⟨⟨some 21, (.call (.c (.fn 15 [])) [(.t 19), (.t 20)]), none⟩, {}⟩, ⟨⟨some 22, (.un .not (.t 21)), none⟩, {}⟩, ⟨⟨some 18, (.mov (.t 22)), none⟩, {}⟩] none) reentry_Inspect_C3))
  reentry_Inspect_C4)
def reentry_Inspect_C1 : TC := (.seq (.rg [⟨⟨some 8, (.box (.t 0)), none⟩, {}⟩, ⟨⟨some 9, (.box (.t 1)), none⟩, {}⟩, ⟨⟨some 10, (.box (.t 2)), none⟩, {}⟩, ⟨⟨some 16, (.alloc [(I 0), (I 0), (I 0), (I 0)]), none⟩, {}⟩, ⟨⟨some 17, (.mov (.c (I 0))), none⟩, {}⟩] none) reentry_Inspect_C2)
def reentry_Inspect_E (N : Nat) : List (Nat × Ent) := [(15, pureE [G_EntryRule, G_Entering] [.bool] (fun x => reentry_Valid N x.1 x.2)), (16, pureE [(.int .i64), (.int .i64), (.int .i64)] [.bool] (fun x => lists_In N x.1 x.2.1 x.2.2)), (17, pureE [(.int .i64), (.int .i64)] [.bool] (fun x => reentry_pair N x.1 x.2)), (9, pureE [G_EntryRule, G_Fumes, (.list G_Span), (.int .i64)] [.bool] (fun x => reentry_Clear N x.1 x.2.1 x.2.2.1 x.2.2.2))]
def reentry_Inspect (N : Nat) (a0 : T_EntryRule) (a1 : T_Entering) (a2 : T_Fumes) (a3 : List T_Span) (a4 : Int) (a5 : Int) (a6 : Int) (a7 : Int) : Option (T_Entering × Int) :=
  Option.bind (reentry_Valid N a0 a1) fun r1 =>
  bif (!r1) then
    some (a1, 6)
  else
    bif (a1.1 != 0) then
      some (a1, 10)
    else
      Option.bind (lists_In N a7 (max (max 0 a1.2.1) a6) 2147483648) fun r2 =>
      bif (!r2) then
        some (a1, 8)
      else
        Option.bind (reentry_pair N a4 a5) fun r3 =>
        bif (!r3) then
          some (a1, 19)
        else
          bif (decide (a6 < 0)) then
            some (a1, 8)
          else
            bif (decide (a6 > (W (a7 - a0.1)))) then
              some (a1, 8)
            else
              Option.bind (reentry_Clear N a0 a2 a3 a7) fun r4 =>
              bif (!r4) then
                some (a1, 50)
              else
                some ((1, (a7, (a4, a5))), 0)
theorem reentry_Inspect_fn : FnOK Try.prog 10 68 (fun _ : Nat => false) reentry_Inspect_C1.er [(.cell 16 true 4), (.t 17)] := FnOK.mk' Try.func10 (by kernel_rfl) (by kernel_rfl) (by kernel_rfl) (by kernel_rfl) (by kernel_rfl)
theorem reentry_Inspect_envok (N : Nat) : EnvOK Try.prog (reentry_Inspect_E N) := .cons (pureE_ok (reentry_Valid_pure N)) (.cons (pureE_ok (lists_In_pure N)) (.cons (pureE_ok (reentry_pair_pure N)) (.cons (pureE_ok (reentry_Clear_pure N)) (.nil))))
theorem reentry_Inspect_pure (N : Nat) : PureOK Try.prog 10 [G_EntryRule, G_Entering, G_Fumes, (.list G_Span), (.int .i64), (.int .i64), (.int .i64), (.int .i64)] [G_Entering, (.int .i64)] (fun x => reentry_Inspect N x.1 x.2.1 x.2.2.1 x.2.2.2.1 x.2.2.2.2.1 x.2.2.2.2.2.1 x.2.2.2.2.2.2.1 x.2.2.2.2.2.2.2) := pureOK (N := N) mixed reentry_Inspect_fn (reentry_Inspect_envok N) rfl (fun x => by kernel_rfl)
/-! reentry_Release -/
def reentry_Release_C5 : TC := .ret
def reentry_Release_C8 : TC := .ret
def reentry_Release_C11 : TC := .ret
def reentry_Release_C13 : TC := .ret
def reentry_Release_C12 : TC := (.cond (.t 30) (.seq (.rg [⟨⟨some 37, (.load true 4 (.t 6)), none⟩, {}⟩, ⟨⟨none, (.store 4 (.t 10) (.t 37)), none⟩, {}⟩, ⟨⟨some 11, (.mov (.c (I 50))), none⟩, {}⟩] none) reentry_Release_C13) .skip)
def reentry_Release_C9 : TC := (.cond (.t 23) (.seq (.rg [⟨⟨some 29, (.load true 4 (.t 6)), none⟩, {}⟩, ⟨⟨none, (.store 4 (.t 10) (.t 29)), none⟩, {}⟩, ⟨⟨some 11, (.mov (.c (I 8))), none⟩, {}⟩] none) reentry_Release_C11) (.seq (.rg [⟨⟨some 31, (.load true 3 (.t 5)), none⟩, {}⟩, ⟨⟨some 32, (.load true 2 (.t 7)), none⟩, {}⟩, ⟨⟨some
  33, (.mov (.t 3)), none⟩, {}⟩, ⟨⟨some 34, (.mov (.t 4)), none⟩, {}⟩, ⟨⟨some 35, (.call (.c (.fn 9 [])) [(.t 31), (.t 32), (.t 33), (.t 34)]), none⟩, {}⟩, ⟨⟨some 36, (.un .not (.t 35)), none⟩, {}⟩, ⟨⟨some 30, (.mov (.t 36)), none⟩, {}⟩] none) reentry_Release_C12))
def reentry_Release_C6 : TC := (.cond (.t 18) (.seq (.rg [⟨⟨some 22, (.load true 4 (.t 6)), none⟩, {}⟩, ⟨⟨none, (.store 4 (.t 10) (.t 22)), none⟩, {}⟩, ⟨⟨some 11, (.mov (.c (I 10))), none⟩, {}⟩] none) reentry_Release_C8) (.seq (.rg [⟨⟨some 24, (.mov (.t 4)), none⟩, {}⟩, ⟨⟨some 25, (.fadr 1 (.t 6)), none⟩, {}⟩, ⟨⟨some 26, (.load
  false 1 (.t 25)), none⟩, {}⟩, ⟨⟨some 27, (.call (.c (.fn 16 [])) [(.t 24), (.t 26), (.c (I 2147483648))]), none⟩, {}⟩, ⟨⟨some 28, (.un .not (.t 27)), none⟩, {}⟩, ⟨⟨some 23, (.mov (.t 28)), none⟩, {}⟩] none) reentry_Release_C9))
def reentry_Release_C3 : TC := (.cond (.t 12) (.seq (.rg [⟨⟨some 17, (.load true 4 (.t 6)), none⟩, {}⟩, ⟨⟨none, (.store 4 (.t 10) (.t 17)), none⟩, {}⟩, ⟨⟨some 11, (.mov (.c (I 6))), none⟩, {}⟩] none) reentry_Release_C5) (.seq (.rg [⟨⟨some 19, (.fadr 0 (.t 6)), none⟩, {}⟩, ⟨⟨some 20, (.load false 1 (.t 19)), none⟩, {}⟩, ⟨⟨some 21,
  (.bin .neq (.t 20) (.c (I 1))), none⟩, {}⟩, ⟨⟨some 18, (.mov (.t 21)), none⟩, {}⟩] none) reentry_Release_C6))
def reentry_Release_C10 : TC := .ret
def reentry_Release_C7 : TC := (.seq (.rg [⟨⟨some 41, (.load true 4 (.t 6)), none⟩, {}⟩, ⟨⟨none, (.store 4 (.t 10) (.t 41)), none⟩, {}⟩, ⟨⟨some 11, (.mov (.c (I 0))), none⟩, {}⟩] none) reentry_Release_C10)
def reentry_Release_C4 : TC := (.seq (.rg [⟨⟨some 38, (.mov (.t 4)), none⟩, {}⟩, ⟨⟨some 39, (.fadr 0 (.t 6)), none⟩, {}⟩, ⟨⟨none, (.store 1 (.t 39) (.c (I 2))), none⟩, {}⟩, ⟨⟨some 40, (.fadr 1 (.t 6)), none⟩, {}⟩, ⟨⟨none, (.store 1 (.t 40) (.t 38)), none⟩, {}⟩] none) reentry_Release_C7)
def reentry_Release_C2 : TC := (.seq (.block 0 (.seq (.rg [⟨⟨some 13, (.load true 3 (.t 5)), none⟩, {}⟩, ⟨⟨some 14, (.load true 4 (.t 6)), none⟩, {}⟩, ⟨⟨some 15, (.call (.c (.fn 15 [])) [(.t 13), (.t 14)]), none⟩, {}⟩, ⟨⟨some 16, (.un .not (.t 15)), none⟩, {}⟩, ⟨⟨some 12, (.mov (.t 16)), none⟩, {}⟩] none) reentry_Release_C3))
  reentry_Release_C4)
def reentry_Release_C1 : TC := (.seq (.rg [⟨⟨some 5, (.box (.t 0)), none⟩, {}⟩, ⟨⟨some 6, (.box (.t 1)), none⟩, {}⟩, ⟨⟨some 7, (.box (.t 2)), none⟩, {}⟩, ⟨⟨some 10, (.alloc [(I 0), (I 0), (I 0), (I 0)]), none⟩, {}⟩, ⟨⟨some 11, (.mov (.c (I 0))), none⟩, {}⟩] none) reentry_Release_C2)
def reentry_Release_E (N : Nat) : List (Nat × Ent) := [(15, pureE [G_EntryRule, G_Entering] [.bool] (fun x => reentry_Valid N x.1 x.2)), (16, pureE [(.int .i64), (.int .i64), (.int .i64)] [.bool] (fun x => lists_In N x.1 x.2.1 x.2.2)), (9, pureE [G_EntryRule, G_Fumes, (.list G_Span), (.int .i64)] [.bool] (fun x => reentry_Clear N x.1 x.2.1 x.2.2.1 x.2.2.2))]
def reentry_Release (N : Nat) (a0 : T_EntryRule) (a1 : T_Entering) (a2 : T_Fumes) (a3 : List T_Span) (a4 : Int) : Option (T_Entering × Int) :=
  Option.bind (reentry_Valid N a0 a1) fun r1 =>
  bif (!r1) then
    some (a1, 6)
  else
    bif (a1.1 != 1) then
      some (a1, 10)
    else
      Option.bind (lists_In N a4 a1.2.1 2147483648) fun r2 =>
      bif (!r2) then
        some (a1, 8)
      else
        Option.bind (reentry_Clear N a0 a2 a3 a4) fun r3 =>
        bif (!r3) then
          some (a1, 50)
        else
          some ((2, (a4, a1.2.2)), 0)
theorem reentry_Release_fn : FnOK Try.prog 11 42 (fun _ : Nat => false) reentry_Release_C1.er [(.cell 10 true 4), (.t 11)] := FnOK.mk' Try.func11 (by kernel_rfl) (by kernel_rfl) (by kernel_rfl) (by kernel_rfl) (by kernel_rfl)
theorem reentry_Release_envok (N : Nat) : EnvOK Try.prog (reentry_Release_E N) := .cons (pureE_ok (reentry_Valid_pure N)) (.cons (pureE_ok (lists_In_pure N)) (.cons (pureE_ok (reentry_Clear_pure N)) (.nil)))
theorem reentry_Release_pure (N : Nat) : PureOK Try.prog 11 [G_EntryRule, G_Entering, G_Fumes, (.list G_Span), (.int .i64)] [G_Entering, (.int .i64)] (fun x => reentry_Release N x.1 x.2.1 x.2.2.1 x.2.2.2.1 x.2.2.2.2) := pureOK (N := N) mixed reentry_Release_fn (reentry_Release_envok N) rfl (fun x => by kernel_rfl)
/-! law36_awake -/
def law36_awake_C9 : TC := .ret
def law36_awake_C8 : TC := (.seq (.rg [⟨⟨some 40, (.mov (.t 5)), none⟩, {}⟩, ⟨⟨some 41, (.bin .eql (.t 40) (.c (I 8))), none⟩, {}⟩, ⟨⟨some 42, (.mov (.t 41)), none⟩, {}⟩, ⟨⟨some 43, (.mov (.t 7)), some (42, true)⟩, {}⟩, ⟨⟨some 44, (.bin .eql (.t 43) (.c (I 0))), some (42, true)⟩, {}⟩, ⟨⟨some 45, (.pick (.t 42) (.t 44) (.c (B
  false))), none⟩, {}⟩, ⟨⟨some 46, (.mov (.t 45)), none⟩, {}⟩, ⟨⟨some 47, (.mov (.t 9)), some (46, true)⟩, {}⟩, ⟨⟨some 48, (.bin .eql (.t 47) (.c (I 0))), some (46, true)⟩, {}⟩, ⟨⟨some 49, (.pick (.t 46) (.t 48) (.c (B false))), none⟩, {}⟩, ⟨⟨some 50, (.mov (.t 49)), none⟩, {}⟩, ⟨⟨some 51, (.fadr 0
  (.t 6)), some (50, true)⟩, {}⟩, ⟨⟨some 52, (.load false 1 (.t 51)), some (50, true)⟩, {}⟩, ⟨⟨some 53, (.bin .eql (.t 52) (.c (I 1))), some (50, true)⟩, {}⟩, ⟨⟨some 54, (.pick (.t 50) (.t 53) (.c (B false))), none⟩, {}⟩, ⟨⟨some 55, (.mov (.t 54)), none⟩, {}⟩, ⟨⟨some 56, (.fadr 0 (.t 8)), some (55,
  true)⟩, {}⟩, ⟨⟨some 57, (.load false 1 (.t 56)), some (55, true)⟩, {}⟩, ⟨⟨some 58, (.bin .eql (.t 57) (.c (I 2))), some (55, true)⟩, {}⟩, ⟨⟨some 59, (.pick (.t 55) (.t 58) (.c (B false))), none⟩, {}⟩, ⟨⟨some 60, (.mov (.t 59)), none⟩, {}⟩, ⟨⟨some 61, (.fadr 3 (.t 8)), some (60, true)⟩, {}⟩, ⟨⟨some
  62, (.load false 1 (.t 61)), some (60, true)⟩, {}⟩, ⟨⟨some 63, (.bin .eql (.t 62) (.c (I 2))), some (60, true)⟩, {}⟩, ⟨⟨some 64, (.pick (.t 60) (.t 63) (.c (B false))), none⟩, {}⟩, ⟨⟨some 65, (.mov (.t 64)), none⟩, {}⟩, ⟨⟨some 66, (.load true 3 (.t 1)), some (65, true)⟩, {}⟩, ⟨⟨some 67, (.load true
  2 (.t 2)), some (65, true)⟩, {}⟩, ⟨⟨some 68, (.build [(I 0), (I 0)] [(0, (1, (.c (I 0)))), (1, (1, (.c (I 40))))]), some (65, true)⟩, {}⟩, ⟨⟨some 69, (.bslice false 2 [(I 0), (I 0)] 1 [(0, (.t 68))]), some (65, true)⟩, { t := G_Span }⟩, ⟨⟨some 70, (.call (.c (.fn 9 [])) [(.t 66), (.t 67), (.t 69),
  (.c (I 2000))]), some (65, true)⟩, {}⟩, ⟨⟨some 71, (.un .not (.t 70)), some (65, true)⟩, {}⟩, ⟨⟨some 72, (.pick (.t 65) (.t 71) (.c (B false))), none⟩, {}⟩, ⟨⟨some 0, (.mov (.t 72)), none⟩, {}⟩] none) law36_awake_C9)
def law36_awake_C7 : TC := (.seq (.rg [⟨⟨some 33, (.load true 3 (.t 1)), none⟩, {}⟩, ⟨⟨some 34, (.load true 4 (.t 6)), none⟩, {}⟩, ⟨⟨some 35, (.load true 2 (.t 2)), none⟩, {}⟩, ⟨⟨some 36, (.mov (.t 3)), none⟩, {}⟩, ⟨⟨some 37, (.call (.c (.fn 11 [])) [(.t 33), (.t 34), (.t 35), (.t 36), (.c (I 2000))]), none⟩, {}⟩, ⟨⟨some 32,
  (.mov (.t 37)), none⟩, {}⟩, ⟨⟨some 38, (.extr 0 (.t 32)), none⟩, {}⟩, ⟨⟨some 39, (.extr 1 (.t 32)), none⟩, {}⟩, ⟨⟨some 8, (.alloc [(I 0), (I 0), (I 0), (I 0)]), none⟩, {}⟩, ⟨⟨none, (.store 4 (.t 8) (.t 38)), none⟩, {}⟩, ⟨⟨some 9, (.mov (.t 39)), none⟩, {}⟩] none) law36_awake_C8)
def law36_awake_C6 : TC := (.seq (.rg [⟨⟨some 25, (.load true 3 (.t 1)), none⟩, {}⟩, ⟨⟨some 26, (.build [(I 0), (I 0), (I 0), (I 0)] []), none⟩, {}⟩, ⟨⟨some 27, (.load true 2 (.t 2)), none⟩, {}⟩, ⟨⟨some 28, (.mov (.t 3)), none⟩, {}⟩, ⟨⟨some 29, (.call (.c (.fn 10 [])) [(.t 25), (.t 26), (.t 27), (.t 28), (.c (I 1)), (.c (I
  2)), (.c (I 100)), (.c (I 1900))]), none⟩, {}⟩, ⟨⟨some 24, (.mov (.t 29)), none⟩, {}⟩, ⟨⟨some 30, (.extr 0 (.t 24)), none⟩, {}⟩, ⟨⟨some 31, (.extr 1 (.t 24)), none⟩, {}⟩, ⟨⟨some 6, (.alloc [(I 0), (I 0), (I 0), (I 0)]), none⟩, {}⟩, ⟨⟨none, (.store 4 (.t 6) (.t 30)), none⟩, {}⟩, ⟨⟨some 7, (.mov (.t
  31)), none⟩, {}⟩] none) law36_awake_C7)
def law36_awake_C5 : TC := (.seq (.rg [⟨⟨some 17, (.load true 3 (.t 1)), none⟩, {}⟩, ⟨⟨some 18, (.build [(I 0), (I 0), (I 0), (I 0)] []), none⟩, {}⟩, ⟨⟨some 19, (.load true 2 (.t 2)), none⟩, {}⟩, ⟨⟨some 20, (.mov (.t 3)), none⟩, {}⟩, ⟨⟨some 21, (.call (.c (.fn 10 [])) [(.t 17), (.t 18), (.t 19), (.t 20), (.c (I 1)), (.c (I
  2)), (.c (I 100)), (.c (I 1800))]), none⟩, {}⟩, ⟨⟨some 16, (.mov (.t 21)), none⟩, {}⟩, ⟨⟨some 22, (.extr 0 (.t 16)), none⟩, {}⟩, ⟨⟨some 23, (.extr 1 (.t 16)), none⟩, {}⟩, ⟨⟨some 4, (.alloc [(I 0), (I 0), (I 0), (I 0)]), none⟩, {}⟩, ⟨⟨none, (.store 4 (.t 4) (.t 22)), none⟩, {}⟩, ⟨⟨some 5, (.mov (.t
  23)), none⟩, {}⟩] none) law36_awake_C6)
def law36_awake_C4 : TC := (.seq (.rg [⟨⟨some 14, (.build [(I 0), (I 0)] [(0, (1, (.c (I 0)))), (1, (1, (.c (I 25))))]), none⟩, {}⟩, ⟨⟨some 15, (.bslice false 2 [(I 0), (I 0)] 1 [(0, (.t 14))]), none⟩, { t := G_Span }⟩, ⟨⟨some 3, (.mov (.t 15)), none⟩, {}⟩] none) law36_awake_C5)
def law36_awake_C3 : TC := (.seq (.rg [⟨⟨some 12, (.bslice false 1 [(I 0)] 1 [(0, (.c (I 20)))]), none⟩, { t := (.int .i64) }⟩, ⟨⟨some 13, (.build [(I 0), (.lst true [])] [(1, (1, (.t 12)))]), none⟩, {}⟩, ⟨⟨some 2, (.alloc [(I 0), (.lst true [])]), none⟩, {}⟩, ⟨⟨none, (.store 2 (.t 2) (.t 13)), none⟩, {}⟩] none)
  law36_awake_C4)
def law36_awake_C2 : TC := (.seq (.rg [⟨⟨some 10, (.bslice false 1 [(I 0)] 1 [(0, (.c (I 0)))]), none⟩, { t := (.int .i64) }⟩, ⟨⟨some 11, (.build [(I 0), (I 0), (.lst true [])] [(0, (1, (.c (I 1800)))), (1, (1, (.c (I 30)))), (2, (1, (.t 10)))]), none⟩, {}⟩, ⟨⟨some 1, (.alloc [(I 0), (I 0), (.lst true [])]), none⟩, {}⟩,
  ⟨⟨none, (.store 3 (.t 1) (.t 11)), none⟩, {}⟩] none) law36_awake_C3)
def law36_awake_C1 : TC := (.seq (.rg [⟨⟨some 0, (.mov (.c (B false))), none⟩, {}⟩] none) law36_awake_C2)
def law36_awake_E (N : Nat) : List (Nat × Ent) := [(10, pureE [G_EntryRule, G_Entering, G_Fumes, (.list G_Span), (.int .i64), (.int .i64), (.int .i64), (.int .i64)] [G_Entering, (.int .i64)] (fun x => reentry_Inspect N x.1 x.2.1 x.2.2.1 x.2.2.2.1 x.2.2.2.2.1 x.2.2.2.2.2.1 x.2.2.2.2.2.2.1 x.2.2.2.2.2.2.2)), (11, pureE [G_EntryRule, G_Entering, G_Fumes, (.list G_Span), (.int .i64)] [G_Entering, (.int .i64)] (fun x => reentry_Release N x.1 x.2.1 x.2.2.1 x.2.2.2.1 x.2.2.2.2)), (9, pureE [G_EntryRule, G_Fumes, (.list G_Span), (.int .i64)] [.bool] (fun x => reentry_Clear N x.1 x.2.1 x.2.2.1 x.2.2.2))]
def law36_awake (N : Nat) : Option Bool :=
  Option.bind (reentry_Inspect N (1800, (30, [0])) (0, (0, (0, 0))) (0, [20]) [(0, 25)] 1 2 100 1800) fun r1 =>
  Option.bind (reentry_Inspect N (1800, (30, [0])) (0, (0, (0, 0))) (0, [20]) [(0, 25)] 1 2 100 1900) fun r2 =>
  Option.bind (reentry_Release N (1800, (30, [0])) r2.1 (0, [20]) [(0, 25)] 2000) fun r3 =>
  bif (r1.2 == 8) then
    bif (r2.2 == 0) then
      bif (r3.2 == 0) then
        bif (r2.1.1 == 1) then
          bif (r3.1.1 == 2) then
            bif (r3.1.2.2.2 == 2) then
              Option.bind (reentry_Clear N (1800, (30, [0])) (0, [20]) [(0, 40)] 2000) fun r4 =>
              some (!r4)
            else
              some false
          else
            some false
        else
          some false
      else
        some false
    else
      some false
  else
    some false
theorem law36_awake_fn : FnOK Try.prog 5 73 (fun _ : Nat => false) law36_awake_C1.er [(.t 0)] := FnOK.mk' Try.func5 (by kernel_rfl) (by kernel_rfl) (by kernel_rfl) (by kernel_rfl) (by kernel_rfl)
theorem law36_awake_envok (N : Nat) : EnvOK Try.prog (law36_awake_E N) := .cons (pureE_ok (reentry_Inspect_pure N)) (.cons (pureE_ok (reentry_Release_pure N)) (.cons (pureE_ok (reentry_Clear_pure N)) (.nil)))
theorem law36_awake_pure (N : Nat) : PureOK Try.prog 5 [] [.bool] (fun x => law36_awake N) := pureOK (N := N) mixed law36_awake_fn (law36_awake_envok N) rfl (fun x => by kernel_rfl)
/-! made_Roll -/
def made_Roll_C4 : TC := .ret
def made_Roll_C3 : TC := (.pre [.keep [2], .cmp] made_Roll_C4)
def made_Roll_C2 : TC := (.seq (.rg [⟨⟨some 3, (.mov (.t 0)), none⟩, {}⟩, ⟨⟨some 4, (.build [(.lst true []), (I 0)] [(0, (1, (.t 3)))]), none⟩, {}⟩, ⟨⟨some 5, (.box (.t 4)), none⟩, {}⟩, ⟨⟨some 2, (.mov (.t 5)), none⟩, {}⟩] none) made_Roll_C3)
def made_Roll_C1 : TC := (.seq (.rg [⟨⟨some 2, (.mov (.c (.v (.pointer none)))), none⟩, {}⟩] none) made_Roll_C2)
def made_Roll_E (N : Nat) : List (Nat × Ent) := []
def made_Roll (N : Nat) (a0 : List Int) : Option (T_Dice × Unit) :=
  some ((a0, 0), ())
theorem made_Roll_fn : FnOK Try.prog 6 6 (fun _ : Nat => false) made_Roll_C1.er [(.t 2)] := FnOK.mk' Try.func6 (by kernel_rfl) (by kernel_rfl) (by kernel_rfl) (by kernel_rfl) (by kernel_rfl)
theorem made_Roll_envok (N : Nat) : EnvOK Try.prog (made_Roll_E N) := .nil
theorem made_Roll_sf (N : Nat) : SFOK Try.prog 6 [(false, (.list (.int .i64)))] [.n G_Dice] (fun x => made_Roll N x) := sfOK (N := N) (p := 0) mixed made_Roll_fn (made_Roll_envok N) rfl rfl (fun x => by kernel_rfl)
/-! made_Mod -/
def made_Mod_C5 : TC := .ret
def made_Mod_C3 : TC := (.cond (.t 6) (.seq (.rg [⟨⟨some 4, (.mov (.c (I 0))), none⟩, {}⟩] none) made_Mod_C5) .skip)
def made_Mod_C7 : TC := (.cond (.t 11) (.rg [⟨⟨some 12, (.mov (.t 0)), none⟩, {}⟩, ⟨⟨some 13, (.mov (.t 1)), none⟩, {}⟩, ⟨⟨some 14, (.bin .add (.t 12) (.t 13)), none⟩, {}⟩, ⟨⟨some 0, (.mov (.t 14)), none⟩, {}⟩] none) .skip)
def made_Mod_C9 : TC := .ret
def made_Mod_C8 : TC := (.seq (.rg [⟨⟨some 15, (.mov (.t 0)), none⟩, {}⟩, ⟨⟨some 4, (.mov (.t 15)), none⟩, {}⟩] none) made_Mod_C9)
def made_Mod_C6 : TC := (.seq (.seq (.rg [⟨⟨some 10, (.mov (.t 0)), none⟩, {}⟩, ⟨⟨some 11, (.bin .lss (.t 10) (.c (I 0))), none⟩, {}⟩] none) made_Mod_C7) made_Mod_C8)
def made_Mod_C4 : TC := (.seq (.rg [⟨⟨some 7, (.mov (.t 0)), none⟩, {}⟩, ⟨⟨some 8, (.mov (.t 1)), none⟩, {}⟩, ⟨⟨some 9, (.bin .rem (.t 7) (.t 8)), none⟩, {}⟩, ⟨⟨some 0, (.mov (.t 9)), none⟩, {}⟩] none) made_Mod_C6)
def made_Mod_C2 : TC := (.seq (.seq (.rg [⟨⟨some 5, (.mov (.t 1)), none⟩, {}⟩, ⟨⟨some 6, (.bin .lss (.t 5) (.c (I 1))), none⟩, {}⟩] none) made_Mod_C3) made_Mod_C4)
def made_Mod_C1 : TC := (.seq (.rg [⟨⟨some 4, (.mov (.c (I 0))), none⟩, {}⟩] none) made_Mod_C2)
def made_Mod_E (N : Nat) : List (Nat × Ent) := []
def made_Mod (N : Nat) (a0 : Int) (a1 : Int) : Option Int :=
  bif (decide (a1 < 1)) then
    some 0
  else
    bif a1 == 0 then none else
    bif (decide ((a0.tmod a1) < 0)) then
      some (W ((a0.tmod a1) + a1))
    else
      some (a0.tmod a1)
theorem made_Mod_fn : FnOK Try.prog 14 16 (fun _ : Nat => false) made_Mod_C1.er [(.t 4)] := FnOK.mk' Try.func14 (by kernel_rfl) (by kernel_rfl) (by kernel_rfl) (by kernel_rfl) (by kernel_rfl)
theorem made_Mod_envok (N : Nat) : EnvOK Try.prog (made_Mod_E N) := .nil
theorem made_Mod_pure (N : Nat) : PureOK Try.prog 14 [(.int .i64), (.int .i64)] [(.int .i64)] (fun x => made_Mod N x.1 x.2) := pureOK (N := N) mixed made_Mod_fn (made_Mod_envok N) rfl (fun x => by kernel_rfl)
/-! made_Dice_Next -/
def made_Dice_Next_C7 : TC := .ret
def made_Dice_Next_C5 : TC := (.pre [.frzo 0] made_Dice_Next_C7)
def made_Dice_Next_C3 : TC := (.cond (.t 14) (.seq (.rg [⟨⟨some 4, (.mov (.c (I 0))), none⟩, {}⟩] none) made_Dice_Next_C5) .skip)
def made_Dice_Next_C9 : TC := .ret
def made_Dice_Next_C8 : TC := (.pre [.frzo 0] made_Dice_Next_C9)
def made_Dice_Next_C6 : TC := (.seq (.rg [⟨⟨some 22, (.mov (.t 0)), none⟩, {}⟩, ⟨⟨some 23, (.nilck (.t 22)), none⟩, {}⟩, ⟨⟨some 24, (.fadr 0 (.t 23)), none⟩, {}⟩, ⟨⟨some 25, (.load false 1 (.t 24)), none⟩, {}⟩, ⟨⟨some 26, (.mov (.t 0)), none⟩, {}⟩, ⟨⟨some 27, (.nilck (.t 26)), none⟩, {}⟩, ⟨⟨some 28, (.fadr 1 (.t 27)), none⟩, {}⟩,
  ⟨⟨some 29, (.load false 1 (.t 28)), none⟩, {}⟩, ⟨⟨some 30, (.bin .sub (.t 29) (.c (I 1))), none⟩, {}⟩, ⟨⟨some 31, (.iadrS 1 (.t 25) (.t 30)), none⟩, {}⟩, ⟨⟨some 32, (.load false 1 (.t 31)), none⟩, {}⟩, ⟨⟨some 33, (.mov (.t 1)), none⟩, {}⟩, ⟨⟨some 34, (.call (.c (.fn 14 [])) [(.t 32), (.t 33)]),
  none⟩, {}⟩, ⟨⟨some 4, (.mov (.t 34)), none⟩, {}⟩] (some [])) made_Dice_Next_C8)
def made_Dice_Next_C4 : TC := (.seq (.rg [⟨⟨some 15, (.mov (.t 0)), none⟩, {}⟩, ⟨⟨some 16, (.nilck (.t 15)), none⟩, {}⟩, ⟨⟨some 17, (.fadr 1 (.t 16)), none⟩, {}⟩, ⟨⟨some 18, (.load false 1 (.t 17)), none⟩, {}⟩, ⟨⟨some 19, (.bin .add (.t 18) (.c (I 1))), none⟩, {}⟩, ⟨⟨some 20, (.nilck (.t 15)), none⟩, {}⟩, ⟨⟨some 21, (.fadr 1 (.t
  20)), none⟩, {}⟩, ⟨⟨none, (.store 1 (.t 21) (.t 19)), none⟩, {}⟩] none) made_Dice_Next_C6)
def made_Dice_Next_C2 : TC := (.seq (.seq (.rg [⟨⟨some 5, (.mov (.t 0)), none⟩, {}⟩, ⟨⟨some 6, (.nilck (.t 5)), none⟩, {}⟩, ⟨⟨some 7, (.fadr 1 (.t 6)), none⟩, {}⟩, ⟨⟨some 8, (.load false 1 (.t 7)), none⟩, {}⟩, ⟨⟨some 9, (.mov (.t 0)), none⟩, {}⟩, ⟨⟨some 10, (.nilck (.t 9)), none⟩, {}⟩, ⟨⟨some 11, (.fadr 0 (.t 10)), none⟩, {}⟩,
  ⟨⟨some 12, (.load false 1 (.t 11)), none⟩, {}⟩, ⟨⟨some 13, (.len (.t 12)), none⟩, {}⟩, ⟨⟨some 14, (.bin .geq (.t 8) (.t 13)), none⟩, {}⟩] (some [])) made_Dice_Next_C3) made_Dice_Next_C4)
def made_Dice_Next_C1 : TC := (.seq (.rg [⟨⟨some 4, (.mov (.c (I 0))), none⟩, {}⟩] none) made_Dice_Next_C2)
def made_Dice_Next_E (N : Nat) : List (Nat × Ent) := [(14, pureE [(.int .i64), (.int .i64)] [(.int .i64)] (fun x => made_Mod N x.1 x.2))]
def made_Dice_Next (N : Nat) (a0 : T_Dice) (a1 : Int) : Option (Int × T_Dice) :=
  bif (decide (a0.2 ≥ (a0.1.length : Int))) then
    some (0, a0)
  else
    bif inB (W ((W (a0.2 + 1)) - 1)) a0.1.length then
    Option.bind (made_Mod N (a0.1.getD (W ((W (a0.2 + 1)) - 1)).toNat 0) a1) fun r2 =>
    some (r2, (a0.1, W (a0.2 + 1)))
    else none
theorem made_Dice_Next_fn : FnOK Try.prog 8 35 (fun _ : Nat => false) made_Dice_Next_C1.er [(.t 4)] := FnOK.mk' Try.func8 (by kernel_rfl) (by kernel_rfl) (by kernel_rfl) (by kernel_rfl) (by kernel_rfl)
theorem made_Dice_Next_envok (N : Nat) : EnvOK Try.prog (made_Dice_Next_E N) := .cons (pureE_ok (made_Mod_pure N)) (.nil)
theorem made_Dice_Next_sf (N : Nat) : SFOK Try.prog 8 [(true, G_Dice), (false, (.int .i64))] [.v (.int .i64)] (fun x => made_Dice_Next N x.1 x.2) := sfOK (N := N) (p := 1) mixed made_Dice_Next_fn (made_Dice_Next_envok N) rfl rfl (fun x => by kernel_rfl)
/-! made_Dice_Of -/
def made_Dice_Of_C4 : TC := .ret
def made_Dice_Of_C3 : TC := (.pre [.frzo 0] made_Dice_Of_C4)
def made_Dice_Of_C2 : TC := (.seq (.rg [⟨⟨some 5, (.mov (.t 1)), none⟩, {}⟩, ⟨⟨some 6, (.mov (.t 0)), none⟩, {}⟩, ⟨⟨some 7, (.mov (.t 1)), none⟩, {}⟩, ⟨⟨some 8, (.len (.t 7)), none⟩, {}⟩, ⟨⟨some 9, (.call (.c (.fn 8 [])) [(.t 6), (.t 8)]), none⟩, {}⟩, ⟨⟨some 10, (.iadrS 1 (.t 5) (.t 9)), none⟩, {}⟩, ⟨⟨some 11, (.load false 1
  (.t 10)), none⟩, {}⟩, ⟨⟨some 4, (.mov (.t 11)), none⟩, {}⟩] none) made_Dice_Of_C3)
def made_Dice_Of_C1 : TC := (.seq (.rg [⟨⟨some 4, (.mov (.c (I 0))), none⟩, {}⟩] none) made_Dice_Of_C2)
def made_Dice_Of_E (N : Nat) : List (Nat × Ent) := [(8, sfE [(true, G_Dice), (false, (.int .i64))] [.v (.int .i64)] (fun x => made_Dice_Next N x.1 x.2))]
def made_Dice_Of (N : Nat) (a0 : T_Dice) (a1 : List Int) : Option (Int × T_Dice) :=
  Option.bind (made_Dice_Next N a0 (a1.length : Int)) fun r1 =>
  bif inB r1.1 a1.length then
  some (a1.getD r1.1.toNat 0, r1.2)
  else none
theorem made_Dice_Of_fn : FnOK Try.prog 12 12 (fun _ : Nat => false) made_Dice_Of_C1.er [(.t 4)] := FnOK.mk' Try.func12 (by kernel_rfl) (by kernel_rfl) (by kernel_rfl) (by kernel_rfl) (by kernel_rfl)
theorem made_Dice_Of_envok (N : Nat) : EnvOK Try.prog (made_Dice_Of_E N) := .cons (sfE_ok (made_Dice_Next_sf N)) (.nil)
theorem made_Dice_Of_sf (N : Nat) : SFOK Try.prog 12 [(true, G_Dice), (false, (.list (.int .i64)))] [.v (.int .i64)] (fun x => made_Dice_Of N x.1 x.2) := sfOK (N := N) (p := 1) mixed made_Dice_Of_fn (made_Dice_Of_envok N) rfl rfl (fun x => by kernel_rfl)
/-! made_Dice_One -/
def made_Dice_One_C4 : TC := .ret
def made_Dice_One_C3 : TC := (.pre [.frzo 0] made_Dice_One_C4)
def made_Dice_One_C2 : TC := (.seq (.rg [⟨⟨some 5, (.mov (.t 0)), none⟩, {}⟩, ⟨⟨some 6, (.mov (.t 1)), none⟩, {}⟩, ⟨⟨some 7, (.call (.c (.fn 8 [])) [(.t 5), (.t 6)]), none⟩, {}⟩, ⟨⟨some 8, (.mov (.t 1)), none⟩, {}⟩, ⟨⟨some 9, (.bin .sub (.t 8) (.c (I 1))), none⟩, {}⟩, ⟨⟨some 10, (.bin .eql (.t 7) (.t 9)), none⟩, {}⟩, ⟨⟨some 4,
  (.mov (.t 10)), none⟩, {}⟩] none) made_Dice_One_C3)
def made_Dice_One_C1 : TC := (.seq (.rg [⟨⟨some 4, (.mov (.c (B false))), none⟩, {}⟩] none) made_Dice_One_C2)
def made_Dice_One_E (N : Nat) : List (Nat × Ent) := [(8, sfE [(true, G_Dice), (false, (.int .i64))] [.v (.int .i64)] (fun x => made_Dice_Next N x.1 x.2))]
def made_Dice_One (N : Nat) (a0 : T_Dice) (a1 : Int) : Option (Bool × T_Dice) :=
  Option.bind (made_Dice_Next N a0 a1) fun r1 =>
  some ((r1.1 == (W (a1 - 1))), r1.2)
theorem made_Dice_One_fn : FnOK Try.prog 13 11 (fun _ : Nat => false) made_Dice_One_C1.er [(.t 4)] := FnOK.mk' Try.func13 (by kernel_rfl) (by kernel_rfl) (by kernel_rfl) (by kernel_rfl) (by kernel_rfl)
theorem made_Dice_One_envok (N : Nat) : EnvOK Try.prog (made_Dice_One_E N) := .cons (sfE_ok (made_Dice_Next_sf N)) (.nil)
theorem made_Dice_One_sf (N : Nat) : SFOK Try.prog 13 [(true, G_Dice), (false, (.int .i64))] [.v .bool] (fun x => made_Dice_One N x.1 x.2) := sfOK (N := N) (p := 1) mixed made_Dice_One_fn (made_Dice_One_envok N) rfl rfl (fun x => by kernel_rfl)
/-! law36_scene -/
def law36_scene_N1 : List NS := [.own 7 G_Span, .keep [0, 2, 3, 5, 6, 7, 35, 36], .cmp]
def law36_scene_C11 : TC := (.rg [⟨⟨some 48, (.bin .add (.t 36) (.c (I 1))), none⟩, {}⟩, ⟨⟨some 36, (.mov (.t 48)), none⟩, {}⟩] none)
def law36_scene_C8 : TC := (.seq (.block 1 (.rg [⟨⟨some 38, (.mov (.t 7)), none⟩, {}⟩, ⟨⟨some 39, (.mov (.t 0)), none⟩, {}⟩, ⟨⟨some 40, (.bslice false 1 [(I 0)] 4 [(0, (.c (I 0))), (1, (.c (I 10))), (2, (.c (I (-5)))), (3, (.c (I 40)))]), none⟩, { t := (.int .i64) }⟩, ⟨⟨some 41, (.call (.c (.fn 12 [])) [(.t 39), (.t 40)]),
  none⟩, {}⟩, ⟨⟨some 42, (.mov (.t 0)), none⟩, {}⟩, ⟨⟨some 43, (.bslice false 1 [(I 0)] 4 [(0, (.c (I 30))), (1, (.c (I 20))), (2, (.c (I 31))), (3, (.c (I 20)))]), none⟩, { t := (.int .i64) }⟩, ⟨⟨some 44, (.call (.c (.fn 12 [])) [(.t 42), (.t 43)]), none⟩, {}⟩, ⟨⟨some 45, (.build [(I 0), (I 0)] [(0,
  (1, (.t 41))), (1, (1, (.t 44)))]), none⟩, {}⟩, ⟨⟨some 46, (.bslice false 2 [(I 0), (I 0)] 1 [(0, (.t 45))]), none⟩, { t := G_Span }⟩, ⟨⟨some 47, (.app 2 16 (.t 38) (.t 46)), none⟩, {}⟩, ⟨⟨some 7, (.mov (.t 47)), none⟩, {}⟩] none)) law36_scene_C11)
def law36_scene_C4 : TC := (.seq (.cond (.t 37) .skip (.exit 0)) law36_scene_C8)
def law36_scene_C1 : TC := (.seq (.rg [⟨⟨some 37, (.bin .lss (.t 36) (.t 35)), none⟩, {}⟩] none) law36_scene_C4)
def law36_scene_C5 : TC := (.cond (.t 50) (.rg [⟨⟨some 51, (.mov (.t 7)), none⟩, {}⟩, ⟨⟨some 52, (.build [(I 0), (I 0)] [(0, (1, (.c (I (-1125899906842624))))), (1, (1, (.c (I 1125899906842624))))]), none⟩, {}⟩, ⟨⟨some 53, (.iadrS 2 (.t 51) (.c (I 0))), none⟩, {}⟩, ⟨⟨none, (.store 2 (.t 53) (.t 52)), none⟩, {}⟩] none) .skip)
def law36_scene_C12 : TC := .ret
def law36_scene_C9 : TC := (.pre [.frzb 2, .frzb 3, .frz 4, .frzo 0] law36_scene_C12)
def law36_scene_C6 : TC := (.seq (.rg [⟨⟨some 54, (.load true 3 (.t 5)), none⟩, {}⟩, ⟨⟨some 55, (.load true 2 (.t 6)), none⟩, {}⟩, ⟨⟨some 56, (.mov (.t 7)), none⟩, {}⟩, ⟨⟨none, (.store 3 (.t 2) (.t 54)), none⟩, {}⟩, ⟨⟨none, (.store 2 (.t 3) (.t 55)), none⟩, {}⟩, ⟨⟨some 4, (.mov (.t 56)), none⟩, {}⟩] (some [(1, 3)]))
  law36_scene_C9)
def law36_scene_C2 : TC := (.seq (.seq (.rg [⟨⟨some 49, (.mov (.t 0)), none⟩, {}⟩, ⟨⟨some 50, (.call (.c (.fn 13 [])) [(.t 49), (.c (I 8))]), none⟩, {}⟩] none) law36_scene_C5) law36_scene_C6)
def law36_scene_C15 : TC := (.block 0 (.loop law36_scene_N1 law36_scene_C1))
def law36_scene_C14 : TC := (.seq (.seq (.rg [⟨⟨some 33, (.fadr 2 (.t 5)), none⟩, {}⟩, ⟨⟨some 34, (.load false 1 (.t 33)), none⟩, {}⟩, ⟨⟨some 35, (.len (.t 34)), none⟩, {}⟩, ⟨⟨some 36, (.mov (.c (I 0))), none⟩, {}⟩] none) law36_scene_C15) law36_scene_C2)
def law36_scene_C13 : TC := (.seq (.rg [⟨⟨some 7, (.mov (.c (.lst true []))), none⟩, {}⟩] none) law36_scene_C14)
def law36_scene_C10 : TC := (.seq (.rg [⟨⟨some 17, (.mov (.t 0)), none⟩, {}⟩, ⟨⟨some 18, (.bslice false 1 [(I 0)] 3 [(0, (.c (I 0))), (1, (.c (I 50))), (2, (.c (I 2000)))]), none⟩, { t := (.int .i64) }⟩, ⟨⟨some 19, (.call (.c (.fn 12 [])) [(.t 17), (.t 18)]), none⟩, {}⟩, ⟨⟨some 20, (.mov (.t 0)), none⟩, {}⟩, ⟨⟨some 21, (.bslice
  false 1 [(I 0)] 3 [(0, (.c (I 10))), (1, (.c (I 30))), (2, (.c (I 31)))]), none⟩, { t := (.int .i64) }⟩, ⟨⟨some 22, (.call (.c (.fn 12 [])) [(.t 20), (.t 21)]), none⟩, {}⟩, ⟨⟨some 23, (.mov (.t 0)), none⟩, {}⟩, ⟨⟨some 24, (.bslice false 1 [(I 0)] 3 [(0, (.c (I 30))), (1, (.c (I 0))), (2, (.c (I
  90)))]), none⟩, { t := (.int .i64) }⟩, ⟨⟨some 25, (.call (.c (.fn 12 [])) [(.t 23), (.t 24)]), none⟩, {}⟩, ⟨⟨some 26, (.bslice false 1 [(I 0)] 3 [(0, (.t 22)), (1, (.c (I 500))), (2, (.t 25))]), none⟩, { t := (.int .i64) }⟩, ⟨⟨some 27, (.mov (.t 0)), none⟩, {}⟩, ⟨⟨some 28, (.call (.c (.fn 8 []))
  [(.t 27), (.c (I 6))]), none⟩, {}⟩, ⟨⟨some 29, (.bin .quo (.t 28) (.c (I 5))), none⟩, {}⟩, ⟨⟨some 30, (.bin .sub (.c (I 3)) (.t 29)), none⟩, {}⟩, ⟨⟨some 31, (.slc 1 (.t 26) none (some (.t 30))), none⟩, {}⟩, ⟨⟨some 32, (.build [(I 0), (.lst true [])] [(0, (1, (.t 19))), (1, (1, (.t 31)))]), none⟩,
  {}⟩, ⟨⟨some 6, (.alloc [(I 0), (.lst true [])]), none⟩, {}⟩, ⟨⟨none, (.store 2 (.t 6) (.t 32)), none⟩, {}⟩] none) law36_scene_C13)
def law36_scene_C7 : TC := (.seq (.rg [⟨⟨some 8, (.mov (.t 0)), none⟩, {}⟩, ⟨⟨some 9, (.bslice false 1 [(I 0)] 3 [(0, (.c (I 100))), (1, (.c (I 0))), (2, (.c (I 1800)))]), none⟩, { t := (.int .i64) }⟩, ⟨⟨some 10, (.call (.c (.fn 12 [])) [(.t 8), (.t 9)]), none⟩, {}⟩, ⟨⟨some 11, (.bslice false 1 [(I 0)] 2 [(0, (.c (I 0))), (1,
  (.c (I 2)))]), none⟩, { t := (.int .i64) }⟩, ⟨⟨some 12, (.mov (.t 0)), none⟩, {}⟩, ⟨⟨some 13, (.call (.c (.fn 8 [])) [(.t 12), (.c (I 2))]), none⟩, {}⟩, ⟨⟨some 14, (.bin .add (.c (I 1)) (.t 13)), none⟩, {}⟩, ⟨⟨some 15, (.slc 1 (.t 11) none (some (.t 14))), none⟩, {}⟩, ⟨⟨some 16, (.build [(I 0), (I
  0), (.lst true [])] [(0, (1, (.t 10))), (1, (1, (.c (I 30)))), (2, (1, (.t 15)))]), none⟩, {}⟩, ⟨⟨some 5, (.alloc [(I 0), (I 0), (.lst true [])]), none⟩, {}⟩, ⟨⟨none, (.store 3 (.t 5) (.t 16)), none⟩, {}⟩] none) law36_scene_C10)
def law36_scene_C3 : TC := (.seq (.rg [⟨⟨some 2, (.alloc [(I 0), (I 0), (.lst true [])]), none⟩, {}⟩, ⟨⟨some 3, (.alloc [(I 0), (.lst true [])]), none⟩, {}⟩, ⟨⟨some 4, (.mov (.c (.lst true []))), none⟩, {}⟩] none) law36_scene_C7)
def law36_scene_E (N : Nat) : List (Nat × Ent) := [(12, sfE [(true, G_Dice), (false, (.list (.int .i64)))] [.v (.int .i64)] (fun x => made_Dice_Of N x.1 x.2)), (8, sfE [(true, G_Dice), (false, (.int .i64))] [.v (.int .i64)] (fun x => made_Dice_Next N x.1 x.2)), (13, sfE [(true, G_Dice), (false, (.int .i64))] [.v .bool] (fun x => made_Dice_One N x.1 x.2))]
def law36_scene_L1 (N : Nat) (n : Nat) (x10 : Int) (x11 : Int) (x12 : List Int) (x13 : Int) (x14 : Int) (x15 : Int) (x16 : Int) (x17 : Int) (x18 : Int) (x19 : List Int) (x20 : Int) (x21 : List Int) (x22 : List T_Span) : Option ((T_EntryRule × T_Fumes × List T_Span) × T_Dice) := loopN (normI 1 law36_scene_N1) (run (law36_scene_E N) N 1 law36_scene_C1) n ⟨[(0, .ptr 0 0 0), (2, .ptr 1 0 0), (3, .ptr 2 0 0), (5, .ptr 3 0 0), (6, .ptr 4 0 0), (7, .whole 5), (35, .int .i64 x10), (36, .int .i64 x11)], [some (.box 0 [.lst false (.int .i64) x12, .int .i64 x13]), some (.box 0 [.int .i64 x14, .int .i64 x15, .nil]), some (.box 0 [.int .i64 x16, .nil]), some (.box 0 [.int .i64 x17, .int .i64 x18, .lst false (.int .i64) x19]), some (.box 0 [.int .i64 x20, .lst false (.int .i64) x21]), some (.arr G_Span x22)]⟩ (blkK 0 (seqK (run (law36_scene_E N) N 1 law36_scene_C2) (finS [(.cell 2 true 3), (.cell 3 true 2), (.t 4)] [(true, G_Dice)] [.v G_EntryRule, .v G_Fumes, .v (.list G_Span)] 1)))
theorem law36_scene_L1_zero (N : Nat) (x10 : Int) (x11 : Int) (x12 : List Int) (x13 : Int) (x14 : Int) (x15 : Int) (x16 : Int) (x17 : Int) (x18 : Int) (x19 : List Int) (x20 : Int) (x21 : List Int) (x22 : List T_Span) : law36_scene_L1 N 0 x10 x11 x12 x13 x14 x15 x16 x17 x18 x19 x20 x21 x22 = none := rfl
theorem law36_scene_L1_succ (N : Nat) (n1 : Nat) (x10 : Int) (x11 : Int) (x12 : List Int) (x13 : Int) (x14 : Int) (x15 : Int) (x16 : Int) (x17 : Int) (x18 : Int) (x19 : List Int) (x20 : Int) (x21 : List Int) (x22 : List T_Span) : law36_scene_L1 N (n1 + 1) x10 x11 x12 x13 x14 x15 x16 x17 x18 x19 x20 x21 x22 =
  bif (decide (x11 < x10)) then
    Option.bind (made_Dice_Of N (x12, x13) [0, 10, (-5), 40]) fun r23 =>
    Option.bind (made_Dice_Of N r23.2 [30, 20, 31, 20]) fun r24 =>
    bif fitsB (x22.length + 1) 16 then
    law36_scene_L1 N n1 x10 (W (x11 + 1)) r24.2.1 r24.2.2 x14 x15 x16 x17 x18 x19 x20 x21 (x22 ++ [(r23.1, r24.1)])
    else none
  else
    Option.bind (made_Dice_One N (x12, x13) 8) fun r39 =>
    bif r39.1 then
      bif inB 0 x22.length then
      some (((x17, (x18, x19)), (x20, x21), (x22.set ((0 : Int).toNat) ((-1125899906842624), 1125899906842624))), r39.2)
      else none
    else
      some (((x17, (x18, x19)), (x20, x21), x22), r39.2) := by kernel_rfl
def law36_scene (N : Nat) (a0 : T_Dice) : Option ((T_EntryRule × T_Fumes × List T_Span) × T_Dice) :=
  Option.bind (made_Dice_Of N a0 [100, 0, 1800]) fun r1 =>
  Option.bind (made_Dice_Next N r1.2 2) fun r2 =>
  bif slB 0 (W (1 + r2.1)) [0, 2].length then
  let v3 := [0, 2].take (W (1 + r2.1)).toNat
  Option.bind (made_Dice_Of N r2.2 [0, 50, 2000]) fun r4 =>
  Option.bind (made_Dice_Of N r4.2 [10, 30, 31]) fun r5 =>
  Option.bind (made_Dice_Of N r5.2 [30, 0, 90]) fun r6 =>
  Option.bind (made_Dice_Next N r6.2 6) fun r7 =>
  let v8 := W (3 - (W (r7.1.tdiv 5)))
  bif slB 0 v8 [r5.1, 500, r6.1].length then
  law36_scene_L1 N N (v3.length : Int) 0 r7.2.1 r7.2.2 0 0 0 r1.1 30 v3 r4.1 ([r5.1, 500, r6.1].take v8.toNat) []
  else none
  else none
theorem law36_scene_fn : FnOK Try.prog 7 57 (fun _ : Nat => false) law36_scene_C3.er [(.cell 2 true 3), (.cell 3 true 2), (.t 4)] := FnOK.mk' Try.func7 (by kernel_rfl) (by kernel_rfl) (by kernel_rfl) (by kernel_rfl) (by kernel_rfl)
theorem law36_scene_envok (N : Nat) : EnvOK Try.prog (law36_scene_E N) := .cons (sfE_ok (made_Dice_Of_sf N)) (.cons (sfE_ok (made_Dice_Next_sf N)) (.cons (sfE_ok (made_Dice_One_sf N)) (.nil)))
theorem law36_scene_sf (N : Nat) : SFOK Try.prog 7 [(true, G_Dice)] [.v G_EntryRule, .v G_Fumes, .v (.list G_Span)] (fun x => law36_scene N x) := sfOK (N := N) (p := 1) mixed law36_scene_fn (law36_scene_envok N) rfl rfl (fun x => by kernel_rfl)
/-! law36_ReentryClear -/
def law36_ReentryClear_N1 : List NS := [.ownc 9 1 (.int .i64), .wk 6 (.list G_Span), .keep [3, 4, 5, 6, 7, 8, 9, 10], .cmp]
def law36_ReentryClear_N2 : List NS := [.own 11 G_Span, .wk 6 (.list G_Span), .keep [3, 4, 5, 6, 7, 8, 9, 11, 12], .cmp]
def law36_ReentryClear_C6 : TC := (.cond (.t 61) .skip (.exit 2))
def law36_ReentryClear_C13 : TC := (.rg [⟨⟨some 62, (.mov (.t 12)), none⟩, {}⟩, ⟨⟨some 63, (.bin .add (.t 62) (.c (I 1))), none⟩, {}⟩, ⟨⟨some 12, (.mov (.t 63)), none⟩, {}⟩] none)
def law36_ReentryClear_C7 : TC := (.seq (.block 3 (.rg [⟨⟨some 64, (.mov (.t 11)), none⟩, {}⟩, ⟨⟨some 65, (.mov (.t 6)), none⟩, {}⟩, ⟨⟨some 66, (.mov (.t 12)), none⟩, {}⟩, ⟨⟨some 67, (.iadrS 2 (.t 65) (.t 66)), none⟩, {}⟩, ⟨⟨some 68, (.fadr 0 (.t 67)), none⟩, {}⟩, ⟨⟨some 69, (.load false 1 (.t 68)), none⟩, {}⟩, ⟨⟨some 70, (.bin .sub
  (.t 69) (.c (I 50))), none⟩, {}⟩, ⟨⟨some 71, (.mov (.t 6)), none⟩, {}⟩, ⟨⟨some 72, (.mov (.t 12)), none⟩, {}⟩, ⟨⟨some 73, (.iadrS 2 (.t 71) (.t 72)), none⟩, {}⟩, ⟨⟨some 74, (.fadr 1 (.t 73)), none⟩, {}⟩, ⟨⟨some 75, (.load false 1 (.t 74)), none⟩, {}⟩, ⟨⟨some 76, (.mov (.t 3)), none⟩, {}⟩, ⟨⟨some
  77, (.call (.c (.fn 8 [])) [(.t 76), (.c (I 20))]), none⟩, {}⟩, ⟨⟨some 78, (.bin .sub (.t 75) (.t 77)), none⟩, {}⟩, ⟨⟨some 79, (.build [(I 0), (I 0)] [(0, (1, (.t 70))), (1, (1, (.t 78)))]), none⟩, {}⟩, ⟨⟨some 80, (.bslice false 2 [(I 0), (I 0)] 1 [(0, (.t 79))]), none⟩, { t := G_Span }⟩, ⟨⟨some
  81, (.app 2 16 (.t 64) (.t 80)), none⟩, {}⟩, ⟨⟨some 11, (.mov (.t 81)), none⟩, {}⟩] (some [(3, 13), (4, 13), (5, 13), (9, 13), (10, 13), (11, 13)]))) law36_ReentryClear_C13)
def law36_ReentryClear_C1 : TC := (.seq (.seq (.rg [⟨⟨some 58, (.mov (.t 12)), none⟩, {}⟩, ⟨⟨some 59, (.mov (.t 6)), none⟩, {}⟩, ⟨⟨some 60, (.len (.t 59)), none⟩, {}⟩, ⟨⟨some 61, (.bin .lss (.t 58) (.t 60)), none⟩, {}⟩] none) law36_ReentryClear_C6) law36_ReentryClear_C7)
def law36_ReentryClear_C23 : TC := .ret
def law36_ReentryClear_C19 : TC := (.seq (.rg [⟨⟨some 89, (.call (.c (.fn 5 [])) []), none⟩, {}⟩, ⟨⟨some 90, (.mov (.t 89)), none⟩, {}⟩, ⟨⟨some 91, (.mov (.t 8)), some (90, true)⟩, {}⟩, ⟨⟨some 92, (.un .not (.t 91)), some (90, true)⟩, {}⟩, ⟨⟨some 93, (.mov (.t 92)), some (90, true)⟩, {}⟩, ⟨⟨some 94, (.load true 3 (.t 4)), some (93,
  false)⟩, {}⟩, ⟨⟨some 95, (.load true 2 (.t 9)), some (93, false)⟩, {}⟩, ⟨⟨some 96, (.mov (.t 6)), some (93, false)⟩, {}⟩, ⟨⟨some 97, (.mov (.t 7)), some (93, false)⟩, {}⟩, ⟨⟨some 98, (.call (.c (.fn 9 [])) [(.t 94), (.t 95), (.t 96), (.t 97)]), some (93, false)⟩, {}⟩, ⟨⟨some 99, (.mov (.t 98)),
  some (93, false)⟩, {}⟩, ⟨⟨some 100, (.load true 3 (.t 4)), some (99, true)⟩, {}⟩, ⟨⟨some 101, (.load true 2 (.t 5)), some (99, true)⟩, {}⟩, ⟨⟨some 102, (.mov (.t 11)), some (99, true)⟩, {}⟩, ⟨⟨some 103, (.mov (.t 7)), some (99, true)⟩, {}⟩, ⟨⟨some 104, (.call (.c (.fn 9 [])) [(.t 100), (.t 101),
  (.t 102), (.t 103)]), some (99, true)⟩, {}⟩, ⟨⟨some 105, (.pick (.t 99) (.t 104) (.c (B false))), some (93, false)⟩, {}⟩, ⟨⟨some 106, (.mov (.t 105)), some (93, false)⟩, {}⟩, ⟨⟨some 107, (.load true 3 (.t 13)), some (106, true)⟩, {}⟩, ⟨⟨some 108, (.load true 2 (.t 5)), some (106, true)⟩, {}⟩,
  ⟨⟨some 109, (.mov (.t 6)), some (106, true)⟩, {}⟩, ⟨⟨some 110, (.mov (.t 7)), some (106, true)⟩, {}⟩, ⟨⟨some 111, (.bin .add (.t 110) (.c (I 5))), some (106, true)⟩, {}⟩, ⟨⟨some 112, (.call (.c (.fn 9 [])) [(.t 107), (.t 108), (.t 109), (.t 111)]), some (106, true)⟩, {}⟩, ⟨⟨some 113, (.pick (.t
  106) (.t 112) (.c (B false))), some (93, false)⟩, {}⟩, ⟨⟨some 114, (.pick (.t 93) (.c (B true)) (.t 113)), some (90, true)⟩, {}⟩, ⟨⟨some 115, (.pick (.t 90) (.t 114) (.c (B false))), none⟩, {}⟩, ⟨⟨some 116, (.mov (.t 115)), none⟩, {}⟩, ⟨⟨some 117, (.load true 3 (.t 4)), some (116, true)⟩, {}⟩,
  ⟨⟨some 118, (.load true 2 (.t 5)), some (116, true)⟩, {}⟩, ⟨⟨some 119, (.mov (.t 7)), some (116, true)⟩, {}⟩, ⟨⟨some 120, (.call (.c (.fn 9 [])) [(.t 117), (.t 118), (.c (.lst true [])), (.t 119)]), some (116, true)⟩, {}⟩, ⟨⟨some 121, (.un .not (.t 120)), some (116, true)⟩, {}⟩, ⟨⟨some 122, (.pick
  (.t 116) (.t 121) (.c (B false))), none⟩, {}⟩, ⟨⟨some 2, (.mov (.t 122)), none⟩, {}⟩] none) law36_ReentryClear_C23)
def law36_ReentryClear_C14 : TC := (.seq (.rg [⟨⟨some 83, (.fadr 1 (.t 13)), none⟩, {}⟩, ⟨⟨some 84, (.load false 1 (.t 83)), none⟩, {}⟩, ⟨⟨some 85, (.mov (.t 3)), none⟩, {}⟩, ⟨⟨some 86, (.call (.c (.fn 8 [])) [(.t 85), (.c (I 100))]), none⟩, {}⟩, ⟨⟨some 87, (.bin .add (.t 84) (.t 86)), none⟩, {}⟩, ⟨⟨some 88, (.fadr 1 (.t 13)), none⟩,
  {}⟩, ⟨⟨none, (.store 1 (.t 88) (.t 87)), none⟩, {}⟩] (some [(0, 3), (1, 3)])) law36_ReentryClear_C19)
def law36_ReentryClear_C8 : TC := (.seq (.rg [⟨⟨some 82, (.load true 3 (.t 4)), none⟩, {}⟩, ⟨⟨some 13, (.alloc [(I 0), (I 0), (.lst true [])]), none⟩, {}⟩, ⟨⟨none, (.store 3 (.t 13) (.t 82)), none⟩, {}⟩] none) law36_ReentryClear_C14)
def law36_ReentryClear_C2 : TC := (.pre [.frz 11] law36_ReentryClear_C8)
def law36_ReentryClear_C9 : TC := (.cond (.t 41) .skip (.exit 0))
def law36_ReentryClear_C15 : TC := (.rg [⟨⟨some 42, (.mov (.t 10)), none⟩, {}⟩, ⟨⟨some 43, (.bin .add (.t 42) (.c (I 1))), none⟩, {}⟩, ⟨⟨some 10, (.mov (.t 43)), none⟩, {}⟩] none)
def law36_ReentryClear_C10 : TC := (.seq (.block 1 (.rg [⟨⟨some 44, (.fadr 1 (.t 9)), none⟩, {}⟩, ⟨⟨some 45, (.load false 1 (.t 44)), none⟩, {}⟩, ⟨⟨some 46, (.fadr 1 (.t 5)), none⟩, {}⟩, ⟨⟨some 47, (.load false 1 (.t 46)), none⟩, {}⟩, ⟨⟨some 48, (.mov (.t 10)), none⟩, {}⟩, ⟨⟨some 49, (.iadrS 1 (.t 47) (.t 48)), none⟩, {}⟩, ⟨⟨some 50,
  (.load false 1 (.t 49)), none⟩, {}⟩, ⟨⟨some 51, (.mov (.t 3)), none⟩, {}⟩, ⟨⟨some 52, (.call (.c (.fn 8 [])) [(.t 51), (.c (I 20))]), none⟩, {}⟩, ⟨⟨some 53, (.bin .sub (.t 50) (.t 52)), none⟩, {}⟩, ⟨⟨some 54, (.mm true [(.c (I 0)), (.t 53)]), none⟩, {}⟩, ⟨⟨some 55, (.bslice false 1 [(I 0)] 1 [(0,
  (.t 54))]), none⟩, { t := (.int .i64) }⟩, ⟨⟨some 56, (.app 1 8 (.t 45) (.t 55)), none⟩, {}⟩, ⟨⟨some 57, (.fadr 1 (.t 9)), none⟩, {}⟩, ⟨⟨none, (.store 1 (.t 57) (.t 56)), none⟩, {}⟩] (some [(0, 8), (1, 8), (2, 8), (3, 8), (5, 8), (6, 8)]))) law36_ReentryClear_C15)
def law36_ReentryClear_C3 : TC := (.seq (.seq (.rg [⟨⟨some 37, (.mov (.t 10)), none⟩, {}⟩, ⟨⟨some 38, (.fadr 1 (.t 5)), none⟩, {}⟩, ⟨⟨some 39, (.load false 1 (.t 38)), none⟩, {}⟩, ⟨⟨some 40, (.len (.t 39)), none⟩, {}⟩, ⟨⟨some 41, (.bin .lss (.t 37) (.t 40)), none⟩, {}⟩] none) law36_ReentryClear_C9) law36_ReentryClear_C10)
def law36_ReentryClear_C20 : TC := (.block 2 (.loop law36_ReentryClear_N2 law36_ReentryClear_C1))
def law36_ReentryClear_C16 : TC := (.seq (.seq (.rg [⟨⟨some 12, (.mov (.c (I 0))), none⟩, {}⟩] none) law36_ReentryClear_C20) law36_ReentryClear_C2)
def law36_ReentryClear_C11 : TC := (.seq (.rg [⟨⟨some 11, (.mov (.c (.lst true []))), none⟩, {}⟩] none) law36_ReentryClear_C16)
def law36_ReentryClear_C4 : TC := (.pre [.frzb 9] law36_ReentryClear_C11)
def law36_ReentryClear_C21 : TC := .ret
def law36_ReentryClear_C17 : TC := (.cond (.t 16) (.seq (.rg [⟨⟨some 17, (.call (.c (.fn 5 [])) []), none⟩, {}⟩, ⟨⟨some 2, (.mov (.t 17)), none⟩, {}⟩] none) law36_ReentryClear_C21) .skip)
def law36_ReentryClear_C28 : TC := (.block 0 (.loop law36_ReentryClear_N1 law36_ReentryClear_C3))
def law36_ReentryClear_C27 : TC := (.seq (.seq (.rg [⟨⟨some 10, (.mov (.c (I 0))), none⟩, {}⟩] none) law36_ReentryClear_C28) law36_ReentryClear_C4)
def law36_ReentryClear_C26 : TC := (.seq (.rg [⟨⟨some 34, (.fadr 0 (.t 5)), none⟩, {}⟩, ⟨⟨some 35, (.load false 1 (.t 34)), none⟩, {}⟩, ⟨⟨some 36, (.build [(I 0), (.lst true [])] [(0, (1, (.t 35)))]), none⟩, {}⟩, ⟨⟨some 9, (.alloc [(I 0), (.lst true [])]), none⟩, {}⟩, ⟨⟨none, (.store 2 (.t 9) (.t 36)), none⟩, {}⟩] none)
  law36_ReentryClear_C27)
def law36_ReentryClear_C25 : TC := (.seq (.rg [⟨⟨some 29, (.load true 3 (.t 4)), none⟩, {}⟩, ⟨⟨some 30, (.load true 2 (.t 5)), none⟩, {}⟩, ⟨⟨some 31, (.mov (.t 6)), none⟩, {}⟩, ⟨⟨some 32, (.mov (.t 7)), none⟩, {}⟩, ⟨⟨some 33, (.call (.c (.fn 9 [])) [(.t 29), (.t 30), (.t 31), (.t 32)]), none⟩, {}⟩, ⟨⟨some 8, (.mov (.t 33)), none⟩,
  {}⟩] none) law36_ReentryClear_C26)
def law36_ReentryClear_C24 : TC := (.seq (.rg [⟨⟨some 26, (.mov (.t 3)), none⟩, {}⟩, ⟨⟨some 27, (.call (.c (.fn 8 [])) [(.t 26), (.c (I 100))]), none⟩, {}⟩, ⟨⟨some 28, (.bin .add (.c (I 2000)) (.t 27)), none⟩, {}⟩, ⟨⟨some 7, (.mov (.t 28)), none⟩, {}⟩] none) law36_ReentryClear_C25)
def law36_ReentryClear_C22 : TC := (.seq (.rg [⟨⟨some 21, (.mov (.t 3)), none⟩, {}⟩, ⟨⟨some 22, (.call (.c (.fn 7 [])) [(.t 21)]), none⟩, {}⟩, ⟨⟨some 20, (.mov (.t 22)), none⟩, {}⟩, ⟨⟨some 23, (.extr 0 (.t 20)), none⟩, {}⟩, ⟨⟨some 24, (.extr 1 (.t 20)), none⟩, {}⟩, ⟨⟨some 25, (.extr 2 (.t 20)), none⟩, {}⟩, ⟨⟨some 4, (.alloc [(I 0), (I
  0), (.lst true [])]), none⟩, {}⟩, ⟨⟨some 5, (.alloc [(I 0), (.lst true [])]), none⟩, {}⟩, ⟨⟨none, (.store 3 (.t 4) (.t 23)), none⟩, {}⟩, ⟨⟨none, (.store 2 (.t 5) (.t 24)), none⟩, {}⟩, ⟨⟨some 6, (.mov (.t 25)), none⟩, {}⟩] none) law36_ReentryClear_C24)
def law36_ReentryClear_C18 : TC := (.seq (.rg [⟨⟨some 18, (.mov (.t 0)), none⟩, {}⟩, ⟨⟨some 19, (.call (.c (.fn 6 [])) [(.t 18)]), none⟩, {}⟩, ⟨⟨some 3, (.mov (.t 19)), none⟩, {}⟩] none) law36_ReentryClear_C22)
def law36_ReentryClear_C12 : TC := (.seq (.seq (.rg [⟨⟨some 14, (.mov (.t 0)), none⟩, {}⟩, ⟨⟨some 15, (.call (.c (.fn 4 [])) [(.t 14)]), none⟩, {}⟩, ⟨⟨some 16, (.un .not (.t 15)), none⟩, {}⟩] none) law36_ReentryClear_C17) law36_ReentryClear_C18)
def law36_ReentryClear_C5 : TC := (.seq (.rg [⟨⟨some 2, (.mov (.c (B false))), none⟩, {}⟩] none) law36_ReentryClear_C12)
def law36_ReentryClear_E (N : Nat) : List (Nat × Ent) := [(4, pureE [(.list (.int .i64))] [.bool] (fun x => made_Light N x)), (5, pureE [] [.bool] (fun x => law36_awake N)), (6, sfE [(false, (.list (.int .i64)))] [.n G_Dice] (fun x => made_Roll N x)), (7, sfE [(true, G_Dice)] [.v G_EntryRule, .v G_Fumes, .v (.list G_Span)] (fun x => law36_scene N x)), (8, sfE [(true, G_Dice), (false, (.int .i64))] [.v (.int .i64)] (fun x => made_Dice_Next N x.1 x.2)), (9, pureE [G_EntryRule, G_Fumes, (.list G_Span), (.int .i64)] [.bool] (fun x => reentry_Clear N x.1 x.2.1 x.2.2.1 x.2.2.2))]
def law36_ReentryClear_L2 (N : Nat) (n : Nat) (x36 : List T_Span) (x37 : Int) (x38 : Bool) (x39 : Int) (x40 : List Int) (x41 : Int) (x42 : Int) (x43 : Int) (x44 : List Int) (x45 : Int) (x46 : List Int) (x47 : Int) (x48 : List Int) (x49 : List T_Span) : Option Bool := loopN (normI 0 law36_ReentryClear_N2) (run (law36_ReentryClear_E N) N 0 law36_ReentryClear_C1) n ⟨[(3, .ptr 0 0 0), (4, .ptr 1 0 0), (5, .ptr 2 0 0), (6, .lst false G_Span x36), (7, .int .i64 x37), (8, .bool x38), (9, .ptr 3 0 0), (11, .whole 4), (12, .int .i64 x39)], [some (.box 0 [.lst false (.int .i64) x40, .int .i64 x41]), some (.box 0 [.int .i64 x42, .int .i64 x43, .lst false (.int .i64) x44]), some (.box 0 [.int .i64 x45, .lst false (.int .i64) x46]), some (.box 0 [.int .i64 x47, .lst false (.int .i64) x48]), some (.arr G_Span x49)]⟩ (blkK 2 (seqK (run (law36_ReentryClear_E N) N 0 law36_ReentryClear_C2) (fin [(.t 2)] [.bool])))
theorem law36_ReentryClear_L2_zero (N : Nat) (x36 : List T_Span) (x37 : Int) (x38 : Bool) (x39 : Int) (x40 : List Int) (x41 : Int) (x42 : Int) (x43 : Int) (x44 : List Int) (x45 : Int) (x46 : List Int) (x47 : Int) (x48 : List Int) (x49 : List T_Span) : law36_ReentryClear_L2 N 0 x36 x37 x38 x39 x40 x41 x42 x43 x44 x45 x46 x47 x48 x49 = none := rfl
theorem law36_ReentryClear_L2_succ (N : Nat) (n2 : Nat) (x36 : List T_Span) (x37 : Int) (x38 : Bool) (x39 : Int) (x40 : List Int) (x41 : Int) (x42 : Int) (x43 : Int) (x44 : List Int) (x45 : Int) (x46 : List Int) (x47 : Int) (x48 : List Int) (x49 : List T_Span) : law36_ReentryClear_L2 N (n2 + 1) x36 x37 x38 x39 x40 x41 x42 x43 x44 x45 x46 x47 x48 x49 =
  bif (decide (x39 < (x36.length : Int))) then
    bif inB x39 x36.length then
    bif inB x39 x36.length then
    Option.bind (made_Dice_Next N (x40, x41) 20) fun r52 =>
    bif fitsB (x49.length + 1) 16 then
    law36_ReentryClear_L2 N n2 x36 x37 x38 (W (x39 + 1)) r52.2.1 r52.2.2 x42 x43 x44 x45 x46 x47 x48 (x49 ++ [(W ((x36.getD x39.toNat D_Span).1 - 50), W ((x36.getD x39.toNat D_Span).2 - r52.1))])
    else none
    else none
    else none
  else
    Option.bind (made_Dice_Next N (x40, x41) 100) fun r68 =>
    Option.bind (law36_awake N) fun r69 =>
    bif r69 then
      bif (!x38) then
        Option.bind (reentry_Clear N (x42, (x43, x44)) (x45, x46) [] x37) fun r70 =>
        some (!r70)
      else
        Option.bind (reentry_Clear N (x42, (x43, x44)) (x47, x48) x36 x37) fun r71 =>
        bif r71 then
          Option.bind (reentry_Clear N (x42, (x43, x44)) (x45, x46) x49 x37) fun r72 =>
          bif r72 then
            Option.bind (reentry_Clear N (x42, (W (x43 + r68.1), x44)) (x45, x46) x36 (W (x37 + 5))) fun r73 =>
            bif r73 then
              Option.bind (reentry_Clear N (x42, (x43, x44)) (x45, x46) [] x37) fun r74 =>
              some (!r74)
            else
              some false
          else
            some false
        else
          some false
    else
      some false := by kernel_rfl
def law36_ReentryClear_L1 (N : Nat) (n : Nat) (x7 : List T_Span) (x8 : Int) (x9 : Bool) (x10 : Int) (x11 : List Int) (x12 : Int) (x13 : Int) (x14 : Int) (x15 : List Int) (x16 : Int) (x17 : List Int) (x18 : Int) (x19 : List Int) : Option Bool := loopN (normI 0 law36_ReentryClear_N1) (run (law36_ReentryClear_E N) N 0 law36_ReentryClear_C3) n ⟨[(3, .ptr 0 0 0), (4, .ptr 1 0 0), (5, .ptr 2 0 0), (6, .lst false G_Span x7), (7, .int .i64 x8), (8, .bool x9), (9, .ptr 3 0 0), (10, .int .i64 x10)], [some (.box 0 [.lst false (.int .i64) x11, .int .i64 x12]), some (.box 0 [.int .i64 x13, .int .i64 x14, .lst false (.int .i64) x15]), some (.box 0 [.int .i64 x16, .lst false (.int .i64) x17]), some (.box 0 [.int .i64 x18, .whole 4]), some (.arr (.int .i64) x19)]⟩ (blkK 0 (seqK (run (law36_ReentryClear_E N) N 0 law36_ReentryClear_C4) (fin [(.t 2)] [.bool])))
theorem law36_ReentryClear_L1_zero (N : Nat) (x7 : List T_Span) (x8 : Int) (x9 : Bool) (x10 : Int) (x11 : List Int) (x12 : Int) (x13 : Int) (x14 : Int) (x15 : List Int) (x16 : Int) (x17 : List Int) (x18 : Int) (x19 : List Int) : law36_ReentryClear_L1 N 0 x7 x8 x9 x10 x11 x12 x13 x14 x15 x16 x17 x18 x19 = none := rfl
theorem law36_ReentryClear_L1_succ (N : Nat) (n1 : Nat) (x7 : List T_Span) (x8 : Int) (x9 : Bool) (x10 : Int) (x11 : List Int) (x12 : Int) (x13 : Int) (x14 : Int) (x15 : List Int) (x16 : Int) (x17 : List Int) (x18 : Int) (x19 : List Int) : law36_ReentryClear_L1 N (n1 + 1) x7 x8 x9 x10 x11 x12 x13 x14 x15 x16 x17 x18 x19 =
  bif (decide (x10 < (x17.length : Int))) then
    bif inB x10 x17.length then
    Option.bind (made_Dice_Next N (x11, x12) 20) fun r20 =>
    bif fitsB (x19.length + 1) 8 then
    law36_ReentryClear_L1 N n1 x7 x8 x9 (W (x10 + 1)) r20.2.1 r20.2.2 x13 x14 x15 x16 x17 x18 (x19 ++ [max 0 (W ((x17.getD x10.toNat 0) - r20.1))])
    else none
    else none
  else
    law36_ReentryClear_L2 N N x7 x8 x9 0 x11 x12 x13 x14 x15 x16 x17 x18 x19 [] := by kernel_rfl
def law36_ReentryClear (N : Nat) (a0 : List Int) : Option Bool :=
  Option.bind (made_Light N a0) fun r1 =>
  bif (!r1) then
    Option.bind (law36_awake N) fun r2 =>
    some r2
  else
    Option.bind (made_Roll N a0) fun r3 =>
    Option.bind (law36_scene N r3.1) fun r4 =>
    Option.bind (made_Dice_Next N r4.2 100) fun r5 =>
    Option.bind (reentry_Clear N r4.1.1 r4.1.2.1 r4.1.2.2 (W (2000 + r5.1))) fun r6 =>
    law36_ReentryClear_L1 N N r4.1.2.2 (W (2000 + r5.1)) r6 0 r5.2.1 r5.2.2 r4.1.1.1 r4.1.1.2.1 r4.1.1.2.2 r4.1.2.1.1 r4.1.2.1.2 r4.1.2.1.1 []
theorem law36_ReentryClear_fn : FnOK Try.prog 3 123 (fun _ : Nat => false) law36_ReentryClear_C5.er [(.t 2)] := FnOK.mk' Try.func3 (by kernel_rfl) (by kernel_rfl) (by kernel_rfl) (by kernel_rfl) (by kernel_rfl)
theorem law36_ReentryClear_envok (N : Nat) : EnvOK Try.prog (law36_ReentryClear_E N) := .cons (pureE_ok (made_Light_pure N)) (.cons (pureE_ok (law36_awake_pure N)) (.cons (sfE_ok (made_Roll_sf N)) (.cons (sfE_ok (law36_scene_sf N)) (.cons (sfE_ok (made_Dice_Next_sf N)) (.cons (pureE_ok (reentry_Clear_pure N)) (.nil))))))
theorem law36_ReentryClear_pure (N : Nat) : PureOK Try.prog 3 [(.list (.int .i64))] [.bool] (fun x => law36_ReentryClear N x) := pureOK (N := N) mixed law36_ReentryClear_fn (law36_ReentryClear_envok N) rfl (fun x => by kernel_rfl)
end M
end Go.Proofs.Ytlnilmcocbbohaa
