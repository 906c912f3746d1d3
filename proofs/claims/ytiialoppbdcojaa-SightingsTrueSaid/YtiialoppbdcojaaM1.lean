/- Plain models of functions of this seat, each checked against the loaded program and the walk by the kernel. No condition: closed facts. Printed by a program of ours. -/
import Derived.Test.YtiialoppbdcojaaPxN
import Derived.Test.YtiialoppbdcojaaRows
set_option linter.all false
namespace Go.Proofs.Ytiialoppbdcojaa
open Go.Pv
namespace M
theorem mixed : Try.prog.follows .mixedOrders = true := Try.checked.mixed
abbrev G_boundsError : GT := (.pair (.int .i64) (.pair (.int .i64) (.pair .bool (.int .u8))))
abbrev T_boundsError := Int × Int × Bool × Int
abbrev D_boundsError : T_boundsError := (0, (0, (false, 0)))
abbrev G_errorAddressString : GT := (.pair .str (.int .u64))
abbrev T_errorAddressString := ByteArray × Int
abbrev D_errorAddressString : T_errorAddressString := (ByteArray.empty, 0)
abbrev G_Place : GT := (.pair (.int .i64) .bool)
abbrev T_Place := Int × Bool
abbrev D_Place : T_Place := (0, false)
abbrev G_Span : GT := (.pair (.int .i64) (.int .i64))
abbrev T_Span := Int × Int
abbrev D_Span : T_Span := (0, 0)
abbrev G_Road : GT := (.pair (.int .i64) (.pair (.int .i64) (.pair (.int .i64) (.pair (.int .i64) (.pair .bool (.pair .bool (.pair G_Span (.pair (.int .i64) (.int .i64)))))))))
abbrev T_Road := Int × Int × Int × Int × Bool × Bool × T_Span × Int × Int
abbrev D_Road : T_Road := (0, (0, (0, (0, (false, (false, (D_Span, (0, 0))))))))
abbrev G_Mine : GT := (.pair (.list G_Place) (.list G_Road))
abbrev T_Mine := (List T_Place) × List T_Road
abbrev D_Mine : T_Mine := ([], [])
abbrev G_TagReader : GT := (.pair (.list (.int .i64)) (.pair (.int .i64) (.pair (.int .i64) (.int .i64))))
abbrev T_TagReader := (List Int) × Int × Int × Int
abbrev D_TagReader : T_TagReader := ([], (0, (0, 0)))
abbrev G_Report : GT := (.pair (.int .i64) (.pair (.int .i64) (.pair (.int .i64) (.list (.int .i64)))))
abbrev T_Report := Int × Int × Int × List Int
abbrev D_Report : T_Report := (0, (0, (0, [])))
abbrev G_Absence : GT := (.pair (.int .i64) (.pair (.int .i64) (.pair (.int .i64) (.int .i64))))
abbrev T_Absence := Int × Int × Int × Int
abbrev D_Absence : T_Absence := (0, (0, (0, 0)))
abbrev G_Dice : GT := (.pair (.list (.int .i64)) (.int .i64))
abbrev T_Dice := (List Int) × Int
abbrev D_Dice : T_Dice := ([], 0)
/-! made_Light -/
def made_Light_C3 : TC := .ret
def made_Light_C2 : TC := (.seq (.rg [⟨⟨some 3, (.mov (.t 0)), none⟩, {}⟩, ⟨⟨some 4, (.len (.t 3)), none⟩, {}⟩, ⟨⟨some 5, (.bin .leq (.t 4) (.c (I 400))), none⟩, {}⟩, ⟨⟨some 2, (.mov (.t 5)), none⟩, {}⟩] none) made_Light_C3)
def made_Light_C1 : TC := (.seq (.rg [⟨⟨some 2, (.mov (.c (B false))), none⟩, {}⟩] none) made_Light_C2)
def made_Light_E (N : Nat) : List (Nat × Ent) := []
def made_Light (N : Nat) (a0 : List Int) : Option Bool :=
  some (decide ((a0.length : Int) ≤ 400))
theorem made_Light_fn : FnOK Try.prog 7 6 (fun _ : Nat => false) made_Light_C1.er [(.t 2)] := FnOK.mk' Try.func7 (by kernel_rfl) (by kernel_rfl) (by kernel_rfl) (by kernel_rfl) (by kernel_rfl)
theorem made_Light_envok (N : Nat) : EnvOK Try.prog (made_Light_E N) := .nil
theorem made_Light_pure (N : Nat) : PureOK Try.prog 7 [(.list (.int .i64))] [.bool] (fun x => made_Light N x) := pureOK (N := N) mixed made_Light_fn (made_Light_envok N) rfl (fun x => by kernel_rfl)
/-! sightings_Blind -/
def sightings_Blind_C3 : TC := .ret
def sightings_Blind_C2 : TC := (.seq (.rg [⟨⟨some 3, (.fadr 2 (.t 1)), none⟩, {}⟩, ⟨⟨some 4, (.load false 1 (.t 3)), none⟩, {}⟩, ⟨⟨some 5, (.bin .add (.t 4) (.c (I 1))), none⟩, {}⟩, ⟨⟨some 6, (.fadr 1 (.t 1)), none⟩, {}⟩, ⟨⟨some 7, (.load false 1 (.t 6)), none⟩, {}⟩, ⟨⟨some 8, (.bin .mul (.t 5) (.t 7)), none⟩, {}⟩, ⟨⟨some 2, (.mov
  (.t 8)), none⟩, {}⟩] none) sightings_Blind_C3)
def sightings_Blind_C1 : TC := (.seq (.rg [⟨⟨some 1, (.box (.t 0)), none⟩, {}⟩, ⟨⟨some 2, (.mov (.c (I 0))), none⟩, {}⟩] none) sightings_Blind_C2)
def sightings_Blind_E (N : Nat) : List (Nat × Ent) := []
def sightings_Blind (N : Nat) (a0 : T_TagReader) : Option Int :=
  some (W ((W (a0.2.2.1 + 1)) * a0.2.1))
theorem sightings_Blind_fn : FnOK Try.prog 15 9 (fun _ : Nat => false) sightings_Blind_C1.er [(.t 2)] := FnOK.mk' Try.func15 (by kernel_rfl) (by kernel_rfl) (by kernel_rfl) (by kernel_rfl) (by kernel_rfl)
theorem sightings_Blind_envok (N : Nat) : EnvOK Try.prog (sightings_Blind_E N) := .nil
theorem sightings_Blind_pure (N : Nat) : PureOK Try.prog 15 [G_TagReader] [(.int .i64)] (fun x => sightings_Blind N x) := pureOK (N := N) mixed sightings_Blind_fn (sightings_Blind_envok N) rfl (fun x => by kernel_rfl)
/-! lists_In -/
def lists_In_C3 : TC := .ret
def lists_In_C2 : TC := (.seq (.rg [⟨⟨some 7, (.mov (.t 0)), none⟩, {}⟩, ⟨⟨some 8, (.mov (.t 1)), none⟩, {}⟩, ⟨⟨some 9, (.bin .geq (.t 7) (.t 8)), none⟩, {}⟩, ⟨⟨some 10, (.mov (.t 9)), none⟩, {}⟩, ⟨⟨some 11, (.mov (.t 0)), some (10, true)⟩, {}⟩, ⟨⟨some 12, (.mov (.t 2)), some (10, true)⟩, {}⟩, ⟨⟨some 13, (.bin .leq (.t 11)
  (.t 12)), some (10, true)⟩, {}⟩, ⟨⟨some 14, (.pick (.t 10) (.t 13) (.c (B false))), none⟩, {}⟩, ⟨⟨some 6, (.mov (.t 14)), none⟩, {}⟩] none) lists_In_C3)
def lists_In_C1 : TC := (.seq (.rg [⟨⟨some 6, (.mov (.c (B false))), none⟩, {}⟩] none) lists_In_C2)
def lists_In_E (N : Nat) : List (Nat × Ent) := []
def lists_In (N : Nat) (a0 : Int) (a1 : Int) (a2 : Int) : Option Bool :=
  bif (decide (a0 ≥ a1)) then
    some (decide (a0 ≤ a2))
  else
    some false
theorem lists_In_fn : FnOK Try.prog 31 15 (fun _ : Nat => false) lists_In_C1.er [(.t 6)] := FnOK.mk' Try.func31 (by kernel_rfl) (by kernel_rfl) (by kernel_rfl) (by kernel_rfl) (by kernel_rfl)
theorem lists_In_envok (N : Nat) : EnvOK Try.prog (lists_In_E N) := .nil
theorem lists_In_pure (N : Nat) : PureOK Try.prog 31 [(.int .i64), (.int .i64), (.int .i64)] [.bool] (fun x => lists_In N x.1 x.2.1 x.2.2) := pureOK (N := N) mixed lists_In_fn (lists_In_envok N) rfl (fun x => by kernel_rfl)
/-! lists_Rising -/
def lists_Rising_N1 : List NS := [.wk 0 (.list (.int .i64)), .wk 9 (.list (.int .i64)), .keep [0, 1, 2, 9, 10, 11], .cmp]
def lists_Rising_C12 : TC := .ret
def lists_Rising_C11 : TC := (.cond (.t 36) (.seq (.rg [⟨⟨some 6, (.mov (.c (B false))), none⟩, {}⟩] none) lists_Rising_C12) .skip)
def lists_Rising_C9 : TC := (.seq (.rg [⟨⟨some 16, (.mov (.t 8)), none⟩, {}⟩, ⟨⟨some 17, (.mov (.t 1)), none⟩, {}⟩, ⟨⟨some 18, (.bin .lss (.t 16) (.t 17)), none⟩, {}⟩, ⟨⟨some 19, (.mov (.t 18)), none⟩, {}⟩, ⟨⟨some 20, (.mov (.t 8)), some (19, false)⟩, {}⟩, ⟨⟨some 21, (.mov (.t 2)), some (19, false)⟩, {}⟩, ⟨⟨some 22, (.bin .gtr
  (.t 20) (.t 21)), some (19, false)⟩, {}⟩, ⟨⟨some 23, (.pick (.t 19) (.c (B true)) (.t 22)), none⟩, {}⟩, ⟨⟨some 24, (.mov (.t 23)), none⟩, {}⟩, ⟨⟨some 25, (.mov (.t 7)), some (24, false)⟩, {}⟩, ⟨⟨some 26, (.bin .gtr (.t 25) (.c (I 0))), some (24, false)⟩, {}⟩, ⟨⟨some 27, (.mov (.t 26)), some (24,
  false)⟩, {}⟩, ⟨⟨some 28, (.mov (.t 8)), some (27, true)⟩, {}⟩, ⟨⟨some 29, (.mov (.t 0)), some (27, true)⟩, {}⟩, ⟨⟨some 30, (.mov (.t 7)), some (27, true)⟩, {}⟩, ⟨⟨some 31, (.bin .sub (.t 30) (.c (I 1))), some (27, true)⟩, {}⟩, ⟨⟨some 32, (.iadrS 1 (.t 29) (.t 31)), some (27, true)⟩, {}⟩, ⟨⟨some 33,
  (.load false 1 (.t 32)), some (27, true)⟩, {}⟩, ⟨⟨some 34, (.bin .leq (.t 28) (.t 33)), some (27, true)⟩, {}⟩, ⟨⟨some 35, (.pick (.t 27) (.t 34) (.c (B false))), some (24, false)⟩, {}⟩, ⟨⟨some 36, (.pick (.t 24) (.c (B true)) (.t 35)), none⟩, {}⟩] none) lists_Rising_C11)
def lists_Rising_C10 : TC := (.rg [⟨⟨some 37, (.bin .add (.t 11) (.c (I 1))), none⟩, {}⟩, ⟨⟨some 11, (.mov (.t 37)), none⟩, {}⟩] none)
def lists_Rising_C7 : TC := (.seq (.block 1 (.seq (.rg [⟨⟨some 13, (.mov (.t 11)), none⟩, {}⟩, ⟨⟨some 14, (.iadrS 1 (.t 9) (.t 11)), none⟩, {}⟩, ⟨⟨some 15, (.load false 1 (.t 14)), none⟩, {}⟩, ⟨⟨some 7, (.mov (.t 13)), none⟩, {}⟩, ⟨⟨some 8, (.mov (.t 15)), none⟩, {}⟩] none) lists_Rising_C9)) lists_Rising_C10)
def lists_Rising_C4 : TC := (.seq (.cond (.t 12) .skip (.exit 0)) lists_Rising_C7)
def lists_Rising_C1 : TC := (.seq (.rg [⟨⟨some 12, (.bin .lss (.t 11) (.t 10)), none⟩, {}⟩] none) lists_Rising_C4)
def lists_Rising_C5 : TC := .ret
def lists_Rising_C2 : TC := (.seq (.rg [⟨⟨some 6, (.mov (.c (B true))), none⟩, {}⟩] none) lists_Rising_C5)
def lists_Rising_C8 : TC := (.block 0 (.loop lists_Rising_N1 lists_Rising_C1))
def lists_Rising_C6 : TC := (.seq (.seq (.rg [⟨⟨some 9, (.mov (.t 0)), none⟩, {}⟩, ⟨⟨some 10, (.len (.t 9)), none⟩, {}⟩, ⟨⟨some 11, (.mov (.c (I 0))), none⟩, {}⟩] none) lists_Rising_C8) lists_Rising_C2)
def lists_Rising_C3 : TC := (.seq (.rg [⟨⟨some 6, (.mov (.c (B false))), none⟩, {}⟩] none) lists_Rising_C6)
def lists_Rising_E (N : Nat) : List (Nat × Ent) := []
def lists_Rising_L1 (N : Nat) (n : Nat) (x1 : List Int) (x2 : Int) (x3 : Int) (x4 : List Int) (x5 : Int) (x6 : Int) : Option Bool := loopN (normI 0 lists_Rising_N1) (run (lists_Rising_E N) N 0 lists_Rising_C1) n ⟨[(0, .lst false (.int .i64) x1), (1, .int .i64 x2), (2, .int .i64 x3), (9, .lst false (.int .i64) x4), (10, .int .i64 x5), (11, .int .i64 x6)], []⟩ (blkK 0 (seqK (run (lists_Rising_E N) N 0 lists_Rising_C2) (fin [(.t 6)] [.bool])))
theorem lists_Rising_L1_zero (N : Nat) (x1 : List Int) (x2 : Int) (x3 : Int) (x4 : List Int) (x5 : Int) (x6 : Int) : lists_Rising_L1 N 0 x1 x2 x3 x4 x5 x6 = none := rfl
theorem lists_Rising_L1_succ (N : Nat) (n1 : Nat) (x1 : List Int) (x2 : Int) (x3 : Int) (x4 : List Int) (x5 : Int) (x6 : Int) : lists_Rising_L1 N (n1 + 1) x1 x2 x3 x4 x5 x6 =
  bif (decide (x6 < x5)) then
    bif inB x6 x4.length then
    bif (decide ((x4.getD x6.toNat 0) < x2)) then
      some false
    else
      bif (decide ((x4.getD x6.toNat 0) > x3)) then
        some false
      else
        bif (decide (x6 > 0)) then
          bif inB (W (x6 - 1)) x1.length then
          bif (decide ((x4.getD x6.toNat 0) ≤ (x1.getD (W (x6 - 1)).toNat 0))) then
            some false
          else
            lists_Rising_L1 N n1 x1 x2 x3 x4 x5 (W (x6 + 1))
          else none
        else
          lists_Rising_L1 N n1 x1 x2 x3 x4 x5 (W (x6 + 1))
    else none
  else
    some true := by kernel_rfl
def lists_Rising (N : Nat) (a0 : List Int) (a1 : Int) (a2 : Int) : Option Bool :=
  lists_Rising_L1 N N a0 a1 a2 a0 (a0.length : Int) 0
theorem lists_Rising_fn : FnOK Try.prog 36 38 (fun _ : Nat => false) lists_Rising_C3.er [(.t 6)] := FnOK.mk' Try.func36 (by kernel_rfl) (by kernel_rfl) (by kernel_rfl) (by kernel_rfl) (by kernel_rfl)
theorem lists_Rising_envok (N : Nat) : EnvOK Try.prog (lists_Rising_E N) := .nil
theorem lists_Rising_pure (N : Nat) : PureOK Try.prog 36 [(.list (.int .i64)), (.int .i64), (.int .i64)] [.bool] (fun x => lists_Rising N x.1 x.2.1 x.2.2) := pureOK (N := N) mixed lists_Rising_fn (lists_Rising_envok N) rfl (fun x => by kernel_rfl)
/-! tags_Valid -/
def tags_Valid_C3 : TC := .ret
def tags_Valid_C2 : TC := (.seq (.rg [⟨⟨some 3, (.fadr 0 (.t 1)), none⟩, {}⟩, ⟨⟨some 4, (.load false 1 (.t 3)), none⟩, {}⟩, ⟨⟨some 5, (.call (.c (.fn 31 [])) [(.t 4), (.c (I 0)), (.c (I 31))]), none⟩, {}⟩, ⟨⟨some 6, (.mov (.t 5)), none⟩, {}⟩, ⟨⟨some 7, (.fadr 1 (.t 1)), some (6, true)⟩, {}⟩, ⟨⟨some 8, (.load false 1 (.t 7)),
  some (6, true)⟩, {}⟩, ⟨⟨some 9, (.call (.c (.fn 31 [])) [(.t 8), (.c (I 0)), (.c (I 65535))]), some (6, true)⟩, {}⟩, ⟨⟨some 10, (.pick (.t 6) (.t 9) (.c (B false))), none⟩, {}⟩, ⟨⟨some 11, (.mov (.t 10)), none⟩, {}⟩, ⟨⟨some 12, (.fadr 2 (.t 1)), some (11, true)⟩, {}⟩, ⟨⟨some 13, (.load false 1 (.t
  12)), some (11, true)⟩, {}⟩, ⟨⟨some 14, (.call (.c (.fn 31 [])) [(.t 13), (.c (I 0)), (.c (I 2147483648))]), some (11, true)⟩, {}⟩, ⟨⟨some 15, (.pick (.t 11) (.t 14) (.c (B false))), none⟩, {}⟩, ⟨⟨some 16, (.mov (.t 15)), none⟩, {}⟩, ⟨⟨some 17, (.fadr 3 (.t 1)), some (16, true)⟩, {}⟩, ⟨⟨some 18,
  (.load false 1 (.t 17)), some (16, true)⟩, {}⟩, ⟨⟨some 19, (.len (.t 18)), some (16, true)⟩, {}⟩, ⟨⟨some 20, (.bin .leq (.t 19) (.c (I 20))), some (16, true)⟩, {}⟩, ⟨⟨some 21, (.pick (.t 16) (.t 20) (.c (B false))), none⟩, {}⟩, ⟨⟨some 22, (.mov (.t 21)), none⟩, {}⟩, ⟨⟨some 23, (.fadr 3 (.t 1)),
  some (22, true)⟩, {}⟩, ⟨⟨some 24, (.load false 1 (.t 23)), some (22, true)⟩, {}⟩, ⟨⟨some 25, (.call (.c (.fn 36 [])) [(.t 24), (.c (I 1)), (.c (I 65535))]), some (22, true)⟩, {}⟩, ⟨⟨some 26, (.pick (.t 22) (.t 25) (.c (B false))), none⟩, {}⟩, ⟨⟨some 2, (.mov (.t 26)), none⟩, {}⟩] none)
  tags_Valid_C3)
def tags_Valid_C1 : TC := (.seq (.rg [⟨⟨some 1, (.box (.t 0)), none⟩, {}⟩, ⟨⟨some 2, (.mov (.c (B false))), none⟩, {}⟩] none) tags_Valid_C2)
def tags_Valid_E (N : Nat) : List (Nat × Ent) := [(31, pureE [(.int .i64), (.int .i64), (.int .i64)] [.bool] (fun x => lists_In N x.1 x.2.1 x.2.2)), (36, pureE [(.list (.int .i64)), (.int .i64), (.int .i64)] [.bool] (fun x => lists_Rising N x.1 x.2.1 x.2.2))]
def tags_Valid (N : Nat) (a0 : T_Report) : Option Bool :=
  Option.bind (lists_In N a0.1 0 31) fun r1 =>
  bif r1 then
    Option.bind (lists_In N a0.2.1 0 65535) fun r2 =>
    bif r2 then
      Option.bind (lists_In N a0.2.2.1 0 2147483648) fun r3 =>
      bif r3 then
        bif (decide ((a0.2.2.2.length : Int) ≤ 20)) then
          Option.bind (lists_Rising N a0.2.2.2 1 65535) fun r4 =>
          some r4
        else
          some false
      else
        some false
    else
      some false
  else
    some false
theorem tags_Valid_fn : FnOK Try.prog 30 27 (fun _ : Nat => false) tags_Valid_C1.er [(.t 2)] := FnOK.mk' Try.func30 (by kernel_rfl) (by kernel_rfl) (by kernel_rfl) (by kernel_rfl) (by kernel_rfl)
theorem tags_Valid_envok (N : Nat) : EnvOK Try.prog (tags_Valid_E N) := .cons (pureE_ok (lists_In_pure N)) (.cons (pureE_ok (lists_Rising_pure N)) (.nil))
theorem tags_Valid_pure (N : Nat) : PureOK Try.prog 30 [G_Report] [.bool] (fun x => tags_Valid N x) := pureOK (N := N) mixed tags_Valid_fn (tags_Valid_envok N) rfl (fun x => by kernel_rfl)
/-! sightings_Absences_1 -/
def sightings_Absences_1_C3 : TC := .ret
def sightings_Absences_1_C2 : TC := (.seq (.rg [⟨⟨some 3, (.load true 4 (.t 1)), none⟩, {}⟩, ⟨⟨some 4, (.call (.c (.fn 30 [])) [(.t 3)]), none⟩, {}⟩, ⟨⟨some 5, (.un .not (.t 4)), none⟩, {}⟩, ⟨⟨some 2, (.mov (.t 5)), none⟩, {}⟩] none) sightings_Absences_1_C3)
def sightings_Absences_1_C1 : TC := (.seq (.rg [⟨⟨some 1, (.box (.t 0)), none⟩, {}⟩, ⟨⟨some 2, (.mov (.c (B false))), none⟩, {}⟩] none) sightings_Absences_1_C2)
def sightings_Absences_1_E (N : Nat) : List (Nat × Ent) := [(30, pureE [G_Report] [.bool] (fun x => tags_Valid N x))]
def sightings_Absences_1 (N : Nat) (a0 : T_Report) : Option Bool :=
  Option.bind (tags_Valid N a0) fun r1 =>
  some (!r1)
theorem sightings_Absences_1_fn : FnOK Try.prog 29 6 (fun _ : Nat => false) sightings_Absences_1_C1.er [(.t 2)] := FnOK.mk' Try.func29 (by kernel_rfl) (by kernel_rfl) (by kernel_rfl) (by kernel_rfl) (by kernel_rfl)
theorem sightings_Absences_1_envok (N : Nat) : EnvOK Try.prog (sightings_Absences_1_E N) := .cons (pureE_ok (tags_Valid_pure N)) (.nil)
theorem sightings_Absences_1_pure (N : Nat) : PureOK Try.prog 29 [G_Report] [.bool] (fun x => sightings_Absences_1 N x) := pureOK (N := N) mixed sightings_Absences_1_fn (sightings_Absences_1_envok N) rfl (fun x => by kernel_rfl)
/-! sightings_Absences_2 -/
def sightings_Absences_2_NE : List NS := [.ownc 0 0 G_Report, .frzo 2, .ownc 2 0 G_Absence, .keep [], .out [0, 2, 3, 5, 6]]
def sightings_Absences_2_C5 : TC := (.cond (.t 29) (.rg [⟨⟨some 30, (.load false 1 (.t 2)), none⟩, {}⟩, ⟨⟨some 31, (.load false 1 (.t 3)), none⟩, {}⟩, ⟨⟨some 32, (.load false 1 (.t 4)), none⟩, {}⟩, ⟨⟨some 33, (.mov (.t 5)), none⟩, {}⟩, ⟨⟨some 34, (.mov (.t 6)), none⟩, {}⟩, ⟨⟨some 35, (.build [(I 0), (I 0), (I 0), (I 0)] [(0, (1, (.t
  31))), (1, (1, (.t 32))), (2, (1, (.t 33))), (3, (1, (.t 34)))]), none⟩, {}⟩, ⟨⟨some 36, (.bslice false 4 [(I 0), (I 0), (I 0), (I 0)] 1 [(0, (.t 35))]), none⟩, ⟨G_Absence, none⟩⟩, ⟨⟨some 37, (.app 4 32 (.t 30) (.t 36)), none⟩, {}⟩, ⟨⟨none, (.store 1 (.t 2) (.t 37)), none⟩, {}⟩] none) .skip)
def sightings_Absences_2_C4 : TC := (.seq (.rg [⟨⟨some 27, (.mov (.t 6)), none⟩, {}⟩, ⟨⟨some 28, (.mov (.t 5)), none⟩, {}⟩, ⟨⟨some 29, (.bin .gtr (.t 27) (.t 28)), none⟩, {}⟩] none) sightings_Absences_2_C5)
def sightings_Absences_2_C2 : TC := (.cond (.t 9) (.seq (.rg [⟨⟨some 10, (.load false 1 (.t 0)), none⟩, {}⟩, ⟨⟨some 11, (.iadrS 4 (.t 10) (.c (I 0))), none⟩, {}⟩, ⟨⟨some 12, (.fadr 2 (.t 11)), none⟩, {}⟩, ⟨⟨some 13, (.load false 1 (.t 12)), none⟩, {}⟩, ⟨⟨some 14, (.fadr 3 (.t 1)), none⟩, {}⟩, ⟨⟨some 15, (.load false 1 (.t 14)), none⟩,
  {}⟩, ⟨⟨some 16, (.bin .add (.t 13) (.t 15)), none⟩, {}⟩, ⟨⟨some 17, (.load false 1 (.t 0)), none⟩, {}⟩, ⟨⟨some 18, (.load false 1 (.t 0)), none⟩, {}⟩, ⟨⟨some 19, (.len (.t 18)), none⟩, {}⟩, ⟨⟨some 20, (.bin .sub (.t 19) (.c (I 1))), none⟩, {}⟩, ⟨⟨some 21, (.iadrS 4 (.t 17) (.t 20)), none⟩, {}⟩,
  ⟨⟨some 22, (.fadr 2 (.t 21)), none⟩, {}⟩, ⟨⟨some 23, (.load false 1 (.t 22)), none⟩, {}⟩, ⟨⟨some 24, (.fadr 3 (.t 1)), none⟩, {}⟩, ⟨⟨some 25, (.load false 1 (.t 24)), none⟩, {}⟩, ⟨⟨some 26, (.bin .sub (.t 23) (.t 25)), none⟩, {}⟩, ⟨⟨some 5, (.mov (.t 16)), none⟩, {}⟩, ⟨⟨some 6, (.mov (.t 26)),
  none⟩, {}⟩] (some [])) sightings_Absences_2_C4) .skip)
def sightings_Absences_2_C3 : TC := (.rg [⟨⟨none, (.store 1 (.t 0) (.c (.lst true []))), none⟩, {}⟩] none)
def sightings_Absences_2_C1 : TC := (.seq (.seq (.rg [⟨⟨some 7, (.load false 1 (.t 0)), none⟩, {}⟩, ⟨⟨some 8, (.len (.t 7)), none⟩, {}⟩, ⟨⟨some 9, (.bin .gtr (.t 8) (.c (I 1))), none⟩, {}⟩] none) sightings_Absences_2_C2) sightings_Absences_2_C3)
def sightings_Absences_2_E (N : Nat) : List (Nat × Ent) := []
def sightings_Absences_2 (N : Nat) (a0 : List T_Report) (a1 : T_TagReader) (a2 : List T_Absence) (a3 : Int) (a4 : Int) : Option (Unit × ((List T_Report) × T_TagReader × (List T_Absence) × Int × Int)) :=
  bif (decide ((a0.length : Int) > 1)) then
    bif inB 0 a0.length then
    let v1 := a0.getD ((0 : Int).toNat) D_Report
    let v2 := W ((a0.length : Int) - 1)
    bif inB v2 a0.length then
    let v3 := a0.getD v2.toNat D_Report
    bif (decide ((W (v3.2.2.1 - a1.2.2.2)) > (W (v1.2.2.1 + a1.2.2.2)))) then
      bif fitsB (a2.length + 1) 32 then
      some ((), ([], a1, (a2 ++ [(a3, (a4, (W (v1.2.2.1 + a1.2.2.2), W (v3.2.2.1 - a1.2.2.2))))]), a3, a4))
      else none
    else
      some ((), ([], a1, a2, a3, a4))
    else none
    else none
  else
    some ((), ([], a1, a2, a3, a4))
theorem sightings_Absences_2_fn : FnOK Try.prog 32 38 (fun _ : Nat => false) sightings_Absences_2_C1.er [] := FnOK.mk' Try.func32 (by kernel_rfl) (by kernel_rfl) (by kernel_rfl) (by kernel_rfl) (by kernel_rfl)
theorem sightings_Absences_2_envok (N : Nat) : EnvOK Try.prog (sightings_Absences_2_E N) := .nil
theorem sightings_Absences_2_sf (N : Nat) : SFOK Try.prog 32 [none, none, none, none, none] [.b (.a G_Report), .b (.v G_TagReader), .b (.a G_Absence), .b (.v (.int .i64)), .b (.v (.int .i64))] [] (fun x => sightings_Absences_2 N x.1 x.2.1 x.2.2.1 x.2.2.2.1 x.2.2.2.2) := sfOK (N := N) (p := 7) (q := 9) (ns := sightings_Absences_2_NE) mixed sightings_Absences_2_fn (sightings_Absences_2_envok N) rfl rfl rfl (fun x => by kernel_rfl)
/-! slices_Index_int_int -/
def slices_Index_int_int_N1 : List NS := [.wk 0 (.list (.int .i64)), .keep [0, 1, 7, 8], .cmp]
def slices_Index_int_int_C12 : TC := .ret
def slices_Index_int_int_C11 : TC := (.cond (.t 16) (.seq (.rg [⟨⟨some 17, (.mov (.t 5)), none⟩, {}⟩, ⟨⟨some 4, (.mov (.t 17)), none⟩, {}⟩] none) slices_Index_int_int_C12) .skip)
def slices_Index_int_int_C9 : TC := (.seq (.rg [⟨⟨some 11, (.mov (.t 1)), none⟩, {}⟩, ⟨⟨some 12, (.mov (.t 0)), none⟩, {}⟩, ⟨⟨some 13, (.mov (.t 5)), none⟩, {}⟩, ⟨⟨some 14, (.iadrS 1 (.t 12) (.t 13)), none⟩, {}⟩, ⟨⟨some 15, (.load false 1 (.t 14)), none⟩, {}⟩, ⟨⟨some 16, (.bin .eql (.t 11) (.t 15)), none⟩, {}⟩] none)
  slices_Index_int_int_C11)
def slices_Index_int_int_C10 : TC := (.rg [⟨⟨some 18, (.bin .add (.t 8) (.c (I 1))), none⟩, {}⟩, ⟨⟨some 8, (.mov (.t 18)), none⟩, {}⟩] none)
def slices_Index_int_int_C7 : TC := (.seq (.block 1 (.seq (.rg [⟨⟨some 10, (.mov (.t 8)), none⟩, {}⟩, ⟨⟨some 5, (.mov (.t 10)), none⟩, {}⟩] none) slices_Index_int_int_C9)) slices_Index_int_int_C10)
def slices_Index_int_int_C4 : TC := (.seq (.cond (.t 9) .skip (.exit 0)) slices_Index_int_int_C7)
def slices_Index_int_int_C1 : TC := (.seq (.rg [⟨⟨some 9, (.bin .lss (.t 8) (.t 7)), none⟩, {}⟩] none) slices_Index_int_int_C4)
def slices_Index_int_int_C5 : TC := .ret
def slices_Index_int_int_C2 : TC := (.seq (.rg [⟨⟨some 4, (.mov (.c (I (-1)))), none⟩, {}⟩] none) slices_Index_int_int_C5)
def slices_Index_int_int_C8 : TC := (.block 0 (.loop slices_Index_int_int_N1 slices_Index_int_int_C1))
def slices_Index_int_int_C6 : TC := (.seq (.seq (.rg [⟨⟨some 6, (.mov (.t 0)), none⟩, {}⟩, ⟨⟨some 7, (.len (.t 6)), none⟩, {}⟩, ⟨⟨some 8, (.mov (.c (I 0))), none⟩, {}⟩] none) slices_Index_int_int_C8) slices_Index_int_int_C2)
def slices_Index_int_int_C3 : TC := (.seq (.rg [⟨⟨some 4, (.mov (.c (I 0))), none⟩, {}⟩] none) slices_Index_int_int_C6)
def slices_Index_int_int_E (N : Nat) : List (Nat × Ent) := []
def slices_Index_int_int_L1 (N : Nat) (n : Nat) (x1 : List Int) (x2 : Int) (x3 : Int) (x4 : Int) : Option Int := loopN (normI 0 slices_Index_int_int_N1) (run (slices_Index_int_int_E N) N 0 slices_Index_int_int_C1) n ⟨[(0, .lst false (.int .i64) x1), (1, .int .i64 x2), (7, .int .i64 x3), (8, .int .i64 x4)], []⟩ (blkK 0 (seqK (run (slices_Index_int_int_E N) N 0 slices_Index_int_int_C2) (fin [(.t 4)] [(.int .i64)])))
theorem slices_Index_int_int_L1_zero (N : Nat) (x1 : List Int) (x2 : Int) (x3 : Int) (x4 : Int) : slices_Index_int_int_L1 N 0 x1 x2 x3 x4 = none := rfl
theorem slices_Index_int_int_L1_succ (N : Nat) (n1 : Nat) (x1 : List Int) (x2 : Int) (x3 : Int) (x4 : Int) : slices_Index_int_int_L1 N (n1 + 1) x1 x2 x3 x4 =
  bif (decide (x4 < x3)) then
    bif inB x4 x1.length then
    bif (x2 == (x1.getD x4.toNat 0)) then
      some x4
    else
      slices_Index_int_int_L1 N n1 x1 x2 x3 (W (x4 + 1))
    else none
  else
    some (-1) := by kernel_rfl
def slices_Index_int_int (N : Nat) (a0 : List Int) (a1 : Int) : Option Int :=
  slices_Index_int_int_L1 N N a0 a1 (a0.length : Int) 0
theorem slices_Index_int_int_fn : FnOK Try.prog 45 19 (fun _ : Nat => false) slices_Index_int_int_C3.er [(.t 4)] := FnOK.mk' Try.func45 (by kernel_rfl) (by kernel_rfl) (by kernel_rfl) (by kernel_rfl) (by kernel_rfl)
theorem slices_Index_int_int_envok (N : Nat) : EnvOK Try.prog (slices_Index_int_int_E N) := .nil
theorem slices_Index_int_int_pure (N : Nat) : PureOK Try.prog 45 [(.list (.int .i64)), (.int .i64)] [(.int .i64)] (fun x => slices_Index_int_int N x.1 x.2) := pureOK (N := N) mixed slices_Index_int_int_fn (slices_Index_int_int_envok N) rfl (fun x => by kernel_rfl)
/-! slices_Contains_int_int -/
def slices_Contains_int_int_C3 : TC := .ret
def slices_Contains_int_int_C2 : TC := (.seq (.rg [⟨⟨some 5, (.mov (.t 0)), none⟩, {}⟩, ⟨⟨some 6, (.mov (.t 1)), none⟩, {}⟩, ⟨⟨some 7, (.call (.c (.fn 45 [])) [(.t 5), (.t 6)]), none⟩, {}⟩, ⟨⟨some 8, (.bin .geq (.t 7) (.c (I 0))), none⟩, {}⟩, ⟨⟨some 4, (.mov (.t 8)), none⟩, {}⟩] none) slices_Contains_int_int_C3)
def slices_Contains_int_int_C1 : TC := (.seq (.rg [⟨⟨some 4, (.mov (.c (B false))), none⟩, {}⟩] none) slices_Contains_int_int_C2)
def slices_Contains_int_int_E (N : Nat) : List (Nat × Ent) := [(45, pureE [(.list (.int .i64)), (.int .i64)] [(.int .i64)] (fun x => slices_Index_int_int N x.1 x.2))]
def slices_Contains_int_int (N : Nat) (a0 : List Int) (a1 : Int) : Option Bool :=
  Option.bind (slices_Index_int_int N a0 a1) fun r1 =>
  some (decide (r1 ≥ 0))
theorem slices_Contains_int_int_fn : FnOK Try.prog 33 9 (fun _ : Nat => false) slices_Contains_int_int_C1.er [(.t 4)] := FnOK.mk' Try.func33 (by kernel_rfl) (by kernel_rfl) (by kernel_rfl) (by kernel_rfl) (by kernel_rfl)
theorem slices_Contains_int_int_envok (N : Nat) : EnvOK Try.prog (slices_Contains_int_int_E N) := .cons (pureE_ok (slices_Index_int_int_pure N)) (.nil)
theorem slices_Contains_int_int_pure (N : Nat) : PureOK Try.prog 33 [(.list (.int .i64)), (.int .i64)] [.bool] (fun x => slices_Contains_int_int N x.1 x.2) := pureOK (N := N) mixed slices_Contains_int_int_fn (slices_Contains_int_int_envok N) rfl (fun x => by kernel_rfl)
/-! sightings_follows -/
def sightings_follows_C3 : TC := .ret
def sightings_follows_C2 : TC := (.seq (.rg [⟨⟨some 7, (.fadr 1 (.t 5)), none⟩, {}⟩, ⟨⟨some 8, (.load false 1 (.t 7)), none⟩, {}⟩, ⟨⟨some 9, (.fadr 1 (.t 4)), none⟩, {}⟩, ⟨⟨some 10, (.load false 1 (.t 9)), none⟩, {}⟩, ⟨⟨some 11, (.bin .add (.t 10) (.c (I 1))), none⟩, {}⟩, ⟨⟨some 12, (.bin .rem (.t 11) (.c (I 65536))), none⟩, {}⟩,
  ⟨⟨some 13, (.bin .eql (.t 8) (.t 12)), none⟩, {}⟩, ⟨⟨some 14, (.mov (.t 13)), none⟩, {}⟩, ⟨⟨some 15, (.fadr 2 (.t 5)), some (14, true)⟩, {}⟩, ⟨⟨some 16, (.load false 1 (.t 15)), some (14, true)⟩, {}⟩, ⟨⟨some 17, (.fadr 2 (.t 4)), some (14, true)⟩, {}⟩, ⟨⟨some 18, (.load false 1 (.t 17)), some (14,
  true)⟩, {}⟩, ⟨⟨some 19, (.bin .geq (.t 16) (.t 18)), some (14, true)⟩, {}⟩, ⟨⟨some 20, (.pick (.t 14) (.t 19) (.c (B false))), none⟩, {}⟩, ⟨⟨some 21, (.mov (.t 20)), none⟩, {}⟩, ⟨⟨some 22, (.fadr 2 (.t 5)), some (21, true)⟩, {}⟩, ⟨⟨some 23, (.load false 1 (.t 22)), some (21, true)⟩, {}⟩, ⟨⟨some 24,
  (.fadr 2 (.t 4)), some (21, true)⟩, {}⟩, ⟨⟨some 25, (.load false 1 (.t 24)), some (21, true)⟩, {}⟩, ⟨⟨some 26, (.bin .sub (.t 23) (.t 25)), some (21, true)⟩, {}⟩, ⟨⟨some 27, (.fadr 1 (.t 3)), some (21, true)⟩, {}⟩, ⟨⟨some 28, (.load false 1 (.t 27)), some (21, true)⟩, {}⟩, ⟨⟨some 29, (.fadr 3 (.t
  3)), some (21, true)⟩, {}⟩, ⟨⟨some 30, (.load false 1 (.t 29)), some (21, true)⟩, {}⟩, ⟨⟨some 31, (.bin .mul (.c (I 2)) (.t 30)), some (21, true)⟩, {}⟩, ⟨⟨some 32, (.bin .add (.t 28) (.t 31)), some (21, true)⟩, {}⟩, ⟨⟨some 33, (.bin .leq (.t 26) (.t 32)), some (21, true)⟩, {}⟩, ⟨⟨some 34, (.pick
  (.t 21) (.t 33) (.c (B false))), none⟩, {}⟩, ⟨⟨some 6, (.mov (.t 34)), none⟩, {}⟩] none) sightings_follows_C3)
def sightings_follows_C1 : TC := (.seq (.rg [⟨⟨some 3, (.box (.t 0)), none⟩, {}⟩, ⟨⟨some 4, (.box (.t 1)), none⟩, {}⟩, ⟨⟨some 5, (.box (.t 2)), none⟩, {}⟩, ⟨⟨some 6, (.mov (.c (B false))), none⟩, {}⟩] none) sightings_follows_C2)
def sightings_follows_E (N : Nat) : List (Nat × Ent) := []
def sightings_follows (N : Nat) (a0 : T_TagReader) (a1 : T_Report) (a2 : T_Report) : Option Bool :=
  bif (a2.2.1 == ((W (a1.2.1 + 1)).tmod 65536)) then
    bif (decide (a2.2.2.1 ≥ a1.2.2.1)) then
      some (decide ((W (a2.2.2.1 - a1.2.2.1)) ≤ (W (a0.2.1 + (W (2 * a0.2.2.2))))))
    else
      some false
  else
    some false
theorem sightings_follows_fn : FnOK Try.prog 34 35 (fun _ : Nat => false) sightings_follows_C1.er [(.t 6)] := FnOK.mk' Try.func34 (by kernel_rfl) (by kernel_rfl) (by kernel_rfl) (by kernel_rfl) (by kernel_rfl)
theorem sightings_follows_envok (N : Nat) : EnvOK Try.prog (sightings_follows_E N) := .nil
theorem sightings_follows_pure (N : Nat) : PureOK Try.prog 34 [G_TagReader, G_Report, G_Report] [.bool] (fun x => sightings_follows N x.1 x.2.1 x.2.2) := pureOK (N := N) mixed sightings_follows_fn (sightings_follows_envok N) rfl (fun x => by kernel_rfl)
/-! slices_IndexFunc_api_Report_api_Report_S1 -/
def slices_IndexFunc_api_Report_api_Report_S1_NE : List NS := [.keep [4], .out []]
def slices_IndexFunc_api_Report_api_Report_S1_N1 : List NS := [.wk 0 (.list G_Report), .keep [0, 1, 7, 8], .cmp]
def slices_IndexFunc_api_Report_api_Report_S1_C14 : TC := .ret
def slices_IndexFunc_api_Report_api_Report_S1_C13 : TC := (.pre [.keep [4], .out []] slices_IndexFunc_api_Report_api_Report_S1_C14)
def slices_IndexFunc_api_Report_api_Report_S1_C12 : TC := (.cond (.t 16) (.seq (.rg [⟨⟨some 17, (.mov (.t 5)), none⟩, {}⟩, ⟨⟨some 4, (.mov (.t 17)), none⟩, {}⟩] none) slices_IndexFunc_api_Report_api_Report_S1_C13) .skip)
def slices_IndexFunc_api_Report_api_Report_S1_C10 : TC := (.seq (.rg [⟨⟨some 11, (.mov (.t 1)), none⟩, {}⟩, ⟨⟨some 12, (.mov (.t 0)), none⟩, {}⟩, ⟨⟨some 13, (.mov (.t 5)), none⟩, {}⟩, ⟨⟨some 14, (.iadrS 4 (.t 12) (.t 13)), none⟩, {}⟩, ⟨⟨some 15, (.load true 4 (.t 14)), none⟩, {}⟩, ⟨⟨some 16, (.call (.t 11) [(.t 15)]), none⟩, {}⟩] none)
  slices_IndexFunc_api_Report_api_Report_S1_C12)
def slices_IndexFunc_api_Report_api_Report_S1_C11 : TC := (.rg [⟨⟨some 18, (.bin .add (.t 8) (.c (I 1))), none⟩, {}⟩, ⟨⟨some 8, (.mov (.t 18)), none⟩, {}⟩] none)
def slices_IndexFunc_api_Report_api_Report_S1_C7 : TC := (.seq (.block 1 (.seq (.rg [⟨⟨some 10, (.mov (.t 8)), none⟩, {}⟩, ⟨⟨some 5, (.mov (.t 10)), none⟩, {}⟩] none) slices_IndexFunc_api_Report_api_Report_S1_C10)) slices_IndexFunc_api_Report_api_Report_S1_C11)
def slices_IndexFunc_api_Report_api_Report_S1_C4 : TC := (.seq (.cond (.t 9) .skip (.exit 0)) slices_IndexFunc_api_Report_api_Report_S1_C7)
def slices_IndexFunc_api_Report_api_Report_S1_C1 : TC := (.seq (.rg [⟨⟨some 9, (.bin .lss (.t 8) (.t 7)), none⟩, {}⟩] none) slices_IndexFunc_api_Report_api_Report_S1_C4)
def slices_IndexFunc_api_Report_api_Report_S1_C8 : TC := .ret
def slices_IndexFunc_api_Report_api_Report_S1_C5 : TC := (.pre [.keep [4], .out []] slices_IndexFunc_api_Report_api_Report_S1_C8)
def slices_IndexFunc_api_Report_api_Report_S1_C2 : TC := (.seq (.rg [⟨⟨some 4, (.mov (.c (I (-1)))), none⟩, {}⟩] none) slices_IndexFunc_api_Report_api_Report_S1_C5)
def slices_IndexFunc_api_Report_api_Report_S1_C9 : TC := (.block 0 (.loop slices_IndexFunc_api_Report_api_Report_S1_N1 slices_IndexFunc_api_Report_api_Report_S1_C1))
def slices_IndexFunc_api_Report_api_Report_S1_C6 : TC := (.seq (.seq (.rg [⟨⟨some 6, (.mov (.t 0)), none⟩, {}⟩, ⟨⟨some 7, (.len (.t 6)), none⟩, {}⟩, ⟨⟨some 8, (.mov (.c (I 0))), none⟩, {}⟩] none) slices_IndexFunc_api_Report_api_Report_S1_C9) slices_IndexFunc_api_Report_api_Report_S1_C2)
def slices_IndexFunc_api_Report_api_Report_S1_C3 : TC := (.seq (.rg [⟨⟨some 4, (.mov (.c (I 0))), none⟩, {}⟩] none) slices_IndexFunc_api_Report_api_Report_S1_C6)
def slices_IndexFunc_api_Report_api_Report_S1_E (N : Nat) : List (Nat × Ent) := [(29, pureE [G_Report] [.bool] (fun x => sightings_Absences_1 N x))]
def slices_IndexFunc_api_Report_api_Report_S1_L1 (N : Nat) (n : Nat) (x1 : List T_Report) (x2 : Int) (x3 : Int) : Option (Int × Unit) := loopN (normI 0 slices_IndexFunc_api_Report_api_Report_S1_N1) (run (slices_IndexFunc_api_Report_api_Report_S1_E N) N 0 slices_IndexFunc_api_Report_api_Report_S1_C1) n ⟨[(0, .lst false G_Report x1), (1, .fn 29 []), (7, .int .i64 x2), (8, .int .i64 x3)], []⟩ (blkK 0 (seqK (run (slices_IndexFunc_api_Report_api_Report_S1_E N) N 0 slices_IndexFunc_api_Report_api_Report_S1_C2) (finS slices_IndexFunc_api_Report_api_Report_S1_NE [(.t 4)] [.v (.list G_Report)] [.v (.int .i64)] 0 0)))
theorem slices_IndexFunc_api_Report_api_Report_S1_L1_zero (N : Nat) (x1 : List T_Report) (x2 : Int) (x3 : Int) : slices_IndexFunc_api_Report_api_Report_S1_L1 N 0 x1 x2 x3 = none := rfl
theorem slices_IndexFunc_api_Report_api_Report_S1_L1_succ (N : Nat) (n1 : Nat) (x1 : List T_Report) (x2 : Int) (x3 : Int) : slices_IndexFunc_api_Report_api_Report_S1_L1 N (n1 + 1) x1 x2 x3 =
  bif (decide (x3 < x2)) then
    bif inB x3 x1.length then
    Option.bind (sightings_Absences_1 N (x1.getD x3.toNat D_Report)) fun r5 =>
    bif r5 then
      some (x3, ())
    else
      slices_IndexFunc_api_Report_api_Report_S1_L1 N n1 x1 x2 (W (x3 + 1))
    else none
  else
    some ((-1), ()) := by kernel_rfl
def slices_IndexFunc_api_Report_api_Report_S1 (N : Nat) (a0 : List T_Report) : Option (Int × Unit) :=
  slices_IndexFunc_api_Report_api_Report_S1_L1 N N a0 (a0.length : Int) 0
theorem slices_IndexFunc_api_Report_api_Report_S1_fn : FnOK Try.prog 44 19 (fun _ : Nat => false) slices_IndexFunc_api_Report_api_Report_S1_C3.er [(.t 4)] := FnOK.mk' Try.func44 (by kernel_rfl) (by kernel_rfl) (by kernel_rfl) (by kernel_rfl) (by kernel_rfl)
theorem slices_IndexFunc_api_Report_api_Report_S1_envok (N : Nat) : EnvOK Try.prog (slices_IndexFunc_api_Report_api_Report_S1_E N) := .cons (pureE_ok (sightings_Absences_1_pure N)) (.nil)
theorem slices_IndexFunc_api_Report_api_Report_S1_sf (N : Nat) : SFOK Try.prog 44 [none, some (29, 0)] [.v (.list G_Report)] [.v (.int .i64)] (fun x => slices_IndexFunc_api_Report_api_Report_S1 N x) := sfOK (N := N) (p := 0) (q := 0) (ns := slices_IndexFunc_api_Report_api_Report_S1_NE) mixed slices_IndexFunc_api_Report_api_Report_S1_fn (slices_IndexFunc_api_Report_api_Report_S1_envok N) rfl rfl rfl (fun x => by kernel_rfl)
/-! slices_ContainsFunc_api_Report_api_Report_S1 -/
def slices_ContainsFunc_api_Report_api_Report_S1_NE : List NS := [.keep [4], .out []]
def slices_ContainsFunc_api_Report_api_Report_S1_C4 : TC := .ret
def slices_ContainsFunc_api_Report_api_Report_S1_C3 : TC := (.pre [.keep [4], .out []] slices_ContainsFunc_api_Report_api_Report_S1_C4)
def slices_ContainsFunc_api_Report_api_Report_S1_C2 : TC := (.seq (.rg [⟨⟨some 5, (.mov (.t 0)), none⟩, {}⟩, ⟨⟨some 6, (.mov (.t 1)), none⟩, {}⟩, ⟨⟨some 7, (.call (.c (.fn 44 [])) [(.t 5), (.t 6)]), none⟩, {}⟩, ⟨⟨some 8, (.bin .geq (.t 7) (.c (I 0))), none⟩, {}⟩, ⟨⟨some 4, (.mov (.t 8)), none⟩, {}⟩] none) slices_ContainsFunc_api_Report_api_Report_S1_C3)
def slices_ContainsFunc_api_Report_api_Report_S1_C1 : TC := (.seq (.rg [⟨⟨some 4, (.mov (.c (B false))), none⟩, {}⟩] none) slices_ContainsFunc_api_Report_api_Report_S1_C2)
def slices_ContainsFunc_api_Report_api_Report_S1_E (N : Nat) : List (Nat × Ent) := [(44, sfE [none, some (29, 0)] [.v (.list G_Report)] [.v (.int .i64)] (fun x => slices_IndexFunc_api_Report_api_Report_S1 N x))]
def slices_ContainsFunc_api_Report_api_Report_S1 (N : Nat) (a0 : List T_Report) : Option (Bool × Unit) :=
  Option.bind (slices_IndexFunc_api_Report_api_Report_S1 N a0) fun r1 =>
  some ((decide (r1.1 ≥ 0)), ())
theorem slices_ContainsFunc_api_Report_api_Report_S1_fn : FnOK Try.prog 28 9 (fun _ : Nat => false) slices_ContainsFunc_api_Report_api_Report_S1_C1.er [(.t 4)] := FnOK.mk' Try.func28 (by kernel_rfl) (by kernel_rfl) (by kernel_rfl) (by kernel_rfl) (by kernel_rfl)
theorem slices_ContainsFunc_api_Report_api_Report_S1_envok (N : Nat) : EnvOK Try.prog (slices_ContainsFunc_api_Report_api_Report_S1_E N) := .cons (sfE_ok (slices_IndexFunc_api_Report_api_Report_S1_sf N)) (.nil)
theorem slices_ContainsFunc_api_Report_api_Report_S1_sf (N : Nat) : SFOK Try.prog 28 [none, some (29, 0)] [.v (.list G_Report)] [.v .bool] (fun x => slices_ContainsFunc_api_Report_api_Report_S1 N x) := sfOK (N := N) (p := 0) (q := 0) (ns := slices_ContainsFunc_api_Report_api_Report_S1_NE) mixed slices_ContainsFunc_api_Report_api_Report_S1_fn (slices_ContainsFunc_api_Report_api_Report_S1_envok N) rfl rfl rfl (fun x => by kernel_rfl)
/-! sightings_Absences -/
def sightings_Absences_NE : List NS := [.own 8 G_Absence, .keep [8, 9], .out []]
def sightings_Absences_N1 : List NS := [.ownc 12 0 G_Report, .ownc 11 0 G_Absence, .wk 42 (.list G_Report), .keep [5, 6, 10, 11, 12, 13, 42, 43, 44], .cmp]
def sightings_Absences_C18 : TC := (.cond (.t 51) (.exit 2) .skip)
def sightings_Absences_C30 : TC := (.rg [⟨⟨some 56, (.mov (.t 13)), none⟩, {}⟩, ⟨⟨some 57, (.call (.t 56) []), none⟩, {}⟩] none)
def sightings_Absences_C31 : TC := (.exit 2)
def sightings_Absences_C24 : TC := (.cond (.t 55) (.seq (.pre [.ownc 12 0 G_Report, .ownc 11 0 G_Absence] sightings_Absences_C30) sightings_Absences_C31) .skip)
def sightings_Absences_C40 : TC := (.rg [⟨⟨some 73, (.mov (.t 13)), none⟩, {}⟩, ⟨⟨some 74, (.call (.t 73) []), none⟩, {}⟩] none)
def sightings_Absences_C37 : TC := (.cond (.t 72) (.pre [.ownc 12 0 G_Report, .ownc 11 0 G_Absence] sightings_Absences_C40) .skip)
def sightings_Absences_C32 : TC := (.seq (.rg [⟨⟨some 60, (.mov (.t 16)), none⟩, {}⟩, ⟨⟨some 61, (.bin .gtr (.t 60) (.c (I 0))), none⟩, {}⟩, ⟨⟨some 62, (.mov (.t 61)), none⟩, {}⟩, ⟨⟨some 63, (.load true 4 (.t 10)), some (62, true)⟩, {}⟩, ⟨⟨some 64, (.load false 1 (.t 12)), some (62, true)⟩, {}⟩, ⟨⟨some 65, (.mov (.t 16)), some (62,
  true)⟩, {}⟩, ⟨⟨some 66, (.bin .sub (.t 65) (.c (I 1))), some (62, true)⟩, {}⟩, ⟨⟨some 67, (.iadrS 4 (.t 64) (.t 66)), some (62, true)⟩, {}⟩, ⟨⟨some 68, (.load true 4 (.t 67)), some (62, true)⟩, {}⟩, ⟨⟨some 69, (.load true 4 (.t 15)), some (62, true)⟩, {}⟩, ⟨⟨some 70, (.call (.c (.fn 34 [])) [(.t
  63), (.t 68), (.t 69)]), some (62, true)⟩, {}⟩, ⟨⟨some 71, (.un .not (.t 70)), some (62, true)⟩, {}⟩, ⟨⟨some 72, (.pick (.t 62) (.t 71) (.c (B false))), none⟩, {}⟩] (some [])) sightings_Absences_C37)
def sightings_Absences_C33 : TC := (.rg [⟨⟨some 75, (.load false 1 (.t 12)), none⟩, {}⟩, ⟨⟨some 76, (.load true 4 (.t 15)), none⟩, {}⟩, ⟨⟨some 77, (.bslice false 4 [(I 0), (I 0), (I 0), (.lst true [])] 1 [(0, (.t 76))]), none⟩, ⟨G_Report, none⟩⟩, ⟨⟨some 78, (.app 4 48 (.t 75) (.t 77)), none⟩, {}⟩, ⟨⟨none, (.store 1 (.t 12) (.t 78)),
  none⟩, {}⟩] none)
def sightings_Absences_C25 : TC := (.seq (.seq (.rg [⟨⟨some 58, (.load false 1 (.t 12)), none⟩, {}⟩, ⟨⟨some 59, (.len (.t 58)), none⟩, {}⟩, ⟨⟨some 16, (.mov (.t 59)), none⟩, {}⟩] none) sightings_Absences_C32) sightings_Absences_C33)
def sightings_Absences_C19 : TC := (.seq (.seq (.rg [⟨⟨some 52, (.fadr 3 (.t 15)), none⟩, {}⟩, ⟨⟨some 53, (.load false 1 (.t 52)), none⟩, {}⟩, ⟨⟨some 54, (.load false 1 (.t 6)), none⟩, {}⟩, ⟨⟨some 55, (.call (.c (.fn 33 [])) [(.t 53), (.t 54)]), none⟩, {}⟩] none) sightings_Absences_C24) sightings_Absences_C25)
def sightings_Absences_C12 : TC := (.seq (.seq (.rg [⟨⟨some 48, (.fadr 0 (.t 15)), none⟩, {}⟩, ⟨⟨some 49, (.load false 1 (.t 48)), none⟩, {}⟩, ⟨⟨some 50, (.load false 1 (.t 5)), none⟩, {}⟩, ⟨⟨some 51, (.bin .neq (.t 49) (.t 50)), none⟩, {}⟩] none) sightings_Absences_C18) sightings_Absences_C19)
def sightings_Absences_C13 : TC := (.rg [⟨⟨some 79, (.bin .add (.t 44) (.c (I 1))), none⟩, {}⟩, ⟨⟨some 44, (.mov (.t 79)), none⟩, {}⟩] none)
def sightings_Absences_C8 : TC := (.seq (.block 2 (.seq (.rg [⟨⟨some 46, (.iadrS 4 (.t 42) (.t 44)), none⟩, {}⟩, ⟨⟨some 47, (.load true 4 (.t 46)), none⟩, {}⟩, ⟨⟨some 15, (.alloc [(I 0), (I 0), (I 0), (.lst true [])]), none⟩, {}⟩, ⟨⟨none, (.store 4 (.t 15) (.t 47)), none⟩, {}⟩] none) sightings_Absences_C12)) sightings_Absences_C13)
def sightings_Absences_C4 : TC := (.seq (.cond (.t 45) .skip (.exit 1)) sightings_Absences_C8)
def sightings_Absences_C1 : TC := (.seq (.rg [⟨⟨some 45, (.bin .lss (.t 44) (.t 43)), none⟩, {}⟩] none) sightings_Absences_C4)
def sightings_Absences_C5 : TC := (.rg [⟨⟨some 80, (.mov (.t 13)), none⟩, {}⟩, ⟨⟨some 81, (.call (.t 80) []), none⟩, {}⟩] none)
def sightings_Absences_C14 : TC := .ret
def sightings_Absences_C9 : TC := (.pre [.own 8 G_Absence, .keep [8, 9], .out []] sightings_Absences_C14)
def sightings_Absences_C6 : TC := (.seq (.rg [⟨⟨some 82, (.load false 1 (.t 11)), none⟩, {}⟩, ⟨⟨some 8, (.mov (.t 82)), none⟩, {}⟩, ⟨⟨some 9, (.mov (.c (I 0))), none⟩, {}⟩] none) sightings_Absences_C9)
def sightings_Absences_C2 : TC := (.seq (.pre [.ownc 12 0 G_Report, .ownc 11 0 G_Absence] sightings_Absences_C5) sightings_Absences_C6)
def sightings_Absences_C20 : TC := .ret
def sightings_Absences_C15 : TC := (.pre [.own 8 G_Absence, .keep [8, 9], .out []] sightings_Absences_C20)
def sightings_Absences_C26 : TC := .ret
def sightings_Absences_C21 : TC := (.pre [.own 8 G_Absence, .keep [8, 9], .out []] sightings_Absences_C26)
def sightings_Absences_C34 : TC := .ret
def sightings_Absences_C27 : TC := (.pre [.own 8 G_Absence, .keep [8, 9], .out []] sightings_Absences_C34)
def sightings_Absences_C38 : TC := .ret
def sightings_Absences_C35 : TC := (.pre [.own 8 G_Absence, .keep [8, 9], .out []] sightings_Absences_C38)
def sightings_Absences_C28 : TC := (.cond (.t 33) (.seq (.rg [⟨⟨some 8, (.mov (.c (.lst true []))), none⟩, {}⟩, ⟨⟨some 9, (.mov (.c (I 41))), none⟩, {}⟩] none) sightings_Absences_C35) .skip)
def sightings_Absences_C22 : TC := (.cond (.t 24) (.seq (.rg [⟨⟨some 8, (.mov (.c (.lst true []))), none⟩, {}⟩, ⟨⟨some 9, (.mov (.c (I 40))), none⟩, {}⟩] none) sightings_Absences_C27) (.seq (.rg [⟨⟨some 34, (.load false 1 (.t 6)), none⟩, {}⟩, ⟨⟨some 35, (.call (.c (.fn 31 [])) [(.t 34), (.c (I 1)), (.c (I 65535))]), none⟩, {}⟩, ⟨⟨some
  36, (.un .not (.t 35)), none⟩, {}⟩, ⟨⟨some 33, (.mov (.t 36)), none⟩, {}⟩] none) sightings_Absences_C28))
def sightings_Absences_C16 : TC := (.cond (.t 21) (.seq (.rg [⟨⟨some 8, (.mov (.c (.lst true []))), none⟩, {}⟩, ⟨⟨some 9, (.mov (.c (I 6))), none⟩, {}⟩] none) sightings_Absences_C21) (.seq (.rg [⟨⟨some 25, (.load false 1 (.t 5)), none⟩, {}⟩, ⟨⟨some 26, (.bin .lss (.t 25) (.c (I 0))), none⟩, {}⟩, ⟨⟨some 27, (.mov (.t 26)), none⟩, {}⟩,
  ⟨⟨some 28, (.load false 1 (.t 5)), some (27, false)⟩, {}⟩, ⟨⟨some 29, (.mov (.t 0)), some (27, false)⟩, {}⟩, ⟨⟨some 30, (.len (.t 29)), some (27, false)⟩, {}⟩, ⟨⟨some 31, (.bin .geq (.t 28) (.t 30)), some (27, false)⟩, {}⟩, ⟨⟨some 32, (.pick (.t 27) (.c (B true)) (.t 31)), none⟩, {}⟩, ⟨⟨some 24,
  (.mov (.t 32)), none⟩, {}⟩] none) sightings_Absences_C22))
def sightings_Absences_C10 : TC := (.cond (.t 17) (.seq (.rg [⟨⟨some 8, (.mov (.c (.lst true []))), none⟩, {}⟩, ⟨⟨some 9, (.mov (.c (I 2))), none⟩, {}⟩] none) sightings_Absences_C15) (.seq (.rg [⟨⟨some 22, (.mov (.t 3)), none⟩, {}⟩, ⟨⟨some 23, (.call (.c (.fn 28 [])) [(.t 22), (.c (.fn 29 []))]), none⟩, {}⟩, ⟨⟨some 21, (.mov (.t 23)),
  none⟩, {}⟩] none) sightings_Absences_C16))
def sightings_Absences_C39 : TC := (.block 1 (.loop sightings_Absences_N1 sightings_Absences_C1))
def sightings_Absences_C36 : TC := (.seq (.seq (.rg [⟨⟨some 42, (.mov (.t 3)), none⟩, {}⟩, ⟨⟨some 43, (.len (.t 42)), none⟩, {}⟩, ⟨⟨some 44, (.mov (.c (I 0))), none⟩, {}⟩] none) sightings_Absences_C39) sightings_Absences_C2)
def sightings_Absences_C29 : TC := (.seq (.rg [⟨⟨some 41, (.mkfn 32 [(.t 12), (.t 10), (.t 11), (.t 5), (.t 6)]), none⟩, {}⟩, ⟨⟨some 13, (.mov (.t 41)), none⟩, {}⟩] none) sightings_Absences_C36)
def sightings_Absences_C23 : TC := (.seq (.rg [⟨⟨some 12, (.alloc [(.lst true [])]), none⟩, {}⟩] none) sightings_Absences_C29)
def sightings_Absences_C17 : TC := (.seq (.rg [⟨⟨some 11, (.alloc [(.lst true [])]), none⟩, {}⟩] none) sightings_Absences_C23)
def sightings_Absences_C11 : TC := (.seq (.rg [⟨⟨some 37, (.mov (.t 0)), none⟩, {}⟩, ⟨⟨some 38, (.load false 1 (.t 5)), none⟩, {}⟩, ⟨⟨some 39, (.iadrS 4 (.t 37) (.t 38)), none⟩, {}⟩, ⟨⟨some 40, (.load true 4 (.t 39)), none⟩, {}⟩, ⟨⟨some 10, (.alloc [(.lst true []), (I 0), (I 0), (I 0)]), none⟩, {}⟩, ⟨⟨none, (.store 4 (.t 10) (.t 40)),
  none⟩, {}⟩] none) sightings_Absences_C17)
def sightings_Absences_C7 : TC := (.seq (.block 0 (.seq (.rg [⟨⟨some 18, (.mov (.t 3)), none⟩, {}⟩, ⟨⟨some 19, (.len (.t 18)), none⟩, {}⟩, ⟨⟨some 20, (.bin .gtr (.t 19) (.c (I 400))), none⟩, {}⟩, ⟨⟨some 17, (.mov (.t 20)), none⟩, {}⟩] none) sightings_Absences_C10)) sightings_Absences_C11)
def sightings_Absences_C3 : TC := (.seq (.rg [⟨⟨some 5, (.box (.t 1)), none⟩, {}⟩, ⟨⟨some 6, (.box (.t 2)), none⟩, {}⟩, ⟨⟨some 8, (.mov (.c (.lst true []))), none⟩, {}⟩, ⟨⟨some 9, (.mov (.c (I 0))), none⟩, {}⟩] none) sightings_Absences_C7)
def sightings_Absences_E (N : Nat) : List (Nat × Ent) := [(28, sfE [none, some (29, 0)] [.v (.list G_Report)] [.v .bool] (fun x => slices_ContainsFunc_api_Report_api_Report_S1 N x)), (31, pureE [(.int .i64), (.int .i64), (.int .i64)] [.bool] (fun x => lists_In N x.1 x.2.1 x.2.2)), (33, pureE [(.list (.int .i64)), (.int .i64)] [.bool] (fun x => slices_Contains_int_int N x.1 x.2)), (32, sfE [none, none, none, none, none] [.b (.a G_Report), .b (.v G_TagReader), .b (.a G_Absence), .b (.v (.int .i64)), .b (.v (.int .i64))] [] (fun x => sightings_Absences_2 N x.1 x.2.1 x.2.2.1 x.2.2.2.1 x.2.2.2.2)), (34, pureE [G_TagReader, G_Report, G_Report] [.bool] (fun x => sightings_follows N x.1 x.2.1 x.2.2))]
def sightings_Absences_L1 (N : Nat) (n : Nat) (x4 : List T_Report) (x5 : Int) (x6 : Int) (x7 : Int) (x8 : Int) (x9 : List Int) (x10 : Int) (x11 : Int) (x12 : Int) (x13 : List T_Absence) (x14 : List T_Report) : Option (((List T_Absence) × Int) × Unit) := loopN (normI 0 sightings_Absences_N1) (run (sightings_Absences_E N) N 0 sightings_Absences_C1) n ⟨[(5, .ptr 0 0 0), (6, .ptr 1 0 0), (10, .ptr 2 0 0), (11, .ptr 3 0 0), (12, .ptr 4 0 0), (13, .fn 32 [.ptr 4 0 0, .ptr 2 0 0, .ptr 3 0 0, .ptr 0 0 0, .ptr 1 0 0]), (42, .lst false G_Report x4), (43, .int .i64 x5), (44, .int .i64 x6)], [some (.box 0 [.int .i64 x7]), some (.box 0 [.int .i64 x8]), some (.box 0 [.lst false (.int .i64) x9, .int .i64 x10, .int .i64 x11, .int .i64 x12]), some (.box 0 [.whole 5]), some (.box 0 [.whole 6]), some (.arr G_Absence x13), some (.arr G_Report x14)]⟩ (blkK 1 (seqK (run (sightings_Absences_E N) N 0 sightings_Absences_C2) (finS sightings_Absences_NE [(.t 8), (.t 9)] [.v (.list G_TagReader), .v (.int .i64), .v (.int .i64), .v (.list G_Report)] [.o (.a G_Absence), .v (.int .i64)] 0 0)))
theorem sightings_Absences_L1_zero (N : Nat) (x4 : List T_Report) (x5 : Int) (x6 : Int) (x7 : Int) (x8 : Int) (x9 : List Int) (x10 : Int) (x11 : Int) (x12 : Int) (x13 : List T_Absence) (x14 : List T_Report) : sightings_Absences_L1 N 0 x4 x5 x6 x7 x8 x9 x10 x11 x12 x13 x14 = none := rfl
theorem sightings_Absences_L1_succ (N : Nat) (n1 : Nat) (x4 : List T_Report) (x5 : Int) (x6 : Int) (x7 : Int) (x8 : Int) (x9 : List Int) (x10 : Int) (x11 : Int) (x12 : Int) (x13 : List T_Absence) (x14 : List T_Report) : sightings_Absences_L1 N (n1 + 1) x4 x5 x6 x7 x8 x9 x10 x11 x12 x13 x14 =
  bif (decide (x6 < x5)) then
    bif inB x6 x4.length then
    let v15 := x4.getD x6.toNat D_Report
    bif (v15.1 != x7) then
      sightings_Absences_L1 N n1 x4 x5 (W (x6 + 1)) x7 x8 x9 x10 x11 x12 x13 x14
    else
      Option.bind (slices_Contains_int_int N v15.2.2.2 x8) fun r27 =>
      bif r27 then
        Option.bind (sightings_Absences_2 N x14 (x9, (x10, (x11, x12))) x13 x7 x8) fun r28 =>
        sightings_Absences_L1 N n1 x4 x5 (W (x6 + 1)) r28.2.2.2.2.1 r28.2.2.2.2.2 r28.2.2.1.1 r28.2.2.1.2.1 r28.2.2.1.2.2.1 r28.2.2.1.2.2.2 r28.2.2.2.1 r28.2.1
      else
        bif (decide ((x14.length : Int) > 0)) then
          let v40 := W ((x14.length : Int) - 1)
          bif inB v40 x14.length then
          Option.bind (sightings_follows N (x9, (x10, (x11, x12))) (x14.getD v40.toNat D_Report) v15) fun r42 =>
          bif (!r42) then
            Option.bind (sightings_Absences_2 N x14 (x9, (x10, (x11, x12))) x13 x7 x8) fun r43 =>
            bif fitsB (r43.2.1.length + 1) 48 then
            sightings_Absences_L1 N n1 x4 x5 (W (x6 + 1)) r43.2.2.2.2.1 r43.2.2.2.2.2 r43.2.2.1.1 r43.2.2.1.2.1 r43.2.2.1.2.2.1 r43.2.2.1.2.2.2 r43.2.2.2.1 (r43.2.1 ++ [v15])
            else none
          else
            bif fitsB (x14.length + 1) 48 then
            sightings_Absences_L1 N n1 x4 x5 (W (x6 + 1)) x7 x8 x9 x10 x11 x12 x13 (x14 ++ [v15])
            else none
          else none
        else
          bif fitsB (x14.length + 1) 48 then
          sightings_Absences_L1 N n1 x4 x5 (W (x6 + 1)) x7 x8 x9 x10 x11 x12 x13 (x14 ++ [v15])
          else none
    else none
  else
    Option.bind (sightings_Absences_2 N x14 (x9, (x10, (x11, x12))) x13 x7 x8) fun r80 =>
    some ((r80.2.2.2.1, 0), ()) := by kernel_rfl
def sightings_Absences (N : Nat) (a0 : List T_TagReader) (a1 : Int) (a2 : Int) (a3 : List T_Report) : Option (((List T_Absence) × Int) × Unit) :=
  bif (decide ((a3.length : Int) > 400)) then
    some (([], 2), ())
  else
    Option.bind (slices_ContainsFunc_api_Report_api_Report_S1 N a3) fun r1 =>
    bif r1.1 then
      some (([], 6), ())
    else
      bif (decide (a1 < 0)) then
        some (([], 40), ())
      else
        bif (decide (a1 ≥ (a0.length : Int))) then
          some (([], 40), ())
        else
          Option.bind (lists_In N a2 1 65535) fun r2 =>
          bif (!r2) then
            some (([], 41), ())
          else
            bif inB a1 a0.length then
            let v3 := a0.getD a1.toNat D_TagReader
            sightings_Absences_L1 N N a3 (a3.length : Int) 0 a1 a2 v3.1 v3.2.1 v3.2.2.1 v3.2.2.2 [] []
            else none
theorem sightings_Absences_fn : FnOK Try.prog 18 83 (fun _ : Nat => false) sightings_Absences_C3.er [(.t 8), (.t 9)] := FnOK.mk' Try.func18 (by kernel_rfl) (by kernel_rfl) (by kernel_rfl) (by kernel_rfl) (by kernel_rfl)
theorem sightings_Absences_envok (N : Nat) : EnvOK Try.prog (sightings_Absences_E N) := .cons (sfE_ok (slices_ContainsFunc_api_Report_api_Report_S1_sf N)) (.cons (pureE_ok (lists_In_pure N)) (.cons (pureE_ok (slices_Contains_int_int_pure N)) (.cons (sfE_ok (sightings_Absences_2_sf N)) (.cons (pureE_ok (sightings_follows_pure N)) (.nil)))))
theorem sightings_Absences_sf (N : Nat) : SFOK Try.prog 18 [none, none, none, none] [.v (.list G_TagReader), .v (.int .i64), .v (.int .i64), .v (.list G_Report)] [.o (.a G_Absence), .v (.int .i64)] (fun x => sightings_Absences N x.1 x.2.1 x.2.2.1 x.2.2.2) := sfOK (N := N) (p := 0) (q := 0) (ns := sightings_Absences_NE) mixed sightings_Absences_fn (sightings_Absences_envok N) rfl rfl rfl (fun x => by kernel_rfl)
/-! sightings_Of -/
def sightings_Of_N1 : List NS := [.own 7 G_Absence, .wk 25 (.list (.int .i64)), .keep [3, 6, 7, 25, 26, 27], .cmp]
def sightings_Of_C11 : TC := (.rg [⟨⟨some 31, (.mov (.t 7)), none⟩, {}⟩, ⟨⟨some 32, (.fadr 0 (.t 3)), none⟩, {}⟩, ⟨⟨some 33, (.load false 1 (.t 32)), none⟩, {}⟩, ⟨⟨some 34, (.mov (.t 9)), none⟩, {}⟩, ⟨⟨some 35, (.fadr 2 (.t 3)), none⟩, {}⟩, ⟨⟨some 36, (.load false 1 (.t 35)), none⟩, {}⟩, ⟨⟨some 37, (.mov (.t 6)), none⟩, {}⟩,
  ⟨⟨some 38, (.bin .sub (.t 36) (.t 37)), none⟩, {}⟩, ⟨⟨some 39, (.mm true [(.c (I 0)), (.t 38)]), none⟩, {}⟩, ⟨⟨some 40, (.fadr 2 (.t 3)), none⟩, {}⟩, ⟨⟨some 41, (.load false 1 (.t 40)), none⟩, {}⟩, ⟨⟨some 42, (.mov (.t 6)), none⟩, {}⟩, ⟨⟨some 43, (.bin .add (.t 41) (.t 42)), none⟩, {}⟩, ⟨⟨some 44,
  (.build [(I 0), (I 0), (I 0), (I 0)] [(0, (1, (.t 33))), (1, (1, (.t 34))), (2, (1, (.t 39))), (3, (1, (.t 43)))]), none⟩, {}⟩, ⟨⟨some 45, (.bslice false 4 [(I 0), (I 0), (I 0), (I 0)] 1 [(0, (.t 44))]), none⟩, ⟨G_Absence, none⟩⟩, ⟨⟨some 46, (.app 4 32 (.t 31) (.t 45)), none⟩, {}⟩, ⟨⟨some 7, (.mov
  (.t 46)), none⟩, {}⟩] none)
def sightings_Of_C12 : TC := (.rg [⟨⟨some 47, (.bin .add (.t 27) (.c (I 1))), none⟩, {}⟩, ⟨⟨some 27, (.mov (.t 47)), none⟩, {}⟩] none)
def sightings_Of_C7 : TC := (.seq (.block 1 (.seq (.rg [⟨⟨some 29, (.iadrS 1 (.t 25) (.t 27)), none⟩, {}⟩, ⟨⟨some 30, (.load false 1 (.t 29)), none⟩, {}⟩, ⟨⟨some 9, (.mov (.t 30)), none⟩, {}⟩] none) sightings_Of_C11)) sightings_Of_C12)
def sightings_Of_C4 : TC := (.seq (.cond (.t 28) .skip (.exit 0)) sightings_Of_C7)
def sightings_Of_C1 : TC := (.seq (.rg [⟨⟨some 28, (.bin .lss (.t 27) (.t 26)), none⟩, {}⟩] none) sightings_Of_C4)
def sightings_Of_C13 : TC := .ret
def sightings_Of_C8 : TC := (.pre [.frz 4] sightings_Of_C13)
def sightings_Of_C5 : TC := (.seq (.rg [⟨⟨some 48, (.mov (.t 7)), none⟩, {}⟩, ⟨⟨some 4, (.mov (.t 48)), none⟩, {}⟩, ⟨⟨some 5, (.mov (.c (I 0))), none⟩, {}⟩] none) sightings_Of_C8)
def sightings_Of_C2 : TC := (.pre [.frz 7] sightings_Of_C5)
def sightings_Of_C17 : TC := .ret
def sightings_Of_C14 : TC := (.pre [.frz 4] sightings_Of_C17)
def sightings_Of_C9 : TC := (.cond (.t 12) (.seq (.rg [⟨⟨some 4, (.mov (.c (.lst true []))), none⟩, {}⟩, ⟨⟨some 5, (.mov (.c (I 6))), none⟩, {}⟩] none) sightings_Of_C14) .skip)
def sightings_Of_C20 : TC := .ret
def sightings_Of_C18 : TC := (.pre [.frz 4] sightings_Of_C20)
def sightings_Of_C15 : TC := (.cond (.t 17) (.seq (.rg [⟨⟨some 4, (.mov (.c (.lst true []))), none⟩, {}⟩, ⟨⟨some 5, (.mov (.c (I 40))), none⟩, {}⟩] none) sightings_Of_C18) .skip)
def sightings_Of_C22 : TC := (.block 0 (.loop sightings_Of_N1 sightings_Of_C1))
def sightings_Of_C21 : TC := (.seq (.seq (.rg [⟨⟨some 24, (.fadr 3 (.t 3)), none⟩, {}⟩, ⟨⟨some 25, (.load false 1 (.t 24)), none⟩, {}⟩, ⟨⟨some 26, (.len (.t 25)), none⟩, {}⟩, ⟨⟨some 27, (.mov (.c (I 0))), none⟩, {}⟩] none) sightings_Of_C22) sightings_Of_C2)
def sightings_Of_C19 : TC := (.seq (.rg [⟨⟨some 7, (.mov (.c (.lst true []))), none⟩, {}⟩] none) sightings_Of_C21)
def sightings_Of_C16 : TC := (.seq (.rg [⟨⟨some 18, (.mov (.t 0)), none⟩, {}⟩, ⟨⟨some 19, (.fadr 0 (.t 3)), none⟩, {}⟩, ⟨⟨some 20, (.load false 1 (.t 19)), none⟩, {}⟩, ⟨⟨some 21, (.iadrS 4 (.t 18) (.t 20)), none⟩, {}⟩, ⟨⟨some 22, (.fadr 3 (.t 21)), none⟩, {}⟩, ⟨⟨some 23, (.load false 1 (.t 22)), none⟩, {}⟩, ⟨⟨some 6, (.mov (.t
  23)), none⟩, {}⟩] none) sightings_Of_C19)
def sightings_Of_C10 : TC := (.seq (.seq (.rg [⟨⟨some 13, (.fadr 0 (.t 3)), none⟩, {}⟩, ⟨⟨some 14, (.load false 1 (.t 13)), none⟩, {}⟩, ⟨⟨some 15, (.mov (.t 0)), none⟩, {}⟩, ⟨⟨some 16, (.len (.t 15)), none⟩, {}⟩, ⟨⟨some 17, (.bin .geq (.t 14) (.t 16)), none⟩, {}⟩] none) sightings_Of_C15) sightings_Of_C16)
def sightings_Of_C6 : TC := (.seq (.seq (.rg [⟨⟨some 10, (.load true 4 (.t 3)), none⟩, {}⟩, ⟨⟨some 11, (.call (.c (.fn 30 [])) [(.t 10)]), none⟩, {}⟩, ⟨⟨some 12, (.un .not (.t 11)), none⟩, {}⟩] none) sightings_Of_C9) sightings_Of_C10)
def sightings_Of_C3 : TC := (.seq (.rg [⟨⟨some 3, (.box (.t 1)), none⟩, {}⟩, ⟨⟨some 4, (.mov (.c (.lst true []))), none⟩, {}⟩, ⟨⟨some 5, (.mov (.c (I 0))), none⟩, {}⟩] none) sightings_Of_C6)
def sightings_Of_E (N : Nat) : List (Nat × Ent) := [(30, pureE [G_Report] [.bool] (fun x => tags_Valid N x))]
def sightings_Of_L1 (N : Nat) (n : Nat) (x3 : Int) (x4 : List Int) (x5 : Int) (x6 : Int) (x7 : Int) (x8 : Int) (x9 : Int) (x10 : List Int) (x11 : List T_Absence) : Option ((List T_Absence) × Int) := loopN (normI 0 sightings_Of_N1) (run (sightings_Of_E N) N 0 sightings_Of_C1) n ⟨[(3, .ptr 0 0 0), (6, .int .i64 x3), (7, .whole 1), (25, .lst false (.int .i64) x4), (26, .int .i64 x5), (27, .int .i64 x6)], [some (.box 0 [.int .i64 x7, .int .i64 x8, .int .i64 x9, .lst false (.int .i64) x10]), some (.arr G_Absence x11)]⟩ (blkK 0 (seqK (run (sightings_Of_E N) N 0 sightings_Of_C2) (fin [(.t 4), (.t 5)] [(.list G_Absence), (.int .i64)])))
theorem sightings_Of_L1_zero (N : Nat) (x3 : Int) (x4 : List Int) (x5 : Int) (x6 : Int) (x7 : Int) (x8 : Int) (x9 : Int) (x10 : List Int) (x11 : List T_Absence) : sightings_Of_L1 N 0 x3 x4 x5 x6 x7 x8 x9 x10 x11 = none := rfl
theorem sightings_Of_L1_succ (N : Nat) (n1 : Nat) (x3 : Int) (x4 : List Int) (x5 : Int) (x6 : Int) (x7 : Int) (x8 : Int) (x9 : Int) (x10 : List Int) (x11 : List T_Absence) : sightings_Of_L1 N (n1 + 1) x3 x4 x5 x6 x7 x8 x9 x10 x11 =
  bif (decide (x6 < x5)) then
    bif inB x6 x4.length then
    bif fitsB (x11.length + 1) 32 then
    sightings_Of_L1 N n1 x3 x4 x5 (W (x6 + 1)) x7 x8 x9 x10 (x11 ++ [(x7, (x4.getD x6.toNat 0, (max 0 (W (x9 - x3)), W (x9 + x3))))])
    else none
    else none
  else
    some (x11, 0) := by kernel_rfl
def sightings_Of (N : Nat) (a0 : List T_TagReader) (a1 : T_Report) : Option ((List T_Absence) × Int) :=
  Option.bind (tags_Valid N a1) fun r1 =>
  bif (!r1) then
    some ([], 6)
  else
    bif (decide (a1.1 ≥ (a0.length : Int))) then
      some ([], 40)
    else
      bif inB a1.1 a0.length then
      sightings_Of_L1 N N (a0.getD a1.1.toNat D_TagReader).2.2.2 a1.2.2.2 (a1.2.2.2.length : Int) 0 a1.1 a1.2.1 a1.2.2.1 a1.2.2.2 []
      else none
theorem sightings_Of_fn : FnOK Try.prog 19 49 (fun _ : Nat => false) sightings_Of_C3.er [(.t 4), (.t 5)] := FnOK.mk' Try.func19 (by kernel_rfl) (by kernel_rfl) (by kernel_rfl) (by kernel_rfl) (by kernel_rfl)
theorem sightings_Of_envok (N : Nat) : EnvOK Try.prog (sightings_Of_E N) := .cons (pureE_ok (tags_Valid_pure N)) (.nil)
theorem sightings_Of_pure (N : Nat) : PureOK Try.prog 19 [(.list G_TagReader), G_Report] [(.list G_Absence), (.int .i64)] (fun x => sightings_Of N x.1 x.2) := pureOK (N := N) mixed sightings_Of_fn (sightings_Of_envok N) rfl (fun x => by kernel_rfl)
/-! law24_awake -/
def law24_awake_C6 : TC := .ret
def law24_awake_C5 : TC := (.seq (.rg [⟨⟨some 26, (.mov (.t 3)), none⟩, {}⟩, ⟨⟨some 27, (.bin .eql (.t 26) (.c (I 0))), none⟩, {}⟩, ⟨⟨some 28, (.mov (.t 27)), none⟩, {}⟩, ⟨⟨some 29, (.mov (.t 2)), some (28, true)⟩, {}⟩, ⟨⟨some 30, (.len (.t 29)), some (28, true)⟩, {}⟩, ⟨⟨some 31, (.bin .eql (.t 30) (.c (I 1))), some (28,
  true)⟩, {}⟩, ⟨⟨some 32, (.pick (.t 28) (.t 31) (.c (B false))), none⟩, {}⟩, ⟨⟨some 33, (.mov (.t 32)), none⟩, {}⟩, ⟨⟨some 34, (.mov (.t 2)), some (33, true)⟩, {}⟩, ⟨⟨some 35, (.iadrS 4 (.t 34) (.c (I 0))), some (33, true)⟩, {}⟩, ⟨⟨some 36, (.load true 4 (.t 35)), some (33, true)⟩, {}⟩, ⟨⟨some 37,
  (.build [(I 0), (I 0), (I 0), (I 0)] [(1, (1, (.c (I 9)))), (2, (1, (.c (I 101)))), (3, (1, (.c (I 119))))]), some (33, true)⟩, {}⟩, ⟨⟨some 38, (.eqa false [(0, 1), (1, 1), (2, 1), (3, 1)] (.t 36) (.t 37)), some (33, true)⟩, {}⟩, ⟨⟨some 39, (.pick (.t 33) (.t 38) (.c (B false))), none⟩, {}⟩, ⟨⟨some
  40, (.mov (.t 39)), none⟩, {}⟩, ⟨⟨some 41, (.load true 4 (.t 1)), some (40, true)⟩, {}⟩, ⟨⟨some 42, (.call (.c (.fn 15 [])) [(.t 41)]), some (40, true)⟩, {}⟩, ⟨⟨some 43, (.bin .eql (.t 42) (.c (I 30))), some (40, true)⟩, {}⟩, ⟨⟨some 44, (.pick (.t 40) (.t 43) (.c (B false))), none⟩, {}⟩, ⟨⟨some 45,
  (.mov (.t 44)), none⟩, {}⟩, ⟨⟨some 46, (.mov (.t 5)), some (45, true)⟩, {}⟩, ⟨⟨some 47, (.bin .eql (.t 46) (.c (I 0))), some (45, true)⟩, {}⟩, ⟨⟨some 48, (.pick (.t 45) (.t 47) (.c (B false))), none⟩, {}⟩, ⟨⟨some 49, (.mov (.t 48)), none⟩, {}⟩, ⟨⟨some 50, (.mov (.t 4)), some (49, true)⟩, {}⟩,
  ⟨⟨some 51, (.len (.t 50)), some (49, true)⟩, {}⟩, ⟨⟨some 52, (.bin .eql (.t 51) (.c (I 1))), some (49, true)⟩, {}⟩, ⟨⟨some 53, (.pick (.t 49) (.t 52) (.c (B false))), none⟩, {}⟩, ⟨⟨some 54, (.mov (.t 53)), none⟩, {}⟩, ⟨⟨some 55, (.mov (.t 4)), some (54, true)⟩, {}⟩, ⟨⟨some 56, (.iadrS 4 (.t 55) (.c
  (I 0))), some (54, true)⟩, {}⟩, ⟨⟨some 57, (.fadr 3 (.t 56)), some (54, true)⟩, {}⟩, ⟨⟨some 58, (.load false 1 (.t 57)), some (54, true)⟩, {}⟩, ⟨⟨some 59, (.bin .eql (.t 58) (.c (I 51))), some (54, true)⟩, {}⟩, ⟨⟨some 60, (.pick (.t 54) (.t 59) (.c (B false))), none⟩, {}⟩, ⟨⟨some 0, (.mov (.t 60)),
  none⟩, {}⟩] none) law24_awake_C6)
def law24_awake_C4 : TC := (.seq (.rg [⟨⟨some 19, (.load true 4 (.t 1)), none⟩, {}⟩, ⟨⟨some 20, (.bslice false 4 [(.lst true []), (I 0), (I 0), (I 0)] 1 [(0, (.t 19))]), none⟩, ⟨G_TagReader, none⟩⟩, ⟨⟨some 21, (.bslice false 1 [(I 0)] 1 [(0, (.c (I 9)))]), none⟩, ⟨(.int .i64), none⟩⟩, ⟨⟨some 22, (.build [(I 0), (I 0), (I 0),
  (.lst true [])] [(2, (1, (.c (I 50)))), (3, (1, (.t 21)))]), none⟩, {}⟩, ⟨⟨some 23, (.call (.c (.fn 19 [])) [(.t 20), (.t 22)]), none⟩, {}⟩, ⟨⟨some 18, (.mov (.t 23)), none⟩, {}⟩, ⟨⟨some 24, (.extr 0 (.t 18)), none⟩, {}⟩, ⟨⟨some 25, (.extr 1 (.t 18)), none⟩, {}⟩, ⟨⟨some 4, (.mov (.t 24)), none⟩,
  {}⟩, ⟨⟨some 5, (.mov (.t 25)), none⟩, {}⟩] none) law24_awake_C5)
def law24_awake_C3 : TC := (.seq (.rg [⟨⟨some 9, (.load true 4 (.t 1)), none⟩, {}⟩, ⟨⟨some 10, (.bslice false 4 [(.lst true []), (I 0), (I 0), (I 0)] 1 [(0, (.t 9))]), none⟩, ⟨G_TagReader, none⟩⟩, ⟨⟨some 11, (.build [(I 0), (I 0), (I 0), (.lst true [])] [(1, (1, (.c (I 4)))), (2, (1, (.c (I 100))))]), none⟩, {}⟩, ⟨⟨some 12,
  (.build [(I 0), (I 0), (I 0), (.lst true [])] [(1, (1, (.c (I 5)))), (2, (1, (.c (I 110))))]), none⟩, {}⟩, ⟨⟨some 13, (.build [(I 0), (I 0), (I 0), (.lst true [])] [(1, (1, (.c (I 6)))), (2, (1, (.c (I 120))))]), none⟩, {}⟩, ⟨⟨some 14, (.bslice false 4 [(I 0), (I 0), (I 0), (.lst true [])] 3 [(0,
  (.t 11)), (1, (.t 12)), (2, (.t 13))]), none⟩, ⟨G_Report, none⟩⟩, ⟨⟨some 15, (.call (.c (.fn 18 [])) [(.t 10), (.c (I 0)), (.c (I 9)), (.t 14)]), none⟩, {}⟩, ⟨⟨some 8, (.mov (.t 15)), none⟩, {}⟩, ⟨⟨some 16, (.extr 0 (.t 8)), none⟩, {}⟩, ⟨⟨some 17, (.extr 1 (.t 8)), none⟩, {}⟩, ⟨⟨some 2, (.mov (.t
  16)), none⟩, {}⟩, ⟨⟨some 3, (.mov (.t 17)), none⟩, {}⟩] none) law24_awake_C4)
def law24_awake_C2 : TC := (.seq (.rg [⟨⟨some 6, (.bslice false 1 [(I 0)] 1 [(0, (.c (I 0)))]), none⟩, ⟨(.int .i64), none⟩⟩, ⟨⟨some 7, (.build [(.lst true []), (I 0), (I 0), (I 0)] [(0, (1, (.t 6))), (1, (1, (.c (I 10)))), (2, (1, (.c (I 2)))), (3, (1, (.c (I 1))))]), none⟩, {}⟩, ⟨⟨some 1, (.alloc [(.lst true []), (I 0), (I
  0), (I 0)]), none⟩, {}⟩, ⟨⟨none, (.store 4 (.t 1) (.t 7)), none⟩, {}⟩] none) law24_awake_C3)
def law24_awake_C1 : TC := (.seq (.rg [⟨⟨some 0, (.mov (.c (B false))), none⟩, {}⟩] none) law24_awake_C2)
def law24_awake_E (N : Nat) : List (Nat × Ent) := [(18, sfE [none, none, none, none] [.v (.list G_TagReader), .v (.int .i64), .v (.int .i64), .v (.list G_Report)] [.o (.a G_Absence), .v (.int .i64)] (fun x => sightings_Absences N x.1 x.2.1 x.2.2.1 x.2.2.2)), (19, pureE [(.list G_TagReader), G_Report] [(.list G_Absence), (.int .i64)] (fun x => sightings_Of N x.1 x.2)), (15, pureE [G_TagReader] [(.int .i64)] (fun x => sightings_Blind N x))]
def law24_awake (N : Nat) : Option Bool :=
  Option.bind (sightings_Absences N [([0], (10, (2, 1)))] 0 9 [(0, (4, (100, []))), (0, (5, (110, []))), (0, (6, (120, [])))]) fun r1 =>
  Option.bind (sightings_Of N [([0], (10, (2, 1)))] (0, (0, (50, [9])))) fun r2 =>
  bif (r1.1.2 == 0) then
    bif ((r1.1.1.length : Int) == 1) then
      bif inB 0 r1.1.1.length then
      let v3 := r1.1.1.getD ((0 : Int).toNat) D_Absence
      bif ((v3.1 == 0) && ((v3.2.1 == 9) && ((v3.2.2.1 == 101) && (v3.2.2.2 == 119)))) then
        Option.bind (sightings_Blind N ([0], (10, (2, 1)))) fun r4 =>
        bif (r4 == 30) then
          bif (r2.2 == 0) then
            bif ((r2.1.length : Int) == 1) then
              bif inB 0 r2.1.length then
              some ((r2.1.getD (0 : Int).toNat D_Absence).2.2.2 == 51)
              else none
            else
              some false
          else
            some false
        else
          some false
      else
        some false
      else none
    else
      some false
  else
    some false
theorem law24_awake_fn : FnOK Try.prog 8 61 (fun _ : Nat => false) law24_awake_C1.er [(.t 0)] := FnOK.mk' Try.func8 (by kernel_rfl) (by kernel_rfl) (by kernel_rfl) (by kernel_rfl) (by kernel_rfl)
theorem law24_awake_envok (N : Nat) : EnvOK Try.prog (law24_awake_E N) := .cons (sfE_ok (sightings_Absences_sf N)) (.cons (pureE_ok (sightings_Of_pure N)) (.cons (pureE_ok (sightings_Blind_pure N)) (.nil)))
theorem law24_awake_pure (N : Nat) : PureOK Try.prog 8 [] [.bool] (fun x => law24_awake N) := pureOK (N := N) mixed law24_awake_fn (law24_awake_envok N) rfl (fun x => by kernel_rfl)
/-! made_Roll -/
def made_Roll_NE : List NS := [.keep [2], .out []]
def made_Roll_C4 : TC := .ret
def made_Roll_C3 : TC := (.pre [.keep [2], .out []] made_Roll_C4)
def made_Roll_C2 : TC := (.seq (.rg [⟨⟨some 3, (.mov (.t 0)), none⟩, {}⟩, ⟨⟨some 4, (.build [(.lst true []), (I 0)] [(0, (1, (.t 3)))]), none⟩, {}⟩, ⟨⟨some 5, (.box (.t 4)), none⟩, {}⟩, ⟨⟨some 2, (.mov (.t 5)), none⟩, {}⟩] none) made_Roll_C3)
def made_Roll_C1 : TC := (.seq (.rg [⟨⟨some 2, (.mov (.c (.v (.pointer none)))), none⟩, {}⟩] none) made_Roll_C2)
def made_Roll_E (N : Nat) : List (Nat × Ent) := []
def made_Roll (N : Nat) (a0 : List Int) : Option (T_Dice × Unit) :=
  some ((a0, 0), ())
theorem made_Roll_fn : FnOK Try.prog 9 6 (fun _ : Nat => false) made_Roll_C1.er [(.t 2)] := FnOK.mk' Try.func9 (by kernel_rfl) (by kernel_rfl) (by kernel_rfl) (by kernel_rfl) (by kernel_rfl)
theorem made_Roll_envok (N : Nat) : EnvOK Try.prog (made_Roll_E N) := .nil
theorem made_Roll_sf (N : Nat) : SFOK Try.prog 9 [none] [.v (.list (.int .i64))] [.n G_Dice] (fun x => made_Roll N x) := sfOK (N := N) (p := 0) (q := 0) (ns := made_Roll_NE) mixed made_Roll_fn (made_Roll_envok N) rfl rfl rfl (fun x => by kernel_rfl)
/-! made_Mod -/
def made_Mod_C5 : TC := .ret
def made_Mod_C3 : TC := (.cond (.t 6) (.seq (.rg [⟨⟨some 4, (.mov (.c (I 0))), none⟩, {}⟩] none) made_Mod_C5) .skip)
def made_Mod_C7 : TC := (.cond (.t 11) (.rg [⟨⟨some 12, (.mov (.t 0)), none⟩, {}⟩, ⟨⟨some 13, (.mov (.t 1)), none⟩, {}⟩, ⟨⟨some 14, (.bin .add (.t 12) (.t 13)), none⟩, {}⟩, ⟨⟨some 0, (.mov (.t 14)), none⟩, {}⟩] none) .skip)
def made_Mod_C9 : TC := .ret
def made_Mod_C8 : TC := (.seq (.rg [⟨⟨some 15, (.mov (.t 0)), none⟩, {}⟩, ⟨⟨some 4, (.mov (.t 15)), none⟩, {}⟩] none) made_Mod_C9)
def made_Mod_C6 : TC := (.seq (.seq (.rg [⟨⟨some 10, (.mov (.t 0)), none⟩, {}⟩, ⟨⟨some 11, (.bin .lss (.t 10) (.c (I 0))), none⟩, {}⟩] none) made_Mod_C7) made_Mod_C8)
def made_Mod_C4 : TC := (.seq (.rg [⟨⟨some 7, (.mov (.t 0)), none⟩, {}⟩, ⟨⟨some 8, (.mov (.t 1)), none⟩, {}⟩, ⟨⟨some 9, (.bin .rem (.t 7) (.t 8)), none⟩, {}⟩, ⟨⟨some 0, (.mov (.t 9)), none⟩, {}⟩] none) made_Mod_C6)
def made_Mod_C2 : TC := (.seq (.seq (.rg [⟨⟨some 5, (.mov (.t 1)), none⟩, {}⟩, ⟨⟨some 6, (.bin .lss (.t 5) (.c (I 1))), none⟩, {}⟩] none) made_Mod_C3) made_Mod_C4)
def made_Mod_C1 : TC := (.seq (.rg [⟨⟨some 4, (.mov (.c (I 0))), none⟩, {}⟩] none) made_Mod_C2)
def made_Mod_E (N : Nat) : List (Nat × Ent) := []
def made_Mod (N : Nat) (a0 : Int) (a1 : Int) : Option Int :=
  bif (decide (a1 < 1)) then
    some 0
  else
    bif a1 == 0 then none else
    bif (decide ((a0.tmod a1) < 0)) then
      some (W ((a0.tmod a1) + a1))
    else
      some (a0.tmod a1)
theorem made_Mod_fn : FnOK Try.prog 20 16 (fun _ : Nat => false) made_Mod_C1.er [(.t 4)] := FnOK.mk' Try.func20 (by kernel_rfl) (by kernel_rfl) (by kernel_rfl) (by kernel_rfl) (by kernel_rfl)
theorem made_Mod_envok (N : Nat) : EnvOK Try.prog (made_Mod_E N) := .nil
theorem made_Mod_pure (N : Nat) : PureOK Try.prog 20 [(.int .i64), (.int .i64)] [(.int .i64)] (fun x => made_Mod N x.1 x.2) := pureOK (N := N) mixed made_Mod_fn (made_Mod_envok N) rfl (fun x => by kernel_rfl)
/-! made_Dice_Next -/
def made_Dice_Next_NE : List NS := [.frzo 0, .keep [4], .out [0]]
def made_Dice_Next_C7 : TC := .ret
def made_Dice_Next_C5 : TC := (.pre [.frzo 0, .keep [4], .out [0]] made_Dice_Next_C7)
def made_Dice_Next_C3 : TC := (.cond (.t 14) (.seq (.rg [⟨⟨some 4, (.mov (.c (I 0))), none⟩, {}⟩] none) made_Dice_Next_C5) .skip)
def made_Dice_Next_C9 : TC := .ret
def made_Dice_Next_C8 : TC := (.pre [.frzo 0, .keep [4], .out [0]] made_Dice_Next_C9)
def made_Dice_Next_C6 : TC := (.seq (.rg [⟨⟨some 22, (.mov (.t 0)), none⟩, {}⟩, ⟨⟨some 23, (.nilck (.t 22)), none⟩, {}⟩, ⟨⟨some 24, (.fadr 0 (.t 23)), none⟩, {}⟩, ⟨⟨some 25, (.load false 1 (.t 24)), none⟩, {}⟩, ⟨⟨some 26, (.mov (.t 0)), none⟩, {}⟩, ⟨⟨some 27, (.nilck (.t 26)), none⟩, {}⟩, ⟨⟨some 28, (.fadr 1 (.t 27)), none⟩, {}⟩,
  ⟨⟨some 29, (.load false 1 (.t 28)), none⟩, {}⟩, ⟨⟨some 30, (.bin .sub (.t 29) (.c (I 1))), none⟩, {}⟩, ⟨⟨some 31, (.iadrS 1 (.t 25) (.t 30)), none⟩, {}⟩, ⟨⟨some 32, (.load false 1 (.t 31)), none⟩, {}⟩, ⟨⟨some 33, (.mov (.t 1)), none⟩, {}⟩, ⟨⟨some 34, (.call (.c (.fn 20 [])) [(.t 32), (.t 33)]),
  none⟩, {}⟩, ⟨⟨some 4, (.mov (.t 34)), none⟩, {}⟩] (some [])) made_Dice_Next_C8)
def made_Dice_Next_C4 : TC := (.seq (.rg [⟨⟨some 15, (.mov (.t 0)), none⟩, {}⟩, ⟨⟨some 16, (.nilck (.t 15)), none⟩, {}⟩, ⟨⟨some 17, (.fadr 1 (.t 16)), none⟩, {}⟩, ⟨⟨some 18, (.load false 1 (.t 17)), none⟩, {}⟩, ⟨⟨some 19, (.bin .add (.t 18) (.c (I 1))), none⟩, {}⟩, ⟨⟨some 20, (.nilck (.t 15)), none⟩, {}⟩, ⟨⟨some 21, (.fadr 1 (.t
  20)), none⟩, {}⟩, ⟨⟨none, (.store 1 (.t 21) (.t 19)), none⟩, {}⟩] none) made_Dice_Next_C6)
def made_Dice_Next_C2 : TC := (.seq (.seq (.rg [⟨⟨some 5, (.mov (.t 0)), none⟩, {}⟩, ⟨⟨some 6, (.nilck (.t 5)), none⟩, {}⟩, ⟨⟨some 7, (.fadr 1 (.t 6)), none⟩, {}⟩, ⟨⟨some 8, (.load false 1 (.t 7)), none⟩, {}⟩, ⟨⟨some 9, (.mov (.t 0)), none⟩, {}⟩, ⟨⟨some 10, (.nilck (.t 9)), none⟩, {}⟩, ⟨⟨some 11, (.fadr 0 (.t 10)), none⟩, {}⟩,
  ⟨⟨some 12, (.load false 1 (.t 11)), none⟩, {}⟩, ⟨⟨some 13, (.len (.t 12)), none⟩, {}⟩, ⟨⟨some 14, (.bin .geq (.t 8) (.t 13)), none⟩, {}⟩] (some [])) made_Dice_Next_C3) made_Dice_Next_C4)
def made_Dice_Next_C1 : TC := (.seq (.rg [⟨⟨some 4, (.mov (.c (I 0))), none⟩, {}⟩] none) made_Dice_Next_C2)
def made_Dice_Next_E (N : Nat) : List (Nat × Ent) := [(20, pureE [(.int .i64), (.int .i64)] [(.int .i64)] (fun x => made_Mod N x.1 x.2))]
def made_Dice_Next (N : Nat) (a0 : T_Dice) (a1 : Int) : Option (Int × T_Dice) :=
  bif (decide (a0.2 ≥ (a0.1.length : Int))) then
    some (0, a0)
  else
    bif inB (W ((W (a0.2 + 1)) - 1)) a0.1.length then
    Option.bind (made_Mod N (a0.1.getD (W ((W (a0.2 + 1)) - 1)).toNat 0) a1) fun r2 =>
    some (r2, (a0.1, W (a0.2 + 1)))
    else none
theorem made_Dice_Next_fn : FnOK Try.prog 13 35 (fun _ : Nat => false) made_Dice_Next_C1.er [(.t 4)] := FnOK.mk' Try.func13 (by kernel_rfl) (by kernel_rfl) (by kernel_rfl) (by kernel_rfl) (by kernel_rfl)
theorem made_Dice_Next_envok (N : Nat) : EnvOK Try.prog (made_Dice_Next_E N) := .cons (pureE_ok (made_Mod_pure N)) (.nil)
theorem made_Dice_Next_sf (N : Nat) : SFOK Try.prog 13 [none, none] [.b (.v G_Dice), .v (.int .i64)] [.v (.int .i64)] (fun x => made_Dice_Next N x.1 x.2) := sfOK (N := N) (p := 1) (q := 1) (ns := made_Dice_Next_NE) mixed made_Dice_Next_fn (made_Dice_Next_envok N) rfl rfl rfl (fun x => by kernel_rfl)
/-! made_Dice_Of -/
def made_Dice_Of_NE : List NS := [.frzo 0, .keep [4], .out [0]]
def made_Dice_Of_C4 : TC := .ret
def made_Dice_Of_C3 : TC := (.pre [.frzo 0, .keep [4], .out [0]] made_Dice_Of_C4)
def made_Dice_Of_C2 : TC := (.seq (.rg [⟨⟨some 5, (.mov (.t 1)), none⟩, {}⟩, ⟨⟨some 6, (.mov (.t 0)), none⟩, {}⟩, ⟨⟨some 7, (.mov (.t 1)), none⟩, {}⟩, ⟨⟨some 8, (.len (.t 7)), none⟩, {}⟩, ⟨⟨some 9, (.call (.c (.fn 13 [])) [(.t 6), (.t 8)]), none⟩, {}⟩, ⟨⟨some 10, (.iadrS 1 (.t 5) (.t 9)), none⟩, {}⟩, ⟨⟨some 11, (.load false 1
  (.t 10)), none⟩, {}⟩, ⟨⟨some 4, (.mov (.t 11)), none⟩, {}⟩] none) made_Dice_Of_C3)
def made_Dice_Of_C1 : TC := (.seq (.rg [⟨⟨some 4, (.mov (.c (I 0))), none⟩, {}⟩] none) made_Dice_Of_C2)
def made_Dice_Of_E (N : Nat) : List (Nat × Ent) := [(13, sfE [none, none] [.b (.v G_Dice), .v (.int .i64)] [.v (.int .i64)] (fun x => made_Dice_Next N x.1 x.2))]
def made_Dice_Of (N : Nat) (a0 : T_Dice) (a1 : List Int) : Option (Int × T_Dice) :=
  Option.bind (made_Dice_Next N a0 (a1.length : Int)) fun r1 =>
  bif inB r1.1 a1.length then
  some (a1.getD r1.1.toNat 0, r1.2)
  else none
theorem made_Dice_Of_fn : FnOK Try.prog 12 12 (fun _ : Nat => false) made_Dice_Of_C1.er [(.t 4)] := FnOK.mk' Try.func12 (by kernel_rfl) (by kernel_rfl) (by kernel_rfl) (by kernel_rfl) (by kernel_rfl)
theorem made_Dice_Of_envok (N : Nat) : EnvOK Try.prog (made_Dice_Of_E N) := .cons (sfE_ok (made_Dice_Next_sf N)) (.nil)
theorem made_Dice_Of_sf (N : Nat) : SFOK Try.prog 12 [none, none] [.b (.v G_Dice), .v (.list (.int .i64))] [.v (.int .i64)] (fun x => made_Dice_Of N x.1 x.2) := sfOK (N := N) (p := 1) (q := 1) (ns := made_Dice_Of_NE) mixed made_Dice_Of_fn (made_Dice_Of_envok N) rfl rfl rfl (fun x => by kernel_rfl)
/-! made_Dice_One -/
def made_Dice_One_NE : List NS := [.frzo 0, .keep [4], .out [0]]
def made_Dice_One_C4 : TC := .ret
def made_Dice_One_C3 : TC := (.pre [.frzo 0, .keep [4], .out [0]] made_Dice_One_C4)
def made_Dice_One_C2 : TC := (.seq (.rg [⟨⟨some 5, (.mov (.t 0)), none⟩, {}⟩, ⟨⟨some 6, (.mov (.t 1)), none⟩, {}⟩, ⟨⟨some 7, (.call (.c (.fn 13 [])) [(.t 5), (.t 6)]), none⟩, {}⟩, ⟨⟨some 8, (.mov (.t 1)), none⟩, {}⟩, ⟨⟨some 9, (.bin .sub (.t 8) (.c (I 1))), none⟩, {}⟩, ⟨⟨some 10, (.bin .eql (.t 7) (.t 9)), none⟩, {}⟩, ⟨⟨some 4,
  (.mov (.t 10)), none⟩, {}⟩] none) made_Dice_One_C3)
def made_Dice_One_C1 : TC := (.seq (.rg [⟨⟨some 4, (.mov (.c (B false))), none⟩, {}⟩] none) made_Dice_One_C2)
def made_Dice_One_E (N : Nat) : List (Nat × Ent) := [(13, sfE [none, none] [.b (.v G_Dice), .v (.int .i64)] [.v (.int .i64)] (fun x => made_Dice_Next N x.1 x.2))]
def made_Dice_One (N : Nat) (a0 : T_Dice) (a1 : Int) : Option (Bool × T_Dice) :=
  Option.bind (made_Dice_Next N a0 a1) fun r1 =>
  some ((r1.1 == (W (a1 - 1))), r1.2)
theorem made_Dice_One_fn : FnOK Try.prog 14 11 (fun _ : Nat => false) made_Dice_One_C1.er [(.t 4)] := FnOK.mk' Try.func14 (by kernel_rfl) (by kernel_rfl) (by kernel_rfl) (by kernel_rfl) (by kernel_rfl)
theorem made_Dice_One_envok (N : Nat) : EnvOK Try.prog (made_Dice_One_E N) := .cons (sfE_ok (made_Dice_Next_sf N)) (.nil)
theorem made_Dice_One_sf (N : Nat) : SFOK Try.prog 14 [none, none] [.b (.v G_Dice), .v (.int .i64)] [.v .bool] (fun x => made_Dice_One N x.1 x.2) := sfOK (N := N) (p := 1) (q := 1) (ns := made_Dice_One_NE) mixed made_Dice_One_fn (made_Dice_One_envok N) rfl rfl rfl (fun x => by kernel_rfl)
/-! made_Dice_Mine -/
def made_Dice_Mine_NE : List NS := [.frzb 2, .frzo 0, .keep [2], .out [0]]
def made_Dice_Mine_N1 : List NS := [.ownc 3 0 G_Place, .keep [0, 2, 3, 4, 5], .cmp]
def made_Dice_Mine_N2 : List NS := [.ownc 3 1 G_Road, .keep [0, 2, 3, 4, 6, 7], .cmp]
def made_Dice_Mine_N3 : List NS := [.ownc 3 1 G_Road, .keep [0, 2, 3, 4, 6, 9], .cmp]
def made_Dice_Mine_C9 : TC := (.cond (.t 83) .skip (.exit 4))
def made_Dice_Mine_C35 : TC := (.cond (.t 116) (.rg [⟨⟨some 117, (.fadr 1 (.t 3)), none⟩, {}⟩, ⟨⟨some 118, (.load false 1 (.t 117)), none⟩, {}⟩, ⟨⟨some 119, (.load true 10 (.t 10)), none⟩, {}⟩, ⟨⟨some 120, (.bslice false 10 [(I 0), (I 0), (I 0), (I 0), (B false), (B false), (I 0), (I 0), (I 0), (I 0)] 1 [(0, (.t 119))]), none⟩,
  ⟨G_Road, none⟩⟩, ⟨⟨some 121, (.app 10 72 (.t 118) (.t 120)), none⟩, {}⟩, ⟨⟨some 122, (.fadr 1 (.t 3)), none⟩, {}⟩, ⟨⟨none, (.store 1 (.t 122) (.t 121)), none⟩, {}⟩] none) .skip)
def made_Dice_Mine_C32 : TC := (.seq (.rg [⟨⟨some 112, (.fadr 0 (.t 10)), none⟩, {}⟩, ⟨⟨some 113, (.load false 1 (.t 112)), none⟩, {}⟩, ⟨⟨some 114, (.fadr 1 (.t 10)), none⟩, {}⟩, ⟨⟨some 115, (.load false 1 (.t 114)), none⟩, {}⟩, ⟨⟨some 116, (.bin .neq (.t 113) (.t 115)), none⟩, {}⟩] none) made_Dice_Mine_C35)
def made_Dice_Mine_C28 : TC := (.seq (.rg [⟨⟨some 105, (.mov (.t 0)), none⟩, {}⟩, ⟨⟨some 106, (.call (.c (.fn 13 [])) [(.t 105), (.c (I 5))]), none⟩, {}⟩, ⟨⟨some 107, (.bin .gtr (.t 106) (.c (I 0))), none⟩, {}⟩, ⟨⟨some 108, (.mov (.t 0)), none⟩, {}⟩, ⟨⟨some 109, (.call (.c (.fn 14 [])) [(.t 108), (.c (I 6))]), none⟩, {}⟩, ⟨⟨some
  110, (.fadr 4 (.t 10)), none⟩, {}⟩, ⟨⟨none, (.store 1 (.t 110) (.t 107)), none⟩, {}⟩, ⟨⟨some 111, (.fadr 5 (.t 10)), none⟩, {}⟩, ⟨⟨none, (.store 1 (.t 111) (.t 109)), none⟩, {}⟩] none) made_Dice_Mine_C32)
def made_Dice_Mine_C20 : TC := (.seq (.rg [⟨⟨some 87, (.mov (.t 0)), none⟩, {}⟩, ⟨⟨some 88, (.mov (.t 4)), none⟩, {}⟩, ⟨⟨some 89, (.call (.c (.fn 13 [])) [(.t 87), (.t 88)]), none⟩, {}⟩, ⟨⟨some 90, (.mov (.t 0)), none⟩, {}⟩, ⟨⟨some 91, (.mov (.t 4)), none⟩, {}⟩, ⟨⟨some 92, (.call (.c (.fn 13 [])) [(.t 90), (.t 91)]), none⟩, {}⟩,
  ⟨⟨some 93, (.mov (.t 0)), none⟩, {}⟩, ⟨⟨some 94, (.bslice false 1 [(I 0)] 3 [(0, (.c (I 11))), (1, (.c (I 59))), (2, (.c (I 199)))]), none⟩, ⟨(.int .i64), none⟩⟩, ⟨⟨some 95, (.call (.c (.fn 12 [])) [(.t 93), (.t 94)]), none⟩, {}⟩, ⟨⟨some 96, (.bin .add (.c (I 1)) (.t 95)), none⟩, {}⟩, ⟨⟨some 97,
  (.mov (.t 0)), none⟩, {}⟩, ⟨⟨some 98, (.bslice false 1 [(I 0)] 2 [(0, (.c (I 9))), (1, (.c (I 3)))]), none⟩, ⟨(.int .i64), none⟩⟩, ⟨⟨some 99, (.call (.c (.fn 12 [])) [(.t 97), (.t 98)]), none⟩, {}⟩, ⟨⟨some 100, (.bin .add (.c (I 1)) (.t 99)), none⟩, {}⟩, ⟨⟨some 101, (.fadr 0 (.t 10)), none⟩, {}⟩,
  ⟨⟨none, (.store 1 (.t 101) (.t 89)), none⟩, {}⟩, ⟨⟨some 102, (.fadr 1 (.t 10)), none⟩, {}⟩, ⟨⟨none, (.store 1 (.t 102) (.t 92)), none⟩, {}⟩, ⟨⟨some 103, (.fadr 2 (.t 10)), none⟩, {}⟩, ⟨⟨none, (.store 1 (.t 103) (.t 96)), none⟩, {}⟩, ⟨⟨some 104, (.fadr 3 (.t 10)), none⟩, {}⟩, ⟨⟨none, (.store 1 (.t
  104) (.t 100)), none⟩, {}⟩] none) made_Dice_Mine_C28)
def made_Dice_Mine_C21 : TC := (.rg [⟨⟨some 84, (.mov (.t 9)), none⟩, {}⟩, ⟨⟨some 85, (.bin .sub (.t 84) (.c (I 1))), none⟩, {}⟩, ⟨⟨some 9, (.mov (.t 85)), none⟩, {}⟩] none)
def made_Dice_Mine_C10 : TC := (.seq (.block 5 (.seq (.rg [⟨⟨some 86, (.load true 10 (.t 6)), none⟩, {}⟩, ⟨⟨some 10, (.alloc [(I 0), (I 0), (I 0), (I 0), (B false), (B false), (I 0), (I 0), (I 0), (I 0)]), none⟩, {}⟩, ⟨⟨none, (.store 10 (.t 10) (.t 86)), none⟩, {}⟩] none) made_Dice_Mine_C20)) made_Dice_Mine_C21)
def made_Dice_Mine_C1 : TC := (.seq (.seq (.rg [⟨⟨some 76, (.mov (.t 9)), none⟩, {}⟩, ⟨⟨some 77, (.bin .gtr (.t 76) (.c (I 0))), none⟩, {}⟩, ⟨⟨some 78, (.mov (.t 77)), none⟩, {}⟩, ⟨⟨some 79, (.fadr 1 (.t 3)), some (78, true)⟩, {}⟩, ⟨⟨some 80, (.load false 1 (.t 79)), some (78, true)⟩, {}⟩, ⟨⟨some 81, (.len (.t 80)), some (78,
  true)⟩, {}⟩, ⟨⟨some 82, (.bin .lss (.t 81) (.c (I 10))), some (78, true)⟩, {}⟩, ⟨⟨some 83, (.pick (.t 78) (.t 82) (.c (B false))), none⟩, {}⟩] none) made_Dice_Mine_C9) made_Dice_Mine_C10)
def made_Dice_Mine_C29 : TC := .ret
def made_Dice_Mine_C22 : TC := (.pre [.frzb 2, .frzo 0, .keep [2], .out [0]] made_Dice_Mine_C29)
def made_Dice_Mine_C11 : TC := (.seq (.rg [⟨⟨some 123, (.load true 2 (.t 3)), none⟩, {}⟩, ⟨⟨none, (.store 2 (.t 2) (.t 123)), none⟩, {}⟩] none) made_Dice_Mine_C22)
def made_Dice_Mine_C2 : TC := (.pre [.frzb 3] made_Dice_Mine_C11)
def made_Dice_Mine_C12 : TC := (.cond (.t 44) .skip (.exit 2))
def made_Dice_Mine_C30 : TC := (.rg [⟨⟨some 68, (.fadr 1 (.t 3)), none⟩, {}⟩, ⟨⟨some 69, (.load false 1 (.t 68)), none⟩, {}⟩, ⟨⟨some 70, (.load true 10 (.t 8)), none⟩, {}⟩, ⟨⟨some 71, (.bslice false 10 [(I 0), (I 0), (I 0), (I 0), (B false), (B false), (I 0), (I 0), (I 0), (I 0)] 1 [(0, (.t 70))]), none⟩, ⟨G_Road, none⟩⟩, ⟨⟨some
  72, (.app 10 72 (.t 69) (.t 71)), none⟩, {}⟩, ⟨⟨some 73, (.fadr 1 (.t 3)), none⟩, {}⟩, ⟨⟨none, (.store 1 (.t 73) (.t 72)), none⟩, {}⟩] none)
def made_Dice_Mine_C23 : TC := (.seq (.rg [⟨⟨some 48, (.mov (.t 7)), none⟩, {}⟩, ⟨⟨some 49, (.bin .sub (.t 48) (.c (I 1))), none⟩, {}⟩, ⟨⟨some 50, (.mov (.t 0)), none⟩, {}⟩, ⟨⟨some 51, (.mov (.t 7)), none⟩, {}⟩, ⟨⟨some 52, (.mm false [(.t 51), (.c (I 2))]), none⟩, {}⟩, ⟨⟨some 53, (.call (.c (.fn 13 [])) [(.t 50), (.t 52)]), none⟩,
  {}⟩, ⟨⟨some 54, (.bin .sub (.t 49) (.t 53)), none⟩, {}⟩, ⟨⟨some 55, (.mov (.t 7)), none⟩, {}⟩, ⟨⟨some 56, (.mov (.t 0)), none⟩, {}⟩, ⟨⟨some 57, (.bslice false 1 [(I 0)] 4 [(0, (.c (I 11))), (1, (.c (I 59))), (2, (.c (I 119))), (3, (.c (I 4)))]), none⟩, ⟨(.int .i64), none⟩⟩, ⟨⟨some 58, (.call (.c
  (.fn 12 [])) [(.t 56), (.t 57)]), none⟩, {}⟩, ⟨⟨some 59, (.bin .add (.c (I 1)) (.t 58)), none⟩, {}⟩, ⟨⟨some 60, (.mov (.t 0)), none⟩, {}⟩, ⟨⟨some 61, (.bslice false 1 [(I 0)] 3 [(0, (.c (I 9))), (1, (.c (I 3))), (2, (.c (I 19)))]), none⟩, ⟨(.int .i64), none⟩⟩, ⟨⟨some 62, (.call (.c (.fn 12 []))
  [(.t 60), (.t 61)]), none⟩, {}⟩, ⟨⟨some 63, (.bin .add (.c (I 1)) (.t 62)), none⟩, {}⟩, ⟨⟨some 64, (.fadr 0 (.t 8)), none⟩, {}⟩, ⟨⟨none, (.store 1 (.t 64) (.t 54)), none⟩, {}⟩, ⟨⟨some 65, (.fadr 1 (.t 8)), none⟩, {}⟩, ⟨⟨none, (.store 1 (.t 65) (.t 55)), none⟩, {}⟩, ⟨⟨some 66, (.fadr 2 (.t 8)),
  none⟩, {}⟩, ⟨⟨none, (.store 1 (.t 66) (.t 59)), none⟩, {}⟩, ⟨⟨some 67, (.fadr 3 (.t 8)), none⟩, {}⟩, ⟨⟨none, (.store 1 (.t 67) (.t 63)), none⟩, {}⟩] none) made_Dice_Mine_C30)
def made_Dice_Mine_C24 : TC := (.rg [⟨⟨some 45, (.mov (.t 7)), none⟩, {}⟩, ⟨⟨some 46, (.bin .add (.t 45) (.c (I 1))), none⟩, {}⟩, ⟨⟨some 7, (.mov (.t 46)), none⟩, {}⟩] none)
def made_Dice_Mine_C13 : TC := (.seq (.block 3 (.seq (.rg [⟨⟨some 47, (.load true 10 (.t 6)), none⟩, {}⟩, ⟨⟨some 8, (.alloc [(I 0), (I 0), (I 0), (I 0), (B false), (B false), (I 0), (I 0), (I 0), (I 0)]), none⟩, {}⟩, ⟨⟨none, (.store 10 (.t 8) (.t 47)), none⟩, {}⟩] none) made_Dice_Mine_C23)) made_Dice_Mine_C24)
def made_Dice_Mine_C3 : TC := (.seq (.seq (.rg [⟨⟨some 42, (.mov (.t 7)), none⟩, {}⟩, ⟨⟨some 43, (.mov (.t 4)), none⟩, {}⟩, ⟨⟨some 44, (.bin .lss (.t 42) (.t 43)), none⟩, {}⟩] none) made_Dice_Mine_C12) made_Dice_Mine_C13)
def made_Dice_Mine_C14 : TC := (.block 4 (.loop made_Dice_Mine_N3 made_Dice_Mine_C1))
def made_Dice_Mine_C4 : TC := (.seq (.seq (.rg [⟨⟨some 74, (.mov (.t 0)), none⟩, {}⟩, ⟨⟨some 75, (.call (.c (.fn 13 [])) [(.t 74), (.c (I 4))]), none⟩, {}⟩, ⟨⟨some 9, (.mov (.t 75)), none⟩, {}⟩] none) made_Dice_Mine_C14) made_Dice_Mine_C2)
def made_Dice_Mine_C15 : TC := (.cond (.t 22) .skip (.exit 0))
def made_Dice_Mine_C25 : TC := (.rg [⟨⟨some 23, (.mov (.t 5)), none⟩, {}⟩, ⟨⟨some 24, (.bin .add (.t 23) (.c (I 1))), none⟩, {}⟩, ⟨⟨some 5, (.mov (.t 24)), none⟩, {}⟩] none)
def made_Dice_Mine_C16 : TC := (.seq (.block 1 (.rg [⟨⟨some 25, (.fadr 0 (.t 3)), none⟩, {}⟩, ⟨⟨some 26, (.load false 1 (.t 25)), none⟩, {}⟩, ⟨⟨some 27, (.mov (.t 0)), none⟩, {}⟩, ⟨⟨some 28, (.call (.c (.fn 13 [])) [(.t 27), (.c (I 4))]), none⟩, {}⟩, ⟨⟨some 29, (.bin .mul (.c (I (-10))) (.t 28)), none⟩, {}⟩, ⟨⟨some 30, (.mov (.t
  5)), none⟩, {}⟩, ⟨⟨some 31, (.bin .eql (.t 30) (.c (I 0))), none⟩, {}⟩, ⟨⟨some 32, (.mov (.t 31)), none⟩, {}⟩, ⟨⟨some 33, (.mov (.t 0)), some (32, false)⟩, {}⟩, ⟨⟨some 34, (.call (.c (.fn 14 [])) [(.t 33), (.c (I 6))]), some (32, false)⟩, {}⟩, ⟨⟨some 35, (.pick (.t 32) (.c (B true)) (.t 34)),
  none⟩, {}⟩, ⟨⟨some 36, (.build [(I 0), (B false)] [(0, (1, (.t 29))), (1, (1, (.t 35)))]), none⟩, {}⟩, ⟨⟨some 37, (.bslice false 2 [(I 0), (B false)] 1 [(0, (.t 36))]), none⟩, ⟨G_Place, none⟩⟩, ⟨⟨some 38, (.app 2 16 (.t 26) (.t 37)), none⟩, {}⟩, ⟨⟨some 39, (.fadr 0 (.t 3)), none⟩, {}⟩, ⟨⟨none,
  (.store 1 (.t 39) (.t 38)), none⟩, {}⟩] (some [(0, 3), (1, 3), (0, 9), (1, 9)]))) made_Dice_Mine_C25)
def made_Dice_Mine_C5 : TC := (.seq (.seq (.rg [⟨⟨some 20, (.mov (.t 5)), none⟩, {}⟩, ⟨⟨some 21, (.mov (.t 4)), none⟩, {}⟩, ⟨⟨some 22, (.bin .lss (.t 20) (.t 21)), none⟩, {}⟩] none) made_Dice_Mine_C15) made_Dice_Mine_C16)
def made_Dice_Mine_C26 : TC := (.block 2 (.loop made_Dice_Mine_N2 made_Dice_Mine_C3))
def made_Dice_Mine_C17 : TC := (.seq (.seq (.rg [⟨⟨some 7, (.mov (.c (I 1))), none⟩, {}⟩] none) made_Dice_Mine_C26) made_Dice_Mine_C4)
def made_Dice_Mine_C6 : TC := (.seq (.rg [⟨⟨some 40, (.build [(I 0), (I 0)] [(0, (1, (.c (I 1)))), (1, (1, (.c (I 1))))]), none⟩, {}⟩, ⟨⟨some 41, (.build [(I 0), (I 0), (I 0), (I 0), (B false), (B false), (I 0), (I 0), (I 0), (I 0)] [(2, (1, (.c (I 12)))), (3, (1, (.c (I 10)))), (4, (1, (.c (B true)))), (6, (2, (.t 40)))]),
  none⟩, {}⟩, ⟨⟨some 6, (.alloc [(I 0), (I 0), (I 0), (I 0), (B false), (B false), (I 0), (I 0), (I 0), (I 0)]), none⟩, {}⟩, ⟨⟨none, (.store 10 (.t 6) (.t 41)), none⟩, {}⟩] none) made_Dice_Mine_C17)
def made_Dice_Mine_C18 : TC := (.block 0 (.loop made_Dice_Mine_N1 made_Dice_Mine_C5))
def made_Dice_Mine_C7 : TC := (.seq (.seq (.rg [⟨⟨some 5, (.mov (.c (I 0))), none⟩, {}⟩] none) made_Dice_Mine_C18) made_Dice_Mine_C6)
def made_Dice_Mine_C33 : TC := (.cond (.t 19) (.rg [⟨⟨some 4, (.mov (.c (I 4))), none⟩, {}⟩] none) .skip)
def made_Dice_Mine_C34 : TC := (.join [.keep [0, 2, 3, 4], .cmp] made_Dice_Mine_C7)
def made_Dice_Mine_C31 : TC := (.seq (.seq (.rg [⟨⟨some 14, (.mov (.t 0)), none⟩, {}⟩, ⟨⟨some 15, (.nilck (.t 14)), none⟩, {}⟩, ⟨⟨some 16, (.fadr 0 (.t 15)), none⟩, {}⟩, ⟨⟨some 17, (.load false 1 (.t 16)), none⟩, {}⟩, ⟨⟨some 18, (.len (.t 17)), none⟩, {}⟩, ⟨⟨some 19, (.bin .eql (.t 18) (.c (I 0))), none⟩, {}⟩] none)
  made_Dice_Mine_C33) made_Dice_Mine_C34)
def made_Dice_Mine_C27 : TC := (.seq (.rg [⟨⟨some 11, (.mov (.t 0)), none⟩, {}⟩, ⟨⟨some 12, (.call (.c (.fn 13 [])) [(.t 11), (.c (I 6))]), none⟩, {}⟩, ⟨⟨some 13, (.bin .add (.c (I 2)) (.t 12)), none⟩, {}⟩, ⟨⟨some 4, (.mov (.t 13)), none⟩, {}⟩] none) made_Dice_Mine_C31)
def made_Dice_Mine_C19 : TC := (.seq (.rg [⟨⟨some 3, (.alloc [(.lst true []), (.lst true [])]), none⟩, {}⟩] none) made_Dice_Mine_C27)
def made_Dice_Mine_C8 : TC := (.seq (.rg [⟨⟨some 2, (.alloc [(.lst true []), (.lst true [])]), none⟩, {}⟩] none) made_Dice_Mine_C19)
def made_Dice_Mine_E (N : Nat) : List (Nat × Ent) := [(13, sfE [none, none] [.b (.v G_Dice), .v (.int .i64)] [.v (.int .i64)] (fun x => made_Dice_Next N x.1 x.2)), (14, sfE [none, none] [.b (.v G_Dice), .v (.int .i64)] [.v .bool] (fun x => made_Dice_One N x.1 x.2)), (12, sfE [none, none] [.b (.v G_Dice), .v (.list (.int .i64))] [.v (.int .i64)] (fun x => made_Dice_Of N x.1 x.2))]
def made_Dice_Mine_L3 (N : Nat) (n : Nat) (x62 : Int) (x63 : Int) (x64 : List Int) (x65 : Int) (x66 : Int) (x67 : Int) (x68 : Int) (x69 : Int) (x70 : Bool) (x71 : Bool) (x72 : Int) (x73 : Int) (x74 : Int) (x75 : Int) (x76 : List T_Place) (x77 : List T_Road) : Option (T_Mine × T_Dice) := loopN (normI 1 made_Dice_Mine_N3) (run (made_Dice_Mine_E N) N 1 made_Dice_Mine_C1) n ⟨[(0, .ptr 0 0 0), (2, .ptr 1 0 0), (3, .ptr 2 0 0), (4, .int .i64 x62), (6, .ptr 3 0 0), (9, .int .i64 x63)], [some (.box 0 [.lst false (.int .i64) x64, .int .i64 x65]), some (.box 0 [.nil, .nil]), some (.box 0 [.whole 4, .whole 5]), some (.box 0 [.int .i64 x66, .int .i64 x67, .int .i64 x68, .int .i64 x69, .bool x70, .bool x71, .int .i64 x72, .int .i64 x73, .int .i64 x74, .int .i64 x75]), some (.arr G_Place x76), some (.arr G_Road x77)]⟩ (blkK 4 (seqK (run (made_Dice_Mine_E N) N 1 made_Dice_Mine_C2) (finS made_Dice_Mine_NE [(.cell 2 true 2)] [.b (.v G_Dice)] [.v G_Mine] 1 1)))
def made_Dice_Mine_L2 (N : Nat) (n : Nat) (x24 : Int) (x25 : Int) (x26 : List Int) (x27 : Int) (x28 : Int) (x29 : Int) (x30 : Int) (x31 : Int) (x32 : Bool) (x33 : Bool) (x34 : Int) (x35 : Int) (x36 : Int) (x37 : Int) (x38 : List T_Place) (x39 : List T_Road) : Option (T_Mine × T_Dice) := loopN (normI 1 made_Dice_Mine_N2) (run (made_Dice_Mine_E N) N 1 made_Dice_Mine_C3) n ⟨[(0, .ptr 0 0 0), (2, .ptr 1 0 0), (3, .ptr 2 0 0), (4, .int .i64 x24), (6, .ptr 3 0 0), (7, .int .i64 x25)], [some (.box 0 [.lst false (.int .i64) x26, .int .i64 x27]), some (.box 0 [.nil, .nil]), some (.box 0 [.whole 4, .whole 5]), some (.box 0 [.int .i64 x28, .int .i64 x29, .int .i64 x30, .int .i64 x31, .bool x32, .bool x33, .int .i64 x34, .int .i64 x35, .int .i64 x36, .int .i64 x37]), some (.arr G_Place x38), some (.arr G_Road x39)]⟩ (blkK 2 (seqK (run (made_Dice_Mine_E N) N 1 made_Dice_Mine_C4) (finS made_Dice_Mine_NE [(.cell 2 true 2)] [.b (.v G_Dice)] [.v G_Mine] 1 1)))
def made_Dice_Mine_L1 (N : Nat) (n : Nat) (x5 : Int) (x6 : Int) (x7 : List Int) (x8 : Int) (x9 : List T_Place) : Option (T_Mine × T_Dice) := loopN (normI 1 made_Dice_Mine_N1) (run (made_Dice_Mine_E N) N 1 made_Dice_Mine_C5) n ⟨[(0, .ptr 0 0 0), (2, .ptr 1 0 0), (3, .ptr 2 0 0), (4, .int .i64 x5), (5, .int .i64 x6)], [some (.box 0 [.lst false (.int .i64) x7, .int .i64 x8]), some (.box 0 [.nil, .nil]), some (.box 0 [.whole 3, .nil]), some (.arr G_Place x9)]⟩ (blkK 0 (seqK (run (made_Dice_Mine_E N) N 1 made_Dice_Mine_C6) (finS made_Dice_Mine_NE [(.cell 2 true 2)] [.b (.v G_Dice)] [.v G_Mine] 1 1)))
def made_Dice_Mine_J1 (N : Nat) (x2 : Int) (x3 : List Int) (x4 : Int) : Option (T_Mine × T_Dice) := joinN (run (made_Dice_Mine_E N) N 1 made_Dice_Mine_C7) N ⟨[(0, .ptr 0 0 0), (2, .ptr 1 0 0), (3, .ptr 2 0 0), (4, .int .i64 x2)], [some (.box 0 [.lst false (.int .i64) x3, .int .i64 x4]), some (.box 0 [.nil, .nil]), some (.box 0 [.nil, .nil])]⟩ (finS made_Dice_Mine_NE [(.cell 2 true 2)] [.b (.v G_Dice)] [.v G_Mine] 1 1)
theorem made_Dice_Mine_L3_zero (N : Nat) (x62 : Int) (x63 : Int) (x64 : List Int) (x65 : Int) (x66 : Int) (x67 : Int) (x68 : Int) (x69 : Int) (x70 : Bool) (x71 : Bool) (x72 : Int) (x73 : Int) (x74 : Int) (x75 : Int) (x76 : List T_Place) (x77 : List T_Road) : made_Dice_Mine_L3 N 0 x62 x63 x64 x65 x66 x67 x68 x69 x70 x71 x72 x73 x74 x75 x76 x77 = none := rfl
theorem made_Dice_Mine_L3_succ (N : Nat) (n3 : Nat) (x62 : Int) (x63 : Int) (x64 : List Int) (x65 : Int) (x66 : Int) (x67 : Int) (x68 : Int) (x69 : Int) (x70 : Bool) (x71 : Bool) (x72 : Int) (x73 : Int) (x74 : Int) (x75 : Int) (x76 : List T_Place) (x77 : List T_Road) : made_Dice_Mine_L3 N (n3 + 1) x62 x63 x64 x65 x66 x67 x68 x69 x70 x71 x72 x73 x74 x75 x76 x77 =
  bif (decide (x63 > 0)) then
    bif (decide ((x77.length : Int) < 10)) then
      Option.bind (made_Dice_Next N (x64, x65) x62) fun r78 =>
      Option.bind (made_Dice_Next N r78.2 x62) fun r79 =>
      Option.bind (made_Dice_Of N r79.2 [11, 59, 199]) fun r80 =>
      Option.bind (made_Dice_Of N r80.2 [9, 3]) fun r81 =>
      Option.bind (made_Dice_Next N r81.2 5) fun r82 =>
      Option.bind (made_Dice_One N r82.2 6) fun r83 =>
      bif (r78.1 != r79.1) then
        bif fitsB (x77.length + 1) 72 then
        made_Dice_Mine_L3 N n3 x62 (W (x63 - 1)) r83.2.1 r83.2.2 x66 x67 x68 x69 x70 x71 x72 x73 x74 x75 x76 (x77 ++ [(r78.1, (r79.1, (W (1 + r80.1), (W (1 + r81.1), ((decide (r82.1 > 0)), (r83.1, ((x72, x73), (x74, x75))))))))])
        else none
      else
        made_Dice_Mine_L3 N n3 x62 (W (x63 - 1)) r83.2.1 r83.2.2 x66 x67 x68 x69 x70 x71 x72 x73 x74 x75 x76 x77
    else
      some ((x76, x77), (x64, x65))
  else
    some ((x76, x77), (x64, x65)) := by kernel_rfl
theorem made_Dice_Mine_L2_zero (N : Nat) (x24 : Int) (x25 : Int) (x26 : List Int) (x27 : Int) (x28 : Int) (x29 : Int) (x30 : Int) (x31 : Int) (x32 : Bool) (x33 : Bool) (x34 : Int) (x35 : Int) (x36 : Int) (x37 : Int) (x38 : List T_Place) (x39 : List T_Road) : made_Dice_Mine_L2 N 0 x24 x25 x26 x27 x28 x29 x30 x31 x32 x33 x34 x35 x36 x37 x38 x39 = none := rfl
theorem made_Dice_Mine_L2_succ (N : Nat) (n2 : Nat) (x24 : Int) (x25 : Int) (x26 : List Int) (x27 : Int) (x28 : Int) (x29 : Int) (x30 : Int) (x31 : Int) (x32 : Bool) (x33 : Bool) (x34 : Int) (x35 : Int) (x36 : Int) (x37 : Int) (x38 : List T_Place) (x39 : List T_Road) : made_Dice_Mine_L2 N (n2 + 1) x24 x25 x26 x27 x28 x29 x30 x31 x32 x33 x34 x35 x36 x37 x38 x39 =
  bif (decide (x25 < x24)) then
    Option.bind (made_Dice_Next N (x26, x27) (min x25 2)) fun r40 =>
    Option.bind (made_Dice_Of N r40.2 [11, 59, 119, 4]) fun r42 =>
    Option.bind (made_Dice_Of N r42.2 [9, 3, 19]) fun r43 =>
    bif fitsB (x39.length + 1) 72 then
    made_Dice_Mine_L2 N n2 x24 (W (x25 + 1)) r43.2.1 r43.2.2 x28 x29 x30 x31 x32 x33 x34 x35 x36 x37 x38 (x39 ++ [((W ((W (x25 - 1)) - r40.1)), (x25, (W (1 + r42.1), (W (1 + r43.1), (x32, (x33, ((x34, x35), (x36, x37))))))))])
    else none
  else
    Option.bind (made_Dice_Next N (x26, x27) 4) fun r61 =>
    made_Dice_Mine_L3 N N x24 r61.1 r61.2.1 r61.2.2 x28 x29 x30 x31 x32 x33 x34 x35 x36 x37 x38 x39 := by kernel_rfl
theorem made_Dice_Mine_L1_zero (N : Nat) (x5 : Int) (x6 : Int) (x7 : List Int) (x8 : Int) (x9 : List T_Place) : made_Dice_Mine_L1 N 0 x5 x6 x7 x8 x9 = none := rfl
theorem made_Dice_Mine_L1_succ (N : Nat) (n1 : Nat) (x5 : Int) (x6 : Int) (x7 : List Int) (x8 : Int) (x9 : List T_Place) : made_Dice_Mine_L1 N (n1 + 1) x5 x6 x7 x8 x9 =
  bif (decide (x6 < x5)) then
    Option.bind (made_Dice_Next N (x7, x8) 4) fun r10 =>
    bif (x6 == 0) then
      bif fitsB (x9.length + 1) 16 then
      made_Dice_Mine_L1 N n1 x5 (W (x6 + 1)) r10.2.1 r10.2.2 (x9 ++ [(W ((-10) * r10.1), true)])
      else none
    else
      Option.bind (made_Dice_One N r10.2 6) fun r17 =>
      bif fitsB (x9.length + 1) 16 then
      made_Dice_Mine_L1 N n1 x5 (W (x6 + 1)) r17.2.1 r17.2.2 (x9 ++ [(W ((-10) * r10.1), r17.1)])
      else none
  else
    made_Dice_Mine_L2 N N x5 1 x7 x8 0 0 12 10 true false 1 1 0 0 x9 [] := by kernel_rfl
theorem made_Dice_Mine_J1_eq (N : Nat) (x2 : Int) (x3 : List Int) (x4 : Int) : made_Dice_Mine_J1 (N + 1) x2 x3 x4 =
  made_Dice_Mine_L1 (N + 1) (N + 1) x2 0 x3 x4 [] := by kernel_rfl
def made_Dice_Mine (N : Nat) (a0 : T_Dice) : Option (T_Mine × T_Dice) :=
  Option.bind (made_Dice_Next N a0 6) fun r1 =>
  bif ((r1.2.1.length : Int) == 0) then
    made_Dice_Mine_J1 N 4 r1.2.1 r1.2.2
  else
    made_Dice_Mine_J1 N (W (2 + r1.1)) r1.2.1 r1.2.2
theorem made_Dice_Mine_fn : FnOK Try.prog 10 124 (fun _ : Nat => false) made_Dice_Mine_C8.er [(.cell 2 true 2)] := FnOK.mk' Try.func10 (by kernel_rfl) (by kernel_rfl) (by kernel_rfl) (by kernel_rfl) (by kernel_rfl)
theorem made_Dice_Mine_envok (N : Nat) : EnvOK Try.prog (made_Dice_Mine_E N) := .cons (sfE_ok (made_Dice_Next_sf N)) (.cons (sfE_ok (made_Dice_One_sf N)) (.cons (sfE_ok (made_Dice_Of_sf N)) (.nil)))
theorem made_Dice_Mine_sf (N : Nat) : SFOK Try.prog 10 [none] [.b (.v G_Dice)] [.v G_Mine] (fun x => made_Dice_Mine N x) := sfOK (N := N) (p := 1) (q := 1) (ns := made_Dice_Mine_NE) mixed made_Dice_Mine_fn (made_Dice_Mine_envok N) rfl rfl rfl (fun x => by kernel_rfl)
/-! made_Dice_Some -/
def made_Dice_Some_NE : List NS := [.frz 4, .frzo 0, .keep [4], .out [0]]
def made_Dice_Some_N1 : List NS := [.own 5 (.int .i64), .keep [0, 1, 5, 6], .cmp]
def made_Dice_Some_C4 : TC := (.cond (.t 9) .skip (.exit 0))
def made_Dice_Some_C8 : TC := (.cond (.t 14) (.rg [⟨⟨some 15, (.mov (.t 5)), none⟩, {}⟩, ⟨⟨some 16, (.mov (.t 6)), none⟩, {}⟩, ⟨⟨some 17, (.bslice false 1 [(I 0)] 1 [(0, (.t 16))]), none⟩, ⟨(.int .i64), none⟩⟩, ⟨⟨some 18, (.app 1 8 (.t 15) (.t 17)), none⟩, {}⟩, ⟨⟨some 5, (.mov (.t 18)), none⟩, {}⟩] none) .skip)
def made_Dice_Some_C9 : TC := (.rg [⟨⟨some 10, (.mov (.t 6)), none⟩, {}⟩, ⟨⟨some 11, (.bin .add (.t 10) (.c (I 1))), none⟩, {}⟩, ⟨⟨some 6, (.mov (.t 11)), none⟩, {}⟩] none)
def made_Dice_Some_C5 : TC := (.seq (.block 1 (.seq (.rg [⟨⟨some 12, (.mov (.t 0)), none⟩, {}⟩, ⟨⟨some 13, (.call (.c (.fn 13 [])) [(.t 12), (.c (I 3))]), none⟩, {}⟩, ⟨⟨some 14, (.bin .eql (.t 13) (.c (I 0))), none⟩, {}⟩] none) made_Dice_Some_C8)) made_Dice_Some_C9)
def made_Dice_Some_C1 : TC := (.seq (.seq (.rg [⟨⟨some 7, (.mov (.t 6)), none⟩, {}⟩, ⟨⟨some 8, (.mov (.t 1)), none⟩, {}⟩, ⟨⟨some 9, (.bin .lss (.t 7) (.t 8)), none⟩, {}⟩] none) made_Dice_Some_C4) made_Dice_Some_C5)
def made_Dice_Some_C12 : TC := .ret
def made_Dice_Some_C10 : TC := (.pre [.frz 4, .frzo 0, .keep [4], .out [0]] made_Dice_Some_C12)
def made_Dice_Some_C6 : TC := (.seq (.rg [⟨⟨some 19, (.mov (.t 5)), none⟩, {}⟩, ⟨⟨some 4, (.mov (.t 19)), none⟩, {}⟩] none) made_Dice_Some_C10)
def made_Dice_Some_C2 : TC := (.pre [.frz 5] made_Dice_Some_C6)
def made_Dice_Some_C13 : TC := (.block 0 (.loop made_Dice_Some_N1 made_Dice_Some_C1))
def made_Dice_Some_C11 : TC := (.seq (.seq (.rg [⟨⟨some 6, (.mov (.c (I 0))), none⟩, {}⟩] none) made_Dice_Some_C13) made_Dice_Some_C2)
def made_Dice_Some_C7 : TC := (.seq (.rg [⟨⟨some 5, (.mov (.c (.lst true []))), none⟩, {}⟩] none) made_Dice_Some_C11)
def made_Dice_Some_C3 : TC := (.seq (.rg [⟨⟨some 4, (.mov (.c (.lst true []))), none⟩, {}⟩] none) made_Dice_Some_C7)
def made_Dice_Some_E (N : Nat) : List (Nat × Ent) := [(13, sfE [none, none] [.b (.v G_Dice), .v (.int .i64)] [.v (.int .i64)] (fun x => made_Dice_Next N x.1 x.2))]
def made_Dice_Some_L1 (N : Nat) (n : Nat) (x1 : Int) (x2 : Int) (x3 : List Int) (x4 : Int) (x5 : List Int) : Option ((List Int) × T_Dice) := loopN (normI 1 made_Dice_Some_N1) (run (made_Dice_Some_E N) N 1 made_Dice_Some_C1) n ⟨[(0, .ptr 0 0 0), (1, .int .i64 x1), (5, .whole 1), (6, .int .i64 x2)], [some (.box 0 [.lst false (.int .i64) x3, .int .i64 x4]), some (.arr (.int .i64) x5)]⟩ (blkK 0 (seqK (run (made_Dice_Some_E N) N 1 made_Dice_Some_C2) (finS made_Dice_Some_NE [(.t 4)] [.b (.v G_Dice), .v (.int .i64)] [.v (.list (.int .i64))] 1 1)))
theorem made_Dice_Some_L1_zero (N : Nat) (x1 : Int) (x2 : Int) (x3 : List Int) (x4 : Int) (x5 : List Int) : made_Dice_Some_L1 N 0 x1 x2 x3 x4 x5 = none := rfl
theorem made_Dice_Some_L1_succ (N : Nat) (n1 : Nat) (x1 : Int) (x2 : Int) (x3 : List Int) (x4 : Int) (x5 : List Int) : made_Dice_Some_L1 N (n1 + 1) x1 x2 x3 x4 x5 =
  bif (decide (x2 < x1)) then
    Option.bind (made_Dice_Next N (x3, x4) 3) fun r6 =>
    bif (r6.1 == 0) then
      bif fitsB (x5.length + 1) 8 then
      made_Dice_Some_L1 N n1 x1 (W (x2 + 1)) r6.2.1 r6.2.2 (x5 ++ [x2])
      else none
    else
      made_Dice_Some_L1 N n1 x1 (W (x2 + 1)) r6.2.1 r6.2.2 x5
  else
    some (x5, (x3, x4)) := by kernel_rfl
def made_Dice_Some (N : Nat) (a0 : T_Dice) (a1 : Int) : Option ((List Int) × T_Dice) :=
  made_Dice_Some_L1 N N a1 0 a0.1 a0.2 []
theorem made_Dice_Some_fn : FnOK Try.prog 24 20 (fun _ : Nat => false) made_Dice_Some_C3.er [(.t 4)] := FnOK.mk' Try.func24 (by kernel_rfl) (by kernel_rfl) (by kernel_rfl) (by kernel_rfl) (by kernel_rfl)
theorem made_Dice_Some_envok (N : Nat) : EnvOK Try.prog (made_Dice_Some_E N) := .cons (sfE_ok (made_Dice_Next_sf N)) (.nil)
theorem made_Dice_Some_sf (N : Nat) : SFOK Try.prog 24 [none, none] [.b (.v G_Dice), .v (.int .i64)] [.v (.list (.int .i64))] (fun x => made_Dice_Some N x.1 x.2) := sfOK (N := N) (p := 1) (q := 1) (ns := made_Dice_Some_NE) mixed made_Dice_Some_fn (made_Dice_Some_envok N) rfl rfl rfl (fun x => by kernel_rfl)
/-! made_Dice_Readers -/
def made_Dice_Readers_NE : List NS := [.own 4 G_TagReader, .frzo 0, .keep [4], .out [0]]
def made_Dice_Readers_N1 : List NS := [.own 5 G_TagReader, .keep [0, 3, 5, 6], .cmp]
def made_Dice_Readers_C4 : TC := (.cond (.t 11) .skip (.exit 0))
def made_Dice_Readers_C12 : TC := (.cond (.t 32) (.rg [⟨⟨some 33, (.mov (.t 0)), none⟩, {}⟩, ⟨⟨some 34, (.fadr 0 (.t 3)), none⟩, {}⟩, ⟨⟨some 35, (.load false 1 (.t 34)), none⟩, {}⟩, ⟨⟨some 36, (.len (.t 35)), none⟩, {}⟩, ⟨⟨some 37, (.call (.c (.fn 13 [])) [(.t 33), (.t 36)]), none⟩, {}⟩, ⟨⟨some 38, (.bslice false 1 [(I 0)] 1 [(0, (.t
  37))]), none⟩, ⟨(.int .i64), none⟩⟩, ⟨⟨some 39, (.fadr 0 (.t 7)), none⟩, {}⟩, ⟨⟨none, (.store 1 (.t 39) (.t 38)), none⟩, {}⟩] none) .skip)
def made_Dice_Readers_C13 : TC := (.rg [⟨⟨some 40, (.mov (.t 5)), none⟩, {}⟩, ⟨⟨some 41, (.load true 4 (.t 7)), none⟩, {}⟩, ⟨⟨some 42, (.bslice false 4 [(.lst true []), (I 0), (I 0), (I 0)] 1 [(0, (.t 41))]), none⟩, ⟨G_TagReader, none⟩⟩, ⟨⟨some 43, (.app 4 48 (.t 40) (.t 42)), none⟩, {}⟩, ⟨⟨some 5, (.mov (.t 43)), none⟩, {}⟩] none)
def made_Dice_Readers_C8 : TC := (.seq (.seq (.rg [⟨⟨some 29, (.fadr 0 (.t 7)), none⟩, {}⟩, ⟨⟨some 30, (.load false 1 (.t 29)), none⟩, {}⟩, ⟨⟨some 31, (.len (.t 30)), none⟩, {}⟩, ⟨⟨some 32, (.bin .eql (.t 31) (.c (I 0))), none⟩, {}⟩] none) made_Dice_Readers_C12) made_Dice_Readers_C13)
def made_Dice_Readers_C9 : TC := (.rg [⟨⟨some 12, (.mov (.t 6)), none⟩, {}⟩, ⟨⟨some 13, (.bin .sub (.t 12) (.c (I 1))), none⟩, {}⟩, ⟨⟨some 6, (.mov (.t 13)), none⟩, {}⟩] none)
def made_Dice_Readers_C5 : TC := (.seq (.block 1 (.seq (.rg [⟨⟨some 14, (.mov (.t 0)), none⟩, {}⟩, ⟨⟨some 15, (.fadr 0 (.t 3)), none⟩, {}⟩, ⟨⟨some 16, (.load false 1 (.t 15)), none⟩, {}⟩, ⟨⟨some 17, (.len (.t 16)), none⟩, {}⟩, ⟨⟨some 18, (.call (.c (.fn 24 [])) [(.t 14), (.t 17)]), none⟩, {}⟩, ⟨⟨some 19, (.mov (.t 0)), none⟩, {}⟩,
  ⟨⟨some 20, (.bslice false 1 [(I 0)] 3 [(0, (.c (I 9))), (1, (.c (I 29))), (2, (.c (I 4)))]), none⟩, ⟨(.int .i64), none⟩⟩, ⟨⟨some 21, (.call (.c (.fn 12 [])) [(.t 19), (.t 20)]), none⟩, {}⟩, ⟨⟨some 22, (.bin .add (.c (I 1)) (.t 21)), none⟩, {}⟩, ⟨⟨some 23, (.mov (.t 0)), none⟩, {}⟩, ⟨⟨some 24,
  (.call (.c (.fn 13 [])) [(.t 23), (.c (I 3))]), none⟩, {}⟩, ⟨⟨some 25, (.mov (.t 0)), none⟩, {}⟩, ⟨⟨some 26, (.bslice false 1 [(I 0)] 3 [(0, (.c (I 0))), (1, (.c (I 1))), (2, (.c (I 5)))]), none⟩, ⟨(.int .i64), none⟩⟩, ⟨⟨some 27, (.call (.c (.fn 12 [])) [(.t 25), (.t 26)]), none⟩, {}⟩, ⟨⟨some 28,
  (.build [(.lst true []), (I 0), (I 0), (I 0)] [(0, (1, (.t 18))), (1, (1, (.t 22))), (2, (1, (.t 24))), (3, (1, (.t 27)))]), none⟩, {}⟩, ⟨⟨some 7, (.alloc [(.lst true []), (I 0), (I 0), (I 0)]), none⟩, {}⟩, ⟨⟨none, (.store 4 (.t 7) (.t 28)), none⟩, {}⟩] none) made_Dice_Readers_C8))
  made_Dice_Readers_C9)
def made_Dice_Readers_C1 : TC := (.seq (.seq (.rg [⟨⟨some 10, (.mov (.t 6)), none⟩, {}⟩, ⟨⟨some 11, (.bin .gtr (.t 10) (.c (I 0))), none⟩, {}⟩] none) made_Dice_Readers_C4) made_Dice_Readers_C5)
def made_Dice_Readers_C10 : TC := .ret
def made_Dice_Readers_C6 : TC := (.pre [.own 4 G_TagReader, .frzo 0, .keep [4], .out [0]] made_Dice_Readers_C10)
def made_Dice_Readers_C2 : TC := (.seq (.rg [⟨⟨some 44, (.mov (.t 5)), none⟩, {}⟩, ⟨⟨some 4, (.mov (.t 44)), none⟩, {}⟩] none) made_Dice_Readers_C6)
def made_Dice_Readers_C14 : TC := (.block 0 (.loop made_Dice_Readers_N1 made_Dice_Readers_C1))
def made_Dice_Readers_C11 : TC := (.seq (.seq (.rg [⟨⟨some 8, (.mov (.t 0)), none⟩, {}⟩, ⟨⟨some 9, (.call (.c (.fn 13 [])) [(.t 8), (.c (I 4))]), none⟩, {}⟩, ⟨⟨some 6, (.mov (.t 9)), none⟩, {}⟩] none) made_Dice_Readers_C14) made_Dice_Readers_C2)
def made_Dice_Readers_C7 : TC := (.seq (.rg [⟨⟨some 5, (.mov (.c (.lst true []))), none⟩, {}⟩] none) made_Dice_Readers_C11)
def made_Dice_Readers_C3 : TC := (.seq (.rg [⟨⟨some 3, (.box (.t 1)), none⟩, {}⟩, ⟨⟨some 4, (.mov (.c (.lst true []))), none⟩, {}⟩] none) made_Dice_Readers_C7)
def made_Dice_Readers_E (N : Nat) : List (Nat × Ent) := [(13, sfE [none, none] [.b (.v G_Dice), .v (.int .i64)] [.v (.int .i64)] (fun x => made_Dice_Next N x.1 x.2)), (24, sfE [none, none] [.b (.v G_Dice), .v (.int .i64)] [.v (.list (.int .i64))] (fun x => made_Dice_Some N x.1 x.2)), (12, sfE [none, none] [.b (.v G_Dice), .v (.list (.int .i64))] [.v (.int .i64)] (fun x => made_Dice_Of N x.1 x.2))]
def made_Dice_Readers_L1 (N : Nat) (n : Nat) (x2 : Int) (x3 : List Int) (x4 : Int) (x5 : List T_Place) (x6 : List T_Road) (x7 : List T_TagReader) : Option ((List T_TagReader) × T_Dice) := loopN (normI 1 made_Dice_Readers_N1) (run (made_Dice_Readers_E N) N 1 made_Dice_Readers_C1) n ⟨[(0, .ptr 0 0 0), (3, .ptr 1 0 0), (5, .whole 2), (6, .int .i64 x2)], [some (.box 0 [.lst false (.int .i64) x3, .int .i64 x4]), some (.box 0 [.lst false G_Place x5, .lst false G_Road x6]), some (.arr G_TagReader x7)]⟩ (blkK 0 (seqK (run (made_Dice_Readers_E N) N 1 made_Dice_Readers_C2) (finS made_Dice_Readers_NE [(.t 4)] [.b (.v G_Dice), .v G_Mine] [.o (.a G_TagReader)] 1 1)))
theorem made_Dice_Readers_L1_zero (N : Nat) (x2 : Int) (x3 : List Int) (x4 : Int) (x5 : List T_Place) (x6 : List T_Road) (x7 : List T_TagReader) : made_Dice_Readers_L1 N 0 x2 x3 x4 x5 x6 x7 = none := rfl
theorem made_Dice_Readers_L1_succ (N : Nat) (n1 : Nat) (x2 : Int) (x3 : List Int) (x4 : Int) (x5 : List T_Place) (x6 : List T_Road) (x7 : List T_TagReader) : made_Dice_Readers_L1 N (n1 + 1) x2 x3 x4 x5 x6 x7 =
  bif (decide (x2 > 0)) then
    Option.bind (made_Dice_Some N (x3, x4) (x5.length : Int)) fun r8 =>
    Option.bind (made_Dice_Of N r8.2 [9, 29, 4]) fun r9 =>
    Option.bind (made_Dice_Next N r9.2 3) fun r10 =>
    Option.bind (made_Dice_Of N r10.2 [0, 1, 5]) fun r11 =>
    bif ((r8.1.length : Int) == 0) then
      Option.bind (made_Dice_Next N r11.2 (x5.length : Int)) fun r12 =>
      bif fitsB (x7.length + 1) 48 then
      made_Dice_Readers_L1 N n1 (W (x2 - 1)) r12.2.1 r12.2.2 x5 x6 (x7 ++ [([r12.1], (W (1 + r9.1), (r10.1, r11.1)))])
      else none
    else
      bif fitsB (x7.length + 1) 48 then
      made_Dice_Readers_L1 N n1 (W (x2 - 1)) r11.2.1 r11.2.2 x5 x6 (x7 ++ [(r8.1, (W (1 + r9.1), (r10.1, r11.1)))])
      else none
  else
    some (x7, (x3, x4)) := by kernel_rfl
def made_Dice_Readers (N : Nat) (a0 : T_Dice) (a1 : T_Mine) : Option ((List T_TagReader) × T_Dice) :=
  Option.bind (made_Dice_Next N a0 4) fun r1 =>
  made_Dice_Readers_L1 N N r1.1 r1.2.1 r1.2.2 a1.1 a1.2 []
theorem made_Dice_Readers_fn : FnOK Try.prog 11 45 (fun _ : Nat => false) made_Dice_Readers_C3.er [(.t 4)] := FnOK.mk' Try.func11 (by kernel_rfl) (by kernel_rfl) (by kernel_rfl) (by kernel_rfl) (by kernel_rfl)
theorem made_Dice_Readers_envok (N : Nat) : EnvOK Try.prog (made_Dice_Readers_E N) := .cons (sfE_ok (made_Dice_Next_sf N)) (.cons (sfE_ok (made_Dice_Some_sf N)) (.cons (sfE_ok (made_Dice_Of_sf N)) (.nil)))
theorem made_Dice_Readers_sf (N : Nat) : SFOK Try.prog 11 [none, none] [.b (.v G_Dice), .v G_Mine] [.o (.a G_TagReader)] (fun x => made_Dice_Readers N x.1 x.2) := sfOK (N := N) (p := 1) (q := 1) (ns := made_Dice_Readers_NE) mixed made_Dice_Readers_fn (made_Dice_Readers_envok N) rfl rfl rfl (fun x => by kernel_rfl)
/-! ref24_Blind -/
def ref24_Blind_C3 : TC := .ret
def ref24_Blind_C2 : TC := (.seq (.rg [⟨⟨some 3, (.fadr 2 (.t 1)), none⟩, {}⟩, ⟨⟨some 4, (.load false 1 (.t 3)), none⟩, {}⟩, ⟨⟨some 5, (.bin .add (.t 4) (.c (I 1))), none⟩, {}⟩, ⟨⟨some 6, (.fadr 1 (.t 1)), none⟩, {}⟩, ⟨⟨some 7, (.load false 1 (.t 6)), none⟩, {}⟩, ⟨⟨some 8, (.bin .mul (.t 5) (.t 7)), none⟩, {}⟩, ⟨⟨some 2, (.mov
  (.t 8)), none⟩, {}⟩] none) ref24_Blind_C3)
def ref24_Blind_C1 : TC := (.seq (.rg [⟨⟨some 1, (.box (.t 0)), none⟩, {}⟩, ⟨⟨some 2, (.mov (.c (I 0))), none⟩, {}⟩] none) ref24_Blind_C2)
def ref24_Blind_E (N : Nat) : List (Nat × Ent) := []
def ref24_Blind (N : Nat) (a0 : T_TagReader) : Option Int :=
  some (W ((W (a0.2.2.1 + 1)) * a0.2.1))
theorem ref24_Blind_fn : FnOK Try.prog 16 9 (fun _ : Nat => false) ref24_Blind_C1.er [(.t 2)] := FnOK.mk' Try.func16 (by kernel_rfl) (by kernel_rfl) (by kernel_rfl) (by kernel_rfl) (by kernel_rfl)
theorem ref24_Blind_envok (N : Nat) : EnvOK Try.prog (ref24_Blind_E N) := .nil
theorem ref24_Blind_pure (N : Nat) : PureOK Try.prog 16 [G_TagReader] [(.int .i64)] (fun x => ref24_Blind N x) := pureOK (N := N) mixed ref24_Blind_fn (ref24_Blind_envok N) rfl (fun x => by kernel_rfl)
/-! law24_sameAbsences -/
def law24_sameAbsences_N1 : List NS := [.wk 0 (.list G_Absence), .wk 1 (.list G_Absence), .keep [0, 1, 5], .cmp]
def law24_sameAbsences_C4 : TC := (.cond (.t 14) .skip (.exit 0))
def law24_sameAbsences_C12 : TC := .ret
def law24_sameAbsences_C8 : TC := (.cond (.t 25) (.seq (.rg [⟨⟨some 4, (.mov (.c (B false))), none⟩, {}⟩] none) law24_sameAbsences_C12) .skip)
def law24_sameAbsences_C9 : TC := (.rg [⟨⟨some 15, (.mov (.t 5)), none⟩, {}⟩, ⟨⟨some 16, (.bin .add (.t 15) (.c (I 1))), none⟩, {}⟩, ⟨⟨some 5, (.mov (.t 16)), none⟩, {}⟩] none)
def law24_sameAbsences_C5 : TC := (.seq (.block 1 (.seq (.rg [⟨⟨some 17, (.mov (.t 0)), none⟩, {}⟩, ⟨⟨some 18, (.mov (.t 5)), none⟩, {}⟩, ⟨⟨some 19, (.iadrS 4 (.t 17) (.t 18)), none⟩, {}⟩, ⟨⟨some 20, (.load true 4 (.t 19)), none⟩, {}⟩, ⟨⟨some 21, (.mov (.t 1)), none⟩, {}⟩, ⟨⟨some 22, (.mov (.t 5)), none⟩, {}⟩, ⟨⟨some 23, (.iadrS 4
  (.t 21) (.t 22)), none⟩, {}⟩, ⟨⟨some 24, (.load true 4 (.t 23)), none⟩, {}⟩, ⟨⟨some 25, (.eqa true [(0, 1), (1, 1), (2, 1), (3, 1)] (.t 20) (.t 24)), none⟩, {}⟩] (some [])) law24_sameAbsences_C8)) law24_sameAbsences_C9)
def law24_sameAbsences_C1 : TC := (.seq (.seq (.rg [⟨⟨some 11, (.mov (.t 5)), none⟩, {}⟩, ⟨⟨some 12, (.mov (.t 0)), none⟩, {}⟩, ⟨⟨some 13, (.len (.t 12)), none⟩, {}⟩, ⟨⟨some 14, (.bin .lss (.t 11) (.t 13)), none⟩, {}⟩] none) law24_sameAbsences_C4) law24_sameAbsences_C5)
def law24_sameAbsences_C6 : TC := .ret
def law24_sameAbsences_C2 : TC := (.seq (.rg [⟨⟨some 4, (.mov (.c (B true))), none⟩, {}⟩] none) law24_sameAbsences_C6)
def law24_sameAbsences_C13 : TC := .ret
def law24_sameAbsences_C10 : TC := (.cond (.t 10) (.seq (.rg [⟨⟨some 4, (.mov (.c (B false))), none⟩, {}⟩] none) law24_sameAbsences_C13) .skip)
def law24_sameAbsences_C14 : TC := (.block 0 (.loop law24_sameAbsences_N1 law24_sameAbsences_C1))
def law24_sameAbsences_C11 : TC := (.seq (.seq (.rg [⟨⟨some 5, (.mov (.c (I 0))), none⟩, {}⟩] none) law24_sameAbsences_C14) law24_sameAbsences_C2)
def law24_sameAbsences_C7 : TC := (.seq (.seq (.rg [⟨⟨some 6, (.mov (.t 0)), none⟩, {}⟩, ⟨⟨some 7, (.len (.t 6)), none⟩, {}⟩, ⟨⟨some 8, (.mov (.t 1)), none⟩, {}⟩, ⟨⟨some 9, (.len (.t 8)), none⟩, {}⟩, ⟨⟨some 10, (.bin .neq (.t 7) (.t 9)), none⟩, {}⟩] none) law24_sameAbsences_C10) law24_sameAbsences_C11)
def law24_sameAbsences_C3 : TC := (.seq (.rg [⟨⟨some 4, (.mov (.c (B false))), none⟩, {}⟩] none) law24_sameAbsences_C7)
def law24_sameAbsences_E (N : Nat) : List (Nat × Ent) := []
def law24_sameAbsences_L1 (N : Nat) (n : Nat) (x1 : List T_Absence) (x2 : List T_Absence) (x3 : Int) : Option Bool := loopN (normI 0 law24_sameAbsences_N1) (run (law24_sameAbsences_E N) N 0 law24_sameAbsences_C1) n ⟨[(0, .lst false G_Absence x1), (1, .lst false G_Absence x2), (5, .int .i64 x3)], []⟩ (blkK 0 (seqK (run (law24_sameAbsences_E N) N 0 law24_sameAbsences_C2) (fin [(.t 4)] [.bool])))
theorem law24_sameAbsences_L1_zero (N : Nat) (x1 : List T_Absence) (x2 : List T_Absence) (x3 : Int) : law24_sameAbsences_L1 N 0 x1 x2 x3 = none := rfl
theorem law24_sameAbsences_L1_succ (N : Nat) (n1 : Nat) (x1 : List T_Absence) (x2 : List T_Absence) (x3 : Int) : law24_sameAbsences_L1 N (n1 + 1) x1 x2 x3 =
  bif (decide (x3 < (x1.length : Int))) then
    bif inB x3 x1.length then
    let v4 := x1.getD x3.toNat D_Absence
    bif inB x3 x2.length then
    let v5 := x2.getD x3.toNat D_Absence
    bif (!((v4.1 == v5.1) && ((v4.2.1 == v5.2.1) && ((v4.2.2.1 == v5.2.2.1) && (v4.2.2.2 == v5.2.2.2))))) then
      some false
    else
      law24_sameAbsences_L1 N n1 x1 x2 (W (x3 + 1))
    else none
    else none
  else
    some true := by kernel_rfl
def law24_sameAbsences (N : Nat) (a0 : List T_Absence) (a1 : List T_Absence) : Option Bool :=
  bif ((a0.length : Int) != (a1.length : Int)) then
    some false
  else
    law24_sameAbsences_L1 N N a0 a1 0
theorem law24_sameAbsences_fn : FnOK Try.prog 21 26 (fun _ : Nat => false) law24_sameAbsences_C3.er [(.t 4)] := FnOK.mk' Try.func21 (by kernel_rfl) (by kernel_rfl) (by kernel_rfl) (by kernel_rfl) (by kernel_rfl)
theorem law24_sameAbsences_envok (N : Nat) : EnvOK Try.prog (law24_sameAbsences_E N) := .nil
theorem law24_sameAbsences_pure (N : Nat) : PureOK Try.prog 21 [(.list G_Absence), (.list G_Absence)] [.bool] (fun x => law24_sameAbsences N x.1 x.2) := pureOK (N := N) mixed law24_sameAbsences_fn (law24_sameAbsences_envok N) rfl (fun x => by kernel_rfl)
/-! ref23_Valid -/
def ref23_Valid_N1 : List NS := [.keep [1, 3], .cmp]
def ref23_Valid_C4 : TC := (.cond (.t 8) .skip (.exit 0))
def ref23_Valid_C11 : TC := .ret
def ref23_Valid_C8 : TC := (.cond (.t 42) (.seq (.rg [⟨⟨some 2, (.mov (.c (B false))), none⟩, {}⟩] none) ref23_Valid_C11) .skip)
def ref23_Valid_C9 : TC := (.rg [⟨⟨some 9, (.mov (.t 3)), none⟩, {}⟩, ⟨⟨some 10, (.bin .add (.t 9) (.c (I 1))), none⟩, {}⟩, ⟨⟨some 3, (.mov (.t 10)), none⟩, {}⟩] none)
def ref23_Valid_C5 : TC := (.seq (.block 1 (.seq (.rg [⟨⟨some 11, (.fadr 3 (.t 1)), none⟩, {}⟩, ⟨⟨some 12, (.load false 1 (.t 11)), none⟩, {}⟩, ⟨⟨some 13, (.mov (.t 3)), none⟩, {}⟩, ⟨⟨some 14, (.iadrS 1 (.t 12) (.t 13)), none⟩, {}⟩, ⟨⟨some 15, (.load false 1 (.t 14)), none⟩, {}⟩, ⟨⟨some 16, (.bin .lss (.t 15) (.c (I 1))),
  none⟩, {}⟩, ⟨⟨some 17, (.mov (.t 16)), none⟩, {}⟩, ⟨⟨some 18, (.fadr 3 (.t 1)), some (17, false)⟩, {}⟩, ⟨⟨some 19, (.load false 1 (.t 18)), some (17, false)⟩, {}⟩, ⟨⟨some 20, (.mov (.t 3)), some (17, false)⟩, {}⟩, ⟨⟨some 21, (.iadrS 1 (.t 19) (.t 20)), some (17, false)⟩, {}⟩, ⟨⟨some 22, (.load
  false 1 (.t 21)), some (17, false)⟩, {}⟩, ⟨⟨some 23, (.bin .gtr (.t 22) (.c (I 65535))), some (17, false)⟩, {}⟩, ⟨⟨some 24, (.pick (.t 17) (.c (B true)) (.t 23)), none⟩, {}⟩, ⟨⟨some 25, (.mov (.t 24)), none⟩, {}⟩, ⟨⟨some 26, (.mov (.t 3)), some (25, false)⟩, {}⟩, ⟨⟨some 27, (.bin .gtr (.t 26) (.c
  (I 0))), some (25, false)⟩, {}⟩, ⟨⟨some 28, (.mov (.t 27)), some (25, false)⟩, {}⟩, ⟨⟨some 29, (.fadr 3 (.t 1)), some (28, true)⟩, {}⟩, ⟨⟨some 30, (.load false 1 (.t 29)), some (28, true)⟩, {}⟩, ⟨⟨some 31, (.mov (.t 3)), some (28, true)⟩, {}⟩, ⟨⟨some 32, (.iadrS 1 (.t 30) (.t 31)), some (28,
  true)⟩, {}⟩, ⟨⟨some 33, (.load false 1 (.t 32)), some (28, true)⟩, {}⟩, ⟨⟨some 34, (.fadr 3 (.t 1)), some (28, true)⟩, {}⟩, ⟨⟨some 35, (.load false 1 (.t 34)), some (28, true)⟩, {}⟩, ⟨⟨some 36, (.mov (.t 3)), some (28, true)⟩, {}⟩, ⟨⟨some 37, (.bin .sub (.t 36) (.c (I 1))), some (28, true)⟩, {}⟩,
  ⟨⟨some 38, (.iadrS 1 (.t 35) (.t 37)), some (28, true)⟩, {}⟩, ⟨⟨some 39, (.load false 1 (.t 38)), some (28, true)⟩, {}⟩, ⟨⟨some 40, (.bin .leq (.t 33) (.t 39)), some (28, true)⟩, {}⟩, ⟨⟨some 41, (.pick (.t 28) (.t 40) (.c (B false))), some (25, false)⟩, {}⟩, ⟨⟨some 42, (.pick (.t 25) (.c (B true))
  (.t 41)), none⟩, {}⟩] (some [])) ref23_Valid_C8)) ref23_Valid_C9)
def ref23_Valid_C1 : TC := (.seq (.seq (.rg [⟨⟨some 4, (.mov (.t 3)), none⟩, {}⟩, ⟨⟨some 5, (.fadr 3 (.t 1)), none⟩, {}⟩, ⟨⟨some 6, (.load false 1 (.t 5)), none⟩, {}⟩, ⟨⟨some 7, (.len (.t 6)), none⟩, {}⟩, ⟨⟨some 8, (.bin .lss (.t 4) (.t 7)), none⟩, {}⟩] none) ref23_Valid_C4) ref23_Valid_C5)
def ref23_Valid_C6 : TC := .ret
def ref23_Valid_C2 : TC := (.seq (.rg [⟨⟨some 43, (.fadr 0 (.t 1)), none⟩, {}⟩, ⟨⟨some 44, (.load false 1 (.t 43)), none⟩, {}⟩, ⟨⟨some 45, (.bin .geq (.t 44) (.c (I 0))), none⟩, {}⟩, ⟨⟨some 46, (.mov (.t 45)), none⟩, {}⟩, ⟨⟨some 47, (.fadr 0 (.t 1)), some (46, true)⟩, {}⟩, ⟨⟨some 48, (.load false 1 (.t 47)), some (46, true)⟩,
  {}⟩, ⟨⟨some 49, (.bin .lss (.t 48) (.c (I 32))), some (46, true)⟩, {}⟩, ⟨⟨some 50, (.pick (.t 46) (.t 49) (.c (B false))), none⟩, {}⟩, ⟨⟨some 51, (.mov (.t 50)), none⟩, {}⟩, ⟨⟨some 52, (.fadr 1 (.t 1)), some (51, true)⟩, {}⟩, ⟨⟨some 53, (.load false 1 (.t 52)), some (51, true)⟩, {}⟩, ⟨⟨some 54,
  (.bin .geq (.t 53) (.c (I 0))), some (51, true)⟩, {}⟩, ⟨⟨some 55, (.pick (.t 51) (.t 54) (.c (B false))), none⟩, {}⟩, ⟨⟨some 56, (.mov (.t 55)), none⟩, {}⟩, ⟨⟨some 57, (.fadr 1 (.t 1)), some (56, true)⟩, {}⟩, ⟨⟨some 58, (.load false 1 (.t 57)), some (56, true)⟩, {}⟩, ⟨⟨some 59, (.bin .leq (.t 58)
  (.c (I 65535))), some (56, true)⟩, {}⟩, ⟨⟨some 60, (.pick (.t 56) (.t 59) (.c (B false))), none⟩, {}⟩, ⟨⟨some 61, (.mov (.t 60)), none⟩, {}⟩, ⟨⟨some 62, (.fadr 2 (.t 1)), some (61, true)⟩, {}⟩, ⟨⟨some 63, (.load false 1 (.t 62)), some (61, true)⟩, {}⟩, ⟨⟨some 64, (.bin .geq (.t 63) (.c (I 0))),
  some (61, true)⟩, {}⟩, ⟨⟨some 65, (.pick (.t 61) (.t 64) (.c (B false))), none⟩, {}⟩, ⟨⟨some 66, (.mov (.t 65)), none⟩, {}⟩, ⟨⟨some 67, (.fadr 2 (.t 1)), some (66, true)⟩, {}⟩, ⟨⟨some 68, (.load false 1 (.t 67)), some (66, true)⟩, {}⟩, ⟨⟨some 69, (.bin .leq (.t 68) (.c (I 2147483648))), some (66,
  true)⟩, {}⟩, ⟨⟨some 70, (.pick (.t 66) (.t 69) (.c (B false))), none⟩, {}⟩, ⟨⟨some 71, (.mov (.t 70)), none⟩, {}⟩, ⟨⟨some 72, (.fadr 3 (.t 1)), some (71, true)⟩, {}⟩, ⟨⟨some 73, (.load false 1 (.t 72)), some (71, true)⟩, {}⟩, ⟨⟨some 74, (.len (.t 73)), some (71, true)⟩, {}⟩, ⟨⟨some 75, (.bin .leq
  (.t 74) (.c (I 20))), some (71, true)⟩, {}⟩, ⟨⟨some 76, (.pick (.t 71) (.t 75) (.c (B false))), none⟩, {}⟩, ⟨⟨some 2, (.mov (.t 76)), none⟩, {}⟩] none) ref23_Valid_C6)
def ref23_Valid_C10 : TC := (.block 0 (.loop ref23_Valid_N1 ref23_Valid_C1))
def ref23_Valid_C7 : TC := (.seq (.seq (.rg [⟨⟨some 3, (.mov (.c (I 0))), none⟩, {}⟩] none) ref23_Valid_C10) ref23_Valid_C2)
def ref23_Valid_C3 : TC := (.seq (.rg [⟨⟨some 1, (.box (.t 0)), none⟩, {}⟩, ⟨⟨some 2, (.mov (.c (B false))), none⟩, {}⟩] none) ref23_Valid_C7)
def ref23_Valid_E (N : Nat) : List (Nat × Ent) := []
def ref23_Valid_L1 (N : Nat) (n : Nat) (x1 : Int) (x2 : Int) (x3 : Int) (x4 : Int) (x5 : List Int) : Option Bool := loopN (normI 0 ref23_Valid_N1) (run (ref23_Valid_E N) N 0 ref23_Valid_C1) n ⟨[(1, .ptr 0 0 0), (3, .int .i64 x1)], [some (.box 0 [.int .i64 x2, .int .i64 x3, .int .i64 x4, .lst false (.int .i64) x5])]⟩ (blkK 0 (seqK (run (ref23_Valid_E N) N 0 ref23_Valid_C2) (fin [(.t 2)] [.bool])))
theorem ref23_Valid_L1_zero (N : Nat) (x1 : Int) (x2 : Int) (x3 : Int) (x4 : Int) (x5 : List Int) : ref23_Valid_L1 N 0 x1 x2 x3 x4 x5 = none := rfl
theorem ref23_Valid_L1_succ (N : Nat) (n1 : Nat) (x1 : Int) (x2 : Int) (x3 : Int) (x4 : Int) (x5 : List Int) : ref23_Valid_L1 N (n1 + 1) x1 x2 x3 x4 x5 =
  bif (decide (x1 < (x5.length : Int))) then
    bif inB x1 x5.length then
    bif (decide ((x5.getD x1.toNat 0) < 1)) then
      some false
    else
      bif inB x1 x5.length then
      bif (decide ((x5.getD x1.toNat 0) > 65535)) then
        some false
      else
        bif (decide (x1 > 0)) then
          bif inB x1 x5.length then
          bif inB (W (x1 - 1)) x5.length then
          bif (decide ((x5.getD x1.toNat 0) ≤ (x5.getD (W (x1 - 1)).toNat 0))) then
            some false
          else
            ref23_Valid_L1 N n1 (W (x1 + 1)) x2 x3 x4 x5
          else none
          else none
        else
          ref23_Valid_L1 N n1 (W (x1 + 1)) x2 x3 x4 x5
      else none
    else none
  else
    bif (decide (x2 ≥ 0)) then
      bif (decide (x2 < 32)) then
        bif (decide (x3 ≥ 0)) then
          bif (decide (x3 ≤ 65535)) then
            bif (decide (x4 ≥ 0)) then
              bif (decide (x4 ≤ 2147483648)) then
                some (decide ((x5.length : Int) ≤ 20))
              else
                some false
            else
              some false
          else
            some false
        else
          some false
      else
        some false
    else
      some false := by kernel_rfl
def ref23_Valid (N : Nat) (a0 : T_Report) : Option Bool :=
  ref23_Valid_L1 N N 0 a0.1 a0.2.1 a0.2.2.1 a0.2.2.2
theorem ref23_Valid_fn : FnOK Try.prog 41 77 (fun _ : Nat => false) ref23_Valid_C3.er [(.t 2)] := FnOK.mk' Try.func41 (by kernel_rfl) (by kernel_rfl) (by kernel_rfl) (by kernel_rfl) (by kernel_rfl)
theorem ref23_Valid_envok (N : Nat) : EnvOK Try.prog (ref23_Valid_E N) := .nil
theorem ref23_Valid_pure (N : Nat) : PureOK Try.prog 41 [G_Report] [.bool] (fun x => ref23_Valid N x) := pureOK (N := N) mixed ref23_Valid_fn (ref23_Valid_envok N) rfl (fun x => by kernel_rfl)
/-! ref24_Of -/
def ref24_Of_N1 : List NS := [.own 6 G_Absence, .wk 0 (.list G_TagReader), .keep [0, 3, 6, 7], .cmp]
def ref24_Of_C4 : TC := (.cond (.t 20) .skip (.exit 0))
def ref24_Of_C8 : TC := (.rg [⟨⟨some 21, (.mov (.t 7)), none⟩, {}⟩, ⟨⟨some 22, (.bin .add (.t 21) (.c (I 1))), none⟩, {}⟩, ⟨⟨some 7, (.mov (.t 22)), none⟩, {}⟩] none)
def ref24_Of_C5 : TC := (.seq (.block 1 (.rg [⟨⟨some 23, (.mov (.t 6)), none⟩, {}⟩, ⟨⟨some 24, (.fadr 0 (.t 3)), none⟩, {}⟩, ⟨⟨some 25, (.load false 1 (.t 24)), none⟩, {}⟩, ⟨⟨some 26, (.fadr 3 (.t 3)), none⟩, {}⟩, ⟨⟨some 27, (.load false 1 (.t 26)), none⟩, {}⟩, ⟨⟨some 28, (.mov (.t 7)), none⟩, {}⟩, ⟨⟨some 29, (.iadrS 1 (.t
  27) (.t 28)), none⟩, {}⟩, ⟨⟨some 30, (.load false 1 (.t 29)), none⟩, {}⟩, ⟨⟨some 31, (.fadr 2 (.t 3)), none⟩, {}⟩, ⟨⟨some 32, (.load false 1 (.t 31)), none⟩, {}⟩, ⟨⟨some 33, (.mov (.t 0)), none⟩, {}⟩, ⟨⟨some 34, (.fadr 0 (.t 3)), none⟩, {}⟩, ⟨⟨some 35, (.load false 1 (.t 34)), none⟩, {}⟩, ⟨⟨some
  36, (.iadrS 4 (.t 33) (.t 35)), none⟩, {}⟩, ⟨⟨some 37, (.fadr 3 (.t 36)), none⟩, {}⟩, ⟨⟨some 38, (.load false 1 (.t 37)), none⟩, {}⟩, ⟨⟨some 39, (.bin .sub (.t 32) (.t 38)), none⟩, {}⟩, ⟨⟨some 40, (.mm true [(.c (I 0)), (.t 39)]), none⟩, {}⟩, ⟨⟨some 41, (.fadr 2 (.t 3)), none⟩, {}⟩, ⟨⟨some 42,
  (.load false 1 (.t 41)), none⟩, {}⟩, ⟨⟨some 43, (.mov (.t 0)), none⟩, {}⟩, ⟨⟨some 44, (.fadr 0 (.t 3)), none⟩, {}⟩, ⟨⟨some 45, (.load false 1 (.t 44)), none⟩, {}⟩, ⟨⟨some 46, (.iadrS 4 (.t 43) (.t 45)), none⟩, {}⟩, ⟨⟨some 47, (.fadr 3 (.t 46)), none⟩, {}⟩, ⟨⟨some 48, (.load false 1 (.t 47)), none⟩,
  {}⟩, ⟨⟨some 49, (.bin .add (.t 42) (.t 48)), none⟩, {}⟩, ⟨⟨some 50, (.build [(I 0), (I 0), (I 0), (I 0)] [(0, (1, (.t 25))), (1, (1, (.t 30))), (2, (1, (.t 40))), (3, (1, (.t 49)))]), none⟩, {}⟩, ⟨⟨some 51, (.bslice false 4 [(I 0), (I 0), (I 0), (I 0)] 1 [(0, (.t 50))]), none⟩, ⟨G_Absence, none⟩⟩,
  ⟨⟨some 52, (.app 4 32 (.t 23) (.t 51)), none⟩, {}⟩, ⟨⟨some 6, (.mov (.t 52)), none⟩, {}⟩] (some []))) ref24_Of_C8)
def ref24_Of_C1 : TC := (.seq (.seq (.rg [⟨⟨some 16, (.mov (.t 7)), none⟩, {}⟩, ⟨⟨some 17, (.fadr 3 (.t 3)), none⟩, {}⟩, ⟨⟨some 18, (.load false 1 (.t 17)), none⟩, {}⟩, ⟨⟨some 19, (.len (.t 18)), none⟩, {}⟩, ⟨⟨some 20, (.bin .lss (.t 16) (.t 19)), none⟩, {}⟩] none) ref24_Of_C4) ref24_Of_C5)
def ref24_Of_C12 : TC := .ret
def ref24_Of_C9 : TC := (.pre [.frz 4] ref24_Of_C12)
def ref24_Of_C6 : TC := (.seq (.rg [⟨⟨some 53, (.mov (.t 6)), none⟩, {}⟩, ⟨⟨some 4, (.mov (.t 53)), none⟩, {}⟩, ⟨⟨some 5, (.mov (.c (I 0))), none⟩, {}⟩] none) ref24_Of_C9)
def ref24_Of_C2 : TC := (.pre [.frz 6] ref24_Of_C6)
def ref24_Of_C16 : TC := .ret
def ref24_Of_C13 : TC := (.pre [.frz 4] ref24_Of_C16)
def ref24_Of_C10 : TC := (.cond (.t 10) (.seq (.rg [⟨⟨some 4, (.mov (.c (.lst true []))), none⟩, {}⟩, ⟨⟨some 5, (.mov (.c (I 6))), none⟩, {}⟩] none) ref24_Of_C13) .skip)
def ref24_Of_C19 : TC := .ret
def ref24_Of_C17 : TC := (.pre [.frz 4] ref24_Of_C19)
def ref24_Of_C14 : TC := (.cond (.t 15) (.seq (.rg [⟨⟨some 4, (.mov (.c (.lst true []))), none⟩, {}⟩, ⟨⟨some 5, (.mov (.c (I 40))), none⟩, {}⟩] none) ref24_Of_C17) .skip)
def ref24_Of_C20 : TC := (.block 0 (.loop ref24_Of_N1 ref24_Of_C1))
def ref24_Of_C18 : TC := (.seq (.seq (.rg [⟨⟨some 7, (.mov (.c (I 0))), none⟩, {}⟩] none) ref24_Of_C20) ref24_Of_C2)
def ref24_Of_C15 : TC := (.seq (.rg [⟨⟨some 6, (.mov (.c (.lst true []))), none⟩, {}⟩] none) ref24_Of_C18)
def ref24_Of_C11 : TC := (.seq (.seq (.rg [⟨⟨some 11, (.fadr 0 (.t 3)), none⟩, {}⟩, ⟨⟨some 12, (.load false 1 (.t 11)), none⟩, {}⟩, ⟨⟨some 13, (.mov (.t 0)), none⟩, {}⟩, ⟨⟨some 14, (.len (.t 13)), none⟩, {}⟩, ⟨⟨some 15, (.bin .geq (.t 12) (.t 14)), none⟩, {}⟩] none) ref24_Of_C14) ref24_Of_C15)
def ref24_Of_C7 : TC := (.seq (.seq (.rg [⟨⟨some 8, (.load true 4 (.t 3)), none⟩, {}⟩, ⟨⟨some 9, (.call (.c (.fn 41 [])) [(.t 8)]), none⟩, {}⟩, ⟨⟨some 10, (.un .not (.t 9)), none⟩, {}⟩] none) ref24_Of_C10) ref24_Of_C11)
def ref24_Of_C3 : TC := (.seq (.rg [⟨⟨some 3, (.box (.t 1)), none⟩, {}⟩, ⟨⟨some 4, (.mov (.c (.lst true []))), none⟩, {}⟩, ⟨⟨some 5, (.mov (.c (I 0))), none⟩, {}⟩] none) ref24_Of_C7)
def ref24_Of_E (N : Nat) : List (Nat × Ent) := [(41, pureE [G_Report] [.bool] (fun x => ref23_Valid N x))]
def ref24_Of_L1 (N : Nat) (n : Nat) (x2 : List T_TagReader) (x3 : Int) (x4 : Int) (x5 : Int) (x6 : Int) (x7 : List Int) (x8 : List T_Absence) : Option ((List T_Absence) × Int) := loopN (normI 0 ref24_Of_N1) (run (ref24_Of_E N) N 0 ref24_Of_C1) n ⟨[(0, .lst false G_TagReader x2), (3, .ptr 0 0 0), (6, .whole 1), (7, .int .i64 x3)], [some (.box 0 [.int .i64 x4, .int .i64 x5, .int .i64 x6, .lst false (.int .i64) x7]), some (.arr G_Absence x8)]⟩ (blkK 0 (seqK (run (ref24_Of_E N) N 0 ref24_Of_C2) (fin [(.t 4), (.t 5)] [(.list G_Absence), (.int .i64)])))
theorem ref24_Of_L1_zero (N : Nat) (x2 : List T_TagReader) (x3 : Int) (x4 : Int) (x5 : Int) (x6 : Int) (x7 : List Int) (x8 : List T_Absence) : ref24_Of_L1 N 0 x2 x3 x4 x5 x6 x7 x8 = none := rfl
theorem ref24_Of_L1_succ (N : Nat) (n1 : Nat) (x2 : List T_TagReader) (x3 : Int) (x4 : Int) (x5 : Int) (x6 : Int) (x7 : List Int) (x8 : List T_Absence) : ref24_Of_L1 N (n1 + 1) x2 x3 x4 x5 x6 x7 x8 =
  bif (decide (x3 < (x7.length : Int))) then
    bif inB x3 x7.length then
    bif inB x4 x2.length then
    bif inB x4 x2.length then
    bif fitsB (x8.length + 1) 32 then
    ref24_Of_L1 N n1 x2 (W (x3 + 1)) x4 x5 x6 x7 (x8 ++ [(x4, (x7.getD x3.toNat 0, ((max 0 (W (x6 - (x2.getD x4.toNat D_TagReader).2.2.2))), W (x6 + (x2.getD x4.toNat D_TagReader).2.2.2))))])
    else none
    else none
    else none
    else none
  else
    some (x8, 0) := by kernel_rfl
def ref24_Of (N : Nat) (a0 : List T_TagReader) (a1 : T_Report) : Option ((List T_Absence) × Int) :=
  Option.bind (ref23_Valid N a1) fun r1 =>
  bif (!r1) then
    some ([], 6)
  else
    bif (decide (a1.1 ≥ (a0.length : Int))) then
      some ([], 40)
    else
      ref24_Of_L1 N N a0 0 a1.1 a1.2.1 a1.2.2.1 a1.2.2.2 []
theorem ref24_Of_fn : FnOK Try.prog 25 54 (fun _ : Nat => false) ref24_Of_C3.er [(.t 4), (.t 5)] := FnOK.mk' Try.func25 (by kernel_rfl) (by kernel_rfl) (by kernel_rfl) (by kernel_rfl) (by kernel_rfl)
theorem ref24_Of_envok (N : Nat) : EnvOK Try.prog (ref24_Of_E N) := .cons (pureE_ok (ref23_Valid_pure N)) (.nil)
theorem ref24_Of_pure (N : Nat) : PureOK Try.prog 25 [(.list G_TagReader), G_Report] [(.list G_Absence), (.int .i64)] (fun x => ref24_Of N x.1 x.2) := pureOK (N := N) mixed ref24_Of_fn (ref24_Of_envok N) rfl (fun x => by kernel_rfl)
/-! law24_sameSights -/
def law24_sameSights_N1 : List NS := [.wk 0 (.list G_Absence), .wk 1 (.list G_Absence), .keep [0, 1, 5], .cmp]
def law24_sameSights_C4 : TC := (.cond (.t 14) .skip (.exit 0))
def law24_sameSights_C12 : TC := .ret
def law24_sameSights_C8 : TC := (.cond (.t 25) (.seq (.rg [⟨⟨some 4, (.mov (.c (B false))), none⟩, {}⟩] none) law24_sameSights_C12) .skip)
def law24_sameSights_C9 : TC := (.rg [⟨⟨some 15, (.mov (.t 5)), none⟩, {}⟩, ⟨⟨some 16, (.bin .add (.t 15) (.c (I 1))), none⟩, {}⟩, ⟨⟨some 5, (.mov (.t 16)), none⟩, {}⟩] none)
def law24_sameSights_C5 : TC := (.seq (.block 1 (.seq (.rg [⟨⟨some 17, (.mov (.t 0)), none⟩, {}⟩, ⟨⟨some 18, (.mov (.t 5)), none⟩, {}⟩, ⟨⟨some 19, (.iadrS 4 (.t 17) (.t 18)), none⟩, {}⟩, ⟨⟨some 20, (.load true 4 (.t 19)), none⟩, {}⟩, ⟨⟨some 21, (.mov (.t 1)), none⟩, {}⟩, ⟨⟨some 22, (.mov (.t 5)), none⟩, {}⟩, ⟨⟨some 23, (.iadrS 4
  (.t 21) (.t 22)), none⟩, {}⟩, ⟨⟨some 24, (.load true 4 (.t 23)), none⟩, {}⟩, ⟨⟨some 25, (.eqa true [(0, 1), (1, 1), (2, 1), (3, 1)] (.t 20) (.t 24)), none⟩, {}⟩] (some [])) law24_sameSights_C8)) law24_sameSights_C9)
def law24_sameSights_C1 : TC := (.seq (.seq (.rg [⟨⟨some 11, (.mov (.t 5)), none⟩, {}⟩, ⟨⟨some 12, (.mov (.t 0)), none⟩, {}⟩, ⟨⟨some 13, (.len (.t 12)), none⟩, {}⟩, ⟨⟨some 14, (.bin .lss (.t 11) (.t 13)), none⟩, {}⟩] none) law24_sameSights_C4) law24_sameSights_C5)
def law24_sameSights_C6 : TC := .ret
def law24_sameSights_C2 : TC := (.seq (.rg [⟨⟨some 4, (.mov (.c (B true))), none⟩, {}⟩] none) law24_sameSights_C6)
def law24_sameSights_C13 : TC := .ret
def law24_sameSights_C10 : TC := (.cond (.t 10) (.seq (.rg [⟨⟨some 4, (.mov (.c (B false))), none⟩, {}⟩] none) law24_sameSights_C13) .skip)
def law24_sameSights_C14 : TC := (.block 0 (.loop law24_sameSights_N1 law24_sameSights_C1))
def law24_sameSights_C11 : TC := (.seq (.seq (.rg [⟨⟨some 5, (.mov (.c (I 0))), none⟩, {}⟩] none) law24_sameSights_C14) law24_sameSights_C2)
def law24_sameSights_C7 : TC := (.seq (.seq (.rg [⟨⟨some 6, (.mov (.t 0)), none⟩, {}⟩, ⟨⟨some 7, (.len (.t 6)), none⟩, {}⟩, ⟨⟨some 8, (.mov (.t 1)), none⟩, {}⟩, ⟨⟨some 9, (.len (.t 8)), none⟩, {}⟩, ⟨⟨some 10, (.bin .neq (.t 7) (.t 9)), none⟩, {}⟩] none) law24_sameSights_C10) law24_sameSights_C11)
def law24_sameSights_C3 : TC := (.seq (.rg [⟨⟨some 4, (.mov (.c (B false))), none⟩, {}⟩] none) law24_sameSights_C7)
def law24_sameSights_E (N : Nat) : List (Nat × Ent) := []
def law24_sameSights_L1 (N : Nat) (n : Nat) (x1 : List T_Absence) (x2 : List T_Absence) (x3 : Int) : Option Bool := loopN (normI 0 law24_sameSights_N1) (run (law24_sameSights_E N) N 0 law24_sameSights_C1) n ⟨[(0, .lst false G_Absence x1), (1, .lst false G_Absence x2), (5, .int .i64 x3)], []⟩ (blkK 0 (seqK (run (law24_sameSights_E N) N 0 law24_sameSights_C2) (fin [(.t 4)] [.bool])))
theorem law24_sameSights_L1_zero (N : Nat) (x1 : List T_Absence) (x2 : List T_Absence) (x3 : Int) : law24_sameSights_L1 N 0 x1 x2 x3 = none := rfl
theorem law24_sameSights_L1_succ (N : Nat) (n1 : Nat) (x1 : List T_Absence) (x2 : List T_Absence) (x3 : Int) : law24_sameSights_L1 N (n1 + 1) x1 x2 x3 =
  bif (decide (x3 < (x1.length : Int))) then
    bif inB x3 x1.length then
    let v4 := x1.getD x3.toNat D_Absence
    bif inB x3 x2.length then
    let v5 := x2.getD x3.toNat D_Absence
    bif (!((v4.1 == v5.1) && ((v4.2.1 == v5.2.1) && ((v4.2.2.1 == v5.2.2.1) && (v4.2.2.2 == v5.2.2.2))))) then
      some false
    else
      law24_sameSights_L1 N n1 x1 x2 (W (x3 + 1))
    else none
    else none
  else
    some true := by kernel_rfl
def law24_sameSights (N : Nat) (a0 : List T_Absence) (a1 : List T_Absence) : Option Bool :=
  bif ((a0.length : Int) != (a1.length : Int)) then
    some false
  else
    law24_sameSights_L1 N N a0 a1 0
theorem law24_sameSights_fn : FnOK Try.prog 26 26 (fun _ : Nat => false) law24_sameSights_C3.er [(.t 4)] := FnOK.mk' Try.func26 (by kernel_rfl) (by kernel_rfl) (by kernel_rfl) (by kernel_rfl) (by kernel_rfl)
theorem law24_sameSights_envok (N : Nat) : EnvOK Try.prog (law24_sameSights_E N) := .nil
theorem law24_sameSights_pure (N : Nat) : PureOK Try.prog 26 [(.list G_Absence), (.list G_Absence)] [.bool] (fun x => law24_sameSights N x.1 x.2) := pureOK (N := N) mixed law24_sameSights_fn (law24_sameSights_envok N) rfl (fun x => by kernel_rfl)
/-! ref23_Has -/
def ref23_Has_N1 : List NS := [.wk 0 (.list (.int .i64)), .keep [0, 1, 5], .cmp]
def ref23_Has_C4 : TC := (.cond (.t 9) .skip (.exit 0))
def ref23_Has_C11 : TC := .ret
def ref23_Has_C8 : TC := (.cond (.t 17) (.seq (.rg [⟨⟨some 4, (.mov (.c (B true))), none⟩, {}⟩] none) ref23_Has_C11) .skip)
def ref23_Has_C9 : TC := (.rg [⟨⟨some 10, (.mov (.t 5)), none⟩, {}⟩, ⟨⟨some 11, (.bin .add (.t 10) (.c (I 1))), none⟩, {}⟩, ⟨⟨some 5, (.mov (.t 11)), none⟩, {}⟩] none)
def ref23_Has_C5 : TC := (.seq (.block 1 (.seq (.rg [⟨⟨some 12, (.mov (.t 0)), none⟩, {}⟩, ⟨⟨some 13, (.mov (.t 5)), none⟩, {}⟩, ⟨⟨some 14, (.iadrS 1 (.t 12) (.t 13)), none⟩, {}⟩, ⟨⟨some 15, (.load false 1 (.t 14)), none⟩, {}⟩, ⟨⟨some 16, (.mov (.t 1)), none⟩, {}⟩, ⟨⟨some 17, (.bin .eql (.t 15) (.t 16)), none⟩, {}⟩] none)
  ref23_Has_C8)) ref23_Has_C9)
def ref23_Has_C1 : TC := (.seq (.seq (.rg [⟨⟨some 6, (.mov (.t 5)), none⟩, {}⟩, ⟨⟨some 7, (.mov (.t 0)), none⟩, {}⟩, ⟨⟨some 8, (.len (.t 7)), none⟩, {}⟩, ⟨⟨some 9, (.bin .lss (.t 6) (.t 8)), none⟩, {}⟩] none) ref23_Has_C4) ref23_Has_C5)
def ref23_Has_C6 : TC := .ret
def ref23_Has_C2 : TC := (.seq (.rg [⟨⟨some 4, (.mov (.c (B false))), none⟩, {}⟩] none) ref23_Has_C6)
def ref23_Has_C10 : TC := (.block 0 (.loop ref23_Has_N1 ref23_Has_C1))
def ref23_Has_C7 : TC := (.seq (.seq (.rg [⟨⟨some 5, (.mov (.c (I 0))), none⟩, {}⟩] none) ref23_Has_C10) ref23_Has_C2)
def ref23_Has_C3 : TC := (.seq (.rg [⟨⟨some 4, (.mov (.c (B false))), none⟩, {}⟩] none) ref23_Has_C7)
def ref23_Has_E (N : Nat) : List (Nat × Ent) := []
def ref23_Has_L1 (N : Nat) (n : Nat) (x1 : List Int) (x2 : Int) (x3 : Int) : Option Bool := loopN (normI 0 ref23_Has_N1) (run (ref23_Has_E N) N 0 ref23_Has_C1) n ⟨[(0, .lst false (.int .i64) x1), (1, .int .i64 x2), (5, .int .i64 x3)], []⟩ (blkK 0 (seqK (run (ref23_Has_E N) N 0 ref23_Has_C2) (fin [(.t 4)] [.bool])))
theorem ref23_Has_L1_zero (N : Nat) (x1 : List Int) (x2 : Int) (x3 : Int) : ref23_Has_L1 N 0 x1 x2 x3 = none := rfl
theorem ref23_Has_L1_succ (N : Nat) (n1 : Nat) (x1 : List Int) (x2 : Int) (x3 : Int) : ref23_Has_L1 N (n1 + 1) x1 x2 x3 =
  bif (decide (x3 < (x1.length : Int))) then
    bif inB x3 x1.length then
    bif ((x1.getD x3.toNat 0) == x2) then
      some true
    else
      ref23_Has_L1 N n1 x1 x2 (W (x3 + 1))
    else none
  else
    some false := by kernel_rfl
def ref23_Has (N : Nat) (a0 : List Int) (a1 : Int) : Option Bool :=
  ref23_Has_L1 N N a0 a1 0
theorem ref23_Has_fn : FnOK Try.prog 42 18 (fun _ : Nat => false) ref23_Has_C3.er [(.t 4)] := FnOK.mk' Try.func42 (by kernel_rfl) (by kernel_rfl) (by kernel_rfl) (by kernel_rfl) (by kernel_rfl)
theorem ref23_Has_envok (N : Nat) : EnvOK Try.prog (ref23_Has_E N) := .nil
theorem ref23_Has_pure (N : Nat) : PureOK Try.prog 42 [(.list (.int .i64)), (.int .i64)] [.bool] (fun x => ref23_Has N x.1 x.2) := pureOK (N := N) mixed ref23_Has_fn (ref23_Has_envok N) rfl (fun x => by kernel_rfl)
/-! ref24_follows -/
def ref24_follows_C3 : TC := .ret
def ref24_follows_C2 : TC := (.seq (.rg [⟨⟨some 7, (.fadr 1 (.t 5)), none⟩, {}⟩, ⟨⟨some 8, (.load false 1 (.t 7)), none⟩, {}⟩, ⟨⟨some 9, (.fadr 1 (.t 4)), none⟩, {}⟩, ⟨⟨some 10, (.load false 1 (.t 9)), none⟩, {}⟩, ⟨⟨some 11, (.bin .add (.t 10) (.c (I 1))), none⟩, {}⟩, ⟨⟨some 12, (.bin .rem (.t 11) (.c (I 65536))), none⟩, {}⟩,
  ⟨⟨some 13, (.bin .eql (.t 8) (.t 12)), none⟩, {}⟩, ⟨⟨some 14, (.mov (.t 13)), none⟩, {}⟩, ⟨⟨some 15, (.fadr 2 (.t 5)), some (14, true)⟩, {}⟩, ⟨⟨some 16, (.load false 1 (.t 15)), some (14, true)⟩, {}⟩, ⟨⟨some 17, (.fadr 2 (.t 4)), some (14, true)⟩, {}⟩, ⟨⟨some 18, (.load false 1 (.t 17)), some (14,
  true)⟩, {}⟩, ⟨⟨some 19, (.bin .geq (.t 16) (.t 18)), some (14, true)⟩, {}⟩, ⟨⟨some 20, (.pick (.t 14) (.t 19) (.c (B false))), none⟩, {}⟩, ⟨⟨some 21, (.mov (.t 20)), none⟩, {}⟩, ⟨⟨some 22, (.fadr 2 (.t 5)), some (21, true)⟩, {}⟩, ⟨⟨some 23, (.load false 1 (.t 22)), some (21, true)⟩, {}⟩, ⟨⟨some 24,
  (.fadr 2 (.t 4)), some (21, true)⟩, {}⟩, ⟨⟨some 25, (.load false 1 (.t 24)), some (21, true)⟩, {}⟩, ⟨⟨some 26, (.bin .sub (.t 23) (.t 25)), some (21, true)⟩, {}⟩, ⟨⟨some 27, (.fadr 1 (.t 3)), some (21, true)⟩, {}⟩, ⟨⟨some 28, (.load false 1 (.t 27)), some (21, true)⟩, {}⟩, ⟨⟨some 29, (.fadr 3 (.t
  3)), some (21, true)⟩, {}⟩, ⟨⟨some 30, (.load false 1 (.t 29)), some (21, true)⟩, {}⟩, ⟨⟨some 31, (.bin .mul (.c (I 2)) (.t 30)), some (21, true)⟩, {}⟩, ⟨⟨some 32, (.bin .add (.t 28) (.t 31)), some (21, true)⟩, {}⟩, ⟨⟨some 33, (.bin .leq (.t 26) (.t 32)), some (21, true)⟩, {}⟩, ⟨⟨some 34, (.pick
  (.t 21) (.t 33) (.c (B false))), none⟩, {}⟩, ⟨⟨some 6, (.mov (.t 34)), none⟩, {}⟩] none) ref24_follows_C3)
def ref24_follows_C1 : TC := (.seq (.rg [⟨⟨some 3, (.box (.t 0)), none⟩, {}⟩, ⟨⟨some 4, (.box (.t 1)), none⟩, {}⟩, ⟨⟨some 5, (.box (.t 2)), none⟩, {}⟩, ⟨⟨some 6, (.mov (.c (B false))), none⟩, {}⟩] none) ref24_follows_C2)
def ref24_follows_E (N : Nat) : List (Nat × Ent) := []
def ref24_follows (N : Nat) (a0 : T_TagReader) (a1 : T_Report) (a2 : T_Report) : Option Bool :=
  bif (a2.2.1 == ((W (a1.2.1 + 1)).tmod 65536)) then
    bif (decide (a2.2.2.1 ≥ a1.2.2.1)) then
      some (decide ((W (a2.2.2.1 - a1.2.2.1)) ≤ (W (a0.2.1 + (W (2 * a0.2.2.2))))))
    else
      some false
  else
    some false
theorem ref24_follows_fn : FnOK Try.prog 43 35 (fun _ : Nat => false) ref24_follows_C1.er [(.t 6)] := FnOK.mk' Try.func43 (by kernel_rfl) (by kernel_rfl) (by kernel_rfl) (by kernel_rfl) (by kernel_rfl)
theorem ref24_follows_envok (N : Nat) : EnvOK Try.prog (ref24_follows_E N) := .nil
theorem ref24_follows_pure (N : Nat) : PureOK Try.prog 43 [G_TagReader, G_Report, G_Report] [.bool] (fun x => ref24_follows N x.1 x.2.1 x.2.2) := pureOK (N := N) mixed ref24_follows_fn (ref24_follows_envok N) rfl (fun x => by kernel_rfl)
/-! ref24_Absences -/
def ref24_Absences_N1 : List NS := [.wk 0 (.list G_TagReader), .wk 3 (.list G_Report), .keep [0, 1, 2, 3, 10], .cmp]
def ref24_Absences_N2 : List NS := [.own 12 G_Report, .wk 3 (.list G_Report), .keep [1, 2, 3, 11, 12, 13], .cmp]
def ref24_Absences_N3 : List NS := [.own 14 G_Absence, .wk 12 (.list G_Report), .keep [1, 2, 11, 12, 14, 15], .cmp]
def ref24_Absences_N4 : List NS := [.wk 12 (.list G_Report), .wk 14 (.list G_Absence), .keep [1, 2, 11, 12, 14, 15, 16], .cmp]
def ref24_Absences_C30 : TC := (.cond (.t 140) (.rg [⟨⟨some 141, (.mov (.t 14)), none⟩, {}⟩, ⟨⟨some 142, (.mov (.t 1)), none⟩, {}⟩, ⟨⟨some 143, (.mov (.t 2)), none⟩, {}⟩, ⟨⟨some 144, (.mov (.t 17)), none⟩, {}⟩, ⟨⟨some 145, (.mov (.t 18)), none⟩, {}⟩, ⟨⟨some 146, (.build [(I 0), (I 0), (I 0), (I 0)] [(0, (1, (.t 142))), (1, (1, (.t
  143))), (2, (1, (.t 144))), (3, (1, (.t 145)))]), none⟩, {}⟩, ⟨⟨some 147, (.bslice false 4 [(I 0), (I 0), (I 0), (I 0)] 1 [(0, (.t 146))]), none⟩, ⟨G_Absence, none⟩⟩, ⟨⟨some 148, (.app 4 32 (.t 141) (.t 147)), none⟩, {}⟩, ⟨⟨some 14, (.mov (.t 148)), none⟩, {}⟩] none) .skip)
def ref24_Absences_C31 : TC := (.rg [⟨⟨some 149, (.mov (.t 16)), none⟩, {}⟩, ⟨⟨some 150, (.bin .add (.t 149) (.c (I 1))), none⟩, {}⟩, ⟨⟨some 15, (.mov (.t 150)), none⟩, {}⟩] none)
def ref24_Absences_C13 : TC := (.seq (.seq (.rg [⟨⟨some 133, (.mov (.t 16)), none⟩, {}⟩, ⟨⟨some 134, (.mov (.t 15)), none⟩, {}⟩, ⟨⟨some 135, (.bin .gtr (.t 133) (.t 134)), none⟩, {}⟩, ⟨⟨some 136, (.mov (.t 135)), none⟩, {}⟩, ⟨⟨some 137, (.mov (.t 18)), some (136, true)⟩, {}⟩, ⟨⟨some 138, (.mov (.t 17)), some (136, true)⟩, {}⟩,
  ⟨⟨some 139, (.bin .gtr (.t 137) (.t 138)), some (136, true)⟩, {}⟩, ⟨⟨some 140, (.pick (.t 136) (.t 139) (.c (B false))), none⟩, {}⟩] none) ref24_Absences_C30) ref24_Absences_C31)
def ref24_Absences_C1 : TC := (.seq (.rg [⟨⟨some 117, (.mov (.t 12)), none⟩, {}⟩, ⟨⟨some 118, (.mov (.t 15)), none⟩, {}⟩, ⟨⟨some 119, (.iadrS 4 (.t 117) (.t 118)), none⟩, {}⟩, ⟨⟨some 120, (.fadr 2 (.t 119)), none⟩, {}⟩, ⟨⟨some 121, (.load false 1 (.t 120)), none⟩, {}⟩, ⟨⟨some 122, (.fadr 3 (.t 11)), none⟩, {}⟩, ⟨⟨some 123, (.load
  false 1 (.t 122)), none⟩, {}⟩, ⟨⟨some 124, (.bin .add (.t 121) (.t 123)), none⟩, {}⟩, ⟨⟨some 125, (.mov (.t 12)), none⟩, {}⟩, ⟨⟨some 126, (.mov (.t 16)), none⟩, {}⟩, ⟨⟨some 127, (.iadrS 4 (.t 125) (.t 126)), none⟩, {}⟩, ⟨⟨some 128, (.fadr 2 (.t 127)), none⟩, {}⟩, ⟨⟨some 129, (.load false 1 (.t
  128)), none⟩, {}⟩, ⟨⟨some 130, (.fadr 3 (.t 11)), none⟩, {}⟩, ⟨⟨some 131, (.load false 1 (.t 130)), none⟩, {}⟩, ⟨⟨some 132, (.bin .sub (.t 129) (.t 131)), none⟩, {}⟩, ⟨⟨some 17, (.mov (.t 124)), none⟩, {}⟩, ⟨⟨some 18, (.mov (.t 132)), none⟩, {}⟩] (some [])) ref24_Absences_C13)
def ref24_Absences_C14 : TC := (.cond (.t 75) .skip (.exit 4))
def ref24_Absences_C45 : TC := (.exit 5)
def ref24_Absences_C32 : TC := (.cond (.t 82) (.seq (.rg [⟨⟨some 83, (.mov (.t 15)), none⟩, {}⟩, ⟨⟨some 84, (.bin .add (.t 83) (.c (I 1))), none⟩, {}⟩, ⟨⟨some 15, (.mov (.t 84)), none⟩, {}⟩] none) ref24_Absences_C45) .skip)
def ref24_Absences_C17 : TC := (.cond (.t 114) .skip (.exit 6))
def ref24_Absences_C18 : TC := (.block 7 (.rg [⟨⟨some 115, (.mov (.t 16)), none⟩, {}⟩, ⟨⟨some 116, (.bin .add (.t 115) (.c (I 1))), none⟩, {}⟩, ⟨⟨some 16, (.mov (.t 116)), none⟩, {}⟩] none))
def ref24_Absences_C4 : TC := (.seq (.seq (.rg [⟨⟨some 86, (.mov (.t 16)), none⟩, {}⟩, ⟨⟨some 87, (.bin .add (.t 86) (.c (I 1))), none⟩, {}⟩, ⟨⟨some 88, (.mov (.t 12)), none⟩, {}⟩, ⟨⟨some 89, (.len (.t 88)), none⟩, {}⟩, ⟨⟨some 90, (.bin .lss (.t 87) (.t 89)), none⟩, {}⟩, ⟨⟨some 91, (.mov (.t 90)), none⟩, {}⟩, ⟨⟨some 92, (.mov (.t
  12)), some (91, true)⟩, {}⟩, ⟨⟨some 93, (.mov (.t 16)), some (91, true)⟩, {}⟩, ⟨⟨some 94, (.bin .add (.t 93) (.c (I 1))), some (91, true)⟩, {}⟩, ⟨⟨some 95, (.iadrS 4 (.t 92) (.t 94)), some (91, true)⟩, {}⟩, ⟨⟨some 96, (.fadr 3 (.t 95)), some (91, true)⟩, {}⟩, ⟨⟨some 97, (.load false 1 (.t 96)),
  some (91, true)⟩, {}⟩, ⟨⟨some 98, (.mov (.t 2)), some (91, true)⟩, {}⟩, ⟨⟨some 99, (.call (.c (.fn 42 [])) [(.t 97), (.t 98)]), some (91, true)⟩, {}⟩, ⟨⟨some 100, (.un .not (.t 99)), some (91, true)⟩, {}⟩, ⟨⟨some 101, (.pick (.t 91) (.t 100) (.c (B false))), none⟩, {}⟩, ⟨⟨some 102, (.mov (.t 101)),
  none⟩, {}⟩, ⟨⟨some 103, (.load true 4 (.t 11)), some (102, true)⟩, {}⟩, ⟨⟨some 104, (.mov (.t 12)), some (102, true)⟩, {}⟩, ⟨⟨some 105, (.mov (.t 16)), some (102, true)⟩, {}⟩, ⟨⟨some 106, (.iadrS 4 (.t 104) (.t 105)), some (102, true)⟩, {}⟩, ⟨⟨some 107, (.load true 4 (.t 106)), some (102, true)⟩,
  {}⟩, ⟨⟨some 108, (.mov (.t 12)), some (102, true)⟩, {}⟩, ⟨⟨some 109, (.mov (.t 16)), some (102, true)⟩, {}⟩, ⟨⟨some 110, (.bin .add (.t 109) (.c (I 1))), some (102, true)⟩, {}⟩, ⟨⟨some 111, (.iadrS 4 (.t 108) (.t 110)), some (102, true)⟩, {}⟩, ⟨⟨some 112, (.load true 4 (.t 111)), some (102, true)⟩,
  {}⟩, ⟨⟨some 113, (.call (.c (.fn 43 [])) [(.t 103), (.t 107), (.t 112)]), some (102, true)⟩, {}⟩, ⟨⟨some 114, (.pick (.t 102) (.t 113) (.c (B false))), none⟩, {}⟩] (some [])) ref24_Absences_C17) ref24_Absences_C18)
def ref24_Absences_C5 : TC := (.join [.wk 12 (.list G_Report), .wk 14 (.list G_Absence), .keep [1, 2, 11, 12, 14, 15, 16], .cmp] ref24_Absences_C1)
def ref24_Absences_C46 : TC := (.seq (.block 6 (.loop ref24_Absences_N4 ref24_Absences_C4)) ref24_Absences_C5)
def ref24_Absences_C33 : TC := (.seq (.rg [⟨⟨some 85, (.mov (.t 15)), none⟩, {}⟩, ⟨⟨some 16, (.mov (.t 85)), none⟩, {}⟩] none) ref24_Absences_C46)
def ref24_Absences_C15 : TC := (.block 5 (.seq (.seq (.rg [⟨⟨some 76, (.mov (.t 12)), none⟩, {}⟩, ⟨⟨some 77, (.mov (.t 15)), none⟩, {}⟩, ⟨⟨some 78, (.iadrS 4 (.t 76) (.t 77)), none⟩, {}⟩, ⟨⟨some 79, (.fadr 3 (.t 78)), none⟩, {}⟩, ⟨⟨some 80, (.load false 1 (.t 79)), none⟩, {}⟩, ⟨⟨some 81, (.mov (.t 2)), none⟩, {}⟩, ⟨⟨some 82,
  (.call (.c (.fn 42 [])) [(.t 80), (.t 81)]), none⟩, {}⟩] none) ref24_Absences_C32) ref24_Absences_C33))
def ref24_Absences_C2 : TC := (.seq (.seq (.rg [⟨⟨some 72, (.mov (.t 15)), none⟩, {}⟩, ⟨⟨some 73, (.mov (.t 12)), none⟩, {}⟩, ⟨⟨some 74, (.len (.t 73)), none⟩, {}⟩, ⟨⟨some 75, (.bin .lss (.t 72) (.t 74)), none⟩, {}⟩] none) ref24_Absences_C14) ref24_Absences_C15)
def ref24_Absences_C47 : TC := .ret
def ref24_Absences_C34 : TC := (.pre [.frz 8] ref24_Absences_C47)
def ref24_Absences_C16 : TC := (.seq (.rg [⟨⟨some 151, (.mov (.t 14)), none⟩, {}⟩, ⟨⟨some 8, (.mov (.t 151)), none⟩, {}⟩, ⟨⟨some 9, (.mov (.c (I 0))), none⟩, {}⟩] none) ref24_Absences_C34)
def ref24_Absences_C3 : TC := (.pre [.frz 14] ref24_Absences_C16)
def ref24_Absences_C19 : TC := (.cond (.t 55) .skip (.exit 2))
def ref24_Absences_C35 : TC := (.cond (.t 64) (.rg [⟨⟨some 65, (.mov (.t 12)), none⟩, {}⟩, ⟨⟨some 66, (.mov (.t 3)), none⟩, {}⟩, ⟨⟨some 67, (.mov (.t 13)), none⟩, {}⟩, ⟨⟨some 68, (.iadrS 4 (.t 66) (.t 67)), none⟩, {}⟩, ⟨⟨some 69, (.load true 4 (.t 68)), none⟩, {}⟩, ⟨⟨some 70, (.bslice false 4 [(I 0), (I 0), (I 0), (.lst true [])]
  1 [(0, (.t 69))]), none⟩, ⟨G_Report, none⟩⟩, ⟨⟨some 71, (.app 4 48 (.t 65) (.t 70)), none⟩, {}⟩, ⟨⟨some 12, (.mov (.t 71)), none⟩, {}⟩] none) .skip)
def ref24_Absences_C36 : TC := (.rg [⟨⟨some 56, (.mov (.t 13)), none⟩, {}⟩, ⟨⟨some 57, (.bin .add (.t 56) (.c (I 1))), none⟩, {}⟩, ⟨⟨some 13, (.mov (.t 57)), none⟩, {}⟩] none)
def ref24_Absences_C20 : TC := (.seq (.block 3 (.seq (.rg [⟨⟨some 58, (.mov (.t 3)), none⟩, {}⟩, ⟨⟨some 59, (.mov (.t 13)), none⟩, {}⟩, ⟨⟨some 60, (.iadrS 4 (.t 58) (.t 59)), none⟩, {}⟩, ⟨⟨some 61, (.fadr 0 (.t 60)), none⟩, {}⟩, ⟨⟨some 62, (.load false 1 (.t 61)), none⟩, {}⟩, ⟨⟨some 63, (.mov (.t 1)), none⟩, {}⟩, ⟨⟨some 64, (.bin
  .eql (.t 62) (.t 63)), none⟩, {}⟩] none) ref24_Absences_C35)) ref24_Absences_C36)
def ref24_Absences_C6 : TC := (.seq (.seq (.rg [⟨⟨some 52, (.mov (.t 13)), none⟩, {}⟩, ⟨⟨some 53, (.mov (.t 3)), none⟩, {}⟩, ⟨⟨some 54, (.len (.t 53)), none⟩, {}⟩, ⟨⟨some 55, (.bin .lss (.t 52) (.t 54)), none⟩, {}⟩] none) ref24_Absences_C19) ref24_Absences_C20)
def ref24_Absences_C48 : TC := (.block 4 (.loop ref24_Absences_N3 ref24_Absences_C2))
def ref24_Absences_C37 : TC := (.seq (.seq (.rg [⟨⟨some 15, (.mov (.c (I 0))), none⟩, {}⟩] none) ref24_Absences_C48) ref24_Absences_C3)
def ref24_Absences_C21 : TC := (.seq (.rg [⟨⟨some 14, (.mov (.c (.lst true []))), none⟩, {}⟩] none) ref24_Absences_C37)
def ref24_Absences_C7 : TC := (.pre [.frz 12] ref24_Absences_C21)
def ref24_Absences_C49 : TC := (.block 2 (.loop ref24_Absences_N2 ref24_Absences_C6))
def ref24_Absences_C38 : TC := (.seq (.seq (.rg [⟨⟨some 13, (.mov (.c (I 0))), none⟩, {}⟩] none) ref24_Absences_C49) ref24_Absences_C7)
def ref24_Absences_C22 : TC := (.seq (.rg [⟨⟨some 12, (.mov (.c (.lst true []))), none⟩, {}⟩] none) ref24_Absences_C38)
def ref24_Absences_C8 : TC := (.seq (.rg [⟨⟨some 48, (.mov (.t 0)), none⟩, {}⟩, ⟨⟨some 49, (.mov (.t 1)), none⟩, {}⟩, ⟨⟨some 50, (.iadrS 4 (.t 48) (.t 49)), none⟩, {}⟩, ⟨⟨some 51, (.load true 4 (.t 50)), none⟩, {}⟩, ⟨⟨some 11, (.alloc [(.lst true []), (I 0), (I 0), (I 0)]), none⟩, {}⟩, ⟨⟨none, (.store 4 (.t 11) (.t 51)), none⟩,
  {}⟩] none) ref24_Absences_C22)
def ref24_Absences_C50 : TC := .ret
def ref24_Absences_C39 : TC := (.pre [.frz 8] ref24_Absences_C50)
def ref24_Absences_C23 : TC := (.cond (.t 47) (.seq (.rg [⟨⟨some 8, (.mov (.c (.lst true []))), none⟩, {}⟩, ⟨⟨some 9, (.mov (.c (I 41))), none⟩, {}⟩] none) ref24_Absences_C39) .skip)
def ref24_Absences_C24 : TC := (.join [.wk 0 (.list G_TagReader), .wk 3 (.list G_Report), .keep [0, 1, 2, 3], .cmp] ref24_Absences_C8)
def ref24_Absences_C9 : TC := (.seq (.seq (.rg [⟨⟨some 42, (.mov (.t 2)), none⟩, {}⟩, ⟨⟨some 43, (.bin .lss (.t 42) (.c (I 1))), none⟩, {}⟩, ⟨⟨some 44, (.mov (.t 43)), none⟩, {}⟩, ⟨⟨some 45, (.mov (.t 2)), some (44, false)⟩, {}⟩, ⟨⟨some 46, (.bin .gtr (.t 45) (.c (I 65535))), some (44, false)⟩, {}⟩, ⟨⟨some 47, (.pick (.t 44) (.c
  (B true)) (.t 46)), none⟩, {}⟩] none) ref24_Absences_C23) ref24_Absences_C24)
def ref24_Absences_C25 : TC := (.cond (.t 25) .skip (.exit 0))
def ref24_Absences_C55 : TC := .ret
def ref24_Absences_C51 : TC := (.pre [.frz 8] ref24_Absences_C55)
def ref24_Absences_C40 : TC := (.cond (.t 33) (.seq (.rg [⟨⟨some 8, (.mov (.c (.lst true []))), none⟩, {}⟩, ⟨⟨some 9, (.mov (.c (I 6))), none⟩, {}⟩] none) ref24_Absences_C51) .skip)
def ref24_Absences_C41 : TC := (.rg [⟨⟨some 26, (.mov (.t 10)), none⟩, {}⟩, ⟨⟨some 27, (.bin .add (.t 26) (.c (I 1))), none⟩, {}⟩, ⟨⟨some 10, (.mov (.t 27)), none⟩, {}⟩] none)
def ref24_Absences_C26 : TC := (.seq (.block 1 (.seq (.rg [⟨⟨some 28, (.mov (.t 3)), none⟩, {}⟩, ⟨⟨some 29, (.mov (.t 10)), none⟩, {}⟩, ⟨⟨some 30, (.iadrS 4 (.t 28) (.t 29)), none⟩, {}⟩, ⟨⟨some 31, (.load true 4 (.t 30)), none⟩, {}⟩, ⟨⟨some 32, (.call (.c (.fn 41 [])) [(.t 31)]), none⟩, {}⟩, ⟨⟨some 33, (.un .not (.t 32)), none⟩,
  {}⟩] none) ref24_Absences_C40)) ref24_Absences_C41)
def ref24_Absences_C10 : TC := (.seq (.seq (.rg [⟨⟨some 22, (.mov (.t 10)), none⟩, {}⟩, ⟨⟨some 23, (.mov (.t 3)), none⟩, {}⟩, ⟨⟨some 24, (.len (.t 23)), none⟩, {}⟩, ⟨⟨some 25, (.bin .lss (.t 22) (.t 24)), none⟩, {}⟩] none) ref24_Absences_C25) ref24_Absences_C26)
def ref24_Absences_C52 : TC := .ret
def ref24_Absences_C42 : TC := (.pre [.frz 8] ref24_Absences_C52)
def ref24_Absences_C27 : TC := (.cond (.t 41) (.seq (.rg [⟨⟨some 8, (.mov (.c (.lst true []))), none⟩, {}⟩, ⟨⟨some 9, (.mov (.c (I 40))), none⟩, {}⟩] none) ref24_Absences_C42) .skip)
def ref24_Absences_C28 : TC := (.join [.wk 0 (.list G_TagReader), .wk 3 (.list G_Report), .keep [0, 1, 2, 3], .cmp] ref24_Absences_C9)
def ref24_Absences_C11 : TC := (.seq (.seq (.rg [⟨⟨some 34, (.mov (.t 1)), none⟩, {}⟩, ⟨⟨some 35, (.bin .lss (.t 34) (.c (I 0))), none⟩, {}⟩, ⟨⟨some 36, (.mov (.t 35)), none⟩, {}⟩, ⟨⟨some 37, (.mov (.t 1)), some (36, false)⟩, {}⟩, ⟨⟨some 38, (.mov (.t 0)), some (36, false)⟩, {}⟩, ⟨⟨some 39, (.len (.t 38)), some (36, false)⟩, {}⟩,
  ⟨⟨some 40, (.bin .geq (.t 37) (.t 39)), some (36, false)⟩, {}⟩, ⟨⟨some 41, (.pick (.t 36) (.c (B true)) (.t 40)), none⟩, {}⟩] none) ref24_Absences_C27) ref24_Absences_C28)
def ref24_Absences_C56 : TC := .ret
def ref24_Absences_C53 : TC := (.pre [.frz 8] ref24_Absences_C56)
def ref24_Absences_C43 : TC := (.cond (.t 21) (.seq (.rg [⟨⟨some 8, (.mov (.c (.lst true []))), none⟩, {}⟩, ⟨⟨some 9, (.mov (.c (I 2))), none⟩, {}⟩] none) ref24_Absences_C53) .skip)
def ref24_Absences_C54 : TC := (.block 0 (.loop ref24_Absences_N1 ref24_Absences_C10))
def ref24_Absences_C44 : TC := (.seq (.seq (.rg [⟨⟨some 10, (.mov (.c (I 0))), none⟩, {}⟩] none) ref24_Absences_C54) ref24_Absences_C11)
def ref24_Absences_C29 : TC := (.seq (.seq (.rg [⟨⟨some 19, (.mov (.t 3)), none⟩, {}⟩, ⟨⟨some 20, (.len (.t 19)), none⟩, {}⟩, ⟨⟨some 21, (.bin .gtr (.t 20) (.c (I 400))), none⟩, {}⟩] none) ref24_Absences_C43) ref24_Absences_C44)
def ref24_Absences_C12 : TC := (.seq (.rg [⟨⟨some 8, (.mov (.c (.lst true []))), none⟩, {}⟩, ⟨⟨some 9, (.mov (.c (I 0))), none⟩, {}⟩] none) ref24_Absences_C29)
def ref24_Absences_E (N : Nat) : List (Nat × Ent) := [(41, pureE [G_Report] [.bool] (fun x => ref23_Valid N x)), (42, pureE [(.list (.int .i64)), (.int .i64)] [.bool] (fun x => ref23_Has N x.1 x.2)), (43, pureE [G_TagReader, G_Report, G_Report] [.bool] (fun x => ref24_follows N x.1 x.2.1 x.2.2))]
def ref24_Absences_J3 (N n3 : Nat) (x97 : Int) (x98 : Int) (x99 : List T_Report) (x100 : Int) (x101 : Int) (x102 : List Int) (x103 : Int) (x104 : Int) (x105 : Int) (x106 : List T_Absence) : Option ((List T_Absence) × Int) := joinN (run (ref24_Absences_E N) N 0 ref24_Absences_C1) N ⟨[(1, .int .i64 x97), (2, .int .i64 x98), (11, .ptr 0 0 0), (12, .lst false G_Report x99), (14, .whole 1), (15, .int .i64 x100), (16, .int .i64 x101)], [some (.box 0 [.lst false (.int .i64) x102, .int .i64 x103, .int .i64 x104, .int .i64 x105]), some (.arr G_Absence x106)]⟩ (blkK 5 (seqK (nextL (normI 0 ref24_Absences_N3) (loopN (normI 0 ref24_Absences_N3) (run (ref24_Absences_E N) N 0 ref24_Absences_C2) n3)) (blkK 4 (seqK (run (ref24_Absences_E N) N 0 ref24_Absences_C3) (fin [(.t 8), (.t 9)] [(.list G_Absence), (.int .i64)])))))
def ref24_Absences_L4 (N n3 : Nat) (n : Nat) (x72 : Int) (x73 : Int) (x74 : List T_Report) (x75 : Int) (x76 : Int) (x77 : List Int) (x78 : Int) (x79 : Int) (x80 : Int) (x81 : List T_Absence) : Option ((List T_Absence) × Int) := loopN (normI 0 ref24_Absences_N4) (run (ref24_Absences_E N) N 0 ref24_Absences_C4) n ⟨[(1, .int .i64 x72), (2, .int .i64 x73), (11, .ptr 0 0 0), (12, .lst false G_Report x74), (14, .whole 1), (15, .int .i64 x75), (16, .int .i64 x76)], [some (.box 0 [.lst false (.int .i64) x77, .int .i64 x78, .int .i64 x79, .int .i64 x80]), some (.arr G_Absence x81)]⟩ (blkK 6 (seqK (run (ref24_Absences_E N) N 0 ref24_Absences_C5) (blkK 5 (seqK (nextL (normI 0 ref24_Absences_N3) (loopN (normI 0 ref24_Absences_N3) (run (ref24_Absences_E N) N 0 ref24_Absences_C2) n3)) (blkK 4 (seqK (run (ref24_Absences_E N) N 0 ref24_Absences_C3) (fin [(.t 8), (.t 9)] [(.list G_Absence), (.int .i64)])))))))
def ref24_Absences_L3 (N : Nat) (n : Nat) (x52 : Int) (x53 : Int) (x54 : List T_Report) (x55 : Int) (x56 : List Int) (x57 : Int) (x58 : Int) (x59 : Int) (x60 : List T_Absence) : Option ((List T_Absence) × Int) := loopN (normI 0 ref24_Absences_N3) (run (ref24_Absences_E N) N 0 ref24_Absences_C2) n ⟨[(1, .int .i64 x52), (2, .int .i64 x53), (11, .ptr 0 0 0), (12, .lst false G_Report x54), (14, .whole 1), (15, .int .i64 x55)], [some (.box 0 [.lst false (.int .i64) x56, .int .i64 x57, .int .i64 x58, .int .i64 x59]), some (.arr G_Absence x60)]⟩ (blkK 4 (seqK (run (ref24_Absences_E N) N 0 ref24_Absences_C3) (fin [(.t 8), (.t 9)] [(.list G_Absence), (.int .i64)])))
def ref24_Absences_L2 (N : Nat) (n : Nat) (x22 : Int) (x23 : Int) (x24 : List T_Report) (x25 : Int) (x26 : List Int) (x27 : Int) (x28 : Int) (x29 : Int) (x30 : List T_Report) : Option ((List T_Absence) × Int) := loopN (normI 0 ref24_Absences_N2) (run (ref24_Absences_E N) N 0 ref24_Absences_C6) n ⟨[(1, .int .i64 x22), (2, .int .i64 x23), (3, .lst false G_Report x24), (11, .ptr 0 0 0), (12, .whole 1), (13, .int .i64 x25)], [some (.box 0 [.lst false (.int .i64) x26, .int .i64 x27, .int .i64 x28, .int .i64 x29]), some (.arr G_Report x30)]⟩ (blkK 2 (seqK (run (ref24_Absences_E N) N 0 ref24_Absences_C7) (fin [(.t 8), (.t 9)] [(.list G_Absence), (.int .i64)])))
def ref24_Absences_J2 (N : Nat) (x17 : List T_TagReader) (x18 : Int) (x19 : Int) (x20 : List T_Report) : Option ((List T_Absence) × Int) := joinN (run (ref24_Absences_E N) N 0 ref24_Absences_C8) N ⟨[(0, .lst false G_TagReader x17), (1, .int .i64 x18), (2, .int .i64 x19), (3, .lst false G_Report x20)], []⟩ (fin [(.t 8), (.t 9)] [(.list G_Absence), (.int .i64)])
def ref24_Absences_J1 (N : Nat) (x13 : List T_TagReader) (x14 : Int) (x15 : Int) (x16 : List T_Report) : Option ((List T_Absence) × Int) := joinN (run (ref24_Absences_E N) N 0 ref24_Absences_C9) N ⟨[(0, .lst false G_TagReader x13), (1, .int .i64 x14), (2, .int .i64 x15), (3, .lst false G_Report x16)], []⟩ (fin [(.t 8), (.t 9)] [(.list G_Absence), (.int .i64)])
def ref24_Absences_L1 (N : Nat) (n : Nat) (x1 : List T_TagReader) (x2 : Int) (x3 : Int) (x4 : List T_Report) (x5 : Int) : Option ((List T_Absence) × Int) := loopN (normI 0 ref24_Absences_N1) (run (ref24_Absences_E N) N 0 ref24_Absences_C10) n ⟨[(0, .lst false G_TagReader x1), (1, .int .i64 x2), (2, .int .i64 x3), (3, .lst false G_Report x4), (10, .int .i64 x5)], []⟩ (blkK 0 (seqK (run (ref24_Absences_E N) N 0 ref24_Absences_C11) (fin [(.t 8), (.t 9)] [(.list G_Absence), (.int .i64)])))
theorem ref24_Absences_J3_eq (N n3 : Nat) (x97 : Int) (x98 : Int) (x99 : List T_Report) (x100 : Int) (x101 : Int) (x102 : List Int) (x103 : Int) (x104 : Int) (x105 : Int) (x106 : List T_Absence) : ref24_Absences_J3 (N + 1) n3 x97 x98 x99 x100 x101 x102 x103 x104 x105 x106 =
  bif inB x100 x99.length then
  let v107 := x99.getD x100.toNat D_Report
  bif inB x101 x99.length then
  let v108 := x99.getD x101.toNat D_Report
  bif (decide (x101 > x100)) then
    bif (decide ((W (v108.2.2.1 - x105)) > (W (v107.2.2.1 + x105)))) then
      bif fitsB (x106.length + 1) 32 then
      ref24_Absences_L3 (N + 1) n3 x97 x98 x99 (W (x101 + 1)) x102 x103 x104 x105 (x106 ++ [(x97, (x98, (W (v107.2.2.1 + x105), W (v108.2.2.1 - x105))))])
      else none
    else
      ref24_Absences_L3 (N + 1) n3 x97 x98 x99 (W (x101 + 1)) x102 x103 x104 x105 x106
  else
    ref24_Absences_L3 (N + 1) n3 x97 x98 x99 (W (x101 + 1)) x102 x103 x104 x105 x106
  else none
  else none := by kernel_rfl
theorem ref24_Absences_L4_zero (N n3 : Nat) (x72 : Int) (x73 : Int) (x74 : List T_Report) (x75 : Int) (x76 : Int) (x77 : List Int) (x78 : Int) (x79 : Int) (x80 : Int) (x81 : List T_Absence) : ref24_Absences_L4 N n3 0 x72 x73 x74 x75 x76 x77 x78 x79 x80 x81 = none := rfl
theorem ref24_Absences_L4_succ (N n3 : Nat) (n4 : Nat) (x72 : Int) (x73 : Int) (x74 : List T_Report) (x75 : Int) (x76 : Int) (x77 : List Int) (x78 : Int) (x79 : Int) (x80 : Int) (x81 : List T_Absence) : ref24_Absences_L4 N n3 (n4 + 1) x72 x73 x74 x75 x76 x77 x78 x79 x80 x81 =
  bif (decide ((W (x76 + 1)) < (x74.length : Int))) then
    bif inB (W (x76 + 1)) x74.length then
    Option.bind (ref23_Has N (x74.getD (W (x76 + 1)).toNat D_Report).2.2.2 x73) fun r83 =>
    bif (!r83) then
      bif inB x76 x74.length then
      bif inB (W (x76 + 1)) x74.length then
      Option.bind (ref24_follows N (x77, (x78, (x79, x80))) (x74.getD x76.toNat D_Report) (x74.getD (W (x76 + 1)).toNat D_Report)) fun r86 =>
      bif r86 then
        ref24_Absences_L4 N n3 n4 x72 x73 x74 x75 (W (x76 + 1)) x77 x78 x79 x80 x81
      else
        ref24_Absences_J3 N n3 x72 x73 x74 x75 x76 x77 x78 x79 x80 x81
      else none
      else none
    else
      ref24_Absences_J3 N n3 x72 x73 x74 x75 x76 x77 x78 x79 x80 x81
    else none
  else
    ref24_Absences_J3 N n3 x72 x73 x74 x75 x76 x77 x78 x79 x80 x81 := by kernel_rfl
theorem ref24_Absences_L3_zero (N : Nat) (x52 : Int) (x53 : Int) (x54 : List T_Report) (x55 : Int) (x56 : List Int) (x57 : Int) (x58 : Int) (x59 : Int) (x60 : List T_Absence) : ref24_Absences_L3 N 0 x52 x53 x54 x55 x56 x57 x58 x59 x60 = none := rfl
theorem ref24_Absences_L3_succ (N : Nat) (n3 : Nat) (x52 : Int) (x53 : Int) (x54 : List T_Report) (x55 : Int) (x56 : List Int) (x57 : Int) (x58 : Int) (x59 : Int) (x60 : List T_Absence) : ref24_Absences_L3 N (n3 + 1) x52 x53 x54 x55 x56 x57 x58 x59 x60 =
  bif (decide (x55 < (x54.length : Int))) then
    bif inB x55 x54.length then
    Option.bind (ref23_Has N (x54.getD x55.toNat D_Report).2.2.2 x53) fun r62 =>
    bif r62 then
      ref24_Absences_L3 N n3 x52 x53 x54 (W (x55 + 1)) x56 x57 x58 x59 x60
    else
      ref24_Absences_L4 N n3 N x52 x53 x54 x55 x55 x56 x57 x58 x59 x60
    else none
  else
    some (x60, 0) := by kernel_rfl
theorem ref24_Absences_L2_zero (N : Nat) (x22 : Int) (x23 : Int) (x24 : List T_Report) (x25 : Int) (x26 : List Int) (x27 : Int) (x28 : Int) (x29 : Int) (x30 : List T_Report) : ref24_Absences_L2 N 0 x22 x23 x24 x25 x26 x27 x28 x29 x30 = none := rfl
theorem ref24_Absences_L2_succ (N : Nat) (n2 : Nat) (x22 : Int) (x23 : Int) (x24 : List T_Report) (x25 : Int) (x26 : List Int) (x27 : Int) (x28 : Int) (x29 : Int) (x30 : List T_Report) : ref24_Absences_L2 N (n2 + 1) x22 x23 x24 x25 x26 x27 x28 x29 x30 =
  bif (decide (x25 < (x24.length : Int))) then
    bif inB x25 x24.length then
    bif ((x24.getD x25.toNat D_Report).1 == x22) then
      bif inB x25 x24.length then
      bif fitsB (x30.length + 1) 48 then
      ref24_Absences_L2 N n2 x22 x23 x24 (W (x25 + 1)) x26 x27 x28 x29 (x30 ++ [(x24.getD x25.toNat D_Report)])
      else none
      else none
    else
      ref24_Absences_L2 N n2 x22 x23 x24 (W (x25 + 1)) x26 x27 x28 x29 x30
    else none
  else
    ref24_Absences_L3 N N x22 x23 x30 0 x26 x27 x28 x29 [] := by kernel_rfl
theorem ref24_Absences_J2_eq (N : Nat) (x17 : List T_TagReader) (x18 : Int) (x19 : Int) (x20 : List T_Report) : ref24_Absences_J2 (N + 1) x17 x18 x19 x20 =
  bif inB x18 x17.length then
  let v21 := x17.getD x18.toNat D_TagReader
  ref24_Absences_L2 (N + 1) (N + 1) x18 x19 x20 0 v21.1 v21.2.1 v21.2.2.1 v21.2.2.2 []
  else none := by kernel_rfl
theorem ref24_Absences_J1_eq (N : Nat) (x13 : List T_TagReader) (x14 : Int) (x15 : Int) (x16 : List T_Report) : ref24_Absences_J1 (N + 1) x13 x14 x15 x16 =
  bif (decide (x15 < 1)) then
    some ([], 41)
  else
    bif (decide (x15 > 65535)) then
      some ([], 41)
    else
      ref24_Absences_J2 (N + 1) x13 x14 x15 x16 := by kernel_rfl
theorem ref24_Absences_L1_zero (N : Nat) (x1 : List T_TagReader) (x2 : Int) (x3 : Int) (x4 : List T_Report) (x5 : Int) : ref24_Absences_L1 N 0 x1 x2 x3 x4 x5 = none := rfl
theorem ref24_Absences_L1_succ (N : Nat) (n1 : Nat) (x1 : List T_TagReader) (x2 : Int) (x3 : Int) (x4 : List T_Report) (x5 : Int) : ref24_Absences_L1 N (n1 + 1) x1 x2 x3 x4 x5 =
  bif (decide (x5 < (x4.length : Int))) then
    bif inB x5 x4.length then
    Option.bind (ref23_Valid N (x4.getD x5.toNat D_Report)) fun r7 =>
    bif (!r7) then
      some ([], 6)
    else
      ref24_Absences_L1 N n1 x1 x2 x3 x4 (W (x5 + 1))
    else none
  else
    bif (decide (x2 < 0)) then
      some ([], 40)
    else
      bif (decide (x2 ≥ (x1.length : Int))) then
        some ([], 40)
      else
        ref24_Absences_J1 N x1 x2 x3 x4 := by kernel_rfl
def ref24_Absences (N : Nat) (a0 : List T_TagReader) (a1 : Int) (a2 : Int) (a3 : List T_Report) : Option ((List T_Absence) × Int) :=
  bif (decide ((a3.length : Int) > 400)) then
    some ([], 2)
  else
    ref24_Absences_L1 N N a0 a1 a2 a3 0
theorem ref24_Absences_fn : FnOK Try.prog 27 152 (fun _ : Nat => false) ref24_Absences_C12.er [(.t 8), (.t 9)] := FnOK.mk' Try.func27 (by kernel_rfl) (by kernel_rfl) (by kernel_rfl) (by kernel_rfl) (by kernel_rfl)
theorem ref24_Absences_envok (N : Nat) : EnvOK Try.prog (ref24_Absences_E N) := .cons (pureE_ok (ref23_Valid_pure N)) (.cons (pureE_ok (ref23_Has_pure N)) (.cons (pureE_ok (ref24_follows_pure N)) (.nil)))
theorem ref24_Absences_pure (N : Nat) : PureOK Try.prog 27 [(.list G_TagReader), (.int .i64), (.int .i64), (.list G_Report)] [(.list G_Absence), (.int .i64)] (fun x => ref24_Absences N x.1 x.2.1 x.2.2.1 x.2.2.2) := pureOK (N := N) mixed ref24_Absences_fn (ref24_Absences_envok N) rfl (fun x => by kernel_rfl)
/-! law24_agree -/
def law24_agree_N1 : List NS := [.wk 0 (.list G_TagReader), .wk 3 (.list G_Report), .keep [0, 1, 2, 3, 9], .cmp]
def law24_agree_C4 : TC := (.cond (.t 21) .skip (.exit 0))
def law24_agree_C15 : TC := .ret
def law24_agree_C14 : TC := (.cond (.t 50) (.seq (.rg [⟨⟨some 8, (.mov (.c (B false))), none⟩, {}⟩] none) law24_agree_C15) .skip)
def law24_agree_C12 : TC := (.seq (.rg [⟨⟨some 42, (.mov (.t 11)), none⟩, {}⟩, ⟨⟨some 43, (.mov (.t 13)), none⟩, {}⟩, ⟨⟨some 44, (.bin .neq (.t 42) (.t 43)), none⟩, {}⟩, ⟨⟨some 45, (.mov (.t 44)), none⟩, {}⟩, ⟨⟨some 46, (.mov (.t 10)), some (45, false)⟩, {}⟩, ⟨⟨some 47, (.mov (.t 12)), some (45, false)⟩, {}⟩, ⟨⟨some 48, (.call
  (.c (.fn 26 [])) [(.t 46), (.t 47)]), some (45, false)⟩, {}⟩, ⟨⟨some 49, (.un .not (.t 48)), some (45, false)⟩, {}⟩, ⟨⟨some 50, (.pick (.t 45) (.c (B true)) (.t 49)), none⟩, {}⟩] none) law24_agree_C14)
def law24_agree_C8 : TC := (.seq (.rg [⟨⟨some 34, (.mov (.t 0)), none⟩, {}⟩, ⟨⟨some 35, (.mov (.t 3)), none⟩, {}⟩, ⟨⟨some 36, (.mov (.t 9)), none⟩, {}⟩, ⟨⟨some 37, (.iadrS 4 (.t 35) (.t 36)), none⟩, {}⟩, ⟨⟨some 38, (.load true 4 (.t 37)), none⟩, {}⟩, ⟨⟨some 39, (.call (.c (.fn 25 [])) [(.t 34), (.t 38)]), none⟩, {}⟩, ⟨⟨some
  33, (.mov (.t 39)), none⟩, {}⟩, ⟨⟨some 40, (.extr 0 (.t 33)), none⟩, {}⟩, ⟨⟨some 41, (.extr 1 (.t 33)), none⟩, {}⟩, ⟨⟨some 12, (.mov (.t 40)), none⟩, {}⟩, ⟨⟨some 13, (.mov (.t 41)), none⟩, {}⟩] none) law24_agree_C12)
def law24_agree_C9 : TC := (.rg [⟨⟨some 22, (.mov (.t 9)), none⟩, {}⟩, ⟨⟨some 23, (.bin .add (.t 22) (.c (I 1))), none⟩, {}⟩, ⟨⟨some 9, (.mov (.t 23)), none⟩, {}⟩] none)
def law24_agree_C5 : TC := (.seq (.block 1 (.seq (.rg [⟨⟨some 25, (.mov (.t 0)), none⟩, {}⟩, ⟨⟨some 26, (.mov (.t 3)), none⟩, {}⟩, ⟨⟨some 27, (.mov (.t 9)), none⟩, {}⟩, ⟨⟨some 28, (.iadrS 4 (.t 26) (.t 27)), none⟩, {}⟩, ⟨⟨some 29, (.load true 4 (.t 28)), none⟩, {}⟩, ⟨⟨some 30, (.call (.c (.fn 19 [])) [(.t 25), (.t 29)]),
  none⟩, {}⟩, ⟨⟨some 24, (.mov (.t 30)), none⟩, {}⟩, ⟨⟨some 31, (.extr 0 (.t 24)), none⟩, {}⟩, ⟨⟨some 32, (.extr 1 (.t 24)), none⟩, {}⟩, ⟨⟨some 10, (.mov (.t 31)), none⟩, {}⟩, ⟨⟨some 11, (.mov (.t 32)), none⟩, {}⟩] none) law24_agree_C8)) law24_agree_C9)
def law24_agree_C1 : TC := (.seq (.seq (.rg [⟨⟨some 18, (.mov (.t 9)), none⟩, {}⟩, ⟨⟨some 19, (.mov (.t 3)), none⟩, {}⟩, ⟨⟨some 20, (.len (.t 19)), none⟩, {}⟩, ⟨⟨some 21, (.bin .lss (.t 18) (.t 20)), none⟩, {}⟩] none) law24_agree_C4) law24_agree_C5)
def law24_agree_C13 : TC := .ret
def law24_agree_C10 : TC := (.seq (.rg [⟨⟨some 67, (.mov (.t 15)), none⟩, {}⟩, ⟨⟨some 68, (.mov (.t 17)), none⟩, {}⟩, ⟨⟨some 69, (.bin .eql (.t 67) (.t 68)), none⟩, {}⟩, ⟨⟨some 70, (.mov (.t 69)), none⟩, {}⟩, ⟨⟨some 71, (.mov (.t 14)), some (70, true)⟩, {}⟩, ⟨⟨some 72, (.mov (.t 16)), some (70, true)⟩, {}⟩, ⟨⟨some 73, (.call
  (.c (.fn 21 [])) [(.t 71), (.t 72)]), some (70, true)⟩, {}⟩, ⟨⟨some 74, (.pick (.t 70) (.t 73) (.c (B false))), none⟩, {}⟩, ⟨⟨some 8, (.mov (.t 74)), none⟩, {}⟩] none) law24_agree_C13)
def law24_agree_C6 : TC := (.seq (.rg [⟨⟨some 60, (.mov (.t 0)), none⟩, {}⟩, ⟨⟨some 61, (.mov (.t 1)), none⟩, {}⟩, ⟨⟨some 62, (.mov (.t 2)), none⟩, {}⟩, ⟨⟨some 63, (.mov (.t 3)), none⟩, {}⟩, ⟨⟨some 64, (.call (.c (.fn 27 [])) [(.t 60), (.t 61), (.t 62), (.t 63)]), none⟩, {}⟩, ⟨⟨some 59, (.mov (.t 64)), none⟩, {}⟩, ⟨⟨some 65,
  (.extr 0 (.t 59)), none⟩, {}⟩, ⟨⟨some 66, (.extr 1 (.t 59)), none⟩, {}⟩, ⟨⟨some 16, (.mov (.t 65)), none⟩, {}⟩, ⟨⟨some 17, (.mov (.t 66)), none⟩, {}⟩] none) law24_agree_C10)
def law24_agree_C2 : TC := (.seq (.rg [⟨⟨some 52, (.mov (.t 0)), none⟩, {}⟩, ⟨⟨some 53, (.mov (.t 1)), none⟩, {}⟩, ⟨⟨some 54, (.mov (.t 2)), none⟩, {}⟩, ⟨⟨some 55, (.mov (.t 3)), none⟩, {}⟩, ⟨⟨some 56, (.call (.c (.fn 18 [])) [(.t 52), (.t 53), (.t 54), (.t 55)]), none⟩, {}⟩, ⟨⟨some 51, (.mov (.t 56)), none⟩, {}⟩, ⟨⟨some 57,
  (.extr 0 (.t 51)), none⟩, {}⟩, ⟨⟨some 58, (.extr 1 (.t 51)), none⟩, {}⟩, ⟨⟨some 14, (.mov (.t 57)), none⟩, {}⟩, ⟨⟨some 15, (.mov (.t 58)), none⟩, {}⟩] none) law24_agree_C6)
def law24_agree_C11 : TC := (.block 0 (.loop law24_agree_N1 law24_agree_C1))
def law24_agree_C7 : TC := (.seq (.seq (.rg [⟨⟨some 9, (.mov (.c (I 0))), none⟩, {}⟩] none) law24_agree_C11) law24_agree_C2)
def law24_agree_C3 : TC := (.seq (.rg [⟨⟨some 8, (.mov (.c (B false))), none⟩, {}⟩] none) law24_agree_C7)
def law24_agree_E (N : Nat) : List (Nat × Ent) := [(19, pureE [(.list G_TagReader), G_Report] [(.list G_Absence), (.int .i64)] (fun x => sightings_Of N x.1 x.2)), (25, pureE [(.list G_TagReader), G_Report] [(.list G_Absence), (.int .i64)] (fun x => ref24_Of N x.1 x.2)), (26, pureE [(.list G_Absence), (.list G_Absence)] [.bool] (fun x => law24_sameSights N x.1 x.2)), (18, sfE [none, none, none, none] [.v (.list G_TagReader), .v (.int .i64), .v (.int .i64), .v (.list G_Report)] [.o (.a G_Absence), .v (.int .i64)] (fun x => sightings_Absences N x.1 x.2.1 x.2.2.1 x.2.2.2)), (27, pureE [(.list G_TagReader), (.int .i64), (.int .i64), (.list G_Report)] [(.list G_Absence), (.int .i64)] (fun x => ref24_Absences N x.1 x.2.1 x.2.2.1 x.2.2.2)), (21, pureE [(.list G_Absence), (.list G_Absence)] [.bool] (fun x => law24_sameAbsences N x.1 x.2))]
def law24_agree_L1 (N : Nat) (n : Nat) (x1 : List T_TagReader) (x2 : Int) (x3 : Int) (x4 : List T_Report) (x5 : Int) : Option Bool := loopN (normI 0 law24_agree_N1) (run (law24_agree_E N) N 0 law24_agree_C1) n ⟨[(0, .lst false G_TagReader x1), (1, .int .i64 x2), (2, .int .i64 x3), (3, .lst false G_Report x4), (9, .int .i64 x5)], []⟩ (blkK 0 (seqK (run (law24_agree_E N) N 0 law24_agree_C2) (fin [(.t 8)] [.bool])))
theorem law24_agree_L1_zero (N : Nat) (x1 : List T_TagReader) (x2 : Int) (x3 : Int) (x4 : List T_Report) (x5 : Int) : law24_agree_L1 N 0 x1 x2 x3 x4 x5 = none := rfl
theorem law24_agree_L1_succ (N : Nat) (n1 : Nat) (x1 : List T_TagReader) (x2 : Int) (x3 : Int) (x4 : List T_Report) (x5 : Int) : law24_agree_L1 N (n1 + 1) x1 x2 x3 x4 x5 =
  bif (decide (x5 < (x4.length : Int))) then
    bif inB x5 x4.length then
    Option.bind (sightings_Of N x1 (x4.getD x5.toNat D_Report)) fun r7 =>
    bif inB x5 x4.length then
    Option.bind (ref24_Of N x1 (x4.getD x5.toNat D_Report)) fun r9 =>
    bif (r7.2 != r9.2) then
      some false
    else
      Option.bind (law24_sameSights N r7.1 r9.1) fun r10 =>
      bif (!r10) then
        some false
      else
        law24_agree_L1 N n1 x1 x2 x3 x4 (W (x5 + 1))
    else none
    else none
  else
    Option.bind (sightings_Absences N x1 x2 x3 x4) fun r16 =>
    Option.bind (ref24_Absences N x1 x2 x3 x4) fun r17 =>
    bif (r16.1.2 == r17.2) then
      Option.bind (law24_sameAbsences N r16.1.1 r17.1) fun r18 =>
      some r18
    else
      some false := by kernel_rfl
def law24_agree (N : Nat) (a0 : List T_TagReader) (a1 : Int) (a2 : Int) (a3 : List T_Report) : Option Bool :=
  law24_agree_L1 N N a0 a1 a2 a3 0
theorem law24_agree_fn : FnOK Try.prog 17 75 (fun _ : Nat => false) law24_agree_C3.er [(.t 8)] := FnOK.mk' Try.func17 (by kernel_rfl) (by kernel_rfl) (by kernel_rfl) (by kernel_rfl) (by kernel_rfl)
theorem law24_agree_envok (N : Nat) : EnvOK Try.prog (law24_agree_E N) := .cons (pureE_ok (sightings_Of_pure N)) (.cons (pureE_ok (ref24_Of_pure N)) (.cons (pureE_ok (law24_sameSights_pure N)) (.cons (sfE_ok (sightings_Absences_sf N)) (.cons (pureE_ok (ref24_Absences_pure N)) (.cons (pureE_ok (law24_sameAbsences_pure N)) (.nil))))))
theorem law24_agree_pure (N : Nat) : PureOK Try.prog 17 [(.list G_TagReader), (.int .i64), (.int .i64), (.list G_Report)] [.bool] (fun x => law24_agree N x.1 x.2.1 x.2.2.1 x.2.2.2) := pureOK (N := N) mixed law24_agree_fn (law24_agree_envok N) rfl (fun x => by kernel_rfl)
/-! law24_SightingsMade -/
def law24_SightingsMade_N1 : List NS := [.own 6 G_Report, .wk 5 (.list G_TagReader), .keep [3, 5, 6, 7, 8, 9], .cmp]
def law24_SightingsMade_N2 : List NS := [.wk 5 (.list G_TagReader), .wk 6 (.list G_Report), .keep [3, 5, 6, 11], .cmp]
def law24_SightingsMade_C6 : TC := (.cond (.t 64) .skip (.exit 2))
def law24_SightingsMade_C20 : TC := .ret
def law24_SightingsMade_C13 : TC := (.cond (.t 87) (.seq (.rg [⟨⟨some 2, (.mov (.c (B false))), none⟩, {}⟩] none) law24_SightingsMade_C20) .skip)
def law24_SightingsMade_C14 : TC := (.rg [⟨⟨some 65, (.mov (.t 11)), none⟩, {}⟩, ⟨⟨some 66, (.bin .add (.t 65) (.c (I 1))), none⟩, {}⟩, ⟨⟨some 11, (.mov (.t 66)), none⟩, {}⟩] none)
def law24_SightingsMade_C7 : TC := (.seq (.block 3 (.seq (.rg [⟨⟨some 67, (.mov (.t 5)), none⟩, {}⟩, ⟨⟨some 68, (.mov (.t 11)), none⟩, {}⟩, ⟨⟨some 69, (.iadrS 4 (.t 67) (.t 68)), none⟩, {}⟩, ⟨⟨some 70, (.load true 4 (.t 69)), none⟩, {}⟩, ⟨⟨some 71, (.call (.c (.fn 15 [])) [(.t 70)]), none⟩, {}⟩, ⟨⟨some 72, (.mov (.t 5)), none⟩, {}⟩,
  ⟨⟨some 73, (.mov (.t 11)), none⟩, {}⟩, ⟨⟨some 74, (.iadrS 4 (.t 72) (.t 73)), none⟩, {}⟩, ⟨⟨some 75, (.load true 4 (.t 74)), none⟩, {}⟩, ⟨⟨some 76, (.call (.c (.fn 16 [])) [(.t 75)]), none⟩, {}⟩, ⟨⟨some 77, (.bin .neq (.t 71) (.t 76)), none⟩, {}⟩, ⟨⟨some 78, (.mov (.t 77)), none⟩, {}⟩, ⟨⟨some 79,
  (.mov (.t 5)), some (78, false)⟩, {}⟩, ⟨⟨some 80, (.mov (.t 11)), some (78, false)⟩, {}⟩, ⟨⟨some 81, (.mov (.t 3)), some (78, false)⟩, {}⟩, ⟨⟨some 82, (.bslice false 1 [(I 0)] 2 [(0, (.c (I 4))), (1, (.c (I 5)))]), some (78, false)⟩, ⟨(.int .i64), none⟩⟩, ⟨⟨some 83, (.call (.c (.fn 12 [])) [(.t
  81), (.t 82)]), some (78, false)⟩, {}⟩, ⟨⟨some 84, (.mov (.t 6)), some (78, false)⟩, {}⟩, ⟨⟨some 85, (.call (.c (.fn 17 [])) [(.t 79), (.t 80), (.t 83), (.t 84)]), some (78, false)⟩, {}⟩, ⟨⟨some 86, (.un .not (.t 85)), some (78, false)⟩, {}⟩, ⟨⟨some 87, (.pick (.t 78) (.c (B true)) (.t 86)), none⟩,
  {}⟩] (some [(4, 7), (4, 8)])) law24_SightingsMade_C13)) law24_SightingsMade_C14)
def law24_SightingsMade_C1 : TC := (.seq (.seq (.rg [⟨⟨some 61, (.mov (.t 11)), none⟩, {}⟩, ⟨⟨some 62, (.mov (.t 5)), none⟩, {}⟩, ⟨⟨some 63, (.len (.t 62)), none⟩, {}⟩, ⟨⟨some 64, (.bin .lss (.t 61) (.t 63)), none⟩, {}⟩] none) law24_SightingsMade_C6) law24_SightingsMade_C7)
def law24_SightingsMade_C8 : TC := .ret
def law24_SightingsMade_C2 : TC := (.seq (.rg [⟨⟨some 88, (.call (.c (.fn 8 [])) []), none⟩, {}⟩, ⟨⟨some 2, (.mov (.t 88)), none⟩, {}⟩] none) law24_SightingsMade_C8)
def law24_SightingsMade_C9 : TC := (.cond (.t 33) .skip (.exit 0))
def law24_SightingsMade_C21 : TC := (.cond (.t 43) (.rg [⟨⟨some 44, (.bslice false 1 [(I 0)] 1 [(0, (.c (I 4)))]), none⟩, ⟨(.int .i64), none⟩⟩, ⟨⟨some 45, (.fadr 3 (.t 10)), none⟩, {}⟩, ⟨⟨none, (.store 1 (.t 45) (.t 44)), none⟩, {}⟩] none) .skip)
def law24_SightingsMade_C25 : TC := (.rg [⟨⟨some 50, (.mov (.t 7)), none⟩, {}⟩, ⟨⟨some 51, (.mov (.t 3)), none⟩, {}⟩, ⟨⟨some 52, (.bslice false 1 [(I 0)] 4 [(0, (.c (I 1))), (1, (.c (I 1))), (2, (.c (I 1))), (3, (.c (I 2)))]), none⟩, ⟨(.int .i64), none⟩⟩, ⟨⟨some 53, (.call (.c (.fn 12 [])) [(.t 51), (.t 52)]), none⟩, {}⟩, ⟨⟨some 54,
  (.bin .add (.t 50) (.t 53)), none⟩, {}⟩, ⟨⟨some 55, (.bin .rem (.t 54) (.c (I 65536))), none⟩, {}⟩, ⟨⟨some 56, (.mov (.t 8)), none⟩, {}⟩, ⟨⟨some 57, (.mov (.t 3)), none⟩, {}⟩, ⟨⟨some 58, (.bslice false 1 [(I 0)] 6 [(0, (.c (I 10))), (1, (.c (I 5))), (2, (.c (I 14))), (3, (.c (I 15))), (4, (.c (I
  (-1)))), (5, (.c (I 0)))]), none⟩, ⟨(.int .i64), none⟩⟩, ⟨⟨some 59, (.call (.c (.fn 12 [])) [(.t 57), (.t 58)]), none⟩, {}⟩, ⟨⟨some 60, (.bin .add (.t 56) (.t 59)), none⟩, {}⟩, ⟨⟨some 7, (.mov (.t 55)), none⟩, {}⟩, ⟨⟨some 8, (.mov (.t 60)), none⟩, {}⟩] none)
def law24_SightingsMade_C22 : TC := (.seq (.rg [⟨⟨some 46, (.mov (.t 6)), none⟩, {}⟩, ⟨⟨some 47, (.load true 4 (.t 10)), none⟩, {}⟩, ⟨⟨some 48, (.bslice false 4 [(I 0), (I 0), (I 0), (.lst true [])] 1 [(0, (.t 47))]), none⟩, ⟨G_Report, none⟩⟩, ⟨⟨some 49, (.app 4 48 (.t 46) (.t 48)), none⟩, {}⟩, ⟨⟨some 6, (.mov (.t 49)), none⟩, {}⟩]
  none) law24_SightingsMade_C25)
def law24_SightingsMade_C15 : TC := (.seq (.seq (.rg [⟨⟨some 42, (.mov (.t 3)), none⟩, {}⟩, ⟨⟨some 43, (.call (.c (.fn 14 [])) [(.t 42), (.c (I 5))]), none⟩, {}⟩] none) law24_SightingsMade_C21) law24_SightingsMade_C22)
def law24_SightingsMade_C16 : TC := (.rg [⟨⟨some 34, (.mov (.t 9)), none⟩, {}⟩, ⟨⟨some 35, (.bin .sub (.t 34) (.c (I 1))), none⟩, {}⟩, ⟨⟨some 9, (.mov (.t 35)), none⟩, {}⟩] none)
def law24_SightingsMade_C10 : TC := (.seq (.block 1 (.seq (.rg [⟨⟨some 36, (.mov (.t 3)), none⟩, {}⟩, ⟨⟨some 37, (.bslice false 1 [(I 0)] 4 [(0, (.c (I 0))), (1, (.c (I 0))), (2, (.c (I 0))), (3, (.c (I 1)))]), none⟩, ⟨(.int .i64), none⟩⟩, ⟨⟨some 38, (.call (.c (.fn 12 [])) [(.t 36), (.t 37)]), none⟩, {}⟩, ⟨⟨some 39, (.mov (.t 7)),
  none⟩, {}⟩, ⟨⟨some 40, (.mov (.t 8)), none⟩, {}⟩, ⟨⟨some 41, (.build [(I 0), (I 0), (I 0), (.lst true [])] [(0, (1, (.t 38))), (1, (1, (.t 39))), (2, (1, (.t 40)))]), none⟩, {}⟩, ⟨⟨some 10, (.alloc [(I 0), (I 0), (I 0), (.lst true [])]), none⟩, {}⟩, ⟨⟨none, (.store 4 (.t 10) (.t 41)), none⟩, {}⟩]
  none) law24_SightingsMade_C15)) law24_SightingsMade_C16)
def law24_SightingsMade_C3 : TC := (.seq (.seq (.rg [⟨⟨some 32, (.mov (.t 9)), none⟩, {}⟩, ⟨⟨some 33, (.bin .gtr (.t 32) (.c (I 0))), none⟩, {}⟩] none) law24_SightingsMade_C9) law24_SightingsMade_C10)
def law24_SightingsMade_C17 : TC := (.block 2 (.loop law24_SightingsMade_N2 law24_SightingsMade_C1))
def law24_SightingsMade_C11 : TC := (.seq (.seq (.rg [⟨⟨some 11, (.mov (.c (I 0))), none⟩, {}⟩] none) law24_SightingsMade_C17) law24_SightingsMade_C2)
def law24_SightingsMade_C4 : TC := (.pre [.frz 6] law24_SightingsMade_C11)
def law24_SightingsMade_C23 : TC := .ret
def law24_SightingsMade_C18 : TC := (.cond (.t 14) (.seq (.rg [⟨⟨some 15, (.call (.c (.fn 8 [])) []), none⟩, {}⟩, ⟨⟨some 2, (.mov (.t 15)), none⟩, {}⟩] none) law24_SightingsMade_C23) .skip)
def law24_SightingsMade_C30 : TC := (.block 0 (.loop law24_SightingsMade_N1 law24_SightingsMade_C3))
def law24_SightingsMade_C29 : TC := (.seq (.seq (.rg [⟨⟨some 30, (.mov (.t 3)), none⟩, {}⟩, ⟨⟨some 31, (.call (.c (.fn 13 [])) [(.t 30), (.c (I 20))]), none⟩, {}⟩, ⟨⟨some 9, (.mov (.t 31)), none⟩, {}⟩] none) law24_SightingsMade_C30) law24_SightingsMade_C4)
def law24_SightingsMade_C28 : TC := (.seq (.rg [⟨⟨some 27, (.mov (.t 3)), none⟩, {}⟩, ⟨⟨some 28, (.bslice false 1 [(I 0)] 3 [(0, (.c (I 0))), (1, (.c (I 65530))), (2, (.c (I 7)))]), none⟩, ⟨(.int .i64), none⟩⟩, ⟨⟨some 29, (.call (.c (.fn 12 [])) [(.t 27), (.t 28)]), none⟩, {}⟩, ⟨⟨some 7, (.mov (.t 29)), none⟩, {}⟩, ⟨⟨some 8, (.mov (.c
  (I 100))), none⟩, {}⟩] none) law24_SightingsMade_C29)
def law24_SightingsMade_C27 : TC := (.seq (.rg [⟨⟨some 6, (.mov (.c (.lst true []))), none⟩, {}⟩] none) law24_SightingsMade_C28)
def law24_SightingsMade_C26 : TC := (.seq (.rg [⟨⟨some 20, (.mov (.t 3)), none⟩, {}⟩, ⟨⟨some 21, (.load true 2 (.t 4)), none⟩, {}⟩, ⟨⟨some 22, (.call (.c (.fn 11 [])) [(.t 20), (.t 21)]), none⟩, {}⟩, ⟨⟨some 23, (.bslice false 1 [(I 0)] 1 [(0, (.c (I 0)))]), none⟩, ⟨(.int .i64), none⟩⟩, ⟨⟨some 24, (.build [(.lst true []), (I 0), (I 0),
  (I 0)] [(0, (1, (.t 23))), (1, (1, (.c (I 10)))), (2, (1, (.c (I 1)))), (3, (1, (.c (I 2))))]), none⟩, {}⟩, ⟨⟨some 25, (.bslice false 4 [(.lst true []), (I 0), (I 0), (I 0)] 1 [(0, (.t 24))]), none⟩, ⟨G_TagReader, none⟩⟩, ⟨⟨some 26, (.app 4 48 (.t 22) (.t 25)), none⟩, {}⟩, ⟨⟨some 5, (.mov (.t 26)),
  none⟩, {}⟩] none) law24_SightingsMade_C27)
def law24_SightingsMade_C24 : TC := (.seq (.rg [⟨⟨some 18, (.mov (.t 3)), none⟩, {}⟩, ⟨⟨some 19, (.call (.c (.fn 10 [])) [(.t 18)]), none⟩, {}⟩, ⟨⟨some 4, (.alloc [(.lst true []), (.lst true [])]), none⟩, {}⟩, ⟨⟨none, (.store 2 (.t 4) (.t 19)), none⟩, {}⟩] none) law24_SightingsMade_C26)
def law24_SightingsMade_C19 : TC := (.seq (.rg [⟨⟨some 16, (.mov (.t 0)), none⟩, {}⟩, ⟨⟨some 17, (.call (.c (.fn 9 [])) [(.t 16)]), none⟩, {}⟩, ⟨⟨some 3, (.mov (.t 17)), none⟩, {}⟩] none) law24_SightingsMade_C24)
def law24_SightingsMade_C12 : TC := (.seq (.seq (.rg [⟨⟨some 12, (.mov (.t 0)), none⟩, {}⟩, ⟨⟨some 13, (.call (.c (.fn 7 [])) [(.t 12)]), none⟩, {}⟩, ⟨⟨some 14, (.un .not (.t 13)), none⟩, {}⟩] none) law24_SightingsMade_C18) law24_SightingsMade_C19)
def law24_SightingsMade_C5 : TC := (.seq (.rg [⟨⟨some 2, (.mov (.c (B false))), none⟩, {}⟩] none) law24_SightingsMade_C12)
def law24_SightingsMade_E (N : Nat) : List (Nat × Ent) := [(7, pureE [(.list (.int .i64))] [.bool] (fun x => made_Light N x)), (8, pureE [] [.bool] (fun x => law24_awake N)), (9, sfE [none] [.v (.list (.int .i64))] [.n G_Dice] (fun x => made_Roll N x)), (10, sfE [none] [.b (.v G_Dice)] [.v G_Mine] (fun x => made_Dice_Mine N x)), (11, sfE [none, none] [.b (.v G_Dice), .v G_Mine] [.o (.a G_TagReader)] (fun x => made_Dice_Readers N x.1 x.2)), (12, sfE [none, none] [.b (.v G_Dice), .v (.list (.int .i64))] [.v (.int .i64)] (fun x => made_Dice_Of N x.1 x.2)), (13, sfE [none, none] [.b (.v G_Dice), .v (.int .i64)] [.v (.int .i64)] (fun x => made_Dice_Next N x.1 x.2)), (14, sfE [none, none] [.b (.v G_Dice), .v (.int .i64)] [.v .bool] (fun x => made_Dice_One N x.1 x.2)), (15, pureE [G_TagReader] [(.int .i64)] (fun x => sightings_Blind N x)), (16, pureE [G_TagReader] [(.int .i64)] (fun x => ref24_Blind N x)), (17, pureE [(.list G_TagReader), (.int .i64), (.int .i64), (.list G_Report)] [.bool] (fun x => law24_agree N x.1 x.2.1 x.2.2.1 x.2.2.2))]
def law24_SightingsMade_L2 (N : Nat) (n : Nat) (x40 : List T_Report) (x41 : Int) (x42 : List Int) (x43 : Int) (x44 : List T_TagReader) : Option Bool := loopN (normI 0 law24_SightingsMade_N2) (run (law24_SightingsMade_E N) N 0 law24_SightingsMade_C1) n ⟨[(3, .ptr 0 0 0), (5, .whole 1), (6, .lst false G_Report x40), (11, .int .i64 x41)], [some (.box 0 [.lst false (.int .i64) x42, .int .i64 x43]), some (.arr G_TagReader x44)]⟩ (blkK 2 (seqK (run (law24_SightingsMade_E N) N 0 law24_SightingsMade_C2) (fin [(.t 2)] [.bool])))
def law24_SightingsMade_L1 (N : Nat) (n : Nat) (x9 : Int) (x10 : Int) (x11 : Int) (x12 : List Int) (x13 : Int) (x14 : List T_TagReader) (x15 : List T_Report) : Option Bool := loopN (normI 0 law24_SightingsMade_N1) (run (law24_SightingsMade_E N) N 0 law24_SightingsMade_C3) n ⟨[(3, .ptr 0 0 0), (5, .whole 1), (6, .whole 2), (7, .int .i64 x9), (8, .int .i64 x10), (9, .int .i64 x11)], [some (.box 0 [.lst false (.int .i64) x12, .int .i64 x13]), some (.arr G_TagReader x14), some (.arr G_Report x15)]⟩ (blkK 0 (seqK (run (law24_SightingsMade_E N) N 0 law24_SightingsMade_C4) (fin [(.t 2)] [.bool])))
theorem law24_SightingsMade_L2_zero (N : Nat) (x40 : List T_Report) (x41 : Int) (x42 : List Int) (x43 : Int) (x44 : List T_TagReader) : law24_SightingsMade_L2 N 0 x40 x41 x42 x43 x44 = none := rfl
theorem law24_SightingsMade_L2_succ (N : Nat) (n2 : Nat) (x40 : List T_Report) (x41 : Int) (x42 : List Int) (x43 : Int) (x44 : List T_TagReader) : law24_SightingsMade_L2 N (n2 + 1) x40 x41 x42 x43 x44 =
  bif (decide (x41 < (x44.length : Int))) then
    bif inB x41 x44.length then
    Option.bind (sightings_Blind N (x44.getD x41.toNat D_TagReader)) fun r46 =>
    bif inB x41 x44.length then
    Option.bind (ref24_Blind N (x44.getD x41.toNat D_TagReader)) fun r48 =>
    bif (r46 != r48) then
      some false
    else
      Option.bind (made_Dice_Of N (x42, x43) [4, 5]) fun r49 =>
      Option.bind (law24_agree N x44 x41 r49.1 x40) fun r50 =>
      bif (!r50) then
        some false
      else
        law24_SightingsMade_L2 N n2 x40 (W (x41 + 1)) r49.2.1 r49.2.2 x44
    else none
    else none
  else
    Option.bind (law24_awake N) fun r56 =>
    some r56 := by kernel_rfl
theorem law24_SightingsMade_L1_zero (N : Nat) (x9 : Int) (x10 : Int) (x11 : Int) (x12 : List Int) (x13 : Int) (x14 : List T_TagReader) (x15 : List T_Report) : law24_SightingsMade_L1 N 0 x9 x10 x11 x12 x13 x14 x15 = none := rfl
theorem law24_SightingsMade_L1_succ (N : Nat) (n1 : Nat) (x9 : Int) (x10 : Int) (x11 : Int) (x12 : List Int) (x13 : Int) (x14 : List T_TagReader) (x15 : List T_Report) : law24_SightingsMade_L1 N (n1 + 1) x9 x10 x11 x12 x13 x14 x15 =
  bif (decide (x11 > 0)) then
    Option.bind (made_Dice_Of N (x12, x13) [0, 0, 0, 1]) fun r16 =>
    Option.bind (made_Dice_One N r16.2 5) fun r17 =>
    bif r17.1 then
      bif fitsB (x15.length + 1) 48 then
      Option.bind (made_Dice_Of N r17.2 [1, 1, 1, 2]) fun r19 =>
      Option.bind (made_Dice_Of N r19.2 [10, 5, 14, 15, (-1), 0]) fun r21 =>
      law24_SightingsMade_L1 N n1 ((W (x9 + r19.1)).tmod 65536) (W (x10 + r21.1)) (W (x11 - 1)) r21.2.1 r21.2.2 x14 (x15 ++ [(r16.1, (x9, (x10, [4])))])
      else none
    else
      bif fitsB (x15.length + 1) 48 then
      Option.bind (made_Dice_Of N r17.2 [1, 1, 1, 2]) fun r30 =>
      Option.bind (made_Dice_Of N r30.2 [10, 5, 14, 15, (-1), 0]) fun r32 =>
      law24_SightingsMade_L1 N n1 ((W (x9 + r30.1)).tmod 65536) (W (x10 + r32.1)) (W (x11 - 1)) r32.2.1 r32.2.2 x14 (x15 ++ [(r16.1, (x9, (x10, [])))])
      else none
  else
    law24_SightingsMade_L2 N N x15 0 x12 x13 x14 := by kernel_rfl
def law24_SightingsMade (N : Nat) (a0 : List Int) : Option Bool :=
  Option.bind (made_Light N a0) fun r1 =>
  bif (!r1) then
    Option.bind (law24_awake N) fun r2 =>
    some r2
  else
    Option.bind (made_Roll N a0) fun r3 =>
    Option.bind (made_Dice_Mine N r3.1) fun r4 =>
    Option.bind (made_Dice_Readers N r4.2 r4.1) fun r5 =>
    bif fitsB (r5.1.length + 1) 48 then
    Option.bind (made_Dice_Of N r5.2 [0, 65530, 7]) fun r7 =>
    Option.bind (made_Dice_Next N r7.2 20) fun r8 =>
    law24_SightingsMade_L1 N N r7.1 100 r8.1 r8.2.1 r8.2.2 (r5.1 ++ [([0], (10, (1, 2)))]) []
    else none
theorem law24_SightingsMade_fn : FnOK Try.prog 3 89 (fun _ : Nat => false) law24_SightingsMade_C5.er [(.t 2)] := FnOK.mk' Try.func3 (by kernel_rfl) (by kernel_rfl) (by kernel_rfl) (by kernel_rfl) (by kernel_rfl)
theorem law24_SightingsMade_envok (N : Nat) : EnvOK Try.prog (law24_SightingsMade_E N) := .cons (pureE_ok (made_Light_pure N)) (.cons (pureE_ok (law24_awake_pure N)) (.cons (sfE_ok (made_Roll_sf N)) (.cons (sfE_ok (made_Dice_Mine_sf N)) (.cons (sfE_ok (made_Dice_Readers_sf N)) (.cons (sfE_ok (made_Dice_Of_sf N)) (.cons (sfE_ok (made_Dice_Next_sf N)) (.cons (sfE_ok (made_Dice_One_sf N)) (.cons (pureE_ok (sightings_Blind_pure N)) (.cons (pureE_ok (ref24_Blind_pure N)) (.cons (pureE_ok (law24_agree_pure N)) (.nil)))))))))))
theorem law24_SightingsMade_pure (N : Nat) : PureOK Try.prog 3 [(.list (.int .i64))] [.bool] (fun x => law24_SightingsMade N x) := pureOK (N := N) mixed law24_SightingsMade_fn (law24_SightingsMade_envok N) rfl (fun x => by kernel_rfl)
/-! law24_SightingsTrue -/
def law24_SightingsTrue_N1 : List NS := [.own 5 G_Span, .keep [3, 4, 5, 6, 7], .cmp]
def law24_SightingsTrue_N2 : List NS := [.own 10 G_Report, .own 11 (.int .i64), .wk 5 (.list G_Span), .keep [3, 4, 5, 9, 10, 11, 12], .cmp]
def law24_SightingsTrue_N3 : List NS := [.wk 5 (.list G_Span), .wk 10 (.list G_Report), .wk 11 (.list (.int .i64)), .keep [3, 4, 5, 9, 10, 11, 12, 13, 14, 15], .cmp]
def law24_SightingsTrue_N4 : List NS := [.wk 5 (.list G_Span), .wk 10 (.list G_Report), .wk 11 (.list (.int .i64)), .wk 17 (.list G_Absence), .keep [4, 5, 10, 11, 17, 18, 19], .cmp]
def law24_SightingsTrue_N5 : List NS := [.wk 5 (.list G_Span), .wk 10 (.list G_Report), .wk 11 (.list (.int .i64)), .wk 17 (.list G_Absence), .keep [4, 5, 10, 11, 17, 18, 19, 20], .cmp]
def law24_SightingsTrue_N6 : List NS := [.wk 10 (.list G_Report), .wk 11 (.list (.int .i64)), .keep [4, 10, 11, 18, 21], .cmp]
def law24_SightingsTrue_C1 : TC := (.rg [⟨⟨some 124, (.mov (.t 10)), none⟩, {}⟩, ⟨⟨some 125, (.load true 4 (.t 16)), none⟩, {}⟩, ⟨⟨some 126, (.bslice false 4 [(I 0), (I 0), (I 0), (.lst true [])] 1 [(0, (.t 125))]), none⟩, ⟨G_Report, none⟩⟩, ⟨⟨some 127, (.app 4 48 (.t 124) (.t 126)), none⟩, {}⟩, ⟨⟨some 128, (.mov (.t 11)), none⟩, {}⟩,
  ⟨⟨some 129, (.mov (.t 13)), none⟩, {}⟩, ⟨⟨some 130, (.bslice false 1 [(I 0)] 1 [(0, (.t 129))]), none⟩, ⟨(.int .i64), none⟩⟩, ⟨⟨some 131, (.app 1 8 (.t 128) (.t 130)), none⟩, {}⟩, ⟨⟨some 10, (.mov (.t 127)), none⟩, {}⟩, ⟨⟨some 11, (.mov (.t 131)), none⟩, {}⟩] none)
def law24_SightingsTrue_C2 : TC := (.rg [⟨⟨some 63, (.mov (.t 12)), none⟩, {}⟩, ⟨⟨some 64, (.bin .add (.t 63) (.c (I 1))), none⟩, {}⟩, ⟨⟨some 12, (.mov (.t 64)), none⟩, {}⟩] none)
def law24_SightingsTrue_C17 : TC := (.cond (.t 62) .skip (.exit 2))
def law24_SightingsTrue_C20 : TC := (.cond (.t 73) .skip (.exit 4))
def law24_SightingsTrue_C37 : TC := (.rg [⟨⟨some 74, (.mov (.t 15)), none⟩, {}⟩, ⟨⟨some 75, (.bin .add (.t 74) (.c (I 1))), none⟩, {}⟩, ⟨⟨some 15, (.mov (.t 75)), none⟩, {}⟩] none)
def law24_SightingsTrue_C21 : TC := (.seq (.block 5 (.rg [⟨⟨some 76, (.mov (.t 14)), none⟩, {}⟩, ⟨⟨some 77, (.mov (.t 76)), none⟩, {}⟩, ⟨⟨some 78, (.mov (.t 5)), some (77, false)⟩, {}⟩, ⟨⟨some 79, (.mov (.t 15)), some (77, false)⟩, {}⟩, ⟨⟨some 80, (.iadrS 2 (.t 78) (.t 79)), some (77, false)⟩, {}⟩, ⟨⟨some 81, (.iadrA 1 2 (.t 80) (.c (I
  0))), some (77, false)⟩, {}⟩, ⟨⟨some 82, (.load false 1 (.t 81)), some (77, false)⟩, {}⟩, ⟨⟨some 83, (.mov (.t 13)), some (77, false)⟩, {}⟩, ⟨⟨some 84, (.bin .leq (.t 82) (.t 83)), some (77, false)⟩, {}⟩, ⟨⟨some 85, (.mov (.t 84)), some (77, false)⟩, {}⟩, ⟨⟨some 86, (.mov (.t 13)), some (85,
  true)⟩, {}⟩, ⟨⟨some 87, (.mov (.t 5)), some (85, true)⟩, {}⟩, ⟨⟨some 88, (.mov (.t 15)), some (85, true)⟩, {}⟩, ⟨⟨some 89, (.iadrS 2 (.t 87) (.t 88)), some (85, true)⟩, {}⟩, ⟨⟨some 90, (.iadrA 1 2 (.t 89) (.c (I 1))), some (85, true)⟩, {}⟩, ⟨⟨some 91, (.load false 1 (.t 90)), some (85, true)⟩, {}⟩,
  ⟨⟨some 92, (.bin .leq (.t 86) (.t 91)), some (85, true)⟩, {}⟩, ⟨⟨some 93, (.pick (.t 85) (.t 92) (.c (B false))), some (77, false)⟩, {}⟩, ⟨⟨some 94, (.pick (.t 77) (.c (B true)) (.t 93)), none⟩, {}⟩, ⟨⟨some 14, (.mov (.t 94)), none⟩, {}⟩] none)) law24_SightingsTrue_C37)
def law24_SightingsTrue_C5 : TC := (.seq (.seq (.rg [⟨⟨some 70, (.mov (.t 15)), none⟩, {}⟩, ⟨⟨some 71, (.mov (.t 5)), none⟩, {}⟩, ⟨⟨some 72, (.len (.t 71)), none⟩, {}⟩, ⟨⟨some 73, (.bin .lss (.t 70) (.t 72)), none⟩, {}⟩] none) law24_SightingsTrue_C20) law24_SightingsTrue_C21)
def law24_SightingsTrue_C59 : TC := (.block 4 (.loop law24_SightingsTrue_N3 law24_SightingsTrue_C5))
def law24_SightingsTrue_C52 : TC := (.cond (.t 121) (.rg [⟨⟨some 122, (.mov (.t 9)), none⟩, {}⟩, ⟨⟨some 123, (.bin .add (.t 122) (.c (I 1))), none⟩, {}⟩, ⟨⟨some 9, (.mov (.t 123)), none⟩, {}⟩] none) (.rg [⟨⟨some 9, (.mov (.c (I 0))), none⟩, {}⟩] none))
def law24_SightingsTrue_C38 : TC := (.cond (.t 118) (.rg [⟨⟨some 119, (.bslice false 1 [(I 0)] 1 [(0, (.c (I 6)))]), none⟩, ⟨(.int .i64), none⟩⟩, ⟨⟨some 120, (.fadr 3 (.t 16)), none⟩, {}⟩, ⟨⟨none, (.store 1 (.t 120) (.t 119)), none⟩, {}⟩, ⟨⟨some 9, (.mov (.c (I 0))), none⟩, {}⟩] none) (.seq (.rg [⟨⟨some 121, (.mov (.t 14)), none⟩, {}⟩]
  none) law24_SightingsTrue_C52))
def law24_SightingsTrue_C39 : TC := (.join [.wk 5 (.list G_Span), .wk 10 (.list G_Report), .wk 11 (.list (.int .i64)), .wkb 16 G_Report, .keep [3, 4, 5, 9, 10, 11, 12, 13, 16], .cmp] law24_SightingsTrue_C1)
def law24_SightingsTrue_C22 : TC := (.seq (.seq (.rg [⟨⟨some 108, (.mov (.t 14)), none⟩, {}⟩, ⟨⟨some 109, (.mov (.t 108)), none⟩, {}⟩, ⟨⟨some 110, (.mov (.t 9)), some (109, true)⟩, {}⟩, ⟨⟨some 111, (.fadr 2 (.t 4)), some (109, true)⟩, {}⟩, ⟨⟨some 112, (.load false 1 (.t 111)), some (109, true)⟩, {}⟩, ⟨⟨some 113, (.bin .geq (.t 110) (.t
  112)), some (109, true)⟩, {}⟩, ⟨⟨some 114, (.mov (.t 113)), some (109, true)⟩, {}⟩, ⟨⟨some 115, (.mov (.t 3)), some (114, false)⟩, {}⟩, ⟨⟨some 116, (.call (.c (.fn 14 [])) [(.t 115), (.c (I 2))]), some (114, false)⟩, {}⟩, ⟨⟨some 117, (.pick (.t 114) (.c (B true)) (.t 116)), some (109, true)⟩, {}⟩,
  ⟨⟨some 118, (.pick (.t 109) (.t 117) (.c (B false))), none⟩, {}⟩] none) law24_SightingsTrue_C38) law24_SightingsTrue_C39)
def law24_SightingsTrue_C6 : TC := (.seq (.pre [.wait] (.rg [⟨⟨some 95, (.mov (.t 12)), none⟩, {}⟩, ⟨⟨some 96, (.mov (.t 13)), none⟩, {}⟩, ⟨⟨some 97, (.mov (.t 3)), none⟩, {}⟩, ⟨⟨some 98, (.fadr 3 (.t 4)), none⟩, {}⟩, ⟨⟨some 99, (.load false 1 (.t 98)), none⟩, {}⟩, ⟨⟨some 100, (.bin .mul (.c (I 2)) (.t 99)), none⟩, {}⟩, ⟨⟨some 101,
  (.bin .add (.t 100) (.c (I 1))), none⟩, {}⟩, ⟨⟨some 102, (.call (.c (.fn 13 [])) [(.t 97), (.t 101)]), none⟩, {}⟩, ⟨⟨some 103, (.bin .add (.t 96) (.t 102)), none⟩, {}⟩, ⟨⟨some 104, (.fadr 3 (.t 4)), none⟩, {}⟩, ⟨⟨some 105, (.load false 1 (.t 104)), none⟩, {}⟩, ⟨⟨some 106, (.bin .sub (.t 103) (.t
  105)), none⟩, {}⟩, ⟨⟨some 107, (.build [(I 0), (I 0), (I 0), (.lst true [])] [(1, (1, (.t 95))), (2, (1, (.t 106)))]), none⟩, {}⟩, ⟨⟨some 16, (.alloc [(I 0), (I 0), (I 0), (.lst true [])]), none⟩, ⟨.unit, some 4⟩⟩, ⟨⟨none, (.store 4 (.t 16) (.t 107)), none⟩, {}⟩] (some [(7, 9), (7, 10), (3, 13),
  (4, 13), (7, 13), (9, 13), (10, 13)]))) law24_SightingsTrue_C22)
def law24_SightingsTrue_C50 : TC := (.seq (.seq (.rg [⟨⟨some 15, (.mov (.c (I 0))), none⟩, {}⟩] none) law24_SightingsTrue_C59) law24_SightingsTrue_C6)
def law24_SightingsTrue_C35 : TC := (.seq (.rg [⟨⟨some 14, (.mov (.c (B false))), none⟩, {}⟩] none) law24_SightingsTrue_C50)
def law24_SightingsTrue_C18 : TC := (.seq (.block 3 (.seq (.rg [⟨⟨some 65, (.mov (.t 12)), none⟩, {}⟩, ⟨⟨some 66, (.fadr 1 (.t 4)), none⟩, {}⟩, ⟨⟨some 67, (.load false 1 (.t 66)), none⟩, {}⟩, ⟨⟨some 68, (.bin .mul (.t 65) (.t 67)), none⟩, {}⟩, ⟨⟨some 69, (.bin .add (.c (I 50)) (.t 68)), none⟩, {}⟩, ⟨⟨some 13, (.mov (.t 69)), none⟩,
  {}⟩] none) law24_SightingsTrue_C35)) law24_SightingsTrue_C2)
def law24_SightingsTrue_C3 : TC := (.seq (.seq (.rg [⟨⟨some 61, (.mov (.t 12)), none⟩, {}⟩, ⟨⟨some 62, (.bin .lss (.t 61) (.c (I 30))), none⟩, {}⟩] none) law24_SightingsTrue_C17) law24_SightingsTrue_C18)
def law24_SightingsTrue_C25 : TC := (.cond (.t 146) .skip (.exit 6))
def law24_SightingsTrue_C23 : TC := (.cond (.t 152) .skip (.exit 8))
def law24_SightingsTrue_C53 : TC := .ret
def law24_SightingsTrue_C40 : TC := (.cond (.t 180) (.seq (.rg [⟨⟨some 2, (.mov (.c (B false))), none⟩, {}⟩] none) law24_SightingsTrue_C53) .skip)
def law24_SightingsTrue_C41 : TC := (.rg [⟨⟨some 153, (.mov (.t 20)), none⟩, {}⟩, ⟨⟨some 154, (.bin .add (.t 153) (.c (I 1))), none⟩, {}⟩, ⟨⟨some 20, (.mov (.t 154)), none⟩, {}⟩] none)
def law24_SightingsTrue_C24 : TC := (.seq (.block 9 (.seq (.rg [⟨⟨some 155, (.mov (.t 5)), none⟩, {}⟩, ⟨⟨some 156, (.mov (.t 20)), none⟩, {}⟩, ⟨⟨some 157, (.iadrS 2 (.t 155) (.t 156)), none⟩, {}⟩, ⟨⟨some 158, (.iadrA 1 2 (.t 157) (.c (I 1))), none⟩, {}⟩, ⟨⟨some 159, (.load false 1 (.t 158)), none⟩, {}⟩, ⟨⟨some 160, (.mov (.t 17)),
  none⟩, {}⟩, ⟨⟨some 161, (.mov (.t 19)), none⟩, {}⟩, ⟨⟨some 162, (.iadrS 4 (.t 160) (.t 161)), none⟩, {}⟩, ⟨⟨some 163, (.fadr 3 (.t 162)), none⟩, {}⟩, ⟨⟨some 164, (.load false 1 (.t 163)), none⟩, {}⟩, ⟨⟨some 165, (.mm false [(.t 159), (.t 164)]), none⟩, {}⟩, ⟨⟨some 166, (.mov (.t 5)), none⟩, {}⟩,
  ⟨⟨some 167, (.mov (.t 20)), none⟩, {}⟩, ⟨⟨some 168, (.iadrS 2 (.t 166) (.t 167)), none⟩, {}⟩, ⟨⟨some 169, (.iadrA 1 2 (.t 168) (.c (I 0))), none⟩, {}⟩, ⟨⟨some 170, (.load false 1 (.t 169)), none⟩, {}⟩, ⟨⟨some 171, (.mov (.t 17)), none⟩, {}⟩, ⟨⟨some 172, (.mov (.t 19)), none⟩, {}⟩, ⟨⟨some 173,
  (.iadrS 4 (.t 171) (.t 172)), none⟩, {}⟩, ⟨⟨some 174, (.fadr 2 (.t 173)), none⟩, {}⟩, ⟨⟨some 175, (.load false 1 (.t 174)), none⟩, {}⟩, ⟨⟨some 176, (.mm true [(.t 170), (.t 175)]), none⟩, {}⟩, ⟨⟨some 177, (.bin .sub (.t 165) (.t 176)), none⟩, {}⟩, ⟨⟨some 178, (.load true 4 (.t 4)), none⟩, {}⟩,
  ⟨⟨some 179, (.call (.c (.fn 15 [])) [(.t 178)]), none⟩, {}⟩, ⟨⟨some 180, (.bin .gtr (.t 177) (.t 179)), none⟩, {}⟩] (some [(2, 24), (3, 24), (4, 24), (7, 24), (8, 24), (9, 24), (13, 24), (14, 24), (15, 24), (18, 24), (19, 24), (20, 24)])) law24_SightingsTrue_C40)) law24_SightingsTrue_C41)
def law24_SightingsTrue_C7 : TC := (.seq (.seq (.rg [⟨⟨some 149, (.mov (.t 20)), none⟩, {}⟩, ⟨⟨some 150, (.mov (.t 5)), none⟩, {}⟩, ⟨⟨some 151, (.len (.t 150)), none⟩, {}⟩, ⟨⟨some 152, (.bin .lss (.t 149) (.t 151)), none⟩, {}⟩] none) law24_SightingsTrue_C23) law24_SightingsTrue_C24)
def law24_SightingsTrue_C42 : TC := (.block 8 (.loop law24_SightingsTrue_N5 law24_SightingsTrue_C7))
def law24_SightingsTrue_C8 : TC := (.rg [⟨⟨some 147, (.mov (.t 19)), none⟩, {}⟩, ⟨⟨some 148, (.bin .add (.t 147) (.c (I 1))), none⟩, {}⟩, ⟨⟨some 19, (.mov (.t 148)), none⟩, {}⟩] none)
def law24_SightingsTrue_C26 : TC := (.seq (.block 7 (.seq (.rg [⟨⟨some 20, (.mov (.c (I 0))), none⟩, {}⟩] none) law24_SightingsTrue_C42)) law24_SightingsTrue_C8)
def law24_SightingsTrue_C9 : TC := (.seq (.seq (.rg [⟨⟨some 139, (.mov (.t 19)), none⟩, {}⟩, ⟨⟨some 140, (.mov (.t 17)), none⟩, {}⟩, ⟨⟨some 141, (.len (.t 140)), none⟩, {}⟩, ⟨⟨some 142, (.bin .lss (.t 139) (.t 141)), none⟩, {}⟩, ⟨⟨some 143, (.mov (.t 142)), none⟩, {}⟩, ⟨⟨some 144, (.mov (.t 18)), some (143, true)⟩, {}⟩, ⟨⟨some 145,
  (.bin .eql (.t 144) (.c (I 0))), some (143, true)⟩, {}⟩, ⟨⟨some 146, (.pick (.t 143) (.t 145) (.c (B false))), none⟩, {}⟩] none) law24_SightingsTrue_C25) law24_SightingsTrue_C26)
def law24_SightingsTrue_C51 : TC := (.block 6 (.loop law24_SightingsTrue_N4 law24_SightingsTrue_C9))
def law24_SightingsTrue_C27 : TC := (.cond (.t 184) .skip (.exit 10))
def law24_SightingsTrue_C60 : TC := .ret
def law24_SightingsTrue_C54 : TC := (.cond (.t 236) (.seq (.rg [⟨⟨some 2, (.mov (.c (B false))), none⟩, {}⟩] none) law24_SightingsTrue_C60) .skip)
def law24_SightingsTrue_C43 : TC := (.seq (.rg [⟨⟨some 197, (.mov (.t 23)), none⟩, {}⟩, ⟨⟨some 198, (.bin .neq (.t 197) (.c (I 0))), none⟩, {}⟩, ⟨⟨some 199, (.mov (.t 198)), none⟩, {}⟩, ⟨⟨some 200, (.mov (.t 22)), some (199, false)⟩, {}⟩, ⟨⟨some 201, (.len (.t 200)), some (199, false)⟩, {}⟩, ⟨⟨some 202, (.mov (.t 10)), some (199,
  false)⟩, {}⟩, ⟨⟨some 203, (.mov (.t 21)), some (199, false)⟩, {}⟩, ⟨⟨some 204, (.iadrS 4 (.t 202) (.t 203)), some (199, false)⟩, {}⟩, ⟨⟨some 205, (.fadr 3 (.t 204)), some (199, false)⟩, {}⟩, ⟨⟨some 206, (.load false 1 (.t 205)), some (199, false)⟩, {}⟩, ⟨⟨some 207, (.len (.t 206)), some (199,
  false)⟩, {}⟩, ⟨⟨some 208, (.bin .neq (.t 201) (.t 207)), some (199, false)⟩, {}⟩, ⟨⟨some 209, (.pick (.t 199) (.c (B true)) (.t 208)), none⟩, {}⟩, ⟨⟨some 210, (.mov (.t 209)), none⟩, {}⟩, ⟨⟨some 211, (.mov (.t 22)), some (210, false)⟩, {}⟩, ⟨⟨some 212, (.len (.t 211)), some (210, false)⟩, {}⟩,
  ⟨⟨some 213, (.bin .eql (.t 212) (.c (I 1))), some (210, false)⟩, {}⟩, ⟨⟨some 214, (.mov (.t 213)), some (210, false)⟩, {}⟩, ⟨⟨some 215, (.mov (.t 22)), some (214, true)⟩, {}⟩, ⟨⟨some 216, (.iadrS 4 (.t 215) (.c (I 0))), some (214, true)⟩, {}⟩, ⟨⟨some 217, (.fadr 2 (.t 216)), some (214, true)⟩, {}⟩,
  ⟨⟨some 218, (.load false 1 (.t 217)), some (214, true)⟩, {}⟩, ⟨⟨some 219, (.mov (.t 11)), some (214, true)⟩, {}⟩, ⟨⟨some 220, (.mov (.t 21)), some (214, true)⟩, {}⟩, ⟨⟨some 221, (.iadrS 1 (.t 219) (.t 220)), some (214, true)⟩, {}⟩, ⟨⟨some 222, (.load false 1 (.t 221)), some (214, true)⟩, {}⟩,
  ⟨⟨some 223, (.bin .gtr (.t 218) (.t 222)), some (214, true)⟩, {}⟩, ⟨⟨some 224, (.mov (.t 223)), some (214, true)⟩, {}⟩, ⟨⟨some 225, (.mov (.t 22)), some (224, false)⟩, {}⟩, ⟨⟨some 226, (.iadrS 4 (.t 225) (.c (I 0))), some (224, false)⟩, {}⟩, ⟨⟨some 227, (.fadr 3 (.t 226)), some (224, false)⟩, {}⟩,
  ⟨⟨some 228, (.load false 1 (.t 227)), some (224, false)⟩, {}⟩, ⟨⟨some 229, (.mov (.t 11)), some (224, false)⟩, {}⟩, ⟨⟨some 230, (.mov (.t 21)), some (224, false)⟩, {}⟩, ⟨⟨some 231, (.iadrS 1 (.t 229) (.t 230)), some (224, false)⟩, {}⟩, ⟨⟨some 232, (.load false 1 (.t 231)), some (224, false)⟩, {}⟩,
  ⟨⟨some 233, (.bin .lss (.t 228) (.t 232)), some (224, false)⟩, {}⟩, ⟨⟨some 234, (.pick (.t 224) (.c (B true)) (.t 233)), some (214, true)⟩, {}⟩, ⟨⟨some 235, (.pick (.t 214) (.t 234) (.c (B false))), some (210, false)⟩, {}⟩, ⟨⟨some 236, (.pick (.t 210) (.c (B true)) (.t 235)), none⟩, {}⟩] (some []))
  law24_SightingsTrue_C54)
def law24_SightingsTrue_C44 : TC := (.rg [⟨⟨some 185, (.mov (.t 21)), none⟩, {}⟩, ⟨⟨some 186, (.bin .add (.t 185) (.c (I 1))), none⟩, {}⟩, ⟨⟨some 21, (.mov (.t 186)), none⟩, {}⟩] none)
def law24_SightingsTrue_C28 : TC := (.seq (.block 11 (.seq (.rg [⟨⟨some 188, (.load true 4 (.t 4)), none⟩, {}⟩, ⟨⟨some 189, (.bslice false 4 [(.lst true []), (I 0), (I 0), (I 0)] 1 [(0, (.t 188))]), none⟩, ⟨G_TagReader, none⟩⟩, ⟨⟨some 190, (.mov (.t 10)), none⟩, {}⟩, ⟨⟨some 191, (.mov (.t 21)), none⟩, {}⟩, ⟨⟨some 192, (.iadrS 4 (.t
  190) (.t 191)), none⟩, {}⟩, ⟨⟨some 193, (.load true 4 (.t 192)), none⟩, {}⟩, ⟨⟨some 194, (.call (.c (.fn 19 [])) [(.t 189), (.t 193)]), none⟩, {}⟩, ⟨⟨some 187, (.mov (.t 194)), none⟩, {}⟩, ⟨⟨some 195, (.extr 0 (.t 187)), none⟩, {}⟩, ⟨⟨some 196, (.extr 1 (.t 187)), none⟩, {}⟩, ⟨⟨some 22, (.mov (.t
  195)), none⟩, {}⟩, ⟨⟨some 23, (.mov (.t 196)), none⟩, {}⟩] (some [])) law24_SightingsTrue_C43)) law24_SightingsTrue_C44)
def law24_SightingsTrue_C11 : TC := (.seq (.seq (.rg [⟨⟨some 181, (.mov (.t 21)), none⟩, {}⟩, ⟨⟨some 182, (.mov (.t 10)), none⟩, {}⟩, ⟨⟨some 183, (.len (.t 182)), none⟩, {}⟩, ⟨⟨some 184, (.bin .lss (.t 181) (.t 183)), none⟩, {}⟩] none) law24_SightingsTrue_C27) law24_SightingsTrue_C28)
def law24_SightingsTrue_C30 : TC := (.block 10 (.loop law24_SightingsTrue_N6 law24_SightingsTrue_C11))
def law24_SightingsTrue_C29 : TC := .ret
def law24_SightingsTrue_C12 : TC := (.seq (.rg [⟨⟨some 237, (.call (.c (.fn 8 [])) []), none⟩, {}⟩, ⟨⟨some 238, (.mov (.t 237)), none⟩, {}⟩, ⟨⟨some 239, (.mov (.t 18)), some (238, true)⟩, {}⟩, ⟨⟨some 240, (.bin .eql (.t 239) (.c (I 0))), some (238, true)⟩, {}⟩, ⟨⟨some 241, (.pick (.t 238) (.t 240) (.c (B false))), none⟩, {}⟩, ⟨⟨some 2,
  (.mov (.t 241)), none⟩, {}⟩] none) law24_SightingsTrue_C29)
def law24_SightingsTrue_C13 : TC := (.seq (.seq (.rg [⟨⟨some 21, (.mov (.c (I 0))), none⟩, {}⟩] none) law24_SightingsTrue_C30) law24_SightingsTrue_C12)
def law24_SightingsTrue_C10 : TC := (.join [.wk 10 (.list G_Report), .wk 11 (.list (.int .i64)), .keep [4, 10, 11, 18], .cmp] law24_SightingsTrue_C13)
def law24_SightingsTrue_C36 : TC := (.seq (.seq (.rg [⟨⟨some 19, (.mov (.c (I 0))), none⟩, {}⟩] none) law24_SightingsTrue_C51) law24_SightingsTrue_C10)
def law24_SightingsTrue_C19 : TC := (.seq (.rg [⟨⟨some 133, (.load true 4 (.t 4)), none⟩, {}⟩, ⟨⟨some 134, (.bslice false 4 [(.lst true []), (I 0), (I 0), (I 0)] 1 [(0, (.t 133))]), none⟩, ⟨G_TagReader, none⟩⟩, ⟨⟨some 135, (.mov (.t 10)), none⟩, {}⟩, ⟨⟨some 136, (.call (.c (.fn 18 [])) [(.t 134), (.c (I 0)), (.c (I 6)), (.t 135)]),
  none⟩, {}⟩, ⟨⟨some 132, (.mov (.t 136)), none⟩, {}⟩, ⟨⟨some 137, (.extr 0 (.t 132)), none⟩, {}⟩, ⟨⟨some 138, (.extr 1 (.t 132)), none⟩, {}⟩, ⟨⟨some 17, (.mov (.t 137)), none⟩, {}⟩, ⟨⟨some 18, (.mov (.t 138)), none⟩, {}⟩] none) law24_SightingsTrue_C36)
def law24_SightingsTrue_C4 : TC := (.pre [.frz 10, .frz 11] law24_SightingsTrue_C19)
def law24_SightingsTrue_C31 : TC := (.cond (.t 42) .skip (.exit 0))
def law24_SightingsTrue_C61 : TC := (.rg [⟨⟨some 59, (.mov (.t 6)), none⟩, {}⟩, ⟨⟨some 60, (.bin .add (.t 59) (.c (I 1))), none⟩, {}⟩, ⟨⟨some 6, (.mov (.t 60)), none⟩, {}⟩] none)
def law24_SightingsTrue_C55 : TC := (.seq (.rg [⟨⟨some 53, (.mov (.t 5)), none⟩, {}⟩, ⟨⟨some 54, (.mov (.t 8)), none⟩, {}⟩, ⟨⟨some 55, (.mov (.t 6)), none⟩, {}⟩, ⟨⟨some 56, (.build [(I 0), (I 0)] [(0, (1, (.t 54))), (1, (1, (.t 55)))]), none⟩, {}⟩, ⟨⟨some 57, (.bslice false 2 [(I 0), (I 0)] 1 [(0, (.t 56))]), none⟩, ⟨G_Span, none⟩⟩,
  ⟨⟨some 58, (.app 2 16 (.t 53) (.t 57)), none⟩, {}⟩, ⟨⟨some 5, (.mov (.t 58)), none⟩, {}⟩] none) law24_SightingsTrue_C61)
def law24_SightingsTrue_C45 : TC := (.seq (.rg [⟨⟨some 49, (.mov (.t 8)), none⟩, {}⟩, ⟨⟨some 50, (.mov (.t 3)), none⟩, {}⟩, ⟨⟨some 51, (.call (.c (.fn 13 [])) [(.t 50), (.c (I 120))]), none⟩, {}⟩, ⟨⟨some 52, (.bin .add (.t 49) (.t 51)), none⟩, {}⟩, ⟨⟨some 6, (.mov (.t 52)), none⟩, {}⟩] none) law24_SightingsTrue_C55)
def law24_SightingsTrue_C46 : TC := (.rg [⟨⟨some 43, (.mov (.t 7)), none⟩, {}⟩, ⟨⟨some 44, (.bin .sub (.t 43) (.c (I 1))), none⟩, {}⟩, ⟨⟨some 7, (.mov (.t 44)), none⟩, {}⟩] none)
def law24_SightingsTrue_C32 : TC := (.seq (.block 1 (.seq (.rg [⟨⟨some 45, (.mov (.t 6)), none⟩, {}⟩, ⟨⟨some 46, (.mov (.t 3)), none⟩, {}⟩, ⟨⟨some 47, (.call (.c (.fn 13 [])) [(.t 46), (.c (I 80))]), none⟩, {}⟩, ⟨⟨some 48, (.bin .add (.t 45) (.t 47)), none⟩, {}⟩, ⟨⟨some 8, (.mov (.t 48)), none⟩, {}⟩] none) law24_SightingsTrue_C45))
  law24_SightingsTrue_C46)
def law24_SightingsTrue_C14 : TC := (.seq (.seq (.rg [⟨⟨some 41, (.mov (.t 7)), none⟩, {}⟩, ⟨⟨some 42, (.bin .gtr (.t 41) (.c (I 0))), none⟩, {}⟩] none) law24_SightingsTrue_C31) law24_SightingsTrue_C32)
def law24_SightingsTrue_C64 : TC := (.block 2 (.loop law24_SightingsTrue_N2 law24_SightingsTrue_C3))
def law24_SightingsTrue_C62 : TC := (.seq (.seq (.rg [⟨⟨some 12, (.mov (.c (I 0))), none⟩, {}⟩] none) law24_SightingsTrue_C64) law24_SightingsTrue_C4)
def law24_SightingsTrue_C56 : TC := (.seq (.rg [⟨⟨some 11, (.mov (.c (.lst true []))), none⟩, {}⟩] none) law24_SightingsTrue_C62)
def law24_SightingsTrue_C47 : TC := (.seq (.rg [⟨⟨some 10, (.mov (.c (.lst true []))), none⟩, {}⟩] none) law24_SightingsTrue_C56)
def law24_SightingsTrue_C33 : TC := (.seq (.rg [⟨⟨some 9, (.mov (.c (I 0))), none⟩, {}⟩] none) law24_SightingsTrue_C47)
def law24_SightingsTrue_C15 : TC := (.pre [.frz 5] law24_SightingsTrue_C33)
def law24_SightingsTrue_C57 : TC := .ret
def law24_SightingsTrue_C48 : TC := (.cond (.t 26) (.seq (.rg [⟨⟨some 27, (.call (.c (.fn 8 [])) []), none⟩, {}⟩, ⟨⟨some 2, (.mov (.t 27)), none⟩, {}⟩] none) law24_SightingsTrue_C57) .skip)
def law24_SightingsTrue_C67 : TC := (.block 0 (.loop law24_SightingsTrue_N1 law24_SightingsTrue_C14))
def law24_SightingsTrue_C66 : TC := (.seq (.seq (.rg [⟨⟨some 39, (.mov (.t 3)), none⟩, {}⟩, ⟨⟨some 40, (.call (.c (.fn 13 [])) [(.t 39), (.c (I 5))]), none⟩, {}⟩, ⟨⟨some 7, (.mov (.t 40)), none⟩, {}⟩] none) law24_SightingsTrue_C67) law24_SightingsTrue_C15)
def law24_SightingsTrue_C65 : TC := (.seq (.rg [⟨⟨some 6, (.mov (.c (I 50))), none⟩, {}⟩] none) law24_SightingsTrue_C66)
def law24_SightingsTrue_C63 : TC := (.seq (.rg [⟨⟨some 5, (.mov (.c (.lst true []))), none⟩, {}⟩] none) law24_SightingsTrue_C65)
def law24_SightingsTrue_C58 : TC := (.seq (.rg [⟨⟨some 30, (.bslice false 1 [(I 0)] 1 [(0, (.c (I 0)))]), none⟩, ⟨(.int .i64), none⟩⟩, ⟨⟨some 31, (.mov (.t 3)), none⟩, {}⟩, ⟨⟨some 32, (.call (.c (.fn 13 [])) [(.t 31), (.c (I 20))]), none⟩, {}⟩, ⟨⟨some 33, (.bin .add (.c (I 1)) (.t 32)), none⟩, {}⟩, ⟨⟨some 34, (.mov (.t 3)), none⟩, {}⟩,
  ⟨⟨some 35, (.call (.c (.fn 13 [])) [(.t 34), (.c (I 3))]), none⟩, {}⟩, ⟨⟨some 36, (.mov (.t 3)), none⟩, {}⟩, ⟨⟨some 37, (.call (.c (.fn 13 [])) [(.t 36), (.c (I 4))]), none⟩, {}⟩, ⟨⟨some 38, (.build [(.lst true []), (I 0), (I 0), (I 0)] [(0, (1, (.t 30))), (1, (1, (.t 33))), (2, (1, (.t 35))), (3,
  (1, (.t 37)))]), none⟩, {}⟩, ⟨⟨some 4, (.alloc [(.lst true []), (I 0), (I 0), (I 0)]), none⟩, {}⟩, ⟨⟨none, (.store 4 (.t 4) (.t 38)), none⟩, {}⟩] none) law24_SightingsTrue_C63)
def law24_SightingsTrue_C49 : TC := (.seq (.rg [⟨⟨some 28, (.mov (.t 0)), none⟩, {}⟩, ⟨⟨some 29, (.call (.c (.fn 9 [])) [(.t 28)]), none⟩, {}⟩, ⟨⟨some 3, (.mov (.t 29)), none⟩, {}⟩] none) law24_SightingsTrue_C58)
def law24_SightingsTrue_C34 : TC := (.seq (.seq (.rg [⟨⟨some 24, (.mov (.t 0)), none⟩, {}⟩, ⟨⟨some 25, (.call (.c (.fn 7 [])) [(.t 24)]), none⟩, {}⟩, ⟨⟨some 26, (.un .not (.t 25)), none⟩, {}⟩] none) law24_SightingsTrue_C48) law24_SightingsTrue_C49)
def law24_SightingsTrue_C16 : TC := (.seq (.rg [⟨⟨some 2, (.mov (.c (B false))), none⟩, {}⟩] none) law24_SightingsTrue_C34)
def law24_SightingsTrue_E (N : Nat) : List (Nat × Ent) := [(7, pureE [(.list (.int .i64))] [.bool] (fun x => made_Light N x)), (8, pureE [] [.bool] (fun x => law24_awake N)), (9, sfE [none] [.v (.list (.int .i64))] [.n G_Dice] (fun x => made_Roll N x)), (13, sfE [none, none] [.b (.v G_Dice), .v (.int .i64)] [.v (.int .i64)] (fun x => made_Dice_Next N x.1 x.2)), (14, sfE [none, none] [.b (.v G_Dice), .v (.int .i64)] [.v .bool] (fun x => made_Dice_One N x.1 x.2)), (18, sfE [none, none, none, none] [.v (.list G_TagReader), .v (.int .i64), .v (.int .i64), .v (.list G_Report)] [.o (.a G_Absence), .v (.int .i64)] (fun x => sightings_Absences N x.1 x.2.1 x.2.2.1 x.2.2.2)), (15, pureE [G_TagReader] [(.int .i64)] (fun x => sightings_Blind N x)), (19, pureE [(.list G_TagReader), G_Report] [(.list G_Absence), (.int .i64)] (fun x => sightings_Of N x.1 x.2))]
def law24_SightingsTrue_J1 (N n2 : Nat) (x101 : List T_Span) (x102 : Int) (x103 : Int) (x104 : Int) (x105 : List Int) (x106 : Int) (x107 : List Int) (x108 : Int) (x109 : Int) (x110 : Int) (x111 : List T_Report) (x112 : List Int) (x113 : Int) (x114 : Int) (x115 : Int) (x116 : List Int) : Option Bool := joinN (run (law24_SightingsTrue_E N) N 0 law24_SightingsTrue_C1) N ⟨[(3, .ptr 0 0 0), (4, .ptr 1 0 0), (5, .lst false G_Span x101), (9, .int .i64 x102), (10, .whole 2), (11, .whole 3), (12, .int .i64 x103), (13, .int .i64 x104), (16, .ptr 4 0 0)], [some (.box 0 [.lst false (.int .i64) x105, .int .i64 x106]), some (.box 0 [.lst true (.int .i64) x107, .int .i64 x108, .int .i64 x109, .int .i64 x110]), some (.arr G_Report x111), some (.arr (.int .i64) x112), some (.box 1 [.int .i64 x113, .int .i64 x114, .int .i64 x115, .lst false (.int .i64) x116])]⟩ (blkK 3 (seqK (run (law24_SightingsTrue_E N) N 0 law24_SightingsTrue_C2) (seqK (nextL (normI 0 law24_SightingsTrue_N2) (loopN (normI 0 law24_SightingsTrue_N2) (run (law24_SightingsTrue_E N) N 0 law24_SightingsTrue_C3) n2)) (blkK 2 (seqK (run (law24_SightingsTrue_E N) N 0 law24_SightingsTrue_C4) (fin [(.t 2)] [.bool]))))))
def law24_SightingsTrue_L3 (N n2 : Nat) (n : Nat) (x41 : List T_Span) (x42 : Int) (x43 : Int) (x44 : Int) (x45 : Bool) (x46 : Int) (x47 : List Int) (x48 : Int) (x49 : List Int) (x50 : Int) (x51 : Int) (x52 : Int) (x53 : List T_Report) (x54 : List Int) : Option Bool := loopN (normI 0 law24_SightingsTrue_N3) (run (law24_SightingsTrue_E N) N 0 law24_SightingsTrue_C5) n ⟨[(3, .ptr 0 0 0), (4, .ptr 1 0 0), (5, .lst false G_Span x41), (9, .int .i64 x42), (10, .whole 2), (11, .whole 3), (12, .int .i64 x43), (13, .int .i64 x44), (14, .bool x45), (15, .int .i64 x46)], [some (.box 0 [.lst false (.int .i64) x47, .int .i64 x48]), some (.box 0 [.lst true (.int .i64) x49, .int .i64 x50, .int .i64 x51, .int .i64 x52]), some (.arr G_Report x53), some (.arr (.int .i64) x54)]⟩ (blkK 4 (seqK (run (law24_SightingsTrue_E N) N 0 law24_SightingsTrue_C6) (blkK 3 (seqK (run (law24_SightingsTrue_E N) N 0 law24_SightingsTrue_C2) (seqK (nextL (normI 0 law24_SightingsTrue_N2) (loopN (normI 0 law24_SightingsTrue_N2) (run (law24_SightingsTrue_E N) N 0 law24_SightingsTrue_C3) n2)) (blkK 2 (seqK (run (law24_SightingsTrue_E N) N 0 law24_SightingsTrue_C4) (fin [(.t 2)] [.bool]))))))))
def law24_SightingsTrue_L5 (N n4 : Nat) (n : Nat) (x252 : List T_Span) (x253 : List T_Report) (x254 : List Int) (x255 : Int) (x256 : Int) (x257 : Int) (x258 : List Int) (x259 : Int) (x260 : Int) (x261 : Int) (x262 : List T_Absence) : Option Bool := loopN (normI 0 law24_SightingsTrue_N5) (run (law24_SightingsTrue_E N) N 0 law24_SightingsTrue_C7) n ⟨[(4, .ptr 0 0 0), (5, .lst false G_Span x252), (10, .lst false G_Report x253), (11, .lst false (.int .i64) x254), (17, .whole 1), (18, .int .i64 x255), (19, .int .i64 x256), (20, .int .i64 x257)], [some (.box 0 [.lst true (.int .i64) x258, .int .i64 x259, .int .i64 x260, .int .i64 x261]), some (.arr G_Absence x262)]⟩ (blkK 8 (blkK 7 (seqK (run (law24_SightingsTrue_E N) N 0 law24_SightingsTrue_C8) (seqK (nextL (normI 0 law24_SightingsTrue_N4) (loopN (normI 0 law24_SightingsTrue_N4) (run (law24_SightingsTrue_E N) N 0 law24_SightingsTrue_C9) n4)) (blkK 6 (seqK (run (law24_SightingsTrue_E N) N 0 law24_SightingsTrue_C10) (fin [(.t 2)] [.bool])))))))
def law24_SightingsTrue_L6 (N : Nat) (n : Nat) (x308 : List T_Report) (x309 : List Int) (x310 : Int) (x311 : Int) (x312 : List Int) (x313 : Int) (x314 : Int) (x315 : Int) : Option Bool := loopN (normI 0 law24_SightingsTrue_N6) (run (law24_SightingsTrue_E N) N 0 law24_SightingsTrue_C11) n ⟨[(4, .ptr 0 0 0), (10, .lst false G_Report x308), (11, .lst false (.int .i64) x309), (18, .int .i64 x310), (21, .int .i64 x311)], [some (.box 0 [.lst true (.int .i64) x312, .int .i64 x313, .int .i64 x314, .int .i64 x315])]⟩ (blkK 10 (seqK (run (law24_SightingsTrue_E N) N 0 law24_SightingsTrue_C12) (fin [(.t 2)] [.bool])))
def law24_SightingsTrue_J2 (N : Nat) (x301 : List T_Report) (x302 : List Int) (x303 : Int) (x304 : List Int) (x305 : Int) (x306 : Int) (x307 : Int) : Option Bool := joinN (run (law24_SightingsTrue_E N) N 0 law24_SightingsTrue_C13) N ⟨[(4, .ptr 0 0 0), (10, .lst false G_Report x301), (11, .lst false (.int .i64) x302), (18, .int .i64 x303)], [some (.box 0 [.lst true (.int .i64) x304, .int .i64 x305, .int .i64 x306, .int .i64 x307])]⟩ (fin [(.t 2)] [.bool])
def law24_SightingsTrue_L4 (N : Nat) (n : Nat) (x242 : List T_Span) (x243 : List T_Report) (x244 : List Int) (x245 : Int) (x246 : Int) (x247 : List Int) (x248 : Int) (x249 : Int) (x250 : Int) (x251 : List T_Absence) : Option Bool := loopN (normI 0 law24_SightingsTrue_N4) (run (law24_SightingsTrue_E N) N 0 law24_SightingsTrue_C9) n ⟨[(4, .ptr 0 0 0), (5, .lst false G_Span x242), (10, .lst false G_Report x243), (11, .lst false (.int .i64) x244), (17, .whole 1), (18, .int .i64 x245), (19, .int .i64 x246)], [some (.box 0 [.lst true (.int .i64) x247, .int .i64 x248, .int .i64 x249, .int .i64 x250]), some (.arr G_Absence x251)]⟩ (blkK 6 (seqK (run (law24_SightingsTrue_E N) N 0 law24_SightingsTrue_C10) (fin [(.t 2)] [.bool])))
def law24_SightingsTrue_L2 (N : Nat) (n : Nat) (x30 : List T_Span) (x31 : Int) (x32 : Int) (x33 : List Int) (x34 : Int) (x35 : List Int) (x36 : Int) (x37 : Int) (x38 : Int) (x39 : List T_Report) (x40 : List Int) : Option Bool := loopN (normI 0 law24_SightingsTrue_N2) (run (law24_SightingsTrue_E N) N 0 law24_SightingsTrue_C3) n ⟨[(3, .ptr 0 0 0), (4, .ptr 1 0 0), (5, .lst false G_Span x30), (9, .int .i64 x31), (10, .whole 2), (11, .whole 3), (12, .int .i64 x32)], [some (.box 0 [.lst false (.int .i64) x33, .int .i64 x34]), some (.box 0 [.lst true (.int .i64) x35, .int .i64 x36, .int .i64 x37, .int .i64 x38]), some (.arr G_Report x39), some (.arr (.int .i64) x40)]⟩ (blkK 2 (seqK (run (law24_SightingsTrue_E N) N 0 law24_SightingsTrue_C4) (fin [(.t 2)] [.bool])))
def law24_SightingsTrue_L1 (N : Nat) (n : Nat) (x8 : Int) (x9 : Int) (x10 : List Int) (x11 : Int) (x12 : List Int) (x13 : Int) (x14 : Int) (x15 : Int) (x16 : List T_Span) : Option Bool := loopN (normI 0 law24_SightingsTrue_N1) (run (law24_SightingsTrue_E N) N 0 law24_SightingsTrue_C14) n ⟨[(3, .ptr 0 0 0), (4, .ptr 1 0 0), (5, .whole 2), (6, .int .i64 x8), (7, .int .i64 x9)], [some (.box 0 [.lst false (.int .i64) x10, .int .i64 x11]), some (.box 0 [.lst true (.int .i64) x12, .int .i64 x13, .int .i64 x14, .int .i64 x15]), some (.arr G_Span x16)]⟩ (blkK 0 (seqK (run (law24_SightingsTrue_E N) N 0 law24_SightingsTrue_C15) (fin [(.t 2)] [.bool])))
theorem law24_SightingsTrue_J1_eq (N n2 : Nat) (x101 : List T_Span) (x102 : Int) (x103 : Int) (x104 : Int) (x105 : List Int) (x106 : Int) (x107 : List Int) (x108 : Int) (x109 : Int) (x110 : Int) (x111 : List T_Report) (x112 : List Int) (x113 : Int) (x114 : Int) (x115 : Int) (x116 : List Int) : law24_SightingsTrue_J1 (N + 1) n2 x101 x102 x103 x104 x105 x106 x107 x108 x109 x110 x111 x112 x113 x114 x115 x116 =
  bif fitsB (x111.length + 1) 48 then
  bif fitsB (x112.length + 1) 8 then
  law24_SightingsTrue_L2 (N + 1) n2 x101 x102 (W (x103 + 1)) x105 x106 x107 x108 x109 x110 (x111 ++ [(x113, (x114, (x115, x116)))]) (x112 ++ [x104])
  else none
  else none := by kernel_rfl
theorem law24_SightingsTrue_L3_zero (N n2 : Nat) (x41 : List T_Span) (x42 : Int) (x43 : Int) (x44 : Int) (x45 : Bool) (x46 : Int) (x47 : List Int) (x48 : Int) (x49 : List Int) (x50 : Int) (x51 : Int) (x52 : Int) (x53 : List T_Report) (x54 : List Int) : law24_SightingsTrue_L3 N n2 0 x41 x42 x43 x44 x45 x46 x47 x48 x49 x50 x51 x52 x53 x54 = none := rfl
theorem law24_SightingsTrue_L3_succ (N n2 : Nat) (n3 : Nat) (x41 : List T_Span) (x42 : Int) (x43 : Int) (x44 : Int) (x45 : Bool) (x46 : Int) (x47 : List Int) (x48 : Int) (x49 : List Int) (x50 : Int) (x51 : Int) (x52 : Int) (x53 : List T_Report) (x54 : List Int) : law24_SightingsTrue_L3 N n2 (n3 + 1) x41 x42 x43 x44 x45 x46 x47 x48 x49 x50 x51 x52 x53 x54 =
  bif (decide (x46 < (x41.length : Int))) then
    bif x45 then
      law24_SightingsTrue_L3 N n2 n3 x41 x42 x43 x44 true (W (x46 + 1)) x47 x48 x49 x50 x51 x52 x53 x54
    else
      bif inB x46 x41.length then
      bif (decide ((x41.getD x46.toNat D_Span).1 ≤ x44)) then
        bif inB x46 x41.length then
        law24_SightingsTrue_L3 N n2 n3 x41 x42 x43 x44 (decide (x44 ≤ (x41.getD x46.toNat D_Span).2)) (W (x46 + 1)) x47 x48 x49 x50 x51 x52 x53 x54
        else none
      else
        law24_SightingsTrue_L3 N n2 n3 x41 x42 x43 x44 false (W (x46 + 1)) x47 x48 x49 x50 x51 x52 x53 x54
      else none
  else
    Option.bind (made_Dice_Next N (x47, x48) (W ((W (2 * x52)) + 1))) fun r99 =>
    let v100 := W ((W (x44 + r99.1)) - x52)
    bif x45 then
      bif (decide (x42 ≥ x51)) then
        law24_SightingsTrue_J1 N n2 x41 0 x43 x44 r99.2.1 r99.2.2 x49 x50 x51 x52 x53 x54 0 x43 v100 [6]
      else
        Option.bind (made_Dice_One N r99.2 2) fun r146 =>
        bif r146.1 then
          law24_SightingsTrue_J1 N n2 x41 0 x43 x44 r146.2.1 r146.2.2 x49 x50 x51 x52 x53 x54 0 x43 v100 [6]
        else
          bif x45 then
            law24_SightingsTrue_J1 N n2 x41 (W (x42 + 1)) x43 x44 r146.2.1 r146.2.2 x49 x50 x51 x52 x53 x54 0 x43 v100 []
          else
            law24_SightingsTrue_J1 N n2 x41 0 x43 x44 r146.2.1 r146.2.2 x49 x50 x51 x52 x53 x54 0 x43 v100 []
    else
      bif x45 then
        law24_SightingsTrue_J1 N n2 x41 (W (x42 + 1)) x43 x44 r99.2.1 r99.2.2 x49 x50 x51 x52 x53 x54 0 x43 v100 []
      else
        law24_SightingsTrue_J1 N n2 x41 0 x43 x44 r99.2.1 r99.2.2 x49 x50 x51 x52 x53 x54 0 x43 v100 [] := by kernel_rfl
theorem law24_SightingsTrue_L5_zero (N n4 : Nat) (x252 : List T_Span) (x253 : List T_Report) (x254 : List Int) (x255 : Int) (x256 : Int) (x257 : Int) (x258 : List Int) (x259 : Int) (x260 : Int) (x261 : Int) (x262 : List T_Absence) : law24_SightingsTrue_L5 N n4 0 x252 x253 x254 x255 x256 x257 x258 x259 x260 x261 x262 = none := rfl
theorem law24_SightingsTrue_L5_succ (N n4 : Nat) (n5 : Nat) (x252 : List T_Span) (x253 : List T_Report) (x254 : List Int) (x255 : Int) (x256 : Int) (x257 : Int) (x258 : List Int) (x259 : Int) (x260 : Int) (x261 : Int) (x262 : List T_Absence) : law24_SightingsTrue_L5 N n4 (n5 + 1) x252 x253 x254 x255 x256 x257 x258 x259 x260 x261 x262 =
  bif (decide (x257 < (x252.length : Int))) then
    bif inB x257 x252.length then
    bif inB x256 x262.length then
    bif inB x257 x252.length then
    bif inB x256 x262.length then
    Option.bind (sightings_Blind N (x258, (x259, (x260, x261)))) fun r268 =>
    bif (decide ((W ((min (x252.getD x257.toNat D_Span).2 (x262.getD x256.toNat D_Absence).2.2.2) - (max (x252.getD x257.toNat D_Span).1 (x262.getD x256.toNat D_Absence).2.2.1))) > r268)) then
      some false
    else
      law24_SightingsTrue_L5 N n4 n5 x252 x253 x254 x255 x256 (W (x257 + 1)) x258 x259 x260 x261 x262
    else none
    else none
    else none
    else none
  else
    law24_SightingsTrue_L4 N n4 x252 x253 x254 x255 (W (x256 + 1)) x258 x259 x260 x261 x262 := by kernel_rfl
theorem law24_SightingsTrue_L6_zero (N : Nat) (x308 : List T_Report) (x309 : List Int) (x310 : Int) (x311 : Int) (x312 : List Int) (x313 : Int) (x314 : Int) (x315 : Int) : law24_SightingsTrue_L6 N 0 x308 x309 x310 x311 x312 x313 x314 x315 = none := rfl
theorem law24_SightingsTrue_L6_succ (N : Nat) (n6 : Nat) (x308 : List T_Report) (x309 : List Int) (x310 : Int) (x311 : Int) (x312 : List Int) (x313 : Int) (x314 : Int) (x315 : Int) : law24_SightingsTrue_L6 N (n6 + 1) x308 x309 x310 x311 x312 x313 x314 x315 =
  bif (decide (x311 < (x308.length : Int))) then
    bif inB x311 x308.length then
    Option.bind (sightings_Of N [(x312, (x313, (x314, x315)))] (x308.getD x311.toNat D_Report)) fun r317 =>
    bif (r317.2 != 0) then
      some false
    else
      bif inB x311 x308.length then
      bif ((r317.1.length : Int) != ((x308.getD x311.toNat D_Report).2.2.2.length : Int)) then
        some false
      else
        bif ((r317.1.length : Int) == 1) then
          bif inB 0 r317.1.length then
          bif inB x311 x309.length then
          bif (decide ((r317.1.getD (0 : Int).toNat D_Absence).2.2.1 > (x309.getD x311.toNat 0))) then
            some false
          else
            bif inB 0 r317.1.length then
            bif inB x311 x309.length then
            bif (decide ((r317.1.getD (0 : Int).toNat D_Absence).2.2.2 < (x309.getD x311.toNat 0))) then
              some false
            else
              law24_SightingsTrue_L6 N n6 x308 x309 x310 (W (x311 + 1)) x312 x313 x314 x315
            else none
            else none
          else none
          else none
        else
          law24_SightingsTrue_L6 N n6 x308 x309 x310 (W (x311 + 1)) x312 x313 x314 x315
      else none
    else none
  else
    Option.bind (law24_awake N) fun r337 =>
    bif r337 then
      some (x310 == 0)
    else
      some false := by kernel_rfl
theorem law24_SightingsTrue_J2_eq (N : Nat) (x301 : List T_Report) (x302 : List Int) (x303 : Int) (x304 : List Int) (x305 : Int) (x306 : Int) (x307 : Int) : law24_SightingsTrue_J2 (N + 1) x301 x302 x303 x304 x305 x306 x307 =
  law24_SightingsTrue_L6 (N + 1) (N + 1) x301 x302 x303 0 x304 x305 x306 x307 := by kernel_rfl
theorem law24_SightingsTrue_L4_zero (N : Nat) (x242 : List T_Span) (x243 : List T_Report) (x244 : List Int) (x245 : Int) (x246 : Int) (x247 : List Int) (x248 : Int) (x249 : Int) (x250 : Int) (x251 : List T_Absence) : law24_SightingsTrue_L4 N 0 x242 x243 x244 x245 x246 x247 x248 x249 x250 x251 = none := rfl
theorem law24_SightingsTrue_L4_succ (N : Nat) (n4 : Nat) (x242 : List T_Span) (x243 : List T_Report) (x244 : List Int) (x245 : Int) (x246 : Int) (x247 : List Int) (x248 : Int) (x249 : Int) (x250 : Int) (x251 : List T_Absence) : law24_SightingsTrue_L4 N (n4 + 1) x242 x243 x244 x245 x246 x247 x248 x249 x250 x251 =
  bif (decide (x246 < (x251.length : Int))) then
    bif (x245 == 0) then
      law24_SightingsTrue_L5 N n4 N x242 x243 x244 x245 x246 0 x247 x248 x249 x250 x251
    else
      law24_SightingsTrue_J2 N x243 x244 x245 x247 x248 x249 x250
  else
    law24_SightingsTrue_J2 N x243 x244 x245 x247 x248 x249 x250 := by kernel_rfl
theorem law24_SightingsTrue_L2_zero (N : Nat) (x30 : List T_Span) (x31 : Int) (x32 : Int) (x33 : List Int) (x34 : Int) (x35 : List Int) (x36 : Int) (x37 : Int) (x38 : Int) (x39 : List T_Report) (x40 : List Int) : law24_SightingsTrue_L2 N 0 x30 x31 x32 x33 x34 x35 x36 x37 x38 x39 x40 = none := rfl
theorem law24_SightingsTrue_L2_succ (N : Nat) (n2 : Nat) (x30 : List T_Span) (x31 : Int) (x32 : Int) (x33 : List Int) (x34 : Int) (x35 : List Int) (x36 : Int) (x37 : Int) (x38 : Int) (x39 : List T_Report) (x40 : List Int) : law24_SightingsTrue_L2 N (n2 + 1) x30 x31 x32 x33 x34 x35 x36 x37 x38 x39 x40 =
  bif (decide (x32 < 30)) then
    law24_SightingsTrue_L3 N n2 N x30 x31 x32 (W (50 + (W (x32 * x36)))) false 0 x33 x34 x35 x36 x37 x38 x39 x40
  else
    Option.bind (sightings_Absences N [(x35, (x36, (x37, x38)))] 0 6 x39) fun r241 =>
    law24_SightingsTrue_L4 N N x30 x39 x40 r241.1.2 0 x35 x36 x37 x38 r241.1.1 := by kernel_rfl
theorem law24_SightingsTrue_L1_zero (N : Nat) (x8 : Int) (x9 : Int) (x10 : List Int) (x11 : Int) (x12 : List Int) (x13 : Int) (x14 : Int) (x15 : Int) (x16 : List T_Span) : law24_SightingsTrue_L1 N 0 x8 x9 x10 x11 x12 x13 x14 x15 x16 = none := rfl
theorem law24_SightingsTrue_L1_succ (N : Nat) (n1 : Nat) (x8 : Int) (x9 : Int) (x10 : List Int) (x11 : Int) (x12 : List Int) (x13 : Int) (x14 : Int) (x15 : Int) (x16 : List T_Span) : law24_SightingsTrue_L1 N (n1 + 1) x8 x9 x10 x11 x12 x13 x14 x15 x16 =
  bif (decide (x9 > 0)) then
    Option.bind (made_Dice_Next N (x10, x11) 80) fun r17 =>
    Option.bind (made_Dice_Next N r17.2 120) fun r18 =>
    let v19 := W ((W (x8 + r17.1)) + r18.1)
    bif fitsB (x16.length + 1) 16 then
    law24_SightingsTrue_L1 N n1 (W (v19 + 1)) (W (x9 - 1)) r18.2.1 r18.2.2 x12 x13 x14 x15 (x16 ++ [(W (x8 + r17.1), v19)])
    else none
  else
    law24_SightingsTrue_L2 N N x16 0 0 x10 x11 x12 x13 x14 x15 [] [] := by kernel_rfl
def law24_SightingsTrue (N : Nat) (a0 : List Int) : Option Bool :=
  Option.bind (made_Light N a0) fun r1 =>
  bif (!r1) then
    Option.bind (law24_awake N) fun r2 =>
    some r2
  else
    Option.bind (made_Roll N a0) fun r3 =>
    Option.bind (made_Dice_Next N r3.1 20) fun r4 =>
    Option.bind (made_Dice_Next N r4.2 3) fun r5 =>
    Option.bind (made_Dice_Next N r5.2 4) fun r6 =>
    Option.bind (made_Dice_Next N r6.2 5) fun r7 =>
    law24_SightingsTrue_L1 N N 50 r7.1 r7.2.1 r7.2.2 [0] (W (1 + r4.1)) r5.1 r6.1 []
theorem law24_SightingsTrue_fn : FnOK Try.prog 4 242 (fun _ : Nat => false) law24_SightingsTrue_C16.er [(.t 2)] := FnOK.mk' Try.func4 (by kernel_rfl) (by kernel_rfl) (by kernel_rfl) (by kernel_rfl) (by kernel_rfl)
theorem law24_SightingsTrue_envok (N : Nat) : EnvOK Try.prog (law24_SightingsTrue_E N) := .cons (pureE_ok (made_Light_pure N)) (.cons (pureE_ok (law24_awake_pure N)) (.cons (sfE_ok (made_Roll_sf N)) (.cons (sfE_ok (made_Dice_Next_sf N)) (.cons (sfE_ok (made_Dice_One_sf N)) (.cons (sfE_ok (sightings_Absences_sf N)) (.cons (pureE_ok (sightings_Blind_pure N)) (.cons (pureE_ok (sightings_Of_pure N)) (.nil))))))))
theorem law24_SightingsTrue_pure (N : Nat) : PureOK Try.prog 4 [(.list (.int .i64))] [.bool] (fun x => law24_SightingsTrue N x) := pureOK (N := N) mixed law24_SightingsTrue_fn (law24_SightingsTrue_envok N) rfl (fun x => by kernel_rfl)
/-! law24_SightingsShift -/
def law24_SightingsShift_N1 : List NS := [.own 8 G_Report, .own 9 G_Report, .wk 7 (.list G_TagReader), .keep [5, 6, 7, 8, 9, 10, 11, 12], .cmp]
def law24_SightingsShift_N2 : List NS := [.wk 14 (.list G_Absence), .wk 16 (.list G_Absence), .keep [6, 14, 16, 18], .cmp]
def law24_SightingsShift_C7 : TC := (.cond (.t 109) .skip (.exit 2))
def law24_SightingsShift_C15 : TC := (.rg [⟨⟨some 110, (.mov (.t 18)), none⟩, {}⟩, ⟨⟨some 111, (.bin .add (.t 110) (.c (I 1))), none⟩, {}⟩, ⟨⟨some 18, (.mov (.t 111)), none⟩, {}⟩] none)
def law24_SightingsShift_C8 : TC := (.seq (.block 3 (.rg [⟨⟨some 112, (.mov (.t 14)), none⟩, {}⟩, ⟨⟨some 113, (.mov (.t 18)), none⟩, {}⟩, ⟨⟨some 114, (.mov (.t 14)), none⟩, {}⟩, ⟨⟨some 115, (.mov (.t 18)), none⟩, {}⟩, ⟨⟨some 116, (.mov (.t 14)), none⟩, {}⟩, ⟨⟨some 117, (.mov (.t 18)), none⟩, {}⟩, ⟨⟨some 118, (.iadrS 4 (.t 116) (.t
  117)), none⟩, {}⟩, ⟨⟨some 119, (.fadr 2 (.t 118)), none⟩, {}⟩, ⟨⟨some 120, (.load false 1 (.t 119)), none⟩, {}⟩, ⟨⟨some 121, (.mov (.t 6)), none⟩, {}⟩, ⟨⟨some 122, (.bin .add (.t 120) (.t 121)), none⟩, {}⟩, ⟨⟨some 123, (.mov (.t 14)), none⟩, {}⟩, ⟨⟨some 124, (.mov (.t 18)), none⟩, {}⟩, ⟨⟨some 125,
  (.iadrS 4 (.t 123) (.t 124)), none⟩, {}⟩, ⟨⟨some 126, (.fadr 3 (.t 125)), none⟩, {}⟩, ⟨⟨some 127, (.load false 1 (.t 126)), none⟩, {}⟩, ⟨⟨some 128, (.mov (.t 6)), none⟩, {}⟩, ⟨⟨some 129, (.bin .add (.t 127) (.t 128)), none⟩, {}⟩, ⟨⟨some 130, (.iadrS 4 (.t 112) (.t 113)), none⟩, {}⟩, ⟨⟨some 131,
  (.fadr 2 (.t 130)), none⟩, {}⟩, ⟨⟨none, (.store 1 (.t 131) (.t 122)), none⟩, {}⟩, ⟨⟨some 132, (.iadrS 4 (.t 114) (.t 115)), none⟩, {}⟩, ⟨⟨some 133, (.fadr 3 (.t 132)), none⟩, {}⟩, ⟨⟨none, (.store 1 (.t 133) (.t 129)), none⟩, {}⟩] (some []))) law24_SightingsShift_C15)
def law24_SightingsShift_C1 : TC := (.seq (.seq (.rg [⟨⟨some 106, (.mov (.t 18)), none⟩, {}⟩, ⟨⟨some 107, (.mov (.t 14)), none⟩, {}⟩, ⟨⟨some 108, (.len (.t 107)), none⟩, {}⟩, ⟨⟨some 109, (.bin .lss (.t 106) (.t 108)), none⟩, {}⟩] none) law24_SightingsShift_C7) law24_SightingsShift_C8)
def law24_SightingsShift_C9 : TC := .ret
def law24_SightingsShift_C2 : TC := (.seq (.rg [⟨⟨some 134, (.call (.c (.fn 8 [])) []), none⟩, {}⟩, ⟨⟨some 135, (.mov (.t 134)), none⟩, {}⟩, ⟨⟨some 136, (.mov (.t 14)), some (135, true)⟩, {}⟩, ⟨⟨some 137, (.mov (.t 16)), some (135, true)⟩, {}⟩, ⟨⟨some 138, (.call (.c (.fn 21 [])) [(.t 136), (.t 137)]), some (135, true)⟩, {}⟩, ⟨⟨some
  139, (.pick (.t 135) (.t 138) (.c (B false))), none⟩, {}⟩, ⟨⟨some 4, (.mov (.t 139)), none⟩, {}⟩] none) law24_SightingsShift_C9)
def law24_SightingsShift_C10 : TC := (.block 2 (.loop law24_SightingsShift_N2 law24_SightingsShift_C1))
def law24_SightingsShift_C3 : TC := (.seq (.seq (.rg [⟨⟨some 18, (.mov (.c (I 0))), none⟩, {}⟩] none) law24_SightingsShift_C10) law24_SightingsShift_C2)
def law24_SightingsShift_C11 : TC := (.cond (.t 38) .skip (.exit 0))
def law24_SightingsShift_C21 : TC := (.cond (.t 45) (.rg [⟨⟨some 46, (.bslice false 1 [(I 0)] 1 [(0, (.c (I 4)))]), none⟩, ⟨(.int .i64), none⟩⟩, ⟨⟨some 47, (.fadr 3 (.t 13)), none⟩, {}⟩, ⟨⟨none, (.store 1 (.t 47) (.t 46)), none⟩, {}⟩] none) .skip)
def law24_SightingsShift_C35 : TC := (.cond (.t 62) (.rg [⟨⟨some 63, (.mov (.t 9)), none⟩, {}⟩, ⟨⟨some 64, (.mov (.t 10)), none⟩, {}⟩, ⟨⟨some 65, (.mov (.t 5)), none⟩, {}⟩, ⟨⟨some 66, (.call (.c (.fn 13 [])) [(.t 65), (.c (I 100))]), none⟩, {}⟩, ⟨⟨some 67, (.bslice false 1 [(I 0)] 1 [(0, (.c (I 4)))]), none⟩, ⟨(.int .i64), none⟩⟩,
  ⟨⟨some 68, (.build [(I 0), (I 0), (I 0), (.lst true [])] [(0, (1, (.c (I 1)))), (1, (1, (.t 64))), (2, (1, (.t 66))), (3, (1, (.t 67)))]), none⟩, {}⟩, ⟨⟨some 69, (.bslice false 4 [(I 0), (I 0), (I 0), (.lst true [])] 1 [(0, (.t 68))]), none⟩, ⟨G_Report, none⟩⟩, ⟨⟨some 70, (.app 4 48 (.t 63) (.t
  69)), none⟩, {}⟩, ⟨⟨some 9, (.mov (.t 70)), none⟩, {}⟩] none) .skip)
def law24_SightingsShift_C36 : TC := (.rg [⟨⟨some 71, (.mov (.t 10)), none⟩, {}⟩, ⟨⟨some 72, (.mov (.t 5)), none⟩, {}⟩, ⟨⟨some 73, (.bslice false 1 [(I 0)] 3 [(0, (.c (I 1))), (1, (.c (I 1))), (2, (.c (I 2)))]), none⟩, ⟨(.int .i64), none⟩⟩, ⟨⟨some 74, (.call (.c (.fn 12 [])) [(.t 72), (.t 73)]), none⟩, {}⟩, ⟨⟨some 75, (.bin .add (.t 71)
  (.t 74)), none⟩, {}⟩, ⟨⟨some 76, (.mov (.t 11)), none⟩, {}⟩, ⟨⟨some 77, (.mov (.t 5)), none⟩, {}⟩, ⟨⟨some 78, (.bslice false 1 [(I 0)] 3 [(0, (.c (I 10))), (1, (.c (I 5))), (2, (.c (I 15)))]), none⟩, ⟨(.int .i64), none⟩⟩, ⟨⟨some 79, (.call (.c (.fn 12 [])) [(.t 77), (.t 78)]), none⟩, {}⟩, ⟨⟨some
  80, (.bin .add (.t 76) (.t 79)), none⟩, {}⟩, ⟨⟨some 10, (.mov (.t 75)), none⟩, {}⟩, ⟨⟨some 11, (.mov (.t 80)), none⟩, {}⟩] none)
def law24_SightingsShift_C33 : TC := (.seq (.seq (.rg [⟨⟨some 61, (.mov (.t 5)), none⟩, {}⟩, ⟨⟨some 62, (.call (.c (.fn 14 [])) [(.t 61), (.c (I 3))]), none⟩, {}⟩] none) law24_SightingsShift_C35) law24_SightingsShift_C36)
def law24_SightingsShift_C30 : TC := (.seq (.rg [⟨⟨some 57, (.mov (.t 9)), none⟩, {}⟩, ⟨⟨some 58, (.load true 4 (.t 13)), none⟩, {}⟩, ⟨⟨some 59, (.bslice false 4 [(I 0), (I 0), (I 0), (.lst true [])] 1 [(0, (.t 58))]), none⟩, ⟨G_Report, none⟩⟩, ⟨⟨some 60, (.app 4 48 (.t 57) (.t 59)), none⟩, {}⟩, ⟨⟨some 9, (.mov (.t 60)), none⟩, {}⟩]
  none) law24_SightingsShift_C33)
def law24_SightingsShift_C26 : TC := (.seq (.rg [⟨⟨some 52, (.fadr 2 (.t 13)), none⟩, {}⟩, ⟨⟨some 53, (.load false 1 (.t 52)), none⟩, {}⟩, ⟨⟨some 54, (.mov (.t 6)), none⟩, {}⟩, ⟨⟨some 55, (.bin .add (.t 53) (.t 54)), none⟩, {}⟩, ⟨⟨some 56, (.fadr 2 (.t 13)), none⟩, {}⟩, ⟨⟨none, (.store 1 (.t 56) (.t 55)), none⟩, {}⟩] none)
  law24_SightingsShift_C30)
def law24_SightingsShift_C22 : TC := (.seq (.rg [⟨⟨some 48, (.mov (.t 8)), none⟩, {}⟩, ⟨⟨some 49, (.load true 4 (.t 13)), none⟩, {}⟩, ⟨⟨some 50, (.bslice false 4 [(I 0), (I 0), (I 0), (.lst true [])] 1 [(0, (.t 49))]), none⟩, ⟨G_Report, none⟩⟩, ⟨⟨some 51, (.app 4 48 (.t 48) (.t 50)), none⟩, {}⟩, ⟨⟨some 8, (.mov (.t 51)), none⟩, {}⟩]
  none) law24_SightingsShift_C26)
def law24_SightingsShift_C16 : TC := (.seq (.seq (.rg [⟨⟨some 44, (.mov (.t 5)), none⟩, {}⟩, ⟨⟨some 45, (.call (.c (.fn 14 [])) [(.t 44), (.c (I 5))]), none⟩, {}⟩] none) law24_SightingsShift_C21) law24_SightingsShift_C22)
def law24_SightingsShift_C17 : TC := (.rg [⟨⟨some 39, (.mov (.t 12)), none⟩, {}⟩, ⟨⟨some 40, (.bin .sub (.t 39) (.c (I 1))), none⟩, {}⟩, ⟨⟨some 12, (.mov (.t 40)), none⟩, {}⟩] none)
def law24_SightingsShift_C12 : TC := (.seq (.block 1 (.seq (.rg [⟨⟨some 41, (.mov (.t 10)), none⟩, {}⟩, ⟨⟨some 42, (.mov (.t 11)), none⟩, {}⟩, ⟨⟨some 43, (.build [(I 0), (I 0), (I 0), (.lst true [])] [(1, (1, (.t 41))), (2, (1, (.t 42)))]), none⟩, {}⟩, ⟨⟨some 13, (.alloc [(I 0), (I 0), (I 0), (.lst true [])]), none⟩, {}⟩, ⟨⟨none,
  (.store 4 (.t 13) (.t 43)), none⟩, {}⟩] none) law24_SightingsShift_C16)) law24_SightingsShift_C17)
def law24_SightingsShift_C4 : TC := (.seq (.seq (.rg [⟨⟨some 37, (.mov (.t 12)), none⟩, {}⟩, ⟨⟨some 38, (.bin .gtr (.t 37) (.c (I 0))), none⟩, {}⟩] none) law24_SightingsShift_C11) law24_SightingsShift_C12)
def law24_SightingsShift_C31 : TC := .ret
def law24_SightingsShift_C27 : TC := (.cond (.t 105) (.seq (.rg [⟨⟨some 4, (.mov (.c (B false))), none⟩, {}⟩] none) law24_SightingsShift_C31) .skip)
def law24_SightingsShift_C28 : TC := (.join [.wk 14 (.list G_Absence), .wk 16 (.list G_Absence), .keep [6, 14, 16], .cmp] law24_SightingsShift_C3)
def law24_SightingsShift_C23 : TC := (.seq (.seq (.rg [⟨⟨some 93, (.mov (.t 15)), none⟩, {}⟩, ⟨⟨some 94, (.bin .neq (.t 93) (.c (I 0))), none⟩, {}⟩, ⟨⟨some 95, (.mov (.t 94)), none⟩, {}⟩, ⟨⟨some 96, (.mov (.t 17)), some (95, false)⟩, {}⟩, ⟨⟨some 97, (.bin .neq (.t 96) (.c (I 0))), some (95, false)⟩, {}⟩, ⟨⟨some 98, (.pick (.t 95) (.c (B
  true)) (.t 97)), none⟩, {}⟩, ⟨⟨some 99, (.mov (.t 98)), none⟩, {}⟩, ⟨⟨some 100, (.mov (.t 14)), some (99, false)⟩, {}⟩, ⟨⟨some 101, (.len (.t 100)), some (99, false)⟩, {}⟩, ⟨⟨some 102, (.mov (.t 16)), some (99, false)⟩, {}⟩, ⟨⟨some 103, (.len (.t 102)), some (99, false)⟩, {}⟩, ⟨⟨some 104, (.bin
  .neq (.t 101) (.t 103)), some (99, false)⟩, {}⟩, ⟨⟨some 105, (.pick (.t 99) (.c (B true)) (.t 104)), none⟩, {}⟩] none) law24_SightingsShift_C27) law24_SightingsShift_C28)
def law24_SightingsShift_C18 : TC := (.seq (.rg [⟨⟨some 88, (.mov (.t 7)), none⟩, {}⟩, ⟨⟨some 89, (.mov (.t 9)), none⟩, {}⟩, ⟨⟨some 90, (.call (.c (.fn 18 [])) [(.t 88), (.c (I 0)), (.c (I 4)), (.t 89)]), none⟩, {}⟩, ⟨⟨some 87, (.mov (.t 90)), none⟩, {}⟩, ⟨⟨some 91, (.extr 0 (.t 87)), none⟩, {}⟩, ⟨⟨some 92, (.extr 1 (.t 87)), none⟩,
  {}⟩, ⟨⟨some 16, (.mov (.t 91)), none⟩, {}⟩, ⟨⟨some 17, (.mov (.t 92)), none⟩, {}⟩] none) law24_SightingsShift_C23)
def law24_SightingsShift_C13 : TC := (.seq (.rg [⟨⟨some 82, (.mov (.t 7)), none⟩, {}⟩, ⟨⟨some 83, (.mov (.t 8)), none⟩, {}⟩, ⟨⟨some 84, (.call (.c (.fn 18 [])) [(.t 82), (.c (I 0)), (.c (I 4)), (.t 83)]), none⟩, {}⟩, ⟨⟨some 81, (.mov (.t 84)), none⟩, {}⟩, ⟨⟨some 85, (.extr 0 (.t 81)), none⟩, {}⟩, ⟨⟨some 86, (.extr 1 (.t 81)), none⟩,
  {}⟩, ⟨⟨some 14, (.mov (.t 85)), none⟩, {}⟩, ⟨⟨some 15, (.mov (.t 86)), none⟩, {}⟩] none) law24_SightingsShift_C18)
def law24_SightingsShift_C5 : TC := (.pre [.frz 8, .frz 9] law24_SightingsShift_C13)
def law24_SightingsShift_C24 : TC := .ret
def law24_SightingsShift_C19 : TC := (.cond (.t 21) (.seq (.rg [⟨⟨some 22, (.call (.c (.fn 8 [])) []), none⟩, {}⟩, ⟨⟨some 4, (.mov (.t 22)), none⟩, {}⟩] none) law24_SightingsShift_C24) .skip)
def law24_SightingsShift_C38 : TC := (.block 0 (.loop law24_SightingsShift_N1 law24_SightingsShift_C4))
def law24_SightingsShift_C37 : TC := (.seq (.seq (.rg [⟨⟨some 35, (.mov (.t 5)), none⟩, {}⟩, ⟨⟨some 36, (.call (.c (.fn 13 [])) [(.t 35), (.c (I 20))]), none⟩, {}⟩, ⟨⟨some 12, (.mov (.t 36)), none⟩, {}⟩] none) law24_SightingsShift_C38) law24_SightingsShift_C5)
def law24_SightingsShift_C34 : TC := (.seq (.rg [⟨⟨some 10, (.mov (.c (I 0))), none⟩, {}⟩, ⟨⟨some 11, (.mov (.c (I 100))), none⟩, {}⟩] none) law24_SightingsShift_C37)
def law24_SightingsShift_C32 : TC := (.seq (.rg [⟨⟨some 8, (.mov (.c (.lst true []))), none⟩, {}⟩, ⟨⟨some 9, (.mov (.c (.lst true []))), none⟩, {}⟩] none) law24_SightingsShift_C34)
def law24_SightingsShift_C29 : TC := (.seq (.rg [⟨⟨some 27, (.bslice false 1 [(I 0)] 1 [(0, (.c (I 0)))]), none⟩, ⟨(.int .i64), none⟩⟩, ⟨⟨some 28, (.mov (.t 5)), none⟩, {}⟩, ⟨⟨some 29, (.bslice false 1 [(I 0)] 2 [(0, (.c (I 2))), (1, (.c (I 0)))]), none⟩, ⟨(.int .i64), none⟩⟩, ⟨⟨some 30, (.call (.c (.fn 12 [])) [(.t 28), (.t 29)]),
  none⟩, {}⟩, ⟨⟨some 31, (.build [(.lst true []), (I 0), (I 0), (I 0)] [(0, (1, (.t 27))), (1, (1, (.c (I 10)))), (2, (1, (.c (I 1)))), (3, (1, (.t 30)))]), none⟩, {}⟩, ⟨⟨some 32, (.bslice false 1 [(I 0)] 1 [(0, (.c (I 0)))]), none⟩, ⟨(.int .i64), none⟩⟩, ⟨⟨some 33, (.build [(.lst true []), (I 0), (I
  0), (I 0)] [(0, (1, (.t 32))), (1, (1, (.c (I 10))))]), none⟩, {}⟩, ⟨⟨some 34, (.bslice false 4 [(.lst true []), (I 0), (I 0), (I 0)] 2 [(0, (.t 31)), (1, (.t 33))]), none⟩, ⟨G_TagReader, none⟩⟩, ⟨⟨some 7, (.mov (.t 34)), none⟩, {}⟩] none) law24_SightingsShift_C32)
def law24_SightingsShift_C25 : TC := (.seq (.rg [⟨⟨some 25, (.mov (.t 1)), none⟩, {}⟩, ⟨⟨some 26, (.call (.c (.fn 20 [])) [(.t 25), (.c (I 5000))]), none⟩, {}⟩, ⟨⟨some 6, (.mov (.t 26)), none⟩, {}⟩] none) law24_SightingsShift_C29)
def law24_SightingsShift_C20 : TC := (.seq (.rg [⟨⟨some 23, (.mov (.t 0)), none⟩, {}⟩, ⟨⟨some 24, (.call (.c (.fn 9 [])) [(.t 23)]), none⟩, {}⟩, ⟨⟨some 5, (.mov (.t 24)), none⟩, {}⟩] none) law24_SightingsShift_C25)
def law24_SightingsShift_C14 : TC := (.seq (.seq (.rg [⟨⟨some 19, (.mov (.t 0)), none⟩, {}⟩, ⟨⟨some 20, (.call (.c (.fn 7 [])) [(.t 19)]), none⟩, {}⟩, ⟨⟨some 21, (.un .not (.t 20)), none⟩, {}⟩] none) law24_SightingsShift_C19) law24_SightingsShift_C20)
def law24_SightingsShift_C6 : TC := (.seq (.rg [⟨⟨some 4, (.mov (.c (B false))), none⟩, {}⟩] none) law24_SightingsShift_C14)
def law24_SightingsShift_E (N : Nat) : List (Nat × Ent) := [(7, pureE [(.list (.int .i64))] [.bool] (fun x => made_Light N x)), (8, pureE [] [.bool] (fun x => law24_awake N)), (9, sfE [none] [.v (.list (.int .i64))] [.n G_Dice] (fun x => made_Roll N x)), (20, pureE [(.int .i64), (.int .i64)] [(.int .i64)] (fun x => made_Mod N x.1 x.2)), (12, sfE [none, none] [.b (.v G_Dice), .v (.list (.int .i64))] [.v (.int .i64)] (fun x => made_Dice_Of N x.1 x.2)), (13, sfE [none, none] [.b (.v G_Dice), .v (.int .i64)] [.v (.int .i64)] (fun x => made_Dice_Next N x.1 x.2)), (14, sfE [none, none] [.b (.v G_Dice), .v (.int .i64)] [.v .bool] (fun x => made_Dice_One N x.1 x.2)), (18, sfE [none, none, none, none] [.v (.list G_TagReader), .v (.int .i64), .v (.int .i64), .v (.list G_Report)] [.o (.a G_Absence), .v (.int .i64)] (fun x => sightings_Absences N x.1 x.2.1 x.2.2.1 x.2.2.2)), (21, pureE [(.list G_Absence), (.list G_Absence)] [.bool] (fun x => law24_sameAbsences N x.1 x.2))]
def law24_SightingsShift_L2 (N : Nat) (n : Nat) (x76 : Int) (x77 : Int) (x78 : List T_Absence) (x79 : List T_Absence) : Option Bool := loopN (normI 0 law24_SightingsShift_N2) (run (law24_SightingsShift_E N) N 0 law24_SightingsShift_C1) n ⟨[(6, .int .i64 x76), (14, .whole 0), (16, .whole 1), (18, .int .i64 x77)], [some (.arr G_Absence x78), some (.arr G_Absence x79)]⟩ (blkK 2 (seqK (run (law24_SightingsShift_E N) N 0 law24_SightingsShift_C2) (fin [(.t 4)] [.bool])))
def law24_SightingsShift_J1 (N : Nat) (x73 : Int) (x74 : List T_Absence) (x75 : List T_Absence) : Option Bool := joinN (run (law24_SightingsShift_E N) N 0 law24_SightingsShift_C3) N ⟨[(6, .int .i64 x73), (14, .whole 0), (16, .whole 1)], [some (.arr G_Absence x74), some (.arr G_Absence x75)]⟩ (fin [(.t 4)] [.bool])
def law24_SightingsShift_L1 (N : Nat) (n : Nat) (x7 : Int) (x8 : List T_TagReader) (x9 : Int) (x10 : Int) (x11 : Int) (x12 : List Int) (x13 : Int) (x14 : List T_Report) (x15 : List T_Report) : Option Bool := loopN (normI 0 law24_SightingsShift_N1) (run (law24_SightingsShift_E N) N 0 law24_SightingsShift_C4) n ⟨[(5, .ptr 0 0 0), (6, .int .i64 x7), (7, .lst false G_TagReader x8), (8, .whole 1), (9, .whole 2), (10, .int .i64 x9), (11, .int .i64 x10), (12, .int .i64 x11)], [some (.box 0 [.lst false (.int .i64) x12, .int .i64 x13]), some (.arr G_Report x14), some (.arr G_Report x15)]⟩ (blkK 0 (seqK (run (law24_SightingsShift_E N) N 0 law24_SightingsShift_C5) (fin [(.t 4)] [.bool])))
theorem law24_SightingsShift_L2_zero (N : Nat) (x76 : Int) (x77 : Int) (x78 : List T_Absence) (x79 : List T_Absence) : law24_SightingsShift_L2 N 0 x76 x77 x78 x79 = none := rfl
theorem law24_SightingsShift_L2_succ (N : Nat) (n2 : Nat) (x76 : Int) (x77 : Int) (x78 : List T_Absence) (x79 : List T_Absence) : law24_SightingsShift_L2 N (n2 + 1) x76 x77 x78 x79 =
  bif (decide (x77 < (x78.length : Int))) then
    bif inB x77 x78.length then
    bif inB x77 x78.length then
    bif inB x77 x78.length then
    let v82 := x78.getD x77.toNat D_Absence
    let v83 := x78.set x77.toNat (v82.1, (v82.2.1, (W ((x78.getD x77.toNat D_Absence).2.2.1 + x76), v82.2.2.2)))
    bif inB x77 v83.length then
    let v84 := v83.getD x77.toNat D_Absence
    law24_SightingsShift_L2 N n2 x76 (W (x77 + 1)) (v83.set x77.toNat (v84.1, (v84.2.1, (v84.2.2.1, W ((x78.getD x77.toNat D_Absence).2.2.2 + x76))))) x79
    else none
    else none
    else none
    else none
  else
    Option.bind (law24_awake N) fun r90 =>
    bif r90 then
      Option.bind (law24_sameAbsences N x78 x79) fun r91 =>
      some r91
    else
      some false := by kernel_rfl
theorem law24_SightingsShift_J1_eq (N : Nat) (x73 : Int) (x74 : List T_Absence) (x75 : List T_Absence) : law24_SightingsShift_J1 (N + 1) x73 x74 x75 =
  law24_SightingsShift_L2 (N + 1) (N + 1) x73 0 x74 x75 := by kernel_rfl
theorem law24_SightingsShift_L1_zero (N : Nat) (x7 : Int) (x8 : List T_TagReader) (x9 : Int) (x10 : Int) (x11 : Int) (x12 : List Int) (x13 : Int) (x14 : List T_Report) (x15 : List T_Report) : law24_SightingsShift_L1 N 0 x7 x8 x9 x10 x11 x12 x13 x14 x15 = none := rfl
theorem law24_SightingsShift_L1_succ (N : Nat) (n1 : Nat) (x7 : Int) (x8 : List T_TagReader) (x9 : Int) (x10 : Int) (x11 : Int) (x12 : List Int) (x13 : Int) (x14 : List T_Report) (x15 : List T_Report) : law24_SightingsShift_L1 N (n1 + 1) x7 x8 x9 x10 x11 x12 x13 x14 x15 =
  bif (decide (x11 > 0)) then
    Option.bind (made_Dice_One N (x12, x13) 5) fun r16 =>
    bif r16.1 then
      bif fitsB (x14.length + 1) 48 then
      let v17 := x14 ++ [(0, (x9, (x10, [4])))]
      bif fitsB (x15.length + 1) 48 then
      let v18 := x15 ++ [(0, (x9, (W (x10 + x7), [4])))]
      Option.bind (made_Dice_One N r16.2 3) fun r19 =>
      bif r19.1 then
        Option.bind (made_Dice_Next N r19.2 100) fun r20 =>
        bif fitsB (v18.length + 1) 48 then
        Option.bind (made_Dice_Of N r20.2 [1, 1, 2]) fun r22 =>
        Option.bind (made_Dice_Of N r22.2 [10, 5, 15]) fun r23 =>
        law24_SightingsShift_L1 N n1 x7 x8 (W (x9 + r22.1)) (W (x10 + r23.1)) (W (x11 - 1)) r23.2.1 r23.2.2 v17 (v18 ++ [(1, (x9, (r20.1, [4])))])
        else none
      else
        Option.bind (made_Dice_Of N r19.2 [1, 1, 2]) fun r33 =>
        Option.bind (made_Dice_Of N r33.2 [10, 5, 15]) fun r34 =>
        law24_SightingsShift_L1 N n1 x7 x8 (W (x9 + r33.1)) (W (x10 + r34.1)) (W (x11 - 1)) r34.2.1 r34.2.2 v17 v18
      else none
      else none
    else
      bif fitsB (x14.length + 1) 48 then
      let v44 := x14 ++ [(0, (x9, (x10, [])))]
      bif fitsB (x15.length + 1) 48 then
      let v45 := x15 ++ [(0, (x9, (W (x10 + x7), [])))]
      Option.bind (made_Dice_One N r16.2 3) fun r46 =>
      bif r46.1 then
        Option.bind (made_Dice_Next N r46.2 100) fun r47 =>
        bif fitsB (v45.length + 1) 48 then
        Option.bind (made_Dice_Of N r47.2 [1, 1, 2]) fun r49 =>
        Option.bind (made_Dice_Of N r49.2 [10, 5, 15]) fun r50 =>
        law24_SightingsShift_L1 N n1 x7 x8 (W (x9 + r49.1)) (W (x10 + r50.1)) (W (x11 - 1)) r50.2.1 r50.2.2 v44 (v45 ++ [(1, (x9, (r47.1, [4])))])
        else none
      else
        Option.bind (made_Dice_Of N r46.2 [1, 1, 2]) fun r60 =>
        Option.bind (made_Dice_Of N r60.2 [10, 5, 15]) fun r61 =>
        law24_SightingsShift_L1 N n1 x7 x8 (W (x9 + r60.1)) (W (x10 + r61.1)) (W (x11 - 1)) r61.2.1 r61.2.2 v44 v45
      else none
      else none
  else
    Option.bind (sightings_Absences N x8 0 4 x14) fun r71 =>
    Option.bind (sightings_Absences N x8 0 4 x15) fun r72 =>
    bif (r71.1.2 != 0) then
      some false
    else
      bif (r72.1.2 != 0) then
        some false
      else
        bif ((r71.1.1.length : Int) != (r72.1.1.length : Int)) then
          some false
        else
          law24_SightingsShift_J1 N x7 r71.1.1 r72.1.1 := by kernel_rfl
def law24_SightingsShift (N : Nat) (a0 : List Int) (a1 : Int) : Option Bool :=
  Option.bind (made_Light N a0) fun r1 =>
  bif (!r1) then
    Option.bind (law24_awake N) fun r2 =>
    some r2
  else
    Option.bind (made_Roll N a0) fun r3 =>
    Option.bind (made_Mod N a1 5000) fun r4 =>
    Option.bind (made_Dice_Of N r3.1 [2, 0]) fun r5 =>
    Option.bind (made_Dice_Next N r5.2 20) fun r6 =>
    law24_SightingsShift_L1 N N r4 [([0], (10, (1, r5.1))), ([0], (10, (0, 0)))] 0 100 r6.1 r6.2.1 r6.2.2 [] []
theorem law24_SightingsShift_fn : FnOK Try.prog 5 140 (fun _ : Nat => false) law24_SightingsShift_C6.er [(.t 4)] := FnOK.mk' Try.func5 (by kernel_rfl) (by kernel_rfl) (by kernel_rfl) (by kernel_rfl) (by kernel_rfl)
theorem law24_SightingsShift_envok (N : Nat) : EnvOK Try.prog (law24_SightingsShift_E N) := .cons (pureE_ok (made_Light_pure N)) (.cons (pureE_ok (law24_awake_pure N)) (.cons (sfE_ok (made_Roll_sf N)) (.cons (pureE_ok (made_Mod_pure N)) (.cons (sfE_ok (made_Dice_Of_sf N)) (.cons (sfE_ok (made_Dice_Next_sf N)) (.cons (sfE_ok (made_Dice_One_sf N)) (.cons (sfE_ok (sightings_Absences_sf N)) (.cons (pureE_ok (law24_sameAbsences_pure N)) (.nil)))))))))
theorem law24_SightingsShift_pure (N : Nat) : PureOK Try.prog 5 [(.list (.int .i64)), (.int .i64)] [.bool] (fun x => law24_SightingsShift N x.1 x.2) := pureOK (N := N) mixed law24_SightingsShift_fn (law24_SightingsShift_envok N) rfl (fun x => by kernel_rfl)
end M
end Go.Proofs.Ytiialoppbdcojaa
