/- Plain models of functions of this seat, each checked against the loaded program and the walk by the kernel. No condition: closed facts. Printed by a program of ours. -/
import Derived.Test.YtipokcccpbcmeaaDoorSl
import Derived.Test.YtipokcccpbcmeaaDoorSb
import Derived.Test.YtipokcccpbcmeaaDoorRows
set_option linter.all false
namespace Go.Proofs.YtipokcccpbcmeaaDoor
open Go.Pv
namespace M
theorem mixed : Tryd.prog.follows .mixedOrders = true := Tryd.checked.mixed
abbrev G_boundsError : GT := (.pair (.int .i64) (.pair (.int .i64) (.pair .bool (.int .u8))))
abbrev T_boundsError := Int × Int × Bool × Int
abbrev D_boundsError : T_boundsError := (0, (0, (false, 0)))
abbrev G_errorAddressString : GT := (.pair .str (.int .u64))
abbrev T_errorAddressString := (List UInt8) × Int
abbrev D_errorAddressString : T_errorAddressString := ([], 0)
abbrev G_Place : GT := (.pair (.int .i64) .bool)
abbrev T_Place := Int × Bool
abbrev D_Place : T_Place := (0, false)
abbrev G_Span : GT := (.pair (.int .i64) (.int .i64))
abbrev T_Span := Int × Int
abbrev D_Span : T_Span := (0, 0)
abbrev G_Road : GT := (.pair (.int .i64) (.pair (.int .i64) (.pair (.int .i64) (.pair (.int .i64) (.pair .bool (.pair .bool (.pair G_Span (.pair (.int .i64) (.int .i64)))))))))
abbrev T_Road := Int × Int × Int × Int × Bool × Bool × T_Span × Int × Int
abbrev D_Road : T_Road := (0, (0, (0, (0, (false, (false, (D_Span, (0, 0))))))))
abbrev G_Edit : GT := (.pair (.int .i64) (.pair G_Place (.pair G_Road (.pair (.int .i64) (.pair (.int .i64) (.int .i64))))))
abbrev T_Edit := Int × T_Place × T_Road × Int × Int × Int
abbrev D_Edit : T_Edit := (0, (D_Place, (D_Road, (0, (0, 0)))))
abbrev G_Mine : GT := (.pair (.list G_Place) (.list G_Road))
abbrev T_Mine := (List T_Place) × List T_Road
abbrev D_Mine : T_Mine := ([], [])
abbrev G_Codes : GT := (.pair (.list (.int .u8)) (.int .i64))
abbrev T_Codes := (List Int) × Int
abbrev D_Codes : T_Codes := ([], 0)
abbrev G_acceptRange : GT := (.pair (.int .u8) (.int .u8))
abbrev T_acceptRange := Int × Int
abbrev D_acceptRange : T_acceptRange := (0, 0)
/-! survey_Sum -/
def survey_Sum_N1 : List NS := [.keep [0, 3, 4], .cmp]
def survey_Sum_C4 : TC := (.cond (.t 8) .skip (.exit 0))
def survey_Sum_C8 : TC := (.rg [⟨⟨some 9, (.mov (.t 4)), none⟩, {}⟩, ⟨⟨some 10, (.bin .add (.t 9) (.c (I 1))), none⟩, {}⟩, ⟨⟨some 4, (.mov (.t 10)), none⟩, {}⟩] none)
def survey_Sum_C5 : TC := (.seq (.block 1 (.rg [⟨⟨some 11, (.mov (.t 3)), none⟩, {}⟩, ⟨⟨some 12, (.bin .mul (.t 11) (.c (I 31))), none⟩, {}⟩, ⟨⟨some 13, (.mov (.t 0)), none⟩, {}⟩, ⟨⟨some 14, (.mov (.t 4)), none⟩, {}⟩, ⟨⟨some 15, (.sidx (.t 13) (.t 14)), none⟩, {}⟩, ⟨⟨some 16, (.conv .i64 (.t 15)), none⟩, {}⟩, ⟨⟨some 17, (.bin
  .add (.t 12) (.t 16)), none⟩, {}⟩, ⟨⟨some 18, (.bin .rem (.t 17) (.c (I 65521))), none⟩, {}⟩, ⟨⟨some 3, (.mov (.t 18)), none⟩, {}⟩] none)) survey_Sum_C8)
def survey_Sum_C1 : TC := (.seq (.seq (.rg [⟨⟨some 5, (.mov (.t 4)), none⟩, {}⟩, ⟨⟨some 6, (.mov (.t 0)), none⟩, {}⟩, ⟨⟨some 7, (.lens (.t 6)), none⟩, {}⟩, ⟨⟨some 8, (.bin .lss (.t 5) (.t 7)), none⟩, {}⟩] none) survey_Sum_C4) survey_Sum_C5)
def survey_Sum_C6 : TC := .ret
def survey_Sum_C2 : TC := (.seq (.rg [⟨⟨some 19, (.mov (.t 3)), none⟩, {}⟩, ⟨⟨some 2, (.mov (.t 19)), none⟩, {}⟩] none) survey_Sum_C6)
def survey_Sum_C10 : TC := (.block 0 (.loop survey_Sum_N1 survey_Sum_C1))
def survey_Sum_C9 : TC := (.seq (.seq (.rg [⟨⟨some 4, (.mov (.c (I 0))), none⟩, {}⟩] none) survey_Sum_C10) survey_Sum_C2)
def survey_Sum_C7 : TC := (.seq (.rg [⟨⟨some 3, (.mov (.c (I 1))), none⟩, {}⟩] none) survey_Sum_C9)
def survey_Sum_C3 : TC := (.seq (.rg [⟨⟨some 2, (.mov (.c (I 0))), none⟩, {}⟩] none) survey_Sum_C7)
def survey_Sum_E (N : Nat) : List (Nat × Ent) := []
def survey_Sum_L1 (N : Nat) (n : Nat) (x1 : List UInt8) (x2 : Int) (x3 : Int) : Option Int := loopN (normI 0 survey_Sum_N1) (run (survey_Sum_E N) N 0 survey_Sum_C1) n ⟨[(0, .str x1), (3, .int .i64 x2), (4, .int .i64 x3)], []⟩ (blkK 0 (seqK (run (survey_Sum_E N) N 0 survey_Sum_C2) (fin [(.t 2)] [(.int .i64)])))
theorem survey_Sum_L1_succ (N : Nat) (n1 : Nat) (x1 : List UInt8) (x2 : Int) (x3 : Int) : survey_Sum_L1 N (n1 + 1) x1 x2 x3 =
  bif (decide (x3 < (x1.length : Int))) then
    bif inB x3 x1.length then
    survey_Sum_L1 N n1 x1 ((W ((W (x2 * 31)) + (W ((x1.getD x3.toNat 0).toNat : Int)))).tmod 65521) (W (x3 + 1))
    else none
  else
    some x2 := by kernel_rfl
def survey_Sum (N : Nat) (a0 : List UInt8) : Option Int :=
  survey_Sum_L1 N N a0 1 0
theorem survey_Sum_fn : FnOK Tryd.prog 7 20 (fun _ : Nat => false) survey_Sum_C3.er [(.t 2)] := FnOK.mk' Tryd.func7 (by kernel_rfl) (by kernel_rfl) (by kernel_rfl) (by kernel_rfl) (by kernel_rfl)
theorem survey_Sum_envok (N : Nat) : EnvOK Tryd.prog (survey_Sum_E N) := .nil
theorem survey_Sum_pure (N : Nat) : PureOK Tryd.prog 7 [.str] [(.int .i64)] (fun x => survey_Sum N x) := pureOK (N := N) mixed survey_Sum_fn (survey_Sum_envok N) (TC.noh_ok (by kernel_rfl)) rfl (fun x => by kernel_rfl)
/-! ref02_Sum -/
def ref02_Sum_N1 : List NS := [.keep [0, 3, 4], .cmp]
def ref02_Sum_C4 : TC := (.cond (.t 8) .skip (.exit 0))
def ref02_Sum_C8 : TC := (.rg [⟨⟨some 9, (.mov (.t 4)), none⟩, {}⟩, ⟨⟨some 10, (.bin .add (.t 9) (.c (I 1))), none⟩, {}⟩, ⟨⟨some 4, (.mov (.t 10)), none⟩, {}⟩] none)
def ref02_Sum_C5 : TC := (.seq (.block 1 (.rg [⟨⟨some 11, (.mov (.t 3)), none⟩, {}⟩, ⟨⟨some 12, (.bin .mul (.t 11) (.c (I 31))), none⟩, {}⟩, ⟨⟨some 13, (.mov (.t 0)), none⟩, {}⟩, ⟨⟨some 14, (.mov (.t 4)), none⟩, {}⟩, ⟨⟨some 15, (.sidx (.t 13) (.t 14)), none⟩, {}⟩, ⟨⟨some 16, (.conv .i64 (.t 15)), none⟩, {}⟩, ⟨⟨some 17, (.bin
  .add (.t 12) (.t 16)), none⟩, {}⟩, ⟨⟨some 18, (.bin .rem (.t 17) (.c (I 65521))), none⟩, {}⟩, ⟨⟨some 3, (.mov (.t 18)), none⟩, {}⟩] none)) ref02_Sum_C8)
def ref02_Sum_C1 : TC := (.seq (.seq (.rg [⟨⟨some 5, (.mov (.t 4)), none⟩, {}⟩, ⟨⟨some 6, (.mov (.t 0)), none⟩, {}⟩, ⟨⟨some 7, (.lens (.t 6)), none⟩, {}⟩, ⟨⟨some 8, (.bin .lss (.t 5) (.t 7)), none⟩, {}⟩] none) ref02_Sum_C4) ref02_Sum_C5)
def ref02_Sum_C6 : TC := .ret
def ref02_Sum_C2 : TC := (.seq (.rg [⟨⟨some 19, (.mov (.t 3)), none⟩, {}⟩, ⟨⟨some 2, (.mov (.t 19)), none⟩, {}⟩] none) ref02_Sum_C6)
def ref02_Sum_C10 : TC := (.block 0 (.loop ref02_Sum_N1 ref02_Sum_C1))
def ref02_Sum_C9 : TC := (.seq (.seq (.rg [⟨⟨some 4, (.mov (.c (I 0))), none⟩, {}⟩] none) ref02_Sum_C10) ref02_Sum_C2)
def ref02_Sum_C7 : TC := (.seq (.rg [⟨⟨some 3, (.mov (.c (I 1))), none⟩, {}⟩] none) ref02_Sum_C9)
def ref02_Sum_C3 : TC := (.seq (.rg [⟨⟨some 2, (.mov (.c (I 0))), none⟩, {}⟩] none) ref02_Sum_C7)
def ref02_Sum_E (N : Nat) : List (Nat × Ent) := []
def ref02_Sum_L1 (N : Nat) (n : Nat) (x1 : List UInt8) (x2 : Int) (x3 : Int) : Option Int := loopN (normI 0 ref02_Sum_N1) (run (ref02_Sum_E N) N 0 ref02_Sum_C1) n ⟨[(0, .str x1), (3, .int .i64 x2), (4, .int .i64 x3)], []⟩ (blkK 0 (seqK (run (ref02_Sum_E N) N 0 ref02_Sum_C2) (fin [(.t 2)] [(.int .i64)])))
theorem ref02_Sum_L1_succ (N : Nat) (n1 : Nat) (x1 : List UInt8) (x2 : Int) (x3 : Int) : ref02_Sum_L1 N (n1 + 1) x1 x2 x3 =
  bif (decide (x3 < (x1.length : Int))) then
    bif inB x3 x1.length then
    ref02_Sum_L1 N n1 x1 ((W ((W (x2 * 31)) + (W ((x1.getD x3.toNat 0).toNat : Int)))).tmod 65521) (W (x3 + 1))
    else none
  else
    some x2 := by kernel_rfl
def ref02_Sum (N : Nat) (a0 : List UInt8) : Option Int :=
  ref02_Sum_L1 N N a0 1 0
theorem ref02_Sum_fn : FnOK Tryd.prog 8 20 (fun _ : Nat => false) ref02_Sum_C3.er [(.t 2)] := FnOK.mk' Tryd.func8 (by kernel_rfl) (by kernel_rfl) (by kernel_rfl) (by kernel_rfl) (by kernel_rfl)
theorem ref02_Sum_envok (N : Nat) : EnvOK Tryd.prog (ref02_Sum_E N) := .nil
theorem ref02_Sum_pure (N : Nat) : PureOK Tryd.prog 8 [.str] [(.int .i64)] (fun x => ref02_Sum N x) := pureOK (N := N) mixed ref02_Sum_fn (ref02_Sum_envok N) (TC.noh_ok (by kernel_rfl)) rfl (fun x => by kernel_rfl)
/-! survey_words -/
def survey_words_N1 : List NS := [.wk 7 (.list (.int .i64)), .keep [0, 7, 8, 9], .cmp]
def survey_words_C9 : TC := (.rg [⟨⟨some 13, (.mov (.t 0)), none⟩, {}⟩, ⟨⟨some 14, (.mov (.t 6)), none⟩, {}⟩, ⟨⟨some 15, (.call (.c (.fn 43 [])) [(.t 14)]), none⟩, {}⟩, ⟨⟨some 16, (.bin .add (.c (.v (.string ⟨⟨[32]⟩⟩))) (.t 15)), none⟩, {}⟩, ⟨⟨some 17, (.bin .add (.t 13) (.t 16)), none⟩, {}⟩, ⟨⟨some 0, (.mov (.t 17)), none⟩,
  {}⟩] none)
def survey_words_C10 : TC := (.rg [⟨⟨some 18, (.bin .add (.t 9) (.c (I 1))), none⟩, {}⟩, ⟨⟨some 9, (.mov (.t 18)), none⟩, {}⟩] none)
def survey_words_C7 : TC := (.seq (.block 1 (.seq (.rg [⟨⟨some 11, (.iadrS 1 (.t 7) (.t 9)), none⟩, {}⟩, ⟨⟨some 12, (.load false 1 (.t 11)), none⟩, {}⟩, ⟨⟨some 6, (.mov (.t 12)), none⟩, {}⟩] none) survey_words_C9)) survey_words_C10)
def survey_words_C4 : TC := (.seq (.cond (.t 10) .skip (.exit 0)) survey_words_C7)
def survey_words_C1 : TC := (.seq (.rg [⟨⟨some 10, (.bin .lss (.t 9) (.t 8)), none⟩, {}⟩] none) survey_words_C4)
def survey_words_C5 : TC := .ret
def survey_words_C2 : TC := (.seq (.rg [⟨⟨some 19, (.mov (.t 0)), none⟩, {}⟩, ⟨⟨some 4, (.mov (.t 19)), none⟩, {}⟩] none) survey_words_C5)
def survey_words_C8 : TC := (.block 0 (.loop survey_words_N1 survey_words_C1))
def survey_words_C6 : TC := (.seq (.seq (.rg [⟨⟨some 7, (.mov (.t 1)), none⟩, {}⟩, ⟨⟨some 8, (.len (.t 7)), none⟩, {}⟩, ⟨⟨some 9, (.mov (.c (I 0))), none⟩, {}⟩] none) survey_words_C8) survey_words_C2)
def survey_words_C3 : TC := (.seq (.rg [⟨⟨some 4, (.mov (.c (.v (.string ⟨⟨[]⟩⟩)))), none⟩, {}⟩] none) survey_words_C6)
def survey_words_E (N : Nat) : List (Nat × Ent) := [(43, pureE [(.int .i64)] [.str] (fun x => strconv_Itoa N x))]
def survey_words_L1 (N : Nat) (n : Nat) (x1 : List UInt8) (x2 : List Int) (x3 : Int) (x4 : Int) : Option (List UInt8) := loopN (normI 0 survey_words_N1) (run (survey_words_E N) N 0 survey_words_C1) n ⟨[(0, .str x1), (7, .lst false (.int .i64) x2), (8, .int .i64 x3), (9, .int .i64 x4)], []⟩ (blkK 0 (seqK (run (survey_words_E N) N 0 survey_words_C2) (fin [(.t 4)] [.str])))
theorem survey_words_L1_succ (N : Nat) (n1 : Nat) (x1 : List UInt8) (x2 : List Int) (x3 : Int) (x4 : Int) : survey_words_L1 N (n1 + 1) x1 x2 x3 x4 =
  bif (decide (x4 < x3)) then
    bif inB x4 x2.length then
    Option.bind (strconv_Itoa N (x2.getD x4.toNat 0)) fun r5 =>
    bif decide (([32] : List UInt8).length + r5.length ≤ 9223372036854775807) then
    let v6 := ([32] : List UInt8) ++ r5
    bif decide (x1.length + v6.length ≤ 9223372036854775807) then
    survey_words_L1 N n1 (x1 ++ v6) x2 x3 (W (x4 + 1))
    else none
    else none
    else none
  else
    some x1 := by kernel_rfl
def survey_words (N : Nat) (a0 : List UInt8) (a1 : List Int) : Option (List UInt8) :=
  survey_words_L1 N N a0 a1 (a1.length : Int) 0
theorem survey_words_fn : FnOK Tryd.prog 27 20 (fun _ : Nat => false) survey_words_C3.er [(.t 4)] := FnOK.mk' Tryd.func27 (by kernel_rfl) (by kernel_rfl) (by kernel_rfl) (by kernel_rfl) (by kernel_rfl)
theorem survey_words_envok (N : Nat) : EnvOK Tryd.prog (survey_words_E N) := .cons (pureE_ok (strconv_Itoa_pure N)) (.nil)
theorem survey_words_pure (N : Nat) : PureOK Tryd.prog 27 [.str, (.list (.int .i64))] [.str] (fun x => survey_words N x.1 x.2) := pureOK (N := N) mixed survey_words_fn (survey_words_envok N) (TC.noh_ok (by kernel_rfl)) rfl (fun x => by kernel_rfl)
/-! survey_short -/
def survey_short_N1 : List NS := [.wk 5 (.list (.int .i64)), .keep [5, 6, 7], .cmp]
def survey_short_C12 : TC := .ret
def survey_short_C11 : TC := (.cond (.t 16) (.seq (.rg [⟨⟨some 2, (.mov (.c (B false))), none⟩, {}⟩] none) survey_short_C12) .skip)
def survey_short_C9 : TC := (.seq (.rg [⟨⟨some 11, (.mov (.t 4)), none⟩, {}⟩, ⟨⟨some 12, (.bin .lss (.t 11) (.c (I (-999999999999999999)))), none⟩, {}⟩, ⟨⟨some 13, (.mov (.t 12)), none⟩, {}⟩, ⟨⟨some 14, (.mov (.t 4)), some (13, false)⟩, {}⟩, ⟨⟨some 15, (.bin .gtr (.t 14) (.c (I 999999999999999999))), some (13, false)⟩, {}⟩,
  ⟨⟨some 16, (.pick (.t 13) (.c (B true)) (.t 15)), none⟩, {}⟩] none) survey_short_C11)
def survey_short_C10 : TC := (.rg [⟨⟨some 17, (.bin .add (.t 7) (.c (I 1))), none⟩, {}⟩, ⟨⟨some 7, (.mov (.t 17)), none⟩, {}⟩] none)
def survey_short_C7 : TC := (.seq (.block 1 (.seq (.rg [⟨⟨some 9, (.iadrS 1 (.t 5) (.t 7)), none⟩, {}⟩, ⟨⟨some 10, (.load false 1 (.t 9)), none⟩, {}⟩, ⟨⟨some 4, (.mov (.t 10)), none⟩, {}⟩] none) survey_short_C9)) survey_short_C10)
def survey_short_C4 : TC := (.seq (.cond (.t 8) .skip (.exit 0)) survey_short_C7)
def survey_short_C1 : TC := (.seq (.rg [⟨⟨some 8, (.bin .lss (.t 7) (.t 6)), none⟩, {}⟩] none) survey_short_C4)
def survey_short_C5 : TC := .ret
def survey_short_C2 : TC := (.seq (.rg [⟨⟨some 2, (.mov (.c (B true))), none⟩, {}⟩] none) survey_short_C5)
def survey_short_C8 : TC := (.block 0 (.loop survey_short_N1 survey_short_C1))
def survey_short_C6 : TC := (.seq (.seq (.rg [⟨⟨some 5, (.mov (.t 0)), none⟩, {}⟩, ⟨⟨some 6, (.len (.t 5)), none⟩, {}⟩, ⟨⟨some 7, (.mov (.c (I 0))), none⟩, {}⟩] none) survey_short_C8) survey_short_C2)
def survey_short_C3 : TC := (.seq (.rg [⟨⟨some 2, (.mov (.c (B false))), none⟩, {}⟩] none) survey_short_C6)
def survey_short_E (N : Nat) : List (Nat × Ent) := []
def survey_short_L1 (N : Nat) (n : Nat) (x1 : List Int) (x2 : Int) (x3 : Int) : Option Bool := loopN (normI 0 survey_short_N1) (run (survey_short_E N) N 0 survey_short_C1) n ⟨[(5, .lst false (.int .i64) x1), (6, .int .i64 x2), (7, .int .i64 x3)], []⟩ (blkK 0 (seqK (run (survey_short_E N) N 0 survey_short_C2) (fin [(.t 2)] [.bool])))
theorem survey_short_L1_succ (N : Nat) (n1 : Nat) (x1 : List Int) (x2 : Int) (x3 : Int) : survey_short_L1 N (n1 + 1) x1 x2 x3 =
  bif (decide (x3 < x2)) then
    bif inB x3 x1.length then
    bif (decide ((x1.getD x3.toNat 0) < (-999999999999999999))) then
      some false
    else
      bif (decide ((x1.getD x3.toNat 0) > 999999999999999999)) then
        some false
      else
        survey_short_L1 N n1 x1 x2 (W (x3 + 1))
    else none
  else
    some true := by kernel_rfl
def survey_short (N : Nat) (a0 : List Int) : Option Bool :=
  survey_short_L1 N N a0 (a0.length : Int) 0
theorem survey_short_fn : FnOK Tryd.prog 41 18 (fun _ : Nat => false) survey_short_C3.er [(.t 2)] := FnOK.mk' Tryd.func41 (by kernel_rfl) (by kernel_rfl) (by kernel_rfl) (by kernel_rfl) (by kernel_rfl)
theorem survey_short_envok (N : Nat) : EnvOK Tryd.prog (survey_short_E N) := .nil
theorem survey_short_pure (N : Nat) : PureOK Tryd.prog 41 [(.list (.int .i64))] [.bool] (fun x => survey_short N x) := pureOK (N := N) mixed survey_short_fn (survey_short_envok N) (TC.noh_ok (by kernel_rfl)) rfl (fun x => by kernel_rfl)
/-! survey_line -/
def survey_line_C11 : TC := .ret
def survey_line_C5 : TC := (.seq (.rg [⟨⟨some 73, (.mov (.t 8)), none⟩, {}⟩, ⟨⟨some 74, (.load true 16 (.t 4)), none⟩, {}⟩, ⟨⟨some 75, (.build [(I 0), (I 0), (B false), (I 0), (I 0), (I 0), (I 0), (B false), (B false), (I 0), (I 0), (I 0), (I 0), (I 0), (I 0), (I 0)] []), none⟩, {}⟩, ⟨⟨some 76, (.eqa false [(0, 1), (1, 1), (2,
  0), (3, 1), (4, 1), (5, 1), (6, 1), (7, 0), (8, 0), (9, 1), (10, 1), (11, 1), (12, 1), (13, 1), (14, 1), (15, 1)] (.t 74) (.t 75)), none⟩, {}⟩, ⟨⟨some 77, (.mov (.t 76)), none⟩, {}⟩, ⟨⟨some 78, (.fadr 5 (.t 6)), some (77, true)⟩, {}⟩, ⟨⟨some 79, (.load false 1 (.t 78)), some (77, true)⟩, {}⟩,
  ⟨⟨some 80, (.un .not (.t 79)), some (77, true)⟩, {}⟩, ⟨⟨some 81, (.pick (.t 77) (.t 80) (.c (B false))), none⟩, {}⟩, ⟨⟨some 82, (.mov (.t 81)), none⟩, {}⟩, ⟨⟨some 83, (.fadr 0 (.t 6)), some (82, true)⟩, {}⟩, ⟨⟨some 84, (.load false 1 (.t 83)), some (82, true)⟩, {}⟩, ⟨⟨some 85, (.fadr 1 (.t 6)),
  some (82, true)⟩, {}⟩, ⟨⟨some 86, (.load false 1 (.t 85)), some (82, true)⟩, {}⟩, ⟨⟨some 87, (.fadr 2 (.t 6)), some (82, true)⟩, {}⟩, ⟨⟨some 88, (.load false 1 (.t 87)), some (82, true)⟩, {}⟩, ⟨⟨some 89, (.fadr 3 (.t 6)), some (82, true)⟩, {}⟩, ⟨⟨some 90, (.load false 1 (.t 89)), some (82, true)⟩,
  {}⟩, ⟨⟨some 91, (.fadr 6 (.t 6)), some (82, true)⟩, {}⟩, ⟨⟨some 92, (.fadr 0 (.t 91)), some (82, true)⟩, {}⟩, ⟨⟨some 93, (.load false 1 (.t 92)), some (82, true)⟩, {}⟩, ⟨⟨some 94, (.fadr 6 (.t 6)), some (82, true)⟩, {}⟩, ⟨⟨some 95, (.fadr 1 (.t 94)), some (82, true)⟩, {}⟩, ⟨⟨some 96, (.load false 1
  (.t 95)), some (82, true)⟩, {}⟩, ⟨⟨some 97, (.fadr 8 (.t 6)), some (82, true)⟩, {}⟩, ⟨⟨some 98, (.fadr 0 (.t 97)), some (82, true)⟩, {}⟩, ⟨⟨some 99, (.load false 1 (.t 98)), some (82, true)⟩, {}⟩, ⟨⟨some 100, (.fadr 8 (.t 6)), some (82, true)⟩, {}⟩, ⟨⟨some 101, (.fadr 1 (.t 100)), some (82, true)⟩,
  {}⟩, ⟨⟨some 102, (.load false 1 (.t 101)), some (82, true)⟩, {}⟩, ⟨⟨some 103, (.bslice false 1 [(I 0)] 8 [(0, (.t 84)), (1, (.t 86)), (2, (.t 88)), (3, (.t 90)), (4, (.t 93)), (5, (.t 96)), (6, (.t 99)), (7, (.t 102))]), some (82, true)⟩, ⟨(.int .i64), none, []⟩⟩, ⟨⟨some 104, (.call (.c (.fn 41
  [])) [(.t 103)]), some (82, true)⟩, {}⟩, ⟨⟨some 105, (.pick (.t 82) (.t 104) (.c (B false))), none⟩, {}⟩, ⟨⟨some 2, (.mov (.t 73)), none⟩, {}⟩, ⟨⟨some 3, (.mov (.t 105)), none⟩, {}⟩] none) survey_line_C11)
def survey_line_C1 : TC := (.seq (.rg [⟨⟨some 47, (.fadr 0 (.t 6)), none⟩, {}⟩, ⟨⟨some 48, (.load false 1 (.t 47)), none⟩, {}⟩, ⟨⟨some 49, (.fadr 1 (.t 6)), none⟩, {}⟩, ⟨⟨some 50, (.load false 1 (.t 49)), none⟩, {}⟩, ⟨⟨some 51, (.fadr 2 (.t 6)), none⟩, {}⟩, ⟨⟨some 52, (.load false 1 (.t 51)), none⟩, {}⟩, ⟨⟨some 53, (.fadr 3
  (.t 6)), none⟩, {}⟩, ⟨⟨some 54, (.load false 1 (.t 53)), none⟩, {}⟩, ⟨⟨some 55, (.bslice false 1 [(I 0)] 4 [(0, (.t 48)), (1, (.t 50)), (2, (.t 52)), (3, (.t 54))]), none⟩, ⟨(.int .i64), none, []⟩⟩, ⟨⟨some 56, (.call (.c (.fn 27 [])) [(.c (.v (.string ⟨⟨[114, 111, 97, 100]⟩⟩))), (.t 55)]), none⟩,
  {}⟩, ⟨⟨some 57, (.mov (.t 7)), none⟩, {}⟩, ⟨⟨some 58, (.fadr 6 (.t 6)), none⟩, {}⟩, ⟨⟨some 59, (.fadr 0 (.t 58)), none⟩, {}⟩, ⟨⟨some 60, (.load false 1 (.t 59)), none⟩, {}⟩, ⟨⟨some 61, (.fadr 6 (.t 6)), none⟩, {}⟩, ⟨⟨some 62, (.fadr 1 (.t 61)), none⟩, {}⟩, ⟨⟨some 63, (.load false 1 (.t 62)), none⟩,
  {}⟩, ⟨⟨some 64, (.fadr 8 (.t 6)), none⟩, {}⟩, ⟨⟨some 65, (.fadr 0 (.t 64)), none⟩, {}⟩, ⟨⟨some 66, (.load false 1 (.t 65)), none⟩, {}⟩, ⟨⟨some 67, (.fadr 8 (.t 6)), none⟩, {}⟩, ⟨⟨some 68, (.fadr 1 (.t 67)), none⟩, {}⟩, ⟨⟨some 69, (.load false 1 (.t 68)), none⟩, {}⟩, ⟨⟨some 70, (.bslice false 1 [(I
  0)] 4 [(0, (.t 60)), (1, (.t 63)), (2, (.t 66)), (3, (.t 69))]), none⟩, ⟨(.int .i64), none, []⟩⟩, ⟨⟨some 71, (.call (.c (.fn 27 [])) [(.t 57), (.t 70)]), none⟩, {}⟩, ⟨⟨some 72, (.bin .add (.t 56) (.t 71)), none⟩, {}⟩, ⟨⟨some 8, (.mov (.t 72)), none⟩, {}⟩] (some [(9, 11), (9, 12), (9, 13), (9, 14),
  (9, 15), (9, 16), (9, 17), (9, 18), (9, 19), (9, 20), (9, 21), (9, 22)])) survey_line_C5)
def survey_line_C6 : TC := .ret
def survey_line_C2 : TC := (.seq (.rg [⟨⟨some 2, (.mov (.c (.v (.string ⟨⟨[]⟩⟩)))), none⟩, {}⟩, ⟨⟨some 3, (.mov (.c (B false))), none⟩, {}⟩] none) survey_line_C6)
def survey_line_C15 : TC := (.cond (.t 112) (.rg [⟨⟨some 9, (.mov (.c (.v (.string ⟨⟨[99, 108, 111, 115, 101]⟩⟩)))), none⟩, {}⟩] none) .skip)
def survey_line_C19 : TC := .ret
def survey_line_C16 : TC := (.seq (.rg [⟨⟨some 113, (.mov (.t 9)), none⟩, {}⟩, ⟨⟨some 114, (.fadr 13 (.t 1)), none⟩, {}⟩, ⟨⟨some 115, (.load false 1 (.t 114)), none⟩, {}⟩, ⟨⟨some 116, (.bslice false 1 [(I 0)] 1 [(0, (.t 115))]), none⟩, ⟨(.int .i64), none, []⟩⟩, ⟨⟨some 117, (.call (.c (.fn 27 [])) [(.t 113), (.t 116)]), none⟩,
  {}⟩, ⟨⟨some 118, (.load true 16 (.t 4)), none⟩, {}⟩, ⟨⟨some 119, (.build [(I 0), (I 0), (B false), (I 0), (I 0), (I 0), (I 0), (B false), (B false), (I 0), (I 0), (I 0), (I 0), (I 0), (I 0), (I 0)] []), none⟩, {}⟩, ⟨⟨some 120, (.eqa false [(0, 1), (1, 1), (2, 0), (3, 1), (4, 1), (5, 1), (6, 1), (7,
  0), (8, 0), (9, 1), (10, 1), (11, 1), (12, 1), (13, 1), (14, 1), (15, 1)] (.t 118) (.t 119)), none⟩, {}⟩, ⟨⟨some 121, (.mov (.t 120)), none⟩, {}⟩, ⟨⟨some 122, (.fadr 13 (.t 1)), some (121, true)⟩, {}⟩, ⟨⟨some 123, (.load false 1 (.t 122)), some (121, true)⟩, {}⟩, ⟨⟨some 124, (.bslice false 1 [(I
  0)] 1 [(0, (.t 123))]), some (121, true)⟩, ⟨(.int .i64), none, []⟩⟩, ⟨⟨some 125, (.call (.c (.fn 41 [])) [(.t 124)]), some (121, true)⟩, {}⟩, ⟨⟨some 126, (.pick (.t 121) (.t 125) (.c (B false))), none⟩, {}⟩, ⟨⟨some 2, (.mov (.t 117)), none⟩, {}⟩, ⟨⟨some 3, (.mov (.t 126)), none⟩, {}⟩] (some [(4,
  5)])) survey_line_C19)
def survey_line_C12 : TC := (.seq (.seq (.rg [⟨⟨some 110, (.fadr 0 (.t 1)), none⟩, {}⟩, ⟨⟨some 111, (.load false 1 (.t 110)), none⟩, {}⟩, ⟨⟨some 112, (.bin .eql (.t 111) (.c (I 3))), none⟩, {}⟩] none) survey_line_C15) survey_line_C16)
def survey_line_C7 : TC := (.seq (.rg [⟨⟨some 9, (.mov (.c (.v (.string ⟨⟨[111, 112, 101, 110]⟩⟩)))), none⟩, {}⟩] none) survey_line_C12)
def survey_line_C8 : TC := (.cond (.t 127) .skip (.rg [⟨⟨some 129, (.bin .eql (.t 14) (.c (I 6))), none⟩, {}⟩, ⟨⟨some 127, (.mov (.t 129)), none⟩, {}⟩] none))
def survey_line_C20 : TC := (.cond (.t 135) (.rg [⟨⟨some 10, (.mov (.c (.v (.string ⟨⟨[108, 105, 102, 116]⟩⟩)))), none⟩, {}⟩] none) .skip)
def survey_line_C23 : TC := .ret
def survey_line_C21 : TC := (.seq (.rg [⟨⟨some 136, (.mov (.t 10)), none⟩, {}⟩, ⟨⟨some 137, (.fadr 13 (.t 1)), none⟩, {}⟩, ⟨⟨some 138, (.load false 1 (.t 137)), none⟩, {}⟩, ⟨⟨some 139, (.fadr 14 (.t 1)), none⟩, {}⟩, ⟨⟨some 140, (.fadr 0 (.t 139)), none⟩, {}⟩, ⟨⟨some 141, (.load false 1 (.t 140)), none⟩, {}⟩, ⟨⟨some 142, (.fadr
  14 (.t 1)), none⟩, {}⟩, ⟨⟨some 143, (.fadr 1 (.t 142)), none⟩, {}⟩, ⟨⟨some 144, (.load false 1 (.t 143)), none⟩, {}⟩, ⟨⟨some 145, (.bslice false 1 [(I 0)] 3 [(0, (.t 138)), (1, (.t 141)), (2, (.t 144))]), none⟩, ⟨(.int .i64), none, []⟩⟩, ⟨⟨some 146, (.call (.c (.fn 27 [])) [(.t 136), (.t 145)]),
  none⟩, {}⟩, ⟨⟨some 147, (.load true 16 (.t 4)), none⟩, {}⟩, ⟨⟨some 148, (.build [(I 0), (I 0), (B false), (I 0), (I 0), (I 0), (I 0), (B false), (B false), (I 0), (I 0), (I 0), (I 0), (I 0), (I 0), (I 0)] []), none⟩, {}⟩, ⟨⟨some 149, (.eqa false [(0, 1), (1, 1), (2, 0), (3, 1), (4, 1), (5, 1), (6,
  1), (7, 0), (8, 0), (9, 1), (10, 1), (11, 1), (12, 1), (13, 1), (14, 1), (15, 1)] (.t 147) (.t 148)), none⟩, {}⟩, ⟨⟨some 150, (.mov (.t 149)), none⟩, {}⟩, ⟨⟨some 151, (.fadr 13 (.t 1)), some (150, true)⟩, {}⟩, ⟨⟨some 152, (.load false 1 (.t 151)), some (150, true)⟩, {}⟩, ⟨⟨some 153, (.fadr 14 (.t
  1)), some (150, true)⟩, {}⟩, ⟨⟨some 154, (.fadr 0 (.t 153)), some (150, true)⟩, {}⟩, ⟨⟨some 155, (.load false 1 (.t 154)), some (150, true)⟩, {}⟩, ⟨⟨some 156, (.fadr 14 (.t 1)), some (150, true)⟩, {}⟩, ⟨⟨some 157, (.fadr 1 (.t 156)), some (150, true)⟩, {}⟩, ⟨⟨some 158, (.load false 1 (.t 157)),
  some (150, true)⟩, {}⟩, ⟨⟨some 159, (.bslice false 1 [(I 0)] 3 [(0, (.t 152)), (1, (.t 155)), (2, (.t 158))]), some (150, true)⟩, ⟨(.int .i64), none, []⟩⟩, ⟨⟨some 160, (.call (.c (.fn 41 [])) [(.t 159)]), some (150, true)⟩, {}⟩, ⟨⟨some 161, (.pick (.t 150) (.t 160) (.c (B false))), none⟩, {}⟩,
  ⟨⟨some 2, (.mov (.t 146)), none⟩, {}⟩, ⟨⟨some 3, (.mov (.t 161)), none⟩, {}⟩] (some [(10, 11)])) survey_line_C23)
def survey_line_C17 : TC := (.seq (.seq (.rg [⟨⟨some 133, (.fadr 0 (.t 1)), none⟩, {}⟩, ⟨⟨some 134, (.load false 1 (.t 133)), none⟩, {}⟩, ⟨⟨some 135, (.bin .eql (.t 134) (.c (I 6))), none⟩, {}⟩] none) survey_line_C20) survey_line_C21)
def survey_line_C13 : TC := (.seq (.rg [⟨⟨some 10, (.mov (.c (.v (.string ⟨⟨[114, 101, 115, 116]⟩⟩)))), none⟩, {}⟩] none) survey_line_C17)
def survey_line_C9 : TC := (.cond (.t 127) (.seq (.rg [⟨⟨some 130, (.build [(I 0), (I 0)] []), none⟩, {}⟩, ⟨⟨some 131, (.fadr 13 (.t 4)), none⟩, {}⟩, ⟨⟨none, (.store 1 (.t 131) (.c (I 0))), none⟩, {}⟩, ⟨⟨some 132, (.fadr 14 (.t 4)), none⟩, {}⟩, ⟨⟨none, (.store 2 (.t 132) (.t 130)), none⟩, {}⟩] none) survey_line_C13) .skip)
def survey_line_C3 : TC := (.cond (.t 106) (.seq (.rg [⟨⟨some 109, (.fadr 13 (.t 4)), none⟩, {}⟩, ⟨⟨none, (.store 1 (.t 109) (.c (I 0))), none⟩, {}⟩] none) survey_line_C7) (.seq (.seq (.rg [⟨⟨some 128, (.bin .eql (.t 14) (.c (I 5))), none⟩, {}⟩, ⟨⟨some 127, (.mov (.t 128)), none⟩, {}⟩] none) survey_line_C8) survey_line_C9))
def survey_line_C31 : TC := (.cond (.t 21) (.rg [⟨⟨some 5, (.mov (.c (.v (.string ⟨⟨[32, 115, 117, 114, 102, 97, 99, 101]⟩⟩)))), none⟩, {}⟩] none) .skip)
def survey_line_C34 : TC := .ret
def survey_line_C32 : TC := (.seq (.rg [⟨⟨some 22, (.fadr 1 (.t 1)), none⟩, {}⟩, ⟨⟨some 23, (.fadr 0 (.t 22)), none⟩, {}⟩, ⟨⟨some 24, (.load false 1 (.t 23)), none⟩, {}⟩, ⟨⟨some 25, (.bslice false 1 [(I 0)] 1 [(0, (.t 24))]), none⟩, ⟨(.int .i64), none, []⟩⟩, ⟨⟨some 26, (.call (.c (.fn 27 [])) [(.c (.v (.string ⟨⟨[112, 108, 97,
  99, 101]⟩⟩))), (.t 25)]), none⟩, {}⟩, ⟨⟨some 27, (.mov (.t 5)), none⟩, {}⟩, ⟨⟨some 28, (.bin .add (.t 26) (.t 27)), none⟩, {}⟩, ⟨⟨some 29, (.load true 16 (.t 4)), none⟩, {}⟩, ⟨⟨some 30, (.build [(I 0), (I 0), (B false), (I 0), (I 0), (I 0), (I 0), (B false), (B false), (I 0), (I 0), (I 0), (I 0),
  (I 0), (I 0), (I 0)] []), none⟩, {}⟩, ⟨⟨some 31, (.eqa false [(0, 1), (1, 1), (2, 0), (3, 1), (4, 1), (5, 1), (6, 1), (7, 0), (8, 0), (9, 1), (10, 1), (11, 1), (12, 1), (13, 1), (14, 1), (15, 1)] (.t 29) (.t 30)), none⟩, {}⟩, ⟨⟨some 32, (.mov (.t 31)), none⟩, {}⟩, ⟨⟨some 33, (.fadr 1 (.t 1)), some
  (32, true)⟩, {}⟩, ⟨⟨some 34, (.fadr 0 (.t 33)), some (32, true)⟩, {}⟩, ⟨⟨some 35, (.load false 1 (.t 34)), some (32, true)⟩, {}⟩, ⟨⟨some 36, (.bslice false 1 [(I 0)] 1 [(0, (.t 35))]), some (32, true)⟩, ⟨(.int .i64), none, []⟩⟩, ⟨⟨some 37, (.call (.c (.fn 41 [])) [(.t 36)]), some (32, true)⟩, {}⟩,
  ⟨⟨some 38, (.pick (.t 32) (.t 37) (.c (B false))), none⟩, {}⟩, ⟨⟨some 2, (.mov (.t 28)), none⟩, {}⟩, ⟨⟨some 3, (.mov (.t 38)), none⟩, {}⟩] (some [(4, 7)])) survey_line_C34)
def survey_line_C27 : TC := (.seq (.seq (.rg [⟨⟨some 19, (.fadr 1 (.t 1)), none⟩, {}⟩, ⟨⟨some 20, (.fadr 1 (.t 19)), none⟩, {}⟩, ⟨⟨some 21, (.load false 1 (.t 20)), none⟩, {}⟩] none) survey_line_C31) survey_line_C32)
def survey_line_C25 : TC := (.seq (.rg [⟨⟨some 5, (.mov (.c (.v (.string ⟨⟨[32, 98, 101, 108, 111, 119]⟩⟩)))), none⟩, {}⟩] none) survey_line_C27)
def survey_line_C36 : TC := (.cond (.t 46) (.rg [⟨⟨some 7, (.mov (.c (.v (.string ⟨⟨[32, 119, 97, 108, 107]⟩⟩)))), none⟩, {}⟩] none) .skip)
def survey_line_C37 : TC := (.join [.keep [4, 6, 7], .cmp] survey_line_C1)
def survey_line_C35 : TC := (.seq (.seq (.rg [⟨⟨some 45, (.fadr 4 (.t 6)), none⟩, {}⟩, ⟨⟨some 46, (.load false 1 (.t 45)), none⟩, {}⟩] none) survey_line_C36) survey_line_C37)
def survey_line_C33 : TC := (.seq (.rg [⟨⟨some 7, (.mov (.c (.v (.string ⟨⟨[32, 109, 97, 99, 104, 105, 110, 101]⟩⟩)))), none⟩, {}⟩] none) survey_line_C35)
def survey_line_C28 : TC := (.seq (.rg [⟨⟨some 43, (.build [(I 0), (I 0), (I 0), (I 0), (B false), (B false), (I 0), (I 0), (I 0), (I 0)] []), none⟩, {}⟩, ⟨⟨some 44, (.fadr 3 (.t 4)), none⟩, {}⟩, ⟨⟨none, (.store 10 (.t 44) (.t 43)), none⟩, {}⟩] none) survey_line_C33)
def survey_line_C29 : TC := (.cond (.t 106) .skip (.rg [⟨⟨some 108, (.bin .eql (.t 14) (.c (I 4))), none⟩, {}⟩, ⟨⟨some 106, (.mov (.t 108)), none⟩, {}⟩] none))
def survey_line_C30 : TC := (.join [.keep [1, 4, 14, 106], .cmp] survey_line_C3)
def survey_line_C26 : TC := (.cond (.t 39) (.seq (.rg [⟨⟨some 41, (.fadr 3 (.t 1)), none⟩, {}⟩, ⟨⟨some 42, (.load true 10 (.t 41)), none⟩, {}⟩, ⟨⟨some 6, (.alloc [(I 0), (I 0), (I 0), (I 0), (B false), (B false), (I 0), (I 0), (I 0), (I 0)]), none⟩, {}⟩, ⟨⟨none, (.store 10 (.t 6) (.t 42)), none⟩, {}⟩] none) survey_line_C28)
  (.seq (.seq (.rg [⟨⟨some 107, (.bin .eql (.t 14) (.c (I 3))), none⟩, {}⟩, ⟨⟨some 106, (.mov (.t 107)), none⟩, {}⟩] none) survey_line_C29) survey_line_C30))
def survey_line_C24 : TC := (.cond (.t 15) (.seq (.rg [⟨⟨some 17, (.build [(I 0), (B false)] []), none⟩, {}⟩, ⟨⟨some 18, (.fadr 1 (.t 4)), none⟩, {}⟩, ⟨⟨none, (.store 2 (.t 18) (.t 17)), none⟩, {}⟩] none) survey_line_C25) (.seq (.rg [⟨⟨some 40, (.bin .eql (.t 14) (.c (I 2))), none⟩, {}⟩, ⟨⟨some 39, (.mov (.t 40)), none⟩, {}⟩]
  none) survey_line_C26))
def survey_line_C22 : TC := (.block 0 (.seq (.rg [⟨⟨some 16, (.bin .eql (.t 14) (.c (I 1))), none⟩, {}⟩, ⟨⟨some 15, (.mov (.t 16)), none⟩, {}⟩] none) survey_line_C24))
def survey_line_C18 : TC := (.seq (.seq (.rg [⟨⟨some 13, (.fadr 0 (.t 1)), none⟩, {}⟩, ⟨⟨some 14, (.load false 1 (.t 13)), none⟩, {}⟩] none) survey_line_C22) survey_line_C2)
def survey_line_C14 : TC := (.seq (.rg [⟨⟨some 12, (.fadr 0 (.t 4)), none⟩, {}⟩, ⟨⟨none, (.store 1 (.t 12) (.c (I 0))), none⟩, {}⟩] none) survey_line_C18)
def survey_line_C10 : TC := (.seq (.rg [⟨⟨some 11, (.load true 16 (.t 1)), none⟩, {}⟩, ⟨⟨some 4, (.alloc [(I 0), (I 0), (B false), (I 0), (I 0), (I 0), (I 0), (B false), (B false), (I 0), (I 0), (I 0), (I 0), (I 0), (I 0), (I 0)]), none⟩, {}⟩, ⟨⟨none, (.store 16 (.t 4) (.t 11)), none⟩, {}⟩] none) survey_line_C14)
def survey_line_C4 : TC := (.seq (.rg [⟨⟨some 1, (.box (.t 0)), none⟩, {}⟩, ⟨⟨some 2, (.mov (.c (.v (.string ⟨⟨[]⟩⟩)))), none⟩, {}⟩, ⟨⟨some 3, (.mov (.c (B false))), none⟩, {}⟩] none) survey_line_C10)
def survey_line_E (N : Nat) : List (Nat × Ent) := [(27, pureE [.str, (.list (.int .i64))] [.str] (fun x => survey_words N x.1 x.2)), (41, pureE [(.list (.int .i64))] [.bool] (fun x => survey_short N x))]
def survey_line_J1 (N : Nat) (x7 : List UInt8) (x8 : Int) (x9 : Int) (x10 : Bool) (x11 : Int) (x12 : Int) (x13 : Int) (x14 : Int) (x15 : Bool) (x16 : Bool) (x17 : Int) (x18 : Int) (x19 : Int) (x20 : Int) (x21 : Int) (x22 : Int) (x23 : Int) (x24 : Int) (x25 : Int) (x26 : Int) (x27 : Int) (x28 : Bool) (x29 : Bool) (x30 : Int) (x31 : Int) (x32 : Int) (x33 : Int) : Option ((List UInt8) × Bool) := joinN (run (survey_line_E N) N 0 survey_line_C1) N ⟨[(4, .ptr 0 0 0), (6, .ptr 1 0 0), (7, .str x7)], [some (.box 0 [.int .i64 x8, .int .i64 x9, .bool x10, .int .i64 x11, .int .i64 x12, .int .i64 x13, .int .i64 x14, .bool x15, .bool x16, .int .i64 x17, .int .i64 x18, .int .i64 x19, .int .i64 x20, .int .i64 x21, .int .i64 x22, .int .i64 x23]), some (.box 0 [.int .i64 x24, .int .i64 x25, .int .i64 x26, .int .i64 x27, .bool x28, .bool x29, .int .i64 x30, .int .i64 x31, .int .i64 x32, .int .i64 x33])]⟩ (blkK 0 (seqK (run (survey_line_E N) N 0 survey_line_C2) (fin [(.t 2), (.t 3)] [.str, .bool])))
def survey_line_J2 (N : Nat) (x92 : Int) (x93 : Bool) (x94 : Int) (x95 : Int) (x96 : Bool) (x97 : Int) (x98 : Int) (x99 : Int) (x100 : Int) (x101 : Bool) (x102 : Bool) (x103 : Int) (x104 : Int) (x105 : Int) (x106 : Int) (x107 : Int) (x108 : Int) (x109 : Int) (x110 : Int) (x111 : Int) (x112 : Bool) (x113 : Int) (x114 : Int) (x115 : Int) (x116 : Int) (x117 : Bool) (x118 : Bool) (x119 : Int) (x120 : Int) (x121 : Int) (x122 : Int) (x123 : Int) (x124 : Int) (x125 : Int) : Option ((List UInt8) × Bool) := joinN (run (survey_line_E N) N 0 survey_line_C3) N ⟨[(1, .ptr 0 0 0), (4, .ptr 1 0 0), (14, .int .i64 x92), (106, .bool x93)], [some (.box 0 [.int .i64 x94, .int .i64 x95, .bool x96, .int .i64 x97, .int .i64 x98, .int .i64 x99, .int .i64 x100, .bool x101, .bool x102, .int .i64 x103, .int .i64 x104, .int .i64 x105, .int .i64 x106, .int .i64 x107, .int .i64 x108, .int .i64 x109]), some (.box 0 [.int .i64 x110, .int .i64 x111, .bool x112, .int .i64 x113, .int .i64 x114, .int .i64 x115, .int .i64 x116, .bool x117, .bool x118, .int .i64 x119, .int .i64 x120, .int .i64 x121, .int .i64 x122, .int .i64 x123, .int .i64 x124, .int .i64 x125])]⟩ (blkK 0 (seqK (run (survey_line_E N) N 0 survey_line_C2) (fin [(.t 2), (.t 3)] [.str, .bool])))
theorem survey_line_J1_eqM (N : Nat) (JM : Nat) (x7 : List UInt8) (x8 : Int) (x9 : Int) (x10 : Bool) (x11 : Int) (x12 : Int) (x13 : Int) (x14 : Int) (x15 : Bool) (x16 : Bool) (x17 : Int) (x18 : Int) (x19 : Int) (x20 : Int) (x21 : Int) (x22 : Int) (x23 : Int) (x24 : Int) (x25 : Int) (x26 : Int) (x27 : Int) (x28 : Bool) (x29 : Bool) (x30 : Int) (x31 : Int) (x32 : Int) (x33 : Int) : joinN (run (survey_line_E N) N 0 survey_line_C1) (JM + 1) ⟨[(4, .ptr 0 0 0), (6, .ptr 1 0 0), (7, .str x7)], [some (.box 0 [.int .i64 x8, .int .i64 x9, .bool x10, .int .i64 x11, .int .i64 x12, .int .i64 x13, .int .i64 x14, .bool x15, .bool x16, .int .i64 x17, .int .i64 x18, .int .i64 x19, .int .i64 x20, .int .i64 x21, .int .i64 x22, .int .i64 x23]), some (.box 0 [.int .i64 x24, .int .i64 x25, .int .i64 x26, .int .i64 x27, .bool x28, .bool x29, .int .i64 x30, .int .i64 x31, .int .i64 x32, .int .i64 x33])]⟩ (blkK 0 (seqK (run (survey_line_E N) N 0 survey_line_C2) (fin [(.t 2), (.t 3)] [.str, .bool]))) =
  Option.bind (survey_words N [114, 111, 97, 100] [x24, x25, x26, x27]) fun r34 =>
  Option.bind (survey_words N x7 [x30, x31, x32, x33]) fun r35 =>
  bif decide (r34.length + r35.length ≤ 9223372036854775807) then
  bif ((x8 == 0) && ((x9 == 0) && ((x10 == false) && ((x11 == 0) && ((x12 == 0) && ((x13 == 0) && ((x14 == 0) && ((x15 == false) && ((x16 == false) && ((x17 == 0) && ((x18 == 0) && ((x19 == 0) && ((x20 == 0) && ((x21 == 0) && ((x22 == 0) && (x23 == 0)))))))))))))))) then
    bif (!x29) then
      Option.bind (survey_short N [x24, x25, x26, x27, x30, x31, x32, x33]) fun r37 =>
      some ((r34 ++ r35), r37)
    else
      some ((r34 ++ r35), false)
  else
    some ((r34 ++ r35), false)
  else none := by kernel_rfl
theorem survey_line_J1_eq (N : Nat) (x7 : List UInt8) (x8 : Int) (x9 : Int) (x10 : Bool) (x11 : Int) (x12 : Int) (x13 : Int) (x14 : Int) (x15 : Bool) (x16 : Bool) (x17 : Int) (x18 : Int) (x19 : Int) (x20 : Int) (x21 : Int) (x22 : Int) (x23 : Int) (x24 : Int) (x25 : Int) (x26 : Int) (x27 : Int) (x28 : Bool) (x29 : Bool) (x30 : Int) (x31 : Int) (x32 : Int) (x33 : Int) : survey_line_J1 (N + 1) x7 x8 x9 x10 x11 x12 x13 x14 x15 x16 x17 x18 x19 x20 x21 x22 x23 x24 x25 x26 x27 x28 x29 x30 x31 x32 x33 =
  Option.bind (survey_words (N + 1) [114, 111, 97, 100] [x24, x25, x26, x27]) fun r34 =>
  Option.bind (survey_words (N + 1) x7 [x30, x31, x32, x33]) fun r35 =>
  bif decide (r34.length + r35.length ≤ 9223372036854775807) then
  bif ((x8 == 0) && ((x9 == 0) && ((x10 == false) && ((x11 == 0) && ((x12 == 0) && ((x13 == 0) && ((x14 == 0) && ((x15 == false) && ((x16 == false) && ((x17 == 0) && ((x18 == 0) && ((x19 == 0) && ((x20 == 0) && ((x21 == 0) && ((x22 == 0) && (x23 == 0)))))))))))))))) then
    bif (!x29) then
      Option.bind (survey_short (N + 1) [x24, x25, x26, x27, x30, x31, x32, x33]) fun r37 =>
      some ((r34 ++ r35), r37)
    else
      some ((r34 ++ r35), false)
  else
    some ((r34 ++ r35), false)
  else none := survey_line_J1_eqM (N + 1) N x7 x8 x9 x10 x11 x12 x13 x14 x15 x16 x17 x18 x19 x20 x21 x22 x23 x24 x25 x26 x27 x28 x29 x30 x31 x32 x33
theorem survey_line_J2_eqM (N : Nat) (JM : Nat) (x92 : Int) (x93 : Bool) (x94 : Int) (x95 : Int) (x96 : Bool) (x97 : Int) (x98 : Int) (x99 : Int) (x100 : Int) (x101 : Bool) (x102 : Bool) (x103 : Int) (x104 : Int) (x105 : Int) (x106 : Int) (x107 : Int) (x108 : Int) (x109 : Int) (x110 : Int) (x111 : Int) (x112 : Bool) (x113 : Int) (x114 : Int) (x115 : Int) (x116 : Int) (x117 : Bool) (x118 : Bool) (x119 : Int) (x120 : Int) (x121 : Int) (x122 : Int) (x123 : Int) (x124 : Int) (x125 : Int) : joinN (run (survey_line_E N) N 0 survey_line_C3) (JM + 1) ⟨[(1, .ptr 0 0 0), (4, .ptr 1 0 0), (14, .int .i64 x92), (106, .bool x93)], [some (.box 0 [.int .i64 x94, .int .i64 x95, .bool x96, .int .i64 x97, .int .i64 x98, .int .i64 x99, .int .i64 x100, .bool x101, .bool x102, .int .i64 x103, .int .i64 x104, .int .i64 x105, .int .i64 x106, .int .i64 x107, .int .i64 x108, .int .i64 x109]), some (.box 0 [.int .i64 x110, .int .i64 x111, .bool x112, .int .i64 x113, .int .i64 x114, .int .i64 x115, .int .i64 x116, .bool x117, .bool x118, .int .i64 x119, .int .i64 x120, .int .i64 x121, .int .i64 x122, .int .i64 x123, .int .i64 x124, .int .i64 x125])]⟩ (blkK 0 (seqK (run (survey_line_E N) N 0 survey_line_C2) (fin [(.t 2), (.t 3)] [.str, .bool]))) =
  bif x93 then
    bif (x94 == 3) then
      Option.bind (survey_words N [99, 108, 111, 115, 101] [x107]) fun r126 =>
      bif ((x110 == 0) && ((x111 == 0) && ((x112 == false) && ((x113 == 0) && ((x114 == 0) && ((x115 == 0) && ((x116 == 0) && ((x117 == false) && ((x118 == false) && ((x119 == 0) && ((x120 == 0) && ((x121 == 0) && ((x122 == 0) && ((0 == 0) && ((x124 == 0) && (x125 == 0)))))))))))))))) then
        Option.bind (survey_short N [x107]) fun r127 =>
        some (r126, r127)
      else
        some (r126, false)
    else
      Option.bind (survey_words N [111, 112, 101, 110] [x107]) fun r128 =>
      bif ((x110 == 0) && ((x111 == 0) && ((x112 == false) && ((x113 == 0) && ((x114 == 0) && ((x115 == 0) && ((x116 == 0) && ((x117 == false) && ((x118 == false) && ((x119 == 0) && ((x120 == 0) && ((x121 == 0) && ((x122 == 0) && ((0 == 0) && ((x124 == 0) && (x125 == 0)))))))))))))))) then
        Option.bind (survey_short N [x107]) fun r129 =>
        some (r128, r129)
      else
        some (r128, false)
  else
    bif (x92 == 5) then
      bif (x94 == 6) then
        Option.bind (survey_words N [108, 105, 102, 116] [x107, x108, x109]) fun r130 =>
        bif ((x110 == 0) && ((x111 == 0) && ((x112 == false) && ((x113 == 0) && ((x114 == 0) && ((x115 == 0) && ((x116 == 0) && ((x117 == false) && ((x118 == false) && ((x119 == 0) && ((x120 == 0) && ((x121 == 0) && ((x122 == 0) && ((0 == 0) && ((0 == 0) && (0 == 0)))))))))))))))) then
          Option.bind (survey_short N [x107, x108, x109]) fun r131 =>
          some (r130, r131)
        else
          some (r130, false)
      else
        Option.bind (survey_words N [114, 101, 115, 116] [x107, x108, x109]) fun r132 =>
        bif ((x110 == 0) && ((x111 == 0) && ((x112 == false) && ((x113 == 0) && ((x114 == 0) && ((x115 == 0) && ((x116 == 0) && ((x117 == false) && ((x118 == false) && ((x119 == 0) && ((x120 == 0) && ((x121 == 0) && ((x122 == 0) && ((0 == 0) && ((0 == 0) && (0 == 0)))))))))))))))) then
          Option.bind (survey_short N [x107, x108, x109]) fun r133 =>
          some (r132, r133)
        else
          some (r132, false)
    else
      bif (x92 == 6) then
        bif (x94 == 6) then
          Option.bind (survey_words N [108, 105, 102, 116] [x107, x108, x109]) fun r134 =>
          bif ((x110 == 0) && ((x111 == 0) && ((x112 == false) && ((x113 == 0) && ((x114 == 0) && ((x115 == 0) && ((x116 == 0) && ((x117 == false) && ((x118 == false) && ((x119 == 0) && ((x120 == 0) && ((x121 == 0) && ((x122 == 0) && ((0 == 0) && ((0 == 0) && (0 == 0)))))))))))))))) then
            Option.bind (survey_short N [x107, x108, x109]) fun r135 =>
            some (r134, r135)
          else
            some (r134, false)
        else
          Option.bind (survey_words N [114, 101, 115, 116] [x107, x108, x109]) fun r136 =>
          bif ((x110 == 0) && ((x111 == 0) && ((x112 == false) && ((x113 == 0) && ((x114 == 0) && ((x115 == 0) && ((x116 == 0) && ((x117 == false) && ((x118 == false) && ((x119 == 0) && ((x120 == 0) && ((x121 == 0) && ((x122 == 0) && ((0 == 0) && ((0 == 0) && (0 == 0)))))))))))))))) then
            Option.bind (survey_short N [x107, x108, x109]) fun r137 =>
            some (r136, r137)
          else
            some (r136, false)
      else
        some ([], false) := by kernel_rfl
theorem survey_line_J2_eq (N : Nat) (x92 : Int) (x93 : Bool) (x94 : Int) (x95 : Int) (x96 : Bool) (x97 : Int) (x98 : Int) (x99 : Int) (x100 : Int) (x101 : Bool) (x102 : Bool) (x103 : Int) (x104 : Int) (x105 : Int) (x106 : Int) (x107 : Int) (x108 : Int) (x109 : Int) (x110 : Int) (x111 : Int) (x112 : Bool) (x113 : Int) (x114 : Int) (x115 : Int) (x116 : Int) (x117 : Bool) (x118 : Bool) (x119 : Int) (x120 : Int) (x121 : Int) (x122 : Int) (x123 : Int) (x124 : Int) (x125 : Int) : survey_line_J2 (N + 1) x92 x93 x94 x95 x96 x97 x98 x99 x100 x101 x102 x103 x104 x105 x106 x107 x108 x109 x110 x111 x112 x113 x114 x115 x116 x117 x118 x119 x120 x121 x122 x123 x124 x125 =
  bif x93 then
    bif (x94 == 3) then
      Option.bind (survey_words (N + 1) [99, 108, 111, 115, 101] [x107]) fun r126 =>
      bif ((x110 == 0) && ((x111 == 0) && ((x112 == false) && ((x113 == 0) && ((x114 == 0) && ((x115 == 0) && ((x116 == 0) && ((x117 == false) && ((x118 == false) && ((x119 == 0) && ((x120 == 0) && ((x121 == 0) && ((x122 == 0) && ((0 == 0) && ((x124 == 0) && (x125 == 0)))))))))))))))) then
        Option.bind (survey_short (N + 1) [x107]) fun r127 =>
        some (r126, r127)
      else
        some (r126, false)
    else
      Option.bind (survey_words (N + 1) [111, 112, 101, 110] [x107]) fun r128 =>
      bif ((x110 == 0) && ((x111 == 0) && ((x112 == false) && ((x113 == 0) && ((x114 == 0) && ((x115 == 0) && ((x116 == 0) && ((x117 == false) && ((x118 == false) && ((x119 == 0) && ((x120 == 0) && ((x121 == 0) && ((x122 == 0) && ((0 == 0) && ((x124 == 0) && (x125 == 0)))))))))))))))) then
        Option.bind (survey_short (N + 1) [x107]) fun r129 =>
        some (r128, r129)
      else
        some (r128, false)
  else
    bif (x92 == 5) then
      bif (x94 == 6) then
        Option.bind (survey_words (N + 1) [108, 105, 102, 116] [x107, x108, x109]) fun r130 =>
        bif ((x110 == 0) && ((x111 == 0) && ((x112 == false) && ((x113 == 0) && ((x114 == 0) && ((x115 == 0) && ((x116 == 0) && ((x117 == false) && ((x118 == false) && ((x119 == 0) && ((x120 == 0) && ((x121 == 0) && ((x122 == 0) && ((0 == 0) && ((0 == 0) && (0 == 0)))))))))))))))) then
          Option.bind (survey_short (N + 1) [x107, x108, x109]) fun r131 =>
          some (r130, r131)
        else
          some (r130, false)
      else
        Option.bind (survey_words (N + 1) [114, 101, 115, 116] [x107, x108, x109]) fun r132 =>
        bif ((x110 == 0) && ((x111 == 0) && ((x112 == false) && ((x113 == 0) && ((x114 == 0) && ((x115 == 0) && ((x116 == 0) && ((x117 == false) && ((x118 == false) && ((x119 == 0) && ((x120 == 0) && ((x121 == 0) && ((x122 == 0) && ((0 == 0) && ((0 == 0) && (0 == 0)))))))))))))))) then
          Option.bind (survey_short (N + 1) [x107, x108, x109]) fun r133 =>
          some (r132, r133)
        else
          some (r132, false)
    else
      bif (x92 == 6) then
        bif (x94 == 6) then
          Option.bind (survey_words (N + 1) [108, 105, 102, 116] [x107, x108, x109]) fun r134 =>
          bif ((x110 == 0) && ((x111 == 0) && ((x112 == false) && ((x113 == 0) && ((x114 == 0) && ((x115 == 0) && ((x116 == 0) && ((x117 == false) && ((x118 == false) && ((x119 == 0) && ((x120 == 0) && ((x121 == 0) && ((x122 == 0) && ((0 == 0) && ((0 == 0) && (0 == 0)))))))))))))))) then
            Option.bind (survey_short (N + 1) [x107, x108, x109]) fun r135 =>
            some (r134, r135)
          else
            some (r134, false)
        else
          Option.bind (survey_words (N + 1) [114, 101, 115, 116] [x107, x108, x109]) fun r136 =>
          bif ((x110 == 0) && ((x111 == 0) && ((x112 == false) && ((x113 == 0) && ((x114 == 0) && ((x115 == 0) && ((x116 == 0) && ((x117 == false) && ((x118 == false) && ((x119 == 0) && ((x120 == 0) && ((x121 == 0) && ((x122 == 0) && ((0 == 0) && ((0 == 0) && (0 == 0)))))))))))))))) then
            Option.bind (survey_short (N + 1) [x107, x108, x109]) fun r137 =>
            some (r136, r137)
          else
            some (r136, false)
      else
        some ([], false) := survey_line_J2_eqM (N + 1) N x92 x93 x94 x95 x96 x97 x98 x99 x100 x101 x102 x103 x104 x105 x106 x107 x108 x109 x110 x111 x112 x113 x114 x115 x116 x117 x118 x119 x120 x121 x122 x123 x124 x125
def survey_line (N : Nat) (a0 : T_Edit) : Option ((List UInt8) × Bool) :=
  bif (a0.1 == 1) then
    bif a0.2.1.2 then
      Option.bind (survey_words N [112, 108, 97, 99, 101] [a0.2.1.1]) fun r1 =>
      bif decide (r1.length + ([32, 115, 117, 114, 102, 97, 99, 101] : List UInt8).length ≤ 9223372036854775807) then
      let v2 := r1 ++ ([32, 115, 117, 114, 102, 97, 99, 101] : List UInt8)
      bif ((0 == 0) && ((0 == 0) && ((false == false) && ((a0.2.2.1.1 == 0) && ((a0.2.2.1.2.1 == 0) && ((a0.2.2.1.2.2.1 == 0) && ((a0.2.2.1.2.2.2.1 == 0) && ((a0.2.2.1.2.2.2.2.1 == false) && ((a0.2.2.1.2.2.2.2.2.1 == false) && ((a0.2.2.1.2.2.2.2.2.2.1.1 == 0) && ((a0.2.2.1.2.2.2.2.2.2.1.2 == 0) && ((a0.2.2.1.2.2.2.2.2.2.2.1 == 0) && ((a0.2.2.1.2.2.2.2.2.2.2.2 == 0) && ((a0.2.2.2.1 == 0) && ((a0.2.2.2.2.1 == 0) && (a0.2.2.2.2.2 == 0)))))))))))))))) then
        Option.bind (survey_short N [a0.2.1.1]) fun r3 =>
        some (v2, r3)
      else
        some (v2, false)
      else none
    else
      Option.bind (survey_words N [112, 108, 97, 99, 101] [a0.2.1.1]) fun r4 =>
      bif decide (r4.length + ([32, 98, 101, 108, 111, 119] : List UInt8).length ≤ 9223372036854775807) then
      let v5 := r4 ++ ([32, 98, 101, 108, 111, 119] : List UInt8)
      bif ((0 == 0) && ((0 == 0) && ((false == false) && ((a0.2.2.1.1 == 0) && ((a0.2.2.1.2.1 == 0) && ((a0.2.2.1.2.2.1 == 0) && ((a0.2.2.1.2.2.2.1 == 0) && ((a0.2.2.1.2.2.2.2.1 == false) && ((a0.2.2.1.2.2.2.2.2.1 == false) && ((a0.2.2.1.2.2.2.2.2.2.1.1 == 0) && ((a0.2.2.1.2.2.2.2.2.2.1.2 == 0) && ((a0.2.2.1.2.2.2.2.2.2.2.1 == 0) && ((a0.2.2.1.2.2.2.2.2.2.2.2 == 0) && ((a0.2.2.2.1 == 0) && ((a0.2.2.2.2.1 == 0) && (a0.2.2.2.2.2 == 0)))))))))))))))) then
        Option.bind (survey_short N [a0.2.1.1]) fun r6 =>
        some (v5, r6)
      else
        some (v5, false)
      else none
  else
    bif (a0.1 == 2) then
      bif a0.2.2.1.2.2.2.2.1 then
        survey_line_J1 N [32, 119, 97, 108, 107] 0 a0.2.1.1 a0.2.1.2 0 0 0 0 false false 0 0 0 0 a0.2.2.2.1 a0.2.2.2.2.1 a0.2.2.2.2.2 a0.2.2.1.1 a0.2.2.1.2.1 a0.2.2.1.2.2.1 a0.2.2.1.2.2.2.1 a0.2.2.1.2.2.2.2.1 a0.2.2.1.2.2.2.2.2.1 a0.2.2.1.2.2.2.2.2.2.1.1 a0.2.2.1.2.2.2.2.2.2.1.2 a0.2.2.1.2.2.2.2.2.2.2.1 a0.2.2.1.2.2.2.2.2.2.2.2
      else
        survey_line_J1 N [32, 109, 97, 99, 104, 105, 110, 101] 0 a0.2.1.1 a0.2.1.2 0 0 0 0 false false 0 0 0 0 a0.2.2.2.1 a0.2.2.2.2.1 a0.2.2.2.2.2 a0.2.2.1.1 a0.2.2.1.2.1 a0.2.2.1.2.2.1 a0.2.2.1.2.2.2.1 a0.2.2.1.2.2.2.2.1 a0.2.2.1.2.2.2.2.2.1 a0.2.2.1.2.2.2.2.2.2.1.1 a0.2.2.1.2.2.2.2.2.2.1.2 a0.2.2.1.2.2.2.2.2.2.2.1 a0.2.2.1.2.2.2.2.2.2.2.2
    else
      bif (a0.1 == 3) then
        survey_line_J2 N a0.1 true a0.1 a0.2.1.1 a0.2.1.2 a0.2.2.1.1 a0.2.2.1.2.1 a0.2.2.1.2.2.1 a0.2.2.1.2.2.2.1 a0.2.2.1.2.2.2.2.1 a0.2.2.1.2.2.2.2.2.1 a0.2.2.1.2.2.2.2.2.2.1.1 a0.2.2.1.2.2.2.2.2.2.1.2 a0.2.2.1.2.2.2.2.2.2.2.1 a0.2.2.1.2.2.2.2.2.2.2.2 a0.2.2.2.1 a0.2.2.2.2.1 a0.2.2.2.2.2 0 a0.2.1.1 a0.2.1.2 a0.2.2.1.1 a0.2.2.1.2.1 a0.2.2.1.2.2.1 a0.2.2.1.2.2.2.1 a0.2.2.1.2.2.2.2.1 a0.2.2.1.2.2.2.2.2.1 a0.2.2.1.2.2.2.2.2.2.1.1 a0.2.2.1.2.2.2.2.2.2.1.2 a0.2.2.1.2.2.2.2.2.2.2.1 a0.2.2.1.2.2.2.2.2.2.2.2 a0.2.2.2.1 a0.2.2.2.2.1 a0.2.2.2.2.2
      else
        survey_line_J2 N a0.1 (a0.1 == 4) a0.1 a0.2.1.1 a0.2.1.2 a0.2.2.1.1 a0.2.2.1.2.1 a0.2.2.1.2.2.1 a0.2.2.1.2.2.2.1 a0.2.2.1.2.2.2.2.1 a0.2.2.1.2.2.2.2.2.1 a0.2.2.1.2.2.2.2.2.2.1.1 a0.2.2.1.2.2.2.2.2.2.1.2 a0.2.2.1.2.2.2.2.2.2.2.1 a0.2.2.1.2.2.2.2.2.2.2.2 a0.2.2.2.1 a0.2.2.2.2.1 a0.2.2.2.2.2 0 a0.2.1.1 a0.2.1.2 a0.2.2.1.1 a0.2.2.1.2.1 a0.2.2.1.2.2.1 a0.2.2.1.2.2.2.1 a0.2.2.1.2.2.2.2.1 a0.2.2.1.2.2.2.2.2.1 a0.2.2.1.2.2.2.2.2.2.1.1 a0.2.2.1.2.2.2.2.2.2.1.2 a0.2.2.1.2.2.2.2.2.2.2.1 a0.2.2.1.2.2.2.2.2.2.2.2 a0.2.2.2.1 a0.2.2.2.2.1 a0.2.2.2.2.2
theorem survey_line_fn : FnOK Tryd.prog 23 162 (fun _ : Nat => false) survey_line_C4.er [(.t 2), (.t 3)] := FnOK.mk' Tryd.func23 (by kernel_rfl) (by kernel_rfl) (by kernel_rfl) (by kernel_rfl) (by kernel_rfl)
theorem survey_line_envok (N : Nat) : EnvOK Tryd.prog (survey_line_E N) := .cons (pureE_ok (survey_words_pure N)) (.cons (pureE_ok (survey_short_pure N)) (.nil))
theorem survey_line_pure (N : Nat) : PureOK Tryd.prog 23 [G_Edit] [.str, .bool] (fun x => survey_line N x) := pureOK (N := N) mixed survey_line_fn (survey_line_envok N) (TC.noh_ok (by kernel_rfl)) rfl (fun x => by kernel_rfl)
/-! survey_Print -/
def survey_Print (N : Nat) (a0 : List T_Edit) : Option ((List UInt8) × Int) := printM (survey_line N) (survey_Sum N) (fun x => survey_words N x.1 x.2) a0
theorem survey_Print_pure (N : Nat) : PureOK Tryd.prog 12 [.list G_Edit] [.str, .int .i64] (fun x => survey_Print N x) := print_hand (survey_line_pure N) (survey_Sum_pure N) (survey_words_pure N)
/-! internal_stringslite_Cut -/
def internal_stringslite_Cut_C7 : TC := .ret
def internal_stringslite_Cut_C5 : TC := (.cond (.t 12) (.seq (.rg [⟨⟨some 13, (.mov (.t 0)), none⟩, {}⟩, ⟨⟨some 14, (.mov (.t 7)), none⟩, {}⟩, ⟨⟨some 15, (.sslc (.t 13) none (some (.t 14))), none⟩, {}⟩, ⟨⟨some 16, (.mov (.t 0)), none⟩, {}⟩, ⟨⟨some 17, (.mov (.t 7)), none⟩, {}⟩, ⟨⟨some 18, (.mov (.t 1)), none⟩, {}⟩, ⟨⟨some 19, (.lens (.t
  18)), none⟩, {}⟩, ⟨⟨some 20, (.bin .add (.t 17) (.t 19)), none⟩, {}⟩, ⟨⟨some 21, (.sslc (.t 16) (some (.t 20)) none), none⟩, {}⟩, ⟨⟨some 4, (.mov (.t 15)), none⟩, {}⟩, ⟨⟨some 5, (.mov (.t 21)), none⟩, {}⟩, ⟨⟨some 6, (.mov (.c (B true))), none⟩, {}⟩] (some [])) internal_stringslite_Cut_C7) .skip)
def internal_stringslite_Cut_C3 : TC := (.seq (.rg [⟨⟨some 11, (.mov (.t 7)), none⟩, {}⟩, ⟨⟨some 12, (.bin .geq (.t 11) (.c (I 0))), none⟩, {}⟩] none) internal_stringslite_Cut_C5)
def internal_stringslite_Cut_C6 : TC := .ret
def internal_stringslite_Cut_C4 : TC := (.seq (.rg [⟨⟨some 22, (.mov (.t 0)), none⟩, {}⟩, ⟨⟨some 4, (.mov (.t 22)), none⟩, {}⟩, ⟨⟨some 5, (.mov (.c (.v (.string ⟨⟨[]⟩⟩)))), none⟩, {}⟩, ⟨⟨some 6, (.mov (.c (B false))), none⟩, {}⟩] none) internal_stringslite_Cut_C6)
def internal_stringslite_Cut_C2 : TC := (.seq (.seq (.rg [⟨⟨some 8, (.mov (.t 0)), none⟩, {}⟩, ⟨⟨some 9, (.mov (.t 1)), none⟩, {}⟩, ⟨⟨some 10, (.call (.c (.fn 57 [])) [(.t 8), (.t 9)]), none⟩, {}⟩, ⟨⟨some 7, (.mov (.t 10)), none⟩, {}⟩] none) internal_stringslite_Cut_C3) internal_stringslite_Cut_C4)
def internal_stringslite_Cut_C1 : TC := (.seq (.rg [⟨⟨some 4, (.mov (.c (.v (.string ⟨⟨[]⟩⟩)))), none⟩, {}⟩, ⟨⟨some 5, (.mov (.c (.v (.string ⟨⟨[]⟩⟩)))), none⟩, {}⟩, ⟨⟨some 6, (.mov (.c (B false))), none⟩, {}⟩] none) internal_stringslite_Cut_C2)
def internal_stringslite_Cut_E (N : Nat) : List (Nat × Ent) := [(57, pureE [.str, .str] [(.int .i64)] (fun x => internal_stringslite_Index N x.1 x.2))]
def internal_stringslite_Cut (N : Nat) (a0 : List UInt8) (a1 : List UInt8) : Option ((List UInt8) × (List UInt8) × Bool) :=
  Option.bind (internal_stringslite_Index N a0 a1) fun r1 =>
  bif (decide (r1 ≥ 0)) then
    bif slB 0 r1 a0.length then
    let v3 := W (r1 + (a1.length : Int))
    bif slB v3 a0.length a0.length then
    some ((a0.take r1.toNat), (a0.drop v3.toNat), true)
    else none
    else none
  else
    some (a0, [], false)
theorem internal_stringslite_Cut_fn : FnOK Tryd.prog 45 23 (fun _ : Nat => false) internal_stringslite_Cut_C1.er [(.t 4), (.t 5), (.t 6)] := FnOK.mk' Tryd.func45 (by kernel_rfl) (by kernel_rfl) (by kernel_rfl) (by kernel_rfl) (by kernel_rfl)
theorem internal_stringslite_Cut_envok (N : Nat) : EnvOK Tryd.prog (internal_stringslite_Cut_E N) := .cons (pureE_ok (internal_stringslite_Index_pure N)) (.nil)
theorem internal_stringslite_Cut_pure (N : Nat) : PureOK Tryd.prog 45 [.str, .str] [.str, .str, .bool] (fun x => internal_stringslite_Cut N x.1 x.2) := pureOK (N := N) mixed internal_stringslite_Cut_fn (internal_stringslite_Cut_envok N) (TC.noh_ok (by kernel_rfl)) rfl (fun x => by kernel_rfl)
/-! strings_Cut -/
def strings_Cut_C3 : TC := .ret
def strings_Cut_C2 : TC := (.seq (.rg [⟨⟨some 7, (.mov (.t 0)), none⟩, {}⟩, ⟨⟨some 8, (.mov (.t 1)), none⟩, {}⟩, ⟨⟨some 9, (.call (.c (.fn 45 [])) [(.t 7), (.t 8)]), none⟩, {}⟩, ⟨⟨some 10, (.extr 0 (.t 9)), none⟩, {}⟩, ⟨⟨some 11, (.extr 1 (.t 9)), none⟩, {}⟩, ⟨⟨some 12, (.extr 2 (.t 9)), none⟩, {}⟩, ⟨⟨some 4, (.mov (.t 10)),
  none⟩, {}⟩, ⟨⟨some 5, (.mov (.t 11)), none⟩, {}⟩, ⟨⟨some 6, (.mov (.t 12)), none⟩, {}⟩] none) strings_Cut_C3)
def strings_Cut_C1 : TC := (.seq (.rg [⟨⟨some 4, (.mov (.c (.v (.string ⟨⟨[]⟩⟩)))), none⟩, {}⟩, ⟨⟨some 5, (.mov (.c (.v (.string ⟨⟨[]⟩⟩)))), none⟩, {}⟩, ⟨⟨some 6, (.mov (.c (B false))), none⟩, {}⟩] none) strings_Cut_C2)
def strings_Cut_E (N : Nat) : List (Nat × Ent) := [(45, pureE [.str, .str] [.str, .str, .bool] (fun x => internal_stringslite_Cut N x.1 x.2))]
def strings_Cut (N : Nat) (a0 : List UInt8) (a1 : List UInt8) : Option ((List UInt8) × (List UInt8) × Bool) :=
  Option.bind (internal_stringslite_Cut N a0 a1) fun r1 =>
  some (r1.1, r1.2.1, r1.2.2)
theorem strings_Cut_fn : FnOK Tryd.prog 31 13 (fun _ : Nat => false) strings_Cut_C1.er [(.t 4), (.t 5), (.t 6)] := FnOK.mk' Tryd.func31 (by kernel_rfl) (by kernel_rfl) (by kernel_rfl) (by kernel_rfl) (by kernel_rfl)
theorem strings_Cut_envok (N : Nat) : EnvOK Tryd.prog (strings_Cut_E N) := .cons (pureE_ok (internal_stringslite_Cut_pure N)) (.nil)
theorem strings_Cut_pure (N : Nat) : PureOK Tryd.prog 31 [.str, .str] [.str, .str, .bool] (fun x => strings_Cut N x.1 x.2) := pureOK (N := N) mixed strings_Cut_fn (strings_Cut_envok N) (TC.noh_ok (by kernel_rfl)) rfl (fun x => by kernel_rfl)
/-! strings_Index -/
def strings_Index (N : Nat) (a0 : List UInt8) (a1 : List UInt8) : Option Int :=
  Option.bind (internal_stringslite_Index N a0 a1) fun r1 =>
  some r1
/-! unicode_utf8_decodeRuneInStringSlow -/
/-! unicode_utf8_DecodeRuneInString -/
/-! survey_number -/
def survey_number_N1 : List NS := [.keep [0, 4, 5, 6], .cmp]
def survey_number_C5 : TC := (.cond (.t 29) .skip (.exit 0))
def survey_number_C17 : TC := .ret
def survey_number_C11 : TC := (.cond (.t 41) (.seq (.rg [⟨⟨some 2, (.mov (.c (I 0))), none⟩, {}⟩, ⟨⟨some 3, (.mov (.c (B false))), none⟩, {}⟩] none) survey_number_C17) .skip)
def survey_number_C12 : TC := (.rg [⟨⟨some 42, (.mov (.t 5)), none⟩, {}⟩, ⟨⟨some 43, (.bin .mul (.t 42) (.c (I 10))), none⟩, {}⟩, ⟨⟨some 44, (.mov (.t 4)), none⟩, {}⟩, ⟨⟨some 45, (.mov (.t 6)), none⟩, {}⟩, ⟨⟨some 46, (.sidx (.t 44) (.t 45)), none⟩, {}⟩, ⟨⟨some 47, (.bin .sub (.t 46) (.c (.v (.int .u8 48)))), none⟩, {}⟩, ⟨⟨some
  48, (.conv .i64 (.t 47)), none⟩, {}⟩, ⟨⟨some 49, (.bin .add (.t 43) (.t 48)), none⟩, {}⟩, ⟨⟨some 5, (.mov (.t 49)), none⟩, {}⟩] none)
def survey_number_C13 : TC := (.rg [⟨⟨some 30, (.mov (.t 6)), none⟩, {}⟩, ⟨⟨some 31, (.bin .add (.t 30) (.c (I 1))), none⟩, {}⟩, ⟨⟨some 6, (.mov (.t 31)), none⟩, {}⟩] none)
def survey_number_C6 : TC := (.seq (.block 1 (.seq (.seq (.rg [⟨⟨some 32, (.mov (.t 4)), none⟩, {}⟩, ⟨⟨some 33, (.mov (.t 6)), none⟩, {}⟩, ⟨⟨some 34, (.sidx (.t 32) (.t 33)), none⟩, {}⟩, ⟨⟨some 35, (.bin .lss (.t 34) (.c (.v (.int .u8 48)))), none⟩, {}⟩, ⟨⟨some 36, (.mov (.t 35)), none⟩, {}⟩, ⟨⟨some 37, (.mov (.t 4)), some (36,
  false)⟩, {}⟩, ⟨⟨some 38, (.mov (.t 6)), some (36, false)⟩, {}⟩, ⟨⟨some 39, (.sidx (.t 37) (.t 38)), some (36, false)⟩, {}⟩, ⟨⟨some 40, (.bin .gtr (.t 39) (.c (.v (.int .u8 57)))), some (36, false)⟩, {}⟩, ⟨⟨some 41, (.pick (.t 36) (.c (B true)) (.t 40)), none⟩, {}⟩] none) survey_number_C11)
  survey_number_C12)) survey_number_C13)
def survey_number_C1 : TC := (.seq (.seq (.rg [⟨⟨some 26, (.mov (.t 6)), none⟩, {}⟩, ⟨⟨some 27, (.mov (.t 4)), none⟩, {}⟩, ⟨⟨some 28, (.lens (.t 27)), none⟩, {}⟩, ⟨⟨some 29, (.bin .lss (.t 26) (.t 28)), none⟩, {}⟩] none) survey_number_C5) survey_number_C6)
def survey_number_C7 : TC := (.cond (.t 54) (.rg [⟨⟨some 55, (.mov (.t 5)), none⟩, {}⟩, ⟨⟨some 56, (.un .neg (.t 55)), none⟩, {}⟩, ⟨⟨some 5, (.mov (.t 56)), none⟩, {}⟩] none) .skip)
def survey_number_C14 : TC := .ret
def survey_number_C8 : TC := (.seq (.rg [⟨⟨some 57, (.mov (.t 5)), none⟩, {}⟩, ⟨⟨some 2, (.mov (.t 57)), none⟩, {}⟩, ⟨⟨some 3, (.mov (.c (B true))), none⟩, {}⟩] none) survey_number_C14)
def survey_number_C2 : TC := (.seq (.seq (.rg [⟨⟨some 50, (.mov (.t 4)), none⟩, {}⟩, ⟨⟨some 51, (.lens (.t 50)), none⟩, {}⟩, ⟨⟨some 52, (.mov (.t 0)), none⟩, {}⟩, ⟨⟨some 53, (.lens (.t 52)), none⟩, {}⟩, ⟨⟨some 54, (.bin .lss (.t 51) (.t 53)), none⟩, {}⟩] none) survey_number_C7) survey_number_C8)
def survey_number_C15 : TC := (.block 0 (.loop survey_number_N1 survey_number_C1))
def survey_number_C9 : TC := (.seq (.seq (.rg [⟨⟨some 6, (.mov (.c (I 0))), none⟩, {}⟩] none) survey_number_C15) survey_number_C2)
def survey_number_C3 : TC := (.seq (.rg [⟨⟨some 5, (.mov (.c (I 0))), none⟩, {}⟩] none) survey_number_C9)
def survey_number_C20 : TC := .ret
def survey_number_C18 : TC := (.cond (.t 25) (.seq (.rg [⟨⟨some 2, (.mov (.c (I 0))), none⟩, {}⟩, ⟨⟨some 3, (.mov (.c (B false))), none⟩, {}⟩] none) survey_number_C20) .skip)
def survey_number_C19 : TC := (.join [.keep [0, 4], .cmp] survey_number_C3)
def survey_number_C16 : TC := (.seq (.seq (.rg [⟨⟨some 9, (.mov (.t 4)), none⟩, {}⟩, ⟨⟨some 10, (.lens (.t 9)), none⟩, {}⟩, ⟨⟨some 11, (.bin .lss (.t 10) (.c (I 1))), none⟩, {}⟩, ⟨⟨some 12, (.mov (.t 11)), none⟩, {}⟩, ⟨⟨some 13, (.mov (.t 4)), some (12, false)⟩, {}⟩, ⟨⟨some 14, (.lens (.t 13)), some (12, false)⟩, {}⟩, ⟨⟨some 15,
  (.bin .gtr (.t 14) (.c (I 18))), some (12, false)⟩, {}⟩, ⟨⟨some 16, (.pick (.t 12) (.c (B true)) (.t 15)), none⟩, {}⟩, ⟨⟨some 17, (.mov (.t 16)), none⟩, {}⟩, ⟨⟨some 18, (.mov (.t 4)), some (17, false)⟩, {}⟩, ⟨⟨some 19, (.sidx (.t 18) (.c (I 0))), some (17, false)⟩, {}⟩, ⟨⟨some 20, (.bin .eql (.t
  19) (.c (.v (.int .u8 48)))), some (17, false)⟩, {}⟩, ⟨⟨some 21, (.mov (.t 20)), some (17, false)⟩, {}⟩, ⟨⟨some 22, (.mov (.t 0)), some (21, true)⟩, {}⟩, ⟨⟨some 23, (.bin .neq (.t 22) (.c (.v (.string ⟨⟨[48]⟩⟩)))), some (21, true)⟩, {}⟩, ⟨⟨some 24, (.pick (.t 21) (.t 23) (.c (B false))), some (17,
  false)⟩, {}⟩, ⟨⟨some 25, (.pick (.t 17) (.c (B true)) (.t 24)), none⟩, {}⟩] none) survey_number_C18) survey_number_C19)
def survey_number_C10 : TC := (.seq (.rg [⟨⟨some 7, (.mov (.t 0)), none⟩, {}⟩, ⟨⟨some 8, (.call (.c (.fn 60 [])) [(.t 7), (.c (.v (.string ⟨⟨[45]⟩⟩)))]), none⟩, {}⟩, ⟨⟨some 4, (.mov (.t 8)), none⟩, {}⟩] none) survey_number_C16)
def survey_number_C4 : TC := (.seq (.rg [⟨⟨some 2, (.mov (.c (I 0))), none⟩, {}⟩, ⟨⟨some 3, (.mov (.c (B false))), none⟩, {}⟩] none) survey_number_C10)
def survey_number_E (N : Nat) : List (Nat × Ent) := [(60, pureE [.str, .str] [.str] (fun x => strings_TrimPrefix N x.1 x.2))]
def survey_number_L1 (N : Nat) (n : Nat) (x5 : List UInt8) (x6 : List UInt8) (x7 : Int) (x8 : Int) : Option (Int × Bool) := loopN (normI 0 survey_number_N1) (run (survey_number_E N) N 0 survey_number_C1) n ⟨[(0, .str x5), (4, .str x6), (5, .int .i64 x7), (6, .int .i64 x8)], []⟩ (blkK 0 (seqK (run (survey_number_E N) N 0 survey_number_C2) (fin [(.t 2), (.t 3)] [(.int .i64), .bool])))
def survey_number_J1 (N : Nat) (x3 : List UInt8) (x4 : List UInt8) : Option (Int × Bool) := joinN (run (survey_number_E N) N 0 survey_number_C3) N ⟨[(0, .str x3), (4, .str x4)], []⟩ (fin [(.t 2), (.t 3)] [(.int .i64), .bool])
theorem survey_number_L1_succ (N : Nat) (n1 : Nat) (x5 : List UInt8) (x6 : List UInt8) (x7 : Int) (x8 : Int) : survey_number_L1 N (n1 + 1) x5 x6 x7 x8 =
  bif (decide (x8 < (x6.length : Int))) then
    bif inB x8 x6.length then
    bif (decide (((x6.getD x8.toNat 0).toNat : Int) < 48)) then
      some (0, false)
    else
      bif inB x8 x6.length then
      bif (decide (((x6.getD x8.toNat 0).toNat : Int) > 57)) then
        some (0, false)
      else
        bif inB x8 x6.length then
        survey_number_L1 N n1 x5 x6 (W ((W (x7 * 10)) + (W (IntKind.u8.wrap (((x6.getD x8.toNat 0).toNat : Int) - 48))))) (W (x8 + 1))
        else none
      else none
    else none
  else
    bif (decide ((x6.length : Int) < (x5.length : Int))) then
      some (W (0 - x7), true)
    else
      some (x7, true) := by kernel_rfl
theorem survey_number_J1_eqM (N : Nat) (JM : Nat) (x3 : List UInt8) (x4 : List UInt8) : joinN (run (survey_number_E N) N 0 survey_number_C3) (JM + 1) ⟨[(0, .str x3), (4, .str x4)], []⟩ (fin [(.t 2), (.t 3)] [(.int .i64), .bool]) =
  survey_number_L1 N N x3 x4 0 0 := by kernel_rfl
theorem survey_number_J1_eq (N : Nat) (x3 : List UInt8) (x4 : List UInt8) : survey_number_J1 (N + 1) x3 x4 =
  survey_number_L1 (N + 1) (N + 1) x3 x4 0 0 := survey_number_J1_eqM (N + 1) N x3 x4
def survey_number (N : Nat) (a0 : List UInt8) : Option (Int × Bool) :=
  Option.bind (strings_TrimPrefix N a0 [45]) fun r1 =>
  bif (decide ((r1.length : Int) < 1)) then
    some (0, false)
  else
    bif (decide ((r1.length : Int) > 18)) then
      some (0, false)
    else
      bif inB 0 r1.length then
      bif (((r1.getD (0 : Int).toNat 0).toNat : Int) == 48) then
        bif (!(a0 == ([48] : List UInt8))) then
          some (0, false)
        else
          survey_number_J1 N a0 r1
      else
        survey_number_J1 N a0 r1
      else none
theorem survey_number_fn : FnOK Tryd.prog 47 58 (fun _ : Nat => false) survey_number_C4.er [(.t 2), (.t 3)] := FnOK.mk' Tryd.func47 (by kernel_rfl) (by kernel_rfl) (by kernel_rfl) (by kernel_rfl) (by kernel_rfl)
theorem survey_number_envok (N : Nat) : EnvOK Tryd.prog (survey_number_E N) := .cons (pureE_ok (strings_TrimPrefix_pure N)) (.nil)
theorem survey_number_pure (N : Nat) : PureOK Tryd.prog 47 [.str] [(.int .i64), .bool] (fun x => survey_number N x) := pureOK (N := N) mixed survey_number_fn (survey_number_envok N) (TC.noh_ok (by kernel_rfl)) rfl (fun x => by kernel_rfl)
/-! survey_numbers -/
def survey_numbers_N1 : List NS := [.own 6 (.int .i64), .wk 15 (.list .str), .keep [6, 15, 16, 17], .cmp]
def survey_numbers_C22 : TC := .ret
def survey_numbers_C21 : TC := (.pre [.frz 4] survey_numbers_C22)
def survey_numbers_C19 : TC := (.cond (.t 27) (.seq (.rg [⟨⟨some 4, (.mov (.c (.lst true []))), none⟩, {}⟩, ⟨⟨some 5, (.mov (.c (B false))), none⟩, {}⟩] none) survey_numbers_C21) .skip)
def survey_numbers_C20 : TC := (.rg [⟨⟨some 28, (.mov (.t 6)), none⟩, {}⟩, ⟨⟨some 29, (.mov (.t 9)), none⟩, {}⟩, ⟨⟨some 30, (.bslice false 1 [(I 0)] 1 [(0, (.t 29))]), none⟩, ⟨(.int .i64), none, []⟩⟩, ⟨⟨some 31, (.app 1 8 (.t 28) (.t 30)), none⟩, {}⟩, ⟨⟨some 6, (.mov (.t 31)), none⟩, {}⟩] none)
def survey_numbers_C16 : TC := (.seq (.seq (.rg [⟨⟨some 26, (.mov (.t 10)), none⟩, {}⟩, ⟨⟨some 27, (.un .not (.t 26)), none⟩, {}⟩] none) survey_numbers_C19) survey_numbers_C20)
def survey_numbers_C11 : TC := (.seq (.rg [⟨⟨some 22, (.mov (.t 8)), none⟩, {}⟩, ⟨⟨some 23, (.call (.c (.fn 47 [])) [(.t 22)]), none⟩, {}⟩, ⟨⟨some 21, (.mov (.t 23)), none⟩, {}⟩, ⟨⟨some 24, (.extr 0 (.t 21)), none⟩, {}⟩, ⟨⟨some 25, (.extr 1 (.t 21)), none⟩, {}⟩, ⟨⟨some 9, (.mov (.t 24)), none⟩, {}⟩, ⟨⟨some 10, (.mov (.t 25)),
  none⟩, {}⟩] none) survey_numbers_C16)
def survey_numbers_C12 : TC := (.rg [⟨⟨some 32, (.bin .add (.t 17) (.c (I 1))), none⟩, {}⟩, ⟨⟨some 17, (.mov (.t 32)), none⟩, {}⟩] none)
def survey_numbers_C7 : TC := (.seq (.block 1 (.seq (.rg [⟨⟨some 19, (.iadrS 1 (.t 15) (.t 17)), none⟩, {}⟩, ⟨⟨some 20, (.load false 1 (.t 19)), none⟩, {}⟩, ⟨⟨some 8, (.mov (.t 20)), none⟩, {}⟩] none) survey_numbers_C11)) survey_numbers_C12)
def survey_numbers_C4 : TC := (.seq (.cond (.t 18) .skip (.exit 0)) survey_numbers_C7)
def survey_numbers_C1 : TC := (.seq (.rg [⟨⟨some 18, (.bin .lss (.t 17) (.t 16)), none⟩, {}⟩] none) survey_numbers_C4)
def survey_numbers_C13 : TC := .ret
def survey_numbers_C8 : TC := (.pre [.frz 4] survey_numbers_C13)
def survey_numbers_C5 : TC := (.seq (.rg [⟨⟨some 33, (.mov (.t 6)), none⟩, {}⟩, ⟨⟨some 4, (.mov (.t 33)), none⟩, {}⟩, ⟨⟨some 5, (.mov (.c (B true))), none⟩, {}⟩] none) survey_numbers_C8)
def survey_numbers_C2 : TC := (.pre [.frz 6] survey_numbers_C5)
def survey_numbers_C17 : TC := .ret
def survey_numbers_C14 : TC := (.pre [.frz 4] survey_numbers_C17)
def survey_numbers_C9 : TC := (.cond (.t 14) (.seq (.rg [⟨⟨some 4, (.mov (.c (.lst true []))), none⟩, {}⟩, ⟨⟨some 5, (.mov (.c (B false))), none⟩, {}⟩] none) survey_numbers_C14) .skip)
def survey_numbers_C18 : TC := (.block 0 (.loop survey_numbers_N1 survey_numbers_C1))
def survey_numbers_C15 : TC := (.seq (.seq (.rg [⟨⟨some 15, (.mov (.t 0)), none⟩, {}⟩, ⟨⟨some 16, (.len (.t 15)), none⟩, {}⟩, ⟨⟨some 17, (.mov (.c (I 0))), none⟩, {}⟩] none) survey_numbers_C18) survey_numbers_C2)
def survey_numbers_C10 : TC := (.seq (.rg [⟨⟨some 6, (.mov (.c (.lst true []))), none⟩, {}⟩] none) survey_numbers_C15)
def survey_numbers_C6 : TC := (.seq (.seq (.rg [⟨⟨some 11, (.mov (.t 0)), none⟩, {}⟩, ⟨⟨some 12, (.len (.t 11)), none⟩, {}⟩, ⟨⟨some 13, (.mov (.t 1)), none⟩, {}⟩, ⟨⟨some 14, (.bin .neq (.t 12) (.t 13)), none⟩, {}⟩] none) survey_numbers_C9) survey_numbers_C10)
def survey_numbers_C3 : TC := (.seq (.rg [⟨⟨some 4, (.mov (.c (.lst true []))), none⟩, {}⟩, ⟨⟨some 5, (.mov (.c (B false))), none⟩, {}⟩] none) survey_numbers_C6)
def survey_numbers_E (N : Nat) : List (Nat × Ent) := [(47, pureE [.str] [(.int .i64), .bool] (fun x => survey_number N x))]
def survey_numbers_L1 (N : Nat) (n : Nat) (x1 : List (List UInt8)) (x2 : Int) (x3 : Int) (x4 : List Int) : Option ((List Int) × Bool) := loopN (normI 0 survey_numbers_N1) (run (survey_numbers_E N) N 0 survey_numbers_C1) n ⟨[(6, .whole 0), (15, .lst false .str x1), (16, .int .i64 x2), (17, .int .i64 x3)], [some (.arr (.int .i64) x4)]⟩ (blkK 0 (seqK (run (survey_numbers_E N) N 0 survey_numbers_C2) (fin [(.t 4), (.t 5)] [(.list (.int .i64)), .bool])))
theorem survey_numbers_L1_succ (N : Nat) (n1 : Nat) (x1 : List (List UInt8)) (x2 : Int) (x3 : Int) (x4 : List Int) : survey_numbers_L1 N (n1 + 1) x1 x2 x3 x4 =
  bif (decide (x3 < x2)) then
    bif inB x3 x1.length then
    Option.bind (survey_number N (x1.getD x3.toNat [])) fun r5 =>
    bif (!r5.2) then
      some ([], false)
    else
      bif fitsB (x4.length + 1) 8 then
      survey_numbers_L1 N n1 x1 x2 (W (x3 + 1)) (x4 ++ [r5.1])
      else none
    else none
  else
    some (x4, true) := by kernel_rfl
def survey_numbers (N : Nat) (a0 : List (List UInt8)) (a1 : Int) : Option ((List Int) × Bool) :=
  bif ((a0.length : Int) != a1) then
    some ([], false)
  else
    survey_numbers_L1 N N a0 (a0.length : Int) 0 []
theorem survey_numbers_fn : FnOK Tryd.prog 33 34 (fun _ : Nat => false) survey_numbers_C3.er [(.t 4), (.t 5)] := FnOK.mk' Tryd.func33 (by kernel_rfl) (by kernel_rfl) (by kernel_rfl) (by kernel_rfl) (by kernel_rfl)
theorem survey_numbers_envok (N : Nat) : EnvOK Tryd.prog (survey_numbers_E N) := .cons (pureE_ok (survey_number_pure N)) (.nil)
theorem survey_numbers_pure (N : Nat) : PureOK Tryd.prog 33 [(.list .str), (.int .i64)] [(.list (.int .i64)), .bool] (fun x => survey_numbers N x.1 x.2) := pureOK (N := N) mixed survey_numbers_fn (survey_numbers_envok N) (TC.noh_ok (by kernel_rfl)) rfl (fun x => by kernel_rfl)
/-! survey_read -/
def survey_read_C23 : TC := .ret
def survey_read_C16 : TC := (.cond (.t 91) (.seq (.rg [⟨⟨some 92, (.build [(I 0), (I 0), (B false), (I 0), (I 0), (I 0), (I 0), (B false), (B false), (I 0), (I 0), (I 0), (I 0), (I 0), (I 0), (I 0)] []), none⟩, {}⟩, ⟨⟨none, (.store 16 (.t 2) (.t 92)), none⟩, {}⟩, ⟨⟨some 3, (.mov (.c (B false))), none⟩, {}⟩] none)
  survey_read_C23) .skip)
def survey_read_C30 : TC := .ret
def survey_read_C24 : TC := (.seq (.rg [⟨⟨some 124, (.load true 10 (.t 11)), none⟩, {}⟩, ⟨⟨some 125, (.build [(I 0), (I 0), (B false), (I 0), (I 0), (I 0), (I 0), (B false), (B false), (I 0), (I 0), (I 0), (I 0), (I 0), (I 0), (I 0)] [(0, (1, (.c (I 2)))), (3, (10, (.t 124)))]), none⟩, {}⟩, ⟨⟨none, (.store 16 (.t 2) (.t 125)),
  none⟩, {}⟩, ⟨⟨some 3, (.mov (.c (B true))), none⟩, {}⟩] none) survey_read_C30)
def survey_read_C17 : TC := (.seq (.pre [.wait] (.rg [⟨⟨some 93, (.mov (.t 7)), none⟩, {}⟩, ⟨⟨some 94, (.iadrS 1 (.t 93) (.c (I 0))), none⟩, {}⟩, ⟨⟨some 95, (.load false 1 (.t 94)), none⟩, {}⟩, ⟨⟨some 96, (.mov (.t 7)), none⟩, {}⟩, ⟨⟨some 97, (.iadrS 1 (.t 96) (.c (I 1))), none⟩, {}⟩, ⟨⟨some 98, (.load false 1 (.t 97)), none⟩,
  {}⟩, ⟨⟨some 99, (.mov (.t 7)), none⟩, {}⟩, ⟨⟨some 100, (.iadrS 1 (.t 99) (.c (I 2))), none⟩, {}⟩, ⟨⟨some 101, (.load false 1 (.t 100)), none⟩, {}⟩, ⟨⟨some 102, (.mov (.t 7)), none⟩, {}⟩, ⟨⟨some 103, (.iadrS 1 (.t 102) (.c (I 3))), none⟩, {}⟩, ⟨⟨some 104, (.load false 1 (.t 103)), none⟩, {}⟩, ⟨⟨some
  105, (.mov (.t 4)), none⟩, {}⟩, ⟨⟨some 106, (.iadrS 1 (.t 105) (.c (I 5))), none⟩, {}⟩, ⟨⟨some 107, (.load false 1 (.t 106)), none⟩, {}⟩, ⟨⟨some 108, (.bin .eql (.t 107) (.c (.v (.string ⟨⟨[119, 97, 108, 107]⟩⟩)))), none⟩, {}⟩, ⟨⟨some 109, (.mov (.t 9)), none⟩, {}⟩, ⟨⟨some 110, (.iadrS 1 (.t 109)
  (.c (I 0))), none⟩, {}⟩, ⟨⟨some 111, (.load false 1 (.t 110)), none⟩, {}⟩, ⟨⟨some 112, (.mov (.t 9)), none⟩, {}⟩, ⟨⟨some 113, (.iadrS 1 (.t 112) (.c (I 1))), none⟩, {}⟩, ⟨⟨some 114, (.load false 1 (.t 113)), none⟩, {}⟩, ⟨⟨some 115, (.build [(I 0), (I 0)] [(0, (1, (.t 111))), (1, (1, (.t 114)))]),
  none⟩, {}⟩, ⟨⟨some 116, (.mov (.t 9)), none⟩, {}⟩, ⟨⟨some 117, (.iadrS 1 (.t 116) (.c (I 2))), none⟩, {}⟩, ⟨⟨some 118, (.load false 1 (.t 117)), none⟩, {}⟩, ⟨⟨some 119, (.mov (.t 9)), none⟩, {}⟩, ⟨⟨some 120, (.iadrS 1 (.t 119) (.c (I 3))), none⟩, {}⟩, ⟨⟨some 121, (.load false 1 (.t 120)), none⟩,
  {}⟩, ⟨⟨some 122, (.build [(I 0), (I 0)] [(0, (1, (.t 118))), (1, (1, (.t 121)))]), none⟩, {}⟩, ⟨⟨some 123, (.build [(I 0), (I 0), (I 0), (I 0), (B false), (B false), (I 0), (I 0), (I 0), (I 0)] [(0, (1, (.t 95))), (1, (1, (.t 98))), (2, (1, (.t 101))), (3, (1, (.t 104))), (4, (1, (.t 108))), (6,
  (2, (.t 115))), (8, (2, (.t 122)))]), none⟩, {}⟩, ⟨⟨some 11, (.alloc [(I 0), (I 0), (I 0), (I 0), (B false), (B false), (I 0), (I 0), (I 0), (I 0)]), none⟩, ⟨.unit, some 1, []⟩⟩, ⟨⟨none, (.store 10 (.t 11) (.t 123)), none⟩, {}⟩] (some [(1, 31), (2, 31), (4, 31), (5, 31), (7, 31), (8, 31), (10, 31),
  (11, 31), (13, 31), (14, 31), (17, 31), (18, 31), (20, 31), (21, 31), (24, 31), (25, 31), (27, 31), (28, 31)]))) survey_read_C24)
def survey_read_C11 : TC := (.seq (.seq (.rg [⟨⟨some 86, (.mov (.t 8)), none⟩, {}⟩, ⟨⟨some 87, (.un .not (.t 86)), none⟩, {}⟩, ⟨⟨some 88, (.mov (.t 87)), none⟩, {}⟩, ⟨⟨some 89, (.mov (.t 10)), some (88, false)⟩, {}⟩, ⟨⟨some 90, (.un .not (.t 89)), some (88, false)⟩, {}⟩, ⟨⟨some 91, (.pick (.t 88) (.c (B true)) (.t 90)), none⟩,
  {}⟩] none) survey_read_C16) survey_read_C17)
def survey_read_C5 : TC := (.seq (.rg [⟨⟨some 81, (.mov (.t 4)), none⟩, {}⟩, ⟨⟨some 82, (.slc 1 (.t 81) (some (.c (I 6))) none), none⟩, {}⟩, ⟨⟨some 83, (.call (.c (.fn 33 [])) [(.t 82), (.c (I 4))]), none⟩, {}⟩, ⟨⟨some 80, (.mov (.t 83)), none⟩, {}⟩, ⟨⟨some 84, (.extr 0 (.t 80)), none⟩, {}⟩, ⟨⟨some 85, (.extr 1 (.t 80)),
  none⟩, {}⟩, ⟨⟨some 9, (.mov (.t 84)), none⟩, {}⟩, ⟨⟨some 10, (.mov (.t 85)), none⟩, {}⟩] none) survey_read_C11)
def survey_read_C1 : TC := (.seq (.rg [⟨⟨some 75, (.mov (.t 4)), none⟩, {}⟩, ⟨⟨some 76, (.slc 1 (.t 75) (some (.c (I 1))) (some (.c (I 5)))), none⟩, {}⟩, ⟨⟨some 77, (.call (.c (.fn 33 [])) [(.t 76), (.c (I 4))]), none⟩, {}⟩, ⟨⟨some 74, (.mov (.t 77)), none⟩, {}⟩, ⟨⟨some 78, (.extr 0 (.t 74)), none⟩, {}⟩, ⟨⟨some 79, (.extr 1
  (.t 74)), none⟩, {}⟩, ⟨⟨some 7, (.mov (.t 78)), none⟩, {}⟩, ⟨⟨some 8, (.mov (.t 79)), none⟩, {}⟩] none) survey_read_C5)
def survey_read_C6 : TC := .ret
def survey_read_C2 : TC := (.seq (.rg [⟨⟨some 175, (.build [(I 0), (I 0), (B false), (I 0), (I 0), (I 0), (I 0), (B false), (B false), (I 0), (I 0), (I 0), (I 0), (I 0), (I 0), (I 0)] []), none⟩, {}⟩, ⟨⟨none, (.store 16 (.t 2) (.t 175)), none⟩, {}⟩, ⟨⟨some 3, (.mov (.c (B false))), none⟩, {}⟩] none) survey_read_C6)
def survey_read_C18 : TC := .ret
def survey_read_C12 : TC := (.cond (.t 136) (.seq (.rg [⟨⟨some 137, (.build [(I 0), (I 0), (B false), (I 0), (I 0), (I 0), (I 0), (B false), (B false), (I 0), (I 0), (I 0), (I 0), (I 0), (I 0), (I 0)] []), none⟩, {}⟩, ⟨⟨none, (.store 16 (.t 2) (.t 137)), none⟩, {}⟩, ⟨⟨some 3, (.mov (.c (B false))), none⟩, {}⟩] none)
  survey_read_C18) .skip)
def survey_read_C25 : TC := (.cond (.t 141) (.rg [⟨⟨some 14, (.mov (.c (I 3))), none⟩, {}⟩] none) .skip)
def survey_read_C31 : TC := .ret
def survey_read_C26 : TC := (.seq (.rg [⟨⟨some 142, (.mov (.t 14)), none⟩, {}⟩, ⟨⟨some 143, (.mov (.t 12)), none⟩, {}⟩, ⟨⟨some 144, (.iadrS 1 (.t 143) (.c (I 0))), none⟩, {}⟩, ⟨⟨some 145, (.load false 1 (.t 144)), none⟩, {}⟩, ⟨⟨some 146, (.build [(I 0), (I 0), (B false), (I 0), (I 0), (I 0), (I 0), (B false), (B false), (I 0),
  (I 0), (I 0), (I 0), (I 0), (I 0), (I 0)] [(0, (1, (.t 142))), (13, (1, (.t 145)))]), none⟩, {}⟩, ⟨⟨none, (.store 16 (.t 2) (.t 146)), none⟩, {}⟩, ⟨⟨some 3, (.mov (.c (B true))), none⟩, {}⟩] none) survey_read_C31)
def survey_read_C19 : TC := (.seq (.seq (.rg [⟨⟨some 138, (.mov (.t 4)), none⟩, {}⟩, ⟨⟨some 139, (.iadrS 1 (.t 138) (.c (I 0))), none⟩, {}⟩, ⟨⟨some 140, (.load false 1 (.t 139)), none⟩, {}⟩, ⟨⟨some 141, (.bin .eql (.t 140) (.c (.v (.string ⟨⟨[99, 108, 111, 115, 101]⟩⟩)))), none⟩, {}⟩] none) survey_read_C25) survey_read_C26)
def survey_read_C13 : TC := (.seq (.rg [⟨⟨some 14, (.mov (.c (I 4))), none⟩, {}⟩] none) survey_read_C19)
def survey_read_C7 : TC := (.seq (.seq (.rg [⟨⟨some 135, (.mov (.t 13)), none⟩, {}⟩, ⟨⟨some 136, (.un .not (.t 135)), none⟩, {}⟩] none) survey_read_C12) survey_read_C13)
def survey_read_C8 : TC := (.cond (.t 147) .skip (.rg [⟨⟨some 149, (.bin .eql (.t 22) (.c (.v (.string ⟨⟨[108, 105, 102, 116]⟩⟩)))), none⟩, {}⟩, ⟨⟨some 147, (.mov (.t 149)), none⟩, {}⟩] none))
def survey_read_C27 : TC := .ret
def survey_read_C20 : TC := (.cond (.t 157) (.seq (.rg [⟨⟨some 158, (.build [(I 0), (I 0), (B false), (I 0), (I 0), (I 0), (I 0), (B false), (B false), (I 0), (I 0), (I 0), (I 0), (I 0), (I 0), (I 0)] []), none⟩, {}⟩, ⟨⟨none, (.store 16 (.t 2) (.t 158)), none⟩, {}⟩, ⟨⟨some 3, (.mov (.c (B false))), none⟩, {}⟩] none)
  survey_read_C27) .skip)
def survey_read_C32 : TC := (.cond (.t 162) (.rg [⟨⟨some 17, (.mov (.c (I 6))), none⟩, {}⟩] none) .skip)
def survey_read_C37 : TC := .ret
def survey_read_C33 : TC := (.seq (.rg [⟨⟨some 163, (.mov (.t 17)), none⟩, {}⟩, ⟨⟨some 164, (.mov (.t 15)), none⟩, {}⟩, ⟨⟨some 165, (.iadrS 1 (.t 164) (.c (I 0))), none⟩, {}⟩, ⟨⟨some 166, (.load false 1 (.t 165)), none⟩, {}⟩, ⟨⟨some 167, (.mov (.t 15)), none⟩, {}⟩, ⟨⟨some 168, (.iadrS 1 (.t 167) (.c (I 1))), none⟩, {}⟩, ⟨⟨some
  169, (.load false 1 (.t 168)), none⟩, {}⟩, ⟨⟨some 170, (.mov (.t 15)), none⟩, {}⟩, ⟨⟨some 171, (.iadrS 1 (.t 170) (.c (I 2))), none⟩, {}⟩, ⟨⟨some 172, (.load false 1 (.t 171)), none⟩, {}⟩, ⟨⟨some 173, (.build [(I 0), (I 0)] [(0, (1, (.t 169))), (1, (1, (.t 172)))]), none⟩, {}⟩, ⟨⟨some 174, (.build
  [(I 0), (I 0), (B false), (I 0), (I 0), (I 0), (I 0), (B false), (B false), (I 0), (I 0), (I 0), (I 0), (I 0), (I 0), (I 0)] [(0, (1, (.t 163))), (13, (1, (.t 166))), (14, (2, (.t 173)))]), none⟩, {}⟩, ⟨⟨none, (.store 16 (.t 2) (.t 174)), none⟩, {}⟩, ⟨⟨some 3, (.mov (.c (B true))), none⟩, {}⟩]
  (some [])) survey_read_C37)
def survey_read_C28 : TC := (.seq (.seq (.rg [⟨⟨some 159, (.mov (.t 4)), none⟩, {}⟩, ⟨⟨some 160, (.iadrS 1 (.t 159) (.c (I 0))), none⟩, {}⟩, ⟨⟨some 161, (.load false 1 (.t 160)), none⟩, {}⟩, ⟨⟨some 162, (.bin .eql (.t 161) (.c (.v (.string ⟨⟨[108, 105, 102, 116]⟩⟩)))), none⟩, {}⟩] none) survey_read_C32) survey_read_C33)
def survey_read_C21 : TC := (.seq (.rg [⟨⟨some 17, (.mov (.c (I 5))), none⟩, {}⟩] none) survey_read_C28)
def survey_read_C14 : TC := (.seq (.seq (.rg [⟨⟨some 156, (.mov (.t 16)), none⟩, {}⟩, ⟨⟨some 157, (.un .not (.t 156)), none⟩, {}⟩] none) survey_read_C20) survey_read_C21)
def survey_read_C9 : TC := (.cond (.t 147) (.seq (.rg [⟨⟨some 151, (.mov (.t 4)), none⟩, {}⟩, ⟨⟨some 152, (.slc 1 (.t 151) (some (.c (I 1))) none), none⟩, {}⟩, ⟨⟨some 153, (.call (.c (.fn 33 [])) [(.t 152), (.c (I 3))]), none⟩, {}⟩, ⟨⟨some 150, (.mov (.t 153)), none⟩, {}⟩, ⟨⟨some 154, (.extr 0 (.t 150)), none⟩, {}⟩, ⟨⟨some
  155, (.extr 1 (.t 150)), none⟩, {}⟩, ⟨⟨some 15, (.mov (.t 154)), none⟩, {}⟩, ⟨⟨some 16, (.mov (.t 155)), none⟩, {}⟩] none) survey_read_C14) .skip)
def survey_read_C3 : TC := (.cond (.t 126) (.seq (.rg [⟨⟨some 130, (.mov (.t 4)), none⟩, {}⟩, ⟨⟨some 131, (.slc 1 (.t 130) (some (.c (I 1))) none), none⟩, {}⟩, ⟨⟨some 132, (.call (.c (.fn 33 [])) [(.t 131), (.c (I 1))]), none⟩, {}⟩, ⟨⟨some 129, (.mov (.t 132)), none⟩, {}⟩, ⟨⟨some 133, (.extr 0 (.t 129)), none⟩, {}⟩, ⟨⟨some
  134, (.extr 1 (.t 129)), none⟩, {}⟩, ⟨⟨some 12, (.mov (.t 133)), none⟩, {}⟩, ⟨⟨some 13, (.mov (.t 134)), none⟩, {}⟩] none) survey_read_C7) (.seq (.seq (.rg [⟨⟨some 148, (.bin .eql (.t 22) (.c (.v (.string ⟨⟨[114, 101, 115, 116]⟩⟩)))), none⟩, {}⟩, ⟨⟨some 147, (.mov (.t 148)), none⟩, {}⟩] none)
  survey_read_C8) survey_read_C9))
def survey_read_C38 : TC := .ret
def survey_read_C34 : TC := (.cond (.t 39) (.seq (.rg [⟨⟨some 40, (.build [(I 0), (I 0), (B false), (I 0), (I 0), (I 0), (I 0), (B false), (B false), (I 0), (I 0), (I 0), (I 0), (I 0), (I 0), (I 0)] []), none⟩, {}⟩, ⟨⟨none, (.store 16 (.t 2) (.t 40)), none⟩, {}⟩, ⟨⟨some 3, (.mov (.c (B false))), none⟩, {}⟩] none)
  survey_read_C38) .skip)
def survey_read_C44 : TC := .ret
def survey_read_C39 : TC := (.seq (.rg [⟨⟨some 48, (.mov (.t 5)), none⟩, {}⟩, ⟨⟨some 49, (.mov (.t 4)), none⟩, {}⟩, ⟨⟨some 50, (.iadrS 1 (.t 49) (.c (I 2))), none⟩, {}⟩, ⟨⟨some 51, (.load false 1 (.t 50)), none⟩, {}⟩, ⟨⟨some 52, (.bin .eql (.t 51) (.c (.v (.string ⟨⟨[115, 117, 114, 102, 97, 99, 101]⟩⟩)))), none⟩, {}⟩, ⟨⟨some
  53, (.build [(I 0), (B false)] [(0, (1, (.t 48))), (1, (1, (.t 52)))]), none⟩, {}⟩, ⟨⟨some 54, (.build [(I 0), (I 0), (B false), (I 0), (I 0), (I 0), (I 0), (B false), (B false), (I 0), (I 0), (I 0), (I 0), (I 0), (I 0), (I 0)] [(0, (1, (.c (I 1)))), (1, (2, (.t 53)))]), none⟩, {}⟩, ⟨⟨some 55,
  (.mov (.t 6)), none⟩, {}⟩, ⟨⟨none, (.store 16 (.t 2) (.t 54)), none⟩, {}⟩, ⟨⟨some 3, (.mov (.t 55)), none⟩, {}⟩] none) survey_read_C44)
def survey_read_C35 : TC := (.seq (.rg [⟨⟨some 42, (.mov (.t 4)), none⟩, {}⟩, ⟨⟨some 43, (.iadrS 1 (.t 42) (.c (I 1))), none⟩, {}⟩, ⟨⟨some 44, (.load false 1 (.t 43)), none⟩, {}⟩, ⟨⟨some 45, (.call (.c (.fn 47 [])) [(.t 44)]), none⟩, {}⟩, ⟨⟨some 41, (.mov (.t 45)), none⟩, {}⟩, ⟨⟨some 46, (.extr 0 (.t 41)), none⟩, {}⟩, ⟨⟨some
  47, (.extr 1 (.t 41)), none⟩, {}⟩, ⟨⟨some 5, (.mov (.t 46)), none⟩, {}⟩, ⟨⟨some 6, (.mov (.t 47)), none⟩, {}⟩] none) survey_read_C39)
def survey_read_C45 : TC := .ret
def survey_read_C40 : TC := (.cond (.t 72) (.seq (.rg [⟨⟨some 73, (.build [(I 0), (I 0), (B false), (I 0), (I 0), (I 0), (I 0), (B false), (B false), (I 0), (I 0), (I 0), (I 0), (I 0), (I 0), (I 0)] []), none⟩, {}⟩, ⟨⟨none, (.store 16 (.t 2) (.t 73)), none⟩, {}⟩, ⟨⟨some 3, (.mov (.c (B false))), none⟩, {}⟩] none)
  survey_read_C45) .skip)
def survey_read_C41 : TC := (.join [.wk 4 (.list .str), .keep [2, 4], .cmp] survey_read_C1)
def survey_read_C42 : TC := (.cond (.t 126) .skip (.rg [⟨⟨some 128, (.bin .eql (.t 22) (.c (.v (.string ⟨⟨[111, 112, 101, 110]⟩⟩)))), none⟩, {}⟩, ⟨⟨some 126, (.mov (.t 128)), none⟩, {}⟩] none))
def survey_read_C43 : TC := (.join [.wk 4 (.list .str), .keep [2, 4, 22, 126], .cmp] survey_read_C3)
def survey_read_C36 : TC := (.cond (.t 56) (.seq (.seq (.rg [⟨⟨some 58, (.mov (.t 4)), none⟩, {}⟩, ⟨⟨some 59, (.len (.t 58)), none⟩, {}⟩, ⟨⟨some 60, (.bin .neq (.t 59) (.c (I 10))), none⟩, {}⟩, ⟨⟨some 61, (.mov (.t 60)), none⟩, {}⟩, ⟨⟨some 62, (.mov (.t 4)), some (61, false)⟩, {}⟩, ⟨⟨some 63, (.iadrS 1 (.t 62) (.c (I 5))), some
  (61, false)⟩, {}⟩, ⟨⟨some 64, (.load false 1 (.t 63)), some (61, false)⟩, {}⟩, ⟨⟨some 65, (.bin .neq (.t 64) (.c (.v (.string ⟨⟨[119, 97, 108, 107]⟩⟩)))), some (61, false)⟩, {}⟩, ⟨⟨some 66, (.mov (.t 65)), some (61, false)⟩, {}⟩, ⟨⟨some 67, (.mov (.t 4)), some (66, true)⟩, {}⟩, ⟨⟨some 68, (.iadrS 1
  (.t 67) (.c (I 5))), some (66, true)⟩, {}⟩, ⟨⟨some 69, (.load false 1 (.t 68)), some (66, true)⟩, {}⟩, ⟨⟨some 70, (.bin .neq (.t 69) (.c (.v (.string ⟨⟨[109, 97, 99, 104, 105, 110, 101]⟩⟩)))), some (66, true)⟩, {}⟩, ⟨⟨some 71, (.pick (.t 66) (.t 70) (.c (B false))), some (61, false)⟩, {}⟩, ⟨⟨some
  72, (.pick (.t 61) (.c (B true)) (.t 71)), none⟩, {}⟩] none) survey_read_C40) survey_read_C41) (.seq (.seq (.rg [⟨⟨some 127, (.bin .eql (.t 22) (.c (.v (.string ⟨⟨[99, 108, 111, 115, 101]⟩⟩)))), none⟩, {}⟩, ⟨⟨some 126, (.mov (.t 127)), none⟩, {}⟩] none) survey_read_C42) survey_read_C43))
def survey_read_C29 : TC := (.cond (.t 23) (.seq (.seq (.rg [⟨⟨some 25, (.mov (.t 4)), none⟩, {}⟩, ⟨⟨some 26, (.len (.t 25)), none⟩, {}⟩, ⟨⟨some 27, (.bin .neq (.t 26) (.c (I 3))), none⟩, {}⟩, ⟨⟨some 28, (.mov (.t 27)), none⟩, {}⟩, ⟨⟨some 29, (.mov (.t 4)), some (28, false)⟩, {}⟩, ⟨⟨some 30, (.iadrS 1 (.t 29) (.c (I 2))), some
  (28, false)⟩, {}⟩, ⟨⟨some 31, (.load false 1 (.t 30)), some (28, false)⟩, {}⟩, ⟨⟨some 32, (.bin .neq (.t 31) (.c (.v (.string ⟨⟨[115, 117, 114, 102, 97, 99, 101]⟩⟩)))), some (28, false)⟩, {}⟩, ⟨⟨some 33, (.mov (.t 32)), some (28, false)⟩, {}⟩, ⟨⟨some 34, (.mov (.t 4)), some (33, true)⟩, {}⟩, ⟨⟨some
  35, (.iadrS 1 (.t 34) (.c (I 2))), some (33, true)⟩, {}⟩, ⟨⟨some 36, (.load false 1 (.t 35)), some (33, true)⟩, {}⟩, ⟨⟨some 37, (.bin .neq (.t 36) (.c (.v (.string ⟨⟨[98, 101, 108, 111, 119]⟩⟩)))), some (33, true)⟩, {}⟩, ⟨⟨some 38, (.pick (.t 33) (.t 37) (.c (B false))), some (28, false)⟩, {}⟩,
  ⟨⟨some 39, (.pick (.t 28) (.c (B true)) (.t 38)), none⟩, {}⟩] none) survey_read_C34) survey_read_C35) (.seq (.rg [⟨⟨some 57, (.bin .eql (.t 22) (.c (.v (.string ⟨⟨[114, 111, 97, 100]⟩⟩)))), none⟩, {}⟩, ⟨⟨some 56, (.mov (.t 57)), none⟩, {}⟩] none) survey_read_C36))
def survey_read_C22 : TC := (.block 0 (.seq (.rg [⟨⟨some 24, (.bin .eql (.t 22) (.c (.v (.string ⟨⟨[112, 108, 97, 99, 101]⟩⟩)))), none⟩, {}⟩, ⟨⟨some 23, (.mov (.t 24)), none⟩, {}⟩] none) survey_read_C29))
def survey_read_C15 : TC := (.seq (.seq (.rg [⟨⟨some 20, (.mov (.t 4)), none⟩, {}⟩, ⟨⟨some 21, (.iadrS 1 (.t 20) (.c (I 0))), none⟩, {}⟩, ⟨⟨some 22, (.load false 1 (.t 21)), none⟩, {}⟩] none) survey_read_C22) survey_read_C2)
def survey_read_C10 : TC := (.seq (.rg [⟨⟨some 18, (.mov (.t 0)), none⟩, {}⟩, ⟨⟨some 19, (.call (.c (.fn 32 [])) [(.t 18), (.c (.v (.string ⟨⟨[32]⟩⟩)))]), none⟩, {}⟩, ⟨⟨some 4, (.mov (.t 19)), none⟩, {}⟩] none) survey_read_C15)
def survey_read_C4 : TC := (.seq (.rg [⟨⟨some 2, (.alloc [(I 0), (I 0), (B false), (I 0), (I 0), (I 0), (I 0), (B false), (B false), (I 0), (I 0), (I 0), (I 0), (I 0), (I 0), (I 0)]), none⟩, {}⟩, ⟨⟨some 3, (.mov (.c (B false))), none⟩, {}⟩] none) survey_read_C10)
def survey_read_E (N : Nat) : List (Nat × Ent) := [(32, pureE [.str, .str] [(.list .str)] (fun x => strings_Split N x.1 x.2)), (47, pureE [.str] [(.int .i64), .bool] (fun x => survey_number N x)), (33, pureE [(.list .str), (.int .i64)] [(.list (.int .i64)), .bool] (fun x => survey_numbers N x.1 x.2))]
def survey_read_J1 (N : Nat) (x13 : List (List UInt8)) (x14 : Int) (x15 : Int) (x16 : Bool) (x17 : Int) (x18 : Int) (x19 : Int) (x20 : Int) (x21 : Bool) (x22 : Bool) (x23 : Int) (x24 : Int) (x25 : Int) (x26 : Int) (x27 : Int) (x28 : Int) (x29 : Int) : Option (T_Edit × Bool) := joinN (run (survey_read_E N) N 0 survey_read_C1) N ⟨[(2, .ptr 0 0 0), (4, .lst false .str x13)], [some (.box 0 [.int .i64 x14, .int .i64 x15, .bool x16, .int .i64 x17, .int .i64 x18, .int .i64 x19, .int .i64 x20, .bool x21, .bool x22, .int .i64 x23, .int .i64 x24, .int .i64 x25, .int .i64 x26, .int .i64 x27, .int .i64 x28, .int .i64 x29])]⟩ (blkK 0 (seqK (run (survey_read_E N) N 0 survey_read_C2) (fin [(.cell 2 true 16), (.t 3)] [G_Edit, .bool])))
def survey_read_J2 (N : Nat) (x77 : List (List UInt8)) (x78 : List UInt8) (x79 : Bool) (x80 : Int) (x81 : Int) (x82 : Bool) (x83 : Int) (x84 : Int) (x85 : Int) (x86 : Int) (x87 : Bool) (x88 : Bool) (x89 : Int) (x90 : Int) (x91 : Int) (x92 : Int) (x93 : Int) (x94 : Int) (x95 : Int) : Option (T_Edit × Bool) := joinN (run (survey_read_E N) N 0 survey_read_C3) N ⟨[(2, .ptr 0 0 0), (4, .lst false .str x77), (22, .str x78), (126, .bool x79)], [some (.box 0 [.int .i64 x80, .int .i64 x81, .bool x82, .int .i64 x83, .int .i64 x84, .int .i64 x85, .int .i64 x86, .bool x87, .bool x88, .int .i64 x89, .int .i64 x90, .int .i64 x91, .int .i64 x92, .int .i64 x93, .int .i64 x94, .int .i64 x95])]⟩ (blkK 0 (seqK (run (survey_read_E N) N 0 survey_read_C2) (fin [(.cell 2 true 16), (.t 3)] [G_Edit, .bool])))
theorem survey_read_J1_eqM (N : Nat) (JM : Nat) (x13 : List (List UInt8)) (x14 : Int) (x15 : Int) (x16 : Bool) (x17 : Int) (x18 : Int) (x19 : Int) (x20 : Int) (x21 : Bool) (x22 : Bool) (x23 : Int) (x24 : Int) (x25 : Int) (x26 : Int) (x27 : Int) (x28 : Int) (x29 : Int) : joinN (run (survey_read_E N) N 0 survey_read_C1) (JM + 1) ⟨[(2, .ptr 0 0 0), (4, .lst false .str x13)], [some (.box 0 [.int .i64 x14, .int .i64 x15, .bool x16, .int .i64 x17, .int .i64 x18, .int .i64 x19, .int .i64 x20, .bool x21, .bool x22, .int .i64 x23, .int .i64 x24, .int .i64 x25, .int .i64 x26, .int .i64 x27, .int .i64 x28, .int .i64 x29])]⟩ (blkK 0 (seqK (run (survey_read_E N) N 0 survey_read_C2) (fin [(.cell 2 true 16), (.t 3)] [G_Edit, .bool]))) =
  bif slB 1 5 x13.length then
  Option.bind (survey_numbers N ((x13.drop (1 : Int).toNat).take ((5 : Int).toNat - (1 : Int).toNat)) 4) fun r31 =>
  bif slB 6 x13.length x13.length then
  Option.bind (survey_numbers N (x13.drop (6 : Int).toNat) 4) fun r33 =>
  bif (!r31.2) then
    some ((0, ((0, false), ((0, (0, (0, (0, (false, (false, ((0, 0), (0, 0)))))))), (0, (0, 0))))), false)
  else
    bif (!r33.2) then
      some ((0, ((0, false), ((0, (0, (0, (0, (false, (false, ((0, 0), (0, 0)))))))), (0, (0, 0))))), false)
    else
      bif inB 0 r31.1.length then
      bif inB 1 r31.1.length then
      bif inB 2 r31.1.length then
      bif inB 3 r31.1.length then
      bif inB 5 x13.length then
      bif inB 0 r33.1.length then
      bif inB 1 r33.1.length then
      bif inB 2 r33.1.length then
      bif inB 3 r33.1.length then
      some ((2, ((0, false), (((r31.1.getD (0 : Int).toNat 0), ((r31.1.getD (1 : Int).toNat 0), ((r31.1.getD (2 : Int).toNat 0), ((r31.1.getD (3 : Int).toNat 0), (((x13.getD (5 : Int).toNat []) == ([119, 97, 108, 107] : List UInt8)), (false, (((r33.1.getD (0 : Int).toNat 0), (r33.1.getD (1 : Int).toNat 0)), ((r33.1.getD (2 : Int).toNat 0), (r33.1.getD (3 : Int).toNat 0))))))))), (0, (0, 0))))), true)
      else none
      else none
      else none
      else none
      else none
      else none
      else none
      else none
      else none
  else none
  else none := by kernel_rfl
theorem survey_read_J1_eq (N : Nat) (x13 : List (List UInt8)) (x14 : Int) (x15 : Int) (x16 : Bool) (x17 : Int) (x18 : Int) (x19 : Int) (x20 : Int) (x21 : Bool) (x22 : Bool) (x23 : Int) (x24 : Int) (x25 : Int) (x26 : Int) (x27 : Int) (x28 : Int) (x29 : Int) : survey_read_J1 (N + 1) x13 x14 x15 x16 x17 x18 x19 x20 x21 x22 x23 x24 x25 x26 x27 x28 x29 =
  bif slB 1 5 x13.length then
  Option.bind (survey_numbers (N + 1) ((x13.drop (1 : Int).toNat).take ((5 : Int).toNat - (1 : Int).toNat)) 4) fun r31 =>
  bif slB 6 x13.length x13.length then
  Option.bind (survey_numbers (N + 1) (x13.drop (6 : Int).toNat) 4) fun r33 =>
  bif (!r31.2) then
    some ((0, ((0, false), ((0, (0, (0, (0, (false, (false, ((0, 0), (0, 0)))))))), (0, (0, 0))))), false)
  else
    bif (!r33.2) then
      some ((0, ((0, false), ((0, (0, (0, (0, (false, (false, ((0, 0), (0, 0)))))))), (0, (0, 0))))), false)
    else
      bif inB 0 r31.1.length then
      bif inB 1 r31.1.length then
      bif inB 2 r31.1.length then
      bif inB 3 r31.1.length then
      bif inB 5 x13.length then
      bif inB 0 r33.1.length then
      bif inB 1 r33.1.length then
      bif inB 2 r33.1.length then
      bif inB 3 r33.1.length then
      some ((2, ((0, false), (((r31.1.getD (0 : Int).toNat 0), ((r31.1.getD (1 : Int).toNat 0), ((r31.1.getD (2 : Int).toNat 0), ((r31.1.getD (3 : Int).toNat 0), (((x13.getD (5 : Int).toNat []) == ([119, 97, 108, 107] : List UInt8)), (false, (((r33.1.getD (0 : Int).toNat 0), (r33.1.getD (1 : Int).toNat 0)), ((r33.1.getD (2 : Int).toNat 0), (r33.1.getD (3 : Int).toNat 0))))))))), (0, (0, 0))))), true)
      else none
      else none
      else none
      else none
      else none
      else none
      else none
      else none
      else none
  else none
  else none := survey_read_J1_eqM (N + 1) N x13 x14 x15 x16 x17 x18 x19 x20 x21 x22 x23 x24 x25 x26 x27 x28 x29
theorem survey_read_J2_eqM (N : Nat) (JM : Nat) (x77 : List (List UInt8)) (x78 : List UInt8) (x79 : Bool) (x80 : Int) (x81 : Int) (x82 : Bool) (x83 : Int) (x84 : Int) (x85 : Int) (x86 : Int) (x87 : Bool) (x88 : Bool) (x89 : Int) (x90 : Int) (x91 : Int) (x92 : Int) (x93 : Int) (x94 : Int) (x95 : Int) : joinN (run (survey_read_E N) N 0 survey_read_C3) (JM + 1) ⟨[(2, .ptr 0 0 0), (4, .lst false .str x77), (22, .str x78), (126, .bool x79)], [some (.box 0 [.int .i64 x80, .int .i64 x81, .bool x82, .int .i64 x83, .int .i64 x84, .int .i64 x85, .int .i64 x86, .bool x87, .bool x88, .int .i64 x89, .int .i64 x90, .int .i64 x91, .int .i64 x92, .int .i64 x93, .int .i64 x94, .int .i64 x95])]⟩ (blkK 0 (seqK (run (survey_read_E N) N 0 survey_read_C2) (fin [(.cell 2 true 16), (.t 3)] [G_Edit, .bool]))) =
  bif x79 then
    bif slB 1 x77.length x77.length then
    Option.bind (survey_numbers N (x77.drop (1 : Int).toNat) 1) fun r97 =>
    bif (!r97.2) then
      some ((0, ((0, false), ((0, (0, (0, (0, (false, (false, ((0, 0), (0, 0)))))))), (0, (0, 0))))), false)
    else
      bif inB 0 x77.length then
      bif ((x77.getD (0 : Int).toNat []) == ([99, 108, 111, 115, 101] : List UInt8)) then
        bif inB 0 r97.1.length then
        some ((3, ((0, false), ((0, (0, (0, (0, (false, (false, ((0, 0), (0, 0)))))))), ((r97.1.getD (0 : Int).toNat 0), (0, 0))))), true)
        else none
      else
        bif inB 0 r97.1.length then
        some ((4, ((0, false), ((0, (0, (0, (0, (false, (false, ((0, 0), (0, 0)))))))), ((r97.1.getD (0 : Int).toNat 0), (0, 0))))), true)
        else none
      else none
    else none
  else
    bif (x78 == ([114, 101, 115, 116] : List UInt8)) then
      bif slB 1 x77.length x77.length then
      Option.bind (survey_numbers N (x77.drop (1 : Int).toNat) 3) fun r102 =>
      bif (!r102.2) then
        some ((0, ((0, false), ((0, (0, (0, (0, (false, (false, ((0, 0), (0, 0)))))))), (0, (0, 0))))), false)
      else
        bif inB 0 x77.length then
        bif ((x77.getD (0 : Int).toNat []) == ([108, 105, 102, 116] : List UInt8)) then
          bif inB 0 r102.1.length then
          bif inB 1 r102.1.length then
          bif inB 2 r102.1.length then
          some ((6, ((0, false), ((0, (0, (0, (0, (false, (false, ((0, 0), (0, 0)))))))), ((r102.1.getD (0 : Int).toNat 0), ((r102.1.getD (1 : Int).toNat 0), (r102.1.getD (2 : Int).toNat 0)))))), true)
          else none
          else none
          else none
        else
          bif inB 0 r102.1.length then
          bif inB 1 r102.1.length then
          bif inB 2 r102.1.length then
          some ((5, ((0, false), ((0, (0, (0, (0, (false, (false, ((0, 0), (0, 0)))))))), ((r102.1.getD (0 : Int).toNat 0), ((r102.1.getD (1 : Int).toNat 0), (r102.1.getD (2 : Int).toNat 0)))))), true)
          else none
          else none
          else none
        else none
      else none
    else
      bif (x78 == ([108, 105, 102, 116] : List UInt8)) then
        bif slB 1 x77.length x77.length then
        Option.bind (survey_numbers N (x77.drop (1 : Int).toNat) 3) fun r111 =>
        bif (!r111.2) then
          some ((0, ((0, false), ((0, (0, (0, (0, (false, (false, ((0, 0), (0, 0)))))))), (0, (0, 0))))), false)
        else
          bif inB 0 x77.length then
          bif ((x77.getD (0 : Int).toNat []) == ([108, 105, 102, 116] : List UInt8)) then
            bif inB 0 r111.1.length then
            bif inB 1 r111.1.length then
            bif inB 2 r111.1.length then
            some ((6, ((0, false), ((0, (0, (0, (0, (false, (false, ((0, 0), (0, 0)))))))), ((r111.1.getD (0 : Int).toNat 0), ((r111.1.getD (1 : Int).toNat 0), (r111.1.getD (2 : Int).toNat 0)))))), true)
            else none
            else none
            else none
          else
            bif inB 0 r111.1.length then
            bif inB 1 r111.1.length then
            bif inB 2 r111.1.length then
            some ((5, ((0, false), ((0, (0, (0, (0, (false, (false, ((0, 0), (0, 0)))))))), ((r111.1.getD (0 : Int).toNat 0), ((r111.1.getD (1 : Int).toNat 0), (r111.1.getD (2 : Int).toNat 0)))))), true)
            else none
            else none
            else none
          else none
        else none
      else
        some ((0, ((0, false), ((0, (0, (0, (0, (false, (false, ((0, 0), (0, 0)))))))), (0, (0, 0))))), false) := by kernel_rfl
theorem survey_read_J2_eq (N : Nat) (x77 : List (List UInt8)) (x78 : List UInt8) (x79 : Bool) (x80 : Int) (x81 : Int) (x82 : Bool) (x83 : Int) (x84 : Int) (x85 : Int) (x86 : Int) (x87 : Bool) (x88 : Bool) (x89 : Int) (x90 : Int) (x91 : Int) (x92 : Int) (x93 : Int) (x94 : Int) (x95 : Int) : survey_read_J2 (N + 1) x77 x78 x79 x80 x81 x82 x83 x84 x85 x86 x87 x88 x89 x90 x91 x92 x93 x94 x95 =
  bif x79 then
    bif slB 1 x77.length x77.length then
    Option.bind (survey_numbers (N + 1) (x77.drop (1 : Int).toNat) 1) fun r97 =>
    bif (!r97.2) then
      some ((0, ((0, false), ((0, (0, (0, (0, (false, (false, ((0, 0), (0, 0)))))))), (0, (0, 0))))), false)
    else
      bif inB 0 x77.length then
      bif ((x77.getD (0 : Int).toNat []) == ([99, 108, 111, 115, 101] : List UInt8)) then
        bif inB 0 r97.1.length then
        some ((3, ((0, false), ((0, (0, (0, (0, (false, (false, ((0, 0), (0, 0)))))))), ((r97.1.getD (0 : Int).toNat 0), (0, 0))))), true)
        else none
      else
        bif inB 0 r97.1.length then
        some ((4, ((0, false), ((0, (0, (0, (0, (false, (false, ((0, 0), (0, 0)))))))), ((r97.1.getD (0 : Int).toNat 0), (0, 0))))), true)
        else none
      else none
    else none
  else
    bif (x78 == ([114, 101, 115, 116] : List UInt8)) then
      bif slB 1 x77.length x77.length then
      Option.bind (survey_numbers (N + 1) (x77.drop (1 : Int).toNat) 3) fun r102 =>
      bif (!r102.2) then
        some ((0, ((0, false), ((0, (0, (0, (0, (false, (false, ((0, 0), (0, 0)))))))), (0, (0, 0))))), false)
      else
        bif inB 0 x77.length then
        bif ((x77.getD (0 : Int).toNat []) == ([108, 105, 102, 116] : List UInt8)) then
          bif inB 0 r102.1.length then
          bif inB 1 r102.1.length then
          bif inB 2 r102.1.length then
          some ((6, ((0, false), ((0, (0, (0, (0, (false, (false, ((0, 0), (0, 0)))))))), ((r102.1.getD (0 : Int).toNat 0), ((r102.1.getD (1 : Int).toNat 0), (r102.1.getD (2 : Int).toNat 0)))))), true)
          else none
          else none
          else none
        else
          bif inB 0 r102.1.length then
          bif inB 1 r102.1.length then
          bif inB 2 r102.1.length then
          some ((5, ((0, false), ((0, (0, (0, (0, (false, (false, ((0, 0), (0, 0)))))))), ((r102.1.getD (0 : Int).toNat 0), ((r102.1.getD (1 : Int).toNat 0), (r102.1.getD (2 : Int).toNat 0)))))), true)
          else none
          else none
          else none
        else none
      else none
    else
      bif (x78 == ([108, 105, 102, 116] : List UInt8)) then
        bif slB 1 x77.length x77.length then
        Option.bind (survey_numbers (N + 1) (x77.drop (1 : Int).toNat) 3) fun r111 =>
        bif (!r111.2) then
          some ((0, ((0, false), ((0, (0, (0, (0, (false, (false, ((0, 0), (0, 0)))))))), (0, (0, 0))))), false)
        else
          bif inB 0 x77.length then
          bif ((x77.getD (0 : Int).toNat []) == ([108, 105, 102, 116] : List UInt8)) then
            bif inB 0 r111.1.length then
            bif inB 1 r111.1.length then
            bif inB 2 r111.1.length then
            some ((6, ((0, false), ((0, (0, (0, (0, (false, (false, ((0, 0), (0, 0)))))))), ((r111.1.getD (0 : Int).toNat 0), ((r111.1.getD (1 : Int).toNat 0), (r111.1.getD (2 : Int).toNat 0)))))), true)
            else none
            else none
            else none
          else
            bif inB 0 r111.1.length then
            bif inB 1 r111.1.length then
            bif inB 2 r111.1.length then
            some ((5, ((0, false), ((0, (0, (0, (0, (false, (false, ((0, 0), (0, 0)))))))), ((r111.1.getD (0 : Int).toNat 0), ((r111.1.getD (1 : Int).toNat 0), (r111.1.getD (2 : Int).toNat 0)))))), true)
            else none
            else none
            else none
          else none
        else none
      else
        some ((0, ((0, false), ((0, (0, (0, (0, (false, (false, ((0, 0), (0, 0)))))))), (0, (0, 0))))), false) := survey_read_J2_eqM (N + 1) N x77 x78 x79 x80 x81 x82 x83 x84 x85 x86 x87 x88 x89 x90 x91 x92 x93 x94 x95
def survey_read (N : Nat) (a0 : List UInt8) : Option (T_Edit × Bool) :=
  Option.bind (strings_Split N a0 [32]) fun r1 =>
  bif inB 0 r1.length then
  let v2 := r1.getD (0 : Int).toNat []
  bif (v2 == ([112, 108, 97, 99, 101] : List UInt8)) then
    bif ((r1.length : Int) != 3) then
      some ((0, ((0, false), ((0, (0, (0, (0, (false, (false, ((0, 0), (0, 0)))))))), (0, (0, 0))))), false)
    else
      bif inB 2 r1.length then
      bif (!((r1.getD (2 : Int).toNat []) == ([115, 117, 114, 102, 97, 99, 101] : List UInt8))) then
        bif inB 2 r1.length then
        bif (!((r1.getD (2 : Int).toNat []) == ([98, 101, 108, 111, 119] : List UInt8))) then
          some ((0, ((0, false), ((0, (0, (0, (0, (false, (false, ((0, 0), (0, 0)))))))), (0, (0, 0))))), false)
        else
          bif inB 1 r1.length then
          Option.bind (survey_number N (r1.getD (1 : Int).toNat [])) fun r6 =>
          bif inB 2 r1.length then
          some ((1, ((r6.1, ((r1.getD (2 : Int).toNat []) == ([115, 117, 114, 102, 97, 99, 101] : List UInt8))), ((0, (0, (0, (0, (false, (false, ((0, 0), (0, 0)))))))), (0, (0, 0))))), r6.2)
          else none
          else none
        else none
      else
        bif inB 1 r1.length then
        Option.bind (survey_number N (r1.getD (1 : Int).toNat [])) fun r9 =>
        bif inB 2 r1.length then
        some ((1, ((r9.1, ((r1.getD (2 : Int).toNat []) == ([115, 117, 114, 102, 97, 99, 101] : List UInt8))), ((0, (0, (0, (0, (false, (false, ((0, 0), (0, 0)))))))), (0, (0, 0))))), r9.2)
        else none
        else none
      else none
  else
    bif (v2 == ([114, 111, 97, 100] : List UInt8)) then
      bif ((r1.length : Int) != 10) then
        some ((0, ((0, false), ((0, (0, (0, (0, (false, (false, ((0, 0), (0, 0)))))))), (0, (0, 0))))), false)
      else
        bif inB 5 r1.length then
        bif (!((r1.getD (5 : Int).toNat []) == ([119, 97, 108, 107] : List UInt8))) then
          bif inB 5 r1.length then
          bif (!((r1.getD (5 : Int).toNat []) == ([109, 97, 99, 104, 105, 110, 101] : List UInt8))) then
            some ((0, ((0, false), ((0, (0, (0, (0, (false, (false, ((0, 0), (0, 0)))))))), (0, (0, 0))))), false)
          else
            survey_read_J1 N r1 0 0 false 0 0 0 0 false false 0 0 0 0 0 0 0
          else none
        else
          survey_read_J1 N r1 0 0 false 0 0 0 0 false false 0 0 0 0 0 0 0
        else none
    else
      bif (v2 == ([99, 108, 111, 115, 101] : List UInt8)) then
        survey_read_J2 N r1 v2 true 0 0 false 0 0 0 0 false false 0 0 0 0 0 0 0
      else
        survey_read_J2 N r1 v2 (v2 == ([111, 112, 101, 110] : List UInt8)) 0 0 false 0 0 0 0 false false 0 0 0 0 0 0 0
  else none
theorem survey_read_fn : FnOK Tryd.prog 34 176 (fun _ : Nat => false) survey_read_C4.er [(.cell 2 true 16), (.t 3)] := FnOK.mk' Tryd.func34 (by kernel_rfl) (by kernel_rfl) (by kernel_rfl) (by kernel_rfl) (by kernel_rfl)
theorem survey_read_envok (N : Nat) : EnvOK Tryd.prog (survey_read_E N) := .cons (pureE_ok (strings_Split_pure N)) (.cons (pureE_ok (survey_number_pure N)) (.cons (pureE_ok (survey_numbers_pure N)) (.nil)))
theorem survey_read_pure (N : Nat) : PureOK Tryd.prog 34 [.str] [G_Edit, .bool] (fun x => survey_read N x) := pureOK (N := N) mixed survey_read_fn (survey_read_envok N) (TC.noh_ok (by kernel_rfl)) rfl (fun x => by kernel_rfl)
/-! survey_Parse -/
def survey_Parse_N1 : List NS := [.own 5 G_Edit, .keep [0, 5, 6, 7], .cmp]
def survey_Parse_C15 : TC := .ret
def survey_Parse_C10 : TC := (.pre [.frz 2] survey_Parse_C15)
def survey_Parse_C6 : TC := (.cond (.t 30) (.seq (.rg [⟨⟨some 31, (.mov (.t 7)), none⟩, {}⟩, ⟨⟨some 2, (.mov (.c (.lst true []))), none⟩, {}⟩, ⟨⟨some 3, (.mov (.t 31)), none⟩, {}⟩, ⟨⟨some 4, (.mov (.c (I 6))), none⟩, {}⟩] none) survey_Parse_C10) .skip)
def survey_Parse_C35 : TC := .ret
def survey_Parse_C29 : TC := (.pre [.frz 2] survey_Parse_C35)
def survey_Parse_C24 : TC := (.cond (.t 45) (.seq (.rg [⟨⟨some 46, (.mov (.t 7)), none⟩, {}⟩, ⟨⟨some 2, (.mov (.c (.lst true []))), none⟩, {}⟩, ⟨⟨some 3, (.mov (.t 46)), none⟩, {}⟩, ⟨⟨some 4, (.mov (.c (I 6))), none⟩, {}⟩] none) survey_Parse_C29) .skip)
def survey_Parse_C40 : TC := .ret
def survey_Parse_C36 : TC := (.pre [.frz 2] survey_Parse_C40)
def survey_Parse_C30 : TC := (.cond (.t 54) (.seq (.rg [⟨⟨some 55, (.mov (.t 7)), none⟩, {}⟩, ⟨⟨some 2, (.mov (.c (.lst true []))), none⟩, {}⟩, ⟨⟨some 3, (.mov (.t 55)), none⟩, {}⟩, ⟨⟨some 4, (.mov (.c (I 7))), none⟩, {}⟩] none) survey_Parse_C36) .skip)
def survey_Parse_C43 : TC := .ret
def survey_Parse_C41 : TC := (.pre [.frz 2] survey_Parse_C43)
def survey_Parse_C37 : TC := (.cond (.t 63) (.seq (.rg [⟨⟨some 64, (.mov (.t 7)), none⟩, {}⟩, ⟨⟨some 65, (.bin .add (.t 64) (.c (I 1))), none⟩, {}⟩, ⟨⟨some 2, (.mov (.c (.lst true []))), none⟩, {}⟩, ⟨⟨some 3, (.mov (.t 65)), none⟩, {}⟩, ⟨⟨some 4, (.mov (.c (I 6))), none⟩, {}⟩] none) survey_Parse_C41) .skip)
def survey_Parse_C44 : TC := .ret
def survey_Parse_C42 : TC := (.pre [.frz 2] survey_Parse_C44)
def survey_Parse_C38 : TC := (.seq (.rg [⟨⟨some 66, (.mov (.t 5)), none⟩, {}⟩, ⟨⟨some 2, (.mov (.t 66)), none⟩, {}⟩, ⟨⟨some 3, (.mov (.c (I 0))), none⟩, {}⟩, ⟨⟨some 4, (.mov (.c (I 0))), none⟩, {}⟩] none) survey_Parse_C42)
def survey_Parse_C31 : TC := (.seq (.seq (.rg [⟨⟨some 56, (.mov (.t 6)), none⟩, {}⟩, ⟨⟨some 57, (.mov (.t 8)), none⟩, {}⟩, ⟨⟨some 58, (.lens (.t 57)), none⟩, {}⟩, ⟨⟨some 59, (.bin .add (.t 56) (.t 58)), none⟩, {}⟩, ⟨⟨some 60, (.bin .add (.t 59) (.c (I 1))), none⟩, {}⟩, ⟨⟨some 61, (.mov (.t 0)), none⟩, {}⟩, ⟨⟨some 62, (.lens (.t
  61)), none⟩, {}⟩, ⟨⟨some 63, (.bin .lss (.t 60) (.t 62)), none⟩, {}⟩] none) survey_Parse_C37) survey_Parse_C38)
def survey_Parse_C25 : TC := (.seq (.seq (.rg [⟨⟨some 47, (.mov (.t 12)), none⟩, {}⟩, ⟨⟨some 48, (.iadrS 1 (.t 47) (.c (I 0))), none⟩, {}⟩, ⟨⟨some 49, (.load false 1 (.t 48)), none⟩, {}⟩, ⟨⟨some 50, (.mov (.t 0)), none⟩, {}⟩, ⟨⟨some 51, (.mov (.t 6)), none⟩, {}⟩, ⟨⟨some 52, (.sslc (.t 50) none (some (.t 51))), none⟩, {}⟩, ⟨⟨some
  53, (.call (.c (.fn 7 [])) [(.t 52)]), none⟩, {}⟩, ⟨⟨some 54, (.bin .neq (.t 49) (.t 53)), none⟩, {}⟩] (some [(1, 6), (2, 6)])) survey_Parse_C30) survey_Parse_C31)
def survey_Parse_C20 : TC := (.seq (.seq (.rg [⟨⟨some 44, (.mov (.t 13)), none⟩, {}⟩, ⟨⟨some 45, (.un .not (.t 44)), none⟩, {}⟩] none) survey_Parse_C24) survey_Parse_C25)
def survey_Parse_C16 : TC := (.cond (.t 37) (.seq (.rg [⟨⟨some 39, (.mov (.t 11)), none⟩, {}⟩, ⟨⟨some 40, (.slc 1 (.t 39) (some (.c (I 1))) none), none⟩, {}⟩, ⟨⟨some 41, (.call (.c (.fn 33 [])) [(.t 40), (.c (I 1))]), none⟩, {}⟩, ⟨⟨some 38, (.mov (.t 41)), none⟩, {}⟩, ⟨⟨some 42, (.extr 0 (.t 38)), none⟩, {}⟩, ⟨⟨some 43, (.extr 1
  (.t 38)), none⟩, {}⟩, ⟨⟨some 12, (.mov (.t 42)), none⟩, {}⟩, ⟨⟨some 13, (.mov (.t 43)), none⟩, {}⟩] none) survey_Parse_C20) .skip)
def survey_Parse_C11 : TC := (.seq (.rg [⟨⟨some 34, (.mov (.t 11)), none⟩, {}⟩, ⟨⟨some 35, (.iadrS 1 (.t 34) (.c (I 0))), none⟩, {}⟩, ⟨⟨some 36, (.load false 1 (.t 35)), none⟩, {}⟩, ⟨⟨some 37, (.bin .eql (.t 36) (.c (.v (.string ⟨⟨[115, 117, 109]⟩⟩)))), none⟩, {}⟩] none) survey_Parse_C16)
def survey_Parse_C32 : TC := .ret
def survey_Parse_C26 : TC := (.pre [.frz 2] survey_Parse_C32)
def survey_Parse_C21 : TC := (.cond (.t 73) (.seq (.rg [⟨⟨some 74, (.mov (.t 7)), none⟩, {}⟩, ⟨⟨some 2, (.mov (.c (.lst true []))), none⟩, {}⟩, ⟨⟨some 3, (.mov (.t 74)), none⟩, {}⟩, ⟨⟨some 4, (.mov (.c (I 6))), none⟩, {}⟩] none) survey_Parse_C26) .skip)
def survey_Parse_C39 : TC := .ret
def survey_Parse_C33 : TC := (.pre [.frz 2] survey_Parse_C39)
def survey_Parse_C27 : TC := (.cond (.t 76) (.seq (.rg [⟨⟨some 77, (.mov (.t 7)), none⟩, {}⟩, ⟨⟨some 2, (.mov (.c (.lst true []))), none⟩, {}⟩, ⟨⟨some 3, (.mov (.t 77)), none⟩, {}⟩, ⟨⟨some 4, (.mov (.c (I 2))), none⟩, {}⟩] none) survey_Parse_C33) .skip)
def survey_Parse_C34 : TC := (.rg [⟨⟨some 82, (.mov (.t 6)), none⟩, {}⟩, ⟨⟨some 83, (.mov (.t 8)), none⟩, {}⟩, ⟨⟨some 84, (.lens (.t 83)), none⟩, {}⟩, ⟨⟨some 85, (.bin .add (.t 84) (.c (I 1))), none⟩, {}⟩, ⟨⟨some 86, (.bin .add (.t 82) (.t 85)), none⟩, {}⟩, ⟨⟨some 6, (.mov (.t 86)), none⟩, {}⟩] none)
def survey_Parse_C28 : TC := (.seq (.rg [⟨⟨some 78, (.mov (.t 5)), none⟩, {}⟩, ⟨⟨some 79, (.load true 16 (.t 14)), none⟩, {}⟩, ⟨⟨some 80, (.bslice false 16 [(I 0), (I 0), (B false), (I 0), (I 0), (I 0), (I 0), (B false), (B false), (I 0), (I 0), (I 0), (I 0), (I 0), (I 0), (I 0)] 1 [(0, (.t 79))]), none⟩, ⟨G_Edit, none, []⟩⟩,
  ⟨⟨some 81, (.app 16 120 (.t 78) (.t 80)), none⟩, {}⟩, ⟨⟨some 5, (.mov (.t 81)), none⟩, {}⟩] none) survey_Parse_C34)
def survey_Parse_C22 : TC := (.seq (.seq (.rg [⟨⟨some 75, (.mov (.t 7)), none⟩, {}⟩, ⟨⟨some 76, (.bin .gtr (.t 75) (.c (I 1000))), none⟩, {}⟩] none) survey_Parse_C27) survey_Parse_C28)
def survey_Parse_C17 : TC := (.seq (.seq (.rg [⟨⟨some 72, (.mov (.t 15)), none⟩, {}⟩, ⟨⟨some 73, (.un .not (.t 72)), none⟩, {}⟩] none) survey_Parse_C21) survey_Parse_C22)
def survey_Parse_C12 : TC := (.seq (.rg [⟨⟨some 68, (.mov (.t 8)), none⟩, {}⟩, ⟨⟨some 69, (.call (.c (.fn 34 [])) [(.t 68)]), none⟩, {}⟩, ⟨⟨some 67, (.mov (.t 69)), none⟩, {}⟩, ⟨⟨some 70, (.extr 0 (.t 67)), none⟩, {}⟩, ⟨⟨some 71, (.extr 1 (.t 67)), none⟩, {}⟩, ⟨⟨some 14, (.alloc [(I 0), (I 0), (B false), (I 0), (I 0), (I 0), (I
  0), (B false), (B false), (I 0), (I 0), (I 0), (I 0), (I 0), (I 0), (I 0)]), none⟩, {}⟩, ⟨⟨none, (.store 16 (.t 14) (.t 70)), none⟩, {}⟩, ⟨⟨some 15, (.mov (.t 71)), none⟩, {}⟩] none) survey_Parse_C17)
def survey_Parse_C7 : TC := (.seq (.seq (.rg [⟨⟨some 32, (.mov (.t 8)), none⟩, {}⟩, ⟨⟨some 33, (.call (.c (.fn 32 [])) [(.t 32), (.c (.v (.string ⟨⟨[32]⟩⟩)))]), none⟩, {}⟩, ⟨⟨some 11, (.mov (.t 33)), none⟩, {}⟩] none) survey_Parse_C11) survey_Parse_C12)
def survey_Parse_C3 : TC := (.seq (.seq (.rg [⟨⟨some 29, (.mov (.t 10)), none⟩, {}⟩, ⟨⟨some 30, (.un .not (.t 29)), none⟩, {}⟩] none) survey_Parse_C6) survey_Parse_C7)
def survey_Parse_C4 : TC := (.rg [⟨⟨some 19, (.mov (.t 7)), none⟩, {}⟩, ⟨⟨some 20, (.bin .add (.t 19) (.c (I 1))), none⟩, {}⟩, ⟨⟨some 7, (.mov (.t 20)), none⟩, {}⟩] none)
def survey_Parse_C1 : TC := (.seq (.block 1 (.seq (.rg [⟨⟨some 22, (.mov (.t 0)), none⟩, {}⟩, ⟨⟨some 23, (.mov (.t 6)), none⟩, {}⟩, ⟨⟨some 24, (.sslc (.t 22) (some (.t 23)) none), none⟩, {}⟩, ⟨⟨some 25, (.call (.c (.fn 31 [])) [(.t 24), (.c (.v (.string ⟨⟨[10]⟩⟩)))]), none⟩, {}⟩, ⟨⟨some 21, (.mov (.t 25)), none⟩, {}⟩, ⟨⟨some
  26, (.extr 0 (.t 21)), none⟩, {}⟩, ⟨⟨some 27, (.extr 1 (.t 21)), none⟩, {}⟩, ⟨⟨some 28, (.extr 2 (.t 21)), none⟩, {}⟩, ⟨⟨some 8, (.mov (.t 26)), none⟩, {}⟩, ⟨⟨some 9, (.mov (.t 27)), none⟩, {}⟩, ⟨⟨some 10, (.mov (.t 28)), none⟩, {}⟩] none) survey_Parse_C3)) survey_Parse_C4)
def survey_Parse_C18 : TC := .ret
def survey_Parse_C13 : TC := (.pre [.frz 2] survey_Parse_C18)
def survey_Parse_C8 : TC := (.cond (.t 18) (.seq (.rg [⟨⟨some 2, (.mov (.c (.lst true []))), none⟩, {}⟩, ⟨⟨some 3, (.mov (.c (I 0))), none⟩, {}⟩, ⟨⟨some 4, (.mov (.c (I 2))), none⟩, {}⟩] none) survey_Parse_C13) .skip)
def survey_Parse_C23 : TC := (.block 0 (.loop survey_Parse_N1 survey_Parse_C1))
def survey_Parse_C19 : TC := (.seq (.rg [⟨⟨some 7, (.mov (.c (I 1))), none⟩, {}⟩] none) survey_Parse_C23)
def survey_Parse_C14 : TC := (.seq (.rg [⟨⟨some 6, (.mov (.c (I 0))), none⟩, {}⟩] none) survey_Parse_C19)
def survey_Parse_C9 : TC := (.seq (.rg [⟨⟨some 5, (.mov (.c (.lst true []))), none⟩, {}⟩] none) survey_Parse_C14)
def survey_Parse_C5 : TC := (.seq (.seq (.rg [⟨⟨some 16, (.mov (.t 0)), none⟩, {}⟩, ⟨⟨some 17, (.lens (.t 16)), none⟩, {}⟩, ⟨⟨some 18, (.bin .gtr (.t 17) (.c (I 65536))), none⟩, {}⟩] none) survey_Parse_C8) survey_Parse_C9)
def survey_Parse_C2 : TC := (.seq (.rg [⟨⟨some 2, (.mov (.c (.lst true []))), none⟩, {}⟩, ⟨⟨some 3, (.mov (.c (I 0))), none⟩, {}⟩, ⟨⟨some 4, (.mov (.c (I 0))), none⟩, {}⟩] none) survey_Parse_C5)
def survey_Parse_E (N : Nat) : List (Nat × Ent) := [(31, pureE [.str, .str] [.str, .str, .bool] (fun x => strings_Cut N x.1 x.2)), (32, pureE [.str, .str] [(.list .str)] (fun x => strings_Split N x.1 x.2)), (33, pureE [(.list .str), (.int .i64)] [(.list (.int .i64)), .bool] (fun x => survey_numbers N x.1 x.2)), (7, pureE [.str] [(.int .i64)] (fun x => survey_Sum N x)), (34, pureE [.str] [G_Edit, .bool] (fun x => survey_read N x))]
def survey_Parse_L1 (N : Nat) (n : Nat) (x1 : List UInt8) (x2 : Int) (x3 : Int) (x4 : List T_Edit) : Option ((List T_Edit) × Int × Int) := loopN (normI 0 survey_Parse_N1) (run (survey_Parse_E N) N 0 survey_Parse_C1) n ⟨[(0, .str x1), (5, .whole 0), (6, .int .i64 x2), (7, .int .i64 x3)], [some (.arr G_Edit x4)]⟩ (blkK 0 (fin [(.t 2), (.t 3), (.t 4)] [(.list G_Edit), (.int .i64), (.int .i64)]))
theorem survey_Parse_L1_succ (N : Nat) (n1 : Nat) (x1 : List UInt8) (x2 : Int) (x3 : Int) (x4 : List T_Edit) : survey_Parse_L1 N (n1 + 1) x1 x2 x3 x4 =
  bif slB x2 x1.length x1.length then
  Option.bind (strings_Cut N (x1.drop x2.toNat) [10]) fun r6 =>
  bif (!r6.2.2) then
    some ([], x3, 6)
  else
    Option.bind (strings_Split N r6.1 [32]) fun r7 =>
    bif inB 0 r7.length then
    bif ((r7.getD (0 : Int).toNat []) == ([115, 117, 109] : List UInt8)) then
      bif slB 1 r7.length r7.length then
      Option.bind (survey_numbers N (r7.drop (1 : Int).toNat) 1) fun r10 =>
      bif (!r10.2) then
        some ([], x3, 6)
      else
        bif inB 0 r10.1.length then
        bif slB 0 x2 x1.length then
        Option.bind (survey_Sum N (x1.take x2.toNat)) fun r13 =>
        bif ((r10.1.getD (0 : Int).toNat 0) != r13) then
          some ([], x3, 7)
        else
          bif (decide ((W ((W (x2 + (r6.1.length : Int))) + 1)) < (x1.length : Int))) then
            some ([], W (x3 + 1), 6)
          else
            some (x4, 0, 0)
        else none
        else none
      else none
    else
      Option.bind (survey_read N r6.1) fun r15 =>
      bif (!r15.2) then
        some ([], x3, 6)
      else
        bif (decide (x3 > 1000)) then
          some ([], x3, 2)
        else
          bif fitsB (x4.length + 1) 120 then
          survey_Parse_L1 N n1 x1 (W (x2 + (W ((r6.1.length : Int) + 1)))) (W (x3 + 1)) (x4 ++ [r15.1])
          else none
    else none
  else none := by kernel_rfl
def survey_Parse (N : Nat) (a0 : List UInt8) : Option ((List T_Edit) × Int × Int) :=
  bif (decide ((a0.length : Int) > 65536)) then
    some ([], 0, 2)
  else
    survey_Parse_L1 N N a0 0 1 []
theorem survey_Parse_fn : FnOK Tryd.prog 14 87 (fun _ : Nat => false) survey_Parse_C2.er [(.t 2), (.t 3), (.t 4)] := FnOK.mk' Tryd.func14 (by kernel_rfl) (by kernel_rfl) (by kernel_rfl) (by kernel_rfl) (by kernel_rfl)
theorem survey_Parse_envok (N : Nat) : EnvOK Tryd.prog (survey_Parse_E N) := .cons (pureE_ok (strings_Cut_pure N)) (.cons (pureE_ok (strings_Split_pure N)) (.cons (pureE_ok (survey_numbers_pure N)) (.cons (pureE_ok (survey_Sum_pure N)) (.cons (pureE_ok (survey_read_pure N)) (.nil)))))
theorem survey_Parse_pure (N : Nat) : PureOK Tryd.prog 14 [.str] [(.list G_Edit), (.int .i64), (.int .i64)] (fun x => survey_Parse N x) := pureOK (N := N) mixed survey_Parse_fn (survey_Parse_envok N) (TC.noh_ok (by kernel_rfl)) rfl (fun x => by kernel_rfl)
/-! ref02_Same -/
def ref02_Same_N1 : List NS := [.wk 0 (.list G_Edit), .wk 1 (.list G_Edit), .keep [0, 1, 5], .cmp]
def ref02_Same_C4 : TC := (.cond (.t 14) .skip (.exit 0))
def ref02_Same_C12 : TC := .ret
def ref02_Same_C8 : TC := (.cond (.t 25) (.seq (.rg [⟨⟨some 4, (.mov (.c (B false))), none⟩, {}⟩] none) ref02_Same_C12) .skip)
def ref02_Same_C9 : TC := (.rg [⟨⟨some 15, (.mov (.t 5)), none⟩, {}⟩, ⟨⟨some 16, (.bin .add (.t 15) (.c (I 1))), none⟩, {}⟩, ⟨⟨some 5, (.mov (.t 16)), none⟩, {}⟩] none)
def ref02_Same_C5 : TC := (.seq (.block 1 (.seq (.rg [⟨⟨some 17, (.mov (.t 0)), none⟩, {}⟩, ⟨⟨some 18, (.mov (.t 5)), none⟩, {}⟩, ⟨⟨some 19, (.iadrS 16 (.t 17) (.t 18)), none⟩, {}⟩, ⟨⟨some 20, (.load true 16 (.t 19)), none⟩, {}⟩, ⟨⟨some 21, (.mov (.t 1)), none⟩, {}⟩, ⟨⟨some 22, (.mov (.t 5)), none⟩, {}⟩, ⟨⟨some 23, (.iadrS 16
  (.t 21) (.t 22)), none⟩, {}⟩, ⟨⟨some 24, (.load true 16 (.t 23)), none⟩, {}⟩, ⟨⟨some 25, (.eqa true [(0, 1), (1, 1), (2, 0), (3, 1), (4, 1), (5, 1), (6, 1), (7, 0), (8, 0), (9, 1), (10, 1), (11, 1), (12, 1), (13, 1), (14, 1), (15, 1)] (.t 20) (.t 24)), none⟩, {}⟩] (some [])) ref02_Same_C8))
  ref02_Same_C9)
def ref02_Same_C1 : TC := (.seq (.seq (.rg [⟨⟨some 11, (.mov (.t 5)), none⟩, {}⟩, ⟨⟨some 12, (.mov (.t 0)), none⟩, {}⟩, ⟨⟨some 13, (.len (.t 12)), none⟩, {}⟩, ⟨⟨some 14, (.bin .lss (.t 11) (.t 13)), none⟩, {}⟩] none) ref02_Same_C4) ref02_Same_C5)
def ref02_Same_C6 : TC := .ret
def ref02_Same_C2 : TC := (.seq (.rg [⟨⟨some 4, (.mov (.c (B true))), none⟩, {}⟩] none) ref02_Same_C6)
def ref02_Same_C13 : TC := .ret
def ref02_Same_C10 : TC := (.cond (.t 10) (.seq (.rg [⟨⟨some 4, (.mov (.c (B false))), none⟩, {}⟩] none) ref02_Same_C13) .skip)
def ref02_Same_C14 : TC := (.block 0 (.loop ref02_Same_N1 ref02_Same_C1))
def ref02_Same_C11 : TC := (.seq (.seq (.rg [⟨⟨some 5, (.mov (.c (I 0))), none⟩, {}⟩] none) ref02_Same_C14) ref02_Same_C2)
def ref02_Same_C7 : TC := (.seq (.seq (.rg [⟨⟨some 6, (.mov (.t 0)), none⟩, {}⟩, ⟨⟨some 7, (.len (.t 6)), none⟩, {}⟩, ⟨⟨some 8, (.mov (.t 1)), none⟩, {}⟩, ⟨⟨some 9, (.len (.t 8)), none⟩, {}⟩, ⟨⟨some 10, (.bin .neq (.t 7) (.t 9)), none⟩, {}⟩] none) ref02_Same_C10) ref02_Same_C11)
def ref02_Same_C3 : TC := (.seq (.rg [⟨⟨some 4, (.mov (.c (B false))), none⟩, {}⟩] none) ref02_Same_C7)
def ref02_Same_E (N : Nat) : List (Nat × Ent) := []
def ref02_Same_L1 (N : Nat) (n : Nat) (x1 : List T_Edit) (x2 : List T_Edit) (x3 : Int) : Option Bool := loopN (normI 0 ref02_Same_N1) (run (ref02_Same_E N) N 0 ref02_Same_C1) n ⟨[(0, .lst false G_Edit x1), (1, .lst false G_Edit x2), (5, .int .i64 x3)], []⟩ (blkK 0 (seqK (run (ref02_Same_E N) N 0 ref02_Same_C2) (fin [(.t 4)] [.bool])))
def ref02_Same (N : Nat) (a0 : List T_Edit) (a1 : List T_Edit) : Option Bool :=
  bif ((a0.length : Int) != (a1.length : Int)) then
    some false
  else
    ref02_Same_L1 N N a0 a1 0
theorem ref02_Same_fn : FnOK Tryd.prog 15 26 (fun _ : Nat => false) ref02_Same_C3.er [(.t 4)] := FnOK.mk' Tryd.func15 (by kernel_rfl) (by kernel_rfl) (by kernel_rfl) (by kernel_rfl) (by kernel_rfl)
theorem ref02_Same_envok (N : Nat) : EnvOK Tryd.prog (ref02_Same_E N) := .nil
theorem ref02_Same_pure (N : Nat) : PureOK Tryd.prog 15 [(.list G_Edit), (.list G_Edit)] [.bool] (fun x => ref02_Same N x.1 x.2) := pureOK (N := N) mixed ref02_Same_fn (ref02_Same_envok N) (TC.noh_ok (by kernel_rfl)) rfl (fun x => by kernel_rfl)
/-! law02_awake -/
def law02_awake_C6 : TC := .ret
def law02_awake_C5 : TC := (.seq (.rg [⟨⟨some 22, (.mov (.t 3)), none⟩, {}⟩, ⟨⟨some 23, (.bin .eql (.t 22) (.c (I 0))), none⟩, {}⟩, ⟨⟨some 24, (.mov (.t 23)), none⟩, {}⟩, ⟨⟨some 25, (.call (.c (.fn 7 [])) [(.c (.v (.string ⟨⟨[]⟩⟩)))]), some (24, true)⟩, {}⟩, ⟨⟨some 26, (.bin .eql (.t 25) (.c (I 1))), some (24, true)⟩, {}⟩,
  ⟨⟨some 27, (.pick (.t 24) (.t 26) (.c (B false))), none⟩, {}⟩, ⟨⟨some 28, (.mov (.t 27)), none⟩, {}⟩, ⟨⟨some 29, (.call (.c (.fn 7 [])) [(.c (.v (.string ⟨⟨[97]⟩⟩)))]), some (28, true)⟩, {}⟩, ⟨⟨some 30, (.bin .eql (.t 29) (.c (I 128))), some (28, true)⟩, {}⟩, ⟨⟨some 31, (.pick (.t 28) (.t 30) (.c
  (B false))), none⟩, {}⟩, ⟨⟨some 32, (.mov (.t 31)), none⟩, {}⟩, ⟨⟨some 33, (.mov (.t 2)), some (32, true)⟩, {}⟩, ⟨⟨some 34, (.lens (.t 33)), some (32, true)⟩, {}⟩, ⟨⟨some 35, (.bin .gtr (.t 34) (.c (I 25))), some (32, true)⟩, {}⟩, ⟨⟨some 36, (.pick (.t 32) (.t 35) (.c (B false))), none⟩, {}⟩,
  ⟨⟨some 37, (.mov (.t 36)), none⟩, {}⟩, ⟨⟨some 38, (.mov (.t 2)), some (37, true)⟩, {}⟩, ⟨⟨some 39, (.sslc (.t 38) none (some (.c (I 15)))), some (37, true)⟩, {}⟩, ⟨⟨some 40, (.bin .eql (.t 39) (.c (.v (.string ⟨⟨[112, 108, 97, 99, 101, 32, 45, 51, 32, 98, 101, 108, 111, 119, 10]⟩⟩)))), some (37,
  true)⟩, {}⟩, ⟨⟨some 41, (.pick (.t 37) (.t 40) (.c (B false))), none⟩, {}⟩, ⟨⟨some 42, (.mov (.t 41)), none⟩, {}⟩, ⟨⟨some 43, (.mov (.t 6)), some (42, true)⟩, {}⟩, ⟨⟨some 44, (.bin .eql (.t 43) (.c (I 0))), some (42, true)⟩, {}⟩, ⟨⟨some 45, (.pick (.t 42) (.t 44) (.c (B false))), none⟩, {}⟩, ⟨⟨some
  46, (.mov (.t 45)), none⟩, {}⟩, ⟨⟨some 47, (.mov (.t 5)), some (46, true)⟩, {}⟩, ⟨⟨some 48, (.bin .eql (.t 47) (.c (I 0))), some (46, true)⟩, {}⟩, ⟨⟨some 49, (.pick (.t 46) (.t 48) (.c (B false))), none⟩, {}⟩, ⟨⟨some 50, (.mov (.t 49)), none⟩, {}⟩, ⟨⟨some 51, (.mov (.t 4)), some (50, true)⟩, {}⟩,
  ⟨⟨some 52, (.mov (.t 1)), some (50, true)⟩, {}⟩, ⟨⟨some 53, (.call (.c (.fn 15 [])) [(.t 51), (.t 52)]), some (50, true)⟩, {}⟩, ⟨⟨some 54, (.pick (.t 50) (.t 53) (.c (B false))), none⟩, {}⟩, ⟨⟨some 0, (.mov (.t 54)), none⟩, {}⟩] none) law02_awake_C6)
def law02_awake_C4 : TC := (.seq (.rg [⟨⟨some 17, (.mov (.t 2)), none⟩, {}⟩, ⟨⟨some 18, (.call (.c (.fn 14 [])) [(.t 17)]), none⟩, {}⟩, ⟨⟨some 16, (.mov (.t 18)), none⟩, {}⟩, ⟨⟨some 19, (.extr 0 (.t 16)), none⟩, {}⟩, ⟨⟨some 20, (.extr 1 (.t 16)), none⟩, {}⟩, ⟨⟨some 21, (.extr 2 (.t 16)), none⟩, {}⟩, ⟨⟨some 4, (.mov (.t 19)),
  none⟩, {}⟩, ⟨⟨some 5, (.mov (.t 20)), none⟩, {}⟩, ⟨⟨some 6, (.mov (.t 21)), none⟩, {}⟩] none) law02_awake_C5)
def law02_awake_C3 : TC := (.seq (.rg [⟨⟨some 12, (.mov (.t 1)), none⟩, {}⟩, ⟨⟨some 13, (.call (.c (.fn 12 [])) [(.t 12)]), none⟩, {}⟩, ⟨⟨some 11, (.mov (.t 13)), none⟩, {}⟩, ⟨⟨some 14, (.extr 0 (.t 11)), none⟩, {}⟩, ⟨⟨some 15, (.extr 1 (.t 11)), none⟩, {}⟩, ⟨⟨some 2, (.mov (.t 14)), none⟩, {}⟩, ⟨⟨some 3, (.mov (.t 15)),
  none⟩, {}⟩] none) law02_awake_C4)
def law02_awake_C2 : TC := (.seq (.rg [⟨⟨some 7, (.build [(I 0), (B false)] [(0, (1, (.c (I (-3)))))]), none⟩, {}⟩, ⟨⟨some 8, (.build [(I 0), (I 0), (B false), (I 0), (I 0), (I 0), (I 0), (B false), (B false), (I 0), (I 0), (I 0), (I 0), (I 0), (I 0), (I 0)] [(0, (1, (.c (I 1)))), (1, (2, (.t 7)))]), none⟩, {}⟩, ⟨⟨some 9,
  (.build [(I 0), (I 0), (B false), (I 0), (I 0), (I 0), (I 0), (B false), (B false), (I 0), (I 0), (I 0), (I 0), (I 0), (I 0), (I 0)] [(0, (1, (.c (I 3)))), (13, (1, (.c (I 7))))]), none⟩, {}⟩, ⟨⟨some 10, (.bslice false 16 [(I 0), (I 0), (B false), (I 0), (I 0), (I 0), (I 0), (B false), (B false),
  (I 0), (I 0), (I 0), (I 0), (I 0), (I 0), (I 0)] 2 [(0, (.t 8)), (1, (.t 9))]), none⟩, ⟨G_Edit, none, []⟩⟩, ⟨⟨some 1, (.mov (.t 10)), none⟩, {}⟩] none) law02_awake_C3)
def law02_awake_C1 : TC := (.seq (.rg [⟨⟨some 0, (.mov (.c (B false))), none⟩, {}⟩] none) law02_awake_C2)
def law02_awake_E (N : Nat) : List (Nat × Ent) := [(12, pureE [.list G_Edit] [.str, .int .i64] (fun x => survey_Print N x)), (14, pureE [.str] [(.list G_Edit), (.int .i64), (.int .i64)] (fun x => survey_Parse N x)), (7, pureE [.str] [(.int .i64)] (fun x => survey_Sum N x)), (15, pureE [(.list G_Edit), (.list G_Edit)] [.bool] (fun x => ref02_Same N x.1 x.2))]
def law02_awake (N : Nat) : Option Bool :=
  Option.bind (survey_Print N [(1, (((-3), false), ((0, (0, (0, (0, (false, (false, ((0, 0), (0, 0)))))))), (0, (0, 0))))), (3, ((0, false), ((0, (0, (0, (0, (false, (false, ((0, 0), (0, 0)))))))), (7, (0, 0)))))]) fun r1 =>
  Option.bind (survey_Parse N r1.1) fun r2 =>
  bif (r1.2 == 0) then
    Option.bind (survey_Sum N []) fun r3 =>
    bif (r3 == 1) then
      Option.bind (survey_Sum N [97]) fun r4 =>
      bif (r4 == 128) then
        bif (decide ((r1.1.length : Int) > 25)) then
          bif slB 0 15 r1.1.length then
          bif ((r1.1.take (15 : Int).toNat) == ([112, 108, 97, 99, 101, 32, 45, 51, 32, 98, 101, 108, 111, 119, 10] : List UInt8)) then
            bif (r2.2.2 == 0) then
              bif (r2.2.1 == 0) then
                Option.bind (ref02_Same N r2.1 [(1, (((-3), false), ((0, (0, (0, (0, (false, (false, ((0, 0), (0, 0)))))))), (0, (0, 0))))), (3, ((0, false), ((0, (0, (0, (0, (false, (false, ((0, 0), (0, 0)))))))), (7, (0, 0)))))]) fun r6 =>
                some r6
              else
                some false
            else
              some false
          else
            some false
          else none
        else
          some false
      else
        some false
    else
      some false
  else
    some false
theorem law02_awake_fn : FnOK Tryd.prog 9 55 (fun _ : Nat => false) law02_awake_C1.er [(.t 0)] := FnOK.mk' Tryd.func9 (by kernel_rfl) (by kernel_rfl) (by kernel_rfl) (by kernel_rfl) (by kernel_rfl)
theorem law02_awake_envok (N : Nat) : EnvOK Tryd.prog (law02_awake_E N) := .cons (pureE_ok (survey_Print_pure N)) (.cons (pureE_ok (survey_Parse_pure N)) (.cons (pureE_ok (survey_Sum_pure N)) (.cons (pureE_ok (ref02_Same_pure N)) (.nil))))
theorem law02_awake_pure (N : Nat) : PureOK Tryd.prog 9 [] [.bool] (fun x => law02_awake N) := pureOK (N := N) mixed law02_awake_fn (law02_awake_envok N) (TC.noh_ok (by kernel_rfl)) rfl (fun x => by kernel_rfl)
/-! law02_SurveySums -/
def law02_SurveySums_C3 : TC := .ret
def law02_SurveySums_C2 : TC := (.seq (.rg [⟨⟨some 5, (.mov (.t 0)), none⟩, {}⟩, ⟨⟨some 6, (.call (.c (.fn 7 [])) [(.t 5)]), none⟩, {}⟩, ⟨⟨some 7, (.mov (.t 0)), none⟩, {}⟩, ⟨⟨some 8, (.call (.c (.fn 8 [])) [(.t 7)]), none⟩, {}⟩, ⟨⟨some 9, (.bin .eql (.t 6) (.t 8)), none⟩, {}⟩, ⟨⟨some 10, (.mov (.t 9)), none⟩, {}⟩, ⟨⟨some 11, (.mov
  (.t 0)), some (10, true)⟩, {}⟩, ⟨⟨some 12, (.mov (.t 1)), some (10, true)⟩, {}⟩, ⟨⟨some 13, (.bin .add (.t 11) (.t 12)), some (10, true)⟩, {}⟩, ⟨⟨some 14, (.call (.c (.fn 7 [])) [(.t 13)]), some (10, true)⟩, {}⟩, ⟨⟨some 15, (.mov (.t 0)), some (10, true)⟩, {}⟩, ⟨⟨some 16, (.mov (.t 1)), some (10,
  true)⟩, {}⟩, ⟨⟨some 17, (.bin .add (.t 15) (.t 16)), some (10, true)⟩, {}⟩, ⟨⟨some 18, (.call (.c (.fn 8 [])) [(.t 17)]), some (10, true)⟩, {}⟩, ⟨⟨some 19, (.bin .eql (.t 14) (.t 18)), some (10, true)⟩, {}⟩, ⟨⟨some 20, (.pick (.t 10) (.t 19) (.c (B false))), none⟩, {}⟩, ⟨⟨some 21, (.mov (.t 20)),
  none⟩, {}⟩, ⟨⟨some 22, (.call (.c (.fn 9 [])) []), some (21, true)⟩, {}⟩, ⟨⟨some 23, (.pick (.t 21) (.t 22) (.c (B false))), none⟩, {}⟩, ⟨⟨some 4, (.mov (.t 23)), none⟩, {}⟩] none) law02_SurveySums_C3)
def law02_SurveySums_C1 : TC := (.seq (.rg [⟨⟨some 4, (.mov (.c (B false))), none⟩, {}⟩] none) law02_SurveySums_C2)
def law02_SurveySums_E (N : Nat) : List (Nat × Ent) := [(7, pureE [.str] [(.int .i64)] (fun x => survey_Sum N x)), (8, pureE [.str] [(.int .i64)] (fun x => ref02_Sum N x)), (9, pureE [] [.bool] (fun x => law02_awake N))]
def law02_SurveySums (N : Nat) (a0 : List UInt8) (a1 : List UInt8) : Option Bool :=
  Option.bind (survey_Sum N a0) fun r1 =>
  Option.bind (ref02_Sum N a0) fun r2 =>
  bif (r1 == r2) then
    bif decide (a0.length + a1.length ≤ 9223372036854775807) then
    Option.bind (survey_Sum N (a0 ++ a1)) fun r4 =>
    bif decide (a0.length + a1.length ≤ 9223372036854775807) then
    Option.bind (ref02_Sum N (a0 ++ a1)) fun r6 =>
    bif (r4 == r6) then
      Option.bind (law02_awake N) fun r7 =>
      some r7
    else
      some false
    else none
    else none
  else
    some false
theorem law02_SurveySums_fn : FnOK Tryd.prog 3 24 (fun _ : Nat => false) law02_SurveySums_C1.er [(.t 4)] := FnOK.mk' Tryd.func3 (by kernel_rfl) (by kernel_rfl) (by kernel_rfl) (by kernel_rfl) (by kernel_rfl)
theorem law02_SurveySums_envok (N : Nat) : EnvOK Tryd.prog (law02_SurveySums_E N) := .cons (pureE_ok (survey_Sum_pure N)) (.cons (pureE_ok (ref02_Sum_pure N)) (.cons (pureE_ok (law02_awake_pure N)) (.nil)))
theorem law02_SurveySums_pure (N : Nat) : PureOK Tryd.prog 3 [.str, .str] [.bool] (fun x => law02_SurveySums N x.1 x.2) := pureOK (N := N) mixed law02_SurveySums_fn (law02_SurveySums_envok N) (TC.noh_ok (by kernel_rfl)) rfl (fun x => by kernel_rfl)
/-! draw_New -/
/-! draw_Codes_Next -/
/-! draw_Codes_Range -/
/-! draw_Codes_One -/
/-! draw_Codes_Road -/
/-! draw_Codes_Mine -/
/-! draw_Codes_Edit -/
/-! draw_Codes_Edits -/
/-! ref02_short -/
def ref02_short_N1 : List NS := [.wk 0 (.list (.int .i64)), .keep [0, 3], .cmp]
def ref02_short_C4 : TC := (.cond (.t 7) .skip (.exit 0))
def ref02_short_C11 : TC := .ret
def ref02_short_C8 : TC := (.cond (.t 21) (.seq (.rg [⟨⟨some 2, (.mov (.c (B false))), none⟩, {}⟩] none) ref02_short_C11) .skip)
def ref02_short_C9 : TC := (.rg [⟨⟨some 8, (.mov (.t 3)), none⟩, {}⟩, ⟨⟨some 9, (.bin .add (.t 8) (.c (I 1))), none⟩, {}⟩, ⟨⟨some 3, (.mov (.t 9)), none⟩, {}⟩] none)
def ref02_short_C5 : TC := (.seq (.block 1 (.seq (.rg [⟨⟨some 10, (.mov (.t 0)), none⟩, {}⟩, ⟨⟨some 11, (.mov (.t 3)), none⟩, {}⟩, ⟨⟨some 12, (.iadrS 1 (.t 10) (.t 11)), none⟩, {}⟩, ⟨⟨some 13, (.load false 1 (.t 12)), none⟩, {}⟩, ⟨⟨some 14, (.bin .leq (.t 13) (.c (I (-1000000000000000000)))), none⟩, {}⟩, ⟨⟨some 15, (.mov (.t
  14)), none⟩, {}⟩, ⟨⟨some 16, (.mov (.t 0)), some (15, false)⟩, {}⟩, ⟨⟨some 17, (.mov (.t 3)), some (15, false)⟩, {}⟩, ⟨⟨some 18, (.iadrS 1 (.t 16) (.t 17)), some (15, false)⟩, {}⟩, ⟨⟨some 19, (.load false 1 (.t 18)), some (15, false)⟩, {}⟩, ⟨⟨some 20, (.bin .geq (.t 19) (.c (I
  1000000000000000000))), some (15, false)⟩, {}⟩, ⟨⟨some 21, (.pick (.t 15) (.c (B true)) (.t 20)), none⟩, {}⟩] none) ref02_short_C8)) ref02_short_C9)
def ref02_short_C1 : TC := (.seq (.seq (.rg [⟨⟨some 4, (.mov (.t 3)), none⟩, {}⟩, ⟨⟨some 5, (.mov (.t 0)), none⟩, {}⟩, ⟨⟨some 6, (.len (.t 5)), none⟩, {}⟩, ⟨⟨some 7, (.bin .lss (.t 4) (.t 6)), none⟩, {}⟩] none) ref02_short_C4) ref02_short_C5)
def ref02_short_C6 : TC := .ret
def ref02_short_C2 : TC := (.seq (.rg [⟨⟨some 2, (.mov (.c (B true))), none⟩, {}⟩] none) ref02_short_C6)
def ref02_short_E (N : Nat) : List (Nat × Ent) := []
def ref02_short_L1 (N : Nat) (n : Nat) (x1 : List Int) (x2 : Int) : Option Bool := loopN (normI 0 ref02_short_N1) (run (ref02_short_E N) N 0 ref02_short_C1) n ⟨[(0, .lst false (.int .i64) x1), (3, .int .i64 x2)], []⟩ (blkK 0 (seqK (run (ref02_short_E N) N 0 ref02_short_C2) (fin [(.t 2)] [.bool])))
theorem ref02_short_L1_succ (N : Nat) (n1 : Nat) (x1 : List Int) (x2 : Int) : ref02_short_L1 N (n1 + 1) x1 x2 =
  bif (decide (x2 < (x1.length : Int))) then
    bif inB x2 x1.length then
    bif (decide ((x1.getD x2.toNat 0) ≤ (-1000000000000000000))) then
      some false
    else
      bif inB x2 x1.length then
      bif (decide ((x1.getD x2.toNat 0) ≥ 1000000000000000000)) then
        some false
      else
        ref02_short_L1 N n1 x1 (W (x2 + 1))
      else none
    else none
  else
    some true := by kernel_rfl
def ref02_short (N : Nat) (a0 : List Int) : Option Bool :=
  ref02_short_L1 N N a0 0
/-! ref02_Plain -/
def ref02_Plain_C5 : TC := .ret
def ref02_Plain_C3 : TC := (.seq (.rg [⟨⟨some 39, (.load true 16 (.t 3)), none⟩, {}⟩, ⟨⟨some 40, (.load true 16 (.t 1)), none⟩, {}⟩, ⟨⟨some 41, (.eqa false [(0, 1), (1, 1), (2, 0), (3, 1), (4, 1), (5, 1), (6, 1), (7, 0), (8, 0), (9, 1), (10, 1), (11, 1), (12, 1), (13, 1), (14, 1), (15, 1)] (.t 39) (.t 40)), none⟩, {}⟩, ⟨⟨some
  42, (.mov (.t 41)), none⟩, {}⟩, ⟨⟨some 43, (.fadr 1 (.t 1)), some (42, true)⟩, {}⟩, ⟨⟨some 44, (.fadr 0 (.t 43)), some (42, true)⟩, {}⟩, ⟨⟨some 45, (.load false 1 (.t 44)), some (42, true)⟩, {}⟩, ⟨⟨some 46, (.fadr 13 (.t 1)), some (42, true)⟩, {}⟩, ⟨⟨some 47, (.load false 1 (.t 46)), some (42,
  true)⟩, {}⟩, ⟨⟨some 48, (.fadr 14 (.t 1)), some (42, true)⟩, {}⟩, ⟨⟨some 49, (.fadr 0 (.t 48)), some (42, true)⟩, {}⟩, ⟨⟨some 50, (.load false 1 (.t 49)), some (42, true)⟩, {}⟩, ⟨⟨some 51, (.fadr 14 (.t 1)), some (42, true)⟩, {}⟩, ⟨⟨some 52, (.fadr 1 (.t 51)), some (42, true)⟩, {}⟩, ⟨⟨some 53,
  (.load false 1 (.t 52)), some (42, true)⟩, {}⟩, ⟨⟨some 54, (.fadr 0 (.t 4)), some (42, true)⟩, {}⟩, ⟨⟨some 55, (.load false 1 (.t 54)), some (42, true)⟩, {}⟩, ⟨⟨some 56, (.fadr 1 (.t 4)), some (42, true)⟩, {}⟩, ⟨⟨some 57, (.load false 1 (.t 56)), some (42, true)⟩, {}⟩, ⟨⟨some 58, (.fadr 2 (.t 4)),
  some (42, true)⟩, {}⟩, ⟨⟨some 59, (.load false 1 (.t 58)), some (42, true)⟩, {}⟩, ⟨⟨some 60, (.fadr 3 (.t 4)), some (42, true)⟩, {}⟩, ⟨⟨some 61, (.load false 1 (.t 60)), some (42, true)⟩, {}⟩, ⟨⟨some 62, (.fadr 6 (.t 4)), some (42, true)⟩, {}⟩, ⟨⟨some 63, (.fadr 0 (.t 62)), some (42, true)⟩, {}⟩,
  ⟨⟨some 64, (.load false 1 (.t 63)), some (42, true)⟩, {}⟩, ⟨⟨some 65, (.fadr 6 (.t 4)), some (42, true)⟩, {}⟩, ⟨⟨some 66, (.fadr 1 (.t 65)), some (42, true)⟩, {}⟩, ⟨⟨some 67, (.load false 1 (.t 66)), some (42, true)⟩, {}⟩, ⟨⟨some 68, (.fadr 8 (.t 4)), some (42, true)⟩, {}⟩, ⟨⟨some 69, (.fadr 0 (.t
  68)), some (42, true)⟩, {}⟩, ⟨⟨some 70, (.load false 1 (.t 69)), some (42, true)⟩, {}⟩, ⟨⟨some 71, (.fadr 8 (.t 4)), some (42, true)⟩, {}⟩, ⟨⟨some 72, (.fadr 1 (.t 71)), some (42, true)⟩, {}⟩, ⟨⟨some 73, (.load false 1 (.t 72)), some (42, true)⟩, {}⟩, ⟨⟨some 74, (.bslice false 1 [(I 0)] 12 [(0, (.t
  45)), (1, (.t 47)), (2, (.t 50)), (3, (.t 53)), (4, (.t 55)), (5, (.t 57)), (6, (.t 59)), (7, (.t 61)), (8, (.t 64)), (9, (.t 67)), (10, (.t 70)), (11, (.t 73))]), some (42, true)⟩, ⟨(.int .i64), none, []⟩⟩, ⟨⟨some 75, (.call (.c (.fn 44 [])) [(.t 74)]), some (42, true)⟩, {}⟩, ⟨⟨some 76, (.pick (.t
  42) (.t 75) (.c (B false))), none⟩, {}⟩, ⟨⟨some 2, (.mov (.t 76)), none⟩, {}⟩] none) ref02_Plain_C5)
def ref02_Plain_C1 : TC := (.seq (.rg [⟨⟨some 37, (.fadr 3 (.t 1)), none⟩, {}⟩, ⟨⟨some 38, (.load true 10 (.t 37)), none⟩, {}⟩, ⟨⟨some 4, (.alloc [(I 0), (I 0), (I 0), (I 0), (B false), (B false), (I 0), (I 0), (I 0), (I 0)]), none⟩, {}⟩, ⟨⟨none, (.store 10 (.t 4) (.t 38)), none⟩, {}⟩] none) ref02_Plain_C3)
def ref02_Plain_E (N : Nat) : List (Nat × Ent) := [(44, pureE [(.list (.int .i64))] [.bool] (fun x => ref02_short N x))]
def ref02_Plain_J1 (N : Nat) (x1 : Int) (x2 : Int) (x3 : Bool) (x4 : Int) (x5 : Int) (x6 : Int) (x7 : Int) (x8 : Bool) (x9 : Bool) (x10 : Int) (x11 : Int) (x12 : Int) (x13 : Int) (x14 : Int) (x15 : Int) (x16 : Int) (x17 : Int) (x18 : Int) (x19 : Bool) (x20 : Int) (x21 : Int) (x22 : Int) (x23 : Int) (x24 : Bool) (x25 : Bool) (x26 : Int) (x27 : Int) (x28 : Int) (x29 : Int) (x30 : Int) (x31 : Int) (x32 : Int) : Option Bool := joinN (run (ref02_Plain_E N) N 0 ref02_Plain_C1) N ⟨[(1, .ptr 0 0 0), (3, .ptr 1 0 0)], [some (.box 0 [.int .i64 x1, .int .i64 x2, .bool x3, .int .i64 x4, .int .i64 x5, .int .i64 x6, .int .i64 x7, .bool x8, .bool x9, .int .i64 x10, .int .i64 x11, .int .i64 x12, .int .i64 x13, .int .i64 x14, .int .i64 x15, .int .i64 x16]), some (.box 0 [.int .i64 x17, .int .i64 x18, .bool x19, .int .i64 x20, .int .i64 x21, .int .i64 x22, .int .i64 x23, .bool x24, .bool x25, .int .i64 x26, .int .i64 x27, .int .i64 x28, .int .i64 x29, .int .i64 x30, .int .i64 x31, .int .i64 x32])]⟩ (fin [(.t 2)] [.bool])
theorem ref02_Plain_J1_eqM (N : Nat) (JM : Nat) (x1 : Int) (x2 : Int) (x3 : Bool) (x4 : Int) (x5 : Int) (x6 : Int) (x7 : Int) (x8 : Bool) (x9 : Bool) (x10 : Int) (x11 : Int) (x12 : Int) (x13 : Int) (x14 : Int) (x15 : Int) (x16 : Int) (x17 : Int) (x18 : Int) (x19 : Bool) (x20 : Int) (x21 : Int) (x22 : Int) (x23 : Int) (x24 : Bool) (x25 : Bool) (x26 : Int) (x27 : Int) (x28 : Int) (x29 : Int) (x30 : Int) (x31 : Int) (x32 : Int) : joinN (run (ref02_Plain_E N) N 0 ref02_Plain_C1) (JM + 1) ⟨[(1, .ptr 0 0 0), (3, .ptr 1 0 0)], [some (.box 0 [.int .i64 x1, .int .i64 x2, .bool x3, .int .i64 x4, .int .i64 x5, .int .i64 x6, .int .i64 x7, .bool x8, .bool x9, .int .i64 x10, .int .i64 x11, .int .i64 x12, .int .i64 x13, .int .i64 x14, .int .i64 x15, .int .i64 x16]), some (.box 0 [.int .i64 x17, .int .i64 x18, .bool x19, .int .i64 x20, .int .i64 x21, .int .i64 x22, .int .i64 x23, .bool x24, .bool x25, .int .i64 x26, .int .i64 x27, .int .i64 x28, .int .i64 x29, .int .i64 x30, .int .i64 x31, .int .i64 x32])]⟩ (fin [(.t 2)] [.bool]) =
  bif ((x17 == x1) && ((x18 == x2) && ((x19 == x3) && ((x20 == x4) && ((x21 == x5) && ((x22 == x6) && ((x23 == x7) && ((x24 == x8) && ((x25 == x9) && ((x26 == x10) && ((x27 == x11) && ((x28 == x12) && ((x29 == x13) && ((x30 == x14) && ((x31 == x15) && (x32 == x16)))))))))))))))) then
    Option.bind (ref02_short N [x2, x14, x15, x16, x4, x5, x6, x7, x10, x11, x12, x13]) fun r33 =>
    some r33
  else
    some false := by kernel_rfl
theorem ref02_Plain_J1_eq (N : Nat) (x1 : Int) (x2 : Int) (x3 : Bool) (x4 : Int) (x5 : Int) (x6 : Int) (x7 : Int) (x8 : Bool) (x9 : Bool) (x10 : Int) (x11 : Int) (x12 : Int) (x13 : Int) (x14 : Int) (x15 : Int) (x16 : Int) (x17 : Int) (x18 : Int) (x19 : Bool) (x20 : Int) (x21 : Int) (x22 : Int) (x23 : Int) (x24 : Bool) (x25 : Bool) (x26 : Int) (x27 : Int) (x28 : Int) (x29 : Int) (x30 : Int) (x31 : Int) (x32 : Int) : ref02_Plain_J1 (N + 1) x1 x2 x3 x4 x5 x6 x7 x8 x9 x10 x11 x12 x13 x14 x15 x16 x17 x18 x19 x20 x21 x22 x23 x24 x25 x26 x27 x28 x29 x30 x31 x32 =
  bif ((x17 == x1) && ((x18 == x2) && ((x19 == x3) && ((x20 == x4) && ((x21 == x5) && ((x22 == x6) && ((x23 == x7) && ((x24 == x8) && ((x25 == x9) && ((x26 == x10) && ((x27 == x11) && ((x28 == x12) && ((x29 == x13) && ((x30 == x14) && ((x31 == x15) && (x32 == x16)))))))))))))))) then
    Option.bind (ref02_short (N + 1) [x2, x14, x15, x16, x4, x5, x6, x7, x10, x11, x12, x13]) fun r33 =>
    some r33
  else
    some false := ref02_Plain_J1_eqM (N + 1) N x1 x2 x3 x4 x5 x6 x7 x8 x9 x10 x11 x12 x13 x14 x15 x16 x17 x18 x19 x20 x21 x22 x23 x24 x25 x26 x27 x28 x29 x30 x31 x32
def ref02_Plain (N : Nat) (a0 : T_Edit) : Option Bool :=
  bif (a0.1 == 1) then
    ref02_Plain_J1 N a0.1 a0.2.1.1 a0.2.1.2 a0.2.2.1.1 a0.2.2.1.2.1 a0.2.2.1.2.2.1 a0.2.2.1.2.2.2.1 a0.2.2.1.2.2.2.2.1 a0.2.2.1.2.2.2.2.2.1 a0.2.2.1.2.2.2.2.2.2.1.1 a0.2.2.1.2.2.2.2.2.2.1.2 a0.2.2.1.2.2.2.2.2.2.2.1 a0.2.2.1.2.2.2.2.2.2.2.2 a0.2.2.2.1 a0.2.2.2.2.1 a0.2.2.2.2.2 a0.1 a0.2.1.1 a0.2.1.2 0 0 0 0 false false 0 0 0 0 0 0 0
  else
    bif (a0.1 == 2) then
      ref02_Plain_J1 N a0.1 a0.2.1.1 a0.2.1.2 a0.2.2.1.1 a0.2.2.1.2.1 a0.2.2.1.2.2.1 a0.2.2.1.2.2.2.1 a0.2.2.1.2.2.2.2.1 a0.2.2.1.2.2.2.2.2.1 a0.2.2.1.2.2.2.2.2.2.1.1 a0.2.2.1.2.2.2.2.2.2.1.2 a0.2.2.1.2.2.2.2.2.2.2.1 a0.2.2.1.2.2.2.2.2.2.2.2 a0.2.2.2.1 a0.2.2.2.2.1 a0.2.2.2.2.2 a0.1 0 false a0.2.2.1.1 a0.2.2.1.2.1 a0.2.2.1.2.2.1 a0.2.2.1.2.2.2.1 a0.2.2.1.2.2.2.2.1 false a0.2.2.1.2.2.2.2.2.2.1.1 a0.2.2.1.2.2.2.2.2.2.1.2 a0.2.2.1.2.2.2.2.2.2.2.1 a0.2.2.1.2.2.2.2.2.2.2.2 0 0 0
    else
      bif (a0.1 == 3) then
        ref02_Plain_J1 N a0.1 a0.2.1.1 a0.2.1.2 a0.2.2.1.1 a0.2.2.1.2.1 a0.2.2.1.2.2.1 a0.2.2.1.2.2.2.1 a0.2.2.1.2.2.2.2.1 a0.2.2.1.2.2.2.2.2.1 a0.2.2.1.2.2.2.2.2.2.1.1 a0.2.2.1.2.2.2.2.2.2.1.2 a0.2.2.1.2.2.2.2.2.2.2.1 a0.2.2.1.2.2.2.2.2.2.2.2 a0.2.2.2.1 a0.2.2.2.2.1 a0.2.2.2.2.2 a0.1 0 false 0 0 0 0 false false 0 0 0 0 a0.2.2.2.1 0 0
      else
        bif (a0.1 == 4) then
          ref02_Plain_J1 N a0.1 a0.2.1.1 a0.2.1.2 a0.2.2.1.1 a0.2.2.1.2.1 a0.2.2.1.2.2.1 a0.2.2.1.2.2.2.1 a0.2.2.1.2.2.2.2.1 a0.2.2.1.2.2.2.2.2.1 a0.2.2.1.2.2.2.2.2.2.1.1 a0.2.2.1.2.2.2.2.2.2.1.2 a0.2.2.1.2.2.2.2.2.2.2.1 a0.2.2.1.2.2.2.2.2.2.2.2 a0.2.2.2.1 a0.2.2.2.2.1 a0.2.2.2.2.2 a0.1 0 false 0 0 0 0 false false 0 0 0 0 a0.2.2.2.1 0 0
        else
          bif (a0.1 == 5) then
            ref02_Plain_J1 N a0.1 a0.2.1.1 a0.2.1.2 a0.2.2.1.1 a0.2.2.1.2.1 a0.2.2.1.2.2.1 a0.2.2.1.2.2.2.1 a0.2.2.1.2.2.2.2.1 a0.2.2.1.2.2.2.2.2.1 a0.2.2.1.2.2.2.2.2.2.1.1 a0.2.2.1.2.2.2.2.2.2.1.2 a0.2.2.1.2.2.2.2.2.2.2.1 a0.2.2.1.2.2.2.2.2.2.2.2 a0.2.2.2.1 a0.2.2.2.2.1 a0.2.2.2.2.2 a0.1 0 false 0 0 0 0 false false 0 0 0 0 a0.2.2.2.1 a0.2.2.2.2.1 a0.2.2.2.2.2
          else
            bif (a0.1 == 6) then
              ref02_Plain_J1 N a0.1 a0.2.1.1 a0.2.1.2 a0.2.2.1.1 a0.2.2.1.2.1 a0.2.2.1.2.2.1 a0.2.2.1.2.2.2.1 a0.2.2.1.2.2.2.2.1 a0.2.2.1.2.2.2.2.2.1 a0.2.2.1.2.2.2.2.2.2.1.1 a0.2.2.1.2.2.2.2.2.2.1.2 a0.2.2.1.2.2.2.2.2.2.2.1 a0.2.2.1.2.2.2.2.2.2.2.2 a0.2.2.2.1 a0.2.2.2.2.1 a0.2.2.2.2.2 a0.1 0 false 0 0 0 0 false false 0 0 0 0 a0.2.2.2.1 a0.2.2.2.2.1 a0.2.2.2.2.2
            else
              some false
/-! ref02_words -/
def ref02_words_N1 : List NS := [.wk 1 (.list (.int .i64)), .keep [0, 1, 5], .cmp]
def ref02_words_C4 : TC := (.cond (.t 9) .skip (.exit 0))
def ref02_words_C8 : TC := (.rg [⟨⟨some 10, (.mov (.t 5)), none⟩, {}⟩, ⟨⟨some 11, (.bin .add (.t 10) (.c (I 1))), none⟩, {}⟩, ⟨⟨some 5, (.mov (.t 11)), none⟩, {}⟩] none)
def ref02_words_C5 : TC := (.seq (.block 1 (.rg [⟨⟨some 12, (.mov (.t 0)), none⟩, {}⟩, ⟨⟨some 13, (.mov (.t 1)), none⟩, {}⟩, ⟨⟨some 14, (.mov (.t 5)), none⟩, {}⟩, ⟨⟨some 15, (.iadrS 1 (.t 13) (.t 14)), none⟩, {}⟩, ⟨⟨some 16, (.load false 1 (.t 15)), none⟩, {}⟩, ⟨⟨some 17, (.call (.c (.fn 43 [])) [(.t 16)]), none⟩, {}⟩, ⟨⟨some
  18, (.bin .add (.c (.v (.string ⟨⟨[32]⟩⟩))) (.t 17)), none⟩, {}⟩, ⟨⟨some 19, (.bin .add (.t 12) (.t 18)), none⟩, {}⟩, ⟨⟨some 0, (.mov (.t 19)), none⟩, {}⟩] none)) ref02_words_C8)
def ref02_words_C1 : TC := (.seq (.seq (.rg [⟨⟨some 6, (.mov (.t 5)), none⟩, {}⟩, ⟨⟨some 7, (.mov (.t 1)), none⟩, {}⟩, ⟨⟨some 8, (.len (.t 7)), none⟩, {}⟩, ⟨⟨some 9, (.bin .lss (.t 6) (.t 8)), none⟩, {}⟩] none) ref02_words_C4) ref02_words_C5)
def ref02_words_C6 : TC := .ret
def ref02_words_C2 : TC := (.seq (.rg [⟨⟨some 20, (.mov (.t 0)), none⟩, {}⟩, ⟨⟨some 4, (.mov (.t 20)), none⟩, {}⟩] none) ref02_words_C6)
def ref02_words_E (N : Nat) : List (Nat × Ent) := [(43, pureE [(.int .i64)] [.str] (fun x => strconv_Itoa N x))]
def ref02_words_L1 (N : Nat) (n : Nat) (x1 : List UInt8) (x2 : List Int) (x3 : Int) : Option (List UInt8) := loopN (normI 0 ref02_words_N1) (run (ref02_words_E N) N 0 ref02_words_C1) n ⟨[(0, .str x1), (1, .lst false (.int .i64) x2), (5, .int .i64 x3)], []⟩ (blkK 0 (seqK (run (ref02_words_E N) N 0 ref02_words_C2) (fin [(.t 4)] [.str])))
theorem ref02_words_L1_succ (N : Nat) (n1 : Nat) (x1 : List UInt8) (x2 : List Int) (x3 : Int) : ref02_words_L1 N (n1 + 1) x1 x2 x3 =
  bif (decide (x3 < (x2.length : Int))) then
    bif inB x3 x2.length then
    Option.bind (strconv_Itoa N (x2.getD x3.toNat 0)) fun r4 =>
    bif decide (([32] : List UInt8).length + r4.length ≤ 9223372036854775807) then
    let v5 := ([32] : List UInt8) ++ r4
    bif decide (x1.length + v5.length ≤ 9223372036854775807) then
    ref02_words_L1 N n1 (x1 ++ v5) x2 (W (x3 + 1))
    else none
    else none
    else none
  else
    some x1 := by kernel_rfl
def ref02_words (N : Nat) (a0 : List UInt8) (a1 : List Int) : Option (List UInt8) :=
  ref02_words_L1 N N a0 a1 0
/-! ref02_line -/
def ref02_line (N : Nat) (a0 : T_Edit) : Option (List UInt8) :=
  bif (a0.1 == 1) then
    bif a0.2.1.2 then
      Option.bind (ref02_words N [112, 108, 97, 99, 101] [a0.2.1.1]) fun r1 =>
      bif decide (r1.length + ([32, 115, 117, 114, 102, 97, 99, 101, 10] : List UInt8).length ≤ 9223372036854775807) then
      some (r1 ++ ([32, 115, 117, 114, 102, 97, 99, 101, 10] : List UInt8))
      else none
    else
      Option.bind (ref02_words N [112, 108, 97, 99, 101] [a0.2.1.1]) fun r3 =>
      bif decide (r3.length + ([32, 98, 101, 108, 111, 119, 10] : List UInt8).length ≤ 9223372036854775807) then
      some (r3 ++ ([32, 98, 101, 108, 111, 119, 10] : List UInt8))
      else none
  else
    bif (a0.1 == 2) then
      bif a0.2.2.1.2.2.2.2.1 then
        Option.bind (ref02_words N [114, 111, 97, 100] [a0.2.2.1.1, a0.2.2.1.2.1, a0.2.2.1.2.2.1, a0.2.2.1.2.2.2.1]) fun r5 =>
        Option.bind (ref02_words N [32, 119, 97, 108, 107] [a0.2.2.1.2.2.2.2.2.2.1.1, a0.2.2.1.2.2.2.2.2.2.1.2, a0.2.2.1.2.2.2.2.2.2.2.1, a0.2.2.1.2.2.2.2.2.2.2.2]) fun r6 =>
        bif decide (r5.length + r6.length ≤ 9223372036854775807) then
        bif decide ((r5 ++ r6).length + ([10] : List UInt8).length ≤ 9223372036854775807) then
        some ((r5 ++ r6) ++ ([10] : List UInt8))
        else none
        else none
      else
        Option.bind (ref02_words N [114, 111, 97, 100] [a0.2.2.1.1, a0.2.2.1.2.1, a0.2.2.1.2.2.1, a0.2.2.1.2.2.2.1]) fun r9 =>
        Option.bind (ref02_words N [32, 109, 97, 99, 104, 105, 110, 101] [a0.2.2.1.2.2.2.2.2.2.1.1, a0.2.2.1.2.2.2.2.2.2.1.2, a0.2.2.1.2.2.2.2.2.2.2.1, a0.2.2.1.2.2.2.2.2.2.2.2]) fun r10 =>
        bif decide (r9.length + r10.length ≤ 9223372036854775807) then
        bif decide ((r9 ++ r10).length + ([10] : List UInt8).length ≤ 9223372036854775807) then
        some ((r9 ++ r10) ++ ([10] : List UInt8))
        else none
        else none
    else
      bif (a0.1 == 3) then
        Option.bind (ref02_words N [99, 108, 111, 115, 101] [a0.2.2.2.1]) fun r13 =>
        bif decide (r13.length + ([10] : List UInt8).length ≤ 9223372036854775807) then
        some (r13 ++ ([10] : List UInt8))
        else none
      else
        bif (a0.1 == 4) then
          Option.bind (ref02_words N [111, 112, 101, 110] [a0.2.2.2.1]) fun r15 =>
          bif decide (r15.length + ([10] : List UInt8).length ≤ 9223372036854775807) then
          some (r15 ++ ([10] : List UInt8))
          else none
        else
          bif (a0.1 == 5) then
            Option.bind (ref02_words N [114, 101, 115, 116] [a0.2.2.2.1, a0.2.2.2.2.1, a0.2.2.2.2.2]) fun r17 =>
            bif decide (r17.length + ([10] : List UInt8).length ≤ 9223372036854775807) then
            some (r17 ++ ([10] : List UInt8))
            else none
          else
            Option.bind (ref02_words N [108, 105, 102, 116] [a0.2.2.2.1, a0.2.2.2.2.1, a0.2.2.2.2.2]) fun r19 =>
            bif decide (r19.length + ([10] : List UInt8).length ≤ 9223372036854775807) then
            some (r19 ++ ([10] : List UInt8))
            else none
/-! ref02_Print -/
/-! law02_SurveyPrints -/
/-! draw_Mod -/
/-! law02_SurveyBack -/
end M
end Go.Proofs.YtipokcccpbcmeaaDoor
