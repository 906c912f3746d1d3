/- Plain models of functions of this seat, each checked against the loaded program and the walk by the kernel. No condition: closed facts. Printed by a program of ours. -/
import Derived.Test.YtipokcccpbcmeaaDoorSl
import Derived.Test.YtipokcccpbcmeaaDoorSb
import Derived.Test.YtipokcccpbcmeaaDoorRows
set_option linter.all false
namespace Go.Proofs.YtipokcccpbcmeaaDoor
open Go.Pv
namespace M
abbrev _root_.Go.Pv.TI.s (n : Nat) (o : ROp) : TI := ⟨⟨some n, o, none⟩, {}⟩
abbrev _root_.Go.Pv.TI.d (o : ROp) : TI := ⟨⟨none, o, none⟩, {}⟩
abbrev _root_.Go.Pv.TI.m (n k : Nat) : TI := ⟨⟨some n, .mov (.t k), none⟩, {}⟩
theorem mixed : Tryd.prog.follows .mixedOrders = true := Tryd.checked.mixed
abbrev G_boundsError : GT := (.pair (.int .i64) (.pair (.int .i64) (.pair .bool (.int .u8))))
abbrev T_boundsError := Int × Int × Bool × Int
abbrev D_boundsError : T_boundsError := (0, (0, (false, 0)))
abbrev G_errorAddressString : GT := (.pair .str (.int .u64))
abbrev T_errorAddressString := (List UInt8) × Int
abbrev D_errorAddressString : T_errorAddressString := ([], 0)
abbrev G_Place : GT := (.pair (.int .i64) .bool)
abbrev T_Place := Int × Bool
abbrev D_Place : T_Place := (0, false)
abbrev G_Span : GT := (.pair (.int .i64) (.int .i64))
abbrev T_Span := Int × Int
abbrev D_Span : T_Span := (0, 0)
abbrev G_Road : GT := (.pair (.int .i64) (.pair (.int .i64) (.pair (.int .i64) (.pair (.int .i64) (.pair .bool (.pair .bool (.pair G_Span (.pair (.int .i64) (.int .i64)))))))))
abbrev T_Road := Int × Int × Int × Int × Bool × Bool × T_Span × Int × Int
abbrev D_Road : T_Road := (0, (0, (0, (0, (false, (false, (D_Span, (0, 0))))))))
abbrev G_Edit : GT := (.pair (.int .i64) (.pair G_Place (.pair G_Road (.pair (.int .i64) (.pair (.int .i64) (.int .i64))))))
abbrev T_Edit := Int × T_Place × T_Road × Int × Int × Int
abbrev D_Edit : T_Edit := (0, (D_Place, (D_Road, (0, (0, 0)))))
abbrev G_Mine : GT := (.pair (.list G_Place) (.list G_Road))
abbrev T_Mine := (List T_Place) × List T_Road
abbrev D_Mine : T_Mine := ([], [])
abbrev G_Codes : GT := (.pair (.list (.int .u8)) (.int .i64))
abbrev T_Codes := (List Int) × Int
abbrev D_Codes : T_Codes := ([], 0)
abbrev G_acceptRange : GT := (.pair (.int .u8) (.int .u8))
abbrev T_acceptRange := Int × Int
abbrev D_acceptRange : T_acceptRange := (0, 0)
def survey_Sum_N1 : List NS := [.keep [0, 3, 4], .cmp]
def survey_Sum_C4 : TC := (.cond (.t 8) .skip (.exit 0))
def survey_Sum_C8 : TC := (.rg [.m 9 4, .s 10 (.bin .add (.t 9) (.c (I 1))), .m 4 10] none)
def survey_Sum_C5 : TC := (.seq (.block 1 (.rg [.m 11 3, .s 12 (.bin .mul (.t 11) (.c (I 31))), .m 13 0, .m 14 4, .s 15 (.sidx (.t 13) (.t 14)), .s 16 (.conv .i64 (.t 15)), .s 17 (.bin .add (.t 12) (.t 16)), .s 18 (.bin .rem (.t 17) (.c (I 65521))), .m 3 18] none)) survey_Sum_C8)
def survey_Sum_C1 : TC := (.seq (.seq (.rg [.m 5 4, .m 6 0, .s 7 (.lens (.t 6)), .s 8 (.bin .lss (.t 5) (.t 7))] none) survey_Sum_C4) survey_Sum_C5)
def survey_Sum_C6 : TC := .ret
def survey_Sum_C2 : TC := (.seq (.rg [.m 19 3, .m 2 19] none) survey_Sum_C6)
def survey_Sum_C10 : TC := (.block 0 (.loop survey_Sum_N1 survey_Sum_C1))
def survey_Sum_C9 : TC := (.seq (.seq (.rg [.s 4 (.mov (.c (I 0)))] none) survey_Sum_C10) survey_Sum_C2)
def survey_Sum_C7 : TC := (.seq (.rg [.s 3 (.mov (.c (I 1)))] none) survey_Sum_C9)
def survey_Sum_C3 : TC := (.seq (.rg [.s 2 (.mov (.c (I 0)))] none) survey_Sum_C7)
def survey_Sum_E (N : Nat) : List (Nat × Ent) := []
def survey_Sum_L1 (N : Nat) (n : Nat) (x1 : List UInt8) (x2 x3 : Int) : Option Int := loopN (normI 0 survey_Sum_N1) (run (survey_Sum_E N) N 0 survey_Sum_C1) n ⟨[(0, .str x1), (3, .int .i64 x2), (4, .int .i64 x3)], []⟩ (blkK 0 (seqK (run (survey_Sum_E N) N 0 survey_Sum_C2) (fin [(.t 2)] [(.int .i64)])))
theorem survey_Sum_L1_succ (N : Nat) (n1 : Nat) (x1 : List UInt8) (x2 x3 : Int) : survey_Sum_L1 N (n1 + 1) x1 x2 x3 =
  bif (decide (x3 < (x1.length : Int))) then
    bif inB x3 x1.length then
    survey_Sum_L1 N n1 x1 ((W ((W (x2 * 31)) + (W ((x1.getD x3.toNat 0).toNat : Int)))).tmod 65521) (W (x3 + 1))
    else none
  else
    some x2 := by kernel_rfl
def survey_Sum (N : Nat) (a0 : List UInt8) : Option Int :=
  survey_Sum_L1 N N a0 1 0
theorem survey_Sum_fn : FnOK Tryd.prog 7 20 (fun _ : Nat => false) survey_Sum_C3.er [(.t 2)] := FnOK.mk' Tryd.func7 (by kernel_rfl) (by kernel_rfl) (by kernel_rfl) (by kernel_rfl) (by kernel_rfl)
theorem survey_Sum_envok (N : Nat) : EnvOK Tryd.prog (survey_Sum_E N) := .nil
theorem survey_Sum_pure (N : Nat) : PureOK Tryd.prog 7 [.str] [(.int .i64)] (fun x => survey_Sum N x) := pureOK (N := N) mixed survey_Sum_fn (survey_Sum_envok N) (TC.noh_ok (by kernel_rfl)) rfl (fun x => by kernel_rfl)
def ref02_Sum_N1 : List NS := [.keep [0, 3, 4], .cmp]
def ref02_Sum_C4 : TC := (.cond (.t 8) .skip (.exit 0))
def ref02_Sum_C8 : TC := (.rg [.m 9 4, .s 10 (.bin .add (.t 9) (.c (I 1))), .m 4 10] none)
def ref02_Sum_C5 : TC := (.seq (.block 1 (.rg [.m 11 3, .s 12 (.bin .mul (.t 11) (.c (I 31))), .m 13 0, .m 14 4, .s 15 (.sidx (.t 13) (.t 14)), .s 16 (.conv .i64 (.t 15)), .s 17 (.bin .add (.t 12) (.t 16)), .s 18 (.bin .rem (.t 17) (.c (I 65521))), .m 3 18] none)) ref02_Sum_C8)
def ref02_Sum_C1 : TC := (.seq (.seq (.rg [.m 5 4, .m 6 0, .s 7 (.lens (.t 6)), .s 8 (.bin .lss (.t 5) (.t 7))] none) ref02_Sum_C4) ref02_Sum_C5)
def ref02_Sum_C6 : TC := .ret
def ref02_Sum_C2 : TC := (.seq (.rg [.m 19 3, .m 2 19] none) ref02_Sum_C6)
def ref02_Sum_C10 : TC := (.block 0 (.loop ref02_Sum_N1 ref02_Sum_C1))
def ref02_Sum_C9 : TC := (.seq (.seq (.rg [.s 4 (.mov (.c (I 0)))] none) ref02_Sum_C10) ref02_Sum_C2)
def ref02_Sum_C7 : TC := (.seq (.rg [.s 3 (.mov (.c (I 1)))] none) ref02_Sum_C9)
def ref02_Sum_C3 : TC := (.seq (.rg [.s 2 (.mov (.c (I 0)))] none) ref02_Sum_C7)
def ref02_Sum_E (N : Nat) : List (Nat × Ent) := []
def ref02_Sum_L1 (N : Nat) (n : Nat) (x1 : List UInt8) (x2 x3 : Int) : Option Int := loopN (normI 0 ref02_Sum_N1) (run (ref02_Sum_E N) N 0 ref02_Sum_C1) n ⟨[(0, .str x1), (3, .int .i64 x2), (4, .int .i64 x3)], []⟩ (blkK 0 (seqK (run (ref02_Sum_E N) N 0 ref02_Sum_C2) (fin [(.t 2)] [(.int .i64)])))
theorem ref02_Sum_L1_succ (N : Nat) (n1 : Nat) (x1 : List UInt8) (x2 x3 : Int) : ref02_Sum_L1 N (n1 + 1) x1 x2 x3 =
  bif (decide (x3 < (x1.length : Int))) then
    bif inB x3 x1.length then
    ref02_Sum_L1 N n1 x1 ((W ((W (x2 * 31)) + (W ((x1.getD x3.toNat 0).toNat : Int)))).tmod 65521) (W (x3 + 1))
    else none
  else
    some x2 := by kernel_rfl
def ref02_Sum (N : Nat) (a0 : List UInt8) : Option Int :=
  ref02_Sum_L1 N N a0 1 0
theorem ref02_Sum_fn : FnOK Tryd.prog 8 20 (fun _ : Nat => false) ref02_Sum_C3.er [(.t 2)] := FnOK.mk' Tryd.func8 (by kernel_rfl) (by kernel_rfl) (by kernel_rfl) (by kernel_rfl) (by kernel_rfl)
theorem ref02_Sum_envok (N : Nat) : EnvOK Tryd.prog (ref02_Sum_E N) := .nil
theorem ref02_Sum_pure (N : Nat) : PureOK Tryd.prog 8 [.str] [(.int .i64)] (fun x => ref02_Sum N x) := pureOK (N := N) mixed ref02_Sum_fn (ref02_Sum_envok N) (TC.noh_ok (by kernel_rfl)) rfl (fun x => by kernel_rfl)
def survey_words_N1 : List NS := [.wk 7 (.list (.int .i64)), .keep [0, 7, 8, 9], .cmp]
def survey_words_C9 : TC := (.rg [.m 13 0, .m 14 6, .s 15 (.call (.c (.fn 43 [])) [(.t 14)]), .s 16 (.bin .add (.c (.v (.string ⟨⟨[32]⟩⟩))) (.t 15)), .s 17 (.bin .add (.t 13) (.t 16)), .m 0 17] none)
def survey_words_C10 : TC := (.rg [.s 18 (.bin .add (.t 9) (.c (I 1))), .m 9 18] none)
def survey_words_C7 : TC := (.seq (.block 1 (.seq (.rg [.s 11 (.iadrS 1 (.t 7) (.t 9)), .s 12 (.load false 1 (.t 11)), .m 6 12] none) survey_words_C9)) survey_words_C10)
def survey_words_C4 : TC := (.seq (.cond (.t 10) .skip (.exit 0)) survey_words_C7)
def survey_words_C1 : TC := (.seq (.rg [.s 10 (.bin .lss (.t 9) (.t 8))] none) survey_words_C4)
def survey_words_C5 : TC := .ret
def survey_words_C2 : TC := (.seq (.rg [.m 19 0, .m 4 19] none) survey_words_C5)
def survey_words_C8 : TC := (.block 0 (.loop survey_words_N1 survey_words_C1))
def survey_words_C6 : TC := (.seq (.seq (.rg [.m 7 1, .s 8 (.len (.t 7)), .s 9 (.mov (.c (I 0)))] none) survey_words_C8) survey_words_C2)
def survey_words_C3 : TC := (.seq (.rg [.s 4 (.mov (.c (.v (.string ⟨⟨[]⟩⟩))))] none) survey_words_C6)
def survey_words_E (N : Nat) : List (Nat × Ent) := [(43, pureE [(.int .i64)] [.str] (fun x => strconv_Itoa N x))]
def survey_words_L1 (N : Nat) (n : Nat) (x1 : List UInt8) (x2 : List Int) (x3 x4 : Int) : Option (List UInt8) := loopN (normI 0 survey_words_N1) (run (survey_words_E N) N 0 survey_words_C1) n ⟨[(0, .str x1), (7, .lst false (.int .i64) x2), (8, .int .i64 x3), (9, .int .i64 x4)], []⟩ (blkK 0 (seqK (run (survey_words_E N) N 0 survey_words_C2) (fin [(.t 4)] [.str])))
theorem survey_words_L1_succ (N : Nat) (n1 : Nat) (x1 : List UInt8) (x2 : List Int) (x3 x4 : Int) : survey_words_L1 N (n1 + 1) x1 x2 x3 x4 =
  bif (decide (x4 < x3)) then
    bif inB x4 x2.length then
    Option.bind (strconv_Itoa N (x2.getD x4.toNat 0)) fun r5 =>
    bif decide (([32] : List UInt8).length + r5.length ≤ 9223372036854775807) then
    let v6 := ([32] : List UInt8) ++ r5
    bif decide (x1.length + v6.length ≤ 9223372036854775807) then
    survey_words_L1 N n1 (x1 ++ v6) x2 x3 (W (x4 + 1))
    else none
    else none
    else none
  else
    some x1 := by kernel_rfl
def survey_words (N : Nat) (a0 : List UInt8) (a1 : List Int) : Option (List UInt8) :=
  survey_words_L1 N N a0 a1 (a1.length : Int) 0
theorem survey_words_fn : FnOK Tryd.prog 27 20 (fun _ : Nat => false) survey_words_C3.er [(.t 4)] := FnOK.mk' Tryd.func27 (by kernel_rfl) (by kernel_rfl) (by kernel_rfl) (by kernel_rfl) (by kernel_rfl)
theorem survey_words_envok (N : Nat) : EnvOK Tryd.prog (survey_words_E N) := .cons (pureE_ok (strconv_Itoa_pure N)) (.nil)
theorem survey_words_pure (N : Nat) : PureOK Tryd.prog 27 [.str, (.list (.int .i64))] [.str] (fun x => survey_words N x.1 x.2) := pureOK (N := N) mixed survey_words_fn (survey_words_envok N) (TC.noh_ok (by kernel_rfl)) rfl (fun x => by kernel_rfl)
def survey_short_N1 : List NS := [.wk 5 (.list (.int .i64)), .keep [5, 6, 7], .cmp]
def survey_short_C12 : TC := .ret
def survey_short_C11 : TC := (.cond (.t 16) (.seq (.rg [.s 2 (.mov (.c (B false)))] none) survey_short_C12) .skip)
def survey_short_C9 : TC := (.seq (.rg [.m 11 4, .s 12 (.bin .lss (.t 11) (.c (I (-999999999999999999)))), .m 13 12, ⟨⟨some 14, (.mov (.t 4)), some (13, false)⟩, {}⟩, ⟨⟨some 15, (.bin .gtr (.t 14) (.c (I 999999999999999999))), some (13, false)⟩, {}⟩, .s 16 (.pick (.t 13) (.c (B true)) (.t 15))] none) survey_short_C11)
def survey_short_C10 : TC := (.rg [.s 17 (.bin .add (.t 7) (.c (I 1))), .m 7 17] none)
def survey_short_C7 : TC := (.seq (.block 1 (.seq (.rg [.s 9 (.iadrS 1 (.t 5) (.t 7)), .s 10 (.load false 1 (.t 9)), .m 4 10] none) survey_short_C9)) survey_short_C10)
def survey_short_C4 : TC := (.seq (.cond (.t 8) .skip (.exit 0)) survey_short_C7)
def survey_short_C1 : TC := (.seq (.rg [.s 8 (.bin .lss (.t 7) (.t 6))] none) survey_short_C4)
def survey_short_C5 : TC := .ret
def survey_short_C2 : TC := (.seq (.rg [.s 2 (.mov (.c (B true)))] none) survey_short_C5)
def survey_short_C8 : TC := (.block 0 (.loop survey_short_N1 survey_short_C1))
def survey_short_C6 : TC := (.seq (.seq (.rg [.m 5 0, .s 6 (.len (.t 5)), .s 7 (.mov (.c (I 0)))] none) survey_short_C8) survey_short_C2)
def survey_short_C3 : TC := (.seq (.rg [.s 2 (.mov (.c (B false)))] none) survey_short_C6)
def survey_short_E (N : Nat) : List (Nat × Ent) := []
def survey_short_L1 (N : Nat) (n : Nat) (x1 : List Int) (x2 x3 : Int) : Option Bool := loopN (normI 0 survey_short_N1) (run (survey_short_E N) N 0 survey_short_C1) n ⟨[(5, .lst false (.int .i64) x1), (6, .int .i64 x2), (7, .int .i64 x3)], []⟩ (blkK 0 (seqK (run (survey_short_E N) N 0 survey_short_C2) (fin [(.t 2)] [.bool])))
theorem survey_short_L1_succ (N : Nat) (n1 : Nat) (x1 : List Int) (x2 x3 : Int) : survey_short_L1 N (n1 + 1) x1 x2 x3 =
  bif (decide (x3 < x2)) then
    bif inB x3 x1.length then
    bif (decide ((x1.getD x3.toNat 0) < (-999999999999999999))) then
      some false
    else
      bif (decide ((x1.getD x3.toNat 0) > 999999999999999999)) then
        some false
      else
        survey_short_L1 N n1 x1 x2 (W (x3 + 1))
    else none
  else
    some true := by kernel_rfl
def survey_short (N : Nat) (a0 : List Int) : Option Bool :=
  survey_short_L1 N N a0 (a0.length : Int) 0
theorem survey_short_fn : FnOK Tryd.prog 41 18 (fun _ : Nat => false) survey_short_C3.er [(.t 2)] := FnOK.mk' Tryd.func41 (by kernel_rfl) (by kernel_rfl) (by kernel_rfl) (by kernel_rfl) (by kernel_rfl)
theorem survey_short_envok (N : Nat) : EnvOK Tryd.prog (survey_short_E N) := .nil
theorem survey_short_pure (N : Nat) : PureOK Tryd.prog 41 [(.list (.int .i64))] [.bool] (fun x => survey_short N x) := pureOK (N := N) mixed survey_short_fn (survey_short_envok N) (TC.noh_ok (by kernel_rfl)) rfl (fun x => by kernel_rfl)
def survey_line_C11 : TC := .ret
def survey_line_C5 : TC := (.seq (.rg [.m 73 8, .s 74 (.load true 16 (.t 4)), .s 75 (.build [(I 0), (I 0), (B false), (I 0), (I 0), (I 0), (I 0), (B false), (B false), (I 0), (I 0), (I 0), (I 0), (I 0), (I 0), (I 0)] []), .s 76 (.eqa false [(0, 1), (1, 1), (2, 0), (3, 1), (4, 1), (5, 1), (6, 1), (7, 0), (8, 0), (9, 1), (10,
  1), (11, 1), (12, 1), (13, 1), (14, 1), (15, 1)] (.t 74) (.t 75)), .m 77 76, ⟨⟨some 78, (.fadr 5 (.t 6)), some (77, true)⟩, {}⟩, ⟨⟨some 79, (.load false 1 (.t 78)), some (77, true)⟩, {}⟩, ⟨⟨some 80, (.un .not (.t 79)), some (77, true)⟩, {}⟩, .s 81 (.pick (.t 77) (.t 80) (.c (B false))), .m 82 81,
  ⟨⟨some 83, (.fadr 0 (.t 6)), some (82, true)⟩, {}⟩, ⟨⟨some 84, (.load false 1 (.t 83)), some (82, true)⟩, {}⟩, ⟨⟨some 85, (.fadr 1 (.t 6)), some (82, true)⟩, {}⟩, ⟨⟨some 86, (.load false 1 (.t 85)), some (82, true)⟩, {}⟩, ⟨⟨some 87, (.fadr 2 (.t 6)), some (82, true)⟩, {}⟩, ⟨⟨some 88, (.load false 1
  (.t 87)), some (82, true)⟩, {}⟩, ⟨⟨some 89, (.fadr 3 (.t 6)), some (82, true)⟩, {}⟩, ⟨⟨some 90, (.load false 1 (.t 89)), some (82, true)⟩, {}⟩, ⟨⟨some 91, (.fadr 6 (.t 6)), some (82, true)⟩, {}⟩, ⟨⟨some 92, (.fadr 0 (.t 91)), some (82, true)⟩, {}⟩, ⟨⟨some 93, (.load false 1 (.t 92)), some (82,
  true)⟩, {}⟩, ⟨⟨some 94, (.fadr 6 (.t 6)), some (82, true)⟩, {}⟩, ⟨⟨some 95, (.fadr 1 (.t 94)), some (82, true)⟩, {}⟩, ⟨⟨some 96, (.load false 1 (.t 95)), some (82, true)⟩, {}⟩, ⟨⟨some 97, (.fadr 8 (.t 6)), some (82, true)⟩, {}⟩, ⟨⟨some 98, (.fadr 0 (.t 97)), some (82, true)⟩, {}⟩, ⟨⟨some 99, (.load
  false 1 (.t 98)), some (82, true)⟩, {}⟩, ⟨⟨some 100, (.fadr 8 (.t 6)), some (82, true)⟩, {}⟩, ⟨⟨some 101, (.fadr 1 (.t 100)), some (82, true)⟩, {}⟩, ⟨⟨some 102, (.load false 1 (.t 101)), some (82, true)⟩, {}⟩, ⟨⟨some 103, (.bslice false 1 [(I 0)] 8 [(0, (.t 84)), (1, (.t 86)), (2, (.t 88)), (3, (.t
  90)), (4, (.t 93)), (5, (.t 96)), (6, (.t 99)), (7, (.t 102))]), some (82, true)⟩, ⟨(.int .i64), none, []⟩⟩, ⟨⟨some 104, (.call (.c (.fn 41 [])) [(.t 103)]), some (82, true)⟩, {}⟩, .s 105 (.pick (.t 82) (.t 104) (.c (B false))), .m 2 73, .m 3 105] none) survey_line_C11)
def survey_line_C1 : TC := (.seq (.rg [.s 47 (.fadr 0 (.t 6)), .s 48 (.load false 1 (.t 47)), .s 49 (.fadr 1 (.t 6)), .s 50 (.load false 1 (.t 49)), .s 51 (.fadr 2 (.t 6)), .s 52 (.load false 1 (.t 51)), .s 53 (.fadr 3 (.t 6)), .s 54 (.load false 1 (.t 53)), ⟨⟨some 55, (.bslice false 1 [(I 0)] 4 [(0, (.t 48)), (1, (.t 50)),
  (2, (.t 52)), (3, (.t 54))]), none⟩, ⟨(.int .i64), none, []⟩⟩, .s 56 (.call (.c (.fn 27 [])) [(.c (.v (.string ⟨⟨[114, 111, 97, 100]⟩⟩))), (.t 55)]), .m 57 7, .s 58 (.fadr 6 (.t 6)), .s 59 (.fadr 0 (.t 58)), .s 60 (.load false 1 (.t 59)), .s 61 (.fadr 6 (.t 6)), .s 62 (.fadr 1 (.t 61)), .s 63
  (.load false 1 (.t 62)), .s 64 (.fadr 8 (.t 6)), .s 65 (.fadr 0 (.t 64)), .s 66 (.load false 1 (.t 65)), .s 67 (.fadr 8 (.t 6)), .s 68 (.fadr 1 (.t 67)), .s 69 (.load false 1 (.t 68)), ⟨⟨some 70, (.bslice false 1 [(I 0)] 4 [(0, (.t 60)), (1, (.t 63)), (2, (.t 66)), (3, (.t 69))]), none⟩, ⟨(.int
  .i64), none, []⟩⟩, .s 71 (.call (.c (.fn 27 [])) [(.t 57), (.t 70)]), .s 72 (.bin .add (.t 56) (.t 71)), .m 8 72] (some [(9, 11), (9, 12), (9, 13), (9, 14), (9, 15), (9, 16), (9, 17), (9, 18), (9, 19), (9, 20), (9, 21), (9, 22)])) survey_line_C5)
def survey_line_C6 : TC := .ret
def survey_line_C2 : TC := (.seq (.rg [.s 2 (.mov (.c (.v (.string ⟨⟨[]⟩⟩)))), .s 3 (.mov (.c (B false)))] none) survey_line_C6)
def survey_line_C15 : TC := (.cond (.t 112) (.rg [.s 9 (.mov (.c (.v (.string ⟨⟨[99, 108, 111, 115, 101]⟩⟩))))] none) .skip)
def survey_line_C19 : TC := .ret
def survey_line_C16 : TC := (.seq (.rg [.m 113 9, .s 114 (.fadr 13 (.t 1)), .s 115 (.load false 1 (.t 114)), ⟨⟨some 116, (.bslice false 1 [(I 0)] 1 [(0, (.t 115))]), none⟩, ⟨(.int .i64), none, []⟩⟩, .s 117 (.call (.c (.fn 27 [])) [(.t 113), (.t 116)]), .s 118 (.load true 16 (.t 4)), .s 119 (.build [(I 0), (I 0), (B false), (I
  0), (I 0), (I 0), (I 0), (B false), (B false), (I 0), (I 0), (I 0), (I 0), (I 0), (I 0), (I 0)] []), .s 120 (.eqa false [(0, 1), (1, 1), (2, 0), (3, 1), (4, 1), (5, 1), (6, 1), (7, 0), (8, 0), (9, 1), (10, 1), (11, 1), (12, 1), (13, 1), (14, 1), (15, 1)] (.t 118) (.t 119)), .m 121 120, ⟨⟨some 122,
  (.fadr 13 (.t 1)), some (121, true)⟩, {}⟩, ⟨⟨some 123, (.load false 1 (.t 122)), some (121, true)⟩, {}⟩, ⟨⟨some 124, (.bslice false 1 [(I 0)] 1 [(0, (.t 123))]), some (121, true)⟩, ⟨(.int .i64), none, []⟩⟩, ⟨⟨some 125, (.call (.c (.fn 41 [])) [(.t 124)]), some (121, true)⟩, {}⟩, .s 126 (.pick (.t
  121) (.t 125) (.c (B false))), .m 2 117, .m 3 126] (some [(4, 5)])) survey_line_C19)
def survey_line_C12 : TC := (.seq (.seq (.rg [.s 110 (.fadr 0 (.t 1)), .s 111 (.load false 1 (.t 110)), .s 112 (.bin .eql (.t 111) (.c (I 3)))] none) survey_line_C15) survey_line_C16)
def survey_line_C7 : TC := (.seq (.rg [.s 9 (.mov (.c (.v (.string ⟨⟨[111, 112, 101, 110]⟩⟩))))] none) survey_line_C12)
def survey_line_C8 : TC := (.cond (.t 127) .skip (.rg [.s 129 (.bin .eql (.t 14) (.c (I 6))), .m 127 129] none))
def survey_line_C20 : TC := (.cond (.t 135) (.rg [.s 10 (.mov (.c (.v (.string ⟨⟨[108, 105, 102, 116]⟩⟩))))] none) .skip)
def survey_line_C23 : TC := .ret
def survey_line_C21 : TC := (.seq (.rg [.m 136 10, .s 137 (.fadr 13 (.t 1)), .s 138 (.load false 1 (.t 137)), .s 139 (.fadr 14 (.t 1)), .s 140 (.fadr 0 (.t 139)), .s 141 (.load false 1 (.t 140)), .s 142 (.fadr 14 (.t 1)), .s 143 (.fadr 1 (.t 142)), .s 144 (.load false 1 (.t 143)), ⟨⟨some 145, (.bslice false 1 [(I 0)] 3 [(0, (.t
  138)), (1, (.t 141)), (2, (.t 144))]), none⟩, ⟨(.int .i64), none, []⟩⟩, .s 146 (.call (.c (.fn 27 [])) [(.t 136), (.t 145)]), .s 147 (.load true 16 (.t 4)), .s 148 (.build [(I 0), (I 0), (B false), (I 0), (I 0), (I 0), (I 0), (B false), (B false), (I 0), (I 0), (I 0), (I 0), (I 0), (I 0), (I 0)]
  []), .s 149 (.eqa false [(0, 1), (1, 1), (2, 0), (3, 1), (4, 1), (5, 1), (6, 1), (7, 0), (8, 0), (9, 1), (10, 1), (11, 1), (12, 1), (13, 1), (14, 1), (15, 1)] (.t 147) (.t 148)), .m 150 149, ⟨⟨some 151, (.fadr 13 (.t 1)), some (150, true)⟩, {}⟩, ⟨⟨some 152, (.load false 1 (.t 151)), some (150,
  true)⟩, {}⟩, ⟨⟨some 153, (.fadr 14 (.t 1)), some (150, true)⟩, {}⟩, ⟨⟨some 154, (.fadr 0 (.t 153)), some (150, true)⟩, {}⟩, ⟨⟨some 155, (.load false 1 (.t 154)), some (150, true)⟩, {}⟩, ⟨⟨some 156, (.fadr 14 (.t 1)), some (150, true)⟩, {}⟩, ⟨⟨some 157, (.fadr 1 (.t 156)), some (150, true)⟩, {}⟩,
  ⟨⟨some 158, (.load false 1 (.t 157)), some (150, true)⟩, {}⟩, ⟨⟨some 159, (.bslice false 1 [(I 0)] 3 [(0, (.t 152)), (1, (.t 155)), (2, (.t 158))]), some (150, true)⟩, ⟨(.int .i64), none, []⟩⟩, ⟨⟨some 160, (.call (.c (.fn 41 [])) [(.t 159)]), some (150, true)⟩, {}⟩, .s 161 (.pick (.t 150) (.t 160)
  (.c (B false))), .m 2 146, .m 3 161] (some [(10, 11)])) survey_line_C23)
def survey_line_C17 : TC := (.seq (.seq (.rg [.s 133 (.fadr 0 (.t 1)), .s 134 (.load false 1 (.t 133)), .s 135 (.bin .eql (.t 134) (.c (I 6)))] none) survey_line_C20) survey_line_C21)
def survey_line_C13 : TC := (.seq (.rg [.s 10 (.mov (.c (.v (.string ⟨⟨[114, 101, 115, 116]⟩⟩))))] none) survey_line_C17)
def survey_line_C9 : TC := (.cond (.t 127) (.seq (.rg [.s 130 (.build [(I 0), (I 0)] []), .s 131 (.fadr 13 (.t 4)), .d (.store 1 (.t 131) (.c (I 0))), .s 132 (.fadr 14 (.t 4)), .d (.store 2 (.t 132) (.t 130))] none) survey_line_C13) .skip)
def survey_line_C3 : TC := (.cond (.t 106) (.seq (.rg [.s 109 (.fadr 13 (.t 4)), .d (.store 1 (.t 109) (.c (I 0)))] none) survey_line_C7) (.seq (.seq (.rg [.s 128 (.bin .eql (.t 14) (.c (I 5))), .m 127 128] none) survey_line_C8) survey_line_C9))
def survey_line_C31 : TC := (.cond (.t 21) (.rg [.s 5 (.mov (.c (.v (.string ⟨⟨[32, 115, 117, 114, 102, 97, 99, 101]⟩⟩))))] none) .skip)
def survey_line_C34 : TC := .ret
def survey_line_C32 : TC := (.seq (.rg [.s 22 (.fadr 1 (.t 1)), .s 23 (.fadr 0 (.t 22)), .s 24 (.load false 1 (.t 23)), ⟨⟨some 25, (.bslice false 1 [(I 0)] 1 [(0, (.t 24))]), none⟩, ⟨(.int .i64), none, []⟩⟩, .s 26 (.call (.c (.fn 27 [])) [(.c (.v (.string ⟨⟨[112, 108, 97, 99, 101]⟩⟩))), (.t 25)]), .m 27 5, .s 28 (.bin .add (.t
  26) (.t 27)), .s 29 (.load true 16 (.t 4)), .s 30 (.build [(I 0), (I 0), (B false), (I 0), (I 0), (I 0), (I 0), (B false), (B false), (I 0), (I 0), (I 0), (I 0), (I 0), (I 0), (I 0)] []), .s 31 (.eqa false [(0, 1), (1, 1), (2, 0), (3, 1), (4, 1), (5, 1), (6, 1), (7, 0), (8, 0), (9, 1), (10, 1),
  (11, 1), (12, 1), (13, 1), (14, 1), (15, 1)] (.t 29) (.t 30)), .m 32 31, ⟨⟨some 33, (.fadr 1 (.t 1)), some (32, true)⟩, {}⟩, ⟨⟨some 34, (.fadr 0 (.t 33)), some (32, true)⟩, {}⟩, ⟨⟨some 35, (.load false 1 (.t 34)), some (32, true)⟩, {}⟩, ⟨⟨some 36, (.bslice false 1 [(I 0)] 1 [(0, (.t 35))]), some
  (32, true)⟩, ⟨(.int .i64), none, []⟩⟩, ⟨⟨some 37, (.call (.c (.fn 41 [])) [(.t 36)]), some (32, true)⟩, {}⟩, .s 38 (.pick (.t 32) (.t 37) (.c (B false))), .m 2 28, .m 3 38] (some [(4, 7)])) survey_line_C34)
def survey_line_C27 : TC := (.seq (.seq (.rg [.s 19 (.fadr 1 (.t 1)), .s 20 (.fadr 1 (.t 19)), .s 21 (.load false 1 (.t 20))] none) survey_line_C31) survey_line_C32)
def survey_line_C25 : TC := (.seq (.rg [.s 5 (.mov (.c (.v (.string ⟨⟨[32, 98, 101, 108, 111, 119]⟩⟩))))] none) survey_line_C27)
def survey_line_C36 : TC := (.cond (.t 46) (.rg [.s 7 (.mov (.c (.v (.string ⟨⟨[32, 119, 97, 108, 107]⟩⟩))))] none) .skip)
def survey_line_C37 : TC := (.join [.keep [4, 6, 7], .cmp] survey_line_C1)
def survey_line_C35 : TC := (.seq (.seq (.rg [.s 45 (.fadr 4 (.t 6)), .s 46 (.load false 1 (.t 45))] none) survey_line_C36) survey_line_C37)
def survey_line_C33 : TC := (.seq (.rg [.s 7 (.mov (.c (.v (.string ⟨⟨[32, 109, 97, 99, 104, 105, 110, 101]⟩⟩))))] none) survey_line_C35)
def survey_line_C28 : TC := (.seq (.rg [.s 43 (.build [(I 0), (I 0), (I 0), (I 0), (B false), (B false), (I 0), (I 0), (I 0), (I 0)] []), .s 44 (.fadr 3 (.t 4)), .d (.store 10 (.t 44) (.t 43))] none) survey_line_C33)
def survey_line_C29 : TC := (.cond (.t 106) .skip (.rg [.s 108 (.bin .eql (.t 14) (.c (I 4))), .m 106 108] none))
def survey_line_C30 : TC := (.join [.keep [1, 4, 14, 106], .cmp] survey_line_C3)
def survey_line_C26 : TC := (.cond (.t 39) (.seq (.rg [.s 41 (.fadr 3 (.t 1)), .s 42 (.load true 10 (.t 41)), .s 6 (.alloc [(I 0), (I 0), (I 0), (I 0), (B false), (B false), (I 0), (I 0), (I 0), (I 0)]), .d (.store 10 (.t 6) (.t 42))] none) survey_line_C28) (.seq (.seq (.rg [.s 107 (.bin .eql (.t 14) (.c (I 3))), .m 106 107]
  none) survey_line_C29) survey_line_C30))
def survey_line_C24 : TC := (.cond (.t 15) (.seq (.rg [.s 17 (.build [(I 0), (B false)] []), .s 18 (.fadr 1 (.t 4)), .d (.store 2 (.t 18) (.t 17))] none) survey_line_C25) (.seq (.rg [.s 40 (.bin .eql (.t 14) (.c (I 2))), .m 39 40] none) survey_line_C26))
def survey_line_C22 : TC := (.block 0 (.seq (.rg [.s 16 (.bin .eql (.t 14) (.c (I 1))), .m 15 16] none) survey_line_C24))
def survey_line_C18 : TC := (.seq (.seq (.rg [.s 13 (.fadr 0 (.t 1)), .s 14 (.load false 1 (.t 13))] none) survey_line_C22) survey_line_C2)
def survey_line_C14 : TC := (.seq (.rg [.s 12 (.fadr 0 (.t 4)), .d (.store 1 (.t 12) (.c (I 0)))] none) survey_line_C18)
def survey_line_C10 : TC := (.seq (.rg [.s 11 (.load true 16 (.t 1)), .s 4 (.alloc [(I 0), (I 0), (B false), (I 0), (I 0), (I 0), (I 0), (B false), (B false), (I 0), (I 0), (I 0), (I 0), (I 0), (I 0), (I 0)]), .d (.store 16 (.t 4) (.t 11))] none) survey_line_C14)
def survey_line_C4 : TC := (.seq (.rg [.s 1 (.box (.t 0)), .s 2 (.mov (.c (.v (.string ⟨⟨[]⟩⟩)))), .s 3 (.mov (.c (B false)))] none) survey_line_C10)
def survey_line_E (N : Nat) : List (Nat × Ent) := [(27, pureE [.str, (.list (.int .i64))] [.str] (fun x => survey_words N x.1 x.2)), (41, pureE [(.list (.int .i64))] [.bool] (fun x => survey_short N x))]
def survey_line_J1 (N : Nat) (JM : Nat) (x7 : List UInt8) (x8 x9 : Int) (x10 : Bool) (x11 x12 x13 x14 : Int) (x15 x16 : Bool) (x17 x18 x19 x20 x21 x22 x23 x24 x25 x26 x27 : Int) (x28 x29 : Bool) (x30 x31 x32 x33 : Int) : Option ((List UInt8) × Bool) := joinN (run (survey_line_E N) N 0 survey_line_C1) JM ⟨[(4, .ptr 0 0 0), (6, .ptr 1 0 0), (7, .str x7)], [some (.box 0 [.int .i64 x8, .int .i64 x9, .bool x10, .int .i64 x11, .int .i64 x12, .int .i64 x13, .int .i64 x14, .bool x15, .bool x16, .int .i64 x17, .int .i64 x18, .int .i64 x19, .int .i64 x20, .int .i64 x21, .int .i64 x22, .int .i64 x23]), some (.box 0 [.int .i64 x24, .int .i64 x25, .int .i64 x26, .int .i64 x27, .bool x28, .bool x29, .int .i64 x30, .int .i64 x31, .int .i64 x32, .int .i64 x33])]⟩ (blkK 0 (seqK (run (survey_line_E N) N 0 survey_line_C2) (fin [(.t 2), (.t 3)] [.str, .bool])))
def survey_line_J2 (N : Nat) (JM : Nat) (x92 : Int) (x93 : Bool) (x94 x95 : Int) (x96 : Bool) (x97 x98 x99 x100 : Int) (x101 x102 : Bool) (x103 x104 x105 x106 x107 x108 x109 x110 x111 : Int) (x112 : Bool) (x113 x114 x115 x116 : Int) (x117 x118 : Bool) (x119 x120 x121 x122 x123 x124 x125 : Int) : Option ((List UInt8) × Bool) := joinN (run (survey_line_E N) N 0 survey_line_C3) JM ⟨[(1, .ptr 0 0 0), (4, .ptr 1 0 0), (14, .int .i64 x92), (106, .bool x93)], [some (.box 0 [.int .i64 x94, .int .i64 x95, .bool x96, .int .i64 x97, .int .i64 x98, .int .i64 x99, .int .i64 x100, .bool x101, .bool x102, .int .i64 x103, .int .i64 x104, .int .i64 x105, .int .i64 x106, .int .i64 x107, .int .i64 x108, .int .i64 x109]), some (.box 0 [.int .i64 x110, .int .i64 x111, .bool x112, .int .i64 x113, .int .i64 x114, .int .i64 x115, .int .i64 x116, .bool x117, .bool x118, .int .i64 x119, .int .i64 x120, .int .i64 x121, .int .i64 x122, .int .i64 x123, .int .i64 x124, .int .i64 x125])]⟩ (blkK 0 (seqK (run (survey_line_E N) N 0 survey_line_C2) (fin [(.t 2), (.t 3)] [.str, .bool])))
theorem survey_line_J1_eq (N : Nat) (JM : Nat) (x7 : List UInt8) (x8 x9 : Int) (x10 : Bool) (x11 x12 x13 x14 : Int) (x15 x16 : Bool) (x17 x18 x19 x20 x21 x22 x23 x24 x25 x26 x27 : Int) (x28 x29 : Bool) (x30 x31 x32 x33 : Int) : survey_line_J1 N (JM + 1) x7 x8 x9 x10 x11 x12 x13 x14 x15 x16 x17 x18 x19 x20 x21 x22 x23 x24 x25 x26 x27 x28 x29 x30 x31 x32 x33 =
  Option.bind (survey_words N [114, 111, 97, 100] [x24, x25, x26, x27]) fun r34 =>
  Option.bind (survey_words N x7 [x30, x31, x32, x33]) fun r35 =>
  bif decide (r34.length + r35.length ≤ 9223372036854775807) then
  bif ((x8 == 0) && ((x9 == 0) && ((x10 == false) && ((x11 == 0) && ((x12 == 0) && ((x13 == 0) && ((x14 == 0) && ((x15 == false) && ((x16 == false) && ((x17 == 0) && ((x18 == 0) && ((x19 == 0) && ((x20 == 0) && ((x21 == 0) && ((x22 == 0) && (x23 == 0)))))))))))))))) then
    bif (!x29) then
      Option.bind (survey_short N [x24, x25, x26, x27, x30, x31, x32, x33]) fun r37 =>
      some ((r34 ++ r35), r37)
    else
      some ((r34 ++ r35), false)
  else
    some ((r34 ++ r35), false)
  else none := by kernel_rfl
theorem survey_line_J2_eq (N : Nat) (JM : Nat) (x92 : Int) (x93 : Bool) (x94 x95 : Int) (x96 : Bool) (x97 x98 x99 x100 : Int) (x101 x102 : Bool) (x103 x104 x105 x106 x107 x108 x109 x110 x111 : Int) (x112 : Bool) (x113 x114 x115 x116 : Int) (x117 x118 : Bool) (x119 x120 x121 x122 x123 x124 x125 : Int) : survey_line_J2 N (JM + 1) x92 x93 x94 x95 x96 x97 x98 x99 x100 x101 x102 x103 x104 x105 x106 x107 x108 x109 x110 x111 x112 x113 x114 x115 x116 x117 x118 x119 x120 x121 x122 x123 x124 x125 =
  bif x93 then
    bif (x94 == 3) then
      Option.bind (survey_words N [99, 108, 111, 115, 101] [x107]) fun r126 =>
      bif ((x110 == 0) && ((x111 == 0) && ((x112 == false) && ((x113 == 0) && ((x114 == 0) && ((x115 == 0) && ((x116 == 0) && ((x117 == false) && ((x118 == false) && ((x119 == 0) && ((x120 == 0) && ((x121 == 0) && ((x122 == 0) && ((0 == 0) && ((x124 == 0) && (x125 == 0)))))))))))))))) then
        Option.bind (survey_short N [x107]) fun r127 =>
        some (r126, r127)
      else
        some (r126, false)
    else
      Option.bind (survey_words N [111, 112, 101, 110] [x107]) fun r128 =>
      bif ((x110 == 0) && ((x111 == 0) && ((x112 == false) && ((x113 == 0) && ((x114 == 0) && ((x115 == 0) && ((x116 == 0) && ((x117 == false) && ((x118 == false) && ((x119 == 0) && ((x120 == 0) && ((x121 == 0) && ((x122 == 0) && ((0 == 0) && ((x124 == 0) && (x125 == 0)))))))))))))))) then
        Option.bind (survey_short N [x107]) fun r129 =>
        some (r128, r129)
      else
        some (r128, false)
  else
    bif (x92 == 5) then
      bif (x94 == 6) then
        Option.bind (survey_words N [108, 105, 102, 116] [x107, x108, x109]) fun r130 =>
        bif ((x110 == 0) && ((x111 == 0) && ((x112 == false) && ((x113 == 0) && ((x114 == 0) && ((x115 == 0) && ((x116 == 0) && ((x117 == false) && ((x118 == false) && ((x119 == 0) && ((x120 == 0) && ((x121 == 0) && ((x122 == 0) && ((0 == 0) && ((0 == 0) && (0 == 0)))))))))))))))) then
          Option.bind (survey_short N [x107, x108, x109]) fun r131 =>
          some (r130, r131)
        else
          some (r130, false)
      else
        Option.bind (survey_words N [114, 101, 115, 116] [x107, x108, x109]) fun r132 =>
        bif ((x110 == 0) && ((x111 == 0) && ((x112 == false) && ((x113 == 0) && ((x114 == 0) && ((x115 == 0) && ((x116 == 0) && ((x117 == false) && ((x118 == false) && ((x119 == 0) && ((x120 == 0) && ((x121 == 0) && ((x122 == 0) && ((0 == 0) && ((0 == 0) && (0 == 0)))))))))))))))) then
          Option.bind (survey_short N [x107, x108, x109]) fun r133 =>
          some (r132, r133)
        else
          some (r132, false)
    else
      bif (x92 == 6) then
        bif (x94 == 6) then
          Option.bind (survey_words N [108, 105, 102, 116] [x107, x108, x109]) fun r134 =>
          bif ((x110 == 0) && ((x111 == 0) && ((x112 == false) && ((x113 == 0) && ((x114 == 0) && ((x115 == 0) && ((x116 == 0) && ((x117 == false) && ((x118 == false) && ((x119 == 0) && ((x120 == 0) && ((x121 == 0) && ((x122 == 0) && ((0 == 0) && ((0 == 0) && (0 == 0)))))))))))))))) then
            Option.bind (survey_short N [x107, x108, x109]) fun r135 =>
            some (r134, r135)
          else
            some (r134, false)
        else
          Option.bind (survey_words N [114, 101, 115, 116] [x107, x108, x109]) fun r136 =>
          bif ((x110 == 0) && ((x111 == 0) && ((x112 == false) && ((x113 == 0) && ((x114 == 0) && ((x115 == 0) && ((x116 == 0) && ((x117 == false) && ((x118 == false) && ((x119 == 0) && ((x120 == 0) && ((x121 == 0) && ((x122 == 0) && ((0 == 0) && ((0 == 0) && (0 == 0)))))))))))))))) then
            Option.bind (survey_short N [x107, x108, x109]) fun r137 =>
            some (r136, r137)
          else
            some (r136, false)
      else
        some ([], false) := by kernel_rfl
def survey_line (N : Nat) (a0 : T_Edit) : Option ((List UInt8) × Bool) :=
  bif (a0.1 == 1) then
    bif a0.2.1.2 then
      Option.bind (survey_words N [112, 108, 97, 99, 101] [a0.2.1.1]) fun r1 =>
      bif decide (r1.length + ([32, 115, 117, 114, 102, 97, 99, 101] : List UInt8).length ≤ 9223372036854775807) then
      let v2 := r1 ++ ([32, 115, 117, 114, 102, 97, 99, 101] : List UInt8)
      bif ((0 == 0) && ((0 == 0) && ((false == false) && ((a0.2.2.1.1 == 0) && ((a0.2.2.1.2.1 == 0) && ((a0.2.2.1.2.2.1 == 0) && ((a0.2.2.1.2.2.2.1 == 0) && ((a0.2.2.1.2.2.2.2.1 == false) && ((a0.2.2.1.2.2.2.2.2.1 == false) && ((a0.2.2.1.2.2.2.2.2.2.1.1 == 0) && ((a0.2.2.1.2.2.2.2.2.2.1.2 == 0) && ((a0.2.2.1.2.2.2.2.2.2.2.1 == 0) && ((a0.2.2.1.2.2.2.2.2.2.2.2 == 0) && ((a0.2.2.2.1 == 0) && ((a0.2.2.2.2.1 == 0) && (a0.2.2.2.2.2 == 0)))))))))))))))) then
        Option.bind (survey_short N [a0.2.1.1]) fun r3 =>
        some (v2, r3)
      else
        some (v2, false)
      else none
    else
      Option.bind (survey_words N [112, 108, 97, 99, 101] [a0.2.1.1]) fun r4 =>
      bif decide (r4.length + ([32, 98, 101, 108, 111, 119] : List UInt8).length ≤ 9223372036854775807) then
      let v5 := r4 ++ ([32, 98, 101, 108, 111, 119] : List UInt8)
      bif ((0 == 0) && ((0 == 0) && ((false == false) && ((a0.2.2.1.1 == 0) && ((a0.2.2.1.2.1 == 0) && ((a0.2.2.1.2.2.1 == 0) && ((a0.2.2.1.2.2.2.1 == 0) && ((a0.2.2.1.2.2.2.2.1 == false) && ((a0.2.2.1.2.2.2.2.2.1 == false) && ((a0.2.2.1.2.2.2.2.2.2.1.1 == 0) && ((a0.2.2.1.2.2.2.2.2.2.1.2 == 0) && ((a0.2.2.1.2.2.2.2.2.2.2.1 == 0) && ((a0.2.2.1.2.2.2.2.2.2.2.2 == 0) && ((a0.2.2.2.1 == 0) && ((a0.2.2.2.2.1 == 0) && (a0.2.2.2.2.2 == 0)))))))))))))))) then
        Option.bind (survey_short N [a0.2.1.1]) fun r6 =>
        some (v5, r6)
      else
        some (v5, false)
      else none
  else
    bif (a0.1 == 2) then
      bif a0.2.2.1.2.2.2.2.1 then
        survey_line_J1 N N [32, 119, 97, 108, 107] 0 a0.2.1.1 a0.2.1.2 0 0 0 0 false false 0 0 0 0 a0.2.2.2.1 a0.2.2.2.2.1 a0.2.2.2.2.2 a0.2.2.1.1 a0.2.2.1.2.1 a0.2.2.1.2.2.1 a0.2.2.1.2.2.2.1 a0.2.2.1.2.2.2.2.1 a0.2.2.1.2.2.2.2.2.1 a0.2.2.1.2.2.2.2.2.2.1.1 a0.2.2.1.2.2.2.2.2.2.1.2 a0.2.2.1.2.2.2.2.2.2.2.1 a0.2.2.1.2.2.2.2.2.2.2.2
      else
        survey_line_J1 N N [32, 109, 97, 99, 104, 105, 110, 101] 0 a0.2.1.1 a0.2.1.2 0 0 0 0 false false 0 0 0 0 a0.2.2.2.1 a0.2.2.2.2.1 a0.2.2.2.2.2 a0.2.2.1.1 a0.2.2.1.2.1 a0.2.2.1.2.2.1 a0.2.2.1.2.2.2.1 a0.2.2.1.2.2.2.2.1 a0.2.2.1.2.2.2.2.2.1 a0.2.2.1.2.2.2.2.2.2.1.1 a0.2.2.1.2.2.2.2.2.2.1.2 a0.2.2.1.2.2.2.2.2.2.2.1 a0.2.2.1.2.2.2.2.2.2.2.2
    else
      bif (a0.1 == 3) then
        survey_line_J2 N N a0.1 true a0.1 a0.2.1.1 a0.2.1.2 a0.2.2.1.1 a0.2.2.1.2.1 a0.2.2.1.2.2.1 a0.2.2.1.2.2.2.1 a0.2.2.1.2.2.2.2.1 a0.2.2.1.2.2.2.2.2.1 a0.2.2.1.2.2.2.2.2.2.1.1 a0.2.2.1.2.2.2.2.2.2.1.2 a0.2.2.1.2.2.2.2.2.2.2.1 a0.2.2.1.2.2.2.2.2.2.2.2 a0.2.2.2.1 a0.2.2.2.2.1 a0.2.2.2.2.2 0 a0.2.1.1 a0.2.1.2 a0.2.2.1.1 a0.2.2.1.2.1 a0.2.2.1.2.2.1 a0.2.2.1.2.2.2.1 a0.2.2.1.2.2.2.2.1 a0.2.2.1.2.2.2.2.2.1 a0.2.2.1.2.2.2.2.2.2.1.1 a0.2.2.1.2.2.2.2.2.2.1.2 a0.2.2.1.2.2.2.2.2.2.2.1 a0.2.2.1.2.2.2.2.2.2.2.2 a0.2.2.2.1 a0.2.2.2.2.1 a0.2.2.2.2.2
      else
        survey_line_J2 N N a0.1 (a0.1 == 4) a0.1 a0.2.1.1 a0.2.1.2 a0.2.2.1.1 a0.2.2.1.2.1 a0.2.2.1.2.2.1 a0.2.2.1.2.2.2.1 a0.2.2.1.2.2.2.2.1 a0.2.2.1.2.2.2.2.2.1 a0.2.2.1.2.2.2.2.2.2.1.1 a0.2.2.1.2.2.2.2.2.2.1.2 a0.2.2.1.2.2.2.2.2.2.2.1 a0.2.2.1.2.2.2.2.2.2.2.2 a0.2.2.2.1 a0.2.2.2.2.1 a0.2.2.2.2.2 0 a0.2.1.1 a0.2.1.2 a0.2.2.1.1 a0.2.2.1.2.1 a0.2.2.1.2.2.1 a0.2.2.1.2.2.2.1 a0.2.2.1.2.2.2.2.1 a0.2.2.1.2.2.2.2.2.1 a0.2.2.1.2.2.2.2.2.2.1.1 a0.2.2.1.2.2.2.2.2.2.1.2 a0.2.2.1.2.2.2.2.2.2.2.1 a0.2.2.1.2.2.2.2.2.2.2.2 a0.2.2.2.1 a0.2.2.2.2.1 a0.2.2.2.2.2
theorem survey_line_fn : FnOK Tryd.prog 23 162 (fun _ : Nat => false) survey_line_C4.er [(.t 2), (.t 3)] := FnOK.mk' Tryd.func23 (by kernel_rfl) (by kernel_rfl) (by kernel_rfl) (by kernel_rfl) (by kernel_rfl)
theorem survey_line_envok (N : Nat) : EnvOK Tryd.prog (survey_line_E N) := .cons (pureE_ok (survey_words_pure N)) (.cons (pureE_ok (survey_short_pure N)) (.nil))
theorem survey_line_pure (N : Nat) : PureOK Tryd.prog 23 [G_Edit] [.str, .bool] (fun x => survey_line N x) := pureOK (N := N) mixed survey_line_fn (survey_line_envok N) (TC.noh_ok (by kernel_rfl)) rfl (fun x => by kernel_rfl)
def survey_Print (N : Nat) (a0 : List T_Edit) : Option ((List UInt8) × Int) := printM (survey_line N) (survey_Sum N) (fun x => survey_words N x.1 x.2) a0
theorem survey_Print_pure (N : Nat) : PureOK Tryd.prog 12 [.list G_Edit] [.str, .int .i64] (fun x => survey_Print N x) := print_hand (survey_line_pure N) (survey_Sum_pure N) (survey_words_pure N)
def internal_stringslite_Cut_C7 : TC := .ret
def internal_stringslite_Cut_C5 : TC := (.cond (.t 12) (.seq (.rg [.m 13 0, .m 14 7, .s 15 (.sslc (.t 13) none (some (.t 14))), .m 16 0, .m 17 7, .m 18 1, .s 19 (.lens (.t 18)), .s 20 (.bin .add (.t 17) (.t 19)), .s 21 (.sslc (.t 16) (some (.t 20)) none), .m 4 15, .m 5 21, .s 6 (.mov (.c (B true)))] (some [])) internal_stringslite_Cut_C7)
  .skip)
def internal_stringslite_Cut_C3 : TC := (.seq (.rg [.m 11 7, .s 12 (.bin .geq (.t 11) (.c (I 0)))] none) internal_stringslite_Cut_C5)
def internal_stringslite_Cut_C6 : TC := .ret
def internal_stringslite_Cut_C4 : TC := (.seq (.rg [.m 22 0, .m 4 22, .s 5 (.mov (.c (.v (.string ⟨⟨[]⟩⟩)))), .s 6 (.mov (.c (B false)))] none) internal_stringslite_Cut_C6)
def internal_stringslite_Cut_C2 : TC := (.seq (.seq (.rg [.m 8 0, .m 9 1, .s 10 (.call (.c (.fn 57 [])) [(.t 8), (.t 9)]), .m 7 10] none) internal_stringslite_Cut_C3) internal_stringslite_Cut_C4)
def internal_stringslite_Cut_C1 : TC := (.seq (.rg [.s 4 (.mov (.c (.v (.string ⟨⟨[]⟩⟩)))), .s 5 (.mov (.c (.v (.string ⟨⟨[]⟩⟩)))), .s 6 (.mov (.c (B false)))] none) internal_stringslite_Cut_C2)
def internal_stringslite_Cut_E (N : Nat) : List (Nat × Ent) := [(57, pureE [.str, .str] [(.int .i64)] (fun x => internal_stringslite_Index N x.1 x.2))]
def internal_stringslite_Cut (N : Nat) (a0 : List UInt8) (a1 : List UInt8) : Option ((List UInt8) × (List UInt8) × Bool) :=
  Option.bind (internal_stringslite_Index N a0 a1) fun r1 =>
  bif (decide (r1 ≥ 0)) then
    bif slB 0 r1 a0.length then
    let v3 := W (r1 + (a1.length : Int))
    bif slB v3 a0.length a0.length then
    some ((a0.take r1.toNat), (a0.drop v3.toNat), true)
    else none
    else none
  else
    some (a0, [], false)
theorem internal_stringslite_Cut_fn : FnOK Tryd.prog 45 23 (fun _ : Nat => false) internal_stringslite_Cut_C1.er [(.t 4), (.t 5), (.t 6)] := FnOK.mk' Tryd.func45 (by kernel_rfl) (by kernel_rfl) (by kernel_rfl) (by kernel_rfl) (by kernel_rfl)
theorem internal_stringslite_Cut_envok (N : Nat) : EnvOK Tryd.prog (internal_stringslite_Cut_E N) := .cons (pureE_ok (internal_stringslite_Index_pure N)) (.nil)
theorem internal_stringslite_Cut_pure (N : Nat) : PureOK Tryd.prog 45 [.str, .str] [.str, .str, .bool] (fun x => internal_stringslite_Cut N x.1 x.2) := pureOK (N := N) mixed internal_stringslite_Cut_fn (internal_stringslite_Cut_envok N) (TC.noh_ok (by kernel_rfl)) rfl (fun x => by kernel_rfl)
def strings_Cut_C3 : TC := .ret
def strings_Cut_C2 : TC := (.seq (.rg [.m 7 0, .m 8 1, .s 9 (.call (.c (.fn 45 [])) [(.t 7), (.t 8)]), .s 10 (.extr 0 (.t 9)), .s 11 (.extr 1 (.t 9)), .s 12 (.extr 2 (.t 9)), .m 4 10, .m 5 11, .m 6 12] none) strings_Cut_C3)
def strings_Cut_C1 : TC := (.seq (.rg [.s 4 (.mov (.c (.v (.string ⟨⟨[]⟩⟩)))), .s 5 (.mov (.c (.v (.string ⟨⟨[]⟩⟩)))), .s 6 (.mov (.c (B false)))] none) strings_Cut_C2)
def strings_Cut_E (N : Nat) : List (Nat × Ent) := [(45, pureE [.str, .str] [.str, .str, .bool] (fun x => internal_stringslite_Cut N x.1 x.2))]
def strings_Cut (N : Nat) (a0 : List UInt8) (a1 : List UInt8) : Option ((List UInt8) × (List UInt8) × Bool) :=
  Option.bind (internal_stringslite_Cut N a0 a1) fun r1 =>
  some (r1.1, r1.2.1, r1.2.2)
theorem strings_Cut_fn : FnOK Tryd.prog 31 13 (fun _ : Nat => false) strings_Cut_C1.er [(.t 4), (.t 5), (.t 6)] := FnOK.mk' Tryd.func31 (by kernel_rfl) (by kernel_rfl) (by kernel_rfl) (by kernel_rfl) (by kernel_rfl)
theorem strings_Cut_envok (N : Nat) : EnvOK Tryd.prog (strings_Cut_E N) := .cons (pureE_ok (internal_stringslite_Cut_pure N)) (.nil)
theorem strings_Cut_pure (N : Nat) : PureOK Tryd.prog 31 [.str, .str] [.str, .str, .bool] (fun x => strings_Cut N x.1 x.2) := pureOK (N := N) mixed strings_Cut_fn (strings_Cut_envok N) (TC.noh_ok (by kernel_rfl)) rfl (fun x => by kernel_rfl)
def strings_Index_C3 : TC := .ret
def strings_Index_C2 : TC := (.seq (.rg [.m 5 0, .m 6 1, .s 7 (.call (.c (.fn 57 [])) [(.t 5), (.t 6)]), .m 4 7] none) strings_Index_C3)
def strings_Index_C1 : TC := (.seq (.rg [.s 4 (.mov (.c (I 0)))] none) strings_Index_C2)
def strings_Index_E (N : Nat) : List (Nat × Ent) := [(57, pureE [.str, .str] [(.int .i64)] (fun x => internal_stringslite_Index N x.1 x.2))]
def strings_Index (N : Nat) (a0 : List UInt8) (a1 : List UInt8) : Option Int :=
  Option.bind (internal_stringslite_Index N a0 a1) fun r1 =>
  some r1
theorem strings_Index_fn : FnOK Tryd.prog 50 8 (fun _ : Nat => false) strings_Index_C1.er [(.t 4)] := FnOK.mk' Tryd.func50 (by kernel_rfl) (by kernel_rfl) (by kernel_rfl) (by kernel_rfl) (by kernel_rfl)
theorem strings_Index_envok (N : Nat) : EnvOK Tryd.prog (strings_Index_E N) := .cons (pureE_ok (internal_stringslite_Index_pure N)) (.nil)
theorem strings_Index_pure (N : Nat) : PureOK Tryd.prog 50 [.str, .str] [(.int .i64)] (fun x => strings_Index N x.1 x.2) := pureOK (N := N) mixed strings_Index_fn (strings_Index_envok N) (TC.noh_ok (by kernel_rfl)) rfl (fun x => by kernel_rfl)
def survey_number_N1 : List NS := [.keep [0, 4, 5, 6], .cmp]
def survey_number_C5 : TC := (.cond (.t 29) .skip (.exit 0))
def survey_number_C17 : TC := .ret
def survey_number_C11 : TC := (.cond (.t 41) (.seq (.rg [.s 2 (.mov (.c (I 0))), .s 3 (.mov (.c (B false)))] none) survey_number_C17) .skip)
def survey_number_C12 : TC := (.rg [.m 42 5, .s 43 (.bin .mul (.t 42) (.c (I 10))), .m 44 4, .m 45 6, .s 46 (.sidx (.t 44) (.t 45)), .s 47 (.bin .sub (.t 46) (.c (.v (.int .u8 48)))), .s 48 (.conv .i64 (.t 47)), .s 49 (.bin .add (.t 43) (.t 48)), .m 5 49] none)
def survey_number_C13 : TC := (.rg [.m 30 6, .s 31 (.bin .add (.t 30) (.c (I 1))), .m 6 31] none)
def survey_number_C6 : TC := (.seq (.block 1 (.seq (.seq (.rg [.m 32 4, .m 33 6, .s 34 (.sidx (.t 32) (.t 33)), .s 35 (.bin .lss (.t 34) (.c (.v (.int .u8 48)))), .m 36 35, ⟨⟨some 37, (.mov (.t 4)), some (36, false)⟩, {}⟩, ⟨⟨some 38, (.mov (.t 6)), some (36, false)⟩, {}⟩, ⟨⟨some 39, (.sidx (.t 37) (.t 38)), some (36, false)⟩,
  {}⟩, ⟨⟨some 40, (.bin .gtr (.t 39) (.c (.v (.int .u8 57)))), some (36, false)⟩, {}⟩, .s 41 (.pick (.t 36) (.c (B true)) (.t 40))] none) survey_number_C11) survey_number_C12)) survey_number_C13)
def survey_number_C1 : TC := (.seq (.seq (.rg [.m 26 6, .m 27 4, .s 28 (.lens (.t 27)), .s 29 (.bin .lss (.t 26) (.t 28))] none) survey_number_C5) survey_number_C6)
def survey_number_C7 : TC := (.cond (.t 54) (.rg [.m 55 5, .s 56 (.un .neg (.t 55)), .m 5 56] none) .skip)
def survey_number_C14 : TC := .ret
def survey_number_C8 : TC := (.seq (.rg [.m 57 5, .m 2 57, .s 3 (.mov (.c (B true)))] none) survey_number_C14)
def survey_number_C2 : TC := (.seq (.seq (.rg [.m 50 4, .s 51 (.lens (.t 50)), .m 52 0, .s 53 (.lens (.t 52)), .s 54 (.bin .lss (.t 51) (.t 53))] none) survey_number_C7) survey_number_C8)
def survey_number_C15 : TC := (.block 0 (.loop survey_number_N1 survey_number_C1))
def survey_number_C9 : TC := (.seq (.seq (.rg [.s 6 (.mov (.c (I 0)))] none) survey_number_C15) survey_number_C2)
def survey_number_C3 : TC := (.seq (.rg [.s 5 (.mov (.c (I 0)))] none) survey_number_C9)
def survey_number_C20 : TC := .ret
def survey_number_C18 : TC := (.cond (.t 25) (.seq (.rg [.s 2 (.mov (.c (I 0))), .s 3 (.mov (.c (B false)))] none) survey_number_C20) .skip)
def survey_number_C19 : TC := (.join [.keep [0, 4], .cmp] survey_number_C3)
def survey_number_C16 : TC := (.seq (.seq (.rg [.m 9 4, .s 10 (.lens (.t 9)), .s 11 (.bin .lss (.t 10) (.c (I 1))), .m 12 11, ⟨⟨some 13, (.mov (.t 4)), some (12, false)⟩, {}⟩, ⟨⟨some 14, (.lens (.t 13)), some (12, false)⟩, {}⟩, ⟨⟨some 15, (.bin .gtr (.t 14) (.c (I 18))), some (12, false)⟩, {}⟩, .s 16 (.pick (.t 12) (.c (B true))
  (.t 15)), .m 17 16, ⟨⟨some 18, (.mov (.t 4)), some (17, false)⟩, {}⟩, ⟨⟨some 19, (.sidx (.t 18) (.c (I 0))), some (17, false)⟩, {}⟩, ⟨⟨some 20, (.bin .eql (.t 19) (.c (.v (.int .u8 48)))), some (17, false)⟩, {}⟩, ⟨⟨some 21, (.mov (.t 20)), some (17, false)⟩, {}⟩, ⟨⟨some 22, (.mov (.t 0)), some (21,
  true)⟩, {}⟩, ⟨⟨some 23, (.bin .neq (.t 22) (.c (.v (.string ⟨⟨[48]⟩⟩)))), some (21, true)⟩, {}⟩, ⟨⟨some 24, (.pick (.t 21) (.t 23) (.c (B false))), some (17, false)⟩, {}⟩, .s 25 (.pick (.t 17) (.c (B true)) (.t 24))] none) survey_number_C18) survey_number_C19)
def survey_number_C10 : TC := (.seq (.rg [.m 7 0, .s 8 (.call (.c (.fn 60 [])) [(.t 7), (.c (.v (.string ⟨⟨[45]⟩⟩)))]), .m 4 8] none) survey_number_C16)
def survey_number_C4 : TC := (.seq (.rg [.s 2 (.mov (.c (I 0))), .s 3 (.mov (.c (B false)))] none) survey_number_C10)
def survey_number_E (N : Nat) : List (Nat × Ent) := [(60, pureE [.str, .str] [.str] (fun x => strings_TrimPrefix N x.1 x.2))]
def survey_number_L1 (N : Nat) (n : Nat) (x5 x6 : List UInt8) (x7 x8 : Int) : Option (Int × Bool) := loopN (normI 0 survey_number_N1) (run (survey_number_E N) N 0 survey_number_C1) n ⟨[(0, .str x5), (4, .str x6), (5, .int .i64 x7), (6, .int .i64 x8)], []⟩ (blkK 0 (seqK (run (survey_number_E N) N 0 survey_number_C2) (fin [(.t 2), (.t 3)] [(.int .i64), .bool])))
def survey_number_J1 (N : Nat) (JM : Nat) (x3 x4 : List UInt8) : Option (Int × Bool) := joinN (run (survey_number_E N) N 0 survey_number_C3) JM ⟨[(0, .str x3), (4, .str x4)], []⟩ (fin [(.t 2), (.t 3)] [(.int .i64), .bool])
theorem survey_number_L1_succ (N : Nat) (n1 : Nat) (x5 x6 : List UInt8) (x7 x8 : Int) : survey_number_L1 N (n1 + 1) x5 x6 x7 x8 =
  bif (decide (x8 < (x6.length : Int))) then
    bif inB x8 x6.length then
    bif (decide (((x6.getD x8.toNat 0).toNat : Int) < 48)) then
      some (0, false)
    else
      bif inB x8 x6.length then
      bif (decide (((x6.getD x8.toNat 0).toNat : Int) > 57)) then
        some (0, false)
      else
        bif inB x8 x6.length then
        survey_number_L1 N n1 x5 x6 (W ((W (x7 * 10)) + (W (IntKind.u8.wrap (((x6.getD x8.toNat 0).toNat : Int) - 48))))) (W (x8 + 1))
        else none
      else none
    else none
  else
    bif (decide ((x6.length : Int) < (x5.length : Int))) then
      some (W (0 - x7), true)
    else
      some (x7, true) := by kernel_rfl
theorem survey_number_J1_eq (N : Nat) (JM : Nat) (x3 x4 : List UInt8) : survey_number_J1 N (JM + 1) x3 x4 =
  survey_number_L1 N N x3 x4 0 0 := by kernel_rfl
def survey_number (N : Nat) (a0 : List UInt8) : Option (Int × Bool) :=
  Option.bind (strings_TrimPrefix N a0 [45]) fun r1 =>
  bif (decide ((r1.length : Int) < 1)) then
    some (0, false)
  else
    bif (decide ((r1.length : Int) > 18)) then
      some (0, false)
    else
      bif inB 0 r1.length then
      bif (((r1.getD (0 : Int).toNat 0).toNat : Int) == 48) then
        bif (!(a0 == ([48] : List UInt8))) then
          some (0, false)
        else
          survey_number_J1 N N a0 r1
      else
        survey_number_J1 N N a0 r1
      else none
theorem survey_number_fn : FnOK Tryd.prog 47 58 (fun _ : Nat => false) survey_number_C4.er [(.t 2), (.t 3)] := FnOK.mk' Tryd.func47 (by kernel_rfl) (by kernel_rfl) (by kernel_rfl) (by kernel_rfl) (by kernel_rfl)
theorem survey_number_envok (N : Nat) : EnvOK Tryd.prog (survey_number_E N) := .cons (pureE_ok (strings_TrimPrefix_pure N)) (.nil)
theorem survey_number_pure (N : Nat) : PureOK Tryd.prog 47 [.str] [(.int .i64), .bool] (fun x => survey_number N x) := pureOK (N := N) mixed survey_number_fn (survey_number_envok N) (TC.noh_ok (by kernel_rfl)) rfl (fun x => by kernel_rfl)
def survey_numbers_N1 : List NS := [.own 6 (.int .i64), .wk 15 (.list .str), .keep [6, 15, 16, 17], .cmp]
def survey_numbers_C22 : TC := .ret
def survey_numbers_C21 : TC := (.pre [.frz 4] survey_numbers_C22)
def survey_numbers_C19 : TC := (.cond (.t 27) (.seq (.rg [.s 4 (.mov (.c (.lst true []))), .s 5 (.mov (.c (B false)))] none) survey_numbers_C21) .skip)
def survey_numbers_C20 : TC := (.rg [.m 28 6, .m 29 9, ⟨⟨some 30, (.bslice false 1 [(I 0)] 1 [(0, (.t 29))]), none⟩, ⟨(.int .i64), none, []⟩⟩, .s 31 (.app 1 8 (.t 28) (.t 30)), .m 6 31] none)
def survey_numbers_C16 : TC := (.seq (.seq (.rg [.m 26 10, .s 27 (.un .not (.t 26))] none) survey_numbers_C19) survey_numbers_C20)
def survey_numbers_C11 : TC := (.seq (.rg [.m 22 8, .s 23 (.call (.c (.fn 47 [])) [(.t 22)]), .m 21 23, .s 24 (.extr 0 (.t 21)), .s 25 (.extr 1 (.t 21)), .m 9 24, .m 10 25] none) survey_numbers_C16)
def survey_numbers_C12 : TC := (.rg [.s 32 (.bin .add (.t 17) (.c (I 1))), .m 17 32] none)
def survey_numbers_C7 : TC := (.seq (.block 1 (.seq (.rg [.s 19 (.iadrS 1 (.t 15) (.t 17)), .s 20 (.load false 1 (.t 19)), .m 8 20] none) survey_numbers_C11)) survey_numbers_C12)
def survey_numbers_C4 : TC := (.seq (.cond (.t 18) .skip (.exit 0)) survey_numbers_C7)
def survey_numbers_C1 : TC := (.seq (.rg [.s 18 (.bin .lss (.t 17) (.t 16))] none) survey_numbers_C4)
def survey_numbers_C13 : TC := .ret
def survey_numbers_C8 : TC := (.pre [.frz 4] survey_numbers_C13)
def survey_numbers_C5 : TC := (.seq (.rg [.m 33 6, .m 4 33, .s 5 (.mov (.c (B true)))] none) survey_numbers_C8)
def survey_numbers_C2 : TC := (.pre [.frz 6] survey_numbers_C5)
def survey_numbers_C17 : TC := .ret
def survey_numbers_C14 : TC := (.pre [.frz 4] survey_numbers_C17)
def survey_numbers_C9 : TC := (.cond (.t 14) (.seq (.rg [.s 4 (.mov (.c (.lst true []))), .s 5 (.mov (.c (B false)))] none) survey_numbers_C14) .skip)
def survey_numbers_C18 : TC := (.block 0 (.loop survey_numbers_N1 survey_numbers_C1))
def survey_numbers_C15 : TC := (.seq (.seq (.rg [.m 15 0, .s 16 (.len (.t 15)), .s 17 (.mov (.c (I 0)))] none) survey_numbers_C18) survey_numbers_C2)
def survey_numbers_C10 : TC := (.seq (.rg [.s 6 (.mov (.c (.lst true [])))] none) survey_numbers_C15)
def survey_numbers_C6 : TC := (.seq (.seq (.rg [.m 11 0, .s 12 (.len (.t 11)), .m 13 1, .s 14 (.bin .neq (.t 12) (.t 13))] none) survey_numbers_C9) survey_numbers_C10)
def survey_numbers_C3 : TC := (.seq (.rg [.s 4 (.mov (.c (.lst true []))), .s 5 (.mov (.c (B false)))] none) survey_numbers_C6)
def survey_numbers_E (N : Nat) : List (Nat × Ent) := [(47, pureE [.str] [(.int .i64), .bool] (fun x => survey_number N x))]
def survey_numbers_L1 (N : Nat) (n : Nat) (x1 : List (List UInt8)) (x2 x3 : Int) (x4 : List Int) : Option ((List Int) × Bool) := loopN (normI 0 survey_numbers_N1) (run (survey_numbers_E N) N 0 survey_numbers_C1) n ⟨[(6, .whole 0), (15, .lst false .str x1), (16, .int .i64 x2), (17, .int .i64 x3)], [some (.arr (.int .i64) x4)]⟩ (blkK 0 (seqK (run (survey_numbers_E N) N 0 survey_numbers_C2) (fin [(.t 4), (.t 5)] [(.list (.int .i64)), .bool])))
theorem survey_numbers_L1_succ (N : Nat) (n1 : Nat) (x1 : List (List UInt8)) (x2 x3 : Int) (x4 : List Int) : survey_numbers_L1 N (n1 + 1) x1 x2 x3 x4 =
  bif (decide (x3 < x2)) then
    bif inB x3 x1.length then
    Option.bind (survey_number N (x1.getD x3.toNat [])) fun r5 =>
    bif (!r5.2) then
      some ([], false)
    else
      bif fitsB (x4.length + 1) 8 then
      survey_numbers_L1 N n1 x1 x2 (W (x3 + 1)) (x4 ++ [r5.1])
      else none
    else none
  else
    some (x4, true) := by kernel_rfl
def survey_numbers (N : Nat) (a0 : List (List UInt8)) (a1 : Int) : Option ((List Int) × Bool) :=
  bif ((a0.length : Int) != a1) then
    some ([], false)
  else
    survey_numbers_L1 N N a0 (a0.length : Int) 0 []
theorem survey_numbers_fn : FnOK Tryd.prog 33 34 (fun _ : Nat => false) survey_numbers_C3.er [(.t 4), (.t 5)] := FnOK.mk' Tryd.func33 (by kernel_rfl) (by kernel_rfl) (by kernel_rfl) (by kernel_rfl) (by kernel_rfl)
theorem survey_numbers_envok (N : Nat) : EnvOK Tryd.prog (survey_numbers_E N) := .cons (pureE_ok (survey_number_pure N)) (.nil)
theorem survey_numbers_pure (N : Nat) : PureOK Tryd.prog 33 [(.list .str), (.int .i64)] [(.list (.int .i64)), .bool] (fun x => survey_numbers N x.1 x.2) := pureOK (N := N) mixed survey_numbers_fn (survey_numbers_envok N) (TC.noh_ok (by kernel_rfl)) rfl (fun x => by kernel_rfl)
def survey_read_C23 : TC := .ret
def survey_read_C16 : TC := (.cond (.t 91) (.seq (.rg [.s 92 (.build [(I 0), (I 0), (B false), (I 0), (I 0), (I 0), (I 0), (B false), (B false), (I 0), (I 0), (I 0), (I 0), (I 0), (I 0), (I 0)] []), .d (.store 16 (.t 2) (.t 92)), .s 3 (.mov (.c (B false)))] none) survey_read_C23) .skip)
def survey_read_C30 : TC := .ret
def survey_read_C24 : TC := (.seq (.rg [.s 124 (.load true 10 (.t 11)), .s 125 (.build [(I 0), (I 0), (B false), (I 0), (I 0), (I 0), (I 0), (B false), (B false), (I 0), (I 0), (I 0), (I 0), (I 0), (I 0), (I 0)] [(0, (1, (.c (I 2)))), (3, (10, (.t 124)))]), .d (.store 16 (.t 2) (.t 125)), .s 3 (.mov (.c (B true)))] none)
  survey_read_C30)
def survey_read_C17 : TC := (.seq (.pre [.wait] (.rg [.m 93 7, .s 94 (.iadrS 1 (.t 93) (.c (I 0))), .s 95 (.load false 1 (.t 94)), .m 96 7, .s 97 (.iadrS 1 (.t 96) (.c (I 1))), .s 98 (.load false 1 (.t 97)), .m 99 7, .s 100 (.iadrS 1 (.t 99) (.c (I 2))), .s 101 (.load false 1 (.t 100)), .m 102 7, .s 103 (.iadrS 1 (.t 102) (.c
  (I 3))), .s 104 (.load false 1 (.t 103)), .m 105 4, .s 106 (.iadrS 1 (.t 105) (.c (I 5))), .s 107 (.load false 1 (.t 106)), .s 108 (.bin .eql (.t 107) (.c (.v (.string ⟨⟨[119, 97, 108, 107]⟩⟩)))), .m 109 9, .s 110 (.iadrS 1 (.t 109) (.c (I 0))), .s 111 (.load false 1 (.t 110)), .m 112 9, .s 113
  (.iadrS 1 (.t 112) (.c (I 1))), .s 114 (.load false 1 (.t 113)), .s 115 (.build [(I 0), (I 0)] [(0, (1, (.t 111))), (1, (1, (.t 114)))]), .m 116 9, .s 117 (.iadrS 1 (.t 116) (.c (I 2))), .s 118 (.load false 1 (.t 117)), .m 119 9, .s 120 (.iadrS 1 (.t 119) (.c (I 3))), .s 121 (.load false 1 (.t
  120)), .s 122 (.build [(I 0), (I 0)] [(0, (1, (.t 118))), (1, (1, (.t 121)))]), .s 123 (.build [(I 0), (I 0), (I 0), (I 0), (B false), (B false), (I 0), (I 0), (I 0), (I 0)] [(0, (1, (.t 95))), (1, (1, (.t 98))), (2, (1, (.t 101))), (3, (1, (.t 104))), (4, (1, (.t 108))), (6, (2, (.t 115))), (8,
  (2, (.t 122)))]), ⟨⟨some 11, (.alloc [(I 0), (I 0), (I 0), (I 0), (B false), (B false), (I 0), (I 0), (I 0), (I 0)]), none⟩, ⟨.unit, some 1, []⟩⟩, .d (.store 10 (.t 11) (.t 123))] (some [(1, 31), (2, 31), (4, 31), (5, 31), (7, 31), (8, 31), (10, 31), (11, 31), (13, 31), (14, 31), (17, 31), (18,
  31), (20, 31), (21, 31), (24, 31), (25, 31), (27, 31), (28, 31)]))) survey_read_C24)
def survey_read_C11 : TC := (.seq (.seq (.rg [.m 86 8, .s 87 (.un .not (.t 86)), .m 88 87, ⟨⟨some 89, (.mov (.t 10)), some (88, false)⟩, {}⟩, ⟨⟨some 90, (.un .not (.t 89)), some (88, false)⟩, {}⟩, .s 91 (.pick (.t 88) (.c (B true)) (.t 90))] none) survey_read_C16) survey_read_C17)
def survey_read_C5 : TC := (.seq (.rg [.m 81 4, .s 82 (.slc 1 (.t 81) (some (.c (I 6))) none), .s 83 (.call (.c (.fn 33 [])) [(.t 82), (.c (I 4))]), .m 80 83, .s 84 (.extr 0 (.t 80)), .s 85 (.extr 1 (.t 80)), .m 9 84, .m 10 85] none) survey_read_C11)
def survey_read_C1 : TC := (.seq (.rg [.m 75 4, .s 76 (.slc 1 (.t 75) (some (.c (I 1))) (some (.c (I 5)))), .s 77 (.call (.c (.fn 33 [])) [(.t 76), (.c (I 4))]), .m 74 77, .s 78 (.extr 0 (.t 74)), .s 79 (.extr 1 (.t 74)), .m 7 78, .m 8 79] none) survey_read_C5)
def survey_read_C6 : TC := .ret
def survey_read_C2 : TC := (.seq (.rg [.s 175 (.build [(I 0), (I 0), (B false), (I 0), (I 0), (I 0), (I 0), (B false), (B false), (I 0), (I 0), (I 0), (I 0), (I 0), (I 0), (I 0)] []), .d (.store 16 (.t 2) (.t 175)), .s 3 (.mov (.c (B false)))] none) survey_read_C6)
def survey_read_C18 : TC := .ret
def survey_read_C12 : TC := (.cond (.t 136) (.seq (.rg [.s 137 (.build [(I 0), (I 0), (B false), (I 0), (I 0), (I 0), (I 0), (B false), (B false), (I 0), (I 0), (I 0), (I 0), (I 0), (I 0), (I 0)] []), .d (.store 16 (.t 2) (.t 137)), .s 3 (.mov (.c (B false)))] none) survey_read_C18) .skip)
def survey_read_C25 : TC := (.cond (.t 141) (.rg [.s 14 (.mov (.c (I 3)))] none) .skip)
def survey_read_C31 : TC := .ret
def survey_read_C26 : TC := (.seq (.rg [.m 142 14, .m 143 12, .s 144 (.iadrS 1 (.t 143) (.c (I 0))), .s 145 (.load false 1 (.t 144)), .s 146 (.build [(I 0), (I 0), (B false), (I 0), (I 0), (I 0), (I 0), (B false), (B false), (I 0), (I 0), (I 0), (I 0), (I 0), (I 0), (I 0)] [(0, (1, (.t 142))), (13, (1, (.t 145)))]), .d (.store
  16 (.t 2) (.t 146)), .s 3 (.mov (.c (B true)))] none) survey_read_C31)
def survey_read_C19 : TC := (.seq (.seq (.rg [.m 138 4, .s 139 (.iadrS 1 (.t 138) (.c (I 0))), .s 140 (.load false 1 (.t 139)), .s 141 (.bin .eql (.t 140) (.c (.v (.string ⟨⟨[99, 108, 111, 115, 101]⟩⟩))))] none) survey_read_C25) survey_read_C26)
def survey_read_C13 : TC := (.seq (.rg [.s 14 (.mov (.c (I 4)))] none) survey_read_C19)
def survey_read_C7 : TC := (.seq (.seq (.rg [.m 135 13, .s 136 (.un .not (.t 135))] none) survey_read_C12) survey_read_C13)
def survey_read_C8 : TC := (.cond (.t 147) .skip (.rg [.s 149 (.bin .eql (.t 22) (.c (.v (.string ⟨⟨[108, 105, 102, 116]⟩⟩)))), .m 147 149] none))
def survey_read_C27 : TC := .ret
def survey_read_C20 : TC := (.cond (.t 157) (.seq (.rg [.s 158 (.build [(I 0), (I 0), (B false), (I 0), (I 0), (I 0), (I 0), (B false), (B false), (I 0), (I 0), (I 0), (I 0), (I 0), (I 0), (I 0)] []), .d (.store 16 (.t 2) (.t 158)), .s 3 (.mov (.c (B false)))] none) survey_read_C27) .skip)
def survey_read_C32 : TC := (.cond (.t 162) (.rg [.s 17 (.mov (.c (I 6)))] none) .skip)
def survey_read_C37 : TC := .ret
def survey_read_C33 : TC := (.seq (.rg [.m 163 17, .m 164 15, .s 165 (.iadrS 1 (.t 164) (.c (I 0))), .s 166 (.load false 1 (.t 165)), .m 167 15, .s 168 (.iadrS 1 (.t 167) (.c (I 1))), .s 169 (.load false 1 (.t 168)), .m 170 15, .s 171 (.iadrS 1 (.t 170) (.c (I 2))), .s 172 (.load false 1 (.t 171)), .s 173 (.build [(I 0), (I 0)]
  [(0, (1, (.t 169))), (1, (1, (.t 172)))]), .s 174 (.build [(I 0), (I 0), (B false), (I 0), (I 0), (I 0), (I 0), (B false), (B false), (I 0), (I 0), (I 0), (I 0), (I 0), (I 0), (I 0)] [(0, (1, (.t 163))), (13, (1, (.t 166))), (14, (2, (.t 173)))]), .d (.store 16 (.t 2) (.t 174)), .s 3 (.mov (.c (B
  true)))] (some [])) survey_read_C37)
def survey_read_C28 : TC := (.seq (.seq (.rg [.m 159 4, .s 160 (.iadrS 1 (.t 159) (.c (I 0))), .s 161 (.load false 1 (.t 160)), .s 162 (.bin .eql (.t 161) (.c (.v (.string ⟨⟨[108, 105, 102, 116]⟩⟩))))] none) survey_read_C32) survey_read_C33)
def survey_read_C21 : TC := (.seq (.rg [.s 17 (.mov (.c (I 5)))] none) survey_read_C28)
def survey_read_C14 : TC := (.seq (.seq (.rg [.m 156 16, .s 157 (.un .not (.t 156))] none) survey_read_C20) survey_read_C21)
def survey_read_C9 : TC := (.cond (.t 147) (.seq (.rg [.m 151 4, .s 152 (.slc 1 (.t 151) (some (.c (I 1))) none), .s 153 (.call (.c (.fn 33 [])) [(.t 152), (.c (I 3))]), .m 150 153, .s 154 (.extr 0 (.t 150)), .s 155 (.extr 1 (.t 150)), .m 15 154, .m 16 155] none) survey_read_C14) .skip)
def survey_read_C3 : TC := (.cond (.t 126) (.seq (.rg [.m 130 4, .s 131 (.slc 1 (.t 130) (some (.c (I 1))) none), .s 132 (.call (.c (.fn 33 [])) [(.t 131), (.c (I 1))]), .m 129 132, .s 133 (.extr 0 (.t 129)), .s 134 (.extr 1 (.t 129)), .m 12 133, .m 13 134] none) survey_read_C7) (.seq (.seq (.rg [.s 148 (.bin .eql (.t 22) (.c
  (.v (.string ⟨⟨[114, 101, 115, 116]⟩⟩)))), .m 147 148] none) survey_read_C8) survey_read_C9))
def survey_read_C38 : TC := .ret
def survey_read_C34 : TC := (.cond (.t 39) (.seq (.rg [.s 40 (.build [(I 0), (I 0), (B false), (I 0), (I 0), (I 0), (I 0), (B false), (B false), (I 0), (I 0), (I 0), (I 0), (I 0), (I 0), (I 0)] []), .d (.store 16 (.t 2) (.t 40)), .s 3 (.mov (.c (B false)))] none) survey_read_C38) .skip)
def survey_read_C44 : TC := .ret
def survey_read_C39 : TC := (.seq (.rg [.m 48 5, .m 49 4, .s 50 (.iadrS 1 (.t 49) (.c (I 2))), .s 51 (.load false 1 (.t 50)), .s 52 (.bin .eql (.t 51) (.c (.v (.string ⟨⟨[115, 117, 114, 102, 97, 99, 101]⟩⟩)))), .s 53 (.build [(I 0), (B false)] [(0, (1, (.t 48))), (1, (1, (.t 52)))]), .s 54 (.build [(I 0), (I 0), (B false), (I
  0), (I 0), (I 0), (I 0), (B false), (B false), (I 0), (I 0), (I 0), (I 0), (I 0), (I 0), (I 0)] [(0, (1, (.c (I 1)))), (1, (2, (.t 53)))]), .m 55 6, .d (.store 16 (.t 2) (.t 54)), .m 3 55] none) survey_read_C44)
def survey_read_C35 : TC := (.seq (.rg [.m 42 4, .s 43 (.iadrS 1 (.t 42) (.c (I 1))), .s 44 (.load false 1 (.t 43)), .s 45 (.call (.c (.fn 47 [])) [(.t 44)]), .m 41 45, .s 46 (.extr 0 (.t 41)), .s 47 (.extr 1 (.t 41)), .m 5 46, .m 6 47] none) survey_read_C39)
def survey_read_C45 : TC := .ret
def survey_read_C40 : TC := (.cond (.t 72) (.seq (.rg [.s 73 (.build [(I 0), (I 0), (B false), (I 0), (I 0), (I 0), (I 0), (B false), (B false), (I 0), (I 0), (I 0), (I 0), (I 0), (I 0), (I 0)] []), .d (.store 16 (.t 2) (.t 73)), .s 3 (.mov (.c (B false)))] none) survey_read_C45) .skip)
def survey_read_C41 : TC := (.join [.wk 4 (.list .str), .keep [2, 4], .cmp] survey_read_C1)
def survey_read_C42 : TC := (.cond (.t 126) .skip (.rg [.s 128 (.bin .eql (.t 22) (.c (.v (.string ⟨⟨[111, 112, 101, 110]⟩⟩)))), .m 126 128] none))
def survey_read_C43 : TC := (.join [.wk 4 (.list .str), .keep [2, 4, 22, 126], .cmp] survey_read_C3)
def survey_read_C36 : TC := (.cond (.t 56) (.seq (.seq (.rg [.m 58 4, .s 59 (.len (.t 58)), .s 60 (.bin .neq (.t 59) (.c (I 10))), .m 61 60, ⟨⟨some 62, (.mov (.t 4)), some (61, false)⟩, {}⟩, ⟨⟨some 63, (.iadrS 1 (.t 62) (.c (I 5))), some (61, false)⟩, {}⟩, ⟨⟨some 64, (.load false 1 (.t 63)), some (61, false)⟩, {}⟩, ⟨⟨some 65,
  (.bin .neq (.t 64) (.c (.v (.string ⟨⟨[119, 97, 108, 107]⟩⟩)))), some (61, false)⟩, {}⟩, ⟨⟨some 66, (.mov (.t 65)), some (61, false)⟩, {}⟩, ⟨⟨some 67, (.mov (.t 4)), some (66, true)⟩, {}⟩, ⟨⟨some 68, (.iadrS 1 (.t 67) (.c (I 5))), some (66, true)⟩, {}⟩, ⟨⟨some 69, (.load false 1 (.t 68)), some (66,
  true)⟩, {}⟩, ⟨⟨some 70, (.bin .neq (.t 69) (.c (.v (.string ⟨⟨[109, 97, 99, 104, 105, 110, 101]⟩⟩)))), some (66, true)⟩, {}⟩, ⟨⟨some 71, (.pick (.t 66) (.t 70) (.c (B false))), some (61, false)⟩, {}⟩, .s 72 (.pick (.t 61) (.c (B true)) (.t 71))] none) survey_read_C40) survey_read_C41) (.seq (.seq
  (.rg [.s 127 (.bin .eql (.t 22) (.c (.v (.string ⟨⟨[99, 108, 111, 115, 101]⟩⟩)))), .m 126 127] none) survey_read_C42) survey_read_C43))
def survey_read_C29 : TC := (.cond (.t 23) (.seq (.seq (.rg [.m 25 4, .s 26 (.len (.t 25)), .s 27 (.bin .neq (.t 26) (.c (I 3))), .m 28 27, ⟨⟨some 29, (.mov (.t 4)), some (28, false)⟩, {}⟩, ⟨⟨some 30, (.iadrS 1 (.t 29) (.c (I 2))), some (28, false)⟩, {}⟩, ⟨⟨some 31, (.load false 1 (.t 30)), some (28, false)⟩, {}⟩, ⟨⟨some 32,
  (.bin .neq (.t 31) (.c (.v (.string ⟨⟨[115, 117, 114, 102, 97, 99, 101]⟩⟩)))), some (28, false)⟩, {}⟩, ⟨⟨some 33, (.mov (.t 32)), some (28, false)⟩, {}⟩, ⟨⟨some 34, (.mov (.t 4)), some (33, true)⟩, {}⟩, ⟨⟨some 35, (.iadrS 1 (.t 34) (.c (I 2))), some (33, true)⟩, {}⟩, ⟨⟨some 36, (.load false 1 (.t
  35)), some (33, true)⟩, {}⟩, ⟨⟨some 37, (.bin .neq (.t 36) (.c (.v (.string ⟨⟨[98, 101, 108, 111, 119]⟩⟩)))), some (33, true)⟩, {}⟩, ⟨⟨some 38, (.pick (.t 33) (.t 37) (.c (B false))), some (28, false)⟩, {}⟩, .s 39 (.pick (.t 28) (.c (B true)) (.t 38))] none) survey_read_C34) survey_read_C35) (.seq
  (.rg [.s 57 (.bin .eql (.t 22) (.c (.v (.string ⟨⟨[114, 111, 97, 100]⟩⟩)))), .m 56 57] none) survey_read_C36))
def survey_read_C22 : TC := (.block 0 (.seq (.rg [.s 24 (.bin .eql (.t 22) (.c (.v (.string ⟨⟨[112, 108, 97, 99, 101]⟩⟩)))), .m 23 24] none) survey_read_C29))
def survey_read_C15 : TC := (.seq (.seq (.rg [.m 20 4, .s 21 (.iadrS 1 (.t 20) (.c (I 0))), .s 22 (.load false 1 (.t 21))] none) survey_read_C22) survey_read_C2)
def survey_read_C10 : TC := (.seq (.rg [.m 18 0, .s 19 (.call (.c (.fn 32 [])) [(.t 18), (.c (.v (.string ⟨⟨[32]⟩⟩)))]), .m 4 19] none) survey_read_C15)
def survey_read_C4 : TC := (.seq (.rg [.s 2 (.alloc [(I 0), (I 0), (B false), (I 0), (I 0), (I 0), (I 0), (B false), (B false), (I 0), (I 0), (I 0), (I 0), (I 0), (I 0), (I 0)]), .s 3 (.mov (.c (B false)))] none) survey_read_C10)
def survey_read_E (N : Nat) : List (Nat × Ent) := [(32, pureE [.str, .str] [(.list .str)] (fun x => strings_Split N x.1 x.2)), (47, pureE [.str] [(.int .i64), .bool] (fun x => survey_number N x)), (33, pureE [(.list .str), (.int .i64)] [(.list (.int .i64)), .bool] (fun x => survey_numbers N x.1 x.2))]
def survey_read_J1 (N : Nat) (JM : Nat) (x13 : List (List UInt8)) (x14 x15 : Int) (x16 : Bool) (x17 x18 x19 x20 : Int) (x21 x22 : Bool) (x23 x24 x25 x26 x27 x28 x29 : Int) : Option (T_Edit × Bool) := joinN (run (survey_read_E N) N 0 survey_read_C1) JM ⟨[(2, .ptr 0 0 0), (4, .lst false .str x13)], [some (.box 0 [.int .i64 x14, .int .i64 x15, .bool x16, .int .i64 x17, .int .i64 x18, .int .i64 x19, .int .i64 x20, .bool x21, .bool x22, .int .i64 x23, .int .i64 x24, .int .i64 x25, .int .i64 x26, .int .i64 x27, .int .i64 x28, .int .i64 x29])]⟩ (blkK 0 (seqK (run (survey_read_E N) N 0 survey_read_C2) (fin [(.cell 2 true 16), (.t 3)] [G_Edit, .bool])))
def survey_read_J2 (N : Nat) (JM : Nat) (x77 : List (List UInt8)) (x78 : List UInt8) (x79 : Bool) (x80 x81 : Int) (x82 : Bool) (x83 x84 x85 x86 : Int) (x87 x88 : Bool) (x89 x90 x91 x92 x93 x94 x95 : Int) : Option (T_Edit × Bool) := joinN (run (survey_read_E N) N 0 survey_read_C3) JM ⟨[(2, .ptr 0 0 0), (4, .lst false .str x77), (22, .str x78), (126, .bool x79)], [some (.box 0 [.int .i64 x80, .int .i64 x81, .bool x82, .int .i64 x83, .int .i64 x84, .int .i64 x85, .int .i64 x86, .bool x87, .bool x88, .int .i64 x89, .int .i64 x90, .int .i64 x91, .int .i64 x92, .int .i64 x93, .int .i64 x94, .int .i64 x95])]⟩ (blkK 0 (seqK (run (survey_read_E N) N 0 survey_read_C2) (fin [(.cell 2 true 16), (.t 3)] [G_Edit, .bool])))
theorem survey_read_J1_eq (N : Nat) (JM : Nat) (x13 : List (List UInt8)) (x14 x15 : Int) (x16 : Bool) (x17 x18 x19 x20 : Int) (x21 x22 : Bool) (x23 x24 x25 x26 x27 x28 x29 : Int) : survey_read_J1 N (JM + 1) x13 x14 x15 x16 x17 x18 x19 x20 x21 x22 x23 x24 x25 x26 x27 x28 x29 =
  bif slB 1 5 x13.length then
  Option.bind (survey_numbers N ((x13.drop (1 : Int).toNat).take ((5 : Int).toNat - (1 : Int).toNat)) 4) fun r31 =>
  bif slB 6 x13.length x13.length then
  Option.bind (survey_numbers N (x13.drop (6 : Int).toNat) 4) fun r33 =>
  bif (!r31.2) then
    some ((0, ((0, false), ((0, (0, (0, (0, (false, (false, ((0, 0), (0, 0)))))))), (0, (0, 0))))), false)
  else
    bif (!r33.2) then
      some ((0, ((0, false), ((0, (0, (0, (0, (false, (false, ((0, 0), (0, 0)))))))), (0, (0, 0))))), false)
    else
      bif inB 0 r31.1.length then
      bif inB 1 r31.1.length then
      bif inB 2 r31.1.length then
      bif inB 3 r31.1.length then
      bif inB 5 x13.length then
      bif inB 0 r33.1.length then
      bif inB 1 r33.1.length then
      bif inB 2 r33.1.length then
      bif inB 3 r33.1.length then
      some ((2, ((0, false), (((r31.1.getD (0 : Int).toNat 0), ((r31.1.getD (1 : Int).toNat 0), ((r31.1.getD (2 : Int).toNat 0), ((r31.1.getD (3 : Int).toNat 0), (((x13.getD (5 : Int).toNat []) == ([119, 97, 108, 107] : List UInt8)), (false, (((r33.1.getD (0 : Int).toNat 0), (r33.1.getD (1 : Int).toNat 0)), ((r33.1.getD (2 : Int).toNat 0), (r33.1.getD (3 : Int).toNat 0))))))))), (0, (0, 0))))), true)
      else none
      else none
      else none
      else none
      else none
      else none
      else none
      else none
      else none
  else none
  else none := by kernel_rfl
theorem survey_read_J2_eq (N : Nat) (JM : Nat) (x77 : List (List UInt8)) (x78 : List UInt8) (x79 : Bool) (x80 x81 : Int) (x82 : Bool) (x83 x84 x85 x86 : Int) (x87 x88 : Bool) (x89 x90 x91 x92 x93 x94 x95 : Int) : survey_read_J2 N (JM + 1) x77 x78 x79 x80 x81 x82 x83 x84 x85 x86 x87 x88 x89 x90 x91 x92 x93 x94 x95 =
  bif x79 then
    bif slB 1 x77.length x77.length then
    Option.bind (survey_numbers N (x77.drop (1 : Int).toNat) 1) fun r97 =>
    bif (!r97.2) then
      some ((0, ((0, false), ((0, (0, (0, (0, (false, (false, ((0, 0), (0, 0)))))))), (0, (0, 0))))), false)
    else
      bif inB 0 x77.length then
      bif ((x77.getD (0 : Int).toNat []) == ([99, 108, 111, 115, 101] : List UInt8)) then
        bif inB 0 r97.1.length then
        some ((3, ((0, false), ((0, (0, (0, (0, (false, (false, ((0, 0), (0, 0)))))))), ((r97.1.getD (0 : Int).toNat 0), (0, 0))))), true)
        else none
      else
        bif inB 0 r97.1.length then
        some ((4, ((0, false), ((0, (0, (0, (0, (false, (false, ((0, 0), (0, 0)))))))), ((r97.1.getD (0 : Int).toNat 0), (0, 0))))), true)
        else none
      else none
    else none
  else
    bif (x78 == ([114, 101, 115, 116] : List UInt8)) then
      bif slB 1 x77.length x77.length then
      Option.bind (survey_numbers N (x77.drop (1 : Int).toNat) 3) fun r102 =>
      bif (!r102.2) then
        some ((0, ((0, false), ((0, (0, (0, (0, (false, (false, ((0, 0), (0, 0)))))))), (0, (0, 0))))), false)
      else
        bif inB 0 x77.length then
        bif ((x77.getD (0 : Int).toNat []) == ([108, 105, 102, 116] : List UInt8)) then
          bif inB 0 r102.1.length then
          bif inB 1 r102.1.length then
          bif inB 2 r102.1.length then
          some ((6, ((0, false), ((0, (0, (0, (0, (false, (false, ((0, 0), (0, 0)))))))), ((r102.1.getD (0 : Int).toNat 0), ((r102.1.getD (1 : Int).toNat 0), (r102.1.getD (2 : Int).toNat 0)))))), true)
          else none
          else none
          else none
        else
          bif inB 0 r102.1.length then
          bif inB 1 r102.1.length then
          bif inB 2 r102.1.length then
          some ((5, ((0, false), ((0, (0, (0, (0, (false, (false, ((0, 0), (0, 0)))))))), ((r102.1.getD (0 : Int).toNat 0), ((r102.1.getD (1 : Int).toNat 0), (r102.1.getD (2 : Int).toNat 0)))))), true)
          else none
          else none
          else none
        else none
      else none
    else
      bif (x78 == ([108, 105, 102, 116] : List UInt8)) then
        bif slB 1 x77.length x77.length then
        Option.bind (survey_numbers N (x77.drop (1 : Int).toNat) 3) fun r111 =>
        bif (!r111.2) then
          some ((0, ((0, false), ((0, (0, (0, (0, (false, (false, ((0, 0), (0, 0)))))))), (0, (0, 0))))), false)
        else
          bif inB 0 x77.length then
          bif ((x77.getD (0 : Int).toNat []) == ([108, 105, 102, 116] : List UInt8)) then
            bif inB 0 r111.1.length then
            bif inB 1 r111.1.length then
            bif inB 2 r111.1.length then
            some ((6, ((0, false), ((0, (0, (0, (0, (false, (false, ((0, 0), (0, 0)))))))), ((r111.1.getD (0 : Int).toNat 0), ((r111.1.getD (1 : Int).toNat 0), (r111.1.getD (2 : Int).toNat 0)))))), true)
            else none
            else none
            else none
          else
            bif inB 0 r111.1.length then
            bif inB 1 r111.1.length then
            bif inB 2 r111.1.length then
            some ((5, ((0, false), ((0, (0, (0, (0, (false, (false, ((0, 0), (0, 0)))))))), ((r111.1.getD (0 : Int).toNat 0), ((r111.1.getD (1 : Int).toNat 0), (r111.1.getD (2 : Int).toNat 0)))))), true)
            else none
            else none
            else none
          else none
        else none
      else
        some ((0, ((0, false), ((0, (0, (0, (0, (false, (false, ((0, 0), (0, 0)))))))), (0, (0, 0))))), false) := by kernel_rfl
def survey_read (N : Nat) (a0 : List UInt8) : Option (T_Edit × Bool) :=
  Option.bind (strings_Split N a0 [32]) fun r1 =>
  bif inB 0 r1.length then
  let v2 := r1.getD (0 : Int).toNat []
  bif (v2 == ([112, 108, 97, 99, 101] : List UInt8)) then
    bif ((r1.length : Int) != 3) then
      some ((0, ((0, false), ((0, (0, (0, (0, (false, (false, ((0, 0), (0, 0)))))))), (0, (0, 0))))), false)
    else
      bif inB 2 r1.length then
      bif (!((r1.getD (2 : Int).toNat []) == ([115, 117, 114, 102, 97, 99, 101] : List UInt8))) then
        bif inB 2 r1.length then
        bif (!((r1.getD (2 : Int).toNat []) == ([98, 101, 108, 111, 119] : List UInt8))) then
          some ((0, ((0, false), ((0, (0, (0, (0, (false, (false, ((0, 0), (0, 0)))))))), (0, (0, 0))))), false)
        else
          bif inB 1 r1.length then
          Option.bind (survey_number N (r1.getD (1 : Int).toNat [])) fun r6 =>
          bif inB 2 r1.length then
          some ((1, ((r6.1, ((r1.getD (2 : Int).toNat []) == ([115, 117, 114, 102, 97, 99, 101] : List UInt8))), ((0, (0, (0, (0, (false, (false, ((0, 0), (0, 0)))))))), (0, (0, 0))))), r6.2)
          else none
          else none
        else none
      else
        bif inB 1 r1.length then
        Option.bind (survey_number N (r1.getD (1 : Int).toNat [])) fun r9 =>
        bif inB 2 r1.length then
        some ((1, ((r9.1, ((r1.getD (2 : Int).toNat []) == ([115, 117, 114, 102, 97, 99, 101] : List UInt8))), ((0, (0, (0, (0, (false, (false, ((0, 0), (0, 0)))))))), (0, (0, 0))))), r9.2)
        else none
        else none
      else none
  else
    bif (v2 == ([114, 111, 97, 100] : List UInt8)) then
      bif ((r1.length : Int) != 10) then
        some ((0, ((0, false), ((0, (0, (0, (0, (false, (false, ((0, 0), (0, 0)))))))), (0, (0, 0))))), false)
      else
        bif inB 5 r1.length then
        bif (!((r1.getD (5 : Int).toNat []) == ([119, 97, 108, 107] : List UInt8))) then
          bif inB 5 r1.length then
          bif (!((r1.getD (5 : Int).toNat []) == ([109, 97, 99, 104, 105, 110, 101] : List UInt8))) then
            some ((0, ((0, false), ((0, (0, (0, (0, (false, (false, ((0, 0), (0, 0)))))))), (0, (0, 0))))), false)
          else
            survey_read_J1 N N r1 0 0 false 0 0 0 0 false false 0 0 0 0 0 0 0
          else none
        else
          survey_read_J1 N N r1 0 0 false 0 0 0 0 false false 0 0 0 0 0 0 0
        else none
    else
      bif (v2 == ([99, 108, 111, 115, 101] : List UInt8)) then
        survey_read_J2 N N r1 v2 true 0 0 false 0 0 0 0 false false 0 0 0 0 0 0 0
      else
        survey_read_J2 N N r1 v2 (v2 == ([111, 112, 101, 110] : List UInt8)) 0 0 false 0 0 0 0 false false 0 0 0 0 0 0 0
  else none
theorem survey_read_fn : FnOK Tryd.prog 34 176 (fun _ : Nat => false) survey_read_C4.er [(.cell 2 true 16), (.t 3)] := FnOK.mk' Tryd.func34 (by kernel_rfl) (by kernel_rfl) (by kernel_rfl) (by kernel_rfl) (by kernel_rfl)
theorem survey_read_envok (N : Nat) : EnvOK Tryd.prog (survey_read_E N) := .cons (pureE_ok (strings_Split_pure N)) (.cons (pureE_ok (survey_number_pure N)) (.cons (pureE_ok (survey_numbers_pure N)) (.nil)))
theorem survey_read_pure (N : Nat) : PureOK Tryd.prog 34 [.str] [G_Edit, .bool] (fun x => survey_read N x) := pureOK (N := N) mixed survey_read_fn (survey_read_envok N) (TC.noh_ok (by kernel_rfl)) rfl (fun x => by kernel_rfl)
def survey_Parse_N1 : List NS := [.own 5 G_Edit, .keep [0, 5, 6, 7], .cmp]
def survey_Parse_C15 : TC := .ret
def survey_Parse_C10 : TC := (.pre [.frz 2] survey_Parse_C15)
def survey_Parse_C6 : TC := (.cond (.t 30) (.seq (.rg [.m 31 7, .s 2 (.mov (.c (.lst true []))), .m 3 31, .s 4 (.mov (.c (I 6)))] none) survey_Parse_C10) .skip)
def survey_Parse_C35 : TC := .ret
def survey_Parse_C29 : TC := (.pre [.frz 2] survey_Parse_C35)
def survey_Parse_C24 : TC := (.cond (.t 45) (.seq (.rg [.m 46 7, .s 2 (.mov (.c (.lst true []))), .m 3 46, .s 4 (.mov (.c (I 6)))] none) survey_Parse_C29) .skip)
def survey_Parse_C40 : TC := .ret
def survey_Parse_C36 : TC := (.pre [.frz 2] survey_Parse_C40)
def survey_Parse_C30 : TC := (.cond (.t 54) (.seq (.rg [.m 55 7, .s 2 (.mov (.c (.lst true []))), .m 3 55, .s 4 (.mov (.c (I 7)))] none) survey_Parse_C36) .skip)
def survey_Parse_C43 : TC := .ret
def survey_Parse_C41 : TC := (.pre [.frz 2] survey_Parse_C43)
def survey_Parse_C37 : TC := (.cond (.t 63) (.seq (.rg [.m 64 7, .s 65 (.bin .add (.t 64) (.c (I 1))), .s 2 (.mov (.c (.lst true []))), .m 3 65, .s 4 (.mov (.c (I 6)))] none) survey_Parse_C41) .skip)
def survey_Parse_C44 : TC := .ret
def survey_Parse_C42 : TC := (.pre [.frz 2] survey_Parse_C44)
def survey_Parse_C38 : TC := (.seq (.rg [.m 66 5, .m 2 66, .s 3 (.mov (.c (I 0))), .s 4 (.mov (.c (I 0)))] none) survey_Parse_C42)
def survey_Parse_C31 : TC := (.seq (.seq (.rg [.m 56 6, .m 57 8, .s 58 (.lens (.t 57)), .s 59 (.bin .add (.t 56) (.t 58)), .s 60 (.bin .add (.t 59) (.c (I 1))), .m 61 0, .s 62 (.lens (.t 61)), .s 63 (.bin .lss (.t 60) (.t 62))] none) survey_Parse_C37) survey_Parse_C38)
def survey_Parse_C25 : TC := (.seq (.seq (.rg [.m 47 12, .s 48 (.iadrS 1 (.t 47) (.c (I 0))), .s 49 (.load false 1 (.t 48)), .m 50 0, .m 51 6, .s 52 (.sslc (.t 50) none (some (.t 51))), .s 53 (.call (.c (.fn 7 [])) [(.t 52)]), .s 54 (.bin .neq (.t 49) (.t 53))] (some [(1, 6), (2, 6)])) survey_Parse_C30) survey_Parse_C31)
def survey_Parse_C20 : TC := (.seq (.seq (.rg [.m 44 13, .s 45 (.un .not (.t 44))] none) survey_Parse_C24) survey_Parse_C25)
def survey_Parse_C16 : TC := (.cond (.t 37) (.seq (.rg [.m 39 11, .s 40 (.slc 1 (.t 39) (some (.c (I 1))) none), .s 41 (.call (.c (.fn 33 [])) [(.t 40), (.c (I 1))]), .m 38 41, .s 42 (.extr 0 (.t 38)), .s 43 (.extr 1 (.t 38)), .m 12 42, .m 13 43] none) survey_Parse_C20) .skip)
def survey_Parse_C11 : TC := (.seq (.rg [.m 34 11, .s 35 (.iadrS 1 (.t 34) (.c (I 0))), .s 36 (.load false 1 (.t 35)), .s 37 (.bin .eql (.t 36) (.c (.v (.string ⟨⟨[115, 117, 109]⟩⟩))))] none) survey_Parse_C16)
def survey_Parse_C32 : TC := .ret
def survey_Parse_C26 : TC := (.pre [.frz 2] survey_Parse_C32)
def survey_Parse_C21 : TC := (.cond (.t 73) (.seq (.rg [.m 74 7, .s 2 (.mov (.c (.lst true []))), .m 3 74, .s 4 (.mov (.c (I 6)))] none) survey_Parse_C26) .skip)
def survey_Parse_C39 : TC := .ret
def survey_Parse_C33 : TC := (.pre [.frz 2] survey_Parse_C39)
def survey_Parse_C27 : TC := (.cond (.t 76) (.seq (.rg [.m 77 7, .s 2 (.mov (.c (.lst true []))), .m 3 77, .s 4 (.mov (.c (I 2)))] none) survey_Parse_C33) .skip)
def survey_Parse_C34 : TC := (.rg [.m 82 6, .m 83 8, .s 84 (.lens (.t 83)), .s 85 (.bin .add (.t 84) (.c (I 1))), .s 86 (.bin .add (.t 82) (.t 85)), .m 6 86] none)
def survey_Parse_C28 : TC := (.seq (.rg [.m 78 5, .s 79 (.load true 16 (.t 14)), ⟨⟨some 80, (.bslice false 16 [(I 0), (I 0), (B false), (I 0), (I 0), (I 0), (I 0), (B false), (B false), (I 0), (I 0), (I 0), (I 0), (I 0), (I 0), (I 0)] 1 [(0, (.t 79))]), none⟩, ⟨G_Edit, none, []⟩⟩, .s 81 (.app 16 120 (.t 78) (.t 80)), .m 5 81]
  none) survey_Parse_C34)
def survey_Parse_C22 : TC := (.seq (.seq (.rg [.m 75 7, .s 76 (.bin .gtr (.t 75) (.c (I 1000)))] none) survey_Parse_C27) survey_Parse_C28)
def survey_Parse_C17 : TC := (.seq (.seq (.rg [.m 72 15, .s 73 (.un .not (.t 72))] none) survey_Parse_C21) survey_Parse_C22)
def survey_Parse_C12 : TC := (.seq (.rg [.m 68 8, .s 69 (.call (.c (.fn 34 [])) [(.t 68)]), .m 67 69, .s 70 (.extr 0 (.t 67)), .s 71 (.extr 1 (.t 67)), .s 14 (.alloc [(I 0), (I 0), (B false), (I 0), (I 0), (I 0), (I 0), (B false), (B false), (I 0), (I 0), (I 0), (I 0), (I 0), (I 0), (I 0)]), .d (.store 16 (.t 14) (.t 70)), .m 15
  71] none) survey_Parse_C17)
def survey_Parse_C7 : TC := (.seq (.seq (.rg [.m 32 8, .s 33 (.call (.c (.fn 32 [])) [(.t 32), (.c (.v (.string ⟨⟨[32]⟩⟩)))]), .m 11 33] none) survey_Parse_C11) survey_Parse_C12)
def survey_Parse_C3 : TC := (.seq (.seq (.rg [.m 29 10, .s 30 (.un .not (.t 29))] none) survey_Parse_C6) survey_Parse_C7)
def survey_Parse_C4 : TC := (.rg [.m 19 7, .s 20 (.bin .add (.t 19) (.c (I 1))), .m 7 20] none)
def survey_Parse_C1 : TC := (.seq (.block 1 (.seq (.rg [.m 22 0, .m 23 6, .s 24 (.sslc (.t 22) (some (.t 23)) none), .s 25 (.call (.c (.fn 31 [])) [(.t 24), (.c (.v (.string ⟨⟨[10]⟩⟩)))]), .m 21 25, .s 26 (.extr 0 (.t 21)), .s 27 (.extr 1 (.t 21)), .s 28 (.extr 2 (.t 21)), .m 8 26, .m 9 27, .m 10 28] none) survey_Parse_C3))
  survey_Parse_C4)
def survey_Parse_C18 : TC := .ret
def survey_Parse_C13 : TC := (.pre [.frz 2] survey_Parse_C18)
def survey_Parse_C8 : TC := (.cond (.t 18) (.seq (.rg [.s 2 (.mov (.c (.lst true []))), .s 3 (.mov (.c (I 0))), .s 4 (.mov (.c (I 2)))] none) survey_Parse_C13) .skip)
def survey_Parse_C23 : TC := (.block 0 (.loop survey_Parse_N1 survey_Parse_C1))
def survey_Parse_C19 : TC := (.seq (.rg [.s 7 (.mov (.c (I 1)))] none) survey_Parse_C23)
def survey_Parse_C14 : TC := (.seq (.rg [.s 6 (.mov (.c (I 0)))] none) survey_Parse_C19)
def survey_Parse_C9 : TC := (.seq (.rg [.s 5 (.mov (.c (.lst true [])))] none) survey_Parse_C14)
def survey_Parse_C5 : TC := (.seq (.seq (.rg [.m 16 0, .s 17 (.lens (.t 16)), .s 18 (.bin .gtr (.t 17) (.c (I 65536)))] none) survey_Parse_C8) survey_Parse_C9)
def survey_Parse_C2 : TC := (.seq (.rg [.s 2 (.mov (.c (.lst true []))), .s 3 (.mov (.c (I 0))), .s 4 (.mov (.c (I 0)))] none) survey_Parse_C5)
def survey_Parse_E (N : Nat) : List (Nat × Ent) := [(31, pureE [.str, .str] [.str, .str, .bool] (fun x => strings_Cut N x.1 x.2)), (32, pureE [.str, .str] [(.list .str)] (fun x => strings_Split N x.1 x.2)), (33, pureE [(.list .str), (.int .i64)] [(.list (.int .i64)), .bool] (fun x => survey_numbers N x.1 x.2)), (7, pureE [.str] [(.int .i64)] (fun x => survey_Sum N x)), (34, pureE [.str] [G_Edit, .bool] (fun x => survey_read N x))]
def survey_Parse_L1 (N : Nat) (n : Nat) (x1 : List UInt8) (x2 x3 : Int) (x4 : List T_Edit) : Option ((List T_Edit) × Int × Int) := loopN (normI 0 survey_Parse_N1) (run (survey_Parse_E N) N 0 survey_Parse_C1) n ⟨[(0, .str x1), (5, .whole 0), (6, .int .i64 x2), (7, .int .i64 x3)], [some (.arr G_Edit x4)]⟩ (blkK 0 (fin [(.t 2), (.t 3), (.t 4)] [(.list G_Edit), (.int .i64), (.int .i64)]))
theorem survey_Parse_L1_succ (N : Nat) (n1 : Nat) (x1 : List UInt8) (x2 x3 : Int) (x4 : List T_Edit) : survey_Parse_L1 N (n1 + 1) x1 x2 x3 x4 =
  bif slB x2 x1.length x1.length then
  Option.bind (strings_Cut N (x1.drop x2.toNat) [10]) fun r6 =>
  bif (!r6.2.2) then
    some ([], x3, 6)
  else
    Option.bind (strings_Split N r6.1 [32]) fun r7 =>
    bif inB 0 r7.length then
    bif ((r7.getD (0 : Int).toNat []) == ([115, 117, 109] : List UInt8)) then
      bif slB 1 r7.length r7.length then
      Option.bind (survey_numbers N (r7.drop (1 : Int).toNat) 1) fun r10 =>
      bif (!r10.2) then
        some ([], x3, 6)
      else
        bif inB 0 r10.1.length then
        bif slB 0 x2 x1.length then
        Option.bind (survey_Sum N (x1.take x2.toNat)) fun r13 =>
        bif ((r10.1.getD (0 : Int).toNat 0) != r13) then
          some ([], x3, 7)
        else
          bif (decide ((W ((W (x2 + (r6.1.length : Int))) + 1)) < (x1.length : Int))) then
            some ([], W (x3 + 1), 6)
          else
            some (x4, 0, 0)
        else none
        else none
      else none
    else
      Option.bind (survey_read N r6.1) fun r15 =>
      bif (!r15.2) then
        some ([], x3, 6)
      else
        bif (decide (x3 > 1000)) then
          some ([], x3, 2)
        else
          bif fitsB (x4.length + 1) 120 then
          survey_Parse_L1 N n1 x1 (W (x2 + (W ((r6.1.length : Int) + 1)))) (W (x3 + 1)) (x4 ++ [r15.1])
          else none
    else none
  else none := by kernel_rfl
def survey_Parse (N : Nat) (a0 : List UInt8) : Option ((List T_Edit) × Int × Int) :=
  bif (decide ((a0.length : Int) > 65536)) then
    some ([], 0, 2)
  else
    survey_Parse_L1 N N a0 0 1 []
theorem survey_Parse_fn : FnOK Tryd.prog 14 87 (fun _ : Nat => false) survey_Parse_C2.er [(.t 2), (.t 3), (.t 4)] := FnOK.mk' Tryd.func14 (by kernel_rfl) (by kernel_rfl) (by kernel_rfl) (by kernel_rfl) (by kernel_rfl)
theorem survey_Parse_envok (N : Nat) : EnvOK Tryd.prog (survey_Parse_E N) := .cons (pureE_ok (strings_Cut_pure N)) (.cons (pureE_ok (strings_Split_pure N)) (.cons (pureE_ok (survey_numbers_pure N)) (.cons (pureE_ok (survey_Sum_pure N)) (.cons (pureE_ok (survey_read_pure N)) (.nil)))))
theorem survey_Parse_pure (N : Nat) : PureOK Tryd.prog 14 [.str] [(.list G_Edit), (.int .i64), (.int .i64)] (fun x => survey_Parse N x) := pureOK (N := N) mixed survey_Parse_fn (survey_Parse_envok N) (TC.noh_ok (by kernel_rfl)) rfl (fun x => by kernel_rfl)
def ref02_Same_N1 : List NS := [.wk 0 (.list G_Edit), .wk 1 (.list G_Edit), .keep [0, 1, 5], .cmp]
def ref02_Same_C4 : TC := (.cond (.t 14) .skip (.exit 0))
def ref02_Same_C12 : TC := .ret
def ref02_Same_C8 : TC := (.cond (.t 25) (.seq (.rg [.s 4 (.mov (.c (B false)))] none) ref02_Same_C12) .skip)
def ref02_Same_C9 : TC := (.rg [.m 15 5, .s 16 (.bin .add (.t 15) (.c (I 1))), .m 5 16] none)
def ref02_Same_C5 : TC := (.seq (.block 1 (.seq (.rg [.m 17 0, .m 18 5, .s 19 (.iadrS 16 (.t 17) (.t 18)), .s 20 (.load true 16 (.t 19)), .m 21 1, .m 22 5, .s 23 (.iadrS 16 (.t 21) (.t 22)), .s 24 (.load true 16 (.t 23)), .s 25 (.eqa true [(0, 1), (1, 1), (2, 0), (3, 1), (4, 1), (5, 1), (6, 1), (7, 0), (8, 0), (9, 1), (10,
  1), (11, 1), (12, 1), (13, 1), (14, 1), (15, 1)] (.t 20) (.t 24))] (some [])) ref02_Same_C8)) ref02_Same_C9)
def ref02_Same_C1 : TC := (.seq (.seq (.rg [.m 11 5, .m 12 0, .s 13 (.len (.t 12)), .s 14 (.bin .lss (.t 11) (.t 13))] none) ref02_Same_C4) ref02_Same_C5)
def ref02_Same_C6 : TC := .ret
def ref02_Same_C2 : TC := (.seq (.rg [.s 4 (.mov (.c (B true)))] none) ref02_Same_C6)
def ref02_Same_C13 : TC := .ret
def ref02_Same_C10 : TC := (.cond (.t 10) (.seq (.rg [.s 4 (.mov (.c (B false)))] none) ref02_Same_C13) .skip)
def ref02_Same_C14 : TC := (.block 0 (.loop ref02_Same_N1 ref02_Same_C1))
def ref02_Same_C11 : TC := (.seq (.seq (.rg [.s 5 (.mov (.c (I 0)))] none) ref02_Same_C14) ref02_Same_C2)
def ref02_Same_C7 : TC := (.seq (.seq (.rg [.m 6 0, .s 7 (.len (.t 6)), .m 8 1, .s 9 (.len (.t 8)), .s 10 (.bin .neq (.t 7) (.t 9))] none) ref02_Same_C10) ref02_Same_C11)
def ref02_Same_C3 : TC := (.seq (.rg [.s 4 (.mov (.c (B false)))] none) ref02_Same_C7)
def ref02_Same_E (N : Nat) : List (Nat × Ent) := []
def ref02_Same_L1 (N : Nat) (n : Nat) (x1 x2 : List T_Edit) (x3 : Int) : Option Bool := loopN (normI 0 ref02_Same_N1) (run (ref02_Same_E N) N 0 ref02_Same_C1) n ⟨[(0, .lst false G_Edit x1), (1, .lst false G_Edit x2), (5, .int .i64 x3)], []⟩ (blkK 0 (seqK (run (ref02_Same_E N) N 0 ref02_Same_C2) (fin [(.t 4)] [.bool])))
def ref02_Same (N : Nat) (a0 : List T_Edit) (a1 : List T_Edit) : Option Bool :=
  bif ((a0.length : Int) != (a1.length : Int)) then
    some false
  else
    ref02_Same_L1 N N a0 a1 0
theorem ref02_Same_fn : FnOK Tryd.prog 15 26 (fun _ : Nat => false) ref02_Same_C3.er [(.t 4)] := FnOK.mk' Tryd.func15 (by kernel_rfl) (by kernel_rfl) (by kernel_rfl) (by kernel_rfl) (by kernel_rfl)
theorem ref02_Same_envok (N : Nat) : EnvOK Tryd.prog (ref02_Same_E N) := .nil
theorem ref02_Same_pure (N : Nat) : PureOK Tryd.prog 15 [(.list G_Edit), (.list G_Edit)] [.bool] (fun x => ref02_Same N x.1 x.2) := pureOK (N := N) mixed ref02_Same_fn (ref02_Same_envok N) (TC.noh_ok (by kernel_rfl)) rfl (fun x => by kernel_rfl)
def law02_awake_C6 : TC := .ret
def law02_awake_C5 : TC := (.seq (.rg [.m 22 3, .s 23 (.bin .eql (.t 22) (.c (I 0))), .m 24 23, ⟨⟨some 25, (.call (.c (.fn 7 [])) [(.c (.v (.string ⟨⟨[]⟩⟩)))]), some (24, true)⟩, {}⟩, ⟨⟨some 26, (.bin .eql (.t 25) (.c (I 1))), some (24, true)⟩, {}⟩, .s 27 (.pick (.t 24) (.t 26) (.c (B false))), .m 28 27, ⟨⟨some 29, (.call (.c
  (.fn 7 [])) [(.c (.v (.string ⟨⟨[97]⟩⟩)))]), some (28, true)⟩, {}⟩, ⟨⟨some 30, (.bin .eql (.t 29) (.c (I 128))), some (28, true)⟩, {}⟩, .s 31 (.pick (.t 28) (.t 30) (.c (B false))), .m 32 31, ⟨⟨some 33, (.mov (.t 2)), some (32, true)⟩, {}⟩, ⟨⟨some 34, (.lens (.t 33)), some (32, true)⟩, {}⟩, ⟨⟨some
  35, (.bin .gtr (.t 34) (.c (I 25))), some (32, true)⟩, {}⟩, .s 36 (.pick (.t 32) (.t 35) (.c (B false))), .m 37 36, ⟨⟨some 38, (.mov (.t 2)), some (37, true)⟩, {}⟩, ⟨⟨some 39, (.sslc (.t 38) none (some (.c (I 15)))), some (37, true)⟩, {}⟩, ⟨⟨some 40, (.bin .eql (.t 39) (.c (.v (.string ⟨⟨[112, 108,
  97, 99, 101, 32, 45, 51, 32, 98, 101, 108, 111, 119, 10]⟩⟩)))), some (37, true)⟩, {}⟩, .s 41 (.pick (.t 37) (.t 40) (.c (B false))), .m 42 41, ⟨⟨some 43, (.mov (.t 6)), some (42, true)⟩, {}⟩, ⟨⟨some 44, (.bin .eql (.t 43) (.c (I 0))), some (42, true)⟩, {}⟩, .s 45 (.pick (.t 42) (.t 44) (.c (B
  false))), .m 46 45, ⟨⟨some 47, (.mov (.t 5)), some (46, true)⟩, {}⟩, ⟨⟨some 48, (.bin .eql (.t 47) (.c (I 0))), some (46, true)⟩, {}⟩, .s 49 (.pick (.t 46) (.t 48) (.c (B false))), .m 50 49, ⟨⟨some 51, (.mov (.t 4)), some (50, true)⟩, {}⟩, ⟨⟨some 52, (.mov (.t 1)), some (50, true)⟩, {}⟩, ⟨⟨some 53,
  (.call (.c (.fn 15 [])) [(.t 51), (.t 52)]), some (50, true)⟩, {}⟩, .s 54 (.pick (.t 50) (.t 53) (.c (B false))), .m 0 54] none) law02_awake_C6)
def law02_awake_C4 : TC := (.seq (.rg [.m 17 2, .s 18 (.call (.c (.fn 14 [])) [(.t 17)]), .m 16 18, .s 19 (.extr 0 (.t 16)), .s 20 (.extr 1 (.t 16)), .s 21 (.extr 2 (.t 16)), .m 4 19, .m 5 20, .m 6 21] none) law02_awake_C5)
def law02_awake_C3 : TC := (.seq (.rg [.m 12 1, .s 13 (.call (.c (.fn 12 [])) [(.t 12)]), .m 11 13, .s 14 (.extr 0 (.t 11)), .s 15 (.extr 1 (.t 11)), .m 2 14, .m 3 15] none) law02_awake_C4)
def law02_awake_C2 : TC := (.seq (.rg [.s 7 (.build [(I 0), (B false)] [(0, (1, (.c (I (-3)))))]), .s 8 (.build [(I 0), (I 0), (B false), (I 0), (I 0), (I 0), (I 0), (B false), (B false), (I 0), (I 0), (I 0), (I 0), (I 0), (I 0), (I 0)] [(0, (1, (.c (I 1)))), (1, (2, (.t 7)))]), .s 9 (.build [(I 0), (I 0), (B false), (I 0), (I
  0), (I 0), (I 0), (B false), (B false), (I 0), (I 0), (I 0), (I 0), (I 0), (I 0), (I 0)] [(0, (1, (.c (I 3)))), (13, (1, (.c (I 7))))]), ⟨⟨some 10, (.bslice false 16 [(I 0), (I 0), (B false), (I 0), (I 0), (I 0), (I 0), (B false), (B false), (I 0), (I 0), (I 0), (I 0), (I 0), (I 0), (I 0)] 2 [(0,
  (.t 8)), (1, (.t 9))]), none⟩, ⟨G_Edit, none, []⟩⟩, .m 1 10] none) law02_awake_C3)
def law02_awake_C1 : TC := (.seq (.rg [.s 0 (.mov (.c (B false)))] none) law02_awake_C2)
def law02_awake_E (N : Nat) : List (Nat × Ent) := [(12, pureE [.list G_Edit] [.str, .int .i64] (fun x => survey_Print N x)), (14, pureE [.str] [(.list G_Edit), (.int .i64), (.int .i64)] (fun x => survey_Parse N x)), (7, pureE [.str] [(.int .i64)] (fun x => survey_Sum N x)), (15, pureE [(.list G_Edit), (.list G_Edit)] [.bool] (fun x => ref02_Same N x.1 x.2))]
def law02_awake (N : Nat) : Option Bool :=
  Option.bind (survey_Print N [(1, (((-3), false), ((0, (0, (0, (0, (false, (false, ((0, 0), (0, 0)))))))), (0, (0, 0))))), (3, ((0, false), ((0, (0, (0, (0, (false, (false, ((0, 0), (0, 0)))))))), (7, (0, 0)))))]) fun r1 =>
  Option.bind (survey_Parse N r1.1) fun r2 =>
  bif (r1.2 == 0) then
    Option.bind (survey_Sum N []) fun r3 =>
    bif (r3 == 1) then
      Option.bind (survey_Sum N [97]) fun r4 =>
      bif (r4 == 128) then
        bif (decide ((r1.1.length : Int) > 25)) then
          bif slB 0 15 r1.1.length then
          bif ((r1.1.take (15 : Int).toNat) == ([112, 108, 97, 99, 101, 32, 45, 51, 32, 98, 101, 108, 111, 119, 10] : List UInt8)) then
            bif (r2.2.2 == 0) then
              bif (r2.2.1 == 0) then
                Option.bind (ref02_Same N r2.1 [(1, (((-3), false), ((0, (0, (0, (0, (false, (false, ((0, 0), (0, 0)))))))), (0, (0, 0))))), (3, ((0, false), ((0, (0, (0, (0, (false, (false, ((0, 0), (0, 0)))))))), (7, (0, 0)))))]) fun r6 =>
                some r6
              else
                some false
            else
              some false
          else
            some false
          else none
        else
          some false
      else
        some false
    else
      some false
  else
    some false
theorem law02_awake_fn : FnOK Tryd.prog 9 55 (fun _ : Nat => false) law02_awake_C1.er [(.t 0)] := FnOK.mk' Tryd.func9 (by kernel_rfl) (by kernel_rfl) (by kernel_rfl) (by kernel_rfl) (by kernel_rfl)
theorem law02_awake_envok (N : Nat) : EnvOK Tryd.prog (law02_awake_E N) := .cons (pureE_ok (survey_Print_pure N)) (.cons (pureE_ok (survey_Parse_pure N)) (.cons (pureE_ok (survey_Sum_pure N)) (.cons (pureE_ok (ref02_Same_pure N)) (.nil))))
theorem law02_awake_pure (N : Nat) : PureOK Tryd.prog 9 [] [.bool] (fun x => law02_awake N) := pureOK (N := N) mixed law02_awake_fn (law02_awake_envok N) (TC.noh_ok (by kernel_rfl)) rfl (fun x => by kernel_rfl)
def draw_New_NE : List NS := [.keep [2], .out []]
def draw_New_C4 : TC := .ret
def draw_New_C3 : TC := (.pre [.keep [2], .out []] draw_New_C4)
def draw_New_C2 : TC := (.seq (.rg [.m 3 0, .m 4 0, .s 5 (.len (.t 4)), .s 6 (.mm false [(.t 5), (.c (I 300))]), .s 7 (.slc 1 (.t 3) none (some (.t 6))), .s 8 (.build [(.lst true []), (I 0)] [(0, (1, (.t 7)))]), .s 9 (.box (.t 8)), .m 2 9] none) draw_New_C3)
def draw_New_C1 : TC := (.seq (.rg [.s 2 (.mov (.c (.v (.pointer none))))] none) draw_New_C2)
def draw_New_E (N : Nat) : List (Nat × Ent) := []
def draw_New (N : Nat) (a0 : List Int) : Option (T_Codes × Unit) :=
  let v1 := min (a0.length : Int) 300
  bif slB 0 v1 a0.length then
  some (((a0.take v1.toNat), 0), ())
  else none
theorem draw_New_fn : FnOK Tryd.prog 10 10 (fun _ : Nat => false) draw_New_C1.er [(.t 2)] := FnOK.mk' Tryd.func10 (by kernel_rfl) (by kernel_rfl) (by kernel_rfl) (by kernel_rfl) (by kernel_rfl)
theorem draw_New_envok (N : Nat) : EnvOK Tryd.prog (draw_New_E N) := .nil
theorem draw_New_sf (N : Nat) : SFOK Tryd.prog 10 [none] [.v (.list (.int .u8))] [.n G_Codes] (fun x => draw_New N x) := sfOK (N := N) (p := 0) (q := 0) (ns := draw_New_NE) mixed draw_New_fn (draw_New_envok N) (TC.noh_ok (by kernel_rfl)) rfl rfl rfl (fun x => by kernel_rfl)
def draw_Codes_Next_NE : List NS := [.frzo 0, .keep [4], .out [0]]
def draw_Codes_Next_C11 : TC := (.rg [.m 67 0, .s 68 (.nilck (.t 67)), .s 69 (.fadr 1 (.t 68)), .s 70 (.load false 1 (.t 69)), .s 71 (.bin .add (.t 70) (.c (I 1))), .s 72 (.nilck (.t 67)), .s 73 (.fadr 1 (.t 72)), .d (.store 1 (.t 73) (.t 71))] none)
def draw_Codes_Next_C8 : TC := (.cond (.t 52) (.seq (.rg [.m 53 5, .s 54 (.bin .mul (.t 53) (.c (I 256))), .m 55 0, .s 56 (.nilck (.t 55)), .s 57 (.fadr 0 (.t 56)), .s 58 (.load false 1 (.t 57)), .m 59 0, .s 60 (.nilck (.t 59)), .s 61 (.fadr 1 (.t 60)), .s 62 (.load false 1 (.t 61)), .s 63 (.iadrS 1 (.t 58) (.t 62)), .s 64 (.load
  false 1 (.t 63)), .s 65 (.conv .i64 (.t 64)), .s 66 (.bin .add (.t 54) (.t 65)), .m 5 66] (some [])) draw_Codes_Next_C11) .skip)
def draw_Codes_Next_C14 : TC := .ret
def draw_Codes_Next_C12 : TC := (.pre [.frzo 0, .keep [4], .out [0]] draw_Codes_Next_C14)
def draw_Codes_Next_C9 : TC := (.seq (.rg [.m 74 5, .m 75 1, .s 76 (.bin .rem (.t 74) (.t 75)), .m 4 76] none) draw_Codes_Next_C12)
def draw_Codes_Next_C5 : TC := (.seq (.seq (.rg [.m 39 1, .s 40 (.bin .gtr (.t 39) (.c (I 256))), .m 41 40, ⟨⟨some 42, (.mov (.t 0)), some (41, true)⟩, {}⟩, ⟨⟨some 43, (.nilck (.t 42)), some (41, true)⟩, {}⟩, ⟨⟨some 44, (.fadr 1 (.t 43)), some (41, true)⟩, {}⟩, ⟨⟨some 45, (.load false 1 (.t 44)), some (41, true)⟩, {}⟩, ⟨⟨some 46,
  (.mov (.t 0)), some (41, true)⟩, {}⟩, ⟨⟨some 47, (.nilck (.t 46)), some (41, true)⟩, {}⟩, ⟨⟨some 48, (.fadr 0 (.t 47)), some (41, true)⟩, {}⟩, ⟨⟨some 49, (.load false 1 (.t 48)), some (41, true)⟩, {}⟩, ⟨⟨some 50, (.len (.t 49)), some (41, true)⟩, {}⟩, ⟨⟨some 51, (.bin .lss (.t 45) (.t 50)), some
  (41, true)⟩, {}⟩, .s 52 (.pick (.t 41) (.t 51) (.c (B false)))] (some [])) draw_Codes_Next_C8) draw_Codes_Next_C9)
def draw_Codes_Next_C3 : TC := (.seq (.rg [.m 27 0, .s 28 (.nilck (.t 27)), .s 29 (.fadr 0 (.t 28)), .s 30 (.load false 1 (.t 29)), .m 31 0, .s 32 (.nilck (.t 31)), .s 33 (.fadr 1 (.t 32)), .s 34 (.load false 1 (.t 33)), .s 35 (.bin .sub (.t 34) (.c (I 1))), .s 36 (.iadrS 1 (.t 30) (.t 35)), .s 37 (.load false 1 (.t 36)), .s 38
  (.conv .i64 (.t 37)), .m 5 38] (some [])) draw_Codes_Next_C5)
def draw_Codes_Next_C1 : TC := (.seq (.rg [.m 20 0, .s 21 (.nilck (.t 20)), .s 22 (.fadr 1 (.t 21)), .s 23 (.load false 1 (.t 22)), .s 24 (.bin .add (.t 23) (.c (I 1))), .s 25 (.nilck (.t 20)), .s 26 (.fadr 1 (.t 25)), .d (.store 1 (.t 26) (.t 24))] none) draw_Codes_Next_C3)
def draw_Codes_Next_C13 : TC := .ret
def draw_Codes_Next_C10 : TC := (.pre [.frzo 0, .keep [4], .out [0]] draw_Codes_Next_C13)
def draw_Codes_Next_C6 : TC := (.cond (.t 19) (.seq (.rg [.s 4 (.mov (.c (I 0)))] none) draw_Codes_Next_C10) .skip)
def draw_Codes_Next_C7 : TC := (.join [.keep [0, 1], .cmp] draw_Codes_Next_C1)
def draw_Codes_Next_C4 : TC := (.seq (.seq (.rg [.m 6 1, .s 7 (.bin .lss (.t 6) (.c (I 1))), .m 8 7, ⟨⟨some 9, (.mov (.t 0)), some (8, false)⟩, {}⟩, ⟨⟨some 10, (.nilck (.t 9)), some (8, false)⟩, {}⟩, ⟨⟨some 11, (.fadr 1 (.t 10)), some (8, false)⟩, {}⟩, ⟨⟨some 12, (.load false 1 (.t 11)), some (8, false)⟩, {}⟩, ⟨⟨some 13, (.mov (.t
  0)), some (8, false)⟩, {}⟩, ⟨⟨some 14, (.nilck (.t 13)), some (8, false)⟩, {}⟩, ⟨⟨some 15, (.fadr 0 (.t 14)), some (8, false)⟩, {}⟩, ⟨⟨some 16, (.load false 1 (.t 15)), some (8, false)⟩, {}⟩, ⟨⟨some 17, (.len (.t 16)), some (8, false)⟩, {}⟩, ⟨⟨some 18, (.bin .geq (.t 12) (.t 17)), some (8, false)⟩,
  {}⟩, .s 19 (.pick (.t 8) (.c (B true)) (.t 18))] (some [])) draw_Codes_Next_C6) draw_Codes_Next_C7)
def draw_Codes_Next_C2 : TC := (.seq (.rg [.s 4 (.mov (.c (I 0)))] none) draw_Codes_Next_C4)
def draw_Codes_Next_E (N : Nat) : List (Nat × Ent) := []
def draw_Codes_Next_J1 (N : Nat) (JM : Nat) (x1 : Int) (x2 : List Int) (x3 : Int) : Option (Int × T_Codes) := joinN (run (draw_Codes_Next_E N) N 1 draw_Codes_Next_C1) JM ⟨[(0, .ptr 0 0 0), (1, .int .i64 x1)], [some (.box 0 [.lst false (.int .u8) x2, .int .i64 x3])]⟩ (finS draw_Codes_Next_NE [(.t 4)] [.b (.v G_Codes), .v (.int .i64)] [.v (.int .i64)] 1 1)
theorem draw_Codes_Next_J1_eq (N : Nat) (JM : Nat) (x1 : Int) (x2 : List Int) (x3 : Int) : draw_Codes_Next_J1 N (JM + 1) x1 x2 x3 =
  bif inB (W ((W (x3 + 1)) - 1)) x2.length then
  let v4 := x2.getD (W ((W (x3 + 1)) - 1)).toNat 0
  bif (decide (x1 > 256)) then
    bif (decide ((W (x3 + 1)) < (x2.length : Int))) then
      bif inB (W (x3 + 1)) x2.length then
      bif x1 == 0 then none else
      some ((W ((W ((W v4) * 256)) + (W (x2.getD (W (x3 + 1)).toNat 0)))).tmod x1, (x2, W ((W (x3 + 1)) + 1)))
      else none
    else
      bif x1 == 0 then none else
      some ((W v4).tmod x1, (x2, W (x3 + 1)))
  else
    bif x1 == 0 then none else
    some ((W v4).tmod x1, (x2, W (x3 + 1)))
  else none := by kernel_rfl
def draw_Codes_Next (N : Nat) (a0 : T_Codes) (a1 : Int) : Option (Int × T_Codes) :=
  bif (decide (a1 < 1)) then
    some (0, a0)
  else
    bif (decide (a0.2 ≥ (a0.1.length : Int))) then
      some (0, a0)
    else
      draw_Codes_Next_J1 N N a1 a0.1 a0.2
theorem draw_Codes_Next_fn : FnOK Tryd.prog 21 77 (fun _ : Nat => false) draw_Codes_Next_C2.er [(.t 4)] := FnOK.mk' Tryd.func21 (by kernel_rfl) (by kernel_rfl) (by kernel_rfl) (by kernel_rfl) (by kernel_rfl)
theorem draw_Codes_Next_envok (N : Nat) : EnvOK Tryd.prog (draw_Codes_Next_E N) := .nil
theorem draw_Codes_Next_sf (N : Nat) : SFOK Tryd.prog 21 [none, none] [.b (.v G_Codes), .v (.int .i64)] [.v (.int .i64)] (fun x => draw_Codes_Next N x.1 x.2) := sfOK (N := N) (p := 1) (q := 1) (ns := draw_Codes_Next_NE) mixed draw_Codes_Next_fn (draw_Codes_Next_envok N) (TC.noh_ok (by kernel_rfl)) rfl rfl rfl (fun x => by kernel_rfl)
def draw_Codes_Range_NE : List NS := [.frzo 0, .keep [6], .out [0]]
def draw_Codes_Range_C4 : TC := .ret
def draw_Codes_Range_C3 : TC := (.pre [.frzo 0, .keep [6], .out [0]] draw_Codes_Range_C4)
def draw_Codes_Range_C2 : TC := (.seq (.rg [.m 7 1, .m 8 0, .m 9 2, .m 10 1, .s 11 (.bin .sub (.t 9) (.t 10)), .s 12 (.bin .add (.t 11) (.c (I 1))), .s 13 (.call (.c (.fn 21 [])) [(.t 8), (.t 12)]), .s 14 (.bin .add (.t 7) (.t 13)), .m 6 14] none) draw_Codes_Range_C3)
def draw_Codes_Range_C1 : TC := (.seq (.rg [.s 6 (.mov (.c (I 0)))] none) draw_Codes_Range_C2)
def draw_Codes_Range_E (N : Nat) : List (Nat × Ent) := [(21, sfE [none, none] [.b (.v G_Codes), .v (.int .i64)] [.v (.int .i64)] (fun x => draw_Codes_Next N x.1 x.2))]
def draw_Codes_Range (N : Nat) (a0 : T_Codes) (a1 : Int) (a2 : Int) : Option (Int × T_Codes) :=
  Option.bind (draw_Codes_Next N a0 (W ((W (a2 - a1)) + 1))) fun r1 =>
  some (W (a1 + r1.1), r1.2)
theorem draw_Codes_Range_fn : FnOK Tryd.prog 35 15 (fun _ : Nat => false) draw_Codes_Range_C1.er [(.t 6)] := FnOK.mk' Tryd.func35 (by kernel_rfl) (by kernel_rfl) (by kernel_rfl) (by kernel_rfl) (by kernel_rfl)
theorem draw_Codes_Range_envok (N : Nat) : EnvOK Tryd.prog (draw_Codes_Range_E N) := .cons (sfE_ok (draw_Codes_Next_sf N)) (.nil)
theorem draw_Codes_Range_sf (N : Nat) : SFOK Tryd.prog 35 [none, none, none] [.b (.v G_Codes), .v (.int .i64), .v (.int .i64)] [.v (.int .i64)] (fun x => draw_Codes_Range N x.1 x.2.1 x.2.2) := sfOK (N := N) (p := 1) (q := 1) (ns := draw_Codes_Range_NE) mixed draw_Codes_Range_fn (draw_Codes_Range_envok N) (TC.noh_ok (by kernel_rfl)) rfl rfl rfl (fun x => by kernel_rfl)
def draw_Codes_One_NE : List NS := [.frzo 0, .keep [4], .out [0]]
def draw_Codes_One_C4 : TC := .ret
def draw_Codes_One_C3 : TC := (.pre [.frzo 0, .keep [4], .out [0]] draw_Codes_One_C4)
def draw_Codes_One_C2 : TC := (.seq (.rg [.m 5 0, .m 6 1, .s 7 (.call (.c (.fn 21 [])) [(.t 5), (.t 6)]), .m 8 1, .s 9 (.bin .sub (.t 8) (.c (I 1))), .s 10 (.bin .eql (.t 7) (.t 9)), .m 4 10] none) draw_Codes_One_C3)
def draw_Codes_One_C1 : TC := (.seq (.rg [.s 4 (.mov (.c (B false)))] none) draw_Codes_One_C2)
def draw_Codes_One_E (N : Nat) : List (Nat × Ent) := [(21, sfE [none, none] [.b (.v G_Codes), .v (.int .i64)] [.v (.int .i64)] (fun x => draw_Codes_Next N x.1 x.2))]
def draw_Codes_One (N : Nat) (a0 : T_Codes) (a1 : Int) : Option (Bool × T_Codes) :=
  Option.bind (draw_Codes_Next N a0 a1) fun r1 =>
  some ((r1.1 == (W (a1 - 1))), r1.2)
theorem draw_Codes_One_fn : FnOK Tryd.prog 36 11 (fun _ : Nat => false) draw_Codes_One_C1.er [(.t 4)] := FnOK.mk' Tryd.func36 (by kernel_rfl) (by kernel_rfl) (by kernel_rfl) (by kernel_rfl) (by kernel_rfl)
theorem draw_Codes_One_envok (N : Nat) : EnvOK Tryd.prog (draw_Codes_One_E N) := .cons (sfE_ok (draw_Codes_Next_sf N)) (.nil)
theorem draw_Codes_One_sf (N : Nat) : SFOK Tryd.prog 36 [none, none] [.b (.v G_Codes), .v (.int .i64)] [.v .bool] (fun x => draw_Codes_One N x.1 x.2) := sfOK (N := N) (p := 1) (q := 1) (ns := draw_Codes_One_NE) mixed draw_Codes_One_fn (draw_Codes_One_envok N) (TC.noh_ok (by kernel_rfl)) rfl rfl rfl (fun x => by kernel_rfl)
def draw_Codes_Road_NE : List NS := [.frzo 0, .keep [6], .out [0]]
def draw_Codes_Road_C8 : TC := .ret
def draw_Codes_Road_C7 : TC := (.pre [.frzo 0, .keep [6], .out [0]] draw_Codes_Road_C8)
def draw_Codes_Road_C6 : TC := (.seq (.rg [.s 41 (.load true 10 (.t 7)), .d (.store 10 (.t 6) (.t 41))] none) draw_Codes_Road_C7)
def draw_Codes_Road_C5 : TC := (.seq (.rg [.s 33 (.fadr 8 (.t 7)), .s 34 (.fadr 0 (.t 33)), .s 35 (.load false 1 (.t 34)), .m 36 0, .s 37 (.call (.c (.fn 21 [])) [(.t 36), (.c (I 20))]), .s 38 (.bin .add (.t 35) (.t 37)), .s 39 (.fadr 8 (.t 7)), .s 40 (.fadr 1 (.t 39)), .d (.store 1 (.t 40) (.t 38))] (some [(0, 4), (1, 4), (2,
  4)])) draw_Codes_Road_C6)
def draw_Codes_Road_C4 : TC := (.seq (.rg [.m 29 0, .s 30 (.call (.c (.fn 35 [])) [(.t 29), (.c (I (-300))), (.c (I 300))]), .s 31 (.fadr 8 (.t 7)), .s 32 (.fadr 0 (.t 31)), .d (.store 1 (.t 32) (.t 30))] none) draw_Codes_Road_C5)
def draw_Codes_Road_C3 : TC := (.seq (.rg [.s 21 (.fadr 6 (.t 7)), .s 22 (.fadr 0 (.t 21)), .s 23 (.load false 1 (.t 22)), .m 24 0, .s 25 (.call (.c (.fn 21 [])) [(.t 24), (.c (I 3))]), .s 26 (.bin .add (.t 23) (.t 25)), .s 27 (.fadr 6 (.t 7)), .s 28 (.fadr 1 (.t 27)), .d (.store 1 (.t 28) (.t 26))] (some [(0, 4), (1, 4), (2,
  4)])) draw_Codes_Road_C4)
def draw_Codes_Road_C2 : TC := (.seq (.rg [.m 8 1, .m 9 2, .m 10 0, .s 11 (.call (.c (.fn 35 [])) [(.t 10), (.c (I 1)), (.c (I 400))]), .m 12 0, .s 13 (.call (.c (.fn 35 [])) [(.t 12), (.c (I 4)), (.c (I 30))]), .m 14 0, .s 15 (.call (.c (.fn 21 [])) [(.t 14), (.c (I 4))]), .s 16 (.bin .gtr (.t 15) (.c (I 0))), .m 17 0, .s 18
  (.call (.c (.fn 35 [])) [(.t 17), (.c (I 1)), (.c (I 20))]), .s 19 (.build [(I 0), (I 0)] [(0, (1, (.t 18)))]), .s 20 (.build [(I 0), (I 0), (I 0), (I 0), (B false), (B false), (I 0), (I 0), (I 0), (I 0)] [(0, (1, (.t 8))), (1, (1, (.t 9))), (2, (1, (.t 11))), (3, (1, (.t 13))), (4, (1, (.t 16))),
  (6, (2, (.t 19)))]), .s 7 (.alloc [(I 0), (I 0), (I 0), (I 0), (B false), (B false), (I 0), (I 0), (I 0), (I 0)]), .d (.store 10 (.t 7) (.t 20))] none) draw_Codes_Road_C3)
def draw_Codes_Road_C1 : TC := (.seq (.rg [.s 6 (.alloc [(I 0), (I 0), (I 0), (I 0), (B false), (B false), (I 0), (I 0), (I 0), (I 0)])] none) draw_Codes_Road_C2)
def draw_Codes_Road_E (N : Nat) : List (Nat × Ent) := [(35, sfE [none, none, none] [.b (.v G_Codes), .v (.int .i64), .v (.int .i64)] [.v (.int .i64)] (fun x => draw_Codes_Range N x.1 x.2.1 x.2.2)), (21, sfE [none, none] [.b (.v G_Codes), .v (.int .i64)] [.v (.int .i64)] (fun x => draw_Codes_Next N x.1 x.2))]
def draw_Codes_Road (N : Nat) (a0 : T_Codes) (a1 : Int) (a2 : Int) : Option (T_Road × T_Codes) :=
  Option.bind (draw_Codes_Range N a0 1 400) fun r1 =>
  Option.bind (draw_Codes_Range N r1.2 4 30) fun r2 =>
  Option.bind (draw_Codes_Next N r2.2 4) fun r3 =>
  Option.bind (draw_Codes_Range N r3.2 1 20) fun r4 =>
  Option.bind (draw_Codes_Next N r4.2 3) fun r5 =>
  Option.bind (draw_Codes_Range N r5.2 (-300) 300) fun r6 =>
  Option.bind (draw_Codes_Next N r6.2 20) fun r7 =>
  some ((a1, (a2, (r1.1, (r2.1, ((decide (r3.1 > 0)), (false, ((r4.1, W (r4.1 + r5.1)), (r6.1, W (r6.1 + r7.1))))))))), r7.2)
theorem draw_Codes_Road_fn : FnOK Tryd.prog 37 42 (fun _ : Nat => false) draw_Codes_Road_C1.er [(.cell 6 true 10)] := FnOK.mk' Tryd.func37 (by kernel_rfl) (by kernel_rfl) (by kernel_rfl) (by kernel_rfl) (by kernel_rfl)
theorem draw_Codes_Road_envok (N : Nat) : EnvOK Tryd.prog (draw_Codes_Road_E N) := .cons (sfE_ok (draw_Codes_Range_sf N)) (.cons (sfE_ok (draw_Codes_Next_sf N)) (.nil))
theorem draw_Codes_Road_sf (N : Nat) : SFOK Tryd.prog 37 [none, none, none] [.b (.v G_Codes), .v (.int .i64), .v (.int .i64)] [.v G_Road] (fun x => draw_Codes_Road N x.1 x.2.1 x.2.2) := sfOK (N := N) (p := 1) (q := 1) (ns := draw_Codes_Road_NE) mixed draw_Codes_Road_fn (draw_Codes_Road_envok N) (TC.noh_ok (by kernel_rfl)) rfl rfl rfl (fun x => by kernel_rfl)
def draw_Codes_Mine_NE : List NS := [.frzb 2, .frzo 0, .keep [2], .out [0]]
def draw_Codes_Mine_N1 : List NS := [.ownc 3 0 G_Place, .keep [0, 2, 3, 4], .cmp]
def draw_Codes_Mine_N2 : List NS := [.ownc 3 1 G_Road, .keep [0, 2, 3, 5, 6], .cmp]
def draw_Codes_Mine_C6 : TC := (.cond (.t 35) .skip (.exit 2))
def draw_Codes_Mine_C22 : TC := (.rg [.s 56 (.fadr 1 (.t 3)), .s 57 (.load false 1 (.t 56)), .s 58 (.load true 10 (.t 8)), ⟨⟨some 59, (.bslice false 10 [(I 0), (I 0), (I 0), (I 0), (B false), (B false), (I 0), (I 0), (I 0), (I 0)] 1 [(0, (.t 58))]), none⟩, ⟨G_Road, none, []⟩⟩, .s 60 (.app 10 72 (.t 57) (.t 59)), .s 61 (.fadr 1 (.t
  3)), .d (.store 1 (.t 61) (.t 60))] none)
def draw_Codes_Mine_C19 : TC := (.seq (.rg [.m 53 0, .s 54 (.call (.c (.fn 36 [])) [(.t 53), (.c (I 6))]), .s 55 (.fadr 5 (.t 8)), .d (.store 1 (.t 55) (.t 54))] none) draw_Codes_Mine_C22)
def draw_Codes_Mine_C13 : TC := (.seq (.rg [.m 41 0, .m 42 7, .m 43 7, .s 44 (.bin .add (.t 43) (.c (I 1))), .m 45 0, .m 46 5, .s 47 (.bin .sub (.t 46) (.c (I 1))), .s 48 (.call (.c (.fn 21 [])) [(.t 45), (.t 47)]), .s 49 (.bin .add (.t 44) (.t 48)), .m 50 5, .s 51 (.bin .rem (.t 49) (.t 50)), .s 52 (.call (.c (.fn 37 [])) [(.t
  41), (.t 42), (.t 51)]), .s 8 (.alloc [(I 0), (I 0), (I 0), (I 0), (B false), (B false), (I 0), (I 0), (I 0), (I 0)]), .d (.store 10 (.t 8) (.t 52))] none) draw_Codes_Mine_C19)
def draw_Codes_Mine_C14 : TC := (.rg [.m 36 6, .s 37 (.bin .sub (.t 36) (.c (I 1))), .m 6 37] none)
def draw_Codes_Mine_C7 : TC := (.seq (.block 3 (.seq (.rg [.m 38 0, .m 39 5, .s 40 (.call (.c (.fn 21 [])) [(.t 38), (.t 39)]), .m 7 40] none) draw_Codes_Mine_C13)) draw_Codes_Mine_C14)
def draw_Codes_Mine_C1 : TC := (.seq (.seq (.rg [.m 34 6, .s 35 (.bin .gtr (.t 34) (.c (I 0)))] none) draw_Codes_Mine_C6) draw_Codes_Mine_C7)
def draw_Codes_Mine_C20 : TC := .ret
def draw_Codes_Mine_C15 : TC := (.pre [.frzb 2, .frzo 0, .keep [2], .out [0]] draw_Codes_Mine_C20)
def draw_Codes_Mine_C8 : TC := (.seq (.rg [.s 62 (.load true 2 (.t 3)), .d (.store 2 (.t 2) (.t 62))] none) draw_Codes_Mine_C15)
def draw_Codes_Mine_C2 : TC := (.pre [.frzb 3] draw_Codes_Mine_C8)
def draw_Codes_Mine_C9 : TC := (.cond (.t 16) .skip (.exit 0))
def draw_Codes_Mine_C16 : TC := (.rg [.m 17 4, .s 18 (.bin .sub (.t 17) (.c (I 1))), .m 4 18] none)
def draw_Codes_Mine_C10 : TC := (.seq (.block 1 (.rg [.s 19 (.fadr 0 (.t 3)), .s 20 (.load false 1 (.t 19)), .m 21 0, .s 22 (.call (.c (.fn 35 [])) [(.t 21), (.c (I (-60))), (.c (I 60))]), .m 23 0, .s 24 (.call (.c (.fn 36 [])) [(.t 23), (.c (I 5))]), .s 25 (.build [(I 0), (B false)] [(0, (1, (.t 22))), (1, (1, (.t 24)))]), ⟨⟨some
  26, (.bslice false 2 [(I 0), (B false)] 1 [(0, (.t 25))]), none⟩, ⟨G_Place, none, []⟩⟩, .s 27 (.app 2 16 (.t 20) (.t 26)), .s 28 (.fadr 0 (.t 3)), .d (.store 1 (.t 28) (.t 27))] (some [(0, 3), (1, 3), (0, 5), (1, 5)]))) draw_Codes_Mine_C16)
def draw_Codes_Mine_C3 : TC := (.seq (.seq (.rg [.m 15 4, .s 16 (.bin .gtr (.t 15) (.c (I 0)))] none) draw_Codes_Mine_C9) draw_Codes_Mine_C10)
def draw_Codes_Mine_C17 : TC := (.block 2 (.loop draw_Codes_Mine_N2 draw_Codes_Mine_C1))
def draw_Codes_Mine_C11 : TC := (.seq (.seq (.rg [.m 32 0, .s 33 (.call (.c (.fn 21 [])) [(.t 32), (.c (I 9))]), .m 6 33] none) draw_Codes_Mine_C17) draw_Codes_Mine_C2)
def draw_Codes_Mine_C4 : TC := (.seq (.rg [.s 29 (.fadr 0 (.t 3)), .s 30 (.load false 1 (.t 29)), .s 31 (.len (.t 30)), .m 5 31] none) draw_Codes_Mine_C11)
def draw_Codes_Mine_C21 : TC := (.block 0 (.loop draw_Codes_Mine_N1 draw_Codes_Mine_C3))
def draw_Codes_Mine_C18 : TC := (.seq (.seq (.rg [.m 12 0, .s 13 (.call (.c (.fn 21 [])) [(.t 12), (.c (I 6))]), .s 14 (.bin .add (.c (I 1)) (.t 13)), .m 4 14] none) draw_Codes_Mine_C21) draw_Codes_Mine_C4)
def draw_Codes_Mine_C12 : TC := (.seq (.rg [.s 9 (.build [(I 0), (B false)] [(1, (1, (.c (B true))))]), ⟨⟨some 10, (.bslice true 2 [(I 0), (B false)] 1 [(0, (.t 9))]), none⟩, ⟨G_Place, none, []⟩⟩, .s 11 (.build [(.lst true []), (.lst true [])] [(0, (1, (.t 10)))]), .s 3 (.alloc [(.lst true []), (.lst true [])]), .d (.store 2 (.t 3)
  (.t 11))] none) draw_Codes_Mine_C18)
def draw_Codes_Mine_C5 : TC := (.seq (.rg [.s 2 (.alloc [(.lst true []), (.lst true [])])] none) draw_Codes_Mine_C12)
def draw_Codes_Mine_E (N : Nat) : List (Nat × Ent) := [(21, sfE [none, none] [.b (.v G_Codes), .v (.int .i64)] [.v (.int .i64)] (fun x => draw_Codes_Next N x.1 x.2)), (35, sfE [none, none, none] [.b (.v G_Codes), .v (.int .i64), .v (.int .i64)] [.v (.int .i64)] (fun x => draw_Codes_Range N x.1 x.2.1 x.2.2)), (36, sfE [none, none] [.b (.v G_Codes), .v (.int .i64)] [.v .bool] (fun x => draw_Codes_One N x.1 x.2)), (37, sfE [none, none, none] [.b (.v G_Codes), .v (.int .i64), .v (.int .i64)] [.v G_Road] (fun x => draw_Codes_Road N x.1 x.2.1 x.2.2))]
def draw_Codes_Mine_L2 (N : Nat) (n : Nat) (x14 x15 : Int) (x16 : List Int) (x17 : Int) (x18 : List T_Place) (x19 : List T_Road) : Option (T_Mine × T_Codes) := loopN (normI 1 draw_Codes_Mine_N2) (run (draw_Codes_Mine_E N) N 1 draw_Codes_Mine_C1) n ⟨[(0, .ptr 0 0 0), (2, .ptr 1 0 0), (3, .ptr 2 0 0), (5, .int .i64 x14), (6, .int .i64 x15)], [some (.box 0 [.lst false (.int .u8) x16, .int .i64 x17]), some (.box 0 [.nil, .nil]), some (.box 0 [.whole 3, .whole 4]), some (.arr G_Place x18), some (.arr G_Road x19)]⟩ (blkK 2 (seqK (run (draw_Codes_Mine_E N) N 1 draw_Codes_Mine_C2) (finS draw_Codes_Mine_NE [(.cell 2 true 2)] [.b (.v G_Codes)] [.v G_Mine] 1 1)))
def draw_Codes_Mine_L1 (N : Nat) (n : Nat) (x2 : Int) (x3 : List Int) (x4 : Int) (x5 : List T_Place) : Option (T_Mine × T_Codes) := loopN (normI 1 draw_Codes_Mine_N1) (run (draw_Codes_Mine_E N) N 1 draw_Codes_Mine_C3) n ⟨[(0, .ptr 0 0 0), (2, .ptr 1 0 0), (3, .ptr 2 0 0), (4, .int .i64 x2)], [some (.box 0 [.lst false (.int .u8) x3, .int .i64 x4]), some (.box 0 [.nil, .nil]), some (.box 0 [.whole 3, .nil]), some (.arr G_Place x5)]⟩ (blkK 0 (seqK (run (draw_Codes_Mine_E N) N 1 draw_Codes_Mine_C4) (finS draw_Codes_Mine_NE [(.cell 2 true 2)] [.b (.v G_Codes)] [.v G_Mine] 1 1)))
theorem draw_Codes_Mine_L2_succ (N : Nat) (n2 : Nat) (x14 x15 : Int) (x16 : List Int) (x17 : Int) (x18 : List T_Place) (x19 : List T_Road) : draw_Codes_Mine_L2 N (n2 + 1) x14 x15 x16 x17 x18 x19 =
  bif (decide (x15 > 0)) then
    Option.bind (draw_Codes_Next N (x16, x17) x14) fun r20 =>
    Option.bind (draw_Codes_Next N r20.2 (W (x14 - 1))) fun r21 =>
    bif x14 == 0 then none else
    Option.bind (draw_Codes_Road N r21.2 r20.1 ((W ((W (r20.1 + 1)) + r21.1)).tmod x14)) fun r23 =>
    Option.bind (draw_Codes_One N r23.2 6) fun r24 =>
    bif fitsB (x19.length + 1) 72 then
    draw_Codes_Mine_L2 N n2 x14 (W (x15 - 1)) r24.2.1 r24.2.2 x18 (x19 ++ [(r23.1.1, (r23.1.2.1, (r23.1.2.2.1, (r23.1.2.2.2.1, (r23.1.2.2.2.2.1, (r24.1, r23.1.2.2.2.2.2.2))))))])
    else none
  else
    some ((x18, x19), (x16, x17)) := by kernel_rfl
theorem draw_Codes_Mine_L1_succ (N : Nat) (n1 : Nat) (x2 : Int) (x3 : List Int) (x4 : Int) (x5 : List T_Place) : draw_Codes_Mine_L1 N (n1 + 1) x2 x3 x4 x5 =
  bif (decide (x2 > 0)) then
    Option.bind (draw_Codes_Range N (x3, x4) (-60) 60) fun r6 =>
    Option.bind (draw_Codes_One N r6.2 5) fun r7 =>
    bif fitsB (x5.length + 1) 16 then
    draw_Codes_Mine_L1 N n1 (W (x2 - 1)) r7.2.1 r7.2.2 (x5 ++ [(r6.1, r7.1)])
    else none
  else
    Option.bind (draw_Codes_Next N (x3, x4) 9) fun r13 =>
    draw_Codes_Mine_L2 N N (x5.length : Int) r13.1 r13.2.1 r13.2.2 x5 [] := by kernel_rfl
def draw_Codes_Mine (N : Nat) (a0 : T_Codes) : Option (T_Mine × T_Codes) :=
  Option.bind (draw_Codes_Next N a0 6) fun r1 =>
  draw_Codes_Mine_L1 N N (W (1 + r1.1)) r1.2.1 r1.2.2 [(0, true)]
theorem draw_Codes_Mine_fn : FnOK Tryd.prog 17 63 (fun t : Nat => Nat.beq t 10) draw_Codes_Mine_C5.er [(.cell 2 true 2)] := FnOK.mk' Tryd.func17 (by kernel_rfl) (by kernel_rfl) (by kernel_rfl) (by kernel_rfl) (by kernel_rfl)
theorem draw_Codes_Mine_envok (N : Nat) : EnvOK Tryd.prog (draw_Codes_Mine_E N) := .cons (sfE_ok (draw_Codes_Next_sf N)) (.cons (sfE_ok (draw_Codes_Range_sf N)) (.cons (sfE_ok (draw_Codes_One_sf N)) (.cons (sfE_ok (draw_Codes_Road_sf N)) (.nil))))
theorem draw_Codes_Mine_sf (N : Nat) : SFOK Tryd.prog 17 [none] [.b (.v G_Codes)] [.v G_Mine] (fun x => draw_Codes_Mine N x) := sfOK (N := N) (p := 1) (q := 1) (ns := draw_Codes_Mine_NE) mixed draw_Codes_Mine_fn (draw_Codes_Mine_envok N) (TC.noh_ok (by kernel_rfl)) rfl rfl rfl (fun x => by kernel_rfl)
def draw_Codes_Edit_NE : List NS := [.frzo 0, .keep [4], .out [0]]
def draw_Codes_Edit_C10 : TC := (.cond (.t 54) .skip (.rg [.s 56 (.bin .eql (.t 10) (.c (I 4))), .m 54 56] none))
def draw_Codes_Edit_C13 : TC := (.rg [.s 22 (.fadr 14 (.t 5)), .s 23 (.fadr 0 (.t 22)), .s 24 (.load false 1 (.t 23)), .m 25 0, .s 26 (.call (.c (.fn 35 [])) [(.t 25), (.c (I (-1))), (.c (I 5))]), .s 27 (.bin .add (.t 24) (.t 26)), .s 28 (.fadr 14 (.t 5)), .s 29 (.fadr 1 (.t 28)), .d (.store 1 (.t 29) (.t 27))] (some [(0, 4), (1,
  4), (2, 4)]))
def draw_Codes_Edit_C12 : TC := (.seq (.rg [.m 18 0, .s 19 (.call (.c (.fn 35 [])) [(.t 18), (.c (I 0)), (.c (I 30))]), .s 20 (.fadr 14 (.t 5)), .s 21 (.fadr 0 (.t 20)), .d (.store 1 (.t 21) (.t 19))] none) draw_Codes_Edit_C13)
def draw_Codes_Edit_C11 : TC := (.cond (.t 54) (.rg [.m 57 0, .s 58 (.fadr 1 (.t 3)), .s 59 (.load false 1 (.t 58)), .s 60 (.len (.t 59)), .s 61 (.bin .add (.t 60) (.c (I 1))), .s 62 (.call (.c (.fn 21 [])) [(.t 57), (.t 61)]), .s 63 (.fadr 13 (.t 5)), .d (.store 1 (.t 63) (.t 62))] none) (.seq (.rg [.m 11 0, .s 12 (.fadr 1 (.t
  3)), .s 13 (.load false 1 (.t 12)), .s 14 (.len (.t 13)), .s 15 (.bin .add (.t 14) (.c (I 1))), .s 16 (.call (.c (.fn 21 [])) [(.t 11), (.t 15)]), .s 17 (.fadr 13 (.t 5)), .d (.store 1 (.t 17) (.t 16))] none) draw_Codes_Edit_C12))
def draw_Codes_Edit_C8 : TC := (.cond (.t 38) (.rg [.m 40 0, .m 41 0, .s 42 (.fadr 0 (.t 3)), .s 43 (.load false 1 (.t 42)), .s 44 (.len (.t 43)), .s 45 (.bin .add (.t 44) (.c (I 1))), .s 46 (.call (.c (.fn 21 [])) [(.t 41), (.t 45)]), .m 47 0, .s 48 (.fadr 0 (.t 3)), .s 49 (.load false 1 (.t 48)), .s 50 (.len (.t 49)), .s 51
  (.call (.c (.fn 21 [])) [(.t 47), (.t 50)]), .s 52 (.call (.c (.fn 37 [])) [(.t 40), (.t 46), (.t 51)]), .s 53 (.fadr 3 (.t 5)), .d (.store 10 (.t 53) (.t 52))] (some [(6, 8), (6, 9), (6, 10)])) (.seq (.seq (.rg [.s 55 (.bin .eql (.t 10) (.c (I 3))), .m 54 55] none) draw_Codes_Edit_C10)
  draw_Codes_Edit_C11))
def draw_Codes_Edit_C6 : TC := (.cond (.t 30) (.rg [.m 32 0, .s 33 (.call (.c (.fn 35 [])) [(.t 32), (.c (I (-100))), (.c (I 100))]), .m 34 0, .s 35 (.call (.c (.fn 36 [])) [(.t 34), (.c (I 4))]), .s 36 (.build [(I 0), (B false)] [(0, (1, (.t 33))), (1, (1, (.t 35)))]), .s 37 (.fadr 1 (.t 5)), .d (.store 2 (.t 37) (.t 36))] none)
  (.seq (.rg [.s 39 (.bin .eql (.t 10) (.c (I 2))), .m 38 39] none) draw_Codes_Edit_C8))
def draw_Codes_Edit_C4 : TC := (.block 0 (.seq (.rg [.s 31 (.bin .eql (.t 10) (.c (I 1))), .m 30 31] none) draw_Codes_Edit_C6))
def draw_Codes_Edit_C9 : TC := .ret
def draw_Codes_Edit_C7 : TC := (.pre [.frzo 0, .keep [4], .out [0]] draw_Codes_Edit_C9)
def draw_Codes_Edit_C5 : TC := (.seq (.rg [.s 64 (.load true 16 (.t 5)), .d (.store 16 (.t 4) (.t 64))] none) draw_Codes_Edit_C7)
def draw_Codes_Edit_C3 : TC := (.seq (.seq (.rg [.s 9 (.fadr 0 (.t 5)), .s 10 (.load false 1 (.t 9))] none) draw_Codes_Edit_C4) draw_Codes_Edit_C5)
def draw_Codes_Edit_C2 : TC := (.seq (.rg [.m 6 0, .s 7 (.call (.c (.fn 35 [])) [(.t 6), (.c (I 1)), (.c (I 6))]), .s 8 (.build [(I 0), (I 0), (B false), (I 0), (I 0), (I 0), (I 0), (B false), (B false), (I 0), (I 0), (I 0), (I 0), (I 0), (I 0), (I 0)] [(0, (1, (.t 7)))]), .s 5 (.alloc [(I 0), (I 0), (B false), (I 0), (I 0), (I
  0), (I 0), (B false), (B false), (I 0), (I 0), (I 0), (I 0), (I 0), (I 0), (I 0)]), .d (.store 16 (.t 5) (.t 8))] none) draw_Codes_Edit_C3)
def draw_Codes_Edit_C1 : TC := (.seq (.rg [.s 3 (.box (.t 1)), .s 4 (.alloc [(I 0), (I 0), (B false), (I 0), (I 0), (I 0), (I 0), (B false), (B false), (I 0), (I 0), (I 0), (I 0), (I 0), (I 0), (I 0)])] none) draw_Codes_Edit_C2)
def draw_Codes_Edit_E (N : Nat) : List (Nat × Ent) := [(35, sfE [none, none, none] [.b (.v G_Codes), .v (.int .i64), .v (.int .i64)] [.v (.int .i64)] (fun x => draw_Codes_Range N x.1 x.2.1 x.2.2)), (36, sfE [none, none] [.b (.v G_Codes), .v (.int .i64)] [.v .bool] (fun x => draw_Codes_One N x.1 x.2)), (21, sfE [none, none] [.b (.v G_Codes), .v (.int .i64)] [.v (.int .i64)] (fun x => draw_Codes_Next N x.1 x.2)), (37, sfE [none, none, none] [.b (.v G_Codes), .v (.int .i64), .v (.int .i64)] [.v G_Road] (fun x => draw_Codes_Road N x.1 x.2.1 x.2.2))]
def draw_Codes_Edit (N : Nat) (a0 : T_Codes) (a1 : T_Mine) : Option (T_Edit × T_Codes) :=
  Option.bind (draw_Codes_Range N a0 1 6) fun r1 =>
  bif (r1.1 == 1) then
    Option.bind (draw_Codes_Range N r1.2 (-100) 100) fun r2 =>
    Option.bind (draw_Codes_One N r2.2 4) fun r3 =>
    some ((r1.1, ((r2.1, r3.1), ((0, (0, (0, (0, (false, (false, ((0, 0), (0, 0)))))))), (0, (0, 0))))), r3.2)
  else
    bif (r1.1 == 2) then
      Option.bind (draw_Codes_Next N r1.2 (W ((a1.1.length : Int) + 1))) fun r5 =>
      Option.bind (draw_Codes_Next N r5.2 (a1.1.length : Int)) fun r6 =>
      Option.bind (draw_Codes_Road N r6.2 r5.1 r6.1) fun r7 =>
      some ((r1.1, ((0, false), (r7.1, (0, (0, 0))))), r7.2)
    else
      bif (r1.1 == 3) then
        Option.bind (draw_Codes_Next N r1.2 (W ((a1.2.length : Int) + 1))) fun r9 =>
        some ((r1.1, ((0, false), ((0, (0, (0, (0, (false, (false, ((0, 0), (0, 0)))))))), (r9.1, (0, 0))))), r9.2)
      else
        bif (r1.1 == 4) then
          Option.bind (draw_Codes_Next N r1.2 (W ((a1.2.length : Int) + 1))) fun r11 =>
          some ((r1.1, ((0, false), ((0, (0, (0, (0, (false, (false, ((0, 0), (0, 0)))))))), (r11.1, (0, 0))))), r11.2)
        else
          Option.bind (draw_Codes_Next N r1.2 (W ((a1.2.length : Int) + 1))) fun r13 =>
          Option.bind (draw_Codes_Range N r13.2 0 30) fun r14 =>
          Option.bind (draw_Codes_Range N r14.2 (-1) 5) fun r15 =>
          some ((r1.1, ((0, false), ((0, (0, (0, (0, (false, (false, ((0, 0), (0, 0)))))))), (r13.1, (r14.1, W (r14.1 + r15.1)))))), r15.2)
theorem draw_Codes_Edit_fn : FnOK Tryd.prog 22 65 (fun _ : Nat => false) draw_Codes_Edit_C1.er [(.cell 4 true 16)] := FnOK.mk' Tryd.func22 (by kernel_rfl) (by kernel_rfl) (by kernel_rfl) (by kernel_rfl) (by kernel_rfl)
theorem draw_Codes_Edit_envok (N : Nat) : EnvOK Tryd.prog (draw_Codes_Edit_E N) := .cons (sfE_ok (draw_Codes_Range_sf N)) (.cons (sfE_ok (draw_Codes_One_sf N)) (.cons (sfE_ok (draw_Codes_Next_sf N)) (.cons (sfE_ok (draw_Codes_Road_sf N)) (.nil))))
theorem draw_Codes_Edit_sf (N : Nat) : SFOK Tryd.prog 22 [none, none] [.b (.v G_Codes), .v G_Mine] [.v G_Edit] (fun x => draw_Codes_Edit N x.1 x.2) := sfOK (N := N) (p := 1) (q := 1) (ns := draw_Codes_Edit_NE) mixed draw_Codes_Edit_fn (draw_Codes_Edit_envok N) (TC.noh_ok (by kernel_rfl)) rfl rfl rfl (fun x => by kernel_rfl)
def draw_Codes_Edits_NE : List NS := [.own 4 G_Edit, .frzo 0, .keep [4], .out [0]]
def draw_Codes_Edits_N1 : List NS := [.own 5 G_Edit, .keep [0, 5, 6, 7], .cmp]
def draw_Codes_Edits_C4 : TC := (.cond (.t 15) .skip (.exit 0))
def draw_Codes_Edits_C8 : TC := (.rg [.m 16 7, .s 17 (.bin .sub (.t 16) (.c (I 1))), .m 7 17] none)
def draw_Codes_Edits_C5 : TC := (.seq (.block 1 (.rg [.m 18 5, .m 19 0, .s 20 (.load true 2 (.t 6)), .s 21 (.call (.c (.fn 22 [])) [(.t 19), (.t 20)]), ⟨⟨some 22, (.bslice false 16 [(I 0), (I 0), (B false), (I 0), (I 0), (I 0), (I 0), (B false), (B false), (I 0), (I 0), (I 0), (I 0), (I 0), (I 0), (I 0)] 1 [(0, (.t 21))]), none⟩,
  ⟨G_Edit, none, []⟩⟩, .s 23 (.app 16 120 (.t 18) (.t 22)), .m 5 23] none)) draw_Codes_Edits_C8)
def draw_Codes_Edits_C1 : TC := (.seq (.seq (.rg [.m 14 7, .s 15 (.bin .gtr (.t 14) (.c (I 0)))] none) draw_Codes_Edits_C4) draw_Codes_Edits_C5)
def draw_Codes_Edits_C9 : TC := .ret
def draw_Codes_Edits_C6 : TC := (.pre [.own 4 G_Edit, .frzo 0, .keep [4], .out [0]] draw_Codes_Edits_C9)
def draw_Codes_Edits_C2 : TC := (.seq (.rg [.m 24 5, .m 4 24] none) draw_Codes_Edits_C6)
def draw_Codes_Edits_C12 : TC := (.block 0 (.loop draw_Codes_Edits_N1 draw_Codes_Edits_C1))
def draw_Codes_Edits_C11 : TC := (.seq (.seq (.rg [.m 10 0, .m 11 1, .s 12 (.bin .add (.t 11) (.c (I 1))), .s 13 (.call (.c (.fn 21 [])) [(.t 10), (.t 12)]), .m 7 13] none) draw_Codes_Edits_C12) draw_Codes_Edits_C2)
def draw_Codes_Edits_C10 : TC := (.seq (.rg [.m 8 0, .s 9 (.call (.c (.fn 17 [])) [(.t 8)]), .s 6 (.alloc [(.lst true []), (.lst true [])]), .d (.store 2 (.t 6) (.t 9))] none) draw_Codes_Edits_C11)
def draw_Codes_Edits_C7 : TC := (.seq (.rg [.s 5 (.mov (.c (.lst true [])))] none) draw_Codes_Edits_C10)
def draw_Codes_Edits_C3 : TC := (.seq (.rg [.s 4 (.mov (.c (.lst true [])))] none) draw_Codes_Edits_C7)
def draw_Codes_Edits_E (N : Nat) : List (Nat × Ent) := [(17, sfE [none] [.b (.v G_Codes)] [.v G_Mine] (fun x => draw_Codes_Mine N x)), (21, sfE [none, none] [.b (.v G_Codes), .v (.int .i64)] [.v (.int .i64)] (fun x => draw_Codes_Next N x.1 x.2)), (22, sfE [none, none] [.b (.v G_Codes), .v G_Mine] [.v G_Edit] (fun x => draw_Codes_Edit N x.1 x.2))]
def draw_Codes_Edits_L1 (N : Nat) (n : Nat) (x3 : Int) (x4 : List Int) (x5 : Int) (x6 : List T_Edit) (x7 : List T_Place) (x8 : List T_Road) : Option ((List T_Edit) × T_Codes) := loopN (normI 1 draw_Codes_Edits_N1) (run (draw_Codes_Edits_E N) N 1 draw_Codes_Edits_C1) n ⟨[(0, .ptr 0 0 0), (5, .whole 1), (6, .ptr 2 0 0), (7, .int .i64 x3)], [some (.box 0 [.lst false (.int .u8) x4, .int .i64 x5]), some (.arr G_Edit x6), some (.box 0 [.lst false G_Place x7, .lst false G_Road x8])]⟩ (blkK 0 (seqK (run (draw_Codes_Edits_E N) N 1 draw_Codes_Edits_C2) (finS draw_Codes_Edits_NE [(.t 4)] [.b (.v G_Codes), .v (.int .i64)] [.o (.a G_Edit)] 1 1)))
theorem draw_Codes_Edits_L1_succ (N : Nat) (n1 : Nat) (x3 : Int) (x4 : List Int) (x5 : Int) (x6 : List T_Edit) (x7 : List T_Place) (x8 : List T_Road) : draw_Codes_Edits_L1 N (n1 + 1) x3 x4 x5 x6 x7 x8 =
  bif (decide (x3 > 0)) then
    Option.bind (draw_Codes_Edit N (x4, x5) (x7, x8)) fun r9 =>
    bif fitsB (x6.length + 1) 120 then
    draw_Codes_Edits_L1 N n1 (W (x3 - 1)) r9.2.1 r9.2.2 (x6 ++ [r9.1]) x7 x8
    else none
  else
    some (x6, (x4, x5)) := by kernel_rfl
def draw_Codes_Edits (N : Nat) (a0 : T_Codes) (a1 : Int) : Option ((List T_Edit) × T_Codes) :=
  Option.bind (draw_Codes_Mine N a0) fun r1 =>
  Option.bind (draw_Codes_Next N r1.2 (W (a1 + 1))) fun r2 =>
  draw_Codes_Edits_L1 N N r2.1 r2.2.1 r2.2.2 [] r1.1.1 r1.1.2
theorem draw_Codes_Edits_fn : FnOK Tryd.prog 11 25 (fun _ : Nat => false) draw_Codes_Edits_C3.er [(.t 4)] := FnOK.mk' Tryd.func11 (by kernel_rfl) (by kernel_rfl) (by kernel_rfl) (by kernel_rfl) (by kernel_rfl)
theorem draw_Codes_Edits_envok (N : Nat) : EnvOK Tryd.prog (draw_Codes_Edits_E N) := .cons (sfE_ok (draw_Codes_Mine_sf N)) (.cons (sfE_ok (draw_Codes_Next_sf N)) (.cons (sfE_ok (draw_Codes_Edit_sf N)) (.nil)))
theorem draw_Codes_Edits_sf (N : Nat) : SFOK Tryd.prog 11 [none, none] [.b (.v G_Codes), .v (.int .i64)] [.o (.a G_Edit)] (fun x => draw_Codes_Edits N x.1 x.2) := sfOK (N := N) (p := 1) (q := 1) (ns := draw_Codes_Edits_NE) mixed draw_Codes_Edits_fn (draw_Codes_Edits_envok N) (TC.noh_ok (by kernel_rfl)) rfl rfl rfl (fun x => by kernel_rfl)
def ref02_short_N1 : List NS := [.wk 0 (.list (.int .i64)), .keep [0, 3], .cmp]
def ref02_short_C4 : TC := (.cond (.t 7) .skip (.exit 0))
def ref02_short_C11 : TC := .ret
def ref02_short_C8 : TC := (.cond (.t 21) (.seq (.rg [.s 2 (.mov (.c (B false)))] none) ref02_short_C11) .skip)
def ref02_short_C9 : TC := (.rg [.m 8 3, .s 9 (.bin .add (.t 8) (.c (I 1))), .m 3 9] none)
def ref02_short_C5 : TC := (.seq (.block 1 (.seq (.rg [.m 10 0, .m 11 3, .s 12 (.iadrS 1 (.t 10) (.t 11)), .s 13 (.load false 1 (.t 12)), .s 14 (.bin .leq (.t 13) (.c (I (-1000000000000000000)))), .m 15 14, ⟨⟨some 16, (.mov (.t 0)), some (15, false)⟩, {}⟩, ⟨⟨some 17, (.mov (.t 3)), some (15, false)⟩, {}⟩, ⟨⟨some 18, (.iadrS 1
  (.t 16) (.t 17)), some (15, false)⟩, {}⟩, ⟨⟨some 19, (.load false 1 (.t 18)), some (15, false)⟩, {}⟩, ⟨⟨some 20, (.bin .geq (.t 19) (.c (I 1000000000000000000))), some (15, false)⟩, {}⟩, .s 21 (.pick (.t 15) (.c (B true)) (.t 20))] none) ref02_short_C8)) ref02_short_C9)
def ref02_short_C1 : TC := (.seq (.seq (.rg [.m 4 3, .m 5 0, .s 6 (.len (.t 5)), .s 7 (.bin .lss (.t 4) (.t 6))] none) ref02_short_C4) ref02_short_C5)
def ref02_short_C6 : TC := .ret
def ref02_short_C2 : TC := (.seq (.rg [.s 2 (.mov (.c (B true)))] none) ref02_short_C6)
def ref02_short_C10 : TC := (.block 0 (.loop ref02_short_N1 ref02_short_C1))
def ref02_short_C7 : TC := (.seq (.seq (.rg [.s 3 (.mov (.c (I 0)))] none) ref02_short_C10) ref02_short_C2)
def ref02_short_C3 : TC := (.seq (.rg [.s 2 (.mov (.c (B false)))] none) ref02_short_C7)
def ref02_short_E (N : Nat) : List (Nat × Ent) := []
def ref02_short_L1 (N : Nat) (n : Nat) (x1 : List Int) (x2 : Int) : Option Bool := loopN (normI 0 ref02_short_N1) (run (ref02_short_E N) N 0 ref02_short_C1) n ⟨[(0, .lst false (.int .i64) x1), (3, .int .i64 x2)], []⟩ (blkK 0 (seqK (run (ref02_short_E N) N 0 ref02_short_C2) (fin [(.t 2)] [.bool])))
theorem ref02_short_L1_succ (N : Nat) (n1 : Nat) (x1 : List Int) (x2 : Int) : ref02_short_L1 N (n1 + 1) x1 x2 =
  bif (decide (x2 < (x1.length : Int))) then
    bif inB x2 x1.length then
    bif (decide ((x1.getD x2.toNat 0) ≤ (-1000000000000000000))) then
      some false
    else
      bif inB x2 x1.length then
      bif (decide ((x1.getD x2.toNat 0) ≥ 1000000000000000000)) then
        some false
      else
        ref02_short_L1 N n1 x1 (W (x2 + 1))
      else none
    else none
  else
    some true := by kernel_rfl
def ref02_short (N : Nat) (a0 : List Int) : Option Bool :=
  ref02_short_L1 N N a0 0
theorem ref02_short_fn : FnOK Tryd.prog 44 22 (fun _ : Nat => false) ref02_short_C3.er [(.t 2)] := FnOK.mk' Tryd.func44 (by kernel_rfl) (by kernel_rfl) (by kernel_rfl) (by kernel_rfl) (by kernel_rfl)
theorem ref02_short_envok (N : Nat) : EnvOK Tryd.prog (ref02_short_E N) := .nil
theorem ref02_short_pure (N : Nat) : PureOK Tryd.prog 44 [(.list (.int .i64))] [.bool] (fun x => ref02_short N x) := pureOK (N := N) mixed ref02_short_fn (ref02_short_envok N) (TC.noh_ok (by kernel_rfl)) rfl (fun x => by kernel_rfl)
def ref02_Plain_C5 : TC := .ret
def ref02_Plain_C3 : TC := (.seq (.rg [.s 39 (.load true 16 (.t 3)), .s 40 (.load true 16 (.t 1)), .s 41 (.eqa false [(0, 1), (1, 1), (2, 0), (3, 1), (4, 1), (5, 1), (6, 1), (7, 0), (8, 0), (9, 1), (10, 1), (11, 1), (12, 1), (13, 1), (14, 1), (15, 1)] (.t 39) (.t 40)), .m 42 41, ⟨⟨some 43, (.fadr 1 (.t 1)), some (42, true)⟩,
  {}⟩, ⟨⟨some 44, (.fadr 0 (.t 43)), some (42, true)⟩, {}⟩, ⟨⟨some 45, (.load false 1 (.t 44)), some (42, true)⟩, {}⟩, ⟨⟨some 46, (.fadr 13 (.t 1)), some (42, true)⟩, {}⟩, ⟨⟨some 47, (.load false 1 (.t 46)), some (42, true)⟩, {}⟩, ⟨⟨some 48, (.fadr 14 (.t 1)), some (42, true)⟩, {}⟩, ⟨⟨some 49, (.fadr
  0 (.t 48)), some (42, true)⟩, {}⟩, ⟨⟨some 50, (.load false 1 (.t 49)), some (42, true)⟩, {}⟩, ⟨⟨some 51, (.fadr 14 (.t 1)), some (42, true)⟩, {}⟩, ⟨⟨some 52, (.fadr 1 (.t 51)), some (42, true)⟩, {}⟩, ⟨⟨some 53, (.load false 1 (.t 52)), some (42, true)⟩, {}⟩, ⟨⟨some 54, (.fadr 0 (.t 4)), some (42,
  true)⟩, {}⟩, ⟨⟨some 55, (.load false 1 (.t 54)), some (42, true)⟩, {}⟩, ⟨⟨some 56, (.fadr 1 (.t 4)), some (42, true)⟩, {}⟩, ⟨⟨some 57, (.load false 1 (.t 56)), some (42, true)⟩, {}⟩, ⟨⟨some 58, (.fadr 2 (.t 4)), some (42, true)⟩, {}⟩, ⟨⟨some 59, (.load false 1 (.t 58)), some (42, true)⟩, {}⟩,
  ⟨⟨some 60, (.fadr 3 (.t 4)), some (42, true)⟩, {}⟩, ⟨⟨some 61, (.load false 1 (.t 60)), some (42, true)⟩, {}⟩, ⟨⟨some 62, (.fadr 6 (.t 4)), some (42, true)⟩, {}⟩, ⟨⟨some 63, (.fadr 0 (.t 62)), some (42, true)⟩, {}⟩, ⟨⟨some 64, (.load false 1 (.t 63)), some (42, true)⟩, {}⟩, ⟨⟨some 65, (.fadr 6 (.t
  4)), some (42, true)⟩, {}⟩, ⟨⟨some 66, (.fadr 1 (.t 65)), some (42, true)⟩, {}⟩, ⟨⟨some 67, (.load false 1 (.t 66)), some (42, true)⟩, {}⟩, ⟨⟨some 68, (.fadr 8 (.t 4)), some (42, true)⟩, {}⟩, ⟨⟨some 69, (.fadr 0 (.t 68)), some (42, true)⟩, {}⟩, ⟨⟨some 70, (.load false 1 (.t 69)), some (42, true)⟩,
  {}⟩, ⟨⟨some 71, (.fadr 8 (.t 4)), some (42, true)⟩, {}⟩, ⟨⟨some 72, (.fadr 1 (.t 71)), some (42, true)⟩, {}⟩, ⟨⟨some 73, (.load false 1 (.t 72)), some (42, true)⟩, {}⟩, ⟨⟨some 74, (.bslice false 1 [(I 0)] 12 [(0, (.t 45)), (1, (.t 47)), (2, (.t 50)), (3, (.t 53)), (4, (.t 55)), (5, (.t 57)), (6,
  (.t 59)), (7, (.t 61)), (8, (.t 64)), (9, (.t 67)), (10, (.t 70)), (11, (.t 73))]), some (42, true)⟩, ⟨(.int .i64), none, []⟩⟩, ⟨⟨some 75, (.call (.c (.fn 44 [])) [(.t 74)]), some (42, true)⟩, {}⟩, .s 76 (.pick (.t 42) (.t 75) (.c (B false))), .m 2 76] none) ref02_Plain_C5)
def ref02_Plain_C1 : TC := (.seq (.rg [.s 37 (.fadr 3 (.t 1)), .s 38 (.load true 10 (.t 37)), .s 4 (.alloc [(I 0), (I 0), (I 0), (I 0), (B false), (B false), (I 0), (I 0), (I 0), (I 0)]), .d (.store 10 (.t 4) (.t 38))] none) ref02_Plain_C3)
def ref02_Plain_C11 : TC := (.rg [.s 20 (.fadr 3 (.t 3)), .s 21 (.fadr 5 (.t 20)), .d (.store 1 (.t 21) (.c (B false)))] none)
def ref02_Plain_C12 : TC := (.cond (.t 22) .skip (.rg [.s 24 (.bin .eql (.t 9) (.c (I 4))), .m 22 24] none))
def ref02_Plain_C14 : TC := (.cond (.t 28) .skip (.rg [.s 30 (.bin .eql (.t 9) (.c (I 6))), .m 28 30] none))
def ref02_Plain_C16 : TC := .ret
def ref02_Plain_C15 : TC := (.cond (.t 28) (.rg [.s 31 (.fadr 13 (.t 1)), .s 32 (.load false 1 (.t 31)), .s 33 (.fadr 14 (.t 1)), .s 34 (.load true 2 (.t 33)), .s 35 (.fadr 13 (.t 3)), .d (.store 1 (.t 35) (.t 32)), .s 36 (.fadr 14 (.t 3)), .d (.store 2 (.t 36) (.t 34))] (some [(2, 5), (3, 5)])) (.seq (.rg [.s 2 (.mov (.c (B
  false)))] none) ref02_Plain_C16))
def ref02_Plain_C13 : TC := (.cond (.t 22) (.rg [.s 25 (.fadr 13 (.t 1)), .s 26 (.load false 1 (.t 25)), .s 27 (.fadr 13 (.t 3)), .d (.store 1 (.t 27) (.t 26))] none) (.seq (.seq (.rg [.s 29 (.bin .eql (.t 9) (.c (I 5))), .m 28 29] none) ref02_Plain_C14) ref02_Plain_C15))
def ref02_Plain_C10 : TC := (.cond (.t 15) (.seq (.rg [.s 17 (.fadr 3 (.t 1)), .s 18 (.load true 10 (.t 17)), .s 19 (.fadr 3 (.t 3)), .d (.store 10 (.t 19) (.t 18))] none) ref02_Plain_C11) (.seq (.seq (.rg [.s 23 (.bin .eql (.t 9) (.c (I 3))), .m 22 23] none) ref02_Plain_C12) ref02_Plain_C13))
def ref02_Plain_C9 : TC := (.cond (.t 10) (.rg [.s 12 (.fadr 1 (.t 1)), .s 13 (.load true 2 (.t 12)), .s 14 (.fadr 1 (.t 3)), .d (.store 2 (.t 14) (.t 13))] none) (.seq (.rg [.s 16 (.bin .eql (.t 9) (.c (I 2))), .m 15 16] none) ref02_Plain_C10))
def ref02_Plain_C7 : TC := (.block 0 (.seq (.rg [.s 11 (.bin .eql (.t 9) (.c (I 1))), .m 10 11] none) ref02_Plain_C9))
def ref02_Plain_C8 : TC := (.join [.keep [1, 3], .cmp] ref02_Plain_C1)
def ref02_Plain_C6 : TC := (.seq (.seq (.rg [.s 8 (.fadr 0 (.t 1)), .s 9 (.load false 1 (.t 8))] none) ref02_Plain_C7) ref02_Plain_C8)
def ref02_Plain_C4 : TC := (.seq (.rg [.s 5 (.fadr 0 (.t 1)), .s 6 (.load false 1 (.t 5)), .s 7 (.build [(I 0), (I 0), (B false), (I 0), (I 0), (I 0), (I 0), (B false), (B false), (I 0), (I 0), (I 0), (I 0), (I 0), (I 0), (I 0)] [(0, (1, (.t 6)))]), .s 3 (.alloc [(I 0), (I 0), (B false), (I 0), (I 0), (I 0), (I 0), (B false),
  (B false), (I 0), (I 0), (I 0), (I 0), (I 0), (I 0), (I 0)]), .d (.store 16 (.t 3) (.t 7))] none) ref02_Plain_C6)
def ref02_Plain_C2 : TC := (.seq (.rg [.s 1 (.box (.t 0)), .s 2 (.mov (.c (B false)))] none) ref02_Plain_C4)
def ref02_Plain_E (N : Nat) : List (Nat × Ent) := [(44, pureE [(.list (.int .i64))] [.bool] (fun x => ref02_short N x))]
def ref02_Plain_J1 (N : Nat) (JM : Nat) (x1 x2 : Int) (x3 : Bool) (x4 x5 x6 x7 : Int) (x8 x9 : Bool) (x10 x11 x12 x13 x14 x15 x16 x17 x18 : Int) (x19 : Bool) (x20 x21 x22 x23 : Int) (x24 x25 : Bool) (x26 x27 x28 x29 x30 x31 x32 : Int) : Option Bool := joinN (run (ref02_Plain_E N) N 0 ref02_Plain_C1) JM ⟨[(1, .ptr 0 0 0), (3, .ptr 1 0 0)], [some (.box 0 [.int .i64 x1, .int .i64 x2, .bool x3, .int .i64 x4, .int .i64 x5, .int .i64 x6, .int .i64 x7, .bool x8, .bool x9, .int .i64 x10, .int .i64 x11, .int .i64 x12, .int .i64 x13, .int .i64 x14, .int .i64 x15, .int .i64 x16]), some (.box 0 [.int .i64 x17, .int .i64 x18, .bool x19, .int .i64 x20, .int .i64 x21, .int .i64 x22, .int .i64 x23, .bool x24, .bool x25, .int .i64 x26, .int .i64 x27, .int .i64 x28, .int .i64 x29, .int .i64 x30, .int .i64 x31, .int .i64 x32])]⟩ (fin [(.t 2)] [.bool])
theorem ref02_Plain_J1_eq (N : Nat) (JM : Nat) (x1 x2 : Int) (x3 : Bool) (x4 x5 x6 x7 : Int) (x8 x9 : Bool) (x10 x11 x12 x13 x14 x15 x16 x17 x18 : Int) (x19 : Bool) (x20 x21 x22 x23 : Int) (x24 x25 : Bool) (x26 x27 x28 x29 x30 x31 x32 : Int) : ref02_Plain_J1 N (JM + 1) x1 x2 x3 x4 x5 x6 x7 x8 x9 x10 x11 x12 x13 x14 x15 x16 x17 x18 x19 x20 x21 x22 x23 x24 x25 x26 x27 x28 x29 x30 x31 x32 =
  bif ((x17 == x1) && ((x18 == x2) && ((x19 == x3) && ((x20 == x4) && ((x21 == x5) && ((x22 == x6) && ((x23 == x7) && ((x24 == x8) && ((x25 == x9) && ((x26 == x10) && ((x27 == x11) && ((x28 == x12) && ((x29 == x13) && ((x30 == x14) && ((x31 == x15) && (x32 == x16)))))))))))))))) then
    Option.bind (ref02_short N [x2, x14, x15, x16, x4, x5, x6, x7, x10, x11, x12, x13]) fun r33 =>
    some r33
  else
    some false := by kernel_rfl
def ref02_Plain (N : Nat) (a0 : T_Edit) : Option Bool :=
  bif (a0.1 == 1) then
    ref02_Plain_J1 N N a0.1 a0.2.1.1 a0.2.1.2 a0.2.2.1.1 a0.2.2.1.2.1 a0.2.2.1.2.2.1 a0.2.2.1.2.2.2.1 a0.2.2.1.2.2.2.2.1 a0.2.2.1.2.2.2.2.2.1 a0.2.2.1.2.2.2.2.2.2.1.1 a0.2.2.1.2.2.2.2.2.2.1.2 a0.2.2.1.2.2.2.2.2.2.2.1 a0.2.2.1.2.2.2.2.2.2.2.2 a0.2.2.2.1 a0.2.2.2.2.1 a0.2.2.2.2.2 a0.1 a0.2.1.1 a0.2.1.2 0 0 0 0 false false 0 0 0 0 0 0 0
  else
    bif (a0.1 == 2) then
      ref02_Plain_J1 N N a0.1 a0.2.1.1 a0.2.1.2 a0.2.2.1.1 a0.2.2.1.2.1 a0.2.2.1.2.2.1 a0.2.2.1.2.2.2.1 a0.2.2.1.2.2.2.2.1 a0.2.2.1.2.2.2.2.2.1 a0.2.2.1.2.2.2.2.2.2.1.1 a0.2.2.1.2.2.2.2.2.2.1.2 a0.2.2.1.2.2.2.2.2.2.2.1 a0.2.2.1.2.2.2.2.2.2.2.2 a0.2.2.2.1 a0.2.2.2.2.1 a0.2.2.2.2.2 a0.1 0 false a0.2.2.1.1 a0.2.2.1.2.1 a0.2.2.1.2.2.1 a0.2.2.1.2.2.2.1 a0.2.2.1.2.2.2.2.1 false a0.2.2.1.2.2.2.2.2.2.1.1 a0.2.2.1.2.2.2.2.2.2.1.2 a0.2.2.1.2.2.2.2.2.2.2.1 a0.2.2.1.2.2.2.2.2.2.2.2 0 0 0
    else
      bif (a0.1 == 3) then
        ref02_Plain_J1 N N a0.1 a0.2.1.1 a0.2.1.2 a0.2.2.1.1 a0.2.2.1.2.1 a0.2.2.1.2.2.1 a0.2.2.1.2.2.2.1 a0.2.2.1.2.2.2.2.1 a0.2.2.1.2.2.2.2.2.1 a0.2.2.1.2.2.2.2.2.2.1.1 a0.2.2.1.2.2.2.2.2.2.1.2 a0.2.2.1.2.2.2.2.2.2.2.1 a0.2.2.1.2.2.2.2.2.2.2.2 a0.2.2.2.1 a0.2.2.2.2.1 a0.2.2.2.2.2 a0.1 0 false 0 0 0 0 false false 0 0 0 0 a0.2.2.2.1 0 0
      else
        bif (a0.1 == 4) then
          ref02_Plain_J1 N N a0.1 a0.2.1.1 a0.2.1.2 a0.2.2.1.1 a0.2.2.1.2.1 a0.2.2.1.2.2.1 a0.2.2.1.2.2.2.1 a0.2.2.1.2.2.2.2.1 a0.2.2.1.2.2.2.2.2.1 a0.2.2.1.2.2.2.2.2.2.1.1 a0.2.2.1.2.2.2.2.2.2.1.2 a0.2.2.1.2.2.2.2.2.2.2.1 a0.2.2.1.2.2.2.2.2.2.2.2 a0.2.2.2.1 a0.2.2.2.2.1 a0.2.2.2.2.2 a0.1 0 false 0 0 0 0 false false 0 0 0 0 a0.2.2.2.1 0 0
        else
          bif (a0.1 == 5) then
            ref02_Plain_J1 N N a0.1 a0.2.1.1 a0.2.1.2 a0.2.2.1.1 a0.2.2.1.2.1 a0.2.2.1.2.2.1 a0.2.2.1.2.2.2.1 a0.2.2.1.2.2.2.2.1 a0.2.2.1.2.2.2.2.2.1 a0.2.2.1.2.2.2.2.2.2.1.1 a0.2.2.1.2.2.2.2.2.2.1.2 a0.2.2.1.2.2.2.2.2.2.2.1 a0.2.2.1.2.2.2.2.2.2.2.2 a0.2.2.2.1 a0.2.2.2.2.1 a0.2.2.2.2.2 a0.1 0 false 0 0 0 0 false false 0 0 0 0 a0.2.2.2.1 a0.2.2.2.2.1 a0.2.2.2.2.2
          else
            bif (a0.1 == 6) then
              ref02_Plain_J1 N N a0.1 a0.2.1.1 a0.2.1.2 a0.2.2.1.1 a0.2.2.1.2.1 a0.2.2.1.2.2.1 a0.2.2.1.2.2.2.1 a0.2.2.1.2.2.2.2.1 a0.2.2.1.2.2.2.2.2.1 a0.2.2.1.2.2.2.2.2.2.1.1 a0.2.2.1.2.2.2.2.2.2.1.2 a0.2.2.1.2.2.2.2.2.2.2.1 a0.2.2.1.2.2.2.2.2.2.2.2 a0.2.2.2.1 a0.2.2.2.2.1 a0.2.2.2.2.2 a0.1 0 false 0 0 0 0 false false 0 0 0 0 a0.2.2.2.1 a0.2.2.2.2.1 a0.2.2.2.2.2
            else
              some false
theorem ref02_Plain_fn : FnOK Tryd.prog 28 77 (fun _ : Nat => false) ref02_Plain_C2.er [(.t 2)] := FnOK.mk' Tryd.func28 (by kernel_rfl) (by kernel_rfl) (by kernel_rfl) (by kernel_rfl) (by kernel_rfl)
theorem ref02_Plain_envok (N : Nat) : EnvOK Tryd.prog (ref02_Plain_E N) := .cons (pureE_ok (ref02_short_pure N)) (.nil)
theorem ref02_Plain_pure (N : Nat) : PureOK Tryd.prog 28 [G_Edit] [.bool] (fun x => ref02_Plain N x) := pureOK (N := N) mixed ref02_Plain_fn (ref02_Plain_envok N) (TC.noh_ok (by kernel_rfl)) rfl (fun x => by kernel_rfl)
def ref02_words_N1 : List NS := [.wk 1 (.list (.int .i64)), .keep [0, 1, 5], .cmp]
def ref02_words_C4 : TC := (.cond (.t 9) .skip (.exit 0))
def ref02_words_C8 : TC := (.rg [.m 10 5, .s 11 (.bin .add (.t 10) (.c (I 1))), .m 5 11] none)
def ref02_words_C5 : TC := (.seq (.block 1 (.rg [.m 12 0, .m 13 1, .m 14 5, .s 15 (.iadrS 1 (.t 13) (.t 14)), .s 16 (.load false 1 (.t 15)), .s 17 (.call (.c (.fn 43 [])) [(.t 16)]), .s 18 (.bin .add (.c (.v (.string ⟨⟨[32]⟩⟩))) (.t 17)), .s 19 (.bin .add (.t 12) (.t 18)), .m 0 19] none)) ref02_words_C8)
def ref02_words_C1 : TC := (.seq (.seq (.rg [.m 6 5, .m 7 1, .s 8 (.len (.t 7)), .s 9 (.bin .lss (.t 6) (.t 8))] none) ref02_words_C4) ref02_words_C5)
def ref02_words_C6 : TC := .ret
def ref02_words_C2 : TC := (.seq (.rg [.m 20 0, .m 4 20] none) ref02_words_C6)
def ref02_words_C9 : TC := (.block 0 (.loop ref02_words_N1 ref02_words_C1))
def ref02_words_C7 : TC := (.seq (.seq (.rg [.s 5 (.mov (.c (I 0)))] none) ref02_words_C9) ref02_words_C2)
def ref02_words_C3 : TC := (.seq (.rg [.s 4 (.mov (.c (.v (.string ⟨⟨[]⟩⟩))))] none) ref02_words_C7)
def ref02_words_E (N : Nat) : List (Nat × Ent) := [(43, pureE [(.int .i64)] [.str] (fun x => strconv_Itoa N x))]
def ref02_words_L1 (N : Nat) (n : Nat) (x1 : List UInt8) (x2 : List Int) (x3 : Int) : Option (List UInt8) := loopN (normI 0 ref02_words_N1) (run (ref02_words_E N) N 0 ref02_words_C1) n ⟨[(0, .str x1), (1, .lst false (.int .i64) x2), (5, .int .i64 x3)], []⟩ (blkK 0 (seqK (run (ref02_words_E N) N 0 ref02_words_C2) (fin [(.t 4)] [.str])))
theorem ref02_words_L1_succ (N : Nat) (n1 : Nat) (x1 : List UInt8) (x2 : List Int) (x3 : Int) : ref02_words_L1 N (n1 + 1) x1 x2 x3 =
  bif (decide (x3 < (x2.length : Int))) then
    bif inB x3 x2.length then
    Option.bind (strconv_Itoa N (x2.getD x3.toNat 0)) fun r4 =>
    bif decide (([32] : List UInt8).length + r4.length ≤ 9223372036854775807) then
    let v5 := ([32] : List UInt8) ++ r4
    bif decide (x1.length + v5.length ≤ 9223372036854775807) then
    ref02_words_L1 N n1 (x1 ++ v5) x2 (W (x3 + 1))
    else none
    else none
    else none
  else
    some x1 := by kernel_rfl
def ref02_words (N : Nat) (a0 : List UInt8) (a1 : List Int) : Option (List UInt8) :=
  ref02_words_L1 N N a0 a1 0
theorem ref02_words_fn : FnOK Tryd.prog 30 21 (fun _ : Nat => false) ref02_words_C3.er [(.t 4)] := FnOK.mk' Tryd.func30 (by kernel_rfl) (by kernel_rfl) (by kernel_rfl) (by kernel_rfl) (by kernel_rfl)
theorem ref02_words_envok (N : Nat) : EnvOK Tryd.prog (ref02_words_E N) := .cons (pureE_ok (strconv_Itoa_pure N)) (.nil)
theorem ref02_words_pure (N : Nat) : PureOK Tryd.prog 30 [.str, (.list (.int .i64))] [.str] (fun x => ref02_words N x.1 x.2) := pureOK (N := N) mixed ref02_words_fn (ref02_words_envok N) (TC.noh_ok (by kernel_rfl)) rfl (fun x => by kernel_rfl)
def ref02_line_C10 : TC := .ret
def ref02_line_C7 : TC := (.cond (.t 11) (.seq (.rg [.s 12 (.fadr 1 (.t 1)), .s 13 (.fadr 0 (.t 12)), .s 14 (.load false 1 (.t 13)), ⟨⟨some 15, (.bslice false 1 [(I 0)] 1 [(0, (.t 14))]), none⟩, ⟨(.int .i64), none, []⟩⟩, .s 16 (.call (.c (.fn 30 [])) [(.c (.v (.string ⟨⟨[112, 108, 97, 99, 101]⟩⟩))), (.t 15)]), .s 17 (.bin
  .add (.t 16) (.c (.v (.string ⟨⟨[32, 115, 117, 114, 102, 97, 99, 101, 10]⟩⟩)))), .m 2 17] none) ref02_line_C10) .skip)
def ref02_line_C11 : TC := .ret
def ref02_line_C8 : TC := (.seq (.rg [.s 18 (.fadr 1 (.t 1)), .s 19 (.fadr 0 (.t 18)), .s 20 (.load false 1 (.t 19)), ⟨⟨some 21, (.bslice false 1 [(I 0)] 1 [(0, (.t 20))]), none⟩, ⟨(.int .i64), none, []⟩⟩, .s 22 (.call (.c (.fn 30 [])) [(.c (.v (.string ⟨⟨[112, 108, 97, 99, 101]⟩⟩))), (.t 21)]), .s 23 (.bin .add (.t 22) (.c
  (.v (.string ⟨⟨[32, 98, 101, 108, 111, 119, 10]⟩⟩)))), .m 2 23] none) ref02_line_C11)
def ref02_line_C17 : TC := (.cond (.t 29) (.rg [.s 4 (.mov (.c (.v (.string ⟨⟨[32, 119, 97, 108, 107]⟩⟩))))] none) .skip)
def ref02_line_C21 : TC := .ret
def ref02_line_C18 : TC := (.seq (.rg [.s 30 (.fadr 0 (.t 3)), .s 31 (.load false 1 (.t 30)), .s 32 (.fadr 1 (.t 3)), .s 33 (.load false 1 (.t 32)), .s 34 (.fadr 2 (.t 3)), .s 35 (.load false 1 (.t 34)), .s 36 (.fadr 3 (.t 3)), .s 37 (.load false 1 (.t 36)), ⟨⟨some 38, (.bslice false 1 [(I 0)] 4 [(0, (.t 31)), (1, (.t 33)),
  (2, (.t 35)), (3, (.t 37))]), none⟩, ⟨(.int .i64), none, []⟩⟩, .s 39 (.call (.c (.fn 30 [])) [(.c (.v (.string ⟨⟨[114, 111, 97, 100]⟩⟩))), (.t 38)]), .m 40 4, .s 41 (.fadr 6 (.t 3)), .s 42 (.fadr 0 (.t 41)), .s 43 (.load false 1 (.t 42)), .s 44 (.fadr 6 (.t 3)), .s 45 (.fadr 1 (.t 44)), .s 46
  (.load false 1 (.t 45)), .s 47 (.fadr 8 (.t 3)), .s 48 (.fadr 0 (.t 47)), .s 49 (.load false 1 (.t 48)), .s 50 (.fadr 8 (.t 3)), .s 51 (.fadr 1 (.t 50)), .s 52 (.load false 1 (.t 51)), ⟨⟨some 53, (.bslice false 1 [(I 0)] 4 [(0, (.t 43)), (1, (.t 46)), (2, (.t 49)), (3, (.t 52))]), none⟩, ⟨(.int
  .i64), none, []⟩⟩, .s 54 (.call (.c (.fn 30 [])) [(.t 40), (.t 53)]), .s 55 (.bin .add (.t 39) (.t 54)), .s 56 (.bin .add (.t 55) (.c (.v (.string ⟨⟨[10]⟩⟩)))), .m 2 56] (some [(9, 11), (9, 12), (9, 13), (9, 14), (9, 15), (9, 16), (9, 17), (9, 18), (9, 19), (9, 20), (9, 21), (9, 22)]))
  ref02_line_C21)
def ref02_line_C14 : TC := (.seq (.seq (.rg [.s 28 (.fadr 4 (.t 3)), .s 29 (.load false 1 (.t 28))] none) ref02_line_C17) ref02_line_C18)
def ref02_line_C12 : TC := (.seq (.rg [.s 4 (.mov (.c (.v (.string ⟨⟨[32, 109, 97, 99, 104, 105, 110, 101]⟩⟩))))] none) ref02_line_C14)
def ref02_line_C15 : TC := .ret
def ref02_line_C19 : TC := .ret
def ref02_line_C22 : TC := .ret
def ref02_line_C20 : TC := (.cond (.t 71) (.seq (.rg [.s 73 (.fadr 13 (.t 1)), .s 74 (.load false 1 (.t 73)), .s 75 (.fadr 14 (.t 1)), .s 76 (.fadr 0 (.t 75)), .s 77 (.load false 1 (.t 76)), .s 78 (.fadr 14 (.t 1)), .s 79 (.fadr 1 (.t 78)), .s 80 (.load false 1 (.t 79)), ⟨⟨some 81, (.bslice false 1 [(I 0)] 3 [(0, (.t 74)), (1,
  (.t 77)), (2, (.t 80))]), none⟩, ⟨(.int .i64), none, []⟩⟩, .s 82 (.call (.c (.fn 30 [])) [(.c (.v (.string ⟨⟨[114, 101, 115, 116]⟩⟩))), (.t 81)]), .s 83 (.bin .add (.t 82) (.c (.v (.string ⟨⟨[10]⟩⟩)))), .m 2 83] none) ref02_line_C22) .skip)
def ref02_line_C16 : TC := (.cond (.t 64) (.seq (.rg [.s 66 (.fadr 13 (.t 1)), .s 67 (.load false 1 (.t 66)), ⟨⟨some 68, (.bslice false 1 [(I 0)] 1 [(0, (.t 67))]), none⟩, ⟨(.int .i64), none, []⟩⟩, .s 69 (.call (.c (.fn 30 [])) [(.c (.v (.string ⟨⟨[111, 112, 101, 110]⟩⟩))), (.t 68)]), .s 70 (.bin .add (.t 69) (.c (.v (.string
  ⟨⟨[10]⟩⟩)))), .m 2 70] none) ref02_line_C19) (.seq (.rg [.s 72 (.bin .eql (.t 6) (.c (I 5))), .m 71 72] none) ref02_line_C20))
def ref02_line_C13 : TC := (.cond (.t 57) (.seq (.rg [.s 59 (.fadr 13 (.t 1)), .s 60 (.load false 1 (.t 59)), ⟨⟨some 61, (.bslice false 1 [(I 0)] 1 [(0, (.t 60))]), none⟩, ⟨(.int .i64), none, []⟩⟩, .s 62 (.call (.c (.fn 30 [])) [(.c (.v (.string ⟨⟨[99, 108, 111, 115, 101]⟩⟩))), (.t 61)]), .s 63 (.bin .add (.t 62) (.c (.v
  (.string ⟨⟨[10]⟩⟩)))), .m 2 63] none) ref02_line_C15) (.seq (.rg [.s 65 (.bin .eql (.t 6) (.c (I 4))), .m 64 65] none) ref02_line_C16))
def ref02_line_C9 : TC := (.cond (.t 24) (.seq (.rg [.s 26 (.fadr 3 (.t 1)), .s 27 (.load true 10 (.t 26)), .s 3 (.alloc [(I 0), (I 0), (I 0), (I 0), (B false), (B false), (I 0), (I 0), (I 0), (I 0)]), .d (.store 10 (.t 3) (.t 27))] none) ref02_line_C12) (.seq (.rg [.s 58 (.bin .eql (.t 6) (.c (I 3))), .m 57 58] none)
  ref02_line_C13))
def ref02_line_C5 : TC := (.cond (.t 7) (.seq (.seq (.rg [.s 9 (.fadr 1 (.t 1)), .s 10 (.fadr 1 (.t 9)), .s 11 (.load false 1 (.t 10))] none) ref02_line_C7) ref02_line_C8) (.seq (.rg [.s 25 (.bin .eql (.t 6) (.c (I 2))), .m 24 25] none) ref02_line_C9))
def ref02_line_C3 : TC := (.block 0 (.seq (.rg [.s 8 (.bin .eql (.t 6) (.c (I 1))), .m 7 8] none) ref02_line_C5))
def ref02_line_C6 : TC := .ret
def ref02_line_C4 : TC := (.seq (.rg [.s 84 (.fadr 13 (.t 1)), .s 85 (.load false 1 (.t 84)), .s 86 (.fadr 14 (.t 1)), .s 87 (.fadr 0 (.t 86)), .s 88 (.load false 1 (.t 87)), .s 89 (.fadr 14 (.t 1)), .s 90 (.fadr 1 (.t 89)), .s 91 (.load false 1 (.t 90)), ⟨⟨some 92, (.bslice false 1 [(I 0)] 3 [(0, (.t 85)), (1, (.t 88)), (2,
  (.t 91))]), none⟩, ⟨(.int .i64), none, []⟩⟩, .s 93 (.call (.c (.fn 30 [])) [(.c (.v (.string ⟨⟨[108, 105, 102, 116]⟩⟩))), (.t 92)]), .s 94 (.bin .add (.t 93) (.c (.v (.string ⟨⟨[10]⟩⟩)))), .m 2 94] none) ref02_line_C6)
def ref02_line_C2 : TC := (.seq (.seq (.rg [.s 5 (.fadr 0 (.t 1)), .s 6 (.load false 1 (.t 5))] none) ref02_line_C3) ref02_line_C4)
def ref02_line_C1 : TC := (.seq (.rg [.s 1 (.box (.t 0)), .s 2 (.mov (.c (.v (.string ⟨⟨[]⟩⟩))))] none) ref02_line_C2)
def ref02_line_E (N : Nat) : List (Nat × Ent) := [(30, pureE [.str, (.list (.int .i64))] [.str] (fun x => ref02_words N x.1 x.2))]
def ref02_line (N : Nat) (a0 : T_Edit) : Option (List UInt8) :=
  bif (a0.1 == 1) then
    bif a0.2.1.2 then
      Option.bind (ref02_words N [112, 108, 97, 99, 101] [a0.2.1.1]) fun r1 =>
      bif decide (r1.length + ([32, 115, 117, 114, 102, 97, 99, 101, 10] : List UInt8).length ≤ 9223372036854775807) then
      some (r1 ++ ([32, 115, 117, 114, 102, 97, 99, 101, 10] : List UInt8))
      else none
    else
      Option.bind (ref02_words N [112, 108, 97, 99, 101] [a0.2.1.1]) fun r3 =>
      bif decide (r3.length + ([32, 98, 101, 108, 111, 119, 10] : List UInt8).length ≤ 9223372036854775807) then
      some (r3 ++ ([32, 98, 101, 108, 111, 119, 10] : List UInt8))
      else none
  else
    bif (a0.1 == 2) then
      bif a0.2.2.1.2.2.2.2.1 then
        Option.bind (ref02_words N [114, 111, 97, 100] [a0.2.2.1.1, a0.2.2.1.2.1, a0.2.2.1.2.2.1, a0.2.2.1.2.2.2.1]) fun r5 =>
        Option.bind (ref02_words N [32, 119, 97, 108, 107] [a0.2.2.1.2.2.2.2.2.2.1.1, a0.2.2.1.2.2.2.2.2.2.1.2, a0.2.2.1.2.2.2.2.2.2.2.1, a0.2.2.1.2.2.2.2.2.2.2.2]) fun r6 =>
        bif decide (r5.length + r6.length ≤ 9223372036854775807) then
        bif decide ((r5 ++ r6).length + ([10] : List UInt8).length ≤ 9223372036854775807) then
        some ((r5 ++ r6) ++ ([10] : List UInt8))
        else none
        else none
      else
        Option.bind (ref02_words N [114, 111, 97, 100] [a0.2.2.1.1, a0.2.2.1.2.1, a0.2.2.1.2.2.1, a0.2.2.1.2.2.2.1]) fun r9 =>
        Option.bind (ref02_words N [32, 109, 97, 99, 104, 105, 110, 101] [a0.2.2.1.2.2.2.2.2.2.1.1, a0.2.2.1.2.2.2.2.2.2.1.2, a0.2.2.1.2.2.2.2.2.2.2.1, a0.2.2.1.2.2.2.2.2.2.2.2]) fun r10 =>
        bif decide (r9.length + r10.length ≤ 9223372036854775807) then
        bif decide ((r9 ++ r10).length + ([10] : List UInt8).length ≤ 9223372036854775807) then
        some ((r9 ++ r10) ++ ([10] : List UInt8))
        else none
        else none
    else
      bif (a0.1 == 3) then
        Option.bind (ref02_words N [99, 108, 111, 115, 101] [a0.2.2.2.1]) fun r13 =>
        bif decide (r13.length + ([10] : List UInt8).length ≤ 9223372036854775807) then
        some (r13 ++ ([10] : List UInt8))
        else none
      else
        bif (a0.1 == 4) then
          Option.bind (ref02_words N [111, 112, 101, 110] [a0.2.2.2.1]) fun r15 =>
          bif decide (r15.length + ([10] : List UInt8).length ≤ 9223372036854775807) then
          some (r15 ++ ([10] : List UInt8))
          else none
        else
          bif (a0.1 == 5) then
            Option.bind (ref02_words N [114, 101, 115, 116] [a0.2.2.2.1, a0.2.2.2.2.1, a0.2.2.2.2.2]) fun r17 =>
            bif decide (r17.length + ([10] : List UInt8).length ≤ 9223372036854775807) then
            some (r17 ++ ([10] : List UInt8))
            else none
          else
            Option.bind (ref02_words N [108, 105, 102, 116] [a0.2.2.2.1, a0.2.2.2.2.1, a0.2.2.2.2.2]) fun r19 =>
            bif decide (r19.length + ([10] : List UInt8).length ≤ 9223372036854775807) then
            some (r19 ++ ([10] : List UInt8))
            else none
theorem ref02_line_fn : FnOK Tryd.prog 29 95 (fun _ : Nat => false) ref02_line_C1.er [(.t 2)] := FnOK.mk' Tryd.func29 (by kernel_rfl) (by kernel_rfl) (by kernel_rfl) (by kernel_rfl) (by kernel_rfl)
theorem ref02_line_envok (N : Nat) : EnvOK Tryd.prog (ref02_line_E N) := .cons (pureE_ok (ref02_words_pure N)) (.nil)
theorem ref02_line_pure (N : Nat) : PureOK Tryd.prog 29 [G_Edit] [.str] (fun x => ref02_line N x) := pureOK (N := N) mixed ref02_line_fn (ref02_line_envok N) (TC.noh_ok (by kernel_rfl)) rfl (fun x => by kernel_rfl)
def ref02_Print_N1 : List NS := [.wk 0 (.list G_Edit), .keep [0, 4, 5], .cmp]
def ref02_Print_C4 : TC := (.cond (.t 12) .skip (.exit 0))
def ref02_Print_C15 : TC := .ret
def ref02_Print_C8 : TC := (.cond (.t 20) (.seq (.rg [.s 2 (.mov (.c (.v (.string ⟨⟨[]⟩⟩)))), .s 3 (.mov (.c (I 6)))] none) ref02_Print_C15) .skip)
def ref02_Print_C9 : TC := (.rg [.m 21 4, .m 22 0, .m 23 5, .s 24 (.iadrS 16 (.t 22) (.t 23)), .s 25 (.load true 16 (.t 24)), .s 26 (.call (.c (.fn 29 [])) [(.t 25)]), .s 27 (.bin .add (.t 21) (.t 26)), .m 4 27] none)
def ref02_Print_C10 : TC := (.rg [.m 13 5, .s 14 (.bin .add (.t 13) (.c (I 1))), .m 5 14] none)
def ref02_Print_C5 : TC := (.seq (.block 1 (.seq (.seq (.rg [.m 15 0, .m 16 5, .s 17 (.iadrS 16 (.t 15) (.t 16)), .s 18 (.load true 16 (.t 17)), .s 19 (.call (.c (.fn 28 [])) [(.t 18)]), .s 20 (.un .not (.t 19))] none) ref02_Print_C8) ref02_Print_C9)) ref02_Print_C10)
def ref02_Print_C1 : TC := (.seq (.seq (.rg [.m 9 5, .m 10 0, .s 11 (.len (.t 10)), .s 12 (.bin .lss (.t 9) (.t 11))] none) ref02_Print_C4) ref02_Print_C5)
def ref02_Print_C16 : TC := .ret
def ref02_Print_C11 : TC := (.cond (.t 37) (.seq (.rg [.s 2 (.mov (.c (.v (.string ⟨⟨[]⟩⟩)))), .s 3 (.mov (.c (I 2)))] none) ref02_Print_C16) .skip)
def ref02_Print_C17 : TC := .ret
def ref02_Print_C12 : TC := (.seq (.rg [.m 38 4, .m 2 38, .s 3 (.mov (.c (I 0)))] none) ref02_Print_C17)
def ref02_Print_C6 : TC := (.seq (.seq (.rg [.m 35 4, .s 36 (.lens (.t 35)), .s 37 (.bin .gtr (.t 36) (.c (I 65536)))] none) ref02_Print_C11) ref02_Print_C12)
def ref02_Print_C2 : TC := (.seq (.rg [.m 28 4, .m 29 4, .s 30 (.call (.c (.fn 8 [])) [(.t 29)]), ⟨⟨some 31, (.bslice false 1 [(I 0)] 1 [(0, (.t 30))]), none⟩, ⟨(.int .i64), none, []⟩⟩, .s 32 (.call (.c (.fn 30 [])) [(.c (.v (.string ⟨⟨[115, 117, 109]⟩⟩))), (.t 31)]), .s 33 (.bin .add (.t 32) (.c (.v (.string ⟨⟨[10]⟩⟩)))), .s
  34 (.bin .add (.t 28) (.t 33)), .m 4 34] none) ref02_Print_C6)
def ref02_Print_C18 : TC := .ret
def ref02_Print_C13 : TC := (.cond (.t 8) (.seq (.rg [.s 2 (.mov (.c (.v (.string ⟨⟨[]⟩⟩)))), .s 3 (.mov (.c (I 2)))] none) ref02_Print_C18) .skip)
def ref02_Print_C20 : TC := (.block 0 (.loop ref02_Print_N1 ref02_Print_C1))
def ref02_Print_C19 : TC := (.seq (.seq (.rg [.s 5 (.mov (.c (I 0)))] none) ref02_Print_C20) ref02_Print_C2)
def ref02_Print_C14 : TC := (.seq (.rg [.s 4 (.mov (.c (.v (.string ⟨⟨[]⟩⟩))))] none) ref02_Print_C19)
def ref02_Print_C7 : TC := (.seq (.seq (.rg [.m 6 0, .s 7 (.len (.t 6)), .s 8 (.bin .gtr (.t 7) (.c (I 1000)))] none) ref02_Print_C13) ref02_Print_C14)
def ref02_Print_C3 : TC := (.seq (.rg [.s 2 (.mov (.c (.v (.string ⟨⟨[]⟩⟩)))), .s 3 (.mov (.c (I 0)))] none) ref02_Print_C7)
def ref02_Print_E (N : Nat) : List (Nat × Ent) := [(28, pureE [G_Edit] [.bool] (fun x => ref02_Plain N x)), (29, pureE [G_Edit] [.str] (fun x => ref02_line N x)), (8, pureE [.str] [(.int .i64)] (fun x => ref02_Sum N x)), (30, pureE [.str, (.list (.int .i64))] [.str] (fun x => ref02_words N x.1 x.2))]
def ref02_Print_L1 (N : Nat) (n : Nat) (x1 : List T_Edit) (x2 : List UInt8) (x3 : Int) : Option ((List UInt8) × Int) := loopN (normI 0 ref02_Print_N1) (run (ref02_Print_E N) N 0 ref02_Print_C1) n ⟨[(0, .lst false G_Edit x1), (4, .str x2), (5, .int .i64 x3)], []⟩ (blkK 0 (seqK (run (ref02_Print_E N) N 0 ref02_Print_C2) (fin [(.t 2), (.t 3)] [.str, (.int .i64)])))
theorem ref02_Print_L1_succ (N : Nat) (n1 : Nat) (x1 : List T_Edit) (x2 : List UInt8) (x3 : Int) : ref02_Print_L1 N (n1 + 1) x1 x2 x3 =
  bif (decide (x3 < (x1.length : Int))) then
    bif inB x3 x1.length then
    Option.bind (ref02_Plain N (x1.getD x3.toNat D_Edit)) fun r5 =>
    bif (!r5) then
      some ([], 6)
    else
      bif inB x3 x1.length then
      Option.bind (ref02_line N (x1.getD x3.toNat D_Edit)) fun r7 =>
      bif decide (x2.length + r7.length ≤ 9223372036854775807) then
      ref02_Print_L1 N n1 x1 (x2 ++ r7) (W (x3 + 1))
      else none
      else none
    else none
  else
    Option.bind (ref02_Sum N x2) fun r12 =>
    Option.bind (ref02_words N [115, 117, 109] [r12]) fun r13 =>
    bif decide (r13.length + ([10] : List UInt8).length ≤ 9223372036854775807) then
    let v14 := r13 ++ ([10] : List UInt8)
    bif decide (x2.length + v14.length ≤ 9223372036854775807) then
    bif (decide (((x2 ++ v14).length : Int) > 65536)) then
      some ([], 2)
    else
      some ((x2 ++ v14), 0)
    else none
    else none := by kernel_rfl
def ref02_Print (N : Nat) (a0 : List T_Edit) : Option ((List UInt8) × Int) :=
  bif (decide ((a0.length : Int) > 1000)) then
    some ([], 2)
  else
    ref02_Print_L1 N N a0 [] 0
theorem ref02_Print_fn : FnOK Tryd.prog 13 39 (fun _ : Nat => false) ref02_Print_C3.er [(.t 2), (.t 3)] := FnOK.mk' Tryd.func13 (by kernel_rfl) (by kernel_rfl) (by kernel_rfl) (by kernel_rfl) (by kernel_rfl)
theorem ref02_Print_envok (N : Nat) : EnvOK Tryd.prog (ref02_Print_E N) := .cons (pureE_ok (ref02_Plain_pure N)) (.cons (pureE_ok (ref02_line_pure N)) (.cons (pureE_ok (ref02_Sum_pure N)) (.cons (pureE_ok (ref02_words_pure N)) (.nil))))
theorem ref02_Print_pure (N : Nat) : PureOK Tryd.prog 13 [(.list G_Edit)] [.str, (.int .i64)] (fun x => ref02_Print N x) := pureOK (N := N) mixed ref02_Print_fn (ref02_Print_envok N) (TC.noh_ok (by kernel_rfl)) rfl (fun x => by kernel_rfl)
def plan_clone_NE : List NS := [.ownc 2 0 G_Place, .ownc 2 1 G_Road, .keep [2], .out []]
def plan_clone_C4 : TC := .ret
def plan_clone_C3 : TC := (.pre [.ownc 2 0 G_Place, .ownc 2 1 G_Road, .keep [2], .out []] plan_clone_C4)
def plan_clone_C2 : TC := (.seq (.pre [.ghost G_Place, .ghost G_Road] (.rg [.s 3 (.fadr 0 (.t 1)), .s 4 (.load false 1 (.t 3)), ⟨⟨some 5, (.app 2 16 (.c (.lst true [])) (.t 4)), none⟩, ⟨.unit, some 2, []⟩⟩, .s 6 (.fadr 1 (.t 1)), .s 7 (.load false 1 (.t 6)), ⟨⟨some 8, (.app 10 72 (.c (.lst true [])) (.t 7)), none⟩, ⟨.unit,
  some 3, []⟩⟩, .s 9 (.build [(.lst true []), (.lst true [])] [(0, (1, (.t 5))), (1, (1, (.t 8)))]), .d (.store 2 (.t 2) (.t 9))] (some [(2, 3), (2, 4)]))) plan_clone_C3)
def plan_clone_C1 : TC := (.seq (.rg [.s 1 (.box (.t 0)), .s 2 (.alloc [(.lst true []), (.lst true [])])] none) plan_clone_C2)
def plan_clone_E (N : Nat) : List (Nat × Ent) := []
def plan_clone (N : Nat) (a0 : T_Mine) : Option (T_Mine × Unit) :=
  bif fitsB a0.1.length 16 then
  bif fitsB a0.2.length 72 then
  some (a0, ())
  else none
  else none
theorem plan_clone_fn : FnOK Tryd.prog 48 10 (fun _ : Nat => false) plan_clone_C1.er [(.cell 2 true 2)] := FnOK.mk' Tryd.func48 (by kernel_rfl) (by kernel_rfl) (by kernel_rfl) (by kernel_rfl) (by kernel_rfl)
theorem plan_clone_envok (N : Nat) : EnvOK Tryd.prog (plan_clone_E N) := .nil
theorem plan_clone_sf (N : Nat) : SFOK Tryd.prog 48 [none] [.v G_Mine] [.o (.p (.a G_Place) (.a G_Road))] (fun x => plan_clone N x) := sfOK (N := N) (p := 0) (q := 0) (ns := plan_clone_NE) mixed plan_clone_fn (plan_clone_envok N) (TC.noh_ok (by kernel_rfl)) rfl rfl rfl (fun x => by kernel_rfl)
def plan_spanIn_C3 : TC := .ret
def plan_spanIn_C2 : TC := (.seq (.rg [.m 7 1, .s 8 (.fadr 0 (.t 3)), .s 9 (.load false 1 (.t 8)), .s 10 (.bin .leq (.t 7) (.t 9)), .m 11 10, ⟨⟨some 12, (.fadr 0 (.t 3)), some (11, true)⟩, {}⟩, ⟨⟨some 13, (.load false 1 (.t 12)), some (11, true)⟩, {}⟩, ⟨⟨some 14, (.fadr 1 (.t 3)), some (11, true)⟩, {}⟩, ⟨⟨some 15, (.load false
  1 (.t 14)), some (11, true)⟩, {}⟩, ⟨⟨some 16, (.bin .leq (.t 13) (.t 15)), some (11, true)⟩, {}⟩, .s 17 (.pick (.t 11) (.t 16) (.c (B false))), .m 18 17, ⟨⟨some 19, (.fadr 1 (.t 3)), some (18, true)⟩, {}⟩, ⟨⟨some 20, (.load false 1 (.t 19)), some (18, true)⟩, {}⟩, ⟨⟨some 21, (.mov (.t 2)), some
  (18, true)⟩, {}⟩, ⟨⟨some 22, (.bin .leq (.t 20) (.t 21)), some (18, true)⟩, {}⟩, .s 23 (.pick (.t 18) (.t 22) (.c (B false))), .m 6 23] none) plan_spanIn_C3)
def plan_spanIn_C1 : TC := (.seq (.rg [.s 3 (.box (.t 0)), .s 6 (.mov (.c (B false)))] none) plan_spanIn_C2)
def plan_spanIn_E (N : Nat) : List (Nat × Ent) := []
def plan_spanIn (N : Nat) (a0 : T_Span) (a1 : Int) (a2 : Int) : Option Bool :=
  bif (decide (a1 ≤ a0.1)) then
    bif (decide (a0.1 ≤ a0.2)) then
      some (decide (a0.2 ≤ a2))
    else
      some false
  else
    some false
theorem plan_spanIn_fn : FnOK Tryd.prog 75 24 (fun _ : Nat => false) plan_spanIn_C1.er [(.t 6)] := FnOK.mk' Tryd.func75 (by kernel_rfl) (by kernel_rfl) (by kernel_rfl) (by kernel_rfl) (by kernel_rfl)
theorem plan_spanIn_envok (N : Nat) : EnvOK Tryd.prog (plan_spanIn_E N) := .nil
theorem plan_spanIn_pure (N : Nat) : PureOK Tryd.prog 75 [G_Span, (.int .i64), (.int .i64)] [.bool] (fun x => plan_spanIn N x.1 x.2.1 x.2.2) := pureOK (N := N) mixed plan_spanIn_fn (plan_spanIn_envok N) (TC.noh_ok (by kernel_rfl)) rfl (fun x => by kernel_rfl)
def plan_Check_N1 : List NS := [.wk 19 (.list G_Place), .keep [1, 19, 20, 21], .cmp]
def plan_Check_N2 : List NS := [.wk 38 (.list G_Road), .keep [5, 38, 39, 40], .cmp]
def plan_Check_C17 : TC := .ret
def plan_Check_C9 : TC := (.cond (.t 88) (.seq (.rg [.s 2 (.mov (.c (I 1)))] none) plan_Check_C17) .skip)
def plan_Check_C24 : TC := .ret
def plan_Check_C18 : TC := (.cond (.t 98) (.seq (.rg [.s 2 (.mov (.c (I 1)))] none) plan_Check_C24) .skip)
def plan_Check_C10 : TC := (.seq (.rg [.s 89 (.fadr 6 (.t 7)), .s 90 (.load true 2 (.t 89)), .s 91 (.call (.c (.fn 75 [])) [(.t 90), (.c (I 1)), (.c (I 262144))]), .s 92 (.un .not (.t 91)), .m 93 92, ⟨⟨some 94, (.fadr 8 (.t 7)), some (93, false)⟩, {}⟩, ⟨⟨some 95, (.load true 2 (.t 94)), some (93, false)⟩, {}⟩, ⟨⟨some 96,
  (.call (.c (.fn 75 [])) [(.t 95), (.c (I (-2199023255552))), (.c (I 2199023255552))]), some (93, false)⟩, {}⟩, ⟨⟨some 97, (.un .not (.t 96)), some (93, false)⟩, {}⟩, .s 98 (.pick (.t 93) (.c (B true)) (.t 97))] none) plan_Check_C18)
def plan_Check_C1 : TC := (.seq (.seq (.rg [.s 71 (.fadr 2 (.t 7)), .s 72 (.load false 1 (.t 71)), .s 73 (.bin .lss (.t 72) (.c (I 1))), .m 74 73, ⟨⟨some 75, (.fadr 2 (.t 7)), some (74, false)⟩, {}⟩, ⟨⟨some 76, (.load false 1 (.t 75)), some (74, false)⟩, {}⟩, ⟨⟨some 77, (.bin .gtr (.t 76) (.c (I 100000))), some (74, false)⟩,
  {}⟩, .s 78 (.pick (.t 74) (.c (B true)) (.t 77)), .m 79 78, ⟨⟨some 80, (.fadr 3 (.t 7)), some (79, false)⟩, {}⟩, ⟨⟨some 81, (.load false 1 (.t 80)), some (79, false)⟩, {}⟩, ⟨⟨some 82, (.bin .lss (.t 81) (.c (I 1))), some (79, false)⟩, {}⟩, .s 83 (.pick (.t 79) (.c (B true)) (.t 82)), .m 84 83,
  ⟨⟨some 85, (.fadr 3 (.t 7)), some (84, false)⟩, {}⟩, ⟨⟨some 86, (.load false 1 (.t 85)), some (84, false)⟩, {}⟩, ⟨⟨some 87, (.bin .gtr (.t 86) (.c (I 1000))), some (84, false)⟩, {}⟩, .s 88 (.pick (.t 84) (.c (B true)) (.t 87))] none) plan_Check_C9) plan_Check_C10)
def plan_Check_C2 : TC := (.rg [.s 99 (.bin .add (.t 40) (.c (I 1))), .m 40 99] none)
def plan_Check_C32 : TC := .ret
def plan_Check_C29 : TC := (.cond (.t 70) (.seq (.rg [.s 2 (.mov (.c (I 4)))] none) plan_Check_C32) .skip)
def plan_Check_C30 : TC := (.join [.wk 38 (.list G_Road), .keep [5, 7, 38, 39, 40], .cmp] plan_Check_C1)
def plan_Check_C25 : TC := (.seq (.seq (.rg [.s 44 (.fadr 0 (.t 7)), .s 45 (.load false 1 (.t 44)), .s 46 (.bin .lss (.t 45) (.c (I 0))), .m 47 46, ⟨⟨some 48, (.fadr 0 (.t 7)), some (47, false)⟩, {}⟩, ⟨⟨some 49, (.load false 1 (.t 48)), some (47, false)⟩, {}⟩, ⟨⟨some 50, (.mov (.t 5)), some (47, false)⟩, {}⟩, ⟨⟨some 51, (.bin
  .geq (.t 49) (.t 50)), some (47, false)⟩, {}⟩, .s 52 (.pick (.t 47) (.c (B true)) (.t 51)), .m 53 52, ⟨⟨some 54, (.fadr 1 (.t 7)), some (53, false)⟩, {}⟩, ⟨⟨some 55, (.load false 1 (.t 54)), some (53, false)⟩, {}⟩, ⟨⟨some 56, (.bin .lss (.t 55) (.c (I 0))), some (53, false)⟩, {}⟩, .s 57 (.pick (.t
  53) (.c (B true)) (.t 56)), .m 58 57, ⟨⟨some 59, (.fadr 1 (.t 7)), some (58, false)⟩, {}⟩, ⟨⟨some 60, (.load false 1 (.t 59)), some (58, false)⟩, {}⟩, ⟨⟨some 61, (.mov (.t 5)), some (58, false)⟩, {}⟩, ⟨⟨some 62, (.bin .geq (.t 60) (.t 61)), some (58, false)⟩, {}⟩, .s 63 (.pick (.t 58) (.c (B true))
  (.t 62)), .m 64 63, ⟨⟨some 65, (.fadr 0 (.t 7)), some (64, false)⟩, {}⟩, ⟨⟨some 66, (.load false 1 (.t 65)), some (64, false)⟩, {}⟩, ⟨⟨some 67, (.fadr 1 (.t 7)), some (64, false)⟩, {}⟩, ⟨⟨some 68, (.load false 1 (.t 67)), some (64, false)⟩, {}⟩, ⟨⟨some 69, (.bin .eql (.t 66) (.t 68)), some (64,
  false)⟩, {}⟩, .s 70 (.pick (.t 64) (.c (B true)) (.t 69))] none) plan_Check_C29) plan_Check_C30)
def plan_Check_C19 : TC := (.seq (.block 3 (.seq (.rg [.s 42 (.iadrS 10 (.t 38) (.t 40)), .s 43 (.load true 10 (.t 42)), .s 7 (.alloc [(I 0), (I 0), (I 0), (I 0), (B false), (B false), (I 0), (I 0), (I 0), (I 0)]), .d (.store 10 (.t 7) (.t 43))] none) plan_Check_C25)) plan_Check_C2)
def plan_Check_C11 : TC := (.seq (.cond (.t 41) .skip (.exit 2)) plan_Check_C19)
def plan_Check_C3 : TC := (.seq (.rg [.s 41 (.bin .lss (.t 40) (.t 39))] none) plan_Check_C11)
def plan_Check_C12 : TC := .ret
def plan_Check_C4 : TC := (.seq (.rg [.s 2 (.mov (.c (I 0)))] none) plan_Check_C12)
def plan_Check_C33 : TC := .ret
def plan_Check_C31 : TC := (.cond (.t 32) (.seq (.rg [.s 2 (.mov (.c (I 1)))] none) plan_Check_C33) .skip)
def plan_Check_C26 : TC := (.seq (.rg [.s 25 (.fadr 0 (.t 4)), .s 26 (.load false 1 (.t 25)), .s 27 (.bin .lss (.t 26) (.c (I (-10000)))), .m 28 27, ⟨⟨some 29, (.fadr 0 (.t 4)), some (28, false)⟩, {}⟩, ⟨⟨some 30, (.load false 1 (.t 29)), some (28, false)⟩, {}⟩, ⟨⟨some 31, (.bin .gtr (.t 30) (.c (I 10000))), some (28, false)⟩,
  {}⟩, .s 32 (.pick (.t 28) (.c (B true)) (.t 31))] none) plan_Check_C31)
def plan_Check_C27 : TC := (.rg [.s 33 (.bin .add (.t 21) (.c (I 1))), .m 21 33] none)
def plan_Check_C20 : TC := (.seq (.block 1 (.seq (.rg [.s 23 (.iadrS 2 (.t 19) (.t 21)), .s 24 (.load true 2 (.t 23)), .s 4 (.alloc [(I 0), (B false)]), .d (.store 2 (.t 4) (.t 24))] none) plan_Check_C26)) plan_Check_C27)
def plan_Check_C13 : TC := (.seq (.cond (.t 22) .skip (.exit 0)) plan_Check_C20)
def plan_Check_C5 : TC := (.seq (.rg [.s 22 (.bin .lss (.t 21) (.t 20))] none) plan_Check_C13)
def plan_Check_C21 : TC := (.block 2 (.loop plan_Check_N2 plan_Check_C3))
def plan_Check_C14 : TC := (.seq (.seq (.rg [.s 37 (.fadr 1 (.t 1)), .s 38 (.load false 1 (.t 37)), .s 39 (.len (.t 38)), .s 40 (.mov (.c (I 0)))] none) plan_Check_C21) plan_Check_C4)
def plan_Check_C6 : TC := (.seq (.rg [.s 34 (.fadr 0 (.t 1)), .s 35 (.load false 1 (.t 34)), .s 36 (.len (.t 35)), .m 5 36] none) plan_Check_C14)
def plan_Check_C15 : TC := (.block 0 (.loop plan_Check_N1 plan_Check_C5))
def plan_Check_C7 : TC := (.seq (.seq (.rg [.s 18 (.fadr 0 (.t 1)), .s 19 (.load false 1 (.t 18)), .s 20 (.len (.t 19)), .s 21 (.mov (.c (I 0)))] none) plan_Check_C15) plan_Check_C6)
def plan_Check_C28 : TC := .ret
def plan_Check_C22 : TC := (.cond (.t 17) (.seq (.rg [.s 2 (.mov (.c (I 2)))] none) plan_Check_C28) .skip)
def plan_Check_C23 : TC := (.join [.keep [1], .cmp] plan_Check_C7)
def plan_Check_C16 : TC := (.seq (.seq (.rg [.s 8 (.fadr 0 (.t 1)), .s 9 (.load false 1 (.t 8)), .s 10 (.len (.t 9)), .s 11 (.bin .gtr (.t 10) (.c (I 64))), .m 12 11, ⟨⟨some 13, (.fadr 1 (.t 1)), some (12, false)⟩, {}⟩, ⟨⟨some 14, (.load false 1 (.t 13)), some (12, false)⟩, {}⟩, ⟨⟨some 15, (.len (.t 14)), some (12, false)⟩,
  {}⟩, ⟨⟨some 16, (.bin .gtr (.t 15) (.c (I 128))), some (12, false)⟩, {}⟩, .s 17 (.pick (.t 12) (.c (B true)) (.t 16))] none) plan_Check_C22) plan_Check_C23)
def plan_Check_C8 : TC := (.seq (.rg [.s 1 (.box (.t 0)), .s 2 (.mov (.c (I 0)))] none) plan_Check_C16)
def plan_Check_E (N : Nat) : List (Nat × Ent) := [(75, pureE [G_Span, (.int .i64), (.int .i64)] [.bool] (fun x => plan_spanIn N x.1 x.2.1 x.2.2))]
def plan_Check_J2 (N : Nat) (JM n2 : Nat) (x19 : Int) (x20 : List T_Road) (x21 x22 x23 x24 x25 x26 : Int) (x27 x28 : Bool) (x29 x30 x31 x32 : Int) : Option Int := joinN (run (plan_Check_E N) N 0 plan_Check_C1) JM ⟨[(5, .int .i64 x19), (7, .ptr 0 0 0), (38, .lst false G_Road x20), (39, .int .i64 x21), (40, .int .i64 x22)], [some (.box 0 [.int .i64 x23, .int .i64 x24, .int .i64 x25, .int .i64 x26, .bool x27, .bool x28, .int .i64 x29, .int .i64 x30, .int .i64 x31, .int .i64 x32])]⟩ (blkK 3 (seqK (run (plan_Check_E N) N 0 plan_Check_C2) (seqK (nextL (normI 0 plan_Check_N2) (loopN (normI 0 plan_Check_N2) (run (plan_Check_E N) N 0 plan_Check_C3) n2)) (blkK 2 (seqK (run (plan_Check_E N) N 0 plan_Check_C4) (fin [(.t 2)] [(.int .i64)]))))))
def plan_Check_L2 (N : Nat) (n : Nat) (x14 : Int) (x15 : List T_Road) (x16 x17 : Int) : Option Int := loopN (normI 0 plan_Check_N2) (run (plan_Check_E N) N 0 plan_Check_C3) n ⟨[(5, .int .i64 x14), (38, .lst false G_Road x15), (39, .int .i64 x16), (40, .int .i64 x17)], []⟩ (blkK 2 (seqK (run (plan_Check_E N) N 0 plan_Check_C4) (fin [(.t 2)] [(.int .i64)])))
def plan_Check_L1 (N : Nat) (n : Nat) (x3 : List T_Place) (x4 x5 : Int) (x6 : List T_Place) (x7 : List T_Road) : Option Int := loopN (normI 0 plan_Check_N1) (run (plan_Check_E N) N 0 plan_Check_C5) n ⟨[(1, .ptr 0 0 0), (19, .lst false G_Place x3), (20, .int .i64 x4), (21, .int .i64 x5)], [some (.box 0 [.lst false G_Place x6, .lst false G_Road x7])]⟩ (blkK 0 (seqK (run (plan_Check_E N) N 0 plan_Check_C6) (fin [(.t 2)] [(.int .i64)])))
def plan_Check_J1 (N : Nat) (JM : Nat) (x1 : List T_Place) (x2 : List T_Road) : Option Int := joinN (run (plan_Check_E N) N 0 plan_Check_C7) JM ⟨[(1, .ptr 0 0 0)], [some (.box 0 [.lst false G_Place x1, .lst false G_Road x2])]⟩ (fin [(.t 2)] [(.int .i64)])
theorem plan_Check_J2_eq (N : Nat) (JM n2 : Nat) (x19 : Int) (x20 : List T_Road) (x21 x22 x23 x24 x25 x26 : Int) (x27 x28 : Bool) (x29 x30 x31 x32 : Int) : plan_Check_J2 N (JM + 1) n2 x19 x20 x21 x22 x23 x24 x25 x26 x27 x28 x29 x30 x31 x32 =
  bif (decide (x25 < 1)) then
    some 1
  else
    bif (decide (x25 > 100000)) then
      some 1
    else
      bif (decide (x26 < 1)) then
        some 1
      else
        bif (decide (x26 > 1000)) then
          some 1
        else
          Option.bind (plan_spanIn N (x29, x30) 1 262144) fun r33 =>
          bif (!r33) then
            some 1
          else
            Option.bind (plan_spanIn N (x31, x32) (-2199023255552) 2199023255552) fun r34 =>
            bif (!r34) then
              some 1
            else
              plan_Check_L2 N n2 x19 x20 x21 (W (x22 + 1)) := by kernel_rfl
theorem plan_Check_L2_succ (N : Nat) (n2 : Nat) (x14 : Int) (x15 : List T_Road) (x16 x17 : Int) : plan_Check_L2 N (n2 + 1) x14 x15 x16 x17 =
  bif (decide (x17 < x16)) then
    bif inB x17 x15.length then
    let v18 := x15.getD x17.toNat D_Road
    bif (decide (v18.1 < 0)) then
      some 4
    else
      bif (decide (v18.1 ≥ x14)) then
        some 4
      else
        bif (decide (v18.2.1 < 0)) then
          some 4
        else
          bif (decide (v18.2.1 ≥ x14)) then
            some 4
          else
            bif (v18.1 == v18.2.1) then
              some 4
            else
              plan_Check_J2 N N n2 x14 x15 x16 x17 v18.1 v18.2.1 v18.2.2.1 v18.2.2.2.1 v18.2.2.2.2.1 v18.2.2.2.2.2.1 v18.2.2.2.2.2.2.1.1 v18.2.2.2.2.2.2.1.2 v18.2.2.2.2.2.2.2.1 v18.2.2.2.2.2.2.2.2
    else none
  else
    some 0 := by kernel_rfl
theorem plan_Check_L1_succ (N : Nat) (n1 : Nat) (x3 : List T_Place) (x4 x5 : Int) (x6 : List T_Place) (x7 : List T_Road) : plan_Check_L1 N (n1 + 1) x3 x4 x5 x6 x7 =
  bif (decide (x5 < x4)) then
    bif inB x5 x3.length then
    bif (decide ((x3.getD x5.toNat D_Place).1 < (-10000))) then
      some 1
    else
      bif (decide ((x3.getD x5.toNat D_Place).1 > 10000)) then
        some 1
      else
        plan_Check_L1 N n1 x3 x4 (W (x5 + 1)) x6 x7
    else none
  else
    plan_Check_L2 N N (x6.length : Int) x7 (x7.length : Int) 0 := by kernel_rfl
theorem plan_Check_J1_eq (N : Nat) (JM : Nat) (x1 : List T_Place) (x2 : List T_Road) : plan_Check_J1 N (JM + 1) x1 x2 =
  plan_Check_L1 N N x1 (x1.length : Int) 0 x1 x2 := by kernel_rfl
def plan_Check (N : Nat) (a0 : T_Mine) : Option Int :=
  bif (decide ((a0.1.length : Int) > 64)) then
    some 2
  else
    bif (decide ((a0.2.length : Int) > 128)) then
      some 2
    else
      plan_Check_J1 N N a0.1 a0.2
theorem plan_Check_fn : FnOK Tryd.prog 61 100 (fun _ : Nat => false) plan_Check_C8.er [(.t 2)] := FnOK.mk' Tryd.func61 (by kernel_rfl) (by kernel_rfl) (by kernel_rfl) (by kernel_rfl) (by kernel_rfl)
theorem plan_Check_envok (N : Nat) : EnvOK Tryd.prog (plan_Check_E N) := .cons (pureE_ok (plan_spanIn_pure N)) (.nil)
theorem plan_Check_pure (N : Nat) : PureOK Tryd.prog 61 [G_Mine] [(.int .i64)] (fun x => plan_Check N x) := pureOK (N := N) mixed plan_Check_fn (plan_Check_envok N) (TC.noh_ok (by kernel_rfl)) rfl (fun x => by kernel_rfl)
def plan_Apply_C17 : TC := .ret
def plan_Apply_C10 : TC := (.pre [.frzb 4] plan_Apply_C17)
def plan_Apply_C4 : TC := (.cond (.t 54) (.seq (.rg [.s 55 (.build [(.lst true []), (.lst true [])] []), .d (.store 2 (.t 4) (.t 55)), .s 5 (.mov (.c (I 4)))] none) plan_Apply_C10) .skip)
def plan_Apply_C36 : TC := .ret
def plan_Apply_C33 : TC := (.pre [.frzb 4] plan_Apply_C36)
def plan_Apply_C30 : TC := (.cond (.t 70) (.seq (.rg [.s 71 (.build [(.lst true []), (.lst true [])] []), .d (.store 2 (.t 4) (.t 71)), .s 5 (.mov (.c (I 10)))] none) plan_Apply_C33) .skip)
def plan_Apply_C31 : TC := (.rg [.m 72 8, .s 73 (.fadr 0 (.t 3)), .s 74 (.load false 1 (.t 73)), .s 75 (.bin .eql (.t 74) (.c (I 3))), .s 76 (.nilck (.t 72)), .s 77 (.fadr 5 (.t 76)), .d (.store 1 (.t 77) (.t 75))] none)
def plan_Apply_C27 : TC := (.cond (.t 85) (.rg [.m 87 8, .s 88 (.fadr 14 (.t 3)), .s 89 (.load true 2 (.t 88)), .s 90 (.nilck (.t 87)), .s 91 (.fadr 8 (.t 90)), .d (.store 2 (.t 91) (.t 89))] none) (.seq (.seq (.rg [.m 63 8, .s 64 (.nilck (.t 63)), .s 65 (.fadr 5 (.t 64)), .s 66 (.load false 1 (.t 65)), .s 67 (.fadr 0 (.t 3)),
  .s 68 (.load false 1 (.t 67)), .s 69 (.bin .eql (.t 68) (.c (I 3))), .s 70 (.beq false (.t 66) (.t 69))] (some [])) plan_Apply_C30) plan_Apply_C31))
def plan_Apply_C23 : TC := (.cond (.t 78) (.rg [.m 80 8, .s 81 (.fadr 14 (.t 3)), .s 82 (.load true 2 (.t 81)), .s 83 (.nilck (.t 80)), .s 84 (.fadr 6 (.t 83)), .d (.store 2 (.t 84) (.t 82))] none) (.seq (.rg [.s 86 (.bin .eql (.t 62) (.c (I 6))), .m 85 86] none) plan_Apply_C27))
def plan_Apply_C18 : TC := (.block 1 (.seq (.rg [.s 79 (.bin .eql (.t 62) (.c (I 5))), .m 78 79] none) plan_Apply_C23))
def plan_Apply_C11 : TC := (.seq (.rg [.s 61 (.fadr 0 (.t 3)), .s 62 (.load false 1 (.t 61))] none) plan_Apply_C18)
def plan_Apply_C5 : TC := (.seq (.rg [.s 56 (.fadr 1 (.t 7)), .s 57 (.load false 1 (.t 56)), .s 58 (.fadr 13 (.t 3)), .s 59 (.load false 1 (.t 58)), .s 60 (.iadrS 10 (.t 57) (.t 59)), .m 8 60] none) plan_Apply_C11)
def plan_Apply_C12 : TC := .ret
def plan_Apply_C6 : TC := (.pre [.frzb 4] plan_Apply_C12)
def plan_Apply_C1 : TC := (.cond (.t 39) (.seq (.seq (.rg [.s 44 (.fadr 13 (.t 3)), .s 45 (.load false 1 (.t 44)), .s 46 (.bin .lss (.t 45) (.c (I 0))), .m 47 46, ⟨⟨some 48, (.fadr 13 (.t 3)), some (47, false)⟩, {}⟩, ⟨⟨some 49, (.load false 1 (.t 48)), some (47, false)⟩, {}⟩, ⟨⟨some 50, (.fadr 1 (.t 7)), some (47, false)⟩,
  {}⟩, ⟨⟨some 51, (.load false 1 (.t 50)), some (47, false)⟩, {}⟩, ⟨⟨some 52, (.len (.t 51)), some (47, false)⟩, {}⟩, ⟨⟨some 53, (.bin .geq (.t 49) (.t 52)), some (47, false)⟩, {}⟩, .s 54 (.pick (.t 47) (.c (B true)) (.t 53))] none) plan_Apply_C4) plan_Apply_C5) (.seq (.rg [.s 20 (.build [(.lst true
  []), (.lst true [])] []), .d (.store 2 (.t 4) (.t 20)), .s 5 (.mov (.c (I 5)))] none) plan_Apply_C6))
def plan_Apply_C24 : TC := .ret
def plan_Apply_C19 : TC := (.pre [.frzb 4] plan_Apply_C24)
def plan_Apply_C13 : TC := (.cond (.t 95) (.seq (.rg [.s 96 (.build [(.lst true []), (.lst true [])] []), .m 97 9, .d (.store 2 (.t 4) (.t 96)), .m 5 97] none) plan_Apply_C19) .skip)
def plan_Apply_C7 : TC := (.seq (.rg [.m 94 9, .s 95 (.bin .neq (.t 94) (.c (I 0)))] none) plan_Apply_C13)
def plan_Apply_C20 : TC := .ret
def plan_Apply_C14 : TC := (.pre [.frzb 4] plan_Apply_C20)
def plan_Apply_C8 : TC := (.seq (.rg [.s 98 (.load true 2 (.t 7)), .d (.store 2 (.t 4) (.t 98)), .s 5 (.mov (.c (I 0)))] none) plan_Apply_C14)
def plan_Apply_C2 : TC := (.seq (.seq (.rg [.s 92 (.load true 2 (.t 7)), .s 93 (.call (.c (.fn 61 [])) [(.t 92)]), .m 9 93] none) plan_Apply_C7) plan_Apply_C8)
def plan_Apply_C28 : TC := .ret
def plan_Apply_C25 : TC := (.pre [.frzb 4] plan_Apply_C28)
def plan_Apply_C21 : TC := (.cond (.t 13) (.seq (.rg [.s 14 (.build [(.lst true []), (.lst true [])] []), .m 15 6, .d (.store 2 (.t 4) (.t 14)), .m 5 15] none) plan_Apply_C25) .skip)
def plan_Apply_C15 : TC := (.seq (.rg [.m 12 6, .s 13 (.bin .neq (.t 12) (.c (I 0)))] none) plan_Apply_C21)
def plan_Apply_C38 : TC := (.cond (.t 39) .skip (.rg [.s 43 (.bin .eql (.t 19) (.c (I 6))), .m 39 43] none))
def plan_Apply_C37 : TC := (.cond (.t 39) .skip (.seq (.rg [.s 42 (.bin .eql (.t 19) (.c (I 5))), .m 39 42] none) plan_Apply_C38))
def plan_Apply_C34 : TC := (.cond (.t 39) .skip (.seq (.rg [.s 41 (.bin .eql (.t 19) (.c (I 4))), .m 39 41] none) plan_Apply_C37))
def plan_Apply_C35 : TC := (.join [.keep [3, 4, 7, 39], .cmp] plan_Apply_C1)
def plan_Apply_C32 : TC := (.cond (.t 30) (.rg [.s 32 (.fadr 1 (.t 7)), .s 33 (.load false 1 (.t 32)), .s 34 (.fadr 3 (.t 3)), .s 35 (.load true 10 (.t 34)), ⟨⟨some 36, (.bslice false 10 [(I 0), (I 0), (I 0), (I 0), (B false), (B false), (I 0), (I 0), (I 0), (I 0)] 1 [(0, (.t 35))]), none⟩, ⟨G_Road, none, []⟩⟩, .s 37 (.app 10
  72 (.t 33) (.t 36)), .s 38 (.fadr 1 (.t 7)), .d (.store 1 (.t 38) (.t 37))] none) (.seq (.seq (.rg [.s 40 (.bin .eql (.t 19) (.c (I 3))), .m 39 40] none) plan_Apply_C34) plan_Apply_C35))
def plan_Apply_C29 : TC := (.cond (.t 21) (.rg [.s 23 (.fadr 0 (.t 7)), .s 24 (.load false 1 (.t 23)), .s 25 (.fadr 1 (.t 3)), .s 26 (.load true 2 (.t 25)), ⟨⟨some 27, (.bslice false 2 [(I 0), (B false)] 1 [(0, (.t 26))]), none⟩, ⟨G_Place, none, []⟩⟩, .s 28 (.app 2 16 (.t 24) (.t 27)), .s 29 (.fadr 0 (.t 7)), .d (.store 1 (.t
  29) (.t 28))] none) (.seq (.rg [.s 31 (.bin .eql (.t 19) (.c (I 2))), .m 30 31] none) plan_Apply_C32))
def plan_Apply_C26 : TC := (.block 0 (.seq (.rg [.s 22 (.bin .eql (.t 19) (.c (I 1))), .m 21 22] none) plan_Apply_C29))
def plan_Apply_C22 : TC := (.seq (.seq (.rg [.s 18 (.fadr 0 (.t 3)), .s 19 (.load false 1 (.t 18))] none) plan_Apply_C26) plan_Apply_C2)
def plan_Apply_C16 : TC := (.seq (.rg [.s 16 (.load true 2 (.t 2)), .s 17 (.call (.c (.fn 48 [])) [(.t 16)]), .s 7 (.alloc [(.lst true []), (.lst true [])]), .d (.store 2 (.t 7) (.t 17))] none) plan_Apply_C22)
def plan_Apply_C9 : TC := (.seq (.seq (.rg [.s 10 (.load true 2 (.t 2)), .s 11 (.call (.c (.fn 61 [])) [(.t 10)]), .m 6 11] none) plan_Apply_C15) plan_Apply_C16)
def plan_Apply_C3 : TC := (.seq (.rg [.s 2 (.box (.t 0)), .s 3 (.box (.t 1)), .s 4 (.alloc [(.lst true []), (.lst true [])]), .s 5 (.mov (.c (I 0)))] none) plan_Apply_C9)
def plan_Apply_E (N : Nat) : List (Nat × Ent) := [(61, pureE [G_Mine] [(.int .i64)] (fun x => plan_Check N x)), (48, sfE [none] [.v G_Mine] [.o (.p (.a G_Place) (.a G_Road))] (fun x => plan_clone N x))]
def plan_Apply_J1 (N : Nat) (JM : Nat) (x7 : Bool) (x8 x9 : Int) (x10 : Bool) (x11 x12 x13 x14 : Int) (x15 x16 : Bool) (x17 x18 x19 x20 x21 x22 x23 : Int) (x24 : List T_Place) (x25 : List T_Road) : Option (T_Mine × Int) := joinN (run (plan_Apply_E N) N 0 plan_Apply_C1) JM ⟨[(3, .ptr 0 0 0), (4, .ptr 1 0 0), (7, .ptr 2 0 0), (39, .bool x7)], [some (.box 0 [.int .i64 x8, .int .i64 x9, .bool x10, .int .i64 x11, .int .i64 x12, .int .i64 x13, .int .i64 x14, .bool x15, .bool x16, .int .i64 x17, .int .i64 x18, .int .i64 x19, .int .i64 x20, .int .i64 x21, .int .i64 x22, .int .i64 x23]), some (.box 0 [.nil, .nil]), some (.box 0 [.whole 3, .whole 4]), some (.arr G_Place x24), some (.arr G_Road x25)]⟩ (blkK 0 (seqK (run (plan_Apply_E N) N 0 plan_Apply_C2) (fin [(.cell 4 true 2), (.t 5)] [G_Mine, (.int .i64)])))
theorem plan_Apply_J1_eq (N : Nat) (JM : Nat) (x7 : Bool) (x8 x9 : Int) (x10 : Bool) (x11 x12 x13 x14 : Int) (x15 x16 : Bool) (x17 x18 x19 x20 x21 x22 x23 : Int) (x24 : List T_Place) (x25 : List T_Road) : plan_Apply_J1 N (JM + 1) x7 x8 x9 x10 x11 x12 x13 x14 x15 x16 x17 x18 x19 x20 x21 x22 x23 x24 x25 =
  bif x7 then
    bif (decide (x21 < 0)) then
      some (([], []), 4)
    else
      bif (decide (x21 ≥ (x25.length : Int))) then
        some (([], []), 4)
      else
        bif inB x21 x25.length then
        bif (x8 == 5) then
          let v26 := x25.getD x21.toNat D_Road
          let v27 := x25.set x21.toNat (v26.1, (v26.2.1, (v26.2.2.1, (v26.2.2.2.1, (v26.2.2.2.2.1, (v26.2.2.2.2.2.1, ((x22, x23), v26.2.2.2.2.2.2.2)))))))
          Option.bind (plan_Check N (x24, v27)) fun r28 =>
          bif (r28 != 0) then
            some (([], []), r28)
          else
            some ((x24, v27), 0)
        else
          bif (x8 == 6) then
            let v29 := x25.getD x21.toNat D_Road
            let v30 := x25.set x21.toNat (v29.1, (v29.2.1, (v29.2.2.1, (v29.2.2.2.1, (v29.2.2.2.2.1, (v29.2.2.2.2.2.1, (v29.2.2.2.2.2.2.1, (x22, x23))))))))
            Option.bind (plan_Check N (x24, v30)) fun r31 =>
            bif (r31 != 0) then
              some (([], []), r31)
            else
              some ((x24, v30), 0)
          else
            bif ((x25.getD x21.toNat D_Road).2.2.2.2.2.1 == (x8 == 3)) then
              some (([], []), 10)
            else
              let v33 := x25.getD x21.toNat D_Road
              let v34 := x25.set x21.toNat (v33.1, (v33.2.1, (v33.2.2.1, (v33.2.2.2.1, (v33.2.2.2.2.1, ((x8 == 3), v33.2.2.2.2.2.2))))))
              Option.bind (plan_Check N (x24, v34)) fun r35 =>
              bif (r35 != 0) then
                some (([], []), r35)
              else
                some ((x24, v34), 0)
        else none
  else
    some (([], []), 5) := by kernel_rfl
def plan_Apply (N : Nat) (a0 : T_Mine) (a1 : T_Edit) : Option (T_Mine × Int) :=
  Option.bind (plan_Check N a0) fun r1 =>
  bif (r1 != 0) then
    some (([], []), r1)
  else
    Option.bind (plan_clone N a0) fun r2 =>
    bif (a1.1 == 1) then
      bif fitsB (r2.1.1.length + 1) 16 then
      Option.bind (plan_Check N ((r2.1.1 ++ [a1.2.1]), r2.1.2)) fun r4 =>
      bif (r4 != 0) then
        some (([], []), r4)
      else
        some (((r2.1.1 ++ [a1.2.1]), r2.1.2), 0)
      else none
    else
      bif (a1.1 == 2) then
        bif fitsB (r2.1.2.length + 1) 72 then
        Option.bind (plan_Check N (r2.1.1, (r2.1.2 ++ [a1.2.2.1]))) fun r6 =>
        bif (r6 != 0) then
          some (([], []), r6)
        else
          some ((r2.1.1, (r2.1.2 ++ [a1.2.2.1])), 0)
        else none
      else
        bif (a1.1 == 3) then
          plan_Apply_J1 N N true a1.1 a1.2.1.1 a1.2.1.2 a1.2.2.1.1 a1.2.2.1.2.1 a1.2.2.1.2.2.1 a1.2.2.1.2.2.2.1 a1.2.2.1.2.2.2.2.1 a1.2.2.1.2.2.2.2.2.1 a1.2.2.1.2.2.2.2.2.2.1.1 a1.2.2.1.2.2.2.2.2.2.1.2 a1.2.2.1.2.2.2.2.2.2.2.1 a1.2.2.1.2.2.2.2.2.2.2.2 a1.2.2.2.1 a1.2.2.2.2.1 a1.2.2.2.2.2 r2.1.1 r2.1.2
        else
          bif (a1.1 == 4) then
            plan_Apply_J1 N N true a1.1 a1.2.1.1 a1.2.1.2 a1.2.2.1.1 a1.2.2.1.2.1 a1.2.2.1.2.2.1 a1.2.2.1.2.2.2.1 a1.2.2.1.2.2.2.2.1 a1.2.2.1.2.2.2.2.2.1 a1.2.2.1.2.2.2.2.2.2.1.1 a1.2.2.1.2.2.2.2.2.2.1.2 a1.2.2.1.2.2.2.2.2.2.2.1 a1.2.2.1.2.2.2.2.2.2.2.2 a1.2.2.2.1 a1.2.2.2.2.1 a1.2.2.2.2.2 r2.1.1 r2.1.2
          else
            bif (a1.1 == 5) then
              plan_Apply_J1 N N true a1.1 a1.2.1.1 a1.2.1.2 a1.2.2.1.1 a1.2.2.1.2.1 a1.2.2.1.2.2.1 a1.2.2.1.2.2.2.1 a1.2.2.1.2.2.2.2.1 a1.2.2.1.2.2.2.2.2.1 a1.2.2.1.2.2.2.2.2.2.1.1 a1.2.2.1.2.2.2.2.2.2.1.2 a1.2.2.1.2.2.2.2.2.2.2.1 a1.2.2.1.2.2.2.2.2.2.2.2 a1.2.2.2.1 a1.2.2.2.2.1 a1.2.2.2.2.2 r2.1.1 r2.1.2
            else
              plan_Apply_J1 N N (a1.1 == 6) a1.1 a1.2.1.1 a1.2.1.2 a1.2.2.1.1 a1.2.2.1.2.1 a1.2.2.1.2.2.1 a1.2.2.1.2.2.2.1 a1.2.2.1.2.2.2.2.1 a1.2.2.1.2.2.2.2.2.1 a1.2.2.1.2.2.2.2.2.2.1.1 a1.2.2.1.2.2.2.2.2.2.1.2 a1.2.2.1.2.2.2.2.2.2.2.1 a1.2.2.1.2.2.2.2.2.2.2.2 a1.2.2.2.1 a1.2.2.2.2.1 a1.2.2.2.2.2 r2.1.1 r2.1.2
theorem plan_Apply_fn : FnOK Tryd.prog 49 99 (fun _ : Nat => false) plan_Apply_C3.er [(.cell 4 true 2), (.t 5)] := FnOK.mk' Tryd.func49 (by kernel_rfl) (by kernel_rfl) (by kernel_rfl) (by kernel_rfl) (by kernel_rfl)
theorem plan_Apply_envok (N : Nat) : EnvOK Tryd.prog (plan_Apply_E N) := .cons (pureE_ok (plan_Check_pure N)) (.cons (sfE_ok (plan_clone_sf N)) (.nil))
theorem plan_Apply_pure (N : Nat) : PureOK Tryd.prog 49 [G_Mine, G_Edit] [G_Mine, (.int .i64)] (fun x => plan_Apply N x.1 x.2) := pureOK (N := N) mixed plan_Apply_fn (plan_Apply_envok N) (TC.noh_ok (by kernel_rfl)) rfl (fun x => by kernel_rfl)
def plan_All_N1 : List NS := [.wk 1 (.list G_Edit), .wk 14 (.list G_Edit), .frzb 7, .keep [1, 4, 7, 14, 15, 16], .cmp]
def plan_All_C17 : TC := .ret
def plan_All_C16 : TC := (.pre [.frzb 4] plan_All_C17)
def plan_All_C14 : TC := (.cond (.t 28) (.seq (.rg [.s 29 (.load true 2 (.t 7)), .m 30 8, .m 31 11, .d (.store 2 (.t 4) (.t 29)), .m 5 30, .m 6 31] none) plan_All_C16) .skip)
def plan_All_C15 : TC := (.rg [.s 32 (.load true 2 (.t 10)), .d (.store 2 (.t 7) (.t 32))] none)
def plan_All_C13 : TC := (.seq (.seq (.rg [.m 27 11, .s 28 (.bin .neq (.t 27) (.c (I 0)))] none) plan_All_C14) plan_All_C15)
def plan_All_C10 : TC := (.seq (.rgw [([.s 22 (.load true 2 (.t 7)), .s 23 (.load true 16 (.t 9))], [.frz 22]), ([.s 24 (.call (.c (.fn 49 [])) [(.t 22), (.t 23)]), .m 21 24, .s 25 (.extr 0 (.t 21)), .s 26 (.extr 1 (.t 21)), .s 10 (.alloc [(.lst true []), (.lst true [])]), .d (.store 2 (.t 10) (.t 25)), .m 11 26], [])])
  plan_All_C13)
def plan_All_C11 : TC := (.rg [.s 33 (.bin .add (.t 16) (.c (I 1))), .m 16 33] none)
def plan_All_C7 : TC := (.seq (.block 1 (.seq (.rg [.m 18 16, .s 19 (.iadrS 16 (.t 14) (.t 16)), .s 20 (.load true 16 (.t 19)), .s 9 (.alloc [(I 0), (I 0), (B false), (I 0), (I 0), (I 0), (I 0), (B false), (B false), (I 0), (I 0), (I 0), (I 0), (I 0), (I 0), (I 0)]), .m 8 18, .d (.store 16 (.t 9) (.t 20))] none)
  plan_All_C10)) plan_All_C11)
def plan_All_C4 : TC := (.seq (.cond (.t 17) .skip (.exit 0)) plan_All_C7)
def plan_All_C1 : TC := (.seq (.rg [.s 17 (.bin .lss (.t 16) (.t 15))] none) plan_All_C4)
def plan_All_C8 : TC := .ret
def plan_All_C5 : TC := (.pre [.frzb 4] plan_All_C8)
def plan_All_C2 : TC := (.seq (.rg [.s 34 (.load true 2 (.t 7)), .m 35 1, .s 36 (.len (.t 35)), .d (.store 2 (.t 4) (.t 34)), .m 5 36, .s 6 (.mov (.c (I 0)))] none) plan_All_C5)
def plan_All_C12 : TC := (.block 0 (.loop plan_All_N1 plan_All_C1))
def plan_All_C9 : TC := (.seq (.seq (.rg [.m 14 1, .s 15 (.len (.t 14)), .s 16 (.mov (.c (I 0)))] none) plan_All_C12) plan_All_C2)
def plan_All_C6 : TC := (.seq (.rg [.s 12 (.load true 2 (.t 2)), .s 13 (.call (.c (.fn 48 [])) [(.t 12)]), .s 7 (.alloc [(.lst true []), (.lst true [])]), .d (.store 2 (.t 7) (.t 13))] none) plan_All_C9)
def plan_All_C3 : TC := (.seq (.rg [.s 2 (.box (.t 0)), .s 4 (.alloc [(.lst true []), (.lst true [])]), .s 5 (.mov (.c (I 0))), .s 6 (.mov (.c (I 0)))] none) plan_All_C6)
def plan_All_E (N : Nat) : List (Nat × Ent) := [(48, sfE [none] [.v G_Mine] [.o (.p (.a G_Place) (.a G_Road))] (fun x => plan_clone N x)), (49, pureE [G_Mine, G_Edit] [G_Mine, (.int .i64)] (fun x => plan_Apply N x.1 x.2))]
def plan_All_L1 (N : Nat) (n : Nat) (x2 x3 : List T_Edit) (x4 x5 : Int) (x6 : List T_Place) (x7 : List T_Road) : Option (T_Mine × Int × Int) := loopN (normI 0 plan_All_N1) (run (plan_All_E N) N 0 plan_All_C1) n ⟨[(1, .lst false G_Edit x2), (4, .ptr 0 0 0), (7, .ptr 1 0 0), (14, .lst false G_Edit x3), (15, .int .i64 x4), (16, .int .i64 x5)], [some (.box 0 [.nil, .nil]), some (.box 0 [.lst false G_Place x6, .lst false G_Road x7])]⟩ (blkK 0 (seqK (run (plan_All_E N) N 0 plan_All_C2) (fin [(.cell 4 true 2), (.t 5), (.t 6)] [G_Mine, (.int .i64), (.int .i64)])))
theorem plan_All_L1_succ (N : Nat) (n1 : Nat) (x2 x3 : List T_Edit) (x4 x5 : Int) (x6 : List T_Place) (x7 : List T_Road) : plan_All_L1 N (n1 + 1) x2 x3 x4 x5 x6 x7 =
  bif (decide (x5 < x4)) then
    bif inB x5 x3.length then
    Option.bind (plan_Apply N (x6, x7) (x3.getD x5.toNat D_Edit)) fun r9 =>
    bif (r9.2 != 0) then
      some ((x6, x7), x5, r9.2)
    else
      plan_All_L1 N n1 x2 x3 x4 (W (x5 + 1)) r9.1.1 r9.1.2
    else none
  else
    some ((x6, x7), (x2.length : Int), 0) := by kernel_rfl
def plan_All (N : Nat) (a0 : T_Mine) (a1 : List T_Edit) : Option (T_Mine × Int × Int) :=
  Option.bind (plan_clone N a0) fun r1 =>
  plan_All_L1 N N a1 a1 (a1.length : Int) 0 r1.1.1 r1.1.2
theorem plan_All_fn : FnOK Tryd.prog 38 37 (fun _ : Nat => false) plan_All_C3.er [(.cell 4 true 2), (.t 5), (.t 6)] := FnOK.mk' Tryd.func38 (by kernel_rfl) (by kernel_rfl) (by kernel_rfl) (by kernel_rfl) (by kernel_rfl)
theorem plan_All_envok (N : Nat) : EnvOK Tryd.prog (plan_All_E N) := .cons (sfE_ok (plan_clone_sf N)) (.cons (pureE_ok (plan_Apply_pure N)) (.nil))
theorem plan_All_pure (N : Nat) : PureOK Tryd.prog 38 [G_Mine, (.list G_Edit)] [G_Mine, (.int .i64), (.int .i64)] (fun x => plan_All N x.1 x.2) := pureOK (N := N) mixed plan_All_fn (plan_All_envok N) (TC.noh_ok (by kernel_rfl)) rfl (fun x => by kernel_rfl)
def survey_Read_C10 : TC := .ret
def survey_Read_C8 : TC := (.pre [.frzb 4] survey_Read_C10)
def survey_Read_C6 : TC := (.seq (.rg [.s 27 (.load true 2 (.t 10)), .m 28 8, .m 29 9, .d (.store 2 (.t 4) (.t 27)), .m 5 28, .m 6 29] none) survey_Read_C8)
def survey_Read_C4 : TC := (.cond (.t 20) (.seq (.rg [.s 22 (.load true 2 (.t 2)), .s 23 (.call (.c (.fn 38 [])) [(.t 22), (.c (.lst true []))]), .m 21 23, .s 24 (.extr 0 (.t 21)), .s 25 (.extr 1 (.t 21)), .s 26 (.extr 2 (.t 21)), .s 10 (.alloc [(.lst true []), (.lst true [])]), .d (.store 2 (.t 10) (.t 24)), .m 11 25, .m 12
  26] none) survey_Read_C6) .skip)
def survey_Read_C9 : TC := .ret
def survey_Read_C7 : TC := (.pre [.frzb 4] survey_Read_C9)
def survey_Read_C5 : TC := (.seq (.rg [.s 30 (.load true 2 (.t 2)), .m 31 7, .s 32 (.call (.c (.fn 38 [])) [(.t 30), (.t 31)]), .s 33 (.extr 0 (.t 32)), .s 34 (.extr 1 (.t 32)), .s 35 (.extr 2 (.t 32)), .d (.store 2 (.t 4) (.t 33)), .m 5 34, .m 6 35] none) survey_Read_C7)
def survey_Read_C3 : TC := (.seq (.seq (.rg [.m 19 9, .s 20 (.bin .neq (.t 19) (.c (I 0)))] none) survey_Read_C4) survey_Read_C5)
def survey_Read_C2 : TC := (.seq (.rg [.m 14 1, .s 15 (.call (.c (.fn 14 [])) [(.t 14)]), .m 13 15, .s 16 (.extr 0 (.t 13)), .s 17 (.extr 1 (.t 13)), .s 18 (.extr 2 (.t 13)), .m 7 16, .m 8 17, .m 9 18] none) survey_Read_C3)
def survey_Read_C1 : TC := (.seq (.rg [.s 2 (.box (.t 0)), .s 4 (.alloc [(.lst true []), (.lst true [])]), .s 5 (.mov (.c (I 0))), .s 6 (.mov (.c (I 0)))] none) survey_Read_C2)
def survey_Read_E (N : Nat) : List (Nat × Ent) := [(14, pureE [.str] [(.list G_Edit), (.int .i64), (.int .i64)] (fun x => survey_Parse N x)), (38, pureE [G_Mine, (.list G_Edit)] [G_Mine, (.int .i64), (.int .i64)] (fun x => plan_All N x.1 x.2))]
def survey_Read (N : Nat) (a0 : T_Mine) (a1 : List UInt8) : Option (T_Mine × Int × Int) :=
  Option.bind (survey_Parse N a1) fun r1 =>
  bif (r1.2.2 != 0) then
    Option.bind (plan_All N a0 []) fun r2 =>
    some (r2.1, r1.2.1, r1.2.2)
  else
    Option.bind (plan_All N a0 r1.1) fun r3 =>
    some (r3.1, r3.2.1, r3.2.2)
theorem survey_Read_fn : FnOK Tryd.prog 18 36 (fun _ : Nat => false) survey_Read_C1.er [(.cell 4 true 2), (.t 5), (.t 6)] := FnOK.mk' Tryd.func18 (by kernel_rfl) (by kernel_rfl) (by kernel_rfl) (by kernel_rfl) (by kernel_rfl)
theorem survey_Read_envok (N : Nat) : EnvOK Tryd.prog (survey_Read_E N) := .cons (pureE_ok (survey_Parse_pure N)) (.cons (pureE_ok (plan_All_pure N)) (.nil))
theorem survey_Read_pure (N : Nat) : PureOK Tryd.prog 18 [G_Mine, .str] [G_Mine, (.int .i64), (.int .i64)] (fun x => survey_Read N x.1 x.2) := pureOK (N := N) mixed survey_Read_fn (survey_Read_envok N) (TC.noh_ok (by kernel_rfl)) rfl (fun x => by kernel_rfl)
def ref02_number_N1 : List NS := [.keep [0, 4, 5, 6], .cmp]
def ref02_number_C4 : TC := (.cond (.t 15) .skip (.exit 0))
def ref02_number_C14 : TC := .ret
def ref02_number_C9 : TC := (.cond (.t 27) (.seq (.rg [.s 2 (.mov (.c (I 0))), .s 3 (.mov (.c (B false)))] none) ref02_number_C14) .skip)
def ref02_number_C10 : TC := (.rg [.m 28 5, .s 29 (.bin .mul (.c (I 10)) (.t 28)), .m 30 4, .m 31 6, .s 32 (.sidx (.t 30) (.t 31)), .s 33 (.bin .sub (.t 32) (.c (.v (.int .u8 48)))), .s 34 (.conv .i64 (.t 33)), .s 35 (.bin .add (.t 29) (.t 34)), .m 5 35] none)
def ref02_number_C11 : TC := (.rg [.m 16 6, .s 17 (.bin .add (.t 16) (.c (I 1))), .m 6 17] none)
def ref02_number_C5 : TC := (.seq (.block 1 (.seq (.seq (.rg [.m 18 4, .m 19 6, .s 20 (.sidx (.t 18) (.t 19)), .s 21 (.bin .lss (.t 20) (.c (.v (.int .u8 48)))), .m 22 21, ⟨⟨some 23, (.mov (.t 4)), some (22, false)⟩, {}⟩, ⟨⟨some 24, (.mov (.t 6)), some (22, false)⟩, {}⟩, ⟨⟨some 25, (.sidx (.t 23) (.t 24)), some (22, false)⟩,
  {}⟩, ⟨⟨some 26, (.bin .gtr (.t 25) (.c (.v (.int .u8 57)))), some (22, false)⟩, {}⟩, .s 27 (.pick (.t 22) (.c (B true)) (.t 26))] none) ref02_number_C9) ref02_number_C10)) ref02_number_C11)
def ref02_number_C1 : TC := (.seq (.seq (.rg [.m 12 6, .m 13 4, .s 14 (.lens (.t 13)), .s 15 (.bin .lss (.t 12) (.t 14))] none) ref02_number_C4) ref02_number_C5)
def ref02_number_C6 : TC := (.cond (.t 40) (.rg [.m 41 5, .s 42 (.un .neg (.t 41)), .m 5 42] none) .skip)
def ref02_number_C12 : TC := .ret
def ref02_number_C7 : TC := (.seq (.rg [.m 43 5, .m 44 5, .s 45 (.call (.c (.fn 43 [])) [(.t 44)]), .m 46 0, .s 47 (.bin .eql (.t 45) (.t 46)), .m 2 43, .m 3 47] none) ref02_number_C12)
def ref02_number_C2 : TC := (.seq (.seq (.rg [.m 36 4, .s 37 (.lens (.t 36)), .m 38 0, .s 39 (.lens (.t 38)), .s 40 (.bin .lss (.t 37) (.t 39))] none) ref02_number_C6) ref02_number_C7)
def ref02_number_C17 : TC := .ret
def ref02_number_C15 : TC := (.cond (.t 11) (.seq (.rg [.s 2 (.mov (.c (I 0))), .s 3 (.mov (.c (B false)))] none) ref02_number_C17) .skip)
def ref02_number_C19 : TC := (.block 0 (.loop ref02_number_N1 ref02_number_C1))
def ref02_number_C18 : TC := (.seq (.seq (.rg [.s 6 (.mov (.c (I 0)))] none) ref02_number_C19) ref02_number_C2)
def ref02_number_C16 : TC := (.seq (.rg [.s 5 (.mov (.c (I 0)))] none) ref02_number_C18)
def ref02_number_C13 : TC := (.seq (.seq (.rg [.m 9 4, .s 10 (.lens (.t 9)), .s 11 (.bin .gtr (.t 10) (.c (I 18)))] none) ref02_number_C15) ref02_number_C16)
def ref02_number_C8 : TC := (.seq (.rg [.m 7 0, .s 8 (.call (.c (.fn 60 [])) [(.t 7), (.c (.v (.string ⟨⟨[45]⟩⟩)))]), .m 4 8] none) ref02_number_C13)
def ref02_number_C3 : TC := (.seq (.rg [.s 2 (.mov (.c (I 0))), .s 3 (.mov (.c (B false)))] none) ref02_number_C8)
def ref02_number_E (N : Nat) : List (Nat × Ent) := [(60, pureE [.str, .str] [.str] (fun x => strings_TrimPrefix N x.1 x.2)), (43, pureE [(.int .i64)] [.str] (fun x => strconv_Itoa N x))]
def ref02_number_L1 (N : Nat) (n : Nat) (x2 x3 : List UInt8) (x4 x5 : Int) : Option (Int × Bool) := loopN (normI 0 ref02_number_N1) (run (ref02_number_E N) N 0 ref02_number_C1) n ⟨[(0, .str x2), (4, .str x3), (5, .int .i64 x4), (6, .int .i64 x5)], []⟩ (blkK 0 (seqK (run (ref02_number_E N) N 0 ref02_number_C2) (fin [(.t 2), (.t 3)] [(.int .i64), .bool])))
theorem ref02_number_L1_succ (N : Nat) (n1 : Nat) (x2 x3 : List UInt8) (x4 x5 : Int) : ref02_number_L1 N (n1 + 1) x2 x3 x4 x5 =
  bif (decide (x5 < (x3.length : Int))) then
    bif inB x5 x3.length then
    bif (decide (((x3.getD x5.toNat 0).toNat : Int) < 48)) then
      some (0, false)
    else
      bif inB x5 x3.length then
      bif (decide (((x3.getD x5.toNat 0).toNat : Int) > 57)) then
        some (0, false)
      else
        bif inB x5 x3.length then
        ref02_number_L1 N n1 x2 x3 (W ((W (10 * x4)) + (W (IntKind.u8.wrap (((x3.getD x5.toNat 0).toNat : Int) - 48))))) (W (x5 + 1))
        else none
      else none
    else none
  else
    bif (decide ((x3.length : Int) < (x2.length : Int))) then
      Option.bind (strconv_Itoa N (W (0 - x4))) fun r15 =>
      some (W (0 - x4), (r15 == x2))
    else
      Option.bind (strconv_Itoa N x4) fun r16 =>
      some (x4, (r16 == x2)) := by kernel_rfl
def ref02_number (N : Nat) (a0 : List UInt8) : Option (Int × Bool) :=
  Option.bind (strings_TrimPrefix N a0 [45]) fun r1 =>
  bif (decide ((r1.length : Int) > 18)) then
    some (0, false)
  else
    ref02_number_L1 N N a0 r1 0 0
theorem ref02_number_fn : FnOK Tryd.prog 52 48 (fun _ : Nat => false) ref02_number_C3.er [(.t 2), (.t 3)] := FnOK.mk' Tryd.func52 (by kernel_rfl) (by kernel_rfl) (by kernel_rfl) (by kernel_rfl) (by kernel_rfl)
theorem ref02_number_envok (N : Nat) : EnvOK Tryd.prog (ref02_number_E N) := .cons (pureE_ok (strings_TrimPrefix_pure N)) (.cons (pureE_ok (strconv_Itoa_pure N)) (.nil))
theorem ref02_number_pure (N : Nat) : PureOK Tryd.prog 52 [.str] [(.int .i64), .bool] (fun x => ref02_number N x) := pureOK (N := N) mixed ref02_number_fn (ref02_number_envok N) (TC.noh_ok (by kernel_rfl)) rfl (fun x => by kernel_rfl)
def ref02_numbers_N1 : List NS := [.own 4 (.int .i64), .wk 0 (.list .str), .keep [0, 4, 5], .cmp]
def ref02_numbers_C4 : TC := (.cond (.t 11) .skip (.exit 0))
def ref02_numbers_C17 : TC := .ret
def ref02_numbers_C16 : TC := (.pre [.frz 2] ref02_numbers_C17)
def ref02_numbers_C12 : TC := (.cond (.t 23) (.seq (.rg [.s 2 (.mov (.c (.lst true []))), .s 3 (.mov (.c (B false)))] none) ref02_numbers_C16) .skip)
def ref02_numbers_C13 : TC := (.rg [.m 24 4, .m 25 6, ⟨⟨some 26, (.bslice false 1 [(I 0)] 1 [(0, (.t 25))]), none⟩, ⟨(.int .i64), none, []⟩⟩, .s 27 (.app 1 8 (.t 24) (.t 26)), .m 4 27] none)
def ref02_numbers_C8 : TC := (.seq (.seq (.rg [.m 22 7, .s 23 (.un .not (.t 22))] none) ref02_numbers_C12) ref02_numbers_C13)
def ref02_numbers_C9 : TC := (.rg [.m 12 5, .s 13 (.bin .add (.t 12) (.c (I 1))), .m 5 13] none)
def ref02_numbers_C5 : TC := (.seq (.block 1 (.seq (.rg [.m 15 0, .m 16 5, .s 17 (.iadrS 1 (.t 15) (.t 16)), .s 18 (.load false 1 (.t 17)), .s 19 (.call (.c (.fn 52 [])) [(.t 18)]), .m 14 19, .s 20 (.extr 0 (.t 14)), .s 21 (.extr 1 (.t 14)), .m 6 20, .m 7 21] none) ref02_numbers_C8)) ref02_numbers_C9)
def ref02_numbers_C1 : TC := (.seq (.seq (.rg [.m 8 5, .m 9 0, .s 10 (.len (.t 9)), .s 11 (.bin .lss (.t 8) (.t 10))] none) ref02_numbers_C4) ref02_numbers_C5)
def ref02_numbers_C14 : TC := .ret
def ref02_numbers_C10 : TC := (.pre [.frz 2] ref02_numbers_C14)
def ref02_numbers_C6 : TC := (.seq (.rg [.m 28 4, .m 2 28, .s 3 (.mov (.c (B true)))] none) ref02_numbers_C10)
def ref02_numbers_C2 : TC := (.pre [.frz 4] ref02_numbers_C6)
def ref02_numbers_C15 : TC := (.block 0 (.loop ref02_numbers_N1 ref02_numbers_C1))
def ref02_numbers_C11 : TC := (.seq (.seq (.rg [.s 5 (.mov (.c (I 0)))] none) ref02_numbers_C15) ref02_numbers_C2)
def ref02_numbers_C7 : TC := (.seq (.rg [.s 4 (.mov (.c (.lst true [])))] none) ref02_numbers_C11)
def ref02_numbers_C3 : TC := (.seq (.rg [.s 2 (.mov (.c (.lst true []))), .s 3 (.mov (.c (B false)))] none) ref02_numbers_C7)
def ref02_numbers_E (N : Nat) : List (Nat × Ent) := [(52, pureE [.str] [(.int .i64), .bool] (fun x => ref02_number N x))]
def ref02_numbers_L1 (N : Nat) (n : Nat) (x1 : List (List UInt8)) (x2 : Int) (x3 : List Int) : Option ((List Int) × Bool) := loopN (normI 0 ref02_numbers_N1) (run (ref02_numbers_E N) N 0 ref02_numbers_C1) n ⟨[(0, .lst false .str x1), (4, .whole 0), (5, .int .i64 x2)], [some (.arr (.int .i64) x3)]⟩ (blkK 0 (seqK (run (ref02_numbers_E N) N 0 ref02_numbers_C2) (fin [(.t 2), (.t 3)] [(.list (.int .i64)), .bool])))
theorem ref02_numbers_L1_succ (N : Nat) (n1 : Nat) (x1 : List (List UInt8)) (x2 : Int) (x3 : List Int) : ref02_numbers_L1 N (n1 + 1) x1 x2 x3 =
  bif (decide (x2 < (x1.length : Int))) then
    bif inB x2 x1.length then
    Option.bind (ref02_number N (x1.getD x2.toNat [])) fun r4 =>
    bif (!r4.2) then
      some ([], false)
    else
      bif fitsB (x3.length + 1) 8 then
      ref02_numbers_L1 N n1 x1 (W (x2 + 1)) (x3 ++ [r4.1])
      else none
    else none
  else
    some (x3, true) := by kernel_rfl
def ref02_numbers (N : Nat) (a0 : List (List UInt8)) : Option ((List Int) × Bool) :=
  ref02_numbers_L1 N N a0 0 []
theorem ref02_numbers_fn : FnOK Tryd.prog 63 29 (fun _ : Nat => false) ref02_numbers_C3.er [(.t 2), (.t 3)] := FnOK.mk' Tryd.func63 (by kernel_rfl) (by kernel_rfl) (by kernel_rfl) (by kernel_rfl) (by kernel_rfl)
theorem ref02_numbers_envok (N : Nat) : EnvOK Tryd.prog (ref02_numbers_E N) := .cons (pureE_ok (ref02_number_pure N)) (.nil)
theorem ref02_numbers_pure (N : Nat) : PureOK Tryd.prog 63 [(.list .str)] [(.list (.int .i64)), .bool] (fun x => ref02_numbers N x) := pureOK (N := N) mixed ref02_numbers_fn (ref02_numbers_envok N) (TC.noh_ok (by kernel_rfl)) rfl (fun x => by kernel_rfl)
def ref02_edit_C26 : TC := .ret
def ref02_edit_C20 : TC := (.cond (.t 95) (.seq (.rg [.s 96 (.build [(I 0), (I 0), (B false), (I 0), (I 0), (I 0), (I 0), (B false), (B false), (I 0), (I 0), (I 0), (I 0), (I 0), (I 0), (I 0)] []), .d (.store 16 (.t 2) (.t 96)), .s 3 (.mov (.c (B false)))] none) ref02_edit_C26) .skip)
def ref02_edit_C27 : TC := .ret
def ref02_edit_C21 : TC := (.seq (.rg [.m 97 7, .s 98 (.iadrS 1 (.t 97) (.c (I 0))), .s 99 (.load false 1 (.t 98)), .m 100 7, .s 101 (.iadrS 1 (.t 100) (.c (I 1))), .s 102 (.load false 1 (.t 101)), .m 103 7, .s 104 (.iadrS 1 (.t 103) (.c (I 2))), .s 105 (.load false 1 (.t 104)), .m 106 7, .s 107 (.iadrS 1 (.t 106) (.c (I 3))),
  .s 108 (.load false 1 (.t 107)), .m 109 4, .s 110 (.iadrS 1 (.t 109) (.c (I 5))), .s 111 (.load false 1 (.t 110)), .s 112 (.bin .eql (.t 111) (.c (.v (.string ⟨⟨[119, 97, 108, 107]⟩⟩)))), .m 113 9, .s 114 (.iadrS 1 (.t 113) (.c (I 0))), .s 115 (.load false 1 (.t 114)), .m 116 9, .s 117 (.iadrS 1
  (.t 116) (.c (I 1))), .s 118 (.load false 1 (.t 117)), .s 119 (.build [(I 0), (I 0)] [(0, (1, (.t 115))), (1, (1, (.t 118)))]), .m 120 9, .s 121 (.iadrS 1 (.t 120) (.c (I 2))), .s 122 (.load false 1 (.t 121)), .m 123 9, .s 124 (.iadrS 1 (.t 123) (.c (I 3))), .s 125 (.load false 1 (.t 124)), .s 126
  (.build [(I 0), (I 0)] [(0, (1, (.t 122))), (1, (1, (.t 125)))]), .s 127 (.build [(I 0), (I 0), (I 0), (I 0), (B false), (B false), (I 0), (I 0), (I 0), (I 0)] [(0, (1, (.t 99))), (1, (1, (.t 102))), (2, (1, (.t 105))), (3, (1, (.t 108))), (4, (1, (.t 112))), (6, (2, (.t 119))), (8, (2, (.t
  126)))]), .s 128 (.build [(I 0), (I 0), (B false), (I 0), (I 0), (I 0), (I 0), (B false), (B false), (I 0), (I 0), (I 0), (I 0), (I 0), (I 0), (I 0)] [(0, (1, (.c (I 2)))), (3, (10, (.t 127)))]), .d (.store 16 (.t 2) (.t 128)), .s 3 (.mov (.c (B true)))] (some [])) ref02_edit_C27)
def ref02_edit_C15 : TC := (.seq (.seq (.rg [.m 90 8, .s 91 (.un .not (.t 90)), .m 92 91, ⟨⟨some 93, (.mov (.t 10)), some (92, false)⟩, {}⟩, ⟨⟨some 94, (.un .not (.t 93)), some (92, false)⟩, {}⟩, .s 95 (.pick (.t 92) (.c (B true)) (.t 94))] none) ref02_edit_C20) ref02_edit_C21)
def ref02_edit_C8 : TC := (.seq (.rg [.m 85 4, .s 86 (.slc 1 (.t 85) (some (.c (I 6))) none), .s 87 (.call (.c (.fn 63 [])) [(.t 86)]), .m 84 87, .s 88 (.extr 0 (.t 84)), .s 89 (.extr 1 (.t 84)), .m 9 88, .m 10 89] none) ref02_edit_C15)
def ref02_edit_C1 : TC := (.seq (.rg [.m 79 4, .s 80 (.slc 1 (.t 79) (some (.c (I 1))) (some (.c (I 5)))), .s 81 (.call (.c (.fn 63 [])) [(.t 80)]), .m 78 81, .s 82 (.extr 0 (.t 78)), .s 83 (.extr 1 (.t 78)), .m 7 82, .m 8 83] none) ref02_edit_C8)
def ref02_edit_C9 : TC := .ret
def ref02_edit_C2 : TC := (.seq (.rg [.s 203 (.build [(I 0), (I 0), (B false), (I 0), (I 0), (I 0), (I 0), (B false), (B false), (I 0), (I 0), (I 0), (I 0), (I 0), (I 0), (I 0)] []), .d (.store 16 (.t 2) (.t 203)), .s 3 (.mov (.c (B false)))] none) ref02_edit_C9)
def ref02_edit_C22 : TC := .ret
def ref02_edit_C16 : TC := (.cond (.t 184) (.seq (.rg [.s 185 (.build [(I 0), (I 0), (B false), (I 0), (I 0), (I 0), (I 0), (B false), (B false), (I 0), (I 0), (I 0), (I 0), (I 0), (I 0), (I 0)] []), .d (.store 16 (.t 2) (.t 185)), .s 3 (.mov (.c (B false)))] none) ref02_edit_C22) .skip)
def ref02_edit_C28 : TC := (.cond (.t 200) (.rg [.s 201 (.fadr 0 (.t 16)), .d (.store 1 (.t 201) (.c (I 6)))] none) .skip)
def ref02_edit_C33 : TC := .ret
def ref02_edit_C29 : TC := (.seq (.rg [.s 202 (.load true 16 (.t 16)), .d (.store 16 (.t 2) (.t 202)), .s 3 (.mov (.c (B true)))] none) ref02_edit_C33)
def ref02_edit_C23 : TC := (.seq (.seq (.rg [.m 197 4, .s 198 (.iadrS 1 (.t 197) (.c (I 0))), .s 199 (.load false 1 (.t 198)), .s 200 (.bin .eql (.t 199) (.c (.v (.string ⟨⟨[108, 105, 102, 116]⟩⟩))))] none) ref02_edit_C28) ref02_edit_C29)
def ref02_edit_C17 : TC := (.seq (.pre [.wait] (.rg [.m 186 14, .s 187 (.iadrS 1 (.t 186) (.c (I 0))), .s 188 (.load false 1 (.t 187)), .m 189 14, .s 190 (.iadrS 1 (.t 189) (.c (I 1))), .s 191 (.load false 1 (.t 190)), .m 192 14, .s 193 (.iadrS 1 (.t 192) (.c (I 2))), .s 194 (.load false 1 (.t 193)), .s 195 (.build [(I 0), (I
  0)] [(0, (1, (.t 191))), (1, (1, (.t 194)))]), .s 196 (.build [(I 0), (I 0), (B false), (I 0), (I 0), (I 0), (I 0), (B false), (B false), (I 0), (I 0), (I 0), (I 0), (I 0), (I 0), (I 0)] [(0, (1, (.c (I 5)))), (13, (1, (.t 188))), (14, (2, (.t 195)))]), ⟨⟨some 16, (.alloc [(I 0), (I 0), (B false),
  (I 0), (I 0), (I 0), (I 0), (B false), (B false), (I 0), (I 0), (I 0), (I 0), (I 0), (I 0), (I 0)]), none⟩, ⟨.unit, some 1, []⟩⟩, .d (.store 16 (.t 16) (.t 196))] (some [(1, 11), (2, 11), (4, 11), (5, 11), (7, 11), (8, 11)]))) ref02_edit_C23)
def ref02_edit_C10 : TC := (.seq (.seq (.rg [.m 183 15, .s 184 (.un .not (.t 183))] none) ref02_edit_C16) ref02_edit_C17)
def ref02_edit_C3 : TC := (.seq (.rg [.m 178 4, .s 179 (.slc 1 (.t 178) (some (.c (I 1))) none), .s 180 (.call (.c (.fn 63 [])) [(.t 179)]), .m 177 180, .s 181 (.extr 0 (.t 177)), .s 182 (.extr 1 (.t 177)), .m 14 181, .m 15 182] none) ref02_edit_C10)
def ref02_edit_C11 : TC := (.cond (.t 161) (.join [.wk 4 (.list .str), .keep [2, 4], .cmp] ref02_edit_C3) .skip)
def ref02_edit_C4 : TC := (.seq (.rg [.m 162 4, .s 163 (.iadrS 1 (.t 162) (.c (I 0))), .s 164 (.load false 1 (.t 163)), .s 165 (.bin .eql (.t 164) (.c (.v (.string ⟨⟨[114, 101, 115, 116]⟩⟩)))), .m 166 165, ⟨⟨some 167, (.mov (.t 4)), some (166, false)⟩, {}⟩, ⟨⟨some 168, (.iadrS 1 (.t 167) (.c (I 0))), some (166, false)⟩, {}⟩,
  ⟨⟨some 169, (.load false 1 (.t 168)), some (166, false)⟩, {}⟩, ⟨⟨some 170, (.bin .eql (.t 169) (.c (.v (.string ⟨⟨[108, 105, 102, 116]⟩⟩)))), some (166, false)⟩, {}⟩, .s 171 (.pick (.t 166) (.c (B true)) (.t 170)), .m 172 171, ⟨⟨some 173, (.mov (.t 4)), some (172, true)⟩, {}⟩, ⟨⟨some 174, (.len (.t
  173)), some (172, true)⟩, {}⟩, ⟨⟨some 175, (.bin .eql (.t 174) (.c (I 4))), some (172, true)⟩, {}⟩, .s 176 (.pick (.t 172) (.t 175) (.c (B false))), .m 161 176] none) ref02_edit_C11)
def ref02_edit_C30 : TC := (.cond (.t 157) (.rg [.s 158 (.fadr 0 (.t 13)), .d (.store 1 (.t 158) (.c (I 4)))] none) .skip)
def ref02_edit_C34 : TC := .ret
def ref02_edit_C31 : TC := (.seq (.rg [.s 159 (.load true 16 (.t 13)), .m 160 12, .d (.store 16 (.t 2) (.t 159)), .m 3 160] none) ref02_edit_C34)
def ref02_edit_C24 : TC := (.seq (.seq (.rg [.m 154 4, .s 155 (.iadrS 1 (.t 154) (.c (I 0))), .s 156 (.load false 1 (.t 155)), .s 157 (.bin .eql (.t 156) (.c (.v (.string ⟨⟨[111, 112, 101, 110]⟩⟩))))] none) ref02_edit_C30) ref02_edit_C31)
def ref02_edit_C18 : TC := (.seq (.rg [.m 152 11, .s 153 (.build [(I 0), (I 0), (B false), (I 0), (I 0), (I 0), (I 0), (B false), (B false), (I 0), (I 0), (I 0), (I 0), (I 0), (I 0), (I 0)] [(0, (1, (.c (I 3)))), (13, (1, (.t 152)))]), .s 13 (.alloc [(I 0), (I 0), (B false), (I 0), (I 0), (I 0), (I 0), (B false), (B false), (I
  0), (I 0), (I 0), (I 0), (I 0), (I 0), (I 0)]), .d (.store 16 (.t 13) (.t 153))] none) ref02_edit_C24)
def ref02_edit_C12 : TC := (.cond (.t 129) (.seq (.rg [.m 146 4, .s 147 (.iadrS 1 (.t 146) (.c (I 1))), .s 148 (.load false 1 (.t 147)), .s 149 (.call (.c (.fn 52 [])) [(.t 148)]), .m 145 149, .s 150 (.extr 0 (.t 145)), .s 151 (.extr 1 (.t 145)), .m 11 150, .m 12 151] none) ref02_edit_C18) (.join [.wk 4 (.list .str), .keep [2,
  4], .cmp] ref02_edit_C4))
def ref02_edit_C5 : TC := (.seq (.rg [.m 130 4, .s 131 (.iadrS 1 (.t 130) (.c (I 0))), .s 132 (.load false 1 (.t 131)), .s 133 (.bin .eql (.t 132) (.c (.v (.string ⟨⟨[99, 108, 111, 115, 101]⟩⟩)))), .m 134 133, ⟨⟨some 135, (.mov (.t 4)), some (134, false)⟩, {}⟩, ⟨⟨some 136, (.iadrS 1 (.t 135) (.c (I 0))), some (134, false)⟩,
  {}⟩, ⟨⟨some 137, (.load false 1 (.t 136)), some (134, false)⟩, {}⟩, ⟨⟨some 138, (.bin .eql (.t 137) (.c (.v (.string ⟨⟨[111, 112, 101, 110]⟩⟩)))), some (134, false)⟩, {}⟩, .s 139 (.pick (.t 134) (.c (B true)) (.t 138)), .m 140 139, ⟨⟨some 141, (.mov (.t 4)), some (140, true)⟩, {}⟩, ⟨⟨some 142,
  (.len (.t 141)), some (140, true)⟩, {}⟩, ⟨⟨some 143, (.bin .eql (.t 142) (.c (I 2))), some (140, true)⟩, {}⟩, .s 144 (.pick (.t 140) (.t 143) (.c (B false))), .m 129 144] none) ref02_edit_C12)
def ref02_edit_C13 : TC := (.cond (.t 56) (.join [.wk 4 (.list .str), .keep [2, 4], .cmp] ref02_edit_C1) (.join [.wk 4 (.list .str), .keep [2, 4], .cmp] ref02_edit_C5))
def ref02_edit_C6 : TC := (.seq (.rg [.m 57 4, .s 58 (.iadrS 1 (.t 57) (.c (I 0))), .s 59 (.load false 1 (.t 58)), .s 60 (.bin .eql (.t 59) (.c (.v (.string ⟨⟨[114, 111, 97, 100]⟩⟩)))), .m 61 60, ⟨⟨some 62, (.mov (.t 4)), some (61, true)⟩, {}⟩, ⟨⟨some 63, (.len (.t 62)), some (61, true)⟩, {}⟩, ⟨⟨some 64, (.bin .eql (.t 63)
  (.c (I 10))), some (61, true)⟩, {}⟩, .s 65 (.pick (.t 61) (.t 64) (.c (B false))), .m 66 65, ⟨⟨some 67, (.mov (.t 4)), some (66, true)⟩, {}⟩, ⟨⟨some 68, (.iadrS 1 (.t 67) (.c (I 5))), some (66, true)⟩, {}⟩, ⟨⟨some 69, (.load false 1 (.t 68)), some (66, true)⟩, {}⟩, ⟨⟨some 70, (.bin .eql (.t 69) (.c
  (.v (.string ⟨⟨[119, 97, 108, 107]⟩⟩)))), some (66, true)⟩, {}⟩, ⟨⟨some 71, (.mov (.t 70)), some (66, true)⟩, {}⟩, ⟨⟨some 72, (.mov (.t 4)), some (71, false)⟩, {}⟩, ⟨⟨some 73, (.iadrS 1 (.t 72) (.c (I 5))), some (71, false)⟩, {}⟩, ⟨⟨some 74, (.load false 1 (.t 73)), some (71, false)⟩, {}⟩, ⟨⟨some
  75, (.bin .eql (.t 74) (.c (.v (.string ⟨⟨[109, 97, 99, 104, 105, 110, 101]⟩⟩)))), some (71, false)⟩, {}⟩, ⟨⟨some 76, (.pick (.t 71) (.c (B true)) (.t 75)), some (66, true)⟩, {}⟩, .s 77 (.pick (.t 66) (.t 76) (.c (B false))), .m 56 77] none) ref02_edit_C13)
def ref02_edit_C35 : TC := .ret
def ref02_edit_C32 : TC := (.seq (.rg [.m 48 5, .m 49 4, .s 50 (.iadrS 1 (.t 49) (.c (I 2))), .s 51 (.load false 1 (.t 50)), .s 52 (.bin .eql (.t 51) (.c (.v (.string ⟨⟨[115, 117, 114, 102, 97, 99, 101]⟩⟩)))), .s 53 (.build [(I 0), (B false)] [(0, (1, (.t 48))), (1, (1, (.t 52)))]), .s 54 (.build [(I 0), (I 0), (B false), (I
  0), (I 0), (I 0), (I 0), (B false), (B false), (I 0), (I 0), (I 0), (I 0), (I 0), (I 0), (I 0)] [(0, (1, (.c (I 1)))), (1, (2, (.t 53)))]), .m 55 6, .d (.store 16 (.t 2) (.t 54)), .m 3 55] none) ref02_edit_C35)
def ref02_edit_C25 : TC := (.cond (.t 19) (.seq (.rg [.m 42 4, .s 43 (.iadrS 1 (.t 42) (.c (I 1))), .s 44 (.load false 1 (.t 43)), .s 45 (.call (.c (.fn 52 [])) [(.t 44)]), .m 41 45, .s 46 (.extr 0 (.t 41)), .s 47 (.extr 1 (.t 41)), .m 5 46, .m 6 47] none) ref02_edit_C32) (.join [.wk 4 (.list .str), .keep [2, 4], .cmp]
  ref02_edit_C6))
def ref02_edit_C19 : TC := (.seq (.block 0 (.seq (.rg [.m 20 4, .s 21 (.iadrS 1 (.t 20) (.c (I 0))), .s 22 (.load false 1 (.t 21)), .s 23 (.bin .eql (.t 22) (.c (.v (.string ⟨⟨[112, 108, 97, 99, 101]⟩⟩)))), .m 24 23, ⟨⟨some 25, (.mov (.t 4)), some (24, true)⟩, {}⟩, ⟨⟨some 26, (.len (.t 25)), some (24, true)⟩, {}⟩, ⟨⟨some 27,
  (.bin .eql (.t 26) (.c (I 3))), some (24, true)⟩, {}⟩, .s 28 (.pick (.t 24) (.t 27) (.c (B false))), .m 29 28, ⟨⟨some 30, (.mov (.t 4)), some (29, true)⟩, {}⟩, ⟨⟨some 31, (.iadrS 1 (.t 30) (.c (I 2))), some (29, true)⟩, {}⟩, ⟨⟨some 32, (.load false 1 (.t 31)), some (29, true)⟩, {}⟩, ⟨⟨some 33,
  (.bin .eql (.t 32) (.c (.v (.string ⟨⟨[115, 117, 114, 102, 97, 99, 101]⟩⟩)))), some (29, true)⟩, {}⟩, ⟨⟨some 34, (.mov (.t 33)), some (29, true)⟩, {}⟩, ⟨⟨some 35, (.mov (.t 4)), some (34, false)⟩, {}⟩, ⟨⟨some 36, (.iadrS 1 (.t 35) (.c (I 2))), some (34, false)⟩, {}⟩, ⟨⟨some 37, (.load false 1 (.t
  36)), some (34, false)⟩, {}⟩, ⟨⟨some 38, (.bin .eql (.t 37) (.c (.v (.string ⟨⟨[98, 101, 108, 111, 119]⟩⟩)))), some (34, false)⟩, {}⟩, ⟨⟨some 39, (.pick (.t 34) (.c (B true)) (.t 38)), some (29, true)⟩, {}⟩, .s 40 (.pick (.t 29) (.t 39) (.c (B false))), .m 19 40] none) ref02_edit_C25))
  ref02_edit_C2)
def ref02_edit_C14 : TC := (.seq (.rg [.m 17 0, .s 18 (.call (.c (.fn 32 [])) [(.t 17), (.c (.v (.string ⟨⟨[32]⟩⟩)))]), .m 4 18] none) ref02_edit_C19)
def ref02_edit_C7 : TC := (.seq (.rg [.s 2 (.alloc [(I 0), (I 0), (B false), (I 0), (I 0), (I 0), (I 0), (B false), (B false), (I 0), (I 0), (I 0), (I 0), (I 0), (I 0), (I 0)]), .s 3 (.mov (.c (B false)))] none) ref02_edit_C14)
def ref02_edit_E (N : Nat) : List (Nat × Ent) := [(32, pureE [.str, .str] [(.list .str)] (fun x => strings_Split N x.1 x.2)), (52, pureE [.str] [(.int .i64), .bool] (fun x => ref02_number N x)), (63, pureE [(.list .str)] [(.list (.int .i64)), .bool] (fun x => ref02_numbers N x))]
def ref02_edit_J2 (N : Nat) (JM : Nat) (x30 : List (List UInt8)) (x31 x32 : Int) (x33 : Bool) (x34 x35 x36 x37 : Int) (x38 x39 : Bool) (x40 x41 x42 x43 x44 x45 x46 : Int) : Option (T_Edit × Bool) := joinN (run (ref02_edit_E N) N 0 ref02_edit_C1) JM ⟨[(2, .ptr 0 0 0), (4, .lst false .str x30)], [some (.box 0 [.int .i64 x31, .int .i64 x32, .bool x33, .int .i64 x34, .int .i64 x35, .int .i64 x36, .int .i64 x37, .bool x38, .bool x39, .int .i64 x40, .int .i64 x41, .int .i64 x42, .int .i64 x43, .int .i64 x44, .int .i64 x45, .int .i64 x46])]⟩ (blkK 0 (seqK (run (ref02_edit_E N) N 0 ref02_edit_C2) (fin [(.cell 2 true 16), (.t 3)] [G_Edit, .bool])))
def ref02_edit_J5 (N : Nat) (JM : Nat) (x134 : List (List UInt8)) (x135 x136 : Int) (x137 : Bool) (x138 x139 x140 x141 : Int) (x142 x143 : Bool) (x144 x145 x146 x147 x148 x149 x150 : Int) : Option (T_Edit × Bool) := joinN (run (ref02_edit_E N) N 0 ref02_edit_C3) JM ⟨[(2, .ptr 0 0 0), (4, .lst false .str x134)], [some (.box 0 [.int .i64 x135, .int .i64 x136, .bool x137, .int .i64 x138, .int .i64 x139, .int .i64 x140, .int .i64 x141, .bool x142, .bool x143, .int .i64 x144, .int .i64 x145, .int .i64 x146, .int .i64 x147, .int .i64 x148, .int .i64 x149, .int .i64 x150])]⟩ (blkK 0 (seqK (run (ref02_edit_E N) N 0 ref02_edit_C2) (fin [(.cell 2 true 16), (.t 3)] [G_Edit, .bool])))
def ref02_edit_J4 (N : Nat) (JM : Nat) (x116 : List (List UInt8)) (x117 x118 : Int) (x119 : Bool) (x120 x121 x122 x123 : Int) (x124 x125 : Bool) (x126 x127 x128 x129 x130 x131 x132 : Int) : Option (T_Edit × Bool) := joinN (run (ref02_edit_E N) N 0 ref02_edit_C4) JM ⟨[(2, .ptr 0 0 0), (4, .lst false .str x116)], [some (.box 0 [.int .i64 x117, .int .i64 x118, .bool x119, .int .i64 x120, .int .i64 x121, .int .i64 x122, .int .i64 x123, .bool x124, .bool x125, .int .i64 x126, .int .i64 x127, .int .i64 x128, .int .i64 x129, .int .i64 x130, .int .i64 x131, .int .i64 x132])]⟩ (blkK 0 (seqK (run (ref02_edit_E N) N 0 ref02_edit_C2) (fin [(.cell 2 true 16), (.t 3)] [G_Edit, .bool])))
def ref02_edit_J3 (N : Nat) (JM : Nat) (x95 : List (List UInt8)) (x96 x97 : Int) (x98 : Bool) (x99 x100 x101 x102 : Int) (x103 x104 : Bool) (x105 x106 x107 x108 x109 x110 x111 : Int) : Option (T_Edit × Bool) := joinN (run (ref02_edit_E N) N 0 ref02_edit_C5) JM ⟨[(2, .ptr 0 0 0), (4, .lst false .str x95)], [some (.box 0 [.int .i64 x96, .int .i64 x97, .bool x98, .int .i64 x99, .int .i64 x100, .int .i64 x101, .int .i64 x102, .bool x103, .bool x104, .int .i64 x105, .int .i64 x106, .int .i64 x107, .int .i64 x108, .int .i64 x109, .int .i64 x110, .int .i64 x111])]⟩ (blkK 0 (seqK (run (ref02_edit_E N) N 0 ref02_edit_C2) (fin [(.cell 2 true 16), (.t 3)] [G_Edit, .bool])))
def ref02_edit_J1 (N : Nat) (JM : Nat) (x11 : List (List UInt8)) (x12 x13 : Int) (x14 : Bool) (x15 x16 x17 x18 : Int) (x19 x20 : Bool) (x21 x22 x23 x24 x25 x26 x27 : Int) : Option (T_Edit × Bool) := joinN (run (ref02_edit_E N) N 0 ref02_edit_C6) JM ⟨[(2, .ptr 0 0 0), (4, .lst false .str x11)], [some (.box 0 [.int .i64 x12, .int .i64 x13, .bool x14, .int .i64 x15, .int .i64 x16, .int .i64 x17, .int .i64 x18, .bool x19, .bool x20, .int .i64 x21, .int .i64 x22, .int .i64 x23, .int .i64 x24, .int .i64 x25, .int .i64 x26, .int .i64 x27])]⟩ (blkK 0 (seqK (run (ref02_edit_E N) N 0 ref02_edit_C2) (fin [(.cell 2 true 16), (.t 3)] [G_Edit, .bool])))
theorem ref02_edit_J2_eq (N : Nat) (JM : Nat) (x30 : List (List UInt8)) (x31 x32 : Int) (x33 : Bool) (x34 x35 x36 x37 : Int) (x38 x39 : Bool) (x40 x41 x42 x43 x44 x45 x46 : Int) : ref02_edit_J2 N (JM + 1) x30 x31 x32 x33 x34 x35 x36 x37 x38 x39 x40 x41 x42 x43 x44 x45 x46 =
  bif slB 1 5 x30.length then
  Option.bind (ref02_numbers N ((x30.drop (1 : Int).toNat).take ((5 : Int).toNat - (1 : Int).toNat))) fun r48 =>
  bif slB 6 x30.length x30.length then
  Option.bind (ref02_numbers N (x30.drop (6 : Int).toNat)) fun r50 =>
  bif (!r48.2) then
    some ((0, ((0, false), ((0, (0, (0, (0, (false, (false, ((0, 0), (0, 0)))))))), (0, (0, 0))))), false)
  else
    bif (!r50.2) then
      some ((0, ((0, false), ((0, (0, (0, (0, (false, (false, ((0, 0), (0, 0)))))))), (0, (0, 0))))), false)
    else
      bif inB 0 r48.1.length then
      bif inB 1 r48.1.length then
      bif inB 2 r48.1.length then
      bif inB 3 r48.1.length then
      bif inB 5 x30.length then
      bif inB 0 r50.1.length then
      bif inB 1 r50.1.length then
      bif inB 2 r50.1.length then
      bif inB 3 r50.1.length then
      some ((2, ((0, false), (((r48.1.getD (0 : Int).toNat 0), ((r48.1.getD (1 : Int).toNat 0), ((r48.1.getD (2 : Int).toNat 0), ((r48.1.getD (3 : Int).toNat 0), (((x30.getD (5 : Int).toNat []) == ([119, 97, 108, 107] : List UInt8)), (false, (((r50.1.getD (0 : Int).toNat 0), (r50.1.getD (1 : Int).toNat 0)), ((r50.1.getD (2 : Int).toNat 0), (r50.1.getD (3 : Int).toNat 0))))))))), (0, (0, 0))))), true)
      else none
      else none
      else none
      else none
      else none
      else none
      else none
      else none
      else none
  else none
  else none := by kernel_rfl
theorem ref02_edit_J5_eq (N : Nat) (JM : Nat) (x134 : List (List UInt8)) (x135 x136 : Int) (x137 : Bool) (x138 x139 x140 x141 : Int) (x142 x143 : Bool) (x144 x145 x146 x147 x148 x149 x150 : Int) : ref02_edit_J5 N (JM + 1) x134 x135 x136 x137 x138 x139 x140 x141 x142 x143 x144 x145 x146 x147 x148 x149 x150 =
  bif slB 1 x134.length x134.length then
  Option.bind (ref02_numbers N (x134.drop (1 : Int).toNat)) fun r152 =>
  bif (!r152.2) then
    some ((0, ((0, false), ((0, (0, (0, (0, (false, (false, ((0, 0), (0, 0)))))))), (0, (0, 0))))), false)
  else
    bif inB 0 r152.1.length then
    let v153 := r152.1.getD (0 : Int).toNat 0
    bif inB 1 r152.1.length then
    let v154 := r152.1.getD (1 : Int).toNat 0
    bif inB 2 r152.1.length then
    let v155 := r152.1.getD (2 : Int).toNat 0
    bif inB 0 x134.length then
    bif ((x134.getD (0 : Int).toNat []) == ([108, 105, 102, 116] : List UInt8)) then
      some ((6, ((0, false), ((0, (0, (0, (0, (false, (false, ((0, 0), (0, 0)))))))), (v153, (v154, v155))))), true)
    else
      some ((5, ((0, false), ((0, (0, (0, (0, (false, (false, ((0, 0), (0, 0)))))))), (v153, (v154, v155))))), true)
    else none
    else none
    else none
    else none
  else none := by kernel_rfl
theorem ref02_edit_J4_eq (N : Nat) (JM : Nat) (x116 : List (List UInt8)) (x117 x118 : Int) (x119 : Bool) (x120 x121 x122 x123 : Int) (x124 x125 : Bool) (x126 x127 x128 x129 x130 x131 x132 : Int) : ref02_edit_J4 N (JM + 1) x116 x117 x118 x119 x120 x121 x122 x123 x124 x125 x126 x127 x128 x129 x130 x131 x132 =
  bif inB 0 x116.length then
  bif ((x116.getD (0 : Int).toNat []) == ([114, 101, 115, 116] : List UInt8)) then
    bif ((x116.length : Int) == 4) then
      ref02_edit_J5 N N x116 x117 x118 x119 x120 x121 x122 x123 x124 x125 x126 x127 x128 x129 x130 x131 x132
    else
      some ((0, ((0, false), ((0, (0, (0, (0, (false, (false, ((0, 0), (0, 0)))))))), (0, (0, 0))))), false)
  else
    bif inB 0 x116.length then
    bif ((x116.getD (0 : Int).toNat []) == ([108, 105, 102, 116] : List UInt8)) then
      bif ((x116.length : Int) == 4) then
        ref02_edit_J5 N N x116 x117 x118 x119 x120 x121 x122 x123 x124 x125 x126 x127 x128 x129 x130 x131 x132
      else
        some ((0, ((0, false), ((0, (0, (0, (0, (false, (false, ((0, 0), (0, 0)))))))), (0, (0, 0))))), false)
    else
      some ((0, ((0, false), ((0, (0, (0, (0, (false, (false, ((0, 0), (0, 0)))))))), (0, (0, 0))))), false)
    else none
  else none := by kernel_rfl
theorem ref02_edit_J3_eq (N : Nat) (JM : Nat) (x95 : List (List UInt8)) (x96 x97 : Int) (x98 : Bool) (x99 x100 x101 x102 : Int) (x103 x104 : Bool) (x105 x106 x107 x108 x109 x110 x111 : Int) : ref02_edit_J3 N (JM + 1) x95 x96 x97 x98 x99 x100 x101 x102 x103 x104 x105 x106 x107 x108 x109 x110 x111 =
  bif inB 0 x95.length then
  bif ((x95.getD (0 : Int).toNat []) == ([99, 108, 111, 115, 101] : List UInt8)) then
    bif ((x95.length : Int) == 2) then
      bif inB 1 x95.length then
      Option.bind (ref02_number N (x95.getD (1 : Int).toNat [])) fun r114 =>
      bif inB 0 x95.length then
      bif ((x95.getD (0 : Int).toNat []) == ([111, 112, 101, 110] : List UInt8)) then
        some ((4, ((0, false), ((0, (0, (0, (0, (false, (false, ((0, 0), (0, 0)))))))), (r114.1, (0, 0))))), r114.2)
      else
        some ((3, ((0, false), ((0, (0, (0, (0, (false, (false, ((0, 0), (0, 0)))))))), (r114.1, (0, 0))))), r114.2)
      else none
      else none
    else
      ref02_edit_J4 N N x95 x96 x97 x98 x99 x100 x101 x102 x103 x104 x105 x106 x107 x108 x109 x110 x111
  else
    bif inB 0 x95.length then
    bif ((x95.getD (0 : Int).toNat []) == ([111, 112, 101, 110] : List UInt8)) then
      bif ((x95.length : Int) == 2) then
        bif inB 1 x95.length then
        Option.bind (ref02_number N (x95.getD (1 : Int).toNat [])) fun r211 =>
        bif inB 0 x95.length then
        bif ((x95.getD (0 : Int).toNat []) == ([111, 112, 101, 110] : List UInt8)) then
          some ((4, ((0, false), ((0, (0, (0, (0, (false, (false, ((0, 0), (0, 0)))))))), (r211.1, (0, 0))))), r211.2)
        else
          some ((3, ((0, false), ((0, (0, (0, (0, (false, (false, ((0, 0), (0, 0)))))))), (r211.1, (0, 0))))), r211.2)
        else none
        else none
      else
        ref02_edit_J4 N N x95 x96 x97 x98 x99 x100 x101 x102 x103 x104 x105 x106 x107 x108 x109 x110 x111
    else
      ref02_edit_J4 N N x95 x96 x97 x98 x99 x100 x101 x102 x103 x104 x105 x106 x107 x108 x109 x110 x111
    else none
  else none := by kernel_rfl
theorem ref02_edit_J1_eq (N : Nat) (JM : Nat) (x11 : List (List UInt8)) (x12 x13 : Int) (x14 : Bool) (x15 x16 x17 x18 : Int) (x19 x20 : Bool) (x21 x22 x23 x24 x25 x26 x27 : Int) : ref02_edit_J1 N (JM + 1) x11 x12 x13 x14 x15 x16 x17 x18 x19 x20 x21 x22 x23 x24 x25 x26 x27 =
  bif inB 0 x11.length then
  bif ((x11.getD (0 : Int).toNat []) == ([114, 111, 97, 100] : List UInt8)) then
    bif ((x11.length : Int) == 10) then
      bif inB 5 x11.length then
      bif ((x11.getD (5 : Int).toNat []) == ([119, 97, 108, 107] : List UInt8)) then
        ref02_edit_J2 N N x11 x12 x13 x14 x15 x16 x17 x18 x19 x20 x21 x22 x23 x24 x25 x26 x27
      else
        bif inB 5 x11.length then
        bif ((x11.getD (5 : Int).toNat []) == ([109, 97, 99, 104, 105, 110, 101] : List UInt8)) then
          ref02_edit_J2 N N x11 x12 x13 x14 x15 x16 x17 x18 x19 x20 x21 x22 x23 x24 x25 x26 x27
        else
          ref02_edit_J3 N N x11 x12 x13 x14 x15 x16 x17 x18 x19 x20 x21 x22 x23 x24 x25 x26 x27
        else none
      else none
    else
      ref02_edit_J3 N N x11 x12 x13 x14 x15 x16 x17 x18 x19 x20 x21 x22 x23 x24 x25 x26 x27
  else
    ref02_edit_J3 N N x11 x12 x13 x14 x15 x16 x17 x18 x19 x20 x21 x22 x23 x24 x25 x26 x27
  else none := by kernel_rfl
def ref02_edit (N : Nat) (a0 : List UInt8) : Option (T_Edit × Bool) :=
  Option.bind (strings_Split N a0 [32]) fun r1 =>
  bif inB 0 r1.length then
  bif ((r1.getD (0 : Int).toNat []) == ([112, 108, 97, 99, 101] : List UInt8)) then
    bif ((r1.length : Int) == 3) then
      bif inB 2 r1.length then
      bif ((r1.getD (2 : Int).toNat []) == ([115, 117, 114, 102, 97, 99, 101] : List UInt8)) then
        bif inB 1 r1.length then
        Option.bind (ref02_number N (r1.getD (1 : Int).toNat [])) fun r5 =>
        bif inB 2 r1.length then
        some ((1, ((r5.1, ((r1.getD (2 : Int).toNat []) == ([115, 117, 114, 102, 97, 99, 101] : List UInt8))), ((0, (0, (0, (0, (false, (false, ((0, 0), (0, 0)))))))), (0, (0, 0))))), r5.2)
        else none
        else none
      else
        bif inB 2 r1.length then
        bif ((r1.getD (2 : Int).toNat []) == ([98, 101, 108, 111, 119] : List UInt8)) then
          bif inB 1 r1.length then
          Option.bind (ref02_number N (r1.getD (1 : Int).toNat [])) fun r9 =>
          bif inB 2 r1.length then
          some ((1, ((r9.1, ((r1.getD (2 : Int).toNat []) == ([115, 117, 114, 102, 97, 99, 101] : List UInt8))), ((0, (0, (0, (0, (false, (false, ((0, 0), (0, 0)))))))), (0, (0, 0))))), r9.2)
          else none
          else none
        else
          ref02_edit_J1 N N r1 0 0 false 0 0 0 0 false false 0 0 0 0 0 0 0
        else none
      else none
    else
      ref02_edit_J1 N N r1 0 0 false 0 0 0 0 false false 0 0 0 0 0 0 0
  else
    ref02_edit_J1 N N r1 0 0 false 0 0 0 0 false false 0 0 0 0 0 0 0
  else none
theorem ref02_edit_fn : FnOK Tryd.prog 53 204 (fun _ : Nat => false) ref02_edit_C7.er [(.cell 2 true 16), (.t 3)] := FnOK.mk' Tryd.func53 (by kernel_rfl) (by kernel_rfl) (by kernel_rfl) (by kernel_rfl) (by kernel_rfl)
theorem ref02_edit_envok (N : Nat) : EnvOK Tryd.prog (ref02_edit_E N) := .cons (pureE_ok (strings_Split_pure N)) (.cons (pureE_ok (ref02_number_pure N)) (.cons (pureE_ok (ref02_numbers_pure N)) (.nil)))
theorem ref02_edit_pure (N : Nat) : PureOK Tryd.prog 53 [.str] [G_Edit, .bool] (fun x => ref02_edit N x) := pureOK (N := N) mixed ref02_edit_fn (ref02_edit_envok N) (TC.noh_ok (by kernel_rfl)) rfl (fun x => by kernel_rfl)
end M
end Go.Proofs.YtipokcccpbcmeaaDoor
