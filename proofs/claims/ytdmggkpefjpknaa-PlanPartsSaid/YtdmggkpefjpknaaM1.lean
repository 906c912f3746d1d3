/- Plain models of functions of this seat, each checked against the loaded program and the walk by the kernel. No condition: closed facts. Printed by a program of ours. -/
import Derived.Test.YtdmggkpefjpknaaNs
import Derived.Test.YtdmggkpefjpknaaRows
set_option linter.all false
namespace Go.Proofs.Ytdmggkpefjpknaa
open Go.Pv
namespace M
theorem mixed : Try.prog.follows .mixedOrders = true := Try.checked.mixed
theorem brB_cond {α : Type} (b : Bool) (x y : α) : brB b x y = (bif b then x else y) := by cases b <;> rfl
abbrev G_boundsError : GT := (.pair (.int .i64) (.pair (.int .i64) (.pair .bool (.int .u8))))
abbrev T_boundsError := Int × Int × Bool × Int
abbrev D_boundsError : T_boundsError := (0, (0, (false, 0)))
abbrev G_errorAddressString : GT := (.pair .str (.int .u64))
abbrev T_errorAddressString := ByteArray × Int
abbrev D_errorAddressString : T_errorAddressString := (ByteArray.empty, 0)
abbrev G_Place : GT := (.pair (.int .i64) .bool)
abbrev T_Place := Int × Bool
abbrev D_Place : T_Place := (0, false)
abbrev G_Span : GT := (.pair (.int .i64) (.int .i64))
abbrev T_Span := Int × Int
abbrev D_Span : T_Span := (0, 0)
abbrev G_Road : GT := (.pair (.int .i64) (.pair (.int .i64) (.pair (.int .i64) (.pair (.int .i64) (.pair .bool (.pair .bool (.pair G_Span (.pair (.int .i64) (.int .i64)))))))))
abbrev T_Road := Int × Int × Int × Int × Bool × Bool × T_Span × Int × Int
abbrev D_Road : T_Road := (0, (0, (0, (0, (false, (false, (D_Span, (0, 0))))))))
abbrev G_Mine : GT := (.pair (.list G_Place) (.list G_Road))
abbrev T_Mine := (List T_Place) × List T_Road
abbrev D_Mine : T_Mine := ([], [])
abbrev G_Edit : GT := (.pair (.int .i64) (.pair G_Place (.pair G_Road (.pair (.int .i64) (.pair (.int .i64) (.int .i64))))))
abbrev T_Edit := Int × T_Place × T_Road × Int × Int × Int
abbrev D_Edit : T_Edit := (0, (D_Place, (D_Road, (0, (0, 0)))))
abbrev G_Codes : GT := (.pair (.list (.int .u8)) (.int .i64))
abbrev T_Codes := (List Int) × Int
abbrev D_Codes : T_Codes := ([], 0)
/-! draw_Mod -/
def draw_Mod_C5 : TC := .ret
def draw_Mod_C3 : TC := (.cond (.t 6) (.seq (.rg [⟨⟨some 4, (.mov (.c (I 0))), none⟩, {}⟩] none) draw_Mod_C5) .skip)
def draw_Mod_C7 : TC := (.cond (.t 11) (.rg [⟨⟨some 12, (.mov (.t 0)), none⟩, {}⟩, ⟨⟨some 13, (.mov (.t 1)), none⟩, {}⟩, ⟨⟨some 14, (.bin .add (.t 12) (.t 13)), none⟩, {}⟩, ⟨⟨some 0, (.mov (.t 14)), none⟩, {}⟩] none) .skip)
def draw_Mod_C9 : TC := .ret
def draw_Mod_C8 : TC := (.seq (.rg [⟨⟨some 15, (.mov (.t 0)), none⟩, {}⟩, ⟨⟨some 4, (.mov (.t 15)), none⟩, {}⟩] none) draw_Mod_C9)
def draw_Mod_C6 : TC := (.seq (.seq (.rg [⟨⟨some 10, (.mov (.t 0)), none⟩, {}⟩, ⟨⟨some 11, (.bin .lss (.t 10) (.c (I 0))), none⟩, {}⟩] none) draw_Mod_C7) draw_Mod_C8)
def draw_Mod_C4 : TC := (.seq (.rg [⟨⟨some 7, (.mov (.t 0)), none⟩, {}⟩, ⟨⟨some 8, (.mov (.t 1)), none⟩, {}⟩, ⟨⟨some 9, (.bin .rem (.t 7) (.t 8)), none⟩, {}⟩, ⟨⟨some 0, (.mov (.t 9)), none⟩, {}⟩] none) draw_Mod_C6)
def draw_Mod_C2 : TC := (.seq (.seq (.rg [⟨⟨some 5, (.mov (.t 1)), none⟩, {}⟩, ⟨⟨some 6, (.bin .lss (.t 5) (.c (I 1))), none⟩, {}⟩] none) draw_Mod_C3) draw_Mod_C4)
def draw_Mod_C1 : TC := (.seq (.rg [⟨⟨some 4, (.mov (.c (I 0))), none⟩, {}⟩] none) draw_Mod_C2)
def draw_Mod_E (N : Nat) : List (Nat × Ent) := []
def draw_Mod (N : Nat) (a0 : Int) (a1 : Int) : Option Int :=
  bif (decide (a1 < 1)) then
    some 0
  else
    bif a1 == 0 then none else
    bif (decide ((a0.tmod a1) < 0)) then
      some (W ((a0.tmod a1) + a1))
    else
      some (a0.tmod a1)
theorem draw_Mod_fn : FnOK Try.prog 18 16 (fun _ : Nat => false) draw_Mod_C1.er [(.t 4)] := FnOK.mk' Try.func18 (by kernel_rfl) (by kernel_rfl) (by kernel_rfl) (by kernel_rfl) (by kernel_rfl)
theorem draw_Mod_envok (N : Nat) : EnvOK Try.prog (draw_Mod_E N) := .nil
theorem draw_Mod_pure (N : Nat) : PureOK Try.prog 18 [(.int .i64), (.int .i64)] [(.int .i64)] (fun x => draw_Mod N x.1 x.2) := pureOK (N := N) mixed draw_Mod_fn (draw_Mod_envok N) (TC.noh_ok (by kernel_rfl)) rfl (fun x => by kernel_rfl)
/-! ref01_Copy -/
def ref01_Copy_NE : List NS := [.ownc 2 0 G_Place, .ownc 2 1 G_Road, .keep [2], .out []]
def ref01_Copy_C4 : TC := .ret
def ref01_Copy_C3 : TC := (.pre [.ownc 2 0 G_Place, .ownc 2 1 G_Road, .keep [2], .out []] ref01_Copy_C4)
def ref01_Copy_C2 : TC := (.seq (.pre [.ghost G_Place, .ghost G_Road] (.rg [⟨⟨some 3, (.fadr 0 (.t 1)), none⟩, {}⟩, ⟨⟨some 4, (.load false 1 (.t 3)), none⟩, {}⟩, ⟨⟨some 5, (.app 2 16 (.c (.lst true [])) (.t 4)), none⟩, ⟨.unit, some 2⟩⟩, ⟨⟨some 6, (.fadr 1 (.t 1)), none⟩, {}⟩, ⟨⟨some 7, (.load false 1 (.t 6)), none⟩, {}⟩,
  ⟨⟨some 8, (.app 10 72 (.c (.lst true [])) (.t 7)), none⟩, ⟨.unit, some 3⟩⟩, ⟨⟨some 9, (.build [(.lst true []), (.lst true [])] [(0, (1, (.t 5))), (1, (1, (.t 8)))]), none⟩, {}⟩, ⟨⟨none, (.store 2 (.t 2) (.t 9)), none⟩, {}⟩] (some [(2, 3), (2, 4)]))) ref01_Copy_C3)
def ref01_Copy_C1 : TC := (.seq (.rg [⟨⟨some 1, (.box (.t 0)), none⟩, {}⟩, ⟨⟨some 2, (.alloc [(.lst true []), (.lst true [])]), none⟩, {}⟩] none) ref01_Copy_C2)
def ref01_Copy_E (N : Nat) : List (Nat × Ent) := []
def ref01_Copy (N : Nat) (a0 : T_Mine) : Option (T_Mine × Unit) :=
  bif fitsB a0.1.length 16 then
  bif fitsB a0.2.length 72 then
  some (a0, ())
  else none
  else none
theorem ref01_Copy_fn : FnOK Try.prog 36 10 (fun _ : Nat => false) ref01_Copy_C1.er [(.cell 2 true 2)] := FnOK.mk' Try.func36 (by kernel_rfl) (by kernel_rfl) (by kernel_rfl) (by kernel_rfl) (by kernel_rfl)
theorem ref01_Copy_envok (N : Nat) : EnvOK Try.prog (ref01_Copy_E N) := .nil
theorem ref01_Copy_sf (N : Nat) : SFOK Try.prog 36 [none] [.v G_Mine] [.o (.p (.a G_Place) (.a G_Road))] (fun x => ref01_Copy N x) := sfOK (N := N) (p := 0) (q := 0) (ns := ref01_Copy_NE) mixed ref01_Copy_fn (ref01_Copy_envok N) (TC.noh_ok (by kernel_rfl)) rfl rfl rfl (fun x => by kernel_rfl)
/-! law01_spoilt -/
def law01_spoilt_C22 : TC := (.cond (.t 86) (.rg [⟨⟨some 88, (.mov (.t 7)), none⟩, {}⟩, ⟨⟨some 89, (.mov (.t 2)), none⟩, {}⟩, ⟨⟨some 90, (.nilck (.t 88)), none⟩, {}⟩, ⟨⟨some 91, (.fadr 8 (.t 90)), none⟩, {}⟩, ⟨⟨some 92, (.fadr 1 (.t 91)), none⟩, {}⟩, ⟨⟨none, (.store 1 (.t 92) (.t 89)), none⟩, {}⟩] none) .skip)
def law01_spoilt_C21 : TC := (.cond (.t 79) (.rg [⟨⟨some 81, (.mov (.t 7)), none⟩, {}⟩, ⟨⟨some 82, (.mov (.t 2)), none⟩, {}⟩, ⟨⟨some 83, (.nilck (.t 81)), none⟩, {}⟩, ⟨⟨some 84, (.fadr 8 (.t 83)), none⟩, {}⟩, ⟨⟨some 85, (.fadr 0 (.t 84)), none⟩, {}⟩, ⟨⟨none, (.store 1 (.t 85) (.t 82)), none⟩, {}⟩] none) (.seq (.rg [⟨⟨some 87,
  (.bin .eql (.t 40) (.c (I 8))), none⟩, {}⟩, ⟨⟨some 86, (.mov (.t 87)), none⟩, {}⟩] none) law01_spoilt_C22))
def law01_spoilt_C20 : TC := (.cond (.t 72) (.rg [⟨⟨some 74, (.mov (.t 7)), none⟩, {}⟩, ⟨⟨some 75, (.mov (.t 2)), none⟩, {}⟩, ⟨⟨some 76, (.nilck (.t 74)), none⟩, {}⟩, ⟨⟨some 77, (.fadr 6 (.t 76)), none⟩, {}⟩, ⟨⟨some 78, (.fadr 1 (.t 77)), none⟩, {}⟩, ⟨⟨none, (.store 1 (.t 78) (.t 75)), none⟩, {}⟩] none) (.seq (.rg [⟨⟨some 80,
  (.bin .eql (.t 40) (.c (I 7))), none⟩, {}⟩, ⟨⟨some 79, (.mov (.t 80)), none⟩, {}⟩] none) law01_spoilt_C21))
def law01_spoilt_C19 : TC := (.cond (.t 65) (.rg [⟨⟨some 67, (.mov (.t 7)), none⟩, {}⟩, ⟨⟨some 68, (.mov (.t 2)), none⟩, {}⟩, ⟨⟨some 69, (.nilck (.t 67)), none⟩, {}⟩, ⟨⟨some 70, (.fadr 6 (.t 69)), none⟩, {}⟩, ⟨⟨some 71, (.fadr 0 (.t 70)), none⟩, {}⟩, ⟨⟨none, (.store 1 (.t 71) (.t 68)), none⟩, {}⟩] none) (.seq (.rg [⟨⟨some 73,
  (.bin .eql (.t 40) (.c (I 6))), none⟩, {}⟩, ⟨⟨some 72, (.mov (.t 73)), none⟩, {}⟩] none) law01_spoilt_C20))
def law01_spoilt_C17 : TC := (.cond (.t 59) (.rg [⟨⟨some 61, (.mov (.t 7)), none⟩, {}⟩, ⟨⟨some 62, (.mov (.t 2)), none⟩, {}⟩, ⟨⟨some 63, (.nilck (.t 61)), none⟩, {}⟩, ⟨⟨some 64, (.fadr 3 (.t 63)), none⟩, {}⟩, ⟨⟨none, (.store 1 (.t 64) (.t 62)), none⟩, {}⟩] none) (.seq (.rg [⟨⟨some 66, (.bin .eql (.t 40) (.c (I 5))), none⟩, {}⟩,
  ⟨⟨some 65, (.mov (.t 66)), none⟩, {}⟩] none) law01_spoilt_C19))
def law01_spoilt_C15 : TC := (.cond (.t 53) (.rg [⟨⟨some 55, (.mov (.t 7)), none⟩, {}⟩, ⟨⟨some 56, (.mov (.t 2)), none⟩, {}⟩, ⟨⟨some 57, (.nilck (.t 55)), none⟩, {}⟩, ⟨⟨some 58, (.fadr 2 (.t 57)), none⟩, {}⟩, ⟨⟨none, (.store 1 (.t 58) (.t 56)), none⟩, {}⟩] none) (.seq (.rg [⟨⟨some 60, (.bin .eql (.t 40) (.c (I 4))), none⟩, {}⟩,
  ⟨⟨some 59, (.mov (.t 60)), none⟩, {}⟩] none) law01_spoilt_C17))
def law01_spoilt_C12 : TC := (.cond (.t 47) (.rg [⟨⟨some 49, (.mov (.t 7)), none⟩, {}⟩, ⟨⟨some 50, (.mov (.t 2)), none⟩, {}⟩, ⟨⟨some 51, (.nilck (.t 49)), none⟩, {}⟩, ⟨⟨some 52, (.fadr 1 (.t 51)), none⟩, {}⟩, ⟨⟨none, (.store 1 (.t 52) (.t 50)), none⟩, {}⟩] none) (.seq (.rg [⟨⟨some 54, (.bin .eql (.t 40) (.c (I 3))), none⟩, {}⟩,
  ⟨⟨some 53, (.mov (.t 54)), none⟩, {}⟩] none) law01_spoilt_C15))
def law01_spoilt_C8 : TC := (.cond (.t 41) (.rg [⟨⟨some 43, (.mov (.t 7)), none⟩, {}⟩, ⟨⟨some 44, (.mov (.t 2)), none⟩, {}⟩, ⟨⟨some 45, (.nilck (.t 43)), none⟩, {}⟩, ⟨⟨some 46, (.fadr 0 (.t 45)), none⟩, {}⟩, ⟨⟨none, (.store 1 (.t 46) (.t 44)), none⟩, {}⟩] none) (.seq (.rg [⟨⟨some 48, (.bin .eql (.t 40) (.c (I 2))), none⟩, {}⟩,
  ⟨⟨some 47, (.mov (.t 48)), none⟩, {}⟩] none) law01_spoilt_C12))
def law01_spoilt_C5 : TC := (.block 0 (.seq (.rg [⟨⟨some 42, (.bin .eql (.t 40) (.c (I 1))), none⟩, {}⟩, ⟨⟨some 41, (.mov (.t 42)), none⟩, {}⟩] none) law01_spoilt_C8))
def law01_spoilt_C13 : TC := .ret
def law01_spoilt_C9 : TC := (.pre [.frzb 6] law01_spoilt_C13)
def law01_spoilt_C6 : TC := (.seq (.rg [⟨⟨some 93, (.load true 2 (.t 3)), none⟩, {}⟩, ⟨⟨none, (.store 2 (.t 6) (.t 93)), none⟩, {}⟩] none) law01_spoilt_C9)
def law01_spoilt_C3 : TC := (.seq (.seq (.rg [⟨⟨some 39, (.mov (.t 1)), none⟩, {}⟩, ⟨⟨some 40, (.call (.c (.fn 18 [])) [(.t 39), (.c (I 9))]), none⟩, {}⟩] none) law01_spoilt_C5) law01_spoilt_C6)
def law01_spoilt_C1 : TC := (.seq (.rg [⟨⟨some 30, (.fadr 1 (.t 3)), none⟩, {}⟩, ⟨⟨some 31, (.load false 1 (.t 30)), none⟩, {}⟩, ⟨⟨some 32, (.mov (.t 1)), none⟩, {}⟩, ⟨⟨some 33, (.bin .quo (.t 32) (.c (I 9))), none⟩, {}⟩, ⟨⟨some 34, (.fadr 1 (.t 3)), none⟩, {}⟩, ⟨⟨some 35, (.load false 1 (.t 34)), none⟩, {}⟩, ⟨⟨some 36, (.len
  (.t 35)), none⟩, {}⟩, ⟨⟨some 37, (.call (.c (.fn 18 [])) [(.t 33), (.t 36)]), none⟩, {}⟩, ⟨⟨some 38, (.iadrS 10 (.t 31) (.t 37)), none⟩, {}⟩, ⟨⟨some 7, (.mov (.t 38)), none⟩, {}⟩] (some [(0, 7), (1, 7)])) law01_spoilt_C3)
def law01_spoilt_C18 : TC := .ret
def law01_spoilt_C16 : TC := (.pre [.frzb 6] law01_spoilt_C18)
def law01_spoilt_C14 : TC := (.seq (.rg [⟨⟨some 29, (.load true 2 (.t 3)), none⟩, {}⟩, ⟨⟨none, (.store 2 (.t 6) (.t 29)), none⟩, {}⟩] none) law01_spoilt_C16)
def law01_spoilt_C10 : TC := (.cond (.t 18) (.seq (.rg [⟨⟨some 19, (.fadr 0 (.t 3)), none⟩, {}⟩, ⟨⟨some 20, (.load false 1 (.t 19)), none⟩, {}⟩, ⟨⟨some 21, (.mov (.t 1)), none⟩, {}⟩, ⟨⟨some 22, (.fadr 0 (.t 3)), none⟩, {}⟩, ⟨⟨some 23, (.load false 1 (.t 22)), none⟩, {}⟩, ⟨⟨some 24, (.len (.t 23)), none⟩, {}⟩, ⟨⟨some 25, (.call
  (.c (.fn 18 [])) [(.t 21), (.t 24)]), none⟩, {}⟩, ⟨⟨some 26, (.mov (.t 2)), none⟩, {}⟩, ⟨⟨some 27, (.iadrS 2 (.t 20) (.t 25)), none⟩, {}⟩, ⟨⟨some 28, (.fadr 0 (.t 27)), none⟩, {}⟩, ⟨⟨none, (.store 1 (.t 28) (.t 26)), none⟩, {}⟩] (some [(0, 6), (1, 6)])) law01_spoilt_C14) .skip)
def law01_spoilt_C11 : TC := (.join [.keep [1, 2, 3, 6], .cmp] law01_spoilt_C1)
def law01_spoilt_C7 : TC := (.seq (.seq (.rg [⟨⟨some 10, (.fadr 1 (.t 3)), none⟩, {}⟩, ⟨⟨some 11, (.load false 1 (.t 10)), none⟩, {}⟩, ⟨⟨some 12, (.len (.t 11)), none⟩, {}⟩, ⟨⟨some 13, (.bin .eql (.t 12) (.c (I 0))), none⟩, {}⟩, ⟨⟨some 14, (.mov (.t 13)), none⟩, {}⟩, ⟨⟨some 15, (.mov (.t 1)), some (14, false)⟩, {}⟩, ⟨⟨some 16,
  (.call (.c (.fn 18 [])) [(.t 15), (.c (I 9))]), some (14, false)⟩, {}⟩, ⟨⟨some 17, (.bin .eql (.t 16) (.c (I 0))), some (14, false)⟩, {}⟩, ⟨⟨some 18, (.pick (.t 14) (.c (B true)) (.t 17)), none⟩, {}⟩] none) law01_spoilt_C10) law01_spoilt_C11)
def law01_spoilt_C4 : TC := (.seq (.rg [⟨⟨some 8, (.load true 2 (.t 3)), none⟩, {}⟩, ⟨⟨some 9, (.call (.c (.fn 36 [])) [(.t 8)]), none⟩, {}⟩, ⟨⟨none, (.store 2 (.t 3) (.t 9)), none⟩, {}⟩] none) law01_spoilt_C7)
def law01_spoilt_C2 : TC := (.seq (.rg [⟨⟨some 3, (.box (.t 0)), none⟩, {}⟩, ⟨⟨some 6, (.alloc [(.lst true []), (.lst true [])]), none⟩, {}⟩] none) law01_spoilt_C4)
def law01_spoilt_E (N : Nat) : List (Nat × Ent) := [(36, sfE [none] [.v G_Mine] [.o (.p (.a G_Place) (.a G_Road))] (fun x => ref01_Copy N x)), (18, pureE [(.int .i64), (.int .i64)] [(.int .i64)] (fun x => draw_Mod N x.1 x.2))]
def law01_spoilt_J1 (N : Nat) (x9 : Int) (x10 : Int) (x11 : List T_Place) (x12 : List T_Road) : Option T_Mine := joinN (run (law01_spoilt_E N) N 0 law01_spoilt_C1) N ⟨[(1, .int .i64 x9), (2, .int .i64 x10), (3, .ptr 0 0 0), (6, .ptr 1 0 0)], [some (.box 0 [.whole 2, .whole 3]), some (.box 0 [.nil, .nil]), some (.arr G_Place x11), some (.arr G_Road x12)]⟩ (fin [(.cell 6 true 2)] [G_Mine])
theorem law01_spoilt_J1_eqM (N JM : Nat) (x9 : Int) (x10 : Int) (x11 : List T_Place) (x12 : List T_Road) : joinN (run (law01_spoilt_E N) N 0 law01_spoilt_C1) (JM + 1) ⟨[(1, .int .i64 x9), (2, .int .i64 x10), (3, .ptr 0 0 0), (6, .ptr 1 0 0)], [some (.box 0 [.whole 2, .whole 3]), some (.box 0 [.nil, .nil]), some (.arr G_Place x11), some (.arr G_Road x12)]⟩ (fin [(.cell 6 true 2)] [G_Mine]) =
  Option.bind (draw_Mod N (W (x9.tdiv 9)) (x12.length : Int)) fun r13 =>
  bif inB r13 x12.length then
  Option.bind (draw_Mod N x9 9) fun r14 =>
  bif (r14 == 1) then
    some (x11, (x12.set r13.toNat (x10, (x12.getD r13.toNat D_Road).2)))
  else
    bif (r14 == 2) then
      let v17 := x12.getD r13.toNat D_Road
      some (x11, (x12.set r13.toNat (v17.1, (x10, v17.2.2))))
    else
      bif (r14 == 3) then
        let v19 := x12.getD r13.toNat D_Road
        some (x11, (x12.set r13.toNat (v19.1, (v19.2.1, (x10, v19.2.2.2)))))
      else
        bif (r14 == 4) then
          let v21 := x12.getD r13.toNat D_Road
          some (x11, (x12.set r13.toNat (v21.1, (v21.2.1, (v21.2.2.1, (x10, v21.2.2.2.2))))))
        else
          bif (r14 == 5) then
            let v23 := x12.getD r13.toNat D_Road
            some (x11, (x12.set r13.toNat (v23.1, (v23.2.1, (v23.2.2.1, (v23.2.2.2.1, (v23.2.2.2.2.1, (v23.2.2.2.2.2.1, ((x10, v23.2.2.2.2.2.2.1.2), v23.2.2.2.2.2.2.2)))))))))
          else
            bif (r14 == 6) then
              let v25 := x12.getD r13.toNat D_Road
              some (x11, (x12.set r13.toNat (v25.1, (v25.2.1, (v25.2.2.1, (v25.2.2.2.1, (v25.2.2.2.2.1, (v25.2.2.2.2.2.1, ((v25.2.2.2.2.2.2.1.1, x10), v25.2.2.2.2.2.2.2)))))))))
            else
              bif (r14 == 7) then
                let v27 := x12.getD r13.toNat D_Road
                some (x11, (x12.set r13.toNat (v27.1, (v27.2.1, (v27.2.2.1, (v27.2.2.2.1, (v27.2.2.2.2.1, (v27.2.2.2.2.2.1, (v27.2.2.2.2.2.2.1, (x10, v27.2.2.2.2.2.2.2.2))))))))))
              else
                bif (r14 == 8) then
                  let v29 := x12.getD r13.toNat D_Road
                  some (x11, (x12.set r13.toNat (v29.1, (v29.2.1, (v29.2.2.1, (v29.2.2.2.1, (v29.2.2.2.2.1, (v29.2.2.2.2.2.1, (v29.2.2.2.2.2.2.1, (v29.2.2.2.2.2.2.2.1, x10))))))))))
                else
                  some (x11, x12)
  else none := by kernel_rfl
theorem law01_spoilt_J1_eq (N : Nat) (x9 : Int) (x10 : Int) (x11 : List T_Place) (x12 : List T_Road) : law01_spoilt_J1 (N + 1) x9 x10 x11 x12 =
  Option.bind (draw_Mod (N + 1) (W (x9.tdiv 9)) (x12.length : Int)) fun r13 =>
  bif inB r13 x12.length then
  Option.bind (draw_Mod (N + 1) x9 9) fun r14 =>
  bif (r14 == 1) then
    some (x11, (x12.set r13.toNat (x10, (x12.getD r13.toNat D_Road).2)))
  else
    bif (r14 == 2) then
      let v17 := x12.getD r13.toNat D_Road
      some (x11, (x12.set r13.toNat (v17.1, (x10, v17.2.2))))
    else
      bif (r14 == 3) then
        let v19 := x12.getD r13.toNat D_Road
        some (x11, (x12.set r13.toNat (v19.1, (v19.2.1, (x10, v19.2.2.2)))))
      else
        bif (r14 == 4) then
          let v21 := x12.getD r13.toNat D_Road
          some (x11, (x12.set r13.toNat (v21.1, (v21.2.1, (v21.2.2.1, (x10, v21.2.2.2.2))))))
        else
          bif (r14 == 5) then
            let v23 := x12.getD r13.toNat D_Road
            some (x11, (x12.set r13.toNat (v23.1, (v23.2.1, (v23.2.2.1, (v23.2.2.2.1, (v23.2.2.2.2.1, (v23.2.2.2.2.2.1, ((x10, v23.2.2.2.2.2.2.1.2), v23.2.2.2.2.2.2.2)))))))))
          else
            bif (r14 == 6) then
              let v25 := x12.getD r13.toNat D_Road
              some (x11, (x12.set r13.toNat (v25.1, (v25.2.1, (v25.2.2.1, (v25.2.2.2.1, (v25.2.2.2.2.1, (v25.2.2.2.2.2.1, ((v25.2.2.2.2.2.2.1.1, x10), v25.2.2.2.2.2.2.2)))))))))
            else
              bif (r14 == 7) then
                let v27 := x12.getD r13.toNat D_Road
                some (x11, (x12.set r13.toNat (v27.1, (v27.2.1, (v27.2.2.1, (v27.2.2.2.1, (v27.2.2.2.2.1, (v27.2.2.2.2.2.1, (v27.2.2.2.2.2.2.1, (x10, v27.2.2.2.2.2.2.2.2))))))))))
              else
                bif (r14 == 8) then
                  let v29 := x12.getD r13.toNat D_Road
                  some (x11, (x12.set r13.toNat (v29.1, (v29.2.1, (v29.2.2.1, (v29.2.2.2.1, (v29.2.2.2.2.1, (v29.2.2.2.2.2.1, (v29.2.2.2.2.2.2.1, (v29.2.2.2.2.2.2.2.1, x10))))))))))
                else
                  some (x11, x12)
  else none := law01_spoilt_J1_eqM (N + 1) N x9 x10 x11 x12
def law01_spoilt (N : Nat) (a0 : T_Mine) (a1 : Int) (a2 : Int) : Option T_Mine :=
  Option.bind (ref01_Copy N a0) fun r1 =>
  bif ((r1.1.2.length : Int) == 0) then
    Option.bind (draw_Mod N a1 (r1.1.1.length : Int)) fun r2 =>
    bif inB r2 r1.1.1.length then
    some ((r1.1.1.set r2.toNat (a2, (r1.1.1.getD r2.toNat D_Place).2)), r1.1.2)
    else none
  else
    Option.bind (draw_Mod N a1 9) fun r5 =>
    bif (r5 == 0) then
      Option.bind (draw_Mod N a1 (r1.1.1.length : Int)) fun r6 =>
      bif inB r6 r1.1.1.length then
      some ((r1.1.1.set r6.toNat (a2, (r1.1.1.getD r6.toNat D_Place).2)), r1.1.2)
      else none
    else
      law01_spoilt_J1 N a1 a2 r1.1.1 r1.1.2
theorem law01_spoilt_fn : FnOK Try.prog 9 94 (fun _ : Nat => false) law01_spoilt_C2.er [(.cell 6 true 2)] := FnOK.mk' Try.func9 (by kernel_rfl) (by kernel_rfl) (by kernel_rfl) (by kernel_rfl) (by kernel_rfl)
theorem law01_spoilt_envok (N : Nat) : EnvOK Try.prog (law01_spoilt_E N) := .cons (sfE_ok (ref01_Copy_sf N)) (.cons (pureE_ok (draw_Mod_pure N)) (.nil))
theorem law01_spoilt_pure (N : Nat) : PureOK Try.prog 9 [G_Mine, (.int .i64), (.int .i64)] [G_Mine] (fun x => law01_spoilt N x.1 x.2.1 x.2.2) := pureOK (N := N) mixed law01_spoilt_fn (law01_spoilt_envok N) (TC.noh_ok (by kernel_rfl)) rfl (fun x => by kernel_rfl)
/-! draw_New -/
def draw_New_NE : List NS := [.keep [2], .out []]
def draw_New_C4 : TC := .ret
def draw_New_C3 : TC := (.pre [.keep [2], .out []] draw_New_C4)
def draw_New_C2 : TC := (.seq (.rg [⟨⟨some 3, (.mov (.t 0)), none⟩, {}⟩, ⟨⟨some 4, (.mov (.t 0)), none⟩, {}⟩, ⟨⟨some 5, (.len (.t 4)), none⟩, {}⟩, ⟨⟨some 6, (.mm false [(.t 5), (.c (I 300))]), none⟩, {}⟩, ⟨⟨some 7, (.slc 1 (.t 3) none (some (.t 6))), none⟩, {}⟩, ⟨⟨some 8, (.build [(.lst true []), (I 0)] [(0, (1, (.t 7)))]),
  none⟩, {}⟩, ⟨⟨some 9, (.box (.t 8)), none⟩, {}⟩, ⟨⟨some 2, (.mov (.t 9)), none⟩, {}⟩] none) draw_New_C3)
def draw_New_C1 : TC := (.seq (.rg [⟨⟨some 2, (.mov (.c (.v (.pointer none)))), none⟩, {}⟩] none) draw_New_C2)
def draw_New_E (N : Nat) : List (Nat × Ent) := []
def draw_New (N : Nat) (a0 : List Int) : Option (T_Codes × Unit) :=
  let v1 := min (a0.length : Int) 300
  bif slB 0 v1 a0.length then
  some (((a0.take v1.toNat), 0), ())
  else none
theorem draw_New_fn : FnOK Try.prog 10 10 (fun _ : Nat => false) draw_New_C1.er [(.t 2)] := FnOK.mk' Try.func10 (by kernel_rfl) (by kernel_rfl) (by kernel_rfl) (by kernel_rfl) (by kernel_rfl)
theorem draw_New_envok (N : Nat) : EnvOK Try.prog (draw_New_E N) := .nil
theorem draw_New_sf (N : Nat) : SFOK Try.prog 10 [none] [.v (.list (.int .u8))] [.n G_Codes] (fun x => draw_New N x) := sfOK (N := N) (p := 0) (q := 0) (ns := draw_New_NE) mixed draw_New_fn (draw_New_envok N) (TC.noh_ok (by kernel_rfl)) rfl rfl rfl (fun x => by kernel_rfl)
/-! draw_Codes_Next -/
def draw_Codes_Next_NE : List NS := [.frzo 0, .keep [4], .out [0]]
def draw_Codes_Next_C11 : TC := (.rg [⟨⟨some 67, (.mov (.t 0)), none⟩, {}⟩, ⟨⟨some 68, (.nilck (.t 67)), none⟩, {}⟩, ⟨⟨some 69, (.fadr 1 (.t 68)), none⟩, {}⟩, ⟨⟨some 70, (.load false 1 (.t 69)), none⟩, {}⟩, ⟨⟨some 71, (.bin .add (.t 70) (.c (I 1))), none⟩, {}⟩, ⟨⟨some 72, (.nilck (.t 67)), none⟩, {}⟩, ⟨⟨some 73, (.fadr 1 (.t 72)),
  none⟩, {}⟩, ⟨⟨none, (.store 1 (.t 73) (.t 71)), none⟩, {}⟩] none)
def draw_Codes_Next_C8 : TC := (.cond (.t 52) (.seq (.rg [⟨⟨some 53, (.mov (.t 5)), none⟩, {}⟩, ⟨⟨some 54, (.bin .mul (.t 53) (.c (I 256))), none⟩, {}⟩, ⟨⟨some 55, (.mov (.t 0)), none⟩, {}⟩, ⟨⟨some 56, (.nilck (.t 55)), none⟩, {}⟩, ⟨⟨some 57, (.fadr 0 (.t 56)), none⟩, {}⟩, ⟨⟨some 58, (.load false 1 (.t 57)), none⟩, {}⟩, ⟨⟨some 59,
  (.mov (.t 0)), none⟩, {}⟩, ⟨⟨some 60, (.nilck (.t 59)), none⟩, {}⟩, ⟨⟨some 61, (.fadr 1 (.t 60)), none⟩, {}⟩, ⟨⟨some 62, (.load false 1 (.t 61)), none⟩, {}⟩, ⟨⟨some 63, (.iadrS 1 (.t 58) (.t 62)), none⟩, {}⟩, ⟨⟨some 64, (.load false 1 (.t 63)), none⟩, {}⟩, ⟨⟨some 65, (.conv .i64 (.t 64)), none⟩,
  {}⟩, ⟨⟨some 66, (.bin .add (.t 54) (.t 65)), none⟩, {}⟩, ⟨⟨some 5, (.mov (.t 66)), none⟩, {}⟩] (some [])) draw_Codes_Next_C11) .skip)
def draw_Codes_Next_C14 : TC := .ret
def draw_Codes_Next_C12 : TC := (.pre [.frzo 0, .keep [4], .out [0]] draw_Codes_Next_C14)
def draw_Codes_Next_C9 : TC := (.seq (.rg [⟨⟨some 74, (.mov (.t 5)), none⟩, {}⟩, ⟨⟨some 75, (.mov (.t 1)), none⟩, {}⟩, ⟨⟨some 76, (.bin .rem (.t 74) (.t 75)), none⟩, {}⟩, ⟨⟨some 4, (.mov (.t 76)), none⟩, {}⟩] none) draw_Codes_Next_C12)
def draw_Codes_Next_C5 : TC := (.seq (.seq (.rg [⟨⟨some 39, (.mov (.t 1)), none⟩, {}⟩, ⟨⟨some 40, (.bin .gtr (.t 39) (.c (I 256))), none⟩, {}⟩, ⟨⟨some 41, (.mov (.t 40)), none⟩, {}⟩, ⟨⟨some 42, (.mov (.t 0)), some (41, true)⟩, {}⟩, ⟨⟨some 43, (.nilck (.t 42)), some (41, true)⟩, {}⟩, ⟨⟨some 44, (.fadr 1 (.t 43)), some (41, true)⟩,
  {}⟩, ⟨⟨some 45, (.load false 1 (.t 44)), some (41, true)⟩, {}⟩, ⟨⟨some 46, (.mov (.t 0)), some (41, true)⟩, {}⟩, ⟨⟨some 47, (.nilck (.t 46)), some (41, true)⟩, {}⟩, ⟨⟨some 48, (.fadr 0 (.t 47)), some (41, true)⟩, {}⟩, ⟨⟨some 49, (.load false 1 (.t 48)), some (41, true)⟩, {}⟩, ⟨⟨some 50, (.len (.t
  49)), some (41, true)⟩, {}⟩, ⟨⟨some 51, (.bin .lss (.t 45) (.t 50)), some (41, true)⟩, {}⟩, ⟨⟨some 52, (.pick (.t 41) (.t 51) (.c (B false))), none⟩, {}⟩] (some [])) draw_Codes_Next_C8) draw_Codes_Next_C9)
def draw_Codes_Next_C3 : TC := (.seq (.rg [⟨⟨some 27, (.mov (.t 0)), none⟩, {}⟩, ⟨⟨some 28, (.nilck (.t 27)), none⟩, {}⟩, ⟨⟨some 29, (.fadr 0 (.t 28)), none⟩, {}⟩, ⟨⟨some 30, (.load false 1 (.t 29)), none⟩, {}⟩, ⟨⟨some 31, (.mov (.t 0)), none⟩, {}⟩, ⟨⟨some 32, (.nilck (.t 31)), none⟩, {}⟩, ⟨⟨some 33, (.fadr 1 (.t 32)), none⟩, {}⟩,
  ⟨⟨some 34, (.load false 1 (.t 33)), none⟩, {}⟩, ⟨⟨some 35, (.bin .sub (.t 34) (.c (I 1))), none⟩, {}⟩, ⟨⟨some 36, (.iadrS 1 (.t 30) (.t 35)), none⟩, {}⟩, ⟨⟨some 37, (.load false 1 (.t 36)), none⟩, {}⟩, ⟨⟨some 38, (.conv .i64 (.t 37)), none⟩, {}⟩, ⟨⟨some 5, (.mov (.t 38)), none⟩, {}⟩] (some []))
  draw_Codes_Next_C5)
def draw_Codes_Next_C1 : TC := (.seq (.rg [⟨⟨some 20, (.mov (.t 0)), none⟩, {}⟩, ⟨⟨some 21, (.nilck (.t 20)), none⟩, {}⟩, ⟨⟨some 22, (.fadr 1 (.t 21)), none⟩, {}⟩, ⟨⟨some 23, (.load false 1 (.t 22)), none⟩, {}⟩, ⟨⟨some 24, (.bin .add (.t 23) (.c (I 1))), none⟩, {}⟩, ⟨⟨some 25, (.nilck (.t 20)), none⟩, {}⟩, ⟨⟨some 26, (.fadr 1 (.t
  25)), none⟩, {}⟩, ⟨⟨none, (.store 1 (.t 26) (.t 24)), none⟩, {}⟩] none) draw_Codes_Next_C3)
def draw_Codes_Next_C13 : TC := .ret
def draw_Codes_Next_C10 : TC := (.pre [.frzo 0, .keep [4], .out [0]] draw_Codes_Next_C13)
def draw_Codes_Next_C6 : TC := (.cond (.t 19) (.seq (.rg [⟨⟨some 4, (.mov (.c (I 0))), none⟩, {}⟩] none) draw_Codes_Next_C10) .skip)
def draw_Codes_Next_C7 : TC := (.join [.keep [0, 1], .cmp] draw_Codes_Next_C1)
def draw_Codes_Next_C4 : TC := (.seq (.seq (.rg [⟨⟨some 6, (.mov (.t 1)), none⟩, {}⟩, ⟨⟨some 7, (.bin .lss (.t 6) (.c (I 1))), none⟩, {}⟩, ⟨⟨some 8, (.mov (.t 7)), none⟩, {}⟩, ⟨⟨some 9, (.mov (.t 0)), some (8, false)⟩, {}⟩, ⟨⟨some 10, (.nilck (.t 9)), some (8, false)⟩, {}⟩, ⟨⟨some 11, (.fadr 1 (.t 10)), some (8, false)⟩, {}⟩,
  ⟨⟨some 12, (.load false 1 (.t 11)), some (8, false)⟩, {}⟩, ⟨⟨some 13, (.mov (.t 0)), some (8, false)⟩, {}⟩, ⟨⟨some 14, (.nilck (.t 13)), some (8, false)⟩, {}⟩, ⟨⟨some 15, (.fadr 0 (.t 14)), some (8, false)⟩, {}⟩, ⟨⟨some 16, (.load false 1 (.t 15)), some (8, false)⟩, {}⟩, ⟨⟨some 17, (.len (.t 16)),
  some (8, false)⟩, {}⟩, ⟨⟨some 18, (.bin .geq (.t 12) (.t 17)), some (8, false)⟩, {}⟩, ⟨⟨some 19, (.pick (.t 8) (.c (B true)) (.t 18)), none⟩, {}⟩] (some [])) draw_Codes_Next_C6) draw_Codes_Next_C7)
def draw_Codes_Next_C2 : TC := (.seq (.rg [⟨⟨some 4, (.mov (.c (I 0))), none⟩, {}⟩] none) draw_Codes_Next_C4)
def draw_Codes_Next_E (N : Nat) : List (Nat × Ent) := []
def draw_Codes_Next_J1 (N : Nat) (x1 : Int) (x2 : List Int) (x3 : Int) : Option (Int × T_Codes) := joinN (run (draw_Codes_Next_E N) N 1 draw_Codes_Next_C1) N ⟨[(0, .ptr 0 0 0), (1, .int .i64 x1)], [some (.box 0 [.lst false (.int .u8) x2, .int .i64 x3])]⟩ (finS draw_Codes_Next_NE [(.t 4)] [.b (.v G_Codes), .v (.int .i64)] [.v (.int .i64)] 1 1)
theorem draw_Codes_Next_J1_eqM (N JM : Nat) (x1 : Int) (x2 : List Int) (x3 : Int) : joinN (run (draw_Codes_Next_E N) N 1 draw_Codes_Next_C1) (JM + 1) ⟨[(0, .ptr 0 0 0), (1, .int .i64 x1)], [some (.box 0 [.lst false (.int .u8) x2, .int .i64 x3])]⟩ (finS draw_Codes_Next_NE [(.t 4)] [.b (.v G_Codes), .v (.int .i64)] [.v (.int .i64)] 1 1) =
  bif inB (W ((W (x3 + 1)) - 1)) x2.length then
  let v4 := x2.getD (W ((W (x3 + 1)) - 1)).toNat 0
  bif (decide (x1 > 256)) then
    bif (decide ((W (x3 + 1)) < (x2.length : Int))) then
      bif inB (W (x3 + 1)) x2.length then
      bif x1 == 0 then none else
      some ((W ((W ((W v4) * 256)) + (W (x2.getD (W (x3 + 1)).toNat 0)))).tmod x1, (x2, W ((W (x3 + 1)) + 1)))
      else none
    else
      bif x1 == 0 then none else
      some ((W v4).tmod x1, (x2, W (x3 + 1)))
  else
    bif x1 == 0 then none else
    some ((W v4).tmod x1, (x2, W (x3 + 1)))
  else none := by kernel_rfl
theorem draw_Codes_Next_J1_eq (N : Nat) (x1 : Int) (x2 : List Int) (x3 : Int) : draw_Codes_Next_J1 (N + 1) x1 x2 x3 =
  bif inB (W ((W (x3 + 1)) - 1)) x2.length then
  let v4 := x2.getD (W ((W (x3 + 1)) - 1)).toNat 0
  bif (decide (x1 > 256)) then
    bif (decide ((W (x3 + 1)) < (x2.length : Int))) then
      bif inB (W (x3 + 1)) x2.length then
      bif x1 == 0 then none else
      some ((W ((W ((W v4) * 256)) + (W (x2.getD (W (x3 + 1)).toNat 0)))).tmod x1, (x2, W ((W (x3 + 1)) + 1)))
      else none
    else
      bif x1 == 0 then none else
      some ((W v4).tmod x1, (x2, W (x3 + 1)))
  else
    bif x1 == 0 then none else
    some ((W v4).tmod x1, (x2, W (x3 + 1)))
  else none := draw_Codes_Next_J1_eqM (N + 1) N x1 x2 x3
def draw_Codes_Next (N : Nat) (a0 : T_Codes) (a1 : Int) : Option (Int × T_Codes) :=
  bif (decide (a1 < 1)) then
    some (0, a0)
  else
    bif (decide (a0.2 ≥ (a0.1.length : Int))) then
      some (0, a0)
    else
      draw_Codes_Next_J1 N a1 a0.1 a0.2
theorem draw_Codes_Next_fn : FnOK Try.prog 37 77 (fun _ : Nat => false) draw_Codes_Next_C2.er [(.t 4)] := FnOK.mk' Try.func37 (by kernel_rfl) (by kernel_rfl) (by kernel_rfl) (by kernel_rfl) (by kernel_rfl)
theorem draw_Codes_Next_envok (N : Nat) : EnvOK Try.prog (draw_Codes_Next_E N) := .nil
theorem draw_Codes_Next_sf (N : Nat) : SFOK Try.prog 37 [none, none] [.b (.v G_Codes), .v (.int .i64)] [.v (.int .i64)] (fun x => draw_Codes_Next N x.1 x.2) := sfOK (N := N) (p := 1) (q := 1) (ns := draw_Codes_Next_NE) mixed draw_Codes_Next_fn (draw_Codes_Next_envok N) (TC.noh_ok (by kernel_rfl)) rfl rfl rfl (fun x => by kernel_rfl)
/-! draw_Codes_Range -/
def draw_Codes_Range_NE : List NS := [.frzo 0, .keep [6], .out [0]]
def draw_Codes_Range_C4 : TC := .ret
def draw_Codes_Range_C3 : TC := (.pre [.frzo 0, .keep [6], .out [0]] draw_Codes_Range_C4)
def draw_Codes_Range_C2 : TC := (.seq (.rg [⟨⟨some 7, (.mov (.t 1)), none⟩, {}⟩, ⟨⟨some 8, (.mov (.t 0)), none⟩, {}⟩, ⟨⟨some 9, (.mov (.t 2)), none⟩, {}⟩, ⟨⟨some 10, (.mov (.t 1)), none⟩, {}⟩, ⟨⟨some 11, (.bin .sub (.t 9) (.t 10)), none⟩, {}⟩, ⟨⟨some 12, (.bin .add (.t 11) (.c (I 1))), none⟩, {}⟩, ⟨⟨some 13, (.call (.c (.fn 37 []))
  [(.t 8), (.t 12)]), none⟩, {}⟩, ⟨⟨some 14, (.bin .add (.t 7) (.t 13)), none⟩, {}⟩, ⟨⟨some 6, (.mov (.t 14)), none⟩, {}⟩] none) draw_Codes_Range_C3)
def draw_Codes_Range_C1 : TC := (.seq (.rg [⟨⟨some 6, (.mov (.c (I 0))), none⟩, {}⟩] none) draw_Codes_Range_C2)
def draw_Codes_Range_E (N : Nat) : List (Nat × Ent) := [(37, sfE [none, none] [.b (.v G_Codes), .v (.int .i64)] [.v (.int .i64)] (fun x => draw_Codes_Next N x.1 x.2))]
def draw_Codes_Range (N : Nat) (a0 : T_Codes) (a1 : Int) (a2 : Int) : Option (Int × T_Codes) :=
  Option.bind (draw_Codes_Next N a0 (W ((W (a2 - a1)) + 1))) fun r1 =>
  some (W (a1 + r1.1), r1.2)
theorem draw_Codes_Range_fn : FnOK Try.prog 38 15 (fun _ : Nat => false) draw_Codes_Range_C1.er [(.t 6)] := FnOK.mk' Try.func38 (by kernel_rfl) (by kernel_rfl) (by kernel_rfl) (by kernel_rfl) (by kernel_rfl)
theorem draw_Codes_Range_envok (N : Nat) : EnvOK Try.prog (draw_Codes_Range_E N) := .cons (sfE_ok (draw_Codes_Next_sf N)) (.nil)
theorem draw_Codes_Range_sf (N : Nat) : SFOK Try.prog 38 [none, none, none] [.b (.v G_Codes), .v (.int .i64), .v (.int .i64)] [.v (.int .i64)] (fun x => draw_Codes_Range N x.1 x.2.1 x.2.2) := sfOK (N := N) (p := 1) (q := 1) (ns := draw_Codes_Range_NE) mixed draw_Codes_Range_fn (draw_Codes_Range_envok N) (TC.noh_ok (by kernel_rfl)) rfl rfl rfl (fun x => by kernel_rfl)
/-! draw_Codes_Road -/
def draw_Codes_Road_NE : List NS := [.frzo 0, .keep [6], .out [0]]
def draw_Codes_Road_C8 : TC := .ret
def draw_Codes_Road_C7 : TC := (.pre [.frzo 0, .keep [6], .out [0]] draw_Codes_Road_C8)
def draw_Codes_Road_C6 : TC := (.seq (.rg [⟨⟨some 41, (.load true 10 (.t 7)), none⟩, {}⟩, ⟨⟨none, (.store 10 (.t 6) (.t 41)), none⟩, {}⟩] none) draw_Codes_Road_C7)
def draw_Codes_Road_C5 : TC := (.seq (.rg [⟨⟨some 33, (.fadr 8 (.t 7)), none⟩, {}⟩, ⟨⟨some 34, (.fadr 0 (.t 33)), none⟩, {}⟩, ⟨⟨some 35, (.load false 1 (.t 34)), none⟩, {}⟩, ⟨⟨some 36, (.mov (.t 0)), none⟩, {}⟩, ⟨⟨some 37, (.call (.c (.fn 37 [])) [(.t 36), (.c (I 20))]), none⟩, {}⟩, ⟨⟨some 38, (.bin .add (.t 35) (.t 37)), none⟩,
  {}⟩, ⟨⟨some 39, (.fadr 8 (.t 7)), none⟩, {}⟩, ⟨⟨some 40, (.fadr 1 (.t 39)), none⟩, {}⟩, ⟨⟨none, (.store 1 (.t 40) (.t 38)), none⟩, {}⟩] (some [(0, 4), (1, 4), (2, 4)])) draw_Codes_Road_C6)
def draw_Codes_Road_C4 : TC := (.seq (.rg [⟨⟨some 29, (.mov (.t 0)), none⟩, {}⟩, ⟨⟨some 30, (.call (.c (.fn 38 [])) [(.t 29), (.c (I (-300))), (.c (I 300))]), none⟩, {}⟩, ⟨⟨some 31, (.fadr 8 (.t 7)), none⟩, {}⟩, ⟨⟨some 32, (.fadr 0 (.t 31)), none⟩, {}⟩, ⟨⟨none, (.store 1 (.t 32) (.t 30)), none⟩, {}⟩] none) draw_Codes_Road_C5)
def draw_Codes_Road_C3 : TC := (.seq (.rg [⟨⟨some 21, (.fadr 6 (.t 7)), none⟩, {}⟩, ⟨⟨some 22, (.fadr 0 (.t 21)), none⟩, {}⟩, ⟨⟨some 23, (.load false 1 (.t 22)), none⟩, {}⟩, ⟨⟨some 24, (.mov (.t 0)), none⟩, {}⟩, ⟨⟨some 25, (.call (.c (.fn 37 [])) [(.t 24), (.c (I 3))]), none⟩, {}⟩, ⟨⟨some 26, (.bin .add (.t 23) (.t 25)), none⟩,
  {}⟩, ⟨⟨some 27, (.fadr 6 (.t 7)), none⟩, {}⟩, ⟨⟨some 28, (.fadr 1 (.t 27)), none⟩, {}⟩, ⟨⟨none, (.store 1 (.t 28) (.t 26)), none⟩, {}⟩] (some [(0, 4), (1, 4), (2, 4)])) draw_Codes_Road_C4)
def draw_Codes_Road_C2 : TC := (.seq (.rg [⟨⟨some 8, (.mov (.t 1)), none⟩, {}⟩, ⟨⟨some 9, (.mov (.t 2)), none⟩, {}⟩, ⟨⟨some 10, (.mov (.t 0)), none⟩, {}⟩, ⟨⟨some 11, (.call (.c (.fn 38 [])) [(.t 10), (.c (I 1)), (.c (I 400))]), none⟩, {}⟩, ⟨⟨some 12, (.mov (.t 0)), none⟩, {}⟩, ⟨⟨some 13, (.call (.c (.fn 38 [])) [(.t 12), (.c (I
  4)), (.c (I 30))]), none⟩, {}⟩, ⟨⟨some 14, (.mov (.t 0)), none⟩, {}⟩, ⟨⟨some 15, (.call (.c (.fn 37 [])) [(.t 14), (.c (I 4))]), none⟩, {}⟩, ⟨⟨some 16, (.bin .gtr (.t 15) (.c (I 0))), none⟩, {}⟩, ⟨⟨some 17, (.mov (.t 0)), none⟩, {}⟩, ⟨⟨some 18, (.call (.c (.fn 38 [])) [(.t 17), (.c (I 1)), (.c (I
  20))]), none⟩, {}⟩, ⟨⟨some 19, (.build [(I 0), (I 0)] [(0, (1, (.t 18)))]), none⟩, {}⟩, ⟨⟨some 20, (.build [(I 0), (I 0), (I 0), (I 0), (B false), (B false), (I 0), (I 0), (I 0), (I 0)] [(0, (1, (.t 8))), (1, (1, (.t 9))), (2, (1, (.t 11))), (3, (1, (.t 13))), (4, (1, (.t 16))), (6, (2, (.t
  19)))]), none⟩, {}⟩, ⟨⟨some 7, (.alloc [(I 0), (I 0), (I 0), (I 0), (B false), (B false), (I 0), (I 0), (I 0), (I 0)]), none⟩, {}⟩, ⟨⟨none, (.store 10 (.t 7) (.t 20)), none⟩, {}⟩] none) draw_Codes_Road_C3)
def draw_Codes_Road_C1 : TC := (.seq (.rg [⟨⟨some 6, (.alloc [(I 0), (I 0), (I 0), (I 0), (B false), (B false), (I 0), (I 0), (I 0), (I 0)]), none⟩, {}⟩] none) draw_Codes_Road_C2)
def draw_Codes_Road_E (N : Nat) : List (Nat × Ent) := [(38, sfE [none, none, none] [.b (.v G_Codes), .v (.int .i64), .v (.int .i64)] [.v (.int .i64)] (fun x => draw_Codes_Range N x.1 x.2.1 x.2.2)), (37, sfE [none, none] [.b (.v G_Codes), .v (.int .i64)] [.v (.int .i64)] (fun x => draw_Codes_Next N x.1 x.2))]
def draw_Codes_Road (N : Nat) (a0 : T_Codes) (a1 : Int) (a2 : Int) : Option (T_Road × T_Codes) :=
  Option.bind (draw_Codes_Range N a0 1 400) fun r1 =>
  Option.bind (draw_Codes_Range N r1.2 4 30) fun r2 =>
  Option.bind (draw_Codes_Next N r2.2 4) fun r3 =>
  Option.bind (draw_Codes_Range N r3.2 1 20) fun r4 =>
  Option.bind (draw_Codes_Next N r4.2 3) fun r5 =>
  Option.bind (draw_Codes_Range N r5.2 (-300) 300) fun r6 =>
  Option.bind (draw_Codes_Next N r6.2 20) fun r7 =>
  some ((a1, (a2, (r1.1, (r2.1, ((decide (r3.1 > 0)), (false, ((r4.1, W (r4.1 + r5.1)), (r6.1, W (r6.1 + r7.1))))))))), r7.2)
theorem draw_Codes_Road_fn : FnOK Try.prog 17 42 (fun _ : Nat => false) draw_Codes_Road_C1.er [(.cell 6 true 10)] := FnOK.mk' Try.func17 (by kernel_rfl) (by kernel_rfl) (by kernel_rfl) (by kernel_rfl) (by kernel_rfl)
theorem draw_Codes_Road_envok (N : Nat) : EnvOK Try.prog (draw_Codes_Road_E N) := .cons (sfE_ok (draw_Codes_Range_sf N)) (.cons (sfE_ok (draw_Codes_Next_sf N)) (.nil))
theorem draw_Codes_Road_sf (N : Nat) : SFOK Try.prog 17 [none, none, none] [.b (.v G_Codes), .v (.int .i64), .v (.int .i64)] [.v G_Road] (fun x => draw_Codes_Road N x.1 x.2.1 x.2.2) := sfOK (N := N) (p := 1) (q := 1) (ns := draw_Codes_Road_NE) mixed draw_Codes_Road_fn (draw_Codes_Road_envok N) (TC.noh_ok (by kernel_rfl)) rfl rfl rfl (fun x => by kernel_rfl)
/-! draw_Codes_One -/
def draw_Codes_One_NE : List NS := [.frzo 0, .keep [4], .out [0]]
def draw_Codes_One_C4 : TC := .ret
def draw_Codes_One_C3 : TC := (.pre [.frzo 0, .keep [4], .out [0]] draw_Codes_One_C4)
def draw_Codes_One_C2 : TC := (.seq (.rg [⟨⟨some 5, (.mov (.t 0)), none⟩, {}⟩, ⟨⟨some 6, (.mov (.t 1)), none⟩, {}⟩, ⟨⟨some 7, (.call (.c (.fn 37 [])) [(.t 5), (.t 6)]), none⟩, {}⟩, ⟨⟨some 8, (.mov (.t 1)), none⟩, {}⟩, ⟨⟨some 9, (.bin .sub (.t 8) (.c (I 1))), none⟩, {}⟩, ⟨⟨some 10, (.bin .eql (.t 7) (.t 9)), none⟩, {}⟩, ⟨⟨some 4,
  (.mov (.t 10)), none⟩, {}⟩] none) draw_Codes_One_C3)
def draw_Codes_One_C1 : TC := (.seq (.rg [⟨⟨some 4, (.mov (.c (B false))), none⟩, {}⟩] none) draw_Codes_One_C2)
def draw_Codes_One_E (N : Nat) : List (Nat × Ent) := [(37, sfE [none, none] [.b (.v G_Codes), .v (.int .i64)] [.v (.int .i64)] (fun x => draw_Codes_Next N x.1 x.2))]
def draw_Codes_One (N : Nat) (a0 : T_Codes) (a1 : Int) : Option (Bool × T_Codes) :=
  Option.bind (draw_Codes_Next N a0 a1) fun r1 =>
  some ((r1.1 == (W (a1 - 1))), r1.2)
theorem draw_Codes_One_fn : FnOK Try.prog 39 11 (fun _ : Nat => false) draw_Codes_One_C1.er [(.t 4)] := FnOK.mk' Try.func39 (by kernel_rfl) (by kernel_rfl) (by kernel_rfl) (by kernel_rfl) (by kernel_rfl)
theorem draw_Codes_One_envok (N : Nat) : EnvOK Try.prog (draw_Codes_One_E N) := .cons (sfE_ok (draw_Codes_Next_sf N)) (.nil)
theorem draw_Codes_One_sf (N : Nat) : SFOK Try.prog 39 [none, none] [.b (.v G_Codes), .v (.int .i64)] [.v .bool] (fun x => draw_Codes_One N x.1 x.2) := sfOK (N := N) (p := 1) (q := 1) (ns := draw_Codes_One_NE) mixed draw_Codes_One_fn (draw_Codes_One_envok N) (TC.noh_ok (by kernel_rfl)) rfl rfl rfl (fun x => by kernel_rfl)
/-! draw_Codes_Mine -/
def draw_Codes_Mine_NE : List NS := [.frzb 2, .frzo 0, .keep [2], .out [0]]
def draw_Codes_Mine_N1 : List NS := [.ownc 3 0 G_Place, .keep [0, 2, 3, 4], .cmp]
def draw_Codes_Mine_N2 : List NS := [.ownc 3 1 G_Road, .keep [0, 2, 3, 5, 6], .cmp]
def draw_Codes_Mine_C6 : TC := (.cond (.t 35) .skip (.exit 2))
def draw_Codes_Mine_C22 : TC := (.rg [⟨⟨some 56, (.fadr 1 (.t 3)), none⟩, {}⟩, ⟨⟨some 57, (.load false 1 (.t 56)), none⟩, {}⟩, ⟨⟨some 58, (.load true 10 (.t 8)), none⟩, {}⟩, ⟨⟨some 59, (.bslice false 10 [(I 0), (I 0), (I 0), (I 0), (B false), (B false), (I 0), (I 0), (I 0), (I 0)] 1 [(0, (.t 58))]), none⟩, ⟨G_Road, none⟩⟩, ⟨⟨some
  60, (.app 10 72 (.t 57) (.t 59)), none⟩, {}⟩, ⟨⟨some 61, (.fadr 1 (.t 3)), none⟩, {}⟩, ⟨⟨none, (.store 1 (.t 61) (.t 60)), none⟩, {}⟩] none)
def draw_Codes_Mine_C19 : TC := (.seq (.rg [⟨⟨some 53, (.mov (.t 0)), none⟩, {}⟩, ⟨⟨some 54, (.call (.c (.fn 39 [])) [(.t 53), (.c (I 6))]), none⟩, {}⟩, ⟨⟨some 55, (.fadr 5 (.t 8)), none⟩, {}⟩, ⟨⟨none, (.store 1 (.t 55) (.t 54)), none⟩, {}⟩] none) draw_Codes_Mine_C22)
def draw_Codes_Mine_C13 : TC := (.seq (.rg [⟨⟨some 41, (.mov (.t 0)), none⟩, {}⟩, ⟨⟨some 42, (.mov (.t 7)), none⟩, {}⟩, ⟨⟨some 43, (.mov (.t 7)), none⟩, {}⟩, ⟨⟨some 44, (.bin .add (.t 43) (.c (I 1))), none⟩, {}⟩, ⟨⟨some 45, (.mov (.t 0)), none⟩, {}⟩, ⟨⟨some 46, (.mov (.t 5)), none⟩, {}⟩, ⟨⟨some 47, (.bin .sub (.t 46) (.c (I 1))),
  none⟩, {}⟩, ⟨⟨some 48, (.call (.c (.fn 37 [])) [(.t 45), (.t 47)]), none⟩, {}⟩, ⟨⟨some 49, (.bin .add (.t 44) (.t 48)), none⟩, {}⟩, ⟨⟨some 50, (.mov (.t 5)), none⟩, {}⟩, ⟨⟨some 51, (.bin .rem (.t 49) (.t 50)), none⟩, {}⟩, ⟨⟨some 52, (.call (.c (.fn 17 [])) [(.t 41), (.t 42), (.t 51)]), none⟩, {}⟩,
  ⟨⟨some 8, (.alloc [(I 0), (I 0), (I 0), (I 0), (B false), (B false), (I 0), (I 0), (I 0), (I 0)]), none⟩, {}⟩, ⟨⟨none, (.store 10 (.t 8) (.t 52)), none⟩, {}⟩] none) draw_Codes_Mine_C19)
def draw_Codes_Mine_C14 : TC := (.rg [⟨⟨some 36, (.mov (.t 6)), none⟩, {}⟩, ⟨⟨some 37, (.bin .sub (.t 36) (.c (I 1))), none⟩, {}⟩, ⟨⟨some 6, (.mov (.t 37)), none⟩, {}⟩] none)
def draw_Codes_Mine_C7 : TC := (.seq (.block 3 (.seq (.rg [⟨⟨some 38, (.mov (.t 0)), none⟩, {}⟩, ⟨⟨some 39, (.mov (.t 5)), none⟩, {}⟩, ⟨⟨some 40, (.call (.c (.fn 37 [])) [(.t 38), (.t 39)]), none⟩, {}⟩, ⟨⟨some 7, (.mov (.t 40)), none⟩, {}⟩] none) draw_Codes_Mine_C13)) draw_Codes_Mine_C14)
def draw_Codes_Mine_C1 : TC := (.seq (.seq (.rg [⟨⟨some 34, (.mov (.t 6)), none⟩, {}⟩, ⟨⟨some 35, (.bin .gtr (.t 34) (.c (I 0))), none⟩, {}⟩] none) draw_Codes_Mine_C6) draw_Codes_Mine_C7)
def draw_Codes_Mine_C20 : TC := .ret
def draw_Codes_Mine_C15 : TC := (.pre [.frzb 2, .frzo 0, .keep [2], .out [0]] draw_Codes_Mine_C20)
def draw_Codes_Mine_C8 : TC := (.seq (.rg [⟨⟨some 62, (.load true 2 (.t 3)), none⟩, {}⟩, ⟨⟨none, (.store 2 (.t 2) (.t 62)), none⟩, {}⟩] none) draw_Codes_Mine_C15)
def draw_Codes_Mine_C2 : TC := (.pre [.frzb 3] draw_Codes_Mine_C8)
def draw_Codes_Mine_C9 : TC := (.cond (.t 16) .skip (.exit 0))
def draw_Codes_Mine_C16 : TC := (.rg [⟨⟨some 17, (.mov (.t 4)), none⟩, {}⟩, ⟨⟨some 18, (.bin .sub (.t 17) (.c (I 1))), none⟩, {}⟩, ⟨⟨some 4, (.mov (.t 18)), none⟩, {}⟩] none)
def draw_Codes_Mine_C10 : TC := (.seq (.block 1 (.rg [⟨⟨some 19, (.fadr 0 (.t 3)), none⟩, {}⟩, ⟨⟨some 20, (.load false 1 (.t 19)), none⟩, {}⟩, ⟨⟨some 21, (.mov (.t 0)), none⟩, {}⟩, ⟨⟨some 22, (.call (.c (.fn 38 [])) [(.t 21), (.c (I (-60))), (.c (I 60))]), none⟩, {}⟩, ⟨⟨some 23, (.mov (.t 0)), none⟩, {}⟩, ⟨⟨some 24, (.call (.c (.fn
  39 [])) [(.t 23), (.c (I 5))]), none⟩, {}⟩, ⟨⟨some 25, (.build [(I 0), (B false)] [(0, (1, (.t 22))), (1, (1, (.t 24)))]), none⟩, {}⟩, ⟨⟨some 26, (.bslice false 2 [(I 0), (B false)] 1 [(0, (.t 25))]), none⟩, ⟨G_Place, none⟩⟩, ⟨⟨some 27, (.app 2 16 (.t 20) (.t 26)), none⟩, {}⟩, ⟨⟨some 28, (.fadr 0
  (.t 3)), none⟩, {}⟩, ⟨⟨none, (.store 1 (.t 28) (.t 27)), none⟩, {}⟩] (some [(0, 3), (1, 3), (0, 5), (1, 5)]))) draw_Codes_Mine_C16)
def draw_Codes_Mine_C3 : TC := (.seq (.seq (.rg [⟨⟨some 15, (.mov (.t 4)), none⟩, {}⟩, ⟨⟨some 16, (.bin .gtr (.t 15) (.c (I 0))), none⟩, {}⟩] none) draw_Codes_Mine_C9) draw_Codes_Mine_C10)
def draw_Codes_Mine_C17 : TC := (.block 2 (.loop draw_Codes_Mine_N2 draw_Codes_Mine_C1))
def draw_Codes_Mine_C11 : TC := (.seq (.seq (.rg [⟨⟨some 32, (.mov (.t 0)), none⟩, {}⟩, ⟨⟨some 33, (.call (.c (.fn 37 [])) [(.t 32), (.c (I 9))]), none⟩, {}⟩, ⟨⟨some 6, (.mov (.t 33)), none⟩, {}⟩] none) draw_Codes_Mine_C17) draw_Codes_Mine_C2)
def draw_Codes_Mine_C4 : TC := (.seq (.rg [⟨⟨some 29, (.fadr 0 (.t 3)), none⟩, {}⟩, ⟨⟨some 30, (.load false 1 (.t 29)), none⟩, {}⟩, ⟨⟨some 31, (.len (.t 30)), none⟩, {}⟩, ⟨⟨some 5, (.mov (.t 31)), none⟩, {}⟩] none) draw_Codes_Mine_C11)
def draw_Codes_Mine_C21 : TC := (.block 0 (.loop draw_Codes_Mine_N1 draw_Codes_Mine_C3))
def draw_Codes_Mine_C18 : TC := (.seq (.seq (.rg [⟨⟨some 12, (.mov (.t 0)), none⟩, {}⟩, ⟨⟨some 13, (.call (.c (.fn 37 [])) [(.t 12), (.c (I 6))]), none⟩, {}⟩, ⟨⟨some 14, (.bin .add (.c (I 1)) (.t 13)), none⟩, {}⟩, ⟨⟨some 4, (.mov (.t 14)), none⟩, {}⟩] none) draw_Codes_Mine_C21) draw_Codes_Mine_C4)
def draw_Codes_Mine_C12 : TC := (.seq (.rg [⟨⟨some 9, (.build [(I 0), (B false)] [(1, (1, (.c (B true))))]), none⟩, {}⟩, ⟨⟨some 10, (.bslice true 2 [(I 0), (B false)] 1 [(0, (.t 9))]), none⟩, ⟨G_Place, none⟩⟩, ⟨⟨some 11, (.build [(.lst true []), (.lst true [])] [(0, (1, (.t 10)))]), none⟩, {}⟩, ⟨⟨some 3, (.alloc [(.lst true []),
  (.lst true [])]), none⟩, {}⟩, ⟨⟨none, (.store 2 (.t 3) (.t 11)), none⟩, {}⟩] none) draw_Codes_Mine_C18)
def draw_Codes_Mine_C5 : TC := (.seq (.rg [⟨⟨some 2, (.alloc [(.lst true []), (.lst true [])]), none⟩, {}⟩] none) draw_Codes_Mine_C12)
def draw_Codes_Mine_E (N : Nat) : List (Nat × Ent) := [(37, sfE [none, none] [.b (.v G_Codes), .v (.int .i64)] [.v (.int .i64)] (fun x => draw_Codes_Next N x.1 x.2)), (38, sfE [none, none, none] [.b (.v G_Codes), .v (.int .i64), .v (.int .i64)] [.v (.int .i64)] (fun x => draw_Codes_Range N x.1 x.2.1 x.2.2)), (39, sfE [none, none] [.b (.v G_Codes), .v (.int .i64)] [.v .bool] (fun x => draw_Codes_One N x.1 x.2)), (17, sfE [none, none, none] [.b (.v G_Codes), .v (.int .i64), .v (.int .i64)] [.v G_Road] (fun x => draw_Codes_Road N x.1 x.2.1 x.2.2))]
def draw_Codes_Mine_L2 (N : Nat) (n : Nat) (x14 : Int) (x15 : Int) (x16 : List Int) (x17 : Int) (x18 : List T_Place) (x19 : List T_Road) : Option (T_Mine × T_Codes) := loopN (normI 1 draw_Codes_Mine_N2) (run (draw_Codes_Mine_E N) N 1 draw_Codes_Mine_C1) n ⟨[(0, .ptr 0 0 0), (2, .ptr 1 0 0), (3, .ptr 2 0 0), (5, .int .i64 x14), (6, .int .i64 x15)], [some (.box 0 [.lst false (.int .u8) x16, .int .i64 x17]), some (.box 0 [.nil, .nil]), some (.box 0 [.whole 3, .whole 4]), some (.arr G_Place x18), some (.arr G_Road x19)]⟩ (blkK 2 (seqK (run (draw_Codes_Mine_E N) N 1 draw_Codes_Mine_C2) (finS draw_Codes_Mine_NE [(.cell 2 true 2)] [.b (.v G_Codes)] [.v G_Mine] 1 1)))
def draw_Codes_Mine_L1 (N : Nat) (n : Nat) (x2 : Int) (x3 : List Int) (x4 : Int) (x5 : List T_Place) : Option (T_Mine × T_Codes) := loopN (normI 1 draw_Codes_Mine_N1) (run (draw_Codes_Mine_E N) N 1 draw_Codes_Mine_C3) n ⟨[(0, .ptr 0 0 0), (2, .ptr 1 0 0), (3, .ptr 2 0 0), (4, .int .i64 x2)], [some (.box 0 [.lst false (.int .u8) x3, .int .i64 x4]), some (.box 0 [.nil, .nil]), some (.box 0 [.whole 3, .nil]), some (.arr G_Place x5)]⟩ (blkK 0 (seqK (run (draw_Codes_Mine_E N) N 1 draw_Codes_Mine_C4) (finS draw_Codes_Mine_NE [(.cell 2 true 2)] [.b (.v G_Codes)] [.v G_Mine] 1 1)))
theorem draw_Codes_Mine_L2_zero (N : Nat) (x14 : Int) (x15 : Int) (x16 : List Int) (x17 : Int) (x18 : List T_Place) (x19 : List T_Road) : draw_Codes_Mine_L2 N 0 x14 x15 x16 x17 x18 x19 = none := rfl
theorem draw_Codes_Mine_L2_succ (N : Nat) (n2 : Nat) (x14 : Int) (x15 : Int) (x16 : List Int) (x17 : Int) (x18 : List T_Place) (x19 : List T_Road) : draw_Codes_Mine_L2 N (n2 + 1) x14 x15 x16 x17 x18 x19 =
  bif (decide (x15 > 0)) then
    Option.bind (draw_Codes_Next N (x16, x17) x14) fun r20 =>
    Option.bind (draw_Codes_Next N r20.2 (W (x14 - 1))) fun r21 =>
    bif x14 == 0 then none else
    Option.bind (draw_Codes_Road N r21.2 r20.1 ((W ((W (r20.1 + 1)) + r21.1)).tmod x14)) fun r23 =>
    Option.bind (draw_Codes_One N r23.2 6) fun r24 =>
    bif fitsB (x19.length + 1) 72 then
    draw_Codes_Mine_L2 N n2 x14 (W (x15 - 1)) r24.2.1 r24.2.2 x18 (x19 ++ [(r23.1.1, (r23.1.2.1, (r23.1.2.2.1, (r23.1.2.2.2.1, (r23.1.2.2.2.2.1, (r24.1, r23.1.2.2.2.2.2.2))))))])
    else none
  else
    some ((x18, x19), (x16, x17)) := by kernel_rfl
theorem draw_Codes_Mine_L1_zero (N : Nat) (x2 : Int) (x3 : List Int) (x4 : Int) (x5 : List T_Place) : draw_Codes_Mine_L1 N 0 x2 x3 x4 x5 = none := rfl
theorem draw_Codes_Mine_L1_succ (N : Nat) (n1 : Nat) (x2 : Int) (x3 : List Int) (x4 : Int) (x5 : List T_Place) : draw_Codes_Mine_L1 N (n1 + 1) x2 x3 x4 x5 =
  bif (decide (x2 > 0)) then
    Option.bind (draw_Codes_Range N (x3, x4) (-60) 60) fun r6 =>
    Option.bind (draw_Codes_One N r6.2 5) fun r7 =>
    bif fitsB (x5.length + 1) 16 then
    draw_Codes_Mine_L1 N n1 (W (x2 - 1)) r7.2.1 r7.2.2 (x5 ++ [(r6.1, r7.1)])
    else none
  else
    Option.bind (draw_Codes_Next N (x3, x4) 9) fun r13 =>
    draw_Codes_Mine_L2 N N (x5.length : Int) r13.1 r13.2.1 r13.2.2 x5 [] := by kernel_rfl
def draw_Codes_Mine (N : Nat) (a0 : T_Codes) : Option (T_Mine × T_Codes) :=
  Option.bind (draw_Codes_Next N a0 6) fun r1 =>
  draw_Codes_Mine_L1 N N (W (1 + r1.1)) r1.2.1 r1.2.2 [(0, true)]
theorem draw_Codes_Mine_fn : FnOK Try.prog 11 63 (fun t : Nat => Nat.beq t 10) draw_Codes_Mine_C5.er [(.cell 2 true 2)] := FnOK.mk' Try.func11 (by kernel_rfl) (by kernel_rfl) (by kernel_rfl) (by kernel_rfl) (by kernel_rfl)
theorem draw_Codes_Mine_envok (N : Nat) : EnvOK Try.prog (draw_Codes_Mine_E N) := .cons (sfE_ok (draw_Codes_Next_sf N)) (.cons (sfE_ok (draw_Codes_Range_sf N)) (.cons (sfE_ok (draw_Codes_One_sf N)) (.cons (sfE_ok (draw_Codes_Road_sf N)) (.nil))))
theorem draw_Codes_Mine_sf (N : Nat) : SFOK Try.prog 11 [none] [.b (.v G_Codes)] [.v G_Mine] (fun x => draw_Codes_Mine N x) := sfOK (N := N) (p := 1) (q := 1) (ns := draw_Codes_Mine_NE) mixed draw_Codes_Mine_fn (draw_Codes_Mine_envok N) (TC.noh_ok (by kernel_rfl)) rfl rfl rfl (fun x => by kernel_rfl)
/-! plan_spanIn -/
def plan_spanIn_C3 : TC := .ret
def plan_spanIn_C2 : TC := (.seq (.rg [⟨⟨some 7, (.mov (.t 1)), none⟩, {}⟩, ⟨⟨some 8, (.fadr 0 (.t 3)), none⟩, {}⟩, ⟨⟨some 9, (.load false 1 (.t 8)), none⟩, {}⟩, ⟨⟨some 10, (.bin .leq (.t 7) (.t 9)), none⟩, {}⟩, ⟨⟨some 11, (.mov (.t 10)), none⟩, {}⟩, ⟨⟨some 12, (.fadr 0 (.t 3)), some (11, true)⟩, {}⟩, ⟨⟨some 13, (.load false 1
  (.t 12)), some (11, true)⟩, {}⟩, ⟨⟨some 14, (.fadr 1 (.t 3)), some (11, true)⟩, {}⟩, ⟨⟨some 15, (.load false 1 (.t 14)), some (11, true)⟩, {}⟩, ⟨⟨some 16, (.bin .leq (.t 13) (.t 15)), some (11, true)⟩, {}⟩, ⟨⟨some 17, (.pick (.t 11) (.t 16) (.c (B false))), none⟩, {}⟩, ⟨⟨some 18, (.mov (.t 17)),
  none⟩, {}⟩, ⟨⟨some 19, (.fadr 1 (.t 3)), some (18, true)⟩, {}⟩, ⟨⟨some 20, (.load false 1 (.t 19)), some (18, true)⟩, {}⟩, ⟨⟨some 21, (.mov (.t 2)), some (18, true)⟩, {}⟩, ⟨⟨some 22, (.bin .leq (.t 20) (.t 21)), some (18, true)⟩, {}⟩, ⟨⟨some 23, (.pick (.t 18) (.t 22) (.c (B false))), none⟩, {}⟩,
  ⟨⟨some 6, (.mov (.t 23)), none⟩, {}⟩] none) plan_spanIn_C3)
def plan_spanIn_C1 : TC := (.seq (.rg [⟨⟨some 3, (.box (.t 0)), none⟩, {}⟩, ⟨⟨some 6, (.mov (.c (B false))), none⟩, {}⟩] none) plan_spanIn_C2)
def plan_spanIn_E (N : Nat) : List (Nat × Ent) := []
def plan_spanIn (N : Nat) (a0 : T_Span) (a1 : Int) (a2 : Int) : Option Bool :=
  bif (decide (a1 ≤ a0.1)) then
    bif (decide (a0.1 ≤ a0.2)) then
      some (decide (a0.2 ≤ a2))
    else
      some false
  else
    some false
theorem plan_spanIn_fn : FnOK Try.prog 40 24 (fun _ : Nat => false) plan_spanIn_C1.er [(.t 6)] := FnOK.mk' Try.func40 (by kernel_rfl) (by kernel_rfl) (by kernel_rfl) (by kernel_rfl) (by kernel_rfl)
theorem plan_spanIn_envok (N : Nat) : EnvOK Try.prog (plan_spanIn_E N) := .nil
theorem plan_spanIn_pure (N : Nat) : PureOK Try.prog 40 [G_Span, (.int .i64), (.int .i64)] [.bool] (fun x => plan_spanIn N x.1 x.2.1 x.2.2) := pureOK (N := N) mixed plan_spanIn_fn (plan_spanIn_envok N) (TC.noh_ok (by kernel_rfl)) rfl (fun x => by kernel_rfl)
/-! plan_Check -/
def plan_Check_N1 : List NS := [.wk 19 (.list G_Place), .keep [1, 19, 20, 21], .cmp]
def plan_Check_N2 : List NS := [.wk 38 (.list G_Road), .keep [5, 38, 39, 40], .cmp]
def plan_Check_C17 : TC := .ret
def plan_Check_C9 : TC := (.cond (.t 88) (.seq (.rg [⟨⟨some 2, (.mov (.c (I 1))), none⟩, {}⟩] none) plan_Check_C17) .skip)
def plan_Check_C24 : TC := .ret
def plan_Check_C18 : TC := (.cond (.t 98) (.seq (.rg [⟨⟨some 2, (.mov (.c (I 1))), none⟩, {}⟩] none) plan_Check_C24) .skip)
def plan_Check_C10 : TC := (.seq (.rg [⟨⟨some 89, (.fadr 6 (.t 7)), none⟩, {}⟩, ⟨⟨some 90, (.load true 2 (.t 89)), none⟩, {}⟩, ⟨⟨some 91, (.call (.c (.fn 40 [])) [(.t 90), (.c (I 1)), (.c (I 262144))]), none⟩, {}⟩, ⟨⟨some 92, (.un .not (.t 91)), none⟩, {}⟩, ⟨⟨some 93, (.mov (.t 92)), none⟩, {}⟩, ⟨⟨some 94, (.fadr 8 (.t 7)),
  some (93, false)⟩, {}⟩, ⟨⟨some 95, (.load true 2 (.t 94)), some (93, false)⟩, {}⟩, ⟨⟨some 96, (.call (.c (.fn 40 [])) [(.t 95), (.c (I (-2199023255552))), (.c (I 2199023255552))]), some (93, false)⟩, {}⟩, ⟨⟨some 97, (.un .not (.t 96)), some (93, false)⟩, {}⟩, ⟨⟨some 98, (.pick (.t 93) (.c (B true))
  (.t 97)), none⟩, {}⟩] none) plan_Check_C18)
def plan_Check_C1 : TC := (.seq (.seq (.rg [⟨⟨some 71, (.fadr 2 (.t 7)), none⟩, {}⟩, ⟨⟨some 72, (.load false 1 (.t 71)), none⟩, {}⟩, ⟨⟨some 73, (.bin .lss (.t 72) (.c (I 1))), none⟩, {}⟩, ⟨⟨some 74, (.mov (.t 73)), none⟩, {}⟩, ⟨⟨some 75, (.fadr 2 (.t 7)), some (74, false)⟩, {}⟩, ⟨⟨some 76, (.load false 1 (.t 75)), some (74,
  false)⟩, {}⟩, ⟨⟨some 77, (.bin .gtr (.t 76) (.c (I 100000))), some (74, false)⟩, {}⟩, ⟨⟨some 78, (.pick (.t 74) (.c (B true)) (.t 77)), none⟩, {}⟩, ⟨⟨some 79, (.mov (.t 78)), none⟩, {}⟩, ⟨⟨some 80, (.fadr 3 (.t 7)), some (79, false)⟩, {}⟩, ⟨⟨some 81, (.load false 1 (.t 80)), some (79, false)⟩, {}⟩,
  ⟨⟨some 82, (.bin .lss (.t 81) (.c (I 1))), some (79, false)⟩, {}⟩, ⟨⟨some 83, (.pick (.t 79) (.c (B true)) (.t 82)), none⟩, {}⟩, ⟨⟨some 84, (.mov (.t 83)), none⟩, {}⟩, ⟨⟨some 85, (.fadr 3 (.t 7)), some (84, false)⟩, {}⟩, ⟨⟨some 86, (.load false 1 (.t 85)), some (84, false)⟩, {}⟩, ⟨⟨some 87, (.bin
  .gtr (.t 86) (.c (I 1000))), some (84, false)⟩, {}⟩, ⟨⟨some 88, (.pick (.t 84) (.c (B true)) (.t 87)), none⟩, {}⟩] none) plan_Check_C9) plan_Check_C10)
def plan_Check_C2 : TC := (.rg [⟨⟨some 99, (.bin .add (.t 40) (.c (I 1))), none⟩, {}⟩, ⟨⟨some 40, (.mov (.t 99)), none⟩, {}⟩] none)
def plan_Check_C32 : TC := .ret
def plan_Check_C29 : TC := (.cond (.t 70) (.seq (.rg [⟨⟨some 2, (.mov (.c (I 4))), none⟩, {}⟩] none) plan_Check_C32) .skip)
def plan_Check_C30 : TC := (.join [.wk 38 (.list G_Road), .keep [5, 7, 38, 39, 40], .cmp] plan_Check_C1)
def plan_Check_C25 : TC := (.seq (.seq (.rg [⟨⟨some 44, (.fadr 0 (.t 7)), none⟩, {}⟩, ⟨⟨some 45, (.load false 1 (.t 44)), none⟩, {}⟩, ⟨⟨some 46, (.bin .lss (.t 45) (.c (I 0))), none⟩, {}⟩, ⟨⟨some 47, (.mov (.t 46)), none⟩, {}⟩, ⟨⟨some 48, (.fadr 0 (.t 7)), some (47, false)⟩, {}⟩, ⟨⟨some 49, (.load false 1 (.t 48)), some (47,
  false)⟩, {}⟩, ⟨⟨some 50, (.mov (.t 5)), some (47, false)⟩, {}⟩, ⟨⟨some 51, (.bin .geq (.t 49) (.t 50)), some (47, false)⟩, {}⟩, ⟨⟨some 52, (.pick (.t 47) (.c (B true)) (.t 51)), none⟩, {}⟩, ⟨⟨some 53, (.mov (.t 52)), none⟩, {}⟩, ⟨⟨some 54, (.fadr 1 (.t 7)), some (53, false)⟩, {}⟩, ⟨⟨some 55, (.load
  false 1 (.t 54)), some (53, false)⟩, {}⟩, ⟨⟨some 56, (.bin .lss (.t 55) (.c (I 0))), some (53, false)⟩, {}⟩, ⟨⟨some 57, (.pick (.t 53) (.c (B true)) (.t 56)), none⟩, {}⟩, ⟨⟨some 58, (.mov (.t 57)), none⟩, {}⟩, ⟨⟨some 59, (.fadr 1 (.t 7)), some (58, false)⟩, {}⟩, ⟨⟨some 60, (.load false 1 (.t 59)),
  some (58, false)⟩, {}⟩, ⟨⟨some 61, (.mov (.t 5)), some (58, false)⟩, {}⟩, ⟨⟨some 62, (.bin .geq (.t 60) (.t 61)), some (58, false)⟩, {}⟩, ⟨⟨some 63, (.pick (.t 58) (.c (B true)) (.t 62)), none⟩, {}⟩, ⟨⟨some 64, (.mov (.t 63)), none⟩, {}⟩, ⟨⟨some 65, (.fadr 0 (.t 7)), some (64, false)⟩, {}⟩, ⟨⟨some
  66, (.load false 1 (.t 65)), some (64, false)⟩, {}⟩, ⟨⟨some 67, (.fadr 1 (.t 7)), some (64, false)⟩, {}⟩, ⟨⟨some 68, (.load false 1 (.t 67)), some (64, false)⟩, {}⟩, ⟨⟨some 69, (.bin .eql (.t 66) (.t 68)), some (64, false)⟩, {}⟩, ⟨⟨some 70, (.pick (.t 64) (.c (B true)) (.t 69)), none⟩, {}⟩] none)
  plan_Check_C29) plan_Check_C30)
def plan_Check_C19 : TC := (.seq (.block 3 (.seq (.rg [⟨⟨some 42, (.iadrS 10 (.t 38) (.t 40)), none⟩, {}⟩, ⟨⟨some 43, (.load true 10 (.t 42)), none⟩, {}⟩, ⟨⟨some 7, (.alloc [(I 0), (I 0), (I 0), (I 0), (B false), (B false), (I 0), (I 0), (I 0), (I 0)]), none⟩, {}⟩, ⟨⟨none, (.store 10 (.t 7) (.t 43)), none⟩, {}⟩] none)
  plan_Check_C25)) plan_Check_C2)
def plan_Check_C11 : TC := (.seq (.cond (.t 41) .skip (.exit 2)) plan_Check_C19)
def plan_Check_C3 : TC := (.seq (.rg [⟨⟨some 41, (.bin .lss (.t 40) (.t 39)), none⟩, {}⟩] none) plan_Check_C11)
def plan_Check_C12 : TC := .ret
def plan_Check_C4 : TC := (.seq (.rg [⟨⟨some 2, (.mov (.c (I 0))), none⟩, {}⟩] none) plan_Check_C12)
def plan_Check_C33 : TC := .ret
def plan_Check_C31 : TC := (.cond (.t 32) (.seq (.rg [⟨⟨some 2, (.mov (.c (I 1))), none⟩, {}⟩] none) plan_Check_C33) .skip)
def plan_Check_C26 : TC := (.seq (.rg [⟨⟨some 25, (.fadr 0 (.t 4)), none⟩, {}⟩, ⟨⟨some 26, (.load false 1 (.t 25)), none⟩, {}⟩, ⟨⟨some 27, (.bin .lss (.t 26) (.c (I (-10000)))), none⟩, {}⟩, ⟨⟨some 28, (.mov (.t 27)), none⟩, {}⟩, ⟨⟨some 29, (.fadr 0 (.t 4)), some (28, false)⟩, {}⟩, ⟨⟨some 30, (.load false 1 (.t 29)), some (28,
  false)⟩, {}⟩, ⟨⟨some 31, (.bin .gtr (.t 30) (.c (I 10000))), some (28, false)⟩, {}⟩, ⟨⟨some 32, (.pick (.t 28) (.c (B true)) (.t 31)), none⟩, {}⟩] none) plan_Check_C31)
def plan_Check_C27 : TC := (.rg [⟨⟨some 33, (.bin .add (.t 21) (.c (I 1))), none⟩, {}⟩, ⟨⟨some 21, (.mov (.t 33)), none⟩, {}⟩] none)
def plan_Check_C20 : TC := (.seq (.block 1 (.seq (.rg [⟨⟨some 23, (.iadrS 2 (.t 19) (.t 21)), none⟩, {}⟩, ⟨⟨some 24, (.load true 2 (.t 23)), none⟩, {}⟩, ⟨⟨some 4, (.alloc [(I 0), (B false)]), none⟩, {}⟩, ⟨⟨none, (.store 2 (.t 4) (.t 24)), none⟩, {}⟩] none) plan_Check_C26)) plan_Check_C27)
def plan_Check_C13 : TC := (.seq (.cond (.t 22) .skip (.exit 0)) plan_Check_C20)
def plan_Check_C5 : TC := (.seq (.rg [⟨⟨some 22, (.bin .lss (.t 21) (.t 20)), none⟩, {}⟩] none) plan_Check_C13)
def plan_Check_C21 : TC := (.block 2 (.loop plan_Check_N2 plan_Check_C3))
def plan_Check_C14 : TC := (.seq (.seq (.rg [⟨⟨some 37, (.fadr 1 (.t 1)), none⟩, {}⟩, ⟨⟨some 38, (.load false 1 (.t 37)), none⟩, {}⟩, ⟨⟨some 39, (.len (.t 38)), none⟩, {}⟩, ⟨⟨some 40, (.mov (.c (I 0))), none⟩, {}⟩] none) plan_Check_C21) plan_Check_C4)
def plan_Check_C6 : TC := (.seq (.rg [⟨⟨some 34, (.fadr 0 (.t 1)), none⟩, {}⟩, ⟨⟨some 35, (.load false 1 (.t 34)), none⟩, {}⟩, ⟨⟨some 36, (.len (.t 35)), none⟩, {}⟩, ⟨⟨some 5, (.mov (.t 36)), none⟩, {}⟩] none) plan_Check_C14)
def plan_Check_C15 : TC := (.block 0 (.loop plan_Check_N1 plan_Check_C5))
def plan_Check_C7 : TC := (.seq (.seq (.rg [⟨⟨some 18, (.fadr 0 (.t 1)), none⟩, {}⟩, ⟨⟨some 19, (.load false 1 (.t 18)), none⟩, {}⟩, ⟨⟨some 20, (.len (.t 19)), none⟩, {}⟩, ⟨⟨some 21, (.mov (.c (I 0))), none⟩, {}⟩] none) plan_Check_C15) plan_Check_C6)
def plan_Check_C28 : TC := .ret
def plan_Check_C22 : TC := (.cond (.t 17) (.seq (.rg [⟨⟨some 2, (.mov (.c (I 2))), none⟩, {}⟩] none) plan_Check_C28) .skip)
def plan_Check_C23 : TC := (.join [.keep [1], .cmp] plan_Check_C7)
def plan_Check_C16 : TC := (.seq (.seq (.rg [⟨⟨some 8, (.fadr 0 (.t 1)), none⟩, {}⟩, ⟨⟨some 9, (.load false 1 (.t 8)), none⟩, {}⟩, ⟨⟨some 10, (.len (.t 9)), none⟩, {}⟩, ⟨⟨some 11, (.bin .gtr (.t 10) (.c (I 64))), none⟩, {}⟩, ⟨⟨some 12, (.mov (.t 11)), none⟩, {}⟩, ⟨⟨some 13, (.fadr 1 (.t 1)), some (12, false)⟩, {}⟩, ⟨⟨some 14,
  (.load false 1 (.t 13)), some (12, false)⟩, {}⟩, ⟨⟨some 15, (.len (.t 14)), some (12, false)⟩, {}⟩, ⟨⟨some 16, (.bin .gtr (.t 15) (.c (I 128))), some (12, false)⟩, {}⟩, ⟨⟨some 17, (.pick (.t 12) (.c (B true)) (.t 16)), none⟩, {}⟩] none) plan_Check_C22) plan_Check_C23)
def plan_Check_C8 : TC := (.seq (.rg [⟨⟨some 1, (.box (.t 0)), none⟩, {}⟩, ⟨⟨some 2, (.mov (.c (I 0))), none⟩, {}⟩] none) plan_Check_C16)
def plan_Check_E (N : Nat) : List (Nat × Ent) := [(40, pureE [G_Span, (.int .i64), (.int .i64)] [.bool] (fun x => plan_spanIn N x.1 x.2.1 x.2.2))]
def plan_Check_J2 (N n2 : Nat) (x19 : Int) (x20 : List T_Road) (x21 : Int) (x22 : Int) (x23 : Int) (x24 : Int) (x25 : Int) (x26 : Int) (x27 : Bool) (x28 : Bool) (x29 : Int) (x30 : Int) (x31 : Int) (x32 : Int) : Option Int := joinN (run (plan_Check_E N) N 0 plan_Check_C1) N ⟨[(5, .int .i64 x19), (7, .ptr 0 0 0), (38, .lst false G_Road x20), (39, .int .i64 x21), (40, .int .i64 x22)], [some (.box 0 [.int .i64 x23, .int .i64 x24, .int .i64 x25, .int .i64 x26, .bool x27, .bool x28, .int .i64 x29, .int .i64 x30, .int .i64 x31, .int .i64 x32])]⟩ (blkK 3 (seqK (run (plan_Check_E N) N 0 plan_Check_C2) (seqK (nextL (normI 0 plan_Check_N2) (loopN (normI 0 plan_Check_N2) (run (plan_Check_E N) N 0 plan_Check_C3) n2)) (blkK 2 (seqK (run (plan_Check_E N) N 0 plan_Check_C4) (fin [(.t 2)] [(.int .i64)]))))))
def plan_Check_L2 (N : Nat) (n : Nat) (x14 : Int) (x15 : List T_Road) (x16 : Int) (x17 : Int) : Option Int := loopN (normI 0 plan_Check_N2) (run (plan_Check_E N) N 0 plan_Check_C3) n ⟨[(5, .int .i64 x14), (38, .lst false G_Road x15), (39, .int .i64 x16), (40, .int .i64 x17)], []⟩ (blkK 2 (seqK (run (plan_Check_E N) N 0 plan_Check_C4) (fin [(.t 2)] [(.int .i64)])))
def plan_Check_L1 (N : Nat) (n : Nat) (x3 : List T_Place) (x4 : Int) (x5 : Int) (x6 : List T_Place) (x7 : List T_Road) : Option Int := loopN (normI 0 plan_Check_N1) (run (plan_Check_E N) N 0 plan_Check_C5) n ⟨[(1, .ptr 0 0 0), (19, .lst false G_Place x3), (20, .int .i64 x4), (21, .int .i64 x5)], [some (.box 0 [.lst false G_Place x6, .lst false G_Road x7])]⟩ (blkK 0 (seqK (run (plan_Check_E N) N 0 plan_Check_C6) (fin [(.t 2)] [(.int .i64)])))
def plan_Check_J1 (N : Nat) (x1 : List T_Place) (x2 : List T_Road) : Option Int := joinN (run (plan_Check_E N) N 0 plan_Check_C7) N ⟨[(1, .ptr 0 0 0)], [some (.box 0 [.lst false G_Place x1, .lst false G_Road x2])]⟩ (fin [(.t 2)] [(.int .i64)])
theorem plan_Check_J2_eqM (N JM n2 : Nat) (x19 : Int) (x20 : List T_Road) (x21 : Int) (x22 : Int) (x23 : Int) (x24 : Int) (x25 : Int) (x26 : Int) (x27 : Bool) (x28 : Bool) (x29 : Int) (x30 : Int) (x31 : Int) (x32 : Int) : joinN (run (plan_Check_E N) N 0 plan_Check_C1) (JM + 1) ⟨[(5, .int .i64 x19), (7, .ptr 0 0 0), (38, .lst false G_Road x20), (39, .int .i64 x21), (40, .int .i64 x22)], [some (.box 0 [.int .i64 x23, .int .i64 x24, .int .i64 x25, .int .i64 x26, .bool x27, .bool x28, .int .i64 x29, .int .i64 x30, .int .i64 x31, .int .i64 x32])]⟩ (blkK 3 (seqK (run (plan_Check_E N) N 0 plan_Check_C2) (seqK (nextL (normI 0 plan_Check_N2) (loopN (normI 0 plan_Check_N2) (run (plan_Check_E N) N 0 plan_Check_C3) n2)) (blkK 2 (seqK (run (plan_Check_E N) N 0 plan_Check_C4) (fin [(.t 2)] [(.int .i64)])))))) =
  bif (decide (x25 < 1)) then
    some 1
  else
    bif (decide (x25 > 100000)) then
      some 1
    else
      bif (decide (x26 < 1)) then
        some 1
      else
        bif (decide (x26 > 1000)) then
          some 1
        else
          Option.bind (plan_spanIn N (x29, x30) 1 262144) fun r33 =>
          bif (!r33) then
            some 1
          else
            Option.bind (plan_spanIn N (x31, x32) (-2199023255552) 2199023255552) fun r34 =>
            bif (!r34) then
              some 1
            else
              plan_Check_L2 N n2 x19 x20 x21 (W (x22 + 1)) := by kernel_rfl
theorem plan_Check_J2_eq (N n2 : Nat) (x19 : Int) (x20 : List T_Road) (x21 : Int) (x22 : Int) (x23 : Int) (x24 : Int) (x25 : Int) (x26 : Int) (x27 : Bool) (x28 : Bool) (x29 : Int) (x30 : Int) (x31 : Int) (x32 : Int) : plan_Check_J2 (N + 1) n2 x19 x20 x21 x22 x23 x24 x25 x26 x27 x28 x29 x30 x31 x32 =
  bif (decide (x25 < 1)) then
    some 1
  else
    bif (decide (x25 > 100000)) then
      some 1
    else
      bif (decide (x26 < 1)) then
        some 1
      else
        bif (decide (x26 > 1000)) then
          some 1
        else
          Option.bind (plan_spanIn (N + 1) (x29, x30) 1 262144) fun r33 =>
          bif (!r33) then
            some 1
          else
            Option.bind (plan_spanIn (N + 1) (x31, x32) (-2199023255552) 2199023255552) fun r34 =>
            bif (!r34) then
              some 1
            else
              plan_Check_L2 (N + 1) n2 x19 x20 x21 (W (x22 + 1)) := plan_Check_J2_eqM (N + 1) N n2 x19 x20 x21 x22 x23 x24 x25 x26 x27 x28 x29 x30 x31 x32
theorem plan_Check_L2_zero (N : Nat) (x14 : Int) (x15 : List T_Road) (x16 : Int) (x17 : Int) : plan_Check_L2 N 0 x14 x15 x16 x17 = none := rfl
theorem plan_Check_L2_succ (N : Nat) (n2 : Nat) (x14 : Int) (x15 : List T_Road) (x16 : Int) (x17 : Int) : plan_Check_L2 N (n2 + 1) x14 x15 x16 x17 =
  bif (decide (x17 < x16)) then
    bif inB x17 x15.length then
    let v18 := x15.getD x17.toNat D_Road
    bif (decide (v18.1 < 0)) then
      some 4
    else
      bif (decide (v18.1 ≥ x14)) then
        some 4
      else
        bif (decide (v18.2.1 < 0)) then
          some 4
        else
          bif (decide (v18.2.1 ≥ x14)) then
            some 4
          else
            bif (v18.1 == v18.2.1) then
              some 4
            else
              plan_Check_J2 N n2 x14 x15 x16 x17 v18.1 v18.2.1 v18.2.2.1 v18.2.2.2.1 v18.2.2.2.2.1 v18.2.2.2.2.2.1 v18.2.2.2.2.2.2.1.1 v18.2.2.2.2.2.2.1.2 v18.2.2.2.2.2.2.2.1 v18.2.2.2.2.2.2.2.2
    else none
  else
    some 0 := by kernel_rfl
theorem plan_Check_L1_zero (N : Nat) (x3 : List T_Place) (x4 : Int) (x5 : Int) (x6 : List T_Place) (x7 : List T_Road) : plan_Check_L1 N 0 x3 x4 x5 x6 x7 = none := rfl
theorem plan_Check_L1_succ (N : Nat) (n1 : Nat) (x3 : List T_Place) (x4 : Int) (x5 : Int) (x6 : List T_Place) (x7 : List T_Road) : plan_Check_L1 N (n1 + 1) x3 x4 x5 x6 x7 =
  bif (decide (x5 < x4)) then
    bif inB x5 x3.length then
    bif (decide ((x3.getD x5.toNat D_Place).1 < (-10000))) then
      some 1
    else
      bif (decide ((x3.getD x5.toNat D_Place).1 > 10000)) then
        some 1
      else
        plan_Check_L1 N n1 x3 x4 (W (x5 + 1)) x6 x7
    else none
  else
    plan_Check_L2 N N (x6.length : Int) x7 (x7.length : Int) 0 := by kernel_rfl
theorem plan_Check_J1_eqM (N JM : Nat) (x1 : List T_Place) (x2 : List T_Road) : joinN (run (plan_Check_E N) N 0 plan_Check_C7) (JM + 1) ⟨[(1, .ptr 0 0 0)], [some (.box 0 [.lst false G_Place x1, .lst false G_Road x2])]⟩ (fin [(.t 2)] [(.int .i64)]) =
  plan_Check_L1 N N x1 (x1.length : Int) 0 x1 x2 := by kernel_rfl
theorem plan_Check_J1_eq (N : Nat) (x1 : List T_Place) (x2 : List T_Road) : plan_Check_J1 (N + 1) x1 x2 =
  plan_Check_L1 (N + 1) (N + 1) x1 (x1.length : Int) 0 x1 x2 := plan_Check_J1_eqM (N + 1) N x1 x2
def plan_Check (N : Nat) (a0 : T_Mine) : Option Int :=
  bif (decide ((a0.1.length : Int) > 64)) then
    some 2
  else
    bif (decide ((a0.2.length : Int) > 128)) then
      some 2
    else
      plan_Check_J1 N a0.1 a0.2
theorem plan_Check_fn : FnOK Try.prog 12 100 (fun _ : Nat => false) plan_Check_C8.er [(.t 2)] := FnOK.mk' Try.func12 (by kernel_rfl) (by kernel_rfl) (by kernel_rfl) (by kernel_rfl) (by kernel_rfl)
theorem plan_Check_envok (N : Nat) : EnvOK Try.prog (plan_Check_E N) := .cons (pureE_ok (plan_spanIn_pure N)) (.nil)
theorem plan_Check_pure (N : Nat) : PureOK Try.prog 12 [G_Mine] [(.int .i64)] (fun x => plan_Check N x) := pureOK (N := N) mixed plan_Check_fn (plan_Check_envok N) (TC.noh_ok (by kernel_rfl)) rfl (fun x => by kernel_rfl)
/-! ref01_Span -/
def ref01_Span_C3 : TC := .ret
def ref01_Span_C2 : TC := (.seq (.rg [⟨⟨some 7, (.mov (.t 1)), none⟩, {}⟩, ⟨⟨some 8, (.fadr 0 (.t 3)), none⟩, {}⟩, ⟨⟨some 9, (.load false 1 (.t 8)), none⟩, {}⟩, ⟨⟨some 10, (.bin .leq (.t 7) (.t 9)), none⟩, {}⟩, ⟨⟨some 11, (.mov (.t 10)), none⟩, {}⟩, ⟨⟨some 12, (.fadr 0 (.t 3)), some (11, true)⟩, {}⟩, ⟨⟨some 13, (.load false 1
  (.t 12)), some (11, true)⟩, {}⟩, ⟨⟨some 14, (.fadr 1 (.t 3)), some (11, true)⟩, {}⟩, ⟨⟨some 15, (.load false 1 (.t 14)), some (11, true)⟩, {}⟩, ⟨⟨some 16, (.bin .leq (.t 13) (.t 15)), some (11, true)⟩, {}⟩, ⟨⟨some 17, (.pick (.t 11) (.t 16) (.c (B false))), none⟩, {}⟩, ⟨⟨some 18, (.mov (.t 17)),
  none⟩, {}⟩, ⟨⟨some 19, (.fadr 1 (.t 3)), some (18, true)⟩, {}⟩, ⟨⟨some 20, (.load false 1 (.t 19)), some (18, true)⟩, {}⟩, ⟨⟨some 21, (.mov (.t 2)), some (18, true)⟩, {}⟩, ⟨⟨some 22, (.bin .leq (.t 20) (.t 21)), some (18, true)⟩, {}⟩, ⟨⟨some 23, (.pick (.t 18) (.t 22) (.c (B false))), none⟩, {}⟩,
  ⟨⟨some 6, (.mov (.t 23)), none⟩, {}⟩] none) ref01_Span_C3)
def ref01_Span_C1 : TC := (.seq (.rg [⟨⟨some 3, (.box (.t 0)), none⟩, {}⟩, ⟨⟨some 6, (.mov (.c (B false))), none⟩, {}⟩] none) ref01_Span_C2)
def ref01_Span_E (N : Nat) : List (Nat × Ent) := []
def ref01_Span (N : Nat) (a0 : T_Span) (a1 : Int) (a2 : Int) : Option Bool :=
  bif (decide (a1 ≤ a0.1)) then
    bif (decide (a0.1 ≤ a0.2)) then
      some (decide (a0.2 ≤ a2))
    else
      some false
  else
    some false
theorem ref01_Span_fn : FnOK Try.prog 41 24 (fun _ : Nat => false) ref01_Span_C1.er [(.t 6)] := FnOK.mk' Try.func41 (by kernel_rfl) (by kernel_rfl) (by kernel_rfl) (by kernel_rfl) (by kernel_rfl)
theorem ref01_Span_envok (N : Nat) : EnvOK Try.prog (ref01_Span_E N) := .nil
theorem ref01_Span_pure (N : Nat) : PureOK Try.prog 41 [G_Span, (.int .i64), (.int .i64)] [.bool] (fun x => ref01_Span N x.1 x.2.1 x.2.2) := pureOK (N := N) mixed ref01_Span_fn (ref01_Span_envok N) (TC.noh_ok (by kernel_rfl)) rfl (fun x => by kernel_rfl)
/-! ref01_Check -/
def ref01_Check_N1 : List NS := [.keep [1, 3], .cmp]
def ref01_Check_N2 : List NS := [.keep [1, 5], .cmp]
def ref01_Check_C18 : TC := .ret
def ref01_Check_C9 : TC := (.cond (.t 108) (.seq (.rg [⟨⟨some 2, (.mov (.c (I 1))), none⟩, {}⟩] none) ref01_Check_C18) .skip)
def ref01_Check_C1 : TC := (.seq (.rg [⟨⟨some 79, (.fadr 2 (.t 6)), none⟩, {}⟩, ⟨⟨some 80, (.load false 1 (.t 79)), none⟩, {}⟩, ⟨⟨some 81, (.bin .lss (.t 80) (.c (I 1))), none⟩, {}⟩, ⟨⟨some 82, (.mov (.t 81)), none⟩, {}⟩, ⟨⟨some 83, (.fadr 2 (.t 6)), some (82, false)⟩, {}⟩, ⟨⟨some 84, (.load false 1 (.t 83)), some (82,
  false)⟩, {}⟩, ⟨⟨some 85, (.bin .gtr (.t 84) (.c (I 100000))), some (82, false)⟩, {}⟩, ⟨⟨some 86, (.pick (.t 82) (.c (B true)) (.t 85)), none⟩, {}⟩, ⟨⟨some 87, (.mov (.t 86)), none⟩, {}⟩, ⟨⟨some 88, (.fadr 3 (.t 6)), some (87, false)⟩, {}⟩, ⟨⟨some 89, (.load false 1 (.t 88)), some (87, false)⟩, {}⟩,
  ⟨⟨some 90, (.bin .lss (.t 89) (.c (I 1))), some (87, false)⟩, {}⟩, ⟨⟨some 91, (.pick (.t 87) (.c (B true)) (.t 90)), none⟩, {}⟩, ⟨⟨some 92, (.mov (.t 91)), none⟩, {}⟩, ⟨⟨some 93, (.fadr 3 (.t 6)), some (92, false)⟩, {}⟩, ⟨⟨some 94, (.load false 1 (.t 93)), some (92, false)⟩, {}⟩, ⟨⟨some 95, (.bin
  .gtr (.t 94) (.c (I 1000))), some (92, false)⟩, {}⟩, ⟨⟨some 96, (.pick (.t 92) (.c (B true)) (.t 95)), none⟩, {}⟩, ⟨⟨some 97, (.mov (.t 96)), none⟩, {}⟩, ⟨⟨some 98, (.fadr 6 (.t 6)), some (97, false)⟩, {}⟩, ⟨⟨some 99, (.load true 2 (.t 98)), some (97, false)⟩, {}⟩, ⟨⟨some 100, (.call (.c (.fn 41
  [])) [(.t 99), (.c (I 1)), (.c (I 262144))]), some (97, false)⟩, {}⟩, ⟨⟨some 101, (.un .not (.t 100)), some (97, false)⟩, {}⟩, ⟨⟨some 102, (.pick (.t 97) (.c (B true)) (.t 101)), none⟩, {}⟩, ⟨⟨some 103, (.mov (.t 102)), none⟩, {}⟩, ⟨⟨some 104, (.fadr 8 (.t 6)), some (103, false)⟩, {}⟩, ⟨⟨some 105,
  (.load true 2 (.t 104)), some (103, false)⟩, {}⟩, ⟨⟨some 106, (.call (.c (.fn 41 [])) [(.t 105), (.c (I (-2199023255552))), (.c (I 2199023255552))]), some (103, false)⟩, {}⟩, ⟨⟨some 107, (.un .not (.t 106)), some (103, false)⟩, {}⟩, ⟨⟨some 108, (.pick (.t 103) (.c (B true)) (.t 107)), none⟩, {}⟩]
  none) ref01_Check_C9)
def ref01_Check_C2 : TC := (.rg [⟨⟨some 41, (.mov (.t 5)), none⟩, {}⟩, ⟨⟨some 42, (.bin .add (.t 41) (.c (I 1))), none⟩, {}⟩, ⟨⟨some 5, (.mov (.t 42)), none⟩, {}⟩] none)
def ref01_Check_C10 : TC := (.cond (.t 40) .skip (.exit 2))
def ref01_Check_C28 : TC := .ret
def ref01_Check_C24 : TC := (.cond (.t 78) (.seq (.rg [⟨⟨some 2, (.mov (.c (I 4))), none⟩, {}⟩] none) ref01_Check_C28) .skip)
def ref01_Check_C25 : TC := (.join [.keep [1, 5, 6], .cmp] ref01_Check_C1)
def ref01_Check_C19 : TC := (.seq (.seq (.rg [⟨⟨some 48, (.fadr 0 (.t 6)), none⟩, {}⟩, ⟨⟨some 49, (.load false 1 (.t 48)), none⟩, {}⟩, ⟨⟨some 50, (.bin .lss (.t 49) (.c (I 0))), none⟩, {}⟩, ⟨⟨some 51, (.mov (.t 50)), none⟩, {}⟩, ⟨⟨some 52, (.fadr 0 (.t 6)), some (51, false)⟩, {}⟩, ⟨⟨some 53, (.load false 1 (.t 52)), some (51,
  false)⟩, {}⟩, ⟨⟨some 54, (.fadr 0 (.t 1)), some (51, false)⟩, {}⟩, ⟨⟨some 55, (.load false 1 (.t 54)), some (51, false)⟩, {}⟩, ⟨⟨some 56, (.len (.t 55)), some (51, false)⟩, {}⟩, ⟨⟨some 57, (.bin .geq (.t 53) (.t 56)), some (51, false)⟩, {}⟩, ⟨⟨some 58, (.pick (.t 51) (.c (B true)) (.t 57)), none⟩,
  {}⟩, ⟨⟨some 59, (.mov (.t 58)), none⟩, {}⟩, ⟨⟨some 60, (.fadr 1 (.t 6)), some (59, false)⟩, {}⟩, ⟨⟨some 61, (.load false 1 (.t 60)), some (59, false)⟩, {}⟩, ⟨⟨some 62, (.bin .lss (.t 61) (.c (I 0))), some (59, false)⟩, {}⟩, ⟨⟨some 63, (.pick (.t 59) (.c (B true)) (.t 62)), none⟩, {}⟩, ⟨⟨some 64,
  (.mov (.t 63)), none⟩, {}⟩, ⟨⟨some 65, (.fadr 1 (.t 6)), some (64, false)⟩, {}⟩, ⟨⟨some 66, (.load false 1 (.t 65)), some (64, false)⟩, {}⟩, ⟨⟨some 67, (.fadr 0 (.t 1)), some (64, false)⟩, {}⟩, ⟨⟨some 68, (.load false 1 (.t 67)), some (64, false)⟩, {}⟩, ⟨⟨some 69, (.len (.t 68)), some (64, false)⟩,
  {}⟩, ⟨⟨some 70, (.bin .geq (.t 66) (.t 69)), some (64, false)⟩, {}⟩, ⟨⟨some 71, (.pick (.t 64) (.c (B true)) (.t 70)), none⟩, {}⟩, ⟨⟨some 72, (.mov (.t 71)), none⟩, {}⟩, ⟨⟨some 73, (.fadr 0 (.t 6)), some (72, false)⟩, {}⟩, ⟨⟨some 74, (.load false 1 (.t 73)), some (72, false)⟩, {}⟩, ⟨⟨some 75,
  (.fadr 1 (.t 6)), some (72, false)⟩, {}⟩, ⟨⟨some 76, (.load false 1 (.t 75)), some (72, false)⟩, {}⟩, ⟨⟨some 77, (.bin .eql (.t 74) (.t 76)), some (72, false)⟩, {}⟩, ⟨⟨some 78, (.pick (.t 72) (.c (B true)) (.t 77)), none⟩, {}⟩] none) ref01_Check_C24) ref01_Check_C25)
def ref01_Check_C11 : TC := (.seq (.block 3 (.seq (.rg [⟨⟨some 43, (.fadr 1 (.t 1)), none⟩, {}⟩, ⟨⟨some 44, (.load false 1 (.t 43)), none⟩, {}⟩, ⟨⟨some 45, (.mov (.t 5)), none⟩, {}⟩, ⟨⟨some 46, (.iadrS 10 (.t 44) (.t 45)), none⟩, {}⟩, ⟨⟨some 47, (.load true 10 (.t 46)), none⟩, {}⟩, ⟨⟨some 6, (.alloc [(I 0), (I 0), (I 0), (I 0),
  (B false), (B false), (I 0), (I 0), (I 0), (I 0)]), none⟩, {}⟩, ⟨⟨none, (.store 10 (.t 6) (.t 47)), none⟩, {}⟩] none) ref01_Check_C19)) ref01_Check_C2)
def ref01_Check_C3 : TC := (.seq (.seq (.rg [⟨⟨some 36, (.mov (.t 5)), none⟩, {}⟩, ⟨⟨some 37, (.fadr 1 (.t 1)), none⟩, {}⟩, ⟨⟨some 38, (.load false 1 (.t 37)), none⟩, {}⟩, ⟨⟨some 39, (.len (.t 38)), none⟩, {}⟩, ⟨⟨some 40, (.bin .lss (.t 36) (.t 39)), none⟩, {}⟩] none) ref01_Check_C10) ref01_Check_C11)
def ref01_Check_C12 : TC := .ret
def ref01_Check_C4 : TC := (.seq (.rg [⟨⟨some 2, (.mov (.c (I 0))), none⟩, {}⟩] none) ref01_Check_C12)
def ref01_Check_C13 : TC := (.cond (.t 21) .skip (.exit 0))
def ref01_Check_C29 : TC := .ret
def ref01_Check_C26 : TC := (.cond (.t 35) (.seq (.rg [⟨⟨some 2, (.mov (.c (I 1))), none⟩, {}⟩] none) ref01_Check_C29) .skip)
def ref01_Check_C20 : TC := (.seq (.rg [⟨⟨some 30, (.mov (.t 4)), none⟩, {}⟩, ⟨⟨some 31, (.bin .lss (.t 30) (.c (I (-10000)))), none⟩, {}⟩, ⟨⟨some 32, (.mov (.t 31)), none⟩, {}⟩, ⟨⟨some 33, (.mov (.t 4)), some (32, false)⟩, {}⟩, ⟨⟨some 34, (.bin .gtr (.t 33) (.c (I 10000))), some (32, false)⟩, {}⟩, ⟨⟨some 35, (.pick (.t 32) (.c
  (B true)) (.t 34)), none⟩, {}⟩] none) ref01_Check_C26)
def ref01_Check_C21 : TC := (.rg [⟨⟨some 22, (.mov (.t 3)), none⟩, {}⟩, ⟨⟨some 23, (.bin .add (.t 22) (.c (I 1))), none⟩, {}⟩, ⟨⟨some 3, (.mov (.t 23)), none⟩, {}⟩] none)
def ref01_Check_C14 : TC := (.seq (.block 1 (.seq (.rg [⟨⟨some 24, (.fadr 0 (.t 1)), none⟩, {}⟩, ⟨⟨some 25, (.load false 1 (.t 24)), none⟩, {}⟩, ⟨⟨some 26, (.mov (.t 3)), none⟩, {}⟩, ⟨⟨some 27, (.iadrS 2 (.t 25) (.t 26)), none⟩, {}⟩, ⟨⟨some 28, (.fadr 0 (.t 27)), none⟩, {}⟩, ⟨⟨some 29, (.load false 1 (.t 28)), none⟩, {}⟩,
  ⟨⟨some 4, (.mov (.t 29)), none⟩, {}⟩] none) ref01_Check_C20)) ref01_Check_C21)
def ref01_Check_C5 : TC := (.seq (.seq (.rg [⟨⟨some 17, (.mov (.t 3)), none⟩, {}⟩, ⟨⟨some 18, (.fadr 0 (.t 1)), none⟩, {}⟩, ⟨⟨some 19, (.load false 1 (.t 18)), none⟩, {}⟩, ⟨⟨some 20, (.len (.t 19)), none⟩, {}⟩, ⟨⟨some 21, (.bin .lss (.t 17) (.t 20)), none⟩, {}⟩] none) ref01_Check_C13) ref01_Check_C14)
def ref01_Check_C15 : TC := (.block 2 (.loop ref01_Check_N2 ref01_Check_C3))
def ref01_Check_C6 : TC := (.seq (.seq (.rg [⟨⟨some 5, (.mov (.c (I 0))), none⟩, {}⟩] none) ref01_Check_C15) ref01_Check_C4)
def ref01_Check_C16 : TC := (.block 0 (.loop ref01_Check_N1 ref01_Check_C5))
def ref01_Check_C7 : TC := (.seq (.seq (.rg [⟨⟨some 3, (.mov (.c (I 0))), none⟩, {}⟩] none) ref01_Check_C16) ref01_Check_C6)
def ref01_Check_C27 : TC := .ret
def ref01_Check_C22 : TC := (.cond (.t 16) (.seq (.rg [⟨⟨some 2, (.mov (.c (I 2))), none⟩, {}⟩] none) ref01_Check_C27) .skip)
def ref01_Check_C23 : TC := (.join [.keep [1], .cmp] ref01_Check_C7)
def ref01_Check_C17 : TC := (.seq (.seq (.rg [⟨⟨some 7, (.fadr 0 (.t 1)), none⟩, {}⟩, ⟨⟨some 8, (.load false 1 (.t 7)), none⟩, {}⟩, ⟨⟨some 9, (.len (.t 8)), none⟩, {}⟩, ⟨⟨some 10, (.bin .gtr (.t 9) (.c (I 64))), none⟩, {}⟩, ⟨⟨some 11, (.mov (.t 10)), none⟩, {}⟩, ⟨⟨some 12, (.fadr 1 (.t 1)), some (11, false)⟩, {}⟩, ⟨⟨some 13,
  (.load false 1 (.t 12)), some (11, false)⟩, {}⟩, ⟨⟨some 14, (.len (.t 13)), some (11, false)⟩, {}⟩, ⟨⟨some 15, (.bin .gtr (.t 14) (.c (I 128))), some (11, false)⟩, {}⟩, ⟨⟨some 16, (.pick (.t 11) (.c (B true)) (.t 15)), none⟩, {}⟩] none) ref01_Check_C22) ref01_Check_C23)
def ref01_Check_C8 : TC := (.seq (.rg [⟨⟨some 1, (.box (.t 0)), none⟩, {}⟩, ⟨⟨some 2, (.mov (.c (I 0))), none⟩, {}⟩] none) ref01_Check_C17)
def ref01_Check_E (N : Nat) : List (Nat × Ent) := [(41, pureE [G_Span, (.int .i64), (.int .i64)] [.bool] (fun x => ref01_Span N x.1 x.2.1 x.2.2))]
def ref01_Check_J2 (N n2 : Nat) (x14 : Int) (x15 : List T_Place) (x16 : List T_Road) (x17 : Int) (x18 : Int) (x19 : Int) (x20 : Int) (x21 : Bool) (x22 : Bool) (x23 : Int) (x24 : Int) (x25 : Int) (x26 : Int) : Option Int := joinN (run (ref01_Check_E N) N 0 ref01_Check_C1) N ⟨[(1, .ptr 0 0 0), (5, .int .i64 x14), (6, .ptr 1 0 0)], [some (.box 0 [.lst false G_Place x15, .lst false G_Road x16]), some (.box 0 [.int .i64 x17, .int .i64 x18, .int .i64 x19, .int .i64 x20, .bool x21, .bool x22, .int .i64 x23, .int .i64 x24, .int .i64 x25, .int .i64 x26])]⟩ (blkK 3 (seqK (run (ref01_Check_E N) N 0 ref01_Check_C2) (seqK (nextL (normI 0 ref01_Check_N2) (loopN (normI 0 ref01_Check_N2) (run (ref01_Check_E N) N 0 ref01_Check_C3) n2)) (blkK 2 (seqK (run (ref01_Check_E N) N 0 ref01_Check_C4) (fin [(.t 2)] [(.int .i64)]))))))
def ref01_Check_L2 (N : Nat) (n : Nat) (x10 : Int) (x11 : List T_Place) (x12 : List T_Road) : Option Int := loopN (normI 0 ref01_Check_N2) (run (ref01_Check_E N) N 0 ref01_Check_C3) n ⟨[(1, .ptr 0 0 0), (5, .int .i64 x10)], [some (.box 0 [.lst false G_Place x11, .lst false G_Road x12])]⟩ (blkK 2 (seqK (run (ref01_Check_E N) N 0 ref01_Check_C4) (fin [(.t 2)] [(.int .i64)])))
def ref01_Check_L1 (N : Nat) (n : Nat) (x3 : Int) (x4 : List T_Place) (x5 : List T_Road) : Option Int := loopN (normI 0 ref01_Check_N1) (run (ref01_Check_E N) N 0 ref01_Check_C5) n ⟨[(1, .ptr 0 0 0), (3, .int .i64 x3)], [some (.box 0 [.lst false G_Place x4, .lst false G_Road x5])]⟩ (blkK 0 (seqK (run (ref01_Check_E N) N 0 ref01_Check_C6) (fin [(.t 2)] [(.int .i64)])))
def ref01_Check_J1 (N : Nat) (x1 : List T_Place) (x2 : List T_Road) : Option Int := joinN (run (ref01_Check_E N) N 0 ref01_Check_C7) N ⟨[(1, .ptr 0 0 0)], [some (.box 0 [.lst false G_Place x1, .lst false G_Road x2])]⟩ (fin [(.t 2)] [(.int .i64)])
theorem ref01_Check_J2_eqM (N JM n2 : Nat) (x14 : Int) (x15 : List T_Place) (x16 : List T_Road) (x17 : Int) (x18 : Int) (x19 : Int) (x20 : Int) (x21 : Bool) (x22 : Bool) (x23 : Int) (x24 : Int) (x25 : Int) (x26 : Int) : joinN (run (ref01_Check_E N) N 0 ref01_Check_C1) (JM + 1) ⟨[(1, .ptr 0 0 0), (5, .int .i64 x14), (6, .ptr 1 0 0)], [some (.box 0 [.lst false G_Place x15, .lst false G_Road x16]), some (.box 0 [.int .i64 x17, .int .i64 x18, .int .i64 x19, .int .i64 x20, .bool x21, .bool x22, .int .i64 x23, .int .i64 x24, .int .i64 x25, .int .i64 x26])]⟩ (blkK 3 (seqK (run (ref01_Check_E N) N 0 ref01_Check_C2) (seqK (nextL (normI 0 ref01_Check_N2) (loopN (normI 0 ref01_Check_N2) (run (ref01_Check_E N) N 0 ref01_Check_C3) n2)) (blkK 2 (seqK (run (ref01_Check_E N) N 0 ref01_Check_C4) (fin [(.t 2)] [(.int .i64)])))))) =
  bif (decide (x19 < 1)) then
    some 1
  else
    bif (decide (x19 > 100000)) then
      some 1
    else
      bif (decide (x20 < 1)) then
        some 1
      else
        bif (decide (x20 > 1000)) then
          some 1
        else
          Option.bind (ref01_Span N (x23, x24) 1 262144) fun r27 =>
          bif (!r27) then
            some 1
          else
            Option.bind (ref01_Span N (x25, x26) (-2199023255552) 2199023255552) fun r28 =>
            bif (!r28) then
              some 1
            else
              ref01_Check_L2 N n2 (W (x14 + 1)) x15 x16 := by kernel_rfl
theorem ref01_Check_J2_eq (N n2 : Nat) (x14 : Int) (x15 : List T_Place) (x16 : List T_Road) (x17 : Int) (x18 : Int) (x19 : Int) (x20 : Int) (x21 : Bool) (x22 : Bool) (x23 : Int) (x24 : Int) (x25 : Int) (x26 : Int) : ref01_Check_J2 (N + 1) n2 x14 x15 x16 x17 x18 x19 x20 x21 x22 x23 x24 x25 x26 =
  bif (decide (x19 < 1)) then
    some 1
  else
    bif (decide (x19 > 100000)) then
      some 1
    else
      bif (decide (x20 < 1)) then
        some 1
      else
        bif (decide (x20 > 1000)) then
          some 1
        else
          Option.bind (ref01_Span (N + 1) (x23, x24) 1 262144) fun r27 =>
          bif (!r27) then
            some 1
          else
            Option.bind (ref01_Span (N + 1) (x25, x26) (-2199023255552) 2199023255552) fun r28 =>
            bif (!r28) then
              some 1
            else
              ref01_Check_L2 (N + 1) n2 (W (x14 + 1)) x15 x16 := ref01_Check_J2_eqM (N + 1) N n2 x14 x15 x16 x17 x18 x19 x20 x21 x22 x23 x24 x25 x26
theorem ref01_Check_L2_zero (N : Nat) (x10 : Int) (x11 : List T_Place) (x12 : List T_Road) : ref01_Check_L2 N 0 x10 x11 x12 = none := rfl
theorem ref01_Check_L2_succ (N : Nat) (n2 : Nat) (x10 : Int) (x11 : List T_Place) (x12 : List T_Road) : ref01_Check_L2 N (n2 + 1) x10 x11 x12 =
  bif (decide (x10 < (x12.length : Int))) then
    bif inB x10 x12.length then
    let v13 := x12.getD x10.toNat D_Road
    bif (decide (v13.1 < 0)) then
      some 4
    else
      bif (decide (v13.1 ≥ (x11.length : Int))) then
        some 4
      else
        bif (decide (v13.2.1 < 0)) then
          some 4
        else
          bif (decide (v13.2.1 ≥ (x11.length : Int))) then
            some 4
          else
            bif (v13.1 == v13.2.1) then
              some 4
            else
              ref01_Check_J2 N n2 x10 x11 x12 v13.1 v13.2.1 v13.2.2.1 v13.2.2.2.1 v13.2.2.2.2.1 v13.2.2.2.2.2.1 v13.2.2.2.2.2.2.1.1 v13.2.2.2.2.2.2.1.2 v13.2.2.2.2.2.2.2.1 v13.2.2.2.2.2.2.2.2
    else none
  else
    some 0 := by kernel_rfl
theorem ref01_Check_L1_zero (N : Nat) (x3 : Int) (x4 : List T_Place) (x5 : List T_Road) : ref01_Check_L1 N 0 x3 x4 x5 = none := rfl
theorem ref01_Check_L1_succ (N : Nat) (n1 : Nat) (x3 : Int) (x4 : List T_Place) (x5 : List T_Road) : ref01_Check_L1 N (n1 + 1) x3 x4 x5 =
  bif (decide (x3 < (x4.length : Int))) then
    bif inB x3 x4.length then
    bif (decide ((x4.getD x3.toNat D_Place).1 < (-10000))) then
      some 1
    else
      bif (decide ((x4.getD x3.toNat D_Place).1 > 10000)) then
        some 1
      else
        ref01_Check_L1 N n1 (W (x3 + 1)) x4 x5
    else none
  else
    ref01_Check_L2 N N 0 x4 x5 := by kernel_rfl
theorem ref01_Check_J1_eqM (N JM : Nat) (x1 : List T_Place) (x2 : List T_Road) : joinN (run (ref01_Check_E N) N 0 ref01_Check_C7) (JM + 1) ⟨[(1, .ptr 0 0 0)], [some (.box 0 [.lst false G_Place x1, .lst false G_Road x2])]⟩ (fin [(.t 2)] [(.int .i64)]) =
  ref01_Check_L1 N N 0 x1 x2 := by kernel_rfl
theorem ref01_Check_J1_eq (N : Nat) (x1 : List T_Place) (x2 : List T_Road) : ref01_Check_J1 (N + 1) x1 x2 =
  ref01_Check_L1 (N + 1) (N + 1) 0 x1 x2 := ref01_Check_J1_eqM (N + 1) N x1 x2
def ref01_Check (N : Nat) (a0 : T_Mine) : Option Int :=
  bif (decide ((a0.1.length : Int) > 64)) then
    some 2
  else
    bif (decide ((a0.2.length : Int) > 128)) then
      some 2
    else
      ref01_Check_J1 N a0.1 a0.2
theorem ref01_Check_fn : FnOK Try.prog 13 109 (fun _ : Nat => false) ref01_Check_C8.er [(.t 2)] := FnOK.mk' Try.func13 (by kernel_rfl) (by kernel_rfl) (by kernel_rfl) (by kernel_rfl) (by kernel_rfl)
theorem ref01_Check_envok (N : Nat) : EnvOK Try.prog (ref01_Check_E N) := .cons (pureE_ok (ref01_Span_pure N)) (.nil)
theorem ref01_Check_pure (N : Nat) : PureOK Try.prog 13 [G_Mine] [(.int .i64)] (fun x => ref01_Check N x) := pureOK (N := N) mixed ref01_Check_fn (ref01_Check_envok N) (TC.noh_ok (by kernel_rfl)) rfl (fun x => by kernel_rfl)
/-! plan_Valid -/
def plan_Valid_C3 : TC := .ret
def plan_Valid_C2 : TC := (.seq (.rg [⟨⟨some 3, (.load true 2 (.t 1)), none⟩, {}⟩, ⟨⟨some 4, (.call (.c (.fn 12 [])) [(.t 3)]), none⟩, {}⟩, ⟨⟨some 5, (.bin .eql (.t 4) (.c (I 0))), none⟩, {}⟩, ⟨⟨some 2, (.mov (.t 5)), none⟩, {}⟩] none) plan_Valid_C3)
def plan_Valid_C1 : TC := (.seq (.rg [⟨⟨some 1, (.box (.t 0)), none⟩, {}⟩, ⟨⟨some 2, (.mov (.c (B false))), none⟩, {}⟩] none) plan_Valid_C2)
def plan_Valid_E (N : Nat) : List (Nat × Ent) := [(12, pureE [G_Mine] [(.int .i64)] (fun x => plan_Check N x))]
def plan_Valid (N : Nat) (a0 : T_Mine) : Option Bool :=
  Option.bind (plan_Check N a0) fun r1 =>
  some (r1 == 0)
theorem plan_Valid_fn : FnOK Try.prog 14 6 (fun _ : Nat => false) plan_Valid_C1.er [(.t 2)] := FnOK.mk' Try.func14 (by kernel_rfl) (by kernel_rfl) (by kernel_rfl) (by kernel_rfl) (by kernel_rfl)
theorem plan_Valid_envok (N : Nat) : EnvOK Try.prog (plan_Valid_E N) := .cons (pureE_ok (plan_Check_pure N)) (.nil)
theorem plan_Valid_pure (N : Nat) : PureOK Try.prog 14 [G_Mine] [.bool] (fun x => plan_Valid N x) := pureOK (N := N) mixed plan_Valid_fn (plan_Valid_envok N) (TC.noh_ok (by kernel_rfl)) rfl (fun x => by kernel_rfl)
/-! plan_clone -/
def plan_clone_NE : List NS := [.ownc 2 0 G_Place, .ownc 2 1 G_Road, .keep [2], .out []]
def plan_clone_C4 : TC := .ret
def plan_clone_C3 : TC := (.pre [.ownc 2 0 G_Place, .ownc 2 1 G_Road, .keep [2], .out []] plan_clone_C4)
def plan_clone_C2 : TC := (.seq (.pre [.ghost G_Place, .ghost G_Road] (.rg [⟨⟨some 3, (.fadr 0 (.t 1)), none⟩, {}⟩, ⟨⟨some 4, (.load false 1 (.t 3)), none⟩, {}⟩, ⟨⟨some 5, (.app 2 16 (.c (.lst true [])) (.t 4)), none⟩, ⟨.unit, some 2⟩⟩, ⟨⟨some 6, (.fadr 1 (.t 1)), none⟩, {}⟩, ⟨⟨some 7, (.load false 1 (.t 6)), none⟩, {}⟩,
  ⟨⟨some 8, (.app 10 72 (.c (.lst true [])) (.t 7)), none⟩, ⟨.unit, some 3⟩⟩, ⟨⟨some 9, (.build [(.lst true []), (.lst true [])] [(0, (1, (.t 5))), (1, (1, (.t 8)))]), none⟩, {}⟩, ⟨⟨none, (.store 2 (.t 2) (.t 9)), none⟩, {}⟩] (some [(2, 3), (2, 4)]))) plan_clone_C3)
def plan_clone_C1 : TC := (.seq (.rg [⟨⟨some 1, (.box (.t 0)), none⟩, {}⟩, ⟨⟨some 2, (.alloc [(.lst true []), (.lst true [])]), none⟩, {}⟩] none) plan_clone_C2)
def plan_clone_E (N : Nat) : List (Nat × Ent) := []
def plan_clone (N : Nat) (a0 : T_Mine) : Option (T_Mine × Unit) :=
  bif fitsB a0.1.length 16 then
  bif fitsB a0.2.length 72 then
  some (a0, ())
  else none
  else none
theorem plan_clone_fn : FnOK Try.prog 42 10 (fun _ : Nat => false) plan_clone_C1.er [(.cell 2 true 2)] := FnOK.mk' Try.func42 (by kernel_rfl) (by kernel_rfl) (by kernel_rfl) (by kernel_rfl) (by kernel_rfl)
theorem plan_clone_envok (N : Nat) : EnvOK Try.prog (plan_clone_E N) := .nil
theorem plan_clone_sf (N : Nat) : SFOK Try.prog 42 [none] [.v G_Mine] [.o (.p (.a G_Place) (.a G_Road))] (fun x => plan_clone N x) := sfOK (N := N) (p := 0) (q := 0) (ns := plan_clone_NE) mixed plan_clone_fn (plan_clone_envok N) (TC.noh_ok (by kernel_rfl)) rfl rfl rfl (fun x => by kernel_rfl)
/-! plan_Apply -/
def plan_Apply_C17 : TC := .ret
def plan_Apply_C10 : TC := (.pre [.frzb 4] plan_Apply_C17)
def plan_Apply_C4 : TC := (.cond (.t 54) (.seq (.rg [⟨⟨some 55, (.build [(.lst true []), (.lst true [])] []), none⟩, {}⟩, ⟨⟨none, (.store 2 (.t 4) (.t 55)), none⟩, {}⟩, ⟨⟨some 5, (.mov (.c (I 4))), none⟩, {}⟩] none) plan_Apply_C10) .skip)
def plan_Apply_C36 : TC := .ret
def plan_Apply_C33 : TC := (.pre [.frzb 4] plan_Apply_C36)
def plan_Apply_C30 : TC := (.cond (.t 70) (.seq (.rg [⟨⟨some 71, (.build [(.lst true []), (.lst true [])] []), none⟩, {}⟩, ⟨⟨none, (.store 2 (.t 4) (.t 71)), none⟩, {}⟩, ⟨⟨some 5, (.mov (.c (I 10))), none⟩, {}⟩] none) plan_Apply_C33) .skip)
def plan_Apply_C31 : TC := (.rg [⟨⟨some 72, (.mov (.t 8)), none⟩, {}⟩, ⟨⟨some 73, (.fadr 0 (.t 3)), none⟩, {}⟩, ⟨⟨some 74, (.load false 1 (.t 73)), none⟩, {}⟩, ⟨⟨some 75, (.bin .eql (.t 74) (.c (I 3))), none⟩, {}⟩, ⟨⟨some 76, (.nilck (.t 72)), none⟩, {}⟩, ⟨⟨some 77, (.fadr 5 (.t 76)), none⟩, {}⟩, ⟨⟨none, (.store 1 (.t 77) (.t
  75)), none⟩, {}⟩] none)
def plan_Apply_C27 : TC := (.cond (.t 85) (.rg [⟨⟨some 87, (.mov (.t 8)), none⟩, {}⟩, ⟨⟨some 88, (.fadr 14 (.t 3)), none⟩, {}⟩, ⟨⟨some 89, (.load true 2 (.t 88)), none⟩, {}⟩, ⟨⟨some 90, (.nilck (.t 87)), none⟩, {}⟩, ⟨⟨some 91, (.fadr 8 (.t 90)), none⟩, {}⟩, ⟨⟨none, (.store 2 (.t 91) (.t 89)), none⟩, {}⟩] none) (.seq (.seq (.rg
  [⟨⟨some 63, (.mov (.t 8)), none⟩, {}⟩, ⟨⟨some 64, (.nilck (.t 63)), none⟩, {}⟩, ⟨⟨some 65, (.fadr 5 (.t 64)), none⟩, {}⟩, ⟨⟨some 66, (.load false 1 (.t 65)), none⟩, {}⟩, ⟨⟨some 67, (.fadr 0 (.t 3)), none⟩, {}⟩, ⟨⟨some 68, (.load false 1 (.t 67)), none⟩, {}⟩, ⟨⟨some 69, (.bin .eql (.t 68) (.c (I
  3))), none⟩, {}⟩, ⟨⟨some 70, (.beq false (.t 66) (.t 69)), none⟩, {}⟩] (some [])) plan_Apply_C30) plan_Apply_C31))
def plan_Apply_C23 : TC := (.cond (.t 78) (.rg [⟨⟨some 80, (.mov (.t 8)), none⟩, {}⟩, ⟨⟨some 81, (.fadr 14 (.t 3)), none⟩, {}⟩, ⟨⟨some 82, (.load true 2 (.t 81)), none⟩, {}⟩, ⟨⟨some 83, (.nilck (.t 80)), none⟩, {}⟩, ⟨⟨some 84, (.fadr 6 (.t 83)), none⟩, {}⟩, ⟨⟨none, (.store 2 (.t 84) (.t 82)), none⟩, {}⟩] none) (.seq (.rg
  [⟨⟨some 86, (.bin .eql (.t 62) (.c (I 6))), none⟩, {}⟩, ⟨⟨some 85, (.mov (.t 86)), none⟩, {}⟩] none) plan_Apply_C27))
def plan_Apply_C18 : TC := (.block 1 (.seq (.rg [⟨⟨some 79, (.bin .eql (.t 62) (.c (I 5))), none⟩, {}⟩, ⟨⟨some 78, (.mov (.t 79)), none⟩, {}⟩] none) plan_Apply_C23))
def plan_Apply_C11 : TC := (.seq (.rg [⟨⟨some 61, (.fadr 0 (.t 3)), none⟩, {}⟩, ⟨⟨some 62, (.load false 1 (.t 61)), none⟩, {}⟩] none) plan_Apply_C18)
def plan_Apply_C5 : TC := (.seq (.rg [⟨⟨some 56, (.fadr 1 (.t 7)), none⟩, {}⟩, ⟨⟨some 57, (.load false 1 (.t 56)), none⟩, {}⟩, ⟨⟨some 58, (.fadr 13 (.t 3)), none⟩, {}⟩, ⟨⟨some 59, (.load false 1 (.t 58)), none⟩, {}⟩, ⟨⟨some 60, (.iadrS 10 (.t 57) (.t 59)), none⟩, {}⟩, ⟨⟨some 8, (.mov (.t 60)), none⟩, {}⟩] none)
  plan_Apply_C11)
def plan_Apply_C12 : TC := .ret
def plan_Apply_C6 : TC := (.pre [.frzb 4] plan_Apply_C12)
def plan_Apply_C1 : TC := (.cond (.t 39) (.seq (.seq (.rg [⟨⟨some 44, (.fadr 13 (.t 3)), none⟩, {}⟩, ⟨⟨some 45, (.load false 1 (.t 44)), none⟩, {}⟩, ⟨⟨some 46, (.bin .lss (.t 45) (.c (I 0))), none⟩, {}⟩, ⟨⟨some 47, (.mov (.t 46)), none⟩, {}⟩, ⟨⟨some 48, (.fadr 13 (.t 3)), some (47, false)⟩, {}⟩, ⟨⟨some 49, (.load false 1 (.t
  48)), some (47, false)⟩, {}⟩, ⟨⟨some 50, (.fadr 1 (.t 7)), some (47, false)⟩, {}⟩, ⟨⟨some 51, (.load false 1 (.t 50)), some (47, false)⟩, {}⟩, ⟨⟨some 52, (.len (.t 51)), some (47, false)⟩, {}⟩, ⟨⟨some 53, (.bin .geq (.t 49) (.t 52)), some (47, false)⟩, {}⟩, ⟨⟨some 54, (.pick (.t 47) (.c (B true))
  (.t 53)), none⟩, {}⟩] none) plan_Apply_C4) plan_Apply_C5) (.seq (.rg [⟨⟨some 20, (.build [(.lst true []), (.lst true [])] []), none⟩, {}⟩, ⟨⟨none, (.store 2 (.t 4) (.t 20)), none⟩, {}⟩, ⟨⟨some 5, (.mov (.c (I 5))), none⟩, {}⟩] none) plan_Apply_C6))
def plan_Apply_C24 : TC := .ret
def plan_Apply_C19 : TC := (.pre [.frzb 4] plan_Apply_C24)
def plan_Apply_C13 : TC := (.cond (.t 95) (.seq (.rg [⟨⟨some 96, (.build [(.lst true []), (.lst true [])] []), none⟩, {}⟩, ⟨⟨some 97, (.mov (.t 9)), none⟩, {}⟩, ⟨⟨none, (.store 2 (.t 4) (.t 96)), none⟩, {}⟩, ⟨⟨some 5, (.mov (.t 97)), none⟩, {}⟩] none) plan_Apply_C19) .skip)
def plan_Apply_C7 : TC := (.seq (.rg [⟨⟨some 94, (.mov (.t 9)), none⟩, {}⟩, ⟨⟨some 95, (.bin .neq (.t 94) (.c (I 0))), none⟩, {}⟩] none) plan_Apply_C13)
def plan_Apply_C20 : TC := .ret
def plan_Apply_C14 : TC := (.pre [.frzb 4] plan_Apply_C20)
def plan_Apply_C8 : TC := (.seq (.rg [⟨⟨some 98, (.load true 2 (.t 7)), none⟩, {}⟩, ⟨⟨none, (.store 2 (.t 4) (.t 98)), none⟩, {}⟩, ⟨⟨some 5, (.mov (.c (I 0))), none⟩, {}⟩] none) plan_Apply_C14)
def plan_Apply_C2 : TC := (.seq (.seq (.rg [⟨⟨some 92, (.load true 2 (.t 7)), none⟩, {}⟩, ⟨⟨some 93, (.call (.c (.fn 12 [])) [(.t 92)]), none⟩, {}⟩, ⟨⟨some 9, (.mov (.t 93)), none⟩, {}⟩] none) plan_Apply_C7) plan_Apply_C8)
def plan_Apply_C28 : TC := .ret
def plan_Apply_C25 : TC := (.pre [.frzb 4] plan_Apply_C28)
def plan_Apply_C21 : TC := (.cond (.t 13) (.seq (.rg [⟨⟨some 14, (.build [(.lst true []), (.lst true [])] []), none⟩, {}⟩, ⟨⟨some 15, (.mov (.t 6)), none⟩, {}⟩, ⟨⟨none, (.store 2 (.t 4) (.t 14)), none⟩, {}⟩, ⟨⟨some 5, (.mov (.t 15)), none⟩, {}⟩] none) plan_Apply_C25) .skip)
def plan_Apply_C15 : TC := (.seq (.rg [⟨⟨some 12, (.mov (.t 6)), none⟩, {}⟩, ⟨⟨some 13, (.bin .neq (.t 12) (.c (I 0))), none⟩, {}⟩] none) plan_Apply_C21)
def plan_Apply_C38 : TC := (.cond (.t 39) .skip (.rg [⟨⟨some 43, (.bin .eql (.t 19) (.c (I 6))), none⟩, {}⟩, ⟨⟨some 39, (.mov (.t 43)), none⟩, {}⟩] none))
def plan_Apply_C37 : TC := (.cond (.t 39) .skip (.seq (.rg [⟨⟨some 42, (.bin .eql (.t 19) (.c (I 5))), none⟩, {}⟩, ⟨⟨some 39, (.mov (.t 42)), none⟩, {}⟩] none) plan_Apply_C38))
def plan_Apply_C34 : TC := (.cond (.t 39) .skip (.seq (.rg [⟨⟨some 41, (.bin .eql (.t 19) (.c (I 4))), none⟩, {}⟩, ⟨⟨some 39, (.mov (.t 41)), none⟩, {}⟩] none) plan_Apply_C37))
def plan_Apply_C35 : TC := (.join [.keep [3, 4, 7, 39], .cmp] plan_Apply_C1)
def plan_Apply_C32 : TC := (.cond (.t 30) (.rg [⟨⟨some 32, (.fadr 1 (.t 7)), none⟩, {}⟩, ⟨⟨some 33, (.load false 1 (.t 32)), none⟩, {}⟩, ⟨⟨some 34, (.fadr 3 (.t 3)), none⟩, {}⟩, ⟨⟨some 35, (.load true 10 (.t 34)), none⟩, {}⟩, ⟨⟨some 36, (.bslice false 10 [(I 0), (I 0), (I 0), (I 0), (B false), (B false), (I 0), (I 0), (I 0),
  (I 0)] 1 [(0, (.t 35))]), none⟩, ⟨G_Road, none⟩⟩, ⟨⟨some 37, (.app 10 72 (.t 33) (.t 36)), none⟩, {}⟩, ⟨⟨some 38, (.fadr 1 (.t 7)), none⟩, {}⟩, ⟨⟨none, (.store 1 (.t 38) (.t 37)), none⟩, {}⟩] none) (.seq (.seq (.rg [⟨⟨some 40, (.bin .eql (.t 19) (.c (I 3))), none⟩, {}⟩, ⟨⟨some 39, (.mov (.t 40)),
  none⟩, {}⟩] none) plan_Apply_C34) plan_Apply_C35))
def plan_Apply_C29 : TC := (.cond (.t 21) (.rg [⟨⟨some 23, (.fadr 0 (.t 7)), none⟩, {}⟩, ⟨⟨some 24, (.load false 1 (.t 23)), none⟩, {}⟩, ⟨⟨some 25, (.fadr 1 (.t 3)), none⟩, {}⟩, ⟨⟨some 26, (.load true 2 (.t 25)), none⟩, {}⟩, ⟨⟨some 27, (.bslice false 2 [(I 0), (B false)] 1 [(0, (.t 26))]), none⟩, ⟨G_Place, none⟩⟩, ⟨⟨some 28,
  (.app 2 16 (.t 24) (.t 27)), none⟩, {}⟩, ⟨⟨some 29, (.fadr 0 (.t 7)), none⟩, {}⟩, ⟨⟨none, (.store 1 (.t 29) (.t 28)), none⟩, {}⟩] none) (.seq (.rg [⟨⟨some 31, (.bin .eql (.t 19) (.c (I 2))), none⟩, {}⟩, ⟨⟨some 30, (.mov (.t 31)), none⟩, {}⟩] none) plan_Apply_C32))
def plan_Apply_C26 : TC := (.block 0 (.seq (.rg [⟨⟨some 22, (.bin .eql (.t 19) (.c (I 1))), none⟩, {}⟩, ⟨⟨some 21, (.mov (.t 22)), none⟩, {}⟩] none) plan_Apply_C29))
def plan_Apply_C22 : TC := (.seq (.seq (.rg [⟨⟨some 18, (.fadr 0 (.t 3)), none⟩, {}⟩, ⟨⟨some 19, (.load false 1 (.t 18)), none⟩, {}⟩] none) plan_Apply_C26) plan_Apply_C2)
def plan_Apply_C16 : TC := (.seq (.rg [⟨⟨some 16, (.load true 2 (.t 2)), none⟩, {}⟩, ⟨⟨some 17, (.call (.c (.fn 42 [])) [(.t 16)]), none⟩, {}⟩, ⟨⟨some 7, (.alloc [(.lst true []), (.lst true [])]), none⟩, {}⟩, ⟨⟨none, (.store 2 (.t 7) (.t 17)), none⟩, {}⟩] none) plan_Apply_C22)
def plan_Apply_C9 : TC := (.seq (.seq (.rg [⟨⟨some 10, (.load true 2 (.t 2)), none⟩, {}⟩, ⟨⟨some 11, (.call (.c (.fn 12 [])) [(.t 10)]), none⟩, {}⟩, ⟨⟨some 6, (.mov (.t 11)), none⟩, {}⟩] none) plan_Apply_C15) plan_Apply_C16)
def plan_Apply_C3 : TC := (.seq (.rg [⟨⟨some 2, (.box (.t 0)), none⟩, {}⟩, ⟨⟨some 3, (.box (.t 1)), none⟩, {}⟩, ⟨⟨some 4, (.alloc [(.lst true []), (.lst true [])]), none⟩, {}⟩, ⟨⟨some 5, (.mov (.c (I 0))), none⟩, {}⟩] none) plan_Apply_C9)
def plan_Apply_E (N : Nat) : List (Nat × Ent) := [(12, pureE [G_Mine] [(.int .i64)] (fun x => plan_Check N x)), (42, sfE [none] [.v G_Mine] [.o (.p (.a G_Place) (.a G_Road))] (fun x => plan_clone N x))]
def plan_Apply_J1 (N : Nat) (x7 : Bool) (x8 : Int) (x9 : Int) (x10 : Bool) (x11 : Int) (x12 : Int) (x13 : Int) (x14 : Int) (x15 : Bool) (x16 : Bool) (x17 : Int) (x18 : Int) (x19 : Int) (x20 : Int) (x21 : Int) (x22 : Int) (x23 : Int) (x24 : List T_Place) (x25 : List T_Road) : Option (T_Mine × Int) := joinN (run (plan_Apply_E N) N 0 plan_Apply_C1) N ⟨[(3, .ptr 0 0 0), (4, .ptr 1 0 0), (7, .ptr 2 0 0), (39, .bool x7)], [some (.box 0 [.int .i64 x8, .int .i64 x9, .bool x10, .int .i64 x11, .int .i64 x12, .int .i64 x13, .int .i64 x14, .bool x15, .bool x16, .int .i64 x17, .int .i64 x18, .int .i64 x19, .int .i64 x20, .int .i64 x21, .int .i64 x22, .int .i64 x23]), some (.box 0 [.nil, .nil]), some (.box 0 [.whole 3, .whole 4]), some (.arr G_Place x24), some (.arr G_Road x25)]⟩ (blkK 0 (seqK (run (plan_Apply_E N) N 0 plan_Apply_C2) (fin [(.cell 4 true 2), (.t 5)] [G_Mine, (.int .i64)])))
theorem plan_Apply_J1_eqM (N JM : Nat) (x7 : Bool) (x8 : Int) (x9 : Int) (x10 : Bool) (x11 : Int) (x12 : Int) (x13 : Int) (x14 : Int) (x15 : Bool) (x16 : Bool) (x17 : Int) (x18 : Int) (x19 : Int) (x20 : Int) (x21 : Int) (x22 : Int) (x23 : Int) (x24 : List T_Place) (x25 : List T_Road) : joinN (run (plan_Apply_E N) N 0 plan_Apply_C1) (JM + 1) ⟨[(3, .ptr 0 0 0), (4, .ptr 1 0 0), (7, .ptr 2 0 0), (39, .bool x7)], [some (.box 0 [.int .i64 x8, .int .i64 x9, .bool x10, .int .i64 x11, .int .i64 x12, .int .i64 x13, .int .i64 x14, .bool x15, .bool x16, .int .i64 x17, .int .i64 x18, .int .i64 x19, .int .i64 x20, .int .i64 x21, .int .i64 x22, .int .i64 x23]), some (.box 0 [.nil, .nil]), some (.box 0 [.whole 3, .whole 4]), some (.arr G_Place x24), some (.arr G_Road x25)]⟩ (blkK 0 (seqK (run (plan_Apply_E N) N 0 plan_Apply_C2) (fin [(.cell 4 true 2), (.t 5)] [G_Mine, (.int .i64)]))) =
  bif x7 then
    bif (decide (x21 < 0)) then
      some (([], []), 4)
    else
      bif (decide (x21 ≥ (x25.length : Int))) then
        some (([], []), 4)
      else
        bif inB x21 x25.length then
        bif (x8 == 5) then
          let v26 := x25.getD x21.toNat D_Road
          let v27 := x25.set x21.toNat (v26.1, (v26.2.1, (v26.2.2.1, (v26.2.2.2.1, (v26.2.2.2.2.1, (v26.2.2.2.2.2.1, ((x22, x23), v26.2.2.2.2.2.2.2)))))))
          Option.bind (plan_Check N (x24, v27)) fun r28 =>
          bif (r28 != 0) then
            some (([], []), r28)
          else
            some ((x24, v27), 0)
        else
          bif (x8 == 6) then
            let v29 := x25.getD x21.toNat D_Road
            let v30 := x25.set x21.toNat (v29.1, (v29.2.1, (v29.2.2.1, (v29.2.2.2.1, (v29.2.2.2.2.1, (v29.2.2.2.2.2.1, (v29.2.2.2.2.2.2.1, (x22, x23))))))))
            Option.bind (plan_Check N (x24, v30)) fun r31 =>
            bif (r31 != 0) then
              some (([], []), r31)
            else
              some ((x24, v30), 0)
          else
            bif ((x25.getD x21.toNat D_Road).2.2.2.2.2.1 == (x8 == 3)) then
              some (([], []), 10)
            else
              let v33 := x25.getD x21.toNat D_Road
              let v34 := x25.set x21.toNat (v33.1, (v33.2.1, (v33.2.2.1, (v33.2.2.2.1, (v33.2.2.2.2.1, ((x8 == 3), v33.2.2.2.2.2.2))))))
              Option.bind (plan_Check N (x24, v34)) fun r35 =>
              bif (r35 != 0) then
                some (([], []), r35)
              else
                some ((x24, v34), 0)
        else none
  else
    some (([], []), 5) := by kernel_rfl
theorem plan_Apply_J1_eq (N : Nat) (x7 : Bool) (x8 : Int) (x9 : Int) (x10 : Bool) (x11 : Int) (x12 : Int) (x13 : Int) (x14 : Int) (x15 : Bool) (x16 : Bool) (x17 : Int) (x18 : Int) (x19 : Int) (x20 : Int) (x21 : Int) (x22 : Int) (x23 : Int) (x24 : List T_Place) (x25 : List T_Road) : plan_Apply_J1 (N + 1) x7 x8 x9 x10 x11 x12 x13 x14 x15 x16 x17 x18 x19 x20 x21 x22 x23 x24 x25 =
  bif x7 then
    bif (decide (x21 < 0)) then
      some (([], []), 4)
    else
      bif (decide (x21 ≥ (x25.length : Int))) then
        some (([], []), 4)
      else
        bif inB x21 x25.length then
        bif (x8 == 5) then
          let v26 := x25.getD x21.toNat D_Road
          let v27 := x25.set x21.toNat (v26.1, (v26.2.1, (v26.2.2.1, (v26.2.2.2.1, (v26.2.2.2.2.1, (v26.2.2.2.2.2.1, ((x22, x23), v26.2.2.2.2.2.2.2)))))))
          Option.bind (plan_Check (N + 1) (x24, v27)) fun r28 =>
          bif (r28 != 0) then
            some (([], []), r28)
          else
            some ((x24, v27), 0)
        else
          bif (x8 == 6) then
            let v29 := x25.getD x21.toNat D_Road
            let v30 := x25.set x21.toNat (v29.1, (v29.2.1, (v29.2.2.1, (v29.2.2.2.1, (v29.2.2.2.2.1, (v29.2.2.2.2.2.1, (v29.2.2.2.2.2.2.1, (x22, x23))))))))
            Option.bind (plan_Check (N + 1) (x24, v30)) fun r31 =>
            bif (r31 != 0) then
              some (([], []), r31)
            else
              some ((x24, v30), 0)
          else
            bif ((x25.getD x21.toNat D_Road).2.2.2.2.2.1 == (x8 == 3)) then
              some (([], []), 10)
            else
              let v33 := x25.getD x21.toNat D_Road
              let v34 := x25.set x21.toNat (v33.1, (v33.2.1, (v33.2.2.1, (v33.2.2.2.1, (v33.2.2.2.2.1, ((x8 == 3), v33.2.2.2.2.2.2))))))
              Option.bind (plan_Check (N + 1) (x24, v34)) fun r35 =>
              bif (r35 != 0) then
                some (([], []), r35)
              else
                some ((x24, v34), 0)
        else none
  else
    some (([], []), 5) := plan_Apply_J1_eqM (N + 1) N x7 x8 x9 x10 x11 x12 x13 x14 x15 x16 x17 x18 x19 x20 x21 x22 x23 x24 x25
def plan_Apply (N : Nat) (a0 : T_Mine) (a1 : T_Edit) : Option (T_Mine × Int) :=
  Option.bind (plan_Check N a0) fun r1 =>
  bif (r1 != 0) then
    some (([], []), r1)
  else
    Option.bind (plan_clone N a0) fun r2 =>
    bif (a1.1 == 1) then
      bif fitsB (r2.1.1.length + 1) 16 then
      Option.bind (plan_Check N ((r2.1.1 ++ [a1.2.1]), r2.1.2)) fun r4 =>
      bif (r4 != 0) then
        some (([], []), r4)
      else
        some (((r2.1.1 ++ [a1.2.1]), r2.1.2), 0)
      else none
    else
      bif (a1.1 == 2) then
        bif fitsB (r2.1.2.length + 1) 72 then
        Option.bind (plan_Check N (r2.1.1, (r2.1.2 ++ [a1.2.2.1]))) fun r6 =>
        bif (r6 != 0) then
          some (([], []), r6)
        else
          some ((r2.1.1, (r2.1.2 ++ [a1.2.2.1])), 0)
        else none
      else
        bif (a1.1 == 3) then
          plan_Apply_J1 N true a1.1 a1.2.1.1 a1.2.1.2 a1.2.2.1.1 a1.2.2.1.2.1 a1.2.2.1.2.2.1 a1.2.2.1.2.2.2.1 a1.2.2.1.2.2.2.2.1 a1.2.2.1.2.2.2.2.2.1 a1.2.2.1.2.2.2.2.2.2.1.1 a1.2.2.1.2.2.2.2.2.2.1.2 a1.2.2.1.2.2.2.2.2.2.2.1 a1.2.2.1.2.2.2.2.2.2.2.2 a1.2.2.2.1 a1.2.2.2.2.1 a1.2.2.2.2.2 r2.1.1 r2.1.2
        else
          bif (a1.1 == 4) then
            plan_Apply_J1 N true a1.1 a1.2.1.1 a1.2.1.2 a1.2.2.1.1 a1.2.2.1.2.1 a1.2.2.1.2.2.1 a1.2.2.1.2.2.2.1 a1.2.2.1.2.2.2.2.1 a1.2.2.1.2.2.2.2.2.1 a1.2.2.1.2.2.2.2.2.2.1.1 a1.2.2.1.2.2.2.2.2.2.1.2 a1.2.2.1.2.2.2.2.2.2.2.1 a1.2.2.1.2.2.2.2.2.2.2.2 a1.2.2.2.1 a1.2.2.2.2.1 a1.2.2.2.2.2 r2.1.1 r2.1.2
          else
            bif (a1.1 == 5) then
              plan_Apply_J1 N true a1.1 a1.2.1.1 a1.2.1.2 a1.2.2.1.1 a1.2.2.1.2.1 a1.2.2.1.2.2.1 a1.2.2.1.2.2.2.1 a1.2.2.1.2.2.2.2.1 a1.2.2.1.2.2.2.2.2.1 a1.2.2.1.2.2.2.2.2.2.1.1 a1.2.2.1.2.2.2.2.2.2.1.2 a1.2.2.1.2.2.2.2.2.2.2.1 a1.2.2.1.2.2.2.2.2.2.2.2 a1.2.2.2.1 a1.2.2.2.2.1 a1.2.2.2.2.2 r2.1.1 r2.1.2
            else
              plan_Apply_J1 N (a1.1 == 6) a1.1 a1.2.1.1 a1.2.1.2 a1.2.2.1.1 a1.2.2.1.2.1 a1.2.2.1.2.2.1 a1.2.2.1.2.2.2.1 a1.2.2.1.2.2.2.2.1 a1.2.2.1.2.2.2.2.2.1 a1.2.2.1.2.2.2.2.2.2.1.1 a1.2.2.1.2.2.2.2.2.2.1.2 a1.2.2.1.2.2.2.2.2.2.2.1 a1.2.2.1.2.2.2.2.2.2.2.2 a1.2.2.2.1 a1.2.2.2.2.1 a1.2.2.2.2.2 r2.1.1 r2.1.2
theorem plan_Apply_fn : FnOK Try.prog 19 99 (fun _ : Nat => false) plan_Apply_C3.er [(.cell 4 true 2), (.t 5)] := FnOK.mk' Try.func19 (by kernel_rfl) (by kernel_rfl) (by kernel_rfl) (by kernel_rfl) (by kernel_rfl)
theorem plan_Apply_envok (N : Nat) : EnvOK Try.prog (plan_Apply_E N) := .cons (pureE_ok (plan_Check_pure N)) (.cons (sfE_ok (plan_clone_sf N)) (.nil))
theorem plan_Apply_pure (N : Nat) : PureOK Try.prog 19 [G_Mine, G_Edit] [G_Mine, (.int .i64)] (fun x => plan_Apply N x.1 x.2) := pureOK (N := N) mixed plan_Apply_fn (plan_Apply_envok N) (TC.noh_ok (by kernel_rfl)) rfl (fun x => by kernel_rfl)
/-! plan_part -/
def plan_part_N1 : List NS := [.wk 4 (.list (.list (.int .i64))), .wk 7 (.list (.int .i64)), .keep [4, 7, 61, 62], .cmp]
def plan_part_N2 : List NS := [.wk 4 (.list (.list (.int .i64))), .wk 7 (.list (.int .i64)), .keep [4, 7, 9, 70, 71], .cmp]
def plan_part_N3 : List NS := [.own 11 (.int .i64), .wk 4 (.list (.list (.int .i64))), .wk 7 (.list (.int .i64)), .keep [4, 7, 9, 11, 70, 71], .cmp]
def plan_part_N4 : List NS := [.own 11 (.int .i64), .wk 4 (.list (.list (.int .i64))), .wk 7 (.list (.int .i64)), .wk 102 (.list (.int .i64)), .keep [4, 7, 9, 11, 70, 71, 102, 103, 104], .cmp]
def plan_part_C37 : TC := (.rg [⟨⟨some 117, (.mov (.t 11)), none⟩, {}⟩, ⟨⟨some 118, (.mov (.t 14)), none⟩, {}⟩, ⟨⟨some 119, (.bslice false 1 [(I 0)] 1 [(0, (.t 118))]), none⟩, ⟨(.int .i64), none⟩⟩, ⟨⟨some 120, (.app 1 8 (.t 117) (.t 119)), none⟩, {}⟩, ⟨⟨some 11, (.mov (.t 120)), none⟩, {}⟩] none)
def plan_part_C32 : TC := (.cond (.t 112) (.seq (.rg [⟨⟨some 113, (.mov (.t 7)), none⟩, {}⟩, ⟨⟨some 114, (.mov (.t 14)), none⟩, {}⟩, ⟨⟨some 115, (.mov (.t 9)), none⟩, {}⟩, ⟨⟨some 116, (.iadrS 1 (.t 113) (.t 114)), none⟩, {}⟩, ⟨⟨none, (.store 1 (.t 116) (.t 115)), none⟩, {}⟩] none) plan_part_C37) .skip)
def plan_part_C25 : TC := (.seq (.rg [⟨⟨some 108, (.mov (.t 7)), none⟩, {}⟩, ⟨⟨some 109, (.mov (.t 14)), none⟩, {}⟩, ⟨⟨some 110, (.iadrS 1 (.t 108) (.t 109)), none⟩, {}⟩, ⟨⟨some 111, (.load false 1 (.t 110)), none⟩, {}⟩, ⟨⟨some 112, (.bin .lss (.t 111) (.c (I 0))), none⟩, {}⟩] none) plan_part_C32)
def plan_part_C26 : TC := (.rg [⟨⟨some 121, (.bin .add (.t 104) (.c (I 1))), none⟩, {}⟩, ⟨⟨some 104, (.mov (.t 121)), none⟩, {}⟩] none)
def plan_part_C18 : TC := (.seq (.block 9 (.seq (.rg [⟨⟨some 106, (.iadrS 1 (.t 102) (.t 104)), none⟩, {}⟩, ⟨⟨some 107, (.load false 1 (.t 106)), none⟩, {}⟩, ⟨⟨some 14, (.mov (.t 107)), none⟩, {}⟩] none) plan_part_C25)) plan_part_C26)
def plan_part_C10 : TC := (.seq (.cond (.t 105) .skip (.exit 8)) plan_part_C18)
def plan_part_C1 : TC := (.seq (.rg [⟨⟨some 105, (.bin .lss (.t 104) (.t 103)), none⟩, {}⟩] none) plan_part_C10)
def plan_part_C11 : TC := (.cond (.t 87) .skip (.exit 6))
def plan_part_C33 : TC := (.block 8 (.loop plan_part_N4 plan_part_C1))
def plan_part_C27 : TC := (.seq (.rg [⟨⟨some 99, (.mov (.t 4)), none⟩, {}⟩, ⟨⟨some 100, (.mov (.t 12)), none⟩, {}⟩, ⟨⟨some 101, (.iadrS 1 (.t 99) (.t 100)), none⟩, {}⟩, ⟨⟨some 102, (.load false 1 (.t 101)), none⟩, {}⟩, ⟨⟨some 103, (.len (.t 102)), none⟩, {}⟩, ⟨⟨some 104, (.mov (.c (I 0))), none⟩, {}⟩] none) plan_part_C33)
def plan_part_C19 : TC := (.seq (.rg [⟨⟨some 94, (.mov (.t 11)), none⟩, {}⟩, ⟨⟨some 95, (.mov (.t 11)), none⟩, {}⟩, ⟨⟨some 96, (.len (.t 95)), none⟩, {}⟩, ⟨⟨some 97, (.bin .sub (.t 96) (.c (I 1))), none⟩, {}⟩, ⟨⟨some 98, (.slc 1 (.t 94) none (some (.t 97))), none⟩, {}⟩, ⟨⟨some 11, (.mov (.t 98)), none⟩, {}⟩] none)
  plan_part_C27)
def plan_part_C12 : TC := (.block 7 (.seq (.rg [⟨⟨some 88, (.mov (.t 11)), none⟩, {}⟩, ⟨⟨some 89, (.mov (.t 11)), none⟩, {}⟩, ⟨⟨some 90, (.len (.t 89)), none⟩, {}⟩, ⟨⟨some 91, (.bin .sub (.t 90) (.c (I 1))), none⟩, {}⟩, ⟨⟨some 92, (.iadrS 1 (.t 88) (.t 91)), none⟩, {}⟩, ⟨⟨some 93, (.load false 1 (.t 92)), none⟩, {}⟩, ⟨⟨some
  12, (.mov (.t 93)), none⟩, {}⟩] none) plan_part_C19))
def plan_part_C2 : TC := (.seq (.seq (.rg [⟨⟨some 85, (.mov (.t 11)), none⟩, {}⟩, ⟨⟨some 86, (.len (.t 85)), none⟩, {}⟩, ⟨⟨some 87, (.bin .gtr (.t 86) (.c (I 0))), none⟩, {}⟩] none) plan_part_C11) plan_part_C12)
def plan_part_C3 : TC := (.rg [⟨⟨some 122, (.mov (.t 9)), none⟩, {}⟩, ⟨⟨some 123, (.bin .add (.t 122) (.c (I 1))), none⟩, {}⟩, ⟨⟨some 9, (.mov (.t 123)), none⟩, {}⟩] none)
def plan_part_C4 : TC := (.rg [⟨⟨some 124, (.bin .add (.t 71) (.c (I 1))), none⟩, {}⟩, ⟨⟨some 71, (.mov (.t 124)), none⟩, {}⟩] none)
def plan_part_C34 : TC := (.cond (.t 78) (.exit 5) .skip)
def plan_part_C39 : TC := (.block 6 (.loop plan_part_N3 plan_part_C2))
def plan_part_C38 : TC := (.seq (.seq (.rg [⟨⟨some 83, (.mov (.t 10)), none⟩, {}⟩, ⟨⟨some 84, (.bslice true 1 [(I 0)] 1 [(0, (.t 83))]), none⟩, ⟨(.int .i64), none⟩⟩, ⟨⟨some 11, (.mov (.t 84)), none⟩, {}⟩] none) plan_part_C39) plan_part_C3)
def plan_part_C35 : TC := (.seq (.rg [⟨⟨some 79, (.mov (.t 7)), none⟩, {}⟩, ⟨⟨some 80, (.mov (.t 10)), none⟩, {}⟩, ⟨⟨some 81, (.mov (.t 9)), none⟩, {}⟩, ⟨⟨some 82, (.iadrS 1 (.t 79) (.t 80)), none⟩, {}⟩, ⟨⟨none, (.store 1 (.t 82) (.t 81)), none⟩, {}⟩] none) plan_part_C38)
def plan_part_C28 : TC := (.seq (.seq (.rg [⟨⟨some 74, (.mov (.t 7)), none⟩, {}⟩, ⟨⟨some 75, (.mov (.t 10)), none⟩, {}⟩, ⟨⟨some 76, (.iadrS 1 (.t 74) (.t 75)), none⟩, {}⟩, ⟨⟨some 77, (.load false 1 (.t 76)), none⟩, {}⟩, ⟨⟨some 78, (.bin .geq (.t 77) (.c (I 0))), none⟩, {}⟩] none) plan_part_C34) plan_part_C35)
def plan_part_C20 : TC := (.seq (.block 5 (.seq (.rg [⟨⟨some 73, (.mov (.t 71)), none⟩, {}⟩, ⟨⟨some 10, (.mov (.t 73)), none⟩, {}⟩] none) plan_part_C28)) plan_part_C4)
def plan_part_C13 : TC := (.seq (.cond (.t 72) .skip (.exit 4)) plan_part_C20)
def plan_part_C5 : TC := (.seq (.rg [⟨⟨some 72, (.bin .lss (.t 71) (.t 70)), none⟩, {}⟩] none) plan_part_C13)
def plan_part_C21 : TC := .ret
def plan_part_C14 : TC := (.pre [.frz 2] plan_part_C21)
def plan_part_C6 : TC := (.seq (.rg [⟨⟨some 125, (.mov (.t 7)), none⟩, {}⟩, ⟨⟨some 126, (.mov (.t 9)), none⟩, {}⟩, ⟨⟨some 2, (.mov (.t 125)), none⟩, {}⟩, ⟨⟨some 3, (.mov (.t 126)), none⟩, {}⟩] none) plan_part_C14)
def plan_part_C29 : TC := (.rg [⟨⟨some 65, (.mov (.t 7)), none⟩, {}⟩, ⟨⟨some 66, (.mov (.t 8)), none⟩, {}⟩, ⟨⟨some 67, (.iadrS 1 (.t 65) (.t 66)), none⟩, {}⟩, ⟨⟨none, (.store 1 (.t 67) (.c (I (-1)))), none⟩, {}⟩] none)
def plan_part_C30 : TC := (.rg [⟨⟨some 68, (.bin .add (.t 62) (.c (I 1))), none⟩, {}⟩, ⟨⟨some 62, (.mov (.t 68)), none⟩, {}⟩] none)
def plan_part_C22 : TC := (.seq (.block 3 (.seq (.rg [⟨⟨some 64, (.mov (.t 62)), none⟩, {}⟩, ⟨⟨some 8, (.mov (.t 64)), none⟩, {}⟩] none) plan_part_C29)) plan_part_C30)
def plan_part_C15 : TC := (.seq (.cond (.t 63) .skip (.exit 2)) plan_part_C22)
def plan_part_C7 : TC := (.seq (.rg [⟨⟨some 63, (.bin .lss (.t 62) (.t 61)), none⟩, {}⟩] none) plan_part_C15)
def plan_part_C23 : TC := (.block 4 (.loop plan_part_N2 plan_part_C5))
def plan_part_C16 : TC := (.seq (.seq (.rg [⟨⟨some 69, (.mov (.t 7)), none⟩, {}⟩, ⟨⟨some 70, (.len (.t 69)), none⟩, {}⟩, ⟨⟨some 71, (.mov (.c (I 0))), none⟩, {}⟩] none) plan_part_C23) plan_part_C6)
def plan_part_C8 : TC := (.seq (.rg [⟨⟨some 9, (.mov (.c (I 0))), none⟩, {}⟩] none) plan_part_C16)
def plan_part_C36 : TC := (.block 2 (.loop plan_part_N1 plan_part_C7))
def plan_part_C31 : TC := (.seq (.seq (.rg [⟨⟨some 60, (.mov (.t 7)), none⟩, {}⟩, ⟨⟨some 61, (.len (.t 60)), none⟩, {}⟩, ⟨⟨some 62, (.mov (.c (I 0))), none⟩, {}⟩] none) plan_part_C36) plan_part_C8)
def plan_part_C24 : TC := (.seq (.rg [⟨⟨some 56, (.fadr 0 (.t 1)), none⟩, {}⟩, ⟨⟨some 57, (.load false 1 (.t 56)), none⟩, {}⟩, ⟨⟨some 58, (.len (.t 57)), none⟩, {}⟩, ⟨⟨some 59, (.mksl 1 8 [(I 0)] (.t 58) (.t 58)), none⟩, ⟨(.int .i64), none⟩⟩, ⟨⟨some 7, (.mov (.t 59)), none⟩, {}⟩] none) plan_part_C31)
def plan_part_C17 : TC := (.hand [part_A, part_B] (.list (.list (.int .i64))) part_g part_u plan_part_C24)
def plan_part_C9 : TC := (.seq (.rg [⟨⟨some 1, (.box (.t 0)), none⟩, {}⟩, ⟨⟨some 2, (.mov (.c (.lst true []))), none⟩, {}⟩, ⟨⟨some 3, (.mov (.c (I 0))), none⟩, {}⟩] none) plan_part_C17)
def plan_part_E (N : Nat) : List (Nat × Ent) := []
def plan_part_L4 (N n3 n2 : Nat) (n : Nat) (x32 : List (List Int)) (x33 : Int) (x34 : Int) (x35 : Int) (x36 : List Int) (x37 : Int) (x38 : Int) (x39 : List Int) (x40 : List Int) : Option ((List Int) × Int) := loopN (normI 0 plan_part_N4) (run (plan_part_E N) N 0 plan_part_C1) n ⟨[(4, .lst false (.list (.int .i64)) x32), (7, .whole 0), (9, .int .i64 x33), (11, .whole 1), (70, .int .i64 x34), (71, .int .i64 x35), (102, .lst false (.int .i64) x36), (103, .int .i64 x37), (104, .int .i64 x38)], [some (.arr (.int .i64) x39), some (.arr (.int .i64) x40)]⟩ (blkK 8 (blkK 7 (seqK (nextL (normI 0 plan_part_N3) (loopN (normI 0 plan_part_N3) (run (plan_part_E N) N 0 plan_part_C2) n3)) (blkK 6 (seqK (run (plan_part_E N) N 0 plan_part_C3) (blkK 5 (seqK (run (plan_part_E N) N 0 plan_part_C4) (seqK (nextL (normI 0 plan_part_N2) (loopN (normI 0 plan_part_N2) (run (plan_part_E N) N 0 plan_part_C5) n2)) (blkK 4 (seqK (run (plan_part_E N) N 0 plan_part_C6) (fin [(.t 2), (.t 3)] [(.list (.int .i64)), (.int .i64)])))))))))))
def plan_part_L3 (N n2 : Nat) (n : Nat) (x23 : List (List Int)) (x24 : Int) (x25 : Int) (x26 : Int) (x27 : List Int) (x28 : List Int) : Option ((List Int) × Int) := loopN (normI 0 plan_part_N3) (run (plan_part_E N) N 0 plan_part_C2) n ⟨[(4, .lst false (.list (.int .i64)) x23), (7, .whole 0), (9, .int .i64 x24), (11, .whole 1), (70, .int .i64 x25), (71, .int .i64 x26)], [some (.arr (.int .i64) x27), some (.arr (.int .i64) x28)]⟩ (blkK 6 (seqK (run (plan_part_E N) N 0 plan_part_C3) (blkK 5 (seqK (run (plan_part_E N) N 0 plan_part_C4) (seqK (nextL (normI 0 plan_part_N2) (loopN (normI 0 plan_part_N2) (run (plan_part_E N) N 0 plan_part_C5) n2)) (blkK 4 (seqK (run (plan_part_E N) N 0 plan_part_C6) (fin [(.t 2), (.t 3)] [(.list (.int .i64)), (.int .i64)]))))))))
def plan_part_L2 (N : Nat) (n : Nat) (x12 : List (List Int)) (x13 : Int) (x14 : Int) (x15 : Int) (x16 : List Int) : Option ((List Int) × Int) := loopN (normI 0 plan_part_N2) (run (plan_part_E N) N 0 plan_part_C5) n ⟨[(4, .lst false (.list (.int .i64)) x12), (7, .whole 0), (9, .int .i64 x13), (70, .int .i64 x14), (71, .int .i64 x15)], [some (.arr (.int .i64) x16)]⟩ (blkK 4 (seqK (run (plan_part_E N) N 0 plan_part_C6) (fin [(.t 2), (.t 3)] [(.list (.int .i64)), (.int .i64)])))
def plan_part_L1 (N : Nat) (n : Nat) (x3 : List (List Int)) (x4 : Int) (x5 : Int) (x6 : List Int) : Option ((List Int) × Int) := loopN (normI 0 plan_part_N1) (run (plan_part_E N) N 0 plan_part_C7) n ⟨[(4, .lst false (.list (.int .i64)) x3), (7, .whole 0), (61, .int .i64 x4), (62, .int .i64 x5)], [some (.arr (.int .i64) x6)]⟩ (blkK 2 (seqK (run (plan_part_E N) N 0 plan_part_C8) (fin [(.t 2), (.t 3)] [(.list (.int .i64)), (.int .i64)])))
theorem plan_part_L4_zero (N n3 n2 : Nat) (x32 : List (List Int)) (x33 : Int) (x34 : Int) (x35 : Int) (x36 : List Int) (x37 : Int) (x38 : Int) (x39 : List Int) (x40 : List Int) : plan_part_L4 N n3 n2 0 x32 x33 x34 x35 x36 x37 x38 x39 x40 = none := rfl
theorem plan_part_L4_succ (N n3 n2 : Nat) (n4 : Nat) (x32 : List (List Int)) (x33 : Int) (x34 : Int) (x35 : Int) (x36 : List Int) (x37 : Int) (x38 : Int) (x39 : List Int) (x40 : List Int) : plan_part_L4 N n3 n2 (n4 + 1) x32 x33 x34 x35 x36 x37 x38 x39 x40 =
  bif (decide (x38 < x37)) then
    bif inB x38 x36.length then
    bif inB (x36.getD x38.toNat 0) x39.length then
    bif (decide ((x39.getD ((x36.getD x38.toNat 0).toNat) 0) < 0)) then
      bif inB (x36.getD x38.toNat 0) x39.length then
      bif fitsB (x40.length + 1) 8 then
      plan_part_L4 N n3 n2 n4 x32 x33 x34 x35 x36 x37 (W (x38 + 1)) (x39.set ((x36.getD x38.toNat 0).toNat) x33) (x40 ++ [x36.getD x38.toNat 0])
      else none
      else none
    else
      plan_part_L4 N n3 n2 n4 x32 x33 x34 x35 x36 x37 (W (x38 + 1)) x39 x40
    else none
    else none
  else
    plan_part_L3 N n2 n3 x32 x33 x34 x35 x39 x40 := by kernel_rfl
theorem plan_part_L3_zero (N n2 : Nat) (x23 : List (List Int)) (x24 : Int) (x25 : Int) (x26 : Int) (x27 : List Int) (x28 : List Int) : plan_part_L3 N n2 0 x23 x24 x25 x26 x27 x28 = none := rfl
theorem plan_part_L3_succ (N n2 : Nat) (n3 : Nat) (x23 : List (List Int)) (x24 : Int) (x25 : Int) (x26 : Int) (x27 : List Int) (x28 : List Int) : plan_part_L3 N n2 (n3 + 1) x23 x24 x25 x26 x27 x28 =
  bif (decide ((x28.length : Int) > 0)) then
    let v29 := W ((x28.length : Int) - 1)
    bif inB v29 x28.length then
    let v30 := W ((x28.length : Int) - 1)
    bif slB 0 v30 x28.length then
    bif inB (x28.getD v29.toNat 0) x23.length then
    let v31 := x23.getD (x28.getD v29.toNat 0).toNat []
    plan_part_L4 N n3 n2 N x23 x24 x25 x26 v31 (v31.length : Int) 0 x27 ((x28.drop ((0 : Int).toNat)).take (v30.toNat - (0 : Int).toNat))
    else none
    else none
    else none
  else
    plan_part_L2 N n2 x23 (W (x24 + 1)) x25 (W (x26 + 1)) x27 := by kernel_rfl
theorem plan_part_L2_zero (N : Nat) (x12 : List (List Int)) (x13 : Int) (x14 : Int) (x15 : Int) (x16 : List Int) : plan_part_L2 N 0 x12 x13 x14 x15 x16 = none := rfl
theorem plan_part_L2_succ (N : Nat) (n2 : Nat) (x12 : List (List Int)) (x13 : Int) (x14 : Int) (x15 : Int) (x16 : List Int) : plan_part_L2 N (n2 + 1) x12 x13 x14 x15 x16 =
  bif (decide (x15 < x14)) then
    bif inB x15 x16.length then
    bif (decide ((x16.getD x15.toNat 0) ≥ 0)) then
      plan_part_L2 N n2 x12 x13 x14 (W (x15 + 1)) x16
    else
      bif inB x15 x16.length then
      plan_part_L3 N n2 N x12 x13 x14 x15 (x16.set x15.toNat x13) [x15]
      else none
    else none
  else
    some (x16, x13) := by kernel_rfl
theorem plan_part_L1_zero (N : Nat) (x3 : List (List Int)) (x4 : Int) (x5 : Int) (x6 : List Int) : plan_part_L1 N 0 x3 x4 x5 x6 = none := rfl
theorem plan_part_L1_succ (N : Nat) (n1 : Nat) (x3 : List (List Int)) (x4 : Int) (x5 : Int) (x6 : List Int) : plan_part_L1 N (n1 + 1) x3 x4 x5 x6 =
  bif (decide (x5 < x4)) then
    bif inB x5 x6.length then
    plan_part_L1 N n1 x3 x4 (W (x5 + 1)) (x6.set x5.toNat (-1))
    else none
  else
    plan_part_L2 N N x3 0 (x6.length : Int) 0 x6 := by kernel_rfl
def plan_part (N : Nat) (a0 : T_Mine) : Option ((List Int) × Int) :=
  Option.bind (nearM a0.1.length a0.2) fun r1 =>
  bif mkB 8 (a0.1.length : Int) (a0.1.length : Int) then
  let v2 := List.replicate (a0.1.length : Int).toNat 0
  plan_part_L1 N N r1 (v2.length : Int) 0 v2
  else none
theorem plan_part_fn : FnOK Try.prog 43 127 (fun t : Nat => Nat.beq t 84) plan_part_C9.er [(.t 2), (.t 3)] := FnOK.mk' Try.func43 (by kernel_rfl) (by kernel_rfl) (by kernel_rfl) (by kernel_rfl) (by kernel_rfl)
theorem plan_part_envok (N : Nat) : EnvOK Try.prog (plan_part_E N) := .nil
theorem plan_part_pure (N : Nat) : PureOK Try.prog 43 [G_Mine] [(.list (.int .i64)), (.int .i64)] (fun x => plan_part N x) := pureOK (N := N) mixed plan_part_fn (plan_part_envok N) (And.intro trivial (And.intro part_hand (And.intro trivial (And.intro (And.intro trivial (And.intro trivial (And.intro (And.intro trivial trivial) (And.intro (And.intro trivial trivial) trivial)))) (And.intro trivial (And.intro (And.intro trivial (And.intro trivial (And.intro (And.intro trivial trivial) (And.intro (And.intro trivial (And.intro (And.intro trivial (And.intro trivial trivial)) (And.intro trivial (And.intro (And.intro trivial (And.intro (And.intro trivial (And.intro trivial trivial)) (And.intro trivial (And.intro trivial (And.intro trivial (And.intro trivial (And.intro (And.intro trivial trivial) (And.intro (And.intro trivial (And.intro trivial (And.intro (And.intro trivial trivial) trivial))) trivial)))))))) trivial)))) trivial)))) (And.intro trivial trivial))))))) rfl (fun x => by kernel_rfl)
/-! plan_CutOff -/
def plan_CutOff_N1 : List NS := [.wk 3 (.list (.int .i64)), .wk 5 (.list .bool), .wk 21 (.list G_Place), .keep [1, 3, 5, 21, 22, 23], .cmp]
def plan_CutOff_N2 : List NS := [.own 8 (.int .i64), .wk 3 (.list (.int .i64)), .wk 5 (.list .bool), .keep [3, 5, 8, 39, 40], .cmp]
def plan_CutOff_C24 : TC := (.cond (.t 50) (.rg [⟨⟨some 51, (.mov (.t 8)), none⟩, {}⟩, ⟨⟨some 52, (.mov (.t 9)), none⟩, {}⟩, ⟨⟨some 53, (.bslice false 1 [(I 0)] 1 [(0, (.t 52))]), none⟩, ⟨(.int .i64), none⟩⟩, ⟨⟨some 54, (.app 1 8 (.t 51) (.t 53)), none⟩, {}⟩, ⟨⟨some 8, (.mov (.t 54)), none⟩, {}⟩] none) .skip)
def plan_CutOff_C17 : TC := (.seq (.rg [⟨⟨some 43, (.mov (.t 5)), none⟩, {}⟩, ⟨⟨some 44, (.mov (.t 3)), none⟩, {}⟩, ⟨⟨some 45, (.mov (.t 9)), none⟩, {}⟩, ⟨⟨some 46, (.iadrS 1 (.t 44) (.t 45)), none⟩, {}⟩, ⟨⟨some 47, (.load false 1 (.t 46)), none⟩, {}⟩, ⟨⟨some 48, (.iadrS 1 (.t 43) (.t 47)), none⟩, {}⟩, ⟨⟨some 49, (.load false 1
  (.t 48)), none⟩, {}⟩, ⟨⟨some 50, (.un .not (.t 49)), none⟩, {}⟩] none) plan_CutOff_C24)
def plan_CutOff_C18 : TC := (.rg [⟨⟨some 55, (.bin .add (.t 40) (.c (I 1))), none⟩, {}⟩, ⟨⟨some 40, (.mov (.t 55)), none⟩, {}⟩] none)
def plan_CutOff_C11 : TC := (.seq (.block 3 (.seq (.rg [⟨⟨some 42, (.mov (.t 40)), none⟩, {}⟩, ⟨⟨some 9, (.mov (.t 42)), none⟩, {}⟩] none) plan_CutOff_C17)) plan_CutOff_C18)
def plan_CutOff_C6 : TC := (.seq (.cond (.t 41) .skip (.exit 2)) plan_CutOff_C11)
def plan_CutOff_C1 : TC := (.seq (.rg [⟨⟨some 41, (.bin .lss (.t 40) (.t 39)), none⟩, {}⟩] none) plan_CutOff_C6)
def plan_CutOff_C19 : TC := .ret
def plan_CutOff_C12 : TC := (.pre [.frz 2] plan_CutOff_C19)
def plan_CutOff_C7 : TC := (.seq (.rg [⟨⟨some 56, (.mov (.t 8)), none⟩, {}⟩, ⟨⟨some 2, (.mov (.t 56)), none⟩, {}⟩] none) plan_CutOff_C12)
def plan_CutOff_C2 : TC := (.pre [.frz 8] plan_CutOff_C7)
def plan_CutOff_C25 : TC := (.cond (.t 29) (.rg [⟨⟨some 30, (.mov (.t 5)), none⟩, {}⟩, ⟨⟨some 31, (.mov (.t 3)), none⟩, {}⟩, ⟨⟨some 32, (.mov (.t 6)), none⟩, {}⟩, ⟨⟨some 33, (.iadrS 1 (.t 31) (.t 32)), none⟩, {}⟩, ⟨⟨some 34, (.load false 1 (.t 33)), none⟩, {}⟩, ⟨⟨some 35, (.iadrS 1 (.t 30) (.t 34)), none⟩, {}⟩, ⟨⟨none, (.store
  1 (.t 35) (.c (B true))), none⟩, {}⟩] none) .skip)
def plan_CutOff_C20 : TC := (.seq (.rg [⟨⟨some 28, (.fadr 1 (.t 7)), none⟩, {}⟩, ⟨⟨some 29, (.load false 1 (.t 28)), none⟩, {}⟩] none) plan_CutOff_C25)
def plan_CutOff_C21 : TC := (.rg [⟨⟨some 36, (.bin .add (.t 23) (.c (I 1))), none⟩, {}⟩, ⟨⟨some 23, (.mov (.t 36)), none⟩, {}⟩] none)
def plan_CutOff_C13 : TC := (.seq (.block 1 (.seq (.rg [⟨⟨some 25, (.mov (.t 23)), none⟩, {}⟩, ⟨⟨some 26, (.iadrS 2 (.t 21) (.t 23)), none⟩, {}⟩, ⟨⟨some 27, (.load true 2 (.t 26)), none⟩, {}⟩, ⟨⟨some 7, (.alloc [(I 0), (B false)]), none⟩, {}⟩, ⟨⟨some 6, (.mov (.t 25)), none⟩, {}⟩, ⟨⟨none, (.store 2 (.t 7) (.t 27)), none⟩, {}⟩]
  none) plan_CutOff_C20)) plan_CutOff_C21)
def plan_CutOff_C8 : TC := (.seq (.cond (.t 24) .skip (.exit 0)) plan_CutOff_C13)
def plan_CutOff_C3 : TC := (.seq (.rg [⟨⟨some 24, (.bin .lss (.t 23) (.t 22)), none⟩, {}⟩] none) plan_CutOff_C8)
def plan_CutOff_C14 : TC := (.block 2 (.loop plan_CutOff_N2 plan_CutOff_C1))
def plan_CutOff_C9 : TC := (.seq (.seq (.rg [⟨⟨some 37, (.fadr 0 (.t 1)), none⟩, {}⟩, ⟨⟨some 38, (.load false 1 (.t 37)), none⟩, {}⟩, ⟨⟨some 39, (.len (.t 38)), none⟩, {}⟩, ⟨⟨some 40, (.mov (.c (I 0))), none⟩, {}⟩] none) plan_CutOff_C14) plan_CutOff_C2)
def plan_CutOff_C4 : TC := (.seq (.rg [⟨⟨some 8, (.mov (.c (.lst true []))), none⟩, {}⟩] none) plan_CutOff_C9)
def plan_CutOff_C26 : TC := .ret
def plan_CutOff_C22 : TC := (.pre [.frz 2] plan_CutOff_C26)
def plan_CutOff_C15 : TC := (.cond (.t 12) (.seq (.rg [⟨⟨some 2, (.mov (.c (.lst true []))), none⟩, {}⟩] none) plan_CutOff_C22) .skip)
def plan_CutOff_C28 : TC := (.block 0 (.loop plan_CutOff_N1 plan_CutOff_C3))
def plan_CutOff_C27 : TC := (.seq (.seq (.rg [⟨⟨some 20, (.fadr 0 (.t 1)), none⟩, {}⟩, ⟨⟨some 21, (.load false 1 (.t 20)), none⟩, {}⟩, ⟨⟨some 22, (.len (.t 21)), none⟩, {}⟩, ⟨⟨some 23, (.mov (.c (I 0))), none⟩, {}⟩] none) plan_CutOff_C28) plan_CutOff_C4)
def plan_CutOff_C23 : TC := (.seq (.rg [⟨⟨some 18, (.mov (.t 4)), none⟩, {}⟩, ⟨⟨some 19, (.mksl 1 1 [(B false)] (.t 18) (.t 18)), none⟩, ⟨.bool, none⟩⟩, ⟨⟨some 5, (.mov (.t 19)), none⟩, {}⟩] none) plan_CutOff_C27)
def plan_CutOff_C16 : TC := (.seq (.rg [⟨⟨some 14, (.load true 2 (.t 1)), none⟩, {}⟩, ⟨⟨some 15, (.call (.c (.fn 43 [])) [(.t 14)]), none⟩, {}⟩, ⟨⟨some 13, (.mov (.t 15)), none⟩, {}⟩, ⟨⟨some 16, (.extr 0 (.t 13)), none⟩, {}⟩, ⟨⟨some 17, (.extr 1 (.t 13)), none⟩, {}⟩, ⟨⟨some 3, (.mov (.t 16)), none⟩, {}⟩, ⟨⟨some 4, (.mov (.t
  17)), none⟩, {}⟩] none) plan_CutOff_C23)
def plan_CutOff_C10 : TC := (.seq (.seq (.rg [⟨⟨some 10, (.load true 2 (.t 1)), none⟩, {}⟩, ⟨⟨some 11, (.call (.c (.fn 14 [])) [(.t 10)]), none⟩, {}⟩, ⟨⟨some 12, (.un .not (.t 11)), none⟩, {}⟩] none) plan_CutOff_C15) plan_CutOff_C16)
def plan_CutOff_C5 : TC := (.seq (.rg [⟨⟨some 1, (.box (.t 0)), none⟩, {}⟩, ⟨⟨some 2, (.mov (.c (.lst true []))), none⟩, {}⟩] none) plan_CutOff_C10)
def plan_CutOff_E (N : Nat) : List (Nat × Ent) := [(14, pureE [G_Mine] [.bool] (fun x => plan_Valid N x)), (43, pureE [G_Mine] [(.list (.int .i64)), (.int .i64)] (fun x => plan_part N x))]
def plan_CutOff_L2 (N : Nat) (n : Nat) (x27 : List Int) (x28 : Int) (x29 : Int) (x30 : List Bool) (x31 : List Int) : Option (List Int) := loopN (normI 0 plan_CutOff_N2) (run (plan_CutOff_E N) N 0 plan_CutOff_C1) n ⟨[(3, .lst false (.int .i64) x27), (5, .whole 0), (8, .whole 1), (39, .int .i64 x28), (40, .int .i64 x29)], [some (.arr .bool x30), some (.arr (.int .i64) x31)]⟩ (blkK 2 (seqK (run (plan_CutOff_E N) N 0 plan_CutOff_C2) (fin [(.t 2)] [(.list (.int .i64))])))
def plan_CutOff_L1 (N : Nat) (n : Nat) (x4 : List Int) (x5 : List T_Place) (x6 : Int) (x7 : Int) (x8 : List T_Place) (x9 : List T_Road) (x10 : List Bool) : Option (List Int) := loopN (normI 0 plan_CutOff_N1) (run (plan_CutOff_E N) N 0 plan_CutOff_C3) n ⟨[(1, .ptr 0 0 0), (3, .lst false (.int .i64) x4), (5, .whole 1), (21, .lst false G_Place x5), (22, .int .i64 x6), (23, .int .i64 x7)], [some (.box 0 [.lst false G_Place x8, .lst false G_Road x9]), some (.arr .bool x10)]⟩ (blkK 0 (seqK (run (plan_CutOff_E N) N 0 plan_CutOff_C4) (fin [(.t 2)] [(.list (.int .i64))])))
theorem plan_CutOff_L2_zero (N : Nat) (x27 : List Int) (x28 : Int) (x29 : Int) (x30 : List Bool) (x31 : List Int) : plan_CutOff_L2 N 0 x27 x28 x29 x30 x31 = none := rfl
theorem plan_CutOff_L2_succ (N : Nat) (n2 : Nat) (x27 : List Int) (x28 : Int) (x29 : Int) (x30 : List Bool) (x31 : List Int) : plan_CutOff_L2 N (n2 + 1) x27 x28 x29 x30 x31 =
  bif (decide (x29 < x28)) then
    bif inB x29 x27.length then
    bif inB (x27.getD x29.toNat 0) x30.length then
    bif (!(x30.getD ((x27.getD x29.toNat 0).toNat) false)) then
      bif fitsB (x31.length + 1) 8 then
      plan_CutOff_L2 N n2 x27 x28 (W (x29 + 1)) x30 (x31 ++ [x29])
      else none
    else
      plan_CutOff_L2 N n2 x27 x28 (W (x29 + 1)) x30 x31
    else none
    else none
  else
    some x31 := by kernel_rfl
theorem plan_CutOff_L1_zero (N : Nat) (x4 : List Int) (x5 : List T_Place) (x6 : Int) (x7 : Int) (x8 : List T_Place) (x9 : List T_Road) (x10 : List Bool) : plan_CutOff_L1 N 0 x4 x5 x6 x7 x8 x9 x10 = none := rfl
theorem plan_CutOff_L1_succ (N : Nat) (n1 : Nat) (x4 : List Int) (x5 : List T_Place) (x6 : Int) (x7 : Int) (x8 : List T_Place) (x9 : List T_Road) (x10 : List Bool) : plan_CutOff_L1 N (n1 + 1) x4 x5 x6 x7 x8 x9 x10 =
  bif (decide (x7 < x6)) then
    bif inB x7 x5.length then
    bif (x5.getD x7.toNat D_Place).2 then
      bif inB x7 x4.length then
      bif inB (x4.getD x7.toNat 0) x10.length then
      plan_CutOff_L1 N n1 x4 x5 x6 (W (x7 + 1)) x8 x9 (x10.set ((x4.getD x7.toNat 0).toNat) true)
      else none
      else none
    else
      plan_CutOff_L1 N n1 x4 x5 x6 (W (x7 + 1)) x8 x9 x10
    else none
  else
    plan_CutOff_L2 N N x4 (x8.length : Int) 0 x10 [] := by kernel_rfl
def plan_CutOff (N : Nat) (a0 : T_Mine) : Option (List Int) :=
  Option.bind (plan_Valid N a0) fun r1 =>
  bif (!r1) then
    some []
  else
    Option.bind (plan_part N a0) fun r2 =>
    bif mkB 1 r2.2 r2.2 then
    plan_CutOff_L1 N N r2.1 a0.1 (a0.1.length : Int) 0 a0.1 a0.2 (List.replicate r2.2.toNat false)
    else none
theorem plan_CutOff_fn : FnOK Try.prog 25 57 (fun _ : Nat => false) plan_CutOff_C5.er [(.t 2)] := FnOK.mk' Try.func25 (by kernel_rfl) (by kernel_rfl) (by kernel_rfl) (by kernel_rfl) (by kernel_rfl)
theorem plan_CutOff_envok (N : Nat) : EnvOK Try.prog (plan_CutOff_E N) := .cons (pureE_ok (plan_Valid_pure N)) (.cons (pureE_ok (plan_part_pure N)) (.nil))
theorem plan_CutOff_pure (N : Nat) : PureOK Try.prog 25 [G_Mine] [(.list (.int .i64))] (fun x => plan_CutOff N x) := pureOK (N := N) mixed plan_CutOff_fn (plan_CutOff_envok N) (TC.noh_ok (by kernel_rfl)) rfl (fun x => by kernel_rfl)
/-! ref01_Ints -/
def ref01_Ints_N1 : List NS := [.wk 0 (.list (.int .i64)), .wk 1 (.list (.int .i64)), .keep [0, 1, 5], .cmp]
def ref01_Ints_C4 : TC := (.cond (.t 14) .skip (.exit 0))
def ref01_Ints_C12 : TC := .ret
def ref01_Ints_C8 : TC := (.cond (.t 25) (.seq (.rg [⟨⟨some 4, (.mov (.c (B false))), none⟩, {}⟩] none) ref01_Ints_C12) .skip)
def ref01_Ints_C9 : TC := (.rg [⟨⟨some 15, (.mov (.t 5)), none⟩, {}⟩, ⟨⟨some 16, (.bin .add (.t 15) (.c (I 1))), none⟩, {}⟩, ⟨⟨some 5, (.mov (.t 16)), none⟩, {}⟩] none)
def ref01_Ints_C5 : TC := (.seq (.block 1 (.seq (.rg [⟨⟨some 17, (.mov (.t 0)), none⟩, {}⟩, ⟨⟨some 18, (.mov (.t 5)), none⟩, {}⟩, ⟨⟨some 19, (.iadrS 1 (.t 17) (.t 18)), none⟩, {}⟩, ⟨⟨some 20, (.load false 1 (.t 19)), none⟩, {}⟩, ⟨⟨some 21, (.mov (.t 1)), none⟩, {}⟩, ⟨⟨some 22, (.mov (.t 5)), none⟩, {}⟩, ⟨⟨some 23, (.iadrS 1
  (.t 21) (.t 22)), none⟩, {}⟩, ⟨⟨some 24, (.load false 1 (.t 23)), none⟩, {}⟩, ⟨⟨some 25, (.bin .neq (.t 20) (.t 24)), none⟩, {}⟩] (some [])) ref01_Ints_C8)) ref01_Ints_C9)
def ref01_Ints_C1 : TC := (.seq (.seq (.rg [⟨⟨some 11, (.mov (.t 5)), none⟩, {}⟩, ⟨⟨some 12, (.mov (.t 0)), none⟩, {}⟩, ⟨⟨some 13, (.len (.t 12)), none⟩, {}⟩, ⟨⟨some 14, (.bin .lss (.t 11) (.t 13)), none⟩, {}⟩] none) ref01_Ints_C4) ref01_Ints_C5)
def ref01_Ints_C6 : TC := .ret
def ref01_Ints_C2 : TC := (.seq (.rg [⟨⟨some 4, (.mov (.c (B true))), none⟩, {}⟩] none) ref01_Ints_C6)
def ref01_Ints_C13 : TC := .ret
def ref01_Ints_C10 : TC := (.cond (.t 10) (.seq (.rg [⟨⟨some 4, (.mov (.c (B false))), none⟩, {}⟩] none) ref01_Ints_C13) .skip)
def ref01_Ints_C14 : TC := (.block 0 (.loop ref01_Ints_N1 ref01_Ints_C1))
def ref01_Ints_C11 : TC := (.seq (.seq (.rg [⟨⟨some 5, (.mov (.c (I 0))), none⟩, {}⟩] none) ref01_Ints_C14) ref01_Ints_C2)
def ref01_Ints_C7 : TC := (.seq (.seq (.rg [⟨⟨some 6, (.mov (.t 0)), none⟩, {}⟩, ⟨⟨some 7, (.len (.t 6)), none⟩, {}⟩, ⟨⟨some 8, (.mov (.t 1)), none⟩, {}⟩, ⟨⟨some 9, (.len (.t 8)), none⟩, {}⟩, ⟨⟨some 10, (.bin .neq (.t 7) (.t 9)), none⟩, {}⟩] none) ref01_Ints_C10) ref01_Ints_C11)
def ref01_Ints_C3 : TC := (.seq (.rg [⟨⟨some 4, (.mov (.c (B false))), none⟩, {}⟩] none) ref01_Ints_C7)
def ref01_Ints_E (N : Nat) : List (Nat × Ent) := []
def ref01_Ints_L1 (N : Nat) (n : Nat) (x1 : List Int) (x2 : List Int) (x3 : Int) : Option Bool := loopN (normI 0 ref01_Ints_N1) (run (ref01_Ints_E N) N 0 ref01_Ints_C1) n ⟨[(0, .lst false (.int .i64) x1), (1, .lst false (.int .i64) x2), (5, .int .i64 x3)], []⟩ (blkK 0 (seqK (run (ref01_Ints_E N) N 0 ref01_Ints_C2) (fin [(.t 4)] [.bool])))
theorem ref01_Ints_L1_zero (N : Nat) (x1 : List Int) (x2 : List Int) (x3 : Int) : ref01_Ints_L1 N 0 x1 x2 x3 = none := rfl
theorem ref01_Ints_L1_succ (N : Nat) (n1 : Nat) (x1 : List Int) (x2 : List Int) (x3 : Int) : ref01_Ints_L1 N (n1 + 1) x1 x2 x3 =
  bif (decide (x3 < (x1.length : Int))) then
    bif inB x3 x1.length then
    bif inB x3 x2.length then
    bif ((x1.getD x3.toNat 0) != (x2.getD x3.toNat 0)) then
      some false
    else
      ref01_Ints_L1 N n1 x1 x2 (W (x3 + 1))
    else none
    else none
  else
    some true := by kernel_rfl
def ref01_Ints (N : Nat) (a0 : List Int) (a1 : List Int) : Option Bool :=
  bif ((a0.length : Int) != (a1.length : Int)) then
    some false
  else
    ref01_Ints_L1 N N a0 a1 0
theorem ref01_Ints_fn : FnOK Try.prog 28 26 (fun _ : Nat => false) ref01_Ints_C3.er [(.t 4)] := FnOK.mk' Try.func28 (by kernel_rfl) (by kernel_rfl) (by kernel_rfl) (by kernel_rfl) (by kernel_rfl)
theorem ref01_Ints_envok (N : Nat) : EnvOK Try.prog (ref01_Ints_E N) := .nil
theorem ref01_Ints_pure (N : Nat) : PureOK Try.prog 28 [(.list (.int .i64)), (.list (.int .i64))] [.bool] (fun x => ref01_Ints N x.1 x.2) := pureOK (N := N) mixed ref01_Ints_fn (ref01_Ints_envok N) (TC.noh_ok (by kernel_rfl)) rfl (fun x => by kernel_rfl)
/-! law01_awake -/
def law01_awake_C6 : TC := .ret
def law01_awake_C5 : TC := (.seq (.rg [⟨⟨some 19, (.load true 2 (.t 2)), none⟩, {}⟩, ⟨⟨some 20, (.call (.c (.fn 14 [])) [(.t 19)]), none⟩, {}⟩, ⟨⟨some 21, (.mov (.t 20)), none⟩, {}⟩, ⟨⟨some 22, (.load true 2 (.t 2)), some (21, true)⟩, {}⟩, ⟨⟨some 23, (.call (.c (.fn 25 [])) [(.t 22)]), some (21, true)⟩, {}⟩, ⟨⟨some 24, (.len
  (.t 23)), some (21, true)⟩, {}⟩, ⟨⟨some 25, (.bin .eql (.t 24) (.c (I 0))), some (21, true)⟩, {}⟩, ⟨⟨some 26, (.pick (.t 21) (.t 25) (.c (B false))), none⟩, {}⟩, ⟨⟨some 27, (.mov (.t 26)), none⟩, {}⟩, ⟨⟨some 28, (.mov (.t 4)), some (27, true)⟩, {}⟩, ⟨⟨some 29, (.bin .eql (.t 28) (.c (I 0))), some
  (27, true)⟩, {}⟩, ⟨⟨some 30, (.pick (.t 27) (.t 29) (.c (B false))), none⟩, {}⟩, ⟨⟨some 31, (.mov (.t 30)), none⟩, {}⟩, ⟨⟨some 32, (.load true 2 (.t 3)), some (31, true)⟩, {}⟩, ⟨⟨some 33, (.call (.c (.fn 25 [])) [(.t 32)]), some (31, true)⟩, {}⟩, ⟨⟨some 34, (.bslice false 1 [(I 0)] 1 [(0, (.c (I
  1)))]), some (31, true)⟩, ⟨(.int .i64), none⟩⟩, ⟨⟨some 35, (.call (.c (.fn 28 [])) [(.t 33), (.t 34)]), some (31, true)⟩, {}⟩, ⟨⟨some 36, (.pick (.t 31) (.t 35) (.c (B false))), none⟩, {}⟩, ⟨⟨some 0, (.mov (.t 36)), none⟩, {}⟩] none) law01_awake_C6)
def law01_awake_C4 : TC := (.seq (.rg [⟨⟨some 14, (.load true 2 (.t 2)), none⟩, {}⟩, ⟨⟨some 15, (.build [(I 0), (I 0), (B false), (I 0), (I 0), (I 0), (I 0), (B false), (B false), (I 0), (I 0), (I 0), (I 0), (I 0), (I 0), (I 0)] [(0, (1, (.c (I 3))))]), none⟩, {}⟩, ⟨⟨some 16, (.call (.c (.fn 19 [])) [(.t 14), (.t 15)]), none⟩,
  {}⟩, ⟨⟨some 13, (.mov (.t 16)), none⟩, {}⟩, ⟨⟨some 17, (.extr 0 (.t 13)), none⟩, {}⟩, ⟨⟨some 18, (.extr 1 (.t 13)), none⟩, {}⟩, ⟨⟨some 3, (.alloc [(.lst true []), (.lst true [])]), none⟩, {}⟩, ⟨⟨none, (.store 2 (.t 3) (.t 17)), none⟩, {}⟩, ⟨⟨some 4, (.mov (.t 18)), none⟩, {}⟩] none) law01_awake_C5)
def law01_awake_C3 : TC := (.seq (.rg [⟨⟨some 7, (.build [(I 0), (B false)] [(1, (1, (.c (B true))))]), none⟩, {}⟩, ⟨⟨some 8, (.build [(I 0), (B false)] []), none⟩, {}⟩, ⟨⟨some 9, (.bslice false 2 [(I 0), (B false)] 2 [(0, (.t 7)), (1, (.t 8))]), none⟩, ⟨G_Place, none⟩⟩, ⟨⟨some 10, (.load true 10 (.t 1)), none⟩, {}⟩, ⟨⟨some
  11, (.bslice false 10 [(I 0), (I 0), (I 0), (I 0), (B false), (B false), (I 0), (I 0), (I 0), (I 0)] 1 [(0, (.t 10))]), none⟩, ⟨G_Road, none⟩⟩, ⟨⟨some 12, (.build [(.lst true []), (.lst true [])] [(0, (1, (.t 9))), (1, (1, (.t 11)))]), none⟩, {}⟩, ⟨⟨some 2, (.alloc [(.lst true []), (.lst true
  [])]), none⟩, {}⟩, ⟨⟨none, (.store 2 (.t 2) (.t 12)), none⟩, {}⟩] none) law01_awake_C4)
def law01_awake_C2 : TC := (.seq (.rg [⟨⟨some 5, (.build [(I 0), (I 0)] [(0, (1, (.c (I 1)))), (1, (1, (.c (I 1))))]), none⟩, {}⟩, ⟨⟨some 6, (.build [(I 0), (I 0), (I 0), (I 0), (B false), (B false), (I 0), (I 0), (I 0), (I 0)] [(0, (1, (.c (I 0)))), (1, (1, (.c (I 1)))), (2, (1, (.c (I 1)))), (3, (1, (.c (I 1)))), (6, (2, (.t
  5)))]), none⟩, {}⟩, ⟨⟨some 1, (.alloc [(I 0), (I 0), (I 0), (I 0), (B false), (B false), (I 0), (I 0), (I 0), (I 0)]), none⟩, {}⟩, ⟨⟨none, (.store 10 (.t 1) (.t 6)), none⟩, {}⟩] none) law01_awake_C3)
def law01_awake_C1 : TC := (.seq (.rg [⟨⟨some 0, (.mov (.c (B false))), none⟩, {}⟩] none) law01_awake_C2)
def law01_awake_E (N : Nat) : List (Nat × Ent) := [(19, pureE [G_Mine, G_Edit] [G_Mine, (.int .i64)] (fun x => plan_Apply N x.1 x.2)), (14, pureE [G_Mine] [.bool] (fun x => plan_Valid N x)), (25, pureE [G_Mine] [(.list (.int .i64))] (fun x => plan_CutOff N x)), (28, pureE [(.list (.int .i64)), (.list (.int .i64))] [.bool] (fun x => ref01_Ints N x.1 x.2))]
def law01_awake (N : Nat) : Option Bool :=
  Option.bind (plan_Apply N ([(0, true), (0, false)], [(0, (1, (1, (1, (false, (false, ((1, 1), (0, 0))))))))]) (3, ((0, false), ((0, (0, (0, (0, (false, (false, ((0, 0), (0, 0)))))))), (0, (0, 0)))))) fun r1 =>
  Option.bind (plan_Valid N ([(0, true), (0, false)], [(0, (1, (1, (1, (false, (false, ((1, 1), (0, 0))))))))])) fun r2 =>
  bif r2 then
    Option.bind (plan_CutOff N ([(0, true), (0, false)], [(0, (1, (1, (1, (false, (false, ((1, 1), (0, 0))))))))])) fun r3 =>
    bif ((r3.length : Int) == 0) then
      bif (r1.2 == 0) then
        Option.bind (plan_CutOff N r1.1) fun r4 =>
        Option.bind (ref01_Ints N r4 [1]) fun r5 =>
        some r5
      else
        some false
    else
      some false
  else
    some false
theorem law01_awake_fn : FnOK Try.prog 15 37 (fun _ : Nat => false) law01_awake_C1.er [(.t 0)] := FnOK.mk' Try.func15 (by kernel_rfl) (by kernel_rfl) (by kernel_rfl) (by kernel_rfl) (by kernel_rfl)
theorem law01_awake_envok (N : Nat) : EnvOK Try.prog (law01_awake_E N) := .cons (pureE_ok (plan_Apply_pure N)) (.cons (pureE_ok (plan_Valid_pure N)) (.cons (pureE_ok (plan_CutOff_pure N)) (.cons (pureE_ok (ref01_Ints_pure N)) (.nil))))
theorem law01_awake_pure (N : Nat) : PureOK Try.prog 15 [] [.bool] (fun x => law01_awake N) := pureOK (N := N) mixed law01_awake_fn (law01_awake_envok N) (TC.noh_ok (by kernel_rfl)) rfl (fun x => by kernel_rfl)
/-! law01_PlanChecks -/
def law01_PlanChecks_C4 : TC := .ret
def law01_PlanChecks_C3 : TC := (.seq (.rg [⟨⟨some 16, (.load true 2 (.t 9)), none⟩, {}⟩, ⟨⟨some 17, (.call (.c (.fn 12 [])) [(.t 16)]), none⟩, {}⟩, ⟨⟨some 18, (.load true 2 (.t 9)), none⟩, {}⟩, ⟨⟨some 19, (.call (.c (.fn 13 [])) [(.t 18)]), none⟩, {}⟩, ⟨⟨some 20, (.bin .eql (.t 17) (.t 19)), none⟩, {}⟩, ⟨⟨some 21, (.mov (.t 20)),
  none⟩, {}⟩, ⟨⟨some 22, (.load true 2 (.t 5)), some (21, true)⟩, {}⟩, ⟨⟨some 23, (.call (.c (.fn 12 [])) [(.t 22)]), some (21, true)⟩, {}⟩, ⟨⟨some 24, (.load true 2 (.t 5)), some (21, true)⟩, {}⟩, ⟨⟨some 25, (.call (.c (.fn 13 [])) [(.t 24)]), some (21, true)⟩, {}⟩, ⟨⟨some 26, (.bin .eql (.t 23) (.t
  25)), some (21, true)⟩, {}⟩, ⟨⟨some 27, (.pick (.t 21) (.t 26) (.c (B false))), none⟩, {}⟩, ⟨⟨some 28, (.mov (.t 27)), none⟩, {}⟩, ⟨⟨some 29, (.load true 2 (.t 9)), some (28, true)⟩, {}⟩, ⟨⟨some 30, (.call (.c (.fn 14 [])) [(.t 29)]), some (28, true)⟩, {}⟩, ⟨⟨some 31, (.load true 2 (.t 9)), some
  (28, true)⟩, {}⟩, ⟨⟨some 32, (.call (.c (.fn 13 [])) [(.t 31)]), some (28, true)⟩, {}⟩, ⟨⟨some 33, (.bin .eql (.t 32) (.c (I 0))), some (28, true)⟩, {}⟩, ⟨⟨some 34, (.beq false (.t 30) (.t 33)), some (28, true)⟩, {}⟩, ⟨⟨some 35, (.pick (.t 28) (.t 34) (.c (B false))), none⟩, {}⟩, ⟨⟨some 36, (.mov
  (.t 35)), none⟩, {}⟩, ⟨⟨some 37, (.load true 2 (.t 5)), some (36, true)⟩, {}⟩, ⟨⟨some 38, (.call (.c (.fn 14 [])) [(.t 37)]), some (36, true)⟩, {}⟩, ⟨⟨some 39, (.load true 2 (.t 5)), some (36, true)⟩, {}⟩, ⟨⟨some 40, (.call (.c (.fn 13 [])) [(.t 39)]), some (36, true)⟩, {}⟩, ⟨⟨some 41, (.bin .eql
  (.t 40) (.c (I 0))), some (36, true)⟩, {}⟩, ⟨⟨some 42, (.beq false (.t 38) (.t 41)), some (36, true)⟩, {}⟩, ⟨⟨some 43, (.pick (.t 36) (.t 42) (.c (B false))), none⟩, {}⟩, ⟨⟨some 44, (.mov (.t 43)), none⟩, {}⟩, ⟨⟨some 45, (.call (.c (.fn 15 [])) []), some (44, true)⟩, {}⟩, ⟨⟨some 46, (.pick (.t 44)
  (.t 45) (.c (B false))), none⟩, {}⟩, ⟨⟨some 8, (.mov (.t 46)), none⟩, {}⟩] (some [(1, 2), (7, 8), (14, 15), (22, 23)])) law01_PlanChecks_C4)
def law01_PlanChecks_C2 : TC := (.seq (.rg [⟨⟨some 10, (.mov (.t 0)), none⟩, {}⟩, ⟨⟨some 11, (.call (.c (.fn 10 [])) [(.t 10)]), none⟩, {}⟩, ⟨⟨some 12, (.call (.c (.fn 11 [])) [(.t 11)]), none⟩, {}⟩, ⟨⟨some 13, (.mov (.t 2)), none⟩, {}⟩, ⟨⟨some 14, (.mov (.t 3)), none⟩, {}⟩, ⟨⟨some 15, (.call (.c (.fn 9 [])) [(.t 12), (.t 13), (.t
  14)]), none⟩, {}⟩, ⟨⟨some 9, (.alloc [(.lst true []), (.lst true [])]), none⟩, {}⟩, ⟨⟨none, (.store 2 (.t 9) (.t 15)), none⟩, {}⟩] none) law01_PlanChecks_C3)
def law01_PlanChecks_C1 : TC := (.seq (.rg [⟨⟨some 5, (.box (.t 1)), none⟩, {}⟩, ⟨⟨some 8, (.mov (.c (B false))), none⟩, {}⟩] none) law01_PlanChecks_C2)
def law01_PlanChecks_E (N : Nat) : List (Nat × Ent) := [(10, sfE [none] [.v (.list (.int .u8))] [.n G_Codes] (fun x => draw_New N x)), (11, sfE [none] [.b (.v G_Codes)] [.v G_Mine] (fun x => draw_Codes_Mine N x)), (9, pureE [G_Mine, (.int .i64), (.int .i64)] [G_Mine] (fun x => law01_spoilt N x.1 x.2.1 x.2.2)), (12, pureE [G_Mine] [(.int .i64)] (fun x => plan_Check N x)), (13, pureE [G_Mine] [(.int .i64)] (fun x => ref01_Check N x)), (14, pureE [G_Mine] [.bool] (fun x => plan_Valid N x)), (15, pureE [] [.bool] (fun x => law01_awake N))]
def law01_PlanChecks (N : Nat) (a0 : List Int) (a1 : T_Mine) (a2 : Int) (a3 : Int) : Option Bool :=
  Option.bind (draw_New N a0) fun r1 =>
  Option.bind (draw_Codes_Mine N r1.1) fun r2 =>
  Option.bind (law01_spoilt N r2.1 a2 a3) fun r3 =>
  Option.bind (plan_Check N r3) fun r4 =>
  Option.bind (ref01_Check N r3) fun r5 =>
  bif (r4 == r5) then
    Option.bind (plan_Check N a1) fun r6 =>
    Option.bind (ref01_Check N a1) fun r7 =>
    bif (r6 == r7) then
      Option.bind (plan_Valid N r3) fun r8 =>
      Option.bind (ref01_Check N r3) fun r9 =>
      bif (r8 == (r9 == 0)) then
        Option.bind (plan_Valid N a1) fun r10 =>
        Option.bind (ref01_Check N a1) fun r11 =>
        bif (r10 == (r11 == 0)) then
          Option.bind (law01_awake N) fun r12 =>
          some r12
        else
          some false
      else
        some false
    else
      some false
  else
    some false
theorem law01_PlanChecks_fn : FnOK Try.prog 3 47 (fun _ : Nat => false) law01_PlanChecks_C1.er [(.t 8)] := FnOK.mk' Try.func3 (by kernel_rfl) (by kernel_rfl) (by kernel_rfl) (by kernel_rfl) (by kernel_rfl)
theorem law01_PlanChecks_envok (N : Nat) : EnvOK Try.prog (law01_PlanChecks_E N) := .cons (sfE_ok (draw_New_sf N)) (.cons (sfE_ok (draw_Codes_Mine_sf N)) (.cons (pureE_ok (law01_spoilt_pure N)) (.cons (pureE_ok (plan_Check_pure N)) (.cons (pureE_ok (ref01_Check_pure N)) (.cons (pureE_ok (plan_Valid_pure N)) (.cons (pureE_ok (law01_awake_pure N)) (.nil)))))))
theorem law01_PlanChecks_pure (N : Nat) : PureOK Try.prog 3 [(.list (.int .u8)), G_Mine, (.int .i64), (.int .i64)] [.bool] (fun x => law01_PlanChecks N x.1 x.2.1 x.2.2.1 x.2.2.2) := pureOK (N := N) mixed law01_PlanChecks_fn (law01_PlanChecks_envok N) (TC.noh_ok (by kernel_rfl)) rfl (fun x => by kernel_rfl)
/-! draw_Codes_Edit -/
def draw_Codes_Edit_NE : List NS := [.frzo 0, .keep [4], .out [0]]
def draw_Codes_Edit_C10 : TC := (.cond (.t 54) .skip (.rg [⟨⟨some 56, (.bin .eql (.t 10) (.c (I 4))), none⟩, {}⟩, ⟨⟨some 54, (.mov (.t 56)), none⟩, {}⟩] none))
def draw_Codes_Edit_C13 : TC := (.rg [⟨⟨some 22, (.fadr 14 (.t 5)), none⟩, {}⟩, ⟨⟨some 23, (.fadr 0 (.t 22)), none⟩, {}⟩, ⟨⟨some 24, (.load false 1 (.t 23)), none⟩, {}⟩, ⟨⟨some 25, (.mov (.t 0)), none⟩, {}⟩, ⟨⟨some 26, (.call (.c (.fn 38 [])) [(.t 25), (.c (I (-1))), (.c (I 5))]), none⟩, {}⟩, ⟨⟨some 27, (.bin .add (.t 24) (.t 26)),
  none⟩, {}⟩, ⟨⟨some 28, (.fadr 14 (.t 5)), none⟩, {}⟩, ⟨⟨some 29, (.fadr 1 (.t 28)), none⟩, {}⟩, ⟨⟨none, (.store 1 (.t 29) (.t 27)), none⟩, {}⟩] (some [(0, 4), (1, 4), (2, 4)]))
def draw_Codes_Edit_C12 : TC := (.seq (.rg [⟨⟨some 18, (.mov (.t 0)), none⟩, {}⟩, ⟨⟨some 19, (.call (.c (.fn 38 [])) [(.t 18), (.c (I 0)), (.c (I 30))]), none⟩, {}⟩, ⟨⟨some 20, (.fadr 14 (.t 5)), none⟩, {}⟩, ⟨⟨some 21, (.fadr 0 (.t 20)), none⟩, {}⟩, ⟨⟨none, (.store 1 (.t 21) (.t 19)), none⟩, {}⟩] none) draw_Codes_Edit_C13)
def draw_Codes_Edit_C11 : TC := (.cond (.t 54) (.rg [⟨⟨some 57, (.mov (.t 0)), none⟩, {}⟩, ⟨⟨some 58, (.fadr 1 (.t 3)), none⟩, {}⟩, ⟨⟨some 59, (.load false 1 (.t 58)), none⟩, {}⟩, ⟨⟨some 60, (.len (.t 59)), none⟩, {}⟩, ⟨⟨some 61, (.bin .add (.t 60) (.c (I 1))), none⟩, {}⟩, ⟨⟨some 62, (.call (.c (.fn 37 [])) [(.t 57), (.t 61)]),
  none⟩, {}⟩, ⟨⟨some 63, (.fadr 13 (.t 5)), none⟩, {}⟩, ⟨⟨none, (.store 1 (.t 63) (.t 62)), none⟩, {}⟩] none) (.seq (.rg [⟨⟨some 11, (.mov (.t 0)), none⟩, {}⟩, ⟨⟨some 12, (.fadr 1 (.t 3)), none⟩, {}⟩, ⟨⟨some 13, (.load false 1 (.t 12)), none⟩, {}⟩, ⟨⟨some 14, (.len (.t 13)), none⟩, {}⟩, ⟨⟨some 15,
  (.bin .add (.t 14) (.c (I 1))), none⟩, {}⟩, ⟨⟨some 16, (.call (.c (.fn 37 [])) [(.t 11), (.t 15)]), none⟩, {}⟩, ⟨⟨some 17, (.fadr 13 (.t 5)), none⟩, {}⟩, ⟨⟨none, (.store 1 (.t 17) (.t 16)), none⟩, {}⟩] none) draw_Codes_Edit_C12))
def draw_Codes_Edit_C8 : TC := (.cond (.t 38) (.rg [⟨⟨some 40, (.mov (.t 0)), none⟩, {}⟩, ⟨⟨some 41, (.mov (.t 0)), none⟩, {}⟩, ⟨⟨some 42, (.fadr 0 (.t 3)), none⟩, {}⟩, ⟨⟨some 43, (.load false 1 (.t 42)), none⟩, {}⟩, ⟨⟨some 44, (.len (.t 43)), none⟩, {}⟩, ⟨⟨some 45, (.bin .add (.t 44) (.c (I 1))), none⟩, {}⟩, ⟨⟨some 46, (.call (.c
  (.fn 37 [])) [(.t 41), (.t 45)]), none⟩, {}⟩, ⟨⟨some 47, (.mov (.t 0)), none⟩, {}⟩, ⟨⟨some 48, (.fadr 0 (.t 3)), none⟩, {}⟩, ⟨⟨some 49, (.load false 1 (.t 48)), none⟩, {}⟩, ⟨⟨some 50, (.len (.t 49)), none⟩, {}⟩, ⟨⟨some 51, (.call (.c (.fn 37 [])) [(.t 47), (.t 50)]), none⟩, {}⟩, ⟨⟨some 52, (.call
  (.c (.fn 17 [])) [(.t 40), (.t 46), (.t 51)]), none⟩, {}⟩, ⟨⟨some 53, (.fadr 3 (.t 5)), none⟩, {}⟩, ⟨⟨none, (.store 10 (.t 53) (.t 52)), none⟩, {}⟩] (some [(6, 8), (6, 9), (6, 10)])) (.seq (.seq (.rg [⟨⟨some 55, (.bin .eql (.t 10) (.c (I 3))), none⟩, {}⟩, ⟨⟨some 54, (.mov (.t 55)), none⟩, {}⟩]
  none) draw_Codes_Edit_C10) draw_Codes_Edit_C11))
def draw_Codes_Edit_C6 : TC := (.cond (.t 30) (.rg [⟨⟨some 32, (.mov (.t 0)), none⟩, {}⟩, ⟨⟨some 33, (.call (.c (.fn 38 [])) [(.t 32), (.c (I (-100))), (.c (I 100))]), none⟩, {}⟩, ⟨⟨some 34, (.mov (.t 0)), none⟩, {}⟩, ⟨⟨some 35, (.call (.c (.fn 39 [])) [(.t 34), (.c (I 4))]), none⟩, {}⟩, ⟨⟨some 36, (.build [(I 0), (B false)] [(0,
  (1, (.t 33))), (1, (1, (.t 35)))]), none⟩, {}⟩, ⟨⟨some 37, (.fadr 1 (.t 5)), none⟩, {}⟩, ⟨⟨none, (.store 2 (.t 37) (.t 36)), none⟩, {}⟩] none) (.seq (.rg [⟨⟨some 39, (.bin .eql (.t 10) (.c (I 2))), none⟩, {}⟩, ⟨⟨some 38, (.mov (.t 39)), none⟩, {}⟩] none) draw_Codes_Edit_C8))
def draw_Codes_Edit_C4 : TC := (.block 0 (.seq (.rg [⟨⟨some 31, (.bin .eql (.t 10) (.c (I 1))), none⟩, {}⟩, ⟨⟨some 30, (.mov (.t 31)), none⟩, {}⟩] none) draw_Codes_Edit_C6))
def draw_Codes_Edit_C9 : TC := .ret
def draw_Codes_Edit_C7 : TC := (.pre [.frzo 0, .keep [4], .out [0]] draw_Codes_Edit_C9)
def draw_Codes_Edit_C5 : TC := (.seq (.rg [⟨⟨some 64, (.load true 16 (.t 5)), none⟩, {}⟩, ⟨⟨none, (.store 16 (.t 4) (.t 64)), none⟩, {}⟩] none) draw_Codes_Edit_C7)
def draw_Codes_Edit_C3 : TC := (.seq (.seq (.rg [⟨⟨some 9, (.fadr 0 (.t 5)), none⟩, {}⟩, ⟨⟨some 10, (.load false 1 (.t 9)), none⟩, {}⟩] none) draw_Codes_Edit_C4) draw_Codes_Edit_C5)
def draw_Codes_Edit_C2 : TC := (.seq (.rg [⟨⟨some 6, (.mov (.t 0)), none⟩, {}⟩, ⟨⟨some 7, (.call (.c (.fn 38 [])) [(.t 6), (.c (I 1)), (.c (I 6))]), none⟩, {}⟩, ⟨⟨some 8, (.build [(I 0), (I 0), (B false), (I 0), (I 0), (I 0), (I 0), (B false), (B false), (I 0), (I 0), (I 0), (I 0), (I 0), (I 0), (I 0)] [(0, (1, (.t 7)))]), none⟩,
  {}⟩, ⟨⟨some 5, (.alloc [(I 0), (I 0), (B false), (I 0), (I 0), (I 0), (I 0), (B false), (B false), (I 0), (I 0), (I 0), (I 0), (I 0), (I 0), (I 0)]), none⟩, {}⟩, ⟨⟨none, (.store 16 (.t 5) (.t 8)), none⟩, {}⟩] none) draw_Codes_Edit_C3)
def draw_Codes_Edit_C1 : TC := (.seq (.rg [⟨⟨some 3, (.box (.t 1)), none⟩, {}⟩, ⟨⟨some 4, (.alloc [(I 0), (I 0), (B false), (I 0), (I 0), (I 0), (I 0), (B false), (B false), (I 0), (I 0), (I 0), (I 0), (I 0), (I 0), (I 0)]), none⟩, {}⟩] none) draw_Codes_Edit_C2)
def draw_Codes_Edit_E (N : Nat) : List (Nat × Ent) := [(38, sfE [none, none, none] [.b (.v G_Codes), .v (.int .i64), .v (.int .i64)] [.v (.int .i64)] (fun x => draw_Codes_Range N x.1 x.2.1 x.2.2)), (39, sfE [none, none] [.b (.v G_Codes), .v (.int .i64)] [.v .bool] (fun x => draw_Codes_One N x.1 x.2)), (37, sfE [none, none] [.b (.v G_Codes), .v (.int .i64)] [.v (.int .i64)] (fun x => draw_Codes_Next N x.1 x.2)), (17, sfE [none, none, none] [.b (.v G_Codes), .v (.int .i64), .v (.int .i64)] [.v G_Road] (fun x => draw_Codes_Road N x.1 x.2.1 x.2.2))]
def draw_Codes_Edit (N : Nat) (a0 : T_Codes) (a1 : T_Mine) : Option (T_Edit × T_Codes) :=
  Option.bind (draw_Codes_Range N a0 1 6) fun r1 =>
  bif (r1.1 == 1) then
    Option.bind (draw_Codes_Range N r1.2 (-100) 100) fun r2 =>
    Option.bind (draw_Codes_One N r2.2 4) fun r3 =>
    some ((r1.1, ((r2.1, r3.1), ((0, (0, (0, (0, (false, (false, ((0, 0), (0, 0)))))))), (0, (0, 0))))), r3.2)
  else
    bif (r1.1 == 2) then
      Option.bind (draw_Codes_Next N r1.2 (W ((a1.1.length : Int) + 1))) fun r5 =>
      Option.bind (draw_Codes_Next N r5.2 (a1.1.length : Int)) fun r6 =>
      Option.bind (draw_Codes_Road N r6.2 r5.1 r6.1) fun r7 =>
      some ((r1.1, ((0, false), (r7.1, (0, (0, 0))))), r7.2)
    else
      bif (r1.1 == 3) then
        Option.bind (draw_Codes_Next N r1.2 (W ((a1.2.length : Int) + 1))) fun r9 =>
        some ((r1.1, ((0, false), ((0, (0, (0, (0, (false, (false, ((0, 0), (0, 0)))))))), (r9.1, (0, 0))))), r9.2)
      else
        bif (r1.1 == 4) then
          Option.bind (draw_Codes_Next N r1.2 (W ((a1.2.length : Int) + 1))) fun r11 =>
          some ((r1.1, ((0, false), ((0, (0, (0, (0, (false, (false, ((0, 0), (0, 0)))))))), (r11.1, (0, 0))))), r11.2)
        else
          Option.bind (draw_Codes_Next N r1.2 (W ((a1.2.length : Int) + 1))) fun r13 =>
          Option.bind (draw_Codes_Range N r13.2 0 30) fun r14 =>
          Option.bind (draw_Codes_Range N r14.2 (-1) 5) fun r15 =>
          some ((r1.1, ((0, false), ((0, (0, (0, (0, (false, (false, ((0, 0), (0, 0)))))))), (r13.1, (r14.1, W (r14.1 + r15.1)))))), r15.2)
theorem draw_Codes_Edit_fn : FnOK Try.prog 16 65 (fun _ : Nat => false) draw_Codes_Edit_C1.er [(.cell 4 true 16)] := FnOK.mk' Try.func16 (by kernel_rfl) (by kernel_rfl) (by kernel_rfl) (by kernel_rfl) (by kernel_rfl)
theorem draw_Codes_Edit_envok (N : Nat) : EnvOK Try.prog (draw_Codes_Edit_E N) := .cons (sfE_ok (draw_Codes_Range_sf N)) (.cons (sfE_ok (draw_Codes_One_sf N)) (.cons (sfE_ok (draw_Codes_Next_sf N)) (.cons (sfE_ok (draw_Codes_Road_sf N)) (.nil))))
theorem draw_Codes_Edit_sf (N : Nat) : SFOK Try.prog 16 [none, none] [.b (.v G_Codes), .v G_Mine] [.v G_Edit] (fun x => draw_Codes_Edit N x.1 x.2) := sfOK (N := N) (p := 1) (q := 1) (ns := draw_Codes_Edit_NE) mixed draw_Codes_Edit_fn (draw_Codes_Edit_envok N) (TC.noh_ok (by kernel_rfl)) rfl rfl rfl (fun x => by kernel_rfl)
/-! ref01_Same -/
def ref01_Same_N1 : List NS := [.keep [2, 3, 5], .cmp]
def ref01_Same_N2 : List NS := [.keep [2, 3, 6], .cmp]
def ref01_Same_C6 : TC := (.cond (.t 45) .skip (.exit 2))
def ref01_Same_C19 : TC := .ret
def ref01_Same_C13 : TC := (.cond (.t 58) (.seq (.rg [⟨⟨some 4, (.mov (.c (B false))), none⟩, {}⟩] none) ref01_Same_C19) .skip)
def ref01_Same_C14 : TC := (.rg [⟨⟨some 46, (.mov (.t 6)), none⟩, {}⟩, ⟨⟨some 47, (.bin .add (.t 46) (.c (I 1))), none⟩, {}⟩, ⟨⟨some 6, (.mov (.t 47)), none⟩, {}⟩] none)
def ref01_Same_C7 : TC := (.seq (.block 3 (.seq (.rg [⟨⟨some 48, (.fadr 1 (.t 2)), none⟩, {}⟩, ⟨⟨some 49, (.load false 1 (.t 48)), none⟩, {}⟩, ⟨⟨some 50, (.mov (.t 6)), none⟩, {}⟩, ⟨⟨some 51, (.iadrS 10 (.t 49) (.t 50)), none⟩, {}⟩, ⟨⟨some 52, (.load true 10 (.t 51)), none⟩, {}⟩, ⟨⟨some 53, (.fadr 1 (.t 3)), none⟩, {}⟩,
  ⟨⟨some 54, (.load false 1 (.t 53)), none⟩, {}⟩, ⟨⟨some 55, (.mov (.t 6)), none⟩, {}⟩, ⟨⟨some 56, (.iadrS 10 (.t 54) (.t 55)), none⟩, {}⟩, ⟨⟨some 57, (.load true 10 (.t 56)), none⟩, {}⟩, ⟨⟨some 58, (.eqa true [(0, 1), (1, 1), (2, 1), (3, 1), (4, 0), (5, 0), (6, 1), (7, 1), (8, 1), (9, 1)] (.t 52)
  (.t 57)), none⟩, {}⟩] (some [])) ref01_Same_C13)) ref01_Same_C14)
def ref01_Same_C1 : TC := (.seq (.seq (.rg [⟨⟨some 41, (.mov (.t 6)), none⟩, {}⟩, ⟨⟨some 42, (.fadr 1 (.t 2)), none⟩, {}⟩, ⟨⟨some 43, (.load false 1 (.t 42)), none⟩, {}⟩, ⟨⟨some 44, (.len (.t 43)), none⟩, {}⟩, ⟨⟨some 45, (.bin .lss (.t 41) (.t 44)), none⟩, {}⟩] none) ref01_Same_C6) ref01_Same_C7)
def ref01_Same_C8 : TC := .ret
def ref01_Same_C2 : TC := (.seq (.rg [⟨⟨some 4, (.mov (.c (B true))), none⟩, {}⟩] none) ref01_Same_C8)
def ref01_Same_C9 : TC := (.cond (.t 27) .skip (.exit 0))
def ref01_Same_C20 : TC := .ret
def ref01_Same_C15 : TC := (.cond (.t 40) (.seq (.rg [⟨⟨some 4, (.mov (.c (B false))), none⟩, {}⟩] none) ref01_Same_C20) .skip)
def ref01_Same_C16 : TC := (.rg [⟨⟨some 28, (.mov (.t 5)), none⟩, {}⟩, ⟨⟨some 29, (.bin .add (.t 28) (.c (I 1))), none⟩, {}⟩, ⟨⟨some 5, (.mov (.t 29)), none⟩, {}⟩] none)
def ref01_Same_C10 : TC := (.seq (.block 1 (.seq (.rg [⟨⟨some 30, (.fadr 0 (.t 2)), none⟩, {}⟩, ⟨⟨some 31, (.load false 1 (.t 30)), none⟩, {}⟩, ⟨⟨some 32, (.mov (.t 5)), none⟩, {}⟩, ⟨⟨some 33, (.iadrS 2 (.t 31) (.t 32)), none⟩, {}⟩, ⟨⟨some 34, (.load true 2 (.t 33)), none⟩, {}⟩, ⟨⟨some 35, (.fadr 0 (.t 3)), none⟩, {}⟩, ⟨⟨some
  36, (.load false 1 (.t 35)), none⟩, {}⟩, ⟨⟨some 37, (.mov (.t 5)), none⟩, {}⟩, ⟨⟨some 38, (.iadrS 2 (.t 36) (.t 37)), none⟩, {}⟩, ⟨⟨some 39, (.load true 2 (.t 38)), none⟩, {}⟩, ⟨⟨some 40, (.eqa true [(0, 1), (1, 0)] (.t 34) (.t 39)), none⟩, {}⟩] (some [])) ref01_Same_C15)) ref01_Same_C16)
def ref01_Same_C3 : TC := (.seq (.seq (.rg [⟨⟨some 23, (.mov (.t 5)), none⟩, {}⟩, ⟨⟨some 24, (.fadr 0 (.t 2)), none⟩, {}⟩, ⟨⟨some 25, (.load false 1 (.t 24)), none⟩, {}⟩, ⟨⟨some 26, (.len (.t 25)), none⟩, {}⟩, ⟨⟨some 27, (.bin .lss (.t 23) (.t 26)), none⟩, {}⟩] none) ref01_Same_C9) ref01_Same_C10)
def ref01_Same_C11 : TC := (.block 2 (.loop ref01_Same_N2 ref01_Same_C1))
def ref01_Same_C4 : TC := (.seq (.seq (.rg [⟨⟨some 6, (.mov (.c (I 0))), none⟩, {}⟩] none) ref01_Same_C11) ref01_Same_C2)
def ref01_Same_C21 : TC := .ret
def ref01_Same_C17 : TC := (.cond (.t 22) (.seq (.rg [⟨⟨some 4, (.mov (.c (B false))), none⟩, {}⟩] none) ref01_Same_C21) .skip)
def ref01_Same_C22 : TC := (.block 0 (.loop ref01_Same_N1 ref01_Same_C3))
def ref01_Same_C18 : TC := (.seq (.seq (.rg [⟨⟨some 5, (.mov (.c (I 0))), none⟩, {}⟩] none) ref01_Same_C22) ref01_Same_C4)
def ref01_Same_C12 : TC := (.seq (.seq (.rg [⟨⟨some 7, (.fadr 0 (.t 2)), none⟩, {}⟩, ⟨⟨some 8, (.load false 1 (.t 7)), none⟩, {}⟩, ⟨⟨some 9, (.len (.t 8)), none⟩, {}⟩, ⟨⟨some 10, (.fadr 0 (.t 3)), none⟩, {}⟩, ⟨⟨some 11, (.load false 1 (.t 10)), none⟩, {}⟩, ⟨⟨some 12, (.len (.t 11)), none⟩, {}⟩, ⟨⟨some 13, (.bin .neq (.t 9) (.t
  12)), none⟩, {}⟩, ⟨⟨some 14, (.mov (.t 13)), none⟩, {}⟩, ⟨⟨some 15, (.fadr 1 (.t 2)), some (14, false)⟩, {}⟩, ⟨⟨some 16, (.load false 1 (.t 15)), some (14, false)⟩, {}⟩, ⟨⟨some 17, (.len (.t 16)), some (14, false)⟩, {}⟩, ⟨⟨some 18, (.fadr 1 (.t 3)), some (14, false)⟩, {}⟩, ⟨⟨some 19, (.load false 1
  (.t 18)), some (14, false)⟩, {}⟩, ⟨⟨some 20, (.len (.t 19)), some (14, false)⟩, {}⟩, ⟨⟨some 21, (.bin .neq (.t 17) (.t 20)), some (14, false)⟩, {}⟩, ⟨⟨some 22, (.pick (.t 14) (.c (B true)) (.t 21)), none⟩, {}⟩] none) ref01_Same_C17) ref01_Same_C18)
def ref01_Same_C5 : TC := (.seq (.rg [⟨⟨some 2, (.box (.t 0)), none⟩, {}⟩, ⟨⟨some 3, (.box (.t 1)), none⟩, {}⟩, ⟨⟨some 4, (.mov (.c (B false))), none⟩, {}⟩] none) ref01_Same_C12)
def ref01_Same_E (N : Nat) : List (Nat × Ent) := []
def ref01_Same_L2 (N : Nat) (n : Nat) (x13 : Int) (x14 : List T_Place) (x15 : List T_Road) (x16 : List T_Place) (x17 : List T_Road) : Option Bool := loopN (normI 0 ref01_Same_N2) (run (ref01_Same_E N) N 0 ref01_Same_C1) n ⟨[(2, .ptr 0 0 0), (3, .ptr 1 0 0), (6, .int .i64 x13)], [some (.box 0 [.lst false G_Place x14, .lst false G_Road x15]), some (.box 0 [.lst false G_Place x16, .lst false G_Road x17])]⟩ (blkK 2 (seqK (run (ref01_Same_E N) N 0 ref01_Same_C2) (fin [(.t 4)] [.bool])))
def ref01_Same_L1 (N : Nat) (n : Nat) (x1 : Int) (x2 : List T_Place) (x3 : List T_Road) (x4 : List T_Place) (x5 : List T_Road) : Option Bool := loopN (normI 0 ref01_Same_N1) (run (ref01_Same_E N) N 0 ref01_Same_C3) n ⟨[(2, .ptr 0 0 0), (3, .ptr 1 0 0), (5, .int .i64 x1)], [some (.box 0 [.lst false G_Place x2, .lst false G_Road x3]), some (.box 0 [.lst false G_Place x4, .lst false G_Road x5])]⟩ (blkK 0 (seqK (run (ref01_Same_E N) N 0 ref01_Same_C4) (fin [(.t 4)] [.bool])))
theorem ref01_Same_L2_zero (N : Nat) (x13 : Int) (x14 : List T_Place) (x15 : List T_Road) (x16 : List T_Place) (x17 : List T_Road) : ref01_Same_L2 N 0 x13 x14 x15 x16 x17 = none := rfl
theorem ref01_Same_L2_succ (N : Nat) (n2 : Nat) (x13 : Int) (x14 : List T_Place) (x15 : List T_Road) (x16 : List T_Place) (x17 : List T_Road) : ref01_Same_L2 N (n2 + 1) x13 x14 x15 x16 x17 =
  bif (decide (x13 < (x15.length : Int))) then
    bif inB x13 x15.length then
    let v18 := x15.getD x13.toNat D_Road
    bif inB x13 x17.length then
    let v19 := x17.getD x13.toNat D_Road
    bif (!((v18.1 == v19.1) && ((v18.2.1 == v19.2.1) && ((v18.2.2.1 == v19.2.2.1) && ((v18.2.2.2.1 == v19.2.2.2.1) && ((v18.2.2.2.2.1 == v19.2.2.2.2.1) && ((v18.2.2.2.2.2.1 == v19.2.2.2.2.2.1) && ((v18.2.2.2.2.2.2.1.1 == v19.2.2.2.2.2.2.1.1) && ((v18.2.2.2.2.2.2.1.2 == v19.2.2.2.2.2.2.1.2) && ((v18.2.2.2.2.2.2.2.1 == v19.2.2.2.2.2.2.2.1) && (v18.2.2.2.2.2.2.2.2 == v19.2.2.2.2.2.2.2.2))))))))))) then
      some false
    else
      ref01_Same_L2 N n2 (W (x13 + 1)) x14 x15 x16 x17
    else none
    else none
  else
    some true := by kernel_rfl
theorem ref01_Same_L1_zero (N : Nat) (x1 : Int) (x2 : List T_Place) (x3 : List T_Road) (x4 : List T_Place) (x5 : List T_Road) : ref01_Same_L1 N 0 x1 x2 x3 x4 x5 = none := rfl
theorem ref01_Same_L1_succ (N : Nat) (n1 : Nat) (x1 : Int) (x2 : List T_Place) (x3 : List T_Road) (x4 : List T_Place) (x5 : List T_Road) : ref01_Same_L1 N (n1 + 1) x1 x2 x3 x4 x5 =
  bif (decide (x1 < (x2.length : Int))) then
    bif inB x1 x2.length then
    bif inB x1 x4.length then
    bif (!(((x2.getD x1.toNat D_Place).1 == (x4.getD x1.toNat D_Place).1) && ((x2.getD x1.toNat D_Place).2 == (x4.getD x1.toNat D_Place).2))) then
      some false
    else
      ref01_Same_L1 N n1 (W (x1 + 1)) x2 x3 x4 x5
    else none
    else none
  else
    ref01_Same_L2 N N 0 x2 x3 x4 x5 := by kernel_rfl
def ref01_Same (N : Nat) (a0 : T_Mine) (a1 : T_Mine) : Option Bool :=
  bif ((a0.1.length : Int) != (a1.1.length : Int)) then
    some false
  else
    bif ((a0.2.length : Int) != (a1.2.length : Int)) then
      some false
    else
      ref01_Same_L1 N N 0 a0.1 a0.2 a1.1 a1.2
theorem ref01_Same_fn : FnOK Try.prog 20 59 (fun _ : Nat => false) ref01_Same_C5.er [(.t 4)] := FnOK.mk' Try.func20 (by kernel_rfl) (by kernel_rfl) (by kernel_rfl) (by kernel_rfl) (by kernel_rfl)
theorem ref01_Same_envok (N : Nat) : EnvOK Try.prog (ref01_Same_E N) := .nil
theorem ref01_Same_pure (N : Nat) : PureOK Try.prog 20 [G_Mine, G_Mine] [.bool] (fun x => ref01_Same N x.1 x.2) := pureOK (N := N) mixed ref01_Same_fn (ref01_Same_envok N) (TC.noh_ok (by kernel_rfl)) rfl (fun x => by kernel_rfl)
/-! law01_PlanOrders -/
def law01_PlanOrders_C10 : TC := .ret
def law01_PlanOrders_C7 : TC := (.cond (.t 134) (.seq (.rg [⟨⟨some 135, (.call (.c (.fn 15 [])) []), none⟩, {}⟩, ⟨⟨some 6, (.mov (.t 135)), none⟩, {}⟩] none) law01_PlanOrders_C10) .skip)
def law01_PlanOrders_C16 : TC := .ret
def law01_PlanOrders_C13 : TC := (.seq (.rg [⟨⟨some 148, (.mov (.t 18)), none⟩, {}⟩, ⟨⟨some 149, (.bin .eql (.t 148) (.c (I 0))), none⟩, {}⟩, ⟨⟨some 150, (.mov (.t 149)), none⟩, {}⟩, ⟨⟨some 151, (.mov (.t 20)), some (150, true)⟩, {}⟩, ⟨⟨some 152, (.bin .eql (.t 151) (.c (I 0))), some (150, true)⟩, {}⟩, ⟨⟨some 153, (.pick (.t 150)
  (.t 152) (.c (B false))), none⟩, {}⟩, ⟨⟨some 154, (.mov (.t 153)), none⟩, {}⟩, ⟨⟨some 155, (.load true 2 (.t 17)), some (154, true)⟩, {}⟩, ⟨⟨some 156, (.load true 2 (.t 19)), some (154, true)⟩, {}⟩, ⟨⟨some 157, (.call (.c (.fn 20 [])) [(.t 155), (.t 156)]), some (154, true)⟩, {}⟩, ⟨⟨some 158,
  (.pick (.t 154) (.t 157) (.c (B false))), none⟩, {}⟩, ⟨⟨some 159, (.mov (.t 158)), none⟩, {}⟩, ⟨⟨some 160, (.call (.c (.fn 15 [])) []), some (159, true)⟩, {}⟩, ⟨⟨some 161, (.pick (.t 159) (.t 160) (.c (B false))), none⟩, {}⟩, ⟨⟨some 6, (.mov (.t 161)), none⟩, {}⟩] none) law01_PlanOrders_C16)
def law01_PlanOrders_C11 : TC := (.seq (.rg [⟨⟨some 143, (.load true 2 (.t 15)), none⟩, {}⟩, ⟨⟨some 144, (.load true 16 (.t 9)), none⟩, {}⟩, ⟨⟨some 145, (.call (.c (.fn 19 [])) [(.t 143), (.t 144)]), none⟩, {}⟩, ⟨⟨some 142, (.mov (.t 145)), none⟩, {}⟩, ⟨⟨some 146, (.extr 0 (.t 142)), none⟩, {}⟩, ⟨⟨some 147, (.extr 1 (.t 142)),
  none⟩, {}⟩, ⟨⟨some 19, (.alloc [(.lst true []), (.lst true [])]), none⟩, {}⟩, ⟨⟨none, (.store 2 (.t 19) (.t 146)), none⟩, {}⟩, ⟨⟨some 20, (.mov (.t 147)), none⟩, {}⟩] none) law01_PlanOrders_C13)
def law01_PlanOrders_C8 : TC := (.seq (.rg [⟨⟨some 137, (.load true 2 (.t 13)), none⟩, {}⟩, ⟨⟨some 138, (.load true 16 (.t 10)), none⟩, {}⟩, ⟨⟨some 139, (.call (.c (.fn 19 [])) [(.t 137), (.t 138)]), none⟩, {}⟩, ⟨⟨some 136, (.mov (.t 139)), none⟩, {}⟩, ⟨⟨some 140, (.extr 0 (.t 136)), none⟩, {}⟩, ⟨⟨some 141, (.extr 1 (.t 136)),
  none⟩, {}⟩, ⟨⟨some 17, (.alloc [(.lst true []), (.lst true [])]), none⟩, {}⟩, ⟨⟨none, (.store 2 (.t 17) (.t 140)), none⟩, {}⟩, ⟨⟨some 18, (.mov (.t 141)), none⟩, {}⟩] none) law01_PlanOrders_C11)
def law01_PlanOrders_C5 : TC := (.seq (.seq (.rg [⟨⟨some 129, (.mov (.t 14)), none⟩, {}⟩, ⟨⟨some 130, (.bin .neq (.t 129) (.c (I 0))), none⟩, {}⟩, ⟨⟨some 131, (.mov (.t 130)), none⟩, {}⟩, ⟨⟨some 132, (.mov (.t 16)), some (131, false)⟩, {}⟩, ⟨⟨some 133, (.bin .neq (.t 132) (.c (I 0))), some (131, false)⟩, {}⟩, ⟨⟨some 134, (.pick (.t
  131) (.c (B true)) (.t 133)), none⟩, {}⟩] none) law01_PlanOrders_C7) law01_PlanOrders_C8)
def law01_PlanOrders_C3 : TC := (.seq (.rg [⟨⟨some 124, (.load true 2 (.t 8)), none⟩, {}⟩, ⟨⟨some 125, (.load true 16 (.t 10)), none⟩, {}⟩, ⟨⟨some 126, (.call (.c (.fn 19 [])) [(.t 124), (.t 125)]), none⟩, {}⟩, ⟨⟨some 123, (.mov (.t 126)), none⟩, {}⟩, ⟨⟨some 127, (.extr 0 (.t 123)), none⟩, {}⟩, ⟨⟨some 128, (.extr 1 (.t 123)),
  none⟩, {}⟩, ⟨⟨some 15, (.alloc [(.lst true []), (.lst true [])]), none⟩, {}⟩, ⟨⟨none, (.store 2 (.t 15) (.t 127)), none⟩, {}⟩, ⟨⟨some 16, (.mov (.t 128)), none⟩, {}⟩] none) law01_PlanOrders_C5)
def law01_PlanOrders_C1 : TC := (.seq (.rg [⟨⟨some 118, (.load true 2 (.t 8)), none⟩, {}⟩, ⟨⟨some 119, (.load true 16 (.t 9)), none⟩, {}⟩, ⟨⟨some 120, (.call (.c (.fn 19 [])) [(.t 118), (.t 119)]), none⟩, {}⟩, ⟨⟨some 117, (.mov (.t 120)), none⟩, {}⟩, ⟨⟨some 121, (.extr 0 (.t 117)), none⟩, {}⟩, ⟨⟨some 122, (.extr 1 (.t 117)), none⟩,
  {}⟩, ⟨⟨some 13, (.alloc [(.lst true []), (.lst true [])]), none⟩, {}⟩, ⟨⟨none, (.store 2 (.t 13) (.t 121)), none⟩, {}⟩, ⟨⟨some 14, (.mov (.t 122)), none⟩, {}⟩] none) law01_PlanOrders_C3)
def law01_PlanOrders_C21 : TC := .ret
def law01_PlanOrders_C19 : TC := (.cond (.t 66) (.seq (.rg [⟨⟨some 67, (.mov (.t 12)), none⟩, {}⟩, ⟨⟨some 68, (.bin .eql (.t 67) (.c (I 4))), none⟩, {}⟩, ⟨⟨some 69, (.mov (.t 68)), none⟩, {}⟩, ⟨⟨some 70, (.fadr 3 (.t 9)), some (69, true)⟩, {}⟩, ⟨⟨some 71, (.fadr 0 (.t 70)), some (69, true)⟩, {}⟩, ⟨⟨some 72, (.load false 1 (.t 71)),
  some (69, true)⟩, {}⟩, ⟨⟨some 73, (.fadr 3 (.t 9)), some (69, true)⟩, {}⟩, ⟨⟨some 74, (.fadr 1 (.t 73)), some (69, true)⟩, {}⟩, ⟨⟨some 75, (.load false 1 (.t 74)), some (69, true)⟩, {}⟩, ⟨⟨some 76, (.bin .eql (.t 72) (.t 75)), some (69, true)⟩, {}⟩, ⟨⟨some 77, (.pick (.t 69) (.t 76) (.c (B
  false))), none⟩, {}⟩, ⟨⟨some 78, (.mov (.t 77)), none⟩, {}⟩, ⟨⟨some 79, (.call (.c (.fn 15 [])) []), some (78, true)⟩, {}⟩, ⟨⟨some 80, (.pick (.t 78) (.t 79) (.c (B false))), none⟩, {}⟩, ⟨⟨some 6, (.mov (.t 80)), none⟩, {}⟩] none) law01_PlanOrders_C21) .skip)
def law01_PlanOrders_C22 : TC := .ret
def law01_PlanOrders_C20 : TC := (.seq (.rg [⟨⟨some 81, (.fadr 1 (.t 11)), none⟩, {}⟩, ⟨⟨some 82, (.load false 1 (.t 81)), none⟩, {}⟩, ⟨⟨some 83, (.len (.t 82)), none⟩, {}⟩, ⟨⟨some 84, (.fadr 1 (.t 8)), none⟩, {}⟩, ⟨⟨some 85, (.load false 1 (.t 84)), none⟩, {}⟩, ⟨⟨some 86, (.len (.t 85)), none⟩, {}⟩, ⟨⟨some 87, (.bin .add (.t 86)
  (.c (I 1))), none⟩, {}⟩, ⟨⟨some 88, (.bin .eql (.t 83) (.t 87)), none⟩, {}⟩, ⟨⟨some 89, (.mov (.t 88)), none⟩, {}⟩, ⟨⟨some 90, (.fadr 0 (.t 11)), some (89, true)⟩, {}⟩, ⟨⟨some 91, (.load false 1 (.t 90)), some (89, true)⟩, {}⟩, ⟨⟨some 92, (.fadr 1 (.t 11)), some (89, true)⟩, {}⟩, ⟨⟨some 93, (.load
  false 1 (.t 92)), some (89, true)⟩, {}⟩, ⟨⟨some 94, (.fadr 1 (.t 8)), some (89, true)⟩, {}⟩, ⟨⟨some 95, (.load false 1 (.t 94)), some (89, true)⟩, {}⟩, ⟨⟨some 96, (.len (.t 95)), some (89, true)⟩, {}⟩, ⟨⟨some 97, (.slc 10 (.t 93) none (some (.t 96))), some (89, true)⟩, {}⟩, ⟨⟨some 98, (.build
  [(.lst true []), (.lst true [])] [(0, (1, (.t 91))), (1, (1, (.t 97)))]), some (89, true)⟩, {}⟩, ⟨⟨some 99, (.load true 2 (.t 8)), some (89, true)⟩, {}⟩, ⟨⟨some 100, (.call (.c (.fn 20 [])) [(.t 98), (.t 99)]), some (89, true)⟩, {}⟩, ⟨⟨some 101, (.pick (.t 89) (.t 100) (.c (B false))), none⟩, {}⟩,
  ⟨⟨some 102, (.mov (.t 101)), none⟩, {}⟩, ⟨⟨some 103, (.fadr 1 (.t 11)), some (102, true)⟩, {}⟩, ⟨⟨some 104, (.load false 1 (.t 103)), some (102, true)⟩, {}⟩, ⟨⟨some 105, (.fadr 1 (.t 8)), some (102, true)⟩, {}⟩, ⟨⟨some 106, (.load false 1 (.t 105)), some (102, true)⟩, {}⟩, ⟨⟨some 107, (.len (.t
  106)), some (102, true)⟩, {}⟩, ⟨⟨some 108, (.iadrS 10 (.t 104) (.t 107)), some (102, true)⟩, {}⟩, ⟨⟨some 109, (.load true 10 (.t 108)), some (102, true)⟩, {}⟩, ⟨⟨some 110, (.fadr 3 (.t 9)), some (102, true)⟩, {}⟩, ⟨⟨some 111, (.load true 10 (.t 110)), some (102, true)⟩, {}⟩, ⟨⟨some 112, (.eqa false
  [(0, 1), (1, 1), (2, 1), (3, 1), (4, 0), (5, 0), (6, 1), (7, 1), (8, 1), (9, 1)] (.t 109) (.t 111)), some (102, true)⟩, {}⟩, ⟨⟨some 113, (.pick (.t 102) (.t 112) (.c (B false))), none⟩, {}⟩, ⟨⟨some 114, (.mov (.t 113)), none⟩, {}⟩, ⟨⟨some 115, (.call (.c (.fn 15 [])) []), some (114, true)⟩, {}⟩,
  ⟨⟨some 116, (.pick (.t 114) (.t 115) (.c (B false))), none⟩, {}⟩, ⟨⟨some 6, (.mov (.t 116)), none⟩, {}⟩] (some [])) law01_PlanOrders_C22)
def law01_PlanOrders_C18 : TC := (.seq (.seq (.rg [⟨⟨some 65, (.mov (.t 12)), none⟩, {}⟩, ⟨⟨some 66, (.bin .neq (.t 65) (.c (I 0))), none⟩, {}⟩] none) law01_PlanOrders_C19) law01_PlanOrders_C20)
def law01_PlanOrders_C17 : TC := (.seq (.rg [⟨⟨some 60, (.load true 2 (.t 8)), none⟩, {}⟩, ⟨⟨some 61, (.load true 16 (.t 9)), none⟩, {}⟩, ⟨⟨some 62, (.call (.c (.fn 19 [])) [(.t 60), (.t 61)]), none⟩, {}⟩, ⟨⟨some 59, (.mov (.t 62)), none⟩, {}⟩, ⟨⟨some 63, (.extr 0 (.t 59)), none⟩, {}⟩, ⟨⟨some 64, (.extr 1 (.t 59)), none⟩, {}⟩,
  ⟨⟨some 11, (.alloc [(.lst true []), (.lst true [])]), none⟩, {}⟩, ⟨⟨none, (.store 2 (.t 11) (.t 63)), none⟩, {}⟩, ⟨⟨some 12, (.mov (.t 64)), none⟩, {}⟩] none) law01_PlanOrders_C18)
def law01_PlanOrders_C14 : TC := (.cond (.t 45) (.seq (.rg [⟨⟨some 46, (.mov (.t 7)), none⟩, {}⟩, ⟨⟨some 47, (.mov (.t 1)), none⟩, {}⟩, ⟨⟨some 48, (.fadr 0 (.t 8)), none⟩, {}⟩, ⟨⟨some 49, (.load false 1 (.t 48)), none⟩, {}⟩, ⟨⟨some 50, (.len (.t 49)), none⟩, {}⟩, ⟨⟨some 51, (.call (.c (.fn 18 [])) [(.t 47), (.t 50)]), none⟩, {}⟩,
  ⟨⟨some 52, (.mov (.t 2)), none⟩, {}⟩, ⟨⟨some 53, (.fadr 0 (.t 8)), none⟩, {}⟩, ⟨⟨some 54, (.load false 1 (.t 53)), none⟩, {}⟩, ⟨⟨some 55, (.len (.t 54)), none⟩, {}⟩, ⟨⟨some 56, (.call (.c (.fn 18 [])) [(.t 52), (.t 55)]), none⟩, {}⟩, ⟨⟨some 57, (.call (.c (.fn 17 [])) [(.t 46), (.t 51), (.t 56)]),
  none⟩, {}⟩, ⟨⟨some 58, (.build [(I 0), (I 0), (B false), (I 0), (I 0), (I 0), (I 0), (B false), (B false), (I 0), (I 0), (I 0), (I 0), (I 0), (I 0), (I 0)] [(0, (1, (.c (I 2)))), (3, (10, (.t 57)))]), none⟩, {}⟩, ⟨⟨none, (.store 16 (.t 9) (.t 58)), none⟩, {}⟩] (some [(5, 7), (5, 8), (5, 9)]))
  law01_PlanOrders_C17) .skip)
def law01_PlanOrders_C15 : TC := (.join [.keep [8, 9, 10], .cmp] law01_PlanOrders_C1)
def law01_PlanOrders_C12 : TC := (.seq (.seq (.rg [⟨⟨some 31, (.fadr 0 (.t 9)), none⟩, {}⟩, ⟨⟨some 32, (.load false 1 (.t 31)), none⟩, {}⟩, ⟨⟨some 33, (.bin .lss (.t 32) (.c (I 3))), none⟩, {}⟩, ⟨⟨some 34, (.mov (.t 33)), none⟩, {}⟩, ⟨⟨some 35, (.fadr 0 (.t 10)), some (34, false)⟩, {}⟩, ⟨⟨some 36, (.load false 1 (.t 35)), some (34,
  false)⟩, {}⟩, ⟨⟨some 37, (.bin .lss (.t 36) (.c (I 3))), some (34, false)⟩, {}⟩, ⟨⟨some 38, (.pick (.t 34) (.c (B true)) (.t 37)), none⟩, {}⟩, ⟨⟨some 39, (.mov (.t 38)), none⟩, {}⟩, ⟨⟨some 40, (.fadr 13 (.t 9)), some (39, false)⟩, {}⟩, ⟨⟨some 41, (.load false 1 (.t 40)), some (39, false)⟩, {}⟩,
  ⟨⟨some 42, (.fadr 13 (.t 10)), some (39, false)⟩, {}⟩, ⟨⟨some 43, (.load false 1 (.t 42)), some (39, false)⟩, {}⟩, ⟨⟨some 44, (.bin .eql (.t 41) (.t 43)), some (39, false)⟩, {}⟩, ⟨⟨some 45, (.pick (.t 39) (.c (B true)) (.t 44)), none⟩, {}⟩] none) law01_PlanOrders_C14) law01_PlanOrders_C15)
def law01_PlanOrders_C9 : TC := (.seq (.pre [.wait, .wait] (.rg [⟨⟨some 25, (.mov (.t 7)), none⟩, {}⟩, ⟨⟨some 26, (.load true 2 (.t 8)), none⟩, {}⟩, ⟨⟨some 27, (.call (.c (.fn 16 [])) [(.t 25), (.t 26)]), none⟩, {}⟩, ⟨⟨some 28, (.mov (.t 7)), none⟩, {}⟩, ⟨⟨some 29, (.load true 2 (.t 8)), none⟩, {}⟩, ⟨⟨some 30, (.call (.c (.fn 16
  [])) [(.t 28), (.t 29)]), none⟩, {}⟩, ⟨⟨some 9, (.alloc [(I 0), (I 0), (B false), (I 0), (I 0), (I 0), (I 0), (B false), (B false), (I 0), (I 0), (I 0), (I 0), (I 0), (I 0), (I 0)]), none⟩, ⟨.unit, some 2⟩⟩, ⟨⟨some 10, (.alloc [(I 0), (I 0), (B false), (I 0), (I 0), (I 0), (I 0), (B false), (B
  false), (I 0), (I 0), (I 0), (I 0), (I 0), (I 0), (I 0)]), none⟩, ⟨.unit, some 3⟩⟩, ⟨⟨none, (.store 16 (.t 9) (.t 27)), none⟩, {}⟩, ⟨⟨none, (.store 16 (.t 10) (.t 30)), none⟩, {}⟩] (some [(2, 4), (1, 6), (2, 6), (4, 6), (5, 6), (1, 7), (2, 7), (4, 7), (5, 7), (6, 7)]))) law01_PlanOrders_C12)
def law01_PlanOrders_C6 : TC := (.seq (.rg [⟨⟨some 23, (.mov (.t 7)), none⟩, {}⟩, ⟨⟨some 24, (.call (.c (.fn 11 [])) [(.t 23)]), none⟩, {}⟩, ⟨⟨some 8, (.alloc [(.lst true []), (.lst true [])]), none⟩, {}⟩, ⟨⟨none, (.store 2 (.t 8) (.t 24)), none⟩, {}⟩] none) law01_PlanOrders_C9)
def law01_PlanOrders_C4 : TC := (.seq (.rg [⟨⟨some 21, (.mov (.t 0)), none⟩, {}⟩, ⟨⟨some 22, (.call (.c (.fn 10 [])) [(.t 21)]), none⟩, {}⟩, ⟨⟨some 7, (.mov (.t 22)), none⟩, {}⟩] none) law01_PlanOrders_C6)
def law01_PlanOrders_C2 : TC := (.seq (.rg [⟨⟨some 6, (.mov (.c (B false))), none⟩, {}⟩] none) law01_PlanOrders_C4)
def law01_PlanOrders_E (N : Nat) : List (Nat × Ent) := [(10, sfE [none] [.v (.list (.int .u8))] [.n G_Codes] (fun x => draw_New N x)), (11, sfE [none] [.b (.v G_Codes)] [.v G_Mine] (fun x => draw_Codes_Mine N x)), (16, sfE [none, none] [.b (.v G_Codes), .v G_Mine] [.v G_Edit] (fun x => draw_Codes_Edit N x.1 x.2)), (18, pureE [(.int .i64), (.int .i64)] [(.int .i64)] (fun x => draw_Mod N x.1 x.2)), (17, sfE [none, none, none] [.b (.v G_Codes), .v (.int .i64), .v (.int .i64)] [.v G_Road] (fun x => draw_Codes_Road N x.1 x.2.1 x.2.2)), (19, pureE [G_Mine, G_Edit] [G_Mine, (.int .i64)] (fun x => plan_Apply N x.1 x.2)), (15, pureE [] [.bool] (fun x => law01_awake N)), (20, pureE [G_Mine, G_Mine] [.bool] (fun x => ref01_Same N x.1 x.2))]
def law01_PlanOrders_J1 (N : Nat) (x35 : List T_Place) (x36 : List T_Road) (x37 : Int) (x38 : Int) (x39 : Bool) (x40 : Int) (x41 : Int) (x42 : Int) (x43 : Int) (x44 : Bool) (x45 : Bool) (x46 : Int) (x47 : Int) (x48 : Int) (x49 : Int) (x50 : Int) (x51 : Int) (x52 : Int) (x53 : Int) (x54 : Int) (x55 : Bool) (x56 : Int) (x57 : Int) (x58 : Int) (x59 : Int) (x60 : Bool) (x61 : Bool) (x62 : Int) (x63 : Int) (x64 : Int) (x65 : Int) (x66 : Int) (x67 : Int) (x68 : Int) : Option Bool := joinN (run (law01_PlanOrders_E N) N 0 law01_PlanOrders_C1) N ⟨[(8, .ptr 0 0 0), (9, .ptr 1 0 0), (10, .ptr 2 0 0)], [some (.box 0 [.lst false G_Place x35, .lst false G_Road x36]), some (.box 1 [.int .i64 x37, .int .i64 x38, .bool x39, .int .i64 x40, .int .i64 x41, .int .i64 x42, .int .i64 x43, .bool x44, .bool x45, .int .i64 x46, .int .i64 x47, .int .i64 x48, .int .i64 x49, .int .i64 x50, .int .i64 x51, .int .i64 x52]), some (.box 1 [.int .i64 x53, .int .i64 x54, .bool x55, .int .i64 x56, .int .i64 x57, .int .i64 x58, .int .i64 x59, .bool x60, .bool x61, .int .i64 x62, .int .i64 x63, .int .i64 x64, .int .i64 x65, .int .i64 x66, .int .i64 x67, .int .i64 x68])]⟩ (fin [(.t 6)] [.bool])
theorem law01_PlanOrders_J1_eqM (N JM : Nat) (x35 : List T_Place) (x36 : List T_Road) (x37 : Int) (x38 : Int) (x39 : Bool) (x40 : Int) (x41 : Int) (x42 : Int) (x43 : Int) (x44 : Bool) (x45 : Bool) (x46 : Int) (x47 : Int) (x48 : Int) (x49 : Int) (x50 : Int) (x51 : Int) (x52 : Int) (x53 : Int) (x54 : Int) (x55 : Bool) (x56 : Int) (x57 : Int) (x58 : Int) (x59 : Int) (x60 : Bool) (x61 : Bool) (x62 : Int) (x63 : Int) (x64 : Int) (x65 : Int) (x66 : Int) (x67 : Int) (x68 : Int) : joinN (run (law01_PlanOrders_E N) N 0 law01_PlanOrders_C1) (JM + 1) ⟨[(8, .ptr 0 0 0), (9, .ptr 1 0 0), (10, .ptr 2 0 0)], [some (.box 0 [.lst false G_Place x35, .lst false G_Road x36]), some (.box 1 [.int .i64 x37, .int .i64 x38, .bool x39, .int .i64 x40, .int .i64 x41, .int .i64 x42, .int .i64 x43, .bool x44, .bool x45, .int .i64 x46, .int .i64 x47, .int .i64 x48, .int .i64 x49, .int .i64 x50, .int .i64 x51, .int .i64 x52]), some (.box 1 [.int .i64 x53, .int .i64 x54, .bool x55, .int .i64 x56, .int .i64 x57, .int .i64 x58, .int .i64 x59, .bool x60, .bool x61, .int .i64 x62, .int .i64 x63, .int .i64 x64, .int .i64 x65, .int .i64 x66, .int .i64 x67, .int .i64 x68])]⟩ (fin [(.t 6)] [.bool]) =
  Option.bind (plan_Apply N (x35, x36) (x37, ((x38, x39), ((x40, (x41, (x42, (x43, (x44, (x45, ((x46, x47), (x48, x49)))))))), (x50, (x51, x52)))))) fun r69 =>
  Option.bind (plan_Apply N (x35, x36) (x53, ((x54, x55), ((x56, (x57, (x58, (x59, (x60, (x61, ((x62, x63), (x64, x65)))))))), (x66, (x67, x68)))))) fun r70 =>
  bif (r69.2 != 0) then
    Option.bind (law01_awake N) fun r71 =>
    some r71
  else
    bif (r70.2 != 0) then
      Option.bind (law01_awake N) fun r72 =>
      some r72
    else
      Option.bind (plan_Apply N r69.1 (x53, ((x54, x55), ((x56, (x57, (x58, (x59, (x60, (x61, ((x62, x63), (x64, x65)))))))), (x66, (x67, x68)))))) fun r73 =>
      Option.bind (plan_Apply N r70.1 (x37, ((x38, x39), ((x40, (x41, (x42, (x43, (x44, (x45, ((x46, x47), (x48, x49)))))))), (x50, (x51, x52)))))) fun r74 =>
      bif (r73.2 == 0) then
        bif (r74.2 == 0) then
          Option.bind (ref01_Same N r73.1 r74.1) fun r75 =>
          bif r75 then
            Option.bind (law01_awake N) fun r76 =>
            some r76
          else
            some false
        else
          some false
      else
        some false := by kernel_rfl
theorem law01_PlanOrders_J1_eq (N : Nat) (x35 : List T_Place) (x36 : List T_Road) (x37 : Int) (x38 : Int) (x39 : Bool) (x40 : Int) (x41 : Int) (x42 : Int) (x43 : Int) (x44 : Bool) (x45 : Bool) (x46 : Int) (x47 : Int) (x48 : Int) (x49 : Int) (x50 : Int) (x51 : Int) (x52 : Int) (x53 : Int) (x54 : Int) (x55 : Bool) (x56 : Int) (x57 : Int) (x58 : Int) (x59 : Int) (x60 : Bool) (x61 : Bool) (x62 : Int) (x63 : Int) (x64 : Int) (x65 : Int) (x66 : Int) (x67 : Int) (x68 : Int) : law01_PlanOrders_J1 (N + 1) x35 x36 x37 x38 x39 x40 x41 x42 x43 x44 x45 x46 x47 x48 x49 x50 x51 x52 x53 x54 x55 x56 x57 x58 x59 x60 x61 x62 x63 x64 x65 x66 x67 x68 =
  Option.bind (plan_Apply (N + 1) (x35, x36) (x37, ((x38, x39), ((x40, (x41, (x42, (x43, (x44, (x45, ((x46, x47), (x48, x49)))))))), (x50, (x51, x52)))))) fun r69 =>
  Option.bind (plan_Apply (N + 1) (x35, x36) (x53, ((x54, x55), ((x56, (x57, (x58, (x59, (x60, (x61, ((x62, x63), (x64, x65)))))))), (x66, (x67, x68)))))) fun r70 =>
  bif (r69.2 != 0) then
    Option.bind (law01_awake (N + 1)) fun r71 =>
    some r71
  else
    bif (r70.2 != 0) then
      Option.bind (law01_awake (N + 1)) fun r72 =>
      some r72
    else
      Option.bind (plan_Apply (N + 1) r69.1 (x53, ((x54, x55), ((x56, (x57, (x58, (x59, (x60, (x61, ((x62, x63), (x64, x65)))))))), (x66, (x67, x68)))))) fun r73 =>
      Option.bind (plan_Apply (N + 1) r70.1 (x37, ((x38, x39), ((x40, (x41, (x42, (x43, (x44, (x45, ((x46, x47), (x48, x49)))))))), (x50, (x51, x52)))))) fun r74 =>
      bif (r73.2 == 0) then
        bif (r74.2 == 0) then
          Option.bind (ref01_Same (N + 1) r73.1 r74.1) fun r75 =>
          bif r75 then
            Option.bind (law01_awake (N + 1)) fun r76 =>
            some r76
          else
            some false
        else
          some false
      else
        some false := law01_PlanOrders_J1_eqM (N + 1) N x35 x36 x37 x38 x39 x40 x41 x42 x43 x44 x45 x46 x47 x48 x49 x50 x51 x52 x53 x54 x55 x56 x57 x58 x59 x60 x61 x62 x63 x64 x65 x66 x67 x68
def law01_PlanOrders (N : Nat) (a0 : List Int) (a1 : Int) (a2 : Int) : Option Bool :=
  Option.bind (draw_New N a0) fun r1 =>
  Option.bind (draw_Codes_Mine N r1.1) fun r2 =>
  Option.bind (draw_Codes_Edit N r2.2 r2.1) fun r3 =>
  Option.bind (draw_Codes_Edit N r3.2 r2.1) fun r4 =>
  bif (decide (r3.1.1 < 3)) then
    Option.bind (draw_Mod N a1 (r2.1.1.length : Int)) fun r5 =>
    Option.bind (draw_Mod N a2 (r2.1.1.length : Int)) fun r6 =>
    Option.bind (draw_Codes_Road N r4.2 r5 r6) fun r7 =>
    Option.bind (plan_Apply N r2.1 (2, ((0, false), (r7.1, (0, (0, 0)))))) fun r8 =>
    bif (r8.2 != 0) then
      bif (r8.2 == 4) then
        bif (r7.1.1 == r7.1.2.1) then
          Option.bind (law01_awake N) fun r9 =>
          some r9
        else
          some false
      else
        some false
    else
      bif ((r8.1.2.length : Int) == (W ((r2.1.2.length : Int) + 1))) then
        bif slB 0 (r2.1.2.length : Int) r8.1.2.length then
        Option.bind (ref01_Same N (r8.1.1, (r8.1.2.take (r2.1.2.length : Int).toNat)) r2.1) fun r12 =>
        bif r12 then
          bif inB (r2.1.2.length : Int) r8.1.2.length then
          let v13 := r8.1.2.getD (r2.1.2.length : Int).toNat D_Road
          bif ((v13.1 == r7.1.1) && ((v13.2.1 == r7.1.2.1) && ((v13.2.2.1 == r7.1.2.2.1) && ((v13.2.2.2.1 == r7.1.2.2.2.1) && ((v13.2.2.2.2.1 == r7.1.2.2.2.2.1) && ((v13.2.2.2.2.2.1 == r7.1.2.2.2.2.2.1) && ((v13.2.2.2.2.2.2.1.1 == r7.1.2.2.2.2.2.2.1.1) && ((v13.2.2.2.2.2.2.1.2 == r7.1.2.2.2.2.2.2.1.2) && ((v13.2.2.2.2.2.2.2.1 == r7.1.2.2.2.2.2.2.2.1) && (v13.2.2.2.2.2.2.2.2 == r7.1.2.2.2.2.2.2.2.2)))))))))) then
            Option.bind (law01_awake N) fun r14 =>
            some r14
          else
            some false
          else none
        else
          some false
        else none
      else
        some false
  else
    bif (decide (r4.1.1 < 3)) then
      Option.bind (draw_Mod N a1 (r2.1.1.length : Int)) fun r15 =>
      Option.bind (draw_Mod N a2 (r2.1.1.length : Int)) fun r16 =>
      Option.bind (draw_Codes_Road N r4.2 r15 r16) fun r17 =>
      Option.bind (plan_Apply N r2.1 (2, ((0, false), (r17.1, (0, (0, 0)))))) fun r18 =>
      bif (r18.2 != 0) then
        bif (r18.2 == 4) then
          bif (r17.1.1 == r17.1.2.1) then
            Option.bind (law01_awake N) fun r19 =>
            some r19
          else
            some false
        else
          some false
      else
        bif ((r18.1.2.length : Int) == (W ((r2.1.2.length : Int) + 1))) then
          bif slB 0 (r2.1.2.length : Int) r18.1.2.length then
          Option.bind (ref01_Same N (r18.1.1, (r18.1.2.take (r2.1.2.length : Int).toNat)) r2.1) fun r22 =>
          bif r22 then
            bif inB (r2.1.2.length : Int) r18.1.2.length then
            let v23 := r18.1.2.getD (r2.1.2.length : Int).toNat D_Road
            bif ((v23.1 == r17.1.1) && ((v23.2.1 == r17.1.2.1) && ((v23.2.2.1 == r17.1.2.2.1) && ((v23.2.2.2.1 == r17.1.2.2.2.1) && ((v23.2.2.2.2.1 == r17.1.2.2.2.2.1) && ((v23.2.2.2.2.2.1 == r17.1.2.2.2.2.2.1) && ((v23.2.2.2.2.2.2.1.1 == r17.1.2.2.2.2.2.2.1.1) && ((v23.2.2.2.2.2.2.1.2 == r17.1.2.2.2.2.2.2.1.2) && ((v23.2.2.2.2.2.2.2.1 == r17.1.2.2.2.2.2.2.2.1) && (v23.2.2.2.2.2.2.2.2 == r17.1.2.2.2.2.2.2.2.2)))))))))) then
              Option.bind (law01_awake N) fun r24 =>
              some r24
            else
              some false
            else none
          else
            some false
          else none
        else
          some false
    else
      bif (r3.1.2.2.2.1 == r4.1.2.2.2.1) then
        Option.bind (draw_Mod N a1 (r2.1.1.length : Int)) fun r25 =>
        Option.bind (draw_Mod N a2 (r2.1.1.length : Int)) fun r26 =>
        Option.bind (draw_Codes_Road N r4.2 r25 r26) fun r27 =>
        Option.bind (plan_Apply N r2.1 (2, ((0, false), (r27.1, (0, (0, 0)))))) fun r28 =>
        bif (r28.2 != 0) then
          bif (r28.2 == 4) then
            bif (r27.1.1 == r27.1.2.1) then
              Option.bind (law01_awake N) fun r29 =>
              some r29
            else
              some false
          else
            some false
        else
          bif ((r28.1.2.length : Int) == (W ((r2.1.2.length : Int) + 1))) then
            bif slB 0 (r2.1.2.length : Int) r28.1.2.length then
            Option.bind (ref01_Same N (r28.1.1, (r28.1.2.take (r2.1.2.length : Int).toNat)) r2.1) fun r32 =>
            bif r32 then
              bif inB (r2.1.2.length : Int) r28.1.2.length then
              let v33 := r28.1.2.getD (r2.1.2.length : Int).toNat D_Road
              bif ((v33.1 == r27.1.1) && ((v33.2.1 == r27.1.2.1) && ((v33.2.2.1 == r27.1.2.2.1) && ((v33.2.2.2.1 == r27.1.2.2.2.1) && ((v33.2.2.2.2.1 == r27.1.2.2.2.2.1) && ((v33.2.2.2.2.2.1 == r27.1.2.2.2.2.2.1) && ((v33.2.2.2.2.2.2.1.1 == r27.1.2.2.2.2.2.2.1.1) && ((v33.2.2.2.2.2.2.1.2 == r27.1.2.2.2.2.2.2.1.2) && ((v33.2.2.2.2.2.2.2.1 == r27.1.2.2.2.2.2.2.2.1) && (v33.2.2.2.2.2.2.2.2 == r27.1.2.2.2.2.2.2.2.2)))))))))) then
                Option.bind (law01_awake N) fun r34 =>
                some r34
              else
                some false
              else none
            else
              some false
            else none
          else
            some false
      else
        law01_PlanOrders_J1 N r2.1.1 r2.1.2 r3.1.1 r3.1.2.1.1 r3.1.2.1.2 r3.1.2.2.1.1 r3.1.2.2.1.2.1 r3.1.2.2.1.2.2.1 r3.1.2.2.1.2.2.2.1 r3.1.2.2.1.2.2.2.2.1 r3.1.2.2.1.2.2.2.2.2.1 r3.1.2.2.1.2.2.2.2.2.2.1.1 r3.1.2.2.1.2.2.2.2.2.2.1.2 r3.1.2.2.1.2.2.2.2.2.2.2.1 r3.1.2.2.1.2.2.2.2.2.2.2.2 r3.1.2.2.2.1 r3.1.2.2.2.2.1 r3.1.2.2.2.2.2 r4.1.1 r4.1.2.1.1 r4.1.2.1.2 r4.1.2.2.1.1 r4.1.2.2.1.2.1 r4.1.2.2.1.2.2.1 r4.1.2.2.1.2.2.2.1 r4.1.2.2.1.2.2.2.2.1 r4.1.2.2.1.2.2.2.2.2.1 r4.1.2.2.1.2.2.2.2.2.2.1.1 r4.1.2.2.1.2.2.2.2.2.2.1.2 r4.1.2.2.1.2.2.2.2.2.2.2.1 r4.1.2.2.1.2.2.2.2.2.2.2.2 r4.1.2.2.2.1 r4.1.2.2.2.2.1 r4.1.2.2.2.2.2
theorem law01_PlanOrders_fn : FnOK Try.prog 4 162 (fun _ : Nat => false) law01_PlanOrders_C2.er [(.t 6)] := FnOK.mk' Try.func4 (by kernel_rfl) (by kernel_rfl) (by kernel_rfl) (by kernel_rfl) (by kernel_rfl)
theorem law01_PlanOrders_envok (N : Nat) : EnvOK Try.prog (law01_PlanOrders_E N) := .cons (sfE_ok (draw_New_sf N)) (.cons (sfE_ok (draw_Codes_Mine_sf N)) (.cons (sfE_ok (draw_Codes_Edit_sf N)) (.cons (pureE_ok (draw_Mod_pure N)) (.cons (sfE_ok (draw_Codes_Road_sf N)) (.cons (pureE_ok (plan_Apply_pure N)) (.cons (pureE_ok (law01_awake_pure N)) (.cons (pureE_ok (ref01_Same_pure N)) (.nil))))))))
theorem law01_PlanOrders_pure (N : Nat) : PureOK Try.prog 4 [(.list (.int .u8)), (.int .i64), (.int .i64)] [.bool] (fun x => law01_PlanOrders N x.1 x.2.1 x.2.2) := pureOK (N := N) mixed law01_PlanOrders_fn (law01_PlanOrders_envok N) (TC.noh_ok (by kernel_rfl)) rfl (fun x => by kernel_rfl)
/-! draw_Codes_Edits -/
def draw_Codes_Edits_NE : List NS := [.own 4 G_Edit, .frzo 0, .keep [4], .out [0]]
def draw_Codes_Edits_N1 : List NS := [.own 5 G_Edit, .keep [0, 5, 6, 7], .cmp]
def draw_Codes_Edits_C4 : TC := (.cond (.t 15) .skip (.exit 0))
def draw_Codes_Edits_C8 : TC := (.rg [⟨⟨some 16, (.mov (.t 7)), none⟩, {}⟩, ⟨⟨some 17, (.bin .sub (.t 16) (.c (I 1))), none⟩, {}⟩, ⟨⟨some 7, (.mov (.t 17)), none⟩, {}⟩] none)
def draw_Codes_Edits_C5 : TC := (.seq (.block 1 (.rg [⟨⟨some 18, (.mov (.t 5)), none⟩, {}⟩, ⟨⟨some 19, (.mov (.t 0)), none⟩, {}⟩, ⟨⟨some 20, (.load true 2 (.t 6)), none⟩, {}⟩, ⟨⟨some 21, (.call (.c (.fn 16 [])) [(.t 19), (.t 20)]), none⟩, {}⟩, ⟨⟨some 22, (.bslice false 16 [(I 0), (I 0), (B false), (I 0), (I 0), (I 0), (I 0), (B
  false), (B false), (I 0), (I 0), (I 0), (I 0), (I 0), (I 0), (I 0)] 1 [(0, (.t 21))]), none⟩, ⟨G_Edit, none⟩⟩, ⟨⟨some 23, (.app 16 120 (.t 18) (.t 22)), none⟩, {}⟩, ⟨⟨some 5, (.mov (.t 23)), none⟩, {}⟩] none)) draw_Codes_Edits_C8)
def draw_Codes_Edits_C1 : TC := (.seq (.seq (.rg [⟨⟨some 14, (.mov (.t 7)), none⟩, {}⟩, ⟨⟨some 15, (.bin .gtr (.t 14) (.c (I 0))), none⟩, {}⟩] none) draw_Codes_Edits_C4) draw_Codes_Edits_C5)
def draw_Codes_Edits_C9 : TC := .ret
def draw_Codes_Edits_C6 : TC := (.pre [.own 4 G_Edit, .frzo 0, .keep [4], .out [0]] draw_Codes_Edits_C9)
def draw_Codes_Edits_C2 : TC := (.seq (.rg [⟨⟨some 24, (.mov (.t 5)), none⟩, {}⟩, ⟨⟨some 4, (.mov (.t 24)), none⟩, {}⟩] none) draw_Codes_Edits_C6)
def draw_Codes_Edits_C12 : TC := (.block 0 (.loop draw_Codes_Edits_N1 draw_Codes_Edits_C1))
def draw_Codes_Edits_C11 : TC := (.seq (.seq (.rg [⟨⟨some 10, (.mov (.t 0)), none⟩, {}⟩, ⟨⟨some 11, (.mov (.t 1)), none⟩, {}⟩, ⟨⟨some 12, (.bin .add (.t 11) (.c (I 1))), none⟩, {}⟩, ⟨⟨some 13, (.call (.c (.fn 37 [])) [(.t 10), (.t 12)]), none⟩, {}⟩, ⟨⟨some 7, (.mov (.t 13)), none⟩, {}⟩] none) draw_Codes_Edits_C12)
  draw_Codes_Edits_C2)
def draw_Codes_Edits_C10 : TC := (.seq (.rg [⟨⟨some 8, (.mov (.t 0)), none⟩, {}⟩, ⟨⟨some 9, (.call (.c (.fn 11 [])) [(.t 8)]), none⟩, {}⟩, ⟨⟨some 6, (.alloc [(.lst true []), (.lst true [])]), none⟩, {}⟩, ⟨⟨none, (.store 2 (.t 6) (.t 9)), none⟩, {}⟩] none) draw_Codes_Edits_C11)
def draw_Codes_Edits_C7 : TC := (.seq (.rg [⟨⟨some 5, (.mov (.c (.lst true []))), none⟩, {}⟩] none) draw_Codes_Edits_C10)
def draw_Codes_Edits_C3 : TC := (.seq (.rg [⟨⟨some 4, (.mov (.c (.lst true []))), none⟩, {}⟩] none) draw_Codes_Edits_C7)
def draw_Codes_Edits_E (N : Nat) : List (Nat × Ent) := [(11, sfE [none] [.b (.v G_Codes)] [.v G_Mine] (fun x => draw_Codes_Mine N x)), (37, sfE [none, none] [.b (.v G_Codes), .v (.int .i64)] [.v (.int .i64)] (fun x => draw_Codes_Next N x.1 x.2)), (16, sfE [none, none] [.b (.v G_Codes), .v G_Mine] [.v G_Edit] (fun x => draw_Codes_Edit N x.1 x.2))]
def draw_Codes_Edits_L1 (N : Nat) (n : Nat) (x3 : Int) (x4 : List Int) (x5 : Int) (x6 : List T_Edit) (x7 : List T_Place) (x8 : List T_Road) : Option ((List T_Edit) × T_Codes) := loopN (normI 1 draw_Codes_Edits_N1) (run (draw_Codes_Edits_E N) N 1 draw_Codes_Edits_C1) n ⟨[(0, .ptr 0 0 0), (5, .whole 1), (6, .ptr 2 0 0), (7, .int .i64 x3)], [some (.box 0 [.lst false (.int .u8) x4, .int .i64 x5]), some (.arr G_Edit x6), some (.box 0 [.lst false G_Place x7, .lst false G_Road x8])]⟩ (blkK 0 (seqK (run (draw_Codes_Edits_E N) N 1 draw_Codes_Edits_C2) (finS draw_Codes_Edits_NE [(.t 4)] [.b (.v G_Codes), .v (.int .i64)] [.o (.a G_Edit)] 1 1)))
theorem draw_Codes_Edits_L1_zero (N : Nat) (x3 : Int) (x4 : List Int) (x5 : Int) (x6 : List T_Edit) (x7 : List T_Place) (x8 : List T_Road) : draw_Codes_Edits_L1 N 0 x3 x4 x5 x6 x7 x8 = none := rfl
theorem draw_Codes_Edits_L1_succ (N : Nat) (n1 : Nat) (x3 : Int) (x4 : List Int) (x5 : Int) (x6 : List T_Edit) (x7 : List T_Place) (x8 : List T_Road) : draw_Codes_Edits_L1 N (n1 + 1) x3 x4 x5 x6 x7 x8 =
  bif (decide (x3 > 0)) then
    Option.bind (draw_Codes_Edit N (x4, x5) (x7, x8)) fun r9 =>
    bif fitsB (x6.length + 1) 120 then
    draw_Codes_Edits_L1 N n1 (W (x3 - 1)) r9.2.1 r9.2.2 (x6 ++ [r9.1]) x7 x8
    else none
  else
    some (x6, (x4, x5)) := by kernel_rfl
def draw_Codes_Edits (N : Nat) (a0 : T_Codes) (a1 : Int) : Option ((List T_Edit) × T_Codes) :=
  Option.bind (draw_Codes_Mine N a0) fun r1 =>
  Option.bind (draw_Codes_Next N r1.2 (W (a1 + 1))) fun r2 =>
  draw_Codes_Edits_L1 N N r2.1 r2.2.1 r2.2.2 [] r1.1.1 r1.1.2
theorem draw_Codes_Edits_fn : FnOK Try.prog 21 25 (fun _ : Nat => false) draw_Codes_Edits_C3.er [(.t 4)] := FnOK.mk' Try.func21 (by kernel_rfl) (by kernel_rfl) (by kernel_rfl) (by kernel_rfl) (by kernel_rfl)
theorem draw_Codes_Edits_envok (N : Nat) : EnvOK Try.prog (draw_Codes_Edits_E N) := .cons (sfE_ok (draw_Codes_Mine_sf N)) (.cons (sfE_ok (draw_Codes_Next_sf N)) (.cons (sfE_ok (draw_Codes_Edit_sf N)) (.nil)))
theorem draw_Codes_Edits_sf (N : Nat) : SFOK Try.prog 21 [none, none] [.b (.v G_Codes), .v (.int .i64)] [.o (.a G_Edit)] (fun x => draw_Codes_Edits N x.1 x.2) := sfOK (N := N) (p := 1) (q := 1) (ns := draw_Codes_Edits_NE) mixed draw_Codes_Edits_fn (draw_Codes_Edits_envok N) (TC.noh_ok (by kernel_rfl)) rfl rfl rfl (fun x => by kernel_rfl)
/-! ref01_Apply -/
def ref01_Apply_C25 : TC := .ret
def ref01_Apply_C18 : TC := (.pre [.frzb 4] ref01_Apply_C25)
def ref01_Apply_C11 : TC := (.cond (.t 108) (.seq (.rg [⟨⟨some 109, (.build [(.lst true []), (.lst true [])] []), none⟩, {}⟩, ⟨⟨some 110, (.mov (.t 8)), none⟩, {}⟩, ⟨⟨none, (.store 2 (.t 4) (.t 109)), none⟩, {}⟩, ⟨⟨some 5, (.mov (.t 110)), none⟩, {}⟩] none) ref01_Apply_C18) .skip)
def ref01_Apply_C5 : TC := (.seq (.rg [⟨⟨some 107, (.mov (.t 8)), none⟩, {}⟩, ⟨⟨some 108, (.bin .neq (.t 107) (.c (I 0))), none⟩, {}⟩] none) ref01_Apply_C11)
def ref01_Apply_C19 : TC := .ret
def ref01_Apply_C12 : TC := (.pre [.frzb 4] ref01_Apply_C19)
def ref01_Apply_C6 : TC := (.seq (.rg [⟨⟨some 111, (.load true 2 (.t 7)), none⟩, {}⟩, ⟨⟨none, (.store 2 (.t 4) (.t 111)), none⟩, {}⟩, ⟨⟨some 5, (.mov (.c (I 0))), none⟩, {}⟩] none) ref01_Apply_C12)
def ref01_Apply_C1 : TC := (.seq (.seq (.rg [⟨⟨some 105, (.load true 2 (.t 7)), none⟩, {}⟩, ⟨⟨some 106, (.call (.c (.fn 13 [])) [(.t 105)]), none⟩, {}⟩, ⟨⟨some 8, (.mov (.t 106)), none⟩, {}⟩] none) ref01_Apply_C5) ref01_Apply_C6)
def ref01_Apply_C29 : TC := (.cond (.t 71) .skip (.rg [⟨⟨some 73, (.bin .eql (.t 44) (.c (I 4))), none⟩, {}⟩, ⟨⟨some 71, (.mov (.t 73)), none⟩, {}⟩] none))
def ref01_Apply_C37 : TC := .ret
def ref01_Apply_C36 : TC := (.pre [.frzb 4] ref01_Apply_C37)
def ref01_Apply_C33 : TC := (.cond (.t 84) (.seq (.rg [⟨⟨some 85, (.build [(.lst true []), (.lst true [])] []), none⟩, {}⟩, ⟨⟨none, (.store 2 (.t 4) (.t 85)), none⟩, {}⟩, ⟨⟨some 5, (.mov (.c (I 10))), none⟩, {}⟩] none) ref01_Apply_C36) .skip)
def ref01_Apply_C34 : TC := (.rg [⟨⟨some 86, (.fadr 1 (.t 7)), none⟩, {}⟩, ⟨⟨some 87, (.load false 1 (.t 86)), none⟩, {}⟩, ⟨⟨some 88, (.fadr 13 (.t 3)), none⟩, {}⟩, ⟨⟨some 89, (.load false 1 (.t 88)), none⟩, {}⟩, ⟨⟨some 90, (.fadr 0 (.t 3)), none⟩, {}⟩, ⟨⟨some 91, (.load false 1 (.t 90)), none⟩, {}⟩, ⟨⟨some 92, (.bin .eql (.t
  91) (.c (I 3))), none⟩, {}⟩, ⟨⟨some 93, (.iadrS 10 (.t 87) (.t 89)), none⟩, {}⟩, ⟨⟨some 94, (.fadr 5 (.t 93)), none⟩, {}⟩, ⟨⟨none, (.store 1 (.t 94) (.t 92)), none⟩, {}⟩] none)
def ref01_Apply_C35 : TC := (.cond (.t 95) (.rg [⟨⟨some 97, (.fadr 1 (.t 7)), none⟩, {}⟩, ⟨⟨some 98, (.load false 1 (.t 97)), none⟩, {}⟩, ⟨⟨some 99, (.fadr 13 (.t 3)), none⟩, {}⟩, ⟨⟨some 100, (.load false 1 (.t 99)), none⟩, {}⟩, ⟨⟨some 101, (.fadr 14 (.t 3)), none⟩, {}⟩, ⟨⟨some 102, (.load true 2 (.t 101)), none⟩, {}⟩, ⟨⟨some
  103, (.iadrS 10 (.t 98) (.t 100)), none⟩, {}⟩, ⟨⟨some 104, (.fadr 6 (.t 103)), none⟩, {}⟩, ⟨⟨none, (.store 2 (.t 104) (.t 102)), none⟩, {}⟩] none) (.rg [⟨⟨some 45, (.fadr 1 (.t 7)), none⟩, {}⟩, ⟨⟨some 46, (.load false 1 (.t 45)), none⟩, {}⟩, ⟨⟨some 47, (.fadr 13 (.t 3)), none⟩, {}⟩, ⟨⟨some 48,
  (.load false 1 (.t 47)), none⟩, {}⟩, ⟨⟨some 49, (.fadr 14 (.t 3)), none⟩, {}⟩, ⟨⟨some 50, (.load true 2 (.t 49)), none⟩, {}⟩, ⟨⟨some 51, (.iadrS 10 (.t 46) (.t 48)), none⟩, {}⟩, ⟨⟨some 52, (.fadr 8 (.t 51)), none⟩, {}⟩, ⟨⟨none, (.store 2 (.t 52) (.t 50)), none⟩, {}⟩] none))
def ref01_Apply_C30 : TC := (.cond (.t 71) (.seq (.seq (.rg [⟨⟨some 74, (.fadr 1 (.t 7)), none⟩, {}⟩, ⟨⟨some 75, (.load false 1 (.t 74)), none⟩, {}⟩, ⟨⟨some 76, (.fadr 13 (.t 3)), none⟩, {}⟩, ⟨⟨some 77, (.load false 1 (.t 76)), none⟩, {}⟩, ⟨⟨some 78, (.iadrS 10 (.t 75) (.t 77)), none⟩, {}⟩, ⟨⟨some 79, (.fadr 5 (.t 78)), none⟩,
  {}⟩, ⟨⟨some 80, (.load false 1 (.t 79)), none⟩, {}⟩, ⟨⟨some 81, (.fadr 0 (.t 3)), none⟩, {}⟩, ⟨⟨some 82, (.load false 1 (.t 81)), none⟩, {}⟩, ⟨⟨some 83, (.bin .eql (.t 82) (.c (I 3))), none⟩, {}⟩, ⟨⟨some 84, (.beq false (.t 80) (.t 83)), none⟩, {}⟩] (some [])) ref01_Apply_C33) ref01_Apply_C34)
  (.seq (.rg [⟨⟨some 96, (.bin .eql (.t 44) (.c (I 5))), none⟩, {}⟩, ⟨⟨some 95, (.mov (.t 96)), none⟩, {}⟩] none) ref01_Apply_C35))
def ref01_Apply_C26 : TC := (.cond (.t 62) (.rg [⟨⟨some 64, (.fadr 1 (.t 7)), none⟩, {}⟩, ⟨⟨some 65, (.load false 1 (.t 64)), none⟩, {}⟩, ⟨⟨some 66, (.fadr 3 (.t 3)), none⟩, {}⟩, ⟨⟨some 67, (.load true 10 (.t 66)), none⟩, {}⟩, ⟨⟨some 68, (.bslice false 10 [(I 0), (I 0), (I 0), (I 0), (B false), (B false), (I 0), (I 0), (I 0),
  (I 0)] 1 [(0, (.t 67))]), none⟩, ⟨G_Road, none⟩⟩, ⟨⟨some 69, (.app 10 72 (.t 65) (.t 68)), none⟩, {}⟩, ⟨⟨some 70, (.fadr 1 (.t 7)), none⟩, {}⟩, ⟨⟨none, (.store 1 (.t 70) (.t 69)), none⟩, {}⟩] none) (.seq (.seq (.rg [⟨⟨some 72, (.bin .eql (.t 44) (.c (I 3))), none⟩, {}⟩, ⟨⟨some 71, (.mov (.t 72)),
  none⟩, {}⟩] none) ref01_Apply_C29) ref01_Apply_C30))
def ref01_Apply_C20 : TC := (.cond (.t 53) (.rg [⟨⟨some 55, (.fadr 0 (.t 7)), none⟩, {}⟩, ⟨⟨some 56, (.load false 1 (.t 55)), none⟩, {}⟩, ⟨⟨some 57, (.fadr 1 (.t 3)), none⟩, {}⟩, ⟨⟨some 58, (.load true 2 (.t 57)), none⟩, {}⟩, ⟨⟨some 59, (.bslice false 2 [(I 0), (B false)] 1 [(0, (.t 58))]), none⟩, ⟨G_Place, none⟩⟩, ⟨⟨some 60,
  (.app 2 16 (.t 56) (.t 59)), none⟩, {}⟩, ⟨⟨some 61, (.fadr 0 (.t 7)), none⟩, {}⟩, ⟨⟨none, (.store 1 (.t 61) (.t 60)), none⟩, {}⟩] none) (.seq (.rg [⟨⟨some 63, (.bin .eql (.t 44) (.c (I 2))), none⟩, {}⟩, ⟨⟨some 62, (.mov (.t 63)), none⟩, {}⟩] none) ref01_Apply_C26))
def ref01_Apply_C13 : TC := (.block 0 (.seq (.rg [⟨⟨some 54, (.bin .eql (.t 44) (.c (I 1))), none⟩, {}⟩, ⟨⟨some 53, (.mov (.t 54)), none⟩, {}⟩] none) ref01_Apply_C20))
def ref01_Apply_C14 : TC := (.join [.keep [4, 7], .cmp] ref01_Apply_C1)
def ref01_Apply_C7 : TC := (.seq (.seq (.rg [⟨⟨some 43, (.fadr 0 (.t 3)), none⟩, {}⟩, ⟨⟨some 44, (.load false 1 (.t 43)), none⟩, {}⟩] none) ref01_Apply_C13) ref01_Apply_C14)
def ref01_Apply_C2 : TC := (.seq (.rg [⟨⟨some 41, (.load true 2 (.t 2)), none⟩, {}⟩, ⟨⟨some 42, (.call (.c (.fn 36 [])) [(.t 41)]), none⟩, {}⟩, ⟨⟨some 7, (.alloc [(.lst true []), (.lst true [])]), none⟩, {}⟩, ⟨⟨none, (.store 2 (.t 7) (.t 42)), none⟩, {}⟩] none) ref01_Apply_C7)
def ref01_Apply_C21 : TC := .ret
def ref01_Apply_C15 : TC := (.pre [.frzb 4] ref01_Apply_C21)
def ref01_Apply_C8 : TC := (.cond (.t 39) (.seq (.rg [⟨⟨some 40, (.build [(.lst true []), (.lst true [])] []), none⟩, {}⟩, ⟨⟨none, (.store 2 (.t 4) (.t 40)), none⟩, {}⟩, ⟨⟨some 5, (.mov (.c (I 4))), none⟩, {}⟩] none) ref01_Apply_C15) .skip)
def ref01_Apply_C9 : TC := (.join [.keep [2, 3, 4], .cmp] ref01_Apply_C2)
def ref01_Apply_C3 : TC := (.seq (.seq (.rg [⟨⟨some 24, (.fadr 0 (.t 3)), none⟩, {}⟩, ⟨⟨some 25, (.load false 1 (.t 24)), none⟩, {}⟩, ⟨⟨some 26, (.bin .geq (.t 25) (.c (I 3))), none⟩, {}⟩, ⟨⟨some 27, (.mov (.t 26)), none⟩, {}⟩, ⟨⟨some 28, (.fadr 13 (.t 3)), some (27, true)⟩, {}⟩, ⟨⟨some 29, (.load false 1 (.t 28)), some (27,
  true)⟩, {}⟩, ⟨⟨some 30, (.bin .lss (.t 29) (.c (I 0))), some (27, true)⟩, {}⟩, ⟨⟨some 31, (.mov (.t 30)), some (27, true)⟩, {}⟩, ⟨⟨some 32, (.fadr 13 (.t 3)), some (31, false)⟩, {}⟩, ⟨⟨some 33, (.load false 1 (.t 32)), some (31, false)⟩, {}⟩, ⟨⟨some 34, (.fadr 1 (.t 2)), some (31, false)⟩, {}⟩,
  ⟨⟨some 35, (.load false 1 (.t 34)), some (31, false)⟩, {}⟩, ⟨⟨some 36, (.len (.t 35)), some (31, false)⟩, {}⟩, ⟨⟨some 37, (.bin .geq (.t 33) (.t 36)), some (31, false)⟩, {}⟩, ⟨⟨some 38, (.pick (.t 31) (.c (B true)) (.t 37)), some (27, true)⟩, {}⟩, ⟨⟨some 39, (.pick (.t 27) (.t 38) (.c (B false))),
  none⟩, {}⟩] none) ref01_Apply_C8) ref01_Apply_C9)
def ref01_Apply_C31 : TC := .ret
def ref01_Apply_C27 : TC := (.pre [.frzb 4] ref01_Apply_C31)
def ref01_Apply_C22 : TC := (.cond (.t 12) (.seq (.rg [⟨⟨some 13, (.build [(.lst true []), (.lst true [])] []), none⟩, {}⟩, ⟨⟨some 14, (.mov (.t 6)), none⟩, {}⟩, ⟨⟨none, (.store 2 (.t 4) (.t 13)), none⟩, {}⟩, ⟨⟨some 5, (.mov (.t 14)), none⟩, {}⟩] none) ref01_Apply_C27) .skip)
def ref01_Apply_C16 : TC := (.seq (.rg [⟨⟨some 11, (.mov (.t 6)), none⟩, {}⟩, ⟨⟨some 12, (.bin .neq (.t 11) (.c (I 0))), none⟩, {}⟩] none) ref01_Apply_C22)
def ref01_Apply_C32 : TC := .ret
def ref01_Apply_C28 : TC := (.pre [.frzb 4] ref01_Apply_C32)
def ref01_Apply_C23 : TC := (.cond (.t 22) (.seq (.rg [⟨⟨some 23, (.build [(.lst true []), (.lst true [])] []), none⟩, {}⟩, ⟨⟨none, (.store 2 (.t 4) (.t 23)), none⟩, {}⟩, ⟨⟨some 5, (.mov (.c (I 5))), none⟩, {}⟩] none) ref01_Apply_C28) .skip)
def ref01_Apply_C24 : TC := (.join [.keep [2, 3, 4], .cmp] ref01_Apply_C3)
def ref01_Apply_C17 : TC := (.seq (.seq (.rg [⟨⟨some 15, (.fadr 0 (.t 3)), none⟩, {}⟩, ⟨⟨some 16, (.load false 1 (.t 15)), none⟩, {}⟩, ⟨⟨some 17, (.bin .lss (.t 16) (.c (I 1))), none⟩, {}⟩, ⟨⟨some 18, (.mov (.t 17)), none⟩, {}⟩, ⟨⟨some 19, (.fadr 0 (.t 3)), some (18, false)⟩, {}⟩, ⟨⟨some 20, (.load false 1 (.t 19)), some (18,
  false)⟩, {}⟩, ⟨⟨some 21, (.bin .gtr (.t 20) (.c (I 6))), some (18, false)⟩, {}⟩, ⟨⟨some 22, (.pick (.t 18) (.c (B true)) (.t 21)), none⟩, {}⟩] none) ref01_Apply_C23) ref01_Apply_C24)
def ref01_Apply_C10 : TC := (.seq (.seq (.rg [⟨⟨some 9, (.load true 2 (.t 2)), none⟩, {}⟩, ⟨⟨some 10, (.call (.c (.fn 13 [])) [(.t 9)]), none⟩, {}⟩, ⟨⟨some 6, (.mov (.t 10)), none⟩, {}⟩] none) ref01_Apply_C16) ref01_Apply_C17)
def ref01_Apply_C4 : TC := (.seq (.rg [⟨⟨some 2, (.box (.t 0)), none⟩, {}⟩, ⟨⟨some 3, (.box (.t 1)), none⟩, {}⟩, ⟨⟨some 4, (.alloc [(.lst true []), (.lst true [])]), none⟩, {}⟩, ⟨⟨some 5, (.mov (.c (I 0))), none⟩, {}⟩] none) ref01_Apply_C10)
def ref01_Apply_E (N : Nat) : List (Nat × Ent) := [(13, pureE [G_Mine] [(.int .i64)] (fun x => ref01_Check N x)), (36, sfE [none] [.v G_Mine] [.o (.p (.a G_Place) (.a G_Road))] (fun x => ref01_Copy N x))]
def ref01_Apply_J3 (N : Nat) (x40 : List T_Place) (x41 : List T_Road) : Option (T_Mine × Int) := joinN (run (ref01_Apply_E N) N 0 ref01_Apply_C1) N ⟨[(4, .ptr 0 0 0), (7, .ptr 1 0 0)], [some (.box 0 [.nil, .nil]), some (.box 0 [.whole 2, .whole 3]), some (.arr G_Place x40), some (.arr G_Road x41)]⟩ (fin [(.cell 4 true 2), (.t 5)] [G_Mine, (.int .i64)])
def ref01_Apply_J2 (N : Nat) (x20 : List T_Place) (x21 : List T_Road) (x22 : Int) (x23 : Int) (x24 : Bool) (x25 : Int) (x26 : Int) (x27 : Int) (x28 : Int) (x29 : Bool) (x30 : Bool) (x31 : Int) (x32 : Int) (x33 : Int) (x34 : Int) (x35 : Int) (x36 : Int) (x37 : Int) : Option (T_Mine × Int) := joinN (run (ref01_Apply_E N) N 0 ref01_Apply_C2) N ⟨[(2, .ptr 0 0 0), (3, .ptr 1 0 0), (4, .ptr 2 0 0)], [some (.box 0 [.lst false G_Place x20, .lst false G_Road x21]), some (.box 0 [.int .i64 x22, .int .i64 x23, .bool x24, .int .i64 x25, .int .i64 x26, .int .i64 x27, .int .i64 x28, .bool x29, .bool x30, .int .i64 x31, .int .i64 x32, .int .i64 x33, .int .i64 x34, .int .i64 x35, .int .i64 x36, .int .i64 x37]), some (.box 0 [.nil, .nil])]⟩ (fin [(.cell 4 true 2), (.t 5)] [G_Mine, (.int .i64)])
def ref01_Apply_J1 (N : Nat) (x2 : List T_Place) (x3 : List T_Road) (x4 : Int) (x5 : Int) (x6 : Bool) (x7 : Int) (x8 : Int) (x9 : Int) (x10 : Int) (x11 : Bool) (x12 : Bool) (x13 : Int) (x14 : Int) (x15 : Int) (x16 : Int) (x17 : Int) (x18 : Int) (x19 : Int) : Option (T_Mine × Int) := joinN (run (ref01_Apply_E N) N 0 ref01_Apply_C3) N ⟨[(2, .ptr 0 0 0), (3, .ptr 1 0 0), (4, .ptr 2 0 0)], [some (.box 0 [.lst false G_Place x2, .lst false G_Road x3]), some (.box 0 [.int .i64 x4, .int .i64 x5, .bool x6, .int .i64 x7, .int .i64 x8, .int .i64 x9, .int .i64 x10, .bool x11, .bool x12, .int .i64 x13, .int .i64 x14, .int .i64 x15, .int .i64 x16, .int .i64 x17, .int .i64 x18, .int .i64 x19]), some (.box 0 [.nil, .nil])]⟩ (fin [(.cell 4 true 2), (.t 5)] [G_Mine, (.int .i64)])
theorem ref01_Apply_J3_eqM (N JM : Nat) (x40 : List T_Place) (x41 : List T_Road) : joinN (run (ref01_Apply_E N) N 0 ref01_Apply_C1) (JM + 1) ⟨[(4, .ptr 0 0 0), (7, .ptr 1 0 0)], [some (.box 0 [.nil, .nil]), some (.box 0 [.whole 2, .whole 3]), some (.arr G_Place x40), some (.arr G_Road x41)]⟩ (fin [(.cell 4 true 2), (.t 5)] [G_Mine, (.int .i64)]) =
  Option.bind (ref01_Check N (x40, x41)) fun r42 =>
  bif (r42 != 0) then
    some (([], []), r42)
  else
    some ((x40, x41), 0) := by kernel_rfl
theorem ref01_Apply_J3_eq (N : Nat) (x40 : List T_Place) (x41 : List T_Road) : ref01_Apply_J3 (N + 1) x40 x41 =
  Option.bind (ref01_Check (N + 1) (x40, x41)) fun r42 =>
  bif (r42 != 0) then
    some (([], []), r42)
  else
    some ((x40, x41), 0) := ref01_Apply_J3_eqM (N + 1) N x40 x41
theorem ref01_Apply_J2_eqM (N JM : Nat) (x20 : List T_Place) (x21 : List T_Road) (x22 : Int) (x23 : Int) (x24 : Bool) (x25 : Int) (x26 : Int) (x27 : Int) (x28 : Int) (x29 : Bool) (x30 : Bool) (x31 : Int) (x32 : Int) (x33 : Int) (x34 : Int) (x35 : Int) (x36 : Int) (x37 : Int) : joinN (run (ref01_Apply_E N) N 0 ref01_Apply_C2) (JM + 1) ⟨[(2, .ptr 0 0 0), (3, .ptr 1 0 0), (4, .ptr 2 0 0)], [some (.box 0 [.lst false G_Place x20, .lst false G_Road x21]), some (.box 0 [.int .i64 x22, .int .i64 x23, .bool x24, .int .i64 x25, .int .i64 x26, .int .i64 x27, .int .i64 x28, .bool x29, .bool x30, .int .i64 x31, .int .i64 x32, .int .i64 x33, .int .i64 x34, .int .i64 x35, .int .i64 x36, .int .i64 x37]), some (.box 0 [.nil, .nil])]⟩ (fin [(.cell 4 true 2), (.t 5)] [G_Mine, (.int .i64)]) =
  Option.bind (ref01_Copy N (x20, x21)) fun r38 =>
  bif (x22 == 1) then
    bif fitsB (r38.1.1.length + 1) 16 then
    ref01_Apply_J3 N (r38.1.1 ++ [(x23, x24)]) r38.1.2
    else none
  else
    bif (x22 == 2) then
      bif fitsB (r38.1.2.length + 1) 72 then
      ref01_Apply_J3 N r38.1.1 (r38.1.2 ++ [(x25, (x26, (x27, (x28, (x29, (x30, ((x31, x32), (x33, x34))))))))])
      else none
    else
      bif (x22 == 3) then
        bif inB x35 r38.1.2.length then
        bif ((r38.1.2.getD x35.toNat D_Road).2.2.2.2.2.1 == (x22 == 3)) then
          some (([], []), 10)
        else
          bif inB x35 r38.1.2.length then
          let v49 := r38.1.2.getD x35.toNat D_Road
          ref01_Apply_J3 N r38.1.1 (r38.1.2.set x35.toNat (v49.1, (v49.2.1, (v49.2.2.1, (v49.2.2.2.1, (v49.2.2.2.2.1, ((x22 == 3), v49.2.2.2.2.2.2)))))))
          else none
        else none
      else
        bif (x22 == 4) then
          bif inB x35 r38.1.2.length then
          bif ((r38.1.2.getD x35.toNat D_Road).2.2.2.2.2.1 == (x22 == 3)) then
            some (([], []), 10)
          else
            bif inB x35 r38.1.2.length then
            let v54 := r38.1.2.getD x35.toNat D_Road
            ref01_Apply_J3 N r38.1.1 (r38.1.2.set x35.toNat (v54.1, (v54.2.1, (v54.2.2.1, (v54.2.2.2.1, (v54.2.2.2.2.1, ((x22 == 3), v54.2.2.2.2.2.2)))))))
            else none
          else none
        else
          bif (x22 == 5) then
            bif inB x35 r38.1.2.length then
            let v58 := r38.1.2.getD x35.toNat D_Road
            ref01_Apply_J3 N r38.1.1 (r38.1.2.set x35.toNat (v58.1, (v58.2.1, (v58.2.2.1, (v58.2.2.2.1, (v58.2.2.2.2.1, (v58.2.2.2.2.2.1, ((x36, x37), v58.2.2.2.2.2.2.2))))))))
            else none
          else
            bif inB x35 r38.1.2.length then
            let v62 := r38.1.2.getD x35.toNat D_Road
            ref01_Apply_J3 N r38.1.1 (r38.1.2.set x35.toNat (v62.1, (v62.2.1, (v62.2.2.1, (v62.2.2.2.1, (v62.2.2.2.2.1, (v62.2.2.2.2.2.1, (v62.2.2.2.2.2.2.1, (x36, x37)))))))))
            else none := by kernel_rfl
theorem ref01_Apply_J2_eq (N : Nat) (x20 : List T_Place) (x21 : List T_Road) (x22 : Int) (x23 : Int) (x24 : Bool) (x25 : Int) (x26 : Int) (x27 : Int) (x28 : Int) (x29 : Bool) (x30 : Bool) (x31 : Int) (x32 : Int) (x33 : Int) (x34 : Int) (x35 : Int) (x36 : Int) (x37 : Int) : ref01_Apply_J2 (N + 1) x20 x21 x22 x23 x24 x25 x26 x27 x28 x29 x30 x31 x32 x33 x34 x35 x36 x37 =
  Option.bind (ref01_Copy (N + 1) (x20, x21)) fun r38 =>
  bif (x22 == 1) then
    bif fitsB (r38.1.1.length + 1) 16 then
    ref01_Apply_J3 (N + 1) (r38.1.1 ++ [(x23, x24)]) r38.1.2
    else none
  else
    bif (x22 == 2) then
      bif fitsB (r38.1.2.length + 1) 72 then
      ref01_Apply_J3 (N + 1) r38.1.1 (r38.1.2 ++ [(x25, (x26, (x27, (x28, (x29, (x30, ((x31, x32), (x33, x34))))))))])
      else none
    else
      bif (x22 == 3) then
        bif inB x35 r38.1.2.length then
        bif ((r38.1.2.getD x35.toNat D_Road).2.2.2.2.2.1 == (x22 == 3)) then
          some (([], []), 10)
        else
          bif inB x35 r38.1.2.length then
          let v49 := r38.1.2.getD x35.toNat D_Road
          ref01_Apply_J3 (N + 1) r38.1.1 (r38.1.2.set x35.toNat (v49.1, (v49.2.1, (v49.2.2.1, (v49.2.2.2.1, (v49.2.2.2.2.1, ((x22 == 3), v49.2.2.2.2.2.2)))))))
          else none
        else none
      else
        bif (x22 == 4) then
          bif inB x35 r38.1.2.length then
          bif ((r38.1.2.getD x35.toNat D_Road).2.2.2.2.2.1 == (x22 == 3)) then
            some (([], []), 10)
          else
            bif inB x35 r38.1.2.length then
            let v54 := r38.1.2.getD x35.toNat D_Road
            ref01_Apply_J3 (N + 1) r38.1.1 (r38.1.2.set x35.toNat (v54.1, (v54.2.1, (v54.2.2.1, (v54.2.2.2.1, (v54.2.2.2.2.1, ((x22 == 3), v54.2.2.2.2.2.2)))))))
            else none
          else none
        else
          bif (x22 == 5) then
            bif inB x35 r38.1.2.length then
            let v58 := r38.1.2.getD x35.toNat D_Road
            ref01_Apply_J3 (N + 1) r38.1.1 (r38.1.2.set x35.toNat (v58.1, (v58.2.1, (v58.2.2.1, (v58.2.2.2.1, (v58.2.2.2.2.1, (v58.2.2.2.2.2.1, ((x36, x37), v58.2.2.2.2.2.2.2))))))))
            else none
          else
            bif inB x35 r38.1.2.length then
            let v62 := r38.1.2.getD x35.toNat D_Road
            ref01_Apply_J3 (N + 1) r38.1.1 (r38.1.2.set x35.toNat (v62.1, (v62.2.1, (v62.2.2.1, (v62.2.2.2.1, (v62.2.2.2.2.1, (v62.2.2.2.2.2.1, (v62.2.2.2.2.2.2.1, (x36, x37)))))))))
            else none := ref01_Apply_J2_eqM (N + 1) N x20 x21 x22 x23 x24 x25 x26 x27 x28 x29 x30 x31 x32 x33 x34 x35 x36 x37
theorem ref01_Apply_J1_eqM (N JM : Nat) (x2 : List T_Place) (x3 : List T_Road) (x4 : Int) (x5 : Int) (x6 : Bool) (x7 : Int) (x8 : Int) (x9 : Int) (x10 : Int) (x11 : Bool) (x12 : Bool) (x13 : Int) (x14 : Int) (x15 : Int) (x16 : Int) (x17 : Int) (x18 : Int) (x19 : Int) : joinN (run (ref01_Apply_E N) N 0 ref01_Apply_C3) (JM + 1) ⟨[(2, .ptr 0 0 0), (3, .ptr 1 0 0), (4, .ptr 2 0 0)], [some (.box 0 [.lst false G_Place x2, .lst false G_Road x3]), some (.box 0 [.int .i64 x4, .int .i64 x5, .bool x6, .int .i64 x7, .int .i64 x8, .int .i64 x9, .int .i64 x10, .bool x11, .bool x12, .int .i64 x13, .int .i64 x14, .int .i64 x15, .int .i64 x16, .int .i64 x17, .int .i64 x18, .int .i64 x19]), some (.box 0 [.nil, .nil])]⟩ (fin [(.cell 4 true 2), (.t 5)] [G_Mine, (.int .i64)]) =
  bif (decide (x4 ≥ 3)) then
    bif (decide (x17 < 0)) then
      some (([], []), 4)
    else
      bif (decide (x17 ≥ (x3.length : Int))) then
        some (([], []), 4)
      else
        ref01_Apply_J2 N x2 x3 x4 x5 x6 x7 x8 x9 x10 x11 x12 x13 x14 x15 x16 x17 x18 x19
  else
    ref01_Apply_J2 N x2 x3 x4 x5 x6 x7 x8 x9 x10 x11 x12 x13 x14 x15 x16 x17 x18 x19 := by kernel_rfl
theorem ref01_Apply_J1_eq (N : Nat) (x2 : List T_Place) (x3 : List T_Road) (x4 : Int) (x5 : Int) (x6 : Bool) (x7 : Int) (x8 : Int) (x9 : Int) (x10 : Int) (x11 : Bool) (x12 : Bool) (x13 : Int) (x14 : Int) (x15 : Int) (x16 : Int) (x17 : Int) (x18 : Int) (x19 : Int) : ref01_Apply_J1 (N + 1) x2 x3 x4 x5 x6 x7 x8 x9 x10 x11 x12 x13 x14 x15 x16 x17 x18 x19 =
  bif (decide (x4 ≥ 3)) then
    bif (decide (x17 < 0)) then
      some (([], []), 4)
    else
      bif (decide (x17 ≥ (x3.length : Int))) then
        some (([], []), 4)
      else
        ref01_Apply_J2 (N + 1) x2 x3 x4 x5 x6 x7 x8 x9 x10 x11 x12 x13 x14 x15 x16 x17 x18 x19
  else
    ref01_Apply_J2 (N + 1) x2 x3 x4 x5 x6 x7 x8 x9 x10 x11 x12 x13 x14 x15 x16 x17 x18 x19 := ref01_Apply_J1_eqM (N + 1) N x2 x3 x4 x5 x6 x7 x8 x9 x10 x11 x12 x13 x14 x15 x16 x17 x18 x19
def ref01_Apply (N : Nat) (a0 : T_Mine) (a1 : T_Edit) : Option (T_Mine × Int) :=
  Option.bind (ref01_Check N a0) fun r1 =>
  bif (r1 != 0) then
    some (([], []), r1)
  else
    bif (decide (a1.1 < 1)) then
      some (([], []), 5)
    else
      bif (decide (a1.1 > 6)) then
        some (([], []), 5)
      else
        ref01_Apply_J1 N a0.1 a0.2 a1.1 a1.2.1.1 a1.2.1.2 a1.2.2.1.1 a1.2.2.1.2.1 a1.2.2.1.2.2.1 a1.2.2.1.2.2.2.1 a1.2.2.1.2.2.2.2.1 a1.2.2.1.2.2.2.2.2.1 a1.2.2.1.2.2.2.2.2.2.1.1 a1.2.2.1.2.2.2.2.2.2.1.2 a1.2.2.1.2.2.2.2.2.2.2.1 a1.2.2.1.2.2.2.2.2.2.2.2 a1.2.2.2.1 a1.2.2.2.2.1 a1.2.2.2.2.2
theorem ref01_Apply_fn : FnOK Try.prog 22 112 (fun _ : Nat => false) ref01_Apply_C4.er [(.cell 4 true 2), (.t 5)] := FnOK.mk' Try.func22 (by kernel_rfl) (by kernel_rfl) (by kernel_rfl) (by kernel_rfl) (by kernel_rfl)
theorem ref01_Apply_envok (N : Nat) : EnvOK Try.prog (ref01_Apply_E N) := .cons (pureE_ok (ref01_Check_pure N)) (.cons (sfE_ok (ref01_Copy_sf N)) (.nil))
theorem ref01_Apply_pure (N : Nat) : PureOK Try.prog 22 [G_Mine, G_Edit] [G_Mine, (.int .i64)] (fun x => ref01_Apply N x.1 x.2) := pureOK (N := N) mixed ref01_Apply_fn (ref01_Apply_envok N) (TC.noh_ok (by kernel_rfl)) rfl (fun x => by kernel_rfl)
/-! plan_All -/
def plan_All_N1 : List NS := [.wk 1 (.list G_Edit), .wk 14 (.list G_Edit), .frzb 7, .keep [1, 4, 7, 14, 15, 16], .cmp]
def plan_All_C17 : TC := .ret
def plan_All_C16 : TC := (.pre [.frzb 4] plan_All_C17)
def plan_All_C14 : TC := (.cond (.t 28) (.seq (.rg [⟨⟨some 29, (.load true 2 (.t 7)), none⟩, {}⟩, ⟨⟨some 30, (.mov (.t 8)), none⟩, {}⟩, ⟨⟨some 31, (.mov (.t 11)), none⟩, {}⟩, ⟨⟨none, (.store 2 (.t 4) (.t 29)), none⟩, {}⟩, ⟨⟨some 5, (.mov (.t 30)), none⟩, {}⟩, ⟨⟨some 6, (.mov (.t 31)), none⟩, {}⟩] none) plan_All_C16) .skip)
def plan_All_C15 : TC := (.rg [⟨⟨some 32, (.load true 2 (.t 10)), none⟩, {}⟩, ⟨⟨none, (.store 2 (.t 7) (.t 32)), none⟩, {}⟩] none)
def plan_All_C13 : TC := (.seq (.seq (.rg [⟨⟨some 27, (.mov (.t 11)), none⟩, {}⟩, ⟨⟨some 28, (.bin .neq (.t 27) (.c (I 0))), none⟩, {}⟩] none) plan_All_C14) plan_All_C15)
def plan_All_C10 : TC := (.seq (.rgw [([⟨⟨some 22, (.load true 2 (.t 7)), none⟩, {}⟩, ⟨⟨some 23, (.load true 16 (.t 9)), none⟩, {}⟩], [.frz 22]), ([⟨⟨some 24, (.call (.c (.fn 19 [])) [(.t 22), (.t 23)]), none⟩, {}⟩, ⟨⟨some 21, (.mov (.t 24)), none⟩, {}⟩, ⟨⟨some 25, (.extr 0 (.t 21)), none⟩, {}⟩, ⟨⟨some 26, (.extr 1 (.t 21)),
  none⟩, {}⟩, ⟨⟨some 10, (.alloc [(.lst true []), (.lst true [])]), none⟩, {}⟩, ⟨⟨none, (.store 2 (.t 10) (.t 25)), none⟩, {}⟩, ⟨⟨some 11, (.mov (.t 26)), none⟩, {}⟩], [])]) plan_All_C13)
def plan_All_C11 : TC := (.rg [⟨⟨some 33, (.bin .add (.t 16) (.c (I 1))), none⟩, {}⟩, ⟨⟨some 16, (.mov (.t 33)), none⟩, {}⟩] none)
def plan_All_C7 : TC := (.seq (.block 1 (.seq (.rg [⟨⟨some 18, (.mov (.t 16)), none⟩, {}⟩, ⟨⟨some 19, (.iadrS 16 (.t 14) (.t 16)), none⟩, {}⟩, ⟨⟨some 20, (.load true 16 (.t 19)), none⟩, {}⟩, ⟨⟨some 9, (.alloc [(I 0), (I 0), (B false), (I 0), (I 0), (I 0), (I 0), (B false), (B false), (I 0), (I 0), (I 0), (I 0), (I 0), (I
  0), (I 0)]), none⟩, {}⟩, ⟨⟨some 8, (.mov (.t 18)), none⟩, {}⟩, ⟨⟨none, (.store 16 (.t 9) (.t 20)), none⟩, {}⟩] none) plan_All_C10)) plan_All_C11)
def plan_All_C4 : TC := (.seq (.cond (.t 17) .skip (.exit 0)) plan_All_C7)
def plan_All_C1 : TC := (.seq (.rg [⟨⟨some 17, (.bin .lss (.t 16) (.t 15)), none⟩, {}⟩] none) plan_All_C4)
def plan_All_C8 : TC := .ret
def plan_All_C5 : TC := (.pre [.frzb 4] plan_All_C8)
def plan_All_C2 : TC := (.seq (.rg [⟨⟨some 34, (.load true 2 (.t 7)), none⟩, {}⟩, ⟨⟨some 35, (.mov (.t 1)), none⟩, {}⟩, ⟨⟨some 36, (.len (.t 35)), none⟩, {}⟩, ⟨⟨none, (.store 2 (.t 4) (.t 34)), none⟩, {}⟩, ⟨⟨some 5, (.mov (.t 36)), none⟩, {}⟩, ⟨⟨some 6, (.mov (.c (I 0))), none⟩, {}⟩] none) plan_All_C5)
def plan_All_C12 : TC := (.block 0 (.loop plan_All_N1 plan_All_C1))
def plan_All_C9 : TC := (.seq (.seq (.rg [⟨⟨some 14, (.mov (.t 1)), none⟩, {}⟩, ⟨⟨some 15, (.len (.t 14)), none⟩, {}⟩, ⟨⟨some 16, (.mov (.c (I 0))), none⟩, {}⟩] none) plan_All_C12) plan_All_C2)
def plan_All_C6 : TC := (.seq (.rg [⟨⟨some 12, (.load true 2 (.t 2)), none⟩, {}⟩, ⟨⟨some 13, (.call (.c (.fn 42 [])) [(.t 12)]), none⟩, {}⟩, ⟨⟨some 7, (.alloc [(.lst true []), (.lst true [])]), none⟩, {}⟩, ⟨⟨none, (.store 2 (.t 7) (.t 13)), none⟩, {}⟩] none) plan_All_C9)
def plan_All_C3 : TC := (.seq (.rg [⟨⟨some 2, (.box (.t 0)), none⟩, {}⟩, ⟨⟨some 4, (.alloc [(.lst true []), (.lst true [])]), none⟩, {}⟩, ⟨⟨some 5, (.mov (.c (I 0))), none⟩, {}⟩, ⟨⟨some 6, (.mov (.c (I 0))), none⟩, {}⟩] none) plan_All_C6)
def plan_All_E (N : Nat) : List (Nat × Ent) := [(42, sfE [none] [.v G_Mine] [.o (.p (.a G_Place) (.a G_Road))] (fun x => plan_clone N x)), (19, pureE [G_Mine, G_Edit] [G_Mine, (.int .i64)] (fun x => plan_Apply N x.1 x.2))]
def plan_All_L1 (N : Nat) (n : Nat) (x2 : List T_Edit) (x3 : List T_Edit) (x4 : Int) (x5 : Int) (x6 : List T_Place) (x7 : List T_Road) : Option (T_Mine × Int × Int) := loopN (normI 0 plan_All_N1) (run (plan_All_E N) N 0 plan_All_C1) n ⟨[(1, .lst false G_Edit x2), (4, .ptr 0 0 0), (7, .ptr 1 0 0), (14, .lst false G_Edit x3), (15, .int .i64 x4), (16, .int .i64 x5)], [some (.box 0 [.nil, .nil]), some (.box 0 [.lst false G_Place x6, .lst false G_Road x7])]⟩ (blkK 0 (seqK (run (plan_All_E N) N 0 plan_All_C2) (fin [(.cell 4 true 2), (.t 5), (.t 6)] [G_Mine, (.int .i64), (.int .i64)])))
theorem plan_All_L1_zero (N : Nat) (x2 : List T_Edit) (x3 : List T_Edit) (x4 : Int) (x5 : Int) (x6 : List T_Place) (x7 : List T_Road) : plan_All_L1 N 0 x2 x3 x4 x5 x6 x7 = none := rfl
theorem plan_All_L1_succ (N : Nat) (n1 : Nat) (x2 : List T_Edit) (x3 : List T_Edit) (x4 : Int) (x5 : Int) (x6 : List T_Place) (x7 : List T_Road) : plan_All_L1 N (n1 + 1) x2 x3 x4 x5 x6 x7 =
  bif (decide (x5 < x4)) then
    bif inB x5 x3.length then
    Option.bind (plan_Apply N (x6, x7) (x3.getD x5.toNat D_Edit)) fun r9 =>
    bif (r9.2 != 0) then
      some ((x6, x7), x5, r9.2)
    else
      plan_All_L1 N n1 x2 x3 x4 (W (x5 + 1)) r9.1.1 r9.1.2
    else none
  else
    some ((x6, x7), (x2.length : Int), 0) := by kernel_rfl
def plan_All (N : Nat) (a0 : T_Mine) (a1 : List T_Edit) : Option (T_Mine × Int × Int) :=
  Option.bind (plan_clone N a0) fun r1 =>
  plan_All_L1 N N a1 a1 (a1.length : Int) 0 r1.1.1 r1.1.2
theorem plan_All_fn : FnOK Try.prog 23 37 (fun _ : Nat => false) plan_All_C3.er [(.cell 4 true 2), (.t 5), (.t 6)] := FnOK.mk' Try.func23 (by kernel_rfl) (by kernel_rfl) (by kernel_rfl) (by kernel_rfl) (by kernel_rfl)
theorem plan_All_envok (N : Nat) : EnvOK Try.prog (plan_All_E N) := .cons (sfE_ok (plan_clone_sf N)) (.cons (pureE_ok (plan_Apply_pure N)) (.nil))
theorem plan_All_pure (N : Nat) : PureOK Try.prog 23 [G_Mine, (.list G_Edit)] [G_Mine, (.int .i64), (.int .i64)] (fun x => plan_All N x.1 x.2) := pureOK (N := N) mixed plan_All_fn (plan_All_envok N) (TC.noh_ok (by kernel_rfl)) rfl (fun x => by kernel_rfl)
/-! ref01_All -/
def ref01_All_N1 : List NS := [.wk 1 (.list G_Edit), .keep [1, 2, 4, 7], .cmp]
def ref01_All_C4 : TC := (.cond (.t 13) .skip (.exit 0))
def ref01_All_C15 : TC := .ret
def ref01_All_C14 : TC := (.pre [.frzb 4] ref01_All_C15)
def ref01_All_C12 : TC := (.cond (.t 26) (.seq (.rg [⟨⟨some 27, (.load true 2 (.t 2)), none⟩, {}⟩, ⟨⟨some 28, (.mov (.t 7)), none⟩, {}⟩, ⟨⟨some 29, (.mov (.t 9)), none⟩, {}⟩, ⟨⟨none, (.store 2 (.t 4) (.t 27)), none⟩, {}⟩, ⟨⟨some 5, (.mov (.t 28)), none⟩, {}⟩, ⟨⟨some 6, (.mov (.t 29)), none⟩, {}⟩] none) ref01_All_C14) .skip)
def ref01_All_C13 : TC := (.rg [⟨⟨some 30, (.load true 2 (.t 8)), none⟩, {}⟩, ⟨⟨none, (.store 2 (.t 2) (.t 30)), none⟩, {}⟩] none)
def ref01_All_C8 : TC := (.seq (.seq (.rg [⟨⟨some 25, (.mov (.t 9)), none⟩, {}⟩, ⟨⟨some 26, (.bin .neq (.t 25) (.c (I 0))), none⟩, {}⟩] none) ref01_All_C12) ref01_All_C13)
def ref01_All_C9 : TC := (.rg [⟨⟨some 14, (.mov (.t 7)), none⟩, {}⟩, ⟨⟨some 15, (.bin .add (.t 14) (.c (I 1))), none⟩, {}⟩, ⟨⟨some 7, (.mov (.t 15)), none⟩, {}⟩] none)
def ref01_All_C5 : TC := (.seq (.block 1 (.seq (.pre [.wait] (.rg [⟨⟨some 17, (.load true 2 (.t 2)), none⟩, {}⟩, ⟨⟨some 18, (.mov (.t 1)), none⟩, {}⟩, ⟨⟨some 19, (.mov (.t 7)), none⟩, {}⟩, ⟨⟨some 20, (.iadrS 16 (.t 18) (.t 19)), none⟩, {}⟩, ⟨⟨some 21, (.load true 16 (.t 20)), none⟩, {}⟩, ⟨⟨some 22, (.call (.c (.fn 22 []))
  [(.t 17), (.t 21)]), none⟩, {}⟩, ⟨⟨some 16, (.mov (.t 22)), none⟩, {}⟩, ⟨⟨some 23, (.extr 0 (.t 16)), none⟩, {}⟩, ⟨⟨some 24, (.extr 1 (.t 16)), none⟩, {}⟩, ⟨⟨some 8, (.alloc [(.lst true []), (.lst true [])]), none⟩, ⟨.unit, some 2⟩⟩, ⟨⟨none, (.store 2 (.t 8) (.t 23)), none⟩, {}⟩, ⟨⟨some 9, (.mov
  (.t 24)), none⟩, {}⟩] (some [(0, 9), (3, 9), (4, 9), (5, 9)]))) ref01_All_C8)) ref01_All_C9)
def ref01_All_C1 : TC := (.seq (.seq (.rg [⟨⟨some 10, (.mov (.t 7)), none⟩, {}⟩, ⟨⟨some 11, (.mov (.t 1)), none⟩, {}⟩, ⟨⟨some 12, (.len (.t 11)), none⟩, {}⟩, ⟨⟨some 13, (.bin .lss (.t 10) (.t 12)), none⟩, {}⟩] none) ref01_All_C4) ref01_All_C5)
def ref01_All_C10 : TC := .ret
def ref01_All_C6 : TC := (.pre [.frzb 4] ref01_All_C10)
def ref01_All_C2 : TC := (.seq (.rg [⟨⟨some 31, (.load true 2 (.t 2)), none⟩, {}⟩, ⟨⟨some 32, (.mov (.t 1)), none⟩, {}⟩, ⟨⟨some 33, (.len (.t 32)), none⟩, {}⟩, ⟨⟨none, (.store 2 (.t 4) (.t 31)), none⟩, {}⟩, ⟨⟨some 5, (.mov (.t 33)), none⟩, {}⟩, ⟨⟨some 6, (.mov (.c (I 0))), none⟩, {}⟩] none) ref01_All_C6)
def ref01_All_C11 : TC := (.block 0 (.loop ref01_All_N1 ref01_All_C1))
def ref01_All_C7 : TC := (.seq (.seq (.rg [⟨⟨some 7, (.mov (.c (I 0))), none⟩, {}⟩] none) ref01_All_C11) ref01_All_C2)
def ref01_All_C3 : TC := (.seq (.rg [⟨⟨some 2, (.box (.t 0)), none⟩, {}⟩, ⟨⟨some 4, (.alloc [(.lst true []), (.lst true [])]), none⟩, {}⟩, ⟨⟨some 5, (.mov (.c (I 0))), none⟩, {}⟩, ⟨⟨some 6, (.mov (.c (I 0))), none⟩, {}⟩] none) ref01_All_C7)
def ref01_All_E (N : Nat) : List (Nat × Ent) := [(22, pureE [G_Mine, G_Edit] [G_Mine, (.int .i64)] (fun x => ref01_Apply N x.1 x.2))]
def ref01_All_L1 (N : Nat) (n : Nat) (x1 : List T_Edit) (x2 : Int) (x3 : List T_Place) (x4 : List T_Road) : Option (T_Mine × Int × Int) := loopN (normI 0 ref01_All_N1) (run (ref01_All_E N) N 0 ref01_All_C1) n ⟨[(1, .lst false G_Edit x1), (2, .ptr 0 0 0), (4, .ptr 1 0 0), (7, .int .i64 x2)], [some (.box 0 [.lst false G_Place x3, .lst false G_Road x4]), some (.box 0 [.nil, .nil])]⟩ (blkK 0 (seqK (run (ref01_All_E N) N 0 ref01_All_C2) (fin [(.cell 4 true 2), (.t 5), (.t 6)] [G_Mine, (.int .i64), (.int .i64)])))
theorem ref01_All_L1_zero (N : Nat) (x1 : List T_Edit) (x2 : Int) (x3 : List T_Place) (x4 : List T_Road) : ref01_All_L1 N 0 x1 x2 x3 x4 = none := rfl
theorem ref01_All_L1_succ (N : Nat) (n1 : Nat) (x1 : List T_Edit) (x2 : Int) (x3 : List T_Place) (x4 : List T_Road) : ref01_All_L1 N (n1 + 1) x1 x2 x3 x4 =
  bif (decide (x2 < (x1.length : Int))) then
    bif inB x2 x1.length then
    Option.bind (ref01_Apply N (x3, x4) (x1.getD x2.toNat D_Edit)) fun r6 =>
    bif (r6.2 != 0) then
      some ((x3, x4), x2, r6.2)
    else
      ref01_All_L1 N n1 x1 (W (x2 + 1)) r6.1.1 r6.1.2
    else none
  else
    some ((x3, x4), (x1.length : Int), 0) := by kernel_rfl
def ref01_All (N : Nat) (a0 : T_Mine) (a1 : List T_Edit) : Option (T_Mine × Int × Int) :=
  ref01_All_L1 N N a1 0 a0.1 a0.2
theorem ref01_All_fn : FnOK Try.prog 24 34 (fun _ : Nat => false) ref01_All_C3.er [(.cell 4 true 2), (.t 5), (.t 6)] := FnOK.mk' Try.func24 (by kernel_rfl) (by kernel_rfl) (by kernel_rfl) (by kernel_rfl) (by kernel_rfl)
theorem ref01_All_envok (N : Nat) : EnvOK Try.prog (ref01_All_E N) := .cons (pureE_ok (ref01_Apply_pure N)) (.nil)
theorem ref01_All_pure (N : Nat) : PureOK Try.prog 24 [G_Mine, (.list G_Edit)] [G_Mine, (.int .i64), (.int .i64)] (fun x => ref01_All N x.1 x.2) := pureOK (N := N) mixed ref01_All_fn (ref01_All_envok N) (TC.noh_ok (by kernel_rfl)) rfl (fun x => by kernel_rfl)
/-! ref01_Has -/
def ref01_Has_N1 : List NS := [.wk 0 (.list (.int .i64)), .keep [0, 1, 5], .cmp]
def ref01_Has_C4 : TC := (.cond (.t 9) .skip (.exit 0))
def ref01_Has_C11 : TC := .ret
def ref01_Has_C8 : TC := (.cond (.t 17) (.seq (.rg [⟨⟨some 4, (.mov (.c (B true))), none⟩, {}⟩] none) ref01_Has_C11) .skip)
def ref01_Has_C9 : TC := (.rg [⟨⟨some 10, (.mov (.t 5)), none⟩, {}⟩, ⟨⟨some 11, (.bin .add (.t 10) (.c (I 1))), none⟩, {}⟩, ⟨⟨some 5, (.mov (.t 11)), none⟩, {}⟩] none)
def ref01_Has_C5 : TC := (.seq (.block 1 (.seq (.rg [⟨⟨some 12, (.mov (.t 0)), none⟩, {}⟩, ⟨⟨some 13, (.mov (.t 5)), none⟩, {}⟩, ⟨⟨some 14, (.iadrS 1 (.t 12) (.t 13)), none⟩, {}⟩, ⟨⟨some 15, (.load false 1 (.t 14)), none⟩, {}⟩, ⟨⟨some 16, (.mov (.t 1)), none⟩, {}⟩, ⟨⟨some 17, (.bin .eql (.t 15) (.t 16)), none⟩, {}⟩] none)
  ref01_Has_C8)) ref01_Has_C9)
def ref01_Has_C1 : TC := (.seq (.seq (.rg [⟨⟨some 6, (.mov (.t 5)), none⟩, {}⟩, ⟨⟨some 7, (.mov (.t 0)), none⟩, {}⟩, ⟨⟨some 8, (.len (.t 7)), none⟩, {}⟩, ⟨⟨some 9, (.bin .lss (.t 6) (.t 8)), none⟩, {}⟩] none) ref01_Has_C4) ref01_Has_C5)
def ref01_Has_C6 : TC := .ret
def ref01_Has_C2 : TC := (.seq (.rg [⟨⟨some 4, (.mov (.c (B false))), none⟩, {}⟩] none) ref01_Has_C6)
def ref01_Has_C10 : TC := (.block 0 (.loop ref01_Has_N1 ref01_Has_C1))
def ref01_Has_C7 : TC := (.seq (.seq (.rg [⟨⟨some 5, (.mov (.c (I 0))), none⟩, {}⟩] none) ref01_Has_C10) ref01_Has_C2)
def ref01_Has_C3 : TC := (.seq (.rg [⟨⟨some 4, (.mov (.c (B false))), none⟩, {}⟩] none) ref01_Has_C7)
def ref01_Has_E (N : Nat) : List (Nat × Ent) := []
def ref01_Has_L1 (N : Nat) (n : Nat) (x1 : List Int) (x2 : Int) (x3 : Int) : Option Bool := loopN (normI 0 ref01_Has_N1) (run (ref01_Has_E N) N 0 ref01_Has_C1) n ⟨[(0, .lst false (.int .i64) x1), (1, .int .i64 x2), (5, .int .i64 x3)], []⟩ (blkK 0 (seqK (run (ref01_Has_E N) N 0 ref01_Has_C2) (fin [(.t 4)] [.bool])))
theorem ref01_Has_L1_zero (N : Nat) (x1 : List Int) (x2 : Int) (x3 : Int) : ref01_Has_L1 N 0 x1 x2 x3 = none := rfl
theorem ref01_Has_L1_succ (N : Nat) (n1 : Nat) (x1 : List Int) (x2 : Int) (x3 : Int) : ref01_Has_L1 N (n1 + 1) x1 x2 x3 =
  bif (decide (x3 < (x1.length : Int))) then
    bif inB x3 x1.length then
    bif ((x1.getD x3.toNat 0) == x2) then
      some true
    else
      ref01_Has_L1 N n1 x1 x2 (W (x3 + 1))
    else none
  else
    some false := by kernel_rfl
def ref01_Has (N : Nat) (a0 : List Int) (a1 : Int) : Option Bool :=
  ref01_Has_L1 N N a0 a1 0
theorem ref01_Has_fn : FnOK Try.prog 26 18 (fun _ : Nat => false) ref01_Has_C3.er [(.t 4)] := FnOK.mk' Try.func26 (by kernel_rfl) (by kernel_rfl) (by kernel_rfl) (by kernel_rfl) (by kernel_rfl)
theorem ref01_Has_envok (N : Nat) : EnvOK Try.prog (ref01_Has_E N) := .nil
theorem ref01_Has_pure (N : Nat) : PureOK Try.prog 26 [(.list (.int .i64)), (.int .i64)] [.bool] (fun x => ref01_Has N x.1 x.2) := pureOK (N := N) mixed ref01_Has_fn (ref01_Has_envok N) (TC.noh_ok (by kernel_rfl)) rfl (fun x => by kernel_rfl)
/-! plan_Parts -/
def plan_Parts_C7 : TC := .ret
def plan_Parts_C5 : TC := (.pre [.frz 2] plan_Parts_C7)
def plan_Parts_C3 : TC := (.cond (.t 10) (.seq (.rg [⟨⟨some 2, (.mov (.c (.lst true []))), none⟩, {}⟩] none) plan_Parts_C5) .skip)
def plan_Parts_C10 : TC := .ret
def plan_Parts_C9 : TC := (.pre [.frz 2] plan_Parts_C10)
def plan_Parts_C8 : TC := (.seq (.rg [⟨⟨some 36, (.mov (.t 5)), none⟩, {}⟩, ⟨⟨some 2, (.mov (.t 36)), none⟩, {}⟩] none) plan_Parts_C9)
def plan_Parts_C6 : TC := (.hand [parts_A, parts_B] (.list (.list (.int .i64))) parts_g parts_u plan_Parts_C8)
def plan_Parts_C4 : TC := (.seq (.rg [⟨⟨some 12, (.load true 2 (.t 1)), none⟩, {}⟩, ⟨⟨some 13, (.call (.c (.fn 43 [])) [(.t 12)]), none⟩, {}⟩, ⟨⟨some 11, (.mov (.t 13)), none⟩, {}⟩, ⟨⟨some 14, (.extr 0 (.t 11)), none⟩, {}⟩, ⟨⟨some 15, (.extr 1 (.t 11)), none⟩, {}⟩, ⟨⟨some 3, (.mov (.t 14)), none⟩, {}⟩, ⟨⟨some 4, (.mov (.t
  15)), none⟩, {}⟩] none) plan_Parts_C6)
def plan_Parts_C2 : TC := (.seq (.seq (.rg [⟨⟨some 8, (.load true 2 (.t 1)), none⟩, {}⟩, ⟨⟨some 9, (.call (.c (.fn 14 [])) [(.t 8)]), none⟩, {}⟩, ⟨⟨some 10, (.un .not (.t 9)), none⟩, {}⟩] none) plan_Parts_C3) plan_Parts_C4)
def plan_Parts_C1 : TC := (.seq (.rg [⟨⟨some 1, (.box (.t 0)), none⟩, {}⟩, ⟨⟨some 2, (.mov (.c (.lst true []))), none⟩, {}⟩] none) plan_Parts_C2)
def plan_Parts_E (N : Nat) : List (Nat × Ent) := [(14, pureE [G_Mine] [.bool] (fun x => plan_Valid N x)), (43, pureE [G_Mine] [(.list (.int .i64)), (.int .i64)] (fun x => plan_part N x))]
def plan_Parts (N : Nat) (a0 : T_Mine) : Option (List (List Int)) :=
  Option.bind (plan_Valid N a0) fun r1 =>
  bif (!r1) then
    some []
  else
    Option.bind (plan_part N a0) fun r2 =>
    Option.bind (outsM r2.2 r2.1) fun r3 =>
    some r3
theorem plan_Parts_fn : FnOK Try.prog 27 37 (fun _ : Nat => false) plan_Parts_C1.er [(.t 2)] := FnOK.mk' Try.func27 (by kernel_rfl) (by kernel_rfl) (by kernel_rfl) (by kernel_rfl) (by kernel_rfl)
theorem plan_Parts_envok (N : Nat) : EnvOK Try.prog (plan_Parts_E N) := .cons (pureE_ok (plan_Valid_pure N)) (.cons (pureE_ok (plan_part_pure N)) (.nil))
theorem plan_Parts_pure (N : Nat) : PureOK Try.prog 27 [G_Mine] [(.list (.list (.int .i64)))] (fun x => plan_Parts N x) := pureOK (N := N) mixed plan_Parts_fn (plan_Parts_envok N) (And.intro trivial (And.intro (And.intro trivial (And.intro (And.intro trivial trivial) trivial)) (And.intro trivial (And.intro parts_hand (And.intro trivial trivial))))) rfl (fun x => by kernel_rfl)
/-! law01_PlanBack -/
def law01_PlanBack_N1 : List NS := [.wk 15 (.list (.int .i64)), .wk 16 (.list (.int .i64)), .keep [13, 14, 15, 16, 17], .cmp]
def law01_PlanBack_C6 : TC := (.cond (.t 80) .skip (.exit 0))
def law01_PlanBack_C18 : TC := .ret
def law01_PlanBack_C12 : TC := (.cond (.t 89) (.seq (.rg [⟨⟨some 4, (.mov (.c (B false))), none⟩, {}⟩] none) law01_PlanBack_C18) .skip)
def law01_PlanBack_C13 : TC := (.rg [⟨⟨some 81, (.mov (.t 17)), none⟩, {}⟩, ⟨⟨some 82, (.bin .add (.t 81) (.c (I 1))), none⟩, {}⟩, ⟨⟨some 17, (.mov (.t 82)), none⟩, {}⟩] none)
def law01_PlanBack_C7 : TC := (.seq (.block 1 (.seq (.rg [⟨⟨some 83, (.mov (.t 15)), none⟩, {}⟩, ⟨⟨some 84, (.mov (.t 16)), none⟩, {}⟩, ⟨⟨some 85, (.mov (.t 17)), none⟩, {}⟩, ⟨⟨some 86, (.iadrS 1 (.t 84) (.t 85)), none⟩, {}⟩, ⟨⟨some 87, (.load false 1 (.t 86)), none⟩, {}⟩, ⟨⟨some 88, (.call (.c (.fn 26 [])) [(.t 83), (.t 87)]),
  none⟩, {}⟩, ⟨⟨some 89, (.un .not (.t 88)), none⟩, {}⟩] none) law01_PlanBack_C12)) law01_PlanBack_C13)
def law01_PlanBack_C1 : TC := (.seq (.seq (.rg [⟨⟨some 77, (.mov (.t 17)), none⟩, {}⟩, ⟨⟨some 78, (.mov (.t 16)), none⟩, {}⟩, ⟨⟨some 79, (.len (.t 78)), none⟩, {}⟩, ⟨⟨some 80, (.bin .lss (.t 77) (.t 79)), none⟩, {}⟩] none) law01_PlanBack_C6) law01_PlanBack_C7)
def law01_PlanBack_C8 : TC := .ret
def law01_PlanBack_C2 : TC := (.seq (.rg [⟨⟨some 90, (.load true 2 (.t 13)), none⟩, {}⟩, ⟨⟨some 91, (.call (.c (.fn 27 [])) [(.t 90)]), none⟩, {}⟩, ⟨⟨some 92, (.len (.t 91)), none⟩, {}⟩, ⟨⟨some 93, (.load true 2 (.t 14)), none⟩, {}⟩, ⟨⟨some 94, (.call (.c (.fn 27 [])) [(.t 93)]), none⟩, {}⟩, ⟨⟨some 95, (.len (.t 94)), none⟩, {}⟩,
  ⟨⟨some 96, (.bin .geq (.t 92) (.t 95)), none⟩, {}⟩, ⟨⟨some 97, (.mov (.t 96)), none⟩, {}⟩, ⟨⟨some 98, (.call (.c (.fn 15 [])) []), some (97, true)⟩, {}⟩, ⟨⟨some 99, (.pick (.t 97) (.t 98) (.c (B false))), none⟩, {}⟩, ⟨⟨some 4, (.mov (.t 99)), none⟩, {}⟩] (some [(1, 3), (2, 4)])) law01_PlanBack_C8)
def law01_PlanBack_C14 : TC := (.cond (.t 70) (.rg [⟨⟨some 71, (.load true 2 (.t 5)), none⟩, {}⟩, ⟨⟨some 72, (.load true 2 (.t 9)), none⟩, {}⟩, ⟨⟨none, (.store 2 (.t 13) (.t 71)), none⟩, {}⟩, ⟨⟨none, (.store 2 (.t 14) (.t 72)), none⟩, {}⟩] (some [(1, 2)])) .skip)
def law01_PlanBack_C24 : TC := (.block 0 (.loop law01_PlanBack_N1 law01_PlanBack_C1))
def law01_PlanBack_C19 : TC := (.seq (.seq (.rg [⟨⟨some 17, (.mov (.c (I 0))), none⟩, {}⟩] none) law01_PlanBack_C24) law01_PlanBack_C2)
def law01_PlanBack_C15 : TC := (.seq (.rg [⟨⟨some 73, (.load true 2 (.t 13)), none⟩, {}⟩, ⟨⟨some 74, (.call (.c (.fn 25 [])) [(.t 73)]), none⟩, {}⟩, ⟨⟨some 75, (.load true 2 (.t 14)), none⟩, {}⟩, ⟨⟨some 76, (.call (.c (.fn 25 [])) [(.t 75)]), none⟩, {}⟩, ⟨⟨some 15, (.mov (.t 74)), none⟩, {}⟩, ⟨⟨some 16, (.mov (.t 76)), none⟩, {}⟩]
  (some [(1, 2)])) law01_PlanBack_C19)
def law01_PlanBack_C9 : TC := (.seq (.seq (.rg [⟨⟨some 69, (.mov (.t 7)), none⟩, {}⟩, ⟨⟨some 70, (.bin .eql (.t 69) (.c (I 4))), none⟩, {}⟩] none) law01_PlanBack_C14) law01_PlanBack_C15)
def law01_PlanBack_C3 : TC := (.seq (.pre [.wait, .wait] (.rg [⟨⟨some 67, (.load true 2 (.t 9)), none⟩, {}⟩, ⟨⟨some 68, (.load true 2 (.t 5)), none⟩, {}⟩, ⟨⟨some 13, (.alloc [(.lst true []), (.lst true [])]), none⟩, ⟨.unit, some 2⟩⟩, ⟨⟨some 14, (.alloc [(.lst true []), (.lst true [])]), none⟩, ⟨.unit, some 3⟩⟩, ⟨⟨none, (.store 2
  (.t 13) (.t 67)), none⟩, {}⟩, ⟨⟨none, (.store 2 (.t 14) (.t 68)), none⟩, {}⟩] (some [(0, 2), (1, 2), (0, 3), (1, 3), (2, 3), (1, 4)]))) law01_PlanBack_C9)
def law01_PlanBack_C25 : TC := .ret
def law01_PlanBack_C20 : TC := (.cond (.t 66) (.seq (.rg [⟨⟨some 4, (.mov (.c (B false))), none⟩, {}⟩] none) law01_PlanBack_C25) .skip)
def law01_PlanBack_C21 : TC := (.join [.keep [5, 7, 9], .cmp] law01_PlanBack_C3)
def law01_PlanBack_C16 : TC := (.seq (.seq (.rg [⟨⟨some 55, (.mov (.t 10)), none⟩, {}⟩, ⟨⟨some 56, (.bin .neq (.t 55) (.c (I 0))), none⟩, {}⟩, ⟨⟨some 57, (.mov (.t 56)), none⟩, {}⟩, ⟨⟨some 58, (.mov (.t 12)), some (57, false)⟩, {}⟩, ⟨⟨some 59, (.bin .neq (.t 58) (.c (I 0))), some (57, false)⟩, {}⟩, ⟨⟨some 60, (.pick (.t 57) (.c (B
  true)) (.t 59)), none⟩, {}⟩, ⟨⟨some 61, (.mov (.t 60)), none⟩, {}⟩, ⟨⟨some 62, (.load true 2 (.t 11)), some (61, false)⟩, {}⟩, ⟨⟨some 63, (.load true 2 (.t 5)), some (61, false)⟩, {}⟩, ⟨⟨some 64, (.call (.c (.fn 20 [])) [(.t 62), (.t 63)]), some (61, false)⟩, {}⟩, ⟨⟨some 65, (.un .not (.t 64)),
  some (61, false)⟩, {}⟩, ⟨⟨some 66, (.pick (.t 61) (.c (B true)) (.t 65)), none⟩, {}⟩] none) law01_PlanBack_C20) law01_PlanBack_C21)
def law01_PlanBack_C10 : TC := (.seq (.rg [⟨⟨some 48, (.load true 2 (.t 9)), none⟩, {}⟩, ⟨⟨some 49, (.mov (.t 8)), none⟩, {}⟩, ⟨⟨some 50, (.mov (.t 6)), none⟩, {}⟩, ⟨⟨some 51, (.build [(I 0), (I 0), (B false), (I 0), (I 0), (I 0), (I 0), (B false), (B false), (I 0), (I 0), (I 0), (I 0), (I 0), (I 0), (I 0)] [(0, (1, (.t 49))),
  (13, (1, (.t 50)))]), none⟩, {}⟩, ⟨⟨some 52, (.call (.c (.fn 19 [])) [(.t 48), (.t 51)]), none⟩, {}⟩, ⟨⟨some 47, (.mov (.t 52)), none⟩, {}⟩, ⟨⟨some 53, (.extr 0 (.t 47)), none⟩, {}⟩, ⟨⟨some 54, (.extr 1 (.t 47)), none⟩, {}⟩, ⟨⟨some 11, (.alloc [(.lst true []), (.lst true [])]), none⟩, {}⟩, ⟨⟨none,
  (.store 2 (.t 11) (.t 53)), none⟩, {}⟩, ⟨⟨some 12, (.mov (.t 54)), none⟩, {}⟩] none) law01_PlanBack_C16)
def law01_PlanBack_C4 : TC := (.seq (.rg [⟨⟨some 40, (.load true 2 (.t 5)), none⟩, {}⟩, ⟨⟨some 41, (.mov (.t 7)), none⟩, {}⟩, ⟨⟨some 42, (.mov (.t 6)), none⟩, {}⟩, ⟨⟨some 43, (.build [(I 0), (I 0), (B false), (I 0), (I 0), (I 0), (I 0), (B false), (B false), (I 0), (I 0), (I 0), (I 0), (I 0), (I 0), (I 0)] [(0, (1, (.t 41))),
  (13, (1, (.t 42)))]), none⟩, {}⟩, ⟨⟨some 44, (.call (.c (.fn 19 [])) [(.t 40), (.t 43)]), none⟩, {}⟩, ⟨⟨some 39, (.mov (.t 44)), none⟩, {}⟩, ⟨⟨some 45, (.extr 0 (.t 39)), none⟩, {}⟩, ⟨⟨some 46, (.extr 1 (.t 39)), none⟩, {}⟩, ⟨⟨some 9, (.alloc [(.lst true []), (.lst true [])]), none⟩, {}⟩, ⟨⟨none,
  (.store 2 (.t 9) (.t 45)), none⟩, {}⟩, ⟨⟨some 10, (.mov (.t 46)), none⟩, {}⟩] none) law01_PlanBack_C10)
def law01_PlanBack_C26 : TC := .ret
def law01_PlanBack_C22 : TC := (.cond (.t 24) (.seq (.rg [⟨⟨some 25, (.call (.c (.fn 15 [])) []), none⟩, {}⟩, ⟨⟨some 4, (.mov (.t 25)), none⟩, {}⟩] none) law01_PlanBack_C26) .skip)
def law01_PlanBack_C29 : TC := (.cond (.t 36) (.rg [⟨⟨some 37, (.mov (.t 8)), none⟩, {}⟩, ⟨⟨some 38, (.mov (.t 7)), none⟩, {}⟩, ⟨⟨some 7, (.mov (.t 37)), none⟩, {}⟩, ⟨⟨some 8, (.mov (.t 38)), none⟩, {}⟩] none) .skip)
def law01_PlanBack_C30 : TC := (.join [.keep [5, 6, 7, 8], .cmp] law01_PlanBack_C4)
def law01_PlanBack_C28 : TC := (.seq (.seq (.rg [⟨⟨some 31, (.fadr 1 (.t 5)), none⟩, {}⟩, ⟨⟨some 32, (.load false 1 (.t 31)), none⟩, {}⟩, ⟨⟨some 33, (.mov (.t 6)), none⟩, {}⟩, ⟨⟨some 34, (.iadrS 10 (.t 32) (.t 33)), none⟩, {}⟩, ⟨⟨some 35, (.fadr 5 (.t 34)), none⟩, {}⟩, ⟨⟨some 36, (.load false 1 (.t 35)), none⟩, {}⟩] none)
  law01_PlanBack_C29) law01_PlanBack_C30)
def law01_PlanBack_C27 : TC := (.seq (.rg [⟨⟨some 7, (.mov (.c (I 3))), none⟩, {}⟩, ⟨⟨some 8, (.mov (.c (I 4))), none⟩, {}⟩] none) law01_PlanBack_C28)
def law01_PlanBack_C23 : TC := (.seq (.rg [⟨⟨some 26, (.mov (.t 1)), none⟩, {}⟩, ⟨⟨some 27, (.fadr 1 (.t 5)), none⟩, {}⟩, ⟨⟨some 28, (.load false 1 (.t 27)), none⟩, {}⟩, ⟨⟨some 29, (.len (.t 28)), none⟩, {}⟩, ⟨⟨some 30, (.call (.c (.fn 18 [])) [(.t 26), (.t 29)]), none⟩, {}⟩, ⟨⟨some 6, (.mov (.t 30)), none⟩, {}⟩] none)
  law01_PlanBack_C27)
def law01_PlanBack_C17 : TC := (.seq (.seq (.rg [⟨⟨some 21, (.fadr 1 (.t 5)), none⟩, {}⟩, ⟨⟨some 22, (.load false 1 (.t 21)), none⟩, {}⟩, ⟨⟨some 23, (.len (.t 22)), none⟩, {}⟩, ⟨⟨some 24, (.bin .eql (.t 23) (.c (I 0))), none⟩, {}⟩] none) law01_PlanBack_C22) law01_PlanBack_C23)
def law01_PlanBack_C11 : TC := (.seq (.rg [⟨⟨some 18, (.mov (.t 0)), none⟩, {}⟩, ⟨⟨some 19, (.call (.c (.fn 10 [])) [(.t 18)]), none⟩, {}⟩, ⟨⟨some 20, (.call (.c (.fn 11 [])) [(.t 19)]), none⟩, {}⟩, ⟨⟨some 5, (.alloc [(.lst true []), (.lst true [])]), none⟩, {}⟩, ⟨⟨none, (.store 2 (.t 5) (.t 20)), none⟩, {}⟩] none)
  law01_PlanBack_C17)
def law01_PlanBack_C5 : TC := (.seq (.rg [⟨⟨some 4, (.mov (.c (B false))), none⟩, {}⟩] none) law01_PlanBack_C11)
def law01_PlanBack_E (N : Nat) : List (Nat × Ent) := [(10, sfE [none] [.v (.list (.int .u8))] [.n G_Codes] (fun x => draw_New N x)), (11, sfE [none] [.b (.v G_Codes)] [.v G_Mine] (fun x => draw_Codes_Mine N x)), (15, pureE [] [.bool] (fun x => law01_awake N)), (18, pureE [(.int .i64), (.int .i64)] [(.int .i64)] (fun x => draw_Mod N x.1 x.2)), (19, pureE [G_Mine, G_Edit] [G_Mine, (.int .i64)] (fun x => plan_Apply N x.1 x.2)), (20, pureE [G_Mine, G_Mine] [.bool] (fun x => ref01_Same N x.1 x.2)), (25, pureE [G_Mine] [(.list (.int .i64))] (fun x => plan_CutOff N x)), (26, pureE [(.list (.int .i64)), (.int .i64)] [.bool] (fun x => ref01_Has N x.1 x.2)), (27, pureE [G_Mine] [(.list (.list (.int .i64)))] (fun x => plan_Parts N x))]
def law01_PlanBack_L1 (N : Nat) (n : Nat) (x21 : List Int) (x22 : List Int) (x23 : Int) (x24 : List T_Place) (x25 : List T_Road) (x26 : List T_Place) (x27 : List T_Road) : Option Bool := loopN (normI 0 law01_PlanBack_N1) (run (law01_PlanBack_E N) N 0 law01_PlanBack_C1) n ⟨[(13, .ptr 0 0 0), (14, .ptr 1 0 0), (15, .lst false (.int .i64) x21), (16, .lst false (.int .i64) x22), (17, .int .i64 x23)], [some (.box 1 [.lst false G_Place x24, .lst false G_Road x25]), some (.box 1 [.lst false G_Place x26, .lst false G_Road x27])]⟩ (blkK 0 (seqK (run (law01_PlanBack_E N) N 0 law01_PlanBack_C2) (fin [(.t 4)] [.bool])))
def law01_PlanBack_J2 (N : Nat) (x14 : Int) (x15 : List T_Place) (x16 : List T_Road) (x17 : List T_Place) (x18 : List T_Road) : Option Bool := joinN (run (law01_PlanBack_E N) N 0 law01_PlanBack_C3) N ⟨[(5, .ptr 0 0 0), (7, .int .i64 x14), (9, .ptr 1 0 0)], [some (.box 0 [.lst false G_Place x15, .lst false G_Road x16]), some (.box 0 [.lst false G_Place x17, .lst false G_Road x18])]⟩ (fin [(.t 4)] [.bool])
def law01_PlanBack_J1 (N : Nat) (x6 : Int) (x7 : Int) (x8 : Int) (x9 : List T_Place) (x10 : List T_Road) : Option Bool := joinN (run (law01_PlanBack_E N) N 0 law01_PlanBack_C4) N ⟨[(5, .ptr 0 0 0), (6, .int .i64 x6), (7, .int .i64 x7), (8, .int .i64 x8)], [some (.box 0 [.lst false G_Place x9, .lst false G_Road x10])]⟩ (fin [(.t 4)] [.bool])
theorem law01_PlanBack_L1_zero (N : Nat) (x21 : List Int) (x22 : List Int) (x23 : Int) (x24 : List T_Place) (x25 : List T_Road) (x26 : List T_Place) (x27 : List T_Road) : law01_PlanBack_L1 N 0 x21 x22 x23 x24 x25 x26 x27 = none := rfl
theorem law01_PlanBack_L1_succ (N : Nat) (n1 : Nat) (x21 : List Int) (x22 : List Int) (x23 : Int) (x24 : List T_Place) (x25 : List T_Road) (x26 : List T_Place) (x27 : List T_Road) : law01_PlanBack_L1 N (n1 + 1) x21 x22 x23 x24 x25 x26 x27 =
  bif (decide (x23 < (x22.length : Int))) then
    bif inB x23 x22.length then
    Option.bind (ref01_Has N x21 (x22.getD x23.toNat 0)) fun r28 =>
    bif (!r28) then
      some false
    else
      law01_PlanBack_L1 N n1 x21 x22 (W (x23 + 1)) x24 x25 x26 x27
    else none
  else
    Option.bind (plan_Parts N (x24, x25)) fun r36 =>
    Option.bind (plan_Parts N (x26, x27)) fun r37 =>
    bif (decide ((r36.length : Int) ≥ (r37.length : Int))) then
      Option.bind (law01_awake N) fun r38 =>
      some r38
    else
      some false := by kernel_rfl
theorem law01_PlanBack_J2_eqM (N JM : Nat) (x14 : Int) (x15 : List T_Place) (x16 : List T_Road) (x17 : List T_Place) (x18 : List T_Road) : joinN (run (law01_PlanBack_E N) N 0 law01_PlanBack_C3) (JM + 1) ⟨[(5, .ptr 0 0 0), (7, .int .i64 x14), (9, .ptr 1 0 0)], [some (.box 0 [.lst false G_Place x15, .lst false G_Road x16]), some (.box 0 [.lst false G_Place x17, .lst false G_Road x18])]⟩ (fin [(.t 4)] [.bool]) =
  bif (x14 == 4) then
    Option.bind (plan_CutOff N (x15, x16)) fun r19 =>
    Option.bind (plan_CutOff N (x17, x18)) fun r20 =>
    law01_PlanBack_L1 N N r19 r20 0 x15 x16 x17 x18
  else
    Option.bind (plan_CutOff N (x17, x18)) fun r46 =>
    Option.bind (plan_CutOff N (x15, x16)) fun r47 =>
    law01_PlanBack_L1 N N r46 r47 0 x17 x18 x15 x16 := by kernel_rfl
theorem law01_PlanBack_J2_eq (N : Nat) (x14 : Int) (x15 : List T_Place) (x16 : List T_Road) (x17 : List T_Place) (x18 : List T_Road) : law01_PlanBack_J2 (N + 1) x14 x15 x16 x17 x18 =
  bif (x14 == 4) then
    Option.bind (plan_CutOff (N + 1) (x15, x16)) fun r19 =>
    Option.bind (plan_CutOff (N + 1) (x17, x18)) fun r20 =>
    law01_PlanBack_L1 (N + 1) (N + 1) r19 r20 0 x15 x16 x17 x18
  else
    Option.bind (plan_CutOff (N + 1) (x17, x18)) fun r46 =>
    Option.bind (plan_CutOff (N + 1) (x15, x16)) fun r47 =>
    law01_PlanBack_L1 (N + 1) (N + 1) r46 r47 0 x17 x18 x15 x16 := law01_PlanBack_J2_eqM (N + 1) N x14 x15 x16 x17 x18
theorem law01_PlanBack_J1_eqM (N JM : Nat) (x6 : Int) (x7 : Int) (x8 : Int) (x9 : List T_Place) (x10 : List T_Road) : joinN (run (law01_PlanBack_E N) N 0 law01_PlanBack_C4) (JM + 1) ⟨[(5, .ptr 0 0 0), (6, .int .i64 x6), (7, .int .i64 x7), (8, .int .i64 x8)], [some (.box 0 [.lst false G_Place x9, .lst false G_Road x10])]⟩ (fin [(.t 4)] [.bool]) =
  Option.bind (plan_Apply N (x9, x10) (x7, ((0, false), ((0, (0, (0, (0, (false, (false, ((0, 0), (0, 0)))))))), (x6, (0, 0)))))) fun r11 =>
  Option.bind (plan_Apply N r11.1 (x8, ((0, false), ((0, (0, (0, (0, (false, (false, ((0, 0), (0, 0)))))))), (x6, (0, 0)))))) fun r12 =>
  bif (r11.2 != 0) then
    some false
  else
    bif (r12.2 != 0) then
      some false
    else
      Option.bind (ref01_Same N r12.1 (x9, x10)) fun r13 =>
      bif (!r13) then
        some false
      else
        law01_PlanBack_J2 N x7 x9 x10 r11.1.1 r11.1.2 := by kernel_rfl
theorem law01_PlanBack_J1_eq (N : Nat) (x6 : Int) (x7 : Int) (x8 : Int) (x9 : List T_Place) (x10 : List T_Road) : law01_PlanBack_J1 (N + 1) x6 x7 x8 x9 x10 =
  Option.bind (plan_Apply (N + 1) (x9, x10) (x7, ((0, false), ((0, (0, (0, (0, (false, (false, ((0, 0), (0, 0)))))))), (x6, (0, 0)))))) fun r11 =>
  Option.bind (plan_Apply (N + 1) r11.1 (x8, ((0, false), ((0, (0, (0, (0, (false, (false, ((0, 0), (0, 0)))))))), (x6, (0, 0)))))) fun r12 =>
  bif (r11.2 != 0) then
    some false
  else
    bif (r12.2 != 0) then
      some false
    else
      Option.bind (ref01_Same (N + 1) r12.1 (x9, x10)) fun r13 =>
      bif (!r13) then
        some false
      else
        law01_PlanBack_J2 (N + 1) x7 x9 x10 r11.1.1 r11.1.2 := law01_PlanBack_J1_eqM (N + 1) N x6 x7 x8 x9 x10
def law01_PlanBack (N : Nat) (a0 : List Int) (a1 : Int) : Option Bool :=
  Option.bind (draw_New N a0) fun r1 =>
  Option.bind (draw_Codes_Mine N r1.1) fun r2 =>
  bif ((r2.1.2.length : Int) == 0) then
    Option.bind (law01_awake N) fun r3 =>
    some r3
  else
    Option.bind (draw_Mod N a1 (r2.1.2.length : Int)) fun r4 =>
    bif inB r4 r2.1.2.length then
    bif (r2.1.2.getD r4.toNat D_Road).2.2.2.2.2.1 then
      law01_PlanBack_J1 N r4 4 3 r2.1.1 r2.1.2
    else
      law01_PlanBack_J1 N r4 3 4 r2.1.1 r2.1.2
    else none
theorem law01_PlanBack_fn : FnOK Try.prog 6 100 (fun _ : Nat => false) law01_PlanBack_C5.er [(.t 4)] := FnOK.mk' Try.func6 (by kernel_rfl) (by kernel_rfl) (by kernel_rfl) (by kernel_rfl) (by kernel_rfl)
theorem law01_PlanBack_envok (N : Nat) : EnvOK Try.prog (law01_PlanBack_E N) := .cons (sfE_ok (draw_New_sf N)) (.cons (sfE_ok (draw_Codes_Mine_sf N)) (.cons (pureE_ok (law01_awake_pure N)) (.cons (pureE_ok (draw_Mod_pure N)) (.cons (pureE_ok (plan_Apply_pure N)) (.cons (pureE_ok (ref01_Same_pure N)) (.cons (pureE_ok (plan_CutOff_pure N)) (.cons (pureE_ok (ref01_Has_pure N)) (.cons (pureE_ok (plan_Parts_pure N)) (.nil)))))))))
theorem law01_PlanBack_pure (N : Nat) : PureOK Try.prog 6 [(.list (.int .u8)), (.int .i64)] [.bool] (fun x => law01_PlanBack N x.1 x.2) := pureOK (N := N) mixed law01_PlanBack_fn (law01_PlanBack_envok N) (TC.noh_ok (by kernel_rfl)) rfl (fun x => by kernel_rfl)
/-! law01_PlanParts -/
def law01_PlanParts_N1 : List NS := [.wk 4 (.list (.list (.int .i64))), .wk 5 (.list (.int .i64)), .wk 6 (.list (.int .i64)), .keep [3, 4, 5, 6, 7, 8], .cmp]
def law01_PlanParts_N2 : List NS := [.wk 4 (.list (.list (.int .i64))), .wk 5 (.list (.int .i64)), .wk 6 (.list (.int .i64)), .keep [3, 4, 5, 6, 7, 8, 9, 10, 11], .cmp]
def law01_PlanParts_N3 : List NS := [.wk 6 (.list (.int .i64)), .keep [3, 6, 13], .cmp]
def law01_PlanParts_N4 : List NS := [.wk 6 (.list (.int .i64)), .keep [3, 6, 14], .cmp]
def law01_PlanParts_C11 : TC := (.cond (.t 39) .skip (.exit 2))
def law01_PlanParts_C43 : TC := .ret
def law01_PlanParts_C37 : TC := (.cond (.t 56) (.seq (.rg [⟨⟨some 2, (.mov (.c (B false))), none⟩, {}⟩] none) law01_PlanParts_C43) .skip)
def law01_PlanParts_C49 : TC := (.cond (.t 73) (.rg [⟨⟨some 74, (.mov (.t 10)), none⟩, {}⟩, ⟨⟨some 75, (.bin .add (.t 74) (.c (I 1))), none⟩, {}⟩, ⟨⟨some 10, (.mov (.t 75)), none⟩, {}⟩] none) .skip)
def law01_PlanParts_C47 : TC := (.seq (.rg [⟨⟨some 71, (.mov (.t 5)), none⟩, {}⟩, ⟨⟨some 72, (.mov (.t 12)), none⟩, {}⟩, ⟨⟨some 73, (.call (.c (.fn 26 [])) [(.t 71), (.t 72)]), none⟩, {}⟩] none) law01_PlanParts_C49)
def law01_PlanParts_C44 : TC := (.seq (.rg [⟨⟨some 62, (.mov (.t 9)), none⟩, {}⟩, ⟨⟨some 63, (.mov (.t 62)), none⟩, {}⟩, ⟨⟨some 64, (.fadr 0 (.t 3)), some (63, false)⟩, {}⟩, ⟨⟨some 65, (.load false 1 (.t 64)), some (63, false)⟩, {}⟩, ⟨⟨some 66, (.mov (.t 12)), some (63, false)⟩, {}⟩, ⟨⟨some 67, (.iadrS 2 (.t 65) (.t 66)), some (63,
  false)⟩, {}⟩, ⟨⟨some 68, (.fadr 1 (.t 67)), some (63, false)⟩, {}⟩, ⟨⟨some 69, (.load false 1 (.t 68)), some (63, false)⟩, {}⟩, ⟨⟨some 70, (.pick (.t 63) (.c (B true)) (.t 69)), none⟩, {}⟩, ⟨⟨some 9, (.mov (.t 70)), none⟩, {}⟩] none) law01_PlanParts_C47)
def law01_PlanParts_C38 : TC := (.seq (.rg [⟨⟨some 57, (.mov (.t 6)), none⟩, {}⟩, ⟨⟨some 58, (.mov (.t 12)), none⟩, {}⟩, ⟨⟨some 59, (.mov (.t 8)), none⟩, {}⟩, ⟨⟨some 60, (.bin .add (.t 59) (.c (I 1))), none⟩, {}⟩, ⟨⟨some 61, (.iadrS 1 (.t 57) (.t 58)), none⟩, {}⟩, ⟨⟨none, (.store 1 (.t 61) (.t 60)), none⟩, {}⟩] none)
  law01_PlanParts_C44)
def law01_PlanParts_C26 : TC := (.seq (.seq (.rg [⟨⟨some 49, (.mov (.t 12)), none⟩, {}⟩, ⟨⟨some 50, (.bin .lss (.t 49) (.c (I 0))), none⟩, {}⟩, ⟨⟨some 51, (.mov (.t 50)), none⟩, {}⟩, ⟨⟨some 52, (.mov (.t 12)), some (51, false)⟩, {}⟩, ⟨⟨some 53, (.mov (.t 6)), some (51, false)⟩, {}⟩, ⟨⟨some 54, (.len (.t 53)), some (51, false)⟩,
  {}⟩, ⟨⟨some 55, (.bin .geq (.t 52) (.t 54)), some (51, false)⟩, {}⟩, ⟨⟨some 56, (.pick (.t 51) (.c (B true)) (.t 55)), none⟩, {}⟩] none) law01_PlanParts_C37) law01_PlanParts_C38)
def law01_PlanParts_C27 : TC := (.rg [⟨⟨some 40, (.mov (.t 11)), none⟩, {}⟩, ⟨⟨some 41, (.bin .add (.t 40) (.c (I 1))), none⟩, {}⟩, ⟨⟨some 11, (.mov (.t 41)), none⟩, {}⟩] none)
def law01_PlanParts_C12 : TC := (.seq (.block 3 (.seq (.rg [⟨⟨some 42, (.mov (.t 4)), none⟩, {}⟩, ⟨⟨some 43, (.mov (.t 8)), none⟩, {}⟩, ⟨⟨some 44, (.iadrS 1 (.t 42) (.t 43)), none⟩, {}⟩, ⟨⟨some 45, (.load false 1 (.t 44)), none⟩, {}⟩, ⟨⟨some 46, (.mov (.t 11)), none⟩, {}⟩, ⟨⟨some 47, (.iadrS 1 (.t 45) (.t 46)), none⟩, {}⟩, ⟨⟨some
  48, (.load false 1 (.t 47)), none⟩, {}⟩, ⟨⟨some 12, (.mov (.t 48)), none⟩, {}⟩] none) law01_PlanParts_C26)) law01_PlanParts_C27)
def law01_PlanParts_C1 : TC := (.seq (.seq (.rg [⟨⟨some 33, (.mov (.t 11)), none⟩, {}⟩, ⟨⟨some 34, (.mov (.t 4)), none⟩, {}⟩, ⟨⟨some 35, (.mov (.t 8)), none⟩, {}⟩, ⟨⟨some 36, (.iadrS 1 (.t 34) (.t 35)), none⟩, {}⟩, ⟨⟨some 37, (.load false 1 (.t 36)), none⟩, {}⟩, ⟨⟨some 38, (.len (.t 37)), none⟩, {}⟩, ⟨⟨some 39, (.bin .lss (.t 33)
  (.t 38)), none⟩, {}⟩] none) law01_PlanParts_C11) law01_PlanParts_C12)
def law01_PlanParts_C28 : TC := .ret
def law01_PlanParts_C13 : TC := (.cond (.t 92) (.seq (.rg [⟨⟨some 2, (.mov (.c (B false))), none⟩, {}⟩] none) law01_PlanParts_C28) .skip)
def law01_PlanParts_C14 : TC := (.rg [⟨⟨some 93, (.mov (.t 7)), none⟩, {}⟩, ⟨⟨some 94, (.mov (.t 4)), none⟩, {}⟩, ⟨⟨some 95, (.mov (.t 8)), none⟩, {}⟩, ⟨⟨some 96, (.iadrS 1 (.t 94) (.t 95)), none⟩, {}⟩, ⟨⟨some 97, (.load false 1 (.t 96)), none⟩, {}⟩, ⟨⟨some 98, (.len (.t 97)), none⟩, {}⟩, ⟨⟨some 99, (.bin .add (.t 93) (.t 98)),
  none⟩, {}⟩, ⟨⟨some 7, (.mov (.t 99)), none⟩, {}⟩] none)
def law01_PlanParts_C2 : TC := (.seq (.seq (.rg [⟨⟨some 76, (.mov (.t 10)), none⟩, {}⟩, ⟨⟨some 77, (.bin .neq (.t 76) (.c (I 0))), none⟩, {}⟩, ⟨⟨some 78, (.mov (.t 77)), none⟩, {}⟩, ⟨⟨some 79, (.mov (.t 10)), some (78, true)⟩, {}⟩, ⟨⟨some 80, (.mov (.t 4)), some (78, true)⟩, {}⟩, ⟨⟨some 81, (.mov (.t 8)), some (78, true)⟩, {}⟩,
  ⟨⟨some 82, (.iadrS 1 (.t 80) (.t 81)), some (78, true)⟩, {}⟩, ⟨⟨some 83, (.load false 1 (.t 82)), some (78, true)⟩, {}⟩, ⟨⟨some 84, (.len (.t 83)), some (78, true)⟩, {}⟩, ⟨⟨some 85, (.bin .neq (.t 79) (.t 84)), some (78, true)⟩, {}⟩, ⟨⟨some 86, (.pick (.t 78) (.t 85) (.c (B false))), none⟩, {}⟩,
  ⟨⟨some 87, (.mov (.t 86)), none⟩, {}⟩, ⟨⟨some 88, (.mov (.t 9)), some (87, false)⟩, {}⟩, ⟨⟨some 89, (.mov (.t 10)), some (87, false)⟩, {}⟩, ⟨⟨some 90, (.bin .gtr (.t 89) (.c (I 0))), some (87, false)⟩, {}⟩, ⟨⟨some 91, (.beq false (.t 88) (.t 90)), some (87, false)⟩, {}⟩, ⟨⟨some 92, (.pick (.t 87)
  (.c (B true)) (.t 91)), none⟩, {}⟩] none) law01_PlanParts_C13) law01_PlanParts_C14)
def law01_PlanParts_C3 : TC := (.rg [⟨⟨some 31, (.mov (.t 8)), none⟩, {}⟩, ⟨⟨some 32, (.bin .add (.t 31) (.c (I 1))), none⟩, {}⟩, ⟨⟨some 8, (.mov (.t 32)), none⟩, {}⟩] none)
def law01_PlanParts_C15 : TC := (.cond (.t 30) .skip (.exit 0))
def law01_PlanParts_C39 : TC := (.block 2 (.loop law01_PlanParts_N2 law01_PlanParts_C1))
def law01_PlanParts_C29 : TC := (.seq (.seq (.rg [⟨⟨some 11, (.mov (.c (I 0))), none⟩, {}⟩] none) law01_PlanParts_C39) law01_PlanParts_C2)
def law01_PlanParts_C16 : TC := (.seq (.block 1 (.seq (.rg [⟨⟨some 9, (.mov (.c (B false))), none⟩, {}⟩, ⟨⟨some 10, (.mov (.c (I 0))), none⟩, {}⟩] none) law01_PlanParts_C29)) law01_PlanParts_C3)
def law01_PlanParts_C4 : TC := (.seq (.seq (.rg [⟨⟨some 27, (.mov (.t 8)), none⟩, {}⟩, ⟨⟨some 28, (.mov (.t 4)), none⟩, {}⟩, ⟨⟨some 29, (.len (.t 28)), none⟩, {}⟩, ⟨⟨some 30, (.bin .lss (.t 27) (.t 29)), none⟩, {}⟩] none) law01_PlanParts_C15) law01_PlanParts_C16)
def law01_PlanParts_C30 : TC := .ret
def law01_PlanParts_C17 : TC := (.cond (.t 103) (.seq (.rg [⟨⟨some 2, (.mov (.c (B false))), none⟩, {}⟩] none) law01_PlanParts_C30) .skip)
def law01_PlanParts_C22 : TC := (.cond (.t 107) .skip (.exit 4))
def law01_PlanParts_C41 : TC := .ret
def law01_PlanParts_C34 : TC := (.cond (.t 114) (.seq (.rg [⟨⟨some 2, (.mov (.c (B false))), none⟩, {}⟩] none) law01_PlanParts_C41) .skip)
def law01_PlanParts_C35 : TC := (.rg [⟨⟨some 108, (.mov (.t 13)), none⟩, {}⟩, ⟨⟨some 109, (.bin .add (.t 108) (.c (I 1))), none⟩, {}⟩, ⟨⟨some 13, (.mov (.t 109)), none⟩, {}⟩] none)
def law01_PlanParts_C23 : TC := (.seq (.block 5 (.seq (.rg [⟨⟨some 110, (.mov (.t 6)), none⟩, {}⟩, ⟨⟨some 111, (.mov (.t 13)), none⟩, {}⟩, ⟨⟨some 112, (.iadrS 1 (.t 110) (.t 111)), none⟩, {}⟩, ⟨⟨some 113, (.load false 1 (.t 112)), none⟩, {}⟩, ⟨⟨some 114, (.bin .eql (.t 113) (.c (I 0))), none⟩, {}⟩] none) law01_PlanParts_C34))
  law01_PlanParts_C35)
def law01_PlanParts_C8 : TC := (.seq (.seq (.rg [⟨⟨some 104, (.mov (.t 13)), none⟩, {}⟩, ⟨⟨some 105, (.mov (.t 6)), none⟩, {}⟩, ⟨⟨some 106, (.len (.t 105)), none⟩, {}⟩, ⟨⟨some 107, (.bin .lss (.t 104) (.t 106)), none⟩, {}⟩] none) law01_PlanParts_C22) law01_PlanParts_C23)
def law01_PlanParts_C31 : TC := (.block 4 (.loop law01_PlanParts_N3 law01_PlanParts_C8))
def law01_PlanParts_C19 : TC := (.cond (.t 119) .skip (.exit 6))
def law01_PlanParts_C45 : TC := .ret
def law01_PlanParts_C40 : TC := (.cond (.t 142) (.seq (.rg [⟨⟨some 2, (.mov (.c (B false))), none⟩, {}⟩] none) law01_PlanParts_C45) .skip)
def law01_PlanParts_C32 : TC := (.seq (.rg [⟨⟨some 127, (.fadr 5 (.t 15)), none⟩, {}⟩, ⟨⟨some 128, (.load false 1 (.t 127)), none⟩, {}⟩, ⟨⟨some 129, (.un .not (.t 128)), none⟩, {}⟩, ⟨⟨some 130, (.mov (.t 129)), none⟩, {}⟩, ⟨⟨some 131, (.mov (.t 6)), some (130, true)⟩, {}⟩, ⟨⟨some 132, (.fadr 0 (.t 15)), some (130, true)⟩, {}⟩,
  ⟨⟨some 133, (.load false 1 (.t 132)), some (130, true)⟩, {}⟩, ⟨⟨some 134, (.iadrS 1 (.t 131) (.t 133)), some (130, true)⟩, {}⟩, ⟨⟨some 135, (.load false 1 (.t 134)), some (130, true)⟩, {}⟩, ⟨⟨some 136, (.mov (.t 6)), some (130, true)⟩, {}⟩, ⟨⟨some 137, (.fadr 1 (.t 15)), some (130, true)⟩, {}⟩,
  ⟨⟨some 138, (.load false 1 (.t 137)), some (130, true)⟩, {}⟩, ⟨⟨some 139, (.iadrS 1 (.t 136) (.t 138)), some (130, true)⟩, {}⟩, ⟨⟨some 140, (.load false 1 (.t 139)), some (130, true)⟩, {}⟩, ⟨⟨some 141, (.bin .neq (.t 135) (.t 140)), some (130, true)⟩, {}⟩, ⟨⟨some 142, (.pick (.t 130) (.t 141) (.c
  (B false))), none⟩, {}⟩] (some [])) law01_PlanParts_C40)
def law01_PlanParts_C33 : TC := (.rg [⟨⟨some 120, (.mov (.t 14)), none⟩, {}⟩, ⟨⟨some 121, (.bin .add (.t 120) (.c (I 1))), none⟩, {}⟩, ⟨⟨some 14, (.mov (.t 121)), none⟩, {}⟩] none)
def law01_PlanParts_C20 : TC := (.seq (.block 7 (.seq (.rg [⟨⟨some 122, (.fadr 1 (.t 3)), none⟩, {}⟩, ⟨⟨some 123, (.load false 1 (.t 122)), none⟩, {}⟩, ⟨⟨some 124, (.mov (.t 14)), none⟩, {}⟩, ⟨⟨some 125, (.iadrS 10 (.t 123) (.t 124)), none⟩, {}⟩, ⟨⟨some 126, (.load true 10 (.t 125)), none⟩, {}⟩, ⟨⟨some 15, (.alloc [(I 0), (I 0), (I
  0), (I 0), (B false), (B false), (I 0), (I 0), (I 0), (I 0)]), none⟩, {}⟩, ⟨⟨none, (.store 10 (.t 15) (.t 126)), none⟩, {}⟩] none) law01_PlanParts_C32)) law01_PlanParts_C33)
def law01_PlanParts_C6 : TC := (.seq (.seq (.rg [⟨⟨some 115, (.mov (.t 14)), none⟩, {}⟩, ⟨⟨some 116, (.fadr 1 (.t 3)), none⟩, {}⟩, ⟨⟨some 117, (.load false 1 (.t 116)), none⟩, {}⟩, ⟨⟨some 118, (.len (.t 117)), none⟩, {}⟩, ⟨⟨some 119, (.bin .lss (.t 115) (.t 118)), none⟩, {}⟩] none) law01_PlanParts_C19) law01_PlanParts_C20)
def law01_PlanParts_C24 : TC := (.block 6 (.loop law01_PlanParts_N4 law01_PlanParts_C6))
def law01_PlanParts_C21 : TC := .ret
def law01_PlanParts_C7 : TC := (.seq (.rg [⟨⟨some 143, (.call (.c (.fn 15 [])) []), none⟩, {}⟩, ⟨⟨some 2, (.mov (.t 143)), none⟩, {}⟩] none) law01_PlanParts_C21)
def law01_PlanParts_C9 : TC := (.seq (.seq (.rg [⟨⟨some 14, (.mov (.c (I 0))), none⟩, {}⟩] none) law01_PlanParts_C24) law01_PlanParts_C7)
def law01_PlanParts_C18 : TC := (.seq (.seq (.rg [⟨⟨some 13, (.mov (.c (I 0))), none⟩, {}⟩] none) law01_PlanParts_C31) law01_PlanParts_C9)
def law01_PlanParts_C5 : TC := (.seq (.seq (.rg [⟨⟨some 100, (.mov (.t 7)), none⟩, {}⟩, ⟨⟨some 101, (.mov (.t 6)), none⟩, {}⟩, ⟨⟨some 102, (.len (.t 101)), none⟩, {}⟩, ⟨⟨some 103, (.bin .neq (.t 100) (.t 102)), none⟩, {}⟩] none) law01_PlanParts_C17) law01_PlanParts_C18)
def law01_PlanParts_C50 : TC := (.block 0 (.loop law01_PlanParts_N1 law01_PlanParts_C4))
def law01_PlanParts_C48 : TC := (.seq (.seq (.rg [⟨⟨some 8, (.mov (.c (I 0))), none⟩, {}⟩] none) law01_PlanParts_C50) law01_PlanParts_C5)
def law01_PlanParts_C46 : TC := (.seq (.rg [⟨⟨some 7, (.mov (.c (I 0))), none⟩, {}⟩] none) law01_PlanParts_C48)
def law01_PlanParts_C42 : TC := (.seq (.rg [⟨⟨some 23, (.fadr 0 (.t 3)), none⟩, {}⟩, ⟨⟨some 24, (.load false 1 (.t 23)), none⟩, {}⟩, ⟨⟨some 25, (.len (.t 24)), none⟩, {}⟩, ⟨⟨some 26, (.mksl 1 8 [(I 0)] (.t 25) (.t 25)), none⟩, ⟨(.int .i64), none⟩⟩, ⟨⟨some 6, (.mov (.t 26)), none⟩, {}⟩] none) law01_PlanParts_C46)
def law01_PlanParts_C36 : TC := (.seq (.rg [⟨⟨some 19, (.load true 2 (.t 3)), none⟩, {}⟩, ⟨⟨some 20, (.call (.c (.fn 27 [])) [(.t 19)]), none⟩, {}⟩, ⟨⟨some 21, (.load true 2 (.t 3)), none⟩, {}⟩, ⟨⟨some 22, (.call (.c (.fn 25 [])) [(.t 21)]), none⟩, {}⟩, ⟨⟨some 4, (.mov (.t 20)), none⟩, {}⟩, ⟨⟨some 5, (.mov (.t 22)), none⟩, {}⟩]
  (some [(1, 2)])) law01_PlanParts_C42)
def law01_PlanParts_C25 : TC := (.seq (.rg [⟨⟨some 16, (.mov (.t 0)), none⟩, {}⟩, ⟨⟨some 17, (.call (.c (.fn 10 [])) [(.t 16)]), none⟩, {}⟩, ⟨⟨some 18, (.call (.c (.fn 11 [])) [(.t 17)]), none⟩, {}⟩, ⟨⟨some 3, (.alloc [(.lst true []), (.lst true [])]), none⟩, {}⟩, ⟨⟨none, (.store 2 (.t 3) (.t 18)), none⟩, {}⟩] none)
  law01_PlanParts_C36)
def law01_PlanParts_C10 : TC := (.seq (.rg [⟨⟨some 2, (.mov (.c (B false))), none⟩, {}⟩] none) law01_PlanParts_C25)
def law01_PlanParts_E (N : Nat) : List (Nat × Ent) := [(10, sfE [none] [.v (.list (.int .u8))] [.n G_Codes] (fun x => draw_New N x)), (11, sfE [none] [.b (.v G_Codes)] [.v G_Mine] (fun x => draw_Codes_Mine N x)), (27, pureE [G_Mine] [(.list (.list (.int .i64)))] (fun x => plan_Parts N x)), (25, pureE [G_Mine] [(.list (.int .i64))] (fun x => plan_CutOff N x)), (26, pureE [(.list (.int .i64)), (.int .i64)] [.bool] (fun x => ref01_Has N x.1 x.2)), (15, pureE [] [.bool] (fun x => law01_awake N))]
def law01_PlanParts_L2 (N n1 : Nat) (n : Nat) (x13 : List (List Int)) (x14 : List Int) (x15 : Int) (x16 : Int) (x17 : Bool) (x18 : Int) (x19 : Int) (x20 : List T_Place) (x21 : List T_Road) (x22 : List Int) : Option Bool := loopN (normI 0 law01_PlanParts_N2) (run (law01_PlanParts_E N) N 0 law01_PlanParts_C1) n ⟨[(3, .ptr 0 0 0), (4, .lst false (.list (.int .i64)) x13), (5, .lst false (.int .i64) x14), (6, .whole 1), (7, .int .i64 x15), (8, .int .i64 x16), (9, .bool x17), (10, .int .i64 x18), (11, .int .i64 x19)], [some (.box 0 [.lst false G_Place x20, .lst false G_Road x21]), some (.arr (.int .i64) x22)]⟩ (blkK 2 (seqK (run (law01_PlanParts_E N) N 0 law01_PlanParts_C2) (blkK 1 (seqK (run (law01_PlanParts_E N) N 0 law01_PlanParts_C3) (seqK (nextL (normI 0 law01_PlanParts_N1) (loopN (normI 0 law01_PlanParts_N1) (run (law01_PlanParts_E N) N 0 law01_PlanParts_C4) n1)) (blkK 0 (seqK (run (law01_PlanParts_E N) N 0 law01_PlanParts_C5) (fin [(.t 2)] [.bool]))))))))
def law01_PlanParts_L4 (N : Nat) (n : Nat) (x102 : Int) (x103 : List T_Place) (x104 : List T_Road) (x105 : List Int) : Option Bool := loopN (normI 0 law01_PlanParts_N4) (run (law01_PlanParts_E N) N 0 law01_PlanParts_C6) n ⟨[(3, .ptr 0 0 0), (6, .whole 1), (14, .int .i64 x102)], [some (.box 0 [.lst false G_Place x103, .lst false G_Road x104]), some (.arr (.int .i64) x105)]⟩ (blkK 6 (seqK (run (law01_PlanParts_E N) N 0 law01_PlanParts_C7) (fin [(.t 2)] [.bool])))
def law01_PlanParts_L3 (N : Nat) (n : Nat) (x94 : Int) (x95 : List T_Place) (x96 : List T_Road) (x97 : List Int) : Option Bool := loopN (normI 0 law01_PlanParts_N3) (run (law01_PlanParts_E N) N 0 law01_PlanParts_C8) n ⟨[(3, .ptr 0 0 0), (6, .whole 1), (13, .int .i64 x94)], [some (.box 0 [.lst false G_Place x95, .lst false G_Road x96]), some (.arr (.int .i64) x97)]⟩ (blkK 4 (seqK (run (law01_PlanParts_E N) N 0 law01_PlanParts_C9) (fin [(.t 2)] [.bool])))
def law01_PlanParts_L1 (N : Nat) (n : Nat) (x6 : List (List Int)) (x7 : List Int) (x8 : Int) (x9 : Int) (x10 : List T_Place) (x11 : List T_Road) (x12 : List Int) : Option Bool := loopN (normI 0 law01_PlanParts_N1) (run (law01_PlanParts_E N) N 0 law01_PlanParts_C4) n ⟨[(3, .ptr 0 0 0), (4, .lst false (.list (.int .i64)) x6), (5, .lst false (.int .i64) x7), (6, .whole 1), (7, .int .i64 x8), (8, .int .i64 x9)], [some (.box 0 [.lst false G_Place x10, .lst false G_Road x11]), some (.arr (.int .i64) x12)]⟩ (blkK 0 (seqK (run (law01_PlanParts_E N) N 0 law01_PlanParts_C5) (fin [(.t 2)] [.bool])))
theorem law01_PlanParts_L2_zero (N n1 : Nat) (x13 : List (List Int)) (x14 : List Int) (x15 : Int) (x16 : Int) (x17 : Bool) (x18 : Int) (x19 : Int) (x20 : List T_Place) (x21 : List T_Road) (x22 : List Int) : law01_PlanParts_L2 N n1 0 x13 x14 x15 x16 x17 x18 x19 x20 x21 x22 = none := rfl
theorem law01_PlanParts_L2_succ (N n1 : Nat) (n2 : Nat) (x13 : List (List Int)) (x14 : List Int) (x15 : Int) (x16 : Int) (x17 : Bool) (x18 : Int) (x19 : Int) (x20 : List T_Place) (x21 : List T_Road) (x22 : List Int) : law01_PlanParts_L2 N n1 (n2 + 1) x13 x14 x15 x16 x17 x18 x19 x20 x21 x22 =
  bif inB x16 x13.length then
  bif (decide (x19 < ((x13.getD x16.toNat []).length : Int))) then
    bif inB x16 x13.length then
    bif inB x19 (x13.getD x16.toNat []).length then
    let v23 := (x13.getD x16.toNat []).getD x19.toNat 0
    bif (decide (v23 < 0)) then
      some false
    else
      bif (decide (v23 ≥ (x22.length : Int))) then
        some false
      else
        bif inB v23 x22.length then
        let v24 := x22.set v23.toNat (W (x16 + 1))
        bif x17 then
          Option.bind (ref01_Has N x14 v23) fun r25 =>
          bif r25 then
            law01_PlanParts_L2 N n1 n2 x13 x14 x15 x16 true (W (x18 + 1)) (W (x19 + 1)) x20 x21 v24
          else
            law01_PlanParts_L2 N n1 n2 x13 x14 x15 x16 true x18 (W (x19 + 1)) x20 x21 v24
        else
          bif inB v23 x20.length then
          let v46 := x20.getD v23.toNat D_Place
          Option.bind (ref01_Has N x14 v23) fun r47 =>
          bif r47 then
            law01_PlanParts_L2 N n1 n2 x13 x14 x15 x16 v46.2 (W (x18 + 1)) (W (x19 + 1)) x20 x21 v24
          else
            law01_PlanParts_L2 N n1 n2 x13 x14 x15 x16 v46.2 x18 (W (x19 + 1)) x20 x21 v24
          else none
        else none
    else none
    else none
  else
    bif (x18 != 0) then
      bif inB x16 x13.length then
      bif (x18 != ((x13.getD x16.toNat []).length : Int)) then
        some false
      else
        bif (x17 == (decide (x18 > 0))) then
          some false
        else
          bif inB x16 x13.length then
          law01_PlanParts_L1 N n1 x13 x14 (W (x15 + ((x13.getD x16.toNat []).length : Int))) (W (x16 + 1)) x20 x21 x22
          else none
      else none
    else
      bif (x17 == (decide (x18 > 0))) then
        some false
      else
        bif inB x16 x13.length then
        law01_PlanParts_L1 N n1 x13 x14 (W (x15 + ((x13.getD x16.toNat []).length : Int))) (W (x16 + 1)) x20 x21 x22
        else none
  else none := by kernel_rfl
theorem law01_PlanParts_L4_zero (N : Nat) (x102 : Int) (x103 : List T_Place) (x104 : List T_Road) (x105 : List Int) : law01_PlanParts_L4 N 0 x102 x103 x104 x105 = none := rfl
theorem law01_PlanParts_L4_succ (N : Nat) (n4 : Nat) (x102 : Int) (x103 : List T_Place) (x104 : List T_Road) (x105 : List Int) : law01_PlanParts_L4 N (n4 + 1) x102 x103 x104 x105 =
  bif (decide (x102 < (x104.length : Int))) then
    bif inB x102 x104.length then
    let v106 := x104.getD x102.toNat D_Road
    bif (!v106.2.2.2.2.2.1) then
      bif inB v106.1 x105.length then
      bif inB v106.2.1 x105.length then
      bif ((x105.getD v106.1.toNat 0) != (x105.getD v106.2.1.toNat 0)) then
        some false
      else
        law01_PlanParts_L4 N n4 (W (x102 + 1)) x103 x104 x105
      else none
      else none
    else
      law01_PlanParts_L4 N n4 (W (x102 + 1)) x103 x104 x105
    else none
  else
    Option.bind (law01_awake N) fun r116 =>
    some r116 := by kernel_rfl
theorem law01_PlanParts_L3_zero (N : Nat) (x94 : Int) (x95 : List T_Place) (x96 : List T_Road) (x97 : List Int) : law01_PlanParts_L3 N 0 x94 x95 x96 x97 = none := rfl
theorem law01_PlanParts_L3_succ (N : Nat) (n3 : Nat) (x94 : Int) (x95 : List T_Place) (x96 : List T_Road) (x97 : List Int) : law01_PlanParts_L3 N (n3 + 1) x94 x95 x96 x97 =
  bif (decide (x94 < (x97.length : Int))) then
    bif inB x94 x97.length then
    bif ((x97.getD x94.toNat 0) == 0) then
      some false
    else
      law01_PlanParts_L3 N n3 (W (x94 + 1)) x95 x96 x97
    else none
  else
    law01_PlanParts_L4 N N 0 x95 x96 x97 := by kernel_rfl
theorem law01_PlanParts_L1_zero (N : Nat) (x6 : List (List Int)) (x7 : List Int) (x8 : Int) (x9 : Int) (x10 : List T_Place) (x11 : List T_Road) (x12 : List Int) : law01_PlanParts_L1 N 0 x6 x7 x8 x9 x10 x11 x12 = none := rfl
theorem law01_PlanParts_L1_succ (N : Nat) (n1 : Nat) (x6 : List (List Int)) (x7 : List Int) (x8 : Int) (x9 : Int) (x10 : List T_Place) (x11 : List T_Road) (x12 : List Int) : law01_PlanParts_L1 N (n1 + 1) x6 x7 x8 x9 x10 x11 x12 =
  bif (decide (x9 < (x6.length : Int))) then
    law01_PlanParts_L2 N n1 N x6 x7 x8 x9 false 0 0 x10 x11 x12
  else
    bif (x8 != (x12.length : Int)) then
      some false
    else
      law01_PlanParts_L3 N N 0 x10 x11 x12 := by kernel_rfl
def law01_PlanParts (N : Nat) (a0 : List Int) : Option Bool :=
  Option.bind (draw_New N a0) fun r1 =>
  Option.bind (draw_Codes_Mine N r1.1) fun r2 =>
  Option.bind (plan_Parts N r2.1) fun r3 =>
  Option.bind (plan_CutOff N r2.1) fun r4 =>
  bif mkB 8 (r2.1.1.length : Int) (r2.1.1.length : Int) then
  law01_PlanParts_L1 N N r3 r4 0 0 r2.1.1 r2.1.2 (List.replicate (r2.1.1.length : Int).toNat 0)
  else none
theorem law01_PlanParts_fn : FnOK Try.prog 7 144 (fun _ : Nat => false) law01_PlanParts_C10.er [(.t 2)] := FnOK.mk' Try.func7 (by kernel_rfl) (by kernel_rfl) (by kernel_rfl) (by kernel_rfl) (by kernel_rfl)
theorem law01_PlanParts_envok (N : Nat) : EnvOK Try.prog (law01_PlanParts_E N) := .cons (sfE_ok (draw_New_sf N)) (.cons (sfE_ok (draw_Codes_Mine_sf N)) (.cons (pureE_ok (plan_Parts_pure N)) (.cons (pureE_ok (plan_CutOff_pure N)) (.cons (pureE_ok (ref01_Has_pure N)) (.cons (pureE_ok (law01_awake_pure N)) (.nil))))))
theorem law01_PlanParts_pure (N : Nat) : PureOK Try.prog 7 [(.list (.int .u8))] [.bool] (fun x => law01_PlanParts N x) := pureOK (N := N) mixed law01_PlanParts_fn (law01_PlanParts_envok N) (TC.noh_ok (by kernel_rfl)) rfl (fun x => by kernel_rfl)
end M
end Go.Proofs.Ytdmggkpefjpknaa
