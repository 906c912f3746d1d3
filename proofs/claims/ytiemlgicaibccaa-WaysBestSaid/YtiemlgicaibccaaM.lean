/- Plain models of functions of this seat, each checked against the loaded program and the walk by the kernel. No condition: closed facts. Printed by a program of ours. -/
import Derived.Test.YtiemlgicaibccaaM1
set_option linter.all false
namespace Go.Proofs.Ytiemlgicaibccaa
open Go.Pv
namespace M
noncomputable section
def z0w_N1 : List NS := [.wk 0 (.list GI), .keep [0, 1, 5], .cmp]
def z0w_C1 : TC := (.seq (.seq (.r [.m 6 5, .m 7 0, .ln 8 7, .b 9 .lss 6 8, .m 10 9, .w 10 (.m 11 0), .w 10 (.m 12 5), .w 10 (.ia 13 1 11 12), .w 10 (.lf 14 1 13), .w 10 (.m 15 1), .w 10 (.b 16 .lss 14 15), .pf 17 10 16]) (.cond (.t 17) .skip (.exit 0))) (.block 1 (.r [.m 18 5, .bi 19 .add 18 1, .m 5 19])))
def z0w_C2 : TC := (.seq (.seq (.r [.m 20 5, .m 21 0, .ln 22 21, .b 23 .lss 20 22, .m 24 23, .w 24 (.m 25 0), .w 24 (.m 26 5), .w 24 (.ia 27 1 25 26), .w 24 (.lf 28 1 27), .w 24 (.m 29 1), .w 24 (.b 30 .eql 28 29), .pf 31 24 30]) (.cond (.t 31) (.seq (.r [.m 32 0, ⟨⟨some 33, (.app 1 8 (.c (.lst true [])) (.t 32)),
  none⟩, ⟨GI, none, []⟩⟩, .m 4 33]) (.pre [.frz 4] .ret)) .skip)) (.seq (.pre [.ghost GI] (.rg [.m 34 0, .m 35 5, .s 36 (.slc 1 (.t 34) none (some (.t 35))), ⟨⟨some 37, (.app 1 8 (.c (.lst true [])) (.t 36)), none⟩, ⟨.unit, some 0, []⟩⟩, .m 38 1, ⟨⟨some 39, (.bslice false 1 [(I 0)]
  1 [(0, (.t 38))]), none⟩, ⟨GI, none, []⟩⟩, .s 40 (.app 1 8 (.t 37) (.t 39)), .m 41 0, .m 42 5, .s 43 (.slc 1 (.t 41) (some (.t 42)) none), .s 44 (.app 1 8 (.t 40) (.t 43)), .m 4 44] (some [(3, 9), (6, 9)]))) (.pre [.frz 4] .ret)))
def z0w_C3 : TC := (.seq (.r [.mn 4]) (.seq (.r [.mi 5 0]) (.seq (.block 0 (.loop z0w_N1 z0w_C1)) z0w_C2)))
def z0w_E (N : Nat) : List (Nat × Ent) := []
def z0w_L1 (N : Nat) (n : Nat) (x1 : List Int) (x2 x3 : Int) : Option (List Int) := loopN (normI 0 z0w_N1) (run (z0w_E N) N 0 z0w_C1) n ⟨[(0, .lst false GI x1), (1, .int .i64 x2), (5, .int .i64 x3)], []⟩ (blkK 0 (seqK (run (z0w_E N) N 0 z0w_C2) (fin [(.t 4)] [(.list GI)])))
theorem z0w_L1_succ (N : Nat) (n1 : Nat) (x1 : List Int) (x2 x3 : Int) : z0w_L1 N (n1 + 1) x1 x2 x3 =
 bif (decide (x3 < (x1.length : Int))) then
  bif inB x3 x1.length then
  bif (decide ((x1.getD x3.toNat 0) < x2)) then
   z0w_L1 N n1 x1 x2 (W (x3 + 1))
  else
   bif (decide (x3 < (x1.length : Int))) then
    bif inB x3 x1.length then
    bif ((x1.getD x3.toNat 0) == x2) then
     bif fitsB x1.length 8 then
     some x1
     else none
    else
     bif slB 0 x3 x1.length then
     bif fitsB (x1.take x3.toNat).length 8 then
     bif fitsB ((x1.take x3.toNat).length + 1) 8 then
     bif slB x3 x1.length x1.length then
     bif fitsB (((x1.take x3.toNat) ++ [x2]).length + (x1.drop x3.toNat).length) 8 then
     some (((x1.take x3.toNat) ++ [x2]) ++ (x1.drop x3.toNat))
     else none
     else none
     else none
     else none
     else none
    else none
   else
    bif slB 0 x3 x1.length then
    bif fitsB (x1.take x3.toNat).length 8 then
    bif fitsB ((x1.take x3.toNat).length + 1) 8 then
    bif slB x3 x1.length x1.length then
    bif fitsB (((x1.take x3.toNat) ++ [x2]).length + (x1.drop x3.toNat).length) 8 then
    some (((x1.take x3.toNat) ++ [x2]) ++ (x1.drop x3.toNat))
    else none
    else none
    else none
    else none
    else none
  else none
 else
  bif (decide (x3 < (x1.length : Int))) then
   bif inB x3 x1.length then
   bif ((x1.getD x3.toNat 0) == x2) then
    bif fitsB x1.length 8 then
    some x1
    else none
   else
    bif slB 0 x3 x1.length then
    bif fitsB (x1.take x3.toNat).length 8 then
    bif fitsB ((x1.take x3.toNat).length + 1) 8 then
    bif slB x3 x1.length x1.length then
    bif fitsB (((x1.take x3.toNat) ++ [x2]).length + (x1.drop x3.toNat).length) 8 then
    some (((x1.take x3.toNat) ++ [x2]) ++ (x1.drop x3.toNat))
    else none
    else none
    else none
    else none
    else none
   else none
  else
   bif slB 0 x3 x1.length then
   bif fitsB (x1.take x3.toNat).length 8 then
   bif fitsB ((x1.take x3.toNat).length + 1) 8 then
   bif slB x3 x1.length x1.length then
   bif fitsB (((x1.take x3.toNat) ++ [x2]).length + (x1.drop x3.toNat).length) 8 then
   some (((x1.take x3.toNat) ++ [x2]) ++ (x1.drop x3.toNat))
   else none
   else none
   else none
   else none
   else none := by kernel_rfl
def z0w (N : Nat) (a0 : List Int) (a1 : Int) : Option (List Int) :=
 z0w_L1 N N a0 a1 0
theorem z0w_fn : FnOK Try.prog 53 45 (fun _ : Nat => false) z0w_C3.er [(.t 4)] := fk Try.func53
theorem z0w_envok (N : Nat) : EnvOK Try.prog (z0w_E N) := .nil
theorem z0w_pure (N : Nat) : PureOK Try.prog 53 [(.list GI), GI] [(.list GI)] (fun x => z0w N x.1 x.2) := pu (N := N) z0w_fn (z0w_envok N)
def z0o_N1 : List NS := [.keep [2, 3, 4, 10], .cmp]
def z0o_C1 : TC := (.seq (.seq (.r [.m 29 10, .fa 30 0 3, .lf 31 1 30, .ln 32 31, .b 33 .lss 29 32]) (.cond (.t 33) .skip (.exit 0))) (.seq (.block 1 (.seq (.r [.lt 36 4 4, .s 11 (.alloc [(.lst true []), (.lst true []), (.lst true []), (I 0)]), .st 4 11 36]) (.seq (.r [.fa 37 1 4, .lf 38 1 37, .m 39 10, .c2 40 53 38
  39, .fa 41 1 11, .st 1 41 40]) (.seq (.r [.lt 43 2 3, .lt 44 4 11, .m 45 2, .c3 46 32 43 44 45, .m 42 46, .ex 47 0 42, .ex 48 1 42, .ex 49 2 42, .m 12 47, .m 13 48, .m 14 49]) (.seq (.r [.m 50 10, .m 51 2, .b 52 .neq 50 51, .m 53 52, .w 53 (.m 54 14), .w 53 (.nt 55 54), .pf 56 53 55]) (.cond (.t
  56) (.seq (.r [.mi 6 1]) .ret) .skip)))))) (.r [.m 34 10, .bi 35 .add 34 1, .m 10 35])))
def z0o_C2 : TC := (.seq (.r [.mi 6 2]) .ret)
def z0o_E (N : Nat) : List (Nat × Ent) := [(32, pureE [G_Mine, G_Escape, GI] [(.list GI), GI, .bool] (fun x => z0p N x.1 x.2.1 x.2.2)), (51, pureE [G_Mine, G_Escape, GI] [.bool] (fun x => z0r N x.1 x.2.1 x.2.2)), (53, pureE [(.list GI), GI] [(.list GI)] (fun x => z0w N x.1 x.2))]
def z0o_L1 (N : Nat) (n : Nat) (x3 x4 : Int) (x5 : List T_Place) (x6 : List T_Road) (x7 x8 x9 : List Int) (x10 : Int) : Option Int := loopN (normI 0 z0o_N1) (run (z0o_E N) N 0 z0o_C1) n ⟨[(2, .int .i64 x3), (3, .ptr 0 0 0), (4, .ptr 1 0 0), (10, .int .i64 x4)], [some (.box 0 [.lst false G_Place x5, .lst false G_Road x6]), some (.box 0 [.lst false GI x7, .lst false GI x8, .lst false GI x9, .int .i64 x10])]⟩ (blkK 0 (seqK (run (z0o_E N) N 0 z0o_C2) (fin [(.t 6)] [GI])))
theorem z0o_L1_succ (N : Nat) (n1 : Nat) (x3 x4 : Int) (x5 : List T_Place) (x6 : List T_Road) (x7 x8 x9 : List Int) (x10 : Int) : z0o_L1 N (n1 + 1) x3 x4 x5 x6 x7 x8 x9 x10 =
 bif (decide (x4 < (x5.length : Int))) then
  Option.bind (z0w N x8 x4) fun r11 =>
  Option.bind (z0p N (x5, x6) (x7, (r11, (x9, x10))) x3) fun r12 =>
  bif (x4 != x3) then
   bif (!r12.2.2) then
    some 1
   else
    z0o_L1 N n1 x3 (W (x4 + 1)) x5 x6 x7 x8 x9 x10
  else
   z0o_L1 N n1 x3 (W (x4 + 1)) x5 x6 x7 x8 x9 x10
 else
  some 2 := by kernel_rfl
def z0o (N : Nat) (a0 : T_Mine) (a1 : T_Escape) (a2 : Int) : Option Int :=
 Option.bind (z0p N a0 a1 a2) fun r1 =>
 bif (!r1.2.2) then
  some 0
 else
  Option.bind (z0r N a0 a1 a2) fun r2 =>
  bif r2 then
   some 2
  else
   z0o_L1 N N a2 0 a0.1 a0.2 a1.1 a1.2.1 a1.2.2.1 a1.2.2.2
def z06_NE : List NS := [.frzb 4, .frzo 0, .keep [4], .out [0]]
def z06_C1 : TC := (.seq (.r [.bx 3 1, .s 4 (.alloc [(.lst true []), (.lst true []), (.lst true []), (I 0)])]) (.seq (.r [.m 6 0, ⟨⟨some 7, (.bslice false 1 [(I 0)] 5 [(0, (.c (I 600))), (1, (.c (I 100))), (2, (.c (I 60))), (3, (.c (I 1000))), (4, (.c (I 0)))]), none⟩, ⟨GI, none, []⟩⟩, .c2 8 30 6 7, .s 9
  (.build [(.lst true []), (.lst true []), (.lst true []), (I 0)] [(3, (1, (.t 8)))]), .s 5 (.alloc [(.lst true []), (.lst true []), (.lst true []), (I 0)]), .st 4 5 9]) (.seq (.seq (.r [.m 10 0, .s 11 (.call (.c (.fn 14 [])) [(.t 10), (.c (I 3))])]) (.cond (.t 11) (.r [.m 12 0, .fa 13 0 3, .lf 14 1
  13, .ln 15 14, .c2 16 13 12 15, ⟨⟨some 17, (.bslice false 1 [(I 0)] 1 [(0, (.t 16))]), none⟩, ⟨GI, none, []⟩⟩, .fa 18 0 5, .st 1 18 17]) .skip)) (.seq (.seq (.r [.m 19 0, .s 20 (.call (.c (.fn 14 [])) [(.t 19), (.c (I 4))])]) (.cond (.t 20) (.r [.m 21 0, .fa 22 0 3, .lf 23 1 22, .ln 24
  23, .c2 25 13 21 24, ⟨⟨some 26, (.bslice false 1 [(I 0)] 1 [(0, (.t 25))]), none⟩, ⟨GI, none, []⟩⟩, .fa 27 1 5, .st 1 27 26]) .skip)) (.seq (.seq (.r [.m 28 0, .s 29 (.call (.c (.fn 14 [])) [(.t 28), (.c (I 4))]), .m 30 29, .w 30 (.fa 31 1 3), .w 30 (.lf 32 1 31), .w 30 (.ln 33 32), .w 30
  (.bi 34 .gtr 33 0), .pf 35 30 34]) (.cond (.t 35) (.r [.m 36 0, .fa 37 1 3, .lf 38 1 37, .ln 39 38, .c2 40 13 36 39, ⟨⟨some 41, (.bslice false 1 [(I 0)] 1 [(0, (.t 40))]), none⟩, ⟨GI, none, []⟩⟩, .fa 42 2 5, .st 1 42 41]) .skip)) (.seq (.r [.lt 43 4 5, .st 4 4 43]) (.pre [.frzb 4, .frzo
  0, .keep [4], .out [0]] .ret)))))))
def z06_E (N : Nat) : List (Nat × Ent) := [(30, sfE [none, none] [.b (.v G_Dice), .v (.list GI)] [.v GI] (fun x => z09 N x.1 x.2)), (14, sfE [none, none] [.b (.v G_Dice), .v GI] [.v .bool] (fun x => z0a N x.1 x.2)), (13, sfE [none, none] [.b (.v G_Dice), .v GI] [.v GI] (fun x => z08 N x.1 x.2))]
def z06 (N : Nat) (a0 : T_Dice) (a1 : T_Mine) : Option (T_Escape × T_Dice) :=
 Option.bind (z09 N a0 [600, 100, 60, 1000, 0]) fun r1 =>
 Option.bind (z0a N r1.2 3) fun r2 =>
 bif r2.1 then
  Option.bind (z08 N r2.2 (a1.1.length : Int)) fun r3 =>
  Option.bind (z0a N r3.2 4) fun r4 =>
  bif r4.1 then
   Option.bind (z08 N r4.2 (a1.1.length : Int)) fun r5 =>
   Option.bind (z0a N r5.2 4) fun r6 =>
   bif r6.1 then
    bif (decide ((a1.2.length : Int) > 0)) then
     Option.bind (z08 N r6.2 (a1.2.length : Int)) fun r7 =>
     some (([r3.1], ([r5.1], ([r7.1], r1.1))), r7.2)
    else
     some (([r3.1], ([r5.1], ([], r1.1))), r6.2)
   else
    some (([r3.1], ([r5.1], ([], r1.1))), r6.2)
  else
   Option.bind (z0a N r4.2 4) fun r8 =>
   bif r8.1 then
    bif (decide ((a1.2.length : Int) > 0)) then
     Option.bind (z08 N r8.2 (a1.2.length : Int)) fun r9 =>
     some (([r3.1], ([], ([r9.1], r1.1))), r9.2)
    else
     some (([r3.1], ([], ([], r1.1))), r8.2)
   else
    some (([r3.1], ([], ([], r1.1))), r8.2)
 else
  Option.bind (z0a N r2.2 4) fun r10 =>
  bif r10.1 then
   Option.bind (z08 N r10.2 (a1.1.length : Int)) fun r11 =>
   Option.bind (z0a N r11.2 4) fun r12 =>
   bif r12.1 then
    bif (decide ((a1.2.length : Int) > 0)) then
     Option.bind (z08 N r12.2 (a1.2.length : Int)) fun r13 =>
     some (([], ([r11.1], ([r13.1], r1.1))), r13.2)
    else
     some (([], ([r11.1], ([], r1.1))), r12.2)
   else
    some (([], ([r11.1], ([], r1.1))), r12.2)
  else
   Option.bind (z0a N r10.2 4) fun r14 =>
   bif r14.1 then
    bif (decide ((a1.2.length : Int) > 0)) then
     Option.bind (z08 N r14.2 (a1.2.length : Int)) fun r15 =>
     some (([], ([], ([r15.1], r1.1))), r15.2)
    else
     some (([], ([], ([], r1.1))), r14.2)
   else
    some (([], ([], ([], r1.1))), r14.2)
theorem z06_fn : FnOK Try.prog 16 44 (fun _ : Nat => false) z06_C1.er [(.cell 4 true 4)] := fk Try.func16
theorem z06_envok (N : Nat) : EnvOK Try.prog (z06_E N) := .cons (sfE_ok (z09_sf N)) (.cons (sfE_ok (z0a_sf N)) (.cons (sfE_ok (z08_sf N)) (.nil)))
theorem z06_sf (N : Nat) : SFOK Try.prog 16 [none, none] [.b (.v G_Dice), .v G_Mine] [.v G_Escape] (fun x => z06 N x.1 x.2) := sfOK (N := N) (p := 1) (q := 1) (ns := z06_NE) mixed z06_fn (z06_envok N) (TC.noh_ok (by kernel_rfl)) rfl rfl rfl (fun x => by kernel_rfl)
def z01_N1 : List NS := [.wk 3 (.list GI), .keep [2, 3, 4, 5, 6, 7, 13], .cmp]
def z01_C1 : TC := (.seq (.seq (.r [.m 54 16, .bi 55 .lss 54 0, .m 56 55, .v 56 (.m 57 3), .v 56 (.m 58 15), .v 56 (.c2 59 24 57 58), .pt 60 56 59, .m 61 60, .v 61 (.fa 62 1 7), .v 61 (.lf 63 1 62), .v 61 (.m 64 15), .v 61 (.c2 65 24 63 64), .pt 66 61 65, .m 67 66, .v 67 (.fa 68 2 7), .v 67 (.lf 69 1 68), .v 67 (.m
  70 13), .v 67 (.c2 71 24 69 70), .pt 72 67 71]) (.cond (.t 72) (.exit 1) .skip)) (.pre [.ghost GI] (.rg [.lt 73 2 6, .lt 74 4 7, .m 75 15, .m 76 3, ⟨⟨some 77, (.app 1 8 (.c (.lst true [])) (.t 76)), none⟩, ⟨.unit, some 2, []⟩⟩, .m 78 15, ⟨⟨some 79, (.bslice false 1 [(I 0)] 1 [(0, (.t
  78))]), none⟩, ⟨GI, none, []⟩⟩, .s 80 (.app 1 8 (.t 77) (.t 79)), .m 81 4, .m 82 16, .b 83 .add 81 82, .m 84 5, .s 85 (.call (.c (.fn 26 [])) [(.t 73), (.t 74), (.t 75), (.t 80), (.t 83), (.t 84)]), .m 5 85] (some [(0, 4), (1, 4), (0, 7), (1, 7)]))))
def z01_C2 : TC := (.r [.m 29 13, .bi 30 .add 29 1, .m 13 30])
def z01_C3 : TC := (.seq (.seq (.r [.m 24 13, .fa 25 1 6, .lf 26 1 25, .ln 27 26, .b 28 .lss 24 27]) (.cond (.t 28) .skip (.exit 0))) (.seq (.block 1 (.seq (.r [.fa 31 1 6, .lf 32 1 31, .m 33 13, .ia 34 10 32 33, .lt 35 10 34, .s 14 (.alloc [(I 0), (I 0), (I 0), (I 0), (B false), (B false), (I 0), (I 0), (I 0), (I
  0)]), .st 10 14 35]) (.seq (.r [.s 15 (.mov (.c (I (-1)))), .s 16 (.mov (.c (I (-1))))]) (.seq (.seq (.r [.fa 36 0 14, .lf 37 1 36, .m 38 2, .b 39 .eql 37 38]) (.cond (.t 39) (.rg [.fa 40 1 14, .lf 41 1 40, .lt 42 2 6, .m 43 13, .s 44 (.call (.c (.fn 52 [])) [(.t 42), (.t 43), (.c (B false))]), .m
  15 41, .m 16 44] (some [(0, 4), (1, 4)])) (.seq (.r [.fa 45 1 14, .lf 46 1 45, .m 47 2, .b 48 .eql 46 47]) (.cond (.t 48) (.rg [.fa 49 0 14, .lf 50 1 49, .lt 51 2 6, .m 52 13, .s 53 (.call (.c (.fn 52 [])) [(.t 51), (.t 52), (.c (B true))]), .m 15 50, .m 16 53] (some [(0, 4), (1, 4)])) .skip))))
  (.join [.wk 3 (.list GI), .keep [2, 3, 4, 5, 6, 7, 13, 15, 16], .cmp] z01_C1))))) z01_C2))
def z01_C4 : TC := (.seq (.r [.m 86 5, .m 12 86]) .ret)
def z01_C5 : TC := (.seq (.r [.bx 6 0, .bx 7 1, .mi 12 0]) (.seq (.seq (.r [.lt 17 2 6, .lt 18 4 7, .m 19 2, .c3 20 51 17 18 19]) (.cond (.t 20) (.seq (.r [.m 21 5, .m 22 4, .s 23 (.mm false [(.t 21), (.t 22)]), .m 12 23]) .ret) .skip)) (.seq (.seq (.r [.mi 13 0]) (.block 0 (.loop z01_N1 z01_C3)))
  z01_C4)))
def z01_E (N : Nat) (self : T_Mine → T_Escape → Int → (List Int) → Int → Int → Option Int) : List (Nat × Ent) := [(51, pureE [G_Mine, G_Escape, GI] [.bool] (fun x => z0r N x.1 x.2.1 x.2.2)), (52, pureE [G_Mine, GI, .bool] [GI] (fun x => z0j N x.1 x.2.1 x.2.2)), (24, pureE [(.list GI), GI] [.bool] (fun x => z0m N x.1 x.2)), (26, pureE [G_Mine, G_Escape, GI, (.list GI), GI, GI] [GI] (fun x => self x.1 x.2.1 x.2.2.1 x.2.2.2.1 x.2.2.2.2.1 x.2.2.2.2.2))]
def z01_J1 (N : Nat) (self : T_Mine → T_Escape → Int → (List Int) → Int → Int → Option Int) (JM n1 : Nat) (x15 : Int) (x16 : List Int) (x17 x18 x19 x20 x21 : Int) (x22 : List T_Place) (x23 : List T_Road) (x24 x25 x26 : List Int) (x27 : Int) : Option Int := joinN (run (z01_E N self) N 0 z01_C1) JM ⟨[(2, .int .i64 x15), (3, .lst false GI x16), (4, .int .i64 x17), (5, .int .i64 x18), (6, .ptr 0 0 0), (7, .ptr 1 0 0), (13, .int .i64 x19), (15, .int .i64 x20), (16, .int .i64 x21)], [some (.box 0 [.lst false G_Place x22, .lst false G_Road x23]), some (.box 0 [.lst false GI x24, .lst false GI x25, .lst false GI x26, .int .i64 x27])]⟩ (blkK 1 (seqK (run (z01_E N self) N 0 z01_C2) (seqK (nextL (normI 0 z01_N1) (loopN (normI 0 z01_N1) (run (z01_E N self) N 0 z01_C3) n1)) (blkK 0 (seqK (run (z01_E N self) N 0 z01_C4) (fin [(.t 12)] [GI]))))))
def z01_L1 (N : Nat) (self : T_Mine → T_Escape → Int → (List Int) → Int → Int → Option Int) (n : Nat) (x2 : Int) (x3 : List Int) (x4 x5 x6 : Int) (x7 : List T_Place) (x8 : List T_Road) (x9 x10 x11 : List Int) (x12 : Int) : Option Int := loopN (normI 0 z01_N1) (run (z01_E N self) N 0 z01_C3) n ⟨[(2, .int .i64 x2), (3, .lst false GI x3), (4, .int .i64 x4), (5, .int .i64 x5), (6, .ptr 0 0 0), (7, .ptr 1 0 0), (13, .int .i64 x6)], [some (.box 0 [.lst false G_Place x7, .lst false G_Road x8]), some (.box 0 [.lst false GI x9, .lst false GI x10, .lst false GI x11, .int .i64 x12])]⟩ (blkK 0 (seqK (run (z01_E N self) N 0 z01_C4) (fin [(.t 12)] [GI])))
theorem z01_J1_eq (N : Nat) (self : T_Mine → T_Escape → Int → (List Int) → Int → Int → Option Int) (JM n1 : Nat) (x15 : Int) (x16 : List Int) (x17 x18 x19 x20 x21 : Int) (x22 : List T_Place) (x23 : List T_Road) (x24 x25 x26 : List Int) (x27 : Int) : z01_J1 N self (JM + 1) n1 x15 x16 x17 x18 x19 x20 x21 x22 x23 x24 x25 x26 x27 =
 bif (decide (x21 < 0)) then
  z01_L1 N self n1 x15 x16 x17 x18 (W (x19 + 1)) x22 x23 x24 x25 x26 x27
 else
  Option.bind (z0m N x16 x20) fun r39 =>
  bif r39 then
   z01_L1 N self n1 x15 x16 x17 x18 (W (x19 + 1)) x22 x23 x24 x25 x26 x27
  else
   Option.bind (z0m N x25 x20) fun r51 =>
   bif r51 then
    z01_L1 N self n1 x15 x16 x17 x18 (W (x19 + 1)) x22 x23 x24 x25 x26 x27
   else
    Option.bind (z0m N x26 x19) fun r63 =>
    bif r63 then
     z01_L1 N self n1 x15 x16 x17 x18 (W (x19 + 1)) x22 x23 x24 x25 x26 x27
    else
     bif fitsB x16.length 8 then
     bif fitsB (x16.length + 1) 8 then
     Option.bind (self (x22, x23) (x24, (x25, (x26, x27))) x20 (x16 ++ [x20]) (W (x17 + x21)) x18) fun r76 =>
     z01_L1 N self n1 x15 x16 x17 r76 (W (x19 + 1)) x22 x23 x24 x25 x26 x27
     else none
     else none := by kernel_rfl
theorem z01_L1_succ (N : Nat) (self : T_Mine → T_Escape → Int → (List Int) → Int → Int → Option Int) (n1 : Nat) (x2 : Int) (x3 : List Int) (x4 x5 x6 : Int) (x7 : List T_Place) (x8 : List T_Road) (x9 x10 x11 : List Int) (x12 : Int) : z01_L1 N self (n1 + 1) x2 x3 x4 x5 x6 x7 x8 x9 x10 x11 x12 =
 bif (decide (x6 < (x8.length : Int))) then
  bif inB x6 x8.length then
  bif ((x8.getD x6.toNat D_Road).1 == x2) then
   Option.bind (z0j N (x7, x8) x6 false) fun r14 =>
   z01_J1 N self N n1 x2 x3 x4 x5 x6 (x8.getD x6.toNat D_Road).2.1 r14 x7 x8 x9 x10 x11 x12
  else
   bif ((x8.getD x6.toNat D_Road).2.1 == x2) then
    Option.bind (z0j N (x7, x8) x6 true) fun r101 =>
    z01_J1 N self N n1 x2 x3 x4 x5 x6 (x8.getD x6.toNat D_Road).1 r101 x7 x8 x9 x10 x11 x12
   else
    z01_J1 N self N n1 x2 x3 x4 x5 x6 (-1) (-1) x7 x8 x9 x10 x11 x12
  else none
 else
  some x5 := by kernel_rfl
def z01_R (N : Nat) (self : T_Mine → T_Escape → Int → (List Int) → Int → Int → Option Int) (a0 : T_Mine) (a1 : T_Escape) (a2 : Int) (a3 : List Int) (a4 : Int) (a5 : Int) : Option Int :=
 Option.bind (z0r N a0 a1 a2) fun r1 =>
 bif r1 then
  some (min a5 a4)
 else
  z01_L1 N self N a2 a3 a4 a5 0 a0.1 a0.2 a1.1 a1.2.1 a1.2.2.1 a1.2.2.2
def z01_M (N : Nat) : Nat → T_Mine → T_Escape → Int → (List Int) → Int → Int → Option Int
 | 0, _, _, _, _, _, _ => none
 | n + 1, a0, a1, a2, a3, a4, a5 => z01_R N (z01_M N n) a0 a1 a2 a3 a4 a5
theorem z01_M_succ (N n : Nat) (a0 : T_Mine) (a1 : T_Escape) (a2 : Int) (a3 : List Int) (a4 : Int) (a5 : Int) : z01_M N (n + 1) a0 a1 a2 a3 a4 a5 = z01_R N (z01_M N n) a0 a1 a2 a3 a4 a5 := rfl
def z01 (N : Nat) (a0 : T_Mine) (a1 : T_Escape) (a2 : Int) (a3 : List Int) (a4 : Int) (a5 : Int) : Option Int := z01_M N N a0 a1 a2 a3 a4 a5
theorem z01_fn : FnOK Try.prog 26 87 (fun _ : Nat => false) z01_C5.er [(.t 12)] := fk Try.func26
theorem z01_envok (N : Nat) (self : T_Mine → T_Escape → Int → (List Int) → Int → Int → Option Int) (hself : PureOK Try.prog 26 [G_Mine, G_Escape, GI, (.list GI), GI, GI] [GI] (fun x => self x.1 x.2.1 x.2.2.1 x.2.2.2.1 x.2.2.2.2.1 x.2.2.2.2.2)) : EnvOK Try.prog (z01_E N self) := .cons (pureE_ok (z0r_pure N)) (.cons (pureE_ok (z0j_pure N)) (.cons (pureE_ok (z0m_pure N)) (.cons (pureE_ok hself) (.nil))))
theorem z01_pures (N : Nat) : ∀ n, PureOK Try.prog 26 [G_Mine, G_Escape, GI, (.list GI), GI, GI] [GI] (fun x => z01_M N n x.1 x.2.1 x.2.2.1 x.2.2.2.1 x.2.2.2.2.1 x.2.2.2.2.2)
 | 0 => fun x y h => by cases h
 | n + 1 => pureOK (N := N) mixed z01_fn (z01_envok N (z01_M N n) (z01_pures N n)) (TC.noh_ok (by kernel_rfl)) rfl (fun x => by kernel_rfl)
theorem z01_pure (N : Nat) : PureOK Try.prog 26 [G_Mine, G_Escape, GI, (.list GI), GI, GI] [GI] (fun x => z01 N x.1 x.2.1 x.2.2.1 x.2.2.2.1 x.2.2.2.2.1 x.2.2.2.2.2) := z01_pures N N
def z0q_C1 : TC := (.seq (.r [.mn 4]) (.seq (.r [.m 5 0, .m 6 1, .c2 7 53 5 6, .m 4 7]) (.pre [.frz 4] .ret)))
def z0q_E (N : Nat) : List (Nat × Ent) := [(53, pureE [(.list GI), GI] [(.list GI)] (fun x => z0w N x.1 x.2))]
def z0q (N : Nat) (a0 : List Int) (a1 : Int) : Option (List Int) :=
 Option.bind (z0w N a0 a1) fun r1 =>
 some r1
theorem z0q_fn : FnOK Try.prog 27 8 (fun _ : Nat => false) z0q_C1.er [(.t 4)] := fk Try.func27
theorem z0q_envok (N : Nat) : EnvOK Try.prog (z0q_E N) := .cons (pureE_ok (z0w_pure N)) (.nil)
theorem z0q_pure (N : Nat) : PureOK Try.prog 27 [(.list GI), GI] [(.list GI)] (fun x => z0q N x.1 x.2) := pu (N := N) z0q_fn (z0q_envok N)
def z00_C1 : TC := (.seq (.r [.lt 57 4 5, .s 11 (.alloc [(.lst true []), (.lst true []), (.lst true []), (I 0)]), .st 4 11 57]) (.seq (.rg [.fa 58 2 5, .lf 59 1 58, .m 60 3, .fa 61 1 4, .lf 62 1 61, .ln 63 62, .c2 64 13 60 63, .c2 65 27 59 64, .fa 66 1 5, .lf 67 1 66, .m 68 3, .fa 69 0 4, .lf 70 1 69, .ln 71 70, .c2
  72 13 68 71, .c2 73 27 67 72, .fa 74 2 11, .st 1 74 65, .fa 75 1 11, .st 1 75 73] (some [(0, 6), (1, 6), (6, 8), (7, 8), (6, 9), (7, 9), (6, 11), (7, 11), (6, 12), (7, 12), (6, 13), (7, 13), (8, 14), (9, 14), (14, 16), (15, 16)])) (.seq (.r [.lt 77 2 4, .lt 78 4 11, .m 79 6, .c3 80 25 77 78 79, .m
  76 80, .ex 81 0 76, .ex 82 1 76, .ex 83 2 76, .m 12 81, .m 13 82, .m 14 83]) (.seq (.r [.s 84 (.call (.c (.fn 10 [])) []), .m 85 84, .w 85 (.m 86 14), .w 85 (.nt 87 86), .w 85 (.m 88 87), .v 88 (.m 89 9), .v 88 (.m 90 89), .w 90 (.m 91 13), .w 90 (.m 92 8), .w 90 (.b 93 .geq 91 92), .v 88 (.pf 94
  90 93), .w 85 (.pt 95 88 94), .pf 96 85 95, .m 97 96, .w 97 (.m 98 9), .w 97 (.lt 99 2 4), .w 97 (.lt 100 4 5), .w 97 (.m 101 6), .w 97 (.c3 102 21 99 100 101), .w 97 (.bi 103 .gtr 102 0), .w 97 (.s 104 (.beq false (.t 98) (.t 103))), .pf 105 97 104, .m 2 105]) .ret))))
def z00_C2 : TC := (.seq (.r [.mf 2]) (.seq (.seq (.r [.m 15 0, .c1 16 9 15, .nt 17 16]) (.cond (.t 17) (.seq (.r [.s 18 (.call (.c (.fn 10 [])) []), .m 2 18]) .ret) .skip)) (.seq (.r [.m 19 0, .c1 20 11 19, .m 3 20]) (.seq (.r [.m 21 3, .c1 22 12 21, .s 4 (.alloc [(.lst true []), (.lst true [])]), .st 2 4 22]) (.seq
  (.r [.m 23 3, .lt 24 2 4, .c2 25 16 23 24, .s 5 (.alloc [(.lst true []), (.lst true []), (.lst true []), (I 0)]), .st 4 5 25]) (.seq (.r [.m 26 3, .fa 27 0 4, .lf 28 1 27, .ln 29 28, .c2 30 13 26 29, .m 6 30]) (.seq (.r [.lt 32 2 4, .lt 33 4 5, .m 34 6, .c3 35 25 32 33 34, .m 31 35, .ex 36 0 31,
  .ex 37 1 31, .ex 38 2 31, .m 7 36, .m 8 37, .m 9 38]) (.seq (.r [.lt 39 2 4, .lt 40 4 5, .m 41 6, .m 42 6, ⟨⟨some 43, (.bslice false 1 [(I 0)] 1 [(0, (.t 42))]), none⟩, ⟨GI, none, []⟩⟩, .s 44 (.call (.c (.fn 26 [])) [(.t 39), (.t 40), (.t 41), (.t 43), (.c (I 0)), (.c (I
  1099511627776))]), .m 10 44]) (.seq (.seq (.r [.m 45 9, .m 46 10, .bi 47 .lss 46 1099511627776, .s 48 (.beq true (.t 45) (.t 47)), .m 49 48, .v 49 (.m 50 9), .v 49 (.m 51 50), .w 51 (.m 52 8), .w 51 (.m 53 10), .w 51 (.b 54 .neq 52 53), .v 49 (.pf 55 51 54), .pt 56 49 55]) (.cond (.t 56) (.seq (.r
  [.mf 2]) .ret) .skip)) (.join [.keep [3, 4, 5, 6, 8, 9], .cmp] z00_C1))))))))))
def z00_E (N : Nat) : List (Nat × Ent) := [(9, pureE [(.list GI)] [.bool] (fun x => z0b N x)), (10, pureE [] [.bool] (fun x => z02 N)), (11, sfE [none] [.v (.list GI)] [.n G_Dice] (fun x => z0d N x)), (12, sfE [none] [.b (.v G_Dice)] [.v G_Mine] (fun x => z07 N x)), (16, sfE [none, none] [.b (.v G_Dice), .v G_Mine] [.v G_Escape] (fun x => z06 N x.1 x.2)), (13, sfE [none, none] [.b (.v G_Dice), .v GI] [.v GI] (fun x => z08 N x.1 x.2)), (25, pureE [G_Mine, G_Escape, GI] [(.list GI), GI, .bool] (fun x => z17 N x.1 x.2.1 x.2.2)), (26, pureE [G_Mine, G_Escape, GI, (.list GI), GI, GI] [GI] (fun x => z01 N x.1 x.2.1 x.2.2.1 x.2.2.2.1 x.2.2.2.2.1 x.2.2.2.2.2)), (27, pureE [(.list GI), GI] [(.list GI)] (fun x => z0q N x.1 x.2)), (21, pureE [G_Mine, G_Escape, .int .i64] [.int .i64] (fun x => z16 N x.1 x.2.1 x.2.2))]
def z00_J1 (N : Nat) (JM : Nat) (x9 x10 : Int) (x11 : Bool) (x12 : List Int) (x13 : Int) (x14 : List T_Place) (x15 : List T_Road) (x16 x17 x18 : List Int) (x19 : Int) : Option Bool := joinN (run (z00_E N) N 0 z00_C1) JM ⟨[(3, .ptr 0 0 0), (4, .ptr 1 0 0), (5, .ptr 2 0 0), (6, .int .i64 x9), (8, .int .i64 x10), (9, .bool x11)], [some (.box 0 [.lst false GI x12, .int .i64 x13]), some (.box 0 [.lst false G_Place x14, .lst false G_Road x15]), some (.box 0 [.lst false GI x16, .lst false GI x17, .lst false GI x18, .int .i64 x19])]⟩ (fin [(.t 2)] [.bool])
theorem z00_J1_eq (N : Nat) (JM : Nat) (x9 x10 : Int) (x11 : Bool) (x12 : List Int) (x13 : Int) (x14 : List T_Place) (x15 : List T_Road) (x16 x17 x18 : List Int) (x19 : Int) : z00_J1 N (JM + 1) x9 x10 x11 x12 x13 x14 x15 x16 x17 x18 x19 =
 Option.bind (z08 N (x12, x13) (x15.length : Int)) fun r20 =>
 Option.bind (z0q N x18 r20.1) fun r21 =>
 Option.bind (z08 N r20.2 (x14.length : Int)) fun r22 =>
 Option.bind (z0q N x17 r22.1) fun r23 =>
 Option.bind (z17 N (x14, x15) (x16, (r23, (r21, x19))) x9) fun r24 =>
 Option.bind (z02 N) fun r25 =>
 bif r25 then
  bif (!r24.2.2) then
   Option.bind (z16 N (x14, x15) (x16, (x17, (x18, x19))) x9) fun r26 =>
   some (x11 == (decide (r26 > 0)))
  else
   bif x11 then
    bif (decide (r24.2.1 ≥ x10)) then
     Option.bind (z16 N (x14, x15) (x16, (x17, (x18, x19))) x9) fun r27 =>
     some (x11 == (decide (r27 > 0)))
    else
     some false
   else
    some false
 else
  some false := by kernel_rfl
def z00 (N : Nat) (a0 : List Int) : Option Bool :=
 Option.bind (z0b N a0) fun r1 =>
 bif (!r1) then
  Option.bind (z02 N) fun r2 =>
  some r2
 else
  Option.bind (z0d N a0) fun r3 =>
  Option.bind (z07 N r3.1) fun r4 =>
  Option.bind (z06 N r4.2 r4.1) fun r5 =>
  Option.bind (z08 N r5.2 (r4.1.1.length : Int)) fun r6 =>
  Option.bind (z17 N r4.1 r5.1 r6.1) fun r7 =>
  Option.bind (z01 N r4.1 r5.1 r6.1 [r6.1] 0 1099511627776) fun r8 =>
  bif (!(r7.2.2 == (decide (r8 < 1099511627776)))) then
   some false
  else
   bif r7.2.2 then
    bif (r7.2.1 != r8) then
     some false
    else
     z00_J1 N N r6.1 r7.2.1 r7.2.2 r6.2.1 r6.2.2 r4.1.1 r4.1.2 r5.1.1 r5.1.2.1 r5.1.2.2.1 r5.1.2.2.2
   else
    z00_J1 N N r6.1 r7.2.1 r7.2.2 r6.2.1 r6.2.2 r4.1.1 r4.1.2 r5.1.1 r5.1.2.1 r5.1.2.2.1 r5.1.2.2.2
theorem z00_fn : FnOK Try.prog 6 106 (fun _ : Nat => false) z00_C2.er [(.t 2)] := fk Try.func6
theorem z00_envok (N : Nat) : EnvOK Try.prog (z00_E N) := .cons (pureE_ok (z0b_pure N)) (.cons (pureE_ok (z02_pure N)) (.cons (sfE_ok (z0d_sf N)) (.cons (sfE_ok (z07_sf N)) (.cons (sfE_ok (z06_sf N)) (.cons (sfE_ok (z08_sf N)) (.cons (pureE_ok (z17_pure N)) (.cons (pureE_ok (z01_pure N)) (.cons (pureE_ok (z0q_pure N)) (.cons (pureE_ok (z16_pure N)) (.nil))))))))))
theorem z00_pure (N : Nat) : PureOK Try.prog 6 [(.list GI)] [.bool] (fun x => z00 N x) := pu (N := N) z00_fn (z00_envok N)
end
end M
end Go.Proofs.Ytiemlgicaibccaa
