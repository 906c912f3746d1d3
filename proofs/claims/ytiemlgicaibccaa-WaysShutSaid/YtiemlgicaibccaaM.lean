/- Plain models of functions of this seat, each checked against the loaded program and the walk by the kernel. No condition: closed facts. Printed by a program of ours. -/
import Derived.Test.YtiemlgicaibccaaM1
set_option linter.all false
namespace Go.Proofs.Ytiemlgicaibccaa
open Go.Pv
namespace M
noncomputable section
def z0x_N1 : List NS := [.wk 0 (.list GI), .keep [0, 1, 5], .cmp]
def z0x_C1 : TC := (.seq (.seq (.r [.m 6 5, .m 7 0, .ln 8 7, .b 9 .lss 6 8, .m 10 9, .w 10 (.m 11 0), .w 10 (.m 12 5), .w 10 (.ia 13 1 11 12), .w 10 (.lf 14 1 13), .w 10 (.m 15 1), .w 10 (.b 16 .lss 14 15), .pf 17 10 16]) (.cond (.t 17) .skip (.exit 0))) (.block 1 (.r [.m 18 5, .bi 19 .add 18 1, .m 5 19])))
def z0x_C2 : TC := (.seq (.seq (.r [.m 20 5, .m 21 0, .ln 22 21, .b 23 .lss 20 22, .m 24 23, .w 24 (.m 25 0), .w 24 (.m 26 5), .w 24 (.ia 27 1 25 26), .w 24 (.lf 28 1 27), .w 24 (.m 29 1), .w 24 (.b 30 .eql 28 29), .pf 31 24 30]) (.cond (.t 31) (.seq (.r [.m 32 0, ⟨⟨some 33, (.app 1 8 (.c (.lst true [])) (.t 32)),
  none⟩, ⟨GI, none, []⟩⟩, .m 4 33]) (.pre [.frz 4] .ret)) .skip)) (.seq (.pre [.ghost GI] (.rg [.m 34 0, .m 35 5, .s 36 (.slc 1 (.t 34) none (some (.t 35))), ⟨⟨some 37, (.app 1 8 (.c (.lst true [])) (.t 36)), none⟩, ⟨.unit, some 0, []⟩⟩, .m 38 1, ⟨⟨some 39, (.bslice false 1 [(I 0)]
  1 [(0, (.t 38))]), none⟩, ⟨GI, none, []⟩⟩, .s 40 (.app 1 8 (.t 37) (.t 39)), .m 41 0, .m 42 5, .s 43 (.slc 1 (.t 41) (some (.t 42)) none), .s 44 (.app 1 8 (.t 40) (.t 43)), .m 4 44] (some [(3, 9), (6, 9)]))) (.pre [.frz 4] .ret)))
def z0x_C3 : TC := (.seq (.r [.mn 4]) (.seq (.r [.mi 5 0]) (.seq (.block 0 (.loop z0x_N1 z0x_C1)) z0x_C2)))
def z0x_E (N : Nat) : List (Nat × Ent) := []
def z0x_L1 (N : Nat) (n : Nat) (x1 : List Int) (x2 x3 : Int) : Option (List Int) := loopN (normI 0 z0x_N1) (run (z0x_E N) N 0 z0x_C1) n ⟨[(0, .lst false GI x1), (1, .int .i64 x2), (5, .int .i64 x3)], []⟩ (blkK 0 (seqK (run (z0x_E N) N 0 z0x_C2) (fin [(.t 4)] [(.list GI)])))
theorem z0x_L1_succ (N : Nat) (n1 : Nat) (x1 : List Int) (x2 x3 : Int) : z0x_L1 N (n1 + 1) x1 x2 x3 =
 bif (decide (x3 < (x1.length : Int))) then
  bif inB x3 x1.length then
  bif (decide ((x1.getD x3.toNat 0) < x2)) then
   z0x_L1 N n1 x1 x2 (W (x3 + 1))
  else
   bif (decide (x3 < (x1.length : Int))) then
    bif inB x3 x1.length then
    bif ((x1.getD x3.toNat 0) == x2) then
     bif fitsB x1.length 8 then
     some x1
     else none
    else
     bif slB 0 x3 x1.length then
     bif fitsB (x1.take x3.toNat).length 8 then
     bif fitsB ((x1.take x3.toNat).length + 1) 8 then
     bif slB x3 x1.length x1.length then
     bif fitsB (((x1.take x3.toNat) ++ [x2]).length + (x1.drop x3.toNat).length) 8 then
     some (((x1.take x3.toNat) ++ [x2]) ++ (x1.drop x3.toNat))
     else none
     else none
     else none
     else none
     else none
    else none
   else
    bif slB 0 x3 x1.length then
    bif fitsB (x1.take x3.toNat).length 8 then
    bif fitsB ((x1.take x3.toNat).length + 1) 8 then
    bif slB x3 x1.length x1.length then
    bif fitsB (((x1.take x3.toNat) ++ [x2]).length + (x1.drop x3.toNat).length) 8 then
    some (((x1.take x3.toNat) ++ [x2]) ++ (x1.drop x3.toNat))
    else none
    else none
    else none
    else none
    else none
  else none
 else
  bif (decide (x3 < (x1.length : Int))) then
   bif inB x3 x1.length then
   bif ((x1.getD x3.toNat 0) == x2) then
    bif fitsB x1.length 8 then
    some x1
    else none
   else
    bif slB 0 x3 x1.length then
    bif fitsB (x1.take x3.toNat).length 8 then
    bif fitsB ((x1.take x3.toNat).length + 1) 8 then
    bif slB x3 x1.length x1.length then
    bif fitsB (((x1.take x3.toNat) ++ [x2]).length + (x1.drop x3.toNat).length) 8 then
    some (((x1.take x3.toNat) ++ [x2]) ++ (x1.drop x3.toNat))
    else none
    else none
    else none
    else none
    else none
   else none
  else
   bif slB 0 x3 x1.length then
   bif fitsB (x1.take x3.toNat).length 8 then
   bif fitsB ((x1.take x3.toNat).length + 1) 8 then
   bif slB x3 x1.length x1.length then
   bif fitsB (((x1.take x3.toNat) ++ [x2]).length + (x1.drop x3.toNat).length) 8 then
   some (((x1.take x3.toNat) ++ [x2]) ++ (x1.drop x3.toNat))
   else none
   else none
   else none
   else none
   else none := by kernel_rfl
def z0x (N : Nat) (a0 : List Int) (a1 : Int) : Option (List Int) :=
 z0x_L1 N N a0 a1 0
theorem z0x_fn : FnOK Try.prog 53 45 (fun _ : Nat => false) z0x_C3.er [(.t 4)] := fk Try.func53
theorem z0x_envok (N : Nat) : EnvOK Try.prog (z0x_E N) := .nil
theorem z0x_pure (N : Nat) : PureOK Try.prog 53 [(.list GI), GI] [(.list GI)] (fun x => z0x N x.1 x.2) := pu (N := N) z0x_fn (z0x_envok N)
def z0y_N1 : List NS := [.wk 3 (.list GI), .keep [3, 4, 5, 8, 9, 10], .cmp]
def z0y_C1 : TC := (.seq (.seq (.r [.m 14 10, .m 15 3, .ln 16 15, .b 17 .lss 14 16]) (.cond (.t 17) .skip (.exit 0))) (.seq (.block 1 (.seq (.rg [.lt 21 2 4, .m 22 3, .m 23 10, .ia 24 1 22 23, .lf 25 1 24, .m 26 9, .c3 27 55 21 25 26, .m 20 27, .ex 28 0 20, .ex 29 1 20, .m 11 28, .m 12 29] (some [])) (.rg [.fa 30 2
  5, .lf 31 1 30, .m 32 3, .m 33 10, .ia 34 1 32 33, .lf 35 1 34, .c2 36 53 31 35, .fa 37 1 5, .lf 38 1 37, .m 39 11, .c2 40 53 38 39, .m 41 11, .fa 42 2 5, .st 1 42 36, .fa 43 1 5, .st 1 43 40, .m 9 41] (some [(6, 7), (6, 8), (10, 12)])))) (.r [.m 18 10, .bi 19 .add 18 1, .m 10 19])))
def z0y_C2 : TC := (.seq (.r [.lt 44 4 5, .st 4 8 44]) (.pre [.frzb 8] .ret))
def z0y_E (N : Nat) : List (Nat × Ent) := [(55, pureE [G_Mine, GI, GI] [GI, GI] (fun x => z0w N x.1 x.2.1 x.2.2)), (53, pureE [(.list GI), GI] [(.list GI)] (fun x => z0x N x.1 x.2))]
def z0y_L1 (N : Nat) (n : Nat) (x1 : List Int) (x2 x3 : Int) (x4 : List T_Place) (x5 : List T_Road) (x6 x7 x8 : List Int) (x9 x10 : Int) : Option T_Escape := loopN (normI 0 z0y_N1) (run (z0y_E N) N 0 z0y_C1) n ⟨[(3, .lst false GI x1), (4, .ptr 0 0 0), (5, .ptr 1 0 0), (8, .ptr 2 0 0), (9, .int .i64 x2), (10, .int .i64 x3)], [some (.box 0 [.lst false G_Place x4, .lst false G_Road x5]), some (.box 0 [.lst false GI x6, .lst false GI x7, .lst false GI x8, .int .i64 x9]), some (.box 0 [.nil, .nil, .nil, .int .i64 x10])]⟩ (blkK 0 (seqK (run (z0y_E N) N 0 z0y_C2) (fin [(.cell 8 true 4)] [G_Escape])))
theorem z0y_L1_succ (N : Nat) (n1 : Nat) (x1 : List Int) (x2 x3 : Int) (x4 : List T_Place) (x5 : List T_Road) (x6 x7 x8 : List Int) (x9 x10 : Int) : z0y_L1 N (n1 + 1) x1 x2 x3 x4 x5 x6 x7 x8 x9 x10 =
 bif (decide (x3 < (x1.length : Int))) then
  bif inB x3 x1.length then
  Option.bind (z0w N (x4, x5) (x1.getD x3.toNat 0) x2) fun r11 =>
  bif inB x3 x1.length then
  Option.bind (z0x N x8 (x1.getD x3.toNat 0)) fun r12 =>
  Option.bind (z0x N x7 r11.1) fun r13 =>
  z0y_L1 N n1 x1 r11.1 (W (x3 + 1)) x4 x5 x6 r13 r12 x9 x10
  else none
  else none
 else
  some (x6, (x7, (x8, x9))) := by kernel_rfl
def z0y (N : Nat) (a0 : T_Mine) (a1 : T_Escape) (a2 : Int) (a3 : List Int) : Option T_Escape :=
 z0y_L1 N N a3 a2 0 a0.1 a0.2 a1.1 a1.2.1 a1.2.2.1 a1.2.2.2 0
def z0s (N : Nat) (a0 : T_Mine) (a1 : T_Escape) (a2 : Int) : Option ((List Int) × (List Int) × Bool) :=
 Option.bind (z0p N a0 a1 a2) fun r1 =>
 bif (!r1.2.2) then
  some ([], [], false)
 else
  bif ((r1.1.length : Int) == 0) then
   some ([], [], true)
  else
   Option.bind (z0y N a0 a1 a2 r1.1) fun r2 =>
   Option.bind (z0p N a0 r2 a2) fun r3 =>
   bif (!r3.2.2) then
    some ([], [], false)
   else
    some (r1.1, r3.1, true)
def z0m_N1 : List NS := [.wk 0 (.list GI), .wk 1 (.list GI), .keep [0, 1, 5], .cmp]
def z0m_C1 : TC := (.seq (.seq (.r [.m 11 5, .m 12 0, .ln 13 12, .b 14 .lss 11 13]) (.cond (.t 14) .skip (.exit 0))) (.seq (.block 1 (.seq (.rg [.m 17 0, .m 18 5, .ia 19 1 17 18, .lf 20 1 19, .m 21 1, .m 22 5, .ia 23 1 21 22, .lf 24 1 23, .b 25 .neq 20 24] (some [])) (.cond (.t 25) (.seq (.r [.mf 4]) .ret) .skip)))
  (.r [.m 15 5, .bi 16 .add 15 1, .m 5 16])))
def z0m_C2 : TC := (.seq (.r [.mt 4]) .ret)
def z0m_C3 : TC := (.seq (.r [.mf 4]) (.seq (.seq (.r [.m 6 0, .ln 7 6, .m 8 1, .ln 9 8, .b 10 .neq 7 9]) (.cond (.t 10) (.seq (.r [.mf 4]) .ret) .skip)) (.seq (.seq (.r [.mi 5 0]) (.block 0 (.loop z0m_N1 z0m_C1))) z0m_C2)))
def z0m_E (N : Nat) : List (Nat × Ent) := []
def z0m_L1 (N : Nat) (n : Nat) (x1 x2 : List Int) (x3 : Int) : Option Bool := loopN (normI 0 z0m_N1) (run (z0m_E N) N 0 z0m_C1) n ⟨[(0, .lst false GI x1), (1, .lst false GI x2), (5, .int .i64 x3)], []⟩ (blkK 0 (seqK (run (z0m_E N) N 0 z0m_C2) (fin [(.t 4)] [.bool])))
theorem z0m_L1_succ (N : Nat) (n1 : Nat) (x1 x2 : List Int) (x3 : Int) : z0m_L1 N (n1 + 1) x1 x2 x3 =
 bif (decide (x3 < (x1.length : Int))) then
  bif inB x3 x1.length then
  bif inB x3 x2.length then
  bif ((x1.getD x3.toNat 0) != (x2.getD x3.toNat 0)) then
   some false
  else
   z0m_L1 N n1 x1 x2 (W (x3 + 1))
  else none
  else none
 else
  some true := by kernel_rfl
def z0m (N : Nat) (a0 : List Int) (a1 : List Int) : Option Bool :=
 bif ((a0.length : Int) != (a1.length : Int)) then
  some false
 else
  z0m_L1 N N a0 a1 0
theorem z0m_fn : FnOK Try.prog 28 26 (fun _ : Nat => false) z0m_C3.er [(.t 4)] := fk Try.func28
theorem z0m_envok (N : Nat) : EnvOK Try.prog (z0m_E N) := .nil
theorem z0m_pure (N : Nat) : PureOK Try.prog 28 [(.list GI), (.list GI)] [.bool] (fun x => z0m N x.1 x.2) := pu (N := N) z0m_fn (z0m_envok N)
def z0o_N1 : List NS := [.keep [2, 3, 4, 10], .cmp]
def z0o_C1 : TC := (.seq (.seq (.r [.m 29 10, .fa 30 0 3, .lf 31 1 30, .ln 32 31, .b 33 .lss 29 32]) (.cond (.t 33) .skip (.exit 0))) (.seq (.block 1 (.seq (.r [.lt 36 4 4, .s 11 (.alloc [(.lst true []), (.lst true []), (.lst true []), (I 0)]), .st 4 11 36]) (.seq (.r [.fa 37 1 4, .lf 38 1 37, .m 39 10, .c2 40 53 38
  39, .fa 41 1 11, .st 1 41 40]) (.seq (.r [.lt 43 2 3, .lt 44 4 11, .m 45 2, .c3 46 32 43 44 45, .m 42 46, .ex 47 0 42, .ex 48 1 42, .ex 49 2 42, .m 12 47, .m 13 48, .m 14 49]) (.seq (.r [.m 50 10, .m 51 2, .b 52 .neq 50 51, .m 53 52, .w 53 (.m 54 14), .w 53 (.nt 55 54), .pf 56 53 55]) (.cond (.t
  56) (.seq (.r [.mi 6 1]) .ret) .skip)))))) (.r [.m 34 10, .bi 35 .add 34 1, .m 10 35])))
def z0o_C2 : TC := (.seq (.r [.mi 6 2]) .ret)
def z0o_E (N : Nat) : List (Nat × Ent) := [(32, pureE [G_Mine, G_Escape, GI] [(.list GI), GI, .bool] (fun x => z0p N x.1 x.2.1 x.2.2)), (51, pureE [G_Mine, G_Escape, GI] [.bool] (fun x => z0r N x.1 x.2.1 x.2.2)), (53, pureE [(.list GI), GI] [(.list GI)] (fun x => z0x N x.1 x.2))]
def z0o_L1 (N : Nat) (n : Nat) (x3 x4 : Int) (x5 : List T_Place) (x6 : List T_Road) (x7 x8 x9 : List Int) (x10 : Int) : Option Int := loopN (normI 0 z0o_N1) (run (z0o_E N) N 0 z0o_C1) n ⟨[(2, .int .i64 x3), (3, .ptr 0 0 0), (4, .ptr 1 0 0), (10, .int .i64 x4)], [some (.box 0 [.lst false G_Place x5, .lst false G_Road x6]), some (.box 0 [.lst false GI x7, .lst false GI x8, .lst false GI x9, .int .i64 x10])]⟩ (blkK 0 (seqK (run (z0o_E N) N 0 z0o_C2) (fin [(.t 6)] [GI])))
theorem z0o_L1_succ (N : Nat) (n1 : Nat) (x3 x4 : Int) (x5 : List T_Place) (x6 : List T_Road) (x7 x8 x9 : List Int) (x10 : Int) : z0o_L1 N (n1 + 1) x3 x4 x5 x6 x7 x8 x9 x10 =
 bif (decide (x4 < (x5.length : Int))) then
  Option.bind (z0x N x8 x4) fun r11 =>
  Option.bind (z0p N (x5, x6) (x7, (r11, (x9, x10))) x3) fun r12 =>
  bif (x4 != x3) then
   bif (!r12.2.2) then
    some 1
   else
    z0o_L1 N n1 x3 (W (x4 + 1)) x5 x6 x7 x8 x9 x10
  else
   z0o_L1 N n1 x3 (W (x4 + 1)) x5 x6 x7 x8 x9 x10
 else
  some 2 := by kernel_rfl
def z0o (N : Nat) (a0 : T_Mine) (a1 : T_Escape) (a2 : Int) : Option Int :=
 Option.bind (z0p N a0 a1 a2) fun r1 =>
 bif (!r1.2.2) then
  some 0
 else
  Option.bind (z0r N a0 a1 a2) fun r2 =>
  bif r2 then
   some 2
  else
   z0o_L1 N N a2 0 a0.1 a0.2 a1.1 a1.2.1 a1.2.2.1 a1.2.2.2
def z05_NE : List NS := [.frzb 4, .frzo 0, .keep [4], .out [0]]
def z05_C1 : TC := (.seq (.r [.bx 3 1, .s 4 (.alloc [(.lst true []), (.lst true []), (.lst true []), (I 0)])]) (.seq (.r [.m 6 0, ⟨⟨some 7, (.bslice false 1 [(I 0)] 5 [(0, (.c (I 600))), (1, (.c (I 100))), (2, (.c (I 60))), (3, (.c (I 1000))), (4, (.c (I 0)))]), none⟩, ⟨GI, none, []⟩⟩, .c2 8 30 6 7, .s 9
  (.build [(.lst true []), (.lst true []), (.lst true []), (I 0)] [(3, (1, (.t 8)))]), .s 5 (.alloc [(.lst true []), (.lst true []), (.lst true []), (I 0)]), .st 4 5 9]) (.seq (.seq (.r [.m 10 0, .s 11 (.call (.c (.fn 14 [])) [(.t 10), (.c (I 3))])]) (.cond (.t 11) (.r [.m 12 0, .fa 13 0 3, .lf 14 1
  13, .ln 15 14, .c2 16 13 12 15, ⟨⟨some 17, (.bslice false 1 [(I 0)] 1 [(0, (.t 16))]), none⟩, ⟨GI, none, []⟩⟩, .fa 18 0 5, .st 1 18 17]) .skip)) (.seq (.seq (.r [.m 19 0, .s 20 (.call (.c (.fn 14 [])) [(.t 19), (.c (I 4))])]) (.cond (.t 20) (.r [.m 21 0, .fa 22 0 3, .lf 23 1 22, .ln 24
  23, .c2 25 13 21 24, ⟨⟨some 26, (.bslice false 1 [(I 0)] 1 [(0, (.t 25))]), none⟩, ⟨GI, none, []⟩⟩, .fa 27 1 5, .st 1 27 26]) .skip)) (.seq (.seq (.r [.m 28 0, .s 29 (.call (.c (.fn 14 [])) [(.t 28), (.c (I 4))]), .m 30 29, .w 30 (.fa 31 1 3), .w 30 (.lf 32 1 31), .w 30 (.ln 33 32), .w 30
  (.bi 34 .gtr 33 0), .pf 35 30 34]) (.cond (.t 35) (.r [.m 36 0, .fa 37 1 3, .lf 38 1 37, .ln 39 38, .c2 40 13 36 39, ⟨⟨some 41, (.bslice false 1 [(I 0)] 1 [(0, (.t 40))]), none⟩, ⟨GI, none, []⟩⟩, .fa 42 2 5, .st 1 42 41]) .skip)) (.seq (.r [.lt 43 4 5, .st 4 4 43]) (.pre [.frzb 4, .frzo
  0, .keep [4], .out [0]] .ret)))))))
def z05_E (N : Nat) : List (Nat × Ent) := [(30, sfE [none, none] [.b (.v G_Dice), .v (.list GI)] [.v GI] (fun x => z08 N x.1 x.2)), (14, sfE [none, none] [.b (.v G_Dice), .v GI] [.v .bool] (fun x => z09 N x.1 x.2)), (13, sfE [none, none] [.b (.v G_Dice), .v GI] [.v GI] (fun x => z07 N x.1 x.2))]
def z05 (N : Nat) (a0 : T_Dice) (a1 : T_Mine) : Option (T_Escape × T_Dice) :=
 Option.bind (z08 N a0 [600, 100, 60, 1000, 0]) fun r1 =>
 Option.bind (z09 N r1.2 3) fun r2 =>
 bif r2.1 then
  Option.bind (z07 N r2.2 (a1.1.length : Int)) fun r3 =>
  Option.bind (z09 N r3.2 4) fun r4 =>
  bif r4.1 then
   Option.bind (z07 N r4.2 (a1.1.length : Int)) fun r5 =>
   Option.bind (z09 N r5.2 4) fun r6 =>
   bif r6.1 then
    bif (decide ((a1.2.length : Int) > 0)) then
     Option.bind (z07 N r6.2 (a1.2.length : Int)) fun r7 =>
     some (([r3.1], ([r5.1], ([r7.1], r1.1))), r7.2)
    else
     some (([r3.1], ([r5.1], ([], r1.1))), r6.2)
   else
    some (([r3.1], ([r5.1], ([], r1.1))), r6.2)
  else
   Option.bind (z09 N r4.2 4) fun r8 =>
   bif r8.1 then
    bif (decide ((a1.2.length : Int) > 0)) then
     Option.bind (z07 N r8.2 (a1.2.length : Int)) fun r9 =>
     some (([r3.1], ([], ([r9.1], r1.1))), r9.2)
    else
     some (([r3.1], ([], ([], r1.1))), r8.2)
   else
    some (([r3.1], ([], ([], r1.1))), r8.2)
 else
  Option.bind (z09 N r2.2 4) fun r10 =>
  bif r10.1 then
   Option.bind (z07 N r10.2 (a1.1.length : Int)) fun r11 =>
   Option.bind (z09 N r11.2 4) fun r12 =>
   bif r12.1 then
    bif (decide ((a1.2.length : Int) > 0)) then
     Option.bind (z07 N r12.2 (a1.2.length : Int)) fun r13 =>
     some (([], ([r11.1], ([r13.1], r1.1))), r13.2)
    else
     some (([], ([r11.1], ([], r1.1))), r12.2)
   else
    some (([], ([r11.1], ([], r1.1))), r12.2)
  else
   Option.bind (z09 N r10.2 4) fun r14 =>
   bif r14.1 then
    bif (decide ((a1.2.length : Int) > 0)) then
     Option.bind (z07 N r14.2 (a1.2.length : Int)) fun r15 =>
     some (([], ([], ([r15.1], r1.1))), r15.2)
    else
     some (([], ([], ([], r1.1))), r14.2)
   else
    some (([], ([], ([], r1.1))), r14.2)
theorem z05_fn : FnOK Try.prog 16 44 (fun _ : Nat => false) z05_C1.er [(.cell 4 true 4)] := fk Try.func16
theorem z05_envok (N : Nat) : EnvOK Try.prog (z05_E N) := .cons (sfE_ok (z08_sf N)) (.cons (sfE_ok (z09_sf N)) (.cons (sfE_ok (z07_sf N)) (.nil)))
theorem z05_sf (N : Nat) : SFOK Try.prog 16 [none, none] [.b (.v G_Dice), .v G_Mine] [.v G_Escape] (fun x => z05 N x.1 x.2) := sfOK (N := N) (p := 1) (q := 1) (ns := z05_NE) mixed z05_fn (z05_envok N) (TC.noh_ok (by kernel_rfl)) rfl rfl rfl (fun x => by kernel_rfl)
def z0q_C1 : TC := (.seq (.r [.mn 4]) (.seq (.r [.m 5 0, .m 6 1, .c2 7 53 5 6, .m 4 7]) (.pre [.frz 4] .ret)))
def z0q_E (N : Nat) : List (Nat × Ent) := [(53, pureE [(.list GI), GI] [(.list GI)] (fun x => z0x N x.1 x.2))]
def z0q (N : Nat) (a0 : List Int) (a1 : Int) : Option (List Int) :=
 Option.bind (z0x N a0 a1) fun r1 =>
 some r1
theorem z0q_fn : FnOK Try.prog 27 8 (fun _ : Nat => false) z0q_C1.er [(.t 4)] := fk Try.func27
theorem z0q_envok (N : Nat) : EnvOK Try.prog (z0q_E N) := .cons (pureE_ok (z0x_pure N)) (.nil)
theorem z0q_pure (N : Nat) : PureOK Try.prog 27 [(.list GI), GI] [(.list GI)] (fun x => z0q N x.1 x.2) := pu (N := N) z0q_fn (z0q_envok N)
def z00_C1 : TC := (.seq (.r [.mf 2]) (.seq (.seq (.r [.m 22 0, .c1 23 9 22, .nt 24 23]) (.cond (.t 24) (.seq (.r [.s 25 (.call (.c (.fn 10 [])) []), .m 2 25]) .ret) .skip)) (.seq (.r [.m 26 0, .c1 27 11 26, .m 3 27]) (.seq (.r [.m 28 3, .c1 29 12 28, .s 4 (.alloc [(.lst true []), (.lst true [])]), .st 2 4 29]) (.seq
  (.r [.m 30 3, .lt 31 2 4, .c2 32 16 30 31, .s 5 (.alloc [(.lst true []), (.lst true []), (.lst true []), (I 0)]), .st 4 5 32]) (.seq (.rg [.m 33 3, .fa 34 0 4, .lf 35 1 34, .ln 36 35, .c2 37 13 33 36, .m 38 3, .fa 39 1 4, .lf 40 1 39, .ln 41 40, .c2 42 13 38 41, .m 6 37, .m 7 42] (some [(4, 6),
  (4, 7), (4, 8)])) (.seq (.r [.lt 43 4 5, .s 8 (.alloc [(.lst true []), (.lst true []), (.lst true []), (I 0)]), .st 4 8 43]) (.seq (.r [.fa 44 2 5, .lf 45 1 44, .m 46 7, .c2 47 27 45 46, .fa 48 2 8, .st 1 48 47]) (.seq (.r [.lt 49 2 4, .s 9 (.alloc [(.lst true []), (.lst true [])]), .st 2 9 49])
  (.seq (.pre [.ghost G_Road] (.r [.fa 50 1 4, .lf 51 1 50, ⟨⟨some 52, (.app 10 72 (.c (.lst true [])) (.t 51)), none⟩, ⟨.unit, some 5, []⟩⟩, .fa 53 1 9, .st 1 53 52])) (.seq (.r [.fa 54 1 9, .lf 55 1 54, .m 56 7, .ia 57 10 55 56, .fa 58 5 57, .d (.store 1 (.t 58) (.c (B true)))]) (.seq (.r [.lt 60
  2 4, .lt 61 4 8, .m 62 6, .c3 63 25 60 61 62, .m 59 63, .ex 64 0 59, .ex 65 1 59, .ex 66 2 59, .m 10 64, .m 11 65, .m 12 66]) (.seq (.rgw [([.lt 68 2 9, .lt 69 4 5, .m 70 6], [.frz 52]), ([.c3 71 25 68 69 70, .m 67 71, .ex 72 0 67, .ex 73 1 67, .ex 74 2 67, .m 13 72, .m 14 73, .m 15 74], [])])
  (.seq (.r [.lt 76 2 4, .lt 77 4 8, .m 78 6, .c3 79 18 76 77 78, .m 75 79, .ex 80 0 75, .ex 81 1 75, .ex 82 2 75, .m 16 80, .m 17 81, .m 18 82]) (.seq (.r [.lt 84 2 9, .lt 85 4 5, .m 86 6, .c3 87 18 84 85 86, .m 83 87, .ex 88 0 83, .ex 89 1 83, .ex 90 2 83, .m 19 88, .m 20 89, .m 21 90]) (.seq (.rg
  [.s 91 (.call (.c (.fn 10 [])) []), .m 92 91, .w 92 (.m 93 12), .w 92 (.m 94 15), .w 92 (.s 95 (.beq false (.t 93) (.t 94))), .pf 96 92 95, .m 97 96, .w 97 (.m 98 11), .w 97 (.m 99 14), .w 97 (.b 100 .eql 98 99), .pf 101 97 100, .m 102 101, .w 102 (.m 103 10), .w 102 (.m 104 13), .w 102 (.c2 105
  28 103 104), .pf 106 102 105, .m 107 106, .w 107 (.m 108 18), .w 107 (.m 109 21), .w 107 (.s 110 (.beq false (.t 108) (.t 109))), .pf 111 107 110, .m 112 111, .w 112 (.m 113 16), .w 112 (.m 114 19), .w 112 (.c2 115 28 113 114), .pf 116 112 115, .m 117 116, .w 117 (.m 118 17), .w 117 (.m 119 20),
  .w 117 (.c2 120 28 118 119), .pf 121 117 120, .m 122 121, .w 122 (.lt 123 2 4), .w 122 (.lt 124 4 8), .w 122 (.m 125 6), .w 122 (.c3 126 21 123 124 125), .w 122 (.lt 127 2 9), .w 122 (.lt 128 4 5), .w 122 (.m 129 6), .w 122 (.c3 130 21 127 128 129), .w 122 (.b 131 .eql 126 130), .pf 132 122 131,
  .m 2 132] (some [(35, 36), (35, 37)])) .ret))))))))))))))))
def z00_E (N : Nat) : List (Nat × Ent) := [(9, pureE [(.list GI)] [.bool] (fun x => z0a N x)), (10, pureE [] [.bool] (fun x => z01 N)), (11, sfE [none] [.v (.list GI)] [.n G_Dice] (fun x => z0c N x)), (12, sfE [none] [.b (.v G_Dice)] [.v G_Mine] (fun x => z06 N x)), (16, sfE [none, none] [.b (.v G_Dice), .v G_Mine] [.v G_Escape] (fun x => z05 N x.1 x.2)), (13, sfE [none, none] [.b (.v G_Dice), .v GI] [.v GI] (fun x => z07 N x.1 x.2)), (27, pureE [(.list GI), GI] [(.list GI)] (fun x => z0q N x.1 x.2)), (25, pureE [G_Mine, G_Escape, GI] [(.list GI), GI, .bool] (fun x => z19 N x.1 x.2.1 x.2.2)), (18, pureE [G_Mine, G_Escape, GI] [(.list GI), (.list GI), .bool] (fun x => z1e N x.1 x.2.1 x.2.2)), (28, pureE [(.list GI), (.list GI)] [.bool] (fun x => z0m N x.1 x.2)), (21, pureE [G_Mine, G_Escape, .int .i64] [.int .i64] (fun x => z18 N x.1 x.2.1 x.2.2))]
def z00 (N : Nat) (a0 : List Int) : Option Bool :=
 Option.bind (z0a N a0) fun r1 =>
 bif (!r1) then
  Option.bind (z01 N) fun r2 =>
  some r2
 else
  Option.bind (z0c N a0) fun r3 =>
  Option.bind (z06 N r3.1) fun r4 =>
  Option.bind (z05 N r4.2 r4.1) fun r5 =>
  Option.bind (z07 N r5.2 (r4.1.1.length : Int)) fun r6 =>
  Option.bind (z07 N r6.2 (r4.1.2.length : Int)) fun r7 =>
  Option.bind (z0q N r5.1.2.2.1 r7.1) fun r8 =>
  bif fitsB r4.1.2.length 72 then
  bif inB r7.1 r4.1.2.length then
  let v9 := r4.1.2.getD r7.1.toNat D_Road
  let v10 := r4.1.2.set r7.1.toNat (v9.1, (v9.2.1, (v9.2.2.1, (v9.2.2.2.1, (v9.2.2.2.2.1, (true, v9.2.2.2.2.2.2))))))
  Option.bind (z19 N r4.1 (r5.1.1, (r5.1.2.1, (r8, r5.1.2.2.2))) r6.1) fun r11 =>
  Option.bind (z19 N (r4.1.1, v10) r5.1 r6.1) fun r12 =>
  Option.bind (z1e N r4.1 (r5.1.1, (r5.1.2.1, (r8, r5.1.2.2.2))) r6.1) fun r13 =>
  Option.bind (z1e N (r4.1.1, v10) r5.1 r6.1) fun r14 =>
  Option.bind (z01 N) fun r15 =>
  bif r15 then
   bif (r11.2.2 == r12.2.2) then
    bif (r11.2.1 == r12.2.1) then
     Option.bind (z0m N r11.1 r12.1) fun r16 =>
     bif r16 then
      bif (r13.2.2 == r14.2.2) then
       Option.bind (z0m N r13.1 r14.1) fun r17 =>
       bif r17 then
        Option.bind (z0m N r13.2.1 r14.2.1) fun r18 =>
        bif r18 then
         Option.bind (z18 N r4.1 (r5.1.1, (r5.1.2.1, (r8, r5.1.2.2.2))) r6.1) fun r19 =>
         Option.bind (z18 N (r4.1.1, v10) r5.1 r6.1) fun r20 =>
         some (r19 == r20)
        else
         some false
       else
        some false
      else
       some false
     else
      some false
    else
     some false
   else
    some false
  else
   some false
  else none
  else none
theorem z00_fn : FnOK Try.prog 7 133 (fun _ : Nat => false) z00_C1.er [(.t 2)] := fk Try.func7
theorem z00_envok (N : Nat) : EnvOK Try.prog (z00_E N) := .cons (pureE_ok (z0a_pure N)) (.cons (pureE_ok (z01_pure N)) (.cons (sfE_ok (z0c_sf N)) (.cons (sfE_ok (z06_sf N)) (.cons (sfE_ok (z05_sf N)) (.cons (sfE_ok (z07_sf N)) (.cons (pureE_ok (z0q_pure N)) (.cons (pureE_ok (z19_pure N)) (.cons (pureE_ok (z1e_pure N)) (.cons (pureE_ok (z0m_pure N)) (.cons (pureE_ok (z18_pure N)) (.nil)))))))))))
theorem z00_pure (N : Nat) : PureOK Try.prog 7 [(.list GI)] [.bool] (fun x => z00 N x) := pu (N := N) z00_fn (z00_envok N)
end
end M
end Go.Proofs.Ytiemlgicaibccaa
