/- Plain models of functions of this seat, each checked against the loaded program and the walk by the kernel. No condition: closed facts. Printed by a program of ours. -/
import Derived.Test.YtiemlgicaibccaaM1
set_option linter.all false
namespace Go.Proofs.Ytiemlgicaibccaa
open Go.Pv
namespace M
noncomputable section
def z0x_N1 : List NS := [.wk 0 (.list GI), .keep [0, 1, 5], .cmp]
def z0x_C1 : TC := (.seq (.seq (.r [.m 6 5, .m 7 0, .ln 8 7, .b 9 .lss 6 8, .m 10 9, .w 10 (.m 11 0), .w 10 (.m 12 5), .w 10 (.ia 13 1 11 12), .w 10 (.lf 14 1 13), .w 10 (.m 15 1), .w 10 (.b 16 .lss 14 15), .pf 17 10 16]) (.cond (.t 17) .skip (.exit 0))) (.block 1 (.r [.m 18 5, .bi 19 .add 18 1, .m 5 19])))
def z0x_C2 : TC := (.seq (.seq (.r [.m 20 5, .m 21 0, .ln 22 21, .b 23 .lss 20 22, .m 24 23, .w 24 (.m 25 0), .w 24 (.m 26 5), .w 24 (.ia 27 1 25 26), .w 24 (.lf 28 1 27), .w 24 (.m 29 1), .w 24 (.b 30 .eql 28 29), .pf 31 24 30]) (.cond (.t 31) (.seq (.r [.m 32 0, ⟨⟨some 33, (.app 1 8 (.c (.lst true [])) (.t 32)),
  none⟩, ⟨GI, none, []⟩⟩, .m 4 33]) (.pre [.frz 4] .ret)) .skip)) (.seq (.pre [.ghost GI] (.rg [.m 34 0, .m 35 5, .s 36 (.slc 1 (.t 34) none (some (.t 35))), ⟨⟨some 37, (.app 1 8 (.c (.lst true [])) (.t 36)), none⟩, ⟨.unit, some 0, []⟩⟩, .m 38 1, ⟨⟨some 39, (.bslice false 1 [(I 0)]
  1 [(0, (.t 38))]), none⟩, ⟨GI, none, []⟩⟩, .s 40 (.app 1 8 (.t 37) (.t 39)), .m 41 0, .m 42 5, .s 43 (.slc 1 (.t 41) (some (.t 42)) none), .s 44 (.app 1 8 (.t 40) (.t 43)), .m 4 44] (some [(3, 9), (6, 9)]))) (.pre [.frz 4] .ret)))
def z0x_E (N : Nat) : List (Nat × Ent) := []
def z0x_L1 (N : Nat) (n : Nat) (x1 : List Int) (x2 x3 : Int) : Option (List Int) := loopN (normI 0 z0x_N1) (run (z0x_E N) N 0 z0x_C1) n ⟨[(0, .lst false GI x1), (1, .int .i64 x2), (5, .int .i64 x3)], []⟩ (blkK 0 (seqK (run (z0x_E N) N 0 z0x_C2) (fin [(.t 4)] [(.list GI)])))
theorem z0x_L1_succ (N : Nat) (n1 : Nat) (x1 : List Int) (x2 x3 : Int) : z0x_L1 N (n1 + 1) x1 x2 x3 =
 bif (decide (x3 < (x1.length : Int))) then
  bif inB x3 x1.length then
  bif (decide ((x1.getD x3.toNat 0) < x2)) then
   z0x_L1 N n1 x1 x2 (W (x3 + 1))
  else
   bif (decide (x3 < (x1.length : Int))) then
    bif inB x3 x1.length then
    bif ((x1.getD x3.toNat 0) == x2) then
     bif fitsB x1.length 8 then
     some x1
     else none
    else
     bif slB 0 x3 x1.length then
     bif fitsB (x1.take x3.toNat).length 8 then
     bif fitsB ((x1.take x3.toNat).length + 1) 8 then
     bif slB x3 x1.length x1.length then
     bif fitsB (((x1.take x3.toNat) ++ [x2]).length + (x1.drop x3.toNat).length) 8 then
     some (((x1.take x3.toNat) ++ [x2]) ++ (x1.drop x3.toNat))
     else none
     else none
     else none
     else none
     else none
    else none
   else
    bif slB 0 x3 x1.length then
    bif fitsB (x1.take x3.toNat).length 8 then
    bif fitsB ((x1.take x3.toNat).length + 1) 8 then
    bif slB x3 x1.length x1.length then
    bif fitsB (((x1.take x3.toNat) ++ [x2]).length + (x1.drop x3.toNat).length) 8 then
    some (((x1.take x3.toNat) ++ [x2]) ++ (x1.drop x3.toNat))
    else none
    else none
    else none
    else none
    else none
  else none
 else
  bif (decide (x3 < (x1.length : Int))) then
   bif inB x3 x1.length then
   bif ((x1.getD x3.toNat 0) == x2) then
    bif fitsB x1.length 8 then
    some x1
    else none
   else
    bif slB 0 x3 x1.length then
    bif fitsB (x1.take x3.toNat).length 8 then
    bif fitsB ((x1.take x3.toNat).length + 1) 8 then
    bif slB x3 x1.length x1.length then
    bif fitsB (((x1.take x3.toNat) ++ [x2]).length + (x1.drop x3.toNat).length) 8 then
    some (((x1.take x3.toNat) ++ [x2]) ++ (x1.drop x3.toNat))
    else none
    else none
    else none
    else none
    else none
   else none
  else
   bif slB 0 x3 x1.length then
   bif fitsB (x1.take x3.toNat).length 8 then
   bif fitsB ((x1.take x3.toNat).length + 1) 8 then
   bif slB x3 x1.length x1.length then
   bif fitsB (((x1.take x3.toNat) ++ [x2]).length + (x1.drop x3.toNat).length) 8 then
   some (((x1.take x3.toNat) ++ [x2]) ++ (x1.drop x3.toNat))
   else none
   else none
   else none
   else none
   else none := by kernel_rfl
def z0x (N : Nat) (a0 : List Int) (a1 : Int) : Option (List Int) :=
 z0x_L1 N N a0 a1 0
def z0y_N1 : List NS := [.wk 3 (.list GI), .keep [3, 4, 5, 8, 9, 10], .cmp]
def z0y_C1 : TC := (.seq (.seq (.r [.m 14 10, .m 15 3, .ln 16 15, .b 17 .lss 14 16]) (.cond (.t 17) .skip (.exit 0))) (.seq (.block 1 (.seq (.rg [.lt 21 2 4, .m 22 3, .m 23 10, .ia 24 1 22 23, .lf 25 1 24, .m 26 9, .c3 27 55 21 25 26, .m 20 27, .ex 28 0 20, .ex 29 1 20, .m 11 28, .m 12 29] (some [])) (.rg [.fa 30 2
  5, .lf 31 1 30, .m 32 3, .m 33 10, .ia 34 1 32 33, .lf 35 1 34, .c2 36 53 31 35, .fa 37 1 5, .lf 38 1 37, .m 39 11, .c2 40 53 38 39, .m 41 11, .fa 42 2 5, .st 1 42 36, .fa 43 1 5, .st 1 43 40, .m 9 41] (some [(6, 7), (6, 8), (10, 12)])))) (.r [.m 18 10, .bi 19 .add 18 1, .m 10 19])))
def z0y_C2 : TC := (.seq (.r [.lt 44 4 5, .st 4 8 44]) (.pre [.frzb 8] .ret))
def z0y_E (N : Nat) : List (Nat × Ent) := [(55, pureE [G_Mine, GI, GI] [GI, GI] (fun x => z0w N x.1 x.2.1 x.2.2)), (53, pureE [(.list GI), GI] [(.list GI)] (fun x => z0x N x.1 x.2))]
def z0y_L1 (N : Nat) (n : Nat) (x1 : List Int) (x2 x3 : Int) (x4 : List T_Place) (x5 : List T_Road) (x6 x7 x8 : List Int) (x9 x10 : Int) : Option T_Escape := loopN (normI 0 z0y_N1) (run (z0y_E N) N 0 z0y_C1) n ⟨[(3, .lst false GI x1), (4, .ptr 0 0 0), (5, .ptr 1 0 0), (8, .ptr 2 0 0), (9, .int .i64 x2), (10, .int .i64 x3)], [some (.box 0 [.lst false G_Place x4, .lst false G_Road x5]), some (.box 0 [.lst false GI x6, .lst false GI x7, .lst false GI x8, .int .i64 x9]), some (.box 0 [.nil, .nil, .nil, .int .i64 x10])]⟩ (blkK 0 (seqK (run (z0y_E N) N 0 z0y_C2) (fin [(.cell 8 true 4)] [G_Escape])))
theorem z0y_L1_succ (N : Nat) (n1 : Nat) (x1 : List Int) (x2 x3 : Int) (x4 : List T_Place) (x5 : List T_Road) (x6 x7 x8 : List Int) (x9 x10 : Int) : z0y_L1 N (n1 + 1) x1 x2 x3 x4 x5 x6 x7 x8 x9 x10 =
 bif (decide (x3 < (x1.length : Int))) then
  bif inB x3 x1.length then
  Option.bind (z0w N (x4, x5) (x1.getD x3.toNat 0) x2) fun r11 =>
  bif inB x3 x1.length then
  Option.bind (z0x N x8 (x1.getD x3.toNat 0)) fun r12 =>
  Option.bind (z0x N x7 r11.1) fun r13 =>
  z0y_L1 N n1 x1 r11.1 (W (x3 + 1)) x4 x5 x6 r13 r12 x9 x10
  else none
  else none
 else
  some (x6, (x7, (x8, x9))) := by kernel_rfl
def z0y (N : Nat) (a0 : T_Mine) (a1 : T_Escape) (a2 : Int) (a3 : List Int) : Option T_Escape :=
 z0y_L1 N N a3 a2 0 a0.1 a0.2 a1.1 a1.2.1 a1.2.2.1 a1.2.2.2 0
def z0s (N : Nat) (a0 : T_Mine) (a1 : T_Escape) (a2 : Int) : Option ((List Int) × (List Int) × Bool) :=
 Option.bind (z0p N a0 a1 a2) fun r1 =>
 bif (!r1.2.2) then
  some ([], [], false)
 else
  bif ((r1.1.length : Int) == 0) then
   some ([], [], true)
  else
   Option.bind (z0y N a0 a1 a2 r1.1) fun r2 =>
   Option.bind (z0p N a0 r2 a2) fun r3 =>
   bif (!r3.2.2) then
    some ([], [], false)
   else
    some (r1.1, r3.1, true)
def z0q_N1 : List NS := [.keep [1, 2, 5, 6], .cmp]
def z0q_C1 : TC := (.seq (.seq (.r [.m 8 6, .fa 9 1 2, .lf 10 1 9, .ln 11 10, .b 12 .lss 8 11]) (.cond (.t 12) .skip (.exit 0))) (.seq (.block 1 (.seq (.r [.fa 15 1 2, .lf 16 1 15, .m 17 6, .ia 18 10 16 17, .lt 19 10 18, .s 7 (.alloc [(I 0), (I 0), (I 0), (I 0), (B false), (B false), (I 0), (I 0), (I 0), (I 0)]), .st
  10 7 19]) (.seq (.seq (.r [.fa 20 0 7, .lf 21 1 20, .m 22 1, .b 23 .eql 21 22, .m 24 23, .w 24 (.lt 25 2 2), .w 24 (.m 26 6), .w 24 (.s 27 (.call (.c (.fn 52 [])) [(.t 25), (.t 26), (.c (B false))])), .w 24 (.bi 28 .geq 27 0), .pf 29 24 28]) (.cond (.t 29) (.r [.m 30 5, .lt 31 2 2, .m 32 6, .s 33
  (.call (.c (.fn 52 [])) [(.t 31), (.t 32), (.c (B true))]), .s 34 (.mm true [(.t 30), (.t 33)]), .m 5 34]) .skip)) (.seq (.r [.fa 35 1 7, .lf 36 1 35, .m 37 1, .b 38 .eql 36 37, .m 39 38, .w 39 (.lt 40 2 2), .w 39 (.m 41 6), .w 39 (.s 42 (.call (.c (.fn 52 [])) [(.t 40), (.t 41), (.c (B true))])),
  .w 39 (.bi 43 .geq 42 0), .pf 44 39 43]) (.cond (.t 44) (.r [.m 45 5, .lt 46 2 2, .m 47 6, .s 48 (.call (.c (.fn 52 [])) [(.t 46), (.t 47), (.c (B false))]), .s 49 (.mm true [(.t 45), (.t 48)]), .m 5 49]) .skip))))) (.r [.m 13 6, .bi 14 .add 13 1, .m 6 14])))
def z0q_C2 : TC := (.seq (.r [.m 50 5, .m 4 50]) .ret)
def z0q_E (N : Nat) : List (Nat × Ent) := [(52, pureE [G_Mine, GI, .bool] [GI] (fun x => z0j N x.1 x.2.1 x.2.2))]
def z0q_L1 (N : Nat) (n : Nat) (x1 x2 x3 : Int) (x4 : List T_Place) (x5 : List T_Road) : Option Int := loopN (normI 0 z0q_N1) (run (z0q_E N) N 0 z0q_C1) n ⟨[(1, .int .i64 x1), (2, .ptr 0 0 0), (5, .int .i64 x2), (6, .int .i64 x3)], [some (.box 0 [.lst false G_Place x4, .lst false G_Road x5])]⟩ (blkK 0 (seqK (run (z0q_E N) N 0 z0q_C2) (fin [(.t 4)] [GI])))
theorem z0q_L1_succ (N : Nat) (n1 : Nat) (x1 x2 x3 : Int) (x4 : List T_Place) (x5 : List T_Road) : z0q_L1 N (n1 + 1) x1 x2 x3 x4 x5 =
 bif (decide (x3 < (x5.length : Int))) then
  bif inB x3 x5.length then
  bif ((x5.getD x3.toNat D_Road).1 == x1) then
   Option.bind (z0j N (x4, x5) x3 false) fun r7 =>
   bif (decide (r7 ≥ 0)) then
    Option.bind (z0j N (x4, x5) x3 true) fun r8 =>
    bif ((x5.getD x3.toNat D_Road).2.1 == x1) then
     Option.bind (z0j N (x4, x5) x3 true) fun r9 =>
     bif (decide (r9 ≥ 0)) then
      Option.bind (z0j N (x4, x5) x3 false) fun r10 =>
      z0q_L1 N n1 x1 (max (max x2 r8) r10) (W (x3 + 1)) x4 x5
     else
      z0q_L1 N n1 x1 (max x2 r8) (W (x3 + 1)) x4 x5
    else
     z0q_L1 N n1 x1 (max x2 r8) (W (x3 + 1)) x4 x5
   else
    bif ((x5.getD x3.toNat D_Road).2.1 == x1) then
     Option.bind (z0j N (x4, x5) x3 true) fun r26 =>
     bif (decide (r26 ≥ 0)) then
      Option.bind (z0j N (x4, x5) x3 false) fun r27 =>
      z0q_L1 N n1 x1 (max x2 r27) (W (x3 + 1)) x4 x5
     else
      z0q_L1 N n1 x1 x2 (W (x3 + 1)) x4 x5
    else
     z0q_L1 N n1 x1 x2 (W (x3 + 1)) x4 x5
  else
   bif ((x5.getD x3.toNat D_Road).2.1 == x1) then
    Option.bind (z0j N (x4, x5) x3 true) fun r43 =>
    bif (decide (r43 ≥ 0)) then
     Option.bind (z0j N (x4, x5) x3 false) fun r44 =>
     z0q_L1 N n1 x1 (max x2 r44) (W (x3 + 1)) x4 x5
    else
     z0q_L1 N n1 x1 x2 (W (x3 + 1)) x4 x5
   else
    z0q_L1 N n1 x1 x2 (W (x3 + 1)) x4 x5
  else none
 else
  some x2 := by kernel_rfl
def z0q (N : Nat) (a0 : T_Mine) (a1 : Int) : Option Int :=
 z0q_L1 N N a1 0 0 a0.1 a0.2
def z0o_N1 : List NS := [.keep [2, 3, 4, 10], .cmp]
def z0o_C1 : TC := (.seq (.seq (.r [.m 29 10, .fa 30 0 3, .lf 31 1 30, .ln 32 31, .b 33 .lss 29 32]) (.cond (.t 33) .skip (.exit 0))) (.seq (.block 1 (.seq (.r [.lt 36 4 4, .s 11 (.alloc [(.lst true []), (.lst true []), (.lst true []), (I 0)]), .st 4 11 36]) (.seq (.r [.fa 37 1 4, .lf 38 1 37, .m 39 10, .c2 40 53 38
  39, .fa 41 1 11, .st 1 41 40]) (.seq (.r [.lt 43 2 3, .lt 44 4 11, .m 45 2, .c3 46 32 43 44 45, .m 42 46, .ex 47 0 42, .ex 48 1 42, .ex 49 2 42, .m 12 47, .m 13 48, .m 14 49]) (.seq (.r [.m 50 10, .m 51 2, .b 52 .neq 50 51, .m 53 52, .w 53 (.m 54 14), .w 53 (.nt 55 54), .pf 56 53 55]) (.cond (.t
  56) (.seq (.r [.mi 6 1]) .ret) .skip)))))) (.r [.m 34 10, .bi 35 .add 34 1, .m 10 35])))
def z0o_C2 : TC := (.seq (.r [.mi 6 2]) .ret)
def z0o_E (N : Nat) : List (Nat × Ent) := [(32, pureE [G_Mine, G_Escape, GI] [(.list GI), GI, .bool] (fun x => z0p N x.1 x.2.1 x.2.2)), (51, pureE [G_Mine, G_Escape, GI] [.bool] (fun x => z0r N x.1 x.2.1 x.2.2)), (53, pureE [(.list GI), GI] [(.list GI)] (fun x => z0x N x.1 x.2))]
def z0o_L1 (N : Nat) (n : Nat) (x3 x4 : Int) (x5 : List T_Place) (x6 : List T_Road) (x7 x8 x9 : List Int) (x10 : Int) : Option Int := loopN (normI 0 z0o_N1) (run (z0o_E N) N 0 z0o_C1) n ⟨[(2, .int .i64 x3), (3, .ptr 0 0 0), (4, .ptr 1 0 0), (10, .int .i64 x4)], [some (.box 0 [.lst false G_Place x5, .lst false G_Road x6]), some (.box 0 [.lst false GI x7, .lst false GI x8, .lst false GI x9, .int .i64 x10])]⟩ (blkK 0 (seqK (run (z0o_E N) N 0 z0o_C2) (fin [(.t 6)] [GI])))
theorem z0o_L1_succ (N : Nat) (n1 : Nat) (x3 x4 : Int) (x5 : List T_Place) (x6 : List T_Road) (x7 x8 x9 : List Int) (x10 : Int) : z0o_L1 N (n1 + 1) x3 x4 x5 x6 x7 x8 x9 x10 =
 bif (decide (x4 < (x5.length : Int))) then
  Option.bind (z0x N x8 x4) fun r11 =>
  Option.bind (z0p N (x5, x6) (x7, (r11, (x9, x10))) x3) fun r12 =>
  bif (x4 != x3) then
   bif (!r12.2.2) then
    some 1
   else
    z0o_L1 N n1 x3 (W (x4 + 1)) x5 x6 x7 x8 x9 x10
  else
   z0o_L1 N n1 x3 (W (x4 + 1)) x5 x6 x7 x8 x9 x10
 else
  some 2 := by kernel_rfl
def z0o (N : Nat) (a0 : T_Mine) (a1 : T_Escape) (a2 : Int) : Option Int :=
 Option.bind (z0p N a0 a1 a2) fun r1 =>
 bif (!r1.2.2) then
  some 0
 else
  Option.bind (z0r N a0 a1 a2) fun r2 =>
  bif r2 then
   some 2
  else
   z0o_L1 N N a2 0 a0.1 a0.2 a1.1 a1.2.1 a1.2.2.1 a1.2.2.2
def z06_NE : List NS := [.frzb 4, .frzo 0, .keep [4], .out [0]]
def z06_C1 : TC := (.seq (.r [.bx 3 1, .s 4 (.alloc [(.lst true []), (.lst true []), (.lst true []), (I 0)])]) (.seq (.r [.m 6 0, ⟨⟨some 7, (.bslice false 1 [(I 0)] 5 [(0, (.c (I 600))), (1, (.c (I 100))), (2, (.c (I 60))), (3, (.c (I 1000))), (4, (.c (I 0)))]), none⟩, ⟨GI, none, []⟩⟩, .c2 8 30 6 7, .s 9
  (.build [(.lst true []), (.lst true []), (.lst true []), (I 0)] [(3, (1, (.t 8)))]), .s 5 (.alloc [(.lst true []), (.lst true []), (.lst true []), (I 0)]), .st 4 5 9]) (.seq (.seq (.r [.m 10 0, .s 11 (.call (.c (.fn 14 [])) [(.t 10), (.c (I 3))])]) (.cond (.t 11) (.r [.m 12 0, .fa 13 0 3, .lf 14 1
  13, .ln 15 14, .c2 16 13 12 15, ⟨⟨some 17, (.bslice false 1 [(I 0)] 1 [(0, (.t 16))]), none⟩, ⟨GI, none, []⟩⟩, .fa 18 0 5, .st 1 18 17]) .skip)) (.seq (.seq (.r [.m 19 0, .s 20 (.call (.c (.fn 14 [])) [(.t 19), (.c (I 4))])]) (.cond (.t 20) (.r [.m 21 0, .fa 22 0 3, .lf 23 1 22, .ln 24
  23, .c2 25 13 21 24, ⟨⟨some 26, (.bslice false 1 [(I 0)] 1 [(0, (.t 25))]), none⟩, ⟨GI, none, []⟩⟩, .fa 27 1 5, .st 1 27 26]) .skip)) (.seq (.seq (.r [.m 28 0, .s 29 (.call (.c (.fn 14 [])) [(.t 28), (.c (I 4))]), .m 30 29, .w 30 (.fa 31 1 3), .w 30 (.lf 32 1 31), .w 30 (.ln 33 32), .w 30
  (.bi 34 .gtr 33 0), .pf 35 30 34]) (.cond (.t 35) (.r [.m 36 0, .fa 37 1 3, .lf 38 1 37, .ln 39 38, .c2 40 13 36 39, ⟨⟨some 41, (.bslice false 1 [(I 0)] 1 [(0, (.t 40))]), none⟩, ⟨GI, none, []⟩⟩, .fa 42 2 5, .st 1 42 41]) .skip)) (.seq (.r [.lt 43 4 5, .st 4 4 43]) (.pre [.frzb 4, .frzo
  0, .keep [4], .out [0]] .ret)))))))
def z06_E (N : Nat) : List (Nat × Ent) := [(30, sfE [none, none] [.b (.v G_Dice), .v (.list GI)] [.v GI] (fun x => z09 N x.1 x.2)), (14, sfE [none, none] [.b (.v G_Dice), .v GI] [.v .bool] (fun x => z0a N x.1 x.2)), (13, sfE [none, none] [.b (.v G_Dice), .v GI] [.v GI] (fun x => z08 N x.1 x.2))]
def z06 (N : Nat) (a0 : T_Dice) (a1 : T_Mine) : Option (T_Escape × T_Dice) :=
 Option.bind (z09 N a0 [600, 100, 60, 1000, 0]) fun r1 =>
 Option.bind (z0a N r1.2 3) fun r2 =>
 bif r2.1 then
  Option.bind (z08 N r2.2 (a1.1.length : Int)) fun r3 =>
  Option.bind (z0a N r3.2 4) fun r4 =>
  bif r4.1 then
   Option.bind (z08 N r4.2 (a1.1.length : Int)) fun r5 =>
   Option.bind (z0a N r5.2 4) fun r6 =>
   bif r6.1 then
    bif (decide ((a1.2.length : Int) > 0)) then
     Option.bind (z08 N r6.2 (a1.2.length : Int)) fun r7 =>
     some (([r3.1], ([r5.1], ([r7.1], r1.1))), r7.2)
    else
     some (([r3.1], ([r5.1], ([], r1.1))), r6.2)
   else
    some (([r3.1], ([r5.1], ([], r1.1))), r6.2)
  else
   Option.bind (z0a N r4.2 4) fun r8 =>
   bif r8.1 then
    bif (decide ((a1.2.length : Int) > 0)) then
     Option.bind (z08 N r8.2 (a1.2.length : Int)) fun r9 =>
     some (([r3.1], ([], ([r9.1], r1.1))), r9.2)
    else
     some (([r3.1], ([], ([], r1.1))), r8.2)
   else
    some (([r3.1], ([], ([], r1.1))), r8.2)
 else
  Option.bind (z0a N r2.2 4) fun r10 =>
  bif r10.1 then
   Option.bind (z08 N r10.2 (a1.1.length : Int)) fun r11 =>
   Option.bind (z0a N r11.2 4) fun r12 =>
   bif r12.1 then
    bif (decide ((a1.2.length : Int) > 0)) then
     Option.bind (z08 N r12.2 (a1.2.length : Int)) fun r13 =>
     some (([], ([r11.1], ([r13.1], r1.1))), r13.2)
    else
     some (([], ([r11.1], ([], r1.1))), r12.2)
   else
    some (([], ([r11.1], ([], r1.1))), r12.2)
  else
   Option.bind (z0a N r10.2 4) fun r14 =>
   bif r14.1 then
    bif (decide ((a1.2.length : Int) > 0)) then
     Option.bind (z08 N r14.2 (a1.2.length : Int)) fun r15 =>
     some (([], ([], ([r15.1], r1.1))), r15.2)
    else
     some (([], ([], ([], r1.1))), r14.2)
   else
    some (([], ([], ([], r1.1))), r14.2)
theorem z06_fn : FnOK Try.prog 16 44 (fun _ : Nat => false) z06_C1.er [(.cell 4 true 4)] := fk Try.func16
theorem z06_envok (N : Nat) : EnvOK Try.prog (z06_E N) := .cons (sfE_ok (z09_sf N)) (.cons (sfE_ok (z0a_sf N)) (.cons (sfE_ok (z08_sf N)) (.nil)))
theorem z06_sf (N : Nat) : SFOK Try.prog 16 [none, none] [.b (.v G_Dice), .v G_Mine] [.v G_Escape] (fun x => z06 N x.1 x.2) := sfOK (N := N) (p := 1) (q := 1) (ns := z06_NE) mixed z06_fn (z06_envok N) (TC.noh_ok (by kernel_rfl)) rfl rfl rfl (fun x => by kernel_rfl)
def z02_N1 : List NS := [.own 7 GI, .wk 2 (.list GI), .keep [1, 2, 3, 7, 8], .cmp]
def z02_C1 : TC := (.seq (.seq (.r [.m 11 8, .m 12 2, .ln 13 12, .b 14 .lss 11 13]) (.cond (.t 14) .skip (.exit 0))) (.seq (.block 1 (.seq (.seq (.rg [.m 17 2, .m 18 8, .ia 19 1 17 18, .lf 20 1 19, .bi 21 .lss 20 0, .m 22 21, .v 22 (.m 23 2), .v 22 (.m 24 8), .v 22 (.ia 25 1 23 24), .v 22 (.lf 26 1 25), .v 22 (.fa 27
  1 3), .v 22 (.lf 28 1 27), .v 22 (.ln 29 28), .v 22 (.b 30 .geq 26 29), .pt 31 22 30] (some [])) (.cond (.t 31) (.seq (.r [.mn 6]) (.pre [.frz 6] .ret)) .skip)) (.seq (.seq (.rg [.fa 32 1 3, .lf 33 1 32, .m 34 2, .m 35 8, .ia 36 1 34 35, .lf 37 1 36, .ia 38 10 33 37, .fa 39 0 38, .lf 40 1 39, .m
  41 1, .b 42 .eql 40 41] (some [])) (.cond (.t 42) (.rg [.fa 43 1 3, .lf 44 1 43, .m 45 2, .m 46 8, .ia 47 1 45 46, .lf 48 1 47, .ia 49 10 44 48, .fa 50 1 49, .lf 51 1 50, .m 1 51] (some [])) (.rg [.fa 52 1 3, .lf 53 1 52, .m 54 2, .m 55 8, .ia 56 1 54 55, .lf 57 1 56, .ia 58 10 53 57, .fa 59 0 58,
  .lf 60 1 59, .m 1 60] (some [])))) (.r [.m 61 7, .m 62 1, ⟨⟨some 63, (.bslice false 1 [(I 0)] 1 [(0, (.t 62))]), none⟩, ⟨GI, none, []⟩⟩, .s 64 (.app 1 8 (.t 61) (.t 63)), .m 7 64])))) (.r [.m 15 8, .bi 16 .add 15 1, .m 8 16])))
def z02_C2 : TC := (.pre [.frz 7] (.seq (.r [.m 65 7, .m 6 65]) (.pre [.frz 6] .ret)))
def z02_C3 : TC := (.seq (.r [.bx 3 0, .mn 6]) (.seq (.r [.m 9 1, ⟨⟨some 10, (.bslice true 1 [(I 0)] 1 [(0, (.t 9))]), none⟩, ⟨GI, none, []⟩⟩, .m 7 10]) (.seq (.seq (.r [.mi 8 0]) (.block 0 (.loop z02_N1 z02_C1))) z02_C2)))
def z02_E (N : Nat) : List (Nat × Ent) := []
def z02_L1 (N : Nat) (n : Nat) (x1 : Int) (x2 : List Int) (x3 : Int) (x4 : List T_Place) (x5 : List T_Road) (x6 : List Int) : Option (List Int) := loopN (normI 0 z02_N1) (run (z02_E N) N 0 z02_C1) n ⟨[(1, .int .i64 x1), (2, .lst false GI x2), (3, .ptr 0 0 0), (7, .whole 1), (8, .int .i64 x3)], [some (.box 0 [.lst false G_Place x4, .lst false G_Road x5]), some (.arr GI x6)]⟩ (blkK 0 (seqK (run (z02_E N) N 0 z02_C2) (fin [(.t 6)] [(.list GI)])))
theorem z02_L1_succ (N : Nat) (n1 : Nat) (x1 : Int) (x2 : List Int) (x3 : Int) (x4 : List T_Place) (x5 : List T_Road) (x6 : List Int) : z02_L1 N (n1 + 1) x1 x2 x3 x4 x5 x6 =
 bif (decide (x3 < (x2.length : Int))) then
  bif inB x3 x2.length then
  bif (decide ((x2.getD x3.toNat 0) < 0)) then
   some []
  else
   bif inB x3 x2.length then
   bif (decide ((x2.getD x3.toNat 0) ≥ (x5.length : Int))) then
    some []
   else
    bif inB x3 x2.length then
    bif inB (x2.getD x3.toNat 0) x5.length then
    bif ((x5.getD (x2.getD x3.toNat 0).toNat D_Road).1 == x1) then
     bif inB x3 x2.length then
     bif inB (x2.getD x3.toNat 0) x5.length then
     let v8 := x5.getD (x2.getD x3.toNat 0).toNat D_Road
     bif fitsB (x6.length + 1) 8 then
     z02_L1 N n1 v8.2.1 x2 (W (x3 + 1)) x4 x5 (x6 ++ [v8.2.1])
     else none
     else none
     else none
    else
     bif inB x3 x2.length then
     bif inB (x2.getD x3.toNat 0) x5.length then
     let v16 := x5.getD (x2.getD x3.toNat 0).toNat D_Road
     bif fitsB (x6.length + 1) 8 then
     z02_L1 N n1 v16.1 x2 (W (x3 + 1)) x4 x5 (x6 ++ [v16.1])
     else none
     else none
     else none
    else none
    else none
   else none
  else none
 else
  some x6 := by kernel_rfl
def z02 (N : Nat) (a0 : T_Mine) (a1 : Int) (a2 : List Int) : Option (List Int) :=
 z02_L1 N N a1 a2 0 a0.1 a0.2 [a1]
theorem z02_fn : FnOK Try.prog 23 66 (fun t : Nat => Nat.beq t 10) z02_C3.er [(.t 6)] := fk Try.func23
theorem z02_envok (N : Nat) : EnvOK Try.prog (z02_E N) := .nil
theorem z02_pure (N : Nat) : PureOK Try.prog 23 [G_Mine, GI, (.list GI)] [(.list GI)] (fun x => z02 N x.1 x.2.1 x.2.2) := pu (N := N) z02_fn (z02_envok N)
def z00_N1 : List NS := [.keep [4, 5, 6], .cmp]
def z00_N2 : List NS := [.wk 7 (.list GI), .wk 8 (.list GI), .wk 14 (.list GI), .wk 15 (.list GI), .keep [4, 5, 6, 7, 8, 14, 15, 16], .cmp]
def z00_C1 : TC := (.seq (.seq (.r [.m 104 16, .m 105 14, .ln 106 105, .b 107 .lss 104 106]) (.cond (.t 107) .skip (.exit 2))) (.seq (.block 3 (.seq (.r [.m 110 15, .m 111 14, .m 112 16, .ia 113 1 111 112, .lf 114 1 113, .c2 115 24 110 114, .m 116 115, .v 116 (.m 117 8), .v 116 (.m 118 7), .v 116 (.m 119 16), .v 116
  (.bi 120 .sub 119 1), .v 116 (.ia 121 1 118 120), .v 116 (.lf 122 1 121), .v 116 (.c2 123 24 117 122), .pt 124 116 123]) (.cond (.t 124) (.seq (.r [.mf 2]) .ret) .skip))) (.r [.m 108 16, .bi 109 .add 108 1, .m 16 109])))
def z00_C2 : TC := (.r [.m 33 6, .bi 34 .add 33 1, .m 6 34])
def z00_C5 : TC := (.seq (.seq (.rg [.lt 83 2 4, .lt 84 4 5, .m 85 6, .c3 86 19 83 84 85, .m 87 12, .lt 88 2 4, .m 89 6, .c2 90 22 88 89, .b 91 .add 87 90, .fa 92 3 5, .lf 93 1 92, .b 94 .leq 91 93, .s 95 (.beq true (.t 86) (.t 94))] (some [(3, 5), (3, 9), (7, 9), (3, 10), (7, 10)])) (.cond (.t 95) (.seq (.r [.mf 2])
  .ret) .skip)) (.seq (.rg [.lt 96 2 4, .m 97 6, .m 98 7, .c3 99 23 96 97 98, .lt 100 2 4, .m 101 6, .m 102 8, .c3 103 23 100 101 102, .m 14 99, .m 15 103] (some [(3, 4)])) (.seq (.r [.mi 16 1]) (.block 2 (.loop z00_N2 z00_C1)))))
def z00_C3 : TC := (.seq (.seq (.r [.m 28 6, .fa 29 0 4, .lf 30 1 29, .ln 31 30, .b 32 .lss 28 31]) (.cond (.t 32) .skip (.exit 0))) (.seq (.block 1 (.seq (.r [.lt 36 2 4, .lt 37 4 5, .m 38 6, .c3 39 18 36 37 38, .m 35 39, .ex 40 0 35, .ex 41 1 35, .ex 42 2 35, .m 7 40, .m 8 41, .m 9 42]) (.seq (.seq (.r [.m 43 9,
  .nt 44 43]) (.cond (.t 44) (.seq (.seq (.r [.lt 45 2 4, .lt 46 4 5, .m 47 6, .c3 48 19 45 46 47]) (.cond (.t 48) (.seq (.r [.mf 2]) .ret) .skip)) (.exit 1)) .skip)) (.seq (.r [.lt 50 2 4, .lt 51 4 5, .m 52 6, .m 53 7, .c4 54 20 50 51 52 53, .m 49 54, .ex 55 0 49, .ex 56 1 49, .m 10 55, .m 11 56])
  (.seq (.r [.lt 58 2 4, .lt 59 4 5, .m 60 6, .m 61 8, .c4 62 20 58 59 60 61, .m 57 62, .ex 63 0 57, .ex 64 1 57, .m 12 63, .m 13 64]) (.seq (.seq (.r [.m 65 11, .bi 66 .neq 65 0, .m 67 66, .v 67 (.m 68 13), .v 67 (.bi 69 .neq 68 0), .pt 70 67 69, .m 71 70, .v 71 (.m 72 12), .v 71 (.m 73 10), .v 71
  (.b 74 .lss 72 73), .pt 75 71 74, .m 76 75, .v 76 (.lt 77 2 4), .v 76 (.lt 78 4 5), .v 76 (.m 79 6), .v 76 (.c3 80 21 77 78 79), .v 76 (.bi 81 .neq 80 2), .pt 82 76 81]) (.cond (.t 82) (.seq (.r [.mf 2]) .ret) .skip)) (.join [.wk 7 (.list GI), .wk 8 (.list GI), .keep [4, 5, 6, 7,
  8, 12], .cmp] z00_C5))))))) z00_C2))
def z00_C4 : TC := (.seq (.r [.s 125 (.call (.c (.fn 10 [])) []), .m 2 125]) .ret)
def z00_C6 : TC := (.seq (.r [.mf 2]) (.seq (.seq (.r [.m 17 0, .c1 18 9 17, .nt 19 18]) (.cond (.t 19) (.seq (.r [.s 20 (.call (.c (.fn 10 [])) []), .m 2 20]) .ret) .skip)) (.seq (.r [.m 21 0, .c1 22 11 21, .m 3 22]) (.seq (.r [.m 23 3, .c1 24 12 23, .s 4 (.alloc [(.lst true []), (.lst true [])]), .st 2 4 24]) (.seq
  (.r [.m 25 3, .lt 26 2 4, .c2 27 16 25 26, .s 5 (.alloc [(.lst true []), (.lst true []), (.lst true []), (I 0)]), .st 4 5 27]) (.seq (.seq (.r [.mi 6 0]) (.block 0 (.loop z00_N1 z00_C3))) z00_C4))))))
def z00_E (N : Nat) : List (Nat × Ent) := [(9, pureE [(.list GI)] [.bool] (fun x => z0b N x)), (10, pureE [] [.bool] (fun x => z01 N)), (11, sfE [none] [.v (.list GI)] [.n G_Dice] (fun x => z0d N x)), (12, sfE [none] [.b (.v G_Dice)] [.v G_Mine] (fun x => z07 N x)), (16, sfE [none, none] [.b (.v G_Dice), .v G_Mine] [.v G_Escape] (fun x => z06 N x.1 x.2)), (18, pureE [G_Mine, G_Escape, GI] [(.list GI), (.list GI), .bool] (fun x => z1e N x.1 x.2.1 x.2.2)), (19, pureE [G_Mine, G_Escape, GI] [.bool] (fun x => z1a N x.1 x.2.1 x.2.2)), (20, pureE [G_Mine, G_Escape, GI, (.list GI)] [GI, GI] (fun x => z1c N x.1 x.2.1 x.2.2.1 x.2.2.2)), (21, pureE [G_Mine, G_Escape, .int .i64] [.int .i64] (fun x => z18 N x.1 x.2.1 x.2.2)), (22, pureE [G_Mine, GI] [GI] (fun x => z1b N x.1 x.2)), (23, pureE [G_Mine, GI, (.list GI)] [(.list GI)] (fun x => z02 N x.1 x.2.1 x.2.2)), (24, pureE [(.list GI), GI] [.bool] (fun x => z0m N x.1 x.2))]
def z00_L2 (N : Nat) (n1 : Nat) (n : Nat) (x39 : Int) (x40 x41 x42 x43 : List Int) (x44 : Int) (x45 : List T_Place) (x46 : List T_Road) (x47 x48 x49 : List Int) (x50 : Int) : Option Bool := loopN (normI 0 z00_N2) (run (z00_E N) N 0 z00_C1) n ⟨[(4, .ptr 0 0 0), (5, .ptr 1 0 0), (6, .int .i64 x39), (7, .lst false GI x40), (8, .lst false GI x41), (14, .lst false GI x42), (15, .lst false GI x43), (16, .int .i64 x44)], [some (.box 0 [.lst false G_Place x45, .lst false G_Road x46]), some (.box 0 [.lst false GI x47, .lst false GI x48, .lst false GI x49, .int .i64 x50])]⟩ (blkK 2 (blkK 1 (seqK (run (z00_E N) N 0 z00_C2) (seqK (nextL (normI 0 z00_N1) (loopN (normI 0 z00_N1) (run (z00_E N) N 0 z00_C3) n1)) (blkK 0 (seqK (run (z00_E N) N 0 z00_C4) (fin [(.t 2)] [.bool])))))))
def z00_J1 (N : Nat) (JM n1 : Nat) (x25 : Int) (x26 x27 : List Int) (x28 : Int) (x29 : List T_Place) (x30 : List T_Road) (x31 x32 x33 : List Int) (x34 : Int) : Option Bool := joinN (run (z00_E N) N 0 z00_C5) JM ⟨[(4, .ptr 0 0 0), (5, .ptr 1 0 0), (6, .int .i64 x25), (7, .lst false GI x26), (8, .lst false GI x27), (12, .int .i64 x28)], [some (.box 0 [.lst false G_Place x29, .lst false G_Road x30]), some (.box 0 [.lst false GI x31, .lst false GI x32, .lst false GI x33, .int .i64 x34])]⟩ (blkK 1 (seqK (run (z00_E N) N 0 z00_C2) (seqK (nextL (normI 0 z00_N1) (loopN (normI 0 z00_N1) (run (z00_E N) N 0 z00_C3) n1)) (blkK 0 (seqK (run (z00_E N) N 0 z00_C4) (fin [(.t 2)] [.bool]))))))
def z00_L1 (N : Nat) (n : Nat) (x6 : Int) (x7 : List T_Place) (x8 : List T_Road) (x9 x10 x11 : List Int) (x12 : Int) : Option Bool := loopN (normI 0 z00_N1) (run (z00_E N) N 0 z00_C3) n ⟨[(4, .ptr 0 0 0), (5, .ptr 1 0 0), (6, .int .i64 x6)], [some (.box 0 [.lst false G_Place x7, .lst false G_Road x8]), some (.box 0 [.lst false GI x9, .lst false GI x10, .lst false GI x11, .int .i64 x12])]⟩ (blkK 0 (seqK (run (z00_E N) N 0 z00_C4) (fin [(.t 2)] [.bool])))
theorem z00_L2_succ (N : Nat) (n1 : Nat) (n2 : Nat) (x39 : Int) (x40 x41 x42 x43 : List Int) (x44 : Int) (x45 : List T_Place) (x46 : List T_Road) (x47 x48 x49 : List Int) (x50 : Int) : z00_L2 N n1 (n2 + 1) x39 x40 x41 x42 x43 x44 x45 x46 x47 x48 x49 x50 =
 bif (decide (x44 < (x42.length : Int))) then
  bif inB x44 x42.length then
  Option.bind (z0m N x43 (x42.getD x44.toNat 0)) fun r51 =>
  bif r51 then
   some false
  else
   bif inB (W (x44 - 1)) x40.length then
   Option.bind (z0m N x41 (x40.getD (W (x44 - 1)).toNat 0)) fun r53 =>
   bif r53 then
    some false
   else
    z00_L2 N n1 n2 x39 x40 x41 x42 x43 (W (x44 + 1)) x45 x46 x47 x48 x49 x50
   else none
  else none
 else
  z00_L1 N n1 (W (x39 + 1)) x45 x46 x47 x48 x49 x50 := by kernel_rfl
theorem z00_J1_eq (N : Nat) (JM n1 : Nat) (x25 : Int) (x26 x27 : List Int) (x28 : Int) (x29 : List T_Place) (x30 : List T_Road) (x31 x32 x33 : List Int) (x34 : Int) : z00_J1 N (JM + 1) n1 x25 x26 x27 x28 x29 x30 x31 x32 x33 x34 =
 Option.bind (z1a N (x29, x30) (x31, (x32, (x33, x34))) x25) fun r35 =>
 Option.bind (z1b N (x29, x30) x25) fun r36 =>
 bif (!(r35 == (decide ((W (x28 + r36)) ≤ x34)))) then
  some false
 else
  Option.bind (z02 N (x29, x30) x25 x26) fun r37 =>
  Option.bind (z02 N (x29, x30) x25 x27) fun r38 =>
  z00_L2 N n1 N x25 x26 x27 r37 r38 1 x29 x30 x31 x32 x33 x34 := by kernel_rfl
theorem z00_L1_succ (N : Nat) (n1 : Nat) (x6 : Int) (x7 : List T_Place) (x8 : List T_Road) (x9 x10 x11 : List Int) (x12 : Int) : z00_L1 N (n1 + 1) x6 x7 x8 x9 x10 x11 x12 =
 bif (decide (x6 < (x7.length : Int))) then
  Option.bind (z1e N (x7, x8) (x9, (x10, (x11, x12))) x6) fun r13 =>
  bif (!r13.2.2) then
   Option.bind (z1a N (x7, x8) (x9, (x10, (x11, x12))) x6) fun r14 =>
   bif r14 then
    some false
   else
    z00_L1 N n1 (W (x6 + 1)) x7 x8 x9 x10 x11 x12
  else
   Option.bind (z1c N (x7, x8) (x9, (x10, (x11, x12))) x6 r13.1) fun r22 =>
   Option.bind (z1c N (x7, x8) (x9, (x10, (x11, x12))) x6 r13.2.1) fun r23 =>
   bif (r22.2 != 0) then
    some false
   else
    bif (r23.2 != 0) then
     some false
    else
     bif (decide (r23.1 < r22.1)) then
      some false
     else
      Option.bind (z18 N (x7, x8) (x9, (x10, (x11, x12))) x6) fun r24 =>
      bif (r24 != 2) then
       some false
      else
       z00_J1 N N n1 x6 r13.1 r13.2.1 r23.1 x7 x8 x9 x10 x11 x12
 else
  Option.bind (z01 N) fun r95 =>
  some r95 := by kernel_rfl
def z00 (N : Nat) (a0 : List Int) : Option Bool :=
 Option.bind (z0b N a0) fun r1 =>
 bif (!r1) then
  Option.bind (z01 N) fun r2 =>
  some r2
 else
  Option.bind (z0d N a0) fun r3 =>
  Option.bind (z07 N r3.1) fun r4 =>
  Option.bind (z06 N r4.2 r4.1) fun r5 =>
  z00_L1 N N 0 r4.1.1 r4.1.2 r5.1.1 r5.1.2.1 r5.1.2.2.1 r5.1.2.2.2
theorem z00_fn : FnOK Try.prog 5 126 (fun _ : Nat => false) z00_C6.er [(.t 2)] := fk Try.func5
theorem z00_envok (N : Nat) : EnvOK Try.prog (z00_E N) := .cons (pureE_ok (z0b_pure N)) (.cons (pureE_ok (z01_pure N)) (.cons (sfE_ok (z0d_sf N)) (.cons (sfE_ok (z07_sf N)) (.cons (sfE_ok (z06_sf N)) (.cons (pureE_ok (z1e_pure N)) (.cons (pureE_ok (z1a_pure N)) (.cons (pureE_ok (z1c_pure N)) (.cons (pureE_ok (z18_pure N)) (.cons (pureE_ok (z1b_pure N)) (.cons (pureE_ok (z02_pure N)) (.cons (pureE_ok (z0m_pure N)) (.nil))))))))))))
theorem z00_pure (N : Nat) : PureOK Try.prog 5 [(.list GI)] [.bool] (fun x => z00 N x) := pu (N := N) z00_fn (z00_envok N)
end
end M
end Go.Proofs.Ytiemlgicaibccaa
