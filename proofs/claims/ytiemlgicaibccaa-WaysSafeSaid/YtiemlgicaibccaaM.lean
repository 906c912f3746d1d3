/- Plain models of functions of this seat, each checked against the loaded program and the walk by the kernel. No condition: closed facts. Printed by a program of ours. -/
import Derived.Test.YtiemlgicaibccaaM1
set_option linter.all false
namespace Go.Proofs.Ytiemlgicaibccaa
open Go.Pv
namespace M
noncomputable section
def z0v_N1 : List NS := [.wk 0 (.list GI), .keep [0, 1, 5], .cmp]
def z0v_C1 : TC := (.seq (.seq (.r [.m 6 5, .m 7 0, .ln 8 7, .b 9 .lss 6 8, .m 10 9, .w 10 (.m 11 0), .w 10 (.m 12 5), .w 10 (.ia 13 1 11 12), .w 10 (.lf 14 1 13), .w 10 (.m 15 1), .w 10 (.b 16 .lss 14 15), .pf 17 10 16]) (.cond (.t 17) .skip (.exit 0))) (.block 1 (.r [.m 18 5, .bi 19 .add 18 1, .m 5 19])))
def z0v_C2 : TC := (.seq (.seq (.r [.m 20 5, .m 21 0, .ln 22 21, .b 23 .lss 20 22, .m 24 23, .w 24 (.m 25 0), .w 24 (.m 26 5), .w 24 (.ia 27 1 25 26), .w 24 (.lf 28 1 27), .w 24 (.m 29 1), .w 24 (.b 30 .eql 28 29), .pf 31 24 30]) (.cond (.t 31) (.seq (.r [.m 32 0, ⟨⟨some 33, (.app 1 8 (.c (.lst true [])) (.t 32)),
  none⟩, ⟨GI, none, []⟩⟩, .m 4 33]) (.pre [.frz 4] .ret)) .skip)) (.seq (.pre [.ghost GI] (.rg [.m 34 0, .m 35 5, .s 36 (.slc 1 (.t 34) none (some (.t 35))), ⟨⟨some 37, (.app 1 8 (.c (.lst true [])) (.t 36)), none⟩, ⟨.unit, some 0, []⟩⟩, .m 38 1, ⟨⟨some 39, (.bslice false 1 [(I 0)]
  1 [(0, (.t 38))]), none⟩, ⟨GI, none, []⟩⟩, .s 40 (.app 1 8 (.t 37) (.t 39)), .m 41 0, .m 42 5, .s 43 (.slc 1 (.t 41) (some (.t 42)) none), .s 44 (.app 1 8 (.t 40) (.t 43)), .m 4 44] (some [(3, 9), (6, 9)]))) (.pre [.frz 4] .ret)))
def z0v_C3 : TC := (.seq (.r [.mn 4]) (.seq (.r [.mi 5 0]) (.seq (.block 0 (.loop z0v_N1 z0v_C1)) z0v_C2)))
def z0v_E (N : Nat) : List (Nat × Ent) := []
def z0v_L1 (N : Nat) (n : Nat) (x1 : List Int) (x2 x3 : Int) : Option (List Int) := loopN (normI 0 z0v_N1) (run (z0v_E N) N 0 z0v_C1) n ⟨[(0, .lst false GI x1), (1, .int .i64 x2), (5, .int .i64 x3)], []⟩ (blkK 0 (seqK (run (z0v_E N) N 0 z0v_C2) (fin [(.t 4)] [(.list GI)])))
theorem z0v_L1_succ (N : Nat) (n1 : Nat) (x1 : List Int) (x2 x3 : Int) : z0v_L1 N (n1 + 1) x1 x2 x3 =
 bif (decide (x3 < (x1.length : Int))) then
  bif inB x3 x1.length then
  bif (decide ((x1.getD x3.toNat 0) < x2)) then
   z0v_L1 N n1 x1 x2 (W (x3 + 1))
  else
   bif (decide (x3 < (x1.length : Int))) then
    bif inB x3 x1.length then
    bif ((x1.getD x3.toNat 0) == x2) then
     bif fitsB x1.length 8 then
     some x1
     else none
    else
     bif slB 0 x3 x1.length then
     bif fitsB (x1.take x3.toNat).length 8 then
     bif fitsB ((x1.take x3.toNat).length + 1) 8 then
     bif slB x3 x1.length x1.length then
     bif fitsB (((x1.take x3.toNat) ++ [x2]).length + (x1.drop x3.toNat).length) 8 then
     some (((x1.take x3.toNat) ++ [x2]) ++ (x1.drop x3.toNat))
     else none
     else none
     else none
     else none
     else none
    else none
   else
    bif slB 0 x3 x1.length then
    bif fitsB (x1.take x3.toNat).length 8 then
    bif fitsB ((x1.take x3.toNat).length + 1) 8 then
    bif slB x3 x1.length x1.length then
    bif fitsB (((x1.take x3.toNat) ++ [x2]).length + (x1.drop x3.toNat).length) 8 then
    some (((x1.take x3.toNat) ++ [x2]) ++ (x1.drop x3.toNat))
    else none
    else none
    else none
    else none
    else none
  else none
 else
  bif (decide (x3 < (x1.length : Int))) then
   bif inB x3 x1.length then
   bif ((x1.getD x3.toNat 0) == x2) then
    bif fitsB x1.length 8 then
    some x1
    else none
   else
    bif slB 0 x3 x1.length then
    bif fitsB (x1.take x3.toNat).length 8 then
    bif fitsB ((x1.take x3.toNat).length + 1) 8 then
    bif slB x3 x1.length x1.length then
    bif fitsB (((x1.take x3.toNat) ++ [x2]).length + (x1.drop x3.toNat).length) 8 then
    some (((x1.take x3.toNat) ++ [x2]) ++ (x1.drop x3.toNat))
    else none
    else none
    else none
    else none
    else none
   else none
  else
   bif slB 0 x3 x1.length then
   bif fitsB (x1.take x3.toNat).length 8 then
   bif fitsB ((x1.take x3.toNat).length + 1) 8 then
   bif slB x3 x1.length x1.length then
   bif fitsB (((x1.take x3.toNat) ++ [x2]).length + (x1.drop x3.toNat).length) 8 then
   some (((x1.take x3.toNat) ++ [x2]) ++ (x1.drop x3.toNat))
   else none
   else none
   else none
   else none
   else none := by kernel_rfl
def z0v (N : Nat) (a0 : List Int) (a1 : Int) : Option (List Int) :=
 z0v_L1 N N a0 a1 0
theorem z0v_fn : FnOK Try.prog 53 45 (fun _ : Nat => false) z0v_C3.er [(.t 4)] := fk Try.func53
theorem z0v_envok (N : Nat) : EnvOK Try.prog (z0v_E N) := .nil
theorem z0v_pure (N : Nat) : PureOK Try.prog 53 [(.list GI), GI] [(.list GI)] (fun x => z0v N x.1 x.2) := pu (N := N) z0v_fn (z0v_envok N)
def z0n_N1 : List NS := [.keep [2, 3, 4, 10], .cmp]
def z0n_C1 : TC := (.seq (.seq (.r [.m 29 10, .fa 30 0 3, .lf 31 1 30, .ln 32 31, .b 33 .lss 29 32]) (.cond (.t 33) .skip (.exit 0))) (.seq (.block 1 (.seq (.r [.lt 36 4 4, .s 11 (.alloc [(.lst true []), (.lst true []), (.lst true []), (I 0)]), .st 4 11 36]) (.seq (.r [.fa 37 1 4, .lf 38 1 37, .m 39 10, .c2 40 53 38
  39, .fa 41 1 11, .st 1 41 40]) (.seq (.r [.lt 43 2 3, .lt 44 4 11, .m 45 2, .c3 46 32 43 44 45, .m 42 46, .ex 47 0 42, .ex 48 1 42, .ex 49 2 42, .m 12 47, .m 13 48, .m 14 49]) (.seq (.r [.m 50 10, .m 51 2, .b 52 .neq 50 51, .m 53 52, .w 53 (.m 54 14), .w 53 (.nt 55 54), .pf 56 53 55]) (.cond (.t
  56) (.seq (.r [.mi 6 1]) .ret) .skip)))))) (.r [.m 34 10, .bi 35 .add 34 1, .m 10 35])))
def z0n_C2 : TC := (.seq (.r [.mi 6 2]) .ret)
def z0n_E (N : Nat) : List (Nat × Ent) := [(32, pureE [G_Mine, G_Escape, GI] [(.list GI), GI, .bool] (fun x => z0o N x.1 x.2.1 x.2.2)), (51, pureE [G_Mine, G_Escape, GI] [.bool] (fun x => z0q N x.1 x.2.1 x.2.2)), (53, pureE [(.list GI), GI] [(.list GI)] (fun x => z0v N x.1 x.2))]
def z0n_L1 (N : Nat) (n : Nat) (x3 x4 : Int) (x5 : List T_Place) (x6 : List T_Road) (x7 x8 x9 : List Int) (x10 : Int) : Option Int := loopN (normI 0 z0n_N1) (run (z0n_E N) N 0 z0n_C1) n ⟨[(2, .int .i64 x3), (3, .ptr 0 0 0), (4, .ptr 1 0 0), (10, .int .i64 x4)], [some (.box 0 [.lst false G_Place x5, .lst false G_Road x6]), some (.box 0 [.lst false GI x7, .lst false GI x8, .lst false GI x9, .int .i64 x10])]⟩ (blkK 0 (seqK (run (z0n_E N) N 0 z0n_C2) (fin [(.t 6)] [GI])))
theorem z0n_L1_succ (N : Nat) (n1 : Nat) (x3 x4 : Int) (x5 : List T_Place) (x6 : List T_Road) (x7 x8 x9 : List Int) (x10 : Int) : z0n_L1 N (n1 + 1) x3 x4 x5 x6 x7 x8 x9 x10 =
 bif (decide (x4 < (x5.length : Int))) then
  Option.bind (z0v N x8 x4) fun r11 =>
  Option.bind (z0o N (x5, x6) (x7, (r11, (x9, x10))) x3) fun r12 =>
  bif (x4 != x3) then
   bif (!r12.2.2) then
    some 1
   else
    z0n_L1 N n1 x3 (W (x4 + 1)) x5 x6 x7 x8 x9 x10
  else
   z0n_L1 N n1 x3 (W (x4 + 1)) x5 x6 x7 x8 x9 x10
 else
  some 2 := by kernel_rfl
def z0n (N : Nat) (a0 : T_Mine) (a1 : T_Escape) (a2 : Int) : Option Int :=
 Option.bind (z0o N a0 a1 a2) fun r1 =>
 bif (!r1.2.2) then
  some 0
 else
  Option.bind (z0q N a0 a1 a2) fun r2 =>
  bif r2 then
   some 2
  else
   z0n_L1 N N a2 0 a0.1 a0.2 a1.1 a1.2.1 a1.2.2.1 a1.2.2.2
def z05_NE : List NS := [.frzb 4, .frzo 0, .keep [4], .out [0]]
def z05_C1 : TC := (.seq (.r [.bx 3 1, .s 4 (.alloc [(.lst true []), (.lst true []), (.lst true []), (I 0)])]) (.seq (.r [.m 6 0, ⟨⟨some 7, (.bslice false 1 [(I 0)] 5 [(0, (.c (I 600))), (1, (.c (I 100))), (2, (.c (I 60))), (3, (.c (I 1000))), (4, (.c (I 0)))]), none⟩, ⟨GI, none, []⟩⟩, .c2 8 30 6 7, .s 9
  (.build [(.lst true []), (.lst true []), (.lst true []), (I 0)] [(3, (1, (.t 8)))]), .s 5 (.alloc [(.lst true []), (.lst true []), (.lst true []), (I 0)]), .st 4 5 9]) (.seq (.seq (.r [.m 10 0, .s 11 (.call (.c (.fn 14 [])) [(.t 10), (.c (I 3))])]) (.cond (.t 11) (.r [.m 12 0, .fa 13 0 3, .lf 14 1
  13, .ln 15 14, .c2 16 13 12 15, ⟨⟨some 17, (.bslice false 1 [(I 0)] 1 [(0, (.t 16))]), none⟩, ⟨GI, none, []⟩⟩, .fa 18 0 5, .st 1 18 17]) .skip)) (.seq (.seq (.r [.m 19 0, .s 20 (.call (.c (.fn 14 [])) [(.t 19), (.c (I 4))])]) (.cond (.t 20) (.r [.m 21 0, .fa 22 0 3, .lf 23 1 22, .ln 24
  23, .c2 25 13 21 24, ⟨⟨some 26, (.bslice false 1 [(I 0)] 1 [(0, (.t 25))]), none⟩, ⟨GI, none, []⟩⟩, .fa 27 1 5, .st 1 27 26]) .skip)) (.seq (.seq (.r [.m 28 0, .s 29 (.call (.c (.fn 14 [])) [(.t 28), (.c (I 4))]), .m 30 29, .w 30 (.fa 31 1 3), .w 30 (.lf 32 1 31), .w 30 (.ln 33 32), .w 30
  (.bi 34 .gtr 33 0), .pf 35 30 34]) (.cond (.t 35) (.r [.m 36 0, .fa 37 1 3, .lf 38 1 37, .ln 39 38, .c2 40 13 36 39, ⟨⟨some 41, (.bslice false 1 [(I 0)] 1 [(0, (.t 40))]), none⟩, ⟨GI, none, []⟩⟩, .fa 42 2 5, .st 1 42 41]) .skip)) (.seq (.r [.lt 43 4 5, .st 4 4 43]) (.pre [.frzb 4, .frzo
  0, .keep [4], .out [0]] .ret)))))))
def z05_E (N : Nat) : List (Nat × Ent) := [(30, sfE [none, none] [.b (.v G_Dice), .v (.list GI)] [.v GI] (fun x => z08 N x.1 x.2)), (14, sfE [none, none] [.b (.v G_Dice), .v GI] [.v .bool] (fun x => z09 N x.1 x.2)), (13, sfE [none, none] [.b (.v G_Dice), .v GI] [.v GI] (fun x => z07 N x.1 x.2))]
def z05 (N : Nat) (a0 : T_Dice) (a1 : T_Mine) : Option (T_Escape × T_Dice) :=
 Option.bind (z08 N a0 [600, 100, 60, 1000, 0]) fun r1 =>
 Option.bind (z09 N r1.2 3) fun r2 =>
 bif r2.1 then
  Option.bind (z07 N r2.2 (a1.1.length : Int)) fun r3 =>
  Option.bind (z09 N r3.2 4) fun r4 =>
  bif r4.1 then
   Option.bind (z07 N r4.2 (a1.1.length : Int)) fun r5 =>
   Option.bind (z09 N r5.2 4) fun r6 =>
   bif r6.1 then
    bif (decide ((a1.2.length : Int) > 0)) then
     Option.bind (z07 N r6.2 (a1.2.length : Int)) fun r7 =>
     some (([r3.1], ([r5.1], ([r7.1], r1.1))), r7.2)
    else
     some (([r3.1], ([r5.1], ([], r1.1))), r6.2)
   else
    some (([r3.1], ([r5.1], ([], r1.1))), r6.2)
  else
   Option.bind (z09 N r4.2 4) fun r8 =>
   bif r8.1 then
    bif (decide ((a1.2.length : Int) > 0)) then
     Option.bind (z07 N r8.2 (a1.2.length : Int)) fun r9 =>
     some (([r3.1], ([], ([r9.1], r1.1))), r9.2)
    else
     some (([r3.1], ([], ([], r1.1))), r8.2)
   else
    some (([r3.1], ([], ([], r1.1))), r8.2)
 else
  Option.bind (z09 N r2.2 4) fun r10 =>
  bif r10.1 then
   Option.bind (z07 N r10.2 (a1.1.length : Int)) fun r11 =>
   Option.bind (z09 N r11.2 4) fun r12 =>
   bif r12.1 then
    bif (decide ((a1.2.length : Int) > 0)) then
     Option.bind (z07 N r12.2 (a1.2.length : Int)) fun r13 =>
     some (([], ([r11.1], ([r13.1], r1.1))), r13.2)
    else
     some (([], ([r11.1], ([], r1.1))), r12.2)
   else
    some (([], ([r11.1], ([], r1.1))), r12.2)
  else
   Option.bind (z09 N r10.2 4) fun r14 =>
   bif r14.1 then
    bif (decide ((a1.2.length : Int) > 0)) then
     Option.bind (z07 N r14.2 (a1.2.length : Int)) fun r15 =>
     some (([], ([], ([r15.1], r1.1))), r15.2)
    else
     some (([], ([], ([], r1.1))), r14.2)
   else
    some (([], ([], ([], r1.1))), r14.2)
theorem z05_fn : FnOK Try.prog 16 44 (fun _ : Nat => false) z05_C1.er [(.cell 4 true 4)] := fk Try.func16
theorem z05_envok (N : Nat) : EnvOK Try.prog (z05_E N) := .cons (sfE_ok (z08_sf N)) (.cons (sfE_ok (z09_sf N)) (.cons (sfE_ok (z07_sf N)) (.nil)))
theorem z05_sf (N : Nat) : SFOK Try.prog 16 [none, none] [.b (.v G_Dice), .v G_Mine] [.v G_Escape] (fun x => z05 N x.1 x.2) := sfOK (N := N) (p := 1) (q := 1) (ns := z05_NE) mixed z05_fn (z05_envok N) (TC.noh_ok (by kernel_rfl)) rfl rfl rfl (fun x => by kernel_rfl)
def z0p_C1 : TC := (.seq (.r [.mn 4]) (.seq (.r [.m 5 0, .m 6 1, .c2 7 53 5 6, .m 4 7]) (.pre [.frz 4] .ret)))
def z0p_E (N : Nat) : List (Nat × Ent) := [(53, pureE [(.list GI), GI] [(.list GI)] (fun x => z0v N x.1 x.2))]
def z0p (N : Nat) (a0 : List Int) (a1 : Int) : Option (List Int) :=
 Option.bind (z0v N a0 a1) fun r1 =>
 some r1
theorem z0p_fn : FnOK Try.prog 27 8 (fun _ : Nat => false) z0p_C1.er [(.t 4)] := fk Try.func27
theorem z0p_envok (N : Nat) : EnvOK Try.prog (z0p_E N) := .cons (pureE_ok (z0v_pure N)) (.nil)
theorem z0p_pure (N : Nat) : PureOK Try.prog 27 [(.list GI), GI] [(.list GI)] (fun x => z0p N x.1 x.2) := pu (N := N) z0p_fn (z0p_envok N)
def z00_N1 : List NS := [.frzb 7, .keep [4, 5, 6, 7, 8], .cmp]
def z00_C1 : TC := (.seq (.seq (.r [.m 55 8, .fa 56 0 4, .lf 57 1 56, .ln 58 57, .b 59 .lss 55 58]) (.cond (.t 59) .skip (.exit 0))) (.seq (.block 1 (.seq (.r [.lt 63 2 4, .lt 64 4 5, .m 65 8, .c3 66 25 63 64 65, .m 62 66, .ex 67 0 62, .ex 68 1 62, .ex 69 2 62, .m 9 67, .m 10 68, .m 11 69]) (.seq (.r [.lt 71 2 4, .lt
  72 4 6, .m 73 8, .c3 74 25 71 72 73, .m 70 74, .ex 75 0 70, .ex 76 1 70, .ex 77 2 70, .m 12 75, .m 13 76, .m 14 77]) (.seq (.rgw [([.lt 79 2 7, .lt 80 4 5, .m 81 8], [.frz 79]), ([.c3 82 25 79 80 81, .m 78 82, .ex 83 0 78, .ex 84 1 78, .ex 85 2 78, .m 15 83, .m 16 84, .m 17 85], [])]) (.seq (.r
  [.m 86 11, .m 87 86, .w 87 (.m 88 14), .w 87 (.nt 89 88), .w 87 (.m 90 89), .v 90 (.m 91 13), .v 90 (.m 92 10), .v 90 (.b 93 .gtr 91 92), .w 87 (.pt 94 90 93), .w 87 (.m 95 94), .v 95 (.m 96 17), .v 95 (.nt 97 96), .w 87 (.pt 98 95 97), .w 87 (.m 99 98), .v 99 (.m 100 16), .v 99 (.m 101 10), .v 99
  (.b 102 .gtr 100 101), .w 87 (.pt 103 99 102), .pf 104 87 103]) (.cond (.t 104) (.seq (.r [.mf 2]) .ret) .skip)))))) (.r [.m 60 8, .bi 61 .add 60 1, .m 8 61])))
def z00_C2 : TC := (.seq (.r [.s 105 (.call (.c (.fn 10 [])) []), .m 2 105]) .ret)
def z00_C3 : TC := (.seq (.r [.mf 2]) (.seq (.seq (.r [.m 18 0, .c1 19 9 18, .nt 20 19]) (.cond (.t 20) (.seq (.r [.s 21 (.call (.c (.fn 10 [])) []), .m 2 21]) .ret) .skip)) (.seq (.r [.m 22 0, .c1 23 11 22, .m 3 23]) (.seq (.r [.m 24 3, .c1 25 12 24, .s 4 (.alloc [(.lst true []), (.lst true [])]), .st 2 4 25]) (.seq
  (.r [.m 26 3, .lt 27 2 4, .c2 28 16 26 27, .s 5 (.alloc [(.lst true []), (.lst true []), (.lst true []), (I 0)]), .st 4 5 28]) (.seq (.r [.lt 29 4 5, .s 6 (.alloc [(.lst true []), (.lst true []), (.lst true []), (I 0)]), .st 4 6 29]) (.seq (.rg [.fa 30 0 5, .lf 31 1 30, .m 32 3, .fa 33 0 4, .lf 34
  1 33, .ln 35 34, .c2 36 13 32 35, .c2 37 27 31 36, .fa 38 0 6, .st 1 38 37] (some [(0, 6), (1, 6)])) (.seq (.r [.lt 39 2 4, .s 7 (.alloc [(.lst true []), (.lst true [])]), .st 2 7 39]) (.seq (.pre [.ghost G_Road] (.rg [.fa 40 1 4, .lf 41 1 40, ⟨⟨some 42, (.app 10 72 (.c (.lst true [])) (.t 41)),
  none⟩, ⟨.unit, some 5, []⟩⟩, .fa 43 0 4, .lf 44 1 43, .ln 45 44, .bi 46 .sub 45 1, .m 47 3, .s 48 (.call (.c (.fn 13 [])) [(.t 47), (.c (I 100))]), .s 49 (.bin .add (.c (I 1)) (.t 48)), .s 50 (.build [(I 0), (I 0)] [(0, (1, (.c (I 1)))), (1, (1, (.c (I 1))))]), .s 51 (.build [(I 0), (I 0), (I 0),
  (I 0), (B false), (B false), (I 0), (I 0), (I 0), (I 0)] [(0, (1, (.c (I 0)))), (1, (1, (.t 46))), (2, (1, (.t 49))), (3, (1, (.c (I 1)))), (4, (1, (.c (B true)))), (6, (2, (.t 50)))]), ⟨⟨some 52, (.bslice false 10 [(I 0), (I 0), (I 0), (I 0), (B false), (B false), (I 0), (I 0), (I 0), (I 0)] 1
  [(0, (.t 51))]), none⟩, ⟨G_Road, none, []⟩⟩, .s 53 (.app 10 72 (.t 42) (.t 52)), .fa 54 1 7, .st 1 54 53] (some [(2, 3), (2, 4), (2, 5), (3, 8), (4, 8), (5, 8)]))) (.seq (.seq (.r [.mi 8 0]) (.block 0 (.loop z00_N1 z00_C1))) z00_C2))))))))))
def z00_E (N : Nat) : List (Nat × Ent) := [(9, pureE [(.list GI)] [.bool] (fun x => z0a N x)), (10, pureE [] [.bool] (fun x => z01 N)), (11, sfE [none] [.v (.list GI)] [.n G_Dice] (fun x => z0c N x)), (12, sfE [none] [.b (.v G_Dice)] [.v G_Mine] (fun x => z06 N x)), (16, sfE [none, none] [.b (.v G_Dice), .v G_Mine] [.v G_Escape] (fun x => z05 N x.1 x.2)), (13, sfE [none, none] [.b (.v G_Dice), .v GI] [.v GI] (fun x => z07 N x.1 x.2)), (27, pureE [(.list GI), GI] [(.list GI)] (fun x => z0p N x.1 x.2)), (25, pureE [G_Mine, G_Escape, GI] [(.list GI), GI, .bool] (fun x => z16 N x.1 x.2.1 x.2.2))]
def z00_L1 (N : Nat) (n : Nat) (x11 : Int) (x12 : List T_Place) (x13 : List T_Road) (x14 x15 x16 : List Int) (x17 : Int) (x18 x19 x20 : List Int) (x21 : Int) (x22 : List T_Place) (x23 : List T_Road) : Option Bool := loopN (normI 0 z00_N1) (run (z00_E N) N 0 z00_C1) n ⟨[(4, .ptr 0 0 0), (5, .ptr 1 0 0), (6, .ptr 2 0 0), (7, .ptr 3 0 0), (8, .int .i64 x11)], [some (.box 0 [.lst false G_Place x12, .lst false G_Road x13]), some (.box 0 [.lst false GI x14, .lst false GI x15, .lst false GI x16, .int .i64 x17]), some (.box 0 [.lst false GI x18, .lst false GI x19, .lst false GI x20, .int .i64 x21]), some (.box 0 [.lst false G_Place x22, .lst false G_Road x23])]⟩ (blkK 0 (seqK (run (z00_E N) N 0 z00_C2) (fin [(.t 2)] [.bool])))
theorem z00_L1_succ (N : Nat) (n1 : Nat) (x11 : Int) (x12 : List T_Place) (x13 : List T_Road) (x14 x15 x16 : List Int) (x17 : Int) (x18 x19 x20 : List Int) (x21 : Int) (x22 : List T_Place) (x23 : List T_Road) : z00_L1 N (n1 + 1) x11 x12 x13 x14 x15 x16 x17 x18 x19 x20 x21 x22 x23 =
 bif (decide (x11 < (x12.length : Int))) then
  Option.bind (z16 N (x12, x13) (x14, (x15, (x16, x17))) x11) fun r24 =>
  Option.bind (z16 N (x12, x13) (x18, (x19, (x20, x21))) x11) fun r25 =>
  Option.bind (z16 N (x22, x23) (x14, (x15, (x16, x17))) x11) fun r26 =>
  bif r24.2.2 then
   bif (!r25.2.2) then
    some false
   else
    bif (decide (r25.2.1 > r24.2.1)) then
     some false
    else
     bif (!r26.2.2) then
      some false
     else
      bif (decide (r26.2.1 > r24.2.1)) then
       some false
      else
       z00_L1 N n1 (W (x11 + 1)) x12 x13 x14 x15 x16 x17 x18 x19 x20 x21 x22 x23
  else
   z00_L1 N n1 (W (x11 + 1)) x12 x13 x14 x15 x16 x17 x18 x19 x20 x21 x22 x23
 else
  Option.bind (z01 N) fun r53 =>
  some r53 := by kernel_rfl
def z00 (N : Nat) (a0 : List Int) : Option Bool :=
 Option.bind (z0a N a0) fun r1 =>
 bif (!r1) then
  Option.bind (z01 N) fun r2 =>
  some r2
 else
  Option.bind (z0c N a0) fun r3 =>
  Option.bind (z06 N r3.1) fun r4 =>
  Option.bind (z05 N r4.2 r4.1) fun r5 =>
  Option.bind (z07 N r5.2 (r4.1.1.length : Int)) fun r6 =>
  Option.bind (z0p N r5.1.1 r6.1) fun r7 =>
  bif fitsB r4.1.2.length 72 then
  Option.bind (z07 N r6.2 100) fun r9 =>
  bif fitsB (r4.1.2.length + 1) 72 then
  z00_L1 N N 0 r4.1.1 r4.1.2 r5.1.1 r5.1.2.1 r5.1.2.2.1 r5.1.2.2.2 r7 r5.1.2.1 r5.1.2.2.1 r5.1.2.2.2 r4.1.1 (r4.1.2 ++ [(0, ((W ((r4.1.1.length : Int) - 1)), (W (1 + r9.1), (1, (true, (false, ((1, 1), (0, 0))))))))])
  else none
  else none
theorem z00_fn : FnOK Try.prog 8 106 (fun _ : Nat => false) z00_C3.er [(.t 2)] := fk Try.func8
theorem z00_envok (N : Nat) : EnvOK Try.prog (z00_E N) := .cons (pureE_ok (z0a_pure N)) (.cons (pureE_ok (z01_pure N)) (.cons (sfE_ok (z0c_sf N)) (.cons (sfE_ok (z06_sf N)) (.cons (sfE_ok (z05_sf N)) (.cons (sfE_ok (z07_sf N)) (.cons (pureE_ok (z0p_pure N)) (.cons (pureE_ok (z16_pure N)) (.nil))))))))
theorem z00_pure (N : Nat) : PureOK Try.prog 8 [(.list GI)] [.bool] (fun x => z00 N x) := pu (N := N) z00_fn (z00_envok N)
end
end M
end Go.Proofs.Ytiemlgicaibccaa
