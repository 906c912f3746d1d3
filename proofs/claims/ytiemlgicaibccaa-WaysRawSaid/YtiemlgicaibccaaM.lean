/- Plain models of functions of this seat, each checked against the loaded program and the walk by the kernel. No condition: closed facts. Printed by a program of ours. -/
import Derived.Test.YtiemlgicaibccaaM1
set_option linter.all false
namespace Go.Proofs.Ytiemlgicaibccaa
open Go.Pv
namespace M
noncomputable section
def z10_N1 : List NS := [.wk 0 (.list GI), .keep [0, 1, 5], .cmp]
def z10_C1 : TC := (.seq (.seq (.r [.m 6 5, .m 7 0, .ln 8 7, .b 9 .lss 6 8, .m 10 9, .w 10 (.m 11 0), .w 10 (.m 12 5), .w 10 (.ia 13 1 11 12), .w 10 (.lf 14 1 13), .w 10 (.m 15 1), .w 10 (.b 16 .lss 14 15), .pf 17 10 16]) (.cond (.t 17) .skip (.exit 0))) (.block 1 (.r [.m 18 5, .bi 19 .add 18 1, .m 5 19])))
def z10_C2 : TC := (.seq (.seq (.r [.m 20 5, .m 21 0, .ln 22 21, .b 23 .lss 20 22, .m 24 23, .w 24 (.m 25 0), .w 24 (.m 26 5), .w 24 (.ia 27 1 25 26), .w 24 (.lf 28 1 27), .w 24 (.m 29 1), .w 24 (.b 30 .eql 28 29), .pf 31 24 30]) (.cond (.t 31) (.seq (.r [.m 32 0, ⟨⟨some 33, (.app 1 8 (.c (.lst true [])) (.t 32)),
  none⟩, ⟨GI, none, []⟩⟩, .m 4 33]) (.pre [.frz 4] .ret)) .skip)) (.seq (.pre [.ghost GI] (.rg [.m 34 0, .m 35 5, .s 36 (.slc 1 (.t 34) none (some (.t 35))), ⟨⟨some 37, (.app 1 8 (.c (.lst true [])) (.t 36)), none⟩, ⟨.unit, some 0, []⟩⟩, .m 38 1, ⟨⟨some 39, (.bslice false 1 [(I 0)]
  1 [(0, (.t 38))]), none⟩, ⟨GI, none, []⟩⟩, .s 40 (.app 1 8 (.t 37) (.t 39)), .m 41 0, .m 42 5, .s 43 (.slc 1 (.t 41) (some (.t 42)) none), .s 44 (.app 1 8 (.t 40) (.t 43)), .m 4 44] (some [(3, 9), (6, 9)]))) (.pre [.frz 4] .ret)))
def z10_C3 : TC := (.seq (.r [.mn 4]) (.seq (.r [.mi 5 0]) (.seq (.block 0 (.loop z10_N1 z10_C1)) z10_C2)))
def z10_E (N : Nat) : List (Nat × Ent) := []
def z10_L1 (N : Nat) (n : Nat) (x1 : List Int) (x2 x3 : Int) : Option (List Int) := loopN (normI 0 z10_N1) (run (z10_E N) N 0 z10_C1) n ⟨[(0, .lst false GI x1), (1, .int .i64 x2), (5, .int .i64 x3)], []⟩ (blkK 0 (seqK (run (z10_E N) N 0 z10_C2) (fin [(.t 4)] [(.list GI)])))
theorem z10_L1_succ (N : Nat) (n1 : Nat) (x1 : List Int) (x2 x3 : Int) : z10_L1 N (n1 + 1) x1 x2 x3 =
 bif (decide (x3 < (x1.length : Int))) then
  bif inB x3 x1.length then
  bif (decide ((x1.getD x3.toNat 0) < x2)) then
   z10_L1 N n1 x1 x2 (W (x3 + 1))
  else
   bif (decide (x3 < (x1.length : Int))) then
    bif inB x3 x1.length then
    bif ((x1.getD x3.toNat 0) == x2) then
     bif fitsB x1.length 8 then
     some x1
     else none
    else
     bif slB 0 x3 x1.length then
     bif fitsB (x1.take x3.toNat).length 8 then
     bif fitsB ((x1.take x3.toNat).length + 1) 8 then
     bif slB x3 x1.length x1.length then
     bif fitsB (((x1.take x3.toNat) ++ [x2]).length + (x1.drop x3.toNat).length) 8 then
     some (((x1.take x3.toNat) ++ [x2]) ++ (x1.drop x3.toNat))
     else none
     else none
     else none
     else none
     else none
    else none
   else
    bif slB 0 x3 x1.length then
    bif fitsB (x1.take x3.toNat).length 8 then
    bif fitsB ((x1.take x3.toNat).length + 1) 8 then
    bif slB x3 x1.length x1.length then
    bif fitsB (((x1.take x3.toNat) ++ [x2]).length + (x1.drop x3.toNat).length) 8 then
    some (((x1.take x3.toNat) ++ [x2]) ++ (x1.drop x3.toNat))
    else none
    else none
    else none
    else none
    else none
  else none
 else
  bif (decide (x3 < (x1.length : Int))) then
   bif inB x3 x1.length then
   bif ((x1.getD x3.toNat 0) == x2) then
    bif fitsB x1.length 8 then
    some x1
    else none
   else
    bif slB 0 x3 x1.length then
    bif fitsB (x1.take x3.toNat).length 8 then
    bif fitsB ((x1.take x3.toNat).length + 1) 8 then
    bif slB x3 x1.length x1.length then
    bif fitsB (((x1.take x3.toNat) ++ [x2]).length + (x1.drop x3.toNat).length) 8 then
    some (((x1.take x3.toNat) ++ [x2]) ++ (x1.drop x3.toNat))
    else none
    else none
    else none
    else none
    else none
   else none
  else
   bif slB 0 x3 x1.length then
   bif fitsB (x1.take x3.toNat).length 8 then
   bif fitsB ((x1.take x3.toNat).length + 1) 8 then
   bif slB x3 x1.length x1.length then
   bif fitsB (((x1.take x3.toNat) ++ [x2]).length + (x1.drop x3.toNat).length) 8 then
   some (((x1.take x3.toNat) ++ [x2]) ++ (x1.drop x3.toNat))
   else none
   else none
   else none
   else none
   else none := by kernel_rfl
def z10 (N : Nat) (a0 : List Int) (a1 : Int) : Option (List Int) :=
 z10_L1 N N a0 a1 0
theorem z10_fn : FnOK Try.prog 53 45 (fun _ : Nat => false) z10_C3.er [(.t 4)] := fk Try.func53
theorem z10_envok (N : Nat) : EnvOK Try.prog (z10_E N) := .nil
theorem z10_pure (N : Nat) : PureOK Try.prog 53 [(.list GI), GI] [(.list GI)] (fun x => z10 N x.1 x.2) := pu (N := N) z10_fn (z10_envok N)
def z11_N1 : List NS := [.wk 3 (.list GI), .keep [3, 4, 5, 8, 9, 10], .cmp]
def z11_C1 : TC := (.seq (.seq (.r [.m 14 10, .m 15 3, .ln 16 15, .b 17 .lss 14 16]) (.cond (.t 17) .skip (.exit 0))) (.seq (.block 1 (.seq (.rg [.lt 21 2 4, .m 22 3, .m 23 10, .ia 24 1 22 23, .lf 25 1 24, .m 26 9, .c3 27 55 21 25 26, .m 20 27, .ex 28 0 20, .ex 29 1 20, .m 11 28, .m 12 29] (some [])) (.rg [.fa 30 2
  5, .lf 31 1 30, .m 32 3, .m 33 10, .ia 34 1 32 33, .lf 35 1 34, .c2 36 53 31 35, .fa 37 1 5, .lf 38 1 37, .m 39 11, .c2 40 53 38 39, .m 41 11, .fa 42 2 5, .st 1 42 36, .fa 43 1 5, .st 1 43 40, .m 9 41] (some [(6, 7), (6, 8), (10, 12)])))) (.r [.m 18 10, .bi 19 .add 18 1, .m 10 19])))
def z11_C2 : TC := (.seq (.r [.lt 44 4 5, .st 4 8 44]) (.pre [.frzb 8] .ret))
def z11_C3 : TC := (.seq (.r [.bx 4 0, .bx 5 1, .s 8 (.alloc [(.lst true []), (.lst true []), (.lst true []), (I 0)])]) (.seq (.r [.m 13 2, .m 9 13]) (.seq (.seq (.r [.mi 10 0]) (.block 0 (.loop z11_N1 z11_C1))) z11_C2)))
def z11_E (N : Nat) : List (Nat × Ent) := [(55, pureE [G_Mine, GI, GI] [GI, GI] (fun x => z0z N x.1 x.2.1 x.2.2)), (53, pureE [(.list GI), GI] [(.list GI)] (fun x => z10 N x.1 x.2))]
def z11_L1 (N : Nat) (n : Nat) (x1 : List Int) (x2 x3 : Int) (x4 : List T_Place) (x5 : List T_Road) (x6 x7 x8 : List Int) (x9 x10 : Int) : Option T_Escape := loopN (normI 0 z11_N1) (run (z11_E N) N 0 z11_C1) n ⟨[(3, .lst false GI x1), (4, .ptr 0 0 0), (5, .ptr 1 0 0), (8, .ptr 2 0 0), (9, .int .i64 x2), (10, .int .i64 x3)], [some (.box 0 [.lst false G_Place x4, .lst false G_Road x5]), some (.box 0 [.lst false GI x6, .lst false GI x7, .lst false GI x8, .int .i64 x9]), some (.box 0 [.nil, .nil, .nil, .int .i64 x10])]⟩ (blkK 0 (seqK (run (z11_E N) N 0 z11_C2) (fin [(.cell 8 true 4)] [G_Escape])))
theorem z11_L1_succ (N : Nat) (n1 : Nat) (x1 : List Int) (x2 x3 : Int) (x4 : List T_Place) (x5 : List T_Road) (x6 x7 x8 : List Int) (x9 x10 : Int) : z11_L1 N (n1 + 1) x1 x2 x3 x4 x5 x6 x7 x8 x9 x10 =
 bif (decide (x3 < (x1.length : Int))) then
  bif inB x3 x1.length then
  Option.bind (z0z N (x4, x5) (x1.getD x3.toNat 0) x2) fun r11 =>
  bif inB x3 x1.length then
  Option.bind (z10 N x8 (x1.getD x3.toNat 0)) fun r12 =>
  Option.bind (z10 N x7 r11.1) fun r13 =>
  z11_L1 N n1 x1 r11.1 (W (x3 + 1)) x4 x5 x6 r13 r12 x9 x10
  else none
  else none
 else
  some (x6, (x7, (x8, x9))) := by kernel_rfl
def z11 (N : Nat) (a0 : T_Mine) (a1 : T_Escape) (a2 : Int) (a3 : List Int) : Option T_Escape :=
 z11_L1 N N a3 a2 0 a0.1 a0.2 a1.1 a1.2.1 a1.2.2.1 a1.2.2.2 0
theorem z11_fn : FnOK Try.prog 39 45 (fun _ : Nat => false) z11_C3.er [(.cell 8 true 4)] := fk Try.func39
theorem z11_envok (N : Nat) : EnvOK Try.prog (z11_E N) := .cons (pureE_ok (z0z_pure N)) (.cons (pureE_ok (z10_pure N)) (.nil))
theorem z11_pure (N : Nat) : PureOK Try.prog 39 [G_Mine, G_Escape, GI, (.list GI)] [G_Escape] (fun x => z11 N x.1 x.2.1 x.2.2.1 x.2.2.2) := pu (N := N) z11_fn (z11_envok N)
def z0v_C1 : TC := (.seq (.r [.bx 3 0, .bx 4 1, .mn 6, .mn 7, .mf 8]) (.seq (.r [.lt 15 2 3, .lt 16 4 4, .m 17 2, .c3 18 32 15 16 17, .m 14 18, .ex 19 0 14, .ex 20 1 14, .ex 21 2 14, .m 9 19, .m 10 20, .m 11 21]) (.seq (.seq (.r [.m 22 11, .nt 23 22]) (.cond (.t 23) (.seq (.r [.mn 6, .mn 7, .mf 8]) (.pre [.frz 6,
  .frz 7] .ret)) .skip)) (.seq (.seq (.r [.m 24 9, .ln 25 24, .bi 26 .eql 25 0]) (.cond (.t 26) (.seq (.r [.mn 6, .mn 7, .mt 8]) (.pre [.frz 6, .frz 7] .ret)) .skip)) (.seq (.rg [.lt 28 2 3, .lt 29 2 3, .lt 30 4 4, .m 31 2, .m 32 9, .c4 33 39 29 30 31 32, .m 34 2, .c3 35 32 28 33 34, .m 27 35, .ex
  36 0 27, .ex 37 1 27, .ex 38 2 27, .m 12 36, .m 13 37, .m 11 38] (some [(0, 5)])) (.seq (.seq (.r [.m 39 11, .nt 40 39]) (.cond (.t 40) (.seq (.r [.mn 6, .mn 7, .mf 8]) (.pre [.frz 6, .frz 7] .ret)) .skip)) (.seq (.r [.m 41 9, .m 42 12, .m 6 41, .m 7 42, .mt 8]) (.pre [.frz 6, .frz 7] .ret))))))))
def z0v_E (N : Nat) : List (Nat × Ent) := [(32, pureE [G_Mine, G_Escape, GI] [(.list GI), GI, .bool] (fun x => z0q N x.1 x.2.1 x.2.2)), (39, pureE [G_Mine, G_Escape, GI, (.list GI)] [G_Escape] (fun x => z11 N x.1 x.2.1 x.2.2.1 x.2.2.2))]
def z0v (N : Nat) (a0 : T_Mine) (a1 : T_Escape) (a2 : Int) : Option ((List Int) × (List Int) × Bool) :=
 Option.bind (z0q N a0 a1 a2) fun r1 =>
 bif (!r1.2.2) then
  some ([], [], false)
 else
  bif ((r1.1.length : Int) == 0) then
   some ([], [], true)
  else
   Option.bind (z11 N a0 a1 a2 r1.1) fun r2 =>
   Option.bind (z0q N a0 r2 a2) fun r3 =>
   bif (!r3.2.2) then
    some ([], [], false)
   else
    some (r1.1, r3.1, true)
theorem z0v_fn : FnOK Try.prog 17 43 (fun _ : Nat => false) z0v_C1.er [(.t 6), (.t 7), (.t 8)] := fk Try.func17
theorem z0v_envok (N : Nat) : EnvOK Try.prog (z0v_E N) := .cons (pureE_ok (z0q_pure N)) (.cons (pureE_ok (z11_pure N)) (.nil))
theorem z0v_pure (N : Nat) : PureOK Try.prog 17 [G_Mine, G_Escape, GI] [(.list GI), (.list GI), .bool] (fun x => z0v N x.1 x.2.1 x.2.2) := pu (N := N) z0v_fn (z0v_envok N)
def z0n_N1 : List NS := [.wk 0 (.list GI), .wk 1 (.list GI), .keep [0, 1, 5], .cmp]
def z0n_C1 : TC := (.seq (.seq (.r [.m 11 5, .m 12 0, .ln 13 12, .b 14 .lss 11 13]) (.cond (.t 14) .skip (.exit 0))) (.seq (.block 1 (.seq (.rg [.m 17 0, .m 18 5, .ia 19 1 17 18, .lf 20 1 19, .m 21 1, .m 22 5, .ia 23 1 21 22, .lf 24 1 23, .b 25 .neq 20 24] (some [])) (.cond (.t 25) (.seq (.r [.mf 4]) .ret) .skip)))
  (.r [.m 15 5, .bi 16 .add 15 1, .m 5 16])))
def z0n_C2 : TC := (.seq (.r [.mt 4]) .ret)
def z0n_C3 : TC := (.seq (.r [.mf 4]) (.seq (.seq (.r [.m 6 0, .ln 7 6, .m 8 1, .ln 9 8, .b 10 .neq 7 9]) (.cond (.t 10) (.seq (.r [.mf 4]) .ret) .skip)) (.seq (.seq (.r [.mi 5 0]) (.block 0 (.loop z0n_N1 z0n_C1))) z0n_C2)))
def z0n_E (N : Nat) : List (Nat × Ent) := []
def z0n_L1 (N : Nat) (n : Nat) (x1 x2 : List Int) (x3 : Int) : Option Bool := loopN (normI 0 z0n_N1) (run (z0n_E N) N 0 z0n_C1) n ⟨[(0, .lst false GI x1), (1, .lst false GI x2), (5, .int .i64 x3)], []⟩ (blkK 0 (seqK (run (z0n_E N) N 0 z0n_C2) (fin [(.t 4)] [.bool])))
theorem z0n_L1_succ (N : Nat) (n1 : Nat) (x1 x2 : List Int) (x3 : Int) : z0n_L1 N (n1 + 1) x1 x2 x3 =
 bif (decide (x3 < (x1.length : Int))) then
  bif inB x3 x1.length then
  bif inB x3 x2.length then
  bif ((x1.getD x3.toNat 0) != (x2.getD x3.toNat 0)) then
   some false
  else
   z0n_L1 N n1 x1 x2 (W (x3 + 1))
  else none
  else none
 else
  some true := by kernel_rfl
def z0n (N : Nat) (a0 : List Int) (a1 : List Int) : Option Bool :=
 bif ((a0.length : Int) != (a1.length : Int)) then
  some false
 else
  z0n_L1 N N a0 a1 0
theorem z0n_fn : FnOK Try.prog 28 26 (fun _ : Nat => false) z0n_C3.er [(.t 4)] := fk Try.func28
theorem z0n_envok (N : Nat) : EnvOK Try.prog (z0n_E N) := .nil
theorem z0n_pure (N : Nat) : PureOK Try.prog 28 [(.list GI), (.list GI)] [.bool] (fun x => z0n N x.1 x.2) := pu (N := N) z0n_fn (z0n_envok N)
def z0u_N1 : List NS := [.own 12 GI, .wk 3 (.list GI), .keep [3, 4, 5, 10, 11, 12, 13], .cmp]
def z0u_C1 : TC := (.seq (.rg [.lt 69 2 4, .m 70 3, .m 71 13, .ia 72 1 70 71, .lf 73 1 72, .m 74 10, .c3 75 55 69 73 74, .m 68 75, .ex 76 0 68, .ex 77 1 68, .m 14 76, .m 15 77] (some [])) (.seq (.seq (.r [.m 78 15, .bi 79 .lss 78 0, .m 80 79, .v 80 (.m 81 12), .v 80 (.m 82 14), .v 80 (.c2 83 24 81 82), .pt 84 80 83,
  .m 85 84, .v 85 (.fa 86 1 5), .v 85 (.lf 87 1 86), .v 85 (.m 88 14), .v 85 (.c2 89 24 87 88), .pt 90 85 89]) (.cond (.t 90) (.seq (.r [.mi 8 0, .mi 9 45]) .ret) .skip)) (.r [.m 91 14, .m 92 11, .m 93 15, .b 94 .add 92 93, .m 95 12, .m 96 14, ⟨⟨some 97, (.bslice false 1 [(I 0)] 1 [(0, (.t 96))]),
  none⟩, ⟨GI, none, []⟩⟩, .s 98 (.app 1 8 (.t 95) (.t 97)), .m 10 91, .m 11 94, .m 12 98])))
def z0u_C2 : TC := (.r [.m 36 13, .bi 37 .add 36 1, .m 13 37])
def z0u_C3 : TC := (.seq (.seq (.r [.m 32 13, .m 33 3, .ln 34 33, .b 35 .lss 32 34]) (.cond (.t 35) .skip (.exit 0))) (.seq (.block 1 (.seq (.seq (.rg [.m 38 3, .m 39 13, .ia 40 1 38 39, .lf 41 1 40, .bi 42 .lss 41 0, .m 43 42, .v 43 (.m 44 3), .v 43 (.m 45 13), .v 43 (.ia 46 1 44 45), .v 43 (.lf 47 1 46), .v 43 (.fa
  48 1 4), .v 43 (.lf 49 1 48), .v 43 (.ln 50 49), .v 43 (.b 51 .geq 47 50), .pt 52 43 51, .m 53 52, .v 53 (.fa 54 2 5), .v 53 (.lf 55 1 54), .v 53 (.m 56 3), .v 53 (.m 57 13), .v 53 (.ia 58 1 56 57), .v 53 (.lf 59 1 58), .v 53 (.c2 60 24 55 59), .pt 61 53 60, .m 62 61, .v 62 (.lt 63 2 4), .v 62
  (.lt 64 4 5), .v 62 (.m 65 10), .v 62 (.c3 66 51 63 64 65), .pt 67 62 66] (some [])) (.cond (.t 67) (.seq (.r [.mi 8 0, .mi 9 45]) .ret) .skip)) (.join [.wk 3 (.list GI), .wk 12 (.list GI), .keep [3, 4, 5, 10, 11, 12, 13], .cmp] z0u_C1))) z0u_C2))
def z0u_C4 : TC := (.seq (.seq (.r [.lt 99 2 4, .lt 100 4 5, .m 101 10, .c3 102 51 99 100 101, .nt 103 102]) (.cond (.t 103) (.seq (.r [.mi 8 0, .mi 9 45]) .ret) .skip)) (.seq (.r [.m 104 11, .m 8 104, .mi 9 0]) .ret))
def z0u_C5 : TC := (.seq (.r [.m 29 2, .m 10 29, .mi 11 0]) (.seq (.r [.m 30 10, ⟨⟨some 31, (.bslice true 1 [(I 0)] 1 [(0, (.t 30))]), none⟩, ⟨GI, none, []⟩⟩, .m 12 31]) (.seq (.seq (.r [.mi 13 0]) (.block 0 (.loop z0u_N1 z0u_C3))) z0u_C4)))
def z0u_C6 : TC := (.seq (.r [.bx 4 0, .bx 5 1, .mi 8 0, .mi 9 0]) (.seq (.seq (.r [.lt 16 2 4, .lt 17 4 5, .c2 18 35 16 17, .nt 19 18]) (.cond (.t 19) (.seq (.r [.mi 8 0, .mi 9 6]) .ret) .skip)) (.seq (.seq (.r [.m 20 2, .bi 21 .lss 20 0, .m 22 21, .v 22 (.m 23 2), .v 22 (.fa 24 0 4), .v 22 (.lf 25 1 24), .v 22 (.ln
  26 25), .v 22 (.b 27 .geq 23 26), .pt 28 22 27]) (.cond (.t 28) (.seq (.r [.mi 8 0, .mi 9 3]) .ret) .skip)) (.join [.wk 3 (.list GI), .keep [2, 3, 4, 5], .cmp] z0u_C5))))
def z0u_E (N : Nat) : List (Nat × Ent) := [(35, pureE [G_Mine, G_Escape] [.bool] (fun x => z0w N x.1 x.2)), (24, pureE [(.list GI), GI] [.bool] (fun x => z0m N x.1 x.2)), (51, pureE [G_Mine, G_Escape, GI] [.bool] (fun x => z0t N x.1 x.2.1 x.2.2)), (55, pureE [G_Mine, GI, GI] [GI, GI] (fun x => z0z N x.1 x.2.1 x.2.2))]
def z0u_J2 (N : Nat) (JM n1 : Nat) (x23 : List Int) (x24 x25 x26 : Int) (x27 : List T_Place) (x28 : List T_Road) (x29 x30 x31 : List Int) (x32 : Int) (x33 : List Int) : Option (Int × Int) := joinN (run (z0u_E N) N 0 z0u_C1) JM ⟨[(3, .lst false GI x23), (4, .ptr 0 0 0), (5, .ptr 1 0 0), (10, .int .i64 x24), (11, .int .i64 x25), (12, .whole 2), (13, .int .i64 x26)], [some (.box 0 [.lst false G_Place x27, .lst false G_Road x28]), some (.box 0 [.lst false GI x29, .lst false GI x30, .lst false GI x31, .int .i64 x32]), some (.arr GI x33)]⟩ (blkK 1 (seqK (run (z0u_E N) N 0 z0u_C2) (seqK (nextL (normI 0 z0u_N1) (loopN (normI 0 z0u_N1) (run (z0u_E N) N 0 z0u_C3) n1)) (blkK 0 (seqK (run (z0u_E N) N 0 z0u_C4) (fin [(.t 8), (.t 9)] [GI, GI]))))))
def z0u_L1 (N : Nat) (n : Nat) (x10 : List Int) (x11 x12 x13 : Int) (x14 : List T_Place) (x15 : List T_Road) (x16 x17 x18 : List Int) (x19 : Int) (x20 : List Int) : Option (Int × Int) := loopN (normI 0 z0u_N1) (run (z0u_E N) N 0 z0u_C3) n ⟨[(3, .lst false GI x10), (4, .ptr 0 0 0), (5, .ptr 1 0 0), (10, .int .i64 x11), (11, .int .i64 x12), (12, .whole 2), (13, .int .i64 x13)], [some (.box 0 [.lst false G_Place x14, .lst false G_Road x15]), some (.box 0 [.lst false GI x16, .lst false GI x17, .lst false GI x18, .int .i64 x19]), some (.arr GI x20)]⟩ (blkK 0 (seqK (run (z0u_E N) N 0 z0u_C4) (fin [(.t 8), (.t 9)] [GI, GI])))
def z0u_J1 (N : Nat) (JM : Nat) (x2 : Int) (x3 : List Int) (x4 : List T_Place) (x5 : List T_Road) (x6 x7 x8 : List Int) (x9 : Int) : Option (Int × Int) := joinN (run (z0u_E N) N 0 z0u_C5) JM ⟨[(2, .int .i64 x2), (3, .lst false GI x3), (4, .ptr 0 0 0), (5, .ptr 1 0 0)], [some (.box 0 [.lst false G_Place x4, .lst false G_Road x5]), some (.box 0 [.lst false GI x6, .lst false GI x7, .lst false GI x8, .int .i64 x9])]⟩ (fin [(.t 8), (.t 9)] [GI, GI])
theorem z0u_J2_eq (N : Nat) (JM n1 : Nat) (x23 : List Int) (x24 x25 x26 : Int) (x27 : List T_Place) (x28 : List T_Road) (x29 x30 x31 : List Int) (x32 : Int) (x33 : List Int) : z0u_J2 N (JM + 1) n1 x23 x24 x25 x26 x27 x28 x29 x30 x31 x32 x33 =
 bif inB x26 x23.length then
 Option.bind (z0z N (x27, x28) (x23.getD x26.toNat 0) x24) fun r34 =>
 bif (decide (r34.2 < 0)) then
  some (0, 45)
 else
  Option.bind (z0m N x33 r34.1) fun r35 =>
  bif r35 then
   some (0, 45)
  else
   Option.bind (z0m N x30 r34.1) fun r36 =>
   bif r36 then
    some (0, 45)
   else
    bif fitsB (x33.length + 1) 8 then
    z0u_L1 N n1 x23 r34.1 (W (x25 + r34.2)) (W (x26 + 1)) x27 x28 x29 x30 x31 x32 (x33 ++ [r34.1])
    else none
 else none := by kernel_rfl
theorem z0u_L1_succ (N : Nat) (n1 : Nat) (x10 : List Int) (x11 x12 x13 : Int) (x14 : List T_Place) (x15 : List T_Road) (x16 x17 x18 : List Int) (x19 : Int) (x20 : List Int) : z0u_L1 N (n1 + 1) x10 x11 x12 x13 x14 x15 x16 x17 x18 x19 x20 =
 bif (decide (x13 < (x10.length : Int))) then
  bif inB x13 x10.length then
  bif (decide ((x10.getD x13.toNat 0) < 0)) then
   some (0, 45)
  else
   bif inB x13 x10.length then
   bif (decide ((x10.getD x13.toNat 0) ≥ (x15.length : Int))) then
    some (0, 45)
   else
    bif inB x13 x10.length then
    Option.bind (z0m N x18 (x10.getD x13.toNat 0)) fun r21 =>
    bif r21 then
     some (0, 45)
    else
     Option.bind (z0t N (x14, x15) (x16, (x17, (x18, x19))) x11) fun r22 =>
     bif r22 then
      some (0, 45)
     else
      z0u_J2 N N n1 x10 x11 x12 x13 x14 x15 x16 x17 x18 x19 x20
    else none
   else none
  else none
 else
  Option.bind (z0t N (x14, x15) (x16, (x17, (x18, x19))) x11) fun r60 =>
  bif (!r60) then
   some (0, 45)
  else
   some (x12, 0) := by kernel_rfl
theorem z0u_J1_eq (N : Nat) (JM : Nat) (x2 : Int) (x3 : List Int) (x4 : List T_Place) (x5 : List T_Road) (x6 x7 x8 : List Int) (x9 : Int) : z0u_J1 N (JM + 1) x2 x3 x4 x5 x6 x7 x8 x9 =
 z0u_L1 N N x3 x2 0 0 x4 x5 x6 x7 x8 x9 [x2] := by kernel_rfl
def z0u (N : Nat) (a0 : T_Mine) (a1 : T_Escape) (a2 : Int) (a3 : List Int) : Option (Int × Int) :=
 Option.bind (z0w N a0 a1) fun r1 =>
 bif (!r1) then
  some (0, 6)
 else
  bif (decide (a2 < 0)) then
   some (0, 3)
  else
   bif (decide (a2 ≥ (a0.1.length : Int))) then
    some (0, 3)
   else
    z0u_J1 N N a2 a3 a0.1 a0.2 a1.1 a1.2.1 a1.2.2.1 a1.2.2.2
theorem z0u_fn : FnOK Try.prog 33 105 (fun t : Nat => Nat.beq t 31) z0u_C6.er [(.t 8), (.t 9)] := fk Try.func33
theorem z0u_envok (N : Nat) : EnvOK Try.prog (z0u_E N) := .cons (pureE_ok (z0w_pure N)) (.cons (pureE_ok (z0m_pure N)) (.cons (pureE_ok (z0t_pure N)) (.cons (pureE_ok (z0z_pure N)) (.nil))))
theorem z0u_pure (N : Nat) : PureOK Try.prog 33 [G_Mine, G_Escape, GI, (.list GI)] [GI, GI] (fun x => z0u N x.1 x.2.1 x.2.2.1 x.2.2.2) := pu (N := N) z0u_fn (z0u_envok N)
def z0s_N1 : List NS := [.keep [1, 2, 5, 6], .cmp]
def z0s_C1 : TC := (.seq (.seq (.r [.m 8 6, .fa 9 1 2, .lf 10 1 9, .ln 11 10, .b 12 .lss 8 11]) (.cond (.t 12) .skip (.exit 0))) (.seq (.block 1 (.seq (.r [.fa 15 1 2, .lf 16 1 15, .m 17 6, .ia 18 10 16 17, .lt 19 10 18, .s 7 (.alloc [(I 0), (I 0), (I 0), (I 0), (B false), (B false), (I 0), (I 0), (I 0), (I 0)]), .st
  10 7 19]) (.seq (.seq (.r [.fa 20 0 7, .lf 21 1 20, .m 22 1, .b 23 .eql 21 22, .m 24 23, .w 24 (.lt 25 2 2), .w 24 (.m 26 6), .w 24 (.s 27 (.call (.c (.fn 52 [])) [(.t 25), (.t 26), (.c (B false))])), .w 24 (.bi 28 .geq 27 0), .pf 29 24 28]) (.cond (.t 29) (.r [.m 30 5, .lt 31 2 2, .m 32 6, .s 33
  (.call (.c (.fn 52 [])) [(.t 31), (.t 32), (.c (B true))]), .s 34 (.mm true [(.t 30), (.t 33)]), .m 5 34]) .skip)) (.seq (.r [.fa 35 1 7, .lf 36 1 35, .m 37 1, .b 38 .eql 36 37, .m 39 38, .w 39 (.lt 40 2 2), .w 39 (.m 41 6), .w 39 (.s 42 (.call (.c (.fn 52 [])) [(.t 40), (.t 41), (.c (B true))])),
  .w 39 (.bi 43 .geq 42 0), .pf 44 39 43]) (.cond (.t 44) (.r [.m 45 5, .lt 46 2 2, .m 47 6, .s 48 (.call (.c (.fn 52 [])) [(.t 46), (.t 47), (.c (B false))]), .s 49 (.mm true [(.t 45), (.t 48)]), .m 5 49]) .skip))))) (.r [.m 13 6, .bi 14 .add 13 1, .m 6 14])))
def z0s_C2 : TC := (.seq (.r [.m 50 5, .m 4 50]) .ret)
def z0s_C3 : TC := (.seq (.r [.bx 2 0, .mi 4 0]) (.seq (.r [.mi 5 0]) (.seq (.seq (.r [.mi 6 0]) (.block 0 (.loop z0s_N1 z0s_C1))) z0s_C2)))
def z0s_E (N : Nat) : List (Nat × Ent) := [(52, pureE [G_Mine, GI, .bool] [GI] (fun x => z0j N x.1 x.2.1 x.2.2))]
def z0s_L1 (N : Nat) (n : Nat) (x1 x2 x3 : Int) (x4 : List T_Place) (x5 : List T_Road) : Option Int := loopN (normI 0 z0s_N1) (run (z0s_E N) N 0 z0s_C1) n ⟨[(1, .int .i64 x1), (2, .ptr 0 0 0), (5, .int .i64 x2), (6, .int .i64 x3)], [some (.box 0 [.lst false G_Place x4, .lst false G_Road x5])]⟩ (blkK 0 (seqK (run (z0s_E N) N 0 z0s_C2) (fin [(.t 4)] [GI])))
theorem z0s_L1_succ (N : Nat) (n1 : Nat) (x1 x2 x3 : Int) (x4 : List T_Place) (x5 : List T_Road) : z0s_L1 N (n1 + 1) x1 x2 x3 x4 x5 =
 bif (decide (x3 < (x5.length : Int))) then
  bif inB x3 x5.length then
  bif ((x5.getD x3.toNat D_Road).1 == x1) then
   Option.bind (z0j N (x4, x5) x3 false) fun r7 =>
   bif (decide (r7 ≥ 0)) then
    Option.bind (z0j N (x4, x5) x3 true) fun r8 =>
    bif ((x5.getD x3.toNat D_Road).2.1 == x1) then
     Option.bind (z0j N (x4, x5) x3 true) fun r9 =>
     bif (decide (r9 ≥ 0)) then
      Option.bind (z0j N (x4, x5) x3 false) fun r10 =>
      z0s_L1 N n1 x1 (max (max x2 r8) r10) (W (x3 + 1)) x4 x5
     else
      z0s_L1 N n1 x1 (max x2 r8) (W (x3 + 1)) x4 x5
    else
     z0s_L1 N n1 x1 (max x2 r8) (W (x3 + 1)) x4 x5
   else
    bif ((x5.getD x3.toNat D_Road).2.1 == x1) then
     Option.bind (z0j N (x4, x5) x3 true) fun r26 =>
     bif (decide (r26 ≥ 0)) then
      Option.bind (z0j N (x4, x5) x3 false) fun r27 =>
      z0s_L1 N n1 x1 (max x2 r27) (W (x3 + 1)) x4 x5
     else
      z0s_L1 N n1 x1 x2 (W (x3 + 1)) x4 x5
    else
     z0s_L1 N n1 x1 x2 (W (x3 + 1)) x4 x5
  else
   bif ((x5.getD x3.toNat D_Road).2.1 == x1) then
    Option.bind (z0j N (x4, x5) x3 true) fun r43 =>
    bif (decide (r43 ≥ 0)) then
     Option.bind (z0j N (x4, x5) x3 false) fun r44 =>
     z0s_L1 N n1 x1 (max x2 r44) (W (x3 + 1)) x4 x5
    else
     z0s_L1 N n1 x1 x2 (W (x3 + 1)) x4 x5
   else
    z0s_L1 N n1 x1 x2 (W (x3 + 1)) x4 x5
  else none
 else
  some x2 := by kernel_rfl
def z0s (N : Nat) (a0 : T_Mine) (a1 : Int) : Option Int :=
 z0s_L1 N N a1 0 0 a0.1 a0.2
theorem z0s_fn : FnOK Try.prog 36 51 (fun _ : Nat => false) z0s_C3.er [(.t 4)] := fk Try.func36
theorem z0s_envok (N : Nat) : EnvOK Try.prog (z0s_E N) := .cons (pureE_ok (z0j_pure N)) (.nil)
theorem z0s_pure (N : Nat) : PureOK Try.prog 36 [G_Mine, GI] [GI] (fun x => z0s N x.1 x.2) := pu (N := N) z0s_fn (z0s_envok N)
def z0r_C1 : TC := (.seq (.r [.bx 3 0, .bx 4 1, .mf 6]) (.seq (.r [.lt 16 2 3, .lt 17 4 4, .m 18 2, .c3 19 17 16 17 18, .m 15 19, .ex 20 0 15, .ex 21 1 15, .ex 22 2 15, .m 7 20, .m 8 21, .m 9 22]) (.seq (.seq (.r [.m 23 9, .nt 24 23]) (.cond (.t 24) (.seq (.r [.mf 6]) .ret) .skip)) (.seq (.r [.lt 25 2 3, .m 26 2, .c2
  27 36 25 26, .m 10 27]) (.seq (.r [.lt 29 2 3, .lt 30 4 4, .m 31 2, .m 32 7, .c4 33 33 29 30 31 32, .m 28 33, .ex 34 0 28, .ex 35 1 28, .m 11 34, .m 12 35]) (.seq (.r [.lt 37 2 3, .lt 38 4 4, .m 39 2, .m 40 8, .c4 41 33 37 38 39 40, .m 36 41, .ex 42 0 36, .ex 43 1 36, .m 13 42, .m 14 43]) (.seq
  (.r [.m 44 11, .m 45 10, .b 46 .add 44 45, .fa 47 3 4, .lf 48 1 47, .b 49 .leq 46 48, .m 50 49, .w 50 (.m 51 13), .w 50 (.m 52 10), .w 50 (.b 53 .add 51 52), .w 50 (.fa 54 3 4), .w 50 (.lf 55 1 54), .w 50 (.b 56 .leq 53 55), .pf 57 50 56, .m 6 57]) .ret)))))))
def z0r_E (N : Nat) : List (Nat × Ent) := [(17, pureE [G_Mine, G_Escape, GI] [(.list GI), (.list GI), .bool] (fun x => z0v N x.1 x.2.1 x.2.2)), (36, pureE [G_Mine, GI] [GI] (fun x => z0s N x.1 x.2)), (33, pureE [G_Mine, G_Escape, GI, (.list GI)] [GI, GI] (fun x => z0u N x.1 x.2.1 x.2.2.1 x.2.2.2))]
def z0r (N : Nat) (a0 : T_Mine) (a1 : T_Escape) (a2 : Int) : Option Bool :=
 Option.bind (z0v N a0 a1 a2) fun r1 =>
 bif (!r1.2.2) then
  some false
 else
  Option.bind (z0s N a0 a2) fun r2 =>
  Option.bind (z0u N a0 a1 a2 r1.1) fun r3 =>
  Option.bind (z0u N a0 a1 a2 r1.2.1) fun r4 =>
  bif (decide ((W (r3.1 + r2)) ≤ a1.2.2.2)) then
   some (decide ((W (r4.1 + r2)) ≤ a1.2.2.2))
  else
   some false
theorem z0r_fn : FnOK Try.prog 37 58 (fun _ : Nat => false) z0r_C1.er [(.t 6)] := fk Try.func37
theorem z0r_envok (N : Nat) : EnvOK Try.prog (z0r_E N) := .cons (pureE_ok (z0v_pure N)) (.cons (pureE_ok (z0s_pure N)) (.cons (pureE_ok (z0u_pure N)) (.nil)))
theorem z0r_pure (N : Nat) : PureOK Try.prog 37 [G_Mine, G_Escape, GI] [.bool] (fun x => z0r N x.1 x.2.1 x.2.2) := pu (N := N) z0r_fn (z0r_envok N)
def z0p_N1 : List NS := [.keep [2, 3, 4, 10], .cmp]
def z0p_C1 : TC := (.seq (.seq (.r [.m 29 10, .fa 30 0 3, .lf 31 1 30, .ln 32 31, .b 33 .lss 29 32]) (.cond (.t 33) .skip (.exit 0))) (.seq (.block 1 (.seq (.r [.lt 36 4 4, .s 11 (.alloc [(.lst true []), (.lst true []), (.lst true []), (I 0)]), .st 4 11 36]) (.seq (.r [.fa 37 1 4, .lf 38 1 37, .m 39 10, .c2 40 53 38
  39, .fa 41 1 11, .st 1 41 40]) (.seq (.r [.lt 43 2 3, .lt 44 4 11, .m 45 2, .c3 46 32 43 44 45, .m 42 46, .ex 47 0 42, .ex 48 1 42, .ex 49 2 42, .m 12 47, .m 13 48, .m 14 49]) (.seq (.r [.m 50 10, .m 51 2, .b 52 .neq 50 51, .m 53 52, .w 53 (.m 54 14), .w 53 (.nt 55 54), .pf 56 53 55]) (.cond (.t
  56) (.seq (.r [.mi 6 1]) .ret) .skip)))))) (.r [.m 34 10, .bi 35 .add 34 1, .m 10 35])))
def z0p_C2 : TC := (.seq (.r [.mi 6 2]) .ret)
def z0p_C3 : TC := (.seq (.r [.bx 3 0, .bx 4 1, .mi 6 0]) (.seq (.seq (.r [.lt 16 2 3, .lt 17 4 4, .m 18 2, .c3 19 32 16 17 18, .m 15 19, .ex 20 0 15, .ex 21 1 15, .ex 22 2 15, .m 7 20, .m 8 21, .m 9 22]) (.seq (.r [.m 23 9, .nt 24 23]) (.cond (.t 24) (.seq (.r [.mi 6 0]) .ret) .skip))) (.seq (.seq (.r [.lt 25 2 3,
  .lt 26 4 4, .m 27 2, .c3 28 51 25 26 27]) (.cond (.t 28) (.seq (.r [.mi 6 2]) .ret) .skip)) (.seq (.seq (.r [.mi 10 0]) (.block 0 (.loop z0p_N1 z0p_C1))) z0p_C2))))
def z0p_E (N : Nat) : List (Nat × Ent) := [(32, pureE [G_Mine, G_Escape, GI] [(.list GI), GI, .bool] (fun x => z0q N x.1 x.2.1 x.2.2)), (51, pureE [G_Mine, G_Escape, GI] [.bool] (fun x => z0t N x.1 x.2.1 x.2.2)), (53, pureE [(.list GI), GI] [(.list GI)] (fun x => z10 N x.1 x.2))]
def z0p_L1 (N : Nat) (n : Nat) (x3 x4 : Int) (x5 : List T_Place) (x6 : List T_Road) (x7 x8 x9 : List Int) (x10 : Int) : Option Int := loopN (normI 0 z0p_N1) (run (z0p_E N) N 0 z0p_C1) n ⟨[(2, .int .i64 x3), (3, .ptr 0 0 0), (4, .ptr 1 0 0), (10, .int .i64 x4)], [some (.box 0 [.lst false G_Place x5, .lst false G_Road x6]), some (.box 0 [.lst false GI x7, .lst false GI x8, .lst false GI x9, .int .i64 x10])]⟩ (blkK 0 (seqK (run (z0p_E N) N 0 z0p_C2) (fin [(.t 6)] [GI])))
theorem z0p_L1_succ (N : Nat) (n1 : Nat) (x3 x4 : Int) (x5 : List T_Place) (x6 : List T_Road) (x7 x8 x9 : List Int) (x10 : Int) : z0p_L1 N (n1 + 1) x3 x4 x5 x6 x7 x8 x9 x10 =
 bif (decide (x4 < (x5.length : Int))) then
  Option.bind (z10 N x8 x4) fun r11 =>
  Option.bind (z0q N (x5, x6) (x7, (r11, (x9, x10))) x3) fun r12 =>
  bif (x4 != x3) then
   bif (!r12.2.2) then
    some 1
   else
    z0p_L1 N n1 x3 (W (x4 + 1)) x5 x6 x7 x8 x9 x10
  else
   z0p_L1 N n1 x3 (W (x4 + 1)) x5 x6 x7 x8 x9 x10
 else
  some 2 := by kernel_rfl
def z0p (N : Nat) (a0 : T_Mine) (a1 : T_Escape) (a2 : Int) : Option Int :=
 Option.bind (z0q N a0 a1 a2) fun r1 =>
 bif (!r1.2.2) then
  some 0
 else
  Option.bind (z0t N a0 a1 a2) fun r2 =>
  bif r2 then
   some 2
  else
   z0p_L1 N N a2 0 a0.1 a0.2 a1.1 a1.2.1 a1.2.2.1 a1.2.2.2
theorem z0p_fn : FnOK Try.prog 38 57 (fun _ : Nat => false) z0p_C3.er [(.t 6)] := fk Try.func38
theorem z0p_envok (N : Nat) : EnvOK Try.prog (z0p_E N) := .cons (pureE_ok (z0q_pure N)) (.cons (pureE_ok (z0t_pure N)) (.cons (pureE_ok (z10_pure N)) (.nil)))
theorem z0p_pure (N : Nat) : PureOK Try.prog 38 [G_Mine, G_Escape, GI] [GI] (fun x => z0p N x.1 x.2.1 x.2.2) := pu (N := N) z0p_fn (z0p_envok N)
def z01_C1 : TC := (.seq (.r [.bx 4 0, .bx 5 1, .mf 8]) (.seq (.r [.lt 26 2 4, .lt 27 4 5, .m 28 2, .c3 29 25 26 27 28, .m 25 29, .ex 30 0 25, .ex 31 1 25, .ex 32 2 25, .m 9 30, .m 10 31, .m 11 32]) (.seq (.r [.lt 34 2 4, .lt 35 4 5, .m 36 2, .c3 37 32 34 35 36, .m 33 37, .ex 38 0 33, .ex 39 1 33, .ex 40 2 33, .m 12
  38, .m 13 39, .m 14 40]) (.seq (.r [.lt 42 2 4, .lt 43 4 5, .m 44 2, .c3 45 18 42 43 44, .m 41 45, .ex 46 0 41, .ex 47 1 41, .ex 48 2 41, .m 15 46, .m 16 47, .m 17 48]) (.seq (.r [.lt 50 2 4, .lt 51 4 5, .m 52 2, .c3 53 17 50 51 52, .m 49 53, .ex 54 0 49, .ex 55 1 49, .ex 56 2 49, .m 18 54, .m 19
  55, .m 20 56]) (.seq (.r [.lt 58 2 4, .lt 59 4 5, .m 60 2, .m 61 3, .c4 62 20 58 59 60 61, .m 57 62, .ex 63 0 57, .ex 64 1 57, .m 21 63, .m 22 64]) (.seq (.r [.lt 66 2 4, .lt 67 4 5, .m 68 2, .m 69 3, .c4 70 33 66 67 68 69, .m 65 70, .ex 71 0 65, .ex 72 1 65, .m 23 71, .m 24 72]) (.seq (.rg [.m 73
  9, .m 74 12, .c2 75 28 73 74, .m 76 75, .w 76 (.m 77 10), .w 76 (.m 78 13), .w 76 (.b 79 .eql 77 78), .pf 80 76 79, .m 81 80, .w 81 (.m 82 11), .w 81 (.m 83 14), .w 81 (.s 84 (.beq false (.t 82) (.t 83))), .pf 85 81 84, .m 86 85, .w 86 (.m 87 15), .w 86 (.m 88 18), .w 86 (.c2 89 28 87 88), .pf 90
  86 89, .m 91 90, .w 91 (.m 92 16), .w 91 (.m 93 19), .w 91 (.c2 94 28 92 93), .pf 95 91 94, .m 96 95, .w 96 (.m 97 17), .w 96 (.m 98 20), .w 96 (.s 99 (.beq false (.t 97) (.t 98))), .pf 100 96 99, .m 101 100, .w 101 (.m 102 21), .w 101 (.m 103 23), .w 101 (.b 104 .eql 102 103), .pf 105 101 104, .m
  106 105, .w 106 (.m 107 22), .w 106 (.m 108 24), .w 106 (.b 109 .eql 107 108), .pf 110 106 109, .m 111 110, .w 111 (.lt 112 2 4), .w 111 (.lt 113 4 5), .w 111 (.c2 114 34 112 113), .w 111 (.lt 115 2 4), .w 111 (.lt 116 4 5), .w 111 (.c2 117 35 115 116), .w 111 (.s 118 (.beq false (.t 114) (.t
  117))), .pf 119 111 118, .m 120 119, .w 120 (.lt 121 2 4), .w 120 (.m 122 2), .w 120 (.c2 123 22 121 122), .w 120 (.lt 124 2 4), .w 120 (.m 125 2), .w 120 (.c2 126 36 124 125), .w 120 (.b 127 .eql 123 126), .pf 128 120 127, .m 129 128, .w 129 (.lt 130 2 4), .w 129 (.lt 131 4 5), .w 129 (.m 132 2),
  .w 129 (.c3 133 19 130 131 132), .w 129 (.lt 134 2 4), .w 129 (.lt 135 4 5), .w 129 (.m 136 2), .w 129 (.c3 137 37 134 135 136), .w 129 (.s 138 (.beq false (.t 133) (.t 137))), .pf 139 129 138, .m 140 139, .w 140 (.lt 141 2 4), .w 140 (.lt 142 4 5), .w 140 (.m 143 2), .w 140 (.c3 144 21 141 142
  143), .w 140 (.lt 145 2 4), .w 140 (.lt 146 4 5), .w 140 (.m 147 2), .w 140 (.c3 148 38 145 146 147), .w 140 (.b 149 .eql 144 148), .pf 150 140 149, .m 8 150] (some [(41, 42), (41, 43), (50, 51), (60, 61), (60, 62), (71, 72), (71, 73)])) .ret))))))))
def z01_E (N : Nat) : List (Nat × Ent) := [(25, pureE [G_Mine, G_Escape, GI] [(.list GI), GI, .bool] (fun x => z1c N x.1 x.2.1 x.2.2)), (32, pureE [G_Mine, G_Escape, GI] [(.list GI), GI, .bool] (fun x => z0q N x.1 x.2.1 x.2.2)), (18, pureE [G_Mine, G_Escape, GI] [(.list GI), (.list GI), .bool] (fun x => z1h N x.1 x.2.1 x.2.2)), (17, pureE [G_Mine, G_Escape, GI] [(.list GI), (.list GI), .bool] (fun x => z0v N x.1 x.2.1 x.2.2)), (20, pureE [G_Mine, G_Escape, GI, (.list GI)] [GI, GI] (fun x => z1f N x.1 x.2.1 x.2.2.1 x.2.2.2)), (33, pureE [G_Mine, G_Escape, GI, (.list GI)] [GI, GI] (fun x => z0u N x.1 x.2.1 x.2.2.1 x.2.2.2)), (28, pureE [(.list GI), (.list GI)] [.bool] (fun x => z0n N x.1 x.2)), (34, pureE [G_Mine, G_Escape] [.bool] (fun x => z1i N x.1 x.2)), (35, pureE [G_Mine, G_Escape] [.bool] (fun x => z0w N x.1 x.2)), (22, pureE [G_Mine, GI] [GI] (fun x => z1e N x.1 x.2)), (36, pureE [G_Mine, GI] [GI] (fun x => z0s N x.1 x.2)), (19, pureE [G_Mine, G_Escape, GI] [.bool] (fun x => z1d N x.1 x.2.1 x.2.2)), (37, pureE [G_Mine, G_Escape, GI] [.bool] (fun x => z0r N x.1 x.2.1 x.2.2)), (21, pureE [G_Mine, G_Escape, .int .i64] [.int .i64] (fun x => z1b N x.1 x.2.1 x.2.2)), (38, pureE [G_Mine, G_Escape, GI] [GI] (fun x => z0p N x.1 x.2.1 x.2.2))]
def z01 (N : Nat) (a0 : T_Mine) (a1 : T_Escape) (a2 : Int) (a3 : List Int) : Option Bool :=
 Option.bind (z1c N a0 a1 a2) fun r1 =>
 Option.bind (z0q N a0 a1 a2) fun r2 =>
 Option.bind (z1h N a0 a1 a2) fun r3 =>
 Option.bind (z0v N a0 a1 a2) fun r4 =>
 Option.bind (z1f N a0 a1 a2 a3) fun r5 =>
 Option.bind (z0u N a0 a1 a2 a3) fun r6 =>
 Option.bind (z0n N r1.1 r2.1) fun r7 =>
 bif r7 then
  bif (r1.2.1 == r2.2.1) then
   bif (r1.2.2 == r2.2.2) then
    Option.bind (z0n N r3.1 r4.1) fun r8 =>
    bif r8 then
     Option.bind (z0n N r3.2.1 r4.2.1) fun r9 =>
     bif r9 then
      bif (r3.2.2 == r4.2.2) then
       bif (r5.1 == r6.1) then
        bif (r5.2 == r6.2) then
         Option.bind (z1i N a0 a1) fun r10 =>
         Option.bind (z0w N a0 a1) fun r11 =>
         bif (r10 == r11) then
          Option.bind (z1e N a0 a2) fun r12 =>
          Option.bind (z0s N a0 a2) fun r13 =>
          bif (r12 == r13) then
           Option.bind (z1d N a0 a1 a2) fun r14 =>
           Option.bind (z0r N a0 a1 a2) fun r15 =>
           bif (r14 == r15) then
            Option.bind (z1b N a0 a1 a2) fun r16 =>
            Option.bind (z0p N a0 a1 a2) fun r17 =>
            some (r16 == r17)
           else
            some false
          else
           some false
         else
          some false
        else
         some false
       else
        some false
      else
       some false
     else
      some false
    else
     some false
   else
    some false
  else
   some false
 else
  some false
theorem z01_fn : FnOK Try.prog 15 151 (fun _ : Nat => false) z01_C1.er [(.t 8)] := fk Try.func15
theorem z01_envok (N : Nat) : EnvOK Try.prog (z01_E N) := .cons (pureE_ok (z1c_pure N)) (.cons (pureE_ok (z0q_pure N)) (.cons (pureE_ok (z1h_pure N)) (.cons (pureE_ok (z0v_pure N)) (.cons (pureE_ok (z1f_pure N)) (.cons (pureE_ok (z0u_pure N)) (.cons (pureE_ok (z0n_pure N)) (.cons (pureE_ok (z1i_pure N)) (.cons (pureE_ok (z0w_pure N)) (.cons (pureE_ok (z1e_pure N)) (.cons (pureE_ok (z0s_pure N)) (.cons (pureE_ok (z1d_pure N)) (.cons (pureE_ok (z0r_pure N)) (.cons (pureE_ok (z1b_pure N)) (.cons (pureE_ok (z0p_pure N)) (.nil)))))))))))))))
theorem z01_pure (N : Nat) : PureOK Try.prog 15 [G_Mine, G_Escape, GI, (.list GI)] [.bool] (fun x => z01 N x.1 x.2.1 x.2.2.1 x.2.2.2) := pu (N := N) z01_fn (z01_envok N)
def z06_NE : List NS := [.frzb 4, .frzo 0, .keep [4], .out [0]]
def z06_C1 : TC := (.seq (.r [.bx 3 1, .s 4 (.alloc [(.lst true []), (.lst true []), (.lst true []), (I 0)])]) (.seq (.r [.m 6 0, ⟨⟨some 7, (.bslice false 1 [(I 0)] 5 [(0, (.c (I 600))), (1, (.c (I 100))), (2, (.c (I 60))), (3, (.c (I 1000))), (4, (.c (I 0)))]), none⟩, ⟨GI, none, []⟩⟩, .c2 8 30 6 7, .s 9
  (.build [(.lst true []), (.lst true []), (.lst true []), (I 0)] [(3, (1, (.t 8)))]), .s 5 (.alloc [(.lst true []), (.lst true []), (.lst true []), (I 0)]), .st 4 5 9]) (.seq (.seq (.r [.m 10 0, .s 11 (.call (.c (.fn 14 [])) [(.t 10), (.c (I 3))])]) (.cond (.t 11) (.r [.m 12 0, .fa 13 0 3, .lf 14 1
  13, .ln 15 14, .c2 16 13 12 15, ⟨⟨some 17, (.bslice false 1 [(I 0)] 1 [(0, (.t 16))]), none⟩, ⟨GI, none, []⟩⟩, .fa 18 0 5, .st 1 18 17]) .skip)) (.seq (.seq (.r [.m 19 0, .s 20 (.call (.c (.fn 14 [])) [(.t 19), (.c (I 4))])]) (.cond (.t 20) (.r [.m 21 0, .fa 22 0 3, .lf 23 1 22, .ln 24
  23, .c2 25 13 21 24, ⟨⟨some 26, (.bslice false 1 [(I 0)] 1 [(0, (.t 25))]), none⟩, ⟨GI, none, []⟩⟩, .fa 27 1 5, .st 1 27 26]) .skip)) (.seq (.seq (.r [.m 28 0, .s 29 (.call (.c (.fn 14 [])) [(.t 28), (.c (I 4))]), .m 30 29, .w 30 (.fa 31 1 3), .w 30 (.lf 32 1 31), .w 30 (.ln 33 32), .w 30
  (.bi 34 .gtr 33 0), .pf 35 30 34]) (.cond (.t 35) (.r [.m 36 0, .fa 37 1 3, .lf 38 1 37, .ln 39 38, .c2 40 13 36 39, ⟨⟨some 41, (.bslice false 1 [(I 0)] 1 [(0, (.t 40))]), none⟩, ⟨GI, none, []⟩⟩, .fa 42 2 5, .st 1 42 41]) .skip)) (.seq (.r [.lt 43 4 5, .st 4 4 43]) (.pre [.frzb 4, .frzo
  0, .keep [4], .out [0]] .ret)))))))
def z06_E (N : Nat) : List (Nat × Ent) := [(30, sfE [none, none] [.b (.v G_Dice), .v (.list GI)] [.v GI] (fun x => z09 N x.1 x.2)), (14, sfE [none, none] [.b (.v G_Dice), .v GI] [.v .bool] (fun x => z0a N x.1 x.2)), (13, sfE [none, none] [.b (.v G_Dice), .v GI] [.v GI] (fun x => z08 N x.1 x.2))]
def z06 (N : Nat) (a0 : T_Dice) (a1 : T_Mine) : Option (T_Escape × T_Dice) :=
 Option.bind (z09 N a0 [600, 100, 60, 1000, 0]) fun r1 =>
 Option.bind (z0a N r1.2 3) fun r2 =>
 bif r2.1 then
  Option.bind (z08 N r2.2 (a1.1.length : Int)) fun r3 =>
  Option.bind (z0a N r3.2 4) fun r4 =>
  bif r4.1 then
   Option.bind (z08 N r4.2 (a1.1.length : Int)) fun r5 =>
   Option.bind (z0a N r5.2 4) fun r6 =>
   bif r6.1 then
    bif (decide ((a1.2.length : Int) > 0)) then
     Option.bind (z08 N r6.2 (a1.2.length : Int)) fun r7 =>
     some (([r3.1], ([r5.1], ([r7.1], r1.1))), r7.2)
    else
     some (([r3.1], ([r5.1], ([], r1.1))), r6.2)
   else
    some (([r3.1], ([r5.1], ([], r1.1))), r6.2)
  else
   Option.bind (z0a N r4.2 4) fun r8 =>
   bif r8.1 then
    bif (decide ((a1.2.length : Int) > 0)) then
     Option.bind (z08 N r8.2 (a1.2.length : Int)) fun r9 =>
     some (([r3.1], ([], ([r9.1], r1.1))), r9.2)
    else
     some (([r3.1], ([], ([], r1.1))), r8.2)
   else
    some (([r3.1], ([], ([], r1.1))), r8.2)
 else
  Option.bind (z0a N r2.2 4) fun r10 =>
  bif r10.1 then
   Option.bind (z08 N r10.2 (a1.1.length : Int)) fun r11 =>
   Option.bind (z0a N r11.2 4) fun r12 =>
   bif r12.1 then
    bif (decide ((a1.2.length : Int) > 0)) then
     Option.bind (z08 N r12.2 (a1.2.length : Int)) fun r13 =>
     some (([], ([r11.1], ([r13.1], r1.1))), r13.2)
    else
     some (([], ([r11.1], ([], r1.1))), r12.2)
   else
    some (([], ([r11.1], ([], r1.1))), r12.2)
  else
   Option.bind (z0a N r10.2 4) fun r14 =>
   bif r14.1 then
    bif (decide ((a1.2.length : Int) > 0)) then
     Option.bind (z08 N r14.2 (a1.2.length : Int)) fun r15 =>
     some (([], ([], ([r15.1], r1.1))), r15.2)
    else
     some (([], ([], ([], r1.1))), r14.2)
   else
    some (([], ([], ([], r1.1))), r14.2)
theorem z06_fn : FnOK Try.prog 16 44 (fun _ : Nat => false) z06_C1.er [(.cell 4 true 4)] := fk Try.func16
theorem z06_envok (N : Nat) : EnvOK Try.prog (z06_E N) := .cons (sfE_ok (z09_sf N)) (.cons (sfE_ok (z0a_sf N)) (.cons (sfE_ok (z08_sf N)) (.nil)))
theorem z06_sf (N : Nat) : SFOK Try.prog 16 [none, none] [.b (.v G_Dice), .v G_Mine] [.v G_Escape] (fun x => z06 N x.1 x.2) := sfOK (N := N) (p := 1) (q := 1) (ns := z06_NE) mixed z06_fn (z06_envok N) (TC.noh_ok (by kernel_rfl)) rfl rfl rfl (fun x => by kernel_rfl)
def z00_C1 : TC := (.seq (.r [.m 37 0, .c1 38 11 37, .m 7 38]) (.seq (.r [.m 39 7, .c1 40 12 39, .s 8 (.alloc [(.lst true []), (.lst true [])]), .st 2 8 40]) (.seq (.r [.m 41 7, .fa 42 0 8, .lf 43 1 42, .ln 44 43, .bi 45 .add 44 2, .c2 46 13 41 45, .bi 47 .sub 46 1, .m 9 47]) (.seq (.seq (.r [.m 48 2, .ln 49 48, .bi
  50 .gtr 49 0, .m 51 50, .w 51 (.m 52 7), .w 51 (.s 53 (.call (.c (.fn 14 [])) [(.t 52), (.c (I 3))])), .pf 54 51 53]) (.cond (.t 54) (.r [.m 55 2, .s 56 (.iadrS 1 (.t 55) (.c (I 0))), .lf 57 1 56, .m 9 57]) .skip)) (.seq (.rg [.s 58 (.call (.c (.fn 10 [])) []), .m 59 58, .w 59 (.lt 60 2 8), .w 59
  (.lt 61 4 4), .w 59 (.m 62 9), .w 59 (.m 63 2), .w 59 (.c4 64 15 60 61 62 63), .pf 65 59 64, .m 66 65, .w 66 (.lt 67 2 8), .w 66 (.m 68 7), .w 66 (.lt 69 2 8), .w 66 (.c2 70 16 68 69), .w 66 (.m 71 9), .w 66 (.m 72 2), .w 66 (.c4 73 15 67 70 71 72), .pf 74 66 73, .m 6 74] (some [(9, 12)]))
  .ret)))))
def z00_C2 : TC := (.seq (.r [.bx 4 1, .mf 6]) (.seq (.seq (.r [.m 10 0, .c1 11 9 10, .nt 12 11, .m 13 12, .v 13 (.fa 14 0 4), .v 13 (.lf 15 1 14), .v 13 (.ln 16 15), .v 13 (.bi 17 .gtr 16 70), .pt 18 13 17, .m 19 18, .v 19 (.fa 20 1 4), .v 19 (.lf 21 1 20), .v 19 (.ln 22 21), .v 19 (.bi 23 .gtr 22 70), .pt 24 19 23,
  .m 25 24, .v 25 (.fa 26 2 4), .v 25 (.lf 27 1 26), .v 25 (.ln 28 27), .v 25 (.bi 29 .gtr 28 140), .pt 30 25 29, .m 31 30, .v 31 (.m 32 2), .v 31 (.ln 33 32), .v 31 (.bi 34 .gtr 33 30), .pt 35 31 34]) (.cond (.t 35) (.seq (.r [.s 36 (.call (.c (.fn 10 [])) []), .m 6 36]) .ret) .skip)) (.join [.wk 0
  (.list GI), .wk 2 (.list GI), .keep [0, 2, 4], .cmp] z00_C1)))
def z00_E (N : Nat) : List (Nat × Ent) := [(9, pureE [(.list GI)] [.bool] (fun x => z0b N x)), (10, pureE [] [.bool] (fun x => z02 N)), (11, sfE [none] [.v (.list GI)] [.n G_Dice] (fun x => z0d N x)), (12, sfE [none] [.b (.v G_Dice)] [.v G_Mine] (fun x => z07 N x)), (13, sfE [none, none] [.b (.v G_Dice), .v GI] [.v GI] (fun x => z08 N x.1 x.2)), (14, sfE [none, none] [.b (.v G_Dice), .v GI] [.v .bool] (fun x => z0a N x.1 x.2)), (15, pureE [G_Mine, G_Escape, GI, (.list GI)] [.bool] (fun x => z01 N x.1 x.2.1 x.2.2.1 x.2.2.2)), (16, sfE [none, none] [.b (.v G_Dice), .v G_Mine] [.v G_Escape] (fun x => z06 N x.1 x.2))]
def z00_J1 (N : Nat) (JM : Nat) (x7 x8 x9 x10 x11 : List Int) (x12 : Int) : Option Bool := joinN (run (z00_E N) N 0 z00_C1) JM ⟨[(0, .lst false GI x7), (2, .lst false GI x8), (4, .ptr 0 0 0)], [some (.box 0 [.lst false GI x9, .lst false GI x10, .lst false GI x11, .int .i64 x12])]⟩ (fin [(.t 6)] [.bool])
theorem z00_J1_eq (N : Nat) (JM : Nat) (x7 x8 x9 x10 x11 : List Int) (x12 : Int) : z00_J1 N (JM + 1) x7 x8 x9 x10 x11 x12 =
 Option.bind (z0d N x7) fun r13 =>
 Option.bind (z07 N r13.1) fun r14 =>
 Option.bind (z08 N r14.2 (W ((r14.1.1.length : Int) + 2))) fun r16 =>
 bif (decide ((x8.length : Int) > 0)) then
  Option.bind (z0a N r16.2 3) fun r17 =>
  bif r17.1 then
   bif inB 0 x8.length then
   let v18 := x8.getD (0 : Int).toNat 0
   Option.bind (z02 N) fun r19 =>
   bif r19 then
    Option.bind (z01 N r14.1 (x9, (x10, (x11, x12))) v18 x8) fun r20 =>
    bif r20 then
     Option.bind (z06 N r17.2 r14.1) fun r21 =>
     Option.bind (z01 N r14.1 r21.1 v18 x8) fun r22 =>
     some r22
    else
     some false
   else
    some false
   else none
  else
   Option.bind (z02 N) fun r23 =>
   bif r23 then
    Option.bind (z01 N r14.1 (x9, (x10, (x11, x12))) (W (r16.1 - 1)) x8) fun r24 =>
    bif r24 then
     Option.bind (z06 N r17.2 r14.1) fun r25 =>
     Option.bind (z01 N r14.1 r25.1 (W (r16.1 - 1)) x8) fun r26 =>
     some r26
    else
     some false
   else
    some false
 else
  Option.bind (z02 N) fun r27 =>
  bif r27 then
   Option.bind (z01 N r14.1 (x9, (x10, (x11, x12))) (W (r16.1 - 1)) x8) fun r28 =>
   bif r28 then
    Option.bind (z06 N r16.2 r14.1) fun r29 =>
    Option.bind (z01 N r14.1 r29.1 (W (r16.1 - 1)) x8) fun r30 =>
    some r30
   else
    some false
  else
   some false := by kernel_rfl
def z00 (N : Nat) (a0 : List Int) (a1 : T_Escape) (a2 : List Int) : Option Bool :=
 Option.bind (z0b N a0) fun r1 =>
 bif (!r1) then
  Option.bind (z02 N) fun r2 =>
  some r2
 else
  bif (decide ((a1.1.length : Int) > 70)) then
   Option.bind (z02 N) fun r3 =>
   some r3
  else
   bif (decide ((a1.2.1.length : Int) > 70)) then
    Option.bind (z02 N) fun r4 =>
    some r4
   else
    bif (decide ((a1.2.2.1.length : Int) > 140)) then
     Option.bind (z02 N) fun r5 =>
     some r5
    else
     bif (decide ((a2.length : Int) > 30)) then
      Option.bind (z02 N) fun r6 =>
      some r6
     else
      z00_J1 N N a0 a2 a1.1 a1.2.1 a1.2.2.1 a1.2.2.2
theorem z00_fn : FnOK Try.prog 3 75 (fun _ : Nat => false) z00_C2.er [(.t 6)] := fk Try.func3
theorem z00_envok (N : Nat) : EnvOK Try.prog (z00_E N) := .cons (pureE_ok (z0b_pure N)) (.cons (pureE_ok (z02_pure N)) (.cons (sfE_ok (z0d_sf N)) (.cons (sfE_ok (z07_sf N)) (.cons (sfE_ok (z08_sf N)) (.cons (sfE_ok (z0a_sf N)) (.cons (pureE_ok (z01_pure N)) (.cons (sfE_ok (z06_sf N)) (.nil))))))))
theorem z00_pure (N : Nat) : PureOK Try.prog 3 [(.list GI), G_Escape, (.list GI)] [.bool] (fun x => z00 N x.1 x.2.1 x.2.2) := pu (N := N) z00_fn (z00_envok N)
end
end M
end Go.Proofs.Ytiemlgicaibccaa
