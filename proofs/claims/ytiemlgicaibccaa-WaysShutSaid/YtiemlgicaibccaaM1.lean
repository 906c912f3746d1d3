/- Plain models of functions of this seat, each checked against the loaded program and the walk by the kernel. No condition: closed facts. Printed by a program of ours. -/
import Derived.Test.YtiemlgicaibccaaAh
import Derived.Test.YtiemlgicaibccaaRows
set_option linter.all false
namespace Go.Proofs.Ytiemlgicaibccaa
open Go.Pv
namespace M
noncomputable section
abbrev _root_.Go.Pv.TI.s (n : Nat) (o : ROp) : TI := ⟨⟨some n, o, none⟩, {}⟩
abbrev _root_.Go.Pv.TI.d (o : ROp) : TI := ⟨⟨none, o, none⟩, {}⟩
abbrev _root_.Go.Pv.TI.m (n k : Nat) : TI := ⟨⟨some n, .mov (.t k), none⟩, {}⟩
theorem mixed : Try.prog.follows .mixedOrders = true := Try.checked.mixed
/-! short names of operations -/
section
open TI
abbrev _root_.Go.Pv.TI.fa (n k t : Nat) : TI := .s n (.fadr k (.t t))
abbrev _root_.Go.Pv.TI.lf (n k t : Nat) : TI := .s n (.load false k (.t t))
abbrev _root_.Go.Pv.TI.lt (n k t : Nat) : TI := .s n (.load true k (.t t))
abbrev _root_.Go.Pv.TI.ia (n k a b : Nat) : TI := .s n (.iadrS k (.t a) (.t b))
abbrev _root_.Go.Pv.TI.pf (n a b : Nat) : TI := .s n (.pick (.t a) (.t b) (.c (B false)))
abbrev _root_.Go.Pv.TI.pt (n a b : Nat) : TI := .s n (.pick (.t a) (.c (B true)) (.t b))
abbrev _root_.Go.Pv.TI.mi (n : Nat) (i : Int) : TI := .s n (.mov (.c (I i)))
abbrev _root_.Go.Pv.TI.st (k a b : Nat) : TI := .d (.store k (.t a) (.t b))
abbrev _root_.Go.Pv.TI.ex (n k a : Nat) : TI := .s n (.extr k (.t a))
abbrev _root_.Go.Pv.TI.b (n : Nat) (o : BinOp) (a b : Nat) : TI := .s n (.bin o (.t a) (.t b))
abbrev _root_.Go.Pv.TI.bi (n : Nat) (o : BinOp) (a : Nat) (i : Int) : TI := .s n (.bin o (.t a) (.c (I i)))
abbrev _root_.Go.Pv.TI.bx (n a : Nat) : TI := .s n (.box (.t a))
abbrev _root_.Go.Pv.TI.ln (n a : Nat) : TI := .s n (.len (.t a))
abbrev _root_.Go.Pv.TI.mf (n : Nat) : TI := .s n (.mov (.c (B false)))
abbrev _root_.Go.Pv.TI.mt (n : Nat) : TI := .s n (.mov (.c (B true)))
abbrev _root_.Go.Pv.TI.nt (n a : Nat) : TI := .s n (.un .not (.t a))
abbrev _root_.Go.Pv.TI.mn (n : Nat) : TI := .s n (.mov (.c (.lst true [])))
abbrev _root_.Go.Pv.TI.c1 (n f a : Nat) : TI := .s n (.call (.c (.fn f [])) [.t a])
abbrev _root_.Go.Pv.TI.c2 (n f a b : Nat) : TI := .s n (.call (.c (.fn f [])) [.t a, .t b])
abbrev _root_.Go.Pv.TI.c3 (n f a b c : Nat) : TI := .s n (.call (.c (.fn f [])) [.t a, .t b, .t c])
abbrev _root_.Go.Pv.TI.c4 (n f a b c d : Nat) : TI := .s n (.call (.c (.fn f [])) [.t a, .t b, .t c, .t d])
abbrev _root_.Go.Pv.TI.w (k : Nat) (x : TI) : TI := ⟨⟨x.ri.dst, x.ri.op, some (k, true)⟩, x.an⟩
abbrev _root_.Go.Pv.TI.v (k : Nat) (x : TI) : TI := ⟨⟨x.ri.dst, x.ri.op, some (k, false)⟩, x.an⟩
abbrev _root_.Go.Pv.TC.r (l : List TI) : TC := .rg l none
end
theorem fk {P : Program} {f : FuncId} {fn : Func} {ow : Nat → Bool} {ac : AC} {rs : List RR} {nt : Nat} (hf : P.funcs[f]? = some fn) (h1 : (fn.name == "runtime.NumGoroutine") = false := by kernel_rfl) (h2 : fn.body = some (bodyOf fn) := by kernel_rfl) (h3 : fn.ntmps = nt := by kernel_rfl) (h4 : comp P nt ow (bodyOf fn) = some ac := by kernel_rfl) (h5 : resR P fn.results.toList = some rs := by kernel_rfl) : FnOK P f nt ow ac rs := FnOK.mk' hf h1 h2 h3 h4 h5
theorem pu {f nt : Nat} {ow : Nat → Bool} {tc : TC} {rs : List RR} {env : List (Nat × Ent)} {N : Nat} {ts ret : List GT} {model : Els ts → Option (Els ret)} (hf : FnOK Try.prog f nt ow tc.er rs) (hE : EnvOK Try.prog env) (hh : tc.noh = true := by kernel_rfl) (hlen : Nat.ble ts.length nt = true := by rfl) (hrun : ∀ x, run env N 0 tc ⟨argT0 (valsI ts x) 0, []⟩ (fin rs ret) = model x := by intro x; kernel_rfl) : PureOK Try.prog f ts ret model := pureOK mixed hf hE (TC.noh_ok hh) hlen hrun
abbrev GI : GT := .int .i64
abbrev G_boundsError : GT := (.pair GI (.pair GI (.pair .bool (.int .u8))))
abbrev T_boundsError := Int × Int × Bool × Int
abbrev D_boundsError : T_boundsError := (0, (0, (false, 0)))
abbrev G_errorAddressString : GT := (.pair .str (.int .u64))
abbrev T_errorAddressString := (List UInt8) × Int
abbrev D_errorAddressString : T_errorAddressString := ([], 0)
abbrev G_Dice : GT := (.pair (.list GI) GI)
abbrev T_Dice := (List Int) × Int
abbrev D_Dice : T_Dice := ([], 0)
abbrev G_Escape : GT := (.pair (.list GI) (.pair (.list GI) (.pair (.list GI) GI)))
abbrev T_Escape := (List Int) × (List Int) × (List Int) × Int
abbrev D_Escape : T_Escape := ([], ([], ([], 0)))
abbrev G_Place : GT := (.pair GI .bool)
abbrev T_Place := Int × Bool
abbrev D_Place : T_Place := (0, false)
abbrev G_Span : GT := (.pair GI GI)
abbrev T_Span := Int × Int
abbrev D_Span : T_Span := (0, 0)
abbrev G_Road : GT := (.pair GI (.pair GI (.pair GI (.pair GI (.pair .bool (.pair .bool (.pair G_Span (.pair GI GI))))))))
abbrev T_Road := Int × Int × Int × Int × Bool × Bool × T_Span × Int × Int
abbrev D_Road : T_Road := (0, (0, (0, (0, (false, (false, (D_Span, (0, 0))))))))
abbrev G_Mine : GT := (.pair (.list G_Place) (.list G_Road))
abbrev T_Mine := (List T_Place) × List T_Road
abbrev D_Mine : T_Mine := ([], [])
abbrev G_pace : GT := (.pair GI (.pair GI GI))
abbrev T_pace := Int × Int × Int
abbrev D_pace : T_pace := (0, (0, 0))
abbrev G_step : GT := (.pair GI (.pair GI (.pair GI GI)))
abbrev T_step := Int × Int × Int × Int
abbrev D_step : T_step := (0, (0, (0, 0)))
abbrev G_finder : GT := (.pair GI (.pair (.list G_step) (.pair (.list .bool) (.list .bool))))
abbrev T_finder := Int × (List T_step) × (List Bool) × List Bool
abbrev D_finder : T_finder := (0, ([], ([], [])))
def z0a_C1 : TC := (.seq (.r [.mf 2]) (.seq (.r [.m 3 0, .ln 4 3, .bi 5 .leq 4 400, .m 2 5]) .ret))
def z0a_E (N : Nat) : List (Nat × Ent) := []
def z0a (N : Nat) (a0 : List Int) : Option Bool :=
 some (decide ((a0.length : Int) ≤ 400))
theorem z0a_fn : FnOK Try.prog 9 6 (fun _ : Nat => false) z0a_C1.er [(.t 2)] := fk Try.func9
theorem z0a_envok (N : Nat) : EnvOK Try.prog (z0a_E N) := .nil
theorem z0a_pure (N : Nat) : PureOK Try.prog 9 [(.list GI)] [.bool] (fun x => z0a N x) := pu (N := N) z0a_fn (z0a_envok N)
def z0f_C1 : TC := (.seq (.r [.bx 3 0, .mf 6]) (.seq (.r [.m 7 1, .fa 8 0 3, .lf 9 1 8, .b 10 .leq 7 9, .m 11 10, .w 11 (.fa 12 0 3), .w 11 (.lf 13 1 12), .w 11 (.fa 14 1 3), .w 11 (.lf 15 1 14), .w 11 (.b 16 .leq 13 15), .pf 17 11 16, .m 18 17, .w 18 (.fa 19 1 3), .w 18 (.lf 20 1 19), .w 18 (.m 21 2), .w 18 (.b 22
  .leq 20 21), .pf 23 18 22, .m 6 23]) .ret))
def z0f_E (N : Nat) : List (Nat × Ent) := []
def z0f (N : Nat) (a0 : T_Span) (a1 : Int) (a2 : Int) : Option Bool :=
 bif (decide (a1 ≤ a0.1)) then
  bif (decide (a0.1 ≤ a0.2)) then
   some (decide (a0.2 ≤ a2))
  else
   some false
 else
  some false
theorem z0f_fn : FnOK Try.prog 74 24 (fun _ : Nat => false) z0f_C1.er [(.t 6)] := fk Try.func74
theorem z0f_envok (N : Nat) : EnvOK Try.prog (z0f_E N) := .nil
theorem z0f_pure (N : Nat) : PureOK Try.prog 74 [G_Span, GI, GI] [.bool] (fun x => z0f N x.1 x.2.1 x.2.2) := pu (N := N) z0f_fn (z0f_envok N)
def z0d_N1 : List NS := [.wk 19 (.list G_Place), .keep [1, 19, 20, 21], .cmp]
def z0d_N2 : List NS := [.wk 38 (.list G_Road), .keep [5, 38, 39, 40], .cmp]
def z0d_C1 : TC := (.seq (.seq (.r [.fa 71 2 7, .lf 72 1 71, .bi 73 .lss 72 1, .m 74 73, .v 74 (.fa 75 2 7), .v 74 (.lf 76 1 75), .v 74 (.bi 77 .gtr 76 100000), .pt 78 74 77, .m 79 78, .v 79 (.fa 80 3 7), .v 79 (.lf 81 1 80), .v 79 (.bi 82 .lss 81 1), .pt 83 79 82, .m 84 83, .v 84 (.fa 85 3 7), .v 84 (.lf 86 1 85),
  .v 84 (.bi 87 .gtr 86 1000), .pt 88 84 87]) (.cond (.t 88) (.seq (.r [.mi 2 1]) .ret) .skip)) (.seq (.r [.fa 89 6 7, .lt 90 2 89, .s 91 (.call (.c (.fn 74 [])) [(.t 90), (.c (I 1)), (.c (I 262144))]), .nt 92 91, .m 93 92, .v 93 (.fa 94 8 7), .v 93 (.lt 95 2 94), .v 93 (.s 96 (.call (.c (.fn 74
  [])) [(.t 95), (.c (I (-2199023255552))), (.c (I 2199023255552))])), .v 93 (.nt 97 96), .pt 98 93 97]) (.cond (.t 98) (.seq (.r [.mi 2 1]) .ret) .skip)))
def z0d_C2 : TC := (.r [.bi 99 .add 40 1, .m 40 99])
def z0d_C3 : TC := (.seq (.r [.b 41 .lss 40 39]) (.seq (.cond (.t 41) .skip (.exit 2)) (.seq (.block 3 (.seq (.r [.ia 42 10 38 40, .lt 43 10 42, .s 7 (.alloc [(I 0), (I 0), (I 0), (I 0), (B false), (B false), (I 0), (I 0), (I 0), (I 0)]), .st 10 7 43]) (.seq (.seq (.r [.fa 44 0 7, .lf 45 1 44, .bi 46 .lss 45 0, .m 47
  46, .v 47 (.fa 48 0 7), .v 47 (.lf 49 1 48), .v 47 (.m 50 5), .v 47 (.b 51 .geq 49 50), .pt 52 47 51, .m 53 52, .v 53 (.fa 54 1 7), .v 53 (.lf 55 1 54), .v 53 (.bi 56 .lss 55 0), .pt 57 53 56, .m 58 57, .v 58 (.fa 59 1 7), .v 58 (.lf 60 1 59), .v 58 (.m 61 5), .v 58 (.b 62 .geq 60 61), .pt 63 58
  62, .m 64 63, .v 64 (.fa 65 0 7), .v 64 (.lf 66 1 65), .v 64 (.fa 67 1 7), .v 64 (.lf 68 1 67), .v 64 (.b 69 .eql 66 68), .pt 70 64 69]) (.cond (.t 70) (.seq (.r [.mi 2 4]) .ret) .skip)) (.join [.wk 38 (.list G_Road), .keep [5, 7, 38, 39, 40], .cmp] z0d_C1)))) z0d_C2)))
def z0d_C4 : TC := (.seq (.r [.mi 2 0]) .ret)
def z0d_C5 : TC := (.seq (.r [.b 22 .lss 21 20]) (.seq (.cond (.t 22) .skip (.exit 0)) (.seq (.block 1 (.seq (.r [.ia 23 2 19 21, .lt 24 2 23, .s 4 (.alloc [(I 0), (B false)]), .st 2 4 24]) (.seq (.r [.fa 25 0 4, .lf 26 1 25, .s 27 (.bin .lss (.t 26) (.c (I (-10000)))), .m 28 27, .v 28 (.fa 29 0 4), .v 28 (.lf 30 1
  29), .v 28 (.bi 31 .gtr 30 10000), .pt 32 28 31]) (.cond (.t 32) (.seq (.r [.mi 2 1]) .ret) .skip)))) (.r [.bi 33 .add 21 1, .m 21 33]))))
def z0d_C6 : TC := (.seq (.r [.fa 34 0 1, .lf 35 1 34, .ln 36 35, .m 5 36]) (.seq (.seq (.r [.fa 37 1 1, .lf 38 1 37, .ln 39 38, .mi 40 0]) (.block 2 (.loop z0d_N2 z0d_C3))) z0d_C4))
def z0d_C7 : TC := (.seq (.seq (.r [.fa 18 0 1, .lf 19 1 18, .ln 20 19, .mi 21 0]) (.block 0 (.loop z0d_N1 z0d_C5))) z0d_C6)
def z0d_C8 : TC := (.seq (.r [.bx 1 0, .mi 2 0]) (.seq (.seq (.r [.fa 8 0 1, .lf 9 1 8, .ln 10 9, .bi 11 .gtr 10 64, .m 12 11, .v 12 (.fa 13 1 1), .v 12 (.lf 14 1 13), .v 12 (.ln 15 14), .v 12 (.bi 16 .gtr 15 128), .pt 17 12 16]) (.cond (.t 17) (.seq (.r [.mi 2 2]) .ret) .skip)) (.join [.keep [1], .cmp]
  z0d_C7)))
def z0d_E (N : Nat) : List (Nat × Ent) := [(74, pureE [G_Span, GI, GI] [.bool] (fun x => z0f N x.1 x.2.1 x.2.2))]
def z0d_J2 (N : Nat) (JM n2 : Nat) (x19 : Int) (x20 : List T_Road) (x21 x22 x23 x24 x25 x26 : Int) (x27 x28 : Bool) (x29 x30 x31 x32 : Int) : Option Int := joinN (run (z0d_E N) N 0 z0d_C1) JM ⟨[(5, .int .i64 x19), (7, .ptr 0 0 0), (38, .lst false G_Road x20), (39, .int .i64 x21), (40, .int .i64 x22)], [some (.box 0 [.int .i64 x23, .int .i64 x24, .int .i64 x25, .int .i64 x26, .bool x27, .bool x28, .int .i64 x29, .int .i64 x30, .int .i64 x31, .int .i64 x32])]⟩ (blkK 3 (seqK (run (z0d_E N) N 0 z0d_C2) (seqK (nextL (normI 0 z0d_N2) (loopN (normI 0 z0d_N2) (run (z0d_E N) N 0 z0d_C3) n2)) (blkK 2 (seqK (run (z0d_E N) N 0 z0d_C4) (fin [(.t 2)] [GI]))))))
def z0d_L2 (N : Nat) (n : Nat) (x14 : Int) (x15 : List T_Road) (x16 x17 : Int) : Option Int := loopN (normI 0 z0d_N2) (run (z0d_E N) N 0 z0d_C3) n ⟨[(5, .int .i64 x14), (38, .lst false G_Road x15), (39, .int .i64 x16), (40, .int .i64 x17)], []⟩ (blkK 2 (seqK (run (z0d_E N) N 0 z0d_C4) (fin [(.t 2)] [GI])))
def z0d_L1 (N : Nat) (n : Nat) (x3 : List T_Place) (x4 x5 : Int) (x6 : List T_Place) (x7 : List T_Road) : Option Int := loopN (normI 0 z0d_N1) (run (z0d_E N) N 0 z0d_C5) n ⟨[(1, .ptr 0 0 0), (19, .lst false G_Place x3), (20, .int .i64 x4), (21, .int .i64 x5)], [some (.box 0 [.lst false G_Place x6, .lst false G_Road x7])]⟩ (blkK 0 (seqK (run (z0d_E N) N 0 z0d_C6) (fin [(.t 2)] [GI])))
def z0d_J1 (N : Nat) (JM : Nat) (x1 : List T_Place) (x2 : List T_Road) : Option Int := joinN (run (z0d_E N) N 0 z0d_C7) JM ⟨[(1, .ptr 0 0 0)], [some (.box 0 [.lst false G_Place x1, .lst false G_Road x2])]⟩ (fin [(.t 2)] [GI])
theorem z0d_J2_eq (N : Nat) (JM n2 : Nat) (x19 : Int) (x20 : List T_Road) (x21 x22 x23 x24 x25 x26 : Int) (x27 x28 : Bool) (x29 x30 x31 x32 : Int) : z0d_J2 N (JM + 1) n2 x19 x20 x21 x22 x23 x24 x25 x26 x27 x28 x29 x30 x31 x32 =
 bif (decide (x25 < 1)) then
  some 1
 else
  bif (decide (x25 > 100000)) then
   some 1
  else
   bif (decide (x26 < 1)) then
    some 1
   else
    bif (decide (x26 > 1000)) then
     some 1
    else
     Option.bind (z0f N (x29, x30) 1 262144) fun r33 =>
     bif (!r33) then
      some 1
     else
      Option.bind (z0f N (x31, x32) (-2199023255552) 2199023255552) fun r34 =>
      bif (!r34) then
       some 1
      else
       z0d_L2 N n2 x19 x20 x21 (W (x22 + 1)) := by kernel_rfl
theorem z0d_L2_succ (N : Nat) (n2 : Nat) (x14 : Int) (x15 : List T_Road) (x16 x17 : Int) : z0d_L2 N (n2 + 1) x14 x15 x16 x17 =
 bif (decide (x17 < x16)) then
  bif inB x17 x15.length then
  let v18 := x15.getD x17.toNat D_Road
  bif (decide (v18.1 < 0)) then
   some 4
  else
   bif (decide (v18.1 ≥ x14)) then
    some 4
   else
    bif (decide (v18.2.1 < 0)) then
     some 4
    else
     bif (decide (v18.2.1 ≥ x14)) then
      some 4
     else
      bif (v18.1 == v18.2.1) then
       some 4
      else
       z0d_J2 N N n2 x14 x15 x16 x17 v18.1 v18.2.1 v18.2.2.1 v18.2.2.2.1 v18.2.2.2.2.1 v18.2.2.2.2.2.1 v18.2.2.2.2.2.2.1.1 v18.2.2.2.2.2.2.1.2 v18.2.2.2.2.2.2.2.1 v18.2.2.2.2.2.2.2.2
  else none
 else
  some 0 := by kernel_rfl
theorem z0d_L1_succ (N : Nat) (n1 : Nat) (x3 : List T_Place) (x4 x5 : Int) (x6 : List T_Place) (x7 : List T_Road) : z0d_L1 N (n1 + 1) x3 x4 x5 x6 x7 =
 bif (decide (x5 < x4)) then
  bif inB x5 x3.length then
  bif (decide ((x3.getD x5.toNat D_Place).1 < (-10000))) then
   some 1
  else
   bif (decide ((x3.getD x5.toNat D_Place).1 > 10000)) then
    some 1
   else
    z0d_L1 N n1 x3 x4 (W (x5 + 1)) x6 x7
  else none
 else
  z0d_L2 N N (x6.length : Int) x7 (x7.length : Int) 0 := by kernel_rfl
theorem z0d_J1_eq (N : Nat) (JM : Nat) (x1 : List T_Place) (x2 : List T_Road) : z0d_J1 N (JM + 1) x1 x2 =
 z0d_L1 N N x1 (x1.length : Int) 0 x1 x2 := by kernel_rfl
def z0d (N : Nat) (a0 : T_Mine) : Option Int :=
 bif (decide ((a0.1.length : Int) > 64)) then
  some 2
 else
  bif (decide ((a0.2.length : Int) > 128)) then
   some 2
  else
   z0d_J1 N N a0.1 a0.2
theorem z0d_fn : FnOK Try.prog 70 100 (fun _ : Nat => false) z0d_C8.er [(.t 2)] := fk Try.func70
theorem z0d_envok (N : Nat) : EnvOK Try.prog (z0d_E N) := .cons (pureE_ok (z0f_pure N)) (.nil)
theorem z0d_pure (N : Nat) : PureOK Try.prog 70 [G_Mine] [GI] (fun x => z0d N x) := pu (N := N) z0d_fn (z0d_envok N)
def z0e_C1 : TC := (.seq (.r [.bx 1 0, .mf 2]) (.seq (.r [.lt 3 2 1, .c1 4 70 3, .bi 5 .eql 4 0, .m 2 5]) .ret))
def z0e_E (N : Nat) : List (Nat × Ent) := [(70, pureE [G_Mine] [GI] (fun x => z0d N x))]
def z0e (N : Nat) (a0 : T_Mine) : Option Bool :=
 Option.bind (z0d N a0) fun r1 =>
 some (r1 == 0)
theorem z0e_fn : FnOK Try.prog 56 6 (fun _ : Nat => false) z0e_C1.er [(.t 2)] := fk Try.func56
theorem z0e_envok (N : Nat) : EnvOK Try.prog (z0e_E N) := .cons (pureE_ok (z0d_pure N)) (.nil)
theorem z0e_pure (N : Nat) : PureOK Try.prog 56 [G_Mine] [.bool] (fun x => z0e N x) := pu (N := N) z0e_fn (z0e_envok N)
def z04_N1 : List NS := [.wk 0 (.list GI), .wk 9 (.list GI), .keep [0, 1, 2, 9, 10, 11], .cmp]
def z04_C1 : TC := (.seq (.r [.b 12 .lss 11 10]) (.seq (.cond (.t 12) .skip (.exit 0)) (.seq (.block 1 (.seq (.r [.m 13 11, .ia 14 1 9 11, .lf 15 1 14, .m 7 13, .m 8 15]) (.seq (.r [.m 16 8, .m 17 1, .b 18 .lss 16 17, .m 19 18, .v 19 (.m 20 8), .v 19 (.m 21 2), .v 19 (.b 22 .gtr 20 21), .pt 23 19 22, .m 24 23, .v 24
  (.m 25 7), .v 24 (.bi 26 .gtr 25 0), .v 24 (.m 27 26), .w 27 (.m 28 8), .w 27 (.m 29 0), .w 27 (.m 30 7), .w 27 (.bi 31 .sub 30 1), .w 27 (.ia 32 1 29 31), .w 27 (.lf 33 1 32), .w 27 (.b 34 .leq 28 33), .v 24 (.pf 35 27 34), .pt 36 24 35]) (.cond (.t 36) (.seq (.r [.mf 6]) .ret) .skip)))) (.r [.bi
  37 .add 11 1, .m 11 37]))))
def z04_C2 : TC := (.seq (.r [.mt 6]) .ret)
def z04_C3 : TC := (.seq (.r [.mf 6]) (.seq (.seq (.r [.m 9 0, .ln 10 9, .mi 11 0]) (.block 0 (.loop z04_N1 z04_C1))) z04_C2))
def z04_E (N : Nat) : List (Nat × Ent) := []
def z04_L1 (N : Nat) (n : Nat) (x1 : List Int) (x2 x3 : Int) (x4 : List Int) (x5 x6 : Int) : Option Bool := loopN (normI 0 z04_N1) (run (z04_E N) N 0 z04_C1) n ⟨[(0, .lst false GI x1), (1, .int .i64 x2), (2, .int .i64 x3), (9, .lst false GI x4), (10, .int .i64 x5), (11, .int .i64 x6)], []⟩ (blkK 0 (seqK (run (z04_E N) N 0 z04_C2) (fin [(.t 6)] [.bool])))
theorem z04_L1_succ (N : Nat) (n1 : Nat) (x1 : List Int) (x2 x3 : Int) (x4 : List Int) (x5 x6 : Int) : z04_L1 N (n1 + 1) x1 x2 x3 x4 x5 x6 =
 bif (decide (x6 < x5)) then
  bif inB x6 x4.length then
  bif (decide ((x4.getD x6.toNat 0) < x2)) then
   some false
  else
   bif (decide ((x4.getD x6.toNat 0) > x3)) then
    some false
   else
    bif (decide (x6 > 0)) then
     bif inB (W (x6 - 1)) x1.length then
     bif (decide ((x4.getD x6.toNat 0) ≤ (x1.getD (W (x6 - 1)).toNat 0))) then
      some false
     else
      z04_L1 N n1 x1 x2 x3 x4 x5 (W (x6 + 1))
     else none
    else
     z04_L1 N n1 x1 x2 x3 x4 x5 (W (x6 + 1))
  else none
 else
  some true := by kernel_rfl
def z04 (N : Nat) (a0 : List Int) (a1 : Int) (a2 : Int) : Option Bool :=
 z04_L1 N N a0 a1 a2 a0 (a0.length : Int) 0
theorem z04_fn : FnOK Try.prog 57 38 (fun _ : Nat => false) z04_C3.er [(.t 6)] := fk Try.func57
theorem z04_envok (N : Nat) : EnvOK Try.prog (z04_E N) := .nil
theorem z04_pure (N : Nat) : PureOK Try.prog 57 [(.list GI), GI, GI] [.bool] (fun x => z04 N x.1 x.2.1 x.2.2) := pu (N := N) z04_fn (z04_envok N)
def z03_C1 : TC := (.seq (.r [.mf 6]) (.seq (.r [.m 7 0, .m 8 1, .b 9 .geq 7 8, .m 10 9, .w 10 (.m 11 0), .w 10 (.m 12 2), .w 10 (.b 13 .leq 11 12), .pf 14 10 13, .m 6 14]) .ret))
def z03_E (N : Nat) : List (Nat × Ent) := []
def z03 (N : Nat) (a0 : Int) (a1 : Int) (a2 : Int) : Option Bool :=
 bif (decide (a0 ≥ a1)) then
  some (decide (a0 ≤ a2))
 else
  some false
theorem z03_fn : FnOK Try.prog 58 15 (fun _ : Nat => false) z03_C1.er [(.t 6)] := fk Try.func58
theorem z03_envok (N : Nat) : EnvOK Try.prog (z03_E N) := .nil
theorem z03_pure (N : Nat) : PureOK Try.prog 58 [GI, GI, GI] [.bool] (fun x => z03 N x.1 x.2.1 x.2.2) := pu (N := N) z03_fn (z03_envok N)
def z1f_C1 : TC := (.seq (.r [.bx 2 0, .bx 3 1, .mf 4]) (.seq (.r [.fa 6 0 2, .lf 7 1 6, .ln 8 7, .bi 9 .sub 8 1, .m 5 9]) (.seq (.r [.lt 10 2 2, .c1 11 56 10, .m 12 11, .w 12 (.fa 13 0 3), .w 12 (.lf 14 1 13), .w 12 (.m 15 5), .w 12 (.s 16 (.call (.c (.fn 57 [])) [(.t 14), (.c (I 0)), (.t 15)])), .pf 17 12 16, .m 18
  17, .w 18 (.fa 19 1 3), .w 18 (.lf 20 1 19), .w 18 (.m 21 5), .w 18 (.s 22 (.call (.c (.fn 57 [])) [(.t 20), (.c (I 0)), (.t 21)])), .pf 23 18 22, .m 24 23, .w 24 (.fa 25 2 3), .w 24 (.lf 26 1 25), .w 24 (.fa 27 1 2), .w 24 (.lf 28 1 27), .w 24 (.ln 29 28), .w 24 (.bi 30 .sub 29 1), .w 24 (.s 31
  (.call (.c (.fn 57 [])) [(.t 26), (.c (I 0)), (.t 30)])), .pf 32 24 31, .m 33 32, .w 33 (.fa 34 3 3), .w 33 (.lf 35 1 34), .w 33 (.s 36 (.call (.c (.fn 58 [])) [(.t 35), (.c (I 0)), (.c (I 2147483648))])), .pf 37 33 36, .m 4 37]) .ret)))
def z1f_E (N : Nat) : List (Nat × Ent) := [(56, pureE [G_Mine] [.bool] (fun x => z0e N x)), (57, pureE [(.list GI), GI, GI] [.bool] (fun x => z04 N x.1 x.2.1 x.2.2)), (58, pureE [GI, GI, GI] [.bool] (fun x => z03 N x.1 x.2.1 x.2.2))]
def z1f (N : Nat) (a0 : T_Mine) (a1 : T_Escape) : Option Bool :=
 let v1 := W ((a0.1.length : Int) - 1)
 Option.bind (z0e N a0) fun r2 =>
 bif r2 then
  Option.bind (z04 N a1.1 0 v1) fun r3 =>
  bif r3 then
   Option.bind (z04 N a1.2.1 0 v1) fun r4 =>
   bif r4 then
    Option.bind (z04 N a1.2.2.1 0 (W ((a0.2.length : Int) - 1))) fun r6 =>
    bif r6 then
     Option.bind (z03 N a1.2.2.2 0 2147483648) fun r7 =>
     some r7
    else
     some false
   else
    some false
  else
   some false
 else
  some false
theorem z1f_fn : FnOK Try.prog 34 38 (fun _ : Nat => false) z1f_C1.er [(.t 4)] := fk Try.func34
theorem z1f_envok (N : Nat) : EnvOK Try.prog (z1f_E N) := .cons (pureE_ok (z0e_pure N)) (.cons (pureE_ok (z04_pure N)) (.cons (pureE_ok (z03_pure N)) (.nil)))
theorem z1f_pure (N : Nat) : PureOK Try.prog 34 [G_Mine, G_Escape] [.bool] (fun x => z1f N x.1 x.2) := pu (N := N) z1f_fn (z1f_envok N)
def z1m_C1 : TC := (.seq (.r [.bx 3 0, .bx 4 1, .mf 6]) (.seq (.r [.lt 7 2 3, .lt 8 4 4, .c2 9 34 7 8, .m 10 9, .w 10 (.m 11 2), .w 10 (.fa 12 0 3), .w 10 (.lf 13 1 12), .w 10 (.ln 14 13), .w 10 (.bi 15 .sub 14 1), .w 10 (.s 16 (.call (.c (.fn 58 [])) [(.t 11), (.c (I 0)), (.t 15)])), .pf 17 10 16, .m 6 17]) .ret))
def z1m_E (N : Nat) : List (Nat × Ent) := [(34, pureE [G_Mine, G_Escape] [.bool] (fun x => z1f N x.1 x.2)), (58, pureE [GI, GI, GI] [.bool] (fun x => z03 N x.1 x.2.1 x.2.2))]
def z1m (N : Nat) (a0 : T_Mine) (a1 : T_Escape) (a2 : Int) : Option Bool :=
 Option.bind (z1f N a0 a1) fun r1 =>
 bif r1 then
  Option.bind (z03 N a2 0 (W ((a0.1.length : Int) - 1))) fun r3 =>
  some r3
 else
  some false
theorem z1m_fn : FnOK Try.prog 41 18 (fun _ : Nat => false) z1m_C1.er [(.t 6)] := fk Try.func41
theorem z1m_envok (N : Nat) : EnvOK Try.prog (z1m_E N) := .cons (pureE_ok (z1f_pure N)) (.cons (pureE_ok (z03_pure N)) (.nil))
theorem z1m_pure (N : Nat) : PureOK Try.prog 41 [G_Mine, G_Escape, GI] [.bool] (fun x => z1m N x.1 x.2.1 x.2.2) := pu (N := N) z1m_fn (z1m_envok N)
def z14_N1 : List NS := [.wk 0 (.list GI), .keep [0, 1, 7, 8], .cmp]
def z14_C1 : TC := (.seq (.r [.b 9 .lss 8 7]) (.seq (.cond (.t 9) .skip (.exit 0)) (.seq (.block 1 (.seq (.r [.m 10 8, .m 5 10]) (.seq (.r [.m 11 1, .m 12 0, .m 13 5, .ia 14 1 12 13, .lf 15 1 14, .b 16 .eql 11 15]) (.cond (.t 16) (.seq (.r [.m 17 5, .m 4 17]) .ret) .skip)))) (.r [.bi 18 .add 8 1, .m 8 18]))))
def z14_C2 : TC := (.seq (.r [.s 4 (.mov (.c (I (-1))))]) .ret)
def z14_C3 : TC := (.seq (.r [.mi 4 0]) (.seq (.seq (.r [.m 6 0, .ln 7 6, .mi 8 0]) (.block 0 (.loop z14_N1 z14_C1))) z14_C2))
def z14_E (N : Nat) : List (Nat × Ent) := []
def z14_L1 (N : Nat) (n : Nat) (x1 : List Int) (x2 x3 x4 : Int) : Option Int := loopN (normI 0 z14_N1) (run (z14_E N) N 0 z14_C1) n ⟨[(0, .lst false GI x1), (1, .int .i64 x2), (7, .int .i64 x3), (8, .int .i64 x4)], []⟩ (blkK 0 (seqK (run (z14_E N) N 0 z14_C2) (fin [(.t 4)] [GI])))
theorem z14_L1_succ (N : Nat) (n1 : Nat) (x1 : List Int) (x2 x3 x4 : Int) : z14_L1 N (n1 + 1) x1 x2 x3 x4 =
 bif (decide (x4 < x3)) then
  bif inB x4 x1.length then
  bif (x2 == (x1.getD x4.toNat 0)) then
   some x4
  else
   z14_L1 N n1 x1 x2 x3 (W (x4 + 1))
  else none
 else
  some (-1) := by kernel_rfl
def z14 (N : Nat) (a0 : List Int) (a1 : Int) : Option Int :=
 z14_L1 N N a0 a1 (a0.length : Int) 0
theorem z14_fn : FnOK Try.prog 63 19 (fun _ : Nat => false) z14_C3.er [(.t 4)] := fk Try.func63
theorem z14_envok (N : Nat) : EnvOK Try.prog (z14_E N) := .nil
theorem z14_pure (N : Nat) : PureOK Try.prog 63 [(.list GI), GI] [GI] (fun x => z14 N x.1 x.2) := pu (N := N) z14_fn (z14_envok N)
def z0z_C1 : TC := (.seq (.r [.mf 4]) (.seq (.r [.m 5 0, .m 6 1, .c2 7 63 5 6, .bi 8 .geq 7 0, .m 4 8]) .ret))
def z0z_E (N : Nat) : List (Nat × Ent) := [(63, pureE [(.list GI), GI] [GI] (fun x => z14 N x.1 x.2))]
def z0z (N : Nat) (a0 : List Int) (a1 : Int) : Option Bool :=
 Option.bind (z14 N a0 a1) fun r1 =>
 some (decide (r1 ≥ 0))
theorem z0z_fn : FnOK Try.prog 46 9 (fun _ : Nat => false) z0z_C1.er [(.t 4)] := fk Try.func46
theorem z0z_envok (N : Nat) : EnvOK Try.prog (z0z_E N) := .cons (pureE_ok (z14_pure N)) (.nil)
theorem z0z_pure (N : Nat) : PureOK Try.prog 46 [(.list GI), GI] [.bool] (fun x => z0z N x.1 x.2) := pu (N := N) z0z_fn (z0z_envok N)
def z17_C1 : TC := (.seq (.r [.bx 4 0, .bx 7 3, .mi 8 0]) (.seq (.r [.fa 12 1 4, .lf 13 1 12, .m 14 1, .ia 15 10 13 14, .lt 16 10 15, .s 9 (.alloc [(I 0), (I 0), (I 0), (I 0), (B false), (B false), (I 0), (I 0), (I 0), (I 0)]), .st 10 9 16]) (.seq (.seq (.r [.fa 17 5 9, .lf 18 1 17, .m 19 18, .v 19 (.fa 20 4 9), .v
  19 (.lf 21 1 20), .v 19 (.nt 22 21), .pt 23 19 22]) (.cond (.t 23) (.seq (.r [.s 8 (.mov (.c (I (-1))))]) .ret) .skip)) (.seq (.rg [.fa 24 0 4, .lf 25 1 24, .fa 26 1 9, .lf 27 1 26, .ia 28 2 25 27, .fa 29 0 28, .lf 30 1 29, .fa 31 0 4, .lf 32 1 31, .fa 33 0 9, .lf 34 1 33, .ia 35 2 32 34, .fa 36 0
  35, .lf 37 1 36, .b 38 .sub 30 37, .m 10 38] (some [])) (.seq (.seq (.r [.m 39 2]) (.cond (.t 39) (.r [.m 40 10, .s 41 (.un .neg (.t 40)), .m 10 41]) .skip)) (.seq (.r [.fa 42 2 7, .lf 43 1 42, .m 11 43]) (.seq (.block 0 (.seq (.r [.m 45 10, .s 46 (.bin .mul (.c (I 10)) (.t 45)), .fa 47 2 9, .lf
  48 1 47, .b 49 .gtr 46 48, .m 44 49]) (.cond (.t 44) (.r [.fa 50 0 7, .lf 51 1 50, .m 11 51]) (.seq (.r [.m 53 10, .s 54 (.bin .mul (.c (I (-10))) (.t 53)), .fa 55 2 9, .lf 56 1 55, .b 57 .gtr 54 56, .m 52 57]) (.cond (.t 52) (.r [.fa 58 1 7, .lf 59 1 58, .m 11 59]) .skip))))) (.seq (.r [.fa 60 2
  9, .lf 61 1 60, .s 62 (.bin .mul (.c (I 10)) (.t 61)), .m 63 11, .b 64 .add 62 63, .bi 65 .sub 64 1, .m 66 11, .b 67 .quo 65 66, .m 8 67]) .ret))))))))
def z17_E (N : Nat) : List (Nat × Ent) := []
def z17 (N : Nat) (a0 : T_Mine) (a1 : Int) (a2 : Bool) (a3 : T_pace) : Option Int :=
 bif inB a1 a0.2.length then
 let v1 := a0.2.getD a1.toNat D_Road
 bif v1.2.2.2.2.2.1 then
  some (-1)
 else
  bif (!v1.2.2.2.2.1) then
   some (-1)
  else
   bif inB v1.2.1 a0.1.length then
   let v2 := a0.1.getD v1.2.1.toNat D_Place
   bif inB v1.1 a0.1.length then
   let v3 := a0.1.getD v1.1.toNat D_Place
   bif a2 then
    let v4 := W (0 - (W (v2.1 - v3.1)))
    bif (decide ((W (10 * v4)) > v1.2.2.1)) then
     bif a3.1 == 0 then none else
     some (W ((W ((W ((W (10 * v1.2.2.1)) + a3.1)) - 1)).tdiv a3.1))
    else
     bif (decide ((W ((-10) * v4)) > v1.2.2.1)) then
      bif a3.2.1 == 0 then none else
      some (W ((W ((W ((W (10 * v1.2.2.1)) + a3.2.1)) - 1)).tdiv a3.2.1))
     else
      bif a3.2.2 == 0 then none else
      some (W ((W ((W ((W (10 * v1.2.2.1)) + a3.2.2)) - 1)).tdiv a3.2.2))
   else
    bif (decide ((W (10 * (W (v2.1 - v3.1)))) > v1.2.2.1)) then
     bif a3.1 == 0 then none else
     some (W ((W ((W ((W (10 * v1.2.2.1)) + a3.1)) - 1)).tdiv a3.1))
    else
     bif (decide ((W ((-10) * (W (v2.1 - v3.1)))) > v1.2.2.1)) then
      bif a3.2.1 == 0 then none else
      some (W ((W ((W ((W (10 * v1.2.2.1)) + a3.2.1)) - 1)).tdiv a3.2.1))
     else
      bif a3.2.2 == 0 then none else
      some (W ((W ((W ((W (10 * v1.2.2.1)) + a3.2.2)) - 1)).tdiv a3.2.2))
   else none
   else none
 else none
theorem z17_fn : FnOK Try.prog 64 68 (fun _ : Nat => false) z17_C1.er [(.t 8)] := fk Try.func64
theorem z17_envok (N : Nat) : EnvOK Try.prog (z17_E N) := .nil
theorem z17_pure (N : Nat) : PureOK Try.prog 64 [G_Mine, GI, .bool, G_pace] [GI] (fun x => z17 N x.1 x.2.1 x.2.2.1 x.2.2.2) := pu (N := N) z17_fn (z17_envok N)
def z16_C1 : TC := (.seq (.r [.s 0 (.alloc [(I 0), (I 0), (I 0)])]) (.seq (.r [.s 1 (.build [(I 0), (I 0), (I 0)] [(0, (1, (.c (I 2)))), (1, (1, (.c (I 3)))), (2, (1, (.c (I 4))))]), .st 3 0 1]) .ret))
def z16_E (N : Nat) : List (Nat × Ent) := []
def z16 (N : Nat) : Option T_pace :=
 some (2, (3, 4))
theorem z16_fn : FnOK Try.prog 65 2 (fun _ : Nat => false) z16_C1.er [(.cell 0 true 3)] := fk Try.func65
theorem z16_envok (N : Nat) : EnvOK Try.prog (z16_E N) := .nil
theorem z16_pure (N : Nat) : PureOK Try.prog 65 [] [G_pace] (fun x => z16 N) := pu (N := N) z16_fn (z16_envok N)
def z15_C1 : TC := (.seq (.r [.bx 3 0, .mi 6 0]) (.seq (.seq (.r [.lt 7 2 3, .c1 8 56 7, .nt 9 8, .m 10 9, .v 10 (.m 11 1), .v 10 (.bi 12 .lss 11 0), .pt 13 10 12, .m 14 13, .v 14 (.m 15 1), .v 14 (.fa 16 1 3), .v 14 (.lf 17 1 16), .v 14 (.ln 18 17), .v 14 (.b 19 .geq 15 18), .pt 20 14 19]) (.cond (.t 20) (.seq (.r
  [.s 6 (.mov (.c (I (-1))))]) .ret) .skip)) (.seq (.rg [.lt 21 2 3, .m 22 1, .m 23 2, .s 24 (.call (.c (.fn 65 [])) []), .c4 25 64 21 22 23 24, .m 6 25] (some [(0, 3)])) .ret)))
def z15_E (N : Nat) : List (Nat × Ent) := [(56, pureE [G_Mine] [.bool] (fun x => z0e N x)), (65, pureE [] [G_pace] (fun x => z16 N)), (64, pureE [G_Mine, GI, .bool, G_pace] [GI] (fun x => z17 N x.1 x.2.1 x.2.2.1 x.2.2.2))]
def z15 (N : Nat) (a0 : T_Mine) (a1 : Int) (a2 : Bool) : Option Int :=
 Option.bind (z0e N a0) fun r1 =>
 bif (!r1) then
  some (-1)
 else
  bif (decide (a1 < 0)) then
   some (-1)
  else
   bif (decide (a1 ≥ (a0.2.length : Int))) then
    some (-1)
   else
    Option.bind (z16 N) fun r2 =>
    Option.bind (z17 N a0 a1 a2 r2) fun r3 =>
    some r3
theorem z15_fn : FnOK Try.prog 49 26 (fun _ : Nat => false) z15_C1.er [(.t 6)] := fk Try.func49
theorem z15_envok (N : Nat) : EnvOK Try.prog (z15_E N) := .cons (pureE_ok (z0e_pure N)) (.cons (pureE_ok (z16_pure N)) (.cons (pureE_ok (z17_pure N)) (.nil)))
theorem z15_pure (N : Nat) : PureOK Try.prog 49 [G_Mine, GI, .bool] [GI] (fun x => z15 N x.1 x.2.1 x.2.2) := pu (N := N) z15_fn (z15_envok N)
def z1h_NE : List NS := [.ownc 4 1 G_step, .ownc 4 2 .bool, .ownc 4 3 .bool, .keep [4], .out []]
def z1h_N1 : List NS := [.wk 29 (.list G_Place), .keep [2, 3, 4, 5, 29, 30, 31], .cmp]
def z1h_N2 : List NS := [.wk 44 (.list GI), .keep [2, 3, 4, 5, 44, 45, 46], .cmp]
def z1h_N3 : List NS := [.wk 56 (.list GI), .keep [2, 3, 4, 5, 56, 57, 58], .cmp]
def z1h_N4 : List NS := [.ownc 5 1 G_step, .wk 68 (.list G_Road), .keep [2, 3, 4, 5, 68, 69, 70], .cmp]
def z1h_C1 : TC := (.seq (.r [.b 71 .lss 70 69]) (.seq (.cond (.t 71) .skip (.exit 6)) (.seq (.block 7 (.seq (.r [.m 72 70, .ia 73 10 68 70, .lt 74 10 73, .s 13 (.alloc [(I 0), (I 0), (I 0), (I 0), (B false), (B false), (I 0), (I 0), (I 0), (I 0)]), .m 12 72, .st 10 13 74]) (.seq (.seq (.r [.fa 75 2 3, .lf 76 1 75,
  .m 77 12, .c2 78 46 76 77]) (.cond (.t 78) (.exit 7) .skip)) (.seq (.seq (.r [.lt 79 2 2, .m 80 12, .s 81 (.call (.c (.fn 49 [])) [(.t 79), (.t 80), (.c (B false))]), .m 14 81]) (.seq (.r [.m 82 14, .bi 83 .geq 82 0]) (.cond (.t 83) (.r [.fa 84 1 5, .lf 85 1 84, .m 86 12, .fa 87 0 13, .lf 88 1 87,
  .fa 89 1 13, .lf 90 1 89, .m 91 14, .s 92 (.build [(I 0), (I 0), (I 0), (I 0)] [(0, (1, (.t 86))), (1, (1, (.t 88))), (2, (1, (.t 90))), (3, (1, (.t 91)))]), ⟨⟨some 93, (.bslice false 4 [(I 0), (I 0), (I 0), (I 0)] 1 [(0, (.t 92))]), none⟩, ⟨G_step, none, []⟩⟩, .s 94 (.app 4 32 (.t 85) (.t 93)),
  .fa 95 1 5, .st 1 95 94]) .skip))) (.seq (.r [.lt 96 2 2, .m 97 12, .s 98 (.call (.c (.fn 49 [])) [(.t 96), (.t 97), (.c (B true))]), .m 15 98]) (.seq (.r [.m 99 15, .bi 100 .geq 99 0]) (.cond (.t 100) (.r [.fa 101 1 5, .lf 102 1 101, .m 103 12, .fa 104 1 13, .lf 105 1 104, .fa 106 0 13, .lf 107 1
  106, .m 108 15, .s 109 (.build [(I 0), (I 0), (I 0), (I 0)] [(0, (1, (.t 103))), (1, (1, (.t 105))), (2, (1, (.t 107))), (3, (1, (.t 108)))]), ⟨⟨some 110, (.bslice false 4 [(I 0), (I 0), (I 0), (I 0)] 1 [(0, (.t 109))]), none⟩, ⟨G_step, none, []⟩⟩, .s 111 (.app 4 32 (.t 102) (.t 110)), .fa 112 1
  5, .st 1 112 111]) .skip))))))) (.r [.bi 113 .add 70 1, .m 70 113]))))
def z1h_C2 : TC := (.seq (.r [.lt 114 4 5, .st 4 4 114]) (.pre [.ownc 4 1 G_step, .ownc 4 2 .bool, .ownc 4 3 .bool, .keep [4], .out []] .ret))
def z1h_C3 : TC := (.seq (.r [.b 59 .lss 58 57]) (.seq (.cond (.t 59) .skip (.exit 4)) (.seq (.block 5 (.seq (.r [.ia 60 1 56 58, .lf 61 1 60, .m 11 61]) (.r [.fa 62 3 5, .lf 63 1 62, .m 64 11, .ia 65 1 63 64, .d (.store 1 (.t 65) (.c (B true)))]))) (.r [.bi 66 .add 58 1, .m 58 66]))))
def z1h_C4 : TC := (.seq (.seq (.r [.fa 67 1 2, .lf 68 1 67, .ln 69 68, .mi 70 0]) (.block 6 (.loop z1h_N4 z1h_C1))) z1h_C2)
def z1h_C5 : TC := (.seq (.r [.b 47 .lss 46 45]) (.seq (.cond (.t 47) .skip (.exit 2)) (.seq (.block 3 (.seq (.r [.ia 48 1 44 46, .lf 49 1 48, .m 9 49]) (.r [.fa 50 2 5, .lf 51 1 50, .m 52 9, .ia 53 1 51 52, .d (.store 1 (.t 53) (.c (B true)))]))) (.r [.bi 54 .add 46 1, .m 46 54]))))
def z1h_C6 : TC := (.seq (.seq (.r [.fa 55 1 3, .lf 56 1 55, .ln 57 56, .mi 58 0]) (.block 4 (.loop z1h_N3 z1h_C3))) z1h_C4)
def z1h_C7 : TC := (.seq (.r [.b 32 .lss 31 30]) (.seq (.cond (.t 32) .skip (.exit 0)) (.seq (.block 1 (.seq (.r [.m 33 31, .ia 34 2 29 31, .lt 35 2 34, .s 7 (.alloc [(I 0), (B false)]), .m 6 33, .st 2 7 35]) (.r [.fa 36 2 5, .lf 37 1 36, .m 38 6, .fa 39 1 7, .lf 40 1 39, .ia 41 1 37 38, .st 1 41 40]))) (.r [.bi 42
  .add 31 1, .m 31 42]))))
def z1h_C8 : TC := (.seq (.seq (.r [.fa 43 0 3, .lf 44 1 43, .ln 45 44, .mi 46 0]) (.block 2 (.loop z1h_N2 z1h_C5))) z1h_C6)
def z1h_C9 : TC := (.seq (.r [.bx 2 0, .bx 3 1, .s 4 (.alloc [(I 0), (.lst true []), (.lst true []), (.lst true [])])]) (.seq (.pre [.wait, .wait, .wait] (.rg [.fa 16 0 2, .lf 17 1 16, .ln 18 17, .fa 19 0 2, .lf 20 1 19, .ln 21 20, ⟨⟨some 22, (.mksl 1 1 [(B false)] (.t 21) (.t 21)), none⟩, ⟨.bool, some 3, []⟩⟩, .fa
  23 0 2, .lf 24 1 23, .ln 25 24, ⟨⟨some 26, (.mksl 1 1 [(B false)] (.t 25) (.t 25)), none⟩, ⟨.bool, some 4, []⟩⟩, .s 27 (.build [(I 0), (.lst true []), (.lst true []), (.lst true [])] [(0, (1, (.t 18))), (2, (1, (.t 22))), (3, (1, (.t 26)))]), ⟨⟨some 5, (.alloc [(I 0), (.lst true []), (.lst true
  []), (.lst true [])]), none⟩, ⟨.unit, some 5, []⟩⟩, .st 4 5 27] (some [(0, 6), (1, 6), (2, 6), (6, 7), (6, 8), (6, 9), (0, 10), (1, 10), (2, 10), (3, 10), (4, 10), (5, 10), (6, 10), (0, 12), (1, 12), (2, 12), (3, 12), (4, 12), (5, 12), (6, 12), (7, 12), (8, 12), (9, 12), (10, 12)]))) (.seq (.seq
  (.r [.fa 28 0 2, .lf 29 1 28, .ln 30 29, .mi 31 0]) (.block 0 (.loop z1h_N1 z1h_C7))) z1h_C8)))
def z1h_E (N : Nat) : List (Nat × Ent) := [(46, pureE [(.list GI), GI] [.bool] (fun x => z0z N x.1 x.2)), (49, pureE [G_Mine, GI, .bool] [GI] (fun x => z15 N x.1 x.2.1 x.2.2))]
def z1h_L4 (N : Nat) (n : Nat) (x85 : List T_Road) (x86 x87 : Int) (x88 : List T_Place) (x89 : List T_Road) (x90 x91 x92 : List Int) (x93 x94 x95 : Int) (x96 : List T_step) (x97 x98 : List Bool) : Option (T_finder × Unit) := loopN (normI 0 z1h_N4) (run (z1h_E N) N 0 z1h_C1) n ⟨[(2, .ptr 0 0 0), (3, .ptr 1 0 0), (4, .ptr 2 0 0), (5, .ptr 3 0 0), (68, .lst false G_Road x85), (69, .int .i64 x86), (70, .int .i64 x87)], [some (.box 0 [.lst false G_Place x88, .lst false G_Road x89]), some (.box 0 [.lst false GI x90, .lst false GI x91, .lst false GI x92, .int .i64 x93]), some (.box 0 [.int .i64 x94, .nil, .nil, .nil]), some (.box 1 [.int .i64 x95, .whole 4, .whole 5, .whole 6]), some (.arr G_step x96), some (.arr .bool x97), some (.arr .bool x98)]⟩ (blkK 6 (seqK (run (z1h_E N) N 0 z1h_C2) (finS z1h_NE [(.cell 4 true 4)] [.v G_Mine, .v G_Escape] [.o (.p (.v GI) (.p (.a G_step) (.p (.a .bool) (.a .bool))))] 0 0)))
def z1h_L3 (N : Nat) (n : Nat) (x58 : List Int) (x59 x60 : Int) (x61 : List T_Place) (x62 : List T_Road) (x63 x64 x65 : List Int) (x66 x67 x68 : Int) (x69 x70 : List Bool) : Option (T_finder × Unit) := loopN (normI 0 z1h_N3) (run (z1h_E N) N 0 z1h_C3) n ⟨[(2, .ptr 0 0 0), (3, .ptr 1 0 0), (4, .ptr 2 0 0), (5, .ptr 3 0 0), (56, .lst false GI x58), (57, .int .i64 x59), (58, .int .i64 x60)], [some (.box 0 [.lst false G_Place x61, .lst false G_Road x62]), some (.box 0 [.lst false GI x63, .lst false GI x64, .lst false GI x65, .int .i64 x66]), some (.box 0 [.int .i64 x67, .nil, .nil, .nil]), some (.box 1 [.int .i64 x68, .nil, .whole 4, .whole 5]), some (.arr .bool x69), some (.arr .bool x70)]⟩ (blkK 4 (seqK (run (z1h_E N) N 0 z1h_C4) (finS z1h_NE [(.cell 4 true 4)] [.v G_Mine, .v G_Escape] [.o (.p (.v GI) (.p (.a G_step) (.p (.a .bool) (.a .bool))))] 0 0)))
def z1h_L2 (N : Nat) (n : Nat) (x31 : List Int) (x32 x33 : Int) (x34 : List T_Place) (x35 : List T_Road) (x36 x37 x38 : List Int) (x39 x40 x41 : Int) (x42 x43 : List Bool) : Option (T_finder × Unit) := loopN (normI 0 z1h_N2) (run (z1h_E N) N 0 z1h_C5) n ⟨[(2, .ptr 0 0 0), (3, .ptr 1 0 0), (4, .ptr 2 0 0), (5, .ptr 3 0 0), (44, .lst false GI x31), (45, .int .i64 x32), (46, .int .i64 x33)], [some (.box 0 [.lst false G_Place x34, .lst false G_Road x35]), some (.box 0 [.lst false GI x36, .lst false GI x37, .lst false GI x38, .int .i64 x39]), some (.box 0 [.int .i64 x40, .nil, .nil, .nil]), some (.box 1 [.int .i64 x41, .nil, .whole 4, .whole 5]), some (.arr .bool x42), some (.arr .bool x43)]⟩ (blkK 2 (seqK (run (z1h_E N) N 0 z1h_C6) (finS z1h_NE [(.cell 4 true 4)] [.v G_Mine, .v G_Escape] [.o (.p (.v GI) (.p (.a G_step) (.p (.a .bool) (.a .bool))))] 0 0)))
def z1h_L1 (N : Nat) (n : Nat) (x3 : List T_Place) (x4 x5 : Int) (x6 : List T_Place) (x7 : List T_Road) (x8 x9 x10 : List Int) (x11 x12 x13 : Int) (x14 x15 : List Bool) : Option (T_finder × Unit) := loopN (normI 0 z1h_N1) (run (z1h_E N) N 0 z1h_C7) n ⟨[(2, .ptr 0 0 0), (3, .ptr 1 0 0), (4, .ptr 2 0 0), (5, .ptr 3 0 0), (29, .lst false G_Place x3), (30, .int .i64 x4), (31, .int .i64 x5)], [some (.box 0 [.lst false G_Place x6, .lst false G_Road x7]), some (.box 0 [.lst false GI x8, .lst false GI x9, .lst false GI x10, .int .i64 x11]), some (.box 0 [.int .i64 x12, .nil, .nil, .nil]), some (.box 1 [.int .i64 x13, .nil, .whole 4, .whole 5]), some (.arr .bool x14), some (.arr .bool x15)]⟩ (blkK 0 (seqK (run (z1h_E N) N 0 z1h_C8) (finS z1h_NE [(.cell 4 true 4)] [.v G_Mine, .v G_Escape] [.o (.p (.v GI) (.p (.a G_step) (.p (.a .bool) (.a .bool))))] 0 0)))
theorem z1h_L4_succ (N : Nat) (n4 : Nat) (x85 : List T_Road) (x86 x87 : Int) (x88 : List T_Place) (x89 : List T_Road) (x90 x91 x92 : List Int) (x93 x94 x95 : Int) (x96 : List T_step) (x97 x98 : List Bool) : z1h_L4 N (n4 + 1) x85 x86 x87 x88 x89 x90 x91 x92 x93 x94 x95 x96 x97 x98 =
 bif (decide (x87 < x86)) then
  bif inB x87 x85.length then
  let v99 := x85.getD x87.toNat D_Road
  Option.bind (z0z N x92 x87) fun r100 =>
  bif r100 then
   z1h_L4 N n4 x85 x86 (W (x87 + 1)) x88 x89 x90 x91 x92 x93 x94 x95 x96 x97 x98
  else
   Option.bind (z15 N (x88, x89) x87 false) fun r115 =>
   bif (decide (r115 ≥ 0)) then
    bif fitsB (x96.length + 1) 32 then
    let v116 := x96 ++ [(x87, (v99.1, (v99.2.1, r115)))]
    Option.bind (z15 N (x88, x89) x87 true) fun r117 =>
    bif (decide (r117 ≥ 0)) then
     bif fitsB (v116.length + 1) 32 then
     z1h_L4 N n4 x85 x86 (W (x87 + 1)) x88 x89 x90 x91 x92 x93 x94 x95 (v116 ++ [(x87, (v99.2.1, (v99.1, r117)))]) x97 x98
     else none
    else
     z1h_L4 N n4 x85 x86 (W (x87 + 1)) x88 x89 x90 x91 x92 x93 x94 x95 v116 x97 x98
    else none
   else
    Option.bind (z15 N (x88, x89) x87 true) fun r147 =>
    bif (decide (r147 ≥ 0)) then
     bif fitsB (x96.length + 1) 32 then
     z1h_L4 N n4 x85 x86 (W (x87 + 1)) x88 x89 x90 x91 x92 x93 x94 x95 (x96 ++ [(x87, (v99.2.1, (v99.1, r147)))]) x97 x98
     else none
    else
     z1h_L4 N n4 x85 x86 (W (x87 + 1)) x88 x89 x90 x91 x92 x93 x94 x95 x96 x97 x98
  else none
 else
  some ((x95, (x96, (x97, x98))), ()) := by kernel_rfl
theorem z1h_L3_succ (N : Nat) (n3 : Nat) (x58 : List Int) (x59 x60 : Int) (x61 : List T_Place) (x62 : List T_Road) (x63 x64 x65 : List Int) (x66 x67 x68 : Int) (x69 x70 : List Bool) : z1h_L3 N (n3 + 1) x58 x59 x60 x61 x62 x63 x64 x65 x66 x67 x68 x69 x70 =
 bif (decide (x60 < x59)) then
  bif inB x60 x58.length then
  bif inB (x58.getD x60.toNat 0) x70.length then
  z1h_L3 N n3 x58 x59 (W (x60 + 1)) x61 x62 x63 x64 x65 x66 x67 x68 x69 (x70.set ((x58.getD x60.toNat 0).toNat) true)
  else none
  else none
 else
  z1h_L4 N N x62 (x62.length : Int) 0 x61 x62 x63 x64 x65 x66 x67 x68 [] x69 x70 := by kernel_rfl
theorem z1h_L2_succ (N : Nat) (n2 : Nat) (x31 : List Int) (x32 x33 : Int) (x34 : List T_Place) (x35 : List T_Road) (x36 x37 x38 : List Int) (x39 x40 x41 : Int) (x42 x43 : List Bool) : z1h_L2 N (n2 + 1) x31 x32 x33 x34 x35 x36 x37 x38 x39 x40 x41 x42 x43 =
 bif (decide (x33 < x32)) then
  bif inB x33 x31.length then
  bif inB (x31.getD x33.toNat 0) x42.length then
  z1h_L2 N n2 x31 x32 (W (x33 + 1)) x34 x35 x36 x37 x38 x39 x40 x41 (x42.set ((x31.getD x33.toNat 0).toNat) true) x43
  else none
  else none
 else
  z1h_L3 N N x37 (x37.length : Int) 0 x34 x35 x36 x37 x38 x39 x40 x41 x42 x43 := by kernel_rfl
theorem z1h_L1_succ (N : Nat) (n1 : Nat) (x3 : List T_Place) (x4 x5 : Int) (x6 : List T_Place) (x7 : List T_Road) (x8 x9 x10 : List Int) (x11 x12 x13 : Int) (x14 x15 : List Bool) : z1h_L1 N (n1 + 1) x3 x4 x5 x6 x7 x8 x9 x10 x11 x12 x13 x14 x15 =
 bif (decide (x5 < x4)) then
  bif inB x5 x3.length then
  bif inB x5 x14.length then
  z1h_L1 N n1 x3 x4 (W (x5 + 1)) x6 x7 x8 x9 x10 x11 x12 x13 (x14.set x5.toNat (x3.getD x5.toNat D_Place).2) x15
  else none
  else none
 else
  z1h_L2 N N x8 (x8.length : Int) 0 x6 x7 x8 x9 x10 x11 x12 x13 x14 x15 := by kernel_rfl
def z1h (N : Nat) (a0 : T_Mine) (a1 : T_Escape) : Option (T_finder × Unit) :=
 bif mkB 1 (a0.1.length : Int) (a0.1.length : Int) then
 bif mkB 1 (a0.1.length : Int) (a0.1.length : Int) then
 z1h_L1 N N a0.1 (a0.1.length : Int) 0 a0.1 a0.2 a1.1 a1.2.1 a1.2.2.1 a1.2.2.2 0 (a0.1.length : Int) (List.replicate (a0.1.length : Int).toNat false) (List.replicate (a0.1.length : Int).toNat false)
 else none
 else none
theorem z1h_fn : FnOK Try.prog 42 115 (fun _ : Nat => false) z1h_C9.er [(.cell 4 true 4)] := fk Try.func42
theorem z1h_envok (N : Nat) : EnvOK Try.prog (z1h_E N) := .cons (pureE_ok (z0z_pure N)) (.cons (pureE_ok (z15_pure N)) (.nil))
theorem z1h_sf (N : Nat) : SFOK Try.prog 42 [none, none] [.v G_Mine, .v G_Escape] [.o (.p (.v GI) (.p (.a G_step) (.p (.a .bool) (.a .bool))))] (fun x => z1h N x.1 x.2) := sfOK (N := N) (p := 0) (q := 0) (ns := z1h_NE) mixed z1h_fn (z1h_envok N) (TC.noh_ok (by kernel_rfl)) rfl rfl rfl (fun x => by kernel_rfl)
def z1l_C1 : TC := (.seq (.r [.bx 2 0, .bx 3 1, .mf 4]) (.seq (.r [.fa 5 2 2, .lf 6 1 5, .fa 7 1 3, .lf 8 1 7, .ia 9 1 6 8, .lf 10 1 9, .nt 11 10, .m 12 11, .w 12 (.fa 13 3 2), .w 12 (.lf 14 1 13), .w 12 (.fa 15 2 3), .w 12 (.lf 16 1 15), .w 12 (.ia 17 1 14 16), .w 12 (.lf 18 1 17), .w 12 (.nt 19 18), .pf 20 12 19,
  .m 4 20]) .ret))
def z1l_E (N : Nat) : List (Nat × Ent) := []
def z1l (N : Nat) (a0 : T_finder) (a1 : T_step) : Option Bool :=
 bif inB a1.2.1 a0.2.2.1.length then
 bif (!(a0.2.2.1.getD a1.2.1.toNat false)) then
  bif inB a1.2.2.1 a0.2.2.2.length then
  some (!(a0.2.2.2.getD a1.2.2.1.toNat false))
  else none
 else
  some false
 else none
theorem z1l_fn : FnOK Try.prog 45 21 (fun _ : Nat => false) z1l_C1.er [(.t 4)] := fk Try.func45
theorem z1l_envok (N : Nat) : EnvOK Try.prog (z1l_E N) := .nil
theorem z1l_pure (N : Nat) : PureOK Try.prog 45 [G_finder, G_step] [.bool] (fun x => z1l N x.1 x.2) := pu (N := N) z1l_fn (z1l_envok N)
def z1g_C1 : TC := (.seq (.r [.bx 2 0, .bx 3 1, .mf 4]) (.seq (.r [.fa 5 0 2, .lf 6 1 5, .fa 7 0 3, .lf 8 1 7, .b 9 .lss 6 8, .m 10 9, .v 10 (.fa 11 0 2), .v 10 (.lf 12 1 11), .v 10 (.fa 13 0 3), .v 10 (.lf 14 1 13), .v 10 (.b 15 .eql 12 14), .v 10 (.m 16 15), .w 16 (.fa 17 1 2), .w 16 (.lf 18 1 17), .w 16 (.fa 19 1
  3), .w 16 (.lf 20 1 19), .w 16 (.b 21 .lss 18 20), .v 10 (.pf 22 16 21), .pt 23 10 22, .m 4 23]) .ret))
def z1g_E (N : Nat) : List (Nat × Ent) := []
def z1g (N : Nat) (a0 : T_Span) (a1 : T_Span) : Option Bool :=
 bif (decide (a0.1 < a1.1)) then
  some true
 else
  bif (a0.1 == a1.1) then
   some (decide (a0.2 < a1.2))
  else
   some false
theorem z1g_fn : FnOK Try.prog 72 24 (fun _ : Nat => false) z1g_C1.er [(.t 4)] := fk Try.func72
theorem z1g_envok (N : Nat) : EnvOK Try.prog (z1g_E N) := .nil
theorem z1g_pure (N : Nat) : PureOK Try.prog 72 [G_Span, G_Span] [.bool] (fun x => z1g N x.1 x.2) := pu (N := N) z1g_fn (z1g_envok N)
def z1k_N1 : List NS := [.wk 3 (.list G_Span), .keep [1, 3, 13, 14], .cmp]
def z1k_N2 : List NS := [.wk 3 (.list G_Span), .keep [1, 3, 5], .cmp]
def z1k_N3 : List NS := [.wk 3 (.list G_Span), .wk 30 (.list G_step), .keep [1, 3, 5, 30, 31, 32], .cmp]
def z1k_C1 : TC := (.seq (.r [.b 33 .lss 32 31]) (.seq (.cond (.t 33) .skip (.exit 4)) (.seq (.block 5 (.seq (.r [.ia 34 4 30 32, .lt 35 4 34, .s 7 (.alloc [(I 0), (I 0), (I 0), (I 0)]), .st 4 7 35]) (.seq (.pre [.wait] (.rg [.m 36 3, .fa 37 2 7, .lf 38 1 37, .ia 39 2 36 38, .fa 40 0 39, .lf 41 1 40, .fa 42 3 7, .lf
  43 1 42, .b 44 .add 41 43, .m 45 3, .fa 46 2 7, .lf 47 1 46, .ia 48 2 45 47, .fa 49 1 48, .lf 50 1 49, .bi 51 .add 50 1, .s 52 (.build [(I 0), (I 0)] [(0, (1, (.t 44))), (1, (1, (.t 51)))]), ⟨⟨some 8, (.alloc [(I 0), (I 0)]), none⟩, ⟨.unit, some 3, []⟩⟩, .st 2 8 52] (some [(1, 17), (2, 17), (3,
  17), (4, 17), (5, 17), (6, 17), (7, 17), (10, 17), (11, 17), (12, 17), (13, 17), (14, 17)]))) (.seq (.rg [.lt 53 4 1, .lt 54 4 7, .c2 55 45 53 54, .m 56 55, .w 56 (.m 57 3), .w 56 (.fa 58 2 7), .w 56 (.lf 59 1 58), .w 56 (.ia 60 2 57 59), .w 56 (.fa 61 0 60), .w 56 (.lf 62 1 61), .w 56 (.bi 63
  .lss 62 1152921504606846976), .pf 64 56 63, .m 65 64, .w 65 (.lt 66 2 8), .w 65 (.m 67 3), .w 65 (.fa 68 1 7), .w 65 (.lf 69 1 68), .w 65 (.ia 70 2 67 69), .w 65 (.lt 71 2 70), .w 65 (.c2 72 72 66 71), .pf 73 65 72] (some [])) (.cond (.t 73) (.r [.m 74 3, .fa 75 1 7, .lf 76 1 75, .lt 77 2 8, .ia
  78 2 74 76, .st 2 78 77, .mt 5]) .skip))))) (.r [.bi 79 .add 32 1, .m 32 79]))))
def z1k_C2 : TC := (.seq (.seq (.r [.m 28 5]) (.cond (.t 28) .skip (.exit 2))) (.block 3 (.seq (.r [.mf 5]) (.seq (.r [.fa 29 1 1, .lf 30 1 29, .ln 31 30, .mi 32 0]) (.block 4 (.loop z1k_N3 z1k_C1))))))
def z1k_C3 : TC := (.seq (.r [.m 80 3, .m 2 80]) (.pre [.frz 2] .ret))
def z1k_C4 : TC := (.seq (.r [.b 15 .lss 14 13]) (.seq (.cond (.t 15) .skip (.exit 0)) (.seq (.block 1 (.seq (.r [.m 16 14, .m 4 16]) (.seq (.r [.fa 17 2 1, .lf 18 1 17, .m 19 4, .ia 20 1 18 19, .lf 21 1 20, .nt 22 21]) (.cond (.t 22) (.r [.m 23 3, .m 24 4, .ia 25 2 23 24, .fa 26 0 25, .d (.store 1 (.t 26) (.c (I
  1152921504606846976)))]) .skip)))) (.r [.bi 27 .add 14 1, .m 14 27]))))
def z1k_C5 : TC := (.seq (.seq (.r [.mt 5]) (.block 2 (.loop z1k_N2 z1k_C2))) z1k_C3)
def z1k_C6 : TC := (.seq (.r [.bx 1 0, .mn 2]) (.seq (.r [.fa 9 0 1, .lf 10 1 9, ⟨⟨some 11, (.mksl 2 16 [(I 0), (I 0)] (.t 10) (.t 10)), none⟩, ⟨G_Span, none, []⟩⟩, .m 3 11]) (.seq (.seq (.r [.m 12 3, .ln 13 12, .mi 14 0]) (.block 0 (.loop z1k_N1 z1k_C4))) z1k_C5)))
def z1k_E (N : Nat) : List (Nat × Ent) := [(45, pureE [G_finder, G_step] [.bool] (fun x => z1l N x.1 x.2)), (72, pureE [G_Span, G_Span] [.bool] (fun x => z1g N x.1 x.2))]
def z1k_L3 (N : Nat) (n2 : Nat) (n : Nat) (x31 : Bool) (x32 : List T_step) (x33 x34 x35 : Int) (x36 : List T_step) (x37 x38 : List Bool) (x39 : List T_Span) : Option (List T_Span) := loopN (normI 0 z1k_N3) (run (z1k_E N) N 0 z1k_C1) n ⟨[(1, .ptr 0 0 0), (3, .whole 1), (5, .bool x31), (30, .lst false G_step x32), (31, .int .i64 x33), (32, .int .i64 x34)], [some (.box 0 [.int .i64 x35, .lst false G_step x36, .lst false .bool x37, .lst false .bool x38]), some (.arr G_Span x39)]⟩ (blkK 4 (blkK 3 (seqK (nextL (normI 0 z1k_N2) (loopN (normI 0 z1k_N2) (run (z1k_E N) N 0 z1k_C2) n2)) (blkK 2 (seqK (run (z1k_E N) N 0 z1k_C3) (fin [(.t 2)] [(.list G_Span)]))))))
def z1k_L2 (N : Nat) (n : Nat) (x25 : Bool) (x26 : Int) (x27 : List T_step) (x28 x29 : List Bool) (x30 : List T_Span) : Option (List T_Span) := loopN (normI 0 z1k_N2) (run (z1k_E N) N 0 z1k_C2) n ⟨[(1, .ptr 0 0 0), (3, .whole 1), (5, .bool x25)], [some (.box 0 [.int .i64 x26, .lst false G_step x27, .lst false .bool x28, .lst false .bool x29]), some (.arr G_Span x30)]⟩ (blkK 2 (seqK (run (z1k_E N) N 0 z1k_C3) (fin [(.t 2)] [(.list G_Span)])))
def z1k_L1 (N : Nat) (n : Nat) (x2 x3 x4 : Int) (x5 : List T_step) (x6 x7 : List Bool) (x8 : List T_Span) : Option (List T_Span) := loopN (normI 0 z1k_N1) (run (z1k_E N) N 0 z1k_C4) n ⟨[(1, .ptr 0 0 0), (3, .whole 1), (13, .int .i64 x2), (14, .int .i64 x3)], [some (.box 0 [.int .i64 x4, .lst false G_step x5, .lst false .bool x6, .lst false .bool x7]), some (.arr G_Span x8)]⟩ (blkK 0 (seqK (run (z1k_E N) N 0 z1k_C5) (fin [(.t 2)] [(.list G_Span)])))
theorem z1k_L3_succ (N : Nat) (n2 : Nat) (n3 : Nat) (x31 : Bool) (x32 : List T_step) (x33 x34 x35 : Int) (x36 : List T_step) (x37 x38 : List Bool) (x39 : List T_Span) : z1k_L3 N n2 (n3 + 1) x31 x32 x33 x34 x35 x36 x37 x38 x39 =
 bif (decide (x34 < x33)) then
  bif inB x34 x32.length then
  let v40 := x32.getD x34.toNat D_step
  bif inB v40.2.2.1 x39.length then
  let v41 := x39.getD v40.2.2.1.toNat D_Span
  bif inB v40.2.2.1 x39.length then
  let v42 := x39.getD v40.2.2.1.toNat D_Span
  Option.bind (z1l N (x35, (x36, (x37, x38))) v40) fun r43 =>
  bif r43 then
   bif inB v40.2.2.1 x39.length then
   bif (decide ((x39.getD v40.2.2.1.toNat D_Span).1 < 1152921504606846976)) then
    bif inB v40.2.1 x39.length then
    Option.bind (z1g N (W (v41.1 + v40.2.2.2), W (v42.2 + 1)) (x39.getD v40.2.1.toNat D_Span)) fun r46 =>
    bif r46 then
     bif inB v40.2.1 x39.length then
     z1k_L3 N n2 n3 true x32 x33 (W (x34 + 1)) x35 x36 x37 x38 (x39.set v40.2.1.toNat (W (v41.1 + v40.2.2.2), W (v42.2 + 1)))
     else none
    else
     z1k_L3 N n2 n3 x31 x32 x33 (W (x34 + 1)) x35 x36 x37 x38 x39
    else none
   else
    z1k_L3 N n2 n3 x31 x32 x33 (W (x34 + 1)) x35 x36 x37 x38 x39
   else none
  else
   z1k_L3 N n2 n3 x31 x32 x33 (W (x34 + 1)) x35 x36 x37 x38 x39
  else none
  else none
  else none
 else
  z1k_L2 N n2 x31 x35 x36 x37 x38 x39 := by kernel_rfl
theorem z1k_L2_succ (N : Nat) (n2 : Nat) (x25 : Bool) (x26 : Int) (x27 : List T_step) (x28 x29 : List Bool) (x30 : List T_Span) : z1k_L2 N (n2 + 1) x25 x26 x27 x28 x29 x30 =
 bif x25 then
  z1k_L3 N n2 N false x27 (x27.length : Int) 0 x26 x27 x28 x29 x30
 else
  some x30 := by kernel_rfl
theorem z1k_L1_succ (N : Nat) (n1 : Nat) (x2 x3 x4 : Int) (x5 : List T_step) (x6 x7 : List Bool) (x8 : List T_Span) : z1k_L1 N (n1 + 1) x2 x3 x4 x5 x6 x7 x8 =
 bif (decide (x3 < x2)) then
  bif inB x3 x6.length then
  bif (!(x6.getD x3.toNat false)) then
   bif inB x3 x8.length then
   z1k_L1 N n1 x2 (W (x3 + 1)) x4 x5 x6 x7 (x8.set x3.toNat (1152921504606846976, (x8.getD x3.toNat D_Span).2))
   else none
  else
   z1k_L1 N n1 x2 (W (x3 + 1)) x4 x5 x6 x7 x8
  else none
 else
  z1k_L2 N N true x4 x5 x6 x7 x8 := by kernel_rfl
def z1k (N : Nat) (a0 : T_finder) : Option (List T_Span) :=
 bif mkB 16 a0.1 a0.1 then
 let v1 := List.replicate a0.1.toNat (0, 0)
 z1k_L1 N N (v1.length : Int) 0 a0.1 a0.2.1 a0.2.2.1 a0.2.2.2 v1
 else none
theorem z1k_fn : FnOK Try.prog 66 81 (fun _ : Nat => false) z1k_C6.er [(.t 2)] := fk Try.func66
theorem z1k_envok (N : Nat) : EnvOK Try.prog (z1k_E N) := .cons (pureE_ok (z1l_pure N)) (.cons (pureE_ok (z1g_pure N)) (.nil))
theorem z1k_pure (N : Nat) : PureOK Try.prog 66 [G_finder] [(.list G_Span)] (fun x => z1k N x) := pu (N := N) z1k_fn (z1k_envok N)
def z1j_NE : List NS := [.frzo 1, .frzo 2, .keep [5], .out [0, 1, 2]]
def z1j_C1 : TC := (.seq (.r [.bx 4 0, .mf 5]) (.seq (.rg [.fa 6 1 4, .lf 7 1 6, .lf 8 1 1, .b 9 .eql 7 8, .m 10 9, .w 10 (.lt 11 4 2), .w 10 (.lt 12 4 4), .w 10 (.c2 13 45 11 12), .pf 14 10 13, .m 15 14, .w 15 (.lf 16 1 3), .w 15 (.fa 17 2 4), .w 15 (.lf 18 1 17), .w 15 (.ia 19 2 16 18), .w 15 (.lt 20 2 19), .w 15
  (.lf 21 1 3), .w 15 (.lf 22 1 1), .w 15 (.ia 23 2 21 22), .w 15 (.fa 24 0 23), .w 15 (.lf 25 1 24), .w 15 (.fa 26 3 4), .w 15 (.lf 27 1 26), .w 15 (.b 28 .sub 25 27), .w 15 (.lf 29 1 3), .w 15 (.lf 30 1 1), .w 15 (.ia 31 2 29 30), .w 15 (.fa 32 1 31), .w 15 (.lf 33 1 32), .w 15 (.bi 34 .sub 33 1),
  .w 15 (.s 35 (.build [(I 0), (I 0)] [(0, (1, (.t 28))), (1, (1, (.t 34)))])), .w 15 (.s 36 (.eqa false [(0, 1), (1, 1)] (.t 20) (.t 35))), .pf 37 15 36, .m 5 37] (some [])) (.pre [.frzo 1, .frzo 2, .keep [5], .out [0, 1, 2]] .ret)))
def z1j_E (N : Nat) : List (Nat × Ent) := [(45, pureE [G_finder, G_step] [.bool] (fun x => z1l N x.1 x.2))]
def z1j (N : Nat) (a0 : T_step) (a1 : Int) (a2 : T_finder) (a3 : List T_Span) : Option (Bool × (Int × T_finder × List T_Span)) :=
 bif (a0.2.1 == a1) then
  Option.bind (z1l N a2 a0) fun r1 =>
  bif r1 then
   bif inB a0.2.2.1 a3.length then
   let v2 := a3.getD a0.2.2.1.toNat D_Span
   bif inB a1 a3.length then
   bif inB a1 a3.length then
   some (((v2.1 == (W ((a3.getD a1.toNat D_Span).1 - a0.2.2.2))) && (v2.2 == (W ((a3.getD a1.toNat D_Span).2 - 1)))), (a1, a2, a3))
   else none
   else none
   else none
  else
   some (false, (a1, a2, a3))
 else
  some (false, (a1, a2, a3))
theorem z1j_fn : FnOK Try.prog 67 38 (fun _ : Nat => false) z1j_C1.er [(.t 5)] := fk Try.func67
theorem z1j_envok (N : Nat) : EnvOK Try.prog (z1j_E N) := .cons (pureE_ok (z1l_pure N)) (.nil)
theorem z1j_sf (N : Nat) : SFOK Try.prog 67 [none, none, none, none] [.v G_step, .b (.v GI), .b (.v G_finder), .b (.v (.list G_Span))] [.v .bool] (fun x => z1j N x.1 x.2.1 x.2.2.1 x.2.2.2) := sfOK (N := N) (p := 3) (q := 3) (ns := z1j_NE) mixed z1j_fn (z1j_envok N) (TC.noh_ok (by kernel_rfl)) rfl rfl rfl (fun x => by kernel_rfl)
def z11_NE : List NS := [.frzo 1, .frzo 2, .keep [4], .out [0, 1, 2]]
def z11_N1 : List NS := [.wk 0 (.list G_step), .keep [0, 1, 7, 8], .cmp]
def z11_C1 : TC := (.seq (.r [.b 9 .lss 8 7]) (.seq (.cond (.t 9) .skip (.exit 0)) (.seq (.block 1 (.seq (.r [.m 10 8, .m 5 10]) (.seq (.r [.m 11 1, .m 12 0, .m 13 5, .ia 14 4 12 13, .lt 15 4 14, .s 16 (.call (.t 11) [(.t 15)])]) (.cond (.t 16) (.seq (.r [.m 17 5, .m 4 17]) (.pre [.frzo 1, .frzo 2, .keep [4], .out
  [0, 1, 2]] .ret)) .skip)))) (.r [.bi 18 .add 8 1, .m 8 18]))))
def z11_C2 : TC := (.seq (.r [.s 4 (.mov (.c (I (-1))))]) (.pre [.frzo 1, .frzo 2, .keep [4], .out [0, 1, 2]] .ret))
def z11_C3 : TC := (.seq (.r [.mi 4 0]) (.seq (.seq (.r [.m 6 0, .ln 7 6, .mi 8 0]) (.block 0 (.loop z11_N1 z11_C1))) z11_C2))
def z11_E (N : Nat) : List (Nat × Ent) := [(67, sfE [none, none, none, none] [.v G_step, .b (.v GI), .b (.v G_finder), .b (.v (.list G_Span))] [.v .bool] (fun x => z1j N x.1 x.2.1 x.2.2.1 x.2.2.2))]
def z11_L1 (N : Nat) (n : Nat) (x1 : List T_step) (x2 x3 x4 x5 : Int) (x6 : List T_step) (x7 x8 : List Bool) (x9 : List T_Span) : Option (Int × (Int × T_finder × List T_Span)) := loopN (normI 3 z11_N1) (run (z11_E N) N 3 z11_C1) n ⟨[(0, .lst false G_step x1), (1, .fn 67 [.ptr 0 0 0, .ptr 1 0 0, .ptr 2 0 0]), (7, .int .i64 x2), (8, .int .i64 x3)], [some (.box 0 [.int .i64 x4]), some (.box 0 [.int .i64 x5, .lst false G_step x6, .lst false .bool x7, .lst false .bool x8]), some (.box 0 [.lst false G_Span x9])]⟩ (blkK 0 (seqK (run (z11_E N) N 3 z11_C2) (finS z11_NE [(.t 4)] [.v (.list G_step), .b (.v GI), .b (.v G_finder), .b (.v (.list G_Span))] [.v GI] 3 3)))
theorem z11_L1_succ (N : Nat) (n1 : Nat) (x1 : List T_step) (x2 x3 x4 x5 : Int) (x6 : List T_step) (x7 x8 : List Bool) (x9 : List T_Span) : z11_L1 N (n1 + 1) x1 x2 x3 x4 x5 x6 x7 x8 x9 =
 bif (decide (x3 < x2)) then
  bif inB x3 x1.length then
  Option.bind (z1j N (x1.getD x3.toNat D_step) x4 (x5, (x6, (x7, x8))) x9) fun r11 =>
  bif r11.1 then
   some (x3, (r11.2.1, r11.2.2.1, r11.2.2.2))
  else
   z11_L1 N n1 x1 x2 (W (x3 + 1)) r11.2.1 r11.2.2.1.1 r11.2.2.1.2.1 r11.2.2.1.2.2.1 r11.2.2.1.2.2.2 r11.2.2.2
  else none
 else
  some ((-1), (x4, (x5, (x6, (x7, x8))), x9)) := by kernel_rfl
def z11 (N : Nat) (a0 : List T_step) (a1 : Int) (a2 : T_finder) (a3 : List T_Span) : Option (Int × (Int × T_finder × List T_Span)) :=
 z11_L1 N N a0 (a0.length : Int) 0 a1 a2.1 a2.2.1 a2.2.2.1 a2.2.2.2 a3
theorem z11_fn : FnOK Try.prog 43 19 (fun _ : Nat => false) z11_C3.er [(.t 4)] := fk Try.func43
theorem z11_envok (N : Nat) : EnvOK Try.prog (z11_E N) := .cons (sfE_ok (z1j_sf N)) (.nil)
theorem z11_sf (N : Nat) : SFOK Try.prog 43 [none, some (67, 3)] [.v (.list G_step), .b (.v GI), .b (.v G_finder), .b (.v (.list G_Span))] [.v GI] (fun x => z11 N x.1 x.2.1 x.2.2.1 x.2.2.2) := sfOK (N := N) (p := 3) (q := 3) (ns := z11_NE) mixed z11_fn (z11_envok N) (TC.noh_ok (by kernel_rfl)) rfl rfl rfl (fun x => by kernel_rfl)
def z1i_NE : List NS := [.own 4 GI, .own 6 GI, .keep [4, 6, 5, 7], .out []]
def z1i_N1 : List NS := [.own 4 GI, .own 6 GI, .keep [1, 2, 4, 6, 8, 9], .cmp]
def z1i_C1 : TC := (.seq (.seq (.r [.fa 22 2 2, .lf 23 1 22, .lf 24 1 9, .ia 25 1 23 24, .lf 26 1 25, .nt 27 26]) (.cond (.t 27) .skip (.exit 0))) (.seq (.block 1 (.seq (.r [.fa 28 1 2, .lf 29 1 28, .s 30 (.mkfn 67 [(.t 9), (.t 2), (.t 8)]), .c2 31 43 29 30, .m 10 31]) (.seq (.r [.fa 32 1 2, .lf 33 1 32, .m 34 10,
  .ia 35 4 33 34, .fa 36 2 35, .lf 37 1 36, .st 1 9 37]) (.rg [.m 38 4, .fa 39 1 2, .lf 40 1 39, .m 41 10, .ia 42 4 40 41, .fa 43 0 42, .lf 44 1 43, ⟨⟨some 45, (.bslice false 1 [(I 0)] 1 [(0, (.t 44))]), none⟩, ⟨GI, none, []⟩⟩, .s 46 (.app 1 8 (.t 38) (.t 45)), .m 47 6, .lf 48 1 9, ⟨⟨some
  49, (.bslice false 1 [(I 0)] 1 [(0, (.t 48))]), none⟩, ⟨GI, none, []⟩⟩, .s 50 (.app 1 8 (.t 47) (.t 49)), .m 4 46, .m 6 50] (some [(8, 10)]))))) (.seq (.r [.lf 51 1 9]) (.r [.s 9 (.alloc [(I 0)]), .st 1 9 51]))))
def z1i_C2 : TC := (.seq (.rg [.m 52 4, .lf 53 1 8, .m 54 1, .ia 55 2 53 54, .fa 56 0 55, .lf 57 1 56, .m 58 6, .m 4 52, .m 5 57, .m 6 58, .mt 7] (some [])) (.pre [.own 4 GI, .own 6 GI, .keep [4, 6, 5, 7], .out []] .ret))
def z1i_C3 : TC := (.seq (.r [.bx 2 0, .mn 4, .mi 5 0, .mn 6, .mf 7]) (.seq (.r [.lt 11 4 2, .c1 12 66 11, .s 8 (.alloc [(.lst true [])]), .st 1 8 12]) (.seq (.seq (.r [.lf 13 1 8, .m 14 1, .ia 15 2 13 14, .fa 16 0 15, .lf 17 1 16, .bi 18 .geq 17 1152921504606846976]) (.cond (.t 18) (.seq (.r [.mn 4, .mi 5 0, .mn 6,
  .mf 7]) (.pre [.own 4 GI, .own 6 GI, .keep [4, 6, 5, 7], .out []] .ret)) .skip)) (.seq (.r [.m 19 1, ⟨⟨some 20, (.bslice true 1 [(I 0)] 1 [(0, (.t 19))]), none⟩, ⟨GI, none, []⟩⟩, .m 6 20]) (.seq (.seq (.r [.m 21 1, .s 9 (.alloc [(I 0)]), .st 1 9 21]) (.block 0 (.loop
  z1i_N1 z1i_C1))) z1i_C2)))))
def z1i_E (N : Nat) : List (Nat × Ent) := [(66, pureE [G_finder] [(.list G_Span)] (fun x => z1k N x)), (43, sfE [none, some (67, 3)] [.v (.list G_step), .b (.v GI), .b (.v G_finder), .b (.v (.list G_Span))] [.v GI] (fun x => z11 N x.1 x.2.1 x.2.2.1 x.2.2.2))]
def z1i_L1 (N : Nat) (n : Nat) (x3 x4 : Int) (x5 : List T_step) (x6 x7 : List Bool) (x8 x9 : List Int) (x10 : List T_Span) (x11 : Int) : Option (((List Int) × Int × (List Int) × Bool) × Unit) := loopN (normI 0 z1i_N1) (run (z1i_E N) N 0 z1i_C1) n ⟨[(1, .int .i64 x3), (2, .ptr 0 0 0), (4, .whole 1), (6, .whole 2), (8, .ptr 3 0 0), (9, .ptr 4 0 0)], [some (.box 0 [.int .i64 x4, .lst false G_step x5, .lst false .bool x6, .lst false .bool x7]), some (.arr GI x8), some (.arr GI x9), some (.box 0 [.lst false G_Span x10]), some (.box 0 [.int .i64 x11])]⟩ (blkK 0 (seqK (run (z1i_E N) N 0 z1i_C2) (finS z1i_NE [(.t 4), (.t 5), (.t 6), (.t 7)] [.v G_finder, .v GI] [.o (.a GI), .v GI, .o (.a GI), .v .bool] 0 0)))
theorem z1i_L1_succ (N : Nat) (n1 : Nat) (x3 x4 : Int) (x5 : List T_step) (x6 x7 : List Bool) (x8 x9 : List Int) (x10 : List T_Span) (x11 : Int) : z1i_L1 N (n1 + 1) x3 x4 x5 x6 x7 x8 x9 x10 x11 =
 bif inB x11 x6.length then
 bif (!(x6.getD x11.toNat false)) then
  Option.bind (z11 N x5 x11 (x4, (x5, (x6, x7))) x10) fun r12 =>
  bif inB r12.1 r12.2.2.1.2.1.length then
  let v13 := r12.2.2.1.2.1.getD r12.1.toNat D_step
  bif inB r12.1 r12.2.2.1.2.1.length then
  bif fitsB (x8.length + 1) 8 then
  bif fitsB (x9.length + 1) 8 then
  z1i_L1 N n1 x3 r12.2.2.1.1 r12.2.2.1.2.1 r12.2.2.1.2.2.1 r12.2.2.1.2.2.2 (x8 ++ [(r12.2.2.1.2.1.getD r12.1.toNat D_step).1]) (x9 ++ [v13.2.2.1]) r12.2.2.2 v13.2.2.1
  else none
  else none
  else none
  else none
 else
  bif inB x3 x10.length then
  some ((x8, (x10.getD x3.toNat D_Span).1, x9, true), ())
  else none
 else none := by kernel_rfl
def z1i (N : Nat) (a0 : T_finder) (a1 : Int) : Option (((List Int) × Int × (List Int) × Bool) × Unit) :=
 Option.bind (z1k N a0) fun r1 =>
 bif inB a1 r1.length then
 bif (decide ((r1.getD a1.toNat D_Span).1 ≥ 1152921504606846976)) then
  some (([], 0, [], false), ())
 else
  z1i_L1 N N a1 a0.1 a0.2.1 a0.2.2.1 a0.2.2.2 [] [a1] r1 a1
 else none
theorem z1i_fn : FnOK Try.prog 50 59 (fun t : Nat => Nat.beq t 20) z1i_C3.er [(.t 4), (.t 5), (.t 6), (.t 7)] := fk Try.func50
theorem z1i_envok (N : Nat) : EnvOK Try.prog (z1i_E N) := .cons (pureE_ok (z1k_pure N)) (.cons (sfE_ok (z11_sf N)) (.nil))
theorem z1i_sf (N : Nat) : SFOK Try.prog 50 [none, none] [.v G_finder, .v GI] [.o (.a GI), .v GI, .o (.a GI), .v .bool] (fun x => z1i N x.1 x.2) := sfOK (N := N) (p := 0) (q := 0) (ns := z1i_NE) mixed z1i_fn (z1i_envok N) (TC.noh_ok (by kernel_rfl)) rfl rfl rfl (fun x => by kernel_rfl)
def z1o_C1 : TC := (.seq (.r [.bx 2 0, .mf 3]) (.seq (.r [.lf 4 1 1, .fa 5 0 2, .lf 6 1 5, .c2 7 46 4 6, .m 3 7]) .ret))
def z1o_E (N : Nat) : List (Nat × Ent) := [(46, pureE [(.list GI), GI] [.bool] (fun x => z0z N x.1 x.2))]
def z1o (N : Nat) (a0 : T_step) (a1 : List Int) : Option Bool :=
 Option.bind (z0z N a1 a0.1) fun r1 =>
 some r1
theorem z1o_fn : FnOK Try.prog 62 8 (fun _ : Nat => false) z1o_C1.er [(.t 3)] := fk Try.func62
theorem z1o_envok (N : Nat) : EnvOK Try.prog (z1o_E N) := .cons (pureE_ok (z0z_pure N)) (.nil)
theorem z1o_pr (N : Nat) : PrOK Try.prog 62 [.v G_step, .rd (.list GI)] [.bool] (fun x => z1o N x.1 x.2) := prOK (ps := [.v G_step, .rd (.list GI)]) (N := N) mixed z1o_fn (z1o_envok N) (TC.noh_ok (by kernel_rfl)) rfl (fun x => by kernel_rfl)
def z12_N1 : List NS := [.wk 0 (.list G_step), .keep [0, 1, 7, 8], .cmp]
def z12_C1 : TC := (.seq (.r [.b 9 .lss 8 7]) (.seq (.cond (.t 9) .skip (.exit 0)) (.seq (.block 1 (.seq (.r [.m 10 8, .m 5 10]) (.seq (.r [.m 11 1, .m 12 0, .m 13 5, .ia 14 4 12 13, .lt 15 4 14, .s 16 (.call (.t 11) [(.t 15)])]) (.cond (.t 16) (.seq (.r [.m 17 5, .m 4 17]) .ret) .skip)))) (.r [.bi 18 .add 8 1, .m 8
  18]))))
def z12_C2 : TC := (.seq (.r [.s 4 (.mov (.c (I (-1))))]) .ret)
def z12_C3 : TC := (.seq (.r [.mi 4 0]) (.seq (.seq (.r [.m 6 0, .ln 7 6, .mi 8 0]) (.block 0 (.loop z12_N1 z12_C1))) z12_C2))
def z12_E (N : Nat) : List (Nat × Ent) := [(62, prE [.v G_step, .rd (.list GI)] [.bool] (fun x => z1o N x.1 x.2))]
def z12_L1 (N : Nat) (n : Nat) (x1 : List T_step) (x2 : List Int) (x3 x4 : Int) : Option Int := loopN (normI 0 z12_N1) (run (z12_E N) N 0 z12_C1) n ⟨[(0, .lst false G_step x1), (1, .fn 62 [.rp [.lst false GI x2]]), (7, .int .i64 x3), (8, .int .i64 x4)], []⟩ (blkK 0 (seqK (run (z12_E N) N 0 z12_C2) (fin [(.t 4)] [GI])))
theorem z12_L1_succ (N : Nat) (n1 : Nat) (x1 : List T_step) (x2 : List Int) (x3 x4 : Int) : z12_L1 N (n1 + 1) x1 x2 x3 x4 =
 bif (decide (x4 < x3)) then
  bif inB x4 x1.length then
  Option.bind (z1o N (x1.getD x4.toNat D_step) x2) fun r6 =>
  bif r6 then
   some x4
  else
   z12_L1 N n1 x1 x2 x3 (W (x4 + 1))
  else none
 else
  some (-1) := by kernel_rfl
def z12 (N : Nat) (a0 : List T_step) (a1 : List Int) : Option Int :=
 z12_L1 N N a0 a1 (a0.length : Int) 0
theorem z12_fn : FnOK Try.prog 43 19 (fun _ : Nat => false) z12_C3.er [(.t 4)] := fk Try.func43
theorem z12_envok (N : Nat) : EnvOK Try.prog (z12_E N) := .cons (prE_ok (z1o_pr N)) (.nil)
theorem z12_pr (N : Nat) : PrOK Try.prog 43 [.v (.list G_step), .c 62 (.list GI)] [GI] (fun x => z12 N x.1 x.2) := prOK (ps := [.v (.list G_step), .c 62 (.list GI)]) (N := N) mixed z12_fn (z12_envok N) (TC.noh_ok (by kernel_rfl)) rfl (fun x => by kernel_rfl)
def z10_NE : List NS := [.own 4 G_step, .keep [4], .out []]
def z10_N1 : List NS := [.wk 0 (.list G_step), .keep [0, 1, 5, 6], .out []]
def z10_C1 : TC := (.seq (.seq (.r [.m 16 6, .m 17 0, .ln 18 17, .b 19 .lss 16 18]) (.cond (.t 19) .skip (.exit 0))) (.seq (.block 1 (.seq (.r [.m 22 0, .m 23 6, .ia 24 4 22 23, .lt 25 4 24, .s 7 (.alloc [(I 0), (I 0), (I 0), (I 0)]), .st 4 7 25]) (.seq (.r [.m 26 1, .lt 27 4 7, .s 28 (.call (.t 26) [(.t 27)]), .nt
  29 28]) (.cond (.t 29) (.seq (.r [.m 30 0, .m 31 5, .lt 32 4 7, .ia 33 4 30 31, .st 4 33 32]) (.r [.m 34 5, .bi 35 .add 34 1, .m 5 35])) .skip)))) (.r [.m 20 6, .bi 21 .add 20 1, .m 6 21])))
def z10_C2 : TC := (.seq (.r [.m 36 0, .m 37 5, .s 38 (.slc 4 (.t 36) (some (.t 37)) none), .d (.clr 4 [(I 0), (I 0), (I 0), (I 0)] (.t 38))]) (.seq (.r [.m 39 0, .m 40 5, .s 41 (.slc 4 (.t 39) none (some (.t 40))), .m 4 41]) (.pre [.own 4 G_step, .keep [4], .out []] .ret)))
def z10_C3 : TC := (.seq (.r [.mn 4]) (.seq (.r [.m 8 0, .m 9 1, .c2 10 43 8 9, .m 5 10]) (.seq (.seq (.r [.m 11 5, .s 12 (.bin .eql (.t 11) (.c (I (-1))))]) (.cond (.t 12) (.seq (.r [.m 13 0, .m 4 13]) (.pre [.own 4 G_step, .keep [4], .out []] .ret)) .skip)) (.seq (.seq (.r [.m 14 5, .bi 15 .add 14 1, .m 6 15])
  (.block 0 (.loop z10_N1 z10_C1))) z10_C2))))
def z10_E (N : Nat) : List (Nat × Ent) := [(43, lendE (prE [.v (.list G_step), .c 62 (.list GI)] [GI] (fun x => z12 N x.1 x.2))), (62, prE [.v G_step, .rd (.list GI)] [.bool] (fun x => z1o N x.1 x.2))]
def z10_L1 (N : Nat) (n : Nat) (x2 : List Int) (x3 x4 : Int) (x5 : List T_step) : Option (List T_step) := loopN (normI 1 z10_N1) (run (z10_E N) N 1 z10_C1) n ⟨[(0, .whole 1), (1, .fn 62 [.rp [.lst false GI x2]]), (5, .int .i64 x3), (6, .int .i64 x4)], [none, some (.arr G_step x5)]⟩ (blkK 0 (seqK (run (z10_E N) N 1 z10_C2) (finR z10_NE [(.t 4)] [.o (.a G_step)])))
theorem z10_L1_succ (N : Nat) (n1 : Nat) (x2 : List Int) (x3 x4 : Int) (x5 : List T_step) : z10_L1 N (n1 + 1) x2 x3 x4 x5 =
 bif (decide (x4 < (x5.length : Int))) then
  bif inB x4 x5.length then
  Option.bind (z1o N (x5.getD x4.toNat D_step) x2) fun r7 =>
  bif (!r7) then
   bif inB x3 x5.length then
   z10_L1 N n1 x2 (W (x3 + 1)) (W (x4 + 1)) (x5.set x3.toNat (x5.getD x4.toNat D_step))
   else none
  else
   z10_L1 N n1 x2 x3 (W (x4 + 1)) x5
  else none
 else
  bif slB x3 x5.length x5.length then
  let v17 := x5.take x3.toNat ++ List.replicate ((x5.length : Int).toNat - x3.toNat) (0, (0, (0, 0))) ++ x5.drop (x3.toNat + ((x5.length : Int).toNat - x3.toNat))
  bif slB 0 x3 v17.length then
  some ((v17.drop ((0 : Int).toNat)).take (x3.toNat - (0 : Int).toNat))
  else none
  else none := by kernel_rfl
def z10 (N : Nat) (a0 : List T_step) (a1 : List Int) : Option (List T_step) :=
 Option.bind (z12 N a0 a1) fun r1 =>
 bif (r1 == (-1)) then
  some a0
 else
  z10_L1 N N a1 r1 (W (r1 + 1)) a0
theorem z10_fn : FnOK Try.prog 61 42 (fun _ : Nat => false) z10_C3.er [(.t 4)] := fk Try.func61
theorem z10_envok (N : Nat) : EnvOK Try.prog (z10_E N) := .cons (lendE_ok (prE_ok (z12_pr N))) (.cons (prE_ok (z1o_pr N)) (.nil))
theorem z10_rq (N : Nat) : RqOK Try.prog 61 G_step [.c 62 (.list GI)] [.o (.a G_step)] (fun l y => z10 N l y) := rqOK (t := G_step) (ps := [.c 62 (.list GI)]) (rk := [.o (.a G_step)]) (N := N) (ns := z10_NE) mixed z10_fn (z10_envok N) (TC.noh_ok (by kernel_rfl)) rfl (fun l y => by kernel_rfl)
def z1n_N1 : List NS := [.wk 44 (.list GI), .keep [2, 6, 8, 10, 44, 45, 46], .cmp]
def z1n_C1 : TC := (.seq (.r [.b 47 .lss 46 45]) (.seq (.cond (.t 47) .skip (.exit 0)) (.seq (.block 1 (.seq (.r [.ia 48 1 44 46, .lf 49 1 48, .m 14 49]) (.r [.fa 50 3 10, .lf 51 1 50, .m 52 14, .ia 53 1 51 52, .d (.store 1 (.t 53) (.c (B true)))]))) (.r [.bi 54 .add 46 1, .m 46 54]))))
def z1n_C2 : TC := (.seq (.rgw [([.fa 55 1 10, .lf 56 1 55, .s 57 (.mkfn 62 [(.t 6)])], [.frzb 6]), ([.c2 58 61 56 57, .fa 59 1 10, .st 1 59 58], [])]) (.seq (.r [.lt 61 4 10, .m 62 2, .c2 63 50 61 62, .m 60 63, .ex 64 0 60, .ex 65 1 60, .ex 66 2 60, .ex 67 3 60, .m 7 64, .s 68 (.iadrA 1 2 (.t 8) (.c (I 1))), .st 1
  68 65, .m 9 67]) (.seq (.seq (.r [.m 69 9, .nt 70 69]) (.cond (.t 70) (.seq (.rg [.lt 71 2 8, .d (.store 1 (.t 6) (.c (.lst true []))), .mn 7, .st 2 8 71, .mf 9] (some [(0, 1)])) (.pre [.frzb 6, .frz 7] .ret)) .skip)) (.seq (.rg [.lf 72 1 6, .m 73 7, .lt 74 2 8, .st 1 6 72, .m 7 73, .st 2 8 74,
  .mt 9] (some [(2, 3)])) (.pre [.frzb 6, .frz 7] .ret)))))
def z1n_C3 : TC := (.seq (.r [.bx 3 0, .bx 4 1, .s 6 (.alloc [(.lst true [])]), .mn 7, .s 8 (.alloc [(I 0), (I 0)]), .mf 9]) (.seq (.seq (.r [.lt 15 2 3, .lt 16 4 4, .m 17 2, .c3 18 41 15 16 17, .nt 19 18]) (.cond (.t 19) (.seq (.rg [.lt 20 2 8, .d (.store 1 (.t 6) (.c (.lst true []))), .mn 7, .st 2 8 20, .mf 9]
  (some [(0, 1)])) (.pre [.frzb 6, .frz 7] .ret)) .skip)) (.seq (.r [.lt 21 2 3, .lt 22 4 4, .c2 23 42 21 22, .s 10 (.alloc [(I 0), (.lst true []), (.lst true []), (.lst true [])]), .st 4 10 23]) (.seq (.seq (.r [.fa 24 2 10, .lf 25 1 24, .m 26 2, .ia 27 1 25 26, .lf 28 1 27]) (.cond (.t 28) (.seq
  (.rg [.lt 29 2 8, .d (.store 1 (.t 6) (.c (.lst true []))), .mn 7, .st 2 8 29, .mt 9] (some [(0, 1)])) (.pre [.frzb 6, .frz 7] .ret)) .skip)) (.seq (.r [.lt 31 4 10, .m 32 2, .c2 33 50 31 32, .m 30 33, .ex 34 0 30, .ex 35 1 30, .ex 36 2 30, .ex 37 3 30, .st 1 6 34, .m 11 35, .m 12 36, .m 9 37])
  (.seq (.seq (.r [.m 38 9, .nt 39 38]) (.cond (.t 39) (.seq (.rg [.lt 40 2 8, .d (.store 1 (.t 6) (.c (.lst true []))), .mn 7, .st 2 8 40, .mf 9] (some [(0, 1)])) (.pre [.frzb 6, .frz 7] .ret)) .skip)) (.seq (.r [.m 41 11, .s 42 (.iadrA 1 2 (.t 8) (.c (I 0))), .st 1 42 41]) (.seq (.seq (.r [.m 43
  12, .s 44 (.slc 1 (.t 43) (some (.c (I 1))) none), .ln 45 44, .mi 46 0]) (.block 0 (.loop z1n_N1 z1n_C1))) z1n_C2))))))))
def z1n_E (N : Nat) : List (Nat × Ent) := [(41, pureE [G_Mine, G_Escape, GI] [.bool] (fun x => z1m N x.1 x.2.1 x.2.2)), (42, sfE [none, none] [.v G_Mine, .v G_Escape] [.o (.p (.v GI) (.p (.a G_step) (.p (.a .bool) (.a .bool))))] (fun x => z1h N x.1 x.2)), (50, lendE (sfE [none, none] [.v G_finder, .v GI] [.o (.a GI), .v GI, .o (.a GI), .v .bool] (fun x => z1i N x.1 x.2))), (61, rpE (rqE G_step [.c 62 (.list GI)] [.o (.a G_step)] (fun l y => z10 N l y)))]
def z1n_L1 (N : Nat) (n : Nat) (x5 : Int) (x6 x7 : Nat) (x8 x9 x10 x11 x12 : Int) (x13 x14 : List Int) (x15 : List T_step) (x16 x17 : List Bool) : Option ((List Int) × (List Int) × T_Span × Bool) := loopN (normI 0 z1n_N1) (run (z1n_E N) N 0 z1n_C1) n ⟨[(2, .int .i64 x5), (6, .ptr 0 0 0), (8, .ptr 1 0 0), (10, .ptr 2 0 0), (44, .part 3 x6 x7), (45, .int .i64 x8), (46, .int .i64 x9)], [some (.box 0 [.whole 4]), some (.box 0 [.int .i64 x10, .int .i64 x11]), some (.box 0 [.int .i64 x12, .whole 5, .whole 6, .whole 7]), some (.arr GI x13), some (.arr GI x14), some (.arr G_step x15), some (.arr .bool x16), some (.arr .bool x17)]⟩ (blkK 0 (seqK (run (z1n_E N) N 0 z1n_C2) (fin [(.cell 6 false 1), (.t 7), (.cell 8 true 2), (.t 9)] [(.list GI), (.list GI), G_Span, .bool])))
theorem z1n_L1_succ (N : Nat) (n1 : Nat) (x5 : Int) (x6 x7 : Nat) (x8 x9 x10 x11 x12 : Int) (x13 x14 : List Int) (x15 : List T_step) (x16 x17 : List Bool) : z1n_L1 N (n1 + 1) x5 x6 x7 x8 x9 x10 x11 x12 x13 x14 x15 x16 x17 =
 bif (decide (x9 < x8)) then
  bif inB x9 x7 then
  let v18 := x13.getD (x6 + x9.toNat) 0
  bif inB v18 x17.length then
  z1n_L1 N n1 x5 x6 x7 x8 (W (x9 + 1)) x10 x11 x12 x13 x14 x15 x16 (x17.set v18.toNat true)
  else none
  else none
 else
  Option.bind (z10 N x15 x14) fun r33 =>
  Option.bind (z1i N (x12, (r33, (x16, x17))) x5) fun r34 =>
  bif (!r34.1.2.2.2) then
   some ([], [], (x10, r34.1.2.1), false)
  else
   some (x14, r34.1.1, (x10, r34.1.2.1), true) := by kernel_rfl
def z1n (N : Nat) (a0 : T_Mine) (a1 : T_Escape) (a2 : Int) : Option ((List Int) × (List Int) × T_Span × Bool) :=
 Option.bind (z1m N a0 a1 a2) fun r1 =>
 bif (!r1) then
  some ([], [], (0, 0), false)
 else
  Option.bind (z1h N a0 a1) fun r2 =>
  bif inB a2 r2.1.2.2.1.length then
  bif (r2.1.2.2.1.getD a2.toNat false) then
   some ([], [], (0, 0), true)
  else
   Option.bind (z1i N r2.1 a2) fun r4 =>
   bif (!r4.1.2.2.2) then
    some ([], [], (0, 0), false)
   else
    bif slB 1 r4.1.2.2.1.length r4.1.2.2.1.length then
    z1n_L1 N N a2 ((1 : Int).toNat) ((r4.1.2.2.1.length : Int).toNat - (1 : Int).toNat) ((((r4.1.2.2.1.length : Int).toNat - (1 : Int).toNat) : Nat) : Int) 0 r4.1.2.1 0 r2.1.1 r4.1.2.2.1 r4.1.1 r2.1.2.1 r2.1.2.2.1 r2.1.2.2.2
    else none
  else none
theorem z1n_fn : FnOK Try.prog 40 75 (fun _ : Nat => false) z1n_C3.er [(.cell 6 false 1), (.t 7), (.cell 8 true 2), (.t 9)] := fk Try.func40
theorem z1n_envok (N : Nat) : EnvOK Try.prog (z1n_E N) := .cons (pureE_ok (z1m_pure N)) (.cons (sfE_ok (z1h_sf N)) (.cons (lendE_ok (sfE_ok (z1i_sf N))) (.cons (rpE_ok (rqE_ok (z10_rq N))) (.nil))))
theorem z1n_pure (N : Nat) : PureOK Try.prog 40 [G_Mine, G_Escape, GI] [(.list GI), (.list GI), G_Span, .bool] (fun x => z1n N x.1 x.2.1 x.2.2) := pu (N := N) z1n_fn (z1n_envok N)
def z1e_C1 : TC := (.seq (.r [.bx 3 0, .bx 4 1, .mn 6, .mn 7, .mf 8]) (.seq (.r [.lt 14 2 3, .lt 15 4 4, .m 16 2, .c3 17 40 14 15 16, .m 13 17, .ex 18 0 13, .ex 19 1 13, .ex 20 2 13, .ex 21 3 13, .s 11 (.alloc [(I 0), (I 0)]), .m 9 18, .m 10 19, .st 2 11 20, .m 12 21]) (.seq (.r [.m 22 9, .m 23 10, .m 24 12, .m 6 22,
  .m 7 23, .m 8 24]) (.pre [.frz 6, .frz 7] .ret))))
def z1e_E (N : Nat) : List (Nat × Ent) := [(40, pureE [G_Mine, G_Escape, GI] [(.list GI), (.list GI), G_Span, .bool] (fun x => z1n N x.1 x.2.1 x.2.2))]
def z1e (N : Nat) (a0 : T_Mine) (a1 : T_Escape) (a2 : Int) : Option ((List Int) × (List Int) × Bool) :=
 Option.bind (z1n N a0 a1 a2) fun r1 =>
 some (r1.1, r1.2.1, r1.2.2.2)
theorem z1e_fn : FnOK Try.prog 18 25 (fun _ : Nat => false) z1e_C1.er [(.t 6), (.t 7), (.t 8)] := fk Try.func18
theorem z1e_envok (N : Nat) : EnvOK Try.prog (z1e_E N) := .cons (pureE_ok (z1n_pure N)) (.nil)
theorem z1e_pure (N : Nat) : PureOK Try.prog 18 [G_Mine, G_Escape, GI] [(.list GI), (.list GI), .bool] (fun x => z1e N x.1 x.2.1 x.2.2) := pu (N := N) z1e_fn (z1e_envok N)
def z1b_N1 : List NS := [.wk 9 (.list G_Road), .keep [1, 2, 5, 9, 10, 11], .cmp]
def z1b_C1 : TC := (.seq (.r [.b 12 .lss 11 10]) (.seq (.cond (.t 12) .skip (.exit 0)) (.seq (.block 1 (.seq (.r [.m 13 11, .ia 14 10 9 11, .lt 15 10 14, .s 7 (.alloc [(I 0), (I 0), (I 0), (I 0), (B false), (B false), (I 0), (I 0), (I 0), (I 0)]), .m 6 13, .st 10 7 15]) (.seq (.seq (.r [.fa 16 1 7, .lf 17 1 16, .m 18
  1, .b 19 .eql 17 18]) (.cond (.t 19) (.r [.m 20 5, .lt 21 2 2, .m 22 6, .s 23 (.call (.c (.fn 49 [])) [(.t 21), (.t 22), (.c (B false))]), .s 24 (.mm true [(.t 20), (.t 23)]), .m 5 24]) .skip)) (.seq (.r [.fa 25 0 7, .lf 26 1 25, .m 27 1, .b 28 .eql 26 27]) (.cond (.t 28) (.r [.m 29 5, .lt 30 2 2,
  .m 31 6, .s 32 (.call (.c (.fn 49 [])) [(.t 30), (.t 31), (.c (B true))]), .s 33 (.mm true [(.t 29), (.t 32)]), .m 5 33]) .skip))))) (.r [.bi 34 .add 11 1, .m 11 34]))))
def z1b_C2 : TC := (.seq (.r [.m 35 5, .m 4 35]) .ret)
def z1b_C3 : TC := (.seq (.r [.bx 2 0, .mi 4 0]) (.seq (.r [.mi 5 0]) (.seq (.seq (.r [.fa 8 1 2, .lf 9 1 8, .ln 10 9, .mi 11 0]) (.block 0 (.loop z1b_N1 z1b_C1))) z1b_C2)))
def z1b_E (N : Nat) : List (Nat × Ent) := [(49, pureE [G_Mine, GI, .bool] [GI] (fun x => z15 N x.1 x.2.1 x.2.2))]
def z1b_L1 (N : Nat) (n : Nat) (x1 x2 : Int) (x3 : List T_Road) (x4 x5 : Int) (x6 : List T_Place) (x7 : List T_Road) : Option Int := loopN (normI 0 z1b_N1) (run (z1b_E N) N 0 z1b_C1) n ⟨[(1, .int .i64 x1), (2, .ptr 0 0 0), (5, .int .i64 x2), (9, .lst false G_Road x3), (10, .int .i64 x4), (11, .int .i64 x5)], [some (.box 0 [.lst false G_Place x6, .lst false G_Road x7])]⟩ (blkK 0 (seqK (run (z1b_E N) N 0 z1b_C2) (fin [(.t 4)] [GI])))
def z1b (N : Nat) (a0 : T_Mine) (a1 : Int) : Option Int :=
 z1b_L1 N N a1 0 a0.2 (a0.2.length : Int) 0 a0.1 a0.2
theorem z1b_fn : FnOK Try.prog 22 36 (fun _ : Nat => false) z1b_C3.er [(.t 4)] := fk Try.func22
theorem z1b_envok (N : Nat) : EnvOK Try.prog (z1b_E N) := .cons (pureE_ok (z15_pure N)) (.nil)
theorem z1b_pure (N : Nat) : PureOK Try.prog 22 [G_Mine, GI] [GI] (fun x => z1b N x.1 x.2) := pu (N := N) z1b_fn (z1b_envok N)
def z1a_C1 : TC := (.seq (.r [.bx 3 0, .bx 4 1, .mf 6]) (.seq (.r [.lt 12 2 3, .lt 13 4 4, .m 14 2, .c3 15 40 12 13 14, .m 11 15, .ex 16 0 11, .ex 17 1 11, .ex 18 2 11, .ex 19 3 11, .s 9 (.alloc [(I 0), (I 0)]), .m 7 16, .m 8 17, .st 2 9 18, .m 10 19]) (.seq (.rg [.m 20 10, .m 21 20, .w 21 (.lt 22 2 3), .w 21 (.m 23
  2), .w 21 (.c2 24 22 22 23), .w 21 (.s 25 (.iadrA 1 2 (.t 9) (.c (I 0)))), .w 21 (.lf 26 1 25), .w 21 (.s 27 (.iadrA 1 2 (.t 9) (.c (I 1)))), .w 21 (.lf 28 1 27), .w 21 (.s 29 (.mm true [(.t 26), (.t 28)])), .w 21 (.b 30 .add 24 29), .w 21 (.fa 31 3 4), .w 21 (.lf 32 1 31), .w 21 (.b 33 .leq 30
  32), .pf 34 21 33, .m 6 34] (some [(4, 5), (4, 6), (4, 7), (4, 8), (4, 11), (4, 12)])) .ret)))
def z1a_E (N : Nat) : List (Nat × Ent) := [(40, pureE [G_Mine, G_Escape, GI] [(.list GI), (.list GI), G_Span, .bool] (fun x => z1n N x.1 x.2.1 x.2.2)), (22, pureE [G_Mine, GI] [GI] (fun x => z1b N x.1 x.2))]
def z1a (N : Nat) (a0 : T_Mine) (a1 : T_Escape) (a2 : Int) : Option Bool :=
 Option.bind (z1n N a0 a1 a2) fun r1 =>
 bif r1.2.2.2 then
  Option.bind (z1b N a0 a2) fun r2 =>
  some (decide ((W (r2 + (max r1.2.2.1.1 r1.2.2.1.2))) ≤ a1.2.2.2))
 else
  some false
theorem z1a_fn : FnOK Try.prog 19 35 (fun _ : Nat => false) z1a_C1.er [(.t 6)] := fk Try.func19
theorem z1a_envok (N : Nat) : EnvOK Try.prog (z1a_E N) := .cons (pureE_ok (z1n_pure N)) (.cons (pureE_ok (z1b_pure N)) (.nil))
theorem z1a_pure (N : Nat) : PureOK Try.prog 19 [G_Mine, G_Escape, GI] [.bool] (fun x => z1a N x.1 x.2.1 x.2.2) := pu (N := N) z1a_fn (z1a_envok N)
def z1d_NE : List NS := [.keep [4], .out [0, 1]]
def z1d_C1 : TC := (.seq (.r [.bx 3 0, .mf 4]) (.seq (.r [.fa 5 0 3, .lf 6 1 5, .lf 7 1 1, .b 8 .eql 6 7, .m 9 8, .w 9 (.fa 10 1 3), .w 9 (.lf 11 1 10), .w 9 (.lf 12 1 2), .w 9 (.b 13 .eql 11 12), .pf 14 9 13, .m 4 14]) (.pre [.keep [4], .out [0, 1]] .ret)))
def z1d_E (N : Nat) : List (Nat × Ent) := []
def z1d (N : Nat) (a0 : T_step) (a1 : Int) (a2 : Int) : Option (Bool × (Int × Int)) :=
 bif (a0.1 == a1) then
  some ((a0.2.1 == a2), (a1, a2))
 else
  some (false, (a1, a2))
theorem z1d_fn : FnOK Try.prog 44 15 (fun _ : Nat => false) z1d_C1.er [(.t 4)] := fk Try.func44
theorem z1d_envok (N : Nat) : EnvOK Try.prog (z1d_E N) := .nil
theorem z1d_sf (N : Nat) : SFOK Try.prog 44 [none, none, none] [.v G_step, .b (.v GI), .b (.v GI)] [.v .bool] (fun x => z1d N x.1 x.2.1 x.2.2) := sfOK (N := N) (p := 2) (q := 2) (ns := z1d_NE) mixed z1d_fn (z1d_envok N) (TC.noh_ok (by kernel_rfl)) rfl rfl rfl (fun x => by kernel_rfl)
def z13_NE : List NS := [.keep [4], .out [0, 1]]
def z13_N1 : List NS := [.wk 0 (.list G_step), .keep [0, 1, 7, 8], .cmp]
def z13_C1 : TC := (.seq (.r [.b 9 .lss 8 7]) (.seq (.cond (.t 9) .skip (.exit 0)) (.seq (.block 1 (.seq (.r [.m 10 8, .m 5 10]) (.seq (.r [.m 11 1, .m 12 0, .m 13 5, .ia 14 4 12 13, .lt 15 4 14, .s 16 (.call (.t 11) [(.t 15)])]) (.cond (.t 16) (.seq (.r [.m 17 5, .m 4 17]) (.pre [.keep [4], .out [0, 1]] .ret))
  .skip)))) (.r [.bi 18 .add 8 1, .m 8 18]))))
def z13_C2 : TC := (.seq (.r [.s 4 (.mov (.c (I (-1))))]) (.pre [.keep [4], .out [0, 1]] .ret))
def z13_C3 : TC := (.seq (.r [.mi 4 0]) (.seq (.seq (.r [.m 6 0, .ln 7 6, .mi 8 0]) (.block 0 (.loop z13_N1 z13_C1))) z13_C2))
def z13_E (N : Nat) : List (Nat × Ent) := [(44, sfE [none, none, none] [.v G_step, .b (.v GI), .b (.v GI)] [.v .bool] (fun x => z1d N x.1 x.2.1 x.2.2))]
def z13_L1 (N : Nat) (n : Nat) (x1 : List T_step) (x2 x3 x4 x5 : Int) : Option (Int × (Int × Int)) := loopN (normI 2 z13_N1) (run (z13_E N) N 2 z13_C1) n ⟨[(0, .lst false G_step x1), (1, .fn 44 [.ptr 0 0 0, .ptr 1 0 0]), (7, .int .i64 x2), (8, .int .i64 x3)], [some (.box 0 [.int .i64 x4]), some (.box 0 [.int .i64 x5])]⟩ (blkK 0 (seqK (run (z13_E N) N 2 z13_C2) (finS z13_NE [(.t 4)] [.v (.list G_step), .b (.v GI), .b (.v GI)] [.v GI] 2 2)))
def z13 (N : Nat) (a0 : List T_step) (a1 : Int) (a2 : Int) : Option (Int × (Int × Int)) :=
 z13_L1 N N a0 (a0.length : Int) 0 a1 a2
theorem z13_fn : FnOK Try.prog 43 19 (fun _ : Nat => false) z13_C3.er [(.t 4)] := fk Try.func43
theorem z13_envok (N : Nat) : EnvOK Try.prog (z13_E N) := .cons (sfE_ok (z1d_sf N)) (.nil)
theorem z13_sf (N : Nat) : SFOK Try.prog 43 [none, some (44, 2)] [.v (.list G_step), .b (.v GI), .b (.v GI)] [.v GI] (fun x => z13 N x.1 x.2.1 x.2.2) := sfOK (N := N) (p := 2) (q := 2) (ns := z13_NE) mixed z13_fn (z13_envok N) (TC.noh_ok (by kernel_rfl)) rfl rfl rfl (fun x => by kernel_rfl)
def z1c_N1 : List NS := [.own 13 GI, .wk 34 (.list GI), .keep [10, 11, 12, 13, 34, 35, 36], .cmp]
def z1c_C1 : TC := (.seq (.r [.b 37 .lss 36 35]) (.seq (.cond (.t 37) .skip (.exit 1)) (.seq (.block 2 (.seq (.r [.ia 38 1 34 36, .lf 39 1 38, .s 15 (.alloc [(I 0)]), .st 1 15 39]) (.seq (.r [.fa 40 1 10, .lf 41 1 40, .s 42 (.mkfn 44 [(.t 15), (.t 12)]), .c2 43 43 41 42, .m 16 43]) (.seq (.seq (.rg [.m 44 16, .bi 45
  .lss 44 0, .m 46 45, .v 46 (.lt 47 4 10), .v 46 (.fa 48 1 10), .v 46 (.lf 49 1 48), .v 46 (.m 50 16), .v 46 (.ia 51 4 49 50), .v 46 (.lt 52 4 51), .v 46 (.c2 53 45 47 52), .v 46 (.nt 54 53), .pt 55 46 54, .m 56 55, .v 56 (.m 57 13), .v 56 (.fa 58 1 10), .v 56 (.lf 59 1 58), .v 56 (.m 60 16), .v 56
  (.ia 61 4 59 60), .v 56 (.fa 62 2 61), .v 56 (.lf 63 1 62), .v 56 (.c2 64 46 57 63), .pt 65 56 64] (some [])) (.cond (.t 65) (.seq (.r [.mi 8 0, .mi 9 45]) .ret) .skip)) (.seq (.rg [.fa 66 1 10, .lf 67 1 66, .m 68 16, .ia 69 4 67 68, .fa 70 2 69, .lf 71 1 70, .m 72 11, .fa 73 1 10, .lf 74 1 73, .m
  75 16, .ia 76 4 74 75, .fa 77 3 76, .lf 78 1 77, .b 79 .add 72 78, .st 1 12 71, .m 11 79] (some [(7, 14), (8, 14), (10, 14), (11, 14), (12, 14)])) (.r [.m 80 13, .lf 81 1 12, ⟨⟨some 82, (.bslice false 1 [(I 0)] 1 [(0, (.t 81))]), none⟩, ⟨GI, none, []⟩⟩, .s 83 (.app 1 8 (.t 80) (.t 82)),
  .m 13 83])))))) (.r [.bi 84 .add 36 1, .m 36 84]))))
def z1c_C2 : TC := (.seq (.seq (.r [.fa 85 2 10, .lf 86 1 85, .lf 87 1 12, .ia 88 1 86 87, .lf 89 1 88, .nt 90 89]) (.cond (.t 90) (.seq (.r [.mi 8 0, .mi 9 45]) .ret) .skip)) (.seq (.r [.m 91 11, .m 8 91, .mi 9 0]) .ret))
def z1c_C3 : TC := (.seq (.r [.bx 4 0, .bx 5 1, .mi 8 0, .mi 9 0]) (.seq (.block 0 (.seq (.r [.lt 18 2 4, .lt 19 4 5, .c2 20 34 18 19, .nt 21 20, .m 17 21]) (.cond (.t 17) (.seq (.r [.mi 8 0, .mi 9 6]) .ret) (.seq (.r [.lt 23 2 4, .lt 24 4 5, .m 25 2, .c3 26 41 23 24 25, .nt 27 26, .m 22 27]) (.cond (.t 22) (.seq (.r
  [.mi 8 0, .mi 9 3]) .ret) .skip))))) (.seq (.r [.lt 28 2 4, .lt 29 4 5, .c2 30 42 28 29, .m 31 2, .m 32 2, ⟨⟨some 33, (.bslice true 1 [(I 0)] 1 [(0, (.t 32))]), none⟩, ⟨GI, none, []⟩⟩, .s 10 (.alloc [(I 0), (.lst true []), (.lst true []), (.lst true [])]), .s 12 (.alloc [(I 0)]), .st 4 10
  30, .mi 11 0, .st 1 12 31, .m 13 33]) (.seq (.seq (.r [.m 34 3, .ln 35 34, .mi 36 0]) (.block 1 (.loop z1c_N1 z1c_C1))) z1c_C2))))
def z1c_E (N : Nat) : List (Nat × Ent) := [(34, pureE [G_Mine, G_Escape] [.bool] (fun x => z1f N x.1 x.2)), (41, pureE [G_Mine, G_Escape, GI] [.bool] (fun x => z1m N x.1 x.2.1 x.2.2)), (42, sfE [none, none] [.v G_Mine, .v G_Escape] [.o (.p (.v GI) (.p (.a G_step) (.p (.a .bool) (.a .bool))))] (fun x => z1h N x.1 x.2)), (43, lendE (sfE [none, some (44, 2)] [.v (.list G_step), .b (.v GI), .b (.v GI)] [.v GI] (fun x => z13 N x.1 x.2.1 x.2.2))), (45, pureE [G_finder, G_step] [.bool] (fun x => z1l N x.1 x.2)), (46, pureE [(.list GI), GI] [.bool] (fun x => z0z N x.1 x.2))]
def z1c_L1 (N : Nat) (n : Nat) (x4 : Int) (x5 : List Int) (x6 x7 x8 x9 : Int) (x10 : List Int) (x11 : List T_step) (x12 x13 : List Bool) : Option (Int × Int) := loopN (normI 0 z1c_N1) (run (z1c_E N) N 0 z1c_C1) n ⟨[(10, .ptr 0 0 0), (11, .int .i64 x4), (12, .ptr 1 0 0), (13, .whole 2), (34, .lst false GI x5), (35, .int .i64 x6), (36, .int .i64 x7)], [some (.box 0 [.int .i64 x8, .whole 3, .whole 4, .whole 5]), some (.box 0 [.int .i64 x9]), some (.arr GI x10), some (.arr G_step x11), some (.arr .bool x12), some (.arr .bool x13)]⟩ (blkK 1 (seqK (run (z1c_E N) N 0 z1c_C2) (fin [(.t 8), (.t 9)] [GI, GI])))
def z1c (N : Nat) (a0 : T_Mine) (a1 : T_Escape) (a2 : Int) (a3 : List Int) : Option (Int × Int) :=
 Option.bind (z1f N a0 a1) fun r1 =>
 bif (!r1) then
  some (0, 6)
 else
  Option.bind (z1m N a0 a1 a2) fun r2 =>
  bif (!r2) then
   some (0, 3)
  else
   Option.bind (z1h N a0 a1) fun r3 =>
   z1c_L1 N N 0 a3 (a3.length : Int) 0 r3.1.1 a2 [a2] r3.1.2.1 r3.1.2.2.1 r3.1.2.2.2
theorem z1c_fn : FnOK Try.prog 20 92 (fun t : Nat => Nat.beq t 33) z1c_C3.er [(.t 8), (.t 9)] := fk Try.func20
theorem z1c_envok (N : Nat) : EnvOK Try.prog (z1c_E N) := .cons (pureE_ok (z1f_pure N)) (.cons (pureE_ok (z1m_pure N)) (.cons (sfE_ok (z1h_sf N)) (.cons (lendE_ok (sfE_ok (z13_sf N))) (.cons (pureE_ok (z1l_pure N)) (.cons (pureE_ok (z0z_pure N)) (.nil))))))
theorem z1c_pure (N : Nat) : PureOK Try.prog 20 [G_Mine, G_Escape, GI, (.list GI)] [GI, GI] (fun x => z1c N x.1 x.2.1 x.2.2.1 x.2.2.2) := pu (N := N) z1c_fn (z1c_envok N)
theorem ways_usable_is (N : Nat) (f : Fdr) (s : Ste) (hw : Wf f) (hs : s ∈ f.2.1) : z1l N f s = some (usB f s) := by
 obtain ⟨h1, h2, h3, h4⟩ := hw
 obtain ⟨b1, b2, b3, b4⟩ := h4 s hs
 unfold z1l usB
 rw [show inB s.2.1 f.2.2.1.length = true from decide_eq_true ⟨b1, by omega⟩, show inB s.2.2.1 f.2.2.2.length = true from decide_eq_true ⟨b3, by omega⟩]
 cases f.2.2.1.getD s.2.1.toNat false <;> rfl
noncomputable def z18 (N : Nat) (a0 : T_Mine) (a1 : T_Escape) (a2 : Int) : Option Int := apartM (z1m N a0 a1 a2) (z1h N a0 a1) a2
theorem z18_pure (N : Nat) : PureOK Try.prog 21 [G_Mine, G_Escape, .int .i64] [.int .i64] (fun x => z18 N x.1 x.2.1 x.2.2) := apart_hand (z1m_pure N) (z1h_sf N) (z1l_pure N) (ways_usable_is N)
def z19_C1 : TC := (.seq (.r [.bx 3 0, .bx 4 1, .mn 6, .mi 7 0, .mf 8]) (.seq (.seq (.r [.lt 13 2 3, .lt 14 4 4, .m 15 2, .c3 16 41 13 14 15, .nt 17 16]) (.cond (.t 17) (.seq (.r [.mn 6, .mi 7 0, .mf 8]) (.pre [.frz 6] .ret)) .skip)) (.seq (.r [.lt 19 2 3, .lt 20 4 4, .c2 21 42 19 20, .m 22 2, .c2 23 50 21 22, .m 18
  23, .ex 24 0 18, .ex 25 1 18, .ex 26 2 18, .ex 27 3 18, .m 9 24, .m 10 25, .m 11 26, .m 12 27]) (.seq (.r [.m 28 9, .m 29 10, .m 30 12, .m 6 28, .m 7 29, .m 8 30]) (.pre [.frz 6] .ret)))))
def z19_E (N : Nat) : List (Nat × Ent) := [(41, pureE [G_Mine, G_Escape, GI] [.bool] (fun x => z1m N x.1 x.2.1 x.2.2)), (42, sfE [none, none] [.v G_Mine, .v G_Escape] [.o (.p (.v GI) (.p (.a G_step) (.p (.a .bool) (.a .bool))))] (fun x => z1h N x.1 x.2)), (50, lendE (sfE [none, none] [.v G_finder, .v GI] [.o (.a GI), .v GI, .o (.a GI), .v .bool] (fun x => z1i N x.1 x.2)))]
def z19 (N : Nat) (a0 : T_Mine) (a1 : T_Escape) (a2 : Int) : Option ((List Int) × Int × Bool) :=
 Option.bind (z1m N a0 a1 a2) fun r1 =>
 bif (!r1) then
  some ([], 0, false)
 else
  Option.bind (z1h N a0 a1) fun r2 =>
  Option.bind (z1i N r2.1 a2) fun r3 =>
  some (r3.1.1, r3.1.2.1, r3.1.2.2.2)
theorem z19_fn : FnOK Try.prog 25 31 (fun _ : Nat => false) z19_C1.er [(.t 6), (.t 7), (.t 8)] := fk Try.func25
theorem z19_envok (N : Nat) : EnvOK Try.prog (z19_E N) := .cons (pureE_ok (z1m_pure N)) (.cons (sfE_ok (z1h_sf N)) (.cons (lendE_ok (sfE_ok (z1i_sf N))) (.nil)))
theorem z19_pure (N : Nat) : PureOK Try.prog 25 [G_Mine, G_Escape, GI] [(.list GI), GI, .bool] (fun x => z19 N x.1 x.2.1 x.2.2) := pu (N := N) z19_fn (z19_envok N)
def z02_C1 : TC := (.seq (.r [.s 0 (.alloc [(.lst true []), (.lst true [])])]) (.seq (.r [.s 4 (.build [(I 0), (I 0)] [(0, (1, (.c (I 1)))), (1, (1, (.c (I 1))))]), .s 5 (.build [(I 0), (I 0), (I 0), (I 0), (B false), (B false), (I 0), (I 0), (I 0), (I 0)] [(2, (1, (.c (I 12)))), (3, (1, (.c (I 1)))), (4, (1, (.c (B
  true)))), (6, (2, (.t 4)))]), .s 1 (.alloc [(I 0), (I 0), (I 0), (I 0), (B false), (B false), (I 0), (I 0), (I 0), (I 0)]), .st 10 1 5]) (.seq (.pre [.wait, .wait] (.rg [.lt 6 10 1, .lt 7 10 1, ⟨⟨some 2, (.alloc [(I 0), (I 0), (I 0), (I 0), (B false), (B false), (I 0), (I 0), (I 0), (I 0)]),
  none⟩, ⟨.unit, some 2, []⟩⟩, ⟨⟨some 3, (.alloc [(I 0), (I 0), (I 0), (I 0), (B false), (B false), (I 0), (I 0), (I 0), (I 0)]), none⟩, ⟨.unit, some 3, []⟩⟩, .st 10 2 6, .st 10 3 7] (some [(0, 2), (1, 2), (0, 3), (1, 3), (2, 3), (1, 4)]))) (.seq (.r [.fa 8 1 2, .d (.store 1 (.t 8) (.c (I 1))), .fa
  9 0 3, .d (.store 1 (.t 9) (.c (I 1))), .fa 10 1 3, .d (.store 1 (.t 10) (.c (I 2))), .fa 11 2 3, .d (.store 1 (.t 11) (.c (I 24)))]) (.seq (.r [.s 12 (.build [(I 0), (B false)] [(1, (1, (.c (B true))))]), .s 13 (.build [(I 0), (B false)] []), .s 14 (.build [(I 0), (B false)] [(1, (1, (.c (B
  true))))]), ⟨⟨some 15, (.bslice false 2 [(I 0), (B false)] 3 [(0, (.t 12)), (1, (.t 13)), (2, (.t 14))]), none⟩, ⟨G_Place, none, []⟩⟩, .lt 16 10 2, .lt 17 10 3, ⟨⟨some 18, (.bslice false 10 [(I 0), (I 0), (I 0), (I 0), (B false), (B false), (I 0), (I 0), (I 0), (I 0)] 2 [(0, (.t 16)), (1, (.t
  17))]), none⟩, ⟨G_Road, none, []⟩⟩, .s 19 (.build [(.lst true []), (.lst true [])] [(0, (1, (.t 15))), (1, (1, (.t 18)))]), .st 2 0 19]) (.pre [.frzb 0] .ret))))))
def z02_E (N : Nat) : List (Nat × Ent) := []
def z02 (N : Nat) : Option T_Mine :=
 some ([(0, true), (0, false), (0, true)], [(0, (1, (12, (1, (true, (false, ((1, 1), (0, 0)))))))), (1, (2, (24, (1, (true, (false, ((1, 1), (0, 0))))))))])
theorem z02_fn : FnOK Try.prog 29 20 (fun _ : Nat => false) z02_C1.er [(.cell 0 true 2)] := fk Try.func29
theorem z02_envok (N : Nat) : EnvOK Try.prog (z02_E N) := .nil
theorem z02_pure (N : Nat) : PureOK Try.prog 29 [] [G_Mine] (fun x => z02 N) := pu (N := N) z02_fn (z02_envok N)
def z01_C1 : TC := (.seq (.r [.mf 0]) (.seq (.r [.s 10 (.build [(.lst true []), (.lst true []), (.lst true []), (I 0)] [(3, (1, (.c (I 1000))))]), .s 1 (.alloc [(.lst true []), (.lst true []), (.lst true []), (I 0)]), .st 4 1 10]) (.seq (.rg [.s 12 (.call (.c (.fn 29 [])) []), .lt 13 4 1, .s 14 (.call (.c (.fn 18
  [])) [(.t 12), (.t 13), (.c (I 1))]), .m 11 14, .ex 15 0 11, .ex 16 1 11, .ex 17 2 11, .m 2 15, .m 3 16, .m 4 17] (some [(0, 1)])) (.seq (.rg [.s 19 (.call (.c (.fn 29 [])) []), .lt 20 4 1, .s 21 (.call (.c (.fn 25 [])) [(.t 19), (.t 20), (.c (I 1))]), .m 18 21, .ex 22 0 18, .ex 23 1 18, .ex 24 2
  18, .m 5 22, .m 6 23, .m 7 24] (some [(0, 1)])) (.seq (.rg [.s 26 (.call (.c (.fn 29 [])) []), .lt 27 4 1, ⟨⟨some 28, (.bslice false 1 [(I 0)] 1 [(0, (.c (I 1)))]), none⟩, ⟨GI, none, []⟩⟩, .s 29 (.call (.c (.fn 20 [])) [(.t 26), (.t 27), (.c (I 1)), (.t 28)]), .m 25 29, .ex 30 0 25, .ex
  31 1 25, .m 8 30, .m 9 31] (some [(0, 1)])) (.seq (.rg [.m 32 4, .m 33 32, .w 33 (.m 34 7), .pf 35 33 34, .m 36 35, .w 36 (.m 37 2), .w 36 (.ln 38 37), .w 36 (.bi 39 .eql 38 1), .pf 40 36 39, .m 41 40, .w 41 (.m 42 3), .w 41 (.ln 43 42), .w 41 (.bi 44 .eql 43 1), .pf 45 41 44, .m 46 45, .w 46 (.m
  47 2), .w 46 (.s 48 (.iadrS 1 (.t 47) (.c (I 0)))), .w 46 (.lf 49 1 48), .w 46 (.bi 50 .eql 49 0), .pf 51 46 50, .m 52 51, .w 52 (.m 53 3), .w 52 (.s 54 (.iadrS 1 (.t 53) (.c (I 0)))), .w 52 (.lf 55 1 54), .w 52 (.bi 56 .eql 55 1), .pf 57 52 56, .m 58 57, .w 58 (.m 59 5), .w 58 (.ln 60 59), .w 58
  (.bi 61 .eql 60 1), .pf 62 58 61, .m 63 62, .w 63 (.m 64 9), .w 63 (.bi 65 .eql 64 0), .pf 66 63 65, .m 67 66, .w 67 (.m 68 8), .w 67 (.m 69 6), .w 67 (.b 70 .gtr 68 69), .pf 71 67 70, .m 72 71, .w 72 (.s 73 (.call (.c (.fn 29 [])) [])), .w 72 (.lt 74 4 1), .w 72 (.s 75 (.call (.c (.fn 21 []))
  [(.t 73), (.t 74), (.c (I 1))])), .w 72 (.bi 76 .eql 75 2), .pf 77 72 76, .m 78 77, .w 78 (.s 79 (.call (.c (.fn 29 [])) [])), .w 78 (.lt 80 4 1), .w 78 (.s 81 (.call (.c (.fn 19 [])) [(.t 79), (.t 80), (.c (I 1))])), .pf 82 78 81, .m 83 82, .w 83 (.s 84 (.call (.c (.fn 29 [])) [])), .w 83 (.s 85
  (.call (.c (.fn 22 [])) [(.t 84), (.c (I 1))])), .w 83 (.bi 86 .gtr 85 0), .pf 87 83 86, .m 0 87] (some [(41, 42), (47, 48)])) .ret))))))
def z01_E (N : Nat) : List (Nat × Ent) := [(29, pureE [] [G_Mine] (fun x => z02 N)), (18, pureE [G_Mine, G_Escape, GI] [(.list GI), (.list GI), .bool] (fun x => z1e N x.1 x.2.1 x.2.2)), (25, pureE [G_Mine, G_Escape, GI] [(.list GI), GI, .bool] (fun x => z19 N x.1 x.2.1 x.2.2)), (20, pureE [G_Mine, G_Escape, GI, (.list GI)] [GI, GI] (fun x => z1c N x.1 x.2.1 x.2.2.1 x.2.2.2)), (21, pureE [G_Mine, G_Escape, .int .i64] [.int .i64] (fun x => z18 N x.1 x.2.1 x.2.2)), (19, pureE [G_Mine, G_Escape, GI] [.bool] (fun x => z1a N x.1 x.2.1 x.2.2)), (22, pureE [G_Mine, GI] [GI] (fun x => z1b N x.1 x.2))]
def z01 (N : Nat) : Option Bool :=
 Option.bind (z02 N) fun r1 =>
 Option.bind (z1e N r1 ([], ([], ([], 1000))) 1) fun r2 =>
 Option.bind (z02 N) fun r3 =>
 Option.bind (z19 N r3 ([], ([], ([], 1000))) 1) fun r4 =>
 Option.bind (z02 N) fun r5 =>
 Option.bind (z1c N r5 ([], ([], ([], 1000))) 1 [1]) fun r6 =>
 bif r2.2.2 then
  bif r4.2.2 then
   bif ((r2.1.length : Int) == 1) then
    bif ((r2.2.1.length : Int) == 1) then
     bif inB 0 r2.1.length then
     bif ((r2.1.getD (0 : Int).toNat 0) == 0) then
      bif inB 0 r2.2.1.length then
      bif ((r2.2.1.getD (0 : Int).toNat 0) == 1) then
       bif ((r4.1.length : Int) == 1) then
        bif (r6.2 == 0) then
         bif (decide (r6.1 > r4.2.1)) then
          Option.bind (z02 N) fun r9 =>
          Option.bind (z18 N r9 ([], ([], ([], 1000))) 1) fun r10 =>
          bif (r10 == 2) then
           Option.bind (z02 N) fun r11 =>
           Option.bind (z1a N r11 ([], ([], ([], 1000))) 1) fun r12 =>
           bif r12 then
            Option.bind (z02 N) fun r13 =>
            Option.bind (z1b N r13 1) fun r14 =>
            some (decide (r14 > 0))
           else
            some false
          else
           some false
         else
          some false
        else
         some false
       else
        some false
      else
       some false
      else none
     else
      some false
     else none
    else
     some false
   else
    some false
  else
   some false
 else
  some false
theorem z01_fn : FnOK Try.prog 10 88 (fun _ : Nat => false) z01_C1.er [(.t 0)] := fk Try.func10
theorem z01_envok (N : Nat) : EnvOK Try.prog (z01_E N) := .cons (pureE_ok (z02_pure N)) (.cons (pureE_ok (z1e_pure N)) (.cons (pureE_ok (z19_pure N)) (.cons (pureE_ok (z1c_pure N)) (.cons (pureE_ok (z18_pure N)) (.cons (pureE_ok (z1a_pure N)) (.cons (pureE_ok (z1b_pure N)) (.nil)))))))
theorem z01_pure (N : Nat) : PureOK Try.prog 10 [] [.bool] (fun x => z01 N) := pu (N := N) z01_fn (z01_envok N)
def z0c_NE : List NS := [.keep [2], .out []]
def z0c_C1 : TC := (.seq (.r [.s 2 (.mov (.c (.v (.pointer none))))]) (.seq (.r [.m 3 0, .s 4 (.build [(.lst true []), (I 0)] [(0, (1, (.t 3)))]), .bx 5 4, .m 2 5]) (.pre [.keep [2], .out []] .ret)))
def z0c_E (N : Nat) : List (Nat × Ent) := []
def z0c (N : Nat) (a0 : List Int) : Option (T_Dice × Unit) :=
 some ((a0, 0), ())
theorem z0c_fn : FnOK Try.prog 11 6 (fun _ : Nat => false) z0c_C1.er [(.t 2)] := fk Try.func11
theorem z0c_envok (N : Nat) : EnvOK Try.prog (z0c_E N) := .nil
theorem z0c_sf (N : Nat) : SFOK Try.prog 11 [none] [.v (.list GI)] [.n G_Dice] (fun x => z0c N x) := sfOK (N := N) (p := 0) (q := 0) (ns := z0c_NE) mixed z0c_fn (z0c_envok N) (TC.noh_ok (by kernel_rfl)) rfl rfl rfl (fun x => by kernel_rfl)
def z0b_C1 : TC := (.seq (.r [.mi 4 0]) (.seq (.seq (.r [.m 5 1, .bi 6 .lss 5 1]) (.cond (.t 6) (.seq (.r [.mi 4 0]) .ret) .skip)) (.seq (.r [.m 7 0, .m 8 1, .b 9 .rem 7 8, .m 0 9]) (.seq (.seq (.r [.m 10 0, .bi 11 .lss 10 0]) (.cond (.t 11) (.r [.m 12 0, .m 13 1, .b 14 .add 12 13, .m 0 14]) .skip)) (.seq (.r [.m 15
  0, .m 4 15]) .ret)))))
def z0b_E (N : Nat) : List (Nat × Ent) := []
def z0b (N : Nat) (a0 : Int) (a1 : Int) : Option Int :=
 bif (decide (a1 < 1)) then
  some 0
 else
  bif a1 == 0 then none else
  bif (decide ((a0.tmod a1) < 0)) then
   some (W ((a0.tmod a1) + a1))
  else
   some (a0.tmod a1)
theorem z0b_fn : FnOK Try.prog 31 16 (fun _ : Nat => false) z0b_C1.er [(.t 4)] := fk Try.func31
theorem z0b_envok (N : Nat) : EnvOK Try.prog (z0b_E N) := .nil
theorem z0b_pure (N : Nat) : PureOK Try.prog 31 [GI, GI] [GI] (fun x => z0b N x.1 x.2) := pu (N := N) z0b_fn (z0b_envok N)
def z07_NE : List NS := [.frzo 0, .keep [4], .out [0]]
def z07_C1 : TC := (.seq (.r [.mi 4 0]) (.seq (.seq (.rg [.m 5 0, .s 6 (.nilck (.t 5)), .fa 7 1 6, .lf 8 1 7, .m 9 0, .s 10 (.nilck (.t 9)), .fa 11 0 10, .lf 12 1 11, .ln 13 12, .b 14 .geq 8 13] (some [])) (.cond (.t 14) (.seq (.r [.mi 4 0]) (.pre [.frzo 0, .keep [4], .out [0]] .ret)) .skip)) (.seq (.r [.m 15 0, .s
  16 (.nilck (.t 15)), .fa 17 1 16, .lf 18 1 17, .bi 19 .add 18 1, .s 20 (.nilck (.t 15)), .fa 21 1 20, .st 1 21 19]) (.seq (.rg [.m 22 0, .s 23 (.nilck (.t 22)), .fa 24 0 23, .lf 25 1 24, .m 26 0, .s 27 (.nilck (.t 26)), .fa 28 1 27, .lf 29 1 28, .bi 30 .sub 29 1, .ia 31 1 25 30, .lf 32 1 31, .m 33
  1, .c2 34 31 32 33, .m 4 34] (some [])) (.pre [.frzo 0, .keep [4], .out [0]] .ret)))))
def z07_E (N : Nat) : List (Nat × Ent) := [(31, pureE [GI, GI] [GI] (fun x => z0b N x.1 x.2))]
def z07 (N : Nat) (a0 : T_Dice) (a1 : Int) : Option (Int × T_Dice) :=
 bif (decide (a0.2 ≥ (a0.1.length : Int))) then
  some (0, a0)
 else
  bif inB (W ((W (a0.2 + 1)) - 1)) a0.1.length then
  Option.bind (z0b N (a0.1.getD (W ((W (a0.2 + 1)) - 1)).toNat 0) a1) fun r2 =>
  some (r2, (a0.1, W (a0.2 + 1)))
  else none
theorem z07_fn : FnOK Try.prog 13 35 (fun _ : Nat => false) z07_C1.er [(.t 4)] := fk Try.func13
theorem z07_envok (N : Nat) : EnvOK Try.prog (z07_E N) := .cons (pureE_ok (z0b_pure N)) (.nil)
theorem z07_sf (N : Nat) : SFOK Try.prog 13 [none, none] [.b (.v G_Dice), .v GI] [.v GI] (fun x => z07 N x.1 x.2) := sfOK (N := N) (p := 1) (q := 1) (ns := z07_NE) mixed z07_fn (z07_envok N) (TC.noh_ok (by kernel_rfl)) rfl rfl rfl (fun x => by kernel_rfl)
def z09_NE : List NS := [.frzo 0, .keep [4], .out [0]]
def z09_C1 : TC := (.seq (.r [.mf 4]) (.seq (.r [.m 5 0, .m 6 1, .c2 7 13 5 6, .m 8 1, .bi 9 .sub 8 1, .b 10 .eql 7 9, .m 4 10]) (.pre [.frzo 0, .keep [4], .out [0]] .ret)))
def z09_E (N : Nat) : List (Nat × Ent) := [(13, sfE [none, none] [.b (.v G_Dice), .v GI] [.v GI] (fun x => z07 N x.1 x.2))]
def z09 (N : Nat) (a0 : T_Dice) (a1 : Int) : Option (Bool × T_Dice) :=
 Option.bind (z07 N a0 a1) fun r1 =>
 some ((r1.1 == (W (a1 - 1))), r1.2)
theorem z09_fn : FnOK Try.prog 14 11 (fun _ : Nat => false) z09_C1.er [(.t 4)] := fk Try.func14
theorem z09_envok (N : Nat) : EnvOK Try.prog (z09_E N) := .cons (sfE_ok (z07_sf N)) (.nil)
theorem z09_sf (N : Nat) : SFOK Try.prog 14 [none, none] [.b (.v G_Dice), .v GI] [.v .bool] (fun x => z09 N x.1 x.2) := sfOK (N := N) (p := 1) (q := 1) (ns := z09_NE) mixed z09_fn (z09_envok N) (TC.noh_ok (by kernel_rfl)) rfl rfl rfl (fun x => by kernel_rfl)
def z08_NE : List NS := [.frzo 0, .keep [4], .out [0]]
def z08_C1 : TC := (.seq (.r [.mi 4 0]) (.seq (.r [.m 5 1, .m 6 0, .m 7 1, .ln 8 7, .c2 9 13 6 8, .ia 10 1 5 9, .lf 11 1 10, .m 4 11]) (.pre [.frzo 0, .keep [4], .out [0]] .ret)))
def z08_E (N : Nat) : List (Nat × Ent) := [(13, sfE [none, none] [.b (.v G_Dice), .v GI] [.v GI] (fun x => z07 N x.1 x.2))]
def z08 (N : Nat) (a0 : T_Dice) (a1 : List Int) : Option (Int × T_Dice) :=
 Option.bind (z07 N a0 (a1.length : Int)) fun r1 =>
 bif inB r1.1 a1.length then
 some (a1.getD r1.1.toNat 0, r1.2)
 else none
theorem z08_fn : FnOK Try.prog 30 12 (fun _ : Nat => false) z08_C1.er [(.t 4)] := fk Try.func30
theorem z08_envok (N : Nat) : EnvOK Try.prog (z08_E N) := .cons (sfE_ok (z07_sf N)) (.nil)
theorem z08_sf (N : Nat) : SFOK Try.prog 30 [none, none] [.b (.v G_Dice), .v (.list GI)] [.v GI] (fun x => z08 N x.1 x.2) := sfOK (N := N) (p := 1) (q := 1) (ns := z08_NE) mixed z08_fn (z08_envok N) (TC.noh_ok (by kernel_rfl)) rfl rfl rfl (fun x => by kernel_rfl)
def z06_NE : List NS := [.frzb 2, .frzo 0, .keep [2], .out [0]]
def z06_N1 : List NS := [.ownc 3 0 G_Place, .keep [0, 2, 3, 4, 5], .cmp]
def z06_N2 : List NS := [.ownc 3 1 G_Road, .keep [0, 2, 3, 4, 6, 7], .cmp]
def z06_N3 : List NS := [.ownc 3 1 G_Road, .keep [0, 2, 3, 4, 6, 9], .cmp]
def z06_C1 : TC := (.seq (.seq (.r [.m 76 9, .bi 77 .gtr 76 0, .m 78 77, .w 78 (.fa 79 1 3), .w 78 (.lf 80 1 79), .w 78 (.ln 81 80), .w 78 (.bi 82 .lss 81 10), .pf 83 78 82]) (.cond (.t 83) .skip (.exit 4))) (.seq (.block 5 (.seq (.r [.lt 86 10 6, .s 10 (.alloc [(I 0), (I 0), (I 0), (I 0), (B false), (B false), (I
  0), (I 0), (I 0), (I 0)]), .st 10 10 86]) (.seq (.r [.m 87 0, .m 88 4, .c2 89 13 87 88, .m 90 0, .m 91 4, .c2 92 13 90 91, .m 93 0, ⟨⟨some 94, (.bslice false 1 [(I 0)] 3 [(0, (.c (I 11))), (1, (.c (I 59))), (2, (.c (I 199)))]), none⟩, ⟨GI, none, []⟩⟩, .c2 95 30 93 94, .s 96 (.bin .add (.c
  (I 1)) (.t 95)), .m 97 0, ⟨⟨some 98, (.bslice false 1 [(I 0)] 2 [(0, (.c (I 9))), (1, (.c (I 3)))]), none⟩, ⟨GI, none, []⟩⟩, .c2 99 30 97 98, .s 100 (.bin .add (.c (I 1)) (.t 99)), .fa 101 0 10, .st 1 101 89, .fa 102 1 10, .st 1 102 92, .fa 103 2 10, .st 1 103 96, .fa 104 3 10, .st 1 104
  100]) (.seq (.r [.m 105 0, .s 106 (.call (.c (.fn 13 [])) [(.t 105), (.c (I 5))]), .bi 107 .gtr 106 0, .m 108 0, .s 109 (.call (.c (.fn 14 [])) [(.t 108), (.c (I 6))]), .fa 110 4 10, .st 1 110 107, .fa 111 5 10, .st 1 111 109]) (.seq (.r [.fa 112 0 10, .lf 113 1 112, .fa 114 1 10, .lf 115 1 114,
  .b 116 .neq 113 115]) (.cond (.t 116) (.r [.fa 117 1 3, .lf 118 1 117, .lt 119 10 10, ⟨⟨some 120, (.bslice false 10 [(I 0), (I 0), (I 0), (I 0), (B false), (B false), (I 0), (I 0), (I 0), (I 0)] 1 [(0, (.t 119))]), none⟩, ⟨G_Road, none, []⟩⟩, .s 121 (.app 10 72 (.t 118) (.t 120)), .fa 122 1 3, .st
  1 122 121]) .skip)))))) (.r [.m 84 9, .bi 85 .sub 84 1, .m 9 85])))
def z06_C2 : TC := (.pre [.frzb 3] (.seq (.r [.lt 123 2 3, .st 2 2 123]) (.pre [.frzb 2, .frzo 0, .keep [2], .out [0]] .ret)))
def z06_C3 : TC := (.seq (.seq (.r [.m 42 7, .m 43 4, .b 44 .lss 42 43]) (.cond (.t 44) .skip (.exit 2))) (.seq (.block 3 (.seq (.r [.lt 47 10 6, .s 8 (.alloc [(I 0), (I 0), (I 0), (I 0), (B false), (B false), (I 0), (I 0), (I 0), (I 0)]), .st 10 8 47]) (.seq (.r [.m 48 7, .bi 49 .sub 48 1, .m 50 0, .m 51 7, .s 52
  (.mm false [(.t 51), (.c (I 2))]), .c2 53 13 50 52, .b 54 .sub 49 53, .m 55 7, .m 56 0, ⟨⟨some 57, (.bslice false 1 [(I 0)] 4 [(0, (.c (I 11))), (1, (.c (I 59))), (2, (.c (I 119))), (3, (.c (I 4)))]), none⟩, ⟨GI, none, []⟩⟩, .c2 58 30 56 57, .s 59 (.bin .add (.c (I 1)) (.t 58)), .m 60 0,
  ⟨⟨some 61, (.bslice false 1 [(I 0)] 3 [(0, (.c (I 9))), (1, (.c (I 3))), (2, (.c (I 19)))]), none⟩, ⟨GI, none, []⟩⟩, .c2 62 30 60 61, .s 63 (.bin .add (.c (I 1)) (.t 62)), .fa 64 0 8, .st 1 64 54, .fa 65 1 8, .st 1 65 55, .fa 66 2 8, .st 1 66 59, .fa 67 3 8, .st 1 67 63]) (.r [.fa 68 1 3,
  .lf 69 1 68, .lt 70 10 8, ⟨⟨some 71, (.bslice false 10 [(I 0), (I 0), (I 0), (I 0), (B false), (B false), (I 0), (I 0), (I 0), (I 0)] 1 [(0, (.t 70))]), none⟩, ⟨G_Road, none, []⟩⟩, .s 72 (.app 10 72 (.t 69) (.t 71)), .fa 73 1 3, .st 1 73 72])))) (.r [.m 45 7, .bi 46 .add 45 1, .m 7 46])))
def z06_C4 : TC := (.seq (.seq (.r [.m 74 0, .s 75 (.call (.c (.fn 13 [])) [(.t 74), (.c (I 4))]), .m 9 75]) (.block 4 (.loop z06_N3 z06_C1))) z06_C2)
def z06_C5 : TC := (.seq (.seq (.r [.m 20 5, .m 21 4, .b 22 .lss 20 21]) (.cond (.t 22) .skip (.exit 0))) (.seq (.block 1 (.rg [.fa 25 0 3, .lf 26 1 25, .m 27 0, .s 28 (.call (.c (.fn 13 [])) [(.t 27), (.c (I 4))]), .s 29 (.bin .mul (.c (I (-10))) (.t 28)), .m 30 5, .bi 31 .eql 30 0, .m 32 31, .v 32 (.m 33 0), .v 32
  (.s 34 (.call (.c (.fn 14 [])) [(.t 33), (.c (I 6))])), .pt 35 32 34, .s 36 (.build [(I 0), (B false)] [(0, (1, (.t 29))), (1, (1, (.t 35)))]), ⟨⟨some 37, (.bslice false 2 [(I 0), (B false)] 1 [(0, (.t 36))]), none⟩, ⟨G_Place, none, []⟩⟩, .s 38 (.app 2 16 (.t 26) (.t 37)), .fa 39 0 3, .st 1 39 38]
  (some [(0, 3), (1, 3), (0, 9), (1, 9)]))) (.r [.m 23 5, .bi 24 .add 23 1, .m 5 24])))
def z06_C6 : TC := (.seq (.r [.s 40 (.build [(I 0), (I 0)] [(0, (1, (.c (I 1)))), (1, (1, (.c (I 1))))]), .s 41 (.build [(I 0), (I 0), (I 0), (I 0), (B false), (B false), (I 0), (I 0), (I 0), (I 0)] [(2, (1, (.c (I 12)))), (3, (1, (.c (I 10)))), (4, (1, (.c (B true)))), (6, (2, (.t 40)))]), .s 6 (.alloc [(I 0), (I
  0), (I 0), (I 0), (B false), (B false), (I 0), (I 0), (I 0), (I 0)]), .st 10 6 41]) (.seq (.seq (.r [.mi 7 1]) (.block 2 (.loop z06_N2 z06_C3))) z06_C4))
def z06_C7 : TC := (.seq (.seq (.r [.mi 5 0]) (.block 0 (.loop z06_N1 z06_C5))) z06_C6)
def z06_C8 : TC := (.seq (.r [.s 2 (.alloc [(.lst true []), (.lst true [])])]) (.seq (.r [.s 3 (.alloc [(.lst true []), (.lst true [])])]) (.seq (.r [.m 11 0, .s 12 (.call (.c (.fn 13 [])) [(.t 11), (.c (I 6))]), .s 13 (.bin .add (.c (I 2)) (.t 12)), .m 4 13]) (.seq (.seq (.r [.m 14 0, .s 15 (.nilck (.t 14)), .fa 16
  0 15, .lf 17 1 16, .ln 18 17, .bi 19 .eql 18 0]) (.cond (.t 19) (.r [.mi 4 4]) .skip)) (.join [.keep [0, 2, 3, 4], .cmp] z06_C7)))))
def z06_E (N : Nat) : List (Nat × Ent) := [(13, sfE [none, none] [.b (.v G_Dice), .v GI] [.v GI] (fun x => z07 N x.1 x.2)), (14, sfE [none, none] [.b (.v G_Dice), .v GI] [.v .bool] (fun x => z09 N x.1 x.2)), (30, sfE [none, none] [.b (.v G_Dice), .v (.list GI)] [.v GI] (fun x => z08 N x.1 x.2))]
def z06_L3 (N : Nat) (n : Nat) (x62 x63 : Int) (x64 : List Int) (x65 x66 x67 x68 x69 : Int) (x70 x71 : Bool) (x72 x73 x74 x75 : Int) (x76 : List T_Place) (x77 : List T_Road) : Option (T_Mine × T_Dice) := loopN (normI 1 z06_N3) (run (z06_E N) N 1 z06_C1) n ⟨[(0, .ptr 0 0 0), (2, .ptr 1 0 0), (3, .ptr 2 0 0), (4, .int .i64 x62), (6, .ptr 3 0 0), (9, .int .i64 x63)], [some (.box 0 [.lst false GI x64, .int .i64 x65]), some (.box 0 [.nil, .nil]), some (.box 0 [.whole 4, .whole 5]), some (.box 0 [.int .i64 x66, .int .i64 x67, .int .i64 x68, .int .i64 x69, .bool x70, .bool x71, .int .i64 x72, .int .i64 x73, .int .i64 x74, .int .i64 x75]), some (.arr G_Place x76), some (.arr G_Road x77)]⟩ (blkK 4 (seqK (run (z06_E N) N 1 z06_C2) (finS z06_NE [(.cell 2 true 2)] [.b (.v G_Dice)] [.v G_Mine] 1 1)))
def z06_L2 (N : Nat) (n : Nat) (x24 x25 : Int) (x26 : List Int) (x27 x28 x29 x30 x31 : Int) (x32 x33 : Bool) (x34 x35 x36 x37 : Int) (x38 : List T_Place) (x39 : List T_Road) : Option (T_Mine × T_Dice) := loopN (normI 1 z06_N2) (run (z06_E N) N 1 z06_C3) n ⟨[(0, .ptr 0 0 0), (2, .ptr 1 0 0), (3, .ptr 2 0 0), (4, .int .i64 x24), (6, .ptr 3 0 0), (7, .int .i64 x25)], [some (.box 0 [.lst false GI x26, .int .i64 x27]), some (.box 0 [.nil, .nil]), some (.box 0 [.whole 4, .whole 5]), some (.box 0 [.int .i64 x28, .int .i64 x29, .int .i64 x30, .int .i64 x31, .bool x32, .bool x33, .int .i64 x34, .int .i64 x35, .int .i64 x36, .int .i64 x37]), some (.arr G_Place x38), some (.arr G_Road x39)]⟩ (blkK 2 (seqK (run (z06_E N) N 1 z06_C4) (finS z06_NE [(.cell 2 true 2)] [.b (.v G_Dice)] [.v G_Mine] 1 1)))
def z06_L1 (N : Nat) (n : Nat) (x5 x6 : Int) (x7 : List Int) (x8 : Int) (x9 : List T_Place) : Option (T_Mine × T_Dice) := loopN (normI 1 z06_N1) (run (z06_E N) N 1 z06_C5) n ⟨[(0, .ptr 0 0 0), (2, .ptr 1 0 0), (3, .ptr 2 0 0), (4, .int .i64 x5), (5, .int .i64 x6)], [some (.box 0 [.lst false GI x7, .int .i64 x8]), some (.box 0 [.nil, .nil]), some (.box 0 [.whole 3, .nil]), some (.arr G_Place x9)]⟩ (blkK 0 (seqK (run (z06_E N) N 1 z06_C6) (finS z06_NE [(.cell 2 true 2)] [.b (.v G_Dice)] [.v G_Mine] 1 1)))
def z06_J1 (N : Nat) (JM : Nat) (x2 : Int) (x3 : List Int) (x4 : Int) : Option (T_Mine × T_Dice) := joinN (run (z06_E N) N 1 z06_C7) JM ⟨[(0, .ptr 0 0 0), (2, .ptr 1 0 0), (3, .ptr 2 0 0), (4, .int .i64 x2)], [some (.box 0 [.lst false GI x3, .int .i64 x4]), some (.box 0 [.nil, .nil]), some (.box 0 [.nil, .nil])]⟩ (finS z06_NE [(.cell 2 true 2)] [.b (.v G_Dice)] [.v G_Mine] 1 1)
theorem z06_L3_succ (N : Nat) (n3 : Nat) (x62 x63 : Int) (x64 : List Int) (x65 x66 x67 x68 x69 : Int) (x70 x71 : Bool) (x72 x73 x74 x75 : Int) (x76 : List T_Place) (x77 : List T_Road) : z06_L3 N (n3 + 1) x62 x63 x64 x65 x66 x67 x68 x69 x70 x71 x72 x73 x74 x75 x76 x77 =
 bif (decide (x63 > 0)) then
  bif (decide ((x77.length : Int) < 10)) then
   Option.bind (z07 N (x64, x65) x62) fun r78 =>
   Option.bind (z07 N r78.2 x62) fun r79 =>
   Option.bind (z08 N r79.2 [11, 59, 199]) fun r80 =>
   Option.bind (z08 N r80.2 [9, 3]) fun r81 =>
   Option.bind (z07 N r81.2 5) fun r82 =>
   Option.bind (z09 N r82.2 6) fun r83 =>
   bif (r78.1 != r79.1) then
    bif fitsB (x77.length + 1) 72 then
    z06_L3 N n3 x62 (W (x63 - 1)) r83.2.1 r83.2.2 x66 x67 x68 x69 x70 x71 x72 x73 x74 x75 x76 (x77 ++ [(r78.1, (r79.1, (W (1 + r80.1), (W (1 + r81.1), ((decide (r82.1 > 0)), (r83.1, ((x72, x73), (x74, x75))))))))])
    else none
   else
    z06_L3 N n3 x62 (W (x63 - 1)) r83.2.1 r83.2.2 x66 x67 x68 x69 x70 x71 x72 x73 x74 x75 x76 x77
  else
   some ((x76, x77), (x64, x65))
 else
  some ((x76, x77), (x64, x65)) := by kernel_rfl
theorem z06_L2_succ (N : Nat) (n2 : Nat) (x24 x25 : Int) (x26 : List Int) (x27 x28 x29 x30 x31 : Int) (x32 x33 : Bool) (x34 x35 x36 x37 : Int) (x38 : List T_Place) (x39 : List T_Road) : z06_L2 N (n2 + 1) x24 x25 x26 x27 x28 x29 x30 x31 x32 x33 x34 x35 x36 x37 x38 x39 =
 bif (decide (x25 < x24)) then
  Option.bind (z07 N (x26, x27) (min x25 2)) fun r40 =>
  Option.bind (z08 N r40.2 [11, 59, 119, 4]) fun r42 =>
  Option.bind (z08 N r42.2 [9, 3, 19]) fun r43 =>
  bif fitsB (x39.length + 1) 72 then
  z06_L2 N n2 x24 (W (x25 + 1)) r43.2.1 r43.2.2 x28 x29 x30 x31 x32 x33 x34 x35 x36 x37 x38 (x39 ++ [((W ((W (x25 - 1)) - r40.1)), (x25, (W (1 + r42.1), (W (1 + r43.1), (x32, (x33, ((x34, x35), (x36, x37))))))))])
  else none
 else
  Option.bind (z07 N (x26, x27) 4) fun r61 =>
  z06_L3 N N x24 r61.1 r61.2.1 r61.2.2 x28 x29 x30 x31 x32 x33 x34 x35 x36 x37 x38 x39 := by kernel_rfl
theorem z06_L1_succ (N : Nat) (n1 : Nat) (x5 x6 : Int) (x7 : List Int) (x8 : Int) (x9 : List T_Place) : z06_L1 N (n1 + 1) x5 x6 x7 x8 x9 =
 bif (decide (x6 < x5)) then
  Option.bind (z07 N (x7, x8) 4) fun r10 =>
  bif (x6 == 0) then
   bif fitsB (x9.length + 1) 16 then
   z06_L1 N n1 x5 (W (x6 + 1)) r10.2.1 r10.2.2 (x9 ++ [(W ((-10) * r10.1), true)])
   else none
  else
   Option.bind (z09 N r10.2 6) fun r17 =>
   bif fitsB (x9.length + 1) 16 then
   z06_L1 N n1 x5 (W (x6 + 1)) r17.2.1 r17.2.2 (x9 ++ [(W ((-10) * r10.1), r17.1)])
   else none
 else
  z06_L2 N N x5 1 x7 x8 0 0 12 10 true false 1 1 0 0 x9 [] := by kernel_rfl
theorem z06_J1_eq (N : Nat) (JM : Nat) (x2 : Int) (x3 : List Int) (x4 : Int) : z06_J1 N (JM + 1) x2 x3 x4 =
 z06_L1 N N x2 0 x3 x4 [] := by kernel_rfl
def z06 (N : Nat) (a0 : T_Dice) : Option (T_Mine × T_Dice) :=
 Option.bind (z07 N a0 6) fun r1 =>
 bif ((r1.2.1.length : Int) == 0) then
  z06_J1 N N 4 r1.2.1 r1.2.2
 else
  z06_J1 N N (W (2 + r1.1)) r1.2.1 r1.2.2
theorem z06_fn : FnOK Try.prog 12 124 (fun _ : Nat => false) z06_C8.er [(.cell 2 true 2)] := fk Try.func12
theorem z06_envok (N : Nat) : EnvOK Try.prog (z06_E N) := .cons (sfE_ok (z07_sf N)) (.cons (sfE_ok (z09_sf N)) (.cons (sfE_ok (z08_sf N)) (.nil)))
theorem z06_sf (N : Nat) : SFOK Try.prog 12 [none] [.b (.v G_Dice)] [.v G_Mine] (fun x => z06 N x) := sfOK (N := N) (p := 1) (q := 1) (ns := z06_NE) mixed z06_fn (z06_envok N) (TC.noh_ok (by kernel_rfl)) rfl rfl rfl (fun x => by kernel_rfl)
def z0l_N1 : List NS := [.wk 0 (.list GI), .keep [0, 1, 5], .cmp]
def z0l_C1 : TC := (.seq (.seq (.r [.m 6 5, .m 7 0, .ln 8 7, .b 9 .lss 6 8]) (.cond (.t 9) .skip (.exit 0))) (.seq (.block 1 (.seq (.r [.m 12 0, .m 13 5, .ia 14 1 12 13, .lf 15 1 14, .m 16 1, .b 17 .eql 15 16]) (.cond (.t 17) (.seq (.r [.mt 4]) .ret) .skip))) (.r [.m 10 5, .bi 11 .add 10 1, .m 5 11])))
def z0l_C2 : TC := (.seq (.r [.mf 4]) .ret)
def z0l_E (N : Nat) : List (Nat × Ent) := []
def z0l_L1 (N : Nat) (n : Nat) (x1 : List Int) (x2 x3 : Int) : Option Bool := loopN (normI 0 z0l_N1) (run (z0l_E N) N 0 z0l_C1) n ⟨[(0, .lst false GI x1), (1, .int .i64 x2), (5, .int .i64 x3)], []⟩ (blkK 0 (seqK (run (z0l_E N) N 0 z0l_C2) (fin [(.t 4)] [.bool])))
theorem z0l_L1_succ (N : Nat) (n1 : Nat) (x1 : List Int) (x2 x3 : Int) : z0l_L1 N (n1 + 1) x1 x2 x3 =
 bif (decide (x3 < (x1.length : Int))) then
  bif inB x3 x1.length then
  bif ((x1.getD x3.toNat 0) == x2) then
   some true
  else
   z0l_L1 N n1 x1 x2 (W (x3 + 1))
  else none
 else
  some false := by kernel_rfl
def z0l (N : Nat) (a0 : List Int) (a1 : Int) : Option Bool :=
 z0l_L1 N N a0 a1 0
def z0h (N : Nat) (a0 : T_Span) (a1 : Int) (a2 : Int) : Option Bool :=
 bif (decide (a1 ≤ a0.1)) then
  bif (decide (a0.1 ≤ a0.2)) then
   some (decide (a0.2 ≤ a2))
  else
   some false
 else
  some false
def z0g_N1 : List NS := [.keep [1, 3], .cmp]
def z0g_N2 : List NS := [.keep [1, 5], .cmp]
def z0g_C1 : TC := (.seq (.r [.fa 79 2 6, .lf 80 1 79, .bi 81 .lss 80 1, .m 82 81, .v 82 (.fa 83 2 6), .v 82 (.lf 84 1 83), .v 82 (.bi 85 .gtr 84 100000), .pt 86 82 85, .m 87 86, .v 87 (.fa 88 3 6), .v 87 (.lf 89 1 88), .v 87 (.bi 90 .lss 89 1), .pt 91 87 90, .m 92 91, .v 92 (.fa 93 3 6), .v 92 (.lf 94 1 93), .v 92
  (.bi 95 .gtr 94 1000), .pt 96 92 95, .m 97 96, .v 97 (.fa 98 6 6), .v 97 (.lt 99 2 98), .v 97 (.s 100 (.call (.c (.fn 71 [])) [(.t 99), (.c (I 1)), (.c (I 262144))])), .v 97 (.nt 101 100), .pt 102 97 101, .m 103 102, .v 103 (.fa 104 8 6), .v 103 (.lt 105 2 104), .v 103 (.s 106 (.call (.c (.fn 71
  [])) [(.t 105), (.c (I (-2199023255552))), (.c (I 2199023255552))])), .v 103 (.nt 107 106), .pt 108 103 107]) (.cond (.t 108) (.seq (.r [.mi 2 1]) .ret) .skip))
def z0g_C2 : TC := (.r [.m 41 5, .bi 42 .add 41 1, .m 5 42])
def z0g_C3 : TC := (.seq (.seq (.r [.m 36 5, .fa 37 1 1, .lf 38 1 37, .ln 39 38, .b 40 .lss 36 39]) (.cond (.t 40) .skip (.exit 2))) (.seq (.block 3 (.seq (.r [.fa 43 1 1, .lf 44 1 43, .m 45 5, .ia 46 10 44 45, .lt 47 10 46, .s 6 (.alloc [(I 0), (I 0), (I 0), (I 0), (B false), (B false), (I 0), (I 0), (I 0), (I 0)]),
  .st 10 6 47]) (.seq (.seq (.r [.fa 48 0 6, .lf 49 1 48, .bi 50 .lss 49 0, .m 51 50, .v 51 (.fa 52 0 6), .v 51 (.lf 53 1 52), .v 51 (.fa 54 0 1), .v 51 (.lf 55 1 54), .v 51 (.ln 56 55), .v 51 (.b 57 .geq 53 56), .pt 58 51 57, .m 59 58, .v 59 (.fa 60 1 6), .v 59 (.lf 61 1 60), .v 59 (.bi 62 .lss 61
  0), .pt 63 59 62, .m 64 63, .v 64 (.fa 65 1 6), .v 64 (.lf 66 1 65), .v 64 (.fa 67 0 1), .v 64 (.lf 68 1 67), .v 64 (.ln 69 68), .v 64 (.b 70 .geq 66 69), .pt 71 64 70, .m 72 71, .v 72 (.fa 73 0 6), .v 72 (.lf 74 1 73), .v 72 (.fa 75 1 6), .v 72 (.lf 76 1 75), .v 72 (.b 77 .eql 74 76), .pt 78 72
  77]) (.cond (.t 78) (.seq (.r [.mi 2 4]) .ret) .skip)) (.join [.keep [1, 5, 6], .cmp] z0g_C1)))) z0g_C2))
def z0g_C4 : TC := (.seq (.r [.mi 2 0]) .ret)
def z0g_C5 : TC := (.seq (.seq (.r [.m 17 3, .fa 18 0 1, .lf 19 1 18, .ln 20 19, .b 21 .lss 17 20]) (.cond (.t 21) .skip (.exit 0))) (.seq (.block 1 (.seq (.r [.fa 24 0 1, .lf 25 1 24, .m 26 3, .ia 27 2 25 26, .fa 28 0 27, .lf 29 1 28, .m 4 29]) (.seq (.r [.m 30 4, .s 31 (.bin .lss (.t 30) (.c (I (-10000)))), .m 32
  31, .v 32 (.m 33 4), .v 32 (.bi 34 .gtr 33 10000), .pt 35 32 34]) (.cond (.t 35) (.seq (.r [.mi 2 1]) .ret) .skip)))) (.r [.m 22 3, .bi 23 .add 22 1, .m 3 23])))
def z0g_C6 : TC := (.seq (.seq (.r [.mi 5 0]) (.block 2 (.loop z0g_N2 z0g_C3))) z0g_C4)
def z0g_C7 : TC := (.seq (.seq (.r [.mi 3 0]) (.block 0 (.loop z0g_N1 z0g_C5))) z0g_C6)
def z0g_E (N : Nat) : List (Nat × Ent) := [(71, pureE [G_Span, GI, GI] [.bool] (fun x => z0h N x.1 x.2.1 x.2.2))]
def z0g_J2 (N : Nat) (JM n2 : Nat) (x14 : Int) (x15 : List T_Place) (x16 : List T_Road) (x17 x18 x19 x20 : Int) (x21 x22 : Bool) (x23 x24 x25 x26 : Int) : Option Int := joinN (run (z0g_E N) N 0 z0g_C1) JM ⟨[(1, .ptr 0 0 0), (5, .int .i64 x14), (6, .ptr 1 0 0)], [some (.box 0 [.lst false G_Place x15, .lst false G_Road x16]), some (.box 0 [.int .i64 x17, .int .i64 x18, .int .i64 x19, .int .i64 x20, .bool x21, .bool x22, .int .i64 x23, .int .i64 x24, .int .i64 x25, .int .i64 x26])]⟩ (blkK 3 (seqK (run (z0g_E N) N 0 z0g_C2) (seqK (nextL (normI 0 z0g_N2) (loopN (normI 0 z0g_N2) (run (z0g_E N) N 0 z0g_C3) n2)) (blkK 2 (seqK (run (z0g_E N) N 0 z0g_C4) (fin [(.t 2)] [GI]))))))
def z0g_L2 (N : Nat) (n : Nat) (x10 : Int) (x11 : List T_Place) (x12 : List T_Road) : Option Int := loopN (normI 0 z0g_N2) (run (z0g_E N) N 0 z0g_C3) n ⟨[(1, .ptr 0 0 0), (5, .int .i64 x10)], [some (.box 0 [.lst false G_Place x11, .lst false G_Road x12])]⟩ (blkK 2 (seqK (run (z0g_E N) N 0 z0g_C4) (fin [(.t 2)] [GI])))
def z0g_L1 (N : Nat) (n : Nat) (x3 : Int) (x4 : List T_Place) (x5 : List T_Road) : Option Int := loopN (normI 0 z0g_N1) (run (z0g_E N) N 0 z0g_C5) n ⟨[(1, .ptr 0 0 0), (3, .int .i64 x3)], [some (.box 0 [.lst false G_Place x4, .lst false G_Road x5])]⟩ (blkK 0 (seqK (run (z0g_E N) N 0 z0g_C6) (fin [(.t 2)] [GI])))
def z0g_J1 (N : Nat) (JM : Nat) (x1 : List T_Place) (x2 : List T_Road) : Option Int := joinN (run (z0g_E N) N 0 z0g_C7) JM ⟨[(1, .ptr 0 0 0)], [some (.box 0 [.lst false G_Place x1, .lst false G_Road x2])]⟩ (fin [(.t 2)] [GI])
theorem z0g_J2_eq (N : Nat) (JM n2 : Nat) (x14 : Int) (x15 : List T_Place) (x16 : List T_Road) (x17 x18 x19 x20 : Int) (x21 x22 : Bool) (x23 x24 x25 x26 : Int) : z0g_J2 N (JM + 1) n2 x14 x15 x16 x17 x18 x19 x20 x21 x22 x23 x24 x25 x26 =
 bif (decide (x19 < 1)) then
  some 1
 else
  bif (decide (x19 > 100000)) then
   some 1
  else
   bif (decide (x20 < 1)) then
    some 1
   else
    bif (decide (x20 > 1000)) then
     some 1
    else
     Option.bind (z0h N (x23, x24) 1 262144) fun r27 =>
     bif (!r27) then
      some 1
     else
      Option.bind (z0h N (x25, x26) (-2199023255552) 2199023255552) fun r28 =>
      bif (!r28) then
       some 1
      else
       z0g_L2 N n2 (W (x14 + 1)) x15 x16 := by kernel_rfl
theorem z0g_L2_succ (N : Nat) (n2 : Nat) (x10 : Int) (x11 : List T_Place) (x12 : List T_Road) : z0g_L2 N (n2 + 1) x10 x11 x12 =
 bif (decide (x10 < (x12.length : Int))) then
  bif inB x10 x12.length then
  let v13 := x12.getD x10.toNat D_Road
  bif (decide (v13.1 < 0)) then
   some 4
  else
   bif (decide (v13.1 ≥ (x11.length : Int))) then
    some 4
   else
    bif (decide (v13.2.1 < 0)) then
     some 4
    else
     bif (decide (v13.2.1 ≥ (x11.length : Int))) then
      some 4
     else
      bif (v13.1 == v13.2.1) then
       some 4
      else
       z0g_J2 N N n2 x10 x11 x12 v13.1 v13.2.1 v13.2.2.1 v13.2.2.2.1 v13.2.2.2.2.1 v13.2.2.2.2.2.1 v13.2.2.2.2.2.2.1.1 v13.2.2.2.2.2.2.1.2 v13.2.2.2.2.2.2.2.1 v13.2.2.2.2.2.2.2.2
  else none
 else
  some 0 := by kernel_rfl
theorem z0g_L1_succ (N : Nat) (n1 : Nat) (x3 : Int) (x4 : List T_Place) (x5 : List T_Road) : z0g_L1 N (n1 + 1) x3 x4 x5 =
 bif (decide (x3 < (x4.length : Int))) then
  bif inB x3 x4.length then
  bif (decide ((x4.getD x3.toNat D_Place).1 < (-10000))) then
   some 1
  else
   bif (decide ((x4.getD x3.toNat D_Place).1 > 10000)) then
    some 1
   else
    z0g_L1 N n1 (W (x3 + 1)) x4 x5
  else none
 else
  z0g_L2 N N 0 x4 x5 := by kernel_rfl
theorem z0g_J1_eq (N : Nat) (JM : Nat) (x1 : List T_Place) (x2 : List T_Road) : z0g_J1 N (JM + 1) x1 x2 =
 z0g_L1 N N 0 x1 x2 := by kernel_rfl
def z0g (N : Nat) (a0 : T_Mine) : Option Int :=
 bif (decide ((a0.1.length : Int) > 64)) then
  some 2
 else
  bif (decide ((a0.2.length : Int) > 128)) then
   some 2
  else
   z0g_J1 N N a0.1 a0.2
def z0n_N1 : List NS := [.wk 0 (.list GI), .keep [0, 1, 5], .cmp]
def z0n_C1 : TC := (.seq (.seq (.r [.m 6 5, .m 7 0, .ln 8 7, .b 9 .lss 6 8]) (.cond (.t 9) .skip (.exit 0))) (.seq (.block 1 (.seq (.rg [.m 12 0, .m 13 5, .ia 14 1 12 13, .lf 15 1 14, .bi 16 .lss 15 0, .m 17 16, .v 17 (.m 18 0), .v 17 (.m 19 5), .v 17 (.ia 20 1 18 19), .v 17 (.lf 21 1 20), .v 17 (.m 22 1), .v 17 (.b
  23 .geq 21 22), .pt 24 17 23, .m 25 24, .v 25 (.m 26 5), .v 25 (.bi 27 .gtr 26 0), .v 25 (.m 28 27), .w 28 (.m 29 0), .w 28 (.m 30 5), .w 28 (.ia 31 1 29 30), .w 28 (.lf 32 1 31), .w 28 (.m 33 0), .w 28 (.m 34 5), .w 28 (.bi 35 .sub 34 1), .w 28 (.ia 36 1 33 35), .w 28 (.lf 37 1 36), .w 28 (.b 38
  .leq 32 37), .v 25 (.pf 39 28 38), .pt 40 25 39] (some [])) (.cond (.t 40) (.seq (.r [.mf 4]) .ret) .skip))) (.r [.m 10 5, .bi 11 .add 10 1, .m 5 11])))
def z0n_C2 : TC := (.seq (.r [.mt 4]) .ret)
def z0n_E (N : Nat) : List (Nat × Ent) := []
def z0n_L1 (N : Nat) (n : Nat) (x1 : List Int) (x2 x3 : Int) : Option Bool := loopN (normI 0 z0n_N1) (run (z0n_E N) N 0 z0n_C1) n ⟨[(0, .lst false GI x1), (1, .int .i64 x2), (5, .int .i64 x3)], []⟩ (blkK 0 (seqK (run (z0n_E N) N 0 z0n_C2) (fin [(.t 4)] [.bool])))
theorem z0n_L1_succ (N : Nat) (n1 : Nat) (x1 : List Int) (x2 x3 : Int) : z0n_L1 N (n1 + 1) x1 x2 x3 =
 bif (decide (x3 < (x1.length : Int))) then
  bif inB x3 x1.length then
  bif (decide ((x1.getD x3.toNat 0) < 0)) then
   some false
  else
   bif inB x3 x1.length then
   bif (decide ((x1.getD x3.toNat 0) ≥ x2)) then
    some false
   else
    bif (decide (x3 > 0)) then
     bif inB x3 x1.length then
     bif inB (W (x3 - 1)) x1.length then
     bif (decide ((x1.getD x3.toNat 0) ≤ (x1.getD (W (x3 - 1)).toNat 0))) then
      some false
     else
      z0n_L1 N n1 x1 x2 (W (x3 + 1))
     else none
     else none
    else
     z0n_L1 N n1 x1 x2 (W (x3 + 1))
   else none
  else none
 else
  some true := by kernel_rfl
def z0n (N : Nat) (a0 : List Int) (a1 : Int) : Option Bool :=
 z0n_L1 N N a0 a1 0
def z0t (N : Nat) (a0 : T_Mine) (a1 : T_Escape) : Option Bool :=
 Option.bind (z0g N a0) fun r1 =>
 bif (r1 == 0) then
  Option.bind (z0n N a1.1 (a0.1.length : Int)) fun r2 =>
  bif r2 then
   Option.bind (z0n N a1.2.1 (a0.1.length : Int)) fun r3 =>
   bif r3 then
    Option.bind (z0n N a1.2.2.1 (a0.2.length : Int)) fun r4 =>
    bif r4 then
     bif (decide (a1.2.2.2 ≥ 0)) then
      some (decide (a1.2.2.2 ≤ 2147483648))
     else
      some false
    else
     some false
   else
    some false
  else
   some false
 else
  some false
def z0r (N : Nat) (a0 : T_Mine) (a1 : T_Escape) (a2 : Int) : Option Bool :=
 bif inB a2 a0.1.length then
 bif (a0.1.getD a2.toNat D_Place).2 then
  some true
 else
  Option.bind (z0l N a1.1 a2) fun r2 =>
  some r2
 else none
def z0j (N : Nat) (a0 : T_Road) (a1 : Bool) : Option (Int × Int) :=
 bif a1 then
  some (a0.2.1, a0.1)
 else
  some (a0.1, a0.2.1)
def z0k_C1 : TC := (.seq (.r [.fa 49 1 6, .lf 50 1 49, .m 51 1, .ia 52 10 50 51, .lt 53 10 52, .s 13 (.alloc [(I 0), (I 0), (I 0), (I 0), (B false), (B false), (I 0), (I 0), (I 0), (I 0)]), .st 10 13 53]) (.seq (.r [.lt 55 10 13, .m 56 2, .c2 57 73 55 56, .m 54 57, .ex 58 0 54, .ex 59 1 54, .m 14 58, .m 15 59]) (.seq
  (.rg [.fa 60 0 6, .lf 61 1 60, .m 62 15, .ia 63 2 61 62, .fa 64 0 63, .lf 65 1 64, .fa 66 0 6, .lf 67 1 66, .m 68 14, .ia 69 2 67 68, .fa 70 0 69, .lf 71 1 70, .b 72 .sub 65 71, .m 16 72] (some [])) (.seq (.r [.m 73 5, .m 17 73]) (.seq (.seq (.r [.m 74 16, .s 75 (.bin .mul (.c (I 10)) (.t 74)),
  .fa 76 2 13, .lf 77 1 76, .b 78 .gtr 75 77]) (.cond (.t 78) (.r [.m 79 3, .m 17 79]) .skip)) (.seq (.seq (.r [.m 80 16, .s 81 (.bin .mul (.c (I (-10))) (.t 80)), .fa 82 2 13, .lf 83 1 82, .b 84 .gtr 81 83]) (.cond (.t 84) (.r [.m 85 4, .m 17 85]) .skip)) (.seq (.r [.fa 86 2 13, .lf 87 1 86, .s 88
  (.bin .mul (.c (I 10)) (.t 87)), .m 89 17, .b 90 .add 88 89, .bi 91 .sub 90 1, .m 92 17, .b 93 .quo 91 92, .m 12 93]) .ret)))))))
def z0k_E (N : Nat) : List (Nat × Ent) := [(59, pureE [G_Mine] [GI] (fun x => z0g N x)), (73, pureE [G_Road, .bool] [GI, GI] (fun x => z0j N x.1 x.2))]
def z0k_J1 (N : Nat) (JM : Nat) (x4 : Int) (x5 : Bool) (x6 x7 x8 : Int) (x9 : List T_Place) (x10 : List T_Road) : Option Int := joinN (run (z0k_E N) N 0 z0k_C1) JM ⟨[(1, .int .i64 x4), (2, .bool x5), (3, .int .i64 x6), (4, .int .i64 x7), (5, .int .i64 x8), (6, .ptr 0 0 0)], [some (.box 0 [.lst false G_Place x9, .lst false G_Road x10])]⟩ (fin [(.t 12)] [GI])
theorem z0k_J1_eq (N : Nat) (JM : Nat) (x4 : Int) (x5 : Bool) (x6 x7 x8 : Int) (x9 : List T_Place) (x10 : List T_Road) : z0k_J1 N (JM + 1) x4 x5 x6 x7 x8 x9 x10 =
 bif inB x4 x10.length then
 Option.bind (z0j N (x10.getD x4.toNat D_Road) x5) fun r12 =>
 bif inB r12.2 x9.length then
 let v13 := x9.getD r12.2.toNat D_Place
 bif inB r12.1 x9.length then
 let v14 := x9.getD r12.1.toNat D_Place
 bif (decide ((W (10 * (W (v13.1 - v14.1)))) > (x10.getD x4.toNat D_Road).2.2.1)) then
  bif (decide ((W ((-10) * (W (v13.1 - v14.1)))) > (x10.getD x4.toNat D_Road).2.2.1)) then
   bif x7 == 0 then none else
   some (W ((W ((W ((W (10 * (x10.getD x4.toNat D_Road).2.2.1)) + x7)) - 1)).tdiv x7))
  else
   bif x6 == 0 then none else
   some (W ((W ((W ((W (10 * (x10.getD x4.toNat D_Road).2.2.1)) + x6)) - 1)).tdiv x6))
 else
  bif (decide ((W ((-10) * (W (v13.1 - v14.1)))) > (x10.getD x4.toNat D_Road).2.2.1)) then
   bif x7 == 0 then none else
   some (W ((W ((W ((W (10 * (x10.getD x4.toNat D_Road).2.2.1)) + x7)) - 1)).tdiv x7))
  else
   bif x8 == 0 then none else
   some (W ((W ((W ((W (10 * (x10.getD x4.toNat D_Road).2.2.1)) + x8)) - 1)).tdiv x8))
 else none
 else none
 else none := by kernel_rfl
def z0k (N : Nat) (a0 : T_Mine) (a1 : Int) (a2 : Bool) (a3 : Int) (a4 : Int) (a5 : Int) : Option Int :=
 Option.bind (z0g N a0) fun r1 =>
 bif (r1 != 0) then
  some (-1)
 else
  bif (decide (a1 < 0)) then
   some (-1)
  else
   bif (decide (a1 ≥ (a0.2.length : Int))) then
    some (-1)
   else
    bif inB a1 a0.2.length then
    bif (a0.2.getD a1.toNat D_Road).2.2.2.2.2.1 then
     some (-1)
    else
     bif inB a1 a0.2.length then
     bif (!(a0.2.getD a1.toNat D_Road).2.2.2.2.1) then
      some (-1)
     else
      z0k_J1 N N a1 a2 a3 a4 a5 a0.1 a0.2
     else none
    else none
def z0i (N : Nat) (a0 : T_Mine) (a1 : Int) (a2 : Bool) : Option Int :=
 Option.bind (z0k N a0 a1 a2 2 3 4) fun r1 =>
 some r1
def z0w (N : Nat) (a0 : T_Mine) (a1 : Int) (a2 : Int) : Option (Int × Int) :=
 bif inB a1 a0.2.length then
 let v1 := a0.2.getD a1.toNat D_Road
 bif (v1.1 == a2) then
  Option.bind (z0i N a0 a1 false) fun r2 =>
  some (v1.2.1, r2)
 else
  bif (v1.2.1 == a2) then
   Option.bind (z0i N a0 a1 true) fun r3 =>
   some (v1.1, r3)
  else
   some (0, (-1))
 else none
def z0u (N : Nat) (a0 : T_Span) (a1 : T_Span) : Option Bool :=
 bif (decide (a0.1 < a1.1)) then
  some true
 else
  bif (a0.1 == a1.1) then
   some (decide (a0.2 < a1.2))
  else
   some false
def z0v_N1 : List NS := [.own 5 G_Span, .keep [2, 3, 5, 6], .cmp]
def z0v_N2 : List NS := [.wk 5 (.list G_Span), .keep [2, 3, 5, 8], .cmp]
def z0v_N3 : List NS := [.wk 5 (.list G_Span), .keep [2, 3, 5, 8, 9], .cmp]
def z0v_N4 : List NS := [.wk 5 (.list G_Span), .keep [2, 3, 5, 8, 9, 10], .cmp]
def z0v_C1 : TC := (.seq (.pre [.wait] (.rg [.m 86 5, .m 87 11, .ia 88 2 86 87, .fa 89 0 88, .lf 90 1 89, .m 91 12, .b 92 .add 90 91, .m 93 5, .m 94 11, .ia 95 2 93 94, .fa 96 1 95, .lf 97 1 96, .bi 98 .add 97 1, .s 99 (.build [(I 0), (I 0)] [(0, (1, (.t 92))), (1, (1, (.t 98)))]), ⟨⟨some 13, (.alloc [(I 0), (I 0)]),
  none⟩, ⟨.unit, some 3, []⟩⟩, .st 2 13 99] (some [(2, 14), (3, 14), (4, 14), (9, 14), (10, 14), (11, 14)]))) (.seq (.rg [.lt 100 2 13, .m 101 5, .m 102 9, .ia 103 2 101 102, .lt 104 2 103, .c2 105 69 100 104] (some [])) (.cond (.t 105) (.r [.m 106 5, .m 107 9, .lt 108 2 13, .ia 109 2 106 107, .st 2
  109 108, .mt 8]) .skip)))
def z0v_C2 : TC := (.r [.m 55 10, .bi 56 .add 55 1, .m 10 56])
def z0v_C3 : TC := (.seq (.seq (.r [.m 50 10, .fa 51 1 2, .lf 52 1 51, .ln 53 52, .b 54 .lss 50 53]) (.cond (.t 54) .skip (.exit 6))) (.seq (.block 7 (.seq (.r [.lt 58 2 2, .m 59 10, .m 60 9, .c3 61 55 58 59 60, .m 57 61, .ex 62 0 57, .ex 63 1 57, .m 11 62, .m 12 63]) (.seq (.seq (.r [.m 64 12, .bi 65 .lss 64 0, .m
  66 65, .v 66 (.fa 67 2 3), .v 66 (.lf 68 1 67), .v 66 (.m 69 10), .v 66 (.c2 70 24 68 69), .pt 71 66 70, .m 72 71, .v 72 (.fa 73 1 3), .v 72 (.lf 74 1 73), .v 72 (.m 75 11), .v 72 (.c2 76 24 74 75), .pt 77 72 76, .m 78 77, .v 78 (.m 79 5), .v 78 (.m 80 11), .v 78 (.ia 81 2 79 80), .v 78 (.fa 82 0
  81), .v 78 (.lf 83 1 82), .v 78 (.bi 84 .geq 83 1099511627776), .pt 85 78 84]) (.cond (.t 85) (.exit 7) .skip)) (.join [.wk 5 (.list G_Span), .keep [2, 3, 5, 8, 9, 10, 11, 12], .cmp] z0v_C1)))) z0v_C2))
def z0v_C4 : TC := (.r [.m 44 9, .bi 45 .add 44 1, .m 9 45])
def z0v_C5 : TC := (.seq (.seq (.r [.m 39 9, .fa 40 0 2, .lf 41 1 40, .ln 42 41, .b 43 .lss 39 42]) (.cond (.t 43) .skip (.exit 4))) (.seq (.block 5 (.seq (.seq (.r [.lt 46 2 2, .lt 47 4 3, .m 48 9, .c3 49 51 46 47 48]) (.cond (.t 49) (.exit 5) .skip)) (.seq (.r [.mi 10 0]) (.block 6 (.loop z0v_N4
  z0v_C3))))) z0v_C4))
def z0v_C6 : TC := (.seq (.seq (.r [.m 38 8]) (.cond (.t 38) .skip (.exit 2))) (.block 3 (.seq (.r [.mf 8]) (.seq (.r [.mi 9 0]) (.block 4 (.loop z0v_N3 z0v_C5))))))
def z0v_C7 : TC := (.seq (.r [.m 110 5, .m 4 110]) (.pre [.frz 4] .ret))
def z0v_C8 : TC := (.seq (.seq (.r [.m 14 6, .fa 15 0 2, .lf 16 1 15, .ln 17 16, .b 18 .lss 14 17]) (.cond (.t 18) .skip (.exit 0))) (.seq (.block 1 (.seq (.r [.s 21 (.build [(I 0), (I 0)] [(0, (1, (.c (I 1099511627776)))), (1, (1, (.c (I 0))))]), .s 7 (.alloc [(I 0), (I 0)]), .st 2 7 21]) (.seq (.seq (.r [.lt 22 2
  2, .lt 23 4 3, .m 24 6, .c3 25 51 22 23 24, .m 26 25, .w 26 (.fa 27 1 3), .w 26 (.lf 28 1 27), .w 26 (.m 29 6), .w 26 (.c2 30 24 28 29), .w 26 (.nt 31 30), .pf 32 26 31]) (.cond (.t 32) (.r [.fa 33 0 7, .d (.store 1 (.t 33) (.c (I 0)))]) .skip)) (.r [.m 34 5, .lt 35 2 7, ⟨⟨some 36, (.bslice false
  2 [(I 0), (I 0)] 1 [(0, (.t 35))]), none⟩, ⟨G_Span, none, []⟩⟩, .s 37 (.app 2 16 (.t 34) (.t 36)), .m 5 37])))) (.r [.m 19 6, .bi 20 .add 19 1, .m 6 20])))
def z0v_C9 : TC := (.seq (.seq (.r [.mt 8]) (.block 2 (.loop z0v_N2 z0v_C6))) z0v_C7)
def z0v_E (N : Nat) : List (Nat × Ent) := [(51, pureE [G_Mine, G_Escape, GI] [.bool] (fun x => z0r N x.1 x.2.1 x.2.2)), (24, pureE [(.list GI), GI] [.bool] (fun x => z0l N x.1 x.2)), (55, pureE [G_Mine, GI, GI] [GI, GI] (fun x => z0w N x.1 x.2.1 x.2.2)), (69, pureE [G_Span, G_Span] [.bool] (fun x => z0u N x.1 x.2))]
def z0v_J1 (N : Nat) (JM n4 n3 n2 : Nat) (x119 : Bool) (x120 x121 x122 x123 : Int) (x124 : List T_Place) (x125 : List T_Road) (x126 x127 x128 : List Int) (x129 : Int) (x130 : List T_Span) : Option (List T_Span) := joinN (run (z0v_E N) N 0 z0v_C1) JM ⟨[(2, .ptr 0 0 0), (3, .ptr 1 0 0), (5, .whole 2), (8, .bool x119), (9, .int .i64 x120), (10, .int .i64 x121), (11, .int .i64 x122), (12, .int .i64 x123)], [some (.box 0 [.lst false G_Place x124, .lst false G_Road x125]), some (.box 0 [.lst false GI x126, .lst false GI x127, .lst false GI x128, .int .i64 x129]), some (.arr G_Span x130)]⟩ (blkK 7 (seqK (run (z0v_E N) N 0 z0v_C2) (seqK (nextL (normI 0 z0v_N4) (loopN (normI 0 z0v_N4) (run (z0v_E N) N 0 z0v_C3) n4)) (blkK 6 (blkK 5 (seqK (run (z0v_E N) N 0 z0v_C4) (seqK (nextL (normI 0 z0v_N3) (loopN (normI 0 z0v_N3) (run (z0v_E N) N 0 z0v_C5) n3)) (blkK 4 (blkK 3 (seqK (nextL (normI 0 z0v_N2) (loopN (normI 0 z0v_N2) (run (z0v_E N) N 0 z0v_C6) n2)) (blkK 2 (seqK (run (z0v_E N) N 0 z0v_C7) (fin [(.t 4)] [(.list G_Span)])))))))))))))
def z0v_L4 (N : Nat) (n3 n2 : Nat) (n : Nat) (x65 : Bool) (x66 x67 : Int) (x68 : List T_Place) (x69 : List T_Road) (x70 x71 x72 : List Int) (x73 : Int) (x74 : List T_Span) : Option (List T_Span) := loopN (normI 0 z0v_N4) (run (z0v_E N) N 0 z0v_C3) n ⟨[(2, .ptr 0 0 0), (3, .ptr 1 0 0), (5, .whole 2), (8, .bool x65), (9, .int .i64 x66), (10, .int .i64 x67)], [some (.box 0 [.lst false G_Place x68, .lst false G_Road x69]), some (.box 0 [.lst false GI x70, .lst false GI x71, .lst false GI x72, .int .i64 x73]), some (.arr G_Span x74)]⟩ (blkK 6 (blkK 5 (seqK (run (z0v_E N) N 0 z0v_C4) (seqK (nextL (normI 0 z0v_N3) (loopN (normI 0 z0v_N3) (run (z0v_E N) N 0 z0v_C5) n3)) (blkK 4 (blkK 3 (seqK (nextL (normI 0 z0v_N2) (loopN (normI 0 z0v_N2) (run (z0v_E N) N 0 z0v_C6) n2)) (blkK 2 (seqK (run (z0v_E N) N 0 z0v_C7) (fin [(.t 4)] [(.list G_Span)]))))))))))
def z0v_L3 (N : Nat) (n2 : Nat) (n : Nat) (x46 : Bool) (x47 : Int) (x48 : List T_Place) (x49 : List T_Road) (x50 x51 x52 : List Int) (x53 : Int) (x54 : List T_Span) : Option (List T_Span) := loopN (normI 0 z0v_N3) (run (z0v_E N) N 0 z0v_C5) n ⟨[(2, .ptr 0 0 0), (3, .ptr 1 0 0), (5, .whole 2), (8, .bool x46), (9, .int .i64 x47)], [some (.box 0 [.lst false G_Place x48, .lst false G_Road x49]), some (.box 0 [.lst false GI x50, .lst false GI x51, .lst false GI x52, .int .i64 x53]), some (.arr G_Span x54)]⟩ (blkK 4 (blkK 3 (seqK (nextL (normI 0 z0v_N2) (loopN (normI 0 z0v_N2) (run (z0v_E N) N 0 z0v_C6) n2)) (blkK 2 (seqK (run (z0v_E N) N 0 z0v_C7) (fin [(.t 4)] [(.list G_Span)]))))))
def z0v_L2 (N : Nat) (n : Nat) (x38 : Bool) (x39 : List T_Place) (x40 : List T_Road) (x41 x42 x43 : List Int) (x44 : Int) (x45 : List T_Span) : Option (List T_Span) := loopN (normI 0 z0v_N2) (run (z0v_E N) N 0 z0v_C6) n ⟨[(2, .ptr 0 0 0), (3, .ptr 1 0 0), (5, .whole 2), (8, .bool x38)], [some (.box 0 [.lst false G_Place x39, .lst false G_Road x40]), some (.box 0 [.lst false GI x41, .lst false GI x42, .lst false GI x43, .int .i64 x44]), some (.arr G_Span x45)]⟩ (blkK 2 (seqK (run (z0v_E N) N 0 z0v_C7) (fin [(.t 4)] [(.list G_Span)])))
def z0v_L1 (N : Nat) (n : Nat) (x1 : Int) (x2 : List T_Place) (x3 : List T_Road) (x4 x5 x6 : List Int) (x7 : Int) (x8 : List T_Span) : Option (List T_Span) := loopN (normI 0 z0v_N1) (run (z0v_E N) N 0 z0v_C8) n ⟨[(2, .ptr 0 0 0), (3, .ptr 1 0 0), (5, .whole 2), (6, .int .i64 x1)], [some (.box 0 [.lst false G_Place x2, .lst false G_Road x3]), some (.box 0 [.lst false GI x4, .lst false GI x5, .lst false GI x6, .int .i64 x7]), some (.arr G_Span x8)]⟩ (blkK 0 (seqK (run (z0v_E N) N 0 z0v_C9) (fin [(.t 4)] [(.list G_Span)])))
theorem z0v_J1_eq (N : Nat) (JM n4 n3 n2 : Nat) (x119 : Bool) (x120 x121 x122 x123 : Int) (x124 : List T_Place) (x125 : List T_Road) (x126 x127 x128 : List Int) (x129 : Int) (x130 : List T_Span) : z0v_J1 N (JM + 1) n4 n3 n2 x119 x120 x121 x122 x123 x124 x125 x126 x127 x128 x129 x130 =
 bif inB x122 x130.length then
 let v131 := x130.getD x122.toNat D_Span
 bif inB x122 x130.length then
 let v132 := x130.getD x122.toNat D_Span
 bif inB x120 x130.length then
 Option.bind (z0u N (W (v131.1 + x123), W (v132.2 + 1)) (x130.getD x120.toNat D_Span)) fun r134 =>
 bif r134 then
  bif inB x120 x130.length then
  z0v_L4 N n3 n2 n4 true x120 (W (x121 + 1)) x124 x125 x126 x127 x128 x129 (x130.set x120.toNat (W (v131.1 + x123), W (v132.2 + 1)))
  else none
 else
  z0v_L4 N n3 n2 n4 x119 x120 (W (x121 + 1)) x124 x125 x126 x127 x128 x129 x130
 else none
 else none
 else none := by kernel_rfl
theorem z0v_L4_succ (N : Nat) (n3 n2 : Nat) (n4 : Nat) (x65 : Bool) (x66 x67 : Int) (x68 : List T_Place) (x69 : List T_Road) (x70 x71 x72 : List Int) (x73 : Int) (x74 : List T_Span) : z0v_L4 N n3 n2 (n4 + 1) x65 x66 x67 x68 x69 x70 x71 x72 x73 x74 =
 bif (decide (x67 < (x69.length : Int))) then
  Option.bind (z0w N (x68, x69) x67 x66) fun r75 =>
  bif (decide (r75.2 < 0)) then
   z0v_L4 N n3 n2 n4 x65 x66 (W (x67 + 1)) x68 x69 x70 x71 x72 x73 x74
  else
   Option.bind (z0l N x72 x67) fun r86 =>
   bif r86 then
    z0v_L4 N n3 n2 n4 x65 x66 (W (x67 + 1)) x68 x69 x70 x71 x72 x73 x74
   else
    Option.bind (z0l N x71 r75.1) fun r97 =>
    bif r97 then
     z0v_L4 N n3 n2 n4 x65 x66 (W (x67 + 1)) x68 x69 x70 x71 x72 x73 x74
    else
     bif inB r75.1 x74.length then
     bif (decide ((x74.getD r75.1.toNat D_Span).1 ≥ 1099511627776)) then
      z0v_L4 N n3 n2 n4 x65 x66 (W (x67 + 1)) x68 x69 x70 x71 x72 x73 x74
     else
      z0v_J1 N N n4 n3 n2 x65 x66 x67 r75.1 r75.2 x68 x69 x70 x71 x72 x73 x74
     else none
 else
  z0v_L3 N n2 n3 x65 (W (x66 + 1)) x68 x69 x70 x71 x72 x73 x74 := by kernel_rfl
theorem z0v_L3_succ (N : Nat) (n2 : Nat) (n3 : Nat) (x46 : Bool) (x47 : Int) (x48 : List T_Place) (x49 : List T_Road) (x50 x51 x52 : List Int) (x53 : Int) (x54 : List T_Span) : z0v_L3 N n2 (n3 + 1) x46 x47 x48 x49 x50 x51 x52 x53 x54 =
 bif (decide (x47 < (x48.length : Int))) then
  Option.bind (z0r N (x48, x49) (x50, (x51, (x52, x53))) x47) fun r55 =>
  bif r55 then
   z0v_L3 N n2 n3 x46 (W (x47 + 1)) x48 x49 x50 x51 x52 x53 x54
  else
   z0v_L4 N n3 n2 N x46 x47 0 x48 x49 x50 x51 x52 x53 x54
 else
  z0v_L2 N n2 x46 x48 x49 x50 x51 x52 x53 x54 := by kernel_rfl
theorem z0v_L2_succ (N : Nat) (n2 : Nat) (x38 : Bool) (x39 : List T_Place) (x40 : List T_Road) (x41 x42 x43 : List Int) (x44 : Int) (x45 : List T_Span) : z0v_L2 N (n2 + 1) x38 x39 x40 x41 x42 x43 x44 x45 =
 bif x38 then
  z0v_L3 N n2 N false 0 x39 x40 x41 x42 x43 x44 x45
 else
  some x45 := by kernel_rfl
theorem z0v_L1_succ (N : Nat) (n1 : Nat) (x1 : Int) (x2 : List T_Place) (x3 : List T_Road) (x4 x5 x6 : List Int) (x7 : Int) (x8 : List T_Span) : z0v_L1 N (n1 + 1) x1 x2 x3 x4 x5 x6 x7 x8 =
 bif (decide (x1 < (x2.length : Int))) then
  Option.bind (z0r N (x2, x3) (x4, (x5, (x6, x7))) x1) fun r9 =>
  bif r9 then
   Option.bind (z0l N x5 x1) fun r10 =>
   bif (!r10) then
    bif fitsB (x8.length + 1) 16 then
    z0v_L1 N n1 (W (x1 + 1)) x2 x3 x4 x5 x6 x7 (x8 ++ [(0, 0)])
    else none
   else
    bif fitsB (x8.length + 1) 16 then
    z0v_L1 N n1 (W (x1 + 1)) x2 x3 x4 x5 x6 x7 (x8 ++ [(1099511627776, 0)])
    else none
  else
   bif fitsB (x8.length + 1) 16 then
   z0v_L1 N n1 (W (x1 + 1)) x2 x3 x4 x5 x6 x7 (x8 ++ [(1099511627776, 0)])
   else none
 else
  z0v_L2 N N true x2 x3 x4 x5 x6 x7 x8 := by kernel_rfl
def z0v (N : Nat) (a0 : T_Mine) (a1 : T_Escape) : Option (List T_Span) :=
 z0v_L1 N N 0 a0.1 a0.2 a1.1 a1.2.1 a1.2.2.1 a1.2.2.2 []
def z0p_N1 : List NS := [.own 10 GI, .wk 9 (.list G_Span), .keep [2, 3, 4, 9, 10, 11], .cmp]
def z0p_N2 : List NS := [.own 10 GI, .wk 9 (.list G_Span), .keep [2, 3, 4, 9, 10, 11, 12], .cmp]
def z0p_C1 : TC := (.seq (.rg [.m 85 9, .m 86 13, .ia 87 2 85 86, .fa 88 0 87, .lf 89 1 88, .m 90 14, .b 91 .add 89 90, .m 92 9, .m 93 11, .ia 94 2 92 93, .fa 95 0 94, .lf 96 1 95, .b 97 .eql 91 96, .m 98 97, .w 98 (.m 99 9), .w 98 (.m 100 13), .w 98 (.ia 101 2 99 100), .w 98 (.fa 102 1 101), .w 98 (.lf 103 1 102),
  .w 98 (.bi 104 .add 103 1), .w 98 (.m 105 9), .w 98 (.m 106 11), .w 98 (.ia 107 2 105 106), .w 98 (.fa 108 1 107), .w 98 (.lf 109 1 108), .w 98 (.b 110 .eql 104 109), .pf 111 98 110] (some [])) (.cond (.t 111) (.seq (.r [.m 112 10, .m 113 12, ⟨⟨some 114, (.bslice false 1 [(I 0)] 1 [(0, (.t
  113))]), none⟩, ⟨GI, none, []⟩⟩, .s 115 (.app 1 8 (.t 112) (.t 114)), .m 116 13, .m 10 115, .m 11 116]) (.exit 2)) .skip))
def z0p_C2 : TC := (.r [.m 54 12, .bi 55 .add 54 1, .m 12 55])
def z0p_C3 : TC := (.seq (.seq (.r [.m 49 12, .fa 50 1 3, .lf 51 1 50, .ln 52 51, .b 53 .lss 49 52]) (.cond (.t 53) .skip (.exit 2))) (.seq (.block 3 (.seq (.r [.lt 57 2 3, .m 58 12, .m 59 11, .c3 60 55 57 58 59, .m 56 60, .ex 61 0 56, .ex 62 1 56, .m 13 61, .m 14 62]) (.seq (.seq (.r [.m 63 14, .bi 64 .lss 63 0, .m
  65 64, .v 65 (.fa 66 2 4), .v 65 (.lf 67 1 66), .v 65 (.m 68 12), .v 65 (.c2 69 24 67 68), .pt 70 65 69, .m 71 70, .v 71 (.fa 72 1 4), .v 71 (.lf 73 1 72), .v 71 (.m 74 13), .v 71 (.c2 75 24 73 74), .pt 76 71 75, .m 77 76, .v 77 (.m 78 9), .v 77 (.m 79 13), .v 77 (.ia 80 2 78 79), .v 77 (.fa 81 0
  80), .v 77 (.lf 82 1 81), .v 77 (.bi 83 .geq 82 1099511627776), .pt 84 77 83]) (.cond (.t 84) (.exit 3) .skip)) (.join [.wk 9 (.list G_Span), .wk 10 (.list GI), .keep [2, 3, 4, 9, 10, 11, 12, 13, 14], .cmp] z0p_C1)))) z0p_C2))
def z0p_C4 : TC := (.seq (.seq (.r [.lt 44 2 3, .lt 45 4 4, .m 46 11, .c3 47 51 44 45 46, .nt 48 47]) (.cond (.t 48) .skip (.exit 0))) (.block 1 (.seq (.r [.mi 12 0]) (.block 2 (.loop z0p_N2 z0p_C3)))))
def z0p_C5 : TC := (.pre [.frz 10] (.seq (.rg [.m 117 10, .m 118 9, .m 119 2, .ia 120 2 118 119, .fa 121 0 120, .lf 122 1 121, .m 6 117, .m 7 122, .mt 8] (some [])) (.pre [.frz 6] .ret)))
def z0p_C6 : TC := (.seq (.seq (.r [.lt 30 2 3, .lt 31 4 4, .m 32 2, .c3 33 51 30 31 32]) (.cond (.t 33) (.seq (.r [.mn 6, .mi 7 0, .mt 8]) (.pre [.frz 6] .ret)) .skip)) (.seq (.r [.lt 34 2 3, .lt 35 4 4, .c2 36 54 34 35, .m 9 36]) (.seq (.seq (.r [.m 37 9, .m 38 2, .ia 39 2 37 38, .fa 40 0 39, .lf 41 1 40, .bi 42
  .geq 41 1099511627776]) (.cond (.t 42) (.seq (.r [.mn 6, .mi 7 0, .mf 8]) (.pre [.frz 6] .ret)) .skip)) (.seq (.r [.mn 10]) (.seq (.seq (.r [.m 43 2, .m 11 43]) (.block 0 (.loop z0p_N1 z0p_C4))) z0p_C5)))))
def z0p_E (N : Nat) : List (Nat × Ent) := [(35, pureE [G_Mine, G_Escape] [.bool] (fun x => z0t N x.1 x.2)), (51, pureE [G_Mine, G_Escape, GI] [.bool] (fun x => z0r N x.1 x.2.1 x.2.2)), (54, pureE [G_Mine, G_Escape] [(.list G_Span)] (fun x => z0v N x.1 x.2)), (55, pureE [G_Mine, GI, GI] [GI, GI] (fun x => z0w N x.1 x.2.1 x.2.2)), (24, pureE [(.list GI), GI] [.bool] (fun x => z0l N x.1 x.2))]
def z0p_J2 (N : Nat) (JM n2 n1 : Nat) (x82 : Int) (x83 : List T_Span) (x84 x85 x86 x87 : Int) (x88 : List T_Place) (x89 : List T_Road) (x90 x91 x92 : List Int) (x93 : Int) (x94 : List Int) : Option ((List Int) × Int × Bool) := joinN (run (z0p_E N) N 0 z0p_C1) JM ⟨[(2, .int .i64 x82), (3, .ptr 0 0 0), (4, .ptr 1 0 0), (9, .lst false G_Span x83), (10, .whole 2), (11, .int .i64 x84), (12, .int .i64 x85), (13, .int .i64 x86), (14, .int .i64 x87)], [some (.box 0 [.lst false G_Place x88, .lst false G_Road x89]), some (.box 0 [.lst false GI x90, .lst false GI x91, .lst false GI x92, .int .i64 x93]), some (.arr GI x94)]⟩ (blkK 3 (seqK (run (z0p_E N) N 0 z0p_C2) (seqK (nextL (normI 0 z0p_N2) (loopN (normI 0 z0p_N2) (run (z0p_E N) N 0 z0p_C3) n2)) (blkK 2 (blkK 1 (seqK (nextL (normI 0 z0p_N1) (loopN (normI 0 z0p_N1) (run (z0p_E N) N 0 z0p_C4) n1)) (blkK 0 (seqK (run (z0p_E N) N 0 z0p_C5) (fin [(.t 6), (.t 7), (.t 8)] [(.list GI), GI, .bool])))))))))
def z0p_L2 (N : Nat) (n1 : Nat) (n : Nat) (x23 : Int) (x24 : List T_Span) (x25 x26 : Int) (x27 : List T_Place) (x28 : List T_Road) (x29 x30 x31 : List Int) (x32 : Int) (x33 : List Int) : Option ((List Int) × Int × Bool) := loopN (normI 0 z0p_N2) (run (z0p_E N) N 0 z0p_C3) n ⟨[(2, .int .i64 x23), (3, .ptr 0 0 0), (4, .ptr 1 0 0), (9, .lst false G_Span x24), (10, .whole 2), (11, .int .i64 x25), (12, .int .i64 x26)], [some (.box 0 [.lst false G_Place x27, .lst false G_Road x28]), some (.box 0 [.lst false GI x29, .lst false GI x30, .lst false GI x31, .int .i64 x32]), some (.arr GI x33)]⟩ (blkK 2 (blkK 1 (seqK (nextL (normI 0 z0p_N1) (loopN (normI 0 z0p_N1) (run (z0p_E N) N 0 z0p_C4) n1)) (blkK 0 (seqK (run (z0p_E N) N 0 z0p_C5) (fin [(.t 6), (.t 7), (.t 8)] [(.list GI), GI, .bool]))))))
def z0p_L1 (N : Nat) (n : Nat) (x12 : Int) (x13 : List T_Span) (x14 : Int) (x15 : List T_Place) (x16 : List T_Road) (x17 x18 x19 : List Int) (x20 : Int) (x21 : List Int) : Option ((List Int) × Int × Bool) := loopN (normI 0 z0p_N1) (run (z0p_E N) N 0 z0p_C4) n ⟨[(2, .int .i64 x12), (3, .ptr 0 0 0), (4, .ptr 1 0 0), (9, .lst false G_Span x13), (10, .whole 2), (11, .int .i64 x14)], [some (.box 0 [.lst false G_Place x15, .lst false G_Road x16]), some (.box 0 [.lst false GI x17, .lst false GI x18, .lst false GI x19, .int .i64 x20]), some (.arr GI x21)]⟩ (blkK 0 (seqK (run (z0p_E N) N 0 z0p_C5) (fin [(.t 6), (.t 7), (.t 8)] [(.list GI), GI, .bool])))
def z0p_J1 (N : Nat) (JM : Nat) (x2 : Int) (x3 : List T_Place) (x4 : List T_Road) (x5 x6 x7 : List Int) (x8 : Int) : Option ((List Int) × Int × Bool) := joinN (run (z0p_E N) N 0 z0p_C6) JM ⟨[(2, .int .i64 x2), (3, .ptr 0 0 0), (4, .ptr 1 0 0)], [some (.box 0 [.lst false G_Place x3, .lst false G_Road x4]), some (.box 0 [.lst false GI x5, .lst false GI x6, .lst false GI x7, .int .i64 x8])]⟩ (fin [(.t 6), (.t 7), (.t 8)] [(.list GI), GI, .bool])
theorem z0p_J2_eq (N : Nat) (JM n2 n1 : Nat) (x82 : Int) (x83 : List T_Span) (x84 x85 x86 x87 : Int) (x88 : List T_Place) (x89 : List T_Road) (x90 x91 x92 : List Int) (x93 : Int) (x94 : List Int) : z0p_J2 N (JM + 1) n2 n1 x82 x83 x84 x85 x86 x87 x88 x89 x90 x91 x92 x93 x94 =
 bif inB x86 x83.length then
 bif inB x84 x83.length then
 bif ((W ((x83.getD x86.toNat D_Span).1 + x87)) == (x83.getD x84.toNat D_Span).1) then
  bif inB x86 x83.length then
  bif inB x84 x83.length then
  bif ((W ((x83.getD x86.toNat D_Span).2 + 1)) == (x83.getD x84.toNat D_Span).2) then
   bif fitsB (x94.length + 1) 8 then
   z0p_L1 N n1 x82 x83 x86 x88 x89 x90 x91 x92 x93 (x94 ++ [x85])
   else none
  else
   z0p_L2 N n1 n2 x82 x83 x84 (W (x85 + 1)) x88 x89 x90 x91 x92 x93 x94
  else none
  else none
 else
  z0p_L2 N n1 n2 x82 x83 x84 (W (x85 + 1)) x88 x89 x90 x91 x92 x93 x94
 else none
 else none := by kernel_rfl
theorem z0p_L2_succ (N : Nat) (n1 : Nat) (n2 : Nat) (x23 : Int) (x24 : List T_Span) (x25 x26 : Int) (x27 : List T_Place) (x28 : List T_Road) (x29 x30 x31 : List Int) (x32 : Int) (x33 : List Int) : z0p_L2 N n1 (n2 + 1) x23 x24 x25 x26 x27 x28 x29 x30 x31 x32 x33 =
 bif (decide (x26 < (x28.length : Int))) then
  Option.bind (z0w N (x27, x28) x26 x25) fun r34 =>
  bif (decide (r34.2 < 0)) then
   z0p_L2 N n1 n2 x23 x24 x25 (W (x26 + 1)) x27 x28 x29 x30 x31 x32 x33
  else
   Option.bind (z0l N x31 x26) fun r46 =>
   bif r46 then
    z0p_L2 N n1 n2 x23 x24 x25 (W (x26 + 1)) x27 x28 x29 x30 x31 x32 x33
   else
    Option.bind (z0l N x30 r34.1) fun r58 =>
    bif r58 then
     z0p_L2 N n1 n2 x23 x24 x25 (W (x26 + 1)) x27 x28 x29 x30 x31 x32 x33
    else
     bif inB r34.1 x24.length then
     bif (decide ((x24.getD r34.1.toNat D_Span).1 ≥ 1099511627776)) then
      z0p_L2 N n1 n2 x23 x24 x25 (W (x26 + 1)) x27 x28 x29 x30 x31 x32 x33
     else
      z0p_J2 N N n2 n1 x23 x24 x25 x26 r34.1 r34.2 x27 x28 x29 x30 x31 x32 x33
     else none
 else
  z0p_L1 N n1 x23 x24 x25 x27 x28 x29 x30 x31 x32 x33 := by kernel_rfl
theorem z0p_L1_succ (N : Nat) (n1 : Nat) (x12 : Int) (x13 : List T_Span) (x14 : Int) (x15 : List T_Place) (x16 : List T_Road) (x17 x18 x19 : List Int) (x20 : Int) (x21 : List Int) : z0p_L1 N (n1 + 1) x12 x13 x14 x15 x16 x17 x18 x19 x20 x21 =
 Option.bind (z0r N (x15, x16) (x17, (x18, (x19, x20))) x14) fun r22 =>
 bif (!r22) then
  z0p_L2 N n1 N x12 x13 x14 0 x15 x16 x17 x18 x19 x20 x21
 else
  bif inB x12 x13.length then
  some (x21, (x13.getD x12.toNat D_Span).1, true)
  else none := by kernel_rfl
theorem z0p_J1_eq (N : Nat) (JM : Nat) (x2 : Int) (x3 : List T_Place) (x4 : List T_Road) (x5 x6 x7 : List Int) (x8 : Int) : z0p_J1 N (JM + 1) x2 x3 x4 x5 x6 x7 x8 =
 Option.bind (z0r N (x3, x4) (x5, (x6, (x7, x8))) x2) fun r9 =>
 bif r9 then
  some ([], 0, true)
 else
  Option.bind (z0v N (x3, x4) (x5, (x6, (x7, x8)))) fun r10 =>
  bif inB x2 r10.length then
  bif (decide ((r10.getD x2.toNat D_Span).1 ≥ 1099511627776)) then
   some ([], 0, false)
  else
   z0p_L1 N N x2 r10 x2 x3 x4 x5 x6 x7 x8 []
  else none := by kernel_rfl
def z0p (N : Nat) (a0 : T_Mine) (a1 : T_Escape) (a2 : Int) : Option ((List Int) × Int × Bool) :=
 Option.bind (z0t N a0 a1) fun r1 =>
 bif (!r1) then
  some ([], 0, false)
 else
  bif (decide (a2 < 0)) then
   some ([], 0, false)
  else
   bif (decide (a2 ≥ (a0.1.length : Int))) then
    some ([], 0, false)
   else
    z0p_J1 N N a2 a0.1 a0.2 a1.1 a1.2.1 a1.2.2.1 a1.2.2.2
end
end M
end Go.Proofs.Ytiemlgicaibccaa
