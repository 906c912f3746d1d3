/- Plain models of functions of this seat, each checked against the loaded program and the walk by the kernel. No condition: closed facts. Printed by a program of ours. -/
import Derived.Test.YtgmpjkgogjkfcaaGreatI
set_option linter.all false
namespace Go.Proofs.YtgmpjkgogjkfcaaGreat
open Go.Pv
namespace M
noncomputable section
def U3:FD:=fd 22 nf [(.t 2)] Tryz.f124 [(6,{an:=[(3,⟨.bool,none,[]⟩)]}),(31,{w:=[(false,[.ej 2])]}),(58,{ns:=[.wk 3 (.list .bool),.wk 11 LI,.af [3,11,12,13],.cmp]})]
def Zl:Exit->SI->Option (List Bool):=fin [(.t 2)] [(.list .bool)]
section
variable (N n1:Nat) (x3:List Int) (x4 x5:Int) (x6:List Bool)
def GQ:Option (List Bool):=lp (K7 N).l N 0 U3.tc 43 [] Zl n1 ⟨[(3,.whole 0),(11,.l GI x3),(12,.i x4),(13,.i x5)],[some (.arr .bool x6)]⟩
theorem akh:GQ N (n1+1) x3 x4 x5 x6=
  bif(decide (x5<x4)) then
  bif ae x5 x3.length then
  bif ae (x3.getD x5.toNat 0) x6.length then
  GQ N n1 x3 x4 (W (x5+1)) (x6.set ((x3.getD x5.toNat 0).toNat) true)
  else none
  else none
  else
  some x6:=by kernel_rfl
end
def s4(N:Nat)(a0:dm):Option (List Bool):=
  bif eH 1 (a0.1.length:Int) (a0.1.length:Int) then
  (GK N a0).bind fun r2=>
  GQ N N r2 (r2.length:Int) 0 (List.replicate (a0.1.length:Int).toNat false)
  else none
theorem alk(N:Nat):bk Tryz.prog 124 [we] [(.list .bool)] (fun x=>s4 N x):=bG (N:=N) (fq U3 Tryz.func124) (K7 N).ok
def Nw(N:Nat):CE:=(K7 N).a (bD (alk N))
def RP:FD:=fd 25 nf [(.t 2)] Tryz.f149 [(122,{ns:=[.wk 0 LI,.af [0,3,4],.cmp]})]
def ar3:Exit->SI->Option Int:=fin [(.t 2)] [GI]
section
variable (N n1:Nat) (x2:List Int) (x3 x4:Int)
def GJ:Option Int:=lp (Nw N).l N 0 RP.tc 87 [] ar3 n1 ⟨[(0,.l GI x2),(3,.i x3),(4,.i x4)],[]⟩
theorem af6:GJ N (n1+1) x2 x3 x4=
  bif(decide (x4<(x2.length:Int))) then
  bif ae x4 x2.length then
  GJ N n1 x2 (min x3 (x2.getD x4.toNat 0)) (W (x4+1))
  else none
  else
  some x3:=by kernel_rfl
end
def F1(N:Nat)(a0:List Int):Option Int:=
  bif(decide ((a0.length:Int)<1)) then
  none
  else
  bif ae 0 a0.length then
  GJ N N a0 (a0.getD (0:Int).toNat 0) 1
  else none
theorem acf(N:Nat):bk Tryz.prog 149 [LI] [GI] (fun x=>F1 N x):=bG (N:=N) (fq RP Tryz.func149) (Nw N).ok
def O6(N:Nat):CE:=(Nw N).a (bD (acf N))
def Vq:FD:=fd 25 nf [(.t 2)] Tryz.f150 [(122,{ns:=[.wk 0 LI,.af [0,3,4],.cmp]})]
def axo:Exit->SI->Option Int:=fin [(.t 2)] [GI]
section
variable (N n1:Nat) (x2:List Int) (x3 x4:Int)
def Fu:Option Int:=lp (O6 N).l N 0 Vq.tc 87 [] axo n1 ⟨[(0,.l GI x2),(3,.i x3),(4,.i x4)],[]⟩
theorem amc:Fu N (n1+1) x2 x3 x4=
  bif(decide (x4<(x2.length:Int))) then
  bif ae x4 x2.length then
  Fu N n1 x2 (max x3 (x2.getD x4.toNat 0)) (W (x4+1))
  else none
  else
  some x3:=by kernel_rfl
end
def Ei(N:Nat)(a0:List Int):Option Int:=
  bif(decide ((a0.length:Int)<1)) then
  none
  else
  bif ae 0 a0.length then
  Fu N N a0 (a0.getD (0:Int).toNat 0) 1
  else none
theorem av4(N:Nat):bk Tryz.prog 150 [LI] [GI] (fun x=>Ei N x):=bG (N:=N) (fq Vq Tryz.func150) (O6 N).ok
def Wu(N:Nat):CE:=(O6 N).a (bD (av4 N))
def alc:FD:=fd 43 nf [(.cell 4 true 2)] Tryz.f139 []
def AX(N:Nat)(a0:bu)(a1:Int):Option aJ:=
  bif((a0.2.2.length:Int)==0) then
  some (0,0)
  else
  bif(decide (a1<(-1))) then
  some (0,0)
  else
  bif(decide (a1>=(a0.2.2.length:Int))) then
  some (0,0)
  else
  bif(a1==(-1)) then
  (F1 N a0.2.2).bind fun r1=>
  (Ei N a0.2.2).bind fun r2=>
  some (r1,r2)
  else
  bif ae a1 a0.2.2.length then
  bif ae a1 a0.2.2.length then
  some (a0.2.2.getD a1.toNat 0,a0.2.2.getD a1.toNat 0)
  else none
  else none
theorem Xn(N:Nat):bk Tryz.prog 139 [cu,GI] [bm] (fun x=>AX N x.1 x.2):=bG (N:=N) (fq alc Tryz.func139) (Wu N).ok
def E70(N:Nat):CE:=(Wu N).a (bD (Xn N))
def uq(N:Nat)(a0:bQ)(a1:bF):Option dV:=Cl (AX N) a0 a1
theorem YY(N:Nat):bk Tryz.prog 125 [iE,ep] [od] (fun x=>uq N x.1 x.2):=apc (Xn N)
def DD(N:Nat):CE:=(E70 N).a (bD (YY N))
def Mj:FD:=fd 70 nf [(.t 6)] Tryz.f143 [(250,{ns:=[.wk 2 LI,.wk 29 LI,.af [2,3,29,30,31],.cmp]}),(1018,{ns:=[.wk 2 LI,.wk 10 (.list .bool),.wk 47 (.list bU),.af [2,10,47,48,49],.cmp]})]
def RV:Exit->SI->Option Int:=fin [(.t 6)] [GI]
section
variable (N n1 n2:Nat) (x3 x4:List Int) (x5 x6:Int) (x7:List bj) (x8:List aR) (x9:List bC) (aj:List bu) (aH:List Int) (aE:List Bool) (aI:List bj) (aF az:Int)
def xb:Option Int:=lp (DD N).l N 0 Mj.tc 703 [] RV n2 ⟨[(2,.l GI aH),(10,.ab false .bool aE),(47,.l bU aI),(48,.i aF),(49,.i az)],[]⟩
def Ip:Option Int:=lp (DD N).l N 0 Mj.tc 175 [] RV n1 ⟨[(2,.l GI x3),(3,.ptr 0 0 0),(29,.l GI x4),(30,.i x5),(31,.i x6)],[some (m8 x7 x8 x9 aj)]⟩
theorem ap0:xb N (n2+1) aH aE aI aF az=
  bif(decide (az<aF)) then
  bif ae az aI.length then
  bif(aI.getD az.toNat rq).2 then
  bif ae az aH.length then
  bif((aH.getD az.toNat 0) !=0) then
  some 12
  else
  xb N n2 aH aE aI aF (W (az+1))
  else none
  else
  bif ae az aE.length then
  bif aE.getD az.toNat false then
  bif ae az aH.length then
  bif((aH.getD az.toNat 0) !=0) then
  some 12
  else
  xb N n2 aH aE aI aF (W (az+1))
  else none
  else
  xb N n2 aH aE aI aF (W (az+1))
  else none
  else none
  else
  some 0:=by kernel_rfl
theorem atv:Ip N (n1+1) x3 x4 x5 x6 x7 x8 x9 aj=
  bif(decide (x6<x5)) then
  bif ae x6 x4.length then
  bif(decide ((x4.getD x6.toNat 0)<(-70368744177664))) then
  some 1
  else
  bif(decide ((x4.getD x6.toNat 0)>70368744177664)) then
  some 1
  else
  Ip N n1 x3 x4 x5 (W (x6+1)) x7 x8 x9 aj
  else none
  else
  (s4 N (x7,x8)).bind fun fR=>
  xb N N x3 fR x7 (x7.length:Int) 0:=by kernel_rfl
end
def Cw(N:Nat)(a0:bQ)(a1:bF)(a2:List Int):Option Int:=
  (tj N a0).bind fun r1=>
  bif(r1 !=0) then
  some r1
  else
  (yj N a0 a1).bind fun r2=>
  bif(!r2) then
  some 21
  else
  bif((a2.length:Int) !=(a0.1.1.length:Int)) then
  some 11
  else
  Ip N N a2 a2 (a2.length:Int) 0 a0.1.1 a0.1.2 a0.2.1 a0.2.2
theorem aik(N:Nat):bk Tryz.prog 143 [iE,ep,LI] [GI] (fun x=>Cw N x.1 x.2.1 x.2.2):=bG (N:=N) (fq Mj Tryz.func143) (DD N).ok
def Sq(N:Nat):CE:=(DD N).a (bD (aik N))
def aec:FD:=fd 51 nf [(.t 4),(.t 5)] Tryz.f155 []
def D1(N:Nat)(a0:Int)(a1:Int):Option (Int×Int):=
  let v1:=IntKind.u64.wrap (BitVec.ofInt IntKind.u64.bits a0 &&& BitVec.ofInt IntKind.u64.bits 4294967295).toNat
  let v2:=a0.fdiv (2 ^ (min (32:Int).toNat IntKind.u64.bits))
  let v3:=IntKind.u64.wrap (BitVec.ofInt IntKind.u64.bits a1 &&& BitVec.ofInt IntKind.u64.bits 4294967295).toNat
  let v4:=a1.fdiv (2 ^ (min (32:Int).toNat IntKind.u64.bits))
  let v8:=IntKind.u64.wrap ((IntKind.u64.wrap (v2*v3))+((IntKind.u64.wrap (v1*v3)).fdiv (2 ^ (min (32:Int).toNat IntKind.u64.bits))))
  some ((IntKind.u64.wrap ((IntKind.u64.wrap ((IntKind.u64.wrap (v2*v4))+(v8.fdiv (2 ^ (min (32:Int).toNat IntKind.u64.bits)))))+((IntKind.u64.wrap ((IntKind.u64.wrap (BitVec.ofInt IntKind.u64.bits v8 &&& BitVec.ofInt IntKind.u64.bits 4294967295).toNat)+(IntKind.u64.wrap (v1*v4)))).fdiv (2 ^ (min (32:Int).toNat IntKind.u64.bits))))),(IntKind.u64.wrap (a0*a1)))
theorem ako(N:Nat):bk Tryz.prog 155 [(.int .u64),(.int .u64)] [(.int .u64),(.int .u64)] (fun x=>D1 N x.1 x.2):=bG (N:=N) (fq aec Tryz.func155) (Sq N).ok
def XQ(N:Nat):CE:=(Sq N).a (bD (ako N))
def aja:FD:=fd 135 nf [(.t 6),(.t 7)] Tryz.f156 [(65535,{w:=[(true,[.af [2,8,9,10,11,13,14,15],.cmp])]})]
def FK(N:Nat)(a0:Int)(a1:Int)(a2:Int):Option (Int×Int):=
  bif(a2==0) then
  none
  else
  bif(decide (a2<=a0)) then
  none
  else
  bif(a0==0) then
  bif a2==0 then none else
  bif a2==0 then none else
  some ((IntKind.u64.wrap (a1.tdiv a2)),a1.tmod a2)
  else
  none
theorem abk(N:Nat):bk Tryz.prog 156 [(.int .u64),(.int .u64),(.int .u64)] [(.int .u64),(.int .u64)] (fun x=>FK N x.1 x.2.1 x.2.2):=bG (N:=N) (fq aja Tryz.func156) (XQ N).ok
def Uz(N:Nat):CE:=(XQ N).a (bD (abk N))
def agz:FD:=fd 57 nf [(.cell 6 true 2)] Tryz.f154 []
def EC(N:Nat)(a0:aJ)(a1:aJ)(a2:Int):Option aJ:=
  (D1 N (IntKind.u64.wrap (W (a0.2-a1.2))) (IntKind.u64.wrap (W (a2-a0.1)))).bind fun r3=>
  (FK N r3.1 r3.2 (IntKind.u64.wrap (W (a1.1-a0.1)))).bind fun r5=>
  bif(decide (r5.2>0)) then
  some ((W ((W (a0.2-(W r5.1)))-1)),W (a0.2-(W r5.1)))
  else
  some (W (a0.2-(W r5.1)),W (a0.2-(W r5.1)))
theorem aj6(N:Nat):bk Tryz.prog 154 [bm,bm,GI] [bm] (fun x=>EC N x.1 x.2.1 x.2.2):=bG (N:=N) (fq agz Tryz.func154) (Uz N).ok
def NT(N:Nat):CE:=(Uz N).a (bD (aj6 N))
def Rq:FD:=fd 62 nf [(.cell 4 true 2)] Tryz.f153 [(6,{w:=[(false,[.wait,.wait])],an:=[(12,⟨.unit,some 2,[]⟩),(13,⟨.unit,some 3,[]⟩)]}),(122,{ns:=[.af [1,2,4,6,7],.cmp]})]
def aol:Exit->SI->Option aJ:=fin [(.cell 4 true 2)] [bm]
section
variable (N n1:Nat) (x4 x5 x6:Int) (x7 x8:Bool) (x9:List aJ) (aj ak av ai:Int)
def Ga:Option aJ:=lp (NT N).l N 0 Rq.tc 87 [] aol n1 ⟨[(1,.i x4),(2,.ptr 0 0 0),(4,.ptr 1 0 0),(6,.ptr 2 0 0),(7,.i x5)],[some (.box 0 [.i x6,.bool x7,.bool x8,.l bm x9]),some (jG aj ak),some (.box 1 [.i av,.i ai])]⟩
theorem S0:Ga N (n1+1) x4 x5 x6 x7 x8 x9 aj ak av ai=
  bif(decide (x5<(x9.length:Int))) then
  bif ae x5 x9.length then
  bif(decide (x4<=(x9.getD x5.toNat dZ).1)) then
  bif ae (W (x5-1)) x9.length then
  bif ae x5 x9.length then
  (EC N (x9.getD (W (x5-1)).toNat dZ) (x9.getD x5.toNat dZ) x4).bind fun rQ=>
  some rQ
  else none
  else none
  else
  Ga N n1 x4 (W (x5+1)) x6 x7 x8 x9 aj ak av ai
  else none
  else
  some (ai,ai):=by kernel_rfl
end
def yf(N:Nat)(a0:bC)(a1:Int):Option aJ:=
  bif ae 0 a0.2.2.2.length then
  let v1:=a0.2.2.2.getD (0:Int).toNat dZ
  let v2:=W ((a0.2.2.2.length:Int)-1)
  bif ae v2 a0.2.2.2.length then
  let v3:=a0.2.2.2.getD v2.toNat dZ
  bif(decide (a1<=v1.1)) then
  some (v1.2,v1.2)
  else
  Ga N N a1 1 a0.1 a0.2.1 a0.2.2.1 a0.2.2.2 0 0 v3.1 v3.2
  else none
  else none
theorem ac2(N:Nat):bk Tryz.prog 153 [cJ,GI] [bm] (fun x=>yf N x.1 x.2):=bG (N:=N) (fq Rq Tryz.func153) (NT N).ok
def Td(N:Nat):CE:=(NT N).a (bD (ac2 N))
def au4:FD:=fd 24 nf [(.cell 6 true 2)] Tryz.f152 []
def vE(N:Nat)(a0:bC)(a1:Bool)(a2:Int):Option aJ:=
  bif(!a1) then
  (yf N a0 a2).bind fun r1=>
  some r1
  else
  (yf N a0 (W (0-a2))).bind fun r2=>
  some (W (0-r2.2),W (0-r2.1))
theorem aje(N:Nat):bk Tryz.prog 152 [cJ,.bool,GI] [bm] (fun x=>vE N x.1 x.2.1 x.2.2):=bG (N:=N) (fq au4 Tryz.func152) (Td N).ok
def Xo(N:Nat):CE:=(Td N).a (bD (aje N))
def afe:FD:=fd 45 nf [(.cell 6 true 2)] Tryz.f151 [(3452,{w:=[(false,[.wait,.wait])],an:=[(6,⟨.unit,some 2,[]⟩),(7,⟨.unit,some 3,[]⟩)]})]
def EI(N:Nat)(a0:bC)(a1:Int)(a2:Int):Option aJ:=
  bif(a1==1) then
  (vE N a0 a0.2.1 a2).bind fun r1=>
  some r1
  else
  bif(a1==2) then
  (vE N a0 (!a0.2.1) a2).bind fun r2=>
  some r2
  else
  bif(a1==(-1)) then
  (vE N a0 false a2).bind fun r3=>
  (vE N a0 true a2).bind fun r4=>
  some (min (min 0 r3.1) r4.1,max (max 0 r3.2) r4.2)
  else
  some (0,0)
theorem akt(N:Nat):bk Tryz.prog 151 [cJ,GI,GI] [bm] (fun x=>EI N x.1 x.2.1 x.2.2):=bG (N:=N) (fq afe Tryz.func151) (Xo N).ok
def Mx(N:Nat):CE:=(Xo N).a (bD (akt N))
def V1:FD:=fd 86 nf [(.cell 4 true 2)] Tryz.f140 [(1018,{ns:=[.wk 60 (.list AR),.af [1,4,6,60,61,62],.cmp]})]
def ab4:Exit->SI->Option aJ:=fin [(.cell 4 true 2)] [bm]
section
variable (N n1:Nat) (x7:Int) (x8:List pz) (x9 aj ak av ai ao:Int)
def Bh:Option aJ:=lp (Mx N).l N 0 V1.tc 703 [] ab4 n1 ⟨[(1,.i x7),(4,.ptr 0 0 0),(6,.ptr 1 0 0),(60,.l AR x8),(61,.i x9),(62,.i aj)],[some (jG ak av),some (jG ai ao)]⟩
theorem awe:Bh N (n1+1) x7 x8 x9 aj ak av ai ao=
  bif(decide (aj<x9)) then
  bif ae aj x8.length then
  let so:=x8.getD aj.toNat TK
  (EI N so.1 so.2 x7).bind fun pT=>
  Bh N n1 x7 x8 x9 (W (aj+1)) ak av (W (ai-pT.2)) (W (ao-pT.1))
  else none
  else
  some (ai,ao):=by kernel_rfl
end
def Ah(N:Nat)(a0:gi)(a1:Int):Option aJ:=
  bif(decide (a1<0)) then
  Bh N N a1 a0.2.2 (a0.2.2.length:Int) 0 0 0 (W ((W ((W (0-a0.1.2.2.2.2.2.2.1.2))*(W (a1*a1))))-a0.1.2.2.2.2.2.2.2.2)) (W ((W ((W (0-a0.1.2.2.2.2.2.2.1.1))*(W (a1*a1))))-a0.1.2.2.2.2.2.2.2.1))
  else
  Bh N N a1 a0.2.2 (a0.2.2.length:Int) 0 0 0 (W ((W (a0.1.2.2.2.2.2.2.1.1*(W (a1*a1))))-a0.1.2.2.2.2.2.2.2.2)) (W ((W (a0.1.2.2.2.2.2.2.1.2*(W (a1*a1))))-a0.1.2.2.2.2.2.2.2.1))
theorem ars(N:Nat):bk Tryz.prog 140 [sJ,GI] [bm] (fun x=>Ah N x.1 x.2):=bG (N:=N) (fq V1 Tryz.func140) (Mx N).ok
def Kx(N:Nat):CE:=(Mx N).a (bD (ars N))
def V8:FD:=fd 28 nf [(.t 4)] Tryz.f126 [(28,{ns:=[.af [1,2,5,6],.cmp]})]
def aw1:Exit->SI->Option Int:=fin [(.t 4)] [GI]
section
variable (N n1:Nat) (x1 x2 x3 x4 x5 x6 x7:Int) (x8 x9:Bool) (aj ak av ai ao:Int) (aq:List pz)
def AG:Option Int:=lp (Kx N).l N 0 V8.tc 19 [] aw1 n1 ⟨[(1,.i x1),(2,.ptr 0 0 0),(5,.i x2),(6,.i x3)],[some (.box 0 [.i x4,.i x5,.i x6,.i x7,.bool x8,.bool x9,.i aj,.i ak,.i av,.i ai,.i ao,.l AR aq])]⟩
theorem XH:AG N (n1+1) x1 x2 x3 x4 x5 x6 x7 x8 x9 aj ak av ai ao aq=
  bif(decide (x2<x3)) then
  let nL:=W ((W ((W (x3-x2))+1)).tdiv 2)
  (Ah N ((x4,(x5,(x6,(x7,(x8,(x9,((aj,ak),(av,ai)))))))),(ao,aq)) (W (x2+nL))).bind fun rQ=>
  bif(decide (rQ.2<=x1)) then
  AG N n1 x1 (W (x2+nL)) x3 x4 x5 x6 x7 x8 x9 aj ak av ai ao aq
  else
  AG N n1 x1 x2 (W ((W (x2+nL))-1)) x4 x5 x6 x7 x8 x9 aj ak av ai ao aq
  else
  some x2:=by kernel_rfl
end
def Aw(N:Nat)(a0:gi)(a1:Int):Option Int:=
  AG N N a1 (-1048577) 1048576 a0.1.1 a0.1.2.1 a0.1.2.2.1 a0.1.2.2.2.1 a0.1.2.2.2.2.1 a0.1.2.2.2.2.2.1 a0.1.2.2.2.2.2.2.1.1 a0.1.2.2.2.2.2.2.1.2 a0.1.2.2.2.2.2.2.2.1 a0.1.2.2.2.2.2.2.2.2 a0.2.1 a0.2.2
theorem adv(N:Nat):bk Tryz.prog 126 [sJ,GI] [GI] (fun x=>Aw N x.1 x.2):=bG (N:=N) (fq V8 Tryz.func126) (Kx N).ok
def Oc(N:Nat):CE:=(Kx N).a (bD (adv N))
def SL:FD:=fd 27 nf [(.t 4)] Tryz.f127 [(28,{ns:=[.af [1,2,5,6],.cmp]})]
def au8:Exit->SI->Option Int:=fin [(.t 4)] [GI]
section
variable (N n1:Nat) (x1 x2 x3 x4 x5 x6 x7:Int) (x8 x9:Bool) (aj ak av ai ao:Int) (aq:List pz)
def Ad:Option Int:=lp (Oc N).l N 0 SL.tc 19 [] au8 n1 ⟨[(1,.i x1),(2,.ptr 0 0 0),(5,.i x2),(6,.i x3)],[some (.box 0 [.i x4,.i x5,.i x6,.i x7,.bool x8,.bool x9,.i aj,.i ak,.i av,.i ai,.i ao,.l AR aq])]⟩
theorem Xa:Ad N (n1+1) x1 x2 x3 x4 x5 x6 x7 x8 x9 aj ak av ai ao aq=
  bif(decide (x2<x3)) then
  let nL:=W (x2+(W ((W (x3-x2)).tdiv 2)))
  (Ah N ((x4,(x5,(x6,(x7,(x8,(x9,((aj,ak),(av,ai)))))))),(ao,aq)) nL).bind fun rQ=>
  bif(decide (rQ.1>=x1)) then
  Ad N n1 x1 x2 nL x4 x5 x6 x7 x8 x9 aj ak av ai ao aq
  else
  Ad N n1 x1 (W (nL+1)) x3 x4 x5 x6 x7 x8 x9 aj ak av ai ao aq
  else
  some x2:=by kernel_rfl
end
def zr(N:Nat)(a0:gi)(a1:Int):Option Int:=
  Ad N N a1 (-1048576) 1048577 a0.1.1 a0.1.2.1 a0.1.2.2.1 a0.1.2.2.2.1 a0.1.2.2.2.2.1 a0.1.2.2.2.2.2.1 a0.1.2.2.2.2.2.2.1.1 a0.1.2.2.2.2.2.2.1.2 a0.1.2.2.2.2.2.2.2.1 a0.1.2.2.2.2.2.2.2.2 a0.2.1 a0.2.2
theorem afs(N:Nat):bk Tryz.prog 127 [sJ,GI] [GI] (fun x=>zr N x.1 x.2):=bG (N:=N) (fq SL Tryz.func127) (Oc N).ok
def Ll(N:Nat):CE:=(Oc N).a (bD (afs N))
def Wf:FD:=fd 57 nf [(.t 6)] Tryz.f137 [(58,{ns:=[.wk 1 LI,.wk 16 LI,.af [1,2,3,7,16,17,18],.cmp]})]
def ZA:Exit->SI->Option Int:=fin [(.t 6)] [GI]
section
variable (N n1:Nat) (x1:List Int) (x2 x3:Int) (x4:List Int) (x5 x6:Int) (x7:List gi) (x8:List (List Int))
def AB:Option Int:=lp (Ll N).l N 0 Wf.tc 43 [] ZA n1 ⟨[(1,.l GI x1),(2,.i x2),(3,.ptr 0 0 0),(7,.i x3),(16,.l GI x4),(17,.i x5),(18,.i x6)],[some (lP x7 x8)]⟩
theorem ar6:AB N (n1+1) x1 x2 x3 x4 x5 x6 x7 x8=
  bif(decide (x6<x5)) then
  bif ae x6 x4.length then
  bif ae (x4.getD x6.toNat 0) x7.length then
  let v9:=x7.getD (x4.getD x6.toNat 0).toNat iG
  bif ae v9.1.1 x1.length then
  bif ae v9.1.2.1 x1.length then
  let v10:=W ((x1.getD v9.1.1.toNat 0)-(x1.getD v9.1.2.1.toNat 0))
  bif(v9.1.1==x2) then
  (zr N v9 v10).bind fun kM=>
  AB N n1 x1 x2 (W (x3+kM)) x4 x5 (W (x6+1)) x7 x8
  else
  (Aw N v9 v10).bind fun Pn=>
  AB N n1 x1 x2 (W (x3-Pn)) x4 x5 (W (x6+1)) x7 x8
  else none
  else none
  else none
  else none
  else
  some x3:=by kernel_rfl
end
def zM(N:Nat)(a0:dV)(a1:List Int)(a2:Int):Option Int:=
  bif ae a2 a0.2.length then
  AB N N a1 a2 0 (a0.2.getD a2.toNat []) ((a0.2.getD a2.toNat []).length:Int) 0 a0.1 a0.2
  else none
theorem ape(N:Nat):bk Tryz.prog 137 [od,LI,GI] [GI] (fun x=>zM N x.1 x.2.1 x.2.2):=bG (N:=N) (fq Wf Tryz.func137) (Ll N).ok
def Sz(N:Nat):CE:=(Ll N).a (bD (ape N))
def axw:FD:=fd 15 nf [(.t 5)] Tryz.f145 [(15,{w:=[(false,[.aM 1 0 GI,.cO 3,.af [5],.out [0,2,3]])]})]
def anw:List NS:=[.aM 1 0 GI,.cO 3,.af [5],.out [0,2,3]]
def ry(N:Nat)(a0:Int)(a1:List Int)(a2:Int)(a3:dV):Option (Bool×((List Int)×Int×dV)):=
  bif ae a2 a1.length then
  (zM N a3 (a1.set a2.toNat a0) a2).bind fun r2=>
  some ((decide (r2<=0)),((a1.set a2.toNat a0),a2,a3))
  else none
theorem alz(N:Nat):dq Tryz.prog 145 [none,none,none,none] [.v GI,.b (.a GI),.b (.v GI),.b (.v od)] [.v .bool] (fun x=>ry N x.1 x.2.1 x.2.2.1 x.2.2.2):=dM (N:=N) (p:=4) (q:=5) (ns:=anw) (fq axw Tryz.func145) (Sz N).ok
def xD(N:Nat):CE:=(Sz N).a (cT (alz N))
def ER:FD:=fd 80 nf [(.t 6),(.t 7)] Tryz.f144 [(31,{w:=[(true,[.af [0,2,8,9],.out [0,2,3]])]}),(53,{w:=[(false,[.cO 3,.af [6,7],.out [0,2,3]])]}),(252,{ns:=[.af [0,2,8,9,10,11],.out [0,2,3]]}),(1020,{ns:=[.af [0,2,8,10,11],.out [0,2,3]]}),(1023,{w:=[(false,[.cO 3,.af [6,7],.out [0,
  2,3]])]}),(16301,{w:=[(false,[.cO 3,.af [6,7],.out [0,2,3]])]})]
def R8:List NS:=[.cO 3,.af [6,7],.out [0,2,3]]
def LZ:Exit->SI->Option ((Int×Bool)×((List Int)×Int×dV)):=fK R8 [(.t 6),(.t 7)] [.v GI,.v .bool,.b (.a GI),.b (.v GI),.b (.v od)] [.v GI,.v .bool] 4 5
section
variable (N JM n1 n2:Nat) (x2 x3 x4 x5:Int) (x6:List gi) (x7:List (List Int)) (x8:List Int) (x9 aj ak av ai ao:Int) (aq:List gi) (ax:List (List Int)) (ay:List Int) (aZ bp bn bx bq:Int) (bL:List gi) (bN:List (List Int)) (bz:List Int)
def pc:Option ((Int×Bool)×((List Int)×Int×dV)):=lp (xD N).l N 4 ER.tc 1263 [] LZ n2 ⟨[(0,.i aZ),(2,.fn 145 [.ptr 0 0 0,.ptr 2 0 0,.ptr 3 0 0]),(8,.i bp),(10,.i bn),(11,.i bx)],[some (.box 0 [.whole 4]),none,some (.box 0 [.i bq]),some (lP bL bN),some (.arr GI bz)]⟩
def FZ:Option ((Int×Bool)×((List Int)×Int×dV)):=lp (xD N).l N 4 ER.tc 303 [] LZ n1 ⟨[(0,.i x9),(2,.fn 145 [.ptr 0 0 0,.ptr 2 0 0,.ptr 3 0 0]),(8,.i aj),(9,.i ak),(10,.i av),(11,.i ai)],[some (.box 0 [.whole 4]),none,some (.box 0 [.i ao]),some (lP aq ax),some (.arr GI ay)]⟩
def Ez:Option ((Int×Bool)×((List Int)×Int×dV)):=jn (xD N).l N 4 ER.tc 31 [] LZ JM ⟨[(0,.i x2),(2,.fn 145 [.ptr 0 0 0,.ptr 2 0 0,.ptr 3 0 0]),(8,.i x3),(9,.i x4)],[some (.box 0 [.whole 4]),none,some (.box 0 [.i x5]),some (lP x6 x7),some (.arr GI x8)]⟩
theorem UC:pc N (n2+1) aZ bp bn bx bq bL bN bz=
  bif(decide ((W (bn+1))<bx)) then
  let qu:=W ((W (bx-bn)).tdiv 2)
  (ry N (W (aZ+(W (bp*(W (bn+qu)))))) bz bq (bL,bN)).bind fun ij=>
  bif ij.1 then
  pc N n2 aZ bp bn (W (bn+qu)) ij.2.2.1 ij.2.2.2.1 ij.2.2.2.2 ij.2.1
  else
  pc N n2 aZ bp (W (bn+qu)) bx ij.2.2.1 ij.2.2.2.1 ij.2.2.2.2 ij.2.1
  else
  some (((W (aZ+(W (bp*bx)))),true),(bz,bq,(bL,bN))):=by kernel_rfl
theorem RQ:FZ N (n1+1) x9 aj ak av ai ao aq ax ay=
  bif(decide (ai<ak)) then
  (ry N (W (x9+(W (aj*ai)))) ay ao (aq,ax)).bind fun dJ=>
  bif(!dJ.1) then
  FZ N n1 x9 aj ak ai (W (ai*2)) dJ.2.2.1 dJ.2.2.2.1 dJ.2.2.2.2 dJ.2.1
  else
  bif(decide (ai>=ak)) then
  bif(decide (ak<=av)) then
  some ((0,false),(dJ.2.1,dJ.2.2.1,dJ.2.2.2))
  else
  (ry N (W (x9+(W (aj*ak)))) dJ.2.1 dJ.2.2.1 dJ.2.2.2).bind fun jl=>
  bif(!jl.1) then
  some ((0,false),(jl.2.1,jl.2.2.1,jl.2.2.2))
  else
  pc N N x9 aj av ak jl.2.2.1 jl.2.2.2.1 jl.2.2.2.2 jl.2.1
  else
  pc N N x9 aj av ai dJ.2.2.1 dJ.2.2.2.1 dJ.2.2.2.2 dJ.2.1
  else
  bif(decide (ai>=ak)) then
  bif(decide (ak<=av)) then
  some ((0,false),(ay,ao,(aq,ax)))
  else
  (ry N (W (x9+(W (aj*ak)))) ay ao (aq,ax)).bind fun jV=>
  bif(!jV.1) then
  some ((0,false),(jV.2.1,jV.2.2.1,jV.2.2.2))
  else
  pc N N x9 aj av ak jV.2.2.1 jV.2.2.2.1 jV.2.2.2.2 jV.2.1
  else
  pc N N x9 aj av ai ao aq ax ay:=by kernel_rfl
theorem an0:Ez N (JM+1) x2 x3 x4 x5 x6 x7 x8=
  FZ N N x2 x3 x4 0 1 x5 x6 x7 x8:=by kernel_rfl
end
def NI(N:Nat)(a0:Int)(a1:Bool)(a2:List Int)(a3:Int)(a4:dV):Option ((Int×Bool)×((List Int)×Int×dV)):=
  (ry N a0 a2 a3 a4).bind fun r1=>
  bif r1.1 then
  some ((a0,true),(r1.2.1,r1.2.2.1,r1.2.2.2))
  else
  bif(!a1) then
  Ez N N a0 (-1) (W (a0+70368744177664)) r1.2.2.1 r1.2.2.2.1 r1.2.2.2.2 r1.2.1
  else
  Ez N N a0 1 (W (70368744177664-a0)) r1.2.2.1 r1.2.2.2.1 r1.2.2.2.2 r1.2.1
theorem asw(N:Nat):dq Tryz.prog 144 [none,none,some (145,3)] [.v GI,.v .bool,.b (.a GI),.b (.v GI),.b (.v od)] [.v GI,.v .bool] (fun x=>NI N x.1 x.2.1 x.2.2.1 x.2.2.2.1 x.2.2.2.2):=dM (N:=N) (p:=4) (q:=5) (ns:=R8) (fq ER Tryz.func144) (xD N).ok
def ajb:FD:=fd 19 nf [(.t 6),(.t 7)] Tryz.f134 [(6,{w:=[(false,[.ghost GI])],an:=[(1,⟨.unit,some 2,[]⟩)]}),(14,{w:=[(false,[.aM 8 0 GI])]})]
def ala(N:Nat):CE:=(xD N).a (cT (asw N))
def F0(N:Nat)(a0:dV)(a1:List Int)(a2:Int):Option (Int×Bool):=
  bif ba a1.length 8 then
  bif ae a2 a1.length then
  (NI N (a1.getD a2.toNat 0) false a1 a2 a0).bind fun r1=>
  some (r1.1.1,r1.1.2)
  else none
  else none
theorem atn(N:Nat):bk Tryz.prog 134 [od,LI,GI] [GI,.bool] (fun x=>F0 N x.1 x.2.1 x.2.2):=bG (N:=N) (fq ajb Tryz.func134) (ala N).ok
def z8(N:Nat):CE:=(xD N).a (bD (atn N))
def LR:FD:=fd 80 nf [(.t 8),(.t 9)] Tryz.f133 [(62,{w:=[(false,[.ghost GI])],an:=[(1,⟨.unit,some 3,[]⟩)]}),(109,{w:=[(false,[.own 8 GI,.af [8,9],.out []])]}),(255,{w:=[(false,[.own 8 GI,.af [8,9],.out []])]}),(506,{ns:=[.wk 11 (.list .bool),.wk 13 LI,.af [3,4,11,
  12,13,14],.cmp]}),(129610,{ns:=[.wk 11 (.list .bool),.wk 13 LI,.wk 41 (.list bU),.af [3,4,11,12,13,14,15,41,42,43],.cmp]}),(259229,{w:=[(false,[.own 8 GI,.af [8,9],.out []])]}),(530884213,{w:=[(false,[.own 8 GI,.af [8,
  9],.out []])]})]
def UZ:List NS:=[.own 8 GI,.af [8,9],.out []]
def Sh:Exit->SI->Option (((List Int)×Int)×Unit):=fK UZ [(.t 8),(.t 9)] [.v iE,.v ep,.v LI] [.o (.a GI),.v GI] 0 0
section
variable (N n1 n2:Nat) (x4:List Bool) (x5:Int) (x6:List bj) (x7:List aR) (x8:List bC) (x9:List bu) (aj:List gi) (ak:List (List Int)) (av:List Int) (ai:List Bool) (ao:Int) (aq:Bool) (ax:List bj) (ay aC:Int) (aO:List bj) (aH:List aR) (aE:List bC) (aI:List bu) (aF:List gi) (az:List (List Int)) (aG:List Int)
def vh:Option (((List Int)×Int)×Unit):=lp (z8 N).l N 0 LR.tc 86623 [n1] Sh n2 ⟨[(3,.fn 134 []),(4,.ptr 0 0 0),(11,.ab false .bool ai),(12,.ptr 1 0 0),(13,.whole 2),(14,.i ao),(15,.bool aq),(41,.l bU ax),(42,.i ay),(43,.i aC)],[some (m8 aO aH aE aI),some (lP aF az),some (.arr GI aG)]⟩
def zN:Option (((List Int)×Int)×Unit):=lp (z8 N).l N 0 LR.tc 351 [] Sh n1 ⟨[(3,.fn 134 []),(4,.ptr 0 0 0),(11,.ab false .bool x4),(12,.ptr 1 0 0),(13,.whole 2),(14,.i x5)],[some (m8 x6 x7 x8 x9),some (lP aj ak),some (.arr GI av)]⟩
theorem aj1:vh N n1 (n2+1) ai ao aq ax ay aC aO aH aE aI aF az aG=
  bif(decide (aC<ay)) then
  bif ae aC ax.length then
  bif(ax.getD aC.toNat rq).2 then
  vh N n1 n2 ai ao aq ax ay (W (aC+1)) aO aH aE aI aF az aG
  else
  bif ae aC ai.length then
  bif ai.getD aC.toNat false then
  vh N n1 n2 ai ao aq ax ay (W (aC+1)) aO aH aE aI aF az aG
  else
  (F0 N (aF,az) aG aC).bind fun gA=>
  bif(!gA.2) then
  some (([],2),())
  else
  bif ae aC aG.length then
  bif(gA.1 !=(aG.getD aC.toNat 0)) then
  bif ae aC aG.length then
  vh N n1 n2 ai ao true ax ay (W (aC+1)) aO aH aE aI aF az (aG.set aC.toNat gA.1)
  else none
  else
  vh N n1 n2 ai ao aq ax ay (W (aC+1)) aO aH aE aI aF az aG
  else none
  else none
  else none
  else
  bif(!aq) then
  some ((aG,0),())
  else
  zN N n1 ai (W (ao+1)) aO aH aE aI aF az aG:=by kernel_rfl
theorem ajz:zN N (n1+1) x4 x5 x6 x7 x8 x9 aj ak av=
  bif(decide (x5<200)) then
  vh N n1 N x4 x5 false x6 (x6.length:Int) 0 x6 x7 x8 x9 aj ak av
  else
  some (([],2),()):=by kernel_rfl
end
def KT(N:Nat)(a0:bQ)(a1:bF)(a2:List Int):Option (((List Int)×Int)×Unit):=
  (Cw N a0 a1 a2).bind fun r1=>
  bif(r1 !=0) then
  some (([],r1),())
  else
  (s4 N a0.1).bind fun r2=>
  (uq N a0 a1).bind fun r3=>
  bif ba a2.length 8 then
  zN N N r2 0 a0.1.1 a0.1.2 a0.2.1 a0.2.2 r3.1 r3.2 a2
  else none
theorem an1(N:Nat):dq Tryz.prog 133 [none,none,none,some (134,0)] [.v iE,.v ep,.v LI] [.o (.a GI),.v GI] (fun x=>KT N x.1 x.2.1 x.2.2):=dM (N:=N) (p:=0) (q:=0) (ns:=UZ) (fq LR Tryz.func133) (z8 N).ok
def aoj:FD:=fd 14 nf [(.t 6),(.t 7)] Tryz.f121 [(7,{w:=[(false,[.own 6 GI,.af [6,7],.out []])]})]
def aey:List NS:=[.own 6 GI,.af [6,7],.out []]
def Zc(N:Nat):CE:=(z8 N).a (cT (an1 N))
def Ab(N:Nat)(a0:bQ)(a1:bF)(a2:List Int):Option (((List Int)×Int)×Unit):=
  (KT N a0 a1 a2).bind fun r1=>
  some ((r1.1.1,r1.1.2),())
theorem Sb(N:Nat):dq Tryz.prog 121 [none,none,none] [.v iE,.v ep,.v LI] [.o (.a GI),.v GI] (fun x=>Ab N x.1 x.2.1 x.2.2):=dM (N:=N) (p:=0) (q:=0) (ns:=aey) (fq aoj Tryz.func121) (Zc N).ok
def MW(N:Nat):CE:=(z8 N).a (cT (Sb N))
def SJ:FD:=fd 57 nf [(.t 6)] Tryz.f136 [(58,{ns:=[.wk 1 LI,.wk 16 LI,.af [1,2,3,7,16,17,18],.cmp]})]
def ah9:Exit->SI->Option Int:=fin [(.t 6)] [GI]
section
variable (N n1:Nat) (x1:List Int) (x2 x3:Int) (x4:List Int) (x5 x6:Int) (x7:List gi) (x8:List (List Int))
def A6:Option Int:=lp (MW N).l N 0 SJ.tc 43 [] ah9 n1 ⟨[(1,.l GI x1),(2,.i x2),(3,.ptr 0 0 0),(7,.i x3),(16,.l GI x4),(17,.i x5),(18,.i x6)],[some (lP x7 x8)]⟩
theorem at7:A6 N (n1+1) x1 x2 x3 x4 x5 x6 x7 x8=
  bif(decide (x6<x5)) then
  bif ae x6 x4.length then
  bif ae (x4.getD x6.toNat 0) x7.length then
  let v9:=x7.getD (x4.getD x6.toNat 0).toNat iG
  bif ae v9.1.1 x1.length then
  bif ae v9.1.2.1 x1.length then
  let v10:=W ((x1.getD v9.1.1.toNat 0)-(x1.getD v9.1.2.1.toNat 0))
  bif(v9.1.1==x2) then
  (Aw N v9 v10).bind fun kM=>
  A6 N n1 x1 x2 (W (x3+kM)) x4 x5 (W (x6+1)) x7 x8
  else
  (zr N v9 v10).bind fun Pn=>
  A6 N n1 x1 x2 (W (x3-Pn)) x4 x5 (W (x6+1)) x7 x8
  else none
  else none
  else none
  else none
  else
  some x3:=by kernel_rfl
end
def AP(N:Nat)(a0:dV)(a1:List Int)(a2:Int):Option Int:=
  bif ae a2 a0.2.length then
  A6 N N a1 a2 0 (a0.2.getD a2.toNat []) ((a0.2.getD a2.toNat []).length:Int) 0 a0.1 a0.2
  else none
theorem abm(N:Nat):bk Tryz.prog 136 [od,LI,GI] [GI] (fun x=>AP N x.1 x.2.1 x.2.2):=bG (N:=N) (fq SJ Tryz.func136) (MW N).ok
def QZ(N:Nat):CE:=(MW N).a (bD (abm N))
def aw3:FD:=fd 15 nf [(.t 5)] Tryz.f146 [(15,{w:=[(false,[.aM 1 0 GI,.cO 3,.af [5],.out [0,2,3]])]})]
def acx:List NS:=[.aM 1 0 GI,.cO 3,.af [5],.out [0,2,3]]
def qB(N:Nat)(a0:Int)(a1:List Int)(a2:Int)(a3:dV):Option (Bool×((List Int)×Int×dV)):=
  bif ae a2 a1.length then
  (AP N a3 (a1.set a2.toNat a0) a2).bind fun r2=>
  some ((decide (r2>=0)),((a1.set a2.toNat a0),a2,a3))
  else none
theorem an7(N:Nat):dq Tryz.prog 146 [none,none,none,none] [.v GI,.b (.a GI),.b (.v GI),.b (.v od)] [.v .bool] (fun x=>qB N x.1 x.2.1 x.2.2.1 x.2.2.2):=dM (N:=N) (p:=4) (q:=5) (ns:=acx) (fq aw3 Tryz.func146) (QZ N).ok
def wu(N:Nat):CE:=(QZ N).a (cT (an7 N))
def Dz:FD:=fd 80 nf [(.t 6),(.t 7)] Tryz.f144 [(31,{w:=[(true,[.af [0,2,8,9],.out [0,2,3]])]}),(53,{w:=[(false,[.cO 3,.af [6,7],.out [0,2,3]])]}),(252,{ns:=[.af [0,2,8,9,10,11],.out [0,2,3]]}),(1020,{ns:=[.af [0,2,8,10,11],.out [0,2,3]]}),(1023,{w:=[(false,[.cO 3,.af [6,7],.out [0,
  2,3]])]}),(16301,{w:=[(false,[.cO 3,.af [6,7],.out [0,2,3]])]})]
def Tf:List NS:=[.cO 3,.af [6,7],.out [0,2,3]]
def MA:Exit->SI->Option ((Int×Bool)×((List Int)×Int×dV)):=fK Tf [(.t 6),(.t 7)] [.v GI,.v .bool,.b (.a GI),.b (.v GI),.b (.v od)] [.v GI,.v .bool] 4 5
section
variable (N JM n1 n2:Nat) (x2 x3 x4 x5:Int) (x6:List gi) (x7:List (List Int)) (x8:List Int) (x9 aj ak av ai ao:Int) (aq:List gi) (ax:List (List Int)) (ay:List Int) (aZ bp bn bx bq:Int) (bL:List gi) (bN:List (List Int)) (bz:List Int)
def oR:Option ((Int×Bool)×((List Int)×Int×dV)):=lp (wu N).l N 4 Dz.tc 1263 [] MA n2 ⟨[(0,.i aZ),(2,.fn 146 [.ptr 0 0 0,.ptr 2 0 0,.ptr 3 0 0]),(8,.i bp),(10,.i bn),(11,.i bx)],[some (.box 0 [.whole 4]),none,some (.box 0 [.i bq]),some (lP bL bN),some (.arr GI bz)]⟩
def Fk:Option ((Int×Bool)×((List Int)×Int×dV)):=lp (wu N).l N 4 Dz.tc 303 [] MA n1 ⟨[(0,.i x9),(2,.fn 146 [.ptr 0 0 0,.ptr 2 0 0,.ptr 3 0 0]),(8,.i aj),(9,.i ak),(10,.i av),(11,.i ai)],[some (.box 0 [.whole 4]),none,some (.box 0 [.i ao]),some (lP aq ax),some (.arr GI ay)]⟩
def G1:Option ((Int×Bool)×((List Int)×Int×dV)):=jn (wu N).l N 4 Dz.tc 31 [] MA JM ⟨[(0,.i x2),(2,.fn 146 [.ptr 0 0 0,.ptr 2 0 0,.ptr 3 0 0]),(8,.i x3),(9,.i x4)],[some (.box 0 [.whole 4]),none,some (.box 0 [.i x5]),some (lP x6 x7),some (.arr GI x8)]⟩
theorem X6:oR N (n2+1) aZ bp bn bx bq bL bN bz=
  bif(decide ((W (bn+1))<bx)) then
  let qu:=W ((W (bx-bn)).tdiv 2)
  (qB N (W (aZ+(W (bp*(W (bn+qu)))))) bz bq (bL,bN)).bind fun ij=>
  bif ij.1 then
  oR N n2 aZ bp bn (W (bn+qu)) ij.2.2.1 ij.2.2.2.1 ij.2.2.2.2 ij.2.1
  else
  oR N n2 aZ bp (W (bn+qu)) bx ij.2.2.1 ij.2.2.2.1 ij.2.2.2.2 ij.2.1
  else
  some (((W (aZ+(W (bp*bx)))),true),(bz,bq,(bL,bN))):=by kernel_rfl
theorem Te:Fk N (n1+1) x9 aj ak av ai ao aq ax ay=
  bif(decide (ai<ak)) then
  (qB N (W (x9+(W (aj*ai)))) ay ao (aq,ax)).bind fun dJ=>
  bif(!dJ.1) then
  Fk N n1 x9 aj ak ai (W (ai*2)) dJ.2.2.1 dJ.2.2.2.1 dJ.2.2.2.2 dJ.2.1
  else
  bif(decide (ai>=ak)) then
  bif(decide (ak<=av)) then
  some ((0,false),(dJ.2.1,dJ.2.2.1,dJ.2.2.2))
  else
  (qB N (W (x9+(W (aj*ak)))) dJ.2.1 dJ.2.2.1 dJ.2.2.2).bind fun jl=>
  bif(!jl.1) then
  some ((0,false),(jl.2.1,jl.2.2.1,jl.2.2.2))
  else
  oR N N x9 aj av ak jl.2.2.1 jl.2.2.2.1 jl.2.2.2.2 jl.2.1
  else
  oR N N x9 aj av ai dJ.2.2.1 dJ.2.2.2.1 dJ.2.2.2.2 dJ.2.1
  else
  bif(decide (ai>=ak)) then
  bif(decide (ak<=av)) then
  some ((0,false),(ay,ao,(aq,ax)))
  else
  (qB N (W (x9+(W (aj*ak)))) ay ao (aq,ax)).bind fun jV=>
  bif(!jV.1) then
  some ((0,false),(jV.2.1,jV.2.2.1,jV.2.2.2))
  else
  oR N N x9 aj av ak jV.2.2.1 jV.2.2.2.1 jV.2.2.2.2 jV.2.1
  else
  oR N N x9 aj av ai ao aq ax ay:=by kernel_rfl
theorem atd:G1 N (JM+1) x2 x3 x4 x5 x6 x7 x8=
  Fk N N x2 x3 x4 0 1 x5 x6 x7 x8:=by kernel_rfl
end
def Nn(N:Nat)(a0:Int)(a1:Bool)(a2:List Int)(a3:Int)(a4:dV):Option ((Int×Bool)×((List Int)×Int×dV)):=
  (qB N a0 a2 a3 a4).bind fun r1=>
  bif r1.1 then
  some ((a0,true),(r1.2.1,r1.2.2.1,r1.2.2.2))
  else
  bif(!a1) then
  G1 N N a0 (-1) (W (a0+70368744177664)) r1.2.2.1 r1.2.2.2.1 r1.2.2.2.2 r1.2.1
  else
  G1 N N a0 1 (W (70368744177664-a0)) r1.2.2.1 r1.2.2.2.1 r1.2.2.2.2 r1.2.1
theorem an4(N:Nat):dq Tryz.prog 144 [none,none,some (146,3)] [.v GI,.v .bool,.b (.a GI),.b (.v GI),.b (.v od)] [.v GI,.v .bool] (fun x=>Nn N x.1 x.2.1 x.2.2.1 x.2.2.2.1 x.2.2.2.2):=dM (N:=N) (p:=4) (q:=5) (ns:=Tf) (fq Dz Tryz.func144) (wu N).ok
def axa:FD:=fd 19 nf [(.t 6),(.t 7)] Tryz.f135 [(6,{w:=[(false,[.ghost GI])],an:=[(1,⟨.unit,some 2,[]⟩)]}),(14,{w:=[(false,[.aM 8 0 GI])]})]
def ajx(N:Nat):CE:=(wu N).a (cT (an4 N))
def Is(N:Nat)(a0:dV)(a1:List Int)(a2:Int):Option (Int×Bool):=
  bif ba a1.length 8 then
  bif ae a2 a1.length then
  (Nn N (a1.getD a2.toNat 0) true a1 a2 a0).bind fun r1=>
  some (r1.1.1,r1.1.2)
  else none
  else none
theorem Zb(N:Nat):bk Tryz.prog 135 [od,LI,GI] [GI,.bool] (fun x=>Is N x.1 x.2.1 x.2.2):=bG (N:=N) (fq axa Tryz.func135) (ajx N).ok
def Ar(N:Nat):CE:=(wu N).a (bD (Zb N))
def MD:FD:=fd 80 nf [(.t 8),(.t 9)] Tryz.f133 [(62,{w:=[(false,[.ghost GI])],an:=[(1,⟨.unit,some 3,[]⟩)]}),(109,{w:=[(false,[.own 8 GI,.af [8,9],.out []])]}),(255,{w:=[(false,[.own 8 GI,.af [8,9],.out []])]}),(506,{ns:=[.wk 11 (.list .bool),.wk 13 LI,.af [3,4,11,
  12,13,14],.cmp]}),(129610,{ns:=[.wk 11 (.list .bool),.wk 13 LI,.wk 41 (.list bU),.af [3,4,11,12,13,14,15,41,42,43],.cmp]}),(259229,{w:=[(false,[.own 8 GI,.af [8,9],.out []])]}),(530884213,{w:=[(false,[.own 8 GI,.af [8,
  9],.out []])]})]
def WA:List NS:=[.own 8 GI,.af [8,9],.out []]
def QE:Exit->SI->Option (((List Int)×Int)×Unit):=fK WA [(.t 8),(.t 9)] [.v iE,.v ep,.v LI] [.o (.a GI),.v GI] 0 0
section
variable (N n1 n2:Nat) (x4:List Bool) (x5:Int) (x6:List bj) (x7:List aR) (x8:List bC) (x9:List bu) (aj:List gi) (ak:List (List Int)) (av:List Int) (ai:List Bool) (ao:Int) (aq:Bool) (ax:List bj) (ay aC:Int) (aO:List bj) (aH:List aR) (aE:List bC) (aI:List bu) (aF:List gi) (az:List (List Int)) (aG:List Int)
def uz:Option (((List Int)×Int)×Unit):=lp (Ar N).l N 0 MD.tc 86623 [n1] QE n2 ⟨[(3,.fn 135 []),(4,.ptr 0 0 0),(11,.ab false .bool ai),(12,.ptr 1 0 0),(13,.whole 2),(14,.i ao),(15,.bool aq),(41,.l bU ax),(42,.i ay),(43,.i aC)],[some (m8 aO aH aE aI),some (lP aF az),some (.arr GI aG)]⟩
def BH:Option (((List Int)×Int)×Unit):=lp (Ar N).l N 0 MD.tc 351 [] QE n1 ⟨[(3,.fn 135 []),(4,.ptr 0 0 0),(11,.ab false .bool x4),(12,.ptr 1 0 0),(13,.whole 2),(14,.i x5)],[some (m8 x6 x7 x8 x9),some (lP aj ak),some (.arr GI av)]⟩
theorem awu:uz N n1 (n2+1) ai ao aq ax ay aC aO aH aE aI aF az aG=
  bif(decide (aC<ay)) then
  bif ae aC ax.length then
  bif(ax.getD aC.toNat rq).2 then
  uz N n1 n2 ai ao aq ax ay (W (aC+1)) aO aH aE aI aF az aG
  else
  bif ae aC ai.length then
  bif ai.getD aC.toNat false then
  uz N n1 n2 ai ao aq ax ay (W (aC+1)) aO aH aE aI aF az aG
  else
  (Is N (aF,az) aG aC).bind fun gA=>
  bif(!gA.2) then
  some (([],2),())
  else
  bif ae aC aG.length then
  bif(gA.1 !=(aG.getD aC.toNat 0)) then
  bif ae aC aG.length then
  uz N n1 n2 ai ao true ax ay (W (aC+1)) aO aH aE aI aF az (aG.set aC.toNat gA.1)
  else none
  else
  uz N n1 n2 ai ao aq ax ay (W (aC+1)) aO aH aE aI aF az aG
  else none
  else none
  else none
  else
  bif(!aq) then
  some ((aG,0),())
  else
  BH N n1 ai (W (ao+1)) aO aH aE aI aF az aG:=by kernel_rfl
theorem awz:BH N (n1+1) x4 x5 x6 x7 x8 x9 aj ak av=
  bif(decide (x5<200)) then
  uz N n1 N x4 x5 false x6 (x6.length:Int) 0 x6 x7 x8 x9 aj ak av
  else
  some (([],2),()):=by kernel_rfl
end
def Ld(N:Nat)(a0:bQ)(a1:bF)(a2:List Int):Option (((List Int)×Int)×Unit):=
  (Cw N a0 a1 a2).bind fun r1=>
  bif(r1 !=0) then
  some (([],r1),())
  else
  (s4 N a0.1).bind fun r2=>
  (uq N a0 a1).bind fun r3=>
  bif ba a2.length 8 then
  BH N N r2 0 a0.1.1 a0.1.2 a0.2.1 a0.2.2 r3.1 r3.2 a2
  else none
theorem ZU(N:Nat):dq Tryz.prog 133 [none,none,none,some (135,0)] [.v iE,.v ep,.v LI] [.o (.a GI),.v GI] (fun x=>Ld N x.1 x.2.1 x.2.2):=dM (N:=N) (p:=0) (q:=0) (ns:=WA) (fq MD Tryz.func133) (Ar N).ok
def YG:FD:=fd 14 nf [(.t 6),(.t 7)] Tryz.f122 [(7,{w:=[(false,[.own 6 GI,.af [6,7],.out []])]})]
def adr:List NS:=[.own 6 GI,.af [6,7],.out []]
def ap6(N:Nat):CE:=(Ar N).a (cT (ZU N))
def EP(N:Nat)(a0:bQ)(a1:bF)(a2:List Int):Option (((List Int)×Int)×Unit):=
  (Ld N a0 a1 a2).bind fun r1=>
  some ((r1.1.1,r1.1.2),())
theorem Ru(N:Nat):dq Tryz.prog 122 [none,none,none] [.v iE,.v ep,.v LI] [.o (.a GI),.v GI] (fun x=>EP N x.1 x.2.1 x.2.2):=dM (N:=N) (p:=0) (q:=0) (ns:=adr) (fq YG Tryz.func122) (ap6 N).ok
def Tj(N:Nat):CE:=(Ar N).a (cT (Ru N))
def amy:FD:=fd 49 nf [(.cell 4 true 2),(.t 5)] Tryz.f107 [(6,{w:=[(false,[.wait,.wait])],an:=[(6,⟨GI,some 3,[]⟩),(7,⟨.unit,none,[4]⟩)]}),(117,{w:=[(false,[.cy 4])]}),(501,{w:=[(false,[.cy 4])]}),(511,{w:=[(false,[.cy 4])]}),(2037,{w:=[(false,[.cy 4])]})]
def awy(N:Nat):CE:=((Tj N).a (qX (cT (Ru N)))).a (qX (cT (Sb N)))
def Fx(N:Nat)(a0:bQ)(a1:bF):Option (bF×Int):=
  bif eH 8 (a0.1.1.length:Int) (a0.1.1.length:Int) then
  (Ab N a0 a1 (List.replicate (a0.1.1.length:Int).toNat 0)).bind fun r2=>
  bif(r2.1.2 !=0) then
  some (([],[]),r2.1.2)
  else
  (EP N a0 a1 r2.1.1).bind fun r3=>
  bif(r3.1.2 !=0) then
  some (([],[]),r3.1.2)
  else
  (Ab N a0 a1 r3.1.1).bind fun r4=>
  bif(r4.1.2 !=0) then
  some (([],[]),r4.1.2)
  else
  some ((r4.1.1,r3.1.1),0)
  else none
theorem ais(N:Nat):bk Tryz.prog 107 [iE,ep] [ep,GI] (fun x=>Fx N x.1 x.2):=bG (N:=N) (fq amy Tryz.func107) (awy N).ok
def wJ(N:Nat):CE:=(Tj N).a (bD (ais N))
def zq:FD:=fd 124 nf [(.t 6)] Tryz.f123 [(31,{w:=[(true,[.af [3,4,5],.cmp])]}),(250,{ns:=[.af [3,4,5,44,45],.cmp]}),(2042,{ns:=[.wk 11 (.list .bool),.wk 80 (.list bU),.af [5,11,12,80,81,82],.cmp]}),(32050,{an:=[(10,⟨GI,none,[]⟩)]}),(64102,{ns:=[.wk 58 LI,.af [3,
  4,5,44,45,58,59,60],.cmp]})]
def Gu:Exit->SI->Option Int:=fin [(.t 6)] [GI]
section
variable (N JM n1 n2 n3:Nat) (x3:List bj) (x4:List aR) (x5:List bC) (x6:List bu) (x7 x8 x9 aj:List Int) (ak av:Int) (ai:List bj) (ao:List aR) (aq:List bC) (ax:List bu) (ay aC aO aH:List Int) (aE aI:Int) (aF:List Int) (az aG:Int) (aU:List bj) (bb:List aR) (aQ:List bC) (aZ:List bu) (bp bn bx bq:List Int) (ea:List Bool) (iu:List bj) (iv dR:Int) (gq gr:List Int) (ix:List gi) (fB:List (List Int))
def Ew:Option Int:=lp (wJ N).l N 0 zq.tc 91727 [n1] Gu n2 ⟨[(3,.ptr 0 0 0),(4,.ptr 1 0 0),(5,.ptr 2 0 0),(44,.i aE),(45,.i aI),(58,.l GI aF),(59,.i az),(60,.i aG)],[some (m8 aU bb aQ aZ),some (fi bp bn),some (fi bx bq)]⟩
def wK:Option Int:=lp (wJ N).l N 0 zq.tc 2799 [] Gu n3 ⟨[(5,.ptr 0 0 0),(11,.ab false .bool ea),(12,.ptr 1 0 0),(80,.l bU iu),(81,.i iv),(82,.i dR)],[some (fi gq gr),some (lP ix fB)]⟩
def zJ:Option Int:=lp (wJ N).l N 0 zq.tc 335 [] Gu n1 ⟨[(3,.ptr 0 0 0),(4,.ptr 1 0 0),(5,.ptr 2 0 0),(44,.i ak),(45,.i av)],[some (m8 ai ao aq ax),some (fi ay aC),some (fi aO aH)]⟩
def PZ:Option Int:=jn (wJ N).l N 0 zq.tc 31 [] Gu JM ⟨[(3,.ptr 0 0 0),(4,.ptr 1 0 0),(5,.ptr 2 0 0)],[some (m8 x3 x4 x5 x6),some (fi x7 x8),some (fi x9 aj)]⟩
theorem ai0:Ew N n1 (n2+1) aE aI aF az aG aU bb aQ aZ bp bn bx bq=
  bif(decide (aG<az)) then
  bif ae aG aF.length then
  bif(decide ((aF.getD aG.toNat 0)<(-70368744177664))) then
  some 1
  else
  bif(decide ((aF.getD aG.toNat 0)>70368744177664)) then
  some 1
  else
  Ew N n1 n2 aE aI aF az (W (aG+1)) aU bb aQ aZ bp bn bx bq
  else none
  else
  zJ N n1 aE (W (aI+1)) aU bb aQ aZ bp bn bx bq:=by kernel_rfl
theorem aid:wK N (n3+1) ea iu iv dR gq gr ix fB=
  bif(decide (dR<iv)) then
  bif ae dR iu.length then
  bif(iu.getD dR.toNat rq).2 then
  bif ae dR gq.length then
  bif((gq.getD dR.toNat 0) !=0) then
  some 12
  else
  bif ae dR gr.length then
  bif((gr.getD dR.toNat 0) !=0) then
  some 12
  else
  wK N n3 ea iu iv (W (dR+1)) gq gr ix fB
  else none
  else none
  else
  bif ae dR ea.length then
  bif ea.getD dR.toNat false then
  bif ae dR gq.length then
  bif((gq.getD dR.toNat 0) !=0) then
  some 12
  else
  bif ae dR gr.length then
  bif((gr.getD dR.toNat 0) !=0) then
  some 12
  else
  wK N n3 ea iu iv (W (dR+1)) gq gr ix fB
  else none
  else none
  else
  (AP N (ix,fB) gr dR).bind fun r97=>
  bif(decide (r97<0)) then
  some 12
  else
  (zM N (ix,fB) gq dR).bind fun r98=>
  bif(decide (r98>0)) then
  some 12
  else
  wK N n3 ea iu iv (W (dR+1)) gq gr ix fB
  else none
  else none
  else
  some 0:=by kernel_rfl
theorem acz:zJ N (n1+1) ak av ai ao aq ax ay aC aO aH=
  bif(decide (av<ak)) then
  bif ae av aO.length then
  bif ae av aH.length then
  Ew N n1 N ak av [aO.getD av.toNat 0,aH.getD av.toNat 0] ([aO.getD av.toNat 0,aH.getD av.toNat 0].length:Int) 0 ai ao aq ax ay aC aO aH
  else none
  else none
  else
  (s4 N (ai,ao)).bind fun r70=>
  (uq N ((ai,ao),(aq,ax)) (ay,aC)).bind fun yA=>
  wK N N r70 ai (ai.length:Int) 0 aO aH yA.1 yA.2:=by kernel_rfl
theorem anh:PZ N (JM+1) x3 x4 x5 x6 x7 x8 x9 aj=
  zJ N N (x9.length:Int) 0 x3 x4 x5 x6 x7 x8 x9 aj:=by kernel_rfl
end
def Gb(N:Nat)(a0:bQ)(a1:bF)(a2:bF):Option Int:=
  (tj N a0).bind fun r1=>
  bif(r1 !=0) then
  some r1
  else
  (yj N a0 a1).bind fun r2=>
  bif(!r2) then
  some 21
  else
  bif((a2.1.length:Int) !=(a0.1.1.length:Int)) then
  some 11
  else
  bif((a2.2.length:Int) !=(a0.1.1.length:Int)) then
  some 11
  else
  PZ N N a0.1.1 a0.1.2 a0.2.1 a0.2.2 a1.1 a1.2 a2.1 a2.2
theorem ah6(N:Nat):bk Tryz.prog 123 [iE,ep,ep] [GI] (fun x=>Gb N x.1 x.2.1 x.2.2):=bG (N:=N) (fq zq Tryz.func123) (wJ N).ok
def KQ(N:Nat):CE:=(wJ N).a (bD (ah6 N))
def Rm:FD:=fd 85 nf [(.t 6)] Tryz.f108 [(14,{an:=[(4,⟨bm,none,[]⟩)]}),(53,{w:=[(false,[.ej 6])]}),(127,{w:=[(false,[.ej 6])]}),(250,{ns:=[.wk 7 (.list bm),.wk 8 (.list .bool),.wk 27 (.list sJ),.af [5,7,8,27,28,29],.cmp]})]
def ZH:Exit->SI->Option (List aJ):=fin [(.t 6)] [(.list bm)]
section
variable (N n1:Nat) (x5:List Bool) (x6:List gi) (x7 x8:Int) (x9 aj:List Int) (ak:List aJ)
def Aj:Option (List aJ):=lp (KQ N).l N 0 Rm.tc 175 [] ZH n1 ⟨[(5,.ptr 0 0 0),(7,.whole 1),(8,.ab false .bool x5),(27,.l sJ x6),(28,.i x7),(29,.i x8)],[some (fi x9 aj),some (.arr bm ak)]⟩
theorem auj:Aj N (n1+1) x5 x6 x7 x8 x9 aj ak=
  bif(decide (x8<x7)) then
  bif ae x8 x6.length then
  bif ae (x6.getD x8.toNat iG).1.1 x5.length then
  bif(x5.getD (x6.getD x8.toNat iG).1.1.toNat false) then
  bif ae (x6.getD x8.toNat iG).2.1 ak.length then
  Aj N n1 x5 x6 x7 (W (x8+1)) x9 aj (ak.set (x6.getD x8.toNat iG).2.1.toNat ((-1125899906842624),1125899906842624))
  else none
  else
  bif ae (x6.getD x8.toNat iG).1.1 x9.length then
  bif ae (x6.getD x8.toNat iG).1.2.1 aj.length then
  (Aw N (x6.getD x8.toNat iG) (W ((x9.getD (x6.getD x8.toNat iG).1.1.toNat 0)-(aj.getD (x6.getD x8.toNat iG).1.2.1.toNat 0)))).bind fun r24=>
  bif ae (x6.getD x8.toNat iG).1.1 aj.length then
  bif ae (x6.getD x8.toNat iG).1.2.1 x9.length then
  (zr N (x6.getD x8.toNat iG) (W ((aj.getD (x6.getD x8.toNat iG).1.1.toNat 0)-(x9.getD (x6.getD x8.toNat iG).1.2.1.toNat 0)))).bind fun jR=>
  bif ae (x6.getD x8.toNat iG).2.1 ak.length then
  Aj N n1 x5 x6 x7 (W (x8+1)) x9 aj (ak.set (x6.getD x8.toNat iG).2.1.toNat (r24,jR))
  else none
  else none
  else none
  else none
  else none
  else none
  else none
  else
  some ak:=by kernel_rfl
end
def Hs(N:Nat)(a0:bQ)(a1:bF)(a2:bF):Option (List aJ):=
  (Gb N a0 a1 a2).bind fun r1=>
  bif(r1 !=0) then
  some []
  else
  bif eH 16 (a0.1.2.length:Int) (a0.1.2.length:Int) then
  (s4 N a0.1).bind fun r3=>
  (uq N a0 a1).bind fun r4=>
  Aj N N r3 r4.1 (r4.1.length:Int) 0 a2.1 a2.2 (List.replicate (a0.1.2.length:Int).toNat (0,0))
  else none
theorem ah4(N:Nat):bk Tryz.prog 108 [iE,ep,ep] [(.list bm)] (fun x=>Hs N x.1 x.2.1 x.2.2):=bG (N:=N) (fq Rm Tryz.func108) (KQ N).ok
def Ol(N:Nat):CE:=(KQ N).a (bD (ah4 N))
def Xy:FD:=fd 56 nf [(.t 4),(.t 5)] Tryz.f72 [(62,{an:=[(4,⟨bm,none,[]⟩)]}),(109,{w:=[(false,[.ej 4])]}),(117,{w:=[(false,[.ej 4])]}),(255,{w:=[(false,[.ej 4])]}),(493,{w:=[(false,[.ej 4])]}),(506,{ns:=[.wk 9 (.list bm),.wk 40 (.list bY),.af [9,40,41,42],.cmp]})]
def afc:Exit->SI->Option ((List aJ)×Int):=fin [(.t 4),(.t 5)] [(.list bm),GI]
section
variable (N n1:Nat) (x6:List aR) (x7 x8:Int) (x9:List aJ)
def Bo:Option ((List aJ)×Int):=lp (Ol N).l N 0 Xy.tc 351 [] afc n1 ⟨[(9,.whole 0),(40,.l bY x6),(41,.i x7),(42,.i x8)],[some (.arr bm x9)]⟩
theorem arp:Bo N (n1+1) x6 x7 x8 x9=
  bif(decide (x8<x7)) then
  bif ae x8 x6.length then
  bif(!(x6.getD x8.toNat fH).2.2.2.2.2.1) then
  (kL N).bind fun kM=>
  bif ae x8 x9.length then
  Bo N n1 x6 x7 (W (x8+1)) (x9.set x8.toNat kM)
  else none
  else
  Bo N n1 x6 x7 (W (x8+1)) x9
  else none
  else
  some (x9,0):=by kernel_rfl
end
def wQ(N:Nat)(a0:bQ)(a1:bF):Option ((List aJ)×Int):=
  (tj N a0).bind fun r1=>
  bif(r1 !=0) then
  some ([],r1)
  else
  (yj N a0 a1).bind fun r2=>
  bif(!r2) then
  some ([],21)
  else
  (Fx N a0 a1).bind fun r3=>
  bif(r3.2==0) then
  (Hs N a0 a1 r3.1).bind fun r4=>
  some (r4,0)
  else
  bif eH 16 (a0.1.2.length:Int) (a0.1.2.length:Int) then
  Bo N N a0.1.2 (a0.1.2.length:Int) 0 (List.replicate (a0.1.2.length:Int).toNat (0,0))
  else none
theorem aii(N:Nat):bk Tryz.prog 72 [iE,ep] [(.list bm),GI] (fun x=>wQ N x.1 x.2):=bG (N:=N) (fq Xy Tryz.func72) (Ol N).ok
def QK(N:Nat):CE:=(Ol N).a (bD (aii N))
def ahm:FD:=fd 13 nf [(.t 2)] Tryz.f132 []
def Fb(N:Nat)(a0:Int):Option Bool:=
  bif(a0==4) then
  some true
  else
  bif(a0==5) then
  some true
  else
  some (a0==6)
theorem abo(N:Nat):bk Tryz.prog 132 [GI] [.bool] (fun x=>Fb N x):=bG (N:=N) (fq ahm Tryz.func132) (QK N).ok
def LP(N:Nat):CE:=(QK N).a (bD (abo N))
def TV:FD:=fd 83 nf [(.cell 6 true 2)] Tryz.f117 [(15,{w:=[(true,[.af [2,3,4,6],.cmp])]})]
def auq:Exit->SI->Option aJ:=fin [(.cell 6 true 2)] [bm]
section
variable (N JM:Nat) (x3 x4 x5 x6 x7 x8 x9 aj ak av ai ao aq ax ay:Int)
def QR:Option aJ:=jn (LP N).l N 0 TV.tc 15 [] auq JM ⟨[(2,.i x3),(3,.ptr 0 0 0),(4,.ptr 1 0 0),(6,.ptr 2 0 0)],[some (.box 0 [.i x4,.i x5,.i x6,.i x7,.i x8,.i x9,.i aj,.i ak]),some (.box 0 [.i av,.i ai,.i ao,.i aq]),some (jG ax ay)]⟩
theorem ZX:QR N (JM+1) x3 x4 x5 x6 x7 x8 x9 aj ak av ai ao aq ax ay=
  (Fb N x5).bind fun dJ=>
  bif dJ then
  some (ao,aq)
  else
  let Cy:=W ((W (aj*(W (x3-ai))))+999)
  let v20:=W (ao-(W (Cy.tdiv 1000)))
  let vP:=W (aq+(W (Cy.tdiv 1000)))
  bif(x5==1) then
  some (max v20 0,max vP 0)
  else
  bif(x5==2) then
  some (max v20 0,max vP 0)
  else
  some (v20,vP):=by kernel_rfl
end
def AF(N:Nat)(a0:bJ)(a1:aP)(a2:Int):Option aJ:=
  (kL N).bind fun r1=>
  (su N a0).bind fun r2=>
  bif(r2 !=0) then
  some r1
  else
  bif(decide (a1.1<0)) then
  some r1
  else
  bif((a1.2.2.1==r1.1) && (a1.2.2.2==r1.2)) then
  some r1
  else
  bif(decide (a2<a1.2.1)) then
  some r1
  else
  bif(decide ((W (a2-a1.2.1))>a0.2.2.2.2.2.2.2)) then
  some r1
  else
  QR N N a2 a0.1 a0.2.1 a0.2.2.1 a0.2.2.2.1 a0.2.2.2.2.1 a0.2.2.2.2.2.1 a0.2.2.2.2.2.2.1 a0.2.2.2.2.2.2.2 a1.1 a1.2.1 a1.2.2.1 a1.2.2.2 0 0
theorem aed(N:Nat):bk Tryz.prog 117 [cY,aV,GI] [bm] (fun x=>AF N x.1 x.2.1 x.2.2):=bG (N:=N) (fq TV Tryz.func117) (LP N).ok
def Xw(N:Nat):CE:=(LP N).a (bD (aed N))
def apn:FD:=fd 42 nf [(.cell 8 true 2)] Tryz.f97 []
def AQ(N:Nat)(a0:bX)(a1:List aP)(a2:Int)(a3:Int):Option aJ:=
  (mO N a2 (a0.2.1.length:Int)).bind fun r1=>
  bif(!r1) then
  (kL N).bind fun r2=>
  some r2
  else
  bif(decide (a2>=(a1.length:Int))) then
  (kL N).bind fun r3=>
  some r3
  else
  bif ae a2 a1.length then
  bif((a1.getD a2.toNat dN).1 !=a2) then
  (kL N).bind fun r5=>
  some r5
  else
  bif ae a2 a0.2.1.length then
  bif ae a2 a1.length then
  (AF N (a0.2.1.getD a2.toNat gJ) (a1.getD a2.toNat dN) a3).bind fun r8=>
  some r8
  else none
  else none
  else none
theorem af3(N:Nat):bk Tryz.prog 97 [fx,(.list aV),GI,GI] [bm] (fun x=>AQ N x.1 x.2.1 x.2.2.1 x.2.2.2):=bG (N:=N) (fq apn Tryz.func97) (Xw N).ok
def MS(N:Nat):CE:=(Xw N).a (bD (af3 N))
def Qx:FD:=fd 58 nf [(.t 8)] Tryz.f109 [(26,{ns:=[.wk 14 (.list cY),.af [1,2,3,4,14,15,16],.cmp]})]
def afp:Exit->SI->Option Int:=fin [(.t 8)] [GI]
section
variable (N n1:Nat) (x1 x2 x3:Int) (x4:List bJ) (x5 x6:Int) (x7:List bj) (x8:List aR) (x9:List bC) (aj:List bu) (ak:List bJ) (av:List cB) (ai:List cC) (ao:List cW) (aq:Int) (ax:List Int) (ay:Int) (aC:List aP) (aO aH:List bt) (aE:List bV) (aI:List Int) (aF az aG aU bb aQ:Int) (aZ:List aP)
def yn:Option Int:=lp (MS N).l N 0 Qx.tc 21 [] afp n1 ⟨[(1,.i x1),(2,.i x2),(3,.i x3),(4,.ptr 0 0 0),(14,.l cY x4),(15,.i x5),(16,.i x6)],[some (rj x7 x8 x9 aj ak av ai ao aq ax ay aC aO aH aE aI aF az aG aU bb aQ aZ)]⟩
theorem RN:yn N (n1+1) x1 x2 x3 x4 x5 x6 x7 x8 x9 aj ak av ai ao aq ax ay aC aO aH aE aI aF az aG aU bb aQ aZ=
  bif(decide (x6<x5)) then
  bif ae x6 x4.length then
  let v30:=x4.getD x6.toNat gJ
  bif(v30.2.1 !=x1) then
  yn N n1 x1 x2 x3 x4 x5 (W (x6+1)) x7 x8 x9 aj ak av ai ao aq ax ay aC aO aH aE aI aF az aG aU bb aQ aZ
  else
  bif(v30.2.2.1 !=x2) then
  yn N n1 x1 x2 x3 x4 x5 (W (x6+1)) x7 x8 x9 aj ak av ai ao aq ax ay aC aO aH aE aI aF az aG aU bb aQ aZ
  else
  (AQ N (((x7,x8),(x9,aj)),(ak,(av,(ai,ao)))) aC x6 aq).bind fun mG=>
  bif(mG.1==mG.2) then
  bif(decide (mG.1>=0)) then
  bif(decide (mG.1<x3)) then
  some mG.1
  else
  some (-1)
  else
  some (-1)
  else
  some (-1)
  else none
  else
  some (-1):=by kernel_rfl
end
def wW(N:Nat)(a0:aT)(a1:Int)(a2:Int)(a3:Int):Option Int:=
  yn N N a1 a2 a3 a0.1.2.1 (a0.1.2.1.length:Int) 0 a0.1.1.1.1 a0.1.1.1.2 a0.1.1.2.1 a0.1.1.2.2 a0.1.2.1 a0.1.2.2.1 a0.1.2.2.2.1 a0.1.2.2.2.2 a0.2.1 a0.2.2.1.1 a0.2.2.1.2 a0.2.2.2.1 a0.2.2.2.2.1 a0.2.2.2.2.2.1 a0.2.2.2.2.2.2.1.1 a0.2.2.2.2.2.2.1.2.1 a0.2.2.2.2.2.2.1.2.2 a0.2.2.2.2.2.2.2.1.1 a0.2.2.2.2.2.2.2.1.2.1 a0.2.2.2.2.2.2.2.1.2.2.1 a0.2.2.2.2.2.2.2.1.2.2.2.1 a0.2.2.2.2.2.2.2.1.2.2.2.2 a0.2.2.2.2.2.2.2.2
theorem af0(N:Nat):bk Tryz.prog 109 [iI,GI,GI,GI] [GI] (fun x=>wW N x.1 x.2.1 x.2.2.1 x.2.2.2):=bG (N:=N) (fq Qx Tryz.func109) (MS N).ok
def HE(N:Nat):CE:=(MS N).a (bD (af0 N))
def Ox:FD:=fd 47 nf [(.cell 2 true 2)] Tryz.f73 [(31,{w:=[(false,[.cy 3])]}),(58,{ns:=[.aM 3 0 GI,.af [1,2,3,11,12],.cmp]}),(63,{w:=[(false,[.cy 2])]}),(122,{ns:=[.aM 3 1 GI,.wk 27 (.list cu),.af [1,2,3,27,28,29],.cmp]}),(3737,{an:=[(5,⟨GI,none,[]⟩)]}),(7833,{an:=
  [(8,⟨GI,none,[]⟩)]})]
def Qk:Exit->SI->Option bF:=fin [(.cell 2 true 2)] [ep]
section
variable (N n1 n2:Nat) (x1 x2:Int) (x3:List bj) (x4:List aR) (x5:List bC) (x6:List bu) (x7:List bJ) (x8:List cB) (x9:List cC) (aj:List cW) (ak:Int) (av:List Int) (ai:Int) (ao:List aP) (aq ax:List bt) (ay:List bV) (aC:List Int) (aO aH aE aI aF az:Int) (aG:List aP) (aU:List Int) (dH:List bu) (dE dI:Int) (dW:List bj) (dX:List aR) (dO:List bC) (dC:List bu) (eb:List bJ) (gB:List cB) (gC:List cC) (gU:List cW) (gV:Int) (gW:List Int) (gX:Int) (gY:List aP) (gw gl:List bt) (ea:List bV) (iu:List Int) (iv dR gq gr ix fB:Int) (iX:List aP) (kN jx:List Int)
def zH:Option bF:=lp (HE N).l N 0 Ox.tc 87 [] Qk n2 ⟨[(1,.ptr 0 0 0),(2,.ptr 1 0 0),(3,.ptr 2 0 0),(27,.l cu dH),(28,.i dE),(29,.i dI)],[some (rj dW dX dO dC eb gB gC gU gV gW gX gY gw gl ea iu iv dR gq gr ix fB iX),some (dF),some (.box 0 [.whole 3,.whole 4]),some (.arr GI kN),some (.arr GI jx)]⟩
def Bb:Option bF:=lp (HE N).l N 0 Ox.tc 43 [] Qk n1 ⟨[(1,.ptr 0 0 0),(2,.ptr 1 0 0),(3,.ptr 2 0 0),(11,.i x1),(12,.i x2)],[some (rj x3 x4 x5 x6 x7 x8 x9 aj ak av ai ao aq ax ay aC aO aH aE aI aF az aG),some (dF),some (.box 0 [.whole 3,.nil]),some (.arr GI aU)]⟩
theorem XA:zH N (n2+1) dH dE dI dW dX dO dC eb gB gC gU gV gW gX gY gw gl ea iu iv dR gq gr ix fB iX kN jx=
  bif(decide (dI<dE)) then
  bif ae dI dH.length then
  (wW N ((((dW,dX),(dO,dC)),(eb,(gB,(gC,gU)))),(gV,((gW,gX),(gY,(gw,(gl,((ea,(iu,iv)),((dR,(gq,(gr,(ix,fB)))),iX)))))))) 6 dI ((dH.getD dI.toNat iZ).2.2.length:Int)).bind fun r84=>
  bif ba (jx.length+1) 8 then
  zH N n2 dH dE (W (dI+1)) dW dX dO dC eb gB gC gU gV gW gX gY gw gl ea iu iv dR gq gr ix fB iX kN (jx++[r84])
  else none
  else none
  else
  some (kN,jx):=by kernel_rfl
theorem VY:Bb N (n1+1) x1 x2 x3 x4 x5 x6 x7 x8 x9 aj ak av ai ao aq ax ay aC aO aH aE aI aF az aG aU=
  bif(decide (x2<x1)) then
  (wW N ((((x3,x4),(x5,x6)),(x7,(x8,(x9,aj)))),(ak,((av,ai),(ao,(aq,(ax,((ay,(aC,aO)),((aH,(aE,(aI,(aF,az)))),aG)))))))) 5 x2 3).bind fun jR=>
  bif ba (aU.length+1) 8 then
  Bb N n1 x1 (W (x2+1)) x3 x4 x5 x6 x7 x8 x9 aj ak av ai ao aq ax ay aC aO aH aE aI aF az aG (aU++[jR])
  else none
  else
  zH N N x6 (x6.length:Int) 0 x3 x4 x5 x6 x7 x8 x9 aj ak av ai ao aq ax ay aC aO aH aE aI aF az aG aU []:=by kernel_rfl
end
def xS(N:Nat)(a0:aT):Option bF:=
  Bb N N (a0.1.1.2.1.length:Int) 0 a0.1.1.1.1 a0.1.1.1.2 a0.1.1.2.1 a0.1.1.2.2 a0.1.2.1 a0.1.2.2.1 a0.1.2.2.2.1 a0.1.2.2.2.2 a0.2.1 a0.2.2.1.1 a0.2.2.1.2 a0.2.2.2.1 a0.2.2.2.2.1 a0.2.2.2.2.2.1 a0.2.2.2.2.2.2.1.1 a0.2.2.2.2.2.2.1.2.1 a0.2.2.2.2.2.2.1.2.2 a0.2.2.2.2.2.2.2.1.1 a0.2.2.2.2.2.2.2.1.2.1 a0.2.2.2.2.2.2.2.1.2.2.1 a0.2.2.2.2.2.2.2.1.2.2.2.1 a0.2.2.2.2.2.2.2.1.2.2.2.2 a0.2.2.2.2.2.2.2.2 []
theorem Zd(N:Nat):bk Tryz.prog 73 [iI] [ep] (fun x=>xS N x):=bG (N:=N) (fq Ox Tryz.func73) (HE N).ok
def OG(N:Nat):CE:=(HE N).a (bD (Zd N))
def Xe:FD:=fd 40 nf [(.cell 2 true 2),(.t 3)] Tryz.f128 [(122,{ns:=[.wk 14 (.list bm),.af [2,4,14,15,16],.cmp]})]
def aa4:Exit->SI->Option (aJ×Bool):=fin [(.cell 2 true 2),(.t 3)] [bm,.bool]
section
variable (N n1:Nat) (x3:List aJ) (x4 x5 x6 x7 x8 x9:Int)
def HO:Option (aJ×Bool):=lp (OG N).l N 0 Xe.tc 87 [] aa4 n1 ⟨[(2,.ptr 0 0 0),(4,.ptr 1 0 0),(14,.l bm x3),(15,.i x4),(16,.i x5)],[some (jG x6 x7),some (jG x8 x9)]⟩
theorem apf:HO N (n1+1) x3 x4 x5 x6 x7 x8 x9=
  bif(decide (x5<x4)) then
  bif ae x5 x3.length then
  HO N n1 x3 x4 (W (x5+1)) x6 x7 (max x8 (x3.getD x5.toNat dZ).1) (min x9 (x3.getD x5.toNat dZ).2)
  else none
  else
  bif(decide (x8>x9)) then
  (kL N).bind fun dJ=>
  some (dJ,false)
  else
  some ((x8,x9),true):=by kernel_rfl
end
def Eb(N:Nat)(a0:List aJ):Option (aJ×Bool):=
  bif((a0.length:Int)==0) then
  (kL N).bind fun r1=>
  some (r1,true)
  else
  bif ae 0 a0.length then
  let v2:=a0.getD (0:Int).toNat dZ
  HO N N a0 (a0.length:Int) 0 0 0 v2.1 v2.2
  else none
theorem axs(N:Nat):bk Tryz.prog 128 [(.list bm)] [bm,.bool] (fun x=>Eb N x):=bG (N:=N) (fq Xe Tryz.func128) (OG N).ok
def wZ(N:Nat):CE:=(OG N).a (bD (axs N))
def Ci:FD:=fd 123 nf [(.t 12),(.t 13)] Tryz.f110 [(6,{w:=[(false,[.ghost bm])],an:=[(1,⟨.unit,some 1,[]⟩)]}),(14,{an:=[(2,⟨.bool,none,[]⟩)]}),(30,{an:=[(2,⟨.bool,none,[]⟩)]}),(250,{ns:=[.wk 3 (.list cY),.wk 14 (.list bm),.wk 15 (.list .bool),.wk 16 (.list .bool),.wk 33 (.list aV),.af [2,3,
  5,7,14,15,16,33,34,35],.cmp]}),(255,{w:=[(false,[.ej 22])]}),(511,{w:=[(false,[.own 12 bm,.ej 13,.af [12,13],.out []])]}),(1018,{ns:=[.own 22 GI,.wk 14 (.list bm),.wk 108 (.list .bool),.af [14,22,108,109,110],.cmp]}),(32051,{w:=[(true,
  [.wk 3 (.list cY),.wk 14 (.list bm),.wk 15 (.list .bool),.wk 16 (.list .bool),.wk 33 (.list aV),.af [2,3,5,7,14,15,16,18,33,34,35],.cmp])]}),(128207,{w:=[(true,[.wk 3 (.list cY),.wk 14 (.list bm),.wk 15 (.list .bool),.wk 16 (.list .bool),.wk 33
  (.list aV),.af [2,3,5,7,14,15,16,18,19,33,34,35],.cmp])]}),(256414,{w:=[(false,[.wait])],an:=[(9,⟨bm,none,[]⟩),(14,⟨.unit,some 6,[]⟩)]}),(260710,{an:=[(2,⟨GI,none,[]⟩)]})]
def Tv:List NS:=[.own 12 bm,.ej 13,.af [12,13],.out []]
def Fs:Exit->SI->Option (((List aJ)×List Int)×Unit):=fK Tv [(.t 12),(.t 13)] [.v (.list bm),.v bm,.v GI,.v (.list cY),.v (.list aV),.v GI] [.o (.a bm),.v LI] 0 0
section
variable (N JM n1 n2:Nat) (x3:Int) (x4:List bJ) (x5:Int) (x6:List aP) (x7 x8 x9 aj:Int) (ak:List aJ) (av ai:List Bool) (bP:Int) (bA:List bJ) (bw:Int) (bZ:List aP) (cb cd bW cU:Int) (cK:List aJ) (cZ cX:List Bool) (eM eV ec ei gR:Int) (gS:List bJ) (fM:Int) (gu:List aP) (fC fY eU qv:Int) (mH:List aJ) (qw qx:List Bool) (qy tU tV tW tX tY kv tZ ua Po Pp Pq oA lJ:Int) (nH:List aJ) (nJ:List Int) (mE:List Bool)
def Wa:Option (((List aJ)×List Int)×Unit):=jn (wZ N).l N 0 Ci.tc 242479 [n1] Fs JM ⟨[(2,.i gR),(3,.l cY gS),(5,.i fM),(7,.ptr 0 0 0),(14,.whole 1),(15,.whole 2),(16,.whole 3),(18,.ptr 4 0 0),(19,.ptr 5 0 0),(33,.l aV gu),(34,.i fC),(35,.i fY)],[some (jG eU qv),some (.arr bm mH),some (.arr .bool qw),some (.arr .bool qx),some (.box 0 [.i qy,.i tU,.i tV,.i tW]),some (.box 0 [.i tX,.i tY,.i kv,.i tZ,.i ua,.i Po,.i Pp,.i Pq])]⟩
def TF:Option (((List aJ)×List Int)×Unit):=jn (wZ N).l N 0 Ci.tc 29487 [n1] Fs JM ⟨[(2,.i bP),(3,.l cY bA),(5,.i bw),(7,.ptr 0 0 0),(14,.whole 1),(15,.whole 2),(16,.whole 3),(18,.ptr 4 0 0),(33,.l aV bZ),(34,.i cb),(35,.i cd)],[some (jG bW cU),some (.arr bm cK),some (.arr .bool cZ),some (.arr .bool cX),some (.box 0 [.i eM,.i eV,.i ec,.i ei])]⟩
def Bi:Option (((List aJ)×List Int)×Unit):=lp (wZ N).l N 0 Ci.tc 703 [] Fs n2 ⟨[(14,.whole 0),(22,.whole 1),(108,.whole 2),(109,.i oA),(110,.i lJ)],[some (.arr bm nH),some (.arr GI nJ),some (.arr .bool mE)]⟩
def oc:Option (((List aJ)×List Int)×Unit):=lp (wZ N).l N 0 Ci.tc 175 [] Fs n1 ⟨[(2,.i x3),(3,.l cY x4),(5,.i x5),(7,.ptr 0 0 0),(14,.whole 1),(15,.whole 2),(16,.whole 3),(33,.l aV x6),(34,.i x7),(35,.i x8)],[some (jG x9 aj),some (.arr bm ak),some (.arr .bool av),some (.arr .bool ai)]⟩
theorem akk:Wa N (JM+1) n1 gR gS fM gu fC fY eU qv mH qw qx qy tU tV tW tX tY kv tZ ua Po Pp Pq=
  bif ae kv mH.length then
  (AF N (tX,(tY,(kv,(tZ,(ua,(Po,(Pp,Pq))))))) (qy,(tU,(tV,tW))) fM).bind fun r122=>
  (Eb N [(mH.getD kv.toNat dZ),r122]).bind fun yy=>
  bif(!yy.2) then
  bif ae kv qw.length then
  bif ae qy qx.length then
  bif ae kv mH.length then
  oc N n1 gR gS fM gu fC (W (fY+1)) eU qv (mH.set kv.toNat (eU,qv)) (qw.set kv.toNat true) (qx.set qy.toNat true)
  else none
  else none
  else none
  else
  bif ae kv mH.length then
  oc N n1 gR gS fM gu fC (W (fY+1)) eU qv (mH.set kv.toNat yy.1) qw qx
  else none
  else none:=by kernel_rfl
theorem aaf:TF N (JM+1) n1 bP bA bw bZ cb cd bW cU cK cZ cX eM eV ec ei=
  bif ae eM bA.length then
  let mJ:=bA.getD eM.toNat gJ
  bif(mJ.2.1 !=bP) then
  oc N n1 bP bA bw bZ cb (W (cd+1)) bW cU cK cZ cX
  else
  bif(decide (mJ.2.2.1<0)) then
  oc N n1 bP bA bw bZ cb (W (cd+1)) bW cU cK cZ cX
  else
  bif(decide (mJ.2.2.1>=(cK.length:Int))) then
  oc N n1 bP bA bw bZ cb (W (cd+1)) bW cU cK cZ cX
  else
  bif ae mJ.2.2.1 cZ.length then
  bif(cZ.getD mJ.2.2.1.toNat false) then
  oc N n1 bP bA bw bZ cb (W (cd+1)) bW cU cK cZ cX
  else
  Wa N N n1 bP bA bw bZ cb cd bW cU cK cZ cX eM eV ec ei mJ.1 mJ.2.1 mJ.2.2.1 mJ.2.2.2.1 mJ.2.2.2.2.1 mJ.2.2.2.2.2.1 mJ.2.2.2.2.2.2.1 mJ.2.2.2.2.2.2.2
  else none
  else none:=by kernel_rfl
theorem aah:Bi N (n2+1) oA lJ nH nJ mE=
  bif(decide (lJ<oA)) then
  bif ae lJ mE.length then
  bif(mE.getD lJ.toNat false) then
  bif ba (nJ.length+1) 8 then
  Bi N n2 oA (W (lJ+1)) nH (nJ++[lJ]) mE
  else none
  else
  Bi N n2 oA (W (lJ+1)) nH nJ mE
  else none
  else
  some ((nH,nJ),()):=by kernel_rfl
theorem att:oc N (n1+1) x3 x4 x5 x6 x7 x8 x9 aj ak av ai=
  bif(decide (x8<x7)) then
  bif ae x8 x6.length then
  let oN:=x6.getD x8.toNat dN
  bif(decide (oN.1<0)) then
  oc N n1 x3 x4 x5 x6 x7 (W (x8+1)) x9 aj ak av ai
  else
  bif(decide (oN.1>=(x4.length:Int))) then
  oc N n1 x3 x4 x5 x6 x7 (W (x8+1)) x9 aj ak av ai
  else
  TF N N n1 x3 x4 x5 x6 x7 x8 x9 aj ak av ai oN.1 oN.2.1 oN.2.2.1 oN.2.2.2
  else none
  else
  Bi N N (ai.length:Int) 0 ak [] ai:=by kernel_rfl
end
def Ma(N:Nat)(a0:List aJ)(a1:aJ)(a2:Int)(a3:List bJ)(a4:List aP)(a5:Int):Option (((List aJ)×List Int)×Unit):=
  bif ba a0.length 16 then
  bif eH 1 (a0.length:Int) (a0.length:Int) then
  bif eH 1 (a3.length:Int) (a3.length:Int) then
  oc N N a2 a3 a5 a4 (a4.length:Int) 0 a1.1 a1.2 a0 (List.replicate (a0.length:Int).toNat false) (List.replicate (a3.length:Int).toNat false)
  else none
  else none
  else none
theorem ae4(N:Nat):dq Tryz.prog 110 [none,none,none,none,none,none] [.v (.list bm),.v bm,.v GI,.v (.list cY),.v (.list aV),.v GI] [.o (.a bm),.v LI] (fun x=>Ma N x.1 x.2.1 x.2.2.1 x.2.2.2.1 x.2.2.2.2.1 x.2.2.2.2.2):=dM (N:=N) (p:=0) (q:=0) (ns:=Tv) (fq Ci Tryz.func110) (wZ N).ok
def Su(N:Nat):CE:=(wZ N).a (cT (ae4 N))
def anq:FD:=fd 18 nf [(.t 8),(.t 9)] Tryz.f74 [(7,{w:=[(false,[.own 8 bm,.ej 9,.af [8,9],.out []])]})]
def atq:List NS:=[.own 8 bm,.ej 9,.af [8,9],.out []]
def Be(N:Nat)(a0:List aJ)(a1:List bJ)(a2:List aP)(a3:Int):Option (((List aJ)×List Int)×Unit):=
  (kL N).bind fun r1=>
  (Ma N a0 r1 3 a1 a2 a3).bind fun r2=>
  some ((r2.1.1,r2.1.2),())
theorem ame(N:Nat):dq Tryz.prog 74 [none,none,none,none] [.v (.list bm),.v (.list cY),.v (.list aV),.v GI] [.o (.a bm),.v LI] (fun x=>Be N x.1 x.2.1 x.2.2.1 x.2.2.2):=dM (N:=N) (p:=0) (q:=0) (ns:=atq) (fq anq Tryz.func74) (Su N).ok
def Xi(N:Nat):CE:=(Su N).a (cT (ame N))
def als:FD:=fd 27 nf [(.t 2)] Tryz.f37 [(31,{w:=[(false,[.own 2 bm,.af [2],.out []])]})]
def aau:List NS:=[.own 2 bm,.af [2],.out []]
def lh(N:Nat)(a0:aT):Option ((List aJ)×Unit):=
  (xS N a0).bind fun r1=>
  (wQ N a0.1.1 r1).bind fun r2=>
  (Be N r2.1 a0.1.2.1 a0.2.2.2.1 a0.2.1).bind fun r3=>
  some (r3.1.1,())
theorem zg(N:Nat):dq Tryz.prog 37 [none] [.v iI] [.o (.a bm)] (fun x=>lh N x):=dM (N:=N) (p:=0) (q:=0) (ns:=aau) (fq als Tryz.func37) (Xi N).ok
def SU(N:Nat):CE:=(Xi N).a (cT (zg N))
def Yp:FD:=fd 44 nf [] Tryz.f38 [(2,{an:=[(13,⟨aV,none,[]⟩)]}),(30,{w:=[(false,[.ghost aV])],an:=[(7,⟨.unit,some 3,[]⟩)]}),(31,{w:=[(false,[.ghost aV])]})]
def aqa:List NS:=[.aM 0 13 aW,.aM 0 22 aV,.bg 0 0,.bg 0 1,.bg 0 2,.bg 0 3,.bg 0 4,.bg 0 5,.bg 0 6,.bg 0 7,.bg 0 9,.bg 0 11,.bg 0 12,.bg 0 14,.bg 0 15,.af [],.out [0]]
def ma(N:Nat)(a0:aT)(a1:Int)(a2:Int)(a3:Int):Option (Unit×aT):=
  bif ba (a0.2.2.2.2.2.2.2.2.length+1) 32 then
  let v1:=a0.2.2.2.2.2.2.2.2++[(a0.2.1,(a1,(a2,a3)))]
  let v2:=W ((v1.length:Int)-400)
  bif(decide (v2>0)) then
  bif gz v2 v1.length v1.length then
  bif ba (((v1.drop v2.toNat).take ((v1.length:Int).toNat-v2.toNat)).length) 32 then
  some ((),(a0.1,(a0.2.1,(a0.2.2.1,(a0.2.2.2.1,(a0.2.2.2.2.1,(a0.2.2.2.2.2.1,(a0.2.2.2.2.2.2.1,(a0.2.2.2.2.2.2.2.1,((v1.drop v2.toNat).take ((v1.length:Int).toNat-v2.toNat)))))))))))
  else none
  else none
  else
  some ((),(a0.1,(a0.2.1,(a0.2.2.1,(a0.2.2.2.1,(a0.2.2.2.2.1,(a0.2.2.2.2.2.1,(a0.2.2.2.2.2.2.1,(a0.2.2.2.2.2.2.2.1,v1)))))))))
  else none
theorem anc(N:Nat):dq Tryz.prog 38 [none,none,none,none] [.b (.p (.v fx) (.p (.v GI) (.p (.v dk) (.p (.v (.list aV)) (.p (.v (.list aW)) (.p (.a aW) (.p (.v fh) (.p (.v js) (.a aV))))))))),.v GI,.v GI,.v GI] [] (fun x=>ma N x.1 x.2.1 x.2.2.1 x.2.2.2):=dM (N:=N) (p:=3) (q:=5) (ns:=aqa) (fq Yp Tryz.func38) (SU N).ok
def Qs(N:Nat):CE:=(SU N).a (cT (anc N))
def as5:FD:=fd 21 nf [(.t 4)] Tryz.f100 []
def yb(N:Nat)(a0:aJ)(a1:Int):Option Int:=
  bif(decide (a0.1>a0.2)) then
  some 0
  else
  bif(decide (a0.1>=a1)) then
  some 1
  else
  bif(decide (a0.2<a1)) then
  some (-1)
  else
  some 0
theorem ad8(N:Nat):bk Tryz.prog 100 [bm,GI] [GI] (fun x=>yb N x.1 x.2):=bG (N:=N) (fq as5 Tryz.func100) (Qs N).ok
def Hr(N:Nat):CE:=(Qs N).a (bD (ad8 N))
def KK:FD:=fd 97 nf [(.cell 8 true 3),(.t 9)] Tryz.f98 [(15,{w:=[(true,[.af [3,4,5,6,8],.cmp])]}),(31,{w:=[(true,[.af [3,4,5,6,8],.cmp])]})]
def TN:Exit->SI->Option (bt×Int):=fin [(.cell 8 true 3),(.t 9)] [aW,GI]
section
variable (N JM:Nat) (x2 x3 x4 x5:Int) (x6:Bool) (x7 x8 x9 aj:Int) (ak:Bool) (av ai ao aq ax ay:Int) (aC:Bool) (aO aH aE aI:Int) (aF:Bool) (az aG:Int)
def HS:Option (bt×Int):=jn (Hr N).l N 0 KK.tc 55 [] TN JM ⟨[(3,.i ao),(4,.ptr 0 0 0),(5,.ptr 1 0 0),(6,.ptr 2 0 0),(8,.ptr 3 0 0)],[some (.box 0 [.i aq,.i ax,.i ay]),some (.box 0 [.bool aC,.i aO,.i aH]),some (jG aE aI),some (.box 0 [.bool aF,.i az,.i aG])]⟩
def Xg:Option (bt×Int):=jn (Hr N).l N 0 KK.tc 15 [] TN JM ⟨[(3,.i x2),(4,.ptr 0 0 0),(5,.ptr 1 0 0),(6,.ptr 2 0 0),(8,.ptr 3 0 0)],[some (.box 0 [.i x3,.i x4,.i x5]),some (.box 0 [.bool x6,.i x7,.i x8]),some (jG x9 aj),some (.box 0 [.bool ak,.i av,.i ai])]⟩
theorem ade:HS N (JM+1) ao aq ax ay aC aO aH aE aI aF az aG=
  (yb N (aE,aI) aq).bind fun Pm=>
  bif(Pm !=(-1)) then
  some ((true,((-1),ao)),0)
  else
  bif(!aC) then
  some ((aC,(aO,ao)),0)
  else
  bif(decide (aI>ax)) then
  some ((aC,((-1),ao)),0)
  else
  bif(decide (aO<0)) then
  bif(decide ((W (ao-ao))>=ay)) then
  some ((false,((-1),ao)),0)
  else
  some ((aC,(ao,ao)),0)
  else
  bif(decide ((W (ao-aO))>=ay)) then
  some ((false,((-1),ao)),0)
  else
  some ((aC,(aO,ao)),0):=by kernel_rfl
theorem adj:Xg N (JM+1) x2 x3 x4 x5 x6 x7 x8 x9 aj ak av ai=
  bif(decide (x8<0)) then
  some ((false,(0,0)),10)
  else
  bif(decide (x8>2147483648)) then
  some ((false,(0,0)),10)
  else
  bif(decide (x7<(-1))) then
  some ((false,(0,0)),10)
  else
  bif(decide (x7>x8)) then
  some ((false,(0,0)),10)
  else
  bif(x7 !=(-1)) then
  bif(!x6) then
  some ((false,(0,0)),10)
  else
  HS N N x2 x3 x4 x5 x6 x7 x8 x9 aj ak av ai
  else
  HS N N x2 x3 x4 x5 x6 x7 x8 x9 aj ak av ai:=by kernel_rfl
end
def FJ(N:Nat)(a0:xZ)(a1:bt)(a2:aJ)(a3:Int):Option (bt×Int):=
  (uA N a0).bind fun r1=>
  bif(r1 !=0) then
  some ((false,(0,0)),r1)
  else
  bif(decide (a3<0)) then
  some ((false,(0,0)),8)
  else
  bif(decide (a3>2147483648)) then
  some ((false,(0,0)),8)
  else
  bif(decide (a3<a1.2.2)) then
  some ((false,(0,0)),8)
  else
  Xg N N a3 a0.1 a0.2.1 a0.2.2 a1.1 a1.2.1 a1.2.2 a2.1 a2.2 false 0 0
theorem ach(N:Nat):bk Tryz.prog 98 [M1,aW,bm,GI] [aW,GI] (fun x=>FJ N x.1 x.2.1 x.2.2.1 x.2.2.2):=bG (N:=N) (fq KK Tryz.func98) (Hr N).ok
def PY(N:Nat):CE:=(Hr N).a (bD (ach N))
def ael:FD:=fd 18 nf [(.t 6)] Tryz.f99 []
def Fo(N:Nat)(a0:cB)(a1:bt)(a2:aJ):Option Int:=
  bif(!a1.1) then
  some (-1)
  else
  (yb N a2 a0.2.2.2.1).bind fun r1=>
  bif(r1==1) then
  some 1
  else
  some 0
theorem atb(N:Nat):bk Tryz.prog 99 [fQ,aW,bm] [GI] (fun x=>Fo N x.1 x.2.1 x.2.2):=bG (N:=N) (fq ael Tryz.func99) (PY N).ok
def SE(N:Nat):CE:=(PY N).a (bD (atb N))
def YK:FD:=fd 27 nf [(.t 2)] Tryz.f101 []
def Ed(N:Nat)(a0:aJ):Option Int:=
  bif(decide (a0.1>a0.2)) then
  some 0
  else
  bif(a0.1==1) then
  bif(a0.2==1) then
  some (-1)
  else
  bif(decide (a0.1>1)) then
  some 1
  else
  bif(decide (a0.2<1)) then
  some 1
  else
  some 0
  else
  bif(decide (a0.1>1)) then
  some 1
  else
  bif(decide (a0.2<1)) then
  some 1
  else
  some 0
theorem af8(N:Nat):bk Tryz.prog 101 [bm] [GI] (fun x=>Ed N x):=bG (N:=N) (fq YK Tryz.func101) (SE N).ok
def XN(N:Nat):CE:=(SE N).a (bD (af8 N))
def YR:FD:=fd 39 nf [(.t 4)] Tryz.f118 []
def DG(N:Nat)(a0:aJ)(a1:Int):Option Int:=
  bif(decide (a0.1>a0.2)) then
  some 0
  else
  bif(decide (a1<=0)) then
  some 1
  else
  bif(decide (a0.1>=a1)) then
  some 1
  else
  bif(decide (a0.2<=(W (0-a1)))) then
  some 1
  else
  bif(decide (a0.1>(W (0-a1)))) then
  bif(decide (a0.2<a1)) then
  some (-1)
  else
  some 0
  else
  some 0
theorem anz(N:Nat):bk Tryz.prog 118 [bm,GI] [GI] (fun x=>DG N x.1 x.2):=bG (N:=N) (fq YR Tryz.func118) (XN N).ok
def Nj(N:Nat):CE:=(XN N).a (bD (anz N))
def XU:FD:=fd 41 nf [(.t 4)] Tryz.f102 [(6,{an:=[(2,⟨GI,none,[]⟩)]}),(31,{w:=[(false,[.ej 4])]}),(58,{ns:=[.wk 0 (.list bm),.wk 5 LI,.wk 11 (.list bm),.af [0,5,11,12,13],.cmp]})]
def YV:Exit->SI->Option (List Int):=fin [(.t 4)] [LI]
section
variable (N n1:Nat) (x2 x3:List aJ) (x4 x5:Int) (x6:List Int)
def xg:Option (List Int):=lp (Nj N).l N 0 XU.tc 43 [] YV n1 ⟨[(0,.l bm x2),(5,.whole 0),(11,.l bm x3),(12,.i x4),(13,.i x5)],[some (.arr GI x6)]⟩
theorem Zx:xg N (n1+1) x2 x3 x4 x5 x6=
  bif(decide (x5<x4)) then
  bif ae x5 x3.length then
  bif(decide ((x3.getD x5.toNat dZ).1>=0)) then
  bif(decide ((x3.getD x5.toNat dZ).1<(x2.length:Int))) then
  bif ae (x3.getD x5.toNat dZ).1 x2.length then
  (DG N (x2.getD (x3.getD x5.toNat dZ).1.toNat dZ) (x3.getD x5.toNat dZ).2).bind fun r9=>
  bif ae x5 x6.length then
  xg N n1 x2 x3 x4 (W (x5+1)) (x6.set x5.toNat r9)
  else none
  else none
  else
  xg N n1 x2 x3 x4 (W (x5+1)) x6
  else
  xg N n1 x2 x3 x4 (W (x5+1)) x6
  else none
  else
  some x6:=by kernel_rfl
end
def Ej(N:Nat)(a0:List aJ)(a1:List aJ):Option (List Int):=
  bif eH 8 (a1.length:Int) (a1.length:Int) then
  xg N N a0 a1 (a1.length:Int) 0 (List.replicate (a1.length:Int).toNat 0)
  else none
theorem asp(N:Nat):bk Tryz.prog 102 [(.list bm),(.list bm)] [LI] (fun x=>Ej N x.1 x.2):=bG (N:=N) (fq XU Tryz.func102) (Nj N).ok
def Am(N:Nat):CE:=(Nj N).a (bD (asp N))
def HU:FD:=fd 152 nf [(.t 10),(.t 11),(.t 12)] Tryz.f62 [(15,{w:=[(true,[.wk 1 (.list aV),.wk 2 (.list aW),.wk 3 (.list bm),.af [1,2,3,4,5],.cmp])]}),(31,{w:=[(true,[.wk 1 (.list aV),.wk 2 (.list aW),.wk 3 (.list bm),.af [1,2,3,4,5],.cmp])]}),(62,{w:=[(false,[.wait,.ghost aW])],an
  :=[(2,⟨GI,some 1,[]⟩),(4,⟨.unit,some 2,[]⟩)]}),(109,{w:=[(false,[.own 10 GI,.own 11 aW,.af [10,11,12],.out []])]}),(117,{w:=[(false,[.own 10 GI,.own 11 aW,.af [10,11,12],.out []])]}),(245,{w:=[(false,[.own 10 GI,
  .own 11 aW,.af [10,11,12],.out []])]}),(255,{w:=[(false,[.own 10 GI,.own 11 aW,.af [10,11,12],.out []])]}),(506,{ns:=[.wk 1 (.list aV),.wk 2 (.list aW),.wk 3 (.list bm),.wk 14 LI,.wk 15 (.list aW),.wk 62 (.list
  fQ),.af [1,2,3,4,5,14,15,62,63,64],.cmp]}),(2074228,{w:=[(false,[.wait])],an:=[(12,⟨.unit,some 5,[]⟩)]}),(33187669,{w:=[(false,[.own 10 GI,.own 11 aW,.af [10,11,12],.out []])]}),(265501694,{an:=[(8,⟨bm,none,[]⟩)]})]
def TX:List NS:=[.own 10 GI,.own 11 aW,.af [10,11,12],.out []]
def NP:Exit->SI->Option (((List Int)×(List bt)×Int)×Unit):=fK TX [(.t 10),(.t 11),(.t 12)] [.v fx,.v (.list aV),.v (.list aW),.v (.list bm),.v GI] [.o (.a GI),.o (.a aW),.v GI] 0 0
section
variable (N JM n1:Nat) (x2:List aP) (x3:List bt) (x4:List aJ) (x5:Int) (x6:List bj) (x7:List aR) (x8:List bC) (x9:List bu) (aj:List bJ) (ak:List cB) (av:List cC) (ai:List cW) (ao:List aP) (aq:List bt) (ax:List aJ) (ay:Int) (aC:List bj) (aO:List aR) (aH:List bC) (aE:List bu) (aI:List bJ) (aF:List cB) (az:List cC) (aG:List cW) (bb:List aP) (aQ:List bt) (aZ:List aJ) (bp:Int) (bn:List cB) (bx bq:Int) (bL:List bj) (bN:List aR) (bz:List bC) (bP:List bu) (bA:List bJ) (bw:List cB) (bZ:List cC) (cb:List cW) (cd:List Int) (bW:List bt)
def nY:Option (((List Int)×(List bt)×Int)×Unit):=lp (Am N).l N 0 HU.tc 1367 [] NP n1 ⟨[(1,.l aV bb),(2,.l aW aQ),(3,.l bm aZ),(4,.i bp),(5,.ptr 0 0 0),(14,.whole 1),(15,.whole 2),(62,.l fQ bn),(63,.i bx),(64,.i bq)],[some (fU bL bN bz bP bA bw bZ cb),some (.arr GI cd),some (.arr aW bW)]⟩
def Qo:Option (((List Int)×(List bt)×Int)×Unit):=jn (Am N).l N 0 HU.tc 55 [] NP JM ⟨[(1,.l aV ao),(2,.l aW aq),(3,.l bm ax),(4,.i ay),(5,.ptr 0 0 0)],[some (fU aC aO aH aE aI aF az aG)]⟩
def Ti:Option (((List Int)×(List bt)×Int)×Unit):=jn (Am N).l N 0 HU.tc 15 [] NP JM ⟨[(1,.l aV x2),(2,.l aW x3),(3,.l bm x4),(4,.i x5),(5,.ptr 0 0 0)],[some (fU x6 x7 x8 x9 aj ak av ai)]⟩
theorem asq:nY N (n1+1) bb aQ aZ bp bn bx bq bL bN bz bP bA bw bZ cb cd bW=
  bif(decide (bq<bx)) then
  bif ae bq bn.length then
  let oO:=bn.getD bq.toNat F2
  (AQ N (((bL,bN),(bz,bP)),(bA,(bw,(bZ,cb)))) bb oO.2.1 bp).bind fun yB=>
  bif(oO.1==1) then
  bif ae bq aQ.length then
  (FJ N oO.2.2.2 (aQ.getD bq.toNat cG) yB bp).bind fun rR=>
  bif(rR.2 !=0) then
  some (([],[],rR.2),())
  else
  (Fo N oO rR.1 yB).bind fun mB=>
  bif ae bq bW.length then
  bif ae bq cd.length then
  nY N n1 bb aQ aZ bp bn bx (W (bq+1)) bL bN bz bP bA bw bZ cb (cd.set bq.toNat mB) (bW.set bq.toNat rR.1)
  else none
  else none
  else none
  else
  bif(oO.1==2) then
  (yb N yB oO.2.2.1).bind fun fZ=>
  bif ae bq cd.length then
  nY N n1 bb aQ aZ bp bn bx (W (bq+1)) bL bN bz bP bA bw bZ cb (cd.set bq.toNat (W (0-fZ))) bW
  else none
  else
  bif(oO.1==3) then
  (Ed N yB).bind fun r87=>
  bif ae bq cd.length then
  nY N n1 bb aQ aZ bp bn bx (W (bq+1)) bL bN bz bP bA bw bZ cb (cd.set bq.toNat r87) bW
  else none
  else
  bif(oO.1==4) then
  bif ae bq cd.length then
  (kL N).bind fun r107=>
  bif((yB.1==r107.1) && (yB.2==r107.2)) then
  bif ae bq (cd.set bq.toNat (-1)).length then
  nY N n1 bb aQ aZ bp bn bx (W (bq+1)) bL bN bz bP bA bw bZ cb ((cd.set bq.toNat (-1)).set bq.toNat 1) bW
  else none
  else
  nY N n1 bb aQ aZ bp bn bx (W (bq+1)) bL bN bz bP bA bw bZ cb (cd.set bq.toNat (-1)) bW
  else none
  else
  bif(oO.1==5) then
  (Ej N aZ [(oO.2.1,oO.2.2.1)]).bind fun r143=>
  bif ae 0 r143.length then
  bif ae bq cd.length then
  nY N n1 bb aQ aZ bp bn bx (W (bq+1)) bL bN bz bP bA bw bZ cb (cd.set bq.toNat (W (0-(r143.getD (0:Int).toNat 0)))) bW
  else none
  else none
  else
  nY N n1 bb aQ aZ bp bn bx (W (bq+1)) bL bN bz bP bA bw bZ cb cd bW
  else none
  else
  some ((cd,bW,0),()):=by kernel_rfl
theorem aww:Qo N (JM+1) ao aq ax ay aC aO aH aE aI aF az aG=
  bif eH 8 (aq.length:Int) (aq.length:Int) then
  bif ba aq.length 24 then
  nY N N ao aq ax ay aF (aF.length:Int) 0 aC aO aH aE aI aF az aG (List.replicate (aq.length:Int).toNat 0) aq
  else none
  else none:=by kernel_rfl
theorem Yx:Ti N (JM+1) x2 x3 x4 x5 x6 x7 x8 x9 aj ak av ai=
  bif(decide (x5<0)) then
  some (([],[],8),())
  else
  bif(decide (x5>2147483648)) then
  some (([],[],8),())
  else
  Qo N N x2 x3 x4 x5 x6 x7 x8 x9 aj ak av ai:=by kernel_rfl
end
def Im(N:Nat)(a0:bX)(a1:List aP)(a2:List bt)(a3:List aJ)(a4:Int):Option (((List Int)×(List bt)×Int)×Unit):=
  (tM N a0).bind fun r1=>
  bif(r1 !=0) then
  some (([],[],r1),())
  else
  bif((a1.length:Int) !=(a0.2.1.length:Int)) then
  some (([],[],11),())
  else
  bif((a2.length:Int) !=(a0.2.2.1.length:Int)) then
  some (([],[],11),())
  else
  bif((a3.length:Int) !=(a0.1.1.2.length:Int)) then
  some (([],[],11),())
  else
  Ti N N a1 a2 a3 a4 a0.1.1.1 a0.1.1.2 a0.1.2.1 a0.1.2.2 a0.2.1 a0.2.2.1 a0.2.2.2.1 a0.2.2.2.2
theorem QA(N:Nat):dq Tryz.prog 62 [none,none,none,none,none] [.v fx,.v (.list aV),.v (.list aW),.v (.list bm),.v GI] [.o (.a GI),.o (.a aW),.v GI] (fun x=>Im N x.1 x.2.1 x.2.2.1 x.2.2.2.1 x.2.2.2.2):=dM (N:=N) (p:=0) (q:=0) (ns:=TX) (fq HU Tryz.func62) (Am N).ok
def Mo(N:Nat):CE:=(Am N).a (cT (QA N))
def QM:FD:=fd 102 nf [(.t 4)] Tryz.f68 [(14,{an:=[(2,⟨GI,none,[]⟩)]}),(122,{ns:=[.wk 1 LI,.wk 5 LI,.wk 14 (.list aV),.af [1,5,14,15,16],.cmp]})]
def Zz:Exit->SI->Option Int:=fin [(.t 4)] [GI]
section
variable (N n1:Nat) (x3:List Int) (x4:List aP) (x5 x6:Int) (x7:List Int)
def p9:Option Int:=lp (Mo N).l N 0 QM.tc 87 [] Zz n1 ⟨[(1,.l GI x3),(5,.whole 0),(14,.l aV x4),(15,.i x5),(16,.i x6)],[some (.arr GI x7)]⟩
theorem agx:p9 N (n1+1) x3 x4 x5 x6 x7=
  bif(decide (x6<x5)) then
  bif ae x6 x4.length then
  let v8:=x4.getD x6.toNat dN
  bif(v8.1==1) then
  bif(decide (v8.2.1<(x3.length:Int))) then
  bif ae v8.2.1 x3.length then
  bif(decide ((x3.getD v8.2.1.toNat 0)>=(-1))) then
  bif ae v8.2.1 x3.length then
  bif(decide ((x3.getD v8.2.1.toNat 0)<=1)) then
  bif ae v8.2.1 x3.length then
  bif ae x6 x7.length then
  p9 N n1 x3 x4 x5 (W (x6+1)) (x7.set x6.toNat (x3.getD v8.2.1.toNat 0))
  else none
  else none
  else
  p9 N n1 x3 x4 x5 (W (x6+1)) x7
  else none
  else
  p9 N n1 x3 x4 x5 (W (x6+1)) x7
  else none
  else
  p9 N n1 x3 x4 x5 (W (x6+1)) x7
  else
  bif(v8.1==2) then
  bif ae v8.2.2.1 x7.length then
  bif ae x6 x7.length then
  p9 N n1 x3 x4 x5 (W (x6+1)) (x7.set x6.toNat (W (0-(x7.getD v8.2.2.1.toNat 0))))
  else none
  else none
  else
  bif(v8.1==3) then
  bif ae v8.2.2.1 x7.length then
  bif ae v8.2.2.2 x7.length then
  bif ae x6 x7.length then
  p9 N n1 x3 x4 x5 (W (x6+1)) (x7.set x6.toNat (min (x7.getD v8.2.2.1.toNat 0) (x7.getD v8.2.2.2.toNat 0)))
  else none
  else none
  else none
  else
  bif ae v8.2.2.1 x7.length then
  bif ae v8.2.2.2 x7.length then
  bif ae x6 x7.length then
  p9 N n1 x3 x4 x5 (W (x6+1)) (x7.set x6.toNat (max (x7.getD v8.2.2.1.toNat 0) (x7.getD v8.2.2.2.toNat 0)))
  else none
  else none
  else none
  else none
  else
  let o9:=W ((x7.length:Int)-1)
  bif ae o9 x7.length then
  some (x7.getD o9.toNat 0)
  else none:=by kernel_rfl
end
def Ax(N:Nat)(a0:List aP)(a1:List Int):Option Int:=
  (xp N a0).bind fun r1=>
  bif(!r1) then
  some 0
  else
  bif eH 8 (a0.length:Int) (a0.length:Int) then
  p9 N N a1 a0 (a0.length:Int) 0 (List.replicate (a0.length:Int).toNat 0)
  else none
theorem ab9(N:Nat):bk Tryz.prog 68 [(.list aV),LI] [GI] (fun x=>Ax N x.1 x.2):=bG (N:=N) (fq QM Tryz.func68) (Mo N).ok
def zy(N:Nat):CE:=(Mo N).a (bD (ab9 N))
def FM:FD:=fd 93 nf [(.t 8),(.t 9),(.t 10)] Tryz.f63 [(15,{w:=[(true,[.wk 1 LI,.wk 2 (.list aW),.af [1,2,3,4],.cmp])]}),(31,{w:=[(true,[.wk 1 LI,.wk 2 (.list aW),.af [1,2,3,4],.cmp])]}),(62,{w:=[(false,[.ghost aW])],an:=[(1,⟨.unit,some 1,[]⟩)]}),(109,{w:=[(false,
  [.own 8 aW,.own 9 GI,.af [8,9,10],.out []])]}),(117,{w:=[(false,[.own 8 aW,.own 9 GI,.af [8,9,10],.out []])]}),(245,{w:=[(false,[.own 8 aW,.own 9 GI,.af [8,9,10],.out []])]}),(511,{w:=[(false,[.own 8 aW,.own 9 (.int
  .i64),.af [8,9,10],.out []])]}),(1018,{ns:=[.own 13 GI,.wk 1 LI,.wk 12 (.list aW),.wk 46 (.list fy),.af [1,3,12,13,46,47,48],.cmp]}),(8342781,{an:=[(2,⟨GI,none,[]⟩)]})]
def Xk:List NS:=[.own 8 aW,.own 9 GI,.af [8,9,10],.out []]
def NH:Exit->SI->Option (((List bt)×(List Int)×Int)×Unit):=fK Xk [(.t 8),(.t 9),(.t 10)] [.v fx,.v LI,.v (.list aW),.v GI] [.o (.a aW),.o (.a GI),.v GI] 0 0
section
variable (N JM n1:Nat) (x2:List Int) (x3:List bt) (x4:Int) (x5:List bj) (x6:List aR) (x7:List bC) (x8:List bu) (x9:List bJ) (aj:List cB) (ak:List cC) (av:List cW) (ai:List Int) (ao:List bt) (aq:Int) (ax:List bj) (ay:List aR) (aC:List bC) (aO:List bu) (aH:List bJ) (aE:List cB) (aI:List cC) (aF:List cW) (az:List Int) (aG:Int) (aU:List cC) (bb aQ:Int) (aZ:List bt) (bp:List Int)
def uL:Option (((List bt)×(List Int)×Int)×Unit):=lp (zy N).l N 0 FM.tc 2775 [] NH n1 ⟨[(1,.l GI az),(3,.i aG),(12,.whole 0),(13,.whole 1),(46,.l fy aU),(47,.i bb),(48,.i aQ)],[some (.arr aW aZ),some (.arr GI bp)]⟩
def QT:Option (((List bt)×(List Int)×Int)×Unit):=jn (zy N).l N 0 FM.tc 55 [] NH JM ⟨[(1,.l GI ai),(2,.l aW ao),(3,.i aq),(4,.ptr 0 0 0)],[some (fU ax ay aC aO aH aE aI aF)]⟩
def Qd:Option (((List bt)×(List Int)×Int)×Unit):=jn (zy N).l N 0 FM.tc 15 [] NH JM ⟨[(1,.l GI x2),(2,.l aW x3),(3,.i x4),(4,.ptr 0 0 0)],[some (fU x5 x6 x7 x8 x9 aj ak av)]⟩
theorem aua:uL N (n1+1) az aG aU bb aQ aZ bp=
  bif(decide (aQ<bb)) then
  bif ae aQ aU.length then
  bif ae aQ aZ.length then
  (Ax N (aU.getD aQ.toNat iU).1 az).bind fun r32=>
  bif(r32==(-1)) then
  bif((aZ.getD aQ.toNat cG).2.1==(-1)) then
  let v34:=aZ.getD aQ.toNat cG
  uL N n1 az aG aU bb (W (aQ+1)) (aZ.set aQ.toNat (v34.1,(aG,v34.2.2))) bp
  else
  uL N n1 az aG aU bb (W (aQ+1)) aZ bp
  else
  let v50:=aZ.getD aQ.toNat cG
  let o9:=aZ.set aQ.toNat (v50.1,((-1),v50.2.2))
  bif(!(o9.getD aQ.toNat cG).1) then
  let v54:=o9.set aQ.toNat (true,(o9.getD aQ.toNat cG).2)
  let v55:=v54.getD aQ.toNat cG
  bif ba (bp.length+1) 8 then
  uL N n1 az aG aU bb (W (aQ+1)) (v54.set aQ.toNat (v55.1,(v55.2.1,r32))) (bp++[aQ])
  else none
  else
  uL N n1 az aG aU bb (W (aQ+1)) o9 bp
  else none
  else none
  else
  some ((aZ,bp,0),()):=by kernel_rfl
theorem aj7:QT N (JM+1) ai ao aq ax ay aC aO aH aE aI aF=
  bif ba ao.length 24 then
  uL N N ai aq aI (aI.length:Int) 0 ao []
  else none:=by kernel_rfl
theorem atk:Qd N (JM+1) x2 x3 x4 x5 x6 x7 x8 x9 aj ak av=
  bif(decide (x4<0)) then
  some (([],[],8),())
  else
  bif(decide (x4>2147483648)) then
  some (([],[],8),())
  else
  QT N N x2 x3 x4 x5 x6 x7 x8 x9 aj ak av:=by kernel_rfl
end
def DX(N:Nat)(a0:bX)(a1:List Int)(a2:List bt)(a3:Int):Option (((List bt)×(List Int)×Int)×Unit):=
  (tM N a0).bind fun r1=>
  bif(r1 !=0) then
  some (([],[],r1),())
  else
  bif((a1.length:Int) !=(a0.2.2.1.length:Int)) then
  some (([],[],11),())
  else
  bif((a2.length:Int) !=(a0.2.2.2.1.length:Int)) then
  some (([],[],11),())
  else
  Qd N N a1 a2 a3 a0.1.1.1 a0.1.1.2 a0.1.2.1 a0.1.2.2 a0.2.1 a0.2.2.1 a0.2.2.2.1 a0.2.2.2.2
theorem QG(N:Nat):dq Tryz.prog 63 [none,none,none,none] [.v fx,.v LI,.v (.list aW),.v GI] [.o (.a aW),.o (.a GI),.v GI] (fun x=>DX N x.1 x.2.1 x.2.2.1 x.2.2.2):=dM (N:=N) (p:=0) (q:=0) (ns:=Xk) (fq FM Tryz.func63) (zy N).ok
def WH(N:Nat):CE:=(zy N).a (cT (QG N))
def abw:FD:=fd 59 nf [] Tryz.f64 [(2,{w:=[(false,[.aM 0 13 aW,.aM 0 22 aV])]}),(30,{w:=[(false,[.wait])],an:=[(13,⟨.unit,some 5,[]⟩)]}),(250,{w:=[(false,[.aM 0 13 aW,.aM 0 22 aV,.bg 0 0,.bg 0 1,.bg 0 2,.bg 0 3,.bg 0 4,.bg 0 5,.bg 0 6,.bg 0 7,.bg 0 9,
  .bg 0 11,.bg 0 12,.bg 0 14,.bg 0 15,.af [],.out [0]])]}),(510,{w:=[(false,[.aM 0 13 aW,.aM 0 22 aV])]})]
def ado:List NS:=[.aM 0 13 aW,.aM 0 22 aV,.bg 0 0,.bg 0 1,.bg 0 2,.bg 0 3,.bg 0 4,.bg 0 5,.bg 0 6,.bg 0 7,.bg 0 9,.bg 0 11,.bg 0 12,.bg 0 14,.bg 0 15,.af [],.out [0]]
def zB(N:Nat)(a0:aT)(a1:Int):Option (Unit×aT):=
  bif ae a1 a0.2.2.2.2.2.1.length then
  (ma N a0 1 a1 (a0.2.2.2.2.2.1.getD a1.toNat cG).2.2).bind fun r2=>
  bif ae a1 r2.2.2.2.2.2.2.2.1.2.1.length then
  let v3:=r2.2.2.2.2.2.2.2.1.2.1.getD a1.toNat 0
  bif ae v3 r2.2.2.2.2.2.2.2.1.1.length then
  (zS N r2.2.2.2.2.2.2.2.1 v3 r2.2.2.1).bind fun r5=>
  bif(r5.2 !=0) then
  some ((),r2.2)
  else
  bif(r2.2.2.2.2.2.2.2.1.1.getD v3.toNat bM).2.2.2.1 then
  (ma N (r2.2.1,(r2.2.2.1,(r2.2.2.2.1,(r2.2.2.2.2.1,(r2.2.2.2.2.2.1,(r2.2.2.2.2.2.2.1,(r5.1,r2.2.2.2.2.2.2.2.2))))))) 2 v3 0).bind fun r6=>
  some ((),r6.2)
  else
  some ((),(r2.2.1,(r2.2.2.1,(r2.2.2.2.1,(r2.2.2.2.2.1,(r2.2.2.2.2.2.1,(r2.2.2.2.2.2.2.1,(r5.1,r2.2.2.2.2.2.2.2.2))))))))
  else none
  else none
  else none
theorem afi(N:Nat):dq Tryz.prog 64 [none,none] [.b (.p (.v fx) (.p (.v GI) (.p (.v dk) (.p (.v (.list aV)) (.p (.v (.list aW)) (.p (.a aW) (.p (.v fh) (.p (.v js) (.a aV))))))))),.v GI] [] (fun x=>zB N x.1 x.2):=dM (N:=N) (p:=3) (q:=5) (ns:=ado) (fq abw Tryz.func64) (WH N).ok
def Uc(N:Nat):CE:=(WH N).a (cT (afi N))
def am8:FD:=fd 39 nf [(.cell 4 true 5)] Tryz.f65 []
def Ey(N:Nat)(a0:List bt)(a1:eT):Option eT:=
  bif(a1.1==(-1)) then
  some a1
  else
  bif(decide (a1.1>=0)) then
  bif(decide (a1.1<(a0.length:Int))) then
  bif ae a1.1 a0.length then
  bif(a0.getD a1.1.toNat cG).1 then
  bif ae a1.1 a0.length then
  bif((a0.getD a1.1.toNat cG).2.1 !=(-1)) then
  some a1
  else
  (qM N).bind fun r3=>
  some r3
  else none
  else
  (qM N).bind fun r4=>
  some r4
  else none
  else
  (qM N).bind fun r5=>
  some r5
  else
  (qM N).bind fun r6=>
  some r6
theorem apr(N:Nat):bk Tryz.prog 65 [(.list aW),js] [js] (fun x=>Ey N x.1 x.2):=bG (N:=N) (fq am8 Tryz.func65) (Uc N).ok
def SZ(N:Nat):CE:=(Uc N).a (bD (apr N))
def arv:FD:=fd 16 nf [(.t 2)] Tryz.f103 []
def MM(N:Nat)(a0:bV):Option Bool:=
  bif(!a0.2.2.2.1) then
  bif(a0.2.2.1 !=(-1)) then
  some (!a0.2.2.2.2)
  else
  some false
  else
  some false
theorem axq(N:Nat):bk Tryz.prog 103 [di] [.bool] (fun x=>MM N x):=bG (N:=N) (fq arv Tryz.func103) (SZ N).ok
def Ln(N:Nat):CE:=(SZ N).a (bD (axq N))
def WZ:FD:=fd 86 nf [(.cell 4 true 3),(.t 5),(.t 6),(.t 7)] Tryz.f66 [(109,{w:=[(false,[.cy 4,.ej 5,.ej 6])]}),(117,{w:=[(false,[.cy 4,.ej 5,.ej 6])]}),(127,{w:=[(false,[.ej 10,.ej 11])]}),(255,{w:=[(false,[.cy 4,.ej 5,.ej 6])]}),(506,{ns:=[.own 10 GI,.own 11 GI,.af [1,2,4,9,10,11,12],.cmp]}),
  (129614,{an:=[(2,⟨GI,none,[]⟩)]}),(518462,{an:=[(5,⟨GI,none,[]⟩)]})]
def Zj:Exit->SI->Option (cz×(List Int)×(List Int)×Int):=fin [(.cell 4 true 3),(.t 5),(.t 6),(.t 7)] [fh,LI,LI,GI]
section
variable (N n1:Nat) (x5 x6:Int) (x7:List bV) (x8:List Int) (x9 aj ak:Int) (av ai:List Int) (ao:List bV) (aq:List Int)
def tw:Option (cz×(List Int)×(List Int)×Int):=lp (Ln N).l N 0 WZ.tc 351 [] Zj n1 ⟨[(1,.i x5),(2,.ptr 0 0 0),(4,.ptr 1 0 0),(9,.ptr 2 0 0),(10,.whole 3),(11,.whole 4),(12,.i x6)],[some (lQ x7 x8 x9),some (.box 0 [.nil,.nil,.i aj]),some (.box 0 [.whole 5,.whole 6,.i ak]),some (.arr GI av),some (.arr GI ai),some (.arr di ao),some (.arr GI aq)]⟩
theorem ah0:tw N (n1+1) x5 x6 x7 x8 x9 aj ak av ai ao aq=
  bif(decide (x6>=0)) then
  bif ae x6 ao.length then
  (MM N (ao.getD x6.toNat bM)).bind fun rQ=>
  bif(!rQ) then
  tw N n1 x5 (W (x6-1)) x7 x8 x9 aj ak av ai ao aq
  else
  bif(decide ((W (x5-(ao.getD x6.toNat bM).2.1))<x9)) then
  tw N n1 x5 (W (x6-1)) x7 x8 x9 aj ak av ai ao aq
  else
  let JI:=ao.getD x6.toNat bM
  let CM:=ao.set x6.toNat (JI.1,(JI.2.1,(JI.2.2.1,(JI.2.2.2.1,true))))
  bif ba (av.length+1) 8 then
  bif(decide ((CM.getD x6.toNat bM).1>=0)) then
  (jr (.p (.a di) (.p (.a GI) (.v GI))) (CM,(aq,ak)) (yl N (CM,(aq,ak)) (CM.getD x6.toNat bM).1 x5)).bind fun tT=>
  bif tT.1 then
  bif ba (ai.length+1) 8 then
  tw N n1 x5 (W (x6-1)) x7 x8 x9 aj ak (av++[x6]) (ai++[(tT.2.1.getD x6.toNat bM).1]) tT.2.1 tT.2.2.1
  else none
  else
  tw N n1 x5 (W (x6-1)) x7 x8 x9 aj ak (av++[x6]) ai tT.2.1 tT.2.2.1
  else
  tw N n1 x5 (W (x6-1)) x7 x8 x9 aj ak (av++[x6]) ai CM aq
  else none
  else none
  else
  some ((ao,(aq,ak)),av,ai,0):=by kernel_rfl
end
def GL(N:Nat)(a0:cz)(a1:Int):Option (cz×(List Int)×(List Int)×Int):=
  (oj N a0).bind fun r1=>
  bif(r1 !=0) then
  some (([],([],0)),[],[],r1)
  else
  (AI N a0 a1).bind fun r2=>
  bif(!r2) then
  some (([],([],0)),[],[],8)
  else
  (q9 N a0).bind fun r3=>
  tw N N a1 (W ((r3.1.1.length:Int)-1)) a0.1 a0.2.1 a0.2.2 0 r3.1.2.2 [] [] r3.1.1 r3.1.2.1
theorem abi(N:Nat):bk Tryz.prog 66 [fh,GI] [fh,LI,LI,GI] (fun x=>GL N x.1 x.2):=bG (N:=N) (fq WZ Tryz.func66) (Ln N).ok
def asy(N:Nat):CE:=(Ln N).a (bD (abi N))
def wA(N:Nat)(a0:cz)(a1:Int):Option (List Int):=w7 N (oj N a0) a0 a1
theorem ZG(N:Nat):bk Tryz.prog 78 [fh,GI] [LI] (fun x=>wA N x.1 x.2):=anb (VF N)
def MQ(N:Nat):CE:=(asy N).a (bD (ZG N))
def Tm:FD:=fd 34 nf [(.t 4)] Tryz.f67 [(26,{ns:=[.wk 14 LI,.af [2,14,15,16],.cmp]})]
def Yo:Exit->SI->Option Bool:=fin [(.t 4)] [.bool]
section
variable (N n1:Nat) (x2:List Int) (x3 x4:Int) (x5:List bV) (x6:List Int) (x7:Int)
def GH:Option Bool:=lp (MQ N).l N 0 Tm.tc 21 [] Yo n1 ⟨[(2,.ptr 0 0 0),(14,.l GI x2),(15,.i x3),(16,.i x4)],[some (lQ x5 x6 x7)]⟩
theorem an8:GH N (n1+1) x2 x3 x4 x5 x6 x7=
  bif(decide (x4<x3)) then
  bif ae x4 x2.length then
  bif ae (x2.getD x4.toNat 0) x5.length then
  let v8:=x5.getD (x2.getD x4.toNat 0).toNat bM
  bif(!v8.2.2.2.1) then
  some true
  else
  bif(v8.2.2.1==(-1)) then
  some true
  else
  GH N n1 x2 x3 (W (x4+1)) x5 x6 x7
  else none
  else none
  else
  some false:=by kernel_rfl
end
def D3(N:Nat)(a0:cz)(a1:Int):Option Bool:=
  bif ae a1 a0.2.1.length then
  (wA N a0 (a0.2.1.getD a1.toNat 0)).bind fun r1=>
  GH N N r1 (r1.length:Int) 0 a0.1 a0.2.1 a0.2.2
  else none
theorem ZT(N:Nat):bk Tryz.prog 67 [fh,GI] [.bool] (fun x=>D3 N x.1 x.2):=bG (N:=N) (fq Tm Tryz.func67) (MQ N).ok
def P1(N:Nat):CE:=(MQ N).a (bD (ZT N))
def wm:FD:=fd 209 nf [] Tryz.f34 [(6,{w:=[(false,[.wait,.wait,.wait])],an:=[(15,⟨.unit,none,[3]⟩),(17,⟨.unit,none,[4,5]⟩)]}),(15,{w:=[(true,[.wk 4 LI,.wk 5 (.list aW),.af [0,1,4,5],.out [0]])]}),(30,{w:=[(false,[.wait,.wait])],an:=[(10,⟨.unit,none,[7,8]⟩)]}),(58,{w
  :=[(false,[.aM 0 13 aW,.aM 0 22 aV,.bg 0 0,.bg 0 1,.bg 0 2,.bg 0 3,.bg 0 4,.bg 0 5,.bg 0 6,.bg 0 7,.bg 0 9,.bg 0 11,.bg 0 12,.bg 0 14,.bg 0 15,.af [],.out [0]])]}),(250,{w:=[(false,[.aM 0 13 aW,.aM 0 22 aV,.bg
  0 0,.bg 0 1,.bg 0 2,.bg 0 3,.bg 0 4,.bg 0 5,.bg 0 6,.bg 0 7,.bg 0 9,.bg 0 11,.bg 0 12,.bg 0 14,.bg 0 15,.af [],.out [0]])]}),(1018,{ns:=[.aM 0 13 aW,.aM 0 22 aV,.wk 4 LI,.wk 96 LI,.bg 0 12,.af
  [0,1,4,96,97,98],.out [0]]}),(4094,{ns:=[.aM 0 13 aW,.aM 0 22 aV,.wk 4 LI,.af [0,4,159,160],.out [0]]}),(65177,{w:=[(false,[.aM 0 13 aW,.aM 0 22 aV])],sg:=[(2,[.bg 0 12])]}),(130922,{ns:=[.aM 0 13 aW,.aM
  0 22 aV,.wk 4 LI,.wk 13 LI,.wk 135 LI,.af [0,4,13,135,136,137],.out [0]]}),(130926,{ns:=[.aM 0 13 aW,.aM 0 22 aV,.wk 4 LI,.wk 145 LI,.af [0,4,145,146,147],.out
  [0]]}),(1048167,{w:=[(false,[.aM 0 13 aW,.aM 0 22 aV])]}),(8379033,{w:=[(false,[.aM 0 13 aW,.aM 0 22 aV])]}),(8379289,{w:=[(false,[.aM 0 13 aW,.aM 0 22 aV])]})]
def QX:List NS:=[.aM 0 13 aW,.aM 0 22 aV,.bg 0 0,.bg 0 1,.bg 0 2,.bg 0 3,.bg 0 4,.bg 0 5,.bg 0 6,.bg 0 7,.bg 0 9,.bg 0 11,.bg 0 12,.bg 0 14,.bg 0 15,.af [],.out [0]]
def wI(N:Nat):CE:=(((P1 N).a (qX (cT (QG N)))).a (qX (cT (QA N)))).a (qX (cT (zg N)))
def zA:Exit->SI->Option (Unit×aT):=fK QX [] [.b (.p (.v fx) (.p (.v GI) (.p (.v dk) (.p (.v (.list aV)) (.p (.v (.list aW)) (.p (.a aW) (.p (.v fh) (.p (.v js) (.a aV))))))))),.v GI] [] 3 5
section
variable (N JM n1 n2 n3 n4:Nat) (x4:Int) (x5:List bj) (x6:List aR) (x7:List bC) (x8:List bu) (x9:List bJ) (aj:List cB) (ak:List cC) (av:List cW) (ai:Int) (ao:List Int) (aq:Int) (ax:List aP) (ay:List bt) (aC:List bV) (aO:List Int) (aH aE aI aF az aG:Int) (aU:List bt) (bb:List aP) (aQ:List Int) (aZ:List bt) (bn bx bq:Int) (bL:List bj) (bN:List aR) (bz:List bC) (bP:List bu) (bA:List bJ) (bw:List cB) (bZ:List cC) (cb:List cW) (cd:Int) (bW:List Int) (cU:Int) (cK:List aP) (cZ:List bt) (cX:List bV) (eM:List Int) (eV ec ei fD fF fG:Int) (dH:List bt) (dE:List aP) (dI dW gP jy:List Int) (jU gQ:Int) (jz:List bj) (iN:List aR) (iO:List bC) (fX:List bu) (gR:List bJ) (gS:List cB) (fM:List cC) (gu:List cW) (fC:Int) (fY:List Int) (eU:Int) (qv:List aP) (mH:List bt) (qw:List bV) (qx:List Int) (qy tU tV tW tX tY:Int) (kv:List bt) (tZ:List aP) (ua qh:List Int) (rS oB:Int) (rU:List bj) (rV:List aR) (rW:List bC) (rY:List bu) (rZ:List bJ) (mC:List cB) (l6:List cC) (l7:List cW) (l8:Int) (l9:List Int) (lA:Int) (lB:List aP) (lC:List bt) (lD:List bV) (lE:List Int) (lF lG lH kP lI qi:Int) (qj:List bt) (sb:List aP) (kt:List Int) (yC j1:Int) (yD:List bj) (yE:List aR) (yF:List bC) (yG:List bu) (yH:List bJ) (yI:List cB) (ub:List cC) (yJ:List cW) (yK:Int) (yL:List Int) (yM:Int) (yN:List aP) (oE:List bt) (nK:List bV) (oF:List Int) (oG qk qm qn qo oJ:Int) (lL:List bt) (oK:List aP) (oL:List Int)
def vu:Option (Unit×aT):=lp (wI N).l N 3 wm.tc 6135 [] zA n4 ⟨[(0,.ptr 0 0 0),(4,.whole 5),(159,.i yC),(160,.i j1)],[some (AL yD yE yF yG yH yI ub yJ yK yL yM yN oE nK oF oG qk qm qn qo oJ),none,none,some (.arr aW lL),some (.arr aV oK),some (.arr GI oL)]⟩
def F8:Option (Unit×aT):=lp (wI N).l N 3 wm.tc 191991 [] zA n3 ⟨[(0,.ptr 0 0 0),(4,.whole 5),(145,.l GI qh),(146,.i rS),(147,.i oB)],[some (AL rU rV rW rY rZ mC l6 l7 l8 l9 lA lB lC lD lE lF lG lH kP lI qi),none,none,some (.arr aW qj),some (.arr aV sb),some (.arr GI kt)]⟩
def Hi:Option (Unit×aT):=lp (wI N).l N 3 wm.tc 175607 [] zA n2 ⟨[(0,.ptr 0 0 0),(4,.whole 5),(13,.l GI gP),(135,.l GI jy),(136,.i jU),(137,.i gQ)],[some (AL jz iN iO fX gR gS fM gu fC fY eU qv mH qw qx qy tU tV tW tX tY),none,none,some (.arr aW kv),some (.arr aV tZ),some (.arr GI ua)]⟩
def Eh:Option (Unit×aT):=lp (wI N).l N 3 wm.tc 1399 [] zA n1 ⟨[(0,.ptr 0 0 0),(1,.i bn),(4,.whole 5),(96,.whole 6),(97,.i bx),(98,.i bq)],[some (AL bL bN bz bP bA bw bZ cb cd bW cU cK cZ cX eM eV ec ei fD fF fG),none,none,some (.arr aW dH),some (.arr aV dE),some (.arr GI dI),some (.arr GI dW)]⟩
def TG:Option (Unit×aT):=jn (wI N).l N 3 wm.tc 15 [] zA JM ⟨[(0,.ptr 0 0 0),(1,.i x4),(4,.whole 5),(5,.whole 6)],[some (AL x5 x6 x7 x8 x9 aj ak av ai ao aq ax ay aC aO aH aE aI aF az aG),none,none,some (.arr aW aU),some (.arr aV bb),some (.arr GI aQ),some (.arr aW aZ)]⟩
theorem ae2:vu N (n4+1) yC j1 yD yE yF yG yH yI ub yJ yK yL yM yN oE nK oF oG qk qm qn qo oJ lL oK oL=
  bif(decide (j1<yC)) then
  bif ae j1 lL.length then
  bif(lL.getD j1.toNat cG).1 then
  vu N n4 yC (W (j1+1)) yD yE yF yG yH yI ub yJ yK yL yM yN oE nK oF oG qk qm qn qo oJ lL oK oL
  else
  (D3 N (nK,(oF,oG)) j1).bind fun r255=>
  bif(!r255) then
  vu N n4 yC (W (j1+1)) yD yE yF yG yH yI ub yJ yK yL yM yN oE nK oF oG qk qm qn qo oJ lL oK oL
  else
  bif ae j1 ub.length then
  (Ax N (ub.getD j1.toNat iU).1 oL).bind fun r283=>
  bif ae j1 lL.length then
  let Pr:=lL.set j1.toNat (true,(lL.getD j1.toNat cG).2)
  bif ae j1 Pr.length then
  let v286:=Pr.getD j1.toNat cG
  (zB N ((((yD,yE),(yF,yG)),(yH,(yI,(ub,yJ)))),(yK,((yL,yM),(yN,(oE,((Pr.set j1.toNat (v286.1,(v286.2.1,r283))),((nK,(oF,oG)),((qk,(qm,(qn,(qo,oJ)))),oK)))))))) j1).bind fun iy=>
  vu N n4 yC (W (j1+1)) iy.2.1.1.1.1 iy.2.1.1.1.2 iy.2.1.1.2.1 iy.2.1.1.2.2 iy.2.1.2.1 iy.2.1.2.2.1 iy.2.1.2.2.2.1 iy.2.1.2.2.2.2 iy.2.2.1 iy.2.2.2.1.1 iy.2.2.2.1.2 iy.2.2.2.2.1 iy.2.2.2.2.2.1 iy.2.2.2.2.2.2.2.1.1 iy.2.2.2.2.2.2.2.1.2.1 iy.2.2.2.2.2.2.2.1.2.2 iy.2.2.2.2.2.2.2.2.1.1 iy.2.2.2.2.2.2.2.2.1.2.1 iy.2.2.2.2.2.2.2.2.1.2.2.1 iy.2.2.2.2.2.2.2.2.1.2.2.2.1 iy.2.2.2.2.2.2.2.2.1.2.2.2.2 iy.2.2.2.2.2.2.1 iy.2.2.2.2.2.2.2.2.2 oL
  else none
  else none
  else none
  else none
  else
  some ((),((((yD,yE),(yF,yG)),(yH,(yI,(ub,yJ)))),(yK,((yL,yM),(yN,(oE,(lL,((nK,(oF,oG)),((qk,(qm,(qn,(qo,oJ)))),oK))))))))):=by kernel_rfl
theorem afl:F8 N (n3+1) qh rS oB rU rV rW rY rZ mC l6 l7 l8 l9 lA lB lC lD lE lF lG lH kP lI qi qj sb kt=
  bif(decide (oB<rS)) then
  bif ae oB qh.length then
  (ma N ((((rU,rV),(rW,rY)),(rZ,(mC,(l6,l7)))),(l8,((l9,lA),(lB,(lC,(qj,((lD,(lE,lF)),((lG,(lH,(kP,(lI,qi)))),sb)))))))) 2 (qh.getD oB.toNat 0) 0).bind fun iz=>
  F8 N n3 qh rS (W (oB+1)) iz.2.1.1.1.1 iz.2.1.1.1.2 iz.2.1.1.2.1 iz.2.1.1.2.2 iz.2.1.2.1 iz.2.1.2.2.1 iz.2.1.2.2.2.1 iz.2.1.2.2.2.2 iz.2.2.1 iz.2.2.2.1.1 iz.2.2.2.1.2 iz.2.2.2.2.1 iz.2.2.2.2.2.1 iz.2.2.2.2.2.2.2.1.1 iz.2.2.2.2.2.2.2.1.2.1 iz.2.2.2.2.2.2.2.1.2.2 iz.2.2.2.2.2.2.2.2.1.1 iz.2.2.2.2.2.2.2.2.1.2.1 iz.2.2.2.2.2.2.2.2.1.2.2.1 iz.2.2.2.2.2.2.2.2.1.2.2.2.1 iz.2.2.2.2.2.2.2.2.1.2.2.2.2 iz.2.2.2.2.2.2.1 iz.2.2.2.2.2.2.2.2.2 kt
  else none
  else
  vu N N (qj.length:Int) 0 rU rV rW rY rZ mC l6 l7 l8 l9 lA lB lC lD lE lF lG lH kP lI qi qj sb kt:=by kernel_rfl
theorem age:Hi N (n2+1) gP jy jU gQ jz iN iO fX gR gS fM gu fC fY eU qv mH qw qx qy tU tV tW tX tY kv tZ ua=
  bif(decide (gQ<jU)) then
  bif ae gQ jy.length then
  (ma N ((((jz,iN),(iO,fX)),(gR,(gS,(fM,gu)))),(fC,((fY,eU),(qv,(mH,(kv,((qw,(qx,qy)),((tU,(tV,(tW,(tX,tY)))),tZ)))))))) 3 (jy.getD gQ.toNat 0) 0).bind fun gD=>
  Hi N n2 gP jy jU (W (gQ+1)) gD.2.1.1.1.1 gD.2.1.1.1.2 gD.2.1.1.2.1 gD.2.1.1.2.2 gD.2.1.2.1 gD.2.1.2.2.1 gD.2.1.2.2.2.1 gD.2.1.2.2.2.2 gD.2.2.1 gD.2.2.2.1.1 gD.2.2.2.1.2 gD.2.2.2.2.1 gD.2.2.2.2.2.1 gD.2.2.2.2.2.2.2.1.1 gD.2.2.2.2.2.2.2.1.2.1 gD.2.2.2.2.2.2.2.1.2.2 gD.2.2.2.2.2.2.2.2.1.1 gD.2.2.2.2.2.2.2.2.1.2.1 gD.2.2.2.2.2.2.2.2.1.2.2.1 gD.2.2.2.2.2.2.2.2.1.2.2.2.1 gD.2.2.2.2.2.2.2.2.1.2.2.2.2 gD.2.2.2.2.2.2.1 gD.2.2.2.2.2.2.2.2.2 ua
  else none
  else
  F8 N N gP (gP.length:Int) 0 jz iN iO fX gR gS fM gu fC fY eU qv mH qw qx qy tU tV tW tX tY kv tZ ua:=by kernel_rfl
theorem ZM:Eh N (n1+1) bn bx bq bL bN bz bP bA bw bZ cb cd bW cU cK cZ cX eM eV ec ei fD fF fG dH dE dI dW=
  bif(decide (bq<bx)) then
  bif ae bq dW.length then
  (zB N ((((bL,bN),(bz,bP)),(bA,(bw,(bZ,cb)))),(cd,((bW,cU),(cK,(cZ,(dH,((cX,(eM,eV)),((ec,(ei,(fD,(fF,fG)))),dE)))))))) (dW.getD bq.toNat 0)).bind fun gy=>
  Eh N n1 bn bx (W (bq+1)) gy.2.1.1.1.1 gy.2.1.1.1.2 gy.2.1.1.2.1 gy.2.1.1.2.2 gy.2.1.2.1 gy.2.1.2.2.1 gy.2.1.2.2.2.1 gy.2.1.2.2.2.2 gy.2.2.1 gy.2.2.2.1.1 gy.2.2.2.1.2 gy.2.2.2.2.1 gy.2.2.2.2.2.1 gy.2.2.2.2.2.2.2.1.1 gy.2.2.2.2.2.2.2.1.2.1 gy.2.2.2.2.2.2.2.1.2.2 gy.2.2.2.2.2.2.2.2.1.1 gy.2.2.2.2.2.2.2.2.1.2.1 gy.2.2.2.2.2.2.2.2.1.2.2.1 gy.2.2.2.2.2.2.2.2.1.2.2.2.1 gy.2.2.2.2.2.2.2.2.1.2.2.2.2 gy.2.2.2.2.2.2.1 gy.2.2.2.2.2.2.2.2.2 dI dW
  else none
  else
  (Ey N dH (ec,(ei,(fD,(fF,fG))))).bind fun nD=>
  (GL N (cX,(eM,eV)) bn).bind fun mG=>
  bif(mG.2.2.2==0) then
  Hi N N mG.2.2.1 mG.2.1 (mG.2.1.length:Int) 0 bL bN bz bP bA bw bZ cb cd bW cU cK cZ mG.1.1 mG.1.2.1 mG.1.2.2 nD.1 nD.2.1 nD.2.2.1 nD.2.2.2.1 nD.2.2.2.2 dH dE dI
  else
  vu N N (dH.length:Int) 0 bL bN bz bP bA bw bZ cb cd bW cU cK cZ cX eM eV nD.1 nD.2.1 nD.2.2.1 nD.2.2.2.1 nD.2.2.2.2 dH dE dI:=by kernel_rfl
theorem adi:TG N (JM+1) x4 x5 x6 x7 x8 x9 aj ak av ai ao aq ax ay aC aO aH aE aI aF az aG aU bb aQ aZ=
  (DX N (((x5,x6),(x7,x8)),(x9,(aj,(ak,av)))) aQ aU x4).bind fun yw=>
  bif(yw.1.2.2 !=0) then
  some ((),((((x5,x6),(x7,x8)),(x9,(aj,(ak,av)))),(ai,((ao,aq),(ax,(ay,(aU,((aC,(aO,aH)),((aE,(aI,(aF,(az,aG)))),bb)))))))))
  else
  Eh N N x4 (yw.1.2.1.length:Int) 0 x5 x6 x7 x8 x9 aj ak av ai ao aq ax aZ aC aO aH aE aI aF az aG yw.1.1 bb aQ yw.1.2.1:=by kernel_rfl
end
def eB(N:Nat)(a0:aT)(a1:Int):Option (Unit×aT):=
  (lh N (a0.1,(a1,a0.2.2))).bind fun r1=>
  (Im N a0.1 a0.2.2.2.1 a0.2.2.2.2.1 r1.1 a1).bind fun r2=>
  bif(r2.1.2.2 !=0) then
  some ((),(a0.1,(a1,a0.2.2)))
  else
  (oj N a0.2.2.2.2.2.2.1).bind fun r3=>
  bif(r3 !=0) then
  some ((),(a0.1,(a1,a0.2.2)))
  else
  bif((a0.2.2.2.2.2.2.1.2.1.length:Int) !=(a0.1.2.2.2.1.length:Int)) then
  some ((),(a0.1,(a1,a0.2.2)))
  else
  TG N N a1 a0.1.1.1.1 a0.1.1.1.2 a0.1.1.2.1 a0.1.1.2.2 a0.1.2.1 a0.1.2.2.1 a0.1.2.2.2.1 a0.1.2.2.2.2 a1 a0.2.2.1.1 a0.2.2.1.2 a0.2.2.2.1 a0.2.2.2.2.1 a0.2.2.2.2.2.2.1.1 a0.2.2.2.2.2.2.1.2.1 a0.2.2.2.2.2.2.1.2.2 a0.2.2.2.2.2.2.2.1.1 a0.2.2.2.2.2.2.2.1.2.1 a0.2.2.2.2.2.2.2.1.2.2.1 a0.2.2.2.2.2.2.2.1.2.2.2.1 a0.2.2.2.2.2.2.2.1.2.2.2.2 a0.2.2.2.2.2.1 a0.2.2.2.2.2.2.2.2 r2.1.1 r2.1.2.1
theorem ass(N:Nat):dq Tryz.prog 34 [none,none] [.b (.p (.v fx) (.p (.v GI) (.p (.v dk) (.p (.v (.list aV)) (.p (.v (.list aW)) (.p (.a aW) (.p (.v fh) (.p (.v js) (.a aV))))))))),.v GI] [] (fun x=>eB N x.1 x.2):=dM (N:=N) (p:=3) (q:=5) (ns:=QX) (fq wm Tryz.func34) (wI N).ok
def Mh(N:Nat):CE:=(P1 N).a (cT (ass N))
def Vj:FD:=fd 65 nf [(.cell 6 true 23),(.t 7)] Tryz.f11 [(117,{w:=[(false,[.cy 6])]}),(254,{w:=[(false,[.aM 8 13 aW,.aM 8 22 aV])],sg:=[(1,[.bg 8 11,.bg 8 12])]}),(506,{ns:=[.wk 30 (.list ou),.af [2,6,8,30,31,32],.cmp]}),(511,{w:=[(false,[.cy 6])]})]
def am0:Exit->SI->Option (aT×Int):=fin [(.cell 6 true 23),(.t 7)] [iI,GI]
section
variable (N n1:Nat) (x4:Int) (x5:List lT) (x6 x7 x8 x9 aj ak av ai ao aq:Int) (ax:List bj) (ay:List aR) (aC:List bC) (aO:List bu) (aH:List bJ) (aE:List cB) (aI:List cC) (aF:List cW) (az:Int) (aG:List Int) (aU:Int) (bb:List bV) (aQ:List Int) (aZ bp bn bx bq bL:Int) (bN:List aP) (bz bP:List bt) (bA:List aP)
def yi:Option (aT×Int):=lp (Mh N).l N 0 Vj.tc 351 [] am0 n1 ⟨[(2,.i x4),(6,.ptr 0 0 0),(8,.ptr 1 0 0),(30,.l ou x5),(31,.i x6),(32,.i x7)],[some (sN x8 x9 aj ak av ai ao aq),some (.box 0 [.l bU ax,.l bY ay,.l cJ aC,.l cu aO,.l cY aH,.l fQ aE,.l fy aI,.l iJ aF,.i az,.l (.int .u8) aG,.i aU,.whole 2,.whole 3,.whole 4,.l di bb,.l GI aQ,.i aZ,.i bp,.i bn,.i bx,.i bq,.i bL,.whole 5]),some (.arr aV bN),some (.arr aW bz),some (.arr aW bP),some (.arr aV bA)]⟩
theorem My:yi N (n1+1) x4 x5 x6 x7 x8 x9 aj ak av ai ao aq ax ay aC aO aH aE aI aF az aG aU bb aQ aZ bp bn bx bq bL bN bz bP bA=
  bif(decide (x7<x6)) then
  bif ae x7 x5.length then
  (ue N aH (x5.getD x7.toNat am5) x4).bind fun CN=>
  bif(CN.2==0) then
  bif(decide (CN.1.1<(bN.length:Int))) then
  bif ae CN.1.1 bN.length then
  yi N n1 x4 x5 x6 (W (x7+1)) x8 x9 aj ak av ai ao aq ax ay aC aO aH aE aI aF az aG aU bb aQ aZ bp bn bx bq bL (bN.set CN.1.1.toNat CN.1) bz bP bA
  else none
  else
  yi N n1 x4 x5 x6 (W (x7+1)) x8 x9 aj ak av ai ao aq ax ay aC aO aH aE aI aF az aG aU bb aQ aZ bp bn bx bq bL bN bz bP bA
  else
  yi N n1 x4 x5 x6 (W (x7+1)) x8 x9 aj ak av ai ao aq ax ay aC aO aH aE aI aF az aG aU bb aQ aZ bp bn bx bq bL bN bz bP bA
  else none
  else
  (eB N ((((ax,ay),(aC,aO)),(aH,(aE,(aI,aF)))),(az,((aG,aU),(bN,(bz,(bP,((bb,(aQ,aZ)),((bp,(bn,(bx,(bq,bL)))),bA)))))))) x4).bind fun r147=>
  some (r147.2,0):=by kernel_rfl
end
def iF(N:Nat)(a0:aT)(a1:List Int)(a2:Int):Option (aT×Int):=
  (lV N a0).bind fun r1=>
  (pI N a0 a2).bind fun r2=>
  bif r2 then
  some (r1.1,8)
  else
  (wV N r1.1.2.2.1 a1).bind fun r3=>
  yi N N a2 r3.2 (r3.2.length:Int) 0 0 0 0 0 0 0 0 0 r1.1.1.1.1.1 r1.1.1.1.1.2 r1.1.1.1.2.1 r1.1.1.1.2.2 r1.1.1.2.1 r1.1.1.2.2.1 r1.1.1.2.2.2.1 r1.1.1.2.2.2.2 r1.1.2.1 r3.1.1 r3.1.2 r1.1.2.2.2.2.2.2.1.1 r1.1.2.2.2.2.2.2.1.2.1 r1.1.2.2.2.2.2.2.1.2.2 r1.1.2.2.2.2.2.2.2.1.1 r1.1.2.2.2.2.2.2.2.1.2.1 r1.1.2.2.2.2.2.2.2.1.2.2.1 r1.1.2.2.2.2.2.2.2.1.2.2.2.1 r1.1.2.2.2.2.2.2.2.1.2.2.2.2 r1.1.2.2.2.1 r1.1.2.2.2.2.1 r1.1.2.2.2.2.2.1 r1.1.2.2.2.2.2.2.2.2
theorem ahu(N:Nat):bk Tryz.prog 11 [iI,(.list (.int .u8)),GI] [iI,GI] (fun x=>iF N x.1 x.2.1 x.2.2):=bG (N:=N) (fq Vj Tryz.func11) (Mh N).ok
def Gn(N:Nat):CE:=(Mh N).a (bD (ahu N))
def O7:FD:=fd 37 nf [(.t 2)] Tryz.f69 [(58,{ns:=[.wk 0 (.list (.int .u8)),.af [0,3,4],.cmp]}),(3730,{ns:=[.wk 0 (.list (.int .u8)),.af [0,3,4,5],.cmp]})]
def Wo:Exit->SI->Option Int:=fin [(.t 2)] [GI]
section
variable (N n1 n2:Nat) (x1:List Int) (x2 x3:Int) (x4:List Int) (x5 x6 x7:Int)
def Cb:Option Int:=lp (Gn N).l N 0 O7.tc 2635 [n1] Wo n2 ⟨[(0,.l (.int .u8) x4),(3,.i x5),(4,.i x6),(5,.i x7)],[]⟩
def AE:Option Int:=lp (Gn N).l N 0 O7.tc 43 [] Wo n1 ⟨[(0,.l (.int .u8) x1),(3,.i x2),(4,.i x3)],[]⟩
theorem aqr:Cb N n1 (n2+1) x4 x5 x6 x7=
  bif(decide (x7>=0)) then
  let v11:=W (BitVec.ofInt IntKind.i64.bits (W (x5*2 ^ (min (1:Int).toNat IntKind.i64.bits))) &&& BitVec.ofInt IntKind.i64.bits 65535).toNat
  bif ae x6 x4.length then
  bif decide ((IntKind.u64.wrap x7)<0) then none else
  bif((W (BitVec.ofInt IntKind.i64.bits (x5.fdiv (2 ^ (min (15:Int).toNat IntKind.i64.bits))) &&& BitVec.ofInt IntKind.i64.bits 1).toNat) !=(W (IntKind.u8.wrap (BitVec.ofInt IntKind.u8.bits ((x4.getD x6.toNat 0).fdiv (2 ^ (min (IntKind.u64.wrap x7).toNat IntKind.u8.bits))) &&& BitVec.ofInt IntKind.u8.bits 1).toNat))) then
  Cb N n1 n2 x4 (W (BitVec.ofInt IntKind.i64.bits v11 ^^^ BitVec.ofInt IntKind.i64.bits 4129).toNat) x6 (W (x7-1))
  else
  Cb N n1 n2 x4 v11 x6 (W (x7-1))
  else none
  else
  AE N n1 x4 x5 (W (x6+1)):=by kernel_rfl
theorem aap:AE N (n1+1) x1 x2 x3=
  bif(decide (x3<(x1.length:Int))) then
  Cb N n1 N x1 x2 x3 7
  else
  some x2:=by kernel_rfl
end
def Tu(N:Nat)(a0:List Int):Option Int:=
  AE N N a0 65535 0
theorem aih(N:Nat):bk Tryz.prog 69 [(.list (.int .u8))] [GI] (fun x=>Tu N x):=bG (N:=N) (fq O7 Tryz.func69) (Gn N).ok
def Lx(N:Nat):CE:=(Gn N).a (bD (aih N))
def SF:FD:=fd 53 (fun t:Nat=>Nat.beq t 38) [(.t 2),(.t 3)] Tryz.f35 [(7,{w:=[(true,[.af [1],.cmp])]}),(30,{an:=[(10,⟨(.int .u8),none,[]⟩)]}),(53,{w:=[(false,[.ej 2])]}),(117,{w:=[(false,[.ej 2])]}),(126,{an:=[(6,⟨(.int .u8),none,[]⟩)]}),(127,{w:=[(false,[.ej 2])]})]
def atf:Exit->SI->Option ((List Int)×Int):=fin [(.t 2),(.t 3)] [(.list (.int .u8)),GI]
section
variable (N JM:Nat) (x1 x2:Int) (x3:List Int)
def PG:Option ((List Int)×Int):=jn (Lx N).l N 0 SF.tc 7 [] atf JM ⟨[(1,.ptr 0 0 0)],[some (.box 0 [.i x1,.i x2,.l (.int .u8) x3])]⟩
theorem ai5:PG N (JM+1) x1 x2 x3=
  bif(decide ((x3.length:Int)>64)) then
  some ([],2)
  else
  let v4:=IntKind.u8.wrap (x3.length:Int)
  bif ba ([126,v4,IntKind.u8.wrap x1,IntKind.u8.wrap x2].length+x3.length) 1 then
  let v5:=[126,v4,IntKind.u8.wrap x1,IntKind.u8.wrap x2]++x3
  bif gz 1 v5.length v5.length then
  (Tu N ((v5.drop ((1:Int).toNat)).take ((v5.length:Int).toNat-(1:Int).toNat))).bind fun r6=>
  bif ba (v5.length+2) 1 then
  some ((v5++[IntKind.u8.wrap (r6.fdiv (2 ^ (min (8:Int).toNat IntKind.i64.bits))),IntKind.u8.wrap r6]),0)
  else none
  else none
  else none:=by kernel_rfl
end
def Nv(N:Nat)(a0:lT):Option ((List Int)×Int):=
  bif(decide (a0.1<0)) then
  some ([],1)
  else
  bif(decide (a0.1>255)) then
  some ([],1)
  else
  bif(decide (a0.2.1<0)) then
  some ([],1)
  else
  bif(decide (a0.2.1>255)) then
  some ([],1)
  else
  PG N N a0.1 a0.2.1 a0.2.2
theorem av6(N:Nat):bk Tryz.prog 35 [ou] [(.list (.int .u8)),GI] (fun x=>Nv N x):=bG (N:=N) (fq SF Tryz.func35) (Lx N).ok
def Q7(N:Nat):CE:=(Lx N).a (bD (av6 N))
def ag5:FD:=fd 20 nf [(.t 4)] Tryz.f12 [(6,{an:=[(6,⟨(.int .u8),none,[]⟩)]}),(15,{w:=[(false,[.ej 4])]})]
def s8(N:Nat)(a0:Int)(a1:Int):Option (List Int):=
  (Nv N (a0,(1,[IntKind.u8.wrap (a1.fdiv (2 ^ (min (8:Int).toNat IntKind.i64.bits))),IntKind.u8.wrap a1]))).bind fun r2=>
  some r2.1
theorem afy(N:Nat):bk Tryz.prog 12 [GI,GI] [(.list (.int .u8))] (fun x=>s8 N x.1 x.2):=bG (N:=N) (fq ag5 Tryz.func12) (Q7 N).ok
def Qq(N:Nat):CE:=(Q7 N).a (bD (afy N))
def aio:FD:=fd 37 nf [(.t 8)] Tryz.f70 []
def wY(N:Nat)(a0:bX)(a1:List bt)(a2:List aJ)(a3:Int):Option Int:=
  (tM N a0).bind fun r1=>
  bif(r1 !=0) then
  some r1
  else
  bif((a1.length:Int) !=(a0.2.2.2.1.length:Int)) then
  some 11
  else
  bif((a2.length:Int) !=(a0.1.1.2.length:Int)) then
  some 11
  else
  bif(decide (a3<0)) then
  some 8
  else
  bif(decide (a3>2147483648)) then
  some 8
  else
  some 0
theorem aum(N:Nat):bk Tryz.prog 70 [fx,(.list aW),(.list bm),GI] [GI] (fun x=>wY N x.1 x.2.1 x.2.2.1 x.2.2.2):=bG (N:=N) (fq aio Tryz.func70) (Qq N).ok
def PA(N:Nat):CE:=(Qq N).a (bD (aum N))
def Zn:FD:=fd 17 nf [(.t 2)] Tryz.f120 []
def It(N:Nat)(a0:aJ):Option Int:=
  bif(decide (a0.1>a0.2)) then
  some 0
  else
  bif(decide (a0.1>0)) then
  some 1
  else
  bif(decide (a0.2<0)) then
  some (-1)
  else
  some 0
theorem af9(N:Nat):bk Tryz.prog 120 [bm] [GI] (fun x=>It N x):=bG (N:=N) (fq Zn Tryz.func120) (PA N).ok
def Xz(N:Nat):CE:=(PA N).a (bD (af9 N))
def aaa:FD:=fd 44 nf [(.t 8)] Tryz.f105 []
def Ff(N:Nat)(a0:aR)(a1:aJ)(a2:Int)(a3:Int):Option Bool:=
  let v1:=W ((W (1000*a0.2.2.1))*a0.2.2.2.1)
  bif((W (v1*a2))==0) then
  some true
  else
  bif(a3==0) then
  some false
  else
  let v2:=W ((W ((W (v1*a2))+a3))-1)
  bif a3==0 then none else
  (It N a1).bind fun r3=>
  bif(r3==1) then
  some (decide (a1.1>=(W (v2.tdiv a3))))
  else
  bif(r3==(-1)) then
  some (decide (a1.2<=(W (0-(W (v2.tdiv a3))))))
  else
  some false
theorem ajo(N:Nat):bk Tryz.prog 105 [bY,bm,GI,GI] [.bool] (fun x=>Ff N x.1 x.2.1 x.2.2.1 x.2.2.2):=bG (N:=N) (fq aaa Tryz.func105) (Xz N).ok
def B9(N:Nat):CE:=(Xz N).a (bD (ajo N))
def Ef:FD:=fd 80 nf [(.t 10)] Tryz.f71 [(7,{w:=[(true,[.wk 1 (.list aW),.wk 2 (.list bm),.af [1,2,3,4,5],.cmp])]}),(14,{w:=[(false,[.wait,.wait])],an:=[(9,⟨.unit,some 1,[]⟩),(10,⟨.unit,some 2,[]⟩)]}),(63,{w:=[(true,[.wk 2 (.list bm),.af [2,4,5,11,12],.cmp])]}),(506,{ns:=[.wk 2
  (.list bm),.wk 54 LI,.af [2,4,5,11,12,54,55,56],.cmp]})]
def Nf:Exit->SI->Option Int:=fin [(.t 10)] [GI]
section
variable (N JM n1:Nat) (x1:List bt) (x2:List aJ) (x3 x4:Int) (x5:List bj) (x6:List aR) (x7:List bC) (x8:List bu) (x9:List bJ) (aj:List cB) (ak:List cC) (av:List cW) (aq:List aJ) (ax:Int) (ay:List bj) (aC:List aR) (aO:List bC) (aH:List bu) (aE:List bJ) (aI:List cB) (aF:List cC) (az:List cW) (aG:Bool) (aU bb:Int) (aQ:List aP) (aZ:Int) (bp:List Int) (bn:Int) (bx:List aJ) (bq:Int) (bL:List Int) (bN bz:Int) (bP:List bj) (bA:List aR) (bw:List bC) (bZ:List bu) (cb:List bJ) (cd:List cB) (bW:List cC) (cU:List cW) (cK:Bool) (cZ cX:Int) (eM:List aP) (eV:Int) (ec:List Int) (ei:Int)
def En:Option Int:=lp (B9 N).l N 0 Ef.tc 1339 [] Nf n1 ⟨[(2,.l bm bx),(4,.i bq),(5,.ptr 0 0 0),(11,.ptr 1 0 0),(12,.ptr 2 0 0),(54,.l GI bL),(55,.i bN),(56,.i bz)],[some (fU bP bA bw bZ cb cd bW cU),some (.box 1 [.bool cK,.i cZ,.i cX]),some (.box 1 [.l aV eM,.i eV,.l GI ec,.i ei])]⟩
def Sv:Option Int:=jn (B9 N).l N 0 Ef.tc 123 [] Nf JM ⟨[(2,.l bm aq),(4,.i ax),(5,.ptr 0 0 0),(11,.ptr 1 0 0),(12,.ptr 2 0 0)],[some (fU ay aC aO aH aE aI aF az),some (.box 1 [.bool aG,.i aU,.i bb]),some (.box 1 [.l aV aQ,.i aZ,.l GI bp,.i bn])]⟩
def WD:Option Int:=jn (B9 N).l N 0 Ef.tc 7 [] Nf JM ⟨[(1,.l aW x1),(2,.l bm x2),(3,.i x3),(4,.i x4),(5,.ptr 0 0 0)],[some (fU x5 x6 x7 x8 x9 aj ak av)]⟩
theorem YI:En N (n1+1) bx bq bL bN bz bP bA bw bZ cb cd bW cU cK cZ cX eM eV ec ei=
  bif(decide (bz<bN)) then
  bif ae bz bL.length then
  bif ae (bL.getD bz.toNat 0) bA.length then
  bif ae (bL.getD bz.toNat 0) bx.length then
  (Ff N (bA.getD (bL.getD bz.toNat 0).toNat fH) (bx.getD (bL.getD bz.toNat 0).toNat dZ) ei (W (bq-cZ))).bind fun Pt=>
  bif(!Pt) then
  some 20
  else
  En N n1 bx bq bL bN (W (bz+1)) bP bA bw bZ cb cd bW cU cK cZ cX eM eV ec ei
  else none
  else none
  else none
  else
  some 0:=by kernel_rfl
theorem alf:Sv N (JM+1) aq ax ay aC aO aH aE aI aF az aG aU bb aQ aZ bp bn=
  En N N aq ax bp (bp.length:Int) 0 ay aC aO aH aE aI aF az aG aU bb aQ aZ bp bn:=by kernel_rfl
theorem Yh:WD N (JM+1) x1 x2 x3 x4 x5 x6 x7 x8 x9 aj ak av=
  bif ae x3 x1.length then
  bif ae x3 ak.length then
  bif(!(x1.getD x3.toNat cG).1) then
  some 10
  else
  bif(decide ((x1.getD x3.toNat cG).2.1<0)) then
  some 20
  else
  bif(decide ((x1.getD x3.toNat cG).2.1>x4)) then
  some 20
  else
  bif(decide ((W (x4-(x1.getD x3.toNat cG).2.1))<(ak.getD x3.toNat iU).2.1)) then
  some 20
  else
  Sv N N x2 x4 x5 x6 x7 x8 x9 aj ak av (x1.getD x3.toNat cG).1 (x1.getD x3.toNat cG).2.1 (x1.getD x3.toNat cG).2.2 (ak.getD x3.toNat iU).1 (ak.getD x3.toNat iU).2.1 (ak.getD x3.toNat iU).2.2.1 (ak.getD x3.toNat iU).2.2.2
  else none
  else none:=by kernel_rfl
end
def yd(N:Nat)(a0:bX)(a1:List bt)(a2:List aJ)(a3:Int)(a4:Int):Option Int:=
  bif(decide (a3<0)) then
  some 17
  else
  bif(decide (a3>=(a1.length:Int))) then
  some 17
  else
  WD N N a1 a2 a3 a4 a0.1.1.1 a0.1.1.2 a0.1.2.1 a0.1.2.2 a0.2.1 a0.2.2.1 a0.2.2.2.1 a0.2.2.2.2
theorem ajs(N:Nat):bk Tryz.prog 71 [fx,(.list aW),(.list bm),GI,GI] [GI] (fun x=>yd N x.1 x.2.1 x.2.2.1 x.2.2.2.1 x.2.2.2.2):=bG (N:=N) (fq Ef Tryz.func71) (B9 N).ok
def QH(N:Nat):CE:=(B9 N).a (bD (ajs N))
def aez:FD:=fd 64 nf [(.cell 14 true 5),(.t 15)] Tryz.f36 []
def EK(N:Nat)(a0:bX)(a1:List bt)(a2:List aJ)(a3:eT)(a4:Int)(a5:Int)(a6:Int):Option (eT×Int):=
  (wY N a0 a1 a2 a6).bind fun r1=>
  bif(r1 !=0) then
  some (a3,r1)
  else
  bif(a3.1 !=(-1)) then
  some (a3,10)
  else
  bif(decide (a4<0)) then
  some (a3,19)
  else
  bif(decide (a4>=(a0.2.2.2.2.length:Int))) then
  some (a3,19)
  else
  bif ae a4 a0.2.2.2.2.length then
  bif((a0.2.2.2.2.getD a4.toNat oZ).1 !=1) then
  some (a3,19)
  else
  (yd N a0 a1 a2 a5 a6).bind fun r3=>
  bif(r3 !=0) then
  some (a3,r3)
  else
  some ((a5,(a4,((-1),(1,a6)))),0)
  else none
theorem aq2(N:Nat):bk Tryz.prog 36 [fx,(.list aW),(.list bm),js,GI,GI,GI] [js,GI] (fun x=>EK N x.1 x.2.1 x.2.2.1 x.2.2.2.1 x.2.2.2.2.1 x.2.2.2.2.2.1 x.2.2.2.2.2.2):=bG (N:=N) (fq aez Tryz.func36) (QH N).ok
def T5(N:Nat):CE:=(QH N).a (bD (aq2 N))
def arz:FD:=fd 49 nf [(.cell 8 true 23),(.t 9)] Tryz.f13 [(30,{w:=[(false,[.aM 10 13 aW,.aM 10 22 aV])],sg:=[(1,[.bg 14 11,.bg 14 12])]}),(62,{w:=[(false,[.wait,.wait])],an:=[(5,⟨.unit,none,[9]⟩),(15,⟨.unit,some 10,[]⟩)]}),(117,{w:=[(false,[.cy 8])]}),(510,{w:=[(false,[.aM 10 13 aW,.aM 10
  22 aV])]}),(1012,{w:=[(false,[.aM 10 13 aW,.aM 10 22 aV])]}),(1023,{w:=[(false,[.cy 8])]}),(2027,{w:=[(false,[.cy 8])]})]
def ain(N:Nat):CE:=(T5 N).a (qX (cT (zg N)))
def tK(N:Nat)(a0:aT)(a1:Int)(a2:Int)(a3:Int):Option (aT×Int):=
  (lV N a0).bind fun r1=>
  (pI N a0 a3).bind fun r2=>
  bif r2 then
  some (r1.1,8)
  else
  (eB N r1.1 a3).bind fun r3=>
  (lh N r3.2).bind fun r4=>
  (EK N r3.2.1 r3.2.2.2.2.2.2.1 r4.1 r3.2.2.2.2.2.2.2.2.1 a1 a2 a3).bind fun r5=>
  bif(r5.2 !=0) then
  (ma N r3.2 7 a2 r5.2).bind fun r6=>
  some (r6.2,r5.2)
  else
  (ma N (r3.2.1,(r3.2.2.1,(r3.2.2.2.1,(r3.2.2.2.2.1,(r3.2.2.2.2.2.1,(r3.2.2.2.2.2.2.1,(r3.2.2.2.2.2.2.2.1,(r5.1,r3.2.2.2.2.2.2.2.2.2)))))))) 4 a2 a1).bind fun r7=>
  some (r7.2,0)
theorem YH(N:Nat):bk Tryz.prog 13 [iI,GI,GI,GI] [iI,GI] (fun x=>tK N x.1 x.2.1 x.2.2.1 x.2.2.2):=bG (N:=N) (fq arz Tryz.func13) (ain N).ok
def Tp(N:Nat):CE:=(T5 N).a (bD (YH N))
def aep:FD:=fd 16 nf [(.t 4)] Tryz.f75 []
def BQ(N:Nat)(a0:eT)(a1:Int):Option Bool:=
  bif(decide (a1<a0.2.2.2.2)) then
  some true
  else
  some (decide (a0.2.2.2.2<(W (a1-600))))
theorem Yu(N:Nat):bk Tryz.prog 75 [js,GI] [.bool] (fun x=>BQ N x.1 x.2):=bG (N:=N) (fq aep Tryz.func75) (Tp N).ok
def GB(N:Nat):CE:=(Tp N).a (bD (Yu N))
def NN:FD:=fd 102 nf [(.cell 12 true 5),(.t 13)] Tryz.f39 [(15,{w:=[(true,[.wk 1 (.list aW),.wk 2 (.list bm),.af [1,2,4,5,6,9,12],.cmp])]}),(63,{w:=[(true,[.wk 1 (.list aW),.wk 2 (.list bm),.af [1,2,4,5,6,9,12],.cmp])]})]
def Xj:Exit->SI->Option (eT×Int):=fin [(.cell 12 true 5),(.t 13)] [js,GI]
section
variable (N JM:Nat) (x2:List bt) (x3:List aJ) (x4 x5:Int) (x6:List bj) (x7:List aR) (x8:List bC) (x9:List bu) (aj:List bJ) (ak:List cB) (av:List cC) (ai:List cW) (ao aq ax ay aC aO aH aE aI aF:Int) (aU:List bt) (bb:List aJ) (aQ aZ:Int) (bp:List bj) (bn:List aR) (bx:List bC) (bq:List bu) (bL:List bJ) (bN:List cB) (bz:List cC) (bP:List cW) (bA bw bZ cb cd bW cU cK cZ cX:Int)
def Rs:Option (eT×Int):=jn (GB N).l N 0 NN.tc 119 [] Xj JM ⟨[(1,.l aW aU),(2,.l bm bb),(4,.i aQ),(5,.i aZ),(6,.ptr 0 0 0),(9,.ptr 1 0 0),(12,.ptr 2 0 0)],[some (fU bp bn bx bq bL bN bz bP),some (.box 0 [.i bA,.i bw,.i bZ,.i cb,.i cd]),some (.box 0 [.i bW,.i cU,.i cK,.i cZ,.i cX])]⟩
def UE:Option (eT×Int):=jn (GB N).l N 0 NN.tc 15 [] Xj JM ⟨[(1,.l aW x2),(2,.l bm x3),(4,.i x4),(5,.i x5),(6,.ptr 0 0 0),(9,.ptr 1 0 0),(12,.ptr 2 0 0)],[some (fU x6 x7 x8 x9 aj ak av ai),some (.box 0 [.i ao,.i aq,.i ax,.i ay,.i aC]),some (.box 0 [.i aO,.i aH,.i aE,.i aI,.i aF])]⟩
theorem axl:Rs N (JM+1) aU bb aQ aZ bp bn bx bq bL bN bz bP bA bw bZ cb cd bW cU cK cZ cX=
  (BQ N (bA,(bw,(bZ,(cb,cd)))) aZ).bind fun mB=>
  bif mB then
  some ((bA,(bw,(bZ,(cb,cd)))),8)
  else
  (yd N (((bp,bn),(bx,bq)),(bL,(bN,(bz,bP)))) aU bb bA aZ).bind fun eP=>
  bif(eP !=0) then
  some ((bA,(bw,(bZ,(cb,cd)))),eP)
  else
  some ((bA,(bw,(aQ,(2,aZ)))),0):=by kernel_rfl
theorem acn:UE N (JM+1) x2 x3 x4 x5 x6 x7 x8 x9 aj ak av ai ao aq ax ay aC aO aH aE aI aF=
  bif(decide (x4<0)) then
  some ((ao,(aq,(ax,(ay,aC)))),19)
  else
  bif(decide (x4>=(ai.length:Int))) then
  some ((ao,(aq,(ax,(ay,aC)))),19)
  else
  bif(x4==aq) then
  some ((ao,(aq,(ax,(ay,aC)))),19)
  else
  bif(decide (aq<0)) then
  some ((ao,(aq,(ax,(ay,aC)))),19)
  else
  bif(decide (aq>=(ai.length:Int))) then
  some ((ao,(aq,(ax,(ay,aC)))),19)
  else
  bif ae x4 ai.length then
  bif ae aq ai.length then
  bif((ai.getD x4.toNat oZ).1==(ai.getD aq.toNat oZ).1) then
  some ((ao,(aq,(ax,(ay,aC)))),19)
  else
  Rs N N x2 x3 x4 x5 x6 x7 x8 x9 aj ak av ai ao aq ax ay aC aO aH aE aI aF
  else none
  else none:=by kernel_rfl
end
def EB(N:Nat)(a0:bX)(a1:List bt)(a2:List aJ)(a3:eT)(a4:Int)(a5:Int):Option (eT×Int):=
  (wY N a0 a1 a2 a5).bind fun r1=>
  bif(r1 !=0) then
  some (a3,r1)
  else
  bif(a3.1==(-1)) then
  some (a3,10)
  else
  bif(a3.2.2.2.1 !=1) then
  some (a3,10)
  else
  UE N N a1 a2 a4 a5 a0.1.1.1 a0.1.1.2 a0.1.2.1 a0.1.2.2 a0.2.1 a0.2.2.1 a0.2.2.2.1 a0.2.2.2.2 a3.1 a3.2.1 a3.2.2.1 a3.2.2.2.1 a3.2.2.2.2 0 0 0 0 0
theorem asl(N:Nat):bk Tryz.prog 39 [fx,(.list aW),(.list bm),js,GI,GI] [js,GI] (fun x=>EB N x.1 x.2.1 x.2.2.1 x.2.2.2.1 x.2.2.2.2.1 x.2.2.2.2.2):=bG (N:=N) (fq NN Tryz.func39) (GB N).ok
def SC(N:Nat):CE:=(GB N).a (bD (asl N))
def ank:FD:=fd 50 nf [(.cell 6 true 23),(.t 7)] Tryz.f14 [(30,{w:=[(false,[.aM 8 13 aW,.aM 8 22 aV])],sg:=[(1,[.bg 13 11,.bg 13 12])]}),(117,{w:=[(false,[.cy 6])]}),(126,{w:=[(false,[.wait,.wait])],an:=[(5,⟨.unit,none,[9]⟩),(14,⟨.unit,some 10,[]⟩)]}),(1022,{w:=[(false,[.aM 8 13 aW,.aM 8
  22 aV])]}),(2036,{w:=[(false,[.aM 8 13 aW,.aM 8 22 aV])]}),(2047,{w:=[(false,[.cy 6])]}),(4075,{w:=[(false,[.cy 6])]})]
def akf(N:Nat):CE:=(SC N).a (qX (cT (zg N)))
def s9(N:Nat)(a0:aT)(a1:Int)(a2:Int):Option (aT×Int):=
  (lV N a0).bind fun r1=>
  (pI N a0 a2).bind fun r2=>
  bif r2 then
  some (r1.1,8)
  else
  (eB N r1.1 a2).bind fun r3=>
  (lh N r3.2).bind fun r4=>
  (EB N r3.2.1 r3.2.2.2.2.2.2.1 r4.1 r3.2.2.2.2.2.2.2.2.1 a1 a2).bind fun r5=>
  bif(r5.2 !=0) then
  (ma N r3.2 7 r3.2.2.2.2.2.2.2.2.1.1 r5.2).bind fun r6=>
  some (r6.2,r5.2)
  else
  (ma N (r3.2.1,(r3.2.2.1,(r3.2.2.2.1,(r3.2.2.2.2.1,(r3.2.2.2.2.2.1,(r3.2.2.2.2.2.2.1,(r3.2.2.2.2.2.2.2.1,(r5.1,r3.2.2.2.2.2.2.2.2.2)))))))) 5 r3.2.2.2.2.2.2.2.2.1.1 a1).bind fun r7=>
  some (r7.2,0)
theorem aqv(N:Nat):bk Tryz.prog 14 [iI,GI,GI] [iI,GI] (fun x=>s9 N x.1 x.2.1 x.2.2):=bG (N:=N) (fq ank Tryz.func14) (akf N).ok
def Wg(N:Nat):CE:=(SC N).a (bD (aqv N))
def ahb:FD:=fd 17 nf [(.t 4)] Tryz.f80 [(7,{w:=[(false,[.cO 1,.af [4],.out [0,1]])]})]
def ayb:List NS:=[.cO 1,.af [4],.out [0,1]]
def DB(N:Nat)(a0:Int)(a1:Int)(a2:cz):Option (Bool×(Int×cz)):=
  bif(a0 !=a1) then
  bif ae a0 a2.1.length then
  some (((a2.1.getD a0.toNat bM).2.2.1==(-1)),(a1,a2))
  else none
  else
  some (false,(a1,a2))
theorem ana(N:Nat):dq Tryz.prog 80 [none,none,none] [.v GI,.b (.v GI),.b (.v fh)] [.v .bool] (fun x=>DB N x.1 x.2.1 x.2.2):=dM (N:=N) (p:=2) (q:=2) (ns:=ayb) (fq ahb Tryz.func80) (Wg N).ok
def MF(N:Nat):CE:=(Wg N).a (cT (ana N))
def We:FD:=fd 19 nf [(.t 4)] Tryz.f114 [(26,{ns:=[.wk 0 LI,.af [0,1,7,8],.cmp]})]
def aa7:Exit->SI->Option Int:=fin [(.t 4)] [GI]
section
variable (N n1:Nat) (x1:List Int) (x2 x3 x4:Int)
def HJ:Option Int:=lp (MF N).l N 0 We.tc 21 [] aa7 n1 ⟨[(0,.l GI x1),(1,.i x2),(7,.i x3),(8,.i x4)],[]⟩
theorem TT:HJ N (n1+1) x1 x2 x3 x4=
  bif(decide (x4<x3)) then
  bif ae x4 x1.length then
  bif(x2==(x1.getD x4.toNat 0)) then
  some x4
  else
  HJ N n1 x1 x2 x3 (W (x4+1))
  else none
  else
  some (-1):=by kernel_rfl
end
def OL(N:Nat)(a0:List Int)(a1:Int):Option Int:=
  HJ N N a0 a1 (a0.length:Int) 0
theorem awb(N:Nat):bk Tryz.prog 114 [LI,GI] [GI] (fun x=>OL N x.1 x.2):=bG (N:=N) (fq We Tryz.func114) (MF N).ok
def Xl(N:Nat):CE:=(MF N).a (bD (awb N))
def ar4:FD:=fd 9 nf [(.t 4)] Tryz.f81 []
def Fv(N:Nat)(a0:List Int)(a1:Int):Option Bool:=
  (OL N a0 a1).bind fun r1=>
  some (decide (r1>=0))
theorem aks(N:Nat):bk Tryz.prog 81 [LI,GI] [.bool] (fun x=>Fv N x.1 x.2):=bG (N:=N) (fq ar4 Tryz.func81) (Xl N).ok
def A7(N:Nat):CE:=(Xl N).a (bD (aks N))
def Qp:FD:=fd 19 nf [(.t 4)] Tryz.f113 [(15,{w:=[(false,[.cO 1,.af [4],.out [0,1]])]}),(26,{ns:=[.wk 0 LI,.af [0,1,7,8],.cmp]}),(13517,{w:=[(false,[.cO 1,.af [4],.out [0,1]])]})]
def WE:List NS:=[.cO 1,.af [4],.out [0,1]]
def aq6:Exit->SI->Option (Int×(Int×cz)):=fK WE [(.t 4)] [.v LI,.b (.v GI),.b (.v fh)] [.v GI] 2 2
section
variable (N n1:Nat) (x1:List Int) (x2 x3 x4:Int) (x5:List bV) (x6:List Int) (x7:Int)
def ED:Option (Int×(Int×cz)):=lp (A7 N).l N 2 Qp.tc 21 [] aq6 n1 ⟨[(0,.l GI x1),(1,.fn 80 [.ptr 0 0 0,.ptr 1 0 0]),(7,.i x2),(8,.i x3)],[some (.box 0 [.i x4]),some (lQ x5 x6 x7)]⟩
theorem ano:ED N (n1+1) x1 x2 x3 x4 x5 x6 x7=
  bif(decide (x3<x2)) then
  bif ae x3 x1.length then
  (DB N (x1.getD x3.toNat 0) x4 (x5,(x6,x7))).bind fun r8=>
  bif r8.1 then
  some (x3,(r8.2.1,r8.2.2))
  else
  ED N n1 x1 x2 (W (x3+1)) r8.2.1 r8.2.2.1 r8.2.2.2.1 r8.2.2.2.2
  else none
  else
  some ((-1),(x4,(x5,(x6,x7)))):=by kernel_rfl
end
def NW(N:Nat)(a0:List Int)(a1:Int)(a2:cz):Option (Int×(Int×cz)):=
  ED N N a0 (a0.length:Int) 0 a1 a2.1 a2.2.1 a2.2.2
theorem aui(N:Nat):dq Tryz.prog 113 [none,some (80,2)] [.v LI,.b (.v GI),.b (.v fh)] [.v GI] (fun x=>NW N x.1 x.2.1 x.2.2):=dM (N:=N) (p:=2) (q:=2) (ns:=WE) (fq Qp Tryz.func113) (A7 N).ok
def apq:FD:=fd 9 nf [(.t 4)] Tryz.f79 [(7,{w:=[(false,[.cO 1,.af [4],.out [0,1]])]})]
def akq:List NS:=[.cO 1,.af [4],.out [0,1]]
def axb(N:Nat):CE:=(A7 N).a (cT (aui N))
def HZ(N:Nat)(a0:List Int)(a1:Int)(a2:cz):Option (Bool×(Int×cz)):=
  (NW N a0 a1 a2).bind fun r1=>
  some ((decide (r1.1>=0)),(r1.2.1,r1.2.2))
theorem ar5(N:Nat):dq Tryz.prog 79 [none,some (80,2)] [.v LI,.b (.v GI),.b (.v fh)] [.v .bool] (fun x=>HZ N x.1 x.2.1 x.2.2):=dM (N:=N) (p:=2) (q:=2) (ns:=akq) (fq apq Tryz.func79) (axb N).ok
def Nm:FD:=fd 76 nf [(.t 6),(.t 7)] Tryz.f41 [(122,{ns:=[.wk 0 (.list aW),.wk 26 LI,.af [0,2,4,9,26,27,28],.cmp]}),(250,{ns:=[.wk 0 (.list aW),.wk 42 LI,.af [0,2,4,9,42,43,44],.cmp]})]
def NY(N:Nat):CE:=(A7 N).a (cT (ar5 N))
def SH:Exit->SI->Option (Int×Bool):=fin [(.t 6),(.t 7)] [GI,.bool]
section
variable (N n1 n2:Nat) (x3:List bt) (x4:Int) (x5:List Int) (x6 x7:Int) (x8:List bV) (x9:List Int) (aj ak:Int) (bn:List bt) (bx:Int) (bq:List Int) (bL bN:Int) (bz:List bV) (bP:List Int) (bA bw:Int)
def tP:Option (Int×Bool):=lp (NY N).l N 0 Nm.tc 175 [] SH n2 ⟨[(0,.l aW bn),(2,.i bx),(4,.ptr 0 0 0),(9,.ptr 1 0 0),(42,.l GI bq),(43,.i bL),(44,.i bN)],[some (lQ bz bP bA),some (.box 0 [.i bw])]⟩
def Bw:Option (Int×Bool):=lp (NY N).l N 0 Nm.tc 87 [] SH n1 ⟨[(0,.l aW x3),(2,.i x4),(4,.ptr 0 0 0),(9,.ptr 1 0 0),(26,.l GI x5),(27,.i x6),(28,.i x7)],[some (lQ x8 x9 aj),some (.box 0 [.i ak])]⟩
theorem apz:tP N (n2+1) bn bx bq bL bN bz bP bA bw=
  bif(decide (bN<bL)) then
  bif ae bN bq.length then
  bif(bN==bx) then
  tP N n2 bn bx bq bL (W (bN+1)) bz bP bA bw
  else
  bif ae bN bn.length then
  bif(!(bn.getD bN.toNat cG).1) then
  tP N n2 bn bx bq bL (W (bN+1)) bz bP bA bw
  else
  (wA N (bz,(bP,bA)) (bq.getD bN.toNat 0)).bind fun gy=>
  (HZ N gy bw (bz,(bP,bA))).bind fun oP=>
  (Fv N gy oP.2.1).bind fun r61=>
  bif r61 then
  bif(!oP.1) then
  some (oP.2.1,true)
  else
  tP N n2 bn bx bq bL (W (bN+1)) oP.2.2.1 oP.2.2.2.1 oP.2.2.2.2 oP.2.1
  else
  tP N n2 bn bx bq bL (W (bN+1)) oP.2.2.1 oP.2.2.2.1 oP.2.2.2.2 oP.2.1
  else none
  else none
  else
  some (bw,false):=by kernel_rfl
theorem aby:Bw N (n1+1) x3 x4 x5 x6 x7 x8 x9 aj ak=
  bif(decide (x7<x6)) then
  bif ae x7 x5.length then
  bif ae (x5.getD x7.toNat 0) x8.length then
  bif((x8.getD (x5.getD x7.toNat 0).toNat bM).2.2.1 !=1) then
  Bw N n1 x3 x4 x5 x6 (W (x7+1)) x8 x9 aj (x5.getD x7.toNat 0)
  else
  Bw N n1 x3 x4 x5 x6 (W (x7+1)) x8 x9 aj ak
  else none
  else none
  else
  tP N N x3 x4 x9 (x9.length:Int) 0 x8 x9 aj ak:=by kernel_rfl
end
def uf(N:Nat)(a0:List bt)(a1:cz)(a2:Int):Option (Int×Bool):=
  bif ae a2 a1.2.1.length then
  (wA N a1 (a1.2.1.getD a2.toNat 0)).bind fun r1=>
  bif ae 0 r1.length then
  Bw N N a0 a2 r1 (r1.length:Int) 0 a1.1 a1.2.1 a1.2.2 (r1.getD (0:Int).toNat 0)
  else none
  else none
theorem aso(N:Nat):bk Tryz.prog 41 [(.list aW),fh,GI] [GI,.bool] (fun x=>uf N x.1 x.2.1 x.2.2):=bG (N:=N) (fq Nm Tryz.func41) (NY N).ok
def Sx(N:Nat):CE:=(A7 N).a (bD (aso N))
def ad6:FD:=fd 70 nf [(.t 12),(.t 13)] Tryz.f76 []
def L6(N:Nat)(a0:bX)(a1:List bt)(a2:List aJ)(a3:eT)(a4:cz)(a5:Int):Option (Int×Int):=
  (wY N a0 a1 a2 a5).bind fun r1=>
  bif(r1 !=0) then
  some (0,r1)
  else
  bif(a3.1==(-1)) then
  some (0,10)
  else
  bif(a3.2.2.2.1 !=2) then
  some (0,10)
  else
  (BQ N a3 a5).bind fun r2=>
  bif r2 then
  some (0,8)
  else
  (yd N a0 a1 a2 a3.1 a5).bind fun r3=>
  bif(r3 !=0) then
  some (0,r3)
  else
  (oj N a4).bind fun r4=>
  bif(r4 !=0) then
  some (0,r4)
  else
  bif((a4.2.1.length:Int) !=(a0.2.2.2.1.length:Int)) then
  some (0,17)
  else
  (uf N a1 a4 a3.1).bind fun r5=>
  bif r5.2 then
  some (0,20)
  else
  some (r5.1,0)
theorem Z8(N:Nat):bk Tryz.prog 76 [fx,(.list aW),(.list bm),js,fh,GI] [GI,GI] (fun x=>L6 N x.1 x.2.1 x.2.2.1 x.2.2.2.1 x.2.2.2.2.1 x.2.2.2.2.2):=bG (N:=N) (fq ad6 Tryz.func76) (Sx N).ok
def UP(N:Nat):CE:=(Sx N).a (bD (Z8 N))
def aul:FD:=fd 54 nf [(.cell 6 true 3),(.t 7)] Tryz.f77 [(109,{w:=[(false,[.aM 6 0 di,.aM 6 1 GI,.af [6,7],.out []])]}),(245,{w:=[(false,[.aM 6 0 di,.aM 6 1 GI,.af [6,7],.out []])]}),(255,{w:=[(false,[.aM 6 0 di,.aM 6 1 GI,.af [6,7],.out []])]})]
def afd:List NS:=[.aM 6 0 di,.aM 6 1 GI,.af [6,7],.out []]
def DI(N:Nat)(a0:cz)(a1:Int)(a2:Int):Option ((cz×Int)×Unit):=
  (A8 N a0 a1 a2).bind fun r1=>
  bif(r1 !=0) then
  some ((([],([],0)),r1),())
  else
  bif ae a1 a0.1.length then
  let v2:=a0.1.getD a1.toNat bM
  bif(v2.2.2.1 !=(-1)) then
  some ((([],([],0)),10),())
  else
  bif(decide (v2.1>=0)) then
  bif ae v2.1 a0.1.length then
  bif((a0.1.getD v2.1.toNat bM).2.2.1 !=1) then
  some ((([],([],0)),10),())
  else
  (q9 N a0).bind fun r4=>
  bif ae a1 r4.1.1.length then
  some ((((r4.1.1.set a1.toNat (v2.1,(a2,(0,(true,false))))),r4.1.2),0),())
  else none
  else none
  else
  (q9 N a0).bind fun r6=>
  bif ae a1 r6.1.1.length then
  some ((((r6.1.1.set a1.toNat (v2.1,(a2,(0,(true,false))))),r6.1.2),0),())
  else none
  else none
theorem aqs(N:Nat):dq Tryz.prog 77 [none,none,none] [.v fh,.v GI,.v GI] [.o (.p (.a di) (.p (.a GI) (.v GI))),.v GI] (fun x=>DI N x.1 x.2.1 x.2.2):=dM (N:=N) (p:=0) (q:=0) (ns:=afd) (fq aul Tryz.func77) (UP N).ok
def S6(N:Nat):CE:=(UP N).a (cT (aqs N))
def amx:FD:=fd 84 nf [(.cell 12 true 5),(.t 13),(.cell 14 true 3),(.t 15)] Tryz.f40 [(6,{w:=[(false,[.ghost aW])],an:=[(1,⟨.unit,some 5,[]⟩)]}),(30,{w:=[(false,[.ghost di,.ghost GI])],an:=[(2,⟨.unit,some 7,[]⟩),(5,⟨.unit,some 8,[]⟩)]}),(1013,{w:=[(false,[.own 13 aW,.aM 14 0 di,.aM 14 1 GI,.af [13,14,
  12,15],.out []])]}),(4085,{w:=[(false,[.own 13 aW,.aM 14 0 di,.aM 14 1 GI,.af [13,14,12,15],.out []])]}),(4095,{w:=[(false,[.own 13 aW,.aM 14 0 di,.aM 14 1 GI,.af [13,14,12,15],.out []])]}),(32727,{w:=[(false,[.own
  13 aW,.aM 14 0 di,.aM 14 1 GI,.af [13,14,12,15],.out []])]})]
def ae0:List NS:=[.own 13 aW,.aM 14 0 di,.aM 14 1 GI,.af [13,14,12,15],.out []]
def Gz(N:Nat)(a0:bX)(a1:List bt)(a2:List aJ)(a3:eT)(a4:cz)(a5:Int):Option ((eT×(List bt)×cz×Int)×Unit):=
  bif ba a1.length 24 then
  bif ba a4.1.length 32 then
  bif ba a4.2.1.length 8 then
  (L6 N a0 a1 a2 a3 a4 a5).bind fun r1=>
  bif(r1.2 !=0) then
  some ((a3,a1,a4,r1.2),())
  else
  (DI N a4 r1.1 a5).bind fun r2=>
  bif(r2.1.2 !=0) then
  some ((a3,a1,a4,r2.1.2),())
  else
  bif ae a3.1 a4.2.1.length then
  bif(r1.1 !=(a4.2.1.getD a3.1.toNat 0)) then
  some (((a3.1,(a3.2.1,(a3.2.2.1,(a3.2.2.2.1,a5)))),a1,r2.1.1,0),())
  else
  bif ae a3.1 a1.length then
  (qM N).bind fun r5=>
  some ((r5,(a1.set a3.1.toNat (false,(a1.getD a3.1.toNat cG).2)),r2.1.1,0),())
  else none
  else none
  else none
  else none
  else none
theorem WO(N:Nat):dq Tryz.prog 40 [none,none,none,none,none,none] [.v fx,.v (.list aW),.v (.list bm),.v js,.v fh,.v GI] [.v js,.o (.a aW),.o (.p (.a di) (.p (.a GI) (.v GI))),.v GI] (fun x=>Gz N x.1 x.2.1 x.2.2.1 x.2.2.2.1 x.2.2.2.2.1 x.2.2.2.2.2):=dM (N:=N) (p:=0) (q:=0) (ns:=ae0) (fq amx Tryz.func40) (S6 N).ok
def W8(N:Nat):CE:=(S6 N).a (cT (WO N))
def aph:FD:=fd 67 nf [(.cell 4 true 23),(.t 5)] Tryz.f15 [(30,{w:=[(false,[.aM 6 13 aW,.aM 6 22 aV])],sg:=[(1,[.bg 15 11,.bg 15 12])]}),(117,{w:=[(false,[.cy 4])]}),(126,{w:=[(false,[.wait,.wait,.wait,.wait,.wait,.wait])],an:=[(5,⟨.unit,none,[9]⟩),(11,⟨.unit,none,[10,11,12]⟩),(17,⟨.unit,some
  13,[]⟩),(18,⟨.unit,some 14,[]⟩)]}),(2036,{w:=[(false,[.aM 6 13 aW,.aM 6 22 aV])]}),(2046,{w:=[(false,[.aM 6 13 aW,.aM 6 22 aV])],sg:=[(1,[.bg 40 0,.ej 40])]}),(4075,{w:=[(false,[.cy 4])]}),(4095,{w:=[(false,[.cy 4])]})]
def ai8(N:Nat):CE:=((W8 N).a (qX (cT (WO N)))).a (qX (cT (zg N)))
def tF(N:Nat)(a0:aT)(a1:Int):Option (aT×Int):=
  (lV N a0).bind fun r1=>
  (pI N a0 a1).bind fun r2=>
  bif r2 then
  some (r1.1,8)
  else
  (eB N r1.1 a1).bind fun r3=>
  (lh N r3.2).bind fun r4=>
  (Gz N r3.2.1 r3.2.2.2.2.2.2.1 r4.1 r3.2.2.2.2.2.2.2.2.1 r3.2.2.2.2.2.2.2.1 a1).bind fun r5=>
  bif(r5.1.2.2.2 !=0) then
  (ma N r3.2 7 r3.2.2.2.2.2.2.2.2.1.1 r5.1.2.2.2).bind fun r6=>
  some (r6.2,r5.1.2.2.2)
  else
  (uf N r3.2.2.2.2.2.2.1 r3.2.2.2.2.2.2.2.1 r3.2.2.2.2.2.2.2.2.1.1).bind fun r7=>
  (ma N (r3.2.1,(r3.2.2.1,(r3.2.2.2.1,(r3.2.2.2.2.1,(r3.2.2.2.2.2.1,(r5.1.2.1,(r5.1.2.2.1,(r5.1.1,r3.2.2.2.2.2.2.2.2.2)))))))) 6 r7.1 0).bind fun r8=>
  some (r8.2,0)
theorem avx(N:Nat):bk Tryz.prog 15 [iI,GI] [iI,GI] (fun x=>tF N x.1 x.2):=bG (N:=N) (fq aph Tryz.func15) (ai8 N).ok
def UK(N:Nat):CE:=(W8 N).a (bD (avx N))
def alj:FD:=fd 57 nf [(.cell 6 true 3),(.t 7)] Tryz.f82 [(109,{w:=[(false,[.cy 6])]}),(117,{w:=[(false,[.cy 6])]}),(245,{w:=[(false,[.cy 6])]}),(511,{w:=[(false,[.cy 6])]})]
def zI(N:Nat)(a0:cz)(a1:Int)(a2:Int):Option (cz×Int):=
  (oj N a0).bind fun r1=>
  bif(r1 !=0) then
  some (([],([],0)),r1)
  else
  bif(decide (a1<0)) then
  some (([],([],0)),16)
  else
  bif(decide (a1>=(a0.1.length:Int))) then
  some (([],([],0)),16)
  else
  bif(a2 !=1) then
  bif(a2 !=(-1)) then
  some (([],([],0)),10)
  else
  (q9 N a0).bind fun r2=>
  bif ae a1 r2.1.1.length then
  let v3:=r2.1.1.getD a1.toNat bM
  let v4:=r2.1.1.set a1.toNat (v3.1,(v3.2.1,(a2,v3.2.2.2)))
  bif ae a1 v4.length then
  bif(v4.getD a1.toNat bM).2.2.2.2 then
  bif ae a1 v4.length then
  let v6:=v4.getD a1.toNat bM
  some (((v4.set a1.toNat (v6.1,(v6.2.1,(v6.2.2.1,(v6.2.2.2.1,(a2 !=(-1))))))),r2.1.2),0)
  else none
  else
  bif ae a1 v4.length then
  let v8:=v4.getD a1.toNat bM
  some (((v4.set a1.toNat (v8.1,(v8.2.1,(v8.2.2.1,(v8.2.2.2.1,false))))),r2.1.2),0)
  else none
  else none
  else none
  else
  (q9 N a0).bind fun ly=>
  bif ae a1 ly.1.1.length then
  let v11:=ly.1.1.getD a1.toNat bM
  let ez:=ly.1.1.set a1.toNat (v11.1,(v11.2.1,(a2,v11.2.2.2)))
  bif ae a1 ez.length then
  bif(ez.getD a1.toNat bM).2.2.2.2 then
  bif ae a1 ez.length then
  let oN:=ez.getD a1.toNat bM
  some (((ez.set a1.toNat (oN.1,(oN.2.1,(oN.2.2.1,(oN.2.2.2.1,(a2 !=(-1))))))),ly.1.2),0)
  else none
  else
  bif ae a1 ez.length then
  let nL:=ez.getD a1.toNat bM
  some (((ez.set a1.toNat (nL.1,(nL.2.1,(nL.2.2.1,(nL.2.2.2.1,false))))),ly.1.2),0)
  else none
  else none
  else none
theorem adq(N:Nat):bk Tryz.prog 82 [fh,GI,GI] [fh,GI] (fun x=>zI N x.1 x.2.1 x.2.2):=bG (N:=N) (fq alj Tryz.func82) (UK N).ok
def UU(N:Nat):CE:=(UK N).a (bD (adq N))
def aku:FD:=fd 36 nf [(.cell 8 true 23),(.t 9)] Tryz.f42 [(117,{w:=[(false,[.cy 8])]}),(254,{w:=[(false,[.aM 10 13 aW,.aM 10 22 aV])],sg:=[(1,[.bg 14 11,.bg 14 12])]}),(501,{w:=[(false,[.cy 8])]}),(511,{w:=[(false,[.cy 8])]})]
def rz(N:Nat)(a0:aT)(a1:Int)(a2:Int)(a3:Int):Option (aT×Int):=
  (lV N a0).bind fun r1=>
  (pI N a0 a3).bind fun r2=>
  bif r2 then
  some (r1.1,8)
  else
  (zI N r1.1.2.2.2.2.2.2.1 a1 a2).bind fun r3=>
  bif(r3.2 !=0) then
  some (r1.1,r3.2)
  else
  (eB N (r1.1.1,(r1.1.2.1,(r1.1.2.2.1,(r1.1.2.2.2.1,(r1.1.2.2.2.2.1,(r1.1.2.2.2.2.2.1,(r3.1,r1.1.2.2.2.2.2.2.2))))))) a3).bind fun r4=>
  some (r4.2,0)
theorem axj(N:Nat):bk Tryz.prog 42 [iI,GI,GI,GI] [iI,GI] (fun x=>rz N x.1 x.2.1 x.2.2.1 x.2.2.2):=bG (N:=N) (fq aku Tryz.func42) (UU N).ok
def Er(N:Nat):CE:=(UU N).a (bD (axj N))
def KX:FD:=fd 70 nf [(.cell 4 true 23)] Tryz.f16 [(15,{w:=[(false,[.cy 4])]}),(26,{ns:=[.af [2,3,4,5],.cmp]}),(6730,{ns:=[.af [2,3,4,5,6,21,22],.cmp]}),(13469,{w:=[(false,[.cy 4])]})]
def Tl:Exit->SI->Option (aT×qz):=AH (.p (.a .bool) (.a .bool)) [(.cell 4 true 23)] [iI]
section
variable (N n1 n2:Nat) (x1:Int) (x2 x3:List Bool) (x4:List bj) (x5:List aR) (x6:List bC) (x7:List bu) (x8:List bJ) (x9:List cB) (aj:List cC) (ak:List cW) (av:Int) (ai:List Int) (ao:Int) (aq:List aP) (ax ay:List bt) (aC:List bV) (aO:List Int) (aH aE aI aF az aG:Int) (aU:List aP) (bb aQ aZ bp bn bx bq bL bz:Int) (bP:Bool) (bA bw:Int) (bZ cb:List Bool) (cd:List bj) (bW:List aR) (cU:List bC) (cK:List bu) (cZ:List bJ) (cX:List cB) (eM:List cC) (eV:List cW) (ec:Int) (ei:List Int) (fD:Int) (fF:List aP) (fG dH:List bt) (dE:List bV) (dI:List Int) (dW dX dO dC eb gB:Int) (gC:List aP) (gU gV gW gX gY gw gl ea:Int)
def qQ:Option (aT×qz):=lp (Er N).l N 2 KX.tc 5413 [n1] Tl n2 ⟨[(2,.ptr 2 0 0),(3,.ptr 3 0 0),(4,.ptr 4 0 0),(5,.i bz),(6,.bool bP),(21,.i bA),(22,.i bw)],[some (.hF .bool bZ),some (.hF .bool cb),some (rj cd bW cU cK cZ cX eM eV ec ei fD fF fG dH dE dI dW dX dO dC eb gB gC),some (.box 0 [.whole 0,.whole 1]),some (sN gU gV gW gX gY gw gl ea)]⟩
def BW:Option (aT×qz):=lp (Er N).l N 2 KX.tc 21 [] Tl n1 ⟨[(2,.ptr 2 0 0),(3,.ptr 3 0 0),(4,.ptr 4 0 0),(5,.i x1)],[some (.hF .bool x2),some (.hF .bool x3),some (rj x4 x5 x6 x7 x8 x9 aj ak av ai ao aq ax ay aC aO aH aE aI aF az aG aU),some (.box 0 [.whole 0,.whole 1]),some (sN bb aQ aZ bp bn bx bq bL)]⟩
theorem ZK:qQ N n1 (n2+1) bz bP bA bw bZ cb cd bW cU cK cZ cX eM eV ec ei fD fF fG dH dE dI dW dX dO dC eb gB gC gU gV gW gX gY gw gl ea=
  bif(decide (bw<bA)) then
  bif(decide (bw>=(dE.length:Int))) then
  qQ N n1 n2 bz bP bA (W (bw+1)) bZ cb cd bW cU cK cZ cX eM eV ec ei fD fF fG dH dE dI dW dX dO dC eb gB gC gU gV gW gX gY gw gl ea
  else
  bif ae bw cb.length then
  bif cb.getD bw.toNat false then
  qQ N n1 n2 bz bP bA (W (bw+1)) bZ cb cd bW cU cK cZ cX eM eV ec ei fD fF fG dH dE dI dW dX dO dC eb gB gC gU gV gW gX gY gw gl ea
  else
  bif ae bw dE.length then
  let JJ:=dE.getD bw.toNat bM
  bif ae bw bZ.length then
  let JK:=bZ.set bw.toNat JJ.2.2.2.1
  bif JJ.2.2.2.1 then
  bif(JJ.2.2.1 !=1) then
  (rz N ((((cd,bW),(cU,cK)),(cZ,(cX,(eM,eV)))),(ec,((ei,fD),(fF,(fG,(dH,((dE,(dI,dW)),((dX,(dO,(dC,(eb,gB)))),gC)))))))) bw 1 ec).bind fun iA=>
  qQ N n1 n2 bz true bA (W (bw+1)) JK cb iA.1.1.1.1.1 iA.1.1.1.1.2 iA.1.1.1.2.1 iA.1.1.1.2.2 iA.1.1.2.1 iA.1.1.2.2.1 iA.1.1.2.2.2.1 iA.1.1.2.2.2.2 iA.1.2.1 iA.1.2.2.1.1 iA.1.2.2.1.2 iA.1.2.2.2.1 iA.1.2.2.2.2.1 iA.1.2.2.2.2.2.1 iA.1.2.2.2.2.2.2.1.1 iA.1.2.2.2.2.2.2.1.2.1 iA.1.2.2.2.2.2.2.1.2.2 iA.1.2.2.2.2.2.2.2.1.1 iA.1.2.2.2.2.2.2.2.1.2.1 iA.1.2.2.2.2.2.2.2.1.2.2.1 iA.1.2.2.2.2.2.2.2.1.2.2.2.1 iA.1.2.2.2.2.2.2.2.1.2.2.2.2 iA.1.2.2.2.2.2.2.2.2 gU gV gW gX gY gw gl ea
  else
  qQ N n1 n2 bz bP bA (W (bw+1)) JK cb cd bW cU cK cZ cX eM eV ec ei fD fF fG dH dE dI dW dX dO dC eb gB gC gU gV gW gX gY gw gl ea
  else
  bif(JJ.2.2.1 !=(-1)) then
  (rz N ((((cd,bW),(cU,cK)),(cZ,(cX,(eM,eV)))),(ec,((ei,fD),(fF,(fG,(dH,((dE,(dI,dW)),((dX,(dO,(dC,(eb,gB)))),gC)))))))) bw (-1) ec).bind fun iB=>
  qQ N n1 n2 bz true bA (W (bw+1)) JK cb iB.1.1.1.1.1 iB.1.1.1.1.2 iB.1.1.1.2.1 iB.1.1.1.2.2 iB.1.1.2.1 iB.1.1.2.2.1 iB.1.1.2.2.2.1 iB.1.1.2.2.2.2 iB.1.2.1 iB.1.2.2.1.1 iB.1.2.2.1.2 iB.1.2.2.2.1 iB.1.2.2.2.2.1 iB.1.2.2.2.2.2.1 iB.1.2.2.2.2.2.2.1.1 iB.1.2.2.2.2.2.2.1.2.1 iB.1.2.2.2.2.2.2.1.2.2 iB.1.2.2.2.2.2.2.2.1.1 iB.1.2.2.2.2.2.2.2.1.2.1 iB.1.2.2.2.2.2.2.2.1.2.2.1 iB.1.2.2.2.2.2.2.2.1.2.2.2.1 iB.1.2.2.2.2.2.2.2.1.2.2.2.2 iB.1.2.2.2.2.2.2.2.2 gU gV gW gX gY gw gl ea
  else
  qQ N n1 n2 bz bP bA (W (bw+1)) JK cb cd bW cU cK cZ cX eM eV ec ei fD fF fG dH dE dI dW dX dO dC eb gB gC gU gV gW gX gY gw gl ea
  else none
  else none
  else none
  else
  bif(!bP) then
  some (((((cd,bW),(cU,cK)),(cZ,(cX,(eM,eV)))),(ec,((ei,fD),(fF,(fG,(dH,((dE,(dI,dW)),((dX,(dO,(dC,(eb,gB)))),gC)))))))),(bZ,cb))
  else
  BW N n1 (W (bz+1)) bZ cb cd bW cU cK cZ cX eM eV ec ei fD fF fG dH dE dI dW dX dO dC eb gB gC gU gV gW gX gY gw gl ea:=by kernel_rfl
theorem amq:BW N (n1+1) x1 x2 x3 x4 x5 x6 x7 x8 x9 aj ak av ai ao aq ax ay aC aO aH aE aI aF az aG aU bb aQ aZ bp bn bx bq bL=
  bif(decide (x1<(W ((W (2*(x2.length:Int)))+2)))) then
  qQ N n1 N x1 false (x2.length:Int) 0 x2 x3 x4 x5 x6 x7 x8 x9 aj ak av ai ao aq ax ay aC aO aH aE aI aF az aG aU bb aQ aZ bp bn bx bq bL
  else
  some (((((x4,x5),(x6,x7)),(x8,(x9,(aj,ak)))),(av,((ai,ao),(aq,(ax,(ay,((aC,(aO,aH)),((aE,(aI,(aF,(az,aG)))),aU)))))))),(x2,x3)):=by kernel_rfl
end
def om(N:Nat)(a0:aT)(a1:qz):Option (aT×qz):=
  BW N N 0 a1.1 a1.2 a0.1.1.1.1 a0.1.1.1.2 a0.1.1.2.1 a0.1.1.2.2 a0.1.2.1 a0.1.2.2.1 a0.1.2.2.2.1 a0.1.2.2.2.2 a0.2.1 a0.2.2.1.1 a0.2.2.1.2 a0.2.2.2.1 a0.2.2.2.2.1 a0.2.2.2.2.2.1 a0.2.2.2.2.2.2.1.1 a0.2.2.2.2.2.2.1.2.1 a0.2.2.2.2.2.2.1.2.2 a0.2.2.2.2.2.2.2.1.1 a0.2.2.2.2.2.2.2.1.2.1 a0.2.2.2.2.2.2.2.1.2.2.1 a0.2.2.2.2.2.2.2.1.2.2.2.1 a0.2.2.2.2.2.2.2.1.2.2.2.2 a0.2.2.2.2.2.2.2.2 0 0 0 0 0 0 0 0
theorem ahr(N:Nat):BK Tryz.prog 16 [iI] (.p (.a .bool) (.a .bool)) [] [iI] (fun x y z=>om N x y):=V4 (N:=N) (fq KX Tryz.func16) (Er N).ok
def Nc(N:Nat):CE:=(Er N).a (UA (ahr N))
def W9:FD:=fd 69 nf [(.t 6)] Tryz.f17 [(58,{ns:=[.wk 11 (.list aV),.af [2,3,7,8,11,12,13],.cmp]})]
def ad5:Exit->SI->Option Bool:=fin [(.t 6)] [.bool]
section
variable (N n1:Nat) (x1 x2 x3:Int) (x4:List aP) (x5 x6:Int) (x7:List bj) (x8:List aR) (x9:List bC) (aj:List bu) (ak:List bJ) (av:List cB) (ai:List cC) (ao:List cW)
def te:Option Bool:=lp (Nc N).l N 0 W9.tc 43 [] ad5 n1 ⟨[(2,.i x1),(3,.ptr 0 0 0),(7,.i x2),(8,.i x3),(11,.l aV x4),(12,.i x5),(13,.i x6)],[some (fU x7 x8 x9 aj ak av ai ao)]⟩
theorem afj:te N (n1+1) x1 x2 x3 x4 x5 x6 x7 x8 x9 aj ak av ai ao=
  bif(decide (x6<x5)) then
  bif ae x6 x4.length then
  let so:=x4.getD x6.toNat dN
  bif(so.2.2.1 !=x1) then
  te N n1 x1 x2 x3 x4 x5 (W (x6+1)) x7 x8 x9 aj ak av ai ao
  else
  bif(so.2.1==1) then
  te N n1 x1 (-1) (-1) x4 x5 (W (x6+1)) x7 x8 x9 aj ak av ai ao
  else
  bif(so.2.1==4) then
  te N n1 x1 so.2.2.2 (-1) x4 x5 (W (x6+1)) x7 x8 x9 aj ak av ai ao
  else
  bif(so.2.1==5) then
  te N n1 x1 x2 so.2.2.2 x4 x5 (W (x6+1)) x7 x8 x9 aj ak av ai ao
  else
  te N n1 x1 x2 x3 x4 x5 (W (x6+1)) x7 x8 x9 aj ak av ai ao
  else none
  else
  bif(decide (x2>=0)) then
  bif(decide (x2<(ao.length:Int))) then
  bif(decide (x3>=0)) then
  bif(decide (x3<(ao.length:Int))) then
  bif ae x2 ao.length then
  bif ae x3 ao.length then
  some ((ao.getD x2.toNat oZ).1 !=(ao.getD x3.toNat oZ).1)
  else none
  else none
  else
  some false
  else
  some false
  else
  some false
  else
  some false:=by kernel_rfl
end
def Hv(N:Nat)(a0:bX)(a1:List aP)(a2:Int):Option Bool:=
  te N N a2 (-1) (-1) a1 (a1.length:Int) 0 a0.1.1.1 a0.1.1.2 a0.1.2.1 a0.1.2.2 a0.2.1 a0.2.2.1 a0.2.2.2.1 a0.2.2.2.2
theorem aos(N:Nat):bk Tryz.prog 17 [fx,(.list aV),GI] [.bool] (fun x=>Hv N x.1 x.2.1 x.2.2):=bG (N:=N) (fq W9 Tryz.func17) (Nc N).ok
def Nu(N:Nat):CE:=(Nc N).a (bD (aos N))
def Xh:FD:=fd 81 nf [(.t 0)] Tryz.f18 [(250,{ns:=[.af [3,5],.cmp]})]
def ast:Exit->SI->Option Bool:=fin [(.t 0)] [.bool]
section
variable (N n1:Nat) (x4:Int) (x5:List bj) (x6:List aR) (x7:List bC) (x8:List bu) (x9:List bJ) (aj:List cB) (ak:List cC) (av:List cW) (ai:Int) (ao:List Int) (aq:Int) (ax:List aP) (ay aC:List bt) (aO:List bV) (aH:List Int) (aE aI aF az aG aU:Int) (bb:List aP)
def DF:Option Bool:=lp (Nu N).l N 0 Xh.tc 175 [] ast n1 ⟨[(3,.ptr 0 0 0),(5,.i x4)],[some (rj x5 x6 x7 x8 x9 aj ak av ai ao aq ax ay aC aO aH aE aI aF az aG aU bb)]⟩
theorem XL:DF N (n1+1) x4 x5 x6 x7 x8 x9 aj ak av ai ao aq ax ay aC aO aH aE aI aF az aG aU bb=
  bif(decide (x4<60)) then
  (s8 N 0 9).bind fun jl=>
  (iF N ((((x5,x6),(x7,x8)),(x9,(aj,(ak,av)))),(ai,((ao,aq),(ax,(ay,(aC,((aO,(aH,aE)),((aI,(aF,(az,(aG,aU)))),bb)))))))) jl x4).bind fun eZ=>
  DF N n1 (W (x4+6)) eZ.1.1.1.1.1 eZ.1.1.1.1.2 eZ.1.1.1.2.1 eZ.1.1.1.2.2 eZ.1.1.2.1 eZ.1.1.2.2.1 eZ.1.1.2.2.2.1 eZ.1.1.2.2.2.2 eZ.1.2.1 eZ.1.2.2.1.1 eZ.1.2.2.1.2 eZ.1.2.2.2.1 eZ.1.2.2.2.2.1 eZ.1.2.2.2.2.2.1 eZ.1.2.2.2.2.2.2.1.1 eZ.1.2.2.2.2.2.2.1.2.1 eZ.1.2.2.2.2.2.2.1.2.2 eZ.1.2.2.2.2.2.2.2.1.1 eZ.1.2.2.2.2.2.2.2.1.2.1 eZ.1.2.2.2.2.2.2.2.1.2.2.1 eZ.1.2.2.2.2.2.2.2.1.2.2.2.1 eZ.1.2.2.2.2.2.2.2.1.2.2.2.2 eZ.1.2.2.2.2.2.2.2.2
  else
  (rz N ((((x5,x6),(x7,x8)),(x9,(aj,(ak,av)))),(ai,((ao,aq),(ax,(ay,(aC,((aO,(aH,aE)),((aI,(aF,(az,(aG,aU)))),bb)))))))) 0 (-1) 60).bind fun Pt=>
  (tK N Pt.1 0 0 61).bind fun r55=>
  (s9 N r55.1 1 62).bind fun r56=>
  (tF N r56.1 63).bind fun vR=>
  bif(vR.2==0) then
  bif((vR.1.2.2.2.2.2.1.length:Int)==1) then
  bif ae 0 vR.1.2.2.2.2.2.1.length then
  bif(!(vR.1.2.2.2.2.2.1.getD (0:Int).toNat cG).1) then
  bif((vR.1.2.2.2.2.2.2.1.1.length:Int)==1) then
  bif ae 0 vR.1.2.2.2.2.2.2.1.1.length then
  some (vR.1.2.2.2.2.2.2.1.1.getD (0:Int).toNat bM).2.2.2.1
  else none
  else
  some false
  else
  some false
  else none
  else
  some false
  else
  some false:=by kernel_rfl
end
def BA(N:Nat):Option Bool:=
  (uZ N []).bind fun r1=>
  (vi N r1.1).bind fun r2=>
  (uh N r2.1.1 r2.1.2).bind fun r3=>
  bif(r3.2 !=0) then
  some false
  else
  DF N N 1 r3.1.1.1.1.1 r3.1.1.1.1.2 r3.1.1.1.2.1 r3.1.1.1.2.2 r3.1.1.2.1 r3.1.1.2.2.1 r3.1.1.2.2.2.1 r3.1.1.2.2.2.2 r3.1.2.1 r3.1.2.2.1.1 r3.1.2.2.1.2 r3.1.2.2.2.1 r3.1.2.2.2.2.1 r3.1.2.2.2.2.2.1 r3.1.2.2.2.2.2.2.1.1 r3.1.2.2.2.2.2.2.1.2.1 r3.1.2.2.2.2.2.2.1.2.2 r3.1.2.2.2.2.2.2.2.1.1 r3.1.2.2.2.2.2.2.2.1.2.1 r3.1.2.2.2.2.2.2.2.1.2.2.1 r3.1.2.2.2.2.2.2.2.1.2.2.2.1 r3.1.2.2.2.2.2.2.2.1.2.2.2.2 r3.1.2.2.2.2.2.2.2.2
theorem Zw(N:Nat):bk Tryz.prog 18 [] [.bool] (fun x=>BA N):=bG (N:=N) (fq Xh Tryz.func18) (Nu N).ok
def BP(N:Nat):CE:=(Nu N).a (bD (Zw N))
def zK:FD:=fd 160 nf [(.t 2)] Tryz.f3 [(31,{w:=[(true,[.af [3,4,5],.cmp])]}),(254,{w:=[(false,[.wait,.wait,.wait])],an:=[(3,⟨.bool,some 4,[]⟩),(7,⟨.bool,some 5,[]⟩),(9,⟨.unit,some 6,[]⟩)]}),(4090,{ns:=[.af [3,4,5,6,8,9,10],.cmp]}),(8186,{ns:=[.wk 125 (.list aV),.af [4,5,6,125,
  126,127],.cmp]}),(4191438,{ns:=[.wk 125 (.list aV),.wk 136 LI,.af [4,5,6,11,12,125,126,127,136,137,138],.cmp]})]
def Hz:Exit->SI->Option Bool:=fin [(.t 2)] [.bool]
section
variable (N JM n1 n2 n3:Nat) (x6:List Int) (x7:Int) (x8:List bj) (x9:List aR) (aj:List bC) (ak:List bu) (av:List bJ) (ai:List cB) (ao:List cC) (aq:List cW) (ax:List bV) (ay:List Int) (aC aF az:Int) (aG:List Int) (aU:Int) (bb:List bj) (aQ:List aR) (aZ:List bC) (bp:List bu) (bn:List bJ) (bx:List cB) (bq:List cC) (bL:List cW) (bN:List bV) (bz:List Int) (bP:Int) (bA:List bj) (bw:List aR) (bZ:List bC) (cb:List bu) (cd:List bJ) (bW:List cB) (cU:List cC) (cK:List cW) (cZ:Int) (cX:List Int) (eM:Int) (eV:List aP) (ec ei:List bt) (fD:List bV) (fF:List Int) (fG dH dE dI dW dX:Int) (dO:List aP) (dC eb:List Bool) (oM:List aP) (qp mF:Int) (sj:List bj) (qq:List aR) (sk:List bC) (JL:List bu) (JN:List bJ) (JO:List cB) (JP:List cC) (JQ:List cW) (JR:List bV) (yO:List Int) (JS:Int) (JT:List bj) (JU:List aR) (JV:List bC) (JW:List bu) (JX:List bJ) (JY:List cB) (JZ:List cC) (Ka:List cW) (Kb:Int) (Ke:List Int) (Kf:Int) (Kg:List aP) (Kh Ki:List bt) (Kj:List bV) (Kk:List Int) (Kl Km Kn Ko Kq Kr:Int) (Ks:List aP) (yP:Int) (CO:List aP) (CP CQ:Int) (yQ:List Int) (CS uc:Int) (yR:List bj) (yS:List aR) (yT:List bC) (yU:List bu) (yV:List bJ) (yW:List cB) (yX:List cC) (yY:List cW) (CT:List bV) (CU:List Int) (CV:Int) (CW:List bj) (CX:List aR) (CY:List bC) (CZ:List bu) (Da:List bJ) (Db:List cB) (Dc:List cC) (Dd:List cW) (De:Int) (Df:List Int) (Dg:Int) (Dh:List aP) (Di Dj:List bt) (Dk:List bV) (Dl:List Int) (Dm Dn Dp Dq Dr Dt:Int) (vS:List aP) (yZ Kt Du Ku:Int)
def A9:Option Bool:=lp (BP N).l N 0 zK.tc 6081519 [n2] Hz n3 ⟨[(4,.ptr 0 0 0),(5,.ptr 1 0 0),(6,.ptr 2 0 0),(11,.i yP),(12,.ptr 3 0 0),(125,.l aV CO),(126,.i CP),(127,.i CQ),(136,.l GI yQ),(137,.i CS),(138,.i uc)],[some (fU yR yS yT yU yV yW yX yY),some (lQ CT CU CV),some (rj CW CX CY CZ Da Db Dc Dd De Df Dg Dh Di Dj Dk Dl Dm Dn Dp Dq Dr Dt vS),some (.box 0 [.i yZ,.i Kt,.i Du,.i Ku])]⟩
def uQ:Option Bool:=lp (BP N).l N 0 zK.tc 11247 [] Hz n2 ⟨[(4,.ptr 0 0 0),(5,.ptr 1 0 0),(6,.ptr 2 0 0),(125,.l aV oM),(126,.i qp),(127,.i mF)],[some (fU sj qq sk JL JN JO JP JQ),some (lQ JR yO JS),some (rj JT JU JV JW JX JY JZ Ka Kb Ke Kf Kg Kh Ki Kj Kk Kl Km Kn Ko Kq Kr Ks)]⟩
def oV:Option Bool:=lp (BP N).l N 0 zK.tc 5615 [] Hz n1 ⟨[(3,.ptr 0 0 0),(4,.ptr 1 0 0),(5,.ptr 2 0 0),(6,.ptr 3 0 0),(8,.ptr 4 0 0),(9,.i aF),(10,.i az)],[some (ew aG aU),some (fU bb aQ aZ bp bn bx bq bL),some (lQ bN bz bP),some (rj bA bw bZ cb cd bW cU cK cZ cX eM eV ec ei fD fF fG dH dE dI dW dX dO),some (.box 1 [.whole 5,.whole 6]),some (.arr .bool dC),some (.arr .bool eb)]⟩
def GD:Option Bool:=jn (BP N).l N 0 zK.tc 31 [] Hz JM ⟨[(3,.ptr 0 0 0),(4,.ptr 1 0 0),(5,.ptr 2 0 0)],[some (ew x6 x7),some (fU x8 x9 aj ak av ai ao aq),some (lQ ax ay aC)]⟩
theorem asu:A9 N n2 (n3+1) yP CO CP CQ yQ CS uc yR yS yT yU yV yW yX yY CT CU CV CW CX CY CZ Da Db Dc Dd De Df Dg Dh Di Dj Dk Dl Dm Dn Dp Dq Dr Dt vS yZ Kt Du Ku=
  bif(decide (uc<CS)) then
  bif ae uc yQ.length then
  bif((yQ.getD uc.toNat 0)==Du) then
  bif gz 0 yP vS.length then
  (Hv N (((yR,yS),(yT,yU)),(yV,(yW,(yX,yY)))) (vS.take yP.toNat) uc).bind fun r448=>
  bif(!r448) then
  some false
  else
  A9 N n2 n3 yP CO CP CQ yQ CS (W (uc+1)) yR yS yT yU yV yW yX yY CT CU CV CW CX CY CZ Da Db Dc Dd De Df Dg Dh Di Dj Dk Dl Dm Dn Dp Dq Dr Dt vS yZ Kt Du Ku
  else none
  else
  A9 N n2 n3 yP CO CP CQ yQ CS (W (uc+1)) yR yS yT yU yV yW yX yY CT CU CV CW CX CY CZ Da Db Dc Dd De Df Dg Dh Di Dj Dk Dl Dm Dn Dp Dq Dr Dt vS yZ Kt Du Ku
  else none
  else
  uQ N n2 CO CP (W (CQ+1)) yR yS yT yU yV yW yX yY CT CU CV CW CX CY CZ Da Db Dc Dd De Df Dg Dh Di Dj Dk Dl Dm Dn Dp Dq Dr Dt vS:=by kernel_rfl
theorem aji:uQ N (n2+1) oM qp mF sj qq sk JL JN JO JP JQ JR yO JS JT JU JV JW JX JY JZ Ka Kb Ke Kf Kg Kh Ki Kj Kk Kl Km Kn Ko Kq Kr Ks=
  bif(decide (mF<qp)) then
  bif ae mF oM.length then
  let Dv:=oM.getD mF.toNat dN
  bif(Dv.2.1 !=6) then
  uQ N n2 oM qp (W (mF+1)) sj qq sk JL JN JO JP JQ JR yO JS JT JU JV JW JX JY JZ Ka Kb Ke Kf Kg Kh Ki Kj Kk Kl Km Kn Ko Kq Kr Ks
  else
  A9 N n2 N mF oM qp mF yO (yO.length:Int) 0 sj qq sk JL JN JO JP JQ JR yO JS JT JU JV JW JX JY JZ Ka Kb Ke Kf Kg Kh Ki Kj Kk Kl Km Kn Ko Kq Kr Ks Dv.1 Dv.2.1 Dv.2.2.1 Dv.2.2.2
  else none
  else
  (BA N).bind fun r621=>
  some r621:=by kernel_rfl
theorem ac7:oV N (n1+1) aF az aG aU bb aQ aZ bp bn bx bq bL bN bz bP bA bw bZ cb cd bW cU cK cZ cX eM eV ec ei fD fF fG dH dE dI dW dX dO dC eb=
  bif(decide (az>0)) then
  (cE N (aG,aU) 16).bind fun jS=>
  (cE N jS.2 7).bind fun nM=>
  bif(nM.1==0) then
  (cE N nM.2 40).bind fun Pu=>
  (s8 N 0 Pu.1).bind fun r66=>
  (iF N ((((bA,bw),(bZ,cb)),(cd,(bW,(cU,cK)))),(cZ,((cX,eM),(eV,(ec,(ei,((fD,(fF,fG)),((dH,(dE,(dI,(dW,dX)))),dO)))))))) r66 (W (aF+jS.1))).bind fun r67=>
  (jr (.p (.a .bool) (.a .bool)) (dC,eb) (om N r67.1 (dC,eb))).bind fun fZ=>
  oV N n1 (W (aF+jS.1)) (W (az-1)) Pu.2.1 Pu.2.2 bb aQ aZ bp bn bx bq bL bN bz bP fZ.1.1.1.1.1 fZ.1.1.1.1.2 fZ.1.1.1.2.1 fZ.1.1.1.2.2 fZ.1.1.2.1 fZ.1.1.2.2.1 fZ.1.1.2.2.2.1 fZ.1.1.2.2.2.2 fZ.1.2.1 fZ.1.2.2.1.1 fZ.1.2.2.1.2 fZ.1.2.2.2.1 fZ.1.2.2.2.2.1 fZ.1.2.2.2.2.2.1 fZ.1.2.2.2.2.2.2.1.1 fZ.1.2.2.2.2.2.2.1.2.1 fZ.1.2.2.2.2.2.2.1.2.2 fZ.1.2.2.2.2.2.2.2.1.1 fZ.1.2.2.2.2.2.2.2.1.2.1 fZ.1.2.2.2.2.2.2.2.1.2.2.1 fZ.1.2.2.2.2.2.2.2.1.2.2.2.1 fZ.1.2.2.2.2.2.2.2.1.2.2.2.2 fZ.1.2.2.2.2.2.2.2.2 fZ.2.1 fZ.2.2
  else
  bif(nM.1==1) then
  (cE N nM.2 40).bind fun Pw=>
  (s8 N 0 Pw.1).bind fun r110=>
  (iF N ((((bA,bw),(bZ,cb)),(cd,(bW,(cU,cK)))),(cZ,((cX,eM),(eV,(ec,(ei,((fD,(fF,fG)),((dH,(dE,(dI,(dW,dX)))),dO)))))))) r110 (W (aF+jS.1))).bind fun r111=>
  (jr (.p (.a .bool) (.a .bool)) (dC,eb) (om N r111.1 (dC,eb))).bind fun gE=>
  oV N n1 (W (aF+jS.1)) (W (az-1)) Pw.2.1 Pw.2.2 bb aQ aZ bp bn bx bq bL bN bz bP gE.1.1.1.1.1 gE.1.1.1.1.2 gE.1.1.1.2.1 gE.1.1.1.2.2 gE.1.1.2.1 gE.1.1.2.2.1 gE.1.1.2.2.2.1 gE.1.1.2.2.2.2 gE.1.2.1 gE.1.2.2.1.1 gE.1.2.2.1.2 gE.1.2.2.2.1 gE.1.2.2.2.2.1 gE.1.2.2.2.2.2.1 gE.1.2.2.2.2.2.2.1.1 gE.1.2.2.2.2.2.2.1.2.1 gE.1.2.2.2.2.2.2.1.2.2 gE.1.2.2.2.2.2.2.2.1.1 gE.1.2.2.2.2.2.2.2.1.2.1 gE.1.2.2.2.2.2.2.2.1.2.2.1 gE.1.2.2.2.2.2.2.2.1.2.2.2.1 gE.1.2.2.2.2.2.2.2.1.2.2.2.2 gE.1.2.2.2.2.2.2.2.2 gE.2.1 gE.2.2
  else
  bif(nM.1==2) then
  (cE N nM.2 3).bind fun r153=>
  (cE N r153.2 200).bind fun vQ=>
  (s8 N r153.1 vQ.1).bind fun r155=>
  (iF N ((((bA,bw),(bZ,cb)),(cd,(bW,(cU,cK)))),(cZ,((cX,eM),(eV,(ec,(ei,((fD,(fF,fG)),((dH,(dE,(dI,(dW,dX)))),dO)))))))) r155 (W (aF+jS.1))).bind fun r156=>
  (jr (.p (.a .bool) (.a .bool)) (dC,eb) (om N r156.1 (dC,eb))).bind fun gF=>
  oV N n1 (W (aF+jS.1)) (W (az-1)) vQ.2.1 vQ.2.2 bb aQ aZ bp bn bx bq bL bN bz bP gF.1.1.1.1.1 gF.1.1.1.1.2 gF.1.1.1.2.1 gF.1.1.1.2.2 gF.1.1.2.1 gF.1.1.2.2.1 gF.1.1.2.2.2.1 gF.1.1.2.2.2.2 gF.1.2.1 gF.1.2.2.1.1 gF.1.2.2.1.2 gF.1.2.2.2.1 gF.1.2.2.2.2.1 gF.1.2.2.2.2.2.1 gF.1.2.2.2.2.2.2.1.1 gF.1.2.2.2.2.2.2.1.2.1 gF.1.2.2.2.2.2.2.1.2.2 gF.1.2.2.2.2.2.2.2.1.1 gF.1.2.2.2.2.2.2.2.1.2.1 gF.1.2.2.2.2.2.2.2.1.2.2.1 gF.1.2.2.2.2.2.2.2.1.2.2.2.1 gF.1.2.2.2.2.2.2.2.1.2.2.2.2 gF.1.2.2.2.2.2.2.2.2 gF.2.1 gF.2.2
  else
  bif(nM.1==3) then
  (cE N nM.2 4).bind fun r198=>
  (cE N r198.2 (bq.length:Int)).bind fun Px=>
  (tK N ((((bA,bw),(bZ,cb)),(cd,(bW,(cU,cK)))),(cZ,((cX,eM),(eV,(ec,(ei,((fD,(fF,fG)),((dH,(dE,(dI,(dW,dX)))),dO)))))))) r198.1 Px.1 (W (aF+jS.1))).bind fun r200=>
  (jr (.p (.a .bool) (.a .bool)) (dC,eb) (om N r200.1 (dC,eb))).bind fun gG=>
  oV N n1 (W (aF+jS.1)) (W (az-1)) Px.2.1 Px.2.2 bb aQ aZ bp bn bx bq bL bN bz bP gG.1.1.1.1.1 gG.1.1.1.1.2 gG.1.1.1.2.1 gG.1.1.1.2.2 gG.1.1.2.1 gG.1.1.2.2.1 gG.1.1.2.2.2.1 gG.1.1.2.2.2.2 gG.1.2.1 gG.1.2.2.1.1 gG.1.2.2.1.2 gG.1.2.2.2.1 gG.1.2.2.2.2.1 gG.1.2.2.2.2.2.1 gG.1.2.2.2.2.2.2.1.1 gG.1.2.2.2.2.2.2.1.2.1 gG.1.2.2.2.2.2.2.1.2.2 gG.1.2.2.2.2.2.2.2.1.1 gG.1.2.2.2.2.2.2.2.1.2.1 gG.1.2.2.2.2.2.2.2.1.2.2.1 gG.1.2.2.2.2.2.2.2.1.2.2.2.1 gG.1.2.2.2.2.2.2.2.1.2.2.2.2 gG.1.2.2.2.2.2.2.2.2 gG.2.1 gG.2.2
  else
  bif(nM.1==4) then
  (cE N nM.2 4).bind fun Py=>
  (s9 N ((((bA,bw),(bZ,cb)),(cd,(bW,(cU,cK)))),(cZ,((cX,eM),(eV,(ec,(ei,((fD,(fF,fG)),((dH,(dE,(dI,(dW,dX)))),dO)))))))) Py.1 (W (aF+jS.1))).bind fun r243=>
  (jr (.p (.a .bool) (.a .bool)) (dC,eb) (om N r243.1 (dC,eb))).bind fun gH=>
  oV N n1 (W (aF+jS.1)) (W (az-1)) Py.2.1 Py.2.2 bb aQ aZ bp bn bx bq bL bN bz bP gH.1.1.1.1.1 gH.1.1.1.1.2 gH.1.1.1.2.1 gH.1.1.1.2.2 gH.1.1.2.1 gH.1.1.2.2.1 gH.1.1.2.2.2.1 gH.1.1.2.2.2.2 gH.1.2.1 gH.1.2.2.1.1 gH.1.2.2.1.2 gH.1.2.2.2.1 gH.1.2.2.2.2.1 gH.1.2.2.2.2.2.1 gH.1.2.2.2.2.2.2.1.1 gH.1.2.2.2.2.2.2.1.2.1 gH.1.2.2.2.2.2.2.1.2.2 gH.1.2.2.2.2.2.2.2.1.1 gH.1.2.2.2.2.2.2.2.1.2.1 gH.1.2.2.2.2.2.2.2.1.2.2.1 gH.1.2.2.2.2.2.2.2.1.2.2.2.1 gH.1.2.2.2.2.2.2.2.1.2.2.2.2 gH.1.2.2.2.2.2.2.2.2 gH.2.1 gH.2.2
  else
  (tF N ((((bA,bw),(bZ,cb)),(cd,(bW,(cU,cK)))),(cZ,((cX,eM),(eV,(ec,(ei,((fD,(fF,fG)),((dH,(dE,(dI,(dW,dX)))),dO)))))))) (W (aF+jS.1))).bind fun r285=>
  (jr (.p (.a .bool) (.a .bool)) (dC,eb) (om N r285.1 (dC,eb))).bind fun gI=>
  oV N n1 (W (aF+jS.1)) (W (az-1)) nM.2.1 nM.2.2 bb aQ aZ bp bn bx bq bL bN bz bP gI.1.1.1.1.1 gI.1.1.1.1.2 gI.1.1.1.2.1 gI.1.1.1.2.2 gI.1.1.2.1 gI.1.1.2.2.1 gI.1.1.2.2.2.1 gI.1.1.2.2.2.2 gI.1.2.1 gI.1.2.2.1.1 gI.1.2.2.1.2 gI.1.2.2.2.1 gI.1.2.2.2.2.1 gI.1.2.2.2.2.2.1 gI.1.2.2.2.2.2.2.1.1 gI.1.2.2.2.2.2.2.1.2.1 gI.1.2.2.2.2.2.2.1.2.2 gI.1.2.2.2.2.2.2.2.1.1 gI.1.2.2.2.2.2.2.2.1.2.1 gI.1.2.2.2.2.2.2.2.1.2.2.1 gI.1.2.2.2.2.2.2.2.1.2.2.2.1 gI.1.2.2.2.2.2.2.2.1.2.2.2.2 gI.1.2.2.2.2.2.2.2.2 gI.2.1 gI.2.2
  else
  uQ N N dO (dO.length:Int) 0 bb aQ aZ bp bn bx bq bL bN bz bP bA bw bZ cb cd bW cU cK cZ cX eM eV ec ei fD fF fG dH dE dI dW dX dO:=by kernel_rfl
theorem abj:GD N (JM+1) x6 x7 x8 x9 aj ak av ai ao aq ax ay aC=
  (uh N (((x8,x9),(aj,ak)),(av,(ai,(ao,aq)))) (ax,(ay,aC))).bind fun fR=>
  bif(fR.2 !=0) then
  some false
  else
  bif eH 1 (ax.length:Int) (ax.length:Int) then
  bif eH 1 (ax.length:Int) (ax.length:Int) then
  (cE N (x6,x7) 8).bind fun CJ=>
  oV N N 0 (W (8+CJ.1)) CJ.2.1 CJ.2.2 x8 x9 aj ak av ai ao aq ax ay aC fR.1.1.1.1.1 fR.1.1.1.1.2 fR.1.1.1.2.1 fR.1.1.1.2.2 fR.1.1.2.1 fR.1.1.2.2.1 fR.1.1.2.2.2.1 fR.1.1.2.2.2.2 fR.1.2.1 fR.1.2.2.1.1 fR.1.2.2.1.2 fR.1.2.2.2.1 fR.1.2.2.2.2.1 fR.1.2.2.2.2.2.1 fR.1.2.2.2.2.2.2.1.1 fR.1.2.2.2.2.2.2.1.2.1 fR.1.2.2.2.2.2.2.1.2.2 fR.1.2.2.2.2.2.2.2.1.1 fR.1.2.2.2.2.2.2.2.1.2.1 fR.1.2.2.2.2.2.2.2.1.2.2.1 fR.1.2.2.2.2.2.2.2.1.2.2.2.1 fR.1.2.2.2.2.2.2.2.1.2.2.2.2 fR.1.2.2.2.2.2.2.2.2 (List.replicate (ax.length:Int).toNat false) (List.replicate (ax.length:Int).toNat false)
  else none
  else none:=by kernel_rfl
end
def EE(N:Nat)(a0:List Int):Option Bool:=
  (uZ N a0).bind fun r1=>
  (vi N r1.1).bind fun r2=>
  (jb N r2.2 3).bind fun r3=>
  bif r3.1 then
  (I7 N r3.2).bind fun r4=>
  (Ix N r4.2 (r4.1.1.2.2.2.1.length:Int)).bind fun r5=>
  GD N N r5.2.1 r5.2.2 r4.1.1.1.1.1 r4.1.1.1.1.2 r4.1.1.1.2.1 r4.1.1.1.2.2 r4.1.1.2.1 r4.1.1.2.2.1 r4.1.1.2.2.2.1 r4.1.1.2.2.2.2 r5.1.1 r5.1.2.1 r5.1.2.2
  else
  GD N N r3.2.1 r3.2.2 r2.1.1.1.1.1 r2.1.1.1.1.2 r2.1.1.1.2.1 r2.1.1.1.2.2 r2.1.1.2.1 r2.1.1.2.2.1 r2.1.1.2.2.2.1 r2.1.1.2.2.2.2 r2.1.2.1 r2.1.2.2.1 r2.1.2.2.2
theorem apu(N:Nat):bk Tryz.prog 3 [(.list (.int .u8))] [.bool] (fun x=>EE N x):=bG (N:=N) (fq zK Tryz.func3) (BP N).ok
end
end M
end Go.Proofs.YtgmpjkgogjkfcaaGreat
