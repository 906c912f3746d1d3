/- Plain models of functions of this seat, each checked against the loaded program and the walk by the kernel. No condition: closed facts. Printed by a program of ours. -/
import Derived.Test.YtgmpjkgogjkfcaaGreatH
import Derived.Test.YtgmpjkgogjkfcaaGreatRows
set_option linter.all false
namespace Go.Proofs.YtgmpjkgogjkfcaaGreat
open Go.Pv
namespace M
noncomputable section
abbrev _root_.Go.Pv.TI.s(n:Nat)(o:cR):TI:=⟨⟨some n,o,none⟩,{}⟩
abbrev _root_.Go.Pv.TI.d(o:cR):TI:=⟨⟨none,o,none⟩,{}⟩
abbrev _root_.Go.Pv.TI.m(n k:Nat):TI:=⟨⟨some n,.bS (.t k),none⟩,{}⟩
theorem NC:Tryz.prog.follows .mixedOrders=true:=Tryz.checked.mixed
section
variable {f nt:Nat} {ow:Nat->Bool} {tc:TC} {rs:List RR} {env:List (Nat×eC)} {N:Nat}
theorem bG{ts ret:List GT}{model:aY ts->Option (aY ret)}(hf:ib Tryz.prog f nt ow tc.er rs)(hE:iS Tryz.prog env)(hh:tc.kQ=true:=by kernel_rfl)(hlen:Nat.ble ts.length nt=true:=by rfl)(hrun:∀x,run env N 0 tc ⟨jF (jH ts x) 0,[]⟩ (fin rs ret)=model x:=by intro x;kernel_rfl):bk Tryz.prog f ts ret model:=NO NC hf hE (TC.mA hh) hlen hrun
theorem dM{p q:Nat}{ns:List NS}{pk:List (Option (Nat×Nat))}{ks:List AK}{rk:List RK}{model:aY (AK.bf ks)->Option (aY (RK.bf rk)×aY (cM (outs ks)))}(hf:ib Tryz.prog f nt ow tc.er rs)(hE:iS Tryz.prog env)(hh:tc.kQ=true:=by kernel_rfl)(hlen:Nat.ble pk.length nt=true:=by rfl)(hp:bc (outs ks)=p:=by rfl)(hq:bc (outs ks)+cg (outs ks)=q:=by rfl)(hrun:∀x,run env N p tc ⟨jF (uj pk (tL ks x 0)) 0,iR ks x 0⟩ (fK ns rs ks rk p q)=model x:=by intro x;kernel_rfl):dq Tryz.prog f pk ks rk model:=VW NC hf hE (TC.mA hh) hlen hp hq hrun
theorem V4{ts1:List GT}{p:PT}{ts2 ret:List GT}{model:aY ts1->El p.ty->aY ts2->Option (aY ret×El p.ty)}(hf:ib Tryz.prog f nt ow tc.er rs)(hE:iS Tryz.prog env)(hh:tc.kQ=true:=by kernel_rfl)(hlen:Nat.ble (ts1.length+1+ts2.length) nt=true:=by rfl)(hrun:∀x y z,run env N p.n tc ⟨jF (jH ts1 x++.agg (oI p y 0)::jH ts2 z) 0,xH p y⟩ (AH p rs ret)=model x y z:=by intro x y z;kernel_rfl):BK Tryz.prog f ts1 p ts2 ret model:=ae8 NC hf hE (TC.mA hh) hlen hrun
end
theorem mixed:Tryz.prog.follows .mixedOrders=true:=Tryz.checked.mixed
abbrev GI:GT:=.int .i64
abbrev LI:GT:=.list GI
abbrev nf:Nat->Bool:=fun _=>false
abbrev _root_.Go.Pv.IV.i(n:Int):IV:=.int .i64 n
abbrev _root_.Go.Pv.IV.l(t:GT)(a:List (El t)):IV:=.ab false t a
structure FD where
 nt:Nat
 ow:Nat->Bool
 rs:List RR
 tc:TC
noncomputable abbrev fd(nt:Nat)(ow:Nat->Bool)(rs:List RR)(fn:Func)(l:List (Nat×Nd)):FD:=⟨nt,ow,rs,cod Tryz.prog nt ow fn l⟩
structure CE where
 l:List (Nat×eC)
 ok:iS Tryz.prog l
def CE.a(c:CE){f:FuncId}{e:eC}(h:iY Tryz.prog f e):CE:=⟨(f,e)::c.l,.cons h c.ok⟩
def E0(_:Nat):CE:=⟨[],.nil⟩
theorem fq{f:FuncId}{fn:Func}(D:FD)(hf:Tryz.prog.funcs[f]? =some fn)(h1:(fn.name== "runtime.NumGoroutine")=false:=by kernel_rfl) (h2:fn.body=some (uG fn):=by kernel_rfl) (h3:fn.ntmps=D.nt:=by kernel_rfl) (h4:comp Tryz.prog D.nt D.ow (uG fn)=some D.tc.er:=by kernel_rfl) (h5:mX Tryz.prog fn.results.toList=some D.rs:=by kernel_rfl):ib Tryz.prog f D.nt D.ow D.tc.er D.rs:=ib.mk' hf h1 h2 h3 h4 h5
abbrev azm:GT:=(.pair GI (.pair GI (.pair .bool (.int .u8))))
abbrev ap8:=Int×Int×Bool×Int
abbrev ayw:ap8:=(0,(0,(false,0)))
abbrev azp:GT:=(.pair .str (.int .u64))
abbrev ap5:=(List UInt8)×Int
abbrev azn:ap5:=([],0)
abbrev bU:GT:=(.pair GI .bool)
abbrev bj:=Int×Bool
abbrev rq:bj:=(0,false)
abbrev bm:GT:=(.pair GI GI)
abbrev aJ:=Int×Int
abbrev dZ:aJ:=(0,0)
abbrev bY:GT:=(.pair GI (.pair GI (.pair GI (.pair GI (.pair .bool (.pair .bool (.pair bm (.pair GI GI))))))))
abbrev aR:=Int×Int×Int×Int×Bool×Bool×aJ×Int×Int
abbrev fH:aR:=(0,(0,(0,(0,(false,(false,(dZ,(0,0))))))))
abbrev we:GT:=(.pair (.list bU) (.list bY))
abbrev dm:=(List bj)×List aR
abbrev auz:dm:=([],[])
abbrev cJ:GT:=(.pair GI (.pair .bool (.pair .bool (.list bm))))
abbrev bC:=Int×Bool×Bool×List aJ
abbrev nT:bC:=(0,(false,(false,[])))
abbrev cu:GT:=(.pair GI (.pair GI LI))
abbrev bu:=Int×Int×List Int
abbrev iZ:bu:=(0,(0,[]))
abbrev iE:GT:=(.pair we (.pair (.list cJ) (.list cu)))
abbrev bQ:=dm×(List bC)×List bu
abbrev adf:bQ:=(auz,([],[]))
abbrev M1:GT:=(.pair GI (.pair GI GI))
abbrev xZ:=Int×Int×Int
abbrev azk:xZ:=(0,(0,0))
abbrev aV:GT:=(.pair GI (.pair GI (.pair GI GI)))
abbrev aP:=Int×Int×Int×Int
abbrev dN:aP:=(0,(0,(0,0)))
abbrev js:GT:=(.pair GI (.pair GI (.pair GI (.pair GI GI))))
abbrev eT:=Int×Int×Int×Int×Int
abbrev aga:eT:=(0,(0,(0,(0,0))))
abbrev fQ:GT:=(.pair GI (.pair GI (.pair GI (.pair GI (.pair GI GI)))))
abbrev cB:=Int×Int×Int×Int×Int×Int
abbrev F2:cB:=(0,(0,(0,(0,(0,0)))))
abbrev cY:GT:=(.pair GI (.pair GI (.pair GI (.pair GI (.pair GI (.pair GI (.pair GI GI)))))))
abbrev bJ:=Int×Int×Int×Int×Int×Int×Int×Int
abbrev gJ:bJ:=(0,(0,(0,(0,(0,(0,(0,0)))))))
abbrev fy:GT:=(.pair (.list aV) (.pair GI (.pair LI GI)))
abbrev cC:=(List aP)×Int×(List Int)×Int
abbrev iU:cC:=([],(0,([],0)))
abbrev iJ:GT:=(.pair GI .unit)
abbrev cW:=Int×Unit
abbrev oZ:cW:=(0,())
abbrev fx:GT:=(.pair iE (.pair (.list cY) (.pair (.list fQ) (.pair (.list fy) (.list iJ)))))
abbrev bX:=bQ×(List bJ)×(List cB)×(List cC)×List cW
abbrev av0:bX:=(adf,([],([],([],[]))))
abbrev di:GT:=(.pair GI (.pair GI (.pair GI (.pair .bool .bool))))
abbrev bV:=Int×Int×Int×Bool×Bool
abbrev bM:bV:=(0,(0,(0,(false,false))))
abbrev fh:GT:=(.pair (.list di) (.pair LI GI))
abbrev cz:=(List bV)×(List Int)×Int
abbrev acw:cz:=([],([],0))
abbrev ep:GT:=(.pair LI LI)
abbrev bF:=(List Int)×List Int
abbrev YC:bF:=([],[])
abbrev dk:GT:=(.pair (.list (.int .u8)) GI)
abbrev aB:=(List Int)×Int
abbrev Uj:aB:=([],0)
abbrev aW:GT:=(.pair .bool (.pair GI GI))
abbrev bt:=Bool×Int×Int
abbrev cG:bt:=(false,(0,0))
abbrev iI:GT:=(.pair fx (.pair GI (.pair dk (.pair (.list aV) (.pair (.list aW) (.pair (.list aW) (.pair fh (.pair js (.list aV)))))))))
abbrev aT:=bX×Int×aB×(List aP)×(List bt)×(List bt)×cz×eT×List aP
abbrev azg:aT:=(av0,(0,(Uj,([],([],([],(acw,(aga,[]))))))))
abbrev ayz:GT:=(.pair (.list .bool) (.list .bool))
abbrev qz:=(List Bool)×List Bool
abbrev azl:qz:=([],[])
abbrev ou:GT:=(.pair GI (.pair GI (.list (.int .u8))))
abbrev lT:=Int×Int×List Int
abbrev am5:lT:=(0,(0,[]))
abbrev AR:GT:=(.pair cJ GI)
abbrev pz:=bC×Int
abbrev TK:pz:=(nT,0)
abbrev sJ:GT:=(.pair bY (.pair GI (.list AR)))
abbrev gi:=aR×Int×List pz
abbrev iG:gi:=(fH,(0,[]))
abbrev od:GT:=(.pair (.list sJ) (.list LI))
abbrev dV:=(List gi)×List (List Int)
abbrev azc:dV:=([],[])
abbrev ay1:GT:=(.pair .str .unit)
abbrev awc:=(List UInt8)×Unit
abbrev ay6:awc:=([],())
abbrev azs:=dk
abbrev ayx:=aB
abbrev azr:=Uj
abbrev ay0:=bm
abbrev azi:=aJ
abbrev ayv:=dZ
abbrev ay3:=ep
abbrev ay7:=bF
abbrev ay4:=YC
abbrev azf:=aV
abbrev azh:=aP
abbrev ay2:=dN
abbrev azo:=aW
abbrev azb:=bt
abbrev azq:=cG
abbrev azj:=aV
abbrev ay8:=aP
abbrev aza:=dN
abbrev fU(a0:List (El bU))(a1:List (El bY))(a2:List (El cJ))(a3:List (El cu))(a4:List (El cY))(a5:List (El fQ))(a6:List (El fy))(a7:List (El iJ)):cS:=.box 0 [.l bU a0,.l bY a1,.l cJ a2,.l cu a3,.l cY a4,.l fQ a5,.l fy a6,.l iJ a7]
abbrev rj(a0:List (El bU))(a1:List (El bY))(a2:List (El cJ))(a3:List (El cu))(a4:List (El cY))(a5:List (El fQ))(a6:List (El fy))(a7:List (El iJ))(a8:Int)(a9:List (El (.int .u8)))(a10:Int)(a11:List (El aV))(a12 a13:List (El aW))(a14:List (El di))(a15:List (El GI))(a16 a17 a18 a19 a20 a21:Int)(a22:List (El aV)):cS:=.box 0 [.l bU a0,.l bY a1,.l cJ a2,.l cu a3,.l cY a4,.l fQ a5,.l fy a6,.l iJ a7,.i a8,.l (.int .u8) a9,.i a10,.l aV a11,.l aW a12,.l aW a13,.l di a14,.l GI a15,.i a16,.i a17,.i a18,.i a19,.i a20,.i a21,.l aV a22]
abbrev AL(a0:List (El bU))(a1:List (El bY))(a2:List (El cJ))(a3:List (El cu))(a4:List (El cY))(a5:List (El fQ))(a6:List (El fy))(a7:List (El iJ))(a8:Int)(a9:List (El (.int .u8)))(a10:Int)(a11:List (El aV))(a12:List (El aW))(a13:List (El di))(a14:List (El GI))(a15 a16 a17 a18 a19 a20:Int):cS:=.box 0 [.l bU a0,.l bY a1,.l cJ a2,.l cu a3,.l cY a4,.l fQ a5,.l fy a6,.l iJ a7,.i a8,.l (.int .u8) a9,.i a10,.l aV a11,.l aW a12,.whole 3,.l di a13,.l GI a14,.i a15,.i a16,.i a17,.i a18,.i a19,.i a20,.whole 4]
abbrev ew(a0:List (El (.int .u8)))(a1:Int):cS:=.box 0 [.l (.int .u8) a0,.i a1]
abbrev sN(a0 a1 a2 a3 a4 a5 a6 a7:Int):cS:=.box 0 [.nil,.nil,.nil,.nil,.nil,.nil,.nil,.nil,.i a0,.nil,.i a1,.nil,.nil,.nil,.nil,.nil,.i a2,.i a3,.i a4,.i a5,.i a6,.i a7,.nil]
abbrev dF:cS:=.box 0 [.nil,.nil]
abbrev fi(a0 a1:List (El GI)):cS:=.box 0 [.l GI a0,.l GI a1]
abbrev m8(a0:List (El bU))(a1:List (El bY))(a2:List (El cJ))(a3:List (El cu)):cS:=.box 0 [.l bU a0,.l bY a1,.l cJ a2,.l cu a3]
abbrev Lz(a0:List (El bU))(a1:List (El bY))(a2:List (El cJ))(a3:List (El cu))(a4:List (El cY))(a5:List (El fQ))(a6:List (El fy))(a7:List (El iJ))(a8:Int)(a9:List (El (.int .u8)))(a10:Int)(a11:List (El di))(a12:List (El GI))(a13 a14 a15 a16 a17 a18:Int):cS:=.box 1 [.l bU a0,.l bY a1,.l cJ a2,.l cu a3,.l cY a4,.l fQ a5,.l fy a6,.l iJ a7,.i a8,.l (.int .u8) a9,.i a10,.whole 3,.whole 4,.whole 5,.l di a11,.l GI a12,.i a13,.i a14,.i a15,.i a16,.i a17,.i a18,.whole 6]
abbrev qL:cS:=.box 0 [.nil,.nil,.nil,.nil,.nil,.nil,.nil,.nil]
abbrev lQ(a0:List (El di))(a1:List (El GI))(a2:Int):cS:=.box 0 [.l di a0,.l GI a1,.i a2]
abbrev kV:cS:=.box 0 [.nil,.nil,.nil,.nil]
abbrev lP(a0:List (El sJ))(a1:List (El LI)):cS:=.box 0 [.l sJ a0,.l LI a1]
abbrev jG(a0 a1:Int):cS:=.box 0 [.i a0,.i a1]
abbrev w8:cS:=.box 0 [.whole 6,.whole 7,.whole 8,.whole 9]
abbrev w6:cS:=.box 0 [.whole 7,.whole 8,.nil,.nil]
abbrev xW:cS:=.box 0 [.whole 9,.whole 10]
def ax9:FD:=fd 10 nf [(.t 2)] Tryz.f4 [(7,{w:=[(false,[.af [2],.out []])]})]
def ax6:List NS:=[.af [2],.out []]
def uZ(N:Nat)(a0:List Int):Option (aB×Unit):=
  let v1:=min (a0.length:Int) 300
  bif gz 0 v1 a0.length then
  some (((a0.take v1.toNat),0),())
  else none
theorem akm(N:Nat):dq Tryz.prog 4 [none] [.v (.list (.int .u8))] [.n dk] (fun x=>uZ N x):=dM (N:=N) (p:=0) (q:=0) (ns:=ax6) (fq ax9 Tryz.func4) (E0 N).ok
def E1(N:Nat):CE:=(E0 N).a (cT (akm N))
def XD:FD:=fd 77 nf [(.t 4)] Tryz.f10 [(7,{w:=[(true,[.af [0,1],.cmp])]}),(53,{w:=[(false,[.cO 0,.af [4],.out [0]])]}),(127,{w:=[(false,[.cO 0,.af [4],.out [0]])]})]
def V7:List NS:=[.cO 0,.af [4],.out [0]]
def ZE:Exit->SI->Option (Int×aB):=fK V7 [(.t 4)] [.b (.v dk),.v GI] [.v GI] 1 1
section
variable (N JM:Nat) (x1:Int) (x2:List Int) (x3:Int)
def Q9:Option (Int×aB):=jn (E1 N).l N 1 XD.tc 7 [] ZE JM ⟨[(0,.ptr 0 0 0),(1,.i x1)],[some (ew x2 x3)]⟩
theorem abb:Q9 N (JM+1) x1 x2 x3=
  bif ae (W ((W (x3+1))-1)) x2.length then
  let v4:=x2.getD (W ((W (x3+1))-1)).toNat 0
  bif(decide (x1>256)) then
  bif(decide ((W (x3+1))<(x2.length:Int))) then
  bif ae (W (x3+1)) x2.length then
  bif x1==0 then none else
  some ((W ((W ((W v4)*256))+(W (x2.getD (W (x3+1)).toNat 0)))).tmod x1,(x2,W ((W (x3+1))+1)))
  else none
  else
  bif x1==0 then none else
  some ((W v4).tmod x1,(x2,W (x3+1)))
  else
  bif x1==0 then none else
  some ((W v4).tmod x1,(x2,W (x3+1)))
  else none:=by kernel_rfl
end
def cE(N:Nat)(a0:aB)(a1:Int):Option (Int×aB):=
  bif(decide (a1<1)) then
  some (0,a0)
  else
  bif(decide (a0.2>=(a0.1.length:Int))) then
  some (0,a0)
  else
  Q9 N N a1 a0.1 a0.2
theorem VL(N:Nat):dq Tryz.prog 10 [none,none] [.b (.v dk),.v GI] [.v GI] (fun x=>cE N x.1 x.2):=dM (N:=N) (p:=1) (q:=1) (ns:=V7) (fq XD Tryz.func10) (E1 N).ok
def E2(N:Nat):CE:=(E1 N).a (cT (VL N))
def aw9:FD:=fd 15 nf [(.t 6)] Tryz.f19 [(7,{w:=[(false,[.cO 0,.af [6],.out [0]])]})]
def ao1:List NS:=[.cO 0,.af [6],.out [0]]
def eS(N:Nat)(a0:aB)(a1:Int)(a2:Int):Option (Int×aB):=
  (cE N a0 (W ((W (a2-a1))+1))).bind fun r1=>
  some (W (a1+r1.1),r1.2)
theorem Wj(N:Nat):dq Tryz.prog 19 [none,none,none] [.b (.v dk),.v GI,.v GI] [.v GI] (fun x=>eS N x.1 x.2.1 x.2.2):=dM (N:=N) (p:=1) (q:=1) (ns:=ao1) (fq aw9 Tryz.func19) (E2 N).ok
def E3(N:Nat):CE:=(E2 N).a (cT (Wj N))
def R9:FD:=fd 68 (fun t:Nat=>Nat.beq t 39 || Nat.beq t 41) [(.cell 2 true 8),(.cell 3 true 3)] Tryz.f5 [(6,{an:=[(2,⟨bU,none,[]⟩),(8,⟨bY,none,[]⟩)]}),(14,{w:=[(false,[.wait])],an:=[(3,⟨cY,none,[]⟩),(8,⟨fQ,none,[]⟩),(11,⟨iJ,none,[]⟩),(13,⟨.unit,some 4,[]⟩)]}),(30,{an:=[(1,⟨aV,none,[]⟩),(4,⟨GI,none,[]⟩),(6,⟨fy,
  none,[]⟩)]}),(62,{an:=[(0,⟨GI,none,[]⟩),(2,⟨di,none,[]⟩)]}),(127,{w:=[(false,[.cy 6])]}),(255,{w:=[(false,[.cy 2,.cy 3,.cO 0,.af [2,3],.out [0]])]}),(506,{ns:=[.aM 6 0 di,.af [2,3,5,6,7],.cmp]}),(16200,{an:=[(7,⟨di,
  none,[]⟩)]})]
def Sf:List NS:=[.cy 2,.cy 3,.cO 0,.af [2,3],.out [0]]
def aad:Exit->SI->Option ((bX×cz)×aB):=fK Sf [(.cell 2 true 8),(.cell 3 true 3)] [.b (.v dk)] [.v fx,.v fh] 1 1
section
variable (N n1:Nat) (x5:Int) (x6:List Int) (x7 x8:Int) (x9:List bj) (aj:List aR) (ak:List bJ) (av:List cB) (ai:List cC) (ao:List cW) (aq:Int) (ax:List bV) (ay:List Int)
def Gi:Option ((bX×cz)×aB):=lp (E3 N).l N 1 R9.tc 351 [] aad n1 ⟨[(2,.ptr 1 0 0),(3,.ptr 2 0 0),(5,.ptr 3 0 0),(6,.ptr 4 0 0),(7,.i x5)],[some (ew x6 x7),some (qL),some (.box 0 [.nil,.nil,.i x8]),some (.box 1 [.ab true bU x9,.ab true bY aj,.nil,.nil,.ab true cY ak,.ab true fQ av,.ab true fy ai,.ab true iJ ao]),some (.box 0 [.whole 5,.whole 6,.i aq]),some (.arr di ax),some (.arr GI ay)]⟩
theorem ahw:Gi N (n1+1) x5 x6 x7 x8 x9 aj ak av ai ao aq ax ay=
  bif(decide (x5>0)) then
  bif ba (ax.length+1) 32 then
  let Cy:=ax++[((W ((ax.length:Int)-1)),(0,(0,(true,false))))]
  bif ae 0 ay.length then
  Gi N n1 (W (x5-1)) x6 x7 x8 x9 aj ak av ai ao aq Cy (ay.set ((0:Int).toNat) (W ((Cy.length:Int)-1)))
  else none
  else none
  else
  some (((((x9,aj),([],[])),(ak,(av,(ai,ao)))),(ax,(ay,aq))),(x6,x7)):=by kernel_rfl
end
def vi(N:Nat)(a0:aB):Option ((bX×cz)×aB):=
  (eS N a0 1 4).bind fun r1=>
  (eS N r1.2 1 5).bind fun r2=>
  (eS N r2.2 1 5).bind fun r3=>
  (cE N r3.2 3).bind fun r4=>
  Gi N N r4.1 r4.2.1 r4.2.2 0 [(0,true),(0,true)] [(0,(1,(r1.1,(4,(false,(false,((1,1),(90000,90000))))))))] [(0,(1,(0,(0,(1000,(1,(1000,60)))))))] [(1,(0,(0,(100,(60,r2.1)))))] [([(1,(0,(0,0)))],(r3.1,([0],1)))] [(1,()),(2,())] 3 [((-1),(0,(0,(true,false))))] [0]
theorem av8(N:Nat):dq Tryz.prog 5 [none] [.b (.v dk)] [.v fx,.v fh] (fun x=>vi N x):=dM (N:=N) (p:=1) (q:=1) (ns:=Sf) (fq R9 Tryz.func5) (E3 N).ok
def E4(N:Nat):CE:=(E3 N).a (cT (av8 N))
def ayk:FD:=fd 11 nf [(.t 4)] Tryz.f6 [(7,{w:=[(false,[.cO 0,.af [4],.out [0]])]})]
def abl:List NS:=[.cO 0,.af [4],.out [0]]
def jb(N:Nat)(a0:aB)(a1:Int):Option (Bool×aB):=
  (cE N a0 a1).bind fun r1=>
  some ((r1.1==(W (a1-1))),r1.2)
theorem S7(N:Nat):dq Tryz.prog 6 [none,none] [.b (.v dk),.v GI] [.v .bool] (fun x=>jb N x.1 x.2):=dM (N:=N) (p:=1) (q:=1) (ns:=abl) (fq ayk Tryz.func6) (E4 N).ok
def E5(N:Nat):CE:=(E4 N).a (cT (S7 N))
def adk:FD:=fd 42 nf [(.cell 6 true 10)] Tryz.f43 [(127,{w:=[(false,[.cO 0,.af [6],.out [0]])]})]
def ahl:List NS:=[.cO 0,.af [6],.out [0]]
def tO(N:Nat)(a0:aB)(a1:Int)(a2:Int):Option (aR×aB):=
  (eS N a0 1 400).bind fun r1=>
  (eS N r1.2 4 30).bind fun r2=>
  (cE N r2.2 4).bind fun r3=>
  (eS N r3.2 1 20).bind fun r4=>
  (cE N r4.2 3).bind fun r5=>
  (eS N r5.2 (-300) 300).bind fun r6=>
  (cE N r6.2 20).bind fun r7=>
  some ((a1,(a2,(r1.1,(r2.1,((decide (r3.1>0)),(false,((r4.1,W (r4.1+r5.1)),(r6.1,W (r6.1+r7.1))))))))),r7.2)
theorem aag(N:Nat):dq Tryz.prog 43 [none,none,none] [.b (.v dk),.v GI,.v GI] [.v bY] (fun x=>tO N x.1 x.2.1 x.2.2):=dM (N:=N) (p:=1) (q:=1) (ns:=ahl) (fq adk Tryz.func43) (E5 N).ok
def E6(N:Nat):CE:=(E5 N).a (cT (aag N))
def WU:FD:=fd 40 (fun t:Nat=>Nat.beq t 11) [(.t 2)] Tryz.f83 [(6,{an:=[(5,⟨bm,none,[]⟩)]}),(15,{w:=[(false,[.ej 3])]}),(31,{w:=[(false,[.ej 2,.cO 0,.af [2],.out [0]])]}),(58,{ns:=[.own 3 bm,.af [0,3,4],.cmp]}),(1865,{an:=[(13,⟨bm,none,[]⟩)]})]
def QF:List NS:=[.ej 2,.cO 0,.af [2],.out [0]]
def aa3:Exit->SI->Option ((List aJ)×aB):=fK QF [(.t 2)] [.b (.v dk)] [.v (.list bm)] 1 1
section
variable (N n1:Nat) (x4:Int) (x5:List Int) (x6:Int) (x7:List aJ)
def HW:Option ((List aJ)×aB):=lp (E6 N).l N 1 WU.tc 43 [] aa3 n1 ⟨[(0,.ptr 0 0 0),(3,.whole 1),(4,.i x4)],[some (ew x5 x6),some (.arr bm x7)]⟩
theorem aj4:HW N (n1+1) x4 x5 x6 x7=
  bif(decide (x4>0)) then
  let v8:=W ((x7.length:Int)-1)
  bif ae v8 x7.length then
  (eS N (x5,x6) 1 40).bind fun ly=>
  (cE N ly.2 900).bind fun kM=>
  bif ba (x7.length+1) 16 then
  HW N n1 (W (x4-1)) kM.2.1 kM.2.2 (x7++[(W ((x7.getD v8.toNat dZ).1+ly.1),max 0 (W ((x7.getD v8.toNat dZ).2-kM.1)))])
  else none
  else none
  else
  some (x7,(x5,x6)):=by kernel_rfl
end
def Hu(N:Nat)(a0:aB):Option ((List aJ)×aB):=
  (eS N a0 (-20) 10).bind fun r1=>
  (eS N r1.2 500 3000).bind fun r2=>
  (cE N r2.2 4).bind fun r3=>
  HW N N r3.1 r3.2.1 r3.2.2 [(r1.1,r2.1)]
theorem aho(N:Nat):dq Tryz.prog 83 [none] [.b (.v dk)] [.v (.list bm)] (fun x=>Hu N x):=dM (N:=N) (p:=1) (q:=1) (ns:=QF) (fq WU Tryz.func83) (E6 N).ok
def E7(N:Nat):CE:=(E6 N).a (cT (aho N))
def RE:FD:=fd 36 (fun t:Nat=>Nat.beq t 10) [(.cell 4 true 3)] Tryz.f84 [(6,{an:=[(3,⟨GI,none,[]⟩)]}),(15,{w:=[(false,[.cy 5])]}),(31,{w:=[(false,[.cy 4,.cO 0,.af [4],.out [0]])]}),(58,{ns:=[.aM 5 2 GI,.af [0,4,5,6],.cmp]}),(932,{an:=[(14,⟨GI,none,[]⟩)]})]
def RC:List NS:=[.cy 4,.cO 0,.af [4],.out [0]]
def afo:Exit->SI->Option (bu×aB):=fK RC [(.cell 4 true 3)] [.b (.v dk),.v GI] [.v cu] 1 1
section
variable (N n1:Nat) (x3:Int) (x4:List Int) (x5 x6 x7 x8 x9:Int) (aj:List Int)
def Ir:Option (bu×aB):=lp (E7 N).l N 1 RE.tc 43 [] afo n1 ⟨[(0,.ptr 0 0 0),(4,.ptr 1 0 0),(5,.ptr 2 0 0),(6,.i x3)],[some (ew x4 x5),some (.box 0 [.i x6,.i x7,.nil]),some (.box 0 [.i x8,.i x9,.whole 3]),some (.arr GI aj)]⟩
theorem ak6:Ir N (n1+1) x3 x4 x5 x6 x7 x8 x9 aj=
  bif(decide (x3>0)) then
  let v11:=W ((aj.length:Int)-1)
  bif ae v11 aj.length then
  (eS N (x4,x5) 1 60).bind fun iM=>
  bif ba (aj.length+1) 8 then
  Ir N n1 (W (x3-1)) iM.2.1 iM.2.2 x6 x7 x8 x9 (aj++[max 0 (W ((aj.getD v11.toNat 0)-iM.1))])
  else none
  else none
  else
  some ((x8,(x9,aj)),(x4,x5)):=by kernel_rfl
end
def F3(N:Nat)(a0:aB)(a1:Int):Option (bu×aB):=
  (eS N a0 200 900).bind fun r1=>
  (eS N r1.2 1 3).bind fun r2=>
  Ir N N r2.1 r2.2.1 r2.2.2 0 0 a1 (-1) [r1.1]
theorem ajn(N:Nat):dq Tryz.prog 84 [none,none] [.b (.v dk),.v GI] [.v cu] (fun x=>F3 N x.1 x.2):=dM (N:=N) (p:=1) (q:=1) (ns:=RC) (fq RE Tryz.func84) (E7 N).ok
def E8(N:Nat):CE:=(E7 N).a (cT (ajn N))
def OA:FD:=fd 88 nf [(.cell 4 true 2)] Tryz.f44 [(63,{w:=[(false,[.cy 5])]}),(122,{ns:=[.aM 1 2 cJ,.aM 5 0 GI,.af [0,1,4,5,6,7],.out [0,1]]}),(127,{w:=[(false,[.cy 4,.cO 0,.aM 1 0 bU,.aM 1 1 bY,.aM 1 2 cJ,.aM 1 3 cu,.af [4],.out [0,1]])]}),(250,{ns:=[.aM 1 3
  cu,.aM 5 1 GI,.af [0,1,4,5,6,8],.out [0,1]]}),(3912,{an:=[(15,⟨cJ,none,[]⟩)]}),(3913,{an:=[(4,⟨GI,none,[]⟩)]}),(16018,{an:=[(6,⟨cu,none,[]⟩)]}),(16019,{an:=[(7,⟨GI,none,[]⟩)]})]
def VM:List NS:=[.cy 4,.cO 0,.aM 1 0 bU,.aM 1 1 bY,.aM 1 2 cJ,.aM 1 3 cu,.af [4],.out [0,1]]
def Rp:Exit->SI->Option (bF×(aB×bQ)):=fK VM [(.cell 4 true 2)] [.b (.v dk),.b (.p (.p (.a bU) (.a bY)) (.p (.a cJ) (.a cu)))] [.v ep] 6 10
section
variable (N n1 n2:Nat) (x2 x3:Int) (x4:List Int) (x5:Int) (x6:List bj) (x7:List aR) (x8:List bC) (x9:List bu) (aj:List Int) (aQ aZ:Int) (bp:List Int) (bn:Int) (bx:List bj) (bq:List aR) (bL:List bC) (bN:List bu) (bz bP:List Int)
def xv:Option (bF×(aB×bQ)):=lp (E8 N).l N 6 OA.tc 175 [] Rp n2 ⟨[(0,.ptr 0 0 0),(1,.ptr 1 0 0),(4,.ptr 12 0 0),(5,.ptr 13 0 0),(6,.i aQ),(8,.i aZ)],[some (ew bp bn),some (w8),none,none,none,none,some (.arr bU bx),some (.arr bY bq),some (.arr cJ bL),some (.arr cu bN),some (.arr GI bz),some (.arr GI bP),some (dF),some (.box 0 [.whole 10,.whole 11])]⟩
def EH:Option (bF×(aB×bQ)):=lp (E8 N).l N 6 OA.tc 87 [] Rp n1 ⟨[(0,.ptr 0 0 0),(1,.ptr 1 0 0),(4,.ptr 11 0 0),(5,.ptr 12 0 0),(6,.i x2),(7,.i x3)],[some (ew x4 x5),some (w8),none,none,none,none,some (.arr bU x6),some (.arr bY x7),some (.arr cJ x8),some (.arr cu x9),some (.arr GI aj),some (dF),some (.box 0 [.whole 10,.nil])]⟩
theorem afg:xv N (n2+1) aQ aZ bp bn bx bq bL bN bz bP=
  bif(decide (aZ>0)) then
  bif(decide (aQ>0)) then
  (cE N (bp,bn) aQ).bind fun r38=>
  (F3 N r38.2 r38.1).bind fun ij=>
  bif ba (bN.length+1) 40 then
  (cE N ij.2 (ij.1.2.2.length:Int)).bind fun OT=>
  bif ba (bP.length+1) 8 then
  xv N n2 aQ (W (aZ-1)) OT.2.1 OT.2.2 bx bq bL (bN++[ij.1]) bz (bP++[OT.1])
  else none
  else none
  else
  some ((bz,bP),((bp,bn),((bx,bq),(bL,bN))))
  else
  some ((bz,bP),((bp,bn),((bx,bq),(bL,bN)))):=by kernel_rfl
theorem auf:EH N (n1+1) x2 x3 x4 x5 x6 x7 x8 x9 aj=
  bif(decide (x3>0)) then
  bif(decide (x2>0)) then
  (cE N (x4,x5) x2).bind fun kM=>
  (jb N kM.2 3).bind fun iM=>
  (jb N iM.2 3).bind fun rG=>
  (Hu N rG.2).bind fun yr=>
  bif ba (x8.length+1) 40 then
  (cE N yr.2 3).bind fun pT=>
  bif ba (aj.length+1) 8 then
  EH N n1 x2 (W (x3-1)) pT.2.1 pT.2.2 x6 x7 (x8++[(kM.1,(iM.1,(rG.1,yr.1)))]) x9 (aj++[pT.1])
  else none
  else none
  else
  (cE N (x4,x5) 3).bind fun jR=>
  xv N N x2 jR.1 jR.2.1 jR.2.2 x6 x7 x8 x9 aj []
  else
  (cE N (x4,x5) 3).bind fun jS=>
  xv N N x2 jS.1 jS.2.1 jS.2.2 x6 x7 x8 x9 aj []:=by kernel_rfl
end
def Cg(N:Nat)(a0:aB)(a1:bQ):Option (bF×(aB×bQ)):=
  (cE N a0 3).bind fun r1=>
  EH N N (a1.1.2.length:Int) r1.1 r1.2.1 r1.2.2 a1.1.1 a1.1.2 a1.2.1 a1.2.2 []
theorem aa2(N:Nat):dq Tryz.prog 44 [none,none] [.b (.v dk),.b (.p (.p (.a bU) (.a bY)) (.p (.a cJ) (.a cu)))] [.v ep] (fun x=>Cg N x.1 x.2):=dM (N:=N) (p:=6) (q:=10) (ns:=VM) (fq OA Tryz.func44) (E8 N).ok
def E9(N:Nat):CE:=(E8 N).a (cT (aa2 N))
def M0:FD:=fd 71 nf [(.cell 4 true 2)] Tryz.f85 [(7,{w:=[(true,[.af [1,2,4],.cmp])]}),(30,{w:=[(false,[.wait])],an:=[(9,⟨.unit,some 2,[]⟩)]}),(250,{ns:=[.af [2,4,5,6],.cmp]})]
def TJ:Exit->SI->Option aJ:=fin [(.cell 4 true 2)] [bm]
section
variable (N JM n1:Nat) (x1 x2 x3:Int) (x4:List Int) (x5 x6 x9 aj ak:Int) (av:List Int) (ai ao aq ax:Int)
def aek:Option aJ:=lp (E9 N).l N 0 M0.tc 347 [] TJ n1 ⟨[(2,.ptr 0 0 0),(4,.ptr 1 0 0),(5,.ptr 2 0 0),(6,.i x9)],[some (.box 0 [.i aj,.i ak,.l GI av]),some (jG ai ao),some (.box 1 [.i aq,.i ax])]⟩
def Tn:Option aJ:=jn (E9 N).l N 0 M0.tc 7 [] TJ JM ⟨[(1,.i x1),(2,.ptr 0 0 0),(4,.ptr 1 0 0)],[some (.box 0 [.i x2,.i x3,.l GI x4]),some (jG x5 x6)]⟩
theorem aw5:Tn N (JM+1) x1 x2 x3 x4 x5 x6=
  bif(decide (x1>=0)) then
  bif ae x1 x4.length then
  bif ae x1 x4.length then
  some (x4.getD x1.toNat 0,x4.getD x1.toNat 0)
  else none
  else none
  else
  bif ae 0 x4.length then
  bif ae 0 x4.length then
  aek N N 0 x2 x3 x4 x5 x6 (x4.getD (0:Int).toNat 0) (x4.getD (0:Int).toNat 0)
  else none
  else none:=by kernel_rfl
end
def HG(N:Nat)(a0:bu)(a1:Int):Option aJ:=
  bif((a0.2.2.length:Int)==0) then
  some (0,0)
  else
  bif(decide (a1<(-1))) then
  some (0,0)
  else
  bif(decide (a1>=(a0.2.2.length:Int))) then
  some (0,0)
  else
  Tn N N a1 a0.1 a0.2.1 a0.2.2 0 0
theorem atz(N:Nat):bk Tryz.prog 85 [cu,GI] [bm] (fun x=>HG N x.1 x.2):=bG (N:=N) (fq M0 Tryz.func85) (E9 N).ok
def PJ(N:Nat):CE:=(E9 N).a (bD (atz N))
def YT:FD:=fd 16 nf [(.t 4)] Tryz.f141 []
def BR(N:Nat)(a0:Int)(a1:Int):Option Int:=
  bif a1==0 then none else
  bif a1==0 then none else
  bif(decide ((a0.tmod a1)<0)) then
  some (W ((W (a0.tdiv a1))-1))
  else
  some (W (a0.tdiv a1))
theorem at9(N:Nat):bk Tryz.prog 141 [GI,GI] [GI] (fun x=>BR N x.1 x.2):=bG (N:=N) (fq YT Tryz.func141) (PJ N).ok
def WT(N:Nat):CE:=(PJ N).a (bD (at9 N))
def aat:FD:=fd 10 nf [(.t 4)] Tryz.f142 []
def LN(N:Nat)(a0:Int)(a1:Int):Option Int:=
  (BR N (W (0-a0)) a1).bind fun r1=>
  some (W (0-r1))
theorem af2(N:Nat):bk Tryz.prog 142 [GI,GI] [GI] (fun x=>LN N x.1 x.2):=bG (N:=N) (fq aat Tryz.func142) (WT N).ok
def Md(N:Nat):CE:=(WT N).a (bD (af2 N))
def VU:FD:=fd 106 nf [(.cell 4 true 2)] Tryz.f131 [(252,{ns:=[.af [1,2,4,6],.cmp]}),(254,{w:=[(false,[.wait,.wait])],an:=[(11,⟨.unit,some 2,[]⟩),(12,⟨.unit,some 3,[]⟩)]})]
def aky:Exit->SI->Option aJ:=fin [(.cell 4 true 2)] [bm]
section
variable (N n1:Nat) (aj ak av:Int) (ai ao:Bool) (aq:List aJ) (ax ay:Int)
def FT:Option aJ:=lp (Md N).l N 0 VU.tc 159 [] aky n1 ⟨[(1,.i aj),(2,.ptr 0 0 0),(4,.ptr 1 0 0),(6,.i ak)],[some (.box 0 [.i av,.bool ai,.bool ao,.l bm aq]),some (jG ax ay)]⟩
theorem aq7:FT N (n1+1) aj ak av ai ao aq ax ay=
  bif ae (W (ak+1)) aq.length then
  bif(decide ((aq.getD (W (ak+1)).toNat dZ).1<=aj)) then
  FT N n1 aj (W (ak+1)) av ai ao aq ax ay
  else
  bif ae ak aq.length then
  let yu:=aq.getD ak.toNat dZ
  bif ae (W (ak+1)) aq.length then
  let vO:=aq.getD (W (ak+1)).toNat dZ
  let yv:=W ((W (vO.2-yu.2))*(W (aj-yu.1)))
  (BR N yv (W (vO.1-yu.1))).bind fun yw=>
  (LN N yv (W (vO.1-yu.1))).bind fun OU=>
  some (W (yu.2+yw),W (yu.2+OU))
  else none
  else none
  else none:=by kernel_rfl
end
def ux(N:Nat)(a0:bC)(a1:Int):Option aJ:=
  bif ae 0 a0.2.2.2.length then
  bif(decide (a1<=(a0.2.2.2.getD (0:Int).toNat dZ).1)) then
  bif ae 0 a0.2.2.2.length then
  bif ae 0 a0.2.2.2.length then
  some ((a0.2.2.2.getD (0:Int).toNat dZ).2,(a0.2.2.2.getD (0:Int).toNat dZ).2)
  else none
  else none
  else
  let v4:=W ((a0.2.2.2.length:Int)-1)
  bif ae v4 a0.2.2.2.length then
  bif(decide (a1>=(a0.2.2.2.getD v4.toNat dZ).1)) then
  let v6:=W ((a0.2.2.2.length:Int)-1)
  bif ae v6 a0.2.2.2.length then
  let v8:=W ((a0.2.2.2.length:Int)-1)
  bif ae v8 a0.2.2.2.length then
  some ((a0.2.2.2.getD v6.toNat dZ).2,(a0.2.2.2.getD v8.toNat dZ).2)
  else none
  else none
  else
  FT N N a1 0 a0.1 a0.2.1 a0.2.2.1 a0.2.2.2 0 0
  else none
  else none
theorem aoy(N:Nat):bk Tryz.prog 131 [cJ,GI] [bm] (fun x=>ux N x.1 x.2):=bG (N:=N) (fq VU Tryz.func131) (Md N).ok
def Qn(N:Nat):CE:=(Md N).a (bD (aoy N))
def ad7:FD:=fd 23 nf [(.cell 6 true 2)] Tryz.f115 []
def vI(N:Nat)(a0:bC)(a1:Bool)(a2:Int):Option aJ:=
  bif a1 then
  (ux N a0 (W (0-a2))).bind fun r1=>
  some (W (0-r1.2),W (0-r1.1))
  else
  (ux N a0 a2).bind fun r2=>
  some r2
theorem aml(N:Nat):bk Tryz.prog 115 [cJ,.bool,GI] [bm] (fun x=>vI N x.1 x.2.1 x.2.2):=bG (N:=N) (fq ad7 Tryz.func115) (Qn N).ok
def U4(N:Nat):CE:=(Qn N).a (bD (aml N))
def aer:FD:=fd 45 nf [(.cell 6 true 2)] Tryz.f86 [(14,{w:=[(false,[.wait,.wait])],an:=[(6,⟨.unit,some 2,[]⟩),(7,⟨.unit,some 3,[]⟩)]})]
def DN(N:Nat)(a0:bC)(a1:Int)(a2:Int):Option aJ:=
  bif(a1==0) then
  some (0,0)
  else
  bif(a1==1) then
  (vI N a0 a0.2.1 a2).bind fun r1=>
  some r1
  else
  bif(a1==2) then
  (vI N a0 (!a0.2.1) a2).bind fun r2=>
  some r2
  else
  (vI N a0 false a2).bind fun r3=>
  (vI N a0 true a2).bind fun r4=>
  some (min (min r3.1 r4.1) 0,max (max r3.2 r4.2) 0)
theorem ZF(N:Nat):bk Tryz.prog 86 [cJ,GI,GI] [bm] (fun x=>DN N x.1 x.2.1 x.2.2):=bG (N:=N) (fq aer Tryz.func86) (U4 N).ok
def vC(N:Nat):CE:=(U4 N).a (bD (ZF N))
def FP:FD:=fd 166 nf [] Tryz.f45 [(14,{ns:=[.af [0,1,6,7,8],.out [0,1]]}),(14650,{ns:=[.af [0,1,6,7,8,9,10,11,12],.out [0,1]]}),(58618,{ns:=[.af [0,1,6,7,8,9,10,13,14],.out [0,1]]})]
def R5:List NS:=[.cO 0,.aM 1 0 bU,.aM 1 1 bY,.aM 1 2 cJ,.aM 1 3 cu,.af [],.out [0,1]]
def ND:Exit->SI->Option (Unit×(aB×bQ)):=fK R5 [] [.b (.v dk),.b (.p (.p (.a bU) (.a bY)) (.p (.a cJ) (.a cu))),.v ep,.v ep] [] 6 10
section
variable (N n1 n2 n3:Nat) (x1:Int) (x2:List Int) (x3:Int) (x4:List bj) (x5:List aR) (x6:List bC) (x7:List bu) (x8 x9 aj ak:List Int) (aC:Int) (aO:Nat) (aH aE aI:Int) (aF:List Int) (az:Int) (aG:List bj) (aU:List aR) (bb:List bC) (aQ:List bu) (aZ bp bn bx:List Int) (gl:Int) (ea:Nat) (iu iv dR:Int) (gq:List Int) (gr:Int) (ix:List bj) (fB:List aR) (iX:List bC) (kN:List bu) (jx pU pV pW:List Int)
def BM:Option (Unit×(aB×bQ)):=lp (vC N).l N 6 FP.tc 44947 [n1] ND n3 ⟨[(0,.ptr 0 0 0),(1,.ptr 1 0 0),(6,.ptr 10 0 0),(7,.ptr 11 0 0),(8,.i gl),(9,.ptr 7 ea 0),(10,.i iu),(13,.i iv),(14,.i dR)],[some (ew gq gr),some (w8),none,none,none,none,some (.arr bU ix),some (.arr bY fB),some (.arr cJ iX),some (.arr cu kN),some (fi jx pU),some (fi pV pW)]⟩
def B2:Option (Unit×(aB×bQ)):=lp (vC N).l N 6 FP.tc 11155 [n1] ND n2 ⟨[(0,.ptr 0 0 0),(1,.ptr 1 0 0),(6,.ptr 10 0 0),(7,.ptr 11 0 0),(8,.i aC),(9,.ptr 7 aO 0),(10,.i aH),(11,.i aE),(12,.i aI)],[some (ew aF az),some (w8),none,none,none,none,some (.arr bU aG),some (.arr bY aU),some (.arr cJ bb),some (.arr cu aQ),some (fi aZ bp),some (fi bn bx)]⟩
def xQ:Option (Unit×(aB×bQ)):=lp (vC N).l N 6 FP.tc 11 [] ND n1 ⟨[(0,.ptr 0 0 0),(1,.ptr 1 0 0),(6,.ptr 10 0 0),(7,.ptr 11 0 0),(8,.i x1)],[some (ew x2 x3),some (w8),none,none,none,none,some (.arr bU x4),some (.arr bY x5),some (.arr cJ x6),some (.arr cu x7),some (fi x8 x9),some (fi aj ak)]⟩
theorem ahf:BM N n1 (n3+1) gl ea iu iv dR gq gr ix fB iX kN jx pU pV pW=
  bif(decide (dR<(iX.length:Int))) then
  bif ae dR iX.length then
  bif((iX.getD dR.toNat nT).1==gl) then
  bif ae dR iX.length then
  bif ae dR jx.length then
  (DN N (iX.getD dR.toNat nT) (jx.getD dR.toNat 0) iu).bind fun nD=>
  BM N n1 n3 gl ea iu (W (iv-nD.1)) (W (dR+1)) gq gr ix fB iX kN jx pU pV pW
  else none
  else none
  else
  BM N n1 n3 gl ea iu iv (W (dR+1)) gq gr ix fB iX kN jx pU pV pW
  else none
  else
  (cE N (gq,gr) 30).bind fun r119=>
  (cE N r119.2 30).bind fun OV=>
  xQ N n1 (W (gl+1)) OV.2.1 OV.2.2 ix (fB.set ea ((fB.getD ea fH).1,((fB.getD ea fH).2.1,((fB.getD ea fH).2.2.1,((fB.getD ea fH).2.2.2.1,((fB.getD ea fH).2.2.2.2.1,((fB.getD ea fH).2.2.2.2.2.1,((fB.getD ea fH).2.2.2.2.2.2.1,(W (iv-r119.1),W (iv+OV.1)))))))))) iX kN jx pU pV pW:=by kernel_rfl
theorem avb:B2 N n1 (n2+1) aC aO aH aE aI aF az aG aU bb aQ aZ bp bn bx=
  bif(decide (aI<(aQ.length:Int))) then
  bif ae aI aQ.length then
  bif((aQ.getD aI.toNat iZ).1==aC) then
  bif ae aI aQ.length then
  bif ae aI bp.length then
  (HG N (aQ.getD aI.toNat iZ) (bp.getD aI.toNat 0)).bind fun I9=>
  B2 N n1 n2 aC aO aH (W (aE+I9.1)) (W (aI+1)) aF az aG aU bb aQ aZ bp bn bx
  else none
  else none
  else
  B2 N n1 n2 aC aO aH aE (W (aI+1)) aF az aG aU bb aQ aZ bp bn bx
  else none
  else
  bif ae (aU.getD aO fH).1 bn.length then
  bif ae (aU.getD aO fH).2.1 bn.length then
  BM N n1 N aC aO aH (W ((W ((W (aE*(max aH (W (0-aH)))))*aH))-(W ((bn.getD (aU.getD aO fH).1.toNat 0)-(bn.getD (aU.getD aO fH).2.1.toNat 0))))) 0 aF az aG aU bb aQ aZ bp bn bx
  else none
  else none:=by kernel_rfl
theorem api:xQ N (n1+1) x1 x2 x3 x4 x5 x6 x7 x8 x9 aj ak=
  bif(decide (x1<(x5.length:Int))) then
  bif ae x1 x5.length then
  bif ae x1 ak.length then
  (cE N (x2,x3) (W ((W ((x5.getD x1.toNat fH).2.2.2.2.2.2.1.2-(x5.getD x1.toNat fH).2.2.2.2.2.2.1.1))+1))).bind fun pT=>
  B2 N n1 N x1 x1.toNat (ak.getD x1.toNat 0) (W ((x5.getD x1.toNat fH).2.2.2.2.2.2.1.1+pT.1)) 0 pT.2.1 pT.2.2 x4 x5 x6 x7 x8 x9 aj ak
  else none
  else none
  else
  some ((),((x2,x3),((x4,x5),(x6,x7)))):=by kernel_rfl
end
def L0(N:Nat)(a0:aB)(a1:bQ)(a2:bF)(a3:bF):Option (Unit×(aB×bQ)):=
  xQ N N 0 a0.1 a0.2 a1.1.1 a1.1.2 a1.2.1 a1.2.2 a2.1 a2.2 a3.1 a3.2
theorem apd(N:Nat):dq Tryz.prog 45 [none,none,none,none] [.b (.v dk),.b (.p (.p (.a bU) (.a bY)) (.p (.a cJ) (.a cu))),.v ep,.v ep] [] (fun x=>L0 N x.1 x.2.1 x.2.2.1 x.2.2.2):=dM (N:=N) (p:=6) (q:=10) (ns:=R5) (fq FP Tryz.func45) (vC N).ok
def TD:FD:=fd 166 nf [] Tryz.f45 [(14,{ns:=[.af [0,1,6,7,8],.out [0,1]]})]
def Ut:List NS:=[.cO 0,.aM 1 0 bU,.aM 1 1 bY,.aM 1 2 cJ,.aM 1 3 cu,.af [],.out [0,1]]
def abh:Exit->SI->Option (Unit×(aB×bQ)):=fK Ut [] [.b (.v dk),.b (.p (.p (.a bU) (.a bY)) (.p (.a cJ) (.a cu))),.v ep,.x (.x 2)] [] 6 10
section
variable (N n1:Nat) (x1:Int) (x2:List Int) (x3:Int) (x4:List bj) (x5:List aR) (x6:List bC) (x7:List bu) (x8 x9:List Int)
def Uh:Option (Unit×(aB×bQ)):=lp (vC N).l N 6 TD.tc 11 [] abh n1 ⟨[(0,.ptr 0 0 0),(1,.ptr 1 0 0),(6,.ptr 10 0 0),(7,.ptr 11 0 0),(8,.i x1)],[some (ew x2 x3),some (w8),none,none,none,none,some (.arr bU x4),some (.arr bY x5),some (.arr cJ x6),some (.arr cu x7),some (fi x8 x9),some (.box 0 [.any,.any])]⟩
theorem RL:Uh N (n1+1) x1 x2 x3 x4 x5 x6 x7 x8 x9=
  bif(decide (x1<(x5.length:Int))) then
  bif ae x1 x5.length then
  none
  else none
  else
  some ((),((x2,x3),((x4,x5),(x6,x7)))):=by kernel_rfl
end
def Fj(N:Nat)(a0:aB)(a1:bQ)(a2:bF)(a3:Unit):Option (Unit×(aB×bQ)):=
  Uh N N 0 a0.1 a0.2 a1.1.1 a1.1.2 a1.2.1 a1.2.2 a2.1 a2.2
theorem af4(N:Nat):dq Tryz.prog 45 [none,none,none,none] [.b (.v dk),.b (.p (.p (.a bU) (.a bY)) (.p (.a cJ) (.a cu))),.v ep,.x (.x 2)] [] (fun x=>Fj N x.1 x.2.1 x.2.2.1 x.2.2.2):=dM (N:=N) (p:=6) (q:=10) (ns:=Ut) (fq TD Tryz.func45) (vC N).ok
def Em(N:Nat):CE:=(vC N).a (cT (apd N))
def LA:FD:=fd 53 nf [(.cell 6 true 2)] Tryz.f46 [(58,{ns:=[.aM 7 0 GI,.af [0,5,6,7,8],.cmp]}),(63,{w:=[(false,[.aM 6 0 GI,.aM 6 1 GI,.cO 0,.af [6],.out [0]])]}),(122,{ns:=[.aM 7 1 GI,.af [0,5,6,7,10],.cmp]}),(3731,{an:=[(3,⟨GI,none,[]⟩)]}),(7827,{an
  :=[(3,⟨GI,none,[]⟩)]})]
def WY:List NS:=[.aM 6 0 GI,.aM 6 1 GI,.cO 0,.af [6],.out [0]]
def Sj:Exit->SI->Option (bF×aB):=fK WY [(.cell 6 true 2)] [.b (.v dk),.x (.x 4),.v ep] [.o (.p (.a GI) (.a GI))] 1 1
section
variable (N n1 n2:Nat) (x1:Int) (x2:List Int) (x3:Int) (x4 x5 x6:List Int) (aI:Int) (aF:List Int) (az:Int) (aG aU bb aQ:List Int)
def zp:Option (bF×aB):=lp (Em N).l N 1 LA.tc 87 [] Sj n2 ⟨[(0,.ptr 0 0 0),(5,.ptr 1 0 0),(6,.ptr 2 0 0),(7,.ptr 3 0 0),(10,.i aI)],[some (ew aF az),some (fi aG aU),some (dF),some (.box 0 [.whole 4,.whole 5]),some (.arr GI bb),some (.arr GI aQ)]⟩
def BI:Option (bF×aB):=lp (Em N).l N 1 LA.tc 43 [] Sj n1 ⟨[(0,.ptr 0 0 0),(5,.ptr 1 0 0),(6,.ptr 2 0 0),(7,.ptr 3 0 0),(8,.i x1)],[some (ew x2 x3),some (fi x4 x5),some (dF),some (.box 0 [.whole 4,.nil]),some (.arr GI x6)]⟩
theorem aok:zp N (n2+1) aI aF az aG aU bb aQ=
  bif(decide (aI<(aU.length:Int))) then
  bif ae aI aU.length then
  (jb N (aF,az) 5).bind fun eZ=>
  bif eZ.1 then
  bif ba (aQ.length+1) 8 then
  zp N n2 (W (aI+1)) eZ.2.1 eZ.2.2 aG aU bb (aQ++[(-1)])
  else none
  else
  bif ba (aQ.length+1) 8 then
  zp N n2 (W (aI+1)) eZ.2.1 eZ.2.2 aG aU bb (aQ++[aU.getD aI.toNat 0])
  else none
  else none
  else
  some ((bb,aQ),(aF,az)):=by kernel_rfl
theorem asx:BI N (n1+1) x1 x2 x3 x4 x5 x6=
  bif(decide (x1<(x4.length:Int))) then
  bif ae x1 x4.length then
  (jb N (x2,x3) 5).bind fun r7=>
  bif r7.1 then
  bif ba (x6.length+1) 8 then
  BI N n1 (W (x1+1)) r7.2.1 r7.2.2 x4 x5 (x6++[(-1)])
  else none
  else
  bif ba (x6.length+1) 8 then
  BI N n1 (W (x1+1)) r7.2.1 r7.2.2 x4 x5 (x6++[x4.getD x1.toNat 0])
  else none
  else none
  else
  zp N N 0 x2 x3 x4 x5 x6 []:=by kernel_rfl
end
def D7(N:Nat)(a0:aB)(a1:Unit)(a2:bF):Option (bF×aB):=
  BI N N 0 a0.1 a0.2 a2.1 a2.2 []
theorem ac6(N:Nat):dq Tryz.prog 46 [none,none,none] [.b (.v dk),.x (.x 4),.v ep] [.o (.p (.a GI) (.a GI))] (fun x=>D7 N x.1 x.2.1 x.2.2):=dM (N:=N) (p:=1) (q:=1) (ns:=WY) (fq LA Tryz.func46) (Em N).ok
def qZ(N:Nat):CE:=(Em N).a (cT (ac6 N))
def vz:FD:=fd 189 (fun t:Nat=>Nat.beq t 21) [(.cell 2 true 4),(.cell 3 true 2),(.cell 4 true 2)] Tryz.f20 [(6,{an:=[(1,⟨bU,none,[]⟩)]}),(15,{w:=[(true,[.aM 5 0 bU,.af [0,2,3,4,5],.cmp])]}),(58,{an:=[(4,⟨bU,none,[]⟩)]}),(250,{ns:=[.aM 5 0 bU,.af [0,2,3,4,5,6,7],.cmp]}),(254,{an:=[(1,⟨GI,none,[]⟩)]}),(1022,{an:=[(1,⟨(.int
  .i64),none,[]⟩)]}),(2042,{ns:=[.af [0,2,3,4,5,6,8,9,10],.cmp]}),(2047,{w:=[(true,[.aM 5 1 bY,.aM 9 1 GI,.wk 11 LI,.af [0,2,3,4,5,6,8,9,11],.cmp])]}),(4004,{an:=[(7,⟨bU,none,[]⟩)]}),(4095,{w:=[(false,[.cy
  9])]}),(8190,{w:=[(false,[.aM 5 0 bU,.aM 5 1 bY,.aM 5 2 cJ,.aM 5 3 cu])]}),(16378,{ns:=[.aM 5 1 bY,.aM 9 1 GI,.wk 11 LI,.af [0,2,3,4,5,6,8,9,11,16],.cmp]}),(16382,{w:=[(false,[.aM 5 0 bU,.aM 5 1
  bY,.aM 5 2 cJ,.aM 5 3 cu])]}),(32746,{ns:=[.aM 5 1 bY,.aM 9 1 GI,.wk 11 LI,.af [0,2,3,4,5,6,8,9,11,12],.cmp]}),(32766,{w:=[(false,[.wait,.wait])],an:=[(4,⟨.unit,none,[22,23]⟩)]}),(32767,{w:=[(false,[.cy 2,
  .cy 3,.cy 4,.cO 0,.af [2,3,4],.out [0]])]}),(524104,{w:=[(false,[.wait])],an:=[(11,⟨.unit,some 11,[]⟩)]}),(1048211,{an:=[(4,⟨bY,none,[]⟩),(9,⟨GI,none,[]⟩)]}),(33532222,{an:=[(4,⟨bY,none,[]⟩),(9,⟨GI,none,[]⟩)]})]
def VO:List NS:=[.cy 2,.cy 3,.cy 4,.cO 0,.af [2,3,4],.out [0]]
def xn:Exit->SI->Option ((bQ×bF×bF)×aB):=fK VO [(.cell 2 true 4),(.cell 3 true 2),(.cell 4 true 2)] [.b (.v dk)] [.v iE,.v ep,.v ep] 1 1
section
variable (N JM n1 n2 n3 n4:Nat) (x3:List Int) (x4:Int) (x5:List bj) (x7 x8:Int) (x9:List Int) (aj:Int) (ak:List bj) (aH aE aI:Int) (aF:List Int) (az:Int) (aG:List bj) (aU:List Int) (bA bw bZ:Int) (cb:List Int) (cd:Int) (bW:List Int) (cU:List bj) (cK:List aR) (cZ cX:List Int) (lz nE:Int) (nF:List Int) (jT:Int) (gP:List Int) (jy:List bj) (jU:List aR) (gQ jz:List Int) (iN iO fX:Int) (gR:List Int) (gS:Int) (fM:List Int) (gu:List bj) (fC:List aR) (fY eU:List Int)
def zl:Option ((bQ×bF×bF)×aB):=lp (qZ N).l N 1 vz.tc 42999 [] xn n4 ⟨[(0,.ptr 0 0 0),(2,.ptr 1 0 0),(3,.ptr 2 0 0),(4,.ptr 3 0 0),(5,.ptr 4 0 0),(6,.i iN),(8,.i iO),(9,.ptr 5 0 0),(11,.whole 6),(16,.i fX)],[some (ew gR gS),some (kV),some (dF),some (dF),some (w6),some (xW),some (.arr GI fM),some (.arr bU gu),some (.arr bY fC),some (.arr GI fY),some (.arr GI eU)]⟩
def ON:Option ((bQ×bF×bF)×aB):=jn (qZ N).l N 1 vz.tc 4087 [] xn JM ⟨[(0,.ptr 0 0 0),(2,.ptr 1 0 0),(3,.ptr 2 0 0),(4,.ptr 3 0 0),(5,.ptr 4 0 0),(6,.i lz),(8,.i nE),(9,.ptr 5 0 0),(11,.whole 6)],[some (ew nF jT),some (kV),some (dF),some (dF),some (w6),some (xW),some (.arr GI gP),some (.arr bU jy),some (.arr bY jU),some (.arr GI gQ),some (.arr GI jz)]⟩
def xj:Option ((bQ×bF×bF)×aB):=lp (qZ N).l N 1 vz.tc 44023 [] xn n3 ⟨[(0,.ptr 0 0 0),(2,.ptr 1 0 0),(3,.ptr 2 0 0),(4,.ptr 3 0 0),(5,.ptr 4 0 0),(6,.i bA),(8,.i bw),(9,.ptr 5 0 0),(11,.whole 6),(12,.i bZ)],[some (ew cb cd),some (kV),some (dF),some (dF),some (w6),some (xW),some (.arr GI bW),some (.arr bU cU),some (.arr bY cK),some (.arr GI cZ),some (.arr GI cX)]⟩
def G0:Option ((bQ×bF×bF)×aB):=lp (qZ N).l N 1 vz.tc 2807 [] xn n2 ⟨[(0,.ptr 0 0 0),(2,.ptr 1 0 0),(3,.ptr 2 0 0),(4,.ptr 3 0 0),(5,.ptr 4 0 0),(6,.i aH),(8,.i aE),(9,.ptr 5 0 0),(10,.i aI)],[some (ew aF az),some (kV),some (dF),some (dF),some (.box 0 [.whole 6,.nil,.nil,.nil]),some (.box 0 [.whole 7,.nil]),some (.arr bU aG),some (.arr GI aU)]⟩
def Fw:Option ((bQ×bF×bF)×aB):=lp (qZ N).l N 1 vz.tc 343 [] xn n1 ⟨[(0,.ptr 0 0 0),(2,.ptr 1 0 0),(3,.ptr 2 0 0),(4,.ptr 3 0 0),(5,.ptr 4 0 0),(6,.i x7),(7,.i x8)],[some (ew x9 aj),some (kV),some (dF),some (dF),some (.box 0 [.whole 5,.nil,.nil,.nil]),some (.arr bU ak)]⟩
def Gw:Option ((bQ×bF×bF)×aB):=jn (qZ N).l N 1 vz.tc 15 [] xn JM ⟨[(0,.ptr 0 0 0),(2,.ptr 1 0 0),(3,.ptr 2 0 0),(4,.ptr 3 0 0),(5,.ptr 4 0 0)],[some (ew x3 x4),some (kV),some (dF),some (dF),some (.box 0 [.whole 5,.nil,.nil,.nil]),some (.arr bU x5)]⟩
theorem YP:zl N (n4+1) iN iO fX gR gS fM gu fC fY eU=
  bif(decide (fX<iO)) then
  (cE N (gR,gS) iN).bind fun rH=>
  (tO N rH.2 fX rH.1).bind fun ox=>
  bif ae fX fM.length then
  let Cz:=W (0-(fM.getD fX.toNat 0))
  (jb N ox.2 2).bind fun oy=>
  bif oy.1 then
  bif ba (fC.length+1) 72 then
  bif ba (eU.length+1) 8 then
  zl N n4 iN iO (W (fX+1)) oy.2.1 oy.2.2 fM gu (fC++[(ox.1.2.1,(ox.1.1,ox.1.2.2))]) fY (eU++[W (0-Cz)])
  else none
  else none
  else
  bif ba (fC.length+1) 72 then
  bif ba (eU.length+1) 8 then
  zl N n4 iN iO (W (fX+1)) oy.2.1 oy.2.2 fM gu (fC++[ox.1]) fY (eU++[Cz])
  else none
  else none
  else none
  else
  (Cg N (gR,gS) ((gu,fC),([],[]))).bind fun rJ=>
  (L0 N rJ.2.1 rJ.2.2 rJ.1 (fY,eU)).bind fun C0=>
  (D7 N C0.2.1 () rJ.1).bind fun C1=>
  some ((C0.2.2,C1.1,(fY,eU)),C1.2):=by kernel_rfl
theorem SN:ON N (JM+1) lz nE nF jT gP jy jU gQ jz=
  zl N N lz nE lz nF jT gP jy jU gQ jz:=by kernel_rfl
theorem asn:xj N (n3+1) bA bw bZ cb cd bW cU cK cZ cX=
  bif(decide (bZ>0)) then
  (cE N (cb,cd) bw).bind fun mB=>
  (cE N mB.2 (W (bw-1))).bind fun eP=>
  bif bw==0 then none else
  (tO N eP.2 mB.1 ((W ((W (mB.1+1))+eP.1)).tmod bw)).bind fun cQ=>
  (jb N cQ.2 7).bind fun nG=>
  (eS N nG.2 (-60) 60).bind fun gA=>
  bif nG.1 then
  bif ba (cK.length+1) 72 then
  bif ba (cX.length+1) 8 then
  bif ae cQ.1.1 bW.length then
  bif ae cQ.1.1 bW.length then
  let rK:=bW.set cQ.1.1.toNat (W ((bW.getD cQ.1.1.toNat 0)+0))
  bif ae cQ.1.2.1 rK.length then
  bif ae cQ.1.2.1 rK.length then
  xj N n3 bA bw (W (bZ-1)) gA.2.1 gA.2.2 (rK.set cQ.1.2.1.toNat (W ((rK.getD cQ.1.2.1.toNat 0)-0))) cU (cK++[(cQ.1.1,(cQ.1.2.1,(cQ.1.2.2.1,(cQ.1.2.2.2.1,(cQ.1.2.2.2.2.1,(nG.1,cQ.1.2.2.2.2.2.2))))))]) cZ (cX++[0])
  else none
  else none
  else none
  else none
  else none
  else none
  else
  bif ba (cK.length+1) 72 then
  bif ba (cX.length+1) 8 then
  bif ae cQ.1.1 bW.length then
  bif ae cQ.1.1 bW.length then
  let rL:=bW.set cQ.1.1.toNat (W ((bW.getD cQ.1.1.toNat 0)+gA.1))
  bif ae cQ.1.2.1 rL.length then
  bif ae cQ.1.2.1 rL.length then
  xj N n3 bA bw (W (bZ-1)) gA.2.1 gA.2.2 (rL.set cQ.1.2.1.toNat (W ((rL.getD cQ.1.2.1.toNat 0)-gA.1))) cU (cK++[(cQ.1.1,(cQ.1.2.1,(cQ.1.2.2.1,(cQ.1.2.2.2.1,(cQ.1.2.2.2.2.1,(nG.1,cQ.1.2.2.2.2.2.2))))))]) cZ (cX++[gA.1])
  else none
  else none
  else none
  else none
  else none
  else none
  else
  ON N N bA bw cb cd bW cU cK cZ cX:=by kernel_rfl
theorem aq9:G0 N (n2+1) aH aE aI aF az aG aU=
  bif(decide (aI<aE)) then
  (eS N (aF,az) (-4000) 4000).bind fun jR=>
  bif ae aI aU.length then
  G0 N n2 aH aE (W (aI+1)) jR.2.1 jR.2.2 aG (aU.set aI.toNat jR.1)
  else none
  else
  bif eH 8 aE aE then
  let rP:=List.replicate aE.toNat 0
  bif(decide (aE>1)) then
  (cE N (aF,az) 6).bind fun oz=>
  xj N N aH aE oz.1 oz.2.1 oz.2.2 rP aG [] aU []
  else
  ON N N aH aE aF az rP aG [] aU []
  else none:=by kernel_rfl
theorem abq:Fw N (n1+1) x7 x8 x9 aj ak=
  bif(decide (x8>0)) then
  (cE N (x9,aj) 100).bind fun iM=>
  bif ba (ak.length+1) 16 then
  Fw N n1 x7 (W (x8-1)) iM.2.1 iM.2.2 (ak++[(W (0-iM.1),false)])
  else none
  else
  bif eH 8 (ak.length:Int) (ak.length:Int) then
  G0 N N x7 (ak.length:Int) x7 x9 aj ak (List.replicate (ak.length:Int).toNat 0)
  else none:=by kernel_rfl
theorem ab5:Gw N (JM+1) x3 x4 x5=
  (cE N (x3,x4) 5).bind fun r6=>
  Fw N N (x5.length:Int) r6.1 r6.2.1 r6.2.2 x5:=by kernel_rfl
end
def GF(N:Nat)(a0:aB):Option ((bQ×bF×bF)×aB):=
  (jb N a0 3).bind fun r1=>
  bif r1.1 then
  bif ba ([(0,true)].length+1) 16 then
  Gw N N r1.2.1 r1.2.2 ([(0,true)]++[(10,true)])
  else none
  else
  Gw N N r1.2.1 r1.2.2 [(0,true)]
theorem Xu(N:Nat):dq Tryz.prog 20 [none] [.b (.v dk)] [.v iE,.v ep,.v ep] (fun x=>GF N x):=dM (N:=N) (p:=1) (q:=1) (ns:=VO) (fq vz Tryz.func20) (qZ N).ok
def vB:FD:=fd 189 (fun t:Nat=>Nat.beq t 21) [(.cell 2 true 4),(.cell 3 true 2),(.cell 4 true 2)] Tryz.f20 [(6,{an:=[(1,⟨bU,none,[]⟩)]}),(15,{w:=[(true,[.aM 5 0 bU,.af [0,2,3,4,5],.cmp])]}),(58,{an:=[(4,⟨bU,none,[]⟩)]}),(250,{ns:=[.aM 5 0 bU,.af [0,2,3,4,5,6,7],.cmp]}),(254,{an:=[(1,⟨GI,none,[]⟩)]}),(1022,{an:=[(1,⟨(.int
  .i64),none,[]⟩)]}),(2042,{ns:=[.af [0,2,3,4,5,6,8,9,10],.cmp]}),(2047,{w:=[(true,[.aM 5 1 bY,.aM 9 1 GI,.wk 11 LI,.af [0,2,3,4,5,6,8,9,11],.cmp])]}),(4004,{an:=[(7,⟨bU,none,[]⟩)]}),(8190,{w:=[(false,[.aM 5 0
  bU,.aM 5 1 bY,.aM 5 2 cJ,.aM 5 3 cu])]}),(16378,{ns:=[.aM 5 1 bY,.aM 9 1 GI,.wk 11 LI,.af [0,2,3,4,5,6,8,9,11,16],.cmp]}),(16382,{w:=[(false,[.aM 5 0 bU,.aM 5 1 bY,.aM 5 2 cJ,.aM 5 3
  cu])]}),(32746,{ns:=[.aM 5 1 bY,.aM 9 1 GI,.wk 11 LI,.af [0,2,3,4,5,6,8,9,11,12],.cmp]}),(32766,{w:=[(false,[.wait,.wait])],an:=[(4,⟨.unit,none,[22,23]⟩)]}),(32767,{w:=[(false,[.aM 2 0 bU,.bg 2 1,.bg 2 2,.bg
  2 3,.cy 3,.aM 4 0 GI,.bg 4 1,.cO 0,.af [2,4,3],.out [0]])]}),(524104,{w:=[(false,[.wait])],an:=[(11,⟨.unit,some 11,[]⟩)]}),(1048211,{an:=[(4,⟨bY,none,[]⟩),(9,⟨GI,none,[]⟩)]}),(33532222,{an:=[(4,⟨bY,none,[]⟩),(9,⟨GI,
  none,[]⟩)]})]
def Rl:List NS:=[.aM 2 0 bU,.bg 2 1,.bg 2 2,.bg 2 3,.cy 3,.aM 4 0 GI,.bg 4 1,.cO 0,.af [2,4,3],.out [0]]
def vv(N:Nat):CE:=(qZ N).a (cT (af4 N))
def xh:Exit->SI->Option ((bQ×bF×bF)×aB):=fK Rl [(.cell 2 true 4),(.cell 3 true 2),(.cell 4 true 2)] [.b (.v dk)] [.o (.p (.p (.a bU) (.v (.list bY))) (.v (.pair (.list cJ) (.list cu)))),.v ep,.o (.p (.a GI) (.v LI))] 1 1
section
variable (N JM n1 n2 n3 n4:Nat) (x3:List Int) (x4:Int) (x5:List bj) (x7 x8:Int) (x9:List Int) (aj:Int) (ak:List bj) (aH aE aI:Int) (aF:List Int) (az:Int) (aG:List bj) (aU:List Int) (bA bw bZ:Int) (cb:List Int) (cd:Int) (bW:List Int) (cU:List bj) (cK:List aR) (cZ cX:List Int) (lz nE:Int) (nF:List Int) (jT:Int) (gP:List Int) (jy:List bj) (jU:List aR) (gQ jz:List Int) (iN iO fX:Int) (gR:List Int) (gS:Int) (fM:List Int) (gu:List bj) (fC:List aR) (fY eU:List Int)
def Bj:Option ((bQ×bF×bF)×aB):=lp (vv N).l N 1 vB.tc 42999 [] xh n4 ⟨[(0,.ptr 0 0 0),(2,.ptr 1 0 0),(3,.ptr 2 0 0),(4,.ptr 3 0 0),(5,.ptr 4 0 0),(6,.i iN),(8,.i iO),(9,.ptr 5 0 0),(11,.whole 6),(16,.i fX)],[some (ew gR gS),some (kV),some (dF),some (dF),some (w6),some (xW),some (.arr GI fM),some (.arr bU gu),some (.arr bY fC),some (.arr GI fY),some (.arr GI eU)]⟩
def Lh:Option ((bQ×bF×bF)×aB):=jn (vv N).l N 1 vB.tc 4087 [] xh JM ⟨[(0,.ptr 0 0 0),(2,.ptr 1 0 0),(3,.ptr 2 0 0),(4,.ptr 3 0 0),(5,.ptr 4 0 0),(6,.i lz),(8,.i nE),(9,.ptr 5 0 0),(11,.whole 6)],[some (ew nF jT),some (kV),some (dF),some (dF),some (w6),some (xW),some (.arr GI gP),some (.arr bU jy),some (.arr bY jU),some (.arr GI gQ),some (.arr GI jz)]⟩
def wG:Option ((bQ×bF×bF)×aB):=lp (vv N).l N 1 vB.tc 44023 [] xh n3 ⟨[(0,.ptr 0 0 0),(2,.ptr 1 0 0),(3,.ptr 2 0 0),(4,.ptr 3 0 0),(5,.ptr 4 0 0),(6,.i bA),(8,.i bw),(9,.ptr 5 0 0),(11,.whole 6),(12,.i bZ)],[some (ew cb cd),some (kV),some (dF),some (dF),some (w6),some (xW),some (.arr GI bW),some (.arr bU cU),some (.arr bY cK),some (.arr GI cZ),some (.arr GI cX)]⟩
def Eo:Option ((bQ×bF×bF)×aB):=lp (vv N).l N 1 vB.tc 2807 [] xh n2 ⟨[(0,.ptr 0 0 0),(2,.ptr 1 0 0),(3,.ptr 2 0 0),(4,.ptr 3 0 0),(5,.ptr 4 0 0),(6,.i aH),(8,.i aE),(9,.ptr 5 0 0),(10,.i aI)],[some (ew aF az),some (kV),some (dF),some (dF),some (.box 0 [.whole 6,.nil,.nil,.nil]),some (.box 0 [.whole 7,.nil]),some (.arr bU aG),some (.arr GI aU)]⟩
def Gr:Option ((bQ×bF×bF)×aB):=lp (vv N).l N 1 vB.tc 343 [] xh n1 ⟨[(0,.ptr 0 0 0),(2,.ptr 1 0 0),(3,.ptr 2 0 0),(4,.ptr 3 0 0),(5,.ptr 4 0 0),(6,.i x7),(7,.i x8)],[some (ew x9 aj),some (kV),some (dF),some (dF),some (.box 0 [.whole 5,.nil,.nil,.nil]),some (.arr bU ak)]⟩
def Eu:Option ((bQ×bF×bF)×aB):=jn (vv N).l N 1 vB.tc 15 [] xh JM ⟨[(0,.ptr 0 0 0),(2,.ptr 1 0 0),(3,.ptr 2 0 0),(4,.ptr 3 0 0),(5,.ptr 4 0 0)],[some (ew x3 x4),some (kV),some (dF),some (dF),some (.box 0 [.whole 5,.nil,.nil,.nil]),some (.arr bU x5)]⟩
theorem amk:Bj N (n4+1) iN iO fX gR gS fM gu fC fY eU=
  bif(decide (fX<iO)) then
  (cE N (gR,gS) iN).bind fun rH=>
  (tO N rH.2 fX rH.1).bind fun ox=>
  bif ae fX fM.length then
  let Cz:=W (0-(fM.getD fX.toNat 0))
  (jb N ox.2 2).bind fun oy=>
  bif oy.1 then
  bif ba (fC.length+1) 72 then
  bif ba (eU.length+1) 8 then
  Bj N n4 iN iO (W (fX+1)) oy.2.1 oy.2.2 fM gu (fC++[(ox.1.2.1,(ox.1.1,ox.1.2.2))]) fY (eU++[W (0-Cz)])
  else none
  else none
  else
  bif ba (fC.length+1) 72 then
  bif ba (eU.length+1) 8 then
  Bj N n4 iN iO (W (fX+1)) oy.2.1 oy.2.2 fM gu (fC++[ox.1]) fY (eU++[Cz])
  else none
  else none
  else none
  else
  (Cg N (gR,gS) ((gu,fC),([],[]))).bind fun rJ=>
  (Fj N rJ.2.1 rJ.2.2 rJ.1 ()).bind fun C0=>
  (D7 N C0.2.1 () rJ.1).bind fun C1=>
  some ((C0.2.2,C1.1,(fY,eU)),C1.2):=by kernel_rfl
theorem RW:Lh N (JM+1) lz nE nF jT gP jy jU gQ jz=
  Bj N N lz nE lz nF jT gP jy jU gQ jz:=by kernel_rfl
theorem awd:wG N (n3+1) bA bw bZ cb cd bW cU cK cZ cX=
  bif(decide (bZ>0)) then
  (cE N (cb,cd) bw).bind fun mB=>
  (cE N mB.2 (W (bw-1))).bind fun eP=>
  bif bw==0 then none else
  (tO N eP.2 mB.1 ((W ((W (mB.1+1))+eP.1)).tmod bw)).bind fun cQ=>
  (jb N cQ.2 7).bind fun nG=>
  (eS N nG.2 (-60) 60).bind fun gA=>
  bif nG.1 then
  bif ba (cK.length+1) 72 then
  bif ba (cX.length+1) 8 then
  bif ae cQ.1.1 bW.length then
  bif ae cQ.1.1 bW.length then
  let rK:=bW.set cQ.1.1.toNat (W ((bW.getD cQ.1.1.toNat 0)+0))
  bif ae cQ.1.2.1 rK.length then
  bif ae cQ.1.2.1 rK.length then
  wG N n3 bA bw (W (bZ-1)) gA.2.1 gA.2.2 (rK.set cQ.1.2.1.toNat (W ((rK.getD cQ.1.2.1.toNat 0)-0))) cU (cK++[(cQ.1.1,(cQ.1.2.1,(cQ.1.2.2.1,(cQ.1.2.2.2.1,(cQ.1.2.2.2.2.1,(nG.1,cQ.1.2.2.2.2.2.2))))))]) cZ (cX++[0])
  else none
  else none
  else none
  else none
  else none
  else none
  else
  bif ba (cK.length+1) 72 then
  bif ba (cX.length+1) 8 then
  bif ae cQ.1.1 bW.length then
  bif ae cQ.1.1 bW.length then
  let rL:=bW.set cQ.1.1.toNat (W ((bW.getD cQ.1.1.toNat 0)+gA.1))
  bif ae cQ.1.2.1 rL.length then
  bif ae cQ.1.2.1 rL.length then
  wG N n3 bA bw (W (bZ-1)) gA.2.1 gA.2.2 (rL.set cQ.1.2.1.toNat (W ((rL.getD cQ.1.2.1.toNat 0)-gA.1))) cU (cK++[(cQ.1.1,(cQ.1.2.1,(cQ.1.2.2.1,(cQ.1.2.2.2.1,(cQ.1.2.2.2.2.1,(nG.1,cQ.1.2.2.2.2.2.2))))))]) cZ (cX++[gA.1])
  else none
  else none
  else none
  else none
  else none
  else none
  else
  Lh N N bA bw cb cd bW cU cK cZ cX:=by kernel_rfl
theorem amu:Eo N (n2+1) aH aE aI aF az aG aU=
  bif(decide (aI<aE)) then
  (eS N (aF,az) (-4000) 4000).bind fun jR=>
  bif ae aI aU.length then
  Eo N n2 aH aE (W (aI+1)) jR.2.1 jR.2.2 aG (aU.set aI.toNat jR.1)
  else none
  else
  bif eH 8 aE aE then
  let rP:=List.replicate aE.toNat 0
  bif(decide (aE>1)) then
  (cE N (aF,az) 6).bind fun oz=>
  wG N N aH aE oz.1 oz.2.1 oz.2.2 rP aG [] aU []
  else
  Lh N N aH aE aF az rP aG [] aU []
  else none:=by kernel_rfl
theorem ayu:Gr N (n1+1) x7 x8 x9 aj ak=
  bif(decide (x8>0)) then
  (cE N (x9,aj) 100).bind fun iM=>
  bif ba (ak.length+1) 16 then
  Gr N n1 x7 (W (x8-1)) iM.2.1 iM.2.2 (ak++[(W (0-iM.1),false)])
  else none
  else
  bif eH 8 (ak.length:Int) (ak.length:Int) then
  Eo N N x7 (ak.length:Int) x7 x9 aj ak (List.replicate (ak.length:Int).toNat 0)
  else none:=by kernel_rfl
theorem awk:Eu N (JM+1) x3 x4 x5=
  (cE N (x3,x4) 5).bind fun r6=>
  Gr N N (x5.length:Int) r6.1 r6.2.1 r6.2.2 x5:=by kernel_rfl
end
def GU(N:Nat)(a0:aB):Option ((bQ×bF×bF)×aB):=
  (jb N a0 3).bind fun r1=>
  bif r1.1 then
  bif ba ([(0,true)].length+1) 16 then
  Eu N N r1.2.1 r1.2.2 ([(0,true)]++[(10,true)])
  else none
  else
  Eu N N r1.2.1 r1.2.2 [(0,true)]
theorem auc(N:Nat):dq Tryz.prog 20 [none] [.b (.v dk)] [.o (.p (.p (.a bU) (.v (.list bY))) (.v (.pair (.list cJ) (.list cu)))),.v ep,.o (.p (.a GI) (.v LI))] (fun x=>GU N x):=dM (N:=N) (p:=1) (q:=1) (ns:=Rl) (fq vB Tryz.func20) (vv N).ok
def Xf(N:Nat):CE:=(qZ N).a (cT (Xu N))
def afq:FD:=fd 5 nf [(.t 2)] Tryz.f47 []
def Lm(N:Nat)(a0:Int):Option Bool:=
  some (decide (a0>=4))
theorem afk(N:Nat):bk Tryz.prog 47 [GI] [.bool] (fun x=>Lm N x):=bG (N:=N) (fq afq Tryz.func47) (Xf N).ok
def WL(N:Nat):CE:=(Xf N).a (bD (afk N))
def ar2:FD:=fd 32 nf [(.cell 8 true 8)] Tryz.f21 [(31,{w:=[(false,[.cO 0,.af [8],.out [0]])]})]
def ada:List NS:=[.cO 0,.af [8],.out [0]]
def xf(N:Nat)(a0:aB)(a1:Int)(a2:Int)(a3:Int):Option (bJ×aB):=
  (eS N a0 1 200).bind fun r1=>
  (Lm N a1).bind fun r2=>
  bif(!r2) then
  (eS N r1.2 (-50) 20).bind fun r3=>
  (eS N r3.2 300 2000).bind fun r4=>
  (cE N r4.2 6).bind fun r5=>
  (cE N r5.2 700).bind fun r6=>
  some ((a2,(a1,(a3,(r3.1,(r4.1,(r5.1,(r6.1,r1.1))))))),r6.2)
  else
  some ((a2,(a1,(a3,(0,(1000,(0,(0,r1.1))))))),r1.2)
theorem aia(N:Nat):dq Tryz.prog 21 [none,none,none,none] [.b (.v dk),.v GI,.v GI,.v GI] [.v cY] (fun x=>xf N x.1 x.2.1 x.2.2.1 x.2.2.2):=dM (N:=N) (p:=1) (q:=1) (ns:=ada) (fq ar2 Tryz.func21) (WL N).ok
def To(N:Nat):CE:=(WL N).a (cT (aia N))
def ar7:FD:=fd 15 nf [(.cell 2 true 3)] Tryz.f48 [(31,{w:=[(false,[.cO 0,.af [2],.out [0]])]})]
def alo:List NS:=[.cO 0,.af [2],.out [0]]
def HA(N:Nat)(a0:aB):Option (xZ×aB):=
  (eS N a0 1 120).bind fun r1=>
  (cE N r1.2 12).bind fun r2=>
  (cE N r2.2 r1.1).bind fun r3=>
  some ((r1.1,(r3.1,r2.1)),r3.2)
theorem ag2(N:Nat):dq Tryz.prog 48 [none] [.b (.v dk)] [.v M1] (fun x=>HA N x):=dM (N:=N) (p:=1) (q:=1) (ns:=alo) (fq ar7 Tryz.func48) (To N).ok
def KI(N:Nat):CE:=(To N).a (cT (ag2 N))
def S8:FD:=fd 54 nf [(.cell 4 true 6)] Tryz.f22 [(466,{ns:=[.af [0,3,4,5,6],.cmp]}),(511,{w:=[(false,[.cO 0,.af [4],.out [0]])]}),(119371,{w:=[(false,[.cO 0,.af [4],.out [0]])]})]
def VG:List NS:=[.cO 0,.af [4],.out [0]]
def adp:Exit->SI->Option (cB×aB):=fK VG [(.cell 4 true 6)] [.b (.v dk),.x (.p (.v iE) (.p (.v (.list cY)) (.p (.x 1) (.v (.pair (.list fy) (.list iJ))))))] [.v fQ] 1 1
section
variable (N n1:Nat) (x4:Int) (x5:List Int) (x6:Int) (x7:List bj) (x8:List aR) (x9:List bC) (aj:List bu) (ak:List bJ) (av:List cC) (ai:List cW) (ao aq ax ay aC aO aH aE aI aF az aG:Int)
def G2:Option (cB×aB):=lp (KI N).l N 1 S8.tc 331 [] adp n1 ⟨[(0,.ptr 0 0 0),(3,.ptr 1 0 0),(4,.ptr 2 0 0),(5,.ptr 3 0 0),(6,.i x4)],[some (ew x5 x6),some (.box 0 [.l bU x7,.l bY x8,.l cJ x9,.l cu aj,.l cY ak,.any,.l fy av,.l iJ ai]),some (.box 0 [.i ao,.i aq,.i ax,.i ay,.i aC,.i aO]),some (.box 0 [.i aH,.i aE,.i aI,.i aF,.i az,.i aG])]⟩
theorem Zv:G2 N (n1+1) x4 x5 x6 x7 x8 x9 aj ak av ai ao aq ax ay aC aO aH aE aI aF az aG=
  bif(decide (x4<(ak.length:Int))) then
  bif ae x4 ak.length then
  bif((ak.getD x4.toNat gJ).2.1==5) then
  some ((aH,(x4,(aI,(aF,(az,aG))))),(x5,x6))
  else
  G2 N n1 (W (x4+1)) x5 x6 x7 x8 x9 aj ak av ai ao aq ax ay aC aO aH aE aI aF az aG
  else none
  else
  bif(1==5) then
  bif((x8.length:Int)==0) then
  (cE N (x5,x6) 1).bind fun eP=>
  some ((1,(eP.1,(aI,(aF,(az,aG))))),eP.2)
  else
  (cE N (x5,x6) (x8.length:Int)).bind fun r50=>
  some ((1,(r50.1,(aI,(aF,(az,aG))))),r50.2)
  else
  bif((ak.length:Int)==0) then
  (cE N (x5,x6) 1).bind fun cQ=>
  some ((1,(cQ.1,(aI,(aF,(az,aG))))),cQ.2)
  else
  (cE N (x5,x6) (ak.length:Int)).bind fun nG=>
  some ((1,(nG.1,(aI,(aF,(az,aG))))),nG.2):=by kernel_rfl
end
def FV(N:Nat)(a0:aB)(a1:bQ×(List bJ)×Unit×(List cC)×List cW):Option (cB×aB):=
  (eS N a0 1 5).bind fun r1=>
  (eS N r1.2 0 60).bind fun r2=>
  (HA N r2.2).bind fun r3=>
  bif(r1.1==3) then
  G2 N N 0 r3.2.1 r3.2.2 a1.1.1.1 a1.1.1.2 a1.1.2.1 a1.1.2.2 a1.2.1 a1.2.2.2.1 a1.2.2.2.2 0 0 0 0 0 0 r1.1 0 r2.1 r3.1.1 r3.1.2.1 r3.1.2.2
  else
  bif(r1.1==5) then
  bif((a1.1.1.2.length:Int)==0) then
  (cE N r3.2 1).bind fun C2=>
  some ((r1.1,(C2.1,(r2.1,r3.1))),C2.2)
  else
  (cE N r3.2 (a1.1.1.2.length:Int)).bind fun r76=>
  some ((r1.1,(r76.1,(r2.1,r3.1))),r76.2)
  else
  bif((a1.2.1.length:Int)==0) then
  (cE N r3.2 1).bind fun r77=>
  some ((r1.1,(r77.1,(r2.1,r3.1))),r77.2)
  else
  (cE N r3.2 (a1.2.1.length:Int)).bind fun r78=>
  some ((r1.1,(r78.1,(r2.1,r3.1))),r78.2)
theorem ZI(N:Nat):dq Tryz.prog 22 [none,none] [.b (.v dk),.x (.p (.v iE) (.p (.v (.list cY)) (.p (.x 1) (.v (.pair (.list fy) (.list iJ))))))] [.v fQ] (fun x=>FV N x.1 x.2):=dM (N:=N) (p:=1) (q:=1) (ns:=VG) (fq S8 Tryz.func22) (KI N).ok
def E22(N:Nat):CE:=(KI N).a (cT (ZI N))
def Om:List NS:=[.own 6 aV,.cO 0,.af [6],.out [0]]
def UB:List NS:=[.wk 7 (.list aV),.wk 8 (.list aV),.af [0,7,8,9],.cmp]
def ahp:TC:=(.cond (.t 45) .skip (.exit 0))
def aqz:TC:=(.cond (.t 53) (.rg [.m 54 8,.m 55 9,.s 56 (.cP 4 (.t 54) (.t 55)),.s 57 (.bO 2 (.t 56)),.s 58 (.load false 1 (.t 57)),.m 59 7,.s 60 (.len (.t 59)),.s 61 (.bin .add (.t 58) (.t 60)),.s 62 (.cP 4 (.t 54) (.t 55)),.s 63 (.bO 2 (.t 62)),.d (.store 1 (.t 63) (.t 61))] none) .skip)
def axi:TC:=(.cond (.t 77) (.rg [.m 78 8,.m 79 9,.s 80 (.cP 4 (.t 78) (.t 79)),.s 81 (.bO 3 (.t 80)),.s 82 (.load false 1 (.t 81)),.m 83 7,.s 84 (.len (.t 83)),.s 85 (.bin .add (.t 82) (.t 84)),.s 86 (.cP 4 (.t 78) (.t 79)),.s 87 (.bO 3 (.t 86)),.d (.store 1 (.t 87) (.t 85))] none) .skip)
def ahx:TC:=(.seq (.rg [.m 64 8,.m 65 9,.s 66 (.cP 4 (.t 64) (.t 65)),.s 67 (.bO 0 (.t 66)),.s 68 (.load false 1 (.t 67)),.s 69 (.bin .eql (.t 68) (.c (I 3))),.m 70 69,⟨⟨some 71,(.bS (.t 8)),some (70,false)⟩,{}⟩,⟨⟨some 72,(.bS (.t 9)),some (70,false)⟩,{}⟩,⟨⟨some 73,(.cP 4 (.t 71) (.t
  72)),some (70,false)⟩,{}⟩,⟨⟨some 74,(.bO 0 (.t 73)),some (70,false)⟩,{}⟩,⟨⟨some 75,(.load false 1 (.t 74)),some (70,false)⟩,{}⟩,⟨⟨some 76,(.bin .eql (.t 75) (.c (I 4))),some (70,false)⟩,{}⟩,.s 77 (.pick (.t 70) (.c (B true)) (.t 76))] none) axi)
def adx:TC:=(.rg [.m 46 9,.s 47 (.bin .add (.t 46) (.c (I 1))),.m 9 47] none)
def af5:TC:=(.seq (.block 1 (.seq (.seq (.rg [.m 48 8,.m 49 9,.s 50 (.cP 4 (.t 48) (.t 49)),.s 51 (.bO 0 (.t 50)),.s 52 (.load false 1 (.t 51)),.s 53 (.bin .neq (.t 52) (.c (I 1)))] none) aqz) ahx)) adx)
def QN:TC:=(.seq (.seq (.rg [.m 42 9,.m 43 8,.s 44 (.len (.t 43)),.s 45 (.bin .lss (.t 42) (.t 44))] none) ahp) af5)
def ag8:TC:=.ret
def Zt:TC:=(.pre [.own 6 aV,.cO 0,.af [6],.out [0]] ag8)
def ab8:TC:=(.seq (.xV [([.m 93 7,.m 94 8],[.sl 7]),([.s 95 (.app 4 32 (.t 93) (.t 94)),.m 96 0,.s 97 (.call (.c (.fn 19 [])) [(.t 96),(.c (I 3)),(.c (I 4))]),.m 98 7,.s 99 (.len (.t 98)),.s 100 (.bin .sub (.t 99) (.c (I 1))),.m 101 10,.s 102 (.bin .sub (.t 101) (.c (I 1))),.s 103 (.build [(I 0),
  (I 0),(I 0),(I 0)] [(0,(1,(.t 97))),(2,(1,(.t 100))),(3,(1,(.t 102)))]),⟨⟨some 104,(.g9 false 4 [(I 0),(I 0),(I 0),(I 0)] 1 [(0,(.t 103))]),none⟩,⟨aV,none,[]⟩⟩,.s 105 (.app 4 32 (.t 95) (.t 104)),.m 6 105],[])]) Zt)
def Ta:TC:=(.seq (.rg [.m 88 7,.s 89 (.len (.t 88)),.m 90 8,.s 91 (.len (.t 90)),.s 92 (.bin .add (.t 89) (.t 91)),.m 10 92] none) ab8)
def aeh:TC:=.ret
def YN:TC:=(.pre [.own 6 aV,.cO 0,.af [6],.out [0]] aeh)
def ao7:TC:=(.cond (.t 29) (.seq (.rg [.m 30 7,.m 31 7,.s 32 (.len (.t 31)),.s 33 (.bin .sub (.t 32) (.c (I 1))),.s 34 (.build [(I 0),(I 0),(I 0),(I 0)] [(0,(1,(.c (I 2)))),(2,(1,(.t 33)))]),⟨⟨some 35,(.g9 false 4 [(I 0),(I 0),(I 0),(I 0)] 1 [(0,(.t 34))]),none⟩,⟨aV,none,[]⟩⟩,
  .s 36 (.app 4 32 (.t 30) (.t 35)),.m 6 36] none) YN) .skip)
def Yr:TC:=(.block 0 (.loop UB QN))
def aj9:TC:=(.seq (.seq (.rg [.s 9 (.bS (.c (I 0)))] none) Yr) Ta)
def asv:TC:=(.seq (.rg [.m 37 0,.m 38 1,.m 39 2,.s 40 (.bin .sub (.t 39) (.c (I 1))),.s 41 (.call (.c (.fn 23 [])) [(.t 37),(.t 38),(.t 40)]),.m 8 41] none) aj9)
def aps:TC:=(.seq (.seq (.rg [.m 28 0,.s 29 (.call (.c (.fn 6 [])) [(.t 28),(.c (I 4))])] none) ao7) asv)
def XM:TC:=(.seq (.rg [.m 23 0,.m 24 1,.m 25 2,.s 26 (.bin .sub (.t 25) (.c (I 1))),.s 27 (.call (.c (.fn 23 [])) [(.t 23),(.t 24),(.t 26)]),.m 7 27] none) aps)
def ak2:TC:=.ret
def ago:TC:=(.pre [.own 6 aV,.cO 0,.af [6],.out [0]] ak2)
def atr:TC:=(.cond (.t 17) (.seq (.rg [.m 18 0,.m 19 1,.s 20 (.call (.c (.fn 10 [])) [(.t 18),(.t 19)]),.s 21 (.build [(I 0),(I 0),(I 0),(I 0)] [(0,(1,(.c (I 1)))),(1,(1,(.t 20)))]),⟨⟨some 22,(.g9 true 4 [(I 0),(I 0),(I 0),(I 0)] 1 [(0,(.t 21))]),none⟩,⟨aV,none,[]⟩⟩,.m 6 22]
  none) ago) .skip)
def af7:TC:=(.join [.af [0,1,2],.cmp] XM)
def ax5:TC:=(.seq (.seq (.rg [.m 11 2,.s 12 (.bin .lss (.t 11) (.c (I 1))),.m 13 12,⟨⟨some 14,(.bS (.t 0)),some (13,false)⟩,{}⟩,⟨⟨some 15,(.call (.c (.fn 10 [])) [(.t 14),(.c (I 3))]),some (13,false)⟩,{}⟩,⟨⟨some 16,(.bin .eql (.t 15) (.c (I 0))),some (13,false)⟩,{}⟩,.s 17 (.pick (.t 13) (.c
  (B true)) (.t 16))] none) atr) af7)
def ai9:TC:=(.seq (.rg [.s 6 (.bS (.c (.ab true [])))] none) ax5)
def Gy(N:Nat)(self:aB->Int->Int->Option ((List aP)×aB)):List (Nat×eC):=[(10,ya [none,none] [.b (.v dk),.v GI] [.v GI] (fun x=>cE N x.1 x.2)),(23,ya [none,none,none] [.b (.v dk),.v GI,.v GI] [.o (.a aV)] (fun x=>self x.1 x.2.1 x.2.2)),(6,ya [none,none] [.b (.v dk),.v GI] [.v .bool] (fun x=>jb N x.1 x.2)),(19,ya [none,none,none] [.b (.v dk),.v GI,.v GI] [.v GI] (fun x=>eS N x.1 x.2.1 x.2.2))]
def nj(N:Nat)(self:aB->Int->Int->Option ((List aP)×aB))(n:Nat)(ai:Int)(ao:List Int)(aq:Int)(ax ay:List aP):Option ((List aP)×aB):=kE (fP 1 UB) (run (Gy N self) N 1 QN) n ⟨[(0,.ptr 0 0 0),(7,.whole 1),(8,.whole 2),(9,.i ai)],[some (ew ao aq),some (.arr aV ax),some (.arr aV ay)]⟩ (lq 0 (jO (run (Gy N self) N 1 Ta) (fK Om [(.t 6)] [.b (.v dk),.v GI,.v GI] [.o (.a aV)] 1 1)))
def XP(N:Nat)(self:aB->Int->Int->Option ((List aP)×aB))(JM:Nat)(x4 x5:Int)(x6:List Int)(x7:Int):Option ((List aP)×aB):=DJ (run (Gy N self) N 1 XM) JM ⟨[(0,.ptr 0 0 0),(1,.i x4),(2,.i x5)],[some (ew x6 x7)]⟩ (fK Om [(.t 6)] [.b (.v dk),.v GI,.v GI] [.o (.a aV)] 1 1)
theorem RF(N:Nat)(self:aB->Int->Int->Option ((List aP)×aB))(n1:Nat)(ai:Int)(ao:List Int)(aq:Int)(ax ay:List aP):nj N self (n1+1) ai ao aq ax ay=
  bif(decide (ai<(ay.length:Int))) then
  bif ae ai ay.length then
  bif((ay.getD ai.toNat dN).1 !=1) then
  bif ae ai ay.length then
  bif ae ai ay.length then
  let vP:=ay.getD ai.toNat dN
  let kO:=ay.set ai.toNat (vP.1,(vP.2.1,((W ((ay.getD ai.toNat dN).2.2.1+(ax.length:Int))),vP.2.2.2)))
  bif ae ai kO.length then
  bif((kO.getD ai.toNat dN).1==3) then
  bif ae ai kO.length then
  bif ae ai kO.length then
  let OW:=kO.getD ai.toNat dN
  nj N self n1 (W (ai+1)) ao aq ax (kO.set ai.toNat (OW.1,(OW.2.1,(OW.2.2.1,(W ((kO.getD ai.toNat dN).2.2.2+(ax.length:Int)))))))
  else none
  else none
  else
  bif ae ai kO.length then
  bif((kO.getD ai.toNat dN).1==4) then
  bif ae ai kO.length then
  bif ae ai kO.length then
  let rP:=kO.getD ai.toNat dN
  nj N self n1 (W (ai+1)) ao aq ax (kO.set ai.toNat (rP.1,(rP.2.1,(rP.2.2.1,(W ((kO.getD ai.toNat dN).2.2.2+(ax.length:Int)))))))
  else none
  else none
  else
  nj N self n1 (W (ai+1)) ao aq ax kO
  else none
  else none
  else none
  else none
  else
  bif ae ai ay.length then
  bif((ay.getD ai.toNat dN).1==3) then
  bif ae ai ay.length then
  bif ae ai ay.length then
  let o9:=ay.getD ai.toNat dN
  nj N self n1 (W (ai+1)) ao aq ax (ay.set ai.toNat (o9.1,(o9.2.1,(o9.2.2.1,(W ((ay.getD ai.toNat dN).2.2.2+(ax.length:Int)))))))
  else none
  else none
  else
  bif ae ai ay.length then
  bif((ay.getD ai.toNat dN).1==4) then
  bif ae ai ay.length then
  bif ae ai ay.length then
  let OX:=ay.getD ai.toNat dN
  nj N self n1 (W (ai+1)) ao aq ax (ay.set ai.toNat (OX.1,(OX.2.1,(OX.2.2.1,(W ((ay.getD ai.toNat dN).2.2.2+(ax.length:Int)))))))
  else none
  else none
  else
  nj N self n1 (W (ai+1)) ao aq ax ay
  else none
  else none
  else none
  else
  bif ba (ax.length+ay.length) 32 then
  (eS N (ao,aq) 3 4).bind fun C2=>
  bif ba ((ax++ay).length+1) 32 then
  some (((ax++ay)++[(C2.1,(0,((W (((ax.length:Nat):Int)-1)),W ((W ((ax.length:Int)+(ay.length:Int)))-1))))]),C2.2)
  else none
  else none:=by kernel_rfl
theorem avm(N:Nat)(self:aB->Int->Int->Option ((List aP)×aB))(JM:Nat)(x4 x5:Int)(x6:List Int)(x7:Int):XP N self (JM+1) x4 x5 x6 x7=
  (self (x6,x7) x4 (W (x5-1))).bind fun r8=>
  (jb N r8.2 4).bind fun r9=>
  bif r9.1 then
  bif ba (r8.1.length+1) 32 then
  some ((r8.1++[(2,(0,((W ((r8.1.length:Int)-1)),0)))]),r9.2)
  else none
  else
  (self r9.2 x4 (W (x5-1))).bind fun iM=>
  nj N self N 0 iM.2.1 iM.2.2 r8.1 iM.1:=by kernel_rfl
def Hl(N:Nat)(self:aB->Int->Int->Option ((List aP)×aB))(a0:aB)(a1:Int)(a2:Int):Option ((List aP)×aB):=
  bif(decide (a2<1)) then
  (cE N a0 a1).bind fun r1=>
  some ([(1,(r1.1,(0,0)))],r1.2)
  else
  (cE N a0 3).bind fun r2=>
  bif(r2.1==0) then
  (cE N r2.2 a1).bind fun r3=>
  some ([(1,(r3.1,(0,0)))],r3.2)
  else
  XP N self N a1 a2 r2.2.1 r2.2.2
def tG(N:Nat):Nat->aB->Int->Int->Option ((List aP)×aB)
 | 0,_,_,_=>none
 | n+1,a0,a1,a2=>Hl N (tG N n) a0 a1 a2
theorem Uy(N n:Nat)(a0:aB)(a1:Int)(a2:Int):tG N (n+1) a0 a1 a2=Hl N (tG N n) a0 a1 a2:=rfl
def Ok(N:Nat)(a0:aB)(a1:Int)(a2:Int):Option ((List aP)×aB):=tG N N a0 a1 a2
theorem ai6:ib Tryz.prog 23 106 (fun t:Nat=>Nat.beq t 22) ai9.er [(.t 6)]:=ib.mk' Tryz.func23 (by kernel_rfl) (by kernel_rfl) (by kernel_rfl) (by kernel_rfl) (by kernel_rfl)
theorem al9(N:Nat)(self:aB->Int->Int->Option ((List aP)×aB))(hself:dq Tryz.prog 23 [none,none,none] [.b (.v dk),.v GI,.v GI] [.o (.a aV)] (fun x=>self x.1 x.2.1 x.2.2)):iS Tryz.prog (Gy N self):=.cons (cT (VL N)) (.cons (cT hself) (.cons (cT (S7 N)) (.cons (cT (Wj N)) (.nil))))
theorem SA(N:Nat):∀n,dq Tryz.prog 23 [none,none,none] [.b (.v dk),.v GI,.v GI] [.o (.a aV)] (fun x=>tG N n x.1 x.2.1 x.2.2)
 | 0=>fun x y z h=>by cases h
 | n+1=>VW (N:=N) (p:=1) (q:=1) (ns:=Om) mixed ai6 (al9 N (tG N n) (SA N n)) (TC.mA (by kernel_rfl)) rfl rfl rfl (fun x=>by kernel_rfl)
theorem am2(N:Nat):dq Tryz.prog 23 [none,none,none] [.b (.v dk),.v GI,.v GI] [.o (.a aV)] (fun x=>Ok N x.1 x.2.1 x.2.2):=SA N N
def WB(N:Nat):CE:=(E22 N).a (cT (am2 N))
def s7:FD:=fd 181 nf [(.cell 2 true 8),(.cell 3 true 2),(.cell 4 true 2)] Tryz.f7 [(31,{w:=[(true,[.drop 5 0,.bg 8 0,.bg 7 0,.DH 7 1 LI,.DH 8 1 (.list bY),.af [0,2,3,4,5,6,7,8],.cmp])]}),(244,{an:=[(5,⟨bU,none,[]⟩)]}),(490,{an:=[(8,⟨bY,none,[]⟩)]}),(491,{an:=[(2,⟨GI,none,[]⟩),(4,⟨GI,
  none,[]⟩)]}),(506,{ns:=[.aM 8 4 cY,.af [0,2,3,4,5,6,7,8,9,10],.cmp]}),(1018,{ns:=[.aM 8 4 cY,.af [0,2,3,4,5,6,7,8,9,12],.cmp]}),(2042,{ns:=[.aM 8 4 cY,.af [0,2,3,4,5,6,7,8,9,13],.cmp]}),(2047,{w:=[(false,[.cy 8])]}),
  (4090,{ns:=[.aM 8 5 fQ,.bg 8 4,.af [0,2,3,4,6,7,8,9,14],.cmp]}),(4094,{an:=[(4,⟨iJ,none,[]⟩)]}),(8186,{ns:=[.aM 8 6 fy,.af [0,2,3,4,6,7,8,9,15],.cmp]}),(8191,{w:=[(false,[.cy 2,.cy 3,.cy 4,.cO 0,.af [2,3,4],.out
  [0]])]}),(16201,{an:=[(11,⟨cY,none,[]⟩)]}),(16292,{an:=[(8,⟨cY,none,[]⟩)]}),(32676,{an:=[(8,⟨cY,none,[]⟩)]}),(65444,{w:=[(false,[.bg 8 4])],an:=[(5,⟨fQ,none,[]⟩)]}),(523923,{w:=[(false,[.cy 16])],an:=[(3,⟨fy,none,[]⟩)]}),
  (2095690,{ns:=[.aM 16 2 GI,.af [0,2,3,4,6,7,8,9,15,16,17],.cmp]}),(134124178,{an:=[(3,⟨GI,none,[]⟩)]})]
def Qf:List NS:=[.cy 2,.cy 3,.cy 4,.cO 0,.af [2,3,4],.out [0]]
def sY(N:Nat):CE:=(WB N).a (aur (cT (auc N)) (cT (Xu N)))
def vp:Exit->SI->Option ((bX×bF×bF)×aB):=fK Qf [(.cell 2 true 8),(.cell 3 true 2),(.cell 4 true 2)] [.b (.v dk)] [.v fx,.v ep,.v ep] 1 1
section
variable (N JM n1 n2 n3 n4 n5 n6:Nat) (x5:List Int) (x6:Int) (x7:List aR) (x8:List bC) (x9:List bu) (aj ak av ai:List Int) (ao:List bj) (aq:List aR) (ax:List bC) (ay:List bu) (aO aH:Int) (aE:List Int) (aI:Int) (aF:List aR) (az:List bC) (aG:List bu) (aU bb aQ aZ:List Int) (bp:List bj) (bn:List aR) (bx:List bC) (bq:List bu) (bL:List bJ) (dH dE:Int) (dI:List Int) (dW:Int) (dX:List aR) (dO:List bC) (dC:List bu) (eb gB gC gU:List Int) (gV:List bj) (gW:List aR) (gX:List bC) (gY:List bu) (gw:List bJ) (jT gP:Int) (jy:List Int) (jU:Int) (gQ:List aR) (jz:List bC) (iN:List bu) (iO fX gR gS:List Int) (fM:List bj) (gu:List aR) (fC:List bC) (fY:List bu) (eU:List bJ) (IA IB:Int) (IC:List Int) (ID:Int) (IE IF IG II:List Int) (C4:List bj) (pX:List aR) (pY:List bC) (pZ:List bu) (qe:List bJ) (qf:List cB) (mC l6:Int) (l7:List Int) (l8:Int) (l9 lA lB lC:List Int) (lD:List bj) (lE:List aR) (lF:List bC) (lG:List bu) (lH:List bJ) (kP:List cB) (lI:List cC) (kt C5 yx:Int) (IJ:List Int) (IK:Int) (C6 C7 C8 C9:List Int) (CA:List bj) (CB:List aR) (CC:List bC) (CD:List bu) (CF:List bJ) (CG oA:Int) (lJ:List cB) (nH:List cC) (nJ:List aP) (mE:List Int)
def BF:Option ((bX×bF×bF)×aB):=lp (sY N).l N 1 s7.tc 2771951 [n5] vp n6 ⟨[(0,.ptr 0 0 0),(2,.ptr 1 0 0),(3,.ptr 2 0 0),(4,.ptr 3 0 0),(6,.ptr 4 0 0),(7,.ptr 5 0 0),(8,.ptr 6 0 0),(9,.i kt),(15,.i C5),(16,.ptr 7 0 0),(17,.i yx)],[some (ew IJ IK),some (qL),some (dF),some (dF),some (fi C6 C7),some (fi C8 C9),some (.box 0 [.l bU CA,.l bY CB,.l cJ CC,.l cu CD,.l cY CF,.whole 8,.whole 9,.nil]),some (.box 0 [.whole 10,.i CG,.whole 11,.i oA]),some (.arr fQ lJ),some (.arr fy nH),some (.arr aV nJ),some (.arr GI mE)]⟩
def zR:Option ((bX×bF×bF)×aB):=lp (sY N).l N 1 s7.tc 11247 [] vp n5 ⟨[(0,.ptr 0 0 0),(2,.ptr 1 0 0),(3,.ptr 2 0 0),(4,.ptr 3 0 0),(6,.ptr 4 0 0),(7,.ptr 5 0 0),(8,.ptr 6 0 0),(9,.i mC),(15,.i l6)],[some (ew l7 l8),some (qL),some (dF),some (dF),some (fi l9 lA),some (fi lB lC),some (.box 0 [.l bU lD,.l bY lE,.l cJ lF,.l cu lG,.l cY lH,.whole 7,.whole 8,.nil]),some (.arr fQ kP),some (.arr fy lI)]⟩
def He:Option ((bX×bF×bF)×aB):=lp (sY N).l N 1 s7.tc 5615 [] vp n4 ⟨[(0,.ptr 0 0 0),(2,.ptr 1 0 0),(3,.ptr 2 0 0),(4,.ptr 3 0 0),(6,.ptr 4 0 0),(7,.ptr 5 0 0),(8,.ptr 6 0 0),(9,.i IA),(14,.i IB)],[some (ew IC ID),some (qL),some (dF),some (dF),some (fi IE IF),some (fi IG II),some (.box 0 [.l bU C4,.l bY pX,.l cJ pY,.l cu pZ,.l cY qe,.whole 7,.nil,.nil]),some (.arr fQ qf)]⟩
def Ho:Option ((bX×bF×bF)×aB):=lp (sY N).l N 1 s7.tc 2799 [] vp n3 ⟨[(0,.ptr 0 0 0),(2,.ptr 1 0 0),(3,.ptr 2 0 0),(4,.ptr 3 0 0),(5,.ptr 4 0 0),(6,.ptr 5 0 0),(7,.ptr 6 0 0),(8,.ptr 7 0 0),(9,.i jT),(13,.i gP)],[some (ew jy jU),some (qL),some (dF),some (dF),some (.box 0 [.any,.l bY gQ,.l cJ jz,.l cu iN]),some (fi iO fX),some (fi gR gS),some (.box 0 [.l bU fM,.l bY gu,.l cJ fC,.l cu fY,.whole 8,.nil,.nil,.nil]),some (.arr cY eU)]⟩
def Fh:Option ((bX×bF×bF)×aB):=lp (sY N).l N 1 s7.tc 1391 [] vp n2 ⟨[(0,.ptr 0 0 0),(2,.ptr 1 0 0),(3,.ptr 2 0 0),(4,.ptr 3 0 0),(5,.ptr 4 0 0),(6,.ptr 5 0 0),(7,.ptr 6 0 0),(8,.ptr 7 0 0),(9,.i dH),(12,.i dE)],[some (ew dI dW),some (qL),some (dF),some (dF),some (.box 0 [.any,.l bY dX,.l cJ dO,.l cu dC]),some (fi eb gB),some (fi gC gU),some (.box 0 [.l bU gV,.l bY gW,.l cJ gX,.l cu gY,.whole 8,.nil,.nil,.nil]),some (.arr cY gw)]⟩
def GS:Option ((bX×bF×bF)×aB):=lp (sY N).l N 1 s7.tc 687 [] vp n1 ⟨[(0,.ptr 0 0 0),(2,.ptr 1 0 0),(3,.ptr 2 0 0),(4,.ptr 3 0 0),(5,.ptr 4 0 0),(6,.ptr 5 0 0),(7,.ptr 6 0 0),(8,.ptr 7 0 0),(9,.i aO),(10,.i aH)],[some (ew aE aI),some (qL),some (dF),some (dF),some (.box 0 [.any,.l bY aF,.l cJ az,.l cu aG]),some (fi aU bb),some (fi aQ aZ),some (.box 0 [.l bU bp,.l bY bn,.l cJ bx,.l cu bq,.whole 8,.nil,.nil,.nil]),some (.arr cY bL)]⟩
def B5:Option ((bX×bF×bF)×aB):=jn (sY N).l N 1 s7.tc 31 [] vp JM ⟨[(0,.ptr 0 0 0),(2,.ptr 1 0 0),(3,.ptr 2 0 0),(4,.ptr 3 0 0),(5,.ptr 4 0 0),(6,.ptr 5 0 0),(7,.ptr 6 0 0),(8,.ptr 7 0 0)],[some (ew x5 x6),some (qL),some (dF),some (dF),some (.box 0 [.any,.l bY x7,.l cJ x8,.l cu x9]),some (fi aj ak),some (fi av ai),some (.box 0 [.l bU ao,.l bY aq,.l cJ ax,.l cu ay,.nil,.nil,.nil,.nil])]⟩
theorem ab0:BF N n5 (n6+1) kt C5 yx IJ IK C6 C7 C8 C9 CA CB CC CD CF CG oA lJ nH nJ mE=
  bif(decide (yx<kt)) then
  (jb N (IJ,IK) 4).bind fun CH=>
  bif CH.1 then
  bif ba (mE.length+1) 8 then
  BF N n5 n6 kt C5 (W (yx+1)) CH.2.1 CH.2.2 C6 C7 C8 C9 CA CB CC CD CF CG oA lJ nH nJ (mE++[yx])
  else none
  else
  BF N n5 n6 kt C5 (W (yx+1)) CH.2.1 CH.2.2 C6 C7 C8 C9 CA CB CC CD CF CG oA lJ nH nJ mE
  else
  bif ba (nH.length+1) 64 then
  zR N n5 kt (W (C5-1)) IJ IK C6 C7 C8 C9 CA CB CC CD CF lJ (nH++[(nJ,(CG,(mE,oA)))])
  else none:=by kernel_rfl
theorem acg:zR N (n5+1) mC l6 l7 l8 l9 lA lB lC lD lE lF lG lH kP lI=
  bif(decide (l6>0)) then
  (Ok N (l7,l8) (kP.length:Int) 2).bind fun r170=>
  (cE N r170.2 9).bind fun r171=>
  (cE N r171.2 2).bind fun OY=>
  BF N n5 N mC l6 0 OY.2.1 OY.2.2 l9 lA lB lC lD lE lF lG lH r171.1 OY.1 kP lI r170.1 []
  else
  some (((((lD,lE),(lF,lG)),(lH,(kP,(lI,[(1,()),(2,()),(1,()),(3,())])))),(l9,lA),(lB,lC)),(l7,l8)):=by kernel_rfl
theorem ava:He N (n4+1) IA IB IC ID IE IF IG II C4 pX pY pZ qe qf=
  bif(decide (IB>0)) then
  (FV N (IC,ID) (((C4,pX),(pY,pZ)),(qe,((),([],[]))))).bind fun OZ=>
  bif ba (qf.length+1) 48 then
  He N n4 IA (W (IB-1)) OZ.2.1 OZ.2.2 IE IF IG II C4 pX pY pZ qe (qf++[OZ.1])
  else none
  else
  (eS N (IC,ID) 1 3).bind fun vQ=>
  zR N N IA vQ.1 vQ.2.1 vQ.2.2 IE IF IG II C4 pX pY pZ qe qf []:=by kernel_rfl
theorem al8:Ho N (n3+1) jT gP jy jU gQ jz iN iO fX gR gS fM gu fC fY eU=
  bif(decide (gP<(iN.length:Int))) then
  (xf N (jy,jU) 6 (eU.length:Int) gP).bind fun rH=>
  bif ba (eU.length+1) 64 then
  Ho N n3 jT (W (gP+1)) rH.2.1 rH.2.2 gQ jz iN iO fX gR gS fM gu fC fY (eU++[rH.1])
  else none
  else
  (eS N (jy,jU) 1 4).bind fun yy=>
  He N N jT yy.1 yy.2.1 yy.2.2 iO fX gR gS fM gu fC fY eU []:=by kernel_rfl
theorem as0:Fh N (n2+1) dH dE dI dW dX dO dC eb gB gC gU gV gW gX gY gw=
  bif(decide (dE<(dO.length:Int))) then
  (xf N (dI,dW) 5 (gw.length:Int) dE).bind fun yA=>
  bif ba (gw.length+1) 64 then
  Fh N n2 dH (W (dE+1)) yA.2.1 yA.2.2 dX dO dC eb gB gC gU gV gW gX gY (gw++[yA.1])
  else none
  else
  Ho N N dH 0 dI dW dX dO dC eb gB gC gU gV gW gX gY gw:=by kernel_rfl
theorem ani:GS N (n1+1) aO aH aE aI aF az aG aU bb aQ aZ bp bn bx bq bL=
  bif(decide (aH>0)) then
  (eS N (aE,aI) 1 4).bind fun I9=>
  (cE N I9.2 aO).bind fun r36=>
  (xf N r36.2 I9.1 (bL.length:Int) r36.1).bind fun oz=>
  bif ba (bL.length+1) 64 then
  GS N n1 aO (W (aH-1)) oz.2.1 oz.2.2 aF az aG aU bb aQ aZ bp bn bx bq (bL++[oz.1])
  else none
  else
  Fh N N aO 0 aE aI aF az aG aU bb aQ aZ bp bn bx bq bL:=by kernel_rfl
theorem abc:B5 N (JM+1) x5 x6 x7 x8 x9 aj ak av ai ao aq ax ay=
  (eS N (x5,x6) 1 4).bind fun dJ=>
  GS N N (aq.length:Int) dJ.1 dJ.2.1 dJ.2.2 x7 x8 x9 aj ak av ai ao aq ax ay []:=by kernel_rfl
end
def I7(N:Nat)(a0:aB):Option ((bX×bF×bF)×aB):=
  Option.or (
  (GU N a0).bind fun r1=>
  bif((r1.1.1.1.2.length:Int)==0) then
  bif ba (r1.1.1.1.1.length+1) 16 then
  let v2:=r1.1.1.1.1++[(0,true)]
  bif ba (r1.1.2.2.1.length+1) 8 then
  B5 N N r1.2.1 r1.2.2 r1.1.1.1.2 r1.1.1.2.1 r1.1.1.2.2 r1.1.2.1.1 r1.1.2.1.2 (r1.1.2.2.1++[0]) [0] v2 [(0,((W ((v2.length:Int)-1)),(10,(4,(false,(false,((1,1),(0,0))))))))] r1.1.1.2.1 r1.1.1.2.2
  else none
  else none
  else
  B5 N N r1.2.1 r1.2.2 r1.1.1.1.2 r1.1.1.2.1 r1.1.1.2.2 r1.1.2.1.1 r1.1.2.1.2 r1.1.2.2.1 r1.1.2.2.2 r1.1.1.1.1 r1.1.1.1.2 r1.1.1.2.1 r1.1.1.2.2)
  ((GF N a0).bind fun lK=>
  bif((lK.1.1.1.2.length:Int)==0) then
  none
  else
  B5 N N lK.2.1 lK.2.2 lK.1.1.1.2 lK.1.1.2.1 lK.1.1.2.2 lK.1.2.1.1 lK.1.2.1.2 lK.1.2.2.1 lK.1.2.2.2 lK.1.1.1.1 lK.1.1.1.2 lK.1.1.2.1 lK.1.1.2.2)
theorem au5(N:Nat):dq Tryz.prog 7 [none] [.b (.v dk)] [.v fx,.v ep,.v ep] (fun x=>I7 N x):=dM (N:=N) (p:=1) (q:=1) (ns:=Qf) (fq s7 Tryz.func7) (sY N).ok
def PE(N:Nat):CE:=(WB N).a (cT (au5 N))
def akn:FD:=fd 6 nf [(.t 2)] Tryz.f24 [(7,{w:=[(false,[.cO 0,.af [2],.out [0]])]})]
def alu:List NS:=[.cO 0,.af [2],.out [0]]
def I0(N:Nat)(a0:aB):Option (Int×aB):=
  (cE N a0 3).bind fun r1=>
  some (W (r1.1-1),r1.2)
theorem adz(N:Nat):dq Tryz.prog 24 [none] [.b (.v dk)] [.v GI] (fun x=>I0 N x):=dM (N:=N) (p:=1) (q:=1) (ns:=alu) (fq akn Tryz.func24) (PE N).ok
def Aa(N:Nat):CE:=(PE N).a (cT (adz N))
def EW:FD:=fd 72 nf [(.cell 4 true 3)] Tryz.f8 [(62,{an:=[(3,⟨.bool,none,[]⟩)]}),(122,{ns:=[.aM 5 0 di,.af [0,1,4,5,6,7],.cmp]}),(127,{w:=[(false,[.cy 5])]}),(255,{w:=[(false,[.cy 4,.cO 0,.af [4],.out [0]])]}),(506,{ns:=[.aM 5 1 GI,.wk 8 (.list .bool),.af [0,1,4,5,8,9],
  .cmp]}),(1956,{an:=[(12,⟨di,none,[]⟩)]}),(64804,{ns:=[.wk 8 (.list .bool),.af [0,1,4,5,8,9,10],.cmp]}),(64807,{an:=[(3,⟨GI,none,[]⟩)]})]
def PC:List NS:=[.cy 4,.cO 0,.af [4],.out [0]]
def MH:Exit->SI->Option (cz×aB):=fK PC [(.cell 4 true 3)] [.b (.v dk),.v GI] [.v fh] 1 1
section
variable (N n1 n2 n3:Nat) (x3 x4 x5:Int) (x6:List Int) (x7 x8 x9:Int) (aj:List bV) (az aG:Int) (aU:List Int) (bb aQ aZ:Int) (bp:List Bool) (bn:List bV) (bx:List Int) (bL bN bz:Int) (bP:List Int) (bA bw bZ:Int) (cb:List Bool) (cd:List bV) (bW:List Int)
def z9:Option (cz×aB):=lp (Aa N).l N 1 EW.tc 37471 [n2] MH n3 ⟨[(0,.ptr 0 0 0),(1,.i bL),(4,.ptr 1 0 0),(5,.ptr 2 0 0),(8,.whole 3),(9,.i bN),(10,.i bz)],[some (ew bP bA),some (.box 0 [.nil,.nil,.i bw]),some (.box 0 [.whole 4,.whole 5,.i bZ]),some (.arr .bool cb),some (.arr di cd),some (.arr GI bW)]⟩
def Cq:Option (cz×aB):=lp (Aa N).l N 1 EW.tc 351 [] MH n2 ⟨[(0,.ptr 0 0 0),(1,.i az),(4,.ptr 1 0 0),(5,.ptr 2 0 0),(8,.whole 3),(9,.i aG)],[some (ew aU bb),some (.box 0 [.nil,.nil,.i aQ]),some (.box 0 [.whole 4,.whole 5,.i aZ]),some (.arr .bool bp),some (.arr di bn),some (.arr GI bx)]⟩
def Ep:Option (cz×aB):=lp (Aa N).l N 1 EW.tc 87 [] MH n1 ⟨[(0,.ptr 0 0 0),(1,.i x3),(4,.ptr 1 0 0),(5,.ptr 2 0 0),(6,.i x4),(7,.i x5)],[some (ew x6 x7),some (.box 0 [.nil,.nil,.i x8]),some (.box 0 [.whole 3,.nil,.i x9]),some (.arr di aj)]⟩
theorem Qg:z9 N n2 (n3+1) bL bN bz bP bA bw bZ cb cd bW=
  bif ae bz cb.length then
  bif cb.getD bz.toNat false then
  bif(cb.length:Int)==0 then none else
  z9 N n2 n3 bL bN ((W (bz+1)).tmod (cb.length:Int)) bP bA bw bZ cb cd bW
  else
  bif ae bz cb.length then
  bif ba (bW.length+1) 8 then
  Cq N n2 bL (W (bN+1)) bP bA bw bZ (cb.set bz.toNat true) cd (bW++[bz])
  else none
  else none
  else none:=by kernel_rfl
theorem Za:Cq N (n2+1) az aG aU bb aQ aZ bp bn bx=
  bif(decide (aG<az)) then
  (cE N (aU,bb) (bn.length:Int)).bind fun CI=>
  z9 N n2 N az aG CI.1 CI.2.1 CI.2.2 aQ aZ bp bn bx
  else
  some ((bn,(bx,aZ)),(aU,bb)):=by kernel_rfl
theorem ag9:Ep N (n1+1) x3 x4 x5 x6 x7 x8 x9 aj=
  bif(decide (x5<(max x4 1))) then
  (cE N (x6,x7) (W (x5+1))).bind fun kM=>
  (jb N kM.2 2).bind fun iM=>
  (I0 N iM.2).bind fun rG=>
  bif ba (aj.length+1) 32 then
  Ep N n1 x3 x4 (W (x5+1)) rG.2.1 rG.2.2 x8 x9 (aj++[(W (kM.1-1),(0,(rG.1,(iM.1,false))))])
  else none
  else
  bif eH 1 (aj.length:Int) (aj.length:Int) then
  Cq N N x3 0 x6 x7 x8 x9 (List.replicate (aj.length:Int).toNat false) aj []
  else none:=by kernel_rfl
end
def Ix(N:Nat)(a0:aB)(a1:Int):Option (cz×aB):=
  (eS N a0 1 9).bind fun r1=>
  (cE N r1.2 3).bind fun r2=>
  Ep N N a1 (W (a1+r2.1)) 0 r2.2.1 r2.2.2 0 r1.1 []
theorem afz(N:Nat):dq Tryz.prog 8 [none,none] [.b (.v dk),.v GI] [.v fh] (fun x=>Ix N x.1 x.2):=dM (N:=N) (p:=1) (q:=1) (ns:=PC) (fq EW Tryz.func8) (Aa N).ok
def Qa(N:Nat):CE:=(Aa N).a (cT (afz N))
def Y5:FD:=fd 24 nf [(.t 6)] Tryz.f116 []
def BJ(N:Nat)(a0:aJ)(a1:Int)(a2:Int):Option Bool:=
  bif(decide (a1<=a0.1)) then
  bif(decide (a0.1<=a0.2)) then
  some (decide (a0.2<=a2))
  else
  some false
  else
  some false
theorem aqf(N:Nat):bk Tryz.prog 116 [bm,GI,GI] [.bool] (fun x=>BJ N x.1 x.2.1 x.2.2):=bG (N:=N) (fq Y5 Tryz.func116) (Qa N).ok
def xA(N:Nat):CE:=(Qa N).a (bD (aqf N))
def Al:FD:=fd 100 nf [(.t 2)] Tryz.f87 [(7,{w:=[(true,[.af [1],.cmp])]}),(58,{ns:=[.wk 19 (.list bU),.af [1,19,20,21],.cmp]}),(250,{ns:=[.wk 38 (.list bY),.af [5,38,39,40],.cmp]}),(32051,{w:=[(true,[.wk 38 (.list bY),.af [5,7,38,39,40],.cmp])]})]
def EF:Exit->SI->Option Int:=fin [(.t 2)] [GI]
section
variable (N JM n1 n2:Nat) (x1:List bj) (x2:List aR) (x3:List bj) (x4 x5:Int) (x6:List bj) (x7:List aR) (ao:Int) (aq:List aR) (ax ay aO:Int) (aH:List aR) (aE aI aF az aG aU:Int) (bb aQ:Bool) (aZ bp bn bx:Int)
def P2:Option Int:=jn (xA N).l N 0 Al.tc 58971 [n2] EF JM ⟨[(5,.i aO),(7,.ptr 0 0 0),(38,.l bY aH),(39,.i aE),(40,.i aI)],[some (.box 0 [.i aF,.i az,.i aG,.i aU,.bool bb,.bool aQ,.i aZ,.i bp,.i bn,.i bx])]⟩
def DL:Option Int:=lp (xA N).l N 0 Al.tc 347 [] EF n2 ⟨[(5,.i ao),(38,.l bY aq),(39,.i ax),(40,.i ay)],[]⟩
def Hn:Option Int:=lp (xA N).l N 0 Al.tc 83 [] EF n1 ⟨[(1,.ptr 0 0 0),(19,.l bU x3),(20,.i x4),(21,.i x5)],[some (.box 0 [.l bU x6,.l bY x7])]⟩
def Uo:Option Int:=jn (xA N).l N 0 Al.tc 7 [] EF JM ⟨[(1,.ptr 0 0 0)],[some (.box 0 [.l bU x1,.l bY x2])]⟩
theorem adl:P2 N (JM+1) n2 aO aH aE aI aF az aG aU bb aQ aZ bp bn bx=
  bif(decide (aG<1)) then
  some 1
  else
  bif(decide (aG>100000)) then
  some 1
  else
  bif(decide (aU<1)) then
  some 1
  else
  bif(decide (aU>1000)) then
  some 1
  else
  (BJ N (aZ,bp) 1 262144).bind fun CI=>
  bif(!CI) then
  some 1
  else
  (BJ N (bn,bx) (-2199023255552) 2199023255552).bind fun r34=>
  bif(!r34) then
  some 1
  else
  DL N n2 aO aH aE (W (aI+1)):=by kernel_rfl
theorem Wy:DL N (n2+1) ao aq ax ay=
  bif(decide (ay<ax)) then
  bif ae ay aq.length then
  let ku:=aq.getD ay.toNat fH
  bif(decide (ku.1<0)) then
  some 4
  else
  bif(decide (ku.1>=ao)) then
  some 4
  else
  bif(decide (ku.2.1<0)) then
  some 4
  else
  bif(decide (ku.2.1>=ao)) then
  some 4
  else
  bif(ku.1==ku.2.1) then
  some 4
  else
  P2 N N n2 ao aq ax ay ku.1 ku.2.1 ku.2.2.1 ku.2.2.2.1 ku.2.2.2.2.1 ku.2.2.2.2.2.1 ku.2.2.2.2.2.2.1.1 ku.2.2.2.2.2.2.1.2 ku.2.2.2.2.2.2.2.1 ku.2.2.2.2.2.2.2.2
  else none
  else
  some 0:=by kernel_rfl
theorem UX:Hn N (n1+1) x3 x4 x5 x6 x7=
  bif(decide (x5<x4)) then
  bif ae x5 x3.length then
  bif(decide ((x3.getD x5.toNat rq).1<(-10000))) then
  some 1
  else
  bif(decide ((x3.getD x5.toNat rq).1>10000)) then
  some 1
  else
  Hn N n1 x3 x4 (W (x5+1)) x6 x7
  else none
  else
  DL N N (x6.length:Int) x7 (x7.length:Int) 0:=by kernel_rfl
theorem ap9:Uo N (JM+1) x1 x2=
  Hn N N x1 (x1.length:Int) 0 x1 x2:=by kernel_rfl
end
def zk(N:Nat)(a0:dm):Option Int:=
  bif(decide ((a0.1.length:Int)>64)) then
  some 2
  else
  bif(decide ((a0.2.length:Int)>128)) then
  some 2
  else
  Uo N N a0.1 a0.2
theorem adt(N:Nat):bk Tryz.prog 87 [we] [GI] (fun x=>zk N x):=bG (N:=N) (fq Al Tryz.func87) (xA N).ok
def HQ(N:Nat):CE:=(xA N).a (bD (adt N))
def MY:FD:=fd 71 nf [(.t 2)] Tryz.f88 [(122,{ns:=[.wk 19 (.list bm),.af [1,19,20,21],.cmp]}),(15667,{w:=[(true,[.wk 19 (.list bm),.af [1,3,4,19,20,21],.cmp])]})]
def QY:Exit->SI->Option Int:=fin [(.t 2)] [GI]
section
variable (N JM n1:Nat) (x1:List aJ) (x2 x3 x4:Int) (x5 x6:Bool) (x7:List aJ) (x9:Int) (aj:List aJ) (ak av ai:Int) (ao aq:Bool) (ax:List aJ) (ay aC:Int)
def QC:Option Int:=jn (HQ N).l N 0 MY.tc 14743 [n1] QY JM ⟨[(1,.ptr 0 0 0),(3,.i x9),(4,.ptr 1 0 0),(19,.l bm aj),(20,.i ak),(21,.i av)],[some (.box 0 [.i ai,.bool ao,.bool aq,.l bm ax]),some (jG ay aC)]⟩
def Bd:Option Int:=lp (HQ N).l N 0 MY.tc 87 [] QY n1 ⟨[(1,.ptr 0 0 0),(19,.l bm x1),(20,.i x2),(21,.i x3)],[some (.box 0 [.i x4,.bool x5,.bool x6,.l bm x7])]⟩
theorem ayo:QC N (JM+1) n1 x9 aj ak av ai ao aq ax ay aC=
  bif(decide (x9>0)) then
  bif ae (W (x9-1)) ax.length then
  bif(decide (ay<=(ax.getD (W (x9-1)).toNat dZ).1)) then
  some 14
  else
  bif ae (W (x9-1)) ax.length then
  bif(decide (aC>(ax.getD (W (x9-1)).toNat dZ).2)) then
  some 14
  else
  Bd N n1 aj ak (W (av+1)) ai ao aq ax
  else none
  else none
  else
  Bd N n1 aj ak (W (av+1)) ai ao aq ax:=by kernel_rfl
theorem VH:Bd N (n1+1) x1 x2 x3 x4 x5 x6 x7=
  bif(decide (x3<x2)) then
  bif ae x3 x1.length then
  bif(decide ((x1.getD x3.toNat dZ).1<(-1048576))) then
  some 1
  else
  bif(decide ((x1.getD x3.toNat dZ).1>1048576)) then
  some 1
  else
  bif(decide ((x1.getD x3.toNat dZ).2<0)) then
  some 1
  else
  bif(decide ((x1.getD x3.toNat dZ).2>2199023255552)) then
  some 1
  else
  QC N N n1 x3 x1 x2 x3 x4 x5 x6 x7 (x1.getD x3.toNat dZ).1 (x1.getD x3.toNat dZ).2
  else none
  else
  some 0:=by kernel_rfl
end
def zY(N:Nat)(a0:bC):Option Int:=
  bif(decide (a0.1<0)) then
  some 4
  else
  bif(decide ((a0.2.2.2.length:Int)<1)) then
  some 2
  else
  bif(decide ((a0.2.2.2.length:Int)>8)) then
  some 2
  else
  Bd N N a0.2.2.2 (a0.2.2.2.length:Int) 0 a0.1 a0.2.1 a0.2.2.1 a0.2.2.2
theorem ax1(N:Nat):bk Tryz.prog 88 [cJ] [GI] (fun x=>zY N x):=bG (N:=N) (fq MY Tryz.func88) (HQ N).ok
def zx(N:Nat):CE:=(HQ N).a (bD (ax1 N))
def D0:FD:=fd 95 nf [(.t 2)] Tryz.f89 [(58,{ns:=[.wk 0 (.list cu),.wk 11 (.list cu),.af [0,11,12,13],.cmp]}),(14951,{w:=[(true,[.wk 0 (.list cu),.wk 11 (.list cu),.af [0,3,4,11,12,13],.cmp])]}),(239226,{ns:=[.wk 0 (.list cu),.wk 11 (.list cu),.wk 32 LI,.af [0,3,
  4,5,11,12,13,32,33,34],.cmp]})]
def Of:Exit->SI->Option Int:=fin [(.t 2)] [GI]
section
variable (N JM n1 n2:Nat) (x1 x2:List bu) (x3 x4:Int) (x6:List bu) (x7:Int) (x8:List bu) (x9 aj ak av:Int) (ai:List Int) (ao:List bu) (aq:Int) (ax:Bool) (ay:List bu) (aC aO:Int) (aH:List Int) (aE aI aF az:Int) (aG:List Int)
def xL:Option Int:=lp (zx N).l N 0 D0.tc 351435 [n1] Of n2 ⟨[(0,.l cu ao),(3,.i aq),(4,.ptr 0 0 0),(5,.bool ax),(11,.l cu ay),(12,.i aC),(13,.i aO),(32,.l GI aH),(33,.i aE),(34,.i aI)],[some (.box 0 [.i aF,.i az,.l GI aG])]⟩
def Tx:Option Int:=jn (zx N).l N 0 D0.tc 15563 [n1] Of JM ⟨[(0,.l cu x6),(3,.i x7),(4,.ptr 0 0 0),(11,.l cu x8),(12,.i x9),(13,.i aj)],[some (.box 0 [.i ak,.i av,.l GI ai])]⟩
def xK:Option Int:=lp (zx N).l N 0 D0.tc 43 [] Of n1 ⟨[(0,.l cu x1),(11,.l cu x2),(12,.i x3),(13,.i x4)],[]⟩
theorem axz:xL N n1 (n2+1) ao aq ax ay aC aO aH aE aI aF az aG=
  bif(decide (aI<aE)) then
  bif ae aI aH.length then
  bif(decide ((aH.getD aI.toNat 0)<0)) then
  some 1
  else
  bif(decide ((aH.getD aI.toNat 0)>262144)) then
  some 1
  else
  bif ax then
  bif(aI==0) then
  xL N n1 n2 ao aq true ay aC aO aH aE (W (aI+1)) aF az aG
  else
  bif ae (W (aI-1)) aG.length then
  xL N n1 n2 ao aq (decide ((aH.getD aI.toNat 0)<(aG.getD (W (aI-1)).toNat 0))) ay aC aO aH aE (W (aI+1)) aF az aG
  else none
  else
  xL N n1 n2 ao aq false ay aC aO aH aE (W (aI+1)) aF az aG
  else none
  else
  bif(!ax) then
  some 15
  else
  bif(az !=(-1)) then
  bif(decide (az<0)) then
  some 15
  else
  bif(decide (az>=(ao.length:Int))) then
  some 15
  else
  bif(az==aq) then
  some 15
  else
  bif ae az ao.length then
  bif((ao.getD az.toNat iZ).2.1 !=aq) then
  some 15
  else
  xK N n1 ao ay aC (W (aO+1))
  else none
  else
  xK N n1 ao ay aC (W (aO+1)):=by kernel_rfl
theorem avq:Tx N (JM+1) n1 x6 x7 x8 x9 aj ak av ai=
  xL N n1 N x6 x7 true x8 x9 aj ai (ai.length:Int) 0 ak av ai:=by kernel_rfl
theorem ads:xK N (n1+1) x1 x2 x3 x4=
  bif(decide (x4<x3)) then
  bif ae x4 x2.length then
  bif(decide ((x2.getD x4.toNat iZ).1<0)) then
  some 4
  else
  bif(decide (((x2.getD x4.toNat iZ).2.2.length:Int)<2)) then
  some 2
  else
  bif(decide (((x2.getD x4.toNat iZ).2.2.length:Int)>6)) then
  some 2
  else
  Tx N N n1 x1 x4 x2 x3 x4 (x2.getD x4.toNat iZ).1 (x2.getD x4.toNat iZ).2.1 (x2.getD x4.toNat iZ).2.2
  else none
  else
  some 0:=by kernel_rfl
end
def Gx(N:Nat)(a0:List bu):Option Int:=
  bif(decide ((a0.length:Int)>16)) then
  some 2
  else
  xK N N a0 a0 (a0.length:Int) 0
theorem aij(N:Nat):bk Tryz.prog 89 [(.list cu)] [GI] (fun x=>Gx N x):=bG (N:=N) (fq D0 Tryz.func89) (zx N).ok
def D2(N:Nat):CE:=(zx N).a (bD (aij N))
def KZ:FD:=fd 61 nf [(.t 2)] Tryz.f49 [(122,{ns:=[.wk 21 (.list cJ),.af [1,21,22,23],.cmp]}),(506,{ns:=[.wk 47 (.list cu),.af [1,47,48,49],.cmp]})]
def TZ:Exit->SI->Option Int:=fin [(.t 2)] [GI]
section
variable (N n1 n2:Nat) (x2:List bC) (x3 x4:Int) (x5:List bj) (x6:List aR) (x7:List bC) (x8 aO:List bu) (aH aE:Int) (aI:List bj) (aF:List aR) (az:List bC) (aG:List bu)
def Fc:Option Int:=lp (D2 N).l N 0 KZ.tc 351 [] TZ n2 ⟨[(1,.ptr 0 0 0),(47,.l cu aO),(48,.i aH),(49,.i aE)],[some (m8 aI aF az aG)]⟩
def HL:Option Int:=lp (D2 N).l N 0 KZ.tc 87 [] TZ n1 ⟨[(1,.ptr 0 0 0),(21,.l cJ x2),(22,.i x3),(23,.i x4)],[some (m8 x5 x6 x7 x8)]⟩
theorem aw2:Fc N (n2+1) aO aH aE aI aF az aG=
  bif(decide (aE<aH)) then
  bif ae aE aO.length then
  bif(decide ((aO.getD aE.toNat iZ).1>=(aF.length:Int))) then
  some 4
  else
  Fc N n2 aO aH (W (aE+1)) aI aF az aG
  else none
  else
  some 0:=by kernel_rfl
theorem Yn:HL N (n1+1) x2 x3 x4 x5 x6 x7 x8=
  bif(decide (x4<x3)) then
  bif ae x4 x2.length then
  (zY N (x2.getD x4.toNat nT)).bind fun ly=>
  bif(ly !=0) then
  some ly
  else
  bif(decide ((x2.getD x4.toNat nT).1>=(x6.length:Int))) then
  some 4
  else
  HL N n1 x2 x3 (W (x4+1)) x5 x6 x7 x8
  else none
  else
  (Gx N x8).bind fun dJ=>
  bif(dJ !=0) then
  some dJ
  else
  Fc N N x8 (x8.length:Int) 0 x5 x6 x7 x8:=by kernel_rfl
end
def tj(N:Nat)(a0:bQ):Option Int:=
  (zk N a0.1).bind fun r1=>
  bif(r1 !=0) then
  some r1
  else
  bif(decide ((a0.2.1.length:Int)>8)) then
  some 2
  else
  HL N N a0.2.1 (a0.2.1.length:Int) 0 a0.1.1 a0.1.2 a0.2.1 a0.2.2
theorem asi(N:Nat):bk Tryz.prog 49 [iE] [GI] (fun x=>tj N x):=bG (N:=N) (fq KZ Tryz.func49) (D2 N).ok
def O3(N:Nat):CE:=(D2 N).a (bD (asi N))
def Tq:FD:=fd 24 nf [(.t 6)] Tryz.f95 [(26,{ns:=[.wk 9 LI,.af [0,1,9,10,11],.cmp]})]
def aaq:Exit->SI->Option Bool:=fin [(.t 6)] [.bool]
section
variable (N n1:Nat) (x1 x2:Int) (x3:List Int) (x4 x5:Int)
def Bm:Option Bool:=lp (O3 N).l N 0 Tq.tc 21 [] aaq n1 ⟨[(0,.i x1),(1,.i x2),(9,.l GI x3),(10,.i x4),(11,.i x5)],[]⟩
theorem QU:Bm N (n1+1) x1 x2 x3 x4 x5=
  bif(decide (x5<x4)) then
  bif ae x5 x3.length then
  bif(decide ((x3.getD x5.toNat 0)<x1)) then
  some false
  else
  bif(decide ((x3.getD x5.toNat 0)>x2)) then
  some false
  else
  Bm N n1 x1 x2 x3 x4 (W (x5+1))
  else none
  else
  some true:=by kernel_rfl
end
def pH(N:Nat)(a0:Int)(a1:Int)(a2:List Int):Option Bool:=
  Bm N N a0 a1 a2 (a2.length:Int) 0
theorem ag0(N:Nat):bk Tryz.prog 95 [GI,GI,LI] [.bool] (fun x=>pH N x.1 x.2.1 x.2.2):=bG (N:=N) (fq Tq Tryz.func95) (O3 N).ok
def Qt(N:Nat):CE:=(O3 N).a (bD (ag0 N))
def acp:FD:=fd 44 nf [(.t 2)] Tryz.f59 [(24,{an:=[(2,⟨GI,none,[]⟩)]}),(102,{an:=[(2,⟨GI,none,[]⟩),(15,⟨GI,none,[]⟩)]}),(414,{an:=[(4,⟨GI,none,[]⟩),(10,⟨GI,none,[]⟩)]})]
def su(N:Nat)(a0:bJ):Option Int:=
  (pH N 1 6 [a0.2.1]).bind fun r1=>
  bif(!r1) then
  some 5
  else
  (pH N 0 255 [a0.1]).bind fun r2=>
  bif(!r2) then
  some 1
  else
  bif(decide (a0.2.2.1<0)) then
  some 1
  else
  (pH N (-1000000) 1000000 [a0.2.2.2.1,a0.2.2.2.2.1]).bind fun r3=>
  bif(!r3) then
  some 1
  else
  (pH N 0 1000000 [a0.2.2.2.2.2.1,a0.2.2.2.2.2.2.1]).bind fun r4=>
  bif(!r4) then
  some 1
  else
  (pH N 1 1000000 [a0.2.2.2.2.2.2.2]).bind fun r5=>
  bif(!r5) then
  some 1
  else
  some 0
theorem atw(N:Nat):bk Tryz.prog 59 [cY] [GI] (fun x=>su N x):=bG (N:=N) (fq acp Tryz.func59) (Qt N).ok
def VP(N:Nat):CE:=(Qt N).a (bD (atw N))
def aba:FD:=fd 12 nf [(.t 4)] Tryz.f90 []
def mO(N:Nat)(a0:Int)(a1:Int):Option Bool:=
  bif(decide (a0>=0)) then
  some (decide (a0<a1))
  else
  some false
theorem abn(N:Nat):bk Tryz.prog 90 [GI,GI] [.bool] (fun x=>mO N x.1 x.2):=bG (N:=N) (fq aba Tryz.func90) (VP N).ok
def EY(N:Nat):CE:=(VP N).a (bD (abn N))
def O5:FD:=fd 62 nf [(.t 2)] Tryz.f50 [(26,{ns:=[.wk 10 (.list cY),.af [1,10,11,12],.cmp]}),(108158,{ns:=[.wk 10 (.list cY),.wk 49 (.list cY),.af [1,4,10,11,12,49,50,51],.cmp]})]
def QP:Exit->SI->Option Int:=fin [(.t 2)] [GI]
section
variable (N n1 n2:Nat) (x1:List bJ) (x2 x3:Int) (x4:List bj) (x5:List aR) (x6:List bC) (x7:List bu) (x8:List bJ) (x9:List cB) (aj:List cC) (ak:List cW) (ax:List bJ) (ay aC:Int) (aO:List bJ) (aH aE:Int) (aI:List bj) (aF:List aR) (az:List bC) (aG:List bu) (aU:List bJ) (bb:List cB) (aQ:List cC) (aZ:List cW) (bp bn bx bq bL bN bz bP:Int)
def xt:Option Int:=lp (EY N).l N 0 O5.tc 97893 [n1] QP n2 ⟨[(1,.ptr 0 0 0),(4,.ptr 1 0 0),(10,.l cY ax),(11,.i ay),(12,.i aC),(49,.l cY aO),(50,.i aH),(51,.i aE)],[some (fU aI aF az aG aU bb aQ aZ),some (.box 0 [.i bp,.i bn,.i bx,.i bq,.i bL,.i bN,.i bz,.i bP])]⟩
def BL:Option Int:=lp (EY N).l N 0 O5.tc 21 [] QP n1 ⟨[(1,.ptr 0 0 0),(10,.l cY x1),(11,.i x2),(12,.i x3)],[some (fU x4 x5 x6 x7 x8 x9 aj ak)]⟩
theorem aoz:xt N n1 (n2+1) ax ay aC aO aH aE aI aF az aG aU bb aQ aZ bp bn bx bq bL bN bz bP=
  bif(decide (aE<aH)) then
  bif ae aE aO.length then
  bif((aO.getD aE.toNat gJ).1==bp) then
  some 9
  else
  xt N n1 n2 ax ay aC aO aH (W (aE+1)) aI aF az aG aU bb aQ aZ bp bn bx bq bL bN bz bP
  else none
  else
  BL N n1 ax ay (W (aC+1)) aI aF az aG aU bb aQ aZ:=by kernel_rfl
theorem aru:BL N (n1+1) x1 x2 x3 x4 x5 x6 x7 x8 x9 aj ak=
  bif(decide (x3<x2)) then
  bif ae x3 x1.length then
  let ez:=x1.getD x3.toNat gJ
  (su N ez).bind fun rG=>
  bif(rG !=0) then
  some rG
  else
  bif(ez.2.1==5) then
  (mO N ez.2.2.1 (x6.length:Int)).bind fun yr=>
  bif(!yr) then
  some 9
  else
  bif gz 0 x3 x8.length then
  xt N n1 N x1 x2 x3 (x8.take x3.toNat) ((x8.take x3.toNat).length:Int) 0 x4 x5 x6 x7 x8 x9 aj ak ez.1 ez.2.1 ez.2.2.1 ez.2.2.2.1 ez.2.2.2.2.1 ez.2.2.2.2.2.1 ez.2.2.2.2.2.2.1 ez.2.2.2.2.2.2.2
  else none
  else
  bif(ez.2.1==6) then
  (mO N ez.2.2.1 (x7.length:Int)).bind fun r94=>
  bif(!r94) then
  some 9
  else
  bif gz 0 x3 x8.length then
  xt N n1 N x1 x2 x3 (x8.take x3.toNat) ((x8.take x3.toNat).length:Int) 0 x4 x5 x6 x7 x8 x9 aj ak ez.1 ez.2.1 ez.2.2.1 ez.2.2.2.1 ez.2.2.2.2.1 ez.2.2.2.2.2.1 ez.2.2.2.2.2.2.1 ez.2.2.2.2.2.2.2
  else none
  else
  (mO N ez.2.2.1 (x5.length:Int)).bind fun gD=>
  bif(!gD) then
  some 9
  else
  bif gz 0 x3 x8.length then
  xt N n1 N x1 x2 x3 (x8.take x3.toNat) ((x8.take x3.toNat).length:Int) 0 x4 x5 x6 x7 x8 x9 aj ak ez.1 ez.2.1 ez.2.2.1 ez.2.2.2.1 ez.2.2.2.2.1 ez.2.2.2.2.2.1 ez.2.2.2.2.2.2.1 ez.2.2.2.2.2.2.2
  else none
  else none
  else
  some 0:=by kernel_rfl
end
def NB(N:Nat)(a0:bX):Option Int:=
  BL N N a0.2.1 (a0.2.1.length:Int) 0 a0.1.1.1 a0.1.1.2 a0.1.2.1 a0.1.2.2 a0.2.1 a0.2.2.1 a0.2.2.2.1 a0.2.2.2.2
theorem acq(N:Nat):bk Tryz.prog 50 [fx] [GI] (fun x=>NB N x):=bG (N:=N) (fq O5 Tryz.func50) (EY N).ok
def WR(N:Nat):CE:=(EY N).a (bD (acq N))
def air:FD:=fd 28 nf [(.t 2)] Tryz.f91 []
def uA(N:Nat)(a0:xZ):Option Int:=
  bif(decide (a0.1>1000000)) then
  some 1
  else
  bif(decide (a0.2.1<0)) then
  some 1
  else
  bif(decide (a0.2.1>=a0.1)) then
  some 1
  else
  bif(decide (a0.2.2<0)) then
  some 1
  else
  bif(decide (a0.2.2>100000)) then
  some 1
  else
  some 0
theorem al0(N:Nat):bk Tryz.prog 91 [M1] [GI] (fun x=>uA N x):=bG (N:=N) (fq air Tryz.func91) (WR N).ok
def NU(N:Nat):CE:=(WR N).a (bD (al0 N))
def QD:FD:=fd 62 nf [(.t 4)] Tryz.f51 [(53,{w:=[(true,[.af [2,3,6,7],.cmp])]})]
def al3:Exit->SI->Option Int:=fin [(.t 4)] [GI]
section
variable (N JM:Nat) (x1:Int) (x2:Bool) (x3:List bj) (x4:List aR) (x5:List bC) (x6:List bu) (x7:List bJ) (x8:List cB) (x9:List cC) (aj:List cW) (ak av ai ao aq ax:Int)
def Ca:Option Int:=jn (NU N).l N 0 QD.tc 53 [] al3 JM ⟨[(2,.ptr 0 0 0),(3,.ptr 1 0 0),(6,.i x1),(7,.bool x2)],[some (fU x3 x4 x5 x6 x7 x8 x9 aj),some (.box 0 [.i ak,.i av,.i ai,.i ao,.i aq,.i ax])]⟩
theorem ag3:Ca N (JM+1) x1 x2 x3 x4 x5 x6 x7 x8 x9 aj ak av ai ao aq ax=
  bif x2 then
  (mO N av (x7.length:Int)).bind fun rQ=>
  bif(!rQ) then
  some 9
  else
  bif(decide (ai<0)) then
  some 1
  else
  bif(decide (ai>1099511627776)) then
  some 1
  else
  bif(ak==1) then
  (uA N (ao,(aq,ax))).bind fun dJ=>
  some dJ
  else
  some 0
  else
  bif(x1==3) then
  (mO N av (x7.length:Int)).bind fun fR=>
  bif(!fR) then
  some 9
  else
  bif ae av x7.length then
  bif((x7.getD av.toNat gJ).2.1 !=5) then
  some 9
  else
  bif(decide (ai<0)) then
  some 1
  else
  bif(decide (ai>1099511627776)) then
  some 1
  else
  bif(ak==1) then
  (uA N (ao,(aq,ax))).bind fun r21=>
  some r21
  else
  some 0
  else none
  else
  bif(x1==5) then
  (mO N av (x4.length:Int)).bind fun CJ=>
  bif(!CJ) then
  some 4
  else
  bif(decide (ai<0)) then
  some 1
  else
  bif(decide (ai>1099511627776)) then
  some 1
  else
  bif(ak==1) then
  (uA N (ao,(aq,ax))).bind fun IL=>
  some IL
  else
  some 0
  else
  some 5:=by kernel_rfl
end
def Dw(N:Nat)(a0:bX)(a1:cB):Option Int:=
  bif(a1.1==1) then
  Ca N N a1.1 true a0.1.1.1 a0.1.1.2 a0.1.2.1 a0.1.2.2 a0.2.1 a0.2.2.1 a0.2.2.2.1 a0.2.2.2.2 a1.1 a1.2.1 a1.2.2.1 a1.2.2.2.1 a1.2.2.2.2.1 a1.2.2.2.2.2
  else
  bif(a1.1==2) then
  Ca N N a1.1 true a0.1.1.1 a0.1.1.2 a0.1.2.1 a0.1.2.2 a0.2.1 a0.2.2.1 a0.2.2.2.1 a0.2.2.2.2 a1.1 a1.2.1 a1.2.2.1 a1.2.2.2.1 a1.2.2.2.2.1 a1.2.2.2.2.2
  else
  Ca N N a1.1 (a1.1==4) a0.1.1.1 a0.1.1.2 a0.1.2.1 a0.1.2.2 a0.2.1 a0.2.2.1 a0.2.2.2.1 a0.2.2.2.2 a1.1 a1.2.1 a1.2.2.1 a1.2.2.2.1 a1.2.2.2.2.1 a1.2.2.2.2.2
theorem ajf(N:Nat):bk Tryz.prog 51 [fx,fQ] [GI] (fun x=>Dw N x.1 x.2):=bG (N:=N) (fq QD Tryz.func51) (NU N).ok
def ZB(N:Nat):CE:=(NU N).a (bD (ajf N))
def asr:TC:=.ret
def apg:TC:=(.cond (.t 17) (.seq (.rg [.s 4 (.bS (.c (I 0))),.s 5 (.bS (.c (I 0))),.s 6 (.bS (.c (B false)))] none) asr) .skip)
def arc:TC:=.ret
def Ye:TC:=.ret
def Yj:TC:=(.seq (.rg [.m 55 8,.m 56 9,.s 57 (.bin .add (.t 56) (.c (I 1))),.m 58 10,.m 59 58,⟨⟨some 60,(.bO 1 (.t 7)),some (59,true)⟩,{}⟩,⟨⟨some 61,(.load false 1 (.t 60)),some (59,true)⟩,{}⟩,⟨⟨some 62,(.bin .eql (.t 61) (.c (I 0))),some (59,true)⟩,{}⟩,.s 63 (.pick (.t 59) (.t 62) (.c (B
  false))),.m 64 63,⟨⟨some 65,(.bO 3 (.t 7)),some (64,true)⟩,{}⟩,⟨⟨some 66,(.load false 1 (.t 65)),some (64,true)⟩,{}⟩,⟨⟨some 67,(.bin .eql (.t 66) (.c (I 0))),some (64,true)⟩,{}⟩,.s 68 (.pick (.t 64) (.t 67) (.c (B false))),.m 69 68,⟨⟨some 70,(.bO 2 (.t 7)),some (69,true)⟩,
  {}⟩,⟨⟨some 71,(.load false 1 (.t 70)),some (69,true)⟩,{}⟩,⟨⟨some 72,(.bS (.t 1)),some (69,true)⟩,{}⟩,⟨⟨some 73,(.bin .sub (.t 72) (.c (I 1))),some (69,true)⟩,{}⟩,⟨⟨some 74,(.bin .eql (.t 71) (.t 73)),some (69,true)⟩,{}⟩,.s 75 (.pick (.t 69) (.t 74) (.c (B false))),.m 4 55,.m
  5 57,.m 6 75] (some [])) Ye)
def alh:TC:=(.cond (.t 76) .skip (.rg [.s 78 (.bin .eql (.t 23) (.c (I 4))),.m 76 78] none))
def Zs:TC:=.ret
def ant:TC:=(.cond (.t 107) (.seq (.rg [.s 4 (.bS (.c (I 0))),.s 5 (.bS (.c (I 0))),.s 6 (.bS (.c (B false)))] none) Zs) .skip)
def ap3:TC:=.ret
def YE:TC:=(.seq (.rg [.m 116 14,.m 117 15,.m 118 12,.s 119 (.mm true [(.t 117),(.t 118)]),.s 120 (.bin .add (.t 119) (.c (I 1))),.m 121 13,.m 4 116,.m 5 120,.m 6 121] none) ap3)
def YS:TC:=(.seq (.rg [.m 109 0,.m 110 11,.s 111 (.bin .sub (.t 110) (.c (I 1))),.s 112 (.call (.c (.fn 119 [])) [(.t 109),(.t 111)]),.m 108 112,.s 113 (.jm 0 (.t 108)),.s 114 (.jm 1 (.t 108)),.s 115 (.jm 2 (.t 108)),.m 14 113,.m 15 114,.m 13 115] none) YE)
def ayi:TC:=(.seq (.seq (.rg [.m 87 13,.s 88 (.un .not (.t 87)),.m 89 88,⟨⟨some 90,(.bO 1 (.t 7)),some (89,false)⟩,{}⟩,⟨⟨some 91,(.load false 1 (.t 90)),some (89,false)⟩,{}⟩,⟨⟨some 92,(.bin .neq (.t 91) (.c (I 0))),some (89,false)⟩,{}⟩,.s 93 (.pick (.t 89) (.c (B true)) (.t 92)),.m 94 93,
  ⟨⟨some 95,(.bO 3 (.t 7)),some (94,false)⟩,{}⟩,⟨⟨some 96,(.load false 1 (.t 95)),some (94,false)⟩,{}⟩,⟨⟨some 97,(.bS (.t 1)),some (94,false)⟩,{}⟩,⟨⟨some 98,(.bin .sub (.t 97) (.c (I 1))),some (94,false)⟩,{}⟩,⟨⟨some 99,(.bin .neq (.t 96) (.t 98)),some (94,false)⟩,{}⟩,.s
  100 (.pick (.t 94) (.c (B true)) (.t 99)),.m 101 100,⟨⟨some 102,(.bO 2 (.t 7)),some (101,false)⟩,{}⟩,⟨⟨some 103,(.load false 1 (.t 102)),some (101,false)⟩,{}⟩,⟨⟨some 104,(.bS (.t 11)),some (101,false)⟩,{}⟩,⟨⟨some 105,(.bin .sub (.t 104) (.c (I 1))),some (101,false)⟩,{}⟩,
  ⟨⟨some 106,(.bin .neq (.t 103) (.t 105)),some (101,false)⟩,{}⟩,.s 107 (.pick (.t 101) (.c (B true)) (.t 106))] none) ant) YS)
def ans:TC:=(.cond (.t 76) (.seq (.rg [.m 80 0,.m 81 1,.s 82 (.bin .sub (.t 81) (.c (I 1))),.s 83 (.call (.c (.fn 119 [])) [(.t 80),(.t 82)]),.m 79 83,.s 84 (.jm 0 (.t 79)),.s 85 (.jm 1 (.t 79)),.s 86 (.jm 2 (.t 79)),.m 11 84,.m 12 85,.m 13 86] none) ayi) .skip)
def ab2:TC:=(.cond (.t 45) (.seq (.rg [.m 48 0,.m 49 1,.s 50 (.bin .sub (.t 49) (.c (I 1))),.s 51 (.call (.c (.fn 119 [])) [(.t 48),(.t 50)]),.m 47 51,.s 52 (.jm 0 (.t 47)),.s 53 (.jm 1 (.t 47)),.s 54 (.jm 2 (.t 47)),.m 8 52,.m 9 53,.m 10 54] none) Yj) (.seq (.seq (.rg [.s 77 (.bin
  .eql (.t 23) (.c (I 3))),.m 76 77] none) alh) ans))
def ak5:TC:=(.cond (.t 24) (.seq (.rg [.m 26 1,.s 27 (.bO 2 (.t 7)),.s 28 (.load false 1 (.t 27)),.s 29 (.bin .eql (.t 28) (.c (I 0))),.m 30 29,⟨⟨some 31,(.bO 3 (.t 7)),some (30,true)⟩,{}⟩,⟨⟨some 32,(.load false 1 (.t 31)),some (30,true)⟩,{}⟩,⟨⟨some 33,(.bin .eql (.t 32) (.c (I 0))),some
  (30,true)⟩,{}⟩,.s 34 (.pick (.t 30) (.t 33) (.c (B false))),.m 35 34,⟨⟨some 36,(.bO 1 (.t 7)),some (35,true)⟩,{}⟩,⟨⟨some 37,(.load false 1 (.t 36)),some (35,true)⟩,{}⟩,⟨⟨some 38,(.bin .geq (.t 37) (.c (I 0))),some (35,true)⟩,{}⟩,.s 39 (.pick (.t 35) (.t 38) (.c (B false))),.m
  40 39,⟨⟨some 41,(.bO 1 (.t 7)),some (40,true)⟩,{}⟩,⟨⟨some 42,(.load false 1 (.t 41)),some (40,true)⟩,{}⟩,⟨⟨some 43,(.bin .lss (.t 42) (.c (I 64))),some (40,true)⟩,{}⟩,.s 44 (.pick (.t 40) (.t 43) (.c (B false))),.m 4 26,.s 5 (.bS (.c (I 1))),.m 6 44] (some [])) arc)
  (.seq (.rg [.s 46 (.bin .eql (.t 23) (.c (I 2))),.m 45 46] none) ab2))
def aqn:TC:=(.block 0 (.seq (.rg [.s 25 (.bin .eql (.t 23) (.c (I 1))),.m 24 25] none) ak5))
def axh:TC:=.ret
def ark:TC:=(.seq (.rg [.s 4 (.bS (.c (I 0))),.s 5 (.bS (.c (I 0))),.s 6 (.bS (.c (B false)))] none) axh)
def aa9:TC:=(.seq (.seq (.rg [.s 22 (.bO 0 (.t 7)),.s 23 (.load false 1 (.t 22))] none) aqn) ark)
def ap2:TC:=(.seq (.rg [.m 18 0,.m 19 1,.s 20 (.cP 4 (.t 18) (.t 19)),.s 21 (.load true 4 (.t 20)),.s 7 (.alloc [(I 0),(I 0),(I 0),(I 0)]),.d (.store 4 (.t 7) (.t 21))] none) aa9)
def ZQ:TC:=(.seq (.seq (.rg [.m 16 1,.s 17 (.bin .lss (.t 16) (.c (I 0)))] none) apg) ap2)
def avg:TC:=(.seq (.rg [.s 4 (.bS (.c (I 0))),.s 5 (.bS (.c (I 0))),.s 6 (.bS (.c (B false)))] none) ZQ)
def aw8(N:Nat)(self:(List aP)->Int->Option (Int×Int×Bool)):List (Nat×eC):=[(119,K8 [(.list aV),GI] [GI,GI,.bool] (fun x=>self x.1 x.2))]
def wv(N:Nat)(self:(List aP)->Int->Option (Int×Int×Bool))(a0:List aP)(a1:Int):Option (Int×Int×Bool):=
  bif(decide (a1<0)) then
  some (0,0,false)
  else
  bif ae a1 a0.length then
  let v1:=a0.getD a1.toNat dN
  bif(v1.1==1) then
  bif(v1.2.2.1==0) then
  bif(v1.2.2.2==0) then
  bif(decide (v1.2.1>=0)) then
  some (a1,1,(decide (v1.2.1<64)))
  else
  some (a1,1,false)
  else
  some (a1,1,false)
  else
  some (a1,1,false)
  else
  bif(v1.1==2) then
  (self a0 (W (a1-1))).bind fun r2=>
  bif r2.2.2 then
  bif(v1.2.1==0) then
  bif(v1.2.2.2==0) then
  some (r2.1,W (r2.2.1+1),(v1.2.2.1==(W (a1-1))))
  else
  some (r2.1,W (r2.2.1+1),false)
  else
  some (r2.1,W (r2.2.1+1),false)
  else
  some (r2.1,W (r2.2.1+1),false)
  else
  bif(v1.1==3) then
  (self a0 (W (a1-1))).bind fun r3=>
  bif(!r3.2.2) then
  some (0,0,false)
  else
  bif(v1.2.1 !=0) then
  some (0,0,false)
  else
  bif(v1.2.2.2 !=(W (a1-1))) then
  some (0,0,false)
  else
  bif(v1.2.2.1 !=(W (r3.1-1))) then
  some (0,0,false)
  else
  (self a0 (W (r3.1-1))).bind fun r4=>
  some (r4.1,(W ((max r4.2.1 r3.2.1)+1)),r4.2.2)
  else
  bif(v1.1==4) then
  (self a0 (W (a1-1))).bind fun r6=>
  bif(!r6.2.2) then
  some (0,0,false)
  else
  bif(v1.2.1 !=0) then
  some (0,0,false)
  else
  bif(v1.2.2.2 !=(W (a1-1))) then
  some (0,0,false)
  else
  bif(v1.2.2.1 !=(W (r6.1-1))) then
  some (0,0,false)
  else
  (self a0 (W (r6.1-1))).bind fun r7=>
  some (r7.1,(W ((max r7.2.1 r6.2.1)+1)),r7.2.2)
  else
  some (0,0,false)
  else none
def rr(N:Nat):Nat->(List aP)->Int->Option (Int×Int×Bool)
 | 0,_,_=>none
 | n+1,a0,a1=>wv N (rr N n) a0 a1
theorem Gs(N n:Nat)(a0:List aP)(a1:Int):rr N (n+1) a0 a1=wv N (rr N n) a0 a1:=rfl
def Kw(N:Nat)(a0:List aP)(a1:Int):Option (Int×Int×Bool):=rr N N a0 a1
theorem as9:ib Tryz.prog 119 122 (fun _:Nat=>false) avg.er [(.t 4),(.t 5),(.t 6)]:=ib.mk' Tryz.func119 (by kernel_rfl) (by kernel_rfl) (by kernel_rfl) (by kernel_rfl) (by kernel_rfl)
theorem YO(N:Nat)(self:(List aP)->Int->Option (Int×Int×Bool))(hself:bk Tryz.prog 119 [(.list aV),GI] [GI,GI,.bool] (fun x=>self x.1 x.2)):iS Tryz.prog (aw8 N self):=.cons (bD hself) (.nil)
theorem R6(N:Nat):∀n,bk Tryz.prog 119 [(.list aV),GI] [GI,GI,.bool] (fun x=>rr N n x.1 x.2)
 | 0=>fun x y h=>by cases h
 | n+1=>NO (N:=N) mixed as9 (YO N (rr N n) (R6 N n)) (TC.mA (by kernel_rfl)) rfl (fun x=>by kernel_rfl)
theorem adw(N:Nat):bk Tryz.prog 119 [(.list aV),GI] [GI,GI,.bool] (fun x=>Kw N x.1 x.2):=R6 N N
def Rf(N:Nat):CE:=(ZB N).a (bD (adw N))
def Z3:FD:=fd 32 nf [(.t 2)] Tryz.f104 []
def xp(N:Nat)(a0:List aP):Option Bool:=
  bif(decide ((a0.length:Int)<1)) then
  some false
  else
  bif(decide ((a0.length:Int)>64)) then
  some false
  else
  (Kw N a0 (W ((a0.length:Int)-1))).bind fun r2=>
  bif r2.2.2 then
  bif(r2.1==0) then
  some (decide (r2.2.1<=16))
  else
  some false
  else
  some false
theorem arb(N:Nat):bk Tryz.prog 104 [(.list aV)] [.bool] (fun x=>xp N x):=bG (N:=N) (fq Z3 Tryz.func104) (Rf N).ok
def Lv(N:Nat):CE:=(Rf N).a (bD (arb N))
def WG:FD:=fd 26 nf [(.t 4)] Tryz.f92 [(58,{ns:=[.wk 10 (.list aV),.af [1,10,11,12],.cmp]})]
def afm:Exit->SI->Option Int:=fin [(.t 4)] [GI]
section
variable (N n1:Nat) (x2:Int) (x3:List aP) (x4 x5:Int)
def Ag:Option Int:=lp (Lv N).l N 0 WG.tc 43 [] afm n1 ⟨[(1,.i x2),(10,.l aV x3),(11,.i x4),(12,.i x5)],[]⟩
theorem ati:Ag N (n1+1) x2 x3 x4 x5=
  bif(decide (x5<x4)) then
  bif ae x5 x3.length then
  let v6:=x3.getD x5.toNat dN
  bif(v6.1==1) then
  bif(decide (v6.2.1>=x2)) then
  some 1
  else
  Ag N n1 x2 x3 x4 (W (x5+1))
  else
  Ag N n1 x2 x3 x4 (W (x5+1))
  else none
  else
  some 0:=by kernel_rfl
end
def Gl(N:Nat)(a0:List aP)(a1:Int):Option Int:=
  (xp N a0).bind fun r1=>
  bif(!r1) then
  some 18
  else
  Ag N N a1 a0 (a0.length:Int) 0
theorem ab1(N:Nat):bk Tryz.prog 92 [(.list aV),GI] [GI] (fun x=>Gl N x.1 x.2):=bG (N:=N) (fq WG Tryz.func92) (Lv N).ok
def D5(N:Nat):CE:=(Lv N).a (bD (ab1 N))
def K3:FD:=fd 66 nf [(.t 4)] Tryz.f52 [(15,{w:=[(true,[.af [2,3],.cmp])]}),(122,{ns:=[.wk 36 LI,.af [2,3,36,37,38],.cmp]})]
def U5:Exit->SI->Option Int:=fin [(.t 4)] [GI]
section
variable (N JM n1:Nat) (x2:List bj) (x3:List aR) (x4:List bC) (x5:List bu) (x6:List bJ) (x7:List cB) (x8:List cC) (x9:List cW) (aj:List aP) (ak:Int) (av:List Int) (ai:Int) (ao:List Int) (aq ax:Int) (ay:List bj) (aC:List aR) (aO:List bC) (aH:List bu) (aE:List bJ) (aI:List cB) (aF:List cC) (az:List cW) (aG:List aP) (aU:Int) (bb:List Int) (aQ:Int)
def AZ:Option Int:=lp (D5 N).l N 0 K3.tc 167 [] U5 n1 ⟨[(2,.ptr 0 0 0),(3,.ptr 1 0 0),(36,.l GI ao),(37,.i aq),(38,.i ax)],[some (fU ay aC aO aH aE aI aF az),some (.box 0 [.l aV aG,.i aU,.l GI bb,.i aQ])]⟩
def Re:Option Int:=jn (D5 N).l N 0 K3.tc 15 [] U5 JM ⟨[(2,.ptr 0 0 0),(3,.ptr 1 0 0)],[some (fU x2 x3 x4 x5 x6 x7 x8 x9),some (.box 0 [.l aV aj,.i ak,.l GI av,.i ai])]⟩
theorem amo:AZ N (n1+1) ao aq ax ay aC aO aH aE aI aF az aG aU bb aQ=
  bif(decide (ax<aq)) then
  bif ae ax ao.length then
  (mO N (ao.getD ax.toNat 0) (aC.length:Int)).bind fun eZ=>
  bif(!eZ) then
  some 4
  else
  bif(decide (ax>0)) then
  bif ae (W (ax-1)) bb.length then
  bif(decide ((ao.getD ax.toNat 0)<=(bb.getD (W (ax-1)).toNat 0))) then
  some 4
  else
  AZ N n1 ao aq (W (ax+1)) ay aC aO aH aE aI aF az aG aU bb aQ
  else none
  else
  AZ N n1 ao aq (W (ax+1)) ay aC aO aH aE aI aF az aG aU bb aQ
  else none
  else
  some 0:=by kernel_rfl
theorem aic:Re N (JM+1) x2 x3 x4 x5 x6 x7 x8 x9 aj ak av ai=
  AZ N N av (av.length:Int) 0 x2 x3 x4 x5 x6 x7 x8 x9 aj ak av ai:=by kernel_rfl
end
def Gt(N:Nat)(a0:bX)(a1:cC):Option Int:=
  (Gl N a1.1 (a0.2.2.1.length:Int)).bind fun r1=>
  bif(r1 !=0) then
  some r1
  else
  bif(decide (a1.2.1<0)) then
  some 1
  else
  bif(decide (a1.2.1>100000)) then
  some 1
  else
  bif(decide (a1.2.2.2<0)) then
  some 1
  else
  bif(decide (a1.2.2.2>100)) then
  some 1
  else
  Re N N a0.1.1.1 a0.1.1.2 a0.1.2.1 a0.1.2.2 a0.2.1 a0.2.2.1 a0.2.2.2.1 a0.2.2.2.2 a1.1 a1.2.1 a1.2.2.1 a1.2.2.2
theorem awf(N:Nat):bk Tryz.prog 52 [fx,fy] [GI] (fun x=>Gt N x.1 x.2):=bG (N:=N) (fq K3 Tryz.func52) (D5 N).ok
def wD(N:Nat):CE:=(D5 N).a (bD (awf N))
def Ao:FD:=fd 90 nf [(.t 2)] Tryz.f25 [(15,{w:=[(true,[.af [1],.cmp])]}),(250,{ns:=[.wk 47 (.list fQ),.af [1,47,48,49],.cmp]}),(506,{ns:=[.wk 61 (.list fy),.af [1,61,62,63],.cmp]}),(1018,{ns:=[.wk 75 (.list iJ),.af [75,76,77],.cmp]})]
def GR:Exit->SI->Option Int:=fin [(.t 2)] [GI]
section
variable (N JM n1 n2 n3:Nat) (x2:List bj) (x3:List aR) (x4:List bC) (x5:List bu) (x6:List bJ) (x7:List cB) (x8:List cC) (x9:List cW) (ak:List cB) (av ai:Int) (ao:List bj) (aq:List aR) (ax:List bC) (ay:List bu) (aC:List bJ) (aO:List cB) (aH:List cC) (aE:List cW) (bN:List cC) (bz bP:Int) (bA:List bj) (bw:List aR) (bZ:List bC) (cb:List bu) (cd:List bJ) (bW:List cB) (cU:List cC) (cK dX:List cW) (dO dC:Int)
def D6:Option Int:=lp (wD N).l N 0 Ao.tc 1399 [] GR n3 ⟨[(75,.l iJ dX),(76,.i dO),(77,.i dC)],[]⟩
def Io:Option Int:=lp (wD N).l N 0 Ao.tc 695 [] GR n2 ⟨[(1,.ptr 0 0 0),(61,.l fy bN),(62,.i bz),(63,.i bP)],[some (fU bA bw bZ cb cd bW cU cK)]⟩
def EO:Option Int:=lp (wD N).l N 0 Ao.tc 343 [] GR n1 ⟨[(1,.ptr 0 0 0),(47,.l fQ ak),(48,.i av),(49,.i ai)],[some (fU ao aq ax ay aC aO aH aE)]⟩
def UR:Option Int:=jn (wD N).l N 0 Ao.tc 15 [] GR JM ⟨[(1,.ptr 0 0 0)],[some (fU x2 x3 x4 x5 x6 x7 x8 x9)]⟩
theorem avc:D6 N (n3+1) dX dO dC=
  bif(decide (dC<dO)) then
  bif ae dC dX.length then
  let v62:=dX.getD dC.toNat oZ
  bif(decide (v62.1<1)) then
  some 19
  else
  bif(decide (v62.1>3)) then
  some 19
  else
  D6 N n3 dX dO (W (dC+1))
  else none
  else
  some 0:=by kernel_rfl
theorem aye:Io N (n2+1) bN bz bP bA bw bZ cb cd bW cU cK=
  bif(decide (bP<bz)) then
  bif ae bP bN.length then
  (Gt N (((bA,bw),(bZ,cb)),(cd,(bW,(cU,cK)))) (bN.getD bP.toNat iU)).bind fun rR=>
  bif(rR !=0) then
  some rR
  else
  Io N n2 bN bz (W (bP+1)) bA bw bZ cb cd bW cU cK
  else none
  else
  D6 N N cK (cK.length:Int) 0:=by kernel_rfl
theorem atj:EO N (n1+1) ak av ai ao aq ax ay aC aO aH aE=
  bif(decide (ai<av)) then
  bif ae ai ak.length then
  (Dw N (((ao,aq),(ax,ay)),(aC,(aO,(aH,aE)))) (ak.getD ai.toNat F2)).bind fun IL=>
  bif(IL !=0) then
  some IL
  else
  EO N n1 ak av (W (ai+1)) ao aq ax ay aC aO aH aE
  else none
  else
  Io N N aH (aH.length:Int) 0 ao aq ax ay aC aO aH aE:=by kernel_rfl
theorem acy:UR N (JM+1) x2 x3 x4 x5 x6 x7 x8 x9=
  (NB N (((x2,x3),(x4,x5)),(x6,(x7,(x8,x9))))).bind fun ly=>
  bif(ly !=0) then
  some ly
  else
  EO N N x7 (x7.length:Int) 0 x2 x3 x4 x5 x6 x7 x8 x9:=by kernel_rfl
end
def tM(N:Nat)(a0:bX):Option Int:=
  (tj N a0.1).bind fun r1=>
  bif(r1 !=0) then
  some r1
  else
  bif(decide ((a0.2.1.length:Int)>64)) then
  some 2
  else
  bif(decide ((a0.2.2.1.length:Int)>64)) then
  some 2
  else
  bif(decide ((a0.2.2.2.1.length:Int)>16)) then
  some 2
  else
  bif(decide ((a0.2.2.2.2.length:Int)>64)) then
  some 2
  else
  UR N N a0.1.1.1 a0.1.1.2 a0.1.2.1 a0.1.2.2 a0.2.1 a0.2.2.1 a0.2.2.2.1 a0.2.2.2.2
theorem abf(N:Nat):bk Tryz.prog 25 [fx] [GI] (fun x=>tM N x):=bG (N:=N) (fq Ao Tryz.func25) (wD N).ok
def zw(N:Nat):CE:=(wD N).a (bD (abf N))
def Iu:FD:=fd 101 nf [(.t 2)] Tryz.f26 [(7,{w:=[(true,[.af [1],.cmp])]}),(30,{an:=[(3,⟨.bool,none,[]⟩)]}),(58,{ns:=[.wk 19 (.list di),.af [1,19,20,21],.cmp]}),(250,{ns:=[.wk 5 (.list .bool),.wk 70 LI,.af [1,5,70,71,72],.cmp]})]
def KJ:Exit->SI->Option Int:=fin [(.t 2)] [GI]
section
variable (N JM n1 n2:Nat) (x1:List bV) (x2:List Int) (x3:Int) (x4:List bV) (x5 x6:Int) (x7:List bV) (x8:List Int) (x9:Int) (az:List Int) (aG aU:Int) (bb:List bV) (aQ:List Int) (aZ:Int) (bp:List Bool)
def I2:Option Int:=lp (zw N).l N 0 Iu.tc 347 [] KJ n2 ⟨[(1,.ptr 0 0 0),(5,.whole 1),(70,.l GI az),(71,.i aG),(72,.i aU)],[some (lQ bb aQ aZ),some (.arr .bool bp)]⟩
def A5:Option Int:=lp (zw N).l N 0 Iu.tc 83 [] KJ n1 ⟨[(1,.ptr 0 0 0),(19,.l di x4),(20,.i x5),(21,.i x6)],[some (lQ x7 x8 x9)]⟩
def Rb:Option Int:=jn (zw N).l N 0 Iu.tc 7 [] KJ JM ⟨[(1,.ptr 0 0 0)],[some (lQ x1 x2 x3)]⟩
theorem aon:I2 N (n2+1) az aG aU bb aQ aZ bp=
  bif(decide (aU<aG)) then
  bif ae aU az.length then
  bif(decide ((az.getD aU.toNat 0)<0)) then
  some 16
  else
  bif(decide ((az.getD aU.toNat 0)>=(bb.length:Int))) then
  some 16
  else
  bif ae (az.getD aU.toNat 0) bp.length then
  bif(bp.getD ((az.getD aU.toNat 0).toNat) false) then
  some 17
  else
  bif ae (az.getD aU.toNat 0) bp.length then
  I2 N n2 az aG (W (aU+1)) bb aQ aZ (bp.set ((az.getD aU.toNat 0).toNat) true)
  else none
  else none
  else none
  else
  bif(decide (aZ<1)) then
  some 1
  else
  bif(decide (aZ>100000)) then
  some 1
  else
  some 0:=by kernel_rfl
theorem ayc:A5 N (n1+1) x4 x5 x6 x7 x8 x9=
  bif(decide (x6<x5)) then
  bif ae x6 x4.length then
  let v10:=x4.getD x6.toNat bM
  bif(decide (v10.1<(-1))) then
  some 16
  else
  bif(decide (v10.1>=x6)) then
  some 16
  else
  bif(decide (v10.2.1<0)) then
  some 8
  else
  bif(decide (v10.2.1>2147483648)) then
  some 8
  else
  bif(decide (v10.2.2.1<(-1))) then
  some 10
  else
  bif(decide (v10.2.2.1>1)) then
  some 10
  else
  bif v10.2.2.2.2 then
  bif v10.2.2.2.1 then
  some 10
  else
  bif(v10.2.2.1==(-1)) then
  some 10
  else
  A5 N n1 x4 x5 (W (x6+1)) x7 x8 x9
  else
  A5 N n1 x4 x5 (W (x6+1)) x7 x8 x9
  else none
  else
  bif eH 1 (x7.length:Int) (x7.length:Int) then
  I2 N N x8 (x8.length:Int) 0 x7 x8 x9 (List.replicate (x7.length:Int).toNat false)
  else none:=by kernel_rfl
theorem arf:Rb N (JM+1) x1 x2 x3=
  A5 N N x1 (x1.length:Int) 0 x1 x2 x3:=by kernel_rfl
end
def oj(N:Nat)(a0:cz):Option Int:=
  bif(decide ((a0.1.length:Int)>32)) then
  some 2
  else
  bif(decide ((a0.2.1.length:Int)>16)) then
  some 2
  else
  Rb N N a0.1 a0.2.1 a0.2.2
theorem VF(N:Nat):bk Tryz.prog 26 [fh] [GI] (fun x=>oj N x):=bG (N:=N) (fq Iu Tryz.func26) (zw N).ok
def PX(N:Nat):CE:=(zw N).a (bD (VF N))
def agh:FD:=fd 5 nf [(.t 2)] Tryz.f54 [(6,{an:=[(1,⟨GI,none,[]⟩)]}),(7,{w:=[(false,[.ej 2])]})]
def wX(N:Nat)(a0:List Int):Option (List Int):=
  bif ba a0.length 8 then
  some a0
  else none
theorem ari(N:Nat):bk Tryz.prog 54 [LI] [LI] (fun x=>wX N x):=bG (N:=N) (fq agh Tryz.func54) (PX N).ok
def Ht(N:Nat):CE:=(PX N).a (bD (ari N))
def OD:FD:=fd 55 nf [(.cell 2 true 4)] Tryz.f93 [(6,{w:=[(false,[.wait])],an:=[(3,⟨bU,none,[]⟩),(7,⟨bY,none,[]⟩),(10,⟨.unit,some 2,[]⟩)]}),(31,{w:=[(false,[.cy 3])]}),(58,{ns:=[.aM 3 2 cJ,.wk 19 (.list cJ),.af [1,2,3,19,20,21],.cmp]}),(63,{w:=[(false,[.cy 2])]}),(122,{ns:=[.aM 3
  3 cu,.wk 37 (.list cu),.af [2,3,37,38,39],.cmp]}),(7474,{an:=[(2,⟨bm,none,[]⟩)]}),(7475,{an:=[(3,⟨cJ,none,[]⟩)]}),(15667,{an:=[(3,⟨cu,none,[]⟩)]})]
def PL:Exit->SI->Option bQ:=fin [(.cell 2 true 4)] [iE]
section
variable (N n1 n2:Nat) (x1:List bC) (x2 x3:Int) (x4:List bj) (x5:List aR) (x6:List bC) (x7:List bu) (x8:List bj) (x9:List aR) (aj:List bC) (aF:List bu) (az aG:Int) (aU:List bj) (bb:List aR) (aQ:List bC) (aZ:List bu)
def GZ:Option bQ:=lp (Ht N).l N 0 OD.tc 87 [] PL n2 ⟨[(2,.ptr 0 0 0),(3,.ptr 1 0 0),(37,.l cu aF),(38,.i az),(39,.i aG)],[some (kV),some (.box 1 [.l bU aU,.l bY bb,.whole 2,.whole 3]),some (.arr cJ aQ),some (.arr cu aZ)]⟩
def EU:Option bQ:=lp (Ht N).l N 0 OD.tc 43 [] PL n1 ⟨[(1,.ptr 0 0 0),(2,.ptr 1 0 0),(3,.ptr 2 0 0),(19,.l cJ x1),(20,.i x2),(21,.i x3)],[some (m8 x4 x5 x6 x7),some (kV),some (.box 1 [.l bU x8,.l bY x9,.whole 3,.nil]),some (.arr cJ aj)]⟩
theorem U9:GZ N (n2+1) aF az aG aU bb aQ aZ=
  bif(decide (aG<az)) then
  bif ae aG aF.length then
  let v30:=aF.getD aG.toNat iZ
  (wX N v30.2.2).bind fun OU=>
  bif ba (aZ.length+1) 40 then
  GZ N n2 aF az (W (aG+1)) aU bb aQ (aZ++[(v30.1,(v30.2.1,OU))])
  else none
  else none
  else
  some ((aU,bb),(aQ,aZ)):=by kernel_rfl
theorem Wh:EU N (n1+1) x1 x2 x3 x4 x5 x6 x7 x8 x9 aj=
  bif(decide (x3<x2)) then
  bif ae x3 x1.length then
  bif ba (x1.getD x3.toNat nT).2.2.2.length 16 then
  bif ba (aj.length+1) 40 then
  EU N n1 x1 x2 (W (x3+1)) x4 x5 x6 x7 x8 x9 (aj++[(x1.getD x3.toNat nT)])
  else none
  else none
  else none
  else
  GZ N N x7 (x7.length:Int) 0 x8 x9 aj []:=by kernel_rfl
end
def G8(N:Nat)(a0:bQ):Option bQ:=
  bif ba a0.1.1.length 16 then
  bif ba a0.1.2.length 72 then
  EU N N a0.2.1 (a0.2.1.length:Int) 0 a0.1.1 a0.1.2 a0.2.1 a0.2.2 a0.1.1 a0.1.2 []
  else none
  else none
theorem XY(N:Nat):bk Tryz.prog 93 [iE] [iE] (fun x=>G8 N x):=bG (N:=N) (fq OD Tryz.func93) (Ht N).ok
def Me(N:Nat):CE:=(Ht N).a (bD (XY N))
def SW:FD:=fd 42 nf [(.cell 2 true 8)] Tryz.f53 [(6,{w:=[(false,[.wait])],an:=[(5,⟨cY,none,[]⟩),(8,⟨fQ,none,[]⟩),(11,⟨iJ,none,[]⟩),(13,⟨.unit,some 2,[]⟩)]}),(15,{w:=[(false,[.cy 3])]}),(31,{w:=[(false,[.cy 2])]}),(58,{ns:=[.aM 3 6 fy,.wk 20 (.list fy),.af [2,3,20,21,22],
  .cmp]}),(7474,{an:=[(2,⟨aV,none,[]⟩)]}),(7475,{an:=[(3,⟨fy,none,[]⟩)]})]
def aqy:Exit->SI->Option bX:=fin [(.cell 2 true 8)] [fx]
section
variable (N n1:Nat) (x2:List cC) (x3 x4:Int) (x5:List bj) (x6:List aR) (x7:List bC) (x8:List bu) (x9:List bJ) (aj:List cB) (ak:List cW) (av:List cC)
def FA:Option bX:=lp (Me N).l N 0 SW.tc 43 [] aqy n1 ⟨[(2,.ptr 0 0 0),(3,.ptr 1 0 0),(20,.l fy x2),(21,.i x3),(22,.i x4)],[some (qL),some (.box 1 [.l bU x5,.l bY x6,.l cJ x7,.l cu x8,.l cY x9,.l fQ aj,.whole 2,.l iJ ak]),some (.arr fy av)]⟩
theorem Tc:FA N (n1+1) x2 x3 x4 x5 x6 x7 x8 x9 aj ak av=
  bif(decide (x4<x3)) then
  bif ae x4 x2.length then
  bif ba (x2.getD x4.toNat iU).1.length 32 then
  (wX N (x2.getD x4.toNat iU).2.2.1).bind fun yr=>
  bif ba (av.length+1) 64 then
  FA N n1 x2 x3 (W (x4+1)) x5 x6 x7 x8 x9 aj ak (av++[((x2.getD x4.toNat iU).1,((x2.getD x4.toNat iU).2.1,(yr,(x2.getD x4.toNat iU).2.2.2)))])
  else none
  else none
  else none
  else
  some (((x5,x6),(x7,x8)),(x9,(aj,(av,ak)))):=by kernel_rfl
end
def Ik(N:Nat)(a0:bX):Option bX:=
  (G8 N a0.1).bind fun r1=>
  bif ba a0.2.1.length 64 then
  bif ba a0.2.2.1.length 48 then
  bif ba a0.2.2.2.2.length 8 then
  FA N N a0.2.2.2.1 (a0.2.2.2.1.length:Int) 0 r1.1.1 r1.1.2 r1.2.1 r1.2.2 a0.2.1 a0.2.2.1 a0.2.2.2.2 []
  else none
  else none
  else none
theorem ai1(N:Nat):bk Tryz.prog 53 [fx] [fx] (fun x=>Ik N x):=bG (N:=N) (fq SW Tryz.func53) (Me N).ok
def TE(N:Nat):CE:=(Me N).a (bD (ai1 N))
def avi:FD:=fd 42 nf [(.cell 2 true 23)] Tryz.f27 [(14,{an:=[(3,⟨(.int .u8),none,[]⟩)]}),(30,{w:=[(false,[.ghost aV])],an:=[(2,⟨.unit,some 2,[]⟩)]}),(62,{w:=[(false,[.ghost aW])],an:=[(2,⟨.unit,some 3,[]⟩)]}),(126,{w:=[(false,[.ghost aW])],an:=[(2,⟨.unit,some 4,[]⟩)]}),(254,{an:=[(3,
  ⟨di,none,[]⟩)]}),(1022,{w:=[(false,[.ghost aV])],an:=[(2,⟨.unit,some 5,[]⟩)]}),(2047,{w:=[(false,[.aM 2 11 aV,.aM 2 12 aW,.aM 2 13 aW,.aM 2 22 aV,.bg 2 0,.bg 2 1,.bg 2 2,.bg 2 3,.bg 2 4,.bg 2 5,.bg 2 6,.bg
  2 7,.bg 2 9,.bg 2 14,.bg 2 15,.af [2],.out []])]})]
def aew:List NS:=[.aM 2 11 aV,.aM 2 12 aW,.aM 2 13 aW,.aM 2 22 aV,.bg 2 0,.bg 2 1,.bg 2 2,.bg 2 3,.bg 2 4,.bg 2 5,.bg 2 6,.bg 2 7,.bg 2 9,.bg 2 14,.bg 2 15,.af [2],.out []]
def lV(N:Nat)(a0:aT):Option (aT×Unit):=
  (Ik N a0.1).bind fun r1=>
  bif ba a0.2.2.1.1.length 1 then
  bif ba a0.2.2.2.1.length 32 then
  bif ba a0.2.2.2.2.1.length 24 then
  bif ba a0.2.2.2.2.2.1.length 24 then
  bif ba a0.2.2.2.2.2.2.1.1.length 32 then
  (wX N a0.2.2.2.2.2.2.1.2.1).bind fun r2=>
  bif ba a0.2.2.2.2.2.2.2.2.length 32 then
  some ((r1,(a0.2.1,(a0.2.2.1,(a0.2.2.2.1,(a0.2.2.2.2.1,(a0.2.2.2.2.2.1,((a0.2.2.2.2.2.2.1.1,(r2,a0.2.2.2.2.2.2.1.2.2)),a0.2.2.2.2.2.2.2))))))),())
  else none
  else none
  else none
  else none
  else none
  else none
theorem aa1(N:Nat):dq Tryz.prog 27 [none] [.v iI] [.o (.p (.v fx) (.p (.v GI) (.p (.v dk) (.p (.a aV) (.p (.a aW) (.p (.a aW) (.p (.v fh) (.p (.v js) (.a aV)))))))))] (fun x=>lV N x):=dM (N:=N) (p:=0) (q:=0) (ns:=aew) (fq avi Tryz.func27) (TE N).ok
def Wq(N:Nat):CE:=(TE N).a (cT (aa1 N))
def al2:FD:=fd 2 nf [(.cell 0 true 5)] Tryz.f28 []
def qM(N:Nat):Option eT:=
  some ((-1),((-1),((-1),(0,0))))
theorem ahc(N:Nat):bk Tryz.prog 28 [] [js] (fun x=>qM N):=bG (N:=N) (fq al2 Tryz.func28) (Wq N).ok
def NG(N:Nat):CE:=(Wq N).a (bD (ahc N))
def Ua:FD:=fd 25 nf [(.t 4)] Tryz.f94 [(58,{ns:=[.wk 14 (.list di),.af [1,14,15,16],.cmp]})]
def ao6:Exit->SI->Option Bool:=fin [(.t 4)] [.bool]
section
variable (N n1:Nat) (x1:Int) (x2:List bV) (x3 x4:Int)
def DC:Option Bool:=lp (NG N).l N 0 Ua.tc 43 [] ao6 n1 ⟨[(1,.i x1),(14,.l di x2),(15,.i x3),(16,.i x4)],[]⟩
theorem auv:DC N (n1+1) x1 x2 x3 x4=
  bif(decide (x4<x3)) then
  bif ae x4 x2.length then
  bif(decide (x1<(x2.getD x4.toNat bM).2.1)) then
  some false
  else
  DC N n1 x1 x2 x3 (W (x4+1))
  else none
  else
  some true:=by kernel_rfl
end
def AI(N:Nat)(a0:cz)(a1:Int):Option Bool:=
  bif(decide (a1<0)) then
  some false
  else
  bif(decide (a1>2147483648)) then
  some false
  else
  DC N N a1 a0.1 (a0.1.length:Int) 0
theorem at0(N:Nat):bk Tryz.prog 94 [fh,GI] [.bool] (fun x=>AI N x.1 x.2):=bG (N:=N) (fq Ua Tryz.func94) (NG N).ok
def WS(N:Nat):CE:=(NG N).a (bD (at0 N))
def aot:FD:=fd 26 nf [(.t 6)] Tryz.f55 []
def A8(N:Nat)(a0:cz)(a1:Int)(a2:Int):Option Int:=
  (oj N a0).bind fun r1=>
  bif(r1 !=0) then
  some r1
  else
  bif(decide (a1<0)) then
  some 16
  else
  bif(decide (a1>=(a0.1.length:Int))) then
  some 16
  else
  (AI N a0 a2).bind fun r2=>
  bif(!r2) then
  some 8
  else
  some 0
theorem Yi(N:Nat):bk Tryz.prog 55 [fh,GI,GI] [GI] (fun x=>A8 N x.1 x.2.1 x.2.2):=bG (N:=N) (fq aot Tryz.func55) (WS N).ok
def Vo(N:Nat):CE:=(WS N).a (bD (Yi N))
def ad1:FD:=fd 12 nf [(.cell 2 true 3)] Tryz.f56 [(6,{w:=[(false,[.ghost di])],an:=[(2,⟨.unit,some 2,[]⟩)]}),(14,{w:=[(false,[.ghost GI])],an:=[(2,⟨.unit,some 3,[]⟩)]}),(31,{w:=[(false,[.aM 2 0 di,.aM 2 1 GI,.af [2],.out []])]})]
def ajr:List NS:=[.aM 2 0 di,.aM 2 1 GI,.af [2],.out []]
def q9(N:Nat)(a0:cz):Option (cz×Unit):=
  bif ba a0.1.length 32 then
  bif ba a0.2.1.length 8 then
  some (a0,())
  else none
  else none
theorem ayn(N:Nat):dq Tryz.prog 56 [none] [.v fh] [.o (.p (.a di) (.p (.a GI) (.v GI)))] (fun x=>q9 N x):=dM (N:=N) (p:=0) (q:=0) (ns:=ajr) (fq ad1 Tryz.func56) (Vo N).ok
def UF(N:Nat):CE:=(Vo N).a (cT (ayn N))
def ac9:FD:=fd 30 nf [(.t 6)] Tryz.f57 []
def yl(N:Nat)(a0:cz)(a1:Int)(a2:Int):Option (Bool×cz):=
  bif ae a1 a0.1.length then
  bif(!(a0.1.getD a1.toNat bM).2.2.2.1) then
  some (false,(a0.1,(a0.2.1,0)))
  else
  let v2:=a0.1.getD a1.toNat bM
  let v3:=a0.1.set a1.toNat (v2.1,(v2.2.1,(v2.2.2.1,(false,v2.2.2.2.2))))
  let v4:=v3.getD a1.toNat bM
  let v5:=v3.set a1.toNat (v4.1,(a2,v4.2.2))
  let v6:=v5.getD a1.toNat bM
  let v7:=v5.set a1.toNat (v6.1,(v6.2.1,(0,v6.2.2.2)))
  let v8:=v7.getD a1.toNat bM
  some (true,((v7.set a1.toNat (v8.1,(v8.2.1,(v8.2.2.1,(v8.2.2.2.1,false))))),(a0.2.1,0)))
  else none
theorem alb(N:Nat):BK Tryz.prog 57 [] (.p (.a di) (.p (.a GI) (.v GI))) [GI,GI] [.bool] (fun x y z=>yl N y z.1 z.2):=V4 (N:=N) (fq ac9 Tryz.func57) (UF N).ok
def TP(N:Nat):CE:=(UF N).a (UA (alb N))
def aln:FD:=fd 25 nf [(.cell 6 true 3),(.t 7)] Tryz.f29 [(63,{w:=[(false,[.cy 6])]}),(109,{w:=[(false,[.cy 6])]})]
def zS(N:Nat)(a0:cz)(a1:Int)(a2:Int):Option (cz×Int):=
  (A8 N a0 a1 a2).bind fun r1=>
  bif(r1 !=0) then
  some (([],([],0)),r1)
  else
  (q9 N a0).bind fun r2=>
  (jr (.p (.a di) (.p (.a GI) (.v GI))) r2.1 (yl N r2.1 a1 a2)).bind fun r3=>
  some ((r3.2.1,(r3.2.2.1,r2.1.2.2)),0)
theorem ajj(N:Nat):bk Tryz.prog 29 [fh,GI,GI] [fh,GI] (fun x=>zS N x.1 x.2.1 x.2.2):=bG (N:=N) (fq aln Tryz.func29) (TP N).ok
def WI(N:Nat):CE:=(TP N).a (bD (ajj N))
def Zq:FD:=fd 2 nf [(.cell 0 true 3)] Tryz.f30 []
def XT(N:Nat):Option bt:=
  some (true,((-1),0))
theorem ai3(N:Nat):bk Tryz.prog 30 [] [aW] (fun x=>XT N):=bG (N:=N) (fq Zq Tryz.func30) (WI N).ok
def uT(N:Nat):CE:=(WI N).a (bD (ai3 N))
def vT:FD:=fd 101 nf [(.cell 4 true 23),(.t 5)] Tryz.f9 [(109,{w:=[(false,[.cy 4])]}),(126,{w:=[(false,[.wait,.wait,.wait,.wait,.wait])],an:=[(4,⟨.unit,none,[3,4,5,6]⟩),(5,⟨.unit,some 7,[]⟩)]}),(237,{w:=[(false,[.cy 4])]}),(245,{w:=[(false,[.cy 4])]}),(250,{ns:=[.wk 33 (.list di),.af [2,3,4,33,34,
  35],.cmp]}),(1018,{ns:=[.af [2,4,10,51,52],.cmp]}),(2042,{ns:=[.aM 10 11 aV,.af [2,4,10,66,67],.cmp]}),(2047,{w:=[(false,[.cy 10])]}),(4090,{ns:=[.aM 10 12 aW,.af [2,4,10,78,79],.cmp]}),(4095,{w:=[(false,[.cy 4])]}),(8186,{ns:=
  [.aM 10 13 aW,.af [4,10,90,91],.cmp]}),(65356,{an:=[(3,⟨aV,none,[]⟩)]}),(128205,{w:=[(false,[.cy 4])]}),(130892,{an:=[(3,⟨aW,none,[]⟩)]}),(261964,{an:=[(3,⟨aW,none,[]⟩)]})]
def zC:Exit->SI->Option (aT×Int):=fin [(.cell 4 true 23),(.t 5)] [iI,GI]
section
variable (N n1 n2 n3 n4 n5:Nat) (x3:List bV) (x4 x5:Int) (x6:List bj) (x7:List aR) (x8:List bC) (x9:List bu) (aj:List bJ) (ak:List cB) (av:List cC) (ai:List cW) (ao:List bV) (aq:List Int) (ax ay aC aO aH aE aI aF az ec ei:Int) (fD:List bj) (fF:List aR) (fG:List bC) (dH:List bu) (dE:List bJ) (dI:List cB) (dW:List cC) (dX:List cW) (dO dC eb gB gC gU gV gW:Int) (gX:List bj) (gY:List aR) (gw:List bC) (gl:List bu) (ea:List bJ) (iu:List cB) (iv:List cC) (dR:List cW) (gq:Int) (gr:List Int) (ix:Int) (fB:List bV) (iX:List Int) (kN jx pU pV pW lz:Int) (nE:List aP) (nF jT:List bt) (gP:List aP) (pX pY:Int) (pZ:List bj) (qe:List aR) (qf:List bC) (IM:List bu) (IN:List bJ) (CK:List cB) (IP:List cC) (IQ:List cW) (IS IT IU IW qh rS oB rU:Int) (rV:List bj) (rW:List aR) (rY:List bC) (rZ:List bu) (mC:List bJ) (l6:List cB) (l7:List cC) (l8:List cW) (l9:Int) (lA:List Int) (lB:Int) (lC:List bV) (lD:List Int) (lE lF lG lH kP lI:Int) (qi:List aP) (qj sb:List bt) (kt:List aP) (oE nK:Int) (oF:List bj) (oG:List aR) (qk:List bC) (qm:List bu) (qn:List bJ) (qo:List cB) (oJ:List cC) (lL:List cW) (oK oL IX IY IZ Ja Jb Jc:Int) (Jd:List bj) (Je:List aR) (Jf:List bC) (Jg:List bu) (Jh:List bJ) (Ji:List cB) (Jj:List cC) (Jk:List cW) (Jl:Int) (Jm:List Int) (Jn:Int) (Jo:List bV) (Jp:List Int) (Jq Jr Js Jt Ju Jv:Int) (Jw:List aP) (CL Jx:List bt) (Jy:List aP) (Jz J0 Pa Pb Pc Pd Pe Pf Pg Pj:Int) (J1:List bj) (J2:List aR) (J3:List bC) (J4:List bu) (J5:List bJ) (J6:List cB) (J7:List cC) (J8:List cW) (J9:Int) (JA:List Int) (JB:Int) (JC:List bV) (JD:List Int) (JE JF JG JH oM qp:Int) (mF:List aP) (sj qq:List bt) (sk:List aP)
def HM:Option (aT×Int):=lp (uT N).l N 0 vT.tc 5631 [] zC n5 ⟨[(4,.ptr 0 0 0),(10,.ptr 1 0 0),(90,.i Jz),(91,.i J0)],[some (sN Pa Pb Pc Pd Pe Pf Pg Pj),some (.box 1 [.l bU J1,.l bY J2,.l cJ J3,.l cu J4,.l cY J5,.l fQ J6,.l fy J7,.l iJ J8,.i J9,.l (.int .u8) JA,.i JB,.whole 2,.whole 3,.whole 4,.l di JC,.l GI JD,.i JE,.i JF,.i JG,.i JH,.i oM,.i qp,.whole 5]),some (.arr aV mF),some (.arr aW sj),some (.arr aW qq),some (.arr aV sk)]⟩
def Hj:Option (aT×Int):=lp (uT N).l N 0 vT.tc 2815 [] zC n4 ⟨[(2,.ptr 0 0 0),(4,.ptr 1 0 0),(10,.ptr 2 0 0),(78,.i oE),(79,.i nK)],[some (fU oF oG qk qm qn qo oJ lL),some (sN oK oL IX IY IZ Ja Jb Jc),some (Lz Jd Je Jf Jg Jh Ji Jj Jk Jl Jm Jn Jo Jp Jq Jr Js Jt Ju Jv),some (.arr aV Jw),some (.arr aW CL),some (.arr aW Jx),some (.arr aV Jy)]⟩
def EN:Option (aT×Int):=lp (uT N).l N 0 vT.tc 1407 [] zC n3 ⟨[(2,.ptr 0 0 0),(4,.ptr 1 0 0),(10,.ptr 2 0 0),(66,.i pX),(67,.i pY)],[some (fU pZ qe qf IM IN CK IP IQ),some (sN IS IT IU IW qh rS oB rU),some (Lz rV rW rY rZ mC l6 l7 l8 l9 lA lB lC lD lE lF lG lH kP lI),some (.arr aV qi),some (.arr aW qj),some (.arr aW sb),some (.arr aV kt)]⟩
def Ba:Option (aT×Int):=lp (uT N).l N 0 vT.tc 703 [] zC n2 ⟨[(2,.ptr 0 0 0),(4,.ptr 1 0 0),(10,.ptr 2 0 0),(51,.i ec),(52,.i ei)],[some (fU fD fF fG dH dE dI dW dX),some (sN dO dC eb gB gC gU gV gW),some (Lz gX gY gw gl ea iu iv dR gq gr ix fB iX kN jx pU pV pW lz),some (.arr aV nE),some (.arr aW nF),some (.arr aW jT),some (.arr aV gP)]⟩
def HK:Option (aT×Int):=lp (uT N).l N 0 vT.tc 175 [] zC n1 ⟨[(2,.ptr 0 0 0),(3,.ptr 1 0 0),(4,.ptr 2 0 0),(33,.l di x3),(34,.i x4),(35,.i x5)],[some (fU x6 x7 x8 x9 aj ak av ai),some (lQ ao aq ax),some (sN ay aC aO aH aE aI aF az)]⟩
theorem aqp:HM N (n5+1) Jz J0 Pa Pb Pc Pd Pe Pf Pg Pj J1 J2 J3 J4 J5 J6 J7 J8 J9 JA JB JC JD JE JF JG JH oM qp mF sj qq sk=
  bif(decide (J0<Jz)) then
  bif ba (qq.length+1) 24 then
  HM N n5 Jz (W (J0+1)) Pa Pb Pc Pd Pe Pf Pg Pj J1 J2 J3 J4 J5 J6 J7 J8 J9 JA JB JC JD JE JF JG JH oM qp mF sj (qq++[(true,((-1),0))]) sk
  else none
  else
  some (((((J1,J2),(J3,J4)),(J5,(J6,(J7,J8)))),(J9,((JA,JB),(mF,(sj,(qq,((JC,(JD,JE)),((JF,(JG,(JH,(oM,qp)))),sk)))))))),0):=by kernel_rfl
theorem anx:Hj N (n4+1) oE nK oF oG qk qm qn qo oJ lL oK oL IX IY IZ Ja Jb Jc Jd Je Jf Jg Jh Ji Jj Jk Jl Jm Jn Jo Jp Jq Jr Js Jt Ju Jv Jw CL Jx Jy=
  bif(decide (nK<oE)) then
  (XT N).bind fun r257=>
  bif ba (CL.length+1) 24 then
  Hj N n4 oE (W (nK+1)) oF oG qk qm qn qo oJ lL oK oL IX IY IZ Ja Jb Jc Jd Je Jf Jg Jh Ji Jj Jk Jl Jm Jn Jo Jp Jq Jr Js Jt Ju Jv Jw (CL++[r257]) Jx Jy
  else none
  else
  HM N N (oJ.length:Int) 0 oK oL IX IY IZ Ja Jb Jc Jd Je Jf Jg Jh Ji Jj Jk Jl Jm Jn Jo Jp Jq Jr Js Jt Ju Jv Jw CL Jx Jy:=by kernel_rfl
theorem am6:EN N (n3+1) pX pY pZ qe qf IM IN CK IP IQ IS IT IU IW qh rS oB rU rV rW rY rZ mC l6 l7 l8 l9 lA lB lC lD lE lF lG lH kP lI qi qj sb kt=
  bif(decide (pY<pX)) then
  bif ba (qi.length+1) 32 then
  EN N n3 pX (W (pY+1)) pZ qe qf IM IN CK IP IQ IS IT IU IW qh rS oB rU rV rW rY rZ mC l6 l7 l8 l9 lA lB lC lD lE lF lG lH kP lI (qi++[((-1),(0,(0,0)))]) qj sb kt
  else none
  else
  Hj N N (CK.length:Int) 0 pZ qe qf IM IN CK IP IQ IS IT IU IW qh rS oB rU rV rW rY rZ mC l6 l7 l8 l9 lA lB lC lD lE lF lG lH kP lI qi qj sb kt:=by kernel_rfl
theorem auy:Ba N (n2+1) ec ei fD fF fG dH dE dI dW dX dO dC eb gB gC gU gV gW gX gY gw gl ea iu iv dR gq gr ix fB iX kN jx pU pV pW lz nE nF jT gP=
  bif(decide (ei<ec)) then
  (zS N (fB,(iX,kN)) ei 0).bind fun Pk=>
  Ba N n2 ec (W (ei+1)) fD fF fG dH dE dI dW dX dO dC eb gB gC gU gV gW gX gY gw gl ea iu iv dR gq gr ix Pk.1.1 Pk.1.2.1 Pk.1.2.2 jx pU pV pW lz nE nF jT gP
  else
  EN N N (dE.length:Int) 0 fD fF fG dH dE dI dW dX dO dC eb gB gC gU gV gW gX gY gw gl ea iu iv dR gq gr ix fB iX kN jx pU pV pW lz nE nF jT gP:=by kernel_rfl
theorem at8:HK N (n1+1) x3 x4 x5 x6 x7 x8 x9 aj ak av ai ao aq ax ay aC aO aH aE aI aF az=
  bif(decide (x5<x4)) then
  bif ae x5 x3.length then
  bif((x3.getD x5.toNat bM).2.1 !=0) then
  some ((((([],[]),([],[])),([],([],([],[])))),(0,(([],0),([],([],([],(([],([],0)),((0,(0,(0,(0,0)))),[])))))))),8)
  else
  HK N n1 x3 x4 (W (x5+1)) x6 x7 x8 x9 aj ak av ai ao aq ax ay aC aO aH aE aI aF az
  else none
  else
  (qM N).bind fun mB=>
  (lV N ((((x6,x7),(x8,x9)),(aj,(ak,(av,ai)))),(0,(([],0),([],([],([],((ao,(aq,ax)),(mB,[]))))))))).bind fun eP=>
  Ba N N (ao.length:Int) 0 x6 x7 x8 x9 aj ak av ai ay aC aO aH aE aI aF az eP.1.1.1.1.1 eP.1.1.1.1.2 eP.1.1.1.2.1 eP.1.1.1.2.2 eP.1.1.2.1 eP.1.1.2.2.1 eP.1.1.2.2.2.1 eP.1.1.2.2.2.2 eP.1.2.1 eP.1.2.2.1.1 eP.1.2.2.1.2 eP.1.2.2.2.2.2.2.1.1 eP.1.2.2.2.2.2.2.1.2.1 eP.1.2.2.2.2.2.2.1.2.2 eP.1.2.2.2.2.2.2.2.1.1 eP.1.2.2.2.2.2.2.2.1.2.1 eP.1.2.2.2.2.2.2.2.1.2.2.1 eP.1.2.2.2.2.2.2.2.1.2.2.2.1 eP.1.2.2.2.2.2.2.2.1.2.2.2.2 eP.1.2.2.2.1 eP.1.2.2.2.2.1 eP.1.2.2.2.2.2.1 eP.1.2.2.2.2.2.2.2.2:=by kernel_rfl
end
def uh(N:Nat)(a0:bX)(a1:cz):Option (aT×Int):=
  (tM N a0).bind fun r1=>
  bif(r1 !=0) then
  some ((((([],[]),([],[])),([],([],([],[])))),(0,(([],0),([],([],([],(([],([],0)),((0,(0,(0,(0,0)))),[])))))))),r1)
  else
  (oj N a1).bind fun r2=>
  bif(r2 !=0) then
  some ((((([],[]),([],[])),([],([],([],[])))),(0,(([],0),([],([],([],(([],([],0)),((0,(0,(0,(0,0)))),[])))))))),r2)
  else
  bif((a1.2.1.length:Int) !=(a0.2.2.2.1.length:Int)) then
  some ((((([],[]),([],[])),([],([],([],[])))),(0,(([],0),([],([],([],(([],([],0)),((0,(0,(0,(0,0)))),[])))))))),17)
  else
  HK N N a1.1 (a1.1.length:Int) 0 a0.1.1.1 a0.1.1.2 a0.1.2.1 a0.1.2.2 a0.2.1 a0.2.2.1 a0.2.2.2.1 a0.2.2.2.2 a1.1 a1.2.1 a1.2.2 0 0 0 0 0 0 0 0
theorem awa(N:Nat):bk Tryz.prog 9 [fx,fh] [iI,GI] (fun x=>uh N x.1 x.2):=bG (N:=N) (fq vT Tryz.func9) (uT N).ok
def Qh(N:Nat):CE:=(uT N).a (bD (awa N))
def agq:FD:=fd 13 nf [(.t 4)] Tryz.f31 []
def pI(N:Nat)(a0:aT)(a1:Int):Option Bool:=
  bif(decide (a1<a0.2.1)) then
  some true
  else
  some (decide (a1>2147483648))
theorem ajy(N:Nat):bk Tryz.prog 31 [iI,GI] [.bool] (fun x=>pI N x.1 x.2):=bG (N:=N) (fq agq Tryz.func31) (Qh N).ok
def Ii(N:Nat):CE:=(Qh N).a (bD (ajy N))
def KD:FD:=fd 35 nf [(.t 2)] Tryz.f58 [(58,{ns:=[.wk 8 (.list (.int .u8)),.af [3,8,9,10],.cmp]}),(14950,{ns:=[.wk 8 (.list (.int .u8)),.af [3,5,6,8,9,10],.cmp]})]
def Ul:Exit->SI->Option Int:=fin [(.t 2)] [GI]
section
variable (N n1 n2:Nat) (x1:Int) (x2:List Int) (x3 x4 x5 x6 x7:Int) (x8:List Int) (x9 aj:Int)
def AS:Option Int:=lp (Ii N).l N 0 KD.tc 11467 [n1] Ul n2 ⟨[(3,.i x5),(5,.int .u8 x6),(6,.i x7),(8,.l (.int .u8) x8),(9,.i x9),(10,.i aj)],[]⟩
def AU:Option Int:=lp (Ii N).l N 0 KD.tc 43 [] Ul n1 ⟨[(3,.i x1),(8,.l (.int .u8) x2),(9,.i x3),(10,.i x4)],[]⟩
theorem anp:AS N n1 (n2+1) x5 x6 x7 x8 x9 aj=
  bif(decide (x7>=0)) then
  let v13:=W (BitVec.ofInt IntKind.i64.bits (W (x5*2 ^ (min (1:Int).toNat IntKind.i64.bits))) &&& BitVec.ofInt IntKind.i64.bits 65535).toNat
  bif decide ((IntKind.u64.wrap x7)<0) then none else
  bif((x5.fdiv (2 ^ (min (15:Int).toNat IntKind.i64.bits))) !=(W (BitVec.ofInt IntKind.i64.bits (W (x6.fdiv (2 ^ (min (IntKind.u64.wrap x7).toNat IntKind.u8.bits)))) &&& BitVec.ofInt IntKind.i64.bits 1).toNat)) then
  AS N n1 n2 (W (BitVec.ofInt IntKind.i64.bits v13 ^^^ BitVec.ofInt IntKind.i64.bits 4129).toNat) x6 (W (x7-1)) x8 x9 aj
  else
  AS N n1 n2 v13 x6 (W (x7-1)) x8 x9 aj
  else
  AU N n1 x5 x8 x9 (W (aj+1)):=by kernel_rfl
theorem ajm:AU N (n1+1) x1 x2 x3 x4=
  bif(decide (x4<x3)) then
  bif ae x4 x2.length then
  AS N n1 N x1 (x2.getD x4.toNat 0) 7 x2 x3 x4
  else none
  else
  some x1:=by kernel_rfl
end
def Lp(N:Nat)(a0:List Int):Option Int:=
  AU N N 65535 a0 (a0.length:Int) 0
theorem aej(N:Nat):bk Tryz.prog 58 [(.list (.int .u8))] [GI] (fun x=>Lp N x):=bG (N:=N) (fq KD Tryz.func58) (Ii N).ok
def FC(N:Nat):CE:=(Ii N).a (bD (aej N))
def Ls:FD:=fd 107 nf [(.cell 4 true 2),(.t 5)] Tryz.f32 [(6,{w:=[(false,[.ghost (.int .u8)])],an:=[(2,⟨.unit,some 2,[]⟩)]}),(63,{w:=[(false,[.ej 7])]}),(124,{ns:=[.own 7 ou,.wk 6 (.list (.int .u8)),.ej 6,.af [4,6,7,8],.cmp]}),(126,{an:=[(1,⟨(.int .u8),none,[]⟩)]}),(127,{w:=[(false,[.cy 4,.ej 5])]}),
  (1989,{w:=[(true,[.wk 6 (.list (.int .u8)),.wk 7 (.list ou),.af [4,6,7,8],.cmp])]}),(31838,{an:=[(13,⟨(.int .u8),none,[]⟩),(15,⟨ou,none,[]⟩)]})]
def QB:Exit->SI->Option (aB×List lT):=fin [(.cell 4 true 2),(.t 5)] [dk,(.list ou)]
section
variable (N JM n1:Nat) (x2:List Int) (x3 x4:Int) (x5:List lT) (aC:List Int) (aO aH:Int) (aE:List lT)
def Ih:Option (aB×List lT):=jn (FC N).l N 0 Ls.tc 1679 [n1] QB JM ⟨[(4,.ptr 0 0 0),(6,.l (.int .u8) aC),(7,.whole 1),(8,.i aO)],[some (.box 0 [.nil,.i aH]),some (.arr ou aE)]⟩
def ti:Option (aB×List lT):=lp (FC N).l N 0 Ls.tc 79 [] QB n1 ⟨[(4,.ptr 0 0 0),(6,.l (.int .u8) x2),(7,.whole 1),(8,.i x3)],[some (.box 0 [.nil,.i x4]),some (.arr ou x5)]⟩
theorem ac3:Ih N (JM+1) n1 aC aO aH aE=
  bif(decide ((aC.length:Int)<2)) then
  bif ba aC.length 1 then
  some ((aC,aO),aE)
  else none
  else
  bif ae 1 aC.length then
  bif(decide ((aC.length:Int)<(W ((W (aC.getD (1:Int).toNat 0))+6)))) then
  bif ba aC.length 1 then
  some ((aC,aO),aE)
  else none
  else
  bif ae 1 aC.length then
  let qt:=aC.getD (1:Int).toNat 0
  bif gz 1 (W (4+(W qt))) aC.length then
  (Lp N ((aC.drop (1:Int).toNat).take ((W (4+(W qt))).toNat-(1:Int).toNat))).bind fun r25=>
  bif ae (W (4+(W qt))) aC.length then
  bif ae (W (5+(W qt))) aC.length then
  bif(r25 !=(W (BitVec.ofInt IntKind.i64.bits (W ((W (aC.getD (W (4+(W qt))).toNat 0))*2 ^ (min (8:Int).toNat IntKind.i64.bits))) ||| BitVec.ofInt IntKind.i64.bits (W (aC.getD (W (5+(W qt))).toNat 0))).toNat)) then
  bif gz 1 aC.length aC.length then
  ti N n1 (aC.drop (1:Int).toNat) (W (aO+1)) aH aE
  else none
  else
  bif ae 2 aC.length then
  bif ae 3 aC.length then
  bif gz 4 (W (4+(W qt))) aC.length then
  let qu:=(aC.drop (4:Int).toNat).take ((W (4+(W qt))).toNat-(4:Int).toNat)
  bif ba qu.length 1 then
  bif ba (aE.length+1) 40 then
  bif gz (W ((W qt)+6)) aC.length aC.length then
  ti N n1 (aC.drop (W ((W qt)+6)).toNat) aO aH (aE++[(W (aC.getD (2:Int).toNat 0),(W (aC.getD (3:Int).toNat 0),qu))])
  else none
  else none
  else none
  else none
  else none
  else none
  else none
  else none
  else none
  else none
  else none:=by kernel_rfl
theorem ad4:ti N (n1+1) x2 x3 x4 x5=
  bif(decide ((x2.length:Int)>0)) then
  bif ae 0 x2.length then
  bif((x2.getD (0:Int).toNat 0) !=126) then
  bif gz 1 x2.length x2.length then
  ti N n1 (x2.drop (1:Int).toNat) (W (x3+1)) x4 x5
  else none
  else
  bif(decide ((x2.length:Int)>1)) then
  bif ae 1 x2.length then
  bif(decide ((W (x2.getD (1:Int).toNat 0))>64)) then
  bif gz 1 x2.length x2.length then
  ti N n1 (x2.drop (1:Int).toNat) (W (x3+1)) x4 x5
  else none
  else
  Ih N N n1 x2 x3 x4 x5
  else none
  else
  Ih N N n1 x2 x3 x4 x5
  else none
  else
  bif ba x2.length 1 then
  some ((x2,x3),x5)
  else none:=by kernel_rfl
end
def wV(N:Nat)(a0:aB)(a1:List Int):Option (aB×List lT):=
  bif ba a0.1.length 1 then
  bif ba (a0.1.length+a1.length) 1 then
  ti N N (a0.1++a1) a0.2 0 []
  else none
  else none
theorem Zg(N:Nat):bk Tryz.prog 32 [dk,(.list (.int .u8))] [dk,(.list ou)] (fun x=>wV N x.1 x.2):=bG (N:=N) (fq Ls Tryz.func32) (FC N).ok
def Tg(N:Nat):CE:=(FC N).a (bD (Zg N))
def abd:FD:=fd 2 nf [(.cell 0 true 2)] Tryz.f60 []
def kL(N:Nat):Option aJ:=
  some ((-1125899906842624),1125899906842624)
theorem aa6(N:Nat):bk Tryz.prog 60 [] [bm] (fun x=>kL N):=bG (N:=N) (fq abd Tryz.func60) (Tg N).ok
def Xx(N:Nat):CE:=(Tg N).a (bD (aa6 N))
def apk:FD:=fd 12 nf [(.t 2)] Tryz.f96 []
def A4(N:Nat)(a0:Int):Option Int:=
  bif(decide ((a0.tmod 1000)<0)) then
  some (W ((W (a0.tdiv 1000))-1))
  else
  some (W (a0.tdiv 1000))
theorem ajl(N:Nat):bk Tryz.prog 96 [GI] [GI] (fun x=>A4 N x):=bG (N:=N) (fq apk Tryz.func96) (Xx N).ok
def I8(N:Nat):CE:=(Xx N).a (bD (ajl N))
def Lf:FD:=fd 71 nf [(.cell 4 true 2)] Tryz.f61 [(7,{w:=[(true,[.af [1,2,4],.cmp])]}),(31,{w:=[(true,[.af [1,2,4,5],.cmp])]}),(254,{w:=[(false,[.wait])],an:=[(18,⟨.unit,some 2,[]⟩)]})]
def RZ:Exit->SI->Option aJ:=fin [(.cell 4 true 2)] [bm]
section
variable (N JM:Nat) (x3 x4 x5 x6 x7 x8 x9 aj ak av ai ao aq ax ay aC aO aH aE aI aF az aG:Int)
def BE:Option aJ:=jn (I8 N).l N 0 Lf.tc 59 [] RZ JM ⟨[(1,.i ao),(2,.ptr 0 0 0),(4,.ptr 1 0 0),(5,.i aq)],[some (.box 0 [.i ax,.i ay,.i aC,.i aO,.i aH,.i aE,.i aI,.i aF]),some (jG az aG)]⟩
def P4:Option aJ:=jn (I8 N).l N 0 Lf.tc 7 [] RZ JM ⟨[(1,.i x3),(2,.ptr 0 0 0),(4,.ptr 1 0 0)],[some (.box 0 [.i x4,.i x5,.i x6,.i x7,.i x8,.i x9,.i aj,.i ak]),some (jG av ai)]⟩
theorem acs:BE N (JM+1) ao aq ax ay aC aO aH aE aI aF az aG=
  bif(decide (aq>=0)) then
  bif(decide (ao>aq)) then
  (kL N).bind fun Pm=>
  some Pm
  else
  some (ao,ao)
  else
  (A4 N (W (aH*ao))).bind fun jR=>
  let vO:=W ((W (aO+jR))-aE)
  (A4 N (W (0-(W (aH*ao))))).bind fun eZ=>
  let v30:=W ((W (aO-eZ))+aE)
  bif(ay==1) then
  some (max vO 0,max v30 0)
  else
  bif(ay==2) then
  some (max vO 0,max v30 0)
  else
  some (vO,v30):=by kernel_rfl
theorem akz:P4 N (JM+1) x3 x4 x5 x6 x7 x8 x9 aj ak av ai=
  bif(x5==4) then
  BE N N x3 1 x4 x5 x6 x7 x8 x9 aj ak av ai
  else
  bif(x5==5) then
  BE N N x3 2 x4 x5 x6 x7 x8 x9 aj ak av ai
  else
  bif(x5==6) then
  BE N N x3 5 x4 x5 x6 x7 x8 x9 aj ak av ai
  else
  BE N N x3 (-1) x4 x5 x6 x7 x8 x9 aj ak av ai:=by kernel_rfl
end
def FE(N:Nat)(a0:bJ)(a1:Int):Option aJ:=
  bif(decide (a1<0)) then
  (kL N).bind fun r1=>
  some r1
  else
  bif(decide (a1>65535)) then
  (kL N).bind fun r2=>
  some r2
  else
  P4 N N a1 a0.1 a0.2.1 a0.2.2.1 a0.2.2.2.1 a0.2.2.2.2.1 a0.2.2.2.2.2.1 a0.2.2.2.2.2.2.1 a0.2.2.2.2.2.2.2 0 0
theorem abz(N:Nat):bk Tryz.prog 61 [cY,GI] [bm] (fun x=>FE N x.1 x.2):=bG (N:=N) (fq Lf Tryz.func61) (I8 N).ok
def FO(N:Nat):CE:=(I8 N).a (bD (abz N))
def KC:FD:=fd 85 nf [(.cell 6 true 4),(.t 7)] Tryz.f33 [(7,{w:=[(true,[.wk 0 (.list cY),.af [0,2,4,6],.cmp])]}),(122,{ns:=[.wk 0 (.list cY),.af [0,2,4,6,8,9],.cmp]})]
def VT:Exit->SI->Option (aP×Int):=fin [(.cell 6 true 4),(.t 7)] [aV,GI]
section
variable (N JM n1:Nat) (x1:List bJ) (x2 x3 x4:Int) (x5:List Int) (x6 x7 x8 x9:Int) (ak:List bJ) (av ai ao aq ax:Int) (ay:List Int) (aC aO aH aE:Int)
def Cr:Option (aP×Int):=lp (FO N).l N 0 KC.tc 171 [] VT n1 ⟨[(0,.l cY ak),(2,.i av),(4,.ptr 0 0 0),(6,.ptr 1 0 0),(8,.i ai),(9,.i ao)],[some (.box 0 [.i aq,.i ax,.l (.int .u8) ay]),some (.box 0 [.i aC,.i aO,.i aH,.i aE])]⟩
def P8:Option (aP×Int):=jn (FO N).l N 0 KC.tc 7 [] VT JM ⟨[(0,.l cY x1),(2,.i x2),(4,.ptr 0 0 0),(6,.ptr 1 0 0)],[some (.box 0 [.i x3,.i x4,.l (.int .u8) x5]),some (.box 0 [.i x6,.i x7,.i x8,.i x9])]⟩
theorem Y2:Cr N (n1+1) ak av ai ao aq ax ay aC aO aH aE=
  bif(decide (ao>=0)) then
  bif ae ao ak.length then
  bif((ak.getD ao.toNat gJ).1==aq) then
  Cr N n1 ak av ao (W (ao-1)) aq ax ay aC aO aH aE
  else
  Cr N n1 ak av ai (W (ao-1)) aq ax ay aC aO aH aE
  else none
  else
  bif(decide (ai<0)) then
  some ((0,(0,(0,0))),9)
  else
  bif ae ai ak.length then
  (su N (ak.getD ai.toNat gJ)).bind fun tT=>
  bif(tT !=0) then
  some ((0,(0,(0,0))),9)
  else
  (kL N).bind fun rR=>
  bif(ax==1) then
  bif((ay.length:Int) !=2) then
  some ((0,(0,(0,0))),6)
  else
  bif ae ai ak.length then
  bif ae 0 ay.length then
  bif ae 1 ay.length then
  (FE N (ak.getD ai.toNat gJ) (W (BitVec.ofInt IntKind.i64.bits (W ((W (ay.getD (0:Int).toNat 0))*2 ^ (min (8:Int).toNat IntKind.i64.bits))) ||| BitVec.ofInt IntKind.i64.bits (W (ay.getD (1:Int).toNat 0))).toNat)).bind fun gA=>
  some ((ai,(av,gA)),0)
  else none
  else none
  else none
  else
  bif(ax==2) then
  bif((ay.length:Int) !=0) then
  some ((0,(0,(0,0))),6)
  else
  some ((ai,(av,rR)),0)
  else
  some ((0,(0,(0,0))),5)
  else none:=by kernel_rfl
theorem Z6:P8 N (JM+1) x1 x2 x3 x4 x5 x6 x7 x8 x9=
  Cr N N x1 x2 (-1) (W ((x1.length:Int)-1)) x3 x4 x5 x6 x7 x8 x9:=by kernel_rfl
end
def ue(N:Nat)(a0:List bJ)(a1:lT)(a2:Int):Option (aP×Int):=
  bif(decide (a2<0)) then
  some ((0,(0,(0,0))),8)
  else
  bif(decide (a2>2147483648)) then
  some ((0,(0,(0,0))),8)
  else
  P8 N N a0 a2 a1.1 a1.2.1 a1.2.2 0 0 0 0
theorem YU(N:Nat):bk Tryz.prog 33 [(.list cY),ou,GI] [aV,GI] (fun x=>ue N x.1 x.2.1 x.2.2):=bG (N:=N) (fq KC Tryz.func33) (FO N).ok
def HB(N:Nat):CE:=(FO N).a (bD (YU N))
def Lk:FD:=fd 61 nf [(.t 4)] Tryz.f106 [(58,{ns:=[.wk 26 LI,.af [2,3,26,27,28],.cmp]}),(122,{ns:=[.wk 40 LI,.af [2,40,41,42],.cmp]})]
def TW:Exit->SI->Option Bool:=fin [(.t 4)] [.bool]
section
variable (N n1 n2:Nat) (x1:List Int) (x2 x3:Int) (x4:List bj) (x5:List aR) (x6:List bC) (x7:List bu) (x8 x9 aO:List Int) (aH aE:Int) (aI:List bj) (aF:List aR) (az:List bC) (aG:List bu)
def Gf:Option Bool:=lp (HB N).l N 0 Lk.tc 87 [] TW n2 ⟨[(2,.ptr 0 0 0),(40,.l GI aO),(41,.i aH),(42,.i aE)],[some (m8 aI aF az aG)]⟩
def HT:Option Bool:=lp (HB N).l N 0 Lk.tc 43 [] TW n1 ⟨[(2,.ptr 0 0 0),(3,.ptr 1 0 0),(26,.l GI x1),(27,.i x2),(28,.i x3)],[some (m8 x4 x5 x6 x7),some (fi x8 x9)]⟩
theorem axm:Gf N (n2+1) aO aH aE aI aF az aG=
  bif(decide (aE<aH)) then
  bif ae aE aO.length then
  bif(decide ((aO.getD aE.toNat 0)<(-1))) then
  some false
  else
  bif ae aE aG.length then
  bif(decide ((aO.getD aE.toNat 0)>=((aG.getD aE.toNat iZ).2.2.length:Int))) then
  some false
  else
  Gf N n2 aO aH (W (aE+1)) aI aF az aG
  else none
  else none
  else
  some true:=by kernel_rfl
theorem akv:HT N (n1+1) x1 x2 x3 x4 x5 x6 x7 x8 x9=
  bif(decide (x3<x2)) then
  bif ae x3 x1.length then
  bif(decide ((x1.getD x3.toNat 0)<(-1))) then
  some false
  else
  bif(decide ((x1.getD x3.toNat 0)>2)) then
  some false
  else
  HT N n1 x1 x2 (W (x3+1)) x4 x5 x6 x7 x8 x9
  else none
  else
  Gf N N x9 (x9.length:Int) 0 x4 x5 x6 x7:=by kernel_rfl
end
def yj(N:Nat)(a0:bQ)(a1:bF):Option Bool:=
  bif((a1.1.length:Int) !=(a0.2.1.length:Int)) then
  some false
  else
  bif((a1.2.length:Int) !=(a0.2.2.length:Int)) then
  some false
  else
  HT N N a1.1 (a1.1.length:Int) 0 a0.1.1 a0.1.2 a0.2.1 a0.2.2 a1.1 a1.2
theorem aiv(N:Nat):bk Tryz.prog 106 [iE,ep] [.bool] (fun x=>yj N x.1 x.2):=bG (N:=N) (fq Lk Tryz.func106) (HB N).ok
def Ts(N:Nat):CE:=(HB N).a (bD (aiv N))
def aiz:FD:=fd 6 nf [(.t 2)] Tryz.f147 []
def HX(N:Nat)(a0:dm):Option Bool:=
  (zk N a0).bind fun r1=>
  some (r1==0)
theorem awp(N:Nat):bk Tryz.prog 147 [we] [.bool] (fun x=>HX N x):=bG (N:=N) (fq aiz Tryz.func147) (Ts N).ok
def E64(N:Nat):CE:=(Ts N).a (bD (awp N))
def TO:List NS:=[.wk 4 (.list LI),.wk 7 LI,.af [4,7,61,62],.cmp]
def xC:List NS:=[.wk 4 (.list LI),.wk 7 LI,.af [4,7,9,70,71],.cmp]
def I1:List NS:=[.own 11 GI,.wk 4 (.list LI),.wk 7 LI,.af [4,7,9,11,70,71],.cmp]
def RU:List NS:=[.own 11 GI,.wk 4 (.list LI),.wk 7 LI,.wk 102 LI,.af [4,7,9,11,70,71,102,103,104],.cmp]
def acm:TC:=(.rg [.m 117 11,.m 118 14,⟨⟨some 119,(.g9 false 1 [(I 0)] 1 [(0,(.t 118))]),none⟩,⟨GI,none,[]⟩⟩,.s 120 (.app 1 8 (.t 117) (.t 119)),.m 11 120] none)
def as7:TC:=(.cond (.t 112) (.seq (.rg [.m 113 7,.m 114 14,.m 115 9,.s 116 (.cP 1 (.t 113) (.t 114)),.d (.store 1 (.t 116) (.t 115))] none) acm) .skip)
def aom:TC:=(.seq (.rg [.m 108 7,.m 109 14,.s 110 (.cP 1 (.t 108) (.t 109)),.s 111 (.load false 1 (.t 110)),.s 112 (.bin .lss (.t 111) (.c (I 0)))] none) as7)
def amz:TC:=(.rg [.s 121 (.bin .add (.t 104) (.c (I 1))),.m 104 121] none)
def aib:TC:=(.seq (.block 9 (.seq (.rg [.s 106 (.cP 1 (.t 102) (.t 104)),.s 107 (.load false 1 (.t 106)),.m 14 107] none) aom)) amz)
def aro:TC:=(.seq (.cond (.t 105) .skip (.exit 8)) aib)
def Q4:TC:=(.seq (.rg [.s 105 (.bin .lss (.t 104) (.t 103))] none) aro)
def aax:TC:=(.cond (.t 87) .skip (.exit 6))
def Yc:TC:=(.block 8 (.loop RU Q4))
def Yf:TC:=(.seq (.rg [.m 99 4,.m 100 12,.s 101 (.cP 1 (.t 99) (.t 100)),.s 102 (.load false 1 (.t 101)),.s 103 (.len (.t 102)),.s 104 (.bS (.c (I 0)))] none) Yc)
def au6:TC:=(.seq (.rg [.m 94 11,.m 95 11,.s 96 (.len (.t 95)),.s 97 (.bin .sub (.t 96) (.c (I 1))),.s 98 (.jL 1 (.t 94) none (some (.t 97))),.m 11 98] none) Yf)
def anu:TC:=(.block 7 (.seq (.rg [.m 88 11,.m 89 11,.s 90 (.len (.t 89)),.s 91 (.bin .sub (.t 90) (.c (I 1))),.s 92 (.cP 1 (.t 88) (.t 91)),.s 93 (.load false 1 (.t 92)),.m 12 93] none) au6))
def MO:TC:=(.seq (.seq (.rg [.m 85 11,.s 86 (.len (.t 85)),.s 87 (.bin .gtr (.t 86) (.c (I 0)))] none) aax) anu)
def Oh:TC:=(.rg [.m 122 9,.s 123 (.bin .add (.t 122) (.c (I 1))),.m 9 123] none)
def KV:TC:=(.rg [.s 124 (.bin .add (.t 71) (.c (I 1))),.m 71 124] none)
def aj2:TC:=(.cond (.t 78) (.exit 5) .skip)
def afw:TC:=(.block 6 (.loop I1 MO))
def avw:TC:=(.seq (.seq (.rg [.m 83 10,⟨⟨some 84,(.g9 true 1 [(I 0)] 1 [(0,(.t 83))]),none⟩,⟨GI,none,[]⟩⟩,.m 11 84] none) afw) Oh)
def ayt:TC:=(.seq (.rg [.m 79 7,.m 80 10,.m 81 9,.s 82 (.cP 1 (.t 79) (.t 80)),.d (.store 1 (.t 82) (.t 81))] none) avw)
def afh:TC:=(.seq (.seq (.rg [.m 74 7,.m 75 10,.s 76 (.cP 1 (.t 74) (.t 75)),.s 77 (.load false 1 (.t 76)),.s 78 (.bin .geq (.t 77) (.c (I 0)))] none) aj2) ayt)
def auk:TC:=(.seq (.block 5 (.seq (.rg [.m 73 71,.m 10 73] none) afh)) KV)
def aex:TC:=(.seq (.cond (.t 72) .skip (.exit 4)) auk)
def Hc:TC:=(.seq (.rg [.s 72 (.bin .lss (.t 71) (.t 70))] none) aex)
def alm:TC:=.ret
def acd:TC:=(.pre [.ej 2] alm)
def GM:TC:=(.seq (.rg [.m 125 7,.m 126 9,.m 2 125,.m 3 126] none) acd)
def ap1:TC:=(.rg [.m 65 7,.m 66 8,.s 67 (.cP 1 (.t 65) (.t 66)),.d (.store 1 (.t 67) (.c (I (-1))))] none)
def ax7:TC:=(.rg [.s 68 (.bin .add (.t 62) (.c (I 1))),.m 62 68] none)
def aoe:TC:=(.seq (.block 3 (.seq (.rg [.m 64 62,.m 8 64] none) ap1)) ax7)
def ae5:TC:=(.seq (.cond (.t 63) .skip (.exit 2)) aoe)
def Qi:TC:=(.seq (.rg [.s 63 (.bin .lss (.t 62) (.t 61))] none) ae5)
def ah3:TC:=(.block 4 (.loop xC Hc))
def ahi:TC:=(.seq (.seq (.rg [.m 69 7,.s 70 (.len (.t 69)),.s 71 (.bS (.c (I 0)))] none) ah3) GM)
def Qb:TC:=(.seq (.rg [.s 9 (.bS (.c (I 0)))] none) ahi)
def aeu:TC:=(.block 2 (.loop TO Qi))
def ak3:TC:=(.seq (.seq (.rg [.m 60 7,.s 61 (.len (.t 60)),.s 62 (.bS (.c (I 0)))] none) aeu) Qb)
def atc:TC:=(.seq (.rg [.s 56 (.bO 0 (.t 1)),.s 57 (.load false 1 (.t 56)),.s 58 (.len (.t 57)),⟨⟨some 59,(.fw 1 8 [(I 0)] (.t 58) (.t 58)),none⟩,⟨GI,none,[]⟩⟩,.m 7 59] none) ak3)
def YJ:TC:=(.hand [Mt,KG] (.list LI) MK OF atc)
def agk:TC:=(.seq (.rg [.s 1 (.box (.t 0)),.s 2 (.bS (.c (.ab true []))),.s 3 (.bS (.c (I 0)))] none) YJ)
def kh(N:Nat):List (Nat×eC):=[]
def B7(N:Nat)(n3 n2:Nat)(n:Nat)(bx:List (List Int))(bq bL bN:Int)(bz:List Int)(bP bA:Int)(bw bZ:List Int):Option ((List Int)×Int):=kE (fP 0 RU) (run (kh N) N 0 Q4) n ⟨[(4,.l LI bx),(7,.whole 0),(9,.i bq),(11,.whole 1),(70,.i bL),(71,.i bN),(102,.l GI bz),(103,.i bP),(104,.i bA)],[some (.arr GI bw),some (.arr GI bZ)]⟩ (lq 8 (lq 7 (jO (wO (fP 0 I1) (kE (fP 0 I1) (run (kh N) N 0 MO) n3)) (lq 6 (jO (run (kh N) N 0 Oh) (lq 5 (jO (run (kh N) N 0 KV) (jO (wO (fP 0 xC) (kE (fP 0 xC) (run (kh N) N 0 Hc) n2)) (lq 4 (jO (run (kh N) N 0 GM) (fin [(.t 2),(.t 3)] [LI,GI])))))))))))
def Cm(N:Nat)(n2:Nat)(n:Nat)(aF:List (List Int))(az aG aU:Int)(bb aQ:List Int):Option ((List Int)×Int):=kE (fP 0 I1) (run (kh N) N 0 MO) n ⟨[(4,.l LI aF),(7,.whole 0),(9,.i az),(11,.whole 1),(70,.i aG),(71,.i aU)],[some (.arr GI bb),some (.arr GI aQ)]⟩ (lq 6 (jO (run (kh N) N 0 Oh) (lq 5 (jO (run (kh N) N 0 KV) (jO (wO (fP 0 xC) (kE (fP 0 xC) (run (kh N) N 0 Hc) n2)) (lq 4 (jO (run (kh N) N 0 GM) (fin [(.t 2),(.t 3)] [LI,GI]))))))))
def vK(N:Nat)(n:Nat)(av:List (List Int))(ai ao aq:Int)(ax:List Int):Option ((List Int)×Int):=kE (fP 0 xC) (run (kh N) N 0 Hc) n ⟨[(4,.l LI av),(7,.whole 0),(9,.i ai),(70,.i ao),(71,.i aq)],[some (.arr GI ax)]⟩ (lq 4 (jO (run (kh N) N 0 GM) (fin [(.t 2),(.t 3)] [LI,GI])))
def HC(N:Nat)(n:Nat)(x3:List (List Int))(x4 x5:Int)(x6:List Int):Option ((List Int)×Int):=kE (fP 0 TO) (run (kh N) N 0 Qi) n ⟨[(4,.l LI x3),(7,.whole 0),(61,.i x4),(62,.i x5)],[some (.arr GI x6)]⟩ (lq 2 (jO (run (kh N) N 0 Qb) (fin [(.t 2),(.t 3)] [LI,GI])))
theorem X7(N:Nat)(n3 n2:Nat)(n4:Nat)(bx:List (List Int))(bq bL bN:Int)(bz:List Int)(bP bA:Int)(bw bZ:List Int):B7 N n3 n2 (n4+1) bx bq bL bN bz bP bA bw bZ=
  bif(decide (bA<bP)) then
  bif ae bA bz.length then
  bif ae (bz.getD bA.toNat 0) bw.length then
  bif(decide ((bw.getD ((bz.getD bA.toNat 0).toNat) 0)<0)) then
  bif ae (bz.getD bA.toNat 0) bw.length then
  bif ba (bZ.length+1) 8 then
  B7 N n3 n2 n4 bx bq bL bN bz bP (W (bA+1)) (bw.set ((bz.getD bA.toNat 0).toNat) bq) (bZ++[bz.getD bA.toNat 0])
  else none
  else none
  else
  B7 N n3 n2 n4 bx bq bL bN bz bP (W (bA+1)) bw bZ
  else none
  else none
  else
  Cm N n2 n3 bx bq bL bN bw bZ:=by kernel_rfl
theorem Oi(N:Nat)(n2:Nat)(n3:Nat)(aF:List (List Int))(az aG aU:Int)(bb aQ:List Int):Cm N n2 (n3+1) aF az aG aU bb aQ=
  bif(decide ((aQ.length:Int)>0)) then
  let yv:=W ((aQ.length:Int)-1)
  bif ae yv aQ.length then
  let v30:=W ((aQ.length:Int)-1)
  bif gz 0 v30 aQ.length then
  bif ae (aQ.getD yv.toNat 0) aF.length then
  let v31:=aF.getD (aQ.getD yv.toNat 0).toNat []
  B7 N n3 n2 N aF az aG aU v31 (v31.length:Int) 0 bb ((aQ.drop ((0:Int).toNat)).take (v30.toNat-(0:Int).toNat))
  else none
  else none
  else none
  else
  vK N n2 aF (W (az+1)) aG (W (aU+1)) bb:=by kernel_rfl
theorem RX(N:Nat)(n2:Nat)(av:List (List Int))(ai ao aq:Int)(ax:List Int):vK N (n2+1) av ai ao aq ax=
  bif(decide (aq<ao)) then
  bif ae aq ax.length then
  bif(decide ((ax.getD aq.toNat 0)>=0)) then
  vK N n2 av ai ao (W (aq+1)) ax
  else
  bif ae aq ax.length then
  Cm N n2 N av ai ao aq (ax.set aq.toNat ai) [aq]
  else none
  else none
  else
  some (ax,ai):=by kernel_rfl
theorem U0(N:Nat)(n1:Nat)(x3:List (List Int))(x4 x5:Int)(x6:List Int):HC N (n1+1) x3 x4 x5 x6=
  bif(decide (x5<x4)) then
  bif ae x5 x6.length then
  HC N n1 x3 x4 (W (x5+1)) (x6.set x5.toNat (-1))
  else none
  else
  vK N N x3 0 (x6.length:Int) 0 x6:=by kernel_rfl
def Iw(N:Nat)(a0:dm):Option ((List Int)×Int):=
  (Ev a0.1.length a0.2).bind fun r1=>
  bif eH 8 (a0.1.length:Int) (a0.1.length:Int) then
  let v2:=List.replicate (a0.1.length:Int).toNat 0
  HC N N r1 (v2.length:Int) 0 v2
  else none
theorem adm:ib Tryz.prog 148 127 (fun t:Nat=>Nat.beq t 84) agk.er [(.t 2),(.t 3)]:=ib.mk' Tryz.func148 (by kernel_rfl) (by kernel_rfl) (by kernel_rfl) (by kernel_rfl) (by kernel_rfl)
theorem Yy(N:Nat):iS Tryz.prog (kh N):=.nil
theorem agj(N:Nat):bk Tryz.prog 148 [we] [LI,GI] (fun x=>Iw N x):=NO (N:=N) mixed adm (Yy N) (And.intro trivial (And.intro aeo (And.intro trivial (And.intro (And.intro trivial (And.intro trivial (And.intro (And.intro trivial trivial) (And.intro (And.intro trivial trivial) trivial)))) (And.intro trivial (And.intro (And.intro trivial (And.intro trivial (And.intro (And.intro trivial trivial) (And.intro (And.intro trivial (And.intro (And.intro trivial (And.intro trivial trivial)) (And.intro trivial (And.intro (And.intro trivial (And.intro (And.intro trivial (And.intro trivial trivial)) (And.intro trivial (And.intro trivial (And.intro trivial (And.intro trivial (And.intro (And.intro trivial trivial) (And.intro (And.intro trivial (And.intro trivial (And.intro (And.intro trivial trivial) trivial))) trivial)))))))) trivial)))) trivial)))) (And.intro trivial trivial))))))) rfl (fun x=>by kernel_rfl)
def EA(N:Nat):CE:=(E64 N).a (bD (agj N))
def Nr:FD:=fd 57 nf [(.t 2)] Tryz.f138 [(30,{an:=[(1,⟨.bool,none,[]⟩)]}),(53,{w:=[(false,[.ej 2])]}),(250,{ns:=[.wk 3 LI,.wk 5 (.list .bool),.wk 21 (.list bU),.af [1,3,5,21,22,23],.cmp]}),(255,{w:=[(false,[.ej 8])]}),(511,{w:=[(false,[.ej 2])]}),(1018,{ns:=[.own 8 (.int
  .i64),.wk 3 LI,.wk 5 (.list .bool),.af [3,5,8,39,40],.cmp]}),(260710,{an:=[(2,⟨GI,none,[]⟩)]})]
def UI:Exit->SI->Option (List Int):=fin [(.t 2)] [LI]
section
variable (N n1 n2:Nat) (x4:List Int) (x5:List bj) (x6 x7:Int) (x8:List bj) (x9:List aR) (aj:List Bool) (bb:List Int) (aQ aZ:Int) (bp:List Bool) (bn:List Int)
def z7:Option (List Int):=lp (EA N).l N 0 Nr.tc 703 [] UI n2 ⟨[(3,.l GI bb),(5,.whole 0),(8,.whole 1),(39,.i aQ),(40,.i aZ)],[some (.arr .bool bp),some (.arr GI bn)]⟩
def zc:Option (List Int):=lp (EA N).l N 0 Nr.tc 175 [] UI n1 ⟨[(1,.ptr 0 0 0),(3,.l GI x4),(5,.whole 1),(21,.l bU x5),(22,.i x6),(23,.i x7)],[some (.box 0 [.l bU x8,.l bY x9]),some (.arr .bool aj)]⟩
theorem ama:z7 N (n2+1) bb aQ aZ bp bn=
  bif(decide (aZ<aQ)) then
  bif ae aZ bb.length then
  bif ae (bb.getD aZ.toNat 0) bp.length then
  bif(!(bp.getD ((bb.getD aZ.toNat 0).toNat) false)) then
  bif ba (bn.length+1) 8 then
  z7 N n2 bb aQ (W (aZ+1)) bp (bn++[aZ])
  else none
  else
  z7 N n2 bb aQ (W (aZ+1)) bp bn
  else none
  else none
  else
  some bn:=by kernel_rfl
theorem aqx:zc N (n1+1) x4 x5 x6 x7 x8 x9 aj=
  bif(decide (x7<x6)) then
  bif ae x7 x5.length then
  bif(x5.getD x7.toNat rq).2 then
  bif ae x7 x4.length then
  bif ae (x4.getD x7.toNat 0) aj.length then
  zc N n1 x4 x5 x6 (W (x7+1)) x8 x9 (aj.set ((x4.getD x7.toNat 0).toNat) true)
  else none
  else none
  else
  zc N n1 x4 x5 x6 (W (x7+1)) x8 x9 aj
  else none
  else
  z7 N N x4 (x8.length:Int) 0 aj []:=by kernel_rfl
end
def GK(N:Nat)(a0:dm):Option (List Int):=
  (HX N a0).bind fun r1=>
  bif(!r1) then
  some []
  else
  (Iw N a0).bind fun r2=>
  bif eH 1 r2.2 r2.2 then
  zc N N r2.1 a0.1 (a0.1.length:Int) 0 a0.1 a0.2 (List.replicate r2.2.toNat false)
  else none
theorem ato(N:Nat):bk Tryz.prog 138 [we] [LI] (fun x=>GK N x):=bG (N:=N) (fq Nr Tryz.func138) (EA N).ok
def K7(N:Nat):CE:=(EA N).a (bD (ato N))
end
end M
end Go.Proofs.YtgmpjkgogjkfcaaGreat
