/- The sanity check holds. No condition of its own. -/
import Derived.Test.YtgmpjkgogjkfcaaGreatQ
set_option linter.all false
namespace Go.Proofs.YtgmpjkgogjkfcaaGreat
open Go.Pv M
noncomputable section
def sE:bX:=(((([(0,true),(0,true)],[(0,(1,(1,(4,(false,(false,((1,1),(90000,90000))))))))]),([],[])),([(0,(1,(0,(0,(1000,(1,(1000,60)))))))],([(1,(0,(0,(100,(60,1)))))],([([(1,(0,(0,0)))],(1,([0],1)))],[(1,()),(2,())])))))
def fE:cz:=([(-1,(0,(0,(true,false))))],([0],3))
def bE:List Int:=[126,2,0,1,0,9,243,150]
def xE(t:Int)(m:aP)(w c:bt)(sw:bV)(q:eT)(l:List aP):aT:=(sE,(t,(([],0),([m],([w],([c],(([sw],([0],3)),(q,l))))))))
def nq:eT:=(-1,(-1,(-1,(0,0))))
abbrev y0:aT:=xE 0 (0,(1,(8,10))) (true,(-1,0)) (true,(-1,0)) (-1,(0,(0,(false,false)))) nq []
abbrev y1:aT:=xE 1 (0,(1,(8,10))) (true,(-1,0)) (true,(-1,0)) (-1,(0,(0,(false,false)))) nq []
abbrev y2:aT:=xE 1 (0,(1,(8,10))) (true,(1,1)) (true,(-1,0)) (-1,(0,(0,(false,false)))) nq []
abbrev y3:aT:=xE 0 (-1,(0,(0,0))) (true,(-1,0)) (true,(-1,0)) (-1,(0,(0,(false,false)))) nq []
abbrev y4:aT:=xE 1 (0,(7,(8,10))) (true,(1,1)) (true,(-1,0)) (-1,(0,(0,(false,false)))) nq []
abbrev y5:aT:=xE 7 (0,(7,(8,10))) (true,(1,1)) (true,(-1,0)) (-1,(0,(0,(false,false)))) nq []
abbrev y6:aT:=xE 7 (0,(7,(8,10))) (false,(-1,7)) (true,(7,0)) (-1,(0,(0,(false,true)))) nq [(7,(3,(0,0)))]
abbrev y7:aT:=xE 7 (0,(13,(8,10))) (false,(-1,7)) (true,(7,0)) (-1,(0,(0,(false,true)))) nq [(7,(3,(0,0)))]
abbrev y8:aT:=xE 13 (0,(13,(8,10))) (false,(-1,7)) (true,(7,0)) (-1,(0,(0,(false,true)))) nq [(7,(3,(0,0)))]
abbrev y9:aT:=xE 13 (0,(13,(8,10))) (false,(-1,13)) (true,(7,0)) (-1,(0,(0,(false,true)))) nq [(7,(3,(0,0)))]
abbrev K5:aT:=xE 13 (0,(19,(8,10))) (false,(-1,13)) (true,(7,0)) (-1,(0,(0,(false,true)))) nq [(7,(3,(0,0)))]
abbrev y11:aT:=xE 19 (0,(19,(8,10))) (false,(-1,13)) (true,(7,0)) (-1,(0,(0,(false,true)))) nq [(7,(3,(0,0)))]
abbrev Ap:aT:=xE 19 (0,(19,(8,10))) (false,(-1,19)) (true,(7,0)) (-1,(0,(0,(false,true)))) nq [(7,(3,(0,0)))]
abbrev L2:aT:=xE 19 (0,(25,(8,10))) (false,(-1,19)) (true,(7,0)) (-1,(0,(0,(false,true)))) nq [(7,(3,(0,0)))]
abbrev Ze:aT:=xE 25 (0,(25,(8,10))) (false,(-1,19)) (true,(7,0)) (-1,(0,(0,(false,true)))) nq [(7,(3,(0,0)))]
abbrev Bz:aT:=xE 25 (0,(25,(8,10))) (false,(-1,25)) (true,(7,0)) (-1,(0,(0,(false,true)))) nq [(7,(3,(0,0)))]
abbrev Bg:aT:=xE 25 (0,(31,(8,10))) (false,(-1,25)) (true,(7,0)) (-1,(0,(0,(false,true)))) nq [(7,(3,(0,0)))]
abbrev O0:aT:=xE 31 (0,(31,(8,10))) (false,(-1,25)) (true,(7,0)) (-1,(0,(0,(false,true)))) nq [(7,(3,(0,0)))]
abbrev Ct:aT:=xE 31 (0,(31,(8,10))) (false,(-1,31)) (true,(7,0)) (-1,(0,(0,(false,true)))) nq [(7,(3,(0,0)))]
abbrev Ay:aT:=xE 31 (0,(37,(8,10))) (false,(-1,31)) (true,(7,0)) (-1,(0,(0,(false,true)))) nq [(7,(3,(0,0)))]
abbrev KN:aT:=xE 37 (0,(37,(8,10))) (false,(-1,31)) (true,(7,0)) (-1,(0,(0,(false,true)))) nq [(7,(3,(0,0)))]
abbrev vg:aT:=xE 37 (0,(37,(8,10))) (false,(-1,37)) (true,(7,0)) (-1,(0,(0,(false,true)))) nq [(7,(3,(0,0)))]
abbrev Av:aT:=xE 37 (0,(43,(8,10))) (false,(-1,37)) (true,(7,0)) (-1,(0,(0,(false,true)))) nq [(7,(3,(0,0)))]
abbrev Nt:aT:=xE 43 (0,(43,(8,10))) (false,(-1,37)) (true,(7,0)) (-1,(0,(0,(false,true)))) nq [(7,(3,(0,0)))]
abbrev vM:aT:=xE 43 (0,(43,(8,10))) (false,(-1,43)) (true,(7,0)) (-1,(0,(0,(false,true)))) nq [(7,(3,(0,0)))]
abbrev zF:aT:=xE 43 (0,(49,(8,10))) (false,(-1,43)) (true,(7,0)) (-1,(0,(0,(false,true)))) nq [(7,(3,(0,0)))]
abbrev MU:aT:=xE 49 (0,(49,(8,10))) (false,(-1,43)) (true,(7,0)) (-1,(0,(0,(false,true)))) nq [(7,(3,(0,0)))]
abbrev uF:aT:=xE 49 (0,(49,(8,10))) (false,(-1,49)) (true,(7,0)) (-1,(0,(0,(false,true)))) nq [(7,(3,(0,0)))]
abbrev Bq:aT:=xE 49 (0,(55,(8,10))) (false,(-1,49)) (true,(7,0)) (-1,(0,(0,(false,true)))) nq [(7,(3,(0,0)))]
abbrev Lc:aT:=xE 55 (0,(55,(8,10))) (false,(-1,49)) (true,(7,0)) (-1,(0,(0,(false,true)))) nq [(7,(3,(0,0)))]
abbrev uR:aT:=xE 55 (0,(55,(8,10))) (false,(-1,55)) (true,(7,0)) (-1,(0,(0,(false,true)))) nq [(7,(3,(0,0)))]
abbrev I5:aT:=xE 55 (0,(55,(8,10))) (false,(-1,55)) (true,(7,0)) (-1,(0,(-1,(false,false)))) nq [(7,(3,(0,0)))]
abbrev y32:aT:=xE 60 (0,(55,(8,10))) (false,(-1,55)) (true,(7,0)) (-1,(0,(-1,(false,false)))) nq [(7,(3,(0,0)))]
abbrev uy:aT:=xE 60 (0,(55,(8,10))) (false,(-1,60)) (true,(7,0)) (-1,(0,(-1,(false,false)))) nq [(7,(3,(0,0)))]
abbrev y34:aT:=xE 61 (0,(55,(8,10))) (false,(-1,60)) (true,(7,0)) (-1,(0,(-1,(false,false)))) nq [(7,(3,(0,0)))]
abbrev Ow:aT:=xE 61 (0,(55,(8,10))) (false,(-1,61)) (true,(7,0)) (-1,(0,(-1,(false,false)))) nq [(7,(3,(0,0)))]
abbrev xd:aT:=xE 61 (0,(55,(8,10))) (false,(-1,61)) (true,(7,0)) (-1,(0,(-1,(false,false)))) (0,(0,(-1,(1,61)))) [(7,(3,(0,0))),(61,(4,(0,0)))]
abbrev y37:aT:=xE 62 (0,(55,(8,10))) (false,(-1,61)) (true,(7,0)) (-1,(0,(-1,(false,false)))) (0,(0,(-1,(1,61)))) [(7,(3,(0,0))),(61,(4,(0,0)))]
abbrev KA:aT:=xE 62 (0,(55,(8,10))) (false,(-1,62)) (true,(7,0)) (-1,(0,(-1,(false,false)))) (0,(0,(-1,(1,61)))) [(7,(3,(0,0))),(61,(4,(0,0)))]
abbrev yk:aT:=xE 62 (0,(55,(8,10))) (false,(-1,62)) (true,(7,0)) (-1,(0,(-1,(false,false)))) (0,(0,(1,(2,62)))) [(7,(3,(0,0))),(61,(4,(0,0))),(62,(5,(0,1)))]
abbrev y40:aT:=xE 63 (0,(55,(8,10))) (false,(-1,62)) (true,(7,0)) (-1,(0,(-1,(false,false)))) (0,(0,(1,(2,62)))) [(7,(3,(0,0))),(61,(4,(0,0))),(62,(5,(0,1)))]
abbrev OK:aT:=xE 63 (0,(55,(8,10))) (false,(-1,63)) (true,(7,0)) (-1,(0,(-1,(false,false)))) (0,(0,(1,(2,62)))) [(7,(3,(0,0))),(61,(4,(0,0))),(62,(5,(0,1)))]
abbrev y42:aT:=xE 63 (0,(55,(8,10))) (false,(-1,63)) (false,(7,0)) (-1,(63,(0,(true,false)))) nq [(7,(3,(0,0))),(61,(4,(0,0))),(62,(5,(0,1))),(63,(6,(0,0)))]
def aL(f:Nat)(t:Int)(x:aT):Option Bool:=DF 1000 f t x.1.1.1.1 x.1.1.1.2 x.1.1.2.1 x.1.1.2.2 x.1.2.1 x.1.2.2.1 x.1.2.2.2.1 x.1.2.2.2.2 x.2.1 x.2.2.1.1 x.2.2.1.2 x.2.2.2.1 x.2.2.2.2.1 x.2.2.2.2.2.1 x.2.2.2.2.2.2.1.1 x.2.2.2.2.2.2.1.2.1 x.2.2.2.2.2.2.1.2.2 x.2.2.2.2.2.2.2.1.1 x.2.2.2.2.2.2.2.1.2.1 x.2.2.2.2.2.2.2.1.2.2.1 x.2.2.2.2.2.2.2.1.2.2.2.1 x.2.2.2.2.2.2.2.1.2.2.2.2 x.2.2.2.2.2.2.2.2
theorem V0:vi 1000 ([],0)=some ((sE,fE),([],0)):=by kernel_rfl
theorem avu:Vs sE:=by
 obtain⟨r,e,h⟩:=VI (d:=([],0)) ⟨Int.le_refl 0,Int.le_refl 0,by decide,fun _ h=>(by cases h)⟩;rw[V0] at e;have e2:=Option.some.inj e;subst e2;exact h.1
theorem aac:wQ 1000 sE.1 ([],[])=some ([(300,300)],0):=by kernel_rfl
theorem Yd(t:Int)(m:aP)(w c:bt)(sw:bV)(q:eT)(l:List aP):xS 1000 (xE t m w c sw q l)=some ([],[]):=by kernel_rfl
theorem Zy(t t':Int):Be 1000 [(300,300)] sE.2.1 [(0,(t',(8,10)))] t=some (([(300,300)],[]),()):=by kernel_rfl
theorem jC(t t':Int)(w c:bt)(sw:bV)(q:eT)(l:List aP):lh 1000 (xE t (0,(t',(8,10))) w c sw q l)=some ([(300,300)],()):=by
 unfold lh;rw[Yd,bH,show(xE t (0,(t',(8,10))) w c sw q l).1.1=sE.1 from rfl,aac,bH,show(xE t (0,(t',(8,10))) w c sw q l).1.2.1=sE.2.1 from rfl,show(xE t (0,(t',(8,10))) w c sw q l).2.2.2.1=[(0,(t',(8,10)))] from rfl,Zy];rfl
theorem ale:s8 1000 0 9=some bE:=by kernel_rfl
theorem av2:wV 1000 ([],0) bE=some (([],0),[(0,(1,[0,9]))]):=by kernel_rfl
theorem ate{t:Int}(h:0<=t/\t<=2147483648):ue 1000 sE.2.1 (0,(1,[0,9])) t=some ((0,(t,(8,10))),0):=by
 unfold ue;rw[df (by omega),df (by omega)];kernel_rfl
theorem As(t:Int)(m:aP)(w c:bt)(sw:bV)(q:eT)(l:List aP)(hl:l.length<=10):lV 1000 (xE t m w c sw q l)=some (xE t m w c sw q l,()):=by
 unfold lV xE;rw[Lr avu];simp only[bH,List.length_cons,List.length_nil];rw[eG (by omega) (by omega),eG (by omega) (by omega),eG (by omega) (by omega),eG (by omega) (by omega),eG (by omega) (by omega),AT (by simp)];simp only[bH];rw[eG (by omega) (by omega)]
theorem zh(t0:Int)(m:aP)(w c:bt)(sw:bV)(q:eT)(l:List aP){t:Int}(h:t0<=t/\t<=2147483648):pI 1000 (xE t0 m w c sw q l) t=some false:=by
 unfold pI;rw[df (by show¬t<t0;omega),decide_eq_false (by omega)]
theorem pK(t0:Int)(m:aP)(w c:bt)(sw:bV)(q:eT)(l:List aP)(hl:l.length<=10){t:Int}(h:t0<=t/\t<=2147483648)(h0:0<=t):iF 1000 (xE t0 m w c sw q l) bE t=Option.bind (eB 1000 (xE t0 (0,(t,(8,10))) w c sw q l) t) fun r=>some (r.2,0):=by
 unfold iF;rw[As _ _ _ _ _ _ _ hl,bH,zh _ _ _ _ _ _ _ h,bH,cond_false];show Option.bind (wV 1000 ([],0) bE) _=_;rw[av2,bH,show(1000:Nat)=998+1+1 from rfl,My,dt (by decide),it (by decide)];show Option.bind (ue 1000 sE.2.1 (0,(1,[0,9])) t) _=_;rw[ate ⟨h0,h.2⟩,bH,et rfl];refine(dt (show(0:Int)<((1:Nat):Int) by decide)).trans ((it (show 0<=(0:Int)/\(0:Int)<((1:Nat):Int) by decide)).trans ?_);rw[My];refine(df (show¬(1:Int)<((1:Nat):Int) by decide)).trans ?_
 rfl
end
noncomputable section
theorem aim:eB 1000 (y0) 1=some ((),y2):=by
 unfold eB;rw[show((y0).1,((1:Int),(y0).2.2))=y1 from rfl,jC];kernel_rfl
theorem ao3:iF 1000 (y3) bE 1=some (y2,0):=by rw[pK _ _ _ _ _ _ _ (by decide) (by decide) (by decide),aim];rfl
theorem ahz:eB 1000 (y4) 7=some ((),y6):=by
 unfold eB;rw[show((y4).1,((7:Int),(y4).2.2))=y5 from rfl,jC];kernel_rfl
theorem aqi:iF 1000 (y2) bE 7=some (y6,0):=by rw[pK _ _ _ _ _ _ _ (by decide) (by decide) (by decide),ahz];rfl
theorem akd:eB 1000 (y7) 13=some ((),y9):=by
 unfold eB;rw[show((y7).1,((13:Int),(y7).2.2))=y8 from rfl,jC];kernel_rfl
theorem axn:iF 1000 (y6) bE 13=some (y9,0):=by rw[pK _ _ _ _ _ _ _ (by decide) (by decide) (by decide),akd];rfl
theorem aix:eB 1000 (K5) 19=some ((),Ap):=by
 unfold eB;rw[show((K5).1,((19:Int),(K5).2.2))=y11 from rfl,jC];kernel_rfl
theorem alq:iF 1000 (y9) bE 19=some (Ap,0):=by rw[pK _ _ _ _ _ _ _ (by decide) (by decide) (by decide),aix];rfl
theorem aip:eB 1000 (L2) 25=some ((),Bz):=by
 unfold eB;rw[show((L2).1,((25:Int),(L2).2.2))=Ze from rfl,jC];kernel_rfl
theorem ZN:iF 1000 (Ap) bE 25=some (Bz,0):=by rw[pK _ _ _ _ _ _ _ (by decide) (by decide) (by decide),aip];rfl
end
noncomputable section
theorem apw:eB 1000 (Bg) 31=some ((),Ct):=by
 unfold eB;rw[show((Bg).1,((31:Int),(Bg).2.2))=O0 from rfl,jC];kernel_rfl
theorem Zk:iF 1000 (Bz) bE 31=some (Ct,0):=by rw[pK _ _ _ _ _ _ _ (by decide) (by decide) (by decide),apw];rfl
theorem aqd:eB 1000 (Ay) 37=some ((),vg):=by
 unfold eB;rw[show((Ay).1,((37:Int),(Ay).2.2))=KN from rfl,jC];kernel_rfl
theorem aak:iF 1000 (Ct) bE 37=some (vg,0):=by rw[pK _ _ _ _ _ _ _ (by decide) (by decide) (by decide),aqd];rfl
theorem ap7:eB 1000 (Av) 43=some ((),vM):=by
 unfold eB;rw[show((Av).1,((43:Int),(Av).2.2))=Nt from rfl,jC];kernel_rfl
theorem afa:iF 1000 (vg) bE 43=some (vM,0):=by rw[pK _ _ _ _ _ _ _ (by decide) (by decide) (by decide),ap7];rfl
theorem ao2:eB 1000 (zF) 49=some ((),uF):=by
 unfold eB;rw[show((zF).1,((49:Int),(zF).2.2))=MU from rfl,jC];kernel_rfl
theorem ad2:iF 1000 (vM) bE 49=some (uF,0):=by rw[pK _ _ _ _ _ _ _ (by decide) (by decide) (by decide),ao2];rfl
theorem atx:eB 1000 (Bq) 55=some ((),uR):=by
 unfold eB;rw[show((Bq).1,((55:Int),(Bq).2.2))=Lc from rfl,jC];kernel_rfl
theorem ahj:iF 1000 (uF) bE 55=some (uR,0):=by rw[pK _ _ _ _ _ _ _ (by decide) (by decide) (by decide),atx];rfl
end
noncomputable section
theorem an6:eB 1000 (I5) 60=some ((),uy):=by
 unfold eB;rw[show((I5).1,((60:Int),(I5).2.2))=y32 from rfl,jC];kernel_rfl
theorem auu:rz 1000 (uR) 0 (-1) 60=some (uy,0):=by
 unfold rz;rw[As _ _ _ _ _ _ _ (by decide),bH,zh _ _ _ _ _ _ _ (by decide),bH,cond_false];have e:zI 1000 (uR).2.2.2.2.2.2.1 0 (-1)=some (([(-1,(0,(-1,(false,false))))],([0],3)),0):=by kernel_rfl
 rw[e,bH];simp only[bne_self_eq_false,cond_false];refine(congrArg (fun o=>Option.bind o _) an6:Option.bind (eB 1000 (I5) 60) _=_).trans rfl
theorem ady:eB 1000 (uy) 61=some ((),Ow):=by
 unfold eB;rw[show((uy).1,((61:Int),(uy).2.2))=y34 from rfl,jC];kernel_rfl
theorem Yt:tK 1000 (uy) 0 0 61=some (xd,0):=by
 unfold tK;rw[As _ _ _ _ _ _ _ (by decide),bH,zh _ _ _ _ _ _ _ (by decide),bH,cond_false,ady,bH];rw[show((),Ow).2=Ow from rfl,jC,bH];kernel_rfl
theorem ah8:eB 1000 (xd) 62=some ((),KA):=by
 unfold eB;rw[show((xd).1,((62:Int),(xd).2.2))=y37 from rfl,jC];kernel_rfl
theorem YM:s9 1000 (xd) 1 62=some (yk,0):=by
 unfold s9;rw[As _ _ _ _ _ _ _ (by decide),bH,zh _ _ _ _ _ _ _ (by decide),bH,cond_false,ah8,bH];rw[show((),KA).2=KA from rfl,jC,bH];kernel_rfl
theorem ake:eB 1000 (yk) 63=some ((),OK):=by
 unfold eB;rw[show((yk).1,((63:Int),(yk).2.2))=y40 from rfl,jC];kernel_rfl
theorem aun:tF 1000 (yk) 63=some (y42,0):=by
 unfold tF;rw[As _ _ _ _ _ _ _ (by decide),bH,zh _ _ _ _ _ _ _ (by decide),bH,cond_false,ake,bH];rw[show((),OK).2=OK from rfl,jC,bH];kernel_rfl
theorem agy:uh 1000 sE fE=some (y3,0):=by kernel_rfl
theorem pf(f:Nat)(t:Int)(ht:t<60){x y:aT}(h:iF 1000 x bE t=some (y,0)):aL (f+1) t x=aL f (W (t+6)) y:=by
 unfold aL;rw[XL,dt ht,ale,bH];refine(congrArg (fun o=>Option.bind o _) h:Option.bind (iF 1000 x bE t) _=_).trans ?_;rw[bH]
end
noncomputable section
theorem aav(f:Nat):aL (f+1) 61 uR=some true:=by
 unfold aL;rw[XL,df (by decide)];refine(congrArg (fun o=>Option.bind o _) auu:Option.bind (rz 1000 (uR) 0 (-1) 60) _=_).trans ?_;rw[bH];refine(congrArg (fun o=>Option.bind o _) Yt:Option.bind (tK 1000 (uy) 0 0 61) _=_).trans ?_;rw[bH];refine(congrArg (fun o=>Option.bind o _) YM:Option.bind (s9 1000 (xd) 1 62) _=_).trans ?_;rw[bH];refine(congrArg (fun o=>Option.bind o _) aun:Option.bind (tF 1000 (yk) 63) _=_).trans ?_;rw[bH];rfl
theorem al7(f:Nat):aL (f+1) 1 y3=aL f 7 y2:=pf f 1 (by decide) ao3
theorem ak8(f:Nat):aL (f+1) 7 y2=aL f 13 y6:=pf f 7 (by decide) aqi
theorem aa0(f:Nat):aL (f+1) 13 y6=aL f 19 y9:=pf f 13 (by decide) axn
theorem aar(f:Nat):aL (f+1) 19 y9=aL f 25 Ap:=pf f 19 (by decide) alq
theorem au3(f:Nat):aL (f+1) 25 Ap=aL f 31 Bz:=pf f 25 (by decide) ZN
theorem ak9(f:Nat):aL (f+1) 31 Bz=aL f 37 Ct:=pf f 31 (by decide) Zk
theorem afn(f:Nat):aL (f+1) 37 Ct=aL f 43 vg:=pf f 37 (by decide) aak
theorem avv(f:Nat):aL (f+1) 43 vg=aL f 49 vM:=pf f 43 (by decide) afa
theorem Z5(f:Nat):aL (f+1) 49 vM=aL f 55 uF:=pf f 49 (by decide) ad2
theorem ar0(f:Nat):aL (f+1) 55 uF=aL f 61 uR:=pf f 55 (by decide) ahj
theorem aql:aL 1000 1 y3=some true:=
 (al7 999).trans ((ak8 998).trans ((aa0 997).trans ((aar 996).trans ((au3 995).trans ((ak9 994).trans ((afn 993).trans ((avv 992).trans ((Z5 991).trans ((ar0 990).trans (aav 989))))))))))
theorem ace{c:Bool}{a b r:Option Bool}(h:c=false)(k:b=r):(bif c then a else b)=r:=by rw[h];exact k
theorem afv:uZ 1000 []=some (([],0),()):=by kernel_rfl
theorem aiu:BA 1000=some true:=by
 unfold BA;refine(congrArg (fun o=>Option.bind o _) afv:Option.bind (uZ 1000 []) _=_).trans ?_;rw[bH];refine(congrArg (fun o=>Option.bind o _) V0:Option.bind (vi 1000 ([],0)) _=_).trans ?_;rw[bH];refine(congrArg (fun o=>Option.bind o _) agy:Option.bind (uh 1000 sE fE) _=_).trans ?_;rw[bH];exact ace rfl aql
theorem ajv(dargs:List DV)(h:lS [(false,[.sl [.it .u8]])] dargs):de Tryz.prog 3 dargs [] 0 (B true) [] 0:=
 Zf (apu 1000) (fun x hx=>aha aiu hx.2 hx.1) rfl dargs h
end
end Go.Proofs.YtgmpjkgogjkfcaaGreat
