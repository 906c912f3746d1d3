/- draught.Make walked: its contract. No condition of its own. -/
import Derived.Test.YtgmpjkgogjkfcaaGreatG
import Derived.Test.YtgmpjkgogjkfcaaGreatChecked
import Derived.RangeFuncGives
import Derived.Maps.AppendAt
import Derived.Shelf.Abstract
import Derived.WalkKit
import Derived.OwnWalkIn
import Derived.TacticsInMore
import Derived.RegionIn
import Derived.LoopNIn
import Derived.LoopIn
set_option linter.all false
namespace Go.Proofs.YtgmpjkgogjkfcaaGreat
open Go.Pv Go.RowKit Go.Maps Go.Shelf
def PV(w:World)(d:DV)(x:Value):Prop:=VR (ah []) (fun _=>none) (fun _=>False) 0 w d x
theorem uK(ps:Ps)(b:Nat):¬Live (ah []) ps b:=by rintro⟨o,ck,p,h,_⟩;cases h
theorem PV.of{H:Hp}{ps:Ps}{M:Nat->Prop}{nx:Nat}{w:World}{d:DV}{x:Value}(h:VR H ps M nx w d x)(hd:bB (fun _=>False) d):PV w d x:=
 h.ke hd ⟨fun o h=>h.elim,fun o h=>h.elim,fun b hb=>by rcases hb with h | h;exact h.elim;exact absurd h (uK _ _),fun _ _ _=>rfl⟩
theorem PV.af{w w':World}{d:DV}{x:Value}(h:PV w d x)(fr:Fr (fun _=>False) w w'):PV w' d x:=
 VR.mono h ⟨Nat.le_refl _,fun o ho=>absurd ho (Nat.not_lt_zero _),fun b hb=>by rcases hb with h | h;exact h.elim;exact absurd h (uK _ _),fun b hb _=>fr.block b hb (fun h=>h)⟩
def GW(P:Program)(w:World):Prop:=iV P w (fun _=>False)
theorem GW.af{P:Program}{w w':World}(h:GW P w)(fr:Fr (fun _=>False) w w'):GW P w':=iV.of h fr fun b hb=>hb.elim
theorem Xs{M:Nat->Prop}{ps:Ps}{nx:Nat}{w:World}(hm:∀b,M b->b<w.heap.size):HR (ah []) ps M nx w:=
 ⟨fun o ck h=>(by cases h),fun o ck h=>(by cases h),fun o o' ck ck' p p' h=>(by cases h),hm,fun o ck p h=>(by cases h)⟩
theorem ag4{ps:Ps}{w w':World}(h:Fr (Live (ah []) ps) w w'):Fr (fun _=>False) w w':=⟨h.os,h.tape,h.output,h.size,fun i hi hn=>h.block i hi (uK _ _)⟩
theorem aym{P:Program}{f:FuncId}{ts ret:List GT}{model:aY ts->Option (aY ret)}(h:bk P f ts ret model){x:aY ts}{y:aY ret}(hm:model x=some y){w:World}{cargs:Array Value}(hsz:cargs.size=(fg ts x).length)
  (hv:∀j (hj:j<(fg ts x).length),PV w (fg ts x)[j] (cargs.getD j undef)) (hg:GW P w):Calls P f cargs w fun e w'=>∃v,e=.returned v/\PV w' (ft (fg ret y)) v/\Fr (fun _=>False) w w':=by
 refine((h x y hm 0).run (fun _=>False) (fun _=>none) w cargs (Xs fun _ h=>h.elim) hsz hv (hg.less fun b hb=>uK _ _ hb)).mono ?_;rintro e w' ⟨v,ps',rfl,h1,h2,h3,h4,h5⟩;exact⟨v,rfl,PV.of h1 (px (kr ret y)),ag4 h3⟩
theorem aff{w w':World}{row:Option Nat}(g:w.grownBy w' row)(h:∀k,row=some k->w.heap.size<=k):Fr (fun _=>False) w w':=
 ⟨g.os,g.tape,g.output,g.size,fun i hi _=>g.block i hi fun e=>by have:=h i e.symm;omega⟩
theorem aab(w:World)(o:Obj):Fr (fun _=>False) w (w.alloc o):=aff (World.grownBy_alloc w o none) (by simp)
theorem um{w1 w2 w3:World}(h:Fr (fun _=>False) w1 w2)(k:Fr (fun _=>False) w2 w3):Fr (fun _=>False) w1 w3:=
 ⟨k.os.trans h.os,k.tape.trans h.tape,k.output.trans h.output,Nat.le_trans h.size k.size,fun i hi _=>(k.block i (Nat.lt_of_lt_of_le hi h.size) (fun h=>h)).trans (h.block i hi (fun h=>h))⟩
theorem ald{w w':World}(h:Below w.heap.size w w'):Fr (fun _=>False) w w':=⟨h.os,h.tape,h.output,h.size,fun i hi _=>h.block i hi⟩
theorem ac0{w:World}{xs:List (List DV)}{s:Value}(h:PV w (.ab false xs) s)(sz:Nat)(hz:∀x,x∈xs->x.length=sz):∃oa cap,s=.slice oa xs.length cap/\(xs≠[]->∃b off,oa=some ⟨b,off,none⟩/\b<w.heap.size/\
  ∀i (hi:i<xs.length) j (hj:j<xs[i].length),∃v,w.cell? ⟨b,off+(i*sz+j),none⟩=some v/\PV w xs[i][j] v):=by
 cases h with
 | fm _ a cap hf=>exact⟨a,cap,rfl,fun h=>absurd rfl h⟩
 | ab _ _ b off cap sz' vs hne hs hcap hf hM hz' h1 hc hv=>
  have hp:=List.length_pos_iff.2 hne;have e:sz'=sz:=by rw[<-hz' 0 hp];exact hz _ (List.getElem_mem hp)
  subst e;exact⟨_,cap,rfl,fun _=>⟨b,off,rfl,uM (hc 0 0 hp hs),fun i hi j hj=>⟨vs i j,hc i j hi (by rw[<-hz' i hi];exact hj),hv i j hi hj⟩⟩⟩
theorem QJ{w:World}{d1 d2 d3:DV}{v:Value}(h:PV w (.agg [d1,d2,d3]) v):∃a b c,v=.agg #[a,b,c]/\PV w d1 a/\a.oneCell'=true/\b.oneCell'=true/\c.oneCell'=true:=by
 obtain⟨vs,rfl,z,z1,z2⟩:=h.fj;obtain⟨l⟩:=vs;match l,z with
 | [a,b,c],_=>exact⟨a,b,c,rfl,z2 0 (show 0<3 by decide),z1 0 (show 0<3 by decide),z1 1 (show 1<3 by decide),z1 2 (show 2<3 by decide)⟩
def ME:Code:=(Code.region 2 #[{dst:=some 5,op:=Op.assign (Operand.tmp 7),type:=3,pos:= "iter.go:51",after:= #[],guard:=none}] false)
def Kz:Code:=(Code.block 1 (Code.region 3 #[{dst:=some 8,op:=Op.load 40 (Operand.tmp 2),type:=40,pos:= "iter.go:52",after:= #[],guard:=none},{dst:=some 9,op:=Op.move (Operand.tmp 5),type:=3,pos:= "iter.go:52",after:= #[],guard:=none},{dst:=some 10,op:=Op.buildSlice 40 1 #[(0,Operand.tmp 9)],type:=40,pos:= "iter.go:52",after:= #[{on:=1,ground:=Ground.data}],guard:=none},{dst:=some 11,op:=Op.call {callee:=Callee.builtin Builtin.append,args:= #[Operand.tmp 8,Operand.tmp 10],argTypes:= #[40,40]},type:=40,pos:= "iter.go:52",after:= #[{on:=0,ground:=Ground.data},{on:=2,ground:=Ground.data}],guard:=none},{dst:=none,op:=Op.store 40 (Operand.tmp 2) (Operand.tmp 11),type:=0,pos:= "iter.go:52",after:= #[{on:=3,ground:=Ground.data},{on:=3,ground:=Ground.chain},{on:=0,ground:=Ground.phase},{on:=1,ground:=Ground.phase},{on:=2,ground:=Ground.phase},{on:=3,ground:=Ground.phase}],guard:=none}] false))
def na(fn:FuncId)(sv:Value)(Bs D:Nat)(st:LoopState):Loop:=
 {state:=st,pending:=none,fn,tmps:= #[.slice none 0 0,sv,.pointer (some ⟨Bs,0,none⟩),undef,.slice none 0 0,undef,sv,undef,undef,undef,undef,undef,undef],params:= #[7],assign:=ME,body:=Kz,defers:=D}
structure pR (B0:Nat) (w0:World) (r0:Nat) (fn:FuncId) (sv:Value) (Bs l D:Nat) (ss:List Int) (W:World):Prop where
 box:∃v,W.heap[Bs]? =some (.cells #[v] 40 (0,0))/\W.ownsRow r0 3 1 v ss.length (ss.map (Value.int .i64))/\(v=.slice none 0 0↔ss=[])
 L:W.heap[l]? =some (.loop (na fn sv Bs D .ready))
 K:W.heap[D]? =some (.deferred (some []))
 below:Below B0 w0 W
 size:r0<=W.heap.size
theorem xX(W:World)(l:Nat)(o:Obj):W.grownBy (W.putObj l o) (some l):=
 ⟨rfl,rfl,rfl,by simp,fun k _ hk=>World.putObj_heap_other (fun e=>hk (by rw[e]))⟩
theorem P5(W:World)(b:Nat)(v:Value):W.grownBy (W.setCell ⟨b,0,none⟩ v) (some b):=
 ⟨rfl,rfl,rfl,(KeepsWalks.setCell W _ v).size,fun k _ hk=>Below.heap_setCell _ _ _ k (fun e=>hk (by rw[e]))⟩
theorem aoi{W W':World}{row:Option Nat}(B:Nat)(h:W.grownBy W' row)(hB:B<=W.heap.size)(hr:∀k,row=some k->B<=k):Below B W W':=(Below.refl B W).grown h hB hr
theorem wx{W:World}{base:Nat}{e:TypeId}{size:Nat}{v:Value}{k:Nat}{xs:List Value}(h:W.ownsRow base e size v k xs){j:Nat}{o:Obj}(hj:W.heap[j]? =some o)(hno:∀cur,o≠.cells cur e (0,0)):
  v.ownBlock=none\/v.ownBlock≠some j:=by
 rcases h.2 with⟨rfl,_⟩ | ⟨g,cap,cur,rfl,_,hgb,_⟩
 ·exact .inl rfl
 ·refine .inr fun e'=>?_;have:g=j:=by simpa[Value.ownBlock] using e'
  subst this;rw[hgb] at hj;cases hj;exact hno cur rfl
theorem aub{W:World}{base:Nat}{e:TypeId}{size:Nat}{v:Value}{k:Nat}{xs:List Value}(h:W.ownsRow base e size v k xs){j:Nat}(hj:j<base):v.ownBlock=none\/v.ownBlock≠some j:=by
 rcases h.2 with⟨rfl,_⟩ | ⟨g,cap,cur,rfl,hb,hgb,_⟩
 ·exact .inl rfl
 ·refine .inr fun e'=>?_;have:g=j:=by simpa[Value.ownBlock] using e'
  omega
theorem BY{W:World}{B:Nat}{v:Value}{t:TypeId}(h:W.heap[B]? =some (.cells #[v] t (0,0))):W.cell? ⟨B,0,none⟩=some v/\W.frozen? ⟨B,0,none⟩=false:=by
 constructor<;>simp[World.cell?,World.frozen?,h]
theorem X1{W:World}{B:Nat}{v:Value}{t:TypeId}(v':Value)(h:W.heap[B]? =some (.cells #[v] t (0,0))):(W.setCell ⟨B,0,none⟩ v').heap[B]? =some (.cells #[v'] t (0,0)):=by
 obtain⟨hlt,hk⟩:=Array.getElem?_eq_some_iff.1 h;show(W.heap.modify B _)[B]? =_;rw[Array.getElem?_eq_getElem (by rw[Array.size_modify];exact hlt),Array.getElem_modify_self,hk];rfl
theorem in3:(Tryz.prog.info? 3).map (fun i=>(i.zero,i.size,i.bytes))=some (some (.int .i64 0),1,8):=by kernel_rfl
set_option maxRecDepth 100000 in
set_option maxHeartbeats 2000000 in
theorem as4(F:Fence)(m:Nat){B0:Nat}{w0:World}{r0:Nat}(fn:FuncId)(hfn:F.fn fn)(sv:Value)(Bs l D:Nat)(hBl:Bs≠l)(hDl:D≠l)(hDB:D≠Bs)(h00:B0<=r0)(h0B:r0<=Bs)(h0l:r0<=l)
  (ss:List Int) (x:Int) (W:World) (h:pR B0 w0 r0 fn sv Bs l D ss W) (hN:ss.length+1<=maxLen) (hNb:(ss.length+1)*8<=140737488355328):
  YieldAt F m Tryz.prog l #[Value.int .i64 x] W fun e W'=>e=.returned (.bool true)/\pR B0 w0 r0 fn sv Bs l D (ss++[x]) W'/\Below r0 W W':=by
 obtain⟨i0,hi,hz0,hz1,hz2⟩:=info_parts in3;obtain⟨v,hv,hrow,_⟩:=h.box;refine⟨fn, #[.slice none 0 0,sv,.pointer (some ⟨Bs,0,none⟩),undef,.slice none 0 0,undef,sv,Value.int .i64 x,undef,undef,undef,undef,undef],ME,Kz,by simpa[na] using run_yield (P:=Tryz.prog) (args:= #[Value.int .i64 x]) h.L rfl,roundIn_of_wpIn hfn ?_⟩;have hl:l<W.heap.size:=(Array.getElem?_eq_some_iff.1 h.L).1;have hbr:=run_beginRound (P:=Tryz.prog) h.L rfl;obtain⟨W2,hW2⟩:∃W2,W.putObj l (.loop {na fn sv Bs D .ready with state:=.busy})=W2:=⟨_,rfl⟩;rw[hW2] at hbr
 have hg2:W.grownBy W2 (some l):=by rw[<-hW2];exact xX _ _ _
 have hv2:W2.heap[Bs]? =some (.cells #[v] 40 (0,0)):=by rw[<-hW2];exact(World.putObj_heap_other hBl).trans hv
 have hK2:W2.heap[D]? =some (.deferred (some [])):=by rw[<-hW2];exact(World.putObj_heap_other hDl).trans h.K
 have hL2:W2.heap[l]? =some (.loop {na fn sv Bs D .ready with state:=.busy}):=by rw[<-hW2];exact World.putObj_heap_same hl
 have hrow2:W2.ownsRow r0 3 1 v ss.length (ss.map (Value.int .i64)):=hrow.kept hg2 (wx hrow h.L (fun cur e=>by cases e));have hz:r0<=W2.heap.size:=Nat.le_trans h.size hg2.size;have hR2:Below r0 W W2:=aoi r0 hg2 h.size (fun k e=>by cases e;exact h0l);obtain⟨hc2,hf2⟩:=BY hv2;have hBlt:Bs<W2.heap.size:=(Array.getElem?_eq_some_iff.1 hv2).1;have hl2:l<W2.heap.size:=(Array.getElem?_eq_some_iff.1 hL2).1;have hDlt:D<W2.heap.size:=(Array.getElem?_eq_some_iff.1 hK2).1;have ne_of:∀{j:Nat} {o:Obj},W2.heap[j]? =some o->(∀cur,o≠.cells cur 3 (0,0))->some j≠v.ownBlock:=fun hj hno=>by
  rcases wx hrow2 hj hno with e | e
  ·rw[e];simp
  ·exact fun e'=>e e'.symm
 clear hW2;unfold ME;gi_wp2_with (rw[Oper.semAt_eq _ _ _ (fun c h=>by cases h)];go_simp)
 unfold Kz;gi_wp2_with (first
  | (gi_at_builtin;refine wpListIn_append_own _ rfl _ _ 40 rfl r0 3 i0 (.int .i64 0) 1 8 Tryz.underlying40 hi hz0 hz1 hz2 rfl (by decide) _ _ _ rfl (hrow2.alloc _) ⟨W2.heap.size,0,none⟩ 1 1 [Value.int .i64 x] rfl rfl (cell_one_new _ _ _) (by simp[Value.oneCell']) (by omega) (by omega) (by simp;omega) ?_;intro v' w3 hown' hg3 hnil3
     have hv3:w3.heap[Bs]? =some (.cells #[v] 40 (0,0)):=(hg3.block Bs (by simp;omega) (ne_of hv2 (fun cur e=>by cases e))).trans ((Below.heap_alloc _ _ Bs hBlt).trans hv2);obtain⟨hc3,hf3⟩:=BY hv3;obtain⟨g',cap',cur',rfl,hbase',hgb',hr1,hr2,hr3,hr4⟩:∃g' cap' cur',v'=.slice (some ⟨g',0,none⟩) (ss.length+1) cap'/\r0<=g'/\w3.heap[g']? =some (.cells cur' 3 (0,0))/\ss.length+1<=cap'/\cap'<=maxLen/\cur'.size=cap'*1/\cur'.toList.take ((ss.length+1)*1)=ss.map (Value.int .i64)++[Value.int .i64 x]:=by
      rcases hown'.2 with⟨_,h0⟩ | h'
      ·exact absurd h0 (by omega)
      ·exact h'
     simp only[Act.put,List.setIfInBounds_toArray,List.set_cons_succ,List.set_cons_zero])
  | (rw[Oper.semAt_eq _ _ _ (fun c h=>by cases h)];go_simp))
 have hg3':(W2.alloc (.cells #[Value.int .i64 x] 3)).grownBy w3 v.ownBlock:=hg3;have hL3:w3.heap[l]? =some (.loop {na fn sv Bs D .ready with state:=.busy}):=(hg3'.block l (by simp;omega) (ne_of hL2 (fun cur e=>by cases e))).trans ((Below.heap_alloc _ _ l hl2).trans hL2);have hK3:w3.heap[D]? =some (.deferred (some [])):=(hg3'.block D (by simp;omega) (ne_of hK2 (fun cur e=>by cases e))).trans ((Below.heap_alloc _ _ D hDlt).trans hK2);obtain⟨w4,hw4⟩:∃w4,w3.setCell ⟨Bs,0,none⟩ (.slice (some ⟨g',0,none⟩) (ss.length+1) cap')=w4:=⟨_,rfl⟩;rw[hw4];have hg4:w3.grownBy w4 (some Bs):=by rw[<-hw4];exact P5 _ _ _
 have hv4:w4.heap[Bs]? =some (.cells #[.slice (some ⟨g',0,none⟩) (ss.length+1) cap'] 40 (0,0)):=by rw[<-hw4];exact X1 _ hv3
 have hL4:w4.heap[l]? =some (.loop {na fn sv Bs D .ready with state:=.busy}):=(hg4.block l (Array.getElem?_eq_some_iff.1 hL3).1 (fun e=>hBl (by cases e;rfl))).trans hL3;have hK4:w4.heap[D]? =some (.deferred (some [])):=(hg4.block D (Array.getElem?_eq_some_iff.1 hK3).1 (fun e=>hDB (by cases e;rfl))).trans hK3;have hrow4:=hown'.kept hg4 (wx hown' hv3 (fun cur e=>by cases e));have hl4:l<w4.heap.size:=(Array.getElem?_eq_some_iff.1 hL4).1;have hz2':r0<=(W2.alloc (.cells #[Value.int .i64 x] 3)).heap.size:=by simp;omega
 have hz3:r0<=w3.heap.size:=Nat.le_trans hz2' hg3'.size;have hR3:Below r0 W w3:=(hR2.alloc hz _).grown hg3' hz2' (fun k e=>(hrow2.lt k e).1);have hR4:Below r0 W w4:=hR3.grown hg4 hz3 (fun k e=>by cases e;exact h0B);have hz4:r0<=w4.heap.size:=Nat.le_trans hz3 hg4.size;clear hw4;have hR5:=hR4.grown (xX w4 l (.loop {{na fn sv Bs D .ready with state:=.busy} with state:=if(none:Option Code).isNone then .ready else .done,pending:=none})) hz4 (fun k e=>by cases e;exact h0l);refine⟨_,_,run_endRound none hL4,rfl,⟨⟨_,(World.putObj_heap_other hBl).trans hv4,?_,by simp⟩,World.putObj_heap_same hl4,(World.putObj_heap_other hDl).trans hK4,h.below.trans (hR5.mono h00),Nat.le_trans h.size hR5.size⟩,hR5⟩
 have:=hrow4.kept (xX w4 l (.loop {{na fn sv Bs D .ready with state:=.busy} with state:=if(none:Option Code).isNone then .ready else .done,pending:=none})) (wx hrow4 hL4 (fun cur e=>by cases e));simpa using this
def MX:Code:=((Code.region 0 #[{dst:=some 4,op:=Op.load 3 (Operand.tmp 1),type:=3,pos:= "feeder.go:46",after:= #[],guard:=none},{dst:=some 5,op:=Op.binOp BinOp.geq 3 (Operand.tmp 4) (Operand.const (Value.int IntKind.i64 0)) 3,type:=4,pos:= "feeder.go:46",after:= #[{on:=0,ground:=Ground.data}],guard:=none}] false).seq (Code.cond (Operand.tmp 5) Code.skip (Code.exit 0))).seq
 ((Code.block 1 ((Code.region 2 #[{dst:=some 12,op:=Op.move (Operand.tmp 0),type:=45,pos:= "feeder.go:47",after:= #[],guard:=none},{dst:=some 13,op:=Op.load 3 (Operand.tmp 1),type:=3,pos:= "feeder.go:47",after:= #[],guard:=none},{dst:=some 14,op:=Op.call {callee:=Callee.value (Operand.tmp 12),args:= #[Operand.tmp 13],argTypes:= #[3]},type:=4,pos:= "feeder.go:47",after:= #[{on:=0,ground:=Ground.data},{on:=1,ground:=Ground.data}],guard:=none},{dst:=some 15,op:=Op.unOp UnOp.not 4 (Operand.tmp 14),type:=4,pos:= "feeder.go:47",after:= #[{on:=2,ground:=Ground.data}],guard:=none}] false).seq (Code.cond (Operand.tmp 15) Code.ret Code.skip))).seq
 (Code.region 1 #[{dst:=some 6,op:=Op.fieldAddr 42 (Operand.tmp 2) 0,type:=0,pos:= "feeder.go:46",after:= #[],guard:=none},{dst:=some 7,op:=Op.load 39 (Operand.tmp 6),type:=39,pos:= "feeder.go:46",after:= #[{on:=0,ground:=Ground.data}],guard:=none},{dst:=some 8,op:=Op.load 3 (Operand.tmp 1),type:=3,pos:= "feeder.go:46",after:= #[],guard:=none},{dst:=some 9,op:=Op.indexAddr 39 (Operand.tmp 7) (Operand.tmp 8),type:=0,pos:= "feeder.go:46",after:= #[{on:=1,ground:=Ground.data},{on:=2,ground:=Ground.data}],guard:=none},{dst:=some 10,op:=Op.fieldAddr 104 (Operand.tmp 9) 0,type:=0,pos:= "feeder.go:46",after:= #[{on:=3,ground:=Ground.data}],guard:=none},{dst:=some 11,op:=Op.load 3 (Operand.tmp 10),type:=3,pos:= "feeder.go:46",after:= #[{on:=4,ground:=Ground.data}],guard:=none},{dst:=none,op:=Op.store 3 (Operand.tmp 1) (Operand.tmp 11),type:=0,pos:= "feeder.go:46",after:= #[{on:=5,ground:=Ground.data},{on:=0,ground:=Ground.phase},{on:=1,ground:=Ground.phase},{on:=2,ground:=Ground.phase},{on:=3,ground:=Ground.phase},{on:=4,ground:=Ground.phase},{on:=5,ground:=Ground.phase}],guard:=none}] false))
theorem amv:Tryz.f130.body=some (Code.block 0 (Code.loop MX)):=by kernel_rfl
structure n7 (Bx Bf:Nat) (xs:List Int) (a b c:Value) (s:Int) (W:World):Prop where
 s:W.heap[Bx]? =some (.cells #[.int .i64 s] 3 (0,0))
 f:W.heap[Bf]? =some (.cells #[a,b,c] 42 (0,0))
 xs:∃oa cap,a=.slice oa xs.length cap/\(xs≠[]->∃d off,oa=some ⟨d,off,none⟩/\d<Bf/\∀i,i<xs.length->W.cell? ⟨d,off+i*5,none⟩=some (.int .i64 (xs.getD i 0)))
theorem n7.af{Bx Bf:Nat}{xs:List Int}{a b c:Value}{s:Int}{W W':World}(h:n7 Bx Bf xs a b c s W){r0:Nat}(hb:Below r0 W W')(h1:Bx<r0)(h2:Bf<r0):n7 Bx Bf xs a b c s W':=by
 refine⟨(hb.block _ h1).trans h.s,(hb.block _ h2).trans h.f,?_⟩;obtain⟨oa,cap,e,h3⟩:=h.xs;refine⟨oa,cap,e,fun hn=>?_⟩;obtain⟨d,off,e2,hd,h4⟩:=h3 hn;exact⟨d,off,e2,hd,fun i hi=>(World.cell?_of_block (hb.block _ (show d<r0 by omega))).trans (h4 i hi)⟩
theorem n7.set{Bx Bf:Nat}{xs:List Int}{a b c:Value}{s:Int}{W:World}(h:n7 Bx Bf xs a b c s W)(hx:Bf<Bx)(s':Int):n7 Bx Bf xs a b c s' (W.setCell ⟨Bx,0,none⟩ (.int .i64 s')):=by
 refine⟨X1 _ h.s,(Below.heap_setCell _ _ _ _ (by show Bf≠Bx;omega)).trans h.f,?_⟩;obtain⟨oa,cap,e,h3⟩:=h.xs;refine⟨oa,cap,e,fun hn=>?_⟩;obtain⟨d,off,e2,hd,h4⟩:=h3 hn;exact⟨d,off,e2,hd,fun i hi=>(World.cell?_of_block (Below.heap_setCell _ _ _ _ (by show d≠Bx;omega))).trans (h4 i hi)⟩
theorem pR.set{B0:Nat}{w0:World}{r0:Nat}{fn:FuncId}{sv:Value}{Bs l D:Nat}{ss:List Int}{W:World}(h:pR B0 w0 r0 fn sv Bs l D ss W){Bx:Nat}(h1:Bx<r0)(h2:B0<=Bx)(h3:r0<=Bs)(h4:r0<=l)(h5:r0<=D)(v:Value):pR B0 w0 r0 fn sv Bs l D ss (W.setCell ⟨Bx,0,none⟩ v):=by
 obtain⟨u,hu,hr,hn⟩:=h.box;have hg:=P5 W Bx v;exact⟨⟨u,(Below.heap_setCell _ _ _ _ (by show Bs≠Bx;omega)).trans hu,hr.kept hg (aub hr h1),hn⟩,(Below.heap_setCell _ _ _ _ (by show l≠Bx;omega)).trans h.L,(Below.heap_setCell _ _ _ _ (by show D≠Bx;omega)).trans h.K,h.below.grown hg (Nat.le_trans (Nat.le_trans h2 (Nat.le_of_lt h1)) h.size) (fun k e=>by cases e;exact h2),Nat.le_trans h.size hg.size⟩
def tJ(xs:List Int):Nat->Int->List Int->Option (List Int)
 | 0,_,_=>none
 | n+1,s,l=>bif decide (s>=0) then bif ba (l.length+1) 8 && ae s xs.length then tJ xs n (xs.getD s.toNat 0) (l++[s]) else none else some l
set_option maxRecDepth 100000 in
set_option maxHeartbeats 2000000 in
theorem agp(F:Fence)(n:Nat)(hro:F.round=none)(hn:1<=n){B0:Nat}{w0:World}{r0:Nat}(fn:FuncId)(hfn:F.fn fn)(sv:Value)(Bs l D Bx Bf:Nat)(hBl:Bs≠l)(hDl:D≠l)(hDB:D≠Bs)(h00:B0<=Bx)(hBx:Bx<r0)(hBf:Bf<Bx)(h0B:r0<=Bs)(h0l:r0<=l)(h0D:r0<=D)
  (xs:List Int) (a b c:Value) (out:List Int) (Q:Exit->Act->World->Prop) (hQ:∀act s W,act.defers=[]->pR B0 w0 r0 fn sv Bs l D out W->n7 Bx Bf xs a b c s W->Q (.exit 0) act W):
  ∀(m:Nat) (s:Int) (ss:List Int) (W:World) (t3 t4 t5 t6 t7 t8 t9 t10 t11 t12 t13 t14 t15:Value),tJ xs m s ss=some out->pR B0 w0 r0 fn sv Bs l D ss W->n7 Bx Bf xs a b c s W->
   Code.roundsIn F n Tryz.prog MX Q m {tmps:= #[.func (.yield l) #[] #[],.pointer (some ⟨Bx,0,none⟩),.pointer (some ⟨Bf,0,none⟩),t3,t4,t5,t6,t7,t8,t9,t10,t11,t12,t13,t14,t15],defers:=[]} W:=by
 intro m;induction m with
 | zero=>intro s ss W _ _ _ _ _ _ _ _ _ _ _ _ _ h;cases h
 | succ m ih=>
  intro s ss W t3 t4 t5 t6 t7 t8 t9 t10 t11 t12 t13 t14 t15 ho hA hU;rw[roundsIn_succ];unfold tJ at ho;obtain⟨c1,f1⟩:=BY hU.s;unfold MX;by_cases hs:s>=0
  ·rw[decide_eq_true hs,cond_true] at ho;cases hb:ba (ss.length+1) 8 && ae s xs.length with
   | false=>rw[hb] at ho;cases ho
   | true=>
    rw[hb,cond_true] at ho;rw[Bool.and_eq_true] at hb;have q1:=of_decide_eq_true hb.1;have q2:=of_decide_eq_true hb.2;obtain⟨fn',tmps',as',bo',hy,hR⟩:=as4 F (n-1) fn hfn sv Bs l D hBl hDl hDB (by omega) h0B h0l ss s W hA q1.2 q1.1;obtain⟨k,rfl⟩:∃k:Nat,s=k:=⟨s.toNat,(Int.toNat_of_nonneg hs).symm⟩;have hp:xs≠[]:=fun e=>by rw[e] at q2;exact absurd q2.2 (by simp)
    have hk:k<xs.length:=by omega
    gi_wp2
    refine hR.mono ?_;rintro e W3 ⟨rfl,hA3,hb3⟩;have hU3:=hU.af hb3 hBx (by omega);obtain⟨c2,f2⟩:=BY hU3.s;have c3:W3.cell? ⟨Bf,0,none⟩=some a:=by simp[World.cell?,hU3.f]
    obtain⟨oa,cap,rfl,h3⟩:=hU3.xs;obtain⟨d,off,rfl,hd,h4⟩:=h3 hp;have c4:=h4 k hk;gi_wp2
    have e1:xs.getD (k:Int).toNat 0=xs[k]:=by simp[hk]
    rw[e1] at ho;exact ih _ _ _ _ _ _ _ _ _ _ _ _ _ _ _ _ ho (hA3.set hBx h00 h0B h0l h0D _) (hU3.set hBf _)
  ·rw[decide_eq_false hs,cond_false] at ho;cases ho;gi_wp2
   exact hQ _ _ _ rfl hA hU
theorem wM:(Tryz.f130.name== "runtime.NumGoroutine")=false:=by kernel_rfl
set_option maxHeartbeats 1000000 in
theorem ac8(F:Fence)(n:Nat)(h130:F.fn 130)(hro:F.round=none)(hn:1<=n){B0:Nat}{w0:World}{r0:Nat}(fn:FuncId)(hfn:F.fn fn)(sv:Value)(Bs l D Bx Bf:Nat)(hBl:Bs≠l)(hDl:D≠l)(hDB:D≠Bs)(h00:B0<=Bx)(hBx:Bx<r0)(hBf:Bf<Bx)(h0B:r0<=Bs)(h0l:r0<=l)(h0D:r0<=D)
  (xs:List Int) (a b c:Value) (out:List Int) (m:Nat) (s:Int) (W:World) (ho:tJ xs m s []=some out) (hA:pR B0 w0 r0 fn sv Bs l D [] W) (hU:n7 Bx Bf xs a b c s W):
  CallsIn F n Tryz.prog 130 #[.func (.yield l) #[] #[],.pointer (some ⟨Bx,0,none⟩),.pointer (some ⟨Bf,0,none⟩)] W fun e W'=>(∃v,e=.returned v)/\pR B0 w0 r0 fn sv Bs l D out W':=by
 refine callsIn_of_wp Tryz.func130 amv h130 ?_ hro;simp only[Tryz.ntmps130,List.size_toArray,List.length_cons,List.length_nil,Nat.reduceAdd,Nat.reduceSub,Array.replicate_succ,Array.replicate_zero,List.push_toArray,List.append_toArray,List.nil_append,List.cons_append];refine wpIn_block (wpIn_loop_rounds m ?_);refine agp F n hro hn fn hfn sv Bs l D Bx Bf hBl hDl hDB h00 hBx hBf h0B h0l h0D xs a b c out _ (fun act s W hd hA hU=>?_) m s [] W _ _ _ _ _ _ _ _ _ _ _ _ _ ho hA hU;simp only[Exit.inBlock,if_true];obtain⟨t,d⟩:=act;cases(hd);go_end0
 exact⟨⟨_,rfl⟩,hA⟩
set_option maxRecDepth 100000 in
set_option maxHeartbeats 2000000 in
theorem ahh(F:Fence)(n:Nat)(h129:F.fn 129)(h130:F.fn 130)(hro:F.round=none)(hn:2<=n)(w0:World)(w:World)(Bx Bf:Nat)(hb0:Below Bf w0 w)(hBf:Bf<Bx)(hBx:Bx<w.heap.size)
  (xs:List Int) (a b c:Value) (out:List Int) (m:Nat) (s:Int) (ho:tJ xs m s []=some out) (hU:n7 Bx Bf xs a b c s w):
  CallsIn F n Tryz.prog 129 #[.slice none 0 0,.func (.func 130) #[] #[.pointer (some ⟨Bx,0,none⟩),.pointer (some ⟨Bf,0,none⟩)]] w fun e w'=>∃v,e=.returned v/\w'.ownsRow w.heap.size 3 1 v out.length (out.map (Value.int .i64))/\Below Bf w0 w':=by
 have h1:1<=n:=by omega
 have sf:Bf<=w.heap.size:=by omega
 refine callsIn_of_wp_marks Tryz.func129 rfl h129 ?_ hro;simp only[Tryz.ntmps129,List.size_toArray,List.length_cons,List.length_nil,Nat.reduceAdd,Nat.reduceSub,Array.replicate_succ,Array.replicate_zero,List.push_toArray,List.append_toArray,List.nil_append,List.cons_append];gi_wp2
 refine wpIn_rangeFunc ?_;intro fn hfn;rw[hro];obtain⟨sv,hsv⟩:∃sv:Value,sv=.func (.func 130) #[] #[.pointer (some ⟨Bx,0,none⟩),.pointer (some ⟨Bf,0,none⟩)]:=⟨_,rfl⟩;obtain⟨W0,hW0⟩:∃W0,w.alloc (.cells #[.slice none 0 0] 40)=W0:=⟨_,rfl⟩;have hs0:W0.heap.size=w.heap.size+1:=by rw[<-hW0];simp
 have hv0:W0.heap[w.heap.size]? =some (.cells #[.slice none 0 0] 40 (0,0)):=by rw[<-hW0];exact World.alloc_heap_new w _
 have hr0:Below w.heap.size w W0:=by rw[<-hW0];exact(Below.refl _ w).alloc (Nat.le_refl _) _
 rw[hW0];obtain⟨W1,hW1⟩:∃W1,(W0.alloc (.deferred (some []))).alloc (.loop (na fn sv w.heap.size W0.heap.size .ready))=W1:=⟨_,rfl⟩;have hold:∀k,k<W0.heap.size->W1.heap[k]? =W0.heap[k]? :=fun k hk=>by
  rw[<-hW1];exact(Below.heap_alloc _ _ k (by simp;omega)).trans (Below.heap_alloc _ _ k hk)
 have hr1:Below w.heap.size w W1:=by rw[<-hW1];exact(hr0.alloc hr0.size _).alloc (by have:=hr0.size;simp;omega) _
 have hs1:W1.heap.size=W0.heap.size+2:=by rw[<-hW1];simp
 have hM:pR Bf w0 w.heap.size fn sv w.heap.size (W0.heap.size+1) W0.heap.size [] W1:=
  ⟨⟨_,(hold w.heap.size (by omega)).trans hv0,⟨rfl,.inl ⟨rfl,rfl⟩⟩,by simp⟩,
    by rw[<-hW1];have:=World.alloc_heap_new (W0.alloc (.deferred (some []))) (.loop (na fn sv w.heap.size W0.heap.size .ready));rwa [World.size_alloc] at this,
    by rw[<-hW1];exact(Below.heap_alloc _ _ _ (by simp)).trans (World.alloc_heap_new W0 _),hb0.trans (hr1.mono sf),hr1.size⟩
 have hU1:=hU.af hr1 hBx (by omega);refine⟨W0.heap.size+1,[{target:=.collected W0.heap.size,args:= #[]}],W1,{target:=.fn (.func 130) #[.pointer (some ⟨Bx,0,none⟩),.pointer (some ⟨Bf,0,none⟩)],args:= #[.func (.yield (W0.heap.size+1)) #[] #[]]},W1,130,
  #[.func (.yield (W0.heap.size+1)) #[] #[]]++ #[.pointer (some ⟨Bx,0,none⟩),.pointer (some ⟨Bf,0,none⟩)],W1,?_,?_,?_,?_,fun _=>h1,?_⟩
 ·rw[<-hW1,hsv];exact run_enterLoop_outer _ _ _ _ _
 ·simp[resolve,go_sem]
 ·intro f' hf';simp[Target.leads] at hf';subst hf';exact h130
 ·simp[invoke,go_sem,enters_of Tryz.func130 (by kernel_rfl) rfl]
 ·refine(ac8 F (n-1) h130 hro (by omega) fn hfn sv w.heap.size (W0.heap.size+1) W0.heap.size Bx Bf (by omega) (by omega) (by omega) (by omega) hBx hBf (Nat.le_refl _) (by omega) (by omega) xs a b c out m s W1 ho hM hU1).mono ?_;rintro e W2 ⟨⟨v0,rfl⟩,h2⟩;obtain⟨v,hv,hrow,hnil⟩:=h2.box;have hend:=run_endLoop (P:=Tryz.prog) h2.L (by simp[na]);obtain⟨W3,hW3⟩:∃W3,W2.putObj (W0.heap.size+1) (.loop {na fn sv w.heap.size W0.heap.size .ready with state:=.exhausted})=W3:=⟨_,rfl⟩;rw[hW3] at hend;have hg3:W2.grownBy W3 (some (W0.heap.size+1)):=by rw[<-hW3];exact xX _ _ _
  have hv3:W3.heap[w.heap.size]? =some (.cells #[v] 40 (0,0)):=by rw[<-hW3];exact(World.putObj_heap_other (by omega)).trans hv
  have hK3:W3.heap[W0.heap.size]? =some (.deferred (some [])):=by rw[<-hW3];exact(World.putObj_heap_other (by omega)).trans h2.K
  have hrow3:=hrow.kept hg3 (wx hrow h2.L (fun cur e=>by cases e));have hb3:Below Bf w0 W3:=h2.below.grown hg3 (Nat.le_trans sf h2.size) (fun k e=>by cases e;omega);have hz3:Bf<=W3.heap.size:=Nat.le_trans (Nat.le_trans sf h2.size) hg3.size;obtain⟨hc3,hf3⟩:=BY hv3;clear hW3;subst hsv;refine⟨none,W3,hend,?_⟩;gi_wp2
  rw[<-hs0];refine⟨by simp,.inl ⟨_,_,rfl,run_takeDeferred hK3,?_⟩⟩;exact⟨_,results_tmp rfl _ _ _,v,rfl,hrow3.kept (xX _ _ _) (wx hrow3 hK3 (fun cur e=>by cases e)),hb3.grown (xX _ _ _) hz3 (fun k e=>by cases e;omega)⟩
set_option maxHeartbeats 1000000 in
theorem at4(F:Fence)(n:Nat)(h111:F.fn 111)(h129:F.fn 129)(h130:F.fn 130)(hro:F.round=none)(hn:3<=n)(w0:World)(w:World)(Bx Bf:Nat)(hb0:Below Bf w0 w)(hBf:Bf<Bx)(hBx:Bx<w.heap.size)
  (xs:List Int) (a b c:Value) (out:List Int) (m:Nat) (s:Int) (ho:tJ xs m s []=some out) (hU:n7 Bx Bf xs a b c s w):
  CallsIn F n Tryz.prog 111 #[.func (.func 130) #[] #[.pointer (some ⟨Bx,0,none⟩),.pointer (some ⟨Bf,0,none⟩)]] w fun e w'=>∃v,e=.returned v/\w'.ownsRow w.heap.size 3 1 v out.length (out.map (Value.int .i64))/\Below Bf w0 w':=by
 have h1:1<=n:=by omega
 refine callsIn_of_wp Tryz.func111 rfl h111 ?_ hro;simp only[Tryz.ntmps111,List.size_toArray,List.length_cons,List.length_nil,Nat.reduceAdd,Nat.reduceSub,Array.replicate_succ,Array.replicate_zero,List.push_toArray,List.append_toArray,List.nil_append,List.cons_append];gi_wp2_with (gi_at_call 129;refine(ahh F (n-1) h129 h130 hro (by omega) w0 _ Bx Bf hb0 hBf hBx xs a b c out m s ho hU).mono ?_;rintro e w' ⟨v,rfl,hrow,hb⟩)
 go_ret
 exact⟨v,rfl,hrow,hb⟩
theorem Z9{w:World}{r0:Nat}{v:Value}{out:List Int}(h:w.ownsRow r0 3 1 v out.length (out.map (Value.int .i64))){M:Nat->Prop}(hM:∀b,M b->b<r0){ps:Ps}{nx:Nat}:VR (ah []) ps M nx w (.ab false (out.map (aN (.int .i64)))) v:=by
 rcases h.2 with⟨rfl,h0⟩ | ⟨g,cap,cur,rfl,hb,hg,h1,_,h3,h4⟩
 ·cases List.eq_nil_of_length_eq_zero h0;exact .fm _ _ _ (fun e=>by cases e)
 ·by_cases hn:out=[]
  ·subst hn;exact .fm _ _ _ (fun e=>by cases e)
  ·have hl:((out.map (aN (.int .i64)))).length=out.length:=by simp
   rw[<-hl] at h1 ⊢;refine .ab false _ g 0 cap 1 (fun i _=>.int .i64 (out.getD i 0)) (by simpa using hn) (Nat.zero_lt_one) h1 (fun e=>by cases e) ?_ (fun i hi=>by rw[List.getElem_map];rfl) (fun _ _ _ _=>rfl) (fun i j hi hj=>?_) (fun i j hi hj=>?_)
   ·rintro(hm | hm)
    ·exact absurd (hM _ hm) (by omega)
    ·exact uK _ _ hm
   ·have hi':i<out.length:=by simpa using hi
    have e:cur.toList[i]? =some (.int .i64 (out.getD i 0)):=by
     have:(cur.toList.take (out.length*1))[i]? =some (.int .i64 (out.getD i 0)):=by rw[h4];simp[hi']
     rw[List.getElem?_take] at this;split at this
     ·exact this
     ·cases this
    have:j=0:=by omega
    subst this;simp only[World.cell?,hg];simpa using e
   ·have hi':i<out.length:=by simpa using hi
    have e:(out.map (aN (.int .i64)))[i]=[.v (.int .i64 (out.getD i 0))]:=by rw[List.getElem_map];simp[hi',aN]
    have:j=0:=by rw[e] at hj;simpa using hj
    subst this;simp only[e];exact .v _
set_option maxHeartbeats 1000000 in
theorem Y9(w:World)(a b c:Value)(s:Int)(h1:a.oneCell'=true)(h2:b.oneCell'=true)(h3:c.oneCell'=true):Calls Tryz.prog 112 #[.agg #[a,b,c],.int .i64 s] w fun e w'=>
  e=.returned (.func (.func 130) #[] #[.pointer (some ⟨w.heap.size+1,0,none⟩),.pointer (some ⟨w.heap.size,0,none⟩)])/\w'=(w.alloc (.cells #[a,b,c] 42)).alloc (.cells #[.int .i64 s] 3):=by
 go_enter Tryz.func112,Tryz.ntmps112
 go_wp2
 go_ret
 exact⟨rfl,rfl⟩
namespace M
namespace Mk
abbrev GI:GT:=.int .i64
abbrev Sw:GT:=.pair GI (.pair GI (.pair GI (.pair .bool .bool)))
abbrev Fe:GT:=.pair (.list Sw) (.pair (.list GI) GI)
end Mk
open Mk
def vJ(sw:List (El Sw)):Nat->Int->List Int->Option (List Int)
 | 0,_,_=>none
 | n+1,s,l=>bif decide (s>=0) then bif ba (l.length+1) 8 && ae s sw.length then vJ sw n (sw.getD s.toNat (kq Sw)).1 (l++[s]) else none else some l
def w7(N:Nat)(check:Option Int)(f:El Fe)(s:Int):Option (List Int):=
 Option.bind check fun e=>bif e !=0 || (decide (s<0) || decide (s>=(f.1.length:Int))) then some [] else vJ f.1 N s []
theorem U7(sw:List (El Sw)):∀(n:Nat) (s:Int) (l:List Int),tJ (sw.map (·.1)) n s l=vJ sw n s l
 | 0,_,_=>rfl
 | n+1,s,l=>by
  unfold tJ vJ;rw[List.length_map];cases decide (s>=0) with
  | false=>rfl
  | true=>
   rw[cond_true,cond_true];cases hb:ba (l.length+1) 8 && ae s sw.length with
   | false=>rfl
   | true=>
    rw[cond_true,cond_true];rw[Bool.and_eq_true] at hb;have q2:0<=s/\s<sw.length:=of_decide_eq_true hb.2;have hi:s.toNat<sw.length:=by omega
    have e:(sw.map (·.1)).getD s.toNat 0=(sw.getD s.toNat (kq Sw)).1:=by simp[hi]
    rw[e];exact U7 sw n _ _
theorem ahv{sw:List (El Sw)}{oa:Option Addr}{cap:Nat}{b c:Value}{s:Int}{w w3:World}(fr:Fr (fun _=>False) w w3)
  (h:sw.map (aN Sw)≠[]->∃b off,oa=some ⟨b,off,none⟩/\b<w.heap.size/\∀i (hi:i<(sw.map (aN Sw)).length) j (hj:j<(sw.map (aN Sw))[i].length),∃v,w.cell? ⟨b,off+(i*5+j),none⟩=some v/\PV w (sw.map (aN Sw))[i][j] v):
  n7 (w3.heap.size+1) w3.heap.size (sw.map (·.1)) (.slice oa sw.length cap) b c s ((w3.alloc (.cells #[.slice oa sw.length cap,b,c] 42)).alloc (.cells #[.int .i64 s] 3)):=by
 have hn:=World.alloc_heap_new (w3.alloc (.cells #[.slice oa sw.length cap,b,c] 42)) (.cells #[.int .i64 s] 3);rw[World.size_alloc] at hn;have hk:∀k,k<w3.heap.size->((w3.alloc (.cells #[.slice oa sw.length cap,b,c] 42)).alloc (.cells #[.int .i64 s] 3)).heap[k]? =w3.heap[k]? :=fun k hk=>(Below.heap_alloc _ _ k (by simp;omega)).trans (Below.heap_alloc _ _ k hk);refine⟨hn,(Below.heap_alloc _ _ _ (by simp)).trans (World.alloc_heap_new w3 _),oa,cap,by rw[List.length_map],fun hne=>?_⟩;obtain⟨d,off,e,hd,h⟩:=h (by simpa using hne);refine⟨d,off,e,Nat.lt_of_lt_of_le hd fr.size,fun i hi=>?_⟩
 have hi':i<sw.length:=by simpa using hi
 obtain⟨v,k1,k2⟩:=h i (by simpa using hi) 0 (by rw[List.getElem_map];exact Nat.zero_lt_succ _);have e2:(sw.map (aN Sw))[i]'(by simpa using hi)=aN Sw sw[i]:=List.getElem_map ..;have k3:PV w (.v (.int .i64 (sw[i]).1)) v:=by simp only[e2] at k2;exact k2
 rw[VR.e9 k3] at k1;rw[World.cell?_of_block (w:=w3) (hk d (Nat.lt_of_lt_of_le hd fr.size)),World.cell?_of_block (w:=w) (fr.block d hd (fun h=>h))];rw[show(sw.map (·.1)).getD i 0=(sw[i]).1 by simp[hi']];exact k1
set_option maxRecDepth 1000000 in
set_option maxHeartbeats 2000000 in
theorem alp{N:Nat}{check:El Fe->Option Int}(h:bk Tryz.prog 26 [Fe] [GI] check){f:El Fe}{s:Int}{y:List Int}(hm:w7 N (check f) f s=some y){w:World}{a b c:Value}(v0:PV w (jq Fe f) (.agg #[a,b,c]))(hg:GW Tryz.prog w):
  Calls Tryz.prog 78 #[.agg #[a,b,c],.int .i64 s] w fun e w'=>∃v r0,e=.returned v/\w.heap.size<=r0/\w'.ownsRow r0 3 1 v y.length (y.map (Value.int .i64))/\Fr (fun _=>False) w w':=by
 unfold w7 at hm;obtain⟨e0,he,hm⟩:=Option.bind_eq_some_iff.1 hm;obtain⟨_,_,_,hag,va,o1,o2,o3⟩:=QJ (d1:=.ab false (f.1.map (aN Sw))) v0;injection hag with hag;injection hag with hag;injection hag with k1 hag
 injection hag with k2 hag
 injection hag with k3 _
 subst k1;subst k2;subst k3;have f2:Fr (fun _=>False) w (w.alloc (.cells #[a,b,c] 42)):=aab _ _;have hc:=aym h he (w:=w.alloc (.cells #[a,b,c] 42)) (cargs:= #[.agg #[a,b,c]]) rfl (fun j hj=>match j,hj with
  | 0,_=>v0.af f2) (hg.af f2)
 have sz2:(w.alloc (.cells #[a,b,c] 42)).heap.size=w.heap.size+1:=by simp
 have ca:(w.alloc (.cells #[a,b,c] 42)).heap[w.heap.size]? =some (.cells #[a,b,c] 42 (0,0)):=World.alloc_heap_new w _;obtain⟨oa,cap,rfl,hxs⟩:=ac0 va 5 (fun x hx=>by obtain⟨y,_,rfl⟩:=List.mem_map.1 hx;rfl);rw[List.length_map] at v0 hc ca f2 sz2;by_cases h0:e0=0
 ·subst h0;have C3:∀{w3:World},Fr (fun _=>False) (w.alloc (.cells #[.slice oa f.1.length cap,b,c] 42)) w3->w3.heap[w.heap.size]? =some (.cells #[.slice oa f.1.length cap,b,c] 42 (0,0)):=fun hf=>(hf.block _ (by omega) (fun h=>h)).trans ca;have D:∀{w3:World} (i:Nat) (v:Value),w3.heap[w.heap.size]? =some (.cells #[.slice oa f.1.length cap,b,c] 42 (0,0))-> #[.slice oa f.1.length cap,b,c][i]? =some v->w3.cell? ⟨w.heap.size,i,none⟩=some v:=fun i v h1 h2=>by simp[World.cell?,h1,h2]
  by_cases hs:s<0\/s>=(f.1.length:Int)
  ·have hq:(decide (s<0) || decide (s>=(f.1.length:Int)))=true:=by rcases hs with h | h<;>simp[h]
   rw[hq,Bool.or_true,cond_true] at hm;injection hm with hm;subst hm
   rw[List.length_map];go_enter Tryz.func78,Tryz.ntmps78
   by_cases h1:s<0
   ·go_wp2_with (go_at_call 26;refine hc.mono ?_;rintro e2 w3 ⟨v,rfl,hv,hf⟩;cases(show v=.int .i64 0 from VR.e9 hv))
    go_ret
    exact⟨_,w.heap.size,rfl,Nat.le_refl _,⟨rfl,.inl ⟨rfl,rfl⟩⟩,um f2 hf⟩
   ·have h2:s>=(f.1.length:Int):=by omega
    go_wp2_with (go_at_call 26;refine hc.mono ?_;rintro e2 w3 ⟨v,rfl,hv,hf⟩;cases(show v=.int .i64 0 from VR.e9 hv);have d0:=D 0 _ (C3 hf) rfl)
    go_ret
    exact⟨_,w.heap.size,rfl,Nat.le_refl _,⟨rfl,.inl ⟨rfl,rfl⟩⟩,um f2 hf⟩
  ·have h1:¬s<0:=by omega
   have h2:¬s>=(f.1.length:Int):=by omega
   rw[decide_eq_false h1,decide_eq_false h2] at hm;replace hm:vJ f.1 N s []=some y:=hm;rw[List.length_map];go_enter Tryz.func78,Tryz.ntmps78
   go_wp2_with (first | (go_at_call 26;refine hc.mono ?_;rintro e2 w3 ⟨v,rfl,hv,hf⟩;cases(show v=.int .i64 0 from VR.e9 hv);have d0:=D 0 _ (C3 hf) rfl;have d1:=D 1 _ (C3 hf) rfl;have d2:=D 2 _ (C3 hf) rfl) | (go_at_call 112;refine(Y9 w3 _ b c s rfl o2 o3).mono ?_;rintro e4 w4 ⟨rfl,rfl⟩) | (go_at_call 111;refine(callsIn_wide.1 (at4 Fence.wide 3 trivial trivial trivial rfl (Nat.le_refl _) w3 _ (w3.heap.size+1) w3.heap.size (((Below.refl _ w3).alloc (Nat.le_refl _) _).alloc (by simp) _) (Nat.lt_succ_self _) (by simp) (f.1.map (·.1)) _ b c y N s (by rw[U7];exact hm) (ahv (um f2 hf) hxs))).mono ?_;rintro e5 w5 ⟨v,rfl,hrow,hb⟩))
   go_ret
   exact⟨_,_,rfl,by have:=(um f2 hf).size;simp;omega,hrow,um (um f2 hf) (ald hb)⟩
 ·rw[show(e0 !=0)=true by simpa using h0,Bool.true_or,cond_true] at hm;injection hm with hm;subst hm
  have e1:((e0==0)=false):=by simpa using h0
  rw[List.length_map];go_enter Tryz.func78,Tryz.ntmps78
  go_wp2_with (go_at_call 26;refine hc.mono ?_;rintro e2 w3 ⟨v,rfl,hv,hf⟩;cases(show v=.int .i64 e0 from VR.e9 hv))
  go_ret
  exact⟨_,w.heap.size,rfl,Nat.le_refl _,⟨rfl,.inl ⟨rfl,rfl⟩⟩,um f2 hf⟩
set_option maxRecDepth 1000000 in
theorem anb{N:Nat}{check:El Fe->Option Int}(h:bk Tryz.prog 26 [Fe] [GI] check):bk Tryz.prog 78 [Fe,GI] [GT.list GI] (fun x=>w7 N (check x.1) x.1 x.2):=by
 rintro⟨f,s⟩ y hm nb;replace hm:w7 N (check f) f s=some y:=hm;have key:de Tryz.prog 78 (fg [Fe,GI] (f,s)) [] 0 (ft (fg [GT.list GI] y)) [] 0:=by
  refine⟨⟨_,rfl,by kernel_rfl,by kernel_rfl⟩,fun o ck h=>(by cases h),fun o ck h=>(by cases h),Nat.le_refl _,(px (kr [GT.list GI] y)).kF fun _ h=>h.elim,fun o ck h=>(by cases h),fun M ps w cargs hR hsz hva hgl=>?_⟩;obtain⟨cl⟩:=cargs;match cl,hsz,hva with
  | [x0,x1],_,hva=>
   have ids:=kr [Fe,GI] (f,s);have v0:=PV.of (hva 0 (show 0<2 by decide)) (ids _ (List.mem_cons_self ..));have v1:=VR.e9 (hva 1 (show 1<2 by decide));subst v1;obtain⟨a,b,c,rfl,_⟩:=QJ v0;refine(alp h hm v0 (hgl.less fun b h=>h.elim)).mono ?_;rintro e' w' ⟨v,r0,rfl,h0,hrow,fr⟩;exact⟨_,ps,rfl,Z9 hrow (fun b hb=>Nat.lt_of_lt_of_le (hR.ml b hb) h0),Xs fun b hb=>Nat.lt_of_lt_of_le (hR.ml b hb) fr.size,⟨fr.os,fr.tape,fr.output,fr.size,fun i hi _=>fr.block i hi (fun h=>h)⟩,fun o ck p h=>(by cases h),fun o h=>absurd h (Nat.not_lt_zero _)⟩
 exact key.Ns (kr [Fe,GI] (f,s)) (px (kr [GT.list GI] y)) nb
end M
namespace M
namespace Mk
abbrev Sp:GT:=.pair GI GI
abbrev Rd:GT:=.pair GI (.pair GI (.pair GI (.pair GI (.pair .bool (.pair .bool (.pair Sp Sp))))))
abbrev Mn:GT:=.pair (.list (.pair GI .bool)) (.list Rd)
abbrev Fa:GT:=.pair GI (.pair .bool (.pair .bool (.list Sp)))
abbrev Do:GT:=.pair GI (.pair GI (.list GI))
abbrev Ai:GT:=.pair Mn (.pair (.list Fa) (.list Do))
abbrev Se:GT:=.pair (.list GI) (.list GI)
abbrev Bl:GT:=.pair Fa GI
abbrev Pi:GT:=.pair Rd (.pair GI (.list Bl))
abbrev Ne:GT:=.pair (.list Pi) (.list (.list GI))
end Mk
open Mk
def uI{α:Type}(b:Nat)(i:Int)(x:α)(l:List (List α)):Option (List (List α)):=bif ae i l.length then bif ba ((l.getD i.toNat []).length+1) b then some (eW l i.toNat x) else none else none
def vk(rest:El Do->Int->Option (Int×Int))(sd:List Int):List (El Do)->Nat->List (Int×Int)->Option (List (Int×Int))
 | [],_,rs=>some rs
 | d::ds,i,rs=>bif ae i sd.length then Option.bind (rest d (sd.getD i 0)) fun x=>bif ae d.1 rs.length then vk rest sd ds (i+1) (rs.set d.1.toNat (W ((rs.getD d.1.toNat (0,0)).1+x.1),W ((rs.getD d.1.toNat (0,0)).2+x.2))) else none else none
def qP(sf:List Int):List (El Fa)->Nat->List (List (El Bl))->Option (List (List (El Bl)))
 | [],_,l=>some l
 | f::fs,i,l=>bif ae i sf.length then bif sf.getD i 0==0 then qP sf fs (i+1) l else Option.bind (uI 48 f.1 (f,sf.getD i 0) l) (qP sf fs (i+1)) else none
def qA(rs:List (Int×Int))(fs:List (List (El Bl))):List (El Rd)->Nat->List (El Pi)->List (List Int)->Option (List (El Pi)×List (List Int))
 | [],_,ps,l=>some (ps,l)
 | r::l,i,ps,at_=>bif r.2.2.2.2.2.1 then qA rs fs l (i+1) ps at_ else
  Option.bind (uI 8 r.1 (ps.length:Int) at_) fun a1=>Option.bind (uI 8 r.2.1 (ps.length:Int) a1) fun a2=>
  bif ae i rs.length && (ae i fs.length && ba (ps.length+1) 104) then
   qA rs fs l (i+1) (ps++[((r.1,r.2.1,r.2.2.1,r.2.2.2.1,r.2.2.2.2.1,r.2.2.2.2.2.1,(W (r.2.2.2.2.2.2.1.1+(rs.getD i (0,0)).1),W (r.2.2.2.2.2.2.1.2+(rs.getD i (0,0)).2)),r.2.2.2.2.2.2.2),(i:Int),fs.getD i [])]) a2
  else none
def Cl(rest:El Do->Int->Option (Int×Int))(a:El Ai)(s:El Se):Option (El Ne):=
 bif(ba a.2.2.length 1 && ba a.2.1.length 1) && (eH 16 (a.1.2.length:Int) (a.1.2.length:Int) && (eH 24 (a.1.2.length:Int) (a.1.2.length:Int) && eH 24 (a.1.1.length:Int) (a.1.1.length:Int))) then
  Option.bind (vk rest s.2 a.2.2 0 (List.replicate a.1.2.length (0,0))) fun rs=>
  Option.bind (qP s.1 a.2.1 0 (List.replicate a.1.2.length [])) fun fs=>
  qA rs fs a.1.2 0 [] (List.replicate a.1.1.length [])
 else none
def Gc:AC:=(.seq (.rg [⟨(some 30),(.bin .lss (.t 29) (.t 28)),none⟩] none) (.seq (.cond (.t 30) .skip (.exit 0)) (.seq (.block 1 (.seq (.rg [⟨(some 31),(.bS (.t 29)),none⟩,⟨(some 32),(.cP 3 (.t 27) (.t 29)),none⟩,⟨(some 33),(.load true 3 (.t 32)),none⟩,⟨(some 8),(.alloc [(I 0),
 (I 0),(.ab true [])]),none⟩,⟨(some 7),(.bS (.t 31)),none⟩,⟨none,(.store 3 (.t 8) (.t 33)),none⟩] none) (.seq (.rg [⟨(some 34),(.load true 3 (.t 8)),none⟩,⟨(some 35),(.bO 1 (.t 3)),none⟩,⟨(some 36),(.load false 1 (.t 35)),none⟩,⟨(some 37),(.bS (.t 7)),none⟩,⟨(some 38),
 (.cP 1 (.t 36) (.t 37)),none⟩,⟨(some 39),(.load false 1 (.t 38)),none⟩,⟨(some 40),(.call (.c (.fn 139 [])) [(.t 34),(.t 39)]),none⟩,⟨(some 9),(.alloc [(I 0),(I 0)]),none⟩,⟨none,(.store 2 (.t 9) (.t 40)),none⟩] (some [(0,7),(1,7),(2,7),(4,7),(5,7),(6,7)])) (.seq (.rg
 [⟨(some 41),(.bS (.t 5)),none⟩,⟨(some 42),(.bO 0 (.t 8)),none⟩,⟨(some 43),(.load false 1 (.t 42)),none⟩,⟨(some 44),(.cP 2 (.t 41) (.t 43)),none⟩,⟨(some 45),(.bO 0 (.t 44)),none⟩,⟨(some 46),(.load false 1 (.t 45)),none⟩,⟨(some 47),(.bO 0 (.t 9)),none⟩,⟨(some 48),
 (.load false 1 (.t 47)),none⟩,⟨(some 49),(.bin .add (.t 46) (.t 48)),none⟩,⟨(some 50),(.cP 2 (.t 41) (.t 43)),none⟩,⟨(some 51),(.bO 0 (.t 50)),none⟩,⟨none,(.store 1 (.t 51) (.t 49)),none⟩] (some [])) (.rg [⟨(some 52),(.bS (.t 5)),none⟩,⟨(some 53),(.bO 0 (.t 8)),none⟩,
 ⟨(some 54),(.load false 1 (.t 53)),none⟩,⟨(some 55),(.cP 2 (.t 52) (.t 54)),none⟩,⟨(some 56),(.bO 1 (.t 55)),none⟩,⟨(some 57),(.load false 1 (.t 56)),none⟩,⟨(some 58),(.bO 1 (.t 9)),none⟩,⟨(some 59),(.load false 1 (.t 58)),none⟩,⟨(some 60),(.bin .add (.t 57) (.t 59)),
 none⟩,⟨(some 61),(.cP 2 (.t 52) (.t 54)),none⟩,⟨(some 62),(.bO 1 (.t 61)),none⟩,⟨none,(.store 1 (.t 62) (.t 60)),none⟩] (some [])))))) (.rg [⟨(some 63),(.bin .add (.t 29) (.c (I 1))),none⟩,⟨(some 29),(.bS (.t 63)),none⟩] none))))
def Au:AC:=(.seq (.rg [⟨(some 68),(.bin .lss (.t 67) (.t 66)),none⟩] none) (.seq (.cond (.t 68) .skip (.exit 2)) (.seq (.block 3 (.seq (.rg [⟨(some 69),(.bS (.t 67)),none⟩,⟨(some 70),(.cP 4 (.t 65) (.t 67)),none⟩,⟨(some 71),(.load true 4 (.t 70)),none⟩,⟨(some 11),(.alloc [(I
 0),(B false),(B false),(.ab true [])]),none⟩,⟨(some 10),(.bS (.t 69)),none⟩,⟨none,(.store 4 (.t 11) (.t 71)),none⟩] none) (.seq (.rg [⟨(some 72),(.bO 0 (.t 3)),none⟩,⟨(some 73),(.load false 1 (.t 72)),none⟩,⟨(some 74),(.bS (.t 10)),none⟩,⟨(some 75),(.cP 1 (.t 73) (.t
 74)),none⟩,⟨(some 76),(.load false 1 (.t 75)),none⟩,⟨(some 77),(.bin .neq (.t 76) (.c (I 0))),none⟩] none) (.cond (.t 77) (.rg [⟨(some 78),(.bS (.t 6)),none⟩,⟨(some 79),(.bO 0 (.t 11)),none⟩,⟨(some 80),(.load false 1 (.t 79)),none⟩,⟨(some 81),(.bS (.t 6)),none⟩,⟨(some 82),
 (.bO 0 (.t 11)),none⟩,⟨(some 83),(.load false 1 (.t 82)),none⟩,⟨(some 84),(.cP 1 (.t 81) (.t 83)),none⟩,⟨(some 85),(.load false 1 (.t 84)),none⟩,⟨(some 86),(.load true 4 (.t 11)),none⟩,⟨(some 87),(.bO 0 (.t 3)),none⟩,⟨(some 88),(.load false 1 (.t 87)),none⟩,⟨(some 89),
 (.bS (.t 10)),none⟩,⟨(some 90),(.cP 1 (.t 88) (.t 89)),none⟩,⟨(some 91),(.load false 1 (.t 90)),none⟩,⟨(some 92),(.build [(I 0),(B false),(B false),(.ab true []),(I 0)] [(0,(4,(.t 86))),(4,(1,(.t 91)))]),none⟩,⟨(some 93),(.g9 false 5 [(I 0),(B false),(B false),(.ab
 true []),(I 0)] 1 [(0,(.t 92))]),none⟩,⟨(some 94),(.app 5 48 (.t 85) (.t 93)),none⟩,⟨(some 95),(.cP 1 (.t 78) (.t 80)),none⟩,⟨none,(.store 1 (.t 95) (.t 94)),none⟩] (some [(1,16),(2,16)])) .skip)))) (.rg [⟨(some 96),(.bin .add (.t 67) (.c (I 1))),none⟩,⟨(some 67),(.bS (.t
 96)),none⟩] none))))
def zU:AC:=(.seq (.rg [⟨(some 108),(.bin .lss (.t 107) (.t 106)),none⟩] none) (.seq (.cond (.t 108) .skip (.exit 4)) (.seq (.block 5 (.seq (.rg [⟨(some 109),(.bS (.t 107)),none⟩,⟨(some 110),(.cP 10 (.t 105) (.t 107)),none⟩,⟨(some 111),(.load true 10 (.t 110)),none⟩,⟨(some 14),
 (.alloc [(I 0),(I 0),(I 0),(I 0),(B false),(B false),(I 0),(I 0),(I 0),(I 0)]),none⟩,⟨(some 13),(.bS (.t 109)),none⟩,⟨none,(.store 10 (.t 14) (.t 111)),none⟩] none) (.seq (.seq (.rg [⟨(some 112),(.bO 5 (.t 14)),none⟩,⟨(some 113),(.load false 1 (.t 112)),none⟩] none) (.cond
 (.t 113) (.exit 5) .skip)) (.seq (.rg [⟨(some 114),(.bO 0 (.t 12)),none⟩,⟨(some 115),(.load false 1 (.t 114)),none⟩,⟨(some 116),(.len (.t 115)),none⟩,⟨(some 15),(.bS (.t 116)),none⟩] none) (.seq (.rg [⟨(some 117),(.bO 1 (.t 12)),none⟩,⟨(some 118),(.load false 1 (.t 117)),none⟩,
 ⟨(some 119),(.bO 0 (.t 14)),none⟩,⟨(some 120),(.load false 1 (.t 119)),none⟩,⟨(some 121),(.bO 1 (.t 12)),none⟩,⟨(some 122),(.load false 1 (.t 121)),none⟩,⟨(some 123),(.bO 0 (.t 14)),none⟩,⟨(some 124),(.load false 1 (.t 123)),none⟩,⟨(some 125),(.cP 1 (.t 122) (.t 124)),
 none⟩,⟨(some 126),(.load false 1 (.t 125)),none⟩,⟨(some 127),(.bS (.t 15)),none⟩,⟨(some 128),(.g9 false 1 [(I 0)] 1 [(0,(.t 127))]),none⟩,⟨(some 129),(.app 1 8 (.t 126) (.t 128)),none⟩,⟨(some 130),(.cP 1 (.t 118) (.t 120)),none⟩,⟨none,(.store 1 (.t 130) (.t 129)),none⟩]
 (some [(0,12),(1,12),(2,12),(3,12)])) (.seq (.rg [⟨(some 131),(.bO 1 (.t 12)),none⟩,⟨(some 132),(.load false 1 (.t 131)),none⟩,⟨(some 133),(.bO 1 (.t 14)),none⟩,⟨(some 134),(.load false 1 (.t 133)),none⟩,⟨(some 135),(.bO 1 (.t 12)),none⟩,⟨(some 136),(.load false 1 (.t
 135)),none⟩,⟨(some 137),(.bO 1 (.t 14)),none⟩,⟨(some 138),(.load false 1 (.t 137)),none⟩,⟨(some 139),(.cP 1 (.t 136) (.t 138)),none⟩,⟨(some 140),(.load false 1 (.t 139)),none⟩,⟨(some 141),(.bS (.t 15)),none⟩,⟨(some 142),(.g9 false 1 [(I 0)] 1 [(0,(.t 141))]),none⟩,
 ⟨(some 143),(.app 1 8 (.t 140) (.t 142)),none⟩,⟨(some 144),(.cP 1 (.t 132) (.t 134)),none⟩,⟨none,(.store 1 (.t 144) (.t 143)),none⟩] (some [(0,12),(1,12),(2,12),(3,12)])) (.seq (.rg [⟨(some 145),(.bO 6 (.t 14)),none⟩,⟨(some 146),(.bO 0 (.t 145)),none⟩,⟨(some 147),(.load
 false 1 (.t 146)),none⟩,⟨(some 148),(.bS (.t 5)),none⟩,⟨(some 149),(.bS (.t 13)),none⟩,⟨(some 150),(.cP 2 (.t 148) (.t 149)),none⟩,⟨(some 151),(.bO 0 (.t 150)),none⟩,⟨(some 152),(.load false 1 (.t 151)),none⟩,⟨(some 153),(.bin .add (.t 147) (.t 152)),none⟩,⟨(some 154),
 (.bO 6 (.t 14)),none⟩,⟨(some 155),(.bO 0 (.t 154)),none⟩,⟨none,(.store 1 (.t 155) (.t 153)),none⟩] (some [])) (.seq (.rg [⟨(some 156),(.bO 6 (.t 14)),none⟩,⟨(some 157),(.bO 1 (.t 156)),none⟩,⟨(some 158),(.load false 1 (.t 157)),none⟩,⟨(some 159),(.bS (.t 5)),none⟩,⟨(some
 160),(.bS (.t 13)),none⟩,⟨(some 161),(.cP 2 (.t 159) (.t 160)),none⟩,⟨(some 162),(.bO 1 (.t 161)),none⟩,⟨(some 163),(.load false 1 (.t 162)),none⟩,⟨(some 164),(.bin .add (.t 158) (.t 163)),none⟩,⟨(some 165),(.bO 6 (.t 14)),none⟩,⟨(some 166),(.bO 1 (.t 165)),none⟩,
 ⟨none,(.store 1 (.t 166) (.t 164)),none⟩] (some [])) (.rg [⟨(some 167),(.bO 0 (.t 12)),none⟩,⟨(some 168),(.load false 1 (.t 167)),none⟩,⟨(some 169),(.load true 10 (.t 14)),none⟩,⟨(some 170),(.bS (.t 13)),none⟩,⟨(some 171),(.bS (.t 6)),none⟩,⟨(some 172),(.bS (.t 13)),none⟩,
 ⟨(some 173),(.cP 1 (.t 171) (.t 172)),none⟩,⟨(some 174),(.load false 1 (.t 173)),none⟩,⟨(some 175),(.build [(I 0),(I 0),(I 0),(I 0),(B false),(B false),(I 0),(I 0),(I 0),(I 0),(I 0),(.ab true [])] [(0,(10,(.t 169))),(10,(1,(.t 170))),(11,(1,(.t 174)))]),none⟩,⟨(some
 176),(.g9 false 12 [(I 0),(I 0),(I 0),(I 0),(B false),(B false),(I 0),(I 0),(I 0),(I 0),(I 0),(.ab true [])] 1 [(0,(.t 175))]),none⟩,⟨(some 177),(.app 12 104 (.t 168) (.t 176)),none⟩,⟨(some 178),(.bO 0 (.t 12)),none⟩,⟨none,(.store 1 (.t 178) (.t 177)),none⟩] (some
 [])))))))))) (.rg [⟨(some 179),(.bin .add (.t 107) (.c (I 1))),none⟩,⟨(some 107),(.bS (.t 179)),none⟩] none))))
def Y7:AC:=(.seq (.rg [⟨(some 2),(.box (.t 0)),none⟩,⟨(some 3),(.box (.t 1)),none⟩,⟨(some 4),(.alloc [(.ab true []),(.ab true [])]),none⟩] none) (.seq (.rg [⟨(some 16),(.bO 0 (.t 2)),none⟩,⟨(some 17),(.bO 1 (.t 16)),none⟩,⟨(some 18),(.load false 1 (.t 17)),none⟩,⟨(some
 19),(.len (.t 18)),none⟩,⟨(some 20),(.fw 2 16 [(I 0),(I 0)] (.t 19) (.t 19)),none⟩,⟨(some 5),(.bS (.t 20)),none⟩] none) (.seq (.rg [⟨(some 21),(.bO 0 (.t 2)),none⟩,⟨(some 22),(.bO 1 (.t 21)),none⟩,⟨(some 23),(.load false 1 (.t 22)),none⟩,⟨(some 24),(.len (.t 23)),none⟩,
 ⟨(some 25),(.fw 1 24 [(.ab true [])] (.t 24) (.t 24)),none⟩,⟨(some 6),(.bS (.t 25)),none⟩] none) (.seq (.seq (.rg [⟨(some 26),(.bO 3 (.t 2)),none⟩,⟨(some 27),(.load false 1 (.t 26)),none⟩,⟨(some 28),(.len (.t 27)),none⟩,⟨(some 29),(.bS (.c (I 0))),none⟩] none) (.block 0
 (.loop Gc))) (.seq (.seq (.rg [⟨(some 64),(.bO 2 (.t 2)),none⟩,⟨(some 65),(.load false 1 (.t 64)),none⟩,⟨(some 66),(.len (.t 65)),none⟩,⟨(some 67),(.bS (.c (I 0))),none⟩] none) (.block 2 (.loop Au))) (.seq (.rg [⟨(some 97),(.bO 0 (.t 2)),none⟩,⟨(some 98),(.bO 0 (.t 97)),
 none⟩,⟨(some 99),(.load false 1 (.t 98)),none⟩,⟨(some 100),(.len (.t 99)),none⟩,⟨(some 101),(.fw 1 24 [(.ab true [])] (.t 100) (.t 100)),none⟩,⟨(some 102),(.build [(.ab true []),(.ab true [])] [(1,(1,(.t 101)))]),none⟩,⟨(some 12),(.alloc [(.ab true []),(.ab true [])]),
 none⟩,⟨none,(.store 2 (.t 12) (.t 102)),none⟩] none) (.seq (.seq (.rg [⟨(some 103),(.bO 0 (.t 2)),none⟩,⟨(some 104),(.bO 1 (.t 103)),none⟩,⟨(some 105),(.load false 1 (.t 104)),none⟩,⟨(some 106),(.len (.t 105)),none⟩,⟨(some 107),(.bS (.c (I 0))),none⟩] none) (.block 4 (.loop
 zU))) (.seq (.rg [⟨(some 180),(.load true 2 (.t 12)),none⟩,⟨none,(.store 2 (.t 4) (.t 180)),none⟩] none) .ret))))))))
section
variable {P:Program} {r:List RI} {lg:Lg} {T:Nat->DV} {H:Hp} {nx:Nat} {K:Lg->St->Prop}
theorem au0{t:Nat}{g:RO}{xs:List RO}{d:DV}{f:FuncId}{args:List DV}(hf:un true (g.get T)=.fn f [])(ha:xs.map (fun x=>un true (x.get T))=args)(h:de P f args [] nx d [] nx)(k:dz P r (lg++[([],[])]) ⟨cN T t d,H,nx⟩ K):dz P (⟨some t,.call g xs,none⟩::r) lg ⟨T,H,nx⟩ K:=
 ⟨⟨d,[],nx,[]⟩,.inr (.inl ⟨g,xs,f,[],rfl,hf,[],by rw[ha,List.append_nil];exact h,fun o ck h=>(by cases h),fun o ck h=>(by cases h)⟩),k⟩
theorem afu{t:Nat}{z:List DV}{o sz:Nat}(h:H o=some ⟨0,sz,[]⟩)(k:dz P r (lg++[([o],[o])]) ⟨cN T t (.ptr o 1 0 0),H.put o (some ⟨1,z.length,[z]⟩),nx⟩ K):dz P (⟨some t,.alloc z,none⟩::r) lg ⟨T,H,nx⟩ K:=
 ⟨_,.inr (.inr (.inl ⟨z,o,sz,rfl,h,rfl⟩)),k⟩
theorem rM{t:Nat}{x:RO}{k:IntKind}{a:Int}(h:un true (x.get T)=.v (.int k a))(q:dz P r (lg++[(cF (.bS x) true T,[])]) ⟨cN T t (.v (.int k a)),H,nx⟩ K):dz P (⟨some t,.bS x,none⟩::r) lg ⟨T,H,nx⟩ K:=cf (LO h) q
theorem rO{t:Nat}{x:RO}{o g i f:Nat}(h:un true (x.get T)=.own o g i f)(q:dz P r (lg++[(cF (.bS x) true T,[])]) ⟨cN T t (.own o g i f),H,nx⟩ K):dz P (⟨some t,.bS x,none⟩::r) lg ⟨T,H,nx⟩ K:=cf (wB h) q
theorem rF{t off:Nat}{x:RO}{o g i f sz:Nat}{xs:List (List DV)}(hH:H o=some ⟨g,sz,xs⟩)(h:un true (x.get T)=.ptr o g i f)(q:dz P r (lg++[(cF (.bO off x) true T,[])]) ⟨cN T t (.ptr o g i (f+off)),H,nx⟩ K):dz P (⟨some t,.bO off x,none⟩::r) lg ⟨T,H,nx⟩ K:=cf (j5 h hH) q
theorem rD{t:Nat}{x:RO}{o g i f sz:Nat}{xs:List (List DV)}(c:DV)(hH:H o=some ⟨g,sz,xs⟩)(h:un true (x.get T)=.ptr o g i f)(hc:(xs.getD i [])[f]? =some c)(q:dz P r (lg++[(cF (.load false 1 x) true T,[])]) ⟨cN T t c,H,nx⟩ K):dz P (⟨some t,.load false 1 x,none⟩::r) lg ⟨T,H,nx⟩ K:=cf (jo h hH hc) q
theorem rE{t n:Nat}{x:RO}{o g i f sz:Nat}{xs:List (List DV)}(cs:List DV)(hH:H o=some ⟨g,sz,xs⟩)(h:un true (x.get T)=.ptr o g i f)(hn:(f+n).ble (xs.getD i []).length=true)(hc:((xs.getD i []).drop f).take n=cs)(q:dz P r (lg++[(cF (.load true n x) true T,[])]) ⟨cN T t (.agg cs),H,nx⟩ K):dz P (⟨some t,.load true n x,none⟩::r) lg ⟨T,H,nx⟩ K:=cf (W5 h hH hn hc) q
theorem rC{t:Nat}{x:RO}(c:DV)(h:un true (x.get T)=.rp [c])(q:dz P r (lg++[(cF (.load false 1 x) true T,[])]) ⟨cN T t c,H,nx⟩ K):dz P (⟨some t,.load false 1 x,none⟩::r) lg ⟨T,H,nx⟩ K:=cf (VE h) q
theorem rN{t:Nat}{x y:RO}{o g k sz p:Nat}{xs:List (List DV)}(hH:H o=some ⟨g,sz,xs⟩)(h:un true (x.get T)=.own o g 0 k)(hi:un true (y.get T)=I p)(hl:p<k)(q:dz P r (lg++[(cF (.cP sz x y) true T,[])]) ⟨cN T t (.ptr o g p 0),H,nx⟩ K):dz P (⟨some t,.cP sz x y,none⟩::r) lg ⟨T,H,nx⟩ K:=cf (sO h hi hH hl) q
theorem rA{t:Nat}{x y:RO}{a b:Int}(hx:un true (x.get T)=I a)(hy:un true (y.get T)=I b)(q:dz P r (lg++[(cF (.bin .add x y) true T,[])]) ⟨cN T t (I (IntKind.i64.wrap (a+b))),H,nx⟩ K):dz P (⟨some t,.bin .add x y,none⟩::r) lg ⟨T,H,nx⟩ K:=cf (WW hx hy) q
theorem mW{α:Type}{e:α->List DV}{l:List α}{p:Nat}(h:p<l.length)(z:α):(l.map e).getD p []=e (l.getD p z):=by simp[h]
theorem wN{i:Int}{n:Nat}(h:ae i n=true):0<=i/\i<n:=of_decide_eq_true h
theorem kc{l:List Nat}{o:Nat}(h:o∉l):xO (l,[]) ([o],[o]):=⟨fun j hj=>(by cases hj),fun j hj hq=>h (by rw[List.mem_singleton.1 hj] at hq;exact hq)⟩
theorem pg{x y a b:List Nat×List Nat}(hx:x=a)(hy:y=b)(h:xO a b):xO x y:=by rw[hx,hy];exact h
theorem Vv{α:Type}{e:α->List DV}{l:List α}{p:Nat}(h:p<l.length):(p:Int)<(l.map e).length:=by rw[List.length_map];exact Int.ofNat_lt.2 h
theorem rX{α:Type}{e:α->List DV}{l:List α}{t:Nat}{x y:RO}{f:Bool}{sz i:Nat}(cs:List DV)(h:un true (x.get T)=.ab f (l.map e))(hi:un true (y.get T)=I i)(hl:i<l.length)(hc:(l.map e).getD (i:Int).toNat []=cs)(hs:cs.length=sz)(q:dz P r (lg++[(cF (.cP sz x y) true T,[])]) ⟨cN T t (.rp cs),H,nx⟩ K):dz P (⟨some t,.cP sz x y,none⟩::r) lg ⟨T,H,nx⟩ K:=cf (M8 h hi (Int.natCast_nonneg i) (Vv hl) hc hs) q
end
structure DS (H:Hp) (a s:List DV) (rs:List (Int×Int)):Prop where
 a:H 0=some ⟨0,4,[a]⟩
 s:H 1=some ⟨0,2,[s]⟩
 o:H 2=some ⟨0,2,[[.ab true [],.ab true []]]⟩
 r:H 3=some ⟨0,2,rs.map (aN Sp)⟩
theorem DS.af{H H':Hp}{a s:List DV}{rs:List (Int×Int)}(h:DS H a s rs)(k:∀j,j<4->H' j=H j):DS H' a s rs:=
 ⟨by rw[k 0 (by decide)];exact h.a,by rw[k 1 (by decide)];exact h.s,by rw[k 2 (by decide)];exact h.o,by rw[k 3 (by decide)];exact h.r⟩
theorem DS.set{H:Hp}{a s:List DV}{rs rs':List (Int×Int)}(h:DS H a s rs){ys:List (List DV)}(e:rs'.map (aN Sp)=ys):DS (H.put 3 (some ⟨0,2,ys⟩)) a s rs':=
 ⟨by rw[Hp.aS _ _ _ (by decide)];exact h.a,by rw[Hp.aS _ _ _ (by decide)];exact h.s,by rw[Hp.aS _ _ _ (by decide)];exact h.o,by rw[Hp.b9,e]⟩
theorem dB.gh{P:Program}{cx:Cx}{ow:Nat->Bool}{ac:AC}{Q:Exit->St->Prop}{T:Nat->DV}{H:Hp}{nx:Nat}(sz:Nat)(k:ar P cx ow ac Q ⟨T,H.put nx (some ⟨0,sz,[]⟩),nx+1⟩):ar P cx ow ac Q ⟨T,H,nx⟩:=ar.wk (Wk.ghost sz) k
set_option maxHeartbeats 1000000 in
theorem avr{P:Program}{cx:Cx}{ow:Nat->Bool}{rest:El Do->Int->Option (Int×Int)}(h139:bk P 139 [Do,GI] [Sp] (fun x=>rest x.1 x.2))(a:List DV)(f1:DV)(sd:List Int)(ds:List (El Do))(n:Nat)(out:List (Int×Int))(H0:Hp)(Q:Exit->St->Prop)(hlen:ds.length<9223372036854775807)
  (hQ:∀T H nx,DS H a [f1,.ab false (sd.map (aN GI))] out->H 4=H0 4->5<=nx->Has T [(2,.ptr 0 0 0 0),(3,.ptr 1 0 0 0),(4,.ptr 2 0 0 0),(5,.own 3 0 0 n),(6,.own 4 0 0 n)]->out.length=n->Q (.exit 0) ⟨T,H,nx⟩):
  ∀(ks:List (El Do)) (i:Nat) (rs:List (Int×Int)) (H:Hp) (nx:Nat),ds.drop i=ks->i+ks.length=ds.length->rs.length=n->DS H a [f1,.ab false (sd.map (aN GI))] rs->H 4=H0 4->5<=nx->vk rest sd ks i rs=some out->
  dB P cx ow Gc Q ⟨jD [(2,.ptr 0 0 0 0),(3,.ptr 1 0 0 0),(4,.ptr 2 0 0 0),(5,.own 3 0 0 n),(6,.own 4 0 0 n),(27,.ab false (ds.map (aN Do))),(28,I ds.length),(29,I i)],H,nx⟩:=by
 intro ks;induction ks with
 | nil=>
  intro i rs H nx hd hi hr hS h4 hx ho;simp only[vk] at ho;cases ho;refine dB.tp (by delta Gc;rfl) ?_;refine ar.seq (ar.dL (cf (sU rfl rfl) (dS ?_)));refine dg (ar.seq ?_);refine ar.vn rfl (decide_eq_false (by simp at hi;omega)) (ar.exit ?_);refine qK (qK ?_);exact hQ _ _ _ hS h4 hx ⟨rfl,rfl,rfl,rfl,rfl,trivial⟩ hr
 | cons k ks ih=>
  intro i rs H nx hd hi hr hS h4 hx ho;have hi':i<ds.length:=by simp at hi;omega
  have hk:ds[i]=k:=by
   have:=List.getElem_drop (j:=0) (h:=by rw[hd];simp);simp only[hd,List.getElem_cons_zero,Nat.add_zero] at this;exact this.symm
  unfold vk at ho;cases hb:ae (i:Int) sd.length with
  | false=>rw[hb] at ho;cases ho
  | true=>
  rw[hb,cond_true] at ho;have hb1:=wN hb;obtain⟨x,hx1,ho⟩:=Option.bind_eq_some_iff.1 ho;cases hb2:ae k.1 rs.length with
  | false=>rw[hb2] at ho;cases ho
  | true=>
  rw[hb2,cond_true] at ho;have hb3:=wN hb2;obtain⟨p,hp⟩:∃p:Nat, @Eq Int k.1 p:=⟨Int.toNat k.1,(Int.toNat_of_nonneg hb3.1).symm⟩;rw[hp,Int.toNat_natCast] at ho;have hpl:p<rs.length:=by omega
  refine dB.tp (by delta Gc;rfl) ?_;refine ar.seq (ar.dL (cf (sU rfl rfl) (dS ?_)));refine dg (ar.seq ?_);refine ar.vH rfl (decide_eq_true (by omega)) (ar.skip ?_);refine dg (ar.seq (ar.block (ar.seq (ar.dL ?_))));refine rM rfl ?_;refine rX (aN Do k) rfl rfl hi' (by simp[hi',hk]) rfl ?_;refine cf rfl ?_;refine n8 (xI ..) ?_;refine rM rfl ?_;refine j7 (jM rfl rfl (Hp.b9 ..) rfl rfl rfl) (dS ?_);generalize hH2:(Hp.put (Hp.put H nx _) nx _)=H2;have hd2:H2 nx=some ⟨0,3,[aN Do k]⟩:=by rw[<-hH2];exact Hp.b9 ..
  have hold2:∀j,j<5->H2 j=H j:=fun j hj=>by rw[<-hH2,Hp.aS _ _ _ (by omega),Hp.aS _ _ _ (by omega)]
  have hS2:=hS.af fun j hj=>hold2 j (by omega);refine dg (ar.seq (dB.gh 2 (ar.dL ?_)));generalize hH3:Hp.put H2 (nx+1) _=H3;have hd3:H3 nx=some ⟨0,3,[aN Do k]⟩:=by rw[<-hH3,Hp.aS _ _ _ (by omega)];exact hd2
  have hg3:H3 (nx+1)=some ⟨0,2,[]⟩:=by rw[<-hH3];exact Hp.b9 ..
  have hold3:∀j,j<5->H3 j=H2 j:=fun j hj=>by rw[<-hH3,Hp.aS _ _ _ (by omega)]
  have hS3:=hS2.af fun j hj=>hold3 j (by omega);refine ji (W5 rfl hd3 rfl rfl) rfl ?_;refine ji (j5 rfl hS3.s) rfl ?_;refine ji (jo rfl hS3.s rfl) rfl ?_;refine rM rfl ?_;refine ji (M8 (cs:=aN GI (sd.getD i 0)) rfl rfl (by omega) (Vv (by omega)) (by rw[Int.toNat_natCast];exact mW (by omega) 0) rfl) rfl ?_;refine ji (VE rfl) rfl ?_;refine au0 rfl rfl (h139 (k,sd.getD i 0) x hx1 _) ?_;refine afu hg3 ?_;refine j7 (jM rfl rfl (Hp.b9 ..) rfl rfl rfl) (dS ?_);refine⟨?_,rfl,?_⟩
  ·intro q hq;simp only[List.mem_cons,List.not_mem_nil,or_false] at hq;rcases hq with rfl | rfl | rfl | rfl | rfl | rfl
   ·exact kc (l:=[nx]) (by simp)
   ·exact kc (l:=[1]) (by simp;omega)
   ·exact kc (l:=[1]) (by simp;omega)
   ·exact kc (l:=[]) (by simp)
   ·exact kc (l:=[]) (by simp)
   ·exact kc (by simp)
  generalize hH4:(Hp.put (Hp.put H3 (nx+1) _) (nx+1) _)=H4;have hd4:H4 nx=some ⟨0,3,[aN Do k]⟩:=by rw[<-hH4,Hp.aS _ _ _ (by omega),Hp.aS _ _ _ (by omega)];exact hd3
  have hg4:H4 (nx+1)=some ⟨1,2,[aN Sp x]⟩:=by rw[<-hH4];exact Hp.b9 ..
  have hold4:∀j,j<5->H4 j=H3 j:=fun j hj=>by rw[<-hH4,Hp.aS _ _ _ (by omega),Hp.aS _ _ _ (by omega)]
  have hS4:=hS3.af fun j hj=>hold4 j (by omega);refine dg (ar.seq (ar.dL ?_));refine rO rfl ?_;refine rF hd4 rfl ?_;refine rD (I p) hd4 rfl (by show some (I k.1)=_;rw[hp]) ?_;refine rN hS4.r rfl rfl (by omega) ?_;refine rF hS4.r rfl ?_;refine rD (I (rs.getD p (0,0)).1) hS4.r rfl (by rw[mW hpl (0,0)];rfl) ?_;refine rF hg4 rfl ?_;refine rD (I x.1) hg4 rfl rfl ?_;refine rA rfl rfl ?_;refine rN hS4.r rfl rfl (by omega) ?_;refine rF hS4.r rfl ?_;refine j7 (jM (cs:=[I (W ((rs.getD p (0,0)).1+x.1))]) (ys:=(rs.set p (W ((rs.getD p (0,0)).1+x.1),(rs.getD p (0,0)).2)).map (aN Sp)) rfl rfl hS4.r rfl (by rw[mW hpl (0,0)];rfl) (by rw[mW hpl (0,0),List.map_set];rfl)) (dS ?_)
  refine⟨fun q hq=>(by cases hq),rfl,?_⟩;have hS5:=hS4.set (rs':=rs.set p (W ((rs.getD p (0,0)).1+x.1),(rs.getD p (0,0)).2)) rfl;generalize hH5:Hp.put H4 3 _=H5 at hS5 ⊢;have hd5:H5 nx=some ⟨0,3,[aN Do k]⟩:=by rw[<-hH5,Hp.aS _ _ _ (by omega)];exact hd4
  have hg5:H5 (nx+1)=some ⟨1,2,[aN Sp x]⟩:=by rw[<-hH5,Hp.aS _ _ _ (by omega)];exact hg4
  have h45:H5 4=H4 4:=by rw[<-hH5,Hp.aS _ _ _ (by decide)]
  obtain⟨rs5,hrs5⟩:∃rs5,rs.set p (W ((rs.getD p (0,0)).1+x.1),(rs.getD p (0,0)).2)=rs5:=⟨_,rfl⟩;have hpl5:p<rs5.length:=by rw[<-hrs5,List.length_set];exact hpl
  have hg:rs5.getD p (0,0)=(W ((rs.getD p (0,0)).1+x.1),(rs.getD p (0,0)).2):=by rw[<-hrs5];simp[hpl]
  rw[hrs5] at hS5;refine dg (ar.dL ?_);refine rO rfl ?_;refine rF hd5 rfl ?_;refine rD (I p) hd5 rfl (by show some (I k.1)=_;rw[hp]) ?_;refine rN hS5.r rfl rfl (by omega) ?_;refine rF hS5.r rfl ?_;refine rD (I (rs5.getD p (0,0)).2) hS5.r rfl (by rw[mW hpl5 (0,0)];rfl) ?_;refine rF hg5 rfl ?_;refine rD (I x.2) hg5 rfl rfl ?_;refine rA rfl rfl ?_;refine rN hS5.r rfl rfl (by omega) ?_;refine rF hS5.r rfl ?_;refine j7 (jM (cs:=[I (W ((rs5.getD p (0,0)).2+x.2))]) (ys:=(rs5.set p ((rs5.getD p (0,0)).1,W ((rs5.getD p (0,0)).2+x.2))).map (aN Sp)) rfl rfl hS5.r rfl (by rw[mW hpl5 (0,0)];rfl) (by rw[mW hpl5 (0,0),List.map_set];rfl)) (dS ?_)
  refine⟨fun q hq=>(by cases hq),rfl,?_⟩;have hS6:=hS5.set (rs':=rs5.set p ((rs5.getD p (0,0)).1,W ((rs5.getD p (0,0)).2+x.2))) rfl;refine xP (dg (ar.dL ?_));refine cf (Dy rfl rfl (by omega)) ?_;refine rM rfl ?_;refine dS (dg ?_);refine dB.live [(2,.ptr 0 0 0 0),(3,.ptr 1 0 0 0),(4,.ptr 2 0 0 0),(5,.own 3 0 0 n),(6,.own 4 0 0 n),(27,.ab false (ds.map (aN Do))),(28,I ds.length),(29,I ((i+1:Nat):Int))] ?_ ?_
  ·simp only[Has,zZ,jD];exact⟨rfl,rfl,rfl,rfl,rfl,rfl,rfl,rfl,trivial⟩
  ·refine ih (i+1) _ _ _ ?_ ?_ ?_ hS6 ?_ (by omega) ?_
   ·rw[<-List.drop_drop,hd];rfl
   ·simp at hi;omega
   ·rw[List.length_set,<-hrs5,List.length_set];exact hr
   ·rw[Hp.aS _ _ _ (by decide),h45,hold4 4 (by decide),hold3 4 (by decide),hold2 4 (by decide)];exact h4
   ·rw[hg,<-hrs5,List.set_set];exact ho
theorem NL{α:Type}{b:Nat}{i:Int}{x:α}{l l':List (List α)}(h:uI b i x l=some l'):(0<=i/\i<l.length)/\(((l.getD i.toNat []).length+1)*b<=140737488355328/\(l.getD i.toNat []).length+1<=9223372036854775807)/\l'=eW l i.toNat x:=by
 unfold uI at h;cases h1:ae i l.length with
 | false=>rw[h1] at h;cases h
 | true=>
  rw[h1,cond_true] at h;cases h2:ba ((l.getD i.toNat []).length+1) b with
  | false=>rw[h2] at h;cases h
  | true=>
   rw[h2,cond_true] at h;injection h with h;exact⟨wN h1,of_decide_eq_true h2,h.symm⟩
set_option maxHeartbeats 2000000 in
theorem aci{P:Program}{cx:Cx}{ow:Nat->Bool}(base:Nat)(a:List DV)(d1:DV)(sf:List Int)(fs:List (El Fa))(n:Nat)(rs:List (Int×Int))(out:List (List (El Bl)))(Q:Exit->St->Prop)(hob:4<base)(hlen:fs.length<9223372036854775807)
  (hQ:∀T H nx gs,DS H a [.ab false (sf.map (aN GI)),d1] rs->fa (aN Bl) 5 H 4 0 base gs out->base+out.length<=nx->Has T [(2,.ptr 0 0 0 0),(3,.ptr 1 0 0 0),(4,.ptr 2 0 0 0),(5,.own 3 0 0 n),(6,.own 4 0 0 out.length)]->Q (.exit 2) ⟨T,H,nx⟩):
  ∀(ks:List (El Fa)) (i:Nat) (gs:Nat->Nat) (rows:List (List (El Bl))) (H:Hp) (nx:Nat),fs.drop i=ks->i+ks.length=fs.length->DS H a [.ab false (sf.map (aN GI)),d1] rs->fa (aN Bl) 5 H 4 0 base gs rows->base+rows.length<=nx->qP sf ks i rows=some out->
  dB P cx ow Au Q ⟨jD [(2,.ptr 0 0 0 0),(3,.ptr 1 0 0 0),(4,.ptr 2 0 0 0),(5,.own 3 0 0 n),(6,.own 4 0 0 rows.length),(65,.ab false (fs.map (aN Fa))),(66,I fs.length),(67,I i)],H,nx⟩:=by
 intro ks;induction ks with
 | nil=>
  intro i gs rows H nx hd hi hS hN hx ho;simp only[qP] at ho;cases ho;refine dB.tp (by delta Au;rfl) ?_;refine ar.seq (ar.dL (cf (sU rfl rfl) (dS ?_)));refine dg (ar.seq ?_);refine ar.vn rfl (decide_eq_false (by simp at hi;omega)) (ar.exit ?_);refine qK (qK ?_);exact hQ _ _ _ gs hS hN hx ⟨rfl,rfl,rfl,rfl,rfl,trivial⟩
 | cons k ks ih=>
  intro i gs rows H nx hd hi hS hN hx ho;have hi':i<fs.length:=by simp at hi;omega
  have hk:fs[i]=k:=by
   have:=List.getElem_drop (j:=0) (h:=by rw[hd];simp);simp only[hd,List.getElem_cons_zero,Nat.add_zero] at this;exact this.symm
  unfold qP at ho;cases hb:ae (i:Int) sf.length with
  | false=>rw[hb] at ho;cases ho
  | true=>
  rw[hb,cond_true] at ho;have hb1:=wN hb;refine dB.tp (by delta Au;rfl) ?_;refine ar.seq (ar.dL (cf (sU rfl rfl) (dS ?_)));refine dg (ar.seq ?_);refine ar.vH rfl (decide_eq_true (by omega)) (ar.skip ?_);have fin:∀(T':Nat->DV) (H':Hp) (nx':Nat) (gs':Nat->Nat) (rows':List (List (El Bl))),DS H' a [.ab false (sf.map (aN GI)),d1] rs->fa (aN Bl) 5 H' 4 0 base gs' rows'->base+rows'.length<=nx'->qP sf ks (i+1) rows'=some out->Has T' [(2,.ptr 0 0 0 0),(3,.ptr 1 0 0 0),(4,.ptr 2 0 0 0),(5,.own 3 0 0 n),(6,.own 4 0 0 rows'.length),(65,.ab false (fs.map (aN Fa))),(66,I fs.length),(67,I i)]->
    ar P cx ow (.rg [⟨(some 96),(.bin .add (.t 67) (.c (I 1))),none⟩,⟨(some 67),(.bS (.t 96)),none⟩] none) (oW (fun s'=>dB P cx ow Au Q s') Q) ⟨T',H',nx'⟩:=by
   intro T' H' nx' gs' rows' a1 a2 a3 a4 b;obtain⟨b1,b2,b3,b4,b5,b6,b7,b8,_⟩:=b;refine ar.dL ?_;refine cf (Dy (by show un true (T' 67)=_;rw[b8];rfl) rfl (by omega)) ?_;refine rM rfl ?_;refine dS (dg ?_);refine dB.live [(2,.ptr 0 0 0 0),(3,.ptr 1 0 0 0),(4,.ptr 2 0 0 0),(5,.own 3 0 0 n),(6,.own 4 0 0 rows'.length),(65,.ab false (fs.map (aN Fa))),(66,I fs.length),(67,I ((i+1:Nat):Int))] ?_ ?_
   ·simp only[Has,zZ];exact⟨b1,b2,b3,b4,b5,b6,b7,rfl,trivial⟩
   ·refine ih (i+1) gs' rows' _ _ ?_ ?_ a1 a2 a3 a4
    ·rw[<-List.drop_drop,hd];rfl
    ·simp at hi;omega
  refine dg (ar.seq (ar.block (ar.seq (ar.dL ?_))));refine rM rfl ?_;refine rX (aN Fa k) rfl rfl hi' (by simp[hi',hk]) rfl ?_;refine cf rfl ?_;refine n8 (xI ..) ?_;refine rM rfl ?_;refine j7 (jM rfl rfl (Hp.b9 ..) rfl rfl rfl) (dS ?_);generalize hH2:(Hp.put (Hp.put H nx _) nx _)=H2;have hd2:H2 nx=some ⟨0,4,[aN Fa k]⟩:=by rw[<-hH2];exact Hp.b9 ..
  have hold2:∀j,j<nx->H2 j=H j:=fun j hj=>by rw[<-hH2,Hp.aS _ _ _ (by omega),Hp.aS _ _ _ (by omega)]
  have hS2:=hS.af fun j hj=>hold2 j (by omega);have hN2:=hN.af (fun j hj=>hold2 j (by omega)) hob;refine dg (ar.seq (ar.dL ?_));refine rF hS2.s rfl ?_;refine rD (.ab false (sf.map (aN GI))) hS2.s rfl rfl ?_;refine rM rfl ?_;refine rX (aN GI (sf.getD i 0)) rfl rfl (by omega) (by rw[Int.toNat_natCast];exact mW (by omega) 0) rfl ?_;refine rC (I (sf.getD i 0)) rfl ?_;refine cf (avz rfl rfl) (dS ?_);refine dg ?_;cases hz:(sf.getD i 0==0) with
  | true=>
   rw[hz,cond_true] at ho;refine ar.vn rfl (by rw[bne,hz];rfl) (ar.skip ?_);refine xP (dg ?_);exact fin _ _ _ gs rows hS2 hN2 (by omega) ho ⟨rfl,rfl,rfl,rfl,rfl,rfl,rfl,rfl,trivial⟩
  | false=>
   rw[hz,cond_false] at ho;obtain⟨rows1,ha,ho⟩:=Option.bind_eq_some_iff.1 ho;obtain⟨⟨k0,k1⟩,hfit,rfl⟩:=NL ha;obtain⟨p,hp⟩:∃p:Nat, @Eq Int k.1 p:=⟨Int.toNat k.1,(Int.toNat_of_nonneg k0).symm⟩;rw[hp,Int.toNat_natCast] at hfit ho;have hpl:p<rows.length:=by omega
   refine ar.vH rfl (by rw[bne,hz];rfl) (ar.dL ?_);refine rO rfl ?_;refine ji (j5 rfl hd2) rfl ?_;refine ji (jo rfl hd2 (by show some (I k.1)=_;rw[hp])) rfl ?_;refine rO rfl ?_;refine rF hd2 rfl ?_;refine rD (I p) hd2 rfl (by show some (I k.1)=_;rw[hp]) ?_;refine rN hN2.top rfl rfl (by omega) ?_;refine rD (.own (base+p) (gs p) 0 (rows.getD p []).length) hN2.top rfl (by rw[k9 hpl];rfl) ?_;refine rE (aN Fa k) hd2 rfl rfl rfl ?_;refine rF hS2.s rfl ?_;refine rD (.ab false (sf.map (aN GI))) hS2.s rfl rfl ?_;refine rM rfl ?_;refine rX (aN GI (sf.getD i 0)) rfl rfl (by omega) (by rw[Int.toNat_natCast];exact mW (by omega) 0) rfl ?_
   refine rC (I (sf.getD i 0)) rfl ?_;refine cf rfl ?_;refine cf (xo rfl) ?_;refine Bc (yc (n:=(rows.getD p []).length) (news:=[aN Bl (k,sf.getD i 0)]) rfl rfl (hN2.row p hpl) rfl hfit) rfl ?_;refine cf (sO (o:=4) (g:=0) (k:=rows.length) (p:=p) rfl rfl (by rw[Hp.aS _ _ _ (by omega)];exact hN2.top) hpl) ?_;refine j7 (jM (o:=4) (g:=0) (i:=p) (f:=0) rfl rfl (by rw[Hp.aS _ _ _ (by omega)];exact hN2.top) rfl (by rw[k9 hpl];rfl) rfl) (dS ?_);refine⟨?_,rfl,?_⟩
   ·intro q hq;simp only[List.mem_cons,List.not_mem_nil,or_false] at hq;rcases hq with rfl | rfl
    ·exact pg (a:=([nx],[])) (b:=([base+p],[base+p])) (by kernel_rfl) (by kernel_rfl) (kc (by simp;omega))
    ·exact pg (a:=([nx],[])) (b:=([base+p],[base+p])) (by kernel_rfl) (by kernel_rfl) (kc (by simp;omega))
   have hN3:=hN2.add hpl (k,sf.getD i 0) hob;refine xP (dg ?_);refine fin _ _ _ (fun q=>if q=p then gs p+1 else gs q) (eW rows p (k,sf.getD i 0)) (hS2.af fun j hj=>?_) ?_ (by rw[gZ];omega) ho ⟨rfl,rfl,rfl,rfl,by rw[gZ];rfl,rfl,rfl,rfl,trivial⟩
   ·rw[Hp.aS _ _ _ (by omega),Hp.aS _ _ _ (by omega)]
   ·rw[List.take_of_length_le (by simp),show eF ((jv base gs rows).getD p []) 0 [DV.own (base+p) (gs p+1) 0 ((rows.getD p []).length+[aN Bl (k,sf.getD i 0)].length)]=[DV.own (base+p) (gs p+1) 0 ((rows.getD p []).length+1)] by rw[k9 hpl];rfl];exact hN3
structure DR (H:Hp) (rs:List (Int×Int)) (ps:List (El Pi)) (gp np:Nat):Prop where
 o:H 2=some ⟨0,2,[[.ab true [],.ab true []]]⟩
 r:H 3=some ⟨0,2,rs.map (aN Sp)⟩
 b:H 5=some ⟨0,2,[[.own 6 gp 0 ps.length,.own 4 0 0 np]]⟩
 p:H 6=some ⟨gp,12,ps.map (aN Pi)⟩
theorem DR.af{H H':Hp}{rs:List (Int×Int)}{ps:List (El Pi)}{gp np:Nat}(h:DR H rs ps gp np)(k:∀j,j<7->j≠4->H' j=H j):DR H' rs ps gp np:=
 ⟨by rw[k 2 (by decide) (by decide)];exact h.o,by rw[k 3 (by decide) (by decide)];exact h.r,by rw[k 5 (by decide) (by decide)];exact h.b,by rw[k 6 (by decide) (by decide)];exact h.p⟩
def uV(k:El Rd)(a b:Int):El Rd:=(k.1,k.2.1,k.2.2.1,k.2.2.2.1,k.2.2.2.2.1,k.2.2.2.2.2.1,(a,b),k.2.2.2.2.2.2.2)
set_option maxHeartbeats 2000000 in
theorem aqe{P:Program}{cx:Cx}{ow:Nat->Bool}(rd:List (El Rd))(n:Nat)(rs:List (Int×Int))(fs:List (List (El Bl)))(out:List (El Pi)×List (List Int))(Q:Exit->St->Prop)(hn:rs.length=n)(hlen:rd.length<9223372036854775807)
  (hQ:∀T H nx gs gp,DR H rs out.1 gp out.2.length->fa (aN GI) 1 H 4 0 7 gs out.2->7+out.2.length<=nx->Has T [(4,.ptr 2 0 0 0),(12,.ptr 5 0 0 0)]->Q (.exit 4) ⟨T,H,nx⟩):
  ∀(ks:List (El Rd)) (i:Nat) (gs:Nat->Nat) (gp:Nat) (ps:List (El Pi)) (rows:List (List Int)) (H:Hp) (nx:Nat),rd.drop i=ks->i+ks.length=rd.length->DR H rs ps gp rows.length->fa (aN GI) 1 H 4 0 7 gs rows->7+rows.length<=nx->qA rs fs ks i ps rows=some out->
  dB P cx ow zU Q ⟨jD [(4,.ptr 2 0 0 0),(5,.own 3 0 0 n),(6,.ab false (fs.map (aN (.list Bl)))),(12,.ptr 5 0 0 0),(105,.ab false (rd.map (aN Rd))),(106,I rd.length),(107,I i)],H,nx⟩:=by
 intro ks;induction ks with
 | nil=>
  intro i gs gp ps rows H nx hd hi hS hN hx ho;simp only[qA] at ho;cases ho;refine dB.tp (by delta zU;rfl) ?_;refine ar.seq (ar.dL (cf (sU rfl rfl) (dS ?_)));refine dg (ar.seq ?_);refine ar.vn rfl (decide_eq_false (by simp at hi;omega)) (ar.exit ?_);refine qK (qK ?_);exact hQ _ _ _ gs gp hS hN hx ⟨rfl,rfl,trivial⟩
 | cons k ks ih=>
  intro i gs gp ps rows H nx hd hi hS hN hx ho;have hi':i<rd.length:=by simp at hi;omega
  have hk:rd[i]=k:=by
   have:=List.getElem_drop (j:=0) (h:=by rw[hd];simp);simp only[hd,List.getElem_cons_zero,Nat.add_zero] at this;exact this.symm
  refine dB.tp (by delta zU;rfl) ?_;refine ar.seq (ar.dL (cf (sU rfl rfl) (dS ?_)));refine dg (ar.seq ?_);refine ar.vH rfl (decide_eq_true (by omega)) (ar.skip ?_);have fin:∀(T':Nat->DV) (H':Hp) (nx':Nat) (gs':Nat->Nat) (gp':Nat) (ps':List (El Pi)) (rows':List (List Int)),DR H' rs ps' gp' rows'.length->fa (aN GI) 1 H' 4 0 7 gs' rows'->7+rows'.length<=nx'->qA rs fs ks (i+1) ps' rows'=some out->Has T' [(4,.ptr 2 0 0 0),(5,.own 3 0 0 n),(6,.ab false (fs.map (aN (.list Bl)))),(12,.ptr 5 0 0 0),(105,.ab false (rd.map (aN Rd))),(106,I rd.length),(107,I i)]->
    ar P cx ow (.rg [⟨(some 179),(.bin .add (.t 107) (.c (I 1))),none⟩,⟨(some 107),(.bS (.t 179)),none⟩] none) (oW (fun s'=>dB P cx ow zU Q s') Q) ⟨T',H',nx'⟩:=by
   intro T' H' nx' gs' gp' ps' rows' a1 a2 a3 a4 b;obtain⟨b1,b2,b3,b4,b5,b6,b7,_⟩:=b;refine ar.dL ?_;refine cf (Dy (by show un true (T' 107)=_;rw[b7];rfl) rfl (by omega)) ?_;refine rM rfl ?_;refine dS (dg ?_);refine dB.live [(4,.ptr 2 0 0 0),(5,.own 3 0 0 n),(6,.ab false (fs.map (aN (.list Bl)))),(12,.ptr 5 0 0 0),(105,.ab false (rd.map (aN Rd))),(106,I rd.length),(107,I ((i+1:Nat):Int))] ?_ ?_
   ·simp only[Has,zZ];exact⟨b1,b2,b3,b4,b5,b6,rfl,trivial⟩
   ·refine ih (i+1) gs' gp' ps' rows' _ _ ?_ ?_ a1 a2 a3 a4
    ·rw[<-List.drop_drop,hd];rfl
    ·simp at hi;omega
  refine dg (ar.seq (ar.block (ar.seq (ar.dL ?_))));refine rM rfl ?_;refine rX (aN Rd k) rfl rfl hi' (by simp[hi',hk]) rfl ?_;refine cf rfl ?_;refine n8 (xI ..) ?_;refine rM rfl ?_;refine j7 (jM rfl rfl (Hp.b9 ..) rfl rfl rfl) (dS ?_);generalize hH2:(Hp.put (Hp.put H nx _) nx _)=H2;have hd2:H2 nx=some ⟨0,10,[aN Rd k]⟩:=by rw[<-hH2];exact Hp.b9 ..
  have hold2:∀j,j<nx->H2 j=H j:=fun j hj=>by rw[<-hH2,Hp.aS _ _ _ (by omega),Hp.aS _ _ _ (by omega)]
  have hS2:=hS.af fun j hj _=>hold2 j (by omega);have hN2:=hN.af (fun j hj=>hold2 j (by omega)) (by decide);refine dg (ar.seq (ar.seq (ar.dL ?_)));refine rF hd2 rfl ?_;refine rD (B k.2.2.2.2.2.1) hd2 rfl rfl ?_;refine dS (dg ?_);unfold qA at ho;cases hcl:k.2.2.2.2.2.1 with
  | true=>
  rw[hcl,cond_true] at ho;refine ar.vH rfl rfl (ar.exit ?_);refine qK (Cf (dg ?_));exact fin _ _ _ gs gp ps rows hS2 hN2 (by omega) ho ⟨rfl,rfl,rfl,rfl,rfl,rfl,rfl,trivial⟩
  | false=>
  rw[hcl,cond_false] at ho;refine ar.vn rfl rfl (ar.skip ?_);obtain⟨rows1,ha,ho⟩:=Option.bind_eq_some_iff.1 ho;obtain⟨⟨k0,k1⟩,hfit,rfl⟩:=NL ha;obtain⟨rows2,ha2,ho⟩:=Option.bind_eq_some_iff.1 ho;obtain⟨⟨m0,m1⟩,hfit2,rfl⟩:=NL ha2;obtain⟨p,hp⟩:∃p:Nat, @Eq Int k.1 p:=⟨Int.toNat k.1,(Int.toNat_of_nonneg k0).symm⟩;obtain⟨q2,hq2⟩:∃q:Nat, @Eq Int k.2.1 q:=⟨Int.toNat k.2.1,(Int.toNat_of_nonneg m0).symm⟩;rw[gZ] at m1;simp only[hp,hq2,Int.toNat_natCast] at hfit hfit2 ho;have hpl:p<rows.length:=by omega
  have hql:q2<(eW rows p (ps.length:Int)).length:=by rw[gZ];omega
  cases hb:ae (i:Int) rs.length && (ae (i:Int) fs.length && ba (ps.length+1) 104) with
  | false=>rw[hb] at ho;cases ho
  | true=>
  rw[hb,cond_true] at ho;rw[Bool.and_eq_true,Bool.and_eq_true] at hb;have hb1:=wN hb.1;have hb2:=wN hb.2.1;have hb3:=of_decide_eq_true hb.2.2;refine dg (ar.seq (ar.dL ?_));refine rF hS2.b rfl ?_;refine rD (.own 6 gp 0 ps.length) hS2.b rfl rfl ?_;refine cf (at6 rfl hS2.p rfl) ?_;refine rM rfl ?_;refine dS (dg (ar.seq (ar.dL ?_)));refine ji (j5 rfl hS2.b) rfl ?_;refine ji (jo rfl hS2.b rfl) rfl ?_;refine ji (j5 rfl hd2) rfl ?_;refine ji (jo rfl hd2 (by show some (I k.1)=_;rw[hp])) rfl ?_;refine rF hS2.b rfl ?_
  refine rD (.own 4 0 0 rows.length) hS2.b rfl rfl ?_;refine rF hd2 rfl ?_;refine rD (I p) hd2 rfl (by show some (I k.1)=_;rw[hp]) ?_;refine rN hN2.top rfl rfl (by omega) ?_;refine rD (.own (7+p) (gs p) 0 (rows.getD p []).length) hN2.top rfl (by rw[k9 hpl];rfl) ?_;refine rM rfl ?_;refine cf (xo rfl) ?_;refine Bc (yc (n:=(rows.getD p []).length) (news:=[aN GI (ps.length:Int)]) rfl rfl (hN2.row p hpl) rfl hfit) rfl ?_;refine cf (sO (o:=4) (g:=0) (k:=rows.length) (p:=p) rfl rfl (by rw[Hp.aS _ _ _ (by omega)];exact hN2.top) hpl) ?_
  refine j7 (jM (o:=4) (g:=0) (i:=p) (f:=0) rfl rfl (by rw[Hp.aS _ _ _ (by omega)];exact hN2.top) rfl (by rw[k9 hpl];rfl) rfl) (dS ?_);refine⟨?_,rfl,?_⟩
  ·intro q hq;simp only[List.mem_cons,List.not_mem_nil,or_false] at hq;rcases hq with rfl | rfl | rfl | rfl
   ·exact pg (a:=([5],[])) (b:=([7+p],[7+p])) (by kernel_rfl) (by kernel_rfl) (kc (by simp;omega))
   ·exact pg (a:=([5],[])) (b:=([7+p],[7+p])) (by kernel_rfl) (by kernel_rfl) (kc (by simp;omega))
   ·exact pg (a:=([nx],[])) (b:=([7+p],[7+p])) (by kernel_rfl) (by kernel_rfl) (kc (by simp;omega))
   ·exact pg (a:=([nx],[])) (b:=([7+p],[7+p])) (by kernel_rfl) (by kernel_rfl) (kc (by simp;omega))
  generalize hH3:Hp.put (Hp.put H2 (7+p) _) 4 _=H3;have hd3:H3 nx=some ⟨0,10,[aN Rd k]⟩:=by rw[<-hH3,Hp.aS _ _ _ (by omega),Hp.aS _ _ _ (by omega)];exact hd2
  have hN3:fa (aN GI) 1 H3 4 0 7 (fun q=>if q=p then gs p+1 else gs q) (eW rows p (ps.length:Int)):=by
   rw[<-hH3,List.take_of_length_le (by simp),show eF ((jv 7 gs rows).getD p []) 0 [DV.own (7+p) (gs p+1) 0 ((rows.getD p []).length+[aN GI (ps.length:Int)].length)]=[DV.own (7+p) (gs p+1) 0 ((rows.getD p []).length+1)] by rw[k9 hpl];rfl];exact hN2.add hpl (ps.length:Int) (by decide)
  have hl3:(eW rows p (ps.length:Int)).length=rows.length:=by rw[gZ]
  have hS3:=hS2.af (H':=H3) fun j hj h4=>by rw[<-hH3,Hp.aS _ _ _ h4,Hp.aS _ _ _ (by omega)]
  generalize (fun q=>if q=p then gs p+1 else gs q)=gs3 at hN3;obtain⟨rows3,hr3⟩:∃r,eW rows p (ps.length:Int)=r:=⟨_,rfl⟩;rw[hr3] at hN3 hl3 ho;rw[hr3] at hql hfit2;rw[<-hl3] at hS3;refine dg (ar.seq (ar.dL ?_));have T3:∀(b:Nat) (c:Nat) (h:b=c),DV.own 4 0 0 b=DV.own 4 0 0 c:=fun b c h=>by rw[h]
  refine ji (j5 rfl hS3.b) rfl ?_;refine ji (jo rfl hS3.b rfl) rfl ?_;refine ji (j5 rfl hd3) rfl ?_;refine ji (jo rfl hd3 (by show some (I k.2.1)=_;rw[hq2])) rfl ?_;refine rF hS3.b rfl ?_;refine rD (.own 4 0 0 rows3.length) hS3.b rfl rfl ?_;refine rF hd3 rfl ?_;refine rD (I q2) hd3 rfl (by show some (I k.2.1)=_;rw[hq2]) ?_;refine rN hN3.top rfl rfl (by omega) ?_;refine rD (.own (7+q2) (gs3 q2) 0 (rows3.getD q2 []).length) hN3.top rfl (by rw[k9 hql];rfl) ?_;refine rM rfl ?_;refine cf (xo rfl) ?_;refine Bc (yc (g:=gs3 q2) (lo:=0) (n:=(rows3.getD q2 []).length) (news:=[aN GI (ps.length:Int)]) rfl rfl (hN3.row q2 hql) rfl hfit2) rfl ?_
  refine cf (sO (o:=4) (g:=0) (k:=rows3.length) (p:=q2) rfl rfl (by rw[Hp.aS _ _ _ (by omega)];exact hN3.top) hql) ?_;refine j7 (jM (o:=4) (g:=0) (i:=q2) (f:=0) rfl rfl (by rw[Hp.aS _ _ _ (by omega)];exact hN3.top) rfl (by rw[k9 hql];rfl) rfl) (dS ?_);refine⟨?_,rfl,?_⟩
  ·intro q hq;simp only[List.mem_cons,List.not_mem_nil,or_false] at hq;rcases hq with rfl | rfl | rfl | rfl
   ·exact pg (a:=([5],[])) (b:=([7+q2],[7+q2])) (by kernel_rfl) (by kernel_rfl) (kc (by simp;omega))
   ·exact pg (a:=([5],[])) (b:=([7+q2],[7+q2])) (by kernel_rfl) (by kernel_rfl) (kc (by simp;omega))
   ·exact pg (a:=([nx],[])) (b:=([7+q2],[7+q2])) (by kernel_rfl) (by kernel_rfl) (kc (by simp;omega))
   ·exact pg (a:=([nx],[])) (b:=([7+q2],[7+q2])) (by kernel_rfl) (by kernel_rfl) (kc (by simp;omega))
  generalize hH4:Hp.put (Hp.put H3 (7+q2) _) 4 _=H4;have hd4:H4 nx=some ⟨0,10,[aN Rd k]⟩:=by rw[<-hH4,Hp.aS _ _ _ (by omega),Hp.aS _ _ _ (by omega)];exact hd3
  have hN4:fa (aN GI) 1 H4 4 0 7 (fun q=>if q=q2 then gs3 q2+1 else gs3 q) (eW rows3 q2 (ps.length:Int)):=by
   rw[<-hH4,List.take_of_length_le (by simp),show eF ((jv 7 gs3 rows3).getD q2 []) 0 [DV.own (7+q2) (gs3 q2+1) 0 ((rows3.getD q2 []).length+[aN GI (ps.length:Int)].length)]=[DV.own (7+q2) (gs3 q2+1) 0 ((rows3.getD q2 []).length+1)] by rw[k9 hql];rfl];exact hN3.add hql (ps.length:Int) (by decide)
  have hl4:(eW rows3 q2 (ps.length:Int)).length=rows.length:=by rw[gZ];exact hl3
  have hS4:=hS3.af (H':=H4) fun j hj h4=>by rw[<-hH4,Hp.aS _ _ _ h4,Hp.aS _ _ _ (by omega)]
  generalize (fun q=>if q=q2 then gs3 q2+1 else gs3 q)=gs4 at hN4;obtain⟨rows4,hr4⟩:∃r,eW rows3 q2 (ps.length:Int)=r:=⟨_,rfl⟩;rw[hr4] at hN4 hl4 ho;rw[hl3,<-hl4] at hS4;refine dg (ar.seq (ar.dL ?_));refine rF hd4 rfl ?_;refine rF hd4 rfl ?_;refine rD (I k.2.2.2.2.2.2.1.1) hd4 rfl rfl ?_;refine rO rfl ?_;refine rM rfl ?_;refine rN hS4.r rfl rfl (by omega) ?_;refine rF hS4.r rfl ?_;refine rD (I (rs.getD i (0,0)).1) hS4.r rfl (by rw[mW (by omega) (0,0)];rfl) ?_;refine rA rfl rfl ?_;refine rF hd4 rfl ?_;refine rF hd4 rfl ?_;refine j7 (jM (f:=6) (cs:=[I (W (k.2.2.2.2.2.2.1.1+(rs.getD i (0,0)).1))]) (ys:=[aN Rd (uV k (W (k.2.2.2.2.2.2.1.1+(rs.getD i (0,0)).1)) k.2.2.2.2.2.2.1.2)]) rfl rfl hd4 rfl rfl rfl) (dS ?_)
  refine⟨fun q hq=>(by cases hq),rfl,?_⟩;generalize hH5:Hp.put H4 nx _=H5;have hd5:H5 nx=some ⟨0,10,[aN Rd (uV k (W (k.2.2.2.2.2.2.1.1+(rs.getD i (0,0)).1)) k.2.2.2.2.2.2.1.2)]⟩:=by rw[<-hH5];exact Hp.b9 ..
  have hS5:=hS4.af (H':=H5) fun j hj _=>by rw[<-hH5,Hp.aS _ _ _ (by omega)]
  have hN5:=hN4.af (H':=H5) (fun j hj=>by rw[<-hH5,Hp.aS _ _ _ (by omega)]) (by decide);refine dg (ar.seq (ar.dL ?_));refine rF hd5 rfl ?_;refine rF hd5 rfl ?_;refine rD (I k.2.2.2.2.2.2.1.2) hd5 rfl rfl ?_;refine rO rfl ?_;refine rM rfl ?_;refine rN hS5.r rfl rfl (by omega) ?_;refine rF hS5.r rfl ?_;refine rD (I (rs.getD i (0,0)).2) hS5.r rfl (by rw[mW (by omega) (0,0)];rfl) ?_;refine rA rfl rfl ?_;refine rF hd5 rfl ?_;refine rF hd5 rfl ?_;refine j7 (jM (o:=nx) (g:=0) (i:=0) (f:=7) (cs:=[I (W (k.2.2.2.2.2.2.1.2+(rs.getD i (0,0)).2))]) (ys:=[aN Rd (uV k (W (k.2.2.2.2.2.2.1.1+(rs.getD i (0,0)).1)) (W (k.2.2.2.2.2.2.1.2+(rs.getD i (0,0)).2)))]) rfl rfl hd5 rfl rfl rfl) (dS ?_)
  refine⟨fun q hq=>(by cases hq),rfl,?_⟩;generalize hH6:Hp.put H5 nx _=H6;have hd6:H6 nx=some ⟨0,10,[aN Rd (uV k (W (k.2.2.2.2.2.2.1.1+(rs.getD i (0,0)).1)) (W (k.2.2.2.2.2.2.1.2+(rs.getD i (0,0)).2)))]⟩:=by rw[<-hH6];exact Hp.b9 ..
  have hS6:=hS5.af (H':=H6) fun j hj _=>by rw[<-hH6,Hp.aS _ _ _ (by omega)]
  have hN6:=hN5.af (H':=H6) (fun j hj=>by rw[<-hH6,Hp.aS _ _ _ (by omega)]) (by decide);refine dg (ar.dL ?_);refine rF hS6.b rfl ?_;refine rD (.own 6 gp 0 ps.length) hS6.b rfl rfl ?_;refine rE (aN Rd (uV k (W (k.2.2.2.2.2.2.1.1+(rs.getD i (0,0)).1)) (W (k.2.2.2.2.2.2.1.2+(rs.getD i (0,0)).2)))) hd6 rfl rfl rfl ?_;refine rM rfl ?_;refine cf (aaj rfl) ?_;refine rM rfl ?_;refine rX (aN (.list Bl) (fs.getD i [])) rfl rfl (by omega) (by rw[Int.toNat_natCast];exact mW (by omega) []) rfl ?_;refine rC (.ab false ((fs.getD i []).map (aN Bl))) rfl ?_
  refine cf rfl ?_;refine cf (xo rfl) ?_;refine VN (yc rfl rfl hS6.p rfl hb3) ?_;refine cf (j5 rfl (by rw[Hp.aS _ _ _ (by decide)];exact hS6.b)) ?_;refine j7 (jM rfl rfl (by rw[Hp.aS _ _ _ (by decide)];exact hS6.b) rfl rfl rfl) (dS ?_);refine⟨fun q hq=>(by cases hq),rfl,?_⟩;refine xP (dg ?_);refine fin _ _ _ gs4 (gp+1) (ps++[((uV k (W (k.2.2.2.2.2.2.1.1+(rs.getD i (0,0)).1)) (W (k.2.2.2.2.2.2.1.2+(rs.getD i (0,0)).2))),(i:Int),fs.getD i [])]) rows4 ⟨?_,?_,?_,?_⟩ ⟨by rw[Hp.aS _ _ _ (by decide),Hp.aS _ _ _ (by decide)];exact hN6.top,fun q hq=>by rw[Hp.aS _ _ _ (by omega),Hp.aS _ _ _ (by omega)];exact hN6.row q hq⟩ (by omega) (by simp only[uV,hp,hq2,hcl];exact ho) ⟨rfl,rfl,rfl,rfl,rfl,rfl,rfl,trivial⟩
  ·rw[Hp.aS _ _ _ (by decide),Hp.aS _ _ _ (by decide)];exact hS6.o
  ·rw[Hp.aS _ _ _ (by decide),Hp.aS _ _ _ (by decide)];exact hS6.r
  ·rw[Hp.b9,List.length_append];rfl
  ·rw[Hp.aS _ _ _ (by decide),Hp.b9,List.drop_zero,List.take_of_length_le (by simp),List.map_append];rfl
theorem ve(b:GT)(x:El b):∀d∈aN b x,bB (fun _=>False) d:=fun d hd=>cA.ids b x _ (ig b x) d hd
theorem awo{cx:Cx}{T:Nat->DV}{H:Hp}{nx:Nat}{d:DV}(hn:cx.nb<=nx)(h5:H 5=some ⟨0,2,[[.ab true [],d]]⟩)(h6:6<nx):Wk cx ⟨T,H,nx⟩ ⟨T,iL (H.put 5 (some ⟨0,2,[[.own 6 0 0 0,d]]⟩)) nx,nx⟩:=by
 have sh:Shape ⟨T,H,nx⟩ (iL (H.put 5 (some ⟨0,2,[[.own 6 0 0 0,d]]⟩)) nx) id nx:=⟨fun j ck' hj=>by
  obtain⟨h1,h2⟩:=mL hj;refine⟨h1,?_⟩;by_cases e:j=5
  ·subst e;rw[Hp.b9] at h2;cases h2;exact⟨_,h5,rfl,rfl,rfl⟩
  ·rw[Hp.aS _ _ _ e] at h2;exact⟨ck',h2,rfl,rfl,rfl⟩⟩
 refine Wk.cells hn sh (fun j ck' ck h1 h2=>?_) (fun t=>sI sh);obtain⟨h3,h4⟩:=mL h1;have h2:H j=some ck:=h2;by_cases e:j=5
 ·subst e;right
  rw[Hp.b9] at h4;injection h4 with h4;subst h4
  rw[h5] at h2;injection h2 with h2;subst h2
  intro i k1 k2;have:i=0:=by simp at k1;omega
  subst this;refine⟨rfl,fun c k3 k4=>?_⟩;match c,k3,k4 with
  | 0,_,_=>exact fun ps M w x hR hv=>F9 hv h6
  | 1,_,_=>exact sI sh
  | c+2,k3,_=>exact absurd k3 (by simp)
 ·left
  rw[Hp.aS _ _ _ e] at h4;rw[h4] at h2;injection h2
theorem aog{cx:Cx}{T:Nat->DV}{H:Hp}{nx gp:Nat}{gs:Nat->Nat}{rs:List (Int×Int)}{ps:List (El Pi)}{rows:List (List Int)}(hn:cx.nb<=nx)(hS:DR H rs ps gp rows.length)(hN:fa (aN GI) 1 H 4 0 7 gs rows)(hx:7+rows.length<=nx)(hT:Has T [(4,.ptr 2 0 0 0),(12,.ptr 5 0 0 0)]):
  ∃H',Wk cx ⟨T,H,nx⟩ ⟨jD [(4,.ptr 2 0 0 0),(12,.ptr 5 0 0 0)],H',nx⟩/\H' 2=some ⟨0,2,[[.ab true [],.ab true []]]⟩/\H' 5=some ⟨0,2,[[.ab false (ps.map (aN Pi)),.ab false (rows.map (aN (.list GI)))]]⟩:=by
 have flP:∀x∈ps.map (aN Pi),∀c∈x,bB (fun _=>False) c:=fun x hx c hc=>by
  obtain⟨y,_,rfl⟩:=List.mem_map.1 hx;exact ve _ y c hc
 have flX:∀x∈rows.map (aN (.list GI)),∀c∈x,bB (fun _=>False) c:=fun x hx c hc=>by
  obtain⟨y,_,rfl⟩:=List.mem_map.1 hx;exact ve (.list GI) y c hc
 obtain⟨X,hX⟩:∃X,rows.map (aN (.list GI))=X:=⟨_,rfl⟩;have hXl:rows.length=X.length:=by rw[<-hX,List.length_map]
 have f4:kJ (aN GI) H 4 0 7 rows nx 4=some ⟨0,1,X⟩:=by
  unfold kJ;rw[if_pos (by omega),if_neg (by omega),if_pos rfl,<-hX];rfl
 have fo:∀j,j<7->j≠4->kJ (aN GI) H 4 0 7 rows nx j=H j:=fun j h1 h2=>by
  unfold kJ;rw[if_pos (by omega),if_neg (by omega),if_neg h2]
 rw[hX] at flX ⊢;refine⟨fun j=>if j=2 then H 2 else if j=5 then some ⟨0,2,[[.ab false (ps.map (aN Pi)),.ab false X]]⟩ else none,
  (Wk.live _ hT).trans ((hN.lists (by decide) (fun a=>ve GI a) hn (by decide) hx).trans ((Wk.M7 (H':=fun j=>if j=2 then H 2 else if j=5 then some ⟨0,2,[[.own 6 gp 0 ps.length,.ab false X]]⟩ else if j=6 then H 6 else none) f4 (by decide) flX hn (fun q=>.inl rfl) (fun j ck' hj=>?_)).trans
   (Wk.M7 (o:=6) (g:=gp) (sz:=12) (xs:=ps.map (aN Pi)) hS.p (by decide) flP hn (fun q=>.inl rfl) (fun j ck' hj=>?_)))),hS.o,rfl⟩
 ·by_cases e2:j=2
  ·subst e2;exact⟨by omega,by decide,ck',by rw[fo 2 (by decide) (by decide)];exact hj,rfl,rfl,rfl,fun i _ _=>⟨rfl,fun c _ _=>.inl rfl⟩⟩
  ·by_cases e5:j=5
   ·subst e5;have hj:some (Ck.mk 0 2 [[.own 6 gp 0 ps.length,.ab false X]])=some ck':=hj;injection hj with hj;subst hj
    refine⟨by omega,by decide,_,(fo 5 (by decide) (by decide)).trans hS.b,rfl,rfl,rfl,fun i k1 k2=>?_⟩;have:i=0:=by simp at k1;omega
    subst this;refine⟨rfl,fun c k3 k4=>?_⟩;match c,k3,k4 with
    | 0,_,_=>exact .inl rfl
    | 1,_,_=>exact .inr ⟨by rw[<-hXl];rfl,rfl⟩
    | c+2,k3,_=>exact absurd k3 (by simp)
   ·by_cases e6:j=6
    ·subst e6;exact⟨by omega,by decide,ck',by rw[fo 6 (by decide) (by decide)];exact hj,rfl,rfl,rfl,fun i _ _=>⟨rfl,fun c _ _=>.inl rfl⟩⟩
    ·have hj:(if j=2 then H 2 else if j=5 then some (Ck.mk 0 2 [[.own 6 gp 0 ps.length,.ab false X]]) else if j=6 then H 6 else none)=some ck':=hj;rw[if_neg e2,if_neg e5,if_neg e6] at hj;cases hj
 ·by_cases e2:j=2
  ·subst e2;exact⟨by omega,by decide,ck',hj,rfl,rfl,rfl,fun i _ _=>⟨rfl,fun c _ _=>.inl rfl⟩⟩
  ·by_cases e5:j=5
   ·subst e5;have hj:some (Ck.mk 0 2 [[.ab false (ps.map (aN Pi)),.ab false X]])=some ck':=hj;injection hj with hj;subst hj
    refine⟨by omega,by decide,_,rfl,rfl,rfl,rfl,fun i k1 k2=>?_⟩;have:i=0:=by simp at k1;omega
    subst this;refine⟨rfl,fun c k3 k4=>?_⟩;match c,k3,k4 with
    | 0,_,_=>exact .inr ⟨by rw[List.length_map];rfl,rfl⟩
    | 1,_,_=>exact .inl rfl
    | c+2,k3,_=>exact absurd k3 (by simp)
   ·have hj:=hj;rw[if_neg e2,if_neg e5] at hj;cases hj
theorem ag7:ib Tryz.prog 125 181 (fun _:Nat=>false) Y7 [(.cell 4 true 2)]:=ib.mk' Tryz.func125 (by kernel_rfl) (by kernel_rfl) (by kernel_rfl) (by kernel_rfl) (by kernel_rfl)
set_option maxHeartbeats 2000000 in
theorem apc{rest:El Do->Int->Option (Int×Int)}(h:bk Tryz.prog 139 [Do,GI] [Sp] (fun x=>rest x.1 x.2)):bk Tryz.prog 125 [Ai,Se] [Ne] (fun x=>Cl rest x.1 x.2):=by
 rintro⟨a,s⟩ y hm nb;replace hm:Cl rest a s=some y:=hm;have key:de Tryz.prog 125 (fg [Ai,Se] (a,s)) [] 0 (ft (fg [Ne] y)) [] 0:=by
  refine ag7.pure (show Tryz.prog.follows .mixedOrders=true from Tryz.checked.mixed) (by rw[Ij];decide) (px (kr [Ne] y)) fun cx hcx hnb=>?_;unfold Cl at hm;cases hq:(ba a.2.2.length 1 && ba a.2.1.length 1) && (eH 16 (a.1.2.length:Int) (a.1.2.length:Int) && (eH 24 (a.1.2.length:Int) (a.1.2.length:Int) && eH 24 (a.1.1.length:Int) (a.1.1.length:Int))) with
  | false=>rw[hq] at hm;cases hm
  | true=>
  rw[hq,cond_true] at hm;rw[Bool.and_eq_true,Bool.and_eq_true,Bool.and_eq_true,Bool.and_eq_true] at hq;have e1:a.2.2.length*1<=140737488355328/\a.2.2.length<=9223372036854775807:=of_decide_eq_true hq.1.1;have e2:a.2.1.length*1<=140737488355328/\a.2.1.length<=9223372036854775807:=of_decide_eq_true hq.1.2;replace hq:=hq.2;have q1:0<=(a.1.2.length:Int)/\(a.1.2.length:Int)<=a.1.2.length/\(16:Int)*a.1.2.length<=140737488355328/\(a.1.2.length:Int)<=140737488355328:=of_decide_eq_true hq.1;have q2:0<=(a.1.2.length:Int)/\(a.1.2.length:Int)<=a.1.2.length/\(24:Int)*a.1.2.length<=140737488355328/\(a.1.2.length:Int)<=140737488355328:=of_decide_eq_true hq.2.1
  have q3:0<=(a.1.1.length:Int)/\(a.1.1.length:Int)<=a.1.1.length/\(24:Int)*a.1.1.length<=140737488355328/\(a.1.1.length:Int)<=140737488355328:=of_decide_eq_true hq.2.2;obtain⟨rs,hrs,hm⟩:=Option.bind_eq_some_iff.1 hm;obtain⟨fs,hfs,hm⟩:=Option.bind_eq_some_iff.1 hm;obtain⟨n,hn⟩:∃n,a.1.2.length=n:=⟨_,rfl⟩;obtain⟨np,hnp⟩:∃n,a.1.1.length=n:=⟨_,rfl⟩;rw[hn] at q1 q2 hrs hfs;rw[hnp] at q3 hm;refine ar.seq (ar.dL ?_);refine n8 (PR (cs:=aN Ai a) rfl) ?_;refine n8 (PR (cs:=aN Se s) rfl) ?_;refine n8 (xI ..) (dS ?_)
  generalize hH1:Hp.put (Hp.put (Hp.put Hp.emp 0 _) (0+1) _) (0+1+1) _=H1;have a0:H1 0=some ⟨0,4,[aN Ai a]⟩:=by rw[<-hH1];rfl
  have a1:H1 1=some ⟨0,2,[aN Se s]⟩:=by rw[<-hH1];rfl
  have a2:H1 2=some ⟨0,2,[[.ab true [],.ab true []]]⟩:=by rw[<-hH1];rfl
  clear hH1;refine dg (ar.seq (ar.dL ?_));refine rF a0 rfl ?_;refine rF a0 rfl ?_;refine rD (.ab false (a.1.2.map (aN Rd))) a0 rfl rfl ?_;refine cf (tH (f:=false) (xs:=a.1.2.map (aN Rd)) (n:=n) rfl (by rw[List.length_map,hn])) ?_;refine n8 (EJ (l:=n) (c:=n) rfl rfl q1) ?_;rw[Int.toNat_natCast];refine rO rfl ?_;refine dS ?_;generalize hH2:Hp.put H1 (0+1+1+1) _=H2;have b0:DS H2 (aN Ai a) (aN Se s) (List.replicate n (0,0)):=⟨by rw[<-hH2,Hp.aS _ _ _ (by decide)];exact a0,by rw[<-hH2,Hp.aS _ _ _ (by decide)];exact a1,by rw[<-hH2,Hp.aS _ _ _ (by decide)];exact a2,by rw[<-hH2,List.map_replicate];exact Hp.b9 ..⟩
  clear hH2;refine dg (ar.seq (ar.dL ?_));refine rF b0.a rfl ?_;refine rF b0.a rfl ?_;refine rD (.ab false (a.1.2.map (aN Rd))) b0.a rfl rfl ?_;refine cf (tH (f:=false) (xs:=a.1.2.map (aN Rd)) (n:=n) rfl (by rw[List.length_map,hn])) ?_;refine n8 (EJ (l:=n) (c:=n) rfl rfl q2) ?_;rw[Int.toNat_natCast];refine rO rfl ?_;refine dS ?_;generalize hH3:Hp.put H2 (0+1+1+1+1) _=H3;have c0:=b0.af (H':=H3) fun j hj=>by rw[<-hH3,Hp.aS _ _ _ (by omega)]
  have c4:H3 4=some ⟨0,1,List.replicate n [.ab true []]⟩:=by rw[<-hH3];exact Hp.b9 ..
  clear hH3;refine dg (ar.seq (ar.seq (ar.dL ?_)));refine rF c0.a rfl ?_;refine rD (.ab false (a.2.2.map (aN Do))) c0.a rfl rfl ?_;refine cf (tH (f:=false) (xs:=a.2.2.map (aN Do)) (n:=a.2.2.length) rfl (by rw[List.length_map])) ?_;refine rM rfl ?_;refine dS (dg (ar.block (ar.B1 ?_)));refine dB.live [(2,.ptr 0 0 0 0),(3,.ptr 1 0 0 0),(4,.ptr 2 0 0 0),(5,.own 3 0 0 n),(6,.own 4 0 0 n),(27,.ab false (a.2.2.map (aN Do))),(28,I a.2.2.length),(29,I 0)] ⟨rfl,rfl,rfl,rfl,rfl,rfl,rfl,rfl,trivial⟩ ?_;refine avr h (aN Ai a) (.ab false (s.1.map (aN GI))) s.2 a.2.2 n rs H3 _ ?_ ?_ a.2.2 0 (List.replicate n (0,0)) H3 _ rfl (by omega) (by simp) c0 rfl (by omega) hrs
  ·have:=e1.1;omega
  intro T4 H4 nx4 d0 d4 dx dT dl;refine Cf (dg ?_);obtain⟨H5,w5,N5,o5⟩:=fa.start (e:=aN Bl) (sz:=5) (cx:=cx) (T:=T4) (H:=H4) (nx:=nx4) (o:=4) (g:=0) (n:=n) (by omega) (by omega) (d4.trans c4);have f0:=d0.af (H':=H5) fun j hj=>o5 j (by omega) (by omega);refine ar.wk (w5.trans (Wk.live _ dT)) (ar.seq (ar.seq (ar.dL ?_)));refine rF f0.a rfl ?_;refine rD (.ab false (a.2.1.map (aN Fa))) f0.a rfl rfl ?_;refine cf (tH (f:=false) (xs:=a.2.1.map (aN Fa)) (n:=a.2.1.length) rfl (by rw[List.length_map])) ?_;refine rM rfl ?_;refine dS (dg (ar.block (ar.B1 ?_)))
  have rl:(List.replicate n ([]:List (El Bl))).length=n:=by simp
  refine dB.live [(2,.ptr 0 0 0 0),(3,.ptr 1 0 0 0),(4,.ptr 2 0 0 0),(5,.own 3 0 0 n),(6,.own 4 0 0 (List.replicate n ([]:List (El Bl))).length),(65,.ab false (a.2.1.map (aN Fa))),(66,I a.2.1.length),(67,I 0)] ⟨rfl,rfl,rfl,rfl,by rw[rl];rfl,rfl,rfl,rfl,trivial⟩ ?_;refine aci nx4 (aN Ai a) (.ab false (s.2.map (aN GI))) s.1 a.2.1 n rs fs _ (by omega) (by have:=e2.1;omega) ?_ a.2.1 0 (fun _=>0) (List.replicate n []) H5 _ rfl (by omega) f0 N5 (by rw[rl];omega) hfs;intro T6 H6 nx6 gs6 g0 N6 gx gT;refine Cf (dg ?_);obtain⟨t2,t3,t4,t5,t6,_⟩:=gT
  have i4:∀{d:DV},bB (fun _=>False) d->bB (fun j=>j<4) d:=fun h=>h.kF fun _ h=>h.elim;refine ar.wk (N6.freeze (by decide) (fun a=>ve Bl a) (cx:=cx) (t:=6) (n:=0) (nx0:=4) (by omega) (by omega) (by omega) gx t6 (H1:=fun j=>if j<4 then H6 j else none) (fun j ck hj=>?_) (jD [(2,.ptr 0 0 0 0),(4,.ptr 2 0 0 0),(5,.own 3 0 0 n)]) (fun q=>?_)) ?_
  ·by_cases e:j<4
   ·rw[if_pos e] at hj;refine⟨e,hj,?_⟩;match j,e with
    | 0,_=>
     rw[g0.a] at hj;injection hj with hj;subst hj
     intro x hx c hc;rw[List.mem_singleton.1 hx] at hc;exact i4 (ve Ai a c hc)
    | 1,_=>
     rw[g0.s] at hj;injection hj with hj;subst hj
     intro x hx c hc;rw[List.mem_singleton.1 hx] at hc;exact i4 (ve Se s c hc)
    | 2,_=>
     rw[g0.o] at hj;injection hj with hj;subst hj
     intro x hx c hc;rw[List.mem_singleton.1 hx] at hc;simp only[List.mem_cons,List.not_mem_nil,or_false,or_self] at hc;rw[hc];exact .ab _ _ fun y hy=>(by cases hy)
    | 3,_=>
     rw[g0.r] at hj;injection hj with hj;subst hj
     intro x hx c hc;obtain⟨y,_,rfl⟩:=List.mem_map.1 hx;exact i4 (ve Sp y c hc)
   ·rw[if_neg e] at hj;cases hj
  ·by_cases q2':q=2
   ·subst q2';exact .inr ⟨t2.symm,by decide,by rw[t2];exact .ptr _ _ _ _ (by decide)⟩
   ·by_cases q4:q=4
    ·subst q4;exact .inr ⟨t4.symm,by decide,by rw[t4];exact .ptr _ _ _ _ (by decide)⟩
    ·by_cases q5:q=5
     ·subst q5;exact .inr ⟨t5.symm,by decide,by rw[t5];exact .own _ _ _ _ (by decide)⟩
     ·exact .inl (by simp only[jD,cN];rw[if_neg q2',if_neg q4,if_neg q5])
  generalize hH7:(fun j=>if j<4 then H6 j else none)=H7;have k0:H7 0=some ⟨0,4,[aN Ai a]⟩:=by rw[<-hH7];exact g0.a
  have k2:H7 2=some ⟨0,2,[[.ab true [],.ab true []]]⟩:=by rw[<-hH7];exact g0.o
  have k3:H7 3=some ⟨0,2,rs.map (aN Sp)⟩:=by rw[<-hH7];exact g0.r
  clear hH7;refine ar.seq (ar.dL ?_);refine rF k0 rfl ?_;refine rF k0 rfl ?_;refine rD (.ab false (a.1.1.map (aN (.pair GI .bool)))) k0 rfl rfl ?_;refine cf (tH (f:=false) (xs:=a.1.1.map (aN (.pair GI .bool))) (n:=np) rfl (by rw[List.length_map,hnp])) ?_;refine n8 (EJ (l:=np) (c:=np) rfl rfl q3) ?_;rw[Int.toNat_natCast];refine cf (d:=.agg [.ab true [],.own 4 0 0 np]) rfl ?_;refine n8 (xI ..) ?_;refine j7 (jM (o:=5) (g:=0) (i:=0) (f:=0) (cs:=[.ab true [],.own 4 0 0 np]) (ys:=[[.ab true [],.own 4 0 0 np]]) rfl rfl (Hp.b9 ..) rfl rfl rfl) (dS ?_)
  generalize hH8:Hp.put (Hp.put (Hp.put H7 4 _) (4+1) _) 5 _=H8;have l0:H8 0=some ⟨0,4,[aN Ai a]⟩:=by rw[<-hH8,Hp.aS _ _ _ (by decide),Hp.aS _ _ _ (by decide),Hp.aS _ _ _ (by decide)];exact k0
  have l2:H8 2=some ⟨0,2,[[.ab true [],.ab true []]]⟩:=by rw[<-hH8,Hp.aS _ _ _ (by decide),Hp.aS _ _ _ (by decide),Hp.aS _ _ _ (by decide)];exact k2
  have l3:H8 3=some ⟨0,2,rs.map (aN Sp)⟩:=by rw[<-hH8,Hp.aS _ _ _ (by decide),Hp.aS _ _ _ (by decide),Hp.aS _ _ _ (by decide)];exact k3
  have l4:H8 4=some ⟨0,1,List.replicate np [.ab true []]⟩:=by rw[<-hH8,Hp.aS _ _ _ (by decide),Hp.aS _ _ _ (by decide)];exact Hp.b9 ..
  have l5:H8 5=some ⟨0,2,[[.ab true [],.own 4 0 0 np]]⟩:=by rw[<-hH8];exact Hp.b9 ..
  clear hH8;refine dg (dB.gh 12 ?_);refine ar.wk (awo (d:=.own 4 0 0 np) (by omega) (by rw[Hp.aS _ _ _ (by decide)];exact l5) (by decide)) ?_;generalize hH9:iL _ _=H9;have m0:H9 0=some ⟨0,4,[aN Ai a]⟩:=by rw[<-hH9];exact l0
  have m2:H9 2=some ⟨0,2,[[.ab true [],.ab true []]]⟩:=by rw[<-hH9];exact l2
  have m3:H9 3=some ⟨0,2,rs.map (aN Sp)⟩:=by rw[<-hH9];exact l3
  have m4:H9 4=some ⟨0,1,List.replicate np [.ab true []]⟩:=by rw[<-hH9];exact l4
  have m5:H9 5=some ⟨0,2,[[.own 6 0 0 0,.own 4 0 0 np]]⟩:=by rw[<-hH9];rfl
  have m6:H9 6=some ⟨0,12,[]⟩:=by rw[<-hH9];rfl
  clear hH9;obtain⟨H10,w10,N10,o10⟩:=fa.start (e:=aN GI) (sz:=1) (cx:=cx) (T:=cN (cN (cN (cN (cN (cN (cN (cN (jD [(2,.ptr 0 0 0 0),(4,.ptr 2 0 0 0),(5,.own 3 0 0 n)]) 6 (.ab false (fs.map fun r=>[.ab false (r.map (aN Bl))]))) 97 (.ptr 0 0 0 (0+0))) 98 (.ptr 0 0 0 (0+0))) 99 (.ab false (a.1.1.map (aN (.pair GI .bool))))) 100 (I np)) 101 (.own 4 0 0 np)) 102 (.agg [.ab true [],.own 4 0 0 np])) 12 (.ptr (4+1) 0 0 0)) (H:=H9) (nx:=7) (o:=4) (g:=0) (n:=np) (by omega) (by decide) m4;refine ar.wk w10 ?_;have rl2:(List.replicate np ([]:List Int)).length=np:=by simp
  have p0:H10 0=some ⟨0,4,[aN Ai a]⟩:=(o10 0 (by decide) (by decide)).trans m0;have pS:DR H10 rs [] 0 (List.replicate np ([]:List Int)).length:=⟨(o10 2 (by decide) (by decide)).trans m2,(o10 3 (by decide) (by decide)).trans m3,by rw[rl2];exact(o10 5 (by decide) (by decide)).trans m5,(o10 6 (by decide) (by decide)).trans m6⟩;refine ar.seq (ar.seq (ar.dL ?_));refine rF p0 rfl ?_;refine rF p0 rfl ?_;refine rD (.ab false (a.1.2.map (aN Rd))) p0 rfl rfl ?_;refine cf (tH (f:=false) (xs:=a.1.2.map (aN Rd)) (n:=a.1.2.length) rfl (by rw[List.length_map])) ?_
  refine rM rfl ?_;refine dS (dg (ar.block (ar.B1 ?_)));refine dB.live [(4,.ptr 2 0 0 0),(5,.own 3 0 0 n),(6,.ab false (fs.map (aN (.list Bl)))),(12,.ptr 5 0 0 0),(105,.ab false (a.1.2.map (aN Rd))),(106,I a.1.2.length),(107,I 0)] ⟨rfl,rfl,rfl,rfl,rfl,rfl,rfl,trivial⟩ ?_;refine aqe a.1.2 n rs fs y _ dl (by omega) ?_ a.1.2 0 (fun _=>0) 0 [] (List.replicate np []) H10 _ rfl (by omega) pS N10 (by rw[rl2];omega) hm;intro T11 H11 nx11 gs11 gp11 r0 N11 rx rT;refine Cf (dg ?_);obtain⟨H12,w12,z2,z5⟩:=aog (cx:=cx) (by omega) r0 N11 rx rT
  refine ar.wk w12 (ar.seq (ar.dL ?_));refine rE ([.ab false (y.1.map (aN Pi)),.ab false (y.2.map (aN (.list GI)))]) z5 rfl rfl rfl ?_;refine j7 (jM (o:=2) (g:=0) (i:=0) (f:=0) (cs:=[.ab false (y.1.map (aN Pi)),.ab false (y.2.map (aN (.list GI)))]) (ys:=[[.ab false (y.1.map (aN Pi)),.ab false (y.2.map (aN (.list GI)))]]) rfl rfl z2 rfl rfl rfl) (dS ?_);refine dg (ar.ret ?_);refine⟨.inr rfl,⟨[jq Ne y],rfl,rfl⟩,fun o ck h=>(by cases h)⟩
 exact key.Ns (kr [Ai,Se] (a,s)) (px (kr [Ne] y)) nb
end M
end Go.Proofs.YtgmpjkgogjkfcaaGreat
