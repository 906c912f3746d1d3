/- Rules by which one operation is reckoned at once, loops by unrolling, states cut down to what lives. No condition of its own: over any program. -/
import Derived.Test.YtgmpjkgogjkfcaaGreatC
import Derived.ProofKit
set_option linter.all false
namespace Go.Pv
open Go.RowKit
abbrev Rd(W:World):DV->Value->Prop:=VR Hp.emp (fun _=>none) (fun _=>False) 0 W
theorem Lq(b:Nat):¬Live Hp.emp (fun _=>none) b:=fun⟨_,_,_,h,_,_⟩=>by cases h
theorem de.outer{P:Program}{f:FuncId}{args:List DV}{r:Value}{nx':Nat}(h:de P f args [] 0 (.v r) [] nx'){W:World}(hgl:iV P W fun _=>False){cargs:Array Value}(hl:cargs.size=args.length)
  (ha:∀j (hj:j<args.length),Rd W args[j] (cargs.getD j undef)):Calls P f cargs W fun e W'=>e=.returned r/\Below W.heap.size W W':=by
 refine(h.run (fun _=>False) (fun _=>none) W cargs ⟨fun o ck h=>(by cases h),fun o ck h=>(by cases h),fun o o' ck ck' p p' h=>(by cases h),fun b h=>h.elim,fun o ck p h=>(by cases h)⟩ hl ha (hgl.less fun b hb=>(Lq b hb).elim)).mono ?_;rintro e W' ⟨v,ps',rfl,hv,_,fr,_,_⟩;cases hv;exact⟨rfl,fr.os,fr.tape,fr.output,fr.size,fun k hk=>fr.block k hk (Lq k)⟩
theorem Rd.i(W:World)(n:Int):Rd W (I n) (.int .i64 n):=.v _
theorem Rd.b(W:World)(b:Bool):Rd W (B b) (.bool b):=.v _
section ge
variable {p q:Bool} {T:Nat->DV} {H:Hp} {nx:Nat} {x y z:RO}
theorem LO{k:IntKind}{a:Int}(h:un p (x.get T)=.v (.int k a)):ev (.bS x) p T H nx=some (.v (.int k a),.no):=by rw[OP,h]
theorem aaj{f:Bool}{xs:List (List DV)}(h:un p (x.get T)=.ab f xs):ev (.bS x) p T H nx=some (.ab f xs,.no):=by rw[OP,h]
theorem wB{o g i f:Nat}(h:un p (x.get T)=.own o g i f):ev (.bS x) p T H nx=some (.own o g i f,.no):=by rw[OP,h]
section bin
variable {a b:Int} {k:IntKind}
theorem sU(hx:un p (x.get T)=.v (.int k a))(hy:un p (y.get T)=.v (.int k b)):ev (.bin .lss x y) p T H nx=some (B (decide (a<b)),.no):=by rw[tv,hx,hy,alr];rfl
theorem avz(hx:un p (x.get T)=.v (.int k a))(hy:un p (y.get T)=.v (.int k b)):ev (.bin .neq x y) p T H nx=some (B (a !=b),.no):=by rw[tv,hx,hy,aiy];rfl
theorem WW(hx:un p (x.get T)=I a)(hy:un p (y.get T)=I b):ev (.bin .add x y) p T H nx=some (I (IntKind.i64.wrap (a+b)),.no):=by rw[tv,hx,hy,axp];rfl
theorem alw{c:Bool}(hx:un p (x.get T)=B c):ev (.un .not x) p T H nx=some (B (!c),.no):=by rw[aft,hx,aeg];rfl
end bin
theorem PR{cs:List DV}(h:hJ (un p (x.get T))=some cs):ev (.box x) p T H nx=some (.ptr nx 0 0 0,.al ⟨0,cs.length,[cs]⟩):=by rw[Zi,h];rfl
theorem VE{c:DV}{cs:List DV}(h:un p (x.get T)=.rp (c::cs)):ev (.load false 1 x) p T H nx=some (c,.no):=by rw[Nz,h];simp[jK]
theorem jo{o g i f sz:Nat}{xs:List (List DV)}{c:DV}(h:un p (x.get T)=.ptr o g i f)(hH:H o=some ⟨g,sz,xs⟩)(hc:(xs.getD i [])[f]? =some c):ev (.load false 1 x) p T H nx=some (c,.no):=by
 obtain⟨hl,hc⟩:=List.getElem?_eq_some_iff.1 hc;have hd:((xs.getD i []).drop f).head? =some c:=by rw[List.head?_drop,List.getElem?_eq_getElem hl,hc]
 rw[Nz,h];simp only[jK,hH];rw[if_pos ⟨trivial,by omega⟩,hd];rfl
theorem W5{o g i f n sz:Nat}{xs:List (List DV)}{cs:List DV}(h:un p (x.get T)=.ptr o g i f)(hH:H o=some ⟨g,sz,xs⟩)(hn:(f+n).ble (xs.getD i []).length=true)(hc:((xs.getD i []).drop f).take n=cs):ev (.load true n x) p T H nx=some (.agg cs,.no):=by
 rw[Nz,h];simp only[jK,hH];rw[if_pos ⟨trivial,Nat.le_of_ble_eq_true hn⟩,hc];rfl
theorem j5{off o g i f sz:Nat}{xs:List (List DV)}(h:un p (x.get T)=.ptr o g i f)(hH:H o=some ⟨g,sz,xs⟩):ev (.bO off x) p T H nx=some (.ptr o g i (f+off),.no):=by
 rw[at5,h];simp[OB,live,hH]
theorem jM{o g i f n sz:Nat}{xs:List (List DV)}{cs:List DV}{ys:List (List DV)}(h:un p (x.get T)=.ptr o g i f)(hd:hJ (un p (y.get T))=some cs)(hH:H o=some ⟨g,sz,xs⟩)(hl:cs.length=n)(hn:(f+n).ble (xs.getD i []).length=true)
  (hy:xs.set i (eF (xs.getD i []) f cs)=ys):ev (.store n x y) p T H nx=some (.v undef,.wr o ⟨g,sz,ys⟩):=by
 rw[axt,h];simp only[nU,hd,hH];rw[if_pos ⟨trivial,hl,Nat.le_of_ble_eq_true hn⟩,hy];rfl
end ge
section tq
variable {K:St->Prop} {Q:Exit->St->Prop} {s:St} {id id':Nat}
theorem dg(h:K s):oW K Q .normal s:=h
theorem qK(h:Q (.exit id) s):oW K Q (.exit id) s:=h
theorem xP(h:Q .normal s):uX id Q .normal s:=h
theorem Cf(h:Q .normal s):uX id Q (.exit id) s:=by simp only[uX,if_true];exact h
end tq
section trim
variable {P:Program} {cx:Cx} {ow:Nat->Bool} {Q:Exit->St->Prop}
def jD:List (Nat×DV)->Nat->DV
 | []=>fun _=>.any
 | x::r=>cN (jD r) x.1 x.2
def Cs:List (Nat×Ck)->Hp
 | []=>Hp.emp
 | x::r=>(Cs r).put x.1 (some x.2)
def Has(T:Nat->DV):List (Nat×DV)->Prop
 | []=>True
 | x::r=>T x.1=x.2/\Has T r
theorem Has.mk{T:Nat->DV}:∀{l:List (Nat×DV)},Has T l->∀t,jD l t=.any\/jD l t=T t
 | [],_,t=>.inl rfl
 | x::r,h,t=>by
  by_cases e:t=x.1
  ·subst e;right;simp only[jD,cN,if_true];exact h.1.symm
  ·simp only[jD,cN,if_neg e];exact Has.mk h.2 t
theorem Wk.refl(cx:Cx)(s:St):Wk cx s s:=fun ps _ _ R=>⟨ps,R⟩
theorem Wk.trans{s s' s'':St}(h:Wk cx s s')(k:Wk cx s' s''):Wk cx s s'':=fun ps a w R=>by
 obtain⟨ps',R'⟩:=h ps a w R;exact k ps' a w R'
theorem Wk.trim{T T':Nat->DV}{H:Hp}{nx:Nat}(h:∀t,T' t=.any\/T' t=T t):Wk cx ⟨T,H,nx⟩ ⟨T',H,nx⟩:=fun ps a w R=>
 ⟨ps,⟨fun t=>(h t).elim (fun e=>by show VR _ _ _ _ _ (T' t) _;rw[e];exact .any _) (fun e=>by show VR _ _ _ _ _ (T' t) _;rw[e];exact R.t t),R.nt,R.hr,R.fr,R.lb,R.df,R.iP,R.gm,R.fz⟩⟩
theorem Wk.live{T:Nat->DV}{H:Hp}{nx:Nat}(l:List (Nat×DV))(h:Has T l):Wk cx ⟨T,H,nx⟩ ⟨jD l,H,nx⟩:=Wk.trim h.mk
theorem ar.live{ac:AC}{T:Nat->DV}{H:Hp}{nx:Nat}(l:List (Nat×DV))(h:Has T l)(k:ar P cx ow ac Q ⟨jD l,H,nx⟩):ar P cx ow ac Q ⟨T,H,nx⟩:=ar.wk (Wk.live l h) k
def dB(P:Program)(cx:Cx)(ow:Nat->Bool)(x:AC)(Q:Exit->St->Prop)(s:St):Prop:=
 Hm P cx->∀c,comp P cx.nt ow c=some x->x.qV cx.fz->∀ps a w,RS cx s ps a w->∀(b:Frame) (k:List Item) (cs:List Frame),b.roundOf=cx.ro->
  ∃e a' w',(∃s' ps',RS cx s' ps' a' w'/\Q e s')/\ArrivesIn (Machine.fenced P (FR cx.ro)) P (lone (b.atR a (.code c::.inLoop c::k)) cs w) b k cs e a' w'
theorem dB.wk{x:AC}{s s':St}(h:Wk cx s s')(k:dB P cx ow x Q s'):dB P cx ow x Q s:=fun hm c hc hz ps a w R=>by
 obtain⟨ps',R'⟩:=h ps a w R;exact k hm c hc hz ps' a w R'
theorem dB.live{x:AC}{T:Nat->DV}{H:Hp}{nx:Nat}(l:List (Nat×DV))(h:Has T l)(k:dB P cx ow x Q ⟨jD l,H,nx⟩):dB P cx ow x Q ⟨T,H,nx⟩:=dB.wk (Wk.live l h) k
theorem OS{ro:Option Nat}(n:Nat):(FR ro).room n:=fun d h=>by cases h
theorem dB.P7{x:AC}{s:St}(h:ar P cx ow x (oW (fun s'=>dB P cx ow x Q s') Q) s):dB P cx ow x Q s:=fun hm c1 h1 hz ps a w R b k cs hro=>by
 obtain⟨e,a₁,w₁,⟨s₁,ps₁,R₁,hq⟩,harr⟩:=h hm c1 h1 hz ps a w R b (.inLoop c1::k) cs hro trivial (OS _);cases e with
 | normal=>
  obtain⟨e₂,a₂,w₂,hq₂,harr₂⟩:=hq hm c1 h1 hz ps₁ a₁ w₁ R₁ b k cs hro;exact⟨e₂,a₂,w₂,hq₂,.of_steps (StepsIn.trans harr (.one (fenced_calm (F:=FR cx.ro) (n:=0) trivial (OS _) rfl) stepR_inLoop)) harr₂⟩
 | exit id=>exact⟨_,a₁,w₁,⟨s₁,ps₁,R₁,hq⟩,.pass (x:=.inLoop c1) rfl (fun _ _=>.inl (by simp)) harr⟩
 | goto l=>exact⟨_,a₁,w₁,⟨s₁,ps₁,R₁,hq⟩,.pass (x:=.inLoop c1) rfl (fun _ _=>.inl (by simp)) harr⟩
 | ret=>exact⟨_,a₁,w₁,⟨s₁,ps₁,R₁,hq⟩,.pass (x:=.inLoop c1) rfl (fun _ _=>.inl (by simp)) harr⟩
 | panic ch=>exact⟨_,a₁,w₁,⟨s₁,ps₁,R₁,hq⟩,.pass (x:=.inLoop c1) rfl (fun _ _=>.inl (by simp)) harr⟩
 | outgrown=>exact⟨_,a₁,w₁,⟨s₁,ps₁,R₁,hq⟩,.pass (x:=.inLoop c1) rfl (fun _ _=>.inl (by simp)) harr⟩
theorem ar.B1{x:AC}{s:St}(h:dB P cx ow x Q s):ar P cx ow (.loop x) Q s:=fun hm c hc hz ps a w R=>by
 cases c with
 | loop c1=>
  simp only[comp] at hc;split at hc
  ·rename_i x' h1;injection hc with hc;injection hc with e1;subst e1
   intro b k cs hro _ _;obtain⟨e,a',w',hq,harr⟩:=h hm c1 h1 hz ps a w R b k cs hro;exact⟨e,a',w',hq,.of_steps (.one (fenced_calm (n:=0) trivial (OS _) rfl) stepR_loop) harr⟩
  ·cases hc
 | _=>exfalso;simp only[comp] at hc;revert hc;(repeat' split)<;>simp
theorem dB.tp{x y:AC}{s:St}(e:x=y)(h:ar P cx ow y (oW (fun s'=>dB P cx ow x Q s') Q) s):dB P cx ow x Q s:=dB.P7 (by rw[e] at h ⊢;exact h)
theorem ar.vH{c:RO}{x y:AC}{s:St}{b:Bool}(hb:c.get s.T=.v (.bool b))(h:b=true)(k:ar P cx ow x Q s):ar P cx ow (.cond c x y) Q s:=ar.cond hb (fun _=>k) (fun e=>by rw[h] at e;cases e)
theorem ar.vn{c:RO}{x y:AC}{s:St}{b:Bool}(hb:c.get s.T=.v (.bool b))(h:b=false)(k:ar P cx ow y Q s):ar P cx ow (.cond c x y) Q s:=ar.cond hb (fun e=>by rw[h] at e;cases e) (fun _=>k)
end trim
section more
variable {p q:Bool} {T:Nat->DV} {H:Hp} {nx:Nat} {x y z:RO}
theorem xo{sz:Nat}{z:List DV}{len:Nat}{ps:List (Nat×RO)}{xs:List (List DV)}(h:jE (fun x:RO=>un p (x.get T)) sz (List.replicate len z) ps=some xs):ev (.g9 false sz z len ps) p T H nx=some (.ab true xs,.no):=by rw[ayr,h];rfl
theorem tH{f:Bool}{xs:List (List DV)}{n:Int}(h:un p (x.get T)=.ab f xs)(hn:(xs.length:Int)=n):ev (.len x) p T H nx=some (I n,.no):=by rw[Qy,h,<-hn];rfl
theorem at6{o g lo n:Nat}{ck:Ck}(h:un p (x.get T)=.own o g lo n)(hH:H o=some ck)(hg:ck.gen=g):ev (.len x) p T H nx=some (I n,.no):=by rw[Qy,h];simp[mT,live,hH,hg]
theorem M8{f:Bool}{xs:List (List DV)}{n:Int}{sz:Nat}{cs:List DV}(h:un p (x.get T)=.ab f xs)(hi:un p (y.get T)=I n)(h0:0<=n)(hl:n<xs.length)(hc:xs.getD n.toNat []=cs)(hs:cs.length=sz):ev (.cP sz x y) p T H nx=some (.rp cs,.no):=by
 rw[UL,h,hi];simp only[EZ];rw[if_pos ⟨h0,hl,by rw[hc];exact hs⟩,hc]
theorem ar1{o g lo k:Nat}{n:Int}{sz:Nat}{xs:List (List DV)}(h:un p (x.get T)=.own o g lo k)(hi:un p (y.get T)=I n)(hH:H o=some ⟨g,sz,xs⟩)(h0:0<=n)(hl:n<k):ev (.cP sz x y) p T H nx=some (.ptr o g (lo+n.toNat) 0,.no):=by
 rw[UL,h,hi];simp only[EZ,hH];rw[if_pos ⟨trivial,trivial,h0,hl⟩]
end more
section sets
end sets
end Go.Pv
