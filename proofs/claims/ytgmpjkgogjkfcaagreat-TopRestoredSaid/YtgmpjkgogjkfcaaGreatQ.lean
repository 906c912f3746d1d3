/- Over any script each closing stands behind what was agreed. No condition of its own. -/
import Derived.Test.YtgmpjkgogjkfcaaGreatL
set_option linter.all false
namespace Go.Proofs.YtgmpjkgogjkfcaaGreat
open Go.Pv M
noncomputable section
structure Vw (i:Nat) (t:Int) (x:bV):Prop where
 a:-1<=x.1/\x.1<i
 s:0<=x.2.1/\x.2.1<=t
 h:-1<=x.2.2.1/\x.2.2.1<=1
 l:x.2.2.2.2=true->x.2.2.2.1=false/\x.2.2.1≠-1
structure eO (z:List Int) (r:Int) (t:Int) (f:cz):Prop where
 n:f.1.length<=32
 w:∀i,i<f.1.length->Vw i t (f.1.getD i bM)
 ze:f.2.1=z
 re:f.2.2=r
structure gM (n:Nat) (z:List Int) (r:Int):Prop where
 zn:z.length<=16
 zi:fI n z
 zd:∀i j,i<j->j<z.length->z.getD i 0≠z.getD j 0
 r:1<=r/\r<=100000
theorem ahg{n:Nat}{z:List Int}{r:Int}(h:gM n z r)(sws:List bV)(hn:sws.length=n)(z2:List Int):∀(f:Nat) (k:Int) (tk:List Bool),0<=k->z.length<f+k->k<=z.length->tk.length=n->(∀j,k.toNat<=j->j<z.length->tk.getD (z.getD j 0).toNat false=false)->P (I2 1000 f z z.length k sws z2 r tk) Z0:=by
 have hz:=h.zn;have hr:=h.r;intro f;induction f with
 | zero=>intros;omega
 | succ f ih=>
  intro k tk h0 h1 h2 h3 h4;rw[aon,au (by omega) (by omega)];refine P.dec (fun hk=>?_) (fun hk=>by repeat' first | with_reducible (first | refine P.aA ?_ ?_ | refine P.fits ?_ (by decide) ?_ | refine P.mk ?_ (by decide) ?_ | refine P.sl ?_ ?_ | exact P.some trivial | exact P.some rfl | refine P.dec ?_ ?_ | refine P.beq ?_ ?_ | refine P.bne ?_ ?_ | refine P.not ?_ ?_ | refine P.bool ?_ ?_ | intro hw) | omega);have hx:=h.zi.get (k:=k.toNat) (by omega);have hf:=h4 k.toNat (by omega) (by omega);refine P.aA (by omega) (P.dec (fun _=>by omega) fun _=>P.dec (fun _=>by omega) fun _=>P.aA (by omega) ?_)
  rw[hf,cond_false];refine P.aA (by omega) (ih _ _ (by omega) (by omega) (by omega) (by rw[List.length_set];exact h3) fun j hj hj2=>?_);rw[jh,if_neg]
  ·exact h4 j (by omega) hj2
  ·intro e;have:=h.zd k.toNat j (by omega) hj2;have:=h.zi.get hj2;omega
theorem ata{z:List Int}{r t:Int}(ht:t<=2147483648){f:cz}(hf:eO z r t f)(h:gM f.1.length z r):∀(n:Nat) (k:Int),0<=k->f.1.length<n+k->k<=f.1.length->P (A5 1000 n f.1 f.1.length k f.1 f.2.1 f.2.2) Z0:=by
 have hn:=hf.n;have hz:=h.zn;intro n;induction n with
 | zero=>intros;omega
 | succ n ih=>
  intro k h0 h1 h2;rw[ayc,au (by omega) (by omega)];refine P.dec (fun hk=>?_) (fun hk=>P.mk (by omega) (by omega) ?_)
  ·obtain⟨w1,w2,w3,w4⟩:=hf.w k.toNat (by omega);refine P.aA (by omega) ?_;dsimp only;refine P.dec (fun _=>by omega) fun _=>P.dec (fun _=>by omega) fun _=>P.dec (fun _=>by omega) fun _=>P.dec (fun _=>by omega) fun _=>P.dec (fun _=>by omega) fun _=>P.dec (fun _=>by omega) fun _=>P.bool (fun e=>?_) fun _=>ih _ (by omega) (by omega) (by omega);obtain⟨e1,e2⟩:=w4 e;exact P.bool (fun e3=>by rw[e1] at e3;cases e3) fun _=>P.beq (fun e4=>absurd e4 e2) fun _=>ih _ (by omega) (by omega) (by omega)
  ·rw[hf.ze,hf.re];refine ahg h f.1 rfl z 1000 0 _ (by omega) (by omega) (by omega) (by simp) fun j _ _=>?_;rw[List.getD_eq_getElem?_getD,List.getElem?_replicate];split<;>rfl
theorem uP{z:List Int}{r t:Int}(ht:t<=2147483648){f:cz}(hf:eO z r t f)(h:gM f.1.length z r):oj 1000 f=some 0:=by
 suffices h:P (oj 1000 f) Z0 by obtain⟨_,e,rfl⟩:=h;exact e
 have hn:=hf.n;have hz:=h.zn;have:=hf.ze;unfold oj;rw[df (by omega),df (by rw[this];omega),arf];exact ata ht hf h 1000 0 (by omega) (by omega) (by omega)
theorem amm(t:Int)(l:List bV)(hl:l.length<=900)(h:∀i,i<l.length->(l.getD i bM).2.1<=t):∀(f:Nat) (k:Int),0<=k->l.length<f+k->k<=l.length->P (DC 1000 f t l l.length k) fun r=>r=true:=by
 intro f;induction f with
 | zero=>intros;omega
 | succ f ih=>
  intro k h0 h1 h2;rw[auv,au (by omega) (by omega)];refine P.dec (fun hk=>?_) (fun hk=>P.some rfl);have:=h k.toNat (by omega);exact P.aA (by omega) (P.dec (fun _=>by omega) fun _=>ih _ (by omega) (by omega) (by omega))
theorem Qc{z:List Int}{r t:Int}(ht:0<=t/\t<=2147483648){f:cz}(hf:eO z r t f):AI 1000 f t=some true:=by
 have hn:=hf.n;unfold AI;rw[df (by omega),df (by omega)];obtain⟨_,e,rfl⟩:=amm t f.1 (by omega) (fun i hi=>(hf.w i hi).s.2) 1000 0 (by omega) (by omega) (by omega);exact e
theorem Q8{z:List Int}{r t:Int}(ht:0<=t/\t<=2147483648){f:cz}(hf:eO z r t f)(h:gM f.1.length z r){s:Int}(hs:0<=s/\s<f.1.length):A8 1000 f s t=some 0:=by
 unfold A8;rw[uP ht.2 hf h,bH,Qc ht hf];rw[df (by omega),df (by omega)];rfl
theorem Ig{z:List Int}{r t:Int}{f:cz}(hf:eO z r t f)(h:gM f.1.length z r):q9 1000 f=some (f,()):=by
 have hn:=hf.n;have hz:=h.zn;have:=hf.ze;unfold q9;rw[eG (by omega) (by omega),eG (by rw[this];omega) (by omega)]
def qU(t:Int)(x:bV):bV:=(x.1,(t,(0,(false,false))))
theorem Wx{f:cz}{s:Int}(hs:0<=s/\s<f.1.length)(t:Int):yl 1000 f s t=some (bif(f.1.getD s.toNat bM).2.2.2.1 then(true,(f.1.set s.toNat (qU t (f.1.getD s.toNat bM)),(f.2.1,0))) else(false,(f.1,(f.2.1,0)))):=by
 unfold yl;rw[fN hs,cond_true];have hl:s.toNat<f.1.length:=by omega
 have g:∀y:bV,(f.1.set s.toNat y).getD s.toNat bM=y:=fun y=>by rw[jh,if_pos ⟨rfl,hl⟩]
 cases e:(f.1.getD s.toNat bM).2.2.2.1 with
 | false=>rfl
 | true=>
  simp only[List.set_set,g,Bool.not_true,cond_false,cond_true];rfl
def ko(x:bV):Nat:=bif x.2.2.2.1 then 2 else if x.2.2.1≠-1/\x.2.2.2.2=false then 1 else 0
def jd(l:List bV):Nat:=(l.map ko).sum
theorem wh(y:bV):∀(l:List bV) (i:Nat),i<l.length->jd (l.set i y)+ko (l.getD i bM)=jd l+ko y
 | [],i,h=>absurd h (by simp)
 | x::l,0,h=>by
  simp only[jd,List.set_cons_zero,List.map_cons,List.sum_cons,List.getD_cons_zero];omega
 | x::l,i+1,h=>by
  have:=wh y l i (by simpa using h);simp only[jd,List.set_cons_succ,List.map_cons,List.sum_cons,List.getD_cons_succ] at*;omega
theorem apm(x:bV):ko x<=2:=by
 unfold ko;cases x.2.2.2.1
 ·simp only[cond_false];split<;>omega
 ·simp only[cond_true];omega
theorem FY:∀l:List bV,jd l<=2*l.length
 | []=>Nat.le_refl _
 | x::l=>by
  have:=FY l;have:=apm x;simp only[jd,List.map_cons,List.sum_cons,List.length_cons] at*;omega
theorem eO.set{z:List Int}{r t:Int}{f:cz}(hf:eO z r t f){i:Nat}{y:bV}(hy:Vw i t y):eO z r t (f.1.set i y,f.2):=by
 refine⟨by rw[List.length_set];exact hf.n,fun j hj=>?_,hf.ze,hf.re⟩;rw[List.length_set] at hj;rw[jh];split
 ·rename_i e;rw[<-e.1];exact hy
 ·exact hf.w j hj
theorem eO.mono{z:List Int}{r t t':Int}{f:cz}(hf:eO z r t f)(h:t<=t'):eO z r t' f:=
 ⟨hf.n,fun i hi=>by obtain⟨a,b,c,d⟩:=hf.w i hi;exact⟨a,by omega,c,d⟩,hf.ze,hf.re⟩
theorem OI{i:Nat}{t:Int}{x:bV}(h:Vw i t x)(ht:0<=t):Vw i t (qU t x):=⟨h.a,⟨ht,Int.le_refl _⟩,⟨show -1<=(0:Int) by decide,show(0:Int)<=1 by decide⟩,fun e=>by cases e⟩
theorem DK{α:Type}{l l':List bV}{z:List Int}{x x':Int}{o:Option (α×cz)}{a:α}(ho:o=some (a,(l',(z,x'))))(h:l'.length=l.length):jr (.p (.a di) (.p (.a (.int .i64)) (.v (.int .i64)))) (l,(z,x)) o=some (a,(l',(z,x'))):=by
 have hb:mV (.p (.a di) (.p (.a (.int .i64)) (.v (.int .i64)))) (l,(z,x)) (l',(z,x'))=true:=by
  show(Nat.beq l.length l'.length && (Nat.beq z.length z.length && true))=true;rw[h,Nat.beq_refl,Nat.beq_refl];rfl
 subst ho;unfold jr;show(bif mV (.p (.a di) (.p (.a (.int .i64)) (.v (.int .i64)))) (l,(z,x)) (l',(z,x')) then some (a,(l',(z,x'))) else none)=some (a,(l',(z,x')));rw[hb];rfl
theorem Ss{z:List Int}{r t:Int}(ht:0<=t/\t<=2147483648){f:cz}(hf:eO z r t f)(h:gM f.1.length z r){s:Int}(hs:0<=s/\s<f.1.length):zS 1000 f s t=some ((bif(f.1.getD s.toNat bM).2.2.2.1 then f.1.set s.toNat (qU t (f.1.getD s.toNat bM)) else f.1,f.2),0):=by
 unfold zS;rw[Q8 ht hf h hs,bH,Ig hf h];show Option.bind (jr (.p (.a di) (.p (.a (.int .i64)) (.v (.int .i64)))) (f.1,(f.2.1,f.2.2)) (yl 1000 f s t)) (fun r3=>some ((r3.2.1,(r3.2.2.1,f.2.2)),0))=_;have e:=Wx hs t;cases hb:(f.1.getD s.toNat bM).2.2.2.1 with
 | false=>
  rw[hb,cond_false] at e;rw[DK e rfl];rfl
 | true=>
  rw[hb,cond_true] at e;rw[DK e (by simp)];rfl
theorem QV{x:bV}(h:x.2.2.2.1=true)(t:Int):ko (qU t x)+1=ko x:=by
 unfold ko qU;rw[h];rfl
structure Tk (z:List Int) (r t:Int) (p n:Nat) (sws:List bV) (late opened:List Int):Prop where
 v:eO z r t (sws,(z,r))
 n:sws.length=n
 p:jd sws+late.length+opened.length=p
theorem auh{z:List Int}{r t:Int}(ht:0<=t/\t<=2147483648){p n:Nat}(hz:gM n z r)(hp:p<=64)(x7:List bV)(x8:List Int):∀(f:Nat) (k:Int) (late opened:List Int) (sws:List bV),-1<=k->k<n->k+1<f->Tk z r t p n sws late opened->
  P (tw 1000 f t k x7 x8 r 0 r late opened sws z) fun o=>o.2.2.2=0/\Tk z r t p n o.1.1 o.2.1 o.2.2.1/\o.1.2=(z,r):=by
 intro f;induction f with
 | zero=>intros;omega
 | succ f ih=>
  intro k late opened sws h0 h1 h2 h3;obtain⟨v1,v2,v3⟩:=id h3;have hn:sws.length<=32:=v1.n;rw[ah0,au (n:=k-1) (by omega) (by omega)];refine P.dec (fun hk=>?_) (fun hk=>P.some ⟨rfl,h3,rfl⟩);have hl:k.toNat<sws.length:=by omega
  have hw:=v1.w k.toNat hl;have hw:Vw k.toNat t (sws.getD k.toNat bM):=hw;have next:=fun la op s (hs:Tk z r t p n s la op)=>ih (k-1) la op s (by omega) (by omega) (by omega) hs;refine P.aA (by omega) ?_;unfold MM;generalize hx:sws.getD k.toNat bM=x at*;have wt:P (bif !x.2.2.2.1 then bif x.2.2.1 !=-1 then some (!x.2.2.2.2) else some false else some false) fun b=>b=true->ko x=1/\x.2.2.2.1=false/\x.2.2.1≠-1:=by
   unfold ko;refine P.not (fun e1=>P.bne (fun e2=>P.some fun e3=>?_) fun _=>P.some fun e=>by cases e) fun _=>P.some fun e=>by cases e
   rw[e1,cond_false,if_pos ⟨e2,by simpa using e3⟩];exact⟨rfl,rfl,e2⟩
  refine P.call wt fun b hb=>P.not (fun _=>next _ _ _ h3) fun e=>P.dec (fun _=>next _ _ _ h3) fun _=>?_;obtain⟨hph,hcl,hsh⟩:=hb e;have g:∀y:bV,(sws.set k.toNat y).getD k.toNat bM=y:=fun y=>by rw[jh,if_pos ⟨rfl,hl⟩]
  dsimp only;rw[g];generalize hy:((x.1,(x.2.1,(x.2.2.1,(x.2.2.2.1,true)))):bV)=y;have hyv:Vw k.toNat t y:=by
   subst hy;exact⟨hw.a,hw.s,hw.h,fun _=>⟨hcl,hsh⟩⟩
  have hyp:ko y=0:=by
   subst hy;unfold ko;rw[show((x.1,(x.2.1,(x.2.2.1,(x.2.2.2.1,true)))):bV).2.2.2.1=x.2.2.2.1 from rfl,hcl];simp
  have hps:=wh y sws k.toNat hl;rw[hx,hph,hyp] at hps;have ht1:Tk z r t p n (sws.set k.toNat y) (late++[k]) opened:=⟨v1.set hyv,by rw[List.length_set];exact v2,by rw[List.length_append,List.length_singleton];omega⟩;refine P.fits (by omega) (by omega) (P.dec (fun hy0=>?_) fun _=>next _ _ _ ht1);have hya:=hyv.a;have hs2:(sws.set k.toNat y).length=sws.length:=List.length_set;have hj:0<=y.1/\y.1<(sws.set k.toNat y).length:=by omega
  have eo:=Wx (f:=(sws.set k.toNat y,(z,r))) hj t;generalize hq:(sws.set k.toNat y).getD y.1.toNat bM=q at eo;cases hc:q.2.2.2.1 with
  | false=>
   rw[hc,cond_false] at eo;refine P.bind (DK eo rfl) ?_;simp only[cond_false];exact next _ _ _ ht1
  | true=>
   rw[hc,cond_true] at eo;refine P.bind (DK eo (by simp)) ?_;simp only[cond_true];have hq2:=wh (qU t q) (sws.set k.toNat y) y.1.toNat (by omega);rw[hq] at hq2;have:=QV hc t;have hqv:Vw y.1.toNat t q:=by
    have:=ht1.v.w y.1.toNat (by show _<(sws.set k.toNat y).length;omega);rw[<-hq];exact this
   refine P.fits (by omega) (by omega) (next _ _ _ ⟨ht1.v.set (OI hqv ht.1),by rw[List.length_set];omega,?_⟩);rw[List.length_append,List.length_append,List.length_singleton,List.length_singleton];omega
theorem ak4{z:List Int}{r t:Int}(ht:0<=t/\t<=2147483648){f:cz}(hf:eO z r t f)(h:gM f.1.length z r):P (GL 1000 f t) fun o=>o.2.2.2=0/\Tk z r t (jd f.1) f.1.length o.1.1 o.2.1 o.2.2.1/\o.1.2=(z,r):=by
 have hn:=hf.n;have:=FY f.1;obtain⟨l,z',r'⟩:=f;have h1:=hf.ze;have h2:=hf.re;subst h1;subst h2;unfold GL;rw[uP ht.2 hf h,bH,Qc ht hf];refine P.bne (fun e=>absurd rfl e) fun _=>P.bind rfl ?_;refine P.not (fun e=>by cases e) fun _=>?_;rw[Ig hf h];refine P.bind rfl ?_;dsimp only at*;rw[au (by omega) (by omega)];exact auh ht h (by omega) l z' 1000 _ [] [] l (by omega) (by omega) (by omega) ⟨hf,rfl,rfl⟩
theorem ap4{z:List Int}{r t:Int}(ht:t<=2147483648){f:cz}(hf:eO z r t f)(h:gM f.1.length z r)(s sh:Int):P (zI 1000 f s sh) fun o=>o.2=0->(0<=s/\s<f.1.length)/\eO z r t o.1/\o.1.1.length=f.1.length/\(sh=(bif(f.1.getD s.toNat bM).2.2.2.1 then 1 else -1)->jd o.1.1<=jd f.1):=by
 unfold zI;rw[uP ht hf h,bH];have key:(0<=s/\s<f.1.length)->sh=1\/sh=-1->∀b:Bool,((f.1.getD s.toNat bM).2.2.2.2=false->b=false)->(sh=-1->b=false)->P (some ((f.1.set s.toNat ((f.1.getD s.toNat bM).1,((f.1.getD s.toNat bM).2.1,(sh,((f.1.getD s.toNat bM).2.2.2.1,b)))),f.2),(0:Int))) fun o=>o.2=0->(0<=s/\s<f.1.length)/\eO z r t o.1/\o.1.1.length=f.1.length/\(sh=(bif(f.1.getD s.toNat bM).2.2.2.1 then 1 else -1)->jd o.1.1<=jd f.1):=fun hs h1 b hb hb2=>P.some fun _=>by
  have hl:s.toNat<f.1.length:=by omega
  have hw:=hf.w s.toNat hl;refine⟨hs,hf.set ⟨hw.a,hw.s,by dsimp only;omega,fun e=>?_⟩,List.length_set,fun e=>?_⟩
  ·have e:b=true:=e;subst e;refine⟨?_,fun e2=>by have:=hb2 e2;cases this⟩;cases e3:(f.1.getD s.toNat bM).2.2.2.2 with
   | false=>have:=hb e3;cases this
   | true=>exact(hw.l e3).1
  ·have hp:=wh ((f.1.getD s.toNat bM).1,((f.1.getD s.toNat bM).2.1,(sh,((f.1.getD s.toNat bM).2.2.2.1,b)))) f.1 s.toNat hl;have:ko ((f.1.getD s.toNat bM).1,((f.1.getD s.toNat bM).2.1,(sh,((f.1.getD s.toNat bM).2.2.2.1,b))))<=ko (f.1.getD s.toNat bM):=by
    unfold ko;cases e3:(f.1.getD s.toNat bM).2.2.2.1 with
    | true=>exact Nat.le_refl _
    | false=>
     rw[e3,cond_false] at e;dsimp only;rw[cond_false,if_neg (by simp[e])];exact Nat.zero_le _
   dsimp only at*;omega
 refine P.bne (fun e=>absurd rfl e) fun _=>P.dec (fun _=>P.some fun e=>by cases e) fun h1=>P.dec (fun _=>P.some fun e=>by cases e) fun h2=>?_;have hs:0<=s/\s<f.1.length:=by omega
 have hl:s.toNat<f.1.length:=by omega
 have g:∀y:bV,(f.1.set s.toNat y).getD s.toNat bM=y:=fun y=>by rw[jh,if_pos ⟨rfl,hl⟩]
 rw[Ig hf h];refine P.bne (fun e1=>P.bne (fun _=>P.some fun e=>by cases e) fun e2=>?_) fun e1=>?_
 all_goals
  refine P.bind rfl (P.aA hs ?_);simp only[g,List.set_set,List.length_set];refine P.aA hs (P.bool (fun e3=>P.aA hs ?_) fun e3=>P.aA hs ?_)
  ·refine key hs (by omega) _ (fun e4=>by rw[e3] at e4;cases e4) (fun e4=>by rw[e4];rfl)
  ·exact key hs (by omega) _ (fun _=>rfl) (fun _=>rfl)
def cls(t:Int)(x:bV):bV:=(x.1,(t,(0,(true,false))))
theorem awn{z:List Int}{r t:Int}(ht:0<=t/\t<=2147483648){f:cz}(hf:eO z r t f)(h:gM f.1.length z r)(s:Int)(hs:0<=s/\s<f.1.length):P (DI 1000 f s t) fun o=>o.1.2=0->(f.1.getD s.toNat bM).2.2.1=-1/\o.1.1=(f.1.set s.toNat (cls t (f.1.getD s.toNat bM)),f.2):=by
 unfold DI;rw[Q8 ht hf h hs,bH,Ig hf h];have hw:=hf.w s.toNat (by omega);have ha:=hw.a;refine P.bne (fun e=>absurd rfl e) fun _=>P.aA hs ?_;dsimp only;refine P.bne (fun _=>P.some fun e=>by cases e) fun e1=>P.dec (fun _=>P.aA (by omega) (P.bne (fun _=>P.some fun e=>by cases e) fun _=>?_)) fun _=>?_
 all_goals exact P.bind rfl (P.aA hs (P.some fun _=>⟨e1,rfl⟩))
theorem awh{i:Nat}{t:Int}{x:bV}(h:Vw i t x)(ht:0<=t):Vw i t (cls t x):=⟨h.a,⟨ht,Int.le_refl _⟩,⟨show -1<=(0:Int) by decide,show(0:Int)<=1 by decide⟩,fun e=>by cases e⟩
inductive Ch (l:List bV):Int->List Int->Prop
 | nil {s:Int} (h:s<0):Ch l s []
 | cons {s:Int} {p:List Int} (h:0<=s/\s<l.length) (q:Ch l (l.getD s.toNat bM).1 p):Ch l s (s::p)
theorem Ch.uniq{l:List bV}:∀{s:Int} {p q:List Int},Ch l s p->Ch l s q->p=q
 | _,_,_,.nil h,.nil _=>rfl
 | _,_,_,.nil h,.cons k _=>by omega
 | _,_,_,.cons k _,.nil h=>by omega
 | _,_,_,.cons _ a,.cons _ b=>by rw[Ch.uniq a b]
theorem Ch.tail{l:List bV}{a:Int}{q:List Int}:∀{s:Int} (p:List Int),Ch l s (p++a::q)->Ch l a (a::q)
 | _,[],.cons h k=>.cons h k
 | _,_::p,.cons h k=>Ch.tail p k
theorem Ch.Bp{l:List bV}:∀{s:Int} {p:List Int},Ch l s p->fI l.length p
 | _,_,.nil _,x,hx=>by cases hx
 | _,_,.cons h k,x,hx=>by
  rcases List.mem_cons.1 hx with rfl | hx
  ·exact h
  ·exact k.Bp x hx
theorem RM{z:List Int}{r t:Int}{f:cz}(hf:eO z r t f):∀(n:Nat) (s:Int) (out:List Int),-1<=s->s<f.1.length->s+1<n->out.length+s<100->P (vJ f.1 n s out) fun o=>∃p,o=out++p/\Ch f.1 s p/\p.length<=s+1
 | 0,s,out,h0,h1,h2,h3=>by omega
 | n+1,s,out,h0,h1,h2,h3=>by
  unfold vJ;refine P.dec (fun hk=>?_) fun hk=>P.some ⟨[],by simp,.nil (by omega),by simp;omega⟩;have ha:=(hf.w s.toNat (by omega)).a;rw[nB (by omega),fN (by omega)];refine(RM hf n _ (out++[s]) (by exact ha.1) (by have:=ha.2;show(f.1.getD s.toNat bM).1<_;omega) (by show(f.1.getD s.toNat bM).1+1<_;omega) (by rw[List.length_append,List.length_singleton];show _+(f.1.getD s.toNat bM).1<_;omega)).mono fun o ho=>?_;obtain⟨p,h4,h5,h6⟩:=ho;have h6:(p.length:Int)<=(f.1.getD s.toNat bM).1+1:=h6;exact⟨s::p,by rw[h4];simp,.cons (by omega) h5,by rw[List.length_cons];omega⟩
theorem KF{z:List Int}{r t:Int}(ht:t<=2147483648){f:cz}(hf:eO z r t f)(h:gM f.1.length z r){s:Int}(hs:0<=s/\s<f.1.length):P (wA 1000 f s) fun p=>Ch f.1 s p/\p.length<=32/\0<p.length:=by
 have hn:=hf.n;unfold wA w7;rw[uP ht hf h,bH];rw[decide_eq_false (show¬s<0 by omega),decide_eq_false (show¬s>=(f.1.length:Int) by omega)];refine(RM hf 1000 s [] (by omega) hs.2 (by omega) (by simp;omega)).mono fun o ho=>?_;obtain⟨p,h4,h5,h6⟩:=ho;rw[List.nil_append] at h4;subst h4;refine⟨h5,by omega,?_⟩;cases h5 with
 | nil h=>omega
 | cons _ _=>simp
end
noncomputable section
theorem NQ(N:Nat):qM N=some (-1,(-1,(-1,(0,0)))):=rfl
theorem Mc{s:bX}(hs:Vs s)(c:List bt)(fl:List aJ)(t:Int):P (wY 1000 s c fl t) fun r=>r=0->c.length=s.2.2.2.1.length/\fl.length=s.1.1.2.length/\0<=t/\t<=2147483648:=by
 unfold wY;rw[HN hs,bH];refine P.bne (fun e=>absurd rfl e) fun _=>P.bne (fun _=>P.some fun e=>by cases e) fun _=>P.bne (fun _=>P.some fun e=>by cases e) fun _=>P.dec (fun _=>P.some fun e=>by cases e) fun _=>P.dec (fun _=>P.some fun e=>by cases e) fun _=>P.some fun _=>by omega
theorem aao{s:bX}{z:cC}(hz:Vz s z)(fl:List aJ)(hfl:fl.length=s.1.1.2.length)(t:Int)(o:Bool)(a b d e g:Int)(ru:List aP)(ro:List Int):∀(f:Nat) (k:Int),0<=k->z.2.2.1.length<f+k->k<=z.2.2.1.length->P (En 1000 f fl t z.2.2.1 z.2.2.1.length k s.1.1.1 s.1.1.2 s.1.2.1 s.1.2.2 s.2.1 s.2.2.1 s.2.2.2.1 s.2.2.2.2 o a b ru d ro e) tt:=by
 have hn:=hz.n;intro f;induction f with
 | zero=>intros;omega
 | succ f ih=>
  intro k h0 h1 h2;rw[YI,au (n:=k+1) (by omega) (by omega)];refine P.dec (fun hk=>?_) (fun hk=>P.some trivial);obtain⟨w1,w2,w3⟩:=hz.w k.toNat (by omega);exact P.aA (by omega) (P.aA (by omega) (P.aA (by omega) (P.call (Z4 _ _ _ _) fun r _=>P.not (fun _=>P.some trivial) fun _=>ih _ (by omega) (by omega) (by omega))))
theorem Np{s:bX}(hs:Vs s)(c:List bt)(hc:c.length=s.2.2.2.1.length)(fl:List aJ)(hfl:fl.length=s.1.1.2.length)(z t:Int):P (yd 1000 s c fl z t) fun r=>r=0->(0<=z/\z<c.length)/\(c.getD z.toNat cG).1=true:=by
 unfold yd;refine P.dec (fun _=>P.some fun e=>by cases e) fun h1=>P.dec (fun _=>P.some fun e=>by cases e) fun h2=>?_;have hz:=hs.z _ (dU iU (show z.toNat<s.2.2.2.1.length by omega));have hn:=hz.n;rw[Yh];refine P.aA (by omega) (P.aA (by omega) (P.not (fun _=>P.some fun e=>by cases e) fun h3=>P.dec (fun _=>P.some fun e=>by cases e) fun _=>P.dec (fun _=>P.some fun e=>by cases e) fun _=>P.dec (fun _=>P.some fun e=>by cases e) fun _=>?_));rw[alf];exact(aao hz fl hfl t _ _ _ _ _ 0 _ _ 1000 0 (by omega) (by omega) (by omega)).mono fun _ _ _=>⟨by omega,h3⟩
theorem ang{s:bX}(hs:Vs s)(c:List bt)(fl:List aJ)(r:eT)(p z t:Int):P (EK 1000 s c fl r p z t) fun o=>o.2=0->r.1=-1/\o.1=(z,(p,(-1,(1,t))))/\(0<=p/\p<s.2.2.2.2.length)/\(0<=z/\z<c.length)/\(c.getD z.toNat cG).1=true:=by
 unfold EK;refine P.call (Mc hs c fl t) fun e he=>P.bne (fun e1=>P.some fun e2=>absurd e2 e1) fun e1=>?_;obtain⟨h1,h2,h3⟩:=he e1;refine P.bne (fun _=>P.some fun e=>by cases e) fun h4=>P.dec (fun _=>P.some fun e=>by cases e) fun h5=>P.dec (fun _=>P.some fun e=>by cases e) fun h6=>P.aA (by omega) (P.bne (fun _=>P.some fun e=>by cases e) fun h7=>?_);refine P.call (Np hs c h1 fl h2 z t) fun e he=>P.bne (fun e1=>P.some fun e2=>absurd e2 e1) fun e1=>P.some fun _=>?_;exact⟨h4,rfl,by omega,(he e1).1,(he e1).2⟩
theorem agl{s:bX}(hs:Vs s)(c:List bt)(fl:List aJ)(r:eT)(p t:Int):P (EB 1000 s c fl r p t) fun o=>o.2=0->r.1≠-1/\r.2.2.2.1=1/\o.1=(r.1,(r.2.1,(p,(2,t))))/\(0<=p/\p<s.2.2.2.2.length)/\(0<=r.2.1/\r.2.1<s.2.2.2.2.length)/\(s.2.2.2.2.getD p.toNat oZ).1≠(s.2.2.2.2.getD r.2.1.toNat oZ).1/\(0<=r.1/\r.1<c.length)/\(c.getD r.1.toNat cG).1=true:=by
 unfold EB;refine P.call (Mc hs c fl t) fun e he=>P.bne (fun e1=>P.some fun e2=>absurd e2 e1) fun e1=>?_;obtain⟨h1,h2,h3⟩:=he e1;refine P.beq (fun _=>P.some fun e=>by cases e) fun h4=>P.bne (fun _=>P.some fun e=>by cases e) fun h5=>?_;rw[acn];refine P.dec (fun _=>P.some fun e=>by cases e) fun g1=>P.dec (fun _=>P.some fun e=>by cases e) fun g2=>P.beq (fun _=>P.some fun e=>by cases e) fun g3=>P.dec (fun _=>P.some fun e=>by cases e) fun g4=>P.dec (fun _=>P.some fun e=>by cases e) fun g5=>P.aA (by omega) (P.aA (by omega) (P.beq (fun _=>P.some fun e=>by cases e) fun g6=>?_))
 rw[axl];refine P.call (Q6 _ _) fun b _=>P.bool (fun _=>P.some fun e=>by cases e) fun _=>?_;refine P.call (Np hs c h1 fl h2 r.1 t) fun e he=>P.bne (fun e1=>P.some fun e2=>absurd e2 e1) fun e1=>P.some fun _=>?_;exact⟨h4,h5,rfl,by omega,by omega,g6,(he e1).1,(he e1).2⟩
theorem ag1(l:List Int)(hl:l.length<=900)(x:Int):∀(f:Nat) (k:Int),0<=k->l.length<f+k->k<=l.length->P (HJ 1000 f l x l.length k) tt:=by
 intro f;induction f with
 | zero=>intros;omega
 | succ f ih=>
  intros;rw[TT];try simp(disch:=omega) only[au]
  repeat' first | with_reducible (first | refine P.aA ?_ ?_ | refine P.fits ?_ (by decide) ?_ | refine P.mk ?_ (by decide) ?_ | refine P.sl ?_ ?_ | exact P.some trivial | exact P.some rfl | refine P.dec ?_ ?_ | refine P.beq ?_ ?_ | refine P.bne ?_ ?_ | refine P.not ?_ ?_ | refine P.bool ?_ ?_ | apply ih | intro hw) | omega
theorem Yv(l:List Int)(hl:l.length<=900)(x:Int):P (Fv 1000 l x) fun b=>0<l.length->l.getD 0 0=x->b=true:=by
 unfold Fv OL;by_cases h:0<l.length/\l.getD 0 0=x
 ·refine P.bind (a:=0) ?_ (P.some fun _ _=>rfl);rw[show(1000:Nat)=999+1 from rfl,TT,dt (by omega),it (by omega),et (by rw[<-h.2];rfl)]
 ·exact P.call (ag1 l hl x 1000 0 (by omega) (by omega) (by omega)) fun r _=>P.some fun h1 h2=>absurd ⟨h1,h2⟩ h
theorem Yb(l:List Int)(hl:l.length<=900)(at_:Int)(fe:cz)(hi:fI fe.1.length l):∀(f:Nat) (k:Int),0<=k->l.length<f+k->k<=l.length->P (ED 1000 f l l.length k at_ fe.1 fe.2.1 fe.2.2) fun o=>o.2=(at_,fe)/\((∀x,x∈l->x=at_\/(fe.1.getD x.toNat bM).2.2.1≠-1)->o.1=-1):=by
 intro f;induction f with
 | zero=>intros;omega
 | succ f ih=>
  intro k h0 h1 h2;rw[ano,au (by omega) (by omega)];refine P.dec (fun hk=>?_) (fun hk=>P.some ⟨rfl,fun _=>rfl⟩);have hx:=hi.get (k:=k.toNat) (by omega);have hm:=dU 0 (show k.toNat<l.length by omega);have one:P (DB 1000 (l.getD k.toNat 0) at_ (fe.1,(fe.2.1,fe.2.2))) fun o=>o.2=(at_,fe)/\(o.1=true->l.getD k.toNat 0≠at_/\(fe.1.getD (l.getD k.toNat 0).toNat bM).2.2.1=-1):=by
   unfold DB;refine P.bne (fun e=>P.aA hx (P.some ⟨rfl,fun e2=>⟨e,eq_of_beq e2⟩⟩)) fun e=>P.some ⟨rfl,fun e=>by cases e⟩
  refine P.aA (by omega) (P.call one fun o ho=>?_);obtain⟨b,q⟩:=o;obtain⟨rfl,h4⟩:=ho;refine P.bool (fun e=>P.some ⟨rfl,fun h=>?_⟩) fun _=>ih _ (by omega) (by omega) (by omega);have:=h _ hm;have:=h4 e;omega
theorem am3(l:List Int)(hl:l.length<=900)(at_:Int)(fe:cz)(hi:fI fe.1.length l):P (HZ 1000 l at_ fe) fun o=>o.2=(at_,fe)/\((∀x,x∈l->x=at_\/(fe.1.getD x.toNat bM).2.2.1≠-1)->o.1=false):=by
 unfold HZ NW;refine P.call (Yb l hl at_ fe hi 1000 0 (by omega) (by omega) (by omega)) fun o ho=>P.some ⟨ho.1,fun h=>?_⟩;dsimp only;rw[ho.2 h];rfl
def yp(c:List bt)(z:List Int)(zone at_:Int)(k:Int):Prop:=∀i:Nat,k<=i->i<z.length->(i:Int)≠zone->(c.getD i cG).1=true->z.getD i 0≠at_
theorem au2{z:List Int}{r t:Int}(ht:t<=2147483648){fe:cz}(hf:eO z r t fe)(h:gM fe.1.length z r)(c:List bt)(hc:c.length=z.length)(zone at_:Int)(l2:List Int)(hch:Ch fe.1 at_ (at_::l2))(hl2:∀x,x∈l2->(fe.1.getD x.toNat bM).2.2.1=1):∀(f:Nat) (k:Int),0<=k->z.length<f+k->k<=z.length->P (tP 1000 f c zone z z.length k fe.1 fe.2.1 fe.2.2 at_) fun o=>o.1=at_/\(o.2=false->yp c z zone at_ k):=by
 have hz:=h.zn;intro f;induction f with
 | zero=>intros;omega
 | succ f ih=>
  intro k h0 h1 h2;rw[apz,au (by omega) (by omega)];refine P.dec (fun hk=>?_) (fun hk=>P.some ⟨rfl,fun _ i h3 h4=>by omega⟩);have hx:=h.zi.get (k:=k.toNat) (by omega);have next:((k:Int)≠zone->(c.getD k.toNat cG).1=true->z.getD k.toNat 0≠at_)->P (tP 1000 f c zone z z.length (k+1) fe.1 fe.2.1 fe.2.2 at_) fun o=>o.1=at_/\(o.2=false->yp c z zone at_ k):=fun hne=>(ih _ (by omega) (by omega) (by omega)).mono fun o ho=>⟨ho.1,fun e i h3 h4 h5 h6=>by
   by_cases e2:(i:Int)=k
   ·have e3:i=k.toNat:=by omega
    subst e3;exact hne (by omega) h6
   ·exact ho.2 e i (by omega) h4 h5 h6⟩
  refine P.aA (by omega) (P.beq (fun e=>next fun h3=>absurd e h3) fun _=>P.aA (by omega) (P.not (fun e=>next fun _ h3=>by rw[e] at h3;cases h3) fun _=>?_));refine P.call (KF ht hf h hx) fun p hp=>?_;obtain⟨p1,p2,p3⟩:=hp;refine P.call (am3 p (by omega) at_ fe p1.Bp) fun o ho=>?_;obtain⟨b,q⟩:=o;obtain⟨rfl,h4⟩:=ho;refine P.call (Yv p (by omega) at_) fun b2 hb2=>?_;have key:z.getD k.toNat 0=at_->b=false/\b2=true:=fun e=>by
   rw[e] at p1;have:=p1.uniq hch;subst this;refine⟨h4 fun x hx=>?_,hb2 p3 rfl⟩;rcases List.mem_cons.1 hx with rfl | hx
   ·exact .inl rfl
   ·rw[hl2 x hx];exact .inr (by decide)
  refine P.bool (fun e1=>P.not (fun e2=>P.some ⟨rfl,fun e=>by cases e⟩) fun e2=>next fun _ _ e=>?_) fun e1=>next fun _ _ e=>?_
  ·have e2:b=true:=e2;have:=(key e).1;rw[e2] at this;cases this
  ·have:=(key e).2;rw[e1] at this;cases this
theorem awv{z:List Int}{r t:Int}(ht:t<=2147483648){fe:cz}(hf:eO z r t fe)(h:gM fe.1.length z r)(c:List bt)(hc:c.length=z.length)(zone s:Int)(p:List Int)(hp:Ch fe.1 s p)(hl:p.length<=32):∀(f:Nat) (k:Int) (j:Nat),0<=k->p.length<f+k->k<=p.length->j<p.length->j<k\/j=0->(∀i:Nat,j<i->i<k->(fe.1.getD (p.getD i 0).toNat bM).2.2.1=1)->
  P (Bw 1000 f c zone p p.length k fe.1 fe.2.1 fe.2.2 (p.getD j 0)) fun o=>(0<=o.1/\o.1<fe.1.length)/\(o.2=false->yp c z zone o.1 0):=by
 have hz:=h.zn;intro f;induction f with
 | zero=>intros;omega
 | succ f ih=>
  intro k j h0 h1 h2 h3 h4 h5;rw[aby,au (by omega) (by omega)];refine P.dec (fun hk=>?_) (fun hk=>?_)
  ·have hx:=hp.Bp.get (k:=k.toNat) (by omega);refine P.aA (by omega) (P.aA hx (P.bne (fun _=>?_) fun e=>?_))
   ·exact ih _ k.toNat (by omega) (by omega) (by omega) (by omega) (by omega) fun i h6 h7=>by omega
   ·refine ih _ j (by omega) (by omega) (by omega) h3 (by omega) fun i h6 h7=>?_;by_cases e2:(i:Int)=k
    ·have e3:i=k.toNat:=by omega
     subst e3;exact e
    ·exact h5 i h6 (by omega)
  ·have hs:p=p.take j++p.getD j 0::p.drop (j+1):=by
    rw[<-drop_cons 0 h3,List.take_append_drop]
   have hch:=Ch.tail (p.take j) (by rw[<-hs];exact hp);have hl2:∀x,x∈p.drop (j+1)->(fe.1.getD x.toNat bM).2.2.1=1:=fun x hx=>by
    obtain⟨i,hi,rfl⟩:=List.getElem_of_mem hx;rw[List.length_drop] at hi;rw[List.getElem_drop];have:=h5 (j+1+i) (by omega) (by omega);rw[List.getD_eq_getElem?_getD (l:=p),List.getElem?_eq_getElem (by omega)] at this;exact this
   have h2:=au2 ht hf h c hc zone _ _ hch hl2 1000 0 (by omega) (by omega) (by omega);rw[hf.ze] at h2 ⊢;refine h2.mono fun o ho=>?_;rw[ho.1];exact⟨hp.Bp.get h3,ho.2⟩
theorem agn{z:List Int}{r t:Int}(ht:t<=2147483648){fe:cz}(hf:eO z r t fe)(h:gM fe.1.length z r)(c:List bt)(hc:c.length=z.length){zone:Int}(hzo:0<=zone/\zone<z.length):P (uf 1000 c fe zone) fun o=>(0<=o.1/\o.1<fe.1.length)/\(o.2=false->yp c z zone o.1 0):=by
 unfold uf;rw[hf.ze];have hx:=h.zi.get (k:=zone.toNat) (by omega);refine P.aA hzo (P.call (KF ht hf h hx) fun p hp=>P.aA (by omega) ?_);have:=awv ht hf h c hc zone _ p hp.1 hp.2.1 1000 0 0 (by omega) (by omega) (by omega) hp.2.2 (.inr rfl) (fun i h1 h2=>by omega);rw[hf.ze] at this;rw[show(0:Int).toNat=0 from rfl];exact this
structure Clo (s:bX) (c:List bt) (r:eT) (fe:cz) (z:List Int) (t:Int) (o:(eT×List bt×cz×Int)×Unit):Prop where
 qa:r.1≠-1/\r.2.2.2.1=2
 qb:0<=r.1/\r.1<c.length
 qc:(c.getD r.1.toNat cG).1=true
 qd:∃at_:Int,uf 1000 c fe r.1=some (at_,false)/\(0<=at_/\at_<fe.1.length)/\(fe.1.getD at_.toNat bM).2.2.1=-1/\o.1.2.2.1=(fe.1.set at_.toNat (cls t (fe.1.getD at_.toNat bM)),fe.2)/\yp c z r.1 at_ 0/\
  (at_≠z.getD r.1.toNat 0/\o.1.1=(r.1,(r.2.1,(r.2.2.1,(r.2.2.2.1,t))))/\o.1.2.1=c\/o.1.1=(-1,(-1,(-1,(0,0))))/\o.1.2.1=c.set r.1.toNat (false,(c.getD r.1.toNat cG).2))
theorem acb{s:bX}(hs:Vs s)(c:List bt)(hcl:c.length<=900)(fl:List aJ)(r:eT){z:List Int}{rp t:Int}(ht:0<=t/\t<=2147483648){fe:cz}(hf:eO z rp t fe)(h:gM fe.1.length z rp)(hz:z.length=s.2.2.2.1.length):P (Gz 1000 s c fl r fe t) fun o=>o.1.2.2.2=0->fl.length=s.1.1.2.length/\Clo s c r fe z t o:=by
 have hn:=hf.n;have hzn:=h.zn;have hze:=hf.ze;unfold Gz L6;rw[hze];refine P.fits (by omega) (by omega) (P.fits (by omega) (by omega) (P.fits (by omega) (by omega) ?_));refine P.call (R:=fun(o:Int×Int)=>o.2=0->fl.length=s.1.1.2.length/\(r.1≠-1/\r.2.2.2.1=2)/\(0<=r.1/\r.1<c.length)/\(c.getD r.1.toNat cG).1=true/\c.length=z.length/\uf 1000 c fe r.1=some (o.1,false)/\(0<=o.1/\o.1<fe.1.length)/\yp c z r.1 o.1 0) ?_ fun o ho=>?_
 ·refine P.call (Mc hs c fl t) fun e he=>P.bne (fun e1=>P.some fun e2=>absurd e2 e1) fun e1=>?_;obtain⟨h1,h2,h3⟩:=he e1;refine P.beq (fun _=>P.some fun e=>by cases e) fun h4=>P.bne (fun _=>P.some fun e=>by cases e) fun h5=>P.call (Q6 _ _) fun b _=>P.bool (fun _=>P.some fun e=>by cases e) fun _=>?_;refine P.call (Np hs c h1 fl h2 r.1 t) fun e he=>P.bne (fun e1=>P.some fun e2=>absurd e2 e1) fun e1=>?_;obtain⟨g1,g2⟩:=he e1;rw[uP ht.2 hf h,bH];refine P.bne (fun e=>absurd rfl e) fun _=>P.bne (fun _=>P.some fun e=>by cases e) fun h6=>?_
  obtain⟨o,e,ho⟩:=agn ht.2 hf h c (by omega) (zone:=r.1) (by omega);refine P.bind e (P.bool (fun _=>P.some fun e=>by cases e) fun e2=>P.some fun _=>?_);obtain⟨at_,b⟩:=o;have e2:b=false:=e2;subst e2;exact⟨h2,⟨h4,h5⟩,g1,g2,by omega,e,ho.1,ho.2 rfl⟩
 ·refine P.bne (fun e1=>P.some fun e2=>absurd e2 e1) fun e1=>?_;obtain⟨g1,g2,g3,g4,g5,g6,g7,g8⟩:=ho e1;refine P.call (awn ht hf h o.1 g7) fun q hq=>P.bne (fun e1=>P.some fun e2=>absurd e2 e1) fun e2=>?_;obtain⟨k1,k2⟩:=hq e2;refine P.aA (by omega) (P.bne (fun e3=>P.some fun _=>⟨g1,g2,g3,g4,o.1,g6,g7,k1,k2,g8,.inl ⟨e3,rfl,rfl⟩⟩) fun e3=>P.aA g3 (P.bind (NQ 1000) (P.some fun _=>⟨g1,g2,g3,g4,o.1,g6,g7,k1,k2,g8,.inr ⟨rfl,rfl⟩⟩)))
theorem as3(c:List bt)(r:eT):P (Ey 1000 c r) fun o=>o=(-1,(-1,(-1,(0,0))))\/o=r/\(r.1=-1\/(0<=r.1/\r.1<c.length)/\(c.getD r.1.toNat cG).1=true):=by
 have hN:P (Option.bind (qM 1000) fun r=>some r) fun o=>o=(-1,(-1,(-1,(0,0))))\/o=r/\(r.1=-1\/(0<=r.1/\r.1<c.length)/\(c.getD r.1.toNat cG).1=true):=P.bind (NQ 1000) (P.some (.inl rfl));unfold Ey;refine P.beq (fun e=>P.some (.inr ⟨rfl,.inl e⟩)) fun _=>P.dec (fun h1=>P.dec (fun h2=>P.aA (by omega) (P.bool (fun h3=>P.aA (by omega) (P.bne (fun _=>P.some (.inr ⟨rfl,.inr ⟨by omega,h3⟩⟩)) fun _=>hN)) fun _=>hN)) fun _=>hN) fun _=>hN
end
noncomputable section
theorem Y0(n1:Nat)(y:Int)(l:List Int)(k:Int)(hR:∀c:Int,P (AU 1000 n1 c l l.length (W (k+1))) tt):∀(f:Nat) (c b:Int),-1<=b->b<=7->b+1<f->P (AS 1000 n1 f c y b l l.length k) tt:=by
 intro f;induction f with
 | zero=>intros;omega
 | succ f ih=>
  intro c b h0 h1 h2;rw[anp,au (n:=b-1) (by omega) (by omega)];refine P.dec (fun hk=>?_) (fun hk=>hR _);have hu:=j3 (n:=b) (by omega) (by omega);dsimp only;exact P.dec (fun _=>by omega) fun _=>P.bne (fun _=>ih _ _ (by omega) (by omega) (by omega)) fun _=>ih _ _ (by omega) (by omega) (by omega)
theorem alg(l:List Int)(hl:l.length<=900):∀(f:Nat) (k c:Int),0<=k->l.length<f+k->k<=l.length->P (AU 1000 f c l l.length k) tt:=by
 intro f;induction f with
 | zero=>intros;omega
 | succ f ih=>
  intro k c h0 h1 h2;rw[ajm];refine P.dec (fun hk=>P.aA (by omega) (Y0 f _ l k (fun c=>?_) 1000 c 7 (by omega) (by omega) (by omega))) (fun hk=>P.some trivial);rw[au (by omega) (by omega)];exact ih _ _ (by omega) (by omega) (by omega)
theorem ail(l:List Int)(hl:l.length<=900):P (Lp 1000 l) tt:=alg l hl 1000 0 _ (by omega) (by omega) (by omega)
def By(l:List Int):Prop:=∀x,x∈l->0<=x/\x<=255
theorem By.get{l:List Int}(h:By l)(k:Nat):0<=l.getD k 0/\l.getD k 0<=255:=No h k
theorem By.drop{l:List Int}(h:By l)(k:Nat):By (l.drop k):=fun x hx=>h x (List.mem_of_mem_drop hx)
structure xG (r:aB):Prop where
 b:By r.1
 n:r.1.length<=70
theorem al5:∀(f:Nat) (l:List Int) (lost x4:Int) (fr:List lT),l.length<f->l.length<=400->By l->fr.length+l.length<=800->P (ti 1000 f l lost x4 fr) fun o=>xG o.1/\o.2.length<=800:=by
 intro f;induction f with
 | zero=>intros;omega
 | succ f ih=>
  intro l lost x4 fr h1 h2 h3 h4;rw[ad4];refine P.dec (fun h5=>?_) fun h5=>P.fits (by omega) (by omega) (P.some ⟨⟨h3,by dsimp only;omega⟩,by dsimp only;omega⟩);have g0:=h3.get (0:Int).toNat;have g1:=h3.get (1:Int).toNat;have skip:P (bif gz 1 l.length l.length then ti 1000 f (l.drop (1:Int).toNat) (W (lost+1)) x4 fr else none) fun o=>xG o.1/\o.2.length<=800:=by
   refine P.sl (by omega) (ih _ _ _ _ ?_ ?_ (h3.drop _) ?_)<;>(rw[List.length_drop];omega)
  have main:(1<l.length->l.getD (1:Int).toNat 0<=64)->P (Ih 1000 1000 f l lost x4 fr) fun o=>xG o.1/\o.2.length<=800:=fun hlen=>by
   rw[ac3];dsimp only;generalize hv:l.getD (1:Int).toNat 0=v at*;rw[au (n:=v) (by omega) (by omega),au (by omega) (by omega),au (by omega) (by omega),au (by omega) (by omega)];refine P.dec (fun h6=>P.fits (by omega) (by omega) (P.some ⟨⟨h3,by dsimp only;omega⟩,by dsimp only;omega⟩)) fun h6=>P.aA (by omega) (P.dec (fun h7=>P.fits (by omega) (by omega) (P.some ⟨⟨h3,by have:=hlen (by omega);dsimp only;omega⟩,by dsimp only;omega⟩)) fun h7=>P.aA (by omega) ?_);refine P.sl (by omega) (P.call (ail _ (by rw[List.length_take,List.length_drop];omega)) fun c _=>P.aA (by omega) (P.aA (by omega) (P.bne (fun _=>skip) fun _=>?_)))
   refine P.aA (by omega) (P.aA (by omega) (P.sl (by omega) (P.fits (by rw[List.length_take,List.length_drop];omega) (by omega) (P.fits (by omega) (by omega) (P.sl (by omega) (ih _ _ _ _ ?_ ?_ (h3.drop _) ?_))))))
   ·rw[List.length_drop];omega
   ·rw[List.length_drop];omega
   ·rw[List.length_drop,List.length_append,List.length_singleton];omega
  refine P.aA (by omega) (P.bne (fun _=>skip) fun _=>P.dec (fun h6=>P.aA (by omega) ?_) fun h6=>main fun h=>by omega);rw[au (by omega) (by omega)];exact P.dec (fun _=>skip) fun h7=>main fun _=>by omega
theorem al6{r:aB}(h:xG r){b:List Int}(hb:By b)(hl:b.length<=300):P (wV 1000 r b) fun o=>xG o.1/\o.2.length<=800:=by
 have hn:=h.n;unfold wV;refine P.fits (by omega) (by omega) (P.fits (by omega) (by omega) (al5 1000 _ _ _ [] ?_ ?_ ?_ ?_))
 ·rw[List.length_append];omega
 ·rw[List.length_append];omega
 ·intro x hx;rcases List.mem_append.1 hx with hx | hx
  ·exact h.b x hx
  ·exact hb x hx
 ·rw[List.length_append];simp;omega
theorem acr(se:List bJ)(hs:se.length<=64)(t ad kd:Int)(da:List Int)(u v w y:Int):∀(f:Nat) (i k:Int),-1<=k->k<se.length->k+1<f->(i=-1\/0<=i/\i<se.length)->P (Cr 1000 f se t i k ad kd da u v w y) fun o=>o.2=0->0<=o.1.1:=by
 intro f;induction f with
 | zero=>intros;omega
 | succ f ih=>
  intro i k h0 h1 h2 h3;rw[Y2,au (by omega) (by omega)];refine P.dec (fun hk=>P.aA (by omega) (P.beq (fun _=>ih _ _ (by omega) (by omega) (by omega) (by omega)) fun _=>ih _ _ (by omega) (by omega) (by omega) h3)) fun hk=>?_;refine P.dec (fun _=>P.some fun e=>by cases e) fun h4=>P.aA (by omega) (P.call (XB _) fun c _=>P.bne (fun _=>P.some fun e=>by cases e) fun _=>P.call pL fun q _=>P.beq (fun _=>P.bne (fun _=>P.some fun e=>by cases e) fun h5=>?_) fun _=>P.beq (fun _=>P.bne (fun _=>P.some fun e=>by cases e) fun _=>P.some fun _=>by dsimp only;omega) fun _=>P.some fun e=>by cases e)
  exact P.aA (by omega) (P.aA (by omega) (P.aA (by omega) (P.call (ax8 _ _) fun q _=>P.some fun _=>by dsimp only;omega)))
theorem aq1(se:List bJ)(hs:se.length<=64)(fr:lT)(t:Int):P (ue 1000 se fr t) fun o=>o.2=0->0<=o.1.1:=by
 unfold ue;refine P.dec (fun _=>P.some fun e=>by cases e) fun _=>P.dec (fun _=>P.some fun e=>by cases e) fun _=>?_;rw[Z6,au (by omega) (by omega)];exact acr se hs _ _ _ _ _ _ _ _ 1000 _ _ (by omega) (by omega) (by omega) (.inl rfl)
end
noncomputable section
def lN(z:Int)(a:Int×Int)(y:aP):Int×Int:=if y.2.2.1≠z then a else if y.2.1=1 then(-1,-1) else if y.2.1=4 then(y.2.2.2,-1) else if y.2.1=5 then(a.1,y.2.2.2) else a
def scan(z:Int)(l:List aP):Int×Int:=l.foldl (lN z) (-1,-1)
theorem B3(z:Int)(l:List aP)(e:aP):scan z (l++[e])=lN z (scan z l) e:=by
 unfold scan;rw[List.foldl_append];rfl
theorem XC{z:Int}{a:Int×Int}{t k tg v:Int}(h:k=2\/k=3\/k=6\/k=7):lN z a (t,(k,(tg,v)))=a:=by
 unfold lN;rw[if_neg (show¬k=1 by omega),if_neg (show¬k=4 by omega),if_neg (show¬k=5 by omega)];split<;>rfl
theorem amg{z:Int}{a:Int×Int}{t k tg v:Int}(h:tg≠z):lN z a (t,(k,(tg,v)))=a:=by
 unfold lN;rw[if_pos h]
def role(s:bX)(p:Int):Int:=(s.2.2.2.2.getD p.toNat oZ).1
def vG(s:bX)(p:Int):Prop:=0<=p/\p<s.2.2.2.2.length
def vF(s:bX)(a:Int×Int):Prop:=vG s a.1/\vG s a.2/\role s a.1≠role s a.2
def GA(s:bX)(z:List Int)(l:List aP):Prop:=∀i:Nat,i<l.length->(l.getD i dN).2.1=6->∀k:Nat,k<z.length->z.getD k 0=(l.getD i dN).2.2.1->vF s (scan k (l.take i))
theorem GA.app{s:bX}{z:List Int}{l:List aP}(h:GA s z l){e:aP}(he:e.2.1=6->∀k:Nat,k<z.length->z.getD k 0=e.2.2.1->vF s (scan k l)):GA s z (l++[e]):=fun i hi h6 k hk hz=>by
 rw[List.length_append,List.length_singleton] at hi;rw[jI] at h6 hz;by_cases e1:i<l.length
 ·rw[if_pos e1] at h6 hz;rw[List.take_append_of_le_length (by omega)];exact h i e1 h6 k hk hz
 ·have e2:i=l.length:=by omega
  rw[if_neg e1,if_pos e2] at h6 hz;rw[e2,List.take_append_of_le_length (by omega),List.take_length];exact he h6 k hk hz
def n9(s:bX)(c:List bt)(l:List aP)(r:eT):Prop:=r.1=-1\/(0<=r.1/\r.1<c.length)/\(c.getD r.1.toNat cG).1=true/\(scan r.1 l).1=r.2.1/\vG s r.2.1/\(r.2.2.2.1=2->(scan r.1 l).2=r.2.2.1/\vG s r.2.2.1/\role s r.2.2.1≠role s r.2.1)
theorem n9.log{s:bX}{c:List bt}{l l':List aP}{r:eT}(h:n9 s c l r)(hl:r.1≠-1->scan r.1 l'=scan r.1 l):n9 s c l' r:=by
 rcases h with h | h
 ·exact .inl h
 ·by_cases e:r.1=-1
  ·exact .inl e
  ·unfold n9;rw[hl e];exact .inr h
theorem n9.WX{s:bX}{c c':List bt}{l:List aP}{r:eT}(h:n9 s c l r)(hn:c'.length=c.length)(hc:∀i,(c.getD i cG).1=true->(c'.getD i cG).1=true):n9 s c' l r:=by
 rcases h with h | ⟨h1,h2,h3⟩
 ·exact .inl h
 ·exact .inr ⟨by rw[hn];exact h1,hc _ h2,h3⟩
structure Inv (s:bX) (z:List Int) (rp:Int) (n b:Nat) (x:aT):Prop where
 is:x.1=s
 it:0<=x.2.1/\x.2.1<=2147483648
 ir:xG x.2.2.1
 im:x.2.2.2.1.length=s.2.1.length
 iw:x.2.2.2.2.1.length=s.2.2.1.length
 ik:∀w,w∈x.2.2.2.2.1->Wk x.2.1 w
 ic:x.2.2.2.2.2.1.length=z.length
 jf:eO z rp x.2.1 x.2.2.2.2.2.2.1
 jn:x.2.2.2.2.2.2.1.1.length=n
 iq:n9 s x.2.2.2.2.2.1 x.2.2.2.2.2.2.2.2 x.2.2.2.2.2.2.2.1
 il:GA s z x.2.2.2.2.2.2.2.2
 ip:x.2.2.2.2.2.2.2.2.length+jd x.2.2.2.2.2.2.1.1+jk x.2.2.2.2.2.1<=b
theorem Inv.mono{s:bX}{z:List Int}{rp:Int}{n b b':Nat}{x:aT}(h:Inv s z rp n b x)(hb:b<=b'):Inv s z rp n b' x:={h with ip:=Nat.le_trans h.ip hb}
def nt(x:aT)(k tg v:Int):aT:=(x.1,(x.2.1,(x.2.2.1,(x.2.2.2.1,(x.2.2.2.2.1,(x.2.2.2.2.2.1,(x.2.2.2.2.2.2.1,(x.2.2.2.2.2.2.2.1,x.2.2.2.2.2.2.2.2++[(x.2.1,(k,(tg,v)))]))))))))
theorem pQ{x:aT}(h:x.2.2.2.2.2.2.2.2.length<400)(k tg v:Int):ma 1000 x k tg v=some ((),nt x k tg v):=by
 unfold ma;rw[eG (by omega) (by omega)];dsimp only;rw[List.length_append,List.length_singleton,au (by omega) (by omega),df (by omega)];rfl
section
variable {s:bX} {z:List Int} {rp:Int} {n b:Nat} {x:aT}
theorem Inv.note(h:Inv s z rp n b x)(k tg v:Int)(h6:k=6->∀i:Nat,i<z.length->z.getD i 0=tg->vF s (scan i x.2.2.2.2.2.2.2.2))(hq:x.2.2.2.2.2.2.2.1.1≠-1->lN x.2.2.2.2.2.2.2.1.1 (scan x.2.2.2.2.2.2.2.1.1 x.2.2.2.2.2.2.2.2) (x.2.1,(k,(tg,v)))=scan x.2.2.2.2.2.2.2.1.1 x.2.2.2.2.2.2.2.2):Inv s z rp n (b+1) (nt x k tg v):=
 {h with
  iq:=h.iq.log fun e=>by show scan _ (_++[_])=_;rw[B3];exact hq e
  il:=h.il.app h6
  ip:=by have:=h.ip;show(_++[_]).length+jd x.2.2.2.2.2.2.1.1+jk x.2.2.2.2.2.1<=b+1;rw[List.length_append,List.length_singleton];omega}
theorem Inv.wz(h:Inv s z rp n b x){k:Int}(hk:k=2\/k=3\/k=7)(tg v:Int):Inv s z rp n (b+1) (nt x k tg v):=
 h.note k tg v (fun e=>by omega) fun _=>XC (by omega)
end
section
variable {s:bX} {z:List Int} {rp:Int} {n b:Nat} (hS:Vs s) (hZ:gM n z rp) (hzs:z.length=s.2.2.2.1.length)
structure Sm (x y:aT):Prop where
 st:y.2.1=x.2.1
 sm:y.2.2.2.1=x.2.2.2.1
 sc:y.2.2.2.2.2.1=x.2.2.2.2.2.1
 sq:y.2.2.2.2.2.2.2.1=x.2.2.2.2.2.2.2.1
 sh:∀i,(y.2.2.2.2.2.2.1.1.getD i bM).2.2.1=-1->(x.2.2.2.2.2.2.1.1.getD i bM).2.2.1=-1
theorem Sm.trans{x y w:aT}(h:Sm x y)(g:Sm y w):Sm x w:=⟨g.st.trans h.st,g.sm.trans h.sm,g.sc.trans h.sc,g.sq.trans h.sq,fun i hi=>h.sh i (g.sh i hi)⟩
include hZ in
theorem RB{x:aT}(h:Inv s z rp n b x)(hb:b<390){k:Int}(hk:0<=k/\k<z.length)(hq:x.2.2.2.2.2.2.2.1.1≠k):P (zB 1000 x k) fun o=>Inv s z rp n (b+1) o.2/\Sm x o.2:=by
 have hip:=h.ip;have hic:=h.ic;have hjn:=h.jn;have hze:=h.jf.ze;have hzi:=hZ.zi.get (k:=k.toNat) (by omega);have hN:=h.note 1 k (x.2.2.2.2.2.1.getD k.toNat cG).2.2 (fun e=>by omega) (fun _=>amg (by omega));unfold zB;rw[pQ (by omega)];refine P.aA (by omega) (P.bind rfl ?_);generalize hy:nt x 1 k (x.2.2.2.2.2.1.getD k.toNat cG).2.2=y at hN;have e1:y.2.2.2.2.2.2.1=x.2.2.2.2.2.2.1:=by rw[<-hy];rfl
 have hs:Sm x y:=by subst hy;exact⟨rfl,rfl,rfl,rfl,fun _ h=>h⟩
 have hlog:y.2.2.2.2.2.2.2.2.length=x.2.2.2.2.2.2.2.2.length+1:=by rw[<-hy];show(_++[_]).length=_;rw[List.length_append];rfl
 have hzy:y.2.2.2.2.2.2.1.2.1=z:=hN.jf.ze;have hny:=hN.jn;dsimp only;rw[hzy];refine P.aA (by omega) (P.aA (by omega) ?_);have hs0:0<=z.getD k.toNat 0/\z.getD k.toNat 0<y.2.2.2.2.2.2.1.1.length:=by omega
 refine P.bind (Ss hN.it hN.jf (by rw[hny];exact hZ) hs0) (P.bne (fun e=>absurd rfl e) fun _=>?_);generalize hi:(z.getD k.toNat 0).toNat=i at*;have hil:i<y.2.2.2.2.2.2.1.1.length:=by omega
 have hp:=wh (qU y.2.1 (y.2.2.2.2.2.2.1.1.getD i bM)) y.2.2.2.2.2.2.1.1 i hil;have hipy:=hN.ip;cases hc:(y.2.2.2.2.2.2.1.1.getD i bM).2.2.2.1 with
 | false=>
  simp only[cond_false];exact P.some ⟨hN,hs⟩
 | true=>
  simp only[cond_true];have ho:=QV hc y.2.1;have hI:Inv s z rp n b (y.1,(y.2.1,(y.2.2.1,(y.2.2.2.1,(y.2.2.2.2.1,(y.2.2.2.2.2.1,((y.2.2.2.2.2.2.1.1.set i (qU y.2.1 (y.2.2.2.2.2.2.1.1.getD i bM)),y.2.2.2.2.2.2.1.2),y.2.2.2.2.2.2.2))))))):=
   {hN with
    jf:=hN.jf.set (OI (hN.jf.w i hil) hN.it.1)
    jn:=by show(List.set _ _ _).length=n;rw[List.length_set];exact hny
    ip:=by dsimp only;omega}
  rw[pQ (by show y.2.2.2.2.2.2.2.2.length<400;omega)];refine P.bind rfl (P.some ⟨hI.wz (.inl rfl) _ _,hs.trans ⟨rfl,rfl,rfl,rfl,fun j hj=>?_⟩⟩);have hj:((y.2.2.2.2.2.2.1.1.set i (qU y.2.1 (y.2.2.2.2.2.2.1.1.getD i bM))).getD j bM).2.2.1=-1:=hj;rw[jh] at hj;split at hj
  ·exact absurd hj (show(0:Int)≠-1 by decide)
  ·exact hj
end
end
noncomputable section
variable {s:bX} {z:List Int} {rp:Int} {n:Nat} (hS:Vs s) (hZ:gM n z rp) (hzs:z.length=s.2.2.2.1.length)
theorem ajt(f:cz)(l:List Int)(hl:l.length<=900)(h:fI f.1.length l):∀(m:Nat) (k:Int),0<=k->l.length<m+k->k<=l.length->P (GH 1000 m l l.length k f.1 f.2.1 f.2.2) fun r=>r=false->∀j:Nat,k<=j->j<l.length->(f.1.getD (l.getD j 0).toNat bM).2.2.1≠-1:=by
 intro m;induction m with
 | zero=>intros;omega
 | succ m ih=>
  intro k h0 h1 h2;rw[an8,au (by omega) (by omega)];refine P.dec (fun hk=>?_) (fun hk=>P.some fun _ j h3 h4=>by omega);have hx:=h.get (k:=k.toNat) (by omega);refine P.aA (by omega) (P.aA hx ?_);dsimp only;refine P.not (fun _=>P.some fun e=>by cases e) fun _=>P.beq (fun _=>P.some fun e=>by cases e) fun e=>(ih _ (by omega) (by omega) (by omega)).mono fun r hr e2 j h3 h4=>?_;by_cases e3:(j:Int)=k
  ·have e4:j=k.toNat:=by omega
   subst e4;exact e
  ·exact hr e2 j (by omega) h4
include hZ in
theorem aay{t:Int}(ht:t<=2147483648){f:cz}(hf:eO z rp t f)(hn:f.1.length=n){k:Int}(hk:0<=k/\k<z.length):P (D3 1000 f k) fun r=>r=false->(f.1.getD (z.getD k.toNat 0).toNat bM).2.2.1≠-1:=by
 have hze:=hf.ze;unfold D3;rw[hze];have hx:=hZ.zi.get (k:=k.toNat) (by omega);refine P.aA hk (P.call (KF ht hf (by rw[hn];exact hZ) (by rw[hn];exact hx)) fun p hp=>?_);obtain⟨p1,p2,p3⟩:=hp;have:=ajt f p (by omega) p1.Bp 1000 0 (by omega) (by omega) (by omega);rw[hze] at this;refine this.mono fun r hr e=>?_;have h0:=hr e 0 (by omega) p3;cases p1 with
 | nil h=>omega
 | cons h q=>exact h0
def th(z:List Int)(k:Int)(x:aT):Prop:=∀j:Nat,j<k->(x.2.2.2.2.2.1.getD j cG).1=false->(x.2.2.2.2.2.2.1.1.getD (z.getD j 0).toNat bM).2.2.1≠-1
include hS hZ hzs in
theorem aco(v:List Int)(hv:v.length=s.2.2.1.length)(b:Nat)(hb:b<=390)(t:Int)(ms:List aP):∀(f:Nat) (k:Int) (y:aT),0<=k->z.length<f+k->k<=z.length->Inv s z rp n b y->y.2.1=t->y.2.2.2.1=ms->th z k y->P (vu 1000 f z.length k y.1.1.1.1 y.1.1.1.2 y.1.1.2.1 y.1.1.2.2 y.1.2.1 y.1.2.2.1 y.1.2.2.2.1 y.1.2.2.2.2 y.2.1 y.2.2.1.1 y.2.2.1.2 y.2.2.2.1 y.2.2.2.2.1 y.2.2.2.2.2.2.1.1 y.2.2.2.2.2.2.1.2.1 y.2.2.2.2.2.2.1.2.2 y.2.2.2.2.2.2.2.1.1 y.2.2.2.2.2.2.2.1.2.1 y.2.2.2.2.2.2.2.1.2.2.1 y.2.2.2.2.2.2.2.1.2.2.2.1 y.2.2.2.2.2.2.2.1.2.2.2.2 y.2.2.2.2.2.1 y.2.2.2.2.2.2.2.2 v) fun o=>Inv s z rp n b o.2/\o.2.2.1=t/\o.2.2.2.2.1=ms/\th z z.length o.2:=by
 have hzn:=hZ.zn;have hcn:=hS.cn;intro f;induction f with
 | zero=>intros;omega
 | succ f ih=>
  intro k y h0 h1 h2 hI e1 e2 hL;have hic:=hI.ic;have his:=hI.is;rw[ae2,au (n:=k+1) (by omega) (by omega)];refine P.dec (fun hk=>?_) (fun hk=>P.some ⟨hI,e1,e2,fun j h3 h4=>hL j (by omega) h4⟩);have ext:∀(y':aT),(∀i,(y'.2.2.2.2.2.1.getD i cG).1=false->(y.2.2.2.2.2.1.getD i cG).1=false)->(∀i,(y'.2.2.2.2.2.2.1.1.getD i bM).2.2.1=-1->(y.2.2.2.2.2.2.1.1.getD i bM).2.2.1=-1)->((y'.2.2.2.2.2.1.getD k.toNat cG).1=false->(y'.2.2.2.2.2.2.1.1.getD (z.getD k.toNat 0).toNat bM).2.2.1≠-1)->th z (k+1) y':=fun y' g1 g2 g3 j h3 h4 h5=>by
   by_cases e3:(j:Int)=k
   ·have e4:j=k.toNat:=by omega
    subst e4;exact g3 h4 h5
   ·exact hL j (by omega) (g1 j h4) (g2 _ h5)
  refine P.aA (by omega) (P.bool (fun hc=>?_) fun hc=>?_)
  ·exact ih _ y (by omega) (by omega) (by omega) hI e1 e2 (ext y (fun _ h=>h) (fun _ h=>h) fun h4=>by rw[hc] at h4;cases h4)
  ·refine P.call (aay hZ hI.it.2 hI.jf hI.jn ⟨h0,hk⟩) fun d hd=>P.not (fun hd2=>?_) fun hd2=>?_
   ·exact ih _ y (by omega) (by omega) (by omega) hI e1 e2 (ext y (fun _ h=>h) (fun _ h=>h) fun _=>hd hd2)
   ·have hK:k.toNat<y.2.2.2.2.2.1.length:=by omega
    have g:∀w:bt,(y.2.2.2.2.2.1.set k.toNat w).getD k.toNat cG=w:=fun w=>by rw[jh,if_pos ⟨rfl,hK⟩]
    have hzl:y.1.2.2.2.1.length=z.length:=by rw[his,hzs]
    obtain⟨t1,t2,t3,t4⟩:=(hS.z _ (dU iU (show k.toNat<s.2.2.2.1.length by omega))).r;have t5:(y.1.2.2.2.1.getD k.toNat iU).1=t1.fl 0:=by rw[his];exact t4
    simp only[g,List.set_set,List.length_set];rw[t5];refine P.aA (by omega) (P.call (UJ t2 v (by omega) (hv▸t3)) fun r _=>P.aA (by omega) (P.aA (by omega) ?_));have hcs:=w9 (fun w:bt=> !w.1) cG (true,((y.2.2.2.2.2.1.getD k.toNat cG).2.1,r)) y.2.2.2.2.2.1 k.toNat hK;simp only[hc,Bool.not_false,Bool.not_true,if_true,Bool.false_eq_true,if_false] at hcs;have hip:=hI.ip;have hon:jk (y.2.2.2.2.2.1.set k.toNat (true,((y.2.2.2.2.2.1.getD k.toNat cG).2.1,r)))+1=jk y.2.2.2.2.2.1:=by unfold jk;omega
    obtain⟨b',rfl⟩:∃b',b=b'+1:=⟨b-1,by omega⟩;have hq:y.2.2.2.2.2.2.2.1.1≠k:=fun e=>by
     rcases hI.iq with h | ⟨h3,h4,_⟩
     ·omega
     ·rw[e,hc] at h4;cases h4
    have hI':Inv s z rp n b' (y.1,(y.2.1,(y.2.2.1,(y.2.2.2.1,(y.2.2.2.2.1,(y.2.2.2.2.2.1.set k.toNat (true,((y.2.2.2.2.2.1.getD k.toNat cG).2.1,r)),(y.2.2.2.2.2.2.1,(y.2.2.2.2.2.2.2.1,y.2.2.2.2.2.2.2.2)))))))):=
     {hI with
      ic:=by show(List.set _ _ _).length=_;rw[List.length_set];exact hic
      iq:=hI.iq.WX (by rw[List.length_set]) fun i hi=>by
       rw[jh];split
       ·rfl
       ·exact hi
      ip:=by dsimp only;omega}
    refine P.call (RB hZ hI' (by omega) ⟨h0,hk⟩ hq) fun o ho=>?_;obtain⟨o1,o2⟩:=ho;have hoc:o.2.2.2.2.2.2.1=y.2.2.2.2.2.1.set k.toNat (true,((y.2.2.2.2.2.1.getD k.toNat cG).2.1,r)):=o2.sc;refine ih _ o.2 (by omega) (by omega) (by omega) o1 (o2.st.trans e1) (o2.sm.trans e2) (ext o.2 (fun i hi=>?_) o2.sh fun hi=>?_)
    ·rw[hoc,jh] at hi;split at hi
     ·cases hi
     ·exact hi
    ·rw[hoc,g] at hi;cases hi
include hS hZ hzs in
theorem afx(v:List Int)(hv:v.length=s.2.2.1.length)(b:Nat)(hb:b<=390)(t:Int)(ms:List aP)(op:List Int):∀(f:Nat) (k:Int) (b':Nat) (y:aT),0<=k->op.length<f+k->k<=op.length->b'+op.length<=b+k->op.length<=900->Inv s z rp n b' y->y.2.1=t->y.2.2.2.1=ms->P (F8 1000 f op op.length k y.1.1.1.1 y.1.1.1.2 y.1.1.2.1 y.1.1.2.2 y.1.2.1 y.1.2.2.1 y.1.2.2.2.1 y.1.2.2.2.2 y.2.1 y.2.2.1.1 y.2.2.1.2 y.2.2.2.1 y.2.2.2.2.1 y.2.2.2.2.2.2.1.1 y.2.2.2.2.2.2.1.2.1 y.2.2.2.2.2.2.1.2.2 y.2.2.2.2.2.2.2.1.1 y.2.2.2.2.2.2.2.1.2.1 y.2.2.2.2.2.2.2.1.2.2.1 y.2.2.2.2.2.2.2.1.2.2.2.1 y.2.2.2.2.2.2.2.1.2.2.2.2 y.2.2.2.2.2.1 y.2.2.2.2.2.2.2.2 v) fun o=>Inv s z rp n b o.2/\o.2.2.1=t/\o.2.2.2.2.1=ms/\th z z.length o.2:=by
 have hzn:=hZ.zn;intro f;induction f with
 | zero=>intros;omega
 | succ f ih=>
  intro k b' y h0 h1 h2 h3 h4 hI e1 e2;have hip:=hI.ip;rw[afl,au (n:=k+1) (by omega) (by omega)];refine P.dec (fun hk=>?_) (fun hk=>?_)
  ·refine P.aA (by omega) (P.bind (pQ (x:=y) (by omega) _ _ _) ?_);exact ih _ (b'+1) _ (by omega) (by omega) (by omega) (by omega) h4 (hI.wz (.inl rfl) _ _) e1 e2
  ·rw[hI.ic];exact aco hS hZ hzs v hv b hb t ms 1000 0 y (by omega) (by omega) (by omega) (hI.mono (by omega)) e1 e2 fun j h=>by omega
include hS hZ hzs in
theorem Yw(v:List Int)(hv:v.length=s.2.2.1.length)(b:Nat)(hb:b<=390)(t:Int)(ms:List aP)(op la:List Int):∀(f:Nat) (k:Int) (b':Nat) (y:aT),0<=k->la.length<f+k->k<=la.length->b'+la.length+op.length<=b+k->op.length<=900->la.length<=900->Inv s z rp n b' y->y.2.1=t->y.2.2.2.1=ms->P (Hi 1000 f op la la.length k y.1.1.1.1 y.1.1.1.2 y.1.1.2.1 y.1.1.2.2 y.1.2.1 y.1.2.2.1 y.1.2.2.2.1 y.1.2.2.2.2 y.2.1 y.2.2.1.1 y.2.2.1.2 y.2.2.2.1 y.2.2.2.2.1 y.2.2.2.2.2.2.1.1 y.2.2.2.2.2.2.1.2.1 y.2.2.2.2.2.2.1.2.2 y.2.2.2.2.2.2.2.1.1 y.2.2.2.2.2.2.2.1.2.1 y.2.2.2.2.2.2.2.1.2.2.1 y.2.2.2.2.2.2.2.1.2.2.2.1 y.2.2.2.2.2.2.2.1.2.2.2.2 y.2.2.2.2.2.1 y.2.2.2.2.2.2.2.2 v) fun o=>Inv s z rp n b o.2/\o.2.2.1=t/\o.2.2.2.2.1=ms/\th z z.length o.2:=by
 intro f;induction f with
 | zero=>intros;omega
 | succ f ih=>
  intro k b' y h0 h1 h2 h3 h4 h5 hI e1 e2;have hip:=hI.ip;rw[age,au (n:=k+1) (by omega) (by omega)];refine P.dec (fun hk=>?_) (fun hk=>?_)
  ·refine P.aA (by omega) (P.bind (pQ (x:=y) (by omega) _ _ _) ?_);exact ih _ (b'+1) _ (by omega) (by omega) (by omega) (by omega) h4 h5 (hI.wz (.inr (.inl rfl)) _ _) e1 e2
  ·exact afx hS hZ hzs v hv b hb t ms op 1000 0 b' y (by omega) (by omega) (by omega) (by omega) h4 hI e1 e2
include hS hZ hzs in
theorem ah5(v:List Int)(hv:v.length=s.2.2.1.length)(b:Nat)(hb:b<=390)(t:Int)(ms:List aP)(now:List Int)(q:Int)(hnow:∀k,k∈now->(0<=k/\k<z.length)/\q≠k):∀(f:Nat) (k:Int) (b':Nat) (y:aT),0<=k->now.length<f+k->k<=now.length->b'+now.length<=b+k->now.length<=900->Inv s z rp n b' y->y.2.1=t->y.2.2.2.1=ms->y.2.2.2.2.2.2.2.1.1=q->P (Eh 1000 f t now.length k y.1.1.1.1 y.1.1.1.2 y.1.1.2.1 y.1.1.2.2 y.1.2.1 y.1.2.2.1 y.1.2.2.2.1 y.1.2.2.2.2 y.2.1 y.2.2.1.1 y.2.2.1.2 y.2.2.2.1 y.2.2.2.2.1 y.2.2.2.2.2.2.1.1 y.2.2.2.2.2.2.1.2.1 y.2.2.2.2.2.2.1.2.2 y.2.2.2.2.2.2.2.1.1 y.2.2.2.2.2.2.2.1.2.1 y.2.2.2.2.2.2.2.1.2.2.1 y.2.2.2.2.2.2.2.1.2.2.2.1 y.2.2.2.2.2.2.2.1.2.2.2.2 y.2.2.2.2.2.1 y.2.2.2.2.2.2.2.2 v now) fun o=>Inv s z rp n b o.2/\o.2.2.1=t/\o.2.2.2.2.1=ms/\th z z.length o.2:=by
 intro f;induction f with
 | zero=>intros;omega
 | succ f ih=>
  intro k b' y h0 h1 h2 h3 h4 hI e1 e2 e3;have hip:=hI.ip;rw[ZM,au (n:=k+1) (by omega) (by omega)];refine P.dec (fun hk=>?_) (fun hk=>?_)
  ·obtain⟨g1,g2⟩:=hnow _ (dU 0 (show k.toNat<now.length by omega));refine P.aA (by omega) (P.call (RB hZ (x:=y) hI (by omega) g1 (by rw[e3];exact g2)) fun o ho=>?_);obtain⟨o1,o2⟩:=ho;exact ih _ (b'+1) o.2 (by omega) (by omega) (by omega) (by omega) h4 o1 (o2.st.trans e1) (o2.sm.trans e2) (by rw[o2.sq];exact e3)
  ·refine P.call (as3 y.2.2.2.2.2.1 y.2.2.2.2.2.2.2.1) fun r hr=>?_;have ht:0<=t/\t<=2147483648:=e1▸hI.it;have hf:eO z rp t y.2.2.2.2.2.2.1:=e1▸hI.jf;refine P.call (ak4 (f:=y.2.2.2.2.2.2.1) ht hf (by rw[hI.jn];exact hZ)) fun o ho=>P.beq (fun _=>?_) fun e=>absurd ho.1 e;obtain⟨_,⟨p1,p2,p3⟩,p4⟩:=ho;have hle:=FY y.2.2.2.2.2.2.1.1;have hn:=hf.n;have hf2:o.1=(o.1.1,(z,rp)):=by rw[<-p4]
   have hI':Inv s z rp n (b'-o.2.1.length-o.2.2.1.length) (y.1,(y.2.1,(y.2.2.1,(y.2.2.2.1,(y.2.2.2.2.1,(y.2.2.2.2.2.1,(o.1,(r,y.2.2.2.2.2.2.2.2)))))))):=
    {hI with
     jf:=by show eO z rp y.2.1 o.1;rw[e1,hf2];exact p1
     jn:=by show o.1.1.length=n;rw[p2];exact hI.jn
     iq:=by
      show n9 s y.2.2.2.2.2.1 y.2.2.2.2.2.2.2.2 r;rcases hr with rfl | ⟨rfl,_⟩
      ·exact .inl rfl
      ·exact hI.iq
     ip:=by dsimp only;omega}
   have:=Yw hS hZ hzs v hv b hb t ms o.2.2.1 o.2.1 1000 0 _ _ (by omega) (by omega) (by omega) (by omega) (by omega) (by omega) hI' e1 e2;dsimp only at this;exact this
theorem Inv.time{b:Nat}{x:aT}(h:Inv s z rp n b x){t:Int}(h1:x.2.1<=t)(h2:t<=2147483648):Inv s z rp n b (x.1,(t,x.2.2)):=
 {h with
  it:=⟨by have:=h.it.1;show 0<=t;omega,h2⟩
  ik:=fun w hw=>by
   obtain⟨a1,a2,a3⟩:=h.ik w hw;exact⟨⟨a1.1,by show _<=t;omega⟩,a2,a3⟩
  jf:=h.jf.mono h1}
include hS hZ hzs in
theorem Cv{b:Nat}(hb:b<=390){x:aT}(h:Inv s z rp n b x){t:Int}(h1:x.2.1<=t)(h2:t<=2147483648):P (eB 1000 x t) fun o=>Inv s z rp n b o.2/\o.2.2.1=t/\o.2.2.2.2.1=x.2.2.2.1/\(th z z.length o.2\/∀fl,lh 1000 o.2=some (fl,())->fl.length≠s.1.1.2.length):=by
 have hn:=hS.sn;have hI:=h.time h1 h2;have hm:=hI.im;have his:x.1=s:=h.is;have hic:x.2.2.2.2.2.1.length=z.length:=h.ic;have hjn:x.2.2.2.2.2.2.1.1.length=n:=h.jn;have hV:Vs (sS (x.1,(t,x.2.2))):=by show Vs x.1;rw[his];exact hS
 obtain⟨fl,e1,e2,e3⟩:=Q0 (x:=(x.1,(t,x.2.2))) ⟨rfl,rfl,rfl⟩ hV (by show x.2.2.2.1.length<=900;have:x.2.2.2.1.length=s.2.1.length:=hm;omega);unfold eB;rw[e1];refine P.bind rfl ?_;dsimp only;rw[his];have hvs:=axu hS x.2.2.2.1 hm fl (by omega) hI.it x.2.2.2.2.1 hI.iw hI.ik;refine P.call hvs fun r hr=>P.bne (fun g=>?_) fun g=>?_
 ·rcases hr with hr | hr
  ·exact absurd hr.1 g
  ·refine P.some ⟨his▸hI,rfl,rfl,.inr fun fl' e=>?_⟩;have e4:lh 1000 (s,(t,x.2.2))=some (fl,()):=by rw[<-his];exact e1
   have:fl'=fl:=by
    have e:lh 1000 (s,(t,x.2.2))=some (fl',()):=e;exact((Prod.mk.inj (Option.some.inj (e4.symm.trans e))).1).symm
   rw[this];exact hr.2
 ·obtain⟨_,hv,_⟩:r.1.2.2=0/\zm s t r.1.1 r.1.2.1/\fl.length=s.1.1.2.length:=by
   rcases hr with hr | hr
   ·exact hr
   ·exact absurd g hr.1
  rw[uP h2 hI.jf (by rw[hI.jn];exact hZ)];refine P.bind rfl (P.bne (fun e=>absurd rfl e) fun _=>P.bne (fun e=>absurd ?_ e) fun _=>?_)
  ·rw[h.jf.ze,hzs]
  rw[adi];have hc:=axy hS r.1.1 hv.lv hI.it x.2.2.2.2.2.1 (by rw[hic];exact hzs);refine P.call hc fun q hq=>P.bne (fun e=>absurd hq.1 e) fun _=>?_;obtain⟨_,q1,q2,q3,q4⟩:=hq;have hip:x.2.2.2.2.2.2.2.2.length+jd x.2.2.2.2.2.2.1.1+jk x.2.2.2.2.2.1<=b:=h.ip;have hI':Inv s z rp n (b-q.1.2.1.length) (s,(t,(x.2.2.1,(x.2.2.2.1,(r.1.2.1,(q.1.1,(x.2.2.2.2.2.2.1,(x.2.2.2.2.2.2.2.1,x.2.2.2.2.2.2.2.2)))))))):=
   {his▸hI with
    iw:=hv.lw
    ik:=hv.kw
    ic:=by show q.1.1.length=_;rw[q1];exact hic
    iq:=h.iq.WX q1 q2
    ip:=by dsimp only;omega}
  refine(ah5 hS hZ hzs r.1.1 hv.lv b hb t x.2.2.2.1 q.1.2.1 x.2.2.2.2.2.2.2.1.1 (fun k hk=>⟨by have:=(q4 k hk).1;omega,fun e=>?_⟩) 1000 0 _ _ (by omega) ?_ (by omega) ?_ (by omega) hI' rfl rfl rfl).mono fun o ho=>⟨ho.1,ho.2.1,ho.2.2.1,.inl ho.2.2.2⟩
  ·rcases h.iq with h3 | ⟨h3,h4,_⟩
   ·have:=(q4 k hk).1;omega
   ·have:=(q4 k hk).2;rw[<-e] at this;rw[this] at h4;cases h4
  ·have:jk x.2.2.2.2.2.1<=b:=by omega
   omega
  ·omega
end
noncomputable section
variable {s:bX} {z:List Int} {rp:Int} {n:Nat} (hS:Vs s) (hZ:gM n z rp) (hzs:z.length=s.2.2.2.1.length)
include hS hZ hzs in
theorem Bv{b:Nat}(hb:b<=390){x:aT}(h:Inv s z rp n b x):lV 1000 x=some (x,()):=by
 have h1:=hS.sn;have h2:=hS.cn;have h3:=hZ.zn;have h4:=h.ir.n;have h5:=h.im;have h6:=h.iw;have h7:=h.ic;have h8:=h.jf.n;have h9:=h.ip;have h10:=h.jf.ze;unfold lV;rw[h.is,Lr hS];simp only[bH];rw[eG (by omega) (by omega),eG (by omega) (by omega),eG (by omega) (by omega),eG (by omega) (by omega),eG (by omega) (by omega),AT (by rw[h10];omega)];simp only[bH];rw[eG (by omega) (by omega)];obtain⟨a,x⟩:=x;have:=h.is;dsimp only at this;subst this;rfl
theorem Co(x:aT)(t:Int):P (pI 1000 x t) fun r=>r=false->x.2.1<=t/\t<=2147483648:=by
 unfold pI;exact P.dec (fun _=>P.some fun e=>by cases e) fun _=>P.some fun e=>by
  have:=of_decide_eq_false e;omega
include hS hZ hzs in
theorem Ov{b:Nat}{x:aT}(h:Inv s z rp n b x):∃fl,lh 1000 x=some (fl,()):=by
 have hn:=hS.sn;have hm:=h.im;obtain⟨fl,e1,_,_⟩:=Q0 (x:=x) ⟨rfl,rfl,rfl⟩ (by show Vs x.1;rw[h.is];exact hS) (by show x.2.2.2.1.length<=900;omega);exact⟨fl,e1⟩
include hS hZ hzs in
theorem QW{b:Nat}(hb:b<=390){x:aT}(h:Inv s z rp n b x)(i sh t:Int)(hsh:sh=(bif(x.2.2.2.2.2.2.1.1.getD i.toNat bM).2.2.2.1 then 1 else -1)):P (rz 1000 x i sh t) fun o=>Inv s z rp n b o.1:=by
 have hip:=h.ip;unfold rz;rw[Bv hS hZ hzs hb h];refine P.bind rfl (P.call (Co x t) fun r hr=>P.bool (fun _=>P.some h) fun e=>?_);obtain⟨t1,t2⟩:=hr e;refine P.call (ap4 h.it.2 h.jf (by rw[h.jn];exact hZ) i sh) fun o ho=>P.bne (fun _=>P.some h) fun e2=>?_;obtain⟨_,o1,o2,o3⟩:=ho e2;have o4:=o3 hsh;have hI:Inv s z rp n b (x.1,(x.2.1,(x.2.2.1,(x.2.2.2.1,(x.2.2.2.2.1,(x.2.2.2.2.2.1,(o.1,(x.2.2.2.2.2.2.2.1,x.2.2.2.2.2.2.2.2)))))))):=
  {h with
   jf:=o1
   jn:=o2.trans h.jn
   ip:=by dsimp only;omega}
 exact P.call (Cv hS hZ hzs hb hI t1 t2) fun q hq=>P.some hq.1
theorem apx(b:Nat)(t:Int)(h1:t<=2147483648)(fr:List lT)(hfr:fr.length<=800)(hS:Vs s)(hZ:gM n z rp)(hzs:z.length=s.2.2.2.1.length)(hb:b<=390):∀(f:Nat) (k:Int) (y:aT) (u0 u1 u2 u3 u4 u5 u6 u7:Int),0<=k->fr.length<f+k->k<=fr.length->Inv s z rp n b y->y.2.1<=t->P (yi 1000 f t fr fr.length k 0 0 0 0 0 0 0 0 y.1.1.1.1 y.1.1.1.2 y.1.1.2.1 y.1.1.2.2 y.1.2.1 y.1.2.2.1 y.1.2.2.2.1 y.1.2.2.2.2 y.2.1 y.2.2.1.1 y.2.2.1.2 y.2.2.2.2.2.2.1.1 y.2.2.2.2.2.2.1.2.1 y.2.2.2.2.2.2.1.2.2 y.2.2.2.2.2.2.2.1.1 y.2.2.2.2.2.2.2.1.2.1 y.2.2.2.2.2.2.2.1.2.2.1 y.2.2.2.2.2.2.2.1.2.2.2.1 y.2.2.2.2.2.2.2.1.2.2.2.2 y.2.2.2.1 y.2.2.2.2.1 y.2.2.2.2.2.1 y.2.2.2.2.2.2.2.2) fun o=>Inv s z rp n b o.1:=by
 have hsn:=hS.sn;intro f;induction f with
 | zero=>intros;omega
 | succ f ih=>
  intro k y _ _ _ _ _ _ _ _ h2 h3 h4 h5 h6;have h7:=h5.im;have h8:y.1.2.1.length<=64:=by rw[h5.is];exact hsn
  rw[My,au (by omega) (by omega)];refine P.dec (fun hk=>?_) (fun hk=>?_)
  ·refine P.aA (by omega) (P.call (aq1 _ h8 _ _) fun o ho=>P.beq (fun e=>P.dec (fun h9=>P.aA ⟨ho e,h9⟩ ?_) fun _=>ih _ y 0 0 0 0 0 0 0 0 (by omega) (by omega) (by omega) h5 h6) fun _=>ih _ y 0 0 0 0 0 0 0 0 (by omega) (by omega) (by omega) h5 h6);exact ih _ (y.1,(y.2.1,(y.2.2.1,(y.2.2.2.1.set o.1.1.toNat o.1,(y.2.2.2.2.1,(y.2.2.2.2.2.1,(y.2.2.2.2.2.2.1,(y.2.2.2.2.2.2.2.1,y.2.2.2.2.2.2.2.2)))))))) 0 0 0 0 0 0 0 0 (by omega) (by omega) (by omega) {h5 with im:=by show(List.set _ _ _).length=_;rw[List.length_set];exact h7} h6
  ·exact P.call (Cv hS hZ hzs hb (x:=y) h5 h6 h1) fun q hq=>P.some hq.1
include hS hZ hzs in
theorem K0{b:Nat}(hb:b<=390){x:aT}(h:Inv s z rp n b x){by_:List Int}(hy:By by_)(hl:by_.length<=300)(t:Int):P (iF 1000 x by_ t) fun o=>Inv s z rp n b o.1:=by
 unfold iF;rw[Bv hS hZ hzs hb h];refine P.bind rfl (P.call (Co x t) fun r hr=>P.bool (fun _=>P.some h) fun e=>?_);obtain⟨t1,t2⟩:=hr e;refine P.call (al6 h.ir hy hl) fun o ho=>?_;have:=apx b t t2 o.2 ho.2 hS hZ hzs hb 1000 0 (x.1,(x.2.1,(o.1,x.2.2.2))) 0 0 0 0 0 0 0 0 (by omega) (by have:=ho.2;omega) (by omega) {h with ir:=ho.1} t1;exact this
include hS hZ hzs in
theorem awg{b:Nat}(hb:b+4<=390){x:aT}(h:Inv s z rp n b x)(p k t:Int):P (tK 1000 x p k t) fun o=>Inv s z rp n (b+4) o.1:=by
 unfold tK;rw[Bv hS hZ hzs (by omega) h];refine P.bind rfl (P.call (Co x t) fun r hr=>P.bool (fun _=>P.some (h.mono (by omega))) fun e=>?_);obtain⟨t1,t2⟩:=hr e;refine P.call (Cv hS hZ hzs (by omega) h t1 t2) fun q hq=>?_;obtain⟨hI,_,_,_⟩:=hq;obtain⟨fl,ef⟩:=Ov hS hZ hzs hI;have hip:=hI.ip;refine P.bind ef ?_;rw[hI.is];refine P.call (ang hS _ _ _ _ _ _) fun o ho=>P.bne (fun _=>?_) fun e=>?_
 ·exact P.bind (pQ (by omega) _ _ _) (P.some ((hI.wz (.inr (.inr rfl)) _ _).mono (by omega)))
 ·obtain⟨o1,o2,o3,o4,o5⟩:=ho e;refine P.bind (pQ (by show q.2.2.2.2.2.2.2.2.2.length<400;omega) _ _ _) (P.some ?_);refine{hI with is:=rfl,iq:=?_,il:=hI.il.app (fun e=>absurd e (show(4:Int)≠6 by decide)),ip:=?_}
  ·show n9 s q.2.2.2.2.2.2.1 (q.2.2.2.2.2.2.2.2.2++[(q.2.2.1,(4,(k,p)))]) o.1;rw[o2];refine .inr ⟨o4,o5,?_,o3,fun e=>absurd e (show(1:Int)≠2 by decide)⟩;show(scan k _).1=p;rw[B3];unfold lN;rw[if_neg (show¬(k≠k) by simp),if_neg (show¬(4:Int)=1 by decide),if_pos rfl]
  ·show(_++[_]).length+jd q.2.2.2.2.2.2.2.1.1+jk q.2.2.2.2.2.2.1<=b+4;rw[List.length_append,List.length_singleton];show q.2.2.2.2.2.2.2.2.2.length+1+_+_<=_;omega
include hS hZ hzs in
theorem aai{b:Nat}(hb:b+4<=390){x:aT}(h:Inv s z rp n b x)(p t:Int):P (s9 1000 x p t) fun o=>Inv s z rp n (b+4) o.1:=by
 unfold s9;rw[Bv hS hZ hzs (by omega) h];refine P.bind rfl (P.call (Co x t) fun r hr=>P.bool (fun _=>P.some (h.mono (by omega))) fun e=>?_);obtain⟨t1,t2⟩:=hr e;refine P.call (Cv hS hZ hzs (by omega) h t1 t2) fun q hq=>?_;obtain⟨hI,_,_,_⟩:=hq;obtain⟨fl,ef⟩:=Ov hS hZ hzs hI;have hip:=hI.ip;refine P.bind ef ?_;rw[hI.is];refine P.call (agl hS _ _ _ _ _) fun o ho=>P.bne (fun _=>?_) fun e=>?_
 ·exact P.bind (pQ (by omega) _ _ _) (P.some ((hI.wz (.inr (.inr rfl)) _ _).mono (by omega)))
 ·obtain⟨o1,o2,o3,o4,o5,o6,o7,o8⟩:=ho e;refine P.bind (pQ (by show q.2.2.2.2.2.2.2.2.2.length<400;omega) _ _ _) (P.some ?_);refine{hI with is:=rfl,iq:=?_,il:=hI.il.app (fun e=>absurd e (show(5:Int)≠6 by decide)),ip:=?_}
  ·show n9 s q.2.2.2.2.2.2.1 (q.2.2.2.2.2.2.2.2.2++[(q.2.2.1,(5,(q.2.2.2.2.2.2.2.2.1.1,p)))]) o.1;rw[o3];obtain⟨g1,g2,g3,g4,_⟩:(0<=q.2.2.2.2.2.2.2.2.1.1/\q.2.2.2.2.2.2.2.2.1.1<q.2.2.2.2.2.2.1.length)/\(q.2.2.2.2.2.2.1.getD q.2.2.2.2.2.2.2.2.1.1.toNat cG).1=true/\(scan q.2.2.2.2.2.2.2.2.1.1 q.2.2.2.2.2.2.2.2.2).1=q.2.2.2.2.2.2.2.2.1.2.1/\vG s q.2.2.2.2.2.2.2.2.1.2.1/\_:=by
    rcases hI.iq with h | h
    ·exact absurd h o1
    ·exact h
   have hsc:scan q.2.2.2.2.2.2.2.2.1.1 (q.2.2.2.2.2.2.2.2.2++[(q.2.2.1,(5,(q.2.2.2.2.2.2.2.2.1.1,p)))])=((scan q.2.2.2.2.2.2.2.2.1.1 q.2.2.2.2.2.2.2.2.2).1,p):=by
    rw[B3];unfold lN;rw[if_neg (show¬(q.2.2.2.2.2.2.2.2.1.1≠q.2.2.2.2.2.2.2.2.1.1) by simp),if_neg (show¬(5:Int)=1 by decide),if_neg (show¬(5:Int)=4 by decide),if_pos rfl]
   refine .inr ⟨g1,g2,?_,g4,fun _=>⟨?_,o4,o6⟩⟩
   ·show(scan q.2.2.2.2.2.2.2.2.1.1 _).1=_;rw[hsc];exact g3
   ·show(scan q.2.2.2.2.2.2.2.2.1.1 _).2=p;rw[hsc]
  ·show(_++[_]).length+jd q.2.2.2.2.2.2.2.1.1+jk q.2.2.2.2.2.2.1<=b+4;rw[List.length_append,List.length_singleton];show q.2.2.2.2.2.2.2.2.2.length+1+_+_<=_;omega
include hS hZ hzs in
theorem ad9{b:Nat}(hb:b+4<=390){x:aT}(h:Inv s z rp n b x)(t:Int):P (tF 1000 x t) fun o=>Inv s z rp n (b+4) o.1:=by
 have hzn:=hZ.zn;unfold tF;rw[Bv hS hZ hzs (by omega) h];refine P.bind rfl (P.call (Co x t) fun r hr=>P.bool (fun _=>P.some (h.mono (by omega))) fun e=>?_);obtain⟨t1,t2⟩:=hr e;refine P.call (Cv hS hZ hzs (by omega) h t1 t2) fun q hq=>?_;obtain⟨hI,hT,_,hL⟩:=hq;obtain⟨fl,ef⟩:=Ov hS hZ hzs hI;have hip:=hI.ip;have hic:=hI.ic;have hjn:=hI.jn;refine P.bind ef ?_;rw[hI.is];have hit:=hI.it;rw[hT] at hit;have hjf:=hI.jf;rw[hT] at hjf;refine P.call (acb hS q.2.2.2.2.2.2.1 (by omega) fl q.2.2.2.2.2.2.2.2.1 hit hjf (by rw[hjn];exact hZ) hzs) fun o ho=>P.bne (fun _=>?_) fun e=>?_
 ·exact P.bind (pQ (by omega) _ _ _) (P.some ((hI.wz (.inr (.inr rfl)) _ _).mono (by omega)))
 ·obtain⟨hfl,⟨c1,c2⟩,c3,c4,at_,c5,c6,c7,c8,c9,c10⟩:=ho e;have hL:th z z.length q.2:=by
   rcases hL with hL | hL
   ·exact hL
   ·exact absurd hfl (hL fl ef)
  refine P.bind c5 (P.bind (pQ (by show q.2.2.2.2.2.2.2.2.2.length<400;omega) _ _ _) (P.some ?_));obtain⟨g1,g2,g3,g4,g5⟩:(0<=q.2.2.2.2.2.2.2.2.1.1/\q.2.2.2.2.2.2.2.2.1.1<q.2.2.2.2.2.2.1.length)/\(q.2.2.2.2.2.2.1.getD q.2.2.2.2.2.2.2.2.1.1.toNat cG).1=true/\(scan q.2.2.2.2.2.2.2.2.1.1 q.2.2.2.2.2.2.2.2.2).1=q.2.2.2.2.2.2.2.2.1.2.1/\vG s q.2.2.2.2.2.2.2.2.1.2.1/\(q.2.2.2.2.2.2.2.2.1.2.2.2.1=2->(scan q.2.2.2.2.2.2.2.2.1.1 q.2.2.2.2.2.2.2.2.2).2=q.2.2.2.2.2.2.2.2.1.2.2.1/\vG s q.2.2.2.2.2.2.2.2.1.2.2.1/\role s q.2.2.2.2.2.2.2.2.1.2.2.1≠role s q.2.2.2.2.2.2.2.2.1.2.1):=by
   rcases hI.iq with h | h
   ·exact absurd h c1
   ·exact h
  obtain⟨g6,g7,g8⟩:=g5 c2;have hlaw:∀k:Nat,k<z.length->z.getD k 0=at_->vF s (scan k q.2.2.2.2.2.2.2.2.2):=fun k hk hz=>by
   by_cases e2:(k:Int)=q.2.2.2.2.2.2.2.2.1.1
   ·rw[e2];unfold vF;rw[g3,g6];exact⟨g4,g7,fun e=>g8 e.symm⟩
   ·cases e3:(q.2.2.2.2.2.2.1.getD k cG).1 with
    | true=>exact absurd hz (c9 k (by omega) hk e2 e3)
    | false=>
     have:=hL k (by omega) e3;rw[hz] at this;exact absurd c7 this
  have hsc:∀k:Int,scan k (q.2.2.2.2.2.2.2.2.2++[(q.2.2.1,((6:Int),(at_,(0:Int))))])=scan k q.2.2.2.2.2.2.2.2.2:=fun k=>by rw[B3];exact XC (by omega)
  have hps:=wh (cls t (q.2.2.2.2.2.2.2.1.1.getD at_.toNat bM)) q.2.2.2.2.2.2.2.1.1 at_.toNat (by omega);have hpc:ko (cls t (q.2.2.2.2.2.2.2.1.1.getD at_.toNat bM))=2:=rfl;rw[hpc] at hps;have hwl:=hI.jf.w at_.toNat (by omega);rw[c8];have e1:o.1.2.1.length=q.2.2.2.2.2.2.1.length/\jk o.1.2.1<=jk q.2.2.2.2.2.2.1+1/\n9 s o.1.2.1 (q.2.2.2.2.2.2.2.2.2++[(q.2.2.1,((6:Int),(at_,(0:Int))))]) o.1.1:=by
   rcases c10 with⟨_,d1,d2⟩ | ⟨d1,d2⟩
   ·rw[d1,d2];refine⟨rfl,by omega,.inr ⟨g1,g2,?_,g4,fun _=>⟨?_,g7,g8⟩⟩⟩
    ·show(scan q.2.2.2.2.2.2.2.2.1.1 _).1=_;rw[hsc];exact g3
    ·show(scan q.2.2.2.2.2.2.2.2.1.1 _).2=_;rw[hsc];exact g6
   ·rw[d1,d2];refine⟨List.length_set,?_,.inl rfl⟩;have:=w9 (fun w:bt=> !w.1) cG (false,(q.2.2.2.2.2.2.1.getD q.2.2.2.2.2.2.2.2.1.1.toNat cG).2) q.2.2.2.2.2.2.1 q.2.2.2.2.2.2.2.2.1.1.toNat (by omega);simp only[g2,Bool.not_false,Bool.not_true,if_true,Bool.false_eq_true,if_false] at this;unfold jk;omega
  obtain⟨e1,e2,e3⟩:=e1;refine{hI with is:=rfl,ic:=e1.trans hic,jf:=?_,jn:=?_,iq:=e3,il:=hI.il.app (fun _=>hlaw),ip:=?_}
  ·show eO z rp q.2.2.1 (q.2.2.2.2.2.2.2.1.1.set at_.toNat (cls t (q.2.2.2.2.2.2.2.1.1.getD at_.toNat bM)),q.2.2.2.2.2.2.2.1.2);rw[<-hT];exact hI.jf.set (awh hwl hI.it.1)
  ·show(List.set _ _ _).length=n;rw[List.length_set];exact hjn
  ·show(_++[_]).length+jd (List.set _ _ _)+jk o.1.2.1<=b+4;rw[List.length_append,List.length_singleton];show q.2.2.2.2.2.2.2.2.2.length+1+_+_<=_;omega
end
noncomputable section
variable {s:bX} {z:List Int} {rp:Int} {n:Nat} (hS:Vs s) (hZ:gM n z rp) (hzs:z.length=s.2.2.2.1.length)
include hS hZ hzs in
theorem anm{b:Nat}(hb:b<=390)(n1 m:Nat)(hm:m<=32)(rd:Int)(st:List Bool)(hst:st.length=m)(Q:aT×qz->Prop)(hQ:∀y cl,Inv s z rp n b y->cl.length=m->Q (y,(cl,st)))
  (hR:∀(y:aT) (cl:List Bool),Inv s z rp n b y->cl.length=m->P (BW 1000 n1 (W (rd+1)) cl st y.1.1.1.1 y.1.1.1.2 y.1.1.2.1 y.1.1.2.2 y.1.2.1 y.1.2.2.1 y.1.2.2.2.1 y.1.2.2.2.2 y.2.1 y.2.2.1.1 y.2.2.1.2 y.2.2.2.1 y.2.2.2.2.1 y.2.2.2.2.2.1 y.2.2.2.2.2.2.1.1 y.2.2.2.2.2.2.1.2.1 y.2.2.2.2.2.2.1.2.2 y.2.2.2.2.2.2.2.1.1 y.2.2.2.2.2.2.2.1.2.1 y.2.2.2.2.2.2.2.1.2.2.1 y.2.2.2.2.2.2.2.1.2.2.2.1 y.2.2.2.2.2.2.2.1.2.2.2.2 y.2.2.2.2.2.2.2.2 0 0 0 0 0 0 0 0) Q):
  ∀(f:Nat) (k:Int) (ag:Bool) (cl:List Bool) (y:aT),0<=k->m<f+k->k<=m->cl.length=m->Inv s z rp n b y->P (qQ 1000 n1 f rd ag m k cl st y.1.1.1.1 y.1.1.1.2 y.1.1.2.1 y.1.1.2.2 y.1.2.1 y.1.2.2.1 y.1.2.2.2.1 y.1.2.2.2.2 y.2.1 y.2.2.1.1 y.2.2.1.2 y.2.2.2.1 y.2.2.2.2.1 y.2.2.2.2.2.1 y.2.2.2.2.2.2.1.1 y.2.2.2.2.2.2.1.2.1 y.2.2.2.2.2.2.1.2.2 y.2.2.2.2.2.2.2.1.1 y.2.2.2.2.2.2.2.1.2.1 y.2.2.2.2.2.2.2.1.2.2.1 y.2.2.2.2.2.2.2.1.2.2.2.1 y.2.2.2.2.2.2.2.1.2.2.2.2 y.2.2.2.2.2.2.2.2 0 0 0 0 0 0 0 0) Q:=by
 intro f;induction f with
 | zero=>intros;omega
 | succ f ih=>
  intro k ag cl y h0 h1 h2 h3 hI;rw[ZK,au (by omega) (by omega)];refine P.dec (fun hk=>?_) (fun hk=>P.not (fun _=>P.some (hQ y cl hI h3)) fun _=>hR y cl hI h3);have nx:=fun ag cl' (hc:cl'.length=m) y' (hI:Inv s z rp n b y')=>ih (k+1) ag cl' y' (by omega) (by omega) (by omega) hc hI;refine P.dec (fun _=>nx _ _ h3 _ hI) fun h4=>P.aA (by omega) (P.bool (fun _=>nx _ _ h3 _ hI) fun _=>P.aA (by omega) ?_);dsimp only;have hs:∀b:Bool,(cl.set k.toNat b).length=m:=fun b=>by rw[List.length_set];exact h3
  refine P.aA (by omega) (P.bool (fun e=>P.bne (fun _=>?_) fun _=>nx _ _ (hs _) _ hI) fun e=>P.bne (fun _=>?_) fun _=>nx _ _ (hs _) _ hI)
  ·refine P.call (QW hS hZ hzs hb hI k 1 y.2.1 (by rw[e];rfl)) fun o ho=>nx _ _ (hs _) _ ho
  ·refine P.call (QW hS hZ hzs hb hI k (-1) y.2.1 (by rw[e];rfl)) fun o ho=>nx _ _ (hs _) _ ho
include hS hZ hzs in
theorem acu{b:Nat}(hb:b<=390)(m:Nat)(hm:m<=32)(st:List Bool)(hst:st.length=m):∀(f:Nat) (k:Int) (cl:List Bool) (y:aT),0<=k->2*m+2<f+k->k<=2*m+2->cl.length=m->Inv s z rp n b y->P (BW 1000 f k cl st y.1.1.1.1 y.1.1.1.2 y.1.1.2.1 y.1.1.2.2 y.1.2.1 y.1.2.2.1 y.1.2.2.2.1 y.1.2.2.2.2 y.2.1 y.2.2.1.1 y.2.2.1.2 y.2.2.2.1 y.2.2.2.2.1 y.2.2.2.2.2.1 y.2.2.2.2.2.2.1.1 y.2.2.2.2.2.2.1.2.1 y.2.2.2.2.2.2.1.2.2 y.2.2.2.2.2.2.2.1.1 y.2.2.2.2.2.2.2.1.2.1 y.2.2.2.2.2.2.2.1.2.2.1 y.2.2.2.2.2.2.2.1.2.2.2.1 y.2.2.2.2.2.2.2.1.2.2.2.2 y.2.2.2.2.2.2.2.2 0 0 0 0 0 0 0 0) fun o=>Inv s z rp n b o.1/\o.2.1.length=m/\o.2.2.length=m:=by
 intro f;induction f with
 | zero=>intros;omega
 | succ f ih=>
  intro k cl y h0 h1 h2 h3 hI;rw[amq,h3,au (n:=2*(m:Int)) (by omega) (by omega),au (by omega) (by omega)];refine P.dec (fun hk=>?_) (fun hk=>P.some ⟨hI,h3,hst⟩);refine anm hS hZ hzs hb f m hm k st hst _ (fun y cl h hc=>⟨h,hc,hst⟩) (fun y cl h hc=>?_) 1000 0 false cl y (by omega) (by omega) (by omega) h3 hI;rw[au (by omega) (by omega)];exact ih _ cl y (by omega) (by omega) (by omega) hc h
include hS hZ hzs in
theorem aws{b:Nat}(hb:b<=390){m:Nat}(hm:m<=32){p:qz}(h1:p.1.length=m)(h2:p.2.length=m){x:aT}(hI:Inv s z rp n b x):P (jr (.p (.a .bool) (.a .bool)) (p.1,p.2) (om 1000 x p)) fun o=>Inv s z rp n b o.1/\o.2.1.length=m/\o.2.2.length=m:=by
 have h:P (om 1000 x p) fun o=>Inv s z rp n b o.1/\o.2.1.length=m/\o.2.2.length=m:=by
  unfold om;exact acu hS hZ hzs hb m hm p.2 h2 1000 0 p.1 x (by omega) (by omega) (by omega) h1 hI
 obtain⟨o,e,ho⟩:=h;refine⟨o,?_,ho⟩;have hb:mV (.p (.a .bool) (.a .bool)) (p.1,p.2) o.2=true:=by
  show(Nat.beq p.1.length o.2.1.length && Nat.beq p.2.length o.2.2.length)=true;rw[h1,h2,ho.2.1,ho.2.2,Nat.beq_refl];rfl
 rw[e];unfold jr;show(bif mV (.p (.a .bool) (.a .bool)) (p.1,p.2) o.2 then some o else none)=some o;rw[hb];rfl
theorem apb(s:bX)(zo:Int)(l:List aP)(hl:l.length<=900)(hA:vF s (scan zo l))(x7:List bj)(x8:List aR)(x9:List bC)(aj:List bu)(ak:List bJ)(av:List cB)(ai:List cC):∀(f:Nat) (k:Int) (a:Int×Int),0<=k->l.length<f+k->k<=l.length->a=scan zo (l.take k.toNat)->P (te 1000 f zo a.1 a.2 l l.length k x7 x8 x9 aj ak av ai s.2.2.2.2) fun r=>r=true:=by
 intro f;induction f with
 | zero=>intros;omega
 | succ f ih=>
  intro k a h0 h1 h2 h3;rw[afj,au (by omega) (by omega)];refine P.dec (fun hk=>?_) (fun hk=>?_)
  ·have hn:scan zo (l.take (k+1).toNat)=lN zo a (l.getD k.toNat dN):=by
    rw[show(k+1).toNat=k.toNat+1 by omega,<-take_succ dN (by omega),B3,h3]
   refine P.aA (by omega) ?_;dsimp only;generalize l.getD k.toNat dN=y at hn;unfold lN at hn;refine P.bne (fun e=>?_) fun e=>P.beq (fun e1=>?_) fun e1=>P.beq (fun e2=>?_) fun e2=>P.beq (fun e3=>?_) fun e3=>?_
   ·rw[if_pos e] at hn;exact ih _ a (by omega) (by omega) (by omega) hn.symm
   ·rw[if_neg (by simp[e]),if_pos e1] at hn;exact ih _ (-1,-1) (by omega) (by omega) (by omega) hn.symm
   ·rw[if_neg (by simp[e]),if_neg e1,if_pos e2] at hn;exact ih _ (y.2.2.2,-1) (by omega) (by omega) (by omega) hn.symm
   ·rw[if_neg (by simp[e]),if_neg e1,if_neg e2,if_pos e3] at hn;exact ih _ (a.1,y.2.2.2) (by omega) (by omega) (by omega) hn.symm
   ·rw[if_neg (by simp[e]),if_neg e1,if_neg e2,if_neg e3] at hn;exact ih _ a (by omega) (by omega) (by omega) hn.symm
  ·rw[List.take_of_length_le (by omega)] at h3;rw[<-h3] at hA;obtain⟨⟨a1,a2⟩,⟨a3,a4⟩,a5⟩:=hA;refine P.dec (fun _=>P.dec (fun _=>P.dec (fun _=>P.dec (fun _=>P.aA (by omega) (P.aA (by omega) (P.some (by simpa[role] using a5)))) fun h=>absurd a4 h) fun h=>absurd a3 h) fun h=>absurd a2 h) fun h=>absurd a1 h
theorem aef(s:bX)(zo:Int)(l:List aP)(hl:l.length<=900)(hA:vF s (scan zo l)):Hv 1000 s l zo=some true:=by
 unfold Hv;obtain⟨_,e,rfl⟩:=apb s zo l hl hA s.1.1.1 s.1.1.2 s.1.2.1 s.1.2.2 s.2.1 s.2.2.1 s.2.2.2.1 1000 0 (-1,-1) (by omega) (by omega) (by omega) rfl;exact e
end
noncomputable section
variable {s:bX} {z:List Int} {rp:Int} {n:Nat} (hS:Vs s) (hZ:gM n z rp) (hzs:z.length=s.2.2.2.1.length)
structure Op (s:bX) (z:List Int) (rp:Int) (n m w c:Nat) (y:aT):Prop where
 is:y.1=s
 it:y.2.1=0
 ir:y.2.2.1=([],0)
 im:y.2.2.2.1.length=m
 iw:y.2.2.2.2.1.length=w
 ik:∀x,x∈y.2.2.2.2.1->Wk 0 x
 ic:y.2.2.2.2.2.1.length=c
 jf:eO z rp 0 y.2.2.2.2.2.2.1
 jn:y.2.2.2.2.2.2.1.1.length=n
 iq:y.2.2.2.2.2.2.2.1.1=-1
 il:y.2.2.2.2.2.2.2.2=[]
include hS hZ hzs in
theorem ahd:∀(f:Nat) (k:Nat) (y:aT),s.2.2.2.1.length<f+k->k<=s.2.2.2.1.length->Op s z rp n s.2.1.length s.2.2.1.length k y->P (HM 1000 f s.2.2.2.1.length k 0 0 0 0 0 0 0 0 y.1.1.1.1 y.1.1.1.2 y.1.1.2.1 y.1.1.2.2 y.1.2.1 y.1.2.2.1 y.1.2.2.2.1 y.1.2.2.2.2 y.2.1 y.2.2.1.1 y.2.2.1.2 y.2.2.2.2.2.2.1.1 y.2.2.2.2.2.2.1.2.1 y.2.2.2.2.2.2.1.2.2 y.2.2.2.2.2.2.2.1.1 y.2.2.2.2.2.2.2.1.2.1 y.2.2.2.2.2.2.2.1.2.2.1 y.2.2.2.2.2.2.2.1.2.2.2.1 y.2.2.2.2.2.2.2.1.2.2.2.2 y.2.2.2.1 y.2.2.2.2.1 y.2.2.2.2.2.1 y.2.2.2.2.2.2.2.2) fun o=>o.2=0/\Inv s z rp n 80 o.1:=by
 have hzn:=hZ.zn;intro f;induction f with
 | zero=>intros;omega
 | succ f ih=>
  intro k y h1 h2 h;have hic:=h.ic;rw[aqp,jX (by omega)];refine P.dec (fun hk=>?_) (fun hk=>P.some ⟨rfl,?_⟩)
  ·refine P.fits (by omega) (by omega) ?_;exact ih (k+1) (y.1,(y.2.1,(y.2.2.1,(y.2.2.2.1,(y.2.2.2.2.1,(y.2.2.2.2.2.1++[(true,(-1,0))],(y.2.2.2.2.2.2.1,(y.2.2.2.2.2.2.2.1,y.2.2.2.2.2.2.2.2)))))))) (by omega) (by omega) {h with ic:=by show(_++[_]).length=_;rw[List.length_append,List.length_singleton,hic]}
  ·have h3:=FY y.2.2.2.2.2.2.1.1;have h4:jk y.2.2.2.2.2.1<=y.2.2.2.2.2.1.length:=List.countP_le_length;have h5:=h.jf.n;have h6:=h.il;have h7:=h.it;refine{is:=h.is,it:=?_,ir:=?_,im:=h.im,iw:=h.iw,ik:=?_,ic:=?_,jf:=?_,jn:=h.jn,iq:=.inl h.iq,il:=?_,ip:=?_}
   ·show 0<=y.2.1/\y.2.1<=_;omega
   ·rw[h.ir];exact⟨fun _ hx=>by(cases hx),by decide⟩
   ·rw[h7];exact h.ik
   ·show y.2.2.2.2.2.1.length=_;omega
   ·rw[h7];exact h.jf
   ·rw[h6];intro i hi;cases hi
   ·show y.2.2.2.2.2.2.2.2.length+jd y.2.2.2.2.2.2.1.1+jk y.2.2.2.2.2.1<=80;rw[h6,List.length_nil];omega
include hS hZ hzs in
theorem aqq:∀(f:Nat) (k:Nat) (y:aT),s.2.2.1.length<f+k->k<=s.2.2.1.length->Op s z rp n s.2.1.length k 0 y->P (Hj 1000 f s.2.2.1.length k s.1.1.1 s.1.1.2 s.1.2.1 s.1.2.2 s.2.1 s.2.2.1 s.2.2.2.1 s.2.2.2.2 0 0 0 0 0 0 0 0 y.1.1.1.1 y.1.1.1.2 y.1.1.2.1 y.1.1.2.2 y.1.2.1 y.1.2.2.1 y.1.2.2.2.1 y.1.2.2.2.2 y.2.1 y.2.2.1.1 y.2.2.1.2 y.2.2.2.2.2.2.1.1 y.2.2.2.2.2.2.1.2.1 y.2.2.2.2.2.2.1.2.2 y.2.2.2.2.2.2.2.1.1 y.2.2.2.2.2.2.2.1.2.1 y.2.2.2.2.2.2.2.1.2.2.1 y.2.2.2.2.2.2.2.1.2.2.2.1 y.2.2.2.2.2.2.2.1.2.2.2.2 y.2.2.2.1 y.2.2.2.2.1 y.2.2.2.2.2.1 y.2.2.2.2.2.2.2.2) fun o=>o.2=0/\Inv s z rp n 80 o.1:=by
 have hcn:=hS.cn;have hzn:=hZ.zn;intro f;induction f with
 | zero=>intros;omega
 | succ f ih=>
  intro k y h1 h2 h;have hiw:=h.iw;rw[anx,jX (by omega)];refine P.dec (fun hk=>?_) (fun hk=>?_)
  ·refine P.bind rfl (P.fits (by omega) (by omega) ?_);exact ih (k+1) (y.1,(y.2.1,(y.2.2.1,(y.2.2.2.1,(y.2.2.2.2.1++[(true,(-1,0))],(y.2.2.2.2.2.1,(y.2.2.2.2.2.2.1,(y.2.2.2.2.2.2.2.1,y.2.2.2.2.2.2.2.2)))))))) (by omega) (by omega) {h with iw:=by{rw[List.length_append,List.length_singleton,hiw]},ik:=j4 h.ik ⟨⟨by decide,by decide⟩,⟨by decide,by decide⟩,fun _=>rfl⟩}
  ·exact ahd hS hZ hzs 1000 0 y (by omega) (by omega) {h with iw:=by omega}
include hS hZ hzs in
theorem asj:∀(f:Nat) (k:Nat) (y:aT),s.2.1.length<f+k->k<=s.2.1.length->Op s z rp n k 0 0 y->P (EN 1000 f s.2.1.length k s.1.1.1 s.1.1.2 s.1.2.1 s.1.2.2 s.2.1 s.2.2.1 s.2.2.2.1 s.2.2.2.2 0 0 0 0 0 0 0 0 y.1.1.1.1 y.1.1.1.2 y.1.1.2.1 y.1.1.2.2 y.1.2.1 y.1.2.2.1 y.1.2.2.2.1 y.1.2.2.2.2 y.2.1 y.2.2.1.1 y.2.2.1.2 y.2.2.2.2.2.2.1.1 y.2.2.2.2.2.2.1.2.1 y.2.2.2.2.2.2.1.2.2 y.2.2.2.2.2.2.2.1.1 y.2.2.2.2.2.2.2.1.2.1 y.2.2.2.2.2.2.2.1.2.2.1 y.2.2.2.2.2.2.2.1.2.2.2.1 y.2.2.2.2.2.2.2.1.2.2.2.2 y.2.2.2.1 y.2.2.2.2.1 y.2.2.2.2.2.1 y.2.2.2.2.2.2.2.2) fun o=>o.2=0/\Inv s z rp n 80 o.1:=by
 have hcn:=hS.cn;have hsn:=hS.sn;intro f;induction f with
 | zero=>intros;omega
 | succ f ih=>
  intro k y h1 h2 h;have him:=h.im;rw[am6,jX (by omega)];refine P.dec (fun hk=>?_) (fun hk=>?_)
  ·refine P.fits (by omega) (by omega) ?_;exact ih (k+1) (y.1,(y.2.1,(y.2.2.1,(y.2.2.2.1++[(-1,(0,(0,0)))],(y.2.2.2.2.1,(y.2.2.2.2.2.1,(y.2.2.2.2.2.2.1,(y.2.2.2.2.2.2.2.1,y.2.2.2.2.2.2.2.2)))))))) (by omega) (by omega) {h with im:=by{rw[List.length_append,List.length_singleton,him]}}
  ·exact aqq hS hZ hzs 1000 0 y (by omega) (by omega) {h with im:=by omega}
include hS hZ hzs in
theorem aju:∀(f:Nat) (k:Nat) (y:aT),n<f+k->k<=n->Op s z rp n 0 0 0 y->P (Ba 1000 f n k s.1.1.1 s.1.1.2 s.1.2.1 s.1.2.2 s.2.1 s.2.2.1 s.2.2.2.1 s.2.2.2.2 0 0 0 0 0 0 0 0 y.1.1.1.1 y.1.1.1.2 y.1.1.2.1 y.1.1.2.2 y.1.2.1 y.1.2.2.1 y.1.2.2.2.1 y.1.2.2.2.2 y.2.1 y.2.2.1.1 y.2.2.1.2 y.2.2.2.2.2.2.1.1 y.2.2.2.2.2.2.1.2.1 y.2.2.2.2.2.2.1.2.2 y.2.2.2.2.2.2.2.1.1 y.2.2.2.2.2.2.2.1.2.1 y.2.2.2.2.2.2.2.1.2.2.1 y.2.2.2.2.2.2.2.1.2.2.2.1 y.2.2.2.2.2.2.2.1.2.2.2.2 y.2.2.2.1 y.2.2.2.2.1 y.2.2.2.2.2.1 y.2.2.2.2.2.2.2.2) fun o=>o.2=0/\Inv s z rp n 80 o.1:=by
 have hsn:=hS.sn;intro f;induction f with
 | zero=>intros;omega
 | succ f ih=>
  intro k y h1 h2 h;have hn:=h.jf.n;have hjn:=h.jn;rw[auy,jX (by omega)];refine P.dec (fun hk=>?_) (fun hk=>?_)
  ·refine P.bind (Ss ⟨Int.le_refl 0,by decide⟩ h.jf (by rw[hjn];exact hZ) (by omega)) ?_;have hw:=h.jf.w k (by omega);have key:∀l:List bV,l.length=n->eO z rp 0 (l,y.2.2.2.2.2.2.1.2)->P (Ba 1000 f n ((k+1:Nat):Int) s.1.1.1 s.1.1.2 s.1.2.1 s.1.2.2 s.2.1 s.2.2.1 s.2.2.2.1 s.2.2.2.2 0 0 0 0 0 0 0 0 y.1.1.1.1 y.1.1.1.2 y.1.1.2.1 y.1.1.2.2 y.1.2.1 y.1.2.2.1 y.1.2.2.2.1 y.1.2.2.2.2 y.2.1 y.2.2.1.1 y.2.2.1.2 l y.2.2.2.2.2.2.1.2.1 y.2.2.2.2.2.2.1.2.2 y.2.2.2.2.2.2.2.1.1 y.2.2.2.2.2.2.2.1.2.1 y.2.2.2.2.2.2.2.1.2.2.1 y.2.2.2.2.2.2.2.1.2.2.2.1 y.2.2.2.2.2.2.2.1.2.2.2.2 y.2.2.2.1 y.2.2.2.2.1 y.2.2.2.2.2.1 y.2.2.2.2.2.2.2.2) fun o=>o.2=0/\Inv s z rp n 80 o.1:=fun l hl hv=>
    ih (k+1) (y.1,(y.2.1,(y.2.2.1,(y.2.2.2.1,(y.2.2.2.2.1,(y.2.2.2.2.2.1,((l,y.2.2.2.2.2.2.1.2),(y.2.2.2.2.2.2.2.1,y.2.2.2.2.2.2.2.2)))))))) (by omega) (by omega) {h with jf:=hv,jn:=hl}
   dsimp only;rw[Int.toNat_natCast];cases(y.2.2.2.2.2.2.1.1.getD k bM).2.2.2.1 with
   | false=>simp only[cond_false];exact key _ hjn h.jf
   | true=>simp only[cond_true];exact key _ (by rw[List.length_set];exact hjn) (h.jf.set (OI hw (Int.le_refl 0)))
  ·exact asj hS hZ hzs 1000 0 y (by omega) (by omega) h
include hS hZ hzs in
theorem avy(f0:cz)(hf:eO z rp 0 f0)(hn:f0.1.length=n):∀(f:Nat) (k:Int),0<=k->n<f+k->k<=n->P (HK 1000 f f0.1 n k s.1.1.1 s.1.1.2 s.1.2.1 s.1.2.2 s.2.1 s.2.2.1 s.2.2.2.1 s.2.2.2.2 f0.1 f0.2.1 f0.2.2 0 0 0 0 0 0 0 0) fun o=>o.2=0/\Inv s z rp n 80 o.1:=by
 have h32:=hf.n;intro f;induction f with
 | zero=>intros;omega
 | succ f ih=>
  intro k h0 h1 h2;rw[at8,au (by omega) (by omega)];refine P.dec (fun hk=>?_) (fun hk=>?_)
  ·have:=(hf.w k.toNat (by omega)).s;exact P.aA (by omega) (P.bne (fun e=>by omega) fun _=>ih _ (by omega) (by omega) (by omega))
  ·refine P.bind (NQ 1000) ?_;have hc:lV 1000 (s,(0,(([],0),([],([],([],((f0.1,(f0.2.1,f0.2.2)),((-1,(-1,(-1,(0,0)))),[]))))))))=some ((s,(0,(([],0),([],([],([],(f0,((-1,(-1,(-1,(0,0)))),[])))))))),()):=by
    have h10:=hf.ze;have h11:=hZ.zn;unfold lV;rw[Lr hS];simp only[bH,List.length_nil];rw[eG (by omega) (by omega),eG (by omega) (by omega),eG (by omega) (by omega),eG (by omega) (by omega),eG (by omega) (by omega),AT (by rw[h10];omega)];simp only[bH];rw[eG (by omega) (by omega)]
   refine P.bind hc ?_;rw[hn];exact aju hS hZ hzs 1000 0 (s,(0,(([],0),([],([],([],(f0,((-1,(-1,(-1,(0,0)))),[])))))))) (by omega) (by omega) {is:=rfl,it:=rfl,ir:=rfl,im:=rfl,iw:=rfl,ik:=fun _ hx=>by(cases hx),ic:=rfl,jf:=hf,jn:=hn,iq:=rfl,il:=rfl}
include hS hZ hzs in
theorem aus(f0:cz)(hf:eO z rp 0 f0)(hn:f0.1.length=n):P (uh 1000 s f0) fun o=>o.2=0/\Inv s z rp n 80 o.1:=by
 have h32:=hf.n;unfold uh;rw[HN hS];refine P.bind rfl (P.bne (fun e=>absurd rfl e) fun _=>P.bind (uP (by decide) hf (by rw[hn];exact hZ)) (P.bne (fun e=>absurd rfl e) fun _=>P.bne (fun e=>absurd ?_ e) fun _=>?_))
 ·rw[hf.ze,hzs]
 ·rw[hn];exact avy hS hZ hzs f0 hf hn 1000 0 (by omega) (by omega) (by omega)
end
noncomputable section
theorem dP{d:aB}(hd:Cd d){n:Int}(h1:1<=n)(h2:n<=1000000):P (cE 1000 d n) fun r=>(0<=r.1/\r.1<n)/\Cd r.2:=by
 obtain⟨v,d',e,h3,h4,h5⟩:=s5 (N:=1000) (by omega) hd (n:=n) (by omega);exact⟨(v,d'),e,⟨h3,by dsimp only;omega⟩,h5⟩
theorem oU{d:aB}(hd:Cd d){n:Int}(h2:n<=1000000):P (jb 1000 d n) fun r=>Cd r.2:=by
 obtain⟨b,d',e,h⟩:=SM (N:=1000) (by omega) hd (n:=n) (by omega);exact⟨(b,d'),e,h⟩
theorem iD{d:aB}(hd:Cd d){a b:Int}(h1:a<=b)(h2:-1000000<=a)(h3:b<=1000000):P (eS 1000 d a b) fun r=>(a<=r.1/\r.1<=b)/\Cd r.2:=by
 obtain⟨v,d',e,h4,h5,h6⟩:=xe (N:=1000) (by omega) hd h1 h2 h3;exact⟨(v,d'),e,⟨h4,h5⟩,h6⟩
theorem Ry{d:aB}(hd:Cd d)(a b:Int):P (tO 1000 d a b) fun r=>r.1.1=a/\r.1.2.1=b/\Bk r.1/\r.1.2.2.2.2.2.1=false/\Cd r.2:=by
 obtain⟨r,d',e,h⟩:=ao4 hd a b;exact⟨(r,d'),e,h⟩
structure Kc (l:List aJ):Prop where
 n:1<=l.length/\l.length<=4
 p:∀k,k<l.length->(-20<=(pt l k).1/\(pt l k).1<=10+40*k)/\0<=(pt l k).2/\(pt l k).2<=3000
 s:∀k,k+1<l.length->vZ l k
theorem Kc.right{l:List aJ}(h:Kc l):fW l:=⟨h.n.1,by have:=h.n.2;omega,fun k hk=>by
 have:=h.p k hk;have:=h.n.2;unfold BU;omega,h.s⟩
theorem LS(l:List aJ)(p:aJ)(k:Nat):pt (l++[p]) k=if k<l.length then pt l k else if k=l.length then p else dZ:=jI _ _ _ _
theorem ZJ:∀(f:Nat) (n:Int) (d:aB) (l:List aJ),n<f->0<=n->Cd d->Kc l->l.length+n<=4->P (HW 1000 f n d.1 d.2 l) fun r=>Kc r.1/\Cd r.2:=by
 intro f;induction f with
 | zero=>intros;omega
 | succ f ih=>
  intro n d l h1 h2 hd hk hl;rw[aj4];refine P.dec (fun hn=>?_) (fun hn=>P.some ⟨hk,hd⟩);have hn1:=hk.n.1;have hp:=hk.p (l.length-1) (by omega);unfold pt at hp;dsimp only;rw[au (by omega) (by omega),show((l.length:Int)-1).toNat=l.length-1 by omega];refine P.aA (by omega) (P.call (iD hd (by omega) (by omega) (by omega)) fun r1 h3=>P.call (dP h3.2 (by omega) (by omega)) fun r2 h4=>P.fits (by omega) (by omega) ?_);rw[au (by omega) (by omega),au (by omega) (by omega),au (by omega) (by omega)];refine ih _ r2.2 _ (by omega) (by omega) h4.2 ⟨by rw[List.length_append,List.length_singleton];omega,fun k hk'=>?_,fun k hk'=>?_⟩ (by rw[List.length_append,List.length_singleton];omega)
  ·rw[List.length_append,List.length_singleton] at hk';rw[LS];by_cases e:k<l.length
   ·rw[if_pos e];exact hk.p k e
   ·rw[if_neg e,if_pos (by omega)];dsimp only;omega
  ·rw[List.length_append,List.length_singleton] at hk';unfold vZ;rw[LS,LS,if_pos (show k<l.length by omega)];by_cases e:k+1<l.length
   ·rw[if_pos e];exact hk.s k e
   ·have e2:k=l.length-1:=by omega
    subst e2;rw[if_neg e,if_pos (by omega)];unfold pt;dsimp only;omega
theorem akr{d:aB}(hd:Cd d):P (Hu 1000 d) fun r=>Kc r.1/\Cd r.2:=by
 unfold Hu;refine P.call (iD hd (by omega) (by omega) (by omega)) fun r1 h1=>P.call (iD h1.2 (by omega) (by omega) (by omega)) fun r2 h2=>P.call (dP h2.2 (by omega) (by omega)) fun r3 h3=>?_;refine ZJ 1000 r3.1 r3.2 _ (by omega) h3.1.1 h3.2 ⟨by simp,fun k hk=>?_,fun k hk=>?_⟩ (by simp;omega)
 ·have:k=0:=by simpa using hk
  subst this;show(-20<=r1.1/\r1.1<=10+40*((0:Nat):Int))/\0<=r2.1/\r2.1<=3000;omega
 ·simp at hk
structure Kd (l:List Int):Prop where
 n:1<=l.length/\l.length<=4
 p:∀k,k<l.length->200-60*(k:Int)<=l.getD k 0/\l.getD k 0<=900
 s:∀k,k<l.length->∀j,j+1=k->l.getD k 0<l.getD j 0
theorem Kd.drs{l:List Int}(h:Kd l)(h2:2<=l.length):Mw l:=⟨h2,by have:=h.n;omega,fun i hi=>by
 have:=h.p i hi;have:=h.n;exact⟨by omega,by omega,h.s i hi⟩⟩
theorem ai4(x6 x7 road:Int):∀(f:Nat) (n:Int) (d:aB) (l:List Int),n<f->0<=n->Cd d->Kd l->l.length+n<=4->2<=l.length+n->P (Ir 1000 f n d.1 d.2 x6 x7 road (-1) l) fun r=>(r.1.1=road/\r.1.2.1=-1/\Kd r.1.2.2/\2<=r.1.2.2.length)/\Cd r.2:=by
 intro f;induction f with
 | zero=>intros;omega
 | succ f ih=>
  intro n d l h1 h2 hd hk hl hl2;rw[ak6];refine P.dec (fun hn=>?_) (fun hn=>P.some ⟨⟨rfl,rfl,hk,by dsimp only;omega⟩,hd⟩);have hn1:=hk.n.1;have hp:=hk.p (l.length-1) (by omega);dsimp only;rw[au (by omega) (by omega),show((l.length:Int)-1).toNat=l.length-1 by omega];refine P.aA (by omega) (P.call (iD hd (by omega) (by omega) (by omega)) fun r1 h3=>P.fits (by omega) (by omega) ?_);rw[au (by omega) (by omega),au (by omega) (by omega)];refine ih _ r1.2 _ (by omega) (by omega) h3.2 ⟨by rw[List.length_append,List.length_singleton];omega,fun k hk'=>?_,fun k hk' j hj=>?_⟩ (by rw[List.length_append,List.length_singleton];omega) (by rw[List.length_append,List.length_singleton];omega)
  ·rw[List.length_append,List.length_singleton] at hk';rw[jI];by_cases e:k<l.length
   ·rw[if_pos e];exact hk.p k e
   ·rw[if_neg e,if_pos (by omega)];omega
  ·rw[List.length_append,List.length_singleton] at hk';rw[jI,jI,if_pos (show j<l.length by omega)];by_cases e:k<l.length
   ·rw[if_pos e];exact hk.s k e j hj
   ·have e2:j=l.length-1:=by omega
    subst e2;rw[if_neg e,if_pos (by omega)];omega
theorem adb{d:aB}(hd:Cd d)(road:Int):P (F3 1000 d road) fun r=>(r.1.1=road/\r.1.2.1=-1/\Kd r.1.2.2/\2<=r.1.2.2.length)/\Cd r.2:=by
 unfold F3;refine P.call (iD hd (by omega) (by omega) (by omega)) fun r1 h1=>P.call (iD h1.2 (by omega) (by omega) (by omega)) fun r2 h2=>?_;refine ai4 0 0 road 1000 r2.1 r2.2 _ (by omega) (by omega) h2.2 ⟨by simp,fun k hk=>?_,fun k hk j hj=>?_⟩ (by simp;omega) (by simp;omega)
 ·have:k=0:=by simpa using hk
  subst this;show 200-60*((0:Nat):Int)<=r1.1/\r1.1<=900;omega
 ·simp at hk;omega
structure pM (nr:Nat) (fs:List bC) (ds:List bu) (sf sd:List Int):Prop where
 fn:fs.length<=2
 dn:ds.length<=2
 f:∀x,x∈fs->(0<=x.1/\x.1<nr)/\Kc x.2.2.2
 d:∀x,x∈ds->((0<=x.1/\x.1<nr)/\x.2.1=-1)/\Kd x.2.2/\2<=x.2.2.length
 lf:sf.length=fs.length
 ld:sd.length=ds.length
 vf:∀x,x∈sf->0<=x/\x<=2
 vd:∀i,i<sd.length->0<=sd.getD i 0/\sd.getD i 0<(ds.getD i iZ).2.2.length
theorem aod(nr:Nat)(hnr:nr<=1000)(p:List bj)(rs:List aR)(fs:List bC)(sf:List Int):∀(f:Nat) (n:Int) (d:aB) (ds:List bu) (sd:List Int),n<f->0<=n->Cd d->ds.length+n<=2->pM nr fs ds sf sd->P (xv 1000 f nr n d.1 d.2 p rs fs ds sf sd) fun r=>(r.2.2.1=(p,rs)/\pM nr r.2.2.2.1 r.2.2.2.2 r.1.1 r.1.2)/\Cd r.2.1:=by
 intro f;induction f with
 | zero=>intros;omega
 | succ f ih=>
  intro n d ds sd h1 h2 hd hl he;have hsd:=he.ld;rw[afg];refine P.dec (fun hn=>P.dec (fun hn2=>?_) fun _=>P.some ⟨⟨rfl,he⟩,hd⟩) (fun hn=>P.some ⟨⟨rfl,he⟩,hd⟩);refine P.call (dP hd (by omega) (by omega)) fun r1 h3=>P.call (adb h3.2 _) fun r2 h4=>P.fits (by omega) (by omega) ?_;obtain⟨⟨d1,d2,d3,d4⟩,d5⟩:=h4;have hn4:=d3.n;refine P.call (dP d5 (by omega) (by omega)) fun r3 h5=>P.fits (by omega) (by omega) ?_;rw[au (by omega) (by omega)];refine ih _ r3.2 _ _ (by omega) (by omega) h5.2 (by rw[List.length_append,List.length_singleton];omega) {he with dn:=by(rw[List.length_append,List.length_singleton];omega),d:=j4 he.d ⟨⟨by rw[d1];exact h3.1,d2⟩,d3,d4⟩,ld:=by rw[List.length_append,List.length_append,hsd];rfl,vd:=fun i hi=>?_}
  rw[List.length_append,List.length_singleton] at hi;rw[jI,jI];by_cases e:i<sd.length
  ·rw[if_pos e,if_pos (by omega)];exact he.vd i e
  ·rw[if_neg e,if_pos (by omega),if_neg (by omega),if_pos (by omega)];exact h5.1
theorem aqc(nr:Nat)(hnr:nr<=1000)(p:List bj)(rs:List aR):∀(f:Nat) (n:Int) (d:aB) (fs:List bC) (sf:List Int),n<f->0<=n->Cd d->fs.length+n<=2->pM nr fs [] sf []->P (EH 1000 f nr n d.1 d.2 p rs fs [] sf) fun r=>(r.2.2.1=(p,rs)/\pM nr r.2.2.2.1 r.2.2.2.2 r.1.1 r.1.2)/\Cd r.2.1:=by
 intro f;induction f with
 | zero=>intros;omega
 | succ f ih=>
  intro n d fs sf h1 h2 hd hl he;have hsf:=he.lf;have fin:∀d:aB,Cd d->P (Option.bind (cE 1000 d 3) fun r=>xv 1000 1000 nr r.1 r.2.1 r.2.2 p rs fs [] sf []) fun r=>(r.2.2.1=(p,rs)/\pM nr r.2.2.2.1 r.2.2.2.2 r.1.1 r.1.2)/\Cd r.2.1:=fun d hd=>P.call (dP hd (by omega) (by omega)) fun r h=>aod nr hnr p rs fs sf 1000 r.1 r.2 [] [] (by omega) h.1.1 h.2 (by simp;omega) he;rw[auf];refine P.dec (fun hn=>P.dec (fun hn2=>?_) fun _=>fin d hd) (fun hn=>fin d hd);refine P.call (dP hd (by omega) (by omega)) fun r1 h3=>P.call (oU h3.2 (by omega)) fun r2 h4=>P.call (oU h4 (by omega)) fun r3 h5=>P.call (akr h5) fun r4 h6=>P.fits (by omega) (by omega) (P.call (dP h6.2 (by omega) (by omega)) fun r5 h7=>P.fits (by omega) (by omega) ?_)
  rw[au (by omega) (by omega)];exact ih _ r5.2 _ _ (by omega) (by omega) h7.2 (by rw[List.length_append,List.length_singleton];omega) {he with fn:=by(rw[List.length_append,List.length_singleton];omega),f:=j4 he.f ⟨h3.1,h6.1⟩,lf:=by rw[List.length_append,List.length_append,hsf];rfl,vf:=j4 he.vf ⟨h7.1.1,by have:=h7.1.2;omega⟩}
theorem aet{d:aB}(hd:Cd d)(m:dm)(hm:m.2.length<=1000):P (Cg 1000 d (m,([],[]))) fun r=>(r.2.2.1=m/\pM m.2.length r.2.2.2.1 r.2.2.2.2 r.1.1 r.1.2)/\Cd r.2.1:=by
 unfold Cg;refine P.call (dP hd (by omega) (by omega)) fun r h=>aqc m.2.length hm m.1 m.2 1000 r.1 r.2 [] [] (by omega) h.1.1 h.2 (by simp;omega) ?_;exact⟨by simp,by simp,fun _ h=>(by cases h),fun _ h=>(by cases h),rfl,rfl,fun _ h=>(by cases h),fun i h=>(by cases h)⟩
end
noncomputable section
theorem TS{a b A B:Int}(h1:-A<=a/\a<=A)(h2:-B<=b/\b<=B):-(A*B)<=a*b/\a*b<=A*B:=by
 have h:(a*b).natAbs<=A.natAbs*B.natAbs:=by
  rw[Int.natAbs_mul];exact Nat.mul_le_mul (by omega) (by omega)
 have hA:((A.natAbs*B.natAbs:Nat):Int)=A*B:=by
  rw[Int.natCast_mul,Int.natAbs_of_nonneg (by omega),Int.natAbs_of_nonneg (by omega)]
 omega
theorem Ql{l:List aJ}(h:Kc l)(x:Int):0<=(cv l x).1/\(cv l x).1<=3000/\0<=(cv l x).2/\(cv l x).2<=3000:=by
 have h1:=X3 h.right x;have h2:=Sp.le h.right (G6 h.right x);have h3:=h.p 0 (by have:=h.n.1;omega);omega
theorem afb{l:List aJ}(h:Kc l)(b:Bool)(s x:Int)(hs:0<=s/\s<=2):-3000<=(xU l b s x).1/\(xU l b s x).1<=3000:=by
 have ha:∀b,-3000<=(nh l b x).1/\(nh l b x).1<=3000:=fun b=>by
  have h1:=Ql h x;have h2:=Ql h (-x);unfold nh;cases b
  ·simp only[cond_false];omega
  ·simp only[cond_true];omega
 unfold xU;split
 ·exact ha b
 ·split
  ·exact ha _
  ·rw[if_neg (by omega)];dsimp only;omega
theorem ave{x:bu}(h:Kd x.2.2){s:Int}(hs:0<=s/\s<x.2.2.length):P (HG 1000 x s) fun r=>0<=r.1/\r.1<=900:=by
 have h1:=h.n;have h2:=h.p s.toNat (by omega);unfold HG;refine P.beq (fun _=>by omega) fun _=>P.dec (fun _=>by omega) fun _=>P.dec (fun _=>by omega) fun _=>?_;rw[aw5];refine P.dec (fun _=>P.aA hs (P.aA hs (P.some ?_))) fun _=>by omega
 dsimp only;omega
structure Fr (n:Int) (r:aR):Prop where
 e:¬fS n r
 g:¬km r
 r:1<=r.2.2.2.2.2.2.1.1/\r.2.2.2.2.2.2.1.1<=r.2.2.2.2.2.2.1.2/\r.2.2.2.2.2.2.1.2<=30
theorem Fr.of{n:Int}{r:aR}(h1:Bk r)(h2:¬fS n r):Fr n r:=⟨h2,h1.Vk,h1.2.2.1⟩
section
variable {np nr:Nat} {ps:List bj} {fs:List bC} {ds:List bu} {sf sd pr fl:List Int} (hps:ps.length=np) (hnr:nr<=128) (he:pM nr fs ds sf sd) (hpl:pr.length=np) (hpb:∀i,-4000<=pr.getD i 0/\pr.getD i 0<=4000) (hfl:fl.length=nr) (hfb:∀i,-300<=fl.getD i 0/\fl.getD i 0<=300)
def xr(np nr:Nat)(ps:List bj)(fs:List bC)(ds:List bu)(r:Unit×aB×bQ):Prop:=Cd r.2.1/\r.2.2.1.1=ps/\r.2.2.1.2.length=nr/\(∀x,x∈r.2.2.1.2->Fr np x)/\r.2.2.2=(fs,ds)
include he hnr in
theorem avo(n1:Nat)(i:Int)(hi:0<=i/\i<nr)(q:Int)(hq:-300<=q/\q<=300)(rs:List aR)(hrs:rs.length=nr)(hr:∀x,x∈rs->Fr np x)
  (ih1:∀(d:aB) (rs:List aR),Cd d->rs.length=nr->(∀x,x∈rs->Fr np x)->P (xQ 1000 n1 (W (i+1)) d.1 d.2 ps rs fs ds sf sd pr fl) (xr np nr ps fs ds)):
  ∀(f:Nat) (k lift:Int) (d:aB),0<=k->fs.length<f+k->k<=fs.length->Cd d->(-165000000-3000*k<=lift/\lift<=165000000+3000*k)->P (BM 1000 n1 f i i.toNat q lift k d.1 d.2 ps rs fs ds sf sd pr fl) (xr np nr ps fs ds):=by
 have hfn:=he.fn;have hsf:=he.lf;intro f;induction f with
 | zero=>intros;omega
 | succ f ih=>
  intro k lift d h0 h1 h2 hd hl;rw[ahf,au (by omega) (by omega)];refine P.dec (fun hk=>?_) (fun hk=>?_)
  ·refine P.aA (by omega) (P.beq (fun _=>P.aA (by omega) (P.aA (by omega) ?_)) fun _=>ih _ _ d (by omega) (by omega) (by omega) hd (by omega));have hv:=he.vf _ (dU 0 (show k.toNat<sf.length by omega));have hf:=he.f _ (dU nT (show k.toNat<fs.length by omega));generalize fs.getD k.toNat nT=y at hf ⊢;obtain⟨y1,y2,y3,y4⟩:=y;refine P.bind ((Xb (by omega) hf.2.right (by omega) (by omega) y1 y2 y3).2) ?_;have hb:=afb hf.2 y2 (sf.getD k.toNat 0) q hv;rw[au (by omega) (by omega)];exact ih _ _ d (by omega) (by omega) (by omega) hd (by omega)
  ·refine P.call (dP hd (by omega) (by omega)) fun r1 h3=>P.call (dP h3.2 (by omega) (by omega)) fun r2 h4=>?_;have hi2:i.toNat<rs.length:=by omega
   have hro:=hr _ (dU fH hi2);rw[au (n:=lift-r1.1) (by omega) (by omega),au (n:=lift+r2.1) (by omega) (by omega)];refine ih1 r2.2 _ h4.2 (by rw[List.length_set];exact hrs) (mem_set hr ⟨hro.e,?_,hro.r⟩);have hg:=hro.g;unfold km nP at hg ⊢;dsimp only;omega
include he hnr hps hpl hpb in
theorem anr(n1:Nat)(i:Int)(hi:0<=i/\i<nr)(q:Int)(hq:-300<=q/\q<=300)(rs:List aR)(hrs:rs.length=nr)(hr:∀x,x∈rs->Fr np x)
  (ih1:∀(d:aB) (rs:List aR),Cd d->rs.length=nr->(∀x,x∈rs->Fr np x)->P (xQ 1000 n1 (W (i+1)) d.1 d.2 ps rs fs ds sf sd pr fl) (xr np nr ps fs ds)):
  ∀(f:Nat) (k rest:Int) (d:aB),0<=k->ds.length<f+k->k<=ds.length->Cd d->(0<=rest/\rest<=30+900*k)->P (B2 1000 n1 f i i.toNat q rest k d.1 d.2 ps rs fs ds sf sd pr fl) (xr np nr ps fs ds):=by
 have hdn:=he.dn;have hsd:=he.ld;intro f;induction f with
 | zero=>intros;omega
 | succ f ih=>
  intro k rest d h0 h1 h2 hd hl;rw[avb,au (by omega) (by omega)];refine P.dec (fun hk=>?_) (fun hk=>?_)
  ·refine P.aA (by omega) (P.beq (fun _=>P.aA (by omega) (P.aA (by omega) ?_)) fun _=>ih _ _ d (by omega) (by omega) (by omega) hd (by omega));have hv:=he.vd k.toNat (by omega);have hx:=he.d _ (dU iZ (show k.toNat<ds.length by omega));refine P.call (ave hx.2.1 hv) fun r hr'=>?_;rw[au (by omega) (by omega)];exact ih _ _ d (by omega) (by omega) (by omega) hd (by omega)
  ·have hro:=hr _ (dU fH (show i.toNat<rs.length by omega));have hee:=hro.e;unfold fS at hee;have p1:=hpb (rs.getD i.toNat fH).1.toNat;have p2:=hpb (rs.getD i.toNat fH).2.1.toNat;refine P.aA (by omega) (P.aA (by omega) ?_);have m1:=TS (a:=rest) (b:=max q (0-q)) (A:=1830) (B:=300) (by omega) (by omega);have m2:=TS (a:=rest*max q (0-q)) (b:=q) (A:=549000) (B:=300) (by omega) hq;rw[au (n:=0-q) (by omega) (by omega)];generalize rest*max q (0-q)=y at m1 m2 ⊢;rw[au (n:=y) (by omega) (by omega)];generalize y*q=y2 at m2 ⊢
   rw[au (n:=y2) (by omega) (by omega),au (n:=pr.getD (rs.getD i.toNat fH).1.toNat 0-pr.getD (rs.getD i.toNat fH).2.1.toNat 0) (by omega) (by omega),au (by omega) (by omega)];exact avo hnr he n1 i hi q hq rs hrs hr ih1 1000 0 _ d (by omega) (by have:=he.fn;omega) (by omega) hd (by omega)
include he hnr hps hpl hpb hfl hfb in
theorem aem:∀(f:Nat) (i:Int) (d:aB) (rs:List aR),0<=i->nr<f+i->i<=nr->Cd d->rs.length=nr->(∀x,x∈rs->Fr np x)->P (xQ 1000 f i d.1 d.2 ps rs fs ds sf sd pr fl) (xr np nr ps fs ds):=by
 intro f;induction f with
 | zero=>intros;omega
 | succ f ih=>
  intro i d rs h0 h1 h2 hd hrs hr;rw[api];refine P.dec (fun hk=>?_) (fun hk=>P.some ⟨hd,rfl,hrs,hr,rfl⟩);have hro:=(hr _ (dU fH (show i.toNat<rs.length by omega))).r;have hf:=hfb i.toNat;rw[au (n:=(rs.getD i.toNat fH).2.2.2.2.2.2.1.2-(rs.getD i.toNat fH).2.2.2.2.2.2.1.1) (by omega) (by omega),au (by omega) (by omega)];refine P.aA (by omega) (P.aA (by omega) (P.call (dP hd (by omega) (by omega)) fun r h3=>?_));rw[au (by omega) (by omega)];refine anr hps hnr he hpl hpb f i (by omega) _ hf rs hrs hr (fun d rs hd hrs hr=>?_) 1000 0 _ r.2 (by omega) (by have:=he.dn;omega) (by omega) h3.2 (by omega)
  rw[au (by omega) (by omega)];exact ih _ d rs (by omega) (by omega) (by omega) hd hrs hr
end
theorem anf(a l out1:List Int)(hl:l.length<=100):∀(f:Nat) (k:Int) (d:aB) (out:List Int),0<=k->l.length<f+k->k<=l.length->Cd d->out.length<=k->P (zp 1000 f k d.1 d.2 a l out1 out) fun r=>Cd r.2:=by
 intro f;induction f with
 | zero=>intros;omega
 | succ f ih=>
  intro k d out h0 h1 h2 hd ho;rw[aok,au (by omega) (by omega)];refine P.dec (fun hk=>P.aA (by omega) (P.call (oU hd (by omega)) fun r hr=>P.bool (fun _=>P.fits (by omega) (by omega) ?_) fun _=>P.fits (by omega) (by omega) ?_)) (fun hk=>P.some hd)
  all_goals exact ih _ r.2 _ (by omega) (by omega) (by omega) hr (by rw[List.length_append,List.length_singleton];omega)
theorem agb(a l:List Int)(hl:l.length<=100)(ha:a.length<=100):∀(f:Nat) (k:Int) (d:aB) (out:List Int),0<=k->a.length<f+k->k<=a.length->Cd d->out.length<=k->P (BI 1000 f k d.1 d.2 a l out) fun r=>Cd r.2:=by
 intro f;induction f with
 | zero=>intros;omega
 | succ f ih=>
  intro k d out h0 h1 h2 hd ho;rw[asx,au (by omega) (by omega)];refine P.dec (fun hk=>P.aA (by omega) (P.call (oU hd (by omega)) fun r hr=>P.bool (fun _=>P.fits (by omega) (by omega) ?_) fun _=>P.fits (by omega) (by omega) ?_)) (fun hk=>anf a l out hl 1000 0 d [] (by omega) (by omega) (by omega) hd (by simp))
  all_goals exact ih _ r.2 _ (by omega) (by omega) (by omega) hr (by rw[List.length_append,List.length_singleton];omega)
theorem PU{d:aB}(hd:Cd d)(s:bF)(h1:s.1.length<=100)(h2:s.2.length<=100):P (D7 1000 d () s) fun r=>Cd r.2:=
 agb s.1 s.2 h2 h1 1000 0 d [] (by omega) (by omega) (by omega) hd (by simp)
def PB{α:Type}(o1 o2:Option α)(Q1 Q2:α->Prop):Prop:=P o1 Q1\/o1=none/\P o2 Q2
section
variable {α β:Type} {Q1 Q2:β->Prop} {R:α->Prop}
theorem PB.call{o:Option α}{f1 f2:α->Option β}(h:P o R)(g:∀a,R a->PB (f1 a) (f2 a) Q1 Q2):PB (Option.bind o f1) (Option.bind o f2) Q1 Q2:=by
 obtain⟨a,rfl,h⟩:=h;exact g a h
theorem PB.dec{p:Prop}{i j:Decidable p}{x y x2 y2:Option β}(h1:p->PB x x2 Q1 Q2)(h2:¬p->PB y y2 Q1 Q2):PB (bif @decide p i then x else y) (bif @decide p j then x2 else y2) Q1 Q2:=by
 by_cases h:p
 ·rw[@decide_eq_true p i h, @decide_eq_true p j h];exact h1 h
 ·rw[@decide_eq_false p i h, @decide_eq_false p j h];exact h2 h
theorem PB.bool{c:Bool}{x y x2 y2:Option β}(h1:c=true->PB x x2 Q1 Q2)(h2:c=false->PB y y2 Q1 Q2):PB (bif c then x else y) (bif c then x2 else y2) Q1 Q2:=by
 cases c
 ·exact h2 rfl
 ·exact h1 rfl
theorem PB.aA{i:Int}{n:Nat}{x y x2 y2:Option β}(h:0<=i/\i<n)(g:PB x x2 Q1 Q2):PB (bif ae i n then x else y) (bif ae i n then x2 else y2) Q1 Q2:=by rw[fN h];exact g
theorem PB.fits{n b:Nat}{x y x2 y2:Option β}(h:n<=1000000)(hb:b<=1000)(g:PB x x2 Q1 Q2):PB (bif ba n b then x else y) (bif ba n b then x2 else y2) Q1 Q2:=by rw[eG h hb,eG h hb];exact g
theorem PB.mk{b:Nat}{l:Int}{x y x2 y2:Option β}(h:0<=l/\l<=100000000)(hb:b<=1000)(g:PB x x2 Q1 Q2):PB (bif eH b l l then x else y) (bif eH b l l then x2 else y2) Q1 Q2:=by
 have h1:(b:Int)*l<=1000*100000000:=Int.mul_le_mul (by omega) h.2 h.1 (by omega);rw[vc (by omega)];exact g
theorem PB.nz{a:Int}{x y x2 y2:Option β}(h:a≠0)(g:PB y y2 Q1 Q2):PB (bif a==0 then x else y) (bif a==0 then x2 else y2) Q1 Q2:=by rw[MI h];exact g
theorem P.or{o1 o2:Option β}(h:PB o1 o2 Q1 Q1):P (Option.or o1 o2) Q1:=by
 rcases h with⟨a,rfl,h⟩ | ⟨rfl,h⟩
 ·exact⟨a,rfl,h⟩
 ·exact h
theorem PB.both{o1 o2:Option α}{R1 R2:α->Prop}{f1 f2:α->Option β}(h:PB o1 o2 R1 R2)(g1:∀a,R1 a->P (f1 a) Q1)(g2:∀a,R2 a->P (f2 a) Q2):PB (Option.bind o1 f1) (Option.bind o2 f2) Q1 Q2:=by
 rcases h with h | ⟨rfl,h⟩
 ·exact .inl (P.call h g1)
 ·exact .inr ⟨rfl,P.call h g2⟩
end
structure TR (r:(bQ×bF×bF)×aB):Prop where
 mm:∀x,x∈r.1.1.1.1->¬jW x
 mn:r.1.1.1.1.length<=6/\1<=r.1.1.1.1.length
 ml:r.1.1.1.2.length<=20
 mr:∀x,x∈r.1.1.1.2->Fr r.1.1.1.1.length x
 me:∃sf sd,pM r.1.1.1.2.length r.1.1.2.1 r.1.1.2.2 sf sd
 mc:Cd r.2
 my:r.1.2.2.2.length<=100/\r.1.2.2.1.length<=100
def ur(r:(bQ×bF×bF)×aB):Prop:=TR r/\r.1.1.1.2.length=0
def vw(r:(bQ×bF×bF)×aB):Prop:=TR r/\r.1.1.1.2.length≠0
section
variable {np sh:Nat} (hnp:np<=6/\1<=np) (hsh:1<=sh/\sh<=np) {ps:List bj} (hps:ps.length=np) (hpb:∀x,x∈ps->¬jW x) {pr:List Int} (hpl:pr.length=np) (hpp:∀i,-4000<=pr.getD i 0/\pr.getD i 0<=4000)
include hnp hsh hps hpb hpl hpp in
theorem WC(net:List Int)(hnet:net.length=np)(hnb:∀i,-300<=net.getD i 0/\net.getD i 0<=300):∀(f:Nat) (i:Int) (d:aB) (rs:List aR) (fl:List Int),sh<=i->np<f+i->i<=np->Cd d->rs.length=fl.length->rs.length<=6+i->(∀x,x∈rs->Fr np x)->(∀i,-300<=fl.getD i 0/\fl.getD i 0<=300)->PB (Bj 1000 f sh np i d.1 d.2 net ps rs pr fl) (zl 1000 f sh np i d.1 d.2 net ps rs pr fl) ur vw:=by
 intro f;induction f with
 | zero=>intros;omega
 | succ f ih=>
  intro i d rs fl h0 h1 h2 hd hl hl2 hr hf;rw[YP,amk,au (n:=i+1) (by omega) (by omega)];refine PB.dec (fun hk=>?_) (fun hk=>?_)
  ·refine PB.call (dP hd (by omega) (by omega)) fun r1 h3=>PB.call (Ry h3.2 _ _) fun r2 h4=>PB.aA (by omega) ?_;obtain⟨e1,e2,e3,e4,e5⟩:=h4;have hb:=hnb i.toNat;have ff:∀(v:Int),-300<=v/\v<=300->∀i,-300<=(fl++[v]).getD i 0/\(fl++[v]).getD i 0<=300:=fun v hv i=>by
    rw[jI];split
    ·exact hf i
    ·split
     ·exact hv
     ·decide
   rw[au (by omega) (by omega)];refine PB.call (oU e5 (by omega)) fun r3 h5=>PB.bool (fun _=>PB.fits (by omega) (by omega) (PB.fits (by omega) (by omega) ?_)) fun _=>PB.fits (by omega) (by omega) (PB.fits (by omega) (by omega) ?_)
   ·rw[au (by omega) (by omega)];refine ih _ r3.2 _ _ (by omega) (by omega) (by omega) h5 (by rw[List.length_append,List.length_append,hl];rfl) (by rw[List.length_append,List.length_singleton];omega) (j4 hr (Fr.of e3 ?_)) (ff _ (by omega));unfold fS;dsimp only;omega
   ·refine ih _ r3.2 _ _ (by omega) (by omega) (by omega) h5 (by rw[List.length_append,List.length_append,hl];rfl) (by rw[List.length_append,List.length_singleton];omega) (j4 hr (Fr.of e3 ?_)) (ff _ (by omega));unfold fS;omega
  ·refine PB.call (aet hd (ps,rs) (by dsimp only;omega)) fun r1 h3=>?_;obtain⟨⟨g1,g2⟩,g3⟩:=h3;have g2:pM rs.length r1.2.2.2.1 r1.2.2.2.2 r1.1.1 r1.1.2:=g2;have hsf:=g2.lf;have hsd:=g2.ld;have hfn:=g2.fn;have hdn:=g2.dn;by_cases hrs:rs.length=0
   ·refine .inl ?_;unfold Fj;rw[show(1000:Nat)=999+1 from rfl,RL,g1];dsimp only;rw[df (by omega)];refine P.bind rfl (P.call (PU g3 r1.1 (by omega) (by omega)) fun r2 h4=>P.some ⟨⟨?_,?_,?_,?_,?_,h4,?_⟩,hrs⟩)
    ·exact hpb
    ·dsimp only;omega
    ·dsimp only;omega
    ·intro x hx;dsimp only at hx ⊢;rw[hps];exact hr x hx
    ·exact⟨r1.1.1,r1.1.2,g2⟩
    ·dsimp only;omega
   ·refine .inr ⟨?_,?_⟩
    ·unfold Fj;rw[show(1000:Nat)=999+1 from rfl,RL,g1];dsimp only;rw[dt (by omega),it (by omega)];rfl
    ·refine P.call (R:=xr np rs.length ps r1.2.2.2.1 r1.2.2.2.2) ?_ fun r2 h4=>?_
     ·unfold L0;rw[g1];exact aem hps (by omega) g2 hpl hpp hl.symm hf 1000 0 r1.2.1 rs (by omega) (by omega) (by omega) g3 rfl hr
     ·obtain⟨q1,q2,q3,q4,q5⟩:=h4;refine P.call (PU q1 r1.1 (by omega) (by omega)) fun r3 h5=>P.some ⟨⟨?_,?_,?_,?_,?_,h5,?_⟩,by dsimp only;omega⟩
      ·dsimp only;rw[q2];exact hpb
      ·dsimp only;rw[q2];omega
      ·dsimp only;omega
      ·dsimp only;rw[q2,hps];exact q4
      ·dsimp only;rw[q3,q5];exact⟨r1.1.1,r1.1.2,g2⟩
      ·dsimp only;omega
theorem Zp{t n:Int}(h0:0<=t)(h1:t<2*n):t.tmod n=if t<n then t else t-n:=by
 rw[Int.tmod_eq_emod_of_nonneg h0];split
 ·rw[Int.emod_eq_of_lt h0 (by omega)]
 ·rw[show t=(t-n)+n*1 by omega,Int.add_mul_emod_self_left,Int.emod_eq_of_lt (by omega) (by omega)];omega
theorem X4(n i:Nat):(List.replicate n (0:Int)).getD i 0=0:=by
 rw[List.getD_eq_getElem?_getD,List.getElem?_replicate];split<;>rfl
include hnp hsh hps hpb hpl hpp in
theorem af1(hn2:2<=np):∀(f:Nat) (k:Int) (d:aB) (net:List Int) (rs:List aR) (fl:List Int),k<f->0<=k->k<=5->Cd d->net.length=np->(∀i,-(300-60*k)<=net.getD i 0/\net.getD i 0<=300-60*k)->rs.length=fl.length->rs.length+k<=5->(∀x,x∈rs->Fr np x)->(∀i,-300<=fl.getD i 0/\fl.getD i 0<=300)->PB (wG 1000 f sh np k d.1 d.2 net ps rs pr fl) (xj 1000 f sh np k d.1 d.2 net ps rs pr fl) ur vw:=by
 intro f;induction f with
 | zero=>intros;omega
 | succ f ih=>
  intro k d net rs fl h0 h1 h2 hd hnet hnb hl hl2 hr hf;rw[asn,awd];refine PB.dec (fun hk=>?_) (fun hk=>?_)
  ·rw[au (by omega) (by omega),au (by omega) (by omega)];refine PB.call (dP hd (by omega) (by omega)) fun r1 h3=>PB.call (dP h3.2 (by omega) (by omega)) fun r2 h4=>PB.nz (by omega) ?_;rw[au (n:=r1.1+1) (by omega) (by omega),au (by omega) (by omega),Zp (by omega) (by omega)];refine PB.call (Ry h4.2 _ _) fun r3 h5=>PB.call (oU h5.2.2.2.2 (by omega)) fun r4 h6=>PB.call (iD h6 (by omega) (by omega) (by omega)) fun r5 h7=>?_;obtain⟨e1,e2,e3,e4,e5⟩:=h5;have hto:r3.1.2.1≠r3.1.1/\0<=r3.1.2.1/\r3.1.2.1<np:=by
    rw[e1,e2];split<;>omega
   have hfr:0<=r3.1.1/\r3.1.1<np:=by omega
   have ff:∀(v:Int),-300<=v/\v<=300->∀i,-300<=(fl++[v]).getD i 0/\(fl++[v]).getD i 0<=300:=fun v hv i=>by
    rw[jI];split
    ·exact hf i
    ·split
     ·exact hv
     ·decide
   have key:∀(q:Int) (c:Bool),-60<=q/\q<=60->PB (bif ba (rs.length+1) 72 then bif ba (fl.length+1) 8 then bif ae r3.1.1 net.length then bif ae r3.1.1 net.length then bif ae r3.1.2.1 (net.set r3.1.1.toNat (W (net.getD r3.1.1.toNat 0+q))).length then bif ae r3.1.2.1 (net.set r3.1.1.toNat (W (net.getD r3.1.1.toNat 0+q))).length then
     wG 1000 f sh np (k-1) r5.2.1 r5.2.2 ((net.set r3.1.1.toNat (W (net.getD r3.1.1.toNat 0+q))).set r3.1.2.1.toNat (W ((net.set r3.1.1.toNat (W (net.getD r3.1.1.toNat 0+q))).getD r3.1.2.1.toNat 0-q))) ps (rs++[(r3.1.1,(r3.1.2.1,(r3.1.2.2.1,(r3.1.2.2.2.1,(r3.1.2.2.2.2.1,(c,r3.1.2.2.2.2.2.2))))))]) pr (fl++[q]) else none else none else none else none else none else none)
     (bif ba (rs.length+1) 72 then bif ba (fl.length+1) 8 then bif ae r3.1.1 net.length then bif ae r3.1.1 net.length then bif ae r3.1.2.1 (net.set r3.1.1.toNat (W (net.getD r3.1.1.toNat 0+q))).length then bif ae r3.1.2.1 (net.set r3.1.1.toNat (W (net.getD r3.1.1.toNat 0+q))).length then
     xj 1000 f sh np (k-1) r5.2.1 r5.2.2 ((net.set r3.1.1.toNat (W (net.getD r3.1.1.toNat 0+q))).set r3.1.2.1.toNat (W ((net.set r3.1.1.toNat (W (net.getD r3.1.1.toNat 0+q))).getD r3.1.2.1.toNat 0-q))) ps (rs++[(r3.1.1,(r3.1.2.1,(r3.1.2.2.1,(r3.1.2.2.2.1,(r3.1.2.2.2.2.1,(c,r3.1.2.2.2.2.2.2))))))]) pr (fl++[q]) else none else none else none else none else none else none) ur vw:=fun q c hq=>by
    have b1:=hnb r3.1.1.toNat;have b2:=hnb r3.1.2.1.toNat;rw[jh,if_neg (by omega),au (by omega) (by omega),au (by omega) (by omega),List.length_set];refine PB.fits (by omega) (by omega) (PB.fits (by omega) (by omega) (PB.aA (by omega) (PB.aA (by omega) (PB.aA (by omega) (PB.aA (by omega) ?_)))));refine ih _ r5.2 _ _ _ (by omega) (by omega) (by omega) h7.2 (by rw[List.length_set,List.length_set];exact hnet) (fun i=>?_) (by rw[List.length_append,List.length_append,hl];rfl) (by rw[List.length_append,List.length_singleton];omega) (j4 hr (Fr.of e3 ?_)) (ff q (by omega))
    ·have b3:=hnb i;rw[jh];split
     ·omega
     ·rw[jh];split<;>omega
    ·unfold fS;dsimp only;omega
   refine PB.bool (fun _=>key 0 _ (by omega)) fun _=>key r5.1 _ h7.1
  ·rw[SN,RW];exact WC hnp hsh hps hpb hpl hpp net hnet (fun i=>by have:=hnb i;omega) 1000 sh d rs fl (by omega) (by omega) (by omega) hd hl (by omega) hr hf
end
theorem aty{np sh:Nat}(hnp:np<=6/\1<=np)(hsh:1<=sh/\sh<=np){ps:List bj}(hps:ps.length=np)(hpb:∀x,x∈ps->¬jW x):∀(f:Nat) (i:Int) (d:aB) (pr:List Int),0<=i->np<f+i->i<=np->Cd d->pr.length=np->(∀i,-4000<=pr.getD i 0/\pr.getD i 0<=4000)->PB (Eo 1000 f sh np i d.1 d.2 ps pr) (G0 1000 f sh np i d.1 d.2 ps pr) ur vw:=by
 intro f;induction f with
 | zero=>intros;omega
 | succ f ih=>
  intro i d pr h0 h1 h2 hd hpl hpp;rw[aq9,amu,au (by omega) (by omega)];refine PB.dec (fun hk=>?_) (fun hk=>PB.mk (by omega) (by omega) ?_)
  ·refine PB.call (iD hd (by omega) (by omega) (by omega)) fun r h3=>PB.aA (by omega) (ih _ r.2 _ (by omega) (by omega) (by omega) h3.2 (by rw[List.length_set];exact hpl) fun j=>?_);rw[jh];split
   ·exact h3.1
   ·exact hpp j
  ·have hz:∀i,(List.replicate ((np:Int)).toNat (0:Int)).getD i 0=0:=fun i=>X4 _ i;have hzl:(List.replicate ((np:Int)).toNat (0:Int)).length=np:=by simp
   have he:∀i:Nat,([]:List Int).getD i 0=0:=fun i=>by simp
   dsimp only;refine PB.dec (fun hk2=>PB.call (dP hd (by omega) (by omega)) fun r h3=>?_) fun hk2=>?_
   ·exact af1 hnp hsh hps hpb hpl hpp (by omega) 1000 r.1 r.2 _ [] [] (by omega) h3.1.1 (by omega) h3.2 hzl (fun i=>by rw[hz];omega) rfl (by simp;omega) (fun _ h=>by cases h) fun i=>by rw[he];omega
   ·rw[SN,RW];exact WC hnp hsh hps hpb hpl hpp _ hzl (fun i=>by rw[hz];omega) 1000 sh d [] [] (by omega) (by omega) (by omega) hd rfl (by simp;omega) (fun _ h=>by cases h) fun i=>by rw[he];omega
theorem aqj{sh:Nat}(hsh:1<=sh/\sh<=2):∀(f:Nat) (k:Int) (d:aB) (ps:List bj),k<f->0<=k->Cd d->sh<=ps.length->ps.length+k<=6->(∀x,x∈ps->¬jW x)->PB (Gr 1000 f sh k d.1 d.2 ps) (Fw 1000 f sh k d.1 d.2 ps) ur vw:=by
 intro f;induction f with
 | zero=>intros;omega
 | succ f ih=>
  intro k d ps h0 h1 hd h2 h3 hb;rw[abq,ayu];refine PB.dec (fun hk=>?_) (fun hk=>PB.mk (by omega) (by omega) ?_)
  ·rw[au (by omega) (by omega)];refine PB.call (dP hd (by omega) (by omega)) fun r h4=>PB.fits (by omega) (by omega) ?_;rw[au (by omega) (by omega)];refine ih _ r.2 _ (by omega) (by omega) h4.2 (by rw[List.length_append];omega) (by rw[List.length_append,List.length_singleton];omega) (j4 hb ?_);unfold jW;dsimp only;omega
  ·exact aty (by omega) (by omega) rfl hb 1000 sh d _ (by omega) (by omega) (by omega) hd (by simp) fun i=>by
    have:=X4 (ps.length:Int).toNat i;rw[this];omega
theorem aoh{d:aB}(hd:Cd d):PB (GU 1000 d) (GF 1000 d) ur vw:=by
 unfold GF GU;have go:∀(d:aB) (ps:List bj),Cd d->1<=ps.length->ps.length<=2->(∀x,x∈ps->¬jW x)->PB (Eu 1000 1000 d.1 d.2 ps) (Gw 1000 1000 d.1 d.2 ps) ur vw:=fun d ps hd h1 h2 hb=>by
  rw[ab5,awk];exact PB.call (dP hd (by omega) (by omega)) fun r h=>aqj ⟨h1,h2⟩ 1000 r.1 r.2 ps (by omega) h.1.1 h.2 (Nat.le_refl _) (by omega) hb
 have hb0:¬jW (0,true):=by unfold jW;decide
 refine PB.call (oU hd (by omega)) fun r h=>PB.bool (fun _=>PB.fits (by decide) (by decide) (go r.2 _ h (by decide) (by decide) fun x hx=>?_)) fun _=>go r.2 _ h (by decide) (by decide) fun x hx=>?_
 ·rcases List.mem_append.1 hx with hx | hx
  ·rw[List.mem_singleton.1 hx];exact hb0
  ·rw[List.mem_singleton.1 hx];unfold jW;decide
 ·rw[List.mem_singleton.1 hx];exact hb0
end
noncomputable section
theorem N8{d:aB}(hd:Cd d){k a t:Int}(hk:1<=k/\k<=6)(ha:0<=a/\a<=255)(ht:0<=t):P (xf 1000 d k a t) fun r=>(Ve r.1/\r.1.1=a/\r.1.2.1=k/\r.1.2.2.1=t)/\Cd r.2:=by
 unfold xf Lm;refine P.call (iD hd (by omega) (by omega) (by omega)) fun r1 h1=>P.bind rfl (P.not (fun _=>?_) fun _=>P.some ⟨⟨⟨ha,hk,ht,by dsimp only;omega,by dsimp only;omega,by dsimp only;omega,by dsimp only;omega,by dsimp only;omega⟩,rfl,rfl,rfl⟩,h1.2⟩);refine P.call (iD h1.2 (by omega) (by omega) (by omega)) fun r2 h2=>P.call (iD h2.2 (by omega) (by omega) (by omega)) fun r3 h3=>P.call (dP h3.2 (by omega) (by omega)) fun r4 h4=>P.call (dP h4.2 (by omega) (by omega)) fun r5 h5=>P.some ⟨⟨⟨ha,hk,ht,by dsimp only;omega,by dsimp only;omega,by dsimp only;omega,by dsimp only;omega,by dsimp only;omega⟩,rfl,rfl,rfl⟩,h5.2⟩
theorem av1{d:aB}(hd:Cd d):P (HA 1000 d) fun r=>(r.1.1<=120/\0<=r.1.2.1/\r.1.2.1<r.1.1/\0<=r.1.2.2/\r.1.2.2<=11)/\Cd r.2:=by
 unfold HA;refine P.call (iD hd (by omega) (by omega) (by omega)) fun r1 h1=>P.call (dP h1.2 (by omega) (by omega)) fun r2 h2=>P.call (dP h2.2 (n:=r1.1) (by omega) (by omega)) fun r3 h3=>P.some ⟨by dsimp only;omega,h3.2⟩
def oT(a:bQ)(se:List bJ)(c:cB):Prop:=∀cs zs ps,Vc (a,(se,(cs,(zs,ps)))) c
theorem oT.of{a:bQ}{se:List bJ}{c:cB}(h:Vc (a,(se,([],([],[])))) c):oT a se c:=fun _ _ _=>⟨h.k,h.t,h.f,h.v,h.l⟩
theorem am4{d:aB}(hd:Cd d)(a:bQ)(se:List bJ)(hr:1<=a.1.2.length/\a.1.2.length<=1000)(hs:1<=se.length/\se.length<=100):P (FV 1000 d (a,(se,((),([],[]))))) fun r=>oT a se r.1/\Cd r.2:=by
 unfold FV;refine P.call (iD hd (by omega) (by omega) (by omega)) fun r1 h1=>P.call (iD h1.2 (by omega) (by omega) (by omega)) fun r2 h2=>P.call (av1 h2.2) fun r3 h3=>?_;have mk:∀(k t:Int),1<=k->k<=5->(0<=t/\t<(if k=5 then a.1.2.length else se.length))->(k=3->(se.getD t.toNat gJ).2.1=5)->oT a se (k,(t,(r2.1,r3.1))):=fun k t k1 k2 ht hf=>oT.of ⟨⟨k1,k2⟩,ht,hf,by dsimp only;omega,by dsimp only;omega⟩;refine P.beq (fun e=>?_) fun e=>P.beq (fun e5=>P.beq (fun e0=>by dsimp only at e0;omega) fun _=>?_) fun e5=>P.beq (fun e0=>by dsimp only at e0;omega) fun _=>?_
 ·have lo:∀(x9:List bC) (aj:List bu) (av:List cC) (ai:List cW) (u1 u2 u3 u4 u5 u6 u7:Int),∀(f:Nat) (i:Int),0<=i->se.length<f+i->i<=se.length->P (G2 1000 f i r3.2.1 r3.2.2 a.1.1 a.1.2 x9 aj se av ai u1 u2 u3 u4 u5 u6 r1.1 u7 r2.1 r3.1.1 r3.1.2.1 r3.1.2.2) fun r=>oT a se r.1/\Cd r.2:=by
   intro x9 aj av ai u1 u2 u3 u4 u5 u6 u7 f;induction f with
   | zero=>intros;omega
   | succ f ih=>
    intro i h0 h4 h5;rw[Zv,au (by omega) (by omega)];refine P.dec (fun hk=>P.aA (by omega) (P.beq (fun e2=>P.some ⟨mk r1.1 i (by omega) (by omega) (by rw[if_neg (by omega)];omega) fun _=>e2,h3.2⟩) fun _=>ih _ (by omega) (by omega) (by omega))) fun hk=>?_;rw[show((1:Nat)==5)=false from rfl,cond_false];refine P.beq (fun e0=>by omega) fun _=>P.call (dP h3.2 (by omega) (by omega)) fun r4 h6=>P.some ⟨mk 1 r4.1 (by omega) (by omega) (by rw[if_neg (by omega)];omega) fun e=>by omega,h6.2⟩
  exact lo _ _ _ _ _ _ _ _ _ _ _ 1000 0 (by omega) (by omega) (by omega)
 ·refine P.call (dP h3.2 (by dsimp only;omega) (by dsimp only;omega)) fun r4 h6=>P.some ⟨mk r1.1 r4.1 (by omega) (by omega) (by rw[if_pos e5];exact h6.1) fun e=>by omega,h6.2⟩
 ·refine P.call (dP h3.2 (by dsimp only;omega) (by dsimp only;omega)) fun r4 h6=>P.some ⟨mk r1.1 r4.1 (by omega) (by omega) (by rw[if_neg e5];exact h6.1) fun e=>by omega,h6.2⟩
structure Sn (a:bQ) (l:List bJ):Prop where
 n:l.length<=20
 e:∀x,x∈l->Ve x/\x.2.2.1<vA a x.2.1
 u:∀i,i<l.length->(l.getD i gJ).1=i
theorem Sn.app{a:bQ}{l:List bJ}(h:Sn a l){x:bJ}(hn:l.length<20)(h1:Ve x)(h2:x.1=l.length)(h3:x.2.2.1<vA a x.2.1):Sn a (l++[x]):=
 ⟨by rw[List.length_append,List.length_singleton];omega,j4 h.e ⟨h1,h3⟩,fun i hi=>by
  rw[List.length_append,List.length_singleton] at hi;rw[jI];by_cases e:i<l.length
  ·rw[if_pos e];exact h.u i e
  ·rw[if_neg e,if_pos (by omega),h2];omega⟩
structure Zo (nr nc:Nat) (z:cC):Prop where
 r:∃t:Tr,Good t/\t.cw nc/\z.1=t.fl 0
 h:0<=z.2.1/\z.2.1<=100
 f:0<=z.2.2.2/\z.2.2.2<=100
 n:z.2.2.1.length<=128
 w:∀i,i<z.2.2.1.length->0<=z.2.2.1.getD i 0/\z.2.2.1.getD i 0<nr/\∀j,j+1=i->z.2.2.1.getD j 0<z.2.2.1.getD i 0
theorem VZ{a:bQ}(ha:Va a){se:List bJ}(hs:Sn a se){cs:List cB}(hc:cs.length<=4)(hcs:∀c,c∈cs->oT a se c){zs:List cC}(hz:zs.length<=3)(hzs:∀z,z∈zs->Zo a.1.2.length cs.length z){ps:List cW}(hp:ps.length<=4)(hps:∀x,x∈ps->1<=x.1/\x.1<=3):Vs (a,(se,(cs,(zs,ps)))) where
 a:=ha
 sn:=by have:=hs.n;show se.length<=64;omega
 cn:=by show cs.length<=64;omega
 zn:=by show zs.length<=16;omega
 pn:=by show ps.length<=64;omega
 e:=hs.e
 u:=fun i j h1 h2=>by
  have h2:j<se.length:=h2;show(se.getD i gJ).1≠(se.getD j gJ).1;rw[hs.u i (by omega),hs.u j h2];omega
 c:=fun x hx=>hcs x hx _ _ _
 z:=fun x hx=>by
  obtain⟨h1,h2,h3,h4,h5⟩:=hzs x hx;exact⟨h1,by omega,h3,h4,h5⟩
 p:=hps
end
noncomputable section
theorem avj{d:aB}(hd:Cd d){c:Int}(h1:1<=c)(h2:c<=64):P (Ok 1000 d c 2) fun r=>(∃t:Tr,Good t/\t.cw c/\r.1=t.fl 0)/\Cd r.2:=by
 obtain⟨t,d',e,g1,g2,g3,g4⟩:=at3 (N:=1000) (by omega) h1 h2 2 1000 d hd (by omega) (by omega);exact⟨(t.fl 0,d'),e,⟨t,⟨Tr.G9 h2 g1,by omega,by omega⟩,g1,rfl⟩,g4⟩
section
variable {a:bQ} (ha:Va a) (hr:1<=a.1.2.length)
def SQ(r:(bX×bF×bF)×aB):Prop:=Vs r.1.1/\Cd r.2/\1<=r.1.1.2.2.2.1.length/\r.1.1.2.2.2.1.length<=3
section
variable {se:List bJ} (hs:Sn a se) {cs:List cB} (hc:1<=cs.length/\cs.length<=4) (hcs:∀c,c∈cs->oT a se c) (s1 s2:List Int) (t1 t2:List Int)
theorem aud(n5:Nat)(n:Int)(zs:List cC)(ho fr:Int)(hho:0<=ho/\ho<=100)(hfr:0<=fr/\fr<=100)(ru:List aP)(hru:∃t:Tr,Good t/\t.cw cs.length/\ru=t.fl 0)(hz:zs.length<=3)(ha:Va a)
  (hR:∀(d:aB) (z:cC),Cd d->Zo a.1.2.length cs.length z->P (zR 1000 n5 a.1.2.length (W (n-1)) d.1 d.2 s1 s2 t1 t2 a.1.1 a.1.2 a.2.1 a.2.2 se cs (zs++[z])) SQ):
  ∀(f:Nat) (i:Int) (d:aB) (l:List Int),0<=i->a.1.2.length<f+i->i<=a.1.2.length->Cd d->l.length<=i->(∀k,k<l.length->0<=l.getD k 0/\l.getD k 0<i/\∀j,j+1=k->l.getD j 0<l.getD k 0)->P (BF 1000 n5 f a.1.2.length n i d.1 d.2 s1 s2 t1 t2 a.1.1 a.1.2 a.2.1 a.2.2 se ho fr cs zs ru l) SQ:=by
 have hk:=ha.m.k;intro f;induction f with
 | zero=>intros;omega
 | succ f ih=>
  intro i d l h0 h1 h2 hd hl hw;rw[ab0,au (by omega) (by omega)];refine P.dec (fun hki=>P.call (oU hd (by omega)) fun r h3=>P.bool (fun _=>P.fits (by omega) (by omega) ?_) fun _=>?_) fun hki=>P.fits (by omega) (by omega) ?_
  ·refine ih _ r.2 _ (by omega) (by omega) (by omega) h3 (by rw[List.length_append,List.length_singleton];omega) fun k hk'=>?_;rw[List.length_append,List.length_singleton] at hk';rw[jI];by_cases e:k<l.length
   ·rw[if_pos e];obtain⟨w1,w2,w3⟩:=hw k e;exact⟨w1,by omega,fun j hj=>by rw[jI,if_pos (by omega)];exact w3 j hj⟩
   ·rw[if_neg e,if_pos (by omega)];exact⟨h0,by omega,fun j hj=>by rw[jI,if_pos (by omega)];exact(hw j (by omega)).2.1⟩
  ·exact ih _ r.2 _ (by omega) (by omega) (by omega) h3 (by omega) fun k hk'=>by
    obtain⟨w1,w2,w3⟩:=hw k hk';exact⟨w1,by omega,w3⟩
  ·exact hR d _ hd ⟨hru,hho,hfr,by dsimp only;omega,fun k hk'=>by
    obtain⟨w1,w2,w3⟩:=hw k hk';exact⟨w1,by dsimp only;omega,w3⟩⟩
include ha hs hc hcs in
theorem aie:∀(f:Nat) (n:Int) (d:aB) (zs:List cC),n<f->0<=n->Cd d->zs.length+n<=3->1<=zs.length+n->(∀z,z∈zs->Zo a.1.2.length cs.length z)->P (zR 1000 f a.1.2.length n d.1 d.2 s1 s2 t1 t2 a.1.1 a.1.2 a.2.1 a.2.2 se cs zs) SQ:=by
 have hk:=ha.m.k;intro f;induction f with
 | zero=>intros;omega
 | succ f ih=>
  intro n d zs h0 h1 hd hz hz1 hzs;rw[acg];refine P.dec (fun hn=>?_) fun hn=>P.some ⟨?_,hd,?_,?_⟩
  ·refine P.call (avj hd (by omega) (by omega)) fun r1 h2=>P.call (dP h2.2 (by omega) (by omega)) fun r2 h3=>P.call (dP h3.2 (by omega) (by omega)) fun r3 h4=>?_;refine aud s1 s2 t1 t2 f n zs r2.1 r3.1 (by omega) (by omega) r1.1 h2.1 (by omega) ha (fun d z hd hzo=>?_) 1000 0 r3.2 [] (by omega) (by omega) (by omega) h4.2 (by simp) fun k hk'=>by simp at hk'
   rw[au (by omega) (by omega)];exact ih _ d _ (by omega) (by omega) hd (by rw[List.length_append,List.length_singleton];omega) (by rw[List.length_append,List.length_singleton];omega) (j4 hzs hzo)
  ·refine VZ ha hs hc.2 hcs (by omega) hzs (by decide) fun x hx=>?_;simp only[List.mem_cons,List.not_mem_nil,or_false] at hx;rcases hx with rfl | rfl | rfl | rfl<;>decide
  ·dsimp only;omega
  ·dsimp only;omega
end
variable {se:List bJ} (hs:Sn a se) (s1 s2:List Int) (t1 t2:List Int)
include ha hr in
theorem Z2{se:List bJ}(hs:Sn a se)(hse:1<=se.length):∀(f:Nat) (n:Int) (d:aB) (cs:List cB),n<f->0<=n->Cd d->cs.length+n<=4->1<=cs.length+n->(∀c,c∈cs->oT a se c)->P (He 1000 f a.1.2.length n d.1 d.2 s1 s2 t1 t2 a.1.1 a.1.2 a.2.1 a.2.2 se cs) SQ:=by
 have hk:=ha.m.k;have hsn:=hs.n;intro f;induction f with
 | zero=>intros;omega
 | succ f ih=>
  intro n d cs h0 h1 hd hc hc1 hcs;rw[ava];refine P.dec (fun hn=>?_) fun hn=>?_
  ·refine P.call (am4 hd a se (by omega) (by omega)) fun r h2=>P.fits (by omega) (by omega) ?_;rw[au (by omega) (by omega)];exact ih _ r.2 _ (by omega) (by omega) h2.2 (by rw[List.length_append,List.length_singleton];omega) (by rw[List.length_append,List.length_singleton];omega) (j4 hcs h2.1)
  ·refine P.call (iD hd (by omega) (by omega) (by omega)) fun r h2=>aie ha hs (by omega) hcs s1 s2 t1 t2 1000 r.1 r.2 [] (by omega) (by omega) h2.2 (by simp;omega) (by simp;omega) fun _ h=>by cases h
include ha hr in
theorem amj(gQ:List aR)(jz:List bC):∀(f:Nat) (i:Int) (d:aB) (se:List bJ),0<=i->a.2.2.length<f+i->i<=a.2.2.length->Cd d->Sn a se->1<=se.length->se.length<=6+i->a.2.2.length<=2->P (Ho 1000 f a.1.2.length i d.1 d.2 gQ jz a.2.2 s1 s2 t1 t2 a.1.1 a.1.2 a.2.1 a.2.2 se) SQ:=by
 intro f;induction f with
 | zero=>intros;omega
 | succ f ih=>
  intro i d se h0 h1 h2 hd hs hse hse2 hdn;rw[al8];refine P.dec (fun hk=>?_) fun hk=>P.call (iD hd (by omega) (by omega) (by omega)) fun r h3=>Z2 ha hr s1 s2 t1 t2 hs hse 1000 r.1 r.2 [] (by omega) (by omega) h3.2 (by simp;omega) (by simp;omega) fun _ h=>by cases h
  refine P.call (N8 hd (by omega) (by omega) h0) fun r h3=>P.fits (by omega) (by omega) ?_;obtain⟨⟨e1,e2,e3,e4⟩,e5⟩:=h3;rw[au (by omega) (by omega)];refine ih _ r.2 _ (by omega) (by omega) (by omega) e5 (hs.app (by omega) e1 e2 ?_) (by rw[List.length_append];omega) (by rw[List.length_append,List.length_singleton];omega) hdn;rw[e3,e4];unfold vA;rw[if_neg (by decide),if_pos rfl];exact hk
include ha hr in
theorem alv(gQ:List aR):∀(f:Nat) (i:Int) (d:aB) (se:List bJ),0<=i->a.2.1.length<f+i->i<=a.2.1.length->Cd d->Sn a se->1<=se.length->se.length<=4+i->a.2.1.length<=2->a.2.2.length<=2->P (Fh 1000 f a.1.2.length i d.1 d.2 gQ a.2.1 a.2.2 s1 s2 t1 t2 a.1.1 a.1.2 a.2.1 a.2.2 se) SQ:=by
 intro f;induction f with
 | zero=>intros;omega
 | succ f ih=>
  intro i d se h0 h1 h2 hd hs hse hse2 hfn hdn;rw[as0];refine P.dec (fun hk=>?_) fun hk=>amj ha hr s1 s2 t1 t2 _ _ 1000 0 d se (by omega) (by omega) (by omega) hd hs hse (by omega) hdn;refine P.call (N8 hd (by omega) (by omega) h0) fun r h3=>P.fits (by omega) (by omega) ?_;obtain⟨⟨e1,e2,e3,e4⟩,e5⟩:=h3;rw[au (by omega) (by omega)];refine ih _ r.2 _ (by omega) (by omega) (by omega) e5 (hs.app (by omega) e1 e2 ?_) (by rw[List.length_append];omega) (by rw[List.length_append,List.length_singleton];omega) hfn hdn;rw[e3,e4];unfold vA;rw[if_pos rfl];exact hk
include ha hr in
theorem agd(gQ:List aR):∀(f:Nat) (n:Int) (d:aB) (se:List bJ),n<f->0<=n->Cd d->Sn a se->1<=se.length+n->se.length+n<=4->a.2.1.length<=2->a.2.2.length<=2->P (GS 1000 f a.1.2.length n d.1 d.2 gQ a.2.1 a.2.2 s1 s2 t1 t2 a.1.1 a.1.2 a.2.1 a.2.2 se) SQ:=by
 have hk:=ha.m.k;intro f;induction f with
 | zero=>intros;omega
 | succ f ih=>
  intro n d se h0 h1 hd hs hse hse2 hfn hdn;rw[ani];refine P.dec (fun hk=>?_) fun hk=>alv ha hr s1 s2 t1 t2 _ 1000 0 d se (by omega) (by omega) (by omega) hd hs (by omega) (by omega) hfn hdn;refine P.call (iD hd (by omega) (by omega) (by omega)) fun r1 h3=>P.call (dP h3.2 (by omega) (by omega)) fun r2 h4=>P.call (N8 h4.2 (by omega) (by omega) h4.1.1) fun r h5=>P.fits (by omega) (by omega) ?_;obtain⟨⟨e1,e2,e3,e4⟩,e5⟩:=h5;rw[au (by omega) (by omega)];refine ih _ r.2 _ (by omega) (by omega) e5 (hs.app (by omega) e1 e2 ?_) (by rw[List.length_append,List.length_singleton];omega) (by rw[List.length_append,List.length_singleton];omega) hfn hdn
  rw[e3,e4];unfold vA;rw[if_neg (by omega),if_neg (by omega)];omega
include ha hr in
theorem S1(x7:List aR){d:aB}(hd:Cd d)(hfn:a.2.1.length<=2)(hdn:a.2.2.length<=2):P (B5 1000 1000 d.1 d.2 x7 a.2.1 a.2.2 s1 s2 t1 t2 a.1.1 a.1.2 a.2.1 a.2.2) SQ:=by
 rw[abc];exact P.call (iD hd (by omega) (by omega) (by omega)) fun r h=>agd ha hr s1 s2 t1 t2 x7 1000 r.1 r.2 [] (by omega) (by omega) h.2 ⟨by simp,fun _ h=>(by cases h),fun i h=>(by cases h)⟩ (by simp;omega) (by simp;omega) hfn hdn
end
theorem MV{ps:List bj}{rs:List aR}{fs:List bC}{ds:List bu}{sf sd:List Int}(h1:∀x,x∈ps->¬jW x)(h2:ps.length<=64)(h3:∀x,x∈rs->Fr ps.length x)(h4:rs.length<=128)(he:pM rs.length fs ds sf sd):Va ((ps,rs),(fs,ds)) where
 m:=⟨h2,h4,h1,fun x hx=>⟨(h3 x hx).e,(h3 x hx).g⟩⟩
 fn:=by have:=he.fn;show fs.length<=8;omega
 dn:=by have:=he.dn;show ds.length<=16;omega
 f:=fun x hx=>⟨(he.f x hx).1,(he.f x hx).2.right⟩
 d:=fun x hx=>⟨(he.d x hx).1.1,(he.d x hx).1.2,(he.d x hx).2.1.drs (he.d x hx).2.2⟩
theorem Yl{d:aB}(hd:Cd d):P (I7 1000 d) SQ:=by
 unfold I7;refine P.or (PB.both (aoh hd) (fun r hr=>?_) fun r hr=>?_)
 ·obtain⟨⟨m1,m2,m3,m4,⟨sf,sd,m5⟩,m6,m7⟩,h0⟩:=hr;refine P.beq (fun _=>?_) fun e=>by omega
  refine P.fits (by omega) (by omega) (P.fits (by omega) (by omega) ?_);have hl:(r.1.1.1.1++[((0:Int),true)]).length=r.1.1.1.1.length+1:=by simp
  rw[hl,au (by omega) (by omega)];have hfs:r.1.1.2.1=[]:=List.eq_nil_iff_forall_not_mem.2 fun x hx=>by have:=(m5.f x hx).1;omega
  have hds:r.1.1.2.2=[]:=List.eq_nil_iff_forall_not_mem.2 fun x hx=>by have:=(m5.d x hx).1.1;omega
  have hV:Va ((r.1.1.1.1++[((0:Int),true)],[((0:Int),((((r.1.1.1.1.length+1:Nat):Int)-1),((10:Int),((4:Int),(false,(false,(((1:Int),(1:Int)),((0:Int),(0:Int)))))))))]),(r.1.1.2.1,r.1.1.2.2)):=by
   refine MV (sf:=[]) (sd:=[]) (j4 m1 (by unfold jW;decide)) (by omega) (fun x hx=>?_) (by simp) ?_
   ·rw[List.mem_singleton.1 hx];refine⟨?_,?_,by dsimp only;omega⟩
    ·rw[hl];unfold fS;dsimp only;omega
    ·unfold km nP;dsimp only;omega
   ·rw[hfs,hds];exact⟨by simp,by simp,fun _ h=>(by cases h),fun _ h=>(by cases h),rfl,rfl,fun _ h=>(by cases h),fun i h=>(by cases h)⟩
  exact S1 hV (by simp) _ _ _ _ _ m6 (by rw[hfs];simp) (by rw[hds];simp)
 ·obtain⟨⟨m1,m2,m3,m4,⟨sf,sd,m5⟩,m6,m7⟩,h0⟩:=hr;refine P.beq (fun e=>by omega) fun _=>?_;have hV:Va ((r.1.1.1.1,r.1.1.1.2),(r.1.1.2.1,r.1.1.2.2)):=MV m1 (by omega) m4 (by omega) m5;exact S1 hV (by dsimp only;omega) _ _ _ _ _ m6 m5.fn m5.dn
end
noncomputable section
theorem apl{d:aB}(hd:Cd d):P (I0 1000 d) fun r=>(-1<=r.1/\r.1<=1)/\Cd r.2:=by
 unfold I0;refine P.call (dP hd (by omega) (by omega)) fun r h=>P.some ⟨?_,h.2⟩;dsimp only;rw[au (by omega) (by omega)];omega
def FQ(nz:Nat)(r:cz×aB):Prop:=(∃z rp,eO z rp 0 r.1/\gM r.1.1.length z rp/\z.length=nz)/\Cd r.2
section
variable {nz:Nat} {sw:List bV} (hn:nz<=sw.length/\1<=sw.length/\sw.length<=6) (hw:∀i,i<sw.length->Vw i 0 (sw.getD i bM)) {rp:Int} (hrp:1<=rp/\rp<=100000) (aQ:Int)
structure Fz (n:Nat) (fr:List Bool) (z:List Int):Prop where
 nn:fr.length=n
 cc:fr.countP (fun b=>b)=z.length
 ii:fI n z
 mm:∀x,x∈z->fr.getD x.toNat false=true
 dd:∀i j,i<j->j<z.length->z.getD i 0≠z.getD j 0
theorem aj8(n2:Nat)(i:Int)(fr:List Bool)(z:List Int)(h:Fz sw.length fr z)(hn:1<=sw.length/\sw.length<=6)(d:aB)(hd:Cd d)(hzl:z.length<=6)
  (hR:∀(fr:List Bool) (z':List Int),Fz sw.length fr z'->z'.length=z.length+1->P (Cq 1000 n2 nz (W (i+1)) d.1 d.2 aQ rp fr sw z') (FQ nz)):∀(m f k j:Nat),(k+m) % sw.length=j->j<sw.length->fr.getD j false=false->m<f->k<sw.length->P (z9 1000 n2 f nz i k d.1 d.2 aQ rp fr sw z) (FQ nz):=by
 have hfl:=h.nn;have here:∀(f k:Nat),k<sw.length->fr.getD k false=false->P (z9 1000 n2 (f+1) nz i k d.1 d.2 aQ rp fr sw z) (FQ nz):=fun f k h5 h3=>by
  rw[Qg,Int.toNat_natCast];refine P.aA (by omega) (P.bool (fun e=>by rw[h3] at e;cases e) fun _=>P.aA (by omega) (P.fits (by omega) (by omega) ?_));refine hR _ _ ⟨by rw[List.length_set];exact hfl,?_,h.ii.app (by omega),?_,fun a b h6 h7=>?_⟩ (by rw[List.length_append];rfl)
  ·have:=w9 (fun b=>b) false true fr k (by omega);rw[h3] at this;simp only[Bool.false_eq_true,if_false,if_true] at this;rw[List.length_append,List.length_singleton,<-h.cc];omega
  ·refine j4 (fun x hx=>?_) ?_
   ·have:=h.mm x hx;rw[jh];split
    ·rfl
    ·exact this
   ·rw[Int.toNat_natCast,jh,if_pos ⟨rfl,by omega⟩]
  ·rw[List.length_append,List.length_singleton] at h7;rw[jI,jI,if_pos (show a<z.length by omega)];by_cases e:b<z.length
   ·rw[if_pos e];exact h.dd a b h6 e
   ·rw[if_neg e,if_pos (by omega)];intro e2;have:=h.mm _ (dU 0 (show a<z.length by omega));rw[e2,Int.toNat_natCast,h3] at this;cases this
 intro m;induction m with
 | zero=>
  intro f k j h1 h2 h3 h4 h5;obtain⟨f,rfl⟩:∃g,f=g+1:=⟨f-1,by omega⟩;rw[Nat.add_zero,Nat.mod_eq_of_lt h5] at h1;exact here f k h5 (h1▸h3)
 | succ m ih=>
  intro f k j h1 h2 h3 h4 h5;obtain⟨f,rfl⟩:∃g,f=g+1:=⟨f-1,by omega⟩;cases e:fr.getD k false with
  | false=>exact here f k h5 e
  | true=>
   rw[Qg,Int.toNat_natCast,e];refine P.aA (by omega) ?_;simp only[cond_true];refine P.beq (fun e2=>by omega) fun _=>?_;rw[au (by omega) (by omega),hfl,Int.tmod_eq_emod_of_nonneg (by omega),show((k:Int)+1) % (sw.length:Int)=(((k+1) % sw.length:Nat):Int) by rw[Int.natCast_emod];rfl];refine ih f _ j ?_ h2 h3 (by omega) (Nat.mod_lt _ (by omega));rw[Nat.mod_add_mod,<-h1];congr 1;omega
include hn hw hrp in
theorem arj:∀(f:Nat) (i:Int) (d:aB) (fr:List Bool) (z:List Int),0<=i->nz<f+i->i=z.length->i<=nz->Cd d->Fz sw.length fr z->P (Cq 1000 f nz i d.1 d.2 aQ rp fr sw z) (FQ nz):=by
 intro f;induction f with
 | zero=>intros;omega
 | succ f ih=>
  intro i d fr z h0 h1 h2 h3 hd h;rw[Za];refine P.dec (fun hk=>?_) fun hk=>P.some ⟨⟨z,rp,⟨by dsimp only;omega,hw,rfl,rfl⟩,⟨by omega,h.ii,h.dd,hrp⟩,by omega⟩,hd⟩;refine P.call (dP hd (by omega) (by omega)) fun r h4=>?_;have hfree:∃j,j<sw.length/\fr.getD j false=false:=by
   apply Classical.byContradiction;intro hne;have hall:∀b,b∈fr->b=true:=fun b hb=>by
    obtain⟨j,hj,rfl⟩:=List.getElem_of_mem hb;cases e:fr[j] with
    | true=>rfl
    | false=>exact absurd ⟨j,by have:=h.nn;omega,by rw[List.getD_eq_getElem?_getD,List.getElem?_eq_getElem hj,e];rfl⟩ hne
   have:fr.countP (fun b=>b)=fr.length:=List.countP_eq_length.2 hall;have:=h.cc;have:=h.nn;omega
  obtain⟨j,hj,hj2⟩:=hfree;obtain⟨k,hk2⟩:∃k:Nat,r.1=k:=⟨r.1.toNat,by omega⟩;rw[hk2];refine aj8 aQ f i fr z h ⟨hn.2.1,hn.2.2⟩ r.2 h4.2 (by omega) (fun fr z' hz hl=>?_) (j+sw.length-k) 1000 k j ?_ hj hj2 (by omega) (by omega)
  ·rw[au (by omega) (by omega)];exact ih _ r.2 fr z' (by omega) (by omega) (by omega) (by omega) h4.2 hz
  ·rw[show k+(j+sw.length-k)=j+sw.length by omega,Nat.add_mod_right,Nat.mod_eq_of_lt hj]
end
theorem ara(nz:Nat)(n:Int)(hn:nz<=n/\n<=6){rp:Int}(hrp:1<=rp/\rp<=100000)(x8:Int):∀(f:Nat) (i:Int) (d:aB) (sw:List bV),0<=i->6<f+i->i<=max n 1->i=sw.length->Cd d->(∀k,k<sw.length->Vw k 0 (sw.getD k bM))->P (Ep 1000 f nz n i d.1 d.2 x8 rp sw) (FQ nz):=by
 intro f;induction f with
 | zero=>intros;omega
 | succ f ih=>
  intro i d sw h0 h1 h2 h3 hd hw;rw[ag9,au (by omega) (by omega)];refine P.dec (fun hk=>?_) fun hk=>P.mk (by omega) (by omega) ?_
  ·refine P.call (dP hd (by omega) (by omega)) fun r1 h4=>P.call (oU h4.2 (by omega)) fun r2 h5=>P.call (apl h5) fun r3 h6=>P.fits (by omega) (by omega) ?_;rw[au (by omega) (by omega)];refine ih _ r3.2 _ (by omega) (by omega) (by omega) (by rw[List.length_append,List.length_singleton];omega) h6.2 fun k hk'=>?_;rw[List.length_append,List.length_singleton] at hk';rw[jI];by_cases e:k<sw.length
   ·rw[if_pos e];exact hw k e
   ·rw[if_neg e,if_pos (by omega)];exact⟨by dsimp only;omega,by dsimp only;omega,h6.1,fun e=>by cases e⟩
  ·refine arj (by omega) hw hrp x8 1000 0 d _ [] (by omega) (by omega) rfl (by omega) hd ⟨by simp,?_,fun _ h=>(by cases h),fun _ h=>(by cases h),fun i j _ h=>(by simp at h)⟩;rw[List.countP_replicate];rfl
theorem ai2{d:aB}(hd:Cd d)(nz:Nat)(hz:nz<=4):P (Ix 1000 d nz) (FQ nz):=by
 unfold Ix;refine P.call (iD hd (by omega) (by omega) (by omega)) fun r1 h1=>P.call (dP h1.2 (by omega) (by omega)) fun r2 h2=>?_;rw[au (by omega) (by omega)];exact ara nz _ (by omega) (by omega) 0 1000 0 r2.2 [] (by omega) (by omega) (by omega) rfl h2.2 fun k h=>by simp at h
def EQ(r:(bX×cz)×aB):Prop:=Vs r.1.1/\r.1.1.2.2.2.1.length=1/\FQ 1 (r.1.2,r.2)
theorem aqm(d:aB)(hd:Cd d)(u:Int)(ps:List bj)(rs:List aR)(se:List bJ)(cs:List cB)(zs:List cC)(pe:List cW)(hS:Vs (((ps,rs),([],[])),(se,(cs,(zs,pe)))))(hz:zs.length=1):∀(f:Nat) (n:Int) (sw:List bV),n<f->0<=n->1<=sw.length->sw.length+n<=3->(∀k,k<sw.length->Vw k 0 (sw.getD k bM))->P (Gi 1000 f n d.1 d.2 u ps rs se cs zs pe 3 sw [(sw.length:Int)-1]) EQ:=by
 intro f;induction f with
 | zero=>intros;omega
 | succ f ih=>
  intro n sw h0 h1 h2 h3 hw;rw[ahw];refine P.dec (fun hk=>P.fits (by omega) (by omega) ?_) fun hk=>P.some ⟨hS,hz,⟨_,3,⟨by dsimp only;omega,hw,rfl,rfl⟩,⟨by simp,fun x hx=>?_,fun i j hi hj=>?_,by omega⟩,rfl⟩,hd⟩
  ·dsimp only;have hl:(sw++[((W ((sw.length:Int)-1)),((0:Int),((0:Int),(true,false))))]).length=sw.length+1:=by simp
   refine P.aA (by simp) ?_;have:=ih (n-1) (sw++[((W ((sw.length:Int)-1)),((0:Int),((0:Int),(true,false))))]) (by omega) (by omega) (by omega) (by omega) fun k hk'=>?_
   ·rw[au (by omega) (by omega)];rw[hl] at this ⊢;rw[au (n:=((sw.length+1:Nat):Int)-1) (by omega) (by omega)];exact this
   ·rw[hl] at hk';rw[jI];by_cases e:k<sw.length
    ·rw[if_pos e];exact hw k e
    ·rw[if_neg e,if_pos (by omega),au (by omega) (by omega)];exact⟨by dsimp only;omega,by dsimp only;omega,by dsimp only;omega,fun e=>by cases e⟩
  ·rw[List.mem_singleton.1 hx];dsimp only;omega
  ·simp at hj;omega
theorem VI{d:aB}(hd:Cd d):P (vi 1000 d) EQ:=by
 unfold vi;refine P.call (iD hd (by omega) (by omega) (by omega)) fun r1 h1=>P.call (iD h1.2 (by omega) (by omega) (by omega)) fun r2 h2=>P.call (iD h2.2 (by omega) (by omega) (by omega)) fun r3 h3=>P.call (dP h3.2 (by omega) (by omega)) fun r4 h4=>?_;have hV:Va (([((0:Int),true),((0:Int),true)],[((0:Int),((1:Int),(r1.1,((4:Int),(false,(false,(((1:Int),(1:Int)),((90000:Int),(90000:Int)))))))))]),([],[])):=by
  refine MV (sf:=[]) (sd:=[]) (fun x hx=>?_) (by simp) (fun x hx=>?_) (by simp) ⟨by simp,by simp,fun _ h=>(by cases h),fun _ h=>(by cases h),rfl,rfl,fun _ h=>(by cases h),fun i h=>(by cases h)⟩
  ·simp only[List.mem_cons,List.not_mem_nil,or_false] at hx;rcases hx with rfl | rfl<;>(unfold jW;decide)
  ·rw[List.mem_singleton.1 hx];refine⟨?_,?_,by dsimp only;omega⟩
   ·unfold fS;simp
   ·unfold km nP;dsimp only;omega
 refine aqm r4.2 h4.2 _ _ _ _ _ _ _ (VZ hV ?_ (by simp) (fun c hc=>?_) (by simp) (fun x hx=>?_) (by simp) fun x hx=>?_) rfl 1000 r4.1 _ (by omega) h4.1.1 (by simp) (by simp;omega) fun k hk=>?_
 ·refine⟨by simp,fun x hx=>?_,fun i hi=>?_⟩
  ·rw[List.mem_singleton.1 hx];exact⟨⟨by decide,by decide,by decide,by decide,by decide,by decide,by decide,by decide⟩,show(0:Int)<((1:Nat):Int) by decide⟩
  ·have:i=0:=by simpa using hi
   subst this;rfl
 ·rw[List.mem_singleton.1 hc];exact oT.of ⟨by dsimp only;omega,by simp,fun e=>absurd e (show(1:Int)≠3 by decide),by dsimp only;omega,by dsimp only;omega⟩
 ·rw[List.mem_singleton.1 hx];refine⟨⟨.c 0,⟨⟨by decide,by decide⟩,by decide,by decide⟩,⟨by decide,by simp⟩,rfl⟩,by dsimp only;omega,by dsimp only;omega,by simp,fun i hi=>?_⟩;have:i=0:=by simpa using hi
  subst this;exact⟨show(0:Int)<=0 by decide,by simp,fun j h=>by omega⟩
 ·simp only[List.mem_cons,List.not_mem_nil,or_false] at hx;rcases hx with rfl | rfl<;>decide
 ·have:k=0:=by simpa using hk
  subst this;exact⟨by decide,by decide,by decide,fun e=>by cases e⟩
theorem ax2(n:Int):0<=IntKind.u8.wrap n/\IntKind.u8.wrap n<=255:=by
 have h1:=Int.emod_nonneg n (show(256:Int)≠0 by decide);have h2:=Int.emod_lt_of_pos n (show(0:Int)<256 by decide);have:IntKind.u8.wrap n=n % 256:=by
  simp[IntKind.wrap,IntKind.bits,IntKind.signed]
 omega
theorem ah1(n1:Nat)(l:List Int)(k:Int)(hk:0<=k/\k<l.length)(hR:∀c:Int,P (AE 1000 n1 l c (W (k+1))) tt):∀(f:Nat) (c b:Int),-1<=b->b<=7->b+1<f->P (Cb 1000 n1 f l c k b) tt:=by
 intro f;induction f with
 | zero=>intros;omega
 | succ f ih=>
  intro c b h0 h1 h2;rw[aqr,au (n:=b-1) (by omega) (by omega)];refine P.dec (fun hk'=>?_) (fun hk=>hR _);have hu:=j3 (n:=b) (by omega) (by omega);dsimp only;exact P.aA hk (P.dec (fun _=>by omega) fun _=>P.bne (fun _=>ih _ _ (by omega) (by omega) (by omega)) fun _=>ih _ _ (by omega) (by omega) (by omega))
theorem ax3(l:List Int)(hl:l.length<=900):∀(f:Nat) (k c:Int),0<=k->l.length<f+k->k<=l.length->P (AE 1000 f l c k) tt:=by
 intro f;induction f with
 | zero=>intros;omega
 | succ f ih=>
  intro k c h0 h1 h2;rw[aap];refine P.dec (fun hk=>ah1 f l k ⟨h0,hk⟩ (fun c=>?_) 1000 c 7 (by omega) (by omega) (by omega)) (fun hk=>P.some trivial);rw[au (by omega) (by omega)];exact ih _ _ (by omega) (by omega) (by omega)
theorem Mr(a b:Int):P (s8 1000 a b) fun l=>By l/\l.length<=300:=by
 unfold s8;have nil:P (some (([]:List Int),(1:Int))) fun r=>By r.1/\r.1.length<=300:=P.some ⟨fun _ h=>(by cases h),by decide⟩;refine P.call (R:=fun r=>By r.1/\r.1.length<=300) ?_ fun r h=>P.some h;unfold Nv;refine P.dec (fun _=>nil) fun _=>P.dec (fun _=>nil) fun _=>P.dec (fun _=>nil) fun _=>P.dec (fun _=>nil) fun _=>?_;rw[ai5];refine P.dec (fun e=>by simp at e) fun _=>?_;dsimp only;refine P.fits (by simp) (by decide) (P.sl (by simp) (P.call (ax3 _ (by simp) 1000 0 _ (by omega) (by simp) (by simp)) fun c _=>P.fits (by simp) (by decide) (P.some ⟨fun x hx=>?_,by simp⟩)))
 simp only[List.mem_append,List.mem_cons,List.not_mem_nil,or_false] at hx;rcases hx with((rfl | rfl | rfl | rfl) | (rfl | rfl)) | (rfl | rfl)
 ·decide
 all_goals exact ax2 _
end
noncomputable section
variable (hA:BA 1000=some true)
abbrev sy(b:Bool):Prop:=b=true
section
variable {s:bX} {z:List Int} {rp:Int} {n:Nat} (hS:Vs s) (hZ:gM n z rp) (hzs:z.length=s.2.2.2.1.length)
include hA hZ in
theorem am9{b:Nat}{y:aT}(hI:Inv s z rp n b y)(hb:b<=390)(n2:Nat)(i:Int)(hi:0<=i/\i<y.2.2.2.2.2.2.2.2.length)(sw:List bV)(yZ kd tg vl:Int)(hk:kd=6)(htg:(y.2.2.2.2.2.2.2.2.getD i.toNat dN).2.2.1=tg)(hkd:(y.2.2.2.2.2.2.2.2.getD i.toNat dN).2.1=6)
  (hR:P (uQ 1000 n2 y.2.2.2.2.2.2.2.2 y.2.2.2.2.2.2.2.2.length (W (i+1)) s.1.1.1 s.1.1.2 s.1.2.1 s.1.2.2 s.2.1 s.2.2.1 s.2.2.2.1 s.2.2.2.2 sw z rp y.1.1.1.1 y.1.1.1.2 y.1.1.2.1 y.1.1.2.2 y.1.2.1 y.1.2.2.1 y.1.2.2.2.1 y.1.2.2.2.2 y.2.1 y.2.2.1.1 y.2.2.1.2 y.2.2.2.1 y.2.2.2.2.1 y.2.2.2.2.2.1 y.2.2.2.2.2.2.1.1 y.2.2.2.2.2.2.1.2.1 y.2.2.2.2.2.2.1.2.2 y.2.2.2.2.2.2.2.1.1 y.2.2.2.2.2.2.2.1.2.1 y.2.2.2.2.2.2.2.1.2.2.1 y.2.2.2.2.2.2.2.1.2.2.2.1 y.2.2.2.2.2.2.2.1.2.2.2.2 y.2.2.2.2.2.2.2.2) sy):∀(f:Nat) (k:Int),0<=k->z.length<f+k->k<=z.length->P (A9 1000 n2 f i y.2.2.2.2.2.2.2.2 y.2.2.2.2.2.2.2.2.length i z z.length k s.1.1.1 s.1.1.2 s.1.2.1 s.1.2.2 s.2.1 s.2.2.1 s.2.2.2.1 s.2.2.2.2 sw z rp y.1.1.1.1 y.1.1.1.2 y.1.1.2.1 y.1.1.2.2 y.1.2.1 y.1.2.2.1 y.1.2.2.2.1 y.1.2.2.2.2 y.2.1 y.2.2.1.1 y.2.2.1.2 y.2.2.2.1 y.2.2.2.2.1 y.2.2.2.2.2.1 y.2.2.2.2.2.2.1.1 y.2.2.2.2.2.2.1.2.1 y.2.2.2.2.2.2.1.2.2 y.2.2.2.2.2.2.2.1.1 y.2.2.2.2.2.2.2.1.2.1 y.2.2.2.2.2.2.2.1.2.2.1 y.2.2.2.2.2.2.2.1.2.2.2.1 y.2.2.2.2.2.2.2.1.2.2.2.2 y.2.2.2.2.2.2.2.2 yZ kd tg vl) sy:=by
 have hzn:=hZ.zn;have hip:=hI.ip;intro f;induction f with
 | zero=>intros;omega
 | succ f ih=>
  intro k h0 h1 h2;rw[asu,au (by omega) (by omega)];refine P.dec (fun hk=>P.aA (by omega) (P.beq (fun e=>P.sl (by omega) ?_) fun _=>ih _ (by omega) (by omega) (by omega))) fun hk=>hR;have hl:=hI.il i.toNat (by omega) hkd k.toNat (by omega) (by rw[e,htg]);rw[show((k.toNat:Nat):Int)=k by omega] at hl;refine P.bind (aef s k _ (by rw[List.length_take];omega) hl) (P.not (fun e=>by cases e) fun _=>ih _ (by omega) (by omega) (by omega))
include hA hZ in
theorem agw{b:Nat}{y:aT}(hI:Inv s z rp n b y)(hb:b<=390)(sw:List bV):∀(f:Nat) (i:Int),0<=i->y.2.2.2.2.2.2.2.2.length<f+i->i<=y.2.2.2.2.2.2.2.2.length->P (uQ 1000 f y.2.2.2.2.2.2.2.2 y.2.2.2.2.2.2.2.2.length i s.1.1.1 s.1.1.2 s.1.2.1 s.1.2.2 s.2.1 s.2.2.1 s.2.2.2.1 s.2.2.2.2 sw z rp y.1.1.1.1 y.1.1.1.2 y.1.1.2.1 y.1.1.2.2 y.1.2.1 y.1.2.2.1 y.1.2.2.2.1 y.1.2.2.2.2 y.2.1 y.2.2.1.1 y.2.2.1.2 y.2.2.2.1 y.2.2.2.2.1 y.2.2.2.2.2.1 y.2.2.2.2.2.2.1.1 y.2.2.2.2.2.2.1.2.1 y.2.2.2.2.2.2.1.2.2 y.2.2.2.2.2.2.2.1.1 y.2.2.2.2.2.2.2.1.2.1 y.2.2.2.2.2.2.2.1.2.2.1 y.2.2.2.2.2.2.2.1.2.2.2.1 y.2.2.2.2.2.2.2.1.2.2.2.2 y.2.2.2.2.2.2.2.2) sy:=by
 have hip:=hI.ip;intro f;induction f with
 | zero=>intros;omega
 | succ f ih=>
  intro i h0 h1 h2;rw[aji];refine P.dec (fun hk=>P.aA (by omega) ?_) fun hk=>P.bind hA (P.some rfl);have hn:P (uQ 1000 f y.2.2.2.2.2.2.2.2 y.2.2.2.2.2.2.2.2.length (W (i+1)) s.1.1.1 s.1.1.2 s.1.2.1 s.1.2.2 s.2.1 s.2.2.1 s.2.2.2.1 s.2.2.2.2 sw z rp y.1.1.1.1 y.1.1.1.2 y.1.1.2.1 y.1.1.2.2 y.1.2.1 y.1.2.2.1 y.1.2.2.2.1 y.1.2.2.2.2 y.2.1 y.2.2.1.1 y.2.2.1.2 y.2.2.2.1 y.2.2.2.2.1 y.2.2.2.2.2.1 y.2.2.2.2.2.2.1.1 y.2.2.2.2.2.2.1.2.1 y.2.2.2.2.2.2.1.2.2 y.2.2.2.2.2.2.2.1.1 y.2.2.2.2.2.2.2.1.2.1 y.2.2.2.2.2.2.2.1.2.2.1 y.2.2.2.2.2.2.2.1.2.2.2.1 y.2.2.2.2.2.2.2.1.2.2.2.2 y.2.2.2.2.2.2.2.2) sy:=by
   rw[au (by omega) (by omega)];exact ih _ (by omega) (by omega) (by omega)
  dsimp only;exact P.bne (fun _=>hn) fun e=>am9 hA hZ hI hb f i ⟨h0,hk⟩ sw _ _ _ _ e rfl e hn 1000 0 (by omega) (by have:=hZ.zn;omega) (by omega)
include hA hS hZ hzs in
theorem aug(hn:n<=32)(hz1:1<=z.length)(sw:List bV):∀(f:Nat) (k t:Int) (d:aB) (y:aT) (p:qz) (b:Nat),k<f->0<=k->b+4*k<=380->Cd d->Inv s z rp n b y->p.1.length=n->p.2.length=n->P (oV 1000 f t k d.1 d.2 s.1.1.1 s.1.1.2 s.1.2.1 s.1.2.2 s.2.1 s.2.2.1 s.2.2.2.1 s.2.2.2.2 sw z rp y.1.1.1.1 y.1.1.1.2 y.1.1.2.1 y.1.1.2.2 y.1.2.1 y.1.2.2.1 y.1.2.2.2.1 y.1.2.2.2.2 y.2.1 y.2.2.1.1 y.2.2.1.2 y.2.2.2.1 y.2.2.2.2.1 y.2.2.2.2.2.1 y.2.2.2.2.2.2.1.1 y.2.2.2.2.2.2.1.2.1 y.2.2.2.2.2.2.1.2.2 y.2.2.2.2.2.2.2.1.1 y.2.2.2.2.2.2.2.1.2.1 y.2.2.2.2.2.2.2.1.2.2.1 y.2.2.2.2.2.2.2.1.2.2.2.1 y.2.2.2.2.2.2.2.1.2.2.2.2 y.2.2.2.2.2.2.2.2 p.1 p.2) sy:=by
 have hzn:=hZ.zn;intro f;induction f with
 | zero=>intros;omega
 | succ f ih=>
  intro k t d y p b h0 h1 h2 hd hI hp1 hp2;have hip:=hI.ip;rw[ac7];refine P.dec (fun hk=>?_) fun hk=>agw hA hZ hI (by omega) sw 1000 0 (by omega) (by omega) (by omega);rw[au (by omega) (by omega)];refine P.call (dP hd (by omega) (by omega)) fun r1 g1=>P.call (dP g1.2 (by omega) (by omega)) fun r2 g2=>?_;have nx:∀(d:aB),Cd d->∀x,Inv s z rp n (b+4) x->P (Option.bind (jr (.p (.a .bool) (.a .bool)) (p.1,p.2) (om 1000 x (p.1,p.2))) fun r=>oV 1000 f (W (t+r1.1)) (k-1) d.1 d.2 s.1.1.1 s.1.1.2 s.1.2.1 s.1.2.2 s.2.1 s.2.2.1 s.2.2.2.1 s.2.2.2.2 sw z rp r.1.1.1.1.1 r.1.1.1.1.2 r.1.1.1.2.1 r.1.1.1.2.2 r.1.1.2.1 r.1.1.2.2.1 r.1.1.2.2.2.1 r.1.1.2.2.2.2 r.1.2.1 r.1.2.2.1.1 r.1.2.2.1.2 r.1.2.2.2.1 r.1.2.2.2.2.1 r.1.2.2.2.2.2.1 r.1.2.2.2.2.2.2.1.1 r.1.2.2.2.2.2.2.1.2.1 r.1.2.2.2.2.2.2.1.2.2 r.1.2.2.2.2.2.2.2.1.1 r.1.2.2.2.2.2.2.2.1.2.1 r.1.2.2.2.2.2.2.2.1.2.2.1 r.1.2.2.2.2.2.2.2.1.2.2.2.1 r.1.2.2.2.2.2.2.2.1.2.2.2.2 r.1.2.2.2.2.2.2.2.2 r.2.1 r.2.2) sy:=fun d hd x hx=>
   P.call (aws hS hZ hzs (by omega) hn hp1 hp2 hx) fun o ho=>ih _ _ d o.1 o.2 (b+4) (by omega) (by omega) (by omega) hd ho.1 ho.2.1 ho.2.2
  refine P.beq (fun _=>?_) fun _=>P.beq (fun _=>?_) fun _=>P.beq (fun _=>?_) fun _=>P.beq (fun _=>?_) fun _=>P.beq (fun _=>?_) fun _=>?_
  ·refine P.call (dP g2.2 (by omega) (by omega)) fun r3 g3=>P.call (Mr _ _) fun r4 g4=>P.call (K0 hS hZ hzs (by omega) hI g4.1 g4.2 _) fun o ho=>nx r3.2 g3.2 o.1 (ho.mono (by omega))
  ·refine P.call (dP g2.2 (by omega) (by omega)) fun r3 g3=>P.call (Mr _ _) fun r4 g4=>P.call (K0 hS hZ hzs (by omega) hI g4.1 g4.2 _) fun o ho=>nx r3.2 g3.2 o.1 (ho.mono (by omega))
  ·refine P.call (dP g2.2 (by omega) (by omega)) fun r3 g3=>P.call (dP g3.2 (by omega) (by omega)) fun r4 g4=>P.call (Mr _ _) fun r5 g5=>P.call (K0 hS hZ hzs (by omega) hI g5.1 g5.2 _) fun o ho=>nx r4.2 g4.2 o.1 (ho.mono (by omega))
  ·refine P.call (dP g2.2 (by omega) (by omega)) fun r3 g3=>P.call (dP g3.2 (by omega) (by omega)) fun r4 g4=>P.call (awg hS hZ hzs (by omega) hI _ _ _) fun o ho=>nx r4.2 g4.2 o.1 ho
  ·refine P.call (dP g2.2 (by omega) (by omega)) fun r3 g3=>P.call (aai hS hZ hzs (by omega) hI _ _) fun o ho=>nx r3.2 g3.2 o.1 ho
  ·exact P.call (ad9 hS hZ hzs (by omega) hI _) fun o ho=>nx r2.2 g2.2 o.1 ho
include hA hS in
theorem U6{f:cz}(hf:eO z rp 0 f)(hZ:gM f.1.length z rp)(hzs:z.length=s.2.2.2.1.length)(hz1:1<=z.length){d:aB}(hd:Cd d):P (GD 1000 1000 d.1 d.2 s.1.1.1 s.1.1.2 s.1.2.1 s.1.2.2 s.2.1 s.2.2.1 s.2.2.2.1 s.2.2.2.2 f.1 f.2.1 f.2.2) sy:=by
 have hn:=hf.n;rw[abj];refine P.call (aus hS hZ hzs f hf rfl) fun o ho=>P.bne (fun e=>absurd ho.1 e) fun _=>P.mk (by omega) (by omega) (P.mk (by omega) (by omega) (P.call (dP hd (by omega) (by omega)) fun r h=>?_));rw[au (by omega) (by omega),hf.ze,hf.re];exact aug hA hS hZ hzs hn hz1 f.1 1000 _ 0 r.2 o.1 (_,_) 80 (by omega) (by omega) (by omega) h.2 ho.2 (by simp) (by simp)
end
include hA in
theorem aha{l:List Int}(h:∀a,a∈l->(Lit.int .u8 a).wf=true)(hl:l.length<=maxLen):EE 1000 l=some true:=by
 suffices h:P (EE 1000 l) sy by obtain⟨_,e,rfl⟩:=h;exact e
 obtain⟨d,e,hd⟩:=ats 1000 h hl;unfold EE;refine P.bind e (P.call (VI hd) fun r1 h1=>?_);obtain⟨v1,v2,⟨z,rp,v3,v4,v5⟩,v6⟩:=h1;refine P.call (oU v6 (by omega)) fun r2 h2=>P.bool (fun _=>P.call (Yl h2) fun r3 h3=>?_) fun _=>?_
 ·obtain⟨w1,w2,w3,w4⟩:=h3;refine P.call (ai2 w2 _ (by omega)) fun r4 h4=>?_;obtain⟨⟨z,rp,u3,u4,u5⟩,u6⟩:=h4;exact U6 hA w1 u3 u4 u5 (by omega) u6
 ·exact U6 hA v1 v3 v4 (by omega) (by omega) h2
end
end Go.Proofs.YtgmpjkgogjkfcaaGreat
