/- Code with notes out of the resolved code and a list of notes, by places; loops and joins at a place. No condition of its own: definitions over any program. -/
import Derived.Test.YtgmpjkgogjkfcaaGreatF
set_option linter.all false
namespace Go.Pv
open Go.RowKit
def Kv:IV->Option Nat
 | .ptr o 0 0=>some o
 | _=>none
theorem Y8{v:IV}{o:Nat}(h:Kv v=some o):v=.ptr o 0 0:=by
 unfold Kv at h;split at h
 ·injection h with h;rw[h]
 ·cases h
def tu:(p:PT)->List IV->IH->Option (El p.ty×List Nat×List IV)
 | .v t,cs,_=>match lx t cs with
  | some (x,r)=>some (x,[],r)
  | none=>none
 | .a t,cs,H=>match cs with
  | .whole o::r=>match aK H o with
   | some (.arr t' as)=>match kY t' t as with
    | some x=>some (x,[o],r)
    | none=>none
   | _=>none
  | _=>none
 | .p a b,cs,H=>match tu a cs H with
  | some (x,o1,r)=>match tu b r H with
   | some (y,o2,r')=>some ((x,y),o1++o2,r')
   | none=>none
  | none=>none
def lR:(ks:List AK)->List IV->IH->Option (aY (AK.bf ks)×List Nat×List Nat)
 | [],[],_=>some ((),[],[])
 | .b p::r,v::l,H=>match Kv v with
  | some o=>match aK H o,lR r l H with
   | some (.box _ cs),some (y,os,as)=>match tu p cs H with
    | some (x,a,[])=>some (gj p.ty (AK.bf r) x y,o::(a++os),a++as)
    | _=>none
   | _,_=>none
  | none=>none
 | .v t::r,v::l,H=>match xz t v,lR r l H with
  | some x,some (y,os,as)=>some (gj t (AK.bf r) x y,os,as)
  | _,_=>none
 | .x q::r,v::l,H=>match v,lR r l H with
  | .agg cs,some (y,os,as)=>match Ce q cs with
   | some (x,[])=>some (gj q.ty (AK.bf r) x y,os,as)
   | _=>none
  | _,_=>none
 | [],_::_,_=>none
 | _::_,[],_=>none
def nO:List (Option (Nat×Nat))->List IV->Option (List IV)
 | [],[]=>some []
 | none::r,v::l=>match nO r l with
  | some vs=>some (v::vs)
  | none=>none
 | some (f,n)::r,.fn g cs::l=>match Nat.beq f g,Nat.beq cs.length n,nO r l with
  | true,true,some vs=>some (cs++vs)
  | _,_,_=>none
 | _,_=>none
def tx(o:Nat)(cs:List IV)(H:IH):IH:=match aK H o with
 | some (.box g _)=>fp H o (some (.box g cs))
 | _=>H
def sZ:(ps:List PT)->aY (cM ps)->List Nat->IH->Nat->IH
 | [],_,_,H,_=>H
 | _::_,_,[],H,_=>H
 | p::r,x,o::os,H,i=>sZ r (tl p.ty (cM r) x) (os.drop p.n) (tx o (oI p (hd p.ty (cM r) x) i) H) (i+p.n)
def ng:List Nat->IH->IH
 | [],H=>H
 | a::r,H=>ng r (fp H a none)
def tD:(ps:List PT)->aY (cM ps)->IH
 | [],_=>[]
 | p::r,x=>oH p (hd p.ty (cM r) x)++tD r (tl p.ty (cM r) x)
def nV(i:Nat):Nat->List Nat
 | 0=>[]
 | n+1=>i::nV (i+1) n
def ya(pk:List (Option (Nat×Nat)))(ks:List AK)(rk:List RK)(model:aY (AK.bf ks)->Option (aY (RK.bf rk)×aY (cM (outs ks)))):eC:=fun args H k=>match nO pk args with
 | some vs=>match lR ks vs H with
  | some (x,os,as)=>eE (nQ os) (Option.bind (model x) fun yz=>k (B4 (zv rk yz.1 (H.length+cg (outs ks)))) (sZ (outs ks) yz.2 os (ng as (qR as H)) H.length++(tD (outs ks) yz.2++mj rk yz.1)) os (os++nV H.length (cg (outs ks)+dA rk)) as) none
  | none=>none
 | none=>none
structure Keyed (l:bT) (n:Nat) (key:Nat->Nat) (c:Nat->Ck):Prop where
 len:l.length=n
 nth:∀k (h:k<l.length),l[k]=(key k,c k)
 inj:∀i j,i<n->j<n->key i=key j->i=j
theorem LD{H:Hp}{o:Nat}:∀{l:bT},o∈l.map (·.1)->∃ck,(o,ck)∈l/\∀H:Hp,bK H l o=some ck:=by
 intro l h;rcases tS l o with⟨ck,h1,h2⟩ | h1
 ·exact⟨ck,h1,h2⟩
 ·exfalso;have key:∀(l:bT) (H:Hp),o∈l.map (·.1)->∃ck,bK H l o=some ck:=by
   intro l;induction l with
   | nil=>intro H h;simp at h
   | cons x l ih=>
    intro H h;rw[hP];by_cases hl:o∈l.map (·.1)
    ·exact ih _ hl
    ·have:o=x.1:=by simpa[hl] using h
     rw[kb hl,this,Hp.b9];exact⟨_,rfl⟩
  obtain⟨ck,hk⟩:=key l Hp.emp h;rw[h1 Hp.emp] at hk;cases hk
theorem Keyed.get{l:bT}{n:Nat}{key:Nat->Nat}{c:Nat->Ck}(h:Keyed l n key c){k:Nat}(hk:k<n)(H:Hp):bK H l (key k)=some (c k):=by
 have hk':k<l.length:=by rw[h.len];exact hk
 have hm:key k∈l.map (·.1):=List.mem_map.2 ⟨_,List.getElem_mem hk',by rw[h.nth k hk']⟩;obtain⟨ck,h1,h2⟩:=LD (H:=H) hm;obtain⟨j,hj,e⟩:=List.mem_iff_getElem.1 h1;rw[h.nth j hj] at e;injection e with e1 e2
 have:=h.inj j k (by rw[<-h.len];exact hj) hk e1;subst this;rw[h2,e2]
theorem Keyed.mem{l:bT}{n:Nat}{key:Nat->Nat}{c:Nat->Ck}(h:Keyed l n key c){o:Nat}{ck:Ck}(ho:ah l o=some ck):∃k,k<n/\o=key k/\ck=c k:=by
 obtain⟨k,hk,e⟩:=List.mem_iff_getElem.1 (mS ho);rw[h.nth k hk] at e;injection e with e1 e2
 exact⟨k,by rw[<-h.len];exact hk,e1.symm,e2.symm⟩
theorem Keyed.out{l:bT}{n:Nat}{key:Nat->Nat}{c:Nat->Ck}(h:Keyed l n key c){o:Nat}(ho:∀k,k<n->o≠key k)(H:Hp):bK H l o=H o:=by
 refine kb fun hm=>?_;obtain⟨x,hx,e⟩:=List.mem_map.1 hm;obtain⟨k,hk,rfl⟩:=List.mem_iff_getElem.1 hx;rw[h.nth k hk] at e;exact ho k (by rw[<-h.len];exact hk) e.symm
theorem LE.keyed{ρ γ:Nat->Nat}{q:Nat}{l' l:bT}(h:LE ρ γ q l' l 0){n:Nat}(hl:l.length=n)(inj:∀i j,i<n->j<n->ρ i=ρ j->i=j):Keyed l' n ρ (eR l'):=
 ⟨by rw[h.len,hl],fun k hk=>by
  have:=(h.nth k (by rw[<-h.len];exact hk) hk).2.1;rw[Nat.zero_add] at this;simp only[eR,List.getD_eq_getElem?_getD,List.getElem?_eq_getElem hk,Option.getD_some];exact Prod.ext this rfl,inj⟩
theorem OE{H:Hp}{nx:Nat}:∀(pk:List (Option (Nat×Nat))) (vs fs:List IV) (ds:List DV),nO pk vs=some fs->bR H nx vs ds->∃es,bR H nx fs es/\ds=mg pk es
 | [],vs,fs,ds,h,hr=>by
  cases vs with
  | nil=>simp only[nO,Option.some.injEq] at h;subst h;rw[hr.dY];exact⟨[],.nil,rfl⟩
  | cons v l=>simp[nO] at h
 | none::r,vs,fs,ds,h,hr=>by
  cases vs with
  | nil=>simp[nO] at h
  | cons v l=>
   obtain⟨d,ds,rfl,h1,h2⟩:=hr.dD;simp only[nO] at h;split at h
   ·rename_i ws hw;cases h;obtain⟨es,k1,rfl⟩:=OE r l ws ds hw h2;exact⟨d::es,k1.cons h1,rfl⟩
   ·cases h
 | some (f,n)::r,vs,fs,ds,h,hr=>by
  cases vs with
  | nil=>simp[nO] at h
  | cons v l=>
   obtain⟨d,ds,rfl,h1,h2⟩:=hr.dD;cases v with
   | fn g cs=>
    simp only[nO] at h;split at h
    ·rename_i ws hb hb2 hw;cases h;have:=Nat.eq_of_beq_eq_true hb;subst this;have hl:=Nat.eq_of_beq_eq_true hb2;obtain⟨dc,rfl,hc⟩:=h1.jQ;obtain⟨es,k1,rfl⟩:=OE r l ws ds hw h2;refine⟨dc++es,hc.append k1,?_⟩;have e:n=dc.length:=by rw[<-hl,hc.1]
     simp only[mg,e,List.take_left',List.drop_left']
    ·cases h
   | _=>simp[nO] at h
section read
variable {H:Hp} {nx:Nat} {HI:IH} {ρ γ:Nat->Nat} {q:Nat}
theorem G7(hH:jw HI H nx):∀(p:PT) (cs:List IV) (x:El p.ty) (a:List Nat) (r:List IV) (ds:List DV) (i:Nat),tu p cs HI=some (x,a,r)->bR H nx cs ds->
  (∀(k o:Nat),a[k]? =some o->ρ (i+k)=o/\γ (i+k)=((H o).map (·.gen)).getD 0)->
  a.length=p.n/\(∃d1 d2,ds=d1++d2/\aX eQ d1 (jN ρ γ p x i)/\bR H nx r d2)/\∀(k:Nat) c,(iK id g0 p x i)[k]? =some c->∃(o:Nat) (ck:Ck),a[k]? =some o/\H o=some ck/\o<nx/\yq ρ γ q ck.gen ck c.2
 | .v t,cs,x,a,r,ds,i,h,hr,hρ=>by
  simp only[tu] at h;split at h
  ·rename_i y r' hy;simp only[Option.some.injEq,Prod.mk.injEq] at h;obtain⟨rfl,rfl,rfl⟩:=h;obtain⟨d1,d2,e,h1,h2⟩:=vb t cs x r ds hy hr;exact⟨rfl,⟨d1,d2,e,kC t x d1 h1,h2⟩,fun k c hk=>by simp[iK] at hk⟩
  ·cases h
 | .a t,cs,x,a,r,ds,i,h,hr,hρ=>by
  simp only[tu] at h;split at h
  ·rename_i o r';split at h
   ·rename_i t' as hc;split at h
    ·rename_i y hy;simp only[Option.some.injEq,Prod.mk.injEq] at h;obtain⟨rfl,rfl,rfl⟩:=h;obtain⟨rfl,rfl⟩:=nW hy;obtain⟨y,hyx⟩:∃y:List (El t'),y=x:=⟨x,rfl⟩;subst hyx;obtain⟨d,ds,rfl,q1,q2⟩:=hr.dD;obtain⟨g,n,rfl,ho,hg⟩:=q1.nk;obtain⟨_,ck,k1,k2⟩:=hH o _ hc;obtain⟨z1,z2⟩:=k2;obtain⟨g1,g2⟩:=hg ck k1;obtain⟨r1,r2⟩:=hρ 0 o rfl;rw[Nat.add_zero] at r1 r2;rw[k1] at r2;have r2':γ i=ck.gen:=r2;refine⟨rfl,⟨[.own o g 0 n],ds,rfl,?_,q2⟩,fun k c hk=>?_⟩
     ·show aX eQ _ [DV.own (ρ i) (γ i) 0 (List.length y)];rw[r1,r2',g1,z2.1,g2];exact .one (.refl _)
     ·cases k with
      | zero=>
       simp only[iK,List.getElem?_cons_zero,Option.some.injEq] at hk;subst hk;refine⟨o,ck,rfl,k1,ho,⟨by show ck.gen=0+ck.gen;omega,z1.symm,?_,fun j h1 h2=>?_⟩⟩
       ·show(List.map (aN t') y).length=_;rw[List.length_map];exact z2.1
       ·have hj:j<y.length:=by rw[z2.1];exact h2
        have hw:=kC t' y[j] ck.xs[j] (z2.2 j hj h2);have e:(List.map (aN t') y)[j]'(by rw[List.length_map];exact hj)=aN t' y[j]:=List.getElem_map ..;refine⟨by rw[e];exact hw.1.symm,fun m h3 h4=>?_⟩;have h3':m<(aN t' y[j]).length:=by rw[<-hw.1];exact h4
        refine⟨(aN t' y[j])[m],hw.2 m h4 h3',?_⟩;simp only[e];exact .flat _ (cA.ids t' _ _ (ig t' _) _ (List.getElem_mem h3'))
      | succ k=>simp[iK] at hk
    ·cases h
   ·cases h
  ·cases h
 | .p a b,cs,x,as,r,ds,i,h,hr,hρ=>by
  simp only[tu] at h;split at h
  ·rename_i x1 o1 r1 h1;split at h
   ·rename_i y1 o2 r2 h2;simp only[Option.some.injEq,Prod.mk.injEq] at h;obtain⟨rfl,rfl,rfl⟩:=h;obtain⟨l1,⟨d1,d2,rfl,q1,q2⟩,q3⟩:=G7 hH a cs x1 o1 r1 ds i h1 hr fun k o hk=>hρ k o (by rw[List.getElem?_append_left (List.getElem?_eq_some_iff.1 hk).1];exact hk);obtain⟨l2,⟨d3,d4,rfl,q4,q5⟩,q6⟩:=G7 hH b r1 y1 o2 r d2 (i+a.n) h2 q2 fun k o hk=>by
     have:=hρ (a.n+k) o (by rw[List.getElem?_append_right (by rw[l1];omega),l1,Nat.add_sub_cancel_left];exact hk);rw[<-Nat.add_assoc] at this;exact this
    refine⟨by simp[l1,l2,PT.n],⟨d1++d3,d4,by rw[List.append_assoc],q1.append q4,q5⟩,fun k c hk=>?_⟩;simp only[iK] at hk;rw[List.getElem?_append] at hk;split at hk
    ·rename_i hlt;rw[iT] at hlt;obtain⟨o,ck,u1,u2⟩:=q3 k c hk;exact⟨o,ck,by rw[List.getElem?_append_left (by rw[l1];exact hlt)];exact u1,u2⟩
    ·rename_i hge;rw[iT] at hge hk;obtain⟨o,ck,u1,u2⟩:=q6 _ c hk;exact⟨o,ck,by rw[List.getElem?_append_right (by rw[l1];omega),l1];exact u1,u2⟩
   ·cases h
  ·cases h
theorem zW(hH:jw HI H nx):∀(ks:List AK) (vs:List IV) (x:aY (AK.bf ks)) (os as:List Nat) (ds:List DV) (j:Nat),lR ks vs HI=some (x,os,as)->bR H nx vs ds->j+bc (outs ks)<=q->
  (∀(k o:Nat),os[k]? =some o->ρ (j+k)=o/\γ (j+k)=((H o).map (·.gen)).getD 0)->
  os.length=bc (outs ks)/\aX eQ ds (mq ρ γ ks x j)/\(∀(k:Nat) c,(eD id g0 (outs ks) (eL ks x) j)[k]? =some c->∃(o:Nat) (ck:Ck),os[k]? =some o/\H o=some ck/\o<nx/\yq ρ γ q ck.gen ck c.2/\(ey (outs ks) j (j+k)=false->∃cs,aK HI o=some (.box ck.gen cs)))/\
  (∀(k o:Nat),os[k]? =some o->ey (outs ks) j (j+k)=true->o∈as)/\∀a,a∈as->∃k,os[k]? =some a/\ey (outs ks) j (j+k)=true
 | [],vs,x,os,as,ds,j,h,hr,hq,hρ=>by
  cases vs with
  | nil=>
   simp only[lR,Option.some.injEq,Prod.mk.injEq] at h;obtain⟨_,rfl,rfl⟩:=h;rw[hr.dY];exact⟨rfl,.nil,fun k c hk=>by simp[outs,eD] at hk,fun k o hk=>by simp at hk,fun a ha=>by cases ha⟩
  | cons v l=>simp[lR] at h
 | .b p::r,vs,x,os,as,ds,j,h,hr,hq,hρ=>by
  cases vs with
  | nil=>simp[lR] at h
  | cons v l=>
   obtain⟨d,ds,rfl,h1,h2⟩:=hr.dD;simp only[lR] at h;split at h
   ·rename_i o ho;split at h
    ·rename_i g cs y os' as' hc hy;split at h
     ·rename_i e a he;simp only[Option.some.injEq,Prod.mk.injEq] at h;obtain⟨rfl,rfl,rfl⟩:=h;have:=Y8 ho;subst this;simp only[outs,bc] at hq;obtain⟨g',rfl,_,hg⟩:=h1.pF;obtain⟨hlt,ck,k1,k2⟩:=hH o _ hc;obtain⟨rfl,_⟩:=hg ck k1;obtain⟨a1,dd,a2,a3,a4⟩:=k2;obtain⟨l1,⟨d1,d2,hdd,w1,w2⟩,w3⟩:=G7 (ρ:=ρ) (γ:=γ) (q:=q) hH p cs e a [] dd (j+1) he a3 fun k o' hk=>by
       have:=hρ (k+1) o' (by rw[List.getElem?_cons_succ,List.getElem?_append_left (List.getElem?_eq_some_iff.1 hk).1];exact hk);rw[show j+1+k=j+(k+1) by omega];exact this
      have:=w2.dY;subst this;rw[List.append_nil] at hdd;subst hdd;obtain⟨q1,q2,q3,q4,q5⟩:=zW hH r l y os' as' ds (j+(1+p.n)) hy h2 (by omega) fun k o' ho'=>by
       have:=hρ (1+p.n+k) o' (by rw[show 1+p.n+k=(p.n+k)+1 by omega,List.getElem?_cons_succ,List.getElem?_append_right (by rw[l1];omega),l1,Nat.add_sub_cancel_left];exact ho');rw[<-Nat.add_assoc] at this;exact this
      have r0:=hρ 0 o rfl;rw[Nat.add_zero] at r0;have eh:hd p.ty (AK.bf r) (gj p.ty (AK.bf r) e y)=e:=qH p.ty _ e y;have et:tl p.ty (AK.bf r) (gj p.ty (AK.bf r) e y)=y:=oe p.ty _ e y;have inA:∀k,k<p.n->ey (outs (.b p::r)) j (j+(k+1))=true:=fun k hk=>by
       have h6:Nat.ble (j+1) (j+(k+1))=true:=Nat.ble_eq_true_of_le (by omega);have h7:Nat.ble (j+(k+1)+1) (j+(1+p.n))=true:=Nat.ble_eq_true_of_le (by omega);simp only[outs,ey,h6,h7,Bool.and_self,Bool.true_or]
      have beyond:∀k,p.n<=k->ey (outs (.b p::r)) j (j+(k+1))=ey (outs r) (j+(1+p.n)) (j+(1+p.n)+(k-p.n)):=fun k hk=>by
       have h7:Nat.ble (j+(k+1)+1) (j+(1+p.n))=false:=by
        cases hb:Nat.ble (j+(k+1)+1) (j+(1+p.n)) with
        | false=>rfl
        | true=>have:=Nat.le_of_ble_eq_true hb;omega
       simp only[outs,ey,h7,Bool.and_false,Bool.false_or];rw[show j+(1+p.n)+(k-p.n)=j+(k+1) by omega]
      refine⟨by simp only[outs,bc,List.length_cons,List.length_append,l1,q1];omega,?_,fun k c hk=>?_,fun k o' hk hd=>?_,fun b hb=>?_⟩
      ·simp only[mq,et];rw[r0.1,r0.2,k1];exact q2.cons (.refl _)
      ·simp only[outs,eL,eD,eh,et,qH,oe] at hk;cases k with
       | zero=>
        simp only[List.getElem?_cons_zero,Option.some.injEq] at hk;subst hk;refine⟨o,ck,rfl,k1,hlt,⟨by show ck.gen=0+ck.gen;omega,?_,by rw[a2];rfl,fun i h5 h6=>?_⟩,fun _=>⟨cs,by rw[a4];exact hc⟩⟩
        ·show p.ty.sz=ck.sz;rw[a1,a3.1,w1.1,I4]
        ·have:i=0:=by simpa using h5
         subst this;have hrn:=AO (ρ:=ρ) (γ:=γ) (q:=q) p e (j+1) (by omega);have eid:jN id g0 p e (j+1)=oD g0 p e (j+1):=BG p e (j+1);simp only[a2,List.getElem_cons_zero,eid];refine⟨by rw[w1.1,I4,tR],fun m h7 h8=>?_⟩;have h9:m<(jN ρ γ p e (j+1)).length:=by rw[<-w1.1];exact h8
         exact⟨_,w1.2 m h8 h9,hrn.2 m h9 h7⟩
       | succ k=>
        simp only[List.getElem?_cons_succ] at hk;rw[List.getElem?_append] at hk;split at hk
        ·rename_i hlt2;rw[iT] at hlt2;obtain⟨o',ck',u1,u2,u3,u4⟩:=w3 k c hk;refine⟨o',ck',by rw[List.getElem?_cons_succ,List.getElem?_append_left (by rw[l1];exact hlt2)];exact u1,u2,u3,u4,fun hd=>?_⟩;rw[inA k hlt2] at hd;cases hd
        ·rename_i hge;rw[iT] at hge hk;obtain⟨o',ck',u1,u2,u3,u4,u5⟩:=q3 _ c hk;refine⟨o',ck',by rw[List.getElem?_cons_succ,List.getElem?_append_right (by rw[l1];omega),l1];exact u1,u2,u3,u4,fun hd=>u5 ?_⟩;rw[<-beyond k (by omega)];exact hd
      ·cases k with
       | zero=>
        have:=z4 _ _ _ hd;omega
       | succ k=>
        simp only[List.getElem?_cons_succ] at hk;rw[List.getElem?_append] at hk;split at hk
        ·exact List.mem_append_left _ (List.mem_of_getElem? hk)
        ·rename_i hge;rw[l1] at hge hk;exact List.mem_append_right _ (q4 _ _ hk (by rw[<-beyond k (by omega)];exact hd))
      ·rcases List.mem_append.1 hb with hb | hb
       ·obtain⟨k,hk,rfl⟩:=List.mem_iff_getElem.1 hb;exact⟨k+1,by rw[List.getElem?_cons_succ,List.getElem?_append_left hk,List.getElem?_eq_getElem hk],inA k (by rw[<-l1];exact hk)⟩
       ·obtain⟨k,k3,k4⟩:=q5 b hb;refine⟨p.n+k+1,by rw[List.getElem?_cons_succ,List.getElem?_append_right (by rw[l1];omega),l1,Nat.add_sub_cancel_left];exact k3,?_⟩;rw[beyond (p.n+k) (by omega),Nat.add_sub_cancel_left];exact k4
     ·cases h
    ·cases h
   ·cases h
 | .v t::r,vs,x,os,as,ds,j,h,hr,hq,hρ=>by
  cases vs with
  | nil=>simp[lR] at h
  | cons v l=>
   obtain⟨d,ds,rfl,h1,h2⟩:=hr.dD;simp only[lR] at h;split at h
   ·rename_i e y os' as' he hy;simp only[Option.some.injEq,Prod.mk.injEq] at h;obtain⟨rfl,rfl,rfl⟩:=h;obtain⟨q1,q2,q3,q4⟩:=zW hH r l y _ _ ds j hy h2 hq hρ;refine⟨q1,?_,fun k c hk=>q3 k c ?_,q4⟩
    ·simp only[mq];rw[show tl t (AK.bf r) (gj t (AK.bf r) e y)=y from oe t _ e y,show hd t (AK.bf r) (gj t (AK.bf r) e y)=e from qH t _ e y];exact q2.cons (I6 he h1)
    ·simp only[outs,eL] at hk;rw[show tl t (AK.bf r) (gj t (AK.bf r) e y)=y from oe t _ e y] at hk;exact hk
   ·cases h
 | .x q::r,vs,x,os,as,ds,j,h,hr,hq,hρ=>by
  cases vs with
  | nil=>simp[lR] at h
  | cons v l=>
   obtain⟨d,ds,rfl,h1,h2⟩:=hr.dD;simp only[lR] at h;split at h
   ·rename_i cs y os' as' hy;split at h
    ·rename_i e he;obtain⟨es,rfl,k1⟩:=h1.fj;obtain⟨d1,d2,rfl,k2,k3⟩:=L1 q cs e [] es he k1;rw[k3.dY,List.append_nil];simp only[Option.some.injEq,Prod.mk.injEq] at h;obtain⟨rfl,rfl,rfl⟩:=h;obtain⟨q1,q2,q3,q4⟩:=zW hH r l y _ _ ds j hy h2 hq hρ;refine⟨q1,?_,fun k c hk=>q3 k c ?_,q4⟩
     ·simp only[mq];rw[show tl q.ty (AK.bf r) (gj q.ty (AK.bf r) e y)=y from oe q.ty _ e y,show hd q.ty (AK.bf r) (gj q.ty (AK.bf r) e y)=e from qH q.ty _ e y];exact q2.cons (VR.Gk k2)
     ·simp only[outs,eL] at hk;rw[show tl q.ty (AK.bf r) (gj q.ty (AK.bf r) e y)=y from oe q.ty _ e y] at hk;exact hk
    ·cases h
   ·cases h
end read
theorem Fi{ρ γ:Nat->Nat}{q:Nat}:∀(ks:List AK) (x:aY (AK.bf ks)) (j:Nat),j+bc (outs ks)<=q->aX (Rn ρ γ q) (mq ρ γ ks x j) (mq id g0 ks x j)
 | [],_,_,_=>.nil
 | .b p::r,x,j,h=>by
  simp only[outs,bc] at h;refine(Fi r _ (j+(1+p.n)) (by omega)).cons ?_;have:=Rn.ptr (r:=ρ) (γ:=γ) (q:=q) j 0 0 0 (by omega);rw[Nat.zero_add] at this;exact this
 | .v t::r,x,j,h=>(Fi r _ j h).cons (.flat _ (xY t _))
 | .x q::r,x,j,h=>(Fi r _ j h).cons (.flat _ (.agg _ (LK q _)))
theorem ae3{ρ γ:Nat->Nat}{q:Nat}(p:PT)(x:El p.ty)(i i':Nat)(h:∀k,k<p.n->i+k<q/\ρ (i+k)=i'+k/\γ (i+k)=0):Rn ρ γ q (ob g0 p x i') (ob g0 p x i):=by
 have w:=DP (ρ:=ρ) (γ:=γ) (gs:=g0) (gs':=g0) p x i i' fun k hk=>⟨(h k hk).1,(h k hk).2.1,(h k hk).2.2,rfl⟩;unfold ob;cases ha:ia p.ty with
 | true=>exact .agg _ _ w.1 w.2
 | false=>
  obtain⟨_,⟨d,he⟩⟩:=uY ha x g0 i';obtain⟨_,⟨d',he'⟩⟩:=uY ha x g0 i;rw[he,he'] at w;rw[he,he'];exact w.2 0 (by simp) (by simp)
theorem I3{ρ γ:Nat->Nat}{q:Nat}:∀(rk:List RK) (y:aY (RK.bf rk)) (i i':Nat),(∀k,k<dA rk->i+k<q/\ρ (i+k)=i'+k/\γ (i+k)=0)->aX (Rn ρ γ q) (j6 g0 rk y i') (j6 g0 rk y i)
 | [],_,_,_,_=>.nil
 | .v t::r,y,i,i',h=>(I3 r _ i i' h).cons (.flat _ (xY t _))
 | .n t::r,y,i,i',h=>by
  have h0:=h 0 (by simp[dA]);simp only[Nat.add_zero] at h0;refine(I3 r _ (i+1) (i'+1) fun k hk=>?_).cons ?_
  ·have:=h (k+1) (by simp only[dA];omega);rw[show i+1+k=i+(k+1) by omega];exact⟨this.1,by rw[this.2.1];omega,this.2.2⟩
  ·have:=Rn.ptr (r:=ρ) (γ:=γ) (q:=q) i 0 0 0 h0.1;rw[h0.2.1,h0.2.2] at this;exact this
 | .o p::r,y,i,i',h=>by
  refine(I3 r _ (i+p.n) (i'+p.n) fun k hk=>?_).cons (ae3 p _ i i' fun k hk=>h k (by simp only[dA];omega));have:=h (p.n+k) (by simp only[dA];omega);rw[Nat.add_assoc,Nat.add_assoc];exact this
theorem avs{ρ γ:Nat->Nat}{q:Nat}{ds es:List DV}(h:aX (Rn ρ γ q) ds es):Rn ρ γ q (ft ds) (ft es):=by
 cases ds with
 | nil=>rw[h.dY];exact .bh _ _ rfl (fun j h=>by cases h)
 | cons d ds=>
  obtain⟨e1,es',rfl,q1,q2⟩:=h.dD;cases ds with
  | nil=>rw[q2.dY];exact q1
  | cons d2 ds=>
   obtain⟨e2,es2,rfl,q3,q4⟩:=q2.dD;exact .bh _ _ h.1 h.2
theorem apa{H:Hp}{nx:Nat}(p:PT)(x:El p.ty)(i:Nat)(h:∀(k:Nat) c,(oC g0 p x i)[k]? =some c->i+k<nx/\H (i+k)=some c.2):Rel H nx (Ly p x i) (ob g0 p x i):=by
 have w:=xx p x i h;unfold Ly ob;cases ha:ia p.ty with
 | true=>exact .agg _ _ w.1 w.2
 | false=>
  obtain⟨⟨c,hc⟩,⟨d,he⟩⟩:=uY ha x g0 i;rw[hc,he] at w;rw[hc,he];exact w.2 0 (by simp) (by simp)
theorem Hh{H:Hp}{nx:Nat}:∀(rk:List RK) (y:aY (RK.bf rk)) (i:Nat),(∀(k:Nat) c,(dK g0 rk y i)[k]? =some c->i+k<nx/\H (i+k)=some c.2)->bR H nx (zv rk y i) (j6 g0 rk y i)
 | [],_,_,_=>.nil
 | .v t::r,y,i,h=>(Hh r _ i h).cons (HD t _)
 | .n t::r,y,i,h=>by
  have h0:=h 0 _ rfl;rw[Nat.add_zero] at h0;refine(Hh r _ (i+1) fun k c hk=>?_).cons (.ptr _ _ _ _ h0.1 fun ck hk=>?_)
  ·have:=h (k+1) c (by simp only[dK,List.getElem?_cons_succ];exact hk);rw[show i+1+k=i+(k+1) by omega];exact this
  ·rw[h0.2] at hk;injection hk with hk;subst hk
   exact⟨rfl,by simp⟩
 | .o p::r,y,i,h=>by
  refine(Hh r _ (i+p.n) fun k c hk=>?_).cons (apa p _ i fun k c hk=>h k c ?_)
  ·have:=h (p.n+k) c (by
    simp only[dK];rw[List.getElem?_append_right (by rw[cL];omega),cL,show p.n+k-p.n=k by omega];exact hk)
   rw[Nat.add_assoc];exact this
  ·simp only[dK];rw[List.getElem?_append_left];exact hk;exact(List.getElem?_eq_some_iff.1 hk).1
theorem DY{H:Hp}{nx:Nat}:∀(rk:List RK) (y:aY (RK.bf rk)) (i o:Nat) (c:cS),aK (mj rk y) o=some c->∃cp,(dK g0 rk y i)[o]? =some (i+o,cp)/\dh H nx c cp
 | [],_,_,o,c,h=>by simp[mj,aK] at h
 | .v t::r,y,i,o,c,h=>DY r _ i o c h
 | .n t::r,y,i,0,c,h=>by
  simp only[mj,aK,Option.some.injEq] at h;subst h;exact⟨_,rfl,dh.iR (by rw[<-(ig t _).len];exact(sH (H:=H) (nx:=nx) t _ _ (ig t _)).1.symm) (sH t _ _ (ig t _))⟩
 | .n t::r,y,i,o+1,c,h=>by
  simp only[mj,aK] at h;obtain⟨cp,h1,h2⟩:=DY r _ (i+1) o c h;simp only[dK,List.getElem?_cons_succ];exact⟨cp,by rw[h1];congr 2;omega,h2⟩
 | .o p::r,y,i,o,c,h=>by
  simp only[mj] at h;rw[ot,pJ] at h;simp only[dK];split at h
  ·rename_i hlt;obtain⟨cp,h1,h2⟩:=xR p _ i o c h;exact⟨cp,by rw[List.getElem?_append_left (by rw[cL];exact hlt)];exact h1,h2⟩
  ·rename_i hge;obtain⟨cp,h1,h2⟩:=DY r _ (i+p.n) (o-p.n) c h;refine⟨cp,?_,h2⟩;rw[List.getElem?_append_right (by rw[cL];omega),cL,h1];congr 2;omega
theorem DQ:∀(rk:List RK) (y:aY (RK.bf rk)),(mj rk y).length=dA rk
 | [],_=>rfl
 | .v t::r,y=>DQ r _
 | .n t::r,y=>by simp[mj,dA,DQ r]
 | .o p::r,y=>by simp only[mj,dA,List.length_append,pJ,DQ r];omega
theorem ajd(o:Nat)(cs:List IV)(H:IH):(tx o cs H).length=H.length:=by
 unfold tx;split
 ·exact kS _ _ _
 ·rfl
theorem T9{o:Nat}{cs:List IV}{H:IH}{g:Nat}{cs0:List IV}(h:aK H o=some (.box g cs0))(o':Nat):aK (tx o cs H) o'=if o'=o then some (.box g cs) else aK H o':=by
 have hlt:=sV _ _ _ h;unfold tx;rw[h];simp only;rw[lW];by_cases e:o'=o
 ·rw[if_pos ⟨e,hlt⟩,if_pos e]
 ·rw[if_neg fun h=>e h.1,if_neg e]
theorem X2:∀(ps:List PT) (x:aY (cM ps)) (os:List Nat) (H:IH) (i:Nat),(sZ ps x os H i).length=H.length
 | [],_,_,_,_=>rfl
 | _::_,_,[],_,_=>rfl
 | p::r,x,o::os,H,i=>by simp only[sZ];rw[X2 r,ajd]
theorem Ng:∀(ps:List PT) (x:aY (cM ps)),(tD ps x).length=cg ps
 | [],_=>rfl
 | p::r,x=>by simp only[tD,List.length_append,pJ,Ng r,cg]
theorem Xd{H:Hp}{nx:Nat}:∀(ps:List PT) (z:aY (cM ps)) (i o:Nat) (c:cS),aK (tD ps z) o=some c->∃cp,(fc g0 ps z i)[o]? =some (i+o,cp)/\dh H nx c cp
 | [],_,_,o,c,h=>by simp[tD,aK] at h
 | p::r,z,i,o,c,h=>by
  simp only[tD] at h;rw[ot,pJ] at h;simp only[fc];split at h
  ·rename_i hlt;obtain⟨cp,h1,h2⟩:=xR p _ i o c h;exact⟨cp,by rw[List.getElem?_append_left (by rw[cL];exact hlt)];exact h1,h2⟩
  ·rename_i hge;obtain⟨cp,h1,h2⟩:=Xd r _ (i+p.n) (o-p.n) c h;refine⟨cp,?_,h2⟩;rw[List.getElem?_append_right (by rw[cL];omega),cL,h1];congr 2;omega
theorem N3:∀(as:List Nat) (H:IH),(ng as H).length=H.length
 | [],H=>rfl
 | a::r,H=>by simp only[ng];rw[N3 r,kS]
theorem vX:∀(as:List Nat) (H:IH) (o:Nat),(o∈as->aK (ng as H) o=none)/\(o∉as->aK (ng as H) o=aK H o)
 | [],H,o=>⟨fun h=>(by cases h),fun _=>rfl⟩
 | a::r,H,o=>by
  have ih:=vX r (fp H a none) o;simp only[ng];have one:aK (fp H a none) a=none:=by
   rw[lW];split
   ·rfl
   ·rename_i hne;cases hg:aK H a with
    | none=>rfl
    | some c=>exact absurd ⟨rfl,sV _ _ _ hg⟩ hne
  refine⟨fun h=>?_,fun h=>?_⟩
  ·by_cases hr:o∈r
   ·exact ih.1 hr
   ·have:o=a:=by simpa[hr] using h
    subst this;rw[ih.2 hr,one]
  ·simp only[List.mem_cons,not_or] at h;rw[ih.2 h.2,lW,if_neg fun e=>h.1 e.1]
theorem VD:∀(kl:List Nat) (H:IH) (o g:Nat) (cs:List IV),aK H o=some (.box g cs)->∃cs',aK (qR kl H) o=some (.box g cs')
 | [],H,o,g,cs,h=>⟨cs,h⟩
 | a::r,H,o,g,cs,h=>VD r (ka a H) o g (cs.map (gL a)) (by rw[xq,h];rfl)
theorem Wb{H:Hp}{nx:Nat}(ρ γ:Nat->Nat):∀(ps:List PT) (z:aY (cM ps)) (os:List Nat) (j i:Nat) (HI:IH),os.length=bc ps->(∀(a b o:Nat),os[a]? =some o->os[b]? =some o->a=b)->
  (∀(k o:Nat),os[k]? =some o->ey ps j (j+k)=false->ρ (j+k)=o/\∃cs,aK HI o=some (.box (γ (j+k)) cs))->(∀(k:Nat) c,(fc g0 ps z i)[k]? =some c->i+k<nx/\H (i+k)=some c.2)->∀(o:Nat) (c:cS),aK (sZ ps z os HI i) o=some c->
   (∃(k:Nat) (cp:Ck),os[k]? =some o/\(eJ ρ γ ps z j i)[k]? =some (o,cp)/\dh H nx c cp)\/((∀k:Nat,os[k]? =some o->ey ps j (j+k)=true)/\aK HI o=some c)
 | [],z,os,j,i,HI,hl,hnd,hb,hH,o,c,h=>by
  have:os=[]:=List.eq_nil_of_length_eq_zero hl;subst this;exact .inr ⟨fun k hk=>by simp at hk,h⟩
 | p::r,z,[],j,i,HI,hl,hnd,hb,hH,o,c,h=>by simp only[bc,List.length_nil] at hl;omega
 | p::r,z,o1::os,j,i,HI,hl,hnd,hb,hH,o,c,h=>by
  simp only[sZ] at h;simp only[bc,List.length_cons] at hl;obtain⟨r1,cs0,r2⟩:=hb 0 o1 rfl (F4 (.inl (Nat.le_refl _)));rw[Nat.add_zero] at r1 r2;have hne:∀k o',os[k]? =some o'->o'≠o1:=fun k o' hk e=>by
   subst e;have:=hnd 0 (k+1) o' rfl (by simpa using hk);omega
  have dget:∀k,(os.drop p.n)[k]? =os[p.n+k]? :=fun k=>List.getElem?_drop ..;have beyond:∀k,ey (p::r) j (j+(p.n+k+1))=ey r (j+(1+p.n)) (j+(1+p.n)+k):=fun k=>by
   have h7:Nat.ble (j+(p.n+k+1)+1) (j+(1+p.n))=false:=by
    cases hb:Nat.ble (j+(p.n+k+1)+1) (j+(1+p.n)) with
    | false=>rfl
    | true=>have:=Nat.le_of_ble_eq_true hb;omega
   simp only[ey,h7,Bool.and_false,Bool.false_or];rw[show j+(1+p.n)+k=j+(p.n+k+1) by omega]
  have ih:=Wb ρ γ r (tl p.ty (cM r) z) (os.drop p.n) (j+(1+p.n)) (i+p.n) (tx o1 (oI p (hd p.ty (cM r) z) i) HI) (by rw[List.length_drop];omega) (fun a b o' h1 h2=>by
   rw[dget] at h1 h2;have:=hnd (p.n+a+1) (p.n+b+1) o' (by simpa using h1) (by simpa using h2);omega) (fun k o' hk hd=>by
   rw[dget] at hk;obtain⟨a1,cs,a2⟩:=hb (p.n+k+1) o' (by simpa using hk) (by rw[beyond];exact hd);rw[show j+(1+p.n)+k=j+(p.n+k+1) by omega];refine⟨a1,cs,?_⟩;rw[T9 r2,if_neg (hne _ o' hk)];exact a2) (fun k c hk=>by
   have:=hH (p.n+k) c (by simp only[fc];rw[List.getElem?_append_right (by rw[cL];omega),cL,Nat.add_sub_cancel_left];exact hk);rw[<-Nat.add_assoc] at this;exact this) o c h
  rcases ih with⟨k,cp,b1,b2,b3⟩ | ⟨b1,b2⟩
  ·rw[dget] at b1;refine .inl ⟨p.n+k+1,cp,by simpa using b1,?_,b3⟩;simp only[eJ,List.getElem?_cons_succ];rw[List.getElem?_append_right (by rw[jZ];omega),jZ,Nat.add_sub_cancel_left];exact b2
  ·rw[T9 r2] at b2;by_cases e:o=o1
   ·rw[if_pos e] at b2;cases b2;subst e;refine .inl ⟨0,⟨γ j,p.ty.sz,[oD g0 p (hd p.ty (cM r) z) i]⟩,rfl,by simp only[eJ,List.getElem?_cons_zero,r1],?_⟩;have hr:=xx (nx:=nx) (gs:=g0) p (hd p.ty (cM r) z) i fun k c hk=>hH k c (by simp only[fc];rw[List.getElem?_append_left (List.getElem?_eq_some_iff.1 hk).1];exact hk);exact dh.iR (by rw[hr.1,tR]) hr
   ·rw[if_neg e] at b2;refine .inr ⟨fun k hk=>?_,b2⟩;cases k with
    | zero=>simp only[List.getElem?_cons_zero,Option.some.injEq] at hk;exact absurd hk.symm e
    | succ k=>
     simp only[List.getElem?_cons_succ] at hk;by_cases hk2:k<p.n
     ·have h6:Nat.ble (j+1) (j+(k+1))=true:=Nat.ble_eq_true_of_le (by omega);have h7:Nat.ble (j+(k+1)+1) (j+(1+p.n))=true:=Nat.ble_eq_true_of_le (by omega);simp only[ey,h6,h7,Bool.and_self,Bool.true_or]
     ·have:=b1 (k-p.n) (by rw[dget,show p.n+(k-p.n)=k by omega];exact hk);rw[<-beyond,show p.n+(k-p.n)+1=k+1 by omega] at this;exact this
theorem Ak:∀(a i b:Nat),nV i a++nV (i+a) b=nV i (a+b)
 | 0,i,b=>by simp[nV]
 | a+1,i,b=>by
  rw[show a+1+b=(a+b)+1 by omega];simp only[nV,List.cons_append];rw[<-Ak a (i+1) b,show i+1+a=i+(a+1) by omega]
theorem FX(gs:Nat->Nat):∀(p:PT) (x:El p.ty) (i:Nat),(oC gs p x i).map (·.1)=nV i p.n
 | .v _,_,_=>rfl
 | .a _,_,_=>rfl
 | .p a b,x,i=>by simp only[oC,List.map_append,FX gs a,FX gs b,PT.n,Ak]
theorem Et:∀(rk:List RK) (y:aY (RK.bf rk)) (i:Nat),(dK g0 rk y i).map (·.1)=nV i (dA rk)
 | [],_,_=>rfl
 | .v t::r,y,i=>Et r _ i
 | .n t::r,y,i=>by simp[dK,dA,nV,Et r]
 | .o p::r,y,i=>by
  simp only[dK,dA,List.map_append,Et r,FX];rw[Ak,Nat.add_comm]
theorem TU(gs:Nat->Nat):∀(ps:List PT) (z:aY (cM ps)) (i:Nat),(fc gs ps z i).map (·.1)=nV i (cg ps)
 | [],_,_=>rfl
 | p::r,z,i=>by simp only[fc,List.map_append,FX,TU gs r,Ak,cg]
theorem OC{l:List Nat}(h:nQ l=true)(i j o:Nat)(h1:l[i]? =some o)(h2:l[j]? =some o):i=j:=sr h i j o h1 h2
theorem cT{P:Program}{f:FuncId}{pk:List (Option (Nat×Nat))}{ks:List AK}{rk:List RK}{model:aY (AK.bf ks)->Option (aY (RK.bf rk)×aY (cM (outs ks)))}(h:dq P f pk ks rk model):iY P f (ya pk ks rk model):=by
 intro R args HI k r hr dargs H nx ha hH hn;simp only[ya] at hr;split at hr
 ·rename_i vs hun;obtain⟨dvs,hvs,rfl⟩:=OE pk args vs dargs hun ha;split at hr
  ·rename_i x os as hx;obtain⟨hnd,hr⟩:=gN hr;cases hm:model x with
   | none=>rw[hm] at hr;cases hr
   | some yz=>
    obtain⟨y,z⟩:=yz;rw[hm] at hr;simp only[Option.bind_some] at hr;rw[hn] at hr;generalize hp:bc (outs ks)=p;generalize hq:p+cg (outs ks)+dA rk=q;let ρ:Nat->Nat:=fun j=>if j<p then os.getD j 0 else nx+(j-p)
    let γ:Nat->Nat:=fun j=>if j<p then((H (os.getD j 0)).map (·.gen)).getD 0 else 0
    have hlen0:os.length=p:=by
     rw[<-hp];exact(zW (ρ:=fun j=>os.getD j 0) (γ:=fun j=>((H (os.getD j 0)).map (·.gen)).getD 0) (q:=bc (outs ks)) hH ks vs x os as dvs 0 hx hvs (by omega) fun k o hk=>by
      have e:os.getD (0+k) 0=o:=by rw[Nat.zero_add,List.getD_eq_getElem?_getD,hk];rfl
      exact⟨e,by rw[e]⟩).1
    have key0:∀(k o:Nat),os[k]? =some o->ρ k=o/\γ k=((H o).map (·.gen)).getD 0:=fun k o hk=>by
     have hkp:k<p:=by rw[<-hlen0];exact(List.getElem?_eq_some_iff.1 hk).1
     simp only[ρ,γ,hkp,if_true,List.getD_eq_getElem?_getD,hk,Option.getD_some,and_self]
    obtain⟨_,q2,q3,q4,q5⟩:=zW (ρ:=ρ) (γ:=γ) (q:=p) hH ks vs x os as dvs 0 hx hvs (by omega) fun k o hk=>by rw[Nat.zero_add];exact key0 k o hk
    simp only[Nat.zero_add] at q3 q4 q5;have h0:=h x y z hm;rw[hp,hq] at h0;have osat:∀j,j<p->os[j]? =some (os.getD j 0):=fun j hj=>by
     have:j<os.length:=by rw[hlen0];exact hj
     simp[List.getD_eq_getElem?_getD,List.getElem?_eq_getElem this]
    have ρp:∀j,j<p->ρ j=os.getD j 0:=fun j hj=>by simp only[ρ,hj,if_true]
    have ρo:∀j,j<p->os[j]? =some (ρ j):=fun j hj=>by rw[ρp j hj];exact osat j hj
    have ρn:∀j,p<=j->ρ j=nx+(j-p):=fun j hj=>by simp only[ρ,if_neg (Nat.not_lt.2 hj)]
    have γn:∀j,p<=j->γ j=0:=fun j hj=>by simp only[γ,if_neg (Nat.not_lt.2 hj)]
    let pre:=eD id g0 (outs ks) (eL ks x) 0
    let post:=dQ id g0 (outs ks) z rk y p
    let pre':bT:=pre.map fun c=>(ρ c.1,(H (ρ c.1)).getD ⟨0,0,[]⟩)
    let post':bT:=dQ ρ γ (outs ks) z rk y nx
    have lpre:pre.length=p:=by simp only[pre];rw[Fy,hp]
    have lpost:post.length=q:=by simp only[post];rw[Vl,hp,hq]
    have lepre:LE id g0 p pre pre 0:=DZ (outs ks) (eL ks x) 0 (by omega);have lepost0:LE id g0 q post post 0:=by simp only[post,<-hp];exact LY (outs ks) z rk y _ (by omega) fun k hk=>⟨rfl,rfl⟩
    have lepost:LE ρ γ q post' post 0:=by
     have:=LY (ρ:=ρ) (γ:=γ) (q:=q) (outs ks) z rk y nx (by omega) fun k hk=>by
      rw[hp];exact⟨by rw[ρn _ (by omega)];omega,γn _ (by omega)⟩
     rw[hp] at this;exact this
    have at1:∀j (hj:j<pre.length),∃ck:Ck,H (ρ j)=some ck/\ρ j<nx/\yq ρ γ p (γ j) ck pre[j].2/\γ j=ck.gen/\(ey (outs ks) 0 j=false->∃cs,aK HI (ρ j)=some (.box ck.gen cs)):=fun j hj=>by
     obtain⟨o,ck,a1,a2,a3,a4,a5⟩:=q3 j _ (List.getElem?_eq_getElem hj);obtain⟨k1,k2⟩:=key0 j o a1;have hγ:γ j=ck.gen:=by rw[k2,a2];rfl
     exact⟨ck,by rw[k1];exact a2,by rw[k1];exact a3,by rw[hγ];exact a4,hγ,by rw[k1];exact a5⟩
    have ρlt:∀j,j<p->ρ j<nx:=fun j hj=>by
     obtain⟨_,_,hlt,_⟩:=at1 j (by rw[lpre];exact hj);exact hlt
    have hinj:∀i j,i<q->j<q->ρ i=ρ j->i=j:=fun i j hi hj e=>by
     rcases Nat.lt_or_ge i p with h1 | h1<;>rcases Nat.lt_or_ge j p with h2 | h2
     ·exact OC hnd i j _ (ρo i h1) (by rw[ρo j h2,e])
     ·have:=ρlt i h1;rw[e,ρn j h2] at this;omega
     ·have:=ρlt j h2;rw[<-e,ρn i h1] at this;omega
     ·rw[ρn i h1,ρn j h2] at e;omega
    have Kpre:Keyed pre p id (eR pre):=lepre.keyed lpre fun _ _ _ _ e=>e;have Kpost:Keyed post q id (eR post):=lepost0.keyed lpost fun _ _ _ _ e=>e;have Kpre':Keyed pre' p ρ (fun k=>(H (ρ k)).getD ⟨0,0,[]⟩):=⟨by simp[pre',lpre],fun k hk=>by
     have hk':k<pre.length:=by simpa[pre'] using hk
     have e:=(lepre.nth k hk' hk').1;rw[Nat.zero_add] at e;simp only[pre',List.getElem_map,e],fun i j hi hj=>hinj i j (by omega) (by omega)⟩
    have Kpost':Keyed post' q ρ (eR post'):=lepost.keyed lpost hinj;have ckp:∀k (hk:k<post.length) (hk':k<post'.length),mP ρ γ q (γ k) (eR post' k) (eR post k):=fun k hk hk'=>by
     have:=(lepost.nth k hk hk').2.2;rw[Nat.zero_add] at this;simp only[eR,List.getD_eq_getElem?_getD,List.getElem?_eq_getElem hk,List.getElem?_eq_getElem hk',Option.getD_some];exact this
    have lpost':post'.length=q:=by rw[lepost.len,lpost]
    have ren:=de.rename (r:=ρ) (γ:=γ) (nb:=nx) (pre':=pre') (post':=post') (args':=mg pk (mq ρ γ ks x 0)) (res':=ft (j6 g0 rk y (nx+cg (outs ks)))) h0
     hinj ρlt (fun j h1 h2=>by rw[ρn j h1];exact⟨by omega,by omega⟩)
     ⟨fun j ck hj=>by
      obtain⟨k,hk,e,rfl⟩:=Kpre.mem hj;simp only[id] at e;subst e;have hk':j<pre.length:=by rw[lpre];exact hk
      obtain⟨ck',b1,b2,b3,_⟩:=at1 j hk';refine⟨hk,ck',?_,?_⟩
      ·have:=Kpre'.get hk Hp.emp;rw[b1] at this;exact this
      ·have:eR pre j=pre[j].2:=by simp only[eR,List.getD_eq_getElem?_getD,List.getElem?_eq_getElem hk',Option.getD_some]
       rw[this];exact b3,
     fun o ck' ho=>by
      obtain⟨k,hk,rfl,rfl⟩:=Kpre'.mem ho;exact⟨k,eR pre k,hk,rfl,Kpre.get hk Hp.emp⟩⟩
     (fun o ck' ho=>by
      obtain⟨k,hk,rfl,rfl⟩:=Kpost'.mem ho;exact⟨k,eR post k,hk,rfl,Kpost.get hk Hp.emp,ckp k (by rw[lpost];exact hk) (by rw[lpost'];exact hk)⟩)
     (fun j ck hj=>by
      obtain⟨k,hk,e,rfl⟩:=Kpost.mem hj;simp only[id] at e;subst e;exact⟨hk,_,Kpost'.get hk Hp.emp⟩)
     (Nh pk _ _ (Fi ks x 0 (by omega))) (avs (I3 rk y (p+cg (outs ks)) (nx+cg (outs ks)) fun k hk=>⟨by omega,by rw[ρn (p+cg (outs ks)+k) (by omega)];omega,γn _ (by omega)⟩))
     (fun j hj=>⟨_,Kpost.get hj Hp.emp⟩)
    have hqp:nx+(q-p)=nx+(cg (outs ks)+dA rk):=by omega
    rw[hqp] at ren;have pA:∀(k:Nat) (c:Nat×Ck),(eJ ρ γ (outs ks) z 0 nx)[k]? =some c->post'[k]? =some c:=fun k c hk=>by
     simp only[post',dQ];rw[List.getElem?_append_left (List.getElem?_eq_some_iff.1 hk).1];exact hk
    have pB:∀(k:Nat) (c:Nat×Ck),(fc g0 (outs ks) z nx)[k]? =some c->post'[p+k]? =some c:=fun k c hk=>by
     simp only[post',dQ];rw[List.getElem?_append_right (by rw[jY,hp];omega),jY,hp,Nat.add_sub_cancel_left,List.getElem?_append_left (List.getElem?_eq_some_iff.1 hk).1];exact hk
    have pC:∀(k:Nat) (c:Nat×Ck),(dK g0 rk y (nx+cg (outs ks)))[k]? =some c->post'[p+cg (outs ks)+k]? =some c:=fun k c hk=>by
     simp only[post',dQ];rw[List.getElem?_append_right (by rw[jY,hp];omega),jY,hp,List.getElem?_append_right (by rw[oQ];omega),oQ,show p+cg (outs ks)+k-p-cg (outs ks)=k by omega];exact hk
    have pof:∀(k:Nat) (c:Nat×Ck),post'[k]? =some c->bK H post' (ρ k)=some c.2:=fun k c hk=>by
     obtain⟨hk1,hk2⟩:=List.getElem?_eq_some_iff.1 hk;rw[Kpost'.get (by rw[<-lpost'];exact hk1) H];simp only[eR,List.getD_eq_getElem?_getD,hk,Option.getD_some]
    have hars:∀(k:Nat) c,(fc g0 (outs ks) z nx)[k]? =some c->nx+k<nx+(cg (outs ks)+dA rk)/\bK H post' (nx+k)=some c.2:=fun k c hk=>by
     have hl:=(List.getElem?_eq_some_iff.1 hk).1;rw[oQ] at hl;have:=pof _ _ (pB k c hk);rw[ρn _ (by omega),Nat.add_sub_cancel_left] at this;exact⟨by omega,this⟩
    have hnew:∀(k:Nat) c,(dK g0 rk y (nx+cg (outs ks)))[k]? =some c->nx+cg (outs ks)+k<nx+(cg (outs ks)+dA rk)/\bK H post' (nx+cg (outs ks)+k)=some c.2:=fun k c hk=>by
     have hl:=(List.getElem?_eq_some_iff.1 hk).1;rw[vq] at hl;have:=pof _ _ (pC k c hk);rw[ρn _ (by omega),show nx+(p+cg (outs ks)+k-p)=nx+cg (outs ks)+k by omega] at this;exact⟨by omega,this⟩
    have hsame:lZ as H nx (bK H post') (nx+(cg (outs ks)+dA rk)):=⟨by omega,fun o' ck' ho' has hk'=>by
     by_cases hex:∃k,k<q/\o'=ρ k
     ·obtain⟨k,hk,rfl⟩:=hex;have hkp:k<p:=by
       rcases Nat.lt_or_ge k p with h1 | h1
       ·exact h1
       ·rw[ρn k h1] at ho';omega
      have hd:ey (outs ks) 0 k=false:=by
       cases hd:ey (outs ks) 0 k with
       | false=>rfl
       | true=>exact absurd (q4 k _ (ρo k hkp) hd) has
      obtain⟨ck0,a1,a2,a3,a4,a5⟩:=at1 k (by rw[lpre];exact hkp);rw[Kpost'.get hk H] at hk';injection hk' with hk';subst hk'
      refine⟨ck0,a1,?_⟩;have hE:=ckp k (by rw[lpost];exact hk) (by rw[lpost'];exact hk);obtain⟨cs,b1⟩:=a5 hd;obtain⟨_,ckx,b2,b3,ds,b4,_⟩:=hH _ _ b1;rw[a1] at b2;injection b2 with b2;subst b2
      have hbox:∀(ps:List PT) (z:aY (cM ps)) (j i k:Nat) (h:k<(eJ id g0 ps z j i).length),ey ps j (j+k)=false->(eJ id g0 ps z j i)[k].2.gen=0/\(eJ id g0 ps z j i)[k].2.xs.length=1:=by
       intro ps;induction ps with
       | nil=>intro z j i k h;simp[eJ] at h
       | cons p' r ih=>
        intro z j i k h hd;cases k with
        | zero=>exact⟨rfl,rfl⟩
        | succ k=>
         simp only[ey,Bool.or_eq_false_iff] at hd;simp only[eJ,List.getElem_cons_succ];rw[List.getElem_append];split
         ·rename_i hk;rw[jZ] at hk;exfalso;have h6:Nat.ble (j+1) (j+(k+1))=true:=Nat.ble_eq_true_of_le (by omega);have h7:Nat.ble (j+(k+1)+1) (j+(1+p'.n))=true:=Nat.ble_eq_true_of_le (by omega);rw[h6,h7] at hd;cases hd.1
         ·rename_i hk;rw[jZ] at hk;have:=ih (tl p'.ty (cM r) z) (j+(1+p'.n)) (i+p'.n) (k-p'.n) (by simp only[eJ,List.length_cons,List.length_append,jZ] at h;omega) (by rw[show j+(1+p'.n)+(k-p'.n)=j+(k+1) by omega];exact hd.2);simp only[jZ];exact this
      have hkb:k<(eJ id g0 (outs ks) z 0 p).length:=by rw[jY,hp];exact hkp
      have hb:=hbox (outs ks) z 0 p k hkb (by rw[Nat.zero_add];exact hd);have e:eR post k=(eJ id g0 (outs ks) z 0 p)[k].2:=by
       have:post[k]? =some (eJ id g0 (outs ks) z 0 p)[k]:=by simp only[post,dQ];rw[List.getElem?_append_left hkb,List.getElem?_eq_getElem hkb]
       simp only[eR,List.getD_eq_getElem?_getD,this,Option.getD_some]
      refine⟨?_,?_⟩
      ·rw[hE.g,e,hb.1,a4];omega
      ·rw[<-hE.l,e,hb.2,b4];rfl
     ·rw[Kpost'.out (fun k hk e=>hex ⟨k,hk,e⟩) H] at hk';exact⟨ck',hk',rfl,rfl⟩⟩
    have hplen:(sZ (outs ks) z os (ng as (qR as HI)) nx).length=nx:=by rw[X2,N3,SP];exact hn
    have hlast:∀o c,aK (sZ (outs ks) z os (ng as (qR as HI)) nx++(tD (outs ks) z++mj rk y)) o=some c->o<nx+(cg (outs ks)+dA rk)/\∃ck,bK H post' o=some ck/\dh (bK H post') (nx+(cg (outs ks)+dA rk)) c ck:=by
     intro o c ho;rw[ot,hplen] at ho;by_cases hlt:o<nx
     ·rw[if_pos hlt] at ho;have:=Wb (H:=bK H post') (nx:=nx+(cg (outs ks)+dA rk)) ρ γ (outs ks) z os 0 nx (ng as (qR as HI)) (by rw[hlen0,hp]) (fun i k o h1 h2=>OC hnd i k o h1 h2) (fun k o' hk hd=>by
       rw[Nat.zero_add] at hd ⊢;have hkp:k<p:=by rw[<-hlen0];exact(List.getElem?_eq_some_iff.1 hk).1
       have e:=(key0 k o' hk).1;obtain⟨ck0,a1,a2,a3,a4,a5⟩:=at1 k (by rw[lpre];exact hkp);obtain⟨cs,b1⟩:=a5 hd;refine⟨e,?_⟩;have hna:o'∉as:=fun hm=>by
        obtain⟨k2,c1,c2⟩:=q5 o' hm;have:=OC hnd k k2 o' hk c1;subst this;rw[hd] at c2;cases c2
       rw[(vX as _ o').2 hna,a4];rw[e] at b1;exact VD as HI o' _ cs b1) hars o c ho
      rcases this with⟨k,cp,b1,b2,b3⟩ | ⟨b1,b2⟩
      ·refine⟨by omega,cp,?_,b3⟩;have:=pof k _ (pA k _ b2);rw[(key0 k o b1).1] at this;exact this
      ·have hna:o∉as:=fun hm=>by rw[(vX as _ o).1 hm] at b2;cases b2
       rw[(vX as _ o).2 hna] at b2;obtain⟨c0,c1,c2⟩:=V6 hsame b2;obtain⟨d1,ck,d2,d3⟩:=hH o c0 c1;have hout:bK H post' o=H o:=Kpost'.out (fun k hk e=>by
        rcases Nat.lt_or_ge k p with h1 | h1
        ·have:=b1 k (by rw[e];exact ρo k h1);rw[Nat.zero_add] at this;exact hna (by rw[e];exact q4 k _ (ρo k h1) this)
        ·rw[ρn k h1] at e;omega) H
       exact⟨by omega,ck,by rw[hout];exact d2,c2 ck d3⟩
     ·rw[if_neg hlt,ot,Ng] at ho;split at ho
      ·rename_i ha2;obtain⟨cp,b1,b2⟩:=Xd (H:=bK H post') (nx:=nx+(cg (outs ks)+dA rk)) (outs ks) z nx (o-nx) c ho;have:=hars _ _ b1;rw[show nx+(o-nx)=o by omega] at this;exact⟨this.1,cp,this.2,b2⟩
      ·rename_i ha2;obtain⟨cp,b1,b2⟩:=DY (H:=bK H post') (nx:=nx+(cg (outs ks)+dA rk)) rk y (nx+cg (outs ks)) (o-nx-cg (outs ks)) c ho;have:=hnew _ _ b1;rw[show nx+cg (outs ks)+(o-nx-cg (outs ks))=o by omega] at this;exact⟨this.1,cp,this.2,b2⟩
    refine⟨_,_,_,_,_,hr,pre',ft (j6 g0 rk y (nx+cg (outs ks))),post',nx+(cg (outs ks)+dA rk),ren.KP (Ml pk _ _ q2),fun o ck ho=>?_,?_,?_,?_,fun o c ho=>hlast o c ho,?_,hsame⟩
    ·obtain⟨k,hk,rfl,rfl⟩:=Kpre'.mem ho;obtain⟨ck,b3,_⟩:=at1 k (by rw[lpre];exact hk);rw[b3];rfl
    ·refine List.ext_getElem (by simp[pre',lpre,hlen0]) fun k h1 h2=>?_;have hk:k<pre.length:=by simpa[pre'] using h1
     have e:=(lepre.nth k hk hk).1;rw[Nat.zero_add] at e;simp only[pre',List.map_map,List.getElem_map,Function.comp_apply,e];exact(key0 k _ (List.getElem?_eq_getElem h2)).1
    ·have e1:(eJ ρ γ (outs ks) z 0 nx).map (·.1)=os:=by
      refine List.ext_getElem (by rw[List.length_map,jY,hp,hlen0]) fun k h1 h2=>?_;have hk:k<(eJ ρ γ (outs ks) z 0 nx).length:=by simpa using h1
      have hk2:k<post'.length:=by rw[lpost'];rw[jY,hp] at hk;omega
      have e:=(lepost.nth k (by rw[lpost,<-lpost'];exact hk2) hk2).2.1;rw[Nat.zero_add] at e;have e2:post'[k]=(eJ ρ γ (outs ks) z 0 nx)[k]:=by simp only[post',dQ];rw[List.getElem_append_left hk]
      rw[List.getElem_map,<-e2,e];exact(key0 k _ (List.getElem?_eq_getElem h2)).1
     simp only[post',dQ,List.map_append,e1,TU,Et,Ak]
    ·rw[List.length_append,hplen,List.length_append,Ng,DQ]
    ·exact DT (Hh rk y (nx+cg (outs ks)) fun k c hk=>by
      have:=hnew k c hk;exact this)
  ·cases hr
 ·cases hr
def q8:DV->DV
 | .v x=>.v x
 | .ptr o g i f=>.ptr o g i f
 | .own o g l n=>.own o g l n
 | .fn f []=>.fn f []
 | .nn=>.nn
 | _=>.any
def A0:DV->DV
 | .agg cs=>.agg (cs.map q8)
 | d=>q8 d
def Ic:DV->DV
 | .bh vs=>.bh (vs.map A0)
 | d=>A0 d
def Cu:IV->IV
 | .ab _ _ _=>.any
 | .nil=>.any
 | .rp _=>.any
 | .agg _=>.any
 | .bh _=>.any
 | .fn f []=>.fn f []
 | .fn _ _=>.any
 | v=>v
def L8:IV->IV
 | .agg cs=>.agg (cs.map Cu)
 | v=>Cu v
def Uv:IV->IV
 | .bh vs=>.bh (vs.map L8)
 | v=>L8 v
def vV:Option cS->Option cS
 | some (.box g cs)=>some (.box g (cs.map Cu))
 | some (.arr t as)=>cond t.oS (some (.arr t as)) none
 | some (.hF _ _)=>none
 | c=>c
def gf(c:Ck):Ck:={c with xs:=c.xs.map fun r=>r.map q8}
def ga(l:bT):bT:=l.map fun e=>(e.1,gf e.2)
section strip
variable {H H':Hp} {nx nx':Nat}
theorem SB{v:IV}{d:DV}(h:Rel H nx v d):Rel H nx (Cu v) (q8 d):=by
 cases h with
 | int k n=>exact .int k n
 | bool b=>exact .bool b
 | str b=>exact .str b
 | nil=>exact .any _
 | ab f f' t as xs hf h=>exact .any _
 | raw x=>exact .raw x
 | any d=>exact .any _
 | nn=>exact .nn
 | ptr o g i off ho h=>exact .ptr o g i off ho h
 | whole o g n ho h=>exact .whole o g n ho h
 | part o g lo n ho h=>exact .part o g lo n ho h
 | rp cs ds hl h=>exact .any _
 | agg cs ds hl h=>exact .any _
 | bh cs ds hl h=>exact .any _
 | fn f cs ds hl h=>
  cases cs with
  | nil=>
   have hd:=List.eq_nil_of_length_eq_zero (by rw[<-hl];rfl);subst hd;exact .fn _ _ _ rfl (fun j h=>by cases h)
  | cons=>exact .any _
theorem Ra{cs:List IV}{ds:List DV}(h:bR H nx cs ds):bR H nx (cs.map Cu) (ds.map q8):=⟨by simp[h.1],fun j h1 h2=>by simpa using SB (h.2 j (by simpa using h1) (by simpa using h2))⟩
theorem Ou{v:IV}{d:DV}(h:Rel H nx v d):Rel H nx (L8 v) (A0 d):=by
 cases v with
 | agg cs=>obtain⟨ds,rfl,k⟩:=h.fj;exact Rel.lO (Ra k)
 | any=>exact .any _
 | int k n=>rw[h.jg];exact .int k n
 | bool b=>rw[h.nA];exact .bool b
 | str b=>rw[h.vj];exact .str b
 | raw x=>rw[h.Lu];exact .raw x
 | nn=>rw[h.PH];exact .nn
 | nil=>exact .any _
 | ab=>exact .any _
 | rp=>exact .any _
 | bh=>exact .any _
 | ptr o i f=>obtain⟨g,rfl,_⟩:=h.pF;exact h
 | whole o=>obtain⟨g,n,rfl,_⟩:=h.nk;exact h
 | part o l n=>obtain⟨g,rfl,_⟩:=h.qJ;exact h
 | fn f cs=>
  obtain⟨ds,rfl,k⟩:=h.jQ;exact SB h
theorem anj{v:IV}{d:DV}(h:Rel H nx v d):Rel H nx (Uv v) (Ic d):=by
 cases v with
 | bh cs=>
  obtain⟨ds,rfl,k⟩:=h.kG;exact Rel.wR ⟨by simp[k.1],fun j h1 h2=>by simpa using Ou (k.2 j (by simpa using h1) (by simpa using h2))⟩
 | any=>exact .any _
 | agg cs=>obtain⟨ds,rfl,k⟩:=h.fj;exact Ou h
 | int k n=>rw[h.jg];exact .int k n
 | bool b=>rw[h.nA];exact .bool b
 | str b=>rw[h.vj];exact .str b
 | raw x=>rw[h.Lu];exact .raw x
 | nn=>rw[h.PH];exact .nn
 | nil=>exact .any _
 | ab=>exact .any _
 | rp=>exact .any _
 | ptr o i f=>obtain⟨g,rfl,_⟩:=h.pF;exact h
 | whole o=>obtain⟨g,n,rfl,_⟩:=h.nk;exact h
 | part o l n=>obtain⟨g,rfl,_⟩:=h.qJ;exact h
 | fn f cs=>
  obtain⟨ds,rfl,k⟩:=h.jQ;exact Ou h
theorem Oj:∀(t:GT) (x:El t) (ds:List DV),t.oS=true->cA t x ds->ds.map q8=ds
 | .int k,n,ds,_,h=>by rw[show ds=_ from h];rfl
 | .bool,n,ds,_,h=>by rw[show ds=_ from h];rfl
 | .str,n,ds,_,h=>by rw[show ds=_ from h];rfl
 | .list t,n,ds,hn,h=>by cases hn
 | .unit,n,ds,_,h=>by rw[show ds=_ from h];rfl
 | .pair a b,x,ds,hn,h=>by
  simp only[GT.oS,Bool.and_eq_true] at hn;obtain⟨d1,d2,rfl,h1,h2⟩:=h;rw[List.map_append,Oj a _ _ hn.1 h1,Oj b _ _ hn.2 h2]
theorem alx{c c':cS}{ck:Ck}(h:dh H nx c ck)(hk:vV (some c)=some c'):dh H nx c' (gf ck):=by
 cases c with
 | box g cs=>
  simp only[vV] at hk;cases hk;obtain⟨h1,ds,h2,h3,h4⟩:=h;exact⟨by simp[gf,h1],ds.map q8,by simp[gf,h2],Ra h3,h4⟩
 | arr t as=>
  simp only[vV] at hk;cases hn:t.oS with
  | false=>rw[hn] at hk;cases hk
  | true=>
   rw[hn] at hk;simp only[cond_true] at hk;cases hk;obtain⟨h1,h2⟩:=h;have:(gf ck).xs=ck.xs:=by
    refine List.ext_getElem (by simp[gf]) fun i a b=>?_;simp only[gf,List.getElem_map];exact Oj t _ _ hn (h2.2 i (by rw[h2.1];exact b) b)
   exact⟨h1,by rw[this];exact h2⟩
 | hF t as=>cases hk
 | wait=>
  simp only[vV] at hk;cases hk;obtain⟨sz,rfl⟩:=h;exact⟨sz,rfl⟩
theorem Ft{S S':Nat->Prop}{d:DV}(h:bB S d)(hS:∀j,S j->S' j):bB S' (q8 d):=by
 cases h with
 | v x=>exact .v x
 | any=>exact .any
 | nn=>exact .nn
 | gd p d h=>exact .any
 | ptr o g i f h=>exact .ptr _ _ _ _ (hS _ h)
 | own o g l n h=>exact .own _ _ _ _ (hS _ h)
 | ab f xs h=>exact .any
 | rp cs h=>exact .any
 | agg cs h=>exact .any
 | bh cs h=>exact .any
 | fn f cs h=>
  cases cs with
  | nil=>exact .fn _ _ (fun c hc=>by cases hc)
  | cons=>exact .any
theorem Uu{S S':Nat->Prop}{d:DV}(h:bB S d)(hS:∀j,S j->S' j):bB S' (A0 d):=by
 cases h with
 | agg cs h=>
  refine .agg _ fun c hc=>?_;obtain⟨b,hb,rfl⟩:=List.mem_map.1 hc;exact Ft (h b hb) hS
 | v x=>exact .v x
 | any=>exact .any
 | nn=>exact .nn
 | gd p d h=>exact .any
 | ptr o g i f h=>exact .ptr _ _ _ _ (hS _ h)
 | own o g l n h=>exact .own _ _ _ _ (hS _ h)
 | ab f xs h=>exact .any
 | rp cs h=>exact .any
 | bh cs h=>exact .any
 | fn f cs h=>exact Ft (.fn f cs h) hS
theorem ayg{S S':Nat->Prop}{d:DV}(h:bB S d)(hS:∀j,S j->S' j):bB S' (Ic d):=by
 cases h with
 | bh cs h=>
  refine .bh _ fun c hc=>?_;obtain⟨b,hb,rfl⟩:=List.mem_map.1 hc;exact Uu (h b hb) hS
 | agg cs h=>exact Uu (.agg cs h) hS
 | v x=>exact .v x
 | any=>exact .any
 | nn=>exact .nn
 | gd p d h=>exact .any
 | ptr o g i f h=>exact .ptr _ _ _ _ (hS _ h)
 | own o g l n h=>exact .own _ _ _ _ (hS _ h)
 | ab f xs h=>exact .any
 | rp cs h=>exact .any
 | fn f cs h=>exact Ft (.fn f cs h) hS
structure DW (S:Nat->Prop) (H:Hp) (ps:Ps) (nx:Nat) (H':Hp) (ps':Ps) (nx':Nat):Prop where
 lt:∀o,S o->o<nx->o<nx'
 h:∀o,S o->∀c',H' o=some c'->∃c,H o=some c/\c.gen=c'.gen/\c.sz=c'.sz/\c.xs.length=c'.xs.length/\ps' o=ps o
theorem nd{S:Nat->Prop}{ps ps':Ps}{M M':Nat->Prop}{w:World}{d:DV}{x:Value}(a:DW S H ps nx H' ps' nx')(hi:bB S d)(h:VR H ps M nx w d x):VR H' ps' M' nx' w (q8 d) x:=by
 cases h with
 | v x=>exact .v x
 | any x=>exact .any x
 | nn t p=>exact .nn t p
 | gd p d x h h2=>exact .any _
 | ptr o g i off x h0 h1 h=>
  cases hi with
  | ptr _ _ _ _ hs=>
   refine .ptr _ _ _ _ _ (a.lt o hs h0) h1 fun c' hc=>?_;obtain⟨c,k1,k2,k3,k4,k5⟩:=a.h o hs c' hc;obtain⟨a1,a2⟩:=h c k1;refine⟨by omega,fun e=>?_⟩;obtain⟨b1,p,b2,b3⟩:=a2 (by omega);exact⟨by omega,p,by rw[k5];exact b2,by rw[<-k3];exact b3⟩
 | own o g lo n x h0 h1 h=>
  cases hi with
  | own _ _ _ _ hs=>
   refine .own _ _ _ _ _ (a.lt o hs h0) h1 fun c' hc=>?_;obtain⟨c,k1,k2,k3,k4,k5⟩:=a.h o hs c' hc;obtain⟨a1,a2⟩:=h c k1;refine⟨by omega,fun e=>?_⟩;obtain⟨b1,aa,cap,b2,b3,b4⟩:=a2 (by omega);refine⟨by omega,aa,cap,b2,b3,?_⟩;rcases b4 with b4 | ⟨p,p1,p2,p3⟩
   ·exact .inl b4
   ·exact .inr ⟨p,by rw[k5];exact p1,by rw[<-k3];exact p2,by rw[<-k3];exact p3⟩
 | rp cs b off vs hM h1 hc hv=>exact .any _
 | fm full aa cap hf=>exact .any _
 | ab full xs b off cap sz vs hne hs hcap hf hM hz h1 hc hv=>exact .any _
 | agg cs vs hl h1 hv=>exact .any _
 | bh cs vs hl hv=>exact .any _
 | fn f cs vs hl hv=>
  cases cs with
  | nil=>exact .fn _ _ _ hl (fun j hj=>by cases hj)
  | cons=>exact .any _
theorem nN{S:Nat->Prop}{ps ps':Ps}{M M':Nat->Prop}{w:World}{d:DV}{x:Value}(a:DW S H ps nx H' ps' nx')(hi:bB S d)(h:VR H ps M nx w d x):VR H' ps' M' nx' w (A0 d) x:=by
 cases d with
 | agg cs=>
  obtain⟨vs,rfl,h1,h2,h3⟩:=h.fj;cases hi with
  | agg _ hi=>
   refine .agg _ vs (by simp[h1]) (fun j hj=>h2 j (by simpa using hj)) fun j hj=>?_;have hj':j<cs.length:=by simpa using hj
   simp only[List.getElem_map];exact nd a (hi _ (List.getElem_mem hj')) (h3 j hj')
 | v x=>exact nd a hi h
 | any=>exact nd a hi h
 | nn=>exact nd a hi h
 | gd p d=>exact nd a hi h
 | ptr o g i f=>exact nd a hi h
 | own o g l n=>exact nd a hi h
 | ab f xs=>exact nd a hi h
 | rp cs=>exact nd a hi h
 | bh cs=>exact nd a hi h
 | fn f cs=>exact nd a hi h
theorem atg{S:Nat->Prop}{ps ps':Ps}{M M':Nat->Prop}{w:World}{d:DV}{x:Value}(a:DW S H ps nx H' ps' nx')(hi:bB S d)(h:VR H ps M nx w d x):VR H' ps' M' nx' w (Ic d) x:=by
 cases d with
 | bh cs=>
  obtain⟨vs,rfl,h1,h2⟩:=h.kG;cases hi with
  | bh _ hi=>
   refine .bh _ vs (by simp[h1]) fun j hj=>?_;have hj':j<cs.length:=by simpa using hj
   simp only[List.getElem_map];exact nN a (hi _ (List.getElem_mem hj')) (h2 j hj')
 | agg cs=>exact nN a hi h
 | v x=>exact nN a hi h
 | any=>exact nN a hi h
 | nn=>exact nN a hi h
 | gd p d=>exact nN a hi h
 | ptr o g i f=>exact nN a hi h
 | own o g l n=>exact nN a hi h
 | ab f xs=>exact nN a hi h
 | rp cs=>exact nN a hi h
 | fn f cs=>exact nN a hi h
end strip
theorem vy(H:Hp):∀(l m:bT),bK H (l++m)=bK (bK H l) m:=fun l m=>by simp[bK]
theorem uU(B l:bT)(j:Nat):((∃ck,ah l j=some ck/\ah (B++l) j=some ck)\/(ah l j=none/\ah (B++l) j=ah B j)):=by
 rcases mf l (ah B) j with⟨q1,q2⟩ | ⟨ck,q1,q2⟩
 ·exact .inr ⟨q1,by show bK Hp.emp (B++l) j=_;rw[vy];exact q2⟩
 ·exact .inl ⟨ck,q1,by show bK Hp.emp (B++l) j=_;rw[vy];exact q2⟩
theorem Cj:∀(l:bT) (j:Nat),(∃ck,(∀H,bK H l j=some ck)/\∀H,bK H (ga l) j=some (gf ck))\/((∀H,bK H l j=H j)/\∀H,bK H (ga l) j=H j)
 | [],j=>.inr ⟨fun _=>rfl,fun _=>rfl⟩
 | e::l,j=>by
  rcases Cj l j with⟨ck,h1,h2⟩ | ⟨h1,h2⟩
  ·exact .inl ⟨ck,fun H=>h1 _,fun H=>h2 _⟩
  ·by_cases e1:j=e.1
   ·subst e1;refine .inl ⟨e.2,fun H=>?_,fun H=>?_⟩
    ·rw[hP,h1,Hp.b9]
    ·show bK (H.put e.1 (some (gf e.2))) (ga l) _=_;rw[h2,Hp.b9]
   ·refine .inr ⟨fun H=>?_,fun H=>?_⟩
    ·rw[hP,h1,Hp.aS _ _ _ e1]
    ·show bK (H.put e.1 (some (gf e.2))) (ga l) _=_;rw[h2,Hp.aS _ _ _ e1]
def US(B pre:bT)(nx:Nat)(d' d:DV):Prop:=∀(ps:Ps) (M:Nat->Prop) (w:World) (x:Value),HR (ah (B++pre)) ps M nx w->VR (ah (B++pre)) ps M nx w d' x->VR (ah pre) ps M nx w d x
theorem Rh{B pre:bT}{ps:Ps}{M:Nat->Prop}{nx:Nat}{w:World}:Kp (ah (B++pre)) ps M nx w (ah pre) ps M nx w:=by
 have key:∀o ck,ah pre o=some ck->ah (B++pre) o=some ck:=fun o ck h=>by
  rcases uU B pre o with⟨c,h1,h2⟩ | ⟨h1,_⟩
  ·rw[h] at h1;cases h1;exact h2
  ·rw[h] at h1;cases h1
 refine⟨Nat.le_refl _,fun o _ ck' hk=>⟨ck',key o ck' hk,.inr ⟨rfl,rfl,Nat.le_refl _,rfl⟩⟩,fun b hb=>.inl ?_,fun _ _ _=>rfl⟩;rcases hb with hb | ⟨o,ck,p,h1,h2,h3⟩
 ·exact .inl hb
 ·exact .inr ⟨o,ck,p,key o ck h1,h2,h3⟩
theorem de.NV{P:Program}{f:FuncId}{args args':List DV}{pre:bT}{nb:Nat}{res:DV}{post:bT}{nx':Nat}(h:de P f args pre nb res post nx')(B:bT)(hB:∀o ck,ah B o=some ck->ah pre o=none/\ah post o=none/\o<nb/\∀x,x∈ck.xs->∀c,c∈x->bB (fun _=>False) c)
  (ha:aX (US B pre nb) args' args):de P f args' (B++pre) nb (Ic res) (B++ga post) nx':=by
 have post2:∀j ck,ah post j=some ck->ah (B++ga post) j=some (gf ck):=fun j ck hj=>by
  rcases Cj post j with⟨c,h1,h2⟩ | ⟨h1,_⟩
  ·rw[ah,h1] at hj;cases hj;show bK Hp.emp (B++ga post) j=_;rw[vy,h2]
  ·rw[ah,h1] at hj;cases hj
 have back:∀j c2,ah (B++ga post) j=some c2->(∃ck,ah post j=some ck/\c2=gf ck)\/(ah post j=none/\ah B j=some c2):=fun j c2 hj=>by
  rcases Cj post j with⟨c,h1,h2⟩ | ⟨h1,h2⟩
  ·have:ah (B++ga post) j=some (gf c):=by show bK Hp.emp (B++ga post) j=_;rw[vy,h2]
   rw[this] at hj;injection hj with hj
   exact .inl ⟨c,h1 _,hj.symm⟩
  ·have:ah (B++ga post) j=ah B j:=by show bK Hp.emp (B++ga post) j=_;rw[vy,h2];rfl
   rw[this] at hj;exact .inr ⟨h1 _,hj⟩
 have ae:∀j ck,ah B j=some ck->ah (B++ga post) j=some ck:=fun j ck hj=>by
  rcases Cj post j with⟨c,h1,_⟩ | ⟨_,h2⟩
  ·have:=(hB j ck hj).2.1;rw[ah,h1] at this;cases this
  ·show bK Hp.emp (B++ga post) j=_;rw[vy,h2];exact hj
 have preB:∀j ck,ah (B++pre) j=some ck->ah pre j=some ck\/(ah pre j=none/\ah B j=some ck):=fun j ck hj=>by
  rcases uU B pre j with⟨c,h1,h2⟩ | ⟨h1,h2⟩
  ·rw[h2] at hj;cases hj;exact .inl h1
  ·rw[h2] at hj;exact .inr ⟨h1,hj⟩
 have pre1:∀j ck,ah pre j=some ck->ah (B++pre) j=some ck:=fun j ck hj=>by
  rcases uU B pre j with⟨c,h1,h2⟩ | ⟨h1,h2⟩
  ·rw[hj] at h1;cases h1;exact h2
  ·rw[hj] at h1;cases h1
 have preI:∀j ck,ah B j=some ck->ah (B++pre) j=some ck:=fun j ck hj=>by
  rcases uU B pre j with⟨c,h1,h2⟩ | ⟨h1,h2⟩
  ·have:=(hB j ck hj).1;rw[this] at h1;cases h1
  ·rw[h2];exact hj
 have hS:∀j,((∃ck,ah post j=some ck)\/(nb<=j/\j<nx'))->((∃ck,ah (B++ga post) j=some ck)\/(nb<=j/\j<nx')):=fun j hj=>hj.elim (fun⟨ck,hk⟩=>.inl ⟨_,post2 j ck hk⟩) .inr;refine⟨h.fn,fun o ck ho=>?_,fun o ck' ho hlt=>?_,h.le,ayg h.ids hS,fun o c2 ho x hx c hc=>?_,fun M ps w cargs hR hsz hva hgl=>?_⟩
 ·rcases preB o ck ho with ho | ⟨_,ho⟩
  ·obtain⟨c,hc⟩:=h.af o ck ho;exact⟨_,post2 o c hc⟩
  ·exact⟨ck,ae o ck ho⟩
 ·rcases back o ck' ho with⟨ck,hk,_⟩ | ⟨_,hk⟩
  ·obtain⟨c,hc⟩:=h.fL o ck hk hlt;exact⟨c,pre1 o c hc⟩
  ·exact⟨_,preI o _ hk⟩
 ·rcases back o c2 ho with⟨ck,hk,rfl⟩ | ⟨_,hk⟩
  ·simp only[gf] at hx;obtain⟨y,hy,rfl⟩:=List.mem_map.1 hx;obtain⟨d,hd,rfl⟩:=List.mem_map.1 hc;exact Ft (h.j9 o ck hk y hy d hd) hS
  ·exact((hB o c2 hk).2.2.2 x hx c hc).kF fun _ h=>h.elim
 ·have hR0:HR (ah pre) ps M nb w:=⟨fun o ck ho=>hR.lt o ck (pre1 o ck ho),fun o ck ho=>(hR.cr o ck (pre1 o ck ho)).mono Rh rfl fun _ _=>rfl,fun o o' ck ck' p p' h1 h2=>hR.inj o o' ck ck' p p' (pre1 _ _ h1) (pre1 _ _ h2),hR.ml,fun o ck p h1=>hR.dj o ck p (pre1 _ _ h1)⟩;refine(h.run M ps w cargs hR0 (by rw[hsz,ha.1]) (fun j hj=>ha.2 j (by rw[ha.1];exact hj) hj ps M w _ hR (hva j (by rw[ha.1];exact hj))) (hgl.less fun b ⟨o,ck,p,k1,k2,k3⟩=>⟨o,ck,p,pre1 o ck k1,k2,k3⟩)).mono ?_;rintro e w' ⟨v,ps',rfl,g1,g2,g3,g4,g5⟩;let ps2:Ps:=fun o=>match ah post o with | some _=>ps' o | none=>ps o
  have psi:∀o ck,ah post o=some ck->ps2 o=ps' o:=fun o ck h=>by simp only[ps2,h]
  have pso:∀o,ah post o=none->ps2 o=ps o:=fun o h=>by simp only[ps2,h]
  have notlive:∀o ck p,ah B o=some ck->ps o=some p->¬Live (ah pre) ps p.b:=by
   rintro o ck p h1 h2 ⟨o',ck',p',k1,k2,k3⟩;have:=hR.inj o o' ck ck' p p' (preI o ck h1) (pre1 o' ck' k1) h2 k2 k3.symm;subst this;rw[(hB o ck h1).1] at k1;cases k1
  have blk:∀o ck p,ah B o=some ck->ps o=some p->w'.heap[p.b]? =w.heap[p.b]? :=fun o ck p h1 h2=>g3.block _ (hR.mQ (preI o ck h1) h2) (notlive o ck p h1 h2);have agr:DW (fun j=>(∃ck,ah post j=some ck)\/(nb<=j/\j<nx')) (ah post) ps' nx' (ah (B++ga post)) ps2 nx':=by
   refine⟨fun _ _ h=>h,fun o hs c' hc=>?_⟩;rcases back o c' hc with⟨ck,hk,rfl⟩ | ⟨hn,hk⟩
   ·exact⟨ck,hk,rfl,rfl,by simp[gf],psi o ck hk⟩
   ·have:=(hB o c' hk).2.2.1;rcases hs with⟨ck,hs⟩ | hs
    ·rw[hn] at hs;cases hs
    ·omega
  have live2:∀o c2 p,ah (B++ga post) o=some c2->ps2 o=some p->(∃ck,ah post o=some ck/\ps' o=some p)\/(∃ck,ah B o=some ck/\ps o=some p):=fun o c2 p h1 h2=>by
   rcases back o c2 h1 with⟨ck,hk,rfl⟩ | ⟨hn,hk⟩
   ·rw[psi o ck hk] at h2;exact .inl ⟨ck,hk,h2⟩
   ·rw[pso o hn] at h2;exact .inr ⟨c2,hk,h2⟩
  refine⟨v,ps2,rfl,atg agr h.ids g1,⟨fun o c2 ho=>?_,fun o c2 ho=>?_,fun o o' c c' p p' h1 h2 h3 h4 h5=>?_,g2.ml,fun o c p h1 h2=>?_⟩,⟨g3.os,g3.tape,g3.output,g3.size,fun b hb hl=>g3.block b hb fun hl'=>hl (by obtain⟨o,ck,p,k1,k2,k3⟩:=hl';exact⟨o,ck,p,pre1 o ck k1,k2,k3⟩)⟩,fun o c p h1 h2=>?_,fun o ho c2 hk=>?_⟩
  ·rcases back o c2 ho with⟨ck,hk,rfl⟩ | ⟨_,hk⟩
   ·exact g2.lt o ck hk
   ·exact Nat.lt_of_lt_of_le (hB o c2 hk).2.2.1 h.le
  ·rcases back o c2 ho with⟨ck,hk,rfl⟩ | ⟨hn,hk⟩
   ·rcases g2.cr o ck hk with⟨q1,q2⟩ | ⟨p,c,E,vs,q1,q2,q3,q4,q5,q6,q7⟩
    ·exact .inl ⟨by rw[psi o ck hk];exact q1,by simp[gf,q2]⟩
    ·refine .inr ⟨p,c,E,vs,by rw[psi o ck hk];exact q1,q2,q3,fun i hi=>?_,by simpa[gf] using q5,fun i j hi hj=>q6 i j (by simpa[gf] using hi) hj,fun i j hi hj=>?_⟩
     ·simp only[gf,List.getElem_map,List.length_map];exact q4 i _
     ·simp only[gf,List.getElem_map];have hi':i<ck.xs.length:=by simpa[gf] using hi
      have hj':j<ck.xs[i].length:=by simpa[gf] using hj
      exact nd agr (h.j9 o ck hk _ (List.getElem_mem hi') _ (List.getElem_mem hj')) (q7 i j hi' hj')
   ·rcases hR.cr o c2 (preI o c2 hk) with⟨q1,q2⟩ | ⟨p,c,E,vs,q1,q2,q3,q4,q5,q6,q7⟩
    ·exact .inl ⟨by rw[pso o hn];exact q1,q2⟩
    ·refine .inr ⟨p,c,E,vs,by rw[pso o hn];exact q1,q2.same (blk o c2 p hk q1),q3,q4,q5,q6,fun i j hi hj=>?_⟩;have kps:xu (fun _=>False) (ah (B++pre)) ps M nb w (ah (B++ga post)) ps2 M nx' w':=by
      refine⟨fun o h=>h.elim,fun o h=>h.elim,fun b hb=>?_,fun b hb hm=>g3.block b hb fun hl=>hm (.inr (by obtain⟨o,ck,p,k1,k2,k3⟩:=hl;exact⟨o,ck,p,pre1 o ck k1,k2,k3⟩))⟩;rcases hb with hb | ⟨o',c',p',h1,h2,rfl⟩
      ·exact .inl (.inl hb)
      ·rcases live2 o' c' p' h1 h2 with⟨ck,k1,k2⟩ | ⟨ck,k1,k2⟩
       ·rcases g4 o' ck p' k1 k2 with⟨o3,c3,p3,m1,m2,m3⟩ | k
        ·exact .inl (.inr ⟨o3,c3,p3,pre1 o3 c3 m1,m2,m3⟩)
        ·exact .inr k
       ·exact .inl (.inr ⟨o',ck,p',preI o' ck k1,k2,rfl⟩)
     exact(q7 i j hi hj).ke ((hB o c2 hk).2.2.2 _ (List.getElem_mem hi) _ (List.getElem_mem hj)) kps
  ·have cross:∀o o' ck ck' p p',ah post o=some ck->ps' o=some p->ah B o'=some ck'->ps o'=some p'->p.b=p'.b->False:=fun o o' ck ck' p p' a1 a2 a3 a4 a5=>by
    rcases g4 o ck p a1 a2 with k | k
    ·exact notlive o' ck' p' a3 a4 (a5▸k)
    ·have:=hR.mQ (preI o' ck' a3) a4;omega
   rcases live2 o c p h1 h3 with⟨ck,k1,k2⟩ | ⟨ck,k1,k2⟩<;>rcases live2 o' c' p' h2 h4 with⟨ck',m1,m2⟩ | ⟨ck',m1,m2⟩
   ·exact g2.inj o o' ck ck' p p' k1 m1 k2 m2 h5
   ·exact(cross o o' ck ck' p p' k1 k2 m1 m2 h5).elim
   ·exact(cross o' o ck' ck p' p m1 m2 k1 k2 h5.symm).elim
   ·exact hR.inj o o' ck ck' p p' (preI _ _ k1) (preI _ _ m1) k2 m2 h5
  ·rcases live2 o c p h1 h2 with⟨ck,k1,k2⟩ | ⟨ck,k1,k2⟩
   ·exact g2.dj o ck p k1 k2
   ·exact hR.dj o ck p (preI o ck k1) k2
  ·rcases live2 o c p h1 h2 with⟨ck,k1,k2⟩ | ⟨ck,k1,k2⟩
   ·rcases g4 o ck p k1 k2 with⟨o3,c3,p3,m1,m2,m3⟩ | k
    ·exact .inl ⟨o3,c3,p3,pre1 o3 c3 m1,m2,m3⟩
    ·exact .inr k
   ·exact .inl ⟨o,ck,p,preI o ck k1,k2,rfl⟩
  ·rcases back o c2 hk with⟨ck,k,rfl⟩ | ⟨hn,k⟩
   ·obtain⟨c0,m1,m2⟩:=g5 o ho ck k;refine⟨c0,pre1 o c0 m1,?_⟩;rcases m2 with m2 | ⟨m2,m3,m4,m5⟩
    ·exact .inl m2
    ·exact .inr ⟨m2,m3,by simpa[gf] using m4,by rw[psi o ck k];exact m5⟩
   ·exact⟨c2,preI o c2 k,.inr ⟨rfl,rfl,Nat.le_refl _,pso o hn⟩⟩
def F5(H:IH):IV->IV×List Nat
 | .whole o=>match aK H o with
  | some (.arr t as)=>cond (Nat.ble 1 t.sz) (.ab false t as,[o]) (.whole o,[])
  | _=>(.whole o,[])
 | v=>(v,[])
def zV(H:IH):List IV->List IV×List Nat
 | []=>([],[])
 | c::r=>match F5 H c with
  | (c',o1)=>match zV H r with
   | (r',o2)=>(c'::r',o1++o2)
def ES(H:IH):IV->IV×List Nat
 | .agg cs=>match zV H cs with
  | (cs',os)=>(.agg cs',os)
 | v=>F5 H v
def BB(H:IH):List IV->List IV×List Nat
 | []=>([],[])
 | v::r=>match ES H v with
  | (v',o1)=>match BB H r with
   | (r',o2)=>(v'::r',o1++o2)
def p5(l:List Nat)(j:Nat):Bool:=l.any fun i=>Nat.beq i j
def xJ(os wr:List Nat)(H0:IH):IH->Nat->IH
 | [],_=>[]
 | c::r,i=>cond (p5 os i) (aK H0 i) (cond (p5 wr i) (vV c) c)::xJ os wr H0 r (i+1)
def Vt(E:eC):eC:=fun args H k=>match BB H args with
 | (_,[])=>E args H k
 | (args',o::os)=>E args' (ng (o::os) H) fun v H' rd wr kl=>eE ((o::os).all fun j=> !(p5 rd j) && !(p5 wr j)) (k (Uv v) (xJ (o::os) wr H H' 0) ((o::os)++rd) ((o::os)++wr) kl) none
theorem Bn{l:List Nat}{j:Nat}:p5 l j=true↔j∈l:=by
 unfold p5;rw[List.any_eq_true];exact⟨fun⟨x,hx,e⟩=>Nat.eq_of_beq_eq_true e▸hx,fun h=>⟨j,h,Nat.beq_refl j⟩⟩
theorem VK{os wr:List Nat}{H0:IH}:∀(H:IH) (i j:Nat),j<H.length->aK (xJ os wr H0 H i) j=cond (p5 os (i+j)) (aK H0 (i+j)) (cond (p5 wr (i+j)) (vV (aK H j)) (aK H j))
 | [],i,j,h=>by cases h
 | c::r,i,0,h=>rfl
 | c::r,i,j+1,h=>by
  show aK (xJ os wr H0 r (i+1)) j=_;rw[VK r (i+1) j (by simpa using h),show i+1+j=i+(j+1) by omega];rfl
theorem LW{os wr:List Nat}{H0:IH}:∀(H:IH) (i:Nat),(xJ os wr H0 H i).length=H.length
 | [],i=>rfl
 | c::r,i=>by simp[xJ,LW r]
section lendArgs
variable {H:Hp} {nx:Nat} {HI:IH}
def kU(H:Hp)(HI:IH)(nx:Nat)(os:List Nat)(d d1:DV):Prop:=∀(B pre:bT),(∀o,o∈os->ah (B++pre) o=H o/\ah pre o=none)->US B pre nx d d1
theorem kU.same(d:DV)(os:List Nat):kU H HI nx os d d:=fun B pre _ ps M w x hR hv=>hv.mono Rh
theorem Xp(hH:jw HI H nx){v v':IV}{os:List Nat}{d:DV}(h:F5 HI v=(v',os))(hr:Rel H nx v d):∃d1,Rel H nx v' d1/\kU H HI nx os d d1/\∀o,o∈os->∃t as,aK HI o=some (.arr t as):=by
 have same:(v,([]:List Nat))=(v',os)->∃d1,Rel H nx v' d1/\kU H HI nx os d d1/\∀o,o∈os->∃t as,aK HI o=some (.arr t as):=fun e=>by
  injection e with e1 e2;subst e1;subst e2
  exact⟨d,hr,.same _ _,fun o h=>by cases h⟩
 cases v with
 | whole o=>
  simp only[F5] at h;split at h
  ·rename_i t as hc;cases hb:Nat.ble 1 t.sz with
   | false=>rw[hb] at h;exact same h
   | true=>
    rw[hb] at h;simp only[cond_true,Prod.mk.injEq] at h;obtain⟨rfl,rfl⟩:=h;obtain⟨g,n,rfl,hlt,hg⟩:=hr.nk;obtain⟨_,ck,k1,z1,z2⟩:=hH o _ hc;obtain⟨g1,g2⟩:=hg ck k1;have fl:∀x∈ck.xs,∀c∈x,bB (fun _=>False) c:=fun x hx c hc=>by
     obtain⟨j,hj,rfl⟩:=List.mem_iff_getElem.1 hx;exact cA.ids t _ _ (z2.2 j (by rw[z2.1];exact hj) hj) c hc
    refine⟨.ab false ck.xs,.ab _ _ _ _ _ (fun e=>by cases e) z2,fun B pre hB ps M w x hR hv=>?_,fun o' ho=>?_⟩
    ·obtain⟨b1,b2⟩:=hB o (by simp);have sh:Shape ⟨fun _=>.any,ah (B++pre),nx⟩ (ah pre) id nx:=⟨fun j ck' hj=>by
      have:ah (B++pre) j=some ck':=by
       rcases uU B pre j with⟨c,h1,h2⟩ | ⟨h1,h2⟩
       ·rw[hj] at h1;cases h1;exact h2
       ·rw[hj] at h1;cases h1
      exact⟨hR.lt j ck' this,ck',this,rfl,rfl,rfl⟩⟩
     have tr:=xM (by show ah (B++pre) o=some ck;rw[b1];exact k1) (by rw[z1];exact Nat.le_of_ble_eq_true hb) fl sh b2 g 0 n g1 (by omega);have hv2:=tr ps M w x hR hv;have e:(ck.xs.drop 0).take n=ck.xs:=by rw[List.drop_zero,<-g2,List.take_length]
     rw[e] at hv2;exact hv2
    ·rw[List.mem_singleton.1 ho];exact⟨t,as,hc⟩
  ·exact same h
 | _=>exact same h
theorem kU.mono{os os':List Nat}{d d1:DV}(h:kU H HI nx os d d1)(hs:∀o,o∈os->o∈os'):kU H HI nx os' d d1:=fun B pre hB=>h B pre fun o ho=>hB o (hs o ho)
theorem S4(hH:jw HI H nx):∀{vs vs':List IV} {os:List Nat} {ds:List DV},zV HI vs=(vs',os)->bR H nx vs ds->∃ds1,bR H nx vs' ds1/\aX (kU H HI nx os) ds ds1/\∀o,o∈os->∃t as,aK HI o=some (.arr t as)
 | [],vs',os,ds,h,hr=>by
  simp only[zV,Prod.mk.injEq] at h;obtain⟨rfl,rfl⟩:=h;exact⟨[],.nil,by rw[hr.dY];exact .nil,fun o h=>by cases h⟩
 | v::vs,vs',os,ds,h,hr=>by
  obtain⟨d,ds,rfl,h1,h2⟩:=hr.dD;simp only[zV,Prod.mk.injEq] at h;obtain⟨rfl,rfl⟩:=h;obtain⟨d1,a1,a2,a3⟩:=Xp hH rfl h1;obtain⟨ds1,b1,b2,b3⟩:=S4 hH rfl h2;refine⟨d1::ds1,.cons a1 b1,.cons (a2.mono fun o h=>List.mem_append_left _ h) (b2.mono fun _ _ h=>h.mono fun o h=>List.mem_append_right _ h),fun o ho=>?_⟩;rcases List.mem_append.1 ho with ho | ho
  ·exact a3 o ho
  ·exact b3 o ho
theorem kU.agg{os:List Nat}{ds es:List DV}(h:aX (kU H HI nx os) ds es):kU H HI nx os (.agg ds) (.agg es):=fun B pre hB ps M w x hR hv=>by
 obtain⟨vs,rfl,h1,h2,h3⟩:=hv.fj;have e:=h.1;exact .agg _ vs (by omega) (fun j hj=>h2 j (by omega)) fun j hj=>h.2 j (by omega) hj B pre hB ps M w _ hR (h3 j (by omega))
theorem ax4(hH:jw HI H nx){v v':IV}{os:List Nat}{d:DV}(h:ES HI v=(v',os))(hr:Rel H nx v d):∃d1,Rel H nx v' d1/\kU H HI nx os d d1/\∀o,o∈os->∃t as,aK HI o=some (.arr t as):=by
 cases v with
 | agg cs=>
  obtain⟨ds,rfl,k⟩:=hr.fj;simp only[ES,Prod.mk.injEq] at h;obtain⟨rfl,rfl⟩:=h;obtain⟨ds1,b1,b2,b3⟩:=S4 hH rfl k;exact⟨_,Rel.lO b1,kU.agg b2,b3⟩
 | _=>simp only[ES] at h;exact Xp hH h hr
theorem R4(hH:jw HI H nx):∀{vs vs':List IV} {os:List Nat} {ds:List DV},BB HI vs=(vs',os)->bR H nx vs ds->∃ds1,bR H nx vs' ds1/\aX (kU H HI nx os) ds ds1/\∀o,o∈os->∃t as,aK HI o=some (.arr t as)
 | [],vs',os,ds,h,hr=>by
  simp only[BB,Prod.mk.injEq] at h;obtain⟨rfl,rfl⟩:=h;exact⟨[],.nil,by rw[hr.dY];exact .nil,fun o h=>by cases h⟩
 | v::vs,vs',os,ds,h,hr=>by
  obtain⟨d,ds,rfl,h1,h2⟩:=hr.dD;simp only[BB,Prod.mk.injEq] at h;obtain⟨rfl,rfl⟩:=h;obtain⟨d1,a1,a2,a3⟩:=ax4 hH rfl h1;obtain⟨ds1,b1,b2,b3⟩:=R4 hH rfl h2;refine⟨d1::ds1,.cons a1 b1,.cons (a2.mono fun o h=>List.mem_append_left _ h) (b2.mono fun _ _ h=>h.mono fun o h=>List.mem_append_right _ h),fun o ho=>?_⟩;rcases List.mem_append.1 ho with ho | ho
  ·exact a3 o ho
  ·exact b3 o ho
end lendArgs
theorem qX{P:Program}{f:FuncId}{E:eC}(hE:iY P f E):iY P f (Vt E):=by
 intro R args HI k r h dargs H nx hargs hH hn;simp only[Vt] at h;split at h
 ·exact hE R args HI k r h dargs H nx hargs hH hn
 ·rename_i args' o0 os0 hla;revert h;generalize hos:o0::os0=os at hla;intro h;obtain⟨ds1,a1,a2,a3⟩:=R4 hH hla hargs;have hH1:jw (ng os HI) H nx:=fun o c hc=>by
   by_cases ho:o∈os
   ·rw[(vX os HI o).1 ho] at hc;cases hc
   ·rw[(vX os HI o).2 ho] at hc;exact hH o c hc
  obtain⟨v,H',rd,wr,kl,h1,pre,d,post,nx',h2,h3,h4,h5,h6,h7,h8,h9⟩:=hE R args' _ _ r h ds1 H nx a1 hH1 (by rw[N3];exact hn);obtain⟨hd,hk⟩:=gN h1;have wj:∀o,o∈os->o∉rd/\o∉wr:=fun o ho=>by
   have:=List.all_eq_true.1 hd o ho;simp only[Bool.and_eq_true,Bool.not_eq_true'] at this;exact⟨fun hm=>(by rw[Bn.2 hm] at this;cases this.1),fun hm=>(by rw[Bn.2 hm] at this;cases this.2)⟩
  let B:bT:=os.map fun o=>(o,(H o).getD ⟨0,0,[]⟩)
  have there:∀o,o∈os->∃t as ck,aK HI o=some (.arr t as)/\o<nx/\H o=some ck/\dh H nx (.arr t as) ck:=fun o ho=>by
   obtain⟨t,as,hc⟩:=a3 o ho;obtain⟨hlt,ck,k1,k2⟩:=hH o _ hc;exact⟨t,as,ck,hc,hlt,k1,k2⟩
  have inv:∀o ck,ah B o=some ck->o∈os/\H o=some ck:=fun o ck ho=>by
   have hm:=mS ho;obtain⟨q,hq,e⟩:=List.mem_map.1 hm;injection e with e1 e2
   subst e1;obtain⟨_,_,c,_,_,k1,_⟩:=there q hq;rw[k1] at e2;exact⟨hq,by rw[k1,<-e2];simp⟩
  have hkeys:B.map (·.1)=os:=by simp[B,Function.comp_def]
  have atB:∀o,o∈os->ah B o=H o:=fun o ho=>by
   obtain⟨_,_,c,_,_,k1,_⟩:=there o ho;have hk:o∈B.map (·.1):=by rw[hkeys];exact ho
   obtain⟨ck,_,q⟩:=LD (H:=H) hk;have:=inv o ck (q Hp.emp);show bK Hp.emp B o=_;rw[q,this.2]
  have npre:∀o,o∈os->ah pre o=none:=fun o ho=>by
   cases hq:ah pre o with
   | none=>rfl
   | some ck=>exact absurd (by rw[<-h4];exact List.mem_map.2 ⟨(o,ck),mS hq,rfl⟩) (wj o ho).1
  have npost:∀o,o∈os->ah post o=none:=fun o ho=>by
   cases hq:ah post o with
   | none=>rfl
   | some ck=>exact absurd (by rw[<-h5];exact List.mem_map.2 ⟨(o,ck),mS hq,rfl⟩) (wj o ho).2
  have hcall:=h2.NV B (fun o ck ho=>by
   obtain⟨i1,i2⟩:=inv o ck ho;obtain⟨t,as,c,_,hlt,k1,k2,k3⟩:=there o i1;rw[i2] at k1;injection k1 with k1;subst k1
   refine⟨npre o i1,npost o i1,hlt,fun x hx c hc=>?_⟩;obtain⟨j,hj,rfl⟩:=List.mem_iff_getElem.1 hx;exact cA.ids t _ _ (k3.2 j (by rw[k3.1];exact hj) hj) c hc) (a2.mono fun d d1 hl=>hl B pre fun o ho=>by
    refine⟨?_,npre o ho⟩;rcases uU B pre o with⟨c,q1,_⟩ | ⟨_,q2⟩
    ·rw[npre o ho] at q1;cases q1
    ·rw[q2,atB o ho])
  have tx:bK H B=H:=by
   funext o
   rcases mf B H o with⟨_,q2⟩ | ⟨ck,q1,q2⟩
   ·exact q2
   ·rw[q2,(inv o ck q1).2]
  have key:∀j,(∃ck,bK H post j=some ck/\j∈wr/\bK H (B++ga post) j=some (gf ck))\/(bK H post j=H j/\j∉wr/\bK H (B++ga post) j=H j):=fun j=>by
   rw[vy,tx];by_cases hw:j∈wr
   ·rw[<-h5] at hw;obtain⟨ck,_,q⟩:=LD (H:=H) hw;rcases Cj post j with⟨c,q1,q2⟩ | ⟨q1,_⟩
    ·exact .inl ⟨c,q1 _,by rw[<-h5];exact hw,q2 _⟩
    ·have e1:=q Hp.emp;rw[q1] at e1;cases e1
   ·have hw':j∉post.map (·.1):=by rw[h5];exact hw
    have hw2:j∉(ga post).map (·.1):=by
     have:(ga post).map (·.1)=post.map (·.1):=by simp[ga,Function.comp_def]
     rw[this];exact hw'
    exact .inr ⟨kb hw',hw,kb hw2⟩
  have sm:k8 (bK H post) nx' (bK H (B++ga post)) nx':=⟨Nat.le_refl _,fun o c2 _ hc=>by
   rcases key o with⟨ck,k1,_,k3⟩ | ⟨k1,_,k3⟩
   ·rw[k3] at hc;injection hc with hc;subst hc;exact⟨ck,k1,rfl,by simp[gf]⟩
   ·rw[k3] at hc;exact⟨c2,by rw[k1];exact hc,rfl,rfl⟩⟩
  refine⟨_,_,_,_,_,hk,B++pre,_,_,nx',hcall,fun o ck ho=>?_,by rw[List.map_append,hkeys,h4],?_,by rw[LW];exact h6,fun j c hj=>?_,(anj h8).same sm,⟨h9.n,fun j c2 hj hnk hc=>?_⟩⟩
  ·rcases uU B pre o with⟨c,q1,q2⟩ | ⟨q1,q2⟩
   ·rw[q2] at ho;injection ho with ho;subst ho;exact h3 o _ q1
   ·rw[q2] at ho;exact(inv o ck ho).2
  ·have:(ga post).map (·.1)=post.map (·.1):=by simp[ga,Function.comp_def]
   rw[List.map_append,hkeys,this,h5]
  ·have hlt:j<H'.length:=by have:=sV _ _ _ hj;rwa [LW] at this
   rw[VK _ _ _ hlt,Nat.zero_add] at hj;cases ho:p5 os j with
   | true=>
    rw[ho] at hj;simp only[cond_true] at hj;have hm:=Bn.1 ho;obtain⟨t,as,ck,q1,q2,q3,q4⟩:=there j hm;rw[q1] at hj;injection hj with hj;subst hj
    rcases key j with⟨_,_,hw,_⟩ | ⟨_,_,k3⟩
    ·exact absurd hw (wj j hm).2
    ·exact⟨by rw[<-h6];exact hlt,ck,by rw[k3];exact q3,q4⟩
   | false=>
    rw[ho] at hj;simp only[cond_false] at hj;cases hw:p5 wr j with
    | true=>
     rw[hw] at hj;simp only[cond_true] at hj;cases hg:aK H' j with
     | none=>rw[hg] at hj;cases hj
     | some c0=>
      rw[hg] at hj;obtain⟨q1,ck,q2,q3⟩:=h7 j c0 hg;rcases key j with⟨c1,k1,_,k3⟩ | ⟨_,hw',_⟩
      ·rw[k1] at q2;injection q2 with q2;subst q2
       exact⟨q1,_,k3,(alx q3 hj).same sm⟩
      ·exact absurd (Bn.1 hw) hw'
    | false=>
     rw[hw] at hj;simp only[cond_false] at hj;obtain⟨q1,ck,q2,q3⟩:=h7 j c hj;rcases key j with⟨_,_,hw',_⟩ | ⟨k1,_,k3⟩
     ·rw[Bn.2 hw'] at hw;cases hw
     ·exact⟨q1,ck,by rw[k3,<-k1];exact q2,q3.same sm⟩
  ·rcases key j with⟨ck,k1,_,k3⟩ | ⟨k1,_,k3⟩
   ·rw[k3] at hc;injection hc with hc;subst hc
    obtain⟨c0,m1,m2,m3⟩:=h9.h j ck hj hnk k1;exact⟨c0,m1,m2,by rw[m3];simp[gf]⟩
   ·rw[k3] at hc;exact⟨c2,hc,rfl,rfl⟩
def tB:GT->List eI
 | .int k=>[.it k]
 | .bool=>[.bo]
 | .str=>[.st]
 | .list t=>[.sl (tB t)]
 | .unit=>[]
 | .pair a b=>tB a++tB b
def vN:(t:GT)->El t->Prop
 | .int k,n=>(Lit.int k n).wf=true
 | .bool,_=>True
 | .str,s=>s.length<=maxLen
 | .list t,as=>as.length<=maxLen/\∀a,a∈as->vN t a
 | .unit,_=>True
 | .pair a b,x=>vN a x.1/\vN b x.2
def KH:(ts:List GT)->aY ts->Prop
 | [],_=>True
 | [t],x=>vN t x
 | t::u::r,x=>vN t x.1/\KH (u::r) x.2
theorem gk.app:∀{a b:List eI} {ds:List DV},gk (a++b) ds->∃d1 d2,ds=d1++d2/\gk a d1/\gk b d2
 | [],b,ds,h=>⟨[],ds,rfl,⟨rfl,fun j hj=>by simp at hj⟩,h⟩
 | s::a,b,ds,h=>by
  obtain⟨d,r,rfl,h1,h2⟩:=gk.cons h;obtain⟨d1,d2,rfl,h3,h4⟩:=gk.app h2;refine⟨d::d1,d2,rfl,⟨by simp[h3.1],fun j hj=>?_⟩,h4⟩;cases j with
  | zero=>exact h1
  | succ j=>exact h3.2 j (by simpa using hj)
theorem gk.one{s:eI}{ds:List DV}(h:gk [s] ds):∃d,ds=[d]/\Ty s d:=by
 obtain⟨d,r,rfl,h1,h2⟩:=h.cons;have:=h2.nil;subst this;exact⟨d,rfl,h1⟩
theorem BD:∀(t:GT) (ds:List DV),gk (tB t) ds->∃x:El t,ds=aN t x/\vN t x
 | .int k,ds,h=>by
  obtain⟨d,rfl,k⟩:=gk.one h;obtain⟨n,rfl,hn⟩:=k.int;exact⟨n,rfl,hn⟩
 | .bool,ds,h=>by
  obtain⟨d,rfl,k⟩:=gk.one h;obtain⟨b,rfl⟩:=k.bool;exact⟨b,rfl,trivial⟩
 | .str,ds,h=>by
  obtain⟨d,rfl,k⟩:=gk.one h;obtain⟨s,rfl,hs⟩:=k.str;exact⟨bl s,rfl,hs⟩
 | .list t,ds,h=>by
  obtain⟨d,rfl,k⟩:=gk.one h;obtain⟨as,rfl,h1,h2⟩:=k.list fun x hx=>BD t x hx;exact⟨as,rfl,h1,h2⟩
 | .unit,ds,h=>⟨(),h.nil,trivial⟩
 | .pair a b,ds,h=>by
  obtain⟨d1,d2,rfl,h1,h2⟩:=gk.app h;obtain⟨x,rfl,hx⟩:=BD a d1 h1;obtain⟨y,rfl,hy⟩:=BD b d2 h2;exact⟨(x,y),rfl,hx,hy⟩
theorem aqu{t:GT}(h:ia t=false):∃s,tB t=[s]:=by
 cases t<;>first | (simp[ia] at h;done) | exact⟨_,rfl⟩
theorem WJ{t:GT}{d:DV}(h:ny (ia t) (tB t) d):∃x:El t,d=jq t x/\vN t x:=by
 unfold jq;cases ha:ia t with
 | true=>
  rw[ha] at h;obtain⟨ds,rfl,k⟩:=h.ag;obtain⟨x,rfl,hx⟩:=BD t ds k;exact⟨x,rfl,hx⟩
 | false=>
  rw[ha] at h;obtain⟨s,hs⟩:=aqu ha;rw[hs] at h;have h1:=h.one;have hL:gk (tB t) [d]:=by
   rw[hs];exact⟨rfl,fun j hj=>by cases(show j=0 by simpa using hj);exact h1⟩
  obtain⟨x,hx1,hx⟩:=BD t [d] hL;refine⟨x,?_,hx⟩;rw[<-hx1]
def L3:List GT->List (Bool×List eI)
 | []=>[]
 | t::r=>(ia t,tB t)::L3 r
theorem S2:∀(ts:List GT) (dargs:List DV),lS (L3 ts) dargs->∃x:aY ts,dargs=fg ts x/\KH ts x
 | [],dargs,h=>⟨(),h.nil,trivial⟩
 | [t],dargs,h=>by
  obtain⟨d,ds,rfl,h1,h2⟩:=lS.cons h;have:=lS.nil h2;subst this;obtain⟨x,rfl,hx⟩:=WJ h1;exact⟨x,rfl,hx⟩
 | t::u::r,dargs,h=>by
  obtain⟨d,ds,rfl,h1,h2⟩:=lS.cons h;obtain⟨x,rfl,hx⟩:=WJ h1;obtain⟨y,rfl,hy⟩:=S2 (u::r) ds h2;exact⟨(x,y),rfl,hx,hy⟩
theorem Zf{P:Program}{f:FuncId}{ts:List GT}{model:aY ts->Option (aY [.bool])}(h:bk P f ts [.bool] model)(hm:∀x,KH ts x->model x=some true){sh:List (Bool×List eI)}(hs:sh=L3 ts)(dargs:List DV)(hd:lS sh dargs):de P f dargs [] 0 (B true) [] 0:=by
 subst hs;obtain⟨x,rfl,hx⟩:=S2 ts dargs hd;exact h x true (hm x hx) 0
theorem au{n:Int}(h1:-9223372036854775808<=n)(h2:n<=9223372036854775807):W n=n:=PW h1 h2
theorem fN{n:Int}{l:Nat}(h:0<=n/\n<l):ae n l=true:=decide_eq_true h
theorem Mf{a b:Int}{l:Nat}(h:0<=a/\a<=b/\b<=l):gz a b l=true:=decide_eq_true h
theorem nB{n b:Nat}(h:n*b<=140737488355328/\n<=9223372036854775807):ba n b=true:=decide_eq_true h
theorem vc{b:Nat}{l c:Int}(h:0<=l/\l<=c/\b*c<=140737488355328/\c<=140737488355328):eH b l c=true:=decide_eq_true h
theorem bH{α β:Type}(a:α)(f:α->Option β):Option.bind (some a) f=f a:=rfl
theorem ag6{n m:Int}(h:1<=m):(if n.tmod m<0 then n.tmod m+m else n.tmod m)=n % m:=by
 have e:=Int.emod_eq_tmod (a:=n) (b:=m);have hb:(m.natAbs:Int)=m:=by omega
 have r1:=Int.emod_nonneg n (show m≠0 by omega);have r2:=Int.emod_lt_of_pos n (show 0<m by omega);by_cases hn:0<=n
 ·have:0<=n.tmod m:=Int.tmod_nonneg m hn;rw[if_neg (by omega)];rw[e];simp[hn]
 ·have hle:n.tmod m<=0:=by
   have h1:=Int.tmod_nonneg m (show 0<=-n by omega);rw[Int.neg_tmod] at h1;omega
  split
  ·rename_i hlt;by_cases hd:m ∣ n
   ·have:n.tmod m=0:=Int.tmod_eq_zero_of_dvd hd;omega
   ·rw[e,if_neg (by simp[hn,hd]),hb]
  ·have h0:n.tmod m=0:=by omega
   rw[h0];exact(Int.emod_eq_zero_of_dvd (Int.dvd_of_tmod_eq_zero h0)).symm
section
variable {α:Type}
def jv(base:Nat)(gs:Nat->Nat)(rows:List (List α)):List (List DV):=(List.range rows.length).map fun p=>[.own (base+p) (gs p) 0 (rows.getD p []).length]
theorem vU(base:Nat)(gs:Nat->Nat)(rows:List (List α)):(jv base gs rows).length=rows.length:=by simp[jv]
theorem Iq{base:Nat}{gs:Nat->Nat}{rows:List (List α)}{p:Nat}(hp:p<rows.length):(jv base gs rows)[p]? =some [.own (base+p) (gs p) 0 (rows.getD p []).length]:=by
 simp[jv,hp]
theorem k9{base:Nat}{gs:Nat->Nat}{rows:List (List α)}{p:Nat}(hp:p<rows.length):(jv base gs rows).getD p []=[.own (base+p) (gs p) 0 (rows.getD p []).length]:=by
 rw[List.getD_eq_getElem?_getD,Iq hp];rfl
structure fa (e:α->List DV) (sz:Nat) (H:Hp) (o g base:Nat) (gs:Nat->Nat) (rows:List (List α)):Prop where
 top:H o=some ⟨g,1,jv base gs rows⟩
 row:∀p,p<rows.length->H (base+p)=some ⟨gs p,sz,(rows.getD p []).map e⟩
def jA(sz:Nat)(H:Hp)(nx n:Nat):Hp:=fun j=>if nx<=j/\j<nx+n then some ⟨0,sz,[]⟩ else H j
theorem UW{sz:Nat}{cx:Cx}{T:Nat->DV}{H:Hp}{nx:Nat}:∀n,Wk cx ⟨T,H,nx⟩ ⟨T,jA sz H nx n,nx+n⟩
 | 0=>by
  have:jA sz H nx 0=H:=by funext j;unfold jA;rw[if_neg (by omega)]
  rw[this];exact Wk.refl _ _
 | n+1=>by
  refine(UW (sz:=sz) n).trans ?_;have:=Wk.ghost (cx:=cx) (T:=T) (H:=jA sz H nx n) (nx:=nx+n) sz;have e:(jA sz H nx n).put (nx+n) (some ⟨0,sz,[]⟩)=jA sz H nx (n+1):=by
   funext j;unfold Hp.put jA
   by_cases h:j=nx+n
   ·rw[if_pos h,if_pos (by omega)]
   ·rw[if_neg h];by_cases h2:nx<=j/\j<nx+n
    ·rw[if_pos h2,if_pos (by omega)]
    ·rw[if_neg h2,if_neg (by omega)]
  rw[e] at this;exact this
theorem Wk.cells{cx:Cx}{s:St}{H':Hp}(hn:cx.nb<=s.nx)(sh:Shape s H' id s.nx)
  (hc:∀j ck' ck,H' j=some ck'->s.H j=some ck->ck'=ck\/∀i (h1:i<ck'.xs.length) (h2:i<ck.xs.length),ck'.xs[i].length=ck.xs[i].length/\∀c (h3:c<ck'.xs[i].length) (h4:c<ck.xs[i].length),Tr s H' id s.nx ck.xs[i][c] ck'.xs[i][c])
  {T':Nat->DV} (ht:∀t,Tr s H' id s.nx (s.T t) (T' t)):Wk cx s ⟨T',H',s.nx⟩:=by
 refine Wk.tr ⟨sh,fun j ck' ck h1 h2 i k1 k2=>?_,fun j j' _ _ _ _ e=>e,hn,fun _ _=>rfl⟩ ht;rcases hc j ck' ck h1 h2 with rfl | h
 ·exact⟨rfl,fun c _ _=>sI sh⟩
 ·exact h i k1 k2
theorem fa.start{e:α->List DV}{sz:Nat}{cx:Cx}{T:Nat->DV}{H:Hp}{nx o g n:Nat}(hn:cx.nb<=nx)(ho:o<nx)(hH:H o=some ⟨g,1,List.replicate n [.ab true []]⟩):
  ∃H',Wk cx ⟨T,H,nx⟩ ⟨T,H',nx+n⟩/\fa e sz H' o g nx (fun _=>0) (List.replicate n [])/\∀j,j<nx->j≠o->H' j=H j:=by
 have hG:jA sz H nx n o=some ⟨g,1,List.replicate n [.ab true []]⟩:=by unfold jA;rw[if_neg (by omega)];exact hH
 refine⟨iL ((jA sz H nx n).put o (some ⟨g,1,jv nx (fun _=>0) (List.replicate n ([]:List α))⟩)) (nx+n),(UW (sz:=sz) n).trans ?_,⟨?_,fun p hp=>?_⟩,fun j hj hjo=>?_⟩
 ·have sh:Shape ⟨T,jA sz H nx n,nx+n⟩ (iL ((jA sz H nx n).put o (some ⟨g,1,jv nx (fun _=>0) (List.replicate n ([]:List α))⟩)) (nx+n)) id (nx+n):=⟨fun j ck' hj=>by
   obtain⟨h1,h2⟩:=mL hj;refine⟨h1,?_⟩;by_cases e:j=o
   ·subst e;rw[Hp.b9] at h2;injection h2 with h2;subst h2
    exact⟨_,hG,rfl,rfl,by simp[vU]⟩
   ·rw[Hp.aS _ _ _ e] at h2;exact⟨ck',h2,rfl,rfl,rfl⟩⟩
  refine Wk.cells (s:=⟨T,jA sz H nx n,nx+n⟩) (by show cx.nb<=nx+n;omega) sh (fun j ck' ck h1 h2=>?_) (fun t=>sI sh);obtain⟨h3,h4⟩:=mL h1;by_cases e:j=o
  ·subst e;right
   rw[Hp.b9] at h4;injection h4 with h4;subst h4
   have h2:jA sz H nx n j=some ck:=h2;rw[hG] at h2;injection h2 with h2;subst h2
   intro i k1 k2;have hi:i<n:=by simpa using k2
   have e1:(jv nx (fun _=>0) (List.replicate n ([]:List α)))[i]=[.own (nx+i) 0 0 0]:=by
    simp[jv,hi]
   simp only[e1,List.getElem_replicate,List.length_cons,List.length_nil,true_and];intro c k3 k4;have:c=0:=by omega
   subst this;exact fun ps M w x hR hv=>F9 hv (by show nx+i<nx+n;omega)
  ·rw[Hp.aS _ _ _ e] at h4;left
   have h2:jA sz H nx n j=some ck:=h2;rw[h4] at h2;injection h2
 ·unfold iL;rw[if_pos (by omega),Hp.b9]
 ·have hp':p<n:=by simpa using hp
  unfold iL;rw[if_pos (by omega),Hp.aS _ _ _ (by omega)];unfold jA;rw[if_pos (by omega)];simp[hp']
 ·unfold iL;rw[if_pos (by omega),Hp.aS _ _ _ hjo];unfold jA;rw[if_neg (by omega)]
def eW(rows:List (List α))(p:Nat)(x:α):List (List α):=rows.set p (rows.getD p []++[x])
theorem gZ(rows:List (List α))(p:Nat)(x:α):(eW rows p x).length=rows.length:=by simp[eW]
theorem fa.add{e:α->List DV}{sz:Nat}{H:Hp}{o g base:Nat}{gs:Nat->Nat}{rows:List (List α)}(h:fa e sz H o g base gs rows){p:Nat}(hp:p<rows.length)(x:α)(hob:o<base):
  fa e sz ((H.put (base+p) (some ⟨gs p+1,sz,(rows.getD p []).map e++[e x]⟩)).put o (some ⟨g,1,(jv base gs rows).set p [.own (base+p) (gs p+1) 0 ((rows.getD p []).length+1)]⟩)) o g base (fun q=>if q=p then gs p+1 else gs q) (eW rows p x):=by
 have getS:∀q,q<rows.length->(eW rows p x).getD q []=if q=p then rows.getD p []++[x] else rows.getD q []:=fun q hq=>by
  unfold eW;rw[List.getD_eq_getElem?_getD,List.getElem?_set];by_cases e:q=p
  ·subst e;rw[if_pos rfl,if_pos hq,if_pos rfl];rfl
  ·rw[if_neg (fun e'=>e e'.symm),if_neg e,List.getD_eq_getElem?_getD]
 refine⟨?_,fun q hq=>?_⟩
 ·rw[Hp.b9];congr 2
  refine List.ext_getElem? fun q=>?_;rw[List.getElem?_set,vU];by_cases hq:q<rows.length
  ·have e0:=Iq (base:=base) (gs:=fun q=>if q=p then gs p+1 else gs q) (rows:=eW rows p x) (p:=q) (by rw[gZ];exact hq);rw[e0,getS q hq];by_cases e:q=p
   ·subst e;rw[if_pos rfl,if_pos hq,if_pos rfl,if_pos rfl];simp
   ·rw[if_neg (fun e'=>e e'.symm),if_neg e,if_neg e,Iq hq]
  ·have e0:(jv base (fun q=>if q=p then gs p+1 else gs q) (eW rows p x))[q]? =none:=List.getElem?_eq_none (by rw[vU,gZ];omega);rw[e0,if_neg (by omega),List.getElem?_eq_none (by rw[vU];omega)]
 ·rw[gZ] at hq;rw[Hp.aS _ _ _ (by omega),getS q hq];by_cases e:q=p
  ·subst e;rw[Hp.b9,if_pos rfl,if_pos rfl];simp
  ·rw[Hp.aS _ _ _ (by omega),if_neg e,if_neg e];exact h.row q hq
theorem fa.af{e:α->List DV}{sz:Nat}{H H':Hp}{o g base:Nat}{gs:Nat->Nat}{rows:List (List α)}(h:fa e sz H o g base gs rows)(q:∀j,j<base+rows.length->H' j=H j)(hob:o<base):fa e sz H' o g base gs rows:=
 ⟨by rw[q o (by omega)];exact h.top,fun p hp=>by rw[q _ (by omega)];exact h.row p hp⟩
def wE(r:List Int):List (List DV):=r.map fun x=>[I x]
theorem Wk.cut{cx:Cx}{T T':Nat->DV}{H H1:Hp}{nx nx0:Nat}(hn:cx.nb<=nx0)(hx:nx0<=nx)(h1:∀j ck,H1 j=some ck->j<nx0/\H j=some ck/\∀x∈ck.xs,∀c∈x,bB (fun j=>j<nx0) c)
  (ht:∀q,T' q=.any\/T' q=T q/\bB (fun j=>j<nx0) (T q)):Wk cx ⟨T,H,nx⟩ ⟨T',H1,nx0⟩:=by
 have sh:Shape ⟨T,H,nx⟩ H1 id nx0:=⟨fun j ck' hj=>⟨(h1 j ck' hj).1,ck',(h1 j ck' hj).2.1,rfl,rfl,rfl⟩⟩;have tr:∀d,bB (fun j=>j<nx0) d->Tr ⟨T,H,nx⟩ H1 id nx0 d d:=fun d hd ps M w x hR hv=>
  hv.ke hd ⟨fun j hj _=>hj,fun j hj _ ck' hk=>⟨ck',(h1 j ck' hk).2.1,.inr ⟨rfl,rfl,Nat.le_refl _,rfl⟩⟩,fun b hb=>.inl (sh.mu hb),fun _ _ _=>rfl⟩
 refine Wk.tr ⟨sh,fun j ck' ck k1 k2 i k3 k4=>?_,fun j j' _ _ _ _ e=>e,hn,fun _ _=>rfl⟩ (fun q=>?_)
 ·obtain⟨_,k5,k6⟩:=h1 j ck' k1;have k2:H j=some ck:=k2;rw[k5] at k2;cases k2;exact⟨rfl,fun c k7 _=>tr _ (k6 _ (List.getElem_mem k3) _ (List.getElem_mem k7))⟩
 ·rcases ht q with e | ⟨e,hi⟩
  ·rw[e];exact fun ps M w x _ _=>.any x
  ·rw[e];exact tr _ hi
def kJ(e:α->List DV)(H:Hp)(o g base:Nat)(rows:List (List α))(nx:Nat):Hp:=fun j=>if j<nx then(if base<=j then none else if j=o then some ⟨g,1,rows.map fun r=>[.ab false (r.map e)]⟩ else H j) else none
theorem Oo{e:α->List DV}{H:Hp}{o g base:Nat}{rows:List (List α)}{nx j:Nat}{ck:Ck}(h:kJ e H o g base rows nx j=some ck):j<nx/\j<base/\(j=o/\ck=⟨g,1,rows.map fun r=>[.ab false (r.map e)]⟩\/j≠o/\H j=some ck):=by
 unfold kJ at h;by_cases h1:j<nx
 ·rw[if_pos h1] at h;by_cases h2:base<=j
  ·rw[if_pos h2] at h;cases h
  ·rw[if_neg h2] at h;by_cases h3:j=o
   ·rw[if_pos h3] at h;injection h with h;exact⟨h1,by omega,.inl ⟨h3,h.symm⟩⟩
   ·rw[if_neg h3] at h;exact⟨h1,by omega,.inr ⟨h3,h⟩⟩
 ·rw[if_neg h1] at h;cases h
theorem fa.lists{e:α->List DV}{sz:Nat}{cx:Cx}{T:Nat->DV}{H:Hp}{nx o g base:Nat}{gs:Nat->Nat}{rows:List (List α)}(h:fa e sz H o g base gs rows)(hz:0<sz)(fl:∀a,∀c∈e a,bB (fun _=>False) c)(hn:cx.nb<=nx)(hob:o<base)(hx:base+rows.length<=nx):
  Wk cx ⟨T,H,nx⟩ ⟨T,kJ e H o g base rows nx,nx⟩:=by
 have flat:∀r:List α,∀x∈r.map e,∀c∈x,bB (fun _=>False) c:=fun r x hx c hc=>by
  obtain⟨y,_,rfl⟩:=List.mem_map.1 hx;exact fl y c hc
 have top:=h.top;have sh:Shape ⟨T,H,nx⟩ (kJ e H o g base rows nx) id nx:=⟨fun j ck' hj=>by
  obtain⟨h1,_,⟨rfl,rfl⟩ | ⟨h3,h4⟩⟩:=Oo hj
  ·exact⟨h1,_,top,rfl,rfl,by simp[vU]⟩
  ·exact⟨h1,ck',h4,rfl,rfl,rfl⟩⟩
 refine Wk.cells (s:=⟨T,H,nx⟩) hn sh (fun j ck' ck h1 h2=>?_) (fun t=>sI sh);have h2:H j=some ck:=h2;obtain⟨_,_,⟨rfl,rfl⟩ | ⟨h3,h4⟩⟩:=Oo h1
 ·right
  rw[top] at h2;injection h2 with h2;subst h2
  intro i k1 k2;have hi:i<rows.length:=by simpa using k1
  have e1:(jv base gs rows)[i]=[.own (base+i) (gs i) 0 (rows.getD i []).length]:=by
   have:=Iq (base:=base) (gs:=gs) hi;rw[List.getElem?_eq_getElem (by rw[vU];exact hi)] at this;injection this
  simp only[e1,List.getElem_map,List.length_cons,List.length_nil,true_and];intro c k3 k4;have:c=0:=by omega
  subst this;have key:=xM (s:=⟨T,H,nx⟩) (H':=kJ e H j g base rows nx) (o:=base+i) (ck:=⟨gs i,sz,(rows.getD i []).map e⟩) (h.row i hi) hz (flat _) sh (by unfold kJ;rw[if_pos (by omega),if_pos (by omega)]) (gs i) 0 (rows.getD i []).length rfl (by simp);have e2:(((rows.getD i []).map e).drop 0).take (rows.getD i []).length=rows[i].map e:=by
   have:rows.getD i []=rows[i]:=by simp[hi]
   rw[this,List.drop_zero];exact List.take_of_length_le (by simp)
  simp only[e2] at key;exact key
 ·left
  rw[h4] at h2;injection h2
theorem Wk.M7{cx:Cx}{T T':Nat->DV}{H H':Hp}{nx o g sz:Nat}{xs:List (List DV)}(hH:H o=some ⟨g,sz,xs⟩)(hz:0<sz)(flat:∀x∈xs,∀c∈x,bB (fun _=>False) c)(hn:cx.nb<=nx)
  (hT:∀q,T' q=T q\/T q=.own o g 0 xs.length/\T' q=.ab false xs)
  (hH':∀j ck',H' j=some ck'->j<nx/\j≠o/\∃ck,H j=some ck/\ck'.gen=ck.gen/\ck'.sz=ck.sz/\ck'.xs.length=ck.xs.length/\∀i (h1:i<ck'.xs.length) (h2:i<ck.xs.length),ck'.xs[i].length=ck.xs[i].length/\∀c (h3:c<ck'.xs[i].length) (h4:c<ck.xs[i].length),ck'.xs[i][c]=ck.xs[i][c]\/ck.xs[i][c]=.own o g 0 xs.length/\ck'.xs[i][c]=.ab false xs):
  Wk cx ⟨T,H,nx⟩ ⟨T',H',nx⟩:=by
 have sh:Shape ⟨T,H,nx⟩ H' id nx:=⟨fun j ck' hj=>by
  obtain⟨h1,_,ck,h2,h3,h4,h5,_⟩:=hH' j ck' hj;exact⟨h1,ck,h2,h3,h4,h5⟩⟩
 have hno:H' o=none:=by
  cases hq:H' o with
  | none=>rfl
  | some ck'=>exact absurd rfl (hH' o ck' hq).2.1
 have key:=xM hH hz flat sh hno g 0 xs.length rfl (by simp);have e2:(xs.drop 0).take xs.length=xs:=by rw[List.drop_zero];exact List.take_of_length_le (Nat.le_refl _)
 simp only[e2] at key;have tr:∀d d',d'=d\/d=.own o g 0 xs.length/\d'=.ab false xs->Tr ⟨T,H,nx⟩ H' id nx d d':=by
  rintro d d' (rfl | ⟨rfl,rfl⟩)
  ·exact sI sh
  ·exact key
 refine Wk.cells hn sh (fun j ck' ck h1 h2=>.inr fun i k1 k2=>?_) (fun q=>tr _ _ (hT q));obtain⟨_,_,ck2,h3,_,_,_,h4⟩:=hH' j ck' h1;have h2:H j=some ck:=h2;rw[h3] at h2;cases h2;exact⟨(h4 i k1 k2).1,fun c k3 k4=>tr _ _ ((h4 i k1 k2).2 c k3 k4)⟩
theorem fa.freeze{e:α->List DV}{sz:Nat}{cx:Cx}{T:Nat->DV}{H H1:Hp}{nx nx0 o g base n t:Nat}{gs:Nat->Nat}{rows:List (List α)}(h:fa e sz H o g base gs rows)(hz:0<sz)(fl:∀a,∀c∈e a,bB (fun _=>False) c)(hn:cx.nb<=nx0)(ho:nx0<=o)(hob:o<base)(hx:base+rows.length<=nx)
  (hT:T t=.own o g 0 rows.length) (h1:∀j ck,H1 j=some ck->j<nx0/\H j=some ck/\∀x∈ck.xs,∀c∈x,bB (fun j=>j<nx0) c) (T0:Nat->DV) (h0:∀q,T0 q=.any\/T0 q=T q/\q≠t/\bB (fun j=>j<nx0) (T q)):
  Wk cx ⟨T,H,nx⟩ ⟨cN T0 t (.ab false (rows.map fun r=>[.ab false (r.map e)])),H1,nx0⟩:=by
 have flat:∀r:List α,∀x∈r.map e,∀c∈x,bB (fun _=>False) c:=fun r x hx c hc=>by
  obtain⟨y,_,rfl⟩:=List.mem_map.1 hx;exact fl y c hc
 have flat2:∀x∈rows.map (fun r=>[DV.ab false (r.map e)]),∀c∈x,bB (fun _=>False) c:=fun x hx c hc=>by
  obtain⟨r,_,rfl⟩:=List.mem_map.1 hx;rw[List.mem_singleton.1 hc];exact .ab _ _ (flat r)
 have hHF:kJ e H o g base rows nx o=some ⟨g,1,rows.map fun r=>[.ab false (r.map e)]⟩:=by
  unfold kJ;rw[if_pos (by omega),if_neg (by omega),if_pos rfl]
 refine(h.lists hz fl (by omega) hob hx).trans ((Wk.M7 (T':=cN T t (.ab false (rows.map fun r=>[.ab false (r.map e)]))) (H':=fun j=>if j=o then none else kJ e H o g base rows nx j) hHF Nat.zero_lt_one flat2 (by omega) (fun q=>?_) (fun j ck' hj=>?_)).trans ?_)
 ·simp only[cN];by_cases k:q=t
  ·subst k;rw[if_pos rfl];exact .inr ⟨by rw[hT];simp,rfl⟩
  ·rw[if_neg k];exact .inl rfl
 ·split at hj
  ·cases hj
  ·rename_i hne;exact⟨(Oo hj).1,hne,ck',hj,rfl,rfl,rfl,fun i _ _=>⟨rfl,fun c _ _=>.inl rfl⟩⟩
 refine Wk.cut hn (by omega) (fun j ck hj=>?_) (fun q=>?_)
 ·obtain⟨k1,k2,k3⟩:=h1 j ck hj;refine⟨k1,?_,k3⟩;show(if j=o then none else kJ e H o g base rows nx j)=_;rw[if_neg (by omega)];unfold kJ;rw[if_pos (by omega),if_neg (by omega),if_neg (by omega)];exact k2
 ·simp only[cN];by_cases k:q=t
  ·rw[if_pos k,if_pos k];exact .inr ⟨rfl,.ab _ _ fun x hx c hc=>(flat2 x hx c hc).kF fun _ h=>h.elim⟩
  ·rw[if_neg k,if_neg k];rcases h0 q with h0 | ⟨h1,_,h3⟩
   ·exact .inl h0
   ·exact .inr ⟨h1,h3⟩
end
abbrev pP:Int->List DV:=fun x=>[I x]
theorem agm(a:Int):∀c∈pP a,bB (fun _=>False) c:=fun c hc=>by rw[List.mem_singleton.1 hc];exact .v _
section rx
variable {P:Program} {r:List RI} {lg:Lg} {T:Nat->DV} {H:Hp} {nx:Nat} {K:Lg->St->Prop}
theorem dS(k:K lg ⟨T,H,nx⟩):dz P [] lg ⟨T,H,nx⟩ K:=k
theorem cf{t:Nat}{op:cR}{d:DV}(h:ev op true T H nx=some (d,.no))(k:dz P r (lg++[(cF op true T,[])]) ⟨cN T t d,H,nx⟩ K):dz P (⟨some t,op,none⟩::r) lg ⟨T,H,nx⟩ K:=
 ⟨⟨d,[],nx,cF op true T⟩,.inl ⟨.no,h,rfl,rfl,rfl⟩,k⟩
theorem n8{t:Nat}{op:cR}{d:DV}{ck:Ck}(h:ev op true T H nx=some (d,.al ck))(k:dz P r (lg++[(cF op true T,[nx])]) ⟨cN T t d,H.put nx (some ck),nx+1⟩ K):dz P (⟨some t,op,none⟩::r) lg ⟨T,H,nx⟩ K:=
 ⟨⟨d,[(nx,ck)],nx+1,cF op true T⟩,.inl ⟨.al ck,h,rfl,rfl,rfl⟩,k⟩
theorem VN{t:Nat}{op:cR}{d:DV}{o:Nat}{ck:Ck}(h:ev op true T H nx=some (d,.wr o ck))(k:dz P r (lg++[(cF op true T,[o])]) ⟨cN T t d,H.put o (some ck),nx⟩ K):dz P (⟨some t,op,none⟩::r) lg ⟨T,H,nx⟩ K:=
 ⟨⟨d,[(o,ck)],nx,cF op true T⟩,.inl ⟨.wr o ck,h,rfl,rfl,rfl⟩,k⟩
theorem j7{op:cR}{d:DV}{o:Nat}{ck:Ck}(h:ev op true T H nx=some (d,.wr o ck))(k:dz P r (lg++[(cF op true T,[o])]) ⟨T,H.put o (some ck),nx⟩ K):dz P (⟨none,op,none⟩::r) lg ⟨T,H,nx⟩ K:=
 ⟨⟨d,[(o,ck)],nx,cF op true T⟩,.inl ⟨.wr o ck,h,rfl,rfl,rfl⟩,k⟩
theorem ji{t:Nat}{op:cR}{d:DV}{rd:List Nat}(h:ev op true T H nx=some (d,.no))(hr:cF op true T=rd)(k:dz P r (lg++[(rd,[])]) ⟨cN T t d,H,nx⟩ K):dz P (⟨some t,op,none⟩::r) lg ⟨T,H,nx⟩ K:=cf h (by rw[hr];exact k)
theorem Bc{t:Nat}{op:cR}{d:DV}{o:Nat}{ck:Ck}{rd:List Nat}(h:ev op true T H nx=some (d,.wr o ck))(hr:cF op true T=rd)(k:dz P r (lg++[(rd,[o])]) ⟨cN T t d,H.put o (some ck),nx⟩ K):dz P (⟨some t,op,none⟩::r) lg ⟨T,H,nx⟩ K:=VN h (by rw[hr];exact k)
theorem yc{sz by':Nat}{x y:RO}{o g lo n:Nat}{xs news:List (List DV)}(hx:un true (x.get T)=.own o g lo n)(hy:un true (y.get T)=.ab true news)(hH:H o=some ⟨g,sz,xs⟩)(ha:news.all (fun c=>c.length==sz)=true)(h1:(n+news.length)*by'<=140737488355328/\n+news.length<=9223372036854775807):
  ev (.app sz by' x y) true T H nx=some (.own o (g+1) 0 (n+news.length),.wr o ⟨g+1,sz,(xs.drop lo).take n++news⟩):=by
 rw[aal,hx,hy];simp only[j2,kg,hH];rw[if_pos ha,if_pos ⟨trivial,trivial,h1.1,h1.2⟩]
theorem EJ{sz by':Nat}{z:List DV}{x y:RO}{l c:Int}(hx:un true (x.get T)=I l)(hy:un true (y.get T)=I c)(h:0<=l/\l<=c/\by'*c<=140737488355328/\c<=140737488355328):
  ev (.fw sz by' z x y) true T H nx=some (.own nx 0 0 l.toNat,.al ⟨0,sz,List.replicate l.toNat z⟩):=by
 simp only[ev,hx,hy];rw[if_pos h]
theorem sO{o g k p:Nat}{sz:Nat}{xs:List (List DV)}{x y:RO}(h:un true (x.get T)=.own o g 0 k)(hi:un true (y.get T)=I p)(hH:H o=some ⟨g,sz,xs⟩)(hl:p<k):ev (.cP sz x y) true T H nx=some (.ptr o g p 0,.no):=by
 have:=ar1 (nx:=nx) h hi hH (by omega) (by omega);rwa [Int.toNat_natCast,Nat.zero_add] at this
theorem Dy{x y:RO}{i:Nat}(hx:un true (x.get T)=I i)(hy:un true (y.get T)=I 1)(h:i<9223372036854775807):ev (.bin .add x y) true T H nx=some (I ((i+1:Nat):Int),.no):=by
 rw[WW hx hy,PW (by omega) (by omega)];rfl
end rx
def xw(i x:Int)(l:List (List Int)):Option (List (List Int)):=bif ae i l.length then bif ba ((l.getD i.toNat []).length+1) 8 then some (eW l i.toNat x) else none else none
theorem XE{i x:Int}{l l':List (List Int)}(h:xw i x l=some l'):(0<=i/\i<l.length)/\(((l.getD i.toNat []).length+1)*8<=140737488355328/\(l.getD i.toNat []).length+1<=9223372036854775807)/\l'=eW l i.toNat x:=by
 unfold xw at h;cases h1:ae i l.length with
 | false=>rw[h1] at h;cases h
 | true=>
  rw[h1,cond_true] at h;cases h2:ba ((l.getD i.toNat []).length+1) 8 with
  | false=>rw[h2] at h;cases h
  | true=>
   rw[h2,cond_true] at h;injection h with h;exact⟨of_decide_eq_true h1,of_decide_eq_true h2,h.symm⟩
theorem Ya:∀(as:List Int),aX (cA (.int .i64)) as (wE as):=fun as=>⟨by simp[wE],fun j h1 h2=>by simp[wE,cA,I]⟩
theorem ayq{H:Hp}{nx:Nat}(rows:List (List Int)):Rel H nx (.ab false (.list (.int .i64)) rows) (.ab false (rows.map fun r=>[.ab false (wE r)])):=
 .ab _ _ _ _ _ (fun e=>e) ⟨by simp,fun j h1 h2=>by simp only[List.getElem_map];exact⟨false,_,rfl,Ya _⟩⟩
theorem Zr{si:SI}{s:St}(hs:SR si s){gb:Nat}{f1 f2:Bool}{t1 t2:GT}{a1:List (El t1)}{a2:List (El t2)}(hH:si.H=[some (.box gb [.ab f1 t1 a1,.ab f2 t2 a2])]):
  ∃ck,s.H 0=some ck/\s.nx=1/\(∃x1 x2:Bool×List (List DV),ck=⟨gb,2,[[.ab x1.1 x1.2,.ab x2.1 x2.2]]⟩/\aX (cA t1) a1 x1.2/\aX (cA t2) a2 x2.2)/\(∀x∈ck.xs,∀c∈x,bB (fun j=>j<1) c)/\∀H',H' 0=some ck->jw si.H H' 1:=by
 have hn:s.nx=1:=by rw[<-hs.n,hH];rfl
 obtain⟨_,ck,h1,h2,ds,h3,h4,h5⟩:=hs.h 0 (.box gb [.ab f1 t1 a1,.ab f2 t2 a2]) (by rw[hH];rfl);obtain⟨d1,ds',rfl,q1,q2⟩:=h4.dD;obtain⟨d2,rfl,q3⟩:=q2.p7;obtain⟨g1,x1,rfl,k1,k2⟩:=q1.nR;obtain⟨g2,x2,rfl,k3,k4⟩:=q3.nR;have fl:∀(t:GT) (a:List (El t)) (x:List (List DV)) (g:Bool),aX (cA t) a x->bB (fun j=>j<1) (.ab g x):=fun t a x g hb=>.ab _ _ fun y hy c hc=>by
  obtain⟨j,hj,rfl⟩:=List.mem_iff_getElem.1 hy;exact(cA.ids t _ _ (hb.2 j (by rw[hb.1];exact hj) hj) c hc).kF fun _ h=>h.elim
 have e:ck=⟨gb,2,[[.ab g1 x1,.ab g2 x2]]⟩:=by
  cases ck;simp only at h2 h3 h5;subst h2;subst h3;subst h5;rfl
 refine⟨ck,h1,hn,⟨(g1,x1),(g2,x2),e,k2,k4⟩,fun x hx c hc=>?_,fun H' hH' o c hc=>?_⟩
 ·rw[h3,List.mem_singleton] at hx;subst hx;rcases List.mem_cons.1 hc with rfl | hc
  ·exact fl _ _ _ _ k2
  ·rw[List.mem_singleton.1 hc];exact fl _ _ _ _ k4
 ·rw[hH] at hc;cases o with
  | zero=>
   simp only[aK] at hc;cases hc;exact⟨Nat.zero_lt_one,ck,hH',h2,_,h3,(aX.one (.ab _ _ _ _ _ k3 k4)).cons (.ab _ _ _ _ _ k1 k2),h5⟩
  | succ o=>simp[aK] at hc
abbrev Zm:GT:=.pair (.int .i64) .bool
abbrev po:GT:=.pair (.int .i64) (.pair (.int .i64) (.pair (.int .i64) (.pair (.int .i64) (.pair .bool (.pair .bool (.pair (.pair (.int .i64) (.int .i64)) (.pair (.int .i64) (.int .i64))))))))
def pE:List (El po)->List (List Int)->Option (List (List Int))
 | [],l=>some l
 | r::rs,l=>bif r.2.2.2.2.2.1 then pE rs l else Option.bind (xw r.1 r.2.1 l) fun l=>Option.bind (xw r.2.1 r.1 l) fun l=>pE rs l
def Ev(n:Nat)(rs:List (El po)):Option (List (List Int)):=bif eH 24 n n && decide (rs.length<9223372036854775807) then pE rs (List.replicate n []) else none
def oi(r:El po):List DV:=[I r.1,I r.2.1,I r.2.2.1,I r.2.2.2.1,B r.2.2.2.2.1,B r.2.2.2.2.2.1,I r.2.2.2.2.2.2.1.1,I r.2.2.2.2.2.2.1.2,I r.2.2.2.2.2.2.2.1,I r.2.2.2.2.2.2.2.2]
theorem aeq{r:El po}{ds:List DV}(h:cA po r ds):ds=oi r:=by
 obtain⟨d1,e1,rfl,h1,d2,e2,rfl,h2,d3,e3,rfl,h3,d4,e4,rfl,h4,d5,e5,rfl,h5,d6,e6,rfl,h6,d7,e7,rfl,⟨d8,e8,rfl,h8,h9⟩,d10,e10,rfl,h10,h11⟩:=h;rw[show d1=_ from h1,show d2=_ from h2,show d3=_ from h3,show d4=_ from h4,show d5=_ from h5,show d6=_ from h6,show d8=_ from h8,show e8=_ from h9,show d10=_ from h10,show e10=_ from h11];rfl
theorem Wr:∀{as:List (El po)} {xs:List (List DV)},aX (cA po) as xs->xs=as.map oi
 | [],xs,h=>h.dY
 | a::as,xs,h=>by
  obtain⟨b,bs,rfl,h1,h2⟩:=h.dD;rw[aeq h1,Wr h2];rfl
def Mt:AC:=(.rg [⟨(some 15),(.bO 0 (.t 1)),none⟩,⟨(some 16),(.load false 1 (.t 15)),none⟩,⟨(some 17),(.len (.t 16)),none⟩,⟨(some 18),(.fw 1 24 [(.ab true [])] (.t 17) (.t 17)),none⟩,⟨(some 4),(.bS (.t 18)),none⟩] none)
def BZ:AC:=(.seq (.rg [⟨(some 23),(.bin .lss (.t 22) (.t 21)),none⟩] none) (.seq (.cond (.t 23) .skip (.exit 0)) (.seq (.block 1 (.seq (.rg [⟨(some 24),(.cP 10 (.t 20) (.t 22)),none⟩,⟨(some 25),(.load true 10 (.t 24)),none⟩,⟨(some 6),(.alloc [(I 0),(I 0),(I 0),(I 0),(B
 false),(B false),(I 0),(I 0),(I 0),(I 0)]),none⟩,⟨none,(.store 10 (.t 6) (.t 25)),none⟩] none) (.seq (.rg [⟨(some 26),(.bO 5 (.t 6)),none⟩,⟨(some 27),(.load false 1 (.t 26)),none⟩,⟨(some 28),(.un .not (.t 27)),none⟩] none) (.cond (.t 28) (.seq (.rg [⟨(some 29),(.bS (.t 4)),
 none⟩,⟨(some 30),(.bO 0 (.t 6)),none⟩,⟨(some 31),(.load false 1 (.t 30)),none⟩,⟨(some 32),(.bS (.t 4)),none⟩,⟨(some 33),(.bO 0 (.t 6)),none⟩,⟨(some 34),(.load false 1 (.t 33)),none⟩,⟨(some 35),(.cP 1 (.t 32) (.t 34)),none⟩,⟨(some 36),(.load false 1 (.t 35)),none⟩,
 ⟨(some 37),(.bO 1 (.t 6)),none⟩,⟨(some 38),(.load false 1 (.t 37)),none⟩,⟨(some 39),(.g9 false 1 [(I 0)] 1 [(0,(.t 38))]),none⟩,⟨(some 40),(.app 1 8 (.t 36) (.t 39)),none⟩,⟨(some 41),(.cP 1 (.t 29) (.t 31)),none⟩,⟨none,(.store 1 (.t 41) (.t 40)),none⟩] (some [(1,11),(2,
 11)])) (.rg [⟨(some 42),(.bS (.t 4)),none⟩,⟨(some 43),(.bO 1 (.t 6)),none⟩,⟨(some 44),(.load false 1 (.t 43)),none⟩,⟨(some 45),(.bS (.t 4)),none⟩,⟨(some 46),(.bO 1 (.t 6)),none⟩,⟨(some 47),(.load false 1 (.t 46)),none⟩,⟨(some 48),(.cP 1 (.t 45) (.t 47)),none⟩,⟨(some
 49),(.load false 1 (.t 48)),none⟩,⟨(some 50),(.bO 0 (.t 6)),none⟩,⟨(some 51),(.load false 1 (.t 50)),none⟩,⟨(some 52),(.g9 false 1 [(I 0)] 1 [(0,(.t 51))]),none⟩,⟨(some 53),(.app 1 8 (.t 49) (.t 52)),none⟩,⟨(some 54),(.cP 1 (.t 42) (.t 44)),none⟩,⟨none,(.store 1 (.t 54)
 (.t 53)),none⟩] (some [(1,11),(2,11)]))) .skip)))) (.rg [⟨(some 55),(.bin .add (.t 22) (.c (I 1))),none⟩,⟨(some 22),(.bS (.t 55)),none⟩] none))))
def KG:AC:=(.seq (.rg [⟨(some 19),(.bO 1 (.t 1)),none⟩,⟨(some 20),(.load false 1 (.t 19)),none⟩,⟨(some 21),(.len (.t 20)),none⟩,⟨(some 22),(.bS (.c (I 0))),none⟩] none) (.block 0 (.loop BZ)))
theorem XZ{P:Program}{K:St->Prop}{T:Nat->DV}{H:Hp}{nx o g base rb p:Nat}{x:Int}{gs:Nat->Nat}{rows:List (List Int)}{cs:List DV}(hN:fa pP 1 H o g base gs rows)(hob:o<base)(hp:p<rows.length)(hrb:base+rows.length<=rb)(hr:H rb=some ⟨0,10,[cs]⟩)
  (h4:T 4=.own o g 0 rows.length) (h6:T 6=.ptr rb 0 0 0) (hc1:cs[0]? =some (I p)) (hc2:cs[1]? =some (I x)) (hfit:((rows.getD p []).length+1)*8<=140737488355328/\(rows.getD p []).length+1<=9223372036854775807)
  (k:∀T' H',(∀t,t<29->T' t=T t)->fa pP 1 H' o g base (fun q=>if q=p then gs p+1 else gs q) (eW rows p x)->(∀j,j<o->H' j=H j)->H' rb=H rb->K ⟨T',H',nx⟩):
  zu P [⟨(some 29),(.bS (.t 4)),none⟩,⟨(some 30),(.bO 0 (.t 6)),none⟩,⟨(some 31),(.load false 1 (.t 30)),none⟩,⟨(some 32),(.bS (.t 4)),none⟩,⟨(some 33),(.bO 0 (.t 6)),none⟩,⟨(some 34),(.load false 1 (.t 33)),none⟩,⟨(some 35),(.cP 1 (.t 32) (.t 34)),none⟩,⟨(some 36),(.load false 1 (.t 35)),none⟩,⟨(some 37),(.bO 1 (.t 6)),none⟩,⟨(some 38),(.load false 1 (.t 37)),none⟩,⟨(some 39),(.g9 false 1 [(I 0)] 1 [(0,(.t 38))]),none⟩,⟨(some 40),(.app 1 8 (.t 36) (.t 39)),none⟩,⟨(some 41),(.cP 1 (.t 29) (.t 31)),none⟩,⟨none,(.store 1 (.t 41) (.t 40)),none⟩] (some [(1,11),(2,11)]) ⟨T,H,nx⟩ K:=by
 have h6':un true (T 6)=.ptr rb 0 0 0:=by rw[h6];rfl
 have h4':un true (T 4)=.own o g 0 rows.length:=by rw[h4];rfl
 show dz P _ _ _ _;refine cf (wB (o:=o) (g:=g) (i:=0) (f:=rows.length) h4') ?_;refine ji (rd:=[rb]) (j5 (o:=rb) (g:=0) (i:=0) (f:=0) h6' hr) (by show DV.ids (un true (T 6))=_;rw[h6'];rfl) ?_;refine ji (rd:=[rb]) (jo (c:=I p) rfl hr hc1) rfl ?_;refine cf (wB (o:=o) (g:=g) (i:=0) (f:=rows.length) h4') ?_;refine cf (j5 (o:=rb) (g:=0) (i:=0) (f:=0) h6' hr) ?_;refine cf (jo (c:=I p) rfl hr hc1) ?_;refine cf (sO (o:=o) (g:=g) (k:=rows.length) (p:=p) rfl rfl hN.top hp) ?_;refine cf (jo (c:=.own (base+p) (gs p) 0 (rows.getD p []).length) rfl hN.top (by rw[k9 hp];rfl)) ?_
 refine cf (j5 (o:=rb) (g:=0) (i:=0) (f:=0) h6' hr) ?_;refine cf (jo (c:=I x) rfl hr hc2) ?_;refine cf (xo (xs:=[[I x]]) rfl) ?_;refine Bc (rd:=[base+p]) (yc (o:=base+p) (g:=gs p) (lo:=0) (n:=(rows.getD p []).length) (news:=[[I x]]) rfl rfl (hN.row p hp) rfl hfit) rfl ?_;refine cf (sO (o:=o) (g:=g) (k:=rows.length) (p:=p) rfl rfl (by rw[Hp.aS _ _ _ (by omega)];exact hN.top) hp) ?_;refine j7 (jM (o:=o) (g:=g) (i:=p) (f:=0) rfl rfl (by rw[Hp.aS _ _ _ (by omega)];exact hN.top) rfl (by rw[k9 hp];rfl) rfl) (dS ?_)
 have hN':=hN.add hp x hob;rw[List.take_of_length_le (by simp[wE])];refine⟨?_,rfl,k _ _ ?_ ?_ ?_ ?_⟩
 ·have d:xO ([rb],[]) ([base+p],[base+p]):=⟨fun j hj=>(by cases hj),fun j hj hq=>by
   have e1:j=base+p:=List.mem_singleton.1 hj;have e2:j=rb:=List.mem_singleton.1 hq;omega⟩
  intro q hq;rcases List.mem_cons.1 hq with rfl | hq
  ·exact d
  ·rw[List.mem_singleton.1 hq];exact d
 ·intro t ht;simp only[cN];repeat rw[if_neg (by omega)]
 ·rw[show eF ((jv base gs rows).getD p []) 0 [DV.own (base+p) (gs p+1) 0 ((rows.getD p []).length+[[I x]].length)]=[DV.own (base+p) (gs p+1) 0 ((rows.getD p []).length+1)] by rw[k9 hp];rfl];exact hN'
 ·intro j hj;rw[Hp.aS _ _ _ (by omega),Hp.aS _ _ _ (by omega)]
 ·rw[Hp.aS _ _ _ (by omega),Hp.aS _ _ _ (by omega)]
theorem ar8{P:Program}{K:St->Prop}{T:Nat->DV}{H:Hp}{nx o g base rb p:Nat}{x:Int}{gs:Nat->Nat}{rows:List (List Int)}{cs:List DV}(hN:fa pP 1 H o g base gs rows)(hob:o<base)(hp:p<rows.length)(hrb:base+rows.length<=rb)(hr:H rb=some ⟨0,10,[cs]⟩)
  (h4:T 4=.own o g 0 rows.length) (h6:T 6=.ptr rb 0 0 0) (hc1:cs[1]? =some (I p)) (hc2:cs[0]? =some (I x)) (hfit:((rows.getD p []).length+1)*8<=140737488355328/\(rows.getD p []).length+1<=9223372036854775807)
  (k:∀T' H',(∀t,t<42->T' t=T t)->fa pP 1 H' o g base (fun q=>if q=p then gs p+1 else gs q) (eW rows p x)->(∀j,j<o->H' j=H j)->H' rb=H rb->K ⟨T',H',nx⟩):
  zu P [⟨(some 42),(.bS (.t 4)),none⟩,⟨(some 43),(.bO 1 (.t 6)),none⟩,⟨(some 44),(.load false 1 (.t 43)),none⟩,⟨(some 45),(.bS (.t 4)),none⟩,⟨(some 46),(.bO 1 (.t 6)),none⟩,⟨(some 47),(.load false 1 (.t 46)),none⟩,⟨(some 48),(.cP 1 (.t 45) (.t 47)),none⟩,⟨(some 49),(.load false 1 (.t 48)),none⟩,⟨(some 50),(.bO 0 (.t 6)),none⟩,⟨(some 51),(.load false 1 (.t 50)),none⟩,⟨(some 52),(.g9 false 1 [(I 0)] 1 [(0,(.t 51))]),none⟩,⟨(some 53),(.app 1 8 (.t 49) (.t 52)),none⟩,⟨(some 54),(.cP 1 (.t 42) (.t 44)),none⟩,⟨none,(.store 1 (.t 54) (.t 53)),none⟩] (some [(1,11),(2,11)]) ⟨T,H,nx⟩ K:=by
 have h6':un true (T 6)=.ptr rb 0 0 0:=by rw[h6];rfl
 have h4':un true (T 4)=.own o g 0 rows.length:=by rw[h4];rfl
 show dz P _ _ _ _;refine cf (wB (o:=o) (g:=g) (i:=0) (f:=rows.length) h4') ?_;refine ji (rd:=[rb]) (j5 (o:=rb) (g:=0) (i:=0) (f:=0) h6' hr) (by show DV.ids (un true (T 6))=_;rw[h6'];rfl) ?_;refine ji (rd:=[rb]) (jo (c:=I p) rfl hr hc1) rfl ?_;refine cf (wB (o:=o) (g:=g) (i:=0) (f:=rows.length) h4') ?_;refine cf (j5 (o:=rb) (g:=0) (i:=0) (f:=0) h6' hr) ?_;refine cf (jo (c:=I p) rfl hr hc1) ?_;refine cf (sO (o:=o) (g:=g) (k:=rows.length) (p:=p) rfl rfl hN.top hp) ?_;refine cf (jo (c:=.own (base+p) (gs p) 0 (rows.getD p []).length) rfl hN.top (by rw[k9 hp];rfl)) ?_
 refine cf (j5 (o:=rb) (g:=0) (i:=0) (f:=0) h6' hr) ?_;refine cf (jo (c:=I x) rfl hr hc2) ?_;refine cf (xo (xs:=[[I x]]) rfl) ?_;refine Bc (rd:=[base+p]) (yc (o:=base+p) (g:=gs p) (lo:=0) (n:=(rows.getD p []).length) (news:=[[I x]]) rfl rfl (hN.row p hp) rfl hfit) rfl ?_;refine cf (sO (o:=o) (g:=g) (k:=rows.length) (p:=p) rfl rfl (by rw[Hp.aS _ _ _ (by omega)];exact hN.top) hp) ?_;refine j7 (jM (o:=o) (g:=g) (i:=p) (f:=0) rfl rfl (by rw[Hp.aS _ _ _ (by omega)];exact hN.top) rfl (by rw[k9 hp];rfl) rfl) (dS ?_)
 have hN':=hN.add hp x hob;rw[List.take_of_length_le (by simp[wE])];refine⟨?_,rfl,k _ _ ?_ ?_ ?_ ?_⟩
 ·have d:xO ([rb],[]) ([base+p],[base+p]):=⟨fun j hj=>(by cases hj),fun j hj hq=>by
   have e1:j=base+p:=List.mem_singleton.1 hj;have e2:j=rb:=List.mem_singleton.1 hq;omega⟩
  intro q hq;rcases List.mem_cons.1 hq with rfl | hq
  ·exact d
  ·rw[List.mem_singleton.1 hq];exact d
 ·intro t ht;simp only[cN];repeat rw[if_neg (by omega)]
 ·rw[show eF ((jv base gs rows).getD p []) 0 [DV.own (base+p) (gs p+1) 0 ((rows.getD p []).length+[[I x]].length)]=[DV.own (base+p) (gs p+1) 0 ((rows.getD p []).length+1)] by rw[k9 hp];rfl];exact hN'
 ·intro j hj;rw[Hp.aS _ _ _ (by omega),Hp.aS _ _ _ (by omega)]
 ·rw[Hp.aS _ _ _ (by omega),Hp.aS _ _ _ (by omega)]
theorem zz{P:Program}{cx:Cx}{ow:Nat->Bool}(o g base:Nat)(H0:Hp)(d1:DV)(f:Bool)(rs:List (El po))(out:List (List Int))(Q:Exit->St->Prop)(hob:o<base)(hlen:rs.length<9223372036854775807)
  (hQ:∀T H nx gs,fa pP 1 H o g base gs out->(∀j,j<o->H j=H0 j)->base+out.length<=nx->T 4=.own o g 0 out.length->T 1=d1->Q (.exit 0) ⟨T,H,nx⟩):∀(ks:List (El po)) (i:Nat) (gs:Nat->Nat) (rows:List (List Int)) (H:Hp) (nx:Nat),rs.drop i=ks->i+ks.length=rs.length->
  fa pP 1 H o g base gs rows->(∀j,j<o->H j=H0 j)->base+rows.length<=nx->pE ks rows=some out->
  dB P cx ow BZ Q ⟨jD [(1,d1),(4,.own o g 0 rows.length),(20,.ab f (rs.map oi)),(21,I rs.length),(22,I i)],H,nx⟩:=by
 intro ks;induction ks with
 | nil=>
  intro i gs rows H nx hd hi hN hH hx ho;simp only[pE] at ho;cases ho;refine dB.tp (by delta BZ;rfl) ?_;refine ar.seq (ar.dL (cf (sU rfl rfl) (dS ?_)));refine dg (ar.seq ?_);refine ar.vn rfl (decide_eq_false (by simp at hi;omega)) (ar.exit ?_);refine qK (qK ?_);exact hQ _ _ _ gs hN hH hx rfl rfl
 | cons k ks ih=>
  intro i gs rows H nx hd hi hN hH hx ho;have hi':i<rs.length:=by simp at hi;omega
  have hk:rs[i]=k:=by
   have:=List.getElem_drop (j:=0) (h:=by rw[hd];simp);simp only[hd,List.getElem_cons_zero,Nat.add_zero] at this;exact this.symm
  refine dB.tp (by delta BZ;rfl) ?_;refine ar.seq (ar.dL (cf (sU rfl rfl) (dS ?_)));refine dg (ar.seq ?_);refine ar.vH rfl (decide_eq_true (by omega)) (ar.skip ?_);refine dg (ar.seq (ar.block ?_));have fin:∀(T':Nat->DV) (H':Hp) (nx':Nat) (gs':Nat->Nat) (rows':List (List Int)),fa pP 1 H' o g base gs' rows'->(∀j,j<o->H' j=H0 j)->base+rows'.length<=nx'->pE ks rows'=some out->T' 1=d1->T' 4=.own o g 0 rows'.length->T' 20=.ab f (rs.map oi)->T' 21=I rs.length->T' 22=I i->
    ar P cx ow (.rg [⟨(some 55),(.bin .add (.t 22) (.c (I 1))),none⟩,⟨(some 22),(.bS (.t 55)),none⟩] none) (oW (fun s'=>dB P cx ow BZ Q s') Q) ⟨T',H',nx'⟩:=by
   intro T' H' nx' gs' rows' a1 a2 a3 a4 b1 b2 b3 b4 b5;refine ar.dL ?_;refine cf (Dy (by show un true (T' 22)=_;rw[b5];rfl) rfl (by omega)) ?_;refine cf (LO (a:=((i+1:Nat):Int)) rfl) (dS ?_);refine dg ?_;refine dB.live [(1,d1),(4,.own o g 0 rows'.length),(20,.ab f (rs.map oi)),(21,I rs.length),(22,I ((i+1:Nat):Int))] ?_ ?_
   ·simp only[Has,zZ];exact⟨b1,b2,b3,b4,rfl,trivial⟩
   ·refine ih (i+1) gs' rows' _ _ ?_ ?_ a1 a2 a3 a4
    ·rw[<-List.drop_drop,hd];rfl
    ·simp at hi;omega
  refine ar.seq (ar.dL ?_);refine cf (M8 (cs:=oi k) rfl rfl (by omega) (by simp;omega) (by simp[hi',hk]) rfl) ?_;refine cf rfl ?_;refine n8 (xI ..) ?_;refine j7 (jM rfl rfl (Hp.b9 ..) rfl rfl rfl) (dS ?_);refine dg ?_;generalize hH2:(Hp.put (Hp.put H nx _) nx _)=H2;have hr2:H2 nx=some ⟨0,10,[oi k]⟩:=by rw[<-hH2];exact Hp.b9 ..
  have hold2:∀j,j<nx->H2 j=H j:=fun j hj=>by rw[<-hH2,Hp.aS _ _ _ (by omega),Hp.aS _ _ _ (by omega)]
  have hN2:=hN.af (fun j hj=>hold2 j (by omega)) hob;have hag2:∀j,j<o->H2 j=H0 j:=fun j hj=>by rw[hold2 j (by omega)];exact hH j hj
  refine ar.seq (ar.dL ?_);refine cf (j5 rfl hr2) ?_;refine cf (jo rfl hr2 rfl) ?_;refine cf (alw rfl) (dS ?_);refine dg ?_;simp only[pE] at ho;cases hcl:k.2.2.2.2.2.1 with
  | true=>
   rw[hcl,cond_true] at ho;refine ar.vn rfl rfl (ar.skip ?_);refine xP (dg ?_);exact fin _ _ _ gs rows hN2 hag2 (by omega) ho rfl rfl rfl rfl rfl
  | false=>
   rw[hcl,cond_false] at ho;obtain⟨rows1,ha,ho⟩:=Option.bind_eq_some_iff.1 ho;obtain⟨⟨k0,k1⟩,hfit,rfl⟩:=XE ha;obtain⟨rows2,ha2,ho⟩:=Option.bind_eq_some_iff.1 ho;obtain⟨⟨m0,m1⟩,hfit2,rfl⟩:=XE ha2;obtain⟨p,hp⟩:∃p:Nat,k.1=(p:Int):=⟨Int.toNat k.1,(Int.toNat_of_nonneg k0).symm⟩;obtain⟨q,hq⟩:∃q:Nat,k.2.1=(q:Int):=⟨Int.toNat k.2.1,(Int.toNat_of_nonneg m0).symm⟩;rw[hp] at k1;rw[hq,gZ] at m1;simp only[hp,hq,Int.toNat_natCast] at hfit hfit2 ho;have hpl:p<rows.length:=by omega
   have hql:q<(eW rows p q).length:=by rw[gZ];omega
   refine ar.vH rfl rfl (ar.seq (ar.dL ?_));refine XZ hN2 hob hpl hx hr2 rfl rfl (by show some (I k.1)=_;rw[hp]) (by show some (I k.2.1)=_;rw[hq]) hfit fun T1 H1 hT1 hN1 hag1 hr1=>?_;refine dg (ar.dL ?_);refine ar8 hN1 hob hql (by rw[gZ];exact hx) (by rw[hr1];exact hr2) (by rw[hT1 4 (by omega),gZ];rfl) (by rw[hT1 6 (by omega)];rfl) (by show some (I k.2.1)=_;rw[hq]) (by show some (I k.1)=_;rw[hp]) hfit2 fun T2 H3 hT2 hN3 hag3 hr3=>?_;refine xP (dg ?_);refine fin _ _ _ _ (eW (eW rows p q) q p) hN3 (fun j hj=>by rw[hag3 j hj,hag1 j hj];exact hag2 j hj) (by rw[gZ,gZ];omega) ho ?_ ?_ ?_ ?_ ?_
   ·rw[hT2 1 (by omega),hT1 1 (by omega)];rfl
   ·rw[hT2 4 (by omega),hT1 4 (by omega),gZ,gZ];rfl
   ·rw[hT2 20 (by omega),hT1 20 (by omega)];rfl
   ·rw[hT2 21 (by omega),hT1 21 (by omega)];rfl
   ·rw[hT2 22 (by omega),hT1 22 (by omega)];rfl
def MK(si:SI):Option (El (.list (.list (.int .i64)))):=match si.H,dy si.T 1 with
 | [some (.box 0 [.ab _ t1 ps,.ab _ t2 rs])],.ptr 0 0 0=>(match kY t1 Zm ps,kY t2 po rs with
  | some ps,some rs=>Ev ps.length rs
  | _,_=>none)
 | _,_=>none
def OF(y:El (.list (.list (.int .i64))))(si:SI):SI:=⟨[(4,.ab false (.list (.int .i64)) y),(1,.ptr 0 0 0)],si.H⟩
theorem aeo{P:Program}{nt:Nat}{ow:Nat->Bool}:WQ P nt ow [Mt,KG] (.list (.list (.int .i64))) MK OF:=by
 intro cx hcx si y s c Q hs hn hg hk;unfold MK at hg;split at hg
 ·rename_i f1 t1 a1 f2 t2 a2 hH h1;split at hg
  ·rename_i ps rs hc1' hc2';obtain⟨rfl,rfl⟩:=nW hc1';obtain⟨rfl,rfl⟩:=nW hc2';obtain⟨ck0,hc1,hnx,⟨⟨g1,x1⟩,⟨g2,x2⟩,hck,hb1,hb2⟩,hfl,hrel⟩:=Zr hs hH;have hx2:=Wr hb2;simp only at hx2;subst hx2;obtain⟨gg,e1,_,hgg⟩:=(h1▸hs.t 1).pF;have:gg=0:=by have:=(hgg ck0 hc1).1;rw[hck] at this;exact this.symm
   subst this;have hg:(bif eH 24 (ps.length:Int) (ps.length:Int) && decide (rs.length<9223372036854775807) then pE rs (List.replicate ps.length []) else none)=some y:=hg;cases hq:eH 24 (ps.length:Int) (ps.length:Int) && decide (rs.length<9223372036854775807) with
   | false=>rw[hq] at hg;cases hg
   | true=>
    rw[hq,cond_true] at hg;rw[Bool.and_eq_true] at hq;have q1:0<=(ps.length:Int)/\(ps.length:Int)<=ps.length/\(24:Int)*ps.length<=140737488355328/\(ps.length:Int)<=140737488355328:=of_decide_eq_true hq.1;have q2:rs.length<9223372036854775807:=of_decide_eq_true hq.2;show ar P cx ow (.seq Mt (.seq KG c)) Q s;obtain⟨T,H,nx⟩:=s;simp only at hnx e1 hc1 hn;subst hnx;rw[hck] at hc1;refine ar.seq (ar.dL ?_);refine cf (j5 (o:=0) (g:=0) (i:=0) (f:=0) (by show un true (T 1)=_;rw[e1];rfl) hc1) ?_;refine cf (jo (c:=.ab g1 x1) rfl hc1 rfl) ?_
    refine cf (tH (f:=g1) (xs:=x1) (n:=ps.length) rfl (by rw[<-hb1.1])) ?_;refine n8 (EJ (l:=ps.length) (c:=ps.length) rfl rfl q1) ?_;rw[Int.toNat_natCast];refine cf (wB (o:=1) (g:=0) (i:=0) (f:=ps.length) rfl) (dS ?_);refine dg ?_;generalize hT0:cN (cN _ 18 _) 4 _=T0;have t1:T0 1=.ptr 0 0 0 0:=by rw[<-hT0];exact e1
    have t4:T0 4=.own 1 0 0 ps.length:=by rw[<-hT0];rfl
    obtain⟨H',w1,hN,hold⟩:=fa.start (e:=pP) (sz:=1) (cx:=cx) (T:=T0) (H:=H.put 1 (some ⟨0,1,List.replicate ps.length [.ab true []]⟩)) (nx:=1+1) (o:=1) (g:=0) (n:=ps.length) (by omega) (by omega) (Hp.b9 ..);have hH0:H' 0=some ⟨0,2,[[.ab g1 x1,.ab g2 (rs.map oi)]]⟩:=by rw[hold 0 (by omega) (by omega),Hp.aS _ _ _ (by omega)];exact hc1
    refine ar.wk w1 (ar.seq (ar.seq (ar.dL ?_)));refine cf (j5 (o:=0) (g:=0) (i:=0) (f:=0) (by show un true (T0 1)=_;rw[t1];rfl) hH0) ?_;refine cf (jo (c:=.ab g2 (rs.map oi)) rfl hH0 rfl) ?_;refine cf (tH (f:=g2) (xs:=rs.map oi) (n:=rs.length) rfl (by simp)) ?_;refine cf (LO (k:=.i64) (a:=0) rfl) (dS ?_);refine dg (ar.block (ar.B1 ?_));refine dB.live [(1,.ptr 0 0 0 0),(4,.own 1 0 0 ps.length),(20,.ab g2 (rs.map oi)),(21,I rs.length),(22,I 0)] ?_ ?_
    ·simp only[Has,zZ];exact⟨t1,t4,rfl,rfl,rfl,trivial⟩
    ·have hl:(List.replicate ps.length ([]:List Int)).length=ps.length:=by simp
     have key:=zz (P:=P) (cx:=cx) (ow:=ow) 1 0 2 H' (.ptr 0 0 0 0) g2 rs y (uX 0 (oW (fun s'=>ar P cx ow c Q s') Q)) (by omega) q2 ?_ rs 0 (fun _=>0) (List.replicate ps.length []) H' (1+1+ps.length) rfl (by omega) hN (fun j _=>rfl) (by rw[hl];omega) hg
     ·rw[hl] at key;exact key
     ·intro T2 H2 nx2 gs2 hN2 hH2 hx2 hT2 hT1;refine Cf (dg ?_);have ids1:bB (fun j=>j<1) (T2 1):=by rw[hT1];exact .ptr _ _ _ _ (by omega)
      refine ar.wk (fa.freeze (e:=pP) (sz:=1) (t:=4) (n:=0) hN2 Nat.zero_lt_one agm hn (Nat.le_refl _) (by omega) hx2 hT2 (H1:=fun j=>if j=0 then some ck0 else none) (fun j ck hj=>?_) (fun q=>if q=1 then T2 1 else .any) (fun q=>?_)) (hk _ ⟨fun q=>?_,?_,hs.n⟩ hn)
      ·by_cases e:j=0
       ·subst e;rw[if_pos rfl] at hj;injection hj with hj;subst hj
        refine⟨by omega,?_,hfl⟩;rw[hH2 0 (by omega),hH0,hck]
       ·rw[if_neg e] at hj;cases hj
      ·by_cases e:q=1
       ·subst e;rw[if_pos rfl];exact .inr ⟨rfl,by omega,ids1⟩
       ·rw[if_neg e];exact .inl rfl
      ·simp only[OF,dy,cN];by_cases e:q=4
       ·subst e;rw[if_pos rfl];exact ayq y
       ·rw[if_neg e];cases hb:Nat.beq 4 q with
        | true=>exact absurd (Nat.eq_of_beq_eq_true hb).symm e
        | false=>
         simp only[cond_false];by_cases e1:q=1
         ·subst e1;rw[if_pos rfl,hT1];refine .ptr _ _ _ _ (by omega) fun ck hj=>?_;rw[if_pos rfl] at hj;injection hj with hj;subst hj
          rw[hck];exact⟨rfl,Nat.zero_lt_one⟩
         ·rw[if_neg e1];cases hb:Nat.beq 1 q with
          | true=>exact absurd (Nat.eq_of_beq_eq_true hb).symm e1
          | false=>exact .any _
      ·exact hrel _ rfl
  ·cases hg
 ·cases hg
def xH:(p:PT)->El p.ty->IH
 | .v _,_=>[]
 | .a t,x=>[some (.hF t x)]
 | .p a b,x=>xH a x.1++xH b x.2
def mV:(p:PT)->El p.ty->El p.ty->Bool
 | .v _,_,_=>true
 | .a t,x,y=>Nat.beq (List.length (α:=El t) x) (List.length (α:=El t) y)
 | .p a b,x,y=>mV a x.1 y.1 && mV b x.2 y.2
def ph:(p:PT)->IH->Nat->Option (El p.ty)
 | .v t,_,_=>some (kq t)
 | .a t,H,i=>match aK H i with
  | some (.hF t' as)=>kY t' t as
  | _=>none
 | .p a b,H,i=>match ph a H i with
  | some y=>match ph b H (i+a.n) with
   | some z=>some (y,z)
   | none=>none
  | none=>none
def AH(p:PT)(rs:List RR)(ret:List GT):Exit->SI->Option (aY ret×El p.ty):=fun e si=>match fin rs ret e si with
 | some r=>(match ph p si.H 0 with
  | some z=>some (r,z)
  | none=>none)
 | none=>none
def BK(P:Program)(f:FuncId)(ts1:List GT)(p:PT)(ts2 ret:List GT)(model:aY ts1->El p.ty->aY ts2->Option (aY ret×El p.ty)):Prop:=∀x y z r,model x y z=some r->mV p y r.2=true->
 de P f (fg ts1 x++.agg (oD g0 p y 0)::fg ts2 z) (oC g0 p y 0) p.n (ft (fg ret r.1)) (oC g0 p r.2 0) p.n
theorem Dx:∀(p:PT) (x:El p.ty),(xH p x).length=p.n
 | .v _,_=>rfl
 | .a _,_=>rfl
 | .p a b,x=>by simp only[xH,List.length_append,Dx a,Dx b,PT.n]
theorem Lj{H:Hp}{nx:Nat}:∀(p:PT) (x:El p.ty) (i o:Nat) (c:cS),aK (xH p x) o=some c->∃cp,(oC g0 p x i)[o]? =some (i+o,cp)/\dh H nx c cp
 | .v _,_,_,o,c,h=>by simp[xH,aK] at h
 | .a t,x,i,0,c,h=>by
  simp only[xH,aK,Option.some.injEq] at h;subst h;exact⟨_,rfl,rfl,UO t x,rfl⟩
 | .a t,x,i,o+1,c,h=>by simp[xH,aK] at h
 | .p a b,x,i,o,c,h=>by
  simp only[xH] at h;rw[ot,Dx] at h;simp only[oC];split at h
  ·rename_i hlt;obtain⟨cp,h1,h2⟩:=Lj a x.1 i o c h;exact⟨cp,by rw[List.getElem?_append_left (by rw[cL];exact hlt)];exact h1,h2⟩
  ·rename_i hge;obtain⟨cp,h1,h2⟩:=Lj b x.2 (i+a.n) (o-a.n) c h;refine⟨cp,?_,h2⟩;rw[List.getElem?_append_right (by rw[cL];omega),cL,h1];congr 2;omega
theorem LG{s:St}{T:List (Nat×IV)}{HI:IH}(hs:SR ⟨T,HI⟩ s):∀(p:PT) (y:El p.ty) (i:Nat),ph p HI i=some y->∀(k:Nat) c,(oC g0 p y i)[k]? =some c->∃ck,s.H (i+k)=some ck/\kH ck c.2
 | .v t,y,i,h,k,c,hk=>by simp[oC] at hk
 | .a t,y,i,h,k,c,hk=>by
  cases hg:aK HI i with
  | none=>simp[ph,hg] at h
  | some c0=>
  cases c0 with
  | box=>simp[ph,hg] at h
  | arr=>simp[ph,hg] at h
  | wait=>simp[ph,hg] at h
  | hF t' as=>
   have hc:=hg;simp only[ph,hg] at h;obtain⟨rfl,e⟩:=nW h;obtain⟨y,hy⟩:∃z:List (El t'),z=y:=⟨y,rfl⟩;subst hy;have e:=e;subst e;obtain⟨_,ck,k1,z1,z2,z3⟩:=hs.h.at hc;cases k with
   | zero=>
    simp only[oC,List.getElem?_cons_zero] at hk;cases hk;refine⟨ck,k1,⟨z3.symm,z1.symm,?_,fun j h1 h2=>?_⟩⟩
    ·show(List.map (aN t') y).length=_;rw[List.length_map];exact z2.1
    ·have hj:j<y.length:=by rw[z2.1];exact h2
     have w:=kC t' y[j] ck.xs[j] (z2.2 j hj h2);have e:(List.map (aN t') y)[j]'h1=aN t' y[j]:=by rw[List.getElem_map]
     show((List.map (aN t') y)[j]'h1).length=_/\_;rw[e];exact⟨w.1.symm,fun i a b=>w.2 i b (by simpa[e] using a)⟩
   | succ k=>simp[oC] at hk
 | .p a b,y,i,h,k,c,hk=>by
  simp only[ph] at h;split at h
  ·rename_i u hu;split at h
   ·rename_i v hv;injection h with h;subst h
    simp only[oC] at hk;by_cases hlt:k<a.n
    ·rw[List.getElem?_append_left (by rw[cL];exact hlt)] at hk;exact LG hs a u i hu k c hk
    ·rw[List.getElem?_append_right (by rw[cL];omega),cL] at hk;obtain⟨ck,h1,h2⟩:=LG hs b v (i+a.n) hv _ c hk;exact⟨ck,by rw[show i+k=i+a.n+(k-a.n) by omega];exact h1,h2⟩
   ·cases h
  ·cases h
theorem z6(p:PT)(x:El p.ty):Keyed (oC g0 p x 0) p.n id (eR (oC g0 p x 0)):=
 (wo (ρ:=id) (γ:=g0) (q:=p.n) p x 0 0 fun k hk=>⟨rfl,rfl⟩).keyed (cL g0 p x 0) fun _ _ _ _ e=>e
theorem TL(p:PT)(x:El p.ty)(k:Nat)(c:Nat×Ck)(h:(oC g0 p x 0)[k]? =some c):ah (oC g0 p x 0) k=some c.2:=by
 have hl:=(List.getElem?_eq_some_iff.1 h).1;rw[cL] at hl;rw[show ah _ k=_ from(z6 p x).get hl Hp.emp];simp only[eR,List.getD_eq_getElem?_getD,h,Option.getD_some]
theorem ae8{P:Program}{f nt:Nat}{ow:Nat->Bool}{tc:TC}{rs:List RR}{env:List (Nat×eC)}{N:Nat}{ts1:List GT}{p:PT}{ts2 ret:List GT}{model:aY ts1->El p.ty->aY ts2->Option (aY ret×El p.ty)}(hm:P.follows .mixedOrders=true)(hf:ib P f nt ow tc.er rs)(hE:iS P env)(hh:tc.eu P nt ow false)(hlen:Nat.ble (ts1.length+1+ts2.length) nt=true)
  (hrun:∀x y z,run env N p.n tc ⟨jF (jH ts1 x++.agg (oI p y 0)::jH ts2 z) 0,xH p y⟩ (AH p rs ret)=model x y z):BK P f ts1 p ts2 ret model:=by
 intro x y z r hy _;obtain⟨fn,h1,h2,h3,rfl,h5,h6⟩:=hf.ex;have K:=z6 p y;have K':=z6 p r.2;refine de.P6 hm h1 h2 h3 h5 h6 (by simp only[List.length_append,List.length_cons,Ij];have:=Nat.le_of_ble_eq_true hlen;omega) (fun o ck h=>?_) (fun o ck h _=>?_) (Nat.le_refl _) ((px (kr ret r.1)).kF fun _ h=>h.elim) (fun o ck h=>?_) (fun o ck h=>?_) fun cx hcx hnb hro hfz hmm ps a w R0=>?_
 ·obtain⟨k,hk,rfl,_⟩:=K.mem h;exact⟨_,K'.get hk Hp.emp⟩
 ·obtain⟨k,hk,rfl,_⟩:=K'.mem h;exact⟨_,K.get hk Hp.emp⟩
 ·intro u hu c hc;obtain⟨t,l,e⟩:=wg g0 p r.2 0 _ (mS h);simp only at e;subst e;exact(Nk u hu c hc).kF fun _ h=>h.elim
 ·obtain⟨k,hk,rfl,_⟩:=K'.mem h;exact hk
 ·have hs:SR ⟨jF (jH ts1 x++.agg (oI p y 0)::jH ts2 z) 0,xH p y⟩ ⟨fA (fg ts1 x++.agg (oD g0 p y 0)::fg ts2 z),ah (oC g0 p y 0),p.n⟩:=by
   refine LQ ((ug ts1 x).append ((ug ts2 z).cons (Rel.lO (xx p y 0 fun k c hk=>?_)))) (fun o c hc=>?_) (Dx p y)
   ·have hl:=(List.getElem?_eq_some_iff.1 hk).1;rw[cL] at hl;rw[Nat.zero_add];exact⟨hl,TL p y k c hk⟩
   ·obtain⟨cp,q1,q2⟩:=Lj p y 0 o c hc;have hl:=(List.getElem?_eq_some_iff.1 q1).1;rw[cL] at hl;exact⟨hl,cp,TL p y o _ q1,q2⟩
  have hr:run env N cx.nb tc ⟨jF (jH ts1 x++.agg (oI p y 0)::jH ts2 z) 0,xH p y⟩ (AH p rs ret)=some r:=by rw[hnb,<-hy];exact hrun x y z
  have key:=nu hE N tc cx (by rw[hcx,hro];exact hh) _ _ _ hs hr hmm _ (by rw[hcx];exact h5) (by rw[hfz];exact AC.pd _) ps a w R0;rw[hro] at key;refine wpIn_mono key ?_;rintro e a' w' ⟨s',ps',R',si',k1,k2⟩;simp only[AH] at k2;split at k2
  ·rename_i q hq;split at k2
   ·rename_i u hu;cases k2;obtain⟨k3,k4⟩:=V9 hq k1;refine⟨s',ps',R',k3,k4,fun o ck h=>?_⟩;obtain⟨k,hk,ek,rfl⟩:=K'.mem h;have ek:=ek;have hl:k<(oC g0 p u 0).length:=by rw[cL];exact hk
    obtain⟨c0,u1,u2⟩:=LG k1 p u 0 hu k _ (List.getElem?_eq_getElem hl);rw[Nat.zero_add] at u1;refine⟨c0,by rw[ek];exact u1,?_⟩;simp only[eR,List.getD_eq_getElem?_getD,List.getElem?_eq_getElem hl,Option.getD_some];exact u2
   ·cases k2
  ·cases k2
def sP:List Nat->IH->IH->IH
 | o::os,c::cs,H=>sP os cs (fp H o c)
 | _,_,H=>H
def jr{α:Type}(p:PT)(y:El p.ty)(o:Option (α×El p.ty)):Option (α×El p.ty):=Option.bind o fun r=>bif mV p y r.2 then some r else none
theorem Y6{α:Type}{p:PT}{y:El p.ty}{o:Option (α×El p.ty)}{r:α×El p.ty}(h:jr p y o=some r):o=some r/\mV p y r.2=true:=by
 unfold jr at h;obtain⟨q,h1,h2⟩:=Option.bind_eq_some_iff.1 h;cases hb:mV p y q.2 with
 | false=>rw[hb] at h2;cases h2
 | true=>rw[hb] at h2;cases h2;exact⟨h1,hb⟩
def TA(ts1:List GT)(p:PT)(ts2 ret:List GT)(model:aY ts1->El p.ty->aY ts2->Option (aY ret×El p.ty)):eC:=fun args H k=>match kX ts1 (args.take ts1.length),args.drop ts1.length with
 | some x,.agg cs::r=>match kX ts2 r,tu p cs H with
  | some z,some (y,os,[])=>eE (nQ os) (Option.bind (jr p y (model x y z)) fun q=>k (B4 (jH ret q.1)) (sP os (oH p q.2) H) os os []) none
  | _,_=>none
 | _,_=>none
theorem V3:∀(os:List Nat) (cs H:IH),(sP os cs H).length=H.length
 | [],_,_=>rfl
 | _::_,[],_=>rfl
 | o::os,c::cs,H=>by show(sP os cs (fp H o c)).length=_;rw[V3 os,kS]
theorem N1:∀(os:List Nat) (cs H:IH) (j:Nat),j∉os->aK (sP os cs H) j=aK H j
 | [],_,_,_,_=>rfl
 | _::_,[],_,_,_=>rfl
 | o::os,c::cs,H,j,h=>by
  show aK (sP os cs (fp H o c)) j=_;rw[N1 os cs _ j (fun k=>h (List.mem_cons_of_mem _ k)),lW,if_neg (fun e=>h (by rw[e.1];exact List.mem_cons_self))]
theorem RJ:∀(os:List Nat) (cs H:IH) (k j:Nat),os.Nodup->os.length=cs.length->os[k]? =some j->j<H.length->aK (sP os cs H) j=aK cs k
 | [],_,_,_,_,_,_,h,_=>by simp at h
 | _::_,[],_,_,_,_,h,_,_=>by simp at h
 | o::os,c::cs,H,0,j,hn,hl,hk,hj=>by
  simp only[List.getElem?_cons_zero] at hk;cases hk;show aK (sP os cs (fp H o c)) o=_;rw[N1 os cs _ o (List.nodup_cons.1 hn).1,lW,if_pos ⟨rfl,hj⟩];rfl
 | o::os,c::cs,H,k+1,j,hn,hl,hk,hj=>by
  exact RJ os cs _ k j (List.nodup_cons.1 hn).2 (by simpa using hl) (by simpa using hk) (by rw[kS];exact hj)
theorem as8{l:List Nat}(h:nQ l=true):l.Nodup:=List.pairwise_iff_getElem.2 fun i j hi hj hij e=>by
 have:=sr h i j l[j] (by rw[List.getElem?_eq_getElem hi,e]) (List.getElem?_eq_getElem hj);omega
theorem MZ:∀(p:PT) (x y:El p.ty) (i k:Nat) (c d:Nat×Ck),mV p x y=true->(oC g0 p x i)[k]? =some c->(oC g0 p y i)[k]? =some d->c.2.xs.length=d.2.xs.length
 | .v _,_,_,_,_,_,_,_,h,_=>by simp[oC] at h
 | .a t,x,y,i,0,c,d,h,h1,h2=>by
  simp only[oC,List.getElem?_cons_zero,Option.some.injEq] at h1 h2;subst h1;subst h2;exact(List.length_map ..).trans ((Nat.eq_of_beq_eq_true h).trans (List.length_map ..).symm)
 | .a t,x,y,i,k+1,c,d,h,h1,h2=>by simp[oC] at h1
 | .p a b,x,y,i,k,c,d,h,h1,h2=>by
  simp only[mV,Bool.and_eq_true] at h;simp only[oC] at h1 h2;by_cases hlt:k<a.n
  ·rw[List.getElem?_append_left (by rw[cL];exact hlt)] at h1 h2;exact MZ a x.1 y.1 i k c d h.1 h1 h2
  ·rw[List.getElem?_append_right (by rw[cL];omega),cL] at h1 h2;exact MZ b x.2 y.2 (i+a.n) _ c d h.2 h1 h2
theorem UA{P:Program}{f:FuncId}{ts1:List GT}{p:PT}{ts2 ret:List GT}{model:aY ts1->El p.ty->aY ts2->Option (aY ret×El p.ty)}(h:BK P f ts1 p ts2 ret model):iY P f (TA ts1 p ts2 ret model):=by
 intro R args HI k r hr dargs H nx ha hH hn;simp only[TA] at hr;split at hr
 ·rename_i x cs rest hx hd;split at hr
  ·rename_i z y os hz hdec;obtain⟨hnd,hr⟩:=gN hr;cases hm:jr p y (model x y z) with
   | none=>rw[hm] at hr;cases hr
   | some q=>
    rw[hm] at hr;simp only[Option.bind_some] at hr;obtain⟨hmod,hlen⟩:=Y6 hm;have h0:=h x y z q hmod hlen;have hal:args=args.take ts1.length++.agg cs::rest:=by rw[<-hd,List.take_append_drop]
    have ht1:=ha.take ts1.length;have hd1:=ha.drop ts1.length;rw[hd] at hd1;obtain⟨dv,dr,hdd,hv,hrest⟩:=hd1.dD;have hdal:dargs=dargs.take ts1.length++dv::dr:=by rw[<-hdd,List.take_append_drop]
    obtain⟨ds,rfl,hcs⟩:=hv.fj;have w1:=Cp ts1 _ x _ hx ht1;have w2:=Cp ts2 _ z _ hz hrest;let ρ:Nat->Nat:=fun j=>os.getD j 0
    let γ:Nat->Nat:=fun j=>((H (os.getD j 0)).map (·.gen)).getD 0
    obtain⟨hol,⟨d1,d2,hds,hw,hnil⟩,hck⟩:=G7 (ρ:=ρ) (γ:=γ) (q:=p.n) hH p cs y os [] ds 0 hdec hcs fun k o hk=>by
     have e:os.getD (0+k) 0=o:=by rw[Nat.zero_add,List.getD_eq_getElem?_getD,hk];rfl
     exact⟨e,by show((H (os.getD (0+k) 0)).map (·.gen)).getD 0=_;rw[e]⟩
    have:=hnil.dY;subst this;simp only[List.append_nil] at hds;subst hds;rw[vW] at hck;have ρo:∀j,j<p.n->os[j]? =some (ρ j):=fun j hj=>by
     have:j<os.length:=by rw[hol];exact hj
     show os[j]? =some (os.getD j 0);simp[List.getD_eq_getElem?_getD,List.getElem?_eq_getElem this]
    have hinj:∀i j,i<p.n->j<p.n->ρ i=ρ j->i=j:=fun i j hi hj e=>sr hnd i j _ (ρo i hi) (by rw[ρo j hj,e]);have at1:∀j,j<p.n->∃ck:Ck,H (ρ j)=some ck/\ρ j<nx/\yq ρ γ p.n ck.gen ck (eR (oC g0 p y 0) j)/\γ j=ck.gen:=fun j hj=>by
     have hl:j<(oC g0 p y 0).length:=by rw[cL];exact hj
     obtain⟨o,ck,a1,a2,a3,a4⟩:=hck j _ (List.getElem?_eq_getElem hl);have e:o=ρ j:=by have:=ρo j hj;rw[a1] at this;injection this
     subst e;refine⟨ck,a2,a3,?_,?_⟩
     ·simp only[eR,List.getD_eq_getElem?_getD,List.getElem?_eq_getElem hl,Option.getD_some];exact a4
     ·show((H (ρ j)).map (·.gen)).getD 0=_;rw[a2];rfl
    let pre':bT:=(oC g0 p y 0).map fun c=>(ρ c.1,(H (ρ c.1)).getD ⟨0,0,[]⟩)
    let post':bT:=iK ρ γ p q.2 0
    have Kpre:=z6 p y;have Kpost:=z6 p q.2;have le0:LE id g0 p.n (oC g0 p y 0) (oC g0 p y 0) 0:=wo (ρ:=id) (γ:=g0) (q:=p.n) p y 0 0 fun k hk=>⟨rfl,rfl⟩;have Kpre':Keyed pre' p.n ρ (fun k=>(H (ρ k)).getD ⟨0,0,[]⟩):=⟨by simp[pre',cL],fun k hk=>by
     have hk':k<(oC g0 p y 0).length:=by simpa[pre'] using hk
     have e:=(le0.nth k hk' hk').1;rw[Nat.zero_add] at e;simp only[pre',List.getElem_map,e],fun i j hi hj=>hinj i j hi hj⟩
    have lepost:LE ρ γ p.n post' (oC g0 p q.2 0) 0:=by have:=Fm (ρ:=ρ) (γ:=γ) (q:=p.n) p q.2 0;rw[vW] at this;exact this
    have Kpost':Keyed post' p.n ρ (eR post'):=lepost.keyed (cL g0 p q.2 0) hinj;have lpost':post'.length=p.n:=iT ρ γ p q.2 0;have ckp:∀k,k<p.n->mP ρ γ p.n (γ k) (eR post' k) (eR (oC g0 p q.2 0) k):=fun k hk=>by
     have hk1:k<(oC g0 p q.2 0).length:=by rw[cL];exact hk
     have hk2:k<post'.length:=by rw[lpost'];exact hk
     have:=(lepost.nth k hk1 hk2).2.2;rw[Nat.zero_add] at this;simp only[eR,List.getD_eq_getElem?_getD,List.getElem?_eq_getElem hk1,List.getElem?_eq_getElem hk2,Option.getD_some];exact this
    have flatRn:∀(l:List DV),(∀d,d∈l->bB (fun _=>False) d)->aX (Rn ρ γ p.n) l l:=fun l hl=>⟨rfl,fun j h1 h2=>.flat _ (hl _ (List.getElem_mem h1))⟩;have aggRn:Rn ρ γ p.n (.agg (jN ρ γ p y 0)) (.agg (oD g0 p y 0)):=by
     have w:=AO (ρ:=ρ) (γ:=γ) (q:=p.n) p y 0 (by omega);exact .agg _ _ w.1 w.2
    have ren:=de.rename (r:=ρ) (γ:=γ) (nb:=nx) (pre':=pre') (post':=post') (args':=fg ts1 x++.agg (jN ρ γ p y 0)::fg ts2 z) (res':=ft (fg ret q.1)) h0 hinj (fun j hj=>by obtain⟨_,_,b,_⟩:=at1 j hj;exact b) (fun j h1 h2=>by omega)
     ⟨fun j ck hj=>by
      obtain⟨k,hk,e,rfl⟩:=Kpre.mem hj;simp only[id] at e;subst e;obtain⟨ck',b1,b2,b3,b4⟩:=at1 j hk;refine⟨hk,ck',?_,by rw[b4];exact b3⟩;have:=Kpre'.get hk Hp.emp;rw[b1] at this;exact this,
     fun o ck' ho=>by
      obtain⟨k,hk,rfl,rfl⟩:=Kpre'.mem ho;exact⟨k,_,hk,rfl,Kpre.get hk Hp.emp⟩⟩
     (fun o ck' ho=>by
      obtain⟨k,hk,rfl,rfl⟩:=Kpost'.mem ho;exact⟨k,_,hk,rfl,Kpost.get hk Hp.emp,ckp k hk⟩)
     (fun j ck hj=>by
      obtain⟨k,hk,e,rfl⟩:=Kpost.mem hj;simp only[id] at e;subst e;exact⟨hk,_,Kpost'.get hk Hp.emp⟩)
     ((flatRn _ (kr ts1 x)).append ((flatRn _ (kr ts2 z)).cons aggRn))
     (.flat _ (px (kr ret q.1))) (fun j hj=>⟨_,Kpost.get hj Hp.emp⟩)
    rw[Nat.sub_self,Nat.add_zero] at ren;have pof:∀(k:Nat) (c:Nat×Ck),post'[k]? =some c->bK H post' (ρ k)=some c.2:=fun k c hk=>by
     obtain⟨hk1,hk2⟩:=List.getElem?_eq_some_iff.1 hk;rw[Kpost'.get (by rw[<-lpost'];exact hk1) H];simp only[eR,List.getD_eq_getElem?_getD,hk,Option.getD_some]
    have hsame:lZ [] H nx (bK H post') nx:=⟨Nat.le_refl _,fun o' ck' ho' _ hk'=>by
     by_cases hex:∃k,k<p.n/\o'=ρ k
     ·obtain⟨k,hk,rfl⟩:=hex;obtain⟨ck0,a1,a2,a3,a4⟩:=at1 k hk;rw[Kpost'.get hk H] at hk';injection hk' with hk';subst hk'
      have hE:=ckp k hk;have hl1:k<(oC g0 p y 0).length:=by rw[cL];exact hk
      have hl2:k<(oC g0 p q.2 0).length:=by rw[cL];exact hk
      have hl:=MZ p y q.2 0 k _ _ hlen (List.getElem?_eq_getElem hl1) (List.getElem?_eq_getElem hl2);have e1:eR (oC g0 p y 0) k=(oC g0 p y 0)[k].2:=by simp only[eR,List.getD_eq_getElem?_getD,List.getElem?_eq_getElem hl1,Option.getD_some]
      have e2:eR (oC g0 p q.2 0) k=(oC g0 p q.2 0)[k].2:=by simp only[eR,List.getD_eq_getElem?_getD,List.getElem?_eq_getElem hl2,Option.getD_some]
      obtain⟨t,l,e3⟩:=wg g0 p q.2 0 _ (List.getElem_mem hl2);refine⟨ck0,a1,?_,?_⟩
      ·rw[hE.g,e2,e3,a4];exact(Nat.zero_add _).symm
      ·rw[<-hE.l,e2,<-hl,<-e1];exact a3.l.symm
     ·rw[Kpost'.out (fun k hk e=>hex ⟨k,hk,e⟩) H] at hk';exact⟨ck',hk',rfl,rfl⟩⟩
    refine⟨_,_,_,_,_,hr,pre',ft (fg ret q.1),post',nx,?_,fun o ck ho=>?_,?_,?_,by rw[V3];exact hn,fun o c ho=>?_,DT (ug ret q.1),hsame⟩
    ·rw[hdal];exact ren.KP (w1.append (w2.cons (VR.Gk hw)))
    ·obtain⟨k,hk,rfl,rfl⟩:=Kpre'.mem ho;obtain⟨ck,b3,_⟩:=at1 k hk;rw[b3];rfl
    ·refine List.ext_getElem (by simp[pre',cL,hol]) fun k h1 h2=>?_;have hk:k<(oC g0 p y 0).length:=by simpa[pre'] using h1
     have e:=(le0.nth k hk hk).1;rw[Nat.zero_add] at e;simp only[pre',List.map_map,List.getElem_map,Function.comp_apply,e];have:=ρo k (by rw[<-hol];exact h2);rw[List.getElem?_eq_getElem h2] at this;injection this with this;exact this.symm
    ·refine List.ext_getElem (by rw[List.length_map,lpost',hol]) fun k h1 h2=>?_;have hk:k<post'.length:=by simpa using h1
     have hk3:k<(oC g0 p q.2 0).length:=by rw[cL,<-lpost'];exact hk
     have e:=(lepost.nth k hk3 hk).2.1;rw[Nat.zero_add] at e;rw[List.getElem_map,e];have:=ρo k (by rw[<-hol];exact h2);rw[List.getElem?_eq_getElem h2] at this;injection this with this;exact this.symm
    ·by_cases hm:o∈os
     ·obtain⟨k,hk,rfl⟩:=List.mem_iff_getElem.1 hm;have hkn:k<p.n:=by rw[<-hol];exact hk
      have hρ:os[k]=ρ k:=by have:=ρo k hkn;rw[List.getElem?_eq_getElem hk] at this;injection this
      obtain⟨ck0,a1,a2,_⟩:=at1 k hkn;rw[RJ os _ HI k _ (as8 hnd) (by rw[pJ,hol]) (List.getElem?_eq_getElem hk) (by rw[hn,hρ];exact a2)] at ho;obtain⟨cp,b1,b2⟩:=xR (H:=bK H post') (nx:=nx) (gs:=g0) p q.2 0 k c ho;have hl1:k<(oC g0 p q.2 0).length:=by rw[cL];exact hkn
      have hl2:k<post'.length:=by rw[lpost'];exact hkn
      have key:∀(p:PT) (x:El p.ty) (i k:Nat) (c d:Nat×Ck),(oC g0 p x i)[k]? =some c->(iK ρ γ p x i)[k]? =some d->d.2.sz=c.2.sz/\d.2.xs=c.2.xs:=by
       intro p;induction p with
       | v t=>intro x i k c d h1;simp[oC] at h1
       | a t=>
        intro x i k c d h1 h2;cases k with
        | zero=>
         simp only[oC,iK,List.getElem?_cons_zero,Option.some.injEq] at h1 h2;subst h1;subst h2;exact⟨rfl,rfl⟩
        | succ k=>simp[oC] at h1
       | p a b iha ihb=>
        intro x i k c d h1 h2;simp only[oC] at h1;simp only[iK] at h2;by_cases hlt:k<a.n
        ·rw[List.getElem?_append_left (by rw[cL];exact hlt)] at h1;rw[List.getElem?_append_left (by rw[iT];exact hlt)] at h2;exact iha x.1 i k c d h1 h2
        ·rw[List.getElem?_append_right (by rw[cL];omega),cL] at h1;rw[List.getElem?_append_right (by rw[iT];omega),iT] at h2;exact ihb x.2 (i+a.n) _ c d h1 h2
      obtain⟨e1,e2⟩:=key p q.2 0 k _ _ b1 (List.getElem?_eq_getElem hl2);refine⟨by rw[hρ];exact a2,_,by rw[hρ];exact pof k _ (List.getElem?_eq_getElem hl2),?_⟩;have harr:∀(p:PT) (x:El p.ty) (k:Nat) (c:cS),aK (oH p x) k=some c->∃t as,c=.arr t as:=by
       intro p;induction p with
       | v t=>intro x k c h;simp[oH,aK] at h
       | a t=>
        intro x k c h;cases k with
        | zero=>simp only[oH,aK,Option.some.injEq] at h;exact⟨_,_,h.symm⟩
        | succ k=>simp[oH,aK] at h
       | p a b iha ihb=>
        intro x k c h;simp only[oH] at h;rw[ot] at h;split at h
        ·exact iha _ _ _ h
        ·exact ihb _ _ _ h
      obtain⟨t,as,rfl⟩:=harr p q.2 k c ho;obtain⟨z1,z2⟩:=b2;exact⟨by rw[e1];exact z1,by rw[e2];exact z2⟩
     ·rw[N1 os _ HI o hm] at ho;obtain⟨d1,ck,d2,d3⟩:=hH o c ho;have hout:bK H post' o=H o:=Kpost'.out (fun k hk e=>hm (by rw[e];exact List.mem_of_getElem? (ρo k hk))) H;exact⟨d1,ck,by rw[hout];exact d2,d3.same hsame.LU⟩
  ·cases hr
 ·cases hr
def UG(E1 E2:eC):eC:=fun args H k=>(E1 args H k).or (E2 args H k)
theorem aur{P:Program}{f:FuncId}{E1 E2:eC}(h1:iY P f E1)(h2:iY P f E2):iY P f (UG E1 E2):=by
 intro R args HI k r hr;simp only[UG] at hr;cases h:E1 args HI k with
 | none=>rw[h,Option.none_or] at hr;exact h2 R args HI k r hr
 | some q=>rw[h] at hr;exact h1 R args HI k r (h.trans hr)
structure Nd where
 w:List (Bool×List NS):=[]
 ns:List NS:=[]
 an:List (Nat×An):=[]
 sg:List (Nat×List NS):=[]
def oo:List (Nat×Nd)->Nat->Nd
 | [],_=>{}
 | (k,d)::r,p=>_root_.cond (Nat.beq k p) d (oo r p)
def Ws:List (Nat×An)->Nat->An
 | [],_=>{}
 | (k,d)::r,p=>_root_.cond (Nat.beq k p) d (Ws r p)
def LL(an:List (Nat×An)):List RI->Nat->List TI
 | [],_=>[]
 | r::l,i=>⟨r,Ws an i⟩::LL an l (i+1)
def pw:List (Bool×List NS)->TC->TC
 | [],c=>c
 | (true,ns)::r,c=>.join ns (pw r c)
 | (false,ns)::r,c=>.pre ns (pw r c)
def Th(l:List TI)(i:Nat):List (Nat×List NS)->List (List TI×List NS)
 | []=>[(l,[])]
 | (k,ns)::r=>(l.take (k-i),ns)::Th (l.drop (k-i)) k r
def abe(d:Nd)(l:List RI)(un:Option (List (Nat×Nat))):TC:=match d.sg with
 | []=>.rg (LL d.an l 0) un
 | s::sg=>.xV (Th (LL d.an l 0) 0 (s::sg))
def TC.of(nt:List (Nat×Nd)):AC->Nat->TC
 | .skip,p=>pw (oo nt p).w .skip
 | .rg l un,p=>pw (oo nt p).w (abe (oo nt p) l un)
 | .seq a b,p=>pw (oo nt p).w (.seq (TC.of nt a (2*p)) (TC.of nt b (2*p+1)))
 | .cond c a b,p=>pw (oo nt p).w (.cond c (TC.of nt a (2*p)) (TC.of nt b (2*p+1)))
 | .block id c,p=>pw (oo nt p).w (.block id (TC.of nt c (2*p)))
 | .loop c,p=>pw (oo nt p).w (.loop (oo nt p).ns (TC.of nt c (2*p)))
 | .exit id,p=>pw (oo nt p).w (.exit id)
 | .ret,p=>pw (oo nt p).w .ret
 | _,_=>.bad
def TC.sub:TC->Nat->TC
 | .seq a b,p=>_root_.cond (Nat.beq p 1) (.seq a b) (_root_.cond (Nat.beq (p % 2) 0) (a.sub (p / 2)) (b.sub (p / 2)))
 | .cond c a b,p=>_root_.cond (Nat.beq p 1) (.cond c a b) (_root_.cond (Nat.beq (p % 2) 0) (a.sub (p / 2)) (b.sub (p / 2)))
 | .block i c,p=>_root_.cond (Nat.beq p 1) (.block i c) (c.sub (p / 2))
 | .loop ns c,p=>_root_.cond (Nat.beq p 1) (.loop ns c) (c.sub (p / 2))
 | .pre ns c,p=>_root_.cond (Nat.beq p 1) (.pre ns c) (c.sub (p / 2))
 | .join ns c,p=>_root_.cond (Nat.beq p 1) (.join ns c) (c.sub (p / 2))
 | c,_=>c
section
variable {R:Type} (env:List (Nat×eC)) (N nb:Nat)
def TC.pa:TC->Nat->List Nat->(Exit->SI->Option R)->(Exit->SI->Option R)
 | .seq a b,p,fu,k=>_root_.cond (Nat.beq p 1) k (_root_.cond (Nat.beq (p % 2) 0) (a.pa (p / 2) fu (jO (run env N nb b) k)) (b.pa (p / 2) fu k))
 | .cond _ a b,p,fu,k=>_root_.cond (Nat.beq p 1) k (_root_.cond (Nat.beq (p % 2) 0) (a.pa (p / 2) fu k) (b.pa (p / 2) fu k))
 | .block i c,p,fu,k=>_root_.cond (Nat.beq p 1) k (c.pa (p / 2) fu (lq i k))
 | .loop ns c,p,fu,k=>_root_.cond (Nat.beq p 1) k (match fu with
  | f::fu=>c.pa (p / 2) fu (jO (wO (fP nb ns) (kE (fP nb ns) (run env N nb c) f)) k)
  | []=>k)
 | .pre _ c,p,fu,k=>_root_.cond (Nat.beq p 1) k (c.pa (p / 2) fu k)
 | .join _ c,p,fu,k=>_root_.cond (Nat.beq p 1) k (c.pa (p / 2) fu k)
 | _,_,_,k=>k
def lp(c:TC)(p:Nat)(fu:List Nat)(k:Exit->SI->Option R)(n:Nat)(s:SI):Option R:=match TC.sub c p with
 | .loop ns b=>kE (fP nb ns) (run env N nb b) n s (TC.pa env N nb c p fu k)
 | _=>none
def jn(c:TC)(p:Nat)(fu:List Nat)(k:Exit->SI->Option R)(n:Nat)(s:SI):Option R:=match TC.sub c p with
 | .join _ b=>DJ (run env N nb b) n s (TC.pa env N nb c p fu k)
 | _=>none
end
def cod(P:Program)(nt:Nat)(ow:Nat->Bool)(fn:Func)(l:List (Nat×Nd)):TC:=TC.of l ((comp P nt ow (uG fn)).getD .bad) 1
end Go.Pv
