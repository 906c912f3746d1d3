/- Functions that turn boxes (which may hold arrays of their own), or make new boxes and arrays, or take functions: their contracts (SFOK), out of a walk by computation, and as entries. No condition of its own: over any program. -/
import Derived.Test.YtgmpjkgogjkfcaaGreatE
set_option linter.all false
namespace Go.Pv
open Go.RowKit
def oY(o:Nat)(t:GT)(as:List (El t)):IV->IV
 | .ptr o' i f=>cond (Nat.beq o' o) .any (.ptr o' i f)
 | .whole o'=>cond (Nat.beq o' o) (.ab false t as) (.whole o')
 | .part o' l n=>cond (Nat.beq o' o) (.ab false t ((as.drop l).take n)) (.part o' l n)
 | v=>v
def BC(o:Nat)(xs:List (List DV)):IV->DV->DV
 | .ptr o' _ _,d=>cond (Nat.beq o' o) .any d
 | .whole o',d=>cond (Nat.beq o' o) (.ab false xs) d
 | .part o' l n,d=>cond (Nat.beq o' o) (.ab false ((xs.drop l).take n)) d
 | _,d=>d
theorem xM{s:St}{o:Nat}{ck:Ck}{H':Hp}(hH:s.H o=some ck)(hpz:0<ck.sz)(flat:∀x∈ck.xs,∀c∈x,bB (fun _=>False) c)(sh:Shape s H' id s.nx)(ho:H' o=none)(g lo n:Nat)(hg:ck.gen=g)(hle:lo+n<=ck.xs.length):
  Tr s H' id s.nx (.own o g lo n) (.ab false ((ck.xs.drop lo).take n)):=by
 intro ps M w x hR hv;cases hv with
 | own _ _ _ _ _ h0 h1 hh=>
  obtain⟨_,hh⟩:=hh ck hH;obtain⟨_,a,cap,rfl,hn,hcap⟩:=hh hg;have hxl:((ck.xs.drop lo).take n).length=n:=by simp;omega
  by_cases hn0:n=0
  ·subst hn0;have:(ck.xs.drop lo).take 0=[]:=by simp
   rw[this];exact .fm false a cap (fun e=>by cases e)
  ·rcases hcap with hcap | ⟨p,hp1,rfl,htot⟩
   ·omega
   ·rcases hR.cr o ck hH with⟨q1,_⟩ | ⟨p',c,E,vs,q1,q2,q3,q4,q5,q6,q7⟩
    ·rw[hp1] at q1;cases q1
    ·rw[hp1] at q1;injection q1 with q1;subst q1
     have key:=VR.ab (H:=H') (ps:=fun j=>ps (id j)) (M:=M) (nx:=s.nx) (w:=w) false ((ck.xs.drop lo).take n) p.b (p.k+lo*ck.sz) cap ck.sz (fun i j=>vs (lo+i) j)
      (fun e=>by rw[e] at hxl;simp at hxl;omega) (by omega) (by rw[hxl];exact hn) (fun e=>by cases e) ?_ ?_ ?_ ?_ ?_
     ·rw[hxl] at key;exact key
     ·rintro(hm | ⟨j,ck',p',k1,k2,k3⟩)
      ·exact hR.dj o ck p hH hp1 hm
      ·obtain⟨_,ck1,r1,_⟩:=sh.hp j ck' k1;have:=hR.inj j o ck1 ck p' p r1 hH k2 hp1 k3;subst this;rw[ho] at k1;cases k1
     ·intro i hi;simp only[List.getElem_take,List.getElem_drop];exact q4 _ _
     ·intro i j hi hj;exact(q6 (lo+i) j (by omega) hj).1
     ·intro i j hi hj;have h2:=(q6 (lo+i) j (by omega) hj).2;have e:p.k+lo*ck.sz+(i*ck.sz+j)=p.k+((lo+i)*ck.sz+j):=by rw[Nat.add_mul];omega
      rw[q2.cell];rw[e];exact h2
     ·intro i j hi hj;have hi':lo+i<ck.xs.length:=by omega
      have hj':j<ck.xs[lo+i].length:=by simpa using hj
      have:=q7 (lo+i) j hi' hj';have fl:=flat _ (List.getElem_mem hi') _ (List.getElem_mem hj');have:=Tr.flat sh fl ps M w _ hR this;simpa using this
theorem ack{s:St}{o:Nat}{t:GT}{as:List (El t)}{ck:Ck}{H':Hp}(hH:s.H o=some ck)(hz:ck.sz=t.sz)(hp:0<t.sz)(hb:aX (cA t) as ck.xs)(sh:Shape s H' id s.nx)(ho:H' o=none):uJ ⟨oY o t as,BC o ck.xs⟩ s H' id s.nx:=by
 intro v d hr n1 n2 n3 n4 n5;have any:∀d,Rel H' s.nx .any .any/\Tr s H' id s.nx d .any:=fun d=>⟨.any _,fun ps M w x _ _=>.any x⟩;have flat:∀{xs:List (List DV)} {bs:List (El t)},aX (cA t) bs xs->∀x∈xs,∀c∈x,bB (fun _=>False) c:=by
  intro xs bs h x hx c hc;obtain⟨j,hj,rfl⟩:=List.mem_iff_getElem.1 hx;exact cA.ids t _ _ (h.2 j (by rw[h.1];exact hj) hj) c hc
 have ab:∀(g lo n:Nat),ck.gen=g->lo+n<=ck.xs.length->Tr s H' id s.nx (.own o g lo n) (.ab false ((ck.xs.drop lo).take n)):=fun g lo n hg hle=>xM hH (by omega) (flat hb) sh ho g lo n hg hle;have other:∀(o' j g lo n:Nat),Tr s H' id s.nx (.own o' g lo n) (.own o' g lo n):=by
  intro o' j g lo n ps M w x hR hv;cases hv with
  | own _ _ _ _ _ h0 h1 hh=>
   refine .own _ _ _ _ _ h0 h1 fun ck' hk=>?_;obtain⟨_,c1,k1,k2,k3,k4⟩:=sh.hp o' ck' hk;obtain⟨q1,q2⟩:=hh c1 k1;refine⟨by omega,fun e=>?_⟩;obtain⟨r1,a,cap,r2,r3,r4⟩:=q2 (by omega);exact⟨by omega,a,cap,r2,r3,by
    rcases r4 with r4 | ⟨p,p1,p2,p3⟩
    ·exact .inl r4
    ·exact .inr ⟨p,p1,by rw[k3];exact p2,by rw[k3];exact p3⟩⟩
 cases hr with
 | ptr o' g i off ho' h=>
  simp only[oY,BC];cases hq:Nat.beq o' o with
  | true=>exact any _
  | false=>
   refine⟨.ptr _ _ _ _ ho' fun ck' hk=>?_,fun ps M w x hR hv=>?_⟩
   ·obtain⟨_,c1,k1,k2,k3,k4⟩:=sh.hp o' ck' hk;have:=h c1 k1;exact⟨by omega,by omega⟩
   ·show VR H' ps M s.nx w _ x;cases hv with
    | ptr _ _ _ _ _ h0 h1 hh=>
     refine .ptr _ _ _ _ _ h0 h1 fun ck' hk=>?_;obtain⟨_,c1,k1,k2,k3,k4⟩:=sh.hp o' ck' hk;obtain⟨q1,q2⟩:=hh c1 k1;refine⟨by omega,fun e=>?_⟩;obtain⟨r1,p,r2,r3⟩:=q2 (by omega);exact⟨by omega,p,r2,by rw[k3];exact r3⟩
 | whole o' g n ho' h=>
  simp only[oY,BC];cases hq:Nat.beq o' o with
  | true=>
   have:=Nat.eq_of_beq_eq_true hq;subst this;obtain⟨e1,e2⟩:=h ck hH;refine⟨.ab _ _ _ _ _ (fun e=>by cases e) hb,?_⟩;have:=ab g 0 n e1 (by omega);rw[List.drop_zero,<-e2,List.take_length] at this;rw[e2] at this;exact this
  | false=>
   refine⟨.whole _ _ _ ho' fun ck' hk=>?_,other o' o' g 0 n⟩;obtain⟨_,c1,k1,k2,k3,k4⟩:=sh.hp o' ck' hk;have:=h c1 k1;exact⟨by omega,by omega⟩
 | part o' g lo n ho' h=>
  simp only[oY,BC];cases hq:Nat.beq o' o with
  | true=>
   have:=Nat.eq_of_beq_eq_true hq;subst this;obtain⟨e1,e2⟩:=h ck hH;exact⟨.ab _ _ _ _ _ (fun e=>by cases e) ((hb.drop lo).take n),ab g lo n e1 e2⟩
  | false=>
   refine⟨.part _ _ _ _ ho' fun ck' hk=>?_,other o' o' g lo n⟩;obtain⟨_,c1,k1,k2,k3,k4⟩:=sh.hp o' ck' hk;have:=h c1 k1;exact⟨by omega,by omega⟩
 | int k n=>exact⟨.int _ _,Tr.flat sh (.v _)⟩
 | bool b=>exact⟨.bool _,Tr.flat sh (.v _)⟩
 | str b=>exact⟨.str _,Tr.flat sh (.v _)⟩
 | raw x=>exact⟨.raw _,Tr.flat sh (.v _)⟩
 | nn=>exact⟨.nn,Tr.flat sh .nn⟩
 | nil=>exact⟨.nil,Tr.flat sh (.ab _ _ fun x hx=>by cases hx)⟩
 | ab f f' t' as' xs hf h=>
  refine⟨.ab _ _ _ _ _ hf h,Tr.flat sh (.ab _ _ fun x hx c hc=>?_)⟩;obtain⟨j,hj,rfl⟩:=List.mem_iff_getElem.1 hx;exact cA.ids t' _ _ (h.2 j (by rw[h.1];exact hj) hj) c hc
 | any=>exact absurd rfl n5
 | rp cs=>exact absurd rfl (n1 cs)
 | agg cs=>exact absurd rfl (n2 cs)
 | bh cs=>exact absurd rfl (n3 cs)
 | fn f cs=>exact absurd rfl (n4 f cs)
def Ni(o:Nat)(s:SI):SI:=match aK s.H o with
 | some (.arr t as)=>match Nat.ble 1 t.sz with
  | true=>⟨qD (oY o t as) s.T,fp (uD (oY o t as) s.H) o none⟩
  | false=>s
 | _=>s
def uN:List Nat->SI->SI
 | [],s=>s
 | o::r,s=>uN r (Ni o s)
theorem Zu{cx:Cx}{s:St}(hn:cx.nb<=s.nx):cx.nb<=s.nx/\∀o,o<cx.nb->id o=o:=⟨hn,fun o _=>rfl⟩
theorem asa{cx:Cx}{si:SI}{s:St}(o:Nat)(hs:SR si s)(hn:cx.nb<=s.nx):∃s',Wk cx s s'/\SR (Ni o si) s'/\cx.nb<=s'.nx:=by
 unfold Ni;split
 ·rename_i t as hc;split
  ·rename_i hz;obtain⟨ho,ck,h1,h2,h3⟩:=hs.h.at hc;have hp:=Nat.le_of_ble_eq_true hz;let φ:Ch:=⟨oY o t as,BC o ck.xs⟩
   let on:Nat->Bool:=fun j=> !(Nat.beq j o)
   have hoff:φ.hp si.H s.H id s.nx on o=none:=by simp[Ch.hp,on]
   have hH:∀j c',aK (fp (uD (oY o t as) si.H) o none) j=some c'->on j=true/\∃c,aK si.H (id j)=some c/\mY (oY o t as) (some c)=some c':=by
    intro j c' hj;rw[lW] at hj;by_cases hne:j=o/\o<(uD (oY o t as) si.H).length
    ·rw[if_pos hne] at hj;cases hj
    ·rw[if_neg hne] at hj;have hjo:j≠o:=fun e=>hne ⟨e,by rw[Ch.Hx φ];have:=hs.n;omega⟩;rw[Ch.TM φ] at hj;refine⟨?_,?_⟩
     ·simp only[on,Bool.not_eq_true'];cases hb:Nat.beq j o with
      | false=>rfl
      | true=>exact absurd (Nat.eq_of_beq_eq_true hb) hjo
     ·cases hg:aK si.H j with
      | none=>rw[hg] at hj;cases hj
      | some c=>rw[hg] at hj;exact⟨c,hg,hj⟩
   obtain⟨s',w,r⟩:=Ch.done (φ:=φ) (π:=id) hs (ack h1 h2 hp h3 Ch.FF hoff) (fun j j' _ _ _ _ e=>e) (Zu hn) (by rw[kS,Ch.Hx φ];exact hs.n) hH;exact⟨s',w,r,by have:=r.n;have e:=this;rw[kS,Ch.Hx φ] at e;have:=hs.n;omega⟩
  ·exact⟨s,Wk.refl _ _,hs,hn⟩
 ·exact⟨s,Wk.refl _ _,hs,hn⟩
theorem xB{cx:Cx}:∀(l:List Nat) {si:SI} {s:St},SR si s->cx.nb<=s.nx->∃s',Wk cx s s'/\SR (uN l si) s'/\cx.nb<=s'.nx
 | [],si,s,hs,hn=>⟨s,Wk.refl _ _,hs,hn⟩
 | o::r,si,s,hs,hn=>by
  obtain⟨s1,w1,r1,n1⟩:=asa o hs hn;obtain⟨s2,w2,r2,n2⟩:=xB r r1 n1;exact⟨s2,w1.trans w2,r2,n2⟩
theorem D9{cx:Cx}{T:List (Nat×IV)}{HI:IH}{s:St}(c:cS)(sz:Nat)(hc:dh s.H s.nx c ⟨0,sz,[]⟩)(hs:SR ⟨T,HI⟩ s)(hn:cx.nb<=s.nx):Wk cx s ⟨s.T,s.H.put s.nx (some ⟨0,sz,[]⟩),s.nx+1⟩/\SR ⟨T,HI++[some c]⟩ ⟨s.T,s.H.put s.nx (some ⟨0,sz,[]⟩),s.nx+1⟩:=
 ⟨Wk.ghost sz,by have:=hs.al hc (v:=.any) (d:=.any) (.any _) none;exact this⟩
def K9(t:Nat)(s:SI):Option SI:=match dy s.T t with
 | .whole o=>match aK s.H o with
  | some (.arr _ as)=>some ⟨(t,.part s.H.length 0 as.length)::s.T,s.H++[none]⟩
  | _=>none
 | _=>none
theorem Qm:∀(H:IH) (o:Nat),aK (H++[none]) o=aK H o
 | [],o=>by cases o<;>simp[aK]
 | c::H,0=>by simp[aK]
 | c::H,o+1=>by simpa[aK] using Qm H o
theorem aae{cx:Cx}{t:Nat}{si si':SI}{s:St}(hs:SR si s)(hn:cx.nb<=s.nx)(h:K9 t si=some si'):∃s',Wk cx s s'/\SR si' s'/\cx.nb<=s'.nx:=by
 unfold K9 at h;split at h
 ·rename_i o ho;split at h
  ·rename_i ty as hc;cases h;obtain⟨g,n,hd,hlt,hg⟩:=(ho▸hs.t t).nk;obtain⟨_,ck,h1,h2⟩:=hs.h.at hc;obtain⟨rfl,rfl⟩:=hg ck h1;have hl:=h2.2.1;refine⟨⟨cN s.T t (.own s.nx 0 0 as.length),s.H.put s.nx none,s.nx+1⟩,fun ps a w R=>⟨ps,?_⟩,⟨fun t'=>?_,fun o' c' hc'=>?_,by simp[hs.n]⟩,Nat.le_succ_of_le hn⟩
   ·have hin:∀o ck',s.H.put s.nx none o=some ck'->s.H o=some ck':=fun o ck' hk=>by
     by_cases e:o=s.nx
     ·subst e;rw[Hp.b9] at hk;cases hk
     ·rwa [Hp.aS _ _ _ e] at hk
    have kp:Kp s.H ps cx.M s.nx w (s.H.put s.nx none) ps cx.M (s.nx+1) w:=⟨Nat.le_succ _,fun o _ ck' hk=>⟨ck',hin o ck' hk,.inr ⟨rfl,rfl,Nat.le_refl _,rfl⟩⟩,fun b hb=>.inl (hb.elim .inl fun⟨o,ck,p,k1,k2,k3⟩=>.inr ⟨o,ck,p,hin o ck k1,k2,k3⟩),fun _ _ _=>rfl⟩;refine⟨fun t'=>?_,R.nt,⟨fun o ck' hk=>Nat.lt_succ_of_lt (R.hr.lt o ck' (hin o ck' hk)),fun o ck' hk=>(R.hr.cr o ck' (hin o ck' hk)).mono kp rfl fun _ _=>rfl,fun o o' c c' p p' k1 k2=>R.hr.inj o o' c c' p p' (hin _ _ k1) (hin _ _ k2),R.hr.ml,fun o c p k1=>R.hr.dj o c p (hin _ _ k1)⟩,R.fr,fun o c p k1=>R.lb o c p (hin _ _ k1),R.df,Nat.le_succ_of_le R.iP,fun o h0 ck' hk=>R.gm o h0 ck' (hin _ _ hk),R.fz⟩
    show VR _ _ _ _ _ (cN s.T t _ t') _;by_cases e:t'=t
    ·subst e;rw[wS];have:=R.t t';rw[hd] at this;cases this with
     | own _ _ _ _ _ q0 q1 q=>exact .own _ _ _ _ _ (Nat.lt_succ_self _) (by rw[hl];exact q1) fun ck' hk=>by have hk:s.H.put s.nx none s.nx=some ck':=hk;rw[Hp.b9] at hk;cases hk
    ·rw[tm _ _ _ _ e];exact(R.t t').mono kp
   ·have sm:k8 s.H s.nx (s.H.put s.nx none) (s.nx+1):=⟨Nat.le_succ _,fun o ck' hlt hk=>⟨ck',by rwa [Hp.aS _ _ _ (by omega)] at hk,rfl,rfl⟩⟩;simp only[dy];cases hb:Nat.beq t t' with
    | true=>
     rw[<-Nat.eq_of_beq_eq_true hb,wS];rw[hs.n];exact .part _ _ _ _ (Nat.lt_succ_self _) fun ck' hk=>by have hk:=hk;rw[Hp.b9] at hk;cases hk
    | false=>
     rw[tm _ _ _ _ (fun e=>by subst e;rw[Nat.beq_refl] at hb;cases hb)];exact(hs.t t').same sm
   ·have sm:k8 s.H s.nx (s.H.put s.nx none) (s.nx+1):=⟨Nat.le_succ _,fun o ck' hlt hk=>⟨ck',by rwa [Hp.aS _ _ _ (by omega)] at hk,rfl,rfl⟩⟩;rw[Qm] at hc';obtain⟨q1,ck',q2,q3⟩:=hs.h o' c' hc';exact⟨Nat.lt_succ_of_lt q1,ck',(by show s.H.put s.nx none o'=_;rw[Hp.aS _ _ _ (by omega)];exact q2),q3.same sm⟩
  ·cases h
 ·cases h
def KE(t:Nat)(ty:GT)(s:SI):Option SI:=match dy s.T t with
 | .nil=>some ⟨(t,.whole s.H.length)::s.T,s.H++[some (.arr ty [])]⟩
 | .ab true _ []=>some ⟨(t,.whole s.H.length)::s.T,s.H++[some (.arr ty [])]⟩
 | .whole _=>some s
 | .part o lo n=>match aK s.H o with
  | some (.arr ty' as)=>some ⟨(t,.whole o)::s3 o s.T,fp (ka o s.H) o (some (.arr ty' ((as.drop lo).take n)))⟩
  | _=>none
 | _=>none
def KM(t c:Nat)(ty:GT)(s:SI):Option SI:=match dy s.T t with
 | .ptr o 0 f=>match aK s.H o with
  | some (.box g cs)=>match cs[f+c]? with
   | some .nil=>some ⟨s.T,fp s.H o (some (.box g (cs.set (f+c) (.whole s.H.length))))++[some (.arr ty [])]⟩
   | some (.whole _)=>some s
   | _=>none
  | _=>none
 | _=>none
def iL(H:Hp)(n:Nat):Hp:=fun j=>if j<n then H j else none
theorem mL{H:Hp}{n j:Nat}{ck:Ck}(h:iL H n j=some ck):j<n/\H j=some ck:=by
 unfold iL at h;split at h
 ·exact⟨‹_›,h⟩
 ·cases h
theorem SR.cut{si:SI}{s:St}(h:SR si s):SR si ⟨s.T,iL s.H s.nx,s.nx⟩:=by
 have sm:k8 s.H s.nx (iL s.H s.nx) s.nx:=⟨Nat.le_refl _,fun o ck' _ hk=>⟨ck',(mL hk).2,rfl,rfl⟩⟩;refine⟨fun t=>(h.t t).same sm,fun o c hc=>?_,h.n⟩;obtain⟨h1,ck,h2,h3⟩:=h.h o c hc;exact⟨h1,ck,by simp only[iL,if_pos h1];exact h2,h3.same sm⟩
theorem sI{s:St}{H':Hp}(sh:Shape s H' id s.nx){d:DV}:Tr s H' id s.nx d d:=fun ps M w x hR hv=>by
 refine hv.mono ⟨Nat.le_refl _,fun o _ ck' hk=>?_,fun b hb=>.inl (sh.mu hb),fun _ _ _=>rfl⟩;obtain⟨_,ck,k1,k2,k3,k4⟩:=sh.hp o ck' hk;exact⟨ck,k1,.inr ⟨k2.symm,k3.symm,by simp only[id] at k1;omega,rfl⟩⟩
theorem S9{cx:Cx}{s:St}(o j:Nat)(d':DV)(T':Nat->DV)(hn:cx.nb<=s.nx)(box:Bool){ck:Ck}{ds:List DV}(hH:box=true->s.H o=some ck/\ck.xs=[ds]/\j<ds.length):
  let H':Hp:=iL (if box=true then s.H.put o (some ⟨ck.gen,ck.sz,[ds.set j d']⟩) else s.H) s.nx
  (∀t,Tr s H' id s.nx (s.T t) (T' t))->(box=true->Tr s H' id s.nx (ds.getD j .any) d')->Wk cx s ⟨T',H',s.nx⟩/\Shape s H' id s.nx:=by
 intro H' hT hd;have pick:∀q ck',H' q=some ck'->q<s.nx/\((box=true/\q=o/\ck'=⟨ck.gen,ck.sz,[ds.set j d']⟩)\/s.H q=some ck'/\(box=true->q≠o)):=by
  intro q ck' hq;obtain⟨h1,h2⟩:=mL hq;refine⟨h1,?_⟩;split at h2
  ·rename_i hb;by_cases e:q=o
   ·subst e;rw[Hp.b9] at h2;injection h2 with h2;exact .inl ⟨hb,rfl,h2.symm⟩
   ·rw[Hp.aS _ _ _ e] at h2;exact .inr ⟨h2,fun _=>e⟩
  ·rename_i hb;exact .inr ⟨h2,fun e=>absurd e hb⟩
 have sh:Shape s H' id s.nx:=⟨fun q ck' hq=>by
  obtain⟨h1,h2⟩:=pick q ck' hq;refine⟨h1,?_⟩;rcases h2 with⟨hb,rfl,rfl⟩ | ⟨h2,_⟩
  ·obtain⟨k1,k2,k3⟩:=hH hb;exact⟨ck,k1,rfl,rfl,by rw[k2];rfl⟩
  ·exact⟨ck',h2,rfl,rfl,rfl⟩⟩
 refine⟨Wk.tr ⟨sh,?_,fun j j' _ _ _ _ e=>e,hn,fun _ _=>rfl⟩ hT,sh⟩;intro q ck' ck1 hq hs1 i h1 h2;simp only[id] at hs1;rcases(pick q ck' hq).2 with⟨hb,rfl,rfl⟩ | ⟨h3,_⟩
 ·obtain⟨k1,k2,k3⟩:=hH hb;rw[k1] at hs1;cases hs1;have hi:i=0:=by simpa using h1
  subst hi;simp only[k2,List.getElem_cons_zero,List.length_set,true_and];intro c h3 h4;simp only[List.getElem_set];split
  ·rename_i e;subst e;have:=hd hb;rwa [List.getD_eq_getElem?_getD,List.getElem?_eq_getElem h4] at this
  ·exact sI sh
 ·rw[hs1] at h3;cases h3;exact⟨rfl,fun c h3 h4=>sI sh⟩
theorem F9{H H':Hp}{ps ps':Ps}{M:Nat->Prop}{nx o:Nat}{w:World}{x:Value}(h:VR H ps M nx w (.ab true []) x)(ho:o<nx):VR H' ps' M nx w (.own o 0 0 0) x:=by
 cases h with
 | fm _ a cap hf=>exact .own _ _ _ _ _ ho ⟨_,_,rfl⟩ fun ck hk=>⟨Nat.zero_le _,fun _=>⟨by simp,a,cap,rfl,by simp[hf rfl],.inl (hf rfl)⟩⟩
 | ab _ _ _ _ _ _ _ hne=>exact absurd rfl hne
theorem YD{H:Hp}{nx sz:Nat}{T:Nat->DV}:Rel (iL (H.put nx (some ⟨0,sz,[]⟩)) (nx+1)) (nx+1) (.whole nx) (.own nx 0 0 0):=
 .whole _ _ _ (Nat.lt_succ_self _) fun ck hk=>by
  have:=(mL hk).2;rw[Hp.b9] at this;cases this;exact⟨rfl,rfl⟩
theorem Wk.narrow{cx:Cx}{s:St}{t o g lo n:Nat}{ck:Ck}(ht:s.T t=.own o g lo n)(hH:s.H o=some ck)(hg:ck.gen=g)(hle:lo+n<=ck.xs.length):
  Wk cx s ⟨cN s.T t (.own o (g+1) 0 n),s.H.put o (some ⟨g+1,ck.sz,(ck.xs.drop lo).take n⟩),s.nx⟩:=fun ps a w R=>by
 have ho:o<s.nx:=R.hr.lt o ck hH;have hlen:((ck.xs.drop lo).take n).length=n:=by rw[List.length_take,List.length_drop];omega
 have m:Mv cx s.H ps s.nx w (s.H.put o (some ⟨g+1,ck.sz,(ck.xs.drop lo).take n⟩)) (ps.put o ((ps o).map fun p=>⟨p.b,p.k+lo*ck.sz,p.ju⟩)) s.nx w:=by
  refine Mv.cN o _ _ s.nx w R.hr R.fr R.lb (Nat.le_refl _) ho (.inr ⟨ck,hH,.inl (by show ck.gen<g+1;omega)⟩) ((eA.refl w).rf _) (fun p' h=>?_) fun kp=>?_
  ·cases hp:ps o with
   | none=>rw[hp] at h;cases h
   | some p=>rw[hp] at h;injection h with h;subst h;exact .inl ⟨ck,p,hH,rfl,rfl⟩
  ·rcases R.hr.cr o ck hH with⟨h1,h2⟩ | ⟨p,c,E,vs,h1,h2,h3,h4,h5,h6,h7⟩
   ·exact .inl ⟨by rw[Ps.b9,h1];rfl,by show(ck.xs.drop lo).take n=[];rw[h2];simp⟩
   ·have mul:(lo+n)*ck.sz<=ck.xs.length*ck.sz:=Nat.mul_le_mul_right _ hle;rw[Nat.add_mul] at mul;have el:∀i (hi:i<((ck.xs.drop lo).take n).length),∃h:lo+i<ck.xs.length,((ck.xs.drop lo).take n)[i]=ck.xs[lo+i]:=fun i hi=>⟨by omega,by simp⟩;refine .inr ⟨⟨p.b,p.k+lo*ck.sz,p.ju⟩,c,E,fun i j=>vs (lo+i) j,by rw[Ps.b9,h1];rfl,h2,h3,fun i hi=>?_,?_,fun i j hi hj=>?_,fun i j hi hj=>?_⟩
    ·obtain⟨hx,e⟩:=el i hi;show(((ck.xs.drop lo).take n)[i]).length=ck.sz;rw[e];exact h4 _ hx
    ·show p.k+lo*ck.sz+((ck.xs.drop lo).take n).length*ck.sz<=p.ju;rw[hlen];omega
    ·obtain⟨hx,_⟩:=el i hi;obtain⟨k1,k2⟩:=h6 (lo+i) j hx hj;refine⟨k1,?_⟩;show c[p.k+lo*ck.sz+(i*ck.sz+j)]? =_;rw[show p.k+lo*ck.sz+(i*ck.sz+j)=p.k+((lo+i)*ck.sz+j) by rw[Nat.add_mul];omega];exact k2
    ·obtain⟨hx,e⟩:=el i hi;have hj':j<(ck.xs[lo+i]).length:=by rw[<-e];exact hj
     have:=(h7 (lo+i) j hx hj').mono kp;simp only[e];exact this
 have R2:=RS.step (dst:=none) (d:=.any) (x:=undef) R m (.any _) (fun t h=>by cases h);refine⟨_,fun t'=>?_,R2.nt,R2.hr,R2.fr,R2.lb,R2.df,R2.iP,R2.gm,R2.fz⟩;simp only[cN];by_cases e:t'=t
 ·subst e;rw[if_pos rfl];have hv:=R.t t';rw[ht] at hv;show VR _ _ _ _ _ _ (a.tmps.getD t' undef);generalize a.tmps.getD t' undef=x at hv;cases hv with
  | own _ _ _ _ _ h0 h1 h=>
   obtain⟨_,hs⟩:=h ck hH;obtain⟨k1,a',cap,k2,k3,k4⟩:=hs hg;refine .own _ _ _ _ _ h0 h1 fun ck' hk=>?_;rw[Hp.b9] at hk;injection hk with hk;subst hk
   refine⟨Nat.le_refl _,fun _=>⟨by show 0+n<=((ck.xs.drop lo).take n).length;omega,a',cap,k2,k3,?_⟩⟩;rcases k4 with k4 | ⟨p,k5,k6,k7⟩
   ·exact .inl k4
   ·refine .inr ⟨⟨p.b,p.k+lo*ck.sz,p.ju⟩,by rw[Ps.b9,k5];rfl,?_,?_⟩
    ·show a'=some ⟨p.b,p.k+lo*ck.sz+0*ck.sz,none⟩;rw[k6,Nat.zero_mul,Nat.add_zero]
    ·show p.k+lo*ck.sz+(0+cap)*ck.sz<=p.ju;rw[Nat.add_mul] at k7;rw[Nat.zero_add];omega
 ·rw[if_neg e];exact R2.t t'
theorem avk{cx:Cx}{t:Nat}{ty:GT}{si si':SI}{s:St}(hs:SR si s)(hn:cx.nb<=s.nx)(h:KE t ty si=some si'):∃s',Wk cx s s'/\SR si' s'/\cx.nb<=s'.nx:=by
 have main:s.T t=.ab true []->si'=⟨(t,.whole si.H.length)::si.T,si.H++[some (.arr ty [])]⟩->∃s',Wk cx s s'/\SR si' s'/\cx.nb<=s'.nx:=by
  rintro ht rfl;obtain⟨w1,r1⟩:=D9 (cx:=cx) (.arr ty []) ty.sz (dh.og rfl aX.nil) (T:=si.T) (HI:=si.H) hs hn;obtain⟨w2,sh⟩:=S9 (cx:=cx) (s:=⟨s.T,s.H.put s.nx (some ⟨0,ty.sz,[]⟩),s.nx+1⟩) 0 0 .any (cN s.T t (.own s.nx 0 0 0)) (Nat.le_succ_of_le hn) false (ck:=⟨0,0,[]⟩) (ds:=[]) (fun e=>by cases e) (fun t'=>by
   intro ps M w x hR hv;simp only[cN,Bool.false_eq_true,if_false];by_cases e:t'=t
   ·subst e;rw[if_pos rfl];simp only[ht] at hv;exact F9 hv (Nat.lt_succ_self _)
   ·rw[if_neg e];refine hv.mono ⟨Nat.le_refl _,fun o _ ck' hk=>?_,?_,fun _ _ _=>rfl⟩
    ·obtain⟨_,hk⟩:=mL hk;exact⟨ck',hk,.inr ⟨rfl,rfl,Nat.le_refl _,rfl⟩⟩
    ·rintro b (hb | ⟨o,ck,p,k1,k2,k3⟩)
     ·exact .inl (.inl hb)
     ·exact .inl (.inr ⟨o,ck,p,(mL k1).2,k2,k3⟩)) (fun e=>by cases e)
  refine⟨_,w1.trans w2,?_,Nat.le_succ_of_le hn⟩;have r2:=r1.cut;refine⟨fun t'=>?_,r2.h,r2.n⟩;have:=uw r2.t (v:=.whole s.nx) (d:=.own s.nx 0 0 0) (YD (T:=s.T)) (some t) t';rw[<-hs.n] at this;rw[<-hs.n];exact this
 have hr:=hs.t t;unfold KE at h;split at h
 ·rename_i hv;rw[hv] at hr;injection h with h;exact main hr.pq h.symm
 ·rename_i hv;rw[hv] at hr;obtain⟨f',xs,hd,hf,hb⟩:=hr.nR;have:=hf rfl;subst this;rw[hb.dY] at hd;injection h with h;exact main hd h.symm
 ·injection h with h;subst h;exact⟨s,Wk.refl _ _,hs,hn⟩
 ·rename_i o lo n hv;rw[hv] at hr;split at h
  ·rename_i ty' as hc;injection h with h;subst h
   obtain⟨g,hd,ho,hgg⟩:=hr.qJ;obtain⟨_,ck,h1,h2,h3⟩:=hs.h.at hc;obtain⟨hg,hle⟩:=hgg ck h1;refine⟨_,Wk.narrow hd h1 hg hle,?_,hn⟩;exact SR.grow (T:=si.T) (HI:=si.H) hs ho (c:=.arr ty' ((as.drop lo).take n)) (ck':=⟨g+1,ck.sz,(ck.xs.drop lo).take n⟩) (dh.og h2 ((h3.drop lo).take n)) (d:=.own o (g+1) 0 n) (.whole _ _ _ ho fun ck' hk=>by
    rw[Hp.b9] at hk;injection hk with hk;subst hk;exact⟨rfl,by show((ck.xs.drop lo).take n).length=n;rw[List.length_take,List.length_drop];omega⟩) (some t)
  ·cases h
 ·cases h
theorem abx{cx:Cx}{t c:Nat}{ty:GT}{si si':SI}{s:St}(hs:SR si s)(hn:cx.nb<=s.nx)(h:KM t c ty si=some si'):∃s',Wk cx s s'/\SR si' s'/\cx.nb<=s'.nx:=by
 unfold KM at h;split at h
 ·rename_i o f hv;split at h
  ·rename_i gb cs hc;split at h
   ·rename_i hcell;cases h;obtain⟨ho,ck,h1,h2,ds,h3,h4,h5⟩:=hs.h.at hc;subst h5;obtain⟨w1,r1⟩:=D9 (.arr ty []) ty.sz (dh.og rfl aX.nil) hs hn;obtain⟨dc,q1,q2⟩:=aX.get? h4 hcell;have hjd:=(List.getElem?_eq_some_iff.1 q1).1;have hone:s.nx≠o:=by omega
    have hH1:(s.H.put s.nx (some ⟨0,ty.sz,[]⟩)) o=some ck:=by rw[Hp.aS _ _ _ (by omega)];exact h1
    obtain⟨w2,sh⟩:=S9 (s:=⟨s.T,s.H.put s.nx (some ⟨0,ty.sz,[]⟩),s.nx+1⟩) o (f+c) (.own s.nx 0 0 0) s.T (Nat.le_succ_of_le hn) true (ck:=ck) (ds:=ds) (fun _=>⟨hH1,h3,hjd⟩) (fun t'=>by
     intro ps M w x hR hv;refine hv.mono ⟨Nat.le_refl _,fun o' _ ck' hk=>?_,?_,fun _ _ _=>rfl⟩
     ·obtain⟨_,hk⟩:=mL hk;simp only[if_true] at hk;by_cases e:o'=o
      ·subst e;rw[Hp.b9] at hk;injection hk with hk;subst hk;exact⟨ck,hH1,.inr ⟨rfl,rfl,by rw[h3];simp,rfl⟩⟩
      ·rw[Hp.aS _ _ _ e] at hk;exact⟨ck',hk,.inr ⟨rfl,rfl,Nat.le_refl _,rfl⟩⟩
     ·rintro b (hb | ⟨o',ck',p,k1,k2,k3⟩)
      ·exact .inl (.inl hb)
      ·obtain⟨_,hk⟩:=mL k1;simp only[if_true] at hk;by_cases e:o'=o
       ·subst e;exact .inl (.inr ⟨o',ck,p,hH1,k2,k3⟩)
       ·rw[Hp.aS _ _ _ e] at hk;exact .inl (.inr ⟨o',ck',p,hk,k2,k3⟩)) (fun _=>by
     rw[List.getD_eq_getElem?_getD,q1,Option.getD_some,q2.pq];exact fun ps M w x hR hv=>F9 hv (Nat.lt_succ_self _))
    refine⟨_,w1.trans w2,?_,Nat.le_succ_of_le hn⟩;simp only[if_true] at sh ⊢;have sm:k8 (s.H.put s.nx (some ⟨0,ty.sz,[]⟩)) (s.nx+1) (iL ((s.H.put s.nx (some ⟨0,ty.sz,[]⟩)).put o (some ⟨ck.gen,ck.sz,[ds.set (f+c) (.own s.nx 0 0 0)]⟩)) (s.nx+1)) (s.nx+1):=
     ⟨Nat.le_refl _,fun o' ck' _ hk=>by
      obtain⟨_,k1,k2,k3,k4⟩:=(sh.hp o' ck' hk).2;exact⟨_,k1,k2.symm,k4.symm⟩⟩
    refine⟨fun t'=>(r1.t t').same sm,fun q c' hq=>?_,by simp[kS];exact hs.n⟩;have hwhole:Rel (iL ((s.H.put s.nx (some ⟨0,ty.sz,[]⟩)).put o (some ⟨ck.gen,ck.sz,[ds.set (f+c) (.own s.nx 0 0 0)]⟩)) (s.nx+1)) (s.nx+1) (.whole s.nx) (.own s.nx 0 0 0):=
     .whole _ _ _ (Nat.lt_succ_self _) fun ck1 hk=>by
      have:=(mL hk).2;rw[Hp.aS _ _ _ hone,Hp.b9] at this;injection this with this;subst this;exact⟨rfl,rfl⟩
    have hset:aK (si.H++[some (.arr ty [])]) q=aK (si.H++[some (.arr ty [])]) q:=rfl;rw[Gd] at hq;split at hq
    ·rename_i e;cases hq;rw[kS] at e;have e':=e.trans hs.n;subst e';refine⟨Nat.lt_succ_self _,⟨0,ty.sz,[]⟩,?_,dh.og rfl aX.nil⟩;simp only[iL,Nat.lt_succ_self,if_true];rw[Hp.aS _ _ _ hone,Hp.b9]
    ·rw[lW] at hq;split at hq
     ·rename_i e;obtain⟨rfl,_⟩:=e;cases hq;refine⟨Nat.lt_succ_of_lt ho,_,by simp only[iL,Nat.lt_succ_of_lt ho,if_true];rw[Hp.b9],dh.iR (by simpa using h2) ?_⟩;have hx:bR (iL ((s.H.put s.nx (some ⟨0,ty.sz,[]⟩)).put q (some ⟨ck.gen,ck.sz,[ds.set (f+c) (.own s.nx 0 0 0)]⟩)) (s.nx+1)) (s.nx+1) cs ds:=⟨h4.1,fun a b c=>((h4.2 a b c).same (QL (ck:=⟨0,ty.sz,[]⟩))).same sm⟩;have:=hx.set (f+c) hwhole;rw[show si.H.length=s.nx from hs.n];exact this
     ·rename_i e;have hne:q≠o:=fun e'=>e ⟨e',by have:=hs.n;omega⟩;have hql:=sV _ _ _ hq;have hq':=r1.h q c' (by rw[Gd,if_neg (by omega)];exact hq);obtain⟨a1,ck1,a2,a3⟩:=hq';exact⟨a1,ck1,by simp only[iL];rw[if_pos a1,Hp.aS _ _ _ hne];exact a2,a3.same sm⟩
   ·cases h;exact⟨s,Wk.refl _ _,hs,hn⟩
   ·cases h
  ·cases h
 ·cases h
def qF:GT->List IV->List IV×List IV
 | .list t,.nil::r=>([.ab false t []],r)
 | .list _,.ab _ t' as::r=>([.ab false t' as],r)
 | .pair a b,cs=>match qF a cs with
  | (x,r)=>match qF b r with
   | (y,r')=>(x++y,r')
 | .unit,cs=>([],cs)
 | _,c::r=>([c],r)
 | _,[]=>([],[])
theorem ML{H:Hp}{nx:Nat}:∀(t:GT) (cs:List IV) (ds:List DV),bR H nx cs ds->∃d1 d2,ds=d1++d2/\bR H nx (qF t cs).1 d1/\bR H nx (qF t cs).2 d2:=by
 have one:∀(c:IV) (r:List IV) (ds:List DV),bR H nx (c::r) ds->∃d1 d2,ds=d1++d2/\bR H nx [c] d1/\bR H nx r d2:=by
  intro c r ds h;obtain⟨d,ds,rfl,h1,h2⟩:=h.dD;exact⟨[d],ds,rfl,.one h1,h2⟩
 have zero:∀(cs:List IV) (ds:List DV),bR H nx cs ds->∃d1 d2,ds=d1++d2/\bR H nx [] d1/\bR H nx cs d2:=fun cs ds h=>⟨[],ds,rfl,.nil,h⟩;intro t;induction t with
 | list t ih=>
  intro cs ds h;cases cs with
  | nil=>exact zero [] ds h
  | cons c r=>
   obtain⟨d,ds,rfl,h1,h2⟩:=h.dD;cases c with
   | nil=>rw[h1.pq];exact⟨[.ab true []],ds,rfl,.one (.ab _ _ _ _ _ (fun e=>by cases e) .nil),h2⟩
   | ab f t' as=>
    obtain⟨f',xs,rfl,_,h3⟩:=h1.nR;exact⟨[.ab f' xs],ds,rfl,.one (.ab _ _ _ _ _ (fun e=>by cases e) h3),h2⟩
   | _=>exact⟨[d],ds,rfl,.one h1,h2⟩
 | pair a b iha ihb=>
  intro cs ds h;obtain⟨d1,d2,rfl,h1,h2⟩:=iha cs ds h;obtain⟨d3,d4,rfl,h3,h4⟩:=ihb _ d2 h2;refine⟨d1++d3,d4,by simp,?_,?_⟩
  ·simp only[qF];exact h1.append h3
  ·simp only[qF];exact h4
 | unit=>intro cs ds h;exact zero cs ds h
 | _=>
  intro cs ds h;cases cs with
  | nil=>exact zero [] ds h
  | cons c r=>exact one c r ds h
def Hq(t:GT):IV->IV
 | .agg cs=>match qF t cs with
  | (x,r)=>.agg (x++r)
 | .nil=>match qF t [.nil] with
  | ([c],[])=>c
  | _=>.nil
 | .ab f t' as=>.ab false t' as
 | v=>v
theorem Ue{H:Hp}{nx:Nat}{t:GT}{v:IV}{d:DV}(h:Rel H nx v d):Rel H nx (Hq t v) d:=by
 unfold Hq;split
 ·obtain⟨ds,rfl,k⟩:=h.fj;obtain⟨d1,d2,rfl,h1,h2⟩:=ML t _ _ k;exact Rel.lO (h1.append h2)
 ·split
  ·rename_i c he;obtain⟨d1,d2,e,h1,h2⟩:=ML t [.nil] [d] (.one h);rw[he] at h1 h2;obtain⟨d',rfl,h3⟩:=h1.p7;have:=h2.dY;subst this;simp only[List.append_nil,List.cons.injEq,and_true] at e;rw[e];exact h3
  ·exact h
 ·obtain⟨f',xs,rfl,_,h3⟩:=h.nR;exact .ab _ _ _ _ _ (fun e=>by cases e) h3
 ·exact h
inductive NS where
 | af (ts:List Nat)
 | own (t:Nat) (ty:GT)
 | aM (t c:Nat) (ty:GT)
 | ej (t:Nat)
 | cy (t:Nat)
 | cO (o:Nat)
 | bg (t c:Nat)
 | drop (t c:Nat)
 | DH (t c:Nat) (ty:GT)
 | wait
 | wk (t:Nat) (ty:GT)
 | Sl (t:Nat) (ty:GT)
 | cmp
 | out (bs:List Nat)
 | ghost (ty:GT)
 | sl (t:Nat)
def Hd(T:List (Nat×IV)):List Nat->List (Nat×IV)
 | []=>[]
 | t::r=>(t,dy T t)::Hd T r
theorem Vi{H:Hp}{nx:Nat}{T:List (Nat×IV)}{T':Nat->DV}(h:∀t,Rel H nx (dy T t) (T' t)):∀(ts:List Nat) (t:Nat),Rel H nx (dy (Hd T ts) t) (T' t)
 | [],t=>.any _
 | a::r,t=>by
  simp only[Hd,dy];cases hb:Nat.beq a t with
  | true=>rw[<-Nat.eq_of_beq_eq_true hb];exact h a
  | false=>exact Vi h r t
def mz(nb:Nat)(n:NS)(s:SI):Option SI:=
 match n with
 | .af ts=>some ⟨Hd s.T ts,s.H⟩
 | .own t ty=>KE t ty s
 | .aM t c ty=>KM t c ty s
 | .ej t=>some (uN (VQ (dy s.T t)) s)
 | .cy t=>match dy s.T t with
  | .ptr o _ _=>match aK s.H o with
   | some (.box _ cs)=>some (uN (cs.flatMap oX) s)
   | _=>none
  | _=>none
 | .bg t c=>match dy s.T t with
  | .ptr o _ f=>match aK s.H o with
   | some (.box _ cs)=>some (uN (oX (cs.getD (f+c) .any)) s)
   | _=>none
  | .agg cs=>some (uN (oX (cs.getD c .any)) s)
  | _=>none
 | .drop t c=>match dy s.T t with
  | .ptr o _ f=>match aK s.H o with
   | some (.box g cs)=>some ⟨s.T,fp s.H o (some (.box g (cs.set (f+c) .any)))⟩
   | _=>none
  | _=>none
 | .DH t c ty=>match dy s.T t with
  | .ptr o _ f=>match aK s.H o with
   | some (.box g cs)=>some ⟨s.T,fp s.H o (some (.box g (cs.set (f+c) (Hq ty (cs.getD (f+c) .any)))))⟩
   | _=>none
  | _=>none
 | .cO o=>match aK s.H o with
  | some (.box _ cs)=>some (uN (cs.flatMap oX) s)
  | _=>none
 | .wait=>some ⟨s.T,s.H++[some .wait]⟩
 | .wk t ty=>some ⟨(t,Hq ty (dy s.T t))::s.T,s.H⟩
 | .Sl t ty=>match dy s.T t with
  | .ptr o 0 0=>match aK s.H o with
   | some (.box g cs)=>match qF ty cs with
    | (x,r)=>some ⟨s.T,fp s.H o (some (.box g (x++r)))⟩
   | _=>none
  | _=>none
 | .cmp=>Od nb s
 | .out bs=>M3 nb bs s
 | .ghost ty=>some ⟨s.T,s.H++[some (.arr ty [])]⟩
 | .sl t=>K9 t s
def fP(nb:Nat):List NS->SI->Option SI
 | [],s=>some s
 | n::r,s=>match mz nb n s with
  | some s'=>fP nb r s'
  | none=>none
theorem Wl{si:SI}{s:St}(hs:SR si s){o g:Nat}{cs:List IV}(hc:aK si.H o=some (.box g cs))(j:Nat)(v:IV)(hv:∀(h:j<cs.length) (d:DV),Rel s.H s.nx cs[j] d->Rel s.H s.nx v d):SR ⟨si.T,fp si.H o (some (.box g (cs.set j v)))⟩ s:=by
 refine⟨hs.t,fun q c' hq=>?_,by rw[kS];exact hs.n⟩;rw[lW] at hq;by_cases e:q=o/\o<si.H.length
 ·rw[if_pos e] at hq;obtain⟨rfl,_⟩:=e;cases hq;obtain⟨ho,ck,h1,h2,ds,h3,h4,h5⟩:=hs.h.at hc;refine⟨ho,ck,h1,by simp[h2],ds,h3,⟨by simp[h4.1],fun i a b=>?_⟩,h5⟩;rw[List.getElem_set];split
  ·rename_i e;subst e;exact hv (by simpa using a) _ (h4.2 j (by simpa using a) b)
  ·exact h4.2 i (by simpa using a) b
 ·rw[if_neg e] at hq;exact hs.h q c' hq
theorem as2{cx:Cx}{n:NS}{si si':SI}{s:St}(hs:SR si s)(hn:cx.nb<=s.nx)(h:mz cx.nb n si=some si'):∃s',Wk cx s s'/\SR si' s'/\cx.nb<=s'.nx:=by
 cases n with
 | af ts=>simp only[mz] at h;cases h;exact⟨s,Wk.refl _ _,⟨Vi hs.t ts,hs.h,hs.n⟩,hn⟩
 | own t ty=>exact avk hs hn h
 | aM t c ty=>exact abx hs hn h
 | ej t=>simp only[mz] at h;cases h;exact xB _ hs hn
 | cy t=>
  simp only[mz] at h;split at h
  ·split at h
   ·cases h;exact xB _ hs hn
   ·cases h
  ·cases h
 | bg t c=>
  simp only[mz] at h;split at h
  ·split at h
   ·cases h;exact xB _ hs hn
   ·cases h
  ·cases h;exact xB _ hs hn
  ·cases h
 | drop t c=>
  simp only[mz] at h;split at h
  ·split at h
   ·rename_i hc;cases h;exact⟨s,Wk.refl _ _,Wl hs hc _ _ fun _ _ _=>.any _,hn⟩
   ·cases h
  ·cases h
 | DH t c ty=>
  simp only[mz] at h;split at h
  ·split at h
   ·rename_i hc;cases h;refine⟨s,Wk.refl _ _,Wl hs hc _ _ fun h d k=>?_,hn⟩;rw[List.getD_eq_getElem?_getD,List.getElem?_eq_getElem h];exact Ue k
   ·cases h
  ·cases h
 | cO o=>
  simp only[mz] at h;split at h
  ·cases h;exact xB _ hs hn
  ·cases h
 | wait=>
  simp only[mz] at h;cases h;obtain⟨w,r⟩:=D9 .wait 0 ⟨0,rfl⟩ hs hn;exact⟨_,w,r,Nat.le_succ_of_le hn⟩
 | wk t ty=>
  simp only[mz] at h;cases h;refine⟨s,Wk.refl _ _,⟨fun t'=>?_,hs.h,hs.n⟩,hn⟩;simp only[dy];cases hb:Nat.beq t t' with
  | true=>rw[<-Nat.eq_of_beq_eq_true hb];exact Ue (hs.t t)
  | false=>exact hs.t t'
 | Sl t ty=>
  simp only[mz] at h;split at h
  ·rename_i o hv;split at h
   ·rename_i gb cs hc;cases h;refine⟨s,Wk.refl _ _,⟨hs.t,fun q c' hq=>?_,by rw[kS];exact hs.n⟩,hn⟩;rw[lW] at hq;by_cases e:q=o/\o<si.H.length
    ·rw[if_pos e] at hq;obtain⟨rfl,_⟩:=e;cases hq;obtain⟨ho,ck,h1,h2,ds,h3,h4,h5⟩:=hs.h.at hc;obtain⟨d1,d2,rfl,k1,k2⟩:=ML ty _ _ h4;exact⟨ho,ck,h1,by rw[h2,h4.1,(k1.append k2).1],_,h3,k1.append k2,h5⟩
    ·rw[if_neg e] at hq;exact hs.h q c' hq
   ·cases h
  ·cases h
 | cmp=>exact Yq hs h
 | sl t=>exact aae hs hn h
 | out bs=>exact amb hs h
 | ghost ty=>
  simp only[mz] at h;cases h;obtain⟨w,r⟩:=D9 (.arr ty []) ty.sz (dh.og rfl aX.nil) hs hn;exact⟨_,w,r,Nat.le_succ_of_le hn⟩
theorem uW{cx:Cx}:∀(l:List NS) {si si':SI} {s:St},SR si s->cx.nb<=s.nx->fP cx.nb l si=some si'->∃s',Wk cx s s'/\SR si' s'/\cx.nb<=s'.nx
 | [],si,si',s,hs,hn,h=>by simp only[fP,Option.some.injEq] at h;subst h;exact⟨s,Wk.refl _ _,hs,hn⟩
 | n::r,si,si',s,hs,hn,h=>by
  simp only[fP] at h;split at h
  ·rename_i s1 h1;obtain⟨t1,w1,r1,n1⟩:=as2 hs hn h1;obtain⟨t2,w2,r2,n2⟩:=uW r r1 n1 h;exact⟨t2,w1.trans w2,r2,n2⟩
  ·cases h
inductive TC where
 | skip
 | rg (l:List TI) (un:Option (List (Nat×Nat)))
 | xV (l:List (List TI×List NS))
 | seq (a b:TC)
 | cond (c:RO) (a b:TC)
 | block (id:Nat) (c:TC)
 | loop (ns:List NS) (c:TC)
 | exit (id:Nat)
 | ret
 | pre (ns:List NS) (c:TC)
 | join (ns:List NS) (c:TC)
 | hand (as:List AC) (t:GT) (g:SI->Option (El t)) (u:El t->SI->SI) (c:TC)
 | pv (g:RO) (p fb:Nat) (ns:List NS) (a b:TC)
 | bad
def NM:List AC->AC->AC
 | [],c=>c
 | a::r,c=>.seq a (NM r c)
def TC.er:TC->AC
 | .skip=>.skip
 | .rg l un=>.rg (l.map (·.ri)) un
 | .xV l=>.rg (l.flatMap fun q=>q.1.map (·.ri)) none
 | .seq a b=>.seq a.er b.er
 | .cond c a b=>.cond c a.er b.er
 | .block id c=>.block id c.er
 | .loop _ c=>.loop c.er
 | .exit id=>.exit id
 | .ret=>.ret
 | .pre _ c=>c.er
 | .join _ c=>c.er
 | .hand as _ _ _ c=>NM as c.er
 | .pv g p _ _ a b=>.pv g p a.er b.er
 | .bad=>.bad
section run
variable {R:Type}
def jO(f:SI->(Exit->SI->Option R)->Option R)(k:Exit->SI->Option R):Exit->SI->Option R
 | .normal,s=>f s k
 | e,s=>k e s
def lq(id:Nat)(k:Exit->SI->Option R):Exit->SI->Option R
 | .exit id',s=>eE (Nat.beq id' id) (k .normal s) (k (.exit id') s)
 | e,s=>k e s
def KU(un:Option (List (Nat×Nat)))(n:Nat)(k:Exit->SI->Option R):List (Nat×IV)->IH->Lg->Option R:=match un with
 | none=>fun T H _=>k .normal ⟨T,H⟩
 | some uo=>fun T H lg=>eE (VJ uo lg && Nat.beq H.length n) (k .normal ⟨T,H⟩) none
def mN(o:Option SI)(f:SI->Option R):Option R:=match o with
 | some s=>f s
 | none=>none
def wO(g:SI->Option SI)(h:SI->(Exit->SI->Option R)->Option R):SI->(Exit->SI->Option R)->Option R:=fun s k=>mN (g s) fun s'=>h s' k
def kE(g:SI->Option SI)(f:SI->(Exit->SI->Option R)->Option R):Nat->SI->(Exit->SI->Option R)->Option R
 | 0,_,_=>none
 | n+1,s,k=>f s (jO (wO g (kE g f n)) k)
def DJ(f:SI->(Exit->SI->Option R)->Option R):Nat->SI->(Exit->SI->Option R)->Option R
 | 0,_,_=>none
 | _+1,s,k=>f s k
def D8(T:List (Nat×IV))(c:RO)(b:Bool):List (Nat×IV):=match c with
 | .t n=>(n,.bool b)::T
 | .c _=>T
def FB(env:List (Nat×eC))(nb:Nat):List (List TI×List NS)->SI->(SI->Option R)->Option R
 | [],s,k=>k s
 | (l,ns)::r,s,k=>nC env l s.T s.H [] fun T H _=>mN (fP nb ns ⟨T,H⟩) fun s'=>FB env nb r s' k
def run(env:List (Nat×eC))(N nb:Nat):TC->SI->(Exit->SI->Option R)->Option R
 | .skip,s,k=>k .normal s
 | .rg l un,s,k=>nC env l s.T s.H [] (KU un s.H.length k)
 | .xV l,s,k=>FB env nb l s fun s'=>k .normal s'
 | .seq a b,s,k=>run env N nb a s (jO (run env N nb b) k)
 | .cond c a b,s,k=>match dG s.T c with
  | .bool q=>eE q (run env N nb a ⟨D8 s.T c true,s.H⟩ k) (run env N nb b ⟨D8 s.T c false,s.H⟩ k)
  | _=>none
 | .block id c,s,k=>run env N nb c s (lq id k)
 | .loop ns c,s,k=>mN (fP nb ns s) fun s'=>kE (fP nb ns) (run env N nb c) N s' k
 | .exit id,s,k=>k (.exit id) s
 | .ret,s,k=>k .ret s
 | .pre ns c,s,k=>mN (fP nb ns s) fun s'=>run env N nb c s' k
 | .join ns c,s,k=>mN (fP nb ns s) fun s'=>DJ (run env N nb c) N s' k
 | .hand _ _ g u c,s,k=>Option.bind (g s) fun y=>run env N nb c (u y s) k
 | .pv _ _ _ _ _ _,_,_=>none
 | .bad,_,_=>none
end run
section sound
variable {R:Type} {P:Program} {cx:Cx} {ow:Nat->Bool} {r:R} {env:List (Nat×eC)}
def DE(k:Exit->SI->Option R)(r:R):Exit->St->Prop:=fun e s'=>∃si',SR si' s'/\k e si'=some r
theorem ZV{un:List (Nat×Nat)}{lg:Lg}(h:VJ un lg=true):K2 un lg:=by
 intro p hp;have:=List.all_eq_true.1 h p hp;simp only[Wm,Bool.and_eq_true,List.all_eq_true,Bool.not_eq_true',List.contains_eq_mem,decide_eq_false_iff_not] at this;exact⟨fun o ho=>this.1 o ho,fun o ho=>this.2 o ho⟩
theorem D4{P:Program}:∀(l:List RI) (lg:Lg) (s:St) (K K':Lg->St->Prop),(∀lg s,K lg s->K' lg s)->dz P l lg s K->dz P l lg s K'
 | [],lg,s,K,K',hk,h=>hk _ _ h
 | i::l,lg,s,K,K',hk,h=>by
  obtain⟨e,h1,h2⟩:=h;exact⟨e,h1,D4 l _ _ K K' hk h2⟩
theorem ar.iP{ac:AC}{Q:Exit->St->Prop}{s:St}(h:cx.nb<=s.nx->ar P cx ow ac Q s):ar P cx ow ac Q s:=fun hm c hc hz ps a w R=>h R.iP hm c hc hz ps a w R
theorem dB.iP{ac:AC}{Q:Exit->St->Prop}{s:St}(h:cx.nb<=s.nx->dB P cx ow ac Q s):dB P cx ow ac Q s:=fun hm c hc hz ps a w R=>h R.iP hm c hc hz ps a w R
theorem Uq{g:SI->Option SI}{f:SI->(Exit->SI->Option R)->Option R}{ac:AC}(hg:∀si si' s,SR si s->cx.nb<=s.nx->g si=some si'->∃s',Wk cx s s'/\SR si' s'/\cx.nb<=s'.nx)
  (hf:∀si k s,SR si s->f si k=some r->ar P cx ow ac (DE k r) s):∀(n:Nat) (si:SI) (k:Exit->SI->Option R) (s:St),SR si s->kE g f n si k=some r->dB P cx ow ac (DE k r) s
 | 0,si,k,s,hs,h=>by simp[kE] at h
 | n+1,si,k,s,hs,h=>by
  simp only[kE] at h;refine dB.P7 ((hf _ _ _ hs h).mono ?_);rintro e s' ⟨si',h1,h2⟩;cases e with
  | normal=>
   simp only[jO,wO] at h2;refine dB.iP fun hnb=>?_;cases hgs:g si' with
   | none=>simp[hgs,mN] at h2
   | some si2=>
    rw[hgs] at h2;obtain⟨s2,w2,r2,_⟩:=hg si' si2 s' h1 hnb hgs;exact dB.wk w2 (Uq hg hf n si2 k s2 r2 h2)
  | _=>exact⟨si',h1,h2⟩
theorem Sr(hE:iS P env):∀(l:List (List TI×List NS)) (si:SI) (k:SI->Option R) (s:St),SR si s->FB env cx.nb l si k=some r->
  jB P cx (l.flatMap fun q=>q.1.map (·.ri)) s fun s'=>∃si',SR si' s'/\k si'=some r
 | [],si,k,s,hs,h=>fun _=>⟨s,Wk.refl _ _,si,hs,h⟩
 | (l,ns)::r',si,k,s,hs,h=>by
  simp only[FB] at h;have h1:=GO hE l si.T si.H [] _ s hs h;simp only[List.flatMap_cons];refine jB.of (D4 _ _ _ _ _ ?_ h1);rintro lg s1 ⟨T',H',r1,r2⟩;cases hg:fP cx.nb ns ⟨T',H'⟩ with
  | none=>simp[hg,mN] at r2
  | some s2i=>
   rw[hg] at r2;simp only[mN] at r2;refine jB.nb fun hn=>?_;obtain⟨s2,w2,q2,n2⟩:=uW ns r1 hn hg;exact jB.wk w2 n2 (Sr hE r' s2i k s2 q2 r2)
def WQ(P:Program)(nt:Nat)(ow:Nat->Bool)(as:List AC)(t:GT)(g:SI->Option (El t))(u:El t->SI->SI):Prop:=∀(cx:Cx),cx.nt=nt->∀(si:SI) (y:El t) (s:St) (c:AC) (Q:Exit->St->Prop),SR si s->cx.nb<=s.nx->g si=some y->(∀s',SR (u y si) s'->cx.nb<=s'.nx->ar P cx ow c Q s')->ar P cx ow (NM as c) Q s
def TC.eu(P:Program)(nt:Nat)(ow:Nat->Bool)(inr:Bool):TC->Prop
 | .seq a b=>a.eu P nt ow inr/\b.eu P nt ow inr
 | .cond _ a b=>a.eu P nt ow inr/\b.eu P nt ow inr
 | .block _ c=>c.eu P nt ow inr
 | .loop _ c=>c.eu P nt ow inr
 | .pre _ c=>c.eu P nt ow inr
 | .join _ c=>c.eu P nt ow inr
 | .hand as t g u c=>WQ P nt ow as t g u/\c.eu P nt ow inr
 | .pv _ _ _ _ _ _=>False
 | _=>True
def TC.kQ:TC->Bool
 | .seq a b=>a.kQ && b.kQ
 | .cond _ a b=>a.kQ && b.kQ
 | .block _ c=>c.kQ
 | .loop _ c=>c.kQ
 | .pre _ c=>c.kQ
 | .join _ c=>c.kQ
 | .hand _ _ _ _ _=>false
 | .pv _ _ _ _ _ _=>false
 | _=>true
theorem TC.mA{P:Program}{nt:Nat}{ow:Nat->Bool}{inr:Bool}:∀{tc:TC},tc.kQ=true->tc.eu P nt ow inr
 | .seq a b,h=>by simp only[TC.kQ,Bool.and_eq_true] at h;exact⟨TC.mA h.1,TC.mA h.2⟩
 | .cond _ a b,h=>by simp only[TC.kQ,Bool.and_eq_true] at h;exact⟨TC.mA h.1,TC.mA h.2⟩
 | .block _ c,h=>TC.mA (tc:=c) h
 | .loop _ c,h=>TC.mA (tc:=c) h
 | .pre _ c,h=>TC.mA (tc:=c) h
 | .join _ c,h=>TC.mA (tc:=c) h
 | .hand _ _ _ _ _,h=>by cases h
 | .pv _ _ _ _ _ _,h=>by cases h
 | .skip,_=>trivial
 | .rg _ _,_=>trivial
 | .xV _,_=>trivial
 | .exit _,_=>trivial
 | .ret,_=>trivial
 | .bad,_=>trivial
theorem nu(hE:iS P env)(N:Nat):∀(tc:TC) (cx:Cx) (hh:tc.eu P cx.nt ow cx.ro.isSome) (si:SI) (k:Exit->SI->Option R) (s:St),SR si s->run env N cx.nb tc si k=some r->ar P cx ow tc.er (DE k r) s
 | .skip,cx,hh,si,k,s,hs,h=>ar.skip ⟨si,hs,h⟩
 | .rg l un,cx,hh,si,k,s,hs,h=>by
  simp only[run] at h;have h1:=GO hE l si.T si.H [] _ s hs h;refine ar.dL ?_;cases un with
  | none=>
   refine D4 _ _ _ _ _ ?_ h1;rintro lg s' ⟨T',H',r1,r2⟩;exact⟨⟨T',H'⟩,r1,r2⟩
  | some uo=>
   refine D4 _ _ _ _ _ ?_ h1;rintro lg s' ⟨T',H',r1,r2⟩;simp only[KU] at r2;obtain⟨r3,r4⟩:=gN r2;rw[Bool.and_eq_true] at r3;refine⟨ZV r3.1,?_,⟨T',H'⟩,r1,r4⟩;have:=Nat.eq_of_beq_eq_true r3.2;have e1:=r1.n;have e2:=hs.n;simp only at e1;omega
 | .xV l,cx,hh,si,k,s,hs,h=>by
  simp only[run] at h;exact ar.rgW (Sr hE l si _ s hs h)
 | .seq a b,cx,hh,si,k,s,hs,h=>by
  simp only[run] at h;refine ar.seq ((nu hE N a cx hh.1 si _ s hs h).mono ?_);rintro e s' ⟨si',h1,h2⟩;cases e with
  | normal=>exact nu hE N b cx hh.2 si' k s' h1 h2
  | _=>exact⟨si',h1,h2⟩
 | .cond c a b,cx,hh,si,k,s,hs,h=>by
  simp only[run] at h;split at h
  ·rename_i q hq;have hc:=eN hs.t c;rw[hq] at hc;have hcv:c.get s.T=.v (.bool q):=zt (v:=.any) hc true▸by
    have:=hc.nA;cases c with
    | t n=>
     have h2:=hs.t n;simp only[dG] at hq;rw[hq] at h2;simp only[RO.get];rw[h2.nA];rfl
    | c d=>
     simp only[dG] at hq;have h2:=SV (H:=s.H) (nx:=s.nx) d;rw[hq] at h2;simp only[RO.get];rw[h2.nA];rfl
   have ref:∀b:Bool,b=q->SR ⟨D8 si.T c b,si.H⟩ s:=by
    intro b hb;subst hb;refine⟨fun t=>?_,hs.h,hs.n⟩;cases c with
    | c d=>exact hs.t t
    | t n=>
     simp only[D8,dy];cases hbq:Nat.beq n t with
     | false=>exact hs.t t
     | true=>
      rw[<-Nat.eq_of_beq_eq_true hbq];have:=hs.t n;simp only[dG] at hq;rw[hq] at this;exact this
   refine ar.cond hcv (fun e=>?_) (fun e=>?_)
   ·subst e;exact nu hE N a cx hh.1 _ k s (ref true rfl) h
   ·subst e;exact nu hE N b cx hh.2 _ k s (ref false rfl) h
  ·cases h
 | .block id c,cx,hh,si,k,s,hs,h=>by
  simp only[run] at h;refine ar.block ((nu hE N c cx hh si _ s hs h).mono ?_);rintro e s' ⟨si',h1,h2⟩;cases e with
  | exit id'=>
   simp only[lq] at h2;simp only[uX];cases hb:Nat.beq id' id with
   | true=>rw[hb] at h2;rw[if_pos (Nat.eq_of_beq_eq_true hb)];exact⟨si',h1,h2⟩
   | false=>rw[hb] at h2;rw[if_neg (xm hb)];exact⟨si',h1,h2⟩
  | _=>exact⟨si',h1,h2⟩
 | .loop ns c,cx,hh,si,k,s,hs,h=>by
  simp only[run] at h;refine ar.iP fun hnb=>?_;cases hg:fP cx.nb ns si with
  | none=>simp[hg,mN] at h
  | some si2=>
   rw[hg] at h;obtain⟨s2,w2,r2,_⟩:=uW ns hs hnb hg;refine ar.wk w2 (ar.B1 ?_);exact Uq (fun si si' s a b c=>uW ns a b c) (fun si k s a b=>nu hE N c cx hh si k s a b) N si2 k s2 r2 h
 | .exit id,cx,hh,si,k,s,hs,h=>ar.exit ⟨si,hs,h⟩
 | .ret,cx,hh,si,k,s,hs,h=>ar.ret ⟨si,hs,h⟩
 | .pre ns c,cx,hh,si,k,s,hs,h=>by
  simp only[run] at h;refine ar.iP fun hnb=>?_;cases hg:fP cx.nb ns si with
  | none=>simp[hg,mN] at h
  | some si2=>
   rw[hg] at h;obtain⟨s2,w2,r2,_⟩:=uW ns hs hnb hg;exact ar.wk w2 (nu hE N c cx hh si2 k s2 r2 h)
 | .join ns c,cx,hh,si,k,s,hs,h=>by
  simp only[run] at h;refine ar.iP fun hnb=>?_;cases hg:fP cx.nb ns si with
  | none=>simp[hg,mN] at h
  | some si2=>
   rw[hg] at h;obtain⟨s2,w2,r2,_⟩:=uW ns hs hnb hg;cases N with
   | zero=>simp[mN,DJ] at h
   | succ n=>exact ar.wk w2 (nu hE (n+1) c cx hh si2 k s2 r2 h)
 | .hand as ty g u c,cx,hh,si,k,s,hs,h=>by
  simp only[run] at h;refine ar.iP fun hnb=>?_;cases hg:g si with
  | none=>rw[hg] at h;cases h
  | some y=>
   rw[hg] at h;exact hh.1 cx rfl si y s c.er _ hs hnb hg fun s' hs' _=>nu hE N c cx hh.2 (u y si) k s' hs' h
 | .pv g p fb ns ta tb,cx,hh,si,k,s,hs,h=>hh.elim
 | .bad,cx,hh,si,k,s,hs,h=>by simp[run] at h
end sound
def eQ(d d':DV):Prop:=∀(H:Hp) (ps:Ps) (M:Nat->Prop) (nx:Nat) (w:World) (x:Value),VR H ps M nx w d x->VR H ps M nx w d' x
theorem eQ.refl(d:DV):eQ d d:=fun _ _ _ _ _ _ h=>h
structure kH (c c':Ck):Prop where
 g:c'.gen=c.gen
 s:c'.sz=c.sz
 l:c'.xs.length=c.xs.length
 r:∀i (h1:i<c'.xs.length) (h2:i<c.xs.length),c'.xs[i].length=c.xs[i].length/\∀j (h3:j<c'.xs[i].length) (h4:j<c.xs[i].length),eQ c.xs[i][j] c'.xs[i][j]
theorem de.P6{P:Program}{f:FuncId}{fn:Func}{c:Code}{ac:AC}{ow:Nat->Bool}{rs:List RR}{args:List DV}{pre:bT}{nb:Nat}{res:DV}{post:bT}{nx':Nat}(hm:P.follows .mixedOrders=true)
  (hf:P.funcs[f]? =some fn) (hname:(fn.name== "runtime.NumGoroutine")=false) (hb:fn.body=some c) (hc:comp P fn.ntmps ow c=some ac) (hrs:mX P fn.results.toList=some rs) (hlen:args.length<=fn.ntmps)
  (af:∀o ck,ah pre o=some ck->∃ck',ah post o=some ck') (fL:∀o ck',ah post o=some ck'->o<nb->∃ck,ah pre o=some ck) (le:nb<=nx')
  (ids:bB (fun o=>(∃ck,ah post o=some ck)\/(nb<=o/\o<nx')) res) (j9:∀o ck,ah post o=some ck->∀x,x∈ck.xs->∀c,c∈x->bB (fun o=>(∃ck,ah post o=some ck)\/(nb<=o/\o<nx')) c)
  (plt:∀o ck,ah post o=some ck->o<nx')
  (h:∀cx:Cx,cx.nt=fn.ntmps->cx.nb=nb->cx.ro=none->cx.fz=(fun _=>none)->Hm P cx->∀ps a w,RS cx ⟨fA args,ah pre,nb⟩ ps a w->c.wpIn (FR none) 0 P (fun e a' w'=>∃s' ps',RS cx s' ps' a' w'/\(e=.normal\/e=.ret)/\(∃ds,jP s'.T s'.H rs=some ds/\eQ (ft ds) res)/\∀o ck,ah post o=some ck->∃c0,s'.H o=some c0/\kH c0 ck) a w):
  de P f args pre nb res post nx':=by
 refine⟨⟨fn,hf,hname,by rw[hb];rfl⟩,af,fL,le,ids,j9,fun M ps w cargs hr hsz hva hgl=>?_⟩;let cx:Cx:=⟨fn.ntmps,M,Live (ah pre) ps,w,ah pre,ps,nb,none,fun _=>none,[]⟩
 refine Oy (cx:=cx) hf hb rfl ?_;have R:RS cx ⟨fA args,ah pre,nb⟩ ps {tmps:=cargs++Array.replicate (fn.ntmps-cargs.size) undef,defers:=[]} w:=by
  refine⟨fun t=>?_,by simp[cx];omega,hr,Fr.refl _ _,fun o ck p h1 h2=>.inl ⟨o,ck,p,h1,h2,rfl⟩,Marks.nil,Nat.le_refl _,fun o _ ck' hk=>⟨ck',hk,.inr ⟨rfl,rfl,Nat.le_refl _,rfl⟩⟩,fun t v h=>by cases h⟩;by_cases ht:t<args.length
  ·have e1:fA args t=args[t]:=by simp[fA,List.getD,ht]
   have e2:(cargs++Array.replicate (fn.ntmps-cargs.size) undef).getD t undef=cargs.getD t undef:=by
    have:t<cargs.size:=by omega
    simp[Array.getD_eq_getD_getElem?,Array.getElem?_append,this]
   show VR (ah pre) ps M nb w (fA args t) ((cargs++Array.replicate (fn.ntmps-cargs.size) undef).getD t undef);rw[e1,e2];exact hva t ht
  ·have e1:fA args t=.any:=by simp[fA,List.getD,List.getElem?_eq_none (Nat.le_of_not_lt ht)]
   show VR (ah pre) ps M nb w (fA args t) _;rw[e1];exact .any _
 refine wpIn_mono (h cx rfl rfl rfl rfl ⟨hm,hgl⟩ ps _ w R) ?_;rintro e a' w1 ⟨s',ps',R1,he,⟨ds,hds,hres⟩,hpost⟩;refine⟨he,s',ps',R1,fun w' R'=>?_⟩;have hbp:∃v,(results fn a'.tmps).run P w'=.ok v w'/\VR s'.H ps' M s'.nx w' res v:=by
  obtain⟨vs,k1,k2,k3⟩:=BT R'.hr R'.t fn.results.toList rs ds hrs hds;refine⟨if h:vs.toArray.size=1 then vs.toArray[0] else .tuple vs.toArray,?_,?_⟩
  ·have hres:results fn a'.tmps=(do let vs<-fn.results.mapM (yh a'.tmps);Pure.pure (if h:vs.size=1 then vs[0] else .tuple vs)):=by
    unfold results;congr 1
   rw[hres,Array.mapM_eq_mapM_toList];simp only[Sem.run_bind,Sem.run_map];rw[k1];simp
  ·refine hres _ _ _ _ _ _ ?_;cases ds with
   | nil=>
    have:vs=[]:=by simpa using k2
    subst this;exact .bh _ _ rfl (fun j hj=>by simp at hj)
   | cons d ds=>
    cases ds with
    | nil=>
     obtain⟨v,rfl⟩:∃v,vs=[v]:=by
      cases vs with
      | nil=>simp at k2
      | cons v vs=>cases vs with
       | nil=>exact⟨v,rfl⟩
       | cons _ _=>simp at k2
     exact k3 0 (by simp) (by simp)
    | cons d2 ds=>
     rw[dif_neg (by simp[k2])];refine .bh _ _ (by simp[k2]) fun j hj=>?_;have hj2:j<vs.length:=by omega
     have:=k3 j hj hj2;simpa[Array.getD,hj2] using this
 have kpS:xu (fun o=>(∃ck,ah post o=some ck)\/(nb<=o/\o<nx')) s'.H ps' M s'.nx w' (ah post) ps' M nx' w':=by
  refine⟨fun o hs _=>?_,fun o _ _ ck' hk=>?_,fun b hb=>?_,fun _ _ _=>rfl⟩
  ·rcases hs with⟨ck,hs⟩ | hs
   ·exact plt o ck hs
   ·exact hs.2
  ·obtain⟨c0,q1,q2⟩:=hpost o ck' hk;exact⟨c0,q1,.inr ⟨q2.g.symm,q2.s.symm,by rw[q2.l];exact Nat.le_refl _,rfl⟩⟩
  ·rcases hb with hb | ⟨o,ck,p,h1,h2,h3⟩
   ·exact .inl (.inl hb)
   ·obtain⟨c0,q1,_⟩:=hpost o ck h1;exact .inl (.inr ⟨o,c0,p,q1,h2,h3⟩)
 have fin:∀v,VR s'.H ps' M s'.nx w' res v->∃v' ps'',Ending.returned v=.returned v'/\VR (ah post) ps'' M nx' w' res v'/\HR (ah post) ps'' M nx' w'/\Fr (Live (ah pre) ps) w w'/\
   (∀o ck p,ah post o=some ck->ps'' o=some p->Live (ah pre) ps p.b\/w.heap.size<=p.b)/\(∀o,o<nb->∀ck',ah post o=some ck'->∃ck,ah pre o=some ck/\qW ps ps'' o ck ck'):=by
  intro v hv;refine⟨v,ps',rfl,hv.ke ids kpS,⟨plt,fun o ck ho=>?_,fun o o' ck ck' p p' h1 h2=>?_,R'.hr.ml,fun o ck p h1=>?_⟩,R'.fr,fun o ck p h1 h2=>?_,fun o ho ck' hk=>?_⟩
  ·obtain⟨c0,q1,q2⟩:=hpost o ck ho;rcases R'.hr.cr o c0 q1 with⟨g1,g2⟩ | ⟨p,c,E,vs,g1,g2,g3,g4,g5,g6,g7⟩
   ·exact .inl ⟨g1,List.eq_nil_of_length_eq_zero (by rw[q2.l,g2];rfl)⟩
   ·refine .inr ⟨p,c,E,vs,g1,g2,g3,fun i hi=>?_,by rw[q2.l,q2.s];exact g5,fun i j hi hj=>by rw[q2.s] at hj ⊢;exact g6 i j (by rw[<-q2.l];exact hi) hj,fun i j hi hj=>?_⟩
    ·rw[(q2.r i hi (by rw[<-q2.l];exact hi)).1,q2.s];exact g4 i _
    ·have q3:=q2.r i hi (by rw[<-q2.l];exact hi);exact(q3.2 j hj (by rw[<-q3.1];exact hj) _ _ _ _ _ _ (g7 i j _ _)).ke (j9 o ck ho _ (List.getElem_mem hi) _ (List.getElem_mem hj)) kpS
  ·obtain⟨c0,q1,_⟩:=hpost o ck h1;obtain⟨c1,r1,_⟩:=hpost o' ck' h2;exact R'.hr.inj o o' c0 c1 p p' q1 r1
  ·obtain⟨c0,q1,_⟩:=hpost o ck h1;exact R'.hr.dj o c0 p q1
  ·obtain⟨c0,q1,_⟩:=hpost o ck h1;exact R'.lb o c0 p q1 h2
  ·obtain⟨c0,q1,q2⟩:=hpost o ck' hk;obtain⟨c1,r1,r2⟩:=R'.gm o ho c0 q1;refine⟨c1,r1,?_⟩;rcases r2 with r2 | ⟨r2,r3,r4,r5⟩
   ·exact .inl (by rw[q2.g];exact r2)
   ·exact .inr ⟨by rw[q2.g];exact r2,by rw[q2.s];exact r3,by rw[q2.l];exact r4,r5⟩
 obtain⟨v,hrun,hv⟩:=hbp;exact⟨v,hrun,fin v hv⟩
theorem de.KP{P:Program}{f:FuncId}{args args':List DV}{pre:bT}{nb:Nat}{res:DV}{post:bT}{nx':Nat}(h:de P f args pre nb res post nx')(hw:aX eQ args' args):de P f args' pre nb res post nx':=
 ⟨h.fn,h.af,h.fL,h.le,h.ids,h.j9,fun M ps w cargs hr hsz hva hgl=>h.run M ps w cargs hr (by rw[hsz,hw.1]) (fun j hj=>hw.2 j (by rw[hw.1];exact hj) hj _ _ _ _ _ _ (hva j (by rw[hw.1];exact hj))) hgl⟩
def aN:(t:GT)->El t->List DV
 | .int k,n=>[.v (.int k n)]
 | .bool,b=>[.v (.bool b)]
 | .str,s=>[.v (.string (mU s))]
 | .list t,as=>[.ab false (as.map (aN t))]
 | .unit,_=>[]
 | .pair a b,x=>aN a x.1++aN b x.2
theorem ig:∀(t:GT) (x:El t),cA t x (aN t x)
 | .int k,n=>rfl
 | .bool,b=>rfl
 | .str,s=>rfl
 | .list t,as=>⟨false,_,rfl,by simp,fun j h1 h2=>by simpa using ig t _⟩
 | .unit,_=>rfl
 | .pair a b,x=>⟨_,_,rfl,ig a _,ig b _⟩
theorem kC:∀(t:GT) (x:El t) (ds:List DV),cA t x ds->aX eQ ds (aN t x)
 | .int k,n,ds,h=>by rw[show ds=_ from h];exact .one (.refl _)
 | .bool,b,ds,h=>by rw[show ds=_ from h];exact .one (.refl _)
 | .str,s,ds,h=>by rw[show ds=_ from h];exact .one (.refl _)
 | .list t,as,ds,h=>by
  obtain⟨f,xs,rfl,h⟩:=h;refine .one fun H ps M nx w x hv=>?_;have key:∀i (h1:i<xs.length) (h2:i<(as.map (aN t)).length),aX eQ xs[i] (as.map (aN t))[i]:=by
   intro i h1 h2;simp only[List.getElem_map];exact kC t _ _ (h.2 i (by rw[h.1];exact h1) h1)
  have el:(as.map (aN t)).length=xs.length:=by simp[h.1]
  cases hv with
  | fm _ a cap hf=>
   have:as=[]:=List.eq_nil_of_length_eq_zero (by rw[h.1];rfl);subst this;exact .fm false a cap (fun e=>by cases e)
  | ab _ _ b off cap sz vs hne hs hcap hf hM hz h1 hc hv=>
   have hne':as.map (aN t)≠[]:=fun e=>hne (List.eq_nil_of_length_eq_zero (by rw[<-el,e];rfl));have:=VR.ab (w:=w) false (as.map (aN t)) b off cap sz vs hne' hs (by rw[el];exact hcap) (fun e=>by cases e) hM
    (fun i hi=>by rw[<-(key i (by rw[<-el];exact hi) hi).1];exact hz i _) (fun i j hi hj=>h1 i j (by rw[<-el];exact hi) hj) (fun i j hi hj=>hc i j (by rw[<-el];exact hi) hj)
    (fun i j hi hj=>by
     have q:=key i (by rw[<-el];exact hi) hi;exact q.2 j (by rw[q.1];exact hj) hj _ _ _ _ _ _ (hv i j (by rw[<-el];exact hi) (by rw[q.1];exact hj)))
   rw[el] at this;exact this
 | .unit,_,ds,h=>by rw[show ds=_ from h];exact .nil
 | .pair a b,x,ds,h=>by
  obtain⟨d1,d2,rfl,h1,h2⟩:=h;exact(kC a _ _ h1).append (kC b _ _ h2)
def ia:GT->Bool
 | .unit | .pair _ _=>true
 | _=>false
def wi(t:GT)(x:El t):IV:=match ia t,kf t x with
 | true,cs=>.agg cs
 | false,[c]=>c
 | _,_=>.any
def jq(t:GT)(x:El t):DV:=match ia t,aN t x with
 | true,cs=>.agg cs
 | false,[c]=>c
 | _,_=>.any
theorem yg{t:GT}(h:ia t=false)(x:El t):(∃c,kf t x=[c])/\(∃d,aN t x=[d]):=by
 cases t<;>first | (simp[ia] at h;done) | exact⟨⟨_,rfl⟩,⟨_,rfl⟩⟩
theorem HD{H:Hp}{nx:Nat}(t:GT)(x:El t):Rel H nx (wi t x) (jq t x):=by
 unfold wi jq;have h:=sH (H:=H) (nx:=nx) t x _ (ig t x);cases ha:ia t with
 | true=>exact Rel.lO h
 | false=>
  obtain⟨⟨c,hc⟩,⟨d,hd⟩⟩:=yg ha x;rw[hc,hd] at h ⊢;obtain⟨_,e,h⟩:=h.p7;injection e with e;subst e
  exact h
def xz(t:GT)(v:IV):Option (El t):=match ia t,v with
 | true,.agg cs=>dec t cs
 | true,_=>none
 | false,.agg _=>none
 | false,v=>dec t [v]
theorem VR.Gk{ds es:List DV}(h:aX eQ ds es):eQ (.agg ds) (.agg es):=fun H ps M nx w x hv=>by
 obtain⟨vs,rfl,h1,h2,h3⟩:=hv.fj;have e:=h.1;exact .agg _ vs (by omega) (fun j hj=>h2 j (by omega)) fun j hj=>h.2 j (by omega) hj _ _ _ _ _ _ (h3 j (by omega))
theorem VR.U8{ds es:List DV}(h:aX eQ ds es):eQ (.bh ds) (.bh es):=fun H ps M nx w x hv=>by
 obtain⟨vs,rfl,h1,h2⟩:=hv.kG;have e:=h.1;exact .bh _ vs (by omega) fun j hj=>h.2 j (by omega) hj _ _ _ _ _ _ (h2 j (by omega))
theorem I6{H:Hp}{nx:Nat}{t:GT}{v:IV}{x:El t}{d:DV}(h:xz t v=some x)(hr:Rel H nx v d):eQ d (jq t x):=by
 unfold xz at h;unfold jq;split at h
 ·rename_i cs ha;obtain⟨ds,rfl,k⟩:=hr.fj;rw[ha];exact VR.Gk (kC t x ds (tn h k))
 ·cases h
 ·cases h
 ·rename_i ha _;have k:=kC t x [d] (tn h (.one hr));obtain⟨_,⟨e,he⟩⟩:=yg ha x;rw[ha];rw[he] at k ⊢;obtain⟨_,e1,k⟩:=k.p7;cases e1;exact k
@[reducible] def aY:List GT->Type
 | []=>Unit
 | [t]=>El t
 | t::u::r=>El t×aY (u::r)
def jH:(ts:List GT)->aY ts->List IV
 | [],_=>[]
 | [t],x=>[wi t x]
 | t::u::r,x=>wi t x.1::jH (u::r) x.2
def fg:(ts:List GT)->aY ts->List DV
 | [],_=>[]
 | [t],x=>[jq t x]
 | t::u::r,x=>jq t x.1::fg (u::r) x.2
def kX:(ts:List GT)->List IV->Option (aY ts)
 | [],[]=>some ()
 | [],_::_=>none
 | [t],[v]=>xz t v
 | [_],_=>none
 | t::u::r,v::l=>match xz t v with
  | some x=>match kX (u::r) l with
   | some y=>some (x,y)
   | none=>none
  | none=>none
 | _::_::_,[]=>none
theorem ug{H:Hp}{nx:Nat}:∀(ts:List GT) (x:aY ts),bR H nx (jH ts x) (fg ts x)
 | [],_=>.nil
 | [t],x=>.one (HD t x)
 | t::u::r,x=>(ug (u::r) x.2).cons (HD t x.1)
theorem Cp{H:Hp}{nx:Nat}:∀(ts:List GT) (vs:List IV) (x:aY ts) (ds:List DV),kX ts vs=some x->bR H nx vs ds->aX eQ ds (fg ts x)
 | [],vs,x,ds,h,hr=>by
  cases vs with
  | nil=>rw[hr.dY];exact .nil
  | cons=>simp[kX] at h
 | [t],vs,x,ds,h,hr=>by
  cases vs with
  | nil=>simp[kX] at h
  | cons v l=>
   cases l with
   | nil=>
    obtain⟨d,rfl,h1⟩:=hr.p7;simp only[kX] at h;exact .one (I6 h h1)
   | cons=>simp[kX] at h
 | t::u::r,vs,x,ds,h,hr=>by
  cases vs with
  | nil=>simp[kX] at h
  | cons v l=>
   obtain⟨d,ds,rfl,h1,h2⟩:=hr.dD;simp only[kX] at h;split at h
   ·rename_i a ha;split at h
    ·rename_i b hb;cases h;exact(Cp (u::r) l b ds hb h2).cons (I6 ha h1)
    ·cases h
   ·cases h
theorem xY(t:GT)(x:El t):bB (fun _=>False) (jq t x):=by
 unfold jq;have h:=cA.ids t x _ (ig t x);cases ha:ia t with
 | true=>exact .agg _ h
 | false=>
  obtain⟨_,⟨d,hd⟩⟩:=yg ha x;rw[hd] at h ⊢;exact h d (by simp)
theorem kr:∀(ts:List GT) (x:aY ts),∀d,d∈fg ts x->bB (fun _=>False) d
 | [],_,d,h=>by cases h
 | [t],x,d,h=>by rw[List.mem_singleton.1 h];exact xY t x
 | t::u::r,x,d,h=>by
  rcases List.mem_cons.1 h with rfl | h
  ·exact xY t x.1
  ·exact kr (u::r) x.2 d h
theorem px{l:List DV}{S:Nat->Prop}(h:∀d,d∈l->bB S d):bB S (ft l):=by
 unfold ft;split
 ·exact h _ (by simp)
 ·exact .bh _ h
theorem Ij:∀(ts:List GT) (x:aY ts),(fg ts x).length=ts.length
 | [],_=>rfl
 | [t],x=>rfl
 | t::u::r,x=>by simp[fg,Ij (u::r) x.2]
def jF:List IV->Nat->List (Nat×IV)
 | [],_=>[]
 | v::r,i=>(i,v)::jF r (i+1)
theorem PF:∀(l:List IV) (i t:Nat),dy (jF l i) t=if i<=t then l.getD (t-i) .any else .any
 | [],i,t=>by simp[jF,dy]
 | v::r,i,t=>by
  simp only[jF,dy];cases hb:Nat.beq i t with
  | true=>have:=Nat.eq_of_beq_eq_true hb;subst this;simp
  | false=>
   have:=xm hb;simp only[cond_false,PF r (i+1) t];by_cases h:i+1<=t
   ·rw[if_pos h,if_pos (by omega)];have:t-i=(t-(i+1))+1:=by omega
    rw[this];rfl
   ·rw[if_neg h,if_neg (by omega)]
theorem LQ{vs:List IV}{ds:List DV}{HI:IH}{H:Hp}{nx:Nat}(h:bR H nx vs ds)(hh:jw HI H nx)(hl:HI.length=nx):SR ⟨jF vs 0,HI⟩ ⟨fA ds,H,nx⟩:=by
 refine⟨fun t=>?_,hh,hl⟩;rw[PF,if_pos (Nat.zero_le _),Nat.sub_zero];exact bR.zT h t
def mM(T:List (Nat×IV))(H:IH):List RR->Option (List IV)
 | []=>some []
 | .t n::r=>match mM T H r with
  | some l=>some (dy T n::l)
  | none=>none
 | .cell a ag n::r=>match dy T a,mM T H r with
  | .ptr o _ off,some l=>match aK H o with
   | some (.box _ cs)=>match Nat.ble (off+n) cs.length,ag with
    | true,true=>some (.agg ((cs.drop off).take n)::l)
    | true,false=>match n,cs.drop off with
     | 1,c::_=>some (c::l)
     | _,_=>none
    | false,_=>none
   | _=>none
  | _,_=>none
theorem Ia{T:List (Nat×IV)}{H:IH}{s:St}(hs:SR ⟨T,H⟩ s):∀(rs:List RR) (vs:List IV),mM T H rs=some vs->∃ds,jP s.T s.H rs=some ds/\bR s.H s.nx vs ds
 | [],vs,h=>by simp only[mM,Option.some.injEq] at h;subst h;exact⟨[],rfl,.nil⟩
 | .t n::r,vs,h=>by
  simp only[mM] at h;split at h
  ·rename_i l hl;injection h with h;subst h
   obtain⟨ds,h1,h2⟩:=Ia hs r l hl;exact⟨s.T n::ds,by simp only[jP,h1],h2.cons (hs.t n)⟩
  ·cases h
 | .cell a ag n::r,vs,h=>by
  simp only[mM] at h;split at h
  ·rename_i o i off l hv hl;obtain⟨ds,h1,h2⟩:=Ia hs r l hl;have hp:=hs.t a;simp only[hv] at hp;obtain⟨g,hd,ho,hg⟩:=hp.pF;split at h
   ·rename_i _ cs hc;obtain⟨_,ck,k1,k2,es,k3,k4,k5⟩:=hs.h.at hc;obtain⟨rfl,hi⟩:=hg ck k1;rw[k3] at hi;have:i=0:=by simpa using hi
    subst this;have key:∀v,(pG ag n off cs [] (fun v _ _=>some v))=some v->vs=v::l->∃ds,jP s.T s.H (.cell a ag n::r)=some ds/\bR s.H s.nx vs ds:=by
     rintro v hlo rfl;obtain⟨v',d,q1,q2,q3,q4⟩:=O2 hlo k4;cases q1;refine⟨d::ds,?_,h2.cons q2⟩;simp only[jP,hd,jK,k1,k3,List.getD_cons_zero,h1];rw[if_pos ⟨trivial,q3⟩,q4]
    split at h
    ·rename_i hb;injection h with h;exact key _ (by simp only[pG,hb]) h.symm
    ·rename_i hb;split at h
     ·rename_i c l' he;injection h with h;exact key _ (by simp only[pG,hb,he]) h.symm
     ·cases h
    ·cases h
   ·cases h
  ·cases h
def fin(rs:List RR)(ret:List GT):Exit->SI->Option (aY ret)
 | .normal,si=>(match mM si.T si.H rs with | some vs=>kX ret vs | none=>none)
 | .ret,si=>(match mM si.T si.H rs with | some vs=>kX ret vs | none=>none)
 | _,_=>none
theorem V9{rs:List RR}{ret:List GT}{e:Exit}{si:SI}{y:aY ret}{s:St}(h:fin rs ret e si=some y)(hs:SR si s):(e=.normal\/e=.ret)/\∃ds,jP s.T s.H rs=some ds/\eQ (ft ds) (ft (fg ret y)):=by
 have main:(match mM si.T si.H rs with | some vs=>kX ret vs | none=>none)=some y->∃ds,jP s.T s.H rs=some ds/\eQ (ft ds) (ft (fg ret y)):=by
  intro h;split at h
  ·rename_i vs hv;obtain⟨ds,h1,h2⟩:=Ia hs rs vs hv;have h3:=Cp ret vs y ds h h2;refine⟨ds,h1,?_⟩;generalize fg ret y=es at h3;cases ds with
   | nil=>rw[h3.dY];exact .refl _
   | cons d ds=>
    obtain⟨e1,es',rfl,q1,q2⟩:=h3.dD;cases ds with
    | nil=>rw[q2.dY];exact q1
    | cons d2 ds=>
     obtain⟨e2,es2,rfl,q3,q4⟩:=q2.dD;exact VR.U8 h3
  ·cases h
 cases e with
 | normal=>exact⟨.inl rfl,main h⟩
 | ret=>exact⟨.inr rfl,main h⟩
 | _=>simp[fin] at h
def bk(P:Program)(f:FuncId)(ts ret:List GT)(model:aY ts->Option (aY ret)):Prop:=∀x y,model x=some y->∀nb,de P f (fg ts x) [] nb (ft (fg ret y)) [] nb
theorem de.Ns{P:Program}{f:FuncId}{args:List DV}{res:DV}(h:de P f args [] 0 res [] 0)(ha:∀d,d∈args->bB (fun _=>False) d)(hr:bB (fun _=>False) res)(nb:Nat):de P f args [] nb res [] nb:=by
 have emp:∀o,ah [] o=none:=fun o=>rfl;have uK:∀(ps:Ps) b,¬Live (ah []) ps b:=by rintro ps b ⟨o,ck,p,h,_⟩;cases h
 have kps:∀(M:Nat->Prop) (ps ps':Ps) (nx nx':Nat) (w:World),xu (fun _=>False) (ah []) ps M nx w (ah []) ps' M nx' w:=fun M ps ps' nx nx' w=>
  ⟨fun o h=>h.elim,fun o h=>h.elim,fun b hb=>.inl (hb.elim .inl fun h=>absurd h (uK _ b)),fun _ _ _=>rfl⟩
 refine⟨h.fn,fun o ck h=>(by cases h),fun o ck h=>(by cases h),Nat.le_refl _,hr.kF fun _ h=>h.elim,fun o ck h=>(by cases h),fun M ps w cargs hR hsz hva hgl=>?_⟩;have hR0:HR (ah []) ps M 0 w:=⟨fun o ck h=>(by cases h),fun o ck h=>(by cases h),fun o o' ck ck' p p' h=>(by cases h),hR.ml,fun o ck p h=>(by cases h)⟩;refine(h.run M ps w cargs hR0 hsz (fun j hj=>(hva j hj).ke (ha _ (List.getElem_mem hj)) (kps M ps ps nb 0 w)) hgl).mono ?_;rintro e w' ⟨v,ps',rfl,h1,h2,h3,h4,h5⟩;exact⟨v,ps',rfl,h1.ke hr (kps M ps' ps' 0 nb w'),⟨fun o ck h=>(by cases h),fun o ck h=>(by cases h),fun o o' ck ck' p p' h=>(by cases h),h2.ml,fun o ck p h=>(by cases h)⟩,h3,fun o ck p h=>(by cases h),fun o _ ck h=>(by cases h)⟩
theorem NO{P:Program}{f nt:Nat}{ow:Nat->Bool}{tc:TC}{rs:List RR}{env:List (Nat×eC)}{N:Nat}{ts ret:List GT}{model:aY ts->Option (aY ret)}(hm:P.follows .mixedOrders=true)(hf:ib P f nt ow tc.er rs)(hE:iS P env)(hh:tc.eu P nt ow false)(hlen:Nat.ble ts.length nt=true)
  (hrun:∀x,run env N 0 tc ⟨jF (jH ts x) 0,[]⟩ (fin rs ret)=model x):bk P f ts ret model:=by
 intro x y hy nb;refine de.Ns ?_ (kr ts x) (px (kr ret y)) nb;obtain⟨fn,h1,h2,h3,rfl,h5,h6⟩:=hf.ex;refine de.P6 hm h1 h2 h3 h5 h6 (by rw[Ij];exact Nat.le_of_ble_eq_true hlen) (fun o ck h=>(by cases h)) (fun o ck h=>(by cases h)) (Nat.le_refl _) ((px (kr ret y)).kF fun _ h=>h.elim) (fun o ck h=>(by cases h)) (fun o ck h=>(by cases h)) fun cx hcx hnb hro hfz hmm ps a w R0=>?_;have hs:SR ⟨jF (jH ts x) 0,[]⟩ ⟨fA (fg ts x),ah [],0⟩:=LQ (ug ts x) (fun o c h=>by simp[aK] at h) rfl
 have hr:run env N cx.nb tc ⟨jF (jH ts x) 0,[]⟩ (fin rs ret)=some y:=by rw[hnb,<-hy];exact hrun x
 have key:=nu hE N tc cx (by rw[hcx,hro];exact hh) _ _ _ hs hr hmm _ (by rw[hcx];exact h5) (by rw[hfz];exact AC.pd _) ps a w R0;rw[hro] at key;refine wpIn_mono key ?_;rintro e a' w' ⟨s',ps',R',si',k1,k2⟩;obtain⟨k3,k4⟩:=V9 k2 k1;exact⟨s',ps',R',k3,k4,fun o ck h=>(by cases h)⟩
def B4:List IV->IV
 | [v]=>v
 | l=>.bh l
theorem DT{H:Hp}{nx:Nat}{vs:List IV}{ds:List DV}(h:bR H nx vs ds):Rel H nx (B4 vs) (ft ds):=by
 cases vs with
 | nil=>rw[h.dY];exact Rel.wR .nil
 | cons v l=>
  obtain⟨d,ds',rfl,h1,h2⟩:=h.dD;cases l with
  | nil=>rw[h2.dY];exact h1
  | cons v2 l=>
   obtain⟨d2,ds2,rfl,h3,h4⟩:=h2.dD;exact Rel.wR h
inductive lj:DV->Prop
 | v (x:Value):lj (.v x)
 | agg (cs:List DV) (h:∀c,c∈cs->lj c):lj (.agg cs)
 | bh (cs:List DV) (h:∀c,c∈cs->lj c):lj (.bh cs)
theorem lj.vr{d:DV}(h:lj d):∀{H H':Hp} {ps ps':Ps} {M M':Nat->Prop} {nx nx':Nat} {w w':World} {x:Value},VR H ps M nx w d x->VR H' ps' M' nx' w' d x:=by
 induction h with
 | v y=>intro H H' ps ps' M M' nx nx' w w' x hv;rw[hv.e9];exact .v y
 | agg cs h ih=>
  intro H H' ps ps' M M' nx nx' w w' x hv;obtain⟨vs,rfl,h1,h2,h3⟩:=hv.fj;exact .agg _ vs h1 h2 fun j hj=>ih _ (List.getElem_mem hj) (h3 j hj)
 | bh cs h ih=>
  intro H H' ps ps' M M' nx nx' w w' x hv;obtain⟨vs,rfl,h1,h2⟩:=hv.kG;exact .bh _ vs h1 fun j hj=>ih _ (List.getElem_mem hj) (h2 j hj)
def GT.oS:GT->Bool
 | .int _ | .bool | .str | .unit=>true
 | .list _=>false
 | .pair a b=>a.oS && b.oS
def xy:List GT->Bool
 | []=>true
 | t::r=>t.oS && xy r
theorem Lo:∀(t:GT) (x:El t),t.oS=true->∀d,d∈aN t x->lj d
 | .int k,n,h,d,hd=>by rw[List.mem_singleton.1 hd];exact .v _
 | .bool,n,h,d,hd=>by rw[List.mem_singleton.1 hd];exact .v _
 | .str,n,h,d,hd=>by rw[List.mem_singleton.1 hd];exact .v _
 | .list t,n,h,d,hd=>by cases h
 | .unit,n,h,d,hd=>by cases hd
 | .pair a b,x,h,d,hd=>by
  simp only[GT.oS,Bool.and_eq_true] at h;rcases List.mem_append.1 hd with hd | hd
  ·exact Lo a _ h.1 d hd
  ·exact Lo b _ h.2 d hd
theorem Um(t:GT)(x:El t)(h:t.oS=true):lj (jq t x):=by
 have q:=Lo t x h;unfold jq;cases ha:ia t with
 | true=>exact .agg _ q
 | false=>
  obtain⟨_,⟨d,hd⟩⟩:=yg ha x;rw[hd] at q ⊢;exact q d (by simp)
theorem Ui:∀(ts:List GT) (x:aY ts),xy ts=true->∀d,d∈fg ts x->lj d
 | [],_,_,d,h=>by cases h
 | [t],x,hn,d,h=>by
  simp only[xy,Bool.and_true] at hn;rw[List.mem_singleton.1 h];exact Um t x hn
 | t::u::r,x,hn,d,h=>by
  simp only[xy,Bool.and_eq_true] at hn;rcases List.mem_cons.1 h with rfl | h
  ·exact Um t x.1 hn.1
  ·exact Ui (u::r) x.2 (by simp only[xy,Bool.and_eq_true];exact hn.2) d h
theorem axg{l:List DV}(h:∀d,d∈l->lj d):lj (ft l):=by
 unfold ft;split
 ·exact h _ (by simp)
 ·exact .bh _ h
def ni(pre:bT)(nx:Nat)(d' d:DV):Prop:=∀(ps:Ps) (M:Nat->Prop) (w:World) (x:Value),HR (ah pre) ps M nx w->VR (ah pre) ps M nx w d' x->VR (ah []) ps M nx w d x
theorem de.borrow{P:Program}{f:FuncId}{args args':List DV}{res:DV}{nb:Nat}(h:de P f args [] nb res [] nb)(hres:lj res)(pre:bT)(hfl:∀o ck,ah pre o=some ck->∀x,x∈ck.xs->∀c,c∈x->bB (fun _=>False) c)(hb:aX (ni pre nb) args' args):de P f args' pre nb res pre nb:=by
 have emp:∀(ps:Ps) b,¬Live (ah []) ps b:=by rintro ps b ⟨o,ck,p,h,_⟩;cases h
 have ids:∀{S:Nat->Prop},bB S res:=by
  intro S;have key:∀{d:DV},lj d->bB S d:=by
   intro d hd;induction hd with
   | v x=>exact .v x
   | agg cs h ih=>exact .agg _ ih
   | bh cs h ih=>exact .bh _ ih
  exact key hres
 refine⟨h.fn,fun o ck ho=>⟨ck,ho⟩,fun o ck ho _=>⟨ck,ho⟩,Nat.le_refl _,ids,fun o ck ho x hx c hc=>?_,fun M ps w cargs hR hsz hva hgl=>?_⟩
 ·exact(hfl o ck ho x hx c hc).kF fun _ h=>h.elim
 ·have hR0:HR (ah []) ps M nb w:=⟨fun o ck h=>(by cases h),fun o ck h=>(by cases h),fun o o' ck ck' p p' h=>(by cases h),hR.ml,fun o ck p h=>(by cases h)⟩;refine(h.run M ps w cargs hR0 (by rw[hsz,hb.1]) (fun j hj=>hb.2 j (by rw[hb.1];exact hj) hj ps M w _ hR (hva j (by rw[hb.1];exact hj))) (hgl.less fun b hb=>(emp ps b hb).elim)).mono ?_;rintro e w' ⟨v,ps',rfl,g1,g2,g3,g4,g5⟩;have blk:∀b,b<w.heap.size->w'.heap[b]? =w.heap[b]? :=fun b hlt=>g3.block b hlt (emp ps b);have kp:Kp (ah pre) ps M nb w (ah pre) ps M nb w':=⟨Nat.le_refl _,fun o _ ck' hk=>⟨ck',hk,.inr ⟨rfl,rfl,Nat.le_refl _,rfl⟩⟩,fun b hb=>.inl hb,fun b hlt _=>blk b hlt⟩
  exact⟨v,ps,rfl,hres.vr g1,⟨hR.lt,fun o ck ho=>(hR.cr o ck ho).mono kp rfl fun p hp=>blk _ (hR.mQ ho hp),hR.inj,fun b hb=>Nat.lt_of_lt_of_le (hR.ml b hb) g3.size,hR.dj⟩,⟨g3.os,g3.tape,g3.output,g3.size,fun b hlt _=>blk b hlt⟩,fun o ck p h1 h2=>.inl ⟨o,ck,p,h1,h2,rfl⟩,fun o _ ck' hk=>⟨ck',hk,.inr ⟨rfl,rfl,Nat.le_refl _,rfl⟩⟩⟩
def wc(t:GT)(cs:List IV):Option (El t×List Nat×List IV):=match lx t cs with
 | some (x,r)=>some (x,[],r)
 | none=>none
def py:(t:GT)->List IV->IH->Option (El t×List Nat×List IV)
 | .list t,cs,H=>match cs with
  | .whole o::r=>match aK H o with
   | some (.arr t' as)=>match kY t' t as,Nat.ble 1 t.sz with
    | some x,true=>some (x,[o],r)
    | _,_=>none
   | _=>none
  | .part o lo n::r=>match aK H o with
   | some (.arr t' as)=>match kY t' t as,Nat.ble 1 t.sz with
    | some x,true=>some ((x.drop lo).take n,[o],r)
    | _,_=>none
   | _=>none
  | _=>wc (.list t) cs
 | .pair a b,cs,H=>match py a cs H with
  | some (x,o1,r)=>match py b r H with
   | some (y,o2,r')=>some ((x,y),o1++o2,r')
   | none=>none
  | none=>none
 | t,cs,_=>wc t cs
def wH(t:GT)(v:IV)(H:IH):Option (El t×List Nat):=match ia t,v with
 | true,.agg cs=>(match py t cs H with
  | some (x,os,[])=>some (x,os)
  | _=>none)
 | true,_=>none
 | false,.agg _=>none
 | false,v=>(match py t [v] H with
  | some (x,os,[])=>some (x,os)
  | _=>none)
def jJ:(ts:List GT)->List IV->IH->Option (aY ts×List Nat)
 | [],[],_=>some ((),[])
 | [],_::_,_=>none
 | [t],[v],H=>wH t v H
 | [_],_,_=>none
 | t::u::r,v::l,H=>match wH t v H with
  | some (x,o1)=>match jJ (u::r) l H with
   | some (y,o2)=>some ((x,y),o1++o2)
   | none=>none
  | none=>none
 | _::_::_,[],_=>none
section NV
variable {H:Hp} {nx:Nat} {HI:IH} {pre:bT}
theorem ni.flat{d d':DV}(h:eQ d d')(hi:bB (fun _=>False) d):ni pre nx d d':=fun ps M w x hR hv=>
 h _ _ _ _ _ _ (hv.ke hi ⟨fun o h=>h.elim,fun o h=>h.elim,fun b hb=>.inl (hb.elim .inl fun h=>by obtain⟨o,ck,p,h,_⟩:=h;cases h),fun _ _ _=>rfl⟩)
theorem atm{ds es:List DV}(h:aX eQ ds es)(hi:∀d,d∈ds->bB (fun _=>False) d):aX (ni pre nx) ds es:=⟨h.1,fun j h1 h2=>.flat (h.2 j h1 h2) (hi _ (List.getElem_mem h1))⟩
theorem PK(hH:jw HI H nx):∀(t:GT) (cs:List IV) (x:El t) (os:List Nat) (r:List IV) (ds:List DV),py t cs HI=some (x,os,r)->bR H nx cs ds->(∀o,o∈os->ah pre o=H o)->
  ∃d1 d2,ds=d1++d2/\aX (ni pre nx) d1 (aN t x)/\bR H nx r d2:=by
 have plain:∀(t:GT) (cs:List IV) (x:El t) (os:List Nat) (r:List IV) (ds:List DV),wc t cs=some (x,os,r)->bR H nx cs ds->∃d1 d2,ds=d1++d2/\aX (ni pre nx) d1 (aN t x)/\bR H nx r d2:=by
  intro t cs x os r ds h hr;unfold wc at h;split at h
  ·rename_i y r' hy;simp only[Option.some.injEq,Prod.mk.injEq] at h;obtain⟨e1,_,e3⟩:=h;rw[e1,e3] at hy;obtain⟨d1,d2,e,h1,h2⟩:=vb t cs x r ds hy hr;exact⟨d1,d2,e,atm (kC t x d1 h1) (cA.ids t x d1 h1),h2⟩
  ·cases h
 intro t;induction t with
 | list t ih=>
  intro cs x os r ds h hr ho;simp only[py] at h;split at h
  ·rename_i o r';split at h
   ·rename_i t' as hc;split at h
    ·rename_i y hy hb;simp only[Option.some.injEq,Prod.mk.injEq] at h;obtain⟨e1,e2,e3⟩:=h;have hyx:kY t' t as=some x:=by rw[hy,e1]
     obtain⟨rfl,hxe⟩:=nW hyx;have hxe:=hxe;obtain⟨d,ds,rfl,q1,q2⟩:=hr.dD;obtain⟨g,n,rfl,hlt,hg⟩:=q1.nk;obtain⟨_,ck,k1,k2⟩:=hH o _ hc;obtain⟨z1,z2⟩:=k2;obtain⟨g1,g2⟩:=hg ck k1;have hpre:ah pre o=some ck:=by rw[ho o (by rw[<-e2];simp),k1]
     refine⟨[.own o g 0 n],ds,rfl,.one ?_,by rw[<-e3];exact q2⟩;intro ps M w v hR hv;have hp:0<ck.sz:=by rw[z1];exact Nat.le_of_ble_eq_true hb
     have fl:∀x∈ck.xs,∀c∈x,bB (fun _=>False) c:=fun x hx c hc=>by
      obtain⟨j,hj,rfl⟩:=List.mem_iff_getElem.1 hx;exact cA.ids t' _ _ (z2.2 j (by rw[z2.1];exact hj) hj) c hc
     have tr:=xM (s:=⟨fun _=>.any,ah pre,nx⟩) (H':=ah []) (o:=o) (ck:=ck) hpre hp fl ⟨fun j ck' hj=>(by cases hj)⟩ rfl g 0 n g1 (by omega);have hv2:=tr ps M w v hR hv;have e:(ck.xs.drop 0).take n=ck.xs:=by rw[List.drop_zero,<-g2,List.take_length]
     rw[e] at hv2;have hw:=kC (.list t') as [.ab false ck.xs] ⟨false,ck.xs,rfl,z2⟩;rw[hxe];exact(hw.2 0 Nat.zero_lt_one Nat.zero_lt_one) _ _ _ _ _ _ hv2
    ·cases h
   ·cases h
  ·rename_i o lo n r';split at h
   ·rename_i t' as hc;split at h
    ·rename_i y hy hb;simp only[Option.some.injEq,Prod.mk.injEq] at h;obtain⟨e1,e2,e3⟩:=h;obtain⟨rfl,hye⟩:=nW hy;have hye:=hye;subst hye;obtain⟨d,ds,rfl,q1,q2⟩:=hr.dD;obtain⟨g,rfl,hlt,hg⟩:=q1.qJ;obtain⟨_,ck,k1,k2⟩:=hH o _ hc;obtain⟨z1,z2⟩:=k2;obtain⟨g1,g2⟩:=hg ck k1;have hpre:ah pre o=some ck:=by rw[ho o (by rw[<-e2];simp),k1]
     refine⟨[.own o g lo n],ds,rfl,.one ?_,by rw[<-e3];exact q2⟩;intro ps M w v hR hv;have hp:0<ck.sz:=by rw[z1];exact Nat.le_of_ble_eq_true hb
     have fl:∀x∈ck.xs,∀c∈x,bB (fun _=>False) c:=fun x hx c hc=>by
      obtain⟨j,hj,rfl⟩:=List.mem_iff_getElem.1 hx;exact cA.ids t' _ _ (z2.2 j (by rw[z2.1];exact hj) hj) c hc
     have tr:=xM (s:=⟨fun _=>.any,ah pre,nx⟩) (H':=ah []) (o:=o) (ck:=ck) hpre hp fl ⟨fun j ck' hj=>(by cases hj)⟩ rfl g lo n g1 (by omega);have hv2:=tr ps M w v hR hv;have hw:=kC (.list t') ((y.drop lo).take n) [.ab false ((ck.xs.drop lo).take n)] ⟨false,_,rfl,(z2.drop lo).take n⟩;rw[<-e1];exact(hw.2 0 Nat.zero_lt_one Nat.zero_lt_one) _ _ _ _ _ _ hv2
    ·cases h
   ·cases h
  ·exact plain (.list t) cs x os r ds h hr
 | pair a b iha ihb=>
  intro cs x os r ds h hr ho;simp only[py] at h;split at h
  ·rename_i x1 o1 r1 h1;split at h
   ·rename_i y1 o2 r2 h2;simp only[Option.some.injEq,Prod.mk.injEq] at h;obtain⟨e1,e2,e3⟩:=h;obtain⟨d1,d2,rfl,q1,q2⟩:=iha cs x1 o1 r1 ds h1 hr fun o hm=>ho o (by rw[<-e2];exact List.mem_append_left _ hm);obtain⟨d3,d4,rfl,q3,q4⟩:=ihb r1 y1 o2 r2 d2 h2 q2 fun o hm=>ho o (by rw[<-e2];exact List.mem_append_right _ hm);refine⟨d1++d3,d4,by rw[List.append_assoc],?_,by rw[<-e3];exact q4⟩;rw[<-e1];exact q1.append q3
   ·cases h
  ·cases h
 | int k=>exact fun cs x os r ds h hr _=>plain (.int k) cs x os r ds h hr
 | bool=>exact fun cs x os r ds h hr _=>plain .bool cs x os r ds h hr
 | str=>exact fun cs x os r ds h hr _=>plain .str cs x os r ds h hr
 | unit=>exact fun cs x os r ds h hr _=>plain .unit cs x os r ds h hr
theorem ni.agg{ds es:List DV}(h:aX (ni pre nx) ds es):ni pre nx (.agg ds) (.agg es):=fun ps M w x hR hv=>by
 obtain⟨vs,rfl,h1,h2,h3⟩:=hv.fj;have e:=h.1;exact .agg _ vs (by omega) (fun j hj=>h2 j (by omega)) fun j hj=>h.2 j (by omega) hj ps M w _ hR (h3 j (by omega))
theorem Rj(hH:jw HI H nx){t:GT}{v:IV}{x:El t}{os:List Nat}{d:DV}(h:wH t v HI=some (x,os))(hr:Rel H nx v d)(ho:∀o,o∈os->ah pre o=H o):ni pre nx d (jq t x):=by
 unfold wH at h;unfold jq;split at h
 ·rename_i cs ha;obtain⟨ds,rfl,k⟩:=hr.fj;split at h
  ·rename_i y os' hy;simp only[Option.some.injEq,Prod.mk.injEq] at h;obtain⟨e1,e2⟩:=h;rw[e1,e2] at hy;obtain⟨d1,d2,rfl,q1,q2⟩:=PK hH t cs x os [] ds hy k ho;have:=q2.dY;subst this;rw[ha,List.append_nil];exact ni.agg q1
  ·cases h
 ·cases h
 ·cases h
 ·rename_i ha _;split at h
  ·rename_i y os' hy;simp only[Option.some.injEq,Prod.mk.injEq] at h;obtain⟨e1,e2⟩:=h;rw[e1,e2] at hy;obtain⟨d1,d2,e,q1,q2⟩:=PK hH t _ x os [] [d] hy (.one hr) ho;have:=q2.dY;subst this;rw[List.append_nil] at e;subst e;obtain⟨_,⟨e,he⟩⟩:=yg ha x;rw[ha];rw[he] at q1 ⊢;obtain⟨_,e1,k⟩:=q1.p7;cases e1;exact k
  ·cases h
theorem Tw(hH:jw HI H nx):∀(ts:List GT) (vs:List IV) (x:aY ts) (os:List Nat) (ds:List DV),jJ ts vs HI=some (x,os)->bR H nx vs ds->(∀o,o∈os->ah pre o=H o)->aX (ni pre nx) ds (fg ts x)
 | [],vs,x,os,ds,h,hr,ho=>by
  cases vs with
  | nil=>rw[hr.dY];exact .nil
  | cons=>simp[jJ] at h
 | [t],vs,x,os,ds,h,hr,ho=>by
  cases vs with
  | nil=>simp[jJ] at h
  | cons v l=>
   cases l with
   | nil=>
    obtain⟨d,rfl,h1⟩:=hr.p7;simp only[jJ] at h;exact .one (Rj hH h h1 ho)
   | cons=>simp[jJ] at h
 | t::u::r,vs,x,os,ds,h,hr,ho=>by
  cases vs with
  | nil=>simp[jJ] at h
  | cons v l=>
   obtain⟨d,ds,rfl,h1,h2⟩:=hr.dD;simp only[jJ] at h;split at h
   ·rename_i a o1 ha;split at h
    ·rename_i b o2 hb;simp only[Option.some.injEq,Prod.mk.injEq] at h;obtain⟨e1,e2⟩:=h;rw[<-e1];exact(Tw hH (u::r) l b o2 ds hb h2 fun o hm=>ho o (by rw[<-e2];exact List.mem_append_right _ hm)).cons (Rj hH ha h1 fun o hm=>ho o (by rw[<-e2];exact List.mem_append_left _ hm))
    ·cases h
   ·cases h
theorem QS:∀(t:GT) (cs:List IV) (x:El t) (os:List Nat) (r:List IV),py t cs HI=some (x,os,r)->∀o,o∈os->∃t as,aK HI o=some (.arr t as):=by
 have plain:∀(t:GT) (cs:List IV) (x:El t) (os:List Nat) (r:List IV),wc t cs=some (x,os,r)->∀o,o∈os->∃t as,aK HI o=some (.arr t as):=by
  intro t cs x os r h o ho;unfold wc at h;split at h
  ·simp only[Option.some.injEq,Prod.mk.injEq] at h;rw[<-h.2.1] at ho;cases ho
  ·cases h
 intro t;induction t with
 | list t ih=>
  intro cs x os r h;simp only[py] at h;split at h
  ·split at h
   ·rename_i t' as hc;split at h
    ·simp only[Option.some.injEq,Prod.mk.injEq] at h;intro o ho;rw[<-h.2.1] at ho;rw[List.mem_singleton.1 ho];exact⟨_,_,hc⟩
    ·cases h
   ·cases h
  ·split at h
   ·rename_i t' as hc;split at h
    ·simp only[Option.some.injEq,Prod.mk.injEq] at h;intro o ho;rw[<-h.2.1] at ho;rw[List.mem_singleton.1 ho];exact⟨_,_,hc⟩
    ·cases h
   ·cases h
  ·exact plain (.list t) cs x os r h
 | pair a b iha ihb=>
  intro cs x os r h;simp only[py] at h;split at h
  ·rename_i x1 o1 r1 h1;split at h
   ·rename_i y1 o2 r2 h2;simp only[Option.some.injEq,Prod.mk.injEq] at h;intro o ho;rw[<-h.2.1] at ho;rcases List.mem_append.1 ho with ho | ho
    ·exact iha _ _ _ _ h1 o ho
    ·exact ihb _ _ _ _ h2 o ho
   ·cases h
  ·cases h
 | int k=>exact fun cs x os r h=>plain (.int k) cs x os r h
 | bool=>exact fun cs x os r h=>plain .bool cs x os r h
 | str=>exact fun cs x os r h=>plain .str cs x os r h
 | unit=>exact fun cs x os r h=>plain .unit cs x os r h
theorem Sa{t:GT}{v:IV}{x:El t}{os:List Nat}(h:wH t v HI=some (x,os)):∀o,o∈os->∃t as,aK HI o=some (.arr t as):=by
 unfold wH at h;split at h
 ·split at h
  ·rename_i hy;simp only[Option.some.injEq,Prod.mk.injEq] at h;rw[<-h.2];exact QS _ _ _ _ _ hy
  ·cases h
 ·cases h
 ·cases h
 ·split at h
  ·rename_i hy;simp only[Option.some.injEq,Prod.mk.injEq] at h;rw[<-h.2];exact QS _ _ _ _ _ hy
  ·cases h
theorem U2:∀(ts:List GT) (vs:List IV) (x:aY ts) (os:List Nat),jJ ts vs HI=some (x,os)->∀o,o∈os->∃t as,aK HI o=some (.arr t as)
 | [],vs,x,os,h=>by
  cases vs with
  | nil=>
   simp only[jJ,Option.some.injEq,Prod.mk.injEq] at h;intro o ho;rw[<-h.2] at ho;cases ho
  | cons=>simp[jJ] at h
 | [t],vs,x,os,h=>by
  cases vs with
  | nil=>simp[jJ] at h
  | cons v l=>
   cases l with
   | nil=>simp only[jJ] at h;exact Sa h
   | cons=>simp[jJ] at h
 | t::u::r,vs,x,os,h=>by
  cases vs with
  | nil=>simp[jJ] at h
  | cons v l=>
   simp only[jJ] at h;split at h
   ·rename_i a o1 ha;split at h
    ·rename_i b o2 hb;simp only[Option.some.injEq,Prod.mk.injEq] at h;intro o ho;rw[<-h.2] at ho;rcases List.mem_append.1 ho with ho | ho
     ·exact Sa ha o ho
     ·exact U2 (u::r) l b o2 hb o ho
    ·cases h
   ·cases h
end NV
def K8(ts ret:List GT)(model:aY ts->Option (aY ret)):eC:=fun args H k=>match kX ts args with
 | some x=>Option.bind (model x) fun y=>k (B4 (jH ret y)) H [] [] []
 | none=>match xy ret,jJ ts args H with
  | true,some (x,os)=>Option.bind (model x) fun y=>k (B4 (jH ret y)) H os os []
  | _,_=>none
theorem bD{P:Program}{f:FuncId}{ts ret:List GT}{model:aY ts->Option (aY ret)}(h:bk P f ts ret model):iY P f (K8 ts ret model):=by
 intro R args HI k r hr dargs H nx ha hH hn;simp only[K8] at hr;split at hr
 ·rename_i x hx;cases hm:model x with
  | none=>rw[hm] at hr;cases hr
  | some y=>
   rw[hm] at hr;refine⟨_,HI,[],[],[],hr,[],_,[],nx,(h x y hm nx).KP (Cp ts args x dargs hx ha),fun o ck h=>(by cases h),rfl,rfl,hn,hH,DT (ug ret y),.same k8.refl⟩
 ·split at hr
  ·rename_i x os hno hx;cases hm:model x with
   | none=>rw[hm] at hr;cases hr
   | some y=>
    rw[hm] at hr;have hmem:=U2 ts args x os hx;let pre:bT:=os.map fun o=>(o,(H o).getD ⟨0,0,[]⟩)
    have there:∀o,o∈os->∃t as ck,aK HI o=some (.arr t as)/\H o=some ck/\dh H nx (.arr t as) ck:=fun o ho=>by
     obtain⟨t,as,hc⟩:=hmem o ho;obtain⟨_,ck,k1,k2⟩:=hH o _ hc;exact⟨t,as,ck,hc,k1,k2⟩
    have inv:∀o ck,ah pre o=some ck->o∈os/\H o=some ck:=fun o ck ho=>by
     have hm:=mS ho;obtain⟨q,hq,e⟩:=List.mem_map.1 hm;injection e with e1 e2
     subst e1;obtain⟨_,_,c,_,k1,_⟩:=there q hq;rw[k1] at e2;exact⟨hq,by rw[k1,<-e2];simp⟩
    have at_:∀o,o∈os->ah pre o=H o:=fun o ho=>by
     obtain⟨_,_,c,_,k1,_⟩:=there o ho;have hk:o∈pre.map (·.1):=List.mem_map.2 ⟨(o,(H o).getD ⟨0,0,[]⟩),List.mem_map.2 ⟨o,ho,rfl⟩,rfl⟩;rcases tS pre o with⟨ck,h1,h2⟩ | h2
     ·have:=inv o ck (h2 Hp.emp);show bK Hp.emp pre o=_;rw[h2 Hp.emp,this.2]
     ·exfalso;have:=h2 (fun _=>some ⟨1,0,[]⟩);have h3:=Bt (H:=Hp.emp) (H':=fun _=>some ⟨1,0,[]⟩) hk;rw[h2,h2] at h3;cases h3
    have same:bK H pre=H:=by
     funext o
     rcases mf pre H o with⟨_,q2⟩ | ⟨ck,q1,q2⟩
     ·exact q2
     ·rw[q2,(inv o ck q1).2]
    have hkeys:pre.map (·.1)=os:=by simp[pre,Function.comp_def]
    refine⟨_,HI,os,os,[],hr,pre,_,pre,nx,de.borrow (h x y hm nx) (axg (Ui ret y hno)) pre (fun o ck ho x hx c hc=>?_) (Tw hH ts args x os dargs hx ha at_),fun o ck ho=>(inv o ck ho).2,hkeys,hkeys,hn,by rw[same];exact hH,DT (ug ret y),by rw[same];exact .same k8.refl⟩;obtain⟨h1,h2⟩:=inv o ck ho;obtain⟨t,as,c,_,k1,k2,k3⟩:=there o h1;rw[h2] at k1;injection k1 with k1;subst k1
    obtain⟨j,hj,rfl⟩:=List.mem_iff_getElem.1 hx;exact cA.ids t _ _ (k3.2 j (by rw[k3.1];exact hj) hj) c hc
  ·cases hr
inductive Rn (r γ:Nat->Nat) (q:Nat):DV->DV->Prop
 | flat (d:DV) (h:bB (fun _=>False) d):Rn r γ q d d
 | ptr (j g i f:Nat) (h:j<q):Rn r γ q (.ptr (r j) (g+γ j) i f) (.ptr j g i f)
 | own (j g lo n:Nat) (h:j<q):Rn r γ q (.own (r j) (g+γ j) lo n) (.own j g lo n)
 | agg (cs ds:List DV) (hl:cs.length=ds.length) (h:∀j (h1:j<cs.length) (h2:j<ds.length),Rn r γ q cs[j] ds[j]):Rn r γ q (.agg cs) (.agg ds)
 | bh (cs ds:List DV) (hl:cs.length=ds.length) (h:∀j (h1:j<cs.length) (h2:j<ds.length),Rn r γ q cs[j] ds[j]):Rn r γ q (.bh cs) (.bh ds)
 | fn (f:FuncId) (cs ds:List DV) (hl:cs.length=ds.length) (h:∀j (h1:j<cs.length) (h2:j<ds.length),Rn r γ q cs[j] ds[j]):Rn r γ q (.fn f cs) (.fn f ds)
section rn
variable {r γ:Nat->Nat} {q:Nat} {H1 H2:Hp} {ps1 ps2:Ps} {M:Nat->Prop} {n1 n2:Nat} {w:World}
theorem Rn.down{d' d:DV}{x:Value}(h:Rn r γ q d' d)(hmu:∀b,Mu H1 ps1 M b->Mu H2 ps2 M b)(hH:∀j ck,j<q->H1 j=some ck->∃c2,H2 (r j)=some c2/\c2.gen=ck.gen+γ j/\ck.sz=c2.sz/\ck.xs.length=c2.xs.length/\ps1 j=ps2 (r j))(hn:q<=n1)(hv:VR H2 ps2 M n2 w d' x):VR H1 ps1 M n1 w d x:=by
 induction h generalizing x with
 | flat d hd=>exact hv.ke hd ⟨fun o h=>h.elim,fun o h=>h.elim,fun b hb=>.inl (hmu b hb),fun _ _ _=>rfl⟩
 | ptr j g i f hj=>
  cases hv with
  | ptr _ _ _ _ _ h0 h1 hh=>
   refine .ptr _ _ _ _ _ (Nat.lt_of_lt_of_le hj hn) h1 fun ck hk=>?_;obtain⟨c2,k1,k2,k3,k4,k5⟩:=hH j ck hj hk;obtain⟨a1,a2⟩:=hh c2 k1;refine⟨by omega,fun e=>?_⟩;obtain⟨b1,p,b2,b3⟩:=a2 (by omega);exact⟨by omega,p,by rw[k5];exact b2,by rw[k3];exact b3⟩
 | own j g lo n hj=>
  cases hv with
  | own _ _ _ _ _ h0 h1 hh=>
   refine .own _ _ _ _ _ (Nat.lt_of_lt_of_le hj hn) h1 fun ck hk=>?_;obtain⟨c2,k1,k2,k3,k4,k5⟩:=hH j ck hj hk;obtain⟨a1,a2⟩:=hh c2 k1;refine⟨by omega,fun e=>?_⟩;obtain⟨b1,a,cap,b2,b3,b4⟩:=a2 (by omega);refine⟨by omega,a,cap,b2,b3,?_⟩;rcases b4 with b4 | ⟨p,p1,p2,p3⟩
   ·exact .inl b4
   ·exact .inr ⟨p,by rw[k5];exact p1,by rw[k3];exact p2,by rw[k3];exact p3⟩
 | agg cs ds hl _ ih=>
  obtain⟨vs,rfl,h1,h2,h3⟩:=hv.fj;exact .agg _ vs (by omega) (fun j hj=>h2 j (by omega)) fun j hj=>ih j (by omega) hj (h3 j (by omega))
 | bh cs ds hl _ ih=>
  obtain⟨vs,rfl,h1,h2⟩:=hv.kG;exact .bh _ vs (by omega) fun j hj=>ih j (by omega) hj (h2 j (by omega))
 | fn f cs ds hl _ ih=>
  obtain⟨vs,rfl,h1,h2⟩:=hv.jQ;exact .fn _ _ vs (by omega) fun j hj=>ih j (by omega) hj (h2 j (by omega))
theorem Rn.up{d' d:DV}{x:Value}(h:Rn r γ q d' d)(hmu:∀b,Mu H2 ps2 M b->Mu H1 ps1 M b)(hH:∀j ck,j<q->H2 (r j)=some ck->∃c1,H1 j=some c1/\ck.gen=c1.gen+γ j/\ck.sz=c1.sz/\ck.xs.length=c1.xs.length/\ps1 j=ps2 (r j))(hn:∀j,j<q->r j<n2)(hv:VR H1 ps1 M n1 w d x):VR H2 ps2 M n2 w d' x:=by
 induction h generalizing x with
 | flat d hd=>exact hv.ke hd ⟨fun o h=>h.elim,fun o h=>h.elim,fun b hb=>.inl (hmu b hb),fun _ _ _=>rfl⟩
 | ptr j g i f hj=>
  cases hv with
  | ptr _ _ _ _ _ h0 h1 hh=>
   refine .ptr _ _ _ _ _ (hn j hj) h1 fun ck hk=>?_;obtain⟨c2,k1,k2,k3,k4,k5⟩:=hH j ck hj hk;obtain⟨a1,a2⟩:=hh c2 k1;refine⟨by omega,fun e=>?_⟩;obtain⟨b1,p,b2,b3⟩:=a2 (by omega);exact⟨by omega,p,by rw[<-k5];exact b2,by rw[k3];exact b3⟩
 | own j g lo n hj=>
  cases hv with
  | own _ _ _ _ _ h0 h1 hh=>
   refine .own _ _ _ _ _ (hn j hj) h1 fun ck hk=>?_;obtain⟨c2,k1,k2,k3,k4,k5⟩:=hH j ck hj hk;obtain⟨a1,a2⟩:=hh c2 k1;refine⟨by omega,fun e=>?_⟩;obtain⟨b1,a,cap,b2,b3,b4⟩:=a2 (by omega);refine⟨by omega,a,cap,b2,b3,?_⟩;rcases b4 with b4 | ⟨p,p1,p2,p3⟩
   ·exact .inl b4
   ·exact .inr ⟨p,by rw[<-k5];exact p1,by rw[k3];exact p2,by rw[k3];exact p3⟩
 | agg cs ds hl _ ih=>
  obtain⟨vs,rfl,h1,h2,h3⟩:=hv.fj;exact .agg _ vs (by omega) (fun j hj=>h2 j (by omega)) fun j hj=>ih j hj (by omega) (h3 j (by omega))
 | bh cs ds hl _ ih=>
  obtain⟨vs,rfl,h1,h2⟩:=hv.kG;exact .bh _ vs (by omega) fun j hj=>ih j hj (by omega) (h2 j (by omega))
 | fn f cs ds hl _ ih=>
  obtain⟨vs,rfl,h1,h2⟩:=hv.jQ;exact .fn _ _ vs (by omega) fun j hj=>ih j hj (by omega) (h2 j (by omega))
theorem Rn.ids{S:Nat->Prop}{d' d:DV}(h:Rn r γ q d' d)(hS:∀j,j<q->S (r j)):bB S d':=by
 induction h with
 | flat d hd=>exact hd.kF fun _ h=>h.elim
 | ptr j g i f hj=>exact .ptr _ _ _ _ (hS j hj)
 | own j g lo n hj=>exact .own _ _ _ _ (hS j hj)
 | agg cs ds hl _ ih=>
  refine .agg _ fun c hc=>?_;obtain⟨j,hj,rfl⟩:=List.mem_iff_getElem.1 hc;exact ih j hj (by omega)
 | bh cs ds hl _ ih=>
  refine .bh _ fun c hc=>?_;obtain⟨j,hj,rfl⟩:=List.mem_iff_getElem.1 hc;exact ih j hj (by omega)
 | fn f cs ds hl _ ih=>
  refine .fn _ _ fun c hc=>?_;obtain⟨j,hj,rfl⟩:=List.mem_iff_getElem.1 hc;exact ih j hj (by omega)
end rn
structure yq (r γ:Nat->Nat) (q g:Nat) (c' c:Ck):Prop where
 g:c'.gen=c.gen+g
 s:c.sz=c'.sz
 l:c.xs.length=c'.xs.length
 r:∀i (h1:i<c.xs.length) (h2:i<c'.xs.length),c.xs[i].length=c'.xs[i].length/\∀j (h3:j<c.xs[i].length) (h4:j<c'.xs[i].length),∃e,eQ c'.xs[i][j] e/\Rn r γ q e c.xs[i][j]
structure akj (r γ:Nat->Nat) (q:Nat) (c' c:bT):Prop where
 to:∀j ck,ah c j=some ck->j<q/\∃ck',ah c' (r j)=some ck'/\yq r γ q (γ j) ck' ck
 of:∀o ck',ah c' o=some ck'->∃j ck,j<q/\o=r j/\ah c j=some ck
structure mP (r γ:Nat->Nat) (q g:Nat) (c' c:Ck):Prop where
 g:c'.gen=c.gen+g
 s:c.sz=c'.sz
 l:c.xs.length=c'.xs.length
 r:∀i (h1:i<c.xs.length) (h2:i<c'.xs.length),c.xs[i].length=c'.xs[i].length/\∀j (h3:j<c.xs[i].length) (h4:j<c'.xs[i].length),Rn r γ q c'.xs[i][j] c.xs[i][j]
theorem mP.m{r γ:Nat->Nat}{q g:Nat}{c' c:Ck}(h:mP r γ q g c' c):yq r γ q g c' c:=⟨h.g,h.s,h.l,fun i h1 h2=>⟨(h.r i h1 h2).1,fun j h3 h4=>⟨_,.refl _,(h.r i h1 h2).2 j h3 h4⟩⟩⟩
theorem de.rename{P:Program}{f:FuncId}{args args':List DV}{pre pre':bT}{p q nb:Nat}{res res':DV}{post post':bT}{r γ:Nat->Nat}(h:de P f args pre p res post q)
  (hinj:∀i j,i<q->j<q->r i=r j->i=j) (hold:∀j,j<p->r j<nb) (hnew:∀j,p<=j->j<q->nb<=r j/\r j<nb+(q-p))
  (hpre:akj r γ p pre' pre) (hpost:∀o ck',ah post' o=some ck'->∃j ck,j<q/\o=r j/\ah post j=some ck/\mP r γ q (γ j) ck' ck) (hto:∀j ck,ah post j=some ck->j<q/\∃ck',ah post' (r j)=some ck')
  (ha:aX (Rn r γ p) args' args) (hr:Rn r γ q res' res) (hkept:∀j,j<q->∃ck,ah post j=some ck):
  de P f args' pre' nb res' post' (nb+(q-p)):=by
 have hpq:=h.le;have hpost_at:∀j ck,ah post j=some ck->∃ck',ah post' (r j)=some ck'/\mP r γ q (γ j) ck' ck:=fun j ck hj=>by
  obtain⟨hjq,ck',h1⟩:=hto j ck hj;obtain⟨i,c0,hi,e,hc0,hE⟩:=hpost _ ck' h1;have:=hinj j i hjq hi e;subst this;rw[hj] at hc0;cases hc0;exact⟨ck',h1,hE⟩
 have named:∀j,j<q->(∃ck,ah post' (r j)=some ck):=fun j hj=>by
  obtain⟨ck,hk⟩:=hkept j hj;obtain⟨ck',h1,_⟩:=hpost_at j ck hk;exact⟨ck',h1⟩
 refine⟨h.fn,fun o ck ho=>?_,fun o ck' ho hlt=>?_,Nat.le_add_right ..,?_,fun o ck ho x hx c hc=>?_,fun M ps w cargs hR hsz hva hgl=>?_⟩
 ·obtain⟨j,c,hj,rfl,hc⟩:=hpre.of o ck ho;exact named j (by omega)
 ·obtain⟨j,c,hj,rfl,hc,_⟩:=hpost o ck' ho;have hjp:j<p:=by
   rcases Nat.lt_or_ge j p with h1 | h1
   ·exact h1
   ·have:=(hnew j h1 hj).1;omega
  obtain⟨c0,hc0⟩:=h.fL j c hc hjp;obtain⟨_,c1,h1,_⟩:=hpre.to j c0 hc0;exact⟨c1,h1⟩
 ·exact hr.ids fun j hj=>.inl (named j hj)
 ·obtain⟨j,c0,hj,rfl,hc0,hE⟩:=hpost o ck ho;obtain⟨i,hi,rfl⟩:=List.mem_iff_getElem.1 hx;obtain⟨k,hk,rfl⟩:=List.mem_iff_getElem.1 hc;have q1:=hE.r i (by rw[hE.l];exact hi) hi;exact(q1.2 k (by rw[q1.1];exact hk) hk).ids fun j hj=>.inl (named j hj)
 ·let ps1:Ps:=fun j=>ps (r j)
  have live1:∀b,Live (ah pre) ps1 b->Live (ah pre') ps b:=by
   rintro b ⟨j,ck,p1,h1,h2,h3⟩;obtain⟨_,ck',h4,_⟩:=hpre.to j ck h1;exact⟨r j,ck',p1,h4,h2,h3⟩
  have live2:∀b,Live (ah pre') ps b->Live (ah pre) ps1 b:=by
   rintro b ⟨o,ck',p1,h1,h2,h3⟩;obtain⟨j,ck,hj,rfl,h4⟩:=hpre.of o ck' h1;exact⟨j,ck,p1,h4,h2,h3⟩
  have mu1:∀b,Mu (ah pre) ps1 M b->Mu (ah pre') ps M b:=fun b hb=>hb.elim .inl fun h=>.inr (live1 b h);have dn:∀i ck,i<p->ah pre i=some ck->∃c2,ah pre' (r i)=some c2/\c2.gen=ck.gen+γ i/\ck.sz=c2.sz/\ck.xs.length=c2.xs.length/\ps1 i=ps (r i):=fun i ck hi hk=>by
   obtain⟨_,c2,k1,k2⟩:=hpre.to i ck hk;exact⟨c2,k1,k2.g,k2.s,k2.l,rfl⟩
  have hR1:HR (ah pre) ps1 M p w:=by
   refine⟨fun j ck hj=>(hpre.to j ck hj).1,fun j ck hj=>?_,fun i j ci cj pi pj h1 h2 h3 h4 h5=>?_,hR.ml,fun j ck p1 h1 h2=>?_⟩
   ·obtain⟨_,ck',h1,h2⟩:=hpre.to j ck hj;rcases hR.cr _ ck' h1 with⟨g1,g2⟩ | ⟨p1,c,E,vs,g1,g2,g3,g4,g5,g6,g7⟩
    ·exact .inl ⟨g1,List.eq_nil_of_length_eq_zero (by rw[h2.l,g2];rfl)⟩
    ·refine .inr ⟨p1,c,E,vs,g1,g2,g3,fun i hi=>?_,by rw[h2.l,h2.s];exact g5,fun i j hi hj=>by rw[h2.s] at hj ⊢;exact g6 i j (by rw[<-h2.l];exact hi) hj,fun i k hi hk=>?_⟩
     ·rw[(h2.r i hi (by rw[<-h2.l];exact hi)).1,h2.s];exact g4 i _
     ·have q3:=h2.r i hi (by rw[<-h2.l];exact hi);obtain⟨e,w1,w2⟩:=q3.2 k hk (by rw[<-q3.1];exact hk);exact w2.down mu1 dn (Nat.le_refl _) (w1 _ _ _ _ _ _ (g7 i k _ _))
   ·obtain⟨hi,c1,k1,_⟩:=hpre.to i ci h1;obtain⟨hj,c2,k2,_⟩:=hpre.to j cj h2;exact hinj i j (by omega) (by omega) (hR.inj _ _ c1 c2 pi pj k1 k2 h3 h4 h5)
   ·obtain⟨_,c1,k1,_⟩:=hpre.to j ck h1;exact hR.dj _ c1 p1 k1 h2
  have hva1:∀j (hj:j<args.length),VR (ah pre) ps1 M p w args[j] (cargs.getD j undef):=fun j hj=>by
   have hj':j<args'.length:=by rw[ha.1];exact hj
   exact(ha.2 j hj' hj).down mu1 dn (Nat.le_refl _) (hva j hj')
  refine(h.run M ps1 w cargs hR1 (by rw[hsz,ha.1]) hva1 (hgl.less live1)).mono ?_;rintro e w' ⟨v,ps1',rfl,g1,g2,g3,g4,g5⟩;classical
  let ps2:Ps:=fun o=>if hh:∃j,j<q/\r j=o then ps1' (Classical.choose hh) else ps o
  have ps2_at:∀j,j<q->ps2 (r j)=ps1' j:=fun j hj=>by
   have hh:∃i,i<q/\r i=r j:=⟨j,hj,rfl⟩;have:Classical.choose hh=j:=hinj _ _ (Classical.choose_spec hh).1 hj (Classical.choose_spec hh).2;simp only[ps2,dif_pos hh,this]
  have rlt:∀j,j<q->r j<nb+(q-p):=fun j hj=>by
   rcases Nat.lt_or_ge j p with h1 | h1
   ·have:=hold j h1;omega
   ·exact(hnew j h1 hj).2
  have live3:∀b,Live (ah post') ps2 b->Live (ah post) ps1' b:=by
   rintro b ⟨o,ck',p1,h1,h2,h3⟩;obtain⟨j,ck,hj,rfl,h4,_⟩:=hpost o ck' h1;rw[ps2_at j hj] at h2;exact⟨j,ck,p1,h4,h2,h3⟩
  have mu2:∀b,Mu (ah post') ps2 M b->Mu (ah post) ps1' M b:=fun b hb=>hb.elim .inl fun h=>.inr (live3 b h);have up:∀j ck,j<q->ah post' (r j)=some ck->∃c1,ah post j=some c1/\ck.gen=c1.gen+γ j/\ck.sz=c1.sz/\ck.xs.length=c1.xs.length/\ps1' j=ps2 (r j):=fun j ck hj hk=>by
   obtain⟨i,c0,hi,e,hc0,hE⟩:=hpost _ ck hk;have:=hinj j i hj hi e;subst this;exact⟨c0,hc0,hE.g,hE.s.symm,hE.l.symm,(ps2_at j hj).symm⟩
  refine⟨v,ps2,rfl,hr.up mu2 up rlt g1,⟨fun o ck' ho=>?_,fun o ck' ho=>?_,fun o o' c c' p1 p1' h1 h2 h3 h4 h5=>?_,g2.ml,fun o ck' p1 h1 h2=>?_⟩,⟨g3.os,g3.tape,g3.output,g3.size,fun b hb hl=>g3.block b hb fun hl'=>hl (live1 b hl')⟩,fun o ck' p1 h1 h2=>?_,fun o ho ck' hk=>?_⟩
  ·obtain⟨j,ck,hj,rfl,_⟩:=hpost o ck' ho;exact rlt j hj
  ·obtain⟨j,ck,hj,rfl,h4,hE⟩:=hpost o ck' ho;rcases g2.cr j ck h4 with⟨a1,a2⟩ | ⟨p1,c,E,vs,a1,a2,a3,a4,a5,a6,a7⟩
   ·exact .inl ⟨by rw[ps2_at j hj];exact a1,List.eq_nil_of_length_eq_zero (by rw[<-hE.l,a2];rfl)⟩
   ·refine .inr ⟨p1,c,E,vs,by rw[ps2_at j hj];exact a1,a2,a3,fun i hi=>?_,by rw[<-hE.l,<-hE.s];exact a5,fun i k hi hk=>by rw[<-hE.s] at hk ⊢;exact a6 i k (by rw[hE.l];exact hi) hk,fun i k hi hk=>?_⟩
    ·rw[<-(hE.r i (by rw[hE.l];exact hi) hi).1,<-hE.s];exact a4 i _
    ·have q3:=hE.r i (by rw[hE.l];exact hi) hi;exact(q3.2 k (by rw[q3.1];exact hk) hk).up mu2 up rlt (a7 i k _ _)
  ·obtain⟨i,ci,hi,rfl,k1,_⟩:=hpost o c h1;obtain⟨j,cj,hj,rfl,k2,_⟩:=hpost o' c' h2;rw[ps2_at i hi] at h3;rw[ps2_at j hj] at h4;rw[g2.inj i j ci cj p1 p1' k1 k2 h3 h4 h5]
  ·obtain⟨j,ck,hj,rfl,k1,_⟩:=hpost o ck' h1;rw[ps2_at j hj] at h2;exact g2.dj j ck p1 k1 h2
  ·obtain⟨j,ck,hj,rfl,k1,_⟩:=hpost o ck' h1;rw[ps2_at j hj] at h2;rcases g4 j ck p1 k1 h2 with k | k
   ·exact .inl (live1 _ k)
   ·exact .inr k
  ·obtain⟨j,ck,hj,rfl,k1,hE⟩:=hpost o ck' hk;have hjp:j<p:=by
    rcases Nat.lt_or_ge j p with h1 | h1
    ·exact h1
    ·have:=(hnew j h1 hj).1;omega
   obtain⟨c0,q1,q2⟩:=g5 j hjp ck k1;obtain⟨_,c1,q3,q4⟩:=hpre.to j c0 q1;refine⟨c1,q3,?_⟩;rcases q2 with q2 | ⟨q2,q5,q6,q7⟩
   ·exact .inl (by rw[q4.g,hE.g];omega)
   ·exact .inr ⟨by rw[q4.g,hE.g,q2],by rw[<-q4.s,<-hE.s];exact q5,by rw[<-q4.l,<-hE.l];exact q6,by rw[ps2_at j hj,q7]⟩
inductive PT where
 | v (t:GT)
 | a (t:GT)
 | p (x y:PT)
def PT.ty:PT->GT
 | .v t=>t
 | .a t=>.list t
 | .p x y=>.pair x.ty y.ty
def PT.n:PT->Nat
 | .v _=>0
 | .a _=>1
 | .p x y=>x.n+y.n
def oI:(p:PT)->El p.ty->Nat->List IV
 | .v t,x,_=>kf t x
 | .a _,_,i=>[.whole i]
 | .p a b,x,i=>oI a x.1 i++oI b x.2 (i+a.n)
def oD(gs:Nat->Nat):(p:PT)->El p.ty->Nat->List DV
 | .v t,x,_=>aN t x
 | .a t,x,i=>[.own i (gs i) 0 (List.length (α:=El t) x)]
 | .p a b,x,i=>oD gs a x.1 i++oD gs b x.2 (i+a.n)
def oH:(p:PT)->El p.ty->IH
 | .v _,_=>[]
 | .a t,x=>[some (.arr t x)]
 | .p a b,x=>oH a x.1++oH b x.2
def oC(gs:Nat->Nat):(p:PT)->El p.ty->Nat->bT
 | .v _,_,_=>[]
 | .a t,x,i=>[(i,⟨gs i,t.sz,List.map (α:=El t) (aN t) x⟩)]
 | .p a b,x,i=>oC gs a x.1 i++oC gs b x.2 (i+a.n)
def tC:(p:PT)->List IV->IH->Nat->Option (El p.ty×List IV)
 | .v t,cs,_,_=>lx t cs
 | .a t,cs,H,i=>match cs with
  | .whole o::r=>match Nat.beq o i,aK H o with
   | true,some (.arr t' as)=>match kY t' t as with
    | some x=>some (x,r)
    | none=>none
   | _,_=>none
  | _=>none
 | .p a b,cs,H,i=>match tC a cs H i with
  | some (x,r)=>match tC b r H (i+a.n) with
   | some (y,r')=>some ((x,y),r')
   | none=>none
  | none=>none
theorem pJ:∀(p:PT) (x:El p.ty),(oH p x).length=p.n
 | .v _,_=>rfl
 | .a _,_=>rfl
 | .p a b,x=>by simp only[oH,List.length_append,pJ a,pJ b,PT.n]
theorem cL(gs:Nat->Nat):∀(p:PT) (x:El p.ty) (i:Nat),(oC gs p x i).length=p.n
 | .v _,_,_=>rfl
 | .a _,_,_=>rfl
 | .p a b,x,i=>by simp only[oC,List.length_append,cL gs a,cL gs b,PT.n]
theorem wg(gs:Nat->Nat):∀(p:PT) (x:El p.ty) (i:Nat) (c:Nat×Ck),c∈oC gs p x i->∃(t:GT) (l:List (El t)),c.2=⟨gs c.1,t.sz,l.map (aN t)⟩
 | .v _,_,_,c,h=>by cases h
 | .a t,x,i,c,h=>by
  rw[List.mem_singleton.1 h];exact⟨t,x,rfl⟩
 | .p a b,x,i,c,h=>by
  rcases List.mem_append.1 h with h | h
  ·exact wg gs a _ _ c h
  ·exact wg gs b _ _ c h
def gK(H:Hp)(o:Nat):Nat:=((H o).map (·.gen)).getD 0
theorem Az{s:St}{T:List (Nat×IV)}{HI:IH}(hs:SR ⟨T,HI⟩ s):∀(p:PT) (cs:List IV) (x:El p.ty) (r:List IV) (i:Nat) (ds:List DV),tC p cs HI i=some (x,r)->bR s.H s.nx cs ds->
  ∃d1 d2,ds=d1++d2/\aX eQ d1 (oD (gK s.H) p x i)/\bR s.H s.nx r d2/\∀(k:Nat) c,(oC (gK s.H) p x i)[k]? =some c->∃ck,s.H (i+k)=some ck/\kH ck c.2
 | .v t,cs,x,r,i,ds,h,hr=>by
  obtain⟨d1,d2,e,h1,h2⟩:=vb t cs x r ds h hr;exact⟨d1,d2,e,kC t x d1 h1,h2,fun k c hk=>by simp[oC] at hk⟩
 | .a t,cs,x,r,i,ds,h,hr=>by
  simp only[tC] at h;split at h
  ·rename_i o r';split at h
   ·rename_i t' as hb hc;split at h
    ·rename_i y hy;obtain⟨rfl,rfl⟩:=nW hy;injection h with h;injection h with h1 h2
     subst h1;subst h2;have:=Nat.eq_of_beq_eq_true hb;subst this;obtain⟨d,ds,rfl,q1,q2⟩:=hr.dD;obtain⟨g,n,rfl,ho,hg⟩:=q1.nk;obtain⟨_,ck,k1,k2⟩:=hs.h.at hc;obtain⟨z1,z2⟩:=k2;obtain⟨g1,g2⟩:=hg ck k1;have eg:gK s.H o=ck.gen:=by simp only[gK,k1,Option.map_some,Option.getD_some]
     refine⟨[.own o g 0 n],ds,rfl,?_,q2,fun k c hk=>?_⟩
     ·show aX eQ _ [DV.own o (gK s.H o) 0 (List.length y)];rw[eg,g1,z2.1,g2];exact .one (.refl _)
     ·cases k with
      | zero=>
       simp only[oC,List.getElem?_cons_zero,Option.some.injEq] at hk;subst hk;refine⟨ck,k1,⟨eg,z1.symm,?_,fun j h1 h2=>?_⟩⟩
       ·show(List.map (aN t') y).length=_;rw[List.length_map];exact z2.1
       ·have hj:j<y.length:=by rw[z2.1];exact h2
        have hw:=kC t' y[j] ck.xs[j] (z2.2 j hj h2);have e:(List.map (aN t') y)[j]'(by rw[List.length_map];exact hj)=aN t' y[j]:=List.getElem_map ..;refine⟨by rw[e];exact hw.1.symm,fun m h3 h4=>?_⟩;show eQ _ (((List.map (aN t') y)[j]'(by rw[List.length_map];exact hj))[m]'h3);simp only[e];exact hw.2 m h4 _
      | succ k=>simp[oC] at hk
    ·cases h
   ·cases h
  ·cases h
 | .p a b,cs,x,r,i,ds,h,hr=>by
  simp only[tC] at h;split at h
  ·rename_i x1 r1 h1;split at h
   ·rename_i y1 r2 h2;injection h with h;injection h with e1 e2
    subst e1;subst e2;obtain⟨d1,d2,rfl,q1,q2,q3⟩:=Az hs a cs x1 r1 i ds h1 hr;obtain⟨d3,d4,rfl,q4,q5,q6⟩:=Az hs b r1 y1 r2 (i+a.n) d2 h2 q2;refine⟨d1++d3,d4,by rw[List.append_assoc],q1.append q4,q5,fun k c hk=>?_⟩;simp only[oC] at hk;rw[List.getElem?_append] at hk;split at hk
    ·exact q3 k c hk
    ·rename_i hge;rw[cL] at hge hk;obtain⟨ck,u1,u2⟩:=q6 _ c hk;exact⟨ck,by rw[show i+k=i+a.n+(k-a.n) by omega];exact u1,u2⟩
   ·cases h
  ·cases h
theorem DP{ρ γ gs gs':Nat->Nat}{q:Nat}:∀(p:PT) (x:El p.ty) (i i':Nat),(∀k,k<p.n->i+k<q/\ρ (i+k)=i'+k/\γ (i+k)=0/\gs' (i'+k)=gs (i+k))->aX (Rn ρ γ q) (oD gs' p x i') (oD gs p x i)
 | .v t,x,i,i',h=>⟨rfl,fun j h1 h2=>.flat _ (cA.ids t x _ (ig t x) _ (List.getElem_mem h1))⟩
 | .a t,x,i,i',h=>by
  have h0:=h 0 (by simp[PT.n]);simp only[Nat.add_zero] at h0;have:=Rn.own (r:=ρ) (γ:=γ) (q:=q) i (gs i) 0 (List.length (α:=El t) x) h0.1;rw[h0.2.1,h0.2.2.1,Nat.add_zero] at this;simp only[oD];rw[h0.2.2.2];exact .one this
 | .p a b,x,i,i',h=>by
  simp only[oD];refine(DP (gs:=gs) (gs':=gs') a x.1 i i' fun k hk=>h k (by simp only[PT.n];omega)).append (DP (gs:=gs) (gs':=gs') b x.2 (i+a.n) (i'+a.n) fun k hk=>?_);have:=h (a.n+k) (by simp only[PT.n];omega);rw[Nat.add_assoc,Nat.add_assoc];exact this
theorem xx{H:Hp}{nx:Nat}{gs:Nat->Nat}:∀(p:PT) (x:El p.ty) (i:Nat),(∀(k:Nat) c,(oC gs p x i)[k]? =some c->i+k<nx/\H (i+k)=some c.2)->bR H nx (oI p x i) (oD gs p x i)
 | .v t,x,i,h=>sH t x _ (ig t x)
 | .a t,x,i,h=>by
  have h0:=h 0 _ rfl;rw[Nat.add_zero] at h0;refine .one (.whole i (gs i) (List.length (α:=El t) x) h0.1 fun ck hk=>?_);rw[h0.2] at hk;injection hk with hk;subst hk
  exact⟨rfl,List.length_map ..⟩
 | .p a b,x,i,h=>by
  simp only[oI,oD];refine(xx a x.1 i fun k c hk=>h k c ?_).append (xx b x.2 (i+a.n) fun k c hk=>?_)
  ·simp only[oC];rw[List.getElem?_append_left];exact hk;exact(List.getElem?_eq_some_iff.1 hk).1
  ·have:=h (a.n+k) c (by
    simp only[oC];rw[List.getElem?_append_right (by rw[cL];omega),cL,show a.n+k-a.n=k by omega];exact hk)
   rw[Nat.add_assoc];exact this
theorem UO(t:GT)(x:List (El t)):aX (cA t) x (x.map (aN t)):=⟨by rw[List.length_map],fun j h1 h2=>by rw[List.getElem_map];exact ig t _⟩
theorem xR{H:Hp}{nx:Nat}{gs:Nat->Nat}:∀(p:PT) (x:El p.ty) (i o:Nat) (c:cS),aK (oH p x) o=some c->∃cp,(oC gs p x i)[o]? =some (i+o,cp)/\dh H nx c cp
 | .v _,_,_,o,c,h=>by simp[oH,aK] at h
 | .a t,x,i,0,c,h=>by
  simp only[oH,aK,Option.some.injEq] at h;subst h;exact⟨_,rfl,rfl,UO t x⟩
 | .a t,x,i,o+1,c,h=>by simp[oH,aK] at h
 | .p a b,x,i,o,c,h=>by
  simp only[oH] at h;rw[ot,pJ] at h;simp only[oC];split at h
  ·rename_i hlt;obtain⟨cp,h1,h2⟩:=xR a x.1 i o c h;exact⟨cp,by rw[List.getElem?_append_left (by rw[cL];exact hlt)];exact h1,h2⟩
  ·rename_i hge;obtain⟨cp,h1,h2⟩:=xR b x.2 (i+a.n) (o-a.n) c h;refine⟨cp,?_,h2⟩;rw[List.getElem?_append_right (by rw[cL];omega),cL,h1];congr 2;omega
theorem Oa{S:Nat->Prop}(gs:Nat->Nat):∀(p:PT) (x:El p.ty) (i:Nat),(∀o,i<=o->o<i+p.n->S o)->∀d,d∈oD gs p x i->bB S d
 | .v t,x,i,hS,d,h=>(cA.ids t x _ (ig t x) d h).kF fun _ h=>h.elim
 | .a t,x,i,hS,d,h=>by
  rw[List.mem_singleton.1 h];exact .own _ _ _ _ (hS i (Nat.le_refl _) (by simp[PT.n]))
 | .p a b,x,i,hS,d,h=>by
  rcases List.mem_append.1 h with h | h
  ·exact Oa gs a _ i (fun o h1 h2=>hS o h1 (by simp only[PT.n];omega)) d h
  ·exact Oa gs b _ (i+a.n) (fun o h1 h2=>hS o (by omega) (by simp only[PT.n];omega)) d h
def mask(dead:Nat->Bool)(ps:Ps):Ps:=fun o=>match dead o with
 | true=>none
 | false=>ps o
structure Ob (dead:Nat->Bool) (H:Hp) (nx:Nat) (H':Hp) (nx':Nat) (c c':Ck):Prop where
 s:c'.sz=c.sz
 l:c'.xs.length=c.xs.length
 r:∀i (h1:i<c'.xs.length) (h2:i<c.xs.length),c'.xs[i].length=c.xs[i].length/\∀j (h3:j<c'.xs[i].length) (h4:j<c.xs[i].length),∀(ps:Ps) (M:Nat->Prop) (w:World) (v:Value),VR H ps M nx w c.xs[i][j] v->VR H' (mask dead ps) M nx' w c'.xs[i][j] v
theorem de.arn{P:Program}{f:FuncId}{fn:Func}{c:Code}{ac:AC}{ow:Nat->Bool}{rs:List RR}{args:List DV}{pre:bT}{nb:Nat}{res:DV}{post:bT}{nx':Nat}(dead:Nat->Bool)(hm:P.follows .mixedOrders=true)
  (hf:P.funcs[f]? =some fn) (hname:(fn.name== "runtime.NumGoroutine")=false) (hb:fn.body=some c) (hc:comp P fn.ntmps ow c=some ac) (hrs:mX P fn.results.toList=some rs) (hlen:args.length<=fn.ntmps)
  (af:∀o ck,ah pre o=some ck->∃ck',ah post o=some ck') (fL:∀o ck',ah post o=some ck'->o<nb->∃ck,ah pre o=some ck) (le:nb<=nx')
  (ids:bB (fun o=>(∃ck,ah post o=some ck)\/(nb<=o/\o<nx')) res) (j9:∀o ck,ah post o=some ck->∀x,x∈ck.xs->∀c,c∈x->bB (fun o=>(∃ck,ah post o=some ck)\/(nb<=o/\o<nx')) c)
  (plt:∀o ck,ah post o=some ck->o<nx') (hdead:∀o ck,ah post o=some ck->dead o=true->ck.xs=[]/\∀c0,ah pre o=some c0->c0.gen<ck.gen)
  (h:∀cx:Cx,cx.nt=fn.ntmps->cx.nb=nb->cx.ro=none->ar P cx ow ac (fun e s'=>(e=.normal\/e=.ret)/\(∃ds,jP s'.T s'.H rs=some ds/\∀ps M w v,VR s'.H ps M s'.nx w (ft ds) v->VR (ah post) (mask dead ps) M nx' w res v)/\∀o ck,ah post o=some ck->dead o=false->∃c0,s'.H o=some c0/\Ob dead s'.H s'.nx (ah post) nx' c0 ck/\(o<nb->ck.gen=c0.gen)) ⟨fA args,ah pre,nb⟩):
  de P f args pre nb res post nx':=by
 refine⟨⟨fn,hf,hname,by rw[hb];rfl⟩,af,fL,le,ids,j9,fun M ps w cargs hr hsz hva hgl=>?_⟩;let cx:Cx:=⟨fn.ntmps,M,Live (ah pre) ps,w,ah pre,ps,nb,none,fun _=>none,[]⟩
 refine Oy (cx:=cx) hf hb rfl ?_;have R:RS cx ⟨fA args,ah pre,nb⟩ ps {tmps:=cargs++Array.replicate (fn.ntmps-cargs.size) undef,defers:=[]} w:=by
  refine⟨fun t=>?_,by simp[cx];omega,hr,Fr.refl _ _,fun o ck p h1 h2=>.inl ⟨o,ck,p,h1,h2,rfl⟩,Marks.nil,Nat.le_refl _,fun o _ ck' hk=>⟨ck',hk,.inr ⟨rfl,rfl,Nat.le_refl _,rfl⟩⟩,fun t v h=>by cases h⟩;by_cases ht:t<args.length
  ·have e1:fA args t=args[t]:=by simp[fA,List.getD,ht]
   have e2:(cargs++Array.replicate (fn.ntmps-cargs.size) undef).getD t undef=cargs.getD t undef:=by
    have:t<cargs.size:=by omega
    simp[Array.getD_eq_getD_getElem?,Array.getElem?_append,this]
   show VR (ah pre) ps M nb w (fA args t) ((cargs++Array.replicate (fn.ntmps-cargs.size) undef).getD t undef);rw[e1,e2];exact hva t ht
  ·have e1:fA args t=.any:=by simp[fA,List.getD,List.getElem?_eq_none (Nat.le_of_not_lt ht)]
   show VR (ah pre) ps M nb w (fA args t) _;rw[e1];exact .any _
 refine wpIn_mono (h cx rfl rfl rfl ⟨hm,hgl⟩ c hc ac.pd ps _ w R) ?_;rintro e a' w1 ⟨s',ps',R1,he,⟨ds,hds,hres⟩,hpost⟩;refine⟨he,s',ps',R1,fun w' R'=>?_⟩;have hbp:∃v,(results fn a'.tmps).run P w'=.ok v w'/\VR (ah post) (mask dead ps') M nx' w' res v:=by
  obtain⟨vs,k1,k2,k3⟩:=BT R'.hr R'.t fn.results.toList rs ds hrs hds;refine⟨if h:vs.toArray.size=1 then vs.toArray[0] else .tuple vs.toArray,?_,?_⟩
  ·have hres:results fn a'.tmps=(do let vs<-fn.results.mapM (yh a'.tmps);Pure.pure (if h:vs.size=1 then vs[0] else .tuple vs)):=by
    unfold results;congr 1
   rw[hres,Array.mapM_eq_mapM_toList];simp only[Sem.run_bind,Sem.run_map];rw[k1];simp
  ·refine hres _ _ _ _ ?_;cases ds with
   | nil=>
    have:vs=[]:=by simpa using k2
    subst this;exact .bh _ _ rfl (fun j hj=>by simp at hj)
   | cons d ds=>
    cases ds with
    | nil=>
     obtain⟨v,rfl⟩:∃v,vs=[v]:=by
      cases vs with
      | nil=>simp at k2
      | cons v vs=>cases vs with
       | nil=>exact⟨v,rfl⟩
       | cons _ _=>simp at k2
     exact k3 0 (by simp) (by simp)
    | cons d2 ds=>
     rw[dif_neg (by simp[k2])];refine .bh _ _ (by simp[k2]) fun j hj=>?_;have hj2:j<vs.length:=by omega
     have:=k3 j hj hj2;simpa[Array.getD,hj2] using this
 have fin:∀v,VR (ah post) (mask dead ps') M nx' w' res v->∃v' ps'',Ending.returned v=.returned v'/\VR (ah post) ps'' M nx' w' res v'/\HR (ah post) ps'' M nx' w'/\Fr (Live (ah pre) ps) w w'/\
   (∀o ck p,ah post o=some ck->ps'' o=some p->Live (ah pre) ps p.b\/w.heap.size<=p.b)/\(∀o,o<nb->∀ck',ah post o=some ck'->∃ck,ah pre o=some ck/\qW ps ps'' o ck ck'):=by
  intro v hv;have mk:∀o,dead o=false->mask dead ps' o=ps' o:=fun o h=>by simp only[mask,h]
  have mk':∀o,dead o=true->mask dead ps' o=none:=fun o h=>by simp only[mask,h]
  have al:∀o p,mask dead ps' o=some p->dead o=false/\ps' o=some p:=fun o p h=>by
   cases hd:dead o with
   | true=>rw[mk' o hd] at h;cases h
   | false=>rw[mk o hd] at h;exact⟨rfl,h⟩
  refine⟨v,mask dead ps',rfl,hv,⟨plt,fun o ck ho=>?_,fun o o' ck ck' p p' h1 h2 h3 h4 h5=>?_,R'.hr.ml,fun o ck p h1 h2=>?_⟩,R'.fr,fun o ck p h1 h2=>?_,fun o ho ck' hk=>?_⟩
  ·cases hd:dead o with
   | true=>exact .inl ⟨mk' o hd,(hdead o ck ho hd).1⟩
   | false=>
    obtain⟨c0,q1,q2,_⟩:=hpost o ck ho hd;obtain⟨qs,ql,qr⟩:=q2;rcases R'.hr.cr o c0 q1 with⟨g1,g2⟩ | ⟨p,c,E,vs,g1,g2,g3,g4,g5,g6,g7⟩
    ·exact .inl ⟨by rw[mk o hd];exact g1,List.eq_nil_of_length_eq_zero (by rw[ql,g2];rfl)⟩
    ·refine .inr ⟨p,c,E,vs,by rw[mk o hd];exact g1,g2,g3,fun i hi=>?_,by rw[ql,qs];exact g5,fun i j hi hj=>by rw[qs] at hj ⊢;exact g6 i j (by rw[<-ql];exact hi) hj,fun i j hi hj=>?_⟩
     ·rw[(qr i hi (by rw[<-ql];exact hi)).1,qs];exact g4 i _
     ·have q3:=qr i hi (by rw[<-ql];exact hi);exact q3.2 j hj (by rw[<-q3.1];exact hj) _ _ _ _ (g7 i j _ _)
  ·obtain⟨d1,e1⟩:=al o p h3;obtain⟨d2,e2⟩:=al o' p' h4;obtain⟨c0,q1,_⟩:=hpost o ck h1 d1;obtain⟨c1,r1,_⟩:=hpost o' ck' h2 d2;exact R'.hr.inj o o' c0 c1 p p' q1 r1 e1 e2 h5
  ·obtain⟨d1,e1⟩:=al o p h2;obtain⟨c0,q1,_⟩:=hpost o ck h1 d1;exact R'.hr.dj o c0 p q1 e1
  ·obtain⟨d1,e1⟩:=al o p h2;obtain⟨c0,q1,_⟩:=hpost o ck h1 d1;exact R'.lb o c0 p q1 e1
  ·cases hd:dead o with
   | true=>
    obtain⟨c0,hc0⟩:=fL o ck' hk ho;exact⟨c0,hc0,.inl ((hdead o ck' hk hd).2 c0 hc0)⟩
   | false=>
    obtain⟨c0,q1,q2,q4⟩:=hpost o ck' hk hd;obtain⟨qs,ql,qr⟩:=q2;have qg:=q4 ho;obtain⟨c1,r1,r2⟩:=R'.gm o ho c0 q1;refine⟨c1,r1,?_⟩;rcases r2 with r2 | ⟨r2,r3,r4,r5⟩
    ·exact .inl (by rw[qg];exact r2)
    ·exact .inr ⟨by rw[qg];exact r2,by rw[qs];exact r3,by rw[ql];exact r4,by rw[mk o hd];exact r5⟩
 obtain⟨v,hrun,hv⟩:=hbp;exact⟨v,hrun,fin v hv⟩
inductive Rg (dead:Nat->Bool) (H H':Hp) (nx':Nat):DV->DV->Prop
 | flat (d:DV) (h:bB (fun _=>False) d):Rg dead H H' nx' d d
 | ptr (o g i f:Nat) (ho:o<nx') (hd:dead o=false) (h:∀ck',H' o=some ck'->∃ck,H o=some ck/\ck.gen=g/\ck.xs.length=ck'.xs.length/\ck.sz=ck'.sz):Rg dead H H' nx' (.ptr o g i f) (.ptr o 0 i f)
 | own (o g lo n:Nat) (ho:o<nx') (hd:dead o=false) (h:∀ck',H' o=some ck'->∃ck,H o=some ck/\ck.gen=g/\ck.xs.length=ck'.xs.length/\ck.sz=ck'.sz):Rg dead H H' nx' (.own o g lo n) (.own o 0 lo n)
 | agg (cs ds:List DV) (hl:cs.length=ds.length) (h:∀j (h1:j<cs.length) (h2:j<ds.length),Rg dead H H' nx' cs[j] ds[j]):Rg dead H H' nx' (.agg cs) (.agg ds)
 | bh (cs ds:List DV) (hl:cs.length=ds.length) (h:∀j (h1:j<cs.length) (h2:j<ds.length),Rg dead H H' nx' cs[j] ds[j]):Rg dead H H' nx' (.bh cs) (.bh ds)
theorem Rg.vr{dead:Nat->Bool}{H H':Hp}{nx nx':Nat}(hsub:∀o ck',H' o=some ck'->dead o=false->∃ck,H o=some ck){d d':DV}(h:Rg dead H H' nx' d d'):∀(ps:Ps) (M:Nat->Prop) (w:World) (x:Value),VR H ps M nx w d x->VR H' (mask dead ps) M nx' w d' x:=by
 induction h with
 | flat d hd=>
  intro ps M w x hv;refine hv.ke hd ⟨fun o h=>h.elim,fun o h=>h.elim,fun b hb=>?_,fun _ _ _=>rfl⟩;rcases hb with hb | ⟨o,ck,p,h1,h2,h3⟩
  ·exact .inl (.inl hb)
  ·have hdd:dead o=false:=by
    cases hd:dead o with
    | false=>rfl
    | true=>simp[mask,hd] at h2
   obtain⟨c0,q1⟩:=hsub o ck h1 hdd;exact .inl (.inr ⟨o,c0,p,q1,by simpa[mask,hdd] using h2,h3⟩)
 | ptr o g i f ho hdd hh=>
  intro ps M w x hv;cases hv with
  | ptr _ _ _ _ _ h0 h1 h2=>
   refine .ptr _ _ _ _ _ ho h1 fun ck' hk=>?_;obtain⟨ck,q1,q2,q3,q4⟩:=hh ck' hk;obtain⟨_,z⟩:=h2 ck q1;refine⟨Nat.zero_le _,fun _=>?_⟩;have:=z q2;unfold Mm at this ⊢;rw[<-q3,<-q4,show mask dead ps o=ps o by simp only[mask,hdd]];exact this
 | own o g lo n ho hdd hh=>
  intro ps M w x hv;cases hv with
  | own _ _ _ _ _ h0 h1 h2=>
   refine .own _ _ _ _ _ ho h1 fun ck' hk=>?_;obtain⟨ck,q1,q2,q3,q4⟩:=hh ck' hk;obtain⟨_,z⟩:=h2 ck q1;refine⟨Nat.zero_le _,fun _=>?_⟩;have:=z q2;unfold MP at this ⊢;rw[<-q3,<-q4,show mask dead ps o=ps o by simp only[mask,hdd]];exact this
 | agg cs ds hl hh ih=>
  intro ps M w x hv;obtain⟨vs,rfl,h1,h2,h3⟩:=hv.fj;exact .agg _ vs (by omega) (fun j hj=>h2 j (by omega)) fun j hj=>ih j (by omega) hj _ _ _ _ (h3 j (by omega))
 | bh cs ds hl hh ih=>
  intro ps M w x hv;obtain⟨vs,rfl,h1,h2⟩:=hv.kG;exact .bh _ vs (by omega) fun j hj=>ih j (by omega) hj _ _ _ _ (h2 j (by omega))
def jN(ρ γ:Nat->Nat):(p:PT)->El p.ty->Nat->List DV
 | .v t,x,_=>aN t x
 | .a t,x,i=>[.own (ρ i) (γ i) 0 (List.length (α:=El t) x)]
 | .p a b,x,i=>jN ρ γ a x.1 i++jN ρ γ b x.2 (i+a.n)
theorem BG:∀(p:PT) (x:El p.ty) (i:Nat),jN id (fun _=>0) p x i=oD (fun _=>0) p x i
 | .v _,_,_=>rfl
 | .a _,_,_=>rfl
 | .p a b,x,i=>by simp only[jN,oD,BG a,BG b]
theorem AO{ρ γ:Nat->Nat}{q:Nat}:∀(p:PT) (x:El p.ty) (i:Nat),i+p.n<=q->aX (Rn ρ γ q) (jN ρ γ p x i) (oD (fun _=>0) p x i)
 | .v t,x,i,h=>⟨rfl,fun j h1 h2=>.flat _ (cA.ids t x _ (ig t x) _ (List.getElem_mem h1))⟩
 | .a t,x,i,h=>by
  have:=Rn.own (r:=ρ) (γ:=γ) (q:=q) i 0 0 (List.length (α:=El t) x) (by simp only[PT.n] at h;omega);rw[Nat.zero_add] at this;exact .one this
 | .p a b,x,i,h=>by
  simp only[PT.n] at h;exact(AO a x.1 i (by omega)).append (AO b x.2 (i+a.n) (by omega))
theorem tR(gs:Nat->Nat):∀(p:PT) (x:El p.ty) (i:Nat),(oD gs p x i).length=p.ty.sz
 | .v t,x,i=>(ig t x).len
 | .a t,x,i=>rfl
 | .p a b,x,i=>by simp only[oD,List.length_append,tR gs a,tR gs b,PT.ty,GT.sz]
theorem I4(ρ γ:Nat->Nat):∀(p:PT) (x:El p.ty) (i:Nat),(jN ρ γ p x i).length=p.ty.sz
 | .v t,x,i=>(ig t x).len
 | .a t,x,i=>rfl
 | .p a b,x,i=>by simp only[jN,List.length_append,I4 ρ γ a,I4 ρ γ b,PT.ty,GT.sz]
inductive RK where
 | v (t:GT)
 | n (t:GT)
 | o (p:PT)
def RK.ty:RK->GT
 | .v t=>t
 | .n t=>t
 | .o p=>p.ty
inductive MT where
 | v (t:GT)
 | x (n:Nat)
 | p (a b:MT)
def MT.ty:MT->GT
 | .v t=>t
 | .x _=>.unit
 | .p a b=>.pair a.ty b.ty
def mI:(q:MT)->El q.ty->List IV
 | .v t,x=>kf t x
 | .x n,_=>List.replicate n .any
 | .p a b,x=>mI a x.1++mI b x.2
def mD:(q:MT)->El q.ty->List DV
 | .v t,x=>aN t x
 | .x n,_=>List.replicate n .any
 | .p a b,x=>mD a x.1++mD b x.2
def Ce:(q:MT)->List IV->Option (El q.ty×List IV)
 | .v t,cs=>lx t cs
 | .x n,cs=>eE (Nat.ble n cs.length) (some ((),cs.drop n)) none
 | .p a b,cs=>match Ce a cs with
  | some (x,r)=>match Ce b r with
   | some (y,r')=>some ((x,y),r')
   | none=>none
  | none=>none
inductive AK where
 | v (t:GT)
 | b (p:PT)
 | x (q:MT)
def AK.ty:AK->GT
 | .v t=>t
 | .b p=>p.ty
 | .x q=>q.ty
def outs:List AK->List PT
 | []=>[]
 | .v _::r=>outs r
 | .b p::r=>p::outs r
 | .x _::r=>outs r
def cM:List PT->List GT
 | []=>[]
 | p::r=>p.ty::cM r
def AK.bf:List AK->List GT
 | []=>[]
 | k::r=>k.ty::AK.bf r
def RK.bf:List RK->List GT
 | []=>[]
 | k::r=>k.ty::RK.bf r
def bc:List PT->Nat
 | []=>0
 | p::r=>1+p.n+bc r
def cg:List PT->Nat
 | []=>0
 | p::r=>p.n+cg r
def hd:(t:GT)->(r:List GT)->aY (t::r)->El t
 | _,[],x=>x
 | _,_::_,x=>x.1
def tl:(t:GT)->(r:List GT)->aY (t::r)->aY r
 | _,[],_=>()
 | _,_::_,x=>x.2
def gj:(t:GT)->(r:List GT)->El t->aY r->aY (t::r)
 | _,[],x,_=>x
 | _,_::_,x,y=>(x,y)
theorem qH:∀(t:GT) (r:List GT) (x:El t) (y:aY r),hd t r (gj t r x y)=x
 | _,[],_,_=>rfl
 | _,_::_,_,_=>rfl
theorem oe:∀(t:GT) (r:List GT) (x:El t) (y:aY r),tl t r (gj t r x y)=y
 | _,[],_,_=>rfl
 | _,_::_,_,_=>rfl
def tL:(ks:List AK)->aY (AK.bf ks)->Nat->List IV
 | [],_,_=>[]
 | .b p::r,x,j=>.ptr j 0 0::tL r (tl p.ty (AK.bf r) x) (j+(1+p.n))
 | .v t::r,x,j=>wi t (hd t (AK.bf r) x)::tL r (tl t (AK.bf r) x) j
 | .x q::r,x,j=>.agg (mI q (hd q.ty (AK.bf r) x))::tL r (tl q.ty (AK.bf r) x) j
def mq(ρ γ:Nat->Nat):(ks:List AK)->aY (AK.bf ks)->Nat->List DV
 | [],_,_=>[]
 | .b p::r,x,j=>(.ptr (ρ j) (γ j) 0 0)::mq ρ γ r (tl p.ty (AK.bf r) x) (j+(1+p.n))
 | .v t::r,x,j=>jq t (hd t (AK.bf r) x)::mq ρ γ r (tl t (AK.bf r) x) j
 | .x q::r,x,j=>.agg (mD q (hd q.ty (AK.bf r) x))::mq ρ γ r (tl q.ty (AK.bf r) x) j
def iR:(ks:List AK)->aY (AK.bf ks)->Nat->IH
 | [],_,_=>[]
 | .b p::r,x,j=>some (.box 0 (oI p (hd p.ty (AK.bf r) x) (j+1)))::(oH p (hd p.ty (AK.bf r) x)++iR r (tl p.ty (AK.bf r) x) (j+(1+p.n)))
 | .v t::r,x,j=>iR r (tl t (AK.bf r) x) j
 | .x q::r,x,j=>iR r (tl q.ty (AK.bf r) x) j
def eL:(ks:List AK)->aY (AK.bf ks)->aY (cM (outs ks))
 | [],_=>()
 | .b p::r,x=>gj p.ty (cM (outs r)) (hd p.ty (AK.bf r) x) (eL r (tl p.ty (AK.bf r) x))
 | .v t::r,x=>eL r (tl t (AK.bf r) x)
 | .x q::r,x=>eL r (tl q.ty (AK.bf r) x)
def iK(ρ γ:Nat->Nat):(p:PT)->El p.ty->Nat->bT
 | .v _,_,_=>[]
 | .a t,x,i=>[(ρ i,⟨γ i,t.sz,List.map (α:=El t) (aN t) x⟩)]
 | .p a b,x,i=>iK ρ γ a x.1 i++iK ρ γ b x.2 (i+a.n)
def eD(ρ γ:Nat->Nat):(ps:List PT)->aY (cM ps)->Nat->bT
 | [],_,_=>[]
 | p::r,x,j=>(ρ j,⟨γ j,p.ty.sz,[jN ρ γ p (hd p.ty (cM r) x) (j+1)]⟩)::(iK ρ γ p (hd p.ty (cM r) x) (j+1)++eD ρ γ r (tl p.ty (cM r) x) (j+(1+p.n)))
abbrev g0:Nat->Nat:=fun _=>0
def sB(ρ γ:Nat->Nat):PT->Nat->bT
 | .v _,_=>[]
 | .a t,i=>[(ρ i,⟨γ i+1,t.sz,[]⟩)]
 | .p a b,i=>sB ρ γ a i++sB ρ γ b (i+a.n)
def eJ(ρ γ:Nat->Nat):(ps:List PT)->aY (cM ps)->Nat->Nat->bT
 | [],_,_,_=>[]
 | p::r,x,j,i=>(ρ j,⟨γ j,p.ty.sz,[oD g0 p (hd p.ty (cM r) x) i]⟩)::(sB ρ γ p (j+1)++eJ ρ γ r (tl p.ty (cM r) x) (j+(1+p.n)) (i+p.n))
def fc(gs:Nat->Nat):(ps:List PT)->aY (cM ps)->Nat->bT
 | [],_,_=>[]
 | p::r,x,i=>oC gs p (hd p.ty (cM r) x) i++fc gs r (tl p.ty (cM r) x) (i+p.n)
def ey:List PT->Nat->Nat->Bool
 | [],_,_=>false
 | p::r,j,o=>(Nat.ble (j+1) o && Nat.ble (o+1) (j+(1+p.n))) || ey r (j+(1+p.n)) o
def wL:(ps:List PT)->IH->Nat->Nat->Option (aY (cM ps))
 | [],_,_,_=>some ()
 | p::r,H,j,i=>match aK H j,wL r H (j+(1+p.n)) (i+p.n) with
  | some (.box 0 cs),some y=>match tC p cs H i with
   | some (x,[])=>some (gj p.ty (cM r) x y)
   | _=>none
  | _,_=>none
def O4(v:IV)(i:Nat):Bool:=match v with
 | .ptr o 0 0=>Nat.beq o i
 | _=>false
theorem Ys{v:IV}{i:Nat}(h:O4 v i=true):v=.ptr i 0 0:=by
 unfold O4 at h;split at h
 ·rw[Nat.eq_of_beq_eq_true h]
 ·cases h
def O1(p:PT)(v:IV)(H:IH)(i:Nat):Option (El p.ty):=match ia p.ty,v with
 | true,.agg cs=>(match tC p cs H i with
  | some (x,[])=>some x
  | _=>none)
 | true,_=>none
 | false,.agg _=>none
 | false,v=>(match tC p [v] H i with
  | some (x,[])=>some x
  | _=>none)
def ob(gs:Nat->Nat)(p:PT)(x:El p.ty)(i:Nat):DV:=match ia p.ty,oD gs p x i with
 | true,ds=>.agg ds
 | false,[d]=>d
 | _,_=>.any
def Ly(p:PT)(x:El p.ty)(i:Nat):IV:=match ia p.ty,oI p x i with
 | true,cs=>.agg cs
 | false,[c]=>c
 | _,_=>.any
theorem uY{p:PT}(h:ia p.ty=false)(x:El p.ty)(gs:Nat->Nat)(i:Nat):(∃c,oI p x i=[c])/\(∃d,oD gs p x i=[d]):=by
 cases p with
 | v t=>exact yg h x
 | a t=>exact⟨⟨_,rfl⟩,⟨_,rfl⟩⟩
 | p a b=>simp[PT.ty,ia] at h
theorem ZO{s:St}{T:List (Nat×IV)}{HI:IH}(hs:SR ⟨T,HI⟩ s){p:PT}{v:IV}{x:El p.ty}{i:Nat}{d:DV}(h:O1 p v HI i=some x)(hr:Rel s.H s.nx v d):
  eQ d (ob (gK s.H) p x i)/\∀(k:Nat) c,(oC (gK s.H) p x i)[k]? =some c->∃ck,s.H (i+k)=some ck/\kH ck c.2:=by
 unfold O1 at h;unfold ob;split at h
 ·rename_i cs ha;obtain⟨ds,rfl,k⟩:=hr.fj;split at h
  ·rename_i y hy;injection h with h;subst h
   obtain⟨d1,d2,rfl,q1,q2,q3⟩:=Az hs p cs y [] i ds hy k;have:=q2.dY;subst this;rw[ha,List.append_nil];exact⟨VR.Gk q1,q3⟩
  ·cases h
 ·cases h
 ·cases h
 ·rename_i ha _;split at h
  ·rename_i y hy;injection h with h;subst h
   obtain⟨d1,d2,e,q1,q2,q3⟩:=Az hs p _ y [] i [d] hy (.one hr);have:=q2.dY;subst this;rw[List.append_nil] at e;subst e;obtain⟨_,⟨e,he⟩⟩:=uY ha y (gK s.H) i;rw[ha];rw[he] at q1 ⊢;obtain⟨_,e1,k⟩:=q1.p7;cases e1;exact⟨k,q3⟩
  ·cases h
def kZ:(rk:List RK)->List IV->IH->Nat->Option (aY (RK.bf rk))
 | [],[],_,_=>some ()
 | .v t::r,v::l,H,i=>match xz t v,kZ r l H i with
  | some x,some y=>some (gj t (RK.bf r) x y)
  | _,_=>none
 | .n t::r,v::l,H,i=>match O4 v i,aK H i,kZ r l H (i+1) with
  | true,some (.box 0 cs),some y=>match dec t cs with
   | some x=>some (gj t (RK.bf r) x y)
   | none=>none
  | _,_,_=>none
 | .o p::r,v::l,H,i=>match O1 p v H i,kZ r l H (i+p.n) with
  | some x,some y=>some (gj p.ty (RK.bf r) x y)
  | _,_=>none
 | [],_::_,_,_=>none
 | _::_,[],_,_=>none
def dA:List RK->Nat
 | []=>0
 | .v _::r=>dA r
 | .n _::r=>dA r+1
 | .o p::r=>dA r+p.n
def j6(gs:Nat->Nat):(rk:List RK)->aY (RK.bf rk)->Nat->List DV
 | [],_,_=>[]
 | .v t::r,x,i=>jq t (hd t (RK.bf r) x)::j6 gs r (tl t (RK.bf r) x) i
 | .n t::r,x,i=>.ptr i 0 0 0::j6 gs r (tl t (RK.bf r) x) (i+1)
 | .o p::r,x,i=>ob gs p (hd p.ty (RK.bf r) x) i::j6 gs r (tl p.ty (RK.bf r) x) (i+p.n)
def zv:(rk:List RK)->aY (RK.bf rk)->Nat->List IV
 | [],_,_=>[]
 | .v t::r,x,i=>wi t (hd t (RK.bf r) x)::zv r (tl t (RK.bf r) x) i
 | .n t::r,x,i=>.ptr i 0 0::zv r (tl t (RK.bf r) x) (i+1)
 | .o p::r,x,i=>Ly p (hd p.ty (RK.bf r) x) i::zv r (tl p.ty (RK.bf r) x) (i+p.n)
def dK(gs:Nat->Nat):(rk:List RK)->aY (RK.bf rk)->Nat->bT
 | [],_,_=>[]
 | .v t::r,x,i=>dK gs r (tl t (RK.bf r) x) i
 | .n t::r,x,i=>(i,⟨0,t.sz,[aN t (hd t (RK.bf r) x)]⟩)::dK gs r (tl t (RK.bf r) x) (i+1)
 | .o p::r,x,i=>oC gs p (hd p.ty (RK.bf r) x) i++dK gs r (tl p.ty (RK.bf r) x) (i+p.n)
def mj:(rk:List RK)->aY (RK.bf rk)->IH
 | [],_=>[]
 | .v t::r,x=>mj r (tl t (RK.bf r) x)
 | .n t::r,x=>some (.box 0 (kf t (hd t (RK.bf r) x)))::mj r (tl t (RK.bf r) x)
 | .o p::r,x=>oH p (hd p.ty (RK.bf r) x)++mj r (tl p.ty (RK.bf r) x)
def fK(ns:List NS)(rs:List RR)(ks:List AK)(rk:List RK)(p q:Nat):Exit->SI->Option (aY (RK.bf rk)×aY (cM (outs ks)))
 | .normal,si=>(match fP p ns si with
  | some si=>(match mM si.T si.H rs,wL (outs ks) si.H 0 p with
   | some vs,some z=>match kZ rk vs si.H q with
    | some y=>some (y,z)
    | none=>none
   | _,_=>none)
  | none=>none)
 | .ret,si=>(match mM si.T si.H rs,wL (outs ks) si.H 0 p with
  | some vs,some z=>match kZ rk vs si.H q with
   | some y=>some (y,z)
   | none=>none
  | _,_=>none)
 | _,_=>none
def uj:List (Option (Nat×Nat))->List IV->List IV
 | [],_=>[]
 | none::r,v::l=>v::uj r l
 | none::r,[]=>[]
 | some (f,n)::r,l=>.fn f (l.take n)::uj r (l.drop n)
def mg:List (Option (Nat×Nat))->List DV->List DV
 | [],_=>[]
 | none::r,v::l=>v::mg r l
 | none::r,[]=>[]
 | some (f,n)::r,l=>.fn f (l.take n)::mg r (l.drop n)
theorem Ny{H:Hp}{nx:Nat}:∀(pk:List (Option (Nat×Nat))) (vs:List IV) (ds:List DV),bR H nx vs ds->bR H nx (uj pk vs) (mg pk ds)
 | [],_,_,_=>.nil
 | none::r,[],ds,h=>by rw[h.dY];exact .nil
 | none::r,v::l,ds,h=>by
  obtain⟨d,ds,rfl,h1,h2⟩:=h.dD;exact(Ny r l ds h2).cons h1
 | some (f,n)::r,vs,ds,h=>(Ny r _ _ (h.drop n)).cons (Rel.ye (h.take n))
theorem VR.ajg{f:FuncId}{ds es:List DV}(h:aX eQ ds es):eQ (.fn f ds) (.fn f es):=fun H ps M nx w x hv=>by
 obtain⟨vs,rfl,h1,h2⟩:=hv.jQ;have e:=h.1;exact .fn _ _ vs (by omega) fun j hj=>h.2 j (by omega) hj _ _ _ _ _ _ (h2 j (by omega))
theorem Ml:∀(pk:List (Option (Nat×Nat))) (ds es:List DV),aX eQ ds es->aX eQ (mg pk ds) (mg pk es)
 | [],_,_,_=>.nil
 | none::r,[],ds,h=>by rw[h.dY];exact .nil
 | none::r,v::l,ds,h=>by
  obtain⟨d,ds,rfl,h1,h2⟩:=h.dD;exact(Ml r l ds h2).cons h1
 | some (f,n)::r,vs,ds,h=>(Ml r _ _ (h.drop n)).cons (VR.ajg (h.take n))
theorem Nh{ρ γ:Nat->Nat}{q:Nat}:∀(pk:List (Option (Nat×Nat))) (ds es:List DV),aX (Rn ρ γ q) ds es->aX (Rn ρ γ q) (mg pk ds) (mg pk es)
 | [],_,_,_=>.nil
 | none::r,[],ds,h=>by rw[h.dY];exact .nil
 | none::r,v::l,ds,h=>by
  obtain⟨d,ds,rfl,h1,h2⟩:=h.dD;exact(Nh r l ds h2).cons h1
 | some (f,n)::r,vs,ds,h=>(Nh r _ _ (h.drop n)).cons (.fn _ _ _ (h.take n).1 (h.take n).2)
theorem Nx:∀(pk:List (Option (Nat×Nat))) (ds:List DV),(mg pk ds).length<=pk.length
 | [],_=>Nat.le_refl _
 | none::r,[]=>Nat.zero_le _
 | none::r,v::l=>Nat.succ_le_succ (Nx r l)
 | some (f,n)::r,ds=>Nat.succ_le_succ (Nx r _)
def dQ(ρ γ:Nat->Nat)(ps:List PT)(z:aY (cM ps))(rk:List RK)(y:aY (RK.bf rk))(i:Nat):bT:=eJ ρ γ ps z 0 i++(fc g0 ps z i++dK g0 rk y (i+cg ps))
def dq(P:Program)(f:FuncId)(pk:List (Option (Nat×Nat)))(ks:List AK)(rk:List RK)(model:aY (AK.bf ks)->Option (aY (RK.bf rk)×aY (cM (outs ks)))):Prop:=∀x y z,model x=some (y,z)->
 de P f (mg pk (mq id g0 ks x 0)) (eD id g0 (outs ks) (eL ks x) 0) (bc (outs ks)) (ft (j6 g0 rk y (bc (outs ks)+cg (outs ks)))) (dQ id g0 (outs ks) z rk y (bc (outs ks))) (bc (outs ks)+cg (outs ks)+dA rk)
theorem Sg{H:Hp}:∀{l:bT} {o:Nat},(∀x,x∈l->x.1≠o)->bK H l o=H o
 | [],o,h=>rfl
 | x::l,o,h=>by
  rw[hP,Sg fun y hy=>h y (List.mem_cons_of_mem _ hy),Hp.aS _ _ _ (Ne.symm (h x (by simp)))]
structure uH (l:bT) (i n:Nat) (c:Nat->Ck):Prop where
 len:l.length=n
 nth:∀k (h:k<l.length),l[k]=(i+k,c k)
theorem uH.get{l:bT}{i n:Nat}{c:Nat->Ck}(h:uH l i n c):∀{H:Hp} {k:Nat},k<n->bK H l (i+k)=some (c k):=by
 have key:∀(l:bT) (i n:Nat) (c:Nat->Ck),uH l i n c->∀(H:Hp) (k:Nat),k<n->bK H l (i+k)=some (c k):=by
  intro l;induction l with
  | nil=>intro i n c h H k hk;have:=h.len;simp at this;omega
  | cons x l ih=>
   intro i n c h H k hk;have h0:=h.nth 0 (by simp);simp only[List.getElem_cons_zero,Nat.add_zero] at h0;have hl:uH l (i+1) (n-1) (fun k=>c (k+1)):=⟨by have:=h.len;simp at this;omega,fun k hk=>by
    have:=h.nth (k+1) (by simp;omega);simp only[List.getElem_cons_succ] at this;rw[this];congr 1;omega⟩
   rw[hP];cases k with
   | zero=>
    rw[Nat.add_zero,Sg,h0,Hp.b9];intro y hy;obtain⟨j,hj,rfl⟩:=List.mem_iff_getElem.1 hy;rw[hl.nth j hj];simp only;omega
   | succ k=>
    have:=ih (i+1) (n-1) _ hl (H.put x.1 (some x.2)) k (by omega);rw[show i+(k+1)=i+1+k by omega];exact this
 exact fun{H k} hk=>key l i n c h H k hk
theorem uH.mem{l:bT}{i n:Nat}{c:Nat->Ck}(h:uH l i n c){o:Nat}{ck:Ck}(ho:ah l o=some ck):∃k,k<n/\o=i+k/\ck=c k:=by
 have:=mS ho;obtain⟨k,hk,e⟩:=List.mem_iff_getElem.1 this;rw[h.nth k hk] at e;injection e with e1 e2
 exact⟨k,by rw[<-h.len];exact hk,e1.symm,e2.symm⟩
theorem vq(gs:Nat->Nat):∀(rk:List RK) (x:aY (RK.bf rk)) (i:Nat),(dK gs rk x i).length=dA rk
 | [],_,_=>rfl
 | .v t::r,x,i=>vq gs r _ i
 | .n t::r,x,i=>by simp[dK,dA,vq gs r]
 | .o p::r,x,i=>by simp only[dK,dA,List.length_append,cL,vq gs r];omega
def eR(l:bT)(k:Nat):Ck:=(l.getD k (0,⟨0,0,[]⟩)).2
theorem NX{l:bT}{i:Nat}(h:∀k (hk:k<l.length),l[k].1=i+k):uH l i l.length (eR l):=⟨rfl,fun k hk=>by
 have:=h k hk;simp only[eR,List.getD_eq_getElem?_getD,List.getElem?_eq_getElem hk,Option.getD_some];rw[<-this]⟩
structure LE (ρ γ:Nat->Nat) (q:Nat) (l' l:bT) (j:Nat):Prop where
 len:l'.length=l.length
 nth:∀k (h:k<l.length) (h':k<l'.length),l[k].1=j+k/\l'[k].1=ρ (j+k)/\mP ρ γ q (γ (j+k)) l'[k].2 l[k].2
theorem LE.nil{ρ γ:Nat->Nat}{q j:Nat}:LE ρ γ q [] [] j:=⟨rfl,fun k h=>by simp at h⟩
theorem LE.cons{ρ γ:Nat->Nat}{q j:Nat}{c' c:Nat×Ck}{l' l:bT}(h1:c.1=j)(h2:c'.1=ρ j)(h3:mP ρ γ q (γ j) c'.2 c.2)(h:LE ρ γ q l' l (j+1)):LE ρ γ q (c'::l') (c::l) j:=
 ⟨by simp[h.len],fun k hk hk'=>by
  cases k with
  | zero=>exact⟨h1,h2,h3⟩
  | succ k=>
   have:=h.nth k (by simpa using hk) (by simpa using hk');simp only[List.getElem_cons_succ];rw[show j+(k+1)=j+1+k by omega];exact this⟩
theorem LE.append{ρ γ:Nat->Nat}{q j i:Nat}{a' a b' b:bT}(h:LE ρ γ q a' a j)(k:LE ρ γ q b' b i)(hi:i=j+a.length):LE ρ γ q (a'++b') (a++b) j:=
 ⟨by simp[h.len,k.len],fun m hm hm'=>by
  rw[List.getElem_append,List.getElem_append];by_cases e:m<a.length
  ·have e':m<a'.length:=by rw[h.len];exact e
   rw[dif_pos e,dif_pos e'];exact h.nth m e e'
  ·have e':¬m<a'.length:=by rw[h.len];exact e
   rw[dif_neg e,dif_neg e'];have:=k.nth (m-a.length) (by simp at hm;omega) (by rw[k.len];simp at hm;omega);have e2:i+(m-a.length)=j+m:=by omega
   rw[e2] at this;simp only[h.len];exact this⟩
theorem mP.flat{ρ γ:Nat->Nat}{q g g' sz:Nat}{xs:List (List DV)}(hg:g'=0+g)(h:∀x,x∈xs->∀d,d∈x->bB (fun _=>False) d):mP ρ γ q g ⟨g',sz,xs⟩ ⟨0,sz,xs⟩:=
 ⟨hg,rfl,rfl,fun i h1 h2=>⟨rfl,fun j h3 h4=>.flat _ (h _ (List.getElem_mem h1) _ (List.getElem_mem h3))⟩⟩
theorem Nk{t:GT}{x:List (El t)}:∀y,y∈List.map (aN t) x->∀d,d∈y->bB (fun _=>False) d:=fun y hy d hd=>by
 obtain⟨e,_,rfl⟩:=List.mem_map.1 hy;exact cA.ids t e _ (ig t e) d hd
theorem Fm{ρ γ:Nat->Nat}{q:Nat}:∀(p:PT) (x:El p.ty) (i:Nat),LE ρ γ q (iK ρ γ p x i) (iK id g0 p x i) i
 | .v _,_,_=>.nil
 | .a t,x,i=>.cons rfl rfl (.flat (by simp) Nk) .nil
 | .p a b,x,i=>by
  have hl:∀(p:PT) (x:El p.ty) (i:Nat),(iK id g0 p x i).length=p.n:=by
   intro p;induction p with
   | v=>intros;rfl
   | a=>intros;rfl
   | p a b iha ihb=>intro x i;simp only[iK,List.length_append,iha,ihb,PT.n]
  exact(Fm a x.1 i).append (Fm b x.2 (i+a.n)) (by rw[hl])
theorem iT(ρ γ:Nat->Nat):∀(p:PT) (x:El p.ty) (i:Nat),(iK ρ γ p x i).length=p.n
 | .v _,_,_=>rfl
 | .a _,_,_=>rfl
 | .p a b,x,i=>by simp only[iK,List.length_append,iT ρ γ a,iT ρ γ b,PT.n]
theorem Fy(ρ γ:Nat->Nat):∀(ps:List PT) (x:aY (cM ps)) (j:Nat),(eD ρ γ ps x j).length=bc ps
 | [],_,_=>rfl
 | p::r,x,j=>by simp only[eD,List.length_cons,List.length_append,iT,Fy ρ γ r,bc];omega
theorem Qw{ρ γ:Nat->Nat}{q g sz:Nat}{ds es:List DV}(h:aX (Rn ρ γ q) ds es):mP ρ γ q g ⟨0+g,sz,[ds]⟩ ⟨0,sz,[es]⟩:=
 ⟨rfl,rfl,rfl,fun i h1 h2=>by
  have:i=0:=by simpa using h1
  subst this;exact⟨h.1.symm,fun j h3 h4=>h.2 j h4 h3⟩⟩
theorem DZ{ρ γ:Nat->Nat}{q:Nat}:∀(ps:List PT) (x:aY (cM ps)) (j:Nat),j+bc ps<=q->LE ρ γ q (eD ρ γ ps x j) (eD id g0 ps x j) j
 | [],_,_,_=>.nil
 | p::r,x,j,h=>by
  simp only[bc] at h;refine .cons rfl rfl ?_ ((Fm p _ (j+1)).append (DZ r _ (j+(1+p.n)) (by omega)) (by rw[iT];omega));have:=Qw (g:=γ j) (sz:=p.ty.sz) (AO (ρ:=ρ) (γ:=γ) (q:=q) p (hd p.ty (cM r) x) (j+1) (by omega));rw[Nat.zero_add] at this;show mP ρ γ q (γ j) ⟨γ j,p.ty.sz,[jN ρ γ p _ (j+1)]⟩ ⟨0,p.ty.sz,[jN id g0 p _ (j+1)]⟩;rw[show jN id g0 p (hd p.ty (cM r) x) (j+1)=oD g0 p (hd p.ty (cM r) x) (j+1) from BG p _ _];exact this
theorem jZ(ρ γ:Nat->Nat):∀(p:PT) (i:Nat),(sB ρ γ p i).length=p.n
 | .v _,_=>rfl
 | .a _,_=>rfl
 | .p a b,i=>by simp only[sB,List.length_append,jZ ρ γ a,jZ ρ γ b,PT.n]
theorem MN{ρ γ:Nat->Nat}{q:Nat}:∀(p:PT) (i:Nat),LE ρ γ q (sB ρ γ p i) (sB id g0 p i) i
 | .v _,_=>.nil
 | .a t,i=>.cons rfl rfl ⟨by show γ i+1=0+1+γ i;omega,rfl,rfl,fun i h=>by simp at h⟩ .nil
 | .p a b,i=>(MN a i).append (MN b (i+a.n)) (by rw[jZ])
theorem jY(ρ γ:Nat->Nat):∀(ps:List PT) (x:aY (cM ps)) (j i:Nat),(eJ ρ γ ps x j i).length=bc ps
 | [],_,_,_=>rfl
 | p::r,x,j,i=>by simp only[eJ,List.length_cons,List.length_append,jZ,jY ρ γ r,bc];omega
theorem XI{ρ γ:Nat->Nat}{q:Nat}:∀(ps:List PT) (x:aY (cM ps)) (j i i':Nat),(∀k,k<cg ps->i+k<q/\ρ (i+k)=i'+k/\γ (i+k)=0)->LE ρ γ q (eJ ρ γ ps x j i') (eJ id g0 ps x j i) j
 | [],_,_,_,_,_=>.nil
 | p::r,x,j,i,i',h=>by
  simp only[cg] at h;refine .cons rfl rfl ?_ ((MN p (j+1)).append (XI r _ (j+(1+p.n)) (i+p.n) (i'+p.n) fun k hk=>?_) (by rw[jZ];omega))
  ·have:=Qw (g:=γ j) (sz:=p.ty.sz) (DP (ρ:=ρ) (γ:=γ) (gs:=g0) (gs':=g0) (q:=q) p (hd p.ty (cM r) x) i i' fun k hk=>⟨(h k (by omega)).1,(h k (by omega)).2.1,(h k (by omega)).2.2,rfl⟩);rw[Nat.zero_add] at this;exact this
  ·have:=h (p.n+k) (by omega);rw[<-Nat.add_assoc,<-Nat.add_assoc] at this;exact this
theorem oQ(gs:Nat->Nat):∀(ps:List PT) (x:aY (cM ps)) (i:Nat),(fc gs ps x i).length=cg ps
 | [],_,_=>rfl
 | p::r,x,i=>by simp only[fc,List.length_append,cL,oQ gs r,cg]
theorem wo{ρ γ:Nat->Nat}{q:Nat}:∀(p:PT) (x:El p.ty) (i i':Nat),(∀k,k<p.n->ρ (i+k)=i'+k/\γ (i+k)=0)->LE ρ γ q (oC g0 p x i') (oC g0 p x i) i
 | .v _,_,_,_,_=>.nil
 | .a t,x,i,i',h=>by
  have h0:=h 0 (by simp[PT.n]);simp only[Nat.add_zero] at h0;exact .cons rfl h0.1.symm (.flat (by simp[h0.2]) Nk) .nil
 | .p a b,x,i,i',h=>by
  simp only[PT.n] at h;refine(wo a x.1 i i' fun k hk=>h k (by omega)).append (wo b x.2 (i+a.n) (i'+a.n) fun k hk=>?_) (by rw[cL]);have:=h (a.n+k) (by omega);rw[<-Nat.add_assoc,<-Nat.add_assoc] at this;exact this
theorem VC{ρ γ:Nat->Nat}{q:Nat}:∀(ps:List PT) (x:aY (cM ps)) (i i':Nat),(∀k,k<cg ps->ρ (i+k)=i'+k/\γ (i+k)=0)->LE ρ γ q (fc g0 ps x i') (fc g0 ps x i) i
 | [],_,_,_,_=>.nil
 | p::r,x,i,i',h=>by
  simp only[cg] at h;refine(wo p _ i i' fun k hk=>h k (by omega)).append (VC r _ (i+p.n) (i'+p.n) fun k hk=>?_) (by rw[cL]);have:=h (p.n+k) (by omega);rw[<-Nat.add_assoc,<-Nat.add_assoc] at this;exact this
theorem Hf{ρ γ:Nat->Nat}{q:Nat}:∀(rk:List RK) (y:aY (RK.bf rk)) (i i':Nat),(∀k,k<dA rk->ρ (i+k)=i'+k/\γ (i+k)=0)->LE ρ γ q (dK g0 rk y i') (dK g0 rk y i) i
 | [],_,_,_,_=>.nil
 | .v t::r,y,i,i',h=>Hf r _ i i' h
 | .n t::r,y,i,i',h=>by
  simp only[dA] at h;have h0:=h 0 (by omega);simp only[Nat.add_zero] at h0;refine .cons rfl h0.1.symm (.flat (by simp[h0.2]) fun x hx d hd=>?_) (Hf r _ (i+1) (i'+1) fun k hk=>?_)
  ·rw[List.mem_singleton.1 hx] at hd;exact cA.ids t _ _ (ig t _) d hd
  ·have:=h (1+k) (by omega);rw[<-Nat.add_assoc,<-Nat.add_assoc] at this;exact this
 | .o p::r,y,i,i',h=>by
  simp only[dA] at h;refine(wo p _ i i' fun k hk=>h k (by omega)).append (Hf r _ (i+p.n) (i'+p.n) fun k hk=>?_) (by rw[cL]);have:=h (p.n+k) (by omega);rw[<-Nat.add_assoc,<-Nat.add_assoc] at this;exact this
theorem LY{ρ γ:Nat->Nat}{q:Nat}(ps:List PT)(z:aY (cM ps))(rk:List RK)(y:aY (RK.bf rk))(i':Nat)(hq:bc ps+cg ps+dA rk<=q)(h:∀k,k<cg ps+dA rk->ρ (bc ps+k)=i'+k/\γ (bc ps+k)=0):LE ρ γ q (dQ ρ γ ps z rk y i') (dQ id g0 ps z rk y (bc ps)) 0:=by
 unfold dQ;refine(XI ps z 0 (bc ps) i' fun k hk=>⟨by omega,h k (by omega)⟩).append ((VC ps z (bc ps) i' fun k hk=>h k (by omega)).append (Hf rk y _ _ fun k hk=>?_) (by rw[oQ])) (by rw[jY,Nat.zero_add]);have:=h (cg ps+k) (by omega);rw[<-Nat.add_assoc,<-Nat.add_assoc] at this;exact this
theorem Vl(ρ γ:Nat->Nat)(ps:List PT)(z:aY (cM ps))(rk:List RK)(y:aY (RK.bf rk))(i:Nat):(dQ ρ γ ps z rk y i).length=bc ps+cg ps+dA rk:=by
 simp only[dQ,List.length_append,jY,oQ,vq];omega
theorem z4:∀(ps:List PT) (j o:Nat),ey ps j o=true->j<o/\o<j+bc ps
 | [],_,_,h=>by cases h
 | p::r,j,o,h=>by
  simp only[ey,Bool.or_eq_true,Bool.and_eq_true] at h;simp only[bc];rcases h with⟨h1,h2⟩ | h
  ·have:=Nat.le_of_ble_eq_true h1;have:=Nat.le_of_ble_eq_true h2;omega
  ·have:=z4 r _ o h;omega
theorem F4{ps:List PT}{j o:Nat}(h:o<=j\/j+bc ps<=o):ey ps j o=false:=by
 cases hd:ey ps j o with
 | false=>rfl
 | true=>have:=z4 ps j o hd;omega
theorem O9{ρ γ:Nat->Nat}:∀(p:PT) (i:Nat) (c:Nat×Ck),c∈sB ρ γ p i->c.2.xs=[]/\∃k,c.2.gen=γ k+1
 | .v _,_,c,h=>by cases h
 | .a t,i,c,h=>by rw[List.mem_singleton.1 h];exact⟨rfl,i,rfl⟩
 | .p a b,i,c,h=>by
  rcases List.mem_append.1 h with h | h
  ·exact O9 a _ c h
  ·exact O9 b _ c h
theorem VV:∀(ps:List PT) (z:aY (cM ps)) (j i k:Nat) (h:k<(eJ id g0 ps z j i).length),ey ps j (j+k)=true->(eJ id g0 ps z j i)[k].2.xs=[]/\(eJ id g0 ps z j i)[k].2.gen=1
 | [],_,_,_,k,h,_=>by simp[eJ] at h
 | p::r,z,j,i,k,h,hd=>by
  simp only[ey,Bool.or_eq_true,Bool.and_eq_true] at hd;cases k with
  | zero=>
   exfalso;rcases hd with⟨h1,_⟩ | h1
   ·have:=Nat.le_of_ble_eq_true h1;omega
   ·have:=z4 r _ _ h1;omega
  | succ k=>
   simp only[eJ,List.getElem_cons_succ];rw[List.getElem_append];split
   ·rename_i hk;obtain⟨a1,m,a2⟩:=O9 p (j+1) _ (List.getElem_mem hk);exact⟨a1,by rw[a2]⟩
   ·rename_i hk;rw[jZ] at hk;have:=VV r (tl p.ty (cM r) z) (j+(1+p.n)) (i+p.n) (k-p.n) (by simp only[eJ,List.length_cons,List.length_append,jZ] at h;omega) (by
     rcases hd with⟨_,h1⟩ | h1
     ·have:=Nat.le_of_ble_eq_true h1;omega
     ·rw[show j+(1+p.n)+(k-p.n)=j+(k+1) by omega];exact h1)
    simp only[jZ];exact this
theorem kH.box{t:GT}{e:El t}{cs:List IV}{H:Hp}{nx g:Nat}{ck:Ck}(h:dh H nx (.box g cs) ck)(hd:dec t cs=some e):kH ck ⟨g,t.sz,[aN t e]⟩:=by
 obtain⟨h1,ds,h2,h3,h4⟩:=h;have hr:=tn hd h3;refine⟨h4.symm,by rw[h1,h3.1,cA.len t e ds hr],by rw[h2];rfl,fun i h5 h6=>?_⟩;have:i=0:=by simpa using h5
 subst this;have hw:=kC t e ds hr;simp only[h2,List.getElem_cons_zero];exact⟨hw.1.symm,fun j h7 h8=>hw.2 j h8 h7⟩
section ends
variable {s:St} {T:List (Nat×IV)} {HI:IH}
variable {dead:Nat->Bool} {H':Hp} {nx':Nat}
theorem RT(hs:SR ⟨T,HI⟩ s):∀(ps:List PT) (z:aY (cM ps)) (j i:Nat),wL ps HI j i=some z->
  (∀(k:Nat) (c:Nat×Ck),(eJ id g0 ps z j i)[k]? =some c->ey ps j (j+k)=false->∃(ck:Ck) (ds:List DV) (p:PT) (x:El p.ty) (m:Nat),s.H (j+k)=some ck/\ck.gen=0/\ck.sz=p.ty.sz/\ck.xs=[ds]/\c.2=⟨0,p.ty.sz,[oD g0 p x (i+m)]⟩/\aX eQ ds (oD (gK s.H) p x (i+m))/\
   (∀(k:Nat) c,(oC (gK s.H) p x (i+m))[k]? =some c->(fc (gK s.H) ps z i)[m+k]? =some c)/\∀(k:Nat) c,(oC g0 p x (i+m))[k]? =some c->(fc g0 ps z i)[m+k]? =some c)/\
  ∀(k:Nat) c,(fc (gK s.H) ps z i)[k]? =some c->∃ck,s.H (i+k)=some ck/\kH ck c.2
 | [],z,j,i,h=>⟨fun k c hk=>by simp[eJ] at hk,fun k c hk=>by simp[fc] at hk⟩
 | p::r,z,j,i,h=>by
  simp only[wL] at h;split at h
  ·rename_i cs y hc hy;split at h
   ·rename_i x hx;injection h with h;subst h
    obtain⟨ih1,ih2⟩:=RT hs r y (j+(1+p.n)) (i+p.n) hy;obtain⟨_,ck,h1,h2,ds,h3,h4,h5⟩:=hs.h.at hc;obtain⟨d1,d2,rfl,q1,q2,q3⟩:=Az hs p cs x [] i ds hx h4;have:=q2.dY;subst this;rw[List.append_nil] at h3 h4;have eh:hd p.ty (cM r) (gj p.ty (cM r) x y)=x:=qH p.ty _ x y;have et:tl p.ty (cM r) (gj p.ty (cM r) x y)=y:=oe p.ty _ x y;refine⟨fun k c hk hd=>?_,fun k c hk=>?_⟩
    ·simp only[eJ,eh,et] at hk;cases k with
     | zero=>
      simp only[List.getElem?_cons_zero,Option.some.injEq] at hk;subst hk;refine⟨ck,d1,p,x,0,h1,h5,by rw[h2,h4.1,q1.1,tR],h3,rfl,q1,fun k c hk=>?_,fun k c hk=>?_⟩
      ·have hk':(oC (gK s.H) p x i)[k]? =some c:=hk;simp only[fc,eh,Nat.zero_add];rw[List.getElem?_append_left (List.getElem?_eq_some_iff.1 hk').1];exact hk'
      ·have hk':(oC g0 p x i)[k]? =some c:=hk;simp only[fc,eh,Nat.zero_add];rw[List.getElem?_append_left (List.getElem?_eq_some_iff.1 hk').1];exact hk'
     | succ k=>
      simp only[List.getElem?_cons_succ] at hk;rw[List.getElem?_append] at hk;simp only[ey,Bool.or_eq_false_iff] at hd;split at hk
      ·rename_i hlt;rw[jZ] at hlt;exfalso;have h6:Nat.ble (j+1) (j+(k+1))=true:=Nat.ble_eq_true_of_le (by omega);have h7:Nat.ble (j+(k+1)+1) (j+(1+p.n))=true:=Nat.ble_eq_true_of_le (by omega);rw[h6,h7] at hd;cases hd.1
      ·rename_i hge;rw[jZ] at hge hk;have e:j+(1+p.n)+(k-p.n)=j+(k+1):=by omega
       obtain⟨ck',ds',p',x',m,b1,b2,b3,b4,b5,b6,b7,b8⟩:=ih1 _ c hk (by rw[e];exact hd.2);rw[e] at b1;have em:i+p.n+m=i+(p.n+m):=by omega
       rw[em] at b5 b6 b7 b8;refine⟨ck',ds',p',x',p.n+m,b1,b2,b3,b4,b5,b6,fun k c hk=>?_,fun k c hk=>?_⟩
       ·simp only[fc,et];rw[List.getElem?_append_right (by rw[cL];omega),cL,show p.n+m+k-p.n=m+k by omega];exact b7 k c hk
       ·simp only[fc,et];rw[List.getElem?_append_right (by rw[cL];omega),cL,show p.n+m+k-p.n=m+k by omega];exact b8 k c hk
    ·simp only[fc,eh,et] at hk;rw[List.getElem?_append] at hk;split at hk
     ·exact q3 k c hk
     ·rename_i hge;rw[cL] at hge hk;obtain⟨ck',u1,u2⟩:=ih2 _ c hk;exact⟨ck',by rw[show i+k=i+p.n+(k-p.n) by omega];exact u1,u2⟩
   ·cases h
  ·cases h
theorem Ie(hs:SR ⟨T,HI⟩ s):∀(rk:List RK) (vs:List IV) (y:aY (RK.bf rk)) (i:Nat) (ds:List DV),kZ rk vs HI i=some y->bR s.H s.nx vs ds->
  aX eQ ds (j6 (gK s.H) rk y i)/\∀(k:Nat) c,(dK (gK s.H) rk y i)[k]? =some c->∃ck,s.H (i+k)=some ck/\kH ck c.2
 | [],vs,y,i,ds,h,hr=>by
  cases vs with
  | nil=>rw[hr.dY];exact⟨.nil,fun k c hk=>by simp[dK] at hk⟩
  | cons v l=>simp[kZ] at h
 | .v t::r,vs,y,i,ds,h,hr=>by
  cases vs with
  | nil=>simp[kZ] at h
  | cons v l=>
   obtain⟨d,ds,rfl,h1,h2⟩:=hr.dD;simp only[kZ] at h;split at h
   ·rename_i a b ha hb;injection h with h;subst h
    obtain⟨q1,q2⟩:=Ie hs r l b i ds hb h2;simp only[j6,dK];rw[show hd t (RK.bf r) (gj t (RK.bf r) a b)=a from qH t _ a b,show tl t (RK.bf r) (gj t (RK.bf r) a b)=b from oe t _ a b];exact⟨q1.cons (I6 ha h1),q2⟩
   ·cases h
 | .n t::r,vs,y,i,ds,h,hr=>by
  cases vs with
  | nil=>simp[kZ] at h
  | cons v l=>
   obtain⟨d,ds,rfl,h1,h2⟩:=hr.dD;simp only[kZ] at h;split at h
   ·rename_i cs b hbq hc hb;split at h
    ·rename_i a ha;injection h with h;subst h
     have:=Ys hbq;subst this;obtain⟨q1,q2⟩:=Ie hs r l b (i+1) ds hb h2;obtain⟨_,ck,k1,k2⟩:=hs.h.at hc;obtain⟨g,rfl,_,hg⟩:=h1.pF;obtain⟨rfl,_⟩:=hg ck k1;simp only[j6,dK];rw[show hd t (RK.bf r) (gj t (RK.bf r) a b)=a from qH t _ a b,show tl t (RK.bf r) (gj t (RK.bf r) a b)=b from oe t _ a b];have hg0:ck.gen=0:=by obtain⟨_,_,_,_,e⟩:=k2;exact e
     refine⟨q1.cons (by rw[hg0];exact .refl _),fun k c hk=>?_⟩;cases k with
     | zero=>simp only[List.getElem?_cons_zero,Option.some.injEq] at hk;subst hk;exact⟨ck,k1,kH.box k2 ha⟩
     | succ k=>
      obtain⟨c',a1,a2⟩:=q2 k c (by simpa using hk);exact⟨c',by rw[show i+(k+1)=i+1+k by omega];exact a1,a2⟩
    ·cases h
   ·cases h
 | .o p::r,vs,y,i,ds,h,hr=>by
  cases vs with
  | nil=>simp[kZ] at h
  | cons v l=>
   obtain⟨d,ds,rfl,h1,h2⟩:=hr.dD;simp only[kZ] at h;split at h
   ·rename_i a b ha hb;injection h with h;subst h
    obtain⟨q1,q2⟩:=Ie hs r l b (i+p.n) ds hb h2;obtain⟨k1,k2⟩:=ZO hs ha h1;simp only[j6,dK];rw[show hd p.ty (RK.bf r) (gj p.ty (RK.bf r) a b)=a from qH p.ty _ a b,show tl p.ty (RK.bf r) (gj p.ty (RK.bf r) a b)=b from oe p.ty _ a b];refine⟨q1.cons k1,fun k c hk=>?_⟩;rw[List.getElem?_append] at hk;split at hk
    ·exact k2 k c hk
    ·rename_i hge;rw[cL] at hge hk;obtain⟨ck,u1,u2⟩:=q2 _ c hk;exact⟨ck,by rw[show i+k=i+p.n+(k-p.n) by omega];exact u1,u2⟩
   ·cases h
end ends
def Fl(c:Ck):Prop:=∃(t:GT) (l:List (El t)),c.sz=t.sz/\c.xs=l.map (aN t)
theorem Fl.box{c:Ck}(h:∃(t:GT) (e:El t),c.sz=t.sz/\c.xs=[aN t e]):Fl c:=by
 obtain⟨t,e,h1,h2⟩:=h;exact⟨t,[e],h1,h2⟩
theorem DM(gs:Nat->Nat):∀(rk:List RK) (x:aY (RK.bf rk)) (i:Nat) (c:Nat×Ck),c∈dK gs rk x i->Fl c.2
 | [],_,_,c,h=>by cases h
 | .v t::r,x,i,c,h=>DM gs r _ i c h
 | .n t::r,x,i,c,h=>by
  rcases List.mem_cons.1 h with rfl | h
  ·exact⟨t,[_],rfl,rfl⟩
  ·exact DM gs r _ _ c h
 | .o p::r,x,i,c,h=>by
  rcases List.mem_append.1 h with h | h
  ·obtain⟨t,l,e⟩:=wg gs p _ i c h;exact⟨t,l,by rw[e],by rw[e]⟩
  ·exact DM gs r _ _ c h
theorem W6{c:Ck}(h:Fl c):∀x,x∈c.xs->∀d,d∈x->bB (fun _=>False) d:=by
 obtain⟨t,l,_,h⟩:=h;intro x hx d hd;rw[h] at hx;obtain⟨e,_,rfl⟩:=List.mem_map.1 hx;exact cA.ids t e _ (ig t e) d hd
theorem Le{H:Hp}{nx:Nat}:∀(q:MT) (x:El q.ty),bR H nx (mI q x) (mD q x)
 | .v t,x=>sH t x _ (ig t x)
 | .x n,_=>⟨by simp[mI,mD],fun k h1 h2=>by simp only[mI,mD,List.getElem_replicate];exact .any _⟩
 | .p a b,x=>(Le a x.1).append (Le b x.2)
theorem LK:∀(q:MT) (x:El q.ty),∀d,d∈mD q x->bB (fun _=>False) d
 | .v t,x,d,h=>cA.ids t x _ (ig t x) d h
 | .x n,_,d,h=>by rw[List.eq_of_mem_replicate h];exact .any
 | .p a b,x,d,h=>by
  rcases List.mem_append.1 h with h | h
  ·exact LK a x.1 d h
  ·exact LK b x.2 d h
theorem L1{H:Hp}{nx:Nat}:∀(q:MT) (cs:List IV) (x:El q.ty) (r:List IV) (ds:List DV),Ce q cs=some (x,r)->bR H nx cs ds->∃d1 d2,ds=d1++d2/\aX eQ d1 (mD q x)/\bR H nx r d2
 | .v t,cs,x,r,ds,h,hr=>by
  obtain⟨d1,d2,e,h1,h2⟩:=vb t cs x r ds h hr;exact⟨d1,d2,e,kC t x d1 h1,h2⟩
 | .x n,cs,x,r,ds,h,hr=>by
  obtain⟨hn,h⟩:=gN h;have hn:=Nat.le_of_ble_eq_true hn;simp only[Option.some.injEq,Prod.mk.injEq] at h;obtain⟨_,rfl⟩:=h;have hl:=hr.1;refine⟨ds.take n,ds.drop n,(List.take_append_drop n ds).symm,⟨by simp only[mD,List.length_take,List.length_replicate];omega,fun k h1 h2=>?_⟩,by rw[List.length_drop,List.length_drop,hl],fun k h1 h2=>?_⟩
  ·simp only[mD,List.getElem_replicate];exact fun _ _ _ _ _ _ _=>.any _
  ·rw[List.getElem_drop,List.getElem_drop];exact hr.2 _ _ _
 | .p a b,cs,x,r,ds,h,hr=>by
  simp only[Ce] at h;split at h
  ·rename_i y r1 h1;split at h
   ·rename_i w r2 h2;cases h;obtain⟨d1,d2,rfl,k1,k2⟩:=L1 a cs y _ ds h1 hr;obtain⟨d3,d4,rfl,k3,k4⟩:=L1 b _ w _ d2 h2 k2;exact⟨d1++d3,d4,by simp,k1.append k3,k4⟩
   ·cases h
  ·cases h
theorem EX{H:Hp}{nx:Nat}:∀(ks:List AK) (x:aY (AK.bf ks)) (j:Nat),(∀o,j<=o->o<j+bc (outs ks)->o<nx/\∀ck,H o=some ck->ck.gen=0/\(ey (outs ks) j o=false->0<ck.xs.length))->bR H nx (tL ks x j) (mq id g0 ks x j)
 | [],_,_,_=>.nil
 | .b p::r,x,j,h=>by
  have h0:=h j (Nat.le_refl _) (by simp only[outs,bc];omega);refine(EX r _ (j+(1+p.n)) fun o h1 h2=>?_).cons (.ptr _ _ _ _ h0.1 fun ck hk=>⟨(h0.2 ck hk).1,(h0.2 ck hk).2 (F4 (.inl (Nat.le_refl _)))⟩);have:=h o (by omega) (by simp only[outs,bc];omega);refine⟨this.1,fun ck hk=>⟨(this.2 ck hk).1,fun hd=>(this.2 ck hk).2 ?_⟩⟩;simp only[outs,ey,hd,Bool.or_false];cases hb:Nat.ble (o+1) (j+(1+p.n)) with
  | false=>simp
  | true=>have:=Nat.le_of_ble_eq_true hb;omega
 | .v t::r,x,j,h=>(EX r _ j h).cons (HD t _)
 | .x q::r,x,j,h=>(EX r _ j h).cons (Rel.lO (Le q _))
theorem vW:∀(p:PT) (x:El p.ty) (i:Nat),iK id g0 p x i=oC g0 p x i
 | .v _,_,_=>rfl
 | .a _,_,_=>rfl
 | .p a b,x,i=>by simp only[iK,oC,vW a,vW b]
theorem Af:∀(ks:List AK) (x:aY (AK.bf ks)) (j:Nat),(iR ks x j).length=bc (outs ks)
 | [],_,_=>rfl
 | .b p::r,x,j=>by simp only[iR,outs,bc,List.length_cons,List.length_append,pJ,Af r];omega
 | .v t::r,x,j=>Af r _ j
 | .x _::r,x,j=>Af r _ j
theorem F6{H:Hp}{nx:Nat}:∀(ks:List AK) (x:aY (AK.bf ks)) (j:Nat),(∀(k:Nat) c,(eD id g0 (outs ks) (eL ks x) j)[k]? =some c->j+k<nx/\H (j+k)=some c.2)->∀(o:Nat) (c:cS),aK (iR ks x j) o=some c->∃cp,(eD id g0 (outs ks) (eL ks x) j)[o]? =some (j+o,cp)/\dh H nx c cp
 | [],_,_,_,o,c,h=>by simp[iR,aK] at h
 | .b p::r,x,j,hH,o,c,h=>by
  simp only[outs,eL,eD,qH,oe] at hH ⊢;cases o with
  | zero=>
   simp only[iR,aK,Option.some.injEq] at h;subst h;refine⟨_,rfl,?_⟩;rw[show jN id g0 p (hd p.ty (AK.bf r) x) (j+1)=oD g0 p (hd p.ty (AK.bf r) x) (j+1) from BG p _ _];have hr:bR H nx (oI p (hd p.ty (AK.bf r) x) (j+1)) (oD g0 p (hd p.ty (AK.bf r) x) (j+1)):=xx p _ (j+1) fun k c hk=>by
    have:=hH (1+k) c (by
     rw[Nat.add_comm 1 k,List.getElem?_cons_succ,vW,List.getElem?_append_left (List.getElem?_eq_some_iff.1 hk).1];exact hk)
    rw[<-Nat.add_assoc] at this;exact this
   exact dh.iR (by rw[hr.1,tR]) hr
  | succ o=>
   simp only[iR,aK] at h;rw[ot,pJ] at h;simp only[List.getElem?_cons_succ];split at h
   ·rename_i hlt;obtain⟨cp,h1,h2⟩:=xR (nx:=nx) (gs:=g0) p _ (j+1) o c h;refine⟨cp,?_,h2⟩;rw[vW,List.getElem?_append_left (by rw[cL];exact hlt),h1];congr 2;omega
   ·rename_i hge;obtain⟨cp,h1,h2⟩:=F6 (H:=H) (nx:=nx) r (tl p.ty (AK.bf r) x) (j+(1+p.n)) (fun k c hk=>by
     have:=hH (1+p.n+k) c (by
      rw[show 1+p.n+k=(p.n+k)+1 by omega,List.getElem?_cons_succ,List.getElem?_append_right (by rw[iT];omega),iT,show p.n+k-p.n=k by omega];exact hk)
     rw[<-Nat.add_assoc] at this;exact this) (o-p.n) c h
    refine⟨cp,?_,h2⟩;rw[List.getElem?_append_right (by rw[iT];omega),iT,h1];congr 2;omega
 | .v t::r,x,j,hH,o,c,h=>F6 r _ j hH o c h
 | .x _::r,x,j,hH,o,c,h=>F6 r _ j hH o c h
theorem aup{S:Nat->Prop}(gs:Nat->Nat)(p:PT)(x:El p.ty)(i:Nat)(h:∀o,i<=o->o<i+p.n->S o):bB S (ob gs p x i):=by
 have q:=Oa gs p x i h;unfold ob;cases ha:ia p.ty with
 | true=>exact .agg _ fun d hd=>q d hd
 | false=>
  obtain⟨_,⟨d,he⟩⟩:=uY ha x gs i;rw[he] at q ⊢;exact q d (by simp)
theorem Gj{S:Nat->Prop}(gs:Nat->Nat):∀(rk:List RK) (y:aY (RK.bf rk)) (i:Nat),(∀o,i<=o->o<i+dA rk->S o)->∀d,d∈j6 gs rk y i->bB S d
 | [],_,_,_,d,h=>by cases h
 | .v t::r,y,i,hS,d,h=>by
  rcases List.mem_cons.1 h with rfl | h
  ·exact(xY t _).kF fun _ h=>h.elim
  ·exact Gj gs r _ i hS d h
 | .n t::r,y,i,hS,d,h=>by
  rcases List.mem_cons.1 h with rfl | h
  ·exact .ptr _ _ _ _ (hS i (Nat.le_refl _) (by simp[dA]))
  ·exact Gj gs r _ (i+1) (fun o h1 h2=>hS o (by omega) (by simp only[dA];omega)) d h
 | .o p::r,y,i,hS,d,h=>by
  rcases List.mem_cons.1 h with rfl | h
  ·exact aup gs p _ i fun o h1 h2=>hS o h1 (by simp only[dA];omega)
  ·exact Gj gs r _ (i+p.n) (fun o h1 h2=>hS o (by omega) (by simp only[dA];omega)) d h
theorem ac5{ds es:List DV}(h:aX eQ ds es):eQ (ft ds) (ft es):=by
 cases ds with
 | nil=>rw[h.dY];exact .refl _
 | cons d ds=>
  obtain⟨e1,es',rfl,q1,q2⟩:=h.dD;cases ds with
  | nil=>rw[q2.dY];exact q1
  | cons d2 ds=>
   obtain⟨e2,es2,rfl,q3,q4⟩:=q2.dD;exact VR.U8 h
theorem Ha{dead:Nat->Bool}{H H':Hp}{nx':Nat}:∀(p:PT) (x:El p.ty) (i:Nat),(∀(k:Nat) c,(oC (gK H) p x i)[k]? =some c->i+k<nx'/\dead (i+k)=false/\∃ck,H (i+k)=some ck/\kH ck c.2)->(∀(k:Nat) c,(oC g0 p x i)[k]? =some c->H' (i+k)=some c.2)->aX (Rg dead H H' nx') (oD (gK H) p x i) (oD g0 p x i)
 | .v t,x,i,h,h'=>⟨rfl,fun j h1 h2=>.flat _ (cA.ids t x _ (ig t x) _ (List.getElem_mem h1))⟩
 | .a t,x,i,h,h'=>by
  obtain⟨a1,a4,ck,a2,a3⟩:=h 0 _ rfl;have b1:=h' 0 _ rfl;rw[Nat.add_zero] at a1 a2 a4 b1;refine .one (.own _ _ _ _ a1 a4 fun ck' hk=>?_);rw[b1] at hk;injection hk with hk;subst hk
  exact⟨ck,a2,a3.g.symm,a3.l.symm,a3.s.symm⟩
 | .p a b,x,i,h,h'=>by
  simp only[oD];refine(Ha a x.1 i (fun k c hk=>h k c ?_) (fun k c hk=>h' k c ?_)).append (Ha b x.2 (i+a.n) (fun k c hk=>?_) (fun k c hk=>?_))
  ·simp only[oC];rw[List.getElem?_append_left];exact hk;exact(List.getElem?_eq_some_iff.1 hk).1
  ·simp only[oC];rw[List.getElem?_append_left];exact hk;exact(List.getElem?_eq_some_iff.1 hk).1
  ·have:=h (a.n+k) c (by
    simp only[oC];rw[List.getElem?_append_right (by rw[cL];omega),cL,show a.n+k-a.n=k by omega];exact hk)
   rw[Nat.add_assoc];exact this
  ·have:=h' (a.n+k) c (by
    simp only[oC];rw[List.getElem?_append_right (by rw[cL];omega),cL,show a.n+k-a.n=k by omega];exact hk)
   rw[Nat.add_assoc];exact this
theorem Ex{dead:Nat->Bool}{H H':Hp}{nx':Nat}:∀(rk:List RK) (y:aY (RK.bf rk)) (i:Nat),(∀(k:Nat) c,(dK (gK H) rk y i)[k]? =some c->i+k<nx'/\dead (i+k)=false/\∃ck,H (i+k)=some ck/\kH ck c.2)->(∀(k:Nat) c,(dK g0 rk y i)[k]? =some c->H' (i+k)=some c.2)->aX (Rg dead H H' nx') (j6 (gK H) rk y i) (j6 g0 rk y i)
 | [],_,_,_,_=>.nil
 | .v t::r,y,i,h,h'=>(Ex r _ i h h').cons (.flat _ (xY t _))
 | .n t::r,y,i,h,h'=>by
  obtain⟨a1,a4,ck,a2,a3⟩:=h 0 _ rfl;have b1:=h' 0 _ rfl;rw[Nat.add_zero] at a1 a2 a4 b1;refine(Ex r _ (i+1) (fun k c hk=>?_) (fun k c hk=>?_)).cons (.ptr _ _ _ _ a1 a4 fun ck' hk=>?_)
  ·have:=h (k+1) c (by simp only[dK,List.getElem?_cons_succ];exact hk);rw[show i+1+k=i+(k+1) by omega];exact this
  ·have:=h' (k+1) c (by simp only[dK,List.getElem?_cons_succ];exact hk);rw[show i+1+k=i+(k+1) by omega];exact this
  ·rw[b1] at hk;injection hk with hk;subst hk
   exact⟨ck,a2,a3.g.symm,a3.l.symm,a3.s.symm⟩
 | .o p::r,y,i,h,h'=>by
  have q:=Ha (dead:=dead) (H:=H) (H':=H') (nx':=nx') p (hd p.ty (RK.bf r) y) i (fun k c hk=>h k c (by
    simp only[dK];rw[List.getElem?_append_left];exact hk;exact(List.getElem?_eq_some_iff.1 hk).1)) (fun k c hk=>h' k c (by
    simp only[dK];rw[List.getElem?_append_left];exact hk;exact(List.getElem?_eq_some_iff.1 hk).1))
  refine(Ex r _ (i+p.n) (fun k c hk=>?_) (fun k c hk=>?_)).cons ?_
  ·have:=h (p.n+k) c (by
    simp only[dK];rw[List.getElem?_append_right (by rw[cL];omega),cL,show p.n+k-p.n=k by omega];exact hk)
   rw[Nat.add_assoc];exact this
  ·have:=h' (p.n+k) c (by
    simp only[dK];rw[List.getElem?_append_right (by rw[cL];omega),cL,show p.n+k-p.n=k by omega];exact hk)
   rw[Nat.add_assoc];exact this
  ·unfold ob;cases ha:ia p.ty with
   | true=>exact .agg _ _ q.1 q.2
   | false=>
    obtain⟨_,⟨d,he⟩⟩:=uY ha (hd p.ty (RK.bf r) y) (gK H) i;obtain⟨_,⟨d',he'⟩⟩:=uY ha (hd p.ty (RK.bf r) y) g0 i;rw[he,he'] at q;rw[he,he'];exact q.2 0 (by simp) (by simp)
theorem au9{dead:Nat->Bool}{H H':Hp}{nx':Nat}{ds es:List DV}(h:aX (Rg dead H H' nx') ds es):Rg dead H H' nx' (ft ds) (ft es):=by
 cases ds with
 | nil=>rw[h.dY];exact .bh _ _ rfl (fun j h=>by cases h)
 | cons d ds=>
  obtain⟨e1,es',rfl,q1,q2⟩:=h.dD;cases ds with
  | nil=>rw[q2.dY];exact q1
  | cons d2 ds=>
   obtain⟨e2,es2,rfl,q3,q4⟩:=q2.dD;exact .bh _ _ h.1 h.2
def z0(c:Nat×Ck):Nat×Ck:=(c.1,⟨0,c.2.sz,c.2.xs⟩)
theorem Hb(gs:Nat->Nat):∀(p:PT) (x:El p.ty) (i:Nat),oC g0 p x i=(oC gs p x i).map z0
 | .v _,_,_=>rfl
 | .a _,_,_=>rfl
 | .p a b,x,i=>by simp only[oC,List.map_append,Hb gs a,Hb gs b]
theorem FI(gs:Nat->Nat):∀(rk:List RK) (y:aY (RK.bf rk)) (i:Nat),dK g0 rk y i=(dK gs rk y i).map z0
 | [],_,_=>rfl
 | .v t::r,y,i=>FI gs r _ i
 | .n t::r,y,i=>by simp only[dK,List.map_cons,FI gs r];rfl
 | .o p::r,y,i=>by simp only[dK,List.map_append,FI gs r,Hb gs p]
theorem Qr(gs:Nat->Nat):∀(ps:List PT) (z:aY (cM ps)) (i:Nat),fc g0 ps z i=(fc gs ps z i).map z0
 | [],_,_=>rfl
 | p::r,z,i=>by simp only[fc,List.map_append,Qr gs r,Hb gs p]
theorem N4{c:Nat×Ck}:∀(p:PT) (x:El p.ty) (i:Nat),c∈iK id g0 p x i->c.2.gen=0
 | .v _,_,_,h=>by cases h
 | .a t,x,i,h=>by rw[List.mem_singleton.1 h]
 | .p a b,x,i,h=>by
  rcases List.mem_append.1 h with h | h
  ·exact N4 a _ _ h
  ·exact N4 b _ _ h
theorem Nl{c:Nat×Ck}:∀(ps:List PT) (x:aY (cM ps)) (j:Nat),c∈eD id g0 ps x j->c.2.gen=0
 | [],_,_,h=>by cases h
 | p::r,x,j,h=>by
  rcases List.mem_cons.1 h with rfl | h
  ·rfl
  ·rcases List.mem_append.1 h with h | h
   ·exact N4 p _ _ h
   ·exact Nl r _ _ h
theorem Vx:∀(ps:List PT) (x:aY (cM ps)) (j k:Nat) (h:k<(eD id g0 ps x j).length),ey ps j (j+k)=false->0<(eD id g0 ps x j)[k].2.xs.length
 | [],_,_,k,h,_=>by simp[eD] at h
 | p::r,x,j,k,h,hd=>by
  cases k with
  | zero=>simp[eD]
  | succ k=>
   simp only[ey,Bool.or_eq_false_iff] at hd;simp only[eD,List.getElem_cons_succ];rw[List.getElem_append];split
   ·rename_i hk;rw[iT] at hk;exfalso;have h6:Nat.ble (j+1) (j+(k+1))=true:=Nat.ble_eq_true_of_le (by omega);have h7:Nat.ble (j+(k+1)+1) (j+(1+p.n))=true:=Nat.ble_eq_true_of_le (by omega);rw[h6,h7] at hd;cases hd.1
   ·rename_i hk;rw[iT] at hk;have:=Vx r (tl p.ty (cM r) x) (j+(1+p.n)) (k-p.n) (by simp only[eD,List.length_cons,List.length_append,iT] at h;omega) (by rw[show j+(1+p.n)+(k-p.n)=j+(k+1) by omega];exact hd.2);simp only[iT];exact this
theorem kH.Rv{dead:Nat->Bool}{H H':Hp}{nx nx':Nat}(hsub:∀o ck',H' o=some ck'->dead o=false->∃ck,H o=some ck){c0 ck:Ck}(h:kH c0 ⟨c0.gen,ck.sz,ck.xs⟩)(hf:∀x,x∈ck.xs->∀d,d∈x->bB (fun _=>False) d):Ob dead H nx H' nx' c0 ck:=
 ⟨h.s,h.l,fun i h1 h2=>⟨(h.r i h1 h2).1,fun j h3 h4 ps M w v hv=>(Rg.flat _ (hf _ (List.getElem_mem h1) _ (List.getElem_mem h3))).vr hsub ps M w v ((h.r i h1 h2).2 j h3 h4 _ _ _ _ _ _ hv)⟩⟩
theorem ar.ard{P:Program}{cx:Cx}{ow:Nat->Bool}{Q Q':Exit->St->Prop}{s:St}{ac:AC}(h:ar P cx ow ac Q s)(hq:∀e s,cx.nb<=s.nx->Q e s->∃s',Wk cx s s'/\Q' e s'):ar P cx ow ac Q' s:=fun hm c hc hz ps a w R=>
 wpIn_mono (h hm c hc hz ps a w R) fun e a w ⟨s',ps',R',q⟩=>by
  obtain⟨s2,w2,q2⟩:=hq e s' R'.iP q;obtain⟨ps2,R2⟩:=w2 ps' a w R';exact⟨s2,ps2,R2,q2⟩
theorem aue{pk:List (Option (Nat×Nat))}{ks:List AK}(x:aY (AK.bf ks)):SR ⟨jF (uj pk (tL ks x 0)) 0,iR ks x 0⟩ ⟨fA (mg pk (mq id g0 ks x 0)),ah (eD id g0 (outs ks) (eL ks x) 0),bc (outs ks)⟩:=by
 have lpre:(eD id g0 (outs ks) (eL ks x) 0).length=bc (outs ks):=Fy ..;have lepre:LE id g0 (bc (outs ks)) (eD id g0 (outs ks) (eL ks x) 0) (eD id g0 (outs ks) (eL ks x) 0) 0:=DZ (outs ks) (eL ks x) 0 (by omega);have npre:=NX (l:=eD id g0 (outs ks) (eL ks x) 0) (i:=0) fun k hk=>(lepre.nth k hk hk).1;have bget:∀o (ho:o<bc (outs ks)),ah (eD id g0 (outs ks) (eL ks x) 0) o=some ((eD id g0 (outs ks) (eL ks x) 0)[o]'(by rw[lpre];exact ho)).2:=fun o ho=>by
  have hk:o<(eD id g0 (outs ks) (eL ks x) 0).length:=by rw[lpre];exact ho
  have:=npre.get (H:=Hp.emp) (k:=o) hk;rw[Nat.zero_add] at this;rw[show ah _ _=_ from this];simp only[eR,List.getD_eq_getElem?_getD,List.getElem?_eq_getElem hk,Option.getD_some]
 refine LQ (Ny pk _ _ (EX ks x 0 fun o _ h2=>⟨by omega,fun ck hk=>?_⟩)) (fun o c hc=>?_) (by rw[Af])
 ·have ho:o<bc (outs ks):=by omega
  rw[bget o ho] at hk;injection hk with hk
  have hl:o<(eD id g0 (outs ks) (eL ks x) 0).length:=by rw[lpre];exact ho
  refine⟨by rw[<-hk];exact Nl (outs ks) (eL ks x) 0 (List.getElem_mem hl),fun hd=>?_⟩;have:=Vx (outs ks) (eL ks x) 0 o hl (by rw[Nat.zero_add];exact hd);rw[<-hk];exact this
 ·have hlt:=sV _ _ _ hc;rw[Af] at hlt;obtain⟨cp,q1,q2⟩:=F6 (H:=ah (eD id g0 (outs ks) (eL ks x) 0)) (nx:=bc (outs ks)) ks x 0 (fun k c hk=>by
   obtain⟨hk1,hk2⟩:=List.getElem?_eq_some_iff.1 hk;rw[lpre] at hk1;refine⟨by omega,?_⟩;rw[Nat.zero_add,bget k hk1,hk2]) o c hc
  refine⟨hlt,cp,?_,q2⟩;rw[bget o hlt];have:=(List.getElem?_eq_some_iff.1 q1).2;rw[this]
theorem aes{P:Program}{f nt:Nat}{ow:Nat->Bool}{ac:AC}{rs:List RR}{p q:Nat}{ns:List NS}{pk:List (Option (Nat×Nat))}{ks:List AK}{rk:List RK}{model:aY (AK.bf ks)->Option (aY (RK.bf rk)×aY (cM (outs ks)))}(hm:P.follows .mixedOrders=true)(hf:ib P f nt ow ac rs)(hlen:Nat.ble pk.length nt=true)
  (hp:bc (outs ks)=p) (hq:bc (outs ks)+cg (outs ks)=q) (hA:∀x y z,model x=some (y,z)->∀(cx:Cx),cx.nt=nt->cx.nb=p->cx.ro=none->∀s,SR ⟨jF (uj pk (tL ks x 0)) 0,iR ks x 0⟩ s->ar P cx ow ac (DE (fK ns rs ks rk p q) (y,z)) s):dq P f pk ks rk model:=by
 intro x y z hy;subst hq;subst hp;obtain⟨fn,h1,h2,h3,rfl,h5,h6⟩:=hf.ex;have lpre:(eD id g0 (outs ks) (eL ks x) 0).length=bc (outs ks):=Fy ..;have lpost:(dQ id g0 (outs ks) z rk y (bc (outs ks))).length=bc (outs ks)+cg (outs ks)+dA rk:=Vl ..;have lepre:LE id g0 (bc (outs ks)) (eD id g0 (outs ks) (eL ks x) 0) (eD id g0 (outs ks) (eL ks x) 0) 0:=DZ (outs ks) (eL ks x) 0 (by omega);have lepost:LE id g0 (bc (outs ks)+cg (outs ks)+dA rk) (dQ id g0 (outs ks) z rk y (bc (outs ks))) (dQ id g0 (outs ks) z rk y (bc (outs ks))) 0:=LY (outs ks) z rk y (bc (outs ks)) (Nat.le_refl _) fun k hk=>⟨rfl,rfl⟩
 have npre:=NX (l:=eD id g0 (outs ks) (eL ks x) 0) (i:=0) fun k hk=>(lepre.nth k hk hk).1;have npost:=NX (l:=dQ id g0 (outs ks) z rk y (bc (outs ks))) (i:=0) fun k hk=>(lepost.nth k hk hk).1;have pget:∀o,o<bc (outs ks)+cg (outs ks)+dA rk->∃ck,ah (dQ id g0 (outs ks) z rk y (bc (outs ks))) o=some ck:=fun o ho=>⟨_,by have:=npost.get (H:=Hp.emp) (k:=o) (by rw[lpost];exact ho);rw[Nat.zero_add] at this;exact this⟩;have pat:∀k (hk:k<(dQ id g0 (outs ks) z rk y (bc (outs ks))).length),ah (dQ id g0 (outs ks) z rk y (bc (outs ks))) k=some (dQ id g0 (outs ks) z rk y (bc (outs ks)))[k].2:=fun k hk=>by
  have:=npost.get (H:=Hp.emp) (k:=k) hk;rw[Nat.zero_add] at this;rw[show ah _ _=_ from this];simp only[eR,List.getD_eq_getElem?_getD,List.getElem?_eq_getElem hk,Option.getD_some]
 have pinv:∀o ck,ah (dQ id g0 (outs ks) z rk y (bc (outs ks))) o=some ck->∃(hk:o<(dQ id g0 (outs ks) z rk y (bc (outs ks))).length),ck=(dQ id g0 (outs ks) z rk y (bc (outs ks)))[o].2:=fun o ck ho=>by
  obtain⟨k,hk,e,_⟩:=npost.mem ho;have:o=k:=by omega
  subst this;refine⟨hk,?_⟩;rw[pat o hk] at ho;injection ho with ho;exact ho.symm
 have bget:∀o (ho:o<bc (outs ks)),ah (eD id g0 (outs ks) (eL ks x) 0) o=some ((eD id g0 (outs ks) (eL ks x) 0)[o]'(by rw[lpre];exact ho)).2:=fun o ho=>by
  have hk:o<(eD id g0 (outs ks) (eL ks x) 0).length:=by rw[lpre];exact ho
  have:=npre.get (H:=Hp.emp) (k:=o) hk;rw[Nat.zero_add] at this;rw[show ah _ _=_ from this];simp only[eR,List.getD_eq_getElem?_getD,List.getElem?_eq_getElem hk,Option.getD_some]
 refine de.arn (ey (outs ks) 0) hm h1 h2 h3 h5 h6 (Nat.le_trans (Nx _ _) (Nat.le_of_ble_eq_true hlen)) (fun o ck h=>?_) (fun o ck h hlt=>?_) (by omega) ?_ (fun o ck h x hx c hc=>?_) (fun o ck h=>?_) (fun o ck h hd=>?_) fun cx hcx hnb hro=>?_
 ·obtain⟨k,hk,rfl,_⟩:=npre.mem h;exact pget _ (by rw[lpre] at hk;omega)
 ·exact⟨_,bget o hlt⟩
 ·exact px (Gj g0 rk y _ fun o h1 h2=>.inl (pget o h2))
 ·obtain⟨hk,rfl⟩:=pinv o ck h;have e:=(lepost.nth o hk hk).2.2;obtain⟨i,hi,rfl⟩:=List.mem_iff_getElem.1 hx;obtain⟨j,hj,rfl⟩:=List.mem_iff_getElem.1 hc;exact((e.r i hi hi).2 j hj hj).ids fun o ho=>.inl (pget o ho)
 ·obtain⟨hk,_⟩:=pinv o ck h;rw[lpost] at hk;exact hk
 ·obtain⟨hk,rfl⟩:=pinv o ck h;have hlt:=(z4 (outs ks) 0 o hd).2;have hb:o<(eJ id g0 (outs ks) z 0 (bc (outs ks))).length:=by rw[jY];omega
  have e:(dQ id g0 (outs ks) z rk y (bc (outs ks)))[o]=(eJ id g0 (outs ks) z 0 (bc (outs ks)))[o]:=by simp only[dQ];rw[List.getElem_append_left hb]
  have:=VV (outs ks) z 0 (bc (outs ks)) o hb (by rw[Nat.zero_add];exact hd);rw[e];refine⟨this.1,fun c0 hc0=>?_⟩;rw[this.2,bget o (by omega)] at*;have:=Nl (outs ks) (eL ks x) 0 (List.getElem_mem (by rw[lpre];omega:o<(eD id g0 (outs ks) (eL ks x) 0).length));injection hc0 with hc0;rw[<-hc0,this];omega
 ·have hs:=aue (pk:=pk) x;refine(hA x y z hy cx hcx hnb hro _ hs).ard ?_;rintro e s' hnx ⟨si',k1,k2⟩;have fin:∀(s':St) (si':SI),SR si' s'->(match mM si'.T si'.H rs,wL (outs ks) si'.H 0 (bc (outs ks)) with
    | some vs,some z=>match kZ rk vs si'.H (bc (outs ks)+cg (outs ks)) with
     | some y=>some (y,z)
     | none=>none
    | _,_=>none)=some (y,z)->(∃ds,jP s'.T s'.H rs=some ds/\∀ps M w v,VR s'.H ps M s'.nx w (ft ds) v->VR (ah (dQ id g0 (outs ks) z rk y (bc (outs ks)))) (mask (ey (outs ks) 0) ps) M (bc (outs ks)+cg (outs ks)+dA rk) w (ft (j6 g0 rk y (bc (outs ks)+cg (outs ks)))) v)/\
    ∀o ck,ah (dQ id g0 (outs ks) z rk y (bc (outs ks))) o=some ck->ey (outs ks) 0 o=false->∃c0,s'.H o=some c0/\Ob (ey (outs ks) 0) s'.H s'.nx (ah (dQ id g0 (outs ks) z rk y (bc (outs ks)))) (bc (outs ks)+cg (outs ks)+dA rk) c0 ck/\(o<bc (outs ks)->ck.gen=c0.gen):=by
   intro s' si' k1 k2;split at k2
   ·rename_i vs z' hv hz;split at k2
    ·rename_i y' hyy;injection k2 with k2;injection k2 with e1 e2;subst e1;subst e2
     obtain⟨ds,q1,q2⟩:=Ia k1 rs vs hv;obtain⟨q3,q4⟩:=Ie k1 rk vs y' (bc (outs ks)+cg (outs ks)) ds hyy q2;obtain⟨b1,b2⟩:=RT k1 (outs ks) z' 0 (bc (outs ks)) hz;have pA:∀k c,(eJ id g0 (outs ks) z' 0 (bc (outs ks)))[k]? =some c->(dQ id g0 (outs ks) z' rk y' (bc (outs ks)))[k]? =some c:=fun k c hk=>by
      simp only[dQ];rw[List.getElem?_append_left (List.getElem?_eq_some_iff.1 hk).1];exact hk
     have pB:∀k c,(fc g0 (outs ks) z' (bc (outs ks)))[k]? =some c->(dQ id g0 (outs ks) z' rk y' (bc (outs ks)))[bc (outs ks)+k]? =some c:=fun k c hk=>by
      simp only[dQ];rw[List.getElem?_append_right (by rw[jY];omega),jY,Nat.add_sub_cancel_left,List.getElem?_append_left (List.getElem?_eq_some_iff.1 hk).1];exact hk
     have pC:∀k c,(dK g0 rk y' (bc (outs ks)+cg (outs ks)))[k]? =some c->(dQ id g0 (outs ks) z' rk y' (bc (outs ks)))[bc (outs ks)+cg (outs ks)+k]? =some c:=fun k c hk=>by
      simp only[dQ];rw[List.getElem?_append_right (by rw[jY];omega),jY,List.getElem?_append_right (by rw[oQ];omega),oQ,show bc (outs ks)+cg (outs ks)+k-bc (outs ks)-cg (outs ks)=k by omega];exact hk
     have pof:∀k (c:Nat×Ck),(dQ id g0 (outs ks) z' rk y' (bc (outs ks)))[k]? =some c->ah (dQ id g0 (outs ks) z' rk y' (bc (outs ks))) k=some c.2:=fun k c hk=>by
      obtain⟨hk1,hk2⟩:=List.getElem?_eq_some_iff.1 hk;rw[pat k hk1,hk2]
     have arG:∀k c,(fc g0 (outs ks) z' (bc (outs ks)))[k]? =some c->∃c0,s'.H (bc (outs ks)+k)=some c0/\kH c0 ⟨c0.gen,c.2.sz,c.2.xs⟩:=fun k c hk=>by
      rw[Qr (gK s'.H),List.getElem?_map] at hk;simp only[Option.map_eq_some_iff] at hk;obtain⟨c1,hk1,rfl⟩:=hk;obtain⟨c0,u1,u2⟩:=b2 k c1 hk1;exact⟨c0,u1,⟨rfl,u2.s,u2.l,u2.r⟩⟩
     have nwG:∀k c,(dK g0 rk y' (bc (outs ks)+cg (outs ks)))[k]? =some c->∃c0,s'.H (bc (outs ks)+cg (outs ks)+k)=some c0/\kH c0 ⟨c0.gen,c.2.sz,c.2.xs⟩:=fun k c hk=>by
      rw[FI (gK s'.H),List.getElem?_map] at hk;simp only[Option.map_eq_some_iff] at hk;obtain⟨c1,hk1,rfl⟩:=hk;obtain⟨c0,u1,u2⟩:=q4 k c1 hk1;exact⟨c0,u1,⟨rfl,u2.s,u2.l,u2.r⟩⟩
     have parts:∀o ck,ah (dQ id g0 (outs ks) z' rk y' (bc (outs ks))) o=some ck->(o<bc (outs ks)/\∃c,(eJ id g0 (outs ks) z' 0 (bc (outs ks)))[o]? =some c/\c.2=ck)\/(∃k c,o=bc (outs ks)+k/\(fc g0 (outs ks) z' (bc (outs ks)))[k]? =some c/\c.2=ck)\/∃k c,o=bc (outs ks)+cg (outs ks)+k/\(dK g0 rk y' (bc (outs ks)+cg (outs ks)))[k]? =some c/\c.2=ck:=fun o ck ho=>by
      obtain⟨hk,rfl⟩:=pinv o ck ho;rw[lpost] at hk;by_cases ha:o<bc (outs ks)
      ·have hl:o<(eJ id g0 (outs ks) z' 0 (bc (outs ks))).length:=by rw[jY];exact ha
       refine .inl ⟨ha,_,List.getElem?_eq_getElem hl,?_⟩;have:=pof o _ (pA o _ (List.getElem?_eq_getElem hl));rw[ho] at this;injection this with this;exact this.symm
      by_cases hb:o<bc (outs ks)+cg (outs ks)
      ·have hl:o-bc (outs ks)<(fc g0 (outs ks) z' (bc (outs ks))).length:=by rw[oQ];omega
       refine .inr (.inl ⟨o-bc (outs ks),_,by omega,List.getElem?_eq_getElem hl,?_⟩);have:=pof _ _ (pB _ _ (List.getElem?_eq_getElem hl));rw[show bc (outs ks)+(o-bc (outs ks))=o by omega,ho] at this;injection this with this;exact this.symm
      ·have hl:o-(bc (outs ks)+cg (outs ks))<(dK g0 rk y' (bc (outs ks)+cg (outs ks))).length:=by rw[vq];omega
       refine .inr (.inr ⟨o-(bc (outs ks)+cg (outs ks)),_,by omega,List.getElem?_eq_getElem hl,?_⟩);have:=pof _ _ (pC _ _ (List.getElem?_eq_getElem hl));rw[show bc (outs ks)+cg (outs ks)+(o-(bc (outs ks)+cg (outs ks)))=o by omega,ho] at this;injection this with this;exact this.symm
     have ex:∀o ck,ah (dQ id g0 (outs ks) z' rk y' (bc (outs ks))) o=some ck->ey (outs ks) 0 o=false->∃c0,s'.H o=some c0:=fun o ck ho hd=>by
      rcases parts o ck ho with⟨_,c,hc,_⟩ | ⟨k,c,rfl,hc,_⟩ | ⟨k,c,rfl,hc,_⟩
      ·obtain⟨c0,_,_,_,_,u,_⟩:=b1 o c hc (by rw[Nat.zero_add];exact hd);rw[Nat.zero_add] at u;exact⟨c0,u⟩
      ·obtain⟨c0,u,_⟩:=arG k c hc;exact⟨c0,u⟩
      ·obtain⟨c0,u,_⟩:=nwG k c hc;exact⟨c0,u⟩
     refine⟨⟨ds,q1,fun ps M w v hv=>?_⟩,fun o ck ho hd=>?_⟩
     ·refine(au9 (Ex (dead:=ey (outs ks) 0) (H:=s'.H) (H':=ah (dQ id g0 (outs ks) z' rk y' (bc (outs ks)))) (nx':=bc (outs ks)+cg (outs ks)+dA rk) rk y' _ (fun k c hk=>?_) (fun k c hk=>?_))).vr ex ps M w v (ac5 q3 _ _ _ _ _ _ hv)
      ·have:=(List.getElem?_eq_some_iff.1 hk).1;rw[vq] at this;exact⟨by omega,F4 (.inr (by omega)),q4 k c hk⟩
      ·exact pof _ _ (pC k c hk)
     ·rcases parts o ck ho with⟨hlt,c,hc,rfl⟩ | ⟨k,c,rfl,hc,rfl⟩ | ⟨k,c,rfl,hc,rfl⟩
      ·obtain⟨c0,es,p,x,m,u1,u2,u3,u4,u5,u6,u7,u8⟩:=b1 o c hc (by rw[Nat.zero_add];exact hd);rw[Nat.zero_add] at u1;have hlm:∀(k:Nat) c,(oC (gK s'.H) p x (bc (outs ks)+m))[k]? =some c->bc (outs ks)+m+k<bc (outs ks)+cg (outs ks):=fun k c hk=>by
        have:=(List.getElem?_eq_some_iff.1 (u7 k c hk)).1;rw[oQ] at this;omega
       refine⟨c0,u1,⟨by rw[u5,u3],by rw[u5,u4];rfl,fun i h1 h2=>?_⟩,fun _=>by rw[u5,u2]⟩;have hi:i=0:=by rw[u4] at h2;simpa using h2
       subst hi;have rgs:=Ha (dead:=ey (outs ks) 0) (H:=s'.H) (H':=ah (dQ id g0 (outs ks) z' rk y' (bc (outs ks)))) (nx':=bc (outs ks)+cg (outs ks)+dA rk) p x (bc (outs ks)+m) (fun k c hk=>by
        have hl:=hlm k c hk;obtain⟨ck,w1,w2⟩:=b2 _ c (u7 k c hk);exact⟨by omega,F4 (.inr (by omega)),ck,by rw[Nat.add_assoc];exact w1,w2⟩) (fun k c hk=>by
        rw[Nat.add_assoc];exact pof _ _ (pB _ _ (u8 k c hk)))
       have e1:c0.xs[0]=es:=by simp only[u4,List.getElem_cons_zero]
       have e2:c.2.xs[0]=oD g0 p x (bc (outs ks)+m):=by simp only[u5,List.getElem_cons_zero]
       refine⟨by rw[e1,e2,u6.1,tR,tR],fun j h3 h4 ps M w v hv=>?_⟩;simp only[e1] at hv;simp only[e2];have hj1:j<es.length:=by rw[<-e1];exact h4
       have hj2:j<(oD (gK s'.H) p x (bc (outs ks)+m)).length:=by rw[<-u6.1];exact hj1
       exact(rgs.2 j hj2 (by rw[<-rgs.1];exact hj2)).vr ex ps M w v (u6.2 j hj1 hj2 _ _ _ _ _ _ hv)
      ·obtain⟨c0,u1,u2⟩:=arG k c hc;refine⟨c0,u1,u2.Rv ex ?_,fun h=>absurd h (by omega)⟩;have key:∀(ps:List PT) (z:aY (cM ps)) (i:Nat) (c:Nat×Ck),c∈fc g0 ps z i->Fl c.2:=by
        intro ps;induction ps with
        | nil=>intro z i c h;cases h
        | cons p r ih=>
         intro z i c h;rcases List.mem_append.1 h with h | h
         ·obtain⟨t,l,e⟩:=wg g0 p _ i c h;exact⟨t,l,by rw[e],by rw[e]⟩
         ·exact ih _ _ c h
       exact W6 (key _ _ _ _ (List.mem_of_getElem? hc))
      ·obtain⟨c0,u1,u2⟩:=nwG k c hc;exact⟨c0,u1,u2.Rv ex (W6 (DM g0 rk y' _ c (List.mem_of_getElem? hc))),fun h=>absurd h (by omega)⟩
    ·cases k2
   ·cases k2
  cases e with
  | normal=>
   simp only[fK] at k2;split at k2
   ·rename_i si2 hg;rw[<-hnb] at hg;obtain⟨s2,w2,r2,_⟩:=uW ns k1 hnx hg;obtain⟨a,b⟩:=fin s2 si2 r2 k2;exact⟨s2,w2,.inl rfl,a,b⟩
   ·cases k2
  | ret=>obtain⟨a,b⟩:=fin s' si' k1 k2;exact⟨s',Wk.refl _ _,.inr rfl,a,b⟩
  | _=>simp[fK] at k2
theorem VW{P:Program}{f nt:Nat}{ow:Nat->Bool}{tc:TC}{rs:List RR}{env:List (Nat×eC)}{N p q:Nat}{ns:List NS}{pk:List (Option (Nat×Nat))}{ks:List AK}{rk:List RK}{model:aY (AK.bf ks)->Option (aY (RK.bf rk)×aY (cM (outs ks)))}(hm:P.follows .mixedOrders=true)(hf:ib P f nt ow tc.er rs)(hE:iS P env)(hh:tc.eu P nt ow false)(hlen:Nat.ble pk.length nt=true)
  (hp:bc (outs ks)=p) (hq:bc (outs ks)+cg (outs ks)=q) (hrun:∀x,run env N p tc ⟨jF (uj pk (tL ks x 0)) 0,iR ks x 0⟩ (fK ns rs ks rk p q)=model x):dq P f pk ks rk model:=
 aes hm hf hlen hp hq fun x y z hy cx hcx hnb hro s hs=>nu hE N tc cx (by rw[hcx,hro];exact hh) _ _ _ hs (by rw[hnb,<-hy];exact hrun x)
end Go.Pv
