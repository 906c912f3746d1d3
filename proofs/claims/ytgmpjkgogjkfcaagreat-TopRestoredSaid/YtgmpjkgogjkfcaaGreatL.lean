/- Values of conditions, cuts of zones. No condition of its own. -/
import Derived.Test.YtgmpjkgogjkfcaaGreatK
import Derived.Test.YtgmpjkgogjkfcaaGreatG
set_option linter.all false
namespace Go.Proofs.YtgmpjkgogjkfcaaGreat
open Go.Pv M
noncomputable section
def Cd(d:aB):Prop:=0<=d.2/\d.2<=d.1.length/\d.1.length<=300/\∀a,a∈d.1->0<=a/\a<=255
theorem MI{x y:Int}(h:x≠y):(x==y)=false:=by simpa using h
theorem No{d:List Int}(h:∀a,a∈d->0<=a/\a<=255)(k:Nat):0<=d.getD k 0/\d.getD k 0<=255:=by
 rw[List.getD_eq_getElem?_getD];cases e:d[k]? with
 | none=>simp
 | some x=>exact h x (List.mem_of_getElem? e)
theorem s5{N:Nat}(hN:0<N){d:aB}(hd:Cd d){n:Int}(h2:n<=4611686018427387904):∃v d',cE N d n=some (v,d')/\0<=v/\(v<n\/v=0)/\Cd d':=by
 obtain⟨a1,a2,a3,a4⟩:=hd;obtain⟨M,rfl⟩:∃M,N=M+1:=⟨N-1,by omega⟩;unfold cE;by_cases h1:n<1
 ·simp only[h1,decide_true,cond_true];exact⟨0,d,rfl,by omega,.inr rfl,a1,a2,a3,a4⟩
 simp only[h1,decide_false,cond_false];by_cases h:d.2>=(d.1.length:Int)
 ·simp only[h,decide_true,cond_true];exact⟨0,d,rfl,by omega,.inr rfl,a1,a2,a3,a4⟩
 ·simp only[h,decide_false,cond_false];rw[abb];have h0:(n==0)=false:=by simp;omega
  rw[au (n:=d.2+1) (by omega) (by omega),au (by omega) (by omega),fN (by omega),cond_true];have g1:=No a4 (d.2+1-1).toNat;have g2:=No a4 (d.2+1).toNat;simp only[h0,cond_false];by_cases hn:n>256
  ·simp only[hn,decide_true,cond_true];by_cases hl:d.2+1<(d.1.length:Int)
   ·simp only[hl,decide_true,cond_true];rw[fN (by omega),cond_true];generalize d.1.getD (d.2+1-1).toNat 0=x at g1 ⊢;generalize d.1.getD (d.2+1).toNat 0=y at g2 ⊢;rw[au (n:=x) (by omega) (by omega),au (n:=y) (by omega) (by omega),au (n:=x*256) (by omega) (by omega),au (by omega) (by omega),au (by omega) (by omega)];refine⟨_,_,rfl,Int.tmod_nonneg _ (by omega),.inl (Int.tmod_lt_of_pos _ (by omega)),?_,?_,a3,a4⟩
    ·omega
    ·show d.2+1+1<=(d.1.length:Int);omega
   ·simp only[hl,decide_false,cond_false];rw[au (by omega) (by omega)];refine⟨_,_,rfl,Int.tmod_nonneg _ (by omega),.inl (Int.tmod_lt_of_pos _ (by omega)),?_,?_,a3,a4⟩
    ·omega
    ·show d.2+1<=(d.1.length:Int);omega
  ·simp only[hn,decide_false,cond_false];rw[au (by omega) (by omega)];refine⟨_,_,rfl,Int.tmod_nonneg _ (by omega),.inl (Int.tmod_lt_of_pos _ (by omega)),?_,?_,a3,a4⟩
   ·omega
   ·show d.2+1<=(d.1.length:Int);omega
theorem SM{N:Nat}(hN:0<N){d:aB}(hd:Cd d){n:Int}(h2:n<=4611686018427387904):∃b d',jb N d n=some (b,d')/\Cd d':=by
 unfold jb;obtain⟨v,d',e,r1,r2,r3⟩:=s5 hN hd h2;rw[e,bH];exact⟨_,_,rfl,r3⟩
theorem xe{N:Nat}(hN:0<N){d:aB}(hd:Cd d){a b:Int}(h1:a<=b)(h2:-1000000<=a)(h3:b<=1000000):∃v d',eS N d a b=some (v,d')/\a<=v/\v<=b/\Cd d':=by
 unfold eS;rw[au (n:=b-a) (by omega) (by omega),au (by omega) (by omega)];obtain⟨v,d',e,r1,r2,r3⟩:=s5 hN hd (n:=b-a+1) (by omega);rw[e,bH];simp only;rw[au (by omega) (by omega)];exact⟨_,_,rfl,by omega,by omega,r3⟩
theorem ats(N:Nat){l:List Int}(h:∀a,a∈l->(Lit.int .u8 a).wf=true)(hl:l.length<=maxLen):∃d,uZ N l=some (d,())/\Cd d:=by
 unfold uZ;have:maxLen<=9223372036854775807:=by decide
 simp only;rw[Mf (by omega),cond_true];refine⟨_,rfl,by omega,by omega,?_,fun a ha=>?_⟩
 ·show(l.take _).length<=300;rw[List.length_take];omega
 ·have:=h a (List.mem_of_mem_take ha);simp only[Lit.wf,Bool.and_eq_true,decide_eq_true_eq] at this;exact this
end
noncomputable section
theorem R3{x y:Int}(h:x=y):(x==y)=true:=by simpa using h
theorem dt{p:Prop}[Decidable p]{α:Type}{x y:α}(h:p):(bif decide p then x else y)=x:=by rw[decide_eq_true h];rfl
theorem df{p:Prop}[Decidable p]{α:Type}{x y:α}(h:¬p):(bif decide p then x else y)=y:=by rw[decide_eq_false h];rfl
theorem et{a b:Int}{α:Type}{x y:α}(h:a=b):(bif a==b then x else y)=x:=by rw[R3 h];rfl
theorem ef{a b:Int}{α:Type}{x y:α}(h:a≠b):(bif a==b then x else y)=y:=by rw[MI h];rfl
theorem it{n:Int}{l:Nat}{α:Type}{x y:α}(h:0<=n/\n<l):(bif ae n l then x else y)=x:=by rw[fN h];rfl
theorem drop_cons{α:Type}{l:List α}{k:Nat}(d:α)(h:k<l.length):l.drop k=l.getD k d::l.drop (k+1):=by
 rw[List.drop_eq_getElem_cons h,List.getD_eq_getElem?_getD,List.getElem?_eq_getElem h];rfl
theorem drop_nil{α:Type}{l:List α}{k:Nat}(h:l.length<=k):l.drop k=[]:=List.drop_eq_nil_of_le h
theorem jX{k:Nat}(h:k<1000000000):W ((k:Int)+1)=((k+1:Nat):Int):=by rw[au (by omega) (by omega)];omega
theorem dU{α:Type}{l:List α}(d:α){k:Nat}(h:k<l.length):l.getD k d∈l:=by
 rw[List.getD_eq_getElem?_getD,List.getElem?_eq_getElem h];exact List.getElem_mem h
def jW(p:bj):Prop:=p.1< -10000\/p.1>10000
instance(p:bj):Decidable (jW p):=inferInstanceAs (Decidable (_\/_))
def fS(n:Int)(r:aR):Prop:=r.1<0\/r.1>=n\/r.2.1<0\/r.2.1>=n\/r.1=r.2.1
instance(n:Int)(r:aR):Decidable (fS n r):=inferInstanceAs (Decidable (_\/_\/_\/_\/_))
def nP(s:aJ)(a b:Int):Prop:=a<=s.1/\s.1<=s.2/\s.2<=b
instance(s:aJ)(a b:Int):Decidable (nP s a b):=inferInstanceAs (Decidable (_/\_/\_))
def km(r:aR):Prop:=r.2.2.1<1\/r.2.2.1>100000\/r.2.2.2.1<1\/r.2.2.2.1>1000\/¬nP r.2.2.2.2.2.2.1 1 262144\/¬nP r.2.2.2.2.2.2.2 (-2199023255552) 2199023255552
instance(r:aR):Decidable (km r):=inferInstanceAs (Decidable (_\/_\/_\/_\/¬_\/¬_))
def rE(n:Int)(r:aR):Int:=if fS n r then 4 else if km r then 1 else 0
def kR(n:Int):List aR->Int
 | []=>0
 | r::rs=>if rE n r=0 then kR n rs else rE n r
theorem B6{n:Int}{r:aR}(rs:List aR)(h:fS n r):kR n (r::rs)=4:=by simp[kR,rE,h]
theorem xN{n:Int}{r:aR}(rs:List aR)(h1:¬fS n r)(h:km r):kR n (r::rs)=1:=by simp[kR,rE,h1,h]
theorem akp{n:Int}{r:aR}(rs:List aR)(h1:¬fS n r)(h:¬km r):kR n (r::rs)=kR n rs:=by simp[kR,rE,h1,h]
def ra:List bj->Bool
 | []=>false
 | p::ps=>decide (jW p) || ra ps
def zG(m:dm):Int:=if m.1.length>64\/m.2.length>128 then 2 else if ra m.1=true then 1 else kR m.1.length m.2
theorem P9(N:Nat)(s:aJ)(a b:Int):BJ N s a b=some (decide (nP s a b)):=by
 unfold BJ nP;by_cases h1:a<=s.1<;>by_cases h2:s.1<=s.2<;>by_cases h3:s.2<=b<;>simp[h1,h2,h3]
theorem W7{b:Bool}{α:Type}{x y:α}(h:b=true):(bif !b then x else y)=y:=by rw[h];rfl
theorem XS{b:Bool}{α:Type}{x y:α}(h:b=false):(bif !b then x else y)=x:=by rw[h];rfl
theorem PI(n:Nat){rs:List aR}(hr:rs.length<=128):∀(j f k:Nat),j+k=rs.length->j<f->DL 1000 f n rs rs.length k=some (kR n (rs.drop k))
 | 0,f+1,k,hk,hf=>by rw[Wy,df (by omega),drop_nil (by omega)];rfl
 | j+1,f+1,k,hk,hf=>by
  have ih:=PI n hr j f (k+1) (by omega) (by omega);rw[Wy,dt (by omega),it (by omega),Int.toNat_natCast,drop_cons fH (by omega)];generalize rs.getD k fH=r;by_cases h1:r.1<0
  ·rw[dt h1,B6 _ (.inl h1)]
  rw[df h1];by_cases h2:r.1>=n
  ·rw[dt h2,B6 _ (.inr (.inl h2))]
  rw[df h2];by_cases h3:r.2.1<0
  ·rw[dt h3,B6 _ (.inr (.inr (.inl h3)))]
  rw[df h3];by_cases h4:r.2.1>=n
  ·rw[dt h4,B6 _ (.inr (.inr (.inr (.inl h4))))]
  rw[df h4];by_cases h5:r.1=r.2.1
  ·rw[et h5,B6 _ (.inr (.inr (.inr (.inr h5))))]
  have hne:¬fS (n:Int) r:=by unfold fS;omega
  rw[ef h5,adl];by_cases g1:r.2.2.1<1
  ·rw[dt g1,xN _ hne (.inl g1)]
  rw[df g1];by_cases g2:r.2.2.1>100000
  ·rw[dt g2,xN _ hne (.inr (.inl g2))]
  rw[df g2];by_cases g3:r.2.2.2.1<1
  ·rw[dt g3,xN _ hne (.inr (.inr (.inl g3)))]
  rw[df g3];by_cases g4:r.2.2.2.1>1000
  ·rw[dt g4,xN _ hne (.inr (.inr (.inr (.inl g4))))]
  rw[df g4,P9,bH];by_cases g5:nP r.2.2.2.2.2.2.1 1 262144
  ·rw[W7 (decide_eq_true g5),P9,bH];by_cases g6:nP r.2.2.2.2.2.2.2 (-2199023255552) 2199023255552
   ·rw[W7 (decide_eq_true g6),jX (by omega),ih,akp _ hne (by unfold km;intro h;rcases h with h | h | h | h | h | h<;>first | omega | exact h g5 | exact h g6)]
   ·rw[XS (decide_eq_false g6),xN _ hne (.inr (.inr (.inr (.inr (.inr g6)))))]
  ·rw[XS (decide_eq_false g5),xN _ hne (.inr (.inr (.inr (.inr (.inl g5)))))]
theorem XV{ps:List bj}{rs:List aR}(hp:ps.length<=64)(hr:rs.length<=128):∀(j f k:Nat),j+k=ps.length->j<f->Hn 1000 f ps ps.length k ps rs=some (if ra (ps.drop k)=true then 1 else kR ps.length rs)
 | 0,f+1,k,hk,hf=>by
  rw[UX,df (by omega),drop_nil (by omega)];exact PI ps.length hr rs.length 1000 0 rfl (by omega)
 | j+1,f+1,k,hk,hf=>by
  have ih:=XV hp hr j f (k+1) (by omega) (by omega);rw[UX,dt (by omega),it (by omega),Int.toNat_natCast,drop_cons rq (by omega)];generalize ps.getD k rq=p;simp only[ra,Bool.or_eq_true,decide_eq_true_eq];by_cases h1:p.1< -10000
  ·rw[dt h1,if_pos (.inl (.inl h1))]
  rw[df h1];by_cases h2:p.1>10000
  ·rw[dt h2,if_pos (.inl (.inr h2))]
  rw[df h2,jX (by omega),ih];by_cases h3:ra (ps.drop (k+1))=true
  ·rw[if_pos h3,if_pos (.inr h3)]
  ·rw[if_neg h3,if_neg (fun h=>h.elim (fun h=>h.elim (by omega) (by omega)) h3)]
theorem Un(m:dm):zk 1000 m=some (zG m):=by
 unfold zk zG;by_cases h1:m.1.length>64
 ·rw[dt (by omega),if_pos (.inl h1)]
 rw[df (by omega)];by_cases h2:m.2.length>128
 ·rw[dt (by omega),if_pos (.inr h2)]
 rw[df (by omega),ap9,if_neg (by omega)];exact XV (by omega) (by omega) m.1.length 1000 0 rfl (by omega)
theorem anl(m:dm):HX 1000 m=some (zG m==0):=by unfold HX;rw[Un];rfl
structure Vm (m:dm):Prop where
 n:m.1.length<=64
 k:m.2.length<=128
 p:∀x,x∈m.1->¬jW x
 r:∀x,x∈m.2->¬fS m.1.length x/\¬km x
theorem Mq:∀(ps:List bj),ra ps=true↔∃x,x∈ps/\jW x
 | []=>by simp[ra]
 | p::ps=>by simp[ra,Mq ps]
theorem TQ(n:Int)(r:aR):rE n r=0↔¬fS n r/\¬km r:=by
 unfold rE;by_cases h1:fS n r
 ·simp[h1]
 ·by_cases h2:km r<;>simp[h1,h2]
theorem Vg(n:Int):∀(rs:List aR),kR n rs=0↔∀x,x∈rs->¬fS n x/\¬km x
 | []=>by simp[kR]
 | r::rs=>by
  simp only[kR,List.mem_cons,forall_eq_or_imp];by_cases h:rE n r=0
  ·rw[if_pos h,Vg n rs];exact⟨fun k=>⟨(TQ n r).1 h,k⟩,fun k=>k.2⟩
  ·rw[if_neg h];exact⟨fun k=>absurd k h,fun k=>absurd ((TQ n r).2 k.1) h⟩
theorem T8(m:dm):zG m=0↔Vm m:=by
 unfold zG;by_cases h1:m.1.length>64\/m.2.length>128
 ·rw[if_pos h1];exact⟨fun h=>(by cases h),fun v=>by have:=v.n;have:=v.k;omega⟩
 ·rw[if_neg h1];by_cases h2:ra m.1=true
  ·rw[if_pos h2];exact⟨fun h=>(by cases h),fun v=>by obtain⟨x,hx,hb⟩:=(Mq _).1 h2;exact absurd hb (v.p x hx)⟩
  ·rw[if_neg h2,Vg];exact⟨fun h=>⟨by omega,by omega,fun x hx hb=>h2 ((Mq _).2 ⟨x,hx,hb⟩),h⟩,fun v=>v.r⟩
def Bk(r:aR):Prop:=(1<=r.2.2.1/\r.2.2.1<=400)/\(4<=r.2.2.2.1/\r.2.2.2.1<=30)/\(1<=r.2.2.2.2.2.2.1.1/\r.2.2.2.2.2.2.1.1<=r.2.2.2.2.2.2.1.2/\r.2.2.2.2.2.2.1.2<=30)/\(-300<=r.2.2.2.2.2.2.2.1/\r.2.2.2.2.2.2.2.1<=r.2.2.2.2.2.2.2.2/\r.2.2.2.2.2.2.2.2<=400)
def Rk(n:Int)(r:aR):Prop:=(0<=r.1/\r.1<n)/\(0<=r.2.1/\r.2.1<n)/\r.1≠r.2.1/\Bk r
theorem Bk.Vk{r:aR}(h:Bk r):¬km r:=by
 obtain⟨h1,h2,h3,h4⟩:=h;unfold km nP;omega
theorem Rk.ok{n:Int}{r:aR}(h:Rk n r):¬fS n r/\¬km r:=by
 obtain⟨h1,h2,h3,h4⟩:=h;exact⟨by unfold fS;omega,h4.Vk⟩
theorem j4{α:Type}{P:α->Prop}{l:List α}{a:α}(h:∀x,x∈l->P x)(ha:P a):∀x,x∈l++[a]->P x:=fun x hx=>by
 rcases List.mem_append.1 hx with hx | hx
 ·exact h x hx
 ·rw[List.mem_singleton.1 hx];exact ha
theorem ao4{d:aB}(hd:Cd d)(a b:Int):∃r d',tO 1000 d a b=some (r,d')/\r.1=a/\r.2.1=b/\Bk r/\r.2.2.2.2.2.1=false/\Cd d':=by
 unfold tO;obtain⟨v1,d1,e1,a1,b1,hd1⟩:=xe (N:=1000) (by omega) hd (a:=1) (b:=400) (by omega) (by omega) (by omega);rw[e1,bH];obtain⟨v2,d2,e2,a2,b2,hd2⟩:=xe (N:=1000) (by omega) hd1 (a:=4) (b:=30) (by omega) (by omega) (by omega);simp only;rw[e2,bH];obtain⟨v3,d3,e3,a3,b3,hd3⟩:=s5 (N:=1000) (by omega) hd2 (n:=4) (by omega);simp only;rw[e3,bH];obtain⟨v4,d4,e4,a4,b4,hd4⟩:=xe (N:=1000) (by omega) hd3 (a:=1) (b:=20) (by omega) (by omega) (by omega);simp only;rw[e4,bH]
 obtain⟨v5,d5,e5,a5,b5,hd5⟩:=s5 (N:=1000) (by omega) hd4 (n:=3) (by omega);simp only;rw[e5,bH];obtain⟨v6,d6,e6,a6,b6,hd6⟩:=xe (N:=1000) (by omega) hd5 (a:=-300) (b:=300) (by omega) (by omega) (by omega);simp only;rw[e6,bH];obtain⟨v7,d7,e7,a7,b7,hd7⟩:=s5 (N:=1000) (by omega) hd6 (n:=20) (by omega);simp only;rw[e7,bH];simp only;rw[au (n:=v4+v5) (by omega) (by omega),au (n:=v6+v7) (by omega) (by omega)];exact⟨_,_,rfl,rfl,rfl,⟨⟨a1,b1⟩,⟨a2,b2⟩,⟨a4,by show v4<=v4+v5;omega,by show v4+v5<=30;omega⟩,⟨a6,by show v6<=v6+v7;omega,by show v6+v7<=400;omega⟩⟩,rfl,hd7⟩
end
noncomputable section
abbrev pt(l:List aJ)(k:Nat):aJ:=l.getD k dZ
def BU(l:List aJ)(k:Nat):Prop:=-1048576<=(pt l k).1/\(pt l k).1<=1048576/\0<=(pt l k).2/\(pt l k).2<=2199023255552
def vZ(l:List aJ)(k:Nat):Prop:=(pt l k).1<(pt l (k+1)).1/\(pt l (k+1)).2<=(pt l k).2
structure fW (l:List aJ):Prop where
 l1:1<=l.length
 l2:l.length<=8
 ok:∀k,k<l.length->BU l k
 st:∀k,k+1<l.length->vZ l k
def line(p q:aJ)(x:Int):aJ:=(p.2-((p.2-q.2)*(x-p.1)) / (q.1-p.1)-(if((p.2-q.2)*(x-p.1)) % (q.1-p.1)>0 then 1 else 0),p.2-((p.2-q.2)*(x-p.1)) / (q.1-p.1))
theorem BS{a b:Int}(h1:0<=a/\a<=2199023255552)(h2:0<=b/\b<=2097152):0<=a*b/\a*b<=4611686018427387904:=by
 have h3:=Int.mul_nonneg h1.1 h2.1;have h4:=Int.mul_le_mul h1.2 h2.2 h2.1 (by omega);exact⟨h3,by omega⟩
theorem j3{n:Int}(h1:0<=n)(h2:n<18446744073709551616):IntKind.u64.wrap n=n:=by
 have e:IntKind.u64.wrap n=n % 18446744073709551616:=by simp[IntKind.wrap,IntKind.signed,IntKind.bits]
 rw[e];omega
theorem OJ{n:Int}(h1:0<=n)(h2:n<18446744073709551616):((BitVec.ofInt IntKind.u64.bits n &&& BitVec.ofInt IntKind.u64.bits 4294967295).toNat:Int)=n % 4294967296:=by
 obtain⟨k,rfl⟩:=Int.eq_ofNat_of_zero_le h1;have e:(BitVec.ofInt IntKind.u64.bits (k:Int) &&& BitVec.ofInt IntKind.u64.bits 4294967295).toNat=k % 4294967296:=by
  rw[BitVec.toNat_and];have e1:(BitVec.ofInt IntKind.u64.bits (k:Int)).toNat=k:=by
   rw[BitVec.toNat_ofInt];show((k:Int) % ((2 ^ 64:Nat):Int)).toNat=k;omega
  have e2:(BitVec.ofInt IntKind.u64.bits 4294967295).toNat=2 ^ 32-1:=by decide
  rw[e1,e2,Nat.and_two_pow_sub_one_eq_mod]
 rw[e];omega
theorem AD{n:Int}(h1:0<=n):n.fdiv (2 ^ (min (32:Int).toNat IntKind.u64.bits))=n / 4294967296:=by
 show n.fdiv 4294967296=n / 4294967296;rw[Int.fdiv_eq_ediv_of_nonneg _ (by omega)]
theorem aea(N:Nat){a b:Int}(h1:0<=a/\a<=2199023255552)(h2:0<=b/\b<=2097152):D1 N a b=some (0,a*b):=by
 have hb:=BS h1 h2;unfold D1;simp only;rw[OJ (by omega) (by omega),OJ (by omega) (by omega),AD (by omega),AD (by omega),j3 (n:=a % 4294967296) (by omega) (by omega),j3 (n:=b % 4294967296) (by omega) (by omega),show b / 4294967296=0 by omega,show b % 4294967296=b by omega,Int.mul_zero,Int.mul_zero,j3 (n:=0) (by omega) (by omega)];have q1:0<=a / 4294967296*b/\a / 4294967296*b<=4611686018427387904:=BS (by omega) h2;have q2:0<=a % 4294967296*b/\a % 4294967296*b<=4611686018427387904:=BS (by omega) h2;have q3:a*b=4294967296*(a / 4294967296*b)+a % 4294967296*b:=by
  rw[<-Int.mul_assoc,<-Int.add_mul,Int.mul_ediv_add_emod]
 generalize a / 4294967296*b=u at*;generalize a % 4294967296*b=v at*;generalize a*b=t at*;rw[j3 (n:=u) (by omega) (by omega),j3 (n:=v) (by omega) (by omega),AD (n:=v) (by omega),j3 (n:=u+v / 4294967296) (by omega) (by omega),AD (n:=u+v / 4294967296) (by omega),OJ (by omega) (by omega)];rw[j3 (n:=(u+v / 4294967296) % 4294967296) (by omega) (by omega),j3 (n:=t) (by omega) (by omega)];rw[j3 (n:=(u+v / 4294967296) % 4294967296+0) (by omega) (by omega),AD (by omega),j3 (n:=0+(u+v / 4294967296) / 4294967296) (by omega) (by omega),j3 (by omega) (by omega)]
 congr 2;omega
theorem amd(N:Nat){a b:Int}(h1:0<=a/\a<=4611686018427387904)(h2:0<b):FK N 0 a b=some (a / b,a % b):=by
 have h3:=Int.ediv_le_self b h1.1;have h4:0<=a / b:=Int.ediv_nonneg h1.1 (by omega);unfold FK;rw[show(b==0)=false by simp;omega,cond_false,decide_eq_false (show¬b<=0 by omega),cond_false,show((0:Int)==0)=true from rfl,cond_true,cond_false,cond_false];rw[Int.tdiv_eq_ediv_of_nonneg h1.1,Int.tmod_eq_emod_of_nonneg h1.1,j3 (by omega) (by omega)]
theorem aqg(N:Nat){p q:aJ}{x:Int}(hp1:-1048576<=p.1/\p.1<=1048576)(hq1:-1048576<=q.1/\q.1<=1048576)(hp2:0<=p.2/\p.2<=2199023255552)(hq2:0<=q.2/\q.2<=p.2)(hx:p.1<=x/\x<=q.1)(hlt:p.1<q.1):EC N p q x=some (line p q x):=by
 have hb:=BS (a:=p.2-q.2) (b:=x-p.1) (by omega) (by omega);unfold EC;rw[au (n:=p.2-q.2) (by omega) (by omega),au (n:=x-p.1) (by omega) (by omega),au (n:=q.1-p.1) (by omega) (by omega),j3 (n:=p.2-q.2) (by omega) (by omega),j3 (n:=x-p.1) (by omega) (by omega),j3 (n:=q.1-p.1) (by omega) (by omega),aea N (by omega) (by omega),bH];simp only;rw[amd N hb (by omega),bH];unfold line;generalize (p.2-q.2)*(x-p.1)=t at*;have h3:=Int.ediv_le_self (q.1-p.1) hb.1;have h4:0<=t / (q.1-p.1):=Int.ediv_nonneg hb.1 (by omega)
 generalize t / (q.1-p.1)=u at*;simp only;rw[au (n:=u) (by omega) (by omega),au (n:=p.2-u) (by omega) (by omega),au (n:=p.2-u-1) (by omega) (by omega)];split
 ·rename_i h;rw[decide_eq_true h];rfl
 ·rename_i h;rw[decide_eq_false h,Int.sub_zero];rfl
def ce(t w:Int):Int:=t / w+(if t % w>0 then 1 else 0)
theorem Us{t t' w:Int}(hw:0<w)(h:t<=t'):t / w<=t' / w:=Int.ediv_le_ediv hw h
theorem aj5{t t' w:Int}(hw:0<w)(h:t<=t'):ce t w<=ce t' w:=by
 have h1:=Us hw h;have e1:=Int.mul_ediv_add_emod t w;have e2:=Int.mul_ediv_add_emod t' w;have:=Int.emod_nonneg t (show w≠0 by omega);have:=Int.emod_nonneg t' (show w≠0 by omega);unfold ce;by_cases he:t / w=t' / w
 ·rw[he] at e1 ⊢;split<;>split<;>omega
 ·split<;>split<;>omega
theorem akc{t w D:Int}(hw:0<w)(h:t<=D*w):ce t w<=D:=by
 have h1:=Int.ediv_le_of_le_mul hw h;have e1:=Int.mul_ediv_add_emod t w;have:=Int.emod_nonneg t (show w≠0 by omega);unfold ce;by_cases he:t / w=D
 ·rw[he,Int.mul_comm] at e1;split<;>omega
 ·split<;>omega
theorem uv(p q:aJ)(x:Int):line p q x=(p.2-ce ((p.2-q.2)*(x-p.1)) (q.1-p.1),p.2-((p.2-q.2)*(x-p.1)) / (q.1-p.1)):=by
 unfold line ce;rw[Int.sub_sub]
theorem HF{p q:aJ}{x:Int}(h1:p.1<q.1)(h2:q.2<=p.2)(hx:p.1<=x/\x<=q.1):q.2<=(line p q x).1/\(line p q x).1<=(line p q x).2/\(line p q x).2<=p.2/\(line p q x).2-(line p q x).1<=1:=by
 rw[uv];have hw:0<q.1-p.1:=by omega
 have t0:0<=(p.2-q.2)*(x-p.1):=Int.mul_nonneg (by omega) (by omega);have t1:(p.2-q.2)*(x-p.1)<=(p.2-q.2)*(q.1-p.1):=Int.mul_le_mul_of_nonneg_left (by omega) (by omega);have c1:=akc hw t1;have c2:0<=((p.2-q.2)*(x-p.1)) / (q.1-p.1):=Int.ediv_nonneg t0 (by omega);have c3:ce ((p.2-q.2)*(x-p.1)) (q.1-p.1)-((p.2-q.2)*(x-p.1)) / (q.1-p.1)<=1/\0<=ce ((p.2-q.2)*(x-p.1)) (q.1-p.1)-((p.2-q.2)*(x-p.1)) / (q.1-p.1):=by
  unfold ce;split<;>omega
 show q.2<=p.2-_/\p.2-_<=p.2-_/\p.2-_<=p.2/\p.2-_-(p.2-_)<=1;omega
theorem acj{p q:aJ}{x y:Int}(h1:p.1<q.1)(h2:q.2<=p.2)(hx:x<=y):(line p q y).1<=(line p q x).1/\(line p q y).2<=(line p q x).2:=by
 rw[uv,uv];have hw:0<q.1-p.1:=by omega
 have t1:(p.2-q.2)*(x-p.1)<=(p.2-q.2)*(y-p.1):=Int.mul_le_mul_of_nonneg_left (by omega) (by omega);have c1:=aj5 hw t1;have c2:=Us hw t1;omega
theorem fW.lt{l:List aJ}(h:fW l):∀(d i:Nat),i+d+1<l.length->(pt l i).1<(pt l (i+d+1)).1/\(pt l (i+d+1)).2<=(pt l i).2
 | 0,i,hi=>h.st i hi
 | d+1,i,hi=>by
  have h1:=fW.lt h d i (by omega);have h2:=h.st (i+d+1) hi;unfold vZ at h2;have e:i+(d+1)+1=i+d+1+1:=by omega
  rw[e];omega
theorem fW.zQ{l:List aJ}(h:fW l){i j:Nat}(h1:i<j)(h2:j<l.length):(pt l i).1<(pt l j).1/\(pt l j).2<=(pt l i).2:=by
 have:=h.lt (j-i-1) i (by omega);rw[show i+(j-i-1)+1=j by omega] at this;exact this
theorem fW.le{l:List aJ}(h:fW l){i j:Nat}(h1:i<=j)(h2:j<l.length):(pt l i).1<=(pt l j).1/\(pt l j).2<=(pt l i).2:=by
 by_cases e:i=j
 ·subst e;exact⟨Int.le_refl _,Int.le_refl _⟩
 ·have:=h.zQ (i:=i) (j:=j) (by omega) h2;omega
def Sp(l:List aJ)(x:Int)(r:aJ):Prop:=
 (x<=(pt l 0).1/\r=((pt l 0).2,(pt l 0).2))\/((pt l (l.length-1)).1<=x/\r=((pt l (l.length-1)).2,(pt l (l.length-1)).2))\/
 ∃i,i+1<l.length/\(pt l i).1<=x/\x<=(pt l (i+1)).1/\r=line (pt l i) (pt l (i+1)) x
theorem Sp.lo{l:List aJ}(h:fW l){x:Int}{r:aJ}(hs:Sp l x r){j:Nat}(hj:j<l.length)(hx:(pt l j).1<=x):r.2<=(pt l j).2:=by
 rcases hs with⟨h1,rfl⟩ | ⟨h1,rfl⟩ | ⟨i,hi,h1,h2,rfl⟩
 ·by_cases e:j=0
  ·subst e;exact Int.le_refl _
  ·have:=h.zQ (i:=0) (j:=j) (by omega) hj;omega
 ·exact(h.le (by omega) (by omega)).2
 ·have b:=HF (h.st i hi).1 (h.st i hi).2 ⟨h1,h2⟩;by_cases e:j<=i
  ·have:=(h.le e (by omega)).2;omega
  ·have k:=h.le (i:=i+1) (j:=j) (by omega) hj;have e2:j=i+1:=by
    apply Classical.byContradiction;intro hne;have:=h.zQ (i:=i+1) (j:=j) (by omega) hj;omega
   subst e2;have ex:x=(pt l (i+1)).1:=by omega
   have hw:=(h.st i hi).1;have:(line (pt l i) (pt l (i+1)) x).2=(pt l (i+1)).2:=by
    rw[uv,ex];rw[Int.mul_ediv_cancel _ (by omega)];omega
   omega
theorem Sp.hi{l:List aJ}(h:fW l){x:Int}{r:aJ}(hs:Sp l x r){j:Nat}(hj:j<l.length)(hx:x<=(pt l j).1):(pt l j).2<=r.1:=by
 rcases hs with⟨h1,rfl⟩ | ⟨h1,rfl⟩ | ⟨i,hi,h1,h2,rfl⟩
 ·exact(h.le (by omega) hj).2
 ·by_cases e:j=l.length-1
  ·subst e;exact Int.le_refl _
  ·have:=h.zQ (i:=j) (j:=l.length-1) (by omega) (by omega);omega
 ·have b:=HF (h.st i hi).1 (h.st i hi).2 ⟨h1,h2⟩;by_cases e:i<j
  ·have:=(h.le (i:=i+1) (j:=j) (by omega) hj).2;omega
  ·have e2:j=i:=by
    apply Classical.byContradiction;intro hne;have:=h.zQ (i:=j) (j:=i) (by omega) (by omega);omega
   subst e2;have ex:x=(pt l j).1:=by omega
   have:(line (pt l j) (pt l (j+1)) x).1=(pt l j).2:=by
    rw[uv,ex];rw[Int.sub_self,Int.mul_zero];unfold ce;simp
   omega
theorem Sp.le{l:List aJ}(h:fW l){x:Int}{r:aJ}(hs:Sp l x r):r.1<=r.2/\r.2-r.1<=1/\(pt l (l.length-1)).2<=r.1/\r.2<=(pt l 0).2:=by
 have hl:=h.l1;have h0:=(h.le (i:=0) (j:=l.length-1) (by omega) (by omega)).2;rcases hs with⟨h1,rfl⟩ | ⟨h1,rfl⟩ | ⟨i,hi,h1,h2,rfl⟩
 ·exact⟨Int.le_refl _,by simp only;omega,h0,Int.le_refl _⟩
 ·exact⟨Int.le_refl _,by simp only;omega,Int.le_refl _,h0⟩
 ·have b:=HF (h.st i hi).1 (h.st i hi).2 ⟨h1,h2⟩;have:=(h.le (i:=0) (j:=i) (by omega) (by omega)).2;have:=(h.le (i:=i+1) (j:=l.length-1) (by omega) (by omega)).2;omega
theorem Sp.mono{l:List aJ}(h:fW l){x y:Int}{r s:aJ}(hr:Sp l x r)(hs:Sp l y s)(hxy:x<=y):s.1<=r.1/\s.2<=r.2:=by
 have hl:=h.l1;have br:=Sp.le h hr;have bs:=Sp.le h hs;have key:∀j,j<l.length->x<=(pt l j).1->(pt l j).1<=y->s.1<=r.1/\s.2<=r.2:=fun j hj a b=>by
  have:=Sp.lo h hs hj b;have:=Sp.hi h hr hj a;omega
 have hs':=hs;rcases hs with⟨h1,rfl⟩ | ⟨h1,rfl⟩ | ⟨i,hi,h1,h2,rfl⟩
 ·have:=Sp.hi h hr (j:=0) (by omega) (by omega);exact⟨this,by simp only at*;omega⟩
 ·exact⟨br.2.2.1,by simp only at*;omega⟩
 ·by_cases a:x<=(pt l i).1
  ·exact key i (by omega) a h1
  by_cases b:(pt l (i+1)).1<=y
  ·exact key (i+1) hi (by omega) b
  rcases hr with⟨q1,rfl⟩ | ⟨q1,rfl⟩ | ⟨j,hj,q1,q2,rfl⟩
  ·have:=(h.le (i:=0) (j:=i) (by omega) (by omega)).1;omega
  ·have:=(h.le (i:=i+1) (j:=l.length-1) (by omega) (by omega)).1;omega
  ·have e:i=j:=by
    rcases Nat.lt_trichotomy i j with c | c | c
    ·have:=(h.le (i:=i+1) (j:=j) (by omega) (by omega)).1;omega
    ·exact c
    ·have:=(h.le (i:=j+1) (j:=i) (by omega) (by omega)).1;omega
   subst e;exact acj (h.st i hi).1 (h.st i hi).2 hxy
theorem Sp.uniq{l:List aJ}(h:fW l){x:Int}{r s:aJ}(hr:Sp l x r)(hs:Sp l x s):r=s:=by
 have a:=Sp.mono h hr hs (Int.le_refl _);have b:=Sp.mono h hs hr (Int.le_refl _);exact Prod.ext (by omega) (by omega)
theorem Wt(N:Nat){l:List aJ}(h:fW l)(x:Int)(a:Int)(b c:Bool)(u v w:Int):∀(n m i:Nat),m+i=l.length->m<n->1<=i->(∀j,j<i->(pt l j).1<x)->
  ∃r,Ga N n x i a b c l u v w (pt l (l.length-1)).2=some r/\Sp l x r
 | n+1,0,i,hi,hn,h1,hj=>by
  rw[S0,decide_eq_false (by omega)];have:=hj (l.length-1) (by omega);exact⟨_,rfl,.inr (.inl ⟨by omega,rfl⟩)⟩
 | n+1,m+1,i,hi,hn,h1,hj=>by
  have hl2:=h.l2;rw[S0,decide_eq_true (by omega),cond_true,fN (by omega),cond_true,cond_true,Int.toNat_natCast];by_cases hx:x<=(pt l i).1
  ·obtain⟨k,rfl⟩:∃k,i=k+1:=⟨i-1,by omega⟩;have p1:=h.ok k (by omega);have p2:=h.ok (k+1) (by omega);have s1:=h.st k (by omega);have x1:=hj k (by omega);unfold BU at p1 p2;unfold vZ at s1;rw[decide_eq_true hx,cond_true,au (by omega) (by omega),fN (by omega),cond_true,show(((k+1:Nat):Int)-1).toNat=k by omega];rw[aqg N ⟨p1.1,p1.2.1⟩ ⟨p2.1,p2.2.1⟩ p1.2.2 ⟨p2.2.2.1,s1.2⟩ ⟨by omega,hx⟩ s1.1];exact⟨_,rfl,.inr (.inr ⟨k,by omega,by omega,hx,rfl⟩)⟩
  ·rw[decide_eq_false hx,cond_false,au (by omega) (by omega),show(i:Int)+1=((i+1:Nat):Int) by omega];refine Wt N h x a b c u v w n m (i+1) (by omega) (by omega) (by omega) fun j hj'=>?_;by_cases e:j=i
   ·subst e;omega
   ·exact hj j (by omega)
theorem an3{N:Nat}(hN:1000<=N){l:List aJ}(h:fW l)(x:Int)(a:Int)(b c:Bool):∃r,yf N (a,b,c,l) x=some r/\Sp l x r:=by
 have h1:=h.l1;have h2:=h.l2;unfold yf;simp only;rw[fN (by omega),cond_true,au (by omega) (by omega),fN (by omega),cond_true,show((l.length:Int)-1).toNat=l.length-1 by omega,show(0:Int).toNat=0 from rfl];by_cases hx:x<=(pt l 0).1
 ·rw[decide_eq_true hx];exact⟨_,rfl,.inl ⟨hx,rfl⟩⟩
 ·rw[decide_eq_false hx,cond_false];exact Wt N h x a b c _ _ _ N (l.length-1) 1 (by omega) (by omega) (by omega) fun j hj=>by
   have:j=0:=by omega
   subst this;omega
theorem X8{N:Nat}{t w:Int}(hw:0<w)(ht:-4611686018427387904<=t/\t<=4611686018427387904):BR N t w=some (t / w):=by
 unfold BR;rw[show(w==0)=false by simp;omega,cond_false,cond_false];have e1:=Int.mul_ediv_add_emod t w;have e2:=Int.mul_tdiv_add_tmod t w;have r1:=Int.emod_nonneg t (show w≠0 by omega);have r2:=Int.emod_lt_of_pos t hw;have q1:=ag6 (n:=t) (m:=w) (by omega);have b1:-4611686018427387904<=t.tdiv w/\t.tdiv w<=4611686018427387904:=by
  have:=Int.natAbs_tdiv_le_natAbs t w;omega
 rw[au (n:=t.tdiv w) (by omega) (by omega),au (n:=t.tdiv w-1) (by omega) (by omega)];split at q1
 ·rename_i hlt;rw[decide_eq_true hlt,cond_true];have:w*(t.tdiv w-1)=w*(t / w):=by rw[Int.mul_sub];omega
  rw[Int.eq_of_mul_eq_mul_left (by omega) this]
 ·rename_i hlt;rw[decide_eq_false hlt,cond_false];have:w*(t.tdiv w)=w*(t / w):=by omega
  rw[Int.eq_of_mul_eq_mul_left (by omega) this]
theorem apt{t w:Int}(hw:0<w):(-t) / w=-(ce t w):=by
 have e1:=Int.mul_ediv_add_emod t w;have r1:=Int.emod_nonneg t (show w≠0 by omega);have r2:=Int.emod_lt_of_pos t hw;unfold ce;split
 ·refine((Int.ediv_emod_unique (r:=w-t % w) hw).2 ⟨?_,by omega,by omega⟩).1;rw[show w*-(t / w+1)=-(w*(t / w))-w by rw[Int.mul_neg,Int.mul_add,Int.mul_one];omega];omega
 ·refine((Int.ediv_emod_unique hw).2 ⟨?_,by omega,by omega⟩).1;rw[show w*-(t / w+0)=-(w*(t / w)) by rw[Int.mul_neg,Int.add_zero]];omega
theorem UN{N:Nat}{l:List aJ}(h:fW l)(x:Int)(a:Int)(b c:Bool)(u v:Int)(hx:x<(pt l (l.length-1)).1):∀(n m k:Nat),m+k+1=l.length->m<n->(pt l k).1<=x->
  ∃r,FT N n x k a b c l u v=some r/\Sp l x r
 | n+1,0,k,hk,hn,h1=>by
  have:l.length-1=k:=by omega
  rw[this] at hx;omega
 | n+1,m+1,k,hk,hn,h1=>by
  have hl2:=h.l2;rw[aq7,au (by omega) (by omega),fN (by omega),cond_true,show((k:Int)+1).toNat=k+1 by omega];by_cases h2:(pt l (k+1)).1<=x
  ·rw[decide_eq_true h2,cond_true,show(k:Int)+1=((k+1:Nat):Int) by omega];exact UN h x a b c u v hx n m (k+1) (by omega) (by omega) h2
  ·have p1:=h.ok k (by omega);have p2:=h.ok (k+1) (by omega);have s1:=h.st k (by omega);unfold BU at p1 p2;unfold vZ at s1;have hb:=BS (a:=(pt l k).2-(pt l (k+1)).2) (b:=x-(pt l k).1) (by omega) (by omega);rw[decide_eq_false h2,cond_false,fN (by omega),cond_true,cond_true,Int.toNat_natCast];simp only;rw[au (n:=(pt l (k+1)).2-(pt l k).2) (by omega) (by omega),au (n:=x-(pt l k).1) (by omega) (by omega),au (n:=(pt l (k+1)).1-(pt l k).1) (by omega) (by omega)];have en:((pt l (k+1)).2-(pt l k).2)*(x-(pt l k).1)=-(((pt l k).2-(pt l (k+1)).2)*(x-(pt l k).1)):=by
    rw[<-Int.neg_mul];congr 1;omega
   have bl:=HF s1.1 s1.2 ⟨h1,by omega⟩;rw[uv] at bl;rw[en];have ee:=uv (pt l k) (pt l (k+1)) x;generalize ht:((pt l k).2-(pt l (k+1)).2)*(x-(pt l k).1)=t at*;rw[au (n:=-t) (by omega) (by omega),X8 (by omega) (by omega),bH];unfold LN;rw[au (n:=0- -t) (by omega) (by omega),X8 (by omega) (by omega),bH,bH,show 0- -t=t by omega,apt (by omega)];generalize hce:ce t ((pt l (k+1)).1-(pt l k).1)=ct at*;generalize hdv:t / ((pt l (k+1)).1-(pt l k).1)=dt at*;simp only at bl
   rw[au (n:=0-dt) (by omega) (by omega),au (n:=(pt l k).2+(0-dt)) (by omega) (by omega),au (n:=(pt l k).2+-ct) (by omega) (by omega)];refine⟨_,rfl,.inr (.inr ⟨k,by omega,h1,by omega,?_⟩)⟩;rw[ee];exact Prod.ext (by simp only;omega) (by simp only;omega)
theorem PN{N:Nat}(hN:1000<=N){l:List aJ}(h:fW l)(x:Int)(a:Int)(b c:Bool):∃r,ux N (a,b,c,l) x=some r/\Sp l x r:=by
 have h1:=h.l1;have h2:=h.l2;unfold ux;simp only;rw[fN (by omega),cond_true,show(0:Int).toNat=0 from rfl];by_cases hx:x<=(pt l 0).1
 ·rw[decide_eq_true hx,cond_true,cond_true,cond_true];exact⟨_,rfl,.inl ⟨hx,rfl⟩⟩
 ·rw[decide_eq_false hx,cond_false,au (by omega) (by omega),fN (by omega),cond_true,show((l.length:Int)-1).toNat=l.length-1 by omega];by_cases hy:x>=(pt l (l.length-1)).1
  ·rw[decide_eq_true hy];exact⟨_,rfl,.inr (.inl ⟨hy,rfl⟩)⟩
  ·rw[decide_eq_false hy,cond_false];exact UN h x a b c _ _ (by omega) N (l.length-1) 0 (by omega) (by omega) (by omega)
def cv(l:List aJ)(x:Int):aJ:=(ux 1000 (0,false,false,l) x).getD dZ
theorem G6{l:List aJ}(h:fW l)(x:Int):Sp l x (cv l x):=by
 obtain⟨r,e,hs⟩:=PN (N:=1000) (by omega) h x 0 false false;unfold cv;rw[e];exact hs
theorem Xv{N:Nat}(hN:1000<=N){l:List aJ}(h:fW l)(x:Int)(a:Int)(b c:Bool):yf N (a,b,c,l) x=some (cv l x):=by
 obtain⟨r,e,hs⟩:=an3 hN h x a b c;rw[e,Sp.uniq h hs (G6 h x)]
theorem Ux{N:Nat}(hN:1000<=N){l:List aJ}(h:fW l)(x:Int)(a:Int)(b c:Bool):ux N (a,b,c,l) x=some (cv l x):=by
 obtain⟨r,e,hs⟩:=PN hN h x a b c;rw[e,Sp.uniq h hs (G6 h x)]
theorem X3{l:List aJ}(h:fW l)(x:Int):0<=(cv l x).1/\(cv l x).1<=(cv l x).2/\(cv l x).2-(cv l x).1<=1/\(cv l x).2<=2199023255552:=by
 have b:=Sp.le h (G6 h x);have hl:=h.l1;have p1:=h.ok (l.length-1) (by omega);have p2:=h.ok 0 (by omega);unfold BU at p1 p2;omega
def nh(l:List aJ)(back:Bool)(x:Int):aJ:=bif back then(-(cv l (-x)).2,-(cv l (-x)).1) else cv l x
def xU(l:List aJ)(b:Bool)(s x:Int):aJ:=
 if s=1 then nh l b x else if s=2 then nh l (!b) x else if s=-1 then(min (min (nh l false x).1 (nh l true x).1) 0,max (max (nh l false x).2 (nh l true x).2) 0) else(0,0)
theorem aq0{N:Nat}(hN:1000<=N){l:List aJ}(h:fW l){x:Int}(hx:-1048577<=x/\x<=1048577)(a:Int)(b c back:Bool):vE N (a,b,c,l) back x=some (nh l back x)/\vI N (a,b,c,l) back x=some (nh l back x):=by
 unfold vE vI nh;cases back with
 | false=>
  simp only[Bool.not_false,cond_true,cond_false];rw[Xv hN h,Ux hN h];exact⟨rfl,rfl⟩
 | true=>
  have hb:=X3 h (-x);simp only[Bool.not_true,cond_true,cond_false];rw[au (by omega) (by omega),show 0-x=-x by omega,Xv hN h,Ux hN h,bH,au (by omega) (by omega),au (by omega) (by omega),show 0-(cv l (-x)).2=-(cv l (-x)).2 by omega,show 0-(cv l (-x)).1=-(cv l (-x)).1 by omega];exact⟨rfl,rfl⟩
theorem Xb{N:Nat}(hN:1000<=N){l:List aJ}(h:fW l){x s:Int}(hx:-1048577<=x/\x<=1048577)(hs:-1<=s/\s<=2)(a:Int)(b c:Bool):EI N (a,b,c,l) s x=some (xU l b s x)/\DN N (a,b,c,l) s x=some (xU l b s x):=by
 have e:=fun back=>aq0 hN h hx a b c back;unfold EI DN xU;rcases(by omega:s=0\/s=1\/s=2\/s=-1) with rfl | rfl | rfl | rfl
 ·exact⟨rfl,rfl⟩
 ·simp only[(e _).1,(e _).2];exact⟨rfl,rfl⟩
 ·simp only[(e _).1,(e _).2];exact⟨rfl,rfl⟩
 ·simp only[(e _).1,(e _).2];refine⟨?_,rfl⟩;show some (_,_)=some (_,_);congr 2<;>omega
end
noncomputable section
inductive Tr where
 | c (k:Int)
 | n (a:Tr)
 | b (o:Bool) (x y:Tr)
namespace Tr
def sz:Tr->Nat
 | .c _=>1
 | .n a=>a.sz+1
 | .b _ x y=>x.sz+y.sz+1
def dp:Tr->Nat
 | .c _=>1
 | .n a=>a.dp+1
 | .b _ x y=>max x.dp y.dp+1
def kd(o:Bool):Int:=bif o then 4 else 3
def fl:Tr->Nat->List aP
 | .c k,_=>[(1,(k,(0,0)))]
 | .n a,p=>a.fl p++[(2,(0,(((p+a.sz:Nat):Int)-1,0)))]
 | .b o x y,p=>x.fl p++(y.fl (p+x.sz)++[(kd o,(0,(((p+x.sz:Nat):Int)-1,((p+x.sz+y.sz:Nat):Int)-1)))])
def wf:Tr->Prop
 | .c k=>0<=k/\k<64
 | .n a=>a.wf
 | .b _ x y=>x.wf/\y.wf
theorem oq:∀t:Tr,0<t.sz
 | .c _=>Nat.zero_lt_one
 | .n a=>Nat.succ_pos _
 | .b _ x y=>Nat.succ_pos _
theorem vo:∀t:Tr,t.dp<=t.sz
 | .c _=>Nat.le_refl _
 | .n a=>Nat.succ_le_succ a.vo
 | .b _ x y=>by
  have:=x.vo;have:=y.vo;simp only[dp,sz];omega
theorem jj:∀(t:Tr) (p:Nat),(t.fl p).length=t.sz
 | .c _,_=>rfl
 | .n a,p=>by simp[fl,sz,jj a]
 | .b _ x y,p=>by simp[fl,sz,jj x,jj y];omega
theorem an5(o:Bool):kd o=3\/kd o=4:=by cases o;exact .inl rfl;exact .inr rfl
end Tr
def j8(l:List aP)(b m:Nat):List aP:=(l.drop b).take m
theorem xi(l:List aP)(b m k:Nat):j8 l b (m+k)=j8 l b m++j8 l (b+m) k:=by
 unfold j8;rw[List.take_add,List.drop_drop]
theorem wa{l:List aP}{b:Nat}(h:b<l.length):j8 l b 1=[l.getD b dN]:=by
 unfold j8;rw[List.drop_eq_getElem_cons h,List.take_succ_cons,List.take_zero,List.getD_eq_getElem?_getD,List.getElem?_eq_getElem h];rfl
theorem LF{l:List aP}{b m:Nat}(h:b+m<=l.length):(j8 l b m).length=m:=by
 unfold j8;simp;omega
def At(l:List aP)(t:Tr)(b:Nat):Prop:=b+t.sz<=l.length/\j8 l b t.sz=t.fl b
theorem V5{l:List aP}{k:Int}{b:Nat}:At l (.c k) b↔b<l.length/\l.getD b dN=(1,(k,(0,0))):=by
 constructor
 ·rintro⟨h1,h2⟩;have h1:=h1;refine⟨h1,?_⟩;have h2:j8 l b 1=[(1,(k,(0,0)))]:=h2;rw[wa h1] at h2;exact(List.cons.inj h2).1
 ·rintro⟨h1,h2⟩;refine⟨h1,?_⟩;show j8 l b 1=[(1,(k,(0,0)))];rw[wa h1,h2]
theorem P0{l:List aP}{a:Tr}{b:Nat}:At l (.n a) b↔At l a b/\b+a.sz<l.length/\l.getD (b+a.sz) dN=(2,(0,(((b+a.sz:Nat):Int)-1,0))):=by
 constructor
 ·rintro⟨h1,h2⟩;have h1:b+(a.sz+1)<=l.length:=h1;have h2:j8 l b (a.sz+1)=a.fl b++[(2,(0,(((b+a.sz:Nat):Int)-1,0)))]:=h2;rw[xi,wa (by omega)] at h2;obtain⟨h3,h4⟩:=List.append_inj h2 (by rw[LF (by omega),Tr.jj]);exact⟨⟨by omega,h3⟩,by omega,(List.cons.inj h4).1⟩
 ·rintro⟨⟨h1,h2⟩,h3,h4⟩;refine⟨by show b+(a.sz+1)<=l.length;omega,?_⟩;show j8 l b (a.sz+1)=a.fl b++[(2,(0,(((b+a.sz:Nat):Int)-1,0)))];rw[xi,wa h3,h2,h4]
theorem X5{l:List aP}{o:Bool}{x y:Tr}{b:Nat}:At l (.b o x y) b↔At l x b/\At l y (b+x.sz)/\b+x.sz+y.sz<l.length/\l.getD (b+x.sz+y.sz) dN=(Tr.kd o,(0,(((b+x.sz:Nat):Int)-1,((b+x.sz+y.sz:Nat):Int)-1))):=by
 constructor
 ·rintro⟨h1,h2⟩;have h1:b+(x.sz+y.sz+1)<=l.length:=h1;have h2:j8 l b (x.sz+y.sz+1)=x.fl b++(y.fl (b+x.sz)++[(Tr.kd o,(0,(((b+x.sz:Nat):Int)-1,((b+x.sz+y.sz:Nat):Int)-1)))]):=h2;rw[Nat.add_assoc x.sz,xi,xi,wa (by omega)] at h2;obtain⟨h3,h4⟩:=List.append_inj h2 (by rw[LF (by omega),Tr.jj]);obtain⟨h5,h6⟩:=List.append_inj h4 (by rw[LF (by omega),Tr.jj]);exact⟨⟨by omega,h3⟩,⟨by omega,h5⟩,by omega,(List.cons.inj h6).1⟩
 ·rintro⟨⟨h1,h2⟩,⟨h3,h4⟩,h5,h6⟩;refine⟨by show b+(x.sz+y.sz+1)<=l.length;omega,?_⟩;show j8 l b (x.sz+y.sz+1)=x.fl b++(y.fl (b+x.sz)++[(Tr.kd o,(0,(((b+x.sz:Nat):Int)-1,((b+x.sz+y.sz:Nat):Int)-1)))]);rw[Nat.add_assoc x.sz,xi,xi,wa h5,h2,h4,h6]
theorem aee(t:Tr):At (t.fl 0) t 0:=by
 refine⟨by rw[Tr.jj];omega,?_⟩;unfold j8;rw[List.drop_zero,List.take_of_length_le (by rw[Tr.jj];omega)]
theorem av9{l:List aP}{t:Tr}(h:At l t 0)(hl:l.length=t.sz):l=t.fl 0:=by
 have:=h.2;unfold j8 at this;rwa [List.drop_zero,List.take_of_length_le (by omega)] at this
theorem Fp(N:Nat){l:List aP}(hl:l.length<=64):∀(t:Tr) (b n:Nat),At l t b->t.wf->t.dp<=n->rr N n l (((b+t.sz:Nat):Int)-1)=some ((b:Int),((t.dp:Int),true))
 | .c k,b,0,_,_,h=>absurd h (by simp[Tr.dp])
 | .n a,b,0,_,_,h=>absurd h (by simp[Tr.dp])
 | .b o x y,b,0,_,_,h=>absurd h (by simp[Tr.dp])
 | .c k,b,n+1,hA,hw,_=>by
  obtain⟨h1,h2⟩:=V5.1 hA;obtain⟨w1,w2⟩:0<=k/\k<64:=hw;have e:((b+(Tr.c k).sz:Nat):Int)-1=(b:Int):=by simp[Tr.sz]
  rw[e,Gs];unfold wv;rw[decide_eq_false (by omega),cond_false,fN (by omega),cond_true,Int.toNat_natCast];dsimp only;rw[h2];simp[w1,w2,Tr.dp]
 | .n a,b,n+1,hA,hw,hn=>by
  obtain⟨h0,h1,h2⟩:=P0.1 hA;have e:((b+(Tr.n a).sz:Nat):Int)-1=((b+a.sz:Nat):Int):=by simp[Tr.sz];omega
  have ih:=Fp N hl a b n h0 hw (by simpa[Tr.dp] using hn);have hd:a.dp<=64:=by have:=a.vo;omega
  rw[e,Gs];unfold wv;rw[decide_eq_false (by omega),cond_false,fN (by omega),cond_true,Int.toNat_natCast];dsimp only;rw[h2,au (by omega) (by omega),ih];simp[Tr.dp,au (n:=(a.dp:Int)+1) (by omega) (by omega)]
 | .b o x y,b,n+1,hA,hw,hn=>by
  obtain⟨h0,h0',h1,h2⟩:=X5.1 hA;have e:((b+(Tr.b o x y).sz:Nat):Int)-1=((b+x.sz+y.sz:Nat):Int):=by simp[Tr.sz];omega
  have hn':max x.dp y.dp<=n:=by simpa[Tr.dp] using hn
  have ih:=Fp N hl y (b+x.sz) n h0' hw.2 (by omega);have ih2:=Fp N hl x b n h0 hw.1 (by omega);have hd:x.dp<=64:=by have:=x.vo;omega
  have hd2:y.dp<=64:=by have:=y.vo;omega
  have em:max (x.dp:Int) (y.dp:Int)=((max x.dp y.dp:Nat):Int):=by omega
  rw[e,Gs];unfold wv;rw[decide_eq_false (by omega),cond_false,fN (by omega),cond_true,Int.toNat_natCast];dsimp only;rw[h2,au (n:=((b+x.sz+y.sz:Nat):Int)-1) (by omega) (by omega),ih];simp only[Option.bind_some];rw[au (n:=((b+x.sz:Nat):Int)-1) (by omega) (by omega),ih2];simp only[Option.bind_some];rw[em,au (n:=((max x.dp y.dp:Nat):Int)+1) (by omega) (by omega)];rcases Tr.an5 o with e | e<;>rw[e]<;>simp[Tr.dp]
def PS(l:List aP)(j:Int)(f d:Int):Prop:=∃(t:Tr) (p:Nat),t.wf/\f=(p:Int)/\d=(t.dp:Int)/\At l t p/\j+1=((p+t.sz:Nat):Int)
theorem PS.bd{l:List aP}{j:Int}{f d:Int}(h:PS l j f d)(hl:l.length<=64):0<=f/\f<=j/\0<=d/\d<=64:=by
 obtain⟨t,p,_,rfl,rfl,⟨h1,_⟩,h2⟩:=h;have:=t.oq;have:=t.vo;omega
theorem PS.cI{l:List aP}{i:Nat}{k:Int}(hi:i<l.length)(h0:0<=k)(h1:k<64)(hv:l.getD i dN=(1,(k,(0,0)))):PS l i i 1:=
 ⟨.c k,i,⟨h0,h1⟩,rfl,rfl,V5.2 ⟨hi,hv⟩,by simp[Tr.sz]⟩
theorem PS.nI{l:List aP}{i:Nat}{f d:Int}(h:PS l ((i:Int)-1) f d)(hi:i<l.length)(hv:l.getD i dN=(2,(0,((i:Int)-1,0)))):PS l i f (d+1):=by
 obtain⟨t,p,h1,h2,h3,h4,h5⟩:=h;have e:i=p+t.sz:=by omega
 refine⟨.n t,p,h1,h2,by rw[h3];simp[Tr.dp],P0.2 ⟨h4,by omega,?_⟩,by simp[Tr.sz];omega⟩;rw[<-e];exact hv
theorem PS.bI{l:List aP}{i:Nat}{f d f2 d2:Int}(o:Bool)(h:PS l ((i:Int)-1) f d)(h':PS l (f-1) f2 d2)(hi:i<l.length)(hv:l.getD i dN=(Tr.kd o,(0,(f-1,(i:Int)-1)))):PS l i f2 (max d2 d+1):=by
 obtain⟨y,p,h1,h2,h3,h4,h5⟩:=h;obtain⟨x,p2,g1,g2,g3,g4,g5⟩:=h';have e:i=p+y.sz:=by omega
 have e2:p=p2+x.sz:=by omega
 refine⟨.b o x y,p2,⟨g1,h1⟩,g2,?_,X5.2 ⟨g4,e2▸h4,by omega,?_⟩,by simp[Tr.sz];omega⟩
 ·rw[g3,h3];simp only[Tr.dp];omega
 ·rw[<-e2,<-e,hv,h2]
theorem K1(N:Nat){l:List aP}(hl:l.length<=64):∀(n:Nat) (j:Int),-1<=j->j<l.length->j+1<n->n<=1000000000000000->∃f d ok,rr N n l j=some (f,(d,ok))/\(0<=f/\f<=64/\0<=d/\d<=n)/\(ok=true->PS l j f d):=by
 intro n;induction n with
 | zero=>intro j h0 h1 h2;omega
 | succ n ih=>
  intro j h0 h1 h2 h3;rw[Gs];unfold wv;by_cases hj:j<0
  ·rw[decide_eq_true hj,cond_true];exact⟨0,0,false,rfl,by omega,fun h=>by cases h⟩
  ·obtain⟨i,rfl⟩:∃i:Nat,j=i:=⟨j.toNat,by omega⟩;rw[decide_eq_false hj,cond_false,fN (by omega),cond_true,Int.toNat_natCast];dsimp only;generalize hv:l.getD i dN=v;obtain⟨kd,k,lf,rg⟩:=v;dsimp only;rw[au (by omega) (by omega)];obtain⟨f,d,ok,e,hb,hs⟩:=ih ((i:Int)-1) (by omega) (by omega) (by omega) (by omega);rw[e];simp only[Option.bind_some];rw[au (n:=d+1) (by omega) (by omega)];by_cases k1:kd=1
   ·subst k1;have e1:((1:Int)==1)=true:=rfl;rw[e1,cond_true];by_cases q1:lf=0
    ·by_cases q2:rg=0
     ·by_cases q3:k>=0
      ·subst q1;subst q2;rw[show((0:Int)==0)=true from rfl,cond_true,cond_true,decide_eq_true q3,cond_true];exact⟨i,1,_,rfl,by omega,fun h=>PS.cI (by omega) q3 (of_decide_eq_true h) hv⟩
      ·subst q1;subst q2;rw[show((0:Int)==0)=true from rfl,cond_true,cond_true,decide_eq_false q3,cond_false];exact⟨i,1,_,rfl,by omega,fun h=>by cases h⟩
     ·subst q1;rw[show((0:Int)==0)=true from rfl,cond_true,beq_false_of_ne q2,cond_false];exact⟨i,1,_,rfl,by omega,fun h=>by cases h⟩
    ·rw[beq_false_of_ne q1,cond_false];exact⟨i,1,_,rfl,by omega,fun h=>by cases h⟩
   ·rw[beq_false_of_ne k1,cond_false];by_cases k2:kd=2
    ·subst k2;rw[show((2:Int)==2)=true from rfl,cond_true];cases ok with
     | false=>exact⟨f,d+1,false,rfl,by omega,fun h=>by cases h⟩
     | true=>
      rw[cond_true];by_cases q1:k=0
      ·by_cases q2:rg=0
       ·subst q1;subst q2;refine⟨f,d+1,_,rfl,by omega,fun h=>?_⟩;have h:=eq_of_beq h;subst h;exact(hs rfl).nI (by omega) hv
       ·subst q1;rw[show((0:Int)==0)=true from rfl,cond_true,beq_false_of_ne q2,cond_false];exact⟨f,d+1,_,rfl,by omega,fun h=>by cases h⟩
      ·rw[beq_false_of_ne q1,cond_false];exact⟨f,d+1,_,rfl,by omega,fun h=>by cases h⟩
    ·rw[beq_false_of_ne k2,cond_false];have two:∀(o:Bool),kd=Tr.kd o->∃f' d' ok',(bif(!ok) then some ((0:Int),((0:Int),false)) else bif(k !=0) then some (0,(0,false)) else bif(rg !=(i:Int)-1) then some (0,(0,false)) else bif(lf !=(W (f-1))) then some (0,(0,false)) else
       Option.bind (rr N n l (W (f-1))) fun r4=>some (r4.1,((W ((max r4.2.1 d)+1)),r4.2.2)))=some (f',(d',ok'))/\(0<=f'/\f'<=64/\0<=d'/\d'<=(n+1:Nat))/\(ok'=true->PS l i f' d'):=by
      intro o ho;cases ok with
      | false=>exact⟨0,0,false,rfl,by omega,fun h=>by cases h⟩
      | true=>
       have hps:=hs rfl;have hbd:=hps.bd hl;rw[Bool.not_true,cond_false];by_cases q1:k=0
       ·by_cases q2:rg=(i:Int)-1
        ·rw[au (by omega) (by omega)];by_cases q3:lf=f-1
         ·subst q1;subst q2;subst q3;obtain⟨f2,d2,ok2,e2,hb2,hs2⟩:=ih (f-1) (by omega) (by omega) (by omega) (by omega);rw[show((0:Int) !=0)=false from rfl,cond_false,bne_self_eq_false,cond_false,bne_self_eq_false,cond_false,e2];simp only[Option.bind_some];rw[au (by omega) (by omega)];exact⟨f2,max d2 d+1,ok2,rfl,by omega,fun h=>hps.bI o (hs2 h) (by omega) (by rw[hv,ho])⟩
         ·subst q1;subst q2;rw[show((0:Int) !=0)=false from rfl,cond_false,bne_self_eq_false,cond_false,bne_iff_ne.2 q3,cond_true];exact⟨0,0,false,rfl,by omega,fun h=>by cases h⟩
        ·subst q1;rw[show((0:Int) !=0)=false from rfl,cond_false,bne_iff_ne.2 q2,cond_true];exact⟨0,0,false,rfl,by omega,fun h=>by cases h⟩
       ·rw[bne_iff_ne.2 q1,cond_true];exact⟨0,0,false,rfl,by omega,fun h=>by cases h⟩
     by_cases k3:kd=3
     ·subst k3;rw[show((3:Int)==3)=true from rfl,cond_true];exact two false rfl
     ·rw[beq_false_of_ne k3,cond_false];by_cases k4:kd=4
      ·subst k4;rw[show((4:Int)==4)=true from rfl,cond_true];exact two true rfl
      ·rw[beq_false_of_ne k4,cond_false];exact⟨0,0,false,rfl,by omega,fun h=>by cases h⟩
def Good(t:Tr):Prop:=t.wf/\t.dp<=16/\t.sz<=64
def Rt(l:List aP):Prop:=∃t,Good t/\l=t.fl 0
theorem aqo{N:Nat}(hN:66<=N)(hN2:N<=1000000000000000)(l:List aP):∃r,xp N l=some r/\(r=true↔Rt l):=by
 unfold xp;by_cases h1:(l.length:Int)<1
 ·rw[decide_eq_true h1,cond_true];refine⟨false,rfl,(fun h=>by cases h),?_⟩;rintro⟨t,_,rfl⟩;have:=t.oq;rw[Tr.jj] at h1;omega
 ·rw[decide_eq_false h1,cond_false];by_cases h2:(l.length:Int)>64
  ·rw[decide_eq_true h2,cond_true];refine⟨false,rfl,(fun h=>by cases h),?_⟩;rintro⟨t,⟨_,_,h⟩,rfl⟩;rw[Tr.jj] at h2;omega
  ·rw[decide_eq_false h2,cond_false,au (by omega) (by omega)];unfold Kw;obtain⟨f,d,ok,e,hb,hs⟩:=K1 N (l:=l) (by omega) N ((l.length:Int)-1) (by omega) (by omega) (by omega) (by omega);rw[e];simp only[Option.bind_some];have back:Rt l->ok=true/\f=0/\d<=16:=by
    rintro⟨t,⟨g1,g2,g3⟩,hl⟩;have hA:At l t 0:=by rw[hl];exact aee t
    have hsz:l.length=t.sz:=by rw[hl,Tr.jj]
    have:=Fp N (by omega) t 0 N hA g1 (by omega);rw[show(((0+t.sz:Nat):Int)-1)=(l.length:Int)-1 by omega,e] at this;simp only[Option.some.injEq,Prod.mk.injEq] at this;exact⟨this.2.2,by omega,by omega⟩
   cases ok with
   | false=>exact⟨false,rfl,(fun h=>by cases h),fun h=>(back h).1⟩
   | true=>
    rw[cond_true];by_cases q:f=0
    ·subst q;rw[show((0:Int)==0)=true from rfl,cond_true];refine⟨_,rfl,fun h=>?_,fun h=>decide_eq_true (back h).2.2⟩;have h:=of_decide_eq_true h;obtain⟨t,p,w1,w2,w3,w4,w5⟩:=hs rfl;obtain rfl:p=0:=by omega
     exact⟨t,⟨w1,by omega,by omega⟩,av9 w4 (by omega)⟩
    ·rw[beq_false_of_ne q,cond_false];exact⟨false,rfl,(fun h=>by cases h),fun h=>absurd (back h).2.1 q⟩
def Tr.cw(c:Int):Tr->Prop
 | .c k=>0<=k/\k<c
 | .n a=>a.cw c
 | .b _ x y=>x.cw c/\y.cw c
theorem Tr.G9{c:Int}(hc:c<=64):∀{t:Tr},t.cw c->t.wf
 | .c k,h=>⟨h.1,by have:=h.2;omega⟩
 | .n a,h=>G9 hc (t:=a) h
 | .b _ x y,h=>⟨G9 hc (t:=x) h.1,G9 hc (t:=y) h.2⟩
def sh(m:Nat)(x:aP):aP:=(x.1,(x.2.1,((if x.1=1 then x.2.2.1 else x.2.2.1+(m:Int)),(if x.1=3\/x.1=4 then x.2.2.2+(m:Int) else x.2.2.2))))
theorem Gv(m:Nat):∀(t:Tr) (p:Nat),(t.fl p).map (sh m)=t.fl (p+m)
 | .c k,p=>by simp[Tr.fl,sh]
 | .n a,p=>by
  simp only[Tr.fl,List.map_append,Gv m a p,List.map_cons,List.map_nil];congr 2
  simp[sh];omega
 | .b o x y,p=>by
  simp only[Tr.fl,List.map_append,Gv m x p,Gv m y (p+x.sz),List.map_cons,List.map_nil];rw[show p+m+x.sz=p+x.sz+m by omega];congr 3
  cases o<;>simp[sh,Tr.kd]<;>omega
def Nb(x:aP):Prop:=0<=x.2.2.1/\x.2.2.1<=1000/\0<=x.2.2.2/\x.2.2.2<=1000
theorem FG:∀(t:Tr) (p:Nat),p+t.sz<=1000->∀x∈t.fl p,Nb x
 | .c k,p,h,x,hx=>by
  rw[Tr.fl,List.mem_singleton] at hx;subst hx;exact⟨by simp,by simp,by simp,by simp⟩
 | .n a,p,h,x,hx=>by
  simp only[Tr.sz] at h;have hs:=a.oq;rw[Tr.fl,List.mem_append,List.mem_singleton] at hx;rcases hx with hx | rfl
  ·exact FG a p (by omega) x hx
  ·unfold Nb;dsimp only;omega
 | .b o y z,p,h,x,hx=>by
  simp only[Tr.sz] at h;have hs:=y.oq;have hs':=z.oq;rw[Tr.fl,List.mem_append,List.mem_append,List.mem_singleton] at hx;rcases hx with hx | hx | rfl
  ·exact FG y p (by omega) x hx
  ·exact FG z _ (by omega) x hx
  ·unfold Nb;dsimp only;omega
theorem Ww{α:Type}(done rest:List α)(x d:α):(done++x::rest).getD done.length d=x:=by simp
theorem L5{α:Type}(done rest:List α)(x y:α):(done++x::rest).set done.length y=done++y::rest:=by simp
theorem XG(N:Nat)(self:aB->Int->Int->Option ((List aP)×aB))(c1:List Int)(c2:Int)(a:List aP)(ha:a.length<=1000):∀(rest done:List aP) (n:Nat),(done++rest).length<=1000->(∀x∈rest,Nb x)->
  nj N self (n+rest.length) (done.length:Int) c1 c2 a (done++rest)=nj N self n ((done++rest).length:Int) c1 c2 a (done++rest.map (sh a.length))
 | [],done,n,_,_=>by simp
 | x::rest,done,n,hl,hx=>by
  have ih:=fun y:aP=>XG N self c1 c2 a ha rest (done++[y]) n (by simp at hl ⊢;omega) (fun z hz=>hx z (List.mem_cons_of_mem _ hz));simp only[List.append_assoc,List.singleton_append,List.length_append,List.length_cons,List.length_nil,Nat.zero_add] at ih;have hlen:(done++x::rest).length=done.length+(rest.length+1):=by simp
  have hlen2:∀y,(done++y::rest).length=done.length+(rest.length+1):=fun y=>by simp
  rw[hlen] at hl;obtain⟨b1,b2,b3,b4⟩:=hx x (List.mem_cons_self ..);rw[show n+(x::rest).length=n+rest.length+1 by simp;omega,RF,hlen,decide_eq_true (by omega),cond_true,fN (by omega),cond_true,Int.toNat_natCast,Ww];have e1:W ((done.length:Int)+1)=((done.length+1:Nat):Int):=by rw[au (by omega) (by omega)];omega
  have fin:∀y,y=sh a.length x->nj N self (n+rest.length) (W ((done.length:Int)+1)) c1 c2 a (done++y::rest)=nj N self n ((done.length+(rest.length+1):Nat):Int) c1 c2 a (done++(x::rest).map (sh a.length)):=fun y hy=>by
   rw[e1,ih y,hy,List.map_cons]
  obtain⟨kd,k,lf,rg⟩:=x;simp only at b1 b2 b3 b4;dsimp only;by_cases k1:kd=1
  ·subst k1;rw[show((1:Int) !=1)=false from rfl,cond_false,cond_true,show((1:Int)==3)=false from rfl,cond_false,cond_true,show((1:Int)==4)=false from rfl,cond_false];exact fin _ (by simp[sh])
  ·rw[bne_iff_ne.2 k1,cond_true,cond_true,cond_true,au (n:=lf+(a.length:Int)) (by omega) (by omega),L5,hlen2,fN (by omega),cond_true,Ww];dsimp only;by_cases k3:kd=3
   ·subst k3;rw[show((3:Int)==3)=true from rfl,cond_true,cond_true,cond_true,au (n:=rg+(a.length:Int)) (by omega) (by omega),L5];exact fin _ (by simp[sh])
   ·rw[beq_false_of_ne k3,cond_false,cond_true];by_cases k4:kd=4
    ·subst k4;rw[show((4:Int)==4)=true from rfl,cond_true,cond_true,cond_true,au (n:=rg+(a.length:Int)) (by omega) (by omega),L5];exact fin _ (by simp[sh])
    ·rw[beq_false_of_ne k4,cond_false];exact fin _ (by simp[sh,k1,k3,k4])
theorem abt(k:Nat)(h:k<=5):2 ^ (k+1)<=64:=by
 have:k=0\/k=1\/k=2\/k=3\/k=4\/k=5:=by omega
 rcases this with rfl | rfl | rfl | rfl | rfl | rfl<;>decide
theorem at3{N:Nat}(hN:66<=N){c:Int}(hc:1<=c)(hc2:c<=64):∀(k n:Nat) (d:aB),Cd d->k<n->k<=5->∃(t:Tr) (d':aB),tG N n d c (k:Int)=some (t.fl 0,d')/\t.cw c/\t.dp<=k+1/\t.sz+1<=2 ^ (k+1)/\Cd d':=by
 have leaf:∀(k:Nat) (d:aB),Cd d->∃(t:Tr) (d':aB),(Option.bind (cE N d c) fun r1=>some ([(1,(r1.1,(0,0)))],r1.2))=some (Tr.fl t 0,d')/\t.cw c/\t.dp<=k+1/\t.sz+1<=2 ^ (k+1)/\Cd d':=fun k d hd=>by
  obtain⟨v,d',e,h1,h2,h3⟩:=s5 (N:=N) (by omega) hd (n:=c) (by omega);rw[e,bH];refine⟨.c v,d',rfl,⟨h1,by omega⟩,by simp[Tr.dp],?_,h3⟩;have:2 ^ (k+1)=2 ^ k*2:=Nat.pow_succ ..;have:=Nat.one_le_two_pow (n:=k);simp only[Tr.sz];omega
 intro k;induction k with
 | zero=>
  intro n d hd hn _;obtain⟨n',rfl⟩:∃n',n=n'+1:=⟨n-1,by omega⟩;rw[Uy];unfold Hl;rw[decide_eq_true (by omega),cond_true];exact leaf 0 d hd
 | succ k ih=>
  intro n d hd hn hk;obtain⟨n',rfl⟩:∃n',n=n'+1:=⟨n-1,by omega⟩;rw[Uy];unfold Hl;rw[decide_eq_false (by omega),cond_false];obtain⟨v,d1,e1,_,_,hd1⟩:=s5 (N:=N) (by omega) hd (n:=3) (by omega);rw[e1,bH];dsimp only;by_cases hv:v=0
  ·subst hv;rw[show((0:Int)==0)=true from rfl,cond_true];exact leaf (k+1) d1 hd1
  ·rw[beq_false_of_ne hv,cond_false];obtain⟨M',rfl⟩:∃M',N=M'+1:=⟨N-1,by omega⟩;have hp:2 ^ (k+1+1)=2 ^ (k+1)*2:=Nat.pow_succ ..;have hp1:=Nat.one_le_two_pow (n:=k+1);have hp2:=abt k (by omega);rw[avm,show((d1.1,d1.2):aB)=d1 from rfl,show W (((k+1:Nat):Int)-1)=(k:Int) by rw[au (by omega) (by omega)];omega];obtain⟨x,d2,e2,x1,x2,x3,hd2⟩:=ih n' d1 hd1 (by omega) (by omega);rw[e2,bH];obtain⟨b,d3,e3,hd3⟩:=SM (N:=M'+1) (by omega) hd2 (n:=4) (by omega);dsimp only;rw[e3,bH]
   have hx:=x.jj 0;have hxp:=x.oq;cases b with
   | true=>
    dsimp only;rw[cond_true,nB (by omega),cond_true,au (by omega) (by omega)];refine⟨.n x,d3,?_,x1,by simp only[Tr.dp];omega,by simp only[Tr.sz];omega,hd3⟩;simp only[Tr.fl];rw[hx,Nat.zero_add]
   | false=>
    dsimp only;rw[cond_false];obtain⟨y,d4,e4,y1,y2,y3,hd4⟩:=ih n' d3 hd3 (by omega) (by omega);rw[e4,bH];dsimp only;have hy:=y.jj 0;have hyp:=y.oq;have:=XG (M'+1) (tG (M'+1) n') d4.1 d4.2 (x.fl 0) (by omega) (y.fl 0) [] (M'+1-y.sz) (by simp;omega) (FG y 0 (by omega));rw[hy,show M'+1-y.sz+y.sz=M'+1 by omega] at this;simp only[List.nil_append,List.length_nil] at this;rw[show((0:Nat):Int)=0 from rfl] at this;rw[this,Gv,hx,hy,Nat.zero_add];obtain⟨n2,hn2⟩:∃n2,M'+1-y.sz=n2+1:=⟨M'-y.sz,by omega⟩
    have hyl:=y.jj x.sz;rw[hn2,RF,decide_eq_false (by omega),cond_false,nB (by omega),cond_true];obtain⟨w,d5,e5,w1,w2,hd5⟩:=xe (N:=M'+1) (by omega) hd4 (a:=3) (b:=4) (by omega) (by omega) (by omega);rw[show((d4.1,d4.2):aB)=d4 from rfl,e5,bH];dsimp only;rw[nB (by rw[List.length_append];omega),cond_true,hx,hyl,au (n:=(x.sz:Int)-1) (by omega) (by omega),au (n:=(x.sz:Int)+(y.sz:Int)) (by omega) (by omega),au (n:=(x.sz:Int)+(y.sz:Int)-1) (by omega) (by omega)]
    have hw:w=3\/w=4:=by omega
    have key:∀o,w=Tr.kd o->∃(t:Tr) (d':aB),some ((x.fl 0++y.fl x.sz++[(w,(0,((x.sz:Int)-1,(x.sz:Int)+(y.sz:Int)-1)))],d5):List aP×aB)=some (Tr.fl t 0,d')/\t.cw c/\t.dp<=k+1+1/\t.sz+1<=2 ^ (k+1+1)/\Cd d':=fun o ho=>by
     refine⟨.b o x y,d5,?_,⟨x1,y1⟩,by simp only[Tr.dp];omega,by simp only[Tr.sz];omega,hd5⟩;simp only[Tr.fl,Nat.zero_add,List.append_assoc];rw[ho,show(((x.sz+y.sz:Nat):Int))=(x.sz:Int)+(y.sz:Int) by omega]
    rcases hw with h | h
    ·exact key false h
    ·exact key true h
end
noncomputable section
theorem jI{α:Type}(d:α)(l:List α)(p:α)(j:Nat):(l++[p]).getD j d=if j<l.length then l.getD j d else if j=l.length then p else d:=by
 rw[List.getD_eq_getElem?_getD,List.getD_eq_getElem?_getD,List.getElem?_append];by_cases h:j<l.length
 ·rw[if_pos h,if_pos h]
 ·rw[if_neg h,if_neg h];by_cases e:j=l.length
  ·subst e;simp
  ·rw[if_neg e,List.getElem?_eq_none (by simp;omega)];rfl
theorem jh{α:Type}(d:α)(l:List α)(k:Nat)(p:α)(j:Nat):(l.set k p).getD j d=if k=j/\j<l.length then p else l.getD j d:=by
 rw[List.getD_eq_getElem?_getD,List.getD_eq_getElem?_getD,List.getElem?_set];by_cases h:k=j
 ·subst h;by_cases e:k<l.length
  ·simp[e]
  ·simp[e]
 ·rw[if_neg h,if_neg (fun q=>h q.1)]
theorem Qj{N:Nat}(hN:0<N){l:List aJ}(h:fW l)(a:Int)(b c:Bool):∀(n m k:Nat),m+k=l.length->m<n->Bd N n l l.length k a b c l=some 0
 | n+1,0,k,hk,hn=>by
  rw[VH,df (by omega)]
 | n+1,m+1,k,hk,hn=>by
  obtain⟨M,rfl⟩:∃M,N=M+1:=⟨N-1,by omega⟩;have hl:=h.l2;obtain⟨o1,o2,o3,o4⟩:=h.ok k (by omega);rw[VH,dt (by omega),fN (by omega),cond_true,ayo,Int.toNat_natCast];unfold pt at o1 o2 o3 o4;rw[df (by omega),df (by omega),df (by omega),df (by omega),au (n:=(k:Int)+1) (by omega) (by omega),show(k:Int)+1=((k+1:Nat):Int) by omega];have ih:=Qj (by omega) h a b c n m (k+1) (by omega) (by omega);by_cases c5:(k:Int)>0
  ·obtain⟨s1,s2⟩:=h.st (k-1) (by omega);unfold pt at s1 s2;rw[show k-1+1=k by omega] at s1 s2;rw[dt c5,au (n:=(k:Int)-1) (by omega) (by omega),fN (by omega),cond_true,cond_true,show((k:Int)-1).toNat=k-1 by omega,df (by omega),df (by omega)];exact ih
  ·rw[df c5];exact ih
theorem ak0{N:Nat}(hN:1000<=N){a:Int}{b c:Bool}{l:List aJ}(ha:0<=a)(h:fW l):zY N (a,b,c,l)=some 0:=by
 unfold zY;have h1:=h.l1;have h2:=h.l2;simp only;rw[df (by omega),df (by omega),df (by omega)];exact Qj (by omega) h a b c N l.length 0 rfl (by omega)
end
noncomputable section
def P{α:Type}(o:Option α)(Q:α->Prop):Prop:=∃a,o=some a/\Q a
section
variable {α β:Type} {Q:β->Prop} {R:α->Prop}
theorem P.some{a:β}(h:Q a):P (some a) Q:=⟨a,rfl,h⟩
theorem P.call{o:Option α}{f:α->Option β}(h:P o R)(g:∀a,R a->P (f a) Q):P (Option.bind o f) Q:=by
 obtain⟨a,rfl,h⟩:=h;exact g a h
theorem P.mono{o:Option α}{S:α->Prop}(h:P o R)(g:∀a,R a->S a):P o S:=by
 obtain⟨a,e,h⟩:=h;exact⟨a,e,g a h⟩
theorem P.dec{p:Prop}{i:Decidable p}{x y:Option β}(h1:p->P x Q)(h2:¬p->P y Q):P (bif decide p then x else y) Q:=by
 by_cases h:p
 ·rw[decide_eq_true h];exact h1 h
 ·rw[decide_eq_false h];exact h2 h
theorem P.beq{a b:Int}{x y:Option β}(h1:a=b->P x Q)(h2:a≠b->P y Q):P (bif a==b then x else y) Q:=by
 by_cases h:a=b
 ·rw[R3 h];exact h1 h
 ·rw[MI h];exact h2 h
theorem P.bne{a b:Int}{x y:Option β}(h1:a≠b->P x Q)(h2:a=b->P y Q):P (bif a !=b then x else y) Q:=by
 by_cases h:a=b
 ·rw[show(a !=b)=false by simp[h]];exact h2 h
 ·rw[show(a !=b)=true by simp[h]];exact h1 h
theorem P.bool{c:Bool}{x y:Option β}(h1:c=true->P x Q)(h2:c=false->P y Q):P (bif c then x else y) Q:=by
 cases c
 ·exact h2 rfl
 ·exact h1 rfl
theorem P.not{c:Bool}{x y:Option β}(h1:c=false->P x Q)(h2:c=true->P y Q):P (bif !c then x else y) Q:=by
 cases c
 ·exact h1 rfl
 ·exact h2 rfl
theorem P.aA{i:Int}{n:Nat}{x y:Option β}(h:0<=i/\i<n)(g:P x Q):P (bif ae i n then x else y) Q:=by rw[fN h];exact g
theorem P.fits{n b:Nat}{x y:Option β}(h:n<=100000000)(hb:b<=1000)(g:P x Q):P (bif ba n b then x else y) Q:=by
 have:n*b<=100000000*1000:=Nat.mul_le_mul h hb;rw[nB (by omega)];exact g
theorem P.mk{b:Nat}{l:Int}{x y:Option β}(h:0<=l/\l<=100000000)(hb:b<=1000)(g:P x Q):P (bif eH b l l then x else y) Q:=by
 have h1:(b:Int)*l<=1000*100000000:=Int.mul_le_mul (by omega) h.2 h.1 (by omega);rw[vc (by omega)];exact g
theorem P.sl{a b:Int}{n:Nat}{x y:Option β}(h:0<=a/\a<=b/\b<=n)(g:P x Q):P (bif gz a b n then x else y) Q:=by rw[Mf h];exact g
theorem P.eq{o:Option β}{a:β}(h:o=Option.some a)(g:Q a):P o Q:=⟨a,h,g⟩
theorem P.bind{o:Option α}{f:α->Option β}{a:α}(h:o=Option.some a)(g:P (f a) Q):P (Option.bind o f) Q:=by rw[h];exact g
end
abbrev tt{α:Type}:α->Prop:=fun _=>True
theorem Q6(r:eT)(t:Int):P (BQ 1000 r t) tt:=by
 unfold BQ;repeat' first | with_reducible (first | refine P.aA ?_ ?_ | refine P.fits ?_ (by decide) ?_ | refine P.mk ?_ (by decide) ?_ | refine P.sl ?_ ?_ | exact P.some trivial | exact P.some rfl | refine P.dec ?_ ?_ | refine P.beq ?_ ?_ | refine P.bne ?_ ?_ | refine P.not ?_ ?_ | refine P.bool ?_ ?_ | intro hw) | omega
theorem OH(s:aJ)(t:Int):P (yb 1000 s t) tt:=by
 unfold yb;repeat' first | with_reducible (first | refine P.aA ?_ ?_ | refine P.fits ?_ (by decide) ?_ | refine P.mk ?_ (by decide) ?_ | refine P.sl ?_ ?_ | exact P.some trivial | exact P.some rfl | refine P.dec ?_ ?_ | refine P.beq ?_ ?_ | refine P.bne ?_ ?_ | refine P.not ?_ ?_ | refine P.bool ?_ ?_ | intro hw) | omega
theorem amr(t:Int):P (Fb 1000 t) tt:=by
 unfold Fb;repeat' first | with_reducible (first | refine P.aA ?_ ?_ | refine P.fits ?_ (by decide) ?_ | refine P.mk ?_ (by decide) ?_ | refine P.sl ?_ ?_ | exact P.some trivial | exact P.some rfl | refine P.dec ?_ ?_ | refine P.beq ?_ ?_ | refine P.bne ?_ ?_ | refine P.not ?_ ?_ | refine P.bool ?_ ?_ | intro hw) | omega
theorem abp(a:cB)(b:bt)(c:aJ):P (Fo 1000 a b c) tt:=by
 unfold Fo;repeat' first | with_reducible (first | refine P.aA ?_ ?_ | refine P.fits ?_ (by decide) ?_ | refine P.mk ?_ (by decide) ?_ | refine P.sl ?_ ?_ | exact P.some trivial | exact P.some rfl | refine P.dec ?_ ?_ | refine P.beq ?_ ?_ | refine P.bne ?_ ?_ | refine P.not ?_ ?_ | refine P.bool ?_ ?_ | refine P.call (OH _ _) (fun r hr=>?_) | intro hw) | omega
theorem Yz(a:aJ):P (Ed 1000 a) tt:=by
 unfold Ed;repeat' first | with_reducible (first | refine P.aA ?_ ?_ | refine P.fits ?_ (by decide) ?_ | refine P.mk ?_ (by decide) ?_ | refine P.sl ?_ ?_ | exact P.some trivial | exact P.some rfl | refine P.dec ?_ ?_ | refine P.beq ?_ ?_ | refine P.bne ?_ ?_ | refine P.not ?_ ?_ | refine P.bool ?_ ?_ | intro hw) | omega
theorem YF(a:aJ)(b:Int):P (DG 1000 a b) tt:=by
 unfold DG;repeat' first | with_reducible (first | refine P.aA ?_ ?_ | refine P.fits ?_ (by decide) ?_ | refine P.mk ?_ (by decide) ?_ | refine P.sl ?_ ?_ | exact P.some trivial | exact P.some rfl | refine P.dec ?_ ?_ | refine P.beq ?_ ?_ | refine P.bne ?_ ?_ | refine P.not ?_ ?_ | refine P.bool ?_ ?_ | intro hw) | omega
theorem aw0(a:aJ):P (It 1000 a) tt:=by
 unfold It;repeat' first | with_reducible (first | refine P.aA ?_ ?_ | refine P.fits ?_ (by decide) ?_ | refine P.mk ?_ (by decide) ?_ | refine P.sl ?_ ?_ | exact P.some trivial | exact P.some rfl | refine P.dec ?_ ?_ | refine P.beq ?_ ?_ | refine P.bne ?_ ?_ | refine P.not ?_ ?_ | refine P.bool ?_ ?_ | intro hw) | omega
theorem ac1(a:Int):P (A4 1000 a) tt:=by
 unfold A4;repeat' first | with_reducible (first | refine P.aA ?_ ?_ | refine P.fits ?_ (by decide) ?_ | refine P.mk ?_ (by decide) ?_ | refine P.sl ?_ ?_ | exact P.some trivial | exact P.some rfl | refine P.dec ?_ ?_ | refine P.beq ?_ ?_ | refine P.bne ?_ ?_ | refine P.not ?_ ?_ | refine P.bool ?_ ?_ | intro hw) | omega
theorem Z4(r:aR)(s:aJ)(a b:Int):P (Ff 1000 r s a b) tt:=by
 unfold Ff;dsimp only;repeat' first | with_reducible (first | refine P.aA ?_ ?_ | refine P.fits ?_ (by decide) ?_ | refine P.mk ?_ (by decide) ?_ | refine P.sl ?_ ?_ | exact P.some trivial | exact P.some rfl | refine P.dec ?_ ?_ | refine P.beq ?_ ?_ | refine P.bne ?_ ?_ | refine P.not ?_ ?_ | refine P.bool ?_ ?_ | refine P.call (aw0 _) (fun r hr=>?_) | intro hw) | omega
theorem pL:P (kL 1000) tt:=P.some trivial
theorem ax8(s:bJ)(k:Int):P (FE 1000 s k) tt:=by
 unfold FE;repeat' first | with_reducible (first | refine P.aA ?_ ?_ | refine P.fits ?_ (by decide) ?_ | refine P.mk ?_ (by decide) ?_ | refine P.sl ?_ ?_ | exact P.some trivial | exact P.some rfl | refine P.dec ?_ ?_ | refine P.beq ?_ ?_ | refine P.bne ?_ ?_ | refine P.not ?_ ?_ | refine P.bool ?_ ?_ | refine P.call (pL) (fun r hr=>?_) | refine P.call (ac1 _) (fun r hr=>?_) | intro hw) | rw[akz] | rw[acs] | omega
theorem ah2(a b:Int)(l:List Int)(hl:l.length<=900):∀(f:Nat) (k:Int),0<=k->l.length<f+k->k<=l.length->P (Bm 1000 f a b l l.length k) tt:=by
 intro f;induction f with
 | zero=>intros;omega
 | succ f ih=>
  intros;rw[QU];try simp(disch:=omega) only[au]
  repeat' first | with_reducible (first | refine P.aA ?_ ?_ | refine P.fits ?_ (by decide) ?_ | refine P.mk ?_ (by decide) ?_ | refine P.sl ?_ ?_ | exact P.some trivial | exact P.some rfl | refine P.dec ?_ ?_ | refine P.beq ?_ ?_ | refine P.bne ?_ ?_ | refine P.not ?_ ?_ | refine P.bool ?_ ?_ | apply ih | intro hw) | omega
theorem awq(a b:Int)(l:List Int)(hl:l.length<=900):P (pH 1000 a b l) tt:=by
 unfold pH;exact ah2 a b l hl 1000 0 (by omega) (by omega) (by omega)
theorem XB(s:bJ):P (su 1000 s) tt:=by
 unfold su;repeat' first | with_reducible (first | refine P.aA ?_ ?_ | refine P.fits ?_ (by decide) ?_ | refine P.mk ?_ (by decide) ?_ | refine P.sl ?_ ?_ | exact P.some trivial | exact P.some rfl | refine P.dec ?_ ?_ | refine P.beq ?_ ?_ | refine P.bne ?_ ?_ | refine P.not ?_ ?_ | refine P.bool ?_ ?_ | refine P.call (awq _ _ _ ?_) (fun r hr=>?_) | intro hw) | exact Nat.le_of_ble_eq_true rfl | omega
end
noncomputable section
abbrev Z0(e:Int):Prop:=e=0
def Mw(l:List Int):Prop:=2<=l.length/\l.length<=6/\∀i,i<l.length->0<=l.getD i 0/\l.getD i 0<=262144/\∀j,j+1=i->l.getD i 0<l.getD j 0
def Vd(n:Nat)(x:bu):Prop:=(0<=x.1/\x.1<n)/\x.2.1=-1/\Mw x.2.2
def Vf(n:Nat)(x:bC):Prop:=(0<=x.1/\x.1<n)/\fW x.2.2.2
structure Va (a:bQ):Prop where
 m:Vm a.1
 fn:a.2.1.length<=8
 dn:a.2.2.length<=16
 f:∀x,x∈a.2.1->Vf a.1.2.length x
 d:∀x,x∈a.2.2->Vd a.1.2.length x
theorem au7(n1:Nat)(l l2:List bu)(i i2 ln:Int){rs:List Int}(h:Mw rs)(road:Int)(hR:P (xK 1000 n1 l l2 ln (W (i2+1))) Z0):∀(f:Nat) (k:Int),0<=k->rs.length<f+k->k<=rs.length->P (xL 1000 n1 f l i true l2 ln i2 rs rs.length k road (-1) rs) Z0:=by
 intro f;induction f with
 | zero=>intros;omega
 | succ f ih=>
  intro k h0 h1 h2;have hd:=h.2.2 k.toNat;have h6:=h.2.1;rw[axz,au (by omega) (by omega),au (by omega) (by omega)];repeat' first | with_reducible (first | refine P.aA ?_ ?_ | refine P.fits ?_ (by decide) ?_ | refine P.mk ?_ (by decide) ?_ | refine P.sl ?_ ?_ | exact P.some trivial | exact P.some rfl | refine P.dec ?_ ?_ | refine P.beq ?_ ?_ | refine P.bne ?_ ?_ | refine P.not ?_ ?_ | refine P.bool ?_ ?_ | apply ih | exact hR | contradiction | intro hw) | omega
  rw[decide_eq_true ((hd (by omega)).2.2 (k-1).toNat (by omega))];apply ih<;>omega
theorem ayl{n:Nat}{l:List bu}(h:∀x,x∈l->Vd n x)(hl:l.length<=16):∀(f:Nat) (k:Int),0<=k->l.length<f+k->k<=l.length->P (xK 1000 f l l l.length k) Z0:=by
 intro f;induction f with
 | zero=>intros;omega
 | succ f ih=>
  intro k h0 h1 h2;rw[ads];refine P.dec (fun hk=>?_) (fun _=>P.some rfl);obtain⟨v1,v2,v3⟩:=h _ (dU iZ (show k.toNat<l.length by omega));have h3:=v3.1;have h6:=v3.2.1;repeat' first | with_reducible (first | refine P.aA ?_ ?_ | refine P.fits ?_ (by decide) ?_ | refine P.mk ?_ (by decide) ?_ | refine P.sl ?_ ?_ | exact P.some trivial | exact P.some rfl | refine P.dec ?_ ?_ | refine P.beq ?_ ?_ | refine P.bne ?_ ?_ | refine P.not ?_ ?_ | refine P.bool ?_ ?_ | contradiction | intro hw) | rw[avq] | omega
  rw[v2];refine au7 _ _ _ _ _ _ v3 _ ?_ 1000 0 (by omega) (by omega) (by omega);rw[au (by omega) (by omega)];apply ih<;>omega
theorem asb{n:Nat}{l:List bu}(h:∀x,x∈l->Vd n x)(hl:l.length<=16):P (Gx 1000 l) Z0:=by
 unfold Gx;repeat' first | with_reducible (first | refine P.aA ?_ ?_ | refine P.fits ?_ (by decide) ?_ | refine P.mk ?_ (by decide) ?_ | refine P.sl ?_ ?_ | exact P.some trivial | exact P.some rfl | refine P.dec ?_ ?_ | refine P.beq ?_ ?_ | refine P.bne ?_ ?_ | refine P.not ?_ ?_ | refine P.bool ?_ ?_ | intro hw) | omega
 exact ayl h hl 1000 0 (by omega) (by omega) (by omega)
theorem anv(a:bQ)(ha:Va a):∀(f:Nat) (k:Int),0<=k->a.2.2.length<f+k->k<=a.2.2.length->P (Fc 1000 f a.2.2 a.2.2.length k a.1.1 a.1.2 a.2.1 a.2.2) Z0:=by
 have hn:=ha.dn;intro f;induction f with
 | zero=>intros;omega
 | succ f ih=>
  intro k h0 h1 h2;rw[aw2,au (by omega) (by omega)];refine P.dec (fun hk=>?_) (fun _=>P.some rfl);have:=(ha.d _ (dU iZ (show k.toNat<a.2.2.length by omega))).1;repeat' first | with_reducible (first | refine P.aA ?_ ?_ | refine P.fits ?_ (by decide) ?_ | refine P.mk ?_ (by decide) ?_ | refine P.sl ?_ ?_ | exact P.some trivial | exact P.some rfl | refine P.dec ?_ ?_ | refine P.beq ?_ ?_ | refine P.bne ?_ ?_ | refine P.not ?_ ?_ | refine P.bool ?_ ?_ | apply ih | intro hw) | omega
theorem ad0{x:bC}{n:Nat}(h:Vf n x):P (zY 1000 x) Z0:=
 P.eq (ak0 (by omega) (by have:=h.1;omega) h.2) rfl
theorem amf(a:bQ)(ha:Va a):∀(f:Nat) (k:Int),0<=k->a.2.1.length<f+k->k<=a.2.1.length->P (HL 1000 f a.2.1 a.2.1.length k a.1.1 a.1.2 a.2.1 a.2.2) Z0:=by
 have hn:=ha.fn;intro f;induction f with
 | zero=>intros;omega
 | succ f ih=>
  intro k h0 h1 h2;rw[Yn,au (by omega) (by omega)];refine P.dec (fun hk=>?_) (fun hk=>?_)
  ·have h3:=ha.f _ (dU nT (show k.toNat<a.2.1.length by omega));have:=h3.1;repeat' first | with_reducible (first | refine P.aA ?_ ?_ | refine P.fits ?_ (by decide) ?_ | refine P.mk ?_ (by decide) ?_ | refine P.sl ?_ ?_ | exact P.some trivial | exact P.some rfl | refine P.dec ?_ ?_ | refine P.beq ?_ ?_ | refine P.bne ?_ ?_ | refine P.not ?_ ?_ | refine P.bool ?_ ?_ | refine P.call (ad0 h3) (fun r hr=>?_) | apply ih | contradiction | intro hw) | omega
  ·repeat' first | with_reducible (first | refine P.aA ?_ ?_ | refine P.fits ?_ (by decide) ?_ | refine P.mk ?_ (by decide) ?_ | refine P.sl ?_ ?_ | exact P.some trivial | exact P.some rfl | refine P.dec ?_ ?_ | refine P.beq ?_ ?_ | refine P.bne ?_ ?_ | refine P.not ?_ ?_ | refine P.bool ?_ ?_ | refine P.call (asb ha.d ha.dn) (fun r hr=>?_) | contradiction | intro hw) | omega
   exact anv a ha 1000 0 (by omega) (by have:=ha.dn;omega) (by omega)
theorem Ec{a:bQ}(ha:Va a):tj 1000 a=some 0:=by
 suffices h:P (tj 1000 a) Z0 by obtain⟨_,e,rfl⟩:=h;exact e
 have hn:=ha.fn;unfold tj;rw[Un,(T8 _).2 ha.m,bH];repeat' first | with_reducible (first | refine P.aA ?_ ?_ | refine P.fits ?_ (by decide) ?_ | refine P.mk ?_ (by decide) ?_ | refine P.sl ?_ ?_ | exact P.some trivial | exact P.some rfl | refine P.dec ?_ ?_ | refine P.beq ?_ ?_ | refine P.bne ?_ ?_ | refine P.not ?_ ?_ | refine P.bool ?_ ?_ | contradiction | intro hw) | omega
 exact amf a ha 1000 0 (by omega) (by omega) (by omega)
end
noncomputable section
def vA(a:bQ)(k:Int):Nat:=if k=5 then a.2.1.length else if k=6 then a.2.2.length else a.1.2.length
structure Ve (x:bJ):Prop where
 a:0<=x.1/\x.1<=255
 k:1<=x.2.1/\x.2.1<=6
 t:0<=x.2.2.1
 o:-1000000<=x.2.2.2.1/\x.2.2.2.1<=1000000
 s:-1000000<=x.2.2.2.2.1/\x.2.2.2.2.1<=1000000
 e:0<=x.2.2.2.2.2.1/\x.2.2.2.2.2.1<=1000000
 d:0<=x.2.2.2.2.2.2.1/\x.2.2.2.2.2.2.1<=1000000
 l:1<=x.2.2.2.2.2.2.2/\x.2.2.2.2.2.2.2<=1000000
structure Vc (s:bX) (c:cB):Prop where
 k:1<=c.1/\c.1<=5
 t:0<=c.2.1/\c.2.1<(if c.1=5 then s.1.1.2.length else s.2.1.length)
 f:c.1=3->(s.2.1.getD c.2.1.toNat gJ).2.1=5
 v:0<=c.2.2.1/\c.2.2.1<=1000000
 l:c.2.2.2.1<=1000000/\0<=c.2.2.2.2.1/\c.2.2.2.2.1<c.2.2.2.1/\0<=c.2.2.2.2.2/\c.2.2.2.2.2<=100000
structure Vz (s:bX) (z:cC):Prop where
 r:∃t:Tr,Good t/\t.cw s.2.2.1.length/\z.1=t.fl 0
 h:0<=z.2.1/\z.2.1<=100000
 f:0<=z.2.2.2/\z.2.2.2<=100
 n:z.2.2.1.length<=128
 w:∀i,i<z.2.2.1.length->0<=z.2.2.1.getD i 0/\z.2.2.1.getD i 0<s.1.1.2.length/\∀j,j+1=i->z.2.2.1.getD j 0<z.2.2.1.getD i 0
structure Vs (s:bX):Prop where
 a:Va s.1
 sn:s.2.1.length<=64
 cn:s.2.2.1.length<=64
 zn:s.2.2.2.1.length<=16
 pn:s.2.2.2.2.length<=64
 e:∀x,x∈s.2.1->Ve x/\x.2.2.1<vA s.1 x.2.1
 u:∀i j,i<j->j<s.2.1.length->(s.2.1.getD i gJ).1≠(s.2.1.getD j gJ).1
 c:∀x,x∈s.2.2.1->Vc s x
 z:∀x,x∈s.2.2.2.1->Vz s x
 p:∀x,x∈s.2.2.2.2->1<=x.1/\x.1<=3
theorem aki(a b:Int)(l:List Int)(hl:l.length<=900)(h:∀x,x∈l->a<=x/\x<=b):∀(f:Nat) (k:Int),0<=k->l.length<f+k->k<=l.length->P (Bm 1000 f a b l l.length k) fun r=>r=true:=by
 intro f;induction f with
 | zero=>intros;omega
 | succ f ih=>
  intro k h0 h1 h2;rw[QU,au (by omega) (by omega)];refine P.dec (fun hk=>?_) (fun hk=>P.some rfl);have:=h _ (dU 0 (show k.toNat<l.length by omega));repeat' first | with_reducible (first | refine P.aA ?_ ?_ | refine P.fits ?_ (by decide) ?_ | refine P.mk ?_ (by decide) ?_ | refine P.sl ?_ ?_ | exact P.some trivial | exact P.some rfl | refine P.dec ?_ ?_ | refine P.beq ?_ ?_ | refine P.bne ?_ ?_ | refine P.not ?_ ?_ | refine P.bool ?_ ?_ | apply ih | intro hw) | omega
theorem Br(a b:Int)(l:List Int)(hl:l.length<=900)(h:∀x,x∈l->a<=x/\x<=b):pH 1000 a b l=some true:=by
 unfold pH;obtain⟨_,e,rfl⟩:=aki a b l hl h 1000 0 (by omega) (by omega) (by omega);exact e
theorem ae6{x:bJ}(h:Ve x):su 1000 x=some 0:=by
 have:=h.t;unfold su;rw[Br 1 6 [x.2.1] (by simp) (by simpa using h.k),Br 0 255 [x.1] (by simp) (by simpa using h.a),Br (-1000000) 1000000 _ (by simp) (by simpa using⟨h.o,h.s⟩),Br 0 1000000 _ (by simp) (by simpa using⟨h.e,h.d⟩),Br 1 1000000 _ (by simp) (by simpa using h.l)];simp only[bH,Bool.not_true,cond_false];rw[df (by omega)]
theorem uu{a b:Int}(h:0<=a/\a<b):mO 1000 a b=some true:=by
 unfold mO;rw[dt h.1,decide_eq_true h.2]
theorem ZZ(s:bX)(n1:Nat)(x1:List bJ)(x2:Int)(i:Nat)(y:bJ)(hi:i<s.2.1.length)(hn:s.2.1.length<=64)(hu:∀j,j<i->(s.2.1.getD j gJ).1≠y.1)
  (hR:P (BL 1000 n1 x1 x2 (W ((i:Int)+1)) s.1.1.1 s.1.1.2 s.1.2.1 s.1.2.2 s.2.1 s.2.2.1 s.2.2.2.1 s.2.2.2.2) Z0):∀(f:Nat) (k:Int),0<=k->i<f+k->k<=i->
  P (xt 1000 n1 f x1 x2 i (s.2.1.take i) i k s.1.1.1 s.1.1.2 s.1.2.1 s.1.2.2 s.2.1 s.2.2.1 s.2.2.2.1 s.2.2.2.2 y.1 y.2.1 y.2.2.1 y.2.2.2.1 y.2.2.2.2.1 y.2.2.2.2.2.1 y.2.2.2.2.2.2.1 y.2.2.2.2.2.2.2) Z0:=by
 intro f;induction f with
 | zero=>intros;omega
 | succ f ih=>
  intro k h0 h1 h2;have hl:(s.2.1.take i).length=i:=by rw[List.length_take];omega
  rw[aoz,au (by omega) (by omega)];refine P.dec (fun hk=>?_) (fun hk=>hR);have hg:(s.2.1.take i).getD k.toNat gJ=s.2.1.getD k.toNat gJ:=by
   rw[List.getD_eq_getElem?_getD,List.getD_eq_getElem?_getD,List.getElem?_take_of_lt (by omega)]
  rw[hg];have:=hu k.toNat (by omega);repeat' first | with_reducible (first | refine P.aA ?_ ?_ | refine P.fits ?_ (by decide) ?_ | refine P.mk ?_ (by decide) ?_ | refine P.sl ?_ ?_ | exact P.some trivial | exact P.some rfl | refine P.dec ?_ ?_ | refine P.beq ?_ ?_ | refine P.bne ?_ ?_ | refine P.not ?_ ?_ | refine P.bool ?_ ?_ | apply ih | contradiction | intro hw) | omega
theorem asz(s:bX)(h:Vs s):∀(f:Nat) (k:Int),0<=k->s.2.1.length<f+k->k<=s.2.1.length->P (BL 1000 f s.2.1 s.2.1.length k s.1.1.1 s.1.1.2 s.1.2.1 s.1.2.2 s.2.1 s.2.2.1 s.2.2.2.1 s.2.2.2.2) Z0:=by
 have hn:=h.sn;intro f;induction f with
 | zero=>intros;omega
 | succ f ih=>
  intro k h0 h1 h2;rw[aru];refine P.dec (fun hk=>?_) (fun hk=>P.some rfl);obtain⟨i,rfl⟩:∃i:Nat,k=i:=⟨k.toNat,by omega⟩;simp only[Int.toNat_natCast];have hl:(s.2.1.take i).length=i:=by rw[List.length_take];omega
  obtain⟨e1,e2⟩:=h.e _ (dU gJ (show i<s.2.1.length by omega));have ht:=e1.t;unfold vA at e2;rw[ae6 e1,bH];have hu:=fun j hj=>h.u j i hj (by omega);have hW:W ((i:Int)+1)=(i:Int)+1:=au (by omega) (by omega);have g:=ZZ s f s.2.1 s.2.1.length i (s.2.1.getD i gJ) (by omega) hn hu (by rw[hW];apply ih<;>omega) 1000 0 (by omega) (by omega) (by omega);rw[hl];refine P.aA (by omega) (P.bne (fun hw=>absurd rfl hw) fun _=>P.beq (fun k5=>?_) fun k5=>P.beq (fun k6=>?_) fun k6=>?_)
  ·rw[if_pos k5] at e2;rw[uu (by omega),bH];repeat' first | with_reducible (first | refine P.aA ?_ ?_ | refine P.fits ?_ (by decide) ?_ | refine P.mk ?_ (by decide) ?_ | refine P.sl ?_ ?_ | exact P.some trivial | exact P.some rfl | refine P.dec ?_ ?_ | refine P.beq ?_ ?_ | refine P.bne ?_ ?_ | refine P.not ?_ ?_ | refine P.bool ?_ ?_ | exact g | contradiction | intro hw) | omega
  ·rw[if_neg k5,if_pos k6] at e2;rw[uu (by omega),bH];repeat' first | with_reducible (first | refine P.aA ?_ ?_ | refine P.fits ?_ (by decide) ?_ | refine P.mk ?_ (by decide) ?_ | refine P.sl ?_ ?_ | exact P.some trivial | exact P.some rfl | refine P.dec ?_ ?_ | refine P.beq ?_ ?_ | refine P.bne ?_ ?_ | refine P.not ?_ ?_ | refine P.bool ?_ ?_ | exact g | contradiction | intro hw) | omega
  ·rw[if_neg k5,if_neg k6] at e2;rw[uu (by omega),bH];repeat' first | with_reducible (first | refine P.aA ?_ ?_ | refine P.fits ?_ (by decide) ?_ | refine P.mk ?_ (by decide) ?_ | refine P.sl ?_ ?_ | exact P.some trivial | exact P.some rfl | refine P.dec ?_ ?_ | refine P.beq ?_ ?_ | refine P.bne ?_ ?_ | refine P.not ?_ ?_ | refine P.bool ?_ ?_ | exact g | contradiction | intro hw) | omega
theorem SO{c:xZ}(h:c.1<=1000000/\0<=c.2.1/\c.2.1<c.1/\0<=c.2.2/\c.2.2<=100000):P (uA 1000 c) Z0:=by
 unfold uA;repeat' first | with_reducible (first | refine P.aA ?_ ?_ | refine P.fits ?_ (by decide) ?_ | refine P.mk ?_ (by decide) ?_ | refine P.sl ?_ ?_ | exact P.some trivial | exact P.some rfl | refine P.dec ?_ ?_ | refine P.beq ?_ ?_ | refine P.bne ?_ ?_ | refine P.not ?_ ?_ | refine P.bool ?_ ?_ | intro hw) | omega
theorem axx{s:bX}{c:cB}(h:Vc s c):P (Dw 1000 s c) Z0:=by
 obtain⟨h1,h2,h3,h4,h5⟩:=h;have hv:(5:Int)≠3:=by decide
 unfold Dw;have key:∀b:Bool,(b=true->c.1≠5)->(b=false->c.1=3\/c.1=5)->P (Ca 1000 1000 c.1 b s.1.1.1 s.1.1.2 s.1.2.1 s.1.2.2 s.2.1 s.2.2.1 s.2.2.2.1 s.2.2.2.2 c.1 c.2.1 c.2.2.1 c.2.2.2.1 c.2.2.2.2.1 c.2.2.2.2.2) Z0:=fun b b1 b2=>by
  rw[ag3];refine P.bool (fun hb=>?_) (fun hb=>P.beq (fun k3=>?_) fun k3=>P.beq (fun k5=>?_) fun k5=>?_)
  ·rw[if_neg (b1 hb)] at h2;rw[uu (by omega),bH];repeat' first | with_reducible (first | refine P.aA ?_ ?_ | refine P.fits ?_ (by decide) ?_ | refine P.mk ?_ (by decide) ?_ | refine P.sl ?_ ?_ | exact P.some trivial | exact P.some rfl | refine P.dec ?_ ?_ | refine P.beq ?_ ?_ | refine P.bne ?_ ?_ | refine P.not ?_ ?_ | refine P.bool ?_ ?_ | contradiction | intro hw) | omega
   exact P.call (SO h5) fun _ e=>P.some e
  ·rw[if_neg (by omega)] at h2;have h6:=h3 k3;rw[uu (by omega),bH];repeat' first | with_reducible (first | refine P.aA ?_ ?_ | refine P.fits ?_ (by decide) ?_ | refine P.mk ?_ (by decide) ?_ | refine P.sl ?_ ?_ | exact P.some trivial | exact P.some rfl | refine P.dec ?_ ?_ | refine P.beq ?_ ?_ | refine P.bne ?_ ?_ | refine P.not ?_ ?_ | refine P.bool ?_ ?_ | contradiction | intro hw) | omega
  ·rw[if_pos k5] at h2;rw[uu (by omega),bH];repeat' first | with_reducible (first | refine P.aA ?_ ?_ | refine P.fits ?_ (by decide) ?_ | refine P.mk ?_ (by decide) ?_ | refine P.sl ?_ ?_ | exact P.some trivial | exact P.some rfl | refine P.dec ?_ ?_ | refine P.beq ?_ ?_ | refine P.bne ?_ ?_ | refine P.not ?_ ?_ | refine P.bool ?_ ?_ | contradiction | intro hw) | omega
  ·have:=b2 hb;omega
 refine P.beq (fun k1=>key _ (fun _=>by omega) (by simp)) fun k1=>P.beq (fun k2=>key _ (fun _=>by omega) (by simp)) fun k2=>?_;refine key _ (fun e=>?_) (fun e=>?_)
 ·have:=eq_of_beq e;omega
 ·have:=ne_of_beq_false e;omega
theorem AV(c:Int):∀(t:Tr) (p:Nat),t.cw c->∀x∈t.fl p,(x.1=1->0<=x.2.1/\x.2.1<c)
 | .c k,p,h,x,hx=>by
  simp only[Tr.fl,List.mem_singleton] at hx;subst hx;exact fun _=>h
 | .n a,p,h,x,hx=>by
  simp only[Tr.fl,List.mem_append,List.mem_singleton] at hx;rcases hx with hx | rfl
  ·exact AV c a p h x hx
  ·exact fun e=>absurd e (show(2:Int)≠1 by decide)
 | .b o y z,p,h,x,hx=>by
  simp only[Tr.fl,List.mem_append,List.mem_singleton] at hx;rcases hx with hx | hx | rfl
  ·exact AV c y p h.1 x hx
  ·exact AV c z _ h.2 x hx
  ·intro e;cases o<;>exact absurd e (by simp[Tr.kd])
theorem HY:∀(t:Tr) (p:Nat),∀x∈t.fl p,(x.1≠1->0<=x.2.2.1/\x.2.2.1<p+t.sz)/\(x.1≠1->x.1≠2->0<=x.2.2.2/\x.2.2.2<p+t.sz)
 | .c k,p,x,hx=>by
  simp only[Tr.fl,List.mem_singleton] at hx;subst hx;exact⟨fun e=>absurd rfl e,fun e=>absurd rfl e⟩
 | .n a,p,x,hx=>by
  have hs:=a.oq;simp only[Tr.fl,List.mem_append,List.mem_singleton] at hx;rcases hx with hx | rfl
  ·have:=HY a p x hx;simp only[Tr.sz];omega
  ·simp only[Tr.sz];omega
 | .b o y z,p,x,hx=>by
  have hs:=y.oq;have hs:=z.oq;simp only[Tr.fl,List.mem_append,List.mem_singleton] at hx;rcases hx with hx | hx | rfl
  ·have:=HY y p x hx;simp only[Tr.sz];omega
  ·have:=HY z _ x hx;simp only[Tr.sz];omega
  ·simp only[Tr.sz];omega
theorem S5{t:Tr}(h:Good t):xp 1000 (t.fl 0)=some true:=by
 obtain⟨r,e,hr⟩:=aqo (N:=1000) (by omega) (by omega) (t.fl 0);rw[e,hr.2 ⟨t,h,rfl⟩]
theorem amw{t:Tr}{c:Int}(h:Good t)(hc:t.cw c):∀(f:Nat) (k:Int),0<=k->(t.fl 0).length<f+k->k<=(t.fl 0).length->P (Ag 1000 f c (t.fl 0) (t.fl 0).length k) Z0:=by
 have hl:(t.fl 0).length<=64:=by rw[Tr.jj];exact h.2.2
 intro f;induction f with
 | zero=>intros;omega
 | succ f ih=>
  intro k h0 h1 h2;rw[ati,au (by omega) (by omega)];refine P.dec (fun hk=>?_) (fun hk=>P.some rfl);have:=AV c t 0 hc _ (dU dN (show k.toNat<(t.fl 0).length by omega));dsimp only;repeat' first | with_reducible (first | refine P.aA ?_ ?_ | refine P.fits ?_ (by decide) ?_ | refine P.mk ?_ (by decide) ?_ | refine P.sl ?_ ?_ | exact P.some trivial | exact P.some rfl | refine P.dec ?_ ?_ | refine P.beq ?_ ?_ | refine P.bne ?_ ?_ | refine P.not ?_ ?_ | refine P.bool ?_ ?_ | apply ih | intro hw) | omega
theorem awm{t:Tr}{c:Int}(h:Good t)(hc:t.cw c):P (Gl 1000 (t.fl 0) c) Z0:=by
 unfold Gl;rw[S5 h,bH];simp only[Bool.not_true,cond_false];exact amw h hc 1000 0 (by omega) (by have:=Tr.jj t 0;have:=h.2.2;omega) (by omega)
theorem al1{t:Tr}(h:Good t)(v:List Int)(hv:v.length<=1000)(hc:t.cw v.length):∀(f:Nat) (k:Int) (w:List Int),0<=k->(t.fl 0).length<f+k->k<=(t.fl 0).length->w.length=(t.fl 0).length->P (p9 1000 f v (t.fl 0) (t.fl 0).length k w) tt:=by
 have hl:=Tr.jj t 0;have hs:=h.2.2;have hp:=t.oq;intro f;induction f with
 | zero=>intros;omega
 | succ f ih=>
  intro k w h0 h1 h2 hw0;rw[agx,au (by omega) (by omega)];refine P.dec (fun hk=>?_) (fun hk=>?_)
  ·have h3:=HY t 0 _ (dU dN (show k.toNat<(t.fl 0).length by omega));have h4:=AV _ t 0 hc _ (dU dN (show k.toNat<(t.fl 0).length by omega));dsimp only;repeat' first | with_reducible (first | refine P.aA ?_ ?_ | refine P.fits ?_ (by decide) ?_ | refine P.mk ?_ (by decide) ?_ | refine P.sl ?_ ?_ | exact P.some trivial | exact P.some rfl | refine P.dec ?_ ?_ | refine P.beq ?_ ?_ | refine P.bne ?_ ?_ | refine P.not ?_ ?_ | refine P.bool ?_ ?_ | apply ih | rw[List.length_set] | intro hw) | omega
  ·dsimp only;rw[au (by omega) (by omega)];repeat' first | with_reducible (first | refine P.aA ?_ ?_ | refine P.fits ?_ (by decide) ?_ | refine P.mk ?_ (by decide) ?_ | refine P.sl ?_ ?_ | exact P.some trivial | exact P.some rfl | refine P.dec ?_ ?_ | refine P.beq ?_ ?_ | refine P.bne ?_ ?_ | refine P.not ?_ ?_ | refine P.bool ?_ ?_ | intro hw) | omega
theorem UJ{t:Tr}(h:Good t)(v:List Int)(hv:v.length<=1000)(hc:t.cw v.length):P (Ax 1000 (t.fl 0) v) tt:=by
 have hl:=Tr.jj t 0;have hs:=h.2.2;unfold Ax;rw[S5 h,bH];repeat' first | with_reducible (first | refine P.aA ?_ ?_ | refine P.fits ?_ (by decide) ?_ | refine P.mk ?_ (by decide) ?_ | refine P.sl ?_ ?_ | exact P.some trivial | exact P.some rfl | refine P.dec ?_ ?_ | refine P.beq ?_ ?_ | refine P.bne ?_ ?_ | refine P.not ?_ ?_ | refine P.bool ?_ ?_ | intro hw) | omega
 exact al1 h v hv hc 1000 0 _ (by omega) (by omega) (by omega) (by simp)
end
noncomputable section
def open_(r:aR):Prop:=r.2.2.2.2.2.1=false
def lr(m:dm)(i j:Nat):Prop:=∃r,r∈m.2/\open_ r/\(r.1=i/\r.2.1=j\/r.2.1=i/\r.1=j)
theorem lr.symm{m:dm}{i j:Nat}(h:lr m i j):lr m j i:=by
 obtain⟨r,h1,h2,h3⟩:=h;exact⟨r,h1,h2,h3.symm.imp (fun h=>⟨h.2,h.1⟩) (fun h=>⟨h.2,h.1⟩) |>.symm |>.symm⟩
inductive Cn (m:dm):Nat->Nat->Prop
 | refl (i:Nat):Cn m i i
 | step {i j k:Nat} (h:Cn m i j) (a:lr m j k):Cn m i k
theorem Cn.trans{m:dm}{i j k:Nat}(h:Cn m i j)(g:Cn m j k):Cn m i k:=by
 induction g with
 | refl=>exact h
 | step _ a ih=>exact ih.step a
theorem Cn.symm{m:dm}{i j:Nat}(h:Cn m i j):Cn m j i:=by
 induction h with
 | refl=>exact .refl _
 | step _ a ih=>exact((Cn.refl _).step a.symm).trans ih
theorem lr.lt{m:dm}(hm:Vm m){i j:Nat}(h:lr m i j):i<m.1.length/\j<m.1.length:=by
 obtain⟨r,h1,h2,h3⟩:=h;have:=(hm.r r h1).1;unfold fS at this;rcases h3 with⟨a,b⟩ | ⟨a,b⟩<;>omega
theorem Cn.lt{m:dm}(hm:Vm m){i j:Nat}(h:Cn m i j)(hi:i<m.1.length):j<m.1.length:=by
 induction h with
 | refl=>exact hi
 | step _ a _=>exact(a.lt hm).2
theorem Ae{rows:List (List Int)}{p:Nat}{x:Int}(hp:p<rows.length)(q:Nat):(eW rows p x).getD q []=if q=p then rows.getD p []++[x] else rows.getD q []:=by
 unfold eW;rw[List.getD_eq_getElem?_getD,List.getElem?_set];by_cases e:q=p
 ·subst e;rw[if_pos rfl,if_pos hp,if_pos rfl];rfl
 ·rw[if_neg (fun e'=>e e'.symm),if_neg e,List.getD_eq_getElem?_getD]
theorem Ug{i x:Int}{l:List (List Int)}(h1:0<=i/\i<l.length)(h2:(l.getD i.toNat []).length<=100000):xw i x l=some (eW l i.toNat x):=by
 unfold xw;rw[fN h1,cond_true,nB (by omega),cond_true]
def ash(n:Nat)(rs:List aR)(rows out:List (List Int))(B:Nat):Prop:=out.length=rows.length/\(∀p,(out.getD p []).length<=B)/\
 ∀p,p<n->∀x,x∈out.getD p []↔x∈rows.getD p []\/∃r,r∈rs/\open_ r/\(r.1=p/\x=r.2.1\/r.2.1=p/\x=r.1)
theorem Nq{n:Nat}:∀(rs:List aR) (rows:List (List Int)) (B:Nat),rows.length=n->(∀p,(rows.getD p []).length<=B)->B+2*rs.length<=100000->(∀r,r∈rs->¬fS n r)->
  ∃out,pE rs rows=some out/\ash n rs rows out (B+2*rs.length)
 | [],rows,B,hl,hB,hb,hr=>⟨rows,rfl,rfl,fun p=>hB p,fun p _ x=>by simp⟩
 | r::rs,rows,B,hl,hB,hb,hr=>by
  simp only[List.length_cons] at hb;simp only[pE];by_cases ho:r.2.2.2.2.2.1=true
  ·rw[ho,cond_true];obtain⟨out,e,h1,h2,h3⟩:=Nq rs rows B hl hB (by omega) fun x hx=>hr x (List.mem_cons_of_mem _ hx);refine⟨out,e,h1,fun p=>Nat.le_trans (h2 p) (by simp only[List.length_cons];omega),fun p hp x=>?_⟩;rw[h3 p hp x];refine or_congr_right ⟨fun⟨s,a,b⟩=>⟨s,List.mem_cons_of_mem _ a,b⟩,fun⟨s,a,b,c⟩=>?_⟩;rcases List.mem_cons.1 a with rfl | a
   ·unfold open_ at b;rw[ho] at b;cases b
   ·exact⟨s,a,b,c⟩
  ·have ho:r.2.2.2.2.2.1=false:=by simpa using ho
   have he:=hr r (by simp);unfold fS at he;rw[ho,cond_false];have e1:=Ug (i:=r.1) (x:=r.2.1) (l:=rows) (by omega) (by have:=hB r.1.toNat;omega);rw[e1,bH];have hp1:r.1.toNat<rows.length:=by omega
   have hB1:∀p,((eW rows r.1.toNat r.2.1).getD p []).length<=B+1:=fun p=>by
    rw[Ae hp1];split
    ·have:=hB r.1.toNat;simp;exact this
    ·have:=hB p;omega
   have e2:=Ug (i:=r.2.1) (x:=r.1) (l:=eW rows r.1.toNat r.2.1) (by rw[gZ];omega) (by have:=hB1 r.2.1.toNat;omega);rw[e2,bH];have hp2:r.2.1.toNat<(eW rows r.1.toNat r.2.1).length:=by rw[gZ];omega
   have hB2:∀p,((eW (eW rows r.1.toNat r.2.1) r.2.1.toNat r.1).getD p []).length<=B+2:=fun p=>by
    rw[Ae hp2];split
    ·have:=hB1 r.2.1.toNat;simp only[List.length_append,List.length_singleton];omega
    ·have:=hB1 p;omega
   obtain⟨out,e,h1,h2,h3⟩:=Nq rs _ (B+2) (by rw[gZ,gZ];exact hl) hB2 (by omega) fun x hx=>hr x (List.mem_cons_of_mem _ hx);refine⟨out,e,by rw[h1,gZ,gZ],fun p=>Nat.le_trans (h2 p) (by simp only[List.length_cons];omega),fun p hp x=>?_⟩;rw[h3 p hp x,Ae hp2,Ae hp1,Ae hp1];have hne:r.1.toNat≠r.2.1.toNat:=by omega
   constructor
   ·rintro(h | ⟨s,a,b,c⟩)
    ·split at h
     ·rename_i e;rw[if_neg (fun e'=>hne e'.symm)] at h;rcases List.mem_append.1 h with h | h
      ·subst e;exact .inl h
      ·exact .inr ⟨r,by simp,ho,.inr ⟨by omega,List.mem_singleton.1 h⟩⟩
     ·split at h
      ·rename_i e1 e2;rcases List.mem_append.1 h with h | h
       ·subst e2;exact .inl h
       ·exact .inr ⟨r,by simp,ho,.inl ⟨by omega,List.mem_singleton.1 h⟩⟩
      ·exact .inl h
    ·exact .inr ⟨s,List.mem_cons_of_mem _ a,b,c⟩
   ·rintro(h | ⟨s,a,b,c⟩)
    ·left
     split
     ·rename_i e;rw[if_neg (fun e'=>hne e'.symm)];subst e;exact List.mem_append_left _ h
     ·split
      ·rename_i e1 e2;subst e2;exact List.mem_append_left _ h
      ·exact h
    ·rcases List.mem_cons.1 a with rfl | a
     ·left
      rcases c with⟨c1,rfl⟩ | ⟨c1,rfl⟩
      ·rw[if_neg (by omega),if_pos (by omega)];simp
      ·rw[if_pos (by omega)];simp
     ·exact .inr ⟨s,a,b,c⟩
def KW(m:dm)(near:List (List Int)):Prop:=near.length=m.1.length/\(∀p,(near.getD p []).length<=256)/\(∀p,p<m.1.length->∀x,x∈near.getD p []->∃q:Nat,x=q/\lr m p q)/\∀p q,lr m p q->(q:Int)∈near.getD p []
theorem Y1{m:dm}(hm:Vm m):∃near,Ev m.1.length m.2=some near/\KW m near:=by
 have n1:=hm.n;have n2:=hm.k;unfold Ev;rw[vc (by omega),decide_eq_true (by omega),Bool.and_self,cond_true];have hrep:∀p,(List.replicate m.1.length ([]:List Int)).getD p []=[]:=fun p=>by
  rw[List.getD_eq_getElem?_getD,List.getElem?_replicate];split<;>rfl
 obtain⟨out,e,h1,h2,h3⟩:=Nq m.2 (List.replicate m.1.length []) 0 (by simp) (fun p=>by rw[hrep];simp) (by omega) fun r hr=>(hm.r r hr).1;refine⟨out,e,by simpa using h1,fun p=>Nat.le_trans (h2 p) (by omega),fun p hp x hx=>?_,fun p q ha=>?_⟩
 ·rw[h3 p hp,hrep] at hx;rcases hx with hx | ⟨r,a,b,c⟩
  ·cases hx
  ·have hr:=(hm.r r a).1;unfold fS at hr;rcases c with⟨c1,rfl⟩ | ⟨c1,rfl⟩
   ·exact⟨r.2.1.toNat,by omega,r,a,b,.inl ⟨c1,by omega⟩⟩
   ·exact⟨r.1.toNat,by omega,r,a,b,.inr ⟨c1,by omega⟩⟩
 ·obtain⟨hp,_⟩:=ha.lt hm;obtain⟨r,a,b,c⟩:=ha;rw[h3 p hp];exact .inr ⟨r,a,b,c.imp (fun c=>⟨c.1,c.2.symm⟩) (fun c=>⟨c.1,c.2.symm⟩)⟩
abbrev gt(of:List Int)(j:Nat):Int:=of.getD j 0
def neg(of:List Int):Nat:=of.countP fun x=>decide (x<0)
theorem N0{of:List Int}{i:Nat}{x:Int}(hi:i<of.length)(j:Nat):gt (of.set i x) j=if j=i then x else gt of j:=by
 unfold gt;rw[List.getD_eq_getElem?_getD,List.getElem?_set];by_cases e:j=i
 ·subst e;rw[if_pos rfl,if_pos hi,if_pos rfl];rfl
 ·rw[if_neg (fun e'=>e e'.symm),if_neg e,List.getD_eq_getElem?_getD]
theorem U1{of:List Int}{i:Nat}{x:Int}(hi:i<of.length)(h:gt of i<0)(hx:0<=x):neg (of.set i x)+1=neg of:=by
 unfold neg;have hg:gt of i=of[i]:=by unfold gt;rw[List.getD_eq_getElem?_getD,List.getElem?_eq_getElem hi];rfl
 rw[hg] at h;have hpos:0<of.countP fun x=>decide (x<0):=List.countP_pos_iff.2 ⟨of[i],List.getElem_mem hi,by simpa using h⟩;rw[List.countP_set hi];simp only[h,decide_true,if_true,show¬x<0 by omega,decide_false];simp;omega
section dfs
variable {m:dm} {of0:List Int} {i k:Nat}
structure Ge (m:dm) (of0:List Int) (i k:Nat) (of todo:List Int) (skip:Nat->Prop):Prop where
 len:of.length=m.1.length
 fL:∀j,j<m.1.length->0<=gt of0 j->gt of j=gt of0 j
 new:∀j,j<m.1.length->gt of0 j<0->gt of j=k\/gt of j<0
 xF:∀j,j<m.1.length->gt of0 j<0->gt of j=k->Cn m i j
 td:∀t,t∈todo->∃j:Nat,t=j/\j<m.1.length/\gt of j=k/\gt of0 j<0
 HP:∀j,j<m.1.length->gt of0 j<0->gt of j=k->(j:Int)∈todo\/skip j\/∀q,lr m j q->0<=gt of q
 rt:gt of i=k
theorem LB(hm:Vm m)(near:List (List Int))(hk:k<=1000)(n3 n2 p cnt:Nat)(hp:p<m.1.length)(row:List Int)(hrl:row.length<=256)(hrow:∀x,x∈row->∃q:Nat,x=q/\lr m p q)(hall:∀q,lr m p q->(q:Int)∈row)
  (h0:∀j,j<m.1.length->0<=gt of0 j->∀q,lr m j q->0<=gt of0 q):∀(j f idx:Nat) (of todo:List Int) (M:Nat),j+idx=row.length->j<f->Ge m of0 i k of todo (fun q=>q=p)->gt of p=k->gt of0 p<0->todo.length<=300->(∀x,x∈row.take idx->0<=gt of x.toNat)->neg of+todo.length=M->M<=300->
  ∃of' todo',B7 1000 n3 n2 f near k cnt i row row.length idx of todo=Cm 1000 n2 n3 near k cnt i of' todo'/\Ge m of0 i k of' todo' (fun _=>False)/\neg of'+todo'.length=M
 | 0,f+1,idx,of,todo,M,hj,hf,hd,hpk,hp0,htl,hx,hM,hM3=>by
  rw[X7,df (by omega)];refine⟨of,todo,rfl,⟨hd.len,hd.fL,hd.new,hd.xF,hd.td,fun j hj1 hj2 hj3=>?_,hd.rt⟩,hM⟩;rcases hd.HP j hj1 hj2 hj3 with h | h | h
  ·exact .inl h
  ·subst h;refine .inr (.inr fun q ha=>?_);have:=hx q (by rw[List.take_of_length_le (by omega)];exact hall q ha);simpa using this
  ·exact .inr (.inr h)
 | j+1,f+1,idx,of,todo,M,hj,hf,hd,hpk,hp0,htl,hx,hM,hM3=>by
  have hlen:=hd.len;have n1:=hm.n;obtain⟨q,hq,ha⟩:=hrow _ (dU (0:Int) (show idx<row.length by omega));have hql:=(ha.lt hm).2;have hstep:∀x,x∈row.take (idx+1)->x∈row.take idx\/x=q:=fun x hx=>by
   rw[List.take_succ,List.getElem?_eq_getElem (show idx<row.length by omega)] at hx;rcases List.mem_append.1 hx with hx | hx
   ·exact .inl hx
   ·right
    rw[<-hq,List.getD_eq_getElem?_getD,List.getElem?_eq_getElem (show idx<row.length by omega)];simpa using hx
  rw[X7,dt (by omega),it (by omega),Int.toNat_natCast,hq,it (by omega),Int.toNat_natCast,jX (by omega)];by_cases hn:gt of q<0
  ·rw[show(of.getD q 0:Int)=gt of q from rfl,dt hn,it (by omega),nB (by omega),cond_true];have hs:=U1 (x:=(k:Int)) (by omega:q<of.length) hn (by omega);have hqp:∀j,gt (of.set q k) j=if j=q then(k:Int) else gt of j:=N0 (by omega)
   have hq0:gt of0 q<0:=by
    by_cases h:gt of0 q<0
    ·exact h
    ·have:=hd.fL q hql (by omega);omega
   have key:=LB hm near hk n3 n2 p cnt hp row hrl hrow hall h0 j f (idx+1) (of.set q k) (todo++[(q:Int)]) M (by omega) (by omega) ⟨by simp[hlen],fun j hj1 hj2=>?_,fun j hj1 hj2=>?_,fun j hj1 hj2 hj3=>?_,fun t ht=>?_,fun j hj1 hj2 hj3=>?_,?_⟩ ?_ hp0 (by rw[List.length_append,List.length_singleton];omega) (fun x hx'=>?_) (by rw[List.length_append,List.length_singleton];omega) hM3
   ·exact key
   ·rw[hqp,if_neg (by rintro rfl;omega)];exact hd.fL j hj1 hj2
   ·rw[hqp];split
    ·exact .inl rfl
    ·exact hd.new j hj1 hj2
   ·rw[hqp] at hj3;by_cases e:j=q
    ·subst e;exact(hd.xF p hp hp0 hpk).step ha
    ·rw[if_neg e] at hj3;exact hd.xF j hj1 hj2 hj3
   ·rcases List.mem_append.1 ht with ht | ht
    ·obtain⟨j',e1,e2,e3,e4⟩:=hd.td t ht;refine⟨j',e1,e2,?_,e4⟩;rw[hqp];split
     ·rfl
     ·exact e3
    ·exact⟨q,List.mem_singleton.1 ht,hql,by rw[hqp,if_pos rfl],hq0⟩
   ·by_cases e:j=q
    ·subst e;exact .inl (by simp)
    ·rw[hqp,if_neg e] at hj3;rcases hd.HP j hj1 hj2 hj3 with h | h | h
     ·exact .inl (List.mem_append_left _ h)
     ·exact .inr (.inl h)
     ·refine .inr (.inr fun q' ha'=>?_);rw[hqp];split
      ·omega
      ·exact h q' ha'
   ·rw[hqp];split
    ·rfl
    ·exact hd.rt
   ·rw[hqp];split
    ·rfl
    ·exact hpk
   ·rw[hqp];split
    ·omega
    ·rename_i hne;rcases hstep x hx' with h | h
     ·exact hx x h
     ·rw[h,Int.toNat_natCast] at hne;exact absurd rfl hne
  ·rw[show(of.getD q 0:Int)=gt of q from rfl,df hn];refine LB hm near hk n3 n2 p cnt hp row hrl hrow hall h0 j f (idx+1) of todo M (by omega) (by omega) hd hpk hp0 htl (fun x hx'=>?_) hM hM3;rcases hstep x hx' with h | h
   ·exact hx x h
   ·rw[h,Int.toNat_natCast];omega
theorem aif(hm:Vm m){near:List (List Int)}(hN:KW m near)(hk:k<=1000)(n2 cnt:Nat)(h0:∀j,j<m.1.length->0<=gt of0 j->∀q,lr m j q->0<=gt of0 q)(hi:i<=1000):∀(M f:Nat) (of todo:List Int),neg of+todo.length=M->M<f->M<=300->Ge m of0 i k of todo (fun _=>False)->
  ∃of',Cm 1000 n2 f near k cnt i of todo=vK 1000 n2 near ((k+1:Nat):Int) cnt ((i+1:Nat):Int) of'/\Ge m of0 i k of' [] (fun _=>False):=by
 intro M;induction M with
 | zero=>
  intro f of todo hM hf _ hd;obtain⟨f,rfl⟩:∃g,f=g+1:=⟨f-1,by omega⟩;have:todo=[]:=List.eq_nil_of_length_eq_zero (by omega);subst this;rw[Oi,df (by simp),jX (by omega),jX (by omega)];exact⟨of,rfl,hd⟩
 | succ M ih=>
  intro f of todo hM hf hM3 hd;obtain⟨f,rfl⟩:∃g,f=g+1:=⟨f-1,by omega⟩;by_cases ht:todo.length=0
  ·have:todo=[]:=List.eq_nil_of_length_eq_zero ht;subst this;rw[Oi,df (by simp),jX (by omega),jX (by omega)];exact⟨of,rfl,hd⟩
  ·have hlast:(todo.length-1:Nat)<todo.length:=by omega
   obtain⟨p,hp1,hp2,hp3,hp4⟩:=hd.td _ (dU (0:Int) hlast);rw[Oi,dt (by omega)];simp only;have hnl:=hN.1;rw[au (by omega) (by omega),show(todo.length:Int)-1=((todo.length-1:Nat):Int) by omega,it (by omega),Mf (by omega),cond_true,Int.toNat_natCast,hp1,it (by omega),Int.toNat_natCast];have hsplit:todo=todo.take (todo.length-1)++[(p:Int)]:=by
    have h1:todo.drop (todo.length-1)=[(p:Int)]:=by
     rw[drop_cons (0:Int) hlast,hp1,drop_nil (by omega)]
    rw[<-h1,List.take_append_drop]
   have hrow:=hN.2.2.1 p hp2;rw[show((todo.drop (0:Int).toNat).take (todo.length-1-(0:Int).toNat))=todo.take (todo.length-1) from rfl];have hlen':(todo.take (todo.length-1)).length=todo.length-1:=by rw[List.length_take];omega
   have key:=LB hm near hk f n2 p cnt hp2 (near.getD p []) (hN.2.1 p) hrow (hN.2.2.2 p) h0 (near.getD p []).length 1000 0 of (todo.take (todo.length-1)) M rfl (by have:=hN.2.1 p;omega) ⟨hd.len,hd.fL,hd.new,hd.xF,fun t h=>hd.td t (List.mem_of_mem_take h),fun j hj1 hj2 hj3=>?_,hd.rt⟩ hp3 hp4 (by omega) (fun x hx=>by simp at hx) (by omega) (by omega)
   ·obtain⟨of',todo',e,d,hM'⟩:=key;rw[show((0:Nat):Int)=0 from rfl] at e;rw[e];exact ih f of' todo' hM' (by omega) (by omega) d
   ·rcases hd.HP j hj1 hj2 hj3 with h | h | h
    ·rw[hsplit] at h;rcases List.mem_append.1 h with h | h
     ·exact .inl h
     ·exact .inr (.inl (by have:=List.mem_singleton.1 h;omega))
    ·exact h.elim
    ·exact .inr (.inr h)
end dfs
structure On (m:dm) (i k:Nat) (of:List Int):Prop where
 len:of.length=m.1.length
 val:∀j,j<m.1.length->gt of j<k
 low:∀j,j<i->j<m.1.length->0<=gt of j
 cls:∀j l,j<m.1.length->l<m.1.length->0<=gt of j->(gt of l=gt of j↔Cn m j l)
 fst:∀c,c<k->∃j,j<i/\j<m.1.length/\gt of j=c
 can:∀j,j<m.1.length->∀c:Nat,(c:Int)<gt of j->∃j',j'<j/\gt of j'=c
 ki:k<=i
theorem Ud(of:List Int):neg of<=of.length:=List.countP_le_length
theorem zz{m:dm}(hm:Vm m){near:List (List Int)}(hN:KW m near):∀(j f i k:Nat) (of:List Int),j+i=m.1.length->j<f->On m i k of->
  ∃(of':List Int) (k':Nat),vK 1000 f near k m.1.length i of=some (of',(k':Int))/\On m m.1.length k' of'
 | 0,f+1,i,k,of,hj,hf,hp=>by
  have:i=m.1.length:=by omega
  subst this;rw[RX,df (by omega)];exact⟨of,k,rfl,hp⟩
 | j+1,f+1,i,k,of,hj,hf,hp=>by
  have n1:=hm.n;have hi:i<m.1.length:=by omega
  have hl:=hp.len;have hki:=hp.ki;rw[RX,dt (by omega),it (by omega),Int.toNat_natCast,show of.getD i 0=gt of i from rfl];by_cases h:gt of i>=0
  ·rw[dt h,jX (by omega)];exact zz hm hN j f (i+1) k of (by omega) (by omega) ⟨hl,hp.val,fun q h1 h2=>if e:q=i then by subst e;exact h else hp.low q (by omega) h2,hp.cls,fun c hc=>by obtain⟨q,a,b⟩:=hp.fst c hc;exact⟨q,by omega,b⟩,hp.can,by omega⟩
  ·have hneg:gt of i<0:=by omega
   rw[df h,it (by omega)];have hs:=U1 (x:=(k:Int)) (by omega:i<of.length) hneg (by omega);have hg:∀q,gt (of.set i k) q=if q=i then(k:Int) else gt of q:=N0 (by omega)
   have h0:∀q,q<m.1.length->0<=gt of q->∀l,lr m q l->0<=gt of l:=fun q h1 h2 l ha=>by
    have:=(hp.cls q l h1 (ha.lt hm).2 h2).2 ((Cn.refl q).step ha);omega
   have key:=aif (i:=i) (k:=k) hm hN (by omega) f m.1.length h0 (by omega) (neg (of.set i k)+1) 1000 (of.set i k) [(i:Int)] rfl (by have:=Ud of;omega) (by have:=Ud of;omega) ⟨by simp[hl],fun q h1 h2=>?_,fun q h1 h2=>?_,fun q h1 h2 h3=>?_,fun t ht=>?_,fun q h1 h2 h3=>?_,?_⟩
   ·obtain⟨of',e,d⟩:=key;rw[e];have dn:∀q,q<m.1.length->gt of' q=k->gt of q<0:=fun q h1 h2=>by
     by_cases hq:gt of q<0
     ·exact hq
     ·have:=d.fL q h1 (by omega);have:=hp.val q h1;omega
    have cl:∀q l,Cn m q l->q<m.1.length->gt of' q=k->gt of' l=k:=by
     intro q l hc hq1;induction hc with
     | refl=>exact id
     | @step b c hb a ih=>
      intro hk;have hbk:=ih hk;have hbl:=hb.lt hm hq1;have hcl:=(a.lt hm).2;rcases d.HP b hbl (dn b hbl hbk) hbk with h | h | h
      ·cases h
      ·exact h.elim
      ·have h1:=h c a;by_cases hc0:gt of c<0
       ·rcases d.new c hcl hc0 with h2 | h2
        ·exact h2
        ·omega
       ·have h2:=h0 c hcl (by omega) b a.symm;have:=dn b hbl hbk;omega
    have dcs:∀q,q<m.1.length->0<=gt of' q->(gt of' q=k/\gt of q<0)\/(0<=gt of q/\gt of' q=gt of q):=fun q h1 h2=>by
     by_cases hq:gt of q<0
     ·rcases d.new q h1 hq with h3 | h3
      ·exact .inl ⟨h3,hq⟩
      ·omega
     ·exact .inr ⟨by omega,d.fL q h1 (by omega)⟩
    refine zz hm hN j f (i+1) (k+1) of' (by omega) (by omega) ⟨d.len,fun q h1=>?_,fun q h1 h2=>?_,fun q l h1 h2 h3=>?_,fun c hc=>?_,fun q h1 c hc=>?_,by omega⟩
    ·by_cases hq:0<=gt of' q
     ·rcases dcs q h1 hq with⟨a,_⟩ | ⟨_,a⟩
      ·omega
      ·have:=hp.val q h1;omega
     ·omega
    ·by_cases e:q=i
     ·subst e;rw[d.rt];omega
     ·have:=hp.low q (by omega) h2;rw[d.fL q h2 this];exact this
    ·rcases dcs q h1 h3 with⟨a,b⟩ | ⟨a,b⟩
     ·rw[a];exact⟨fun hl=>(d.xF q h1 b a).symm.trans (d.xF l h2 (dn l h2 hl) hl),fun hc=>cl q l hc h1 a⟩
     ·rw[b];constructor
      ·intro hl;have hvq:=hp.val q h1;by_cases hlo:0<=gt of l
       ·rw[d.fL l h2 hlo] at hl;exact(hp.cls q l h1 h2 a).1 hl
       ·rcases d.new l h2 (by omega) with h4 | h4<;>omega
      ·intro hc;have h4:=(hp.cls q l h1 h2 a).2 hc;rw[d.fL l h2 (by omega)];exact h4
    ·by_cases e:c=k
     ·subst e;exact⟨i,by omega,hi,d.rt⟩
     ·obtain⟨q,a,b,g⟩:=hp.fst c (by omega);exact⟨q,by omega,b,by rw[d.fL q b (by omega)];exact g⟩
    ·rcases dcs q h1 (by omega) with⟨a,b⟩ | ⟨a,b⟩
     ·obtain⟨q',x1,x2,x3⟩:=hp.fst c (by omega);refine⟨q',?_,by rw[d.fL q' x2 (by omega)];exact x3⟩;by_cases hlt:q'<q
      ·exact hlt
      ·have:=hp.low q (by omega) h1;omega
     ·obtain⟨q',x1,x2⟩:=hp.can q h1 c (by omega);exact⟨q',x1,by rw[d.fL q' (by omega) (by omega)];exact x2⟩
   ·rw[hg,if_neg (by rintro rfl;omega)]
   ·rw[hg];split
    ·exact .inl rfl
    ·exact .inr h2
   ·rw[hg] at h3;by_cases e:q=i
    ·subst e;exact .refl _
    ·rw[if_neg e] at h3;omega
   ·exact⟨i,List.mem_singleton.1 ht,hi,by rw[hg,if_pos rfl],hneg⟩
   ·rw[hg] at h3;by_cases e:q=i
    ·subst e;exact .inl (by simp)
    ·rw[if_neg e] at h3;omega
   ·rw[hg,if_pos rfl]
theorem XO{n:Nat}(hn:n<=64)(near:List (List Int)):∀(j f i:Nat) (of:List Int),j+i=n->j<f->of.length=n->(∀q,q<i->gt of q=-1)->
  ∃of',HC 1000 f near n i of=vK 1000 1000 near 0 n 0 of'/\of'.length=n/\∀q,q<n->gt of' q=-1
 | 0,f+1,i,of,hj,hf,hl,hq=>by
  rw[U0,df (by omega),hl];exact⟨of,rfl,hl,fun q h=>hq q (by omega)⟩
 | j+1,f+1,i,of,hj,hf,hl,hq=>by
  rw[U0,dt (by omega),it (by omega),jX (by omega),Int.toNat_natCast];refine XO hn near j f (i+1) _ (by omega) (by omega) (by simp[hl]) fun q h=>?_;rw[N0 (by omega)];split
  ·rfl
  ·exact hq q (by omega)
theorem avl{m:dm}(hm:Vm m):∃of k,Iw 1000 m=some (of,((k:Nat):Int))/\On m m.1.length k of:=by
 have n1:=hm.n;unfold Iw;obtain⟨near,e,hN⟩:=Y1 hm;rw[e,bH,vc (by omega),cond_true];simp only;rw[Int.toNat_natCast,List.length_replicate];obtain⟨of',e1,h1,h2⟩:=XO n1 near m.1.length 1000 0 (List.replicate m.1.length 0) rfl (by omega) (by simp) (fun q h=>by omega);rw[show((0:Nat):Int)=0 from rfl] at e1;rw[e1];obtain⟨of2,k2,e2,h3⟩:=zz hm hN m.1.length 1000 0 0 of' rfl (by omega) ⟨h1,fun j hj=>by rw[h2 j hj];omega,fun j hj=>by omega,fun j l hj _ h0=>by rw[h2 j hj] at h0;omega,fun c hc=>by omega,fun j hj c hc=>by rw[h2 j hj] at hc;omega,Nat.le_refl _⟩
 exact⟨of2,k2,e2,h3⟩
end
noncomputable section
theorem ayp(s:bX)(z:cC)(h:Vz s z):∀(f:Nat) (k:Int),0<=k->z.2.2.1.length<f+k->k<=z.2.2.1.length->P (AZ 1000 f z.2.2.1 z.2.2.1.length k s.1.1.1 s.1.1.2 s.1.2.1 s.1.2.2 s.2.1 s.2.2.1 s.2.2.2.1 s.2.2.2.2 z.1 z.2.1 z.2.2.1 z.2.2.2) Z0:=by
 have hn:=h.n;intro f;induction f with
 | zero=>intros;omega
 | succ f ih=>
  intro k h0 h1 h2;rw[amo,au (by omega) (by omega),au (by omega) (by omega)];refine P.dec (fun hk=>?_) (fun hk=>P.some rfl);obtain⟨w1,w2,w3⟩:=h.w k.toNat (by omega);rw[uu ⟨w1,w2⟩,bH];have w4:=w3 (k-1).toNat;repeat' first | with_reducible (first | refine P.aA ?_ ?_ | refine P.fits ?_ (by decide) ?_ | refine P.mk ?_ (by decide) ?_ | refine P.sl ?_ ?_ | exact P.some trivial | exact P.some rfl | refine P.dec ?_ ?_ | refine P.beq ?_ ?_ | refine P.bne ?_ ?_ | refine P.not ?_ ?_ | refine P.bool ?_ ?_ | apply ih | contradiction | intro hw) | omega
theorem aya{s:bX}{z:cC}(h:Vz s z):P (Gt 1000 s z) Z0:=by
 obtain⟨t,t1,t2,t3⟩:=h.r;have h1:=h.h;have h2:=h.f;have:=h.n;unfold Gt;rw[t3];refine P.call (awm t1 t2) fun r hr=>?_;repeat' first | with_reducible (first | refine P.aA ?_ ?_ | refine P.fits ?_ (by decide) ?_ | refine P.mk ?_ (by decide) ?_ | refine P.sl ?_ ?_ | exact P.some trivial | exact P.some rfl | refine P.dec ?_ ?_ | refine P.beq ?_ ?_ | refine P.bne ?_ ?_ | refine P.not ?_ ?_ | refine P.bool ?_ ?_ | contradiction | intro hw) | rw[aic] | omega
 rw[<-t3];exact ayp s z h 1000 0 (by omega) (by omega) (by omega)
theorem ar9(l:List cW)(hl:l.length<=64)(h:∀x,x∈l->1<=x.1/\x.1<=3):∀(f:Nat) (k:Int),0<=k->l.length<f+k->k<=l.length->P (D6 1000 f l l.length k) Z0:=by
 intro f;induction f with
 | zero=>intros;omega
 | succ f ih=>
  intro k h0 h1 h2;rw[avc,au (by omega) (by omega)];refine P.dec (fun hk=>?_) (fun hk=>P.some rfl);have:=h _ (dU oZ (show k.toNat<l.length by omega));dsimp only;repeat' first | with_reducible (first | refine P.aA ?_ ?_ | refine P.fits ?_ (by decide) ?_ | refine P.mk ?_ (by decide) ?_ | refine P.sl ?_ ?_ | exact P.some trivial | exact P.some rfl | refine P.dec ?_ ?_ | refine P.beq ?_ ?_ | refine P.bne ?_ ?_ | refine P.not ?_ ?_ | refine P.bool ?_ ?_ | apply ih | intro hw) | omega
theorem arq(s:bX)(h:Vs s):∀(f:Nat) (k:Int),0<=k->s.2.2.2.1.length<f+k->k<=s.2.2.2.1.length->P (Io 1000 f s.2.2.2.1 s.2.2.2.1.length k s.1.1.1 s.1.1.2 s.1.2.1 s.1.2.2 s.2.1 s.2.2.1 s.2.2.2.1 s.2.2.2.2) Z0:=by
 have hn:=h.zn;have hp:=h.pn;intro f;induction f with
 | zero=>intros;omega
 | succ f ih=>
  intro k h0 h1 h2;rw[aye,au (by omega) (by omega)];refine P.dec (fun hk=>?_) (fun hk=>ar9 _ hp h.p 1000 0 (by omega) (by omega) (by omega));have:=h.z _ (dU iU (show k.toNat<s.2.2.2.1.length by omega));repeat' first | with_reducible (first | refine P.aA ?_ ?_ | refine P.fits ?_ (by decide) ?_ | refine P.mk ?_ (by decide) ?_ | refine P.sl ?_ ?_ | exact P.some trivial | exact P.some rfl | refine P.dec ?_ ?_ | refine P.beq ?_ ?_ | refine P.bne ?_ ?_ | refine P.not ?_ ?_ | refine P.bool ?_ ?_ | refine P.call (aya this) (fun r hr=>?_) | apply ih | contradiction | intro hw) | omega
theorem agi(s:bX)(h:Vs s):∀(f:Nat) (k:Int),0<=k->s.2.2.1.length<f+k->k<=s.2.2.1.length->P (EO 1000 f s.2.2.1 s.2.2.1.length k s.1.1.1 s.1.1.2 s.1.2.1 s.1.2.2 s.2.1 s.2.2.1 s.2.2.2.1 s.2.2.2.2) Z0:=by
 have hn:=h.cn;have hp:=h.zn;intro f;induction f with
 | zero=>intros;omega
 | succ f ih=>
  intro k h0 h1 h2;rw[atj,au (by omega) (by omega)];refine P.dec (fun hk=>?_) (fun hk=>arq s h 1000 0 (by omega) (by omega) (by omega));have:=h.c _ (dU F2 (show k.toNat<s.2.2.1.length by omega));repeat' first | with_reducible (first | refine P.aA ?_ ?_ | refine P.fits ?_ (by decide) ?_ | refine P.mk ?_ (by decide) ?_ | refine P.sl ?_ ?_ | exact P.some trivial | exact P.some rfl | refine P.dec ?_ ?_ | refine P.beq ?_ ?_ | refine P.bne ?_ ?_ | refine P.not ?_ ?_ | refine P.bool ?_ ?_ | refine P.call (axx this) (fun r hr=>?_) | apply ih | contradiction | intro hw) | omega
theorem HN{s:bX}(h:Vs s):tM 1000 s=some 0:=by
 suffices h:P (tM 1000 s) Z0 by obtain⟨_,e,rfl⟩:=h;exact e
 obtain⟨h1,h2,h3,h4,h5,_⟩:=id h;unfold tM;rw[Ec h1,bH];have hs:P (NB 1000 s) Z0:=asz s h 1000 0 (by omega) (by omega) (by omega);repeat' first | with_reducible (first | refine P.aA ?_ ?_ | refine P.fits ?_ (by decide) ?_ | refine P.mk ?_ (by decide) ?_ | refine P.sl ?_ ?_ | exact P.some trivial | exact P.some rfl | refine P.dec ?_ ?_ | refine P.beq ?_ ?_ | refine P.bne ?_ ?_ | refine P.not ?_ ?_ | refine P.bool ?_ ?_ | refine P.call (hs) (fun r hr=>?_) | contradiction | intro hw) | rw[acy] | omega
 exact agi s h 1000 0 (by omega) (by omega) (by omega)
theorem take_succ{α:Type}{l:List α}{k:Nat}(d:α)(h:k<l.length):l.take k++[l.getD k d]=l.take (k+1):=by
 rw[List.take_add_one,List.getD_eq_getElem?_getD,List.getElem?_eq_getElem h];rfl
theorem AT{l:List Int}(h:l.length<=1000000):wX 1000 l=some l:=by
 unfold wX;rw[nB (by omega)];rfl
theorem eG{n b:Nat}{α:Type}{x y:α}(h:n<=1000000)(hb:b<=1000):(bif ba n b then x else y)=x:=by
 have:n*b<=1000000*1000:=Nat.mul_le_mul h hb;rw[nB (by omega)];rfl
theorem awr(a:bQ)(h:Va a)(p:List bj)(r:List aR)(fs:List bC):∀(j f k:Nat),j+k=a.2.2.length->j<f->GZ 1000 f a.2.2 a.2.2.length k p r fs (a.2.2.take k)=some ((p,r),(fs,a.2.2)):=by
 have hn:=h.dn;intro j;induction j with
 | zero=>
  intro f k h1 h2;obtain⟨f,rfl⟩:∃g,f=g+1:=⟨f-1,by omega⟩;rw[U9,df (by omega),List.take_of_length_le (by omega)]
 | succ j ih=>
  intro f k h1 h2;obtain⟨f,rfl⟩:∃g,f=g+1:=⟨f-1,by omega⟩;have hl:(a.2.2.take k).length=k:=by rw[List.length_take];omega
  have:=(h.d _ (dU iZ (show k<a.2.2.length by omega))).2.2.2.1;rw[U9,dt (by omega),it (by omega),jX (by omega),Int.toNat_natCast];dsimp only;rw[AT (by omega),bH,hl,eG (by omega) (by omega)];rw[take_succ _ (by omega)];exact ih f (k+1) (by omega) (by omega)
theorem aof(a:bQ)(h:Va a)(p:List bj)(r:List aR)(p':List bj)(r':List aR):∀(j f k:Nat),j+k=a.2.1.length->j<f->EU 1000 f a.2.1 a.2.1.length k p r a.2.1 a.2.2 p' r' (a.2.1.take k)=some ((p',r'),(a.2.1,a.2.2)):=by
 have hn:=h.fn;have hd:=h.dn;intro j;induction j with
 | zero=>
  intro f k h1 h2;obtain⟨f,rfl⟩:∃g,f=g+1:=⟨f-1,by omega⟩;rw[Wh,df (by omega),List.take_of_length_le (by omega)];exact awr a h _ _ _ a.2.2.length 1000 0 (by omega) (by omega)
 | succ j ih=>
  intro f k h1 h2;obtain⟨f,rfl⟩:∃g,f=g+1:=⟨f-1,by omega⟩;have hl:(a.2.1.take k).length=k:=by rw[List.length_take];omega
  have:=(h.f _ (dU nT (show k<a.2.1.length by omega))).2.l2;rw[Wh,dt (by omega),it (by omega),jX (by omega),Int.toNat_natCast,eG (by omega) (by omega),hl,eG (by omega) (by omega),take_succ _ (by omega)];exact ih f (k+1) (by omega) (by omega)
theorem akg{a:bQ}(h:Va a):G8 1000 a=some a:=by
 unfold G8;have:=h.m.n;have:=h.m.k;have:=h.fn;rw[eG (by omega) (by omega),eG (by omega) (by omega)];exact aof a h _ _ _ _ a.2.1.length 1000 0 (by omega) (by omega)
theorem awi(s:bX)(h:Vs s)(a:bQ)(e:List bJ)(c:List cB)(p:List cW):∀(j f k:Nat),j+k=s.2.2.2.1.length->j<f->FA 1000 f s.2.2.2.1 s.2.2.2.1.length k a.1.1 a.1.2 a.2.1 a.2.2 e c p (s.2.2.2.1.take k)=some (a,(e,(c,(s.2.2.2.1,p)))):=by
 have hn:=h.zn;intro j;induction j with
 | zero=>
  intro f k h1 h2;obtain⟨f,rfl⟩:∃g,f=g+1:=⟨f-1,by omega⟩;rw[Tc,df (by omega),List.take_of_length_le (by omega)]
 | succ j ih=>
  intro f k h1 h2;obtain⟨f,rfl⟩:∃g,f=g+1:=⟨f-1,by omega⟩;have hl:(s.2.2.2.1.take k).length=k:=by rw[List.length_take];omega
  have hz:=h.z _ (dU iU (show k<s.2.2.2.1.length by omega));have:=hz.n;obtain⟨t,t1,t2,t3⟩:=hz.r;have:=t1.2.2;have h5:(s.2.2.2.1.getD k iU).1.length<=64:=by rw[t3,Tr.jj];exact this
  rw[Tc,dt (by omega),it (by omega),jX (by omega),Int.toNat_natCast,eG (by omega) (by omega),AT (by omega),bH,hl,eG (by omega) (by omega)];rw[take_succ _ (by omega)];exact ih f (k+1) (by omega) (by omega)
theorem Lr{s:bX}(h:Vs s):Ik 1000 s=some s:=by
 unfold Ik;have:=h.sn;have:=h.cn;have:=h.zn;have:=h.pn;rw[akg h.a,bH,eG (by omega) (by omega),eG (by omega) (by omega),eG (by omega) (by omega)];exact awi s h s.1 _ _ _ s.2.2.2.1.length 1000 0 (by omega) (by omega)
end
noncomputable section
structure Fit (a:bQ) (s:bF):Prop where
 fl:s.1.length=a.2.1.length
 dl:s.2.length=a.2.2.length
 f:∀i,i<s.1.length->-1<=s.1.getD i 0/\s.1.getD i 0<=2
theorem al4(a:bQ)(s:bF)(p:List bj)(r:List aR)(fs:List bC)(hn:a.2.2.length<=1000-10)(hl:s.2.length=a.2.2.length):∀(f:Nat) (k:Int),0<=k->s.2.length<f+k->k<=s.2.length->P (Gf 1000 f s.2 s.2.length k p r fs a.2.2) tt:=by
 intro f;induction f with
 | zero=>intros;omega
 | succ f ih=>
  intros;rw[axm];try simp(disch:=omega) only[au]
  repeat' first | with_reducible (first | refine P.aA ?_ ?_ | refine P.fits ?_ (by decide) ?_ | refine P.mk ?_ (by decide) ?_ | refine P.sl ?_ ?_ | exact P.some trivial | exact P.some rfl | refine P.dec ?_ ?_ | refine P.beq ?_ ?_ | refine P.bne ?_ ?_ | refine P.not ?_ ?_ | refine P.bool ?_ ?_ | apply ih | intro hw) | omega
theorem YZ(a:bQ)(s:bF)(hn:a.2.2.length<=1000-10)(hm:s.1.length<=900)(hl:s.2.length=a.2.2.length):∀(f:Nat) (k:Int),0<=k->s.1.length<f+k->k<=s.1.length->(∀i,i<k.toNat->-1<=s.1.getD i 0/\s.1.getD i 0<=2)->P (HT 1000 f s.1 s.1.length k a.1.1 a.1.2 a.2.1 a.2.2 s.1 s.2) fun r=>r=true->∀i,i<s.1.length->-1<=s.1.getD i 0/\s.1.getD i 0<=2:=by
 intro f;induction f with
 | zero=>intros;omega
 | succ f ih=>
  intro k h0 h1 h2 h3;rw[akv,au (by omega) (by omega)];refine P.dec (fun hk=>?_) (fun hk=>?_)
  ·refine P.aA (by omega) (P.dec (fun _=>P.some fun e=>by cases e) fun g1=>P.dec (fun _=>P.some fun e=>by cases e) fun g2=>?_);refine ih _ (by omega) (by omega) (by omega) fun i hi=>?_;by_cases e:i=k.toNat
   ·subst e;omega
   ·exact h3 i (by omega)
  ·exact(al4 a s _ _ _ hn hl 1000 0 (by omega) (by omega) (by omega)).mono fun _ _ _ i hi=>h3 i (by omega)
theorem M6{a:bQ}{s:bF}(h:Va a):P (yj 1000 a s) fun r=>r=true->Fit a s:=by
 have:=h.fn;have:=h.dn;unfold yj;refine P.bne (fun _=>P.some fun e=>by cases e) fun g1=>P.bne (fun _=>P.some fun e=>by cases e) fun g2=>?_;exact(YZ a s (by omega) (by omega) (by omega) 1000 0 (by omega) (by omega) (by omega) (by intro i hi;simp at hi)).mono fun r hr e=>⟨by omega,by omega,hr e⟩
def fI(n:Nat)(l:List Int):Prop:=∀x,x∈l->0<=x/\x<n
theorem fI.app{n:Nat}{l:List Int}(h:fI n l){x:Int}(hx:0<=x/\x<n):fI n (l++[x]):=j4 h hx
theorem fI.get{n:Nat}{l:List Int}(h:fI n l){k:Nat}(hk:k<l.length):0<=l.getD k 0/\l.getD k 0<n:=h _ (dU 0 hk)
theorem auw{n:Nat}(of:List Int)(has:List Bool)(hn:n<=64)(ho:of.length=n)(h:fI has.length of):∀(f:Nat) (k:Int) (out:List Int),0<=k->n<f+k->k<=n->fI n out->out.length<=k.toNat->P (z7 1000 f of n k has out) fun r=>fI n r/\r.length<=64:=by
 intro f;induction f with
 | zero=>intros;omega
 | succ f ih=>
  intro k out h0 h1 h2 h3 h4;rw[ama,au (by omega) (by omega)];refine P.dec (fun hk=>?_) (fun hk=>P.some ⟨h3,by omega⟩);have hx:=h.get (k:=k.toNat) (by omega);repeat' first | with_reducible (first | refine P.aA ?_ ?_ | refine P.fits ?_ (by decide) ?_ | refine P.mk ?_ (by decide) ?_ | refine P.sl ?_ ?_ | exact P.some trivial | exact P.some rfl | refine P.dec ?_ ?_ | refine P.beq ?_ ?_ | refine P.bne ?_ ?_ | refine P.not ?_ ?_ | refine P.bool ?_ ?_ | apply ih | exact fI.app h3 (And.intro h0 hk) | exact h3 | rw[List.length_append,List.length_singleton] | intro hw) | omega
theorem ae9{m:dm}(hm:m.1.length<=64)(of:List Int)(ho:of.length=m.1.length)(n:Nat)(h:fI n of):∀(f:Nat) (k:Int) (has:List Bool),0<=k->m.1.length<f+k->k<=m.1.length->has.length=n->P (zc 1000 f of m.1 m.1.length k m.1 m.2 has) fun r=>fI m.1.length r/\r.length<=64:=by
 intro f;induction f with
 | zero=>intros;omega
 | succ f ih=>
  intro k has h0 h1 h2 h3;rw[aqx,au (by omega) (by omega)];refine P.dec (fun hk=>?_) (fun hk=>auw of has hm ho (h3▸h) 1000 0 [] (by omega) (by omega) (by omega) (fun x hx=>by cases hx) (by simp));have hx:=h.get (k:=k.toNat) (by omega);repeat' first | with_reducible (first | refine P.aA ?_ ?_ | refine P.fits ?_ (by decide) ?_ | refine P.mk ?_ (by decide) ?_ | refine P.sl ?_ ?_ | exact P.some trivial | exact P.some rfl | refine P.dec ?_ ?_ | refine P.beq ?_ ?_ | refine P.bne ?_ ?_ | refine P.not ?_ ?_ | refine P.bool ?_ ?_ | apply ih | rw[List.length_set] | intro hw) | omega
theorem ai7{m:dm}(hm:Vm m):P (GK 1000 m) fun r=>fI m.1.length r/\r.length<=64:=by
 unfold GK;obtain⟨of,k,e,hp⟩:=avl hm;rw[anl,(T8 m).2 hm,bH,e,bH];have h1:=hm.n;have h2:=hp.ki;refine P.mk (by dsimp only;omega) (by omega) ?_;refine ae9 h1 of hp.len k (fun x hx=>?_) 1000 0 _ (by omega) (by omega) (by omega) (by simp);obtain⟨i,hi,rfl⟩:=List.getElem_of_mem hx;have hl:=hp.len;have g1:=hp.val i (by omega);have g2:=hp.low i (by omega) (by omega);have g3:gt of i=of[i]:=by
  show of.getD i 0=_;rw[List.getD_eq_getElem?_getD,List.getElem?_eq_getElem hi];rfl
 omega
theorem YL{n:Nat}(l:List Int)(hl:l.length<=64)(h:fI n l):∀(f:Nat) (k:Int) (out:List Bool),0<=k->l.length<f+k->k<=l.length->out.length=n->P (GQ 1000 f l l.length k out) fun r=>r.length=n:=by
 intro f;induction f with
 | zero=>intros;omega
 | succ f ih=>
  intro k out h0 h1 h2 h3;rw[akh,au (by omega) (by omega)];refine P.dec (fun hk=>?_) (fun hk=>P.some h3);have hx:=h.get (k:=k.toNat) (by omega);repeat' first | with_reducible (first | refine P.aA ?_ ?_ | refine P.fits ?_ (by decide) ?_ | refine P.mk ?_ (by decide) ?_ | refine P.sl ?_ ?_ | exact P.some trivial | exact P.some rfl | refine P.dec ?_ ?_ | refine P.beq ?_ ?_ | refine P.bne ?_ ?_ | refine P.not ?_ ?_ | refine P.bool ?_ ?_ | apply ih | rw[List.length_set] | intro hw) | omega
theorem AW{m:dm}(hm:Vm m):P (s4 1000 m) fun r=>r.length=m.1.length:=by
 have h1:=hm.n;unfold s4;refine P.mk (by omega) (by omega) (P.call (ai7 hm) fun r hr=>?_);exact YL r hr.2 hr.1 1000 0 _ (by omega) (by omega) (by omega) (by simp)
theorem aei(l:List Int)(hl:l.length<=900):∀(f:Nat) (k x:Int),0<=k->l.length<f+k->k<=l.length->P (GJ 1000 f l x k) tt:=by
 intro f;induction f with
 | zero=>intros;omega
 | succ f ih=>
  intros;rw[af6];try simp(disch:=omega) only[au]
  repeat' first | with_reducible (first | refine P.aA ?_ ?_ | refine P.fits ?_ (by decide) ?_ | refine P.mk ?_ (by decide) ?_ | refine P.sl ?_ ?_ | exact P.some trivial | exact P.some rfl | refine P.dec ?_ ?_ | refine P.beq ?_ ?_ | refine P.bne ?_ ?_ | refine P.not ?_ ?_ | refine P.bool ?_ ?_ | apply ih | intro hw) | omega
theorem ZR(l:List Int)(hl:l.length<=900):∀(f:Nat) (k x:Int),0<=k->l.length<f+k->k<=l.length->P (Fu 1000 f l x k) tt:=by
 intro f;induction f with
 | zero=>intros;omega
 | succ f ih=>
  intros;rw[amc];try simp(disch:=omega) only[au]
  repeat' first | with_reducible (first | refine P.aA ?_ ?_ | refine P.fits ?_ (by decide) ?_ | refine P.mk ?_ (by decide) ?_ | refine P.sl ?_ ?_ | exact P.some trivial | exact P.some rfl | refine P.dec ?_ ?_ | refine P.beq ?_ ?_ | refine P.bne ?_ ?_ | refine P.not ?_ ?_ | refine P.bool ?_ ?_ | apply ih | intro hw) | omega
theorem Z1(l:List Int)(hl:l.length<=900)(h0:0<l.length):P (F1 1000 l) tt:=by
 unfold F1;repeat' first | with_reducible (first | refine P.aA ?_ ?_ | refine P.fits ?_ (by decide) ?_ | refine P.mk ?_ (by decide) ?_ | refine P.sl ?_ ?_ | exact P.some trivial | exact P.some rfl | refine P.dec ?_ ?_ | refine P.beq ?_ ?_ | refine P.bne ?_ ?_ | refine P.not ?_ ?_ | refine P.bool ?_ ?_ | apply aei l hl | intro hw) | omega
theorem aob(l:List Int)(hl:l.length<=900)(h0:0<l.length):P (Ei 1000 l) tt:=by
 unfold Ei;repeat' first | with_reducible (first | refine P.aA ?_ ?_ | refine P.fits ?_ (by decide) ?_ | refine P.mk ?_ (by decide) ?_ | refine P.sl ?_ ?_ | exact P.some trivial | exact P.some rfl | refine P.dec ?_ ?_ | refine P.beq ?_ ?_ | refine P.bne ?_ ?_ | refine P.not ?_ ?_ | refine P.bool ?_ ?_ | apply ZR l hl | intro hw) | omega
theorem arl(d:bu)(h:d.2.2.length<=900)(s:Int):P (AX 1000 d s) tt:=by
 unfold AX;repeat' first | with_reducible (first | refine P.aA ?_ ?_ | refine P.fits ?_ (by decide) ?_ | refine P.mk ?_ (by decide) ?_ | refine P.sl ?_ ?_ | exact P.some trivial | exact P.some rfl | refine P.dec ?_ ?_ | refine P.beq ?_ ?_ | refine P.bne ?_ ?_ | refine P.not ?_ ?_ | refine P.bool ?_ ?_ | refine P.call (Z1 _ h ?_) (fun r hr=>?_) | refine P.call (aob _ h ?_) (fun r hr=>?_) | intro hw) | omega
def Vb(b:pz):Prop:=fW b.1.2.2.2/\-1<=b.2/\b.2<=2
def Vp(m:dm)(p:gi):Prop:=(0<=p.1.1/\p.1.1<m.1.length)/\(0<=p.1.2.1/\p.1.2.1<m.1.length)/\(0<=p.2.1/\p.2.1<m.2.length)/\(∀b,b∈p.2.2->Vb b)/\p.2.2.length<=8
structure Vn (m:dm) (n:dV):Prop where
 pl:n.1.length<=128
 p:∀x,x∈n.1->Vp m x
 al:n.2.length=m.1.length
 at_:∀r,r∈n.2->r.length<=256/\fI n.1.length r
theorem mem_set{α:Type}{Q:α->Prop}{l:List α}{i:Nat}{y:α}(h:∀x,x∈l->Q x)(hy:Q y):∀x,x∈l.set i y->Q x:=fun x hx=>by
 rcases List.mem_or_eq_of_mem_set hx with hx | rfl
 ·exact h x hx
 ·exact hy
theorem KS{α:Type}{b:Nat}{i:Int}{x:α}{l:List (List α)}{R S:List α->Prop}(h:∀r,r∈l->R r)(hi:0<=i/\i<l.length)(hb:b<=1000)(hR:∀r,R r->r.length<=1000)(h1:∀r,R r->S r)(h2:∀r,R r->S (r++[x])):P (uI b i x l) fun o=>o.length=l.length/\∀r,r∈o->S r:=by
 have hr:=h _ (dU [] (show i.toNat<l.length by omega));have:=hR _ hr;unfold uI;refine P.aA hi (P.fits (by omega) hb (P.some ⟨by simp[eW],?_⟩));exact mem_set (fun r k=>h1 r (h r k)) (h2 _ hr)
theorem Wi{n:Nat}(sd:List Int):∀(ds:List bu) (i:Nat) (rs:List (Int×Int)),(∀d,d∈ds->Vd n d)->i+ds.length<=sd.length->rs.length=n->P (vk (AX 1000) sd ds i rs) fun r=>r.length=n
 | [],i,rs,h,hi,hr=>P.some hr
 | d::ds,i,rs,h,hi,hr=>by
  simp only[List.length_cons] at hi;have hd:=h d List.mem_cons_self;have h6:=hd.2.2.2.1;have:=hd.1;unfold vk;refine P.aA (by omega) (P.call (arl _ (by omega) _) fun r _=>P.aA (by omega) ?_);exact Wi sd ds (i+1) _ (fun x hx=>h x (List.mem_cons_of_mem _ hx)) (by omega) (by rw[List.length_set];exact hr)
def Row(k:Nat)(r:List pz):Prop:=r.length<=k/\∀b,b∈r->Vb b
theorem UD{n:Nat}(sf:List Int)(hs:∀i,i<sf.length->-1<=sf.getD i 0/\sf.getD i 0<=2):∀(fs:List bC) (i k:Nat) (l:List (List pz)),(∀d,d∈fs->Vf n d)->i+fs.length<=sf.length->l.length=n->k+fs.length<=900->(∀r,r∈l->Row k r)->P (qP sf fs i l) fun o=>o.length=n/\∀r,r∈o->Row (k+fs.length) r
 | [],i,k,l,h,hi,hl,hk,hr=>P.some ⟨hl,hr⟩
 | f::fs,i,k,l,h,hi,hl,hk,hr=>by
  simp only[List.length_cons] at hi hk ⊢;have hd:=h f List.mem_cons_self;have:=hd.1;have hx:=hs i (by omega);have ih:=fun k' l'=>UD sf hs fs (i+1) k' l' (fun x hx=>h x (List.mem_cons_of_mem _ hx)) (by omega);unfold qP;refine P.aA (by omega) (P.beq (fun _=>?_) fun _=>?_)
  ·refine(ih k l hl (by omega) hr).mono fun o ho=>⟨ho.1,fun r hr'=>?_⟩;have:=ho.2 r hr';exact⟨by have:=this.1;omega,this.2⟩
  ·refine P.call (KS (S:=Row (k+1)) hr (by omega) (by omega) (fun r q=>by have:=q.1;omega) (fun r q=>⟨by have:=q.1;omega,q.2⟩) fun r q=>⟨by simp;exact q.1,?_⟩) fun l' hl'=>?_
   ·exact j4 q.2 ⟨hd.2,hx⟩
   ·refine(ih (k+1) l' (by omega) (by omega) hl'.2).mono fun o ho=>⟨ho.1,fun r hr'=>?_⟩;have:=ho.2 r hr';exact⟨by have:=this.1;omega,this.2⟩
theorem Sy{m:dm}(rs:List (Int×Int))(fs:List (List pz))(hrs:rs.length=m.2.length)(hfs:fs.length=m.2.length)(hf:∀r,r∈fs->Row 8 r):∀(l:List aR) (i k:Nat) (ps:List gi) (at_:List (List Int)),(∀r,r∈l->¬fS m.1.length r)->i+l.length<=m.2.length->at_.length=m.1.length->ps.length<=i->m.2.length<=128->(∀x,x∈ps->Vp m x)->(∀r,r∈at_->r.length<=k/\fI ps.length r)->k+2*l.length<=256->P (qA rs fs l i ps at_) fun o=>Vn m o
 | [],i,k,ps,at_,h,hi,ha,hp,hm,hv,hr,hk=>P.some ⟨by show ps.length<=128;omega,hv,ha,fun r q=>⟨by have:=(hr r q).1;omega,(hr r q).2⟩⟩
 | r::l,i,k,ps,at_,h,hi,ha,hp,hm,hv,hr,hk=>by
  simp only[List.length_cons] at hi hk;have he:=h r List.mem_cons_self;unfold fS at he;have ih:=fun k' ps' at'=>Sy rs fs hrs hfs hf l (i+1) k' ps' at' (fun x hx=>h x (List.mem_cons_of_mem _ hx)) (by omega);unfold qA;refine P.bool (fun _=>?_) fun _=>?_
  ·exact ih k ps at_ ha (by omega) hm hv hr (by omega)
  ·have grow:∀(k':Nat) (q:List Int),q.length<=k'/\fI (ps.length+1) q->(q++[(ps.length:Int)]).length<=k'+1/\fI (ps.length+1) (q++[(ps.length:Int)]):=fun k' q hq=>⟨by simp;exact hq.1,fI.app hq.2 (by omega)⟩;have hr':∀q,q∈at_->q.length<=k/\fI (ps.length+1) q:=fun q hq=>⟨(hr q hq).1,fun x hx=>by have:=(hr q hq).2 x hx;omega⟩;refine P.call (KS (S:=fun q=>q.length<=k+1/\fI (ps.length+1) q) hr' (by omega) (by omega) (fun q hq=>by omega) (fun q hq=>⟨by omega,hq.2⟩) (grow k)) fun a1 h1=>?_;refine P.call (KS (S:=fun q=>q.length<=k+2/\fI (ps.length+1) q) h1.2 (by omega) (by omega) (fun q hq=>by omega) (fun q hq=>⟨by omega,hq.2⟩) (grow (k+1))) fun a2 h2=>?_
   rw[fN (by omega),fN (by omega),nB (by omega)];simp only[Bool.and_self,cond_true];refine ih (k+2) _ a2 (by omega) (by simp;omega) hm (j4 hv ⟨by dsimp only;omega,by dsimp only;omega,by dsimp only;omega,?_⟩) (fun q hq=>?_) (by omega)
   ·have:=hf _ (dU [] (show i<fs.length by omega));exact⟨this.2,this.1⟩
   ·have:=h2.2 q hq;exact⟨this.1,by rw[List.length_append];exact this.2⟩
theorem WV{α:Type}{Q:α->Prop}{y:α}(n:Nat)(h:Q y):∀x,x∈List.replicate n y->Q x:=fun x hx=>by
 rw[List.eq_of_mem_replicate hx];exact h
theorem Ib{a:bQ}{s:bF}(h:Va a)(hs:Fit a s):P (uq 1000 a s) (Vn a.1):=by
 have h1:=h.m.n;have h2:=h.m.k;have h3:=h.fn;have h4:=hs.dl;have h5:=hs.fl;unfold uq Cl;have h6:=h.dn;rw[nB (by omega),nB (by omega),vc (by omega),vc (by omega),vc (by omega)];simp only[Bool.and_self,cond_true];refine P.call (Wi s.2 a.2.2 0 _ h.d (by omega) (by simp)) fun rs hrs=>?_;refine P.call (UD s.1 hs.f a.2.1 0 0 _ h.f (by omega) (by simp) (by omega) (WV _ ⟨Nat.le_refl _,fun _ hb=>by cases hb⟩)) fun fs hfs=>?_;refine Sy rs fs hrs hfs.1 (fun r hr=>⟨by have:=(hfs.2 r hr).1;omega,(hfs.2 r hr).2⟩) a.1.2 0 0 [] _ (fun r hr=>(h.m.r r hr).1) (by omega) (by simp) (Nat.le_refl _) h2 (fun _ hx=>by cases hx) (WV _ ⟨Nat.le_refl _,fun _ hx=>by cases hx⟩) (by omega)
end
noncomputable section
theorem amn(l:List pz)(hl:l.length<=900)(h:∀b,b∈l->Vb b)(x:Int)(hx:-1048577<=x/\x<=1048577)(u v:Int):∀(f:Nat) (k a b:Int),0<=k->l.length<f+k->k<=l.length->P (Bh 1000 f x l l.length k u v a b) tt:=by
 intro f;induction f with
 | zero=>intros;omega
 | succ f ih=>
  intro k a b h0 h1 h2;rw[awe,au (by omega) (by omega)];refine P.dec (fun hk=>?_) (fun hk=>P.some trivial);obtain⟨b1,b2⟩:=h _ (dU TK (show k.toNat<l.length by omega));refine P.aA (by omega) ?_;dsimp only;refine P.bind ((Xb (by omega) b1 hx b2 _ _ _).1) ?_;apply ih<;>omega
theorem Si{m:dm}{p:gi}(h:Vp m p){x:Int}(hx:-1048577<=x/\x<=1048577):P (Ah 1000 p x) tt:=by
 obtain⟨_,_,_,h4,h5⟩:=h;unfold Ah;refine P.dec (fun _=>?_) (fun _=>?_)<;>exact amn _ (by omega) h4 x hx _ _ 1000 0 _ _ (by omega) (by omega) (by omega)
theorem Z7{m:dm}{p:gi}(h:Vp m p)(d:Int):∀(e f:Nat) (lo hi:Int),hi-lo<2 ^ e->e<f->-1048577<=lo->hi<=1048576->P (AG 1000 f d lo hi p.1.1 p.1.2.1 p.1.2.2.1 p.1.2.2.2.1 p.1.2.2.2.2.1 p.1.2.2.2.2.2.1 p.1.2.2.2.2.2.2.1.1 p.1.2.2.2.2.2.2.1.2 p.1.2.2.2.2.2.2.2.1 p.1.2.2.2.2.2.2.2.2 p.2.1 p.2.2) tt:=by
 intro e;induction e with
 | zero=>
  intro f lo hi h1 h2 h3 h4;obtain⟨f,rfl⟩:∃g,f=g+1:=⟨f-1,by omega⟩;rw[XH,Int.pow_zero] at*;repeat' first | with_reducible (first | refine P.aA ?_ ?_ | refine P.fits ?_ (by decide) ?_ | refine P.mk ?_ (by decide) ?_ | refine P.sl ?_ ?_ | exact P.some trivial | exact P.some rfl | refine P.dec ?_ ?_ | refine P.beq ?_ ?_ | refine P.bne ?_ ?_ | refine P.not ?_ ?_ | refine P.bool ?_ ?_ | intro hw) | omega
 | succ e ih=>
  intro f lo hi h1 h2 h3 h4;obtain⟨f,rfl⟩:∃g,f=g+1:=⟨f-1,by omega⟩;rw[XH];refine P.dec (fun hk=>?_) (fun hk=>P.some trivial);have hp:=Int.pow_succ 2 e;simp(disch:=omega) only[au,Int.tdiv_eq_ediv_of_nonneg];refine P.call (Si (m:=m) (p:=p) h (by omega)) fun r _=>P.dec (fun _=>?_) fun _=>?_
  ·apply ih<;>omega
  ·apply ih<;>omega
theorem an9{m:dm}{p:gi}(h:Vp m p)(d:Int):∀(e f:Nat) (lo hi:Int),hi-lo<2 ^ e->e<f->-1048576<=lo->hi<=1048577->P (Ad 1000 f d lo hi p.1.1 p.1.2.1 p.1.2.2.1 p.1.2.2.2.1 p.1.2.2.2.2.1 p.1.2.2.2.2.2.1 p.1.2.2.2.2.2.2.1.1 p.1.2.2.2.2.2.2.1.2 p.1.2.2.2.2.2.2.2.1 p.1.2.2.2.2.2.2.2.2 p.2.1 p.2.2) tt:=by
 intro e;induction e with
 | zero=>
  intro f lo hi h1 h2 h3 h4;obtain⟨f,rfl⟩:∃g,f=g+1:=⟨f-1,by omega⟩;rw[Xa,Int.pow_zero] at*;repeat' first | with_reducible (first | refine P.aA ?_ ?_ | refine P.fits ?_ (by decide) ?_ | refine P.mk ?_ (by decide) ?_ | refine P.sl ?_ ?_ | exact P.some trivial | exact P.some rfl | refine P.dec ?_ ?_ | refine P.beq ?_ ?_ | refine P.bne ?_ ?_ | refine P.not ?_ ?_ | refine P.bool ?_ ?_ | intro hw) | omega
 | succ e ih=>
  intro f lo hi h1 h2 h3 h4;obtain⟨f,rfl⟩:∃g,f=g+1:=⟨f-1,by omega⟩;rw[Xa];refine P.dec (fun hk=>?_) (fun hk=>P.some trivial);have hp:=Int.pow_succ 2 e;simp(disch:=omega) only[au,Int.tdiv_eq_ediv_of_nonneg];refine P.call (Si (m:=m) (p:=p) h (by omega)) fun r _=>P.dec (fun _=>?_) fun _=>?_
  ·apply ih<;>omega
  ·apply ih<;>omega
theorem K6{m:dm}{p:gi}(h:Vp m p)(d:Int):P (Aw 1000 p d) tt:=Z7 h d 30 1000 _ _ (by decide) (by omega) (by omega) (by omega)
theorem Ms{m:dm}{p:gi}(h:Vp m p)(d:Int):P (zr 1000 p d) tt:=an9 h d 30 1000 _ _ (by decide) (by omega) (by omega) (by omega)
def Rg(x:Int):Prop:=-70368744177664<=x/\x<=70368744177664
theorem ahq{m:dm}{n:dV}(h:Vn m n)(ps:List Int)(hp:ps.length=m.1.length)(i:Int)(l:List Int)(hl:l.length<=256)(hi:fI n.1.length l):∀(f:Nat) (k s:Int),0<=k->l.length<f+k->k<=l.length->P (AB 1000 f ps i s l l.length k n.1 n.2) tt:=by
 intro f;induction f with
 | zero=>intros;omega
 | succ f ih=>
  intro k s h0 h1 h2;rw[ar6,au (n:=k+1) (by omega) (by omega)];refine P.dec (fun hk=>?_) (fun hk=>P.some trivial);have hx:=hi.get (k:=k.toNat) (by omega);have hv:=h.p _ (dU iG (show(l.getD k.toNat 0).toNat<n.1.length by omega));have h3:=hv.1;have h4:=hv.2.1;dsimp only;repeat' first | with_reducible (first | refine P.aA ?_ ?_ | refine P.fits ?_ (by decide) ?_ | refine P.mk ?_ (by decide) ?_ | refine P.sl ?_ ?_ | exact P.some trivial | exact P.some rfl | refine P.dec ?_ ?_ | refine P.beq ?_ ?_ | refine P.bne ?_ ?_ | refine P.not ?_ ?_ | refine P.bool ?_ ?_ | refine P.call (K6 hv _) (fun r hr=>?_) | refine P.call (Ms hv _) (fun r hr=>?_) | apply ih | intro hw) | omega
theorem XX{m:dm}{n:dV}(h:Vn m n)(ps:List Int)(hp:ps.length=m.1.length){i:Int}(hi:0<=i/\i<m.1.length):P (zM 1000 n ps i) tt:=by
 have ha:=h.al;unfold zM;have hr:=h.at_ _ (dU [] (show i.toNat<n.2.length by omega));refine P.aA (by omega) ?_;exact ahq h ps hp i _ hr.1 hr.2 1000 0 0 (by omega) (by omega) (by omega)
theorem EM{m:dm}{n:dV}(h:Vn m n)(x:Int)(ps:List Int)(hp:ps.length=m.1.length){i:Int}(hi:0<=i/\i<m.1.length):P (ry 1000 x ps i n) fun r=>∃b q,r=(b,(q,(i,n)))/\q.length=m.1.length:=by
 unfold ry;refine P.aA (by omega) (P.call (XX h _ (by rw[List.length_set];exact hp) hi) fun r _=>P.some ⟨_,_,rfl,by rw[List.length_set];exact hp⟩)
theorem ZS{m:dm}{n:dV}(h:Vn m n){i:Int}(hi:0<=i/\i<m.1.length){st sg room:Int}(hr:room<=140737488355328)(hg:sg=1/\st+room=70368744177664\/sg=-1/\st-room=-70368744177664):∀(e f:Nat) (bad good:Int) (ps:List Int),ps.length=m.1.length->good-bad<=2 ^ e->e<f->0<=bad->bad<good->good<=room->P (pc 1000 f st sg bad good i n.1 n.2 ps) fun r=>Rg r.1.1:=by
 have fin:∀good:Int,0<=good->good<=room->Rg (W (st+W (sg*good))):=fun good h0 h5=>by
  unfold Rg;rcases hg with⟨rfl,g⟩ | ⟨rfl,g⟩
  ·rw[au (n:=1*good) (by omega) (by omega),au (by omega) (by omega)];omega
  ·rw[au (n:=-1*good) (by omega) (by omega),au (by omega) (by omega)];omega
 intro e;induction e with
 | zero=>
  intro f bad good ps hp h1 h2 h3 h4 h5;obtain⟨f,rfl⟩:∃g,f=g+1:=⟨f-1,by omega⟩;rw[Int.pow_zero] at h1;rw[UC,au (by omega) (by omega)];refine P.dec (fun hk=>by omega) (fun hk=>P.some ?_);exact fin good (by omega) h5
 | succ e ih=>
  intro f bad good ps hp h1 h2 h3 h4 h5;obtain⟨f,rfl⟩:∃g,f=g+1:=⟨f-1,by omega⟩;rw[UC];have hp2:=Int.pow_succ 2 e;rw[au (by omega) (by omega),au (n:=good-bad) (by omega) (by omega),Int.tdiv_eq_ediv_of_nonneg (by omega),au (by omega) (by omega)];refine P.dec (fun hk=>?_) (fun hk=>P.some ?_)
  ·dsimp only;refine P.call (EM h _ ps hp hi) fun r hr'=>?_;obtain⟨b,q,rfl,hq⟩:=hr';rw[au (by omega) (by omega)];refine P.bool (fun _=>?_) fun _=>?_
   ·apply ih<;>omega
   ·apply ih<;>omega
  ·exact fin good (by omega) h5
theorem akw{m:dm}{n:dV}(h:Vn m n){i:Int}(hi:0<=i/\i<m.1.length){st sg room:Int}(hr0:0<=room)(hr:room<=140737488355328)(hg:sg=1/\st+room=70368744177664\/sg=-1/\st-room=-70368744177664):∀(e f:Nat) (bad good:Int) (ps:List Int),ps.length=m.1.length->room<=good*2 ^ e->e<f->0<=bad->bad<good->good<=281474976710656->P (FZ 1000 f st sg room bad good i n.1 n.2 ps) fun r=>Rg r.1.1:=by
 have two:∀(bad good:Int) (ps:List Int),ps.length=m.1.length->0<=bad->bad<good->good<=room->P (pc 1000 1000 st sg bad good i n.1 n.2 ps) fun r=>Rg r.1.1:=fun bad good ps hp h1 h2 h3=>
  ZS h hi hr hg 60 1000 bad good ps hp (by rw[show(2:Int) ^ 60=1152921504606846976 by decide];omega) (by omega) h1 h2 h3
 have fin:∀(bad good:Int) (ps:List Int),ps.length=m.1.length->0<=bad->P (bif decide (room<=bad) then some ((0,false),(ps,i,n)) else Option.bind (ry 1000 (W (st+W (sg*room))) ps i n) fun r=>bif !r.1 then some ((0,false),(r.2.1,r.2.2.1,r.2.2.2)) else pc 1000 1000 st sg bad room r.2.2.1 r.2.2.2.1 r.2.2.2.2 r.2.1) fun r=>Rg r.1.1:=fun bad good ps hp h1=>by
  refine P.dec (fun _=>P.some ⟨by dsimp only;omega,by dsimp only;omega⟩) fun _=>P.call (EM h _ ps hp hi) fun r hr'=>?_;obtain⟨b,q,rfl,hq⟩:=hr';refine P.not (fun _=>P.some ⟨by dsimp only;omega,by dsimp only;omega⟩) fun _=>two bad room q hq h1 (by omega) (by omega)
 intro e;induction e with
 | zero=>
  intro f bad good ps hp h1 h2 h3 h4 h5;obtain⟨f,rfl⟩:∃g,f=g+1:=⟨f-1,by omega⟩;rw[Int.pow_zero] at h1;rw[RQ];refine P.dec (fun _=>by omega) fun _=>P.dec (fun _=>fin bad good ps hp h3) fun _=>by omega
 | succ e ih=>
  intro f bad good ps hp h1 h2 h3 h4 h5;obtain⟨f,rfl⟩:∃g,f=g+1:=⟨f-1,by omega⟩;have hp2:(2:Int) ^ (e+1)=2*2 ^ e:=by rw[Int.pow_succ,Int.mul_comm]
  rw[hp2,<-Int.mul_assoc] at h1;rw[RQ];refine P.dec (fun _=>?_) fun _=>P.dec (fun _=>fin bad good ps hp h3) fun _=>by omega
  refine P.call (EM h _ ps hp hi) fun r hr'=>?_;obtain⟨b,q,rfl,hq⟩:=hr';refine P.not (fun _=>?_) fun _=>P.dec (fun _=>fin bad good q hq h3) fun _=>two _ _ _ hq h3 h4 (by omega);rw[au (by omega) (by omega)];exact ih f good (good*2) q hq h1 (by omega) (by omega) (by omega) (by omega)
theorem ath{m:dm}{n:dV}(h:Vn m n)(hm:m.1.length<=64)(ps:List Int)(hp:ps.length=m.1.length)(hr:∀x,x∈ps->Rg x){i:Int}(hi:0<=i/\i<m.1.length):P (F0 1000 n ps i) fun r=>Rg r.1:=by
 unfold F0;have hx:=hr _ (dU 0 (show i.toNat<ps.length by omega));unfold Rg at hx;refine P.fits (by omega) (by omega) (P.aA (by omega) ?_);refine P.call (R:=fun r=>Rg r.1.1) ?_ fun r hr=>P.some hr;generalize ps.getD i.toNat 0=st at hx;unfold NI;refine P.call (EM h _ ps hp hi) fun r hr'=>?_;obtain⟨b,q,rfl,hq⟩:=hr';refine P.bool (fun _=>P.some hx) fun _=>?_;have go:∀(sg room:Int),0<=room->room<=140737488355328->(sg=1/\st+room=70368744177664\/sg=-1/\st-room=-70368744177664)->P (Ez 1000 1000 st sg room i n.1 n.2 q) fun r=>Rg r.1.1:=fun sg room h0 h1 hg=>by
  rw[an0];exact akw h hi h0 h1 hg 47 1000 0 1 q hq (by rw[show(2:Int) ^ 47=140737488355328 by decide];omega) (by omega) (by omega) (by omega) (by omega)
 refine P.not (fun _=>?_) fun _=>?_
 ·rw[au (by omega) (by omega)];exact go _ _ (by omega) (by omega) (.inr ⟨rfl,by omega⟩)
 ·rw[au (by omega) (by omega)];exact go _ _ (by omega) (by omega) (.inl ⟨rfl,by omega⟩)
theorem Yg{m:dm}{n:dV}(h:Vn m n)(ps:List Int)(hp:ps.length=m.1.length)(i:Int)(l:List Int)(hl:l.length<=256)(hi:fI n.1.length l):∀(f:Nat) (k s:Int),0<=k->l.length<f+k->k<=l.length->P (A6 1000 f ps i s l l.length k n.1 n.2) tt:=by
 intro f;induction f with
 | zero=>intros;omega
 | succ f ih=>
  intro k s h0 h1 h2;rw[at7,au (n:=k+1) (by omega) (by omega)];refine P.dec (fun hk=>?_) (fun hk=>P.some trivial);have hx:=hi.get (k:=k.toNat) (by omega);have hv:=h.p _ (dU iG (show(l.getD k.toNat 0).toNat<n.1.length by omega));have h3:=hv.1;have h4:=hv.2.1;dsimp only;repeat' first | with_reducible (first | refine P.aA ?_ ?_ | refine P.fits ?_ (by decide) ?_ | refine P.mk ?_ (by decide) ?_ | refine P.sl ?_ ?_ | exact P.some trivial | exact P.some rfl | refine P.dec ?_ ?_ | refine P.beq ?_ ?_ | refine P.bne ?_ ?_ | refine P.not ?_ ?_ | refine P.bool ?_ ?_ | refine P.call (K6 hv _) (fun r hr=>?_) | refine P.call (Ms hv _) (fun r hr=>?_) | apply ih | intro hw) | omega
theorem RG{m:dm}{n:dV}(h:Vn m n)(ps:List Int)(hp:ps.length=m.1.length){i:Int}(hi:0<=i/\i<m.1.length):P (AP 1000 n ps i) tt:=by
 have ha:=h.al;unfold AP;have hr:=h.at_ _ (dU [] (show i.toNat<n.2.length by omega));refine P.aA (by omega) ?_;exact Yg h ps hp i _ hr.1 hr.2 1000 0 0 (by omega) (by omega) (by omega)
theorem DO{m:dm}{n:dV}(h:Vn m n)(x:Int)(ps:List Int)(hp:ps.length=m.1.length){i:Int}(hi:0<=i/\i<m.1.length):P (qB 1000 x ps i n) fun r=>∃b q,r=(b,(q,(i,n)))/\q.length=m.1.length:=by
 unfold qB;refine P.aA (by omega) (P.call (RG h _ (by rw[List.length_set];exact hp) hi) fun r _=>P.some ⟨_,_,rfl,by rw[List.length_set];exact hp⟩)
theorem aiq{m:dm}{n:dV}(h:Vn m n){i:Int}(hi:0<=i/\i<m.1.length){st sg room:Int}(hr:room<=140737488355328)(hg:sg=1/\st+room=70368744177664\/sg=-1/\st-room=-70368744177664):∀(e f:Nat) (bad good:Int) (ps:List Int),ps.length=m.1.length->good-bad<=2 ^ e->e<f->0<=bad->bad<good->good<=room->P (oR 1000 f st sg bad good i n.1 n.2 ps) fun r=>Rg r.1.1:=by
 have fin:∀good:Int,0<=good->good<=room->Rg (W (st+W (sg*good))):=fun good h0 h5=>by
  unfold Rg;rcases hg with⟨rfl,g⟩ | ⟨rfl,g⟩
  ·rw[au (n:=1*good) (by omega) (by omega),au (by omega) (by omega)];omega
  ·rw[au (n:=-1*good) (by omega) (by omega),au (by omega) (by omega)];omega
 intro e;induction e with
 | zero=>
  intro f bad good ps hp h1 h2 h3 h4 h5;obtain⟨f,rfl⟩:∃g,f=g+1:=⟨f-1,by omega⟩;rw[Int.pow_zero] at h1;rw[X6,au (by omega) (by omega)];refine P.dec (fun hk=>by omega) (fun hk=>P.some ?_);exact fin good (by omega) h5
 | succ e ih=>
  intro f bad good ps hp h1 h2 h3 h4 h5;obtain⟨f,rfl⟩:∃g,f=g+1:=⟨f-1,by omega⟩;rw[X6];have hp2:=Int.pow_succ 2 e;rw[au (by omega) (by omega),au (n:=good-bad) (by omega) (by omega),Int.tdiv_eq_ediv_of_nonneg (by omega),au (by omega) (by omega)];refine P.dec (fun hk=>?_) (fun hk=>P.some ?_)
  ·dsimp only;refine P.call (DO h _ ps hp hi) fun r hr'=>?_;obtain⟨b,q,rfl,hq⟩:=hr';rw[au (by omega) (by omega)];refine P.bool (fun _=>?_) fun _=>?_
   ·apply ih<;>omega
   ·apply ih<;>omega
  ·exact fin good (by omega) h5
theorem ait{m:dm}{n:dV}(h:Vn m n){i:Int}(hi:0<=i/\i<m.1.length){st sg room:Int}(hr0:0<=room)(hr:room<=140737488355328)(hg:sg=1/\st+room=70368744177664\/sg=-1/\st-room=-70368744177664):∀(e f:Nat) (bad good:Int) (ps:List Int),ps.length=m.1.length->room<=good*2 ^ e->e<f->0<=bad->bad<good->good<=281474976710656->P (Fk 1000 f st sg room bad good i n.1 n.2 ps) fun r=>Rg r.1.1:=by
 have two:∀(bad good:Int) (ps:List Int),ps.length=m.1.length->0<=bad->bad<good->good<=room->P (oR 1000 1000 st sg bad good i n.1 n.2 ps) fun r=>Rg r.1.1:=fun bad good ps hp h1 h2 h3=>
  aiq h hi hr hg 60 1000 bad good ps hp (by rw[show(2:Int) ^ 60=1152921504606846976 by decide];omega) (by omega) h1 h2 h3
 have fin:∀(bad good:Int) (ps:List Int),ps.length=m.1.length->0<=bad->P (bif decide (room<=bad) then some ((0,false),(ps,i,n)) else Option.bind (qB 1000 (W (st+W (sg*room))) ps i n) fun r=>bif !r.1 then some ((0,false),(r.2.1,r.2.2.1,r.2.2.2)) else oR 1000 1000 st sg bad room r.2.2.1 r.2.2.2.1 r.2.2.2.2 r.2.1) fun r=>Rg r.1.1:=fun bad good ps hp h1=>by
  refine P.dec (fun _=>P.some ⟨by dsimp only;omega,by dsimp only;omega⟩) fun _=>P.call (DO h _ ps hp hi) fun r hr'=>?_;obtain⟨b,q,rfl,hq⟩:=hr';refine P.not (fun _=>P.some ⟨by dsimp only;omega,by dsimp only;omega⟩) fun _=>two bad room q hq h1 (by omega) (by omega)
 intro e;induction e with
 | zero=>
  intro f bad good ps hp h1 h2 h3 h4 h5;obtain⟨f,rfl⟩:∃g,f=g+1:=⟨f-1,by omega⟩;rw[Int.pow_zero] at h1;rw[Te];refine P.dec (fun _=>by omega) fun _=>P.dec (fun _=>fin bad good ps hp h3) fun _=>by omega
 | succ e ih=>
  intro f bad good ps hp h1 h2 h3 h4 h5;obtain⟨f,rfl⟩:∃g,f=g+1:=⟨f-1,by omega⟩;have hp2:(2:Int) ^ (e+1)=2*2 ^ e:=by rw[Int.pow_succ,Int.mul_comm]
  rw[hp2,<-Int.mul_assoc] at h1;rw[Te];refine P.dec (fun _=>?_) fun _=>P.dec (fun _=>fin bad good ps hp h3) fun _=>by omega
  refine P.call (DO h _ ps hp hi) fun r hr'=>?_;obtain⟨b,q,rfl,hq⟩:=hr';refine P.not (fun _=>?_) fun _=>P.dec (fun _=>fin bad good q hq h3) fun _=>two _ _ _ hq h3 h4 (by omega);rw[au (by omega) (by omega)];exact ih f good (good*2) q hq h1 (by omega) (by omega) (by omega) (by omega)
theorem arw{m:dm}{n:dV}(h:Vn m n)(hm:m.1.length<=64)(ps:List Int)(hp:ps.length=m.1.length)(hr:∀x,x∈ps->Rg x){i:Int}(hi:0<=i/\i<m.1.length):P (Is 1000 n ps i) fun r=>Rg r.1:=by
 unfold Is;have hx:=hr _ (dU 0 (show i.toNat<ps.length by omega));unfold Rg at hx;refine P.fits (by omega) (by omega) (P.aA (by omega) ?_);refine P.call (R:=fun r=>Rg r.1.1) ?_ fun r hr=>P.some hr;generalize ps.getD i.toNat 0=st at hx;unfold Nn;refine P.call (DO h _ ps hp hi) fun r hr'=>?_;obtain⟨b,q,rfl,hq⟩:=hr';refine P.bool (fun _=>P.some hx) fun _=>?_;have go:∀(sg room:Int),0<=room->room<=140737488355328->(sg=1/\st+room=70368744177664\/sg=-1/\st-room=-70368744177664)->P (G1 1000 1000 st sg room i n.1 n.2 q) fun r=>Rg r.1.1:=fun sg room h0 h1 hg=>by
  rw[atd];exact ait h hi h0 h1 hg 47 1000 0 1 q hq (by rw[show(2:Int) ^ 47=140737488355328 by decide];omega) (by omega) (by omega) (by omega) (by omega)
 refine P.not (fun _=>?_) fun _=>?_
 ·rw[au (by omega) (by omega)];exact go _ _ (by omega) (by omega) (.inr ⟨rfl,by omega⟩)
 ·rw[au (by omega) (by omega)];exact go _ _ (by omega) (by omega) (.inl ⟨rfl,by omega⟩)
end
noncomputable section
theorem ase(st:List Int)(l:List bj)(lo:List Bool)(hl:l.length<=64)(h1:st.length=l.length)(h2:lo.length=l.length):∀(f:Nat) (k:Int),0<=k->l.length<f+k->k<=l.length->P (xb 1000 f st lo l l.length k) tt:=by
 intro f;induction f with
 | zero=>intros;omega
 | succ f ih=>
  intros;rw[ap0];try simp(disch:=omega) only[au]
  repeat' first | with_reducible (first | refine P.aA ?_ ?_ | refine P.fits ?_ (by decide) ?_ | refine P.mk ?_ (by decide) ?_ | refine P.sl ?_ ?_ | exact P.some trivial | exact P.some rfl | refine P.dec ?_ ?_ | refine P.beq ?_ ?_ | refine P.bne ?_ ?_ | refine P.not ?_ ?_ | refine P.bool ?_ ?_ | apply ih | intro hw) | omega
theorem axe{a:bQ}{s:bF}(h:Va a)(st:List Int)(h1:st.length=a.1.1.length):∀(f:Nat) (k:Int),0<=k->st.length<f+k->k<=st.length->(∀i,i<k.toNat->Rg (st.getD i 0))->P (Ip 1000 f st st st.length k a.1.1 a.1.2 a.2.1 a.2.2) fun r=>r=0->∀i,i<st.length->Rg (st.getD i 0):=by
 have hn:=h.m.n;intro f;induction f with
 | zero=>intros;omega
 | succ f ih=>
  intro k h0 h2 h3 h4;rw[atv,au (by omega) (by omega)];refine P.dec (fun hk=>?_) (fun hk=>?_)
  ·refine P.aA (by omega) (P.dec (fun _=>P.some fun e=>by cases e) fun g1=>P.dec (fun _=>P.some fun e=>by cases e) fun g2=>?_);refine ih _ (by omega) (by omega) (by omega) fun i hi=>?_;by_cases e:i=k.toNat
   ·subst e;unfold Rg;omega
   ·exact h4 i (by omega)
  ·refine P.call (AW h.m) fun r hr=>(ase st a.1.1 r hn h1 hr 1000 0 (by omega) (by omega) (by omega)).mono fun _ _ _ i hi=>h4 i (by omega)
theorem ZY{α:Type}{Q:α->Prop}{l:List α}{d:α}(h:∀i,i<l.length->Q (l.getD i d)):∀x,x∈l->Q x:=fun x hx=>by
 obtain⟨i,hi,rfl⟩:=List.getElem_of_mem hx;have:=h i hi;rw[List.getD_eq_getElem?_getD,List.getElem?_eq_getElem hi] at this;exact this
structure Okr (a:bQ) (s:bF) (st:List Int):Prop where
 f:Fit a s
 l:st.length=a.1.1.length
 g:∀x,x∈st->Rg x
theorem Tb{a:bQ}(s:bF)(h:Va a)(st:List Int):P (Cw 1000 a s st) fun r=>r=0->Okr a s st:=by
 have hn:=h.m.n;unfold Cw;rw[Ec h,bH];refine P.bne (fun e=>absurd rfl e) fun _=>P.call (M6 h) fun r hr=>P.not (fun _=>P.some fun e=>by cases e) fun e1=>P.bne (fun _=>P.some fun e=>by cases e) fun e2=>?_;exact(axe (s:=s) h st (by omega) 1000 0 (by omega) (by omega) (by omega) (fun i hi=>by simp at hi)).mono fun r hr' e=>⟨hr e1,by omega,ZY (hr' e)⟩
theorem art{a:bQ}{n:dV}(h:Va a)(hv:Vn a.1 n)(n1:Nat)(lo:List Bool)(hlo:lo.length=a.1.1.length)(k1:Int)(u:List bj)(v:List aR)(w:List bC)(z:List bu)
  (ih1:∀now:List Int,now.length=a.1.1.length->(∀x,x∈now->Rg x)->P (zN 1000 n1 lo (W (k1+1)) u v w z n.1 n.2 now) fun r=>r.1.2=0->r.1.1.length=a.1.1.length):
  ∀(f:Nat) (k:Int) (c:Bool) (now:List Int),0<=k->a.1.1.length<f+k->k<=a.1.1.length->now.length=a.1.1.length->(∀x,x∈now->Rg x)->P (vh 1000 n1 f lo k1 c a.1.1 a.1.1.length k u v w z n.1 n.2 now) fun r=>r.1.2=0->r.1.1.length=a.1.1.length:=by
 have hn:=h.m.n;intro f;induction f with
 | zero=>intros;omega
 | succ f ih=>
  intro k c now h0 h1 h2 h3 h4;rw[aj1,au (n:=k+1) (by omega) (by omega)];refine P.dec (fun hk=>?_) (fun hk=>P.not (fun _=>P.some fun _=>h3) fun _=>ih1 now h3 h4);refine P.aA (by omega) (P.bool (fun _=>ih _ _ _ (by omega) (by omega) (by omega) h3 h4) fun _=>P.aA (by omega) (P.bool (fun _=>ih _ _ _ (by omega) (by omega) (by omega) h3 h4) fun _=>?_));refine P.call (ath hv hn now h3 h4 (by omega)) fun r hr=>P.not (fun _=>P.some fun e=>by cases e) fun _=>P.aA (by omega) (P.bne (fun _=>P.aA (by omega) ?_) fun _=>ih _ _ _ (by omega) (by omega) (by omega) h3 h4)
  exact ih _ _ _ (by omega) (by omega) (by omega) (by rw[List.length_set];exact h3) (mem_set h4 hr)
theorem apy{a:bQ}{n:dV}(h:Va a)(hv:Vn a.1 n)(lo:List Bool)(hlo:lo.length=a.1.1.length):
  ∀(f:Nat) (k:Int) (now:List Int),0<=k->200<f+k->k<=200->now.length=a.1.1.length->(∀x,x∈now->Rg x)->P (zN 1000 f lo k a.1.1 a.1.2 a.2.1 a.2.2 n.1 n.2 now) fun r=>r.1.2=0->r.1.1.length=a.1.1.length:=by
 have hn:=h.m.n;intro f;induction f with
 | zero=>intros;omega
 | succ f ih=>
  intro k now h0 h1 h2 h3 h4;rw[ajz];refine P.dec (fun hk=>?_) (fun hk=>P.some fun e=>by cases e);refine art h hv f lo hlo k _ _ _ _ (fun now h3 h4=>?_) 1000 0 false now (by omega) (by omega) (by omega) h3 h4;rw[au (by omega) (by omega)];exact ih _ now (by omega) (by omega) (by omega) h3 h4
theorem V2{a:bQ}(s:bF)(h:Va a)(st:List Int):P (Ab 1000 a s st) fun r=>r.1.2=0->Fit a s/\r.1.1.length=a.1.1.length:=by
 have hn:=h.m.n;unfold Ab KT;refine P.call (R:=fun r=>r.1.2=0->Fit a s/\r.1.1.length=a.1.1.length) ?_ fun r hr=>P.some hr;refine P.call (Tb s h st) fun r hr=>P.bne (fun e1=>P.some fun e2=>absurd e2 e1) fun e=>?_;have ho:=hr e;have:=ho.l;refine P.call (AW h.m) fun lo hlo=>P.call (Ib h ho.f) fun n hv=>P.fits (by omega) (by omega) ?_;exact(apy h hv lo hlo 1000 0 st (by omega) (by omega) (by omega) ho.l ho.g).mono fun r hr e=>⟨ho.f,hr e⟩
theorem atp{a:bQ}{n:dV}(h:Va a)(hv:Vn a.1 n)(n1:Nat)(lo:List Bool)(hlo:lo.length=a.1.1.length)(k1:Int)(u:List bj)(v:List aR)(w:List bC)(z:List bu)
  (ih1:∀now:List Int,now.length=a.1.1.length->(∀x,x∈now->Rg x)->P (BH 1000 n1 lo (W (k1+1)) u v w z n.1 n.2 now) fun r=>r.1.2=0->r.1.1.length=a.1.1.length):
  ∀(f:Nat) (k:Int) (c:Bool) (now:List Int),0<=k->a.1.1.length<f+k->k<=a.1.1.length->now.length=a.1.1.length->(∀x,x∈now->Rg x)->P (uz 1000 n1 f lo k1 c a.1.1 a.1.1.length k u v w z n.1 n.2 now) fun r=>r.1.2=0->r.1.1.length=a.1.1.length:=by
 have hn:=h.m.n;intro f;induction f with
 | zero=>intros;omega
 | succ f ih=>
  intro k c now h0 h1 h2 h3 h4;rw[awu,au (n:=k+1) (by omega) (by omega)];refine P.dec (fun hk=>?_) (fun hk=>P.not (fun _=>P.some fun _=>h3) fun _=>ih1 now h3 h4);refine P.aA (by omega) (P.bool (fun _=>ih _ _ _ (by omega) (by omega) (by omega) h3 h4) fun _=>P.aA (by omega) (P.bool (fun _=>ih _ _ _ (by omega) (by omega) (by omega) h3 h4) fun _=>?_));refine P.call (arw hv hn now h3 h4 (by omega)) fun r hr=>P.not (fun _=>P.some fun e=>by cases e) fun _=>P.aA (by omega) (P.bne (fun _=>P.aA (by omega) ?_) fun _=>ih _ _ _ (by omega) (by omega) (by omega) h3 h4)
  exact ih _ _ _ (by omega) (by omega) (by omega) (by rw[List.length_set];exact h3) (mem_set h4 hr)
theorem ab6{a:bQ}{n:dV}(h:Va a)(hv:Vn a.1 n)(lo:List Bool)(hlo:lo.length=a.1.1.length):
  ∀(f:Nat) (k:Int) (now:List Int),0<=k->200<f+k->k<=200->now.length=a.1.1.length->(∀x,x∈now->Rg x)->P (BH 1000 f lo k a.1.1 a.1.2 a.2.1 a.2.2 n.1 n.2 now) fun r=>r.1.2=0->r.1.1.length=a.1.1.length:=by
 have hn:=h.m.n;intro f;induction f with
 | zero=>intros;omega
 | succ f ih=>
  intro k now h0 h1 h2 h3 h4;rw[awz];refine P.dec (fun hk=>?_) (fun hk=>P.some fun e=>by cases e);refine atp h hv f lo hlo k _ _ _ _ (fun now h3 h4=>?_) 1000 0 false now (by omega) (by omega) (by omega) h3 h4;rw[au (by omega) (by omega)];exact ih _ now (by omega) (by omega) (by omega) h3 h4
theorem aqk{a:bQ}(s:bF)(h:Va a)(st:List Int):P (EP 1000 a s st) fun r=>r.1.2=0->Fit a s/\r.1.1.length=a.1.1.length:=by
 have hn:=h.m.n;unfold EP Ld;refine P.call (R:=fun r=>r.1.2=0->Fit a s/\r.1.1.length=a.1.1.length) ?_ fun r hr=>P.some hr;refine P.call (Tb s h st) fun r hr=>P.bne (fun e1=>P.some fun e2=>absurd e2 e1) fun e=>?_;have ho:=hr e;have:=ho.l;refine P.call (AW h.m) fun lo hlo=>P.call (Ib h ho.f) fun n hv=>P.fits (by omega) (by omega) ?_;exact(ab6 h hv lo hlo 1000 0 st (by omega) (by omega) (by omega) ho.l ho.g).mono fun r hr e=>⟨ho.f,hr e⟩
theorem abu{a:bQ}(s:bF)(h:Va a):P (Fx 1000 a s) fun r=>r.2=0->Fit a s/\r.1.1.length=a.1.1.length/\r.1.2.length=a.1.1.length:=by
 have hn:=h.m.n;unfold Fx;refine P.mk (by omega) (by omega) (P.call (V2 s h _) fun r1 h1=>P.bne (fun e1=>P.some fun e2=>absurd e2 e1) fun e1=>P.call (aqk s h _) fun r2 h2=>P.bne (fun e1=>P.some fun e2=>absurd e2 e1) fun e2=>P.call (V2 s h _) fun r3 h3=>P.bne (fun e1=>P.some fun e2=>absurd e2 e1) fun e3=>P.some fun _=>⟨(h1 e1).1,(h3 e3).2,(h2 e2).2⟩)
theorem aas{a:bQ}{n:dV}(h:Va a)(hv:Vn a.1 n)(lo:List Bool)(hlo:lo.length=a.1.1.length)(p q:List Int)(hp:p.length=a.1.1.length)(hq:q.length=a.1.1.length):∀(f:Nat) (k:Int),0<=k->a.1.1.length<f+k->k<=a.1.1.length->P (wK 1000 f lo a.1.1 a.1.1.length k p q n.1 n.2) tt:=by
 have hn:=h.m.n;intro f;induction f with
 | zero=>intros;omega
 | succ f ih=>
  intro k h0 h1 h2;rw[aid,au (by omega) (by omega)];refine P.dec (fun hk=>?_) (fun hk=>P.some trivial);repeat' first | with_reducible (first | refine P.aA ?_ ?_ | refine P.fits ?_ (by decide) ?_ | refine P.mk ?_ (by decide) ?_ | refine P.sl ?_ ?_ | exact P.some trivial | exact P.some rfl | refine P.dec ?_ ?_ | refine P.beq ?_ ?_ | refine P.bne ?_ ?_ | refine P.not ?_ ?_ | refine P.bool ?_ ?_ | refine P.call (RG hv _ hq (And.intro h0 hk)) (fun r hr=>?_) | refine P.call (XX hv _ hp (And.intro h0 hk)) (fun r hr=>?_) | apply ih | intro hw) | omega
theorem av5{a:bQ}{s b:bF}(n1:Nat)(n i:Int)(l:List Int)(hl:l.length<=2)(hR:P (zJ 1000 n1 n (W (i+1)) a.1.1 a.1.2 a.2.1 a.2.2 s.1 s.2 b.1 b.2) tt):∀(f:Nat) (k:Int),0<=k->l.length<f+k->k<=l.length->P (Ew 1000 n1 f n i l l.length k a.1.1 a.1.2 a.2.1 a.2.2 s.1 s.2 b.1 b.2) tt:=by
 intro f;induction f with
 | zero=>intros;omega
 | succ f ih=>
  intro k h0 h1 h2;rw[ai0,au (n:=k+1) (by omega) (by omega)];repeat' first | with_reducible (first | refine P.aA ?_ ?_ | refine P.fits ?_ (by decide) ?_ | refine P.mk ?_ (by decide) ?_ | refine P.sl ?_ ?_ | exact P.some trivial | exact P.some rfl | refine P.dec ?_ ?_ | refine P.beq ?_ ?_ | refine P.bne ?_ ?_ | refine P.not ?_ ?_ | refine P.bool ?_ ?_ | apply ih | exact hR | intro hw) | omega
theorem ao5{a:bQ}{s b:bF}(h:Va a)(hs:Fit a s)(h1:b.1.length=a.1.1.length)(h2:b.2.length=a.1.1.length):∀(f:Nat) (k:Int),0<=k->a.1.1.length<f+k->k<=a.1.1.length->P (zJ 1000 f a.1.1.length k a.1.1 a.1.2 a.2.1 a.2.2 s.1 s.2 b.1 b.2) tt:=by
 have hn:=h.m.n;intro f;induction f with
 | zero=>intros;omega
 | succ f ih=>
  intro k h0 h3 h4;rw[acz];refine P.dec (fun hk=>?_) (fun hk=>?_)
  ·refine P.aA (by omega) (P.aA (by omega) ?_);refine av5 f _ k _ (Nat.le_refl _) ?_ 1000 0 (by omega) (by simp) (by simp);rw[au (by omega) (by omega)];apply ih<;>omega
  ·refine P.call (AW h.m) fun lo hlo=>P.call (Ib h hs) fun n hv=>?_;exact aas h hv lo hlo b.1 b.2 h1 h2 1000 0 (by omega) (by omega) (by omega)
theorem avn{a:bQ}(s b:bF)(h:Va a):P (Gb 1000 a s b) fun r=>r=0->Fit a s/\b.1.length=a.1.1.length/\b.2.length=a.1.1.length:=by
 have hn:=h.m.n;unfold Gb;rw[Ec h,bH];refine P.bne (fun e=>absurd rfl e) fun _=>P.call (M6 h) fun r hr=>P.not (fun _=>P.some fun e=>by cases e) fun e1=>P.bne (fun _=>P.some fun e=>by cases e) fun e2=>P.bne (fun _=>P.some fun e=>by cases e) fun e3=>?_;rw[anh,show(b.1.length:Int)=a.1.1.length from e2];exact(ao5 h (hr e1) (by omega) (by omega) 1000 0 (by omega) (by omega) (by omega)).mono fun _ _ _=>⟨hr e1,by omega,by omega⟩
theorem apj{a:bQ}{n:dV}(h:Va a)(hv:Vn a.1 n)(lo:List Bool)(hlo:lo.length=a.1.1.length)(b:bF)(h1:b.1.length=a.1.1.length)(h2:b.2.length=a.1.1.length):∀(f:Nat) (k:Int) (out:List aJ),0<=k->n.1.length<f+k->k<=n.1.length->out.length=a.1.2.length->P (Aj 1000 f lo n.1 n.1.length k b.1 b.2 out) fun r=>r.length=a.1.2.length:=by
 have hn:=hv.pl;intro f;induction f with
 | zero=>intros;omega
 | succ f ih=>
  intro k out h0 h3 h4 h5;rw[auj,au (n:=k+1) (by omega) (by omega)];refine P.dec (fun hk=>?_) (fun hk=>P.some h5);have hp:=hv.p _ (dU iG (show k.toNat<n.1.length by omega));have g1:=hp.1;have g2:=hp.2.1;have g3:=hp.2.2.1;repeat' first | with_reducible (first | refine P.aA ?_ ?_ | refine P.fits ?_ (by decide) ?_ | refine P.mk ?_ (by decide) ?_ | refine P.sl ?_ ?_ | exact P.some trivial | exact P.some rfl | refine P.dec ?_ ?_ | refine P.beq ?_ ?_ | refine P.bne ?_ ?_ | refine P.not ?_ ?_ | refine P.bool ?_ ?_ | refine P.call (K6 hp _) (fun r hr=>?_) | refine P.call (Ms hp _) (fun r hr=>?_) | apply ih | rw[List.length_set] | intro hw) | omega
theorem ags{a:bQ}(s b:bF)(h:Va a):P (Hs 1000 a s b) fun r=>r.length<=128:=by
 have hn:=h.m.k;unfold Hs;refine P.call (avn s b h) fun r hr=>P.bne (fun _=>P.some (by simp)) fun e=>?_;obtain⟨hs,h1,h2⟩:=hr e;refine P.mk (by omega) (by omega) (P.call (AW h.m) fun lo hlo=>P.call (Ib h hs) fun n hv=>?_);exact(apj h hv lo hlo b h1 h2 1000 0 _ (by omega) (by have:=hv.pl;omega) (by omega) (by simp)).mono fun r hr=>by omega
theorem axk(l:List aR)(hl:l.length<=128):∀(f:Nat) (k:Int) (out:List aJ),0<=k->l.length<f+k->k<=l.length->out.length=l.length->P (Bo 1000 f l l.length k out) fun r=>r.1.length<=128:=by
 intro f;induction f with
 | zero=>intros;omega
 | succ f ih=>
  intro k out h0 h1 h2 h3;rw[arp,au (by omega) (by omega)];refine P.dec (fun hk=>?_) (fun hk=>P.some (by dsimp only;omega));repeat' first | with_reducible (first | refine P.aA ?_ ?_ | refine P.fits ?_ (by decide) ?_ | refine P.mk ?_ (by decide) ?_ | refine P.sl ?_ ?_ | exact P.some trivial | exact P.some rfl | refine P.dec ?_ ?_ | refine P.beq ?_ ?_ | refine P.bne ?_ ?_ | refine P.not ?_ ?_ | refine P.bool ?_ ?_ | refine P.call (pL) (fun r hr=>?_) | apply ih | rw[List.length_set] | intro hw) | omega
theorem aq5{a:bQ}(s:bF)(h:Va a):P (wQ 1000 a s) fun r=>r.1.length<=128:=by
 have hn:=h.m.k;unfold wQ;rw[Ec h,bH];refine P.bne (fun e=>absurd rfl e) fun _=>P.call (M6 h) fun r hr=>P.not (fun _=>P.some (by simp)) fun e1=>P.call (abu s h) fun r2 h2=>P.beq (fun e2=>?_) fun _=>P.mk (by omega) (by omega) ?_
 ·exact P.call (ags s r2.1 h) fun r3 h3=>P.some h3
 ·exact axk a.1.2 hn 1000 0 _ (by omega) (by omega) (by omega) (by simp)
end
noncomputable section
theorem SD(s:bJ)(m:aP)(t:Int):P (AF 1000 s m t) tt:=by
 unfold AF;repeat' first | with_reducible (first | refine P.aA ?_ ?_ | refine P.fits ?_ (by decide) ?_ | refine P.mk ?_ (by decide) ?_ | refine P.sl ?_ ?_ | exact P.some trivial | exact P.some rfl | refine P.dec ?_ ?_ | refine P.beq ?_ ?_ | refine P.bne ?_ ?_ | refine P.not ?_ ?_ | refine P.bool ?_ ?_ | refine P.call (pL) (fun r hr=>?_) | refine P.call (XB _) (fun r hr=>?_) | refine P.call (amr _) (fun r hr=>?_) | exact P.some trivial | intro hw) | rw[ZX] | omega
theorem Ri(s:bX)(m:List aP)(i t:Int):P (AQ 1000 s m i t) tt:=by
 unfold AQ mO;refine P.call (R:=fun r=>r=true->0<=i/\i<s.2.1.length) ?_ fun r hr=>P.not (fun _=>P.call pL fun _ _=>P.some trivial) fun e=>?_
 ·exact P.dec (fun h1=>P.some fun e=>⟨h1,of_decide_eq_true e⟩) fun _=>P.some fun e=>by cases e
 ·have:=hr e;repeat' first | with_reducible (first | refine P.aA ?_ ?_ | refine P.fits ?_ (by decide) ?_ | refine P.mk ?_ (by decide) ?_ | refine P.sl ?_ ?_ | exact P.some trivial | exact P.some rfl | refine P.dec ?_ ?_ | refine P.beq ?_ ?_ | refine P.bne ?_ ?_ | refine P.not ?_ ?_ | refine P.bool ?_ ?_ | refine P.call (pL) (fun r hr=>?_) | refine P.call (SD _ _ _) (fun r hr=>?_) | intro hw) | omega
theorem apv(l:List aJ)(hl:l.length<=900)(u v:Int):∀(f:Nat) (k a b:Int),0<=k->l.length<f+k->k<=l.length->P (HO 1000 f l l.length k u v a b) tt:=by
 intro f;induction f with
 | zero=>intros;omega
 | succ f ih=>
  intros;rw[apf];try simp(disch:=omega) only[au]
  repeat' first | with_reducible (first | refine P.aA ?_ ?_ | refine P.fits ?_ (by decide) ?_ | refine P.mk ?_ (by decide) ?_ | refine P.sl ?_ ?_ | exact P.some trivial | exact P.some rfl | refine P.dec ?_ ?_ | refine P.beq ?_ ?_ | refine P.bne ?_ ?_ | refine P.not ?_ ?_ | refine P.bool ?_ ?_ | refine P.call (pL) (fun r hr=>?_) | apply ih | intro hw) | omega
theorem aq3(l:List aJ)(hl:l.length<=900):P (Eb 1000 l) tt:=by
 unfold Eb;refine P.beq (fun _=>P.call pL fun _ _=>P.some trivial) fun _=>P.aA (by omega) ?_;exact apv l hl _ _ 1000 0 _ _ (by omega) (by omega) (by omega)
theorem awj(n:List aJ)(hn:n.length<=200):∀(f:Nat) (k:Int) (w:List Int) (bad:List Bool),bad.length<=900->w.length<=k->0<=k->bad.length<f+k->k<=bad.length->P (Bi 1000 f bad.length k n w bad) fun r=>r.1.1.length<=200:=by
 intro f;induction f with
 | zero=>intros;omega
 | succ f ih=>
  intro k w bad hb hw0 h0 h1 h2;rw[aah,au (by omega) (by omega)];refine P.dec (fun hk=>?_) (fun hk=>P.some hn);refine P.aA (by omega) (P.bool (fun _=>P.fits (by omega) (by omega) (ih _ _ _ hb (by rw[List.length_append,List.length_singleton];omega) (by omega) (by omega) (by omega))) fun _=>ih _ _ _ hb (by omega) (by omega) (by omega) (by omega))
theorem aor(kd t:Int)(se:List bJ)(hs:se.length<=64)(ms:List aP)(hm:ms.length<=900)(u v:Int):∀(f:Nat) (k:Int) (out:List aJ) (gone bad:List Bool),0<=k->ms.length<f+k->k<=ms.length->out.length<=200->gone.length=out.length->bad.length=se.length->P (oc 1000 f kd se t ms ms.length k u v out gone bad) fun r=>r.1.1.length<=200:=by
 intro f;induction f with
 | zero=>intros;omega
 | succ f ih=>
  intro k out gone bad h0 h1 h2 h3 h4 h5;have hW:W (k+1)=k+1:=au (by omega) (by omega);rw[att,hW];refine P.dec (fun hk=>?_) (fun hk=>awj out h3 1000 0 [] bad (by omega) (by simp) (by omega) (by omega) (by omega));dsimp only;repeat' first | with_reducible (first | refine P.aA ?_ ?_ | refine P.fits ?_ (by decide) ?_ | refine P.mk ?_ (by decide) ?_ | refine P.sl ?_ ?_ | exact P.some trivial | exact P.some rfl | refine P.dec ?_ ?_ | refine P.beq ?_ ?_ | refine P.bne ?_ ?_ | refine P.not ?_ ?_ | refine P.bool ?_ ?_ | refine P.call (SD _ _ _) (fun r hr=>?_) | refine P.call (aq3 _ (Nat.le_of_ble_eq_true rfl)) (fun r hr=>?_) | rw[hW] | apply ih | simp only[List.length_set] | intro hw) | rw[aaf] | rw[akk] | omega
theorem awx(l:List aJ)(hl:l.length<=200)(se:List bJ)(hs:se.length<=64)(ms:List aP)(hm:ms.length<=900)(t:Int):P (Be 1000 l se ms t) fun r=>r.1.1.length<=200:=by
 unfold Be;refine P.call pL fun r1 _=>P.call ?_ fun r hr=>P.some hr;unfold Ma;refine P.fits (by omega) (by omega) (P.mk (by omega) (by omega) (P.mk (by omega) (by omega) ?_));exact aor 3 t se hs ms hm _ _ 1000 0 l _ _ (by omega) (by omega) (by omega) hl (by simp) (by simp)
abbrev sS(x:aT):bX:=x.1
abbrev sT(x:aT):Int:=x.2.1
abbrev sR(x:aT):aB:=x.2.2.1
abbrev sM(x:aT):List aP:=x.2.2.2.1
abbrev sW(x:aT):List bt:=x.2.2.2.2.1
abbrev sC(x:aT):List bt:=x.2.2.2.2.2.1
abbrev sF(x:aT):cz:=x.2.2.2.2.2.2.1
abbrev sQ(x:aT):eT:=x.2.2.2.2.2.2.2.1
abbrev sL(x:aT):List aP:=x.2.2.2.2.2.2.2.2
theorem axc(s:bX)(hs:s.2.1.length<=64)(ms:List aP)(t kd tg n:Int)(ax:List Int)(ay:Int)(aO aH:List bt)(aE:List bV)(aI:List Int)(aF az aG aU bb aQ:Int)(aZ:List aP)(Bg:List Int)(O0:Int)(Ay KN:List bt)(vg:List bV)(Av:List Int)(Nt vM zF MU uF Bq:Int)(Lc:List aP):
  ∀(f:Nat) (k:Int),0<=k->s.2.1.length<f+k->k<=s.2.1.length->∃r,yn 1000 f kd tg n s.2.1 s.2.1.length k s.1.1.1 s.1.1.2 s.1.2.1 s.1.2.2 s.2.1 s.2.2.1 s.2.2.2.1 s.2.2.2.2 t ax ay ms aO aH aE aI aF az aG aU bb aQ aZ=some r/\yn 1000 f kd tg n s.2.1 s.2.1.length k s.1.1.1 s.1.1.2 s.1.2.1 s.1.2.2 s.2.1 s.2.2.1 s.2.2.2.1 s.2.2.2.2 t Bg O0 ms Ay KN vg Av Nt vM zF MU uF Bq Lc=some r:=by
 intro f;induction f with
 | zero=>intros;omega
 | succ f ih=>
  intro k h0 h1 h2;rw[RN,RN,au (by omega) (by omega)];by_cases hk:k<(s.2.1.length:Int)
  ·obtain⟨kn,e,_⟩:=Ri s ms k t;have ih:=ih (k+1) (by omega) (by omega) (by omega);have e:=e;rw[decide_eq_true hk,fN (by omega),e];simp only[cond_true,bH];cases(s.2.1.getD k.toNat gJ).2.1 !=kd with
   | true=>simp only[cond_true];exact ih
   | false=>
    simp only[cond_false];cases(s.2.1.getD k.toNat gJ).2.2.1 !=tg with
    | true=>simp only[cond_true];exact ih
    | false=>
     simp only[cond_false];cases kn.1==kn.2 with
     | false=>exact⟨_,rfl,rfl⟩
     | true=>
      simp only[cond_true];cases decide (kn.1>=0) with
      | false=>exact⟨_,rfl,rfl⟩
      | true=>
       simp only[cond_true];cases decide (kn.1<n)<;>exact⟨_,rfl,rfl⟩
  ·rw[decide_eq_false hk];exact⟨_,rfl,rfl⟩
structure zE (x y:aT):Prop where
 s:sS x=sS y
 t:sT x=sT y
 m:sM x=sM y
theorem TH{x y:aT}(h:zE x y)(hs:(sS x).2.1.length<=64)(kd tg n:Int):∃r,wW 1000 x kd tg n=some r/\wW 1000 y kd tg n=some r:=by
 obtain⟨h1,h2,h3⟩:=h;have hs:x.1.2.1.length<=64:=hs;unfold wW;rw[<-show x.1=y.1 from h1,<-show x.2.1=y.2.1 from h2,<-show x.2.2.2.1=y.2.2.2.1 from h3];exact axc x.1 hs _ _ _ _ _ _ _ _ _ _ _ _ _ _ _ _ _ _ _ _ _ _ _ _ _ _ _ _ _ _ _ 1000 0 (by omega) (by omega) (by omega)
theorem as6{x y:aT}(h:zE x y)(hs:(sS x).2.1.length<=64)(l:List bu)(hl:l.length<=900)(a:List Int):∀(f:Nat) (k:Int) (out:List Int),0<=k->l.length<f+k->k<=l.length->out.length<=k->∃r,zH 1000 f l l.length k x.1.1.1.1 x.1.1.1.2 x.1.1.2.1 x.1.1.2.2 x.1.2.1 x.1.2.2.1 x.1.2.2.2.1 x.1.2.2.2.2 x.2.1 x.2.2.1.1 x.2.2.1.2 x.2.2.2.1 x.2.2.2.2.1 x.2.2.2.2.2.1 x.2.2.2.2.2.2.1.1 x.2.2.2.2.2.2.1.2.1 x.2.2.2.2.2.2.1.2.2 x.2.2.2.2.2.2.2.1.1 x.2.2.2.2.2.2.2.1.2.1 x.2.2.2.2.2.2.2.1.2.2.1 x.2.2.2.2.2.2.2.1.2.2.2.1 x.2.2.2.2.2.2.2.1.2.2.2.2 x.2.2.2.2.2.2.2.2 a out=some r/\
  zH 1000 f l l.length k y.1.1.1.1 y.1.1.1.2 y.1.1.2.1 y.1.1.2.2 y.1.2.1 y.1.2.2.1 y.1.2.2.2.1 y.1.2.2.2.2 y.2.1 y.2.2.1.1 y.2.2.1.2 y.2.2.2.1 y.2.2.2.2.1 y.2.2.2.2.2.1 y.2.2.2.2.2.2.1.1 y.2.2.2.2.2.2.1.2.1 y.2.2.2.2.2.2.1.2.2 y.2.2.2.2.2.2.2.1.1 y.2.2.2.2.2.2.2.1.2.1 y.2.2.2.2.2.2.2.1.2.2.1 y.2.2.2.2.2.2.2.1.2.2.2.1 y.2.2.2.2.2.2.2.1.2.2.2.2 y.2.2.2.2.2.2.2.2 a out=some r:=by
 intro f;induction f with
 | zero=>intros;omega
 | succ f ih=>
  intro k out h0 h1 h2 h3;rw[XA,XA,au (by omega) (by omega)];by_cases hk:k<(l.length:Int)
  ·obtain⟨r,e1,e2⟩:=TH h hs 6 k ((l.getD k.toNat iZ).2.2.length:Int);rw[decide_eq_true hk,fN (by omega)];simp only[cond_true];refine Exists.imp (fun q hq=>?_) (ih (k+1) (out++[r]) (by omega) (by omega) (by omega) (by rw[List.length_append,List.length_singleton];omega));have e1:=e1;have e2:=e2;rw[e1,e2,bH,bH,eG (by omega) (by omega),eG (by omega) (by omega)];exact hq
  ·rw[decide_eq_false hk];exact⟨_,rfl,rfl⟩
theorem amt{x y:aT}(h:zE x y)(hs:(sS x).2.1.length<=64)(n:Nat)(hn:n<=900)(hd:x.1.1.2.2.length<=900):∀(f:Nat) (k:Int) (out:List Int),0<=k->n<f+k->k<=n->out.length<=k->∃r,Bb 1000 f n k x.1.1.1.1 x.1.1.1.2 x.1.1.2.1 x.1.1.2.2 x.1.2.1 x.1.2.2.1 x.1.2.2.2.1 x.1.2.2.2.2 x.2.1 x.2.2.1.1 x.2.2.1.2 x.2.2.2.1 x.2.2.2.2.1 x.2.2.2.2.2.1 x.2.2.2.2.2.2.1.1 x.2.2.2.2.2.2.1.2.1 x.2.2.2.2.2.2.1.2.2 x.2.2.2.2.2.2.2.1.1 x.2.2.2.2.2.2.2.1.2.1 x.2.2.2.2.2.2.2.1.2.2.1 x.2.2.2.2.2.2.2.1.2.2.2.1 x.2.2.2.2.2.2.2.1.2.2.2.2 x.2.2.2.2.2.2.2.2 out=some r/\
  Bb 1000 f n k y.1.1.1.1 y.1.1.1.2 y.1.1.2.1 y.1.1.2.2 y.1.2.1 y.1.2.2.1 y.1.2.2.2.1 y.1.2.2.2.2 y.2.1 y.2.2.1.1 y.2.2.1.2 y.2.2.2.1 y.2.2.2.2.1 y.2.2.2.2.2.1 y.2.2.2.2.2.2.1.1 y.2.2.2.2.2.2.1.2.1 y.2.2.2.2.2.2.1.2.2 y.2.2.2.2.2.2.2.1.1 y.2.2.2.2.2.2.2.1.2.1 y.2.2.2.2.2.2.2.1.2.2.1 y.2.2.2.2.2.2.2.1.2.2.2.1 y.2.2.2.2.2.2.2.1.2.2.2.2 y.2.2.2.2.2.2.2.2 out=some r:=by
 intro f;induction f with
 | zero=>intros;omega
 | succ f ih=>
  intro k out h0 h1 h2 h3;rw[VY,VY,au (by omega) (by omega)];by_cases hk:k<(n:Int)
  ·obtain⟨r,e1,e2⟩:=TH h hs 5 k 3;rw[decide_eq_true hk];simp only[cond_true];refine Exists.imp (fun q hq=>?_) (ih (k+1) (out++[r]) (by omega) (by omega) (by omega) (by rw[List.length_append,List.length_singleton];omega));have e1:=e1;have e2:=e2;rw[e1,e2,bH,bH,eG (by omega) (by omega),eG (by omega) (by omega)];exact hq
  ·rw[decide_eq_false hk,<-show x.1=y.1 from h.s];simp only[cond_false];have:=as6 h hs x.1.1.2.2 hd out 1000 0 [] (by omega) (by omega) (by omega) (by simp);rw[<-show x.1=y.1 from h.s] at this;exact this
theorem avf{x y:aT}(h:zE x y)(hv:Vs (sS x)):∃r,xS 1000 x=some r/\xS 1000 y=some r:=by
 have h1:=hv.a.fn;have h2:=hv.a.dn;have:=amt h hv.sn x.1.1.2.1.length (by show(sS x).1.2.1.length<=900;omega) (by show(sS x).1.2.2.length<=900;omega) 1000 0 [] (by omega) (by have:(sS x).1.2.1.length=x.1.1.2.1.length:=rfl;omega) (by omega) (by simp);unfold xS;rw[show y.1.1.2.1.length=x.1.1.2.1.length by rw[show y.1=x.1 from h.s.symm]];exact this
theorem Q0{x y:aT}(h:zE x y)(hv:Vs (sS x))(hm:(sM x).length<=900):∃r,lh 1000 x=some (r,())/\lh 1000 y=some (r,())/\r.length<=200:=by
 obtain⟨r1,e1,e2⟩:=avf h hv;unfold lh;rw[e1,e2,bH,bH,<-show x.1=y.1 from h.s,<-show x.2.1=y.2.1 from h.t,<-show x.2.2.2.1=y.2.2.2.1 from h.m];obtain⟨r2,e3,h3⟩:=aq5 r1 hv.a;rw[show wQ 1000 x.1.1 r1=some r2 from e3,bH];obtain⟨r3,e4,h4⟩:=awx r2.1 (by omega) x.1.2.1 hv.sn x.2.2.2.1 hm x.2.1;rw[e4];exact⟨_,rfl,rfl,h4⟩
end
noncomputable section
structure Wk (t:Int) (w:bt):Prop where
 a:0<=w.2.2/\w.2.2<=t
 b:-1<=w.2.1/\w.2.1<=w.2.2
 c:w.2.1≠-1->w.1=true
theorem acv{l:xZ}(hl:l.1<=1000000/\0<=l.2.1/\l.2.1<l.1/\0<=l.2.2/\l.2.2<=100000){t:Int}(ht:0<=t/\t<=2147483648){w:bt}(hw:Wk t w)(k:aJ):P (FJ 1000 l w k t) fun r=>r.2=0/\Wk t r.1:=by
 obtain⟨h1,h2,h3⟩:=hw;have fin:∀(o:Bool) (s:Int),-1<=s->s<=t->(s≠-1->o=true)->P (some ((o,(s,t)),(0:Int))) fun r=>r.2=0/\Wk t r.1:=fun o s a b c=>P.some ⟨rfl,⟨by dsimp only;omega,by dsimp only;omega,c⟩⟩;unfold FJ;refine P.call (SO hl) fun r hr=>?_;have key:(w.2.1≠-1->w.1=true)->P (HS 1000 1000 t l.1 l.2.1 l.2.2 w.1 w.2.1 w.2.2 k.1 k.2 false 0 0) fun r=>r.2=0/\Wk t r.1:=fun h3=>by
  rw[ade];refine P.call (OH _ _) fun a _=>P.bne (fun _=>fin _ _ (by omega) (by omega) fun _=>rfl) fun _=>P.not (fun e=>fin _ _ (by omega) (by omega) h3) fun e=>P.dec (fun _=>fin _ _ (by omega) (by omega) fun _=>e) fun _=>P.dec (fun _=>?_) fun _=>?_
  ·exact P.dec (fun _=>fin _ _ (by omega) (by omega) fun e=>absurd rfl e) fun _=>fin _ _ (by omega) (by omega) fun _=>e
  ·exact P.dec (fun _=>fin _ _ (by omega) (by omega) fun e=>absurd rfl e) fun _=>fin _ _ (by omega) (by omega) fun _=>e
 repeat' first | with_reducible (first | refine P.aA ?_ ?_ | refine P.fits ?_ (by decide) ?_ | refine P.mk ?_ (by decide) ?_ | refine P.sl ?_ ?_ | exact P.some trivial | exact P.some rfl | refine P.dec ?_ ?_ | refine P.beq ?_ ?_ | refine P.bne ?_ ?_ | refine P.not ?_ ?_ | refine P.bool ?_ ?_ | contradiction | exact key h3 | intro hw) | rw[adj] | omega
 simp_all
theorem ab7(l:List aJ)(hl:l.length<=900)(a b:Int):P (Ej 1000 l [(a,b)]) fun r=>r.length=1:=by
 unfold Ej;refine P.mk (by simp) (by omega) ?_;have:∀(f:Nat) (k:Int) (out:List Int),0<=k->1<f+k->k<=1->out.length=1->P (xg 1000 f l [(a,b)] 1 k out) fun r=>r.length=1:=by
  intro f;induction f with
  | zero=>intros;omega
  | succ f ih=>
   intro k out h0 h1 h2 h3;rw[Zx,au (by omega) (by omega)];refine P.dec (fun hk=>?_) (fun hk=>P.some h3);have:[(a,b)].length=1:=rfl;repeat' first | with_reducible (first | refine P.aA ?_ ?_ | refine P.fits ?_ (by decide) ?_ | refine P.mk ?_ (by decide) ?_ | refine P.sl ?_ ?_ | exact P.some trivial | exact P.some rfl | refine P.dec ?_ ?_ | refine P.beq ?_ ?_ | refine P.bne ?_ ?_ | refine P.not ?_ ?_ | refine P.bool ?_ ?_ | refine P.call (YF _ _) (fun r hr=>?_) | apply ih | rw[List.length_set] | intro hw) | omega
 exact this 1000 0 _ (by omega) (by omega) (by omega) (by simp)
structure zm (s:bX) (t:Int) (v:List Int) (w:List bt):Prop where
 lv:v.length=s.2.2.1.length
 lw:w.length=s.2.2.1.length
 kw:∀x,x∈w->Wk t x
theorem ac4{s:bX}(hs:Vs s)(m:List aP)(fl:List aJ)(hfl:fl.length<=900){t:Int}(ht:0<=t/\t<=2147483648)(w:List bt)(hw:w.length=s.2.2.1.length)(hk:∀x,x∈w->Wk t x):
  ∀(f:Nat) (k:Int) (v:List Int) (w':List bt),0<=k->s.2.2.1.length<f+k->k<=s.2.2.1.length->zm s t v w'->P (nY 1000 f m w fl t s.2.2.1 s.2.2.1.length k s.1.1.1 s.1.1.2 s.1.2.1 s.1.2.2 s.2.1 s.2.2.1 s.2.2.2.1 s.2.2.2.2 v w') fun r=>r.1.2.2=0/\zm s t r.1.1 r.1.2.1:=by
 have hn:=hs.cn;intro f;induction f with
 | zero=>intros;omega
 | succ f ih=>
  intro k v w' h0 h1 h2 h3;rw[asq,au (by omega) (by omega)];refine P.dec (fun hk'=>?_) (fun hk'=>P.some ⟨rfl,h3⟩);obtain⟨v1,v2,v3⟩:=id h3;have hc:=hs.c _ (dU F2 (show k.toNat<s.2.2.1.length by omega));have hwk:=hk _ (dU cG (show k.toNat<w.length by omega));have nx:∀(y:Int),P (nY 1000 f m w fl t s.2.2.1 s.2.2.1.length (k+1) s.1.1.1 s.1.1.2 s.1.2.1 s.1.2.2 s.2.1 s.2.2.1 s.2.2.2.1 s.2.2.2.2 (v.set k.toNat y) w') fun r=>r.1.2.2=0/\zm s t r.1.1 r.1.2.1:=fun y=>ih _ _ _ (by omega) (by omega) (by omega) ⟨by rw[List.length_set];exact v1,v2,v3⟩
  dsimp only;refine P.aA (by omega) (P.call (Ri s m _ t) fun r _=>P.beq (fun _=>?_) fun _=>P.beq (fun _=>?_) fun _=>P.beq (fun _=>?_) fun _=>P.beq (fun _=>?_) fun _=>P.beq (fun _=>?_) fun _=>?_)
  ·refine P.aA (by omega) (P.call (acv hc.l ht hwk r) fun r1 hr1=>P.bne (fun e=>absurd hr1.1 e) fun _=>P.call (abp _ _ _) fun r2 _=>P.aA (by omega) (P.aA (by omega) ?_));exact ih _ _ _ (by omega) (by omega) (by omega) ⟨by rw[List.length_set];exact v1,by rw[List.length_set];exact v2,mem_set v3 hr1.2⟩
  ·exact P.call (OH _ _) fun r2 _=>P.aA (by omega) (nx _)
  ·exact P.call (Yz _) fun r2 _=>P.aA (by omega) (nx _)
  ·refine P.aA (by omega) (P.call pL fun r2 _=>P.bool (fun _=>P.aA (by rw[List.length_set];omega) ?_) fun _=>nx _);rw[List.set_set];exact nx _
  ·refine P.call (ab7 fl hfl _ _) fun r2 h=>P.aA (by omega) (P.aA (by omega) (nx _))
  ·exact ih _ _ _ (by omega) (by omega) (by omega) h3
theorem axu{s:bX}(hs:Vs s)(m:List aP)(hm:m.length=s.2.1.length)(fl:List aJ)(hfl:fl.length<=900){t:Int}(ht:0<=t/\t<=2147483648)(w:List bt)(hw:w.length=s.2.2.1.length)(hk:∀x,x∈w->Wk t x):
  P (Im 1000 s m w fl t) fun r=>r.1.2.2=0/\zm s t r.1.1 r.1.2.1/\fl.length=s.1.1.2.length\/r.1.2.2≠0/\fl.length≠s.1.1.2.length:=by
 have hn:=hs.cn;unfold Im;rw[HN hs,bH];refine P.bne (fun e=>absurd rfl e) fun _=>P.bne (fun e=>by omega) fun _=>P.bne (fun e=>by omega) fun _=>P.bne (fun e=>P.some (.inr ⟨by decide,by omega⟩)) fun e=>?_;rw[Yx,df (by omega),df (by omega),aww];refine P.mk (by omega) (by omega) (P.fits (by omega) (by omega) ?_);exact(ac4 hs m fl hfl ht w hw hk 1000 0 _ _ (by omega) (by omega) (by omega) ⟨by simp[hw],hw,hk⟩).mono fun r hr=>.inl ⟨hr.1,hr.2,by omega⟩
def jk(l:List bt):Nat:=l.countP fun w=> !w.1
theorem w9{α:Type}(p:α->Bool)(d:α)(y:α):∀(l:List α) (i:Nat),i<l.length->(l.set i y).countP p+(if p (l.getD i d) then 1 else 0)=l.countP p+(if p y then 1 else 0)
 | [],i,h=>absurd h (by simp)
 | x::l,0,h=>by
  simp only[List.set_cons_zero,List.countP_cons,List.getD_cons_zero];omega
 | x::l,i+1,h=>by
  have:=w9 p d y l i (by simpa using h);simp only[List.set_cons_succ,List.countP_cons,List.getD_cons_succ];omega
structure Hg (n:Nat) (c out:List bt) (now:List Int):Prop where
 ll:out.length=c.length
 mm:∀i,(c.getD i cG).1=true->(out.getD i cG).1=true
 nn:jk out+now.length=jk c
 ww:∀z,z∈now->(0<=z/\z<n)/\(c.getD z.toNat cG).1=false
theorem ahe{s:bX}(hs:Vs s)(v:List Int)(hv:v.length=s.2.2.1.length)(t:Int)(c:List bt)(hc:c.length=s.2.2.2.1.length):∀(f:Nat) (k:Int) (out:List bt) (now:List Int),0<=k->s.2.2.2.1.length<f+k->k<=s.2.2.2.1.length->Hg s.2.2.2.1.length c out now->now.length<=k->(∀i:Nat,k<=i->out.getD i cG=c.getD i cG)->P (uL 1000 f v t s.2.2.2.1 s.2.2.2.1.length k out now) fun r=>r.1.2.2=0/\Hg s.2.2.2.1.length c r.1.1 r.1.2.1:=by
 have hn:=hs.zn;have hcn:=hs.cn;intro f;induction f with
 | zero=>intros;omega
 | succ f ih=>
  intro k out now h0 h1 h2 h3 h4 h5;rw[aua,au (by omega) (by omega)];refine P.dec (fun hk=>?_) (fun hk=>P.some ⟨rfl,h3⟩);obtain⟨c1,c2,c3,c4⟩:=id h3;obtain⟨t1,t2,t3,t4⟩:=(hs.z _ (dU iU (show k.toNat<s.2.2.2.1.length by omega))).r;have hK:k.toNat<out.length:=by omega
  have e5:=h5 k.toNat (by omega);have af:∀y:bt,y.1=(c.getD k.toNat cG).1->Hg s.2.2.2.1.length c (out.set k.toNat y) now:=fun y hy=>by
   refine⟨by rw[List.length_set];exact c1,fun i hi=>?_,?_,c4⟩
   ·rw[jh];split
    ·rename_i h;rw[hy,h.1];exact hi
    ·exact c2 i hi
   ·have:=w9 (fun w=> !w.1) cG y out k.toNat hK;rw[e5] at this;simp only[hy] at this;unfold jk at*;omega
  have rest:∀(l:List bt) (y:bt),(∀i:Nat,k<=i->l.getD i cG=c.getD i cG)->∀i:Nat,k+1<=i->(l.set k.toNat y).getD i cG=c.getD i cG:=fun l y hl i hi=>by
   rw[jh,if_neg (by omega)];exact hl i (by omega)
  rw[t4];dsimp only;refine P.aA (by omega) (P.aA (by omega) (P.call (UJ t2 v (by omega) (hv▸t3)) fun r _=>P.beq (fun _=>P.beq (fun _=>?_) fun _=>?_) fun _=>?_))
  ·exact ih _ _ _ (by omega) (by omega) (by omega) (af _ (by rw[e5])) (by omega) (rest _ _ h5)
  ·exact ih _ _ _ (by omega) (by omega) (by omega) h3 (by omega) (fun i hi=>h5 i (by omega))
  ·have g:∀y:bt,(out.set k.toNat y).getD k.toNat cG=y:=fun y=>by rw[jh,if_pos ⟨rfl,hK⟩]
   rw[g];refine P.not (fun e=>P.fits (by omega) (by omega) ?_) fun e=>ih _ _ _ (by omega) (by omega) (by omega) (af _ (by rw[e5])) (by omega) (rest _ _ h5);simp only[List.set_set,g];rw[e5] at e;have e:(c.getD k.toNat cG).1=false:=e;refine ih _ _ _ (by omega) (by omega) (by omega) ⟨by rw[List.length_set];exact c1,fun i hi=>?_,?_,?_⟩ (by rw[List.length_append,List.length_singleton];omega) (rest _ _ h5)
   ·rw[jh];split
    ·rfl
    ·exact c2 i hi
   ·have:=w9 (fun w=> !w.1) cG (true,((-1:Int),r)) out k.toNat hK;rw[e5] at this;simp only[e,Bool.not_false,Bool.not_true,if_true,Bool.false_eq_true,if_false] at this;rw[List.length_append,List.length_singleton];unfold jk at*;omega
   ·exact j4 c4 ⟨by omega,e⟩
theorem axy{s:bX}(hs:Vs s)(v:List Int)(hv:v.length=s.2.2.1.length){t:Int}(ht:0<=t/\t<=2147483648)(c:List bt)(hc:c.length=s.2.2.2.1.length):P (DX 1000 s v c t) fun r=>r.1.2.2=0/\Hg s.2.2.2.1.length c r.1.1 r.1.2.1:=by
 have hn:=hs.zn;unfold DX;rw[HN hs,bH];refine P.bne (fun e=>absurd rfl e) fun _=>P.bne (fun e=>by omega) fun _=>P.bne (fun e=>by omega) fun _=>?_;rw[atk,df (by omega),df (by omega),aj7];exact P.fits (by omega) (by omega) (ahe hs v hv t c hc 1000 0 c [] (by omega) (by omega) (by omega) ⟨rfl,fun _ h=>h,rfl,fun _ h=>by cases h⟩ (by simp) fun _ _=>rfl)
end
end Go.Proofs.YtgmpjkgogjkfcaaGreat
