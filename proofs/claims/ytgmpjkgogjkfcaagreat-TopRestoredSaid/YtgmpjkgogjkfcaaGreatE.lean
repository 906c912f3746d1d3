/- A state of the walk may be written anew: slots dropped, chunks renumbered, grown arrays frozen to lists (Wk). No condition of its own: over any program. -/
import Derived.Test.YtgmpjkgogjkfcaaGreatD
import Derived.OpenShut
import Derived.ChangeOld
import Derived.Deep.Slices
set_option linter.all false
namespace Go.Pv
open Go.RowKit Go.WideShapes Go.ChangeShapes
inductive eI where
 | bo
 | it (k:IntKind)
 | st
 | sl (l:List eI)
inductive Ty:eI->DV->Prop
 | bo (x:Bool):Ty .bo (B x)
 | it (k:IntKind) (n:Int) (h:(Lit.int k n).wf=true):Ty (.it k) (.v (.int k n))
 | st (x:ByteArray) (h:x.size<=maxLen):Ty .st (.v (.string x))
 | sl (ss:List eI) (xs:List (List DV)) (hl:xs.length<=maxLen) (hz:∀x,x∈xs->x.length=ss.length) (h:∀x,x∈xs->∀j,j<ss.length->Ty (ss.getD j .bo) (x.getD j .any)):Ty (.sl ss) (.ab false xs)
def gk(ss:List eI)(ds:List DV):Prop:=ds.length=ss.length/\∀j,j<ss.length->Ty (ss.getD j .bo) (ds.getD j .any)
theorem gk.nil{ds:List DV}(h:gk [] ds):ds=[]:=List.length_eq_zero_iff.1 h.1
theorem gk.cons{s:eI}{ss:List eI}{ds:List DV}(h:gk (s::ss) ds):∃d r,ds=d::r/\Ty s d/\gk ss r:=by
 obtain⟨h1,h2⟩:=h;cases ds with
 | nil=>simp at h1
 | cons d r=>exact⟨d,r,rfl,h2 0 (by simp),by simpa using h1,fun j hj=>h2 (j+1) (by simpa using hj)⟩
theorem Ty.bool{d:DV}(h:Ty .bo d):∃x,d=B x:=by cases h;exact⟨_,rfl⟩
theorem Ty.int{k:IntKind}{d:DV}(h:Ty (.it k) d):∃n,d=.v (.int k n)/\(Lit.int k n).wf=true:=by cases h with | it _ n h=>exact⟨n,rfl,h⟩
theorem Ty.str{d:DV}(h:Ty .st d):∃x:ByteArray,d=.v (.string x)/\x.size<=maxLen:=by cases h with | st x h=>exact⟨x,rfl,h⟩
theorem Ty.jL{ss:List eI}{d:DV}(h:Ty (.sl ss) d):∃xs,d=.ab false xs/\xs.length<=maxLen/\∀x,x∈xs->gk ss x:=by
 cases h with | sl _ xs hl hz h=>exact⟨xs,rfl,hl,fun x hx=>⟨hz x hx,h x hx⟩⟩
theorem Ty.list{α:Type}{ss:List eI}{d:DV}{e:α->List DV}{Q:α->Prop}(h:Ty (.sl ss) d)(he:∀x,gk ss x->∃a,x=e a/\Q a):∃as:List α,d=.ab false (as.map e)/\as.length<=maxLen/\∀a,a∈as->Q a:=by
 obtain⟨xs,rfl,hl,hx⟩:=h.jL;have:∃as:List α,xs=as.map e/\∀a,a∈as->Q a:=by
  clear hl h;induction xs with
  | nil=>exact⟨[],rfl,fun a ha=>by cases ha⟩
  | cons x r ih=>
   obtain⟨as,rfl,hq⟩:=ih fun y hy=>hx y (List.mem_cons_of_mem _ hy);obtain⟨a,rfl,ha⟩:=he x (hx x (by simp));exact⟨a::as,rfl,fun b hb=>by rcases List.mem_cons.1 hb with rfl | hb;exact ha;exact hq b hb⟩
 obtain⟨as,rfl,hq⟩:=this;exact⟨as,rfl,by simpa using hl,hq⟩
def AJ(rec:TypeId->Option (List eI))(sz:TypeId->Nat):Nat->List Field->Option (List eI)
 | _,[]=>some []
 | off,f::r=>match rec f.type with
  | some l=>if f.offset=off/\sz f.type=l.length then(AJ rec sz (off+l.length) r).map (l++·) else none
  | none=>none
def qY(l:List eI):Nat->List eI
 | 0=>[]
 | k+1=>l++qY l k
def rv(P:Program):Nat->TypeId->Option (List eI)
 | 0,_=>none
 | d+1,t=>match P.underlying t with
  | some .bool=>some [.bo]
  | some (.int k)=>some [.it k]
  | some .string=>some [.st]
  | some (.slice e)=>match rv P d e with
   | some l=>if P.cellsOf e=l.length/\0<l.length then some [.sl l] else none
   | none=>none
  | some (.struct fs)=>match AJ (rv P d) P.cellsOf 0 fs.toList with
   | some l=>if P.cellsOf t=l.length then some l else none
   | none=>none
  | some (.array n e)=>match rv P d e with
   | some l=>if P.cellsOf e=l.length/\P.cellsOf t=(qY l n).length then some (qY l n) else none
   | none=>none
  | _=>none
def lX(w:World)(ss:List eI)(cs:List Value):Prop:=∃ds:List DV,cs.length=ss.length/\(∀j,j<ss.length->(cs.getD j undef).oneCell'=true)/\(∀j,j<ss.length->Rd w (ds.getD j .any) (cs.getD j undef))/\gk ss ds
theorem lX.one{w:World}{s:eI}{d:DV}{v:Value}(h1:v.oneCell'=true)(h2:Rd w d v)(h3:Ty s d):lX w [s] [v]:=
 have z:∀j,j< [s].length->j=0:=fun j hj=>by simpa using hj
 ⟨[d],rfl,fun j hj=>by rw[z j hj];exact h1,fun j hj=>by rw[z j hj];exact h2,rfl,fun j hj=>by cases z j hj;exact h3⟩
theorem lX.nil(w:World):lX w [] []:=⟨[],rfl,fun j hj=>by simp at hj,fun j hj=>by simp at hj,rfl,fun j hj=>by simp at hj⟩
theorem ao8{α:Type}{a b:List α}{j:Nat}{z:α}:(a++b).getD j z=if j<a.length then a.getD j z else b.getD (j-a.length) z:=by
 simp only[List.getD_eq_getElem?_getD,List.getElem?_append];split<;>rfl
theorem lX.app{w:World}{s1 s2:List eI}{c1 c2:List Value}(h:lX w s1 c1)(k:lX w s2 c2):lX w (s1++s2) (c1++c2):=by
 obtain⟨d1,a1,a2,a3,a4,a5⟩:=h;obtain⟨d2,b1,b2,b3,b4,b5⟩:=k;refine⟨d1++d2,by simp[a1,b1],fun j hj=>?_,fun j hj=>?_,by simp[a4,b4],fun j hj=>?_⟩
 all_goals (simp only[ao8,a1,a4];simp only[List.length_append] at hj;split)
 ·exact a2 j ‹_›
 ·exact b2 _ (by omega)
 ·exact a3 j ‹_›
 ·exact b3 _ (by omega)
 ·exact a5 j ‹_›
 ·exact b5 _ (by omega)
section
variable {H:Type} {enc:TypeId×Value->H} {P:Program} {w:World} {sp:Nat->Bool} {held:Bool}
theorem W4{rec:TypeId->Option (List eI)}{sz:TypeId->Nat}(hrec:∀t ss,rec t=some ss->∀fuel cs x,DataW.trod enc P w 0 sp held fuel t cs=some x->lX w ss cs)(n:Nat)(cs:List Value):
  ∀(fs:List Field) (off:Nat) (l:List eI),AJ rec sz off fs=some l->(∀f,f∈fs->∃x,DataW.trod enc P w 0 sp held n f.type ((cs.drop f.offset).take (sz f.type))=some x)->off+l.length=cs.length->lX w l (cs.drop off)
 | [],off,l,h,_,hl=>by
  simp only[AJ,Option.some.injEq] at h;subst h;have:cs.drop off=[]:=List.drop_eq_nil_of_le (by simp at hl;omega);rw[this];exact .nil w
 | f::r,off,l,h,hx,hl=>by
  simp only[AJ] at h;split at h
  ·rename_i l1 h1;split at h
   ·rename_i hc;obtain⟨ho,hs⟩:=hc;simp only[Option.map_eq_some_iff] at h;obtain⟨l2,h2,rfl⟩:=h;obtain⟨x,hx1⟩:=hx f (by simp);have k1:=hrec f.type l1 h1 n _ x hx1;rw[ho,hs] at k1;have k2:=W4 hrec n cs r (off+l1.length) l2 h2 (fun g hg=>hx g (List.mem_cons_of_mem _ hg)) (by simp at hl;omega);have e:cs.drop off=(cs.drop off).take l1.length++cs.drop (off+l1.length):=by
     rw[<-List.drop_drop];exact(List.take_append_drop _ _).symm
    rw[e];exact k1.app k2
   ·cases h
  ·cases h
theorem R7{e:TypeId}{l:List eI}(hrec:∀fuel cs x,DataW.trod enc P w 0 sp held fuel e cs=some x->lX w l cs)(n m:Nat)(cs:List Value)(hx:∀i,i<n->∃x,DataW.trod enc P w 0 sp held m e ((cs.drop (i*l.length)).take l.length)=some x):
  ∀(k i:Nat),i+k=n->cs.length=i*l.length+(qY l k).length->lX w (qY l k) (cs.drop (i*l.length))
 | 0,i,hi,hl=>by
  have:cs.drop (i*l.length)=[]:=List.drop_eq_nil_of_le (by simp[qY] at hl;omega);rw[this];exact .nil w
 | k+1,i,hi,hl=>by
  obtain⟨x,hx1⟩:=hx i (by omega);have k1:=hrec m _ x hx1;have hm:(i+1)*l.length=i*l.length+l.length:=by rw[Nat.add_mul,Nat.one_mul]
  have hl2:(qY l (k+1)).length=l.length+(qY l k).length:=by show(l++qY l k).length=_;rw[List.length_append]
  have k2:=R7 hrec n m cs hx k (i+1) (by omega) (by omega);have e:cs.drop (i*l.length)=(cs.drop (i*l.length)).take l.length++cs.drop ((i+1)*l.length):=by
   rw[hm,<-List.drop_drop];exact(List.take_append_drop _ _).symm
  rw[e];exact k1.app k2
theorem Hw:∀(d:Nat) (t:TypeId) (ss:List eI),rv P d t=some ss->∀fuel cs x,DataW.trod enc P w 0 sp held fuel t cs=some x->lX w ss cs
 | 0,t,ss,h,_,_,_,_=>by simp[rv] at h
 | d+1,t,ss,h,fuel,cs,x,hx=>by
  simp only[rv] at h;split at h
  ·rename_i ht;injection h with h;subst h
   obtain⟨b,rfl,_⟩:=DataW.trod_bool ht hx;exact .one rfl (.v _) (.bo b)
  ·rename_i k ht;injection h with h;subst h
   obtain⟨n,rfl,_,hw⟩:=DataW.trod_int ht hx;exact .one rfl (.v _) (.it k n hw)
  ·rename_i ht;injection h with h;subst h
   obtain⟨s,rfl,_,hw⟩:=DataW.trod_string ht hx;exact .one rfl (.v _) (.st s hw)
  ·rename_i e ht;split at h
   ·rename_i l hl;split at h
    ·rename_i hc;obtain⟨hc,hpos⟩:=hc;injection h with h;subst h
     rcases Go.Deep.open_slice ht hx with⟨rfl,_⟩ | ⟨a,len,cap,m,n,D,Pl,rfl,_,hlc,hcm,hm,_,hel⟩
     ·exact .one rfl (.fm false none 0 (by simp)) (.sl l [] (by simp) (by simp) (by simp))
     ·by_cases h0:len=0
      ·subst h0;exact .one rfl (.fm false _ cap (by simp)) (.sl l [] (by simp) (by simp) (by simp))
      ·have hml:len<=m:=by rw[hm];split<;>omega
       have hall:∀i,i<len->∃y:List Value×List DV,w.cells? 0 (a.add (i*l.length)) l.length=some y.1/\y.1.length=l.length/\(∀j,j<l.length->(y.1.getD j undef).oneCell'=true)/\(∀j,j<l.length->Rd w (y.2.getD j .any) (y.1.getD j undef))/\gk l y.2:=by
        intro i hi;obtain⟨cs',g1,g2⟩:=hel i (by omega);rw[hc] at g1;obtain⟨ds,q1,q2,q3,q4⟩:=Hw d e l hl n cs' _ g2;exact⟨(cs',ds),g1,q1,q2,q3,q4⟩
       obtain⟨Y,hY⟩:=Go.Deep.choose_lt (α:=List Value×List DV) hall;have hcell:∀i j,i<len->j<l.length->w.cell? ((a.add (i*l.length)).add j)=some ((Y i).1.getD j undef):=by
        intro i j hi hj;obtain⟨g1,g2,_⟩:=hY i hi;obtain⟨_,_,g3⟩:=World.cells?_some g1;rw[g3 j hj,List.getElem?_eq_getElem (by omega),List.getD_eq_getElem?_getD,List.getElem?_eq_getElem (by omega)];rfl
       have hspot:a.spot=none:=by
        have:=hcell 0 0 (by omega) hpos;simp only[Nat.zero_mul,Addr.add,if_true] at this;unfold World.cell? at this;cases hsp:a.spot with
        | none=>rfl
        | some q=>rw[hsp] at this;split at this<;>simp at this
       obtain⟨b,off,spot⟩:=a;simp only at hspot;subst hspot;have hadd:∀i j,((⟨b,off,none⟩:Addr).add i).add j=⟨b,off+(i+j),none⟩:=by
        intro i j;unfold Addr.add;by_cases hi:i=0<;>by_cases hj:j=0<;>simp[hi,hj,Nat.add_assoc]
       have hlen:((List.range len).map fun i=>(Y i).2).length=len:=by simp
       have hget:∀i (hi:i<((List.range len).map fun i=>(Y i).2).length),((List.range len).map fun i=>(Y i).2)[i]=(Y i).2:=by intro i hi;simp
       have hvr:Rd w (.ab false ((List.range len).map fun i=>(Y i).2)) (.slice (some ⟨b,off,none⟩) ((List.range len).map fun i=>(Y i).2).length cap):=by
        refine .ab false _ b off cap l.length (fun i j=>(Y i).1.getD j undef) (fun e=>h0 (by rw[e] at hlen;exact hlen.symm)) hpos (by rw[hlen];exact hlc) (by simp) (fun hM=>hM.elim id (Lq b)) (fun i hi=>?_) (fun i j hi hj=>?_) (fun i j hi hj=>?_) (fun i j hi hj=>?_)
        ·rw[hget];exact(hY i (by rw[hlen] at hi;exact hi)).2.2.2.2.1
        ·exact(hY i (by rw[hlen] at hi;exact hi)).2.2.1 j hj
        ·have:=hcell i j (by rw[hlen] at hi;exact hi) hj;rw[hadd] at this;exact this
        ·have q:=hY i (by rw[hlen] at hi;exact hi);have hj':j<l.length:=by rw[hget,q.2.2.2.2.1] at hj;exact hj
         have:=q.2.2.2.1 j hj';rw[List.getD_eq_getElem?_getD,List.getElem?_eq_getElem (by rw[hget] at hj;exact hj)] at this;simpa only[hget,Option.getD_some] using this
       rw[hlen] at hvr;refine .one rfl hvr (.sl l _ (by rw[hlen];omega) (fun x hx=>?_) (fun x hx=>?_))
       ·simp only[List.mem_map,List.mem_range] at hx;obtain⟨i,hi,rfl⟩:=hx;exact(hY i hi).2.2.2.2.1
       ·simp only[List.mem_map,List.mem_range] at hx;obtain⟨i,hi,rfl⟩:=hx;exact(hY i hi).2.2.2.2.2
    ·cases h
   ·cases h
  ·rename_i fs ht;split at h
   ·rename_i l hl;split at h
    ·rename_i hc;injection h with h;subst h
     obtain⟨xs,n,_,_,hlen,hxs,hf⟩:=DataW.trod_struct ht hx;have:=W4 (P:=P) (enc:=enc) (w:=w) (sp:=sp) (held:=held) (fun t ss h=>Hw d t ss h) n cs fs.toList 0 l hl (fun f hfm=>by
      obtain⟨i,hi,he⟩:=List.mem_iff_getElem.1 hfm;have hi':i<fs.size:=by simpa using hi
      have:=hf i f (by rw[Array.getElem?_eq_getElem hi'];simp at he;rw[he]);exact⟨xs[i]'(by omega),by rw[this,List.getElem?_eq_getElem (by omega)]⟩) (by omega)
     simpa using this
    ·cases h
   ·cases h
  ·rename_i k e ht;split at h
   ·rename_i l hl;split at h
    ·rename_i hc;obtain⟨hc1,hc2⟩:=hc;cases h;obtain⟨xs,n,_,_,hlen,hxs,hf⟩:=DataW.trod_array ht hx;have:=R7 (fun fuel cs x h=>Hw d e l hl fuel cs x h) k n cs (fun i hi=>by
      have:=hf i hi;rw[hc1] at this;exact⟨xs[i]'(by omega),by rw[this,List.getElem?_eq_getElem (by omega)]⟩) k 0 (by omega) (by rw[Nat.zero_mul,Nat.zero_add];omega)
     simpa using this
    ·cases h
   ·cases h
  ·cases h
def ny(ag:Bool)(ss:List eI)(d:DV):Prop:=if ag=true then∃ds,d=.agg ds/\gk ss ds else∃s,ss=[s]/\Ty s d
def Oe(P:Program)(t:TypeId):Option (Bool×List eI):=
 match iH P t,rv P 8 t with
 | some ag,some ss=>some (ag,ss)
 | _,_=>none
theorem abr{d:Nat}{t:TypeId}{ss:List eI}(h2:rv P (d+1) t=some ss)(h1:iH P t=some false):∃x,ss=[x]:=by
 unfold iH at h1;simp only[rv] at h2;cases hu:P.underlying t with
 | none=>rw[hu] at h1;simp at h1
 | some td=>
  rw[hu] at h1 h2;cases td with
  | struct fs=>simp at h1
  | array n e=>simp at h1
  | bool=>injection h2 with h2;exact⟨_,h2.symm⟩
  | int k=>injection h2 with h2;exact⟨_,h2.symm⟩
  | string=>injection h2 with h2;exact⟨_,h2.symm⟩
  | slice e=>
   simp only at h2;split at h2
   ·split at h2
    ·injection h2 with h2;exact⟨_,h2.symm⟩
    ·cases h2
   ·cases h2
  | _=>cases h2
theorem akl{t:TypeId}{ag:Bool}{ss:List eI}{v:Value}{d:DataW H}{ps:List MemPlace}{r:Reach}{base:Nat}(hs:Oe P t=some (ag,ss))(eu:Value.okWide P w r base t v)(h:DataW.Trod enc P w 0 sp held t v d ps):
  ∃dv,Rd w dv v/\ny ag ss dv:=by
 unfold Oe at hs;split at hs
 ·rename_i ag' ss' h1 h2;injection hs with hs;injection hs with e1 e2;subst e1;subst e2
  obtain⟨fuel,hf⟩:=h;obtain⟨ds,q1,q2,q3,q4⟩:=Hw 8 t ss' h2 fuel _ _ hf;cases ag' with
  | true=>
   have hag:∃cs,v=.agg cs:=by
    unfold iH at h1;unfold Value.okWide at eu;split at h1
    ·rename_i hu;rw[hu] at eu;simp only at eu;exact⟨_,eu.choose_spec.1⟩
    ·rename_i hu;rw[hu] at eu;simp only at eu;exact⟨_,eu.choose_spec.1⟩
    ·simp at h1
    ·simp at h1
   obtain⟨cs,rfl⟩:=hag;simp only[Value.cells] at q1 q2 q3;have hsz:cs.size=ss'.length:=by simpa using q1
   have hg:∀j,cs.toList.getD j undef=cs.getD j undef:=by intro j;simp[List.getD_eq_getElem?_getD,Array.getD_eq_getD_getElem?]
   refine⟨.agg ds,.agg ds cs (by rw[hsz,q4.1]) (fun j hj=>?_) (fun j hj=>?_),by simp only[ny,if_true];exact⟨ds,rfl,q4⟩⟩
   ·have:=q2 j (by rw[q4.1] at hj;exact hj);rwa [hg] at this
   ·have:=q3 j (by rw[q4.1] at hj;exact hj);rw[hg,List.getD_eq_getElem?_getD,List.getElem?_eq_getElem hj] at this;exact this
  | false=>
   have hna:=abr h2 h1;obtain⟨s,rfl⟩:=hna;have hv:v.cells.toList=[v]:=by
    cases v with
    | agg cs=>
     exfalso;have h0:=q2 0 (by simp);unfold Value.okWide at eu;unfold iH at h1;cases hu:P.underlying t with
     | none=>rw[hu] at h1;simp at h1
     | some td=>
      rw[hu] at h1 eu;cases td<;>simp[Cell.okWide,Cell.ok,hu] at eu h1
    | _=>rfl
   rw[hv] at q2 q3;obtain⟨d0,r0,rfl,t1,t2⟩:=q4.cons;exact⟨d0,q3 0 (by simp),by simp only[ny];exact⟨s,rfl,t1⟩⟩
 ·cases hs
def G5(P:Program):List TypeId->Option (List (Bool×List eI))
 | []=>some []
 | t::r=>match Oe P t,G5 P r with
  | some a,some l=>some (a::l)
  | _,_=>none
def lS:List (Bool×List eI)->List DV->Prop
 | [],[]=>True
 | s::r,d::ds=>ny s.1 s.2 d/\lS r ds
 | _,_=>False
theorem lS.cons{x:Bool×List eI}{r:List (Bool×List eI)}{ds:List DV}(h:lS (x::r) ds):∃d ds',ds=d::ds'/\ny x.1 x.2 d/\lS r ds':=by
 cases ds with
 | nil=>exact h.elim
 | cons d ds'=>exact⟨d,ds',rfl,h.1,h.2⟩
theorem lS.nil{ds:List DV}(h:lS [] ds):ds=[]:=by
 cases ds with
 | nil=>rfl
 | cons d ds'=>exact h.elim
theorem ny.ag{ss:List eI}{d:DV}(h:ny true ss d):∃ds,d=.agg ds/\gk ss ds:=by simpa[ny] using h
theorem ny.one{x:eI}{d:DV}(h:ny false [x] d):Ty x d:=by
 obtain⟨s',h1,h2⟩:∃s',[x]=[s']/\Ty s' d:=by simpa[ny] using h
 cases h1;exact h2
theorem WM{r:Reach}{base:Nat}:∀(ts:List TypeId) (sss:List (Bool×List eI)) (vs:List Value) (ds:List (DataW H)) (ps:List MemPlace),G5 P ts=some sss->(∀(j:Nat) t v,ts[j]? =some t->vs[j]? =some v->Value.okWide P w r base t v)->
  DataW.TrodAll enc P w 0 sp held ts vs ds ps->∃dargs:List DV,vs.length=dargs.length/\(∀j (hj:j<dargs.length),Rd w dargs[j] (vs.getD j undef))/\lS sss dargs
 | [],sss,vs,ds,ps,hs,_,h=>by
  obtain⟨rfl,rfl,rfl⟩:=trodAll_nil h;simp only[G5] at hs;cases hs;exact⟨[],rfl,fun j hj=>by simp at hj,trivial⟩
 | t::ts,sss,vs,ds,ps,hs,eu,h=>by
  obtain⟨v,vs',d,ds',p,q,rfl,rfl,rfl,h0,r0⟩:=trodAll_cons h;simp only[G5] at hs;split at hs
  ·rename_i a l h1 h2;cases hs;obtain⟨dv,e1,e2⟩:=akl h1 (eu 0 t v rfl rfl) h0;obtain⟨dargs,k1,k2,k3⟩:=WM ts l vs' ds' q h2 (fun j t' v' g1 g2=>eu (j+1) t' v' (by simpa using g1) (by simpa using g2)) r0;refine⟨dv::dargs,by simp[k1],fun j hj=>?_,e2,k3⟩;cases j with
   | zero=>exact e1
   | succ j=>exact k2 j (by simpa using hj)
  ·cases hs
end
section
variable {H:Type} {enc:TypeId×Value->H} {P:Program}
theorem WK(hl:laidOutB P=true){W W':World}(hb:Below W.heap.size W W'):∀(ts:List TypeId) (vs:List Value) (ds:List (DataW H)) (ps:List MemPlace),(ts.all fun t=>P.readableRec t && decide (t<P.types.size))=true->
  DataW.TrodAll enc P W 0 (fun _=>true) true ts vs ds ps->DataW.TrodAll enc P W' 0 (fun b=>decide (b<W.heap.size)) true ts vs ds ps
 | [],vs,ds,ps,_,h=>by
  obtain⟨rfl,rfl,rfl⟩:=trodAll_nil h;exact trodAll_mk0
 | t::ts,vs,ds,ps,hr,h=>by
  obtain⟨v,vs',d,ds',p,q,rfl,rfl,rfl,h0,r0⟩:=trodAll_cons h;simp only[List.all_cons,Bool.and_eq_true,decide_eq_true_eq] at hr;have k0:=h0;have lt0:∀x∈p,x.block<W.heap.size:=by obtain⟨m,hm⟩:=k0;exact DataW.trod_lt m _ _ _ hm
  exact trodAll_cons_mk (Below.trod hl hr.1.1 hr.1.2 h0 hb lt0) (WK hl hb ts vs' ds' q hr.2 r0)
end
section fn
variable {P:Program} {f:FuncId} {nt:Nat} {ow:Nat->Bool} {ac:AC} {rs:List RR}
end fn
section ends
variable {rs:List RR} {res:DV} {T:Nat->DV} {H:Hp} {nx o:Nat} {ck ck0:Ck} {ds:List DV}
end ends
section one
variable {P:Program} {r:List RI} {T:Nat->DV} {H:Hp} {nx:Nat} {K:St->Prop} {lg:Lg} {KL:Lg->St->Prop}
end one
def Wm(x y:List Nat×List Nat):Bool:=x.2.all (fun o=> !y.1.contains o && !y.2.contains o) && y.2.all (fun o=> !x.1.contains o)
def VJ(un:List (Nat×Nat))(lg:Lg):Bool:=un.all fun p=>Wm (yo lg p.1) (yo lg p.2)
section logged
variable {P:Program} {r:List RI} {T:Nat->DV} {H:Hp} {nx:Nat} {K:St->Prop} {uo:List (Nat×Nat)} {lg:Lg}
end logged
theorem PW{a:Int}(h1:-9223372036854775808<=a)(h2:a<=9223372036854775807):IntKind.i64.wrap a=a:=by rw[IntKind.wrap_i64];omega
section arith
variable {p:Bool} {T:Nat->DV} {H:Hp} {nx:Nat} {x y:RO} {a b:Int}
end arith
def GP(H:Hp):List (Nat×Ck)->Prop
 | []=>True
 | x::r=>H x.1=some x.2/\GP H r
theorem GP.mk{H:Hp}:∀{l:List (Nat×Ck)},GP H l->∀o,Cs l o=none\/Cs l o=H o
 | [],_,o=>.inl rfl
 | x::r,h,o=>by
  by_cases e:o=x.1
  ·subst e;right;simp only[Cs,Hp.put,if_true];exact h.1.symm
  ·simp only[Cs,Hp.put,if_neg e];exact GP.mk h.2 o
structure Fits (l:List (Nat×DV)) (hl:List (Nat×Ck)) (n:Nat):Prop where
 t:∀x,x∈l->bB (fun o=>o<n) x.2
 h:∀x,x∈hl->x.1<n/\∀r,r∈x.2.xs->∀c,c∈r->bB (fun o=>o<n) c
theorem bB.kF{S S':Nat->Prop}{d:DV}(hS:∀o,S o->S' o)(hd:bB S d):bB S' d:=by
 induction hd with
 | v x=>exact .v x
 | any=>exact .any
 | nn=>exact .nn
 | gd p d _ ih=>exact .gd p d ih
 | ptr o g i off h=>exact .ptr o g i off (hS o h)
 | own o g lo n h=>exact .own o g lo n (hS o h)
 | ab f xs _ ih=>exact .ab f xs ih
 | rp cs _ ih=>exact .rp cs ih
 | agg cs _ ih=>exact .agg cs ih
 | bh cs _ ih=>exact .bh cs ih
 | fn f cs _ ih=>exact .fn f cs ih
structure ayy (pre:bT) (nb:Nat):Prop where
 lt:∀o ck,ah pre o=some ck->o<nb
 cl:∀o ck,ah pre o=some ck->∀x,x∈ck.xs->∀c,c∈x->bB (fun o=>∃ck,ah pre o=some ck) c
section quiet
variable {P:Program} {r:List RI} {T:Nat->DV} {H:Hp} {nx:Nat} {K:St->Prop}
end quiet
section guards
variable {P:Program} {r:List RI} {T:Nat->DV} {H:Hp} {nx:Nat} {K:St->Prop} {lg:Lg} {uo:List (Nat×Nat)}
end guards
section GG
theorem Wk.ghost{cx:Cx}{T:Nat->DV}{H:Hp}{nx:Nat}(sz:Nat):Wk cx ⟨T,H,nx⟩ ⟨T,H.put nx (some ⟨0,sz,[]⟩),nx+1⟩:=fun ps a w R=>by
 have m:Mv cx H ps nx w (H.put nx (some ⟨0,sz,[]⟩)) (ps.put nx none) (nx+1) w:=by
  refine Mv.cN nx ⟨0,sz,[]⟩ none (nx+1) w R.hr R.fr R.lb (Nat.le_succ _) (Nat.lt_succ_self _) (.inl (Nat.le_refl _)) ((eA.refl w).rf _) (fun p' h=>by cases h) fun _=>.inl ⟨Ps.b9 ..,rfl⟩
 exact⟨_,RS.step (dst:=none) (d:=.any) (x:=undef) R m (.any _) (fun t h=>by cases h)⟩
variable {P:Program} {r:List RI} {T:Nat->DV} {H:Hp} {nx:Nat} {K:St->Prop} {lg:Lg} {uo:List (Nat×Nat)}
end GG
inductive GT where
 | int (k:IntKind)
 | bool
 | str
 | list (t:GT)
 | unit
 | pair (a b:GT)
def GT.m9:GT->GT->Bool
 | .int k,.int k'=>decide (k=k')
 | .bool,.bool=>true
 | .str,.str=>true
 | .list a,.list b=>GT.m9 a b
 | .unit,.unit=>true
 | .pair a b,.pair c d=>GT.m9 a c && GT.m9 b d
 | _,_=>false
theorem GT.zX:∀(a b:GT),GT.m9 a b=true->a=b
 | .int k,b,h=>by cases b<;>simp_all[GT.m9]
 | .bool,b,h=>by cases b<;>simp_all[GT.m9]
 | .str,b,h=>by cases b<;>simp_all[GT.m9]
 | .unit,b,h=>by cases b<;>simp_all[GT.m9]
 | .list a,b,h=>by
  cases b with
  | list c=>rw[GT.zX a c (by simpa[GT.m9] using h)]
  | _=>simp[GT.m9] at h
 | .pair a a',b,h=>by
  cases b with
  | pair c d=>
   simp only[GT.m9,Bool.and_eq_true] at h;rw[GT.zX a c h.1,GT.zX a' d h.2]
  | _=>simp[GT.m9] at h
@[reducible] def El:GT->Type
 | .int _=>Int
 | .bool=>Bool
 | .str=>List UInt8
 | .list t=>List (El t)
 | .unit=>Unit
 | .pair a b=>El a×El b
def kY(a b:GT)(x:List (El a)):Option (List (El b)):=
 match h:GT.m9 a b with
 | true=>some ((GT.zX a b h)▸x)
 | false=>none
theorem nW{a b:GT}{x:List (El a)}{y:List (El b)}(h:kY a b x=some y):∃e:a=b,y=e▸x:=by
 unfold kY at h;split at h
 ·rename_i he;injection h with h;exact⟨GT.zX a b he,h.symm⟩
 ·cases h
def GT.sz:GT->Nat
 | .int _ | .bool | .str | .list _=>1
 | .unit=>0
 | .pair a b=>a.sz+b.sz
def kq:(t:GT)->El t
 | .int _=>(0:Int)
 | .bool=>false
 | .str=>[]
 | .list _=>[]
 | .unit=>()
 | .pair a b=>(kq a,kq b)
inductive IV where
 | int (k:IntKind) (n:Int)
 | bool (b:Bool)
 | str (s:List UInt8)
 | nil
 | ab (full:Bool) (t:GT) (as:List (El t))
 | raw (x:Value)
 | any
 | nn
 | ptr (o i off:Nat)
 | whole (o:Nat)
 | part (o lo n:Nat)
 | rp (cs:List IV)
 | agg (cs:List IV)
 | bh (vs:List IV)
 | fn (f:FuncId) (cs:List IV)
def kf:(t:GT)->El t->List IV
 | .int k,n=>[.int k n]
 | .bool,b=>[.bool b]
 | .str,s=>[.str s]
 | .list t,as=>[.ab false t as]
 | .unit,_=>[]
 | .pair a b,x=>kf a x.1++kf b x.2
def aX{α β:Type}(R:α->β->Prop)(as:List α)(bs:List β):Prop:=as.length=bs.length/\∀j (h1:j<as.length) (h2:j<bs.length),R as[j] bs[j]
section both
variable {α β:Type} {R:α->β->Prop}
theorem aX.nil:aX R [] []:=⟨rfl,fun j h=>by cases h⟩
theorem aX.cons{a:α}{b:β}{as:List α}{bs:List β}(h:R a b)(k:aX R as bs):aX R (a::as) (b::bs):=
 ⟨by simp[k.1],fun j h1 h2=>by
  cases j with
  | zero=>exact h
  | succ j=>exact k.2 j (by simpa using h1) (by simpa using h2)⟩
theorem aX.cons_inv{a:α}{b:β}{as:List α}{bs:List β}(h:aX R (a::as) (b::bs)):R a b/\aX R as bs:=
 ⟨h.2 0 (by simp) (by simp),by simpa using h.1,fun j h1 h2=>h.2 (j+1) (by simpa using h1) (by simpa using h2)⟩
theorem aX.dD{a:α}{as:List α}{cs:List β}(h:aX R (a::as) cs):∃b bs,cs=b::bs/\R a b/\aX R as bs:=by
 cases cs with
 | nil=>simp[aX] at h
 | cons b bs=>exact⟨b,bs,rfl,h.cons_inv⟩
theorem aX.dY{cs:List β}(h:aX R [] cs):cs=[]:=by
 cases cs with
 | nil=>rfl
 | cons b bs=>simp[aX] at h
theorem aX.p7{a:α}{cs:List β}(h:aX R [a] cs):∃b,cs=[b]/\R a b:=by
 obtain⟨b,bs,rfl,h1,h2⟩:=h.dD;have:=h2.dY;subst this;exact⟨b,rfl,h1⟩
theorem aX.one{a:α}{b:β}(h:R a b):aX R [a] [b]:=aX.nil.cons h
theorem aX.append{a c:List α}{b d:List β}(h:aX R a b)(k:aX R c d):aX R (a++c) (b++d):=by
 refine⟨by simp[h.1,k.1],fun j h1 h2=>?_⟩;rw[List.getElem_append,List.getElem_append];split
 ·rw[dif_pos (by rw[<-h.1];assumption)];exact h.2 j _ _
 ·rw[dif_neg (by rw[<-h.1];assumption)];have:=k.2 (j-a.length) (by simp at h1;omega) (by simp at h2;have:=h.1;omega);simpa only[h.1] using this
theorem aX.mono{R':α->β->Prop}(hR:∀a b,R a b->R' a b){a:List α}{b:List β}(h:aX R a b):aX R' a b:=⟨h.1,fun j h1 h2=>hR _ _ (h.2 j h1 h2)⟩
theorem aX.drop{a:List α}{b:List β}(h:aX R a b)(n:Nat):aX R (a.drop n) (b.drop n):=by
 refine⟨by simp[h.1],fun j h1 h2=>?_⟩;simp only[List.getElem_drop];exact h.2 _ _ _
theorem aX.take{a:List α}{b:List β}(h:aX R a b)(n:Nat):aX R (a.take n) (b.take n):=by
 refine⟨by simp[h.1],fun j h1 h2=>?_⟩;simp only[List.getElem_take];exact h.2 _ _ _
theorem aX.set{a:List α}{b:List β}(h:aX R a b)(n:Nat){x:α}{y:β}(k:R x y):aX R (a.set n x) (b.set n y):=by
 refine⟨by simp[h.1],fun j h1 h2=>?_⟩;simp only[List.getElem_set];split
 ·exact k
 ·exact h.2 _ _ _
theorem aX.get?{a:List α}{b:List β}(h:aX R a b){n:Nat}{x:α}(hx:a[n]? =some x):∃y,b[n]? =some y/\R x y:=by
 obtain⟨hn,rfl⟩:=List.getElem?_eq_some_iff.1 hx;have hn2:n<b.length:=by rw[<-h.1];exact hn
 exact⟨b[n],List.getElem?_eq_getElem hn2,h.2 n hn hn2⟩
theorem aX.getD{a:List α}{b:List β}(h:aX R a b){n:Nat}(x:α)(y:β)(hn:n<a.length):R (a.getD n x) (b.getD n y):=by
 have hn2:n<b.length:=by rw[<-h.1];exact hn
 simp only[List.getD_eq_getElem?_getD,List.getElem?_eq_getElem hn,List.getElem?_eq_getElem hn2,Option.getD_some];exact h.2 n hn hn2
theorem aX.replicate{x:α}{y:β}(n:Nat)(h:R x y):aX R (List.replicate n x) (List.replicate n y):=⟨by simp,fun j h1 h2=>by simpa using h⟩
theorem aX.of_map{γ:Type}{f:γ->α}{g:γ->β}(l:List γ)(h:∀x,R (f x) (g x)):aX R (l.map f) (l.map g):=⟨by simp,fun j h1 h2=>by simpa using h _⟩
end both
def cA:(t:GT)->El t->List DV->Prop
 | .int k,n,ds=>ds=[.v (.int k n)]
 | .bool,b,ds=>ds=[.v (.bool b)]
 | .str,s,ds=>ds=[.v (.string (mU s))]
 | .list t,as,ds=>∃f xs,ds=[.ab f xs]/\aX (cA t) as xs
 | .unit,_,ds=>ds=[]
 | .pair a b,x,ds=>∃d1 d2,ds=d1++d2/\cA a x.1 d1/\cA b x.2 d2
theorem cA.len:∀(t:GT) (x:El t) (ds:List DV),cA t x ds->ds.length=t.sz
 | .int k,n,ds,h=>by rw[show ds=_ from h];rfl
 | .bool,b,ds,h=>by rw[show ds=_ from h];rfl
 | .str,s,ds,h=>by rw[show ds=_ from h];rfl
 | .list t,as,ds,h=>by obtain⟨f,xs,rfl,_⟩:=h;rfl
 | .unit,_,ds,h=>by rw[show ds=_ from h];rfl
 | .pair a b,x,ds,h=>by
  obtain⟨d1,d2,rfl,h1,h2⟩:=h;simp[GT.sz,cA.len a _ _ h1,cA.len b _ _ h2]
theorem cA.ids:∀(t:GT) (x:El t) (ds:List DV),cA t x ds->∀d,d∈ds->bB (fun _=>False) d
 | .int k,n,ds,h=>by rw[show ds=_ from h];intro d hd;rw[List.mem_singleton.1 hd];exact .v _
 | .bool,b,ds,h=>by rw[show ds=_ from h];intro d hd;rw[List.mem_singleton.1 hd];exact .v _
 | .str,s,ds,h=>by rw[show ds=_ from h];intro d hd;rw[List.mem_singleton.1 hd];exact .v _
 | .list t,as,ds,h=>by
  obtain⟨f,xs,rfl,h⟩:=h;intro d hd;rw[List.mem_singleton.1 hd];refine .ab _ _ fun x hx c hc=>?_;obtain⟨j,hj,rfl⟩:=List.mem_iff_getElem.1 hx;exact cA.ids t _ _ (h.2 j (by rw[h.1];exact hj) hj) c hc
 | .unit,_,ds,h=>by rw[show ds=_ from h];intro d hd;cases hd
 | .pair a b,x,ds,h=>by
  obtain⟨d1,d2,rfl,h1,h2⟩:=h;intro d hd;rcases List.mem_append.1 hd with hd | hd
  ·exact cA.ids a _ _ h1 d hd
  ·exact cA.ids b _ _ h2 d hd
inductive Rel (H:Hp) (nx:Nat):IV->DV->Prop
 | int (k:IntKind) (n:Int):Rel H nx (.int k n) (.v (.int k n))
 | bool (b:Bool):Rel H nx (.bool b) (.v (.bool b))
 | str (s:List UInt8):Rel H nx (.str s) (.v (.string (mU s)))
 | nil:Rel H nx .nil (.ab true [])
 | ab (f f':Bool) (t:GT) (as:List (El t)) (xs:List (List DV)) (hf:f=true->f'=true) (h:aX (cA t) as xs):Rel H nx (.ab f t as) (.ab f' xs)
 | raw (x:Value):Rel H nx (.raw x) (.v x)
 | any (d:DV):Rel H nx .any d
 | nn:Rel H nx .nn .nn
 | ptr (o g i off:Nat) (ho:o<nx) (h:∀ck,H o=some ck->ck.gen=g/\i<ck.xs.length):Rel H nx (.ptr o i off) (.ptr o g i off)
 | whole (o g n:Nat) (ho:o<nx) (h:∀ck,H o=some ck->ck.gen=g/\ck.xs.length=n):Rel H nx (.whole o) (.own o g 0 n)
 | part (o g lo n:Nat) (ho:o<nx) (h:∀ck,H o=some ck->ck.gen=g/\lo+n<=ck.xs.length):Rel H nx (.part o lo n) (.own o g lo n)
 | rp (cs:List IV) (ds:List DV) (hl:cs.length=ds.length) (h:∀j (h1:j<cs.length) (h2:j<ds.length),Rel H nx cs[j] ds[j]):Rel H nx (.rp cs) (.rp ds)
 | agg (cs:List IV) (ds:List DV) (hl:cs.length=ds.length) (h:∀j (h1:j<cs.length) (h2:j<ds.length),Rel H nx cs[j] ds[j]):Rel H nx (.agg cs) (.agg ds)
 | bh (cs:List IV) (ds:List DV) (hl:cs.length=ds.length) (h:∀j (h1:j<cs.length) (h2:j<ds.length),Rel H nx cs[j] ds[j]):Rel H nx (.bh cs) (.bh ds)
 | fn (f:FuncId) (cs:List IV) (ds:List DV) (hl:cs.length=ds.length) (h:∀j (h1:j<cs.length) (h2:j<ds.length),Rel H nx cs[j] ds[j]):Rel H nx (.fn f cs) (.fn f ds)
abbrev bR(H:Hp)(nx:Nat):List IV->List DV->Prop:=aX (Rel H nx)
section rel
variable {H H':Hp} {nx nx':Nat}
theorem Rel.lO{cs:List IV}{ds:List DV}(h:bR H nx cs ds):Rel H nx (.agg cs) (.agg ds):=.agg _ _ h.1 h.2
theorem Rel.qE{cs:List IV}{ds:List DV}(h:bR H nx cs ds):Rel H nx (.rp cs) (.rp ds):=.rp _ _ h.1 h.2
theorem Rel.wR{cs:List IV}{ds:List DV}(h:bR H nx cs ds):Rel H nx (.bh cs) (.bh ds):=.bh _ _ h.1 h.2
theorem Rel.ye{f:FuncId}{cs:List IV}{ds:List DV}(h:bR H nx cs ds):Rel H nx (.fn f cs) (.fn f ds):=.fn _ _ _ h.1 h.2
theorem Rel.jg{k:IntKind}{n:Int}{d:DV}(h:Rel H nx (.int k n) d):d=.v (.int k n):=by cases h;rfl
theorem Rel.nA{b:Bool}{d:DV}(h:Rel H nx (.bool b) d):d=.v (.bool b):=by cases h;rfl
theorem Rel.vj{b:List UInt8}{d:DV}(h:Rel H nx (.str b) d):d=.v (.string (mU b)):=by cases h;rfl
theorem Rel.Lu{b:Value}{d:DV}(h:Rel H nx (.raw b) d):d=.v b:=by cases h;rfl
theorem Rel.PH{d:DV}(h:Rel H nx .nn d):d=.nn:=by cases h;rfl
theorem Rel.pq{d:DV}(h:Rel H nx .nil d):d=.ab true []:=by cases h;rfl
theorem Rel.nR{f:Bool}{t:GT}{as:List (El t)}{d:DV}(h:Rel H nx (.ab f t as) d):∃f' xs,d=.ab f' xs/\(f=true->f'=true)/\aX (cA t) as xs:=by
 cases h with
 | ab _ f' _ _ xs hf h=>exact⟨f',xs,rfl,hf,h⟩
theorem Rel.pF{o i off:Nat}{d:DV}(h:Rel H nx (.ptr o i off) d):∃g,d=.ptr o g i off/\o<nx/\∀ck,H o=some ck->ck.gen=g/\i<ck.xs.length:=by
 cases h with
 | ptr _ g _ _ ho h=>exact⟨g,rfl,ho,h⟩
theorem Rel.nk{o:Nat}{d:DV}(h:Rel H nx (.whole o) d):∃g n,d=.own o g 0 n/\o<nx/\∀ck,H o=some ck->ck.gen=g/\ck.xs.length=n:=by
 cases h with
 | whole _ g n ho h=>exact⟨g,n,rfl,ho,h⟩
theorem Rel.qJ{o lo n:Nat}{d:DV}(h:Rel H nx (.part o lo n) d):∃g,d=.own o g lo n/\o<nx/\∀ck,H o=some ck->ck.gen=g/\lo+n<=ck.xs.length:=by
 cases h with
 | part _ g _ _ ho h=>exact⟨g,rfl,ho,h⟩
theorem Rel.fj{cs:List IV}{d:DV}(h:Rel H nx (.agg cs) d):∃ds,d=.agg ds/\bR H nx cs ds:=by
 cases h with
 | agg _ ds hl h=>exact⟨ds,rfl,hl,h⟩
theorem Rel.uB{cs:List IV}{d:DV}(h:Rel H nx (.rp cs) d):∃ds,d=.rp ds/\bR H nx cs ds:=by
 cases h with
 | rp _ ds hl h=>exact⟨ds,rfl,hl,h⟩
theorem Rel.kG{cs:List IV}{d:DV}(h:Rel H nx (.bh cs) d):∃ds,d=.bh ds/\bR H nx cs ds:=by
 cases h with
 | bh _ ds hl h=>exact⟨ds,rfl,hl,h⟩
theorem Rel.jQ{f:FuncId}{cs:List IV}{d:DV}(h:Rel H nx (.fn f cs) d):∃ds,d=.fn f ds/\bR H nx cs ds:=by
 cases h with
 | fn _ _ ds hl h=>exact⟨ds,rfl,hl,h⟩
structure k8 (H:Hp) (nx:Nat) (H':Hp) (nx':Nat):Prop where
 n:nx<=nx'
 h:∀o ck',o<nx->H' o=some ck'->∃ck,H o=some ck/\ck.gen=ck'.gen/\ck.xs.length=ck'.xs.length
theorem k8.refl:k8 H nx H nx:=⟨Nat.le_refl _,fun o ck _ h=>⟨ck,h,rfl,rfl⟩⟩
theorem Rel.same(s:k8 H nx H' nx'){v:IV}{d:DV}(h:Rel H nx v d):Rel H' nx' v d:=by
 induction h with
 | int k n=>exact .int k n
 | bool b=>exact .bool b
 | str b=>exact .str b
 | nil=>exact .nil
 | ab f f' t as xs hf h=>exact .ab f f' t as xs hf h
 | raw x=>exact .raw x
 | any d=>exact .any d
 | nn=>exact .nn
 | ptr o g i off ho h=>
  refine .ptr o g i off (Nat.lt_of_lt_of_le ho s.n) fun ck' hk=>?_;obtain⟨ck,h1,h2,h3⟩:=s.h o ck' ho hk;have:=h ck h1;exact⟨by omega,by omega⟩
 | whole o g n ho h=>
  refine .whole o g n (Nat.lt_of_lt_of_le ho s.n) fun ck' hk=>?_;obtain⟨ck,h1,h2,h3⟩:=s.h o ck' ho hk;have:=h ck h1;exact⟨by omega,by omega⟩
 | part o g lo n ho h=>
  refine .part o g lo n (Nat.lt_of_lt_of_le ho s.n) fun ck' hk=>?_;obtain⟨ck,h1,h2,h3⟩:=s.h o ck' ho hk;have:=h ck h1;exact⟨by omega,by omega⟩
 | rp cs ds hl _ ih=>exact .rp cs ds hl ih
 | agg cs ds hl _ ih=>exact .agg cs ds hl ih
 | bh cs ds hl _ ih=>exact .bh cs ds hl ih
 | fn f cs ds hl _ ih=>exact .fn f cs ds hl ih
theorem sH:∀(t:GT) (x:El t) (ds:List DV),cA t x ds->bR H nx (kf t x) ds
 | .int k,n,ds,h=>by rw[show ds=_ from h];exact .one (.int k n)
 | .bool,b,ds,h=>by rw[show ds=_ from h];exact .one (.bool b)
 | .str,s,ds,h=>by rw[show ds=_ from h];exact .one (.str s)
 | .list t,as,ds,h=>by
  obtain⟨f,xs,rfl,h⟩:=h;exact .one (.ab _ _ _ _ _ (fun e=>by cases e) h)
 | .unit,_,ds,h=>by rw[show ds=_ from h];exact .nil
 | .pair a b,x,ds,h=>by
  obtain⟨d1,d2,rfl,h1,h2⟩:=h;exact(sH a _ _ h1).append (sH b _ _ h2)
def lx:(t:GT)->List IV->Option (El t×List IV)
 | .int k,cs=>match cs with
  | .int k' n::r=>if k=k' then some (n,r) else none
  | _=>none
 | .bool,cs=>match cs with
  | .bool b::r=>some (b,r)
  | _=>none
 | .str,cs=>match cs with
  | .str s::r=>some (s,r)
  | _=>none
 | .list t,cs=>match cs with
  | .nil::r=>some ([],r)
  | .ab _ t' as::r=>match kY t' t as with
   | some as'=>some (as',r)
   | none=>none
  | _=>none
 | .unit,cs=>some ((),cs)
 | .pair a b,cs=>match lx a cs with
  | some (x,r)=>match lx b r with
   | some (y,r')=>some ((x,y),r')
   | none=>none
  | none=>none
def dec(t:GT)(cs:List IV):Option (El t):=match lx t cs with
 | some (x,[])=>some x
 | _=>none
theorem vb:∀(t:GT) (cs:List IV) (x:El t) (r:List IV) (ds:List DV),lx t cs=some (x,r)->bR H nx cs ds->∃d1 d2,ds=d1++d2/\cA t x d1/\bR H nx r d2
 | .int k,cs,x,r,ds,h,hr=>by
  simp only[lx] at h;split at h
  ·rename_i k' n r';split at h
   ·rename_i hk;subst hk;simp only[Option.some.injEq,Prod.mk.injEq] at h;obtain⟨rfl,rfl⟩:=h;obtain⟨d,ds,rfl,h1,h2⟩:=hr.dD;exact⟨[d],ds,rfl,by rw[h1.jg];rfl,h2⟩
   ·cases h
  ·cases h
 | .bool,cs,x,r,ds,h,hr=>by
  simp only[lx] at h;split at h
  ·simp only[Option.some.injEq,Prod.mk.injEq] at h;obtain⟨rfl,rfl⟩:=h;obtain⟨d,ds,rfl,h1,h2⟩:=hr.dD;exact⟨[d],ds,rfl,by rw[h1.nA];rfl,h2⟩
  ·cases h
 | .str,cs,x,r,ds,h,hr=>by
  simp only[lx] at h;split at h
  ·simp only[Option.some.injEq,Prod.mk.injEq] at h;obtain⟨rfl,rfl⟩:=h;obtain⟨d,ds,rfl,h1,h2⟩:=hr.dD;exact⟨[d],ds,rfl,by rw[h1.vj];rfl,h2⟩
  ·cases h
 | .list t,cs,x,r,ds,h,hr=>by
  simp only[lx] at h;split at h
  ·simp only[Option.some.injEq,Prod.mk.injEq] at h;obtain⟨rfl,rfl⟩:=h;obtain⟨d,ds,rfl,h1,h2⟩:=hr.dD;rw[h1.pq];exact⟨[.ab true []],ds,rfl,⟨true,[],rfl,.nil⟩,h2⟩
  ·rename_i f t' as r';split at h
   ·rename_i as' hc;simp only[Option.some.injEq,Prod.mk.injEq] at h;obtain⟨rfl,rfl⟩:=h;obtain⟨d,ds,rfl,h1,h2⟩:=hr.dD;obtain⟨rfl,rfl⟩:=nW hc;obtain⟨f',xs,rfl,_,h3⟩:=h1.nR;exact⟨[.ab f' xs],ds,rfl,⟨f',xs,rfl,h3⟩,h2⟩
   ·cases h
  ·cases h
 | .unit,cs,x,r,ds,h,hr=>by
  simp only[lx,Option.some.injEq,Prod.mk.injEq] at h;obtain⟨_,rfl⟩:=h;exact⟨[],ds,rfl,rfl,hr⟩
 | .pair a b,cs,x,r,ds,h,hr=>by
  simp only[lx] at h;split at h
  ·rename_i y r1 h1;split at h
   ·rename_i z r2 h2;simp only[Option.some.injEq,Prod.mk.injEq] at h;obtain⟨rfl,rfl⟩:=h;obtain⟨d1,d2,rfl,k1,k2⟩:=vb a cs y r1 ds h1 hr;obtain⟨d3,d4,rfl,k3,k4⟩:=vb b r1 z r2 d2 h2 k2;exact⟨d1++d3,d4,by simp,⟨d1,d3,rfl,k1,k3⟩,k4⟩
   ·cases h
  ·cases h
theorem tn{t:GT}{cs:List IV}{x:El t}{ds:List DV}(h:dec t cs=some x)(hr:bR H nx cs ds):cA t x ds:=by
 unfold dec at h;split at h
 ·rename_i y hy;injection h with h;subst h
  obtain⟨d1,d2,rfl,h1,h2⟩:=vb t cs y [] ds hy hr;rw[h2.dY,List.append_nil];exact h1
 ·cases h
end rel
inductive cS where
 | box (g:Nat) (cs:List IV)
 | arr (t:GT) (as:List (El t))
 | hF (t:GT) (as:List (El t))
 | wait
abbrev IH:=List (Option cS)
structure SI where
 T:List (Nat×IV)
 H:IH
def dy:List (Nat×IV)->Nat->IV
 | [],_=>.any
 | (a,v)::r,t=>cond (Nat.beq a t) v (dy r t)
def aK:IH->Nat->Option cS
 | [],_=>none
 | c::_,0=>c
 | _::r,o+1=>aK r o
def fp:IH->Nat->Option cS->IH
 | [],_,_=>[]
 | _::r,0,x=>x::r
 | c::r,o+1,x=>c::fp r o x
theorem kS:∀(H:IH) (o:Nat) (x:Option cS),(fp H o x).length=H.length
 | [],_,_=>rfl
 | _::r,0,x=>rfl
 | c::r,o+1,x=>by simp[fp,kS r o x]
theorem lW:∀(H:IH) (o:Nat) (x:Option cS) (o':Nat),aK (fp H o x) o'=if o'=o/\o<H.length then x else aK H o'
 | [],o,x,o'=>by simp[fp,aK]
 | c::r,0,x,0=>by simp[fp,aK]
 | c::r,0,x,o'+1=>by simp[fp,aK]
 | c::r,o+1,x,0=>by simp[fp,aK]
 | c::r,o+1,x,o'+1=>by simp[fp,aK,lW r o x o']
theorem Gd:∀(H:IH) (x:Option cS) (o:Nat),aK (H++[x]) o=if o=H.length then x else aK H o
 | [],x,0=>by simp[aK]
 | [],x,o+1=>by simp[aK]
 | c::r,x,0=>by simp[aK]
 | c::r,x,o+1=>by simp[aK,Gd r x o]
theorem sV:∀(H:IH) (o:Nat) (c:cS),aK H o=some c->o<H.length
 | [],o,c,h=>by simp[aK] at h
 | _::r,0,c,h=>by simp
 | _::r,o+1,c,h=>by have:=sV r o c h;simp;omega
def dh(H:Hp)(nx:Nat):cS->Ck->Prop
 | .box g cs,ck=>ck.sz=cs.length/\∃ds,ck.xs=[ds]/\bR H nx cs ds/\ck.gen=g
 | .arr t as,ck=>ck.sz=t.sz/\aX (cA t) as ck.xs
 | .hF t as,ck=>ck.sz=t.sz/\aX (cA t) as ck.xs/\ck.gen=0
 | .wait,ck=>∃sz,ck=⟨0,sz,[]⟩
def jw(HI:IH)(H:Hp)(nx:Nat):Prop:=∀o c,aK HI o=some c->o<nx/\∃ck,H o=some ck/\dh H nx c ck
structure SR (si:SI) (s:St):Prop where
 t:∀t,Rel s.H s.nx (dy si.T t) (s.T t)
 h:jw si.H s.H s.nx
 n:si.H.length=s.nx
def p6:DV->IV
 | .v (.int k n)=>.int k n
 | .v (.bool b)=>.bool b
 | .v (.string s)=>.str (bl s)
 | .v x=>.raw x
 | .ab true []=>.nil
 | .fn f []=>.fn f []
 | _=>.any
def Ot:DV->IV
 | .agg cs=>.agg (cs.map p6)
 | d=>p6 d
def dG(T:List (Nat×IV)):RO->IV
 | .t n=>dy T n
 | .c d=>Ot d
section basics
variable {H:Hp} {nx:Nat}
theorem Tz(d:DV):Rel H nx (p6 d) d:=by
 unfold p6;split
 ·exact .int _ _
 ·exact .bool _
 ·exact Rel.str (bl _)
 ·exact .raw _
 ·exact .nil
 ·exact .fn _ _ _ rfl (fun j h=>by cases h)
 ·exact .any _
theorem u9(l:List DV):bR H nx (l.map p6) l:=⟨by simp,fun j h1 h2=>by simpa using Tz _⟩
theorem SV(d:DV):Rel H nx (Ot d) d:=by
 unfold Ot;split
 ·exact Rel.lO (u9 _)
 ·exact Tz _
theorem Rel.un{v:IV}{d:DV}(h:Rel H nx v d):Rel H nx v (Pv.un true d):=by
 cases h<;>first | exact .int .. | exact .bool .. | exact .str .. | exact .nil | exact .ab _ _ _ _ _ ‹_› ‹_› | exact .raw .. | exact .any _ | exact .nn | exact .ptr _ _ _ _ ‹_› ‹_› | exact .whole _ _ _ ‹_› ‹_› | exact .part _ _ _ _ ‹_› ‹_› | exact .rp _ _ ‹_› ‹_› | exact .agg _ _ ‹_› ‹_› | exact .bh _ _ ‹_› ‹_› | exact .fn _ _ _ ‹_› ‹_›
theorem eN{T:List (Nat×IV)}{T':Nat->DV}(h:∀t,Rel H nx (dy T t) (T' t))(x:RO):Rel H nx (dG T x) (Pv.un true (x.get T')):=by
 cases x with
 | t n=>exact(h n).un
 | c d=>exact(SV d).un
end basics
def iQ:IV->Option (List IV)
 | .agg cs=>some cs
 | .raw x=>if x.oneCell'=true then some [.raw x] else none
 | .any=>none
 | .nn=>none
 | .bh _=>none
 | v=>some [v]
theorem Hk{H:Hp}{nx:Nat}{v:IV}{d:DV}{cs:List IV}(h:iQ v=some cs)(hr:Rel H nx v d):∃ds,hJ d=some ds/\bR H nx cs ds:=by
 cases hr with
 | agg cs' ds hl hh=>simp only[iQ] at h;cases h;exact⟨ds,rfl,hl,hh⟩
 | raw x=>
  simp only[iQ] at h;split at h
  ·rename_i hx;cases h;exact⟨[.v x],by simp[hJ,hx],.one (.raw x)⟩
  ·cases h
 | any d=>simp[iQ] at h
 | nn=>simp[iQ] at h
 | bh cs' ds hl hh=>simp[iQ] at h
 | int k n=>simp only[iQ] at h;cases h;exact⟨_,rfl,.one (.int _ _)⟩
 | bool b=>simp only[iQ] at h;cases h;exact⟨_,rfl,.one (.bool _)⟩
 | str b=>simp only[iQ] at h;cases h;exact⟨_,rfl,.one (.str _)⟩
 | nil=>simp only[iQ] at h;cases h;exact⟨_,rfl,.one .nil⟩
 | ab f f' t as xs hf hh=>simp only[iQ] at h;cases h;exact⟨_,rfl,.one (.ab _ _ _ _ _ hf hh)⟩
 | ptr o g i off ho hh=>simp only[iQ] at h;cases h;exact⟨_,rfl,.one (.ptr _ _ _ _ ho hh)⟩
 | whole o g n ho hh=>simp only[iQ] at h;cases h;exact⟨_,rfl,.one (.whole _ _ _ ho hh)⟩
 | part o g lo n ho hh=>simp only[iQ] at h;cases h;exact⟨_,rfl,.one (.part _ _ _ _ ho hh)⟩
 | rp cs' ds hl hh=>simp only[iQ] at h;cases h;exact⟨_,rfl,.one (.rp _ _ hl hh)⟩
 | fn f cs' ds hl hh=>simp only[iQ] at h;cases h;exact⟨_,rfl,.one (.fn _ _ _ hl hh)⟩
def sX(cs:List IV)(off:Nat)(news:List IV):List IV:=cs.take off++(news++cs.drop (off+news.length))
theorem Gm{H:Hp}{nx:Nat}{cs ns:List IV}{ds ms:List DV}(h:bR H nx cs ds)(k:bR H nx ns ms)(off:Nat):bR H nx (sX cs off ns) (eF ds off ms):=by
 unfold sX eF;rw[List.append_assoc,<-k.1];exact(h.take off).append (k.append (h.drop _))
def BX(T:List (Nat×IV)):List IV->List (Nat×Nat×RO)->Option (List IV)
 | z,[]=>some z
 | z,(off,n,x)::r=>match iQ (dG T x) with
  | some cs=>if cs.length=n/\off+n<=z.length then BX T (sX z off cs) r else none
  | none=>none
theorem PD{H:Hp}{nx:Nat}{T:List (Nat×IV)}{T':Nat->DV}(h:∀t,Rel H nx (dy T t) (T' t)):∀(ps:List (Nat×Nat×RO)) (z:List IV) (z':List DV) (cs:List IV),BX T z ps=some cs->bR H nx z z'->
  ∃ds,kK (fun x=>un true (x.get T')) z' ps=some ds/\bR H nx cs ds
 | [],z,z',cs,hf,hz=>by simp only[BX,Option.some.injEq] at hf;subst hf;exact⟨z',rfl,hz⟩
 | (off,n,x)::r,z,z',cs,hf,hz=>by
  simp only[BX] at hf;split at hf
  ·rename_i c hc;split at hf
   ·rename_i hn;obtain⟨ds,h1,h2⟩:=Hk hc (eN h x);obtain⟨es,h3,h4⟩:=PD h r _ _ cs hf (Gm hz h2 off);refine⟨es,?_,h4⟩;simp only[kK,h1];rw[if_pos ⟨by rw[<-h2.1];exact hn.1,by rw[<-hz.1];exact hn.2⟩];exact h3
   ·cases hf
  ·cases hf
def zO(T:List (Nat×IV))(sz:Nat):List (List IV)->List (Nat×RO)->Option (List (List IV))
 | xs,[]=>some xs
 | xs,(i,x)::r=>match iQ (dG T x) with
  | some cs=>if cs.length=sz/\i<xs.length then zO T sz (xs.set i cs) r else none
  | none=>none
theorem Vy{H:Hp}{nx:Nat}{T:List (Nat×IV)}{T':Nat->DV}(sz:Nat)(h:∀t,Rel H nx (dy T t) (T' t)):∀(ps:List (Nat×RO)) (z:List (List IV)) (z':List (List DV)) (cs:List (List IV)),zO T sz z ps=some cs->aX (bR H nx) z z'->
  ∃ds,jE (fun x=>un true (x.get T')) sz z' ps=some ds/\aX (bR H nx) cs ds
 | [],z,z',cs,hf,hz=>by simp only[zO,Option.some.injEq] at hf;subst hf;exact⟨z',rfl,hz⟩
 | (i,x)::r,z,z',cs,hf,hz=>by
  simp only[zO] at hf;split at hf
  ·rename_i c hc;split at hf
   ·rename_i hn;obtain⟨ds,h1,h2⟩:=Hk hc (eN h x);obtain⟨es,h3,h4⟩:=Vy sz h r _ _ cs hf (hz.set i h2);refine⟨es,?_,h4⟩;simp only[jE,h1];rw[if_pos ⟨by rw[<-h2.1];exact hn.1,by rw[<-hz.1];exact hn.2⟩];exact h3
   ·cases hf
  ·cases hf
def BO(t:GT):List (List IV)->Option (List (El t))
 | []=>some []
 | c::r=>match dec t c with
  | some x=>match BO t r with
   | some l=>some (x::l)
   | none=>none
  | none=>none
theorem Xm{H:Hp}{nx:Nat}{t:GT}:∀(rows:List (List IV)) (as:List (El t)) (xs:List (List DV)),BO t rows=some as->aX (bR H nx) rows xs->aX (cA t) as xs
 | [],as,xs,h,hb=>by simp only[BO,Option.some.injEq] at h;subst h;rw[hb.dY];exact .nil
 | c::r,as,xs,h,hb=>by
  simp only[BO] at h;split at h
  ·rename_i x hx;split at h
   ·rename_i l hl;injection h with h;subst h
    obtain⟨d,ds,rfl,h1,h2⟩:=hb.dD;exact(aX.cons (tn hx h1) (Xm r l ds hl h2))
   ·cases h
  ·cases h
def ET:Nat->IV->IV->Option Bool
 | 1,.int k a,.int k' b=>if k=k' then some (a==b) else none
 | 0,.bool a,.bool b=>some (a==b)
 | 2,.str a,.str b=>some (a==b)
 | _,_,_=>none
def Cc(xs ys:List IV):List (Nat×Nat)->Option Bool
 | []=>some true
 | [o]=>ET o.2 (xs.getD o.1 .any) (ys.getD o.1 .any)
 | o::r=>match ET o.2 (xs.getD o.1 .any) (ys.getD o.1 .any),Cc xs ys r with
  | some a,some b=>some (a && b)
  | _,_=>none
theorem Xc{H:Hp}{nx:Nat}{q:Nat}{x y:IV}{d e:DV}{b:Bool}(h:ET q x y=some b)(hx:Rel H nx x d)(hy:Rel H nx y e):uO q d e=some b:=by
 unfold ET at h;split at h
 ·rw[hx.jg,hy.jg];exact h
 ·rw[hx.nA,hy.nA];exact h
 ·rename_i a b;rw[hx.vj,hy.vj];rw[<-h];show some (mU a==mU b)=some (a==b);have:(mU a==mU b)=(a==b):=by
   show(Array.mk a==Array.mk b)=(a==b);simp
  rw[this]
 ·cases h
theorem bR.zT{H:Hp}{nx:Nat}{xs:List IV}{ds:List DV}(h:bR H nx xs ds)(n:Nat):Rel H nx (xs.getD n .any) (ds.getD n .any):=by
 by_cases hn:n<xs.length
 ·exact aX.getD h _ _ hn
 ·simp only[List.getD_eq_getElem?_getD,List.getElem?_eq_none (Nat.le_of_not_lt hn),Option.getD_none];exact .any _
theorem Ur{H:Hp}{nx:Nat}{xs ys:List IV}{ds es:List DV}(hx:bR H nx xs ds)(hy:bR H nx ys es):∀(l:List (Nat×Nat)) (b:Bool),Cc xs ys l=some b->nw ds es l=some b
 | [],b,h=>h
 | [o],b,h=>by
  simp only[Cc] at h;simp only[nw,Xc h (bR.zT hx _) (bR.zT hy _),Bool.and_true]
 | o::p::r,b,h=>by
  simp only[Cc] at h;split at h
  ·rename_i a c h1 h2;cases h;rw[nw,Xc h1 (bR.zT hx _) (bR.zT hy _),Ur hx hy (p::r) c h2]
  ·cases h
inductive mb where
 | no
 | set (o:Nat) (c:cS)
 | al (c:cS)
 | grow (o:Nat) (c:cS)
def sA:IV->Bool
 | .int _ _ | .bool _ | .str _ | .ab _ _ _ | .nil=>true
 | _=>false
theorem Pz{H H':Hp}{nx nx':Nat}{v:IV}{d:DV}(hf:sA v=true)(h:Rel H nx v d):Rel H' nx' v d/\bB (fun _=>False) d:=by
 cases h with
 | int k n=>exact⟨.int _ _,.v _⟩
 | bool b=>exact⟨.bool _,.v _⟩
 | str b=>exact⟨.str _,.v _⟩
 | nil=>exact⟨.nil,.ab _ _ fun x hx=>by cases hx⟩
 | ab f f' t as xs hf' hb=>exact⟨.ab _ _ _ _ _ hf' hb,.ab _ _ fun x hx c hc=>by
   obtain⟨j,hj,rfl⟩:=List.mem_iff_getElem.1 hx;exact cA.ids t _ _ (hb.2 j (by rw[hb.1];exact hj) hj) c hc⟩
 | _=>cases hf
theorem NJ{H H':Hp}{nx nx':Nat}{cs:List IV}{ds:List DV}(hf:cs.all sA=true)(h:bR H nx cs ds):bR H' nx' cs ds/\∀d,d∈ds->bB (fun _=>False) d:=
 ⟨⟨h.1,fun j a b=>(Pz (List.all_eq_true.1 hf _ (List.getElem_mem a)) (h.2 j a b)).1⟩,fun d hd=>by
  obtain⟨j,hj,rfl⟩:=List.mem_iff_getElem.1 hd;exact(Pz (H':=H) (nx':=nx) (List.all_eq_true.1 hf _ (List.getElem_mem (by rw[h.1];exact hj))) (h.2 j (by rw[h.1];exact hj) hj)).2⟩
def gL(o:Nat):IV->IV
 | .ptr o' i f=>cond (Nat.beq o' o) .any (.ptr o' i f)
 | .whole o'=>cond (Nat.beq o' o) .any (.whole o')
 | .part o' l n=>cond (Nat.beq o' o) .any (.part o' l n)
 | .rp cs=>cond (cs.all sA) (.rp cs) .any
 | .agg _=>.any
 | .bh _=>.any
 | .fn f []=>.fn f []
 | .fn _ _=>.any
 | v=>v
def F7(o:Nat):IV->IV
 | .agg cs=>.agg (cs.map (gL o))
 | .rp cs=>.rp (cs.map (gL o))
 | .fn f cs=>.fn f (cs.map (gL o))
 | v=>gL o v
def vt(o:Nat):IV->IV
 | .bh vs=>.bh (vs.map (F7 o))
 | v=>F7 o v
def s3(o:Nat):List (Nat×IV)->List (Nat×IV)
 | []=>[]
 | (a,v)::r=>(a,vt o v)::s3 o r
def lM(o:Nat):Option cS->Option cS
 | some (.box g cs)=>some (.box g (cs.map (gL o)))
 | c=>c
def ka(o:Nat):IH->IH
 | []=>[]
 | c::r=>lM o c::ka o r
def mb.t(T:List (Nat×IV)):mb->List (Nat×IV)
 | .grow o _=>s3 o T
 | _=>T
def mb.h(H:IH):mb->IH
 | .no=>H
 | .set o c=>fp H o (some c)
 | .al c=>H++[some c]
 | .grow o c=>fp (ka o H) o (some c)
def kI(dst:Option Nat)(v:IV)(T:List (Nat×IV)):List (Nat×IV):=match dst with
 | some d=>(d,v)::T
 | none=>T
structure vL (o:Nat) (H:Hp) (nx:Nat) (H':Hp) (nx':Nat):Prop where
 n:nx<=nx'
 h:∀o' ck',o'<nx->o'≠o->H' o'=some ck'->∃ck,H o'=some ck/\ck.gen=ck'.gen/\ck.xs.length=ck'.xs.length
section kill
variable {H H':Hp} {nx nx' o:Nat}
theorem xm{a b:Nat}(h:Nat.beq a b=false):a≠b:=fun e=>by subst e;rw[Nat.beq_refl] at h;cases h
theorem S3(s:vL o H nx H' nx'){v:IV}{d:DV}(h:Rel H nx v d):Rel H' nx' (gL o v) d:=by
 cases h with
 | int k n=>exact .int k n
 | bool b=>exact .bool b
 | str b=>exact .str b
 | nil=>exact .nil
 | ab f f' t as xs hf h=>exact .ab f f' t as xs hf h
 | raw x=>exact .raw x
 | any d=>exact .any d
 | nn=>exact .nn
 | ptr o' g i off ho h=>
  simp only[gL];cases hb:Nat.beq o' o with
  | true=>exact .any _
  | false=>
   refine .ptr o' g i off (Nat.lt_of_lt_of_le ho s.n) fun ck' hk=>?_;obtain⟨ck,h1,h2,h3⟩:=s.h o' ck' ho (xm hb) hk;have:=h ck h1;exact⟨by omega,by omega⟩
 | whole o' g n ho h=>
  simp only[gL];cases hb:Nat.beq o' o with
  | true=>exact .any _
  | false=>
   refine .whole o' g n (Nat.lt_of_lt_of_le ho s.n) fun ck' hk=>?_;obtain⟨ck,h1,h2,h3⟩:=s.h o' ck' ho (xm hb) hk;have:=h ck h1;exact⟨by omega,by omega⟩
 | part o' g lo n ho h=>
  simp only[gL];cases hb:Nat.beq o' o with
  | true=>exact .any _
  | false=>
   refine .part o' g lo n (Nat.lt_of_lt_of_le ho s.n) fun ck' hk=>?_;obtain⟨ck,h1,h2,h3⟩:=s.h o' ck' ho (xm hb) hk;have:=h ck h1;exact⟨by omega,by omega⟩
 | rp cs ds hl h=>
  simp only[gL];cases hb:cs.all sA with
  | true=>exact Rel.qE (NJ hb ⟨hl,h⟩).1
  | false=>exact .any _
 | agg cs ds hl h=>exact .any _
 | bh cs ds hl h=>exact .any _
 | fn f cs ds hl h=>
  cases cs with
  | nil=>exact .fn _ _ _ hl (fun j h=>by cases h)
  | cons=>exact .any _
theorem EG(s:vL o H nx H' nx'){cs:List IV}{ds:List DV}(h:bR H nx cs ds):bR H' nx' (cs.map (gL o)) ds:=
 ⟨by simp[h.1],fun j h1 h2=>by simpa using S3 s (h.2 j (by simpa using h1) h2)⟩
theorem Qv(s:vL o H nx H' nx'){v:IV}{d:DV}(h:Rel H nx v d):Rel H' nx' (F7 o v) d:=by
 unfold F7;split
 ·obtain⟨ds,rfl,k⟩:=h.fj;exact Rel.lO (EG s k)
 ·obtain⟨ds,rfl,k⟩:=h.uB;exact Rel.qE (EG s k)
 ·obtain⟨ds,rfl,k⟩:=h.jQ;exact Rel.ye (EG s k)
 ·exact S3 s h
theorem QO(s:vL o H nx H' nx'){v:IV}{d:DV}(h:Rel H nx v d):Rel H' nx' (vt o v) d:=by
 unfold vt;split
 ·obtain⟨ds,rfl,k⟩:=h.kG;exact Rel.wR ⟨by simp[k.1],fun j h1 h2=>by simpa using Qv s (k.2 j (by simpa using h1) h2)⟩
 ·exact Qv s h
theorem Na:∀(T:List (Nat×IV)) (t:Nat),dy (s3 o T) t=vt o (dy T t)
 | [],t=>rfl
 | (a,v)::r,t=>by
  simp only[s3,dy];cases Nat.beq a t with
  | true=>rfl
  | false=>exact Na r t
theorem xq:∀(HI:IH) (j:Nat),aK (ka o HI) j=lM o (aK HI j)
 | [],j=>rfl
 | c::r,0=>rfl
 | c::r,j+1=>xq r j
theorem sG:∀(HI:IH),(ka o HI).length=HI.length
 | []=>rfl
 | c::r=>by simp[ka,sG r]
theorem Rw(s:vL o H nx H' nx'){c c':cS}{ck:Ck}(h:dh H nx c ck)(hk:lM o (some c)=some c'):dh H' nx' c' ck:=by
 cases c with
 | box g cs=>
  simp only[lM] at hk;cases hk;obtain⟨h1,ds,h2,h3,h4⟩:=h;exact⟨by simp[h1],ds,h2,EG s h3,h4⟩
 | arr t as=>simp only[lM] at hk;cases hk;exact h
 | hF t as=>simp only[lM] at hk;cases hk;exact h
 | wait=>simp only[lM] at hk;cases hk;exact h
end kill
theorem dh.iR{H:Hp}{nx g n:Nat}{cs:List IV}{ds:List DV}(h1:n=cs.length)(h:bR H nx cs ds):dh H nx (.box g cs) ⟨g,n,[ds]⟩:=⟨h1,ds,rfl,h,rfl⟩
theorem dh.og{H:Hp}{nx g n:Nat}{t:GT}{as:List (El t)}{xs:List (List DV)}(h1:n=t.sz)(h:aX (cA t) as xs):dh H nx (.arr t as) ⟨g,n,xs⟩:=⟨h1,h⟩
theorem dh.same{H H':Hp}{nx nx':Nat}(s:k8 H nx H' nx'){c:cS}{ck:Ck}(h:dh H nx c ck):dh H' nx' c ck:=by
 cases c with
 | box g cs=>
  obtain⟨h1,ds,h2,h3,h4⟩:=h;exact⟨h1,ds,h2,⟨h3.1,fun j a b=>(h3.2 j a b).same s⟩,h4⟩
 | arr t as=>exact h
 | hF t as=>exact h
 | wait=>exact h
def qS(P:Program)(op:cR)(s:St)(T:List (Nat×IV))(HI:IH)(v:IV)(u:mb)(rd:List Nat)(wr:List Nat):Prop:=
 ∃d post nx',(∀K:DV->bT->Nat->List Nat->Prop,K d post nx' rd->qC P op true s K)/\post.map (·.1)=wr/\∀dst,SR ⟨kI dst v (u.t T),u.h HI⟩ ⟨fJ s.T dst d,bK s.H post,nx'⟩
def wU:cR->Bool
 | .call .. | .alloc _=>false
 | _=>true
theorem Iz{P:Program}{op:cR}(hp:wU op=true){s:St}{K:DV->bT->Nat->List Nat->Prop}{d:DV}{u:Up}(h:ev op true s.T s.H s.nx=some (d,u))(k:K d (u.post s.nx) (u.nx s.nx) (cF op true s.T)):qC P op true s K:=by
 cases op with
 | call f xs=>cases hp
 | alloc z=>cases hp
 | app sz by' a x=>exact .inl (by simp only[h,nS];exact k)
 | fw sz by' z l c=>exact .inl (by simp only[h,nS];exact k)
 | _=>simp only[qC,h,nS];exact k
section steps
variable {P:Program} {op:cR} {s:St} {T:List (Nat×IV)} {HI:IH} {v:IV} {rd:List Nat}
theorem uw{H:Hp}{nx:Nat}{T':Nat->DV}(h:∀t,Rel H nx (dy T t) (T' t)){d:DV}(hv:Rel H nx v d)(dst:Option Nat):∀t,Rel H nx (dy (kI dst v T) t) (fJ T' dst d t):=by
 intro t;cases dst with
 | none=>exact h t
 | some e=>
  simp only[kI,dy,fJ,cN];by_cases he:t=e
  ·subst he;rw[if_pos rfl,Nat.beq_refl];exact hv
  ·rw[if_neg he];have:Nat.beq e t=false:=by
    cases hb:Nat.beq e t with
    | false=>rfl
    | true=>exact absurd (Nat.eq_of_beq_eq_true hb).symm he
   rw[this];exact h t
theorem qS.no(hs:SR ⟨T,HI⟩ s)(hp:wU op=true){d:DV}(h:ev op true s.T s.H s.nx=some (d,.no))(hrd:cF op true s.T=rd)(hv:Rel s.H s.nx v d):qS P op s T HI v .no rd []:=
 ⟨d,[],s.nx,fun K k=>Iz hp h (by rw[hrd];exact k),rfl,fun dst=>⟨uw hs.t hv dst,hs.h,hs.n⟩⟩
theorem asf{o:Nat}{ck ck':Ck}(hH:s.H o=some ck)(hg:ck'.gen=ck.gen)(hl:ck'.xs.length=ck.xs.length):k8 s.H s.nx (s.H.put o (some ck')) s.nx:=
 ⟨Nat.le_refl _,fun o' c hlt hc=>by
  by_cases e:o'=o
  ·subst e;rw[Hp.b9] at hc;cases hc;exact⟨ck,hH,hg.symm,hl.symm⟩
  ·rw[Hp.aS _ _ _ e] at hc;exact⟨c,hc,rfl,rfl⟩⟩
theorem qS.set(hs:SR ⟨T,HI⟩ s)(hp:wU op=true){d:DV}{o:Nat}{c0 c:cS}{ck ck':Ck}(h:ev op true s.T s.H s.nx=some (d,.wr o ck'))(hrd:cF op true s.T=rd)
  (hc0:aK HI o=some c0) (hH:s.H o=some ck) (hg:ck'.gen=ck.gen) (hl:ck'.xs.length=ck.xs.length) (hck:dh s.H s.nx c ck') (hv:Rel s.H s.nx v d):qS P op s T HI v (.set o c) rd [o]:=by
 have sm:=asf hH hg hl;refine⟨d,[(o,ck')],s.nx,fun K k=>Iz hp h (by rw[hrd];exact k),rfl,fun dst=>⟨?_,fun o' c' hc'=>?_,?_⟩⟩
 ·exact uw (fun t=>(hs.t t).same sm) (hv.same sm) dst
 ·have hlt:=(hs.h o c0 hc0).1;simp only[mb.h,lW] at hc';split at hc'
  ·rename_i e;obtain⟨rfl,_⟩:=e;cases hc';exact⟨hlt,ck',Hp.b9 ..,hck.same sm⟩
  ·rename_i e;have hne:o'≠o:=fun e'=>e ⟨e',by have:=hs.n;simp only at this;omega⟩;obtain⟨h1,ck2,h2,h3⟩:=hs.h o' c' hc';exact⟨h1,ck2,by show(s.H.put o (some ck')) o'=_;rw[Hp.aS _ _ _ hne];exact h2,h3.same sm⟩
 ·simp only[mb.h,kS];exact hs.n
theorem QL{ck:Ck}:k8 s.H s.nx (s.H.put s.nx (some ck)) (s.nx+1):=
 ⟨Nat.le_succ _,fun o' c hlt hc=>by rw[Hp.aS _ _ _ (by omega)] at hc;exact⟨c,hc,rfl,rfl⟩⟩
theorem SR.al(hs:SR ⟨T,HI⟩ s){c:cS}{ck:Ck}(hck:dh s.H s.nx c ck){d:DV}(hv:Rel (s.H.put s.nx (some ck)) (s.nx+1) v d)(dst:Option Nat):SR ⟨kI dst v T,HI++[some c]⟩ ⟨fJ s.T dst d,s.H.put s.nx (some ck),s.nx+1⟩:=by
 have sm:=QL (s:=s) (ck:=ck);refine⟨?_,fun o' c' hc'=>?_,?_⟩
 ·exact uw (fun t=>(hs.t t).same sm) hv dst
 ·simp only[Gd] at hc';split at hc'
  ·rename_i e;injection hc' with hc';subst hc'
   have:o'=s.nx:=e.trans hs.n;subst this;exact⟨Nat.lt_succ_self _,ck,Hp.b9 ..,hck.same sm⟩
  ·obtain⟨h1,ck2,h2,h3⟩:=hs.h o' c' hc';exact⟨Nat.lt_succ_of_lt h1,ck2,by show(s.H.put s.nx (some ck)) o'=_;rw[Hp.aS _ _ _ (by omega)];exact h2,h3.same sm⟩
 ·have:=hs.n;simp only at this;simp[this]
theorem qS.al(hs:SR ⟨T,HI⟩ s)(hp:wU op=true){d:DV}{c:cS}{ck:Ck}(h:ev op true s.T s.H s.nx=some (d,.al ck))(hrd:cF op true s.T=rd)(hck:dh s.H s.nx c ck)(hv:Rel (s.H.put s.nx (some ck)) (s.nx+1) v d):qS P op s T HI v (.al c) rd [HI.length]:=
 ⟨d,[(s.nx,ck)],s.nx+1,fun K k=>Iz hp h (by rw[hrd];exact k),by rw[show HI.length=s.nx from hs.n];rfl,fun dst=>hs.al hck hv dst⟩
theorem SR.grow(hs:SR ⟨T,HI⟩ s){o:Nat}{c:cS}{ck':Ck}(hc0:o<s.nx)(hck:dh (s.H.put o (some ck')) s.nx c ck'){d:DV}(hv:Rel (s.H.put o (some ck')) s.nx v d)(dst:Option Nat):
  SR ⟨kI dst v (s3 o T),fp (ka o HI) o (some c)⟩ ⟨fJ s.T dst d,s.H.put o (some ck'),s.nx⟩:=by
 have aw:vL o s.H s.nx (s.H.put o (some ck')) s.nx:=⟨Nat.le_refl _,fun o' c hlt hne hc=>by rw[Hp.aS _ _ _ hne] at hc;exact⟨c,hc,rfl,rfl⟩⟩;refine⟨?_,fun o' c' hc'=>?_,?_⟩
 ·exact uw (fun t=>by rw[Na];exact QO aw (hs.t t)) hv dst
 ·simp only[lW,sG] at hc';split at hc'
  ·rename_i e;obtain⟨rfl,_⟩:=e;cases hc';exact⟨hc0,ck',Hp.b9 ..,hck⟩
  ·rename_i e;have hne:o'≠o:=fun e'=>e ⟨e',by have:=hs.n;simp only at this;omega⟩;rw[xq] at hc';cases hg:aK HI o' with
   | none=>rw[hg] at hc';cases hc'
   | some c1=>
    rw[hg] at hc';obtain⟨h1,ck2,h2,h3⟩:=hs.h o' c1 hg;exact⟨h1,ck2,by show(s.H.put o (some ck')) o'=_;rw[Hp.aS _ _ _ hne];exact h2,Rw aw h3 hc'⟩
 ·simp only[kS,sG];exact hs.n
theorem qS.grow(hs:SR ⟨T,HI⟩ s)(hp:wU op=true){d:DV}{o:Nat}{c:cS}{ck':Ck}(h:ev op true s.T s.H s.nx=some (d,.wr o ck'))(hrd:cF op true s.T=rd)
  (hc0:o<s.nx) (hck:dh (s.H.put o (some ck')) s.nx c ck') (hv:Rel (s.H.put o (some ck')) s.nx v d):qS P op s T HI v (.grow o c) rd [o]:=
 ⟨d,[(o,ck')],s.nx,fun K k=>Iz hp h (by rw[hrd];exact k),rfl,fun dst=>hs.grow hc0 hck hv dst⟩
end steps
def eE{α:Type}(b:Bool)(x y:α):α:=match b with
 | true=>x
 | false=>y
structure An where
 t:GT:=.unit
 o:Option Nat:=none
 gs:List Nat:=[]
abbrev W(n:Int):Int:=IntKind.i64.wrap n
def ba(n bytes:Nat):Bool:=decide (n*bytes<=140737488355328/\n<=9223372036854775807)
def ae(n:Int)(len:Nat):Bool:=decide (0<=n/\n<len)
def aev(a:Option Nat)(o:Nat):Bool:=match a with
 | some q=>Nat.beq q o
 | none=>false
def gz(l h:Int)(len:Nat):Bool:=decide (0<=l/\l<=h/\h<=len)
def eH(bytes:Nat)(l c:Int):Bool:=decide (0<=l/\l<=c/\bytes*c<=140737488355328/\c<=140737488355328)
def Bu:Option IV->Option (Option Int)
 | none=>some none
 | some (.int _ n)=>some (some n)
 | _=>none
def eY(d:Int):Option Int->Int
 | none=>d
 | some n=>n
def Ac{α:Type}(as:List α):Option Int->Option Int->List α
 | none,none=>as
 | some l,none=>as.drop l.toNat
 | none,some h=>as.take h.toNat
 | some l,some h=>(as.drop l.toNat).take (h.toNat-l.toNat)
def zb(mx:Bool):IV->List IV->Option IV
 | .int k a,[]=>some (.int k a)
 | .int k a,.int _ b::r=>zb mx (.int k (cond mx (max a b) (min a b))) r
 | _,_=>none
def elems(H:IH)(t:GT):IV->Option (List (El t)×List Nat)
 | .nil=>some ([],[])
 | .ab _ t' as=>match kY t' t as with
  | some l=>some (l,[])
  | none=>none
 | .whole o=>match aK H o with
  | some (.arr t' as)=>match kY t' t as with
   | some l=>some (l,[o])
   | none=>none
  | _=>none
 | .part o lo n=>match aK H o with
  | some (.arr t' as)=>match kY t' t as with
   | some l=>some ((l.drop lo).take n,[o])
   | none=>none
  | _=>none
 | _=>none
section ev
variable {R:Type}
def pG(ag:Bool)(n off:Nat)(cs:List IV)(rd:List Nat)(k:IV->mb->List Nat->Option R):Option R:=
 match Nat.ble (off+n) cs.length with
 | true=>match ag with
  | true=>k (.agg ((cs.drop off).take n)) .no rd
  | false=>match n,cs.drop off with
   | 1,c::_=>k c .no rd
   | _,_=>none
 | false=>none
def Mg(op:BinOp)(k:IntKind)(a b:Int)(kk:IV->Option R):Option R:=
 match op with
 | .add=>kk (.int k (k.wrap (a+b)))
 | .sub=>kk (.int k (k.wrap (a-b)))
 | .mul=>kk (.int k (k.wrap (a*b)))
 | .quo=>eE (b==0) none (kk (.int k (k.wrap (a.tdiv b))))
 | .rem=>eE (b==0) none (kk (.int k (a.tmod b)))
 | .eql=>kk (.bool (a==b))
 | .neq=>kk (.bool (a !=b))
 | .lss=>kk (.bool (decide (a<b)))
 | .leq=>kk (.bool (decide (a<=b)))
 | .gtr=>kk (.bool (decide (a>b)))
 | .geq=>kk (.bool (decide (a>=b)))
 | .and=>kk (.int k (k.wrap (BitVec.ofInt k.bits a &&& BitVec.ofInt k.bits b).toNat))
 | .or=>kk (.int k (k.wrap (BitVec.ofInt k.bits a ||| BitVec.ofInt k.bits b).toNat))
 | .xor=>kk (.int k (k.wrap (BitVec.ofInt k.bits a ^^^ BitVec.ofInt k.bits b).toNat))
 | _=>none
def MJ(op:BinOp)(k:IntKind)(a b:Int)(kk:IV->Option R):Option R:=
 match op with
 | .shl=>eE (decide (b<0)) none (kk (.int k (k.wrap (a*2 ^ (min b.toNat k.bits)))))
 | .shr=>eE (decide (b<0)) none (kk (.int k (a.fdiv (2 ^ (min b.toNat k.bits)))))
 | _=>none
def dw(op:cR)(an:An)(T:List (Nat×IV))(H:IH)(k:IV->mb->List Nat->Option R):Option R:=
 match op with
 | .bS x=>k (dG T x) .no []
 | .pick c a b=>match dG T c with
  | .bool q=>match dG T a,dG T b with
   | .bool x,.bool y=>k (.bool (cond q x y)) .no []
   | .bool x,_=>eE q (k (.bool x) .no []) none
   | _,.bool y=>eE q none (k (.bool y) .no [])
   | _,_=>none
  | _=>none
 | .box x=>match iQ (dG T x) with
  | some cs=>k (.ptr H.length 0 0) (.al (.box 0 cs)) []
  | none=>none
 | .alloc z=>match an.o with
  | none=>k (.ptr H.length 0 0) (.al (.box 0 (z.map p6))) []
  | some o=>match aK H o with
   | some .wait=>k (.ptr o 0 0) (.grow o (.box 1 (z.map p6))) [o]
   | _=>none
 | .build z ps=>match BX T (z.map p6) ps with
  | some cs=>k (.agg cs) .no []
  | none=>none
 | .g9 ow sz z len ps=>match Nat.beq an.t.sz sz,zO T sz (List.replicate len (z.map p6)) ps with
  | true,some rows=>match BO an.t rows with
   | some as=>match ow with
    | true=>k (.whole H.length) (.al (.arr an.t as)) []
    | false=>k (.ab true an.t as) .no []
   | none=>none
  | _,_=>none
 | .load ag n a=>match dG T a with
  | .ptr o i off=>match aK H o with
   | some (.box _ cs)=>pG ag n off cs [o] k
   | some (.arr t as)=>pG ag n off (kf t (as.getD i (kq t))) [o] k
   | some (.hF t as)=>pG ag n off (kf t (as.getD i (kq t))) [o] k
   | _=>none
  | .rp cs=>pG ag n 0 cs [] k
  | _=>none
 | .store n a x=>match dG T a,iQ (dG T x) with
  | .ptr o i off,some ns=>match Nat.beq ns.length n,aK H o with
   | true,some (.box g cs)=>match Nat.ble (off+n) cs.length with
    | true=>k (.raw undef) (.set o (.box g (sX cs off ns))) [o]
    | false=>none
   | true,some (.arr t as)=>match Nat.ble (off+n) t.sz,dec t (sX (kf t (as.getD i (kq t))) off ns) with
    | true,some x'=>k (.raw undef) (.set o (.arr t (as.set i x'))) [o]
    | _,_=>none
   | true,some (.hF t as)=>match Nat.ble (off+n) t.sz,dec t (sX (kf t (as.getD i (kq t))) off ns) with
    | true,some x'=>k (.raw undef) (.set o (.hF t (as.set i x'))) [o]
    | _,_=>none
   | _,_=>none
  | _,_=>none
 | .mK x=>match dG T x with
  | .ptr o i f=>match aK H o with
   | some _=>k (.ptr o i f) .no [o]
   | none=>none
  | .rp cs=>k (.rp cs) .no []
  | .fn f cs=>k (.fn f cs) .no []
  | _=>none
 | .bin op x y=>match dG T x,dG T y with
  | .int kx a,.int ky b=>match FN op with
   | true=>MJ op kx a b fun v=>k v .no []
   | false=>match decide (kx=ky) with
    | true=>Mg op kx a b fun v=>k v .no []
    | false=>none
  | .str a,.str b=>match op with
   | .add=>eE (decide (a.length+b.length<=9223372036854775807)) (k (.str (a++b)) .no []) none
   | .eql=>k (.bool (a==b)) .no []
   | .neq=>k (.bool (!(a==b))) .no []
   | _=>none
  | _,_=>none
 | .pN neg offs x y=>match dG T x,dG T y with
  | .agg xs,.agg ys=>match Cc xs ys offs with
   | some b=>match neg with
    | true=>k (.bool (!b)) .no []
    | false=>k (.bool b) .no []
   | none=>none
  | _,_=>none
 | .un op x=>match op,dG T x with
  | .neg,.int kx n=>k (.int kx (kx.wrap (0-n))) .no []
  | .not,.bool b=>k (.bool (!b)) .no []
  | _,_=>none
 | .conv kk x=>match dG T x with
  | .int _ n=>k (.int kk (kk.wrap n)) .no []
  | _=>none
 | .bO off x=>match dG T x with
  | .ptr o i f=>match aK H o with
   | some _=>k (.ptr o i (f+off)) .no [o]
   | none=>none
  | .rp cs=>k (.rp (cs.drop off)) .no []
  | _=>none
 | .qI ag n off x=>match dG T x with
  | .agg cs=>match Nat.ble (off+n) cs.length with
   | true=>match ag with
    | true=>k (.agg ((cs.drop off).take n)) .no []
    | false=>match cs.drop off with
     | c::_=>k c .no []
     | []=>none
   | false=>none
  | _=>none
 | .cP sz x i=>match dG T x,dG T i with
  | .ab _ t as,.int _ n=>match Nat.beq t.sz sz with
   | true=>eE (ae n as.length) (k (.rp (kf t (as.getD n.toNat (kq t)))) .no []) none
   | false=>none
  | .whole o,.int _ n=>match aK H o with
   | some (.arr t as)=>match Nat.beq t.sz sz with
    | true=>eE (ae n as.length) (k (.ptr o n.toNat 0) .no [o]) none
    | false=>none
   | some (.hF t as)=>match Nat.beq t.sz sz with
    | true=>eE (ae n as.length) (k (.ptr o n.toNat 0) .no [o]) none
    | false=>none
   | _=>none
  | .part o lo m,.int _ n=>match aK H o with
   | some (.arr t as)=>match Nat.beq t.sz sz with
    | true=>eE (ae n m) (k (.ptr o (lo+n.toNat) 0) .no [o]) none
    | false=>none
   | _=>none
  | _,_=>none
 | .jL sz x lo hi=>match dG T x,Bu (lo.map (dG T)),Bu (hi.map (dG T)) with
  | .ab f t as,some l,some h=>match Nat.beq t.sz sz with
   | true=>eE (gz (eY 0 l) (eY as.length h) as.length) (k (.ab (match h with | none=>f | some _=>false) t (Ac as l h)) .no []) none
   | false=>none
  | .whole o,some l,some h=>match aK H o with
   | some (.arr t as)=>match Nat.beq t.sz sz with
    | true=>eE (gz (eY 0 l) (eY as.length h) as.length) (k (.part o (eY 0 l).toNat ((eY as.length h).toNat-(eY 0 l).toNat)) .no [o]) none
    | false=>none
   | _=>none
  | .part o b m,some l,some h=>match aK H o with
   | some (.arr t as)=>match Nat.beq t.sz sz with
    | true=>eE (gz (eY 0 l) (eY m h) m) (k (.part o (b+(eY 0 l).toNat) ((eY m h).toNat-(eY 0 l).toNat)) .no [o]) none
    | false=>none
   | _=>none
  | _,_,_=>none
 | .fw sz bytes z len cap=>match dG T len,dG T cap,dec an.t (z.map p6) with
  | .int .i64 l,.int .i64 c,some z'=>match Nat.beq an.t.sz sz with
   | true=>match an.o with
    | none=>eE (eH bytes l c) (k (.whole H.length) (.al (.arr an.t (List.replicate l.toNat z'))) []) none
    | some o=>match aK H o with
     | some .wait=>eE (eH bytes l c) (k (.whole o) (.grow o (.arr an.t (List.replicate l.toNat z'))) [o]) none
     | _=>none
   | false=>none
  | _,_,_=>none
 | .len x=>match dG T x with
  | .nil=>k (.int .i64 0) .no []
  | .ab _ _ as=>k (.int .i64 as.length) .no []
  | .whole o=>match aK H o with
   | some (.arr _ as)=>k (.int .i64 as.length) .no [o]
   | some (.hF _ as)=>k (.int .i64 as.length) .no [o]
   | _=>none
  | .part o _ n=>k (.int .i64 n) .no [o]
  | _=>none
 | .mm mx xs=>match xs.map (dG T) with
  | d::r=>match zb mx d r with
   | some v=>k v .no []
   | none=>none
  | []=>none
 | .app sz bytes s x=>match dG T s with
  | .whole o=>match aK H o with
   | some (.arr t as)=>match Nat.beq t.sz sz,elems H t (dG T x) with
    | true,some (bs,rd)=>match aev an.o o && Nat.ble 1 sz with
     | true=>eE (ba (as.length+bs.length) bytes) (k (.ab false t (as++bs)) (.grow o (.arr t [])) (o::rd)) none
     | false=>eE (ba (as.length+bs.length) bytes) (k (.whole o) (.grow o (.arr t (as++bs))) (o::rd)) none
    | _,_=>none
   | _=>none
  | .part o lo m=>match aK H o with
   | some (.arr t as)=>match Nat.beq t.sz sz,elems H t (dG T x) with
    | true,some (bs,rd)=>eE (ba (m+bs.length) bytes) (k (.whole o) (.grow o (.arr t ((as.drop lo).take m++bs))) (o::rd)) none
    | _,_=>none
   | _=>none
  | .nil=>match an.o with
   | none=>match Nat.beq an.t.sz sz,elems H an.t (dG T x) with
    | true,some (bs,rd)=>eE (ba bs.length bytes) (k (.ab false an.t bs) .no rd) none
    | _,_=>none
   | some o=>match aK H o with
    | some (.arr t [])=>match Nat.beq t.sz sz,elems H t (dG T x) with
     | true,some (bs,rd)=>eE (ba bs.length bytes) (k (.whole o) (.grow o (.arr t bs)) (o::rd)) none
     | _,_=>none
    | _=>none
  | .ab true t as=>match Nat.beq t.sz sz,elems H t (dG T x) with
   | true,some (bs,rd)=>eE (ba (as.length+bs.length) bytes) (k (.ab false t (as++bs)) .no rd) none
   | _,_=>none
  | _=>none
 | .jm i x=>match dG T x with
  | .bh vs=>match vs[i]? with
   | some v=>k v .no []
   | none=>none
  | _=>none
 | .sD f cs=>k (.fn f (cs.map (dG T))) .no []
 | .call .. =>none
end ev
section sound
variable {R:Type} {P:Program} {s:St} {T:List (Nat×IV)} {HI:IH} {r:R}
def fO(P:Program)(op:cR)(s:St)(T:List (Nat×IV))(HI:IH)(k:IV->mb->List Nat->Option R)(r:R):Prop:=
 ∃v u rd wr,k v u rd=some r/\qS P op s T HI v u rd wr/\wr=(match u with | .no=>[] | .set o _=>[o] | .al _=>[HI.length] | .grow o _=>[o])
variable {k:IV->mb->List Nat->Option R}
theorem fO.no{op:cR}{v:IV}{rd:List Nat}(hk:k v .no rd=some r)(hs:SR ⟨T,HI⟩ s)(hp:wU op=true){d:DV}(h:ev op true s.T s.H s.nx=some (d,.no))(hrd:cF op true s.T=rd)(hv:Rel s.H s.nx v d):fO P op s T HI k r:=
 ⟨v,.no,rd,[],hk,.no hs hp h hrd hv,rfl⟩
theorem gN{α:Type}{b:Bool}{x:Option α}{r:α}(h:eE b x none=some r):b=true/\x=some r:=by cases b<;>simp_all[eE]
theorem KO{α:Type}{b:Bool}{x:Option α}{r:α}(h:eE b none x=some r):b=false/\x=some r:=by cases b<;>simp_all[eE]
theorem jw.at{H:Hp}{nx:Nat}(h:jw HI H nx){o:Nat}{c:cS}(hc:aK HI o=some c):o<nx/\∃ck,H o=some ck/\dh H nx c ck:=h o c hc
theorem PO{H:Hp}{o:Nat}{ck:Ck}(h:H o=some ck):live H o ck.gen=true:=by simp[live,h]
theorem zj{H:Hp}{nx:Nat}{t:GT}{as:List (El t)}{xs:List (List DV)}(h:aX (cA t) as xs){i:Nat}(hi:i<xs.length):bR H nx (kf t (as.getD i (kq t))) (xs.getD i []):=
 sH t _ _ (h.getD _ _ (by rw[h.1];exact hi))
theorem O2{ag:Bool}{n off:Nat}{cs:List IV}{ds:List DV}{rd:List Nat}(h:pG ag n off cs rd k=some r)(hr:bR s.H s.nx cs ds):∃v d,k v .no rd=some r/\Rel s.H s.nx v d/\off+n<=ds.length/\(if ag then some (DV.agg ((ds.drop off).take n)) else if n=1 then(ds.drop off).head? else none)=some d:=by
 unfold pG at h;split at h
 ·rename_i hb;have hn:=Nat.le_of_ble_eq_true hb;split at h
  ·exact⟨_,_,h,Rel.lO ((hr.drop off).take n),by rw[<-hr.1];exact hn,rfl⟩
  ·split at h
   ·rename_i c l he;have hd:=hr.drop off;rw[he] at hd;obtain⟨d,ds',he',h1,h2⟩:=hd.dD;exact⟨_,d,h,h1,by rw[<-hr.1];exact hn,by simp[he']⟩
   ·cases h
 ·cases h
theorem ym{t:GT}{x:IV}{d:DV}{bs:List (El t)}{rd:List Nat}(h:elems HI t x=some (bs,rd))(hs:SR ⟨T,HI⟩ s)(hx:Rel s.H s.nx x d):∃ys,kg s.H d=some ys/\aX (cA t) bs ys/\d.ids=rd:=by
 unfold elems at h;split at h
 ·cases h;rw[hx.pq];exact⟨[],rfl,.nil,rfl⟩
 ·split at h
  ·rename_i hc;cases h;obtain⟨rfl,rfl⟩:=nW hc;obtain⟨f',xs,rfl,_,h3⟩:=hx.nR;exact⟨xs,rfl,h3,rfl⟩
  ·cases h
 ·split at h
  ·rename_i o _ t' as hc0;split at h
   ·rename_i hc;cases h;obtain⟨rfl,rfl⟩:=nW hc;obtain⟨_,ck,h1,h2,h3⟩:=hs.h.at hc0;obtain⟨g,n,rfl,_,hg⟩:=hx.nk;obtain⟨rfl,rfl⟩:=hg ck h1;exact⟨ck.xs,by simp[kg,h1],h3,rfl⟩
   ·cases h
  ·cases h
 ·split at h
  ·rename_i o lo n _ t' as hc0;split at h
   ·rename_i l hc;cases h;obtain⟨rfl,rfl⟩:=nW hc;obtain⟨_,ck,h1,h2,h3⟩:=hs.h.at hc0;obtain⟨g,rfl,_,hg⟩:=hx.qJ;obtain⟨rfl,hle⟩:=hg ck h1;exact⟨(ck.xs.drop lo).take n,by simp[kg,h1],(h3.drop lo).take n,rfl⟩
   ·cases h
  ·cases h
 ·cases h
theorem tA{t:GT}{as:List (El t)}{xs:List (List DV)}(h:aX (cA t) as xs){sz:Nat}(hz:Nat.beq t.sz sz=true):xs.all (fun c=>c.length==sz)=true:=by
 have:=Nat.eq_of_beq_eq_true hz;subst this;rw[List.all_eq_true];intro c hc;obtain⟨j,hj,rfl⟩:=List.mem_iff_getElem.1 hc;simpa using cA.len t _ _ (h.2 j (by rw[h.1];exact hj) hj)
theorem atl{t:GT}{as:List (El t)}{xs:List (List DV)}(h:aX (cA t) as xs)(l h':Option Int)(hb:gz (eY 0 l) (eY as.length h') as.length=true):
  aX (cA t) (Ac as l h') ((xs.drop (eY 0 l).toNat).take ((eY xs.length h').toNat-(eY 0 l).toNat)):=by
 simp only[gz,decide_eq_true_eq] at hb;cases l with
 | none=>
  cases h' with
  | none=>simpa[Ac,eY] using h
  | some e=>simpa[Ac,eY] using h.take _
 | some l=>
  cases h' with
  | none=>
   have:=h.drop l.toNat;simp only[Ac,eY] at hb ⊢;rw[List.take_of_length_le (by simp)];exact this
  | some e=>exact(h.drop _).take _
theorem ae1(mx:Bool)(k k':IntKind)(a b:Int):xl mx (.v (.int k a)) (.v (.int k' b))=some (.v (.int k (cond mx (max a b) (min a b)))):=by
 have e1:max a b=if a<b then b else a:=by rw[Int.max_def];split<;>split<;>omega
 have e2:min a b=if b<a then b else a:=by rw[Int.min_def];split<;>split<;>omega
 simp only[xl,e1,e2];cases mx<;>rfl
theorem SY{H:Hp}{nx:Nat}{mx:Bool}:∀(l:List IV) (ds:List DV) (x v:IV) (d:DV),zb mx x l=some v->Rel H nx x d->bR H nx l ds->∃e,ui mx d ds=some e/\Rel H nx v e
 | [],ds,x,v,d,h,hx,hl=>by
  rw[hl.dY];unfold zb at h;split at h
  ·injection h with h;subst h;rw[hx.jg];exact⟨_,rfl,.int _ _⟩
  ·rename_i e;cases e
  ·cases h
 | y::r,ds,x,v,d,h,hx,hl=>by
  obtain⟨e,es,rfl,h1,h2⟩:=hl.dD;unfold zb at h;split at h
  ·rename_i e;cases e
  ·rename_i k a k' b r' he;injection he with he1 he2;subst he1;subst he2
   rw[hx.jg,h1.jg];obtain⟨w,q1,q2⟩:=SY r es _ v (.v (.int k (cond mx (max a b) (min a b)))) h (.int _ _) h2;exact⟨w,by simp only[ui,ae1];exact q1,q2⟩
  ·cases h
theorem ajp{op:BinOp}{kx:IntKind}{a b:Int}{kk:IV->Option R}(h:Mg op kx a b kk=some r):∃v d,kk v=some r/\uC op kx a b=some d/\∀H nx,Rel H nx v d:=by
 unfold Mg at h;split at h
 all_goals first
  | exact⟨_,_,h,rfl,fun H nx=>.int _ _⟩
  | exact⟨_,_,h,rfl,fun H nx=>.bool _⟩
  | (obtain⟨h1,h2⟩:=KO h
     have hb:b≠0:=by simpa using h1
     exact⟨_,_,h2,by simp only[uC];rw[if_neg hb],fun H nx=>.int _ _⟩)
  | cases h
theorem aa8{op:BinOp}{kx:IntKind}{a b:Int}{kk:IV->Option R}(h:MJ op kx a b kk=some r):∃v d,kk v=some r/\Iv op kx a b=some d/\∀H nx,Rel H nx v d:=by
 unfold MJ at h;split at h
 all_goals first
  | (obtain⟨h1,h2⟩:=KO h
     have hb:¬b<0:=by simpa using h1
     exact⟨_,_,h2,by simp only[Iv];rw[if_neg hb],fun H nx=>.int _ _⟩)
  | cases h
end sound
section sound
variable {R:Type} {P:Program} {s:St} {T:List (Nat×IV)} {HI:IH} {r:R} {k:IV->mb->List Nat->Option R}
theorem ajh{an:An}{x:RO}(hs:SR ⟨T,HI⟩ s)(h:dw (.bS x) an T HI k=some r):fO P (.bS x) s T HI k r:=
 .no h hs rfl rfl rfl (eN hs.t x)
theorem zt{H:Hp}{nx:Nat}{v:IV}{d:DV}{x:Bool}(h:Rel H nx (.bool x) (un true d))(p:Bool):un p d=.v (.bool x):=by
 have:=h.nA;cases d with
 | gd q e=>
  simp only[un] at this ⊢;cases q with
  | true=>simp only[Bool.not_true,Bool.or_true,Bool.true_or,if_true] at this ⊢;exact this
  | false=>simp at this
 | _=>first | exact this | (simp only[un] at this ⊢;exact this)
theorem ax0{an:An}{c a b:RO}(hs:SR ⟨T,HI⟩ s)(h:dw (.pick c a b) an T HI k=some r):fO P (.pick c a b) s T HI k r:=by
 simp only[dw] at h;have hc:=eN hs.t c;have ha:=eN hs.t a;have hb:=eN hs.t b;split at h
 ·rename_i q hq;rw[hq] at hc;have hcd:=hc.nA;split at h
  ·rename_i x y hx hy;rw[hx] at ha;rw[hy] at hb;refine .no h hs rfl (d:=.v (.bool (cond q x y))) ?_ rfl (.bool _);rw[Oq];unfold vm;rw[hcd];simp only[zt (v:=.any) ha,zt (v:=.any) hb,ud,Option.map_some]
  ·rename_i x hx _;rw[hx] at ha;obtain⟨hq1,h⟩:=gN h;subst hq1;refine .no h hs rfl (d:=.v (.bool x)) ?_ rfl (.bool _);rw[Oq];unfold vm;rw[hcd];simp only[zt (v:=.any) ha];generalize un (true && !true) (b.get s.T)=e;cases e with
   | v z=>cases z<;>simp[ud]
   | _=>simp[ud]
  ·rename_i y hy _;rw[hy] at hb;obtain⟨hq1,h⟩:=KO h;subst hq1;refine .no h hs rfl (d:=.v (.bool y)) ?_ rfl (.bool _);rw[Oq];unfold vm;rw[hcd];simp only[zt (v:=.any) hb];generalize un (true && false) (a.get s.T)=e;cases e with
   | v z=>cases z<;>simp[ud]
   | _=>simp[ud]
  ·cases h
 ·cases h
theorem adn{an:An}{x:RO}(hs:SR ⟨T,HI⟩ s)(h:dw (.box x) an T HI k=some r):fO P (.box x) s T HI k r:=by
 simp only[dw] at h;split at h
 ·rename_i cs hc;obtain⟨ds,h1,h2⟩:=Hk hc (eN hs.t x);refine⟨_,_,_,_,h,.al hs rfl (d:=.ptr s.nx 0 0 0) (ck:=⟨0,ds.length,[ds]⟩) (by simp only[ev,h1,Option.map_some]) rfl ⟨h2.1.symm,ds,rfl,h2,rfl⟩ ?_,rfl⟩;rw[show HI.length=s.nx from hs.n];refine .ptr _ _ _ _ (Nat.lt_succ_self _) fun ck hk=>?_;rw[Hp.b9] at hk;cases hk;exact⟨rfl,by simp⟩
 ·cases h
theorem YX{an:An}{z:List DV}(hs:SR ⟨T,HI⟩ s)(h:dw (.alloc z) an T HI k=some r):fO P (.alloc z) s T HI k r:=by
 simp only[dw] at h;split at h
 ·refine⟨_,_,_,_,h,⟨.ptr s.nx 0 0 0,[(s.nx,⟨0,z.length,[z]⟩)],s.nx+1,fun K hK=>.inl ?_,rfl,fun dst=>?_⟩,by rw[show HI.length=s.nx from hs.n];rfl⟩
  ·exact hK
  ·refine hs.al (dh.iR (by simp) (u9 z)) ?_ dst;rw[show HI.length=s.nx from hs.n];refine .ptr _ _ _ _ (Nat.lt_succ_self _) fun ck hk=>?_;rw[Hp.b9] at hk;injection hk with hk;subst hk;exact⟨rfl,by simp⟩
 ·rename_i o _;split at h
  ·rename_i hw;obtain⟨ho,ck,h1,sz,rfl⟩:=hs.h.at hw;refine⟨_,_,_,_,h,⟨.ptr o 1 0 0,[(o,⟨1,z.length,[z]⟩)],s.nx,fun K hK=>.inr ⟨o,sz,h1,hK⟩,rfl,fun dst=>?_⟩,rfl⟩;refine hs.grow ho (dh.iR (by simp) (u9 z)) ?_ dst;refine .ptr _ _ _ _ ho fun ck hk=>?_;rw[Hp.b9] at hk;injection hk with hk;subst hk;exact⟨rfl,by simp⟩
  ·cases h
theorem aiw{an:An}{z:List DV}{ps:List (Nat×Nat×RO)}(hs:SR ⟨T,HI⟩ s)(h:dw (.build z ps) an T HI k=some r):fO P (.build z ps) s T HI k r:=by
 simp only[dw] at h;split at h
 ·rename_i cs hc;obtain⟨ds,h1,h2⟩:=PD hs.t ps _ _ cs hc (u9 z);exact .no h hs rfl (by simp only[ev,h1,Option.map_some]) rfl (Rel.lO h2)
 ·cases h
theorem abg{an:An}{ow:Bool}{sz len:Nat}{z:List DV}{ps:List (Nat×RO)}(hs:SR ⟨T,HI⟩ s)(h:dw (.g9 ow sz z len ps) an T HI k=some r):fO P (.g9 ow sz z len ps) s T HI k r:=by
 simp only[dw] at h;split at h
 ·rename_i rows hz hrows;obtain⟨ds,h1,h2⟩:=Vy sz hs.t ps _ (List.replicate len z) rows hrows (aX.replicate len (u9 z));split at h
  ·rename_i as has;have hb:=Xm rows as ds has h2;split at h
   ·have hl:ds.length=len:=by
     have:∀(ps:List (Nat×RO)) (xs ys:List (List DV)),jE (fun x=>un true (x.get s.T)) sz xs ps=some ys->ys.length=xs.length:=by
      intro ps;induction ps with
      | nil=>intro xs ys h;simp only[jE,Option.some.injEq] at h;rw[h]
      | cons p r ih=>
       intro xs ys h;obtain⟨i,x⟩:=p;simp only[jE] at h;split at h
       ·split at h
        ·have:=ih _ _ h;simpa using this
        ·cases h
       ·cases h
     have:=this ps _ _ h1;simpa using this
    refine⟨_,_,_,_,h,.al hs rfl (d:=.own s.nx 0 0 len) (ck:=⟨0,sz,ds⟩) (by simp only[ev,h1,Option.map_some,if_true]) rfl ⟨(Nat.eq_of_beq_eq_true hz).symm,hb⟩ ?_,rfl⟩;rw[show HI.length=s.nx from hs.n];refine .whole _ _ _ (Nat.lt_succ_self _) fun ck hk=>?_;rw[Hp.b9] at hk;cases hk;exact⟨rfl,hl⟩
   ·exact .no h hs rfl (by simp only[ev,h1,Option.map_some];rfl) rfl (.ab _ _ _ _ _ (fun _=>rfl) hb)
  ·cases h
 ·cases h
theorem aaz{an:An}{ag:Bool}{n:Nat}{a:RO}(hs:SR ⟨T,HI⟩ s)(h:dw (.load ag n a) an T HI k=some r):fO P (.load ag n a) s T HI k r:=by
 simp only[dw] at h;have ha:=eN hs.t a;split at h
 ·rename_i o i off hv;rw[hv] at ha;obtain⟨g,hd,ho,hg⟩:=ha.pF;have fin:∀(cs:List IV) (ck:Ck),s.H o=some ck->bR s.H s.nx cs (ck.xs.getD i [])->pG ag n off cs [o] k=some r->fO P (.load ag n a) s T HI k r:=by
   intro cs ck hH hr h;obtain⟨rfl,hi⟩:=hg ck hH;obtain⟨v,d,h1,h2,h3,h4⟩:=O2 h hr;refine .no h1 hs rfl ?_ (by simp only[cF,hd,DV.ids]) h2;simp only[ev,hd,jK,hH];rw[if_pos ⟨trivial,h3⟩];simp only[h4,Option.map_some]
  split at h
  ·rename_i _ cs hc;obtain⟨_,ck,h1,h2,ds,h3,h4,h5⟩:=hs.h.at hc;refine fin cs ck h1 ?_ h;have:=(hg ck h1).2;rw[h3] at this ⊢;have:i=0:=by simpa using this
   subst this;exact h4
  ·rename_i t as hc;obtain⟨_,ck,h1,h2,h3⟩:=hs.h.at hc;exact fin _ ck h1 (zj h3 (hg ck h1).2) h
  ·rename_i t as hc;obtain⟨_,ck,h1,h2,h3,_⟩:=hs.h.at hc;exact fin _ ck h1 (zj h3 (hg ck h1).2) h
  ·cases h
 ·rename_i cs hv;rw[hv] at ha;obtain⟨ds,hd,hr⟩:=ha.uB;obtain⟨v,d,h1,h2,h3,h4⟩:=O2 h hr;refine .no h1 hs rfl ?_ (by simp only[cF,hd,DV.ids]) h2;simp only[Nat.zero_add,List.drop_zero] at h3 h4;simp only[ev,hd,jK];rw[if_pos h3];simp only[h4,Option.map_some]
 ·cases h
theorem agv{an:An}{n:Nat}{a x:RO}(hs:SR ⟨T,HI⟩ s)(h:dw (.store n a x) an T HI k=some r):fO P (.store n a x) s T HI k r:=by
 simp only[dw] at h;have ha:=eN hs.t a;split at h
 ·rename_i o i off ns hv hns;rw[hv] at ha;obtain⟨g,hd,ho,hg⟩:=ha.pF;obtain⟨ms,hms,hrel⟩:=Hk hns (eN hs.t x);have fin:∀(cs:List IV) (ck:Ck) (c0 c:cS),aK HI o=some c0->s.H o=some ck->ns.length=n->bR s.H s.nx cs (ck.xs.getD i [])->off+n<=cs.length->
    dh s.H s.nx c ⟨ck.gen,ck.sz,ck.xs.set i (eF (ck.xs.getD i []) off ms)⟩->k (.raw undef) (.set o c) [o]=some r->fO P (.store n a x) s T HI k r:=by
   intro cs ck c0 c hc0 hH hnl hr hoff hck h;obtain⟨rfl,hi⟩:=hg ck hH;refine⟨_,_,_,_,h,.set hs rfl (d:=.v undef) (ck:=ck) (ck':=⟨ck.gen,ck.sz,ck.xs.set i (eF (ck.xs.getD i []) off ms)⟩) ?_ (by simp only[cF,hd,DV.ids]) hc0 hH rfl (by simp) hck (.raw _),rfl⟩;simp only[ev,hd,nU,hms,hH];rw[if_pos ⟨trivial,by rw[<-hrel.1];exact hnl,by rw[<-hr.1];exact hoff⟩];rfl
  split at h
  ·rename_i gb cs hb hc;split at h
   ·rename_i hb2;obtain⟨_,ck,h1,h2,ds,h3,h4,h5⟩:=hs.h.at hc;have hi:=(hg ck h1).2;rw[h3] at hi;have:i=0:=by simpa using hi
    subst this;refine fin cs ck _ (.box gb (sX cs off ns)) hc h1 (Nat.eq_of_beq_eq_true hb) (by rw[h3];exact h4) (Nat.le_of_ble_eq_true hb2) (And.intro ?_ ⟨_,by rw[h3];rfl,Gm h4 hrel off,h5⟩) h;have e2:=Nat.le_of_ble_eq_true hb2;have e1:=Nat.eq_of_beq_eq_true hb;simp only[sX,List.length_append,List.length_take,List.length_drop,h2];omega
   ·cases h
  ·rename_i t as hb hc;split at h
   ·rename_i x' hb2 hx';obtain⟨_,ck,h1,h2,h3⟩:=hs.h.at hc;have hi:=(hg ck h1).2;have hrow:=zj (H:=s.H) (nx:=s.nx) h3 hi;have hlen:(kf t (as.getD i (kq t))).length=t.sz:=by rw[hrow.1];exact cA.len t _ _ (h3.getD (kq t) [] (by rw[h3.1];exact hi))
    refine fin _ ck _ (.arr t (as.set i x')) hc h1 (Nat.eq_of_beq_eq_true hb) hrow (by rw[hlen];exact Nat.le_of_ble_eq_true hb2) (And.intro h2 (h3.set i ?_)) h;exact tn hx' (Gm hrow hrel off)
   ·cases h
  ·rename_i t as hb hc;split at h
   ·rename_i x' hb2 hx';obtain⟨_,ck,h1,h2,h3,h9⟩:=hs.h.at hc;have hi:=(hg ck h1).2;have hrow:=zj (H:=s.H) (nx:=s.nx) h3 hi;have hlen:(kf t (as.getD i (kq t))).length=t.sz:=by rw[hrow.1];exact cA.len t _ _ (h3.getD (kq t) [] (by rw[h3.1];exact hi))
    refine fin _ ck _ (.hF t (as.set i x')) hc h1 (Nat.eq_of_beq_eq_true hb) hrow (by rw[hlen];exact Nat.le_of_ble_eq_true hb2) (And.intro h2 (And.intro (h3.set i ?_) h9)) h;exact tn hx' (Gm hrow hrel off)
   ·cases h
  ·cases h
 ·cases h
theorem ZD{an:An}{x:RO}(hs:SR ⟨T,HI⟩ s)(h:dw (.mK x) an T HI k=some r):fO P (.mK x) s T HI k r:=by
 simp only[dw] at h;have ha:=eN hs.t x;split at h
 ·rename_i o i f hv;rw[hv] at ha;obtain⟨g,hd,ho,hg⟩:=ha.pF;split at h
  ·rename_i c hc;obtain⟨_,ck,h1,h2⟩:=hs.h.at hc;obtain⟨rfl,hi⟩:=hg ck h1;refine .no h hs rfl ?_ (by simp only[cF,hd,DV.ids]) (.ptr _ _ _ _ ho hg);simp only[ev,hd,PO h1,if_true]
  ·cases h
 ·rename_i cs hv;rw[hv] at ha;obtain⟨ds,hd,hr⟩:=ha.uB;exact .no h hs rfl (by simp only[ev,hd]) (by simp only[cF,hd,DV.ids]) (Rel.qE hr)
 ·rename_i f cs hv;rw[hv] at ha;obtain⟨ds,hd,hr⟩:=ha.jQ;exact .no h hs rfl (by simp only[ev,hd]) (by simp only[cF,hd,DV.ids]) (Rel.ye hr)
 ·cases h
theorem ZW{an:An}{op:BinOp}{x y:RO}(hs:SR ⟨T,HI⟩ s)(h:dw (.bin op x y) an T HI k=some r):fO P (.bin op x y) s T HI k r:=by
 simp only[dw] at h;have ha:=eN hs.t x;have hb:=eN hs.t y;split at h
 ·rename_i kx a ky b hx hy;rw[hx] at ha;rw[hy] at hb;have e1:=ha.jg;have e2:=hb.jg;split at h
  ·rename_i hsh;obtain⟨v,d,h1,h2,h3⟩:=aa8 h;refine .no h1 hs rfl ?_ rfl (h3 _ _);rw[tv,e1,e2];simp only[mi,hsh,if_true,h2,Option.map_some]
  ·rename_i hsh;split at h
   ·rename_i hk;have hk:kx=ky:=by simpa using hk
    subst hk;obtain⟨v,d,h1,h2,h3⟩:=ajp h;refine .no h1 hs rfl ?_ rfl (h3 _ _);rw[tv,e1,e2];simp only[mi,hsh,Bool.false_eq_true,if_false,if_true,h2,Option.map_some]
   ·cases h
 ·rename_i a b hx hy;rw[hx] at ha;rw[hy] at hb;have e1:=ha.vj;have e2:=hb.vj;split at h
  ·obtain⟨hc,h⟩:=gN h;have hc:=of_decide_eq_true hc;refine .no h hs rfl ?_ rfl (.str _);rw[tv,e1,e2];show Option.map _ (if a.length+b.length<=9223372036854775807 then _ else none)=_;rw[if_pos hc];rfl
  ·refine .no h hs rfl ?_ rfl (.bool _);rw[tv,e1,e2];simp only[mi,GV,Wn,Option.map_some]
  ·refine .no h hs rfl ?_ rfl (.bool _);rw[tv,e1,e2];simp only[mi,GV,Wn,Option.map_some]
  ·cases h
 ·cases h
theorem aly{an:An}{neg:Bool}{offs:List (Nat×Nat)}{x y:RO}(hs:SR ⟨T,HI⟩ s)(h:dw (.pN neg offs x y) an T HI k=some r):fO P (.pN neg offs x y) s T HI k r:=by
 simp only[dw] at h;have ha:=eN hs.t x;have hb:=eN hs.t y;split at h
 ·rename_i xs ys hx hy;rw[hx] at ha;rw[hy] at hb;obtain⟨ds,e1,r1⟩:=ha.fj;obtain⟨es,e2,r2⟩:=hb.fj;split at h
  ·rename_i b hc;have hq:=Ur r1 r2 offs b hc;split at h
   ·refine .no h hs rfl (d:=.v (.bool (b !=true))) ?_ rfl (by cases b<;>exact .bool _);simp only[ev,e1,e2,hq,Option.map_some]
   ·refine .no h hs rfl (d:=.v (.bool (b !=false))) ?_ rfl (by cases b<;>exact .bool _);simp only[ev,e1,e2,hq,Option.map_some]
  ·cases h
 ·cases h
theorem ZP{an:An}{op:UnOp}{x:RO}(hs:SR ⟨T,HI⟩ s)(h:dw (.un op x) an T HI k=some r):fO P (.un op x) s T HI k r:=by
 simp only[dw] at h;have ha:=eN hs.t x;split at h
 ·rename_i kx n hx;rw[hx] at ha;exact .no h hs rfl (by simp only[ev,ha.jg,uS,Option.map_some]) rfl (.int _ _)
 ·rename_i b hx;rw[hx] at ha;exact .no h hs rfl (by simp only[ev,ha.nA,uS,Option.map_some]) rfl (.bool _)
 ·cases h
theorem YQ{an:An}{kk:IntKind}{x:RO}(hs:SR ⟨T,HI⟩ s)(h:dw (.conv kk x) an T HI k=some r):fO P (.conv kk x) s T HI k r:=by
 simp only[dw] at h;have ha:=eN hs.t x;split at h
 ·rename_i kx n hx;rw[hx] at ha;exact .no h hs rfl (by simp only[ev,ha.jg]) rfl (.int _ _)
 ·cases h
theorem av3{an:An}{off:Nat}{x:RO}(hs:SR ⟨T,HI⟩ s)(h:dw (.bO off x) an T HI k=some r):fO P (.bO off x) s T HI k r:=by
 simp only[dw] at h;have ha:=eN hs.t x;split at h
 ·rename_i o i f hv;rw[hv] at ha;obtain⟨g,hd,ho,hg⟩:=ha.pF;split at h
  ·rename_i c hc;obtain⟨_,ck,h1,h2⟩:=hs.h.at hc;obtain⟨rfl,hi⟩:=hg ck h1;refine .no h hs rfl ?_ (by simp only[cF,hd,DV.ids]) (.ptr _ _ _ _ ho hg);simp only[ev,hd,PO h1,if_true]
  ·cases h
 ·rename_i cs hv;rw[hv] at ha;obtain⟨ds,hd,hr⟩:=ha.uB;exact .no h hs rfl (by simp only[ev,hd]) (by simp only[cF,hd,DV.ids]) (Rel.qE (hr.drop off))
 ·cases h
theorem awl{H:Hp}{nx:Nat}{cs:List IV}{ds:List DV}{off:Nat}{c:IV}{l:List IV}(hr:bR H nx cs ds)(he:cs.drop off=c::l):∃d,(ds.drop off).head? =some d/\Rel H nx c d:=by
 have hd:=hr.drop off;rw[he] at hd;obtain⟨d,ds',he',h1,h2⟩:=hd.dD;exact⟨d,by simp[he'],h1⟩
theorem aca{an:An}{ag:Bool}{n off:Nat}{x:RO}(hs:SR ⟨T,HI⟩ s)(h:dw (.qI ag n off x) an T HI k=some r):fO P (.qI ag n off x) s T HI k r:=by
 simp only[dw] at h;have ha:=eN hs.t x;split at h
 ·rename_i cs hv;rw[hv] at ha;obtain⟨ds,hd,hr⟩:=ha.fj;split at h
  ·rename_i hb;have hle:off+n<=ds.length:=by rw[<-hr.1];exact Nat.le_of_ble_eq_true hb
   split at h
   ·refine .no h hs rfl ?_ rfl (Rel.lO ((hr.drop off).take n));simp only[ev,hd];rw[if_pos hle];rfl
   ·split at h
    ·rename_i c l he;obtain⟨d,h1,h2⟩:=awl hr he;refine .no h hs rfl ?_ rfl h2;simp only[ev,hd];rw[if_pos hle];simp[h1]
    ·cases h
  ·cases h
 ·cases h
theorem awt{an:An}{sz:Nat}{x i:RO}(hs:SR ⟨T,HI⟩ s)(h:dw (.cP sz x i) an T HI k=some r):fO P (.cP sz x i) s T HI k r:=by
 simp only[dw] at h;have ha:=eN hs.t x;have hi:=eN hs.t i;split at h
 ·rename_i f t as kx n hx hn;rw[hx] at ha;rw[hn] at hi;obtain⟨f',xs,hd,_,hb⟩:=ha.nR;split at h
  ·rename_i hz;obtain⟨hin,h⟩:=gN h;simp only[ae,decide_eq_true_eq] at hin;have hlt:n.toNat<as.length:=by omega
   have hlt2:n.toNat<xs.length:=by rw[<-hb.1];exact hlt
   have hrow:=hb.getD (kq t) [] hlt;refine .no h hs rfl (d:=.rp (xs.getD n.toNat [])) ?_ (by simp only[cF,hd,DV.ids]) (Rel.qE (zj hb hlt2));simp only[ev,hd,hi.jg];rw[if_pos ⟨hin.1,by rw[<-hb.1];exact hin.2,by rw[cA.len t _ _ hrow];exact Nat.eq_of_beq_eq_true hz⟩]
  ·cases h
 ·rename_i o kx n hx hn;rw[hx] at ha;rw[hn] at hi;obtain⟨g,m,hd,ho,hg⟩:=ha.nk;split at h
  ·rename_i t as hc;split at h
   ·rename_i hz;obtain⟨hin,h⟩:=gN h;simp only[ae,decide_eq_true_eq] at hin;obtain⟨_,ck,h1,h2,h3⟩:=hs.h.at hc;obtain⟨rfl,rfl⟩:=hg ck h1;have e:=h3.1;refine .no h hs rfl (d:=.ptr o ck.gen (0+n.toNat) 0) ?_ (by simp only[cF,hd,DV.ids]) ?_
    ·simp only[ev,hd,hi.jg,h1];rw[if_pos ⟨trivial,by rw[h2];exact Nat.eq_of_beq_eq_true hz,hin.1,by omega⟩]
    ·rw[Nat.zero_add];exact .ptr _ _ _ _ ho fun ck' hk=>by rw[h1] at hk;injection hk with hk;subst hk;exact⟨rfl,by omega⟩
   ·cases h
  ·rename_i t as hc;split at h
   ·rename_i hz;obtain⟨hin,h⟩:=gN h;simp only[ae,decide_eq_true_eq] at hin;obtain⟨_,ck,h1,h2,h3,_⟩:=hs.h.at hc;obtain⟨rfl,rfl⟩:=hg ck h1;have e:=h3.1;refine .no h hs rfl (d:=.ptr o ck.gen (0+n.toNat) 0) ?_ (by simp only[cF,hd,DV.ids]) ?_
    ·simp only[ev,hd,hi.jg,h1];rw[if_pos ⟨trivial,by rw[h2];exact Nat.eq_of_beq_eq_true hz,hin.1,by omega⟩]
    ·rw[Nat.zero_add];exact .ptr _ _ _ _ ho fun ck' hk=>by rw[h1] at hk;injection hk with hk;subst hk;exact⟨rfl,by omega⟩
   ·cases h
  ·cases h
 ·rename_i o lo m kx n hx hn;rw[hx] at ha;rw[hn] at hi;obtain⟨g,hd,ho,hg⟩:=ha.qJ;split at h
  ·rename_i t as hc;split at h
   ·rename_i hz;obtain⟨hin,h⟩:=gN h;simp only[ae,decide_eq_true_eq] at hin;obtain⟨_,ck,h1,h2,h3⟩:=hs.h.at hc;obtain⟨rfl,hle⟩:=hg ck h1;refine .no h hs rfl (d:=.ptr o ck.gen (lo+n.toNat) 0) ?_ (by simp only[cF,hd,DV.ids]) ?_
    ·simp only[ev,hd,hi.jg,h1];rw[if_pos ⟨trivial,by rw[h2];exact Nat.eq_of_beq_eq_true hz,hin.1,by omega⟩]
    ·exact .ptr _ _ _ _ ho fun ck' hk=>by rw[h1] at hk;injection hk with hk;subst hk;exact⟨rfl,by omega⟩
   ·cases h
  ·cases h
 ·cases h
theorem wT{H:Hp}{nx:Nat}{T:List (Nat×IV)}{T':Nat->DV}(ht:∀t,Rel H nx (dy T t) (T' t)){o:Option RO}{l:Option Int}(h:Bu (o.map (dG T))=some l)(d:Nat):mh d (o.map fun x=>un true (x.get T'))=some (eY d l):=by
 cases o with
 | none=>simp only[Option.map_none,Bu] at h;cases h;rfl
 | some x=>
  simp only[Option.map_some,Bu] at h;split at h
  ·rename_i e;cases e
  ·rename_i kx n e;injection e with e;cases h;have:=eN ht x;rw[e] at this;simp only[Option.map_some,this.jg,mh,eY]
  ·cases h
theorem aou{an:An}{sz:Nat}{x:RO}{lo hi:Option RO}(hs:SR ⟨T,HI⟩ s)(h:dw (.jL sz x lo hi) an T HI k=some r):fO P (.jL sz x lo hi) s T HI k r:=by
 simp only[dw] at h;have ha:=eN hs.t x;split at h
 ·rename_i f t as l u hx hl hu;rw[hx] at ha;obtain⟨f',xs,hd,hf,hb⟩:=ha.nR;split at h
  ·rename_i hz;obtain⟨hin,h⟩:=gN h;have hcut:=atl hb l u hin;simp only[gz,decide_eq_true_eq] at hin;have hall:=tA hb hz;refine .no h hs rfl (d:=.ab (f' && decide (eY xs.length u=xs.length)) ((xs.drop (eY 0 l).toNat).take ((eY xs.length u).toNat-(eY 0 l).toNat))) ?_ (by simp only[cF,hd,DV.ids]) (.ab _ _ _ _ _ ?_ hcut)
   ·simp only[ev,hd,rm,wT hs.t hl 0,wT hs.t hu xs.length];have e:=hb.1;rw[if_pos ⟨hin.1,by rw[<-e];exact hin.2.1,by rw[<-e];exact hin.2.2,.inr hall⟩];rfl
   ·cases u with
    | none=>intro wM;simp[hf wM,eY]
    | some e=>intro wM;cases wM
  ·cases h
 ·rename_i o l u hx hl hu;rw[hx] at ha;obtain⟨g,m,hd,ho,hg⟩:=ha.nk;split at h
  ·rename_i t as hc;split at h
   ·rename_i hz;obtain⟨hin,h⟩:=gN h;simp only[gz,decide_eq_true_eq] at hin;obtain⟨_,ck,h1,h2,h3⟩:=hs.h.at hc;obtain⟨rfl,rfl⟩:=hg ck h1;have e:=h3.1;rw[e] at hin h;refine .no h hs rfl (d:=.own o ck.gen (0+(eY 0 l).toNat) ((eY ck.xs.length u).toNat-(eY 0 l).toNat)) ?_ (by simp only[cF,hd,DV.ids]) ?_
    ·simp only[ev,hd,rm,wT hs.t hl 0,wT hs.t hu ck.xs.length];rw[if_pos ⟨by simp[sK,h1,h2,Nat.eq_of_beq_eq_true hz],hin⟩];rfl
    ·rw[Nat.zero_add];exact .part _ _ _ _ ho fun ck' hk=>by rw[h1] at hk;injection hk with hk;subst hk;exact⟨rfl,by omega⟩
   ·cases h
  ·cases h
 ·rename_i o b m l u hx hl hu;rw[hx] at ha;obtain⟨g,hd,ho,hg⟩:=ha.qJ;split at h
  ·rename_i t as hc;split at h
   ·rename_i hz;obtain⟨hin,h⟩:=gN h;simp only[gz,decide_eq_true_eq] at hin;obtain⟨_,ck,h1,h2,h3⟩:=hs.h.at hc;obtain⟨rfl,hle⟩:=hg ck h1;refine .no h hs rfl (d:=.own o ck.gen (b+(eY 0 l).toNat) ((eY m u).toNat-(eY 0 l).toNat)) ?_ (by simp only[cF,hd,DV.ids]) ?_
    ·simp only[ev,hd,rm,wT hs.t hl 0,wT hs.t hu m];rw[if_pos ⟨by simp[sK,h1,h2,Nat.eq_of_beq_eq_true hz],hin⟩];rfl
    ·exact .part _ _ _ _ ho fun ck' hk=>by rw[h1] at hk;injection hk with hk;subst hk;exact⟨rfl,by omega⟩
   ·cases h
  ·cases h
 ·cases h
theorem aw4{an:An}{sz bytes:Nat}{z:List DV}{len cap:RO}(hs:SR ⟨T,HI⟩ s)(h:dw (.fw sz bytes z len cap) an T HI k=some r):fO P (.fw sz bytes z len cap) s T HI k r:=by
 simp only[dw] at h;have ha:=eN hs.t len;have hb:=eN hs.t cap;split at h
 ·rename_i l c z' hl hc hz';rw[hl] at ha;rw[hc] at hb;split at h
  ·rename_i hz;have hev:eH bytes l c=true->ev (.fw sz bytes z len cap) true s.T s.H s.nx=some (.own s.nx 0 0 l.toNat,.al ⟨0,sz,List.replicate l.toNat z⟩):=fun hin=>by
    simp only[eH,decide_eq_true_eq] at hin;simp only[ev,ha.jg,hb.jg];rw[if_pos hin]
   split at h
   ·obtain⟨hin,h⟩:=gN h;refine⟨_,_,_,_,h,⟨.own s.nx 0 0 l.toNat,[(s.nx,⟨0,sz,List.replicate l.toNat z⟩)],s.nx+1,fun K hK=>.inl ?_,rfl,fun dst=>?_⟩,by rw[show HI.length=s.nx from hs.n];rfl⟩
    ·rw[hev hin];exact hK
    ·refine hs.al (dh.og (Nat.eq_of_beq_eq_true hz).symm (aX.replicate _ (tn hz' (u9 (H:=s.H) (nx:=s.nx) z)))) ?_ dst;rw[show HI.length=s.nx from hs.n];refine .whole _ _ _ (Nat.lt_succ_self _) fun ck hk=>?_;rw[Hp.b9] at hk;injection hk with hk;subst hk;exact⟨rfl,by simp⟩
   ·rename_i o _;split at h
    ·rename_i hw;obtain⟨hin,h⟩:=gN h;obtain⟨ho,ck,h1,sz0,rfl⟩:=hs.h.at hw;refine⟨_,_,_,_,h,⟨.own o 1 0 l.toNat,[(o,⟨1,sz,List.replicate l.toNat z⟩)],s.nx,fun K hK=>.inr ⟨o,sz0,_,_,hev hin,h1,by simpa using hK⟩,rfl,fun dst=>?_⟩,rfl⟩;refine hs.grow ho (dh.og (Nat.eq_of_beq_eq_true hz).symm (aX.replicate _ (tn hz' (u9 (H:=s.H) (nx:=s.nx) z)))) ?_ dst;refine .whole _ _ _ ho fun ck hk=>?_;rw[Hp.b9] at hk;injection hk with hk;subst hk;exact⟨rfl,by simp⟩
    ·cases h
  ·cases h
 ·cases h
theorem aka{an:An}{x:RO}(hs:SR ⟨T,HI⟩ s)(h:dw (.len x) an T HI k=some r):fO P (.len x) s T HI k r:=by
 simp only[dw] at h;have ha:=eN hs.t x;split at h
 ·rename_i hx;rw[hx] at ha;exact .no h hs rfl (by simp only[ev,ha.pq,mT,List.length_nil,Option.map_some];rfl) (by simp only[cF,ha.pq,DV.ids]) (.int _ _)
 ·rename_i f t as hx;rw[hx] at ha;obtain⟨f',xs,hd,_,hb⟩:=ha.nR;exact .no h hs rfl (by simp only[ev,hd,mT,Option.map_some,hb.1]) (by simp only[cF,hd,DV.ids]) (.int _ _)
 ·rename_i o hx;rw[hx] at ha;obtain⟨g,m,hd,ho,hg⟩:=ha.nk;split at h
  ·rename_i t as hc;obtain⟨_,ck,h1,h2,h3⟩:=hs.h.at hc;obtain⟨rfl,rfl⟩:=hg ck h1;exact .no h hs rfl (by simp only[ev,hd,mT,Option.map_some,h3.1]) (by simp only[cF,hd,DV.ids]) (.int _ _)
  ·rename_i t as hc;obtain⟨_,ck,h1,h2,h3,_⟩:=hs.h.at hc;obtain⟨rfl,rfl⟩:=hg ck h1;exact .no h hs rfl (by simp only[ev,hd,mT,Option.map_some,h3.1]) (by simp only[cF,hd,DV.ids]) (.int _ _)
  ·cases h
 ·rename_i o lo n hx;rw[hx] at ha;obtain⟨g,hd,ho,hg⟩:=ha.qJ;exact .no h hs rfl (by simp only[ev,hd,mT,Option.map_some]) (by simp only[cF,hd,DV.ids]) (.int _ _)
 ·cases h
theorem ayd{an:An}{mx:Bool}{xs:List RO}(hs:SR ⟨T,HI⟩ s)(h:dw (.mm mx xs) an T HI k=some r):fO P (.mm mx xs) s T HI k r:=by
 cases xs with
 | nil=>simp[dw] at h
 | cons x r'=>
  simp only[dw,List.map_cons] at h;split at h
  ·rename_i v hv;have hl:=aX.of_map r' fun y=>eN hs.t y;obtain⟨e,q1,q2⟩:=SY _ _ _ _ _ hv (eN hs.t x) hl;exact .no h hs rfl (by simp only[ev,List.map_cons,q1,Option.map_some]) rfl q2
  ·cases h
theorem aoo{an:An}{i:Nat}{x:RO}(hs:SR ⟨T,HI⟩ s)(h:dw (.jm i x) an T HI k=some r):fO P (.jm i x) s T HI k r:=by
 simp only[dw] at h;have ha:=eN hs.t x;split at h
 ·rename_i vs hx;rw[hx] at ha;obtain⟨ds,hd,hr⟩:=ha.kG;split at h
  ·rename_i v hv;obtain⟨d,q1,q2⟩:=aX.get? hr hv;exact .no h hs rfl (by simp only[ev,hd,q1,Option.map_some]) rfl q2
  ·cases h
 ·cases h
theorem YB{an:An}{f:FuncId}{cs:List RO}(hs:SR ⟨T,HI⟩ s)(h:dw (.sD f cs) an T HI k=some r):fO P (.sD f cs) s T HI k r:=
 .no h hs rfl rfl rfl (Rel.ye (aX.of_map cs fun x=>eN hs.t x))
theorem asd{an:An}{sz bytes:Nat}{a x:RO}(hs:SR ⟨T,HI⟩ s)(h:dw (.app sz bytes a x) an T HI k=some r):fO P (.app sz bytes a x) s T HI k r:=by
 simp only[dw] at h;have ha:=eN hs.t a;have hx:=eN hs.t x;split at h
 ·rename_i o hv;rw[hv] at ha;obtain⟨g,m,hd,ho,hg⟩:=ha.nk;split at h
  ·rename_i t as hc;split at h
   ·rename_i bs rd hz hel;split at h
    ·rename_i hself;rw[Bool.and_eq_true] at hself;have hsz1:=Nat.le_of_ble_eq_true hself.2;obtain⟨hin,h⟩:=gN h;obtain⟨ys,e1,e2,e3⟩:=ym hel hs hx;obtain⟨_,ck,h1,h2,h3⟩:=hs.h.at hc;obtain⟨rfl,rfl⟩:=hg ck h1;simp only[ba,decide_eq_true_eq] at hin;have hzz:=Nat.eq_of_beq_eq_true hz;have hrd:cF (.app sz bytes a x) true s.T=o::rd:=by show(un true (a.get s.T)).ids++(un true (x.get s.T)).ids=_;rw[hd,e3];rfl
     have hlen:((ck.xs.drop 0).take ck.xs.length++ys).length=ck.xs.length+ys.length:=by simp
     have hev:ev (.app sz bytes a x) true s.T s.H s.nx=some (.own o (ck.gen+1) 0 ((ck.xs.drop 0).take ck.xs.length++ys).length,.wr o ⟨ck.gen+1,sz,(ck.xs.drop 0).take ck.xs.length++ys⟩):=by
      rw[hlen];simp only[ev,hd,j2,e1,h1];rw[if_pos (tA e2 hz),if_pos ⟨trivial,by rw[h2];exact hzz,by rw[<-h3.1,<-e2.1];exact hin.1,by rw[<-h3.1,<-e2.1];exact hin.2⟩]
     refine⟨_,_,_,_,h,⟨.ab false ((ck.xs.drop 0).take ck.xs.length++ys),[(o,⟨ck.gen+1+1,sz,[]⟩)],s.nx,fun K hk=>.inr (.inr ⟨o,⟨ck.gen+1,sz,(ck.xs.drop 0).take ck.xs.length++ys⟩,hev,by show 0<sz;omega,by rw[hrd];exact hk⟩),rfl,fun dst=>?_⟩,rfl⟩;refine hs.grow ho (dh.og hzz.symm aX.nil) (.ab _ _ _ _ _ (fun e=>by cases e) ?_) dst;have:(ck.xs.drop 0).take ck.xs.length=ck.xs:=by simp
     rw[this];exact h3.append e2
    obtain⟨hin,h⟩:=gN h;obtain⟨ys,e1,e2,e3⟩:=ym hel hs hx;obtain⟨_,ck,h1,h2,h3⟩:=hs.h.at hc;obtain⟨rfl,rfl⟩:=hg ck h1;simp only[ba,decide_eq_true_eq] at hin;have hzz:=Nat.eq_of_beq_eq_true hz;refine⟨_,_,_,_,h,.grow hs rfl (d:=.own o (ck.gen+1) 0 (ck.xs.length+ys.length)) (ck':=⟨ck.gen+1,sz,(ck.xs.drop 0).take ck.xs.length++ys⟩) ?_ (by show(un true (a.get s.T)).ids++(un true (x.get s.T)).ids=_;rw[hd,e3];rfl) ho (dh.og hzz.symm ?_) ?_,rfl⟩
    ·simp only[ev,hd,j2,e1,h1];rw[if_pos (tA e2 hz),if_pos ⟨trivial,by rw[h2];exact hzz,by rw[<-h3.1,<-e2.1];exact hin.1,by rw[<-h3.1,<-e2.1];exact hin.2⟩]
    ·have:(ck.xs.drop 0).take ck.xs.length=ck.xs:=by simp
     rw[this];exact h3.append e2
    ·refine .whole _ _ _ ho fun ck' hk=>?_;rw[Hp.b9] at hk;injection hk with hk;subst hk;exact⟨rfl,by simp⟩
   ·cases h
  ·cases h
 ·rename_i o lo m hv;rw[hv] at ha;obtain⟨g,hd,ho,hg⟩:=ha.qJ;split at h
  ·rename_i t as hc;split at h
   ·rename_i bs rd hz hel;obtain⟨hin,h⟩:=gN h;obtain⟨ys,e1,e2,e3⟩:=ym hel hs hx;obtain⟨_,ck,h1,h2,h3⟩:=hs.h.at hc;obtain⟨rfl,hle⟩:=hg ck h1;simp only[ba,decide_eq_true_eq] at hin;have hzz:=Nat.eq_of_beq_eq_true hz;refine⟨_,_,_,_,h,.grow hs rfl (d:=.own o (ck.gen+1) 0 (m+ys.length)) (ck':=⟨ck.gen+1,sz,(ck.xs.drop lo).take m++ys⟩) ?_ (by show(un true (a.get s.T)).ids++(un true (x.get s.T)).ids=_;rw[hd,e3];rfl) ho (dh.og hzz.symm (((h3.drop lo).take m).append e2)) ?_,rfl⟩
    ·simp only[ev,hd,j2,e1,h1];rw[if_pos (tA e2 hz),if_pos ⟨trivial,by rw[h2];exact hzz,by rw[<-e2.1];exact hin.1,by rw[<-e2.1];exact hin.2⟩]
    ·refine .whole _ _ _ ho fun ck' hk=>?_;rw[Hp.b9] at hk;injection hk with hk;subst hk;exact⟨rfl,by simp;omega⟩
   ·cases h
  ·cases h
 ·rename_i hv;rw[hv] at ha;split at h
  ·split at h
   ·rename_i bs rd hz hel;obtain⟨hin,h⟩:=gN h;obtain⟨ys,e1,e2,e3⟩:=ym hel hs hx;simp only[ba,decide_eq_true_eq] at hin;refine .no h hs rfl (d:=.ab false ([]++ys)) ?_ (by show(un true (a.get s.T)).ids++(un true (x.get s.T)).ids=_;rw[ha.pq,e3];rfl) (.ab _ _ _ _ _ (fun e=>by cases e) (by simpa using e2));simp only[ev,ha.pq,j2,e1];rw[if_pos (tA e2 hz),if_pos ⟨rfl,by simpa[<-e2.1] using hin.1,by simpa[<-e2.1] using hin.2⟩]
   ·cases h
  ·rename_i o ho0;split at h
   ·rename_i t hc;split at h
    ·rename_i bs rd hz hel;obtain⟨hin,h⟩:=gN h;obtain⟨ys,e1,e2,e3⟩:=ym hel hs hx;obtain⟨ho,ck,h1,h2,h3⟩:=hs.h.at hc;have hxs:ck.xs=[]:=h3.dY;have hzz:=Nat.eq_of_beq_eq_true hz;simp only[ba,decide_eq_true_eq] at hin;refine⟨_,_,_,_,h,⟨.own o (ck.gen+1) 0 (0+ys.length),[(o,⟨ck.gen+1,sz,(ck.xs.drop 0).take 0++ys⟩)],s.nx,fun K hk=>.inr (.inl ⟨o,ck,.own o (ck.gen+1) 0 (0+ys.length),.wr o ⟨ck.gen+1,sz,(ck.xs.drop 0).take 0++ys⟩,ha.pq,h1,hxs,?_,?_⟩),rfl,fun dst=>?_⟩,rfl⟩
     ·simp only[j2,e1,h1];rw[if_pos (tA e2 hz),if_pos ⟨trivial,by rw[h2];exact hzz,by rw[Nat.zero_add,<-e2.1];exact hin.1,by rw[Nat.zero_add,<-e2.1];exact hin.2⟩]
     ·rw[e3];exact hk
     ·refine hs.grow ho (dh.og hzz.symm (by simpa using e2)) (.whole _ _ _ ho fun ck' hk=>?_) dst;rw[Hp.b9] at hk;injection hk with hk;subst hk;exact⟨rfl,by simp⟩
    ·cases h
   ·cases h
 ·rename_i t as hv;rw[hv] at ha;obtain⟨f',xs,hd,hf,hb⟩:=ha.nR;have wM:=hf rfl;subst wM;split at h
  ·rename_i bs rd hz hel;obtain⟨hin,h⟩:=gN h;obtain⟨ys,e1,e2,e3⟩:=ym hel hs hx;simp only[ba,decide_eq_true_eq] at hin;refine .no h hs rfl (d:=.ab false (xs++ys)) ?_ (by show(un true (a.get s.T)).ids++(un true (x.get s.T)).ids=_;rw[hd,e3];rfl) (.ab _ _ _ _ _ (fun e=>by cases e) (hb.append e2));simp only[ev,hd,j2,e1];rw[if_pos (tA e2 hz),if_pos ⟨tA hb hz,by rw[<-hb.1,<-e2.1];exact hin.1,by rw[<-hb.1,<-e2.1];exact hin.2⟩]
  ·cases h
 ·cases h
theorem aop{op:cR}{an:An}(hs:SR ⟨T,HI⟩ s)(h:dw op an T HI k=some r):fO P op s T HI k r:=by
 cases op with
 | bS=>exact ajh hs h
 | pick=>exact ax0 hs h
 | box=>exact adn hs h
 | alloc=>exact YX hs h
 | build=>exact aiw hs h
 | g9=>exact abg hs h
 | load=>exact aaz hs h
 | store=>exact agv hs h
 | mK=>exact ZD hs h
 | bin=>exact ZW hs h
 | pN=>exact aly hs h
 | un=>exact ZP hs h
 | conv=>exact YQ hs h
 | bO=>exact av3 hs h
 | qI=>exact aca hs h
 | cP=>exact awt hs h
 | jL=>exact aou hs h
 | fw=>exact aw4 hs h
 | len=>exact aka hs h
 | mm=>exact ayd hs h
 | app=>exact asd hs h
 | jm=>exact aoo hs h
 | sD=>exact YB hs h
 | call=>simp[dw] at h
end sound
inductive Gh (o n:Nat):DV->DV->Prop
 | v (x:Value):Gh o n (.v x) (.v x)
 | any:Gh o n .any .any
 | nn:Gh o n .nn .nn
 | gd (p:Bool) (d d':DV) (h:Gh o n d d'):Gh o n (.gd p d) (.gd p d')
 | ptr (j g i f:Nat) (h:j≠o) (h':j≠n):Gh o n (.ptr j g i f) (.ptr j g i f)
 | wq (g i f:Nat):Gh o n (.ptr n g i f) (.ptr o (g+1) i f)
 | own (j g lo m:Nat) (h:j≠o) (h':j≠n):Gh o n (.own j g lo m) (.own j g lo m)
 | tf (g lo m:Nat):Gh o n (.own n g lo m) (.own o (g+1) lo m)
 | ab (f:Bool) (xs ys:List (List DV)) (hl:xs.length=ys.length) (hz:∀i (h1:i<xs.length) (h2:i<ys.length),xs[i].length=ys[i].length)
   (h:∀i (h1:i<xs.length) (h2:i<ys.length),∀j (h3:j<xs[i].length) (h4:j<ys[i].length),Gh o n xs[i][j] ys[i][j]):Gh o n (.ab f xs) (.ab f ys)
 | rp (cs ds:List DV) (hl:cs.length=ds.length) (h:∀j (h1:j<cs.length) (h2:j<ds.length),Gh o n cs[j] ds[j]):Gh o n (.rp cs) (.rp ds)
 | agg (cs ds:List DV) (hl:cs.length=ds.length) (h:∀j (h1:j<cs.length) (h2:j<ds.length),Gh o n cs[j] ds[j]):Gh o n (.agg cs) (.agg ds)
 | bh (cs ds:List DV) (hl:cs.length=ds.length) (h:∀j (h1:j<cs.length) (h2:j<ds.length),Gh o n cs[j] ds[j]):Gh o n (.bh cs) (.bh ds)
 | fn (f:FuncId) (cs ds:List DV) (hl:cs.length=ds.length) (h:∀j (h1:j<cs.length) (h2:j<ds.length),Gh o n cs[j] ds[j]):Gh o n (.fn f cs) (.fn f ds)
theorem p8{α β:Type}{R:α->β->Prop}:∀(l:List α),(∀x,x∈l->∃y,R x y)->∃r,aX R l r
 | [],_=>⟨[],.nil⟩
 | a::l,h=>by
  obtain⟨b,hb⟩:=h a (List.mem_cons_self ..);obtain⟨r,hr⟩:=p8 l fun x hx=>h x (List.mem_cons_of_mem _ hx);exact⟨b::r,.cons hb hr⟩
theorem Gh.of{o n:Nat}{d:DV}(h:bB (fun j=>j≠o) d):∃d',Gh o n d d':=by
 induction h with
 | v x=>exact⟨_,.v x⟩
 | any=>exact⟨_,.any⟩
 | nn=>exact⟨_,.nn⟩
 | gd p d h ih=>obtain⟨d',hd⟩:=ih;exact⟨_,.gd p d d' hd⟩
 | ptr j g i f h=>
  by_cases e:j=n
  ·subst e;exact⟨_,.wq g i f⟩
  ·exact⟨_,.ptr j g i f h e⟩
 | own j g lo m h=>
  by_cases e:j=n
  ·subst e;exact⟨_,.tf g lo m⟩
  ·exact⟨_,.own j g lo m h e⟩
 | ab f xs h ih=>
  have h1:∀x,x∈xs->∃y,aX (Gh o n) x y:=fun x hx=>p8 x fun c hc=>ih x hx c hc;obtain⟨ys,hy⟩:=p8 xs h1;exact⟨_,.ab f xs ys hy.1 (fun i a b=>(hy.2 i a b).1) fun i a b j c d=>(hy.2 i a b).2 j c d⟩
 | rp cs h ih=>obtain⟨ds,hd⟩:=p8 cs ih;exact⟨_,.rp cs ds hd.1 hd.2⟩
 | agg cs h ih=>obtain⟨ds,hd⟩:=p8 cs ih;exact⟨_,.agg cs ds hd.1 hd.2⟩
 | bh cs h ih=>obtain⟨ds,hd⟩:=p8 cs ih;exact⟨_,.bh cs ds hd.1 hd.2⟩
 | fn f cs h ih=>obtain⟨ds,hd⟩:=p8 cs ih;exact⟨_,.fn f cs ds hd.1 hd.2⟩
theorem Gh.flat{o n:Nat}{d d':DV}(g:Gh o n d d')(h:bB (fun _=>False) d):d'=d:=by
 have lists:∀(cs ds:List DV),cs.length=ds.length->(∀j (h1:j<cs.length) (h2:j<ds.length),ds[j]=cs[j])->ds=cs:=fun cs ds hl h=>List.ext_getElem hl.symm fun j a b=>h j b a;induction g with
 | v x=>rfl
 | any=>rfl
 | nn=>rfl
 | gd p d d' _ ih=>cases h with | gd _ _ h=>rw[ih h]
 | ptr j g i f=>rfl
 | wq g i f=>cases h with | ptr _ _ _ _ h=>exact h.elim
 | own j g lo m=>rfl
 | tf g lo m=>cases h with | own _ _ _ _ h=>exact h.elim
 | ab f xs ys hl hz _ ih=>
  cases h with
  | ab _ _ h=>
   have:ys=xs:=List.ext_getElem hl.symm fun i a b=>lists _ _ (hz i b a) fun j c d=>ih i b a j c d (h _ (List.getElem_mem _) _ (List.getElem_mem _));rw[this]
 | rp cs ds hl _ ih=>cases h with | rp _ h=>rw[lists cs ds hl fun j a b=>ih j a b (h _ (List.getElem_mem _))]
 | agg cs ds hl _ ih=>cases h with | agg _ h=>rw[lists cs ds hl fun j a b=>ih j a b (h _ (List.getElem_mem _))]
 | bh cs ds hl _ ih=>cases h with | bh _ h=>rw[lists cs ds hl fun j a b=>ih j a b (h _ (List.getElem_mem _))]
 | fn f cs ds hl _ ih=>cases h with | fn _ _ h=>rw[lists cs ds hl fun j a b=>ih j a b (h _ (List.getElem_mem _))]
theorem Gh.ids{S S':Nat->Prop}{o n:Nat}{d d':DV}(g:Gh o n d d')(h:bB S d)(hS:∀j,S j->j≠n->S' j)(ho:S' o):bB S' d':=by
 induction g with
 | v x=>exact .v x
 | any=>exact .any
 | nn=>exact .nn
 | gd p d d' _ ih=>cases h with | gd _ _ h=>exact .gd _ _ (ih h)
 | ptr j g i f _ h'=>cases h with | ptr _ _ _ _ h=>exact .ptr _ _ _ _ (hS j h h')
 | wq g i f=>exact .ptr _ _ _ _ ho
 | own j g lo m _ h'=>cases h with | own _ _ _ _ h=>exact .own _ _ _ _ (hS j h h')
 | tf g lo m=>exact .own _ _ _ _ ho
 | ab f xs ys hl hz _ ih=>
  cases h with
  | ab _ _ h=>
   refine .ab _ _ fun x hx c hc=>?_;obtain⟨i,hi,rfl⟩:=List.mem_iff_getElem.1 hx;obtain⟨j,hj,rfl⟩:=List.mem_iff_getElem.1 hc;have hi':i<xs.length:=by omega
   have hj':j<xs[i].length:=by rw[hz i hi' hi];exact hj
   exact ih i hi' hi j hj' hj (h _ (List.getElem_mem hi') _ (List.getElem_mem hj'))
 | rp cs ds hl _ ih=>
  cases h with
  | rp _ h=>
   refine .rp _ fun c hc=>?_;obtain⟨j,hj,rfl⟩:=List.mem_iff_getElem.1 hc;exact ih j (by omega) hj (h _ (List.getElem_mem _))
 | agg cs ds hl _ ih=>
  cases h with
  | agg _ h=>
   refine .agg _ fun c hc=>?_;obtain⟨j,hj,rfl⟩:=List.mem_iff_getElem.1 hc;exact ih j (by omega) hj (h _ (List.getElem_mem _))
 | bh cs ds hl _ ih=>
  cases h with
  | bh _ h=>
   refine .bh _ fun c hc=>?_;obtain⟨j,hj,rfl⟩:=List.mem_iff_getElem.1 hc;exact ih j (by omega) hj (h _ (List.getElem_mem _))
 | fn f cs ds hl _ ih=>
  cases h with
  | fn _ _ h=>
   refine .fn _ _ fun c hc=>?_;obtain⟨j,hj,rfl⟩:=List.mem_iff_getElem.1 hc;exact ih j (by omega) hj (h _ (List.getElem_mem _))
structure LX (o n:Nat) (H1:Hp) (ps1:Ps) (M:Nat->Prop) (n1:Nat) (H2:Hp) (ps2:Ps) (n2:Nat):Prop where
 mu:∀b,Mu H2 ps2 M b->Mu H1 ps1 M b
 same:∀j,j≠o->j≠n->∀c2,H2 j=some c2->∃c1,H1 j=some c1/\c2.gen=c1.gen/\c2.sz=c1.sz/\c2.xs.length=c1.xs.length/\ps2 j=ps1 j
 new:∀c2,H2 o=some c2->∃c1,H1 n=some c1/\c2.gen=c1.gen+1/\c2.sz=c1.sz/\c2.xs.length=c1.xs.length/\ps2 o=ps1 n
 lt:∀j,j≠n->j<n1->j<n2
 lo:o<n2
theorem Gh.up{o n:Nat}{H1:Hp}{ps1:Ps}{M:Nat->Prop}{n1:Nat}{H2:Hp}{ps2:Ps}{n2:Nat}{w:World}{d d':DV}(hh:LX o n H1 ps1 M n1 H2 ps2 n2)(g:Gh o n d d'){x:Value}(hv:VR H1 ps1 M n1 w d x):VR H2 ps2 M n2 w d' x:=by
 induction g generalizing x with
 | v y=>cases hv;exact .v _
 | any=>exact .any _
 | nn=>cases hv;exact .nn _ _
 | gd p d d' _ ih=>cases hv with | gd _ _ _ h h2=>exact .gd p d' _ (fun e=>ih (h e)) h2
 | ptr j g i f h h'=>
  cases hv with
  | ptr _ _ _ _ _ h0 h1 hk=>
   refine .ptr _ _ _ _ _ (hh.lt j h' h0) h1 fun ck hc=>?_;obtain⟨c1,k1,k2,k3,k4,k5⟩:=hh.same j h h' ck hc;obtain⟨a1,a2⟩:=hk c1 k1;refine⟨by omega,fun e=>?_⟩;obtain⟨b1,p,b2,b3⟩:=a2 (by omega);exact⟨by omega,p,by rw[k5];exact b2,by rw[k3];exact b3⟩
 | wq g i f=>
  cases hv with
  | ptr _ _ _ _ _ h0 h1 hk=>
   refine .ptr _ _ _ _ _ hh.lo h1 fun ck hc=>?_;obtain⟨c1,k1,k2,k3,k4,k5⟩:=hh.new ck hc;obtain⟨a1,a2⟩:=hk c1 k1;refine⟨by omega,fun e=>?_⟩;obtain⟨b1,p,b2,b3⟩:=a2 (by omega);exact⟨by omega,p,by rw[k5];exact b2,by rw[k3];exact b3⟩
 | own j g lo m h h'=>
  cases hv with
  | own _ _ _ _ _ h0 h1 hk=>
   refine .own _ _ _ _ _ (hh.lt j h' h0) h1 fun ck hc=>?_;obtain⟨c1,k1,k2,k3,k4,k5⟩:=hh.same j h h' ck hc;obtain⟨a1,a2⟩:=hk c1 k1;refine⟨by omega,fun e=>?_⟩;obtain⟨b1,a,cap,b2,b3,b4⟩:=a2 (by omega);refine⟨by omega,a,cap,b2,b3,?_⟩;rcases b4 with b4 | ⟨p,p1,p2,p3⟩
   ·exact .inl b4
   ·exact .inr ⟨p,by rw[k5];exact p1,by rw[k3];exact p2,by rw[k3];exact p3⟩
 | tf g lo m=>
  cases hv with
  | own _ _ _ _ _ h0 h1 hk=>
   refine .own _ _ _ _ _ hh.lo h1 fun ck hc=>?_;obtain⟨c1,k1,k2,k3,k4,k5⟩:=hh.new ck hc;obtain⟨a1,a2⟩:=hk c1 k1;refine⟨by omega,fun e=>?_⟩;obtain⟨b1,a,cap,b2,b3,b4⟩:=a2 (by omega);refine⟨by omega,a,cap,b2,b3,?_⟩;rcases b4 with b4 | ⟨p,p1,p2,p3⟩
   ·exact .inl b4
   ·exact .inr ⟨p,by rw[k5];exact p1,by rw[k3];exact p2,by rw[k3];exact p3⟩
 | ab f xs ys hl hz _ ih=>
  cases hv with
  | fm _ a cap hf=>
   have:ys=[]:=List.eq_nil_of_length_eq_zero (by rw[<-hl];rfl);subst this;exact .fm f a cap hf
  | ab _ _ b off cap sz vs hne hs hcap hf hM hz' h1 hc hv=>
   rw[hl];refine .ab f ys b off cap sz vs (fun e=>hne (List.eq_nil_of_length_eq_zero (by rw[hl,e];rfl))) hs (by omega) (fun e=>by rw[<-hl];exact hf e) (fun hm=>hM (hh.mu b hm)) (fun i hi=>?_) (fun i j hi hj=>h1 i j (by omega) hj) (fun i j hi hj=>hc i j (by omega) hj) fun i j hi hj=>?_
   ·rw[<-hz i (by omega) hi];exact hz' i (by omega)
   ·have hi':i<xs.length:=by omega
    have hj':j<xs[i].length:=by rw[hz i hi' hi];exact hj
    exact ih i hi' hi j hj' hj (hv i j hi' hj')
 | rp cs ds hl _ ih=>
  cases hv with
  | rp _ b off vs hM h1 hc hv=>
   exact .rp ds b off vs (fun hne hm=>hM (fun e=>hne (List.eq_nil_of_length_eq_zero (by rw[<-hl,e];rfl))) (hh.mu b hm)) (fun j hj=>h1 j (by omega)) (fun j hj=>hc j (by omega)) fun j hj=>ih j (by omega) hj (hv j (by omega))
 | agg cs ds hl _ ih=>
  obtain⟨vs,rfl,h1,h2,h3⟩:=hv.fj;exact .agg _ vs (by omega) (fun j hj=>h2 j (by omega)) fun j hj=>ih j (by omega) hj (h3 j (by omega))
 | bh cs ds hl _ ih=>
  obtain⟨vs,rfl,h1,h2⟩:=hv.kG;exact .bh _ vs (by omega) fun j hj=>ih j (by omega) hj (h2 j (by omega))
 | fn f cs ds hl _ ih=>
  obtain⟨vs,rfl,h1,h2⟩:=hv.jQ;exact .fn _ _ vs (by omega) fun j hj=>ih j (by omega) hj (h2 j (by omega))
structure mR (o n g:Nat) (c c':Ck):Prop where
 g:c'.gen=c.gen+g
 s:c'.sz=c.sz
 r:aX (aX (Gh o n)) c.xs c'.xs
def Eg(o n:Nat)(e e':Nat×Ck):Prop:=(e.1=n->e'.1=o/\mR o n 1 e.2 e'.2)/\(e.1≠n->e'.1=e.1/\mR o n 0 e.2 e'.2)
theorem Mi{o n:Nat}:∀(l l':bT),aX (Eg o n) l l'->(∀e,e∈l->e.1≠o)->
  (∀j,j≠o->j≠n->(∃c c',mR o n 0 c c'/\(∀H,bK H l j=some c)/\∀H,bK H l' j=some c')\/((∀H,bK H l j=H j)/\∀H,bK H l' j=H j))/\
  ((∃c c',mR o n 1 c c'/\(∀H,bK H l n=some c)/\∀H,bK H l' o=some c')\/((∀H,bK H l n=H n)/\∀H,bK H l' o=H o))/\(n≠o->∀H,bK H l' n=H n)
 | [],l',h,ho=>by rw[h.dY];exact⟨fun j _ _=>.inr ⟨fun _=>rfl,fun _=>rfl⟩,.inr ⟨fun _=>rfl,fun _=>rfl⟩,fun _ _=>rfl⟩
 | e::l,l',h,ho=>by
  obtain⟨e',l',rfl,h1,h2⟩:=h.dD;obtain⟨a1,a2,a3⟩:=Mi l l' h2 fun e he=>ho e (List.mem_cons_of_mem _ he);have heo:=ho e (List.mem_cons_self ..);refine⟨fun j hj hn=>?_,?_,fun hno H=>?_⟩
  ·rcases a1 j hj hn with⟨c,c',b1,b2,b3⟩ | ⟨b2,b3⟩
   ·exact .inl ⟨c,c',b1,fun H=>b2 _,fun H=>b3 _⟩
   ·by_cases e1:e.1=n
    ·obtain⟨k1,k2⟩:=h1.1 e1;refine .inr ⟨fun H=>?_,fun H=>?_⟩
     ·rw[hP,b2,Hp.aS _ _ _ (by rw[e1];exact hn)]
     ·rw[hP,b3,Hp.aS _ _ _ (by rw[k1];exact hj)]
    ·obtain⟨k1,k2⟩:=h1.2 e1;by_cases e2:j=e.1
     ·subst e2;refine .inl ⟨_,_,k2,fun H=>?_,fun H=>?_⟩
      ·rw[hP,b2,Hp.b9]
      ·rw[hP,b3,<-k1,Hp.b9]
     ·refine .inr ⟨fun H=>?_,fun H=>?_⟩
      ·rw[hP,b2,Hp.aS _ _ _ e2]
      ·rw[hP,b3,Hp.aS _ _ _ (by rw[k1];exact e2)]
  ·rcases a2 with⟨c,c',b1,b2,b3⟩ | ⟨b2,b3⟩
   ·exact .inl ⟨c,c',b1,fun H=>b2 _,fun H=>b3 _⟩
   ·by_cases e1:e.1=n
    ·obtain⟨k1,k2⟩:=h1.1 e1;refine .inl ⟨_,_,k2,fun H=>?_,fun H=>?_⟩
     ·rw[hP,b2,<-e1,Hp.b9]
     ·rw[hP,b3,<-k1,Hp.b9]
    ·obtain⟨k1,k2⟩:=h1.2 e1;refine .inr ⟨fun H=>?_,fun H=>?_⟩
     ·rw[hP,b2,Hp.aS _ _ _ (Ne.symm e1)]
     ·rw[hP,b3,Hp.aS _ _ _ (by rw[k1];exact Ne.symm heo)]
  ·rw[hP,a3 hno];by_cases e1:e.1=n
   ·rw[Hp.aS _ _ _ (by rw[(h1.1 e1).1];exact hno)]
   ·rw[Hp.aS _ _ _ (by rw[(h1.2 e1).1];exact Ne.symm e1)]
theorem za:∀(l:bT),(l.map (·.1)).Nodup->∀e,e∈l->∀H,bK H l e.1=some e.2
 | [],_,e,he,_=>by cases he
 | x::l,hn,e,he,H=>by
  simp only[List.map_cons,List.nodup_cons] at hn;rw[hP];rcases List.mem_cons.1 he with rfl | he
  ·rw[kb hn.1,Hp.b9]
  ·exact za l hn.2 e he _
theorem av7{o n:Nat}(l:bT)(h:∀e,e∈l->∀x,x∈e.2.xs->∀c,c∈x->bB (fun j=>j≠o) c):∃l',aX (Eg o n) l l':=by
 refine p8 l fun e he=>?_;have h1:∀x,x∈e.2.xs->∃y,aX (Gh o n) x y:=fun x hx=>p8 x fun c hc=>Gh.of (h e he x hx c hc);obtain⟨ys,hy⟩:=p8 e.2.xs h1;by_cases e1:e.1=n
 ·exact⟨(o,⟨e.2.gen+1,e.2.sz,ys⟩),fun _=>⟨rfl,rfl,rfl,hy⟩,fun h=>absurd e1 h⟩
 ·exact⟨(e.1,⟨e.2.gen,e.2.sz,ys⟩),fun h=>absurd h e1,fun _=>⟨rfl,rfl,rfl,hy⟩⟩
theorem FW{o j:Nat}{c:Ck}{l:bT}(h:j≠o):ah ((o,c)::l) j=ah l j:=by
 unfold ah;rw[hP];rcases tS l j with⟨ck,_,h1⟩ | h1
 ·rw[h1,h1]
 ·rw[h1,h1,Hp.aS _ _ _ h]
theorem NR{o:Nat}{c:Ck}{l:bT}(h:∀e,e∈l->e.1≠o):ah ((o,c)::l) o=some c:=by
 unfold ah;rw[hP,kb fun hm=>by obtain⟨e,he,e1⟩:=List.mem_map.1 hm;exact h e he e1,Hp.b9]
theorem mR.ids{S S':Nat->Prop}{o n g:Nat}{c c':Ck}(h:mR o n g c c')(hi:∀x,x∈c.xs->∀d,d∈x->bB S d)(hS:∀j,S j->j≠n->S' j)(ho:S' o):∀x,x∈c'.xs->∀d,d∈x->bB S' d:=by
 intro x hx d hd;obtain⟨i,hi',rfl⟩:=List.mem_iff_getElem.1 hx;obtain⟨j,hj,rfl⟩:=List.mem_iff_getElem.1 hd;have h1:i<c.xs.length:=by rw[h.r.1];exact hi'
 have h2:=h.r.2 i h1 hi';have h3:j<c.xs[i].length:=by rw[h2.1];exact hj
 exact(h2.2 j h3 hj).ids (hi _ (List.getElem_mem h1) _ (List.getElem_mem h3)) hS ho
theorem CR.gh{o n:Nat}{H1:Hp}{ps1:Ps}{M:Nat->Prop}{n1:Nat}{H2:Hp}{ps2:Ps}{n2:Nat}{w:World}(gh:LX o n H1 ps1 M n1 H2 ps2 n2){j j' g:Nat}{c c':Ck}(hC:mR o n g c c')(hp:ps2 j'=ps1 j)(h:CR H1 ps1 M n1 w j c):CR H2 ps2 M n2 w j' c':=by
 rcases h with⟨g1,g2⟩ | ⟨p,cs,E,vs,g1,g2,g3,g4,g5,g6,g7⟩
 ·exact .inl ⟨by rw[hp];exact g1,List.eq_nil_of_length_eq_zero (by rw[<-hC.r.1,g2];rfl)⟩
 ·refine .inr ⟨p,cs,E,vs,by rw[hp];exact g1,g2,g3,fun i hi=>?_,by rw[<-hC.r.1,hC.s];exact g5,fun i k hi hk=>by rw[hC.s] at hk ⊢;exact g6 i k (by rw[hC.r.1];exact hi) hk,fun i k hi hk=>?_⟩
  ·rw[<-(hC.r.2 i (by rw[hC.r.1];exact hi) hi).1,hC.s];exact g4 i _
  ·have q:=hC.r.2 i (by rw[hC.r.1];exact hi) hi;exact(q.2 k (by rw[q.1];exact hk) hk).up gh (g7 i k _ _)
theorem de.ghost{P:Program}{f:FuncId}{args:List DV}{pre:bT}{nb:Nat}{res:DV}{post:bT}{m:Nat}(h:de P f args pre nb res post (m+1)){o:Nat}(sz:Nat)(hnb:nb<=m)(ho:o<nb)
  (hpre:∀e,e∈pre->e.1≠o/\e.1<nb) (hnd:(post.map (·.1)).Nodup) (hm:m∈post.map (·.1)):
  ∃res' post',Gh o m res res'/\aX (Eg o m) post post'/\(∀e,e∈post->e.1≠o)/\de P f args ((o,⟨0,sz,[]⟩)::pre) nb res' post' m:=by
 have hpo:∀j ck,ah post j=some ck->j≠o:=by
  rintro j ck hj rfl;obtain⟨c0,hc0⟩:=h.fL j ck hj ho;exact(hpre _ (mS hc0)).1 rfl
 have hpo':∀e,e∈post->e.1≠o:=fun e he=>hpo e.1 e.2 (za post hnd e he _);have hS:∀j,((∃ck,ah post j=some ck)\/(nb<=j/\j<m+1))->j≠o:=by
  rintro j (⟨ck,hj⟩ | hj)
  ·exact hpo j ck hj
  ·omega
 obtain⟨res',hres⟩:=Gh.of (h.ids.kF hS);obtain⟨post',hpost⟩:=av7 post fun e he x hx c hc=>(h.j9 e.1 e.2 (za post hnd e he _) x hx c hc).kF hS;have hmo:m≠o:=by omega
 obtain⟨A1,A2,A3⟩:=Mi post post' hpost hpo';have A3:=A3 hmo;obtain⟨cm,cm',hcm,cm1,cm2⟩:∃c c',mR o m 1 c c'/\(∀H,bK H post m=some c)/\∀H,bK H post' o=some c':=by
  rcases A2 with h | ⟨h1,_⟩
  ·exact h
  ·obtain⟨e,he,e1⟩:=List.mem_map.1 hm;have:=za post hnd e he Hp.emp;rw[e1,h1] at this;cases this
 refine⟨res',post',hres,hpost,hpo',h.fn,fun j ck hj=>?_,fun j ck' hj hlt=>?_,hnb,?_,fun j ck' hj x hx c hc=>?_,fun M ps w cargs hR hsz hva hgl=>?_⟩
 ·by_cases e:j=o
  ·subst e;exact⟨cm',cm2 _⟩
  ·rw[FW e] at hj;have hlt:=(hpre _ (mS hj)).2;simp only at hlt;obtain⟨ck1,h1⟩:=h.af j ck hj;rcases A1 j e (by omega) with⟨c,c',_,_,b3⟩ | ⟨b2,_⟩
   ·exact⟨c',b3 _⟩
   ·rw[ah,b2] at h1;cases h1
 ·by_cases e:j=o
  ·subst e;exact⟨_,NR fun e he=>(hpre e he).1⟩
  ·rw[FW e];rcases A1 j e (by omega) with⟨c,c',_,b2,b3⟩ | ⟨_,b3⟩
   ·exact h.fL j c (b2 _) hlt
   ·rw[ah,b3] at hj;cases hj
 ·refine hres.ids h.ids (fun j hj hne=>?_) (.inl ⟨cm',cm2 _⟩);rcases hj with⟨ck,hj⟩ | hj
  ·rcases A1 j (hpo j ck hj) hne with⟨c,c',_,_,b3⟩ | ⟨b2,_⟩
   ·exact .inl ⟨c',b3 _⟩
   ·rw[ah,b2] at hj;cases hj
  ·exact .inr ⟨hj.1,by omega⟩
 ·have hS':∀j,((∃ck,ah post j=some ck)\/(nb<=j/\j<m+1))->j≠m->((∃ck,ah post' j=some ck)\/(nb<=j/\j<m)):=fun j hj hne=>by
   rcases hj with⟨ck,hj⟩ | hj
   ·rcases A1 j (hpo j ck hj) hne with⟨c,c',_,_,b3⟩ | ⟨b2,_⟩
    ·exact .inl ⟨c',b3 _⟩
    ·rw[ah,b2] at hj;cases hj
   ·exact .inr ⟨hj.1,by omega⟩
  by_cases e:j=o
  ·subst e;rw[ah,cm2] at hj;cases hj;exact hcm.ids (h.j9 m cm (cm1 _)) hS' (.inl ⟨cm',cm2 _⟩) x hx c hc
  ·by_cases e2:j=m
   ·subst e2;rw[ah,A3] at hj;cases hj
   ·rcases A1 j e e2 with⟨c1,c2,b1,b2,b3⟩ | ⟨_,b3⟩
    ·rw[ah,b3] at hj;injection hj with hj;subst hj
     exact b1.ids (h.j9 j c1 (b2 _)) hS' (.inl ⟨cm',cm2 _⟩) x hx c hc
    ·rw[ah,b3] at hj;cases hj
 ·have hpre2:∀j ck,ah pre j=some ck->ah ((o,⟨0,sz,[]⟩)::pre) j=some ck:=fun j ck hj=>by
   rw[FW (hpre _ (mS hj)).1];exact hj
  refine(h.calls (cx:=⟨0,M,Live (ah ((o,⟨0,sz,[]⟩)::pre)) ps,w,ah ((o,⟨0,sz,[]⟩)::pre),ps,nb,none,fun _=>none,[]⟩) hgl hR (Fr.refl _ _) (fun j ck p h1 h2=>.inl ⟨j,ck,p,h1,h2,rfl⟩) hpre2 cargs hsz hva).mono ?_;rintro e w' ⟨v,ps',rfl,hv,hmv⟩;let H1:Hp:=bK (ah ((o,⟨0,sz,[]⟩)::pre)) post
  let ps2:Ps:=fun j=>if j=o then ps' m else ps' j
  have ps2o:ps2 o=ps' m:=if_pos rfl;have ps2n:∀j,j≠o->ps2 j=ps' j:=fun j hj=>if_neg hj;have at2:∀j c2,ah post' j=some c2->(j=o/\c2=cm')\/(j≠o/\j≠m/\∃c1,mR o m 0 c1 c2/\ah post j=some c1/\H1 j=some c1):=fun j c2 hj=>by
   by_cases e:j=o
   ·subst e;rw[ah,cm2] at hj;injection hj with hj;exact .inl ⟨rfl,hj.symm⟩
   ·by_cases e2:j=m
    ·subst e2;rw[ah,A3] at hj;cases hj
    ·rcases A1 j e e2 with⟨c1,c3,b1,b2,b3⟩ | ⟨_,b3⟩
     ·rw[ah,b3] at hj;cases hj;exact .inr ⟨e,e2,c1,b1,b2 _,b2 _⟩
     ·rw[ah,b3] at hj;cases hj
  have hlo:o<m:=by omega
  have gh:LX o m H1 ps' M (m+1) (ah post') ps2 m:=by
   refine⟨fun b hb=>?_,fun j h1 h2 c2 hj=>?_,fun c2 hj=>?_,fun j h1 h2=>by omega,hlo⟩
   ·rcases hb with hb | ⟨j,c2,p,h1,h2,h3⟩
    ·exact .inl hb
    ·rcases at2 j c2 h1 with⟨rfl,rfl⟩ | ⟨e1,e2,c1,b1,b2,b3⟩
     ·exact .inr ⟨m,cm,p,cm1 _,by rw[<-ps2o];exact h2,h3⟩
     ·exact .inr ⟨j,c1,p,b3,by rw[<-ps2n j e1];exact h2,h3⟩
   ·rcases at2 j c2 hj with⟨rfl,rfl⟩ | ⟨e1,e2,c1,b1,b2,b3⟩
    ·exact absurd rfl h1
    ·exact⟨c1,b3,b1.g,b1.s,b1.r.1.symm,ps2n j e1⟩
   ·rcases at2 o c2 hj with⟨_,rfl⟩ | ⟨e1,_⟩
    ·exact⟨cm,cm1 _,hcm.g,hcm.s,hcm.r.1.symm,ps2o⟩
    ·exact absurd rfl e1
  refine⟨v,ps2,rfl,hres.up gh hv,⟨fun j c2 hj=>?_,fun j c2 hj=>?_,fun j j' c c' p p' h1 h2 h3 h4 h5=>?_,hmv.hr.ml,fun j c p h1 h2=>?_⟩,hmv.fr,fun j c p h1 h2=>?_,fun j hj c2 hk=>?_⟩
  ·rcases at2 j c2 hj with⟨rfl,rfl⟩ | ⟨e1,e2,c1,b1,b2,b3⟩
   ·exact hlo
   ·have:=hmv.hr.lt j c1 b3;omega
  ·rcases at2 j c2 hj with⟨rfl,rfl⟩ | ⟨e1,e2,c1,b1,b2,b3⟩
   ·exact(hmv.hr.cr m cm (cm1 _)).gh gh hcm ps2o
   ·exact(hmv.hr.cr j c1 b3).gh gh b1 (ps2n j e1)
  ·rcases at2 j c h1 with⟨rfl,rfl⟩ | ⟨e1,e2,c1,b1,b2,b3⟩<;>rcases at2 j' c' h2 with⟨rfl,rfl⟩ | ⟨k1,k2,c3,d1,d2,d3⟩
   ·rfl
   ·rw[ps2o] at h3;rw[ps2n j' k1] at h4;exact absurd (hmv.hr.inj m j' cm c3 p p' (cm1 _) d3 h3 h4 h5) (Ne.symm k2)
   ·rw[ps2o] at h4;rw[ps2n j e1] at h3;exact absurd (hmv.hr.inj j m c1 cm p p' b3 (cm1 _) h3 h4 h5) e2
   ·rw[ps2n j e1] at h3;rw[ps2n j' k1] at h4;exact hmv.hr.inj j j' c1 c3 p p' b3 d3 h3 h4 h5
  ·rcases at2 j c h1 with⟨rfl,rfl⟩ | ⟨e1,e2,c1,b1,b2,b3⟩
   ·rw[ps2o] at h2;exact hmv.hr.dj m cm p (cm1 _) h2
   ·rw[ps2n j e1] at h2;exact hmv.hr.dj j c1 p b3 h2
  ·rcases at2 j c h1 with⟨rfl,rfl⟩ | ⟨e1,e2,c1,b1,b2,b3⟩
   ·rw[ps2o] at h2;exact hmv.lb m cm p (cm1 _) h2
   ·rw[ps2n j e1] at h2;exact hmv.lb j c1 p b3 h2
  ·rcases at2 j c2 hk with⟨rfl,rfl⟩ | ⟨e1,e2,c1,b1,b2,b3⟩
   ·exact⟨_,NR fun e he=>(hpre e he).1,.inl (by rw[hcm.g];exact Nat.succ_pos _)⟩
   ·obtain⟨ck,g1,g2⟩:=hmv.kp.hp j hj c1 b3;refine⟨ck,g1,?_⟩;rcases g2 with g2 | ⟨g2,g3,g4,g5⟩
    ·exact .inl (by rw[b1.g];omega)
    ·exact .inr ⟨by rw[b1.g,g2];rfl,by rw[b1.s,g3],by rw[<-b1.r.1];exact g4,by rw[ps2n j e1];exact g5⟩
structure lZ (kl:List Nat) (H:Hp) (nx:Nat) (H':Hp) (nx':Nat):Prop where
 n:nx<=nx'
 h:∀o ck',o<nx->o∉kl->H' o=some ck'->∃ck,H o=some ck/\ck.gen=ck'.gen/\ck.xs.length=ck'.xs.length
theorem lZ.same{H H':Hp}{nx nx':Nat}(s:k8 H nx H' nx'):lZ [] H nx H' nx':=⟨s.n,fun o ck ho _ h=>s.h o ck ho h⟩
def GN:List Nat->IV->IV
 | [],v=>v
 | o::r,v=>GN r (vt o v)
def Aq:List Nat->List (Nat×IV)->List (Nat×IV)
 | [],T=>T
 | o::r,T=>Aq r (s3 o T)
def qR:List Nat->IH->IH
 | [],H=>H
 | o::r,H=>qR r (ka o H)
theorem lZ.mid{o:Nat}{r:List Nat}{H H':Hp}{nx nx':Nat}(s:lZ (o::r) H nx H' nx'):vL o H nx (fun j=>if j=o then H' o else H j) nx/\lZ r (fun j=>if j=o then H' o else H j) nx H' nx':=by
 refine⟨⟨Nat.le_refl _,fun o' ck' hlt hne hk=>?_⟩,⟨s.n,fun o' ck' hlt hr hk=>?_⟩⟩
 ·simp only[if_neg hne] at hk;exact⟨ck',hk,rfl,rfl⟩
 ·by_cases e:o'=o
  ·subst e;exact⟨ck',by simp[hk],rfl,rfl⟩
  ·obtain⟨ck,h1,h2⟩:=s.h o' ck' hlt (by simp[e,hr]) hk;exact⟨ck,by simp[e,h1],h2⟩
theorem lZ.LU{H H':Hp}{nx nx':Nat}(s:lZ [] H nx H' nx'):k8 H nx H' nx':=⟨s.n,fun o ck ho h=>s.h o ck ho (by simp) h⟩
theorem Wd{H':Hp}{nx nx':Nat}:∀{kl:List Nat} {H:Hp} {v:IV} {d:DV},lZ kl H nx H' nx'->Rel H nx v d->Rel H' nx' (GN kl v) d
 | [],H,v,d,s,h=>h.same s.LU
 | o::r,H,v,d,s,h=>Wd (v:=vt o v) s.mid.2 (QO s.mid.1 h)
theorem X9:∀(kl:List Nat) (T:List (Nat×IV)) (t:Nat),dy (Aq kl T) t=GN kl (dy T t)
 | [],T,t=>rfl
 | o::r,T,t=>by
  show dy (Aq r (s3 o T)) t=GN r (vt o (dy T t));rw[X9 r,Na]
theorem SP:∀(kl:List Nat) (H:IH),(qR kl H).length=H.length
 | [],H=>rfl
 | o::r,H=>by
  show(qR r (ka o H)).length=_;rw[SP r,sG]
theorem V6{H':Hp}{nx nx':Nat}:∀{kl:List Nat} {H:Hp} {HI:IH} {o:Nat} {c':cS},lZ kl H nx H' nx'->aK (qR kl HI) o=some c'->∃c,aK HI o=some c/\∀ck,dh H nx c ck->dh H' nx' c' ck
 | [],H,HI,o,c',s,h=>⟨c',h,fun ck hk=>hk.same s.LU⟩
 | a::r,H,HI,o,c',s,h=>by
  obtain⟨c1,h1,h2⟩:=V6 s.mid.2 h;rw[xq] at h1;cases hg:aK HI o with
  | none=>rw[hg] at h1;cases h1
  | some c=>
   rw[hg] at h1;exact⟨c,rfl,fun ck hk=>h2 ck (Rw s.mid.1 hk h1)⟩
abbrev eC:Type 1:={R:Type}->List IV->IH->(IV->IH->List Nat->List Nat->List Nat->Option R)->Option R
def iY(P:Program)(f:FuncId)(E:eC):Prop:=∀(R:Type) (args:List IV) (HI:IH) (k:IV->IH->List Nat->List Nat->List Nat->Option R) (r:R),E args HI k=some r->∀(dargs:List DV) (H:Hp) (nx:Nat),bR H nx args dargs->jw HI H nx->HI.length=nx->
 ∃res H' rd wr kl,k res H' rd wr kl=some r/\∃pre d post nx',de P f dargs pre nx d post nx'/\(∀o ck,ah pre o=some ck->H o=some ck)/\pre.map (·.1)=rd/\post.map (·.1)=wr/\H'.length=nx'/\jw H' (bK H post) nx'/\Rel (bK H post) nx' res d/\lZ kl H nx (bK H post) nx'
structure Env where
 l:List (Nat×eC)
def qN(o m:Nat):IV->IV
 | .ptr q i f=>cond (Nat.beq q m) (.ptr o i f) (cond (Nat.beq q o) .any (.ptr q i f))
 | .whole q=>cond (Nat.beq q m) (.whole o) (cond (Nat.beq q o) .any (.whole q))
 | .part q l n=>cond (Nat.beq q m) (.part o l n) (cond (Nat.beq q o) .any (.part q l n))
 | .rp _=>.any
 | .agg _=>.any
 | .bh _=>.any
 | .fn f []=>.fn f []
 | .fn _ _=>.any
 | v=>v
def HH(o m:Nat):IV->IV
 | .agg cs=>.agg (cs.map (qN o m))
 | .rp cs=>.rp (cs.map (qN o m))
 | .fn f cs=>.fn f (cs.map (qN o m))
 | v=>qN o m v
def AN(o m:Nat):IV->IV
 | .bh vs=>.bh (vs.map (HH o m))
 | v=>HH o m v
def FH(o m:Nat):cS->cS
 | .box g cs=>.box (g+1) (cs.map fun c=>gL o (gL m c))
 | .hF t as=>.arr t as
 | c=>c
def xk:List Nat->Bool
 | []=>true
 | a::r=> !(r.any fun b=>Nat.beq b a) && xk r
def vY(o m:Nat):List Nat->List Nat
 | []=>[]
 | a::r=>cond (Nat.beq a m) o a::vY o m r
def pD:IH->Nat->IH
 | [],_=>[]
 | _::_,0=>[]
 | c::r,n+1=>c::pD r n
def Wv{R:Type}(o nb:Nat)(k:IV->IH->List Nat->List Nat->List Nat->Option R):IV->IH->List Nat->List Nat->List Nat->Option R:=fun v H' rd wr kl=>
 match H'.length with
 | 0=>none
 | m+1=>match aK H' m with
  | some (.box g cs)=>eE (Nat.ble nb m && (Nat.blt o nb && ((rd.all fun j=> !(Nat.beq j o) && Nat.blt j nb) && (xk wr && wr.any fun j=>Nat.beq j m)))) (k (AN o m v) (fp (ka o (ka m (pD H' m))) o (some (FH o m (.box g cs)))) (o::rd) (vY o m wr) (o::kl)) none
  | some (.arr t as)=>eE (Nat.ble nb m && (Nat.blt o nb && ((rd.all fun j=> !(Nat.beq j o) && Nat.blt j nb) && (xk wr && wr.any fun j=>Nat.beq j m)))) (k (AN o m v) (fp (ka o (ka m (pD H' m))) o (some (FH o m (.arr t as)))) (o::rd) (vY o m wr) (o::kl)) none
  | _=>none
def M9(o:Nat)(E:eC):eC:=fun args H k=>match aK H o with
 | some .wait=>E args H (Wv o H.length k)
 | _=>none
def Iy:List Nat->eC->eC
 | [],E=>fun args H k=>E args H k
 | o::r,E=>fun args H k=>M9 o (fun a h k=>Iy r E a h k) args H k
theorem Rx:∀{l:List Nat},xk l=true->l.Nodup
 | [],_=>List.nodup_nil
 | a::r,h=>by
  simp only[xk,Bool.and_eq_true,Bool.not_eq_true'] at h;refine List.nodup_cons.2 ⟨fun hm=>?_,Rx h.2⟩;have:(r.any fun b=>Nat.beq b a)=true:=List.any_eq_true.2 ⟨a,hm,Nat.beq_refl a⟩;rw[h.1] at this;cases this
theorem TB:∀(H:IH) (m j:Nat),j<m->aK (pD H m) j=aK H j
 | [],m,j,h=>rfl
 | c::r,0,j,h=>by omega
 | c::r,m+1,0,h=>rfl
 | c::r,m+1,j+1,h=>TB r m j (by omega)
theorem RA:∀(H:IH) (m:Nat),m<=H.length->(pD H m).length=m
 | [],m,h=>by simp at h;subst h;rfl
 | c::r,0,h=>rfl
 | c::r,m+1,h=>by simp only[pD,List.length_cons];rw[RA r m (by simpa using h)]
section ghost
variable {o m:Nat} {H1 H2:Hp} {n1 n2:Nat}
structure sx (o m:Nat) (H1:Hp) (n1:Nat) (H2:Hp) (n2:Nat):Prop where
 same:∀j,j<n1->j≠o->j≠m->∀c2,H2 j=some c2->∃c1,H1 j=some c1/\c1.gen=c2.gen/\c1.xs.length=c2.xs.length
 new:∀c2,H2 o=some c2->∃c1,H1 m=some c1/\c2.gen=c1.gen+1/\c1.xs.length=c2.xs.length
 lt:∀j,j≠m->j<n1->j<n2
 lo:o<n2
theorem mo{a b:Nat}(h:a≠b):Nat.beq a b=false:=by
 cases hb:Nat.beq a b with
 | false=>rfl
 | true=>exact absurd (Nat.eq_of_beq_eq_true hb) h
theorem Vu(s:sx o m H1 n1 H2 n2){v:IV}{d d':DV}(h:Rel H1 n1 v d)(g:Gh o m d d'):Rel H2 n2 (qN o m v) d':=by
 cases h with
 | int k n=>cases g;exact .int k n
 | bool b=>cases g;exact .bool b
 | str b=>cases g;exact .str b
 | nil=>rw[g.flat (.ab _ _ fun x hx=>by cases hx)];exact .nil
 | ab f f' t as xs hf h=>
  rw[g.flat (.ab _ _ fun x hx c hc=>by
   obtain⟨j,hj,rfl⟩:=List.mem_iff_getElem.1 hx;exact cA.ids t _ _ (h.2 j (by rw[h.1];exact hj) hj) c hc)]
  exact .ab f f' t as xs hf h
 | raw x=>cases g;exact .raw x
 | any d=>exact .any _
 | nn=>cases g;exact .nn
 | ptr q gg i off ho hh=>
  simp only[qN];cases g with
  | ptr _ _ _ _ h1 h2=>
   rw[mo h2,mo h1];refine .ptr _ _ _ _ (s.lt q h2 ho) fun c2 hc=>?_;obtain⟨c1,k1,k2,k3⟩:=s.same q ho h1 h2 c2 hc;have:=hh c1 k1;exact⟨by omega,by omega⟩
  | wq=>
   rw[Nat.beq_refl];refine .ptr _ _ _ _ s.lo fun c2 hc=>?_;obtain⟨c1,k1,k2,k3⟩:=s.new c2 hc;have:=hh c1 k1;exact⟨by omega,by omega⟩
 | whole q gg n ho hh=>
  simp only[qN];cases g with
  | own _ _ _ _ h1 h2=>
   rw[mo h2,mo h1];refine .whole _ _ _ (s.lt q h2 ho) fun c2 hc=>?_;obtain⟨c1,k1,k2,k3⟩:=s.same q ho h1 h2 c2 hc;have:=hh c1 k1;exact⟨by omega,by omega⟩
  | tf=>
   rw[Nat.beq_refl];refine .whole _ _ _ s.lo fun c2 hc=>?_;obtain⟨c1,k1,k2,k3⟩:=s.new c2 hc;have:=hh c1 k1;exact⟨by omega,by omega⟩
 | part q gg l n ho hh=>
  simp only[qN];cases g with
  | own _ _ _ _ h1 h2=>
   rw[mo h2,mo h1];refine .part _ _ _ _ (s.lt q h2 ho) fun c2 hc=>?_;obtain⟨c1,k1,k2,k3⟩:=s.same q ho h1 h2 c2 hc;have:=hh c1 k1;exact⟨by omega,by omega⟩
  | tf=>
   rw[Nat.beq_refl];refine .part _ _ _ _ s.lo fun c2 hc=>?_;obtain⟨c1,k1,k2,k3⟩:=s.new c2 hc;have:=hh c1 k1;exact⟨by omega,by omega⟩
 | rp cs ds hl h=>exact .any _
 | agg cs ds hl h=>exact .any _
 | bh cs ds hl h=>exact .any _
 | fn f cs ds hl h=>
  cases cs with
  | nil=>
   cases g with
   | fn _ _ es hl2 _=>exact .fn _ _ _ (by simp at hl;simp[<-hl2,<-hl]) (fun j h=>by cases h)
  | cons=>exact .any _
theorem OQ(s:sx o m H1 n1 H2 n2){cs:List IV}{ds es:List DV}(h:bR H1 n1 cs ds)(hl:ds.length=es.length)(g:∀j (h1:j<ds.length) (h2:j<es.length),Gh o m ds[j] es[j]):bR H2 n2 (cs.map (qN o m)) es:=
 ⟨by simp[h.1,hl],fun j h1 h2=>by
  have h3:j<cs.length:=by simpa using h1
  simpa using Vu s (h.2 j h3 (by omega)) (g j (by omega) h2)⟩
theorem XJ(s:sx o m H1 n1 H2 n2){v:IV}{d d':DV}(h:Rel H1 n1 v d)(g:Gh o m d d'):Rel H2 n2 (HH o m v) d':=by
 unfold HH;split
 ·obtain⟨ds,rfl,k⟩:=h.fj;cases g with | agg _ es hl g=>exact Rel.lO (OQ s k hl g)
 ·obtain⟨ds,rfl,k⟩:=h.uB;cases g with | rp _ es hl g=>exact Rel.qE (OQ s k hl g)
 ·obtain⟨ds,rfl,k⟩:=h.jQ;cases g with | fn _ _ es hl g=>exact Rel.ye (OQ s k hl g)
 ·exact Vu s h g
theorem ZL(s:sx o m H1 n1 H2 n2){v:IV}{d d':DV}(h:Rel H1 n1 v d)(g:Gh o m d d'):Rel H2 n2 (AN o m v) d':=by
 unfold AN;split
 ·obtain⟨ds,rfl,k⟩:=h.kG;cases g with
  | bh _ es hl g=>
   exact Rel.wR ⟨by simp[k.1,hl],fun j h1 h2=>by
    have h3:j<ds.length:=by omega
    simpa using XJ s (k.2 j (by have:=k.1;omega) h3) (g j h3 h2)⟩
 ·exact XJ s h g
theorem KR(s:sx o m H1 n1 H2 n2){v:IV}{d d':DV}(h:Rel H1 n1 v d)(g:Gh o m d d'\/d'=d):Rel H2 n2 (gL o (gL m v)) d':=by
 have fl:∀{d d':DV},bB (fun _=>False) d->Gh o m d d'\/d'=d->d'=d:=fun hi g=>g.elim (fun g=>g.flat hi) id;cases h with
 | int k n=>rw[fl (.v _) g];exact .int k n
 | bool b=>rw[fl (.v _) g];exact .bool b
 | str b=>rw[fl (.v _) g];exact .str b
 | nil=>rw[fl (.ab _ _ fun x hx=>by cases hx) g];exact .nil
 | ab f f' t as xs hf h=>
  rw[fl (.ab _ _ fun x hx c hc=>by
   obtain⟨j,hj,rfl⟩:=List.mem_iff_getElem.1 hx;exact cA.ids t _ _ (h.2 j (by rw[h.1];exact hj) hj) c hc) g]
  exact .ab f f' t as xs hf h
 | raw x=>rw[fl (.v _) g];exact .raw x
 | any d=>exact .any _
 | nn=>rw[fl .nn g];exact .nn
 | ptr q gg i off ho hh=>
  simp only[gL];by_cases h2:q=m
  ·subst h2;rw[Nat.beq_refl];exact .any _
  ·rw[mo h2];simp only[cond_false,gL];by_cases h1:q=o
   ·subst h1;rw[Nat.beq_refl];exact .any _
   ·rw[mo h1];have:d'=.ptr q gg i off:=by
     rcases g with g | rfl
     ·cases g with
      | ptr=>rfl
      | wq=>exact absurd rfl h2
     ·rfl
    subst this;refine .ptr _ _ _ _ (s.lt q h2 ho) fun c2 hc=>?_;obtain⟨c1,k1,k2,k3⟩:=s.same q ho h1 h2 c2 hc;have:=hh c1 k1;exact⟨by omega,by omega⟩
 | whole q gg n ho hh=>
  simp only[gL];by_cases h2:q=m
  ·subst h2;rw[Nat.beq_refl];exact .any _
  ·rw[mo h2];simp only[cond_false,gL];by_cases h1:q=o
   ·subst h1;rw[Nat.beq_refl];exact .any _
   ·rw[mo h1];have:d'=.own q gg 0 n:=by
     rcases g with g | rfl
     ·cases g with
      | own=>rfl
      | tf=>exact absurd rfl h2
     ·rfl
    subst this;refine .whole _ _ _ (s.lt q h2 ho) fun c2 hc=>?_;obtain⟨c1,k1,k2,k3⟩:=s.same q ho h1 h2 c2 hc;have:=hh c1 k1;exact⟨by omega,by omega⟩
 | part q gg l n ho hh=>
  simp only[gL];by_cases h2:q=m
  ·subst h2;rw[Nat.beq_refl];exact .any _
  ·rw[mo h2];simp only[cond_false,gL];by_cases h1:q=o
   ·subst h1;rw[Nat.beq_refl];exact .any _
   ·rw[mo h1];have:d'=.own q gg l n:=by
     rcases g with g | rfl
     ·cases g with
      | own=>rfl
      | tf=>exact absurd rfl h2
     ·rfl
    subst this;refine .part _ _ _ _ (s.lt q h2 ho) fun c2 hc=>?_;obtain⟨c1,k1,k2,k3⟩:=s.same q ho h1 h2 c2 hc;have:=hh c1 k1;exact⟨by omega,by omega⟩
 | rp cs ds hl h=>
  simp only[gL];cases hb:cs.all sA with
  | true=>
   simp only[cond_true,gL,hb];obtain⟨k1,k2⟩:=NJ hb ⟨hl,h⟩;rw[fl (.rp _ k2) g];exact Rel.qE k1
  | false=>exact .any _
 | agg cs ds hl h=>exact .any _
 | bh cs ds hl h=>exact .any _
 | fn f cs ds hl h=>
  cases cs with
  | nil=>
   have hd:=List.eq_nil_of_length_eq_zero (by rw[<-hl];rfl);subst hd;rw[fl (.fn _ _ fun c hc=>by cases hc) g];exact .fn _ _ _ rfl (fun j h=>by cases h)
  | cons=>exact .any _
theorem Sc(s:sx o m H1 n1 H2 n2){c c':cS}{ck ck':Ck}(h:dh H1 n1 c ck)(hk:lM o (lM m (some c))=some c')(g:mR o m 0 ck ck'\/ck'=ck):dh H2 n2 c' ck':=by
 cases c with
 | box gb cs=>
  simp only[lM] at hk;cases hk;obtain⟨h1,ds,h2,h3,h4⟩:=h;rcases g with g | rfl
  ·obtain⟨e1,e2,e3⟩:=g;rw[h2] at e3;obtain⟨es,he,h5⟩:=e3.p7;refine⟨by rw[e2,h1];simp,es,he,⟨by simp[h3.1,h5.1],fun j a b=>?_⟩,by rw[e1,h4];rfl⟩;simp only[List.getElem_map];exact KR s (h3.2 j (by simpa using a) (by rw[h5.1];exact b)) (.inl (h5.2 j (by rw[h5.1];exact b) b))
  ·refine⟨by rw[h1];simp,ds,h2,⟨by simp[h3.1],fun j a b=>?_⟩,h4⟩;simp only[List.getElem_map];exact KR s (h3.2 j (by simpa using a) b) (.inr rfl)
 | arr t as=>
  simp only[lM] at hk;cases hk;rcases g with g | rfl
  ·refine⟨by rw[g.s];exact h.1,?_⟩;have:ck'.xs=ck.xs:=List.ext_getElem g.r.1.symm fun i a b=>List.ext_getElem (g.r.2 i b a).1.symm fun j c d=>((g.r.2 i b a).2 j d c).flat (cA.ids t _ _ (h.2.2 i (by rw[h.2.1];exact b) b) _ (List.getElem_mem d));rw[this];exact h.2
  ·exact h
 | hF t as=>
  simp only[lM] at hk;cases hk;rcases g with g | rfl
  ·refine⟨by rw[g.s];exact h.1,?_⟩;have:ck'.xs=ck.xs:=List.ext_getElem g.r.1.symm fun i a b=>List.ext_getElem (g.r.2 i b a).1.symm fun j c d=>((g.r.2 i b a).2 j d c).flat (cA.ids t _ _ (h.2.1.2 i (by rw[h.2.1.1];exact b) b) _ (List.getElem_mem d));rw[this];exact⟨h.2.1,by rw[g.g,h.2.2]⟩
  ·exact h
 | wait=>
  simp only[lM] at hk;cases hk;obtain⟨sz,rfl⟩:=h;rcases g with g | rfl
  ·obtain⟨gen',sz',xs'⟩:=ck';obtain⟨e1,e2,e3⟩:=g;simp only at e1 e2 e3;have:=e3.dY;subst this;subst e1;exact⟨sz',rfl⟩
  ·exact⟨sz,rfl⟩
theorem agf(s:sx o m H1 n1 H2 n2){c:cS}{ck ck':Ck}(h:dh H1 n1 c ck)(hw:c≠.wait)(g:mR o m 1 ck ck'):dh H2 n2 (FH o m c) ck':=by
 cases c with
 | box gb cs=>
  obtain⟨h1,ds,h2,h3,h4⟩:=h;obtain⟨e1,e2,e3⟩:=g;rw[h2] at e3;obtain⟨es,he,h5⟩:=e3.p7;refine⟨by rw[e2,h1];simp,es,he,⟨by simp[h3.1,h5.1],fun j a b=>?_⟩,by rw[e1,h4]⟩;simp only[List.getElem_map];exact KR s (h3.2 j (by simpa using a) (by rw[h5.1];exact b)) (.inl (h5.2 j (by rw[h5.1];exact b) b))
 | arr t as=>
  refine⟨by rw[g.s];exact h.1,?_⟩;have:ck'.xs=ck.xs:=List.ext_getElem g.r.1.symm fun i a b=>List.ext_getElem (g.r.2 i b a).1.symm fun j c d=>((g.r.2 i b a).2 j d c).flat (cA.ids t _ _ (h.2.2 i (by rw[h.2.1];exact b) b) _ (List.getElem_mem d));rw[this];exact h.2
 | hF t as=>
  refine⟨by rw[g.s];exact h.1,?_⟩;have:ck'.xs=ck.xs:=List.ext_getElem g.r.1.symm fun i a b=>List.ext_getElem (g.r.2 i b a).1.symm fun j c d=>((g.r.2 i b a).2 j d c).flat (cA.ids t _ _ (h.2.1.2 i (by rw[h.2.1.1];exact b) b) _ (List.getElem_mem d));rw[this];exact h.2.1
 | wait=>exact absurd rfl hw
end ghost
theorem iY.ghost{P:Program}{f:FuncId}{E:eC}(hE:iY P f E)(o:Nat):iY P f (M9 o E):=by
 intro R args HI k r h dargs H nx hargs hH hn;simp only[M9] at h;split at h
 ·rename_i hw;obtain⟨how,ckw,hckw,szw,rfl⟩:=hH o _ hw;obtain⟨v,H',rd,wr,kl,h1,pre,d,post,nx',h2,h3,h4,h5,h6,h7,h8,h9⟩:=hE R args HI _ r h dargs H nx hargs hH hn;have main:∀m c,H'.length=m+1->aK H' m=some c->c≠.wait->(Nat.ble HI.length m && (Nat.blt o HI.length && ((rd.all fun j=> !(Nat.beq j o) && Nat.blt j HI.length) && (xk wr && wr.any fun j=>Nat.beq j m))))=true->
    k (AN o m v) (fp (ka o (ka m (pD H' m))) o (some (FH o m c))) (o::rd) (vY o m wr) (o::kl)=some r->∃res H' rd wr kl,k res H' rd wr kl=some r/\∃pre d post nx',de P f dargs pre nx d post nx'/\(∀o ck,ah pre o=some ck->H o=some ck)/\pre.map (·.1)=rd/\post.map (·.1)=wr/\H'.length=nx'/\jw H' (bK H post) nx'/\Rel (bK H post) nx' res d/\lZ kl H nx (bK H post) nx':=by
   intro m c hlen hc hcw ht hk;simp only[Bool.and_eq_true] at ht;obtain⟨t1,t2,t3,t4,t5⟩:=ht;have q1:nx<=m:=by rw[<-hn];exact Nat.le_of_ble_eq_true t1
   have q3:∀e,e∈pre->e.1≠o/\e.1<nx:=fun e he=>by
    have:=List.all_eq_true.1 t3 e.1 (by rw[<-h4];exact List.mem_map.2 ⟨e,he,rfl⟩);simp only[Bool.and_eq_true,Bool.not_eq_true'] at this;exact⟨xm this.1,by rw[<-hn];exact Nat.le_of_ble_eq_true this.2⟩
   have q4:(post.map (·.1)).Nodup:=by rw[h5];exact Rx t4
   have q5:m∈post.map (·.1):=by
    rw[h5];obtain⟨j,hj,e⟩:=List.any_eq_true.1 t5;rw[<-Nat.eq_of_beq_eq_true e];exact hj
   have hnx':nx'=m+1:=by rw[<-h6];exact hlen
   subst hnx';obtain⟨d',post',g1,g2,g3,g4⟩:=h2.ghost szw q1 how q3 q4 q5;obtain⟨A1,A2,A3⟩:=Mi post post' g2 g3;have hmo:m≠o:=by omega
   obtain⟨cm,cm',hcm,cm1,cm2⟩:∃c c',mR o m 1 c c'/\(∀H,bK H post m=some c)/\∀H,bK H post' o=some c':=by
    rcases A2 with h | ⟨b1,_⟩
    ·exact h
    ·obtain⟨e,he,e1⟩:=List.mem_map.1 q5;have:=za post q4 e he Hp.emp;rw[e1,b1] at this;cases this
   have gs:sx o m (bK H post) (m+1) (bK H post') m:=by
    refine⟨fun j hj h1 h2 c2 hc2=>?_,fun c2 hc2=>?_,fun j h1 h2=>by omega,by omega⟩
    ·rcases A1 j h1 h2 with⟨c1,c3,b1,b2,b3⟩ | ⟨b2,b3⟩
     ·rw[b3] at hc2;cases hc2;exact⟨c1,b2 _,b1.g.symm,b1.r.1⟩
     ·rw[b3] at hc2;exact⟨c2,by rw[b2];exact hc2,rfl,rfl⟩
    ·rw[cm2] at hc2;cases hc2;exact⟨cm,cm1 _,hcm.g,hcm.r.1⟩
   have hdl:(pD H' m).length=m:=RA _ _ (by omega);refine⟨_,_,_,_,_,hk,(o,⟨0,szw,[]⟩)::pre,d',post',m,g4,fun j ck hj=>?_,by rw[List.map_cons,h4],?_,?_,fun j c' hj=>?_,ZL gs h8 g1,⟨q1,fun j ck' hj hnk hck=>?_⟩⟩
   ·by_cases e:j=o
    ·subst e;rw[NR fun e he=>(q3 e he).1] at hj;cases hj;exact hckw
    ·rw[FW e] at hj;exact h3 j ck hj
   ·rw[<-h5];have:∀(l l':bT),aX (Eg o m) l l'->l'.map (·.1)=vY o m (l.map (·.1)):=by
     intro l;induction l with
     | nil=>intro l' h;rw[h.dY];rfl
     | cons e l ih=>
      intro l' h;obtain⟨e',l',rfl,a1,a2⟩:=h.dD;simp only[List.map_cons,vY,ih l' a2];by_cases e1:e.1=m
      ·rw[(a1.1 e1).1,e1,Nat.beq_refl];rfl
      ·rw[(a1.2 e1).1,mo e1];rfl
    exact this _ _ g2
   ·rw[kS,sG,sG,hdl]
   ·rw[lW,sG,sG,hdl] at hj;by_cases e:j=o
    ·subst e;rw[if_pos ⟨rfl,by omega⟩] at hj;cases hj;refine⟨by omega,cm',cm2 _,?_⟩;obtain⟨_,ck,k1,k2⟩:=h7 m c hc;rw[cm1] at k1;cases k1;exact agf gs k2 hcw hcm
    ·rw[if_neg fun h=>e h.1,xq,xq] at hj;have hjm:j<m:=by
      rcases Nat.lt_or_ge j m with h | h
      ·exact h
      ·exfalso;have:aK (pD H' m) j=none:=by
        cases hq:aK (pD H' m) j with
        | none=>rfl
        | some cq=>have:=sV _ _ _ hq;omega
       rw[this] at hj;cases hj
     rw[TB _ _ _ hjm] at hj;cases hg:aK H' j with
     | none=>rw[hg] at hj;cases hj
     | some c0=>
      rw[hg] at hj;obtain⟨_,ck,k1,k2⟩:=h7 j c0 hg;rcases A1 j e (by omega) with⟨c1,c3,b1,b2,b3⟩ | ⟨b2,b3⟩
      ·rw[b2] at k1;cases k1;exact⟨hjm,c3,b3 _,Sc gs k2 hj (.inl b1)⟩
      ·rw[b2] at k1;exact⟨hjm,ck,by rw[b3];exact k1,Sc gs k2 hj (.inr rfl)⟩
   ·simp only[List.mem_cons,not_or] at hnk;rcases A1 j hnk.1 (by omega) with⟨c1,c3,b1,b2,b3⟩ | ⟨b2,b3⟩
    ·rw[b3] at hck;cases hck;obtain⟨c0,k1,k2,k3⟩:=h9.h j c1 hj hnk.2 (b2 _);exact⟨c0,k1,by rw[k2,b1.g];rfl,by rw[k3,b1.r.1]⟩
    ·rw[b3] at hck;exact⟨ck',hck,rfl,rfl⟩
  simp only[Wv] at h1;split at h1
  ·cases h1
  ·rename_i m hlen;split at h1
   ·rename_i g cs hc;obtain⟨ht,hk⟩:=gN h1;exact main m _ hlen hc (by simp) ht hk
   ·rename_i t as hc;obtain⟨ht,hk⟩:=gN h1;exact main m _ hlen hc (by simp) ht hk
   ·cases h1
 ·cases h
theorem iY.GG{P:Program}{f:FuncId}{E:eC}(hE:iY P f E):∀l:List Nat,iY P f (Iy l E)
 | []=>hE
 | o::r=>(iY.GG hE r).ghost o
section run
variable {R:Type}
def zP(gs:List Nat):List (Nat×eC)->Nat->List IV->IH->(IV->IH->List Nat->List Nat->List Nat->Option R)->Option R
 | [],_,_,_,_=>none
 | (g,E)::r,f,args,H,k=>eE (Nat.beq g f) (Iy gs E args H k) (zP gs r f args H k)
def NF(H:IH):mb->List Nat
 | .no=>[]
 | .set o _=>[o]
 | .al _=>[H.length]
 | .grow o _=>[o]
structure TI where
 ri:RI
 an:An:={}
def wC(env:List (Nat×eC))(op:cR)(an:An)(T:List (Nat×IV))(H:IH)(k:IV->List (Nat×IV)->IH->List Nat->List Nat->Option R):Option R:=
 match op with
 | .call f xs=>match dG T f with
  | .fn id caps=>zP an.gs env id (xs.map (dG T)++caps) H fun v H' rd wr kl=>k v (Aq kl T) H' rd wr
  | _=>none
 | op=>dw op an T H fun v u rd=>k v (u.t T) (u.h H) rd (NF H u)
def nC(env:List (Nat×eC)):List TI->List (Nat×IV)->IH->Lg->(List (Nat×IV)->IH->Lg->Option R)->Option R
 | [],T,H,lg,k=>k T H lg
 | i::r,T,H,lg,k=>
  match i.ri.gd with
  | none=>wC env i.ri.op i.an T H fun v T' H' rd wr=>nC env r (kI i.ri.dst v T') H' (lg++[(rd,wr)]) k
  | some (t,wn)=>match dy T t with
   | .bool b=>match wn with
    | true=>eE b (wC env i.ri.op i.an ((t,.bool true)::T) H fun v T' H' rd wr=>nC env r (kI i.ri.dst v T') H' (lg++[(rd,wr)]) k)
      (nC env r (kI i.ri.dst (.raw undef) ((t,.bool false)::T)) H (lg++[([],[])]) k)
    | false=>eE b (nC env r (kI i.ri.dst (.raw undef) ((t,.bool true)::T)) H (lg++[([],[])]) k)
      (wC env i.ri.op i.an ((t,.bool false)::T) H fun v T' H' rd wr=>nC env r (kI i.ri.dst v T') H' (lg++[(rd,wr)]) k)
   | .raw (.tuple _)=>nC env r (kI i.ri.dst (.raw undef) T) H (lg++[([],[])]) k
   | _=>none
end run
section sound
variable {R:Type} {P:Program} {r:R} {env:List (Nat×eC)}
def iS(P:Program)(env:List (Nat×eC)):Prop:=∀x,x∈env->iY P x.1 x.2
theorem iS.nil:iS P []:=fun x h=>by cases h
theorem iS.cons{f:Nat}{E:eC}{env:List (Nat×eC)}(h:iY P f E)(k:iS P env):iS P ((f,E)::env):=fun x hx=>by
 rcases List.mem_cons.1 hx with rfl | hx
 ·exact h
 ·exact k x hx
theorem arh(hE:iS P env){gs:List Nat}{f:Nat}{args:List IV}{H:IH}{k:IV->IH->List Nat->List Nat->List Nat->Option R}(h:zP gs env f args H k=some r):∃E:eC,iY P f E/\E args H k=some r:=by
 induction env with
 | nil=>simp[zP] at h
 | cons x l ih=>
  obtain⟨g,E⟩:=x;simp only[zP] at h;cases hb:Nat.beq g f with
  | true=>
   rw[hb] at h;have:=Nat.eq_of_beq_eq_true hb;subst this;exact⟨Iy gs E,(hE (g,E) (by simp)).GG gs,h⟩
  | false=>
   rw[hb] at h;exact ih (fun x hx=>hE x (List.mem_cons_of_mem _ hx)) h
theorem aan(hE:iS P env){op:cR}{an:An}{T:List (Nat×IV)}{H:IH}{k:IV->List (Nat×IV)->IH->List Nat->List Nat->Option R}{s:St}(hs:SR ⟨T,H⟩ s)(h:wC env op an T H k=some r):
  ∃v T' H' rd wr,k v T' H' rd wr=some r/\∃e:Rc,kz P op true s e/\e.rd=rd/\e.post.map (·.1)=wr/\∀dst,SR ⟨kI dst v T',H'⟩ (s.app dst e):=by
 have gen:∀op,dw op an T H (fun v u rd=>k v (u.t T) (u.h H) rd (NF H u))=some r->∃v T' H' rd wr,k v T' H' rd wr=some r/\∃e:Rc,kz P op true s e/\e.rd=rd/\e.post.map (·.1)=wr/\∀dst,SR ⟨kI dst v T',H'⟩ (s.app dst e):=by
  intro op h;obtain⟨v,u,rd,wr,h1,⟨d,post,nx',h2,h3,h4⟩,h5⟩:=aop hs h;obtain⟨e,he,e1,e2,e3,e4⟩:=L7 (h2 (fun d' post' nx'' rd'=>d'=d/\post'=post/\nx''=nx'/\rd'=rd) ⟨rfl,rfl,rfl,rfl⟩);refine⟨v,u.t T,u.h H,rd,NF H u,h1,e,he,e4,?_,fun dst=>?_⟩
  ·rw[e2,h3,h5];cases u<;>rfl
  ·have:=h4 dst;simp only[St.app,e1,e2,e3];exact this
 cases op with
 | call f xs=>
  simp only[wC] at h;have hf:=eN hs.t f;split at h
  ·rename_i id caps hfv;rw[hfv] at hf;obtain⟨dc,hfd,hcaps⟩:=hf.jQ;obtain⟨E,hE1,hE2⟩:=arh hE h;have hargs:=(aX.of_map xs fun x=>eN hs.t x).append hcaps;obtain⟨res,H',rd,wr,kl,h1,pre,d,post,nx',h2,h3,h4,h5,h6,h7,h8,h9⟩:=hE1 _ _ _ _ _ hE2 _ s.H s.nx hargs hs.h hs.n;refine⟨res,Aq kl T,H',rd,wr,h1,⟨d,post,nx',pre.map (·.1)⟩,.inr (.inl ⟨f,xs,id,dc,rfl,hfd,pre,h2,h3,fun o ck ho=>List.mem_map.2 ⟨(o,ck),mS ho,rfl⟩⟩),h4,h5,fun dst=>?_⟩;refine⟨uw (fun t=>by rw[X9];exact Wd h9 (hs.t t)) h8 dst,h7,h6⟩
  ·cases h
 | _=>exact gen _ h
theorem GO(hE:iS P env):∀(l:List TI) (T:List (Nat×IV)) (H:IH) (lg:Lg) (k:List (Nat×IV)->IH->Lg->Option R) (s:St),SR ⟨T,H⟩ s->nC env l T H lg k=some r->
  dz P (l.map (·.ri)) lg s fun lg' s'=>∃T' H',SR ⟨T',H'⟩ s'/\k T' H' lg'=some r
 | [],T,H,lg,k,s,hs,h=>⟨T,H,hs,h⟩
 | i::l,T,H,lg,k,s,hs,h=>by
  have go:∀(T:List (Nat×IV)),SR ⟨T,H⟩ s->(wC env i.ri.op i.an T H fun v T' H' rd wr=>nC env l (kI i.ri.dst v T') H' (lg++[(rd,wr)]) k)=some r->
    ∃e:Rc,kz P i.ri.op true s e/\dz P (l.map (·.ri)) (lg++[(e.rd,e.post.map (·.1))]) (s.app i.ri.dst e) fun lg' s'=>∃T' H',SR ⟨T',H'⟩ s'/\k T' H' lg'=some r:=by
   intro T hs h;obtain⟨v,T',H',rd,wr,h1,e,he,e1,e2,e3⟩:=aan hE hs h;refine⟨e,he,?_⟩;rw[e1,e2];exact GO hE l _ _ _ k _ (e3 _) h1
  have skip:∀(T:List (Nat×IV)),SR ⟨T,H⟩ s->nC env l (kI i.ri.dst (.raw undef) T) H (lg++[([],[])]) k=some r->
    dz P (l.map (·.ri)) (lg++[([],[])]) (s.app i.ri.dst ⟨.v undef,[],s.nx,[]⟩) fun lg' s'=>∃T' H',SR ⟨T',H'⟩ s'/\k T' H' lg'=some r:=by
   intro T hs h;exact GO hE l _ _ _ k _ ⟨uw hs.t (.raw _) _,hs.h,hs.n⟩ h
  simp only[nC] at h;split at h
  ·rename_i hg;obtain⟨e,h1,h2⟩:=go T hs h;exact⟨e,by unfold fT;rw[hg];exact h1,h2⟩
  ·rename_i t wn hg;have ht:=hs.t t;have ref:∀b:Bool,dy T t=.bool b->SR ⟨(t,.bool b)::T,H⟩ s:=by
    intro b hb;refine⟨fun t'=>?_,hs.h,hs.n⟩;simp only[dy];cases hq:Nat.beq t t' with
    | false=>exact hs.t t'
    | true=>
     have:=Nat.eq_of_beq_eq_true hq;subst this;have:=hs.t t;simp only[hb] at this;exact this
   have gvb:∀b:Bool,dy T t=.bool b->gv (s.T t) wn=some (b==wn):=by
    intro b hb;simp only[hb] at ht;rw[ht.nA];rfl
   split at h
   ·rename_i b hb;have hgb:=gvb b hb;have hrf:=ref b hb;split at h
    ·cases b with
     | true=>
      obtain⟨e,h1,h2⟩:=go _ hrf h;exact⟨e,by unfold fT;rw[hg];exact⟨true,hgb,.inl ⟨rfl,h1⟩⟩,h2⟩
     | false=>exact⟨⟨.v undef,[],s.nx,[]⟩,by unfold fT;rw[hg];exact⟨false,hgb,.inr (.inl ⟨rfl,rfl⟩)⟩,skip _ hrf h⟩
    ·cases b with
     | false=>
      obtain⟨e,h1,h2⟩:=go _ hrf h;exact⟨e,by unfold fT;rw[hg];exact⟨true,hgb,.inl ⟨rfl,h1⟩⟩,h2⟩
     | true=>exact⟨⟨.v undef,[],s.nx,[]⟩,by unfold fT;rw[hg];exact⟨false,hgb,.inr (.inl ⟨rfl,rfl⟩)⟩,skip _ hrf h⟩
   ·rename_i vs hb;simp only[hb] at ht;have hraw:=ht.Lu;have hgv:gv (s.T t) wn=some false:=by
     rw[hraw];rfl
    exact⟨⟨.v undef,[],s.nx,[]⟩,by unfold fT;rw[hg];exact⟨false,hgv,.inr (.inl ⟨rfl,rfl⟩)⟩,skip T hs h⟩
   ·cases h
end sound
def Tr(s:St)(H':Hp)(π:Nat->Nat)(nx':Nat)(d d':DV):Prop:=∀(ps:Ps) (M:Nat->Prop) (w:World) (x:Value),HR s.H ps M s.nx w->VR s.H ps M s.nx w d x->VR H' (fun j=>ps (π j)) M nx' w d' x
structure Shape (s:St) (H':Hp) (π:Nat->Nat) (nx':Nat):Prop where
 hp:∀j ck',H' j=some ck'->j<nx'/\∃ck,s.H (π j)=some ck/\ck'.gen=ck.gen/\ck'.sz=ck.sz/\ck'.xs.length=ck.xs.length
structure ZC (s:St) (H':Hp) (π:Nat->Nat) (nx' nb:Nat):Prop where
 sh:Shape s H' π nx'
 cl:∀j ck' ck,H' j=some ck'->s.H (π j)=some ck->∀i (h1:i<ck'.xs.length) (h2:i<ck.xs.length),ck'.xs[i].length=ck.xs[i].length/\∀c (h3:c<ck'.xs[i].length) (h4:c<ck.xs[i].length),Tr s H' π nx' ck.xs[i][c] ck'.xs[i][c]
 inj:∀j j' ck ck',H' j=some ck->H' j'=some ck'->π j=π j'->j=j'
 nb:nb<=nx'/\∀o,o<nb->π o=o
theorem Shape.mu{s:St}{H':Hp}{π:Nat->Nat}{nx':Nat}(h:Shape s H' π nx'){ps:Ps}{M:Nat->Prop}{b:Nat}(hb:Mu H' (fun j=>ps (π j)) M b):Mu s.H ps M b:=by
 rcases hb with hb | ⟨j,ck',p,h1,h2,h3⟩
 ·exact .inl hb
 ·obtain⟨_,ck,k1,_⟩:=h.hp j ck' h1;exact .inr ⟨π j,ck,p,k1,h2,h3⟩
theorem Wk.tr{cx:Cx}{s:St}{H':Hp}{π:Nat->Nat}{nx':Nat}{T':Nat->DV}(h:ZC s H' π nx' cx.nb)(ht:∀t,Tr s H' π nx' (s.T t) (T' t)):Wk cx s ⟨T',H',nx'⟩:=fun ps a w R=>by
 refine⟨fun j=>ps (π j),⟨fun t=>ht t ps cx.M w _ R.hr (R.t t),R.nt,⟨fun j ck' hj=>(h.sh.hp j ck' hj).1,fun j ck' hj=>?_,?_,R.hr.ml,?_⟩,R.fr,?_,R.df,h.nb.1,?_,R.fz⟩⟩
 ·obtain⟨_,ck,k1,k2,k3,k4⟩:=h.sh.hp j ck' hj;rcases R.hr.cr _ ck k1 with⟨g1,g2⟩ | ⟨p,c,E,vs,g1,g2,g3,g4,g5,g6,g7⟩
  ·exact .inl ⟨g1,List.eq_nil_of_length_eq_zero (by rw[k4,g2];rfl)⟩
  ·refine .inr ⟨p,c,E,vs,g1,g2,g3,fun i hi=>?_,by rw[k4,k3];exact g5,fun i q hi hq=>by rw[k3] at hq ⊢;exact g6 i q (by rw[<-k4];exact hi) hq,fun i q hi hq=>?_⟩
   ·have:=(h.cl j ck' ck hj k1 i hi (by rw[<-k4];exact hi)).1;rw[this,k3];exact g4 i _
   ·have q1:=h.cl j ck' ck hj k1 i hi (by rw[<-k4];exact hi);exact q1.2 q hq (by rw[<-q1.1];exact hq) ps cx.M w _ R.hr (g7 i q _ _)
 ·intro o o' ck ck' p p' h1 h2 h3 h4 h5;obtain⟨_,c1,k1,_⟩:=h.sh.hp o ck h1;obtain⟨_,c2,k2,_⟩:=h.sh.hp o' ck' h2;exact h.inj o o' ck ck' h1 h2 (R.hr.inj _ _ c1 c2 p p' k1 k2 h3 h4 h5)
 ·intro o ck p h1 h2;obtain⟨_,c1,k1,_⟩:=h.sh.hp o ck h1;exact R.hr.dj _ c1 p k1 h2
 ·intro o ck p h1 h2;obtain⟨_,c1,k1,_⟩:=h.sh.hp o ck h1;exact R.lb _ c1 p k1 h2
 ·intro o ho ck' hk;obtain⟨_,c1,k1,k2,k3,k4⟩:=h.sh.hp o ck' hk;rw[h.nb.2 o ho] at k1;obtain⟨c0,q1,q2⟩:=R.gm o ho c1 k1;refine⟨c0,q1,?_⟩;rcases q2 with q2 | ⟨q2,q3,q4,q5⟩
  ·exact .inl (by rw[k2];exact q2)
  ·exact .inr ⟨by rw[k2];exact q2,by rw[k3];exact q3,by rw[k4];exact q4,by show ps (π o)=_;rw[h.nb.2 o ho];exact q5⟩
theorem Tr.flat{s:St}{H':Hp}{π:Nat->Nat}{nx':Nat}(h:Shape s H' π nx'){d:DV}(hd:bB (fun _=>False) d):Tr s H' π nx' d d:=fun ps M w x hr hv=>
 hv.ke hd ⟨fun o h=>h.elim,fun o h=>h.elim,fun b hb=>.inl (h.mu hb),fun b _ _=>rfl⟩
structure Ch where
 f:IV->IV
 g:IV->DV->DV
def tE(f:IV->IV):IV->IV
 | .rp cs=>cond (cs.all sA) (.rp cs) .any
 | .agg _=>.any
 | .bh _=>.any
 | .fn f []=>.fn f []
 | .fn _ _=>.any
 | .any=>.any
 | v=>f v
def Ch.cD(φ:Ch):IV->DV->DV
 | .rp cs,d=>cond (cs.all sA) d .any
 | .agg _,_=>.any
 | .bh _,_=>.any
 | .fn _ [],d=>d
 | .fn _ _,_=>.any
 | .any,_=>.any
 | v,d=>φ.g v d
def NK(f:IV->IV):IV->IV
 | .agg cs=>.agg (cs.map (tE f))
 | .rp cs=>.rp (cs.map (tE f))
 | .fn g cs=>.fn g (cs.map (tE f))
 | v=>tE f v
def Ch.aD(φ:Ch):IV->DV->DV
 | .agg cs,.agg ds=>.agg (List.zipWith φ.cD cs ds)
 | .rp cs,.rp ds=>.rp (List.zipWith φ.cD cs ds)
 | .fn _ cs,.fn f ds=>.fn f (List.zipWith φ.cD cs ds)
 | v,d=>φ.cD v d
def OM(f:IV->IV):IV->IV
 | .bh vs=>.bh (vs.map (NK f))
 | v=>NK f v
def Ch.vD(φ:Ch):IV->DV->DV
 | .bh vs,.bh ds=>.bh (List.zipWith φ.aD vs ds)
 | v,d=>φ.aD v d
def qD(f:IV->IV):List (Nat×IV)->List (Nat×IV)
 | []=>[]
 | (a,v)::r=>(a,OM f v)::qD f r
def mY(f:IV->IV):Option cS->Option cS
 | some (.box g cs)=>some (.box g (cs.map (tE f)))
 | c=>c
def Ch.kD(φ:Ch):cS->Ck->Ck
 | .box _ cs,ck=>⟨ck.gen,ck.sz,ck.xs.map fun ds=>List.zipWith φ.cD cs ds⟩
 | _,ck=>ck
def uD(f:IV->IV):IH->IH
 | []=>[]
 | c::r=>mY f c::uD f r
theorem Ch.X0(φ:Ch):∀(T:List (Nat×IV)) (t:Nat),dy ((qD φ.f) T) t=(OM φ.f) (dy T t)
 | [],t=>rfl
 | (a,v)::r,t=>by
  simp only[qD,dy];cases Nat.beq a t with
  | true=>rfl
  | false=>exact Ch.X0 φ r t
theorem Ch.TM(φ:Ch):∀(HI:IH) (j:Nat),aK ((uD φ.f) HI) j=(mY φ.f) (aK HI j)
 | [],j=>rfl
 | c::r,0=>rfl
 | c::r,j+1=>Ch.TM φ r j
theorem Ch.Hx(φ:Ch):∀(HI:IH),((uD φ.f) HI).length=HI.length
 | []=>rfl
 | c::r=>by simp[uD,Ch.Hx φ r]
section ch
variable {s:St} {H':Hp} {π:Nat->Nat} {nx':Nat} {φ:Ch}
def uJ(φ:Ch)(s:St)(H':Hp)(π:Nat->Nat)(nx':Nat):Prop:=∀v d,Rel s.H s.nx v d->(∀cs,v≠.rp cs)->(∀cs,v≠.agg cs)->(∀cs,v≠.bh cs)->(∀f cs,v≠.fn f cs)->v≠.any->Rel H' nx' (φ.f v) (φ.g v d)/\Tr s H' π nx' d (φ.g v d)
theorem Ch.lu(hs:Shape s H' π nx')(h:uJ φ s H' π nx'){v:IV}{d:DV}(hr:Rel s.H s.nx v d):Rel H' nx' ((tE φ.f) v) (φ.cD v d)/\Tr s H' π nx' d (φ.cD v d):=by
 have any:Rel H' nx' .any .any/\Tr s H' π nx' d .any:=⟨.any _,fun ps M w x _ _=>.any x⟩;cases v with
 | rp cs=>
  obtain⟨ds,rfl,hds⟩:=hr.uB;simp only[tE,Ch.cD];cases hb:cs.all sA with
  | true=>
   obtain⟨k1,k2⟩:=NJ hb hds;exact⟨Rel.qE k1,Tr.flat hs (.rp _ k2)⟩
  | false=>exact⟨.any _,fun ps M w x _ _=>.any x⟩
 | agg cs=>exact any
 | bh cs=>exact any
 | any=>exact any
 | fn f cs=>
  cases cs with
  | nil=>
   obtain⟨ds,rfl,hds⟩:=hr.jQ;have:=hds.dY;subst this;exact⟨.fn _ _ _ rfl (fun j h=>by cases h),Tr.flat hs (.fn _ _ (fun c hc=>by cases hc))⟩
  | cons=>exact any
 | int k n=>exact h _ _ hr (by simp) (by simp) (by simp) (by simp) (by simp)
 | bool b=>exact h _ _ hr (by simp) (by simp) (by simp) (by simp) (by simp)
 | str b=>exact h _ _ hr (by simp) (by simp) (by simp) (by simp) (by simp)
 | nil=>exact h _ _ hr (by simp) (by simp) (by simp) (by simp) (by simp)
 | ab f t as=>exact h _ _ hr (by simp) (by simp) (by simp) (by simp) (by simp)
 | raw x=>exact h _ _ hr (by simp) (by simp) (by simp) (by simp) (by simp)
 | nn=>exact h _ _ hr (by simp) (by simp) (by simp) (by simp) (by simp)
 | ptr o i f=>exact h _ _ hr (by simp) (by simp) (by simp) (by simp) (by simp)
 | whole o=>exact h _ _ hr (by simp) (by simp) (by simp) (by simp) (by simp)
 | part o l n=>exact h _ _ hr (by simp) (by simp) (by simp) (by simp) (by simp)
theorem Ch.BV(hs:Shape s H' π nx')(h:uJ φ s H' π nx'){cs:List IV}{ds:List DV}(hr:bR s.H s.nx cs ds):bR H' nx' (cs.map (tE φ.f)) (List.zipWith φ.cD cs ds)/\ds.length=(List.zipWith φ.cD cs ds).length/\∀j (h1:j<ds.length) (h2:j<(List.zipWith φ.cD cs ds).length),Tr s H' π nx' ds[j] (List.zipWith φ.cD cs ds)[j]:=by
 have e:=hr.1;refine⟨⟨by simp[e],fun j h1 h2=>?_⟩,by simp[e],fun j h1 h2=>?_⟩
 ·simp only[List.getElem_map,List.getElem_zipWith];exact(Ch.lu hs h (hr.2 j _ _)).1
 ·simp only[List.getElem_zipWith];exact(Ch.lu hs h (hr.2 j (by omega) h1)).2
theorem VR.ajq{ps:Ps}{M:Nat->Prop}{w:World}{ds es:List DV}{x:Value}(hl:ds.length=es.length)(h:∀j (h1:j<ds.length) (h2:j<es.length),Tr s H' π nx' ds[j] es[j])(hr:HR s.H ps M s.nx w)(hv:VR s.H ps M s.nx w (.agg ds) x):VR H' (fun j=>ps (π j)) M nx' w (.agg es) x:=by
 obtain⟨vs,rfl,h1,h2,h3⟩:=hv.fj;exact .agg es vs (by omega) (fun j hj=>h2 j (by omega)) fun j hj=>h j (by omega) hj ps M w _ hr (h3 j (by omega))
theorem Ch.kj(hs:Shape s H' π nx')(h:uJ φ s H' π nx'){v:IV}{d:DV}(hr:Rel s.H s.nx v d):Rel H' nx' ((NK φ.f) v) (φ.aD v d)/\Tr s H' π nx' d (φ.aD v d):=by
 cases v with
 | agg cs=>
  obtain⟨ds,rfl,hds⟩:=hr.fj;obtain⟨q1,q2,q3⟩:=Ch.BV hs h hds;exact⟨Rel.lO q1,fun ps M w x hR hv=>VR.ajq q2 q3 hR hv⟩
 | rp cs=>
  obtain⟨ds,rfl,hds⟩:=hr.uB;obtain⟨q1,q2,q3⟩:=Ch.BV hs h hds;refine⟨Rel.qE q1,fun ps M w x hR hv=>?_⟩;cases hv with
  | rp _ b off vs hM h1 hc hv=>
   refine .rp _ b off vs (fun hne hmu=>?_) (fun j hj=>h1 j (by rw[q2];exact hj)) (fun j hj=>hc j (by rw[q2];exact hj)) fun j hj=>q3 j (by rw[q2];exact hj) hj ps M w _ hR (hv j (by rw[q2];exact hj));exact hM (fun e=>hne (by rw[e];simp)) (hs.mu hmu)
 | fn f cs=>
  obtain⟨ds,rfl,hds⟩:=hr.jQ;obtain⟨q1,q2,q3⟩:=Ch.BV hs h hds;refine⟨Rel.ye q1,fun ps M w x hR hv=>?_⟩;obtain⟨vs,rfl,h1,h2⟩:=hv.jQ;exact .fn _ _ vs (by omega) fun j hj=>q3 j (by omega) hj ps M w _ hR (h2 j (by omega))
 | bh cs=>exact Ch.lu hs h hr
 | int k n=>exact Ch.lu hs h hr
 | bool b=>exact Ch.lu hs h hr
 | str b=>exact Ch.lu hs h hr
 | nil=>exact Ch.lu hs h hr
 | ab f t as=>exact Ch.lu hs h hr
 | raw x=>exact Ch.lu hs h hr
 | nn=>exact Ch.lu hs h hr
 | any=>exact Ch.lu hs h hr
 | ptr o i f=>exact Ch.lu hs h hr
 | whole o=>exact Ch.lu hs h hr
 | part o l n=>exact Ch.lu hs h hr
theorem Ch.Sk(hs:Shape s H' π nx')(h:uJ φ s H' π nx'){v:IV}{d:DV}(hr:Rel s.H s.nx v d):Rel H' nx' ((OM φ.f) v) (φ.vD v d)/\Tr s H' π nx' d (φ.vD v d):=by
 cases v with
 | bh cs=>
  obtain⟨ds,rfl,hds⟩:=hr.kG;have e:=hds.1;refine⟨Rel.wR ⟨by simp[e],fun j h1 h2=>?_⟩,fun ps M w x hR hv=>?_⟩
  ·simp only[List.getElem_map,List.getElem_zipWith];exact(Ch.kj hs h (hds.2 j _ _)).1
  ·obtain⟨vs,rfl,h1,h2⟩:=hv.kG;refine .bh _ vs (by simp[e];omega) fun j hj=>?_;have hj2:j<ds.length:=by simp at hj;omega
   simp only[List.getElem_zipWith];exact(Ch.kj hs h (hds.2 j (by omega) hj2)).2 ps M w _ hR (h2 j hj2)
 | agg cs=>exact Ch.kj hs h hr
 | rp cs=>exact Ch.kj hs h hr
 | fn f cs=>exact Ch.kj hs h hr
 | int k n=>exact Ch.kj hs h hr
 | bool b=>exact Ch.kj hs h hr
 | str b=>exact Ch.kj hs h hr
 | nil=>exact Ch.kj hs h hr
 | ab f t as=>exact Ch.kj hs h hr
 | raw x=>exact Ch.kj hs h hr
 | nn=>exact Ch.kj hs h hr
 | any=>exact Ch.kj hs h hr
 | ptr o i f=>exact Ch.kj hs h hr
 | whole o=>exact Ch.kj hs h hr
 | part o l n=>exact Ch.kj hs h hr
def Ch.hp(φ:Ch)(HI:IH)(H:Hp)(π:Nat->Nat)(nx':Nat)(on:Nat->Bool):Hp:=fun j=>match on j,aK HI (π j),H (π j) with
 | true,some c,some ck=>if j<nx' then some (φ.kD c ck) else none
 | _,_,_=>none
theorem Ch.Gg{φ:Ch}{HI:IH}{H:Hp}{π:Nat->Nat}{nx':Nat}{on:Nat->Bool}{j:Nat}{ck':Ck}(h:φ.hp HI H π nx' on j=some ck'):on j=true/\j<nx'/\∃c ck,aK HI (π j)=some c/\H (π j)=some ck/\ck'=φ.kD c ck:=by
 unfold Ch.hp at h;split at h
 ·rename_i c ck h0 h1 h2;split at h
  ·rename_i hlt;injection h with h;exact⟨h0,hlt,c,ck,h1,h2,h.symm⟩
  ·cases h
 ·cases h
theorem Ch.aqb(φ:Ch)(c:cS)(ck:Ck):(φ.kD c ck).gen=ck.gen/\(φ.kD c ck).sz=ck.sz/\(φ.kD c ck).xs.length=ck.xs.length:=by
 cases c<;>simp[Ch.kD]
theorem Ch.FF{HI:IH}{on:Nat->Bool}:Shape s (φ.hp HI s.H π nx' on) π nx':=⟨fun j ck' hj=>by
 obtain⟨_,hlt,c,ck,h1,h2,rfl⟩:=Ch.Gg hj;obtain⟨a,b,d⟩:=φ.aqb c ck;exact⟨hlt,ck,h2,a,b,d⟩⟩
theorem Ch.done{T:List (Nat×IV)}{HI HI':IH}{on:Nat->Bool}{cx:Cx}(hs:SR ⟨T,HI⟩ s)(eu:uJ φ s (φ.hp HI s.H π nx' on) π nx')(hinj:∀j j',on j=true->on j'=true->j<nx'->j'<nx'->π j=π j'->j=j')(hnb:cx.nb<=nx'/\∀o,o<cx.nb->π o=o)
  (hl:HI'.length=nx') (hH:∀j c',aK HI' j=some c'->on j=true/\∃c,aK HI (π j)=some c/\(mY φ.f) (some c)=some c'):
  ∃s',Wk cx s s'/\SR ⟨(qD φ.f) T,HI'⟩ s':=by
 have sh:Shape s (φ.hp HI s.H π nx' on) π nx':=Ch.FF;refine⟨⟨fun t=>φ.vD (dy T t) (s.T t),φ.hp HI s.H π nx' on,nx'⟩,Wk.tr ⟨sh,?_,?_,hnb⟩ (fun t=>(Ch.Sk sh eu (hs.t t)).2),⟨fun t=>?_,fun j c' hj=>?_,hl⟩⟩
 ·intro j ck' ck hj hc i h1 h2;obtain⟨_,_,c,ck0,k1,k2,rfl⟩:=Ch.Gg hj;rw[hc] at k2;injection k2 with k2;subst k2
  obtain⟨_,ck1,q1,q2⟩:=hs.h.at k1;rw[hc] at q1;injection q1 with q1;subst q1
  cases c with
  | box gb cs=>
   obtain⟨e1,ds,e2,e3,e4⟩:=q2;simp only[Ch.kD,e2] at h1 h2 ⊢;have:i=0:=by simpa using h2
   subst this;obtain⟨r1,r2,r3⟩:=Ch.BV sh eu e3;simp only[List.getElem_map,List.getElem_cons_zero];exact⟨r2.symm,fun c h3 h4=>r3 c h4 h3⟩
  | arr t as=>
   refine⟨rfl,fun c h3 h4=>?_⟩;have:=q2.2.2 i (by rw[q2.2.1];exact h2) h2;exact Tr.flat sh (cA.ids _ _ _ this _ (List.getElem_mem _))
  | hF t as=>
   refine⟨rfl,fun c h3 h4=>?_⟩;have:=q2.2.1.2 i (by rw[q2.2.1.1];exact h2) h2;exact Tr.flat sh (cA.ids _ _ _ this _ (List.getElem_mem _))
  | wait=>
   obtain⟨sz,rfl⟩:=q2;simp at h2
 ·intro j j' ck ck' h1 h2 h3;exact hinj j j' (Ch.Gg h1).1 (Ch.Gg h2).1 (sh.hp j ck h1).1 (sh.hp j' ck' h2).1 h3
 ·rw[Ch.X0];exact(Ch.Sk sh eu (hs.t t)).1
 ·obtain⟨hon,c,k1,k2⟩:=hH j c' hj;have hlt:j<nx':=by rw[<-hl];exact sV _ _ _ hj
  obtain⟨_,ck,q1,q2⟩:=hs.h.at k1;refine⟨hlt,φ.kD c ck,by simp only[Ch.hp,hon,k1,q1,if_pos hlt],?_⟩;cases c with
  | box gb cs=>
   simp only[mY,Option.some.injEq] at k2;subst k2;obtain⟨e1,ds,e2,e3,e4⟩:=q2;obtain⟨r1,r2,r3⟩:=Ch.BV sh eu e3;exact⟨by simp[Ch.kD,e1],_,by simp only[Ch.kD,e2,List.map_cons,List.map_nil],r1,e4⟩
  | arr t as=>simp only[mY,Option.some.injEq] at k2;subst k2;exact q2
  | hF t as=>simp only[mY,Option.some.injEq] at k2;subst k2;exact q2
  | wait=>simp only[mY,Option.some.injEq] at k2;subst k2;exact q2
end ch
def idx(o:Nat):List Nat->Option Nat
 | []=>none
 | a::r=>match Nat.beq a o with
  | true=>some 0
  | false=>match idx o r with
   | some j=>some (j+1)
   | none=>none
theorem KB{o:Nat}:∀{ids:List Nat} {j:Nat},idx o ids=some j->ids[j]? =some o
 | [],j,h=>by cases h
 | a::r,j,h=>by
  simp only[idx] at h;split at h
  ·rename_i hb;cases h;rw[Nat.eq_of_beq_eq_true hb];rfl
  ·split at h
   ·rename_i j' hj;cases h;simpa using KB hj
   ·cases h
def nX(m:Nat->Option Nat):IV->IV
 | .ptr o i f=>match m o with
  | some j=>.ptr j i f
  | none=>.any
 | .whole o=>match m o with
  | some j=>.whole j
  | none=>.any
 | .part o l n=>match m o with
  | some j=>.part j l n
  | none=>.any
 | v=>v
def Hy(m:Nat->Option Nat):IV->DV->DV
 | .ptr o _ _,.ptr _ g i f=>match m o with
  | some j=>.ptr j g i f
  | none=>.any
 | .whole o,.own _ g l n=>match m o with
  | some j=>.own j g l n
  | none=>.any
 | .part o _ _,.own _ g l n=>match m o with
  | some j=>.own j g l n
  | none=>.any
 | _,d=>d
def wy(m:Nat->Option Nat):Ch:=⟨nX m,Hy m⟩
def HV(ids:List Nat):IV->IV:=nX fun o=>idx o ids
theorem Vr{s:St}{H':Hp}{π:Nat->Nat}{nx':Nat}{m:Nat->Option Nat}(sh:Shape s H' π nx')(hπ:∀o j,m o=some j->π j=o/\j<nx'):uJ (wy m) s H' π nx':=by
 intro v d hr n1 n2 n3 n4 n5;have any:∀d,Rel H' nx' .any .any/\Tr s H' π nx' d .any:=fun d=>⟨.any _,fun ps M w x _ _=>.any x⟩;have own:∀(o j g lo n:Nat),π j=o->j<nx'->Tr s H' π nx' (.own o g lo n) (.own j g lo n):=by
  intro o j g lo n hj hlt ps M w x hR hv;cases hv with
  | own _ _ _ _ _ h0 h1 hh=>
   refine .own _ _ _ _ _ hlt h1 fun ck' hk=>?_;obtain⟨_,ck,k1,k2,k3,k4⟩:=sh.hp j ck' hk;rw[hj] at k1;obtain⟨q1,q2⟩:=hh ck k1;refine⟨by omega,fun e=>?_⟩;obtain⟨r1,a,cap,r2,r3,r4⟩:=q2 (by omega);exact⟨by omega,a,cap,r2,r3,by
    rcases r4 with r4 | ⟨p,p1,p2,p3⟩
    ·exact .inl r4
    ·exact .inr ⟨p,by show ps (π j)=_;rw[hj];exact p1,by rw[k3];exact p2,by rw[k3];exact p3⟩⟩
 cases hr with
 | ptr o g i off ho h=>
  simp only[wy,nX,Hy];cases hi:m o with
  | none=>exact any _
  | some j=>
   obtain⟨hj,hlt⟩:=hπ o j hi;refine⟨.ptr _ _ _ _ hlt fun ck' hk=>?_,fun ps M w x hR hv=>?_⟩
   ·obtain⟨_,ck,k1,k2,k3,k4⟩:=sh.hp j ck' hk;rw[hj] at k1;have:=h ck k1;exact⟨by omega,by omega⟩
   ·cases hv with
    | ptr _ _ _ _ _ h0 h1 hh=>
     refine .ptr _ _ _ _ _ hlt h1 fun ck' hk=>?_;obtain⟨_,ck,k1,k2,k3,k4⟩:=sh.hp j ck' hk;rw[hj] at k1;obtain⟨q1,q2⟩:=hh ck k1;refine⟨by omega,fun e=>?_⟩;obtain⟨r1,p,r2,r3⟩:=q2 (by omega);exact⟨by omega,p,by show ps (π j)=_;rw[hj];exact r2,by rw[k3];exact r3⟩
 | whole o g n ho h=>
  simp only[wy,nX,Hy];cases hi:m o with
  | none=>exact any _
  | some j=>
   obtain⟨hj,hlt⟩:=hπ o j hi;refine⟨.whole _ _ _ hlt fun ck' hk=>?_,own o j g 0 n hj hlt⟩;obtain⟨_,ck,k1,k2,k3,k4⟩:=sh.hp j ck' hk;rw[hj] at k1;have:=h ck k1;exact⟨by omega,by omega⟩
 | part o g lo n ho h=>
  simp only[wy,nX,Hy];cases hi:m o with
  | none=>exact any _
  | some j=>
   obtain⟨hj,hlt⟩:=hπ o j hi;refine⟨.part _ _ _ _ hlt fun ck' hk=>?_,own o j g lo n hj hlt⟩;obtain⟨_,ck,k1,k2,k3,k4⟩:=sh.hp j ck' hk;rw[hj] at k1;have:=h ck k1;exact⟨by omega,by omega⟩
 | int k n=>exact⟨.int _ _,Tr.flat sh (.v _)⟩
 | bool b=>exact⟨.bool _,Tr.flat sh (.v _)⟩
 | str b=>exact⟨.str _,Tr.flat sh (.v _)⟩
 | raw x=>exact⟨.raw _,Tr.flat sh (.v _)⟩
 | nn=>exact⟨.nn,Tr.flat sh .nn⟩
 | nil=>exact⟨.nil,Tr.flat sh (.ab _ _ fun x hx=>by cases hx)⟩
 | ab f f' t as xs hf h=>
  refine⟨.ab _ _ _ _ _ hf h,Tr.flat sh (.ab _ _ fun x hx c hc=>?_)⟩;obtain⟨j,hj,rfl⟩:=List.mem_iff_getElem.1 hx;exact cA.ids t _ _ (h.2 j (by rw[h.1];exact hj) hj) c hc
 | any=>exact absurd rfl n5
 | rp cs=>exact absurd rfl (n1 cs)
 | agg cs=>exact absurd rfl (n2 cs)
 | bh cs=>exact absurd rfl (n3 cs)
 | fn f cs=>exact absurd rfl (n4 f cs)
def oX:IV->List Nat
 | .ptr o _ _=>[o]
 | .whole o=>[o]
 | .part o _ _=>[o]
 | _=>[]
def Vh:IV->List Nat
 | .agg cs=>cs.flatMap oX
 | .rp cs=>cs.flatMap oX
 | .fn _ cs=>cs.flatMap oX
 | v=>oX v
def VQ:IV->List Nat
 | .bh vs=>vs.flatMap Vh
 | v=>Vh v
def AY:List (Nat×IV)->List Nat
 | []=>[]
 | (_,v)::r=>VQ v++AY r
def lU(o:Nat):List Nat->Bool
 | []=>false
 | a::r=>cond (Nat.beq a o) true (lU o r)
def tI(H:IH):Nat->List Nat->List Nat->List Nat
 | 0,_,acc=>acc
 | _+1,[],acc=>acc
 | n+1,o::todo,acc=>cond (lU o acc) (tI H n todo acc) (match aK H o with
  | some (.box _ cs)=>tI H n (todo++cs.flatMap oX) (acc++[o])
  | some _=>tI H n todo (acc++[o])
  | none=>tI H n todo acc)
def upto:Nat->List Nat
 | 0=>[]
 | n+1=>upto n++[n]
def nQ:List Nat->Bool
 | []=>true
 | a::r=> !(lU a r) && nQ r
def uk:List Nat->List Nat->Bool
 | [],_=>true
 | a::r,b::q=>Nat.beq a b && uk r q
 | _,_=>false
theorem Oz{o:Nat}:∀{l:List Nat},o∈l->lU o l=true
 | a::r,h=>by
  simp only[lU];cases hb:Nat.beq a o with
  | true=>rfl
  | false=>
   rcases List.mem_cons.1 h with rfl | h
   ·rw[Nat.beq_refl] at hb;cases hb
   ·exact Oz h
theorem sr:∀{l:List Nat},nQ l=true->∀(i j o:Nat),l[i]? =some o->l[j]? =some o->i=j
 | a::r,h,0,0,o,h1,h2=>rfl
 | a::r,h,0,j+1,o,h1,h2=>by
  simp only[nQ,Bool.and_eq_true,Bool.not_eq_true'] at h;simp only[List.getElem?_cons_zero] at h1;cases h1;simp only[List.getElem?_cons_succ] at h2;rw[Oz (List.mem_of_getElem? h2)] at h;cases h.1
 | a::r,h,i+1,0,o,h1,h2=>by
  simp only[nQ,Bool.and_eq_true,Bool.not_eq_true'] at h;simp only[List.getElem?_cons_zero] at h2;cases h2;simp only[List.getElem?_cons_succ] at h1;rw[Oz (List.mem_of_getElem? h1)] at h;cases h.1
 | a::r,h,i+1,j+1,o,h1,h2=>by
  simp only[nQ,Bool.and_eq_true] at h;rw[sr h.2 i j o (by simpa using h1) (by simpa using h2)]
theorem OR:∀{l m:List Nat},uk l m=true->∀(i o:Nat),l[i]? =some o->m[i]? =some o
 | [],m,_,i,o,h=>by simp at h
 | a::r,b::q,h,0,o,h1=>by
  simp only[uk,Bool.and_eq_true] at h;simp only[List.getElem?_cons_zero] at h1 ⊢;rw[<-Nat.eq_of_beq_eq_true h.1];exact h1
 | a::r,b::q,h,i+1,o,h1=>by
  simp only[uk,Bool.and_eq_true] at h;simp only[List.getElem?_cons_succ] at h1 ⊢;exact OR h.2 i o h1
 | a::r,[],h,i,o,h1=>by simp[uk] at h
theorem Xt:∀(n i:Nat),i<n->(upto n)[i]? =some i
 | n+1,i,h=>by
  simp only[upto];by_cases hi:i<n
  ·have hl:(upto n).length=n:=by clear h hi;induction n with | zero=>rfl | succ n ih=>simp[upto,ih]
   rw[List.getElem?_append_left (by omega)];exact Xt n i hi
  ·have:i=n:=by omega
   subst this;have hl:(upto i).length=i:=by clear h hi;induction i with | zero=>rfl | succ n ih=>simp[upto,ih]
   rw[List.getElem?_append_right (by omega)];simp[hl]
def oh(f:IV->IV)(H:IH):List Nat->IH
 | []=>[]
 | o::r=>mY f (aK H o)::oh f H r
theorem N9(f:IV->IV)(H:IH):∀(ids:List Nat) (j:Nat),aK (oh f H ids) j=match ids[j]? with | some o=>mY f (aK H o) | none=>none
 | [],j=>by simp[oh,aK]
 | o::r,0=>by simp[oh,aK]
 | o::r,j+1=>by simp[oh,aK,N9 f H r j]
theorem BN(f:IV->IV)(H:IH):∀(ids:List Nat),(oh f H ids).length=ids.length
 | []=>rfl
 | o::r=>by simp[oh,BN f H r]
def Od(nb:Nat)(s:SI):Option SI:=
 let ids:=tI s.H 200 (upto nb++AY s.T) []
 match nQ ids && uk (upto nb) ids with
 | true=>some ⟨qD (HV ids) s.T,oh (HV ids) s.H ids⟩
 | false=>none
theorem Yq{cx:Cx}{si si':SI}{s:St}(hs:SR si s)(h:Od cx.nb si=some si'):∃s',Wk cx s s'/\SR si' s'/\cx.nb<=s'.nx:=by
 unfold Od at h;simp only at h;generalize tI si.H 200 (upto cx.nb++AY si.T) []=ids at h;split at h
 ·rename_i hb;rw[Bool.and_eq_true] at hb;obtain⟨h1,h2⟩:=hb;injection h with h;subst h
  have hnb:∀o,o<cx.nb->ids[o]? =some o:=fun o ho=>OR h2 o o (Xt _ _ ho);let π:Nat->Nat:=fun j=>(ids[j]?).getD j
  have hπ:∀j o,ids[j]? =some o->π j=o/\j<ids.length:=fun j o hj=>⟨by simp[π,hj],(List.getElem?_eq_some_iff.1 hj).1⟩;have hlen:cx.nb<=ids.length:=by
   rcases Nat.eq_zero_or_pos cx.nb with h0 | h0
   ·omega
   ·have:=(List.getElem?_eq_some_iff.1 (hnb (cx.nb-1) (by omega))).1;omega
  suffices hh:∃s',Wk cx s s'/\SR ⟨qD (HV ids) si.T,oh (HV ids) si.H ids⟩ s' by
   obtain⟨s',w,q⟩:=hh;exact⟨s',w,q,by have:=q.n;simp only[BN] at this;omega⟩
  refine Ch.done (φ:=wy fun o=>idx o ids) (π:=π) (on:=fun _=>true) hs (Vr Ch.FF fun o j hi=>hπ j o (KB hi)) ?_ ⟨hlen,fun o ho=>by simp[π,hnb o ho]⟩ (BN _ _ _) ?_
  ·intro j j' _ _ hj hj' e;have e1:=List.getElem?_eq_getElem hj;have e2:=List.getElem?_eq_getElem hj';simp only[π,e1,e2,Option.getD_some] at e;exact sr h1 j j' _ e1 (by rw[e2,e])
  ·intro j c' hj;rw[N9] at hj;split at hj
   ·rename_i o ho;have hp:π j=o:=by simp[π,ho]
    cases hg:aK si.H o with
    | none=>rw[hg] at hj;cases hj
    | some c=>rw[hg] at hj;exact⟨rfl,c,by rw[hp];exact hg,hj⟩
   ·cases hj
 ·cases h
theorem Li{o:Nat}:∀{l:List Nat},lU o l=true->o∈l
 | a::r,h=>by
  simp only[lU] at h;cases hb:Nat.beq a o with
  | true=>rw[Nat.eq_of_beq_eq_true hb];simp
  | false=>rw[hb] at h;exact List.mem_cons_of_mem _ (Li h)
def rB(nb:Nat)(bs rest:List Nat)(o:Nat):Option Nat:=match lU o bs with
 | true=>some o
 | false=>match idx o rest with
  | some j=>some (nb+j)
  | none=>none
def uE(f:IV->IV)(H:IH)(bs:List Nat):Nat->IH
 | 0=>[]
 | n+1=>uE f H bs n++[match lU n bs with | true=>mY f (aK H n) | false=>none]
def Sd(H:IH)(b:Nat):List Nat:=match aK H b with
 | some (.box _ cs)=>cs.flatMap oX
 | _=>[]
def Ee(nb:Nat):List Nat->Bool
 | []=>true
 | a::r=>Nat.ble (a+1) nb && Ee nb r
def QI(H:IH)(o:Nat):Bool:=match aK H o with
 | some (.arr _ _)=>true
 | _=>false
def XW(H:IH)(bs l:List Nat):List Nat:=bs++((l.filter (QI H))++(l.filter fun o=> !QI H o))
def M3(nb:Nat)(bs:List Nat)(s:SI):Option SI:=
 let ids:=XW s.H bs ((tI s.H 200 (bs++(bs.flatMap (Sd s.H)++AY s.T)) []).drop bs.length)
 let rest:=ids.drop bs.length
 match nQ ids && (uk bs ids && Ee nb bs) with
 | true=>some ⟨qD (nX (rB nb bs rest)) s.T,uE (nX (rB nb bs rest)) s.H bs nb++oh (nX (rB nb bs rest)) s.H rest⟩
 | false=>none
theorem Wc{nb o:Nat}:∀{l:List Nat},Ee nb l=true->o∈l->o<nb
 | a::r,h,hm=>by
  simp only[Ee,Bool.and_eq_true] at h;rcases List.mem_cons.1 hm with rfl | hm
  ·exact Nat.le_of_ble_eq_true h.1
  ·exact Wc h.2 hm
theorem ot:∀(A B:IH) (o:Nat),aK (A++B) o=if o<A.length then aK A o else aK B (o-A.length)
 | [],B,o=>by simp
 | c::r,B,0=>by simp[aK]
 | c::r,B,o+1=>by simp[aK,ot r B o]
theorem zD(f:IV->IV)(H:IH)(bs:List Nat):∀n,(uE f H bs n).length=n
 | 0=>rfl
 | n+1=>by simp[uE,zD f H bs n]
theorem WN(f:IV->IV)(H:IH)(bs:List Nat):∀(n j:Nat),j<n->aK (uE f H bs n) j=match lU j bs with | true=>mY f (aK H j) | false=>none
 | n+1,j,h=>by
  simp only[uE];rw[ot,zD];by_cases e:j<n
  ·rw[if_pos e];exact WN f H bs n j e
  ·have:j=n:=by omega
   subst this;rw[if_neg e,Nat.sub_self];rfl
theorem amb{cx:Cx}{bs:List Nat}{si si':SI}{s:St}(hs:SR si s)(h:M3 cx.nb bs si=some si'):∃s',Wk cx s s'/\SR si' s'/\cx.nb<=s'.nx:=by
 unfold M3 at h;simp only at h;generalize XW si.H bs ((tI si.H 200 (bs++(bs.flatMap (Sd si.H)++AY si.T)) []).drop bs.length)=ids at h;split at h
 ·rename_i hb;rw[Bool.and_eq_true,Bool.and_eq_true] at hb;obtain⟨h1,h2,h3⟩:=hb;cases h;generalize hrest:ids.drop bs.length=rest;have rget:∀j o,rest[j]? =some o->ids[bs.length+j]? =some o:=fun j o hj=>by rw[<-hrest,List.getElem?_drop] at hj;exact hj
  let π:Nat->Nat:=fun j=>if j<cx.nb then j else(rest[j-cx.nb]?).getD j
  let on:Nat->Bool:=fun j=>lU j bs || Nat.ble cx.nb j
  have πlt:∀j,j<cx.nb->π j=j:=fun j hj=>by simp only[π,if_pos hj]
  have πge:∀j o,cx.nb<=j->rest[j-cx.nb]? =some o->π j=o:=fun j o hj ho=>by simp only[π,if_neg (Nat.not_lt.2 hj),ho,Option.getD_some]
  have hπ:∀o j,rB cx.nb bs rest o=some j->π j=o/\j<cx.nb+rest.length:=fun o j hj=>by
   unfold rB at hj;split at hj
   ·rename_i hm;cases hj;have:=Wc h3 (Li hm);exact⟨πlt _ this,by omega⟩
   ·split at hj
    ·rename_i k hk;injection hj with hj;subst hj
     have hr:=KB hk;refine⟨πge _ _ (by omega) (by rw[Nat.add_sub_cancel_left];exact hr),?_⟩;have:=(List.getElem?_eq_some_iff.1 hr).1;omega
    ·cases hj
  suffices hh:∃s',Wk cx s s'/\SR ⟨qD (nX (rB cx.nb bs rest)) si.T,uE (nX (rB cx.nb bs rest)) si.H bs cx.nb++oh (nX (rB cx.nb bs rest)) si.H rest⟩ s' by
   obtain⟨s',w,q⟩:=hh;exact⟨s',w,q,by have:=q.n;simp only[List.length_append,zD,BN] at this;omega⟩
  refine Ch.done (φ:=wy (rB cx.nb bs rest)) (π:=π) (on:=on) hs (Vr Ch.FF hπ) ?_ ⟨by omega,fun o ho=>πlt o ho⟩ (by rw[List.length_append,zD,BN]) ?_
  ·intro j j' o1 o2 hj hj' e;have bsat:∀j,lU j bs=true->∃i,i<bs.length/\ids[i]? =some j:=fun j hm=>by
    obtain⟨i,hi,he⟩:=List.mem_iff_getElem.1 (Li hm);exact⟨i,hi,OR h2 i j (by rw[List.getElem?_eq_getElem hi,he])⟩
   have reat:∀j,cx.nb<=j->j<cx.nb+rest.length->∃o,rest[j-cx.nb]? =some o/\π j=o:=fun j h1 h2=>⟨_,List.getElem?_eq_getElem (by omega),πge j _ h1 (List.getElem?_eq_getElem (by omega))⟩;have ol:∀j,on j=true->j<cx.nb->lU j bs=true:=fun j h1 h2=>by
    simp only[on,Bool.or_eq_true] at h1;rcases h1 with h1 | h1
    ·exact h1
    ·have:=Nat.le_of_ble_eq_true h1;omega
   rcases Nat.lt_or_ge j cx.nb with a | a<;>rcases Nat.lt_or_ge j' cx.nb with b | b
   ·rw[πlt j a,πlt j' b] at e;exact e
   ·obtain⟨i,hi,he⟩:=bsat j (ol j o1 a);obtain⟨o,k1,k2⟩:=reat j' b hj';rw[πlt j a,k2] at e;subst e;have:=sr h1 _ _ _ he (rget _ _ k1);omega
   ·obtain⟨i,hi,he⟩:=bsat j' (ol j' o2 b);obtain⟨o,k1,k2⟩:=reat j a hj;rw[πlt j' b,k2] at e;subst e;have:=sr h1 _ _ _ he (rget _ _ k1);omega
   ·obtain⟨o,k1,k2⟩:=reat j a hj;obtain⟨o',k3,k4⟩:=reat j' b hj';rw[k2,k4] at e;subst e;have:=sr h1 _ _ _ (rget _ _ k1) (rget _ _ k3);omega
  ·intro j c' hj;rw[ot,zD] at hj;split at hj
   ·rename_i hlt;rw[WN _ _ _ _ _ hlt] at hj;split at hj
    ·rename_i hm;rw[πlt j hlt];cases hg:aK si.H j with
     | none=>rw[hg] at hj;cases hj
     | some c=>rw[hg] at hj;exact⟨by simp only[on,hm,Bool.true_or],c,rfl,hj⟩
    ·cases hj
   ·rename_i hge;rw[N9] at hj;split at hj
    ·rename_i o ho;have hp:=πge j o (by omega) ho;cases hg:aK si.H o with
     | none=>rw[hg] at hj;cases hj
     | some c=>rw[hg] at hj;exact⟨by simp only[on,Bool.or_eq_true];exact .inr (Nat.ble_eq_true_of_le (by omega)),c,by rw[hp];exact hg,hj⟩
    ·cases hj
 ·cases h
end Go.Pv
