/- Regions of open order in which nothing is written: no pair of places needs a look. No condition of its own. -/
import Derived.Test.YtgmpjkgogjkfcaaGreatB
import Derived.Lib.ConvBytes
import Derived.Laws.BytesArg
set_option linter.all false
namespace Go.Pv
open Go.RowKit
section
variable {P:Program} {cx:Cx} {H:Hp} {ps:Ps} {nx:Nat} {w:World} {T:Nat->DV} {p:Bool} {a:Act}
theorem ahy{l:List DV}{d:DV}(h:l.head? =some d):∃h0:0<l.length,d=l[0]:=by
 cases l with
 | nil=>simp at h
 | cons x r=>simp at h;exact⟨by simp,by simp[h]⟩
theorem K1{t:TypeId}{ag:Bool}{n off:Nat}{cs:List DV}{vs:Array Value}{d:DV}(h1:iH P t=some ag)(h2:hO P t=some n)(h3:(ag || n==1)=true)(hl:vs.size=cs.length)
  (ho:∀j,j<cs.length->(vs.getD j undef).oneCell'=true) (hv:∀j (hj:j<cs.length),VR H ps cx.M nx w cs[j] (vs.getD j undef)) (hb:off+n<=cs.length)
  (h:(if ag then some (.agg ((cs.drop off).take n)) else(cs.drop off).head?)=some d):∃v,(part t vs off).run P w=.ok v w/\VR H ps cx.M nx w d v:=by
 cases ag with
 | true=>
  simp only[if_true] at h;cases h;refine⟨_,Mp h1 h2 vs off w,?_⟩;have hg:∀j,j<n->(vs.extract off (off+n)).getD j undef=vs.getD (off+j) undef:=by
   intro j hj;simp only[Array.getD_eq_getD_getElem?,Array.getElem?_extract];rw[if_pos (by omega)]
  refine .agg _ _ (by simp;omega) (fun j hj=>?_) (fun j hj=>?_)
  ·have hj':j<n:=by simp at hj;omega
   rw[hg j hj'];exact ho _ (by omega)
  ·have hj':j<n:=by simp at hj;omega
   rw[hg j hj'];have:=hv (off+j) (by omega);simpa using this
 | false=>
  have hn:n=1:=by simpa using h3
  subst hn;simp only[Bool.false_eq_true,if_false] at h;obtain⟨h0,rfl⟩:=ahy h;refine⟨_,Lw h1 vs off (by omega) w,?_⟩;have:=hv off (by omega);simpa using this
theorem adh(k:iC cx H ps nx w T p a){x:Operand}{x':RO}{d:DV}{u:Up}(h1:Pv.ro x=some x')(h:ev (.mK x') p T H nx=some (d,u))(o:Oper)(ho:o.op=.nilCheck x):
  eK P cx H ps nx w ((execOp a.eval o).run P w) d u:=by
 have hx:=k.ro h1;simp only[ev] at h;simp only[execOp,ho];split at h
 ·rename_i o' g i f hd;split at h
  ·rename_i hl;injection h with h;injection h with e1 e2;subst e1;subst e2
   rw[hd] at hx;obtain⟨ck,_,_,_,q,hq,hval⟩:=hx.Xr hl;rw[hval] at hx ⊢;exact eK.pure k.hr k.fr k.lb rfl hx
  ·cases h
 ·rename_i cs hd;injection h with h;injection h with e1 e2;subst e1;subst e2
  rw[hd] at hx;generalize a.eval x=v at hx;cases hx with
  | rp _ b off vs hM h1 hc hv=>exact eK.pure k.hr k.fr k.lb rfl (.rp _ b off vs hM h1 hc hv)
 ·rename_i f cs hd;injection h with h;injection h with e1 e2;subst e1;subst e2
  rw[hd] at hx;obtain⟨vs,hval,hl,hv⟩:=hx.jQ;rw[hval];exact eK.pure k.hr k.fr k.lb rfl (.fn _ _ _ hl hv)
 ·cases h
theorem aqt(k:iC cx H ps nx w T p a){t:TypeId}{fs:Array Field}{f:Field}{i n:Nat}{x:Operand}{x':RO}{d:DV}{u:Up}(ht:P.underlying t=some (.struct fs))(hf:fs[i]? =some f)
  (hn:hO P f.type=some n) (h0:0<n) (h1:Pv.ro x=some x') (h:ev (.bO f.offset x') p T H nx=some (d,u)):
  eK P cx H ps nx w ((do Pure.pure (Next.value (<-Instr.fieldAt t (a.eval x) i)):Sem Next).run P w) d u:=by
 have hx:=k.ro h1;have hrun:∀b off,(Instr.fieldAt t (.pointer (some ⟨b,off,none⟩)) i).run P w=.ok (.pointer (some ⟨b,off+f.offset,none⟩)) w:=by
  intro b off;have hne:¬n=0:=by omega
  simp[Instr.fieldAt,run_underlying ht,hf,Instr.sureAddr,fieldPlace,s6 hn,hne,Addr.nZ]
 simp only[ev] at h;split at h
 ·rename_i o g i' f' hd;split at h
  ·rename_i hl;injection h with h;injection h with e1 e2;subst e1;subst e2
   rw[hd] at hx;obtain⟨ck,ho,hg,hi,q,hq,hval⟩:=hx.Xr hl;rw[hval];refine k.val (hrun _ _) (.ptr _ _ _ _ _ (k.hr.lt o ck ho) rfl fun ck' hck'=>?_);rw[ho] at hck';cases hck';exact⟨by omega,fun _=>⟨hi,q,hq,by simp[Nat.add_assoc]⟩⟩
  ·cases h
 ·rename_i cs hd;injection h with h;injection h with e1 e2;subst e1;subst e2
  rw[hd] at hx;generalize a.eval x=v at hx;cases hx with
  | rp _ b off vs hM h1 hc hv=>
   refine k.val (hrun b off) (.rp _ b (off+f.offset) (fun j=>vs (f.offset+j)) (fun hne=>hM fun e=>hne (by simp[e])) (fun j hj=>h1 _ (by simp at hj;omega)) (fun j hj=>?_) (fun j hj=>?_))
   ·have:=hc (f.offset+j) (by simp at hj;omega);rwa [<-Nat.add_assoc] at this
   ·have:=hv (f.offset+j) (by simp at hj;omega);simpa using this
 ·cases h
theorem Mv.fill{P:Program}{cx:Cx}{H:Hp}{ps:Ps}{nx:Nat}{w:World}{o lo:Nat}{ck:Ck}{p:Ph}{rows:List (List DV)}{ns:List Value}
  (hr:HR H ps cx.M nx w) (fr:Fr cx.B cx.w0 w) (lb:∀o ck p,H o=some ck->ps o=some p->cx.B p.b\/cx.w0.heap.size<=p.b)
  (ho:H o=some ck) (hp:ps o=some p) (hi:lo+rows.length<=ck.xs.length) (hf:FL H ps cx.M nx w rows ck.sz ns):
  ∃w',(storeCells ⟨p.b,p.k+lo*ck.sz,none⟩ ns).run P w=.ok () w'/\Mv cx H ps nx w (H.put o (some ⟨ck.gen,ck.sz,kT ck.xs lo rows⟩)) ps nx w':=by
 have hps:ps.put o (some p)=ps:=by funext o';simp only[Ps.put];split<;>simp_all
 rcases hr.cr o ck ho with⟨q1,q2⟩ | ⟨p',c,E,vs,q1,q2,q3,q4,q5,q6,q7⟩
 ·simp[q1] at hp
 ·rw[hp] at q1;injection q1 with q1;subst q1
  have hrow:(lo+rows.length)*ck.sz<=ck.xs.length*ck.sz:=Nat.mul_le_mul_right _ hi;rw[Nat.add_mul] at hrow;have hnl:=hf.l;have hfit:p.k+lo*ck.sz+ns.length<=c.size:=by omega
  obtain⟨hst,q2'⟩:=q2.store (P:=P) (p.k+lo*ck.sz) ns hfit hf.o;refine⟨_,hst,?_⟩;have hlen:(kT ck.xs lo rows).length=ck.xs.length:=by simp[kT];omega
  have hget:∀i (h:i<(kT ck.xs lo rows).length),(∃h1:i-lo<rows.length,lo<=i/\(kT ck.xs lo rows)[i]=rows[i-lo])\/(∃h1:i<ck.xs.length,(i<lo\/lo+rows.length<=i)/\(kT ck.xs lo rows)[i]=ck.xs[i]):=fun i h=>by
   rw[hlen] at h;simp only[kT,List.getElem_append,List.length_append,List.length_take,List.getElem_take,List.getElem_drop];by_cases h1:i<lo
   ·refine .inr ⟨h,.inl h1,?_⟩;simp[show i<min lo ck.xs.length+rows.length by omega,show i<min lo ck.xs.length by omega]
   ·by_cases h2:i<lo+rows.length
    ·refine .inl ⟨by omega,by omega,?_⟩;simp[h1,h2,show min lo ck.xs.length=lo by omega]
    ·refine .inr ⟨h,.inr (by omega),?_⟩;simp[show¬i<min lo ck.xs.length+rows.length by omega,show lo+rows.length+(i-(min lo ck.xs.length+rows.length))=i by omega]
  have key:=Mv.cN o ⟨ck.gen,ck.sz,kT ck.xs lo rows⟩ (some p) nx (hr:=hr) (fr:=fr) (lb:=lb) (hn:=Nat.le_refl _) (ho:=hr.lt o ck ho)
   (hold:=.inr ⟨ck,ho,.inr ⟨rfl,rfl,by rw[hlen];exact Nat.le_refl _,hp.symm⟩⟩)
   (w':=w.setRow p.b (c.toList.take (p.k+lo*ck.sz)++ns++c.toList.drop (p.k+lo*ck.sz+ns.length)).toArray)
   (g:=⟨rfl,rfl,rfl,by simp[World.setRow],fun b hb hne=>setRow_other w p.b b _ fun e=>hne ⟨ck,p,ho,hp,e⟩⟩)
   (hb:=fun p' e=>by injection e with e;subst e;exact .inl ⟨ck,p,ho,hp,rfl⟩) (hcr:=?_)
  ·rwa [hps] at key
  ·intro kp;refine .inr ⟨p,_,E,fun i j=>if lo<=i/\i<lo+rows.length then ns.getD ((i-lo)*ck.sz+j) undef else vs i j,Ps.b9 ..,q2',?_,?_,?_,?_,?_⟩
   ·simp;omega
   ·intro i hi';rcases hget i hi' with⟨g1,_,g3⟩ | ⟨g1,_,g3⟩
    ·show(kT ck.xs lo rows)[i].length=_;rw[g3];exact hf.z _ _
    ·show(kT ck.xs lo rows)[i].length=_;rw[g3];exact q4 _ _
   ·show p.k+(kT ck.xs lo rows).length*ck.sz<=_;rw[hlen];exact q5
   ·intro i j hi' hj;have hi2:i<ck.xs.length:=by rw[<-hlen];exact hi'
    have hj:j<ck.sz:=hj;have hmul:i*ck.sz+ck.sz<=ck.xs.length*ck.sz:=by
     have:=Nat.mul_le_mul_right ck.sz (Nat.succ_le_of_lt hi2);rwa [Nat.succ_mul] at this
    dsimp only;rw[K4 c _ ns hfit];by_cases hin:lo<=i/\i<lo+rows.length
    ·obtain⟨d,rfl⟩:∃d,i=lo+d:=⟨i-lo,by omega⟩;have hd:d<rows.length:=by omega
     have hdm:d*ck.sz+ck.sz<=rows.length*ck.sz:=by
      have:=Nat.mul_le_mul_right ck.sz (Nat.succ_le_of_lt hd);rwa [Nat.succ_mul] at this
     have hb:d*ck.sz+j<ns.length:=by omega
     have e1:(lo+d)*ck.sz=lo*ck.sz+d*ck.sz:=Nat.add_mul ..;rw[if_pos hin,if_pos (by omega),Nat.add_sub_cancel_left];have e2:p.k+((lo+d)*ck.sz+j)-(p.k+lo*ck.sz)=d*ck.sz+j:=by omega
     rw[e2];refine⟨?_,?_⟩
     ·simp only[List.getD,List.getElem?_eq_getElem hb,Option.getD_some];exact hf.o _ (List.getElem_mem hb)
     ·simp only[List.getD,List.getElem?_eq_getElem hb,Option.getD_some]
    ·rw[if_neg hin];refine⟨(q6 i j hi2 hj).1,?_⟩;rw[if_neg ?_]
     ·exact(q6 i j hi2 hj).2
     ·intro hcon;apply hin;rcases Nat.lt_or_ge i lo with hlt | hge
      ·have:=Nat.mul_le_mul_right ck.sz (Nat.succ_le_of_lt hlt);rw[Nat.succ_mul] at this;omega
      ·refine⟨hge,?_⟩;rcases Nat.lt_or_ge i (lo+rows.length) with h | h
       ·exact h
       ·have:=Nat.mul_le_mul_right ck.sz h;rw[Nat.add_mul] at this;omega
   ·intro i j hi' hj';have hi2:i<(kT ck.xs lo rows).length:=hi';have hj2:j<(kT ck.xs lo rows)[i].length:=hj';show VR _ _ _ _ _ ((kT ck.xs lo rows)[i][j]) _;dsimp only;rcases hget i hi2 with⟨g1,g2,g3⟩ | ⟨g1,g2,g3⟩
    ·rw[if_pos ⟨g2,by omega⟩];have hj3:j<rows[i-lo].length:=by rw[<-g3];exact hj2
     have:=(hf.r (i-lo) j g1 hj3).mono kp;simpa only[g3] using this
    ·rw[if_neg (by omega)];have hj3:j<ck.xs[i].length:=by rw[<-g3];exact hj2
     have:=(q7 i j g1 hj3).mono kp;simpa only[g3] using this
theorem aqw(k:iC cx H ps nx w T p a){t e:TypeId}{i:TypeInfo}{z:List DV}{x y:Operand}{x' y':RO}{d:DV}{u:Up}(ht:P.underlying t=some (.slice e))(hi:P.info? e=some i)(hz:zeroOf P e=some z)(h0:0<i.size)
  (h1:Pv.ro x=some x') (h2:Pv.ro y=some y') (h:ev (.fw i.size i.bytes z x' y') p T H nx=some (d,u)):
  eK P cx H ps nx w ((do Pure.pure (Next.value (<-Instr.makeSlice t (a.eval x) (a.eval y))):Sem Next).run P w) d u:=by
 have hx:=k.ro h1;have hy:=k.ro h2;obtain⟨i',v,q1,hzv,hs,hl,hva⟩:=k.va hz;rw[hi] at q1;injection q1 with q1;subst q1
 have hzz:z=v.cells.toList.map kB:=by
  obtain⟨i',v',q1,q2,_,_,q5,_⟩:=Il hz;rw[hi] at q1;injection q1 with q1;subst q1;rw[hzv] at q2;injection q2 with q2;subst q2;exact q5
 simp only[ev] at h;split at h
 ·rename_i l c hd hdy;rw[hd] at hx;rw[hdy] at hy;split at h
  ·rename_i hc;obtain⟨c1,c2,c3,c4⟩:=hc;injection h with h;injection h with e1 e2;subst e1;subst e2
   rw[hx.e9,hy.e9];have hrun:=run_make (P:=P) w t e i v ht hi hzv .i64 .i64 l c c1 c2 (by omega) (by omega);obtain⟨ln,rfl⟩:=Int.eq_ofNat_of_zero_le c1;obtain⟨cn,rfl⟩:=Int.eq_ofNat_of_zero_le (show 0<=c by omega);simp only[Int.toNat_natCast] at hrun ⊢;have hlc:ln<=cn:=by omega
   have hrow:=Og (H:=H) (ps:=ps) (M:=cx.M) (nx:=nx) (w:=w) v i.size cn (by omega) h0 (fun j hj=>by have:=hva.o j (by rw[<-hva.l];exact hj);exact this);rw[<-hzz] at hrow;have hzl:∀c∈List.replicate cn z,c.length=i.size:=fun c hc=>by rw[List.eq_of_mem_replicate hc];omega
   have hfl:=hrow.fl hzl;have hmc:madeCells v.cells (cn*i.size)=(Array.range (cn*i.size)).map (v.cells[· % v.cells.size]!):=rfl;rw[<-hmc] at hfl;have hm:=Mv.al (cx:=cx) ⟨0,i.size,List.replicate ln z⟩ (madeCells v.cells (cn*i.size)) e (fun a b=>(madeCells v.cells (cn*i.size)).toList.getD (a*i.size+b) undef) k.hr k.fr k.lb
    (fun j hj=>by simp only[List.getElem_replicate];omega) (by simp only[List.length_replicate,size_madeCells];exact Nat.mul_le_mul_right _ hlc)
    (fun a b ha hb=>by
     simp only[List.length_replicate] at ha;have:=hfl.get (i:=a) (j:=b) (by simp;omega) hb;exact⟨this.2,by have:=this.1;simpa using this⟩)
    (fun a b ha hb=>by
     simp only[List.length_replicate] at ha;have:=hfl.r a b (by simp;omega) (by simpa using hb);simpa using this)
   refine eK.qG ⟨_,_,_,hrun,?_,hm⟩;refine .own _ _ _ _ _ (by simp[Up.nx]) ⟨_,_,rfl⟩ fun ck' hck'=>?_;simp only[Up.hp,Hp.b9,Option.some.injEq] at hck';subst hck';exact⟨Nat.le_refl _,fun _=>⟨by simp,_,_,rfl,hlc,.inr ⟨_,Ps.b9 ..,by simp,by simp[size_madeCells]⟩⟩⟩
  ·cases h
 ·cases h
end
section
variable {P:Program} {cx:Cx} {H:Hp} {ps:Ps} {nx:Nat} {w:World} {T:Nat->DV} {p:Bool} {a:Act}
theorem pb{o:Option DV}{d:DV}{u:Up}(h:o.map (·,Up.no)=some (d,u)):o=some d/\u=.no:=by
 cases o with
 | none=>cases h
 | some x=>simp at h;exact⟨by rw[h.1],h.2.symm⟩
theorem kW(k:iC cx H ps nx w T p a){s:Sem Value}{d:DV}(h:∃v,s.run P w=.ok v w/\VR H ps cx.M nx w d v):
  eK P cx H ps nx w ((do Pure.pure (Next.value (<-s)):Sem Next).run P w) d .no:=by
 obtain⟨v,h1,h2⟩:=h;exact k.val h1 h2
theorem NA(k:iC cx H ps nx w T p a){ow:Bool}{o:Oper}{r:cR}{d:DV}{u:Up}(hr:cH P ow o.op=some r)(he:ev r p T H nx=some (d,u)):
  eK P cx H ps nx w ((execOp a.eval o).run P w) d u:=by
 obtain⟨dst,op,type,pos,after,guard⟩:=o;simp only at hr;cases op with
 | move x=>
  simp only[cH] at hr;cases h1:ro x with
  | none=>simp[h1] at hr
  | some x'=>
   simp[h1] at hr;subst hr;simp only[ev,Option.some.injEq,Prod.mk.injEq] at he;obtain⟨rfl,rfl⟩:=he;exact eK.pure k.hr k.fr k.lb rfl (k.ro h1)
 | assign x=>
  simp only[cH] at hr;cases h1:ro x with
  | none=>simp[h1] at hr
  | some x'=>
   simp[h1] at hr;subst hr;simp only[ev,Option.some.injEq,Prod.mk.injEq] at he;obtain⟨rfl,rfl⟩:=he;exact eK.pure k.hr k.fr k.lb rfl (k.ro h1)
 | pick c x y=>
  simp only[cH] at hr;split at hr
  ·rename_i c' x' y' h1 h2 h3;injection hr with hr;subst hr
   simp only[ev] at he;replace he:=pb he;obtain⟨he,rfl⟩:=he;have:=are (P:=P) (cx:=cx) (H:=H) (ps:=ps) (nx:=nx) (w:=w) (a:=a) k.hp k.t h1 h2 h3 he;obtain⟨v,hv1,hv2⟩:=this;have q:=kW k (s:=(do Pure.pure (if<-asBool (a.eval c) then a.eval x else a.eval y))) ⟨v,hv1,hv2⟩;obtain⟨nv,v',w',ps',q1,q2⟩:=q;refine⟨nv,v',w',ps',?_,q2⟩;simpa[execOp] using q1
  ·cases hr
 | alloc e=>
  simp only[cH] at hr;cases h1:zeroOf P e with
  | none=>simp[h1] at hr
  | some z=>
   simp[h1] at hr;subst hr;simp only[ev,Option.some.injEq,Prod.mk.injEq] at he;obtain⟨rfl,rfl⟩:=he;exact ahn k h1
 | box e x=>
  simp only[cH] at hr;cases h1:ro x with
  | none=>simp[h1] at hr
  | some x'=>
   simp[h1] at hr;subst hr;simp only[ev] at he;cases h2:hJ (un p (x'.get T)) with
   | none=>simp[h2] at he
   | some cs=>
    simp only[h2,Option.map_some,Option.some.injEq,Prod.mk.injEq] at he;obtain⟨rfl,rfl⟩:=he;exact avh k h1 h2
 | build t parts=>
  have hr':∃z rps,r=.build z rps/\cH P false (.build t parts)=some (.build z rps):=by
   simp only[cH] at hr ⊢;split at hr
   ·split at hr
    ·rename_i places hpl;cases hb:lY (places.toArray[·]?) parts.toList with
     | none=>simp only[hb,Option.map_none] at hr;cases hr
     | some q=>simp only[hb,Option.map_some,Option.some.injEq] at hr ⊢;exact⟨_,_,hr.symm,rfl⟩
    ·cases hr
   ·split at hr
    ·rename_i ie hie;cases hb:lY (fun i=>some (i*ie.size,ie.size)) parts.toList with
     | none=>simp only[hb,Option.map_none] at hr;cases hr
     | some q=>simp only[hb,Option.map_some,Option.some.injEq] at hr ⊢;exact⟨_,_,hr.symm,rfl⟩
    ·cases hr
   ·cases hr
  obtain⟨z,rps,rfl,h0⟩:=hr';simp only[ev] at he;cases h2:kK (fun x=>un p (x.get T)) z rps with
  | none=>simp[h2] at he
  | some cs=>
   simp only[h2,Option.map_some,Option.some.injEq,Prod.mk.injEq] at he;obtain⟨rfl,rfl⟩:=he;exact aht k h0 h2
 | buildSlice t len parts=>
  simp only[cH] at hr;split at hr
  ·rename_i e hu;split at hr
   ·rename_i z n hz hn;split at hr
    ·rename_i hc;cases hs:tz parts.toList with
     | none=>simp only[hs,Option.map_none] at hr;cases hr
     | some rps=>
      simp only[hs,Option.map_some,Option.some.injEq] at hr;subst hr;simp only[ev] at he;cases h2:jE (fun x=>un p (x.get T)) n (List.replicate len z) rps with
      | none=>simp[h2] at he
      | some xs=>
       have:=ams k hu hz hn hc.1 hc.2 hs h2 ow;cases ow
       ·simp[h2] at he;obtain⟨rfl,rfl⟩:=he;simpa[execOp] using this
       ·simp[h2] at he;obtain⟨rfl,rfl⟩:=he;simpa[execOp] using this
    ·cases hr
   ·cases hr
  ·cases hr
 | load t x=>
  simp only[cH] at hr;split at hr
  ·rename_i ag n x' h1 h2 h3;split at hr
   ·rename_i hc;injection hr with hr;subst hr
    simp only[ev] at he;replace he:=pb he;obtain⟨he,rfl⟩:=he;exact kW k (RH k.hr h1 h2 hc he (k.ro h3))
   ·cases hr
  ·cases hr
 | store t x y=>
  simp only[cH] at hr;split at hr
  ·rename_i n x' y' h1 h2 h3;injection hr with hr;subst hr
   simp only[ev] at he;cases h4:nU H n (un p (x'.get T)) (un p (y'.get T)) with
   | none=>simp[h4] at he
   | some u'=>
    simp only[h4,Option.map_some,Option.some.injEq,Prod.mk.injEq] at he;obtain⟨rfl,rfl⟩:=he;exact adu k h1 h2 h3 h4
  ·cases hr
 | nilCheck x=>
  simp only[cH] at hr;cases h1:ro x with
  | none=>simp[h1] at hr
  | some x'=>
   simp[h1] at hr;subst hr;exact adh k h1 he _ rfl
 | binOp op t x y yt=>
  simp only[cH] at hr;split at hr
  ·rename_i x' y' h1 h2;split at hr
   ·rename_i fs hu;split at hr
    ·rename_i offs hf;split at hr
     ·cases hr
     ·rename_i hg;injection hr with hr;subst hr
      simp only[ev] at he;split at he
      ·rename_i cs ds e1 e2;cases h3:nw cs ds offs with
       | none=>simp[h3] at he
       | some b=>
        simp only[h3,Option.map_some,Option.some.injEq,Prod.mk.injEq] at he;obtain⟨rfl,rfl⟩:=he;have hx:=k.ro h1;have hy:=k.ro h2;rw[e1] at hx;rw[e2] at hy;exact kW k ⟨_,Q5 (neg:=false) hu hf (by simpa using hg) h3 hx hy x y,.v _⟩
      ·cases he
    ·rename_i offs hf;split at hr
     ·cases hr
     ·rename_i hg;injection hr with hr;subst hr
      simp only[ev] at he;split at he
      ·rename_i cs ds e1 e2;cases h3:nw cs ds offs with
       | none=>simp[h3] at he
       | some b=>
        simp only[h3,Option.map_some,Option.some.injEq,Prod.mk.injEq] at he;obtain⟨rfl,rfl⟩:=he;have hx:=k.ro h1;have hy:=k.ro h2;rw[e1] at hx;rw[e2] at hy;exact kW k ⟨_,Q5 (neg:=true) hu hf (by simpa using hg) h3 hx hy x y,.v _⟩
      ·cases he
    ·cases hr
   ·cases hr
   ·cases hr
   ·have hrb:r=.bin op x' y':=by
     injection hr with hr;exact hr.symm
    subst hrb;simp only[ev] at he;replace he:=pb he;obtain⟨he,rfl⟩:=he;exact kW k (akb he (k.ro h1) (k.ro h2) t x y)
  ·cases hr
 | unOp op t x=>
  simp only[cH] at hr;cases h1:ro x with
  | none=>simp[h1] at hr
  | some x'=>
   simp[h1] at hr;subst hr;simp only[ev] at he;replace he:=pb he;obtain⟨he,rfl⟩:=he;exact kW k (ak1 he (k.ro h1))
 | convert src dst x=>
  simp only[cH] at hr;split at hr
  ·rename_i k' x' ds hu h1 hds;injection hr with hr;subst hr
   simp only[ev] at he;split at he
   ·rename_i kk n hd;simp only[Option.some.injEq,Prod.mk.injEq] at he;obtain⟨rfl,rfl⟩:=he;have hx:=k.ro h1;rw[hd] at hx;refine kW k ⟨_,?_,.v _⟩;rw[hx.e9];simp[convert,run_underlying hu,run_underlying hds,Conv.intToInt]
   ·cases he
  ·cases hr
 | fieldAddr t x i=>
  simp only[cH] at hr;split at hr
  ·rename_i fs x' hu h1;split at hr
   ·rename_i f hf;split at hr
    ·rename_i n hn;split at hr
     ·rename_i h0;injection hr with hr;subst hr
      exact aqt k hu hf hn h0 h1 he
     ·cases hr
    ·cases hr
   ·cases hr
  ·cases hr
 | field t x i=>
  simp only[cH] at hr;split at hr
  ·rename_i fs x' hu h1;split at hr
   ·rename_i f hf;split at hr
    ·rename_i ag n hag hn;split at hr
     ·rename_i h0;injection hr with hr;subst hr
      simp only[ev] at he;split at he
      ·rename_i cs hd;split at he
       ·rename_i hb;have hx:=k.ro h1;rw[hd] at hx;obtain⟨vs,hval,hl,ho,hv⟩:=hx.fj;have hd':(if ag then some (.agg ((cs.drop f.offset).take n)) else(cs.drop f.offset).head?)=some d/\u=.no:=by
         cases ag
         ·simp only[Bool.false_eq_true,if_false] at he ⊢;exact pb he
         ·simp only[if_true,Option.some.injEq,Prod.mk.injEq] at he ⊢;exact⟨he.1,he.2.symm⟩
        obtain⟨hd',rfl⟩:=hd';obtain⟨v,r1,r2⟩:=K1 (P:=P) hag hn h0 hl ho hv hb hd';refine kW k ⟨v,?_,r2⟩;rw[hval];simp[Instr.field,run_underlying hu,hf,asAgg,r1]
       ·cases he
      ·cases he
     ·cases hr
    ·cases hr
   ·cases hr
  ·cases hr
 | indexAddr t x i=>
  simp only[cH] at hr;split at hr
  ·rename_i e x' i' hu h1 h2;split at hr
   ·rename_i n hn;injection hr with hr;subst hr
    exact ann k hu hn h1 h2 he
   ·cases hr
  ·cases hr
 | slice t x lo hi mx=>
  cases mx with
  | some m=>simp[cH] at hr
  | none=>
   have key:∃x' lo' hi',ro x=some x'/\(∃e n,P.underlying t=some (.slice e)/\hO P e=some n/\r=.jL n x' lo' hi')/\
     ((lo=none/\lo'=none)\/∃y y',lo=some y/\lo'=some y'/\ro y=some y')/\((hi=none/\hi'=none)\/∃y y',hi=some y/\hi'=some y'/\ro y=some y'):=by
    simp only[cH] at hr;split at hr
    ·rename_i e x' hu h1;split at hr
     ·rename_i n hn;cases lo with
      | none=>
       cases hi with
       | none=>simp only[Option.some.injEq] at hr;exact⟨x',none,none,h1,⟨e,n,hu,hn,hr.symm⟩,.inl ⟨rfl,rfl⟩,.inl ⟨rfl,rfl⟩⟩
       | some h=>
        cases h2:ro h with
        | none=>simp[h2] at hr
        | some h'=>simp[h2] at hr;exact⟨x',none,some h',h1,⟨e,n,hu,hn,hr.symm⟩,.inl ⟨rfl,rfl⟩,.inr ⟨_,_,rfl,rfl,h2⟩⟩
      | some l=>
       cases hi with
       | none=>
        cases h2:ro l with
        | none=>simp[h2] at hr
        | some l'=>simp[h2] at hr;exact⟨x',some l',none,h1,⟨e,n,hu,hn,hr.symm⟩,.inr ⟨_,_,rfl,rfl,h2⟩,.inl ⟨rfl,rfl⟩⟩
       | some h=>
        simp only at hr;cases h2:ro l with
        | none=>simp[h2] at hr
        | some l'=>
         cases h3:ro h with
         | none=>simp[h2,h3] at hr
         | some h'=>simp[h2,h3] at hr;exact⟨x',some l',some h',h1,⟨e,n,hu,hn,hr.symm⟩,.inr ⟨_,_,rfl,rfl,h2⟩,.inr ⟨_,_,rfl,rfl,h3⟩⟩
     ·cases hr
    ·cases hr
   obtain⟨x',lo',hi',h1,hor,hlo,hhi⟩:=key;have conv:∀{q:Option Operand} {q':Option RO},((q=none/\q'=none)\/∃y y',q=some y/\q'=some y'/\ro y=some y')->
     ((q'.map fun x=>un p (x.get T))=none/\(q.map a.eval)=none)\/∃x y,(q'.map fun x=>un p (x.get T))=some x/\(q.map a.eval)=some y/\VR H ps cx.M nx w x y:=by
    intro q q' h;rcases h with⟨rfl,rfl⟩ | ⟨y,y',rfl,rfl,h⟩
    ·exact .inl ⟨rfl,rfl⟩
    ·exact .inr ⟨_,_,rfl,rfl,k.ro h⟩
   obtain⟨e,n,hu,hn,rfl⟩:=hor;simp only[ev] at he;replace he:=pb he;obtain⟨he,rfl⟩:=he;exact kW k (asc k.hr hu hn he (k.ro h1) (conv hlo) (conv hhi))
 | makeSlice t x y=>
  simp only[cH] at hr;split at hr
  ·rename_i e x' y' hu h1 h2;split at hr
   ·rename_i i z hi hz;split at hr
    ·rename_i h0;injection hr with hr;subst hr
     exact aqw k hu hi hz h0 h1 h2 he
    ·cases hr
   ·cases hr
  ·cases hr
 | extract x i=>
  simp only[cH] at hr;cases h1:ro x with
  | none=>simp[h1] at hr
  | some x'=>
   simp[h1] at hr;subst hr;simp only[ev] at he;split at he
   ·rename_i vs hd;replace he:=pb he;obtain⟨he,rfl⟩:=he;have hx:=k.ro h1;rw[hd] at hx;obtain⟨us,hval,hl,hv⟩:=hx.kG;obtain⟨hi,rfl⟩:=List.getElem?_eq_some_iff.1 he;refine kW k ⟨us.getD i undef,?_,hv i hi⟩;rw[hval];have hi':i<us.size:=by omega
    simp[Instr.extract,hi',Array.getD]
   ·cases he
 | makeFunc fn first captured=>
  cases fn with
  | func f=>
   simp only[cH] at hr;split at hr
   ·rename_i h0;cases h1:mw captured.toList with
    | none=>simp[h1] at hr
    | some rs=>
     simp[h1] at hr;subst hr;simp only[ev,Option.some.injEq,Prod.mk.injEq] at he;obtain⟨rfl,rfl⟩:=he;obtain⟨r1,r2⟩:=AA (a:=a) (cx:=cx) k.hp k.t captured.toList rs h1;refine kW k ⟨.func (.func f) #[] (captured.map a.eval),?_,?_⟩
     ·have:first= #[]:=by simpa using h0
      simp[Instr.makeFunc,this]
     ·refine .fn _ _ _ (by simp[r1]) fun j hj=>?_;have hj':j<captured.size:=by simp[r1] at hj;exact hj
      have:=r2 j (by simpa using hj) (by simpa using hj');simpa[Array.getD,hj'] using this
   ·cases hr
  | _=>simp[cH] at hr
 | call c=>
  obtain⟨callee,args,argTypes⟩:=c;cases callee with
  | value f=>
   simp only[cH] at hr;split at hr
   ·injection hr with hr;subst hr;simp[ev] at he
   ·cases hr
  | invoke r m=>simp[cH] at hr
  | builtin b=>
   cases b with
   | len=>
    simp only[cH] at hr;split at hr
    ·rename_i x t hax hat;have hargs:args= #[x]:=by rw[<-Array.toArray_toList (xs:=args),hax]
     have htys:argTypes= #[t]:=by rw[<-Array.toArray_toList (xs:=argTypes),hat]
     subst hargs;subst htys;split at hr
     ·rename_i e hu;cases h1:ro x with
      | none=>simp[h1] at hr
      | some x'=>
       simp[h1] at hr;subst hr;simp only[ev] at he;replace he:=pb he;obtain⟨he,rfl⟩:=he;obtain⟨b,n,c,hval,rfl⟩:=ajw he (k.ro h1);refine(kW k (s:=Builtin.len_ #[t] type #[a.eval x]) ⟨.int .i64 n,?_,.v _⟩:eK P cx H ps nx w _ _ _) |>fun q=>by simpa[execOp,resolve,invoke,builtin,I] using q
       rw[hval];simp[Builtin.len_,run_underlying hu,goInt]
     ·cases hr
    ·cases hr
   | append=>
    simp only[cH] at hr;split at hr
    ·rename_i s x t t' hax hat;have hargs:args= #[s,x]:=by rw[<-Array.toArray_toList (xs:=args),hax]
     have htys:argTypes= #[t,t']:=by rw[<-Array.toArray_toList (xs:=argTypes),hat]
     subst hargs;subst htys;split at hr
     ·rename_i htt;subst htt;split at hr
      ·rename_i e hu;split at hr
       ·rename_i i z s' x' hi hz h1 h2;split at hr
        ·rename_i h0;injection hr with hr;subst hr
         simp only[ev] at he;obtain⟨i',v,q1,hzv,hs,hl,hva⟩:=k.va hz;rw[hi] at q1;injection q1 with q1;subst q1
         have:=Qu (P:=P) k.hr k.fr k.lb t type e i v hu hi hzv h0 hs he (k.ro h1) (k.ro h2);have q:=eK.qG this;simpa[execOp,resolve,invoke,builtin] using q
        ·cases hr
       ·cases hr
      ·cases hr
     ·cases hr
    ·cases hr
   | max=>
    simp only[cH] at hr;cases h1:mw args.toList with
    | none=>simp[h1] at hr
    | some rs=>
     simp[h1] at hr;subst hr;obtain⟨r1,r2⟩:=AA (a:=a) (cx:=cx) k.hp k.t args.toList rs h1;simp only[ev] at he;cases rs with
     | nil=>simp at he
     | cons y ys=>
      simp only[List.map_cons] at he;replace he:=pb he;obtain⟨he,rfl⟩:=he;cases hax:args.toList with
      | nil=>rw[hax] at r1;simp at r1
      | cons x xs=>
       have hargs:args=(x::xs).toArray:=by rw[<-hax]
       subst hargs;obtain⟨v,hv1,hv2⟩:=M5 (P:=P) (mx:=true) (ys.map fun x=>un p (x.get T)) (xs.map a.eval) _ d (a.eval x) he (by simp at r1 ⊢;exact r1) (r2 0 (by simp) (by simp))
        (fun j h1 h2=>by
         have:=r2 (j+1) (by simp at h1 ⊢;exact h1) (by simp at h2 ⊢;exact h2);simpa using this)
       refine(kW k (s:=Builtin.max_ argTypes type ((x::xs).toArray.map a.eval)) ⟨v,?_,hv2⟩:eK P cx H ps nx w _ _ _) |>fun q=>by simpa[execOp,resolve,invoke,builtin,I] using q
       simpa[Builtin.max_] using hv1
   | min=>
    simp only[cH] at hr;cases h1:mw args.toList with
    | none=>simp[h1] at hr
    | some rs=>
     simp[h1] at hr;subst hr;obtain⟨r1,r2⟩:=AA (a:=a) (cx:=cx) k.hp k.t args.toList rs h1;simp only[ev] at he;cases rs with
     | nil=>simp at he
     | cons y ys=>
      simp only[List.map_cons] at he;replace he:=pb he;obtain⟨he,rfl⟩:=he;cases hax:args.toList with
      | nil=>rw[hax] at r1;simp at r1
      | cons x xs=>
       have hargs:args=(x::xs).toArray:=by rw[<-hax]
       subst hargs;obtain⟨v,hv1,hv2⟩:=M5 (P:=P) (mx:=false) (ys.map fun x=>un p (x.get T)) (xs.map a.eval) _ d (a.eval x) he (by simp at r1 ⊢;exact r1) (r2 0 (by simp) (by simp))
        (fun j h1 h2=>by
         have:=r2 (j+1) (by simp at h1 ⊢;exact h1) (by simp at h2 ⊢;exact h2);simpa using this)
       refine(kW k (s:=Builtin.min_ argTypes type ((x::xs).toArray.map a.eval)) ⟨v,?_,hv2⟩:eK P cx H ps nx w _ _ _) |>fun q=>by simpa[execOp,resolve,invoke,builtin,I] using q
       simpa[Builtin.min_] using hv1
   | _=>simp[cH] at hr
 | _=>simp[cH] at hr
end
def RO.rs:RO->List Nat
 | .t n=>[n]
 | .c _=>[]
def cR.rs:cR->List Nat
 | .bS x | .box x | .mK x | .un _ x | .conv _ x | .bO _ x | .qI _ _ _ x | .len x | .jm _ x | .load _ _ x=>x.rs
 | .pick c a b=>c.rs++a.rs++b.rs
 | .alloc _=>[]
 | .build _ ps=>ps.flatMap fun x=>x.2.2.rs
 | .g9 _ _ _ _ ps=>ps.flatMap fun x=>x.2.rs
 | .store _ a x | .bin _ a x | .pN _ _ a x | .cP _ a x | .fw _ _ _ a x | .app _ _ a x=>a.rs++x.rs
 | .jL _ x lo hi=>x.rs++(match lo with | some l=>l.rs | none=>[])++(match hi with | some l=>l.rs | none=>[])
 | .mm _ xs=>xs.flatMap RO.rs
 | .sD _ xs=>xs.flatMap RO.rs
 | .call f xs=>f.rs++xs.flatMap RO.rs
theorem RO.get_congr{x:RO}{T T':Nat->DV}(h:∀t∈x.rs,T' t=T t):x.get T'=x.get T:=by
 cases x with
 | t n=>exact h n (by simp[RO.rs])
 | c d=>rfl
theorem Ro{ρ ρ':RO->DV}:∀(ps:List (Nat×Nat×RO)) (z:List DV),(∀x∈ps,ρ' x.2.2=ρ x.2.2)->kK ρ' z ps=kK ρ z ps
 | [],z,_=>rfl
 | (o,n,x)::r,z,h=>by
  simp only[kK,h (o,n,x) (by simp)];split
  ·split
   ·exact Ro r _ fun y hy=>h y (by simp[hy])
   ·rfl
  ·rfl
theorem Uw{ρ ρ':RO->DV}(sz:Nat):∀(ps:List (Nat×RO)) (xs:List (List DV)),(∀x∈ps,ρ' x.2=ρ x.2)->jE ρ' sz xs ps=jE ρ sz xs ps
 | [],z,_=>rfl
 | (o,x)::r,z,h=>by
  simp only[jE,h (o,x) (by simp)];split
  ·split
   ·exact Uw sz r _ fun y hy=>h y (by simp[hy])
   ·rfl
  ·rfl
theorem Ym{H H':Hp}{ag:Bool}{n:Nat}{d:DV}(h:∀o∈d.ids,H' o=H o):jK H' ag n d=jK H ag n d:=by
 cases d<;>simp only[jK];rw[h _ (by simp[DV.ids])]
theorem axf{H H':Hp}{n:Nat}{d x:DV}(h:∀o∈d.ids,H' o=H o):nU H' n d x=nU H n d x:=by
 cases d with
 | ptr o g i off=>
  simp only[nU];cases hJ x with
  | none=>rfl
  | some cs=>simp only[];rw[h o (by simp[DV.ids])]
 | _=>simp only[nU]
theorem UH{H H':Hp}{o g:Nat}(h:H' o=H o):live H' o g=live H o g:=by simp only[live,h]
theorem aox{H H':Hp}{o g z:Nat}(h:H' o=H o):sK H' o g z=sK H o g z:=by simp only[sK,h]
theorem aqh{H H':Hp}{d:DV}(h:∀o∈d.ids,H' o=H o):kg H' d=kg H d:=by
 cases d<;>simp only[kg];rw[h _ (by simp[DV.ids])]
theorem Rz{H H':Hp}{sz by':Nat}{d x:DV}(h1:∀o∈d.ids,H' o=H o)(h2:∀o∈x.ids,H' o=H o):j2 H' sz by' d x=j2 H sz by' d x:=by
 simp only[j2,aqh h2];cases d with
 | own o g lo n=>simp only[];rw[h1 o (by simp[DV.ids])]
 | ab full xs=>cases full<;>rfl
 | _=>rfl
theorem atu{H H':Hp}{d:DV}(h:∀o∈d.ids,H' o=H o):mT H' d=mT H d:=by
 cases d<;>rfl
theorem aj0{H H':Hp}{sz:Nat}{d:DV}{lo hi:Option DV}(h:∀o∈d.ids,H' o=H o):rm H' sz d lo hi=rm H sz d lo hi:=by
 cases d<;>simp only[rm];rw[aox (h _ (by simp[DV.ids]))]
theorem L4{op:cR}{p:Bool}{T T':Nat->DV}(hT:∀t∈op.rs,T' t=T t):cF op p T'=cF op p T:=by
 cases op<;>simp only[cF,cR.rs,List.mem_append] at* <;>(try rfl)<;>
  first
   | rw[RO.get_congr fun t ht=>hT t ht]
   | rw[RO.get_congr fun t ht=>hT t (.inl ht)]
   | rw[RO.get_congr fun t ht=>hT t (.inl (.inl ht))]
   | (rw[RO.get_congr fun t ht=>hT t (.inl ht),RO.get_congr fun t ht=>hT t (.inr ht)])
 ·rename_i s x;rw[RO.get_congr (x:=x) fun t ht=>hT t (.inr ht)]
theorem G4{op:cR}{p:Bool}{T T':Nat->DV}{H H':Hp}{nx:Nat}(hT:∀t∈op.rs,T' t=T t)(hH:∀o∈cF op p T,H' o=H o):ev op p T' H' nx=ev op p T H nx:=by
 cases op with
 | pick c a b=>
  simp only[cR.rs,List.mem_append] at hT;simp only[ev,RO.get_congr (x:=c) fun t ht=>hT t (.inl (.inl ht)),RO.get_congr (x:=a) fun t ht=>hT t (.inl (.inr ht)),RO.get_congr (x:=b) fun t ht=>hT t (.inr ht)]
 | alloc z=>rfl
 | call f xs=>rfl
 | build z ps=>
  simp only[cR.rs,List.mem_flatMap] at hT;simp only[ev];rw[Ro (ρ:=fun x=>un p (x.get T)) (ρ':=fun x=>un p (x.get T')) ps z fun x hx=>by simp only[RO.get_congr (x:=x.2.2) fun t ht=>hT t ⟨x,hx,ht⟩]]
 | g9 ow sz z len ps=>
  simp only[cR.rs,List.mem_flatMap] at hT;simp only[ev];rw[Uw (ρ:=fun x=>un p (x.get T)) (ρ':=fun x=>un p (x.get T')) sz ps _ fun x hx=>by simp only[RO.get_congr (x:=x.2) fun t ht=>hT t ⟨x,hx,ht⟩]]
 | mm mx xs=>
  simp only[cR.rs,List.mem_flatMap] at hT;have:xs.map (fun x:RO=>un p (x.get T'))=xs.map (fun x:RO=>un p (x.get T)):=List.map_congr_left fun x hx=>by rw[RO.get_congr fun t ht=>hT t ⟨x,hx,ht⟩]
  simp only[ev,this]
 | sD f xs=>
  simp only[cR.rs,List.mem_flatMap] at hT;have:xs.map (fun x:RO=>un p (x.get T'))=xs.map (fun x:RO=>un p (x.get T)):=List.map_congr_left fun x hx=>by rw[RO.get_congr fun t ht=>hT t ⟨x,hx,ht⟩]
  simp only[ev,this]
 | load ag n a=>
  simp only[ev,RO.get_congr (x:=a) hT];rw[Ym hH]
 | store n a x=>
  simp only[cR.rs,List.mem_append] at hT;simp only[ev,RO.get_congr (x:=a) fun t ht=>hT t (.inl ht),RO.get_congr (x:=x) fun t ht=>hT t (.inr ht)];rw[axf hH]
 | app sz by' s x=>
  simp only[cR.rs,List.mem_append] at hT;simp only[ev,RO.get_congr (x:=s) fun t ht=>hT t (.inl ht),RO.get_congr (x:=x) fun t ht=>hT t (.inr ht)];simp only[cF,List.mem_append] at hH;exact Rz (fun o ho=>hH o (.inl ho)) fun o ho=>hH o (.inr ho)
 | len x=>
  simp only[ev,RO.get_congr (x:=x) hT];rw[atu hH]
 | jL sz x lo hi=>
  simp only[cR.rs,List.mem_append] at hT;have e2:lo.map (fun x:RO=>un p (x.get T'))=lo.map (fun x:RO=>un p (x.get T)):=by
   cases lo with
   | none=>rfl
   | some l=>simp only[Option.map_some];rw[RO.get_congr fun t ht=>hT t (.inl (.inr ht))]
  have e3:hi.map (fun x:RO=>un p (x.get T'))=hi.map (fun x:RO=>un p (x.get T)):=by
   cases hi with
   | none=>rfl
   | some l=>simp only[Option.map_some];rw[RO.get_congr fun t ht=>hT t (.inr ht)]
  simp only[ev,RO.get_congr (x:=x) fun t ht=>hT t (.inl (.inl ht)),e2,e3];rw[aj0 hH]
 | mK x=>
  simp only[ev,RO.get_congr (x:=x) hT];simp only[cF] at hH;generalize un p (x.get T)=d at*;cases d<;>simp only[];rw[UH (hH _ (by simp[DV.ids]))]
 | bO off x=>
  simp only[ev,RO.get_congr (x:=x) hT];simp only[cF] at hH;generalize un p (x.get T)=d at*;cases d<;>simp only[];rw[UH (hH _ (by simp[DV.ids]))]
 | cP sz x i=>
  simp only[cR.rs,List.mem_append] at hT;simp only[ev,RO.get_congr (x:=x) fun t ht=>hT t (.inl ht),RO.get_congr (x:=i) fun t ht=>hT t (.inr ht)];simp only[cF] at hH;generalize un p (x.get T)=d at*;generalize un p (i.get T)=e;have fin:∀(o g lo k:Nat) (e:DV),H' o=H o->(match DV.own o g lo k,e with
   | .ab _ xs,.v (.int _ n)=>if 0<=n/\n<xs.length/\(xs.getD n.toNat []).length=sz then some (DV.rp (xs.getD n.toNat []),Up.no) else none
   | .own o g lo k,.v (.int _ n)=>match H' o with
    | some ck=>if ck.gen=g/\ck.sz=sz/\0<=n/\n<k then some (.ptr o g (lo+n.toNat) 0,.no) else none
    | none=>none
   | _,_=>none)=(match DV.own o g lo k,e with
   | .ab _ xs,.v (.int _ n)=>if 0<=n/\n<xs.length/\(xs.getD n.toNat []).length=sz then some (DV.rp (xs.getD n.toNat []),Up.no) else none
   | .own o g lo k,.v (.int _ n)=>match H o with
    | some ck=>if ck.gen=g/\ck.sz=sz/\0<=n/\n<k then some (.ptr o g (lo+n.toNat) 0,.no) else none
    | none=>none
   | _,_=>none):=by
   intro o g lo k e h;cases e<;>try rfl
   rename_i v;cases v<;>try rfl
   simp only[h]
  cases d with
  | own o g lo k=>exact fin o g lo k e (hH o (by simp[DV.ids]))
  | _=>cases e<;>first | rfl | (rename_i v;cases v<;>rfl)
 | bin op x y=>
  simp only[cR.rs,List.mem_append] at hT;simp only[ev,RO.get_congr (x:=x) fun t ht=>hT t (.inl ht),RO.get_congr (x:=y) fun t ht=>hT t (.inr ht)]
 | pN n offs x y=>
  simp only[cR.rs,List.mem_append] at hT;simp only[ev,RO.get_congr (x:=x) fun t ht=>hT t (.inl ht),RO.get_congr (x:=y) fun t ht=>hT t (.inr ht)]
 | fw sz by' z x i=>
  simp only[cR.rs,List.mem_append] at hT;simp only[ev,RO.get_congr (x:=x) fun t ht=>hT t (.inl ht),RO.get_congr (x:=i) fun t ht=>hT t (.inr ht)]
 | bS x=>simp only[ev,RO.get_congr (x:=x) hT]
 | box x=>simp only[ev,RO.get_congr (x:=x) hT]
 | un op x=>simp only[ev,RO.get_congr (x:=x) hT]
 | conv k x=>simp only[ev,RO.get_congr (x:=x) hT]
 | qI ag n off x=>simp only[ev,RO.get_congr (x:=x) hT]
 | jm i x=>simp only[ev,RO.get_congr (x:=x) hT]
abbrev bT:=List (Nat×Ck)
def bK(H:Hp)(l:bT):Hp:=l.foldl (fun H x=>H.put x.1 (some x.2)) H
def ah(l:bT):Hp:=bK Hp.emp l
theorem hP(H:Hp)(x:Nat×Ck)(l:bT):bK H (x::l)=bK (H.put x.1 (some x.2)) l:=rfl
theorem tS:∀(l:bT) (o:Nat),(∃ck,(o,ck)∈l/\∀H,bK H l o=some ck)\/(∀H,bK H l o=H o)
 | [],o=>.inr fun H=>rfl
 | x::l,o=>by
  rcases tS l o with⟨ck,hm,h⟩ | h
  ·exact .inl ⟨ck,List.mem_cons_of_mem _ hm,fun H=>by rw[hP];exact h _⟩
  ·by_cases hx:o=x.1
   ·subst hx;exact .inl ⟨x.2,by simp,fun H=>by rw[hP,h,Hp.b9]⟩
   ·exact .inr fun H=>by rw[hP,h,Hp.aS _ _ _ hx]
theorem mf(l:bT)(H:Hp)(o:Nat):(ah l o=none/\bK H l o=H o)\/(∃ck,ah l o=some ck/\bK H l o=some ck):=by
 rcases tS l o with⟨ck,_,h⟩ | h
 ·exact .inr ⟨ck,h _,h _⟩
 ·exact .inl ⟨h _,h _⟩
theorem mS{l:bT}{o:Nat}{ck:Ck}(h:ah l o=some ck):(o,ck)∈l:=by
 rcases tS l o with⟨ck',hm,h'⟩ | h'
 ·have:=h' Hp.emp;unfold ah at h;rw[h] at this;cases this;exact hm
 ·have:=h' Hp.emp;unfold ah at h;rw[h] at this;cases this
inductive bB (S:Nat->Prop):DV->Prop
 | v (x:Value):bB S (.v x)
 | any:bB S .any
 | nn:bB S .nn
 | gd (p:Bool) (d:DV) (h:bB S d):bB S (.gd p d)
 | ptr (o g i off:Nat) (h:S o):bB S (.ptr o g i off)
 | own (o g lo n:Nat) (h:S o):bB S (.own o g lo n)
 | ab (f:Bool) (xs:List (List DV)) (h:∀x,x∈xs->∀c,c∈x->bB S c):bB S (.ab f xs)
 | rp (cs:List DV) (h:∀c,c∈cs->bB S c):bB S (.rp cs)
 | agg (cs:List DV) (h:∀c,c∈cs->bB S c):bB S (.agg cs)
 | bh (cs:List DV) (h:∀c,c∈cs->bB S c):bB S (.bh cs)
 | fn (f:FuncId) (cs:List DV) (h:∀c,c∈cs->bB S c):bB S (.fn f cs)
structure xu (S:Nat->Prop) (H:Hp) (ps:Ps) (M:Nat->Prop) (nx:Nat) (w:World) (H':Hp) (ps':Ps) (M':Nat->Prop) (nx':Nat) (w':World):Prop where
 n:∀o,S o->o<nx->o<nx'
 hp:∀o,S o->o<nx->∀ck',H' o=some ck'->∃ck,H o=some ck/\(ck.gen<ck'.gen\/(ck.gen=ck'.gen/\ck.sz=ck'.sz/\ck.xs.length<=ck'.xs.length/\ps' o=ps o))
 mu:∀b,Mu H' ps' M' b->Mu H ps M b\/w.heap.size<=b
 mem:∀b,b<w.heap.size->¬Mu H ps M b->w'.heap[b]? =w.heap[b]?
theorem VR.ke{S H ps M nx w H' ps' M' nx' w' d x}(h:VR H ps M nx w d x)(hi:bB S d)(k:xu S H ps M nx w H' ps' M' nx' w'):VR H' ps' M' nx' w' d x:=by
 induction h with
 | v x=>exact .v x
 | any x=>exact .any x
 | nn t p=>exact .nn t p
 | gd p d x h h2 ih=>cases hi with | gd _ _ hi=>exact .gd p d x (fun e=>ih e hi) h2
 | ptr o g i off x h0 h1 h=>
  cases hi with
  | ptr _ _ _ _ hs=>
  refine .ptr o g i off x (k.n o hs h0) h1 fun ck' hck'=>?_;obtain⟨ck,hck,hg⟩:=k.hp o hs h0 ck' hck';obtain⟨hle,hsame⟩:=h ck hck;rcases hg with hg | ⟨hg,hsz,hlen,hps⟩
  ·exact⟨by omega,fun e=>by omega⟩
  ·refine⟨by omega,fun e=>?_⟩;obtain⟨hi,p,hp,hx⟩:=hsame (by omega);exact⟨by omega,p,by rw[hps];exact hp,by rw[<-hsz];exact hx⟩
 | own o g lo n x h0 h1 h=>
  cases hi with
  | own _ _ _ _ hs=>
  refine .own o g lo n x (k.n o hs h0) h1 fun ck' hck'=>?_;obtain⟨ck,hck,hg⟩:=k.hp o hs h0 ck' hck';obtain⟨hle,hsame⟩:=h ck hck;rcases hg with hg | ⟨hg,hsz,hlen,hps⟩
  ·exact⟨by omega,fun e=>by omega⟩
  ·refine⟨by omega,fun e=>?_⟩;obtain⟨hi,a,cap,hx,hn,hcap⟩:=hsame (by omega);refine⟨by omega,a,cap,hx,hn,?_⟩;rcases hcap with hcap | ⟨p,hp,ha,ht⟩
   ·exact .inl hcap
   ·exact .inr ⟨p,by rw[hps];exact hp,by rw[<-hsz];exact ha,by rw[<-hsz];exact ht⟩
 | rp cs b off vs hM h1 hc hv ih=>
  cases hi with
  | rp _ hs=>
  refine .rp cs b off vs (fun hne hmu=>?_) h1 (fun j hj=>?_) (fun j hj=>ih j hj (hs _ (List.getElem_mem hj)))
  ·have hp:=List.length_pos_iff.2 hne;have:=uM (hc 0 hp);rcases k.mu b hmu with h | h
   ·exact hM hne h
   ·simp at this;omega
  ·have hne:cs≠[]:=by intro e;simp[e] at hj
   have hb:=uM (hc j hj);rw[World.cell?_of_block (k.mem b hb (hM hne))];exact hc j hj
 | fm full a cap hf=>exact .fm full a cap hf
 | ab full xs b off cap sz vs hne hs hcap hf hM hz h1 hc hv ih=>
  cases hi with
  | ab _ _ hss=>
  have hb:b<w.heap.size:=uM (hc 0 0 (List.length_pos_iff.2 hne) hs);refine .ab full xs b off cap sz vs hne hs hcap hf (fun hmu=>?_) hz h1 (fun i j hi hj=>?_) (fun i j hi hj=>ih i j hi hj (hss _ (List.getElem_mem hi) _ (List.getElem_mem hj)))
  ·rcases k.mu b hmu with h | h
   ·exact hM h
   ·omega
  ·rw[World.cell?_of_block (k.mem b hb hM)];exact hc i j hi hj
 | agg cs vs hl h1 hv ih=>cases hi with | agg _ hs=>exact .agg cs vs hl h1 (fun j hj=>ih j hj (hs _ (List.getElem_mem hj)))
 | bh cs vs hl hv ih=>cases hi with | bh _ hs=>exact .bh cs vs hl (fun j hj=>ih j hj (hs _ (List.getElem_mem hj)))
 | fn f cs vs hl hv ih=>cases hi with | fn _ _ hs=>exact .fn f cs vs hl (fun j hj=>ih j hj (hs _ (List.getElem_mem hj)))
def XR:List String:=["internal/strconv.uint64pow10", "strconv.ErrSyntax", "strconv.ErrRange"]
def avp(nm:String)(cs:Array Value):Prop:=(nm= "internal/strconv.uint64pow10" ->cs=(((List.range 20).map fun i=>((10 ^ i:Nat):Int)).map fun z=>Value.int .u64 z).toArray)/\(nm≠ "internal/strconv.uint64pow10" ->∃t p,cs= #[.iface t p])
def iV(P:Program)(w:World)(L:Nat->Prop):Prop:=∀nm,nm∈XR->∀g,P.globalNamed nm=some g->g<w.heap.size/\¬L g/\∃cs t f,w.heap[g]? =some (.cells cs t f)/\avp nm cs
theorem iV.of{P:Program}{w0 w:World}{B L:Nat->Prop}(h:iV P w0 B)(fr:Fr B w0 w)(hL:∀b,L b->B b\/w0.heap.size<=b):iV P w L:=fun nm hn g hg=>by
 obtain⟨h1,h2,cs,t,f,h3,h4⟩:=h nm hn g hg;refine⟨Nat.lt_of_lt_of_le h1 fr.size,fun hl=>?_,cs,t,f,by rw[fr.block g h1 h2];exact h3,h4⟩;rcases hL g hl with k | k
 ·exact h2 k
 ·omega
theorem iV.less{P:Program}{w:World}{L L':Nat->Prop}(h:iV P w L)(hL:∀b,L' b->L b):iV P w L':=fun nm hn g hg=>by
 obtain⟨h1,h2,h3⟩:=h nm hn g hg;exact⟨h1,fun hl=>h2 (hL g hl),h3⟩
theorem iV.none{P:Program}{w:World}{L:Nat->Prop}(h:(XR.all fun nm=>(P.globalNamed nm).isNone)=true):iV P w L:=fun nm hn g hg=>by
 have:=List.all_eq_true.1 h nm hn;rw[hg] at this;cases this
structure Hm (P:Program) (cx:Cx):Prop where
 m:P.follows .mixedOrders=true
 g:iV P cx.w0 cx.B
structure de (P:Program) (f:FuncId) (args:List DV) (pre:bT) (nb:Nat) (res:DV) (post:bT) (nx':Nat):Prop where
 fn:∃fn,P.funcs[f]? =some fn/\(fn.name== "runtime.NumGoroutine")=false/\fn.body.isNone=false
 af:∀o ck,ah pre o=some ck->∃ck',ah post o=some ck'
 fL:∀o ck',ah post o=some ck'->o<nb->∃ck,ah pre o=some ck
 le:nb<=nx'
 ids:bB (fun o=>(∃ck,ah post o=some ck)\/(nb<=o/\o<nx')) res
 j9:∀o ck,ah post o=some ck->∀x,x∈ck.xs->∀c,c∈x->bB (fun o=>(∃ck,ah post o=some ck)\/(nb<=o/\o<nx')) c
 run:∀(M:Nat->Prop) (ps:Ps) (w:World) (cargs:Array Value),HR (ah pre) ps M nb w->cargs.size=args.length->(∀j (hj:j<args.length),VR (ah pre) ps M nb w args[j] (cargs.getD j undef))->iV P w (Live (ah pre) ps)->
  Calls P f cargs w fun e w'=>∃v ps',e=.returned v/\VR (ah post) ps' M nx' w' res v/\HR (ah post) ps' M nx' w'/\Fr (Live (ah pre) ps) w w'/\
   (∀o ck p,ah post o=some ck->ps' o=some p->Live (ah pre) ps p.b\/w.heap.size<=p.b)/\
   (∀o,o<nb->∀ck',ah post o=some ck'->∃ck,ah pre o=some ck/\qW ps ps' o ck ck')
theorem de.calls{P:Program}{f:FuncId}{args:List DV}{pre:bT}{nb:Nat}{res:DV}{post:bT}{nx':Nat}(h:de P f args pre nb res post nx'){cx:Cx}(hg:iV P cx.w0 cx.B){H:Hp}{ps:Ps}{w:World}(hr:HR H ps cx.M nb w)(fr:Fr cx.B cx.w0 w)
  (lb:∀o ck p,H o=some ck->ps o=some p->cx.B p.b\/cx.w0.heap.size<=p.b) (hpre:∀o ck,ah pre o=some ck->H o=some ck) (cargs:Array Value) (hl:cargs.size=args.length)
  (ha:∀j (hj:j<args.length),VR H ps cx.M nb w args[j] (cargs.getD j undef)):
  Calls P f cargs w fun e w'=>∃v ps',e=.returned v/\VR (bK H post) ps' cx.M nx' w' res v/\Mv cx H ps nb w (bK H post) ps' nx' w':=by
 let M':Nat->Prop:=fun b=>cx.M b\/(Live H ps b/\¬Live (ah pre) ps b)
 have hlive:∀b,Live (ah pre) ps b->Live H ps b:=fun b ⟨o,ck,p,h1,h2,h3⟩=>⟨o,ck,p,hpre o ck h1,h2,h3⟩;have hmu:∀b,Mu (ah pre) ps M' b↔Mu H ps cx.M b:=by
  intro b;constructor
  ·rintro((h | h) | h)
   ·exact .inl h
   ·exact .inr h.1
   ·exact .inr (hlive b h)
  ·rintro(h | h)
   ·exact .inl (.inl h)
   ·by_cases h':Live (ah pre) ps b
    ·exact .inr h'
    ·exact .inl (.inr ⟨h,h'⟩)
 have kp0:Kp H ps cx.M nb w (ah pre) ps M' nb w:=
  ⟨Nat.le_refl _,fun o _ ck' hk=>⟨ck',hpre o ck' hk,.inr ⟨rfl,rfl,Nat.le_refl _,rfl⟩⟩,fun b hb=>.inl ((hmu b).1 hb),fun _ _ _=>rfl⟩
 have hr0:HR (ah pre) ps M' nb w:=by
  refine⟨fun o ck ho=>hr.lt o ck (hpre o ck ho),fun o ck ho=>(hr.cr o ck (hpre o ck ho)).mono kp0 rfl fun _ _=>rfl,fun o o' ck ck' p p' h1 h2=>hr.inj o o' ck ck' p p' (hpre _ _ h1) (hpre _ _ h2),?_,?_⟩
  ·rintro b (hb | ⟨⟨o,ck,p,h1,h2,h3⟩,_⟩)
   ·exact hr.ml b hb
   ·rw[<-h3];exact hr.mQ h1 h2
  ·intro o ck p h1 h2 hM;rcases hM with hM | ⟨_,hM⟩
   ·exact hr.dj o ck p (hpre o ck h1) h2 hM
   ·exact hM ⟨o,ck,p,h1,h2,rfl⟩
 refine(h.run M' ps w cargs hr0 hl (fun j hj=>(ha j hj).mono kp0) (hg.of fr fun b ⟨o,ck,p,h1,h2,h3⟩=>h3▸lb o ck p (hpre o ck h1) h2)).mono ?_;rintro e w' ⟨v,ps',rfl,hv,hr',fr',lb',gm⟩;let ps2:Ps:=fun o=>match ah post o with | some _=>ps' o | none=>ps o
 have ps2_in:∀o ck,ah post o=some ck->ps2 o=ps' o:=by intro o ck h;simp only[ps2,h]
 have ps2_out:∀o,ah post o=none->ps2 o=ps o:=by intro o h;simp only[ps2,h]
 have notpre:∀o,ah post o=none->ah pre o=none:=by
  intro o ho;cases hq:ah pre o with
  | none=>rfl
  | some ck=>obtain⟨ck',hk⟩:=h.af o ck hq;rw[ho] at hk;cases hk
 have liveb:∀b,Live (bK H post) ps2 b->Live H ps b\/w.heap.size<=b:=by
  rintro b ⟨o,ck,p,h1,h2,rfl⟩;rcases mf post H o with⟨q1,q2⟩ | ⟨ck',q1,q2⟩
  ·rw[q2] at h1;rw[ps2_out o q1] at h2;exact .inl ⟨o,ck,p,h1,h2,rfl⟩
  ·rw[ps2_in o ck' q1] at h2;rcases lb' o ck' p q1 h2 with h | h
   ·exact .inl (hlive _ h)
   ·exact .inr h
 have kp:Kp H ps cx.M nb w (bK H post) ps2 cx.M nx' w':=by
  refine⟨h.le,fun o ho ck' hk=>?_,fun b hb=>?_,fun b hb hm=>?_⟩
  ·rcases mf post H o with⟨q1,q2⟩ | ⟨ck2,q1,q2⟩
   ·rw[q2] at hk;exact⟨ck',hk,.inr ⟨rfl,rfl,Nat.le_refl _,ps2_out o q1⟩⟩
   ·rw[q2] at hk;injection hk with hk;subst hk
    obtain⟨ck,g1,g2⟩:=gm o ho ck2 q1;exact⟨ck,hpre o ck g1,by rw[ps2_in o ck2 q1];exact g2⟩
  ·rcases hb with hb | hb
   ·exact .inl (.inl hb)
   ·rcases liveb b hb with h | h
    ·exact .inl (.inr h)
    ·exact .inr h
  ·exact fr'.block b hb fun hl=>hm (.inr (hlive b hl))
 have kpS:xu (fun o=>(∃ck,ah post o=some ck)\/(nb<=o/\o<nx')) (ah post) ps' M' nx' w' (bK H post) ps2 cx.M nx' w':=by
  refine⟨fun o _ h=>h,fun o hs _ ck' hk=>?_,fun b hb=>?_,fun _ _ _=>rfl⟩
  ·rcases mf post H o with⟨q1,q2⟩ | ⟨ck2,q1,q2⟩
   ·rcases hs with⟨ck,hs⟩ | hs
    ·rw[q1] at hs;cases hs
    ·rw[q2] at hk;have:=hr.lt o ck' hk;omega
   ·rw[q2] at hk;injection hk with hk;subst hk
    exact⟨ck2,q1,.inr ⟨rfl,rfl,Nat.le_refl _,ps2_in o ck2 q1⟩⟩
  ·rcases hb with hb | ⟨o,ck,p,h1,h2,rfl⟩
   ·exact .inl (.inl (.inl hb))
   ·rcases mf post H o with⟨q1,q2⟩ | ⟨ck2,q1,q2⟩
    ·rw[q2] at h1;rw[ps2_out o q1] at h2;refine .inl (.inl (.inr ⟨⟨o,ck,p,h1,h2,rfl⟩,?_⟩));rintro⟨o',ck',p',g1,g2,g3⟩;have:=hr.inj o o' ck ck' p p' h1 (hpre o' ck' g1) h2 g2 g3.symm;subst this;rw[notpre o q1] at g1;cases g1
    ·rw[ps2_in o ck2 q1] at h2;exact .inl (.inr ⟨o,ck2,p,q1,h2,rfl⟩)
 refine⟨v,ps2,rfl,hv.ke h.ids kpS,kp,⟨?_,?_,?_,?_,?_⟩,⟨fr'.os.trans fr.os,fr'.tape.trans fr.tape,fr'.output.trans fr.output,Nat.le_trans fr.size fr'.size,?_⟩,?_⟩
 ·intro o ck ho;rcases mf post H o with⟨q1,q2⟩ | ⟨ck2,q1,q2⟩
  ·rw[q2] at ho;exact Nat.lt_of_lt_of_le (hr.lt o ck ho) h.le
  ·exact hr'.lt o ck2 q1
 ·intro o ck ho;rcases mf post H o with⟨q1,q2⟩ | ⟨ck2,q1,q2⟩
  ·rw[q2] at ho;refine(hr.cr o ck ho).mono kp (ps2_out o q1) fun p hp=>fr'.block _ (hr.mQ ho hp) ?_;rintro⟨o',ck',p',g1,g2,g3⟩;have:=hr.inj o o' ck ck' p p' ho (hpre o' ck' g1) hp g2 g3.symm;subst this;rw[notpre o q1] at g1;cases g1
  ·rw[q2] at ho;injection ho with ho;subst ho
   rcases hr'.cr o ck2 q1 with⟨g1,g2⟩ | ⟨p,c,E,vs,g1,g2,g3,g4,g5,g6,g7⟩
   ·exact .inl ⟨by rw[ps2_in o ck2 q1];exact g1,g2⟩
   ·exact .inr ⟨p,c,E,vs,by rw[ps2_in o ck2 q1];exact g1,g2,g3,g4,g5,g6,fun i j hi hj=>(g7 i j hi hj).ke (h.j9 o ck2 q1 _ (List.getElem_mem hi) _ (List.getElem_mem hj)) kpS⟩
 ·intro o1 o2 ck1 ck2 p1 p2 h1 h2 g1 g2 e;rcases mf post H o1 with⟨a1,a2⟩ | ⟨c1,a1,a2⟩<;>rcases mf post H o2 with⟨b1,b2⟩ | ⟨c2,b1,b2⟩
  ·rw[a2] at h1;rw[b2] at h2;rw[ps2_out _ a1] at g1;rw[ps2_out _ b1] at g2;exact hr.inj o1 o2 ck1 ck2 p1 p2 h1 h2 g1 g2 e
  ·rw[a2] at h1;rw[ps2_out _ a1] at g1;rw[ps2_in _ _ b1] at g2;exfalso;rcases lb' o2 c2 p2 b1 g2 with⟨o',ck',p',k1,k2,k3⟩ | k
   ·have:=hr.inj o1 o' ck1 ck' p1 p' h1 (hpre o' ck' k1) g1 k2 (e.trans k3.symm);subst this;rw[notpre o1 a1] at k1;cases k1
   ·have:=hr.mQ h1 g1;omega
  ·rw[b2] at h2;rw[ps2_out _ b1] at g2;rw[ps2_in _ _ a1] at g1;exfalso;rcases lb' o1 c1 p1 a1 g1 with⟨o',ck',p',k1,k2,k3⟩ | k
   ·have:=hr.inj o2 o' ck2 ck' p2 p' h2 (hpre o' ck' k1) g2 k2 (e.symm.trans k3.symm);subst this;rw[notpre o2 b1] at k1;cases k1
   ·have:=hr.mQ h2 g2;omega
  ·rw[ps2_in _ _ a1] at g1;rw[ps2_in _ _ b1] at g2;exact hr'.inj o1 o2 c1 c2 p1 p2 a1 b1 g1 g2 e
 ·exact fun b hb=>Nat.lt_of_lt_of_le (hr.ml b hb) fr'.size
 ·intro o ck p h1 h2;rcases mf post H o with⟨a1,a2⟩ | ⟨c1,a1,a2⟩
  ·rw[a2] at h1;rw[ps2_out _ a1] at h2;exact hr.dj o ck p h1 h2
  ·rw[ps2_in _ _ a1] at h2;exact fun hM=>hr'.dj o c1 p a1 h2 (.inl hM)
 ·intro b hb hB;rw[fr'.block b (Nat.lt_of_lt_of_le hb fr.size) ?_,fr.block b hb hB];rintro⟨o,ck,p,h1,h2,h3⟩;subst h3;rcases lb o ck p (hpre o ck h1) h2 with h | h
  ·exact hB h
  ·omega
 ·intro o ck p h1 h2;rcases mf post H o with⟨a1,a2⟩ | ⟨c1,a1,a2⟩
  ·rw[a2] at h1;rw[ps2_out _ a1] at h2;exact lb o ck p h1 h2
  ·rw[ps2_in _ _ a1] at h2;rcases lb' o c1 p a1 h2 with⟨o',ck',p',k1,k2,k3⟩ | k
   ·rw[<-k3];exact lb o' ck' p' (hpre o' ck' k1) k2
   ·exact .inr (Nat.le_trans fr.size k)
structure RI where
 dst:Option Nat
 op:cR
 gd:Option (Nat×Bool)
structure Rc where
 res:DV
 post:bT
 nx:Nat
 rd:List Nat
def Up.post(nx:Nat):Up->bT
 | .no=>[]
 | .wr o ck=>[(o,ck)]
 | .al ck=>[(nx,ck)]
theorem Up.VS(H:Hp)(nx:Nat)(u:Up):bK H (u.post nx)=u.hp H nx:=by cases u<;>rfl
def Yk(op:cR)(p:Bool)(s:St)(e:Rc):Prop:=
 ∃sz by' a x o ck d u,op=.app sz by' a x/\un p (a.get s.T)=.ab true []/\s.H o=some ck/\ck.xs=[]/\j2 s.H sz by' (.own o ck.gen 0 0) (un p (x.get s.T))=some (d,u)/\e=⟨d,u.post s.nx,u.nx s.nx,o::(un p (x.get s.T)).ids⟩
def axr(op:cR)(p:Bool)(s:St)(e:Rc):Prop:=
 ∃sz by' a x o ck',op=.app sz by' a x/\ev (.app sz by' a x) p s.T s.H s.nx=some (.own o ck'.gen 0 ck'.xs.length,.wr o ck')/\0<ck'.sz/\e=⟨.ab false ck'.xs,[(o,⟨ck'.gen+1,ck'.sz,[]⟩)],s.nx,cF (.app sz by' a x) p s.T⟩
def MkN(op:cR)(p:Bool)(s:St)(e:Rc):Prop:=
 ∃sz by' z l c o sz0 d ck,op=.fw sz by' z l c/\ev (.fw sz by' z l c) p s.T s.H s.nx=some (d,.al ck)/\s.H o=some ⟨0,sz0,[]⟩/\e=⟨.own o 1 0 ck.xs.length,[(o,⟨1,ck.sz,ck.xs⟩)],s.nx,[o]⟩
def kz(P:Program)(op:cR)(p:Bool)(s:St)(e:Rc):Prop:=
 (∃u,ev op p s.T s.H s.nx=some (e.res,u)/\e.post=u.post s.nx/\e.nx=u.nx s.nx/\e.rd=cF op p s.T)\/
 (∃f xs fn caps,op=.call f xs/\un p (f.get s.T)=.fn fn caps/\∃pre,de P fn (xs.map (fun x=>un p (x.get s.T))++caps) pre s.nx e.res e.post e.nx/\(∀o ck,ah pre o=some ck->s.H o=some ck)/\
  (∀o ck,ah pre o=some ck->o∈e.rd))\/
 (∃z o sz,op=.alloc z/\s.H o=some ⟨0,sz,[]⟩/\e=⟨.ptr o 1 0 0,[(o,⟨1,z.length,[z]⟩)],s.nx,[o]⟩)\/
 Yk op p s e\/axr op p s e\/MkN op p s e
def gv:DV->Bool->Option Bool
 | .v (.bool b),w=>some (b==w)
 | .gd q (.v (.bool b)),w=>some (q && (b==w))
 | .v (.tuple _),_=>some false
 | _,_=>none
def ju:cR->Bool
 | .bS _ | .pick .. | .build .. | .load .. | .mK _ | .bin .. | .pN .. | .un .. | .conv .. | .bO .. | .qI .. | .len _ | .mm .. | .jm .. =>true
 | _=>false
def fT(P:Program)(i:RI)(s:St)(e:Rc):Prop:=
 match i.gd with
 | none=>kz P i.op true s e
 | some (t,wn)=>∃p,gv (s.T t) wn=some p/\
  ((p=true/\kz P i.op true s e)\/(p=false/\e=⟨.v undef,[],s.nx,[]⟩)\/
   (ju i.op=true/\∃d,ev i.op p s.T s.H s.nx=some (d,.no)/\e=⟨.gd p d,[],s.nx,cF i.op p s.T⟩)\/
   (∃f xs fn caps d,i.op=.call f xs/\un p (f.get s.T)=.fn fn caps/\de P fn (xs.map (fun x=>un p (x.get s.T))++caps) [] s.nx d [] s.nx/\e=⟨.gd p d,[],s.nx,[]⟩))
def St.app(s:St)(dst:Option Nat)(e:Rc):St:=⟨fJ s.T dst e.res,bK s.H e.post,e.nx⟩
def rI(P:Program)(nt:Nat)(ow:Nat->Bool)(ops:Array Oper)(o:Oper):Option RI:=
 match cH P ((o.dst.map ow).getD false) o.op with
 | none=>none
 | some r=>
  if o.dst.all (fun d=>decide (d<nt))=true then
   match o.guard with
   | none=>some ⟨o.dst,r,none⟩
   | some (j,w)=>match(ops[j]?).bind (·.dst) with
    | some t=>some ⟨o.dst,r,some (t,w)⟩
    | none=>none
  else none
theorem afr{P nt ow ops o i}(h:rI P nt ow ops o=some i):i.dst=o.dst/\(∃ow',cH P ow' o.op=some i.op)/\(∀d,o.dst=some d->d<nt)/\
  ((o.guard=none/\i.gd=none)\/∃j w t,o.guard=some (j,w)/\(ops[j]?).bind (·.dst)=some t/\i.gd=some (t,w)):=by
 unfold rI at h;split at h
 ·cases h
 ·rename_i r hr;split at h
  ·rename_i hd;have hd':∀d,o.dst=some d->d<nt:=by intro d e;rw[e] at hd;simpa using hd
   split at h
   ·rename_i hg;cases h;exact⟨rfl,⟨_,hr⟩,hd',.inl ⟨hg,rfl⟩⟩
   ·rename_i j w hg;split at h
    ·rename_i t ht;cases h;exact⟨rfl,⟨_,hr⟩,hd',.inr ⟨j,w,t,hg,ht,rfl⟩⟩
    ·cases h
  ·cases h
theorem RS.pre{cx s ps a w}(r:RS cx s ps a w):iC cx s.H ps s.nx w s.T true a:=⟨r.hr,r.fr,r.lb,rfl,r.t⟩
theorem agc{H ps M nx w d wn p}{ops:Array Oper}{a:Act}{j t:Nat}(hj:(ops[j]?).bind (·.dst)=some t)(h:gv d wn=some p)(hv:VR H ps M nx w d (a.tmps.getD t undef)):
  (yielded ops a.tmps j==some wn)=p:=by
 have hy:yielded ops a.tmps j=match a.tmps[t]? with | some (.bool b)=>some b | _=>none:=by unfold yielded;rw[hj];rfl
 have hg:∀b:Bool,a.tmps.getD t undef=.bool b->yielded ops a.tmps j=some b:=by
  intro b hb;rw[hy];rw[Array.getD_eq_getD_getElem?] at hb;cases hq:a.tmps[t]? with
  | none=>rw[hq] at hb;simp[undef] at hb
  | some x=>rw[hq] at hb;simp at hb;subst hb;rfl
 have hn:(∀b,a.tmps.getD t undef≠.bool b)->yielded ops a.tmps j=none:=by
  intro hb;rw[hy];cases hq:a.tmps[t]? with
  | none=>rfl
  | some x=>
   have:a.tmps.getD t undef=x:=by rw[Array.getD_eq_getD_getElem?,hq];rfl
   rw[this] at hb;cases x<;>first | rfl | exact absurd rfl (hb _)
 unfold gv at h;split at h
 ·rename_i wn b;cases h;rw[hg b hv.e9];cases b<;>cases wn<;>rfl
 ·rename_i wn q b;cases h;cases hv with
  | gd _ _ _ h1 h2=>
   cases q with
   | true=>rw[hg b (h1 rfl).e9];cases b<;>cases wn<;>rfl
   | false=>rw[hn (by rw[h2 rfl];intro b;simp[undef])];cases wn<;>rfl
 ·cases h;rw[hn (by rw[hv.e9];intro b;simp)];cases wn<;>rfl
 ·cases h
section
variable {P:Program} {cx:Cx} {ops:Array Oper} {Q:Exit->Act->World->Prop}
theorem au1{s:St}{ps:Ps}{a:Act}{w:World}(k:iC cx s.H ps s.nx w s.T true a){ow:Bool}{o:Oper}{z:List DV}{o1 sz:Nat}(hrop:cH P ow o.op=some (.alloc z))(hH:s.H o1=some ⟨0,sz,[]⟩):
  ∃nv v w' ps',(execOp a.eval o).run P w=.ok nv w'/\(nv=.value v\/(nv=.skip/\v=undef))/\VR (s.H.put o1 (some ⟨1,z.length,[z]⟩)) ps' cx.M s.nx w' (.ptr o1 1 0 0) v/\Mv cx s.H ps s.nx w (s.H.put o1 (some ⟨1,z.length,[z]⟩)) ps' s.nx w':=by
 have hal:∃e,o.op=.alloc e/\zeroOf P e=some z:=by
  obtain⟨dst,op,type,pos,after,guard⟩:=o;simp only at hrop ⊢;cases op with
  | alloc e=>
   simp only[cH,Option.map_eq_some_iff] at hrop;obtain⟨z',h1,h2⟩:=hrop;injection h2 with h2;subst h2
   exact⟨e,rfl,h1⟩
  | call c=>
   exfalso;obtain⟨callee,args,argTypes⟩:=c;cases callee with
   | value fo=>simp only[cH] at hrop;revert hrop;(repeat' split)<;>simp
   | invoke r m=>simp[cH] at hrop
   | builtin b=>cases b<;>simp only[cH] at hrop<;>(try cases hrop;done)<;>(revert hrop;(repeat' split)<;>simp)
  | makeFunc fn first captured=>
   exfalso;cases fn<;>simp only[cH] at hrop<;>(try cases hrop;done);revert hrop;split<;>simp
  | slice t x lo hi mx=>
   exfalso;cases mx<;>simp only[cH] at hrop<;>(try cases hrop;done);revert hrop;(repeat' split)<;>simp
  | _=>
   exfalso;simp only[cH] at hrop;revert hrop
   (repeat' split)<;>simp
 obtain⟨e,hop,h1⟩:=hal;obtain⟨i,v,hi,hz,hs,hl,hva⟩:=k.va h1;have hm:Mv cx s.H ps s.nx w (s.H.put o1 (some ⟨1,z.length,[z]⟩)) (ps.put o1 (some ⟨w.heap.size,0,v.cells.size⟩)) s.nx (w.alloc (.cells v.cells e)):=by
  refine Mv.cN o1 ⟨1,z.length,[z]⟩ (some ⟨w.heap.size,0,v.cells.size⟩) s.nx _ k.hr k.fr k.lb (Nat.le_refl _) (k.hr.lt _ _ hH) (.inr ⟨_,hH,.inl (by simp)⟩) ((eA.alloc w _).rf _) ?_ ?_
  ·intro p' hp';injection hp' with hp';subst hp';exact .inr (Nat.le_refl _)
  ·intro kp;refine .inr ⟨⟨w.heap.size,0,v.cells.size⟩,v.cells,e,fun _ j=>v.cells.getD j undef,Ps.b9 ..,?_,rfl,?_,by simp[hva.l],?_,?_⟩
   ·exact gO.of (by show(w.heap.push _)[w.heap.size]? =_;simp)
   ·intro i hi;have:i=0:=by simpa using hi
    subst this;rfl
   ·intro i j hi hj;have:i=0:=by simpa using hi
    subst this;refine⟨hva.o j hj,?_⟩;have hj':j<v.cells.size:=by rw[hva.l];exact hj
    simp[Array.getD,hj']
   ·intro i j hi hj;have:i=0:=by simpa using hi
    subst this;exact(hva.r j hj).mono kp
 refine⟨.value (.pointer (some ⟨w.heap.size,0,none⟩)),.pointer (some ⟨w.heap.size,0,none⟩),w.alloc (.cells v.cells e),_,?_,.inl rfl,?_,hm⟩
 ·simp only[execOp,hop,Instr.alloc,zeroValue,typeInfo,newVar,Sem.run_bind,run_program,Result.andThen_ok,hi,Sem.run_pure,hz,AM]
 ·refine .ptr _ _ _ _ _ (k.hr.lt _ _ hH) rfl fun ck' h=>?_;rw[Hp.b9] at h;injection h with h;subst h
  exact⟨Nat.le_refl _,fun _=>⟨by simp,_,Ps.b9 ..,by simp⟩⟩
theorem akx{s:St}{ps:Ps}{a:Act}{w:World}(k:iC cx s.H ps s.nx w s.T true a){ow:Bool}{o:Oper}{sz by':Nat}{y x:RO}{o1:Nat}{ck:Ck}{d:DV}{u:Up}(hrop:cH P ow o.op=some (.app sz by' y x))(hn:un true (y.get s.T)=.ab true [])(hH:s.H o1=some ck)(hxs:ck.xs=[])
  (he:j2 s.H sz by' (.own o1 ck.gen 0 0) (un true (x.get s.T))=some (d,u)):eK P cx s.H ps s.nx w ((execOp a.eval o).run P w) d u:=by
 have nil:∀v,VR s.H ps cx.M s.nx w (un true (y.get s.T)) v->VR s.H ps cx.M s.nx w (.own o1 ck.gen 0 0) v:=by
  intro v hv;rw[hn] at hv;cases hv with
  | fm _ a cap hf=>
   refine .own _ _ _ _ _ (k.hr.lt _ _ hH) ⟨_,_,rfl⟩ fun ck' hk=>?_;rw[hH] at hk;injection hk with hk;subst hk
   exact⟨Nat.le_refl _,fun _=>⟨by simp,a,cap,rfl,by simp[hf rfl],.inl (hf rfl)⟩⟩
  | ab _ _ _ _ _ _ _ hne=>exact absurd rfl hne
 obtain⟨dst,op,type,pos,after,guard⟩:=o;simp only at hrop;cases op with
 | call c=>
  obtain⟨callee,args,argTypes⟩:=c;cases callee with
  | value fo=>exfalso;simp only[cH] at hrop;revert hrop;(repeat' split)<;>simp
  | invoke r m=>exfalso;simp[cH] at hrop
  | builtin b=>
   cases b with
   | append=>
    simp only[cH] at hrop;split at hrop
    ·rename_i s0 x0 t t' hax hat;have hargs:args= #[s0,x0]:=by rw[<-Array.toArray_toList (xs:=args),hax]
     have htys:argTypes= #[t,t']:=by rw[<-Array.toArray_toList (xs:=argTypes),hat]
     subst hargs;subst htys;split at hrop
     ·rename_i htt;subst htt;split at hrop
      ·rename_i e hu;split at hrop
       ·rename_i i z s' x' hi hz h1 h2;split at hrop
        ·rename_i h0;injection hrop with hrop;injection hrop with e1 e2 e3 e4
         subst e1;subst e2;subst e3;subst e4;obtain⟨i',v,q1,hzv,hs,hl,hva⟩:=k.va hz;rw[hi] at q1;injection q1 with q1;subst q1
         have:=Qu (P:=P) k.hr k.fr k.lb t type e i v hu hi hzv h0 hs he (nil _ (k.ro h1)) (k.ro h2);have q:=eK.qG this;simpa[execOp,resolve,invoke,builtin] using q
        ·cases hrop
       ·cases hrop
      ·cases hrop
     ·cases hrop
    ·cases hrop
   | _=>exfalso;simp only[cH] at hrop<;>(try cases hrop;done)<;>(revert hrop;(repeat' split)<;>simp)
 | makeFunc fn first captured=>
  exfalso;cases fn<;>simp only[cH] at hrop<;>(try cases hrop;done);revert hrop;split<;>simp
 | slice t x lo hi mx=>
  exfalso;cases mx<;>simp only[cH] at hrop<;>(try cases hrop;done);revert hrop;(repeat' split)<;>simp
 | _=>
  exfalso;simp only[cH] at hrop;revert hrop
  (repeat' split)<;>simp
theorem as1{H:Hp}{ps:Ps}{nx:Nat}{w:World}{T:Nat->DV}{p:Bool}{a:Act}(k:iC cx H ps nx w T p a){t e:TypeId}{i:TypeInfo}{z:List DV}{x y:Operand}{x' y':RO}{d:DV}{ck:Ck}{o1 sz0:Nat}(ht:P.underlying t=some (.slice e))(hi:P.info? e=some i)(hz:zeroOf P e=some z)(h0:0<i.size)
  (h1:Pv.ro x=some x') (h2:Pv.ro y=some y') (hH:H o1=some ⟨0,sz0,[]⟩) (h:ev (.fw i.size i.bytes z x' y') p T H nx=some (d,.al ck)):
  eK P cx H ps nx w ((do Pure.pure (Next.value (<-Instr.makeSlice t (a.eval x) (a.eval y))):Sem Next).run P w) (.own o1 1 0 ck.xs.length) (.wr o1 ⟨1,ck.sz,ck.xs⟩):=by
 have hx:=k.ro h1;have hy:=k.ro h2;obtain⟨i',v,q1,hzv,hs,hl,hva⟩:=k.va hz;rw[hi] at q1;injection q1 with q1;subst q1
 have hzz:z=v.cells.toList.map kB:=by
  obtain⟨i',v',q1,q2,_,_,q5,_⟩:=Il hz;rw[hi] at q1;injection q1 with q1;subst q1;rw[hzv] at q2;injection q2 with q2;subst q2;exact q5
 simp only[ev] at h;split at h
 ·rename_i l c hd hdy;rw[hd] at hx;rw[hdy] at hy;split at h
  ·rename_i hc;obtain⟨c1,c2,c3,c4⟩:=hc;injection h with h;injection h with e1 e2;injection e2 with e2;subst e1;subst e2
   rw[hx.e9,hy.e9];have hrun:=run_make (P:=P) w t e i v ht hi hzv .i64 .i64 l c c1 c2 (by omega) (by omega);obtain⟨ln,rfl⟩:=Int.eq_ofNat_of_zero_le c1;obtain⟨cn,rfl⟩:=Int.eq_ofNat_of_zero_le (show 0<=c by omega);simp only[Int.toNat_natCast] at hrun ⊢;have hlc:ln<=cn:=by omega
   have hrow:=Og (H:=H) (ps:=ps) (M:=cx.M) (nx:=nx) (w:=w) v i.size cn (by omega) h0 (fun j hj=>by have:=hva.o j (by rw[<-hva.l];exact hj);exact this);rw[<-hzz] at hrow;have hzl:∀c∈List.replicate cn z,c.length=i.size:=fun c hc=>by rw[List.eq_of_mem_replicate hc];omega
   have hfl:=hrow.fl hzl;have hmc:madeCells v.cells (cn*i.size)=(Array.range (cn*i.size)).map (v.cells[· % v.cells.size]!):=rfl;rw[<-hmc] at hfl;have hm:Mv cx H ps nx w (H.put o1 (some ⟨1,i.size,List.replicate ln z⟩)) (ps.put o1 (some ⟨w.heap.size,0,(madeCells v.cells (cn*i.size)).size⟩)) nx (w.alloc (.cells (madeCells v.cells (cn*i.size)) e)):=by
    refine Mv.cN o1 ⟨1,i.size,List.replicate ln z⟩ (some ⟨w.heap.size,0,(madeCells v.cells (cn*i.size)).size⟩) nx _ k.hr k.fr k.lb (Nat.le_refl _) (k.hr.lt _ _ hH) (.inr ⟨_,hH,.inl (by simp)⟩) ((eA.alloc w _).rf _) ?_ ?_
    ·intro p' hp';injection hp' with hp';subst hp';exact .inr (Nat.le_refl _)
    ·intro kp;refine .inr ⟨⟨w.heap.size,0,(madeCells v.cells (cn*i.size)).size⟩,madeCells v.cells (cn*i.size),e,fun a b=>(madeCells v.cells (cn*i.size)).toList.getD (a*i.size+b) undef,Ps.b9 ..,?_,rfl,?_,?_,?_,?_⟩
     ·exact gO.of (by show(w.heap.push _)[w.heap.size]? =_;simp)
     ·intro j hj;simp only[List.getElem_replicate];omega
     ·simp only[List.length_replicate,size_madeCells];have:=Nat.mul_le_mul_right i.size hlc;omega
     ·intro a b ha hb;simp only[List.length_replicate] at ha;have:=hfl.get (i:=a) (j:=b) (by simp;omega) hb;exact⟨this.2,by have:=this.1;simpa using this⟩
     ·intro a b ha hb;simp only[List.length_replicate] at ha;have:=hfl.r a b (by simp;omega) (by simpa using hb);have:VR H ps cx.M nx w ((List.replicate ln z)[a]'(by simpa using ha))[b] ((madeCells v.cells (cn*i.size)).toList.getD (a*i.size+b) undef):=by simpa using this
      exact this.mono kp
   refine eK.qG ⟨_,_,_,hrun,?_,by simpa[Up.hp,Up.nx] using hm⟩;simp only[Up.hp,Up.nx];refine .own _ _ _ _ _ (k.hr.lt _ _ hH) ⟨_,_,by rw[List.length_replicate]⟩ fun ck' hck'=>?_;simp only[Hp.b9,Option.some.injEq] at hck';subst hck';exact⟨Nat.le_refl _,fun _=>⟨by simp,some ⟨w.heap.size,0,none⟩,cn,by simp,by simpa using hlc,.inr ⟨⟨w.heap.size,0,(madeCells v.cells (cn*i.size)).size⟩,Ps.b9 ..,by simp,by simp[size_madeCells]⟩⟩⟩
  ·cases h
 ·cases h
theorem aw7{s:St}{ps:Ps}{a:Act}{w:World}(k:iC cx s.H ps s.nx w s.T true a){ow:Bool}{o:Oper}{sz by':Nat}{z:List DV}{l c:RO}{o1 sz0:Nat}{ck:Ck}{d:DV}(hrop:cH P ow o.op=some (.fw sz by' z l c))(hH:s.H o1=some ⟨0,sz0,[]⟩)
  (he:ev (.fw sz by' z l c) true s.T s.H s.nx=some (d,.al ck)):eK P cx s.H ps s.nx w ((execOp a.eval o).run P w) (.own o1 1 0 ck.xs.length) (.wr o1 ⟨1,ck.sz,ck.xs⟩):=by
 obtain⟨dst,op,type,pos,after,guard⟩:=o;simp only at hrop;cases op with
 | makeSlice t x y=>
  simp only[cH] at hrop;split at hrop
  ·rename_i e x' y' hu h1 h2;split at hrop
   ·rename_i i z hi hz;split at hrop
    ·rename_i h0;injection hrop with hrop;injection hrop with e1 e2 e3 e4 e5
     subst e1;subst e2;subst e3;subst e4;subst e5;exact as1 k hu hi hz h0 h1 h2 hH he
    ·cases hrop
   ·cases hrop
  ·cases hrop
 | call c=>
  exfalso;obtain⟨callee,args,argTypes⟩:=c;cases callee with
  | value fo=>simp only[cH] at hrop;revert hrop;(repeat' split)<;>simp
  | invoke r m=>simp[cH] at hrop
  | builtin b=>cases b<;>simp only[cH] at hrop<;>(try cases hrop;done)<;>(revert hrop;(repeat' split)<;>simp)
 | makeFunc fn first captured=>
  exfalso;cases fn<;>simp only[cH] at hrop<;>(try cases hrop;done);revert hrop;split<;>simp
 | slice t x lo hi mx=>
  exfalso;cases mx<;>simp only[cH] at hrop<;>(try cases hrop;done);revert hrop;(repeat' split)<;>simp
 | _=>
  exfalso;simp only[cH] at hrop;revert hrop
  (repeat' split)<;>simp
theorem avd{H:Hp}{ps:Ps}{nx:Nat}{w:World}{o:Nat}{ck:Ck}{v:Value}(hr:HR H ps cx.M nx w)(fr:Fr cx.B cx.w0 w)(lb:∀o ck p,H o=some ck->ps o=some p->cx.B p.b\/cx.w0.heap.size<=p.b)(hH:H o=some ck)(hz:0<ck.sz)
  (hv:VR H ps cx.M nx w (.own o ck.gen 0 ck.xs.length) v):Mv cx H ps nx w (H.put o (some ⟨ck.gen+1,ck.sz,[]⟩)) (ps.put o none) nx w/\VR (H.put o (some ⟨ck.gen+1,ck.sz,[]⟩)) (ps.put o none) cx.M nx w (.ab false ck.xs) v:=by
 have m:Mv cx H ps nx w (H.put o (some ⟨ck.gen+1,ck.sz,[]⟩)) (ps.put o none) nx w:=
  Mv.cN o ⟨ck.gen+1,ck.sz,[]⟩ none nx w hr fr lb (Nat.le_refl _) (hr.lt o ck hH) (.inr ⟨ck,hH,.inl (Nat.lt_succ_self _)⟩) ((eA.refl w).rf _) (fun p' h=>by cases h) fun _=>.inl ⟨Ps.b9 ..,rfl⟩
 refine⟨m,?_⟩;cases hv with
 | own _ _ _ _ _ h0 h1 hh=>
  obtain⟨_,hh⟩:=hh ck hH;obtain⟨_,a,cap,rfl,hn,hcap⟩:=hh rfl;by_cases hn0:ck.xs=[]
  ·rw[hn0];exact .fm false a cap (fun e=>by cases e)
  ·have hpos:=List.length_pos_iff.2 hn0;rcases hcap with hcap | ⟨p,hp1,rfl,htot⟩
   ·omega
   ·rcases hr.cr o ck hH with⟨q1,_⟩ | ⟨p',c,E,vs,q1,q2,q3,q4,q5,q6,q7⟩
    ·rw[hp1] at q1;cases q1
    ·rw[hp1] at q1;cases q1;refine .ab false ck.xs p.b (p.k+0*ck.sz) cap ck.sz vs hn0 hz hn (fun e=>by cases e) ?_ q4 (fun i j hi hj=>(q6 i j hi hj).1) (fun i j hi hj=>?_) (fun i j hi hj=>(q7 i j hi hj).mono m.kp)
     ·rintro(hm | ⟨j,ck',p',k1,k2,k3⟩)
      ·exact hr.dj o ck p hH hp1 hm
      ·by_cases e:j=o
       ·subst e;rw[Ps.b9] at k2;cases k2
       ·rw[Hp.aS _ _ _ e] at k1;rw[Ps.aS _ _ _ e] at k2;exact e (hr.inj j o ck' ck p' p k1 hH k2 hp1 k3)
     ·have h2:=(q6 i j hi hj).2;rw[q2.cell];rw[Nat.zero_mul,Nat.add_zero];exact h2
theorem Mz(hg:iV P cx.w0 cx.B){ow:Bool}{o:Oper}{op:cR}{s:St}{ps:Ps}{a:Act}{w:World}{e:Rc}(hrop:cH P ow o.op=some op)(R:RS cx s ps a w)(hd:∀d,o.dst=some d->d<cx.nt/\cx.fz d=none)(h:kz P op true s e)
  (K:Act->World->Prop) (hK:∀ps' a' w',RS cx (s.app o.dst e) ps' a' w'->K a' w'):o.wp P a w K Q:=by
 rcases h with⟨u,hev,hpost,hnx,_⟩ | ⟨f,xs,fn,caps,rfl,hf,pre,hcall,hpre,_⟩ | ⟨z,o1,sz,rfl,hH,rfl⟩ | ⟨sz,by',y,x,o1,ck,d,u,rfl,hn,hH,hxs,he,rfl⟩ | ⟨sz,by',y,x,o1,ck,rfl,hev,hz,rfl⟩ | ⟨sz,by',z,l,c,o1,sz0,d,ck,rfl,hev,hH,rfl⟩
 ·obtain⟨nv,v,w',ps',hrun,hnv,hv,hm⟩:=NA R.pre hrop hev;unfold Oper.wp;rw[hrun];have hst:=R.step hm hv hd;have he:s.app o.dst e=⟨fJ s.T o.dst e.res,u.hp s.H s.nx,u.nx s.nx⟩:=by simp only[St.app,hpost,hnx,Up.VS]
  rcases hnv with rfl | ⟨rfl,rfl⟩
  ·exact hK ps' _ _ (by rw[he];exact hst)
  ·exact hK ps' _ _ (by rw[he];exact hst)
 ·-- a call
  have hcall':∃c,o.op=.call c/\∃fo,c.callee=.value fo/\ro fo=some f/\mw c.args.toList=some xs:=by
   obtain⟨dst,op,type,pos,after,guard⟩:=o;simp only at hrop ⊢;cases op with
   | call c=>
    obtain⟨callee,args,argTypes⟩:=c;cases callee with
    | value fo=>
     simp only[cH] at hrop;split at hrop
     ·rename_i f' xs' h1 h2;injection hrop with hrop;injection hrop with e1 e2;subst e1;subst e2
      exact⟨_,rfl,fo,rfl,h1,h2⟩
     ·cases hrop
    | invoke r m=>simp[cH] at hrop
    | builtin b=>
     cases b<;>simp only[cH] at hrop<;>(try cases hrop;done)
     all_goals (exfalso;revert hrop;(repeat' split)<;>simp)
   | makeFunc fn first captured=>
    exfalso;cases fn<;>simp only[cH] at hrop<;>(try cases hrop;done);revert hrop;split<;>simp
   | slice t x lo hi mx=>
    exfalso;cases mx<;>simp only[cH] at hrop<;>(try cases hrop;done);revert hrop;(repeat' split)<;>simp
   | _=>
    exfalso;simp only[cH] at hrop;revert hrop
    (repeat' split)<;>simp
  obtain⟨c,hop,fo,hcl,hfo,hxs⟩:=hcall';have hfv:=R.pre.ro hfo;rw[hf] at hfv;obtain⟨cv,hfe,hcl',hcv⟩:=hfv.jQ;obtain⟨r1,r2⟩:=AA rfl R.t c.args.toList xs hxs;obtain⟨gn,hgn,hname,hbody⟩:=hcall.fn;let cargs:Array Value:=c.args.map a.eval++cv
  have hsz:cargs.size=(xs.map (fun x=>un true (x.get s.T))++caps).length:=by
   simp[cargs,r1,hcl']
  have hva:∀j (hj:j<(xs.map (fun x=>un true (x.get s.T))++caps).length),VR s.H ps cx.M s.nx w (xs.map (fun x=>un true (x.get s.T))++caps)[j] (cargs.getD j undef):=by
   intro j hj;by_cases hlt:j<xs.length
   ·have hjc:j<c.args.size:=by simpa[r1] using hlt
    have e1:cargs.getD j undef=a.eval c.args[j]:=by
     simp[cargs,Array.getD_eq_getD_getElem?,Array.getElem?_append,hjc]
    rw[e1,List.getElem_append_left (by simpa using hlt)];have:=r2 j hlt (by simpa using hjc);simpa using this
   ·have hjc:¬j<c.args.size:=by simpa[r1] using hlt
    have hj2:j-xs.length<caps.length:=by simp at hj;omega
    have hxc:xs.length=c.args.size:=by simpa using r1
    have e1:cargs.getD j undef=cv.getD (j-xs.length) undef:=by
     simp[cargs,Array.getD_eq_getD_getElem?,Array.getElem?_append,hjc,hxc]
    rw[e1,List.getElem_append_right (by simp;omega)];have:=hcv (j-xs.length) hj2;simpa using this
  have hcalls:=hcall.calls hg R.hr R.fr R.lb hpre cargs hsz hva;have hrun:(execOp a.eval o).run P w=.ok (.enter fn cargs) w:=by
   have hbn:=hbody;simp only[execOp,hop,resolve,hcl,hfe,Deferred.ofValue,Sem.run_bind,Sem.run_pure,Result.andThen_ok,invoke,callFunc,run_program,hgn];rw[if_neg (by simp[hname]),if_neg (by simp[hbn])];simp[cargs]
  unfold Oper.wp;rw[hrun];refine hcalls.mono ?_;rintro en w' ⟨v,ps',rfl,hv,hm⟩;exact hK ps' _ _ (R.step hm hv hd)
 ·-- a chunk that waited
  obtain⟨nv,v,w',ps',hrun,hnv,hv,hm⟩:=au1 R.pre hrop hH;unfold Oper.wp;rw[hrun];have hst:=R.step hm hv hd;rcases hnv with rfl | ⟨rfl,rfl⟩
  ·exact hK ps' _ _ hst
  ·exact hK ps' _ _ hst
 ·-- an append to nil that fills a chunk
  obtain⟨nv,v,w',ps',hrun,hnv,hv,hm⟩:=akx R.pre hrop hn hH hxs he;unfold Oper.wp;rw[hrun];have hst:=R.step hm hv hd;have heq:s.app o.dst ⟨d,u.post s.nx,u.nx s.nx,o1::(un true (x.get s.T)).ids⟩=⟨fJ s.T o.dst d,u.hp s.H s.nx,u.nx s.nx⟩:=by simp only[St.app,Up.VS]
  rcases hnv with rfl | ⟨rfl,rfl⟩
  ·exact hK ps' _ _ (by rw[heq];exact hst)
  ·exact hK ps' _ _ (by rw[heq];exact hst)
 ·-- an append that is frozen at once
  obtain⟨nv,v,w',ps',hrun,hnv,hv,hm⟩:=NA R.pre hrop hev;unfold Oper.wp;rw[hrun];have hst0:=R.step (dst:=none) (d:=.any) (x:=undef) hm (.any _) (fun t h=>by cases h);obtain⟨m2,v2⟩:=avd hm.hr hm.fr hm.lb (Hp.b9 ..) hz hv;have hst:=hst0.step m2 v2 hd;have heq:s.app o.dst ⟨.ab false ck.xs,[(o1,⟨ck.gen+1,ck.sz,[]⟩)],s.nx,cF (.app sz by' y x) true s.T⟩=⟨fJ s.T o.dst (.ab false ck.xs),(s.H.put o1 (some ck)).put o1 (some ⟨ck.gen+1,ck.sz,[]⟩),s.nx⟩:=by
   have:(s.H.put o1 (some ck)).put o1 (some ⟨ck.gen+1,ck.sz,[]⟩)=s.H.put o1 (some ⟨ck.gen+1,ck.sz,[]⟩):=by
    funext j
    by_cases e:j=o1
    ·subst e;rw[Hp.b9,Hp.b9]
    ·rw[Hp.aS _ _ _ e,Hp.aS _ _ _ e,Hp.aS _ _ _ e]
   rw[this];rfl
  rcases hnv with rfl | ⟨rfl,rfl⟩
  ·exact hK _ _ _ (by rw[heq];exact hst)
  ·exact hK _ _ _ (by rw[heq];exact hst)
 ·-- a make that fills a chunk
  obtain⟨nv,v,w',ps',hrun,hnv,hv,hm⟩:=aw7 R.pre hrop hH hev;unfold Oper.wp;rw[hrun];have hst:=R.step hm hv hd;rcases hnv with rfl | ⟨rfl,rfl⟩
  ·exact hK ps' _ _ hst
  ·exact hK ps' _ _ hst
theorem KY(hg0:iV P cx.w0 cx.B){ow:Nat->Bool}{o:Oper}{i:RI}{idx:Nat}{s:St}{ps:Ps}{a:Act}{w:World}{e:Rc}(ho:ops[idx]? =some o)(hi:rI P cx.nt ow ops o=some i)(R:RS cx s ps a w)(h:fT P i s e)
  (hz:∀d,i.dst=some d->cx.fz d=none) (K:Act->World->Prop) (hK:∀ps' a' w',RS cx (s.app i.dst e) ps' a' w'->K a' w') {n:Nat}:wpOpIn (FR cx.ro) n P ops Q idx K a w:=by
 obtain⟨hdst,⟨ow',hrop⟩,hd0,hg⟩:=afr hi;have hd:∀d,o.dst=some d->d<cx.nt/\cx.fz d=none:=fun d h=>⟨hd0 d h,hz d (hdst.trans h)⟩;have wP:∀{a:Act} {w:World} {K:Act->World->Prop},o.wp P a w K Q->o.wpIn (FR cx.ro) n P a w K Q:=fun h=>h.wP fun c hc=>by rw[hc] at hrop;simp[cH] at hrop
 have about:∀f,o.about P w a.eval=some f->(FR cx.ro).fn f:=fun _ _=>trivial;unfold wpOpIn;rw[ho];simp only;unfold fT at h;rw[hdst] at hK;rcases hg with⟨g1,g2⟩ | ⟨j,wn,t,g1,g2,g3⟩
 ·rw[g2] at h;have hw:Region.wanted o (yielded ops a.tmps)=true:=by simp[Region.wanted,g1]
  rw[if_pos hw];exact wP (Mz hg0 hrop R hd h K hK)
 ·rw[g3] at h;obtain⟨p,hgv,h⟩:=h;have hw:Region.wanted o (yielded ops a.tmps)=p:=by
   have:=agc g2 hgv (R.t t);simpa[Region.wanted,g1] using this
  rw[hw];have skip:p=false->∀d,VR s.H ps cx.M s.nx w d undef->RS cx (s.app o.dst ⟨d,[],s.nx,[]⟩) ps (a.put o.dst undef) w:=by
   intro _ d hv;exact R.step R.mv hv hd
  rcases h with⟨rfl,h⟩ | ⟨rfl,rfl⟩ | ⟨htot,d,hev,rfl⟩ | ⟨f,xs,fn,caps,d,hop,hf,hcall,rfl⟩
  ·rw[if_pos rfl];exact wP (Mz hg0 hrop R hd h K hK)
  ·rw[if_neg (by simp)];exact⟨about,hK ps _ _ (skip rfl _ (.v _))⟩
  ·cases p with
   | false=>
    rw[if_neg (by simp)];exact⟨about,hK ps _ _ (skip rfl _ (.gd _ _ _ (by simp) (fun _=>rfl)))⟩
   | true=>
    rw[if_pos rfl];refine wP ?_;obtain⟨nv,v,w',ps',hrun,hnv,hv,hm⟩:=NA R.pre hrop hev;unfold Oper.wp;rw[hrun];have hst:=R.step hm (VR.gd true d v (fun _=>hv) (by simp)) hd;rcases hnv with rfl | ⟨rfl,rfl⟩
    ·exact hK ps' _ _ hst
    ·exact hK ps' _ _ hst
  ·cases p with
   | false=>
    rw[if_neg (by simp)];exact⟨about,hK ps _ _ (skip rfl _ (.gd _ _ _ (by simp) (fun _=>rfl)))⟩
   | true=>
    rw[if_pos rfl];refine wP (Mz hg0 (e:=⟨d,[],s.nx,[]⟩) hrop R hd (.inr (.inl ⟨f,xs,fn,caps,hop,hf,[],hcall,(fun o ck h=>by cases h),(fun o ck h=>by cases h)⟩)) K fun ps' a' w' R'=>hK ps' a' w' ?_);refine⟨fun t=>?_,R'.nt,R'.hr,R'.fr,R'.lb,R'.df,R'.iP,R'.gm,R'.fz⟩;have:=R'.t t;simp only[St.app] at this ⊢;cases hdst:o.dst with
    | none=>rw[hdst] at this;exact this
    | some q=>
     rw[hdst] at this;simp only[fJ] at this ⊢;by_cases hq:t=q
     ·subst hq;rw[wS] at this ⊢;exact .gd true d _ (fun _=>this) (by simp)
     ·rw[tm _ _ _ _ hq] at this ⊢;exact this
end
def RI.rs(i:RI):List Nat:=(match i.gd with | some (t,_)=>[t] | none=>[])++i.op.rs
theorem kz.congr{P op p s s2 e}(h:kz P op p s e)(hT:∀t∈op.rs,s2.T t=s.T t)(hH:∀o∈e.rd,s2.H o=s.H o)(hn':s2.nx=s.nx):kz P op p s2 e:=by
 have hn:=hn';rcases h with⟨u,hev,hpost,hnx,hrd⟩ | ⟨f,xs,fn,caps,rfl,hf,pre,hcall,hpre,hrd⟩ | ⟨z,o,sz,rfl,hz,rfl⟩ | ⟨sz,by',a,x,o,ck,d,u,rfl,hn,hz,hxs,he,rfl⟩ | ⟨sz,by',a,x,o,ck,rfl,hev,hz,rfl⟩ | ⟨sz,by',z,l,c,o,sz0,d,ck,rfl,hev,hz,rfl⟩
 ·refine .inl ⟨u,?_,by rw[hn];exact hpost,by rw[hn];exact hnx,by rw[hrd,L4 hT]⟩;rw[hn,G4 hT (fun o ho=>hH o (by rw[hrd];exact ho))];exact hev
 ·simp only[cR.rs,List.mem_append,List.mem_flatMap] at hT;refine .inr (.inl ⟨f,xs,fn,caps,rfl,by rw[RO.get_congr fun t ht=>hT t (.inl ht)];exact hf,pre,?_,fun o ck ho=>by rw[hH o (hrd o ck ho)];exact hpre o ck ho,hrd⟩);have:xs.map (fun x:RO=>un p (x.get s2.T))=xs.map (fun x:RO=>un p (x.get s.T)):=List.map_congr_left fun x hx=>by rw[RO.get_congr fun t ht=>hT t (.inr ⟨x,hx,ht⟩)]
  rw[this,hn];exact hcall
 ·exact .inr (.inr (.inl ⟨z,o,sz,rfl,by rw[hH o (by simp)];exact hz,by rw[hn]⟩))
 ·simp only[cR.rs,List.mem_append] at hT;have e1:=RO.get_congr (x:=a) fun t ht=>hT t (.inl ht);have e2:=RO.get_congr (x:=x) fun t ht=>hT t (.inr ht);have e3:=hH o (by simp);refine .inr (.inr (.inr (.inl ⟨sz,by',a,x,o,ck,d,u,rfl,by rw[e1];exact hn,by rw[e3];exact hz,hxs,?_,by rw[e2,hn']⟩)));rw[e2,Rz (H:=s.H) (H':=s2.H) (fun q hq=>?_) (fun q hq=>hH q (by simp[hq]))]
  ·exact he
  ·simp only[DV.ids,List.mem_singleton] at hq;rw[hq];exact e3
 ·refine .inr (.inr (.inr (.inr (.inl ⟨sz,by',a,x,o,ck,rfl,?_,hz,by rw[hn',L4 hT]⟩))));rw[hn',G4 hT hH];exact hev
 ·refine .inr (.inr (.inr (.inr (.inr ⟨sz,by',z,l,c,o,sz0,d,ck,rfl,?_,by rw[hH o (by simp)];exact hz,by rw[hn']⟩))));rw[hn',G4 hT (fun o ho=>by simp[cF] at ho)];exact hev
theorem fT.congr{P i s s2 e}(h:fT P i s e)(hT:∀t∈i.rs,s2.T t=s.T t)(hH:∀o∈e.rd,s2.H o=s.H o)(hn:s2.nx=s.nx):fT P i s2 e:=by
 unfold fT at h ⊢;unfold RI.rs at hT;cases hg:i.gd with
 | none=>
  rw[hg] at h;exact h.congr (fun t ht=>hT t (List.mem_append_right _ ht)) hH hn
 | some g=>
  obtain⟨t,wn⟩:=g;rw[hg] at h hT;simp only at h hT ⊢;obtain⟨p,hgv,h⟩:=h;refine⟨p,by rw[hT t (by simp)];exact hgv,?_⟩;rcases h with⟨hp,h⟩ | ⟨hp,he⟩ | ⟨ht,d,hev,he⟩ | ⟨f,xs,fn,caps,d,hop,hf,hcall,he⟩
  ·exact .inl ⟨hp,h.congr (fun t ht=>hT t (List.mem_append_right _ ht)) hH hn⟩
  ·exact .inr (.inl ⟨hp,by rw[hn];exact he⟩)
  ·have hT':∀t∈i.op.rs,s2.T t=s.T t:=fun t ht=>hT t (List.mem_append_right _ ht);refine .inr (.inr (.inl ⟨ht,d,?_,by rw[hn,L4 hT'];exact he⟩));rw[hn,G4 hT' (fun o ho=>hH o (by rw[he];exact ho))];exact hev
  ·have hT':∀t∈i.op.rs,s2.T t=s.T t:=fun t ht=>hT t (List.mem_append_right _ ht);rw[hop] at hT';simp only[cR.rs,List.mem_append,List.mem_flatMap] at hT';refine .inr (.inr (.inr ⟨f,xs,fn,caps,d,hop,by rw[RO.get_congr fun t ht=>hT' t (.inl ht)];exact hf,?_,by rw[hn];exact he⟩));have:xs.map (fun x:RO=>un p (x.get s2.T))=xs.map (fun x:RO=>un p (x.get s.T)):=List.map_congr_left fun x hx=>by rw[RO.get_congr fun t ht=>hT' t (.inr ⟨x,hx,ht⟩)]
   rw[this,hn];exact hcall
def FU(i j:RI):Bool:=
 (match i.dst with | some d=> !j.rs.contains d && !(j.dst==some d) | none=>true) && (match j.dst with | some d=> !i.rs.contains d | none=>true)
theorem NZ{i j:RI}(h:FU i j=true):(∀d,i.dst=some d->d∉j.rs/\j.dst≠some d)/\(∀d,j.dst=some d->d∉i.rs):=by
 unfold FU at h;rw[Bool.and_eq_true] at h;refine⟨fun d hd=>?_,fun d hd=>?_⟩
 ·have:=h.1;rw[hd] at this;simpa using this
 ·have:=h.2;rw[hd] at this;simpa using this
def wj(e f:Rc):Prop:=(∀o,o∈e.post.map (·.1)->o∉f.rd/\o∉f.post.map (·.1))/\(∀o,o∈f.post.map (·.1)->o∉e.rd)
theorem kb{H:Hp}{l:bT}{o:Nat}(h:o∉l.map (·.1)):bK H l o=H o:=by
 rcases tS l o with⟨ck,hm,_⟩ | h'
 ·exact absurd (List.mem_map.2 ⟨(o,ck),hm,rfl⟩) h
 ·exact h' H
theorem Bt{H H':Hp}{l:bT}{o:Nat}(h:o∈l.map (·.1)):bK H l o=bK H' l o:=by
 rcases tS l o with⟨ck,hm,h'⟩ | h'
 ·rw[h' H,h' H']
 ·exfalso;have h1:∀(l:bT) (H:Hp),o∈l.map (·.1)->∃ck,bK H l o=some ck:=by
   intro l;induction l with
   | nil=>intro H h;simp at h
   | cons x l ih=>
    intro H h;rw[hP];by_cases hl:o∈l.map (·.1)
    ·exact ih _ hl
    ·have:o=x.1:=by simpa[hl] using h
     rw[kb hl,this,Hp.b9];exact⟨_,rfl⟩
  obtain⟨ck,hk⟩:=h1 l Hp.emp h;rw[h' Hp.emp] at hk;cases hk
theorem apo{H:Hp}{l m:bT}(h:∀o,o∈l.map (·.1)->o∉m.map (·.1)):bK (bK H l) m=bK (bK H m) l:=by
 funext o
 by_cases h1:o∈l.map (·.1)
 ·rw[kb (h o h1),Bt (H':=H) h1];exact Bt h1
 ·rw[kb h1];by_cases h2:o∈m.map (·.1)
  ·exact Bt h2
  ·rw[kb h2,kb h2,kb h1]
theorem asm{T:Nat->DV}{x y:Option Nat}{v u:DV}(h:∀d,x=some d->y≠some d):fJ (fJ T x v) y u=fJ (fJ T y u) x v:=by
 cases x with
 | none=>rfl
 | some d=>
  cases y with
  | none=>rfl
  | some e=>
   have hne:d≠e:=fun he=>h d rfl (he▸rfl);funext t
   simp only[fJ,cN];by_cases h1:t=e<;>by_cases h2:t=d<;>simp_all
section sched
variable (P:Program) (ris:List RI) (effs:Nat->Rc) (s0:St)
def cV(L:Nat->Bool):Nat->St
 | 0=>s0
 | k+1=>if L k=true then(cV L k).app ((ris[k]?).bind (·.dst)) (effs k) else cV L k
def fV:Nat->Bool:=fun _=>true
structure rh (n:Nat) (ord:Nat->Nat->Bool):Prop where
 len:ris.length=n
 lN:∀k (hk:k<n),fT P (ris[k]'(len▸hk)) (cV ris effs s0 fV k) (effs k)
 nx:∀k,k<n->(effs k).nx=s0.nx
 lt:∀i j,ord i j=true->i<j
 ap:∀i j (hi:i<n) (hj:j<n),i<j->ord i j=false->FU (ris[i]'(len▸hi)) (ris[j]'(len▸hj))=true
 ds:∀i j,i<n->j<n->i<j->ord i j=false->wj (effs i) (effs j)
variable {P ris effs s0}
theorem LV{n ord}(h:rh P ris effs s0 n ord)(L:Nat->Bool):∀k,k<=n->(cV ris effs s0 L k).nx=s0.nx
 | 0,_=>rfl
 | k+1,hk=>by
  unfold cV;split
  ·exact h.nx k (by omega)
  ·exact LV h L k (by omega)
theorem rh.reads{n ord}(h:rh P ris effs s0 n ord){L:Nat->Bool}(hL:∀i j,ord i j=true->L j=true->L i=true){i:Nat}(hi:i<n)(hni:L i=false)
  (hpre:∀k,ord k i=true->L k=true):(∀t∈(ris[i]'(h.len▸hi)).rs,(cV ris effs s0 L n).T t=(cV ris effs s0 fV i).T t)/\(∀o∈(effs i).rd,(cV ris effs s0 L n).H o=(cV ris effs s0 fV i).H o):=by
 have gd:∀k (hk:k<n),(ris[k]?).bind (·.dst)=(ris[k]'(h.len▸hk)).dst:=by
  intro k hk;rw[List.getElem?_eq_getElem (h.len▸hk)];rfl
 have quiet:∀k (hk:k<n),k≠i->ord k i=false->ord i k=false->(∀t∈(ris[i]'(h.len▸hi)).rs,∀T:Nat->DV,∀d,fJ T (ris[k]'(h.len▸hk)).dst d t=T t)/\(∀o∈(effs i).rd,∀H,bK H (effs k).post o=H o):=by
  intro k hk hne h1 h2;rcases Nat.lt_or_ge k i with hlt | hge
  ·have a:=NZ (h.ap k i hk hi hlt h1);have d:=h.ds k i hk hi hlt h1;refine⟨fun t ht T dv=>?_,fun o ho H=>kb fun hm=>(d.1 o hm).1 ho⟩;cases hd:(ris[k]'(h.len▸hk)).dst with
   | none=>rfl
   | some e=>simp only[fJ];exact tm _ _ _ _ fun e'=>(a.1 e hd).1 (e'▸ht)
  ·have hlt:i<k:=by omega
   have a:=NZ (h.ap i k hi hk hlt h2);have d:=h.ds i k hi hk hlt h2;refine⟨fun t ht T dv=>?_,fun o ho H=>kb fun hm=>d.2 o hm ho⟩;cases hd:(ris[k]'(h.len▸hk)).dst with
   | none=>rfl
   | some e=>simp only[fJ];exact tm _ _ _ _ fun e'=>a.2 e hd (e'▸ht)
 have up:∀k,k<=i->(∀t∈(ris[i]'(h.len▸hi)).rs,(cV ris effs s0 L k).T t=(cV ris effs s0 fV k).T t)/\(∀o∈(effs i).rd,(cV ris effs s0 L k).H o=(cV ris effs s0 fV k).H o):=by
  intro k;induction k with
  | zero=>intro _;exact⟨fun _ _=>rfl,fun _ _=>rfl⟩
  | succ k ih=>
   intro hk;obtain⟨i1,i2⟩:=ih (by omega);have hkn:k<n:=by omega
   simp only[cV,fV,if_true];by_cases hLk:L k=true
   ·rw[if_pos hLk];refine⟨fun t ht=>?_,fun o ho=>?_⟩
    ·simp only[St.app,gd k hkn];cases hd:(ris[k]'(h.len▸hkn)).dst with
     | none=>exact i1 t ht
     | some e=>
      simp only[fJ];by_cases he:t=e
      ·subst he;rw[wS,wS]
      ·rw[tm _ _ _ _ he,tm _ _ _ _ he];exact i1 t ht
    ·simp only[St.app];by_cases hm:o∈(effs k).post.map (·.1)
     ·exact Bt hm
     ·rw[kb hm,kb hm];exact i2 o ho
   ·rw[if_neg hLk];have h1:ord k i=false:=by
     cases hq:ord k i with
     | false=>rfl
     | true=>exact absurd (hpre k hq) hLk
    have h2:ord i k=false:=by
     cases hq:ord i k with
     | false=>rfl
     | true=>have:=h.lt i k hq;omega
    obtain⟨q1,q2⟩:=quiet k hkn (by omega) h1 h2;refine⟨fun t ht=>?_,fun o ho=>?_⟩
    ·simp only[St.app,gd k hkn];rw[q1 t ht];exact i1 t ht
    ·simp only[St.app];rw[q2 o ho];exact i2 o ho
 have down:∀m,i+m<=n->(∀t∈(ris[i]'(h.len▸hi)).rs,(cV ris effs s0 L (i+m)).T t=(cV ris effs s0 L i).T t)/\(∀o∈(effs i).rd,(cV ris effs s0 L (i+m)).H o=(cV ris effs s0 L i).H o):=by
  intro m;induction m with
  | zero=>intro _;exact⟨fun _ _=>rfl,fun _ _=>rfl⟩
  | succ m ih=>
   intro hm;obtain⟨i1,i2⟩:=ih (by omega);have hkn:i+m<n:=by omega
   rw[show i+(m+1)=(i+m)+1 by omega];simp only[cV];by_cases hLk:L (i+m)=true
   ·rw[if_pos hLk];have hne:i+m≠i:=by intro e;rw[e,hni] at hLk;cases hLk
    have h1:ord (i+m) i=false:=by
     cases hq:ord (i+m) i with
     | false=>rfl
     | true=>have:=h.lt _ _ hq;omega
    have h2:ord i (i+m)=false:=by
     cases hq:ord i (i+m) with
     | false=>rfl
     | true=>have:=hL _ _ hq hLk;rw[hni] at this;cases this
    obtain⟨q1,q2⟩:=quiet (i+m) hkn hne h1 h2;refine⟨fun t ht=>?_,fun o ho=>?_⟩
    ·simp only[St.app,gd _ hkn];rw[q1 t ht];exact i1 t ht
    ·simp only[St.app];rw[q2 o ho];exact i2 o ho
   ·rw[if_neg hLk];exact⟨i1,i2⟩
 obtain⟨u1,u2⟩:=up i (Nat.le_refl _);obtain⟨d1,d2⟩:=down (n-i) (by omega);rw[show i+(n-i)=n by omega] at d1 d2;exact⟨fun t ht=>(d1 t ht).trans (u1 t ht),fun o ho=>(d2 o ho).trans (u2 o ho)⟩
theorem rh.aw6{n ord}(h:rh P ris effs s0 n ord){L:Nat->Bool}(hL:∀i j,ord i j=true->L j=true->L i=true){i:Nat}(hi:i<n)(hni:L i=false)
  (hpre:∀k,ord k i=true->L k=true):fT P (ris[i]'(h.len▸hi)) (cV ris effs s0 L n) (effs i):=by
 obtain⟨h1,h2⟩:=h.reads hL hi hni hpre;exact(h.lN i hi).congr h1 h2 (by rw[LV h L n (Nat.le_refl _),LV h fV i (by omega)])
theorem rh.add{n ord}(h:rh P ris effs s0 n ord){L:Nat->Bool}(hL:∀i j,ord i j=true->L j=true->L i=true){i:Nat}(hi:i<n)(hni:L i=false):
  cV ris effs s0 (fun k=>L k || decide (k=i)) n=(cV ris effs s0 L n).app ((ris[i]'(h.len▸hi)).dst) (effs i):=by
 have gd:∀k (hk:k<n),(ris[k]?).bind (·.dst)=(ris[k]'(h.len▸hk)).dst:=by
  intro k hk;rw[List.getElem?_eq_getElem (h.len▸hk)];rfl
 have low:∀k,k<=i->cV ris effs s0 (fun k=>L k || decide (k=i)) k=cV ris effs s0 L k:=by
  intro k;induction k with
  | zero=>intro _;rfl
  | succ k ih=>
   intro hk;have:decide (k=i)=false:=by simp;omega
   simp only[cV,this,Bool.or_false,ih (by omega)]
 have high:∀m,i+1+m<=n->cV ris effs s0 (fun k=>L k || decide (k=i)) (i+1+m)=(cV ris effs s0 L (i+1+m)).app ((ris[i]'(h.len▸hi)).dst) (effs i):=by
  intro m;induction m with
  | zero=>
   intro _;simp only[Nat.add_zero,cV,hni,decide_true,Bool.or_true,if_true,Bool.false_eq_true,if_false,low i (Nat.le_refl _),gd i hi]
  | succ m ih=>
   intro hm;have hkn:i+1+m<n:=by omega
   have hd:decide (i+1+m=i)=false:=by simp;omega
   rw[show i+1+(m+1)=(i+1+m)+1 by omega];simp only[cV,hd,Bool.or_false,ih (by omega)];by_cases hLk:L (i+1+m)=true
   ·rw[if_pos hLk,if_pos hLk];have h2:ord i (i+1+m)=false:=by
     cases hq:ord i (i+1+m) with
     | false=>rfl
     | true=>have:=hL _ _ hq hLk;rw[hni] at this;cases this
    have a:=NZ (h.ap i _ hi hkn (by omega) h2);have d:=h.ds i _ hi hkn (by omega) h2;simp only[St.app,gd _ hkn,h.nx i hi,h.nx _ hkn];rw[asm fun e he=>(a.1 e he).2,apo fun o ho=>(d.1 o ho).2]
   ·rw[if_neg hLk,if_neg hLk]
 have:=high (n-(i+1)) (by omega);rwa [show i+1+(n-(i+1))=n by omega] at this
end sched
def lk(o:Oper):List Nat:=o.after.toList.filterMap fun e=>if Region.binds .any e=true then some e.on else none
def zL(acc:List Nat)(l:List Nat):Nat:=l.foldl (fun s e=>s ||| 2 ^ e ||| acc.getD e 0) 0
def jc:List Nat->List Oper->List Nat
 | acc,[]=>acc
 | acc,o::r=>jc (acc++[zL acc (lk o)]) r
def qO(bef:List Nat)(i j:Nat):Bool:=(bef.getD j 0).testBit i
theorem Uk(acc:List Nat)(i:Nat):∀(l:List Nat) (s:Nat),(l.foldl (fun s e=>s ||| 2 ^ e ||| acc.getD e 0) s).testBit i=true->s.testBit i=true\/∃e∈l,e=i\/(acc.getD e 0).testBit i=true
 | [],s,h=>.inl h
 | e::l,s,h=>by
  simp only[List.foldl_cons] at h;rcases Uk acc i l _ h with h | ⟨e',he,h⟩
  ·simp only[Nat.testBit_or,Bool.or_eq_true,Nat.testBit_two_pow,decide_eq_true_eq] at h;rcases h with(h | h) | h
   ·exact .inl h
   ·exact .inr ⟨e,by simp,.inl h⟩
   ·exact .inr ⟨e,by simp,.inr h⟩
  ·exact .inr ⟨e',List.mem_cons_of_mem _ he,h⟩
theorem UY:∀(ops:List Oper) (acc:List Nat),(jc acc ops).length=acc.length+ops.length
 | [],acc=>rfl
 | o::r,acc=>by rw[jc,UY r];simp;omega
theorem MC:∀(ops:List Oper) (acc:List Nat) (j:Nat),j<acc.length->(jc acc ops).getD j 0=acc.getD j 0
 | [],acc,j,_=>rfl
 | o::r,acc,j,h=>by
  rw[jc,MC r _ j (by simp;omega)];simp[List.getD,List.getElem?_append,h]
theorem UT:∀(ops:List Oper) (acc:List Nat) (j:Nat) (hj:j<ops.length) (i:Nat),((jc acc ops).getD (acc.length+j) 0).testBit i=true->
  ∃e∈lk ops[j],e=i\/(e<acc.length+j/\((jc acc ops).getD e 0).testBit i=true)
 | [],acc,j,hj,_,_=>by simp at hj
 | o::r,acc,0,hj,i,h=>by
  simp only[jc,Nat.add_zero,List.getElem_cons_zero] at h ⊢;rw[MC r _ _ (by simp)] at h;have:(acc++[zL acc (lk o)]).getD acc.length 0=zL acc (lk o):=by simp[List.getD]
  rw[this] at h;rcases Uk acc i _ _ h with h | ⟨e,he,h⟩
  ·simp at h
  ·refine⟨e,he,?_⟩;rcases h with h | h
   ·exact .inl h
   ·have hlt:e<acc.length:=by
     rcases Nat.lt_or_ge e acc.length with h' | h'
     ·exact h'
     ·simp[List.getD,List.getElem?_eq_none h'] at h
    refine .inr ⟨hlt,?_⟩;rw[MC r _ _ (by simp;omega)];have:(acc++[zL acc (lk o)]).getD e 0=acc.getD e 0:=by simp[List.getD,List.getElem?_append,hlt]
    rw[this];exact h
 | o::r,acc,j+1,hj,i,h=>by
  simp only[jc] at h ⊢;have:=UT r (acc++[zL acc (lk o)]) j (by simpa using hj) i (by simpa[Nat.add_assoc,Nat.add_comm 1] using h);simpa[Nat.add_assoc,Nat.add_comm 1] using this
def mZ:cR->Bool
 | .store .. | .app .. | .call .. | .box _ | .alloc _ | .fw .. =>true
 | .g9 ow .. =>ow
 | _=>false
def qT:cR->Bool
 | .alloc _ | .load .. | .store .. | .cP .. | .app .. | .mK _ | .bO .. | .jL .. | .len _ | .fw .. | .call .. =>true
 | _=>false
def DU(i j:cR):Bool:=(mZ i && (mZ j || qT j)) || (qT i && mZ j)
def G3(n:Nat):List (Nat×Nat):=(List.range n).flatMap fun j=>(List.range j).map fun i=>(i,j)
theorem Xq{n i j:Nat}(h:i<j)(hj:j<n):(i,j)∈G3 n:=by
 simp only[G3,List.mem_flatMap,List.mem_range,List.mem_map];exact⟨j,hj,i,h,rfl⟩
def wF(ris:List RI)(k:Nat):RI:=ris.getD k ⟨none,.bS (.t 0),none⟩
def Fg(bef:List Nat)(ris:List RI):List (Nat×Nat):=
 (G3 ris.length).filter fun p=> !qO bef p.1 p.2 && DU (wF ris p.1).op (wF ris p.2).op
def L9(ops:List Oper)(bef:List Nat)(ris:List RI):Bool:=
 ops.zipIdx.all (fun p=>(lk p.1).all fun e=>decide (e<p.2)) &&
 (G3 ris.length).all fun p=>qO bef p.1 p.2 || FU (wF ris p.1) (wF ris p.2)
theorem Ub{op:cR}{p:Bool}{T:Nat->DV}{H:Hp}{nx:Nat}{d:DV}{u:Up}(hw:mZ op=false)(h:ev op p T H nx=some (d,u)):u=.no:=by
 cases op<;>simp[mZ] at hw<;>simp only[ev] at h<;>
  first
   | (simp only[Option.map_eq_some_iff,Prod.mk.injEq] at h;obtain⟨_,_,_,h⟩:=h;exact h.symm)
   | (simp only[Option.some.injEq,Prod.mk.injEq] at h;exact h.2.symm)
   | skip
 case g9 ow sz z len ps=>
  subst hw;simp only[Option.map_eq_some_iff] at h;obtain⟨_,_,h⟩:=h;simp at h;exact h.2.symm
 all_goals ((repeat' split at h)<;>first | cases h;done | (simp only[Option.some.injEq,Prod.mk.injEq] at h;exact h.2.symm) | (simp only[Option.map_eq_some_iff,Prod.mk.injEq] at h;obtain⟨_,_,_,h⟩:=h;exact h.symm))
theorem Mb{P i s e}(hw:mZ i.op=false)(h:fT P i s e):e.post=[]:=by
 have hx:∀p,kz P i.op p s e->e.post=[]:=by
  intro p hx;rcases hx with⟨u,hev,hpost,_,_⟩ | ⟨f,xs,fn,caps,hop,_⟩ | ⟨z,o,sz,hop,_⟩ | ⟨_,_,_,_,_,_,_,_,hop,_⟩ | ⟨_,_,_,_,_,_,hop,_⟩ | ⟨_,_,_,_,_,_,_,_,_,hop,_⟩
  ·rw[Ub hw hev] at hpost;exact hpost
  ·rw[hop] at hw;simp[mZ] at hw
  ·rw[hop] at hw;simp[mZ] at hw
  ·rw[hop] at hw;simp[mZ] at hw
  ·rw[hop] at hw;simp[mZ] at hw
  ·rw[hop] at hw;simp[mZ] at hw
 unfold fT at h;split at h
 ·exact hx _ h
 ·obtain⟨p,_,h⟩:=h;rcases h with⟨_,h⟩ | ⟨_,rfl⟩ | ⟨_,d,_,rfl⟩ | ⟨_,_,_,_,_,_,_,_,rfl⟩
  ·exact hx _ h
  ·rfl
  ·rfl
  ·rfl
theorem Tt{P i s e}(hw:qT i.op=false)(h:fT P i s e):e.rd=[]:=by
 have hr:∀p T,cF i.op p T=[]:=by intro p T;cases hop:i.op<;>rw[hop] at hw<;>simp[qT] at hw<;>rfl
 have hx:∀p,kz P i.op p s e->e.rd=[]:=by
  intro p hx;rcases hx with⟨u,hev,_,_,hrd⟩ | ⟨f,xs,fn,caps,hop,_⟩ | ⟨z,o,sz,hop,_⟩ | ⟨_,_,_,_,_,_,_,_,hop,_⟩ | ⟨_,_,_,_,_,_,hop,_⟩ | ⟨_,_,_,_,_,_,_,_,_,hop,_⟩
  ·rw[hrd,hr]
  ·rw[hop] at hw;simp[qT] at hw
  ·rw[hop] at hw;simp[qT] at hw
  ·rw[hop] at hw;simp[qT] at hw
  ·rw[hop] at hw;simp[qT] at hw
  ·rw[hop] at hw;simp[qT] at hw
 unfold fT at h;split at h
 ·exact hx _ h
 ·obtain⟨p,_,h⟩:=h;rcases h with⟨_,h⟩ | ⟨_,rfl⟩ | ⟨_,d,_,rfl⟩ | ⟨_,_,_,_,_,_,_,_,rfl⟩
  ·exact hx _ h
  ·rfl
  ·exact hr _ _
  ·rfl
theorem aov{P i j s s' e f}(h1:fT P i s e)(h2:fT P j s' f)(hc:DU i.op j.op=false):wj e f:=by
 unfold DU at hc;rw[Bool.or_eq_false_iff,Bool.and_eq_false_iff,Bool.and_eq_false_iff,Bool.or_eq_false_iff] at hc;obtain⟨c1,c2⟩:=hc;refine⟨fun o ho=>?_,fun o ho=>?_⟩
 ·rcases c1 with c1 | ⟨c1,c3⟩
  ·rw[Mb c1 h1] at ho;simp at ho
  ·rw[Tt c3 h2,Mb c1 h2];simp
 ·rcases c2 with c2 | c2
  ·rw[Tt c2 h1];simp
  ·rw[Mb c2 h2] at ho;simp at ho
abbrev Lg:=List (List Nat×List Nat)
def M4(P:Program)(fv:DV)(args:List DV)(H:Hp)(nx:Nat)(k:DV->bT->Nat->List Nat->Prop):Prop:=
 ∃fn caps pre res post nx',fv=.fn fn caps/\de P fn (args++caps) pre nx res post nx'/\(∀o ck,ah pre o=some ck->H o=some ck)/\k res post nx' (pre.map (·.1))
def nS(r:Option (DV×Up))(k:DV->Up->Prop):Prop:=match r with
 | some (d,u)=>k d u
 | none=>False
def qC(P:Program)(op:cR)(p:Bool)(s:St)(k:DV->bT->Nat->List Nat->Prop):Prop:=
 match op with
 | .call f xs=>M4 P (un p (f.get s.T)) (xs.map fun x=>un p (x.get s.T)) s.H s.nx k
 | .alloc z=>nS (ev (.alloc z) p s.T s.H s.nx) (fun d u=>k d (u.post s.nx) (u.nx s.nx) (cF (.alloc z) p s.T))\/∃o sz,s.H o=some ⟨0,sz,[]⟩/\k (.ptr o 1 0 0) [(o,⟨1,z.length,[z]⟩)] s.nx [o]
 | .app sz by' a x=>nS (ev (.app sz by' a x) p s.T s.H s.nx) (fun d u=>k d (u.post s.nx) (u.nx s.nx) (cF (.app sz by' a x) p s.T))\/(∃o ck d u,un p (a.get s.T)=.ab true []/\s.H o=some ck/\ck.xs=[]/\j2 s.H sz by' (.own o ck.gen 0 0) (un p (x.get s.T))=some (d,u)/\k d (u.post s.nx) (u.nx s.nx) (o::(un p (x.get s.T)).ids))\/∃o ck,ev (.app sz by' a x) p s.T s.H s.nx=some (.own o ck.gen 0 ck.xs.length,.wr o ck)/\0<ck.sz/\k (.ab false ck.xs) [(o,⟨ck.gen+1,ck.sz,[]⟩)] s.nx (cF (.app sz by' a x) p s.T)
 | .fw sz by' z l c=>nS (ev (.fw sz by' z l c) p s.T s.H s.nx) (fun d u=>k d (u.post s.nx) (u.nx s.nx) (cF (.fw sz by' z l c) p s.T))\/∃o sz0 d ck,ev (.fw sz by' z l c) p s.T s.H s.nx=some (d,.al ck)/\s.H o=some ⟨0,sz0,[]⟩/\k (.own o 1 0 ck.xs.length) [(o,⟨1,ck.sz,ck.xs⟩)] s.nx [o]
 | op=>nS (ev op p s.T s.H s.nx) fun d u=>k d (u.post s.nx) (u.nx s.nx) (cF op p s.T)
def Fq(r:Option Bool)(k:Bool->Prop):Prop:=match r with
 | some p=>k p
 | none=>False
def GC(P:Program)(fv:DV)(args:List DV)(nx:Nat)(k:DV->Prop)(b:Prop):Prop:=
 (∃fn caps d,fv=.fn fn caps/\de P fn (args++caps) [] nx d [] nx/\k d)\/b
def GX(P:Program)(p:Bool)(op:cR)(s:St)(k:DV->Prop)(b:Prop):Prop:=
 match op with
 | .call f xs=>GC P (un p (f.get s.T)) (xs.map fun x=>un p (x.get s.T)) s.nx k b
 | _=>b
def jt(P:Program):List RI->Lg->St->(Lg->St->Prop)->Prop
 | [],lg,s,K=>K lg s
 | i::r,lg,s,K=>
  match i.gd with
  | none=>qC P i.op true s fun d post nx rd=>jt P r (lg++[(rd,post.map (·.1))]) ⟨fJ s.T i.dst d,bK s.H post,nx⟩ K
  | some (t,wn)=>Fq (gv (s.T t) wn) fun p=>
   if ju i.op=true then nS (ev i.op p s.T s.H s.nx) fun d _=>jt P r (lg++[(cF i.op p s.T,[])]) ⟨fJ s.T i.dst (.gd p d),s.H,s.nx⟩ K
   else GX P p i.op s (fun d=>jt P r (lg++[([],[])]) ⟨fJ s.T i.dst (.gd p d),s.H,s.nx⟩ K)
    ((p=true->qC P i.op true s fun d post nx rd=>jt P r (lg++[(rd,post.map (·.1))]) ⟨fJ s.T i.dst d,bK s.H post,nx⟩ K)/\
    (p=false->jt P r (lg++[([],[])]) ⟨fJ s.T i.dst (.v undef),s.H,s.nx⟩ K))
theorem aq4{op:cR}(h:ju op=true):mZ op=false:=by cases op<;>simp[ju] at h<;>rfl
theorem L7{P op p s k}(h:qC P op p s k):∃e:Rc,kz P op p s e/\k e.res e.post e.nx e.rd:=by
 have gen:∀op,nS (ev op p s.T s.H s.nx) (fun d u=>k d (u.post s.nx) (u.nx s.nx) (cF op p s.T))->∃e:Rc,kz P op p s e/\k e.res e.post e.nx e.rd:=by
  intro op h;cases hev:ev op p s.T s.H s.nx with
  | none=>rw[hev] at h;exact h.elim
  | some du=>
   obtain⟨d,u⟩:=du;rw[hev] at h;exact⟨⟨d,u.post s.nx,u.nx s.nx,cF op p s.T⟩,.inl ⟨u,hev,rfl,rfl,rfl⟩,h⟩
 cases op with
 | call f xs=>
  obtain⟨fn,caps,pre,res,post,nx',h1,h2,h3,h4⟩:=h;exact⟨⟨res,post,nx',pre.map (·.1)⟩,.inr (.inl ⟨f,xs,fn,caps,rfl,h1,pre,h2,h3,fun o ck ho=>List.mem_map.2 ⟨(o,ck),mS ho,rfl⟩⟩),h4⟩
 | alloc z=>
  rcases h with h | ⟨o,sz,h1,h2⟩
  ·exact gen (.alloc z) h
  ·exact⟨_,.inr (.inr (.inl ⟨z,o,sz,rfl,h1,rfl⟩)),h2⟩
 | app sz by' a x=>
  rcases h with h | h | ⟨o,ck,h1,h2,h3⟩
  ·exact gen _ h
  ·obtain⟨o,ck,d,u,h1,h2,h3,h4,h5⟩:=h;exact⟨_,.inr (.inr (.inr (.inl ⟨sz,by',a,x,o,ck,d,u,rfl,h1,h2,h3,h4,rfl⟩))),h5⟩
  ·exact⟨_,.inr (.inr (.inr (.inr (.inl ⟨sz,by',a,x,o,ck,rfl,h1,h2,rfl⟩)))),h3⟩
 | fw sz by' z l c=>
  rcases h with h | ⟨o,sz0,d,ck,h1,h2,h3⟩
  ·exact gen (.fw sz by' z l c) h
  ·exact⟨_,.inr (.inr (.inr (.inr (.inr ⟨sz,by',z,l,c,o,sz0,d,ck,rfl,h1,h2,rfl⟩)))),h3⟩
 | _=>exact gen _ h
theorem ao0{P i r lg s K}(h:jt P (i::r) lg s K):∃e:Rc,fT P i s e/\jt P r (lg++[(e.rd,e.post.map (·.1))]) (s.app i.dst e) K:=by
 simp only[jt] at h;unfold fT;cases hg:i.gd with
 | none=>
  rw[hg] at h;obtain⟨e,h1,h2⟩:=L7 h;exact⟨e,h1,h2⟩
 | some g=>
  obtain⟨t,wn⟩:=g;rw[hg] at h;simp only at h ⊢;cases hgv:gv (s.T t) wn with
  | none=>rw[hgv] at h;exact h.elim
  | some p=>
   rw[hgv] at h;simp only[Fq] at h;split at h
   ·rename_i ht;cases hev:ev i.op p s.T s.H s.nx with
    | none=>rw[hev] at h;exact h.elim
    | some du=>
     obtain⟨d,u⟩:=du;rw[hev] at h;have hu:=Ub (aq4 ht) hev;subst hu;exact⟨_,⟨p,rfl,.inr (.inr (.inl ⟨ht,d,hev,rfl⟩))⟩,h⟩
   ·have hb:((p=true->qC P i.op true s fun d post nx rd=>jt P r (lg++[(rd,post.map (·.1))]) ⟨fJ s.T i.dst d,bK s.H post,nx⟩ K)/\
      (p=false->jt P r (lg++[([],[])]) ⟨fJ s.T i.dst (.v undef),s.H,s.nx⟩ K))->∃e:Rc,(∃q,some p=some q/\
      ((q=true/\kz P i.op true s e)\/(q=false/\e=⟨.v undef,[],s.nx,[]⟩)\/(ju i.op=true/\∃d,ev i.op q s.T s.H s.nx=some (d,.no)/\e=⟨.gd q d,[],s.nx,cF i.op q s.T⟩)\/
       (∃f xs fn caps d,i.op=.call f xs/\un q (f.get s.T)=.fn fn caps/\de P fn (xs.map (fun x=>un q (x.get s.T))++caps) [] s.nx d [] s.nx/\e=⟨.gd q d,[],s.nx,[]⟩)))/\
      jt P r (lg++[(e.rd,e.post.map (·.1))]) (s.app i.dst e) K:=by
     intro h;cases p with
     | true=>
      obtain⟨e,h1,h2⟩:=L7 (h.1 rfl);exact⟨e,⟨true,rfl,.inl ⟨rfl,h1⟩⟩,h2⟩
     | false=>exact⟨_,⟨false,rfl,.inr (.inl ⟨rfl,rfl⟩)⟩,h.2 rfl⟩
    cases hop:i.op with
    | call f xs=>
     rw[hop] at h;simp only[GX] at h;rcases h with⟨fn,caps,d,g1,g2,g3⟩ | h
     ·exact⟨⟨.gd p d,[],s.nx,[]⟩,⟨p,rfl,.inr (.inr (.inr ⟨f,xs,fn,caps,d,rfl,g1,g2,rfl⟩))⟩,g3⟩
     ·rw[hop] at hb;exact hb h
    | _=>rw[hop] at h hb;exact hb h
def eX(l:List Rc)(k:Nat):Rc:=l.getD k ⟨.any,[],0,[]⟩
theorem MR(i:RI)(r:List RI)(e:Rc)(l:List Rc)(s:St):∀k,cV (i::r) (eX (e::l)) s fV (k+1)=cV r (eX l) (s.app i.dst e) fV k
 | 0=>rfl
 | k+1=>by
  have ih:=MR i r e l s k;rw[cV,ih];rfl
def dz(P:Program):List RI->Lg->St->(Lg->St->Prop)->Prop
 | [],lg,s,K=>K lg s
 | i::r,lg,s,K=>∃e:Rc,fT P i s e/\dz P r (lg++[(e.rd,e.post.map (·.1))]) (s.app i.dst e) K
theorem LJ{P}:∀(ris:List RI) (lg:Lg) (s:St) (K:Lg->St->Prop),jt P ris lg s K->dz P ris lg s K
 | [],lg,s,K,h=>h
 | i::r,lg,s,K,h=>by
  obtain⟨e,h1,h2⟩:=ao0 h;exact⟨e,h1,LJ r _ _ K h2⟩
theorem Lb{P}:∀(ris:List RI) (lg:Lg) (s:St) (K:Lg->St->Prop),dz P ris lg s K->∃l:List Rc,l.length=ris.length/\
  (∀k (hk:k<ris.length),fT P ris[k] (cV ris (eX l) s fV k) (eX l k))/\K (lg++l.map fun e=>(e.rd,e.post.map (·.1))) (cV ris (eX l) s fV ris.length)
 | [],lg,s,K,h=>⟨[],rfl,fun k hk=>by simp at hk,by simpa[dz,cV] using h⟩
 | i::r,lg,s,K,h=>by
  obtain⟨e,h1,h2⟩:=h;obtain⟨l,l1,l2,l3⟩:=Lb r _ _ K h2;refine⟨e::l,by simp[l1],fun k hk=>?_,?_⟩
  ·cases k with
   | zero=>exact h1
   | succ k=>
    rw[MR];exact l2 k (by simpa using hk)
  ·rw[List.length_cons,MR];simpa using l3
def pO(P:Program)(nt:Nat)(ow:Nat->Bool)(ops:Array Oper):List Oper->Option (List RI)
 | []=>some []
 | o::r=>match rI P nt ow ops o,pO P nt ow ops r with
  | some i,some l=>some (i::l)
  | _,_=>none
theorem xT{P nt ow ops}:∀{l:List Oper} {ris:List RI},pO P nt ow ops l=some ris->ris.length=l.length/\∀k (h1:k<l.length) (h2:k<ris.length),rI P nt ow ops l[k]=some ris[k]
 | [],ris,h=>by simp[pO] at h;subst h;exact⟨rfl,fun k h1=>by simp at h1⟩
 | o::r,ris,h=>by
  simp only[pO] at h;cases h1:rI P nt ow ops o with
  | none=>simp[h1] at h
  | some i=>
   cases h2:pO P nt ow ops r with
   | none=>simp[h1,h2] at h
   | some l=>
    simp[h1,h2] at h;subst h;obtain⟨a,b⟩:=xT h2;refine⟨by simp[a],fun k k1 k2=>?_⟩;cases k with
    | zero=>exact h1
    | succ k=>exact b k (by simpa using k1) (by simpa using k2)
section
variable {P:Program} {cx:Cx} {ops:Array Oper} {Q:Exit->Act->World->Prop}
theorem VB(hg0:iV P cx.w0 cx.B){ow:Nat->Bool}{ris:List RI}{n:Nat}(hris:pO P cx.nt ow ops ops.toList=some ris)(hz:∀k (hk:k<ris.length),∀d,ris[k].dst=some d->cx.fz d=none){l:List Rc}{s:St}(hst:∀k (hk:k<ris.length),fT P ris[k] (cV ris (eX l) s fV k) (eX l k))
  (fin:∀ps a w,RS cx (cV ris (eX l) s fV ris.length) ps a w->Q .normal a w):∀m k,k+m=ris.length->∀ps a w,RS cx (cV ris (eX l) s fV k) ps a w->wpOpsIn (FR cx.ro) n P ops Q (List.range' k m) a w
 | 0,k,hk,ps,a,w,R=>by
  have:k=ris.length:=by omega
  subst this;exact fin ps a w R
 | m+1,k,hk,ps,a,w,R=>by
  obtain⟨hl,hr⟩:=xT hris;rw[List.range'_succ,wpOpsIn_cons];have hk1:k<ris.length:=by omega
  have hk2:k<ops.toList.length:=by omega
  have ho:ops[k]? =some ops.toList[k]:=by
   have hk3:k<ops.size:=by simpa using hk2
   simp[hk3]
  refine KY hg0 ho (hr k hk2 hk1) R (hst k hk1) (hz k hk1) _ fun ps' a' w' R'=>?_;refine VB hg0 hris hz hst fin m (k+1) (by omega) ps' a' w' ?_;have:cV ris (eX l) s fV (k+1)=(cV ris (eX l) s fV k).app ris[k].dst (eX l k):=by
   simp only[cV,fV,if_true,List.getElem?_eq_getElem hk1];rfl
  rw[this];exact R'
theorem Lt{ris:List RI}{effs:Nat->Rc}{s:St}{L L':Nat->Bool}:∀n,(∀k,k<n->L k=L' k)->cV ris effs s L n=cV ris effs s L' n
 | 0,_=>rfl
 | n+1,h=>by simp only[cV,h n (by omega),Lt n fun k hk=>h k (by omega)]
theorem Y4(hg0:iV P cx.w0 cx.B){ow:Nat->Bool}{ris:List RI}{n:Nat}(hris:pO P cx.nt ow ops ops.toList=some ris)(hz:∀k (hk:k<ris.length),∀d,ris[k].dst=some d->cx.fz d=none){l:List Rc}{s:St}{ord:Nat->Nat->Bool}(hs:rh P ris (eX l) s ops.size ord)
  (hdep:∀j (hj:j<ops.size),∀e∈lk ops[j],e<j) (hord:∀j (hj:j<ops.size) i,ord i j=true->∃e∈lk ops[j],e=i\/(e<j/\ord i e=true))
  (fin:∀ps a w,RS cx (cV ris (eX l) s fV ris.length) ps a w->Q .normal a w):
  ∀(fuel:Nat) (listed:Array Bool),listed.size=ops.size->((List.range ops.size).filter fun k=> !listed.getD k false).length=fuel->
   (∀j (hj:j<ops.size),listed.getD j false=true->∀e∈lk ops[j],listed.getD e false=true)->
   ∀ps a w,RS cx (cV ris (eX l) s (fun k=>listed.getD k false) ops.size) ps a w->wpAnyIn (FR cx.ro) n P .any ops Q fuel listed a w:=by
 obtain⟨hl,hr⟩:=xT hris;have hn:ris.length=ops.size:=by simpa using hl
 have mem_ready:∀(listed:Array Bool),listed.size=ops.size->∀i,i∈Region.ready .any ops listed↔∃hi:i<ops.size,listed.getD i false=false/\∀e∈lk ops[i],listed.getD e false=true:=by
  intro listed hls i;simp only[Region.ready,List.mem_filter,List.mem_range,Bool.and_eq_true,Bool.not_eq_true'];constructor
  ·rintro⟨h1,h2,h3⟩;refine⟨h1,?_,?_⟩
   ·have:i<listed.size:=by omega
    simpa[Array.getD,this] using h2
   ·intro e he;rw[Array.getElem?_eq_getElem h1] at h3;simp only[Option.map_some,Option.getD_some] at h3;obtain⟨ed,hed,hx⟩:=List.mem_filterMap.1 he;split at hx
    ·rename_i hb;injection hx with hx;subst hx
     have hm:ed∈ops[i].after:=by simpa using hed
     obtain⟨q,hq,hqe⟩:=Array.mem_iff_getElem.1 hm;have:=Array.all_eq_true.1 h3 q hq;rw[hqe] at this;simpa[hb] using this
    ·cases hx
  ·rintro⟨h1,h2,h3⟩;refine⟨h1,?_,?_⟩
   ·have:i<listed.size:=by omega
    simpa[Array.getD,this] using h2
   ·rw[Array.getElem?_eq_getElem h1];simp only[Option.map_some,Option.getD_some];refine Array.all_eq_true.2 fun q hq=>?_;by_cases hb:Region.binds .any ops[i].after[q]=true
    ·have:=h3 ops[i].after[q].on (List.mem_filterMap.2 ⟨ops[i].after[q],by simp,by rw[if_pos hb]⟩);simp[this]
    ·simp[hb]
 have all_listed:∀(listed:Array Bool),listed.size=ops.size->Region.ready .any ops listed=[]->∀k,k<ops.size->listed.getD k false=true:=by
  intro listed hls hre k;induction k using Nat.strongRecOn with
  | _ k ih=>
   intro hk;cases hq:listed.getD k false with
   | true=>rfl
   | false=>
    have:k∈Region.ready .any ops listed:=(mem_ready listed hls k).2 ⟨hk,hq,fun e he=>ih e (hdep k hk e he) (by have:=hdep k hk e he;omega)⟩;rw[hre] at this;cases this
 have closed:∀(listed:Array Bool),listed.size=ops.size->(∀j (hj:j<ops.size),listed.getD j false=true->∀e∈lk ops[j],listed.getD e false=true)->∀i j,ord i j=true->listed.getD j false=true->listed.getD i false=true:=by
  intro listed hls hc i j;induction j using Nat.strongRecOn with
  | _ j ih=>
   intro ho hj;have hjn:j<ops.size:=by
    rcases Nat.lt_or_ge j ops.size with h | h
    ·exact h
    ·have:¬j<listed.size:=by omega
     simp[Array.getD,this] at hj
   obtain⟨e,he,h⟩:=hord j hjn i ho;have hle:=hc j hjn hj e he;rcases h with rfl | ⟨hlt,h⟩
   ·exact hle
   ·exact ih e hlt h hle
 have donefin:∀(listed:Array Bool),listed.size=ops.size->Region.ready .any ops listed=[]->∀ps a w,RS cx (cV ris (eX l) s (fun k=>listed.getD k false) ops.size) ps a w->Q .normal a w:=by
  intro listed hls hre ps a w R;refine fin ps a w ?_;rw[hn,Lt (L:=fV) (L':=fun k=>listed.getD k false) ops.size fun k hk=>(all_listed listed hls hre k hk).symm];exact R
 intro fuel;induction fuel with
 | zero=>
  intro listed hls hcount hc ps a w R;have hre:Region.ready .any ops listed=[]:=by
   apply List.eq_nil_iff_forall_not_mem.2;intro i hi;obtain⟨h1,h2,_⟩:=(mem_ready listed hls i).1 hi;have:i∈(List.range ops.size).filter fun k=> !listed.getD k false:=List.mem_filter.2 ⟨List.mem_range.2 h1,by simp[h2]⟩;rw[List.length_eq_zero_iff.1 hcount] at this;cases this
  exact⟨hre,donefin listed hls hre ps a w R⟩
 | succ fuel ih=>
  intro listed hls hcount hc ps a w R;refine⟨fun hre=>donefin listed hls hre ps a w R,fun i hi=>?_⟩;obtain⟨h1,h2,h3⟩:=(mem_ready listed hls i).1 hi;have hL:=closed listed hls hc;have hpre:∀k,ord k i=true->listed.getD k false=true:=by
   intro k hk;obtain⟨e,he,h⟩:=hord i h1 k hk;have hle:=h3 e he;rcases h with rfl | ⟨_,h⟩
   ·exact hle
   ·exact hL k e h hle
  have hstp:=hs.aw6 (L:=fun k=>listed.getD k false) hL h1 h2 hpre;have hadd:=hs.add (L:=fun k=>listed.getD k false) hL h1 h2;have hk1:i<ris.length:=by omega
  have hk2:i<ops.toList.length:=by simpa using h1
  have ho:ops[i]? =some ops.toList[i]:=by simp[h1]
  have hset:∀k,(listed.setIfInBounds i true).getD k false=(listed.getD k false || decide (k=i)):=by
   intro k;by_cases hk:k=i
   ·subst hk;have:k<listed.size:=by omega
    simp[Array.getD,this]
   ·rw[Array.getD_eq_getD_getElem?,Array.getElem?_setIfInBounds_ne (Ne.symm hk),<-Array.getD_eq_getD_getElem?];have:decide (k=i)=false:=by simp[hk]
    rw[this,Bool.or_false]
  refine KY hg0 ho (hr i hk2 hk1) R hstp (hz i hk1) _ fun ps' a' w' R'=>?_;refine ih (listed.setIfInBounds i true) (by simpa using hls) ?_ ?_ ps' a' w' ?_
  ·have hsplit:∀(m:List Nat),m.Nodup->i∈m->(m.filter fun k=> !listed.getD k false).length=(m.filter fun k=> !(listed.setIfInBounds i true).getD k false).length+1:=by
    intro m;induction m with
    | nil=>intro _ h;cases h
    | cons x m ihm=>
     intro hnd hm;have hnd':=List.nodup_cons.1 hnd;by_cases hx:x=i
     ·subst hx;have e1:(m.filter fun k=> !(listed.setIfInBounds x true).getD k false)=m.filter fun k=> !listed.getD k false:=by
       apply List.filter_congr;intro k hk;have:k≠x:=fun e=>hnd'.1 (e▸hk);rw[hset];simp[this]
      rw[List.filter_cons_of_pos (by simp[h2]),List.filter_cons_of_neg (by rw[hset];simp),e1];rfl
     ·have him:i∈m:=by
       rcases List.mem_cons.1 hm with h | h
       ·exact absurd h.symm hx
       ·exact h
      have:=ihm hnd'.2 him;have e2:(listed.setIfInBounds i true).getD x false=listed.getD x false:=by rw[hset];simp[hx]
      by_cases hlx:listed.getD x false=true
      ·rw[List.filter_cons_of_neg (by simp[hlx]),List.filter_cons_of_neg (by rw[e2];simp[hlx])];exact this
      ·rw[List.filter_cons_of_pos (by simp[hlx]),List.filter_cons_of_pos (by rw[e2];simp[hlx])];simp only[List.length_cons];omega
   have:=hsplit (List.range ops.size) List.nodup_range (List.mem_range.2 h1);omega
  ·intro j hj hlj e he;rw[hset] at hlj ⊢;simp only[Bool.or_eq_true,decide_eq_true_eq] at hlj ⊢;rcases hlj with h | h
   ·exact .inl (hc j hj h e he)
   ·subst h;exact .inl (h3 e he)
  ·rw[Lt (L':=fun k=>listed.getD k false || decide (k=i)) ops.size fun k _=>hset k,hadd];exact R'
def yo(lg:Lg)(k:Nat):List Nat×List Nat:=lg.getD k ([],[])
def xO(x y:List Nat×List Nat):Prop:=(∀o,o∈x.2->o∉y.1/\o∉y.2)/\(∀o,o∈y.2->o∉x.1)
def K2(un:List (Nat×Nat))(lg:Lg):Prop:=∀p,p∈un->xO (yo lg p.1) (yo lg p.2)
def wb(P:Program)(ris:List RI)(un:Option (List (Nat×Nat)))(s:St)(K:St->Prop):Prop:=
 match un with
 | none=>jt P ris [] s fun _ s'=>K s'
 | some l=>jt P ris [] s fun lg s'=>K2 l lg/\s'.nx=s.nx/\K s'
def zu(P:Program)(ris:List RI)(un:Option (List (Nat×Nat)))(s:St)(K:St->Prop):Prop:=
 match un with
 | none=>dz P ris [] s fun _ s'=>K s'
 | some l=>dz P ris [] s fun lg s'=>K2 l lg/\s'.nx=s.nx/\K s'
theorem wb.x{P:Program}{ris:List RI}{un:Option (List (Nat×Nat))}{s:St}{K:St->Prop}(h:wb P ris un s K):zu P ris un s K:=by
 cases un with
 | none=>exact LJ _ _ _ _ h
 | some l=>exact LJ _ _ _ _ h
theorem UQ{id:Nat}{draw:Bool}{ow:Nat->Bool}{ris:List RI}{n:Nat}{un:Option (List (Nat×Nat))}(hm:Hm P cx)(hris:pO P cx.nt ow ops ops.toList=some ris)(hz:∀k (hk:k<ris.length),∀d,ris[k].dst=some d->cx.fz d=none)
  (hun:(draw=false/\un=none)\/(draw=true/\L9 ops.toList (jc [] ops.toList) ris=true/\un=some (Fg (jc [] ops.toList) ris))) {s:St} {K:St->Prop} (h:zu P ris un s K)
  (ps:Ps) (a:Act) (w:World) (R:RS cx s ps a w) (fin:∀s' ps' a' w',K s'->RS cx s' ps' a' w'->Q .normal a' w'):(Code.region id ops draw).wpIn (FR cx.ro) n P Q a w:=by
 obtain⟨hl,_⟩:=xT hris;have hn:ris.length=ops.size:=by simpa using hl
 rcases hun with⟨rfl,rfl⟩ | ⟨rfl,eu,rfl⟩
 ·obtain⟨l,l1,l2,l3⟩:=Lb ris [] s _ h;refine wpIn_region ?_;rw[List.range_eq_range'];exact VB hm.g hris hz l2 (fun ps a w R=>fin _ ps a w l3 R) ops.size 0 (by omega) ps a w R
 ·obtain⟨l,l1,l2,l3,l4,l5⟩:=Lb ris [] s _ h;unfold L9 at eu;rw[Bool.and_eq_true,List.all_eq_true,List.all_eq_true] at eu;obtain⟨k1,k2⟩:=eu;have hdep:∀j (hj:j<ops.size),∀e∈lk ops[j],e<j:=by
   intro j hj e he;have hm:(ops[j],j)∈ops.toList.zipIdx:=by
    rw[List.mem_iff_getElem];exact⟨j,by simpa using hj,by simp⟩
   have:=List.all_eq_true.1 (k1 _ hm) e he;simpa using this
  have hord:∀j (hj:j<ops.size) i,qO (jc [] ops.toList) i j=true->∃e∈lk ops[j],e=i\/(e<j/\qO (jc [] ops.toList) i e=true):=by
   intro j hj i h;have:=UT ops.toList [] j (by simpa using hj) i (by simpa[qO] using h);simpa[qO] using this
  have hlt:∀i j,qO (jc [] ops.toList) i j=true->i<j:=by
   intro i j;induction j using Nat.strongRecOn with
   | _ j ih=>
    intro h;have hj:j<ops.size:=by
     rcases Nat.lt_or_ge j ops.size with h' | h'
     ·exact h'
     ·have:(jc [] ops.toList).length<=j:=by rw[UY];simpa using h'
      simp[qO,List.getD,List.getElem?_eq_none this] at h
    obtain⟨e,he,hh⟩:=hord j hj i h;have:=hdep j hj e he;rcases hh with rfl | ⟨_,hh⟩
    ·exact this
    ·have:=ih e this hh;omega
  have hra:∀k (hk:k<ris.length),wF ris k=ris[k]:=by intro k hk;simp[wF,List.getD,hk]
  have hgetl:∀k,k<ops.size->yo ([]++l.map fun e=>(e.rd,e.post.map (·.1))) k=((eX l k).rd,(eX l k).post.map (·.1)):=by
   intro k hk;have:k<l.length:=by omega
   simp[yo,eX,List.getD,this]
  have nxall:∀k,k<ops.size->(eX l k).nx=s.nx:=by
   have le1:∀k (hk:k<ris.length),(cV ris (eX l) s fV k).nx<=(eX l k).nx:=by
    intro k hk;have hx:∀p,kz P ris[k].op p (cV ris (eX l) s fV k) (eX l k)->(cV ris (eX l) s fV k).nx<=(eX l k).nx:=by
     intro p hx;rcases hx with⟨u,_,_,hnx,_⟩ | ⟨_,_,_,_,_,_,_,hc,_⟩ | ⟨_,_,_,_,_,he⟩ | ⟨_,_,_,_,_,_,_,u,_,_,_,_,_,he⟩ | ⟨_,_,_,_,_,_,_,_,_,he⟩ | ⟨_,_,_,_,_,_,_,_,_,_,_,_,he⟩
     ·rw[hnx];cases u<;>simp[Up.nx]
     ·exact hc.le
     ·rw[he];exact Nat.le_refl _
     ·rw[he];cases u<;>simp[Up.nx]
     ·rw[he];exact Nat.le_refl _
     ·rw[he];exact Nat.le_refl _
    have:=l2 k hk;unfold fT at this;split at this
    ·exact hx _ this
    ·obtain⟨p,_,h⟩:=this;rcases h with⟨_,h⟩ | ⟨_,h⟩ | ⟨_,d,_,h⟩ | ⟨_,_,_,_,_,_,_,_,h⟩
     ·exact hx _ h
     ·rw[h];exact Nat.le_refl _
     ·rw[h];exact Nat.le_refl _
     ·rw[h];exact Nat.le_refl _
   have step:∀k,(cV ris (eX l) s fV (k+1)).nx=(eX l k).nx:=by intro k;simp only[cV,fV,if_true];rfl
   have mono:∀m k,k+m<=ris.length->(cV ris (eX l) s fV k).nx<=(cV ris (eX l) s fV (k+m)).nx:=by
    intro m;induction m with
    | zero=>intro k _;exact Nat.le_refl _
    | succ m ih=>
     intro k hk;refine Nat.le_trans (ih k (by omega)) ?_;rw[show k+(m+1)=(k+m)+1 by omega,step];exact le1 (k+m) (by omega)
   intro k hk;have a1:=mono k 0 (by omega);have a2:=le1 k (by omega);have a3:=mono (ris.length-(k+1)) (k+1) (by omega);rw[show k+1+(ris.length-(k+1))=ris.length by omega,step,l4] at a3;have:(cV ris (eX l) s fV 0).nx=s.nx:=rfl;rw[Nat.zero_add] at a1;omega
  have hs:rh P ris (eX l) s ops.size (qO (jc [] ops.toList)):=by
   refine⟨hn,fun k hk=>l2 k (by omega),nxall,hlt,fun i j hi hj hij ho=>?_,fun i j hi hj hij ho=>?_⟩
   ·have:=k2 (i,j) (Xq hij (by omega));simp only[ho,Bool.false_or] at this;rwa [hra i (by omega),hra j (by omega)] at this
   ·by_cases hc:DU ris[i].op ris[j].op=true
    ·have hmem:(i,j)∈Fg (jc [] ops.toList) ris:=by
      unfold Fg;refine List.mem_filter.2 ⟨Xq hij (by omega),?_⟩;simp only[ho,Bool.not_false,Bool.true_and];rw[hra i (by omega),hra j (by omega)];exact hc
     have:=l3 _ hmem;rw[hgetl i hi,hgetl j hj] at this;exact this
    ·exact aov (l2 i (by omega)) (l2 j (by omega)) (by simpa using hc)
  refine wpIn_region_any hm.m ?_;refine Y4 hm.g hris hz hs hdep hord (fun ps a w R=>fin _ ps a w l5 R) ops.size (Array.replicate ops.size false) (by simp) ?_ ?_ ps a _ ?_
  ·have:((List.range ops.size).filter fun k=> !(Array.replicate ops.size false).getD k false)=List.range ops.size:=by
    apply List.filter_eq_self.2;intro k hk;have:k<ops.size:=by simpa using hk
    simp[Array.getD,this]
   rw[this];simp
  ·intro j hj h;simp[Array.getD,hj] at h
  ·have:∀n,cV ris (eX l) s (fun k=>(Array.replicate ops.size false).getD k false) n=s:=by
    intro n;induction n with
    | zero=>rfl
    | succ n ih=>
     have:(Array.replicate ops.size false).getD n false=false:=by simp[Array.getD]
     simp only[cV,this,Bool.false_eq_true,if_false,ih]
   rw[this];exact R.je (eA.drawn w _)
end
inductive AC where
 | skip
 | rg (ris:List RI) (un:Option (List (Nat×Nat)))
 | seq (a b:AC)
 | cond (c:RO) (a b:AC)
 | block (id:Nat) (c:AC)
 | loop (c:AC)
 | exit (id:Nat)
 | ret
 | bad
 | pv (g:RO) (p:Nat) (a b:AC)
def AC.qV(fz:Nat->Option Value):AC->Prop
 | .rg ris _=>∀k (hk:k<ris.length),∀d,ris[k].dst=some d->fz d=none
 | .seq a b=>a.qV fz/\b.qV fz
 | .cond _ a b=>a.qV fz/\b.qV fz
 | .block _ c=>c.qV fz
 | .loop c=>c.qV fz
 | _=>True
theorem AC.pd:∀(ac:AC),ac.qV (fun _=>none)
 | .rg _ _=>fun _ _ _ _=>rfl
 | .seq a b=>⟨a.pd,b.pd⟩
 | .cond _ a b=>⟨a.pd,b.pd⟩
 | .block _ c=>c.pd
 | .loop c=>c.pd
 | .skip | .exit _ | .ret | .bad | .pv _ _ _ _=>trivial
def comp(P:Program)(nt:Nat)(ow:Nat->Bool):Code->Option AC
 | .skip=>some .skip
 | .label _=>some .skip
 | .region _ ops draw=>match pO P nt ow ops ops.toList with
  | some ris=>if draw=true then(if L9 ops.toList (jc [] ops.toList) ris=true then some (.rg ris (some (Fg (jc [] ops.toList) ris))) else some .bad) else some (.rg ris none)
  | none=>some .bad
 | .seq a b=>match comp P nt ow a,comp P nt ow b with
  | some x,some y=>some (.seq x y)
  | _,_=>none
 | .cond c a b=>match ro c,comp P nt ow a,comp P nt ow b with
  | some r,some x,some y=>some (.cond r x y)
  | _,_,_=>none
 | .block id c=>match comp P nt ow c with
  | some x=>some (.block id x)
  | none=>none
 | .loop c=>match comp P nt ow c with
  | some x=>some (.loop x)
  | none=>none
 | .exit id=>some (.exit id)
 | .ret=>some .ret
 | .rangeFunc g ps a b=>match ro g,ps.toList,comp P nt ow a,comp P nt ow b with
  | some r,[p],some x,some y=>if p<nt then some (.pv r p x y) else some .bad
  | _,_,_,_=>some .bad
 | _=>some .bad
def ar(P:Program)(cx:Cx)(ow:Nat->Bool)(ac:AC)(Q:Exit->St->Prop)(s:St):Prop:=
 Hm P cx->∀c,comp P cx.nt ow c=some ac->ac.qV cx.fz->∀ps a w,RS cx s ps a w->c.wpIn (FR cx.ro) 0 P (fun e a' w'=>∃s' ps',RS cx s' ps' a' w'/\Q e s') a w
def oW(K:St->Prop)(Q:Exit->St->Prop):Exit->St->Prop
 | .normal,s=>K s
 | e,s=>Q e s
def uX(id:Nat)(Q:Exit->St->Prop):Exit->St->Prop
 | .exit id',s=>if id'=id then Q .normal s else Q (.exit id') s
 | e,s=>Q e s
def Wk(cx:Cx)(s s':St):Prop:=∀ps a w,RS cx s ps a w->∃ps',RS cx s' ps' a w
section
variable {P:Program} {cx:Cx} {ow:Nat->Bool} {Q:Exit->St->Prop} {s:St}
theorem ar.wk{ac:AC}{s':St}(h:Wk cx s s')(k:ar P cx ow ac Q s'):ar P cx ow ac Q s:=fun hm c hc hz ps a w R=>by
 obtain⟨ps',R'⟩:=h ps a w R;exact k hm c hc hz ps' a w R'
theorem ar.mono{ac:AC}{Q':Exit->St->Prop}(h:ar P cx ow ac Q s)(hq:∀e s,Q e s->Q' e s):ar P cx ow ac Q' s:=fun hm c hc hz ps a w R=>
 wpIn_mono (h hm c hc hz ps a w R) fun e a w ⟨s',ps',R',q⟩=>⟨s',ps',R',hq _ _ q⟩
theorem ar.skip(h:Q .normal s):ar P cx ow .skip Q s:=fun hm c hc hz ps a w R=>by
 cases c<;>simp only[comp] at hc<;>(try cases hc;done)
 ·exact wpIn_skip ⟨s,ps,R,h⟩
 all_goals (first | exact wpIn_label ⟨s,ps,R,h⟩ | (exfalso;revert hc;(repeat' split)<;>simp))
theorem ar.seq{x y:AC}(h:ar P cx ow x (oW (fun s'=>ar P cx ow y Q s') Q) s):ar P cx ow (.seq x y) Q s:=fun hm c hc hz ps a w R=>by
 cases c with
 | seq c1 c2=>
  simp only[comp] at hc;split at hc
  ·rename_i x' y' h1 h2;injection hc with hc;injection hc with e1 e2;subst e1;subst e2
   refine wpIn_seq (wpIn_mono (h hm c1 h1 hz.1 ps a w R) ?_);rintro e a' w' ⟨s',ps',R',q⟩;cases e with
   | normal=>exact q hm c2 h2 hz.2 ps' a' w' R'
   | _=>exact⟨s',ps',R',q⟩
  ·cases hc
 | _=>exfalso;simp only[comp] at hc;revert hc;(repeat' split)<;>simp
theorem ar.cond{c:RO}{x y:AC}{b:Bool}(hb:c.get s.T=.v (.bool b))(h1:b=true->ar P cx ow x Q s)(h2:b=false->ar P cx ow y Q s):ar P cx ow (.cond c x y) Q s:=fun hm cc hc hz ps a w R=>by
 cases cc with
 | cond c' c1 c2=>
  simp only[comp] at hc;split at hc
  ·rename_i r x' y' k1 k2 k3;injection hc with hc;injection hc with e1 e2 e3;subst e1;subst e2;subst e3
   have hv:=EL (a:=a) k1 R.t;rw[hb] at hv;refine wpIn_cond_split hv.e9 (fun e=>h1 e hm c1 k2 hz.1 ps a w R) (fun e=>h2 e hm c2 k3 hz.2 ps a w R)
  ·cases hc
 | _=>exfalso;simp only[comp] at hc;revert hc;(repeat' split)<;>simp
theorem ar.block{id:Nat}{x:AC}(h:ar P cx ow x (uX id Q) s):ar P cx ow (.block id x) Q s:=fun hm c hc hz ps a w R=>by
 cases c with
 | block id' c1=>
  simp only[comp] at hc;split at hc
  ·rename_i x' h1;injection hc with hc;injection hc with e1 e2;subst e1;subst e2
   refine wpIn_block (wpIn_mono (h hm c1 h1 hz ps a w R) ?_);rintro e a' w' ⟨s',ps',R',q⟩;cases e with
   | exit id2=>
    simp only[Exit.inBlock,uX] at q ⊢;split
    ·rename_i he;rw[if_pos he] at q;exact⟨s',ps',R',q⟩
    ·rename_i he;rw[if_neg he] at q;exact⟨s',ps',R',q⟩
   | _=>exact⟨s',ps',R',q⟩
  ·cases hc
 | _=>exfalso;simp only[comp] at hc;revert hc;(repeat' split)<;>simp
theorem ar.exit{id:Nat}(h:Q (.exit id) s):ar P cx ow (.exit id) Q s:=fun hm c hc hz ps a w R=>by
 cases c with
 | exit id'=>simp only[comp,Option.some.injEq,AC.exit.injEq] at hc;subst hc;exact wpIn_exit ⟨s,ps,R,h⟩
 | _=>exfalso;simp only[comp] at hc;revert hc;(repeat' split)<;>simp
theorem ar.ret(h:Q .ret s):ar P cx ow .ret Q s:=fun hm c hc hz ps a w R=>by
 cases c with
 | ret=>exact wpIn_ret ⟨s,ps,R,h⟩
 | _=>exfalso;simp only[comp] at hc;revert hc;(repeat' split)<;>simp
theorem ar.dL{ris:List RI}{un:Option (List (Nat×Nat))}(h:zu P ris un s (fun s'=>Q .normal s')):ar P cx ow (.rg ris un) Q s:=fun hm c hc hz ps a w R=>by
 cases c with
 | region id ops draw=>
  simp only[comp] at hc;split at hc
  ·rename_i ris' h1;split at hc
   ·rename_i hd;split at hc
    ·rename_i eu;injection hc with hc;injection hc with e1 e2;subst e1;subst e2
     exact UQ hm h1 hz (.inr ⟨hd,eu,rfl⟩) h ps a w R fun s' ps' a' w' q R'=>⟨s',ps',R',q⟩
    ·cases hc
   ·rename_i hd;injection hc with hc;injection hc with e1 e2;subst e1;subst e2
    exact UQ hm h1 hz (.inl ⟨by simpa using hd,rfl⟩) h ps a w R fun s' ps' a' w' q R'=>⟨s',ps',R',q⟩
  ·cases hc
 | _=>exfalso;simp only[comp] at hc;revert hc;(repeat' split)<;>simp
def jB(P:Program)(cx:Cx):List RI->St->(St->Prop)->Prop
 | [],s,K=>cx.nb<=s.nx->∃s0,Wk cx s s0/\K s0
 | i::r,s,K=>cx.nb<=s.nx->∃s0,Wk cx s s0/\∃e:Rc,fT P i s0 e/\jB P cx r (s0.app i.dst e) K
theorem jB.wk{ris:List RI}{s s':St}{K:St->Prop}(w:Wk cx s s')(hn:cx.nb<=s'.nx)(h:jB P cx ris s' K):jB P cx ris s K:=by
 cases ris with
 | nil=>exact fun _=>by obtain⟨s0,w0,h⟩:=h hn;exact⟨s0,fun ps a wd R=>by obtain⟨ps',R'⟩:=w ps a wd R;exact w0 ps' a wd R',h⟩
 | cons i r=>exact fun _=>by obtain⟨s0,w0,h⟩:=h hn;exact⟨s0,fun ps a wd R=>by obtain⟨ps',R'⟩:=w ps a wd R;exact w0 ps' a wd R',h⟩
theorem jB.nb{ris:List RI}{s:St}{K:St->Prop}(h:cx.nb<=s.nx->jB P cx ris s K):jB P cx ris s K:=by
 cases ris with
 | nil=>exact fun hn=>h hn hn
 | cons i r=>exact fun hn=>h hn hn
theorem jB.of:∀{a b:List RI} {lg:Lg} {s:St} {K:St->Prop},dz P a lg s (fun _ s'=>jB P cx b s' K)->jB P cx (a++b) s K
 | [],b,lg,s,K,h=>h
 | i::a,b,lg,s,K,h=>by
  obtain⟨e,h1,h2⟩:=h;exact fun _=>⟨s,fun ps a w R=>⟨ps,R⟩,e,h1,jB.of h2⟩
theorem Uf(hg0:iV P cx.w0 cx.B){n:Nat}{ow:Nat->Bool}{ops:Array Oper}{ris:List RI}{Q:Exit->Act->World->Prop}{K:St->Prop}(hris:pO P cx.nt ow ops ops.toList=some ris)(hz:∀k (hk:k<ris.length),∀d,ris[k].dst=some d->cx.fz d=none)(fin:∀s ps a w,K s->RS cx s ps a w->Q .normal a w):
  ∀(l:List RI) (k:Nat) (s:St),ris.drop k=l->k+l.length=ris.length->jB P cx l s K->∀ps a w,RS cx s ps a w->wpOpsIn (FR cx.ro) n P ops Q (List.range' k l.length) a w
 | [],k,s,hl,hk,h,ps,a,w,R=>by
  obtain⟨s0,w0,h⟩:=h R.iP;obtain⟨ps',R'⟩:=w0 ps a w R;exact fin s0 ps' a w h R'
 | i::l,k,s,hl,hk,h,ps,a,w,R=>by
  obtain⟨hlen,hr⟩:=xT hris;obtain⟨s0,w0,e,h1,h2⟩:=h R.iP;obtain⟨ps',R'⟩:=w0 ps a w R;simp only[List.length_cons] at hk ⊢;rw[List.range'_succ,wpOpsIn_cons];have hk1:k<ris.length:=by omega
  have hk2:k<ops.toList.length:=by omega
  have ho:ops[k]? =some ops.toList[k]:=by
   have hk3:k<ops.size:=by simpa using hk2
   simp[hk3]
  have hi:ris[k]=i:=by
   have:=List.getElem_drop (xs:=ris) (i:=k) (j:=0) (h:=by rw[hl];simp);simp only[hl,List.getElem_cons_zero,Nat.add_zero] at this;exact this.symm
  refine KY hg0 ho (hi▸hr k hk2 hk1) R' h1 (hi▸hz k hk1) _ fun ps2 a2 w2 R2=>?_;refine Uf hg0 hris hz fin l (k+1) _ ?_ (by omega) h2 ps2 a2 w2 R2;rw[<-List.drop_drop,hl];rfl
theorem ar.rgW{ris:List RI}(h:jB P cx ris s (fun s'=>Q .normal s')):ar P cx ow (.rg ris none) Q s:=fun hm c hc hz ps a w R=>by
 cases c with
 | region id ops draw=>
  simp only[comp] at hc;split at hc
  ·rename_i ris' h1;split at hc
   ·split at hc
    ·injection hc with hc;injection hc with e1 e2;cases e2
    ·cases hc
   ·rename_i hd;injection hc with hc;injection hc with e1 e2;subst e1
    have hdf:draw=false:=by simpa using hd
    subst hdf;obtain⟨hl,_⟩:=xT h1;refine wpIn_region ?_;have hn:ris'.length=ops.size:=by simpa using hl
    rw[List.range_eq_range',<-hn];exact Uf hm.g h1 hz (fun s' ps' a' w' q R'=>⟨s',ps',R',q⟩) ris' 0 s (by simp) (by omega) h ps a w R
  ·cases hc
 | _=>exfalso;simp only[comp] at hc;revert hc;(repeat' split)<;>simp
theorem ar.rg{ris:List RI}{un:Option (List (Nat×Nat))}(h:wb P ris un s (fun s'=>Q .normal s')):ar P cx ow (.rg ris un) Q s:=ar.dL h.x
end
inductive RR where
 | t (n:Nat)
 | cell (a:Nat) (ag:Bool) (n:Nat)
def mX(P:Program):List ResultVar->Option (List RR)
 | []=>some []
 | .tmp t::r=>match mX P r with
  | some l=>some (.t t::l)
  | none=>none
 | .cell a t::r=>match iH P t,hO P t,mX P r with
  | some ag,some n,some l=>if ag || n==1 then some (.cell a ag n::l) else none
  | _,_,_=>none
def jP(T:Nat->DV)(H:Hp):List RR->Option (List DV)
 | []=>some []
 | .t n::r=>match jP T H r with
  | some l=>some (T n::l)
  | none=>none
 | .cell a ag n::r=>match jK H ag n (T a),jP T H r with
  | some d,some l=>some (d::l)
  | _,_=>none
def ft:List DV->DV
 | [d]=>d
 | l=>.bh l
def yh(tmps:Array Value):ResultVar->Sem Value
 | .tmp t=>Pure.pure (tmps.getD t undef)
 | .cell a t=>do loadVar t (<-asAddr (tmps.getD a undef))
theorem BT{P:Program}{H ps M nx w T}{tmps:Array Value}(hr:HR H ps M nx w)(hT:∀t,VR H ps M nx w (T t) (tmps.getD t undef)):∀(l:List ResultVar) (rs:List RR) (ds:List DV),mX P l=some rs->jP T H rs=some ds->
  ∃vs:List Value,(l.mapM (yh tmps)).run P w=Result.ok vs w/\vs.length=ds.length/\∀j (h1:j<ds.length) (h2:j<vs.length),VR H ps M nx w ds[j] vs[j]
 | [],rs,ds,h1,h2=>by simp[mX] at h1;subst h1;simp[jP] at h2;subst h2;exact⟨[],by simp,rfl,fun j h=>by simp at h⟩
 | .tmp t::r,rs,ds,h1,h2=>by
  simp only[mX] at h1;split at h1
  ·rename_i l hl;injection h1 with h1;subst h1
   simp only[jP] at h2;split at h2
   ·rename_i ds' hd;injection h2 with h2;subst h2
    obtain⟨vs,k1,k2,k3⟩:=BT hr hT r l ds' hl hd;refine⟨tmps.getD t undef::vs,by simp[List.mapM_cons,yh,k1],by simp[k2],fun j g1 g2=>?_⟩;cases j with
    | zero=>exact hT t
    | succ j=>exact k3 j (by simpa using g1) (by simpa using g2)
   ·cases h2
  ·cases h1
 | .cell a t::r,rs,ds,h1,h2=>by
  simp only[mX] at h1;split at h1
  ·rename_i ag n l hag hn hl;split at h1
   ·rename_i hc;injection h1 with h1;subst h1
    simp only[jP] at h2;split at h2
    ·rename_i d ds' hd hds;injection h2 with h2;subst h2
     obtain⟨vs,k1,k2,k3⟩:=BT hr hT r l ds' hl hds;obtain⟨b,off,f,cs,hx,hcn,hcell,h1c,hvs,hr'⟩:=VX hr hd (hT a);have hrun:=Q3 hag hn hc w b off f hcell;obtain⟨v,hv1,hv2⟩:=RH (P:=P) hr hag hn hc hd (hT a);have hv1':(loadVar t ⟨b,off,none⟩).run P w=.ok v w:=by
      rw[hx] at hv1;simpa[Instr.loadAt,Instr.sureAddr] using hv1
     refine⟨v::vs,by simp[List.mapM_cons,yh,hx,asAddr,hv1',k1],by simp[k2],fun j g1 g2=>?_⟩;cases j with
     | zero=>exact hv2
     | succ j=>exact k3 j (by simpa using g1) (by simpa using g2)
    ·cases h2
   ·cases h1
  ·cases h1
def fA(args:List DV):Nat->DV:=fun t=>args.getD t .any
theorem de.intro{P:Program}{f:FuncId}{fn:Func}{c:Code}{ac:AC}{ow:Nat->Bool}{rs:List RR}{args:List DV}{pre:bT}{nb:Nat}{res:DV}{post:bT}{nx':Nat}(hm:P.follows .mixedOrders=true)
  (hf:P.funcs[f]? =some fn) (hname:(fn.name== "runtime.NumGoroutine")=false) (hb:fn.body=some c) (hc:comp P fn.ntmps ow c=some ac) (hrs:mX P fn.results.toList=some rs) (hlen:args.length<=fn.ntmps)
  (af:∀o ck,ah pre o=some ck->∃ck',ah post o=some ck') (fL:∀o ck',ah post o=some ck'->o<nb->∃ck,ah pre o=some ck) (le:nb<=nx')
  (ids:bB (fun o=>(∃ck,ah post o=some ck)\/(nb<=o/\o<nx')) res) (j9:∀o ck,ah post o=some ck->∀x,x∈ck.xs->∀c,c∈x->bB (fun o=>(∃ck,ah post o=some ck)\/(nb<=o/\o<nx')) c)
  (plt:∀o ck,ah post o=some ck->o<nx')
  (h:∀cx:Cx,cx.nt=fn.ntmps->cx.nb=nb->ar P cx ow ac (fun e s'=>(e=.normal\/e=.ret)/\(∃ds,jP s'.T s'.H rs=some ds/\ft ds=res)/\∀o ck,ah post o=some ck->s'.H o=some ck) ⟨fA args,ah pre,nb⟩):
  de P f args pre nb res post nx':=by
 refine⟨⟨fn,hf,hname,by rw[hb];rfl⟩,af,fL,le,ids,j9,fun M ps w cargs hr hsz hva hgl=>?_⟩;let cx:Cx:=⟨fn.ntmps,M,Live (ah pre) ps,w,ah pre,ps,nb,none,fun _=>none,[]⟩
 refine Oy (cx:=cx) hf hb rfl ?_;have R:RS cx ⟨fA args,ah pre,nb⟩ ps {tmps:=cargs++Array.replicate (fn.ntmps-cargs.size) undef,defers:=[]} w:=by
  refine⟨fun t=>?_,by simp[cx];omega,hr,Fr.refl _ _,fun o ck p h1 h2=>.inl ⟨o,ck,p,h1,h2,rfl⟩,Marks.nil,Nat.le_refl _,fun o _ ck' hk=>⟨ck',hk,.inr ⟨rfl,rfl,Nat.le_refl _,rfl⟩⟩,fun t v h=>by cases h⟩;by_cases ht:t<args.length
  ·have e1:fA args t=args[t]:=by simp[fA,List.getD,ht]
   have e2:(cargs++Array.replicate (fn.ntmps-cargs.size) undef).getD t undef=cargs.getD t undef:=by
    have:t<cargs.size:=by omega
    simp[Array.getD_eq_getD_getElem?,Array.getElem?_append,this]
   show VR (ah pre) ps M nb w (fA args t) ((cargs++Array.replicate (fn.ntmps-cargs.size) undef).getD t undef);rw[e1,e2];exact hva t ht
  ·have e1:fA args t=.any:=by simp[fA,List.getD,List.getElem?_eq_none (Nat.le_of_not_lt ht)]
   show VR (ah pre) ps M nb w (fA args t) _;rw[e1];exact .any _
 refine wpIn_mono (h cx rfl rfl ⟨hm,hgl⟩ c hc ac.pd ps _ w R) ?_;rintro e a' w1 ⟨s',ps',R1,he,⟨ds,hds,hres⟩,hpost⟩;refine⟨he,s',ps',R1,fun w' R'=>?_⟩;have hbp:∃v,(results fn a'.tmps).run P w'=.ok v w'/\VR s'.H ps' M s'.nx w' res v:=by
  obtain⟨vs,k1,k2,k3⟩:=BT (P:=P) (tmps:=a'.tmps) R'.hr R'.t fn.results.toList rs ds hrs hds;refine⟨if h:vs.toArray.size=1 then vs.toArray[0] else .tuple vs.toArray,?_,?_⟩
  ·have hres:results fn a'.tmps=(do let vs<-fn.results.mapM (yh a'.tmps);Pure.pure (if h:vs.size=1 then vs[0] else .tuple vs)):=by
    unfold results;congr 1
   rw[hres,Array.mapM_eq_mapM_toList];simp only[Sem.run_bind,Sem.run_map];rw[k1];simp
  ·subst hres;cases ds with
   | nil=>
    have:vs=[]:=by simpa using k2
    subst this;exact .bh _ _ rfl (fun j hj=>by simp at hj)
   | cons d ds=>
    cases ds with
    | nil=>
     obtain⟨v,rfl⟩:∃v,vs=[v]:=by
      cases vs with
      | nil=>simp at k2
      | cons v vs=>cases vs with
       | nil=>exact⟨v,rfl⟩
       | cons _ _=>simp at k2
     exact k3 0 (by simp) (by simp)
    | cons d2 ds=>
     rw[dif_neg (by simp[k2])];refine .bh _ _ (by simp[k2]) fun j hj=>?_;have hj2:j<vs.length:=by omega
     have:=k3 j hj hj2;simpa[Array.getD,hj2] using this
 have kpS:xu (fun o=>(∃ck,ah post o=some ck)\/(nb<=o/\o<nx')) s'.H ps' M s'.nx w' (ah post) ps' M nx' w':=by
  refine⟨fun o hs _=>?_,fun o _ _ ck' hk=>⟨ck',hpost o ck' hk,.inr ⟨rfl,rfl,Nat.le_refl _,rfl⟩⟩,fun b hb=>?_,fun _ _ _=>rfl⟩
  ·rcases hs with⟨ck,hs⟩ | hs
   ·exact plt o ck hs
   ·exact hs.2
  ·rcases hb with hb | ⟨o,ck,p,h1,h2,h3⟩
   ·exact .inl (.inl hb)
   ·exact .inl (.inr ⟨o,ck,p,hpost o ck h1,h2,h3⟩)
 have fin:∀v,VR s'.H ps' M s'.nx w' res v->∃v' ps'',Ending.returned v=.returned v'/\VR (ah post) ps'' M nx' w' res v'/\HR (ah post) ps'' M nx' w'/\Fr (Live (ah pre) ps) w w'/\
   (∀o ck p,ah post o=some ck->ps'' o=some p->Live (ah pre) ps p.b\/w.heap.size<=p.b)/\(∀o,o<nb->∀ck',ah post o=some ck'->∃ck,ah pre o=some ck/\qW ps ps'' o ck ck'):=by
  intro v hv;refine⟨v,ps',rfl,hv.ke ids kpS,⟨plt,fun o ck ho=>?_,fun o o' ck ck' p p' h1 h2=>R'.hr.inj o o' ck ck' p p' (hpost _ _ h1) (hpost _ _ h2),R'.hr.ml,fun o ck p h1=>R'.hr.dj o ck p (hpost _ _ h1)⟩,R'.fr,fun o ck p h1 h2=>R'.lb o ck p (hpost _ _ h1) h2,fun o ho ck' hk=>R'.gm o ho ck' (hpost _ _ hk)⟩;rcases R'.hr.cr o ck (hpost o ck ho) with⟨g1,g2⟩ | ⟨p,c,E,vs,g1,g2,g3,g4,g5,g6,g7⟩
  ·exact .inl ⟨g1,g2⟩
  ·exact .inr ⟨p,c,E,vs,g1,g2,g3,g4,g5,g6,fun i j hi hj=>(g7 i j hi hj).ke (j9 o ck ho _ (List.getElem_mem hi) _ (List.getElem_mem hj)) kpS⟩
 obtain⟨v,hrun,hv⟩:=hbp;exact⟨v,hrun,fin v hv⟩
def uG(fn:Func):Code:=fn.body.getD .skip
structure ib (P:Program) (f:FuncId) (nt:Nat) (ow:Nat->Bool) (ac:AC) (rs:List RR):Prop where
 ex:∃fn,P.funcs[f]? =some fn/\(fn.name== "runtime.NumGoroutine")=false/\fn.body=some (uG fn)/\fn.ntmps=nt/\comp P nt ow (uG fn)=some ac/\mX P fn.results.toList=some rs
theorem ib.mk'{P:Program}{f:FuncId}{fn:Func}{ow:Nat->Bool}{ac:AC}{rs:List RR}{nt:Nat}(hf:P.funcs[f]? =some fn)(h1:(fn.name== "runtime.NumGoroutine")=false) (h2:fn.body=some (uG fn)) (h3:fn.ntmps=nt)
  (h4:comp P nt ow (uG fn)=some ac) (h5:mX P fn.results.toList=some rs):ib P f nt ow ac rs:=⟨⟨fn,hf,h1,h2,h3,h4,h5⟩⟩
def Ends(rs:List RR)(res:DV)(post:bT):Exit->St->Prop:=fun e s'=>
 (e=.normal\/e=.ret)/\(∃ds,jP s'.T s'.H rs=some ds/\ft ds=res)/\∀o ck,ah post o=some ck->s'.H o=some ck
theorem ib.call{P:Program}{f:FuncId}{nt:Nat}{ow:Nat->Bool}{ac:AC}{rs:List RR}(hm:P.follows .mixedOrders=true)(h:ib P f nt ow ac rs){args:List DV}{pre:bT}{nb:Nat}{res:DV}{post:bT}{nx':Nat}(hlen:args.length<=nt)
  (af:∀o ck,ah pre o=some ck->∃ck',ah post o=some ck') (fL:∀o ck',ah post o=some ck'->o<nb->∃ck,ah pre o=some ck) (le:nb<=nx')
  (ids:bB (fun o=>(∃ck,ah post o=some ck)\/(nb<=o/\o<nx')) res) (j9:∀o ck,ah post o=some ck->∀x,x∈ck.xs->∀c,c∈x->bB (fun o=>(∃ck,ah post o=some ck)\/(nb<=o/\o<nx')) c)
  (plt:∀o ck,ah post o=some ck->o<nx')
  (k:∀cx:Cx,cx.nt=nt->cx.nb=nb->ar P cx ow ac (Ends rs res post) ⟨fA args,ah pre,nb⟩):de P f args pre nb res post nx':=by
 obtain⟨fn,h1,h2,h3,rfl,h5,h6⟩:=h.ex;exact de.intro hm h1 h2 h3 h5 h6 hlen af fL le ids j9 plt k
theorem ib.pure{P:Program}{f:FuncId}{nt:Nat}{ow:Nat->Bool}{ac:AC}{rs:List RR}(hm:P.follows .mixedOrders=true)(h:ib P f nt ow ac rs){args:List DV}{nb:Nat}{res:DV}(hlen:args.length<=nt)
  (ids:bB (fun _=>False) res) (k:∀cx:Cx,cx.nt=nt->cx.nb=nb->ar P cx ow ac (Ends rs res []) ⟨fA args,Hp.emp,nb⟩):de P f args [] nb res [] nb:=by
 have mono:∀{S S':Nat->Prop} {d:DV},(∀o,S o->S' o)->bB S d->bB S' d:=by
  intro S S' d hS hd;induction hd with
  | v x=>exact .v x
  | any=>exact .any
  | nn=>exact .nn
  | gd p d _ ih=>exact .gd p d ih
  | ptr o g i off h=>exact .ptr o g i off (hS o h)
  | own o g lo n h=>exact .own o g lo n (hS o h)
  | ab f xs _ ih=>exact .ab f xs ih
  | rp cs _ ih=>exact .rp cs ih
  | agg cs _ ih=>exact .agg cs ih
  | bh cs _ ih=>exact .bh cs ih
  | fn f cs _ ih=>exact .fn f cs ih
 exact h.call hm hlen (fun o ck h=>by cases h) (fun o ck h=>by cases h) (Nat.le_refl _) (mono (fun _ h=>h.elim) ids) (fun o ck h=>by cases h) (fun o ck h=>by cases h) k
section step
variable {P:Program} {r:List RI} {lg:Lg} {s:St} {T:Nat->DV} {H:Hp} {nx:Nat} {K:Lg->St->Prop}
theorem ahk{ris:List RI}{K:St->Prop}(h:jt P ris [] s fun _ s'=>K s'):wb P ris none s K:=h
end step
def ak7(P:Program)(ris:List RI)(s:St)(K:St->Prop):Prop:=∀lg,jt P ris lg s fun _ s'=>K s'
section stept
variable {P:Program} {r:List RI} {T:Nat->DV} {H:Hp} {nx:Nat} {K:St->Prop}
end stept
section idsr
end idsr
section flow
variable {P:Program} {cx:Cx} {ow:Nat->Bool} {Q:Exit->St->Prop} {s:St} {K:St->Prop} {ris:List RI}
theorem ar.KU(h:ak7 P ris s K):ar P cx ow (.rg ris none) (oW K Q) s:=ar.rg (ahk (h _))
end flow
section evs
variable (p:Bool) (T:Nat->DV) (H:Hp) (nx:Nat)
theorem OP(x:RO):ev (.bS x) p T H nx=some (un p (x.get T),.no):=rfl
theorem Oq(c a b:RO):ev (.pick c a b) p T H nx=(vm p (c.get T) (a.get T) (b.get T)).map (·,.no):=rfl
theorem Zi(x:RO):ev (.box x) p T H nx=(hJ (un p (x.get T))).map fun cs=>(.ptr nx 0 0 0,.al ⟨0,cs.length,[cs]⟩):=rfl
theorem xI(z:List DV):ev (.alloc z) p T H nx=some (.ptr nx 0 0 0,.al ⟨0,z.length,[z]⟩):=rfl
theorem Nz(ag:Bool)(n:Nat)(a:RO):ev (.load ag n a) p T H nx=(jK H ag n (un p (a.get T))).map (·,.no):=rfl
theorem axt(n:Nat)(a x:RO):ev (.store n a x) p T H nx=(nU H n (un p (a.get T)) (un p (x.get T))).map (.v undef,·):=rfl
theorem tv(op:BinOp)(x y:RO):ev (.bin op x y) p T H nx=(mi op (un p (x.get T)) (un p (y.get T))).map (·,.no):=rfl
theorem aft(op:UnOp)(x:RO):ev (.un op x) p T H nx=(uS op (un p (x.get T))).map (·,.no):=rfl
theorem Qy(x:RO):ev (.len x) p T H nx=(mT H (un p (x.get T))).map (·,.no):=rfl
theorem aal(sz b:Nat)(s x:RO):ev (.app sz b s x) p T H nx=j2 H sz b (un p (s.get T)) (un p (x.get T)):=rfl
def OB(H:Hp)(off:Nat):DV->Option (DV×Up)
 | .ptr o g i f=>if live H o g=true then some (.ptr o g i (f+off),.no) else none
 | .rp cs=>some (.rp (cs.drop off),.no)
 | _=>none
theorem at5(off:Nat)(x:RO):ev (.bO off x) p T H nx=OB H off (un p (x.get T)):=by
 simp only[ev];unfold OB;generalize un p (x.get T)=d;cases d<;>first | rfl | (rename_i v;cases v<;>rfl)
def ay5(k:IntKind):DV->Option (DV×Up)
 | .v (.int _ n)=>some (.v (.int k (k.wrap n)),.no)
 | _=>none
def EZ(H:Hp)(sz:Nat):DV->DV->Option (DV×Up)
 | .ab _ xs,.v (.int _ n)=>if 0<=n/\n<xs.length/\(xs.getD n.toNat []).length=sz then some (.rp (xs.getD n.toNat []),.no) else none
 | .own o g lo k,.v (.int _ n)=>match H o with
  | some ck=>if ck.gen=g/\ck.sz=sz/\0<=n/\n<k then some (.ptr o g (lo+n.toNat) 0,.no) else none
  | none=>none
 | _,_=>none
theorem UL(sz:Nat)(x i:RO):ev (.cP sz x i) p T H nx=EZ H sz (un p (x.get T)) (un p (i.get T)):=by
 simp only[ev];unfold EZ;generalize un p (x.get T)=d;generalize un p (i.get T)=e;cases d<;>cases e<;>first | rfl | (rename_i v;cases v<;>rfl)
theorem ayr(sz:Nat)(z:List DV)(len:Nat)(ps:List (Nat×RO)):ev (.g9 false sz z len ps) p T H nx=(jE (fun x:RO=>un p (x.get T)) sz (List.replicate len z) ps).map fun xs=>(.ab true xs,.no):=by
 simp only[ev,Bool.false_eq_true,if_false]
theorem axp(a b:Int):mi .add (.v (.int .i64 a)) (.v (.int .i64 b))=some (.v (.int .i64 (IntKind.i64.wrap (a+b)))):=rfl
theorem aiy(k:IntKind)(a b:Int):mi .neq (.v (.int k a)) (.v (.int k b))=some (.v (.bool (a !=b))):=by simp only[mi,FN,Bool.false_eq_true,if_false,if_true,uC]
theorem alr(k:IntKind)(a b:Int):mi .lss (.v (.int k a)) (.v (.int k b))=some (.v (.bool (decide (a<b)))):=by simp only[mi,FN,Bool.false_eq_true,if_false,if_true,uC]
theorem aeg(b:Bool):uS .not (.v (.bool b))=some (.v (.bool (!b))):=rfl
end evs
section rules
theorem Y3{r r':Option (DV×Up)}(k:DV->Up->Prop)(h:r=r'):nS r k=nS r' k:=by rw[h]
theorem agu{r r':Option Bool}(k:Bool->Prop)(h:r=r'):Fq r k=Fq r' k:=by rw[h]
theorem aoa{P:Program}{fv fv':DV}{args args':List DV}{H H':Hp}{nx nx':Nat}(k:DV->bT->Nat->List Nat->Prop)(h1:fv=fv')(h2:args=args')(h3:H=H')(h4:nx=nx'):M4 P fv args H nx k=M4 P fv' args' H' nx' k:=by
 rw[h1,h2,h3,h4]
theorem aq8{P:Program}{fv fv':DV}{args args':List DV}{nx nx':Nat}(k:DV->Prop)(b:Prop)(h1:fv=fv')(h2:args=args')(h4:nx=nx'):GC P fv args nx k b=GC P fv' args' nx' k b:=by
 rw[h1,h2,h4]
theorem ary{P:Program}{cx:Cx}{ow:Nat->Bool}{ac:AC}{Q:Exit->St->Prop}{s s':St}(h:s=s'):ar P cx ow ac Q s=ar P cx ow ac Q s':=by rw[h]
theorem asg{P:Program}{op:cR}{p:Bool}{s s':St}(k:DV->bT->Nat->List Nat->Prop)(h:s=s'):qC P op p s k=qC P op p s' k:=by rw[h]
theorem ad3{P:Program}{p:Bool}{op:cR}{s s':St}(k:DV->Prop)(b:Prop)(h:s=s'):GX P p op s k b=GX P p op s' k b:=by rw[h]
theorem axv{P:Program}{r:List RI}{lg:Lg}{s s':St}{K:Lg->St->Prop}(h:s=s'):jt P r lg s K=jt P r lg s' K:=by rw[h]
theorem axd{P:Program}{r:List RI}{un:Option (List (Nat×Nat))}{s s':St}{K:St->Prop}(h:s=s'):wb P r un s K=wb P r un s' K:=by rw[h]
attribute [congr] asg ad3 axv axd Y3 agu aoa aq8 ary
theorem zZ(T:Nat->DV)(d:Nat)(x:DV)(t:Nat):cN T d x t=if t=d then x else T t:=rfl
end rules
def N2(lg:Lg):Prop:=∀e,e∈lg->e.2=[]
theorem N2.app{lg:Lg}(h:N2 lg)(rd:List Nat):N2 (lg++[(rd,[])]):=fun e he=>by
 rcases List.mem_append.1 he with he | he
 ·exact h e he
 ·rw[List.mem_singleton.1 he]
section stept
variable {P:Program} {r:List RI} {T:Nat->DV} {H:Hp} {nx:Nat} {K:St->Prop} {uo:List (Nat×Nat)}
end stept
section flow
variable {P:Program} {cx:Cx} {ow:Nat->Bool} {Q:Exit->St->Prop} {s:St} {K:St->Prop} {ris:List RI} {uo:List (Nat×Nat)}
end flow
end Go.Pv
