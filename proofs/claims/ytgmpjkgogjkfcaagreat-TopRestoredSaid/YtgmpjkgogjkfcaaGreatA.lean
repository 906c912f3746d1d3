/- Plain data (DV) against the model's values and memory: the relation VR, heaps of chunks, states; how the relation is kept when the world moves on. No condition of its own: definitions and lemmas over any program. -/
import Derived.Below
import Derived.Orders
import Derived.ArgAppend
import Derived.Laws.AppendOwn
import Derived.Laws.CopyRow
import Derived.Laws.Cells
import Derived.OrdersIn
import Derived.RangeFuncLeaves
import Derived.RangeFuncRecord
set_option linter.all false
namespace Go.Pv
open Go.RowKit
def FR(ro:Option Nat):Fence:={Fence.wide with round:=ro}
theorem P3{ro:Option Nat}{n:Nat}{P:Program}{f:FuncId}{args:Array Value}{w:World}{R:Ending->World->Prop}:CallsIn (FR ro) n P f args w R↔Calls P f args w R:=
 (Iff.rfl).trans callsIn_wide
theorem _root_.Go.Oper.wp.wP{P:Program}{o:Oper}{a:Act}{w:World}{K:Act->World->Prop}{Q:Exit->Act->World->Prop}{ro:Option Nat}{n:Nat}(h:o.wp P a w K Q)(hd:∀c,o.op≠.defer c):o.wpIn (FR ro) n P a w K Q:=by
 refine⟨fun _ _=>trivial,?_⟩;rw[show(FR ro).round=ro from rfl,Oper.semAt_eq _ _ _ hd];unfold Oper.wp at h;generalize (execOp a.eval o).run P w=r at h ⊢;cases r with
 | ok x w'=>
  cases x<;>simp only[Oper.upon,Oper.uponIn] at h ⊢ <;>
   first
    | exact h
    | exact⟨fun e=>(by cases e),P3.2 h⟩
    | exact⟨fun e=>(by cases e),fun c cs _=>let⟨v,w',r,s⟩:=h c cs;⟨v,w',r,stepsIn_wide.2 s⟩⟩
 | halt x w'=>cases x<;>simp only[Oper.upon,Oper.uponIn] at h ⊢ <;>exact h
inductive DV where
 | v (x:Value)
 | any
 | nn
 | gd (p:Bool) (d:DV)
 | ptr (o g i off:Nat)
 | own (o g lo n:Nat)
 | ab (full:Bool) (xs:List (List DV))
 | rp (cs:List DV)
 | agg (cs:List DV)
 | bh (vs:List DV)
 | fn (f:FuncId) (caps:List DV)
instance:Inhabited DV:=⟨.any⟩
def LC:DV->Bool
 | .v x=>x.oneCell'
 | .ptr .. | .own .. | .ab .. | .rp _ | .fn .. =>true
 | _=>false
structure Ck where
 gen:Nat
 sz:Nat
 xs:List (List DV)
structure Ph where
 b:Nat
 k:Nat
 ju:Nat
abbrev Hp:=Nat->Option Ck
abbrev Ps:=Nat->Option Ph
def Hp.emp:Hp:=fun _=>none
def Hp.put(H:Hp)(o:Nat)(c:Option Ck):Hp:=fun o'=>if o'=o then c else H o'
def Ps.put(H:Ps)(o:Nat)(c:Option Ph):Ps:=fun o'=>if o'=o then c else H o'
theorem Hp.b9(H:Hp)(o:Nat)(c:Option Ck):H.put o c o=c:=by simp[Hp.put]
theorem Hp.aS(H:Hp)(o:Nat)(c:Option Ck){o':Nat}(h:o'≠o):H.put o c o'=H o':=by simp[Hp.put,h]
theorem Ps.b9(H:Ps)(o:Nat)(c:Option Ph):H.put o c o=c:=by simp[Ps.put]
theorem Ps.aS(H:Ps)(o:Nat)(c:Option Ph){o':Nat}(h:o'≠o):H.put o c o'=H o':=by simp[Ps.put,h]
def Live(H:Hp)(ps:Ps)(b:Nat):Prop:=∃o ck p,H o=some ck/\ps o=some p/\p.b=b
def Mu(H:Hp)(ps:Ps)(M:Nat->Prop)(b:Nat):Prop:=M b\/Live H ps b
def MP(ps:Ps)(ck:Ck)(o lo n:Nat)(x:Value):Prop:=
 lo+n<=ck.xs.length/\∃a cap,x=.slice a n cap/\n<=cap/\
  (cap=0\/∃p,ps o=some p/\a=some ⟨p.b,p.k+lo*ck.sz,none⟩/\p.k+(lo+cap)*ck.sz<=p.ju)
def Mm(ps:Ps)(ck:Ck)(o i off:Nat)(x:Value):Prop:=
 i<ck.xs.length/\∃p,ps o=some p/\x=.pointer (some ⟨p.b,p.k+i*ck.sz+off,none⟩)
def MG(n:Nat)(x:Value):Prop:=∃a cap,x=.slice a n cap
theorem MG.one{n:Nat}{x:Value}(h:MG n x):x.oneCell'=true:=by obtain⟨a,cap,rfl⟩:=h;rfl
inductive VR (H:Hp) (ps:Ps) (M:Nat->Prop) (nx:Nat) (w:World):DV->Value->Prop
 | v (x:Value):VR H ps M nx w (.v x) x
 | any (x:Value):VR H ps M nx w .any x
 | nn (t:TypeId) (p:Value):VR H ps M nx w .nn (.iface t p)
 | gd (p:Bool) (d:DV) (x:Value) (h:p=true->VR H ps M nx w d x) (h2:p=false->x=undef):VR H ps M nx w (.gd p d) x
 | ptr (o g i off:Nat) (x:Value) (h0:o<nx) (h1:x.oneCell'=true)
   (h:∀ck,H o=some ck->g<=ck.gen/\(ck.gen=g->Mm ps ck o i off x)):VR H ps M nx w (.ptr o g i off) x
 | own (o g lo n:Nat) (x:Value) (h0:o<nx) (h1:MG n x)
   (h:∀ck,H o=some ck->g<=ck.gen/\(ck.gen=g->MP ps ck o lo n x)):VR H ps M nx w (.own o g lo n) x
 | rp (cs:List DV) (b off:Nat) (vs:Nat->Value) (hM:cs≠[]->¬Mu H ps M b)
   (h1:∀j,j<cs.length->(vs j).oneCell'=true)
   (hc:∀j,j<cs.length->w.cell? ⟨b,off+j,none⟩=some (vs j))
   (hv:∀j (hj:j<cs.length),VR H ps M nx w cs[j] (vs j)):VR H ps M nx w (.rp cs) (.pointer (some ⟨b,off,none⟩))
 | fm (full:Bool) (a:Option Addr) (cap:Nat) (hf:full=true->cap=0):VR H ps M nx w (.ab full []) (.slice a 0 cap)
 | ab (full:Bool) (xs:List (List DV)) (b off cap sz:Nat) (vs:Nat->Nat->Value) (hne:xs≠[]) (hs:0<sz) (hcap:xs.length<=cap)
   (hf:full=true->cap=xs.length) (hM:¬Mu H ps M b) (hz:∀i (hi:i<xs.length),xs[i].length=sz)
   (h1:∀i j,i<xs.length->j<sz->(vs i j).oneCell'=true)
   (hc:∀i j,i<xs.length->j<sz->w.cell? ⟨b,off+(i*sz+j),none⟩=some (vs i j))
   (hv:∀i j (hi:i<xs.length) (hj:j<xs[i].length),VR H ps M nx w xs[i][j] (vs i j)):
   VR H ps M nx w (.ab full xs) (.slice (some ⟨b,off,none⟩) xs.length cap)
 | agg (cs:List DV) (vs:Array Value) (hl:vs.size=cs.length) (h1:∀j,j<cs.length->(vs.getD j undef).oneCell'=true) (hv:∀j (hj:j<cs.length),VR H ps M nx w cs[j] (vs.getD j undef)):
   VR H ps M nx w (.agg cs) (.agg vs)
 | bh (cs:List DV) (vs:Array Value) (hl:vs.size=cs.length) (hv:∀j (hj:j<cs.length),VR H ps M nx w cs[j] (vs.getD j undef)):
   VR H ps M nx w (.bh cs) (.tuple vs)
 | fn (f:FuncId) (cs:List DV) (vs:Array Value) (hl:vs.size=cs.length) (hv:∀j (hj:j<cs.length),VR H ps M nx w cs[j] (vs.getD j undef)):
   VR H ps M nx w (.fn f cs) (.func (.func f) #[] vs)
theorem VR.Zh{H ps M nx w d x}(h:VR H ps M nx w d x)(hd:LC d=true):x.oneCell'=true:=by
 cases h with
 | own o g lo n x h0 h1 h=>exact h1.one
 | _=>simp_all[LC,Value.oneCell']
structure Kp (H:Hp) (ps:Ps) (M:Nat->Prop) (nx:Nat) (w:World) (H':Hp) (ps':Ps) (M':Nat->Prop) (nx':Nat) (w':World):Prop where
 n:nx<=nx'
 hp:∀o,o<nx->∀ck',H' o=some ck'->∃ck,H o=some ck/\(ck.gen<ck'.gen\/(ck.gen=ck'.gen/\ck.sz=ck'.sz/\ck.xs.length<=ck'.xs.length/\ps' o=ps o))
 mu:∀b,Mu H' ps' M' b->Mu H ps M b\/w.heap.size<=b
 mem:∀b,b<w.heap.size->¬Mu H ps M b->w'.heap[b]? =w.heap[b]?
theorem uM{w:World}{a:Addr}{v:Value}(h:w.cell? a=some v):a.block<w.heap.size:=by
 unfold World.cell? at h;rcases Nat.lt_or_ge a.block w.heap.size with h' | h'
 ·exact h'
 ·simp[Array.getElem?_eq_none h'] at h
theorem VR.mono{H ps M nx w H' ps' M' nx' w' d x}(h:VR H ps M nx w d x)(k:Kp H ps M nx w H' ps' M' nx' w'):VR H' ps' M' nx' w' d x:=by
 induction h with
 | v x=>exact .v x
 | any x=>exact .any x
 | nn t p=>exact .nn t p
 | gd p d x h h2 ih=>exact .gd p d x ih h2
 | ptr o g i off x h0 h1 h=>
  refine .ptr o g i off x (Nat.lt_of_lt_of_le h0 k.n) h1 fun ck' hck'=>?_;obtain⟨ck,hck,hg⟩:=k.hp o h0 ck' hck';obtain⟨hle,hsame⟩:=h ck hck;rcases hg with hg | ⟨hg,hsz,hlen,hps⟩
  ·exact⟨by omega,fun e=>by omega⟩
  ·refine⟨by omega,fun e=>?_⟩;obtain⟨hi,p,hp,hx⟩:=hsame (by omega);exact⟨by omega,p,by rw[hps];exact hp,by rw[<-hsz];exact hx⟩
 | own o g lo n x h0 h1 h=>
  refine .own o g lo n x (Nat.lt_of_lt_of_le h0 k.n) h1 fun ck' hck'=>?_;obtain⟨ck,hck,hg⟩:=k.hp o h0 ck' hck';obtain⟨hle,hsame⟩:=h ck hck;rcases hg with hg | ⟨hg,hsz,hlen,hps⟩
  ·exact⟨by omega,fun e=>by omega⟩
  ·refine⟨by omega,fun e=>?_⟩;obtain⟨hi,a,cap,hx,hn,hcap⟩:=hsame (by omega);refine⟨by omega,a,cap,hx,hn,?_⟩;rcases hcap with hcap | ⟨p,hp,ha,ht⟩
   ·exact .inl hcap
   ·exact .inr ⟨p,by rw[hps];exact hp,by rw[<-hsz];exact ha,by rw[<-hsz];exact ht⟩
 | rp cs b off vs hM h1 hc hv ih=>
  refine .rp cs b off vs (fun hne hmu=>?_) h1 (fun j hj=>?_) ih
  ·have hp:=List.length_pos_iff.2 hne;have:=uM (hc 0 hp);rcases k.mu b hmu with h | h
   ·exact hM hne h
   ·simp at this;omega
  ·have hne:cs≠[]:=by intro e;simp[e] at hj
   have hb:=uM (hc j hj);rw[World.cell?_of_block (k.mem b hb (hM hne))];exact hc j hj
 | fm full a cap hf=>exact .fm full a cap hf
 | ab full xs b off cap sz vs hne hs hcap hf hM hz h1 hc hv ih=>
  have hb:b<w.heap.size:=uM (hc 0 0 (List.length_pos_iff.2 hne) hs);refine .ab full xs b off cap sz vs hne hs hcap hf (fun hmu=>?_) hz h1 (fun i j hi hj=>?_) ih
  ·rcases k.mu b hmu with h | h
   ·exact hM h
   ·omega
  ·rw[World.cell?_of_block (k.mem b hb hM)];exact hc i j hi hj
 | agg cs vs hl h1 hv ih=>exact .agg cs vs hl h1 ih
 | bh cs vs hl hv ih=>exact .bh cs vs hl ih
 | fn f cs vs hl hv ih=>exact .fn f cs vs hl ih
theorem Kp.refl(H:Hp)(ps:Ps)(M:Nat->Prop)(nx:Nat)(w:World):Kp H ps M nx w H ps M nx w:=
 ⟨Nat.le_refl _,fun o _ ck' h=>⟨ck',h,.inr ⟨rfl,rfl,Nat.le_refl _,rfl⟩⟩,fun _ h=>.inl h,fun _ _ _=>rfl⟩
def gO(w:World)(b:Nat)(c:Array Value)(E:TypeId):Prop:=∃fr:Nat×Nat,w.heap[b]? =some (.cells c E fr)/\(fr=(0,0)\/fr=(c.size,c.size+1))
theorem gO.of{w:World}{b:Nat}{c:Array Value}{E:TypeId}(h:w.heap[b]? =some (.cells c E (0,0))):gO w b c E:=⟨_,h,.inl rfl⟩
theorem gO.same{w w':World}{b:Nat}{c:Array Value}{E:TypeId}(h:gO w b c E)(e:w'.heap[b]? =w.heap[b]?):gO w' b c E:=by
 obtain⟨fr,h1,h2⟩:=h;exact⟨fr,by rw[e];exact h1,h2⟩
theorem gO.cell{w:World}{b:Nat}{c:Array Value}{E:TypeId}(h:gO w b c E)(k:Nat):w.cell? ⟨b,k,none⟩=c[k]? :=by
 obtain⟨fr,h1,_⟩:=h;unfold World.cell?;simp only;rw[h1];rfl
theorem gO.ab3{w:World}{b:Nat}{c:Array Value}{E:TypeId}(h:gO w b c E)(k:Nat)(hk:k<c.size):w.frozen? ⟨b,k,none⟩=false:=by
 obtain⟨fr,h1,h2⟩:=h;unfold World.frozen?;simp only;rw[h1];rcases h2 with rfl | rfl
 ·simp
 ·simp;omega
theorem gO.lt{w:World}{b:Nat}{c:Array Value}{E:TypeId}(h:gO w b c E):b<w.heap.size:=by
 obtain⟨fr,h1,_⟩:=h;rcases Nat.lt_or_ge b w.heap.size with h' | h'
 ·exact h'
 ·rw[Array.getElem?_eq_none h'] at h1;cases h1
def CR(H:Hp)(ps:Ps)(M:Nat->Prop)(nx:Nat)(w:World)(o:Nat)(ck:Ck):Prop:=
 (ps o=none/\ck.xs=[])\/
 ∃p c E,∃vs:Nat->Nat->Value,ps o=some p/\gO w p.b c E/\c.size=p.ju/\(∀i (hi:i<ck.xs.length),ck.xs[i].length=ck.sz)/\
  p.k+ck.xs.length*ck.sz<=p.ju/\
  (∀i j,i<ck.xs.length->j<ck.sz->(vs i j).oneCell'=true/\c[p.k+(i*ck.sz+j)]? =some (vs i j))/\
  (∀i j (hi:i<ck.xs.length) (hj:j<ck.xs[i].length),VR H ps M nx w ck.xs[i][j] (vs i j))
structure HR (H:Hp) (ps:Ps) (M:Nat->Prop) (nx:Nat) (w:World):Prop where
 lt:∀o ck,H o=some ck->o<nx
 cr:∀o ck,H o=some ck->CR H ps M nx w o ck
 inj:∀o o' ck ck' p p',H o=some ck->H o'=some ck'->ps o=some p->ps o'=some p'->p.b=p'.b->o=o'
 ml:∀b,M b->b<w.heap.size
 dj:∀o ck p,H o=some ck->ps o=some p->¬M p.b
structure Fr (B:Nat->Prop) (w0 w:World):Prop where
 os:w.os=w0.os
 tape:w.tape=w0.tape
 output:w.output=w0.output
 size:w0.heap.size<=w.heap.size
 block:∀b,b<w0.heap.size->¬B b->w.heap[b]? =w0.heap[b]?
theorem Fr.refl(B:Nat->Prop)(w:World):Fr B w w:=⟨rfl,rfl,rfl,Nat.le_refl _,fun _ _ _=>rfl⟩
def Marks(M:Nat->Prop)(n0:Nat)(db:List Deferred)(w:World)(ds:List Deferred):Prop:=∃Ds:List Nat,ds=Ds.map (fun D=>({target:=.collected D,args:= #[]}:Deferred))++db/\Ds.Nodup/\∀D,D∈Ds->n0<=D/\¬M D/\w.heap[D]? =some (.deferred (some []))
theorem Marks.nil{M:Nat->Prop}{n0:Nat}{db:List Deferred}{w:World}:Marks M n0 db w db:=⟨[],rfl,List.nodup_nil,fun _ h=>by cases h⟩
theorem Marks.af{M:Nat->Prop}{n0:Nat}{db:List Deferred}{w w':World}{ds:List Deferred}(h:Marks M n0 db w ds)(k:∀D,¬M D->w.heap[D]? =some (.deferred (some []))->w'.heap[D]? =w.heap[D]?):Marks M n0 db w' ds:=by
 obtain⟨Ds,h1,h2,h3⟩:=h;exact⟨Ds,h1,h2,fun D hD=>⟨(h3 D hD).1,(h3 D hD).2.1,(k D (h3 D hD).2.1 (h3 D hD).2.2).trans (h3 D hD).2.2⟩⟩
theorem HR.adg{H:Hp}{ps:Ps}{M:Nat->Prop}{nx:Nat}{w:World}(h:HR H ps M nx w){D:Nat}{x:Option (List Deferred)}(hD:w.heap[D]? =some (.deferred x)):¬Live H ps D:=by
 rintro⟨o,ck,p,h1,h2,rfl⟩;rcases h.cr o ck h1 with⟨g1,_⟩ | ⟨p',c,E,vs,g1,g2,_⟩
 ·rw[h2] at g1;cases g1
 ·rw[h2] at g1;cases g1;obtain⟨fr,g2,_⟩:=g2;rw[hD] at g2;cases g2
theorem QQ{w:World}{D:Nat}{x:Obj}(h:w.heap[D]? =some x):D<w.heap.size:=by
 rcases Nat.lt_or_ge D w.heap.size with h' | h'
 ·exact h'
 ·rw[Array.getElem?_eq_none h'] at h;cases h
structure St where
 T:Nat->DV
 H:Hp
 nx:Nat
structure Cx where
 nt:Nat
 M:Nat->Prop
 B:Nat->Prop
 w0:World
 H0:Hp
 ps0:Ps
 nb:Nat
 ro:Option Nat
 fz:Nat->Option Value
 db:List Deferred:=[]
def qW(ps ps':Ps)(o:Nat)(ck ck':Ck):Prop:=ck.gen<ck'.gen\/(ck.gen=ck'.gen/\ck.sz=ck'.sz/\ck.xs.length<=ck'.xs.length/\ps' o=ps o)
theorem qW.trans{ps ps' ps'':Ps}{o:Nat}{a b c:Ck}(h:qW ps ps' o a b)(k:qW ps' ps'' o b c):qW ps ps'' o a c:=by
 rcases h with h | ⟨h1,h2,h3,h4⟩<;>rcases k with k | ⟨k1,k2,k3,k4⟩
 ·exact .inl (by omega)
 ·exact .inl (by omega)
 ·exact .inl (by omega)
 ·exact .inr ⟨by omega,by omega,by omega,k4.trans h4⟩
structure RS (cx:Cx) (s:St) (ps:Ps) (a:Act) (w:World):Prop where
 t:∀t,VR s.H ps cx.M s.nx w (s.T t) (a.tmps.getD t undef)
 nt:a.tmps.size=cx.nt
 hr:HR s.H ps cx.M s.nx w
 fr:Fr cx.B cx.w0 w
 lb:∀o ck p,s.H o=some ck->ps o=some p->cx.B p.b\/cx.w0.heap.size<=p.b
 df:Marks cx.M cx.w0.heap.size cx.db w a.defers
 iP:cx.nb<=s.nx
 gm:∀o,o<cx.nb->∀ck',s.H o=some ck'->∃ck,cx.H0 o=some ck/\qW cx.ps0 ps o ck ck'
 fz:∀t v,cx.fz t=some v->a.tmps.getD t undef=v
structure Mv (cx:Cx) (H:Hp) (ps:Ps) (nx:Nat) (w:World) (H':Hp) (ps':Ps) (nx':Nat) (w':World):Prop where
 kp:Kp H ps cx.M nx w H' ps' cx.M nx' w'
 hr:HR H' ps' cx.M nx' w'
 fr:Fr cx.B cx.w0 w'
 lb:∀o ck p,H' o=some ck->ps' o=some p->cx.B p.b\/cx.w0.heap.size<=p.b
def cN(T:Nat->DV)(d:Nat)(x:DV):Nat->DV:=fun t=>if t=d then x else T t
def fJ(T:Nat->DV)(dst:Option Nat)(x:DV):Nat->DV:=match dst with | none=>T | some d=>cN T d x
theorem wS(T:Nat->DV)(d:Nat)(x:DV):cN T d x d=x:=by simp[cN]
theorem tm(T:Nat->DV)(d:Nat)(x:DV)(t:Nat)(h:t≠d):cN T d x t=T t:=by simp[cN,h]
theorem RS.step{cx s ps a w H' ps' nx' w' d x}{dst:Option Nat}(r:RS cx s ps a w)(m:Mv cx s.H ps s.nx w H' ps' nx' w')(hv:VR H' ps' cx.M nx' w' d x)
  (hd:∀t,dst=some t->t<cx.nt/\cx.fz t=none):RS cx ⟨fJ s.T dst d,H',nx'⟩ ps' (a.put dst x) w':=by
 have hmk:=r.df.af fun D h1 h2=>m.kp.mem D (QQ h2) fun hm=>hm.elim h1 (r.hr.adg h2);refine⟨fun t=>?_,?_,m.hr,m.fr,m.lb,?_,Nat.le_trans r.iP m.kp.n,fun o ho ck' hk=>?_,fun t v hz=>?_⟩
 ·cases dst with
  | none=>exact(r.t t).mono m.kp
  | some e=>
   have he:=(hd e rfl).1;by_cases h:t=e
   ·subst h;have:(a.put (some t) x).tmps.getD t undef=x:=by
     have hs:t<a.tmps.size:=by rw[r.nt];exact he
     simp[Act.put,Array.getD,hs]
    rw[this];simp only[fJ,wS];exact hv
   ·have:(a.put (some e) x).tmps.getD t undef=a.tmps.getD t undef:=by
     simp[Act.put,Array.getD_eq_getD_getElem?,Array.getElem?_setIfInBounds_ne (Ne.symm h)]
    rw[this];simp only[fJ,tm _ _ _ _ h];exact(r.t t).mono m.kp
 ·cases dst with
  | none=>exact r.nt
  | some e=>simpa[Act.put] using r.nt
 ·cases dst with
  | none=>exact hmk
  | some e=>exact hmk
 ·obtain⟨ck1,h1,h2⟩:=m.kp.hp o (Nat.lt_of_lt_of_le ho r.iP) ck' hk;obtain⟨ck0,h3,h4⟩:=r.gm o ho ck1 h1;exact⟨ck0,h3,h4.trans h2⟩
 ·cases dst with
  | none=>exact r.fz t v hz
  | some e=>
   have:t≠e:=fun h=>by subst h;rw[(hd t rfl).2] at hz;cases hz
   have h2:(a.put (some e) x).tmps.getD t undef=a.tmps.getD t undef:=by
    simp[Act.put,Array.getD_eq_getD_getElem?,Array.getElem?_setIfInBounds_ne (Ne.symm this)]
   rw[h2];exact r.fz t v hz
theorem RS.mv{cx s ps a w}(r:RS cx s ps a w):Mv cx s.H ps s.nx w s.H ps s.nx w:=⟨Kp.refl ..,r.hr,r.fr,r.lb⟩
theorem CR.mono{H ps M nx w H' ps' M' nx' w' o ck}(h:CR H ps M nx w o ck)(k:Kp H ps M nx w H' ps' M' nx' w')(hps:ps' o=ps o)
  (hb:∀p,ps o=some p->w'.heap[p.b]? =w.heap[p.b]?):CR H' ps' M' nx' w' o ck:=by
 rcases h with⟨h1,h2⟩ | ⟨p,c,E,vs,h1,h2,h3,h4,h5,h6,h7⟩
 ·exact .inl ⟨by rw[hps];exact h1,h2⟩
 ·exact .inr ⟨p,c,E,vs,by rw[hps];exact h1,h2.same (hb p h1),h3,h4,h5,h6,fun i j hi hj=>(h7 i j hi hj).mono k⟩
structure eA (w w':World):Prop where
 os:w'.os=w.os
 tape:w'.tape=w.tape
 output:w'.output=w.output
 size:w.heap.size<=w'.heap.size
 block:∀b,b<w.heap.size->w'.heap[b]? =w.heap[b]?
theorem eA.refl(w:World):eA w w:=⟨rfl,rfl,rfl,Nat.le_refl _,fun _ _=>rfl⟩
theorem eA.trans{a b c:World}(h:eA a b)(k:eA b c):eA a c:=
 ⟨k.os.trans h.os,k.tape.trans h.tape,k.output.trans h.output,Nat.le_trans h.size k.size,fun i hi=>(k.block i (Nat.lt_of_lt_of_le hi h.size)).trans (h.block i hi)⟩
theorem eA.drew(w:World):eA w w.drew:=⟨rfl,rfl,rfl,Nat.le_refl _,fun _ _=>rfl⟩
theorem eA.drawn(w:World)(n:Nat):eA w {w with drawn:=n}:=⟨rfl,rfl,rfl,Nat.le_refl _,fun _ _=>rfl⟩
theorem eA.alloc(w:World)(o:Obj):eA w (w.alloc o):=
 ⟨rfl,rfl,rfl,by simp,fun b hb=>Below.heap_alloc w o b hb⟩
theorem HR.mQ{H ps M nx w o ck p}(h:HR H ps M nx w)(ho:H o=some ck)(hp:ps o=some p):p.b<w.heap.size:=by
 rcases h.cr o ck ho with⟨h1,_⟩ | ⟨p',c,E,vs,h1,h2,_⟩
 ·simp[h1] at hp
 ·rw[hp] at h1;cases h1;exact h2.lt
theorem Kp.je{H:Hp}{ps:Ps}{M:Nat->Prop}{nx:Nat}{w w':World}(g:eA w w'):Kp H ps M nx w H ps M nx w':=
 ⟨Nat.le_refl _,fun o _ ck' h=>⟨ck',h,.inr ⟨rfl,rfl,Nat.le_refl _,rfl⟩⟩,fun _ h=>.inl h,fun b hb _=>g.block b hb⟩
theorem HR.je{H ps M nx w w'}(h:HR H ps M nx w)(g:eA w w'):HR H ps M nx w':=
 ⟨h.lt,fun o ck ho=>(h.cr o ck ho).mono (Kp.je g) rfl (fun p hp=>g.block _ (h.mQ ho hp)),h.inj,fun b hb=>Nat.lt_of_lt_of_le (h.ml b hb) g.size,h.dj⟩
theorem Fr.je{B w0 w w'}(h:Fr B w0 w)(g:eA w w'):Fr B w0 w':=
 ⟨g.os.trans h.os,g.tape.trans h.tape,g.output.trans h.output,Nat.le_trans h.size g.size,fun b hb hB=>(g.block b (Nat.lt_of_lt_of_le hb h.size)).trans (h.block b hb hB)⟩
theorem Mv.je{cx H ps nx w w'}(hr:HR H ps cx.M nx w)(fr:Fr cx.B cx.w0 w)(lb:∀o ck p,H o=some ck->ps o=some p->cx.B p.b\/cx.w0.heap.size<=p.b)
  (g:eA w w'):Mv cx H ps nx w H ps nx w':=⟨Kp.je g,hr.je g,fr.je g,lb⟩
theorem RS.je{cx s ps a w w'}(r:RS cx s ps a w)(g:eA w w'):RS cx s ps a w':=
 ⟨fun t=>(r.t t).mono (Kp.je g),r.nt,r.hr.je g,r.fr.je g,r.lb,r.df.af fun D _ h2=>g.block D (QQ h2),r.iP,r.gm,r.fz⟩
structure So (w w':World) (X:Nat->Prop):Prop where
 os:w'.os=w.os
 tape:w'.tape=w.tape
 output:w'.output=w.output
 size:w.heap.size<=w'.heap.size
 block:∀b,b<w.heap.size->¬X b->w'.heap[b]? =w.heap[b]?
theorem eA.rf{w w':World}(g:eA w w')(X:Nat->Prop):So w w' X:=⟨g.os,g.tape,g.output,g.size,fun b hb _=>g.block b hb⟩
theorem Mv.cN{cx:Cx}{H:Hp}{ps:Ps}{nx:Nat}{w:World}(o:Nat)(ck':Ck)(ph':Option Ph)(nx':Nat)(w':World)
  (hr:HR H ps cx.M nx w) (fr:Fr cx.B cx.w0 w) (lb:∀o ck p,H o=some ck->ps o=some p->cx.B p.b\/cx.w0.heap.size<=p.b)
  (hn:nx<=nx') (ho:o<nx')
  (hold:nx<=o\/∃ck,H o=some ck/\(ck.gen<ck'.gen\/(ck.gen=ck'.gen/\ck.sz=ck'.sz/\ck.xs.length<=ck'.xs.length/\ph'=ps o)))
  (g:So w w' fun b=>∃ck p,H o=some ck/\ps o=some p/\b=p.b)
  (hb:∀p',ph'=some p'->(∃ck p,H o=some ck/\ps o=some p/\p.b=p'.b)\/w.heap.size<=p'.b)
  (hcr:Kp H ps cx.M nx w (H.put o (some ck')) (ps.put o ph') cx.M nx' w'->CR (H.put o (some ck')) (ps.put o ph') cx.M nx' w' o ck'):
  Mv cx H ps nx w (H.put o (some ck')) (ps.put o ph') nx' w':=by
 have kp:Kp H ps cx.M nx w (H.put o (some ck')) (ps.put o ph') cx.M nx' w':=by
  refine⟨hn,fun o1 h1 ck1 hk=>?_,fun b hm=>?_,fun b hlt hm=>?_⟩
  ·by_cases h:o1=o
   ·subst h;rw[Hp.b9] at hk;cases hk;rcases hold with h | ⟨ck,hck,h⟩
    ·omega
    ·exact⟨ck,hck,by rw[Ps.b9];exact h⟩
   ·rw[Hp.aS _ _ _ h] at hk;exact⟨ck1,hk,.inr ⟨rfl,rfl,Nat.le_refl _,Ps.aS _ _ _ h⟩⟩
  ·rcases hm with hm | ⟨o1,ck1,p1,hk,hp,rfl⟩
   ·exact .inl (.inl hm)
   ·by_cases h:o1=o
    ·subst h;rw[Ps.b9] at hp;rcases hb p1 hp with⟨ck,p,h1,h2,h3⟩ | h3
     ·exact .inl (.inr ⟨o1,ck,p,h1,h2,h3⟩)
     ·exact .inr h3
    ·rw[Hp.aS _ _ _ h] at hk;rw[Ps.aS _ _ _ h] at hp;exact .inl (.inr ⟨o1,ck1,p1,hk,hp,rfl⟩)
  ·exact g.block b hlt fun⟨ck,p,h1,h2,h3⟩=>hm (.inr ⟨o,ck,p,h1,h2,h3.symm⟩)
 refine⟨kp,⟨?_,?_,?_,?_,?_⟩,⟨g.os.trans fr.os,g.tape.trans fr.tape,g.output.trans fr.output,Nat.le_trans fr.size g.size,?_⟩,?_⟩
 ·intro o1 ck1 hk;by_cases h:o1=o
  ·subst h;exact ho
  ·rw[Hp.aS _ _ _ h] at hk;exact Nat.lt_of_lt_of_le (hr.lt o1 ck1 hk) hn
 ·intro o1 ck1 hk;by_cases h:o1=o
  ·subst h;rw[Hp.b9] at hk;cases hk;exact hcr kp
  ·rw[Hp.aS _ _ _ h] at hk;refine(hr.cr o1 ck1 hk).mono kp (Ps.aS _ _ _ h) fun p hp=>?_;exact g.block _ (hr.mQ hk hp) fun⟨ck,p2,h1,h2,h3⟩=>h (hr.inj o1 o ck1 ck p p2 hk h1 hp h2 h3)
 ·intro o1 o2 ck1 ck2 p1 p2 h1 h2 q1 q2 e;by_cases a1:o1=o<;>by_cases a2:o2=o
  ·rw[a1,a2]
  ·subst a1;rw[Ps.b9] at q1;rw[Hp.aS _ _ _ a2] at h2;rw[Ps.aS _ _ _ a2] at q2;rcases hb p1 q1 with⟨ck,p,b1,b2,b3⟩ | b3
   ·exact hr.inj o1 o2 ck ck2 p p2 b1 h2 b2 q2 (b3.trans e)
   ·have:=hr.mQ h2 q2;omega
  ·subst a2;rw[Ps.b9] at q2;rw[Hp.aS _ _ _ a1] at h1;rw[Ps.aS _ _ _ a1] at q1;rcases hb p2 q2 with⟨ck,p,b1,b2,b3⟩ | b3
   ·exact hr.inj o1 o2 ck1 ck p1 p h1 b1 q1 b2 (e.trans b3.symm)
   ·have:=hr.mQ h1 q1;omega
  ·rw[Hp.aS _ _ _ a1] at h1;rw[Ps.aS _ _ _ a1] at q1;rw[Hp.aS _ _ _ a2] at h2;rw[Ps.aS _ _ _ a2] at q2;exact hr.inj o1 o2 ck1 ck2 p1 p2 h1 h2 q1 q2 e
 ·exact fun b hM=>Nat.lt_of_lt_of_le (hr.ml b hM) g.size
 ·intro o1 ck1 p1 h1 q1;by_cases a1:o1=o
  ·subst a1;rw[Ps.b9] at q1;rcases hb p1 q1 with⟨ck,p,b1,b2,b3⟩ | b3
   ·rw[<-b3];exact hr.dj o1 ck p b1 b2
   ·intro hM;have:=hr.ml _ hM;omega
  ·rw[Hp.aS _ _ _ a1] at h1;rw[Ps.aS _ _ _ a1] at q1;exact hr.dj o1 ck1 p1 h1 q1
 ·intro b hlt hB;rw[g.block b (Nat.lt_of_lt_of_le hlt fr.size) fun⟨ck,p,h1,h2,h3⟩=>?_,fr.block b hlt hB];subst h3;rcases lb o ck p h1 h2 with h | h
  ·exact hB h
  ·omega
 ·intro o1 ck1 p1 h1 q1;by_cases a1:o1=o
  ·subst a1;rw[Ps.b9] at q1;rcases hb p1 q1 with⟨ck,p,b1,b2,b3⟩ | b3
   ·rw[<-b3];exact lb o1 ck p b1 b2
   ·exact .inr (Nat.le_trans fr.size b3)
  ·rw[Hp.aS _ _ _ a1] at h1;rw[Ps.aS _ _ _ a1] at q1;exact lb o1 ck1 p1 h1 q1
structure tQ (n0:Nat) (w w':World):Prop where
 os:w'.os=w.os
 tape:w'.tape=w.tape
 output:w'.output=w.output
 size:w'.heap.size=w.heap.size
 fL:∀b,b<n0->w'.heap[b]? =w.heap[b]?
 cells:∀(b:Nat) (c:Array Value) (E:TypeId) (f:Nat×Nat),w.heap[b]? =some (Obj.cells c E f)->w'.heap[b]? =w.heap[b]?
theorem tQ.cell{n0:Nat}{w w':World}(q:tQ n0 w w'){a:Addr}{v:Value}(h:w.cell? a=some v):w'.cell? a=some v:=by
 unfold World.cell? at h ⊢;cases hb:w.heap[a.block]? with
 | none=>rw[hb] at h;cases h
 | some o=>
  cases o with
  | cells c E f=>rw[q.cells _ _ _ _ hb];exact h
  | _=>rw[hb] at h;cases h
theorem VR.quiet{H ps M nx n0 w w' d x}(q:tQ n0 w w')(h:VR H ps M nx w d x):VR H ps M nx w' d x:=by
 induction h with
 | v x=>exact .v x
 | any x=>exact .any x
 | nn t p=>exact .nn t p
 | gd p d x h h2 ih=>exact .gd p d x ih h2
 | ptr o g i off x h0 h1 h=>exact .ptr o g i off x h0 h1 h
 | own o g lo n x h0 h1 h=>exact .own o g lo n x h0 h1 h
 | rp cs b off vs hM h1 hc hv ih=>exact .rp cs b off vs hM h1 (fun j hj=>q.cell (hc j hj)) ih
 | fm full a cap hf=>exact .fm full a cap hf
 | ab full xs b off cap sz vs hne hs hcap hf hM hz h1 hc hv ih=>exact .ab full xs b off cap sz vs hne hs hcap hf hM hz h1 (fun i j hi hj=>q.cell (hc i j hi hj)) ih
 | agg cs vs hl h1 hv ih=>exact .agg cs vs hl h1 ih
 | bh cs vs hl hv ih=>exact .bh cs vs hl ih
 | fn f cs vs hl hv ih=>exact .fn f cs vs hl ih
theorem HR.quiet{H ps M nx n0 w w'}(q:tQ n0 w w')(h:HR H ps M nx w):HR H ps M nx w':=by
 refine⟨h.lt,fun o ck ho=>?_,h.inj,fun b hb=>by rw[q.size];exact h.ml b hb,h.dj⟩;have h2q:∀{b c E},gO w b c E->gO w' b c E:=fun⟨fr,a1,a2⟩=>⟨fr,by rw[q.cells _ _ _ _ a1];exact a1,a2⟩;rcases h.cr o ck ho with g | ⟨p,c,E,vs,g1,g2,g3,g4,g5,g6,g7⟩
 ·exact .inl g
 ·exact .inr ⟨p,c,E,vs,g1,h2q g2,g3,g4,g5,g6,fun i j hi hj=>(g7 i j hi hj).quiet q⟩
theorem RS.quiet{cx s ps a w w'}(R:RS cx s ps a w)(q:tQ cx.w0.heap.size w w'){ds:List Deferred}(hm:Marks cx.M cx.w0.heap.size cx.db w' ds):RS cx s ps {a with defers:=ds} w':=
 ⟨fun t=>(R.t t).quiet q,R.nt,R.hr.quiet q,⟨q.os.trans R.fr.os,q.tape.trans R.fr.tape,q.output.trans R.fr.output,by rw[q.size];exact R.fr.size,fun b hb hB=>(q.fL b hb).trans (R.fr.block b hb hB)⟩,R.lb,hm,R.iP,R.gm,R.fz⟩
theorem tQ.putObj{n0:Nat}{w:World}{D:Nat}{x o:Obj}(hD:w.heap[D]? =some x)(hx:∀c E f,x≠Obj.cells c E f)(h0:n0<=D):tQ n0 w (w.putObj D o):=
 ⟨rfl,rfl,rfl,by simp[World.putObj],fun b hb=>World.putObj_heap_other (by omega),fun b c E f hb=>World.putObj_heap_other fun e=>by subst e;rw[hD] at hb;injection hb with hb;exact hx _ _ _ hb⟩
theorem RS.am7{P:Program}{cx:Cx}{s:St}{ps:Ps}{a:Act}{w:World}{d:Deferred}{ds:List Deferred}(hdb:cx.db=[])(R:RS cx s ps a w)(hd:a.defers=d::ds):
  ∃D w',d.target=.collected D/\(Instr.takeDeferred D).run P w=.ok [] w'/\RS cx s ps {a with defers:=ds} w':=by
 obtain⟨Ds,h1,h2,h3⟩:=R.df;rw[hd,hdb,List.append_nil] at h1;cases Ds with
 | nil=>cases h1
 | cons D Ds=>
  simp only[List.map_cons,List.cons.injEq] at h1;obtain⟨e1,e2⟩:=h1;obtain⟨hnd,hnd2⟩:=List.nodup_cons.1 h2;obtain⟨h0,hM,hD⟩:=h3 D (List.mem_cons_self ..);refine⟨D,w.putObj D (.deferred none),by rw[e1],run_takeDeferred hD,R.quiet (tQ.putObj hD (fun _ _ _ e=>by cases e) h0) ⟨Ds,by rw[hdb,List.append_nil];exact e2,hnd2,fun D' hD'=>?_⟩⟩;obtain⟨g0,g1,g2⟩:=h3 D' (List.mem_cons_of_mem _ hD');exact⟨g0,g1,by rw[World.putObj_heap_other (by rintro rfl;exact hnd hD')];exact g2⟩
theorem RS.leaves{P:Program}{cx:Cx}{s:St}{ps:Ps}{F:Fence}{n:Nat}{fn:Func}{Rr:Ending->World->Prop}{tmps:Array Value}(hdb:cx.db=[]):∀(ds:List Deferred) (w:World),RS cx s ps ⟨tmps,ds⟩ w->
  (∀w2,RS cx s ps ⟨tmps,[]⟩ w2->∃v,(results fn tmps).run P w2=.ok v w2/\Rr (.returned v) w2)->LeavesInM F n P fn tmps Rr ds .returning w
 | [],w,R,k=>k w R
 | d::ds,w,R,k=>by
  obtain⟨D,w',h1,h2,h3⟩:=RS.am7 hdb R rfl;exact⟨(fun e=>by cases e),.inl ⟨D,w',h1,h2,RS.leaves hdb ds w' h3 k⟩⟩
theorem Oy{P:Program}{f:FuncId}{fn:Func}{c:Code}{args:Array Value}{w:World}{Rr:Ending->World->Prop}{cx:Cx}(hf:P.funcs[f]? =some fn)(hb:fn.body=some c)(hdb:cx.db=[])
  (h:c.wpIn (FR none) 0 P (fun e a' w'=>(e=.normal\/e=.ret)/\∃s' ps',RS cx s' ps' a' w'/\∀w2,RS cx s' ps' ⟨a'.tmps,[]⟩ w2->∃v,(results fn a'.tmps).run P w2=.ok v w2/\Rr (.returned v) w2) {tmps:=args++Array.replicate (fn.ntmps-args.size) undef,defers:=[]} w):Calls P f args w Rr:=by
 refine(P3 (n:=0)).1 (callsIn_of_wp_marks hf hb trivial (wpIn_mono h ?_));rintro e ⟨tmps,ds⟩ w' ⟨he,s',ps',R,k⟩;rcases he with rfl | rfl
 ·exact RS.leaves hdb ds w' R k
 ·exact RS.leaves hdb ds w' R k
end Go.Pv
