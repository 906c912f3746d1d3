/- Every resolved operation is sound: the joined theorem ev_sound. No condition of its own: lemmas over any program. -/
import Derived.Test.YtgmpjkgogjkfcaaGreatA
import Derived.Laws.StructEq
import Derived.Laws.Small
import Derived.Laws.Entries
import Derived.Laws.MakeOwn
set_option linter.all false
namespace Go.Pv
open Go.RowKit
inductive RO where
 | t (n:Nat)
 | c (d:DV)
def RO.get(T:Nat->DV):RO->DV
 | .t n=>T n
 | .c d=>d
inductive cR where
 | bS (x:RO)
 | pick (c a b:RO)
 | box (x:RO)
 | alloc (z:List DV)
 | build (z:List DV) (ps:List (Nat×Nat×RO))
 | g9 (ow:Bool) (sz:Nat) (z:List DV) (len:Nat) (ps:List (Nat×RO))
 | load (ag:Bool) (n:Nat) (a:RO)
 | store (n:Nat) (a x:RO)
 | mK (x:RO)
 | bin (op:BinOp) (x y:RO)
 | pN (neg:Bool) (offs:List (Nat×Nat)) (x y:RO)
 | un (op:UnOp) (x:RO)
 | conv (k:IntKind) (x:RO)
 | bO (off:Nat) (x:RO)
 | qI (ag:Bool) (n off:Nat) (x:RO)
 | cP (sz:Nat) (x i:RO)
 | jL (sz:Nat) (x:RO) (lo hi:Option RO)
 | fw (sz bytes:Nat) (z:List DV) (len cap:RO)
 | len (x:RO)
 | mm (mx:Bool) (xs:List RO)
 | app (sz bytes:Nat) (s x:RO)
 | jm (i:Nat) (x:RO)
 | sD (f:FuncId) (cs:List RO)
 | call (f:RO) (xs:List RO)
inductive Up where
 | no
 | wr (o:Nat) (ck:Ck)
 | al (ck:Ck)
def Up.hp(H:Hp)(nx:Nat):Up->Hp
 | .no=>H
 | .wr o ck=>H.put o (some ck)
 | .al ck=>H.put nx (some ck)
def Up.nx(nx:Nat):Up->Nat
 | .al _=>nx+1
 | _=>nx
def hJ:DV->Option (List DV)
 | .agg cs=>some cs
 | .v x=>if x.oneCell'=true then some [.v x] else none
 | .ptr o g i f=>some [.ptr o g i f]
 | .own o g l n=>some [.own o g l n]
 | .ab f xs=>some [.ab f xs]
 | .rp cs=>some [.rp cs]
 | .fn f cs=>some [.fn f cs]
 | _=>none
abbrev I(n:Int):DV:=.v (.int .i64 n)
abbrev B(b:Bool):DV:=.v (.bool b)
def un(p:Bool):DV->DV
 | .gd q d=>if(!p || q)=true then d else .any
 | d=>d
def uC(op:BinOp)(k:IntKind)(a b:Int):Option DV:=
 match op with
 | .add=>some (.v (.int k (k.wrap (a+b))))
 | .sub=>some (.v (.int k (k.wrap (a-b))))
 | .mul=>some (.v (.int k (k.wrap (a*b))))
 | .quo=>if b=0 then none else some (.v (.int k (k.wrap (a.tdiv b))))
 | .rem=>if b=0 then none else some (.v (.int k (a.tmod b)))
 | .eql=>some (.v (.bool (a==b)))
 | .neq=>some (.v (.bool (a !=b)))
 | .lss=>some (.v (.bool (decide (a<b))))
 | .leq=>some (.v (.bool (decide (a<=b))))
 | .gtr=>some (.v (.bool (decide (a>b))))
 | .geq=>some (.v (.bool (decide (a>=b))))
 | .and=>some (.v (.int k (k.wrap (BitVec.ofInt k.bits a &&& BitVec.ofInt k.bits b).toNat)))
 | .or=>some (.v (.int k (k.wrap (BitVec.ofInt k.bits a ||| BitVec.ofInt k.bits b).toNat)))
 | .xor=>some (.v (.int k (k.wrap (BitVec.ofInt k.bits a ^^^ BitVec.ofInt k.bits b).toNat)))
 | _=>none
def Iv(op:BinOp)(k:IntKind)(a b:Int):Option DV:=
 if b<0 then none else
 match op with
 | .shl=>some (.v (.int k (k.wrap (a*2 ^ (min b.toNat k.bits)))))
 | .shr=>some (.v (.int k (a.fdiv (2 ^ (min b.toNat k.bits)))))
 | _=>none
def FN:BinOp->Bool
 | .shl | .shr=>true
 | _=>false
def bl(s:ByteArray):List UInt8:=s.data.toList
def mU(l:List UInt8):ByteArray:=⟨⟨l⟩⟩
theorem Wn(l:List UInt8):bl (mU l)=l:=rfl
def GV(op:BinOp)(a b:ByteArray):Option DV:=
 match op with
 | .add=>if(bl a).length+(bl b).length<=9223372036854775807 then some (.v (.string (mU (bl a++bl b)))) else none
 | .eql=>some (.v (.bool (bl a==bl b)))
 | .neq=>some (.v (.bool (!(bl a==bl b))))
 | _=>none
def mi(op:BinOp):DV->DV->Option DV
 | .v (.string a),.v (.string b)=>GV op a b
 | .v (.int k a),.v (.int k' b)=>if FN op=true then Iv op k a b else if k=k' then uC op k a b else none
 | _,_=>none
def aze(neg:Bool):DV->DV->Option DV
 | .v (.bool a),.v (.bool b)=>some (.v (.bool ((a==b) !=neg)))
 | _,_=>none
def ud(q:Bool):DV->DV->Option DV
 | .v (.bool x),.v (.bool y)=>some (.v (.bool (cond q x y)))
 | .v (.bool x),_=>if q=true then some (.v (.bool x)) else none
 | _,.v (.bool y)=>if q=true then none else some (.v (.bool y))
 | _,_=>none
def vm(p:Bool)(c a b:DV):Option DV:=
 match un p c with
 | .v (.bool q)=>ud q (un (p && q) a) (un (p && !q) b)
 | _=>none
def uO:Nat->DV->DV->Option Bool
 | 1,.v (.int k a),.v (.int k' b)=>if k=k' then some (a==b) else none
 | 0,.v (.bool a),.v (.bool b)=>some (a==b)
 | 2,.v (.string a),.v (.string b)=>some (a==b)
 | _,_,_=>none
def nw(xs ys:List DV):List (Nat×Nat)->Option Bool
 | []=>some true
 | o::r=>match uO o.2 (xs.getD o.1 .any) (ys.getD o.1 .any),nw xs ys r with
  | some a,some b=>some (a && b)
  | _,_=>none
def eF(cs:List DV)(off:Nat)(news:List DV):List DV:=cs.take off++news++cs.drop (off+news.length)
def kK(ρ:RO->DV):List DV->List (Nat×Nat×RO)->Option (List DV)
 | z,[]=>some z
 | z,(off,n,x)::r=>match hJ (ρ x) with
  | some cs=>if cs.length=n/\off+n<=z.length then kK ρ (eF z off cs) r else none
  | none=>none
def xl(mx:Bool):DV->DV->Option DV
 | .v (.int k a),.v (.int _ b)=>some (.v (.int k (if mx then(if a<b then b else a) else(if b<a then b else a))))
 | _,_=>none
def ui(mx:Bool):DV->List DV->Option DV
 | d,[]=>match d with | .v (.int k a)=>some (.v (.int k a)) | _=>none
 | d,e::r=>match xl mx d e with
  | some x=>ui mx x r
  | none=>none
def jK(H:Hp)(ag:Bool)(n:Nat):DV->Option DV
 | .ptr o g i off=>match H o with
  | some ck=>if ck.gen=g/\off+n<=(ck.xs.getD i []).length then(if ag then some (.agg (((ck.xs.getD i []).drop off).take n)) else if n=1 then((ck.xs.getD i []).drop off).head? else none) else none
  | none=>none
 | .rp cs=>if n<=cs.length then(if ag then some (.agg (cs.take n)) else if n=1 then cs.head? else none) else none
 | _=>none
def nU(H:Hp)(n:Nat)(a x:DV):Option Up:=
 match a,hJ x with
 | .ptr o g i off,some cs=>match H o with
  | some ck=>if ck.gen=g/\cs.length=n/\off+n<=(ck.xs.getD i []).length then some (.wr o {ck with xs:=ck.xs.set i (eF (ck.xs.getD i []) off cs)}) else none
  | none=>none
 | _,_=>none
def jE(ρ:RO->DV)(sz:Nat):List (List DV)->List (Nat×RO)->Option (List (List DV))
 | xs,[]=>some xs
 | xs,(i,x)::r=>match hJ (ρ x) with
  | some cs=>if cs.length=sz/\i<xs.length then jE ρ sz (xs.set i cs) r else none
  | none=>none
def uS(op:UnOp):DV->Option DV
 | .v (.int k n)=>match op with
  | .neg=>some (.v (.int k (k.wrap (0-n))))
  | _=>none
 | .v (.bool b)=>match op with
  | .not=>some (.v (.bool (!b)))
  | _=>none
 | _=>none
def mh(d:Nat):Option DV->Option Int
 | none=>some d
 | some (.v (.int _ n))=>some n
 | _=>none
def live(H:Hp)(o g:Nat):Bool:=match H o with
 | some ck=>ck.gen==g
 | none=>false
def sK(H:Hp)(o g sz:Nat):Bool:=match H o with
 | some ck=>ck.gen==g && ck.sz==sz
 | none=>false
def rm(H:Hp)(sz:Nat)(x:DV)(lo hi:Option DV):Option DV:=
 match x with
 | .ab f xs=>match mh 0 lo,mh xs.length hi with
  | some l,some h=>if 0<=l/\l<=h/\h<=xs.length/\(l=0\/xs.all (fun c=>c.length==sz)=true) then some (.ab (f && decide (h=xs.length)) ((xs.drop l.toNat).take (h.toNat-l.toNat))) else none
  | _,_=>none
 | .own o g b n=>match mh 0 lo,mh n hi with
  | some l,some h=>if sK H o g sz=true/\0<=l/\l<=h/\h<=n then some (.own o g (b+l.toNat) (h.toNat-l.toNat)) else none
  | _,_=>none
 | _=>none
def kg(H:Hp):DV->Option (List (List DV))
 | .ab _ xs=>some xs
 | .own o g b n=>match H o with
  | some ck=>if ck.gen=g then some ((ck.xs.drop b).take n) else none
  | none=>none
 | _=>none
def j2(H:Hp)(sz bytes:Nat)(s x:DV):Option (DV×Up):=
 match kg H x with
 | none=>none
 | some news=>
  if news.all (fun c=>c.length==sz) then
   match s with
   | .ab true xs=>
    if xs.all (fun c=>c.length==sz)/\(xs.length+news.length)*bytes<=140737488355328/\xs.length+news.length<=9223372036854775807 then
     some (.ab false (xs++news),.no) else none
   | .own o g b n=>match H o with
    | some ck=>if ck.gen=g/\ck.sz=sz/\(n+news.length)*bytes<=140737488355328/\n+news.length<=9223372036854775807 then
      some (.own o (g+1) 0 (n+news.length),.wr o ⟨g+1,sz,(ck.xs.drop b).take n++news⟩) else none
    | none=>none
   | _=>none
  else none
def kT(xs:List (List DV))(lo:Nat)(rows:List (List DV)):List (List DV):=xs.take lo++rows++xs.drop (lo+rows.length)
def mT(H:Hp):DV->Option DV
 | .ab _ xs=>some (I xs.length)
 | .own _ _ _ n=>some (I n)
 | _=>none
def ay9:List DV->Option UInt8
 | [.v (.int .u8 n)]=>some (UInt8.ofNat n.toNat)
 | _=>none
def ev(op:cR)(p:Bool)(T:Nat->DV)(H:Hp)(nx:Nat):Option (DV×Up):=
 let ρ:=fun x:RO=>un p (x.get T)
 match op with
 | .bS x=>some (ρ x,.no)
 | .pick c a b=>(vm p (c.get T) (a.get T) (b.get T)).map (·,.no)
 | .box x=>(hJ (ρ x)).map fun cs=>(.ptr nx 0 0 0,.al ⟨0,cs.length,[cs]⟩)
 | .alloc z=>some (.ptr nx 0 0 0,.al ⟨0,z.length,[z]⟩)
 | .build z ps=>(kK ρ z ps).map fun cs=>(.agg cs,.no)
 | .g9 ow sz z len ps=>(jE ρ sz (List.replicate len z) ps).map fun xs=>if ow then(.own nx 0 0 len,.al ⟨0,sz,xs⟩) else(.ab true xs,.no)
 | .load ag n a=>(jK H ag n (ρ a)).map (·,.no)
 | .store n a x=>(nU H n (ρ a) (ρ x)).map (.v undef,·)
 | .mK x=>match ρ x with
  | .ptr o g i f=>if live H o g=true then some (.ptr o g i f,.no) else none
  | .rp cs=>some (.rp cs,.no)
  | .fn f cs=>some (.fn f cs,.no)
  | _=>none
 | .bin op x y=>(mi op (ρ x) (ρ y)).map (·,.no)
 | .pN neg offs x y=>match ρ x,ρ y with
  | .agg xs,.agg ys=>(nw xs ys offs).map fun b=>(.v (.bool (b !=neg)),.no)
  | _,_=>none
 | .un op x=>(uS op (ρ x)).map (·,.no)
 | .conv k x=>match ρ x with
  | .v (.int _ n)=>some (.v (.int k (k.wrap n)),.no)
  | _=>none
 | .bO off x=>match ρ x with
  | .ptr o g i f=>if live H o g=true then some (.ptr o g i (f+off),.no) else none
  | .rp cs=>some (.rp (cs.drop off),.no)
  | _=>none
 | .qI ag n off x=>match ρ x with
  | .agg cs=>if off+n<=cs.length then(if ag then some (.agg ((cs.drop off).take n),.no) else((cs.drop off).head?).map (·,.no)) else none
  | _=>none
 | .cP sz x i=>match ρ x,ρ i with
  | .ab _ xs,.v (.int _ n)=>if 0<=n/\n<xs.length/\(xs.getD n.toNat []).length=sz then some (.rp (xs.getD n.toNat []),.no) else none
  | .own o g lo k,.v (.int _ n)=>match H o with
   | some ck=>if ck.gen=g/\ck.sz=sz/\0<=n/\n<k then some (.ptr o g (lo+n.toNat) 0,.no) else none
   | none=>none
  | _,_=>none
 | .jL sz x lo hi=>(rm H sz (ρ x) (lo.map ρ) (hi.map ρ)).map (·,.no)
 | .fw sz bytes z len cap=>match ρ len,ρ cap with
  | .v (.int .i64 l),.v (.int .i64 c)=>if 0<=l/\l<=c/\bytes*c<=140737488355328/\c<=140737488355328 then some (.own nx 0 0 l.toNat,.al ⟨0,sz,List.replicate l.toNat z⟩) else none
  | _,_=>none
 | .len x=>(mT H (ρ x)).map (·,.no)
 | .mm mx xs=>match xs.map ρ with
  | d::r=>(ui mx d r).map (·,.no)
  | []=>none
 | .app sz bytes s x=>j2 H sz bytes (ρ s) (ρ x)
 | .jm i x=>match ρ x with
  | .bh vs=>(vs[i]?).map (·,.no)
  | _=>none
 | .sD f cs=>some (.fn f (cs.map ρ),.no)
 | .call .. =>none
def DV.ids:DV->List Nat
 | .ptr o .. | .own o .. =>[o]
 | _=>[]
def cF(op:cR)(p:Bool)(T:Nat->DV):List Nat:=
 let ρ:=fun x:RO=>un p (x.get T)
 match op with
 | .load _ _ a=>(ρ a).ids
 | .store _ a _=>(ρ a).ids
 | .cP _ x _=>(ρ x).ids
 | .app _ _ s x=>(ρ s).ids++(ρ x).ids
 | .mK x | .bO _ x | .jL _ x _ _ | .len x=>(ρ x).ids
 | _=>[]
def Gq:Value->Bool
 | .slice none l c=>l==0 && c==0
 | _=>false
def Ek:Value->Option FuncId
 | .func (.func f) a b=>if a.size=0/\b.size=0 then some f else none
 | _=>none
def kB(x:Value):DV:=
 if Gq x=true then .ab true [] else
 match Ek x with
 | some f=>.fn f []
 | none=>.v x
def Gp(cs:Array Value):Bool:=cs.toList.all Value.oneCell'
def EV:Value->Option DV
 | .agg cs=>if Gp cs then some (.agg (cs.toList.map kB)) else none
 | .tuple _=>none
 | x=>some (kB x)
def ro:Operand->Option RO
 | .tmp t=>some (.t t)
 | .const v=>(EV v).map .c
 | .global _=>none
 | .func f=>some (.c (.fn f []))
def zeroOf(P:Program)(t:TypeId):Option (List DV):=
 match P.info? t with
 | some i=>match i.zero with
  | some z=>if Gp z.cells && z.cells.size==i.size then some (z.cells.toList.map kB) else none
  | none=>none
 | none=>none
def hO(P:Program)(t:TypeId):Option Nat:=(P.info? t).map (·.size)
def iH(P:Program)(t:TypeId):Option Bool:=
 match P.underlying t with
 | some (.struct _) | some (.array _ _)=>some true
 | some _=>some false
 | none=>none
def mw:List Operand->Option (List RO)
 | []=>some []
 | x::r=>match ro x,mw r with
  | some a,some b=>some (a::b)
  | _,_=>none
def lY(f:Nat->Option (Nat×Nat)):List (Nat×Operand)->Option (List (Nat×Nat×RO))
 | []=>some []
 | (i,x)::r=>match f i,ro x,lY f r with
  | some (o,n),some x,some r=>some ((o,n,x)::r)
  | _,_,_=>none
def tz:List (Nat×Operand)->Option (List (Nat×RO))
 | []=>some []
 | (i,x)::r=>match ro x,tz r with
  | some x,some r=>some ((i,x)::r)
  | _,_=>none
def flat(P:Program):Nat->TypeId->Option (List (Nat×Nat))
 | 0,_=>none
 | d+1,t=>
  match P.underlying t with
  | some .bool=>some [(0,0)]
  | some (.int _)=>some [(0,1)]
  | some .string=>some [(0,2)]
  | some (.struct fs)=>if P.stoodInHeld t=true then none else
   fs.toList.foldr (fun(f:Field) acc=>match acc with
    | none=>none
    | some r=>if f.name= "_" then none else match flat P d f.type,hO P f.type with
     | some l,some n=>if l.all (fun x=>decide (x.1<n))=true then some (l.map (fun x=>(f.offset+x.1,x.2))++r) else none
     | _,_=>none) (some [])
  | _=>none
def azd:Option TypeDesc->Bool
 | some (.int .u8)=>true
 | _=>false
def cH(P:Program)(ow:Bool):Op->Option cR
 | .move x | .assign x=>(ro x).map .bS
 | .pick c a b=>match ro c,ro a,ro b with
  | some c,some a,some b=>some (.pick c a b)
  | _,_,_=>none
 | .alloc e=>(zeroOf P e).map .alloc
 | .box _ x=>(ro x).map .box
 | .build t ps=>match zeroOf P t,P.underlying t with
  | some z,some (.struct fs)=>match fs.toList.mapM (fun f=>(P.info? f.type).map fun i=>(f.offset,i.size)) with
   | some places=>(lY (places.toArray[·]?) ps.toList).map (.build z)
   | none=>none
  | some z,some (.array _ e)=>match P.info? e with
   | some ie=>(lY (fun i=>some (i*ie.size,ie.size)) ps.toList).map (.build z)
   | none=>none
  | _,_=>none
 | .buildSlice t len ps=>match P.underlying t with
  | some (.slice e)=>match zeroOf P e,hO P e with
   | some z,some n=>if 0<n/\len*n<=2 ^ 24 then(tz ps.toList).map (.g9 ow n z len) else none
   | _,_=>none
  | _=>none
 | .load t a=>match iH P t,hO P t,ro a with
  | some ag,some n,some a=>if ag || n==1 then some (.load ag n a) else none
  | _,_,_=>none
 | .store t a x=>match hO P t,ro a,ro x with
  | some n,some a,some x=>some (.store n a x)
  | _,_,_=>none
 | .nilCheck x=>(ro x).map .mK
 | .binOp op t x y0 _=>match ro x,ro y0 with
  | some x,some y=>match P.underlying t with
   | some (.struct _)=>match op,flat P 20 t with
    | .eql,some offs=>if P.eqGuardType P.depth t then none else some (.pN false offs x y)
    | .neq,some offs=>if P.eqGuardType P.depth t then none else some (.pN true offs x y)
    | _,_=>none
   | some .bool=>none
   | some (.interface _)=>none
   | _=>some (.bin op x y)
  | _,_=>none
 | .unOp op _ x=>(ro x).map (.un op)
 | .convert src dst x=>match P.underlying dst,ro x,P.underlying src with
  | some (.int k),some x,some _=>some (.conv k x)
  | _,_,_=>none
 | .fieldAddr s x f=>match P.underlying s,ro x with
  | some (.struct fs),some x=>match fs[f]? with
   | some f=>match hO P f.type with
    | some n=>if 0<n then some (.bO f.offset x) else none
    | none=>none
   | none=>none
  | _,_=>none
 | .field t x f=>match P.underlying t,ro x with
  | some (.struct fs),some x=>match fs[f]? with
   | some f=>match iH P f.type,hO P f.type with
    | some ag,some n=>if ag || n==1 then some (.qI ag n f.offset x) else none
    | _,_=>none
   | none=>none
  | _,_=>none
 | .indexAddr t x i=>match P.underlying t,ro x,ro i with
  | some (.slice e),some x,some i=>match hO P e with
   | some n=>some (.cP n x i)
   | none=>none
  | _,_,_=>none
 | .slice t x lo hi none=>match P.underlying t,ro x with
  | some (.slice e),some x=>match hO P e with
   | some n=>match lo with
    | none=>match hi with
     | none=>some (.jL n x none none)
     | some h=>(ro h).map fun h=>.jL n x none (some h)
    | some l=>match hi with
     | none=>(ro l).map fun l=>.jL n x (some l) none
     | some h=>match ro l,ro h with
      | some l,some h=>some (.jL n x (some l) (some h))
      | _,_=>none
   | none=>none
  | _,_=>none
 | .makeSlice t l c=>match P.underlying t,ro l,ro c with
  | some (.slice e),some l,some c=>match P.info? e,zeroOf P e with
   | some i,some z=>if 0<i.size then some (.fw i.size i.bytes z l c) else none
   | _,_=>none
  | _,_,_=>none
 | .extract x i=>(ro x).map (.jm i)
 | .makeFunc (.func f) first captured=>if first.size=0 then(mw captured.toList).map (.sD f) else none
 | .call {callee:=.builtin .len,args,argTypes}=>match args.toList,argTypes.toList with
  | [x],[t]=>match P.underlying t with
   | some (.slice _)=>(ro x).map .len
   | _=>none
  | _,_=>none
 | .call {callee:=.builtin .append,args,argTypes}=>match args.toList,argTypes.toList with
  | [s,x],[t,u]=>if t=u then match P.underlying t with
   | some (.slice e)=>match P.info? e,zeroOf P e,ro s,ro x with
    | some i,some _,some s,some x=>if 0<i.size then some (.app i.size i.bytes s x) else none
    | _,_,_,_=>none
   | _=>none
   else none
  | _,_=>none
 | .call {callee:=.builtin .max,args, .. }=>(mw args.toList).map (.mm true)
 | .call {callee:=.builtin .min,args, .. }=>(mw args.toList).map (.mm false)
 | .call {callee:=.value f,args, .. }=>match ro f,mw args.toList with
  | some f,some xs=>some (.call f xs)
  | _,_=>none
 | _=>none
theorem zf{i j n sz:Nat}(hi:i<n)(hj:j<sz):i*sz+j<n*sz:=by
 have:=Nat.mul_le_mul_right sz (Nat.succ_le_of_lt hi);rw[Nat.succ_mul] at this;omega
theorem MB{H ps M nx w}(x:Value):VR H ps M nx w (kB x) x:=by
 unfold kB;split
 ·rename_i h;cases x with
  | slice a l c=>
   cases a with
   | none=>
    simp[Gq] at h;obtain⟨rfl,rfl⟩:=h;exact .fm true none 0 (fun _=>rfl)
   | some a=>simp[Gq] at h
  | _=>simp[Gq] at h
 ·split
  ·rename_i f h;cases x with
   | func g a b=>
    cases g with
    | func g=>
     simp[Ek] at h;obtain⟨⟨rfl,rfl⟩,rfl⟩:=h;exact .fn _ [] #[] rfl (fun j hj=>by simp at hj)
    | _=>simp[Ek] at h
   | _=>simp[Ek] at h
  ·exact .v _
theorem XF{cs:Array Value}(h:Gp cs=true)(j:Nat)(hj:j<cs.size):(cs.getD j undef).oneCell'=true:=by
 unfold Gp at h;rw[List.all_eq_true] at h;have:cs.getD j undef=cs[j]:=by simp[Array.getD,hj]
 rw[this];exact h _ (by simp)
theorem ayh{H ps M nx w x d}(h:EV x=some d):VR H ps M nx w d x:=by
 unfold EV at h;split at h
 ·split at h
  ·rename_i cs hk;cases h;refine .agg _ _ (by simp) (fun j hj=>XF hk j (by simpa using hj)) fun j hj=>?_;have hj':j<cs.size:=by simpa using hj
   have:cs.getD j undef=cs[j]:=by simp[Array.getD,hj']
   rw[this];simp only[List.getElem_map,Array.getElem_toList];exact MB _
  ·cases h
 ·cases h
 ·cases h;exact MB _
theorem EL{H ps M nx w x r T}{a:Act}(h:ro x=some r)(hT:∀t,VR H ps M nx w (T t) (a.tmps.getD t undef)):
  VR H ps M nx w (r.get T) (a.eval x):=by
 unfold ro at h;split at h
 ·cases h;exact hT _
 ·rename_i v;cases hv:EV v with
  | none=>simp[hv] at h
  | some d=>simp[hv] at h;subst h;exact ayh hv
 ·cases h
 ·cases h;exact .fn _ [] #[] rfl (fun j hj=>by simp at hj)
theorem LM{H ps M nx w d x}{p:Bool}(hp:p=true)(h:VR H ps M nx w d x):VR H ps M nx w (un p d) x:=by
 cases h with
 | gd q d x h h2=>
  simp only[un];split
  ·rename_i hq;subst hp;simp at hq;exact h hq
  ·exact .any _
 | _=>simp only[un];constructor<;>assumption
theorem Ea{H ps M nx w x r T p}{a:Act}(hp:p=true)(h:ro x=some r)(hT:∀t,VR H ps M nx w (T t) (a.tmps.getD t undef)):
  VR H ps M nx w (un p (r.get T)) (a.eval x):=LM hp (EL h hT)
theorem VR.e9{H ps M nx w x y}(h:VR H ps M nx w (.v x) y):y=x:=by cases h;rfl
theorem VR.fj{H ps M nx w cs y}(h:VR H ps M nx w (.agg cs) y):∃vs,y=.agg vs/\vs.size=cs.length/\(∀j,j<cs.length->(vs.getD j undef).oneCell'=true)/\
  ∀j (hj:j<cs.length),VR H ps M nx w cs[j] (vs.getD j undef):=by cases h with | agg _ vs hl h1 hv=>exact⟨vs,rfl,hl,h1,hv⟩
theorem VR.kG{H ps M nx w cs y}(h:VR H ps M nx w (.bh cs) y):∃vs,y=.tuple vs/\vs.size=cs.length/\
  ∀j (hj:j<cs.length),VR H ps M nx w cs[j] (vs.getD j undef):=by cases h with | bh _ vs hl hv=>exact⟨vs,rfl,hl,hv⟩
theorem VR.jQ{H ps M nx w f cs y}(h:VR H ps M nx w (.fn f cs) y):∃vs,y=.func (.func f) #[] vs/\vs.size=cs.length/\
  ∀j (hj:j<cs.length),VR H ps M nx w cs[j] (vs.getD j undef):=by cases h with | fn _ _ vs hl hv=>exact⟨vs,rfl,hl,hv⟩
theorem OO{H ps M nx w d x cs}(h:hJ d=some cs)(hv:VR H ps M nx w d x):
  x.cells.size=cs.length/\(∀j,j<cs.length->(x.cells.getD j undef).oneCell'=true)/\∀j (hj:j<cs.length),VR H ps M nx w cs[j] (x.cells.getD j undef):=by
 have single:∀d:DV,LC d=true->VR H ps M nx w d x->(x.cells.size=[d].length/\(∀j,j< [d].length->(x.cells.getD j undef).oneCell'=true)/\∀j (hj:j< [d].length),VR H ps M nx w [d][j] (x.cells.getD j undef)):=by
  intro d hd hv;have h1:=hv.Zh hd;have hc:x.cells= #[x]:=by cases x<;>simp_all[Value.cells,Value.oneCell']
  rw[hc];refine⟨rfl,fun j hj=>?_,fun j hj=>?_⟩
  ·have:j=0:=by simpa using hj
   subst this;exact h1
  ·have:j=0:=by simpa using hj
   subst this;exact hv
 cases d with
 | agg cs'=>
  simp only[hJ] at h;cases h;obtain⟨vs,rfl,hl,h1,h2⟩:=hv.fj;exact⟨hl,h1,h2⟩
 | v x'=>
  simp only[hJ] at h;split at h
  ·rename_i h1;cases h;exact single _ h1 hv
  ·cases h
 | ptr=>simp only[hJ] at h;cases h;exact single _ rfl hv
 | own=>simp only[hJ] at h;cases h;exact single _ rfl hv
 | ab=>simp only[hJ] at h;cases h;exact single _ rfl hv
 | rp=>simp only[hJ] at h;cases h;exact single _ rfl hv
 | fn=>simp only[hJ] at h;cases h;exact single _ rfl hv
 | _=>simp[hJ] at h
theorem Mv.al{cx:Cx}{H:Hp}{ps:Ps}{nx:Nat}{w:World}(ck:Ck)(c:Array Value)(E:TypeId)(vs:Nat->Nat->Value)
  (hr:HR H ps cx.M nx w) (fr:Fr cx.B cx.w0 w) (lb:∀o ck p,H o=some ck->ps o=some p->cx.B p.b\/cx.w0.heap.size<=p.b)
  (hz:∀i (hi:i<ck.xs.length),ck.xs[i].length=ck.sz) (hs:ck.xs.length*ck.sz<=c.size)
  (hc:∀i j,i<ck.xs.length->j<ck.sz->(vs i j).oneCell'=true/\c[i*ck.sz+j]? =some (vs i j))
  (hv:∀i j (hi:i<ck.xs.length) (hj:j<ck.xs[i].length),VR H ps cx.M nx w ck.xs[i][j] (vs i j)):
  Mv cx H ps nx w (H.put nx (some ck)) (ps.put nx (some ⟨w.heap.size,0,c.size⟩)) (nx+1) (w.alloc (.cells c E)):=by
 refine Mv.cN nx ck (some ⟨w.heap.size,0,c.size⟩) (nx+1) _ hr fr lb (by omega) (by omega) (.inl (Nat.le_refl _)) ((eA.alloc w _).rf _) ?_ ?_
 ·intro p' hp';injection hp' with hp';subst hp';exact .inr (Nat.le_refl _)
 ·intro kp;refine .inr ⟨⟨w.heap.size,0,c.size⟩,c,E,vs,Ps.b9 ..,?_,rfl,hz,by simpa using hs,?_,fun i j hi hj=>(hv i j hi hj).mono kp⟩
  ·exact gO.of (by show(w.heap.push _)[w.heap.size]? =_;simp)
  ·intro i j hi hj;simpa using hc i j hi hj
theorem AM{P:Program}(w:World)(E:TypeId)(c:Array Value):(newRow E c).run P w=.ok ⟨w.heap.size,0,none⟩ (w.alloc (.cells c E)):=rfl
theorem Mv.box{cx:Cx}{H:Hp}{ps:Ps}{nx:Nat}{w:World}(cs:List DV)(c:Array Value)(E:TypeId)
  (hr:HR H ps cx.M nx w) (fr:Fr cx.B cx.w0 w) (lb:∀o ck p,H o=some ck->ps o=some p->cx.B p.b\/cx.w0.heap.size<=p.b)
  (hl:c.size=cs.length) (h1:∀j,j<cs.length->(c.getD j undef).oneCell'=true) (hv:∀j (hj:j<cs.length),VR H ps cx.M nx w cs[j] (c.getD j undef)):
  Mv cx H ps nx w (H.put nx (some ⟨0,cs.length,[cs]⟩)) (ps.put nx (some ⟨w.heap.size,0,c.size⟩)) (nx+1) (w.alloc (.cells c E))/\
  VR (H.put nx (some ⟨0,cs.length,[cs]⟩)) (ps.put nx (some ⟨w.heap.size,0,c.size⟩)) cx.M (nx+1) (w.alloc (.cells c E)) (.ptr nx 0 0 0) (.pointer (some ⟨w.heap.size,0,none⟩)):=by
 refine⟨Mv.al ⟨0,cs.length,[cs]⟩ c E (fun _ j=>c.getD j undef) hr fr lb ?_ (by simp[hl]) ?_ ?_,?_⟩
 ·intro i hi;have:i=0:=by simpa using hi
  subst this;rfl
 ·intro i j hi hj;have:i=0:=by simpa using hi
  subst this;refine⟨h1 j hj,?_⟩;have hj':j<c.size:=by rw[hl];exact hj
  simp[Array.getD,hj']
 ·intro i j hi hj;have:i=0:=by simpa using hi
  subst this;exact hv j hj
 ·refine .ptr _ _ _ _ _ (by omega) rfl fun ck' h=>?_;rw[Hp.b9] at h;cases h;exact⟨Nat.le_refl _,fun _=>⟨by simp,_,Ps.b9 ..,by simp⟩⟩
def eK(P:Program)(cx:Cx)(H:Hp)(ps:Ps)(nx:Nat)(w:World)(r:Result Next)(d:DV)(u:Up):Prop:=
 ∃nv v w' ps',r=.ok nv w'/\(nv=.value v\/(nv=.skip/\v=undef))/\VR (u.hp H nx) ps' cx.M (u.nx nx) w' d v/\Mv cx H ps nx w (u.hp H nx) ps' (u.nx nx) w'
theorem eK.pure{P cx H ps nx w d v}{r:Result Next}(hr:HR H ps cx.M nx w)(fr:Fr cx.B cx.w0 w)(lb:∀o ck p,H o=some ck->ps o=some p->cx.B p.b\/cx.w0.heap.size<=p.b)
  (h:r=.ok (.value v) w) (hv:VR H ps cx.M nx w d v):eK P cx H ps nx w r d .no:=
 ⟨_,v,w,ps,h,.inl rfl,hv,Mv.je hr fr lb (eA.refl w)⟩
theorem Il{P:Program}{t:TypeId}{z:List DV}(h:zeroOf P t=some z):
  ∃i v,P.info? t=some i/\i.zero=some v/\v.cells.size=i.size/\z.length=i.size/\z=v.cells.toList.map kB/\(∀j,j<v.cells.size->(v.cells.getD j undef).oneCell'=true):=by
 unfold zeroOf at h;cases hi:P.info? t with
 | none=>simp[hi] at h
 | some i=>
  cases hz:i.zero with
  | none=>simp[hi,hz] at h
  | some v=>
   simp only[hi,hz] at h;split at h
   ·rename_i hk;simp only[Bool.and_eq_true,beq_iff_eq] at hk;cases h;exact⟨i,v,rfl,hz,hk.2,by simp[hk.2],rfl,fun j hj=>XF hk.1 j hj⟩
   ·cases h
theorem PM{H ps M nx w}(cs:Array Value)(j:Nat)(hj:j<(cs.toList.map kB).length):VR H ps M nx w (cs.toList.map kB)[j] (cs.getD j undef):=by
 have hj':j<cs.size:=by simpa using hj
 have:cs.getD j undef=cs[j]:=by simp[Array.getD,hj']
 rw[this];simp only[List.getElem_map,Array.getElem_toList];exact MB _
theorem O8{P:Program}{t:TypeId}{ag:Bool}(h:iH P t=some ag)(w:World):(isAgg t).run P w=.ok ag w:=by
 unfold iH at h;cases hu:P.underlying t with
 | none=>simp[hu] at h
 | some d=>
  simp only[isAgg,Sem.run_bind,run_underlying hu,Result.andThen_ok];cases d<;>simp[hu] at h<;>subst h<;>rfl
theorem s6{P:Program}{t:TypeId}{n:Nat}(h:hO P t=some n)(w:World):(sizeOf t).run P w=.ok n w:=by
 unfold hO at h;cases hi:P.info? t with
 | none=>simp[hi] at h
 | some i=>simp[hi] at h;subst h;simp[sizeOf,typeInfo,hi]
theorem Addr.nZ(b off j:Nat):(⟨b,off,none⟩:Addr).add j=⟨b,off+j,none⟩:=by unfold Addr.add;split<;>simp_all
theorem Q3{P:Program}{t:TypeId}{ag:Bool}{n:Nat}(h1:iH P t=some ag)(h2:hO P t=some n)(h3:(ag || n==1)=true)(w:World)(b off:Nat)(f:Nat->Value)
  (hc:∀j,j<n->w.cell? ⟨b,off+j,none⟩=some (f j)):
  (loadVar t ⟨b,off,none⟩).run P w=.ok (if ag then .agg ((List.range n).map f).toArray else f 0) w:=by
 unfold loadVar;simp only[Sem.run_bind,O8 h1,Result.andThen_ok,Sem.run_ite];cases ag with
 | true=>
  have:=run_loadCells (P:=P) w ⟨b,off,none⟩ n f (fun j hj=>by rw[Addr.nZ];exact hc j hj);simp[s6 h2,this]
 | false=>
  have hn:n=1:=by simpa using h3
  have:=hc 0 (by omega);simp only[Nat.add_zero] at this;simp[this]
theorem HR.cell{H ps M nx w o ck}(h:HR H ps M nx w)(ho:H o=some ck){p:Ph}(hp:ps o=some p){i:Nat}(hi:i<ck.xs.length):
  (ck.xs[i].length=ck.sz)/\∃vs:Nat->Value,∀j (hj:j<ck.xs[i].length),w.cell? ⟨p.b,p.k+i*ck.sz+j,none⟩=some (vs j)/\(vs j).oneCell'=true/\VR H ps M nx w ck.xs[i][j] (vs j):=by
 rcases h.cr o ck ho with⟨h1,h2⟩ | ⟨p',c,E,vs,h1,h2,h3,h4,h5,h6,h7⟩
 ·simp[h1] at hp
 ·rw[hp] at h1;cases h1;refine⟨h4 i hi,vs i,fun j hj=>?_⟩;have hj':j<ck.sz:=by rw[<-h4 i hi];exact hj
  refine⟨?_,(h6 i j hi hj').1,h7 i j hi hj⟩;have:=(h6 i j hi hj').2;rw[<-Nat.add_assoc] at this;rw[h2.cell];exact this
theorem VX{H ps M nx w ag n d x r}(hr:HR H ps M nx w)(h:jK H ag n d=some r)(hv:VR H ps M nx w d x):
  ∃(b off:Nat) (f:Nat->Value) (cs:List DV),x=.pointer (some ⟨b,off,none⟩)/\cs.length=n/\(∀j,j<n->w.cell? ⟨b,off+j,none⟩=some (f j))/\(∀j,j<n->(f j).oneCell'=true)/\
   (∀j (hj:j<cs.length),VR H ps M nx w cs[j] (f j))/\((ag=true/\r=.agg cs)\/(ag=false/\n=1/\cs=[r])):=by
 cases d with
 | ptr o g i off=>
  simp only[jK] at h;cases ho:H o with
  | none=>simp[ho] at h
  | some ck=>
   simp only[ho] at h;split at h
   ·rename_i hc;obtain⟨hg,hlen⟩:=hc;cases hv with
    | ptr _ _ _ _ _ h0 h1 hh=>
     obtain⟨_,hh⟩:=hh ck ho;obtain⟨hi,p,hp,rfl⟩:=hh hg;obtain⟨hz,vs,hvs⟩:=hr.cell ho hp hi;have hgd:ck.xs.getD i []=ck.xs[i]:=by simp[List.getD,hi]
     rw[hgd] at h hlen;refine⟨p.b,p.k+i*ck.sz+off,fun j=>vs (off+j),(ck.xs[i].drop off).take n,rfl,?_,?_,?_,?_,?_⟩
     ·simp;omega
     ·intro j hj;have:=(hvs (off+j) (by omega)).1;rwa [<-Nat.add_assoc] at this
     ·intro j hj;exact(hvs (off+j) (by omega)).2.1
     ·intro j hj;have hj':off+j<ck.xs[i].length:=by simp at hj;omega
      have:=(hvs (off+j) hj').2.2;simpa using this
     ·split at h
      ·rename_i hag;injection h with h;exact .inl ⟨by simpa using hag,h.symm⟩
      ·rename_i hag;split at h
       ·rename_i hn;refine .inr ⟨by simpa using hag,hn,?_⟩;subst hn;cases hd:ck.xs[i].drop off with
        | nil=>simp[hd] at h
        | cons a l=>simp[hd] at h;subst h;simp
       ·cases h
   ·cases h
 | rp cs=>
  simp only[jK] at h;split at h
  ·rename_i hlen;cases hv with
   | rp _ b off vs hM h1 hc hv=>
    refine⟨b,off,vs,cs.take n,rfl,by simp;omega,fun j hj=>hc j (by omega),fun j hj=>h1 j (by omega),fun j hj=>?_,?_⟩
    ·have hj':j<cs.length:=by simp at hj;omega
     simpa using hv j hj'
    ·split at h
     ·rename_i hag;injection h with h;exact .inl ⟨by simpa using hag,h.symm⟩
     ·rename_i hag;split at h
      ·rename_i hn;refine .inr ⟨by simpa using hag,hn,?_⟩;subst hn;cases cs with
       | nil=>simp at h
       | cons a l=>simp at h;subst h;simp
      ·cases h
  ·cases h
 | _=>simp[jK] at h
theorem RH{P:Program}{H ps M nx w ag n d x r}{t:TypeId}(hr:HR H ps M nx w)(h1:iH P t=some ag)(h2:hO P t=some n)(h3:(ag || n==1)=true)
  (h:jK H ag n d=some r) (hv:VR H ps M nx w d x):∃v,(Instr.loadAt t x).run P w=.ok v w/\VR H ps M nx w r v:=by
 obtain⟨b,off,f,cs,rfl,hn,hc,h1c,hvs,hr'⟩:=VX hr h hv;have hrun:=Q3 h1 h2 h3 w b off f hc;refine⟨_,by simp only[Instr.loadAt,Instr.sureAddr,Sem.run_bind,Sem.run_pure,Result.andThen_ok];exact hrun,?_⟩;rcases hr' with⟨rfl,rfl⟩ | ⟨rfl,rfl,rfl⟩
 ·simp only[if_true];have hgd:∀j,j<n->(((List.range n).map f).toArray.getD j undef)=f j:=by intro j hj;simp[Array.getD,hj]
  refine .agg _ _ (by simp[hn]) (fun j hj=>?_) fun j hj=>?_
  ·rw[hgd j (by omega)];exact h1c j (by omega)
  ·rw[hgd j (by omega)];exact hvs j hj
 ·simp only[Bool.false_eq_true,if_false];exact hvs 0 (by simp)
theorem N7(cs:List DV)(off:Nat)(ns:List DV)(h:off+ns.length<=cs.length):(eF cs off ns).length=cs.length:=by
 simp[eF];omega
theorem Qz(cs:List DV)(off:Nat)(ns:List DV)(h:off+ns.length<=cs.length)(j:Nat)(hj:j<(eF cs off ns).length):
  (∃h1:j-off<ns.length,off<=j/\(eF cs off ns)[j]=ns[j-off])\/(∃h1:j<cs.length,(j<off\/off+ns.length<=j)/\(eF cs off ns)[j]=cs[j]):=by
 rw[N7 cs off ns h] at hj;simp only[eF,List.getElem_append,List.length_append,List.length_take,List.getElem_take,List.getElem_drop];by_cases h1:j<off
 ·refine .inr ⟨hj,.inl h1,?_⟩;simp[show j<min off cs.length+ns.length by omega,show j<min off cs.length by omega]
 ·by_cases h2:j<off+ns.length
  ·refine .inl ⟨by omega,by omega,?_⟩;simp[h1,h2,show min off cs.length=off by omega]
  ·refine .inr ⟨hj,.inr (by omega),?_⟩;simp[show¬j<min off cs.length+ns.length by omega,show off+ns.length+(j-(min off cs.length+ns.length))=j by omega]
theorem K4(c:Array Value)(k:Nat)(ns:List Value)(h:k+ns.length<=c.size)(q:Nat):
  ((c.toList.take k++ns++c.toList.drop (k+ns.length)).toArray)[q]? =if k<=q/\q<k+ns.length then ns[q-k]? else c[q]? :=by
 simp only[List.getElem?_toArray,List.getElem?_append,List.length_append,List.length_take,List.getElem?_take,List.getElem?_drop,Array.length_toList,Array.getElem?_toList];have hm:min k c.size=k:=by omega
 rw[hm];by_cases h1:q<k
 ·simp[h1,show q<k+ns.length by omega,show¬k<=q by omega]
 ·by_cases h2:q<k+ns.length
  ·simp[h1,h2,show k<=q by omega]
  ·simp[h2,show k+ns.length+(q-(k+ns.length))=q by omega]
theorem SG{P:Program}(g o:Nat)(t:TypeId)(fr:Nat×Nat):∀(vs:List Value) (i:Nat) (cur:Array Value) (w:World),w.heap[g]? =some (.cells cur t fr)->(fr=(0,0)\/fr=(cur.size,cur.size+1))->o+i+vs.length<=cur.size->(∀v∈vs,v.oneCell'=true)->
  (storeCells ⟨g,o,none⟩ vs i).run P w=.ok () (w.setRow g (cur.toList.take (o+i)++vs++cur.toList.drop (o+i+vs.length)).toArray)
 | [],i,cur,w,hg,_,_,_=>by
  have:(cur.toList.take (o+i)++[]++cur.toList.drop (o+i+([]:List Value).length)).toArray=cur:=by simp
  rw[this,setRow_self w g cur t fr hg];rfl
 | v::rest,i,cur,w,hg,hf,hl,h1=>by
  have hl':o+i+(rest.length+1)<=cur.size:=by simpa using hl
  have hA:gO w g cur t:=⟨fr,hg,hf⟩;have hi:o+i<cur.size:=by omega
  have hst:(store ((⟨g,o,none⟩:Addr).add i) v).run P w=.ok () (w.setRow g (cur.setIfInBounds (o+i) v)):=by
   rw[Addr.nZ,run_store P w _ v _ (h1 v (List.mem_cons_self ..)),hA.cell,Array.getElem?_eq_getElem hi];simp[hA.ab3 _ hi,setCell_eq_setRow w g (o+i) cur t fr v hg]
  have ih:=SG (P:=P) g o t fr rest (i+1) (cur.setIfInBounds (o+i) v) (w.setRow g (cur.setIfInBounds (o+i) v)) (setRow_heap w g cur _ t _ hg) (by simpa using hf) (by simp;omega) (fun x hx=>h1 x (List.mem_cons_of_mem _ hx));simp only[storeCells,Sem.run_bind,hst,Result.andThen_ok,ih,setRow_setRow];have e:=list_seg_step cur.toList (o+i) v rest (by simp;omega);congr 3
  simpa[Array.toList_setIfInBounds,Nat.add_assoc] using e
theorem gO.store{P:Program}{w:World}{b:Nat}{c:Array Value}{E:TypeId}(h:gO w b c E)(o:Nat)(ns:List Value)(hl:o+ns.length<=c.size)(h1:∀v∈ns,v.oneCell'=true):
  (storeCells ⟨b,o,none⟩ ns).run P w=.ok () (w.setRow b (c.toList.take o++ns++c.toList.drop (o+ns.length)).toArray)/\gO (w.setRow b (c.toList.take o++ns++c.toList.drop (o+ns.length)).toArray) b (c.toList.take o++ns++c.toList.drop (o+ns.length)).toArray E:=by
 obtain⟨fr,h2,h3⟩:=h;have hst:=SG (P:=P) b o E fr ns 0 c w h2 h3 (by omega) h1;simp only[Nat.add_zero] at hst;refine⟨hst,fr,setRow_heap w b c _ E _ h2,?_⟩;have:(c.toList.take o++ns++c.toList.drop (o+ns.length)).toArray.size=c.size:=by simp;omega
 rw[this];exact h3
theorem Mv.store{P:Program}{cx:Cx}{H:Hp}{ps:Ps}{nx:Nat}{w:World}{o i off:Nat}{ck:Ck}{p:Ph}{cs:List DV}{ns:List Value}
  (hr:HR H ps cx.M nx w) (fr:Fr cx.B cx.w0 w) (lb:∀o ck p,H o=some ck->ps o=some p->cx.B p.b\/cx.w0.heap.size<=p.b)
  (ho:H o=some ck) (hp:ps o=some p) (hi:i<ck.xs.length) (hoff:off+cs.length<=(ck.xs[i]).length) (hl:ns.length=cs.length)
  (h1:∀v∈ns,v.oneCell'=true) (hv:∀j (hj:j<cs.length),VR H ps cx.M nx w cs[j] (ns.getD j undef)):
  ∃w',(storeCells ⟨p.b,p.k+i*ck.sz+off,none⟩ ns).run P w=.ok () w'/\
   Mv cx H ps nx w (H.put o (some {ck with xs:=ck.xs.set i (eF ck.xs[i] off cs)})) ps nx w':=by
 have hps:ps.put o (some p)=ps:=by funext o';simp only[Ps.put];split<;>simp_all
 rcases hr.cr o ck ho with⟨q1,q2⟩ | ⟨p',c,E,vs,q1,q2,q3,q4,q5,q6,q7⟩
 ·simp[q1] at hp
 ·rw[hp] at q1;injection q1 with q1;subst q1
  have hz:=q4 i hi;have hrow:i*ck.sz+ck.sz<=ck.xs.length*ck.sz:=by
   have:=Nat.mul_le_mul_right ck.sz (Nat.succ_le_of_lt hi);rwa [Nat.succ_mul] at this
  have hfit:p.k+i*ck.sz+off+ns.length<=c.size:=by omega
  obtain⟨hst,q2'⟩:=q2.store (P:=P) (p.k+i*ck.sz+off) ns hfit h1;refine⟨_,hst,?_⟩;have key:=Mv.cN o {ck with xs:=ck.xs.set i (eF ck.xs[i] off cs)} (some p) nx (hr:=hr) (fr:=fr) (lb:=lb) (hn:=Nat.le_refl _) (ho:=hr.lt o ck ho)
   (hold:=.inr ⟨ck,ho,.inr ⟨rfl,rfl,by simp,hp.symm⟩⟩)
   (w':=w.setRow p.b (c.toList.take (p.k+i*ck.sz+off)++ns++c.toList.drop (p.k+i*ck.sz+off+ns.length)).toArray)
   (g:=⟨rfl,rfl,rfl,by simp[World.setRow],fun b hb hne=>setRow_other w p.b b _ fun e=>hne ⟨ck,p,ho,hp,e⟩⟩)
   (hb:=fun p' e=>by injection e with e;subst e;exact .inl ⟨ck,p,ho,hp,rfl⟩) (hcr:=?_)
  ·rwa [hps] at key
  ·intro kp;have hlp:(eF ck.xs[i] off cs).length=ck.xs[i].length:=N7 _ _ _ hoff;have hxl:∀i' (h:i'<(ck.xs.set i (eF ck.xs[i] off cs)).length),(ck.xs.set i (eF ck.xs[i] off cs))[i']=if i=i' then eF ck.xs[i] off cs else ck.xs[i']'(by simpa using h):=by
    intro i' h;rw[List.getElem_set]
   refine .inr ⟨p,_,E,fun i' j'=>if i'=i/\off<=j'/\j'<off+cs.length then ns.getD (j'-off) undef else vs i' j',Ps.b9 ..,q2',?_,?_,?_,?_,?_⟩
   ·simp;omega
   ·intro i' hi';rw[hxl i' hi'];split
    ·rw[hlp];exact hz
    ·exact q4 i' (by simpa using hi')
   ·simpa using q5
   ·intro i' j' hi' hj';have hi2:i'<ck.xs.length:=by simpa using hi'
    have hj2:j'<ck.sz:=hj';have hi3:i'*ck.sz+ck.sz<=ck.xs.length*ck.sz:=by
     have:=Nat.mul_le_mul_right ck.sz (Nat.succ_le_of_lt hi2);rwa [Nat.succ_mul] at this
    dsimp only;rw[K4 c _ ns hfit];by_cases hin:i'=i/\off<=j'/\j'<off+cs.length
    ·obtain⟨rfl,h2,h3⟩:=hin;have hb:j'-off<ns.length:=by omega
     rw[if_pos ⟨rfl,h2,h3⟩,if_pos (by omega)];have:p.k+(i'*ck.sz+j')-(p.k+i'*ck.sz+off)=j'-off:=by omega
     refine⟨?_,?_⟩
     ·simp only[List.getD,List.getElem?_eq_getElem hb,Option.getD_some];exact h1 _ (List.getElem_mem hb)
     ·simp only[this,List.getD,List.getElem?_eq_getElem hb,Option.getD_some]
    ·rw[if_neg hin];refine⟨(q6 i' j' hi2 hj2).1,?_⟩;rw[if_neg ?_]
     ·exact(q6 i' j' hi2 hj2).2
     ·intro hcon;apply hin;rcases Nat.lt_trichotomy i' i with hlt | heq | hgt
      ·have:=Nat.mul_le_mul_right ck.sz (Nat.succ_le_of_lt hlt);rw[Nat.succ_mul] at this;omega
      ·subst heq;exact⟨rfl,by omega,by omega⟩
      ·have:=Nat.mul_le_mul_right ck.sz (Nat.succ_le_of_lt hgt);rw[Nat.succ_mul] at this;omega
   ·intro i' j' hi' hj';have hi2:i'<ck.xs.length:=by simpa using hi'
    dsimp only;by_cases hii:i'=i
    ·subst hii;have he:(ck.xs.set i' (eF ck.xs[i'] off cs))[i']=eF ck.xs[i'] off cs:=by simp
     have hj2:j'<(eF ck.xs[i'] off cs).length:=by
      have:=hj';simp only[he] at this;exact this
     have hgoal:(ck.xs.set i' (eF ck.xs[i'] off cs))[i'][j']=(eF ck.xs[i'] off cs)[j']:=by simp[he]
     show VR _ _ _ _ _ ((ck.xs.set i' (eF ck.xs[i'] off cs))[i'][j']) _;rw[hgoal];rcases Qz ck.xs[i'] off cs hoff j' hj2 with⟨g1,g2,g3⟩ | ⟨g1,g2,g3⟩
     ·rw[g3,if_pos ⟨rfl,g2,by omega⟩];exact(hv _ g1).mono kp
     ·rw[g3,if_neg (by omega)];exact(q7 i' j' hi2 g1).mono kp
    ·have he:(ck.xs.set i (eF ck.xs[i] off cs))[i']=ck.xs[i']:=by rw[List.getElem_set,if_neg (Ne.symm hii)]
     have hj2:j'<ck.xs[i'].length:=by have:=hj';simp only[he] at this;exact this
     have hgoal:(ck.xs.set i (eF ck.xs[i] off cs))[i'][j']=ck.xs[i'][j']:=by simp[he]
     show VR _ _ _ _ _ ((ck.xs.set i (eF ck.xs[i] off cs))[i'][j']) _;rw[hgoal,if_neg (by simp[hii])];exact(q7 i' j' hi2 hj2).mono kp
structure FL (H:Hp) (ps:Ps) (M:Nat->Prop) (nx:Nat) (w:World) (xs:List (List DV)) (sz:Nat) (vs:List Value):Prop where
 z:∀i (hi:i<xs.length),xs[i].length=sz
 l:vs.length=xs.length*sz
 o:∀v∈vs,v.oneCell'=true
 r:∀i j (hi:i<xs.length) (hj:j<xs[i].length),VR H ps M nx w xs[i][j] (vs.getD (i*sz+j) undef)
theorem FL.nil{H:Hp}{ps:Ps}{M:Nat->Prop}{nx:Nat}{w:World}{sz:Nat}:FL H ps M nx w [] sz []:=
 ⟨fun i hi=>by simp at hi,by simp,by simp,fun i j hi=>by simp at hi⟩
theorem FL.append{H ps M nx w xs ys sz vs us}(h:FL H ps M nx w xs sz vs)(k:FL H ps M nx w ys sz us):FL H ps M nx w (xs++ys) sz (vs++us):=by
 refine⟨fun i hi=>?_,by simp[h.l,k.l,Nat.add_mul],fun v hv=>?_,fun i j hi hj=>?_⟩
 ·rw[List.getElem_append];split
  ·exact h.z i _
  ·exact k.z _ _
 ·rcases List.mem_append.1 hv with hv | hv
  ·exact h.o v hv
  ·exact k.o v hv
 ·by_cases hlt:i<xs.length
  ·have he:(xs++ys)[i]=xs[i]:=List.getElem_append_left hlt;have hj':j<xs[i].length:=by rw[<-he];exact hj
   have hq:i*sz+j<vs.length:=by rw[h.l];exact zf hlt (by rw[<-h.z i hlt];exact hj')
   have hg:(vs++us).getD (i*sz+j) undef=vs.getD (i*sz+j) undef:=by simp[List.getD,List.getElem?_append,hq]
   have hgoal:(xs++ys)[i][j]=xs[i][j]:=by simp[he]
   rw[hgoal,hg];exact h.r i j hlt hj'
  ·have hge:xs.length<=i:=by omega
   have hi2:i-xs.length<ys.length:=by simp at hi;omega
   have he:(xs++ys)[i]=ys[i-xs.length]:=List.getElem_append_right hge;have hj':j<ys[i-xs.length].length:=by rw[<-he];exact hj
   have hmul:i*sz=xs.length*sz+(i-xs.length)*sz:=by rw[<-Nat.add_mul];congr 1;omega
   have hg:(vs++us).getD (i*sz+j) undef=us.getD ((i-xs.length)*sz+j) undef:=by
    have:¬i*sz+j<vs.length:=by rw[h.l];omega
    simp only[List.getD,List.getElem?_append,this,if_false];congr 2
    rw[h.l];omega
   have hgoal:(xs++ys)[i][j]=ys[i-xs.length][j]:=by simp[he]
   rw[hgoal,hg];exact k.r _ j hi2 hj'
theorem FL.mono{H ps M nx w H' ps' M' nx' w' xs sz vs}(h:FL H ps M nx w xs sz vs)(k:Kp H ps M nx w H' ps' M' nx' w'):FL H' ps' M' nx' w' xs sz vs:=
 ⟨h.z,h.l,h.o,fun i j hi hj=>(h.r i j hi hj).mono k⟩
theorem FL.SS{H:Hp}{ps:Ps}{M:Nat->Prop}{nx:Nat}{w:World}{xs:List (List DV)}{sz:Nat}(f:Nat->Nat->Value)(hz:∀i (hi:i<xs.length),xs[i].length=sz)
  (h1:∀i j,i<xs.length->j<sz->(f i j).oneCell'=true) (hv:∀i j (hi:i<xs.length) (hj:j<xs[i].length),VR H ps M nx w xs[i][j] (f i j)):
  FL H ps M nx w xs sz ((List.range (xs.length*sz)).map fun q=>f (q / sz) (q % sz)):=by
 have key:∀i j,i<xs.length->j<sz->(i*sz+j) / sz=i/\(i*sz+j) % sz=j:=by
  intro i j _ hj;have hp:0<sz:=by omega
  rw[Nat.mul_comm i sz];exact⟨by rw[Nat.mul_add_div hp];simp[Nat.div_eq_of_lt hj],by rw[Nat.mul_add_mod];exact Nat.mod_eq_of_lt hj⟩
 refine⟨hz,by simp,fun v hv'=>?_,fun i j hi hj=>?_⟩
 ·obtain⟨q,hq,rfl⟩:=List.mem_map.1 hv';have hq':q<xs.length*sz:=by simpa using hq
  have hp:0<sz:=by
   rcases Nat.eq_zero_or_pos sz with h0 | h0
   ·subst h0;simp at hq'
   ·exact h0
  exact h1 _ _ (Nat.div_lt_of_lt_mul (by rw[Nat.mul_comm];exact hq')) (Nat.mod_lt _ hp)
 ·have hj':j<sz:=by rw[<-hz i hi];exact hj
  obtain⟨k1,k2⟩:=key i j hi hj';have hq:=zf hi hj';have:((List.range (xs.length*sz)).map fun q=>f (q / sz) (q % sz)).getD (i*sz+j) undef=f i j:=by
   simp[List.getD,List.getElem?_range hq,k1,k2]
  rw[this];exact hv i j hi hj
theorem RY{n sz:Nat}(f:Nat->Nat->Value)(q:Nat)(v:Value)(h:((List.range (n*sz)).map fun q=>f (q / sz) (q % sz))[q]? =some v):
  q<n*sz/\q / sz<n/\q % sz<sz/\v=f (q / sz) (q % sz)/\q=q / sz*sz+q % sz:=by
 have hq:q<n*sz:=by
  have:=(List.getElem?_eq_some_iff.1 h).1;simpa using this
 have hp:0<sz:=by
  rcases Nat.eq_zero_or_pos sz with h0 | h0
  ·subst h0;simp at hq
  ·exact h0
 refine⟨hq,Nat.div_lt_of_lt_mul (by rw[Nat.mul_comm];exact hq),Nat.mod_lt _ hp,?_,?_⟩
 ·simp[List.getElem?_range hq] at h;exact h.symm
 ·have:=Nat.div_add_mod q sz;rw[Nat.mul_comm] at this;exact this.symm
theorem La{H ps M nx w d x xs sz}(hr:HR H ps M nx w)(h:kg H d=some xs)(hz:∀c∈xs,c.length=sz)(hv:VR H ps M nx w d x):
  ∃a c vs,x=.slice a xs.length c/\FL H ps M nx w xs sz vs/\(xs≠[]->∃b off,a=some ⟨b,off,none⟩/\∀j v,vs[j]? =some v->w.cell? ⟨b,off+j,none⟩=some v):=by
 have hz':∀i (hi:i<xs.length),xs[i].length=sz:=fun i hi=>hz _ (List.getElem_mem hi);cases d with
 | ab full ys=>
  simp only[kg] at h;cases h;cases hv with
  | fm _ a cap hf=>exact⟨a,cap,[],rfl,FL.nil,fun h=>absurd rfl h⟩
  | ab _ _ b off cap sz' vs hne hs hcap hf hM hzz h1 hc hv=>
   have hszz:sz'=sz:=by
    have:=hzz 0 (List.length_pos_iff.2 hne);rw[hz' 0 (List.length_pos_iff.2 hne)] at this;exact this.symm
   subst hszz;refine⟨_,cap,_,rfl,FL.SS vs hz' h1 hv,fun _=>⟨b,off,rfl,fun j v hj=>?_⟩⟩;obtain⟨q1,q2,q3,q4,q5⟩:=RY vs j v hj;subst q4;have:=hc _ _ q2 q3;rwa [<-q5] at this
 | own o g lo n=>
  simp only[kg] at h;cases ho:H o with
  | none=>simp[ho] at h
  | some ck=>
   simp only[ho] at h;split at h
   ·rename_i hg;cases h;cases hv with
    | own _ _ _ _ _ h0 h1 hh=>
     obtain⟨_,hh⟩:=hh ck ho;obtain⟨hlen,a,cap,rfl,hn,hcap⟩:=hh hg;have hxl:((ck.xs.drop lo).take n).length=n:=by simp;omega
     by_cases hn0:n=0
     ·subst hn0;refine⟨a,cap,[],by simp,by simpa using FL.nil,fun h=>by simp at h⟩
     ·rcases hcap with hcap | ⟨p,hp,rfl,htot⟩
      ·omega
      ·rcases hr.cr o ck ho with⟨q1,_⟩ | ⟨p',c,E,vs,q1,q2,q3,q4,q5,q6,q7⟩
       ·simp[q1] at hp
       ·rw[hp] at q1;cases q1;have hsz:ck.sz=sz:=by
         have h0:=hz' 0 (by rw[hxl];omega);simp only[List.getElem_take,List.getElem_drop] at h0;rw[<-q4 (lo+0) (by omega)];exact h0
        subst hsz;refine⟨_,cap,_,by rw[hxl],FL.SS (fun i j=>vs (lo+i) j) hz' (fun i j hi hj=>(q6 (lo+i) j (by omega) hj).1) (fun i j hi hj=>?_),fun _=>⟨p.b,p.k+lo*ck.sz,rfl,fun j v hj=>?_⟩⟩
        ·have hi':lo+i<ck.xs.length:=by omega
         have hj':j<ck.xs[lo+i].length:=by simpa using hj
         have:=q7 (lo+i) j hi' hj';simpa using this
        ·obtain⟨r1,r2,r3,r4,r5⟩:=RY (fun i j=>vs (lo+i) j) j v hj;subst r4;have hi':lo+j / ck.sz<ck.xs.length:=by omega
         have:=(q6 (lo+j / ck.sz) (j % ck.sz) hi' r3).2;have e:p.k+lo*ck.sz+j=p.k+((lo+j / ck.sz)*ck.sz+j % ck.sz):=by rw[Nat.add_mul];omega
         rw[q2.cell,e];exact this
   ·cases h
 | _=>simp[kg] at h
theorem TY{P:Program}(w:World)(t ty e:TypeId)(i:TypeInfo)(ht:P.underlying t=some (.slice e))(hi:P.info? e=some i)
  (base:Option Addr) (sLen sCap:Nat) (h:sLen<=sCap) (a:Option Addr) (c:Nat):
  (Builtin.append_ #[t,t] ty #[.slice base sLen sCap,.slice a 0 c]).run P w=.ok (.slice base sLen sCap) w:=by
 have hf:(Builtin.firstCells i.size 0 (.slice a 0 c)).run P w=.ok #[] w:=by
  cases a with
  | none=>exact run_firstCells_none w _ _ _ _
  | some a=>have:=run_firstCells_some (P:=P) w i.size 0 a 0 c [] (by simp) (by simp);simpa using this
 cases base with
 | none=>simp[Builtin.append_,run_underlying ht,sizeOf,typeInfo,hi,Builtin.lenOf,h,hf]
 | some b=>simp[Builtin.append_,run_underlying ht,sizeOf,typeInfo,hi,Builtin.lenOf,h,hf,storeCells]
theorem XK{P:Program}(w:World)(t ty e:TypeId)(i:TypeInfo)(z:Value)(ht:P.underlying t=some (.slice e))(hi:P.info? e=some i)(hz:i.zero=some z)
  (base:Option Addr) (sLen sCap:Nat) (olds:List Value) (hlo:olds.length=sLen*i.size) (hb:olds≠[]->∃b off,base=some ⟨b,off,none⟩/\∀j v,olds[j]? =some v->w.cell? ⟨b,off+j,none⟩=some v)
  (hb0:sLen≠0->olds≠[]) (hbn:base=none->sLen=0/\sCap=0)
  (b off:Nat) (n c:Nat) (news:List Value) (hl:news.length=n*i.size) (hnews:∀j v,news[j]? =some v->w.cell? ⟨b,off+j,none⟩=some v)
  (hg:sCap<sLen+n) (h63:sLen+n<=9223372036854775807) (hfit:(sLen+n)*i.bytes<=140737488355328):
  (Builtin.append_ #[t,t] ty #[.slice base sLen sCap,.slice (some ⟨b,off,none⟩) n c]).run P w=
   .ok (.slice (some ⟨w.heap.size,0,none⟩) (sLen+n) (grownCap w (sLen+n) sCap e))
    (w.drew.alloc (.cells (olds.toArray++news.toArray++Builtin.zeroCells z.cells (grownCap w (sLen+n) sCap e-(sLen+n))) e)):=by
 have hnews':∀j v,news[j]? =some v->w.cell? ((⟨b,off,none⟩:Addr).add j)=some v:=fun j v h=>by rw[Addr.nZ];exact hnews j v h
 cases base with
 | none=>
  obtain⟨rfl,rfl⟩:=hbn rfl;have ho:olds=[]:=by simpa using hlo
  subst ho;have:=run_append_nil w t ty e i z ht hi hz ⟨b,off,none⟩ n c news hl hnews' (by omega) (by omega) (by have:=hfit;simp only[Nat.zero_add] at this;omega);simpa using this
 | some a=>
  refine run_append_grow w t ty e i z ht hi hz a sLen sCap olds hlo (fun j v h=>?_) ⟨b,off,none⟩ n c news hl hnews' hg (by omega) (growslice_fits hg hfit);have hne:olds≠[]:=by intro e;simp[e] at h
  obtain⟨b',off',e,h'⟩:=hb hne;cases e;rw[Addr.nZ];exact h' j v h
theorem auo{P:Program}(w:World)(t ty e:TypeId)(i:TypeInfo)(ht:P.underlying t=some (.slice e))(hi:P.info? e=some i)
  (g o:Nat) (sLen sCap:Nat) (cur:Array Value) (E:TypeId) (hg:gO w g cur E)
  (b off:Nat) (n c:Nat) (news:List Value) (hl:news.length=n*i.size) (hnews:∀j v,news[j]? =some v->w.cell? ⟨b,off+j,none⟩=some v) (h1:∀v∈news,v.oneCell'=true)
  (hroom:sLen+n<=sCap) (hfit:o+sLen*i.size+news.length<=cur.size):
  (Builtin.append_ #[t,t] ty #[.slice (some ⟨g,o,none⟩) sLen sCap,.slice (some ⟨b,off,none⟩) n c]).run P w=
   .ok (.slice (some ⟨g,o,none⟩) (sLen+n) sCap)
    (w.setRow g (cur.toList.take (o+sLen*i.size)++news++cur.toList.drop (o+sLen*i.size+news.length)).toArray):=by
 have hnews':∀j v,news[j]? =some v->w.cell? ((⟨b,off,none⟩:Addr).add j)=some v:=fun j v h=>by rw[Addr.nZ];exact hnews j v h
 have hfc:=run_firstCells_some (P:=P) w i.size n ⟨b,off,none⟩ n c news hl hnews';have hst:=(hg.store (P:=P) (o+sLen*i.size) news hfit h1).1;simp[Builtin.append_,run_underlying ht,sizeOf,typeInfo,hi,Builtin.lenOf,hroom,hfc,Addr.nZ,hst]
def B8(P:Program)(cx:Cx)(H:Hp)(ps:Ps)(nx:Nat)(w:World)(r:Result Value)(d:DV)(u:Up):Prop:=
 ∃v w' ps',r=.ok v w'/\VR (u.hp H nx) ps' cx.M (u.nx nx) w' d v/\Mv cx H ps nx w (u.hp H nx) ps' (u.nx nx) w'
theorem FL.get{H ps M nx w xs sz vs}(h:FL H ps M nx w xs sz vs){i j:Nat}(hi:i<xs.length)(hj:j<sz):
  vs[i*sz+j]? =some (vs.getD (i*sz+j) undef)/\(vs.getD (i*sz+j) undef).oneCell'=true:=by
 have hq:i*sz+j<vs.length:=by rw[h.l];exact zf hi hj
 refine⟨by simp[List.getD,hq],?_⟩;have:vs.getD (i*sz+j) undef=vs[i*sz+j]:=by simp[List.getD,hq]
 rw[this];exact h.o _ (List.getElem_mem hq)
theorem FL.PQ{H ps M nx w xs sz vs}(h:FL H ps M nx w xs sz vs)(hs:0<sz)(hne:xs≠[])(b cap:Nat)(c:Array Value)(E:TypeId)(hb:w.heap[b]? =some (.cells c E (0,0)))
  (hM:¬Mu H ps M b) (hcap:xs.length<=cap) (full:Bool) (hf:full=true->cap=xs.length) (hc:∀(q:Nat) (v:Value),vs[q]? =some v->c[q]? =some v):
  VR H ps M nx w (.ab full xs) (.slice (some ⟨b,0,none⟩) xs.length cap):=by
 refine .ab full xs b 0 cap sz (fun i j=>vs.getD (i*sz+j) undef) hne hs hcap hf hM h.z (fun i j hi hj=>(h.get hi hj).2) (fun i j hi hj=>?_) h.r;simp[World.cell?,hb,hc _ _ (h.get hi hj).1]
theorem FL.cr{H ps M nx w xs sz vs}(h:FL H ps M nx w xs sz vs){o:Nat}{g:Nat}{p:Ph}(hp:ps o=some p){c:Array Value}{E:TypeId}(hb:gO w p.b c E)
  (ht:c.size=p.ju) (hl:p.k+xs.length*sz<=p.ju) (hc:∀(q:Nat) (v:Value),vs[q]? =some v->c[p.k+q]? =some v):CR H ps M nx w o ⟨g,sz,xs⟩:=
 .inr ⟨p,c,E,fun i j=>vs.getD (i*sz+j) undef,hp,hb,ht,h.z,hl,fun i j hi hj=>⟨(h.get hi hj).2,hc _ _ (h.get hi hj).1⟩,h.r⟩
theorem UM{H ps M nx w}(hr:HR H ps M nx w)(b:Nat)(hb:w.heap.size<=b):¬Mu H ps M b:=by
 rintro(h | ⟨o,ck,p,h1,h2,h3⟩)
 ·have:=hr.ml b h;omega
 ·have:=hr.mQ h1 h2;omega
theorem Qu{P:Program}{cx:Cx}{H:Hp}{ps:Ps}{nx:Nat}{w:World}(hr:HR H ps cx.M nx w)(fr:Fr cx.B cx.w0 w)(lb:∀o ck p,H o=some ck->ps o=some p->cx.B p.b\/cx.w0.heap.size<=p.b)
  (t ty e:TypeId) (i:TypeInfo) (z:Value) (ht:P.underlying t=some (.slice e)) (hi:P.info? e=some i) (hz:i.zero=some z) (hsz:0<i.size) (hzs:z.cells.size=i.size)
  {ds dx d:DV} {u:Up} {s x:Value} (h:j2 H i.size i.bytes ds dx=some (d,u)) (hs:VR H ps cx.M nx w ds s) (hx:VR H ps cx.M nx w dx x):
  B8 P cx H ps nx w ((Builtin.append_ #[t,t] ty #[s,x]).run P w) d u:=by
 unfold j2 at h;cases he:kg H dx with
 | none=>simp[he] at h
 | some news=>
  simp only[he] at h;split at h
  ·rename_i hall;have hnz:∀c∈news,c.length=i.size:=fun c hc=>by have:=List.all_eq_true.1 hall c hc;simpa using this
   obtain⟨xa,xc,nv,rfl,hnf,hnm⟩:=La hr he hnz hx;cases ds with
   | ab full xs=>
    cases full with
    | false=>simp at h
    | true=>
     simp only at h;split at h
     ·rename_i hcond;obtain⟨hxall,hbytes,h63⟩:=hcond;injection h with h;injection h with hd hu;subst hd;subst hu
      have hxz:∀c∈xs,c.length=i.size:=fun c hc=>by have:=List.all_eq_true.1 hxall c hc;simpa using this
      obtain⟨sa,sc,ov,rfl,hof,hom⟩:=La hr (show kg H (.ab true xs)=some xs from rfl) hxz hs;have hcap:sc=xs.length/\(sa=none->xs.length=0):=by
       generalize hq:Value.slice sa xs.length sc=q at hs;cases hs with
       | fm _ a cap hf=>injection hq with q1 q2 q3;subst q3;exact⟨by simp[hf rfl],fun _=>rfl⟩
       | ab _ _ b off cap sz' vs hne hs' hcap hf hM hzz h1 hc hv=>injection hq with q1 q2 q3;subst q3;exact⟨hf rfl,fun e=>by simp[e] at q1⟩
      obtain⟨rfl,hsn⟩:=hcap;by_cases hn0:news=[]
      ·subst hn0;refine⟨_,w,ps,TY w t ty e i ht hi sa xs.length xs.length (Nat.le_refl _) xa xc,?_,Mv.je hr fr lb (eA.refl w)⟩;rw[List.append_nil];generalize hq:Value.slice sa xs.length xs.length=q at hs;cases hs with
       | fm _ a cap hf=>exact .fm false a cap (by simp)
       | ab _ _ b off cap sz' vs hne hs' hcap hf hM hzz h1 hc hv=>exact .ab false xs b off cap sz' vs hne hs' hcap (by simp) hM hzz h1 hc hv
      ·obtain⟨b,off,rfl,hnm'⟩:=hnm hn0;have hnl:0<news.length:=List.length_pos_iff.2 hn0;have hrun:=XK (P:=P) w t ty e i z ht hi hz sa xs.length xs.length ov hof.l (fun hne=>hom fun e=>hne (by subst e;simpa using hof.l))
        (fun h0 hov=>h0 (by
         have:=hof.l;rw[hov,List.length_nil] at this;have:=Nat.mul_eq_zero.1 this.symm;omega)) (fun e=>⟨hsn e,hsn e⟩) b off news.length xc nv hnf.l hnm' (by omega) h63 hbytes
       have hg:eA w (w.drew.alloc (.cells (ov.toArray++nv.toArray++Builtin.zeroCells z.cells (grownCap w (xs.length+news.length) xs.length e-(xs.length+news.length))) e)):=(eA.drew w).trans (eA.alloc _ _);refine⟨_,_,ps,hrun,?_,Mv.je hr fr lb hg⟩;have hfl:=(hof.append hnf).mono (Kp.je hg);have:=hfl.PQ hsz (by simp[hn0]) w.heap.size (grownCap w (xs.length+news.length) xs.length e) _ e (by show(w.heap.push _)[w.heap.size]? =_;simp;rfl) (UM hr _ (Nat.le_refl _))
        (by simpa using grownCap_ge w (xs.length+news.length) xs.length e) false (by simp) (fun q v hq=>by
         have hlt:=(List.getElem?_eq_some_iff.1 hq).1;rw[Array.getElem?_append_left (by simpa using hlt)];simpa using hq)
       rw[List.length_append] at this;exact this
     ·cases h
   | own o g lo n=>
    simp only at h;cases ho:H o with
    | none=>simp[ho] at h
    | some ck=>
     simp only[ho] at h;split at h
     ·rename_i hcond;obtain⟨hgen,hcsz,hbytes,h63⟩:=hcond;injection h with h;injection h with hd hu;subst hd;subst hu
      have hcr:=hr.cr o ck ho;cases hs with
      | own _ _ _ _ _ h0 h1 hh=>
       obtain⟨_,hh⟩:=hh ck ho;obtain⟨hlen,sa,sc,rfl,hnc,hplace⟩:=hh hgen;have hxl:((ck.xs.drop lo).take n).length=n:=by simp;omega
       have hev:kg H (.own o g lo n)=some ((ck.xs.drop lo).take n):=by simp[kg,ho,hgen]
       have hxz:∀c∈(ck.xs.drop lo).take n,c.length=i.size:=by
        intro c hc;obtain⟨q,hq,rfl⟩:=List.mem_iff_getElem.1 hc;rcases hcr with⟨_,q2⟩ | ⟨_,_,_,_,_,_,_,q4,_⟩
        ·rw[q2] at hq;simp at hq
        ·simp only[List.getElem_take,List.getElem_drop];rw[q4 (lo+q) (by rw[hxl] at hq;omega),hcsz]
       have hs0:VR H ps cx.M nx w (.own o g lo n) (.slice sa n sc):=.own o g lo n _ h0 h1 fun ck' hck'=>by
        rw[ho] at hck';injection hck' with hck';subst hck'
        exact⟨by omega,fun _=>⟨hlen,sa,sc,rfl,hnc,hplace⟩⟩
       obtain⟨sa',sc',ov,hsl,hof,hom⟩:=La hr hev hxz hs0;rw[hxl] at hsl;injection hsl with e1 e2 e3;subst e1;subst e3
       have holen:ov.length=n*i.size:=by rw[hof.l,hxl]
       have hxlen:((ck.xs.drop lo).take n++news).length=n+news.length:=by rw[List.length_append,hxl]
       by_cases hroom:n+news.length<=sc
       ·-- there is room
        by_cases hn0:news=[]
        ·subst hn0;have hrun:=TY (P:=P) w t ty e i ht hi sa n sc hnc xa xc;by_cases hpl:sc=0
         ·subst hpl;have hn:n=0:=by omega
          subst hn;have hmv:=Mv.cN (cx:=cx) o ⟨g+1,i.size,(ck.xs.drop lo).take 0++[]⟩ none nx w hr fr lb (Nat.le_refl _) (hr.lt o ck ho) (.inr ⟨ck,ho,.inl (by simp;omega)⟩) ((eA.refl w).rf _)
           (fun p' hp'=>by cases hp') (fun _=>.inl ⟨Ps.b9 ..,by simp⟩)
          refine⟨_,w,_,hrun,?_,hmv⟩;refine .own _ _ _ _ _ (hr.lt o ck ho) ⟨_,_,rfl⟩ fun ck' hck'=>?_;simp only[Up.hp,Hp.b9,Option.some.injEq] at hck';subst hck';exact⟨Nat.le_refl _,fun _=>⟨by simp,sa,0,rfl,by simp,.inl rfl⟩⟩
         ·rcases hplace with hplace | ⟨p,hp,rfl,htot⟩
          ·exact absurd hplace hpl
          ·rcases hcr with⟨q1,_⟩ | ⟨p',c,E,vs,q1,q2,q3,q4,q5,q6,q7⟩
           ·simp[q1] at hp
           ·rw[hp] at q1;injection q1 with q1;subst q1
            have hmv:=Mv.cN (cx:=cx) o ⟨g+1,i.size,(ck.xs.drop lo).take n++[]⟩ (some ⟨p.b,p.k+lo*ck.sz,p.ju⟩) nx w hr fr lb (Nat.le_refl _) (hr.lt o ck ho)
             (.inr ⟨ck,ho,.inl (by simp;omega)⟩) ((eA.refl w).rf _) (fun p' hp'=>by injection hp' with hp';subst hp';exact .inl ⟨ck,p,ho,hp,rfl⟩)
             (fun kp=>by
              have hfl:=(hof.append (FL.nil (sz:=i.size))).mono kp;refine hfl.cr (Ps.b9 ..) q2 q3 ?_ fun q v hq=>?_
              ·simp only[List.append_nil,hxl];rw[hcsz] at htot ⊢;have:(lo+n)*i.size<=(lo+sc)*i.size:=Nat.mul_le_mul_right _ (by omega);rw[Nat.add_mul] at this;omega
              ·simp only[List.append_nil] at hq;have hne:(ck.xs.drop lo).take n≠[]:=by
                intro hnil;rw[hnil] at hof;have:=hof.l;simp at this;simp[this] at hq
               obtain⟨b',off',e',hcell⟩:=hom hne;injection e' with e';injection e' with e1 e2 e3;subst e1;subst e2
               have:=hcell q v hq;rwa [q2.cell] at this)
            refine⟨_,w,_,hrun,?_,hmv⟩;refine .own _ _ _ _ _ (hr.lt o ck ho) ⟨_,_,rfl⟩ fun ck' hck'=>?_;simp only[Up.hp,Hp.b9,Option.some.injEq] at hck';subst hck';refine⟨Nat.le_refl _,fun _=>⟨by simp;omega,_,sc,by simp;rfl,by simpa using hnc,.inr ⟨_,Ps.b9 ..,by simp,?_⟩⟩⟩;simp only[Nat.zero_add];rw[<-hcsz];rw[Nat.add_mul] at htot;omega
        ·obtain⟨b,off,rfl,hnm'⟩:=hnm hn0;have hnl:0<news.length:=List.length_pos_iff.2 hn0;rcases hplace with hplace | ⟨p,hp,rfl,htot⟩
         ·omega
         ·rcases hcr with⟨q1,_⟩ | ⟨p',c,E,vs,q1,q2,q3,q4,q5,q6,q7⟩
          ·simp[q1] at hp
          ·rw[hp] at q1;injection q1 with q1;subst q1
           have hfit:p.k+lo*ck.sz+n*i.size+nv.length<=c.size:=by
            rw[hnf.l,q3];have:(lo+(n+news.length))*ck.sz<=(lo+sc)*ck.sz:=Nat.mul_le_mul_right _ (by omega);rw[Nat.add_mul,Nat.add_mul] at this;rw[<-hcsz];omega
           have hrun:=auo (P:=P) w t ty e i ht hi p.b (p.k+lo*ck.sz) n sc c E q2 b off news.length xc nv hnf.l hnm' hnf.o hroom hfit;have hmv:=Mv.cN (cx:=cx) o ⟨g+1,i.size,(ck.xs.drop lo).take n++news⟩ (some ⟨p.b,p.k+lo*ck.sz,p.ju⟩) nx
            (w.setRow p.b (c.toList.take (p.k+lo*ck.sz+n*i.size)++nv++c.toList.drop (p.k+lo*ck.sz+n*i.size+nv.length)).toArray) hr fr lb (Nat.le_refl _) (hr.lt o ck ho)
            (.inr ⟨ck,ho,.inl (by simp;omega)⟩) ⟨rfl,rfl,rfl,by simp[World.setRow],fun b hb hne=>setRow_other w p.b b _ fun e=>hne ⟨ck,p,ho,hp,e⟩⟩
            (fun p' hp'=>by injection hp' with hp';subst hp';exact .inl ⟨ck,p,ho,hp,rfl⟩)
            (fun kp=>by
             have hfl:=(hof.append hnf).mono kp;refine hfl.cr (Ps.b9 ..) (q2.store (P:=P) (p.k+lo*ck.sz+n*i.size) nv hfit hnf.o).2 (by simp;omega) ?_ fun q v hq=>?_
             ·simp only[hxlen];have:(lo+(n+news.length))*ck.sz<=(lo+sc)*ck.sz:=Nat.mul_le_mul_right _ (by omega);rw[Nat.add_mul] at this;rw[<-hcsz];omega
             ·rw[K4 c _ nv hfit];simp only;by_cases hlt:q<ov.length
              ·rw[if_neg (by omega)];rw[List.getElem?_append_left hlt] at hq;have hne:(ck.xs.drop lo).take n≠[]:=by
                intro hnil;rw[hnil] at hof;have:=hof.l;simp at this;simp[this] at hlt
               obtain⟨b',off',e',hcell⟩:=hom hne;injection e' with e';injection e' with e1 e2 e3;subst e1;subst e2
               have:=hcell q v hq;rwa [q2.cell] at this
              ·rw[List.getElem?_append_right (by omega)] at hq;have hlt2:=(List.getElem?_eq_some_iff.1 hq).1;rw[if_pos (by omega)];rw[<-hq];congr 1;omega)
           refine⟨_,_,_,hrun,?_,hmv⟩;refine .own _ _ _ _ _ (hr.lt o ck ho) ⟨_,_,rfl⟩ fun ck' hck'=>?_;simp only[Up.hp,Hp.b9,Option.some.injEq] at hck';subst hck';refine⟨Nat.le_refl _,fun _=>⟨by simp;omega,_,sc,rfl,hroom,.inr ⟨_,Ps.b9 ..,by simp,?_⟩⟩⟩;simp only[Nat.zero_add];rw[<-hcsz];rw[Nat.add_mul] at htot;omega
       ·-- a new row
        have hn0:news≠[]:=by intro e;subst e;simp at hroom;omega
        obtain⟨b,off,rfl,hnm'⟩:=hnm hn0;have hrun:=XK (P:=P) w t ty e i z ht hi hz sa n sc ov holen (fun hne=>hom fun e=>hne (by rw[e] at hof;simpa using hof.l))
         (fun h0 hov=>h0 (by
          rw[hov,List.length_nil] at holen;have:=Nat.mul_eq_zero.1 holen.symm;omega)) (fun e=>by
           rcases hplace with hplace | ⟨p,hp,e',_⟩
           ·exact⟨by omega,hplace⟩
           ·rw[e] at e';cases e') b off news.length xc nv hnf.l hnm' (by omega) h63 hbytes
        have hg:eA w (w.drew.alloc (.cells (ov.toArray++nv.toArray++Builtin.zeroCells z.cells (grownCap w (n+news.length) sc e-(n+news.length))) e)):=(eA.drew w).trans (eA.alloc _ _);have hcapge:=grownCap_ge w (n+news.length) sc e;have hmv:=Mv.cN (cx:=cx) o ⟨g+1,i.size,(ck.xs.drop lo).take n++news⟩ (some ⟨w.heap.size,0,grownCap w (n+news.length) sc e*i.size⟩) nx _ hr fr lb (Nat.le_refl _) (hr.lt o ck ho)
         (.inr ⟨ck,ho,.inl (by simp;omega)⟩) (hg.rf _) (fun p' hp'=>by injection hp' with hp';subst hp';exact .inr (Nat.le_refl _))
         (fun kp=>by
          have hfl:=(hof.append hnf).mono kp;refine hfl.cr (Ps.b9 ..) (c:=ov.toArray++nv.toArray++Builtin.zeroCells z.cells (grownCap w (n+news.length) sc e-(n+news.length))) (E:=e) (gO.of (by show(w.heap.push _)[w.heap.size]? =_;simp)) ?_ ?_ fun q v hq=>?_
          ·simp only[Array.size_append,List.size_toArray,size_zeroCells,hzs,holen,hnf.l,<-Nat.add_mul];congr 1;omega
          ·simp only[hxlen,Nat.zero_add];exact Nat.mul_le_mul_right _ hcapge
          ·have hlt:=(List.getElem?_eq_some_iff.1 hq).1;simp only[Nat.zero_add];rw[Array.getElem?_append_left (by simpa using hlt)];simpa using hq)
        refine⟨_,_,_,hrun,?_,hmv⟩;refine .own _ _ _ _ _ (hr.lt o ck ho) ⟨_,_,rfl⟩ fun ck' hck'=>?_;simp only[Up.hp,Hp.b9,Option.some.injEq] at hck';subst hck';refine⟨Nat.le_refl _,fun _=>⟨by simp;omega,_,_,rfl,hcapge,.inr ⟨_,Ps.b9 ..,by simp,by simp⟩⟩⟩
     ·cases h
   | _=>simp at h
  ·cases h
section
variable {P:Program} {cx:Cx} {H:Hp} {ps:Ps} {nx:Nat} {w:World}
theorem B8.pure(hr:HR H ps cx.M nx w)(fr:Fr cx.B cx.w0 w)(lb:∀o ck p,H o=some ck->ps o=some p->cx.B p.b\/cx.w0.heap.size<=p.b)
  {r:Result Value} {d:DV} {v:Value} (h:r=.ok v w) (hv:VR H ps cx.M nx w d v):B8 P cx H ps nx w r d .no:=
 ⟨v,w,ps,h,hv,Mv.je hr fr lb (eA.refl w)⟩
theorem eK.qG{s:Sem Value}{d:DV}{u:Up}(h:B8 P cx H ps nx w (s.run P w) d u):eK P cx H ps nx w ((do Pure.pure (Next.value (<-s)):Sem Next).run P w) d u:=by
 obtain⟨v,w',ps',h1,h2,h3⟩:=h;exact⟨_,v,w',ps',by simp only[Sem.run_bind,h1,Result.andThen_ok,Sem.run_pure],.inl rfl,h2,h3⟩
end
structure VA (H:Hp) (ps:Ps) (M:Nat->Prop) (nx:Nat) (w:World) (cs:List DV) (vs:Array Value):Prop where
 l:vs.size=cs.length
 o:∀j,j<cs.length->(vs.getD j undef).oneCell'=true
 r:∀j (hj:j<cs.length),VR H ps M nx w cs[j] (vs.getD j undef)
theorem VA.agg{H ps M nx w cs vs}(h:VA H ps M nx w cs vs):VR H ps M nx w (.agg cs) (.agg vs):=.agg _ _ h.l h.o h.r
theorem SK(off:Nat):∀(l:List Value) (j0:Nat) (cs:Array Value),off+j0+l.length<=cs.size->
  ((l.zipIdx j0).foldl (fun(cs:Array Value) (x:Value×Nat)=>cs.setIfInBounds (off+x.2) x.1) cs).size=cs.size/\
  ∀q,((l.zipIdx j0).foldl (fun(cs:Array Value) (x:Value×Nat)=>cs.setIfInBounds (off+x.2) x.1) cs).getD q undef=if off+j0<=q/\q<off+j0+l.length then l.getD (q-(off+j0)) undef else cs.getD q undef
 | [],j0,cs,_=>by
  refine⟨rfl,fun q=>?_⟩;rw[if_neg (by intro h;simp at h;omega)];rfl
 | v::l,j0,cs,h=>by
  simp only[List.zipIdx_cons,List.foldl_cons];have hl:off+(j0+1)+l.length<=(cs.setIfInBounds (off+j0) v).size:=by simp at h ⊢;omega
  obtain⟨h1,h2⟩:=SK off l (j0+1) (cs.setIfInBounds (off+j0) v) hl;refine⟨by rw[h1];simp,fun q=>?_⟩;rw[h2 q];simp only[List.length_cons] at h ⊢;by_cases e:q=off+j0
  ·subst e;rw[if_neg (by omega),if_pos (by omega)];simp[Array.getD,show off+j0<cs.size by omega]
  ·by_cases hin:off+(j0+1)<=q/\q<off+(j0+1)+l.length
   ·rw[if_pos hin,if_pos (by omega)];have:q-(off+j0)=(q-(off+(j0+1)))+1:=by omega
    rw[this];simp[List.getD]
   ·rw[if_neg hin,if_neg (by omega)];simp[Array.getD_eq_getD_getElem?,Array.getElem?_setIfInBounds_ne (Ne.symm e)]
theorem VA.put{H ps M nx w zs arr cs}{v:Value}{off:Nat}(h:VA H ps M nx w zs arr)(hoff:off+cs.length<=zs.length)(h1:v.cells.size=cs.length)(h2:∀j,j<cs.length->(v.cells.getD j undef).oneCell'=true)
  (h3:∀j (hj:j<cs.length),VR H ps M nx w cs[j] (v.cells.getD j undef)):
  VA H ps M nx w (eF zs off cs) (v.cells.zipIdx.foldl (fun(cs:Array Value) (x:Value×Nat)=>cs.setIfInBounds (off+x.2) x.1) arr):=by
 have hk:=SK off v.cells.toList 0 arr (by simp[h1,h.l];omega);have he:v.cells.zipIdx.foldl (fun(cs:Array Value) (x:Value×Nat)=>cs.setIfInBounds (off+x.2) x.1) arr=((v.cells.toList.zipIdx 0).foldl (fun(cs:Array Value) (x:Value×Nat)=>cs.setIfInBounds (off+x.2) x.1) arr):=by
  rw[<-Array.foldl_toList,Array.toList_zipIdx]
 rw[he];obtain⟨k1,k2⟩:=hk;have hlen:=N7 zs off cs hoff;have hgd:∀j,v.cells.toList.getD j undef=v.cells.getD j undef:=by intro j;simp[List.getD,Array.getD_eq_getD_getElem?]
 refine⟨by rw[k1,h.l,hlen],fun j hj=>?_,fun j hj=>?_⟩
 ·rw[k2 j];split
  ·rename_i hin;simp only[Nat.add_zero,Array.length_toList,h1] at hin;simp only[Nat.add_zero];rw[hgd];exact h2 _ (by omega)
  ·exact h.o j (by omega)
 ·rw[k2 j];simp only[Nat.add_zero,Array.length_toList,h1];rcases Qz zs off cs hoff j hj with⟨g1,g2,g3⟩ | ⟨g1,g2,g3⟩
  ·rw[g3,if_pos (by omega),hgd];exact h3 _ g1
  ·rw[g3,if_neg (by omega)];exact h.r j g1
section
variable {P:Program} {H:Hp} {ps:Ps} {M:Nat->Prop} {nx:Nat} {w:World} {T:Nat->DV} {p:Bool} {a:Act}
theorem GY(hp:p=true)(hT:∀t,VR H ps M nx w (T t) (a.tmps.getD t undef))(place:Nat->Option (Nat×Nat)):
  ∀(parts:List (Nat×Operand)) (rps:List (Nat×Nat×RO)) (zs cs:List DV) (arr:Array Value),lY place parts=some rps->VA H ps M nx w zs arr->
   kK (fun x=>un p (x.get T)) zs rps=some cs->∃out,Instr.fill place arr (parts.map fun x=>(x.1,a.eval x.2))=some out/\VA H ps M nx w cs out
 | [],rps,zs,cs,arr,hb,hz,hf=>by
  simp[lY] at hb;subst hb;simp[kK] at hf;subst hf;exact⟨arr,by simp[Instr.fill],hz⟩
 | (i,x)::r,rps,zs,cs,arr,hb,hz,hf=>by
  simp only[lY] at hb;cases h1:place i with
  | none=>simp[h1] at hb
  | some on=>
   obtain⟨off,n⟩:=on;cases h2:ro x with
   | none=>simp[h1,h2] at hb
   | some x'=>
    cases h3:lY place r with
    | none=>simp[h1,h2,h3] at hb
    | some r'=>
     simp[h1,h2,h3] at hb;subst hb;simp only[kK] at hf;cases h4:hJ (un p (x'.get T)) with
     | none=>simp[h4] at hf
     | some ds=>
      simp only[h4] at hf;split at hf
      ·rename_i hc;obtain⟨hn,hoff⟩:=hc;obtain⟨d1,d2,d3⟩:=OO h4 (Ea hp h2 hT);have hva:=hz.put (off:=off) (v:=a.eval x) (by omega) d1 d2 d3;obtain⟨out,ho,hov⟩:=GY hp hT place r r' _ cs _ h3 hva hf;refine⟨out,?_,hov⟩;simp only[List.map_cons,Instr.fill,h1];rw[if_neg (by simp[d1,hn,hz.l];omega)];exact ho
      ·cases hf
end
theorem Es{xs:List (List DV)}{sz:Nat}(hz:∀c∈xs,c.length=sz):xs.flatten.length=xs.length*sz/\
  ∀i j (hi:i<xs.length) (hj:j<xs[i].length) (hq:i*sz+j<xs.flatten.length),xs.flatten[i*sz+j]=xs[i][j]:=by
 induction xs with
 | nil=>exact⟨by simp,fun i j hi=>by simp at hi⟩
 | cons c r ih=>
  obtain⟨h1,h2⟩:=ih fun c hc=>hz c (by simp[hc]);have hc:=hz c (by simp);refine⟨by simp[h1,hc,Nat.add_mul];omega,fun i j hi hj hq=>?_⟩;cases i with
  | zero=>
   have hj':j<c.length:=by simpa using hj
   simp only[List.flatten_cons,Nat.zero_mul,Nat.zero_add,List.getElem_cons_zero];exact List.getElem_append_left hj'
  | succ i=>
   have e:(i+1)*sz+j=c.length+(i*sz+j):=by rw[hc,Nat.succ_mul];omega
   have hi':i<r.length:=by simpa using hi
   have hj':j<r[i].length:=by simpa using hj
   have hq':i*sz+j<r.flatten.length:=by
    rw[h1];exact zf hi' (by rw[hz r[i] (by simp)] at hj';exact hj')
   simp only[List.flatten_cons,e,List.getElem_cons_succ];rw[List.getElem_append_right (by omega)];simp only[Nat.add_sub_cancel_left];exact h2 i j hi' hj' hq'
theorem aoq{xs:List (List DV)}{sz:Nat}(hz:∀c∈xs,c.length=sz)(i:Nat)(cs:List DV)(hi:i<xs.length)(hc:cs.length=sz):
  (xs.set i cs).flatten=eF xs.flatten (i*sz) cs:=by
 induction xs generalizing i with
 | nil=>simp at hi
 | cons c r ih=>
  have hcl:=hz c (by simp);cases i with
  | zero=>
   simp only[List.set_cons_zero,List.flatten_cons,Nat.zero_mul,eF,List.take_zero,List.nil_append,Nat.zero_add];rw[List.drop_append_of_le_length (by omega),hc,<-hcl,List.drop_length,List.nil_append]
  | succ i=>
   have hi':i<r.length:=by simpa using hi
   rw[List.set_cons_succ,List.flatten_cons,ih (fun c hc=>hz c (by simp[hc])) i hi'];simp only[eF,List.flatten_cons];have e1:(c++r.flatten).take ((i+1)*sz)=c++r.flatten.take (i*sz):=by
    rw[show(i+1)*sz=c.length+i*sz by rw[Nat.succ_mul];omega,List.take_length_add_append]
   have e2:(c++r.flatten).drop ((i+1)*sz+cs.length)=r.flatten.drop (i*sz+cs.length):=by
    rw[show(i+1)*sz+cs.length=c.length+(i*sz+cs.length) by rw[Nat.succ_mul];omega,List.drop_length_add_append]
   rw[e1,e2];simp[List.append_assoc]
theorem Wz(ρ:RO->DV)(sz:Nat):∀(ps:List (Nat×RO)) (xs ys:List (List DV)),(∀c∈xs,c.length=sz)->jE ρ sz xs ps=some ys->
  (∀c∈ys,c.length=sz)/\ys.length=xs.length/\kK ρ xs.flatten (ps.map fun x=>(x.1*sz,sz,x.2))=some ys.flatten
 | [],xs,ys,hz,h=>by simp[jE] at h;subst h;exact⟨hz,rfl,by simp[kK]⟩
 | (i,x)::r,xs,ys,hz,h=>by
  simp only[jE] at h;cases h1:hJ (ρ x) with
  | none=>simp[h1] at h
  | some cs=>
   simp only[h1] at h;split at h
   ·rename_i hc;obtain⟨hc1,hc2⟩:=hc;have hz':∀c∈xs.set i cs,c.length=sz:=fun c hc=>by
     rcases List.mem_or_eq_of_mem_set hc with h | h
     ·exact hz c h
     ·rw[h];exact hc1
    obtain⟨k1,k2,k3⟩:=Wz ρ sz r _ ys hz' h;refine⟨k1,by rw[k2];simp,?_⟩;simp only[List.map_cons,kK,h1];have hle:i*sz+sz<=xs.flatten.length:=by
     rw[(Es hz).1];have:=Nat.mul_le_mul_right sz (Nat.succ_le_of_lt hc2);rwa [Nat.succ_mul] at this
    rw[if_pos ⟨hc1,hle⟩,<-aoq hz i cs hc2 hc1];exact k3
   ·cases h
theorem RD(sz:Nat):∀(ps:List (Nat×Operand)) (rps:List (Nat×RO)),tz ps=some rps->
  lY (fun i=>some (i*sz,sz)) ps=some (rps.map fun x=>(x.1*sz,sz,x.2))
 | [],rps,h=>by simp[tz] at h;subst h;rfl
 | (i,x)::r,rps,h=>by
  simp only[tz] at h;cases h1:ro x with
  | none=>simp[h1] at h
  | some x'=>
   cases h2:tz r with
   | none=>simp[h1,h2] at h
   | some r'=>
    simp[h1,h2] at h;subst h;simp[lY,h1,RD sz r r' h2]
theorem VA.fl{H ps M nx w xs sz arr}(hz:∀c∈xs,c.length=sz)(h:VA H ps M nx w xs.flatten arr):FL H ps M nx w xs sz arr.toList:=by
 obtain⟨k1,k2⟩:=Es hz;refine⟨fun i hi=>hz _ (List.getElem_mem hi),by simp[h.l,k1],fun v hv=>?_,fun i j hi hj=>?_⟩
 ·obtain⟨q,hq,rfl⟩:=List.mem_iff_getElem.1 hv;have hq':q<arr.size:=by simpa using hq
  have:=h.o q (by rw[<-h.l];exact hq');simpa[Array.getD,hq'] using this
 ·have hq:i*sz+j<xs.flatten.length:=by rw[k1];exact zf hi (by rw[<-hz xs[i] (List.getElem_mem hi)];exact hj)
  have:=h.r (i*sz+j) hq;rw[k2 i j hi hj hq] at this;have e:arr.toList.getD (i*sz+j) undef=arr.getD (i*sz+j) undef:=by simp[List.getD,Array.getD_eq_getD_getElem?]
  rw[e];exact this
theorem Og{H:Hp}{ps:Ps}{M:Nat->Prop}{nx:Nat}{w:World}(v:Value)(n len:Nat)(hn:v.cells.size=n)(hp:0<n)(ho:∀j,j<v.cells.size->(v.cells.getD j undef).oneCell'=true):
  VA H ps M nx w (List.replicate len (v.cells.toList.map kB)).flatten ((Array.range (len*n)).map (v.cells[· % v.cells.size]!)):=by
 have hz:∀c∈List.replicate len (v.cells.toList.map kB),c.length=n:=fun c hc=>by rw[List.eq_of_mem_replicate hc];simpa using hn
 obtain⟨k1,k2⟩:=Es hz;have hg:∀q,q<len*n->((Array.range (len*n)).map (v.cells[· % v.cells.size]!)).getD q undef=v.cells.getD (q % n) undef:=by
  intro q hq;have hm:q % n<v.cells.size:=by rw[hn];exact Nat.mod_lt _ hp
  subst hn;simp[Array.getD,hq,hm]
 refine⟨by simp[hn],fun q hq=>?_,fun q hq=>?_⟩
 ·rw[k1,List.length_replicate] at hq;rw[hg q hq];exact ho _ (by rw[hn];exact Nat.mod_lt _ hp)
 ·have hq':q<len*n:=by rw[k1,List.length_replicate] at hq;exact hq
  rw[hg q hq'];have hi:q / n<(List.replicate len (v.cells.toList.map kB)).length:=by
   rw[List.length_replicate];exact Nat.div_lt_of_lt_mul (by rw[Nat.mul_comm];exact hq')
  have hm:q % n<n:=Nat.mod_lt _ hp;have hj:q % n<(List.replicate len (v.cells.toList.map kB))[q / n].length:=by rw[hz _ (List.getElem_mem hi)];exact hm
  have e:q / n*n+q % n=q:=by rw[Nat.mul_comm];exact Nat.div_add_mod q n
  have h3:=k2 (q / n) (q % n) hi hj (by rw[e];exact hq);simp only[e] at h3;rw[h3];simp only[List.getElem_replicate];exact PM v.cells (q % n) (by simpa[hn] using hm)
section
variable {P:Program} {cx:Cx} {H:Hp} {ps:Ps} {nx:Nat} {w:World} {T:Nat->DV} {p:Bool} {a:Act}
variable (hr:HR H ps cx.M nx w) (fr:Fr cx.B cx.w0 w) (lb:∀o ck p,H o=some ck->ps o=some p->cx.B p.b\/cx.w0.heap.size<=p.b)
variable (hp:p=true) (hT:∀t,VR H ps cx.M nx w (T t) (a.tmps.getD t undef))
theorem are{c x y:Operand}{c' x' y':RO}{d:DV}(hp:p=true)(hT:∀t,VR H ps cx.M nx w (T t) (a.tmps.getD t undef))(h1:ro c=some c')(h2:ro x=some x')(h3:ro y=some y')
  (h:vm p (c'.get T) (x'.get T) (y'.get T)=some d):∃v,((do Pure.pure (if<-asBool (a.eval c) then a.eval x else a.eval y):Sem Value).run P w=.ok v w)/\VR H ps cx.M nx w d v:=by
 unfold vm at h;have hc:=Ea hp h1 hT;split at h
 ·rename_i q hq;rw[hq] at hc;have hce:=hc.e9;have key:∀z,(q=true->un (p && q) (x'.get T)=.v (.bool z))->(q=false->un (p && !q) (y'.get T)=.v (.bool z))->∃v,((do Pure.pure (if<-asBool (a.eval c) then a.eval x else a.eval y):Sem Value).run P w=.ok v w)/\VR H ps cx.M nx w (.v (.bool z)) v:=by
   intro z e1 e2;cases q with
   | true=>
    have:=LM (p:=p && true) (by simp[hp]) (EL h2 hT);rw[e1 rfl] at this;exact⟨_,by simp[hce,asBool,this.e9],.v _⟩
   | false=>
    have:=LM (p:=p && !false) (by simp[hp]) (EL h3 hT);rw[e2 rfl] at this;exact⟨_,by simp[hce,asBool,this.e9],.v _⟩
  unfold ud at h;split at h
  ·rename_i b1 b2 e1 e2;cases h;exact key _ (fun hq=>by subst hq;exact e1) (fun hq=>by subst hq;exact e2)
  ·rename_i b1 e1 _;split at h
   ·rename_i hq1;cases h;exact key _ (fun _=>e1) (fun hq=>by rw[hq1] at hq;cases hq)
   ·cases h
  ·rename_i b1 e1 _;split at h
   ·cases h
   ·rename_i hq1;cases h;exact key _ (fun hq=>absurd hq hq1) (fun _=>e1)
  ·cases h
 ·cases h
theorem aaw{op:BinOp}{k:IntKind}{x y:Int}{d:DV}(h:uC op k x y=some d)(t:TypeId):∃v,(binOp op t (.int k x) (.int k y)).run P w=.ok v w/\VR H ps cx.M nx w d v:=by
 cases op<;>simp only[uC,Option.some.injEq] at h<;>(try cases h)<;>
  first
   | exact⟨_,by simp[binOp,Op.intArith,Op.intCmp,Op.intBits],.v _⟩
   | (split at h
      ·cases h
      ·rename_i h0;cases h;exact⟨_,by simp[binOp,Op.intDiv,h0],.v _⟩)
theorem akb{op:BinOp}{x y:DV}{v1 v2:Value}{d:DV}(h:mi op x y=some d)(hx:VR H ps cx.M nx w x v1)(hy:VR H ps cx.M nx w y v2)(t:TypeId)(o1 o2:Operand):
  ∃v,((do eqGuard op t o1 o2 v1 v2;binOp op t v1 v2:Sem Value).run P w=.ok v w)/\VR H ps cx.M nx w d v:=by
 unfold mi at h;split at h
 ·rename_i a b;rw[hx.e9,hy.e9];have hg:(eqGuard op t o1 o2 (.string a) (.string b)).run P w=.ok () w:=by
   unfold eqGuard;cases op<;>simp
  have hla:(bl a).length=a.size:=by simp[bl]
  have hlb:(bl b).length=b.size:=by simp[bl]
  cases op<;>simp only[GV] at h<;>(try cases h;done)
  ·split at h
   ·rename_i hle;injection h with h;subst h
    refine⟨.string (a++b),?_,?_⟩
    ·have:¬((a.size+b.size:Nat):Int)>IntKind.i64.max:=by
      have:IntKind.i64.max=9223372036854775807:=by decide
      omega
     simp only[Sem.run_bind,hg,Result.andThen_ok,binOp,Op.stringOp];rw[if_neg this];rfl
    ·have:mU (bl a++bl b)=a++b:=by
      apply ByteArray.ext;simp[mU,bl]
     rw[this];exact .v _
   ·cases h
  ·injection h with h;subst h
   refine⟨.bool (a.toList==b.toList),by simp[hg,binOp,Op.stringOp],?_⟩;rw[ByteArray.toList_eq,ByteArray.toList_eq];exact .v _
  ·injection h with h;subst h
   refine⟨.bool (!(a.toList==b.toList)),by simp[hg,binOp,Op.stringOp],?_⟩;rw[ByteArray.toList_eq,ByteArray.toList_eq];exact .v _
 ·split at h
  ·rename_i k1 x k2 y hs;have e1:=hx.e9;have e2:=hy.e9;subst e1;subst e2;have hg:(eqGuard op t o1 o2 (.int k1 x) (.int k2 y)).run P w=.ok () w:=by
    unfold eqGuard;cases op<;>simp
   unfold Iv at h;split at h
   ·cases h
   ·rename_i hb;split at h
    ·injection h with h;subst h
     exact⟨_,by simp[hg];simp[binOp,Op.shift,hb],.v _⟩
    ·injection h with h;subst h
     exact⟨_,by simp[hg];simp[binOp,Op.shift,hb],.v _⟩
    ·cases h
  split at h
  ·rename_i k1 x k2 y hs hk;subst hk;have e1:=hx.e9;have e2:=hy.e9;subst e1;subst e2;obtain⟨v,hv,hr'⟩:=aaw (P:=P) (H:=H) (ps:=ps) (cx:=cx) (nx:=nx) (w:=w) h t;refine⟨v,?_,hr'⟩;have hg:(eqGuard op t o1 o2 (.int k1 x) (.int k1 y)).run P w=.ok () w:=by
    unfold eqGuard;cases op<;>simp
   simp[hg,hv]
  ·cases h
 ·cases h
theorem ak1{op:UnOp}{x:DV}{v1:Value}{d:DV}(h:uS op x=some d)(hx:VR H ps cx.M nx w x v1):∃v,(Op.unary op v1).run P w=.ok v w/\VR H ps cx.M nx w d v:=by
 unfold uS at h;split at h
 ·split at h
  ·cases h;have:=hx.e9;subst this;exact⟨_,by simp[Op.unary,Op.intArith],.v _⟩
  ·cases h
 ·split at h
  ·cases h;have:=hx.e9;subst this;exact⟨_,by simp[Op.unary],.v _⟩
  ·cases h
 ·cases h
theorem VR.Wp{o g b n:Nat}{x:Value}(h:VR H ps cx.M nx w (.own o g b n) x)(hl:live H o g=true):∃ck,H o=some ck/\ck.gen=g/\MP ps ck o b n x:=by
 unfold live at hl;cases ho:H o with
 | none=>simp[ho] at hl
 | some ck=>
  simp only[ho,beq_iff_eq] at hl;cases h with
  | own _ _ _ _ _ h0 h1 h=>exact⟨ck,rfl,hl,(h ck ho).2 hl⟩
theorem VR.Xr{o g i f:Nat}{x:Value}(h:VR H ps cx.M nx w (.ptr o g i f) x)(hl:live H o g=true):∃ck,H o=some ck/\ck.gen=g/\Mm ps ck o i f x:=by
 unfold live at hl;cases ho:H o with
 | none=>simp[ho] at hl
 | some ck=>
  simp only[ho,beq_iff_eq] at hl;cases h with
  | ptr _ _ _ _ _ h0 h1 h=>exact⟨ck,rfl,hl,(h ck ho).2 hl⟩
theorem ajw{x:DV}{v1:Value}{d:DV}(h:mT H x=some d)(hx:VR H ps cx.M nx w x v1):∃a n c,v1=.slice a n c/\d=I n:=by
 unfold mT at h;split at h
 ·cases h;cases hx with
  | fm _ a cap hf=>exact⟨a,0,cap,rfl,rfl⟩
  | ab _ xs b off cap sz' vs hne hs' hcap hf hM hzz h1 hc hv=>exact⟨_,_,cap,rfl,rfl⟩
 ·cases h;cases hx with
  | own _ _ _ _ _ h0 h1 h=>obtain⟨a,cap,rfl⟩:=h1;exact⟨a,_,cap,rfl,rfl⟩
 ·cases h
theorem ali{mx:Bool}{x y d:DV}{v1 v2:Value}(h:xl mx x y=some d)(hx:VR H ps cx.M nx w x v1)(hy:VR H ps cx.M nx w y v2):
  ∃v,((if mx then Builtin.max2 v1 v2 else Builtin.min2 v1 v2).run P w=.ok v w)/\VR H ps cx.M nx w d v:=by
 unfold xl at h;split at h
 ·cases h;have e1:=hx.e9;have e2:=hy.e9;subst e1;subst e2;rename_i k a k' b;cases mx
  ·exact⟨.int k (if b<a then b else a),by simp[Builtin.min2],.v _⟩
  ·exact⟨.int k (if a<b then b else a),by simp[Builtin.max2],.v _⟩
 ·cases h
theorem M5{mx:Bool}:∀(l:List DV) (vs:List Value) (x d:DV) (v1:Value),ui mx x l=some d->l.length=vs.length->VR H ps cx.M nx w x v1->
  (∀j (h1:j<l.length) (h2:j<vs.length),VR H ps cx.M nx w l[j] vs[j])->∃v,((vs.foldlM (if mx then Builtin.max2 else Builtin.min2) v1).run P w=.ok v w)/\VR H ps cx.M nx w d v
 | [],[],x,d,v1,h,_,hx,_=>by
  simp only[ui] at h;split at h
  ·injection h with h;subst h
   exact⟨v1,by simp,hx⟩
  ·cases h
 | y::l,u::vs,x,d,v1,h,hl,hx,hv=>by
  simp only[ui] at h;cases hm:xl mx x y with
  | none=>simp[hm] at h
  | some z=>
   simp only[hm] at h;obtain⟨v,hv1,hv2⟩:=ali (P:=P) hm hx (hv 0 (by simp) (by simp));obtain⟨v',hv3,hv4⟩:=M5 l vs z d v h (by simpa using hl) hv2 (fun j h1 h2=>hv (j+1) (by simpa using h1) (by simpa using h2));refine⟨v',?_,hv4⟩;simp only[List.foldlM_cons,Sem.run_bind];cases mx<;>simp_all
 | [],_::_,_,_,_,_,hl,_,_=>by simp at hl
 | _::_,[],_,_,_,_,hl,_,_=>by simp at hl
theorem AA(hp:p=true)(hT:∀t,VR H ps cx.M nx w (T t) (a.tmps.getD t undef)):∀(l:List Operand) (rs:List RO),mw l=some rs->
  rs.length=l.length/\∀j (h1:j<rs.length) (h2:j<l.length),VR H ps cx.M nx w (un p (rs[j].get T)) (a.eval l[j])
 | [],rs,h=>by simp[mw] at h;subst h;exact⟨rfl,fun j h1=>by simp at h1⟩
 | x::l,rs,h=>by
  simp only[mw] at h;cases h1:ro x with
  | none=>simp[h1] at h
  | some x'=>
   cases h2:mw l with
   | none=>simp[h1,h2] at h
   | some r'=>
    simp[h1,h2] at h;subst h;obtain⟨k1,k2⟩:=AA hp hT l r' h2;refine⟨by simp[k1],fun j h1' h2'=>?_⟩;cases j with
    | zero=>exact Ea hp h1 hT
    | succ j=>exact k2 j (by simpa using h1') (by simpa using h2')
end
def ja:Nat->Value->Value->Option Bool
 | 1,.int k a,.int k' b=>if k=k' then some (a==b) else none
 | 0,.bool a,.bool b=>some (a==b)
 | 2,.string a,.string b=>some (a==b)
 | _,_,_=>none
def iW(xs ys:Array Value):List (Nat×Nat)->Option Bool
 | []=>some true
 | o::r=>match ja o.2 (xs.getD o.1 undef) (ys.getD o.1 undef),iW xs ys r with
  | some a,some b=>some (a && b)
  | _,_=>none
theorem T7(xs ys:Array Value):∀(l r:List (Nat×Nat)) (b:Bool),iW xs ys (l++r)=some b->∃b1 b2,iW xs ys l=some b1/\iW xs ys r=some b2/\b=(b1 && b2)
 | [],r,b,h=>⟨true,b,rfl,h,by simp⟩
 | o::l,r,b,h=>by
  simp only[List.cons_append,iW] at h;cases h1:ja o.2 (xs.getD o.1 undef) (ys.getD o.1 undef) with
  | none=>simp only[h1] at h;cases h
  | some c=>
   cases h2:iW xs ys (l++r) with
   | none=>simp only[h1,h2] at h;cases h
   | some e=>
    simp only[h1,h2,Option.some.injEq] at h;subst h;obtain⟨b1,b2,k1,k2,k3⟩:=T7 xs ys l r e h2;exact⟨c && b1,b2,by simp only[iW,h1,k1],k2,by rw[k3,Bool.and_assoc]⟩
theorem Qe(xs ys:Array Value)(off n:Nat):∀(l:List (Nat×Nat)),l.all (fun x=>decide (x.1<n))=true->
  iW (xs.extract off (off+n)) (ys.extract off (off+n)) l=iW xs ys (l.map fun x=>(off+x.1,x.2))
 | [],_=>rfl
 | o::l,h=>by
  simp only[List.all_cons,Bool.and_eq_true,decide_eq_true_eq] at h;have hg:∀zs:Array Value,(zs.extract off (off+n)).getD o.1 undef=zs.getD (off+o.1) undef:=by
   intro zs;simp only[Array.getD_eq_getD_getElem?,Array.getElem?_extract];by_cases hlt:o.1<min (off+n) zs.size-off
   ·simp[hlt]
   ·have:zs.size<=off+o.1:=by omega
    simp[hlt,Array.getElem?_eq_none this]
  simp only[List.map_cons,iW,hg,Qe xs ys off n l h.2]
theorem ao9{k:Nat}{xs ys:Array Value}{o:Nat}{b:Bool}(h:ja k (xs.getD o undef) (ys.getD o undef)=some b):o<xs.size/\o<ys.size:=by
 constructor
 ·rcases Nat.lt_or_ge o xs.size with h' | h'
  ·exact h'
  ·rw[show xs.getD o undef=undef by simp[Array.getD_eq_getD_getElem?,Array.getElem?_eq_none h']] at h;unfold ja at h;split at h<;>simp_all[undef]
 ·rcases Nat.lt_or_ge o ys.size with h' | h'
  ·exact h'
  ·rw[show ys.getD o undef=undef by simp[Array.getD_eq_getD_getElem?,Array.getElem?_eq_none h']] at h;unfold ja at h;split at h<;>simp_all[undef]
theorem Ky{k:Nat}{x y:Value}{b:Bool}(h:(match ja k x y,(some true:Option Bool) with | some a,some b=>some (a && b) | _,_=>none)=some b):ja k x y=some b:=by
 cases hq:ja k x y with
 | none=>simp only[hq] at h;cases h
 | some c=>simp only[hq,Option.some.injEq,Bool.and_true] at h;rw[h]
theorem ayj{x y:Value}{b:Bool}(h:ja 0 x y=some b):∃a c,x=.bool a/\y=.bool c/\b=(a==c):=by
 cases x<;>cases y<;>simp[ja] at h;exact⟨_,_,rfl,rfl,by simp[h]⟩
theorem amp{x y:Value}{b:Bool}(h:ja 1 x y=some b):∃k a c,x=.int k a/\y=.int k c/\b=(a==c):=by
 cases x<;>cases y<;>simp[ja] at h;obtain⟨rfl,h⟩:=h;exact⟨_,_,_,rfl,rfl,by simp[h]⟩
theorem ajk{x y:Value}{b:Bool}(h:ja 2 x y=some b):∃a c,x=.string a/\y=.string c/\b=(a==c):=by
 cases x<;>cases y<;>simp[ja] at h;exact⟨_,_,rfl,rfl,by simp[h]⟩
theorem tN{x:Value}(h:∀cs,x≠.agg cs):x.cells.getD 0 undef=x:=by
 cases x<;>first | rfl | exact absurd rfl (h _)
section
variable {P:Program}
theorem Mp{t:TypeId}{n:Nat}(h1:iH P t=some true)(h2:hO P t=some n)(cs:Array Value)(off:Nat)(w:World):(part t cs off).run P w=.ok (.agg (cs.extract off (off+n))) w:=by
 simp[part,O8 h1,s6 h2]
theorem Lw{t:TypeId}(h1:iH P t=some false)(cs:Array Value)(off:Nat)(hoff:off<cs.size)(w:World):(part t cs off).run P w=.ok (cs.getD off undef) w:=by
 simp[part,O8 h1,hoff,Array.getD]
theorem YA(w:World):∀(d:Nat) (t:TypeId) (offs:List (Nat×Nat)),flat P d t=some offs->∀D,d<=D->∀(x y:Value) (b:Bool),
  ((∃fs,P.underlying t=some (.struct fs))->∃xs ys,x=.agg xs/\y=.agg ys)->((∀fs,P.underlying t≠some (.struct fs))->(∀cs,x≠.agg cs)/\∀cs,y≠.agg cs)->
  iW x.cells y.cells offs=some b->(Op.equalIn D t x y).run P w=.ok b w:=by
 intro d;induction d with
 | zero=>intro t offs h;simp[flat] at h
 | succ d ih=>
  intro t offs h D hD x y b hs hns hv;obtain⟨D,rfl⟩:∃D',D=D'+1:=⟨D-1,by omega⟩;simp only[flat] at h;split at h
  ·rename_i hu;cases h;obtain⟨n1,n2⟩:=hns (by simp[hu]);simp only[iW,tN n1,tN n2] at hv;obtain⟨a,c,rfl,rfl,rfl⟩:=ayj (Ky hv);simp[Op.equalIn,run_underlying hu]
  ·rename_i k hu;cases h;obtain⟨n1,n2⟩:=hns (by simp[hu]);simp only[iW,tN n1,tN n2] at hv;obtain⟨k',a,c,rfl,rfl,rfl⟩:=amp (Ky hv);simp[Op.equalIn,run_underlying hu]
  ·rename_i hu;cases h;obtain⟨n1,n2⟩:=hns (by simp[hu]);simp only[iW,tN n1,tN n2] at hv;obtain⟨a,c,rfl,rfl,rfl⟩:=ajk (Ky hv);simp[Op.equalIn,run_underlying hu]
  ·rename_i fs hu;split at h
   ·cases h
   ·rename_i hst;obtain⟨xs,ys,rfl,rfl⟩:=hs ⟨fs,hu⟩;have hf:P.fieldsOf t=fs:=by simp[Program.fieldsOf,hu]
    rw[run_equalIn_struct w D t xs ys (by rw[hf];exact hu) (by simpa using hst),hf];simp only[Value.cells] at hv;generalize fs.toList=l at h;induction l generalizing offs b with
    | nil=>
     simp at h;subst h;simp[iW] at hv;subst hv;simp[Op.eqFields]
    | cons f l ihl=>
     simp only[List.foldr_cons] at h;split at h
     ·cases h
     ·rename_i r hr;split at h
      ·cases h
      ·rename_i hname;split at h
       ·rename_i lf n hlf hn;split at h
        ·rename_i hall;cases h;obtain⟨b1,b2,hv1,hv2,rfl⟩:=T7 xs ys _ _ b hv;have hrest:=ihl r b2 hv2 hr;simp only[Op.eqFields,if_pos (hname),Sem.run_bind];have key:∃x' y',(part f.type xs f.offset).run P w=.ok x' w/\(part f.type ys f.offset).run P w=.ok y' w/\(Op.equalIn D f.type x' y').run P w=.ok b1 w:=by
          by_cases hag:∃gs,P.underlying f.type=some (.struct gs)
          ·obtain⟨gs,hgs⟩:=hag;have ha:iH P f.type=some true:=by simp[iH,hgs]
           refine⟨_,_,Mp ha hn xs _ w,Mp ha hn ys _ w,ih f.type lf hlf D (by omega) _ _ b1 (fun _=>⟨_,_,rfl,rfl⟩) (fun hh=>absurd hgs (hh gs)) ?_⟩;simp only[Value.cells];rw[Qe xs ys f.offset n lf hall];exact hv1
          ·have hlf':=hlf;cases d with
           | zero=>simp[flat] at hlf
           | succ d=>
            simp only[flat] at hlf;have fin:∀k,lf=[(0,k)]->iH P f.type=some false->(∀b,ja k (xs.getD (f.offset+0) undef) (ys.getD (f.offset+0) undef)=some b->(∀cs,xs.getD f.offset undef≠.agg cs)/\∀cs,ys.getD f.offset undef≠.agg cs)->
              ∃x' y',(part f.type xs f.offset).run P w=.ok x' w/\(part f.type ys f.offset).run P w=.ok y' w/\(Op.equalIn D f.type x' y').run P w=.ok b1 w:=by
             intro k hk ha hna;subst hk;simp only[List.map_cons,List.map_nil,iW] at hv1;cases hq:ja k (xs.getD (f.offset+0) undef) (ys.getD (f.offset+0) undef) with
             | none=>simp only[hq] at hv1;cases hv1
             | some c=>
              simp only[hq,Option.some.injEq,Bool.and_true] at hv1;subst hv1;obtain⟨s1,s2⟩:=ao9 hq;obtain⟨n1,n2⟩:=hna c hq;refine⟨_,_,Lw ha xs _ (by simpa using s1) w,Lw ha ys _ (by simpa using s2) w,ih f.type _ hlf' D (by omega) _ _ c (fun hh=>absurd hh hag) (fun _=>⟨n1,n2⟩) ?_⟩;simp only[iW,tN n1,tN n2];rw[Nat.add_zero] at hq;simp only[hq,Bool.and_true]
            have nag:∀k b,ja k (xs.getD (f.offset+0) undef) (ys.getD (f.offset+0) undef)=some b->(∀cs,xs.getD f.offset undef≠.agg cs)/\∀cs,ys.getD f.offset undef≠.agg cs:=by
             intro k b hq;rw[Nat.add_zero] at hq;generalize xs.getD f.offset undef=u at hq;generalize ys.getD f.offset undef=v at hq;unfold ja at hq;split at hq
             ·exact⟨by simp,by simp⟩
             ·exact⟨by simp,by simp⟩
             ·exact⟨by simp,by simp⟩
             ·cases hq
            split at hlf
            ·rename_i hu;injection hlf with hlf;exact fin 0 hlf.symm (by simp[iH,hu]) (nag 0)
            ·rename_i hu;injection hlf with hlf;exact fin 1 hlf.symm (by simp[iH,hu]) (nag 1)
            ·rename_i hu;injection hlf with hlf;exact fin 2 hlf.symm (by simp[iH,hu]) (nag 2)
            ·rename_i gs hu;exact absurd ⟨gs,hu⟩ hag
            ·cases hlf
         obtain⟨x',y',k1,k2,k3⟩:=key;simp only[k1,Result.andThen_ok,k2,k3,Sem.run_ite];cases b1 with
         | false=>simp
         | true=>simpa using hrest
        ·cases h
       ·cases h
  ·cases h
end
section
variable {P:Program} {cx:Cx} {H:Hp} {ps:Ps} {nx:Nat} {w:World}
theorem ays{k:Nat}{x y:DV}{v u:Value}{b:Bool}(h:uO k x y=some b)(hx:VR H ps cx.M nx w x v)(hy:VR H ps cx.M nx w y u):ja k v u=some b:=by
 unfold uO at h;split at h
 ·have e1:=hx.e9;have e2:=hy.e9;subst e1;subst e2;exact h
 ·have e1:=hx.e9;have e2:=hy.e9;subst e1;subst e2;exact h
 ·have e1:=hx.e9;have e2:=hy.e9;subst e1;subst e2;exact h
 ·cases h
theorem aa5{k:Nat}{x y:DV}{b:Bool}(h:uO k x y=some b):x≠.any/\y≠.any:=by
 unfold uO at h;split at h
 ·exact⟨by simp,by simp⟩
 ·exact⟨by simp,by simp⟩
 ·exact⟨by simp,by simp⟩
 ·cases h
theorem SX{cs ds:List DV}{xs ys:Array Value}(hx:∀j (hj:j<cs.length),VR H ps cx.M nx w cs[j] (xs.getD j undef))(hy:∀j (hj:j<ds.length),VR H ps cx.M nx w ds[j] (ys.getD j undef)):
  ∀(offs:List (Nat×Nat)) (b:Bool),nw cs ds offs=some b->iW xs ys offs=some b
 | [],b,h=>by simpa[nw,iW] using h
 | o::l,b,h=>by
  simp only[nw] at h;cases h1:uO o.2 (cs.getD o.1 .any) (ds.getD o.1 .any) with
  | none=>simp only[h1] at h;cases h
  | some c=>
   cases h2:nw cs ds l with
   | none=>simp only[h1,h2] at h;cases h
   | some e=>
    simp only[h1,h2,Option.some.injEq] at h;subst h;obtain⟨n1,n2⟩:=aa5 h1;have l1:o.1<cs.length:=by
     rcases Nat.lt_or_ge o.1 cs.length with h | h
     ·exact h
     ·exact absurd (by simp[List.getD,List.getElem?_eq_none h]) n1
    have l2:o.1<ds.length:=by
     rcases Nat.lt_or_ge o.1 ds.length with h | h
     ·exact h
     ·exact absurd (by simp[List.getD,List.getElem?_eq_none h]) n2
    have e1:cs.getD o.1 .any=cs[o.1]:=by simp[List.getD,l1]
    have e2:ds.getD o.1 .any=ds[o.1]:=by simp[List.getD,l2]
    rw[e1,e2] at h1;have:=ays h1 (hx o.1 l1) (hy o.1 l2);simp only[iW,this,SX hx hy l e h2]
theorem Q5{neg:Bool}{offs:List (Nat×Nat)}{cs ds:List DV}{v1 v2:Value}{b:Bool}{t:TypeId}{fs:Array Field}(hu:P.underlying t=some (.struct fs))(hf:flat P 20 t=some offs)(hg:P.eqGuardType P.depth t=false)
  (h:nw cs ds offs=some b) (hx:VR H ps cx.M nx w (.agg cs) v1) (hy:VR H ps cx.M nx w (.agg ds) v2) (o1 o2:Operand):
  ((do eqGuard (if neg then .neq else .eql) t o1 o2 v1 v2;binOp (if neg then .neq else .eql) t v1 v2:Sem Value).run P w=.ok (.bool (b !=neg)) w):=by
 obtain⟨xs,rfl,_,_,hvx⟩:=hx.fj;obtain⟨ys,rfl,_,_,hvy⟩:=hy.fj;have he:=YA w 20 t offs hf Op.maxDepth (by unfold Op.maxDepth;omega) (.agg xs) (.agg ys) b (fun _=>⟨_,_,rfl,rfl⟩) (fun hh=>absurd hu (hh fs)) (SX hvx hvy offs b h);have hgd:∀op:BinOp,(eqGuard op t o1 o2 (.agg xs) (.agg ys)).run P w=.ok () w:=by
  intro op;unfold eqGuard;cases op<;>simp[hg]
 cases neg with
 | false=>simp[hgd,binOp,Op.equal,he]
 | true=>simp[hgd,binOp,Op.equal,he]
theorem LH{t e:TypeId}{size:Nat}(ht:P.underlying t=some (.slice e))(hs:hO P e=some size)(a:Option Addr)(len cap:Nat)(lo hi:Option Value)(l h:Nat)
  (hlo:(lo=none/\l=0)\/∃k,lo=some (.int k l)) (hhi:(hi=none/\h=len)\/∃k,hi=some (.int k h)) (hl:l<=h) (hc:h<=cap):
  (Instr.slice t (.slice a len cap) lo hi none).run P w=.ok (.slice (if cap=l then a else a.map (·.add (l*size))) (h-l) (cap-l)) w:=by
 have hb:(Instr.sliceBounds true len cap lo hi none).run P w=.ok (l,h,cap) w:=by
  rcases hlo with⟨rfl,rfl⟩ | ⟨k,rfl⟩<;>rcases hhi with⟨rfl,rfl⟩ | ⟨k',rfl⟩<;>
   simp[Instr.sliceBounds,Instr.sliceBound,asIntOf,hl,hc]
 simp[Instr.slice,run_underlying ht,hb,s6 hs]
theorem DA{d:Nat}{o:Option DV}{v:Option Value}{n:Int}(h:mh d o=some n)(hv:(o=none/\v=none)\/∃x y,o=some x/\v=some y/\VR H ps cx.M nx w x y)(h0:0<=n):
  (v=none/\n.toNat=d)\/∃k,v=some (.int k n.toNat):=by
 rcases hv with⟨rfl,rfl⟩ | ⟨x,y,rfl,rfl,hxy⟩
 ·simp only[mh] at h;cases h;exact .inl ⟨rfl,by simp⟩
 ·unfold mh at h;split at h
  ·rename_i e;cases e
  ·rename_i k m e;cases h;cases e;have:=hxy.e9;subst this;exact .inr ⟨k,by rw[Int.toNat_of_nonneg h0]⟩
  ·cases h
theorem asc{t e:TypeId}{size:Nat}(hr:HR H ps cx.M nx w)(ht:P.underlying t=some (.slice e))(hs:hO P e=some size){x d:DV}{v:Value}{lo hi:Option DV}{lo' hi':Option Value}
  (h:rm H size x lo hi=some d) (hx:VR H ps cx.M nx w x v) (hlo:(lo=none/\lo'=none)\/∃x y,lo=some x/\lo'=some y/\VR H ps cx.M nx w x y)
  (hhi:(hi=none/\hi'=none)\/∃x y,hi=some x/\hi'=some y/\VR H ps cx.M nx w x y):
  ∃v',(Instr.sliceAt t v lo' hi' none).run P w=.ok v' w/\VR H ps cx.M nx w d v':=by
 have hsa:∀v,Instr.sliceAt t v lo' hi' none=(do match<-underlying t with | .array n elem=>do let a<-Instr.sureAddr v;let(l,h,m)<-Instr.sliceBounds false n n lo' hi' none;let size<-sizeOf elem;pure (.slice (some (if m=l then a else a.add (l*size))) (h-l) (m-l)) | _=>Instr.slice t v lo' hi' none):=fun v=>rfl;have hrun:∀v,(Instr.sliceAt t v lo' hi' none).run P w=(Instr.slice t v lo' hi' none).run P w:=by
  intro v;simp[Instr.sliceAt,run_underlying ht]
 rw[hrun];unfold rm at h;split at h
 ·rename_i full xs;cases hl:mh 0 lo with
  | none=>simp[hl] at h
  | some l=>
   cases hh:mh xs.length hi with
   | none=>simp[hl,hh] at h
   | some hb=>
    simp only[hl,hh] at h;split at h
    ·rename_i hc;obtain⟨c1,c2,c3,c4⟩:=hc;injection h with h;subst h
     have b1:=DA hl hlo c1;have b2:=DA hh hhi (by omega);obtain⟨ln,rfl⟩:=Int.eq_ofNat_of_zero_le c1;obtain⟨hn,rfl⟩:=Int.eq_ofNat_of_zero_le (show 0<=hb by omega);simp only[Int.toNat_natCast] at b1 b2 ⊢;have e1:ln<=hn:=by omega
     have e2:hn<=xs.length:=by omega
     cases hx with
     | fm _ a cap hf=>
      have:hn=0:=by simpa using e2
      subst this;have:ln=0:=by omega
      subst this;refine⟨_,LH ht hs a 0 cap lo' hi' 0 0 b1 (by simpa using b2) (Nat.le_refl _) (by omega),?_⟩;simp only[List.drop_nil,List.take_nil];exact .fm _ _ _ fun hfull=>by simp at hfull;simp[hf hfull]
     | ab _ _ b off cap sz vs hne hs' hcap hf hM hz h1 hcc hv=>
      refine⟨_,LH ht hs _ xs.length cap lo' hi' ln hn b1 b2 e1 (by omega),?_⟩;have hlen:((xs.drop ln).take (hn-ln)).length=hn-ln:=by simp;omega
      by_cases hem:hn-ln=0
      ·have hnil:(xs.drop ln).take (hn-ln)=[]:=by rw[hem];simp
       rw[hnil,hem];refine .fm _ _ _ fun hfull=>?_;simp only[Bool.and_eq_true,decide_eq_true_eq] at hfull;have:=hf hfull.1;omega
      ·have hsz:ln=0\/sz=size:=by
        rcases c4 with c4 | c4
        ·exact .inl (by omega)
        ·have hp:0<xs.length:=by omega
         have:=List.all_eq_true.1 c4 xs[0] (List.getElem_mem hp);rw[hz 0 hp] at this;exact .inr (by simpa using this)
       have ha:(if cap=ln then some (⟨b,off,none⟩:Addr) else(some (⟨b,off,none⟩:Addr)).map (·.add (ln*size)))=some ⟨b,off+ln*sz,none⟩:=by
        rw[if_neg (by omega)];rcases hsz with hsz | hsz
        ·subst hsz;simp[Addr.add]
        ·subst hsz;simp[Addr.nZ]
       have hne':(xs.drop ln).take (hn-ln)≠[]:=by intro e;rw[e] at hlen;simp at hlen;omega
       rw[ha];suffices key:VR H ps cx.M nx w (.ab (full && decide ((hn:Int)=xs.length)) ((xs.drop ln).take (hn-ln))) (.slice (some ⟨b,off+ln*sz,none⟩) ((xs.drop ln).take (hn-ln)).length (cap-ln)) by
        rw[hlen] at key;exact key
       refine .ab _ _ b (off+ln*sz) (cap-ln) sz (fun i j=>vs (ln+i) j) hne' hs' (by omega) (fun hfull=>?_) hM (fun i hi=>?_) (fun i j hi hj=>h1 _ _ (by omega) hj) (fun i j hi hj=>?_) (fun i j hi hj=>?_)
       ·simp only[Bool.and_eq_true,decide_eq_true_eq] at hfull;have:=hf hfull.1;omega
       ·simp only[List.getElem_take,List.getElem_drop];exact hz _ _
       ·have:=hcc (ln+i) j (by omega) hj;rw[Nat.add_mul] at this;rw[show off+ln*sz+(i*sz+j)=off+(ln*sz+i*sz+j) by omega];exact this
       ·have hi':ln+i<xs.length:=by omega
        have hj':j<xs[ln+i].length:=by simpa using hj
        have:=hv (ln+i) j hi' hj';simpa using this
    ·cases h
 ·rename_i o g b n;cases hl:mh 0 lo with
  | none=>simp[hl] at h
  | some l=>
   cases hh:mh n hi with
   | none=>simp[hl,hh] at h
   | some hb=>
    simp only[hl,hh] at h;split at h
    ·rename_i hc;obtain⟨c0,c1,c2,c3⟩:=hc;injection h with h;subst h
     have b1:=DA hl hlo c1;have b2:=DA hh hhi (by omega);obtain⟨ln,rfl⟩:=Int.eq_ofNat_of_zero_le c1;obtain⟨hn,rfl⟩:=Int.eq_ofNat_of_zero_le (show 0<=hb by omega);simp only[Int.toNat_natCast] at b1 b2 ⊢;have e1:ln<=hn:=by omega
     have e2:hn<=n:=by omega
     have hlive:live H o g=true:=by
      unfold sK at c0;unfold live;split at c0<;>simp_all
     obtain⟨ck,ho,hg,hlen,a,cap,rfl,hnc,hpl⟩:=hx.Wp hlive;have hsz:ck.sz=size:=by unfold sK at c0;rw[ho] at c0;simp at c0;exact c0.2
     refine⟨_,LH ht hs a n cap lo' hi' ln hn b1 b2 e1 (by omega),?_⟩;refine .own _ _ _ _ _ (hr.lt o ck ho) ⟨_,_,rfl⟩ fun ck' hck'=>?_;rw[ho] at hck';injection hck' with hck';subst hck'
     refine⟨by omega,fun _=>⟨by omega,_,_,rfl,by omega,?_⟩⟩;by_cases hcl:cap=ln
     ·exact .inl (by omega)
     ·rcases hpl with hpl | ⟨p,hp,rfl,htot⟩
      ·exact .inl (by omega)
      ·refine .inr ⟨p,hp,?_,?_⟩
       ·rw[if_neg hcl];simp only[Option.map_some,Addr.nZ,<-hsz,Nat.add_mul,Nat.add_assoc]
       ·rw[show b+ln+(cap-ln)=b+cap by omega];exact htot
    ·cases h
 ·cases h
end
section
variable {P:Program} {cx:Cx} {H:Hp} {ps:Ps} {nx:Nat} {w:World} {T:Nat->DV} {p:Bool} {a:Act}
structure iC (cx:Cx) (H:Hp) (ps:Ps) (nx:Nat) (w:World) (T:Nat->DV) (p:Bool) (a:Act):Prop where
 hr:HR H ps cx.M nx w
 fr:Fr cx.B cx.w0 w
 lb:∀o ck p,H o=some ck->ps o=some p->cx.B p.b\/cx.w0.heap.size<=p.b
 hp:p=true
 t:∀t,VR H ps cx.M nx w (T t) (a.tmps.getD t undef)
theorem iC.ro(k:iC cx H ps nx w T p a){x:Operand}{r:RO}(h:Pv.ro x=some r):VR H ps cx.M nx w (un p (r.get T)) (a.eval x):=Ea k.hp h k.t
theorem iC.val(k:iC cx H ps nx w T p a){s:Sem Value}{d:DV}{v:Value}(h:s.run P w=.ok v w)(hv:VR H ps cx.M nx w d v):
  eK P cx H ps nx w ((do Pure.pure (Next.value (<-s)):Sem Next).run P w) d .no:=eK.qG (B8.pure k.hr k.fr k.lb h hv)
theorem iC.va(k:iC cx H ps nx w T p a){P:Program}{t:TypeId}{z:List DV}(h:zeroOf P t=some z):∃i v,P.info? t=some i/\i.zero=some v/\v.cells.size=i.size/\z.length=i.size/\VA H ps cx.M nx w z v.cells:=by
 obtain⟨i,v,h1,h2,h3,h4,h5,h6⟩:=Il h;refine⟨i,v,h1,h2,h3,h4,by rw[h4,h3],fun j hj=>h6 j (by omega),fun j hj=>?_⟩;subst h5;exact PM v.cells j hj
theorem avh(k:iC cx H ps nx w T p a){e:TypeId}{x:Operand}{x':RO}{cs:List DV}(h1:Pv.ro x=some x')(h2:hJ (un p (x'.get T))=some cs):
  eK P cx H ps nx w ((do Pure.pure (Next.value (<-Instr.box e (a.eval x))):Sem Next).run P w) (.ptr nx 0 0 0) (.al ⟨0,cs.length,[cs]⟩):=by
 obtain⟨d1,d2,d3⟩:=OO h2 (k.ro h1);obtain⟨m1,m2⟩:=Mv.box cs (a.eval x).cells e k.hr k.fr k.lb d1 d2 d3;refine eK.qG ⟨_,_,_,?_,m2,m1⟩;simp only[Instr.box,newVar,Sem.run_bind,AM,Result.andThen_ok,Sem.run_pure]
theorem ahn(k:iC cx H ps nx w T p a){e:TypeId}{z:List DV}(h1:zeroOf P e=some z):
  eK P cx H ps nx w ((do Pure.pure (Next.value (<-Instr.alloc e true (.tuple #[]))):Sem Next).run P w) (.ptr nx 0 0 0) (.al ⟨0,z.length,[z]⟩):=by
 obtain⟨i,v,hi,hz,hs,hl,hva⟩:=k.va h1;obtain⟨m1,m2⟩:=Mv.box z v.cells e k.hr k.fr k.lb hva.l hva.o hva.r;refine eK.qG ⟨_,_,_,?_,m2,m1⟩;simp only[Instr.alloc,zeroValue,typeInfo,newVar,Sem.run_bind,run_program,Result.andThen_ok,hi,Sem.run_pure,hz,AM]
theorem aht(k:iC cx H ps nx w T p a){t:TypeId}{parts:Array (Nat×Operand)}{z cs:List DV}{rps:List (Nat×Nat×RO)}(h0:cH P false (.build t parts)=some (.build z rps))
  (h2:kK (fun x=>un p (x.get T)) z rps=some cs):
  eK P cx H ps nx w ((do Pure.pure (Next.value (<-Instr.build t (parts.map fun(i,x)=>(i,a.eval x)))):Sem Next).run P w) (.agg cs) .no:=by
 simp only[cH] at h0;cases hz:zeroOf P t with
 | none=>simp[hz] at h0
 | some z'=>
  obtain⟨i,v,hi,hzv,hs,hl,hva⟩:=k.va hz;have hpm:(parts.map fun(i,x)=>(i,a.eval x)).toList=parts.toList.map fun x=>(x.1,a.eval x.2):=by simp
  cases hu:P.underlying t with
  | none=>simp[hz,hu] at h0
  | some d=>
   cases d<;>simp only[hz,hu] at h0<;>try(cases h0;done)
   case array n e=>
    cases hie:P.info? e with
    | none=>simp[hie] at h0
    | some ie=>
     simp only[hie] at h0;cases hb:lY (fun i=>some (i*ie.size,ie.size)) parts.toList with
     | none=>simp only[hb,Option.map_none] at h0;cases h0
     | some r=>
      simp only[hb,Option.map_some,Option.some.injEq,cR.build.injEq] at h0;obtain⟨rfl,rfl⟩:=h0;obtain⟨out,ho,hov⟩:=GY k.hp k.t _ parts.toList r z' cs v.cells hb hva h2;refine k.val (run_build w t _ out ?_) hov.agg;simp only[Program.built,hi,hu,hzv,hie];rw[hpm];exact ho
   case struct fs=>
    cases hpl:fs.toList.mapM (fun f=>(P.info? f.type).map fun i=>(f.offset,i.size)) with
    | none=>simp[hpl] at h0
    | some places=>
     simp only[hpl] at h0;cases hb:lY (places.toArray[·]?) parts.toList with
     | none=>simp only[hb,Option.map_none] at h0;cases h0
     | some r=>
      simp only[hb,Option.map_some,Option.some.injEq,cR.build.injEq] at h0;obtain⟨rfl,rfl⟩:=h0;obtain⟨out,ho,hov⟩:=GY k.hp k.t _ parts.toList r z' cs v.cells hb hva h2;refine k.val (run_build w t _ out ?_) hov.agg;simp only[Program.built,hi,hu,hzv,hpl];rw[hpm];exact ho
theorem ams(k:iC cx H ps nx w T p a){t e:TypeId}{len n:Nat}{parts:Array (Nat×Operand)}{z:List DV}{rps:List (Nat×RO)}{xs:List (List DV)}(hu:P.underlying t=some (.slice e))
  (hz:zeroOf P e=some z) (hn:hO P e=some n) (h0:0<n) (hlen:len*n<=2 ^ 24) (hsp:tz parts.toList=some rps) (h:jE (fun x=>un p (x.get T)) n (List.replicate len z) rps=some xs) (ow:Bool):
  eK P cx H ps nx w ((do Pure.pure (Next.value (<-Instr.buildSlice t len (parts.map fun(i,x)=>(i,a.eval x)))):Sem Next).run P w) (if ow then .own nx 0 0 len else .ab true xs) (if ow then .al ⟨0,n,xs⟩ else .no):=by
 obtain⟨i,v,hi,hzv,hs,hl,hva⟩:=k.va hz;have hni:i.size=n:=by unfold hO at hn;simpa[hi] using hn
 have hzz:z=v.cells.toList.map kB:=by
  obtain⟨i',v',q1,q2,_,_,q5,_⟩:=Il hz;rw[hi] at q1;injection q1 with q1;subst q1;rw[hzv] at q2;injection q2 with q2;subst q2;exact q5
 have hrow:=Og (H:=H) (ps:=ps) (M:=cx.M) (nx:=nx) (w:=w) v n len (by omega) h0 (fun j hj=>by have:=hva.o j (by rw[<-hva.l];exact hj);exact this);rw[<-hzz] at hrow;have hzl:∀c∈List.replicate len z,c.length=n:=fun c hc=>by rw[List.eq_of_mem_replicate hc];omega
 obtain⟨k1,k2,k3⟩:=Wz (fun x=>un p (x.get T)) n rps (List.replicate len z) xs hzl h;obtain⟨out,ho,hov⟩:=GY k.hp k.t (fun i=>some (i*n,n)) parts.toList _ _ _ _ (RD n parts.toList rps hsp) hrow k3;have hxl:xs.length=len:=by rw[k2];simp
 have hfl:=hov.fl k1;have hpm:(parts.map fun(i,x)=>(i,a.eval x)).toList=parts.toList.map fun x=>(x.1,a.eval x.2):=by simp
 have hrun:(Instr.buildSlice t len (parts.map fun(i,x)=>(i,a.eval x))).run P w=.ok (.slice (some ⟨w.heap.size,0,none⟩) len len) (w.alloc (.cells out e)):=by
  have hcells:Instr.fill (fun i=>some (i*n,n)) ((Array.range (len*n)).map ((if len*n=0 then #[] else v.cells)[· % (if len*n=0 then #[] else v.cells).size]!)) (parts.toList.map fun x=>(x.1,a.eval x.2))=some out:=by
   by_cases hz0:len*n=0
   ·rw[if_pos hz0];rw[<-ho];congr 1;rw[hz0];simp
   ·rw[if_neg hz0];exact ho
  have hgt:¬(16777216<len*n):=by simpa using hlen
  simp only[Instr.buildSlice,Sem.run_bind,run_underlying hu,Result.andThen_ok,s6 hn];rw[if_neg (by simpa using hlen)];by_cases hz0:len*n=0
  ·simp only[hz0,if_true] at hcells ⊢;simp only[Sem.run_bind,Sem.run_pure,Result.andThen_ok];rw[hpm];simp only[hcells,Sem.run_bind,AM,Result.andThen_ok,Sem.run_pure]
  ·simp only[hz0,if_false] at hcells ⊢;simp only[Sem.run_bind,zeroValue,typeInfo,run_program,hi,hzv,Sem.run_pure,Result.andThen_ok];rw[hpm];simp only[hcells,Sem.run_bind,AM,Result.andThen_ok,Sem.run_pure]
 have hsz:out.size=len*n:=by rw[hov.l,(Es k1).1,hxl]
 cases ow with
 | true=>
  simp only[if_true];have hm:=Mv.al (cx:=cx) ⟨0,n,xs⟩ out e (fun i j=>out.toList.getD (i*n+j) undef) k.hr k.fr k.lb hfl.z (by simp only[hxl,hsz];exact Nat.le_refl _)
   (fun i j hi hj=>⟨(hfl.get hi hj).2,by have:=(hfl.get hi hj).1;simpa using this⟩) hfl.r
  refine eK.qG ⟨_,_,_,hrun,?_,hm⟩;refine .own _ _ _ _ _ (by simp[Up.nx]) ⟨_,_,rfl⟩ fun ck' hck'=>?_;simp only[Up.hp,Hp.b9,Option.some.injEq] at hck';subst hck';exact⟨Nat.le_refl _,fun _=>⟨by simp[hxl],_,_,rfl,Nat.le_refl _,.inr ⟨_,Ps.b9 ..,by simp,by simp[hsz]⟩⟩⟩
 | false=>
  simp only[Bool.false_eq_true,if_false];have hg:=eA.alloc w (.cells out e);refine eK.qG ⟨_,_,ps,hrun,?_,Mv.je k.hr k.fr k.lb hg⟩;by_cases hne:xs=[]
  ·subst hne;have:len=0:=by rw[<-hxl];rfl
   subst this;exact .fm true _ 0 fun _=>rfl
  ·have:=(hfl.mono (Kp.je hg)).PQ h0 hne w.heap.size len out e (by show(w.heap.push _)[w.heap.size]? =_;simp) (UM k.hr _ (Nat.le_refl _)) (by omega) true (fun _=>hxl.symm) (fun q v hq=>by simpa using hq);rw[hxl] at this;exact this
theorem adu(k:iC cx H ps nx w T p a){t:TypeId}{n:Nat}{x y:Operand}{x' y':RO}{u:Up}(hn:hO P t=some n)(h1:Pv.ro x=some x')(h2:Pv.ro y=some y')
  (h:nU H n (un p (x'.get T)) (un p (y'.get T))=some u):
  eK P cx H ps nx w ((do Instr.storeAt t (a.eval x) (a.eval y);Pure.pure Next.skip:Sem Next).run P w) (.v undef) u:=by
 have hx:=k.ro h1;have hy:=k.ro h2;unfold nU at h;split at h
 ·rename_i o g i off cs hda hdc;rw[hda] at hx;cases ho:H o with
  | none=>simp[ho] at h
  | some ck=>
   simp only[ho] at h;split at h
   ·rename_i hc;obtain⟨c1,c2,c3⟩:=hc;cases h;cases hx with
    | ptr _ _ _ _ _ h0 h1' hh=>
     obtain⟨_,hh⟩:=hh ck ho;obtain⟨hi,q,hq,hval⟩:=hh c1;have hgd:ck.xs.getD i []=ck.xs[i]:=by simp[List.getD,hi]
     rw[hgd] at c3;obtain⟨d1,d2,d3⟩:=OO hdc hy;have hgl:∀j,(a.eval y).cells.toList.getD j undef=(a.eval y).cells.getD j undef:=by intro j;simp[List.getD,Array.getD_eq_getD_getElem?]
     obtain⟨w',hrun,hmv⟩:=Mv.store (off:=off) (cs:=cs) (ns:=(a.eval y).cells.toList) k.hr k.fr k.lb ho hq hi (by omega) (by simp[d1]) (fun v hv=>by
      obtain⟨j,hj,rfl⟩:=List.mem_iff_getElem.1 hv;have hj':j<(a.eval y).cells.size:=by simpa using hj
      have:=d2 j (by rw[<-d1];exact hj');simpa[Array.getD,hj'] using this) (fun j hj=>by rw[hgl];exact d3 j hj)
     refine⟨.skip,undef,w',ps,?_,.inr ⟨rfl,rfl⟩,.v _,?_⟩
     ·simp only[Instr.storeAt,Instr.sureAddr,hval,Sem.run_bind,Sem.run_pure,Result.andThen_ok,storeVar,s6 hn];rw[if_neg (by simp[d1,c2])];rw[hrun];simp
     ·rw[hgd];exact hmv
   ·cases h
 ·cases h
theorem ann(k:iC cx H ps nx w T p a){t e:TypeId}{sz:Nat}{x y:Operand}{x' y':RO}{d:DV}{u:Up}(ht:P.underlying t=some (.slice e))(hn:hO P e=some sz)(h1:Pv.ro x=some x')(h2:Pv.ro y=some y')
  (h:ev (.cP sz x' y') p T H nx=some (d,u)):
  eK P cx H ps nx w ((do Pure.pure (Next.value (<-Instr.indexAt t (a.eval x) (a.eval y))):Sem Next).run P w) d u:=by
 have hx:=k.ro h1;have hy:=k.ro h2;simp only[ev] at h;split at h
 ·rename_i full xs kk n hdx hdy;rw[hdx] at hx;rw[hdy] at hy;split at h
  ·rename_i hc;obtain⟨c1,c2,c3⟩:=hc;injection h with h;injection h with e1 e2;subst e1;subst e2
   obtain⟨m,rfl⟩:=Int.eq_ofNat_of_zero_le c1;simp only[Int.toNat_natCast] at c3 ⊢;have hm:m<xs.length:=by omega
   have hgd:xs.getD m []=xs[m]:=by simp[List.getD,hm]
   rw[hgd] at c3 ⊢;have hye:=hy.e9;generalize a.eval x=vx at hx;cases hx with
   | fm _ a0 cap hf=>simp at hm
   | ab _ _ b off cap sz' vs hne hs' hcap hf hM hz h1' hcc hv=>
    have hsz:sz'=sz:=by rw[<-hz m hm];exact c3
    subst hsz;refine k.val (v:=.pointer (some ⟨b,off+m*sz',none⟩)) ?_ ?_
    ·simp only[Instr.indexAt,hye,asIntOf,Sem.run_bind,Sem.run_pure,Result.andThen_ok,run_underlying ht];rw[if_pos ⟨Int.natCast_nonneg m,by omega⟩];simp[s6 hn,Addr.nZ]
    ·refine .rp _ b (off+m*sz') (fun j=>vs m j) (fun _=>hM) (fun j hj=>h1' m j hm (by rw[hz m hm] at hj;exact hj)) (fun j hj=>?_) (fun j hj=>hv m j hm hj);have:=hcc m j hm (by rw[hz m hm] at hj;exact hj);rwa [<-Nat.add_assoc] at this
  ·cases h
 ·rename_i o g lo kk k' n hdx hdy;rw[hdx] at hx;rw[hdy] at hy;cases ho:H o with
  | none=>simp[ho] at h
  | some ck=>
   simp only[ho] at h;split at h
   ·rename_i hc;obtain⟨c1,c2,c3,c4⟩:=hc;injection h with h;injection h with e1 e2;subst e1;subst e2
    obtain⟨m,rfl⟩:=Int.eq_ofNat_of_zero_le c3;simp only[Int.toNat_natCast];have hye:=hy.e9;obtain⟨ck',ho',hg',hlen,aa,cap,hval,hnc,hpl⟩:=hx.Wp (by simp[live,ho,c1]);rw[ho] at ho';injection ho' with ho';subst ho'
    rcases hpl with hpl | ⟨q,hq,rfl,htot⟩
    ·omega
    ·refine k.val (v:=.pointer (some ⟨q.b,q.k+(lo+m)*ck.sz,none⟩)) ?_ ?_
     ·simp only[Instr.indexAt,hye,hval,asIntOf,Sem.run_bind,Sem.run_pure,Result.andThen_ok,run_underlying ht];rw[if_pos ⟨Int.natCast_nonneg m,by omega⟩];simp[s6 hn,Addr.nZ,<-c2,Nat.add_mul,Nat.add_assoc]
     ·refine .ptr _ _ _ _ _ (k.hr.lt o ck ho) rfl fun ck' hck'=>?_;rw[ho] at hck';injection hck' with hck';subst hck'
      exact⟨by omega,fun _=>⟨by omega,q,hq,by simp⟩⟩
   ·cases h
 ·cases h
end
end Go.Pv
