/- Resolved operations (ROp), what they do on plain data (ev), and that the model's operations do the same (ev_sound). No condition of its own: definitions and lemmas over any program. -/
import Derived.Test.YtiemlgicaibccaaPvA
import Derived.Laws.StructEq
import Derived.Laws.Small
import Derived.Laws.Entries
import Derived.Laws.MakeOwn
set_option linter.all false
namespace Go.Pv
open Go.RowKit
inductive RO where
 | t (n : Nat)
 | c (d : DV)
def RO.get (T : Nat → DV) : RO → DV
 | .t n => T n
 | .c d => d
inductive ROp where
 | mov (x : RO)
 | pick (c a b : RO)
 | box (x : RO)
 | alloc (z : List DV)
 | build (z : List DV) (ps : List (Nat × Nat × RO))
 | bslice (ow : Bool) (sz : Nat) (z : List DV) (len : Nat) (ps : List (Nat × RO))
 | load (ag : Bool) (n : Nat) (a : RO)
 | store (n : Nat) (a x : RO)
 | nilck (x : RO)
 | bin (op : BinOp) (x y : RO)
 | eqa (neg : Bool) (offs : List (Nat × Nat)) (x y : RO)
 | beq (neg : Bool) (x y : RO)
 | isn (neg : Bool) (x : RO)
 | un (op : UnOp) (x : RO)
 | conv (k : IntKind) (x : RO)
 | s2b (x : RO)
 | b2s (x : RO)
 | fadr (off : Nat) (x : RO)
 | fld (ag : Bool) (n off : Nat) (x : RO)
 | iadrS (sz : Nat) (x i : RO)
 | iadrA (sz len : Nat) (x i : RO)
 | idxA (ag : Bool) (sz len : Nat) (x i : RO)
 | slc (sz : Nat) (x : RO) (lo hi : Option RO)
 | mksl (sz bytes : Nat) (z : List DV) (len cap : RO)
 | len (x : RO)
 | lens (x : RO)
 | sidx (x i : RO)
 | sslc (x : RO) (lo hi : Option RO)
 | lenA (n : Nat)
 | mm (mx : Bool) (xs : List RO)
 | app (sz bytes : Nat) (s x : RO)
 | clr (sz : Nat) (z : List DV) (x : RO)
 | extr (i : Nat) (x : RO)
 | mkfn (f : FuncId) (cs : List RO)
 | call (f : RO) (xs : List RO)
inductive Up where
 | no
 | wr (o : Nat) (ck : Ck)
 | al (ck : Ck)
def Up.hp (H : Hp) (nx : Nat) : Up → Hp
 | .no => H
 | .wr o ck => H.put o (some ck)
 | .al ck => H.put nx (some ck)
def Up.nx (nx : Nat) : Up → Nat
 | .al _ => nx + 1
 | _ => nx
def dcells : DV → Option (List DV)
 | .agg cs => some cs
 | .v x => if x.oneCell' = true then some [.v x] else none
 | .ptr o g i f => some [.ptr o g i f]
 | .own o g l n => some [.own o g l n]
 | .lst f xs => some [.lst f xs]
 | .rp cs => some [.rp cs]
 | .fn f cs => some [.fn f cs]
 | _ => none
abbrev I (n : Int) : DV := .v (.int .i64 n)
abbrev B (b : Bool) : DV := .v (.bool b)
def un (p : Bool) : DV → DV
 | .gd q d => if (!p || q) = true then d else .any
 | d => d
def binI (op : BinOp) (k : IntKind) (a b : Int) : Option DV :=
 match op with
 | .add => some (.v (.int k (k.wrap (a + b))))
 | .sub => some (.v (.int k (k.wrap (a - b))))
 | .mul => some (.v (.int k (k.wrap (a * b))))
 | .quo => if b = 0 then none else some (.v (.int k (k.wrap (a.tdiv b))))
 | .rem => if b = 0 then none else some (.v (.int k (a.tmod b)))
 | .eql => some (.v (.bool (a == b)))
 | .neq => some (.v (.bool (a != b)))
 | .lss => some (.v (.bool (decide (a < b))))
 | .leq => some (.v (.bool (decide (a ≤ b))))
 | .gtr => some (.v (.bool (decide (a > b))))
 | .geq => some (.v (.bool (decide (a ≥ b))))
 | .and => some (.v (.int k (k.wrap (BitVec.ofInt k.bits a &&& BitVec.ofInt k.bits b).toNat)))
 | .or => some (.v (.int k (k.wrap (BitVec.ofInt k.bits a ||| BitVec.ofInt k.bits b).toNat)))
 | .xor => some (.v (.int k (k.wrap (BitVec.ofInt k.bits a ^^^ BitVec.ofInt k.bits b).toNat)))
 | _ => none
def shfV (op : BinOp) (k : IntKind) (a b : Int) : Option DV :=
 if b < 0 then none else
 match op with
 | .shl => some (.v (.int k (k.wrap (a * 2 ^ (min b.toNat k.bits)))))
 | .shr => some (.v (.int k (a.fdiv (2 ^ (min b.toNat k.bits)))))
 | _ => none
def isShf : BinOp → Bool
 | .shl | .shr => true
 | _ => false
def bl (s : ByteArray) : List UInt8 := s.data.toList
def mkS (l : List UInt8) : ByteArray := ⟨⟨l⟩⟩
theorem bl_mkS (l : List UInt8) : bl (mkS l) = l := rfl
def strV (op : BinOp) (a b : ByteArray) : Option DV :=
 match op with
 | .add => if (bl a).length + (bl b).length ≤ 9223372036854775807 then some (.v (.string (mkS (bl a ++ bl b)))) else none
 | .eql => some (.v (.bool (bl a == bl b)))
 | .neq => some (.v (.bool (!(bl a == bl b))))
 | _ => none
def isnV (neg : Bool) : DV → Option DV
 | .v .nilIface => some (.v (.bool (!neg)))
 | .nn => some (.v (.bool neg))
 | _ => none
def binV (op : BinOp) : DV → DV → Option DV
 | .v (.string a), .v (.string b) => strV op a b
 | .v (.int k a), .v (.int k' b) => if isShf op = true then shfV op k a b else if k = k' then binI op k a b else none
 | _, _ => none
def beqV (neg : Bool) : DV → DV → Option DV
 | .v (.bool a), .v (.bool b) => some (.v (.bool ((a == b) != neg)))
 | _, _ => none
def pickU (q : Bool) : DV → DV → Option DV
 | .v (.bool x), .v (.bool y) => some (.v (.bool (cond q x y)))
 | .v (.bool x), _ => if q = true then some (.v (.bool x)) else none
 | _, .v (.bool y) => if q = true then none else some (.v (.bool y))
 | _, _ => none
def pickV (p : Bool) (c a b : DV) : Option DV :=
 match un p c with
 | .v (.bool q) => pickU q (un (p && q) a) (un (p && !q) b)
 | _ => none
def cellEq : Nat → DV → DV → Option Bool
 | 1, .v (.int k a), .v (.int k' b) => if k = k' then some (a == b) else none
 | 0, .v (.bool a), .v (.bool b) => some (a == b)
 | 2, .v (.string a), .v (.string b) => some (a == b)
 | _, _, _ => none
def cellsEq (xs ys : List DV) : List (Nat × Nat) → Option Bool
 | [] => some true
 | o :: r => match cellEq o.2 (xs.getD o.1 .any) (ys.getD o.1 .any), cellsEq xs ys r with
  | some a, some b => some (a && b)
  | _, _ => none
def putCells (cs : List DV) (off : Nat) (news : List DV) : List DV := cs.take off ++ news ++ cs.drop (off + news.length)
def fillP (ρ : RO → DV) : List DV → List (Nat × Nat × RO) → Option (List DV)
 | z, [] => some z
 | z, (off, n, x) :: r => match dcells (ρ x) with
  | some cs => if cs.length = n ∧ off + n ≤ z.length then fillP ρ (putCells z off cs) r else none
  | none => none
def mm2 (mx : Bool) : DV → DV → Option DV
 | .v (.int k a), .v (.int _ b) => some (.v (.int k (if mx then (if a < b then b else a) else (if b < a then b else a))))
 | _, _ => none
def mmL (mx : Bool) : DV → List DV → Option DV
 | d, [] => match d with | .v (.int k a) => some (.v (.int k a)) | _ => none
 | d, e :: r => match mm2 mx d e with
  | some x => mmL mx x r
  | none => none
def loadV (H : Hp) (ag : Bool) (n : Nat) : DV → Option DV
 | .ptr o g i off => match H o with
  | some ck => if ck.gen = g ∧ off + n ≤ (ck.xs.getD i []).length then (if ag then some (.agg (((ck.xs.getD i []).drop off).take n)) else if n = 1 then ((ck.xs.getD i []).drop off).head? else none) else none
  | none => none
 | .rp cs => if n ≤ cs.length then (if ag then some (.agg (cs.take n)) else if n = 1 then cs.head? else none) else none
 | _ => none
def storeV (H : Hp) (n : Nat) (a x : DV) : Option Up :=
 match a, dcells x with
 | .ptr o g i off, some cs => match H o with
  | some ck => if ck.gen = g ∧ cs.length = n ∧ off + n ≤ (ck.xs.getD i []).length then some (.wr o { ck with xs := ck.xs.set i (putCells (ck.xs.getD i []) off cs) }) else none
  | none => none
 | _, _ => none
def bslP (ρ : RO → DV) (sz : Nat) : List (List DV) → List (Nat × RO) → Option (List (List DV))
 | xs, [] => some xs
 | xs, (i, x) :: r => match dcells (ρ x) with
  | some cs => if cs.length = sz ∧ i < xs.length then bslP ρ sz (xs.set i cs) r else none
  | none => none
def unV (op : UnOp) : DV → Option DV
 | .v (.int k n) => match op with
  | .neg => some (.v (.int k (k.wrap (0 - n))))
  | _ => none
 | .v (.bool b) => match op with
  | .not => some (.v (.bool (!b)))
  | _ => none
 | _ => none
def bndV (d : Nat) : Option DV → Option Int
 | none => some d
 | some (.v (.int _ n)) => some n
 | _ => none
def live (H : Hp) (o g : Nat) : Bool := match H o with
 | some ck => ck.gen == g
 | none => false
def ownSz (H : Hp) (o g sz : Nat) : Bool := match H o with
 | some ck => ck.gen == g && ck.sz == sz
 | none => false
def slcV (H : Hp) (sz : Nat) (x : DV) (lo hi : Option DV) : Option DV :=
 match x with
 | .lst f xs => match bndV 0 lo, bndV xs.length hi with
  | some l, some h => if 0 ≤ l ∧ l ≤ h ∧ h ≤ xs.length ∧ (l = 0 ∨ xs.all (fun c => c.length == sz) = true) then some (.lst (f && decide (h = xs.length)) ((xs.drop l.toNat).take (h.toNat - l.toNat))) else none
  | _, _ => none
 | .own o g b n => match bndV 0 lo, bndV n hi with
  | some l, some h => if ownSz H o g sz = true ∧ 0 ≤ l ∧ l ≤ h ∧ h ≤ n then some (.own o g (b + l.toNat) (h.toNat - l.toNat)) else none
  | _, _ => none
 | _ => none
def elemsV (H : Hp) : DV → Option (List (List DV))
 | .lst _ xs => some xs
 | .own o g b n => match H o with
  | some ck => if ck.gen = g then some ((ck.xs.drop b).take n) else none
  | none => none
 | _ => none
def appV (H : Hp) (sz bytes : Nat) (s x : DV) : Option (DV × Up) :=
 match elemsV H x with
 | none => none
 | some news =>
  if news.all (fun c => c.length == sz) then
   match s with
   | .lst true xs =>
    if xs.all (fun c => c.length == sz) ∧ (xs.length + news.length) * bytes ≤ 140737488355328 ∧ xs.length + news.length ≤ 9223372036854775807 then
     some (.lst false (xs ++ news), .no) else none
   | .own o g b n => match H o with
    | some ck => if ck.gen = g ∧ ck.sz = sz ∧ (n + news.length) * bytes ≤ 140737488355328 ∧ n + news.length ≤ 9223372036854775807 then
      some (.own o (g + 1) 0 (n + news.length), .wr o ⟨g + 1, sz, (ck.xs.drop b).take n ++ news⟩) else none
    | none => none
   | _ => none
  else none
def fillR (xs : List (List DV)) (lo : Nat) (rows : List (List DV)) : List (List DV) := xs.take lo ++ rows ++ xs.drop (lo + rows.length)
def clrV (H : Hp) (sz : Nat) (z : List DV) : DV → Option Up
 | .own o g lo n => match H o with
  | some ck => if ck.gen = g ∧ ck.sz = sz ∧ lo + n ≤ ck.xs.length then some (.wr o ⟨ck.gen, ck.sz, fillR ck.xs lo (List.replicate n z)⟩) else none
  | none => none
 | _ => none
def lenV (H : Hp) : DV → Option DV
 | .lst _ xs => some (I xs.length)
 | .own _ _ _ n => some (I n)
 | _ => none
def lensV : DV → Option DV
 | .v (.string s) => some (I s.size)
 | _ => none
def sidxV : DV → DV → Option DV
 | .v (.string s), .v (.int _ n) => if 0 ≤ n ∧ n < (bl s).length then some (.v (.int .u8 ((bl s).getD n.toNat 0).toNat)) else none
 | _, _ => none
def sslcV (x : DV) (lo hi : Option DV) : Option DV :=
 match x with
 | .v (.string s) => match bndV 0 lo, bndV (bl s).length hi with
  | some l, some h => if 0 ≤ l ∧ l ≤ h ∧ h ≤ (bl s).length then some (.v (.string (mkS (((bl s).drop l.toNat).take (h.toNat - l.toNat))))) else none
  | _, _ => none
 | _ => none
def byRow (b : UInt8) : List DV := [.v (.int .u8 b.toNat)]
def rowBy : List DV → Option UInt8
 | [.v (.int .u8 n)] => some (UInt8.ofNat n.toNat)
 | _ => none
def rowsBy : List (List DV) → Option (List UInt8)
 | [] => some []
 | r :: l => match rowBy r, rowsBy l with
  | some b, some bs => some (b :: bs)
  | _, _ => none
def ev (op : ROp) (p : Bool) (T : Nat → DV) (H : Hp) (nx : Nat) : Option (DV × Up) :=
 let ρ := fun x : RO => un p (x.get T)
 match op with
 | .mov x => some (ρ x, .no)
 | .pick c a b => (pickV p (c.get T) (a.get T) (b.get T)).map (·, .no)
 | .box x => (dcells (ρ x)).map fun cs => (.ptr nx 0 0 0, .al ⟨0, cs.length, [cs]⟩)
 | .alloc z => some (.ptr nx 0 0 0, .al ⟨0, z.length, [z]⟩)
 | .build z ps => (fillP ρ z ps).map fun cs => (.agg cs, .no)
 | .bslice ow sz z len ps => (bslP ρ sz (List.replicate len z) ps).map fun xs => if ow then (.own nx 0 0 len, .al ⟨0, sz, xs⟩) else (.lst true xs, .no)
 | .load ag n a => (loadV H ag n (ρ a)).map (·, .no)
 | .store n a x => (storeV H n (ρ a) (ρ x)).map (.v undef, ·)
 | .nilck x => match ρ x with
  | .ptr o g i f => if live H o g = true then some (.ptr o g i f, .no) else none
  | .rp cs => some (.rp cs, .no)
  | .fn f cs => some (.fn f cs, .no)
  | _ => none
 | .bin op x y => (binV op (ρ x) (ρ y)).map (·, .no)
 | .eqa neg offs x y => match ρ x, ρ y with
  | .agg xs, .agg ys => (cellsEq xs ys offs).map fun b => (.v (.bool (b != neg)), .no)
  | _, _ => none
 | .beq neg x y => (beqV neg (ρ x) (ρ y)).map (·, .no)
 | .isn neg x => (isnV neg (ρ x)).map (·, .no)
 | .un op x => (unV op (ρ x)).map (·, .no)
 | .conv k x => match ρ x with
  | .v (.int _ n) => some (.v (.int k (k.wrap n)), .no)
  | _ => none
 | .s2b x => match ρ x with
  | .v (.string s) => some (.own nx 0 0 (bl s).length, .al ⟨0, 1, (bl s).map byRow⟩)
  | _ => none
 | .b2s x => match elemsV H (ρ x) with
  | some rows => (rowsBy rows).map fun bs => (.v (.string (mkS bs)), .no)
  | none => none
 | .fadr off x => match ρ x with
  | .ptr o g i f => if live H o g = true then some (.ptr o g i (f + off), .no) else none
  | .rp cs => some (.rp (cs.drop off), .no)
  | _ => none
 | .fld ag n off x => match ρ x with
  | .agg cs => if off + n ≤ cs.length then (if ag then some (.agg ((cs.drop off).take n), .no) else ((cs.drop off).head?).map (·, .no)) else none
  | _ => none
 | .iadrS sz x i => match ρ x, ρ i with
  | .lst _ xs, .v (.int _ n) => if 0 ≤ n ∧ n < xs.length ∧ (xs.getD n.toNat []).length = sz then some (.rp (xs.getD n.toNat []), .no) else none
  | .own o g lo k, .v (.int _ n) => match H o with
   | some ck => if ck.gen = g ∧ ck.sz = sz ∧ 0 ≤ n ∧ n < k then some (.ptr o g (lo + n.toNat) 0, .no) else none
   | none => none
  | _, _ => none
 | .iadrA sz len x i => match ρ x, ρ i with
  | .ptr o g j f, .v (.int _ n) => if live H o g = true ∧ 0 ≤ n ∧ n < len then some (.ptr o g j (f + n.toNat * sz), .no) else none
  | .rp cs, .v (.int _ n) => if 0 ≤ n ∧ n < len then some (.rp (cs.drop (n.toNat * sz)), .no) else none
  | _, _ => none
 | .idxA ag sz len x i => match ρ x, ρ i with
  | .agg cs, .v (.int _ n) => if 0 ≤ n ∧ n < len ∧ n.toNat * sz + sz ≤ cs.length then (if ag then some (.agg ((cs.drop (n.toNat * sz)).take sz), .no) else ((cs.drop (n.toNat * sz)).head?).map (·, .no)) else none
  | _, _ => none
 | .slc sz x lo hi => (slcV H sz (ρ x) (lo.map ρ) (hi.map ρ)).map (·, .no)
 | .mksl sz bytes z len cap => match ρ len, ρ cap with
  | .v (.int .i64 l), .v (.int .i64 c) => if 0 ≤ l ∧ l ≤ c ∧ bytes * c ≤ 140737488355328 ∧ c ≤ 140737488355328 then some (.own nx 0 0 l.toNat, .al ⟨0, sz, List.replicate l.toNat z⟩) else none
  | _, _ => none
 | .len x => (lenV H (ρ x)).map (·, .no)
 | .lens x => (lensV (ρ x)).map (·, .no)
 | .sidx x i => (sidxV (ρ x) (ρ i)).map (·, .no)
 | .sslc x lo hi => (sslcV (ρ x) (lo.map ρ) (hi.map ρ)).map (·, .no)
 | .lenA n => some (I n, .no)
 | .mm mx xs => match xs.map ρ with
  | d :: r => (mmL mx d r).map (·, .no)
  | [] => none
 | .app sz bytes s x => appV H sz bytes (ρ s) (ρ x)
 | .clr sz z x => (clrV H sz z (ρ x)).map (.v (.tuple #[]), ·)
 | .extr i x => match ρ x with
  | .tup vs => (vs[i]?).map (·, .no)
  | _ => none
 | .mkfn f cs => some (.fn f (cs.map ρ), .no)
 | .call .. => none
def DV.ids : DV → List Nat
 | .ptr o .. | .own o .. => [o]
 | _ => []
def rds (op : ROp) (p : Bool) (T : Nat → DV) : List Nat :=
 let ρ := fun x : RO => un p (x.get T)
 match op with
 | .load _ _ a => (ρ a).ids
 | .store _ a _ => (ρ a).ids
 | .iadrS _ x _ => (ρ x).ids
 | .app _ _ s x => (ρ s).ids ++ (ρ x).ids
 | .nilck x | .fadr _ x | .iadrA _ _ x _ | .slc _ x _ _ | .len x | .b2s x | .clr _ _ x => (ρ x).ids
 | _ => []
def isNilSlice : Value → Bool
 | .slice none l c => l == 0 && c == 0
 | _ => false
def fnOf : Value → Option FuncId
 | .func (.func f) a b => if a.size = 0 ∧ b.size = 0 then some f else none
 | _ => none
def ofC (x : Value) : DV :=
 if isNilSlice x = true then .lst true [] else
 match fnOf x with
 | some f => .fn f []
 | none => .v x
def cellsOk (cs : Array Value) : Bool := cs.toList.all Value.oneCell'
def ofV : Value → Option DV
 | .agg cs => if cellsOk cs then some (.agg (cs.toList.map ofC)) else none
 | .tuple _ => none
 | x => some (ofC x)
def ro : Operand → Option RO
 | .tmp t => some (.t t)
 | .const v => (ofV v).map .c
 | .global _ => none
 | .func f => some (.c (.fn f []))
def zeroOf (P : Program) (t : TypeId) : Option (List DV) :=
 match P.info? t with
 | some i => match i.zero with
  | some z => if cellsOk z.cells && z.cells.size == i.size then some (z.cells.toList.map ofC) else none
  | none => none
 | none => none
def sizeT (P : Program) (t : TypeId) : Option Nat := (P.info? t).map (·.size)
def aggT (P : Program) (t : TypeId) : Option Bool :=
 match P.underlying t with
 | some (.struct _) | some (.array _ _) => some true
 | some _ => some false
 | none => none
def ros : List Operand → Option (List RO)
 | [] => some []
 | x :: r => match ro x, ros r with
  | some a, some b => some (a :: b)
  | _, _ => none
def bparts (f : Nat → Option (Nat × Nat)) : List (Nat × Operand) → Option (List (Nat × Nat × RO))
 | [] => some []
 | (i, x) :: r => match f i, ro x, bparts f r with
  | some (o, n), some x, some r => some ((o, n, x) :: r)
  | _, _, _ => none
def sparts : List (Nat × Operand) → Option (List (Nat × RO))
 | [] => some []
 | (i, x) :: r => match ro x, sparts r with
  | some x, some r => some ((i, x) :: r)
  | _, _ => none
def flat (P : Program) : Nat → TypeId → Option (List (Nat × Nat))
 | 0, _ => none
 | d + 1, t =>
  match P.underlying t with
  | some .bool => some [(0, 0)]
  | some (.int _) => some [(0, 1)]
  | some .string => some [(0, 2)]
  | some (.struct fs) => if P.stoodInHeld t = true then none else
   fs.toList.foldr (fun (f : Field) acc => match acc with
    | none => none
    | some r => if f.name = "_" then none else match flat P d f.type, sizeT P f.type with
     | some l, some n => if l.all (fun x => decide (x.1 < n)) = true then some (l.map (fun x => (f.offset + x.1, x.2)) ++ r) else none
     | _, _ => none) (some [])
  | _ => none
def isNilC : Operand → Bool
 | .const .nilIface => true
 | _ => false
def isU8 : Option TypeDesc → Bool
 | some (.int .u8) => true
 | _ => false
theorem isU8_eq {d : Option TypeDesc} (h : isU8 d = true) : d = some (.int .u8) := by
 unfold isU8 at h
 split at h
 ·rfl
 ·cases h
def rop (P : Program) (ow : Bool) : Op → Option ROp
 | .move x | .assign x => (ro x).map .mov
 | .pick c a b => match ro c, ro a, ro b with
  | some c, some a, some b => some (.pick c a b)
  | _, _, _ => none
 | .alloc e => (zeroOf P e).map .alloc
 | .box _ x => (ro x).map .box
 | .build t ps => match zeroOf P t, P.underlying t with
  | some z, some (.struct fs) => match fs.toList.mapM (fun f => (P.info? f.type).map fun i => (f.offset, i.size)) with
   | some places => (bparts (places.toArray[·]?) ps.toList).map (.build z)
   | none => none
  | some z, some (.array _ e) => match P.info? e with
   | some ie => (bparts (fun i => some (i * ie.size, ie.size)) ps.toList).map (.build z)
   | none => none
  | _, _ => none
 | .buildSlice t len ps => match P.underlying t with
  | some (.slice e) => match zeroOf P e, sizeT P e with
   | some z, some n => if 0 < n ∧ len * n ≤ 2 ^ 24 then (sparts ps.toList).map (.bslice ow n z len) else none
   | _, _ => none
  | _ => none
 | .load t a => match aggT P t, sizeT P t, ro a with
  | some ag, some n, some a => if ag || n == 1 then some (.load ag n a) else none
  | _, _, _ => none
 | .store t a x => match sizeT P t, ro a, ro x with
  | some n, some a, some x => some (.store n a x)
  | _, _, _ => none
 | .nilCheck x => (ro x).map .nilck
 | .binOp op t x y0 _ => match ro x, ro y0 with
  | some x, some y => match P.underlying t with
   | some (.struct _) => match op, flat P 20 t with
    | .eql, some offs => if P.eqGuardType P.depth t then none else some (.eqa false offs x y)
    | .neq, some offs => if P.eqGuardType P.depth t then none else some (.eqa true offs x y)
    | _, _ => none
   | some .bool => match op with
    | .eql => some (.beq false x y)
    | .neq => some (.beq true x y)
    | _ => none
   | some (.interface _) => match op with
    | .eql => if isNilC y0 = true then some (.isn false x) else none
    | .neq => if isNilC y0 = true then some (.isn true x) else none
    | _ => none
   | _ => some (.bin op x y)
  | _, _ => none
 | .unOp op _ x => (ro x).map (.un op)
 | .convert src dst x => match P.underlying dst, ro x, P.underlying src with
  | some (.int k), some x, some _ => some (.conv k x)
  | some (.slice e), some x, some .string => if isU8 (P.underlying e) = true then some (.s2b x) else none
  | some .string, some x, some (.slice e) => if isU8 (P.underlying e) = true then some (.b2s x) else none
  | _, _, _ => none
 | .fieldAddr s x f => match P.underlying s, ro x with
  | some (.struct fs), some x => match fs[f]? with
   | some f => match sizeT P f.type with
    | some n => if 0 < n then some (.fadr f.offset x) else none
    | none => none
   | none => none
  | _, _ => none
 | .field t x f => match P.underlying t, ro x with
  | some (.struct fs), some x => match fs[f]? with
   | some f => match aggT P f.type, sizeT P f.type with
    | some ag, some n => if ag || n == 1 then some (.fld ag n f.offset x) else none
    | _, _ => none
   | none => none
  | _, _ => none
 | .indexAddr t x i => match P.underlying t, ro x, ro i with
  | some (.slice e), some x, some i => match sizeT P e with
   | some n => some (.iadrS n x i)
   | none => none
  | some (.array len e), some x, some i => match sizeT P e with
   | some n => some (.iadrA n len x i)
   | none => none
  | _, _, _ => none
 | .index t x i => match P.underlying t, ro x, ro i with
  | some (.array len e), some x, some i => match aggT P e, sizeT P e with
   | some ag, some n => if ag || n == 1 then some (.idxA ag n len x i) else none
   | _, _ => none
  | some .string, some x, some i => some (.sidx x i)
  | _, _, _ => none
 | .slice t x lo hi none => match P.underlying t, ro x with
  | some (.slice e), some x => match sizeT P e with
   | some n => match lo with
    | none => match hi with
     | none => some (.slc n x none none)
     | some h => (ro h).map fun h => .slc n x none (some h)
    | some l => match hi with
     | none => (ro l).map fun l => .slc n x (some l) none
     | some h => match ro l, ro h with
      | some l, some h => some (.slc n x (some l) (some h))
      | _, _ => none
   | none => none
  | some .string, some x => match lo with
    | none => match hi with
     | none => some (.sslc x none none)
     | some h => (ro h).map fun h => .sslc x none (some h)
    | some l => match hi with
     | none => (ro l).map fun l => .sslc x (some l) none
     | some h => match ro l, ro h with
      | some l, some h => some (.sslc x (some l) (some h))
      | _, _ => none
  | _, _ => none
 | .makeSlice t l c => match P.underlying t, ro l, ro c with
  | some (.slice e), some l, some c => match P.info? e, zeroOf P e with
   | some i, some z => if 0 < i.size then some (.mksl i.size i.bytes z l c) else none
   | _, _ => none
  | _, _, _ => none
 | .extract x i => (ro x).map (.extr i)
 | .makeFunc (.func f) first captured => if first.size = 0 then (ros captured.toList).map (.mkfn f) else none
 | .call { callee := .builtin .len, args, argTypes } => match args.toList, argTypes.toList with
  | [x], [t] => match P.underlying t with
   | some (.array n _) => some (.lenA n)
   | some (.slice _) => (ro x).map .len
   | some .string => (ro x).map .lens
   | _ => none
  | _, _ => none
 | .call { callee := .builtin .append, args, argTypes } => match args.toList, argTypes.toList with
  | [s, x], [t, u] => if t = u then match P.underlying t with
   | some (.slice e) => match P.info? e, zeroOf P e, ro s, ro x with
    | some i, some _, some s, some x => if 0 < i.size then some (.app i.size i.bytes s x) else none
    | _, _, _, _ => none
   | _ => none
   else none
  | _, _ => none
 | .call { callee := .builtin .clear, args, argTypes } => match args.toList, argTypes.toList with
  | [x], [t] => match P.underlying t with
   | some (.slice e) => match P.info? e, zeroOf P e, ro x with
    | some i, some z, some x => if 0 < i.size then some (.clr i.size z x) else none
    | _, _, _ => none
   | _ => none
  | _, _ => none
 | .call { callee := .builtin .max, args, .. } => (ros args.toList).map (.mm true)
 | .call { callee := .builtin .min, args, .. } => (ros args.toList).map (.mm false)
 | .call { callee := .value f, args, .. } => match ro f, ros args.toList with
  | some f, some xs => some (.call f xs)
  | _, _ => none
 | _ => none
end Go.Pv
