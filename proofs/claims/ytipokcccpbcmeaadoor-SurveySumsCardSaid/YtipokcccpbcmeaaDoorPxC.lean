/- Operations of the walk in continuation style (evI), and that each is a step of the layer. No condition of its own: over any program. -/
import Derived.Test.YtipokcccpbcmeaaDoorPxB
set_option linter.all false
namespace Go.Pv
open Go.RowKit

/-- A branch of a walk. -/
def brB {α : Type} (b : Bool) (x y : α) : α := match b with
  | true => x
  | false => y
/-- What is noted beside an operation: a type, a chunk that waits. -/
structure An where
  t : GT := .unit
  o : Option Nat := none
  gs : List Nat := []

/-- Numbers as int64 holds them. -/
abbrev W (n : Int) : Int := IntKind.i64.wrap n
def fitsB (n bytes : Nat) : Bool := decide (n * bytes ≤ 140737488355328 ∧ n ≤ 9223372036854775807)
def inB (n : Int) (len : Nat) : Bool := decide (0 ≤ n ∧ n < len)
/-- A note that an append to this chunk is frozen at once. -/
def selfO (a : Option Nat) (o : Nat) : Bool := match a with
  | some q => Nat.beq q o
  | none => false
def slB (l h : Int) (len : Nat) : Bool := decide (0 ≤ l ∧ l ≤ h ∧ h ≤ len)
def mkB (bytes : Nat) (l c : Int) : Bool := decide (0 ≤ l ∧ l ≤ c ∧ bytes * c ≤ 140737488355328 ∧ c ≤ 140737488355328)

def bnd0 : Option IV → Option (Option Int)
  | none => some none
  | some (.int _ n) => some (some n)
  | _ => none
def boD (d : Int) : Option Int → Int
  | none => d
  | some n => n
def cutL {α : Type} (as : List α) : Option Int → Option Int → List α
  | none, none => as
  | some l, none => as.drop l.toNat
  | none, some h => as.take h.toNat
  | some l, some h => (as.drop l.toNat).take (h.toNat - l.toNat)

def mmI (mx : Bool) : IV → List IV → Option IV
  | .int k a, [] => some (.int k a)
  | .int k a, .int _ b :: r => mmI mx (.int k (cond mx (max a b) (min a b))) r
  | _, _ => none

/-- Typed elements of a slice that are read: their type, the elements, the chunk that is looked at. -/
def elems (H : IH) (t : GT) : IV → Option (List (El t) × List Nat)
  | .nil => some ([], [])
  | .lst _ t' as => match castL t' t as with
    | some l => some (l, [])
    | none => none
  | .whole o => match getH H o with
    | some (.arr t' as) => match castL t' t as with
      | some l => some (l, [o])
      | none => none
    | _ => none
  | .part o lo n => match getH H o with
    | some (.arr t' as) => match castL t' t as with
      | some l => some ((l.drop lo).take n, [o])
      | none => none
    | _ => none
  | _ => none

section ev
variable {R : Type}

def loadI (ag : Bool) (n off : Nat) (cs : List IV) (rd : List Nat) (k : IV → UpI → List Nat → Option R) : Option R :=
  match Nat.ble (off + n) cs.length with
  | true => match ag with
    | true => k (.agg ((cs.drop off).take n)) .no rd
    | false => match n, cs.drop off with
      | 1, c :: _ => k c .no rd
      | _, _ => none
  | false => none

def binI2 (op : BinOp) (k : IntKind) (a b : Int) (kk : IV → Option R) : Option R :=
  match op with
  | .add => kk (.int k (k.wrap (a + b)))
  | .sub => kk (.int k (k.wrap (a - b)))
  | .mul => kk (.int k (k.wrap (a * b)))
  | .quo => brB (b == 0) none (kk (.int k (k.wrap (a.tdiv b))))
  | .rem => brB (b == 0) none (kk (.int k (a.tmod b)))
  | .eql => kk (.bool (a == b))
  | .neq => kk (.bool (a != b))
  | .lss => kk (.bool (decide (a < b)))
  | .leq => kk (.bool (decide (a ≤ b)))
  | .gtr => kk (.bool (decide (a > b)))
  | .geq => kk (.bool (decide (a ≥ b)))
  | .and => kk (.int k (k.wrap (BitVec.ofInt k.bits a &&& BitVec.ofInt k.bits b).toNat))
  | .or => kk (.int k (k.wrap (BitVec.ofInt k.bits a ||| BitVec.ofInt k.bits b).toNat))
  | .xor => kk (.int k (k.wrap (BitVec.ofInt k.bits a ^^^ BitVec.ofInt k.bits b).toNat))
  | _ => none
def shf2 (op : BinOp) (k : IntKind) (a b : Int) (kk : IV → Option R) : Option R :=
  match op with
  | .shl => brB (decide (b < 0)) none (kk (.int k (k.wrap (a * 2 ^ (min b.toNat k.bits)))))
  | .shr => brB (decide (b < 0)) none (kk (.int k (a.fdiv (2 ^ (min b.toNat k.bits)))))
  | _ => none

def evI (op : ROp) (an : An) (T : List (Nat × IV)) (H : IH) (k : IV → UpI → List Nat → Option R) : Option R :=
  match op with
  | .mov x => k (getO T x) .no []
  | .pick c a b => match getO T c with
    | .bool q => match getO T a, getO T b with
      | .bool x, .bool y => k (.bool (cond q x y)) .no []
      | .bool x, _ => brB q (k (.bool x) .no []) none
      | _, .bool y => brB q none (k (.bool y) .no [])
      | _, _ => none
    | _ => none
  | .box x => match icells (getO T x) with
    | some cs => k (.ptr H.length 0 0) (.al (.box 0 cs)) []
    | none => none
  | .alloc z => match an.o with
    | none => k (.ptr H.length 0 0) (.al (.box 0 (z.map ofDc))) []
    | some o => match getH H o with
      | some .wait => k (.ptr o 0 0) (.grow o (.box 1 (z.map ofDc))) [o]
      | _ => none
  | .build z ps => match fillI T (z.map ofDc) ps with
    | some cs => k (.agg cs) .no []
    | none => none
  | .bslice ow sz z len ps => match Nat.beq an.t.sz sz, rowsI T sz (List.replicate len (z.map ofDc)) ps with
    | true, some rows => match decRows an.t rows with
      | some as => match ow with
        | true => k (.whole H.length) (.al (.arr an.t as)) []
        | false => k (.lst true an.t as) .no []
      | none => none
    | _, _ => none
  | .load ag n a => match getO T a with
    | .ptr o i off => match getH H o with
      | some (.box _ cs) => loadI ag n off cs [o] k
      | some (.arr t as) => loadI ag n off (encC t (as.getD i (dflt t))) [o] k
      | _ => none
    | .rp cs => loadI ag n 0 cs [] k
    | _ => none
  | .store n a x => match getO T a, icells (getO T x) with
    | .ptr o i off, some ns => match Nat.beq ns.length n, getH H o with
      | true, some (.box g cs) => match Nat.ble (off + n) cs.length with
        | true => k (.raw undef) (.set o (.box g (putIc cs off ns))) [o]
        | false => none
      | true, some (.arr t as) => match Nat.ble (off + n) t.sz, dec t (putIc (encC t (as.getD i (dflt t))) off ns) with
        | true, some x' => k (.raw undef) (.set o (.arr t (as.set i x'))) [o]
        | _, _ => none
      | _, _ => none
    | _, _ => none
  | .nilck x => match getO T x with
    | .ptr o i f => match getH H o with
      | some _ => k (.ptr o i f) .no [o]
      | none => none
    | .rp cs => k (.rp cs) .no []
    | .fn f cs => k (.fn f cs) .no []
    | _ => none
  | .bin op x y => match getO T x, getO T y with
    | .int kx a, .int ky b => match isShf op with
      | true => shf2 op kx a b fun v => k v .no []
      | false => match decide (kx = ky) with
        | true => binI2 op kx a b fun v => k v .no []
        | false => none
    | .str a, .str b => match op with
      | .add => brB (decide (a.length + b.length ≤ 9223372036854775807)) (k (.str (a ++ b)) .no []) none
      | .eql => k (.bool (a == b)) .no []
      | .neq => k (.bool (!(a == b))) .no []
      | _ => none
    | _, _ => none
  | .eqa neg offs x y => match getO T x, getO T y with
    | .agg xs, .agg ys => match cellsEqI xs ys offs with
      | some b => match neg with
        | true => k (.bool (!b)) .no []
        | false => k (.bool b) .no []
      | none => none
    | _, _ => none
  | .beq neg x y => match getO T x, getO T y with
    | .bool a, .bool b => match neg with
      | true => k (.bool (!(a == b))) .no []
      | false => k (.bool (a == b)) .no []
    | _, _ => none
  | .isn neg x => match getO T x with
    | .raw .nilIface => k (.bool (!neg)) .no []
    | .nn => k (.bool neg) .no []
    | _ => none
  | .un op x => match op, getO T x with
    | .neg, .int kx n => k (.int kx (kx.wrap (0 - n))) .no []
    | .not, .bool b => k (.bool (!b)) .no []
    | _, _ => none
  | .conv kk x => match getO T x with
    | .int _ n => k (.int kk (kk.wrap n)) .no []
    | _ => none
  | .s2b x => match getO T x with
    | .str s => k (.whole H.length) (.al (.arr (.int .u8) (s.map fun b => (b.toNat : Int)))) []
    | _ => none
  | .b2s x => match getO T x with
    | .lst _ (.int .u8) as => k (.str (as.map fun n => UInt8.ofNat n.toNat)) .no []
    | .whole o => match getH H o with
      | some (.arr (.int .u8) as) => k (.str (as.map fun n => UInt8.ofNat n.toNat)) .no [o]
      | _ => none
    | _ => none
  | .fadr off x => match getO T x with
    | .ptr o i f => match getH H o with
      | some _ => k (.ptr o i (f + off)) .no [o]
      | none => none
    | .rp cs => k (.rp (cs.drop off)) .no []
    | _ => none
  | .fld ag n off x => match getO T x with
    | .agg cs => match Nat.ble (off + n) cs.length with
      | true => match ag with
        | true => k (.agg ((cs.drop off).take n)) .no []
        | false => match cs.drop off with
          | c :: _ => k c .no []
          | [] => none
      | false => none
    | _ => none
  | .iadrS sz x i => match getO T x, getO T i with
    | .lst _ t as, .int _ n => match Nat.beq t.sz sz with
      | true => brB (inB n as.length) (k (.rp (encC t (as.getD n.toNat (dflt t)))) .no []) none
      | false => none
    | .whole o, .int _ n => match getH H o with
      | some (.arr t as) => match Nat.beq t.sz sz with
        | true => brB (inB n as.length) (k (.ptr o n.toNat 0) .no [o]) none
        | false => none
      | _ => none
    | .part o lo m, .int _ n => match getH H o with
      | some (.arr t as) => match Nat.beq t.sz sz with
        | true => brB (inB n m) (k (.ptr o (lo + n.toNat) 0) .no [o]) none
        | false => none
      | _ => none
    | _, _ => none
  | .iadrA sz len x i => match getO T x, getO T i with
    | .ptr o j f, .int _ n => match getH H o with
      | some _ => brB (inB n len) (k (.ptr o j (f + n.toNat * sz)) .no [o]) none
      | none => none
    | .rp cs, .int _ n => brB (inB n len) (k (.rp (cs.drop (n.toNat * sz))) .no []) none
    | _, _ => none
  | .idxA ag sz len x i => match getO T x, getO T i with
    | .agg cs, .int _ n => brB (inB n len && Nat.ble (n.toNat * sz + sz) cs.length) (match ag with
        | true => k (.agg ((cs.drop (n.toNat * sz)).take sz)) .no []
        | false => match cs.drop (n.toNat * sz) with
          | c :: _ => k c .no []
          | [] => none) none
    | _, _ => none
  | .slc sz x lo hi => match getO T x, bnd0 (lo.map (getO T)), bnd0 (hi.map (getO T)) with
    | .lst f t as, some l, some h => match Nat.beq t.sz sz with
      | true => brB (slB (boD 0 l) (boD as.length h) as.length) (k (.lst (match h with | none => f | some _ => false) t (cutL as l h)) .no []) none
      | false => none
    | .whole o, some l, some h => match getH H o with
      | some (.arr t as) => match Nat.beq t.sz sz with
        | true => brB (slB (boD 0 l) (boD as.length h) as.length) (k (.part o (boD 0 l).toNat ((boD as.length h).toNat - (boD 0 l).toNat)) .no [o]) none
        | false => none
      | _ => none
    | .part o b m, some l, some h => match getH H o with
      | some (.arr t as) => match Nat.beq t.sz sz with
        | true => brB (slB (boD 0 l) (boD m h) m) (k (.part o (b + (boD 0 l).toNat) ((boD m h).toNat - (boD 0 l).toNat)) .no [o]) none
        | false => none
      | _ => none
    | _, _, _ => none
  | .mksl sz bytes z len cap => match getO T len, getO T cap, dec an.t (z.map ofDc) with
    | .int .i64 l, .int .i64 c, some z' => match Nat.beq an.t.sz sz with
      | true => match an.o with
        | none => brB (mkB bytes l c) (k (.whole H.length) (.al (.arr an.t (List.replicate l.toNat z'))) []) none
        | some o => match getH H o with
          | some .wait => brB (mkB bytes l c) (k (.whole o) (.grow o (.arr an.t (List.replicate l.toNat z'))) [o]) none
          | _ => none
      | false => none
    | _, _, _ => none
  | .len x => match getO T x with
    | .nil => k (.int .i64 0) .no []
    | .lst _ _ as => k (.int .i64 as.length) .no []
    | .whole o => match getH H o with
      | some (.arr _ as) => k (.int .i64 as.length) .no [o]
      | _ => none
    | .part o _ n => k (.int .i64 n) .no [o]
    | _ => none
  | .lens x => match getO T x with
    | .str s => k (.int .i64 s.length) .no []
    | _ => none
  | .sidx x i => match getO T x, getO T i with
    | .str s, .int _ n => brB (inB n s.length) (k (.int .u8 (s.getD n.toNat 0).toNat) .no []) none
    | _, _ => none
  | .sslc x lo hi => match getO T x, bnd0 (lo.map (getO T)), bnd0 (hi.map (getO T)) with
    | .str s, some l, some h => brB (slB (boD 0 l) (boD s.length h) s.length) (k (.str (cutL s l h)) .no []) none
    | _, _, _ => none
  | .lenA n => k (.int .i64 n) .no []
  | .mm mx xs => match xs.map (getO T) with
    | d :: r => match mmI mx d r with
      | some v => k v .no []
      | none => none
    | [] => none
  | .app sz bytes s x => match getO T s with
    | .whole o => match getH H o with
      | some (.arr t as) => match Nat.beq t.sz sz, elems H t (getO T x) with
        | true, some (bs, rd) => match selfO an.o o && Nat.ble 1 sz with
          | true => brB (fitsB (as.length + bs.length) bytes) (k (.lst false t (as ++ bs)) (.grow o (.arr t [])) (o :: rd)) none
          | false => brB (fitsB (as.length + bs.length) bytes) (k (.whole o) (.grow o (.arr t (as ++ bs))) (o :: rd)) none
        | _, _ => none
      | _ => none
    | .part o lo m => match getH H o with
      | some (.arr t as) => match Nat.beq t.sz sz, elems H t (getO T x) with
        | true, some (bs, rd) => brB (fitsB (m + bs.length) bytes) (k (.whole o) (.grow o (.arr t ((as.drop lo).take m ++ bs))) (o :: rd)) none
        | _, _ => none
      | _ => none
    | .nil => match an.o with
      | none => match Nat.beq an.t.sz sz, elems H an.t (getO T x) with
        | true, some (bs, rd) => brB (fitsB bs.length bytes) (k (.lst false an.t bs) .no rd) none
        | _, _ => none
      | some o => match getH H o with
        | some (.arr t []) => match Nat.beq t.sz sz, elems H t (getO T x) with
          | true, some (bs, rd) => brB (fitsB bs.length bytes) (k (.whole o) (.grow o (.arr t bs)) (o :: rd)) none
          | _, _ => none
        | _ => none
    | .lst true t as => match Nat.beq t.sz sz, elems H t (getO T x) with
      | true, some (bs, rd) => brB (fitsB (as.length + bs.length) bytes) (k (.lst false t (as ++ bs)) .no rd) none
      | _, _ => none
    | _ => none
  | .extr i x => match getO T x with
    | .tup vs => match vs[i]? with
      | some v => k v .no []
      | none => none
    | _ => none
  | .mkfn f cs => k (.fn f (cs.map (getO T))) .no []
  | .call .. => none
end ev

/-! ### Soundness -/
section sound
variable {R : Type} {P : Program} {s : St} {T : List (Nat × IV)} {HI : IH} {r : R}

/-- What an operation's soundness says. -/
def EvOK (P : Program) (op : ROp) (s : St) (T : List (Nat × IV)) (HI : IH) (k : IV → UpI → List Nat → Option R) (r : R) : Prop :=
  ∃ v u rd wr, k v u rd = some r ∧ Snd1 P op s T HI v u rd wr ∧ wr = (match u with | .no => [] | .set o _ => [o] | .al _ => [HI.length] | .grow o _ => [o])

variable {k : IV → UpI → List Nat → Option R}

theorem EvOK.no {op : ROp} {v : IV} {rd : List Nat} (hk : k v .no rd = some r) (hs : SR ⟨T, HI⟩ s) (hp : plainOp op = true) {d : DV} (h : ev op true s.T s.H s.nx = some (d, .no)) (hrd : rds op true s.T = rd) (hv : Rel s.H s.nx v d) : EvOK P op s T HI k r :=
  ⟨v, .no, rd, [], hk, .no hs hp h hrd hv, rfl⟩

theorem cond_some {α : Type} {b : Bool} {x : Option α} {r : α} (h : brB b x none = some r) : b = true ∧ x = some r := by cases b <;> simp_all [brB]
theorem cond_some' {α : Type} {b : Bool} {x : Option α} {r : α} (h : brB b none x = some r) : b = false ∧ x = some r := by cases b <;> simp_all [brB]

theorem HRel.at {H : Hp} {nx : Nat} (h : HRel HI H nx) {o : Nat} {c : ICk} (hc : getH HI o = some c) : o < nx ∧ ∃ ck, H o = some ck ∧ CkR H nx c ck := h o c hc

theorem live_of {H : Hp} {o : Nat} {ck : Ck} (h : H o = some ck) : live H o ck.gen = true := by simp [live, h]

theorem encC_of_row {H : Hp} {nx : Nat} {t : GT} {as : List (El t)} {xs : List (List DV)} (h : Both (RelT t) as xs) {i : Nat} (hi : i < xs.length) : Rels H nx (encC t (as.getD i (dflt t))) (xs.getD i []) :=
  encC_rel t _ _ (h.getD _ _ (by rw [h.1]; exact hi))

theorem loadI_sound {ag : Bool} {n off : Nat} {cs : List IV} {ds : List DV} {rd : List Nat} (h : loadI ag n off cs rd k = some r) (hr : Rels s.H s.nx cs ds) : ∃ v d, k v .no rd = some r ∧ Rel s.H s.nx v d ∧ off + n ≤ ds.length ∧ (if ag then some (DV.agg ((ds.drop off).take n)) else if n = 1 then (ds.drop off).head? else none) = some d := by
  unfold loadI at h
  split at h
  · rename_i hb
    have hn : off + n ≤ cs.length := Nat.le_of_ble_eq_true hb
    split at h
    · exact ⟨_, _, h, Rel.aggB ((hr.drop off).take n), by rw [← hr.1]; exact hn, rfl⟩
    · split at h
      · rename_i c l he
        have hd := hr.drop off
        rw [he] at hd
        obtain ⟨d, ds', he', h1, h2⟩ := hd.cons_l
        exact ⟨_, d, h, h1, by rw [← hr.1]; exact hn, by simp [he']⟩
      · cases h
  · cases h

theorem elems_rel {t : GT} {x : IV} {d : DV} {bs : List (El t)} {rd : List Nat} (h : elems HI t x = some (bs, rd)) (hs : SR ⟨T, HI⟩ s) (hx : Rel s.H s.nx x d) : ∃ ys, elemsV s.H d = some ys ∧ Both (RelT t) bs ys ∧ d.ids = rd := by
  unfold elems at h
  split at h
  · simp only [Option.some.injEq, Prod.mk.injEq] at h
    obtain ⟨rfl, rfl⟩ := h
    rw [hx.nil_inv]; exact ⟨[], rfl, .nil, rfl⟩
  · split at h
    · rename_i hc
      simp only [Option.some.injEq, Prod.mk.injEq] at h
      obtain ⟨rfl, rfl⟩ := h
      obtain ⟨rfl, rfl⟩ := castL_some hc
      obtain ⟨f', xs, rfl, _, h3⟩ := hx.lst_inv
      exact ⟨xs, rfl, h3, rfl⟩
    · cases h
  · split at h
    · rename_i o _ t' as hc0
      split at h
      · rename_i hc
        simp only [Option.some.injEq, Prod.mk.injEq] at h
        obtain ⟨rfl, rfl⟩ := h
        obtain ⟨rfl, rfl⟩ := castL_some hc
        obtain ⟨_, ck, h1, h2, h3⟩ := hs.h.at hc0
        obtain ⟨g, n, rfl, _, hg⟩ := hx.whole_inv
        obtain ⟨rfl, rfl⟩ := hg ck h1
        exact ⟨ck.xs, by simp [elemsV, h1], h3, rfl⟩
      · cases h
    · cases h
  · split at h
    · rename_i o lo n _ t' as hc0
      split at h
      · rename_i l hc
        simp only [Option.some.injEq, Prod.mk.injEq] at h
        obtain ⟨rfl, rfl⟩ := h
        obtain ⟨rfl, rfl⟩ := castL_some hc
        obtain ⟨_, ck, h1, h2, h3⟩ := hs.h.at hc0
        obtain ⟨g, rfl, _, hg⟩ := hx.part_inv
        obtain ⟨rfl, hle⟩ := hg ck h1
        exact ⟨(ck.xs.drop lo).take n, by simp [elemsV, h1], (h3.drop lo).take n, rfl⟩
      · cases h
    · cases h
  · cases h

theorem all_sz {t : GT} {as : List (El t)} {xs : List (List DV)} (h : Both (RelT t) as xs) {sz : Nat} (hz : Nat.beq t.sz sz = true) : xs.all (fun c => c.length == sz) = true := by
  have := Nat.eq_of_beq_eq_true hz
  subst this
  rw [List.all_eq_true]
  intro c hc
  obtain ⟨j, hj, rfl⟩ := List.mem_iff_getElem.1 hc
  simpa using RelT.len t _ _ (h.2 j (by rw [h.1]; exact hj) hj)

theorem cutL_both {t : GT} {as : List (El t)} {xs : List (List DV)} (h : Both (RelT t) as xs) (l h' : Option Int) (hb : slB (boD 0 l) (boD as.length h') as.length = true) :
    Both (RelT t) (cutL as l h') ((xs.drop (boD 0 l).toNat).take ((boD xs.length h').toNat - (boD 0 l).toNat)) := by
  simp only [slB, decide_eq_true_eq] at hb
  cases l with
  | none =>
    cases h' with
    | none => simpa [cutL, boD] using h
    | some e => simpa [cutL, boD] using h.take _
  | some l =>
    cases h' with
    | none =>
      have := h.drop l.toNat
      simp only [cutL, boD] at hb ⊢
      rw [List.take_of_length_le (by simp)]
      exact this
    | some e => exact (h.drop _).take _

theorem mm2_eq (mx : Bool) (k k' : IntKind) (a b : Int) : mm2 mx (.v (.int k a)) (.v (.int k' b)) = some (.v (.int k (cond mx (max a b) (min a b)))) := by
  have e1 : max a b = if a < b then b else a := by rw [Int.max_def]; split <;> split <;> omega
  have e2 : min a b = if b < a then b else a := by rw [Int.min_def]; split <;> split <;> omega
  simp only [mm2, e1, e2]; cases mx <;> rfl
theorem mmI_sound {H : Hp} {nx : Nat} {mx : Bool} : ∀ (l : List IV) (ds : List DV) (x v : IV) (d : DV), mmI mx x l = some v → Rel H nx x d → Rels H nx l ds → ∃ e, mmL mx d ds = some e ∧ Rel H nx v e
  | [], ds, x, v, d, h, hx, hl => by
    rw [hl.nil_l]
    unfold mmI at h
    split at h
    · injection h with h; subst h; rw [hx.int_inv]; exact ⟨_, rfl, .int _ _⟩
    · rename_i e; cases e
    · cases h
  | y :: r, ds, x, v, d, h, hx, hl => by
    obtain ⟨e, es, rfl, h1, h2⟩ := hl.cons_l
    unfold mmI at h
    split at h
    · rename_i e; cases e
    · rename_i k a k' b r' he
      injection he with he1 he2; subst he1; subst he2
      rw [hx.int_inv, h1.int_inv]
      obtain ⟨w, q1, q2⟩ := mmI_sound r es _ v (.v (.int k (cond mx (max a b) (min a b)))) h (.int _ _) h2
      exact ⟨w, by simp only [mmL, mm2_eq]; exact q1, q2⟩
    · cases h

theorem binI2_sound {op : BinOp} {kx : IntKind} {a b : Int} {kk : IV → Option R} (h : binI2 op kx a b kk = some r) : ∃ v d, kk v = some r ∧ binI op kx a b = some d ∧ ∀ H nx, Rel H nx v d := by
  unfold binI2 at h
  split at h
  all_goals first
    | exact ⟨_, _, h, rfl, fun H nx => .int _ _⟩
    | exact ⟨_, _, h, rfl, fun H nx => .bool _⟩
    | (obtain ⟨h1, h2⟩ := cond_some' h
       have hb : b ≠ 0 := by simpa using h1
       exact ⟨_, _, h2, by simp only [binI]; rw [if_neg hb], fun H nx => .int _ _⟩)
    | cases h
theorem shf2_sound {op : BinOp} {kx : IntKind} {a b : Int} {kk : IV → Option R} (h : shf2 op kx a b kk = some r) : ∃ v d, kk v = some r ∧ shfV op kx a b = some d ∧ ∀ H nx, Rel H nx v d := by
  unfold shf2 at h
  split at h
  all_goals first
    | (obtain ⟨h1, h2⟩ := cond_some' h
       have hb : ¬ b < 0 := by simpa using h1
       exact ⟨_, _, h2, by simp only [shfV]; rw [if_neg hb], fun H nx => .int _ _⟩)
    | cases h

end sound
end Go.Pv
