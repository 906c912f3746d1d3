/- The walk's state, operations on it in continuation style (evI), and what an operation's step needs to be sound. No condition of its own: over any program. -/
import Derived.Test.YtipokcccpbcmeaaDoorPxA
set_option linter.all false
namespace Go.Pv
open Go.RowKit

inductive ICk where
  | box (g : Nat) (cs : List IV)
  | arr (t : GT) (as : List (El t))
  | wait

abbrev IH := List (Option ICk)
structure SI where
  T : List (Nat × IV)
  H : IH

def getT : List (Nat × IV) → Nat → IV
  | [], _ => .any
  | (a, v) :: r, t => cond (Nat.beq a t) v (getT r t)
def getH : IH → Nat → Option ICk
  | [], _ => none
  | c :: _, 0 => c
  | _ :: r, o + 1 => getH r o
def setH : IH → Nat → Option ICk → IH
  | [], _, _ => []
  | _ :: r, 0, x => x :: r
  | c :: r, o + 1, x => c :: setH r o x

theorem setH_len : ∀ (H : IH) (o : Nat) (x : Option ICk), (setH H o x).length = H.length
  | [], _, _ => rfl
  | _ :: r, 0, x => rfl
  | c :: r, o + 1, x => by simp [setH, setH_len r o x]
theorem getH_set : ∀ (H : IH) (o : Nat) (x : Option ICk) (o' : Nat), getH (setH H o x) o' = if o' = o ∧ o < H.length then x else getH H o'
  | [], o, x, o' => by simp [setH, getH]
  | c :: r, 0, x, 0 => by simp [setH, getH]
  | c :: r, 0, x, o' + 1 => by simp [setH, getH]
  | c :: r, o + 1, x, 0 => by simp [setH, getH]
  | c :: r, o + 1, x, o' + 1 => by simp [setH, getH, getH_set r o x o']
theorem getH_app : ∀ (H : IH) (x : Option ICk) (o : Nat), getH (H ++ [x]) o = if o = H.length then x else getH H o
  | [], x, 0 => by simp [getH]
  | [], x, o + 1 => by simp [getH]
  | c :: r, x, 0 => by simp [getH]
  | c :: r, x, o + 1 => by simp [getH, getH_app r x o]
theorem getH_lt : ∀ (H : IH) (o : Nat) (c : ICk), getH H o = some c → o < H.length
  | [], o, c, h => by simp [getH] at h
  | _ :: r, 0, c, h => by simp
  | _ :: r, o + 1, c, h => by have := getH_lt r o c h; simp; omega

def CkR (H : Hp) (nx : Nat) : ICk → Ck → Prop
  | .box g cs, ck => ck.sz = cs.length ∧ ∃ ds, ck.xs = [ds] ∧ Rels H nx cs ds ∧ ck.gen = g
  | .arr t as, ck => ck.sz = t.sz ∧ Both (RelT t) as ck.xs
  | .wait, ck => ∃ sz, ck = ⟨0, sz, []⟩

def HRel (HI : IH) (H : Hp) (nx : Nat) : Prop := ∀ o c, getH HI o = some c → o < nx ∧ ∃ ck, H o = some ck ∧ CkR H nx c ck

structure SR (si : SI) (s : St) : Prop where
  t : ∀ t, Rel s.H s.nx (getT si.T t) (s.T t)
  h : HRel si.H s.H s.nx
  n : si.H.length = s.nx

/-! ### Constants, operands, cells -/
def ofDc : DV → IV
  | .v (.int k n) => .int k n
  | .v (.bool b) => .bool b
  | .v (.string s) => .str (bl s)
  | .v x => .raw x
  | .lst true [] => .nil
  | .fn f [] => .fn f []
  | _ => .any
def ofD : DV → IV
  | .agg cs => .agg (cs.map ofDc)
  | d => ofDc d
def getO (T : List (Nat × IV)) : RO → IV
  | .t n => getT T n
  | .c d => ofD d

section basics
variable {H : Hp} {nx : Nat}
theorem ofDc_rel (d : DV) : Rel H nx (ofDc d) d := by
  unfold ofDc
  split
  · exact .int _ _
  · exact .bool _
  · exact Rel.str (bl _)
  · exact .raw _
  · exact .nil
  · exact .fn _ _ _ rfl (fun j h => by cases h)
  · exact .any _
theorem ofDcs_rel (l : List DV) : Rels H nx (l.map ofDc) l := ⟨by simp, fun j h1 h2 => by simpa using ofDc_rel _⟩
theorem ofD_rel (d : DV) : Rel H nx (ofD d) d := by
  unfold ofD
  split
  · exact Rel.aggB (ofDcs_rel _)
  · exact ofDc_rel _
theorem Rel.un {v : IV} {d : DV} (h : Rel H nx v d) : Rel H nx v (Pv.un true d) := by
  cases h <;> first | exact .int .. | exact .bool .. | exact .str .. | exact .nil | exact .lst _ _ _ _ _ ‹_› ‹_› | exact .raw .. | exact .any _ | exact .nn | exact .ptr _ _ _ _ ‹_› ‹_› | exact .whole _ _ _ ‹_› ‹_› | exact .part _ _ _ _ ‹_› ‹_› | exact .rp _ _ ‹_› ‹_› | exact .agg _ _ ‹_› ‹_› | exact .tup _ _ ‹_› ‹_› | exact .fn _ _ _ ‹_› ‹_›
theorem getO_rel {T : List (Nat × IV)} {T' : Nat → DV} (h : ∀ t, Rel H nx (getT T t) (T' t)) (x : RO) : Rel H nx (getO T x) (Pv.un true (x.get T')) := by
  cases x with
  | t n => exact (h n).un
  | c d => exact (ofD_rel d).un
end basics

def icells : IV → Option (List IV)
  | .agg cs => some cs
  | .raw x => if x.oneCell' = true then some [.raw x] else none
  | .any => none
  | .nn => none
  | .tup _ => none
  | v => some [v]
theorem icells_rel {H : Hp} {nx : Nat} {v : IV} {d : DV} {cs : List IV} (h : icells v = some cs) (hr : Rel H nx v d) : ∃ ds, dcells d = some ds ∧ Rels H nx cs ds := by
  cases hr with
  | agg cs' ds hl hh => simp only [icells, Option.some.injEq] at h; subst h; exact ⟨ds, rfl, hl, hh⟩
  | raw x =>
    simp only [icells] at h
    split at h
    · rename_i hx; injection h with h; subst h; exact ⟨[.v x], by simp [dcells, hx], .one (.raw x)⟩
    · cases h
  | any d => simp [icells] at h
  | nn => simp [icells] at h
  | tup cs' ds hl hh => simp [icells] at h
  | int k n => simp only [icells, Option.some.injEq] at h; subst h; exact ⟨_, rfl, .one (.int _ _)⟩
  | bool b => simp only [icells, Option.some.injEq] at h; subst h; exact ⟨_, rfl, .one (.bool _)⟩
  | str b => simp only [icells, Option.some.injEq] at h; subst h; exact ⟨_, rfl, .one (.str _)⟩
  | nil => simp only [icells, Option.some.injEq] at h; subst h; exact ⟨_, rfl, .one .nil⟩
  | lst f f' t as xs hf hh => simp only [icells, Option.some.injEq] at h; subst h; exact ⟨_, rfl, .one (.lst _ _ _ _ _ hf hh)⟩
  | ptr o g i off ho hh => simp only [icells, Option.some.injEq] at h; subst h; exact ⟨_, rfl, .one (.ptr _ _ _ _ ho hh)⟩
  | whole o g n ho hh => simp only [icells, Option.some.injEq] at h; subst h; exact ⟨_, rfl, .one (.whole _ _ _ ho hh)⟩
  | part o g lo n ho hh => simp only [icells, Option.some.injEq] at h; subst h; exact ⟨_, rfl, .one (.part _ _ _ _ ho hh)⟩
  | rp cs' ds hl hh => simp only [icells, Option.some.injEq] at h; subst h; exact ⟨_, rfl, .one (.rp _ _ hl hh)⟩
  | fn f cs' ds hl hh => simp only [icells, Option.some.injEq] at h; subst h; exact ⟨_, rfl, .one (.fn _ _ _ hl hh)⟩

def putIc (cs : List IV) (off : Nat) (news : List IV) : List IV := cs.take off ++ (news ++ cs.drop (off + news.length))
theorem putIc_rel {H : Hp} {nx : Nat} {cs ns : List IV} {ds ms : List DV} (h : Rels H nx cs ds) (k : Rels H nx ns ms) (off : Nat) : Rels H nx (putIc cs off ns) (putCells ds off ms) := by
  unfold putIc putCells
  rw [List.append_assoc, ← k.1]
  exact (h.take off).append (k.append (h.drop _))

def fillI (T : List (Nat × IV)) : List IV → List (Nat × Nat × RO) → Option (List IV)
  | z, [] => some z
  | z, (off, n, x) :: r => match icells (getO T x) with
    | some cs => if cs.length = n ∧ off + n ≤ z.length then fillI T (putIc z off cs) r else none
    | none => none
theorem fillI_rel {H : Hp} {nx : Nat} {T : List (Nat × IV)} {T' : Nat → DV} (h : ∀ t, Rel H nx (getT T t) (T' t)) : ∀ (ps : List (Nat × Nat × RO)) (z : List IV) (z' : List DV) (cs : List IV), fillI T z ps = some cs → Rels H nx z z' →
    ∃ ds, fillP (fun x => un true (x.get T')) z' ps = some ds ∧ Rels H nx cs ds
  | [], z, z', cs, hf, hz => by simp only [fillI, Option.some.injEq] at hf; subst hf; exact ⟨z', rfl, hz⟩
  | (off, n, x) :: r, z, z', cs, hf, hz => by
    simp only [fillI] at hf
    split at hf
    · rename_i c hc
      split at hf
      · rename_i hn
        obtain ⟨ds, h1, h2⟩ := icells_rel hc (getO_rel h x)
        obtain ⟨es, h3, h4⟩ := fillI_rel h r _ _ cs hf (putIc_rel hz h2 off)
        refine ⟨es, ?_, h4⟩
        simp only [fillP, h1]
        rw [if_pos ⟨by rw [← h2.1]; exact hn.1, by rw [← hz.1]; exact hn.2⟩]; exact h3
      · cases hf
    · cases hf

def rowsI (T : List (Nat × IV)) (sz : Nat) : List (List IV) → List (Nat × RO) → Option (List (List IV))
  | xs, [] => some xs
  | xs, (i, x) :: r => match icells (getO T x) with
    | some cs => if cs.length = sz ∧ i < xs.length then rowsI T sz (xs.set i cs) r else none
    | none => none
theorem rowsI_rel {H : Hp} {nx : Nat} {T : List (Nat × IV)} {T' : Nat → DV} (sz : Nat) (h : ∀ t, Rel H nx (getT T t) (T' t)) : ∀ (ps : List (Nat × RO)) (z : List (List IV)) (z' : List (List DV)) (cs : List (List IV)), rowsI T sz z ps = some cs → Both (Rels H nx) z z' →
    ∃ ds, bslP (fun x => un true (x.get T')) sz z' ps = some ds ∧ Both (Rels H nx) cs ds
  | [], z, z', cs, hf, hz => by simp only [rowsI, Option.some.injEq] at hf; subst hf; exact ⟨z', rfl, hz⟩
  | (i, x) :: r, z, z', cs, hf, hz => by
    simp only [rowsI] at hf
    split at hf
    · rename_i c hc
      split at hf
      · rename_i hn
        obtain ⟨ds, h1, h2⟩ := icells_rel hc (getO_rel h x)
        obtain ⟨es, h3, h4⟩ := rowsI_rel sz h r _ _ cs hf (hz.set i h2)
        refine ⟨es, ?_, h4⟩
        simp only [bslP, h1]
        rw [if_pos ⟨by rw [← h2.1]; exact hn.1, by rw [← hz.1]; exact hn.2⟩]; exact h3
      · cases hf
    · cases hf

def decRows (t : GT) : List (List IV) → Option (List (El t))
  | [] => some []
  | c :: r => match dec t c with
    | some x => match decRows t r with
      | some l => some (x :: l)
      | none => none
    | none => none
theorem decRows_rel {H : Hp} {nx : Nat} {t : GT} : ∀ (rows : List (List IV)) (as : List (El t)) (xs : List (List DV)), decRows t rows = some as → Both (Rels H nx) rows xs → Both (RelT t) as xs
  | [], as, xs, h, hb => by simp only [decRows, Option.some.injEq] at h; subst h; rw [hb.nil_l]; exact .nil
  | c :: r, as, xs, h, hb => by
    simp only [decRows] at h
    split at h
    · rename_i x hx
      split at h
      · rename_i l hl
        injection h with h; subst h
        obtain ⟨d, ds, rfl, h1, h2⟩ := hb.cons_l
        exact (Both.cons (dec_rel hx h1) (decRows_rel r l ds hl h2))
      · cases h
    · cases h

def cellEqI : Nat → IV → IV → Option Bool
  | 1, .int k a, .int k' b => if k = k' then some (a == b) else none
  | 0, .bool a, .bool b => some (a == b)
  | 2, .str a, .str b => some (a == b)
  | _, _, _ => none
def cellsEqI (xs ys : List IV) : List (Nat × Nat) → Option Bool
  | [] => some true
  | [o] => cellEqI o.2 (xs.getD o.1 .any) (ys.getD o.1 .any)
  | o :: r => match cellEqI o.2 (xs.getD o.1 .any) (ys.getD o.1 .any), cellsEqI xs ys r with
    | some a, some b => some (a && b)
    | _, _ => none
theorem cellEqI_rel {H : Hp} {nx : Nat} {q : Nat} {x y : IV} {d e : DV} {b : Bool} (h : cellEqI q x y = some b) (hx : Rel H nx x d) (hy : Rel H nx y e) : cellEq q d e = some b := by
  unfold cellEqI at h
  split at h
  · rw [hx.int_inv, hy.int_inv]; exact h
  · rw [hx.bool_inv, hy.bool_inv]; exact h
  · rename_i a b
    rw [hx.str_inv, hy.str_inv]
    rw [← h]
    show some (mkS a == mkS b) = some (a == b)
    have : (mkS a == mkS b) = (a == b) := by
      show (Array.mk a == Array.mk b) = (a == b)
      simp
    rw [this]
  · cases h
theorem Rels.getAny {H : Hp} {nx : Nat} {xs : List IV} {ds : List DV} (h : Rels H nx xs ds) (n : Nat) : Rel H nx (xs.getD n .any) (ds.getD n .any) := by
  by_cases hn : n < xs.length
  · exact Both.getD h _ _ hn
  · simp only [List.getD_eq_getElem?_getD, List.getElem?_eq_none (Nat.le_of_not_lt hn), Option.getD_none]; exact .any _
theorem cellsEqI_rel {H : Hp} {nx : Nat} {xs ys : List IV} {ds es : List DV} (hx : Rels H nx xs ds) (hy : Rels H nx ys es) : ∀ (l : List (Nat × Nat)) (b : Bool), cellsEqI xs ys l = some b → cellsEq ds es l = some b
  | [], b, h => h
  | [o], b, h => by
    simp only [cellsEqI] at h
    simp only [cellsEq, cellEqI_rel h (Rels.getAny hx _) (Rels.getAny hy _), Bool.and_true]
  | o :: p :: r, b, h => by
    simp only [cellsEqI] at h
    split at h
    · rename_i a c h1 h2
      injection h with h; subst h
      rw [cellsEq, cellEqI_rel h1 (Rels.getAny hx _) (Rels.getAny hy _), cellsEqI_rel hx hy (p :: r) c h2]
    · cases h

/-! ### What a step does to the state -/
inductive UpI where
  | no
  | set (o : Nat) (c : ICk)
  | al (c : ICk)
  | grow (o : Nat) (c : ICk)

/-- Cells without a hold on a chunk. -/
def killC (o : Nat) : IV → IV
  | .ptr o' i f => cond (Nat.beq o' o) .any (.ptr o' i f)
  | .whole o' => cond (Nat.beq o' o) .any (.whole o')
  | .part o' l n => cond (Nat.beq o' o) .any (.part o' l n)
  | .rp _ => .any
  | .agg _ => .any
  | .tup _ => .any
  | .fn f [] => .fn f []
  | .fn _ _ => .any
  | v => v
def killA (o : Nat) : IV → IV
  | .agg cs => .agg (cs.map (killC o))
  | .rp cs => .rp (cs.map (killC o))
  | .fn f cs => .fn f (cs.map (killC o))
  | v => killC o v
def killV (o : Nat) : IV → IV
  | .tup vs => .tup (vs.map (killA o))
  | v => killA o v
def killT (o : Nat) : List (Nat × IV) → List (Nat × IV)
  | [] => []
  | (a, v) :: r => (a, killV o v) :: killT o r
def killK (o : Nat) : Option ICk → Option ICk
  | some (.box g cs) => some (.box g (cs.map (killC o)))
  | c => c
def killH (o : Nat) : IH → IH
  | [] => []
  | c :: r => killK o c :: killH o r

def UpI.t (T : List (Nat × IV)) : UpI → List (Nat × IV)
  | .grow o _ => killT o T
  | _ => T
def UpI.h (H : IH) : UpI → IH
  | .no => H
  | .set o c => setH H o (some c)
  | .al c => H ++ [some c]
  | .grow o c => setH (killH o H) o (some c)
def putI (dst : Option Nat) (v : IV) (T : List (Nat × IV)) : List (Nat × IV) := match dst with
  | some d => (d, v) :: T
  | none => T

/-- Two heaps that agree but for one chunk. -/
structure Away (o : Nat) (H : Hp) (nx : Nat) (H' : Hp) (nx' : Nat) : Prop where
  n : nx ≤ nx'
  h : ∀ o' ck', o' < nx → o' ≠ o → H' o' = some ck' → ∃ ck, H o' = some ck ∧ ck.gen = ck'.gen ∧ ck.xs.length = ck'.xs.length

section kill
variable {H H' : Hp} {nx nx' o : Nat}
theorem nbeq_ne {a b : Nat} (h : Nat.beq a b = false) : a ≠ b := fun e => by subst e; rw [Nat.beq_refl] at h; cases h
theorem killC_rel (s : Away o H nx H' nx') {v : IV} {d : DV} (h : Rel H nx v d) : Rel H' nx' (killC o v) d := by
  cases h with
  | int k n => exact .int k n
  | bool b => exact .bool b
  | str b => exact .str b
  | nil => exact .nil
  | lst f f' t as xs hf h => exact .lst f f' t as xs hf h
  | raw x => exact .raw x
  | any d => exact .any d
  | nn => exact .nn
  | ptr o' g i off ho h =>
    simp only [killC]
    cases hb : Nat.beq o' o with
    | true => exact .any _
    | false =>
      refine .ptr o' g i off (Nat.lt_of_lt_of_le ho s.n) fun ck' hk => ?_
      obtain ⟨ck, h1, h2, h3⟩ := s.h o' ck' ho (nbeq_ne hb) hk
      have := h ck h1
      exact ⟨by omega, by omega⟩
  | whole o' g n ho h =>
    simp only [killC]
    cases hb : Nat.beq o' o with
    | true => exact .any _
    | false =>
      refine .whole o' g n (Nat.lt_of_lt_of_le ho s.n) fun ck' hk => ?_
      obtain ⟨ck, h1, h2, h3⟩ := s.h o' ck' ho (nbeq_ne hb) hk
      have := h ck h1
      exact ⟨by omega, by omega⟩
  | part o' g lo n ho h =>
    simp only [killC]
    cases hb : Nat.beq o' o with
    | true => exact .any _
    | false =>
      refine .part o' g lo n (Nat.lt_of_lt_of_le ho s.n) fun ck' hk => ?_
      obtain ⟨ck, h1, h2, h3⟩ := s.h o' ck' ho (nbeq_ne hb) hk
      have := h ck h1
      exact ⟨by omega, by omega⟩
  | rp cs ds hl h => exact .any _
  | agg cs ds hl h => exact .any _
  | tup cs ds hl h => exact .any _
  | fn f cs ds hl h =>
    cases cs with
    | nil => exact .fn _ _ _ hl (fun j h => by cases h)
    | cons => exact .any _
theorem killCs_rel (s : Away o H nx H' nx') {cs : List IV} {ds : List DV} (h : Rels H nx cs ds) : Rels H' nx' (cs.map (killC o)) ds :=
  ⟨by simp [h.1], fun j h1 h2 => by simpa using killC_rel s (h.2 j (by simpa using h1) h2)⟩
theorem killA_rel (s : Away o H nx H' nx') {v : IV} {d : DV} (h : Rel H nx v d) : Rel H' nx' (killA o v) d := by
  unfold killA
  split
  · obtain ⟨ds, rfl, k⟩ := h.agg_inv; exact Rel.aggB (killCs_rel s k)
  · obtain ⟨ds, rfl, k⟩ := h.rp_inv; exact Rel.rpB (killCs_rel s k)
  · obtain ⟨ds, rfl, k⟩ := h.fn_inv; exact Rel.fnB (killCs_rel s k)
  · exact killC_rel s h
theorem killV_rel (s : Away o H nx H' nx') {v : IV} {d : DV} (h : Rel H nx v d) : Rel H' nx' (killV o v) d := by
  unfold killV
  split
  · obtain ⟨ds, rfl, k⟩ := h.tup_inv
    exact Rel.tupB ⟨by simp [k.1], fun j h1 h2 => by simpa using killA_rel s (k.2 j (by simpa using h1) h2)⟩
  · exact killA_rel s h
theorem killT_get : ∀ (T : List (Nat × IV)) (t : Nat), getT (killT o T) t = killV o (getT T t)
  | [], t => rfl
  | (a, v) :: r, t => by
    simp only [killT, getT]
    cases Nat.beq a t with
    | true => rfl
    | false => exact killT_get r t
theorem killH_get : ∀ (HI : IH) (j : Nat), getH (killH o HI) j = killK o (getH HI j)
  | [], j => rfl
  | c :: r, 0 => rfl
  | c :: r, j + 1 => killH_get r j
theorem killH_len : ∀ (HI : IH), (killH o HI).length = HI.length
  | [] => rfl
  | c :: r => by simp [killH, killH_len r]
theorem killK_rel (s : Away o H nx H' nx') {c c' : ICk} {ck : Ck} (h : CkR H nx c ck) (hk : killK o (some c) = some c') : CkR H' nx' c' ck := by
  cases c with
  | box g cs =>
    simp only [killK, Option.some.injEq] at hk; subst hk
    obtain ⟨h1, ds, h2, h3, h4⟩ := h
    exact ⟨by simp [h1], ds, h2, killCs_rel s h3, h4⟩
  | arr t as => simp only [killK, Option.some.injEq] at hk; subst hk; exact h
  | wait => simp only [killK, Option.some.injEq] at hk; subst hk; exact h
end kill

theorem CkR.boxI {H : Hp} {nx g n : Nat} {cs : List IV} {ds : List DV} (h1 : n = cs.length) (h : Rels H nx cs ds) : CkR H nx (.box g cs) ⟨g, n, [ds]⟩ := ⟨h1, ds, rfl, h, rfl⟩
theorem CkR.arrI {H : Hp} {nx g n : Nat} {t : GT} {as : List (El t)} {xs : List (List DV)} (h1 : n = t.sz) (h : Both (RelT t) as xs) : CkR H nx (.arr t as) ⟨g, n, xs⟩ := ⟨h1, h⟩

theorem CkR.same {H H' : Hp} {nx nx' : Nat} (s : Same H nx H' nx') {c : ICk} {ck : Ck} (h : CkR H nx c ck) : CkR H' nx' c ck := by
  cases c with
  | box g cs =>
    obtain ⟨h1, ds, h2, h3, h4⟩ := h
    exact ⟨h1, ds, h2, ⟨h3.1, fun j a b => (h3.2 j a b).same s⟩, h4⟩
  | arr t as => exact h
  | wait => exact h

/-- A step, seen from both sides. -/
def Snd1 (P : Program) (op : ROp) (s : St) (T : List (Nat × IV)) (HI : IH) (v : IV) (u : UpI) (rd : List Nat) (wr : List Nat) : Prop :=
  ∃ d post nx', (∀ K : DV → Cks → Nat → List Nat → Prop, K d post nx' rd → awpX P op true s K) ∧ post.map (·.1) = wr ∧ ∀ dst, SR ⟨putI dst v (u.t T), u.h HI⟩ ⟨putT s.T dst d, puts s.H post, nx'⟩

def plainOp : ROp → Bool
  | .call .. | .alloc _ => false
  | _ => true
theorem awpX_plain {P : Program} {op : ROp} (hp : plainOp op = true) {s : St} {K : DV → Cks → Nat → List Nat → Prop} {d : DV} {u : Up} (h : ev op true s.T s.H s.nx = some (d, u)) (k : K d (u.post s.nx) (u.nx s.nx) (rds op true s.T)) : awpX P op true s K := by
  cases op with
  | call f xs => cases hp
  | alloc z => cases hp
  | app sz by' a x => exact .inl (by simp only [h, evK]; exact k)
  | mksl sz by' z l c => exact .inl (by simp only [h, evK]; exact k)
  | _ => simp only [awpX, h, evK]; exact k

section steps
variable {P : Program} {op : ROp} {s : St} {T : List (Nat × IV)} {HI : IH} {v : IV} {rd : List Nat}

theorem putT_rel {H : Hp} {nx : Nat} {T' : Nat → DV} (h : ∀ t, Rel H nx (getT T t) (T' t)) {d : DV} (hv : Rel H nx v d) (dst : Option Nat) : ∀ t, Rel H nx (getT (putI dst v T) t) (putT T' dst d t) := by
  intro t
  cases dst with
  | none => exact h t
  | some e =>
    simp only [putI, getT, putT, upd]
    by_cases he : t = e
    · subst he; rw [if_pos rfl, Nat.beq_refl]; exact hv
    · rw [if_neg he]
      have : Nat.beq e t = false := by
        cases hb : Nat.beq e t with
        | false => rfl
        | true => exact absurd (Nat.eq_of_beq_eq_true hb).symm he
      rw [this]; exact h t

theorem Snd1.no (hs : SR ⟨T, HI⟩ s) (hp : plainOp op = true) {d : DV} (h : ev op true s.T s.H s.nx = some (d, .no)) (hrd : rds op true s.T = rd) (hv : Rel s.H s.nx v d) : Snd1 P op s T HI v .no rd [] :=
  ⟨d, [], s.nx, fun K k => awpX_plain hp h (by rw [hrd]; exact k), rfl, fun dst => ⟨putT_rel hs.t hv dst, hs.h, hs.n⟩⟩

theorem same_put {o : Nat} {ck ck' : Ck} (hH : s.H o = some ck) (hg : ck'.gen = ck.gen) (hl : ck'.xs.length = ck.xs.length) : Same s.H s.nx (s.H.put o (some ck')) s.nx :=
  ⟨Nat.le_refl _, fun o' c hlt hc => by
    by_cases e : o' = o
    · subst e; rw [Hp.put_same] at hc; injection hc with hc; subst hc; exact ⟨ck, hH, hg.symm, hl.symm⟩
    · rw [Hp.put_ne _ _ _ e] at hc; exact ⟨c, hc, rfl, rfl⟩⟩

theorem Snd1.set (hs : SR ⟨T, HI⟩ s) (hp : plainOp op = true) {d : DV} {o : Nat} {c0 c : ICk} {ck ck' : Ck} (h : ev op true s.T s.H s.nx = some (d, .wr o ck')) (hrd : rds op true s.T = rd)
    (hc0 : getH HI o = some c0) (hH : s.H o = some ck) (hg : ck'.gen = ck.gen) (hl : ck'.xs.length = ck.xs.length) (hck : CkR s.H s.nx c ck') (hv : Rel s.H s.nx v d) : Snd1 P op s T HI v (.set o c) rd [o] := by
  have sm := same_put (s := s) hH hg hl
  refine ⟨d, [(o, ck')], s.nx, fun K k => awpX_plain hp h (by rw [hrd]; exact k), rfl, fun dst => ⟨?_, fun o' c' hc' => ?_, ?_⟩⟩
  · exact putT_rel (fun t => (hs.t t).same sm) (hv.same sm) dst
  · have hlt := (hs.h o c0 hc0).1
    simp only [UpI.h, getH_set] at hc'
    split at hc'
    · rename_i e
      obtain ⟨rfl, _⟩ := e
      injection hc' with hc'; subst hc'
      exact ⟨hlt, ck', Hp.put_same .., hck.same sm⟩
    · rename_i e
      have hne : o' ≠ o := fun e' => e ⟨e', by have := hs.n; simp only at this; omega⟩
      obtain ⟨h1, ck2, h2, h3⟩ := hs.h o' c' hc'
      exact ⟨h1, ck2, by show (s.H.put o (some ck')) o' = _; rw [Hp.put_ne _ _ _ hne]; exact h2, h3.same sm⟩
  · simp only [UpI.h, setH_len]; exact hs.n

theorem same_al {ck : Ck} : Same s.H s.nx (s.H.put s.nx (some ck)) (s.nx + 1) :=
  ⟨Nat.le_succ _, fun o' c hlt hc => by rw [Hp.put_ne _ _ _ (by omega)] at hc; exact ⟨c, hc, rfl, rfl⟩⟩

theorem SR.al (hs : SR ⟨T, HI⟩ s) {c : ICk} {ck : Ck} (hck : CkR s.H s.nx c ck) {d : DV} (hv : Rel (s.H.put s.nx (some ck)) (s.nx + 1) v d) (dst : Option Nat) : SR ⟨putI dst v T, HI ++ [some c]⟩ ⟨putT s.T dst d, s.H.put s.nx (some ck), s.nx + 1⟩ := by
  have sm := same_al (s := s) (ck := ck)
  refine ⟨?_, fun o' c' hc' => ?_, ?_⟩
  · exact putT_rel (fun t => (hs.t t).same sm) hv dst
  · simp only [getH_app] at hc'
    split at hc'
    · rename_i e
      injection hc' with hc'; subst hc'
      have : o' = s.nx := e.trans hs.n
      subst this
      exact ⟨Nat.lt_succ_self _, ck, Hp.put_same .., hck.same sm⟩
    · obtain ⟨h1, ck2, h2, h3⟩ := hs.h o' c' hc'
      exact ⟨Nat.lt_succ_of_lt h1, ck2, by show (s.H.put s.nx (some ck)) o' = _; rw [Hp.put_ne _ _ _ (by omega)]; exact h2, h3.same sm⟩
  · have := hs.n; simp only at this; simp [this]

theorem Snd1.al (hs : SR ⟨T, HI⟩ s) (hp : plainOp op = true) {d : DV} {c : ICk} {ck : Ck} (h : ev op true s.T s.H s.nx = some (d, .al ck)) (hrd : rds op true s.T = rd) (hck : CkR s.H s.nx c ck) (hv : Rel (s.H.put s.nx (some ck)) (s.nx + 1) v d) : Snd1 P op s T HI v (.al c) rd [HI.length] :=
  ⟨d, [(s.nx, ck)], s.nx + 1, fun K k => awpX_plain hp h (by rw [hrd]; exact k), by rw [show HI.length = s.nx from hs.n]; rfl, fun dst => hs.al hck hv dst⟩

theorem SR.grow (hs : SR ⟨T, HI⟩ s) {o : Nat} {c : ICk} {ck' : Ck} (hc0 : o < s.nx) (hck : CkR (s.H.put o (some ck')) s.nx c ck') {d : DV} (hv : Rel (s.H.put o (some ck')) s.nx v d) (dst : Option Nat) :
    SR ⟨putI dst v (killT o T), setH (killH o HI) o (some c)⟩ ⟨putT s.T dst d, s.H.put o (some ck'), s.nx⟩ := by
  have aw : Away o s.H s.nx (s.H.put o (some ck')) s.nx := ⟨Nat.le_refl _, fun o' c hlt hne hc => by rw [Hp.put_ne _ _ _ hne] at hc; exact ⟨c, hc, rfl, rfl⟩⟩
  refine ⟨?_, fun o' c' hc' => ?_, ?_⟩
  · exact putT_rel (fun t => by rw [killT_get]; exact killV_rel aw (hs.t t)) hv dst
  · simp only [getH_set, killH_len] at hc'
    split at hc'
    · rename_i e
      obtain ⟨rfl, _⟩ := e
      injection hc' with hc'; subst hc'
      exact ⟨hc0, ck', Hp.put_same .., hck⟩
    · rename_i e
      have hne : o' ≠ o := fun e' => e ⟨e', by have := hs.n; simp only at this; omega⟩
      rw [killH_get] at hc'
      cases hg : getH HI o' with
      | none => rw [hg] at hc'; cases hc'
      | some c1 =>
        rw [hg] at hc'
        obtain ⟨h1, ck2, h2, h3⟩ := hs.h o' c1 hg
        exact ⟨h1, ck2, by show (s.H.put o (some ck')) o' = _; rw [Hp.put_ne _ _ _ hne]; exact h2, killK_rel aw h3 hc'⟩
  · simp only [setH_len, killH_len]; exact hs.n

theorem Snd1.grow (hs : SR ⟨T, HI⟩ s) (hp : plainOp op = true) {d : DV} {o : Nat} {c : ICk} {ck' : Ck} (h : ev op true s.T s.H s.nx = some (d, .wr o ck')) (hrd : rds op true s.T = rd)
    (hc0 : o < s.nx) (hck : CkR (s.H.put o (some ck')) s.nx c ck') (hv : Rel (s.H.put o (some ck')) s.nx v d) : Snd1 P op s T HI v (.grow o c) rd [o] :=
  ⟨d, [(o, ck')], s.nx, fun K k => awpX_plain hp h (by rw [hrd]; exact k), rfl, fun dst => hs.grow hc0 hck hv dst⟩
end steps
end Go.Pv
