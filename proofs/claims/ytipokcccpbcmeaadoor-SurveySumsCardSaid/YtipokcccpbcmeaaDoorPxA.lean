/- Typed plain data (IV) for a walk by computation: types of Go (GT) and their elements (El), encodings, and the relation to the layer's plain data (DV). No condition of its own: definitions and lemmas over any program. -/
import Derived.Test.YtipokcccpbcmeaaDoorPvW
set_option linter.all false
namespace Go.Pv
open Go.RowKit

inductive GT where
  | int (k : IntKind)
  | bool
  | str
  | list (t : GT)
  | unit
  | pair (a b : GT)

def GT.eqb : GT → GT → Bool
  | .int k, .int k' => decide (k = k')
  | .bool, .bool => true
  | .str, .str => true
  | .list a, .list b => GT.eqb a b
  | .unit, .unit => true
  | .pair a b, .pair c d => GT.eqb a c && GT.eqb b d
  | _, _ => false
theorem GT.eqb_eq : ∀ (a b : GT), GT.eqb a b = true → a = b
  | .int k, b, h => by cases b <;> simp_all [GT.eqb]
  | .bool, b, h => by cases b <;> simp_all [GT.eqb]
  | .str, b, h => by cases b <;> simp_all [GT.eqb]
  | .unit, b, h => by cases b <;> simp_all [GT.eqb]
  | .list a, b, h => by
    cases b with
    | list c => rw [GT.eqb_eq a c (by simpa [GT.eqb] using h)]
    | _ => simp [GT.eqb] at h
  | .pair a a', b, h => by
    cases b with
    | pair c d =>
      simp only [GT.eqb, Bool.and_eq_true] at h
      rw [GT.eqb_eq a c h.1, GT.eqb_eq a' d h.2]
    | _ => simp [GT.eqb] at h

@[reducible] def El : GT → Type
  | .int _ => Int
  | .bool => Bool
  | .str => List UInt8
  | .list t => List (El t)
  | .unit => Unit
  | .pair a b => El a × El b

def castL (a b : GT) (x : List (El a)) : Option (List (El b)) :=
  match h : GT.eqb a b with
  | true => some ((GT.eqb_eq a b h) ▸ x)
  | false => none
theorem castL_some {a b : GT} {x : List (El a)} {y : List (El b)} (h : castL a b x = some y) : ∃ e : a = b, y = e ▸ x := by
  unfold castL at h
  split at h
  · rename_i he
    injection h with h
    exact ⟨GT.eqb_eq a b he, h.symm⟩
  · cases h

def GT.sz : GT → Nat
  | .int _ | .bool | .str | .list _ => 1
  | .unit => 0
  | .pair a b => a.sz + b.sz

def dflt : (t : GT) → El t
  | .int _ => (0 : Int)
  | .bool => false
  | .str => []
  | .list _ => []
  | .unit => ()
  | .pair a b => (dflt a, dflt b)

inductive IV where
  | int (k : IntKind) (n : Int)
  | bool (b : Bool)
  | str (s : List UInt8)
  | nil
  | lst (full : Bool) (t : GT) (as : List (El t))
  | raw (x : Value)
  | any
  | nn
  | ptr (o i off : Nat)
  | whole (o : Nat)
  | part (o lo n : Nat)
  | rp (cs : List IV)
  | agg (cs : List IV)
  | tup (vs : List IV)
  | fn (f : FuncId) (cs : List IV)

/-- The cells of an element of a type. -/
def encC : (t : GT) → El t → List IV
  | .int k, n => [.int k n]
  | .bool, b => [.bool b]
  | .str, s => [.str s]
  | .list t, as => [.lst false t as]
  | .unit, _ => []
  | .pair a b, x => encC a x.1 ++ encC b x.2

def Both {α β : Type} (R : α → β → Prop) (as : List α) (bs : List β) : Prop := as.length = bs.length ∧ ∀ j (h1 : j < as.length) (h2 : j < bs.length), R as[j] bs[j]

section both
variable {α β : Type} {R : α → β → Prop}
theorem Both.nil : Both R [] [] := ⟨rfl, fun j h => by cases h⟩
theorem Both.cons {a : α} {b : β} {as : List α} {bs : List β} (h : R a b) (k : Both R as bs) : Both R (a :: as) (b :: bs) :=
  ⟨by simp [k.1], fun j h1 h2 => by
    cases j with
    | zero => exact h
    | succ j => exact k.2 j (by simpa using h1) (by simpa using h2)⟩
theorem Both.cons_inv {a : α} {b : β} {as : List α} {bs : List β} (h : Both R (a :: as) (b :: bs)) : R a b ∧ Both R as bs :=
  ⟨h.2 0 (by simp) (by simp), by simpa using h.1, fun j h1 h2 => h.2 (j + 1) (by simpa using h1) (by simpa using h2)⟩
theorem Both.cons_l {a : α} {as : List α} {cs : List β} (h : Both R (a :: as) cs) : ∃ b bs, cs = b :: bs ∧ R a b ∧ Both R as bs := by
  cases cs with
  | nil => simp [Both] at h
  | cons b bs => exact ⟨b, bs, rfl, h.cons_inv⟩
theorem Both.nil_l {cs : List β} (h : Both R [] cs) : cs = [] := by
  cases cs with
  | nil => rfl
  | cons b bs => simp [Both] at h
theorem Both.one_l {a : α} {cs : List β} (h : Both R [a] cs) : ∃ b, cs = [b] ∧ R a b := by
  obtain ⟨b, bs, rfl, h1, h2⟩ := h.cons_l
  have := h2.nil_l; subst this
  exact ⟨b, rfl, h1⟩
theorem Both.one {a : α} {b : β} (h : R a b) : Both R [a] [b] := Both.nil.cons h
theorem Both.append {a c : List α} {b d : List β} (h : Both R a b) (k : Both R c d) : Both R (a ++ c) (b ++ d) := by
  refine ⟨by simp [h.1, k.1], fun j h1 h2 => ?_⟩
  rw [List.getElem_append, List.getElem_append]
  split
  · rw [dif_pos (by rw [← h.1]; assumption)]; exact h.2 j _ _
  · rw [dif_neg (by rw [← h.1]; assumption)]
    have := k.2 (j - a.length) (by simp at h1; omega) (by simp at h2; have := h.1; omega)
    simpa only [h.1] using this
theorem Both.mono {R' : α → β → Prop} (hR : ∀ a b, R a b → R' a b) {a : List α} {b : List β} (h : Both R a b) : Both R' a b := ⟨h.1, fun j h1 h2 => hR _ _ (h.2 j h1 h2)⟩
theorem Both.drop {a : List α} {b : List β} (h : Both R a b) (n : Nat) : Both R (a.drop n) (b.drop n) := by
  refine ⟨by simp [h.1], fun j h1 h2 => ?_⟩
  simp only [List.getElem_drop]
  exact h.2 _ _ _
theorem Both.take {a : List α} {b : List β} (h : Both R a b) (n : Nat) : Both R (a.take n) (b.take n) := by
  refine ⟨by simp [h.1], fun j h1 h2 => ?_⟩
  simp only [List.getElem_take]
  exact h.2 _ _ _
theorem Both.set {a : List α} {b : List β} (h : Both R a b) (n : Nat) {x : α} {y : β} (k : R x y) : Both R (a.set n x) (b.set n y) := by
  refine ⟨by simp [h.1], fun j h1 h2 => ?_⟩
  simp only [List.getElem_set]
  split
  · exact k
  · exact h.2 _ _ _
theorem Both.get? {a : List α} {b : List β} (h : Both R a b) {n : Nat} {x : α} (hx : a[n]? = some x) : ∃ y, b[n]? = some y ∧ R x y := by
  obtain ⟨hn, rfl⟩ := List.getElem?_eq_some_iff.1 hx
  have hn2 : n < b.length := by rw [← h.1]; exact hn
  exact ⟨b[n], List.getElem?_eq_getElem hn2, h.2 n hn hn2⟩
theorem Both.getD {a : List α} {b : List β} (h : Both R a b) {n : Nat} (x : α) (y : β) (hn : n < a.length) : R (a.getD n x) (b.getD n y) := by
  have hn2 : n < b.length := by rw [← h.1]; exact hn
  simp only [List.getD_eq_getElem?_getD, List.getElem?_eq_getElem hn, List.getElem?_eq_getElem hn2, Option.getD_some]
  exact h.2 n hn hn2
theorem Both.replicate {x : α} {y : β} (n : Nat) (h : R x y) : Both R (List.replicate n x) (List.replicate n y) := ⟨by simp, fun j h1 h2 => by simpa using h⟩
theorem Both.split {a c : List α} {bs : List β} (h : Both R (a ++ c) bs) : ∃ b d, bs = b ++ d ∧ Both R a b ∧ Both R c d := by
  refine ⟨bs.take a.length, bs.drop a.length, (List.take_append_drop _ _).symm, ?_, ?_⟩
  · have := h.take a.length; simpa using this
  · have := h.drop a.length; simpa using this
theorem Both.of_map {γ : Type} {f : γ → α} {g : γ → β} (l : List γ) (h : ∀ x, R (f x) (g x)) : Both R (l.map f) (l.map g) := ⟨by simp, fun j h1 h2 => by simpa using h _⟩
end both

/-- The cells of an element, on the layer's plain data; the capacity of lists is left open. -/
def RelT : (t : GT) → El t → List DV → Prop
  | .int k, n, ds => ds = [.v (.int k n)]
  | .bool, b, ds => ds = [.v (.bool b)]
  | .str, s, ds => ds = [.v (.string (mkS s))]
  | .list t, as, ds => ∃ f xs, ds = [.lst f xs] ∧ Both (RelT t) as xs
  | .unit, _, ds => ds = []
  | .pair a b, x, ds => ∃ d1 d2, ds = d1 ++ d2 ∧ RelT a x.1 d1 ∧ RelT b x.2 d2

theorem RelT.len : ∀ (t : GT) (x : El t) (ds : List DV), RelT t x ds → ds.length = t.sz
  | .int k, n, ds, h => by rw [show ds = _ from h]; rfl
  | .bool, b, ds, h => by rw [show ds = _ from h]; rfl
  | .str, s, ds, h => by rw [show ds = _ from h]; rfl
  | .list t, as, ds, h => by obtain ⟨f, xs, rfl, _⟩ := h; rfl
  | .unit, _, ds, h => by rw [show ds = _ from h]; rfl
  | .pair a b, x, ds, h => by
    obtain ⟨d1, d2, rfl, h1, h2⟩ := h
    simp [GT.sz, RelT.len a _ _ h1, RelT.len b _ _ h2]

theorem RelT.ids : ∀ (t : GT) (x : El t) (ds : List DV), RelT t x ds → ∀ d, d ∈ ds → Ids (fun _ => False) d
  | .int k, n, ds, h => by rw [show ds = _ from h]; intro d hd; rw [List.mem_singleton.1 hd]; exact .v _
  | .bool, b, ds, h => by rw [show ds = _ from h]; intro d hd; rw [List.mem_singleton.1 hd]; exact .v _
  | .str, s, ds, h => by rw [show ds = _ from h]; intro d hd; rw [List.mem_singleton.1 hd]; exact .v _
  | .list t, as, ds, h => by
    obtain ⟨f, xs, rfl, h⟩ := h
    intro d hd
    rw [List.mem_singleton.1 hd]
    refine .lst _ _ fun x hx c hc => ?_
    obtain ⟨j, hj, rfl⟩ := List.mem_iff_getElem.1 hx
    exact RelT.ids t _ _ (h.2 j (by rw [h.1]; exact hj) hj) c hc
  | .unit, _, ds, h => by rw [show ds = _ from h]; intro d hd; cases hd
  | .pair a b, x, ds, h => by
    obtain ⟨d1, d2, rfl, h1, h2⟩ := h
    intro d hd
    rcases List.mem_append.1 hd with hd | hd
    · exact RelT.ids a _ _ h1 d hd
    · exact RelT.ids b _ _ h2 d hd

/-- Plain data of the walk and of the layer, in a heap. -/
inductive Rel (H : Hp) (nx : Nat) : IV → DV → Prop
  | int (k : IntKind) (n : Int) : Rel H nx (.int k n) (.v (.int k n))
  | bool (b : Bool) : Rel H nx (.bool b) (.v (.bool b))
  | str (s : List UInt8) : Rel H nx (.str s) (.v (.string (mkS s)))
  | nil : Rel H nx .nil (.lst true [])
  | lst (f f' : Bool) (t : GT) (as : List (El t)) (xs : List (List DV)) (hf : f = true → f' = true) (h : Both (RelT t) as xs) : Rel H nx (.lst f t as) (.lst f' xs)
  | raw (x : Value) : Rel H nx (.raw x) (.v x)
  | any (d : DV) : Rel H nx .any d
  | nn : Rel H nx .nn .nn
  | ptr (o g i off : Nat) (ho : o < nx) (h : ∀ ck, H o = some ck → ck.gen = g ∧ i < ck.xs.length) : Rel H nx (.ptr o i off) (.ptr o g i off)
  | whole (o g n : Nat) (ho : o < nx) (h : ∀ ck, H o = some ck → ck.gen = g ∧ ck.xs.length = n) : Rel H nx (.whole o) (.own o g 0 n)
  | part (o g lo n : Nat) (ho : o < nx) (h : ∀ ck, H o = some ck → ck.gen = g ∧ lo + n ≤ ck.xs.length) : Rel H nx (.part o lo n) (.own o g lo n)
  | rp (cs : List IV) (ds : List DV) (hl : cs.length = ds.length) (h : ∀ j (h1 : j < cs.length) (h2 : j < ds.length), Rel H nx cs[j] ds[j]) : Rel H nx (.rp cs) (.rp ds)
  | agg (cs : List IV) (ds : List DV) (hl : cs.length = ds.length) (h : ∀ j (h1 : j < cs.length) (h2 : j < ds.length), Rel H nx cs[j] ds[j]) : Rel H nx (.agg cs) (.agg ds)
  | tup (cs : List IV) (ds : List DV) (hl : cs.length = ds.length) (h : ∀ j (h1 : j < cs.length) (h2 : j < ds.length), Rel H nx cs[j] ds[j]) : Rel H nx (.tup cs) (.tup ds)
  | fn (f : FuncId) (cs : List IV) (ds : List DV) (hl : cs.length = ds.length) (h : ∀ j (h1 : j < cs.length) (h2 : j < ds.length), Rel H nx cs[j] ds[j]) : Rel H nx (.fn f cs) (.fn f ds)

abbrev Rels (H : Hp) (nx : Nat) : List IV → List DV → Prop := Both (Rel H nx)

section rel
variable {H H' : Hp} {nx nx' : Nat}

theorem Rel.aggB {cs : List IV} {ds : List DV} (h : Rels H nx cs ds) : Rel H nx (.agg cs) (.agg ds) := .agg _ _ h.1 h.2
theorem Rel.rpB {cs : List IV} {ds : List DV} (h : Rels H nx cs ds) : Rel H nx (.rp cs) (.rp ds) := .rp _ _ h.1 h.2
theorem Rel.tupB {cs : List IV} {ds : List DV} (h : Rels H nx cs ds) : Rel H nx (.tup cs) (.tup ds) := .tup _ _ h.1 h.2
theorem Rel.fnB {f : FuncId} {cs : List IV} {ds : List DV} (h : Rels H nx cs ds) : Rel H nx (.fn f cs) (.fn f ds) := .fn _ _ _ h.1 h.2
theorem Rel.int_inv {k : IntKind} {n : Int} {d : DV} (h : Rel H nx (.int k n) d) : d = .v (.int k n) := by cases h; rfl
theorem Rel.bool_inv {b : Bool} {d : DV} (h : Rel H nx (.bool b) d) : d = .v (.bool b) := by cases h; rfl
theorem Rel.str_inv {b : List UInt8} {d : DV} (h : Rel H nx (.str b) d) : d = .v (.string (mkS b)) := by cases h; rfl
theorem Rel.raw_inv {b : Value} {d : DV} (h : Rel H nx (.raw b) d) : d = .v b := by cases h; rfl
theorem Rel.nn_inv {d : DV} (h : Rel H nx .nn d) : d = .nn := by cases h; rfl
theorem Rel.nil_inv {d : DV} (h : Rel H nx .nil d) : d = .lst true [] := by cases h; rfl
theorem Rel.lst_inv {f : Bool} {t : GT} {as : List (El t)} {d : DV} (h : Rel H nx (.lst f t as) d) : ∃ f' xs, d = .lst f' xs ∧ (f = true → f' = true) ∧ Both (RelT t) as xs := by
  cases h with
  | lst _ f' _ _ xs hf h => exact ⟨f', xs, rfl, hf, h⟩
theorem Rel.ptr_inv {o i off : Nat} {d : DV} (h : Rel H nx (.ptr o i off) d) : ∃ g, d = .ptr o g i off ∧ o < nx ∧ ∀ ck, H o = some ck → ck.gen = g ∧ i < ck.xs.length := by
  cases h with
  | ptr _ g _ _ ho h => exact ⟨g, rfl, ho, h⟩
theorem Rel.whole_inv {o : Nat} {d : DV} (h : Rel H nx (.whole o) d) : ∃ g n, d = .own o g 0 n ∧ o < nx ∧ ∀ ck, H o = some ck → ck.gen = g ∧ ck.xs.length = n := by
  cases h with
  | whole _ g n ho h => exact ⟨g, n, rfl, ho, h⟩
theorem Rel.part_inv {o lo n : Nat} {d : DV} (h : Rel H nx (.part o lo n) d) : ∃ g, d = .own o g lo n ∧ o < nx ∧ ∀ ck, H o = some ck → ck.gen = g ∧ lo + n ≤ ck.xs.length := by
  cases h with
  | part _ g _ _ ho h => exact ⟨g, rfl, ho, h⟩
theorem Rel.agg_inv {cs : List IV} {d : DV} (h : Rel H nx (.agg cs) d) : ∃ ds, d = .agg ds ∧ Rels H nx cs ds := by
  cases h with
  | agg _ ds hl h => exact ⟨ds, rfl, hl, h⟩
theorem Rel.rp_inv {cs : List IV} {d : DV} (h : Rel H nx (.rp cs) d) : ∃ ds, d = .rp ds ∧ Rels H nx cs ds := by
  cases h with
  | rp _ ds hl h => exact ⟨ds, rfl, hl, h⟩
theorem Rel.tup_inv {cs : List IV} {d : DV} (h : Rel H nx (.tup cs) d) : ∃ ds, d = .tup ds ∧ Rels H nx cs ds := by
  cases h with
  | tup _ ds hl h => exact ⟨ds, rfl, hl, h⟩
theorem Rel.fn_inv {f : FuncId} {cs : List IV} {d : DV} (h : Rel H nx (.fn f cs) d) : ∃ ds, d = .fn f ds ∧ Rels H nx cs ds := by
  cases h with
  | fn _ _ ds hl h => exact ⟨ds, rfl, hl, h⟩

/-- The relation stays when no chunk that is there turns in its number of elements. -/
structure Same (H : Hp) (nx : Nat) (H' : Hp) (nx' : Nat) : Prop where
  n : nx ≤ nx'
  h : ∀ o ck', o < nx → H' o = some ck' → ∃ ck, H o = some ck ∧ ck.gen = ck'.gen ∧ ck.xs.length = ck'.xs.length
theorem Same.refl : Same H nx H nx := ⟨Nat.le_refl _, fun o ck _ h => ⟨ck, h, rfl, rfl⟩⟩
theorem Rel.same (s : Same H nx H' nx') {v : IV} {d : DV} (h : Rel H nx v d) : Rel H' nx' v d := by
  induction h with
  | int k n => exact .int k n
  | bool b => exact .bool b
  | str b => exact .str b
  | nil => exact .nil
  | lst f f' t as xs hf h => exact .lst f f' t as xs hf h
  | raw x => exact .raw x
  | any d => exact .any d
  | nn => exact .nn
  | ptr o g i off ho h =>
    refine .ptr o g i off (Nat.lt_of_lt_of_le ho s.n) fun ck' hk => ?_
    obtain ⟨ck, h1, h2, h3⟩ := s.h o ck' ho hk
    have := h ck h1
    exact ⟨by omega, by omega⟩
  | whole o g n ho h =>
    refine .whole o g n (Nat.lt_of_lt_of_le ho s.n) fun ck' hk => ?_
    obtain ⟨ck, h1, h2, h3⟩ := s.h o ck' ho hk
    have := h ck h1
    exact ⟨by omega, by omega⟩
  | part o g lo n ho h =>
    refine .part o g lo n (Nat.lt_of_lt_of_le ho s.n) fun ck' hk => ?_
    obtain ⟨ck, h1, h2, h3⟩ := s.h o ck' ho hk
    have := h ck h1
    exact ⟨by omega, by omega⟩
  | rp cs ds hl _ ih => exact .rp cs ds hl ih
  | agg cs ds hl _ ih => exact .agg cs ds hl ih
  | tup cs ds hl _ ih => exact .tup cs ds hl ih
  | fn f cs ds hl _ ih => exact .fn f cs ds hl ih

theorem encC_rel : ∀ (t : GT) (x : El t) (ds : List DV), RelT t x ds → Rels H nx (encC t x) ds
  | .int k, n, ds, h => by rw [show ds = _ from h]; exact .one (.int k n)
  | .bool, b, ds, h => by rw [show ds = _ from h]; exact .one (.bool b)
  | .str, s, ds, h => by rw [show ds = _ from h]; exact .one (.str s)
  | .list t, as, ds, h => by
    obtain ⟨f, xs, rfl, h⟩ := h
    exact .one (.lst _ _ _ _ _ (fun e => by cases e) h)
  | .unit, _, ds, h => by rw [show ds = _ from h]; exact .nil
  | .pair a b, x, ds, h => by
    obtain ⟨d1, d2, rfl, h1, h2⟩ := h
    exact (encC_rel a _ _ h1).append (encC_rel b _ _ h2)

/-- A typed reading of cells. -/
def decC : (t : GT) → List IV → Option (El t × List IV)
  | .int k, cs => match cs with
    | .int k' n :: r => if k = k' then some (n, r) else none
    | _ => none
  | .bool, cs => match cs with
    | .bool b :: r => some (b, r)
    | _ => none
  | .str, cs => match cs with
    | .str s :: r => some (s, r)
    | _ => none
  | .list t, cs => match cs with
    | .nil :: r => some ([], r)
    | .lst _ t' as :: r => match castL t' t as with
      | some as' => some (as', r)
      | none => none
    | _ => none
  | .unit, cs => some ((), cs)
  | .pair a b, cs => match decC a cs with
    | some (x, r) => match decC b r with
      | some (y, r') => some ((x, y), r')
      | none => none
    | none => none
def dec (t : GT) (cs : List IV) : Option (El t) := match decC t cs with
  | some (x, []) => some x
  | _ => none

theorem decC_rel : ∀ (t : GT) (cs : List IV) (x : El t) (r : List IV) (ds : List DV), decC t cs = some (x, r) → Rels H nx cs ds → ∃ d1 d2, ds = d1 ++ d2 ∧ RelT t x d1 ∧ Rels H nx r d2
  | .int k, cs, x, r, ds, h, hr => by
    simp only [decC] at h
    split at h
    · rename_i k' n r'
      split at h
      · rename_i hk; subst hk
        simp only [Option.some.injEq, Prod.mk.injEq] at h
        obtain ⟨rfl, rfl⟩ := h
        obtain ⟨d, ds, rfl, h1, h2⟩ := hr.cons_l
        exact ⟨[d], ds, rfl, by rw [h1.int_inv]; rfl, h2⟩
      · cases h
    · cases h
  | .bool, cs, x, r, ds, h, hr => by
    simp only [decC] at h
    split at h
    · simp only [Option.some.injEq, Prod.mk.injEq] at h
      obtain ⟨rfl, rfl⟩ := h
      obtain ⟨d, ds, rfl, h1, h2⟩ := hr.cons_l
      exact ⟨[d], ds, rfl, by rw [h1.bool_inv]; rfl, h2⟩
    · cases h
  | .str, cs, x, r, ds, h, hr => by
    simp only [decC] at h
    split at h
    · simp only [Option.some.injEq, Prod.mk.injEq] at h
      obtain ⟨rfl, rfl⟩ := h
      obtain ⟨d, ds, rfl, h1, h2⟩ := hr.cons_l
      exact ⟨[d], ds, rfl, by rw [h1.str_inv]; rfl, h2⟩
    · cases h
  | .list t, cs, x, r, ds, h, hr => by
    simp only [decC] at h
    split at h
    · simp only [Option.some.injEq, Prod.mk.injEq] at h
      obtain ⟨rfl, rfl⟩ := h
      obtain ⟨d, ds, rfl, h1, h2⟩ := hr.cons_l
      rw [h1.nil_inv]
      exact ⟨[.lst true []], ds, rfl, ⟨true, [], rfl, .nil⟩, h2⟩
    · rename_i f t' as r'
      split at h
      · rename_i as' hc
        simp only [Option.some.injEq, Prod.mk.injEq] at h
        obtain ⟨rfl, rfl⟩ := h
        obtain ⟨d, ds, rfl, h1, h2⟩ := hr.cons_l
        obtain ⟨rfl, rfl⟩ := castL_some hc
        obtain ⟨f', xs, rfl, _, h3⟩ := h1.lst_inv
        exact ⟨[.lst f' xs], ds, rfl, ⟨f', xs, rfl, h3⟩, h2⟩
      · cases h
    · cases h
  | .unit, cs, x, r, ds, h, hr => by
    simp only [decC, Option.some.injEq, Prod.mk.injEq] at h
    obtain ⟨_, rfl⟩ := h
    exact ⟨[], ds, rfl, rfl, hr⟩
  | .pair a b, cs, x, r, ds, h, hr => by
    simp only [decC] at h
    split at h
    · rename_i y r1 h1
      split at h
      · rename_i z r2 h2
        simp only [Option.some.injEq, Prod.mk.injEq] at h
        obtain ⟨rfl, rfl⟩ := h
        obtain ⟨d1, d2, rfl, k1, k2⟩ := decC_rel a cs y r1 ds h1 hr
        obtain ⟨d3, d4, rfl, k3, k4⟩ := decC_rel b r1 z r2 d2 h2 k2
        exact ⟨d1 ++ d3, d4, by simp, ⟨d1, d3, rfl, k1, k3⟩, k4⟩
      · cases h
    · cases h

theorem dec_rel {t : GT} {cs : List IV} {x : El t} {ds : List DV} (h : dec t cs = some x) (hr : Rels H nx cs ds) : RelT t x ds := by
  unfold dec at h
  split at h
  · rename_i y hy
    injection h with h; subst h
    obtain ⟨d1, d2, rfl, h1, h2⟩ := decC_rel t cs y [] ds hy hr
    rw [h2.nil_l, List.append_nil]; exact h1
  · cases h

end rel
end Go.Pv
