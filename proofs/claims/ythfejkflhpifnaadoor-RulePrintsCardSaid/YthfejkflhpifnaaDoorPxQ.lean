/- An array whose elements are arrays of their own, grown one by one (Nest): how it begins, an append to one of them, how all of it is frozen. No condition of its own: over any program. -/
import Derived.Test.YthfejkflhpifnaaDoorPxN
set_option linter.all false
namespace Go.Pv
open Go.RowKit

def encR (r : List Int) : List (List DV) := r.map fun x => [I x]
def nestX (base : Nat) (gs : Nat → Nat) (rows : List (List Int)) : List (List DV) := (List.range rows.length).map fun p => [.own (base + p) (gs p) 0 (rows.getD p []).length]
theorem nestX_len (base : Nat) (gs : Nat → Nat) (rows : List (List Int)) : (nestX base gs rows).length = rows.length := by simp [nestX]
theorem nestX_get {base : Nat} {gs : Nat → Nat} {rows : List (List Int)} {p : Nat} (hp : p < rows.length) : (nestX base gs rows)[p]? = some [.own (base + p) (gs p) 0 (rows.getD p []).length] := by
  simp [nestX, hp]
/-- An array o of arrays of their own, with numbers from base on. -/
structure Nest (H : Hp) (o g base : Nat) (gs : Nat → Nat) (rows : List (List Int)) : Prop where
  top : H o = some ⟨g, 1, nestX base gs rows⟩
  row : ∀ p, p < rows.length → H (base + p) = some ⟨gs p, 1, encR (rows.getD p [])⟩

/-- Cells of chunks are written anew, the heap's shape stays. -/
theorem Wk.cells {cx : Cx} {s : St} {H' : Hp} (hn : cx.nb ≤ s.nx) (sh : Shape s H' id s.nx)
    (hc : ∀ j ck' ck, H' j = some ck' → s.H j = some ck → ck' = ck ∨ ∀ i (h1 : i < ck'.xs.length) (h2 : i < ck.xs.length), ck'.xs[i].length = ck.xs[i].length ∧ ∀ c (h3 : c < ck'.xs[i].length) (h4 : c < ck.xs[i].length), Tr s H' id s.nx ck.xs[i][c] ck'.xs[i][c])
    {T' : Nat → DV} (ht : ∀ t, Tr s H' id s.nx (s.T t) (T' t)) : Wk cx s ⟨T', H', s.nx⟩ := by
  refine Wk.tr ⟨sh, fun j ck' ck h1 h2 i k1 k2 => ?_, fun j j' _ _ _ _ e => e, hn, fun _ _ => rfl⟩ ht
  rcases hc j ck' ck h1 h2 with rfl | h
  · exact ⟨rfl, fun c _ _ => id_tr sh⟩
  · exact h i k1 k2

def addR (rows : List (List Int)) (p : Nat) (x : Int) : List (List Int) := rows.set p (rows.getD p [] ++ [x])
theorem addR_len (rows : List (List Int)) (p : Nat) (x : Int) : (addR rows p x).length = rows.length := by simp [addR]

/-- An element is appended to one of the arrays. -/
theorem Nest.add {H : Hp} {o g base : Nat} {gs : Nat → Nat} {rows : List (List Int)} (h : Nest H o g base gs rows) {p : Nat} (hp : p < rows.length) (x : Int) (hob : o < base) :
    Nest ((H.put (base + p) (some ⟨gs p + 1, 1, encR (rows.getD p []) ++ [[I x]]⟩)).put o (some ⟨g, 1, (nestX base gs rows).set p [.own (base + p) (gs p + 1) 0 ((rows.getD p []).length + 1)]⟩)) o g base (fun q => if q = p then gs p + 1 else gs q) (addR rows p x) := by
  have getS : ∀ q, q < rows.length → (addR rows p x).getD q [] = if q = p then rows.getD p [] ++ [x] else rows.getD q [] := fun q hq => by
    unfold addR
    rw [List.getD_eq_getElem?_getD, List.getElem?_set]
    by_cases e : q = p
    · subst e; rw [if_pos rfl, if_pos hq, if_pos rfl]; rfl
    · rw [if_neg (fun e' => e e'.symm), if_neg e, List.getD_eq_getElem?_getD]
  refine ⟨?_, fun q hq => ?_⟩
  · rw [Hp.put_same]
    congr 2
    refine List.ext_getElem? fun q => ?_
    rw [List.getElem?_set, nestX_len]
    by_cases hq : q < rows.length
    · have e0 := nestX_get (base := base) (gs := fun q => if q = p then gs p + 1 else gs q) (rows := addR rows p x) (p := q) (by rw [addR_len]; exact hq)
      rw [e0, getS q hq]
      by_cases e : q = p
      · subst e; rw [if_pos rfl, if_pos hq, if_pos rfl, if_pos rfl]; simp
      · rw [if_neg (fun e' => e e'.symm), if_neg e, if_neg e, nestX_get hq]
    · have e0 : (nestX base (fun q => if q = p then gs p + 1 else gs q) (addR rows p x))[q]? = none := List.getElem?_eq_none (by rw [nestX_len, addR_len]; omega)
      rw [e0, if_neg (by omega), List.getElem?_eq_none (by rw [nestX_len]; omega)]
  · rw [addR_len] at hq
    rw [Hp.put_ne _ _ _ (by omega), getS q hq]
    by_cases e : q = p
    · subst e; rw [Hp.put_same, if_pos rfl, if_pos rfl]; simp [encR]
    · rw [Hp.put_ne _ _ _ (by omega), if_neg e, if_neg e]; exact h.row q hq

theorem Nest.keep {H H' : Hp} {o g base : Nat} {gs : Nat → Nat} {rows : List (List Int)} (h : Nest H o g base gs rows) (e : ∀ j, j < base + rows.length → H' j = H j) (hob : o < base) : Nest H' o g base gs rows :=
  ⟨by rw [e o (by omega)]; exact h.top, fun p hp => by rw [e _ (by omega)]; exact h.row p hp⟩

theorem flat_enc (r : List Int) : ∀ x ∈ encR r, ∀ c ∈ x, Ids (fun _ => False) c := fun x hx c hc => by
  obtain ⟨y, _, rfl⟩ := List.mem_map.1 hx
  rw [List.mem_singleton.1 hc]; exact .v _

/-- Chunks are forgotten, the rest is older than nx0. -/
theorem Wk.cut {cx : Cx} {T T' : Nat → DV} {H H1 : Hp} {nx nx0 : Nat} (hn : cx.nb ≤ nx0) (hx : nx0 ≤ nx) (h1 : ∀ j ck, H1 j = some ck → j < nx0 ∧ H j = some ck ∧ ∀ x ∈ ck.xs, ∀ c ∈ x, Ids (fun j => j < nx0) c)
    (ht : ∀ q, T' q = .any ∨ T' q = T q ∧ Ids (fun j => j < nx0) (T q)) : Wk cx ⟨T, H, nx⟩ ⟨T', H1, nx0⟩ := by
  have sh : Shape ⟨T, H, nx⟩ H1 id nx0 := ⟨fun j ck' hj => ⟨(h1 j ck' hj).1, ck', (h1 j ck' hj).2.1, rfl, rfl, rfl⟩⟩
  have tr : ∀ d, Ids (fun j => j < nx0) d → Tr ⟨T, H, nx⟩ H1 id nx0 d d := fun d hd ps M w x hR hv =>
    hv.monoS hd ⟨fun j hj _ => hj, fun j hj _ ck' hk => ⟨ck', (h1 j ck' hk).2.1, .inr ⟨rfl, rfl, Nat.le_refl _, rfl⟩⟩, fun b hb => .inl (sh.mu hb), fun _ _ _ => rfl⟩
  refine Wk.tr (s := ⟨T, H, nx⟩) ⟨sh, fun j ck' ck k1 k2 i k3 k4 => ?_, fun j j' _ _ _ _ e => e, hn, fun _ _ => rfl⟩ (fun q => ?_)
  · obtain ⟨_, k5, k6⟩ := h1 j ck' k1
    have k2 : H j = some ck := k2
    rw [k5] at k2; injection k2 with k2; subst k2
    exact ⟨rfl, fun c k7 _ => tr _ (k6 _ (List.getElem_mem k3) _ (List.getElem_mem k7))⟩
  · rcases ht q with e | ⟨e, hi⟩
    · rw [e]; exact fun ps M w x _ _ => .any x
    · rw [e]; exact tr _ hi
end Go.Pv
