/- An array whose elements are arrays of their own, grown one by one (Nest): how it begins, an append to one of them, how all of it is frozen. No condition of its own: over any program. -/
import Derived.Test.YtdmggkpefjpknaaPxN
set_option linter.all false
namespace Go.Pv
open Go.RowKit

def encR (r : List Int) : List (List DV) := r.map fun x => [I x]
def nestX (base : Nat) (gs : Nat → Nat) (rows : List (List Int)) : List (List DV) := (List.range rows.length).map fun p => [.own (base + p) (gs p) 0 (rows.getD p []).length]
theorem nestX_len (base : Nat) (gs : Nat → Nat) (rows : List (List Int)) : (nestX base gs rows).length = rows.length := by simp [nestX]
theorem nestX_get {base : Nat} {gs : Nat → Nat} {rows : List (List Int)} {p : Nat} (hp : p < rows.length) : (nestX base gs rows)[p]? = some [.own (base + p) (gs p) 0 (rows.getD p []).length] := by
  simp [nestX, hp]
theorem nestX_getD {base : Nat} {gs : Nat → Nat} {rows : List (List Int)} {p : Nat} (hp : p < rows.length) : (nestX base gs rows).getD p [] = [.own (base + p) (gs p) 0 (rows.getD p []).length] := by
  rw [List.getD_eq_getElem?_getD, nestX_get hp]; rfl

/-- An array o of arrays of their own, with numbers from base on. -/
structure Nest (H : Hp) (o g base : Nat) (gs : Nat → Nat) (rows : List (List Int)) : Prop where
  top : H o = some ⟨g, 1, nestX base gs rows⟩
  row : ∀ p, p < rows.length → H (base + p) = some ⟨gs p, 1, encR (rows.getD p [])⟩

def ghs (H : Hp) (nx n : Nat) : Hp := fun j => if nx ≤ j ∧ j < nx + n then some ⟨0, 1, []⟩ else H j
theorem ghs_wk {cx : Cx} {T : Nat → DV} {H : Hp} {nx : Nat} : ∀ n, Wk cx ⟨T, H, nx⟩ ⟨T, ghs H nx n, nx + n⟩
  | 0 => by
    have : ghs H nx 0 = H := by funext j; unfold ghs; rw [if_neg (by omega)]
    rw [this]; exact Wk.refl _ _
  | n + 1 => by
    refine (ghs_wk n).trans ?_
    have := Wk.ghost (cx := cx) (T := T) (H := ghs H nx n) (nx := nx + n) 1
    have e : (ghs H nx n).put (nx + n) (some ⟨0, 1, []⟩) = ghs H nx (n + 1) := by
      funext j; unfold Hp.put ghs
      by_cases h : j = nx + n
      · rw [if_pos h, if_pos (by omega)]
      · rw [if_neg h]
        by_cases h2 : nx ≤ j ∧ j < nx + n
        · rw [if_pos h2, if_pos (by omega)]
        · rw [if_neg h2, if_neg (by omega)]
    rw [e] at this
    exact this

/-- Cells of chunks are written anew, the heap's shape stays. -/
theorem Wk.cells {cx : Cx} {s : St} {H' : Hp} (hn : cx.nb ≤ s.nx) (sh : Shape s H' id s.nx)
    (hc : ∀ j ck' ck, H' j = some ck' → s.H j = some ck → ck' = ck ∨ ∀ i (h1 : i < ck'.xs.length) (h2 : i < ck.xs.length), ck'.xs[i].length = ck.xs[i].length ∧ ∀ c (h3 : c < ck'.xs[i].length) (h4 : c < ck.xs[i].length), Tr s H' id s.nx ck.xs[i][c] ck'.xs[i][c])
    {T' : Nat → DV} (ht : ∀ t, Tr s H' id s.nx (s.T t) (T' t)) : Wk cx s ⟨T', H', s.nx⟩ := by
  refine Wk.tr ⟨sh, fun j ck' ck h1 h2 i k1 k2 => ?_, fun j j' _ _ _ _ e => e, hn, fun _ _ => rfl⟩ ht
  rcases hc j ck' ck h1 h2 with rfl | h
  · exact ⟨rfl, fun c _ _ => id_tr sh⟩
  · exact h i k1 k2

/-- It begins. -/
theorem Nest.start {cx : Cx} {T : Nat → DV} {H : Hp} {nx o g n : Nat} (hn : cx.nb ≤ nx) (ho : o < nx) (hH : H o = some ⟨g, 1, List.replicate n [.lst true []]⟩) :
    ∃ H', Wk cx ⟨T, H, nx⟩ ⟨T, H', nx + n⟩ ∧ Nest H' o g nx (fun _ => 0) (List.replicate n []) ∧ ∀ j, j < nx → j ≠ o → H' j = H j := by
  have hG : ghs H nx n o = some ⟨g, 1, List.replicate n [.lst true []]⟩ := by unfold ghs; rw [if_neg (by omega)]; exact hH
  refine ⟨cutH ((ghs H nx n).put o (some ⟨g, 1, nestX nx (fun _ => 0) (List.replicate n [])⟩)) (nx + n), (ghs_wk n).trans ?_, ⟨?_, fun p hp => ?_⟩, fun j hj hjo => ?_⟩
  · have sh : Shape ⟨T, ghs H nx n, nx + n⟩ (cutH ((ghs H nx n).put o (some ⟨g, 1, nestX nx (fun _ => 0) (List.replicate n [])⟩)) (nx + n)) id (nx + n) := ⟨fun j ck' hj => by
      obtain ⟨h1, h2⟩ := cutH_some hj
      refine ⟨h1, ?_⟩
      by_cases e : j = o
      · subst e; rw [Hp.put_same] at h2; injection h2 with h2; subst h2
        exact ⟨_, hG, rfl, rfl, by simp [nestX_len]⟩
      · rw [Hp.put_ne _ _ _ e] at h2; exact ⟨ck', h2, rfl, rfl, rfl⟩⟩
    refine Wk.cells (s := ⟨T, ghs H nx n, nx + n⟩) (by show cx.nb ≤ nx + n; omega) sh (fun j ck' ck h1 h2 => ?_) (fun t => id_tr sh)
    obtain ⟨h3, h4⟩ := cutH_some h1
    by_cases e : j = o
    · subst e
      right
      rw [Hp.put_same] at h4; injection h4 with h4; subst h4
      have h2 : ghs H nx n j = some ck := h2
      rw [hG] at h2; injection h2 with h2; subst h2
      intro i k1 k2
      have hi : i < n := by simpa using k2
      have e1 : (nestX nx (fun _ => 0) (List.replicate n []))[i] = [.own (nx + i) 0 0 0] := by
        simp [nestX, hi]
      simp only [e1, List.getElem_replicate, List.length_cons, List.length_nil, true_and]
      intro c k3 k4
      have : c = 0 := by omega
      subst this
      exact fun ps M w x hR hv => nil_own hv (by show nx + i < nx + n; omega)
    · rw [Hp.put_ne _ _ _ e] at h4
      left
      have h2 : ghs H nx n j = some ck := h2
      rw [h4] at h2; injection h2
  · unfold cutH; rw [if_pos (by omega), Hp.put_same]
  · have hp' : p < n := by simpa using hp
    unfold cutH; rw [if_pos (by omega), Hp.put_ne _ _ _ (by omega)]
    unfold ghs; rw [if_pos (by omega)]
    simp [encR, hp']
  · unfold cutH; rw [if_pos (by omega), Hp.put_ne _ _ _ hjo]
    unfold ghs; rw [if_neg (by omega)]

def addR (rows : List (List Int)) (p : Nat) (x : Int) : List (List Int) := rows.set p (rows.getD p [] ++ [x])
theorem addR_len (rows : List (List Int)) (p : Nat) (x : Int) : (addR rows p x).length = rows.length := by simp [addR]

/-- An element is appended to one of the arrays. -/
theorem Nest.add {H : Hp} {o g base : Nat} {gs : Nat → Nat} {rows : List (List Int)} (h : Nest H o g base gs rows) {p : Nat} (hp : p < rows.length) (x : Int) (hob : o < base) :
    Nest ((H.put (base + p) (some ⟨gs p + 1, 1, encR (rows.getD p []) ++ [[I x]]⟩)).put o (some ⟨g, 1, (nestX base gs rows).set p [.own (base + p) (gs p + 1) 0 ((rows.getD p []).length + 1)]⟩)) o g base (fun q => if q = p then gs p + 1 else gs q) (addR rows p x) := by
  have getS : ∀ q, q < rows.length → (addR rows p x).getD q [] = if q = p then rows.getD p [] ++ [x] else rows.getD q [] := fun q hq => by
    unfold addR
    rw [List.getD_eq_getElem?_getD, List.getElem?_set]
    by_cases e : q = p
    · subst e; rw [if_pos rfl, if_pos hq, if_pos rfl]; rfl
    · rw [if_neg (fun e' => e e'.symm), if_neg e, List.getD_eq_getElem?_getD]
  refine ⟨?_, fun q hq => ?_⟩
  · rw [Hp.put_same]
    congr 2
    refine List.ext_getElem? fun q => ?_
    rw [List.getElem?_set, nestX_len]
    by_cases hq : q < rows.length
    · have e0 := nestX_get (base := base) (gs := fun q => if q = p then gs p + 1 else gs q) (rows := addR rows p x) (p := q) (by rw [addR_len]; exact hq)
      rw [e0, getS q hq]
      by_cases e : q = p
      · subst e; rw [if_pos rfl, if_pos hq, if_pos rfl, if_pos rfl]; simp
      · rw [if_neg (fun e' => e e'.symm), if_neg e, if_neg e, nestX_get hq]
    · have e0 : (nestX base (fun q => if q = p then gs p + 1 else gs q) (addR rows p x))[q]? = none := List.getElem?_eq_none (by rw [nestX_len, addR_len]; omega)
      rw [e0, if_neg (by omega), List.getElem?_eq_none (by rw [nestX_len]; omega)]
  · rw [addR_len] at hq
    rw [Hp.put_ne _ _ _ (by omega), getS q hq]
    by_cases e : q = p
    · subst e; rw [Hp.put_same, if_pos rfl, if_pos rfl]; simp [encR]
    · rw [Hp.put_ne _ _ _ (by omega), if_neg e, if_neg e]; exact h.row q hq

theorem Nest.keep {H H' : Hp} {o g base : Nat} {gs : Nat → Nat} {rows : List (List Int)} (h : Nest H o g base gs rows) (e : ∀ j, j < base + rows.length → H' j = H j) (hob : o < base) : Nest H' o g base gs rows :=
  ⟨by rw [e o (by omega)]; exact h.top, fun p hp => by rw [e _ (by omega)]; exact h.row p hp⟩

theorem flat_enc (r : List Int) : ∀ x ∈ encR r, ∀ c ∈ x, Ids (fun _ => False) c := fun x hx c hc => by
  obtain ⟨y, _, rfl⟩ := List.mem_map.1 hx
  rw [List.mem_singleton.1 hc]; exact .v _

/-- Chunks are forgotten, the rest is older than nx0. -/
theorem Wk.cut {cx : Cx} {T T' : Nat → DV} {H H1 : Hp} {nx nx0 : Nat} (hn : cx.nb ≤ nx0) (hx : nx0 ≤ nx) (h1 : ∀ j ck, H1 j = some ck → j < nx0 ∧ H j = some ck ∧ ∀ x ∈ ck.xs, ∀ c ∈ x, Ids (fun j => j < nx0) c)
    (ht : ∀ q, T' q = .any ∨ T' q = T q ∧ Ids (fun j => j < nx0) (T q)) : Wk cx ⟨T, H, nx⟩ ⟨T', H1, nx0⟩ := by
  have sh : Shape ⟨T, H, nx⟩ H1 id nx0 := ⟨fun j ck' hj => ⟨(h1 j ck' hj).1, ck', (h1 j ck' hj).2.1, rfl, rfl, rfl⟩⟩
  have tr : ∀ d, Ids (fun j => j < nx0) d → Tr ⟨T, H, nx⟩ H1 id nx0 d d := fun d hd ps M w x hR hv =>
    hv.monoS hd ⟨fun j hj _ => hj, fun j hj _ ck' hk => ⟨ck', (h1 j ck' hk).2.1, .inr ⟨rfl, rfl, Nat.le_refl _, rfl⟩⟩, fun b hb => .inl (sh.mu hb), fun _ _ _ => rfl⟩
  refine Wk.tr (s := ⟨T, H, nx⟩) ⟨sh, fun j ck' ck k1 k2 i k3 k4 => ?_, fun j j' _ _ _ _ e => e, hn, fun _ _ => rfl⟩ (fun q => ?_)
  · obtain ⟨_, k5, k6⟩ := h1 j ck' k1
    have k2 : H j = some ck := k2
    rw [k5] at k2; injection k2 with k2; subst k2
    exact ⟨rfl, fun c k7 _ => tr _ (k6 _ (List.getElem_mem k3) _ (List.getElem_mem k7))⟩
  · rcases ht q with e | ⟨e, hi⟩
    · rw [e]; exact fun ps M w x _ _ => .any x
    · rw [e]; exact tr _ hi
def frzN (H : Hp) (o g base : Nat) (rows : List (List Int)) (nx : Nat) : Hp := fun j => if j < nx then (if base ≤ j then none else if j = o then some ⟨g, 1, rows.map fun r => [.lst false (encR r)]⟩ else H j) else none
theorem frzN_some {H : Hp} {o g base : Nat} {rows : List (List Int)} {nx j : Nat} {ck : Ck} (h : frzN H o g base rows nx j = some ck) : j < nx ∧ j < base ∧ (j = o ∧ ck = ⟨g, 1, rows.map fun r => [.lst false (encR r)]⟩ ∨ j ≠ o ∧ H j = some ck) := by
  unfold frzN at h
  by_cases h1 : j < nx
  · rw [if_pos h1] at h
    by_cases h2 : base ≤ j
    · rw [if_pos h2] at h; cases h
    · rw [if_neg h2] at h
      by_cases h3 : j = o
      · rw [if_pos h3] at h; injection h with h; exact ⟨h1, by omega, .inl ⟨h3, h.symm⟩⟩
      · rw [if_neg h3] at h; exact ⟨h1, by omega, .inr ⟨h3, h⟩⟩
  · rw [if_neg h1] at h; cases h
/-- All of it is frozen; what is newer than nx0 is forgotten. -/
theorem Nest.freeze {cx : Cx} {T : Nat → DV} {H H1 : Hp} {nx nx0 o g base n t : Nat} {gs : Nat → Nat} {rows : List (List Int)} (h : Nest H o g base gs rows) (hn : cx.nb ≤ nx0) (ho : nx0 ≤ o) (hob : o < base) (hx : base + rows.length ≤ nx)
    (hT : T t = .own o g 0 rows.length) (h1 : ∀ j ck, H1 j = some ck → j < nx0 ∧ H j = some ck ∧ ∀ x ∈ ck.xs, ∀ c ∈ x, Ids (fun j => j < nx0) c) (T0 : Nat → DV) (h0 : ∀ q, T0 q = .any ∨ T0 q = T q ∧ q ≠ t ∧ Ids (fun j => j < nx0) (T q)) :
    Wk cx ⟨T, H, nx⟩ ⟨upd T0 t (.lst false (rows.map fun r => [.lst false (encR r)])), H1, nx0⟩ := by
  have top := h.top
  have sh : Shape ⟨T, H, nx⟩ (frzN H o g base rows nx) id nx := ⟨fun j ck' hj => by
    obtain ⟨h1, _, ⟨rfl, rfl⟩ | ⟨h3, h4⟩⟩ := frzN_some hj
    · exact ⟨h1, _, top, rfl, rfl, by simp [nestX_len]⟩
    · exact ⟨h1, ck', h4, rfl, rfl, rfl⟩⟩
  have w1 : Wk cx ⟨T, H, nx⟩ ⟨T, frzN H o g base rows nx, nx⟩ := by
    refine Wk.cells (s := ⟨T, H, nx⟩) (by show cx.nb ≤ nx; omega) sh (fun j ck' ck h1 h2 => ?_) (fun t => id_tr sh)
    have h2 : H j = some ck := h2
    obtain ⟨_, _, ⟨rfl, rfl⟩ | ⟨h3, h4⟩⟩ := frzN_some h1
    · right
      rw [top] at h2; injection h2 with h2; subst h2
      intro i k1 k2
      have hi : i < rows.length := by simpa using k1
      have e1 : (nestX base gs rows)[i] = [.own (base + i) (gs i) 0 (rows.getD i []).length] := by
        have := nestX_get (base := base) (gs := gs) hi
        rw [List.getElem?_eq_getElem (by rw [nestX_len]; exact hi)] at this
        injection this
      simp only [e1, List.getElem_map, List.length_cons, List.length_nil, true_and]
      intro c k3 k4
      have : c = 0 := by omega
      subst this
      have key := own_lst (s := ⟨T, H, nx⟩) (H' := frzN H j g base rows nx) (o := base + i) (ck := ⟨gs i, 1, encR (rows.getD i [])⟩) (h.row i hi) Nat.zero_lt_one (flat_enc _) sh (by unfold frzN; rw [if_pos (by omega), if_pos (by omega)]) (gs i) 0 (rows.getD i []).length rfl (by simp [encR])
      have e2 : ((encR (rows.getD i [])).drop 0).take (rows.getD i []).length = encR rows[i] := by
        have : rows.getD i [] = rows[i] := by simp [hi]
        rw [this, List.drop_zero]
        exact List.take_of_length_le (by simp [encR])
      simp only [e2] at key
      exact key
    · left
      rw [h4] at h2; injection h2
  have hHF : frzN H o g base rows nx o = some ⟨g, 1, rows.map fun r => [.lst false (encR r)]⟩ := by
    unfold frzN; rw [if_pos (by omega), if_neg (by omega), if_pos rfl]
  let HG : Hp := fun j => if j = o then none else frzN H o g base rows nx j
  have sh2 : Shape ⟨T, frzN H o g base rows nx, nx⟩ HG id nx := ⟨fun j ck' hj => by
    simp only [HG] at hj
    split at hj
    · cases hj
    · exact ⟨(frzN_some hj).1, ck', hj, rfl, rfl, rfl⟩⟩
  have w2 : Wk cx ⟨T, frzN H o g base rows nx, nx⟩ ⟨upd T t (.lst false (rows.map fun r => [.lst false (encR r)])), HG, nx⟩ := by
    refine Wk.cells (s := ⟨T, frzN H o g base rows nx, nx⟩) (by show cx.nb ≤ nx; omega) sh2 (fun j ck' ck h1 h2 => .inl ?_) (fun q => ?_)
    · simp only [HG] at h1
      split at h1
      · cases h1
      · have h2 : frzN H o g base rows nx j = some ck := h2
        rw [h1] at h2; injection h2
    · simp only [upd]
      by_cases e : q = t
      · subst e
        rw [if_pos rfl]
        have key := own_lst (s := ⟨T, frzN H o g base rows nx, nx⟩) (H' := HG) (o := o) (ck := ⟨g, 1, rows.map fun r => [.lst false (encR r)]⟩) hHF Nat.zero_lt_one (fun x hx c hc => by
          obtain ⟨r, _, rfl⟩ := List.mem_map.1 hx
          rw [List.mem_singleton.1 hc]
          exact .lst _ _ (flat_enc r)) sh2 (by simp [HG]) g 0 rows.length rfl (by simp)
        have e2 : ((rows.map fun r => [DV.lst false (encR r)]).drop 0).take rows.length = rows.map fun r => [DV.lst false (encR r)] := by
          rw [List.drop_zero]; exact List.take_of_length_le (by simp)
        simp only [e2] at key
        show Tr _ _ _ _ (T q) _
        rw [hT]; exact key
      · rw [if_neg e]; exact id_tr sh2
  refine w1.trans (w2.trans ?_)
  refine Wk.cut hn (by omega) (fun j ck hj => ?_) (fun q => ?_)
  · obtain ⟨k1, k2, k3⟩ := h1 j ck hj
    refine ⟨k1, ?_, k3⟩
    show (if j = o then none else frzN H o g base rows nx j) = _
    rw [if_neg (by omega)]
    unfold frzN; rw [if_pos (by omega), if_neg (by omega), if_neg (by omega)]; exact k2
  · simp only [upd]
    by_cases e : q = t
    · rw [if_pos e, if_pos e]
      refine .inr ⟨rfl, .lst _ _ fun x hx c hc => ?_⟩
      obtain ⟨r, _, rfl⟩ := List.mem_map.1 hx
      rw [List.mem_singleton.1 hc]
      exact (Ids.lst _ _ (flat_enc r)).mono' fun _ h => h.elim
    · rw [if_neg e, if_neg e]
      rcases h0 q with h0 | ⟨h1, _, h3⟩
      · exact .inl h0
      · exact .inr ⟨h1, h3⟩
end Go.Pv
