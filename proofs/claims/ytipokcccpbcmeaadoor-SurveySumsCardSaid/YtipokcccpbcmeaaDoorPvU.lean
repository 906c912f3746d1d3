/- Arguments from the outside, read as plain data; a law's last step. No condition of its own: over any program. -/
import Derived.Test.YtipokcccpbcmeaaDoorPvT
import Derived.OpenShut
import Derived.ChangeOld
import Derived.Deep.Slices
set_option linter.all false
namespace Go.Pv
open Go.RowKit Go.WideShapes Go.ChangeShapes

inductive Shp where
  | bo
  | it (k : IntKind)
  | st
  | sl (l : List Shp)

inductive Ty : Shp → DV → Prop
  | bo (x : Bool) : Ty .bo (B x)
  | it (k : IntKind) (n : Int) (h : (Lit.int k n).wf = true) : Ty (.it k) (.v (.int k n))
  | st (x : ByteArray) (h : x.size ≤ maxLen) : Ty .st (.v (.string x))
  | sl (ss : List Shp) (xs : List (List DV)) (hl : xs.length ≤ maxLen) (hz : ∀ x, x ∈ xs → x.length = ss.length) (h : ∀ x, x ∈ xs → ∀ j, j < ss.length → Ty (ss.getD j .bo) (x.getD j .any)) : Ty (.sl ss) (.lst false xs)

def TyL (ss : List Shp) (ds : List DV) : Prop := ds.length = ss.length ∧ ∀ j, j < ss.length → Ty (ss.getD j .bo) (ds.getD j .any)

theorem TyL.nil {ds : List DV} (h : TyL [] ds) : ds = [] := List.length_eq_zero_iff.1 h.1
theorem TyL.cons {s : Shp} {ss : List Shp} {ds : List DV} (h : TyL (s :: ss) ds) : ∃ d r, ds = d :: r ∧ Ty s d ∧ TyL ss r := by
  obtain ⟨h1, h2⟩ := h
  cases ds with
  | nil => simp at h1
  | cons d r => exact ⟨d, r, rfl, h2 0 (by simp), by simpa using h1, fun j hj => h2 (j + 1) (by simpa using hj)⟩

theorem Ty.bool {d : DV} (h : Ty .bo d) : ∃ x, d = B x := by cases h; exact ⟨_, rfl⟩
theorem Ty.int {k : IntKind} {d : DV} (h : Ty (.it k) d) : ∃ n, d = .v (.int k n) ∧ (Lit.int k n).wf = true := by cases h with | it _ n h => exact ⟨n, rfl, h⟩
theorem Ty.str {d : DV} (h : Ty .st d) : ∃ x : ByteArray, d = .v (.string x) ∧ x.size ≤ maxLen := by cases h with | st x h => exact ⟨x, rfl, h⟩
theorem Ty.slc {ss : List Shp} {d : DV} (h : Ty (.sl ss) d) : ∃ xs, d = .lst false xs ∧ xs.length ≤ maxLen ∧ ∀ x, x ∈ xs → TyL ss x := by
  cases h with | sl _ xs hl hz h => exact ⟨xs, rfl, hl, fun x hx => ⟨hz x hx, h x hx⟩⟩
/-- A list whose elements are given by a function. -/
theorem Ty.list {α : Type} {ss : List Shp} {d : DV} {e : α → List DV} {Q : α → Prop} (h : Ty (.sl ss) d) (he : ∀ x, TyL ss x → ∃ a, x = e a ∧ Q a) : ∃ as : List α, d = .lst false (as.map e) ∧ as.length ≤ maxLen ∧ ∀ a, a ∈ as → Q a := by
  obtain ⟨xs, rfl, hl, hx⟩ := h.slc
  have : ∃ as : List α, xs = as.map e ∧ ∀ a, a ∈ as → Q a := by
    clear hl h
    induction xs with
    | nil => exact ⟨[], rfl, fun a ha => by cases ha⟩
    | cons x r ih =>
      obtain ⟨as, rfl, hq⟩ := ih fun y hy => hx y (List.mem_cons_of_mem _ hy)
      obtain ⟨a, rfl, ha⟩ := he x (hx x (by simp))
      exact ⟨a :: as, rfl, fun b hb => by rcases List.mem_cons.1 hb with rfl | hb; exact ha; exact hq b hb⟩
  obtain ⟨as, rfl, hq⟩ := this
  exact ⟨as, rfl, by simpa using hl, hq⟩
/-- The cells of a type. -/
def shpF (rec : TypeId → Option (List Shp)) (sz : TypeId → Nat) : Nat → List Field → Option (List Shp)
  | _, [] => some []
  | off, f :: r => match rec f.type with
    | some l => if f.offset = off ∧ sz f.type = l.length then (shpF rec sz (off + l.length) r).map (l ++ ·) else none
    | none => none
def shpN (l : List Shp) : Nat → List Shp
  | 0 => []
  | k + 1 => l ++ shpN l k
def shpT (P : Program) : Nat → TypeId → Option (List Shp)
  | 0, _ => none
  | d + 1, t => match P.underlying t with
    | some .bool => some [.bo]
    | some (.int k) => some [.it k]
    | some .string => some [.st]
    | some (.slice e) => match shpT P d e with
      | some l => if P.cellsOf e = l.length ∧ 0 < l.length then some [.sl l] else none
      | none => none
    | some (.struct fs) => match shpF (shpT P d) P.cellsOf 0 fs.toList with
      | some l => if P.cellsOf t = l.length then some l else none
      | none => none
    | some (.array n e) => match shpT P d e with
      | some l => if P.cellsOf e = l.length ∧ P.cellsOf t = (shpN l n).length then some (shpN l n) else none
      | none => none
    | _ => none

def CellsOK (w : World) (ss : List Shp) (cs : List Value) : Prop := ∃ ds : List DV, cs.length = ss.length ∧ (∀ j, j < ss.length → (cs.getD j undef).oneCell' = true) ∧ (∀ j, j < ss.length → Rd w (ds.getD j .any) (cs.getD j undef)) ∧ TyL ss ds

theorem CellsOK.one {w : World} {s : Shp} {d : DV} {v : Value} (h1 : v.oneCell' = true) (h2 : Rd w d v) (h3 : Ty s d) : CellsOK w [s] [v] :=
  ⟨[d], rfl, fun j hj => by have : j = 0 := by simpa using hj
                            subst this; exact h1, fun j hj => by have : j = 0 := by simpa using hj
                                                                 subst this; exact h2, rfl, fun j hj => by have : j = 0 := by simpa using hj
                                                                                                           subst this; exact h3⟩
theorem CellsOK.nil (w : World) : CellsOK w [] [] := ⟨[], rfl, fun j hj => by simp at hj, fun j hj => by simp at hj, rfl, fun j hj => by simp at hj⟩
theorem getD_app {α : Type} {a b : List α} {j : Nat} {z : α} : (a ++ b).getD j z = if j < a.length then a.getD j z else b.getD (j - a.length) z := by
  simp only [List.getD_eq_getElem?_getD, List.getElem?_append]; split <;> rfl
theorem CellsOK.app {w : World} {s1 s2 : List Shp} {c1 c2 : List Value} (h : CellsOK w s1 c1) (k : CellsOK w s2 c2) : CellsOK w (s1 ++ s2) (c1 ++ c2) := by
  obtain ⟨d1, a1, a2, a3, a4, a5⟩ := h
  obtain ⟨d2, b1, b2, b3, b4, b5⟩ := k
  refine ⟨d1 ++ d2, by simp [a1, b1], fun j hj => ?_, fun j hj => ?_, by simp [a4, b4], fun j hj => ?_⟩
  all_goals (simp only [getD_app, a1, a4]; simp only [List.length_append] at hj; split)
  · exact a2 j ‹_›
  · exact b2 _ (by omega)
  · exact a3 j ‹_›
  · exact b3 _ (by omega)
  · exact a5 j ‹_›
  · exact b5 _ (by omega)

section
variable {H : Type} {enc : TypeId × Value → H} {P : Program} {w : World} {sp : Nat → Bool} {held : Bool}

theorem open_fields {rec : TypeId → Option (List Shp)} {sz : TypeId → Nat} (hrec : ∀ t ss, rec t = some ss → ∀ fuel cs x, DataW.trod enc P w 0 sp held fuel t cs = some x → CellsOK w ss cs) (n : Nat) (cs : List Value) :
    ∀ (fs : List Field) (off : Nat) (l : List Shp), shpF rec sz off fs = some l → (∀ f, f ∈ fs → ∃ x, DataW.trod enc P w 0 sp held n f.type ((cs.drop f.offset).take (sz f.type)) = some x) → off + l.length = cs.length → CellsOK w l (cs.drop off)
  | [], off, l, h, _, hl => by
    simp only [shpF, Option.some.injEq] at h; subst h
    have : cs.drop off = [] := List.drop_eq_nil_of_le (by simp at hl; omega)
    rw [this]; exact .nil w
  | f :: r, off, l, h, hx, hl => by
    simp only [shpF] at h
    split at h
    · rename_i l1 h1
      split at h
      · rename_i hc
        obtain ⟨ho, hs⟩ := hc
        simp only [Option.map_eq_some_iff] at h
        obtain ⟨l2, h2, rfl⟩ := h
        obtain ⟨x, hx1⟩ := hx f (by simp)
        have k1 := hrec f.type l1 h1 n _ x hx1
        rw [ho, hs] at k1
        have k2 := open_fields hrec n cs r (off + l1.length) l2 h2 (fun g hg => hx g (List.mem_cons_of_mem _ hg)) (by simp at hl; omega)
        have e : cs.drop off = (cs.drop off).take l1.length ++ cs.drop (off + l1.length) := by
          rw [← List.drop_drop]; exact (List.take_append_drop _ _).symm
        rw [e]; exact k1.app k2
      · cases h
    · cases h

theorem open_elems {e : TypeId} {l : List Shp} (hrec : ∀ fuel cs x, DataW.trod enc P w 0 sp held fuel e cs = some x → CellsOK w l cs) (n m : Nat) (cs : List Value) (hx : ∀ i, i < n → ∃ x, DataW.trod enc P w 0 sp held m e ((cs.drop (i * l.length)).take l.length) = some x) :
    ∀ (k i : Nat), i + k = n → cs.length = i * l.length + (shpN l k).length → CellsOK w (shpN l k) (cs.drop (i * l.length))
  | 0, i, hi, hl => by
    have : cs.drop (i * l.length) = [] := List.drop_eq_nil_of_le (by simp [shpN] at hl; omega)
    rw [this]; exact .nil w
  | k + 1, i, hi, hl => by
    obtain ⟨x, hx1⟩ := hx i (by omega)
    have k1 := hrec m _ x hx1
    have hm : (i + 1) * l.length = i * l.length + l.length := by rw [Nat.add_mul, Nat.one_mul]
    have hl2 : (shpN l (k + 1)).length = l.length + (shpN l k).length := by show (l ++ shpN l k).length = _; rw [List.length_append]
    have k2 := open_elems hrec n m cs hx k (i + 1) (by omega) (by omega)
    have e : cs.drop (i * l.length) = (cs.drop (i * l.length)).take l.length ++ cs.drop ((i + 1) * l.length) := by
      rw [hm, ← List.drop_drop]; exact (List.take_append_drop _ _).symm
    rw [e]; exact k1.app k2
theorem open_cells : ∀ (d : Nat) (t : TypeId) (ss : List Shp), shpT P d t = some ss → ∀ fuel cs x, DataW.trod enc P w 0 sp held fuel t cs = some x → CellsOK w ss cs
  | 0, t, ss, h, _, _, _, _ => by simp [shpT] at h
  | d + 1, t, ss, h, fuel, cs, x, hx => by
    simp only [shpT] at h
    split at h
    · rename_i ht
      injection h with h; subst h
      obtain ⟨b, rfl, _⟩ := DataW.trod_bool ht hx
      exact .one rfl (.v _) (.bo b)
    · rename_i k ht
      injection h with h; subst h
      obtain ⟨n, rfl, _, hw⟩ := DataW.trod_int ht hx
      exact .one rfl (.v _) (.it k n hw)
    · rename_i ht
      injection h with h; subst h
      obtain ⟨s, rfl, _, hw⟩ := DataW.trod_string ht hx
      exact .one rfl (.v _) (.st s hw)
    · rename_i e ht
      split at h
      · rename_i l hl
        split at h
        · rename_i hc
          obtain ⟨hc, hpos⟩ := hc
          injection h with h; subst h
          rcases Go.Deep.open_slice ht hx with ⟨rfl, _⟩ | ⟨a, len, cap, m, n, D, Pl, rfl, _, hlc, hcm, hm, _, hel⟩
          · exact .one rfl (.lnil false none 0 (by simp)) (.sl l [] (by simp) (by simp) (by simp))
          · by_cases h0 : len = 0
            · subst h0
              exact .one rfl (.lnil false _ cap (by simp)) (.sl l [] (by simp) (by simp) (by simp))
            · have hml : len ≤ m := by rw [hm]; split <;> omega
              have hall : ∀ i, i < len → ∃ y : List Value × List DV, w.cells? 0 (a.add (i * l.length)) l.length = some y.1 ∧ y.1.length = l.length ∧ (∀ j, j < l.length → (y.1.getD j undef).oneCell' = true) ∧ (∀ j, j < l.length → Rd w (y.2.getD j .any) (y.1.getD j undef)) ∧ TyL l y.2 := by
                intro i hi
                obtain ⟨cs', g1, g2⟩ := hel i (by omega)
                rw [hc] at g1
                obtain ⟨ds, q1, q2, q3, q4⟩ := open_cells d e l hl n cs' _ g2
                exact ⟨(cs', ds), g1, q1, q2, q3, q4⟩
              obtain ⟨Y, hY⟩ := Go.Deep.choose_lt (α := List Value × List DV) hall
              have hcell : ∀ i j, i < len → j < l.length → w.cell? ((a.add (i * l.length)).add j) = some ((Y i).1.getD j undef) := by
                intro i j hi hj
                obtain ⟨g1, g2, _⟩ := hY i hi
                obtain ⟨_, _, g3⟩ := World.cells?_some g1
                rw [g3 j hj, List.getElem?_eq_getElem (by omega), List.getD_eq_getElem?_getD, List.getElem?_eq_getElem (by omega)]; rfl
              have hspot : a.spot = none := by
                have := hcell 0 0 (by omega) hpos
                simp only [Nat.zero_mul, Addr.add, if_true] at this
                unfold World.cell? at this
                cases hsp : a.spot with
                | none => rfl
                | some q => rw [hsp] at this; split at this <;> simp at this
              obtain ⟨b, off, spot⟩ := a
              simp only at hspot; subst hspot
              have hadd : ∀ i j, ((⟨b, off, none⟩ : Addr).add i).add j = ⟨b, off + (i + j), none⟩ := by
                intro i j; unfold Addr.add; by_cases hi : i = 0 <;> by_cases hj : j = 0 <;> simp [hi, hj, Nat.add_assoc]
              have hlen : ((List.range len).map fun i => (Y i).2).length = len := by simp
              have hget : ∀ i (hi : i < ((List.range len).map fun i => (Y i).2).length), ((List.range len).map fun i => (Y i).2)[i] = (Y i).2 := by intro i hi; simp
              have hvr : Rd w (.lst false ((List.range len).map fun i => (Y i).2)) (.slice (some ⟨b, off, none⟩) ((List.range len).map fun i => (Y i).2).length cap) := by
                refine .lst false _ b off cap l.length (fun i j => (Y i).1.getD j undef) (fun e => h0 (by rw [e] at hlen; exact hlen.symm)) hpos (by rw [hlen]; exact hlc) (by simp) (fun hM => hM.elim id (not_live b)) (fun i hi => ?_) (fun i j hi hj => ?_) (fun i j hi hj => ?_) (fun i j hi hj => ?_)
                · rw [hget]; exact (hY i (by rw [hlen] at hi; exact hi)).2.2.2.2.1
                · exact (hY i (by rw [hlen] at hi; exact hi)).2.2.1 j hj
                · have := hcell i j (by rw [hlen] at hi; exact hi) hj
                  rw [hadd] at this; exact this
                · have q := hY i (by rw [hlen] at hi; exact hi)
                  have hj' : j < l.length := by rw [hget, q.2.2.2.2.1] at hj; exact hj
                  have := q.2.2.2.1 j hj'
                  rw [List.getD_eq_getElem?_getD, List.getElem?_eq_getElem (by rw [hget] at hj; exact hj)] at this
                  simpa only [hget, Option.getD_some] using this
              rw [hlen] at hvr
              refine .one rfl hvr (.sl l _ (by rw [hlen]; omega) (fun x hx => ?_) (fun x hx => ?_))
              · simp only [List.mem_map, List.mem_range] at hx
                obtain ⟨i, hi, rfl⟩ := hx
                exact (hY i hi).2.2.2.2.1
              · simp only [List.mem_map, List.mem_range] at hx
                obtain ⟨i, hi, rfl⟩ := hx
                exact (hY i hi).2.2.2.2.2
        · cases h
      · cases h
    · rename_i fs ht
      split at h
      · rename_i l hl
        split at h
        · rename_i hc
          injection h with h; subst h
          obtain ⟨xs, n, _, _, hlen, hxs, hf⟩ := DataW.trod_struct ht hx
          have := open_fields (P := P) (enc := enc) (w := w) (sp := sp) (held := held) (fun t ss h => open_cells d t ss h) n cs fs.toList 0 l hl (fun f hfm => by
            obtain ⟨i, hi, he⟩ := List.mem_iff_getElem.1 hfm
            have hi' : i < fs.size := by simpa using hi
            have := hf i f (by rw [Array.getElem?_eq_getElem hi']; simp at he; rw [he])
            exact ⟨xs[i]'(by omega), by rw [this, List.getElem?_eq_getElem (by omega)]⟩) (by omega)
          simpa using this
        · cases h
      · cases h
    · rename_i k e ht
      split at h
      · rename_i l hl
        split at h
        · rename_i hc
          obtain ⟨hc1, hc2⟩ := hc
          injection h with h; subst h
          obtain ⟨xs, n, _, _, hlen, hxs, hf⟩ := DataW.trod_array ht hx
          have := open_elems (P := P) (enc := enc) (w := w) (sp := sp) (held := held) (fun fuel cs x h => open_cells d e l hl fuel cs x h) k n cs (fun i hi => by
            have := hf i hi
            rw [hc1] at this
            exact ⟨xs[i]'(by omega), by rw [this, List.getElem?_eq_getElem (by omega)]⟩) k 0 (by omega) (by rw [Nat.zero_mul, Nat.zero_add]; omega)
          simpa using this
        · cases h
      · cases h
    · cases h

/-- An argument: its cells, and whether they come as one. -/
def TyA (ag : Bool) (ss : List Shp) (d : DV) : Prop := if ag = true then ∃ ds, d = .agg ds ∧ TyL ss ds else ∃ s, ss = [s] ∧ Ty s d

def shpA (P : Program) (t : TypeId) : Option (Bool × List Shp) :=
  match aggT P t, shpT P 8 t with
  | some ag, some ss => some (ag, ss)
  | _, _ => none

theorem shp_single {d : Nat} {t : TypeId} {ss : List Shp} (h2 : shpT P (d + 1) t = some ss) (h1 : aggT P t = some false) : ∃ x, ss = [x] := by
  unfold aggT at h1
  simp only [shpT] at h2
  cases hu : P.underlying t with
  | none => rw [hu] at h1; simp at h1
  | some td =>
    rw [hu] at h1 h2
    cases td with
    | struct fs => simp at h1
    | array n e => simp at h1
    | bool => injection h2 with h2; exact ⟨_, h2.symm⟩
    | int k => injection h2 with h2; exact ⟨_, h2.symm⟩
    | string => injection h2 with h2; exact ⟨_, h2.symm⟩
    | slice e =>
      simp only at h2
      split at h2
      · split at h2
        · injection h2 with h2; exact ⟨_, h2.symm⟩
        · cases h2
      · cases h2
    | _ => cases h2

theorem open_arg {t : TypeId} {ag : Bool} {ss : List Shp} {v : Value} {d : DataW H} {ps : List MemPlace} {r : Reach} {base : Nat} (hs : shpA P t = some (ag, ss)) (hok : Value.okWide P w r base t v) (h : DataW.Trod enc P w 0 sp held t v d ps) :
    ∃ dv, Rd w dv v ∧ TyA ag ss dv := by
  unfold shpA at hs
  split at hs
  · rename_i ag' ss' h1 h2
    injection hs with hs; injection hs with e1 e2; subst e1; subst e2
    obtain ⟨fuel, hf⟩ := h
    obtain ⟨ds, q1, q2, q3, q4⟩ := open_cells 8 t ss' h2 fuel _ _ hf
    cases ag' with
    | true =>
      have hag : ∃ cs, v = .agg cs := by
        unfold aggT at h1
        unfold Value.okWide at hok
        split at h1
        · rename_i hu; rw [hu] at hok; simp only at hok; exact ⟨_, hok.choose_spec.1⟩
        · rename_i hu; rw [hu] at hok; simp only at hok; exact ⟨_, hok.choose_spec.1⟩
        · simp at h1
        · simp at h1
      obtain ⟨cs, rfl⟩ := hag
      simp only [Value.cells] at q1 q2 q3
      have hsz : cs.size = ss'.length := by simpa using q1
      have hg : ∀ j, cs.toList.getD j undef = cs.getD j undef := by intro j; simp [List.getD_eq_getElem?_getD, Array.getD_eq_getD_getElem?]
      refine ⟨.agg ds, .agg ds cs (by rw [hsz, q4.1]) (fun j hj => ?_) (fun j hj => ?_), by simp only [TyA, if_true]; exact ⟨ds, rfl, q4⟩⟩
      · have := q2 j (by rw [q4.1] at hj; exact hj); rwa [hg] at this
      · have := q3 j (by rw [q4.1] at hj; exact hj)
        rw [hg, List.getD_eq_getElem?_getD, List.getElem?_eq_getElem hj] at this; exact this
    | false =>
      have hna : ∃ s, ss' = [s] := shp_single (d := 7) h2 h1
      obtain ⟨s, rfl⟩ := hna
      have hv : v.cells.toList = [v] := by
        cases v with
        | agg cs =>
          exfalso
          have h0 := q2 0 (by simp)
          unfold Value.okWide at hok
          unfold aggT at h1
          cases hu : P.underlying t with
          | none => rw [hu] at h1; simp at h1
          | some td =>
            rw [hu] at h1 hok
            cases td <;> simp [Cell.okWide, Cell.ok, hu] at hok h1
        | _ => rfl
      rw [hv] at q2 q3
      obtain ⟨d0, r0, rfl, t1, t2⟩ := q4.cons
      exact ⟨d0, q3 0 (by simp), by simp only [TyA]; exact ⟨s, rfl, t1⟩⟩
  · cases hs

def shpAs (P : Program) : List TypeId → Option (List (Bool × List Shp))
  | [] => some []
  | t :: r => match shpA P t, shpAs P r with
    | some a, some l => some (a :: l)
    | _, _ => none

def TyAs : List (Bool × List Shp) → List DV → Prop
  | [], [] => True
  | s :: r, d :: ds => TyA s.1 s.2 d ∧ TyAs r ds
  | _, _ => False

theorem TyAs.cons {x : Bool × List Shp} {r : List (Bool × List Shp)} {ds : List DV} (h : TyAs (x :: r) ds) : ∃ d ds', ds = d :: ds' ∧ TyA x.1 x.2 d ∧ TyAs r ds' := by
  cases ds with
  | nil => exact h.elim
  | cons d ds' => exact ⟨d, ds', rfl, h.1, h.2⟩
theorem TyAs.nil {ds : List DV} (h : TyAs [] ds) : ds = [] := by
  cases ds with
  | nil => rfl
  | cons d ds' => exact h.elim
theorem TyA.ag {ss : List Shp} {d : DV} (h : TyA true ss d) : ∃ ds, d = .agg ds ∧ TyL ss ds := by simpa [TyA] using h
theorem TyA.one {x : Shp} {d : DV} (h : TyA false [x] d) : Ty x d := by
  obtain ⟨s', h1, h2⟩ : ∃ s', [x] = [s'] ∧ Ty s' d := by simpa [TyA] using h
  injection h1 with h1; subst h1; exact h2

theorem open_args {r : Reach} {base : Nat} : ∀ (ts : List TypeId) (sss : List (Bool × List Shp)) (vs : List Value) (ds : List (DataW H)) (ps : List MemPlace), shpAs P ts = some sss → (∀ (j : Nat) t v, ts[j]? = some t → vs[j]? = some v → Value.okWide P w r base t v) →
    DataW.TrodAll enc P w 0 sp held ts vs ds ps → ∃ dargs : List DV, vs.length = dargs.length ∧ (∀ j (hj : j < dargs.length), Rd w dargs[j] (vs.getD j undef)) ∧ TyAs sss dargs
  | [], sss, vs, ds, ps, hs, _, h => by
    obtain ⟨rfl, rfl, rfl⟩ := trodAll_nil h
    simp only [shpAs, Option.some.injEq] at hs; subst hs
    exact ⟨[], rfl, fun j hj => by simp at hj, trivial⟩
  | t :: ts, sss, vs, ds, ps, hs, hok, h => by
    obtain ⟨v, vs', d, ds', p, q, rfl, rfl, rfl, h0, r0⟩ := trodAll_cons h
    simp only [shpAs] at hs
    split at hs
    · rename_i a l h1 h2
      injection hs with hs; subst hs
      obtain ⟨dv, e1, e2⟩ := open_arg (ag := a.1) (ss := a.2) h1 (hok 0 t v rfl rfl) h0
      obtain ⟨dargs, k1, k2, k3⟩ := open_args ts l vs' ds' q h2 (fun j t' v' g1 g2 => hok (j + 1) t' v' (by simpa using g1) (by simpa using g2)) r0
      refine ⟨dv :: dargs, by simp [k1], fun j hj => ?_, e2, k3⟩
      cases j with
      | zero => exact e1
      | succ j => exact k2 j (by simpa using hj)
    · cases hs
end

section
variable {H : Type} {enc : TypeId × Value → H} {P : Program}

theorem trodAll_stays (hl : laidOutB P = true) {W W' : World} (hb : Below W.heap.size W W') : ∀ (ts : List TypeId) (vs : List Value) (ds : List (DataW H)) (ps : List MemPlace), (ts.all fun t => P.readableRec t && decide (t < P.types.size)) = true →
    DataW.TrodAll enc P W 0 (fun _ => true) true ts vs ds ps → DataW.TrodAll enc P W' 0 (fun b => decide (b < W.heap.size)) true ts vs ds ps
  | [], vs, ds, ps, _, h => by
    obtain ⟨rfl, rfl, rfl⟩ := trodAll_nil h
    exact trodAll_mk0
  | t :: ts, vs, ds, ps, hr, h => by
    obtain ⟨v, vs', d, ds', p, q, rfl, rfl, rfl, h0, r0⟩ := trodAll_cons h
    simp only [List.all_cons, Bool.and_eq_true, decide_eq_true_eq] at hr
    have k0 := h0
    have lt0 : ∀ x ∈ p, x.block < W.heap.size := by obtain ⟨m, hm⟩ := k0; exact DataW.trod_lt m _ _ _ hm
    exact trodAll_cons_mk (Below.trod hl hr.1.1 hr.1.2 h0 hb lt0) (trodAll_stays hl hb ts vs' ds' q hr.2 r0)
end
end Go.Pv
