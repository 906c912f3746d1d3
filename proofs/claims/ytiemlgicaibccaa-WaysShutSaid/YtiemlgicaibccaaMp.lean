/- A block that is a map, told by a function from keys to elements: look-up, store, entry and store behind it. No condition of its own: over any program. -/
import Derived.Test.YtiemlgicaibccaaChecked
import Derived.Maps.Keyed
import Derived.Maps.RangeRun
import Derived.WideKeyEntry
import Derived.DeepKeys4
set_option linter.all false
namespace Go.Pv
open Go.MapKept Go.Maps
open Go.ChangeMaps (setBlock modify_eq_set)
open Classical in
noncomputable def upF (f : Value → Option Value) (key val : Value) : Value → Option Value := fun x => if x = key then some val else f x
theorem upF_same (f : Value → Option Value) (key val : Value) : upF f key val key = some val := if_pos rfl
theorem upF_ne (f : Value → Option Value) (key val : Value) {x : Value} (h : x ≠ key) : upF f key val x = f x := if_neg h
structure MapF (P : Program) (k : TypeId) (w : World) (b : Nat) (es : Array MapEntry) (clock : Nat) (f : Value → Option Value) : Prop where
 hb : w.heap[b]? = some (.map es clock)
 st : Stamped es clock
 key : ∀ e ∈ es.toList, ∃ l, keyOf P k e.key = some l
 at_ : ∀ x v, f x = some v ↔ ∃ e ∈ es.toList, e.key = x ∧ e.val = v
theorem MapF.same {P : Program} {k : TypeId} {w w' : World} {b : Nat} {es : Array MapEntry} {clock : Nat} {f : Value → Option Value} (h : MapF P k w b es clock f) (e : w'.heap[b]? = w.heap[b]?) : MapF P k w' b es clock f :=
 ⟨by rw [e]; exact h.hb, h.st, h.key, h.at_⟩
theorem MapF.new {P : Program} {k : TypeId} {w : World} {b : Nat} {clock : Nat} (h : w.heap[b]? = some (.map #[] clock)) : MapF P k w b #[] clock (fun _ => none) :=
 ⟨h, stamped_empty _, fun e he => by simp at he, fun x v => ⟨fun h => (by cases h), fun ⟨e, he, _⟩ => by simp at he⟩⟩
theorem MapF.getN {P : Program} {k : TypeId} {w : World} {b : Nat} {es : Array MapEntry} {clock : Nat} {f : Value → Option Value} (h : MapF P k w b es clock f) {x : Value} (hx : ∀ e ∈ es.toList, e.key ≠ x) : f x = none := by
 cases e : f x with
 | none => rfl
 | some v => obtain ⟨e1, h1, h2, _⟩ := (h.at_ x v).1 e; exact absurd h2 (hx e1 h1)
theorem MapF.getS {P : Program} {k : TypeId} {w : World} {b : Nat} {es : Array MapEntry} {clock : Nat} {f : Value → Option Value} (h : MapF P k w b es clock f) {e : MapEntry} (he : e ∈ es.toList) : f e.key = some e.val := (h.at_ _ _).2 ⟨e, he, rfl, rfl⟩
section
variable {P : Program} {k t e : TypeId} {w : World} {b : Nat} {es : Array MapEntry} {clock : Nat} {f : Value → Option Value}
theorem MapF.look (h : MapF P k w b es clock f) (K : Keyed P k) (ht : P.underlying t = some (.map k e)) {z : Value} (hz : (zeroValue e).run P w = .ok z w) {key : Value} {kl : Lit} (hkey : keyOf P k key = some kl) :
  (Instr.lookup t (.map (some b)) key false).run P w = .ok ((f key).getD z) w := by
 have hb := h.hb
 rcases K.find w hkey es.toList h.key with ⟨h1, h2⟩ | ⟨j, e0, h1, h2, h3⟩
 ·rw [h.getN h2]
  simp [Instr.lookup, run_underlying ht, MapKept.run_getObj_map hb, K.check w _ hkey, h1, hz, Result.andThen]
 ·have hs := h.getS (List.mem_of_getElem? h2)
  rw [h3] at hs
  rw [hs]
  simp [Instr.lookup, run_underlying ht, MapKept.run_getObj_map hb, K.check w _ hkey, h1, Result.andThen]
theorem MapF.push (h : MapF P k w b es clock f) {w' : World} {key val : Value} {kl : Lit} (hkey : keyOf P k key = some kl) (h2 : ∀ x ∈ es.toList, x.key ≠ key) (hb : w'.heap[b]? = some (.map (es.push ⟨key, val, clock⟩) (clock + 1))) :
  MapF P k w' b (es.push ⟨key, val, clock⟩) (clock + 1) (upF f key val) := by
 refine ⟨hb, stamped_push h.st h2, fun x hx => ?_, fun x v => ?_⟩
 ·simp only [Array.toList_push, List.mem_append, List.mem_singleton] at hx
  rcases hx with hx | rfl
  ·exact h.key x hx
  ·exact ⟨kl, hkey⟩
 ·simp only [Array.toList_push, List.mem_append, List.mem_singleton]
  by_cases hx : x = key
  ·subst hx
   rw [upF_same]
   constructor
   ·intro hv; injection hv with hv; exact ⟨_, .inr rfl, rfl, hv⟩
   ·rintro ⟨e1, he | rfl, h3, h4⟩
    ·exact absurd h3 (h2 e1 he)
    ·rw [← h4]
  ·rw [upF_ne _ _ _ hx, h.at_]
   constructor
   ·rintro ⟨e1, he, h3⟩; exact ⟨e1, .inl he, h3⟩
   ·rintro ⟨e1, he | rfl, h3, h4⟩
    ·exact ⟨e1, he, h3, h4⟩
    ·exact absurd h3.symm hx
theorem MapF.put (h : MapF P k w b es clock f) {w' : World} {key val : Value} {kl : Lit} (hkey : keyOf P k key = some kl) {j : Nat} {e0 : MapEntry} (h2 : es.toList[j]? = some e0) (h3 : e0.key = key) (hb : w'.heap[b]? = some (.map (es.modify j fun e' => { e' with key := key, val := val }) clock)) :
  MapF P k w' b (es.modify j fun e' => { e' with key := key, val := val }) clock (upF f key val) := by
 have hj : es[j]? = some e0 := by simpa using h2
 have hjl : j < es.toList.length := (List.getElem?_eq_some_iff.1 h2).1
 have hkeyf : ∀ e', es[j]? = some e' → ({ e' with key := key, val := val } : MapEntry).key = e'.key := fun e' he' => by rw [hj] at he'; cases he'; exact h3.symm
 have hlist : (es.modify j (fun e' => { e' with key := key, val := val })).toList = es.toList.set j { e0 with key := key, val := val } := by rw [Array.toList_modify, modify_eq_set _ _ _ _ h2]
 have hpw := ((stamped_iff es clock).1 h.st).2.2
 have uniq : ∀ i (hi : i < es.toList.length), es.toList[i].key = key → i = j := fun i hi hk => by
  have hkj : es.toList[j].key = key := by
   have : es.toList[j] = e0 := by
    have := List.getElem?_eq_getElem hjl
    rw [h2] at this; injection this with this; exact this.symm
   rw [this]; exact h3
  rcases Nat.lt_trichotomy i j with h | h | h
  ·exact absurd (hk.trans hkj.symm) (List.pairwise_iff_getElem.1 hpw i j hi hjl h)
  ·exact h
  ·exact absurd (hkj.trans hk.symm) (List.pairwise_iff_getElem.1 hpw j i hjl hi h)
 have who : ∀ x, x ∈ es.toList.set j { e0 with key := key, val := val } ↔ x = { e0 with key := key, val := val } ∨ (x ∈ es.toList ∧ x.key ≠ key) := fun x => by
  constructor
  ·intro hx
   obtain ⟨i, hi, ex⟩ := List.getElem_of_mem hx
   rw [List.getElem_set] at ex
   split at ex
   ·exact .inl ex.symm
   ·rename_i hne
    have hi' : i < es.toList.length := by simpa using hi
    refine .inr ⟨ex ▸ List.getElem_mem hi', fun hk => hne ?_⟩
    exact (uniq i hi' (by rw [ex]; exact hk)).symm
  ·rintro (rfl | ⟨hx, hk⟩)
   ·exact List.mem_iff_getElem.2 ⟨j, by simpa using hjl, by simp⟩
   ·obtain ⟨i, hi, ex⟩ := List.getElem_of_mem hx
    have hne : j ≠ i := fun e1 => by
     subst e1
     have := List.getElem?_eq_getElem hi
     rw [h2] at this; injection this with this
     exact hk (by rw [← ex, ← this]; exact h3)
    exact List.mem_iff_getElem.2 ⟨i, by simpa using hi, by rw [List.getElem_set, if_neg hne]; exact ex⟩
 refine ⟨hb, stamped_modify h.st _ _ (fun _ _ => rfl) (fun e' _ he' => hkeyf e' he'), fun x hx => ?_, fun x v => ?_⟩
 ·rw [hlist] at hx
  rcases (who x).1 hx with rfl | ⟨hx, _⟩
  ·exact ⟨kl, hkey⟩
  ·exact h.key x hx
 ·rw [hlist]
  by_cases hx : x = key
  ·subst hx
   rw [upF_same]
   constructor
   ·intro hv; injection hv with hv; exact ⟨_, (who _).2 (.inl rfl), rfl, hv⟩
   ·rintro ⟨e1, he, h4, h5⟩
    rcases (who e1).1 he with rfl | ⟨_, hk⟩
    ·rw [← h5]
    ·exact absurd h4 hk
  ·rw [upF_ne _ _ _ hx, h.at_]
   constructor
   ·rintro ⟨e1, he, h4, h5⟩; exact ⟨e1, (who e1).2 (.inr ⟨he, by rw [h4]; exact hx⟩), h4, h5⟩
   ·rintro ⟨e1, he, h4, h5⟩
    rcases (who e1).1 he with rfl | ⟨he, _⟩
    ·exact absurd h4.symm hx
    ·exact ⟨e1, he, h4, h5⟩
theorem set_self (w : World) {b : Nat} {o o' : Obj} (h : w.heap[b]? = some o) : (setBlock w b o').heap[b]? = some o' := by
 have hlt : b < w.heap.size := by
  rcases Nat.lt_or_ge b w.heap.size with h' | h'
  ·exact h'
  ·rw [Array.getElem?_eq_none h'] at h; cases h
 simp [setBlock, hlt]
theorem MapF.store (h : MapF P k w b es clock f) (K : Keyed P k) (ht : P.underlying t = some (.map k e)) {key val : Value} {kl : Lit} (hkey : keyOf P k key = some kl) :
  ∃ es' clock', (Instr.mapUpdate t (.map (some b)) key val).run P w = .ok () (setBlock w b (.map es' clock')) ∧ MapF P k (setBlock w b (.map es' clock')) b es' clock' (upF f key val) := by
 have hb := h.hb
 rcases K.find w hkey es.toList h.key with ⟨h1, h2⟩ | ⟨j, e0, h1, h2, h3⟩
 ·refine ⟨es.push ⟨key, val, clock⟩, clock + 1, ?_, h.push hkey h2 (set_self w hb)⟩
  simp [Instr.mapUpdate, run_underlying ht, MapKept.run_getObj_map hb, K.check w false hkey, h1, MapKept.run_setObj_map _ hb, Result.andThen, setBlock]
 ·have hj : es[j]? = some e0 := by simpa using h2
  refine ⟨es.modify j (fun e' => { e' with key := key, val := val }), clock, ?_, h.put hkey h2 h3 (set_self w hb)⟩
  simp [Instr.mapUpdate, run_underlying ht, MapKept.run_getObj_map hb, K.check w false hkey, h1, hj, h3, K.stays w hkey, MapKept.run_setObj_map _ hb, Result.andThen, setBlock]
theorem upF_id {f : Value → Option Value} {key v : Value} (h : f key = some v) : upF f key v = f := by
 funext x
 by_cases hx : x = key
 ·rw [hx, upF_same, h]
 ·rw [upF_ne _ _ _ hx]
theorem MapF.entry (h : MapF P k w b es clock f) (K : Keyed P k) (ht : P.underlying t = some (.map k e)) {z : Value} (hz : ∀ u : World, (zeroValue e).run P u = .ok z u) {key : Value} {kl : Lit} (hkey : keyOf P k key = some kl) :
  ∃ (st : Nat) (es1 : Array MapEntry) (clock1 : Nat), (Instr.mapEntry t (.map (some b)) key).run P w = .ok (.tuple #[(f key).getD z, goInt st]) (setBlock w b (.map es1 clock1)) ∧ MapF P k (setBlock w b (.map es1 clock1)) b es1 clock1 (upF f key ((f key).getD z)) ∧
   ∀ (w2 : World) (val : Value), w2.heap[b]? = some (.map es1 clock1) → ∃ es', (Instr.entryStore t (.map (some b)) (goInt st) val).run P w2 = .ok () (setBlock w2 b (.map es' clock1)) ∧ MapF P k (setBlock w2 b (.map es' clock1)) b es' clock1 (upF f key val) := by
 have hb := h.hb
 obtain ⟨s1, s2, _⟩ := h.st
 rcases K.find w hkey es.toList h.key with ⟨h1, h2⟩ | ⟨j, e0, h1, h2, h3⟩
 ·have hn := h.getN h2
  refine ⟨clock, es.push ⟨key, z, clock⟩, clock + 1, ?_, by rw [hn]; exact h.push hkey h2 (set_self w hb), fun w2 val hw2 => ⟨es.push ⟨key, val, clock⟩, ?_, h.push hkey h2 (set_self w2 hw2)⟩⟩
  ·rw [hn]
   simp [Instr.mapEntry, run_underlying ht, MapKept.run_getObj_map hb, K.check w false hkey, h1, hz, MapKept.run_setObj_map _ hb, Result.andThen, setBlock]
  ·have hidx : (es.push ⟨key, z, clock⟩).findIdx? (fun e => ((e.born : Nat) : Int) == ((clock : Nat) : Int)) = some es.size := by
    rw [WideElems.findIdx_arr]
    have := WideElems.findIdx_born (l := (es.push ⟨key, z, clock⟩).toList) (j := es.size) (e0 := ⟨key, z, clock⟩) (by
     simp only [Array.toList_push, List.map_append, List.map_cons, List.map_nil]
     refine List.nodup_append.2 ⟨s2, by simp, fun a ha c hc e1 => ?_⟩
     simp only [List.mem_singleton] at hc
     obtain ⟨x, hx, rfl⟩ := List.mem_map.1 ha
     have := s1 x hx
     omega) (by simp)
    exact this
   have hmod : (es.push ⟨key, z, clock⟩).modify es.size (fun e => { e with val := val }) = es.push ⟨key, val, clock⟩ := by
    apply Array.ext'
    rw [Array.toList_modify, Array.toList_push, Array.toList_push, ← Array.length_toList, WideElems.modify_last]
   simp [Instr.entryStore, MapKept.run_getObj_map hw2, asInt, asIntOf, goInt, hidx, hmod, MapKept.run_setObj_map _ hw2, Result.andThen, setBlock]
 ·have hj : es[j]? = some e0 := by simpa using h2
  have hs := h.getS (List.mem_of_getElem? h2)
  rw [h3] at hs
  have hsame : es.modify j (fun e => { e with key := key }) = es := by
   apply Array.ext'
   rw [Array.toList_modify, modify_eq_set _ _ _ _ h2]
   have : ({ e0 with key := key } : MapEntry) = e0 := by rw [← h3]
   rw [this]
   exact WideElems.set_self _ _ _ h2
  refine ⟨e0.born, es, clock, ?_, ?_, fun w2 val hw2 => ⟨es.modify j (fun e' => { e' with key := key, val := val }), ?_, h.put hkey h2 h3 (set_self w2 hw2)⟩⟩
  ·rw [hs]
   simp [Instr.mapEntry, run_underlying ht, MapKept.run_getObj_map hb, K.check w false hkey, h1, hj, h3, K.stays w hkey, hsame, MapKept.run_setObj_map _ hb, Result.andThen, setBlock]
  ·rw [hs, Option.getD_some, upF_id hs]
   exact ⟨set_self w hb, h.st, h.key, h.at_⟩
  ·have hidx : es.findIdx? (fun e => ((e.born : Nat) : Int) == ((e0.born : Nat) : Int)) = some j := by
    rw [WideElems.findIdx_arr]
    exact WideElems.findIdx_born s2 h2
   have hmod : es.modify j (fun e => { e with val := val }) = es.modify j (fun e' => { e' with key := key, val := val }) := by
    apply Array.ext'
    rw [Array.toList_modify, Array.toList_modify, modify_eq_set _ _ _ _ h2, modify_eq_set _ _ _ _ h2, ← h3]
   simp [Instr.entryStore, MapKept.run_getObj_map hw2, asInt, asIntOf, goInt, hidx, hmod, MapKept.run_setObj_map _ hw2, Result.andThen, setBlock]
end
end Go.Pv
