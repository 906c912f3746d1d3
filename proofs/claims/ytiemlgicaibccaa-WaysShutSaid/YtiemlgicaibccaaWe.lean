/- A web of nodes in memory: a map from nodes to maps from nodes to numbers. No condition of its own. -/
import Derived.Test.YtiemlgicaibccaaMs
import Derived.Test.YtiemlgicaibccaaFw
import Derived.Test.YtiemlgicaibccaaPvA
import Derived.WalkKit
import Derived.RegionTactic
import Derived.ChangeAlike
import Derived.WalkSpells
import Derived.Carry
set_option linter.all false
namespace Go.Proofs.Ytiemlgicaibccaa
open Go.Pv Go.ChangeMaps Go.Maps Go.Pv.Fw
def nv (a : Nd) : Value := .agg #[.int .i64 a.1, .bool a.2]
theorem nv_inj {a b : Nd} (h : nv a = nv b) : a = b := by
 obtain ⟨a1, a2⟩ := a; obtain ⟨b1, b2⟩ := b
 unfold nv at h
 simp only [Value.agg.injEq, Array.mk.injEq, List.cons.injEq, Value.int.injEq, Value.bool.injEq, true_and, and_true] at h
 simp [h.1, h.2]
set_option maxRecDepth 1000000 in
theorem K81 : Keyed Try.prog 81 := Keyed.of_law (deep_law_laid (P := Try.prog) (by kernel_rfl) (m := 2) (by decide) (by decide +kernel) (by kernel_rfl) (by kernel_rfl))
set_option maxRecDepth 1000000 in
theorem U79 : Try.prog.underlying 79 = some (.map 81 101) := by kernel_rfl
set_option maxRecDepth 1000000 in
theorem U101 : Try.prog.underlying 101 = some (.map 81 3) := by kernel_rfl
set_option maxRecDepth 1000000 in
theorem U84 : Try.prog.underlying 84 = some (.map 81 4) := by kernel_rfl
set_option maxRecDepth 1000000 in
theorem kt81 : Try.prog.keyType 81 = true := by kernel_rfl
def fs81 : Array Field := #[{ name := "place", type := 3, offset := 0, embedded := false, tag := "", pkgPath := "minecontrol/ways", byteOffset := 0 }, { name := "out", type := 4, offset := 1, embedded := false, tag := "", pkgPath := "minecontrol/ways", byteOffset := 8 }]
set_option maxRecDepth 1000000 in
theorem U81 : Try.prog.underlying 81 = some (.struct fs81) := by kernel_rfl
set_option maxRecDepth 1000000 in
theorem U3 : Try.prog.underlying 3 = some (.int .i64) := by kernel_rfl
set_option maxRecDepth 1000000 in
theorem U4 : Try.prog.underlying 4 = some .bool := by kernel_rfl
set_option maxRecDepth 1000000 in
theorem C81 : Try.prog.cellsOf 81 = 2 := by kernel_rfl
set_option maxRecDepth 1000000 in
theorem C3 : Try.prog.cellsOf 3 = 1 := by kernel_rfl
set_option maxRecDepth 1000000 in
theorem C4 : Try.prog.cellsOf 4 = 1 := by kernel_rfl
set_option maxRecDepth 1000000 in
theorem SZ : ∃ m, Try.prog.types.size = m + 1 := ⟨Try.prog.types.size - 1, by kernel_rfl⟩
def Nok (a : Nd) : Prop := 0 ≤ a.1 ∧ a.1 ≤ 1000000
theorem wf_nok {a : Nd} (h : Nok a) : (Lit.int .i64 a.1).wf = true := by
 unfold Nok at h
 exact WalkArith.wf_i64 (by omega)
theorem keyN {a : Nd} (h : Nok a) : ∃ l, keyOf Try.prog 81 (nv a) = some l := by
 have hw := wf_nok h
 refine ⟨.string (keyBytes [.int .i64 a.1, .bool a.2]), ?_⟩
 obtain ⟨m, hm⟩ := SZ
 unfold keyOf nv
 simp only [U81]
 rw [if_pos (by simp [kt81, Value.formed, U81, C81]), hm]
 unfold Program.keyLits
 simp only [U81, Value.cells]
 rw [if_pos ⟨by rw [C81]; rfl, by simp [fs81]⟩]
 simp [fs81, Program.keyLits, C3, C4, U3, U4, hw]
open Classical in
noncomputable def upd {α : Type} (g : Nd → Option α) (a : Nd) (x : α) : Nd → Option α := fun y => if y = a then some x else g y
theorem upd_same {α : Type} (g : Nd → Option α) (a : Nd) (x : α) : upd g a x a = some x := if_pos rfl
theorem upd_ne {α : Type} (g : Nd → Option α) {a y : Nd} (x : α) (h : y ≠ a) : upd g a x y = g y := if_neg h
structure MapD {α : Type} (w : World) (b : Nat) (enc : α → Value) (g : Nd → Option α) (es : Array MapEntry) (cl : Nat) (F : Value → Option Value) : Prop where
 m : MapF Try.prog 81 w b es cl F
 get : ∀ a, F (nv a) = (g a).map enc
 dom : ∀ v x, F v = some x → ∃ a, v = nv a
theorem MapD.up {α : Type} {w w' : World} {b : Nat} {enc : α → Value} {g : Nd → Option α} {es es' : Array MapEntry} {cl cl' : Nat} {F : Value → Option Value} (h : MapD w b enc g es cl F) {a : Nd} {x : α} (h' : MapF Try.prog 81 w' b es' cl' (upF F (nv a) (enc x))) : MapD w' b enc (upd g a x) es' cl' (upF F (nv a) (enc x)) := by
 refine ⟨h', fun y => ?_, fun v z hv => ?_⟩
 ·by_cases e : y = a
  ·subst e; rw [upF_same, upd_same]; rfl
  ·rw [upF_ne _ _ _ (fun e' => e (nv_inj e')), upd_ne _ _ e, h.get]
 ·by_cases e : v = nv a
  ·exact ⟨a, e⟩
  ·rw [upF_ne _ _ _ e] at hv; exact h.dom v z hv
theorem MapD.same {α : Type} {w w' : World} {b : Nat} {enc : α → Value} {g : Nd → Option α} {es : Array MapEntry} {cl : Nat} {F : Value → Option Value} (h : MapD w b enc g es cl F) (e : w'.heap[b]? = w.heap[b]?) : MapD w' b enc g es cl F := ⟨h.m.same e, h.get, h.dom⟩
theorem MapD.new {α : Type} {w : World} {b : Nat} {enc : α → Value} {cl : Nat} (h : w.heap[b]? = some (.map #[] cl)) : MapD w b enc (fun _ => none) #[] cl (fun _ => none) := ⟨MapF.new h, fun _ => rfl, fun _ _ h => by cases h⟩
theorem MapD.entry {α : Type} {w : World} {b : Nat} {enc : α → Value} {g : Nd → Option α} {es : Array MapEntry} {cl : Nat} {F : Value → Option Value} (h : MapD w b enc g es cl F) {e : MapEntry} (he : e ∈ es.toList) : ∃ a x, e.key = nv a ∧ e.val = enc x ∧ g a = some x := by
 have h1 := h.m.getS he
 obtain ⟨a, ha⟩ := h.dom _ _ h1
 rw [ha, h.get] at h1
 cases hg : g a with
 | none => rw [hg] at h1; cases h1
 | some x => rw [hg] at h1; injection h1 with h1; exact ⟨a, x, ha, h1.symm, hg⟩
theorem MapD.all {α : Type} {w : World} {b : Nat} {enc : α → Value} {g : Nd → Option α} {es : Array MapEntry} {cl : Nat} {F : Value → Option Value} (h : MapD w b enc g es cl F) {a : Nd} {x : α} (hg : g a = some x) : ∃ e, e ∈ es.toList ∧ e.key = nv a ∧ e.val = enc x := by
 have := (h.m.at_ (nv a) (enc x)).1 (by rw [h.get, hg]; rfl)
 obtain ⟨e, h1, h2, h3⟩ := this
 exact ⟨e, h1, h2, h3⟩
def encM (b : Nat) : Value := .map (some b)
def encI (m : Int) : Value := .int .i64 m
def encB (b : Bool) : Value := .bool b
def Dom (wb : Nat) (D : Nd → Option Nat) (i : Nat) : Prop := i = wb ∨ ∃ a, D a = some i
structure Web (w : World) (wb : Nat) (r : Nd → Nd → Int) (D : Nd → Option Nat) : Prop where
 outer : ∃ es cl F, MapD w wb encM D es cl F
 inner : ∀ a b, D a = some b → b ≠ wb ∧ ∃ g, (∃ es cl F, MapD w b encI g es cl F) ∧ (∀ x, r a x = (g x).getD 0) ∧ (∀ x, g x ≠ none → D x ≠ none)
 non : ∀ a, D a = none → ∀ x, r a x = 0
 dom : ∀ a, D a ≠ none → Nok a
 inj : ∀ a a' b, D a = some b → D a' = some b → a = a'
theorem Web.keep {w w' : World} {wb : Nat} {r : Nd → Nd → Int} {D : Nd → Option Nat} (h : Web w wb r D) (e : ∀ i, Dom wb D i → w'.heap[i]? = w.heap[i]?) : Web w' wb r D := by
 obtain ⟨es, cl, F, h1⟩ := h.outer
 refine ⟨⟨es, cl, F, h1.same (e wb (.inl rfl))⟩, fun a b hb => ?_, h.non, h.dom, h.inj⟩
 obtain ⟨h2, g, ⟨es, cl, F, h3⟩, h4, h5⟩ := h.inner a b hb
 exact ⟨h2, g, ⟨es, cl, F, h3.same (e b (.inr ⟨a, hb⟩))⟩, h4, h5⟩
theorem Web.lt {w : World} {wb : Nat} {r : Nd → Nd → Int} {D : Nd → Option Nat} (h : Web w wb r D) {i : Nat} (hi : Dom wb D i) : i < w.heap.size := by
 rcases hi with rfl | ⟨a, ha⟩
 ·obtain ⟨es, cl, F, h1⟩ := h.outer
  exact h1.m.lt
 ·obtain ⟨h2, g, ⟨es, cl, F, h3⟩, _⟩ := h.inner a i ha
  exact h3.m.lt
theorem Web.touch {w w' : World} {wb : Nat} {r : Nd → Nd → Int} {D : Nd → Option Nat} (h : Web w wb r D) {a : Nd} {b cl : Nat} (ha : D a = none) (hok : Nok a) (hb : ¬ Dom wb D b) (hn : w'.heap[b]? = some (.map #[] cl)) (ho : ∃ es cl F, MapD w' wb encM (upd D a b) es cl F)
  (e : ∀ i, (∃ a, D a = some i) → w'.heap[i]? = w.heap[i]?) : Web w' wb r (upd D a b) := by
 have mo : ∀ x, D x ≠ none → upd D a b x ≠ none := fun x hx => by
  by_cases hxa : x = a
  ·subst hxa; exact absurd ha hx
  ·rw [upd_ne _ _ hxa]; exact hx
 refine ⟨ho, fun y c hc => ?_, fun y hy => ?_, fun y hy => ?_, fun y y' c hc hc' => ?_⟩
 ·by_cases hya : y = a
  ·subst hya
   rw [upd_same] at hc; injection hc with hc; subst hc
   exact ⟨fun e => hb (.inl e), fun _ => none, ⟨_, _, _, MapD.new hn⟩, fun x => h.non y ha x, fun x hx => absurd rfl hx⟩
  ·rw [upd_ne _ _ hya] at hc
   obtain ⟨h2, g, ⟨es, cl, F, h3⟩, h4, h5⟩ := h.inner y c hc
   exact ⟨h2, g, ⟨es, cl, F, h3.same (e c ⟨y, hc⟩)⟩, h4, fun x hx => mo x (h5 x hx)⟩
 ·by_cases hya : y = a
  ·subst hya; rw [upd_same] at hy; cases hy
  ·rw [upd_ne _ _ hya] at hy; exact h.non y hy
 ·by_cases hya : y = a
  ·subst hya; exact hok
  ·rw [upd_ne _ _ hya] at hy; exact h.dom y hy
 ·by_cases hya : y = a
  ·by_cases hya' : y' = a
   ·rw [hya, hya']
   ·subst hya
    rw [upd_same] at hc; injection hc with hc; subst hc
    rw [upd_ne _ _ hya'] at hc'
    exact absurd (.inr ⟨y', hc'⟩) hb
  ·by_cases hya' : y' = a
   ·subst hya'
    rw [upd_same] at hc'; injection hc' with hc'; subst hc'
    rw [upd_ne _ _ hya] at hc
    exact absurd (.inr ⟨y, hc⟩) hb
   ·rw [upd_ne _ _ hya] at hc; rw [upd_ne _ _ hya'] at hc'
    exact h.inj y y' c hc hc'
open Classical in
noncomputable def setr (r : Nd → Nd → Int) (a b : Nd) (d : Int) : Nd → Nd → Int := fun y z => if y = a ∧ z = b then d else r y z
theorem Web.set {w w' : World} {wb : Nat} {r : Nd → Nd → Int} {D : Nd → Option Nat} (h : Web w wb r D) {a b : Nd} {c : Nat} (ha : D a = some c) (hb : D b ≠ none) {d : Int} {g : Nd → Option Int} {es : Array MapEntry} {cl : Nat} {F : Value → Option Value} (hg : MapD w c encI g es cl F) (hn : ∃ es cl F, MapD w' c encI (upd g b d) es cl F)
  (e : ∀ i, Dom wb D i → i ≠ c → w'.heap[i]? = w.heap[i]?) : Web w' wb (setr r a b d) D := by
 obtain ⟨es1, cl1, F1, h1⟩ := h.outer
 refine ⟨⟨es1, cl1, F1, h1.same (e wb (.inl rfl) fun e => (h.inner a c ha).1 e.symm)⟩, fun y q hq => ?_, fun y hy x => ?_, h.dom, h.inj⟩
 ·obtain ⟨h2, g', ⟨es', cl', F', h3⟩, h4, h5⟩ := h.inner y q hq
  by_cases hya : y = a
  ·subst hya
   rw [ha] at hq; injection hq with hq; subst hq
   have hgg : g' = g := by
    funext x
    have e1 := h3.m.hb
    rw [hg.m.hb] at e1
    injection e1 with e1; injection e1 with e1 e2; subst e1
    cases e3 : g x with
    | some v =>
     obtain ⟨en, k1, k2, k3⟩ := hg.all e3
     obtain ⟨a', x', k4, k5, k6⟩ := h3.entry k1
     rw [k2] at k4; cases nv_inj k4
     rw [k3] at k5; unfold encI at k5; injection k5 with _ k5; subst k5; exact k6
    | none =>
     cases e4 : g' x with
     | none => rfl
     | some v =>
      obtain ⟨en, k1, k2, k3⟩ := h3.all e4
      obtain ⟨a', x', k4, k5, k6⟩ := hg.entry k1
      rw [k2] at k4; cases nv_inj k4
      rw [e3] at k6; cases k6
   subst hgg
   refine ⟨h2, upd g' b d, hn, fun x => ?_, fun x hx => ?_⟩
   ·unfold setr
    by_cases hxb : x = b
    ·subst hxb; rw [if_pos ⟨rfl, rfl⟩, upd_same]; rfl
    ·rw [if_neg fun h => hxb h.2, upd_ne _ _ hxb]; exact h4 x
   ·by_cases hxb : x = b
    ·subst hxb; exact hb
    ·rw [upd_ne _ _ hxb] at hx; exact h5 x hx
  ·have hqc : q ≠ c := fun e => hya (h.inj y a c (e ▸ hq) ha)
   refine ⟨h2, g', ⟨es', cl', F', h3.same (e q (.inr ⟨y, hq⟩) hqc)⟩, fun x => ?_, h5⟩
   unfold setr
   rw [if_neg fun h => hya h.1]; exact h4 x
 ·unfold setr
  rw [if_neg fun h => by rw [h.1, ha] at hy; cases hy]
  exact h.non y hy x
end Go.Proofs.Ytiemlgicaibccaa
