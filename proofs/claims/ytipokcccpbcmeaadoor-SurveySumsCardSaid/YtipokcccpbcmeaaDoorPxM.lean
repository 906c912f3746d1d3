/- A law's last step: arguments from the outside as typed values. No condition of its own: over any program. -/
import Derived.Test.YtipokcccpbcmeaaDoorPxL
set_option linter.all false
namespace Go.Pv
open Go.RowKit

def shp : GT → List Shp
  | .int k => [.it k]
  | .bool => [.bo]
  | .str => [.st]
  | .list t => [.sl (shp t)]
  | .unit => []
  | .pair a b => shp a ++ shp b

/-- What is known of a value from the outside: numbers in range, lists not too long. -/
def InR : (t : GT) → El t → Prop
  | .int k, n => (Lit.int k n).wf = true
  | .bool, _ => True
  | .str, s => s.length ≤ maxLen
  | .list t, as => as.length ≤ maxLen ∧ ∀ a, a ∈ as → InR t a
  | .unit, _ => True
  | .pair a b, x => InR a x.1 ∧ InR b x.2
def InRs : (ts : List GT) → Els ts → Prop
  | [], _ => True
  | [t], x => InR t x
  | t :: u :: r, x => InR t x.1 ∧ InRs (u :: r) x.2

theorem TyL.app : ∀ {a b : List Shp} {ds : List DV}, TyL (a ++ b) ds → ∃ d1 d2, ds = d1 ++ d2 ∧ TyL a d1 ∧ TyL b d2
  | [], b, ds, h => ⟨[], ds, rfl, ⟨rfl, fun j hj => by simp at hj⟩, h⟩
  | s :: a, b, ds, h => by
    obtain ⟨d, r, rfl, h1, h2⟩ := TyL.cons (s := s) (ss := a ++ b) h
    obtain ⟨d1, d2, rfl, h3, h4⟩ := TyL.app h2
    refine ⟨d :: d1, d2, rfl, ⟨by simp [h3.1], fun j hj => ?_⟩, h4⟩
    cases j with
    | zero => exact h1
    | succ j => exact h3.2 j (by simpa using hj)
theorem TyL.one {s : Shp} {ds : List DV} (h : TyL [s] ds) : ∃ d, ds = [d] ∧ Ty s d := by
  obtain ⟨d, r, rfl, h1, h2⟩ := h.cons
  have := h2.nil; subst this
  exact ⟨d, rfl, h1⟩

theorem shp_el : ∀ (t : GT) (ds : List DV), TyL (shp t) ds → ∃ x : El t, ds = encD t x ∧ InR t x
  | .int k, ds, h => by
    obtain ⟨d, rfl, k⟩ := TyL.one h
    obtain ⟨n, rfl, hn⟩ := k.int
    exact ⟨n, rfl, hn⟩
  | .bool, ds, h => by
    obtain ⟨d, rfl, k⟩ := TyL.one h
    obtain ⟨b, rfl⟩ := k.bool
    exact ⟨b, rfl, trivial⟩
  | .str, ds, h => by
    obtain ⟨d, rfl, k⟩ := TyL.one h
    obtain ⟨s, rfl, hs⟩ := k.str
    exact ⟨bl s, rfl, hs⟩
  | .list t, ds, h => by
    obtain ⟨d, rfl, k⟩ := TyL.one h
    obtain ⟨as, rfl, h1, h2⟩ := k.list (e := encD t) (Q := InR t) fun x hx => shp_el t x hx
    exact ⟨as, rfl, h1, h2⟩
  | .unit, ds, h => ⟨(), h.nil, trivial⟩
  | .pair a b, ds, h => by
    obtain ⟨d1, d2, rfl, h1, h2⟩ := TyL.app h
    obtain ⟨x, rfl, hx⟩ := shp_el a d1 h1
    obtain ⟨y, rfl, hy⟩ := shp_el b d2 h2
    exact ⟨(x, y), rfl, hx, hy⟩

theorem shp_one {t : GT} (h : isAg t = false) : ∃ s, shp t = [s] := by
  cases t <;> first | (simp [isAg] at h; done) | exact ⟨_, rfl⟩
theorem tyA_el {t : GT} {d : DV} (h : TyA (isAg t) (shp t) d) : ∃ x : El t, d = valD t x ∧ InR t x := by
  unfold valD
  cases ha : isAg t with
  | true =>
    rw [ha] at h
    obtain ⟨ds, rfl, k⟩ := h.ag
    obtain ⟨x, rfl, hx⟩ := shp_el t ds k
    exact ⟨x, rfl, hx⟩
  | false =>
    rw [ha] at h
    obtain ⟨s, hs⟩ := shp_one ha
    rw [hs] at h
    have h1 := h.one
    have hL : TyL (shp t) [d] := by
      rw [hs]; exact ⟨rfl, fun j hj => by have : j = 0 := by simpa using hj
                                          subst this; exact h1⟩
    obtain ⟨x, hx1, hx⟩ := shp_el t [d] hL
    refine ⟨x, ?_, hx⟩
    rw [← hx1]

def shps : List GT → List (Bool × List Shp)
  | [] => []
  | t :: r => (isAg t, shp t) :: shps r
theorem open_els : ∀ (ts : List GT) (dargs : List DV), TyAs (shps ts) dargs → ∃ x : Els ts, dargs = valsD ts x ∧ InRs ts x
  | [], dargs, h => ⟨(), h.nil, trivial⟩
  | [t], dargs, h => by
    obtain ⟨d, ds, rfl, h1, h2⟩ := TyAs.cons h
    have := TyAs.nil h2; subst this
    obtain ⟨x, rfl, hx⟩ := tyA_el h1
    exact ⟨x, rfl, hx⟩
  | t :: u :: r, dargs, h => by
    obtain ⟨d, ds, rfl, h1, h2⟩ := TyAs.cons h
    obtain ⟨x, rfl, hx⟩ := tyA_el h1
    obtain ⟨y, rfl, hy⟩ := open_els (u :: r) ds h2
    exact ⟨(x, y), rfl, hx, hy⟩

end Go.Pv
