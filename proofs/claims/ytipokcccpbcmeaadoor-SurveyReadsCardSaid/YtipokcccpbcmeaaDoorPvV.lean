/- Calls that turn one chunk, or make one; regions of open order with a log. No condition of its own: over any program. -/
import Derived.Test.YtipokcccpbcmeaaDoorPvU
set_option linter.all false
namespace Go.Pv
open Go.RowKit
section fn
variable {P : Program} {f : FuncId} {nt : Nat} {ow : Nat → Bool} {ac : AC} {rs : List RR}
end fn
section ends
variable {rs : List RR} {res : DV} {T : Nat → DV} {H : Hp} {nx o : Nat} {ck ck0 : Ck} {ds : List DV}
end ends
section one
variable {P : Program} {r : List RI} {T : Nat → DV} {H : Hp} {nx : Nat} {K : St → Prop} {lg : Lg} {KL : Lg → St → Prop}
end one
def disB (x y : List Nat × List Nat) : Bool := x.2.all (fun o => !y.1.contains o && !y.2.contains o) && y.2.all (fun o => !x.1.contains o)
def compatB (un : List (Nat × Nat)) (lg : Lg) : Bool := un.all fun p => disB (lgAt lg p.1) (lgAt lg p.2)
section logged
variable {P : Program} {r : List RI} {T : Nat → DV} {H : Hp} {nx : Nat} {K : St → Prop} {uo : List (Nat × Nat)} {lg : Lg}
end logged
theorem wrap_eq {a : Int} (h1 : -9223372036854775808 ≤ a) (h2 : a ≤ 9223372036854775807) : IntKind.i64.wrap a = a := by rw [IntKind.wrap_i64]; omega
section arith
variable {p : Bool} {T : Nat → DV} {H : Hp} {nx : Nat} {x y : RO} {a b : Int}
end arith
def HasH (H : Hp) : List (Nat × Ck) → Prop
  | [] => True
  | x :: r => H x.1 = some x.2 ∧ HasH H r
theorem HasH.mk {H : Hp} : ∀ {l : List (Nat × Ck)}, HasH H l → ∀ o, mkH l o = none ∨ mkH l o = H o
  | [], _, o => .inl rfl
  | x :: r, h, o => by
    by_cases e : o = x.1
    · subst e; right; simp only [mkH, Hp.put, if_true]; exact h.1.symm
    · simp only [mkH, Hp.put, if_neg e]; exact HasH.mk h.2 o
structure Fits (l : List (Nat × DV)) (hl : List (Nat × Ck)) (n : Nat) : Prop where
  t : ∀ x, x ∈ l → Ids (fun o => o < n) x.2
  h : ∀ x, x ∈ hl → x.1 < n ∧ ∀ r, r ∈ x.2.xs → ∀ c, c ∈ r → Ids (fun o => o < n) c
end Go.Pv
