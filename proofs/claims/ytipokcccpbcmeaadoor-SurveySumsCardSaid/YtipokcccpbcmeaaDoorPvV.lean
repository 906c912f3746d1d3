/- Calls that turn one chunk, or make one; regions of open order with a log. No condition of its own: over any program. -/
import Derived.Test.YtipokcccpbcmeaaDoorPvU
set_option linter.all false
namespace Go.Pv
open Go.RowKit

theorem ofL_one {o o' : Nat} {ck ck' : Ck} (h : ofL [(o, ck)] o' = some ck') : o' = o ∧ ck' = ck := by
  have := ofL_mem h
  simpa using this
theorem ofL_self (o : Nat) (ck : Ck) : ofL [(o, ck)] o = some ck := by simp [ofL, puts, Hp.put]

section fn
variable {P : Program} {f : FuncId} {nt : Nat} {ow : Nat → Bool} {ac : AC} {rs : List RR}
/-- A function that turns one chunk. -/
theorem FnOK.one (hm : P.follows .mixedOrders = true) (h : FnOK P f nt ow ac rs) {args : List DV} {o : Nat} {ck ck' : Ck} {nb : Nat} {res : DV} (hlen : args.length ≤ nt) (ho : o < nb) (ids : Ids (fun o' => o' = o) res)
    (idp : ∀ x, x ∈ ck'.xs → ∀ c, c ∈ x → Ids (fun o' => o' = o) c) (k : ∀ cx : Cx, cx.nt = nt → cx.nb = nb → AWP P cx ow ac (Ends rs res [(o, ck')]) ⟨ofArgs args, ofL [(o, ck)], nb⟩) : CallOK P f args [(o, ck)] nb res [(o, ck')] nb := by
  have mono : ∀ {S S' : Nat → Prop} {d : DV}, (∀ o, S o → S' o) → Ids S d → Ids S' d := by
    intro S S' d hS hd
    induction hd with
    | v x => exact .v x
    | any => exact .any
    | nn => exact .nn
    | gd p d _ ih => exact .gd p d ih
    | ptr o g i off h => exact .ptr o g i off (hS o h)
    | own o g lo n h => exact .own o g lo n (hS o h)
    | lst f xs _ ih => exact .lst f xs ih
    | rp cs _ ih => exact .rp cs ih
    | agg cs _ ih => exact .agg cs ih
    | tup cs _ ih => exact .tup cs ih
    | fn f cs _ ih => exact .fn f cs ih
  have hS : ∀ o', o' = o → (∃ ck, ofL [(o, ck')] o' = some ck) ∨ (nb ≤ o' ∧ o' < nb) := fun o' e => by subst e; exact .inl ⟨ck', ofL_self _ _⟩
  refine h.call hm hlen (fun o' c hc => ?_) (fun o' c hc _ => ?_) (Nat.le_refl _) (mono hS ids) (fun o' c hc x hx d hd => ?_) (fun o' c hc => ?_) k
  · obtain ⟨rfl, rfl⟩ := ofL_one hc; exact ⟨ck', ofL_self _ _⟩
  · obtain ⟨rfl, rfl⟩ := ofL_one hc; exact ⟨ck, ofL_self _ _⟩
  · obtain ⟨rfl, rfl⟩ := ofL_one hc; exact mono hS (idp x hx d hd)
  · obtain ⟨rfl, rfl⟩ := ofL_one hc; exact ho
/-- A function that makes one chunk. -/
theorem FnOK.new (hm : P.follows .mixedOrders = true) (h : FnOK P f nt ow ac rs) {args : List DV} {ck' : Ck} {nb : Nat} {res : DV} (hlen : args.length ≤ nt) (ids : Ids (fun o' => o' = nb) res)
    (idp : ∀ x, x ∈ ck'.xs → ∀ c, c ∈ x → Ids (fun o' => o' = nb) c) (k : ∀ cx : Cx, cx.nt = nt → cx.nb = nb → AWP P cx ow ac (Ends rs res [(nb, ck')]) ⟨ofArgs args, Hp.emp, nb⟩) : CallOK P f args [] nb res [(nb, ck')] (nb + 1) := by
  have mono : ∀ {S S' : Nat → Prop} {d : DV}, (∀ o, S o → S' o) → Ids S d → Ids S' d := by
    intro S S' d hS hd
    induction hd with
    | v x => exact .v x
    | any => exact .any
    | nn => exact .nn
    | gd p d _ ih => exact .gd p d ih
    | ptr o g i off h => exact .ptr o g i off (hS o h)
    | own o g lo n h => exact .own o g lo n (hS o h)
    | lst f xs _ ih => exact .lst f xs ih
    | rp cs _ ih => exact .rp cs ih
    | agg cs _ ih => exact .agg cs ih
    | tup cs _ ih => exact .tup cs ih
    | fn f cs _ ih => exact .fn f cs ih
  have hS : ∀ o', o' = nb → (∃ ck, ofL [(nb, ck')] o' = some ck) ∨ (nb ≤ o' ∧ o' < nb + 1) := fun o' e => by subst e; exact .inl ⟨ck', ofL_self _ _⟩
  refine h.call hm hlen (fun o' c hc => by cases hc) (fun o' c hc hlt => ?_) (Nat.le_succ _) (mono hS ids) (fun o' c hc x hx d hd => ?_) (fun o' c hc => ?_) k
  · obtain ⟨rfl, rfl⟩ := ofL_one hc; omega
  · obtain ⟨rfl, rfl⟩ := ofL_one hc; exact mono hS (idp x hx d hd)
  · obtain ⟨rfl, rfl⟩ := ofL_one hc; omega
end fn

section ends
variable {rs : List RR} {res : DV} {T : Nat → DV} {H : Hp} {nx o : Nat} {ck ck0 : Ck} {ds : List DV}
end ends

section one
variable {P : Program} {r : List RI} {T : Nat → DV} {H : Hp} {nx : Nat} {K : St → Prop} {lg : Lg} {KL : Lg → St → Prop}
end one

/-- With a log: no two operations of open order touch the same chunk. -/
def disB (x y : List Nat × List Nat) : Bool := x.2.all (fun o => !y.1.contains o && !y.2.contains o) && y.2.all (fun o => !x.1.contains o)
def compatB (un : List (Nat × Nat)) (lg : Lg) : Bool := un.all fun p => disB (lgAt lg p.1) (lgAt lg p.2)
section logged
variable {P : Program} {r : List RI} {T : Nat → DV} {H : Hp} {nx : Nat} {K : St → Prop} {uo : List (Nat × Nat)} {lg : Lg}
end logged

theorem wrap_eq {a : Int} (h1 : -9223372036854775808 ≤ a) (h2 : a ≤ 9223372036854775807) : IntKind.i64.wrap a = a := by rw [IntKind.wrap_i64]; omega
section arith
variable {p : Bool} {T : Nat → DV} {H : Hp} {nx : Nat} {x y : RO} {a b : Int}
end arith

/-! ### Heads of loops: what lives, written out -/
def HasH (H : Hp) : List (Nat × Ck) → Prop
  | [] => True
  | x :: r => H x.1 = some x.2 ∧ HasH H r
theorem HasH.mk {H : Hp} : ∀ {l : List (Nat × Ck)}, HasH H l → ∀ o, mkH l o = none ∨ mkH l o = H o
  | [], _, o => .inl rfl
  | x :: r, h, o => by
    by_cases e : o = x.1
    · subst e; right; simp only [mkH, Hp.put, if_true]; exact h.1.symm
    · simp only [mkH, Hp.put, if_neg e]; exact HasH.mk h.2 o
structure Fits (l : List (Nat × DV)) (hl : List (Nat × Ck)) (n : Nat) : Prop where
  t : ∀ x, x ∈ l → Ids (fun o => o < n) x.2
  h : ∀ x, x ∈ hl → x.1 < n ∧ ∀ r, r ∈ x.2.xs → ∀ c, c ∈ r → Ids (fun o => o < n) c

end Go.Pv
