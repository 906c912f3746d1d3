/- Calls at other numbers of chunks (rename), and functions that turn boxes or make new ones (SFOK). No condition of its own: over any program. -/
import Derived.Test.YtipokcccpbcmeaaDoorPxI
set_option linter.all false
namespace Go.Pv
open Go.RowKit

/-- A datum and its like at other numbers. -/
inductive Rn (r γ : Nat → Nat) (q : Nat) : DV → DV → Prop
  | flat (d : DV) (h : Ids (fun _ => False) d) : Rn r γ q d d
  | ptr (j g i f : Nat) (h : j < q) : Rn r γ q (.ptr (r j) (g + γ j) i f) (.ptr j g i f)
  | own (j g lo n : Nat) (h : j < q) : Rn r γ q (.own (r j) (g + γ j) lo n) (.own j g lo n)
  | agg (cs ds : List DV) (hl : cs.length = ds.length) (h : ∀ j (h1 : j < cs.length) (h2 : j < ds.length), Rn r γ q cs[j] ds[j]) : Rn r γ q (.agg cs) (.agg ds)
  | tup (cs ds : List DV) (hl : cs.length = ds.length) (h : ∀ j (h1 : j < cs.length) (h2 : j < ds.length), Rn r γ q cs[j] ds[j]) : Rn r γ q (.tup cs) (.tup ds)
  | fn (f : FuncId) (cs ds : List DV) (hl : cs.length = ds.length) (h : ∀ j (h1 : j < cs.length) (h2 : j < ds.length), Rn r γ q cs[j] ds[j]) : Rn r γ q (.fn f cs) (.fn f ds)

section rn
variable {r γ : Nat → Nat} {q : Nat} {H1 H2 : Hp} {ps1 ps2 : Ps} {M : Nat → Prop} {n1 n2 : Nat} {w : World}

theorem Rn.down {d' d : DV} {x : Value} (h : Rn r γ q d' d) (hmu : ∀ b, Mu H1 ps1 M b → Mu H2 ps2 M b) (hH : ∀ j ck, j < q → H1 j = some ck → ∃ c2, H2 (r j) = some c2 ∧ c2.gen = ck.gen + γ j ∧ ck.sz = c2.sz ∧ ck.xs.length = c2.xs.length ∧ ps1 j = ps2 (r j)) (hn : q ≤ n1) (hv : VR H2 ps2 M n2 w d' x) : VR H1 ps1 M n1 w d x := by
  induction h generalizing x with
  | flat d hd => exact hv.monoS hd ⟨fun o h => h.elim, fun o h => h.elim, fun b hb => .inl (hmu b hb), fun _ _ _ => rfl⟩
  | ptr j g i f hj =>
    cases hv with
    | ptr _ _ _ _ _ h0 h1 hh =>
      refine .ptr _ _ _ _ _ (Nat.lt_of_lt_of_le hj hn) h1 fun ck hk => ?_
      obtain ⟨c2, k1, k2, k3, k4, k5⟩ := hH j ck hj hk
      obtain ⟨a1, a2⟩ := hh c2 k1
      refine ⟨by omega, fun e => ?_⟩
      obtain ⟨b1, p, b2, b3⟩ := a2 (by omega)
      exact ⟨by omega, p, by rw [k5]; exact b2, by rw [k3]; exact b3⟩
  | own j g lo n hj =>
    cases hv with
    | own _ _ _ _ _ h0 h1 hh =>
      refine .own _ _ _ _ _ (Nat.lt_of_lt_of_le hj hn) h1 fun ck hk => ?_
      obtain ⟨c2, k1, k2, k3, k4, k5⟩ := hH j ck hj hk
      obtain ⟨a1, a2⟩ := hh c2 k1
      refine ⟨by omega, fun e => ?_⟩
      obtain ⟨b1, a, cap, b2, b3, b4⟩ := a2 (by omega)
      refine ⟨by omega, a, cap, b2, b3, ?_⟩
      rcases b4 with b4 | ⟨p, p1, p2, p3⟩
      · exact .inl b4
      · exact .inr ⟨p, by rw [k5]; exact p1, by rw [k3]; exact p2, by rw [k3]; exact p3⟩
  | agg cs ds hl _ ih =>
    obtain ⟨vs, rfl, h1, h2, h3⟩ := hv.agg_inv
    exact .agg _ vs (by omega) (fun j hj => h2 j (by omega)) fun j hj => ih j (by omega) hj (h3 j (by omega))
  | tup cs ds hl _ ih =>
    obtain ⟨vs, rfl, h1, h2⟩ := hv.tup_inv
    exact .tup _ vs (by omega) fun j hj => ih j (by omega) hj (h2 j (by omega))
  | fn f cs ds hl _ ih =>
    obtain ⟨vs, rfl, h1, h2⟩ := hv.fn_inv
    exact .fn _ _ vs (by omega) fun j hj => ih j (by omega) hj (h2 j (by omega))

theorem Rn.up {d' d : DV} {x : Value} (h : Rn r γ q d' d) (hmu : ∀ b, Mu H2 ps2 M b → Mu H1 ps1 M b) (hH : ∀ j ck, j < q → H2 (r j) = some ck → ∃ c1, H1 j = some c1 ∧ ck.gen = c1.gen + γ j ∧ ck.sz = c1.sz ∧ ck.xs.length = c1.xs.length ∧ ps1 j = ps2 (r j)) (hn : ∀ j, j < q → r j < n2) (hv : VR H1 ps1 M n1 w d x) : VR H2 ps2 M n2 w d' x := by
  induction h generalizing x with
  | flat d hd => exact hv.monoS hd ⟨fun o h => h.elim, fun o h => h.elim, fun b hb => .inl (hmu b hb), fun _ _ _ => rfl⟩
  | ptr j g i f hj =>
    cases hv with
    | ptr _ _ _ _ _ h0 h1 hh =>
      refine .ptr _ _ _ _ _ (hn j hj) h1 fun ck hk => ?_
      obtain ⟨c2, k1, k2, k3, k4, k5⟩ := hH j ck hj hk
      obtain ⟨a1, a2⟩ := hh c2 k1
      refine ⟨by omega, fun e => ?_⟩
      obtain ⟨b1, p, b2, b3⟩ := a2 (by omega)
      exact ⟨by omega, p, by rw [← k5]; exact b2, by rw [k3]; exact b3⟩
  | own j g lo n hj =>
    cases hv with
    | own _ _ _ _ _ h0 h1 hh =>
      refine .own _ _ _ _ _ (hn j hj) h1 fun ck hk => ?_
      obtain ⟨c2, k1, k2, k3, k4, k5⟩ := hH j ck hj hk
      obtain ⟨a1, a2⟩ := hh c2 k1
      refine ⟨by omega, fun e => ?_⟩
      obtain ⟨b1, a, cap, b2, b3, b4⟩ := a2 (by omega)
      refine ⟨by omega, a, cap, b2, b3, ?_⟩
      rcases b4 with b4 | ⟨p, p1, p2, p3⟩
      · exact .inl b4
      · exact .inr ⟨p, by rw [← k5]; exact p1, by rw [k3]; exact p2, by rw [k3]; exact p3⟩
  | agg cs ds hl _ ih =>
    obtain ⟨vs, rfl, h1, h2, h3⟩ := hv.agg_inv
    exact .agg _ vs (by omega) (fun j hj => h2 j (by omega)) fun j hj => ih j hj (by omega) (h3 j (by omega))
  | tup cs ds hl _ ih =>
    obtain ⟨vs, rfl, h1, h2⟩ := hv.tup_inv
    exact .tup _ vs (by omega) fun j hj => ih j hj (by omega) (h2 j (by omega))
  | fn f cs ds hl _ ih =>
    obtain ⟨vs, rfl, h1, h2⟩ := hv.fn_inv
    exact .fn _ _ vs (by omega) fun j hj => ih j hj (by omega) (h2 j (by omega))

theorem Rn.ids {S : Nat → Prop} {d' d : DV} (h : Rn r γ q d' d) (hS : ∀ j, j < q → S (r j)) : Ids S d' := by
  induction h with
  | flat d hd => exact hd.mono' fun _ h => h.elim
  | ptr j g i f hj => exact .ptr _ _ _ _ (hS j hj)
  | own j g lo n hj => exact .own _ _ _ _ (hS j hj)
  | agg cs ds hl _ ih =>
    refine .agg _ fun c hc => ?_
    obtain ⟨j, hj, rfl⟩ := List.mem_iff_getElem.1 hc
    exact ih j hj (by omega)
  | tup cs ds hl _ ih =>
    refine .tup _ fun c hc => ?_
    obtain ⟨j, hj, rfl⟩ := List.mem_iff_getElem.1 hc
    exact ih j hj (by omega)
  | fn f cs ds hl _ ih =>
    refine .fn _ _ fun c hc => ?_
    obtain ⟨j, hj, rfl⟩ := List.mem_iff_getElem.1 hc
    exact ih j hj (by omega)
end rn

/-- The same chunk, moved γ times more, at other numbers, perhaps told weaker. -/
structure CkM (r γ : Nat → Nat) (q g : Nat) (c' c : Ck) : Prop where
  g : c'.gen = c.gen + g
  s : c.sz = c'.sz
  l : c.xs.length = c'.xs.length
  r : ∀ i (h1 : i < c.xs.length) (h2 : i < c'.xs.length), c.xs[i].length = c'.xs[i].length ∧ ∀ j (h3 : j < c.xs[i].length) (h4 : j < c'.xs[i].length), ∃ e, WkD c'.xs[i][j] e ∧ Rn r γ q e c.xs[i][j]

/-- A list of chunks at other numbers: the same ones, perhaps told weaker. -/
structure Moved (r γ : Nat → Nat) (q : Nat) (c' c : Cks) : Prop where
  to : ∀ j ck, ofL c j = some ck → j < q ∧ ∃ ck', ofL c' (r j) = some ck' ∧ CkM r γ q (γ j) ck' ck
  of : ∀ o ck', ofL c' o = some ck' → ∃ j ck, j < q ∧ o = r j ∧ ofL c j = some ck
/-- Exactly so. -/
structure CkE (r γ : Nat → Nat) (q g : Nat) (c' c : Ck) : Prop where
  g : c'.gen = c.gen + g
  s : c.sz = c'.sz
  l : c.xs.length = c'.xs.length
  r : ∀ i (h1 : i < c.xs.length) (h2 : i < c'.xs.length), c.xs[i].length = c'.xs[i].length ∧ ∀ j (h3 : j < c.xs[i].length) (h4 : j < c'.xs[i].length), Rn r γ q c'.xs[i][j] c.xs[i][j]
theorem CkE.m {r γ : Nat → Nat} {q g : Nat} {c' c : Ck} (h : CkE r γ q g c' c) : CkM r γ q g c' c := ⟨h.g, h.s, h.l, fun i h1 h2 => ⟨(h.r i h1 h2).1, fun j h3 h4 => ⟨_, .refl _, (h.r i h1 h2).2 j h3 h4⟩⟩⟩

end Go.Pv
