/- A state of the walk may be written anew: slots dropped, chunks renumbered, grown arrays frozen to lists (Wk). No condition of its own: over any program. -/
import Derived.Test.YtipokcccpbcmeaaDoorPxE
set_option linter.all false
namespace Go.Pv
open Go.RowKit

/-- One datum gives another one, in a heap that is told anew. -/
def Tr (s : St) (H' : Hp) (π : Nat → Nat) (nx' : Nat) (d d' : DV) : Prop := ∀ (ps : Ps) (M : Nat → Prop) (w : World) (x : Value), HR s.H ps M s.nx w → VR s.H ps M s.nx w d x → VR H' (fun j => ps (π j)) M nx' w d' x

/-- The heap told anew has the shape of the old one. -/
structure Shape (s : St) (H' : Hp) (π : Nat → Nat) (nx' : Nat) : Prop where
  hp : ∀ j ck', H' j = some ck' → j < nx' ∧ ∃ ck, s.H (π j) = some ck ∧ ck'.gen = ck.gen ∧ ck'.sz = ck.sz ∧ ck'.xs.length = ck.xs.length

structure TrOK (s : St) (H' : Hp) (π : Nat → Nat) (nx' nb : Nat) : Prop where
  sh : Shape s H' π nx'
  cl : ∀ j ck' ck, H' j = some ck' → s.H (π j) = some ck → ∀ i (h1 : i < ck'.xs.length) (h2 : i < ck.xs.length), ck'.xs[i].length = ck.xs[i].length ∧ ∀ c (h3 : c < ck'.xs[i].length) (h4 : c < ck.xs[i].length), Tr s H' π nx' ck.xs[i][c] ck'.xs[i][c]
  inj : ∀ j j' ck ck', H' j = some ck → H' j' = some ck' → π j = π j' → j = j'
  nb : nb ≤ nx' ∧ ∀ o, o < nb → π o = o

theorem Shape.mu {s : St} {H' : Hp} {π : Nat → Nat} {nx' : Nat} (h : Shape s H' π nx') {ps : Ps} {M : Nat → Prop} {b : Nat} (hb : Mu H' (fun j => ps (π j)) M b) : Mu s.H ps M b := by
  rcases hb with hb | ⟨j, ck', p, h1, h2, h3⟩
  · exact .inl hb
  · obtain ⟨_, ck, k1, _⟩ := h.hp j ck' h1
    exact .inr ⟨π j, ck, p, k1, h2, h3⟩

theorem Wk.tr {cx : Cx} {s : St} {H' : Hp} {π : Nat → Nat} {nx' : Nat} {T' : Nat → DV} (h : TrOK s H' π nx' cx.nb) (ht : ∀ t, Tr s H' π nx' (s.T t) (T' t)) : Wk cx s ⟨T', H', nx'⟩ := fun ps a w R => by
  refine ⟨fun j => ps (π j), ⟨fun t => ht t ps cx.M w _ R.hr (R.t t), R.nt, ⟨fun j ck' hj => (h.sh.hp j ck' hj).1, fun j ck' hj => ?_, ?_, R.hr.ml, ?_⟩, R.fr, ?_, R.df, h.nb.1, ?_, R.fz⟩⟩
  · obtain ⟨_, ck, k1, k2, k3, k4⟩ := h.sh.hp j ck' hj
    rcases R.hr.cr _ ck k1 with ⟨g1, g2⟩ | ⟨p, c, E, vs, g1, g2, g3, g4, g5, g6, g7⟩
    · exact .inl ⟨g1, List.eq_nil_of_length_eq_zero (by rw [k4, g2]; rfl)⟩
    · refine .inr ⟨p, c, E, vs, g1, g2, g3, fun i hi => ?_, by rw [k4, k3]; exact g5, fun i q hi hq => by rw [k3] at hq ⊢; exact g6 i q (by rw [← k4]; exact hi) hq, fun i q hi hq => ?_⟩
      · have := (h.cl j ck' ck hj k1 i hi (by rw [← k4]; exact hi)).1
        rw [this, k3]; exact g4 i _
      · have q1 := h.cl j ck' ck hj k1 i hi (by rw [← k4]; exact hi)
        exact q1.2 q hq (by rw [← q1.1]; exact hq) ps cx.M w _ R.hr (g7 i q _ _)
  · intro o o' ck ck' p p' h1 h2 h3 h4 h5
    obtain ⟨_, c1, k1, _⟩ := h.sh.hp o ck h1
    obtain ⟨_, c2, k2, _⟩ := h.sh.hp o' ck' h2
    exact h.inj o o' ck ck' h1 h2 (R.hr.inj _ _ c1 c2 p p' k1 k2 h3 h4 h5)
  · intro o ck p h1 h2
    obtain ⟨_, c1, k1, _⟩ := h.sh.hp o ck h1
    exact R.hr.dj _ c1 p k1 h2
  · intro o ck p h1 h2
    obtain ⟨_, c1, k1, _⟩ := h.sh.hp o ck h1
    exact R.lb _ c1 p k1 h2
  · intro o ho ck' hk
    obtain ⟨_, c1, k1, k2, k3, k4⟩ := h.sh.hp o ck' hk
    rw [h.nb.2 o ho] at k1
    obtain ⟨c0, q1, q2⟩ := R.gm o ho c1 k1
    refine ⟨c0, q1, ?_⟩
    rcases q2 with q2 | ⟨q2, q3, q4, q5⟩
    · exact .inl (by rw [k2]; exact q2)
    · exact .inr ⟨by rw [k2]; exact q2, by rw [k3]; exact q3, by rw [k4]; exact q4, by show ps (π o) = _; rw [h.nb.2 o ho]; exact q5⟩

/-- A datum without chunks stays. -/
theorem Tr.flat {s : St} {H' : Hp} {π : Nat → Nat} {nx' : Nat} (h : Shape s H' π nx') {d : DV} (hd : Ids (fun _ => False) d) : Tr s H' π nx' d d := fun ps M w x hr hv =>
  hv.monoS hd ⟨fun o h => h.elim, fun o h => h.elim, fun b hb => .inl (h.mu hb), fun b _ _ => rfl⟩

/-! ### A change of cells, taken through a state -/
/-- What is done to a cell, on both sides. -/
structure Ch where
  f : IV → IV
  g : IV → DV → DV

/-- A change that reaches cells; deeper data is forgotten. -/
def chC (f : IV → IV) : IV → IV
  | .rp _ => .any
  | .agg _ => .any
  | .tup _ => .any
  | .fn f [] => .fn f []
  | .fn _ _ => .any
  | .any => .any
  | v => f v
def Ch.cD (φ : Ch) : IV → DV → DV
  | .rp _, _ => .any
  | .agg _, _ => .any
  | .tup _, _ => .any
  | .fn _ [], d => d
  | .fn _ _, _ => .any
  | .any, _ => .any
  | v, d => φ.g v d
def chA (f : IV → IV) : IV → IV
  | .agg cs => .agg (cs.map (chC f))
  | .rp cs => .rp (cs.map (chC f))
  | .fn g cs => .fn g (cs.map (chC f))
  | v => chC f v
def Ch.aD (φ : Ch) : IV → DV → DV
  | .agg cs, .agg ds => .agg (List.zipWith φ.cD cs ds)
  | .rp cs, .rp ds => .rp (List.zipWith φ.cD cs ds)
  | .fn _ cs, .fn f ds => .fn f (List.zipWith φ.cD cs ds)
  | v, d => φ.cD v d
def chV (f : IV → IV) : IV → IV
  | .tup vs => .tup (vs.map (chA f))
  | v => chA f v
def Ch.vD (φ : Ch) : IV → DV → DV
  | .tup vs, .tup ds => .tup (List.zipWith φ.aD vs ds)
  | v, d => φ.aD v d
def chT (f : IV → IV) : List (Nat × IV) → List (Nat × IV)
  | [] => []
  | (a, v) :: r => (a, chV f v) :: chT f r
def chK (f : IV → IV) : Option ICk → Option ICk
  | some (.box g cs) => some (.box g (cs.map (chC f)))
  | c => c
def Ch.kD (φ : Ch) : ICk → Ck → Ck
  | .box _ cs, ck => ⟨ck.gen, ck.sz, ck.xs.map fun ds => List.zipWith φ.cD cs ds⟩
  | _, ck => ck
def chH (f : IV → IV) : IH → IH
  | [] => []
  | c :: r => chK f c :: chH f r

theorem Ch.t_get (φ : Ch) : ∀ (T : List (Nat × IV)) (t : Nat), getT ((chT φ.f) T) t = (chV φ.f) (getT T t)
  | [], t => rfl
  | (a, v) :: r, t => by
    simp only [chT, getT]
    cases Nat.beq a t with
    | true => rfl
    | false => exact Ch.t_get φ r t
theorem Ch.h_get (φ : Ch) : ∀ (HI : IH) (j : Nat), getH ((chH φ.f) HI) j = (chK φ.f) (getH HI j)
  | [], j => rfl
  | c :: r, 0 => rfl
  | c :: r, j + 1 => Ch.h_get φ r j
theorem Ch.h_len (φ : Ch) : ∀ (HI : IH), ((chH φ.f) HI).length = HI.length
  | [] => rfl
  | c :: r => by simp [chH, Ch.h_len φ r]

section ch
variable {s : St} {H' : Hp} {π : Nat → Nat} {nx' : Nat} {φ : Ch}

/-- What must be shown of a change, for cells. -/
def ChOK (φ : Ch) (s : St) (H' : Hp) (π : Nat → Nat) (nx' : Nat) : Prop := ∀ v d, Rel s.H s.nx v d → (∀ cs, v ≠ .rp cs) → (∀ cs, v ≠ .agg cs) → (∀ cs, v ≠ .tup cs) → (∀ f cs, v ≠ .fn f cs) → v ≠ .any → Rel H' nx' (φ.f v) (φ.g v d) ∧ Tr s H' π nx' d (φ.g v d)

theorem Ch.c_ok (hs : Shape s H' π nx') (h : ChOK φ s H' π nx') {v : IV} {d : DV} (hr : Rel s.H s.nx v d) : Rel H' nx' ((chC φ.f) v) (φ.cD v d) ∧ Tr s H' π nx' d (φ.cD v d) := by
  have any : Rel H' nx' .any .any ∧ Tr s H' π nx' d .any := ⟨.any _, fun ps M w x _ _ => .any x⟩
  cases v with
  | rp cs => exact any
  | agg cs => exact any
  | tup cs => exact any
  | any => exact any
  | fn f cs =>
    cases cs with
    | nil =>
      obtain ⟨ds, rfl, hds⟩ := hr.fn_inv
      have := hds.nil_l; subst this
      exact ⟨.fn _ _ _ rfl (fun j h => by cases h), Tr.flat hs (.fn _ _ (fun c hc => by cases hc))⟩
    | cons => exact any
  | int k n => exact h _ _ hr (by simp) (by simp) (by simp) (by simp) (by simp)
  | bool b => exact h _ _ hr (by simp) (by simp) (by simp) (by simp) (by simp)
  | str b => exact h _ _ hr (by simp) (by simp) (by simp) (by simp) (by simp)
  | nil => exact h _ _ hr (by simp) (by simp) (by simp) (by simp) (by simp)
  | lst f t as => exact h _ _ hr (by simp) (by simp) (by simp) (by simp) (by simp)
  | raw x => exact h _ _ hr (by simp) (by simp) (by simp) (by simp) (by simp)
  | nn => exact h _ _ hr (by simp) (by simp) (by simp) (by simp) (by simp)
  | ptr o i f => exact h _ _ hr (by simp) (by simp) (by simp) (by simp) (by simp)
  | whole o => exact h _ _ hr (by simp) (by simp) (by simp) (by simp) (by simp)
  | part o l n => exact h _ _ hr (by simp) (by simp) (by simp) (by simp) (by simp)

theorem Ch.cs_ok (hs : Shape s H' π nx') (h : ChOK φ s H' π nx') {cs : List IV} {ds : List DV} (hr : Rels s.H s.nx cs ds) : Rels H' nx' (cs.map (chC φ.f)) (List.zipWith φ.cD cs ds) ∧ ds.length = (List.zipWith φ.cD cs ds).length ∧ ∀ j (h1 : j < ds.length) (h2 : j < (List.zipWith φ.cD cs ds).length), Tr s H' π nx' ds[j] (List.zipWith φ.cD cs ds)[j] := by
  have e := hr.1
  refine ⟨⟨by simp [e], fun j h1 h2 => ?_⟩, by simp [e], fun j h1 h2 => ?_⟩
  · simp only [List.getElem_map, List.getElem_zipWith]
    exact (Ch.c_ok hs h (hr.2 j _ _)).1
  · simp only [List.getElem_zipWith]
    exact (Ch.c_ok hs h (hr.2 j (by omega) h1)).2

theorem VR.agg_tr {ps : Ps} {M : Nat → Prop} {w : World} {ds es : List DV} {x : Value} (hl : ds.length = es.length) (h : ∀ j (h1 : j < ds.length) (h2 : j < es.length), Tr s H' π nx' ds[j] es[j]) (hr : HR s.H ps M s.nx w) (hv : VR s.H ps M s.nx w (.agg ds) x) : VR H' (fun j => ps (π j)) M nx' w (.agg es) x := by
  obtain ⟨vs, rfl, h1, h2, h3⟩ := hv.agg_inv
  exact .agg es vs (by omega) (fun j hj => h2 j (by omega)) fun j hj => h j (by omega) hj ps M w _ hr (h3 j (by omega))

theorem Ch.a_ok (hs : Shape s H' π nx') (h : ChOK φ s H' π nx') {v : IV} {d : DV} (hr : Rel s.H s.nx v d) : Rel H' nx' ((chA φ.f) v) (φ.aD v d) ∧ Tr s H' π nx' d (φ.aD v d) := by
  cases v with
  | agg cs =>
    obtain ⟨ds, rfl, hds⟩ := hr.agg_inv
    obtain ⟨q1, q2, q3⟩ := Ch.cs_ok hs h hds
    exact ⟨Rel.aggB q1, fun ps M w x hR hv => VR.agg_tr q2 q3 hR hv⟩
  | rp cs =>
    obtain ⟨ds, rfl, hds⟩ := hr.rp_inv
    obtain ⟨q1, q2, q3⟩ := Ch.cs_ok hs h hds
    refine ⟨Rel.rpB q1, fun ps M w x hR hv => ?_⟩
    cases hv with
    | rp _ b off vs hM h1 hc hv =>
      refine .rp _ b off vs (fun hne hmu => ?_) (fun j hj => h1 j (by rw [q2]; exact hj)) (fun j hj => hc j (by rw [q2]; exact hj)) fun j hj => q3 j (by rw [q2]; exact hj) hj ps M w _ hR (hv j (by rw [q2]; exact hj))
      exact hM (fun e => hne (by rw [e]; simp)) (hs.mu hmu)
  | fn f cs =>
    obtain ⟨ds, rfl, hds⟩ := hr.fn_inv
    obtain ⟨q1, q2, q3⟩ := Ch.cs_ok hs h hds
    refine ⟨Rel.fnB q1, fun ps M w x hR hv => ?_⟩
    obtain ⟨vs, rfl, h1, h2⟩ := hv.fn_inv
    exact .fn _ _ vs (by omega) fun j hj => q3 j (by omega) hj ps M w _ hR (h2 j (by omega))
  | tup cs => exact Ch.c_ok hs h hr
  | int k n => exact Ch.c_ok hs h hr
  | bool b => exact Ch.c_ok hs h hr
  | str b => exact Ch.c_ok hs h hr
  | nil => exact Ch.c_ok hs h hr
  | lst f t as => exact Ch.c_ok hs h hr
  | raw x => exact Ch.c_ok hs h hr
  | nn => exact Ch.c_ok hs h hr
  | any => exact Ch.c_ok hs h hr
  | ptr o i f => exact Ch.c_ok hs h hr
  | whole o => exact Ch.c_ok hs h hr
  | part o l n => exact Ch.c_ok hs h hr

theorem Ch.v_ok (hs : Shape s H' π nx') (h : ChOK φ s H' π nx') {v : IV} {d : DV} (hr : Rel s.H s.nx v d) : Rel H' nx' ((chV φ.f) v) (φ.vD v d) ∧ Tr s H' π nx' d (φ.vD v d) := by
  cases v with
  | tup cs =>
    obtain ⟨ds, rfl, hds⟩ := hr.tup_inv
    have e := hds.1
    refine ⟨Rel.tupB ⟨by simp [e], fun j h1 h2 => ?_⟩, fun ps M w x hR hv => ?_⟩
    · simp only [List.getElem_map, List.getElem_zipWith]
      exact (Ch.a_ok hs h (hds.2 j _ _)).1
    · obtain ⟨vs, rfl, h1, h2⟩ := hv.tup_inv
      refine .tup _ vs (by simp [e]; omega) fun j hj => ?_
      have hj2 : j < ds.length := by simp at hj; omega
      simp only [List.getElem_zipWith]
      exact (Ch.a_ok hs h (hds.2 j (by omega) hj2)).2 ps M w _ hR (h2 j hj2)
  | agg cs => exact Ch.a_ok hs h hr
  | rp cs => exact Ch.a_ok hs h hr
  | fn f cs => exact Ch.a_ok hs h hr
  | int k n => exact Ch.a_ok hs h hr
  | bool b => exact Ch.a_ok hs h hr
  | str b => exact Ch.a_ok hs h hr
  | nil => exact Ch.a_ok hs h hr
  | lst f t as => exact Ch.a_ok hs h hr
  | raw x => exact Ch.a_ok hs h hr
  | nn => exact Ch.a_ok hs h hr
  | any => exact Ch.a_ok hs h hr
  | ptr o i f => exact Ch.a_ok hs h hr
  | whole o => exact Ch.a_ok hs h hr
  | part o l n => exact Ch.a_ok hs h hr

/-- The heap told anew. -/
def Ch.hp (φ : Ch) (HI : IH) (H : Hp) (π : Nat → Nat) (nx' : Nat) (on : Nat → Bool) : Hp := fun j => match on j, getH HI (π j), H (π j) with
  | true, some c, some ck => if j < nx' then some (φ.kD c ck) else none
  | _, _, _ => none

theorem Ch.hp_some {φ : Ch} {HI : IH} {H : Hp} {π : Nat → Nat} {nx' : Nat} {on : Nat → Bool} {j : Nat} {ck' : Ck} (h : φ.hp HI H π nx' on j = some ck') : on j = true ∧ j < nx' ∧ ∃ c ck, getH HI (π j) = some c ∧ H (π j) = some ck ∧ ck' = φ.kD c ck := by
  unfold Ch.hp at h
  split at h
  · rename_i c ck h0 h1 h2
    split at h
    · rename_i hlt
      injection h with h
      exact ⟨h0, hlt, c, ck, h1, h2, h.symm⟩
    · cases h
  · cases h

theorem Ch.kD_shape (φ : Ch) (c : ICk) (ck : Ck) : (φ.kD c ck).gen = ck.gen ∧ (φ.kD c ck).sz = ck.sz ∧ (φ.kD c ck).xs.length = ck.xs.length := by
  cases c <;> simp [Ch.kD]

theorem Ch.hp_shape {HI : IH} {on : Nat → Bool} : Shape s (φ.hp HI s.H π nx' on) π nx' := ⟨fun j ck' hj => by
  obtain ⟨_, hlt, c, ck, h1, h2, rfl⟩ := Ch.hp_some hj
  obtain ⟨a, b, d⟩ := φ.kD_shape c ck
  exact ⟨hlt, ck, h2, a, b, d⟩⟩

theorem Ch.done {T : List (Nat × IV)} {HI HI' : IH} {on : Nat → Bool} {cx : Cx} (hs : SR ⟨T, HI⟩ s) (hok : ChOK φ s (φ.hp HI s.H π nx' on) π nx') (hinj : ∀ j j', on j = true → on j' = true → j < nx' → j' < nx' → π j = π j' → j = j') (hnb : cx.nb ≤ nx' ∧ ∀ o, o < cx.nb → π o = o)
    (hl : HI'.length = nx') (hH : ∀ j c', getH HI' j = some c' → on j = true ∧ ∃ c, getH HI (π j) = some c ∧ (chK φ.f) (some c) = some c') :
    ∃ s', Wk cx s s' ∧ SR ⟨(chT φ.f) T, HI'⟩ s' := by
  have sh : Shape s (φ.hp HI s.H π nx' on) π nx' := Ch.hp_shape
  refine ⟨⟨fun t => φ.vD (getT T t) (s.T t), φ.hp HI s.H π nx' on, nx'⟩, Wk.tr ⟨sh, ?_, ?_, hnb⟩ (fun t => (Ch.v_ok sh hok (hs.t t)).2), ⟨fun t => ?_, fun j c' hj => ?_, hl⟩⟩
  · intro j ck' ck hj hc i h1 h2
    obtain ⟨_, _, c, ck0, k1, k2, rfl⟩ := Ch.hp_some hj
    rw [hc] at k2; injection k2 with k2; subst k2
    obtain ⟨_, ck1, q1, q2⟩ := hs.h.at k1
    rw [hc] at q1; injection q1 with q1; subst q1
    cases c with
    | box gb cs =>
      obtain ⟨e1, ds, e2, e3, e4⟩ := q2
      simp only [Ch.kD, e2] at h1 h2 ⊢
      have : i = 0 := by simpa using h2
      subst this
      obtain ⟨r1, r2, r3⟩ := Ch.cs_ok sh hok e3
      simp only [List.getElem_map, List.getElem_cons_zero]
      exact ⟨r2.symm, fun c h3 h4 => r3 c h4 h3⟩
    | arr t as =>
      refine ⟨rfl, fun c h3 h4 => ?_⟩
      have := q2.2.2 i (by rw [q2.2.1]; exact h2) h2
      exact Tr.flat sh (RelT.ids _ _ _ this _ (List.getElem_mem _))
    | wait =>
      obtain ⟨sz, rfl⟩ := q2
      simp at h2
  · intro j j' ck ck' h1 h2 h3
    exact hinj j j' (Ch.hp_some h1).1 (Ch.hp_some h2).1 (sh.hp j ck h1).1 (sh.hp j' ck' h2).1 h3
  · rw [Ch.t_get]; exact (Ch.v_ok sh hok (hs.t t)).1
  · obtain ⟨hon, c, k1, k2⟩ := hH j c' hj
    have hlt : j < nx' := by rw [← hl]; exact getH_lt _ _ _ hj
    obtain ⟨_, ck, q1, q2⟩ := hs.h.at k1
    refine ⟨hlt, φ.kD c ck, by simp only [Ch.hp, hon, k1, q1, if_pos hlt], ?_⟩
    cases c with
    | box gb cs =>
      simp only [chK, Option.some.injEq] at k2; subst k2
      obtain ⟨e1, ds, e2, e3, e4⟩ := q2
      obtain ⟨r1, r2, r3⟩ := Ch.cs_ok sh hok e3
      exact ⟨by simp [Ch.kD, e1], _, by simp only [Ch.kD, e2, List.map_cons, List.map_nil], r1, e4⟩
    | arr t as => simp only [chK, Option.some.injEq] at k2; subst k2; exact q2
    | wait => simp only [chK, Option.some.injEq] at k2; subst k2; exact q2
end ch

/-! ### Renumbering -/
def idx (o : Nat) : List Nat → Option Nat
  | [] => none
  | a :: r => match Nat.beq a o with
    | true => some 0
    | false => match idx o r with
      | some j => some (j + 1)
      | none => none
theorem idx_some {o : Nat} : ∀ {ids : List Nat} {j : Nat}, idx o ids = some j → ids[j]? = some o
  | [], j, h => by cases h
  | a :: r, j, h => by
    simp only [idx] at h
    split at h
    · rename_i hb
      injection h with h; subst h
      rw [Nat.eq_of_beq_eq_true hb]; rfl
    · split at h
      · rename_i j' hj
        injection h with h; subst h
        simpa using idx_some hj
      · cases h

def renFm (m : Nat → Option Nat) : IV → IV
  | .ptr o i f => match m o with
    | some j => .ptr j i f
    | none => .any
  | .whole o => match m o with
    | some j => .whole j
    | none => .any
  | .part o l n => match m o with
    | some j => .part j l n
    | none => .any
  | v => v
def renGm (m : Nat → Option Nat) : IV → DV → DV
  | .ptr o _ _, .ptr _ g i f => match m o with
    | some j => .ptr j g i f
    | none => .any
  | .whole o, .own _ g l n => match m o with
    | some j => .own j g l n
    | none => .any
  | .part o _ _, .own _ g l n => match m o with
    | some j => .own j g l n
    | none => .any
  | _, d => d
def renm (m : Nat → Option Nat) : Ch := ⟨renFm m, renGm m⟩
def renF (ids : List Nat) : IV → IV := renFm fun o => idx o ids

theorem renm_ok {s : St} {H' : Hp} {π : Nat → Nat} {nx' : Nat} {m : Nat → Option Nat} (sh : Shape s H' π nx') (hπ : ∀ o j, m o = some j → π j = o ∧ j < nx') : ChOK (renm m) s H' π nx' := by
  intro v d hr n1 n2 n3 n4 n5
  have any : ∀ d, Rel H' nx' .any .any ∧ Tr s H' π nx' d .any := fun d => ⟨.any _, fun ps M w x _ _ => .any x⟩
  have own : ∀ (o j g lo n : Nat), π j = o → j < nx' → Tr s H' π nx' (.own o g lo n) (.own j g lo n) := by
    intro o j g lo n hj hlt ps M w x hR hv
    cases hv with
    | own _ _ _ _ _ h0 h1 hh =>
      refine .own _ _ _ _ _ hlt h1 fun ck' hk => ?_
      obtain ⟨_, ck, k1, k2, k3, k4⟩ := sh.hp j ck' hk
      rw [hj] at k1
      obtain ⟨q1, q2⟩ := hh ck k1
      refine ⟨by omega, fun e => ?_⟩
      obtain ⟨r1, a, cap, r2, r3, r4⟩ := q2 (by omega)
      exact ⟨by omega, a, cap, r2, r3, by
        rcases r4 with r4 | ⟨p, p1, p2, p3⟩
        · exact .inl r4
        · exact .inr ⟨p, by show ps (π j) = _; rw [hj]; exact p1, by rw [k3]; exact p2, by rw [k3]; exact p3⟩⟩
  cases hr with
  | ptr o g i off ho h =>
    simp only [renm, renFm, renGm]
    cases hi : m o with
    | none => exact any _
    | some j =>
      obtain ⟨hj, hlt⟩ := hπ o j hi
      refine ⟨.ptr _ _ _ _ hlt fun ck' hk => ?_, fun ps M w x hR hv => ?_⟩
      · obtain ⟨_, ck, k1, k2, k3, k4⟩ := sh.hp j ck' hk
        rw [hj] at k1
        have := h ck k1
        exact ⟨by omega, by omega⟩
      · cases hv with
        | ptr _ _ _ _ _ h0 h1 hh =>
          refine .ptr _ _ _ _ _ hlt h1 fun ck' hk => ?_
          obtain ⟨_, ck, k1, k2, k3, k4⟩ := sh.hp j ck' hk
          rw [hj] at k1
          obtain ⟨q1, q2⟩ := hh ck k1
          refine ⟨by omega, fun e => ?_⟩
          obtain ⟨r1, p, r2, r3⟩ := q2 (by omega)
          exact ⟨by omega, p, by show ps (π j) = _; rw [hj]; exact r2, by rw [k3]; exact r3⟩
  | whole o g n ho h =>
    simp only [renm, renFm, renGm]
    cases hi : m o with
    | none => exact any _
    | some j =>
      obtain ⟨hj, hlt⟩ := hπ o j hi
      refine ⟨.whole _ _ _ hlt fun ck' hk => ?_, own o j g 0 n hj hlt⟩
      obtain ⟨_, ck, k1, k2, k3, k4⟩ := sh.hp j ck' hk
      rw [hj] at k1
      have := h ck k1
      exact ⟨by omega, by omega⟩
  | part o g lo n ho h =>
    simp only [renm, renFm, renGm]
    cases hi : m o with
    | none => exact any _
    | some j =>
      obtain ⟨hj, hlt⟩ := hπ o j hi
      refine ⟨.part _ _ _ _ hlt fun ck' hk => ?_, own o j g lo n hj hlt⟩
      obtain ⟨_, ck, k1, k2, k3, k4⟩ := sh.hp j ck' hk
      rw [hj] at k1
      have := h ck k1
      exact ⟨by omega, by omega⟩
  | int k n => exact ⟨.int _ _, Tr.flat sh (.v _)⟩
  | bool b => exact ⟨.bool _, Tr.flat sh (.v _)⟩
  | str b => exact ⟨.str _, Tr.flat sh (.v _)⟩
  | raw x => exact ⟨.raw _, Tr.flat sh (.v _)⟩
  | nn => exact ⟨.nn, Tr.flat sh .nn⟩
  | nil => exact ⟨.nil, Tr.flat sh (.lst _ _ fun x hx => by cases hx)⟩
  | lst f f' t as xs hf h =>
    refine ⟨.lst _ _ _ _ _ hf h, Tr.flat sh (.lst _ _ fun x hx c hc => ?_)⟩
    obtain ⟨j, hj, rfl⟩ := List.mem_iff_getElem.1 hx
    exact RelT.ids t _ _ (h.2 j (by rw [h.1]; exact hj) hj) c hc
  | any => exact absurd rfl n5
  | rp cs => exact absurd rfl (n1 cs)
  | agg cs => exact absurd rfl (n2 cs)
  | tup cs => exact absurd rfl (n3 cs)
  | fn f cs => exact absurd rfl (n4 f cs)

/-! ### The chunks that are named, in order -/
def idsC : IV → List Nat
  | .ptr o _ _ => [o]
  | .whole o => [o]
  | .part o _ _ => [o]
  | _ => []
def idsA : IV → List Nat
  | .agg cs => cs.flatMap idsC
  | .rp cs => cs.flatMap idsC
  | .fn _ cs => cs.flatMap idsC
  | v => idsC v
def idsV : IV → List Nat
  | .tup vs => vs.flatMap idsA
  | v => idsA v
def idsT : List (Nat × IV) → List Nat
  | [] => []
  | (_, v) :: r => idsV v ++ idsT r
def hasN (o : Nat) : List Nat → Bool
  | [] => false
  | a :: r => cond (Nat.beq a o) true (hasN o r)
def gather (H : IH) : Nat → List Nat → List Nat → List Nat
  | 0, _, acc => acc
  | _ + 1, [], acc => acc
  | n + 1, o :: todo, acc => cond (hasN o acc) (gather H n todo acc) (match getH H o with
    | some (.box _ cs) => gather H n (todo ++ cs.flatMap idsC) (acc ++ [o])
    | some _ => gather H n todo (acc ++ [o])
    | none => gather H n todo acc)
def upto : Nat → List Nat
  | 0 => []
  | n + 1 => upto n ++ [n]

/-- No number twice, and the first ones are those below nb. -/
def nodupB : List Nat → Bool
  | [] => true
  | a :: r => !(hasN a r) && nodupB r
def isPre : List Nat → List Nat → Bool
  | [], _ => true
  | a :: r, b :: q => Nat.beq a b && isPre r q
  | _, _ => false

theorem hasN_mem {o : Nat} : ∀ {l : List Nat}, o ∈ l → hasN o l = true
  | a :: r, h => by
    simp only [hasN]
    cases hb : Nat.beq a o with
    | true => rfl
    | false =>
      rcases List.mem_cons.1 h with rfl | h
      · rw [Nat.beq_refl] at hb; cases hb
      · exact hasN_mem h
theorem nodupB_inj : ∀ {l : List Nat}, nodupB l = true → ∀ (i j o : Nat), l[i]? = some o → l[j]? = some o → i = j
  | a :: r, h, 0, 0, o, h1, h2 => rfl
  | a :: r, h, 0, j + 1, o, h1, h2 => by
    simp only [nodupB, Bool.and_eq_true, Bool.not_eq_true'] at h
    simp only [List.getElem?_cons_zero, Option.some.injEq] at h1; subst h1
    simp only [List.getElem?_cons_succ] at h2
    rw [hasN_mem (List.mem_of_getElem? h2)] at h; cases h.1
  | a :: r, h, i + 1, 0, o, h1, h2 => by
    simp only [nodupB, Bool.and_eq_true, Bool.not_eq_true'] at h
    simp only [List.getElem?_cons_zero, Option.some.injEq] at h2; subst h2
    simp only [List.getElem?_cons_succ] at h1
    rw [hasN_mem (List.mem_of_getElem? h1)] at h; cases h.1
  | a :: r, h, i + 1, j + 1, o, h1, h2 => by
    simp only [nodupB, Bool.and_eq_true] at h
    rw [nodupB_inj h.2 i j o (by simpa using h1) (by simpa using h2)]
theorem isPre_get : ∀ {l m : List Nat}, isPre l m = true → ∀ (i o : Nat), l[i]? = some o → m[i]? = some o
  | [], m, _, i, o, h => by simp at h
  | a :: r, b :: q, h, 0, o, h1 => by
    simp only [isPre, Bool.and_eq_true] at h
    simp only [List.getElem?_cons_zero] at h1 ⊢
    rw [← Nat.eq_of_beq_eq_true h.1]; exact h1
  | a :: r, b :: q, h, i + 1, o, h1 => by
    simp only [isPre, Bool.and_eq_true] at h
    simp only [List.getElem?_cons_succ] at h1 ⊢
    exact isPre_get h.2 i o h1
  | a :: r, [], h, i, o, h1 => by simp [isPre] at h
theorem upto_get : ∀ (n i : Nat), i < n → (upto n)[i]? = some i
  | n + 1, i, h => by
    simp only [upto]
    by_cases hi : i < n
    · have hl : (upto n).length = n := by clear h hi; induction n with | zero => rfl | succ n ih => simp [upto, ih]
      rw [List.getElem?_append_left (by omega)]; exact upto_get n i hi
    · have : i = n := by omega
      subst this
      have hl : (upto i).length = i := by clear h hi; induction i with | zero => rfl | succ n ih => simp [upto, ih]
      rw [List.getElem?_append_right (by omega)]; simp [hl]

def cmpH (f : IV → IV) (H : IH) : List Nat → IH
  | [] => []
  | o :: r => chK f (getH H o) :: cmpH f H r
theorem cmpH_get (f : IV → IV) (H : IH) : ∀ (ids : List Nat) (j : Nat), getH (cmpH f H ids) j = match ids[j]? with | some o => chK f (getH H o) | none => none
  | [], j => by simp [cmpH, getH]
  | o :: r, 0 => by simp [cmpH, getH]
  | o :: r, j + 1 => by simp [cmpH, getH, cmpH_get f H r j]
theorem cmpH_len (f : IV → IV) (H : IH) : ∀ (ids : List Nat), (cmpH f H ids).length = ids.length
  | [] => rfl
  | o :: r => by simp [cmpH, cmpH_len f H r]

/-- Chunks that nobody names are dropped, the others numbered anew. -/
def cmpI (nb : Nat) (s : SI) : Option SI :=
  let ids := gather s.H 200 (upto nb ++ idsT s.T) []
  match nodupB ids && isPre (upto nb) ids with
  | true => some ⟨chT (renF ids) s.T, cmpH (renF ids) s.H ids⟩
  | false => none

theorem cmpI_sound {cx : Cx} {si si' : SI} {s : St} (hs : SR si s) (h : cmpI cx.nb si = some si') : ∃ s', Wk cx s s' ∧ SR si' s' ∧ cx.nb ≤ s'.nx := by
  unfold cmpI at h
  simp only at h
  generalize gather si.H 200 (upto cx.nb ++ idsT si.T) [] = ids at h
  split at h
  · rename_i hb
    rw [Bool.and_eq_true] at hb
    obtain ⟨h1, h2⟩ := hb
    injection h with h; subst h
    have hnb : ∀ o, o < cx.nb → ids[o]? = some o := fun o ho => isPre_get h2 o o (upto_get _ _ ho)
    let π : Nat → Nat := fun j => (ids[j]?).getD j
    have hπ : ∀ j o, ids[j]? = some o → π j = o ∧ j < ids.length := fun j o hj => ⟨by simp [π, hj], (List.getElem?_eq_some_iff.1 hj).1⟩
    have hlen : cx.nb ≤ ids.length := by
      rcases Nat.eq_zero_or_pos cx.nb with h0 | h0
      · omega
      · have := (List.getElem?_eq_some_iff.1 (hnb (cx.nb - 1) (by omega))).1; omega
    suffices hh : ∃ s', Wk cx s s' ∧ SR ⟨chT (renF ids) si.T, cmpH (renF ids) si.H ids⟩ s' by
      obtain ⟨s', w, q⟩ := hh
      exact ⟨s', w, q, by have := q.n; simp only [cmpH_len] at this; omega⟩
    refine Ch.done (φ := renm fun o => idx o ids) (π := π) (nx' := ids.length) (on := fun _ => true) hs (renm_ok Ch.hp_shape fun o j hi => hπ j o (idx_some hi)) ?_ ⟨hlen, fun o ho => by simp [π, hnb o ho]⟩ (cmpH_len _ _ _) ?_
    · intro j j' _ _ hj hj' e
      have e1 := List.getElem?_eq_getElem hj
      have e2 := List.getElem?_eq_getElem hj'
      simp only [π, e1, e2, Option.getD_some] at e
      exact nodupB_inj h1 j j' _ e1 (by rw [e2, e])
    · intro j c' hj
      rw [cmpH_get] at hj
      split at hj
      · rename_i o ho
        have hp : π j = o := by simp [π, ho]
        cases hg : getH si.H o with
        | none => rw [hg] at hj; cases hj
        | some c => rw [hg] at hj; exact ⟨rfl, c, by rw [hp]; exact hg, hj⟩
      · cases hj
  · cases h
/-! ### The end: boxes stay, arrays of their own are numbered anew -/
theorem mem_hasN {o : Nat} : ∀ {l : List Nat}, hasN o l = true → o ∈ l
  | a :: r, h => by
    simp only [hasN] at h
    cases hb : Nat.beq a o with
    | true => rw [Nat.eq_of_beq_eq_true hb]; simp
    | false => rw [hb] at h; exact List.mem_cons_of_mem _ (mem_hasN h)
def outM (nb : Nat) (bs rest : List Nat) (o : Nat) : Option Nat := match hasN o bs with
  | true => some o
  | false => match idx o rest with
    | some j => some (nb + j)
    | none => none
def outH (f : IV → IV) (H : IH) (bs : List Nat) : Nat → IH
  | 0 => []
  | n + 1 => outH f H bs n ++ [match hasN n bs with | true => chK f (getH H n) | false => none]
def cellIds (H : IH) (b : Nat) : List Nat := match getH H b with
  | some (.box _ cs) => cs.flatMap idsC
  | _ => []
def ltAll (nb : Nat) : List Nat → Bool
  | [] => true
  | a :: r => Nat.ble (a + 1) nb && ltAll nb r
def isArr (H : IH) (o : Nat) : Bool := match getH H o with
  | some (.arr _ _) => true
  | _ => false
/-- The boxes that stay, then the arrays, then all else. -/
def outL (H : IH) (bs l : List Nat) : List Nat := bs ++ ((l.filter (isArr H)) ++ (l.filter fun o => !isArr H o))
def outI (nb : Nat) (bs : List Nat) (s : SI) : Option SI :=
  let ids := outL s.H bs ((gather s.H 200 (bs ++ (bs.flatMap (cellIds s.H) ++ idsT s.T)) []).drop bs.length)
  let rest := ids.drop bs.length
  match nodupB ids && (isPre bs ids && ltAll nb bs) with
  | true => some ⟨chT (renFm (outM nb bs rest)) s.T, outH (renFm (outM nb bs rest)) s.H bs nb ++ cmpH (renFm (outM nb bs rest)) s.H rest⟩
  | false => none
theorem ltAll_mem {nb o : Nat} : ∀ {l : List Nat}, ltAll nb l = true → o ∈ l → o < nb
  | a :: r, h, hm => by
    simp only [ltAll, Bool.and_eq_true] at h
    rcases List.mem_cons.1 hm with rfl | hm
    · exact Nat.le_of_ble_eq_true h.1
    · exact ltAll_mem h.2 hm
theorem getH_append : ∀ (A B : IH) (o : Nat), getH (A ++ B) o = if o < A.length then getH A o else getH B (o - A.length)
  | [], B, o => by simp
  | c :: r, B, 0 => by simp [getH]
  | c :: r, B, o + 1 => by simp [getH, getH_append r B o]
theorem outH_len (f : IV → IV) (H : IH) (bs : List Nat) : ∀ n, (outH f H bs n).length = n
  | 0 => rfl
  | n + 1 => by simp [outH, outH_len f H bs n]
theorem outH_get (f : IV → IV) (H : IH) (bs : List Nat) : ∀ (n j : Nat), j < n → getH (outH f H bs n) j = match hasN j bs with | true => chK f (getH H j) | false => none
  | n + 1, j, h => by
    simp only [outH]
    rw [getH_append, outH_len]
    by_cases e : j < n
    · rw [if_pos e]; exact outH_get f H bs n j e
    · have : j = n := by omega
      subst this
      rw [if_neg e, Nat.sub_self]; rfl
theorem outI_sound {cx : Cx} {bs : List Nat} {si si' : SI} {s : St} (hs : SR si s) (h : outI cx.nb bs si = some si') : ∃ s', Wk cx s s' ∧ SR si' s' ∧ cx.nb ≤ s'.nx := by
  unfold outI at h
  simp only at h
  generalize outL si.H bs ((gather si.H 200 (bs ++ (bs.flatMap (cellIds si.H) ++ idsT si.T)) []).drop bs.length) = ids at h
  split at h
  · rename_i hb
    rw [Bool.and_eq_true, Bool.and_eq_true] at hb
    obtain ⟨h1, h2, h3⟩ := hb
    injection h with h; subst h
    generalize hrest : ids.drop bs.length = rest
    have rget : ∀ j o, rest[j]? = some o → ids[bs.length + j]? = some o := fun j o hj => by rw [← hrest, List.getElem?_drop] at hj; exact hj
    let π : Nat → Nat := fun j => if j < cx.nb then j else (rest[j - cx.nb]?).getD j
    let on : Nat → Bool := fun j => hasN j bs || Nat.ble cx.nb j
    have πlt : ∀ j, j < cx.nb → π j = j := fun j hj => by simp only [π, if_pos hj]
    have πge : ∀ j o, cx.nb ≤ j → rest[j - cx.nb]? = some o → π j = o := fun j o hj ho => by simp only [π, if_neg (Nat.not_lt.2 hj), ho, Option.getD_some]
    have hπ : ∀ o j, outM cx.nb bs rest o = some j → π j = o ∧ j < cx.nb + rest.length := fun o j hj => by
      unfold outM at hj
      split at hj
      · rename_i hm
        injection hj with hj; subst hj
        have := ltAll_mem h3 (mem_hasN hm)
        exact ⟨πlt _ this, by omega⟩
      · split at hj
        · rename_i k hk
          injection hj with hj; subst hj
          have hr := idx_some hk
          refine ⟨πge _ _ (by omega) (by rw [Nat.add_sub_cancel_left]; exact hr), ?_⟩
          have := (List.getElem?_eq_some_iff.1 hr).1; omega
        · cases hj
    suffices hh : ∃ s', Wk cx s s' ∧ SR ⟨chT (renFm (outM cx.nb bs rest)) si.T, outH (renFm (outM cx.nb bs rest)) si.H bs cx.nb ++ cmpH (renFm (outM cx.nb bs rest)) si.H rest⟩ s' by
      obtain ⟨s', w, q⟩ := hh
      exact ⟨s', w, q, by have := q.n; simp only [List.length_append, outH_len, cmpH_len] at this; omega⟩
    refine Ch.done (φ := renm (outM cx.nb bs rest)) (π := π) (nx' := cx.nb + rest.length) (on := on) hs (renm_ok Ch.hp_shape hπ) ?_ ⟨by omega, fun o ho => πlt o ho⟩ (by rw [List.length_append, outH_len, cmpH_len]) ?_
    · intro j j' o1 o2 hj hj' e
      have bsat : ∀ j, hasN j bs = true → ∃ i, i < bs.length ∧ ids[i]? = some j := fun j hm => by
        obtain ⟨i, hi, he⟩ := List.mem_iff_getElem.1 (mem_hasN hm)
        exact ⟨i, hi, isPre_get h2 i j (by rw [List.getElem?_eq_getElem hi, he])⟩
      have reat : ∀ j, cx.nb ≤ j → j < cx.nb + rest.length → ∃ o, rest[j - cx.nb]? = some o ∧ π j = o := fun j h1 h2 => ⟨_, List.getElem?_eq_getElem (by omega), πge j _ h1 (List.getElem?_eq_getElem (by omega))⟩
      have ol : ∀ j, on j = true → j < cx.nb → hasN j bs = true := fun j h1 h2 => by
        simp only [on, Bool.or_eq_true] at h1
        rcases h1 with h1 | h1
        · exact h1
        · have := Nat.le_of_ble_eq_true h1; omega
      rcases Nat.lt_or_ge j cx.nb with a | a <;> rcases Nat.lt_or_ge j' cx.nb with b | b
      · rw [πlt j a, πlt j' b] at e; exact e
      · obtain ⟨i, hi, he⟩ := bsat j (ol j o1 a)
        obtain ⟨o, k1, k2⟩ := reat j' b hj'
        rw [πlt j a, k2] at e
        subst e
        have := nodupB_inj h1 _ _ _ he (rget _ _ k1); omega
      · obtain ⟨i, hi, he⟩ := bsat j' (ol j' o2 b)
        obtain ⟨o, k1, k2⟩ := reat j a hj
        rw [πlt j' b, k2] at e
        subst e
        have := nodupB_inj h1 _ _ _ he (rget _ _ k1); omega
      · obtain ⟨o, k1, k2⟩ := reat j a hj
        obtain ⟨o', k3, k4⟩ := reat j' b hj'
        rw [k2, k4] at e
        subst e
        have := nodupB_inj h1 _ _ _ (rget _ _ k1) (rget _ _ k3); omega
    · intro j c' hj
      rw [getH_append, outH_len] at hj
      split at hj
      · rename_i hlt
        rw [outH_get _ _ _ _ _ hlt] at hj
        split at hj
        · rename_i hm
          rw [πlt j hlt]
          cases hg : getH si.H j with
          | none => rw [hg] at hj; cases hj
          | some c => rw [hg] at hj; exact ⟨by simp only [on, hm, Bool.true_or], c, rfl, hj⟩
        · cases hj
      · rename_i hge
        rw [cmpH_get] at hj
        split at hj
        · rename_i o ho
          have hp : π j = o := πge j o (by omega) ho
          cases hg : getH si.H o with
          | none => rw [hg] at hj; cases hj
          | some c => rw [hg] at hj; exact ⟨by simp only [on, Bool.or_eq_true]; exact .inr (Nat.ble_eq_true_of_le (by omega)), c, by rw [hp]; exact hg, hj⟩
        · cases hj
  · cases h
end Go.Pv
