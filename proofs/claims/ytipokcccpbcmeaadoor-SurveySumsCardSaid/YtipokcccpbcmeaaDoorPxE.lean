/- Calls on typed data, regions and code of the walk (run), and its soundness. No condition of its own: over any program. -/
import Derived.Test.YtipokcccpbcmeaaDoorPxD
set_option linter.all false
namespace Go.Pv
open Go.RowKit

/-- A datum told with the chunk n at the number o, one turn older. -/
inductive Gh (o n : Nat) : DV → DV → Prop
  | v (x : Value) : Gh o n (.v x) (.v x)
  | any : Gh o n .any .any
  | nn : Gh o n .nn .nn
  | gd (p : Bool) (d d' : DV) (h : Gh o n d d') : Gh o n (.gd p d) (.gd p d')
  | ptr (j g i f : Nat) (h : j ≠ o) (h' : j ≠ n) : Gh o n (.ptr j g i f) (.ptr j g i f)
  | ptrn (g i f : Nat) : Gh o n (.ptr n g i f) (.ptr o (g + 1) i f)
  | own (j g lo m : Nat) (h : j ≠ o) (h' : j ≠ n) : Gh o n (.own j g lo m) (.own j g lo m)
  | ownn (g lo m : Nat) : Gh o n (.own n g lo m) (.own o (g + 1) lo m)
  | lst (f : Bool) (xs ys : List (List DV)) (hl : xs.length = ys.length) (hz : ∀ i (h1 : i < xs.length) (h2 : i < ys.length), xs[i].length = ys[i].length)
      (h : ∀ i (h1 : i < xs.length) (h2 : i < ys.length), ∀ j (h3 : j < xs[i].length) (h4 : j < ys[i].length), Gh o n xs[i][j] ys[i][j]) : Gh o n (.lst f xs) (.lst f ys)
  | rp (cs ds : List DV) (hl : cs.length = ds.length) (h : ∀ j (h1 : j < cs.length) (h2 : j < ds.length), Gh o n cs[j] ds[j]) : Gh o n (.rp cs) (.rp ds)
  | agg (cs ds : List DV) (hl : cs.length = ds.length) (h : ∀ j (h1 : j < cs.length) (h2 : j < ds.length), Gh o n cs[j] ds[j]) : Gh o n (.agg cs) (.agg ds)
  | tup (cs ds : List DV) (hl : cs.length = ds.length) (h : ∀ j (h1 : j < cs.length) (h2 : j < ds.length), Gh o n cs[j] ds[j]) : Gh o n (.tup cs) (.tup ds)
  | fn (f : FuncId) (cs ds : List DV) (hl : cs.length = ds.length) (h : ∀ j (h1 : j < cs.length) (h2 : j < ds.length), Gh o n cs[j] ds[j]) : Gh o n (.fn f cs) (.fn f ds)

theorem both_exists {α β : Type} {R : α → β → Prop} : ∀ (l : List α), (∀ x, x ∈ l → ∃ y, R x y) → ∃ r, Both R l r
  | [], _ => ⟨[], .nil⟩
  | a :: l, h => by
    obtain ⟨b, hb⟩ := h a (List.mem_cons_self ..)
    obtain ⟨r, hr⟩ := both_exists l fun x hx => h x (List.mem_cons_of_mem _ hx)
    exact ⟨b :: r, .cons hb hr⟩

theorem Gh.of {o n : Nat} {d : DV} (h : Ids (fun j => j ≠ o) d) : ∃ d', Gh o n d d' := by
  induction h with
  | v x => exact ⟨_, .v x⟩
  | any => exact ⟨_, .any⟩
  | nn => exact ⟨_, .nn⟩
  | gd p d h ih => obtain ⟨d', hd⟩ := ih; exact ⟨_, .gd p d d' hd⟩
  | ptr j g i f h =>
    by_cases e : j = n
    · subst e; exact ⟨_, .ptrn g i f⟩
    · exact ⟨_, .ptr j g i f h e⟩
  | own j g lo m h =>
    by_cases e : j = n
    · subst e; exact ⟨_, .ownn g lo m⟩
    · exact ⟨_, .own j g lo m h e⟩
  | lst f xs h ih =>
    have h1 : ∀ x, x ∈ xs → ∃ y, Both (Gh o n) x y := fun x hx => both_exists x fun c hc => ih x hx c hc
    obtain ⟨ys, hy⟩ := both_exists xs h1
    exact ⟨_, .lst f xs ys hy.1 (fun i a b => (hy.2 i a b).1) fun i a b j c d => (hy.2 i a b).2 j c d⟩
  | rp cs h ih => obtain ⟨ds, hd⟩ := both_exists cs ih; exact ⟨_, .rp cs ds hd.1 hd.2⟩
  | agg cs h ih => obtain ⟨ds, hd⟩ := both_exists cs ih; exact ⟨_, .agg cs ds hd.1 hd.2⟩
  | tup cs h ih => obtain ⟨ds, hd⟩ := both_exists cs ih; exact ⟨_, .tup cs ds hd.1 hd.2⟩
  | fn f cs h ih => obtain ⟨ds, hd⟩ := both_exists cs ih; exact ⟨_, .fn f cs ds hd.1 hd.2⟩

/-- A datum without chunks stays. -/
theorem Gh.flat {o n : Nat} {d d' : DV} (g : Gh o n d d') (h : Ids (fun _ => False) d) : d' = d := by
  have lists : ∀ (cs ds : List DV), cs.length = ds.length → (∀ j (h1 : j < cs.length) (h2 : j < ds.length), ds[j] = cs[j]) → ds = cs := fun cs ds hl h => List.ext_getElem hl.symm fun j a b => h j b a
  induction g with
  | v x => rfl
  | any => rfl
  | nn => rfl
  | gd p d d' _ ih => cases h with | gd _ _ h => rw [ih h]
  | ptr j g i f => rfl
  | ptrn g i f => cases h with | ptr _ _ _ _ h => exact h.elim
  | own j g lo m => rfl
  | ownn g lo m => cases h with | own _ _ _ _ h => exact h.elim
  | lst f xs ys hl hz _ ih =>
    cases h with
    | lst _ _ h =>
      have : ys = xs := List.ext_getElem hl.symm fun i a b => lists _ _ (hz i b a) fun j c d => ih i b a j c d (h _ (List.getElem_mem _) _ (List.getElem_mem _))
      rw [this]
  | rp cs ds hl _ ih => cases h with | rp _ h => rw [lists cs ds hl fun j a b => ih j a b (h _ (List.getElem_mem _))]
  | agg cs ds hl _ ih => cases h with | agg _ h => rw [lists cs ds hl fun j a b => ih j a b (h _ (List.getElem_mem _))]
  | tup cs ds hl _ ih => cases h with | tup _ h => rw [lists cs ds hl fun j a b => ih j a b (h _ (List.getElem_mem _))]
  | fn f cs ds hl _ ih => cases h with | fn _ _ h => rw [lists cs ds hl fun j a b => ih j a b (h _ (List.getElem_mem _))]

theorem Gh.ids {S S' : Nat → Prop} {o n : Nat} {d d' : DV} (g : Gh o n d d') (h : Ids S d) (hS : ∀ j, S j → j ≠ n → S' j) (ho : S' o) : Ids S' d' := by
  induction g with
  | v x => exact .v x
  | any => exact .any
  | nn => exact .nn
  | gd p d d' _ ih => cases h with | gd _ _ h => exact .gd _ _ (ih h)
  | ptr j g i f _ h' => cases h with | ptr _ _ _ _ h => exact .ptr _ _ _ _ (hS j h h')
  | ptrn g i f => exact .ptr _ _ _ _ ho
  | own j g lo m _ h' => cases h with | own _ _ _ _ h => exact .own _ _ _ _ (hS j h h')
  | ownn g lo m => exact .own _ _ _ _ ho
  | lst f xs ys hl hz _ ih =>
    cases h with
    | lst _ _ h =>
      refine .lst _ _ fun x hx c hc => ?_
      obtain ⟨i, hi, rfl⟩ := List.mem_iff_getElem.1 hx
      obtain ⟨j, hj, rfl⟩ := List.mem_iff_getElem.1 hc
      have hi' : i < xs.length := by omega
      have hj' : j < xs[i].length := by rw [hz i hi' hi]; exact hj
      exact ih i hi' hi j hj' hj (h _ (List.getElem_mem hi') _ (List.getElem_mem hj'))
  | rp cs ds hl _ ih =>
    cases h with
    | rp _ h =>
      refine .rp _ fun c hc => ?_
      obtain ⟨j, hj, rfl⟩ := List.mem_iff_getElem.1 hc
      exact ih j (by omega) hj (h _ (List.getElem_mem _))
  | agg cs ds hl _ ih =>
    cases h with
    | agg _ h =>
      refine .agg _ fun c hc => ?_
      obtain ⟨j, hj, rfl⟩ := List.mem_iff_getElem.1 hc
      exact ih j (by omega) hj (h _ (List.getElem_mem _))
  | tup cs ds hl _ ih =>
    cases h with
    | tup _ h =>
      refine .tup _ fun c hc => ?_
      obtain ⟨j, hj, rfl⟩ := List.mem_iff_getElem.1 hc
      exact ih j (by omega) hj (h _ (List.getElem_mem _))
  | fn f cs ds hl _ ih =>
    cases h with
    | fn _ _ h =>
      refine .fn _ _ fun c hc => ?_
      obtain ⟨j, hj, rfl⟩ := List.mem_iff_getElem.1 hc
      exact ih j (by omega) hj (h _ (List.getElem_mem _))

/-- The heap H2 is H1 with the chunk n at the number o. -/
structure GhH (o n : Nat) (H1 : Hp) (ps1 : Ps) (M : Nat → Prop) (n1 : Nat) (H2 : Hp) (ps2 : Ps) (n2 : Nat) : Prop where
  mu : ∀ b, Mu H2 ps2 M b → Mu H1 ps1 M b
  same : ∀ j, j ≠ o → j ≠ n → ∀ c2, H2 j = some c2 → ∃ c1, H1 j = some c1 ∧ c2.gen = c1.gen ∧ c2.sz = c1.sz ∧ c2.xs.length = c1.xs.length ∧ ps2 j = ps1 j
  new : ∀ c2, H2 o = some c2 → ∃ c1, H1 n = some c1 ∧ c2.gen = c1.gen + 1 ∧ c2.sz = c1.sz ∧ c2.xs.length = c1.xs.length ∧ ps2 o = ps1 n
  lt : ∀ j, j ≠ n → j < n1 → j < n2
  lo : o < n2

theorem Gh.up {o n : Nat} {H1 : Hp} {ps1 : Ps} {M : Nat → Prop} {n1 : Nat} {H2 : Hp} {ps2 : Ps} {n2 : Nat} {w : World} {d d' : DV} (hh : GhH o n H1 ps1 M n1 H2 ps2 n2) (g : Gh o n d d') {x : Value} (hv : VR H1 ps1 M n1 w d x) : VR H2 ps2 M n2 w d' x := by
  induction g generalizing x with
  | v y => cases hv; exact .v _
  | any => exact .any _
  | nn => cases hv; exact .nn _ _
  | gd p d d' _ ih => cases hv with | gd _ _ _ h h2 => exact .gd p d' _ (fun e => ih (h e)) h2
  | ptr j g i f h h' =>
    cases hv with
    | ptr _ _ _ _ _ h0 h1 hk =>
      refine .ptr _ _ _ _ _ (hh.lt j h' h0) h1 fun ck hc => ?_
      obtain ⟨c1, k1, k2, k3, k4, k5⟩ := hh.same j h h' ck hc
      obtain ⟨a1, a2⟩ := hk c1 k1
      refine ⟨by omega, fun e => ?_⟩
      obtain ⟨b1, p, b2, b3⟩ := a2 (by omega)
      exact ⟨by omega, p, by rw [k5]; exact b2, by rw [k3]; exact b3⟩
  | ptrn g i f =>
    cases hv with
    | ptr _ _ _ _ _ h0 h1 hk =>
      refine .ptr _ _ _ _ _ hh.lo h1 fun ck hc => ?_
      obtain ⟨c1, k1, k2, k3, k4, k5⟩ := hh.new ck hc
      obtain ⟨a1, a2⟩ := hk c1 k1
      refine ⟨by omega, fun e => ?_⟩
      obtain ⟨b1, p, b2, b3⟩ := a2 (by omega)
      exact ⟨by omega, p, by rw [k5]; exact b2, by rw [k3]; exact b3⟩
  | own j g lo m h h' =>
    cases hv with
    | own _ _ _ _ _ h0 h1 hk =>
      refine .own _ _ _ _ _ (hh.lt j h' h0) h1 fun ck hc => ?_
      obtain ⟨c1, k1, k2, k3, k4, k5⟩ := hh.same j h h' ck hc
      obtain ⟨a1, a2⟩ := hk c1 k1
      refine ⟨by omega, fun e => ?_⟩
      obtain ⟨b1, a, cap, b2, b3, b4⟩ := a2 (by omega)
      refine ⟨by omega, a, cap, b2, b3, ?_⟩
      rcases b4 with b4 | ⟨p, p1, p2, p3⟩
      · exact .inl b4
      · exact .inr ⟨p, by rw [k5]; exact p1, by rw [k3]; exact p2, by rw [k3]; exact p3⟩
  | ownn g lo m =>
    cases hv with
    | own _ _ _ _ _ h0 h1 hk =>
      refine .own _ _ _ _ _ hh.lo h1 fun ck hc => ?_
      obtain ⟨c1, k1, k2, k3, k4, k5⟩ := hh.new ck hc
      obtain ⟨a1, a2⟩ := hk c1 k1
      refine ⟨by omega, fun e => ?_⟩
      obtain ⟨b1, a, cap, b2, b3, b4⟩ := a2 (by omega)
      refine ⟨by omega, a, cap, b2, b3, ?_⟩
      rcases b4 with b4 | ⟨p, p1, p2, p3⟩
      · exact .inl b4
      · exact .inr ⟨p, by rw [k5]; exact p1, by rw [k3]; exact p2, by rw [k3]; exact p3⟩
  | lst f xs ys hl hz _ ih =>
    cases hv with
    | lnil _ a cap hf =>
      have : ys = [] := List.eq_nil_of_length_eq_zero (by rw [← hl]; rfl)
      subst this; exact .lnil f a cap hf
    | lst _ _ b off cap sz vs hne hs hcap hf hM hz' h1 hc hv =>
      rw [hl]
      refine .lst f ys b off cap sz vs (fun e => hne (List.eq_nil_of_length_eq_zero (by rw [hl, e]; rfl))) hs (by omega) (fun e => by rw [← hl]; exact hf e) (fun hm => hM (hh.mu b hm)) (fun i hi => ?_) (fun i j hi hj => h1 i j (by omega) hj) (fun i j hi hj => hc i j (by omega) hj) fun i j hi hj => ?_
      · rw [← hz i (by omega) hi]; exact hz' i (by omega)
      · have hi' : i < xs.length := by omega
        have hj' : j < xs[i].length := by rw [hz i hi' hi]; exact hj
        exact ih i hi' hi j hj' hj (hv i j hi' hj')
  | rp cs ds hl _ ih =>
    cases hv with
    | rp _ b off vs hM h1 hc hv =>
      exact .rp ds b off vs (fun hne hm => hM (fun e => hne (List.eq_nil_of_length_eq_zero (by rw [← hl, e]; rfl))) (hh.mu b hm)) (fun j hj => h1 j (by omega)) (fun j hj => hc j (by omega)) fun j hj => ih j (by omega) hj (hv j (by omega))
  | agg cs ds hl _ ih =>
    obtain ⟨vs, rfl, h1, h2, h3⟩ := hv.agg_inv
    exact .agg _ vs (by omega) (fun j hj => h2 j (by omega)) fun j hj => ih j (by omega) hj (h3 j (by omega))
  | tup cs ds hl _ ih =>
    obtain ⟨vs, rfl, h1, h2⟩ := hv.tup_inv
    exact .tup _ vs (by omega) fun j hj => ih j (by omega) hj (h2 j (by omega))
  | fn f cs ds hl _ ih =>
    obtain ⟨vs, rfl, h1, h2⟩ := hv.fn_inv
    exact .fn _ _ vs (by omega) fun j hj => ih j (by omega) hj (h2 j (by omega))

/-- A chunk told so. -/
structure GhC (o n g : Nat) (c c' : Ck) : Prop where
  g : c'.gen = c.gen + g
  s : c'.sz = c.sz
  r : Both (Both (Gh o n)) c.xs c'.xs
/-- An entry of a list of chunks. -/
def GhE (o n : Nat) (e e' : Nat × Ck) : Prop := (e.1 = n → e'.1 = o ∧ GhC o n 1 e.2 e'.2) ∧ (e.1 ≠ n → e'.1 = e.1 ∧ GhC o n 0 e.2 e'.2)

theorem ghL_one {o n : Nat} : ∀ (l l' : Cks), Both (GhE o n) l l' → (∀ e, e ∈ l → e.1 ≠ o) →
    (∀ j, j ≠ o → j ≠ n → (∃ c c', GhC o n 0 c c' ∧ (∀ H, puts H l j = some c) ∧ ∀ H, puts H l' j = some c') ∨ ((∀ H, puts H l j = H j) ∧ ∀ H, puts H l' j = H j)) ∧
    ((∃ c c', GhC o n 1 c c' ∧ (∀ H, puts H l n = some c) ∧ ∀ H, puts H l' o = some c') ∨ ((∀ H, puts H l n = H n) ∧ ∀ H, puts H l' o = H o)) ∧ (n ≠ o → ∀ H, puts H l' n = H n)
  | [], l', h, ho => by rw [h.nil_l]; exact ⟨fun j _ _ => .inr ⟨fun _ => rfl, fun _ => rfl⟩, .inr ⟨fun _ => rfl, fun _ => rfl⟩, fun _ _ => rfl⟩
  | e :: l, l', h, ho => by
    obtain ⟨e', l', rfl, h1, h2⟩ := h.cons_l
    obtain ⟨a1, a2, a3⟩ := ghL_one l l' h2 fun e he => ho e (List.mem_cons_of_mem _ he)
    have heo := ho e (List.mem_cons_self ..)
    refine ⟨fun j hj hn => ?_, ?_, fun hno H => ?_⟩
    · rcases a1 j hj hn with ⟨c, c', b1, b2, b3⟩ | ⟨b2, b3⟩
      · exact .inl ⟨c, c', b1, fun H => b2 _, fun H => b3 _⟩
      · by_cases e1 : e.1 = n
        · obtain ⟨k1, k2⟩ := h1.1 e1
          refine .inr ⟨fun H => ?_, fun H => ?_⟩
          · rw [puts_cons, b2, Hp.put_ne _ _ _ (by rw [e1]; exact hn)]
          · rw [puts_cons, b3, Hp.put_ne _ _ _ (by rw [k1]; exact hj)]
        · obtain ⟨k1, k2⟩ := h1.2 e1
          by_cases e2 : j = e.1
          · subst e2
            refine .inl ⟨_, _, k2, fun H => ?_, fun H => ?_⟩
            · rw [puts_cons, b2, Hp.put_same]
            · rw [puts_cons, b3, ← k1, Hp.put_same]
          · refine .inr ⟨fun H => ?_, fun H => ?_⟩
            · rw [puts_cons, b2, Hp.put_ne _ _ _ e2]
            · rw [puts_cons, b3, Hp.put_ne _ _ _ (by rw [k1]; exact e2)]
    · rcases a2 with ⟨c, c', b1, b2, b3⟩ | ⟨b2, b3⟩
      · exact .inl ⟨c, c', b1, fun H => b2 _, fun H => b3 _⟩
      · by_cases e1 : e.1 = n
        · obtain ⟨k1, k2⟩ := h1.1 e1
          refine .inl ⟨_, _, k2, fun H => ?_, fun H => ?_⟩
          · rw [puts_cons, b2, ← e1, Hp.put_same]
          · rw [puts_cons, b3, ← k1, Hp.put_same]
        · obtain ⟨k1, k2⟩ := h1.2 e1
          refine .inr ⟨fun H => ?_, fun H => ?_⟩
          · rw [puts_cons, b2, Hp.put_ne _ _ _ (Ne.symm e1)]
          · rw [puts_cons, b3, Hp.put_ne _ _ _ (by rw [k1]; exact Ne.symm heo)]
    · rw [puts_cons, a3 hno]
      by_cases e1 : e.1 = n
      · rw [Hp.put_ne _ _ _ (by rw [(h1.1 e1).1]; exact hno)]
      · rw [Hp.put_ne _ _ _ (by rw [(h1.2 e1).1]; exact Ne.symm e1)]

theorem puts_mem : ∀ (l : Cks), (l.map (·.1)).Nodup → ∀ e, e ∈ l → ∀ H, puts H l e.1 = some e.2
  | [], _, e, he, _ => by cases he
  | x :: l, hn, e, he, H => by
    simp only [List.map_cons, List.nodup_cons] at hn
    rw [puts_cons]
    rcases List.mem_cons.1 he with rfl | he
    · rw [puts_out hn.1, Hp.put_same]
    · exact puts_mem l hn.2 e he _

theorem ghL_of {o n : Nat} (l : Cks) (h : ∀ e, e ∈ l → ∀ x, x ∈ e.2.xs → ∀ c, c ∈ x → Ids (fun j => j ≠ o) c) : ∃ l', Both (GhE o n) l l' := by
  refine both_exists l fun e he => ?_
  have h1 : ∀ x, x ∈ e.2.xs → ∃ y, Both (Gh o n) x y := fun x hx => both_exists x fun c hc => Gh.of (h e he x hx c hc)
  obtain ⟨ys, hy⟩ := both_exists e.2.xs h1
  by_cases e1 : e.1 = n
  · exact ⟨(o, ⟨e.2.gen + 1, e.2.sz, ys⟩), fun _ => ⟨rfl, rfl, rfl, hy⟩, fun h => absurd e1 h⟩
  · exact ⟨(e.1, ⟨e.2.gen, e.2.sz, ys⟩), fun h => absurd h e1, fun _ => ⟨rfl, rfl, rfl, hy⟩⟩
theorem ofL_cons_ne {o j : Nat} {c : Ck} {l : Cks} (h : j ≠ o) : ofL ((o, c) :: l) j = ofL l j := by
  unfold ofL
  rw [puts_cons]
  rcases puts_one l j with ⟨ck, _, h1⟩ | h1
  · rw [h1, h1]
  · rw [h1, h1, Hp.put_ne _ _ _ h]
theorem ofL_cons_same {o : Nat} {c : Ck} {l : Cks} (h : ∀ e, e ∈ l → e.1 ≠ o) : ofL ((o, c) :: l) o = some c := by
  unfold ofL
  rw [puts_cons, puts_out fun hm => by obtain ⟨e, he, e1⟩ := List.mem_map.1 hm; exact h e he e1, Hp.put_same]

theorem GhC.ids {S S' : Nat → Prop} {o n g : Nat} {c c' : Ck} (h : GhC o n g c c') (hi : ∀ x, x ∈ c.xs → ∀ d, d ∈ x → Ids S d) (hS : ∀ j, S j → j ≠ n → S' j) (ho : S' o) : ∀ x, x ∈ c'.xs → ∀ d, d ∈ x → Ids S' d := by
  intro x hx d hd
  obtain ⟨i, hi', rfl⟩ := List.mem_iff_getElem.1 hx
  obtain ⟨j, hj, rfl⟩ := List.mem_iff_getElem.1 hd
  have h1 : i < c.xs.length := by rw [h.r.1]; exact hi'
  have h2 := h.r.2 i h1 hi'
  have h3 : j < c.xs[i].length := by rw [h2.1]; exact hj
  exact (h2.2 j h3 hj).ids (hi _ (List.getElem_mem h1) _ (List.getElem_mem h3)) hS ho

theorem CR.gh {o n : Nat} {H1 : Hp} {ps1 : Ps} {M : Nat → Prop} {n1 : Nat} {H2 : Hp} {ps2 : Ps} {n2 : Nat} {w : World} (gh : GhH o n H1 ps1 M n1 H2 ps2 n2) {j j' g : Nat} {c c' : Ck} (hC : GhC o n g c c') (hp : ps2 j' = ps1 j) (h : CR H1 ps1 M n1 w j c) : CR H2 ps2 M n2 w j' c' := by
  rcases h with ⟨g1, g2⟩ | ⟨p, cs, E, vs, g1, g2, g3, g4, g5, g6, g7⟩
  · exact .inl ⟨by rw [hp]; exact g1, List.eq_nil_of_length_eq_zero (by rw [← hC.r.1, g2]; rfl)⟩
  · refine .inr ⟨p, cs, E, vs, by rw [hp]; exact g1, g2, g3, fun i hi => ?_, by rw [← hC.r.1, hC.s]; exact g5, fun i k hi hk => by rw [hC.s] at hk ⊢; exact g6 i k (by rw [hC.r.1]; exact hi) hk, fun i k hi hk => ?_⟩
    · rw [← (hC.r.2 i (by rw [hC.r.1]; exact hi) hi).1, hC.s]; exact g4 i _
    · have q := hC.r.2 i (by rw [hC.r.1]; exact hi) hi
      exact (q.2 k (by rw [q.1]; exact hk) hk).up gh (g7 i k _ _)

theorem CallOK.ghost {P : Program} {f : FuncId} {args : List DV} {pre : Cks} {nb : Nat} {res : DV} {post : Cks} {m : Nat} (h : CallOK P f args pre nb res post (m + 1)) {o : Nat} (sz : Nat) (hnb : nb ≤ m) (ho : o < nb)
    (hpre : ∀ e, e ∈ pre → e.1 ≠ o ∧ e.1 < nb) (hnd : (post.map (·.1)).Nodup) (hm : m ∈ post.map (·.1)) :
    ∃ res' post', Gh o m res res' ∧ Both (GhE o m) post post' ∧ (∀ e, e ∈ post → e.1 ≠ o) ∧ CallOK P f args ((o, ⟨0, sz, []⟩) :: pre) nb res' post' m := by
  have hpo : ∀ j ck, ofL post j = some ck → j ≠ o := by
    rintro j ck hj rfl
    obtain ⟨c0, hc0⟩ := h.old j ck hj ho
    exact (hpre _ (ofL_mem hc0)).1 rfl
  have hpo' : ∀ e, e ∈ post → e.1 ≠ o := fun e he => hpo e.1 e.2 (puts_mem post hnd e he _)
  have hS : ∀ j, ((∃ ck, ofL post j = some ck) ∨ (nb ≤ j ∧ j < m + 1)) → j ≠ o := by
    rintro j (⟨ck, hj⟩ | hj)
    · exact hpo j ck hj
    · omega
  obtain ⟨res', hres⟩ := Gh.of (n := m) (h.ids.mono' hS)
  obtain ⟨post', hpost⟩ := ghL_of (o := o) (n := m) post fun e he x hx c hc => (h.idp e.1 e.2 (puts_mem post hnd e he _) x hx c hc).mono' hS
  have hmo : m ≠ o := by omega
  obtain ⟨A1, A2, A3⟩ := ghL_one post post' hpost hpo'
  have A3 := A3 hmo
  obtain ⟨cm, cm', hcm, cm1, cm2⟩ : ∃ c c', GhC o m 1 c c' ∧ (∀ H, puts H post m = some c) ∧ ∀ H, puts H post' o = some c' := by
    rcases A2 with h | ⟨h1, _⟩
    · exact h
    · obtain ⟨e, he, e1⟩ := List.mem_map.1 hm
      have := puts_mem post hnd e he Hp.emp
      rw [e1, h1] at this; cases this
  refine ⟨res', post', hres, hpost, hpo', h.fn, fun j ck hj => ?_, fun j ck' hj hlt => ?_, hnb, ?_, fun j ck' hj x hx c hc => ?_, fun M ps w cargs hR hsz hva hgl => ?_⟩
  · by_cases e : j = o
    · subst e; exact ⟨cm', cm2 _⟩
    · rw [ofL_cons_ne e] at hj
      have hlt := (hpre _ (ofL_mem hj)).2
      simp only at hlt
      obtain ⟨ck1, h1⟩ := h.keep j ck hj
      rcases A1 j e (by omega) with ⟨c, c', _, _, b3⟩ | ⟨b2, _⟩
      · exact ⟨c', b3 _⟩
      · rw [ofL, b2] at h1; cases h1
  · by_cases e : j = o
    · subst e; exact ⟨_, ofL_cons_same fun e he => (hpre e he).1⟩
    · rw [ofL_cons_ne e]
      rcases A1 j e (by omega) with ⟨c, c', _, b2, b3⟩ | ⟨_, b3⟩
      · exact h.old j c (b2 _) hlt
      · rw [ofL, b3] at hj; cases hj
  · refine hres.ids h.ids (fun j hj hne => ?_) (.inl ⟨cm', cm2 _⟩)
    rcases hj with ⟨ck, hj⟩ | hj
    · rcases A1 j (hpo j ck hj) hne with ⟨c, c', _, _, b3⟩ | ⟨b2, _⟩
      · exact .inl ⟨c', b3 _⟩
      · rw [ofL, b2] at hj; cases hj
    · exact .inr ⟨hj.1, by omega⟩
  · have hS' : ∀ j, ((∃ ck, ofL post j = some ck) ∨ (nb ≤ j ∧ j < m + 1)) → j ≠ m → ((∃ ck, ofL post' j = some ck) ∨ (nb ≤ j ∧ j < m)) := fun j hj hne => by
      rcases hj with ⟨ck, hj⟩ | hj
      · rcases A1 j (hpo j ck hj) hne with ⟨c, c', _, _, b3⟩ | ⟨b2, _⟩
        · exact .inl ⟨c', b3 _⟩
        · rw [ofL, b2] at hj; cases hj
      · exact .inr ⟨hj.1, by omega⟩
    by_cases e : j = o
    · subst e
      rw [ofL, cm2] at hj; injection hj with hj; subst hj
      exact hcm.ids (h.idp m cm (cm1 _)) hS' (.inl ⟨cm', cm2 _⟩) x hx c hc
    · by_cases e2 : j = m
      · subst e2; rw [ofL, A3] at hj; cases hj
      · rcases A1 j e e2 with ⟨c1, c2, b1, b2, b3⟩ | ⟨_, b3⟩
        · rw [ofL, b3] at hj; injection hj with hj; subst hj
          exact b1.ids (h.idp j c1 (b2 _)) hS' (.inl ⟨cm', cm2 _⟩) x hx c hc
        · rw [ofL, b3] at hj; cases hj
  · have hpre2 : ∀ j ck, ofL pre j = some ck → ofL ((o, ⟨0, sz, []⟩) :: pre) j = some ck := fun j ck hj => by
      rw [ofL_cons_ne (hpre _ (ofL_mem hj)).1]; exact hj
    refine (h.calls (cx := ⟨0, M, Live (ofL ((o, ⟨0, sz, []⟩) :: pre)) ps, w, ofL ((o, ⟨0, sz, []⟩) :: pre), ps, nb, none, fun _ => none, []⟩) hgl hR (Fr.refl _ _) (fun j ck p h1 h2 => .inl ⟨j, ck, p, h1, h2, rfl⟩) hpre2 cargs hsz hva).mono ?_
    rintro e w' ⟨v, ps', rfl, hv, hmv⟩
    let H1 : Hp := puts (ofL ((o, ⟨0, sz, []⟩) :: pre)) post
    let ps2 : Ps := fun j => if j = o then ps' m else ps' j
    have ps2o : ps2 o = ps' m := if_pos rfl
    have ps2n : ∀ j, j ≠ o → ps2 j = ps' j := fun j hj => if_neg hj
    have at2 : ∀ j c2, ofL post' j = some c2 → (j = o ∧ c2 = cm') ∨ (j ≠ o ∧ j ≠ m ∧ ∃ c1, GhC o m 0 c1 c2 ∧ ofL post j = some c1 ∧ H1 j = some c1) := fun j c2 hj => by
      by_cases e : j = o
      · subst e; rw [ofL, cm2] at hj; injection hj with hj; exact .inl ⟨rfl, hj.symm⟩
      · by_cases e2 : j = m
        · subst e2; rw [ofL, A3] at hj; cases hj
        · rcases A1 j e e2 with ⟨c1, c3, b1, b2, b3⟩ | ⟨_, b3⟩
          · rw [ofL, b3] at hj; injection hj with hj; subst hj
            exact .inr ⟨e, e2, c1, b1, b2 _, b2 _⟩
          · rw [ofL, b3] at hj; cases hj
    have hlo : o < m := by omega
    have gh : GhH o m H1 ps' M (m + 1) (ofL post') ps2 m := by
      refine ⟨fun b hb => ?_, fun j h1 h2 c2 hj => ?_, fun c2 hj => ?_, fun j h1 h2 => by omega, hlo⟩
      · rcases hb with hb | ⟨j, c2, p, h1, h2, h3⟩
        · exact .inl hb
        · rcases at2 j c2 h1 with ⟨rfl, rfl⟩ | ⟨e1, e2, c1, b1, b2, b3⟩
          · exact .inr ⟨m, cm, p, cm1 _, by rw [← ps2o]; exact h2, h3⟩
          · exact .inr ⟨j, c1, p, b3, by rw [← ps2n j e1]; exact h2, h3⟩
      · rcases at2 j c2 hj with ⟨rfl, rfl⟩ | ⟨e1, e2, c1, b1, b2, b3⟩
        · exact absurd rfl h1
        · exact ⟨c1, b3, b1.g, b1.s, b1.r.1.symm, ps2n j e1⟩
      · rcases at2 o c2 hj with ⟨_, rfl⟩ | ⟨e1, _⟩
        · exact ⟨cm, cm1 _, hcm.g, hcm.s, hcm.r.1.symm, ps2o⟩
        · exact absurd rfl e1
    refine ⟨v, ps2, rfl, hres.up gh hv, ⟨fun j c2 hj => ?_, fun j c2 hj => ?_, fun j j' c c' p p' h1 h2 h3 h4 h5 => ?_, hmv.hr.ml, fun j c p h1 h2 => ?_⟩, hmv.fr, fun j c p h1 h2 => ?_, fun j hj c2 hk => ?_⟩
    · rcases at2 j c2 hj with ⟨rfl, rfl⟩ | ⟨e1, e2, c1, b1, b2, b3⟩
      · exact hlo
      · have := hmv.hr.lt j c1 b3; omega
    · rcases at2 j c2 hj with ⟨rfl, rfl⟩ | ⟨e1, e2, c1, b1, b2, b3⟩
      · exact (hmv.hr.cr m cm (cm1 _)).gh gh hcm ps2o
      · exact (hmv.hr.cr j c1 b3).gh gh b1 (ps2n j e1)
    · rcases at2 j c h1 with ⟨rfl, rfl⟩ | ⟨e1, e2, c1, b1, b2, b3⟩ <;> rcases at2 j' c' h2 with ⟨rfl, rfl⟩ | ⟨k1, k2, c3, d1, d2, d3⟩
      · rfl
      · rw [ps2o] at h3; rw [ps2n j' k1] at h4
        exact absurd (hmv.hr.inj m j' cm c3 p p' (cm1 _) d3 h3 h4 h5) (Ne.symm k2)
      · rw [ps2o] at h4; rw [ps2n j e1] at h3
        exact absurd (hmv.hr.inj j m c1 cm p p' b3 (cm1 _) h3 h4 h5) e2
      · rw [ps2n j e1] at h3; rw [ps2n j' k1] at h4
        exact hmv.hr.inj j j' c1 c3 p p' b3 d3 h3 h4 h5
    · rcases at2 j c h1 with ⟨rfl, rfl⟩ | ⟨e1, e2, c1, b1, b2, b3⟩
      · rw [ps2o] at h2; exact hmv.hr.dj m cm p (cm1 _) h2
      · rw [ps2n j e1] at h2; exact hmv.hr.dj j c1 p b3 h2
    · rcases at2 j c h1 with ⟨rfl, rfl⟩ | ⟨e1, e2, c1, b1, b2, b3⟩
      · rw [ps2o] at h2; exact hmv.lb m cm p (cm1 _) h2
      · rw [ps2n j e1] at h2; exact hmv.lb j c1 p b3 h2
    · rcases at2 j c2 hk with ⟨rfl, rfl⟩ | ⟨e1, e2, c1, b1, b2, b3⟩
      · exact ⟨_, ofL_cons_same fun e he => (hpre e he).1, .inl (by rw [hcm.g]; exact Nat.succ_pos _)⟩
      · obtain ⟨ck, g1, g2⟩ := hmv.kp.hp j hj c1 b3
        refine ⟨ck, g1, ?_⟩
        rcases g2 with g2 | ⟨g2, g3, g4, g5⟩
        · exact .inl (by rw [b1.g]; omega)
        · exact .inr ⟨by rw [b1.g, g2]; rfl, by rw [b1.s, g3], by rw [← b1.r.1]; exact g4, by rw [ps2n j e1]; exact g5⟩

/-- Two heaps that agree but for some chunks. -/
structure SameK (kl : List Nat) (H : Hp) (nx : Nat) (H' : Hp) (nx' : Nat) : Prop where
  n : nx ≤ nx'
  h : ∀ o ck', o < nx → o ∉ kl → H' o = some ck' → ∃ ck, H o = some ck ∧ ck.gen = ck'.gen ∧ ck.xs.length = ck'.xs.length
theorem SameK.same {H H' : Hp} {nx nx' : Nat} (s : Same H nx H' nx') : SameK [] H nx H' nx' := ⟨s.n, fun o ck ho _ h => s.h o ck ho h⟩
def killVs : List Nat → IV → IV
  | [], v => v
  | o :: r, v => killVs r (killV o v)
def killTs : List Nat → List (Nat × IV) → List (Nat × IV)
  | [], T => T
  | o :: r, T => killTs r (killT o T)
theorem SameK.mid {o : Nat} {r : List Nat} {H H' : Hp} {nx nx' : Nat} (s : SameK (o :: r) H nx H' nx') : Away o H nx (fun j => if j = o then H' o else H j) nx ∧ SameK r (fun j => if j = o then H' o else H j) nx H' nx' := by
  refine ⟨⟨Nat.le_refl _, fun o' ck' hlt hne hk => ?_⟩, ⟨s.n, fun o' ck' hlt hr hk => ?_⟩⟩
  · simp only [if_neg hne] at hk; exact ⟨ck', hk, rfl, rfl⟩
  · by_cases e : o' = o
    · subst e; exact ⟨ck', by simp [hk], rfl, rfl⟩
    · obtain ⟨ck, h1, h2⟩ := s.h o' ck' hlt (by simp [e, hr]) hk
      exact ⟨ck, by simp [e, h1], h2⟩
theorem SameK.toSame {H H' : Hp} {nx nx' : Nat} (s : SameK [] H nx H' nx') : Same H nx H' nx' := ⟨s.n, fun o ck ho h => s.h o ck ho (by simp) h⟩
theorem killVs_rel {H' : Hp} {nx nx' : Nat} : ∀ {kl : List Nat} {H : Hp} {v : IV} {d : DV}, SameK kl H nx H' nx' → Rel H nx v d → Rel H' nx' (killVs kl v) d
  | [], H, v, d, s, h => h.same s.toSame
  | o :: r, H, v, d, s, h => killVs_rel (kl := r) (v := killV o v) s.mid.2 (killV_rel s.mid.1 h)
theorem killTs_get : ∀ (kl : List Nat) (T : List (Nat × IV)) (t : Nat), getT (killTs kl T) t = killVs kl (getT T t)
  | [], T, t => rfl
  | o :: r, T, t => by
    show getT (killTs r (killT o T)) t = killVs r (killV o (getT T t))
    rw [killTs_get r, killT_get]
/-- What is known of a function that is called, in continuation style. -/
abbrev Ent : Type 1 := {R : Type} → List IV → IH → (IV → IH → List Nat → List Nat → List Nat → Option R) → Option R

def EntOK (P : Program) (f : FuncId) (E : Ent) : Prop := ∀ (R : Type) (args : List IV) (HI : IH) (k : IV → IH → List Nat → List Nat → List Nat → Option R) (r : R), E args HI k = some r → ∀ (dargs : List DV) (H : Hp) (nx : Nat), Rels H nx args dargs → HRel HI H nx → HI.length = nx →
  ∃ res H' rd wr kl, k res H' rd wr kl = some r ∧ ∃ pre d post nx', CallOK P f dargs pre nx d post nx' ∧ (∀ o ck, ofL pre o = some ck → H o = some ck) ∧ pre.map (·.1) = rd ∧ post.map (·.1) = wr ∧ H'.length = nx' ∧ HRel H' (puts H post) nx' ∧ Rel (puts H post) nx' res d ∧ SameK kl H nx (puts H post) nx'

structure Env where
  l : List (Nat × Ent)

/-! ### New chunks of a call that fill chunks that wait -/
def ghM (o m : Nat) : IV → IV
  | .ptr q i f => cond (Nat.beq q m) (.ptr o i f) (cond (Nat.beq q o) .any (.ptr q i f))
  | .whole q => cond (Nat.beq q m) (.whole o) (cond (Nat.beq q o) .any (.whole q))
  | .part q l n => cond (Nat.beq q m) (.part o l n) (cond (Nat.beq q o) .any (.part q l n))
  | .rp _ => .any
  | .agg _ => .any
  | .tup _ => .any
  | .fn f [] => .fn f []
  | .fn _ _ => .any
  | v => v
def ghA (o m : Nat) : IV → IV
  | .agg cs => .agg (cs.map (ghM o m))
  | .rp cs => .rp (cs.map (ghM o m))
  | .fn f cs => .fn f (cs.map (ghM o m))
  | v => ghM o m v
def ghV (o m : Nat) : IV → IV
  | .tup vs => .tup (vs.map (ghA o m))
  | v => ghA o m v
def ghK (o m : Nat) : ICk → ICk
  | .box g cs => .box (g + 1) (cs.map fun c => killC o (killC m c))
  | c => c
def ndupB : List Nat → Bool
  | [] => true
  | a :: r => !(r.any fun b => Nat.beq b a) && ndupB r
def ghR (o m : Nat) : List Nat → List Nat
  | [] => []
  | a :: r => cond (Nat.beq a m) o a :: ghR o m r
def dropH : IH → Nat → IH
  | [], _ => []
  | _ :: _, 0 => []
  | c :: r, n + 1 => c :: dropH r n
def ghost1 {R : Type} (o nb : Nat) (k : IV → IH → List Nat → List Nat → List Nat → Option R) : IV → IH → List Nat → List Nat → List Nat → Option R := fun v H' rd wr kl =>
  match H'.length with
  | 0 => none
  | m + 1 => match getH H' m with
    | some (.box g cs) => brB (Nat.ble nb m && (Nat.blt o nb && ((rd.all fun j => !(Nat.beq j o) && Nat.blt j nb) && (ndupB wr && wr.any fun j => Nat.beq j m)))) (k (ghV o m v) (setH (killH o (killH m (dropH H' m))) o (some (ghK o m (.box g cs)))) (o :: rd) (ghR o m wr) (o :: kl)) none
    | some (.arr t as) => brB (Nat.ble nb m && (Nat.blt o nb && ((rd.all fun j => !(Nat.beq j o) && Nat.blt j nb) && (ndupB wr && wr.any fun j => Nat.beq j m)))) (k (ghV o m v) (setH (killH o (killH m (dropH H' m))) o (some (ghK o m (.arr t as)))) (o :: rd) (ghR o m wr) (o :: kl)) none
    | _ => none
def ghE (o : Nat) (E : Ent) : Ent := fun args H k => match getH H o with
  | some .wait => E args H (ghost1 o H.length k)
  | _ => none
def ghEs : List Nat → Ent → Ent
  | [], E => fun args H k => E args H k
  | o :: r, E => fun args H k => ghE o (fun a h k => ghEs r E a h k) args H k

theorem ndupB_ok : ∀ {l : List Nat}, ndupB l = true → l.Nodup
  | [], _ => List.nodup_nil
  | a :: r, h => by
    simp only [ndupB, Bool.and_eq_true, Bool.not_eq_true'] at h
    refine List.nodup_cons.2 ⟨fun hm => ?_, ndupB_ok h.2⟩
    have : (r.any fun b => Nat.beq b a) = true := List.any_eq_true.2 ⟨a, hm, Nat.beq_refl a⟩
    rw [h.1] at this; cases this
theorem dropH_get : ∀ (H : IH) (m j : Nat), j < m → getH (dropH H m) j = getH H j
  | [], m, j, h => rfl
  | c :: r, 0, j, h => by omega
  | c :: r, m + 1, 0, h => rfl
  | c :: r, m + 1, j + 1, h => dropH_get r m j (by omega)
theorem dropH_len : ∀ (H : IH) (m : Nat), m ≤ H.length → (dropH H m).length = m
  | [], m, h => by simp at h; subst h; rfl
  | c :: r, 0, h => rfl
  | c :: r, m + 1, h => by simp only [dropH, List.length_cons]; rw [dropH_len r m (by simpa using h)]

section ghost
variable {o m : Nat} {H1 H2 : Hp} {n1 n2 : Nat}
/-- The heap H2 is H1 with the chunk m at the number o, as the walk sees it. -/
structure GhS (o m : Nat) (H1 : Hp) (n1 : Nat) (H2 : Hp) (n2 : Nat) : Prop where
  same : ∀ j, j < n1 → j ≠ o → j ≠ m → ∀ c2, H2 j = some c2 → ∃ c1, H1 j = some c1 ∧ c1.gen = c2.gen ∧ c1.xs.length = c2.xs.length
  new : ∀ c2, H2 o = some c2 → ∃ c1, H1 m = some c1 ∧ c2.gen = c1.gen + 1 ∧ c1.xs.length = c2.xs.length
  lt : ∀ j, j ≠ m → j < n1 → j < n2
  lo : o < n2
theorem beq_ne {a b : Nat} (h : a ≠ b) : Nat.beq a b = false := by
  cases hb : Nat.beq a b with
  | false => rfl
  | true => exact absurd (Nat.eq_of_beq_eq_true hb) h
theorem ghM_rel (s : GhS o m H1 n1 H2 n2) {v : IV} {d d' : DV} (h : Rel H1 n1 v d) (g : Gh o m d d') : Rel H2 n2 (ghM o m v) d' := by
  cases h with
  | int k n => cases g; exact .int k n
  | bool b => cases g; exact .bool b
  | str b => cases g; exact .str b
  | nil => rw [g.flat (.lst _ _ fun x hx => by cases hx)]; exact .nil
  | lst f f' t as xs hf h =>
    rw [g.flat (.lst _ _ fun x hx c hc => by
      obtain ⟨j, hj, rfl⟩ := List.mem_iff_getElem.1 hx
      exact RelT.ids t _ _ (h.2 j (by rw [h.1]; exact hj) hj) c hc)]
    exact .lst f f' t as xs hf h
  | raw x => cases g; exact .raw x
  | any d => exact .any _
  | nn => cases g; exact .nn
  | ptr q gg i off ho hh =>
    simp only [ghM]
    cases g with
    | ptr _ _ _ _ h1 h2 =>
      rw [beq_ne h2, beq_ne h1]
      refine .ptr _ _ _ _ (s.lt q h2 ho) fun c2 hc => ?_
      obtain ⟨c1, k1, k2, k3⟩ := s.same q ho h1 h2 c2 hc
      have := hh c1 k1
      exact ⟨by omega, by omega⟩
    | ptrn =>
      rw [Nat.beq_refl]
      refine .ptr _ _ _ _ s.lo fun c2 hc => ?_
      obtain ⟨c1, k1, k2, k3⟩ := s.new c2 hc
      have := hh c1 k1
      exact ⟨by omega, by omega⟩
  | whole q gg n ho hh =>
    simp only [ghM]
    cases g with
    | own _ _ _ _ h1 h2 =>
      rw [beq_ne h2, beq_ne h1]
      refine .whole _ _ _ (s.lt q h2 ho) fun c2 hc => ?_
      obtain ⟨c1, k1, k2, k3⟩ := s.same q ho h1 h2 c2 hc
      have := hh c1 k1
      exact ⟨by omega, by omega⟩
    | ownn =>
      rw [Nat.beq_refl]
      refine .whole _ _ _ s.lo fun c2 hc => ?_
      obtain ⟨c1, k1, k2, k3⟩ := s.new c2 hc
      have := hh c1 k1
      exact ⟨by omega, by omega⟩
  | part q gg l n ho hh =>
    simp only [ghM]
    cases g with
    | own _ _ _ _ h1 h2 =>
      rw [beq_ne h2, beq_ne h1]
      refine .part _ _ _ _ (s.lt q h2 ho) fun c2 hc => ?_
      obtain ⟨c1, k1, k2, k3⟩ := s.same q ho h1 h2 c2 hc
      have := hh c1 k1
      exact ⟨by omega, by omega⟩
    | ownn =>
      rw [Nat.beq_refl]
      refine .part _ _ _ _ s.lo fun c2 hc => ?_
      obtain ⟨c1, k1, k2, k3⟩ := s.new c2 hc
      have := hh c1 k1
      exact ⟨by omega, by omega⟩
  | rp cs ds hl h => exact .any _
  | agg cs ds hl h => exact .any _
  | tup cs ds hl h => exact .any _
  | fn f cs ds hl h =>
    cases cs with
    | nil =>
      cases g with
      | fn _ _ es hl2 _ => exact .fn _ _ _ (by simp at hl; simp [← hl2, ← hl]) (fun j h => by cases h)
    | cons => exact .any _
theorem ghMs_rel (s : GhS o m H1 n1 H2 n2) {cs : List IV} {ds es : List DV} (h : Rels H1 n1 cs ds) (hl : ds.length = es.length) (g : ∀ j (h1 : j < ds.length) (h2 : j < es.length), Gh o m ds[j] es[j]) : Rels H2 n2 (cs.map (ghM o m)) es :=
  ⟨by simp [h.1, hl], fun j h1 h2 => by
    have h3 : j < cs.length := by simpa using h1
    simpa using ghM_rel s (h.2 j h3 (by omega)) (g j (by omega) h2)⟩
theorem ghA_rel (s : GhS o m H1 n1 H2 n2) {v : IV} {d d' : DV} (h : Rel H1 n1 v d) (g : Gh o m d d') : Rel H2 n2 (ghA o m v) d' := by
  unfold ghA
  split
  · obtain ⟨ds, rfl, k⟩ := h.agg_inv
    cases g with | agg _ es hl g => exact Rel.aggB (ghMs_rel s k hl g)
  · obtain ⟨ds, rfl, k⟩ := h.rp_inv
    cases g with | rp _ es hl g => exact Rel.rpB (ghMs_rel s k hl g)
  · obtain ⟨ds, rfl, k⟩ := h.fn_inv
    cases g with | fn _ _ es hl g => exact Rel.fnB (ghMs_rel s k hl g)
  · exact ghM_rel s h g
theorem ghV_rel (s : GhS o m H1 n1 H2 n2) {v : IV} {d d' : DV} (h : Rel H1 n1 v d) (g : Gh o m d d') : Rel H2 n2 (ghV o m v) d' := by
  unfold ghV
  split
  · obtain ⟨ds, rfl, k⟩ := h.tup_inv
    cases g with
    | tup _ es hl g =>
      exact Rel.tupB ⟨by simp [k.1, hl], fun j h1 h2 => by
        have h3 : j < ds.length := by omega
        simpa using ghA_rel s (k.2 j (by have := k.1; omega) h3) (g j h3 h2)⟩
  · exact ghA_rel s h g
/-- Cells that name neither chunk. -/
theorem ghC_rel (s : GhS o m H1 n1 H2 n2) {v : IV} {d d' : DV} (h : Rel H1 n1 v d) (g : Gh o m d d' ∨ d' = d) : Rel H2 n2 (killC o (killC m v)) d' := by
  have fl : ∀ {d d' : DV}, Ids (fun _ => False) d → Gh o m d d' ∨ d' = d → d' = d := fun hi g => g.elim (fun g => g.flat hi) id
  cases h with
  | int k n => rw [fl (.v _) g]; exact .int k n
  | bool b => rw [fl (.v _) g]; exact .bool b
  | str b => rw [fl (.v _) g]; exact .str b
  | nil => rw [fl (.lst _ _ fun x hx => by cases hx) g]; exact .nil
  | lst f f' t as xs hf h =>
    rw [fl (.lst _ _ fun x hx c hc => by
      obtain ⟨j, hj, rfl⟩ := List.mem_iff_getElem.1 hx
      exact RelT.ids t _ _ (h.2 j (by rw [h.1]; exact hj) hj) c hc) g]
    exact .lst f f' t as xs hf h
  | raw x => rw [fl (.v _) g]; exact .raw x
  | any d => exact .any _
  | nn => rw [fl .nn g]; exact .nn
  | ptr q gg i off ho hh =>
    simp only [killC]
    by_cases h2 : q = m
    · subst h2; rw [Nat.beq_refl]; exact .any _
    · rw [beq_ne h2]
      simp only [cond_false, killC]
      by_cases h1 : q = o
      · subst h1; rw [Nat.beq_refl]; exact .any _
      · rw [beq_ne h1]
        have : d' = .ptr q gg i off := by
          rcases g with g | rfl
          · cases g with
            | ptr => rfl
            | ptrn => exact absurd rfl h2
          · rfl
        subst this
        refine .ptr _ _ _ _ (s.lt q h2 ho) fun c2 hc => ?_
        obtain ⟨c1, k1, k2, k3⟩ := s.same q ho h1 h2 c2 hc
        have := hh c1 k1
        exact ⟨by omega, by omega⟩
  | whole q gg n ho hh =>
    simp only [killC]
    by_cases h2 : q = m
    · subst h2; rw [Nat.beq_refl]; exact .any _
    · rw [beq_ne h2]
      simp only [cond_false, killC]
      by_cases h1 : q = o
      · subst h1; rw [Nat.beq_refl]; exact .any _
      · rw [beq_ne h1]
        have : d' = .own q gg 0 n := by
          rcases g with g | rfl
          · cases g with
            | own => rfl
            | ownn => exact absurd rfl h2
          · rfl
        subst this
        refine .whole _ _ _ (s.lt q h2 ho) fun c2 hc => ?_
        obtain ⟨c1, k1, k2, k3⟩ := s.same q ho h1 h2 c2 hc
        have := hh c1 k1
        exact ⟨by omega, by omega⟩
  | part q gg l n ho hh =>
    simp only [killC]
    by_cases h2 : q = m
    · subst h2; rw [Nat.beq_refl]; exact .any _
    · rw [beq_ne h2]
      simp only [cond_false, killC]
      by_cases h1 : q = o
      · subst h1; rw [Nat.beq_refl]; exact .any _
      · rw [beq_ne h1]
        have : d' = .own q gg l n := by
          rcases g with g | rfl
          · cases g with
            | own => rfl
            | ownn => exact absurd rfl h2
          · rfl
        subst this
        refine .part _ _ _ _ (s.lt q h2 ho) fun c2 hc => ?_
        obtain ⟨c1, k1, k2, k3⟩ := s.same q ho h1 h2 c2 hc
        have := hh c1 k1
        exact ⟨by omega, by omega⟩
  | rp cs ds hl h => exact .any _
  | agg cs ds hl h => exact .any _
  | tup cs ds hl h => exact .any _
  | fn f cs ds hl h =>
    cases cs with
    | nil =>
      have hd : ds = [] := List.eq_nil_of_length_eq_zero (by rw [← hl]; rfl)
      subst hd
      rw [fl (.fn _ _ fun c hc => by cases hc) g]
      exact .fn _ _ _ rfl (fun j h => by cases h)
    | cons => exact .any _
theorem ghCk_rel (s : GhS o m H1 n1 H2 n2) {c c' : ICk} {ck ck' : Ck} (h : CkR H1 n1 c ck) (hk : killK o (killK m (some c)) = some c') (g : GhC o m 0 ck ck' ∨ ck' = ck) : CkR H2 n2 c' ck' := by
  cases c with
  | box gb cs =>
    simp only [killK, Option.some.injEq] at hk; subst hk
    obtain ⟨h1, ds, h2, h3, h4⟩ := h
    rcases g with g | rfl
    · obtain ⟨e1, e2, e3⟩ := g
      rw [h2] at e3
      obtain ⟨es, he, h5⟩ := e3.one_l
      refine ⟨by rw [e2, h1]; simp, es, he, ⟨by simp [h3.1, h5.1], fun j a b => ?_⟩, by rw [e1, h4]; rfl⟩
      simp only [List.getElem_map]
      exact ghC_rel s (h3.2 j (by simpa using a) (by rw [h5.1]; exact b)) (.inl (h5.2 j (by rw [h5.1]; exact b) b))
    · refine ⟨by rw [h1]; simp, ds, h2, ⟨by simp [h3.1], fun j a b => ?_⟩, h4⟩
      simp only [List.getElem_map]
      exact ghC_rel s (h3.2 j (by simpa using a) b) (.inr rfl)
  | arr t as =>
    simp only [killK, Option.some.injEq] at hk; subst hk
    rcases g with g | rfl
    · refine ⟨by rw [g.s]; exact h.1, ?_⟩
      have : ck'.xs = ck.xs := List.ext_getElem g.r.1.symm fun i a b => List.ext_getElem (g.r.2 i b a).1.symm fun j c d => ((g.r.2 i b a).2 j d c).flat (RelT.ids t _ _ (h.2.2 i (by rw [h.2.1]; exact b) b) _ (List.getElem_mem d))
      rw [this]; exact h.2
    · exact h
  | wait =>
    simp only [killK, Option.some.injEq] at hk; subst hk
    obtain ⟨sz, rfl⟩ := h
    rcases g with g | rfl
    · obtain ⟨gen', sz', xs'⟩ := ck'
      obtain ⟨e1, e2, e3⟩ := g
      simp only at e1 e2 e3
      have := e3.nil_l; subst this; subst e1
      exact ⟨sz', rfl⟩
    · exact ⟨sz, rfl⟩
theorem ghNew_rel (s : GhS o m H1 n1 H2 n2) {c : ICk} {ck ck' : Ck} (h : CkR H1 n1 c ck) (hw : c ≠ .wait) (g : GhC o m 1 ck ck') : CkR H2 n2 (ghK o m c) ck' := by
  cases c with
  | box gb cs =>
    obtain ⟨h1, ds, h2, h3, h4⟩ := h
    obtain ⟨e1, e2, e3⟩ := g
    rw [h2] at e3
    obtain ⟨es, he, h5⟩ := e3.one_l
    refine ⟨by rw [e2, h1]; simp, es, he, ⟨by simp [h3.1, h5.1], fun j a b => ?_⟩, by rw [e1, h4]⟩
    simp only [List.getElem_map]
    exact ghC_rel s (h3.2 j (by simpa using a) (by rw [h5.1]; exact b)) (.inl (h5.2 j (by rw [h5.1]; exact b) b))
  | arr t as =>
    refine ⟨by rw [g.s]; exact h.1, ?_⟩
    have : ck'.xs = ck.xs := List.ext_getElem g.r.1.symm fun i a b => List.ext_getElem (g.r.2 i b a).1.symm fun j c d => ((g.r.2 i b a).2 j d c).flat (RelT.ids t _ _ (h.2.2 i (by rw [h.2.1]; exact b) b) _ (List.getElem_mem d))
    rw [this]; exact h.2
  | wait => exact absurd rfl hw
end ghost

theorem EntOK.ghost {P : Program} {f : FuncId} {E : Ent} (hE : EntOK P f E) (o : Nat) : EntOK P f (ghE o E) := by
  intro R args HI k r h dargs H nx hargs hH hn
  simp only [ghE] at h
  split at h
  · rename_i hw
    obtain ⟨how, ckw, hckw, szw, rfl⟩ := hH o _ hw
    obtain ⟨v, H', rd, wr, kl, h1, pre, d, post, nx', h2, h3, h4, h5, h6, h7, h8, h9⟩ := hE R args HI _ r h dargs H nx hargs hH hn
    have main : ∀ m c, H'.length = m + 1 → getH H' m = some c → c ≠ .wait → (Nat.ble HI.length m && (Nat.blt o HI.length && ((rd.all fun j => !(Nat.beq j o) && Nat.blt j HI.length) && (ndupB wr && wr.any fun j => Nat.beq j m)))) = true →
        k (ghV o m v) (setH (killH o (killH m (dropH H' m))) o (some (ghK o m c))) (o :: rd) (ghR o m wr) (o :: kl) = some r → ∃ res H' rd wr kl, k res H' rd wr kl = some r ∧ ∃ pre d post nx', CallOK P f dargs pre nx d post nx' ∧ (∀ o ck, ofL pre o = some ck → H o = some ck) ∧ pre.map (·.1) = rd ∧ post.map (·.1) = wr ∧ H'.length = nx' ∧ HRel H' (puts H post) nx' ∧ Rel (puts H post) nx' res d ∧ SameK kl H nx (puts H post) nx' := by
      intro m c hlen hc hcw ht hk
      simp only [Bool.and_eq_true] at ht
      obtain ⟨t1, t2, t3, t4, t5⟩ := ht
      have q1 : nx ≤ m := by rw [← hn]; exact Nat.le_of_ble_eq_true t1
      have q3 : ∀ e, e ∈ pre → e.1 ≠ o ∧ e.1 < nx := fun e he => by
        have := List.all_eq_true.1 t3 e.1 (by rw [← h4]; exact List.mem_map.2 ⟨e, he, rfl⟩)
        simp only [Bool.and_eq_true, Bool.not_eq_true'] at this
        exact ⟨nbeq_ne this.1, by rw [← hn]; exact Nat.le_of_ble_eq_true this.2⟩
      have q4 : (post.map (·.1)).Nodup := by rw [h5]; exact ndupB_ok t4
      have q5 : m ∈ post.map (·.1) := by
        rw [h5]
        obtain ⟨j, hj, e⟩ := List.any_eq_true.1 t5
        rw [← Nat.eq_of_beq_eq_true e]; exact hj
      have hnx' : nx' = m + 1 := by rw [← h6]; exact hlen
      subst hnx'
      obtain ⟨d', post', g1, g2, g3, g4⟩ := h2.ghost szw q1 how q3 q4 q5
      obtain ⟨A1, A2, A3⟩ := ghL_one post post' g2 g3
      have hmo : m ≠ o := by omega
      obtain ⟨cm, cm', hcm, cm1, cm2⟩ : ∃ c c', GhC o m 1 c c' ∧ (∀ H, puts H post m = some c) ∧ ∀ H, puts H post' o = some c' := by
        rcases A2 with h | ⟨b1, _⟩
        · exact h
        · obtain ⟨e, he, e1⟩ := List.mem_map.1 q5
          have := puts_mem post q4 e he Hp.emp
          rw [e1, b1] at this; cases this
      have gs : GhS o m (puts H post) (m + 1) (puts H post') m := by
        refine ⟨fun j hj h1 h2 c2 hc2 => ?_, fun c2 hc2 => ?_, fun j h1 h2 => by omega, by omega⟩
        · rcases A1 j h1 h2 with ⟨c1, c3, b1, b2, b3⟩ | ⟨b2, b3⟩
          · rw [b3] at hc2; injection hc2 with hc2; subst hc2
            exact ⟨c1, b2 _, b1.g.symm, b1.r.1⟩
          · rw [b3] at hc2; exact ⟨c2, by rw [b2]; exact hc2, rfl, rfl⟩
        · rw [cm2] at hc2; injection hc2 with hc2; subst hc2
          exact ⟨cm, cm1 _, hcm.g, hcm.r.1⟩
      have hdl : (dropH H' m).length = m := dropH_len _ _ (by omega)
      refine ⟨_, _, _, _, _, hk, (o, ⟨0, szw, []⟩) :: pre, d', post', m, g4, fun j ck hj => ?_, by rw [List.map_cons, h4], ?_, ?_, fun j c' hj => ?_, ghV_rel gs h8 g1, ⟨q1, fun j ck' hj hnk hck => ?_⟩⟩
      · by_cases e : j = o
        · subst e; rw [ofL_cons_same fun e he => (q3 e he).1] at hj; injection hj with hj; subst hj; exact hckw
        · rw [ofL_cons_ne e] at hj; exact h3 j ck hj
      · rw [← h5]
        have : ∀ (l l' : Cks), Both (GhE o m) l l' → l'.map (·.1) = ghR o m (l.map (·.1)) := by
          intro l
          induction l with
          | nil => intro l' h; rw [h.nil_l]; rfl
          | cons e l ih =>
            intro l' h
            obtain ⟨e', l', rfl, a1, a2⟩ := h.cons_l
            simp only [List.map_cons, ghR, ih l' a2]
            by_cases e1 : e.1 = m
            · rw [(a1.1 e1).1, e1, Nat.beq_refl]; rfl
            · rw [(a1.2 e1).1, beq_ne e1]; rfl
        exact this _ _ g2
      · rw [setH_len, killH_len, killH_len, hdl]
      · rw [getH_set, killH_len, killH_len, hdl] at hj
        by_cases e : j = o
        · subst e
          rw [if_pos ⟨rfl, by omega⟩] at hj
          injection hj with hj; subst hj
          refine ⟨by omega, cm', cm2 _, ?_⟩
          obtain ⟨_, ck, k1, k2⟩ := h7 m c hc
          rw [cm1] at k1; injection k1 with k1; subst k1
          exact ghNew_rel gs k2 hcw hcm
        · rw [if_neg fun h => e h.1, killH_get, killH_get] at hj
          have hjm : j < m := by
            rcases Nat.lt_or_ge j m with h | h
            · exact h
            · exfalso
              have : getH (dropH H' m) j = none := by
                cases hq : getH (dropH H' m) j with
                | none => rfl
                | some cq => have := getH_lt _ _ _ hq; omega
              rw [this] at hj; cases hj
          rw [dropH_get _ _ _ hjm] at hj
          cases hg : getH H' j with
          | none => rw [hg] at hj; cases hj
          | some c0 =>
            rw [hg] at hj
            obtain ⟨_, ck, k1, k2⟩ := h7 j c0 hg
            rcases A1 j e (by omega) with ⟨c1, c3, b1, b2, b3⟩ | ⟨b2, b3⟩
            · rw [b2] at k1; injection k1 with k1; subst k1
              exact ⟨hjm, c3, b3 _, ghCk_rel gs k2 hj (.inl b1)⟩
            · rw [b2] at k1
              exact ⟨hjm, ck, by rw [b3]; exact k1, ghCk_rel gs k2 hj (.inr rfl)⟩
      · simp only [List.mem_cons, not_or] at hnk
        rcases A1 j hnk.1 (by omega) with ⟨c1, c3, b1, b2, b3⟩ | ⟨b2, b3⟩
        · rw [b3] at hck; injection hck with hck; subst hck
          obtain ⟨c0, k1, k2, k3⟩ := h9.h j c1 hj hnk.2 (b2 _)
          exact ⟨c0, k1, by rw [k2, b1.g]; rfl, by rw [k3, b1.r.1]⟩
        · rw [b3] at hck; exact ⟨ck', hck, rfl, rfl⟩
    simp only [ghost1] at h1
    split at h1
    · cases h1
    · rename_i m hlen
      split at h1
      · rename_i g cs hc
        obtain ⟨ht, hk⟩ := cond_some h1
        exact main m _ hlen hc (by simp) ht hk
      · rename_i t as hc
        obtain ⟨ht, hk⟩ := cond_some h1
        exact main m _ hlen hc (by simp) ht hk
      · cases h1
  · cases h
theorem EntOK.ghosts {P : Program} {f : FuncId} {E : Ent} (hE : EntOK P f E) : ∀ l : List Nat, EntOK P f (ghEs l E)
  | [] => hE
  | o :: r => (EntOK.ghosts hE r).ghost o

section run
variable {R : Type}

def callE (gs : List Nat) : List (Nat × Ent) → Nat → List IV → IH → (IV → IH → List Nat → List Nat → List Nat → Option R) → Option R
  | [], _, _, _, _ => none
  | (g, E) :: r, f, args, H, k => brB (Nat.beq g f) (ghEs gs E args H k) (callE gs r f args H k)

def wrOf (H : IH) : UpI → List Nat
  | .no => []
  | .set o _ => [o]
  | .al _ => [H.length]
  | .grow o _ => [o]

structure TI where
  ri : RI
  an : An := {}

def stepI (env : List (Nat × Ent)) (op : ROp) (an : An) (T : List (Nat × IV)) (H : IH) (k : IV → List (Nat × IV) → IH → List Nat → List Nat → Option R) : Option R :=
  match op with
  | .call f xs => match getO T f with
    | .fn id caps => callE an.gs env id (xs.map (getO T) ++ caps) H fun v H' rd wr kl => k v (killTs kl T) H' rd wr
    | _ => none
  | op => evI op an T H fun v u rd => k v (u.t T) (u.h H) rd (wrOf H u)

def runOps (env : List (Nat × Ent)) : List TI → List (Nat × IV) → IH → Lg → (List (Nat × IV) → IH → Lg → Option R) → Option R
  | [], T, H, lg, k => k T H lg
  | i :: r, T, H, lg, k =>
    match i.ri.gd with
    | none => stepI env i.ri.op i.an T H fun v T' H' rd wr => runOps env r (putI i.ri.dst v T') H' (lg ++ [(rd, wr)]) k
    | some (t, wn) => match getT T t with
      | .bool b => match wn with
        | true => brB b (stepI env i.ri.op i.an ((t, .bool true) :: T) H fun v T' H' rd wr => runOps env r (putI i.ri.dst v T') H' (lg ++ [(rd, wr)]) k)
            (runOps env r (putI i.ri.dst (.raw undef) ((t, .bool false) :: T)) H (lg ++ [([], [])]) k)
        | false => brB b (runOps env r (putI i.ri.dst (.raw undef) ((t, .bool true) :: T)) H (lg ++ [([], [])]) k)
            (stepI env i.ri.op i.an ((t, .bool false) :: T) H fun v T' H' rd wr => runOps env r (putI i.ri.dst v T') H' (lg ++ [(rd, wr)]) k)
      | .raw (.tuple _) => runOps env r (putI i.ri.dst (.raw undef) T) H (lg ++ [([], [])]) k
      | _ => none
end run

section sound
variable {R : Type} {P : Program} {r : R} {env : List (Nat × Ent)}

def EnvOK (P : Program) (env : List (Nat × Ent)) : Prop := ∀ x, x ∈ env → EntOK P x.1 x.2
theorem EnvOK.nil : EnvOK P [] := fun x h => by cases h
theorem EnvOK.cons {f : Nat} {E : Ent} {env : List (Nat × Ent)} (h : EntOK P f E) (k : EnvOK P env) : EnvOK P ((f, E) :: env) := fun x hx => by
  rcases List.mem_cons.1 hx with rfl | hx
  · exact h
  · exact k x hx

theorem callE_sound (hE : EnvOK P env) {gs : List Nat} {f : Nat} {args : List IV} {H : IH} {k : IV → IH → List Nat → List Nat → List Nat → Option R} (h : callE gs env f args H k = some r) : ∃ E : Ent, EntOK P f E ∧ E args H k = some r := by
  induction env with
  | nil => simp [callE] at h
  | cons x l ih =>
    obtain ⟨g, E⟩ := x
    simp only [callE] at h
    cases hb : Nat.beq g f with
    | true =>
      rw [hb] at h
      have := Nat.eq_of_beq_eq_true hb
      subst this
      exact ⟨ghEs gs E, (hE (g, E) (by simp)).ghosts gs, h⟩
    | false =>
      rw [hb] at h
      exact ih (fun x hx => hE x (List.mem_cons_of_mem _ hx)) h

theorem stepI_sound (hE : EnvOK P env) {op : ROp} {an : An} {T : List (Nat × IV)} {H : IH} {k : IV → List (Nat × IV) → IH → List Nat → List Nat → Option R} {s : St} (hs : SR ⟨T, H⟩ s) (h : stepI env op an T H k = some r) :
    ∃ v T' H' rd wr, k v T' H' rd wr = some r ∧ ∃ e : Rc, Exec P op true s e ∧ e.rd = rd ∧ e.post.map (·.1) = wr ∧ ∀ dst, SR ⟨putI dst v T', H'⟩ (s.app dst e) := by
  have gen : ∀ op, evI op an T H (fun v u rd => k v (u.t T) (u.h H) rd (wrOf H u)) = some r → ∃ v T' H' rd wr, k v T' H' rd wr = some r ∧ ∃ e : Rc, Exec P op true s e ∧ e.rd = rd ∧ e.post.map (·.1) = wr ∧ ∀ dst, SR ⟨putI dst v T', H'⟩ (s.app dst e) := by
    intro op h
    obtain ⟨v, u, rd, wr, h1, ⟨d, post, nx', h2, h3, h4⟩, h5⟩ := evI_sound hs h
    obtain ⟨e, he, e1, e2, e3, e4⟩ := awpX_exec (h2 (fun d' post' nx'' rd' => d' = d ∧ post' = post ∧ nx'' = nx' ∧ rd' = rd) ⟨rfl, rfl, rfl, rfl⟩)
    refine ⟨v, u.t T, u.h H, rd, wrOf H u, h1, e, he, e4, ?_, fun dst => ?_⟩
    · rw [e2, h3, h5]; cases u <;> rfl
    · have := h4 dst
      simp only [St.app, e1, e2, e3]; exact this
  cases op with
  | call f xs =>
    simp only [stepI] at h
    have hf := getO_rel hs.t f
    split at h
    · rename_i id caps hfv
      rw [hfv] at hf
      obtain ⟨dc, hfd, hcaps⟩ := hf.fn_inv
      obtain ⟨E, hE1, hE2⟩ := callE_sound hE h
      have hargs : Rels s.H s.nx (xs.map (getO T) ++ caps) (xs.map (fun x => un true (x.get s.T)) ++ dc) := (Both.of_map xs fun x => getO_rel hs.t x).append hcaps
      obtain ⟨res, H', rd, wr, kl, h1, pre, d, post, nx', h2, h3, h4, h5, h6, h7, h8, h9⟩ := hE1 _ _ _ _ _ hE2 _ s.H s.nx hargs hs.h hs.n
      refine ⟨res, killTs kl T, H', rd, wr, h1, ⟨d, post, nx', pre.map (·.1)⟩, .inr (.inl ⟨f, xs, id, dc, rfl, hfd, pre, h2, h3, fun o ck ho => List.mem_map.2 ⟨(o, ck), ofL_mem ho, rfl⟩⟩), h4, h5, fun dst => ?_⟩
      refine ⟨putT_rel (fun t => by rw [killTs_get]; exact killVs_rel h9 (hs.t t)) h8 dst, h7, h6⟩
    · cases h
  | _ => exact gen _ h

theorem runOps_sound (hE : EnvOK P env) : ∀ (l : List TI) (T : List (Nat × IV)) (H : IH) (lg : Lg) (k : List (Nat × IV) → IH → Lg → Option R) (s : St), SR ⟨T, H⟩ s → runOps env l T H lg k = some r →
    runX P (l.map (·.ri)) lg s fun lg' s' => ∃ T' H', SR ⟨T', H'⟩ s' ∧ k T' H' lg' = some r
  | [], T, H, lg, k, s, hs, h => ⟨T, H, hs, h⟩
  | i :: l, T, H, lg, k, s, hs, h => by
    have go : ∀ (T : List (Nat × IV)), SR ⟨T, H⟩ s → (stepI env i.ri.op i.an T H fun v T' H' rd wr => runOps env l (putI i.ri.dst v T') H' (lg ++ [(rd, wr)]) k) = some r →
        ∃ e : Rc, Exec P i.ri.op true s e ∧ runX P (l.map (·.ri)) (lg ++ [(e.rd, e.post.map (·.1))]) (s.app i.ri.dst e) fun lg' s' => ∃ T' H', SR ⟨T', H'⟩ s' ∧ k T' H' lg' = some r := by
      intro T hs h
      obtain ⟨v, T', H', rd, wr, h1, e, he, e1, e2, e3⟩ := stepI_sound hE hs h
      refine ⟨e, he, ?_⟩
      rw [e1, e2]
      exact runOps_sound hE l _ _ _ k _ (e3 _) h1
    have skip : ∀ (T : List (Nat × IV)), SR ⟨T, H⟩ s → runOps env l (putI i.ri.dst (.raw undef) T) H (lg ++ [([], [])]) k = some r →
        runX P (l.map (·.ri)) (lg ++ [([], [])]) (s.app i.ri.dst ⟨.v undef, [], s.nx, []⟩) fun lg' s' => ∃ T' H', SR ⟨T', H'⟩ s' ∧ k T' H' lg' = some r := by
      intro T hs h
      exact runOps_sound hE l _ _ _ k _ ⟨putT_rel hs.t (.raw _) _, hs.h, hs.n⟩ h
    simp only [runOps] at h
    show ∃ e : Rc, Stp P i.ri s e ∧ _
    split at h
    · rename_i hg
      obtain ⟨e, h1, h2⟩ := go T hs h
      exact ⟨e, by unfold Stp; rw [hg]; exact h1, h2⟩
    · rename_i t wn hg
      have ht := hs.t t
      have ref : ∀ b : Bool, getT T t = .bool b → SR ⟨(t, .bool b) :: T, H⟩ s := by
        intro b hb
        refine ⟨fun t' => ?_, hs.h, hs.n⟩
        simp only [getT]
        cases hq : Nat.beq t t' with
        | false => exact hs.t t'
        | true =>
          have := Nat.eq_of_beq_eq_true hq
          subst this
          have := hs.t t
          simp only [hb] at this
          exact this
      have gvb : ∀ b : Bool, getT T t = .bool b → gv (s.T t) wn = some (b == wn) := by
        intro b hb
        simp only [hb] at ht
        rw [ht.bool_inv]; rfl
      split at h
      · rename_i b hb
        have hgb := gvb b hb
        have hrf := ref b hb
        split at h
        · cases b with
          | true =>
            obtain ⟨e, h1, h2⟩ := go _ hrf h
            exact ⟨e, by unfold Stp; rw [hg]; exact ⟨true, hgb, .inl ⟨rfl, h1⟩⟩, h2⟩
          | false => exact ⟨⟨.v undef, [], s.nx, []⟩, by unfold Stp; rw [hg]; exact ⟨false, hgb, .inr (.inl ⟨rfl, rfl⟩)⟩, skip _ hrf h⟩
        · cases b with
          | false =>
            obtain ⟨e, h1, h2⟩ := go _ hrf h
            exact ⟨e, by unfold Stp; rw [hg]; exact ⟨true, hgb, .inl ⟨rfl, h1⟩⟩, h2⟩
          | true => exact ⟨⟨.v undef, [], s.nx, []⟩, by unfold Stp; rw [hg]; exact ⟨false, hgb, .inr (.inl ⟨rfl, rfl⟩)⟩, skip _ hrf h⟩
      · rename_i vs hb
        simp only [hb] at ht
        have hraw := ht.raw_inv
        have hgv : gv (s.T t) wn = some false := by
          rw [hraw]; rfl
        exact ⟨⟨.v undef, [], s.nx, []⟩, by unfold Stp; rw [hg]; exact ⟨false, hgv, .inr (.inl ⟨rfl, rfl⟩)⟩, skip T hs h⟩
      · cases h
end sound
end Go.Pv
