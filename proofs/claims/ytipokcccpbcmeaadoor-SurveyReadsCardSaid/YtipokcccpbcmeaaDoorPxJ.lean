/- Calls at other numbers of chunks (rename), and functions that turn boxes or make new ones (SFOK). No condition of its own: over any program. -/
import Derived.Test.YtipokcccpbcmeaaDoorPxI
set_option linter.all false
namespace Go.Pv
open Go.RowKit
inductive Rn (r γ : Nat → Nat) (q : Nat) : DV → DV → Prop
  | flat (d : DV) (h : Ids (fun _ => False) d) : Rn r γ q d d
  | ptr (j g i f : Nat) (h : j < q) : Rn r γ q (.ptr (r j) (g + γ j) i f) (.ptr j g i f)
  | own (j g lo n : Nat) (h : j < q) : Rn r γ q (.own (r j) (g + γ j) lo n) (.own j g lo n)
  | agg (cs ds : List DV) (hl : cs.length = ds.length) (h : ∀ j (h1 : j < cs.length) (h2 : j < ds.length), Rn r γ q cs[j] ds[j]) : Rn r γ q (.agg cs) (.agg ds)
  | tup (cs ds : List DV) (hl : cs.length = ds.length) (h : ∀ j (h1 : j < cs.length) (h2 : j < ds.length), Rn r γ q cs[j] ds[j]) : Rn r γ q (.tup cs) (.tup ds)
  | fn (f : FuncId) (cs ds : List DV) (hl : cs.length = ds.length) (h : ∀ j (h1 : j < cs.length) (h2 : j < ds.length), Rn r γ q cs[j] ds[j]) : Rn r γ q (.fn f cs) (.fn f ds)
section rn
variable {r γ : Nat → Nat} {q : Nat} {H1 H2 : Hp} {ps1 ps2 : Ps} {M : Nat → Prop} {n1 n2 : Nat} {w : World}
theorem Rn.down {d' d : DV} {x : Value} (h : Rn r γ q d' d) (hmu : ∀ b, Mu H1 ps1 M b → Mu H2 ps2 M b) (hH : ∀ j ck, j < q → H1 j = some ck → ∃ c2, H2 (r j) = some c2 ∧ c2.gen = ck.gen + γ j ∧ ck.sz = c2.sz ∧ ck.xs.length = c2.xs.length ∧ ps1 j = ps2 (r j)) (hn : q ≤ n1) (hv : VR H2 ps2 M n2 w d' x) : VR H1 ps1 M n1 w d x := by
  induction h generalizing x with
  | flat d hd => exact hv.monoS hd ⟨fun o h => h.elim, fun o h => h.elim, fun b hb => .inl (hmu b hb), fun _ _ _ => rfl⟩
  | ptr j g i f hj =>
    cases hv with
    | ptr _ _ _ _ _ h0 h1 hh =>
      refine .ptr _ _ _ _ _ (Nat.lt_of_lt_of_le hj hn) h1 fun ck hk => ?_
      obtain ⟨c2, k1, k2, k3, k4, k5⟩ := hH j ck hj hk
      obtain ⟨a1, a2⟩ := hh c2 k1
      refine ⟨by omega, fun e => ?_⟩
      obtain ⟨b1, p, b2, b3⟩ := a2 (by omega)
      exact ⟨by omega, p, by rw [k5]; exact b2, by rw [k3]; exact b3⟩
  | own j g lo n hj =>
    cases hv with
    | own _ _ _ _ _ h0 h1 hh =>
      refine .own _ _ _ _ _ (Nat.lt_of_lt_of_le hj hn) h1 fun ck hk => ?_
      obtain ⟨c2, k1, k2, k3, k4, k5⟩ := hH j ck hj hk
      obtain ⟨a1, a2⟩ := hh c2 k1
      refine ⟨by omega, fun e => ?_⟩
      obtain ⟨b1, a, cap, b2, b3, b4⟩ := a2 (by omega)
      refine ⟨by omega, a, cap, b2, b3, ?_⟩
      rcases b4 with b4 | ⟨p, p1, p2, p3⟩
      · exact .inl b4
      · exact .inr ⟨p, by rw [k5]; exact p1, by rw [k3]; exact p2, by rw [k3]; exact p3⟩
  | agg cs ds hl _ ih =>
    obtain ⟨vs, rfl, h1, h2, h3⟩ := hv.agg_inv
    exact .agg _ vs (by omega) (fun j hj => h2 j (by omega)) fun j hj => ih j (by omega) hj (h3 j (by omega))
  | tup cs ds hl _ ih =>
    obtain ⟨vs, rfl, h1, h2⟩ := hv.tup_inv
    exact .tup _ vs (by omega) fun j hj => ih j (by omega) hj (h2 j (by omega))
  | fn f cs ds hl _ ih =>
    obtain ⟨vs, rfl, h1, h2⟩ := hv.fn_inv
    exact .fn _ _ vs (by omega) fun j hj => ih j (by omega) hj (h2 j (by omega))
theorem Rn.up {d' d : DV} {x : Value} (h : Rn r γ q d' d) (hmu : ∀ b, Mu H2 ps2 M b → Mu H1 ps1 M b) (hH : ∀ j ck, j < q → H2 (r j) = some ck → ∃ c1, H1 j = some c1 ∧ ck.gen = c1.gen + γ j ∧ ck.sz = c1.sz ∧ ck.xs.length = c1.xs.length ∧ ps1 j = ps2 (r j)) (hn : ∀ j, j < q → r j < n2) (hv : VR H1 ps1 M n1 w d x) : VR H2 ps2 M n2 w d' x := by
  induction h generalizing x with
  | flat d hd => exact hv.monoS hd ⟨fun o h => h.elim, fun o h => h.elim, fun b hb => .inl (hmu b hb), fun _ _ _ => rfl⟩
  | ptr j g i f hj =>
    cases hv with
    | ptr _ _ _ _ _ h0 h1 hh =>
      refine .ptr _ _ _ _ _ (hn j hj) h1 fun ck hk => ?_
      obtain ⟨c2, k1, k2, k3, k4, k5⟩ := hH j ck hj hk
      obtain ⟨a1, a2⟩ := hh c2 k1
      refine ⟨by omega, fun e => ?_⟩
      obtain ⟨b1, p, b2, b3⟩ := a2 (by omega)
      exact ⟨by omega, p, by rw [← k5]; exact b2, by rw [k3]; exact b3⟩
  | own j g lo n hj =>
    cases hv with
    | own _ _ _ _ _ h0 h1 hh =>
      refine .own _ _ _ _ _ (hn j hj) h1 fun ck hk => ?_
      obtain ⟨c2, k1, k2, k3, k4, k5⟩ := hH j ck hj hk
      obtain ⟨a1, a2⟩ := hh c2 k1
      refine ⟨by omega, fun e => ?_⟩
      obtain ⟨b1, a, cap, b2, b3, b4⟩ := a2 (by omega)
      refine ⟨by omega, a, cap, b2, b3, ?_⟩
      rcases b4 with b4 | ⟨p, p1, p2, p3⟩
      · exact .inl b4
      · exact .inr ⟨p, by rw [← k5]; exact p1, by rw [k3]; exact p2, by rw [k3]; exact p3⟩
  | agg cs ds hl _ ih =>
    obtain ⟨vs, rfl, h1, h2, h3⟩ := hv.agg_inv
    exact .agg _ vs (by omega) (fun j hj => h2 j (by omega)) fun j hj => ih j hj (by omega) (h3 j (by omega))
  | tup cs ds hl _ ih =>
    obtain ⟨vs, rfl, h1, h2⟩ := hv.tup_inv
    exact .tup _ vs (by omega) fun j hj => ih j hj (by omega) (h2 j (by omega))
  | fn f cs ds hl _ ih =>
    obtain ⟨vs, rfl, h1, h2⟩ := hv.fn_inv
    exact .fn _ _ vs (by omega) fun j hj => ih j hj (by omega) (h2 j (by omega))
theorem Rn.ids {S : Nat → Prop} {d' d : DV} (h : Rn r γ q d' d) (hS : ∀ j, j < q → S (r j)) : Ids S d' := by
  induction h with
  | flat d hd => exact hd.mono' fun _ h => h.elim
  | ptr j g i f hj => exact .ptr _ _ _ _ (hS j hj)
  | own j g lo n hj => exact .own _ _ _ _ (hS j hj)
  | agg cs ds hl _ ih =>
    refine .agg _ fun c hc => ?_
    obtain ⟨j, hj, rfl⟩ := List.mem_iff_getElem.1 hc
    exact ih j hj (by omega)
  | tup cs ds hl _ ih =>
    refine .tup _ fun c hc => ?_
    obtain ⟨j, hj, rfl⟩ := List.mem_iff_getElem.1 hc
    exact ih j hj (by omega)
  | fn f cs ds hl _ ih =>
    refine .fn _ _ fun c hc => ?_
    obtain ⟨j, hj, rfl⟩ := List.mem_iff_getElem.1 hc
    exact ih j hj (by omega)
end rn
structure CkM (r γ : Nat → Nat) (q g : Nat) (c' c : Ck) : Prop where
  g : c'.gen = c.gen + g
  s : c.sz = c'.sz
  l : c.xs.length = c'.xs.length
  r : ∀ i (h1 : i < c.xs.length) (h2 : i < c'.xs.length), c.xs[i].length = c'.xs[i].length ∧ ∀ j (h3 : j < c.xs[i].length) (h4 : j < c'.xs[i].length), ∃ e, WkD c'.xs[i][j] e ∧ Rn r γ q e c.xs[i][j]
structure Moved (r γ : Nat → Nat) (q : Nat) (c' c : Cks) : Prop where
  to : ∀ j ck, ofL c j = some ck → j < q ∧ ∃ ck', ofL c' (r j) = some ck' ∧ CkM r γ q (γ j) ck' ck
  of : ∀ o ck', ofL c' o = some ck' → ∃ j ck, j < q ∧ o = r j ∧ ofL c j = some ck
structure CkE (r γ : Nat → Nat) (q g : Nat) (c' c : Ck) : Prop where
  g : c'.gen = c.gen + g
  s : c.sz = c'.sz
  l : c.xs.length = c'.xs.length
  r : ∀ i (h1 : i < c.xs.length) (h2 : i < c'.xs.length), c.xs[i].length = c'.xs[i].length ∧ ∀ j (h3 : j < c.xs[i].length) (h4 : j < c'.xs[i].length), Rn r γ q c'.xs[i][j] c.xs[i][j]
theorem CkE.m {r γ : Nat → Nat} {q g : Nat} {c' c : Ck} (h : CkE r γ q g c' c) : CkM r γ q g c' c := ⟨h.g, h.s, h.l, fun i h1 h2 => ⟨(h.r i h1 h2).1, fun j h3 h4 => ⟨_, .refl _, (h.r i h1 h2).2 j h3 h4⟩⟩⟩
theorem CallOK.rename {P : Program} {f : FuncId} {args args' : List DV} {pre pre' : Cks} {p q nb : Nat} {res res' : DV} {post post' : Cks} {r γ : Nat → Nat} (h : CallOK P f args pre p res post q)
    (hinj : ∀ i j, i < q → j < q → r i = r j → i = j) (hold : ∀ j, j < p → r j < nb) (hnew : ∀ j, p ≤ j → j < q → nb ≤ r j ∧ r j < nb + (q - p))
    (hpre : Moved r γ p pre' pre) (hpost : ∀ o ck', ofL post' o = some ck' → ∃ j ck, j < q ∧ o = r j ∧ ofL post j = some ck ∧ CkE r γ q (γ j) ck' ck) (hto : ∀ j ck, ofL post j = some ck → j < q ∧ ∃ ck', ofL post' (r j) = some ck')
    (ha : Both (Rn r γ p) args' args) (hr : Rn r γ q res' res) (hkept : ∀ j, j < q → ∃ ck, ofL post j = some ck) :
    CallOK P f args' pre' nb res' post' (nb + (q - p)) := by
  have hpq := h.le
  have hpost_at : ∀ j ck, ofL post j = some ck → ∃ ck', ofL post' (r j) = some ck' ∧ CkE r γ q (γ j) ck' ck := fun j ck hj => by
    obtain ⟨hjq, ck', h1⟩ := hto j ck hj
    obtain ⟨i, c0, hi, e, hc0, hE⟩ := hpost _ ck' h1
    have := hinj j i hjq hi e
    subst this
    rw [hj] at hc0; injection hc0 with hc0; subst hc0
    exact ⟨ck', h1, hE⟩
  have named : ∀ j, j < q → (∃ ck, ofL post' (r j) = some ck) := fun j hj => by
    obtain ⟨ck, hk⟩ := hkept j hj
    obtain ⟨ck', h1, _⟩ := hpost_at j ck hk
    exact ⟨ck', h1⟩
  refine ⟨h.fn, fun o ck ho => ?_, fun o ck' ho hlt => ?_, Nat.le_add_right .., ?_, fun o ck ho x hx c hc => ?_, fun M ps w cargs hR hsz hva hgl => ?_⟩
  · obtain ⟨j, c, hj, rfl, hc⟩ := hpre.of o ck ho
    exact named j (by omega)
  · obtain ⟨j, c, hj, rfl, hc, _⟩ := hpost o ck' ho
    have hjp : j < p := by
      rcases Nat.lt_or_ge j p with h1 | h1
      · exact h1
      · have := (hnew j h1 hj).1; omega
    obtain ⟨c0, hc0⟩ := h.old j c hc hjp
    obtain ⟨_, c1, h1, _⟩ := hpre.to j c0 hc0
    exact ⟨c1, h1⟩
  · exact hr.ids fun j hj => .inl (named j hj)
  · obtain ⟨j, c0, hj, rfl, hc0, hE⟩ := hpost o ck ho
    obtain ⟨i, hi, rfl⟩ := List.mem_iff_getElem.1 hx
    obtain ⟨k, hk, rfl⟩ := List.mem_iff_getElem.1 hc
    have q1 := hE.r i (by rw [hE.l]; exact hi) hi
    exact (q1.2 k (by rw [q1.1]; exact hk) hk).ids fun j hj => .inl (named j hj)
  · let ps1 : Ps := fun j => ps (r j)
    have live1 : ∀ b, Live (ofL pre) ps1 b → Live (ofL pre') ps b := by
      rintro b ⟨j, ck, p1, h1, h2, h3⟩
      obtain ⟨_, ck', h4, _⟩ := hpre.to j ck h1
      exact ⟨r j, ck', p1, h4, h2, h3⟩
    have live2 : ∀ b, Live (ofL pre') ps b → Live (ofL pre) ps1 b := by
      rintro b ⟨o, ck', p1, h1, h2, h3⟩
      obtain ⟨j, ck, hj, rfl, h4⟩ := hpre.of o ck' h1
      exact ⟨j, ck, p1, h4, h2, h3⟩
    have mu1 : ∀ b, Mu (ofL pre) ps1 M b → Mu (ofL pre') ps M b := fun b hb => hb.elim .inl fun h => .inr (live1 b h)
    have dn : ∀ i ck, i < p → ofL pre i = some ck → ∃ c2, ofL pre' (r i) = some c2 ∧ c2.gen = ck.gen + γ i ∧ ck.sz = c2.sz ∧ ck.xs.length = c2.xs.length ∧ ps1 i = ps (r i) := fun i ck hi hk => by
      obtain ⟨_, c2, k1, k2⟩ := hpre.to i ck hk
      exact ⟨c2, k1, k2.g, k2.s, k2.l, rfl⟩
    have hR1 : HR (ofL pre) ps1 M p w := by
      refine ⟨fun j ck hj => (hpre.to j ck hj).1, fun j ck hj => ?_, fun i j ci cj pi pj h1 h2 h3 h4 h5 => ?_, hR.ml, fun j ck p1 h1 h2 => ?_⟩
      · obtain ⟨_, ck', h1, h2⟩ := hpre.to j ck hj
        rcases hR.cr _ ck' h1 with ⟨g1, g2⟩ | ⟨p1, c, E, vs, g1, g2, g3, g4, g5, g6, g7⟩
        · exact .inl ⟨g1, List.eq_nil_of_length_eq_zero (by rw [h2.l, g2]; rfl)⟩
        · refine .inr ⟨p1, c, E, vs, g1, g2, g3, fun i hi => ?_, by rw [h2.l, h2.s]; exact g5, fun i j hi hj => by rw [h2.s] at hj ⊢; exact g6 i j (by rw [← h2.l]; exact hi) hj, fun i k hi hk => ?_⟩
          · rw [(h2.r i hi (by rw [← h2.l]; exact hi)).1, h2.s]; exact g4 i _
          · have q3 := h2.r i hi (by rw [← h2.l]; exact hi)
            obtain ⟨e, w1, w2⟩ := q3.2 k hk (by rw [← q3.1]; exact hk)
            exact w2.down mu1 dn (Nat.le_refl _) (w1 _ _ _ _ _ _ (g7 i k _ _))
      · obtain ⟨hi, c1, k1, _⟩ := hpre.to i ci h1
        obtain ⟨hj, c2, k2, _⟩ := hpre.to j cj h2
        exact hinj i j (by omega) (by omega) (hR.inj _ _ c1 c2 pi pj k1 k2 h3 h4 h5)
      · obtain ⟨_, c1, k1, _⟩ := hpre.to j ck h1
        exact hR.dj _ c1 p1 k1 h2
    have hva1 : ∀ j (hj : j < args.length), VR (ofL pre) ps1 M p w args[j] (cargs.getD j undef) := fun j hj => by
      have hj' : j < args'.length := by rw [ha.1]; exact hj
      exact (ha.2 j hj' hj).down mu1 dn (Nat.le_refl _) (hva j hj')
    refine (h.run M ps1 w cargs hR1 (by rw [hsz, ha.1]) hva1 (hgl.less live1)).mono ?_
    rintro e w' ⟨v, ps1', rfl, g1, g2, g3, g4, g5⟩
    classical
    let ps2 : Ps := fun o => if hh : ∃ j, j < q ∧ r j = o then ps1' (Classical.choose hh) else ps o
    have ps2_at : ∀ j, j < q → ps2 (r j) = ps1' j := fun j hj => by
      have hh : ∃ i, i < q ∧ r i = r j := ⟨j, hj, rfl⟩
      have : Classical.choose hh = j := hinj _ _ (Classical.choose_spec hh).1 hj (Classical.choose_spec hh).2
      simp only [ps2, dif_pos hh, this]
    have rlt : ∀ j, j < q → r j < nb + (q - p) := fun j hj => by
      rcases Nat.lt_or_ge j p with h1 | h1
      · have := hold j h1; omega
      · exact (hnew j h1 hj).2
    have live3 : ∀ b, Live (ofL post') ps2 b → Live (ofL post) ps1' b := by
      rintro b ⟨o, ck', p1, h1, h2, h3⟩
      obtain ⟨j, ck, hj, rfl, h4, _⟩ := hpost o ck' h1
      rw [ps2_at j hj] at h2
      exact ⟨j, ck, p1, h4, h2, h3⟩
    have mu2 : ∀ b, Mu (ofL post') ps2 M b → Mu (ofL post) ps1' M b := fun b hb => hb.elim .inl fun h => .inr (live3 b h)
    have up : ∀ j ck, j < q → ofL post' (r j) = some ck → ∃ c1, ofL post j = some c1 ∧ ck.gen = c1.gen + γ j ∧ ck.sz = c1.sz ∧ ck.xs.length = c1.xs.length ∧ ps1' j = ps2 (r j) := fun j ck hj hk => by
      obtain ⟨i, c0, hi, e, hc0, hE⟩ := hpost _ ck hk
      have := hinj j i hj hi e
      subst this
      exact ⟨c0, hc0, hE.g, hE.s.symm, hE.l.symm, (ps2_at j hj).symm⟩
    refine ⟨v, ps2, rfl, hr.up mu2 up rlt g1, ⟨fun o ck' ho => ?_, fun o ck' ho => ?_, fun o o' c c' p1 p1' h1 h2 h3 h4 h5 => ?_, g2.ml, fun o ck' p1 h1 h2 => ?_⟩, ⟨g3.os, g3.tape, g3.output, g3.size, fun b hb hl => g3.block b hb fun hl' => hl (live1 b hl')⟩, fun o ck' p1 h1 h2 => ?_, fun o ho ck' hk => ?_⟩
    · obtain ⟨j, ck, hj, rfl, _⟩ := hpost o ck' ho
      exact rlt j hj
    · obtain ⟨j, ck, hj, rfl, h4, hE⟩ := hpost o ck' ho
      rcases g2.cr j ck h4 with ⟨a1, a2⟩ | ⟨p1, c, E, vs, a1, a2, a3, a4, a5, a6, a7⟩
      · exact .inl ⟨by rw [ps2_at j hj]; exact a1, List.eq_nil_of_length_eq_zero (by rw [← hE.l, a2]; rfl)⟩
      · refine .inr ⟨p1, c, E, vs, by rw [ps2_at j hj]; exact a1, a2, a3, fun i hi => ?_, by rw [← hE.l, ← hE.s]; exact a5, fun i k hi hk => by rw [← hE.s] at hk ⊢; exact a6 i k (by rw [hE.l]; exact hi) hk, fun i k hi hk => ?_⟩
        · rw [← (hE.r i (by rw [hE.l]; exact hi) hi).1, ← hE.s]; exact a4 i _
        · have q3 := hE.r i (by rw [hE.l]; exact hi) hi
          exact (q3.2 k (by rw [q3.1]; exact hk) hk).up mu2 up rlt (a7 i k _ _)
    · obtain ⟨i, ci, hi, rfl, k1, _⟩ := hpost o c h1
      obtain ⟨j, cj, hj, rfl, k2, _⟩ := hpost o' c' h2
      rw [ps2_at i hi] at h3
      rw [ps2_at j hj] at h4
      rw [g2.inj i j ci cj p1 p1' k1 k2 h3 h4 h5]
    · obtain ⟨j, ck, hj, rfl, k1, _⟩ := hpost o ck' h1
      rw [ps2_at j hj] at h2
      exact g2.dj j ck p1 k1 h2
    · obtain ⟨j, ck, hj, rfl, k1, _⟩ := hpost o ck' h1
      rw [ps2_at j hj] at h2
      rcases g4 j ck p1 k1 h2 with k | k
      · exact .inl (live1 _ k)
      · exact .inr k
    · obtain ⟨j, ck, hj, rfl, k1, hE⟩ := hpost o ck' hk
      have hjp : j < p := by
        rcases Nat.lt_or_ge j p with h1 | h1
        · exact h1
        · have := (hnew j h1 hj).1; omega
      obtain ⟨c0, q1, q2⟩ := g5 j hjp ck k1
      obtain ⟨_, c1, q3, q4⟩ := hpre.to j c0 q1
      refine ⟨c1, q3, ?_⟩
      rcases q2 with q2 | ⟨q2, q5, q6, q7⟩
      · exact .inl (by rw [q4.g, hE.g]; omega)
      · exact .inr ⟨by rw [q4.g, hE.g, q2], by rw [← q4.s, ← hE.s]; exact q5, by rw [← q4.l, ← hE.l]; exact q6, by rw [ps2_at j hj, q7]⟩
end Go.Pv
