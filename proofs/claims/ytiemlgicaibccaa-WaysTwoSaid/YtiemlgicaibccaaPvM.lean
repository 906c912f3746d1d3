/- Regions that draw their order: any order that the edges allow does what the text's order does. No condition of its own: over any program. -/
import Derived.Test.YtiemlgicaibccaaPvL
set_option linter.all false
namespace Go.Pv
open Go.RowKit
def RI.rs (i : RI) : List Nat := (match i.gd with | some (t, _) => [t] | none => []) ++ i.op.rs
theorem Exec.congr {P op p s s2 e} (h : Exec P op p s e) (hT : ∀ t ∈ op.rs, s2.T t = s.T t) (hH : ∀ o ∈ e.rd, s2.H o = s.H o) (hn' : s2.nx = s.nx) : Exec P op p s2 e := by
 have hn := hn'
 rcases h with ⟨u, hev, hpost, hnx, hrd⟩ | ⟨f, xs, fn, caps, rfl, hf, pre, hcall, hpre, hrd⟩ | ⟨z, o, sz, rfl, hz, rfl⟩ | ⟨sz, by', a, x, o, ck, d, u, rfl, hn, hz, hxs, he, rfl⟩ | ⟨sz, by', a, x, o, ck, rfl, hev, hz, rfl⟩ | ⟨sz, by', z, l, c, o, sz0, d, ck, rfl, hev, hz, rfl⟩
 ·refine .inl ⟨u, ?_, by rw [hn]; exact hpost, by rw [hn]; exact hnx, by rw [hrd, rds_congr hT]⟩
  rw [hn, ev_congr hT (fun o ho => hH o (by rw [hrd]; exact ho))]; exact hev
 ·simp only [ROp.rs, List.mem_append, List.mem_flatMap] at hT
  refine .inr (.inl ⟨f, xs, fn, caps, rfl, by rw [RO.get_congr fun t ht => hT t (.inl ht)]; exact hf, pre, ?_, fun o ck ho => by rw [hH o (hrd o ck ho)]; exact hpre o ck ho, hrd⟩)
  have : xs.map (fun x : RO => un p (x.get s2.T)) = xs.map (fun x : RO => un p (x.get s.T)) := List.map_congr_left fun x hx => by rw [RO.get_congr fun t ht => hT t (.inr ⟨x, hx, ht⟩)]
  rw [this, hn]; exact hcall
 ·exact .inr (.inr (.inl ⟨z, o, sz, rfl, by rw [hH o (by simp)]; exact hz, by rw [hn]⟩))
 ·simp only [ROp.rs, List.mem_append] at hT
  have e1 := RO.get_congr (x := a) fun t ht => hT t (.inl ht)
  have e2 := RO.get_congr (x := x) fun t ht => hT t (.inr ht)
  have e3 := hH o (by simp)
  refine .inr (.inr (.inr (.inl ⟨sz, by', a, x, o, ck, d, u, rfl, by rw [e1]; exact hn, by rw [e3]; exact hz, hxs, ?_, by rw [e2, hn']⟩)))
  rw [e2, appV_congr (H := s.H) (H' := s2.H) (fun q hq => ?_) (fun q hq => hH q (by simp [hq]))]
  ·exact he
  ·simp only [DV.ids, List.mem_singleton] at hq; rw [hq]; exact e3
 ·refine .inr (.inr (.inr (.inr (.inl ⟨sz, by', a, x, o, ck, rfl, ?_, hz, by rw [hn', rds_congr hT]⟩))))
  rw [hn', ev_congr hT hH]; exact hev
 ·refine .inr (.inr (.inr (.inr (.inr ⟨sz, by', z, l, c, o, sz0, d, ck, rfl, ?_, by rw [hH o (by simp)]; exact hz, by rw [hn']⟩))))
  rw [hn', ev_congr hT (fun o ho => by simp [rds] at ho)]; exact hev
theorem Stp.congr {P i s s2 e} (h : Stp P i s e) (hT : ∀ t ∈ i.rs, s2.T t = s.T t) (hH : ∀ o ∈ e.rd, s2.H o = s.H o) (hn : s2.nx = s.nx) : Stp P i s2 e := by
 unfold Stp at h ⊢
 unfold RI.rs at hT
 cases hg : i.gd with
 | none =>
  rw [hg] at h
  exact h.congr (fun t ht => hT t (List.mem_append_right _ ht)) hH hn
 | some g =>
  obtain ⟨t, wn⟩ := g
  rw [hg] at h hT
  simp only at h hT ⊢
  obtain ⟨p, hgv, h⟩ := h
  refine ⟨p, by rw [hT t (by simp)]; exact hgv, ?_⟩
  rcases h with ⟨hp, h⟩ | ⟨hp, he⟩ | ⟨ht, d, hev, he⟩ | ⟨f, xs, fn, caps, d, hop, hf, hcall, he⟩
  ·exact .inl ⟨hp, h.congr (fun t ht => hT t (List.mem_append_right _ ht)) hH hn⟩
  ·exact .inr (.inl ⟨hp, by rw [hn]; exact he⟩)
  ·have hT' : ∀ t ∈ i.op.rs, s2.T t = s.T t := fun t ht => hT t (List.mem_append_right _ ht)
   refine .inr (.inr (.inl ⟨ht, d, ?_, by rw [hn, rds_congr hT']; exact he⟩))
   rw [hn, ev_congr hT' (fun o ho => hH o (by rw [he]; exact ho))]; exact hev
  ·have hT' : ∀ t ∈ i.op.rs, s2.T t = s.T t := fun t ht => hT t (List.mem_append_right _ ht)
   rw [hop] at hT'
   simp only [ROp.rs, List.mem_append, List.mem_flatMap] at hT'
   refine .inr (.inr (.inr ⟨f, xs, fn, caps, d, hop, by rw [RO.get_congr fun t ht => hT' t (.inl ht)]; exact hf, ?_, by rw [hn]; exact he⟩))
   have : xs.map (fun x : RO => un p (x.get s2.T)) = xs.map (fun x : RO => un p (x.get s.T)) := List.map_congr_left fun x hx => by rw [RO.get_congr fun t ht => hT' t (.inr ⟨x, hx, ht⟩)]
   rw [this, hn]; exact hcall
def apT (i j : RI) : Bool :=
 (match i.dst with | some d => !j.rs.contains d && !(j.dst == some d) | none => true) && (match j.dst with | some d => !i.rs.contains d | none => true)
theorem apT_spec {i j : RI} (h : apT i j = true) : (∀ d, i.dst = some d → d ∉ j.rs ∧ j.dst ≠ some d) ∧ (∀ d, j.dst = some d → d ∉ i.rs) := by
 unfold apT at h
 rw [Bool.and_eq_true] at h
 refine ⟨fun d hd => ?_, fun d hd => ?_⟩
 ·have := h.1; rw [hd] at this; simpa using this
 ·have := h.2; rw [hd] at this; simpa using this
def dis (e f : Rc) : Prop := (∀ o, o ∈ e.post.map (·.1) → o ∉ f.rd ∧ o ∉ f.post.map (·.1)) ∧ (∀ o, o ∈ f.post.map (·.1) → o ∉ e.rd)
theorem puts_out {H : Hp} {l : Cks} {o : Nat} (h : o ∉ l.map (·.1)) : puts H l o = H o := by
 rcases puts_one l o with ⟨ck, hm, _⟩ | h'
 ·exact absurd (List.mem_map.2 ⟨(o, ck), hm, rfl⟩) h
 ·exact h' H
theorem puts_in {H H' : Hp} {l : Cks} {o : Nat} (h : o ∈ l.map (·.1)) : puts H l o = puts H' l o := by
 rcases puts_one l o with ⟨ck, hm, h'⟩ | h'
 ·rw [h' H, h' H']
 ·exfalso
  have h1 : ∀ (l : Cks) (H : Hp), o ∈ l.map (·.1) → ∃ ck, puts H l o = some ck := by
   intro l
   induction l with
   | nil => intro H h; simp at h
   | cons x l ih =>
    intro H h
    rw [puts_cons]
    by_cases hl : o ∈ l.map (·.1)
    ·exact ih _ hl
    ·have : o = x.1 := by simpa [hl] using h
     rw [puts_out hl, this, Hp.put_same]; exact ⟨_, rfl⟩
  obtain ⟨ck, hk⟩ := h1 l Hp.emp h
  rw [h' Hp.emp] at hk; cases hk
theorem puts_comm {H : Hp} {l m : Cks} (h : ∀ o, o ∈ l.map (·.1) → o ∉ m.map (·.1)) : puts (puts H l) m = puts (puts H m) l := by
 funext o
 by_cases h1 : o ∈ l.map (·.1)
 ·rw [puts_out (h o h1), puts_in (H' := H) h1]
  exact puts_in h1
 ·rw [puts_out h1]
  by_cases h2 : o ∈ m.map (·.1)
  ·exact puts_in h2
  ·rw [puts_out h2, puts_out h2, puts_out h1]
theorem putT_comm {T : Nat → DV} {x y : Option Nat} {v u : DV} (h : ∀ d, x = some d → y ≠ some d) : putT (putT T x v) y u = putT (putT T y u) x v := by
 cases x with
 | none => rfl
 | some d =>
  cases y with
  | none => rfl
  | some e =>
   have hne : d ≠ e := fun he => h d rfl (he ▸ rfl)
   funext t
   simp only [putT, upd]
   by_cases h1 : t = e <;> by_cases h2 : t = d <;> simp_all
section sched
variable (P : Program) (ris : List RI) (effs : Nat → Rc) (s0 : St)
def stL (L : Nat → Bool) : Nat → St
 | 0 => s0
 | k + 1 => if L k = true then (stL L k).app ((ris[k]?).bind (·.dst)) (effs k) else stL L k
def allL : Nat → Bool := fun _ => true
structure Sch (n : Nat) (ord : Nat → Nat → Bool) : Prop where
 len : ris.length = n
 stp : ∀ k (hk : k < n), Stp P (ris[k]'(len ▸ hk)) (stL ris effs s0 allL k) (effs k)
 nx : ∀ k, k < n → (effs k).nx = s0.nx
 lt : ∀ i j, ord i j = true → i < j
 ap : ∀ i j (hi : i < n) (hj : j < n), i < j → ord i j = false → apT (ris[i]'(len ▸ hi)) (ris[j]'(len ▸ hj)) = true
 ds : ∀ i j, i < n → j < n → i < j → ord i j = false → dis (effs i) (effs j)
variable {P ris effs s0}
theorem stL_nx {n ord} (h : Sch P ris effs s0 n ord) (L : Nat → Bool) : ∀ k, k ≤ n → (stL ris effs s0 L k).nx = s0.nx
 | 0, _ => rfl
 | k + 1, hk => by
  unfold stL; split
  ·exact h.nx k (by omega)
  ·exact stL_nx h L k (by omega)
theorem Sch.reads {n ord} (h : Sch P ris effs s0 n ord) {L : Nat → Bool} (hL : ∀ i j, ord i j = true → L j = true → L i = true) {i : Nat} (hi : i < n) (hni : L i = false)
  (hpre : ∀ k, ord k i = true → L k = true) : (∀ t ∈ (ris[i]'(h.len ▸ hi)).rs, (stL ris effs s0 L n).T t = (stL ris effs s0 allL i).T t) ∧ (∀ o ∈ (effs i).rd, (stL ris effs s0 L n).H o = (stL ris effs s0 allL i).H o) := by
 have gd : ∀ k (hk : k < n), (ris[k]?).bind (·.dst) = (ris[k]'(h.len ▸ hk)).dst := by
  intro k hk; rw [List.getElem?_eq_getElem (h.len ▸ hk)]; rfl
 have quiet : ∀ k (hk : k < n), k ≠ i → ord k i = false → ord i k = false → (∀ t ∈ (ris[i]'(h.len ▸ hi)).rs, ∀ T : Nat → DV, ∀ d, putT T (ris[k]'(h.len ▸ hk)).dst d t = T t) ∧ (∀ o ∈ (effs i).rd, ∀ H, puts H (effs k).post o = H o) := by
  intro k hk hne h1 h2
  rcases Nat.lt_or_ge k i with hlt | hge
  ·have a := apT_spec (h.ap k i hk hi hlt h1)
   have d := h.ds k i hk hi hlt h1
   refine ⟨fun t ht T dv => ?_, fun o ho H => puts_out fun hm => (d.1 o hm).1 ho⟩
   cases hd : (ris[k]'(h.len ▸ hk)).dst with
   | none => rfl
   | some e => simp only [putT]; exact upd_ne _ _ _ _ fun e' => (a.1 e hd).1 (e' ▸ ht)
  ·have hlt : i < k := by omega
   have a := apT_spec (h.ap i k hi hk hlt h2)
   have d := h.ds i k hi hk hlt h2
   refine ⟨fun t ht T dv => ?_, fun o ho H => puts_out fun hm => d.2 o hm ho⟩
   cases hd : (ris[k]'(h.len ▸ hk)).dst with
   | none => rfl
   | some e => simp only [putT]; exact upd_ne _ _ _ _ fun e' => a.2 e hd (e' ▸ ht)
 have up : ∀ k, k ≤ i → (∀ t ∈ (ris[i]'(h.len ▸ hi)).rs, (stL ris effs s0 L k).T t = (stL ris effs s0 allL k).T t) ∧ (∀ o ∈ (effs i).rd, (stL ris effs s0 L k).H o = (stL ris effs s0 allL k).H o) := by
  intro k
  induction k with
  | zero => intro _; exact ⟨fun _ _ => rfl, fun _ _ => rfl⟩
  | succ k ih =>
   intro hk
   obtain ⟨i1, i2⟩ := ih (by omega)
   have hkn : k < n := by omega
   simp only [stL, allL, if_true]
   by_cases hLk : L k = true
   ·rw [if_pos hLk]
    refine ⟨fun t ht => ?_, fun o ho => ?_⟩
    ·simp only [St.app, gd k hkn]
     cases hd : (ris[k]'(h.len ▸ hkn)).dst with
     | none => exact i1 t ht
     | some e =>
      simp only [putT]
      by_cases he : t = e
      ·subst he; rw [upd_same, upd_same]
      ·rw [upd_ne _ _ _ _ he, upd_ne _ _ _ _ he]; exact i1 t ht
    ·simp only [St.app]
     by_cases hm : o ∈ (effs k).post.map (·.1)
     ·exact puts_in hm
     ·rw [puts_out hm, puts_out hm]; exact i2 o ho
   ·rw [if_neg hLk]
    have h1 : ord k i = false := by
     cases hq : ord k i with
     | false => rfl
     | true => exact absurd (hpre k hq) hLk
    have h2 : ord i k = false := by
     cases hq : ord i k with
     | false => rfl
     | true => have := h.lt i k hq; omega
    obtain ⟨q1, q2⟩ := quiet k hkn (by omega) h1 h2
    refine ⟨fun t ht => ?_, fun o ho => ?_⟩
    ·simp only [St.app, gd k hkn]; rw [q1 t ht]; exact i1 t ht
    ·simp only [St.app]; rw [q2 o ho]; exact i2 o ho
 have down : ∀ m, i + m ≤ n → (∀ t ∈ (ris[i]'(h.len ▸ hi)).rs, (stL ris effs s0 L (i + m)).T t = (stL ris effs s0 L i).T t) ∧ (∀ o ∈ (effs i).rd, (stL ris effs s0 L (i + m)).H o = (stL ris effs s0 L i).H o) := by
  intro m
  induction m with
  | zero => intro _; exact ⟨fun _ _ => rfl, fun _ _ => rfl⟩
  | succ m ih =>
   intro hm
   obtain ⟨i1, i2⟩ := ih (by omega)
   have hkn : i + m < n := by omega
   rw [show i + (m + 1) = (i + m) + 1 by omega]
   simp only [stL]
   by_cases hLk : L (i + m) = true
   ·rw [if_pos hLk]
    have hne : i + m ≠ i := by intro e; rw [e, hni] at hLk; cases hLk
    have h1 : ord (i + m) i = false := by
     cases hq : ord (i + m) i with
     | false => rfl
     | true => have := h.lt _ _ hq; omega
    have h2 : ord i (i + m) = false := by
     cases hq : ord i (i + m) with
     | false => rfl
     | true => have := hL _ _ hq hLk; rw [hni] at this; cases this
    obtain ⟨q1, q2⟩ := quiet (i + m) hkn hne h1 h2
    refine ⟨fun t ht => ?_, fun o ho => ?_⟩
    ·simp only [St.app, gd _ hkn]; rw [q1 t ht]; exact i1 t ht
    ·simp only [St.app]; rw [q2 o ho]; exact i2 o ho
   ·rw [if_neg hLk]; exact ⟨i1, i2⟩
 obtain ⟨u1, u2⟩ := up i (Nat.le_refl _)
 obtain ⟨d1, d2⟩ := down (n - i) (by omega)
 rw [show i + (n - i) = n by omega] at d1 d2
 exact ⟨fun t ht => (d1 t ht).trans (u1 t ht), fun o ho => (d2 o ho).trans (u2 o ho)⟩
theorem Sch.stp_at {n ord} (h : Sch P ris effs s0 n ord) {L : Nat → Bool} (hL : ∀ i j, ord i j = true → L j = true → L i = true) {i : Nat} (hi : i < n) (hni : L i = false)
  (hpre : ∀ k, ord k i = true → L k = true) : Stp P (ris[i]'(h.len ▸ hi)) (stL ris effs s0 L n) (effs i) := by
 obtain ⟨h1, h2⟩ := h.reads hL hi hni hpre
 exact (h.stp i hi).congr h1 h2 (by rw [stL_nx h L n (Nat.le_refl _), stL_nx h allL i (by omega)])
theorem Sch.add {n ord} (h : Sch P ris effs s0 n ord) {L : Nat → Bool} (hL : ∀ i j, ord i j = true → L j = true → L i = true) {i : Nat} (hi : i < n) (hni : L i = false) :
  stL ris effs s0 (fun k => L k || decide (k = i)) n = (stL ris effs s0 L n).app ((ris[i]'(h.len ▸ hi)).dst) (effs i) := by
 have gd : ∀ k (hk : k < n), (ris[k]?).bind (·.dst) = (ris[k]'(h.len ▸ hk)).dst := by
  intro k hk; rw [List.getElem?_eq_getElem (h.len ▸ hk)]; rfl
 have low : ∀ k, k ≤ i → stL ris effs s0 (fun k => L k || decide (k = i)) k = stL ris effs s0 L k := by
  intro k
  induction k with
  | zero => intro _; rfl
  | succ k ih =>
   intro hk
   have : decide (k = i) = false := by simp; omega
   simp only [stL, this, Bool.or_false, ih (by omega)]
 have high : ∀ m, i + 1 + m ≤ n → stL ris effs s0 (fun k => L k || decide (k = i)) (i + 1 + m) = (stL ris effs s0 L (i + 1 + m)).app ((ris[i]'(h.len ▸ hi)).dst) (effs i) := by
  intro m
  induction m with
  | zero =>
   intro _
   simp only [Nat.add_zero, stL, hni, decide_true, Bool.or_true, if_true, Bool.false_eq_true, if_false, low i (Nat.le_refl _), gd i hi]
  | succ m ih =>
   intro hm
   have hkn : i + 1 + m < n := by omega
   have hd : decide (i + 1 + m = i) = false := by simp; omega
   rw [show i + 1 + (m + 1) = (i + 1 + m) + 1 by omega]
   simp only [stL, hd, Bool.or_false, ih (by omega)]
   by_cases hLk : L (i + 1 + m) = true
   ·rw [if_pos hLk, if_pos hLk]
    have h2 : ord i (i + 1 + m) = false := by
     cases hq : ord i (i + 1 + m) with
     | false => rfl
     | true => have := hL _ _ hq hLk; rw [hni] at this; cases this
    have a := apT_spec (h.ap i _ hi hkn (by omega) h2)
    have d := h.ds i _ hi hkn (by omega) h2
    simp only [St.app, gd _ hkn, h.nx i hi, h.nx _ hkn]
    rw [putT_comm fun e he => (a.1 e he).2, puts_comm fun o ho => (d.1 o ho).2]
   ·rw [if_neg hLk, if_neg hLk]
 have := high (n - (i + 1)) (by omega)
 rwa [show i + 1 + (n - (i + 1)) = n by omega] at this
end sched
end Go.Pv
