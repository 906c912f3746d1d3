/- Regions: from a walk in the text's order to the model's region, drawn or not. No condition of its own: over any program. -/
import Derived.Test.YtiemlgicaibccaaPvM
set_option linter.all false
namespace Go.Pv
open Go.RowKit
def depOf (o : Oper) : List Nat := o.after.toList.filterMap fun e => if Region.binds .any e = true then some e.on else none
def maskOf (acc : List Nat) (l : List Nat) : Nat := l.foldl (fun s e => s ||| 2 ^ e ||| acc.getD e 0) 0
def befS : List Nat → List Oper → List Nat
 | acc, [] => acc
 | acc, o :: r => befS (acc ++ [maskOf acc (depOf o)]) r
def ordB (bef : List Nat) (i j : Nat) : Bool := (bef.getD j 0).testBit i
theorem mask_bit (acc : List Nat) (i : Nat) : ∀ (l : List Nat) (s : Nat), (l.foldl (fun s e => s ||| 2 ^ e ||| acc.getD e 0) s).testBit i = true → s.testBit i = true ∨ ∃ e ∈ l, e = i ∨ (acc.getD e 0).testBit i = true
 | [], s, h => .inl h
 | e :: l, s, h => by
  simp only [List.foldl_cons] at h
  rcases mask_bit acc i l _ h with h | ⟨e', he, h⟩
  ·simp only [Nat.testBit_or, Bool.or_eq_true, Nat.testBit_two_pow, decide_eq_true_eq] at h
   rcases h with (h | h) | h
   ·exact .inl h
   ·exact .inr ⟨e, by simp, .inl h⟩
   ·exact .inr ⟨e, by simp, .inr h⟩
  ·exact .inr ⟨e', List.mem_cons_of_mem _ he, h⟩
theorem befS_len : ∀ (ops : List Oper) (acc : List Nat), (befS acc ops).length = acc.length + ops.length
 | [], acc => rfl
 | o :: r, acc => by rw [befS, befS_len r]; simp; omega
theorem befS_pre : ∀ (ops : List Oper) (acc : List Nat) (j : Nat), j < acc.length → (befS acc ops).getD j 0 = acc.getD j 0
 | [], acc, j, _ => rfl
 | o :: r, acc, j, h => by
  rw [befS, befS_pre r _ j (by simp; omega)]
  simp [List.getD, List.getElem?_append, h]
theorem befS_step : ∀ (ops : List Oper) (acc : List Nat) (j : Nat) (hj : j < ops.length) (i : Nat), ((befS acc ops).getD (acc.length + j) 0).testBit i = true →
  ∃ e ∈ depOf ops[j], e = i ∨ (e < acc.length + j ∧ ((befS acc ops).getD e 0).testBit i = true)
 | [], acc, j, hj, _, _ => by simp at hj
 | o :: r, acc, 0, hj, i, h => by
  simp only [befS, Nat.add_zero, List.getElem_cons_zero] at h ⊢
  rw [befS_pre r _ _ (by simp)] at h
  have : (acc ++ [maskOf acc (depOf o)]).getD acc.length 0 = maskOf acc (depOf o) := by simp [List.getD]
  rw [this] at h
  rcases mask_bit acc i _ _ h with h | ⟨e, he, h⟩
  ·simp at h
  ·refine ⟨e, he, ?_⟩
   rcases h with h | h
   ·exact .inl h
   ·have hlt : e < acc.length := by
     rcases Nat.lt_or_ge e acc.length with h' | h'
     ·exact h'
     ·simp [List.getD, List.getElem?_eq_none h'] at h
    refine .inr ⟨hlt, ?_⟩
    rw [befS_pre r _ _ (by simp; omega)]
    have : (acc ++ [maskOf acc (depOf o)]).getD e 0 = acc.getD e 0 := by simp [List.getD, List.getElem?_append, hlt]
    rw [this]; exact h
 | o :: r, acc, j + 1, hj, i, h => by
  simp only [befS] at h ⊢
  have := befS_step r (acc ++ [maskOf acc (depOf o)]) j (by simpa using hj) i (by simpa [Nat.add_assoc, Nat.add_comm 1] using h)
  simpa [Nat.add_assoc, Nat.add_comm 1] using this
def wrq : ROp → Bool
 | .store .. | .app .. | .clr .. | .call .. | .box _ | .alloc _ | .mksl .. | .s2b _ => true
 | .bslice ow .. => ow
 | _ => false
def rdq : ROp → Bool
 | .alloc _ | .load .. | .store .. | .iadrS .. | .app .. | .clr .. | .nilck _ | .fadr .. | .iadrA .. | .slc .. | .len _ | .mksl .. | .call .. | .s2b _ | .b2s _ => true
 | _ => false
def clash (i j : ROp) : Bool := (wrq i && (wrq j || rdq j)) || (rdq i && wrq j)
def pairs (n : Nat) : List (Nat × Nat) := (List.range n).flatMap fun j => (List.range j).map fun i => (i, j)
theorem mem_pairs {n i j : Nat} (h : i < j) (hj : j < n) : (i, j) ∈ pairs n := by
 simp only [pairs, List.mem_flatMap, List.mem_range, List.mem_map]
 exact ⟨j, hj, i, h, rfl⟩
def riAt (ris : List RI) (k : Nat) : RI := ris.getD k ⟨none, .lenA 0, none⟩
def unOf (bef : List Nat) (ris : List RI) : List (Nat × Nat) :=
 (pairs ris.length).filter fun p => !ordB bef p.1 p.2 && clash (riAt ris p.1).op (riAt ris p.2).op
def okReg (ops : List Oper) (bef : List Nat) (ris : List RI) : Bool :=
 ops.zipIdx.all (fun p => (depOf p.1).all fun e => decide (e < p.2)) &&
 (pairs ris.length).all fun p => ordB bef p.1 p.2 || apT (riAt ris p.1) (riAt ris p.2)
theorem ev_no {op : ROp} {p : Bool} {T : Nat → DV} {H : Hp} {nx : Nat} {d : DV} {u : Up} (hw : wrq op = false) (h : ev op p T H nx = some (d, u)) : u = .no := by
 cases op <;> simp [wrq] at hw <;> simp only [ev] at h <;>
  first
   | (simp only [Option.map_eq_some_iff, Prod.mk.injEq] at h; obtain ⟨_, _, _, h⟩ := h; exact h.symm)
   | (simp only [Option.some.injEq, Prod.mk.injEq] at h; exact h.2.symm)
   | skip
 case bslice ow sz z len ps =>
  subst hw
  simp only [Option.map_eq_some_iff] at h; obtain ⟨_, _, h⟩ := h
  simp at h; exact h.2.symm
 all_goals ((repeat' split at h) <;> first | cases h; done | (simp only [Option.some.injEq, Prod.mk.injEq] at h; exact h.2.symm) | (simp only [Option.map_eq_some_iff, Prod.mk.injEq] at h; obtain ⟨_, _, _, h⟩ := h; exact h.symm))
theorem stp_post {P i s e} (hw : wrq i.op = false) (h : Stp P i s e) : e.post = [] := by
 have hx : ∀ p, Exec P i.op p s e → e.post = [] := by
  intro p hx
  rcases hx with ⟨u, hev, hpost, _, _⟩ | ⟨f, xs, fn, caps, hop, _⟩ | ⟨z, o, sz, hop, _⟩ | ⟨_, _, _, _, _, _, _, _, hop, _⟩ | ⟨_, _, _, _, _, _, hop, _⟩ | ⟨_, _, _, _, _, _, _, _, _, hop, _⟩
  ·rw [ev_no hw hev] at hpost; exact hpost
  ·rw [hop] at hw; simp [wrq] at hw
  ·rw [hop] at hw; simp [wrq] at hw
  ·rw [hop] at hw; simp [wrq] at hw
  ·rw [hop] at hw; simp [wrq] at hw
  ·rw [hop] at hw; simp [wrq] at hw
 unfold Stp at h
 split at h
 ·exact hx _ h
 ·obtain ⟨p, _, h⟩ := h
  rcases h with ⟨_, h⟩ | ⟨_, rfl⟩ | ⟨_, d, _, rfl⟩ | ⟨_, _, _, _, _, _, _, _, rfl⟩
  ·exact hx _ h
  ·rfl
  ·rfl
  ·rfl
theorem stp_rd {P i s e} (hw : rdq i.op = false) (h : Stp P i s e) : e.rd = [] := by
 have hr : ∀ p T, rds i.op p T = [] := by intro p T; cases hop : i.op <;> rw [hop] at hw <;> simp [rdq] at hw <;> rfl
 have hx : ∀ p, Exec P i.op p s e → e.rd = [] := by
  intro p hx
  rcases hx with ⟨u, hev, _, _, hrd⟩ | ⟨f, xs, fn, caps, hop, _⟩ | ⟨z, o, sz, hop, _⟩ | ⟨_, _, _, _, _, _, _, _, hop, _⟩ | ⟨_, _, _, _, _, _, hop, _⟩ | ⟨_, _, _, _, _, _, _, _, _, hop, _⟩
  ·rw [hrd, hr]
  ·rw [hop] at hw; simp [rdq] at hw
  ·rw [hop] at hw; simp [rdq] at hw
  ·rw [hop] at hw; simp [rdq] at hw
  ·rw [hop] at hw; simp [rdq] at hw
  ·rw [hop] at hw; simp [rdq] at hw
 unfold Stp at h
 split at h
 ·exact hx _ h
 ·obtain ⟨p, _, h⟩ := h
  rcases h with ⟨_, h⟩ | ⟨_, rfl⟩ | ⟨_, d, _, rfl⟩ | ⟨_, _, _, _, _, _, _, _, rfl⟩
  ·exact hx _ h
  ·rfl
  ·exact hr _ _
  ·rfl
theorem dis_of {P i j s s' e f} (h1 : Stp P i s e) (h2 : Stp P j s' f) (hc : clash i.op j.op = false) : dis e f := by
 unfold clash at hc
 rw [Bool.or_eq_false_iff, Bool.and_eq_false_iff, Bool.and_eq_false_iff, Bool.or_eq_false_iff] at hc
 obtain ⟨c1, c2⟩ := hc
 refine ⟨fun o ho => ?_, fun o ho => ?_⟩
 ·rcases c1 with c1 | ⟨c1, c3⟩
  ·rw [stp_post c1 h1] at ho; simp at ho
  ·rw [stp_rd c3 h2, stp_post c1 h2]; simp
 ·rcases c2 with c2 | c2
  ·rw [stp_rd c2 h1]; simp
  ·rw [stp_post c2 h2] at ho; simp at ho
abbrev Lg := List (List Nat × List Nat)
def CallX (P : Program) (fv : DV) (args : List DV) (H : Hp) (nx : Nat) (k : DV → Cks → Nat → List Nat → Prop) : Prop :=
 ∃ fn caps pre res post nx', fv = .fn fn caps ∧ CallOK P fn (args ++ caps) pre nx res post nx' ∧ (∀ o ck, ofL pre o = some ck → H o = some ck) ∧ k res post nx' (pre.map (·.1))
def evK (r : Option (DV × Up)) (k : DV → Up → Prop) : Prop := match r with
 | some (d, u) => k d u
 | none => False
def awpX (P : Program) (op : ROp) (p : Bool) (s : St) (k : DV → Cks → Nat → List Nat → Prop) : Prop :=
 match op with
 | .call f xs => CallX P (un p (f.get s.T)) (xs.map fun x => un p (x.get s.T)) s.H s.nx k
 | .alloc z => evK (ev (.alloc z) p s.T s.H s.nx) (fun d u => k d (u.post s.nx) (u.nx s.nx) (rds (.alloc z) p s.T)) ∨ ∃ o sz, s.H o = some ⟨0, sz, []⟩ ∧ k (.ptr o 1 0 0) [(o, ⟨1, z.length, [z]⟩)] s.nx [o]
 | .app sz by' a x => evK (ev (.app sz by' a x) p s.T s.H s.nx) (fun d u => k d (u.post s.nx) (u.nx s.nx) (rds (.app sz by' a x) p s.T)) ∨ (∃ o ck d u, un p (a.get s.T) = .lst true [] ∧ s.H o = some ck ∧ ck.xs = [] ∧ appV s.H sz by' (.own o ck.gen 0 0) (un p (x.get s.T)) = some (d, u) ∧ k d (u.post s.nx) (u.nx s.nx) (o :: (un p (x.get s.T)).ids)) ∨ ∃ o ck, ev (.app sz by' a x) p s.T s.H s.nx = some (.own o ck.gen 0 ck.xs.length, .wr o ck) ∧ 0 < ck.sz ∧ k (.lst false ck.xs) [(o, ⟨ck.gen + 1, ck.sz, []⟩)] s.nx (rds (.app sz by' a x) p s.T)
 | .mksl sz by' z l c => evK (ev (.mksl sz by' z l c) p s.T s.H s.nx) (fun d u => k d (u.post s.nx) (u.nx s.nx) (rds (.mksl sz by' z l c) p s.T)) ∨ ∃ o sz0 d ck, ev (.mksl sz by' z l c) p s.T s.H s.nx = some (d, .al ck) ∧ s.H o = some ⟨0, sz0, []⟩ ∧ k (.own o 1 0 ck.xs.length) [(o, ⟨1, ck.sz, ck.xs⟩)] s.nx [o]
 | op => evK (ev op p s.T s.H s.nx) fun d u => k d (u.post s.nx) (u.nx s.nx) (rds op p s.T)
def gvK (r : Option Bool) (k : Bool → Prop) : Prop := match r with
 | some p => k p
 | none => False
def GC (P : Program) (fv : DV) (args : List DV) (nx : Nat) (k : DV → Prop) (b : Prop) : Prop :=
 (∃ fn caps d, fv = .fn fn caps ∧ CallOK P fn (args ++ caps) [] nx d [] nx ∧ k d) ∨ b
def GX (P : Program) (p : Bool) (op : ROp) (s : St) (k : DV → Prop) (b : Prop) : Prop :=
 match op with
 | .call f xs => GC P (un p (f.get s.T)) (xs.map fun x => un p (x.get s.T)) s.nx k b
 | _ => b
def awpOps (P : Program) : List RI → Lg → St → (Lg → St → Prop) → Prop
 | [], lg, s, K => K lg s
 | i :: r, lg, s, K =>
  match i.gd with
  | none => awpX P i.op true s fun d post nx rd => awpOps P r (lg ++ [(rd, post.map (·.1))]) ⟨putT s.T i.dst d, puts s.H post, nx⟩ K
  | some (t, wn) => gvK (gv (s.T t) wn) fun p =>
   if tot i.op = true then evK (ev i.op p s.T s.H s.nx) fun d _ => awpOps P r (lg ++ [(rds i.op p s.T, [])]) ⟨putT s.T i.dst (.gd p d), s.H, s.nx⟩ K
   else GX P p i.op s (fun d => awpOps P r (lg ++ [([], [])]) ⟨putT s.T i.dst (.gd p d), s.H, s.nx⟩ K)
    ((p = true → awpX P i.op true s fun d post nx rd => awpOps P r (lg ++ [(rd, post.map (·.1))]) ⟨putT s.T i.dst d, puts s.H post, nx⟩ K) ∧
    (p = false → awpOps P r (lg ++ [([], [])]) ⟨putT s.T i.dst (.v undef), s.H, s.nx⟩ K))
theorem tot_nw {op : ROp} (h : tot op = true) : wrq op = false := by cases op <;> simp [tot] at h <;> rfl
theorem awpX_exec {P op p s k} (h : awpX P op p s k) : ∃ e : Rc, Exec P op p s e ∧ k e.res e.post e.nx e.rd := by
 have gen : ∀ op, evK (ev op p s.T s.H s.nx) (fun d u => k d (u.post s.nx) (u.nx s.nx) (rds op p s.T)) → ∃ e : Rc, Exec P op p s e ∧ k e.res e.post e.nx e.rd := by
  intro op h
  cases hev : ev op p s.T s.H s.nx with
  | none => rw [hev] at h; exact h.elim
  | some du =>
   obtain ⟨d, u⟩ := du
   rw [hev] at h
   exact ⟨⟨d, u.post s.nx, u.nx s.nx, rds op p s.T⟩, .inl ⟨u, hev, rfl, rfl, rfl⟩, h⟩
 cases op with
 | call f xs =>
  obtain ⟨fn, caps, pre, res, post, nx', h1, h2, h3, h4⟩ := h
  exact ⟨⟨res, post, nx', pre.map (·.1)⟩, .inr (.inl ⟨f, xs, fn, caps, rfl, h1, pre, h2, h3, fun o ck ho => List.mem_map.2 ⟨(o, ck), ofL_mem ho, rfl⟩⟩), h4⟩
 | alloc z =>
  rcases h with h | ⟨o, sz, h1, h2⟩
  ·exact gen (.alloc z) h
  ·exact ⟨_, .inr (.inr (.inl ⟨z, o, sz, rfl, h1, rfl⟩)), h2⟩
 | app sz by' a x =>
  rcases h with h | h | ⟨o, ck, h1, h2, h3⟩
  ·exact gen _ h
  ·obtain ⟨o, ck, d, u, h1, h2, h3, h4, h5⟩ := h
   exact ⟨_, .inr (.inr (.inr (.inl ⟨sz, by', a, x, o, ck, d, u, rfl, h1, h2, h3, h4, rfl⟩))), h5⟩
  ·exact ⟨_, .inr (.inr (.inr (.inr (.inl ⟨sz, by', a, x, o, ck, rfl, h1, h2, rfl⟩)))), h3⟩
 | mksl sz by' z l c =>
  rcases h with h | ⟨o, sz0, d, ck, h1, h2, h3⟩
  ·exact gen (.mksl sz by' z l c) h
  ·exact ⟨_, .inr (.inr (.inr (.inr (.inr ⟨sz, by', z, l, c, o, sz0, d, ck, rfl, h1, h2, rfl⟩)))), h3⟩
 | _ => exact gen _ h
theorem awp_step {P i r lg s K} (h : awpOps P (i :: r) lg s K) : ∃ e : Rc, Stp P i s e ∧ awpOps P r (lg ++ [(e.rd, e.post.map (·.1))]) (s.app i.dst e) K := by
 simp only [awpOps] at h
 unfold Stp
 cases hg : i.gd with
 | none =>
  rw [hg] at h
  obtain ⟨e, h1, h2⟩ := awpX_exec h
  exact ⟨e, h1, h2⟩
 | some g =>
  obtain ⟨t, wn⟩ := g
  rw [hg] at h
  simp only at h ⊢
  cases hgv : gv (s.T t) wn with
  | none => rw [hgv] at h; exact h.elim
  | some p =>
   rw [hgv] at h
   simp only [gvK] at h
   split at h
   ·rename_i ht
    cases hev : ev i.op p s.T s.H s.nx with
    | none => rw [hev] at h; exact h.elim
    | some du =>
     obtain ⟨d, u⟩ := du
     rw [hev] at h
     have hu := ev_no (tot_nw ht) hev
     subst hu
     exact ⟨_, ⟨p, rfl, .inr (.inr (.inl ⟨ht, d, hev, rfl⟩))⟩, h⟩
   ·have hb : ((p = true → awpX P i.op true s fun d post nx rd => awpOps P r (lg ++ [(rd, post.map (·.1))]) ⟨putT s.T i.dst d, puts s.H post, nx⟩ K) ∧
      (p = false → awpOps P r (lg ++ [([], [])]) ⟨putT s.T i.dst (.v undef), s.H, s.nx⟩ K)) → ∃ e : Rc, (∃ q, some p = some q ∧
      ((q = true ∧ Exec P i.op true s e) ∨ (q = false ∧ e = ⟨.v undef, [], s.nx, []⟩) ∨ (tot i.op = true ∧ ∃ d, ev i.op q s.T s.H s.nx = some (d, .no) ∧ e = ⟨.gd q d, [], s.nx, rds i.op q s.T⟩) ∨
       (∃ f xs fn caps d, i.op = .call f xs ∧ un q (f.get s.T) = .fn fn caps ∧ CallOK P fn (xs.map (fun x => un q (x.get s.T)) ++ caps) [] s.nx d [] s.nx ∧ e = ⟨.gd q d, [], s.nx, []⟩))) ∧
      awpOps P r (lg ++ [(e.rd, e.post.map (·.1))]) (s.app i.dst e) K := by
     intro h
     cases p with
     | true =>
      obtain ⟨e, h1, h2⟩ := awpX_exec (h.1 rfl)
      exact ⟨e, ⟨true, rfl, .inl ⟨rfl, h1⟩⟩, h2⟩
     | false => exact ⟨_, ⟨false, rfl, .inr (.inl ⟨rfl, rfl⟩)⟩, h.2 rfl⟩
    cases hop : i.op with
    | call f xs =>
     rw [hop] at h
     simp only [GX] at h
     rcases h with ⟨fn, caps, d, g1, g2, g3⟩ | h
     ·exact ⟨⟨.gd p d, [], s.nx, []⟩, ⟨p, rfl, .inr (.inr (.inr ⟨f, xs, fn, caps, d, rfl, g1, g2, rfl⟩))⟩, g3⟩
     ·rw [hop] at hb; exact hb h
    | _ => rw [hop] at h hb; exact hb h
def effOf (l : List Rc) (k : Nat) : Rc := l.getD k ⟨.any, [], 0, []⟩
theorem stL_cons (i : RI) (r : List RI) (e : Rc) (l : List Rc) (s : St) : ∀ k, stL (i :: r) (effOf (e :: l)) s allL (k + 1) = stL r (effOf l) (s.app i.dst e) allL k
 | 0 => rfl
 | k + 1 => by
  have ih := stL_cons i r e l s k
  rw [stL, ih]; rfl
def runX (P : Program) : List RI → Lg → St → (Lg → St → Prop) → Prop
 | [], lg, s, K => K lg s
 | i :: r, lg, s, K => ∃ e : Rc, Stp P i s e ∧ runX P r (lg ++ [(e.rd, e.post.map (·.1))]) (s.app i.dst e) K
theorem runX_of {P} : ∀ (ris : List RI) (lg : Lg) (s : St) (K : Lg → St → Prop), awpOps P ris lg s K → runX P ris lg s K
 | [], lg, s, K, h => h
 | i :: r, lg, s, K, h => by
  obtain ⟨e, h1, h2⟩ := awp_step h
  exact ⟨e, h1, runX_of r _ _ K h2⟩
theorem runX_run {P} : ∀ (ris : List RI) (lg : Lg) (s : St) (K : Lg → St → Prop), runX P ris lg s K → ∃ l : List Rc, l.length = ris.length ∧
  (∀ k (hk : k < ris.length), Stp P ris[k] (stL ris (effOf l) s allL k) (effOf l k)) ∧ K (lg ++ l.map fun e => (e.rd, e.post.map (·.1))) (stL ris (effOf l) s allL ris.length)
 | [], lg, s, K, h => ⟨[], rfl, fun k hk => by simp at hk, by simpa [runX, stL] using h⟩
 | i :: r, lg, s, K, h => by
  obtain ⟨e, h1, h2⟩ := h
  obtain ⟨l, l1, l2, l3⟩ := runX_run r _ _ K h2
  refine ⟨e :: l, by simp [l1], fun k hk => ?_, ?_⟩
  ·cases k with
   | zero => exact h1
   | succ k =>
    rw [stL_cons]
    exact l2 k (by simpa using hk)
  ·rw [List.length_cons, stL_cons]
   simpa using l3
end Go.Pv
