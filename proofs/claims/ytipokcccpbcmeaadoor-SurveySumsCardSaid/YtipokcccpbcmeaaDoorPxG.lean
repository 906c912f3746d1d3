/- More ways to write a state anew (frozen arrays, empty arrays, waiting chunks, weaker lists); code of the walk (run) and its soundness. No condition of its own: over any program. -/
import Derived.Test.YtipokcccpbcmeaaDoorPxF
set_option linter.all false
namespace Go.Pv
open Go.RowKit

/-! ### Frozen arrays -/
def fzF (o : Nat) (t : GT) (as : List (El t)) : IV → IV
  | .ptr o' i f => cond (Nat.beq o' o) .any (.ptr o' i f)
  | .whole o' => cond (Nat.beq o' o) (.lst false t as) (.whole o')
  | .part o' l n => cond (Nat.beq o' o) (.lst false t ((as.drop l).take n)) (.part o' l n)
  | v => v
def fzG (o : Nat) (xs : List (List DV)) : IV → DV → DV
  | .ptr o' _ _, d => cond (Nat.beq o' o) .any d
  | .whole o', d => cond (Nat.beq o' o) (.lst false xs) d
  | .part o' l n, d => cond (Nat.beq o' o) (.lst false ((xs.drop l).take n)) d
  | _, d => d

theorem own_lst {s : St} {o : Nat} {ck : Ck} {H' : Hp} (hH : s.H o = some ck) (hpz : 0 < ck.sz) (flat : ∀ x ∈ ck.xs, ∀ c ∈ x, Ids (fun _ => False) c) (sh : Shape s H' id s.nx) (ho : H' o = none) (g lo n : Nat) (hg : ck.gen = g) (hle : lo + n ≤ ck.xs.length) :
    Tr s H' id s.nx (.own o g lo n) (.lst false ((ck.xs.drop lo).take n)) := by
  intro ps M w x hR hv
  cases hv with
  | own _ _ _ _ _ h0 h1 hh =>
    obtain ⟨_, hh⟩ := hh ck hH
    obtain ⟨_, a, cap, rfl, hn, hcap⟩ := hh hg
    have hxl : ((ck.xs.drop lo).take n).length = n := by simp; omega
    by_cases hn0 : n = 0
    · subst hn0
      have : (ck.xs.drop lo).take 0 = [] := by simp
      rw [this]
      exact .lnil false a cap (fun e => by cases e)
    · rcases hcap with hcap | ⟨p, hp1, rfl, htot⟩
      · omega
      · rcases hR.cr o ck hH with ⟨q1, _⟩ | ⟨p', c, E, vs, q1, q2, q3, q4, q5, q6, q7⟩
        · rw [hp1] at q1; cases q1
        · rw [hp1] at q1; injection q1 with q1; subst q1
          have key := VR.lst (H := H') (ps := fun j => ps (id j)) (M := M) (nx := s.nx) (w := w) false ((ck.xs.drop lo).take n) p.b (p.k + lo * ck.sz) cap ck.sz (fun i j => vs (lo + i) j)
            (fun e => by rw [e] at hxl; simp at hxl; omega) (by omega) (by rw [hxl]; exact hn) (fun e => by cases e) ?_ ?_ ?_ ?_ ?_
          · rw [hxl] at key; exact key
          · rintro (hm | ⟨j, ck', p', k1, k2, k3⟩)
            · exact hR.dj o ck p hH hp1 hm
            · obtain ⟨_, ck1, r1, _⟩ := sh.hp j ck' k1
              have := hR.inj j o ck1 ck p' p r1 hH k2 hp1 k3
              subst this
              rw [ho] at k1; cases k1
          · intro i hi
            simp only [List.getElem_take, List.getElem_drop]
            exact q4 _ _
          · intro i j hi hj
            exact (q6 (lo + i) j (by omega) hj).1
          · intro i j hi hj
            have h2 := (q6 (lo + i) j (by omega) hj).2
            have e : p.k + lo * ck.sz + (i * ck.sz + j) = p.k + ((lo + i) * ck.sz + j) := by rw [Nat.add_mul]; omega
            rw [q2.cell]
            rw [e]; exact h2
          · intro i j hi hj
            have hi' : lo + i < ck.xs.length := by omega
            have hj' : j < ck.xs[lo + i].length := by simpa using hj
            have := q7 (lo + i) j hi' hj'
            have fl := flat _ (List.getElem_mem hi') _ (List.getElem_mem hj')
            have := Tr.flat sh fl ps M w _ hR this
            simpa using this

theorem fz_ok {s : St} {o : Nat} {t : GT} {as : List (El t)} {ck : Ck} {H' : Hp} (hH : s.H o = some ck) (hz : ck.sz = t.sz) (hp : 0 < t.sz) (hb : Both (RelT t) as ck.xs) (sh : Shape s H' id s.nx) (ho : H' o = none) : ChOK ⟨fzF o t as, fzG o ck.xs⟩ s H' id s.nx := by
  intro v d hr n1 n2 n3 n4 n5
  have any : ∀ d, Rel H' s.nx .any .any ∧ Tr s H' id s.nx d .any := fun d => ⟨.any _, fun ps M w x _ _ => .any x⟩
  have flat : ∀ {xs : List (List DV)} {bs : List (El t)}, Both (RelT t) bs xs → ∀ x ∈ xs, ∀ c ∈ x, Ids (fun _ => False) c := by
    intro xs bs h x hx c hc
    obtain ⟨j, hj, rfl⟩ := List.mem_iff_getElem.1 hx
    exact RelT.ids t _ _ (h.2 j (by rw [h.1]; exact hj) hj) c hc
  have lst : ∀ (g lo n : Nat), ck.gen = g → lo + n ≤ ck.xs.length → Tr s H' id s.nx (.own o g lo n) (.lst false ((ck.xs.drop lo).take n)) := fun g lo n hg hle => own_lst hH (by omega) (flat hb) sh ho g lo n hg hle
  have other : ∀ (o' j g lo n : Nat), Tr s H' id s.nx (.own o' g lo n) (.own o' g lo n) := by
    intro o' j g lo n ps M w x hR hv
    cases hv with
    | own _ _ _ _ _ h0 h1 hh =>
      refine .own _ _ _ _ _ h0 h1 fun ck' hk => ?_
      obtain ⟨_, c1, k1, k2, k3, k4⟩ := sh.hp o' ck' hk
      obtain ⟨q1, q2⟩ := hh c1 k1
      refine ⟨by omega, fun e => ?_⟩
      obtain ⟨r1, a, cap, r2, r3, r4⟩ := q2 (by omega)
      exact ⟨by omega, a, cap, r2, r3, by
        rcases r4 with r4 | ⟨p, p1, p2, p3⟩
        · exact .inl r4
        · exact .inr ⟨p, p1, by rw [k3]; exact p2, by rw [k3]; exact p3⟩⟩
  cases hr with
  | ptr o' g i off ho' h =>
    simp only [fzF, fzG]
    cases hq : Nat.beq o' o with
    | true => exact any _
    | false =>
      refine ⟨.ptr _ _ _ _ ho' fun ck' hk => ?_, fun ps M w x hR hv => ?_⟩
      · obtain ⟨_, c1, k1, k2, k3, k4⟩ := sh.hp o' ck' hk
        have := h c1 k1
        exact ⟨by omega, by omega⟩
      · show VR H' ps M s.nx w _ x
        cases hv with
        | ptr _ _ _ _ _ h0 h1 hh =>
          refine .ptr _ _ _ _ _ h0 h1 fun ck' hk => ?_
          obtain ⟨_, c1, k1, k2, k3, k4⟩ := sh.hp o' ck' hk
          obtain ⟨q1, q2⟩ := hh c1 k1
          refine ⟨by omega, fun e => ?_⟩
          obtain ⟨r1, p, r2, r3⟩ := q2 (by omega)
          exact ⟨by omega, p, r2, by rw [k3]; exact r3⟩
  | whole o' g n ho' h =>
    simp only [fzF, fzG]
    cases hq : Nat.beq o' o with
    | true =>
      have := Nat.eq_of_beq_eq_true hq
      subst this
      obtain ⟨e1, e2⟩ := h ck hH
      refine ⟨.lst _ _ _ _ _ (fun e => by cases e) hb, ?_⟩
      have := lst g 0 n e1 (by omega)
      rw [List.drop_zero, ← e2, List.take_length] at this
      rw [e2] at this; exact this
    | false =>
      refine ⟨.whole _ _ _ ho' fun ck' hk => ?_, other o' o' g 0 n⟩
      obtain ⟨_, c1, k1, k2, k3, k4⟩ := sh.hp o' ck' hk
      have := h c1 k1
      exact ⟨by omega, by omega⟩
  | part o' g lo n ho' h =>
    simp only [fzF, fzG]
    cases hq : Nat.beq o' o with
    | true =>
      have := Nat.eq_of_beq_eq_true hq
      subst this
      obtain ⟨e1, e2⟩ := h ck hH
      exact ⟨.lst _ _ _ _ _ (fun e => by cases e) ((hb.drop lo).take n), lst g lo n e1 e2⟩
    | false =>
      refine ⟨.part _ _ _ _ ho' fun ck' hk => ?_, other o' o' g lo n⟩
      obtain ⟨_, c1, k1, k2, k3, k4⟩ := sh.hp o' ck' hk
      have := h c1 k1
      exact ⟨by omega, by omega⟩
  | int k n => exact ⟨.int _ _, Tr.flat sh (.v _)⟩
  | bool b => exact ⟨.bool _, Tr.flat sh (.v _)⟩
  | str b => exact ⟨.str _, Tr.flat sh (.v _)⟩
  | raw x => exact ⟨.raw _, Tr.flat sh (.v _)⟩
  | nn => exact ⟨.nn, Tr.flat sh .nn⟩
  | nil => exact ⟨.nil, Tr.flat sh (.lst _ _ fun x hx => by cases hx)⟩
  | lst f f' t' as' xs hf h =>
    refine ⟨.lst _ _ _ _ _ hf h, Tr.flat sh (.lst _ _ fun x hx c hc => ?_)⟩
    obtain ⟨j, hj, rfl⟩ := List.mem_iff_getElem.1 hx
    exact RelT.ids t' _ _ (h.2 j (by rw [h.1]; exact hj) hj) c hc
  | any => exact absurd rfl n5
  | rp cs => exact absurd rfl (n1 cs)
  | agg cs => exact absurd rfl (n2 cs)
  | tup cs => exact absurd rfl (n3 cs)
  | fn f cs => exact absurd rfl (n4 f cs)

def frz1 (o : Nat) (s : SI) : SI := match getH s.H o with
  | some (.arr t as) => match Nat.ble 1 t.sz with
    | true => ⟨chT (fzF o t as) s.T, setH (chH (fzF o t as) s.H) o none⟩
    | false => s
  | _ => s
def frzL : List Nat → SI → SI
  | [], s => s
  | o :: r, s => frzL r (frz1 o s)

theorem nbx_of {cx : Cx} {s : St} (hn : cx.nb ≤ s.nx) : cx.nb ≤ s.nx ∧ ∀ o, o < cx.nb → id o = o := ⟨hn, fun o _ => rfl⟩

theorem frz1_sound {cx : Cx} {si : SI} {s : St} (o : Nat) (hs : SR si s) (hn : cx.nb ≤ s.nx) : ∃ s', Wk cx s s' ∧ SR (frz1 o si) s' ∧ cx.nb ≤ s'.nx := by
  unfold frz1
  split
  · rename_i t as hc
    split
    · rename_i hz
      obtain ⟨ho, ck, h1, h2, h3⟩ := hs.h.at hc
      have hp : 0 < t.sz := Nat.le_of_ble_eq_true hz
      let φ : Ch := ⟨fzF o t as, fzG o ck.xs⟩
      let on : Nat → Bool := fun j => !(Nat.beq j o)
      have hoff : φ.hp si.H s.H id s.nx on o = none := by simp [Ch.hp, on]
      have hH : ∀ j c', getH (setH (chH (fzF o t as) si.H) o none) j = some c' → on j = true ∧ ∃ c, getH si.H (id j) = some c ∧ chK (fzF o t as) (some c) = some c' := by
        intro j c' hj
        rw [getH_set] at hj
        by_cases hne : j = o ∧ o < (chH (fzF o t as) si.H).length
        · rw [if_pos hne] at hj; cases hj
        · rw [if_neg hne] at hj
          have hjo : j ≠ o := fun e => hne ⟨e, by rw [Ch.h_len φ]; have := hs.n; omega⟩
          rw [Ch.h_get φ] at hj
          refine ⟨?_, ?_⟩
          · simp only [on, Bool.not_eq_true']
            cases hb : Nat.beq j o with
            | false => rfl
            | true => exact absurd (Nat.eq_of_beq_eq_true hb) hjo
          · cases hg : getH si.H j with
            | none => rw [hg] at hj; cases hj
            | some c => rw [hg] at hj; exact ⟨c, hg, hj⟩
      obtain ⟨s', w, r⟩ := Ch.done (φ := φ) (π := id) (nx' := s.nx) (on := on) (HI' := setH (chH (fzF o t as) si.H) o none) hs (fz_ok h1 h2 hp h3 Ch.hp_shape hoff) (fun j j' _ _ _ _ e => e) (nbx_of hn) (by rw [setH_len, Ch.h_len φ]; exact hs.n) hH
      exact ⟨s', w, r, by have := r.n; have e : (setH (chH (fzF o t as) si.H) o none).length = s'.nx := this; rw [setH_len, Ch.h_len φ] at e; have := hs.n; omega⟩
    · exact ⟨s, Wk.refl _ _, hs, hn⟩
  · exact ⟨s, Wk.refl _ _, hs, hn⟩
theorem frzL_sound {cx : Cx} : ∀ (l : List Nat) {si : SI} {s : St}, SR si s → cx.nb ≤ s.nx → ∃ s', Wk cx s s' ∧ SR (frzL l si) s' ∧ cx.nb ≤ s'.nx
  | [], si, s, hs, hn => ⟨s, Wk.refl _ _, hs, hn⟩
  | o :: r, si, s, hs, hn => by
    obtain ⟨s1, w1, r1, n1⟩ := frz1_sound (cx := cx) o hs hn
    obtain ⟨s2, w2, r2, n2⟩ := frzL_sound r r1 n1
    exact ⟨s2, w1.trans w2, r2, n2⟩

/-! ### Empty arrays and waiting chunks -/
theorem ghost_sound {cx : Cx} {T : List (Nat × IV)} {HI : IH} {s : St} (c : ICk) (sz : Nat) (hc : CkR s.H s.nx c ⟨0, sz, []⟩) (hs : SR ⟨T, HI⟩ s) (hn : cx.nb ≤ s.nx) : Wk cx s ⟨s.T, s.H.put s.nx (some ⟨0, sz, []⟩), s.nx + 1⟩ ∧ SR ⟨T, HI ++ [some c]⟩ ⟨s.T, s.H.put s.nx (some ⟨0, sz, []⟩), s.nx + 1⟩ :=
  ⟨Wk.ghost sz, by have := hs.al hc (v := .any) (d := .any) (.any _) none; exact this⟩

/-- Of an own array only the length is kept, as a part of a chunk that is not there. -/
def slI (t : Nat) (s : SI) : Option SI := match getT s.T t with
  | .whole o => match getH s.H o with
    | some (.arr _ as) => some ⟨(t, .part s.H.length 0 as.length) :: s.T, s.H ++ [none]⟩
    | _ => none
  | _ => none
theorem getH_none : ∀ (H : IH) (o : Nat), getH (H ++ [none]) o = getH H o
  | [], o => by cases o <;> simp [getH]
  | c :: H, 0 => by simp [getH]
  | c :: H, o + 1 => by simpa [getH] using getH_none H o
theorem slI_sound {cx : Cx} {t : Nat} {si si' : SI} {s : St} (hs : SR si s) (hn : cx.nb ≤ s.nx) (h : slI t si = some si') : ∃ s', Wk cx s s' ∧ SR si' s' ∧ cx.nb ≤ s'.nx := by
  unfold slI at h
  split at h
  · rename_i o ho
    split at h
    · rename_i ty as hc
      injection h with h; subst h
      obtain ⟨g, n, hd, hlt, hg⟩ := (ho ▸ hs.t t).whole_inv
      obtain ⟨_, ck, h1, h2⟩ := hs.h.at hc
      obtain ⟨rfl, rfl⟩ := hg ck h1
      have hl : as.length = ck.xs.length := h2.2.1
      refine ⟨⟨upd s.T t (.own s.nx 0 0 as.length), s.H.put s.nx none, s.nx + 1⟩, fun ps a w R => ⟨ps, ?_⟩, ⟨fun t' => ?_, fun o' c' hc' => ?_, by simp [hs.n]⟩, Nat.le_succ_of_le hn⟩
      · have hin : ∀ o ck', s.H.put s.nx none o = some ck' → s.H o = some ck' := fun o ck' hk => by
          by_cases e : o = s.nx
          · subst e; rw [Hp.put_same] at hk; cases hk
          · rwa [Hp.put_ne _ _ _ e] at hk
        have kp : Kp s.H ps cx.M s.nx w (s.H.put s.nx none) ps cx.M (s.nx + 1) w := ⟨Nat.le_succ _, fun o _ ck' hk => ⟨ck', hin o ck' hk, .inr ⟨rfl, rfl, Nat.le_refl _, rfl⟩⟩, fun b hb => .inl (hb.elim .inl fun ⟨o, ck, p, k1, k2, k3⟩ => .inr ⟨o, ck, p, hin o ck k1, k2, k3⟩), fun _ _ _ => rfl⟩
        refine ⟨fun t' => ?_, R.nt, ⟨fun o ck' hk => Nat.lt_succ_of_lt (R.hr.lt o ck' (hin o ck' hk)), fun o ck' hk => (R.hr.cr o ck' (hin o ck' hk)).mono kp rfl fun _ _ => rfl, fun o o' c c' p p' k1 k2 => R.hr.inj o o' c c' p p' (hin _ _ k1) (hin _ _ k2), R.hr.ml, fun o c p k1 => R.hr.dj o c p (hin _ _ k1)⟩, R.fr, fun o c p k1 => R.lb o c p (hin _ _ k1), R.df, Nat.le_succ_of_le R.nbx, fun o h0 ck' hk => R.gm o h0 ck' (hin _ _ hk), R.fz⟩
        show VR _ _ _ _ _ (upd s.T t _ t') _
        by_cases e : t' = t
        · subst e
          rw [upd_same]
          have := R.t t'
          rw [hd] at this
          cases this with
          | own _ _ _ _ _ q0 q1 q => exact .own _ _ _ _ _ (Nat.lt_succ_self _) (by rw [hl]; exact q1) fun ck' hk => by have hk : s.H.put s.nx none s.nx = some ck' := hk; rw [Hp.put_same] at hk; cases hk
        · rw [upd_ne _ _ _ _ e]; exact (R.t t').mono kp
      · have sm : Same s.H s.nx (s.H.put s.nx none) (s.nx + 1) := ⟨Nat.le_succ _, fun o ck' hlt hk => ⟨ck', by rwa [Hp.put_ne _ _ _ (by omega)] at hk, rfl, rfl⟩⟩
        show Rel _ _ (getT _ t') (upd s.T t _ t')
        simp only [getT]
        cases hb : Nat.beq t t' with
        | true =>
          rw [← Nat.eq_of_beq_eq_true hb, upd_same]
          show Rel _ _ (.part si.H.length 0 as.length) _
          rw [hs.n]
          exact .part _ _ _ _ (Nat.lt_succ_self _) fun ck' hk => by have hk : s.H.put s.nx none s.nx = some ck' := hk; rw [Hp.put_same] at hk; cases hk
        | false =>
          rw [upd_ne _ _ _ _ (fun e => by subst e; rw [Nat.beq_refl] at hb; cases hb)]; exact (hs.t t').same sm
      · have sm : Same s.H s.nx (s.H.put s.nx none) (s.nx + 1) := ⟨Nat.le_succ _, fun o ck' hlt hk => ⟨ck', by rwa [Hp.put_ne _ _ _ (by omega)] at hk, rfl, rfl⟩⟩
        rw [getH_none] at hc'
        obtain ⟨q1, ck', q2, q3⟩ := hs.h o' c' hc'
        exact ⟨Nat.lt_succ_of_lt q1, ck', (by show s.H.put s.nx none o' = _; rw [Hp.put_ne _ _ _ (by omega)]; exact q2), q3.same sm⟩
    · cases h
  · cases h

def ownI (t : Nat) (ty : GT) (s : SI) : Option SI := match getT s.T t with
  | .nil => some ⟨(t, .whole s.H.length) :: s.T, s.H ++ [some (.arr ty [])]⟩
  | .lst true _ [] => some ⟨(t, .whole s.H.length) :: s.T, s.H ++ [some (.arr ty [])]⟩
  | .whole _ => some s
  | .part o lo n => match getH s.H o with
    | some (.arr ty' as) => some ⟨(t, .whole o) :: killT o s.T, setH (killH o s.H) o (some (.arr ty' ((as.drop lo).take n)))⟩
    | _ => none
  | _ => none
/-- The same, for a cell of a box. -/
def ownC (t c : Nat) (ty : GT) (s : SI) : Option SI := match getT s.T t with
  | .ptr o 0 f => match getH s.H o with
    | some (.box g cs) => match cs[f + c]? with
      | some .nil => some ⟨s.T, setH s.H o (some (.box g (cs.set (f + c) (.whole s.H.length)))) ++ [some (.arr ty [])]⟩
      | some (.whole _) => some s
      | _ => none
    | _ => none
  | _ => none

def cutH (H : Hp) (n : Nat) : Hp := fun j => if j < n then H j else none
theorem cutH_some {H : Hp} {n j : Nat} {ck : Ck} (h : cutH H n j = some ck) : j < n ∧ H j = some ck := by
  unfold cutH at h; split at h
  · exact ⟨‹_›, h⟩
  · cases h
theorem SR.cut {si : SI} {s : St} (h : SR si s) : SR si ⟨s.T, cutH s.H s.nx, s.nx⟩ := by
  have sm : Same s.H s.nx (cutH s.H s.nx) s.nx := ⟨Nat.le_refl _, fun o ck' _ hk => ⟨ck', (cutH_some hk).2, rfl, rfl⟩⟩
  refine ⟨fun t => (h.t t).same sm, fun o c hc => ?_, h.n⟩
  obtain ⟨h1, ck, h2, h3⟩ := h.h o c hc
  exact ⟨h1, ck, by simp only [cutH, if_pos h1]; exact h2, h3.same sm⟩

theorem id_tr {s : St} {H' : Hp} (sh : Shape s H' id s.nx) {d : DV} : Tr s H' id s.nx d d := fun ps M w x hR hv => by
  refine hv.mono ⟨Nat.le_refl _, fun o _ ck' hk => ?_, fun b hb => .inl (sh.mu hb), fun _ _ _ => rfl⟩
  obtain ⟨_, ck, k1, k2, k3, k4⟩ := sh.hp o ck' hk
  exact ⟨ck, k1, .inr ⟨k2.symm, k3.symm, by simp only [id] at k1; omega, rfl⟩⟩

/-- One cell of a box, and slots, are written anew. -/
theorem retell {cx : Cx} {s : St} (o j : Nat) (d' : DV) (T' : Nat → DV) (hn : cx.nb ≤ s.nx) (box : Bool) {ck : Ck} {ds : List DV} (hH : box = true → s.H o = some ck ∧ ck.xs = [ds] ∧ j < ds.length) :
    let H' : Hp := cutH (if box = true then s.H.put o (some ⟨ck.gen, ck.sz, [ds.set j d']⟩) else s.H) s.nx
    (∀ t, Tr s H' id s.nx (s.T t) (T' t)) → (box = true → Tr s H' id s.nx (ds.getD j .any) d') → Wk cx s ⟨T', H', s.nx⟩ ∧ Shape s H' id s.nx := by
  intro H' hT hd
  have pick : ∀ q ck', H' q = some ck' → q < s.nx ∧ ((box = true ∧ q = o ∧ ck' = ⟨ck.gen, ck.sz, [ds.set j d']⟩) ∨ s.H q = some ck' ∧ (box = true → q ≠ o)) := by
    intro q ck' hq
    obtain ⟨h1, h2⟩ := cutH_some hq
    refine ⟨h1, ?_⟩
    split at h2
    · rename_i hb
      by_cases e : q = o
      · subst e; rw [Hp.put_same] at h2; injection h2 with h2; exact .inl ⟨hb, rfl, h2.symm⟩
      · rw [Hp.put_ne _ _ _ e] at h2; exact .inr ⟨h2, fun _ => e⟩
    · rename_i hb; exact .inr ⟨h2, fun e => absurd e hb⟩
  have sh : Shape s H' id s.nx := ⟨fun q ck' hq => by
    obtain ⟨h1, h2⟩ := pick q ck' hq
    refine ⟨h1, ?_⟩
    rcases h2 with ⟨hb, rfl, rfl⟩ | ⟨h2, _⟩
    · obtain ⟨k1, k2, k3⟩ := hH hb
      exact ⟨ck, k1, rfl, rfl, by rw [k2]; rfl⟩
    · exact ⟨ck', h2, rfl, rfl, rfl⟩⟩
  refine ⟨Wk.tr ⟨sh, ?_, fun j j' _ _ _ _ e => e, hn, fun _ _ => rfl⟩ hT, sh⟩
  intro q ck' ck1 hq hs1 i h1 h2
  simp only [id] at hs1
  rcases (pick q ck' hq).2 with ⟨hb, rfl, rfl⟩ | ⟨h3, _⟩
  · obtain ⟨k1, k2, k3⟩ := hH hb
    rw [k1] at hs1; injection hs1 with hs1; subst hs1
    have hi : i = 0 := by simpa using h1
    subst hi
    simp only [k2, List.getElem_cons_zero, List.length_set, true_and]
    intro c h3 h4
    simp only [List.getElem_set]
    split
    · rename_i e; subst e
      have := hd hb
      rwa [List.getD_eq_getElem?_getD, List.getElem?_eq_getElem h4] at this
    · exact id_tr sh
  · rw [hs1] at h3; injection h3 with h3; subst h3
    exact ⟨rfl, fun c h3 h4 => id_tr sh⟩

theorem nil_own {H H' : Hp} {ps ps' : Ps} {M : Nat → Prop} {nx o : Nat} {w : World} {x : Value} (h : VR H ps M nx w (.lst true []) x) (ho : o < nx) : VR H' ps' M nx w (.own o 0 0 0) x := by
  cases h with
  | lnil _ a cap hf => exact .own _ _ _ _ _ ho ⟨_, _, rfl⟩ fun ck hk => ⟨Nat.zero_le _, fun _ => ⟨by simp, a, cap, rfl, by simp [hf rfl], .inl (hf rfl)⟩⟩
  | lst _ _ _ _ _ _ _ hne => exact absurd rfl hne

theorem whole_new {H : Hp} {nx sz : Nat} {T : Nat → DV} : Rel (cutH (H.put nx (some ⟨0, sz, []⟩)) (nx + 1)) (nx + 1) (.whole nx) (.own nx 0 0 0) :=
  .whole _ _ _ (Nat.lt_succ_self _) fun ck hk => by
    have := (cutH_some hk).2
    rw [Hp.put_same] at this; injection this with this; subst this; exact ⟨rfl, rfl⟩

/-- A part of an array is an array: nobody holds the rest. -/
theorem Wk.narrow {cx : Cx} {s : St} {t o g lo n : Nat} {ck : Ck} (ht : s.T t = .own o g lo n) (hH : s.H o = some ck) (hg : ck.gen = g) (hle : lo + n ≤ ck.xs.length) :
    Wk cx s ⟨upd s.T t (.own o (g + 1) 0 n), s.H.put o (some ⟨g + 1, ck.sz, (ck.xs.drop lo).take n⟩), s.nx⟩ := fun ps a w R => by
  have ho : o < s.nx := R.hr.lt o ck hH
  have hlen : ((ck.xs.drop lo).take n).length = n := by rw [List.length_take, List.length_drop]; omega
  have m : Mv cx s.H ps s.nx w (s.H.put o (some ⟨g + 1, ck.sz, (ck.xs.drop lo).take n⟩)) (ps.put o ((ps o).map fun p => ⟨p.b, p.k + lo * ck.sz, p.tot⟩)) s.nx w := by
    refine Mv.upd o _ _ s.nx w R.hr R.fr R.lb (Nat.le_refl _) ho (.inr ⟨ck, hH, .inl (by show ck.gen < g + 1; omega)⟩) ((Grew.refl w).but _) (fun p' h => ?_) fun kp => ?_
    · cases hp : ps o with
      | none => rw [hp] at h; cases h
      | some p => rw [hp] at h; injection h with h; subst h; exact .inl ⟨ck, p, hH, rfl, rfl⟩
    · rcases R.hr.cr o ck hH with ⟨h1, h2⟩ | ⟨p, c, E, vs, h1, h2, h3, h4, h5, h6, h7⟩
      · exact .inl ⟨by rw [Ps.put_same, h1]; rfl, by show (ck.xs.drop lo).take n = []; rw [h2]; simp⟩
      · have mul : (lo + n) * ck.sz ≤ ck.xs.length * ck.sz := Nat.mul_le_mul_right _ hle
        rw [Nat.add_mul] at mul
        have el : ∀ i (hi : i < ((ck.xs.drop lo).take n).length), ∃ h : lo + i < ck.xs.length, ((ck.xs.drop lo).take n)[i] = ck.xs[lo + i] := fun i hi => ⟨by omega, by simp⟩
        refine .inr ⟨⟨p.b, p.k + lo * ck.sz, p.tot⟩, c, E, fun i j => vs (lo + i) j, by rw [Ps.put_same, h1]; rfl, h2, h3, fun i hi => ?_, ?_, fun i j hi hj => ?_, fun i j hi hj => ?_⟩
        · obtain ⟨hx, e⟩ := el i hi
          show (((ck.xs.drop lo).take n)[i]).length = ck.sz
          rw [e]; exact h4 _ hx
        · show p.k + lo * ck.sz + ((ck.xs.drop lo).take n).length * ck.sz ≤ p.tot
          rw [hlen]; omega
        · obtain ⟨hx, _⟩ := el i hi
          obtain ⟨k1, k2⟩ := h6 (lo + i) j hx hj
          refine ⟨k1, ?_⟩
          show c[p.k + lo * ck.sz + (i * ck.sz + j)]? = _
          rw [show p.k + lo * ck.sz + (i * ck.sz + j) = p.k + ((lo + i) * ck.sz + j) by rw [Nat.add_mul]; omega]
          exact k2
        · obtain ⟨hx, e⟩ := el i hi
          have hj' : j < (ck.xs[lo + i]).length := by rw [← e]; exact hj
          have := (h7 (lo + i) j hx hj').mono kp
          simp only [e]
          exact this
  have R2 := RS.step (dst := none) (d := .any) (x := undef) R m (.any _) (fun t h => by cases h)
  refine ⟨_, fun t' => ?_, R2.nt, R2.hr, R2.fr, R2.lb, R2.df, R2.nbx, R2.gm, R2.fz⟩
  simp only [upd]
  by_cases e : t' = t
  · subst e
    rw [if_pos rfl]
    have hv := R.t t'
    rw [ht] at hv
    show VR _ _ _ _ _ _ (a.tmps.getD t' undef)
    generalize a.tmps.getD t' undef = x at hv
    cases hv with
    | own _ _ _ _ _ h0 h1 h =>
      obtain ⟨_, hs⟩ := h ck hH
      obtain ⟨k1, a', cap, k2, k3, k4⟩ := hs hg
      refine .own _ _ _ _ _ h0 h1 fun ck' hk => ?_
      rw [Hp.put_same] at hk; injection hk with hk; subst hk
      refine ⟨Nat.le_refl _, fun _ => ⟨by show 0 + n ≤ ((ck.xs.drop lo).take n).length; omega, a', cap, k2, k3, ?_⟩⟩
      rcases k4 with k4 | ⟨p, k5, k6, k7⟩
      · exact .inl k4
      · refine .inr ⟨⟨p.b, p.k + lo * ck.sz, p.tot⟩, by rw [Ps.put_same, k5]; rfl, ?_, ?_⟩
        · show a' = some ⟨p.b, p.k + lo * ck.sz + 0 * ck.sz, none⟩
          rw [k6, Nat.zero_mul, Nat.add_zero]
        · show p.k + lo * ck.sz + (0 + cap) * ck.sz ≤ p.tot
          rw [Nat.add_mul] at k7; rw [Nat.zero_add]; omega
  · rw [if_neg e]; exact R2.t t'

theorem ownI_sound {cx : Cx} {t : Nat} {ty : GT} {si si' : SI} {s : St} (hs : SR si s) (hn : cx.nb ≤ s.nx) (h : ownI t ty si = some si') : ∃ s', Wk cx s s' ∧ SR si' s' ∧ cx.nb ≤ s'.nx := by
  have main : s.T t = .lst true [] → si' = ⟨(t, .whole si.H.length) :: si.T, si.H ++ [some (.arr ty [])]⟩ → ∃ s', Wk cx s s' ∧ SR si' s' ∧ cx.nb ≤ s'.nx := by
    rintro ht rfl
    obtain ⟨w1, r1⟩ := ghost_sound (cx := cx) (.arr ty []) ty.sz (CkR.arrI rfl Both.nil) (T := si.T) (HI := si.H) hs hn
    obtain ⟨w2, sh⟩ := retell (cx := cx) (s := ⟨s.T, s.H.put s.nx (some ⟨0, ty.sz, []⟩), s.nx + 1⟩) 0 0 .any (upd s.T t (.own s.nx 0 0 0)) (Nat.le_succ_of_le hn) false (ck := ⟨0, 0, []⟩) (ds := []) (fun e => by cases e) (fun t' => by
      intro ps M w x hR hv
      simp only [upd, Bool.false_eq_true, if_false]
      by_cases e : t' = t
      · subst e; rw [if_pos rfl]; simp only [ht] at hv; exact nil_own hv (Nat.lt_succ_self _)
      · rw [if_neg e]
        refine hv.mono ⟨Nat.le_refl _, fun o _ ck' hk => ?_, ?_, fun _ _ _ => rfl⟩
        · obtain ⟨_, hk⟩ := cutH_some hk
          exact ⟨ck', hk, .inr ⟨rfl, rfl, Nat.le_refl _, rfl⟩⟩
        · rintro b (hb | ⟨o, ck, p, k1, k2, k3⟩)
          · exact .inl (.inl hb)
          · exact .inl (.inr ⟨o, ck, p, (cutH_some k1).2, k2, k3⟩)) (fun e => by cases e)
    refine ⟨_, w1.trans w2, ?_, Nat.le_succ_of_le hn⟩
    have r2 := r1.cut
    refine ⟨fun t' => ?_, r2.h, r2.n⟩
    have := putT_rel r2.t (v := .whole s.nx) (d := .own s.nx 0 0 0) (whole_new (T := s.T)) (some t) t'
    rw [← hs.n] at this
    rw [← hs.n]
    exact this
  have hr := hs.t t
  unfold ownI at h
  split at h
  · rename_i hv
    rw [hv] at hr
    injection h with h
    exact main hr.nil_inv h.symm
  · rename_i hv
    rw [hv] at hr
    obtain ⟨f', xs, hd, hf, hb⟩ := hr.lst_inv
    have := hf rfl; subst this
    rw [hb.nil_l] at hd
    injection h with h
    exact main hd h.symm
  · injection h with h; subst h; exact ⟨s, Wk.refl _ _, hs, hn⟩
  · rename_i o lo n hv
    rw [hv] at hr
    split at h
    · rename_i ty' as hc
      injection h with h; subst h
      obtain ⟨g, hd, ho, hgg⟩ := hr.part_inv
      obtain ⟨_, ck, h1, h2, h3⟩ := hs.h.at hc
      obtain ⟨hg, hle⟩ := hgg ck h1
      refine ⟨_, Wk.narrow hd h1 hg hle, ?_, hn⟩
      exact SR.grow (T := si.T) (HI := si.H) hs ho (c := .arr ty' ((as.drop lo).take n)) (ck' := ⟨g + 1, ck.sz, (ck.xs.drop lo).take n⟩) (CkR.arrI h2 ((h3.drop lo).take n)) (d := .own o (g + 1) 0 n) (.whole _ _ _ ho fun ck' hk => by
        rw [Hp.put_same] at hk; injection hk with hk; subst hk; exact ⟨rfl, by show ((ck.xs.drop lo).take n).length = n; rw [List.length_take, List.length_drop]; omega⟩) (some t)
    · cases h
  · cases h

theorem ownC_sound {cx : Cx} {t c : Nat} {ty : GT} {si si' : SI} {s : St} (hs : SR si s) (hn : cx.nb ≤ s.nx) (h : ownC t c ty si = some si') : ∃ s', Wk cx s s' ∧ SR si' s' ∧ cx.nb ≤ s'.nx := by
  unfold ownC at h
  split at h
  · rename_i o f hv
    split at h
    · rename_i gb cs hc
      split at h
      · rename_i hcell
        injection h with h; subst h
        obtain ⟨ho, ck, h1, h2, ds, h3, h4, h5⟩ := hs.h.at hc
        subst h5
        obtain ⟨w1, r1⟩ := ghost_sound (cx := cx) (.arr ty []) ty.sz (CkR.arrI rfl Both.nil) (T := si.T) (HI := si.H) hs hn
        obtain ⟨dc, q1, q2⟩ := Both.get? h4 hcell
        have hjd : f + c < ds.length := (List.getElem?_eq_some_iff.1 q1).1
        have hone : s.nx ≠ o := by omega
        have hH1 : (s.H.put s.nx (some ⟨0, ty.sz, []⟩)) o = some ck := by rw [Hp.put_ne _ _ _ (by omega)]; exact h1
        obtain ⟨w2, sh⟩ := retell (cx := cx) (s := ⟨s.T, s.H.put s.nx (some ⟨0, ty.sz, []⟩), s.nx + 1⟩) o (f + c) (.own s.nx 0 0 0) s.T (Nat.le_succ_of_le hn) true (ck := ck) (ds := ds) (fun _ => ⟨hH1, h3, hjd⟩) (fun t' => by
          intro ps M w x hR hv
          refine hv.mono ⟨Nat.le_refl _, fun o' _ ck' hk => ?_, ?_, fun _ _ _ => rfl⟩
          · obtain ⟨_, hk⟩ := cutH_some hk
            simp only [if_true] at hk
            by_cases e : o' = o
            · subst e; rw [Hp.put_same] at hk; injection hk with hk; subst hk; exact ⟨ck, hH1, .inr ⟨rfl, rfl, by rw [h3]; simp, rfl⟩⟩
            · rw [Hp.put_ne _ _ _ e] at hk; exact ⟨ck', hk, .inr ⟨rfl, rfl, Nat.le_refl _, rfl⟩⟩
          · rintro b (hb | ⟨o', ck', p, k1, k2, k3⟩)
            · exact .inl (.inl hb)
            · obtain ⟨_, hk⟩ := cutH_some k1
              simp only [if_true] at hk
              by_cases e : o' = o
              · subst e; exact .inl (.inr ⟨o', ck, p, hH1, k2, k3⟩)
              · rw [Hp.put_ne _ _ _ e] at hk; exact .inl (.inr ⟨o', ck', p, hk, k2, k3⟩)) (fun _ => by
          rw [List.getD_eq_getElem?_getD, q1, Option.getD_some, q2.nil_inv]
          exact fun ps M w x hR hv => nil_own hv (Nat.lt_succ_self _))
        refine ⟨_, w1.trans w2, ?_, Nat.le_succ_of_le hn⟩
        simp only [if_true] at sh ⊢
        have sm : Same (s.H.put s.nx (some ⟨0, ty.sz, []⟩)) (s.nx + 1) (cutH ((s.H.put s.nx (some ⟨0, ty.sz, []⟩)).put o (some ⟨ck.gen, ck.sz, [ds.set (f + c) (.own s.nx 0 0 0)]⟩)) (s.nx + 1)) (s.nx + 1) :=
          ⟨Nat.le_refl _, fun o' ck' _ hk => by
            obtain ⟨_, k1, k2, k3, k4⟩ := (sh.hp o' ck' hk).2
            exact ⟨_, k1, k2.symm, k4.symm⟩⟩
        refine ⟨fun t' => (r1.t t').same sm, fun q c' hq => ?_, by simp [setH_len]; exact hs.n⟩
        have hwhole : Rel (cutH ((s.H.put s.nx (some ⟨0, ty.sz, []⟩)).put o (some ⟨ck.gen, ck.sz, [ds.set (f + c) (.own s.nx 0 0 0)]⟩)) (s.nx + 1)) (s.nx + 1) (.whole s.nx) (.own s.nx 0 0 0) :=
          .whole _ _ _ (Nat.lt_succ_self _) fun ck1 hk => by
            have := (cutH_some hk).2
            rw [Hp.put_ne _ _ _ hone, Hp.put_same] at this; injection this with this; subst this; exact ⟨rfl, rfl⟩
        have hset : getH (si.H ++ [some (.arr ty [])]) q = getH (si.H ++ [some (.arr ty [])]) q := rfl
        rw [getH_app] at hq
        split at hq
        · rename_i e
          injection hq with hq; subst hq
          rw [setH_len] at e
          have e' : q = s.nx := e.trans hs.n
          subst e'
          refine ⟨Nat.lt_succ_self _, ⟨0, ty.sz, []⟩, ?_, CkR.arrI rfl Both.nil⟩
          simp only [cutH, Nat.lt_succ_self, if_true]
          rw [Hp.put_ne _ _ _ hone, Hp.put_same]
        · rw [getH_set] at hq
          split at hq
          · rename_i e
            obtain ⟨rfl, _⟩ := e
            injection hq with hq; subst hq
            refine ⟨Nat.lt_succ_of_lt ho, _, by simp only [cutH, Nat.lt_succ_of_lt ho, if_true]; rw [Hp.put_same], CkR.boxI (by simpa using h2) ?_⟩
            have hx : Rels (cutH ((s.H.put s.nx (some ⟨0, ty.sz, []⟩)).put q (some ⟨ck.gen, ck.sz, [ds.set (f + c) (.own s.nx 0 0 0)]⟩)) (s.nx + 1)) (s.nx + 1) cs ds := ⟨h4.1, fun a b c => ((h4.2 a b c).same (same_al (s := s) (ck := ⟨0, ty.sz, []⟩))).same sm⟩
            have := hx.set (f + c) hwhole
            rw [show si.H.length = s.nx from hs.n]
            exact this
          · rename_i e
            have hne : q ≠ o := fun e' => e ⟨e', by have := hs.n; omega⟩
            have hql := getH_lt _ _ _ hq
            have hq' := r1.h q c' (by rw [getH_app, if_neg (by omega)]; exact hq)
            obtain ⟨a1, ck1, a2, a3⟩ := hq'
            exact ⟨a1, ck1, by simp only [cutH]; rw [if_pos a1, Hp.put_ne _ _ _ hne]; exact a2, a3.same sm⟩
      · injection h with h; subst h; exact ⟨s, Wk.refl _ _, hs, hn⟩
      · cases h
    · cases h
  · cases h
end Go.Pv
