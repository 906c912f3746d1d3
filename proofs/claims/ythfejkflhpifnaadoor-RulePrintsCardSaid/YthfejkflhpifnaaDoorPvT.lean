/- Rules by which one operation is reckoned at once, loops by unrolling, states cut down to what lives. No condition of its own: over any program. -/
import Derived.Test.YthfejkflhpifnaaDoorPvS
set_option linter.all false
namespace Go.Pv
open Go.RowKit

section ge
variable {p q : Bool} {T : Nat → DV} {H : Hp} {nx : Nat} {x y z : RO}
theorem e_movI {k : IntKind} {a : Int} (h : un p (x.get T) = .v (.int k a)) : ev (.mov x) p T H nx = some (.v (.int k a), .no) := by rw [ev_mov, h]
theorem e_movB {a : Bool} (h : un p (x.get T) = B a) : ev (.mov x) p T H nx = some (B a, .no) := by rw [ev_mov, h]
theorem e_movL {f : Bool} {xs : List (List DV)} (h : un p (x.get T) = .lst f xs) : ev (.mov x) p T H nx = some (.lst f xs, .no) := by rw [ev_mov, h]
theorem e_movO {o g i f : Nat} (h : un p (x.get T) = .own o g i f) : ev (.mov x) p T H nx = some (.own o g i f, .no) := by rw [ev_mov, h]
section bin
variable {a b : Int} {k : IntKind}
theorem e_lss (hx : un p (x.get T) = .v (.int k a)) (hy : un p (y.get T) = .v (.int k b)) : ev (.bin .lss x y) p T H nx = some (B (decide (a < b)), .no) := by rw [ev_bin, hx, hy, binV_lss]; rfl
theorem e_eql (hx : un p (x.get T) = .v (.int k a)) (hy : un p (y.get T) = .v (.int k b)) : ev (.bin .eql x y) p T H nx = some (B (a == b), .no) := by rw [ev_bin, hx, hy, binV_eql]; rfl
theorem e_add (hx : un p (x.get T) = I a) (hy : un p (y.get T) = I b) : ev (.bin .add x y) p T H nx = some (I (IntKind.i64.wrap (a + b)), .no) := by rw [ev_bin, hx, hy, binV_add]; rfl
end bin
theorem e_ldp {o g i f sz : Nat} {xs : List (List DV)} {c : DV} (h : un p (x.get T) = .ptr o g i f) (hH : H o = some ⟨g, sz, xs⟩) (hc : (xs.getD i [])[f]? = some c) : ev (.load false 1 x) p T H nx = some (c, .no) := by
  obtain ⟨hl, hc⟩ := List.getElem?_eq_some_iff.1 hc
  have hd : ((xs.getD i []).drop f).head? = some c := by rw [List.head?_drop, List.getElem?_eq_getElem hl, hc]
  rw [ev_load, h]; simp only [loadV, hH]
  rw [if_pos ⟨trivial, by omega⟩, hd]; rfl
theorem e_lda {o g i f n sz : Nat} {xs : List (List DV)} {cs : List DV} (h : un p (x.get T) = .ptr o g i f) (hH : H o = some ⟨g, sz, xs⟩) (hn : (f + n).ble (xs.getD i []).length = true) (hc : ((xs.getD i []).drop f).take n = cs) : ev (.load true n x) p T H nx = some (.agg cs, .no) := by
  rw [ev_load, h]; simp only [loadV, hH]
  rw [if_pos ⟨trivial, Nat.le_of_ble_eq_true hn⟩, hc]; rfl
theorem e_fap {off o g i f sz : Nat} {xs : List (List DV)} (h : un p (x.get T) = .ptr o g i f) (hH : H o = some ⟨g, sz, xs⟩) : ev (.fadr off x) p T H nx = some (.ptr o g i (f + off), .no) := by
  rw [ev_fadr, h]; simp [fadrV, live, hH]
theorem e_st {o g i f n sz : Nat} {xs : List (List DV)} {cs : List DV} {ys : List (List DV)} (h : un p (x.get T) = .ptr o g i f) (hd : dcells (un p (y.get T)) = some cs) (hH : H o = some ⟨g, sz, xs⟩) (hl : cs.length = n) (hn : (f + n).ble (xs.getD i []).length = true)
    (hy : xs.set i (putCells (xs.getD i []) f cs) = ys) : ev (.store n x y) p T H nx = some (.v undef, .wr o ⟨g, sz, ys⟩) := by
  rw [ev_store, h]; simp only [storeV, hd, hH]
  rw [if_pos ⟨trivial, hl, Nat.le_of_ble_eq_true hn⟩, hy]; rfl
end ge

section tq
variable {K : St → Prop} {Q : Exit → St → Prop} {s : St} {id id' : Nat}
theorem tq_nrm (h : K s) : thenQ K Q .normal s := h
theorem tq_ex (h : Q (.exit id) s) : thenQ K Q (.exit id) s := h
theorem iq_nrm (h : Q .normal s) : inQ id Q .normal s := h
theorem iq_ex (h : Q .normal s) : inQ id Q (.exit id) s := by simp only [inQ, if_true]; exact h
end tq

section trim
variable {P : Program} {cx : Cx} {ow : Nat → Bool} {Q : Exit → St → Prop}

def mkT : List (Nat × DV) → Nat → DV
  | [] => fun _ => .any
  | x :: r => upd (mkT r) x.1 x.2

/-- A heap, written out. -/
def mkH : List (Nat × Ck) → Hp
  | [] => Hp.emp
  | x :: r => (mkH r).put x.1 (some x.2)

def Has (T : Nat → DV) : List (Nat × DV) → Prop
  | [] => True
  | x :: r => T x.1 = x.2 ∧ Has T r

theorem Has.mk {T : Nat → DV} : ∀ {l : List (Nat × DV)}, Has T l → ∀ t, mkT l t = .any ∨ mkT l t = T t
  | [], _, t => .inl rfl
  | x :: r, h, t => by
    by_cases e : t = x.1
    · subst e; right; simp only [mkT, upd, if_true]; exact h.1.symm
    · simp only [mkT, upd, if_neg e]; exact Has.mk h.2 t

theorem Wk.refl (cx : Cx) (s : St) : Wk cx s s := fun ps _ _ R => ⟨ps, R⟩
theorem Wk.trans {s s' s'' : St} (h : Wk cx s s') (k : Wk cx s' s'') : Wk cx s s'' := fun ps a w R => by
  obtain ⟨ps', R'⟩ := h ps a w R; exact k ps' a w R'
theorem Wk.trim {T T' : Nat → DV} {H : Hp} {nx : Nat} (h : ∀ t, T' t = .any ∨ T' t = T t) : Wk cx ⟨T, H, nx⟩ ⟨T', H, nx⟩ := fun ps a w R =>
  ⟨ps, ⟨fun t => by rcases h t with e | e
                    · show VR _ _ _ _ _ (T' t) _; rw [e]; exact .any _
                    · show VR _ _ _ _ _ (T' t) _; rw [e]; exact R.t t, R.nt, R.hr, R.fr, R.lb, R.df, R.nbx, R.gm, R.fz⟩⟩
theorem Wk.live {T : Nat → DV} {H : Hp} {nx : Nat} (l : List (Nat × DV)) (h : Has T l) : Wk cx ⟨T, H, nx⟩ ⟨mkT l, H, nx⟩ := Wk.trim h.mk

/-- Chunks that are no longer used are forgotten, and newer numbers pass. -/
theorem Wk.drop {T : Nat → DV} {H H' : Hp} {nx nx' : Nat} (hH : ∀ o, H' o = none ∨ H' o = H o) (hn : nx ≤ nx') : Wk cx ⟨T, H, nx⟩ ⟨T, H', nx'⟩ := fun ps a w R => by
  have kp : Kp H ps cx.M nx w H' ps cx.M nx' w := by
    refine ⟨hn, fun o ho ck' hk => ?_, fun b hb => .inl ?_, fun _ _ _ => rfl⟩
    · rcases hH o with e | e
      · rw [e] at hk; cases hk
      · rw [e] at hk; exact ⟨ck', hk, .inr ⟨rfl, rfl, Nat.le_refl _, rfl⟩⟩
    · rcases hb with hb | ⟨o, ck, p, h1, h2, h3⟩
      · exact .inl hb
      · rcases hH o with e | e
        · rw [e] at h1; cases h1
        · rw [e] at h1; exact .inr ⟨o, ck, p, h1, h2, h3⟩
  have up : ∀ o ck, H' o = some ck → H o = some ck := fun o ck h => by
    rcases hH o with e | e
    · rw [e] at h; cases h
    · rw [e] at h; exact h
  exact ⟨ps, ⟨fun t => (R.t t).mono kp, R.nt,
    ⟨fun o ck h => Nat.lt_of_lt_of_le (R.hr.lt o ck (up o ck h)) hn, fun o ck h => (R.hr.cr o ck (up o ck h)).mono kp rfl fun _ _ => rfl, fun o o' ck ck' p p' h1 h2 => R.hr.inj o o' ck ck' p p' (up _ _ h1) (up _ _ h2), R.hr.ml, fun o ck p h1 => R.hr.dj o ck p (up _ _ h1)⟩,
    R.fr, fun o ck p h1 => R.lb o ck p (up _ _ h1), R.df, Nat.le_trans R.nbx hn, fun o ho ck' hk => R.gm o ho ck' (up _ _ hk), R.fz⟩⟩

theorem AWP.live {ac : AC} {T : Nat → DV} {H : Hp} {nx : Nat} (l : List (Nat × DV)) (h : Has T l) (k : AWP P cx ow ac Q ⟨mkT l, H, nx⟩) : AWP P cx ow ac Q ⟨T, H, nx⟩ := AWP.wk (Wk.live l h) k

/-- At the head of a loop. -/
def AWPL (P : Program) (cx : Cx) (ow : Nat → Bool) (x : AC) (Q : Exit → St → Prop) (s : St) : Prop :=
  Hm P cx → ∀ c, comp P cx.nt ow c = some x → x.nofz cx.fz → ∀ ps a w, RS cx s ps a w → ∀ (b : Frame) (k : List Item) (cs : List Frame), b.roundOf = cx.ro →
    ∃ e a' w', (∃ s' ps', RS cx s' ps' a' w' ∧ Q e s') ∧ ArrivesIn (Machine.fenced P (FR cx.ro)) P (lone (b.atR a (.code c :: .inLoop c :: k)) cs w) b k cs e a' w'

theorem AWPL.wk {x : AC} {s s' : St} (h : Wk cx s s') (k : AWPL P cx ow x Q s') : AWPL P cx ow x Q s := fun hm c hc hz ps a w R => by
  obtain ⟨ps', R'⟩ := h ps a w R
  exact k hm c hc hz ps' a w R'
theorem AWPL.live {x : AC} {T : Nat → DV} {H : Hp} {nx : Nat} (l : List (Nat × DV)) (h : Has T l) (k : AWPL P cx ow x Q ⟨mkT l, H, nx⟩) : AWPL P cx ow x Q ⟨T, H, nx⟩ := AWPL.wk (Wk.live l h) k
theorem roomFR {ro : Option Nat} (n : Nat) : (FR ro).room n := fun d h => by cases h

/-- A loop is its body, then the loop. -/
theorem AWPL.unroll {x : AC} {s : St} (h : AWP P cx ow x (thenQ (fun s' => AWPL P cx ow x Q s') Q) s) : AWPL P cx ow x Q s := fun hm c1 h1 hz ps a w R b k cs hro => by
  obtain ⟨e, a₁, w₁, ⟨s₁, ps₁, R₁, hq⟩, harr⟩ := h hm c1 h1 hz ps a w R b (.inLoop c1 :: k) cs hro trivial (roomFR _)
  cases e with
  | normal =>
    obtain ⟨e₂, a₂, w₂, hq₂, harr₂⟩ := hq hm c1 h1 hz ps₁ a₁ w₁ R₁ b k cs hro
    exact ⟨e₂, a₂, w₂, hq₂, .of_steps (StepsIn.trans harr (.one (fenced_calm (F := FR cx.ro) (n := 0) trivial (roomFR _) rfl) stepR_inLoop)) harr₂⟩
  | exit id => exact ⟨_, a₁, w₁, ⟨s₁, ps₁, R₁, hq⟩, .pass (x := .inLoop c1) rfl (fun _ _ => .inl (by simp)) harr⟩
  | goto l => exact ⟨_, a₁, w₁, ⟨s₁, ps₁, R₁, hq⟩, .pass (x := .inLoop c1) rfl (fun _ _ => .inl (by simp)) harr⟩
  | ret => exact ⟨_, a₁, w₁, ⟨s₁, ps₁, R₁, hq⟩, .pass (x := .inLoop c1) rfl (fun _ _ => .inl (by simp)) harr⟩
  | panic ch => exact ⟨_, a₁, w₁, ⟨s₁, ps₁, R₁, hq⟩, .pass (x := .inLoop c1) rfl (fun _ _ => .inl (by simp)) harr⟩
  | outgrown => exact ⟨_, a₁, w₁, ⟨s₁, ps₁, R₁, hq⟩, .pass (x := .inLoop c1) rfl (fun _ _ => .inl (by simp)) harr⟩

theorem AWP.loopL {x : AC} {s : St} (h : AWPL P cx ow x Q s) : AWP P cx ow (.loop x) Q s := fun hm c hc hz ps a w R => by
  cases c with
  | loop c1 =>
    simp only [comp] at hc
    split at hc
    · rename_i x' h1
      injection hc with hc; injection hc with e1; subst e1
      intro b k cs hro _ _
      obtain ⟨e, a', w', hq, harr⟩ := h hm c1 h1 hz ps a w R b k cs hro
      exact ⟨e, a', w', hq, .of_steps (.one (fenced_calm (F := FR cx.ro) (n := 0) trivial (roomFR _) rfl) stepR_loop) harr⟩
    · cases hc
  | _ => exfalso; simp only [comp] at hc; revert hc; (repeat' split) <;> simp
theorem AWPL.unr {x y : AC} {s : St} (e : x = y) (h : AWP P cx ow y (thenQ (fun s' => AWPL P cx ow x Q s') Q) s) : AWPL P cx ow x Q s := AWPL.unroll (by rw [e] at h ⊢; exact h)
theorem AWP.condT {c : RO} {x y : AC} {s : St} {b : Bool} (hb : c.get s.T = .v (.bool b)) (h : b = true) (k : AWP P cx ow x Q s) : AWP P cx ow (.cond c x y) Q s := AWP.cond hb (fun _ => k) (fun e => by rw [h] at e; cases e)
theorem AWP.condF {c : RO} {x y : AC} {s : St} {b : Bool} (hb : c.get s.T = .v (.bool b)) (h : b = false) (k : AWP P cx ow y Q s) : AWP P cx ow (.cond c x y) Q s := AWP.cond hb (fun e => by rw [h] at e; cases e) (fun _ => k)
end trim

section more
variable {p q : Bool} {T : Nat → DV} {H : Hp} {nx : Nat} {x y z : RO}
theorem e_bsl {sz : Nat} {z : List DV} {len : Nat} {ps : List (Nat × RO)} {xs : List (List DV)} (h : bslP (fun x : RO => un p (x.get T)) sz (List.replicate len z) ps = some xs) : ev (.bslice false sz z len ps) p T H nx = some (.lst true xs, .no) := by rw [ev_bslice, h]; rfl
theorem e_lenL {f : Bool} {xs : List (List DV)} {n : Int} (h : un p (x.get T) = .lst f xs) (hn : (xs.length : Int) = n) : ev (.len x) p T H nx = some (I n, .no) := by rw [ev_len, h, ← hn]; rfl
/-- An element of a list that is only read. -/
theorem e_ixL {f : Bool} {xs : List (List DV)} {n : Int} {sz : Nat} {cs : List DV} (h : un p (x.get T) = .lst f xs) (hi : un p (y.get T) = I n) (h0 : 0 ≤ n) (hl : n < xs.length) (hc : xs.getD n.toNat [] = cs) (hs : cs.length = sz) : ev (.iadrS sz x y) p T H nx = some (.rp cs, .no) := by
  rw [ev_iadrS, h, hi]; simp only [idxV]; rw [if_pos ⟨h0, hl, by rw [hc]; exact hs⟩, hc]
end more
section sets
end sets
end Go.Pv
