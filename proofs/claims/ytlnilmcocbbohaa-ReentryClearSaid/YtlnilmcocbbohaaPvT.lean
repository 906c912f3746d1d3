/- Rules by which one operation is reckoned at once, loops by unrolling, states cut down to what lives. No condition of its own: over any program. -/
import Derived.Test.YtlnilmcocbbohaaPvS
set_option linter.all false
namespace Go.Pv
open Go.RowKit

section ge
variable {p q : Bool} {T : Nat → DV} {H : Hp} {nx : Nat} {x y z : RO}
theorem un_gd' {d : DV} (hx : x.get T = .gd q d) (h : (!p || q) = true) : un p (x.get T) = d := by rw [hx]; simp only [un, h, if_true]
theorem g_bt {t : Nat} {b : Bool} (h : T t = B b) : gv (T t) true = some b := by rw [h]; cases b <;> rfl
theorem g_bf {t : Nat} {b : Bool} (h : T t = B b) : gv (T t) false = some (!b) := by rw [h]; cases b <;> rfl
theorem g_gt {t : Nat} {b : Bool} (h : T t = .gd q (B b)) : gv (T t) true = some (q && b) := by rw [h]; cases q <;> cases b <;> rfl
theorem g_gf {t : Nat} {b : Bool} (h : T t = .gd q (B b)) : gv (T t) false = some (q && !b) := by rw [h]; cases q <;> cases b <;> rfl

theorem e_mov {d : DV} (h : un p (x.get T) = d) : ev (.mov x) p T H nx = some (d, .no) := by rw [ev_mov, h]
theorem e_movI {k : IntKind} {a : Int} (h : un p (x.get T) = .v (.int k a)) : ev (.mov x) p T H nx = some (.v (.int k a), .no) := by rw [ev_mov, h]
theorem e_movB {a : Bool} (h : un p (x.get T) = B a) : ev (.mov x) p T H nx = some (B a, .no) := by rw [ev_mov, h]
theorem e_movP {o g i f : Nat} (h : un p (x.get T) = .ptr o g i f) : ev (.mov x) p T H nx = some (.ptr o g i f, .no) := by rw [ev_mov, h]
theorem e_movA {cs : List DV} (h : un p (x.get T) = .agg cs) : ev (.mov x) p T H nx = some (.agg cs, .no) := by rw [ev_mov, h]
theorem e_movL {f : Bool} {xs : List (List DV)} (h : un p (x.get T) = .lst f xs) : ev (.mov x) p T H nx = some (.lst f xs, .no) := by rw [ev_mov, h]
theorem e_movO {o g i f : Nat} (h : un p (x.get T) = .own o g i f) : ev (.mov x) p T H nx = some (.own o g i f, .no) := by rw [ev_mov, h]
theorem e_movR {cs : List DV} (h : un p (x.get T) = .rp cs) : ev (.mov x) p T H nx = some (.rp cs, .no) := by rw [ev_mov, h]
theorem e_movT {cs : List DV} (h : un p (x.get T) = .tup cs) : ev (.mov x) p T H nx = some (.tup cs, .no) := by rw [ev_mov, h]
theorem e_movF {f : FuncId} {cs : List DV} (h : un p (x.get T) = .fn f cs) : ev (.mov x) p T H nx = some (.fn f cs, .no) := by rw [ev_mov, h]
theorem e_movV {v : Value} (h : un p (x.get T) = .v v) : ev (.mov x) p T H nx = some (.v v, .no) := by rw [ev_mov, h]

section bin
variable {a b : Int} {k : IntKind}
theorem e_lss (hx : un p (x.get T) = .v (.int k a)) (hy : un p (y.get T) = .v (.int k b)) : ev (.bin .lss x y) p T H nx = some (B (decide (a < b)), .no) := by rw [ev_bin, hx, hy, binV_lss]; rfl
theorem e_leq (hx : un p (x.get T) = .v (.int k a)) (hy : un p (y.get T) = .v (.int k b)) : ev (.bin .leq x y) p T H nx = some (B (decide (a ≤ b)), .no) := by rw [ev_bin, hx, hy, binV_leq]; rfl
theorem e_gtr (hx : un p (x.get T) = .v (.int k a)) (hy : un p (y.get T) = .v (.int k b)) : ev (.bin .gtr x y) p T H nx = some (B (decide (b < a)), .no) := by rw [ev_bin, hx, hy, binV_gtr]; rfl
theorem e_geq (hx : un p (x.get T) = .v (.int k a)) (hy : un p (y.get T) = .v (.int k b)) : ev (.bin .geq x y) p T H nx = some (B (decide (b ≤ a)), .no) := by rw [ev_bin, hx, hy, binV_geq]; rfl
theorem e_eql (hx : un p (x.get T) = .v (.int k a)) (hy : un p (y.get T) = .v (.int k b)) : ev (.bin .eql x y) p T H nx = some (B (a == b), .no) := by rw [ev_bin, hx, hy, binV_eql]; rfl
theorem e_neq (hx : un p (x.get T) = .v (.int k a)) (hy : un p (y.get T) = .v (.int k b)) : ev (.bin .neq x y) p T H nx = some (B (a != b), .no) := by rw [ev_bin, hx, hy, binV_neq]; rfl
theorem e_add (hx : un p (x.get T) = I a) (hy : un p (y.get T) = I b) : ev (.bin .add x y) p T H nx = some (I (IntKind.i64.wrap (a + b)), .no) := by rw [ev_bin, hx, hy, binV_add]; rfl
theorem e_sub (hx : un p (x.get T) = I a) (hy : un p (y.get T) = I b) : ev (.bin .sub x y) p T H nx = some (I (IntKind.i64.wrap (a - b)), .no) := by rw [ev_bin, hx, hy, binV_sub]; rfl
theorem e_mul (hx : un p (x.get T) = I a) (hy : un p (y.get T) = I b) : ev (.bin .mul x y) p T H nx = some (I (IntKind.i64.wrap (a * b)), .no) := by rw [ev_bin, hx, hy, binV_mul]; rfl
theorem e_quo (hx : un p (x.get T) = I a) (hy : un p (y.get T) = I b) (h0 : b ≠ 0) : ev (.bin .quo x y) p T H nx = some (I (IntKind.i64.wrap (a.tdiv b)), .no) := by rw [ev_bin, hx, hy, binV_quo, if_neg h0]; rfl
theorem e_rem (hx : un p (x.get T) = I a) (hy : un p (y.get T) = I b) (h0 : b ≠ 0) : ev (.bin .rem x y) p T H nx = some (I (a.tmod b), .no) := by rw [ev_bin, hx, hy, binV_rem, if_neg h0]; rfl
theorem e_not {c : Bool} (hx : un p (x.get T) = B c) : ev (.un .not x) p T H nx = some (B (!c), .no) := by rw [ev_un, hx, unV_not]; rfl
theorem e_neg (hx : un p (x.get T) = I a) : ev (.un .neg x) p T H nx = some (I (IntKind.i64.wrap (0 - a)), .no) := by rw [ev_un, hx, unV_neg]; rfl
end bin
theorem e_pick_and {c d : Bool} (h1 : x.get T = B c) (h2 : y.get T = .gd c (B d)) (h3 : z.get T = B false) : ev (.pick x y z) true T H nx = some (B (c && d), .no) := by
  rw [ev_pick, h1, h2, h3]; cases c <;> rfl
theorem e_pick_or {c d : Bool} (h1 : x.get T = B c) (h2 : y.get T = B true) (h3 : z.get T = .gd (!c) (B d)) : ev (.pick x y z) true T H nx = some (B (c || d), .no) := by
  rw [ev_pick, h1, h2, h3]; cases c <;> rfl
theorem e_box {cs : List DV} (h : dcells (un p (x.get T)) = some cs) : ev (.box x) p T H nx = some (.ptr nx 0 0 0, .al ⟨0, cs.length, [cs]⟩) := by rw [ev_box, h]; rfl
theorem e_ldr {c : DV} {cs : List DV} (h : un p (x.get T) = .rp (c :: cs)) : ev (.load false 1 x) p T H nx = some (c, .no) := by rw [ev_load, h]; simp [loadV]
theorem e_ldp {o g i f sz : Nat} {xs : List (List DV)} {c : DV} (h : un p (x.get T) = .ptr o g i f) (hH : H o = some ⟨g, sz, xs⟩) (hc : (xs.getD i [])[f]? = some c) : ev (.load false 1 x) p T H nx = some (c, .no) := by
  obtain ⟨hl, hc⟩ := List.getElem?_eq_some_iff.1 hc
  have hd : ((xs.getD i []).drop f).head? = some c := by rw [List.head?_drop, List.getElem?_eq_getElem hl, hc]
  rw [ev_load, h]; simp only [loadV, hH]
  rw [if_pos ⟨trivial, by omega⟩, hd]; rfl
theorem e_lda {o g i f n sz : Nat} {xs : List (List DV)} {cs : List DV} (h : un p (x.get T) = .ptr o g i f) (hH : H o = some ⟨g, sz, xs⟩) (hn : (f + n).ble (xs.getD i []).length = true) (hc : ((xs.getD i []).drop f).take n = cs) : ev (.load true n x) p T H nx = some (.agg cs, .no) := by
  rw [ev_load, h]; simp only [loadV, hH]
  rw [if_pos ⟨trivial, Nat.le_of_ble_eq_true hn⟩, hc]; rfl
theorem e_fap {off o g i f sz : Nat} {xs : List (List DV)} (h : un p (x.get T) = .ptr o g i f) (hH : H o = some ⟨g, sz, xs⟩) : ev (.fadr off x) p T H nx = some (.ptr o g i (f + off), .no) := by
  rw [ev_fadr, h]; simp [fadrV, live, hH]
theorem e_far {off : Nat} {cs ds : List DV} (h : un p (x.get T) = .rp cs) (hd : cs.drop off = ds) : ev (.fadr off x) p T H nx = some (.rp ds, .no) := by
  rw [ev_fadr, h, ← hd]; rfl
theorem e_nlp {o g i f sz : Nat} {xs : List (List DV)} (h : un p (x.get T) = .ptr o g i f) (hH : H o = some ⟨g, sz, xs⟩) : ev (.nilck x) p T H nx = some (.ptr o g i f, .no) := by
  rw [ev_nilck, h]; simp [nilckV, live, hH]
theorem e_ext {i : Nat} {vs : List DV} {d : DV} (h : un p (x.get T) = .tup vs) (hd : vs[i]? = some d) : ev (.extr i x) p T H nx = some (d, .no) := by
  rw [ev_extr, h]; simp [extrV, hd]
theorem e_st {o g i f n sz : Nat} {xs : List (List DV)} {cs : List DV} {ys : List (List DV)} (h : un p (x.get T) = .ptr o g i f) (hd : dcells (un p (y.get T)) = some cs) (hH : H o = some ⟨g, sz, xs⟩) (hl : cs.length = n) (hn : (f + n).ble (xs.getD i []).length = true)
    (hy : xs.set i (putCells (xs.getD i []) f cs) = ys) : ev (.store n x y) p T H nx = some (.v undef, .wr o ⟨g, sz, ys⟩) := by
  rw [ev_store, h]; simp only [storeV, hd, hH]
  rw [if_pos ⟨trivial, hl, Nat.le_of_ble_eq_true hn⟩, hy]; rfl
end ge

section tq
variable {K : St → Prop} {Q : Exit → St → Prop} {s : St} {id id' : Nat}
theorem tq_ret (h : Q .ret s) : thenQ K Q .ret s := h
theorem tq_nrm (h : K s) : thenQ K Q .normal s := h
theorem tq_ex (h : Q (.exit id) s) : thenQ K Q (.exit id) s := h
theorem iq_ret (h : Q .ret s) : inQ id Q .ret s := h
theorem iq_nrm (h : Q .normal s) : inQ id Q .normal s := h
theorem iq_ex (h : Q .normal s) : inQ id Q (.exit id) s := by simp only [inQ, if_true]; exact h
theorem iq_ot (hn : id'.beq id = false) (h : Q (.exit id') s) : inQ id Q (.exit id') s := by
  have : id' ≠ id := fun e => by subst e; simp at hn
  simp only [inQ, if_neg this]; exact h
end tq

section trim
variable {P : Program} {cx : Cx} {ow : Nat → Bool} {Q : Exit → St → Prop}

def mkT : List (Nat × DV) → Nat → DV
  | [] => fun _ => .any
  | x :: r => upd (mkT r) x.1 x.2

/-- A heap, written out. -/
def mkH : List (Nat × Ck) → Hp
  | [] => Hp.emp
  | x :: r => (mkH r).put x.1 (some x.2)

def Has (T : Nat → DV) : List (Nat × DV) → Prop
  | [] => True
  | x :: r => T x.1 = x.2 ∧ Has T r

theorem Has.mk {T : Nat → DV} : ∀ {l : List (Nat × DV)}, Has T l → ∀ t, mkT l t = .any ∨ mkT l t = T t
  | [], _, t => .inl rfl
  | x :: r, h, t => by
    by_cases e : t = x.1
    · subst e; right; simp only [mkT, upd, if_true]; exact h.1.symm
    · simp only [mkT, upd, if_neg e]; exact Has.mk h.2 t

theorem Wk.refl (cx : Cx) (s : St) : Wk cx s s := fun ps _ _ R => ⟨ps, R⟩
theorem Wk.trans {s s' s'' : St} (h : Wk cx s s') (k : Wk cx s' s'') : Wk cx s s'' := fun ps a w R => by
  obtain ⟨ps', R'⟩ := h ps a w R; exact k ps' a w R'
theorem Wk.trim {T T' : Nat → DV} {H : Hp} {nx : Nat} (h : ∀ t, T' t = .any ∨ T' t = T t) : Wk cx ⟨T, H, nx⟩ ⟨T', H, nx⟩ := fun ps a w R =>
  ⟨ps, ⟨fun t => by rcases h t with e | e
                    · show VR _ _ _ _ _ (T' t) _; rw [e]; exact .any _
                    · show VR _ _ _ _ _ (T' t) _; rw [e]; exact R.t t, R.nt, R.hr, R.fr, R.lb, R.df, R.nbx, R.gm⟩⟩
theorem Wk.live {T : Nat → DV} {H : Hp} {nx : Nat} (l : List (Nat × DV)) (h : Has T l) : Wk cx ⟨T, H, nx⟩ ⟨mkT l, H, nx⟩ := Wk.trim h.mk

/-- Chunks that are no longer used are forgotten, and newer numbers pass. -/
theorem Wk.drop {T : Nat → DV} {H H' : Hp} {nx nx' : Nat} (hH : ∀ o, H' o = none ∨ H' o = H o) (hn : nx ≤ nx') : Wk cx ⟨T, H, nx⟩ ⟨T, H', nx'⟩ := fun ps a w R => by
  have kp : Kp H ps cx.M nx w H' ps cx.M nx' w := by
    refine ⟨hn, fun o ho ck' hk => ?_, fun b hb => .inl ?_, fun _ _ _ => rfl⟩
    · rcases hH o with e | e
      · rw [e] at hk; cases hk
      · rw [e] at hk; exact ⟨ck', hk, .inr ⟨rfl, rfl, Nat.le_refl _, rfl⟩⟩
    · rcases hb with hb | ⟨o, ck, p, h1, h2, h3⟩
      · exact .inl hb
      · rcases hH o with e | e
        · rw [e] at h1; cases h1
        · rw [e] at h1; exact .inr ⟨o, ck, p, h1, h2, h3⟩
  have up : ∀ o ck, H' o = some ck → H o = some ck := fun o ck h => by
    rcases hH o with e | e
    · rw [e] at h; cases h
    · rw [e] at h; exact h
  exact ⟨ps, ⟨fun t => (R.t t).mono kp, R.nt,
    ⟨fun o ck h => Nat.lt_of_lt_of_le (R.hr.lt o ck (up o ck h)) hn, fun o ck h => (R.hr.cr o ck (up o ck h)).mono kp rfl fun _ _ => rfl, fun o o' ck ck' p p' h1 h2 => R.hr.inj o o' ck ck' p p' (up _ _ h1) (up _ _ h2), R.hr.ml, fun o ck p h1 => R.hr.dj o ck p (up _ _ h1)⟩,
    R.fr, fun o ck p h1 => R.lb o ck p (up _ _ h1), R.df, Nat.le_trans R.nbx hn, fun o ho ck' hk => R.gm o ho ck' (up _ _ hk)⟩⟩

theorem AWP.live {ac : AC} {T : Nat → DV} {H : Hp} {nx : Nat} (l : List (Nat × DV)) (h : Has T l) (k : AWP P cx ow ac Q ⟨mkT l, H, nx⟩) : AWP P cx ow ac Q ⟨T, H, nx⟩ := AWP.wk (Wk.live l h) k

/-- At the head of a loop. -/
def AWPL (P : Program) (cx : Cx) (ow : Nat → Bool) (x : AC) (Q : Exit → St → Prop) (s : St) : Prop :=
  P.follows .mixedOrders = true → ∀ c, comp P cx.nt ow c = some x → ∀ ps a w, RS cx s ps a w → ∀ (b : Frame) (k : List Item) (cs : List Frame),
    ∃ e a' w', (∃ s' ps', RS cx s' ps' a' w' ∧ Q e s') ∧ Arrives P (lone (b.at a (.code c :: .inLoop c :: k)) cs w) b k cs e a' w'

theorem AWPL.wk {x : AC} {s s' : St} (h : Wk cx s s') (k : AWPL P cx ow x Q s') : AWPL P cx ow x Q s := fun hm c hc ps a w R => by
  obtain ⟨ps', R'⟩ := h ps a w R
  exact k hm c hc ps' a w R'
theorem AWPL.live {x : AC} {T : Nat → DV} {H : Hp} {nx : Nat} (l : List (Nat × DV)) (h : Has T l) (k : AWPL P cx ow x Q ⟨mkT l, H, nx⟩) : AWPL P cx ow x Q ⟨T, H, nx⟩ := AWPL.wk (Wk.live l h) k

/-- A loop is its body, then the loop. -/
theorem AWPL.unroll {x : AC} {s : St} (h : AWP P cx ow x (thenQ (fun s' => AWPL P cx ow x Q s') Q) s) : AWPL P cx ow x Q s := fun hm c1 h1 ps a w R b k cs => by
  obtain ⟨e, a₁, w₁, ⟨s₁, ps₁, R₁, hq⟩, harr⟩ := h hm c1 h1 ps a w R b (.inLoop c1 :: k) cs
  cases e with
  | normal =>
    obtain ⟨e₂, a₂, w₂, hq₂, harr₂⟩ := hq hm c1 h1 ps₁ a₁ w₁ R₁ b k cs
    exact ⟨e₂, a₂, w₂, hq₂, .of_steps (Steps.trans harr (.one step_inLoop)) harr₂⟩
  | exit id => exact ⟨_, a₁, w₁, ⟨s₁, ps₁, R₁, hq⟩, .pass (x := .inLoop c1) rfl (fun _ _ => .inl (by simp)) harr⟩
  | goto l => exact ⟨_, a₁, w₁, ⟨s₁, ps₁, R₁, hq⟩, .pass (x := .inLoop c1) rfl (fun _ _ => .inl (by simp)) harr⟩
  | ret => exact ⟨_, a₁, w₁, ⟨s₁, ps₁, R₁, hq⟩, .pass (x := .inLoop c1) rfl (fun _ _ => .inl (by simp)) harr⟩
  | panic ch => exact ⟨_, a₁, w₁, ⟨s₁, ps₁, R₁, hq⟩, .pass (x := .inLoop c1) rfl (fun _ _ => .inl (by simp)) harr⟩
  | outgrown => exact ⟨_, a₁, w₁, ⟨s₁, ps₁, R₁, hq⟩, .pass (x := .inLoop c1) rfl (fun _ _ => .inl (by simp)) harr⟩

theorem AWP.loopL {x : AC} {s : St} (h : AWPL P cx ow x Q s) : AWP P cx ow (.loop x) Q s := fun hm c hc ps a w R => by
  cases c with
  | loop c1 =>
    simp only [comp] at hc
    split at hc
    · rename_i x' h1
      injection hc with hc; injection hc with e1; subst e1
      intro b k cs
      obtain ⟨e, a', w', hq, harr⟩ := h hm c1 h1 ps a w R b k cs
      exact ⟨e, a', w', hq, .of_steps (.one step_loop) harr⟩
    · cases hc
  | _ => exfalso; simp only [comp] at hc; revert hc; (repeat' split) <;> simp
theorem AWPL.unr {x y : AC} {s : St} (e : x = y) (h : AWP P cx ow y (thenQ (fun s' => AWPL P cx ow x Q s') Q) s) : AWPL P cx ow x Q s := AWPL.unroll (by rw [e] at h ⊢; exact h)
theorem AWP.condT {c : RO} {x y : AC} {s : St} {b : Bool} (hb : c.get s.T = .v (.bool b)) (h : b = true) (k : AWP P cx ow x Q s) : AWP P cx ow (.cond c x y) Q s := AWP.cond hb (fun _ => k) (fun e => by rw [h] at e; cases e)
theorem AWP.condF {c : RO} {x y : AC} {s : St} {b : Bool} (hb : c.get s.T = .v (.bool b)) (h : b = false) (k : AWP P cx ow y Q s) : AWP P cx ow (.cond c x y) Q s := AWP.cond hb (fun e => by rw [h] at e; cases e) (fun _ => k)
end trim

section more
variable {p q : Bool} {T : Nat → DV} {H : Hp} {nx : Nat} {x y z : RO}
theorem e_bsl {sz : Nat} {z : List DV} {len : Nat} {ps : List (Nat × RO)} {xs : List (List DV)} (h : bslP (fun x : RO => un p (x.get T)) sz (List.replicate len z) ps = some xs) : ev (.bslice false sz z len ps) p T H nx = some (.lst true xs, .no) := by rw [ev_bslice, h]; rfl
theorem e_bslo {sz : Nat} {z : List DV} {len : Nat} {ps : List (Nat × RO)} {xs : List (List DV)} (h : bslP (fun x : RO => un p (x.get T)) sz (List.replicate len z) ps = some xs) : ev (.bslice true sz z len ps) p T H nx = some (.own nx 0 0 len, .al ⟨0, sz, xs⟩) := by rw [ev_bsliceo, h]; rfl
theorem e_lenL {f : Bool} {xs : List (List DV)} {n : Int} (h : un p (x.get T) = .lst f xs) (hn : (xs.length : Int) = n) : ev (.len x) p T H nx = some (I n, .no) := by rw [ev_len, h, ← hn]; rfl
theorem e_lenO {o g lo n : Nat} {ck : Ck} (h : un p (x.get T) = .own o g lo n) (hH : H o = some ck) (hg : ck.gen = g) : ev (.len x) p T H nx = some (I n, .no) := by rw [ev_len, h]; simp [lenV, live, hH, hg]
/-- An element of a list that is only read. -/
theorem e_ixL {f : Bool} {xs : List (List DV)} {n : Int} {sz : Nat} {cs : List DV} (h : un p (x.get T) = .lst f xs) (hi : un p (y.get T) = I n) (h0 : 0 ≤ n) (hl : n < xs.length) (hc : xs.getD n.toNat [] = cs) (hs : cs.length = sz) : ev (.iadrS sz x y) p T H nx = some (.rp cs, .no) := by
  rw [ev_iadrS, h, hi]; simp only [idxV]; rw [if_pos ⟨h0, hl, by rw [hc]; exact hs⟩, hc]
theorem e_ixO {o g lo k : Nat} {n : Int} {sz : Nat} {xs : List (List DV)} (h : un p (x.get T) = .own o g lo k) (hi : un p (y.get T) = I n) (hH : H o = some ⟨g, sz, xs⟩) (h0 : 0 ≤ n) (hl : n < k) : ev (.iadrS sz x y) p T H nx = some (.ptr o g (lo + n.toNat) 0, .no) := by
  rw [ev_iadrS, h, hi]; simp only [idxV, hH]; rw [if_pos ⟨trivial, trivial, h0, hl⟩]
end more
section sets
def EE := And.intro @ev_mov (And.intro @ev_pick (And.intro @ev_box (And.intro @ev_alloc (And.intro @ev_build (And.intro @ev_load (And.intro @ev_store (And.intro @ev_bin (And.intro @ev_un (And.intro @ev_beq (And.intro @ev_nilck (And.intro @ev_fadr (And.intro @ev_conv (And.intro @ev_fld (And.intro @ev_eqa (And.intro @ev_extr (And.intro @get_t (And.intro @get_c (And.intro @un_v (And.intro
  @un_any (And.intro @un_ptr (And.intro @un_own (And.intro @un_lst (And.intro @un_rp (And.intro @un_agg (And.intro @un_tup (And.intro @un_fn (And.intro @un_gd (And.intro @upd_get (And.intro @loadV_ptr (And.intro @loadV_rp (And.intro @nilckV_ptr (And.intro @nilckV_rp (And.intro @nilckV_fn (And.intro @fadrV_ptr (And.intro @fadrV_rp (And.intro @binV_add (And.intro @binV_sub
  (And.intro @binV_mul (And.intro @binV_quo (And.intro @binV_rem (And.intro @binV_eql (And.intro @binV_neq (And.intro @binV_lss (And.intro @binV_leq (And.intro @binV_gtr (And.intro @binV_geq (And.intro @unV_not (And.intro @unV_neg (And.intro @dcells_int (And.intro @dcells_bool (And.intro @dcells_agg (And.intro @dcells_ptr (And.intro @dcells_own (And.intro @dcells_lst (And.intro
  @dcells_rp (And.intro @dcells_fn (And.intro @pickV_eq (And.intro @pickW_b (And.intro @pickU_b (And.intro @gv_b (And.intro @gv_g (And.intro @gv_u (And.intro @live_eq (And.intro @Hp.put_get (And.intro @List.getD_cons_zero.{0} (And.intro @List.drop_zero.{0} (And.intro @List.drop_succ_cons.{0} (And.intro @List.take_succ_cons.{0} (And.intro @List.take_zero.{0} (And.intro @List.take_nil.{0} (And.intro
  @List.drop_nil.{0} (And.intro @List.length_cons.{0} (And.intro @List.length_nil.{0} (And.intro @List.head?_cons.{0} (And.intro @List.set_cons_zero.{0} (And.intro @List.nil_append.{0} (And.intro @List.cons_append.{0} (And.intro @List.append_nil.{0} (And.intro @List.map_cons.{0, 0} (And.intro @List.map_nil.{0, 0} (And.intro @Option.map_some.{0, 0} (And.intro @Option.map_none.{0, 0} (And.intro @beq_true_eq (And.intro @beq_false_eq
  (And.intro @imp0 (And.intro @imp1 (And.intro @imp2 (And.intro @Bool.or_not_self (And.intro @Bool.not_or_self (And.intro @cond_and (And.intro @cond_or (And.intro @Bool.true_and (And.intro @Bool.and_true (And.intro @Bool.not_true (And.intro @Bool.not_false (And.intro @Bool.false_or (And.intro @Bool.or_false (And.intro @Bool.not_not (And.intro @Bool.false_eq_true (And.intro
  @Bool.bne_false (And.intro @Bool.bne_true (And.intro @and_self (And.intro @true_and (And.intro @and_true (And.intro @Nat.add_zero (And.intro @Nat.zero_add (And.intro @Nat.add_assoc (And.intro @Nat.add_eq_left (And.intro @Nat.left_eq_add (And.intro @Nat.one_ne_zero
  (@Nat.add_left_cancel_iff)))))))))))))))))))))))))))))))))))))))))))))))))))))))))))))))))))))))))))))))))))))))))))))))))))))))))))))))
def AL := And.intro @List.map_cons.{0, 0} (And.intro @List.map_nil.{0, 0} (And.intro @get_t (And.intro @get_c (And.intro @upd_get (And.intro @un_v (And.intro @un_ptr (And.intro @un_own (And.intro @un_lst (And.intro @un_rp (And.intro @un_agg (And.intro @un_tup (And.intro @un_fn (And.intro @un_gd (And.intro @imp0 (And.intro @imp1 (And.intro @imp2 (And.intro @beq_true_eq (@beq_false_eq))))))))))))))))))
def HE := And.intro @puts_cons (And.intro @puts_nil (And.intro @Hp.put_get (And.intro @Nat.add_left_cancel_iff (And.intro @Nat.add_eq_left (And.intro @Nat.left_eq_add (And.intro @Nat.add_assoc (@Nat.one_ne_zero)))))))
def CE := And.intro @List.getD_cons_zero.{0} (And.intro @List.drop_zero.{0} (And.intro @List.drop_succ_cons.{0} (And.intro @List.take_succ_cons.{0} (And.intro @List.take_zero.{0} (And.intro @List.take_nil.{0} (And.intro @List.drop_nil.{0} (And.intro @List.set_cons_zero.{0} (And.intro @List.nil_append.{0} (And.intro @List.cons_append.{0} (And.intro @List.append_nil.{0} (And.intro @List.length_cons.{0} (And.intro @List.length_nil.{0}
  (@Nat.zero_add)))))))))))))
def BE := And.intro @get_t (And.intro @get_c (And.intro @upd_get (And.intro @un_v (And.intro @un_ptr (And.intro @un_own (And.intro @un_lst (And.intro @un_rp (And.intro @un_agg (And.intro @dcells_int (And.intro @dcells_bool (And.intro @dcells_agg (And.intro @dcells_lst (And.intro @List.set_cons_zero.{0} (And.intro @List.set_cons_succ.{0} (And.intro @List.length_cons.{0} (And.intro @List.length_nil.{0}
  (And.intro @Nat.zero_add (And.intro @and_self (And.intro @and_true (And.intro @true_and (@Nat.lt_add_left_iff_pos)))))))))))))))))))))
end sets
end Go.Pv
