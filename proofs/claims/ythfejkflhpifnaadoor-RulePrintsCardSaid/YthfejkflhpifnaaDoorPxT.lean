/- Functions with a slice parameter that is an own array of the caller and is used up (RdOK), and their entries (rdE). No condition of its own: over any program. -/
import Derived.Test.YthfejkflhpifnaaDoorPxS
set_option linter.all false
namespace Go.Pv
open Go.RowKit

/-- A function of plain data, of an own array that it uses up, and of plain data. -/
def RdOK (P : Program) (f : FuncId) (ts1 : List GT) (t : GT) (ts2 : List GT) (rk : List RK) (model : Els ts1 → List (El t) → Els ts2 → Option (Els (RK.tys rk))) : Prop := ∀ x as y z, model x as y = some z →
  CallOK P f (valsD ts1 x ++ .own 0 0 0 as.length :: valsD ts2 y) [(0, ⟨0, t.sz, as.map (encD t)⟩)] 1 (resV (resD g0 rk z 1)) ((0, ⟨1, t.sz, []⟩) :: newC g0 rk z 1) (1 + newN rk)

section
variable {t : GT} {rk : List RK}
theorem rd_num (z : Els (RK.tys rk)) : ∀ k (hk : k < ((0, (⟨1, t.sz, []⟩ : Ck)) :: newC g0 rk z 1).length), ((0, (⟨1, t.sz, []⟩ : Ck)) :: newC g0 rk z 1)[k].1 = 0 + k := fun k hk => by
  cases k with
  | zero => rfl
  | succ k =>
    simp only [List.getElem_cons_succ]
    rw [newC_num]; omega
end

def finR' (rs : List RR) (rk : List RK) (si : SI) : Option (Els (RK.tys rk)) := match rrI si.T si.H rs with
  | some vs => decR rk vs si.H 1
  | none => none
def finR (ns : List NS) (rs : List RR) (rk : List RK) : Exit → SI → Option (Els (RK.tys rk))
  | .normal, si => (match normI 1 ns si with
    | some si => finR' rs rk si
    | none => none)
  | .ret, si => finR' rs rk si
  | _, _ => none

theorem rdOK {P : Program} {f nt : Nat} {ow : Nat → Bool} {tc : TC} {rs : List RR} {env : List (Nat × Ent)} {N : Nat} {ns : List NS} {ts1 : List GT} {t : GT} {ts2 : List GT} {rk : List RK} {model : Els ts1 → List (El t) → Els ts2 → Option (Els (RK.tys rk))} (hm : P.follows .mixedOrders = true) (hf : FnOK P f nt ow tc.er rs) (hE : EnvOK P env) (hh : tc.hok P nt ow false) (hlen : Nat.ble (ts1.length + 1 + ts2.length) nt = true)
    (hrun : ∀ x as y, run env N 1 tc ⟨argT0 (valsI ts1 x ++ .whole 0 :: valsI ts2 y) 0, [some (.arr t as)]⟩ (finR ns rs rk) = model x as y) : RdOK P f ts1 t ts2 rk model := by
  intro x as y z hz
  obtain ⟨fn, h1, h2, h3, rfl, h5, h6⟩ := hf.ex
  generalize hpost : ((0, (⟨1, t.sz, []⟩ : Ck)) :: newC g0 rk z 1) = post
  have lpost : post.length = 1 + newN rk := by rw [← hpost, List.length_cons, newC_len]; omega
  have npost := numb_of (l := post) (i := 0) fun k hk => by subst hpost; exact rd_num z k hk
  have pat : ∀ k (hk : k < post.length), ofL post k = some post[k].2 := fun k hk => by
    have := npost.get (H := Hp.emp) (k := k) hk
    rw [Nat.zero_add] at this
    rw [show ofL _ _ = _ from this]
    simp only [ckAt, List.getD_eq_getElem?_getD, List.getElem?_eq_getElem hk, Option.getD_some]
  have pget : ∀ o, o < 1 + newN rk → ∃ ck, ofL post o = some ck := fun o ho => ⟨_, pat o (by omega)⟩
  have pinv : ∀ o ck, ofL post o = some ck → ∃ (hk : o < post.length), ck = post[o].2 := fun o ck ho => by
    obtain ⟨k, hk, e, _⟩ := npost.mem ho
    have : o = k := by omega
    subst this
    refine ⟨hk, ?_⟩
    rw [pat o hk] at ho; injection ho with ho; exact ho.symm
  have pC : ∀ (k : Nat) c, (newC g0 rk z 1)[k]? = some c → ofL post (1 + k) = some c.2 := fun k c hk => by
    obtain ⟨hk1, hk2⟩ := List.getElem?_eq_some_iff.1 hk
    have hl : 1 + k < post.length := by rw [lpost]; rw [newC_len] at hk1; omega
    rw [pat _ hl]
    have : post[1 + k] = (newC g0 rk z 1)[k] := by
      have e : post[1 + k]? = (newC g0 rk z 1)[k]? := by rw [← hpost, Nat.add_comm 1 k, List.getElem?_cons_succ]
      rw [List.getElem?_eq_getElem hl, List.getElem?_eq_getElem hk1] at e
      injection e
    rw [this, hk2]
  have p0 : ofL post 0 = some ⟨1, t.sz, []⟩ := by
    rw [pat 0 (by rw [lpost]; omega)]
    simp only [← hpost, List.getElem_cons_zero]
  have parts : ∀ o ck, ofL post o = some ck → (o = 0 ∧ ck = ⟨1, t.sz, []⟩) ∨ ∃ k c, o = 1 + k ∧ (newC g0 rk z 1)[k]? = some c ∧ c.2 = ck := fun o ck ho => by
    cases o with
    | zero => rw [p0] at ho; injection ho with ho; exact .inl ⟨rfl, ho.symm⟩
    | succ k =>
      obtain ⟨hk, _⟩ := pinv _ ck ho
      have hl : k < (newC g0 rk z 1).length := by rw [newC_len]; rw [lpost] at hk; omega
      refine .inr ⟨k, _, by omega, List.getElem?_eq_getElem hl, ?_⟩
      have := pC k _ (List.getElem?_eq_getElem hl)
      rw [Nat.add_comm 1 k, ho] at this; injection this with this; exact this.symm
  refine CallOK.intro5 (fun o => Nat.beq o 0) hm h1 h2 h3 h5 h6 (by simp only [List.length_append, List.length_cons, valsD_len]; have := Nat.le_of_ble_eq_true hlen; omega) (fun o ck h => ?_) (fun o ck h hlt => ?_) (by omega) ?_ (fun o ck h x hx c hc => ?_) (fun o ck h => ?_) (fun o ck h hd => ?_) fun cx hcx hnb hro => ?_
  · have := ofL_mem h
    simp only [List.mem_singleton, Prod.mk.injEq] at this
    rw [this.1]; exact ⟨_, p0⟩
  · have : o = 0 := by omega
    subst this; exact ⟨_, rfl⟩
  · exact resV_ids (resD_ids g0 rk z _ fun o h1 h2 => .inl (pget o h2))
  · rcases parts o ck h with ⟨_, rfl⟩ | ⟨k, c0, rfl, hk, rfl⟩
    · cases hx
    · exact (fl_ids (newC_fl g0 rk z _ c0 (List.mem_of_getElem? hk)) x hx c hc).mono' fun _ h => h.elim
  · obtain ⟨hk, _⟩ := pinv o ck h
    rw [lpost] at hk; exact hk
  · have : o = 0 := Nat.eq_of_beq_eq_true hd
    subst this
    rw [p0] at h; injection h with h; subst h
    refine ⟨rfl, fun c0 hc0 => ?_⟩
    have hc0 : some (⟨0, t.sz, as.map (encD t)⟩ : Ck) = some c0 := hc0
    injection hc0 with hc0; subst hc0; exact Nat.zero_lt_one
  · have hs : SR ⟨argT0 (valsI ts1 x ++ .whole 0 :: valsI ts2 y) 0, [some (.arr t as)]⟩ ⟨ofArgs (valsD ts1 x ++ .own 0 0 0 as.length :: valsD ts2 y), ofL [(0, ⟨0, t.sz, as.map (encD t)⟩)], 1⟩ := by
      refine start_rel ((valsI_rel ts1 x).append ((valsI_rel ts2 y).cons (.whole _ _ _ Nat.zero_lt_one fun ck hk => ?_))) (fun o c hc => ?_) rfl
      · have hk : some (⟨0, t.sz, as.map (encD t)⟩ : Ck) = some ck := hk
        injection hk with hk; subst hk; exact ⟨rfl, List.length_map ..⟩
      · cases o with
        | zero =>
          simp only [getH, Option.some.injEq] at hc; subst hc
          exact ⟨Nat.zero_lt_one, ⟨0, t.sz, as.map (encD t)⟩, rfl, rfl, bothMap t as⟩
        | succ o => simp [getH] at hc
    have hr : run env N cx.nb tc ⟨argT0 (valsI ts1 x ++ .whole 0 :: valsI ts2 y) 0, [some (.arr t as)]⟩ (finR ns rs rk) = some z := by rw [hnb, ← hz]; exact hrun x as y
    refine (run_sound hE N tc cx (by rw [hcx, hro]; exact hh) _ _ _ hs hr).monoW ?_
    rintro e s' hnx ⟨si', k1, k2⟩
    have fin : ∀ (s' : St) (si' : SI), SR si' s' → finR' rs rk si' = some z → (∃ ds, rrV s'.T s'.H rs = some ds ∧ ∀ ps M w v, VR s'.H ps M s'.nx w (resV ds) v → VR (ofL post) (mask (fun o => Nat.beq o 0) ps) M (1 + newN rk) w (resV (resD g0 rk z 1)) v) ∧
        ∀ o ck, ofL post o = some ck → Nat.beq o 0 = false → ∃ c0, s'.H o = some c0 ∧ CkG (fun o => Nat.beq o 0) s'.H s'.nx (ofL post) (1 + newN rk) c0 ck ∧ (o < 1 → ck.gen = c0.gen) := by
      intro s' si' k1 k2
      unfold finR' at k2
      split at k2
      · rename_i vs hv
        obtain ⟨ds, q1, q2⟩ := rrI_rel k1 rs vs hv
        obtain ⟨q3, q4⟩ := decR_at k1 rk vs z 1 ds k2 q2
        have nwG : ∀ k c, (newC g0 rk z 1)[k]? = some c → ∃ c0, s'.H (1 + k) = some c0 ∧ CkW c0 ⟨c0.gen, c.2.sz, c.2.xs⟩ := fun k c hk => by
          rw [newC_g0 (gsOf s'.H), List.getElem?_map] at hk
          simp only [Option.map_eq_some_iff] at hk
          obtain ⟨c1, hk1, rfl⟩ := hk
          obtain ⟨c0, u1, u2⟩ := q4 k c1 hk1
          exact ⟨c0, u1, ⟨rfl, u2.s, u2.l, u2.r⟩⟩
        have ex : ∀ o ck, ofL post o = some ck → Nat.beq o 0 = false → ∃ c0, s'.H o = some c0 := fun o ck ho hd => by
          rcases parts o ck ho with ⟨rfl, _⟩ | ⟨k, c, rfl, hc, _⟩
          · cases hd
          · obtain ⟨c0, u, _⟩ := nwG k c hc; exact ⟨c0, u⟩
        refine ⟨⟨ds, q1, fun ps M w v hv => ?_⟩, fun o ck ho hd => ?_⟩
        · refine (resV_rg (resD_rg (dead := fun o => Nat.beq o 0) (H := s'.H) (H' := ofL post) (nx' := 1 + newN rk) rk z _ (fun k c hk => ?_) (fun k c hk => ?_))).vr ex ps M w v (resV_wk q3 _ _ _ _ _ _ hv)
          · have := (List.getElem?_eq_some_iff.1 hk).1
            rw [newC_len] at this
            refine ⟨by omega, ?_, q4 k c hk⟩
            rw [Nat.add_comm]; rfl
          · exact pC k c hk
        · rcases parts o ck ho with ⟨rfl, _⟩ | ⟨k, c, rfl, hc, rfl⟩
          · cases hd
          · obtain ⟨c0, u1, u2⟩ := nwG k c hc
            exact ⟨c0, u1, u2.toG ex (fl_ids (newC_fl g0 rk z _ c (List.mem_of_getElem? hc))), fun h => absurd h (by omega)⟩
      · cases k2
    cases e with
    | normal =>
      simp only [finR] at k2
      split at k2
      · rename_i si2 hg
        rw [← hnb] at hg
        obtain ⟨s2, w2, r2, _⟩ := normI_sound ns k1 hnx hg
        obtain ⟨a, b⟩ := fin s2 si2 r2 k2
        exact ⟨s2, w2, .inl rfl, a, b⟩
      · cases k2
    | ret => obtain ⟨a, b⟩ := fin s' si' k1 k2; exact ⟨s', Wk.refl _ _, .inr rfl, a, b⟩
    | _ => simp [finR] at k2

/-- The array is not there: a nil slice. -/
theorem CallOK.nilarg {P : Program} {f : FuncId} {a1 a2 : List DV} {sz : Nat} {res : DV} {post : Cks} {nx' : Nat} (h : CallOK P f (a1 ++ .own 0 0 0 0 :: a2) [(0, ⟨0, sz, []⟩)] 1 res ((0, ⟨1, sz, []⟩) :: post) nx') (h1 : ∀ d, d ∈ a1 → Ids (fun _ => False) d) (h2 : ∀ d, d ∈ a2 → Ids (fun _ => False) d) :
    CallOK P f (a1 ++ .lst true [] :: a2) [] 0 res ((0, ⟨1, sz, []⟩) :: post) nx' := by
  have hle := h.le
  have hS : ∀ o, ((∃ ck, ofL ((0, ⟨1, sz, []⟩) :: post) o = some ck) ∨ (1 ≤ o ∧ o < nx')) → ((∃ ck, ofL ((0, ⟨1, sz, []⟩) :: post) o = some ck) ∨ (0 ≤ o ∧ o < nx')) := fun o ho => ho.elim .inl fun ho => .inr ⟨Nat.zero_le _, ho.2⟩
  refine ⟨h.fn, fun o ck ho => (by cases ho), fun o ck ho hlt => absurd hlt (Nat.not_lt_zero _), Nat.zero_le _, h.ids.mono' hS, fun o ck ho x hx c hc => (h.idp o ck ho x hx c hc).mono' hS, fun M ps w cargs hR hsz hva hgl => ?_⟩
  let ps0 : Ps := fun _ => none
  have nolive : ∀ b, ¬ Live (ofL [(0, (⟨0, sz, []⟩ : Ck))]) ps0 b := by rintro b ⟨o, ck, p, _, h, _⟩; cases h
  have hR0 : HR (ofL [(0, (⟨0, sz, []⟩ : Ck))]) ps0 M 1 w := by
    refine ⟨fun o ck ho => ?_, fun o ck ho => ?_, fun o o' ck ck' p p' _ _ h => (by cases h), hR.ml, fun o ck p _ h => (by cases h)⟩
    · have := ofL_mem ho
      simp only [List.mem_singleton, Prod.mk.injEq] at this
      omega
    · have := ofL_mem ho
      simp only [List.mem_singleton, Prod.mk.injEq] at this
      exact .inl ⟨rfl, by rw [this.2]⟩
  have kp : KpS (fun _ => False) (ofL []) ps M 0 w (ofL [(0, (⟨0, sz, []⟩ : Ck))]) ps0 M 1 w :=
    ⟨fun o h => h.elim, fun o h => h.elim, fun b hb => .inl (hb.elim .inl fun h => absurd h (nolive b)), fun _ _ _ => rfl⟩
  have hlen : (a1 ++ .own 0 0 0 0 :: a2).length = (a1 ++ DV.lst true [] :: a2).length := by simp
  refine (h.run M ps0 w cargs hR0 (by rw [hsz, hlen]) (fun j hj => ?_) (hgl.less fun b hb => absurd hb (nolive b))).mono ?_
  · have hj' : j < (a1 ++ DV.lst true [] :: a2).length := by rw [← hlen]; exact hj
    have hv := hva j hj'
    by_cases q1 : j < a1.length
    · rw [List.getElem_append_left q1] at hv ⊢
      exact hv.monoS (h1 _ (List.getElem_mem q1)) kp
    · rw [List.getElem_append_right (by omega)] at hv ⊢
      by_cases q2 : j - a1.length = 0
      · simp only [q2, List.getElem_cons_zero] at hv ⊢
        generalize cargs.getD j undef = v0 at hv
        cases hv with
        | lnil _ a cap hf => exact .own _ _ _ _ _ Nat.zero_lt_one ⟨_, _, rfl⟩ fun ck hk => ⟨Nat.zero_le _, fun _ => ⟨by simp, a, cap, rfl, by simp [hf rfl], .inl (hf rfl)⟩⟩
        | lst _ _ _ _ _ _ _ hne => exact absurd rfl hne
      · obtain ⟨m, hm⟩ : ∃ m, j - a1.length = m + 1 := ⟨j - a1.length - 1, by omega⟩
        simp only [hm, List.getElem_cons_succ] at hv ⊢
        exact hv.monoS (h2 _ (List.getElem_mem _)) kp
  · rintro e w' ⟨v, ps', rfl, g1, g2, g3, g4, g5⟩
    refine ⟨v, ps', rfl, g1, g2, ⟨g3.os, g3.tape, g3.output, g3.size, fun b hb _ => g3.block b hb (nolive b)⟩, fun o ck p k1 k2 => ?_, fun o ho => absurd ho (Nat.not_lt_zero _)⟩
    rcases g4 o ck p k1 k2 with k | k
    · exact absurd k (nolive _)
    · exact .inr k

theorem rd_ren {P : Program} {f : FuncId} {args args' : List DV} {pre pre' : Cks} {p nb : Nat} {rk : List RK} {z : Els (RK.tys rk)} {sz o g i : Nat} {r γ : Nat → Nat} (h : CallOK P f args pre p (resV (resD g0 rk z 1)) ((0, ⟨1, sz, []⟩) :: newC g0 rk z 1) (1 + newN rk))
    (r0 : r 0 = o) (γ0 : γ 0 = g) (hr : ∀ k, k < newN rk → r (1 + k) = i + k ∧ γ (1 + k) = 0) (hinj : ∀ a b, a < 1 + newN rk → b < 1 + newN rk → r a = r b → a = b) (hold : ∀ j, j < p → r j < nb) (hnew : ∀ j, p ≤ j → j < 1 + newN rk → nb ≤ r j ∧ r j < nb + (1 + newN rk - p)) (hpre : Moved r γ p pre' pre) (ha : Both (Rn r γ p) args' args) :
    CallOK P f args' pre' nb (resV (resD g0 rk z i)) ((o, ⟨1 + g, sz, []⟩) :: newC g0 rk z i) (nb + (1 + newN rk - p)) ∧ Keyed ((o, (⟨1 + g, sz, []⟩ : Ck)) :: newC g0 rk z i) (1 + newN rk) r (ckAt ((o, ⟨1 + g, sz, []⟩) :: newC g0 rk z i)) := by
  have l1 : ((0, (⟨1, sz, []⟩ : Ck)) :: newC g0 rk z 1).length = 1 + newN rk := by rw [List.length_cons, newC_len]; omega
  have le : LE r γ (1 + newN rk) ((o, ⟨1 + g, sz, []⟩) :: newC g0 rk z i) ((0, ⟨1, sz, []⟩) :: newC g0 rk z 1) 0 :=
    LE.cons rfl r0.symm ⟨by rw [γ0], rfl, rfl, fun k h1 h2 => absurd h1 (Nat.not_lt_zero _)⟩ (newC_le rk z 1 i hr)
  have le0 : LE id g0 (1 + newN rk) ((0, ⟨1, sz, []⟩) :: newC g0 rk z 1) ((0, ⟨1, sz, []⟩) :: newC g0 rk z 1) 0 :=
    LE.cons rfl rfl ⟨rfl, rfl, rfl, fun k h1 h2 => absurd h1 (Nat.not_lt_zero _)⟩ (newC_le rk z 1 1 fun k hk => ⟨rfl, rfl⟩)
  have Kp : Keyed ((0, (⟨1, sz, []⟩ : Ck)) :: newC g0 rk z 1) (1 + newN rk) id (ckAt ((0, ⟨1, sz, []⟩) :: newC g0 rk z 1)) := le0.keyed l1 fun _ _ _ _ e => e
  have Kp' := le.keyed l1 hinj
  have ckp : ∀ k (hk : k < 1 + newN rk), CkE r γ (1 + newN rk) (γ k) (ckAt ((o, ⟨1 + g, sz, []⟩) :: newC g0 rk z i) k) (ckAt ((0, ⟨1, sz, []⟩) :: newC g0 rk z 1) k) := fun k hk => by
    have hk1 : k < ((0, (⟨1, sz, []⟩ : Ck)) :: newC g0 rk z 1).length := by rw [l1]; exact hk
    have hk2 : k < ((o, (⟨1 + g, sz, []⟩ : Ck)) :: newC g0 rk z i).length := by rw [le.len]; exact hk1
    have := (le.nth k hk1 hk2).2.2
    rw [Nat.zero_add] at this
    simp only [ckAt, List.getD_eq_getElem?_getD, List.getElem?_eq_getElem hk1, List.getElem?_eq_getElem hk2, Option.getD_some]
    exact this
  refine ⟨CallOK.rename (r := r) (γ := γ) h hinj hold hnew hpre (fun q ck' ho => ?_) (fun j ck hj => ?_) ha (resV_rn (resD_rn rk z 1 i fun k hk => ⟨by omega, hr k hk⟩)) (fun j hj => ⟨_, Kp.get hj Hp.emp⟩), Kp'⟩
  · obtain ⟨k, hk, rfl, rfl⟩ := Kp'.mem ho
    exact ⟨k, _, hk, rfl, Kp.get hk Hp.emp, ckp k hk⟩
  · obtain ⟨k, hk, e, rfl⟩ := Kp.mem hj
    simp only [id] at e; subst e
    exact ⟨hk, _, Kp'.get hk Hp.emp⟩

def rdE (ts1 : List GT) (t : GT) (ts2 : List GT) (rk : List RK) (model : Els ts1 → List (El t) → Els ts2 → Option (Els (RK.tys rk))) : Ent := fun args H k => match decVs ts1 (args.take ts1.length), args.drop ts1.length with
  | some x, v :: r => match decVs ts2 r with
    | some y => match v with
      | .nil => Option.bind (model x [] y) fun z => k (resI (resIV rk z (H.length + 1))) (H ++ (none :: newI rk z)) [] (H.length :: numsFrom (H.length + 1) (newN rk)) []
      | v => match decOA (.a t) [v] H with
        | some (as, [o], []) => Option.bind (model x as y) fun z => k (resI (resIV rk z H.length)) (setH (killHs [o] H) o none ++ newI rk z) [o] (o :: numsFrom H.length (newN rk)) [o]
        | _ => none
    | none => none
  | _, _ => none

theorem rdE_ok {P : Program} {f : FuncId} {ts1 : List GT} {t : GT} {ts2 : List GT} {rk : List RK} {model : Els ts1 → List (El t) → Els ts2 → Option (Els (RK.tys rk))} (h : RdOK P f ts1 t ts2 rk model) : EntOK P f (rdE ts1 t ts2 rk model) := by
  intro R args HI k r hr dargs H nx ha hH hn
  simp only [rdE] at hr
  split at hr
  · rename_i x v rest hx hd
    split at hr
    · rename_i y hy
      have hal : args = args.take ts1.length ++ v :: rest := by rw [← hd, List.take_append_drop]
      have ht1 := ha.take ts1.length
      have hd1 := ha.drop ts1.length
      rw [hd] at hd1
      obtain ⟨dv, dr, hdd, hv, hrest⟩ := hd1.cons_l
      have hdal : dargs = dargs.take ts1.length ++ dv :: dr := by rw [← hdd, List.take_append_drop]
      have w1 := decVs_wk ts1 _ x _ hx ht1
      have w2 := decVs_wk ts2 _ y _ hy hrest
      have flat1 : ∀ d, d ∈ valsD ts1 x → Ids (fun _ => False) d := valsD_ids ts1 x
      have flat2 : ∀ d, d ∈ valsD ts2 y → Ids (fun _ => False) d := valsD_ids ts2 y
      have flatRn : ∀ (r γ : Nat → Nat) (q : Nat) (l : List DV), (∀ d, d ∈ l → Ids (fun _ => False) d) → Both (Rn r γ q) l l := fun r γ q l hl => ⟨rfl, fun j h1 h2 => .flat _ (hl _ (List.getElem_mem h1))⟩
      -- what new chunks tell
      have fin : ∀ (z : Els (RK.tys rk)) (post : Cks) (nx' i : Nat), (∀ (k : Nat) c, (newC g0 rk z i)[k]? = some c → i + k < nx' ∧ puts H post (i + k) = some c.2) → Rel (puts H post) nx' (resI (resIV rk z i)) (resV (resD g0 rk z i)) := fun z post nx' i hz => resI_rel (resIV_rel rk z i hz)
      split at hr
      · -- nil
        cases hm : model x [] y with
        | none => rw [hm] at hr; cases hr
        | some z =>
          rw [hm] at hr
          simp only [Option.bind_some] at hr
          have hdv := hv.nil_inv
          subst hdv
          have h0 := h x [] y z hm
          simp only [List.length_nil, List.map_nil] at h0
          have h1 := CallOK.nilarg h0 flat1 flat2
          obtain ⟨h2, K⟩ := rd_ren (r := fun j => nx + j) (γ := fun _ => 0) (o := nx) (g := 0) (i := nx + 1) (nb := nx) (pre' := []) (args' := valsD ts1 x ++ .lst true [] :: valsD ts2 y) h1 rfl rfl (fun k hk => ⟨by show nx + (1 + k) = nx + 1 + k; omega, rfl⟩) (fun a b _ _ e => by have : nx + a = nx + b := e; omega) (fun j hj => absurd hj (Nat.not_lt_zero _)) (fun j _ hj => ⟨Nat.le_add_right .., by show nx + j < nx + (1 + newN rk - 0); omega⟩) ⟨fun j ck hj => (by cases hj), fun o ck hj => (by cases hj)⟩
            ((flatRn _ _ _ _ flat1).append ((flatRn _ _ _ _ flat2).cons (.flat _ (.lst _ _ fun x hx => by cases hx))))
          have pk : ∀ (k : Nat) c, (newC g0 rk z (nx + 1))[k]? = some c → nx + 1 + k < nx + (1 + newN rk) ∧ puts H ((nx, ⟨1 + 0, t.sz, []⟩) :: newC g0 rk z (nx + 1)) (nx + 1 + k) = some c.2 := fun k c hk => by
            obtain ⟨hk1, hk2⟩ := List.getElem?_eq_some_iff.1 hk
            rw [newC_len] at hk1
            have := K.get (k := 1 + k) (by omega) H
            have e : nx + (1 + k) = nx + 1 + k := by omega
            simp only [e] at this
            refine ⟨by omega, ?_⟩
            rw [this]
            simp only [ckAt, List.getD_eq_getElem?_getD, Nat.add_comm 1 k, List.getElem?_cons_succ, hk, Option.getD_some]
          refine ⟨_, _, _, _, _, hr, [], resV (resD g0 rk z (nx + 1)), (nx, ⟨1 + 0, t.sz, []⟩) :: newC g0 rk z (nx + 1), nx + (1 + newN rk - 0), ?_, fun o ck h => (by cases h), rfl, ?_, ?_, ?_, ?_, ?_⟩
          · rw [hdal]
            exact h2.weak (w1.append (w2.cons (.refl _)))
          · rw [List.map_cons, numsFrom_eq, hn]
          · rw [List.length_append, List.length_cons, newI_len, hn]; omega
          · intro o c hc
            rw [getH_append, hn] at hc
            by_cases hlt : o < nx
            · rw [if_pos hlt] at hc
              obtain ⟨q1, ck, q2, q3⟩ := hH o c hc
              have e : puts H ((nx, (⟨1 + 0, t.sz, []⟩ : Ck)) :: newC g0 rk z (nx + 1)) o = H o := K.out (fun k hk e => by have : o = nx + k := e; omega) H
              refine ⟨by omega, ck, by rw [e]; exact q2, q3.same ⟨by omega, fun q ck' hq hk => ?_⟩⟩
              rw [K.out (fun k hk e => by have : q = nx + k := e; omega) H] at hk
              exact ⟨ck', hk, rfl, rfl⟩
            · rw [if_neg hlt] at hc
              obtain ⟨m, hm2⟩ : ∃ m, o - nx = m := ⟨_, rfl⟩
              rw [hm2] at hc
              cases m with
              | zero => simp [getH] at hc
              | succ m =>
                have hc : getH (newI rk z) m = some c := hc
                obtain ⟨cp, b1, b2⟩ := newI_at (H := puts H ((nx, (⟨1 + 0, t.sz, []⟩ : Ck)) :: newC g0 rk z (nx + 1))) (nx := nx + (1 + newN rk - 0)) rk z (nx + 1) m c hc
                have := pk _ _ b1
                have e : nx + 1 + m = o := by omega
                rw [e] at this
                exact ⟨by omega, cp, this.2, b2⟩
          · rw [hn]; exact fin z _ _ _ fun k c hk => by have := pk k c hk; exact ⟨by omega, this.2⟩
          · refine ⟨by omega, fun o ck' ho _ hk => ?_⟩
            rw [K.out (fun k hk e => by have : o = nx + k := e; omega) H] at hk
            exact ⟨ck', hk, rfl, rfl⟩
      · -- an own array
        split at hr
        · rename_i as o hdec
          cases hm : model x as y with
          | none => rw [hm] at hr; cases hr
          | some z =>
            rw [hm] at hr
            simp only [Option.bind_some] at hr
            have h0 := h x as y z hm
            let ρ : Nat → Nat := fun j => if j = 0 then o else nx + (j - 1)
            let γ : Nat → Nat := fun j => if j = 0 then ((H o).map (·.gen)).getD 0 else 0
            have ρn : ∀ j, j ≠ 0 → ρ j = nx + (j - 1) := fun j hj => if_neg hj
            obtain ⟨_, ⟨d1, d2, hds, hw, hnil⟩, hck⟩ := decOA_at (ρ := ρ) (γ := γ) (q := 1) hH (.a t) [v] as [o] [] [dv] 0 hdec (.one hv) fun k q hk => by
              cases k with
              | zero => simp only [List.getElem?_cons_zero, Option.some.injEq] at hk; subst hk; exact ⟨rfl, rfl⟩
              | succ k => simp at hk
            have := hnil.nil_l; subst this
            simp only [List.append_nil] at hds; subst hds
            obtain ⟨o', ck, e1, hHo, hlt, hM⟩ := hck 0 (0, ⟨0, t.sz, as.map (encD t)⟩) rfl
            simp only [List.getElem?_cons_zero, Option.some.injEq] at e1; subst e1
            have hg : γ 0 = ck.gen := by show ((H o).map (·.gen)).getD 0 = _; rw [hHo]; rfl
            have hw : Both WkD [dv] [.own o (γ 0) 0 as.length] := hw
            obtain ⟨h2, K⟩ := rd_ren (r := ρ) (γ := γ) (o := o) (g := ck.gen) (i := nx) (nb := nx) (pre' := [(o, ck)]) (args' := valsD ts1 x ++ .own o (γ 0) 0 as.length :: valsD ts2 y) h0 rfl hg (fun k hk => ⟨by rw [ρn _ (by omega)]; omega, if_neg (by omega)⟩) (fun a b ha hb e => by
                by_cases h1 : a = 0 <;> by_cases h2 : b = 0
                · omega
                · subst h1; rw [ρn b h2] at e; have e : o = nx + (b - 1) := e; omega
                · subst h2; rw [ρn a h1] at e; have e : nx + (a - 1) = o := e; omega
                · rw [ρn a h1, ρn b h2] at e; omega)
              (fun j hj => by
                have : j = 0 := by omega
                subst this; exact hlt) (fun j h1 hj => by rw [ρn j (by omega)]; omega)
              ⟨fun j c hj => by
                have := ofL_mem hj
                simp only [List.mem_singleton, Prod.mk.injEq] at this
                obtain ⟨rfl, rfl⟩ := this
                refine ⟨Nat.zero_lt_one, ck, ?_, by rw [hg]; exact hM⟩
                show ofL [(o, ck)] o = _
                rw [show ofL [(o, ck)] = Hp.emp.put o (some ck) from rfl, Hp.put_same],
              fun q c hq => by
                have := ofL_mem hq
                simp only [List.mem_singleton, Prod.mk.injEq] at this
                obtain ⟨rfl, rfl⟩ := this
                exact ⟨0, _, Nat.zero_lt_one, rfl, rfl⟩⟩
              ((flatRn _ _ _ _ flat1).append ((flatRn _ _ _ _ flat2).cons (by
                have := Rn.own (r := ρ) (γ := γ) (q := 1) 0 0 0 as.length Nat.zero_lt_one
                rw [Nat.zero_add] at this; exact this)))
            have hout : ∀ q, q < nx → q ≠ o → puts H ((o, (⟨1 + ck.gen, t.sz, []⟩ : Ck)) :: newC g0 rk z nx) q = H q := fun q hq hne => K.out (fun k hk e => by
              by_cases h1 : k = 0
              · subst h1; exact hne e
              · rw [ρn k h1] at e; omega) H
            have pk : ∀ (k : Nat) c, (newC g0 rk z nx)[k]? = some c → nx + k < nx + (1 + newN rk - 1) ∧ puts H ((o, ⟨1 + ck.gen, t.sz, []⟩) :: newC g0 rk z nx) (nx + k) = some c.2 := fun k c hk => by
              obtain ⟨hk1, hk2⟩ := List.getElem?_eq_some_iff.1 hk
              rw [newC_len] at hk1
              have := K.get (k := 1 + k) (by omega) H
              rw [ρn _ (by omega), show 1 + k - 1 = k by omega] at this
              refine ⟨by omega, ?_⟩
              rw [this]
              simp only [ckAt, List.getD_eq_getElem?_getD, Nat.add_comm 1 k, List.getElem?_cons_succ, hk, Option.getD_some]
            have hsame : SameK [o] H nx (puts H ((o, ⟨1 + ck.gen, t.sz, []⟩) :: newC g0 rk z nx)) (nx + (1 + newN rk - 1)) := ⟨by omega, fun q ck' hq hne hk => by
              rw [hout q hq (fun e => hne (by rw [e]; exact List.mem_singleton.2 rfl))] at hk
              exact ⟨ck', hk, rfl, rfl⟩⟩
            refine ⟨_, _, _, _, _, hr, [(o, ck)], resV (resD g0 rk z nx), (o, ⟨1 + ck.gen, t.sz, []⟩) :: newC g0 rk z nx, nx + (1 + newN rk - 1), ?_, fun q c hq => ?_, rfl, ?_, ?_, ?_, ?_, hsame⟩
            · rw [hdal]
              exact h2.weak (w1.append (w2.cons (hw.2 0 (by simp) (by simp))))
            · have := ofL_mem hq
              simp only [List.mem_singleton, Prod.mk.injEq] at this
              obtain ⟨rfl, rfl⟩ := this
              exact hHo
            · rw [List.map_cons, numsFrom_eq, hn]
            · rw [List.length_append, setH_len, killHs_len, newI_len, hn]; omega
            · intro q c hc
              rw [getH_append, setH_len, killHs_len, hn] at hc
              by_cases hq : q < nx
              · rw [if_pos hq, getH_set] at hc
                by_cases e : q = o ∧ o < (killHs [o] HI).length
                · rw [if_pos e] at hc; cases hc
                · rw [if_neg e] at hc
                  have hne : q ≠ o := fun e2 => e ⟨e2, by rw [killHs_len, hn]; exact hlt⟩
                  obtain ⟨c0, a1, a2⟩ := killHs_at hsame hc
                  obtain ⟨q1, ck', q2, q3⟩ := hH q c0 a1
                  exact ⟨by omega, ck', by rw [hout q hq hne]; exact q2, a2 ck' q3⟩
              · rw [if_neg hq] at hc
                obtain ⟨cp, b1, b2⟩ := newI_at (H := puts H ((o, (⟨1 + ck.gen, t.sz, []⟩ : Ck)) :: newC g0 rk z nx)) (nx := nx + (1 + newN rk - 1)) rk z nx (q - nx) c hc
                have := pk _ _ b1
                rw [show nx + (q - nx) = q by omega] at this
                exact ⟨this.1, cp, this.2, b2⟩
            · rw [hn]; exact fin z _ _ _ pk
        · cases hr
    · cases hr
  · cases hr
end Go.Pv
