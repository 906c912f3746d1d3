/- Closures over boxes that are only read ('rp'): pure functions of such (PrOK), functions that use an own array up beside them (RqOK), and the lending of the boxes (rpE). No condition of its own: over any program. -/
import Derived.Test.YtiemlgicaibccaaPxT
set_option linter.all false
namespace Go.Pv
open Go.RowKit
inductive PA where
 | v (t : GT)
 | rd (b : GT)
 | c (g : FuncId) (b : GT)
def PA.ty : PA → GT
 | .v t => t
 | .rd b => b
 | .c _ b => b
def PA.tys : List PA → List GT
 | [] => []
 | p :: r => p.ty :: PA.tys r
def paD : (p : PA) → El p.ty → DV
 | .v t, x => valD t x
 | .rd b, x => .rp (encD b x)
 | .c g b, x => .fn g [.rp (encD b x)]
def paI : (p : PA) → El p.ty → IV
 | .v t, x => valI t x
 | .rd b, x => .rp (encC b x)
 | .c g b, x => .fn g [.rp (encC b x)]
def decRp (b : GT) : IV → Option (El b)
 | .rp cs => dec b cs
 | _ => none
def decFn (g : FuncId) (b : GT) : IV → Option (El b)
 | .fn g' [v] => cond (Nat.beq g' g) (decRp b v) none
 | _ => none
def decP : (p : PA) → IV → Option (El p.ty)
 | .v t, v => decV t v
 | .rd b, v => decRp b v
 | .c g b, v => decFn g b v
def pasD : (ps : List PA) → Els (PA.tys ps) → List DV
 | [], _ => []
 | p :: r, x => paD p (hd p.ty (PA.tys r) x) :: pasD r (tl p.ty (PA.tys r) x)
def pasI : (ps : List PA) → Els (PA.tys ps) → List IV
 | [], _ => []
 | p :: r, x => paI p (hd p.ty (PA.tys r) x) :: pasI r (tl p.ty (PA.tys r) x)
def decPs : (ps : List PA) → List IV → Option (Els (PA.tys ps))
 | [], [] => some ()
 | p :: r, v :: l => match decP p v, decPs r l with
  | some a, some b => some (cns p.ty (PA.tys r) a b)
  | _, _ => none
 | _, _ => none
theorem encD_ids (b : GT) (x : El b) : ∀ d, d ∈ encD b x → Ids (fun _ => False) d := fun d hd => RelT.ids b x _ (encD_rel b x) d hd
theorem paD_ids : ∀ (p : PA) (x : El p.ty), Ids (fun _ => False) (paD p x)
 | .v t, x => valsD_ids [t] x _ (List.mem_singleton.2 rfl)
 | .rd b, x => .rp _ (encD_ids b x)
 | .c g b, x => .fn _ _ fun c hc => by rw [List.mem_singleton.1 hc]; exact .rp _ (encD_ids b x)
theorem paI_rel {H : Hp} {nx : Nat} : ∀ (p : PA) (x : El p.ty), Rel H nx (paI p x) (paD p x)
 | .v t, x => (valsI_rel [t] x).2 0 (by simp [valsI]) (by simp [valsD])
 | .rd b, x => Rel.rpB (encC_rel b x _ (encD_rel b x))
 | .c g b, x => Rel.fnB (Both.one (Rel.rpB (encC_rel b x _ (encD_rel b x))))
theorem pasD_ids : ∀ (ps : List PA) (x : Els (PA.tys ps)), ∀ d, d ∈ pasD ps x → Ids (fun _ => False) d
 | [], _, d, h => by cases h
 | p :: r, x, d, h => by
  rcases List.mem_cons.1 h with rfl | h
  ·exact paD_ids p _
  ·exact pasD_ids r _ d h
theorem pasI_rel {H : Hp} {nx : Nat} : ∀ (ps : List PA) (x : Els (PA.tys ps)), Rels H nx (pasI ps x) (pasD ps x)
 | [], _ => .nil
 | p :: r, x => .cons (paI_rel p _) (pasI_rel r _)
theorem pasD_len : ∀ (ps : List PA) (x : Els (PA.tys ps)), (pasD ps x).length = ps.length
 | [], _ => rfl
 | p :: r, x => by rw [pasD, List.length_cons, pasD_len r, List.length_cons]
theorem wk_rp {ds es : List DV} (h : Both WkD ds es) : WkD (.rp ds) (.rp es) := fun H ps M nx w x hv => by
 cases hv with
 | rp _ b off vs hM h1 hc hv =>
  have e := h.1
  exact .rp es b off vs (fun hne => hM fun e2 => hne (List.eq_nil_of_length_eq_zero (by rw [← e, e2]; rfl))) (fun j hj => h1 j (by omega)) (fun j hj => hc j (by omega)) fun j hj => h.2 j (by omega) hj _ _ _ _ _ _ (hv j (by omega))
theorem wk_fn {g : FuncId} {ds es : List DV} (h : Both WkD ds es) : WkD (.fn g ds) (.fn g es) := fun H ps M nx w x hv => by
 obtain ⟨vs, rfl, h1, h2⟩ := hv.fn_inv
 have e := h.1
 exact .fn _ _ vs (by omega) fun j hj => h.2 j (by omega) hj _ _ _ _ _ _ (h2 j (by omega))
theorem decRp_wk {H : Hp} {nx : Nat} {b : GT} {v : IV} {x : El b} {d : DV} (h : decRp b v = some x) (hr : Rel H nx v d) : WkD d (.rp (encD b x)) := by
 cases v with
 | rp cs =>
  obtain ⟨ds, rfl, hds⟩ := hr.rp_inv
  exact wk_rp (relT_wk b x ds (dec_rel h hds))
 | _ => cases h
theorem decP_wk {H : Hp} {nx : Nat} : ∀ (p : PA) (v : IV) (x : El p.ty) (d : DV), decP p v = some x → Rel H nx v d → WkD d (paD p x)
 | .v t, v, x, d, h, hr => (decVs_wk [t] [v] x [d] h (.one hr)).2 0 (by simp) (by simp [valsD])
 | .rd b, v, x, d, h, hr => decRp_wk h hr
 | .c g b, v, x, d, h, hr => by
  have h : decFn g b v = some x := h
  cases v with
  | fn g' cs =>
   cases cs with
   | nil => cases h
   | cons v l =>
    cases l with
    | cons _ _ => cases h
    | nil =>
     have h : cond (Nat.beq g' g) (decRp b v) none = some x := h
     cases hb : Nat.beq g' g with
     | false => rw [hb] at h; cases h
     | true =>
      rw [hb] at h
      have := Nat.eq_of_beq_eq_true hb
      subst this
      obtain ⟨ds, rfl, hds⟩ := hr.fn_inv
      obtain ⟨d1, rfl, hd1⟩ := hds.one_l
      exact wk_fn (Both.one (decRp_wk h hd1))
  | _ => cases h
theorem decPs_wk {H : Hp} {nx : Nat} : ∀ (ps : List PA) (vs : List IV) (x : Els (PA.tys ps)) (ds : List DV), decPs ps vs = some x → Rels H nx vs ds → Both WkD ds (pasD ps x)
 | [], [], x, ds, h, hr => by rw [hr.nil_l]; exact .nil
 | [], _ :: _, x, ds, h, hr => by simp [decPs] at h
 | _ :: _, [], x, ds, h, hr => by simp [decPs] at h
 | p :: r, v :: l, x, ds, h, hr => by
  obtain ⟨d, ds, rfl, h1, h2⟩ := hr.cons_l
  simp only [decPs] at h
  split at h
  ·rename_i a b ha hb
   injection h with h; subst h
   show Both WkD (d :: ds) (paD p (hd p.ty (PA.tys r) (cns p.ty (PA.tys r) a b)) :: pasD r (tl p.ty (PA.tys r) (cns p.ty (PA.tys r) a b)))
   rw [hd_cns, tl_cns]
   exact .cons (decP_wk p v a d ha h1) (decPs_wk r l b ds hb h2)
  ·cases h
def PrOK (P : Program) (f : FuncId) (ps : List PA) (ret : List GT) (model : Els (PA.tys ps) → Option (Els ret)) : Prop := ∀ x y, model x = some y → ∀ nb, CallOK P f (pasD ps x) [] nb (resV (valsD ret y)) [] nb
theorem prOK {P : Program} {f nt : Nat} {ow : Nat → Bool} {tc : TC} {rs : List RR} {env : List (Nat × Ent)} {N : Nat} {ps : List PA} {ret : List GT} {model : Els (PA.tys ps) → Option (Els ret)} (hm : P.follows .mixedOrders = true) (hf : FnOK P f nt ow tc.er rs) (hE : EnvOK P env) (hh : tc.hok P nt ow false) (hlen : Nat.ble ps.length nt = true)
  (hrun : ∀ x, run env N 0 tc ⟨argT0 (pasI ps x) 0, []⟩ (fin rs ret) = model x) : PrOK P f ps ret model := by
 intro x y hy nb
 refine CallOK.lift0 ?_ (pasD_ids ps x) (resV_ids (valsD_ids ret y)) nb
 obtain ⟨fn, h1, h2, h3, rfl, h5, h6⟩ := hf.ex
 refine CallOK.intro2 hm h1 h2 h3 h5 h6 (by rw [pasD_len]; exact Nat.le_of_ble_eq_true hlen) (fun o ck h => (by cases h)) (fun o ck h => (by cases h)) (Nat.le_refl _) ((resV_ids (valsD_ids ret y)).mono' fun _ h => h.elim) (fun o ck h => (by cases h)) (fun o ck h => (by cases h)) fun cx hcx hnb hro hfz hmm ps' a w R0 => ?_
 have hs : SR ⟨argT0 (pasI ps x) 0, []⟩ ⟨ofArgs (pasD ps x), ofL [], 0⟩ := start_rel (pasI_rel ps x) (fun o c h => by simp [getH] at h) rfl
 have hr : run env N cx.nb tc ⟨argT0 (pasI ps x) 0, []⟩ (fin rs ret) = some y := by rw [hnb, ← hy]; exact hrun x
 have key := run_sound hE N tc cx (by rw [hcx, hro]; exact hh) _ _ _ hs hr hmm _ (by rw [hcx]; exact h5) (by rw [hfz]; exact AC.nofz_none _) ps' a w R0
 rw [hro] at key
 refine wpIn_mono key ?_
 rintro e a' w' ⟨s', ps', R', si', k1, k2⟩
 obtain ⟨k3, k4⟩ := fin_sound k2 k1
 exact ⟨s', ps', R', k3, k4, fun o ck h => (by cases h)⟩
def prE (ps : List PA) (ret : List GT) (model : Els (PA.tys ps) → Option (Els ret)) : Ent := fun args H k => match decPs ps args with
 | some x => Option.bind (model x) fun y => k (resI (valsI ret y)) H [] [] []
 | none => none
theorem prE_ok {P : Program} {f : FuncId} {ps : List PA} {ret : List GT} {model : Els (PA.tys ps) → Option (Els ret)} (h : PrOK P f ps ret model) : EntOK P f (prE ps ret model) := by
 intro R args HI k r hr dargs H nx ha hH hn
 simp only [prE] at hr
 split at hr
 ·rename_i x hx
  cases hm : model x with
  | none => rw [hm] at hr; cases hr
  | some y =>
   rw [hm] at hr
   exact ⟨_, HI, [], [], [], hr, [], _, [], nx, (h x y hm nx).weak (decPs_wk ps args x dargs hx ha), fun o ck h => (by cases h), rfl, rfl, hn, hH, resI_rel (valsI_rel ret y), .same Same.refl⟩
 ·cases hr
def RqOK (P : Program) (f : FuncId) (t : GT) (ps : List PA) (rk : List RK) (model : List (El t) → Els (PA.tys ps) → Option (Els (RK.tys rk))) : Prop := ∀ as y z, model as y = some z →
 CallOK P f (.own 0 0 0 as.length :: pasD ps y) [(0, ⟨0, t.sz, as.map (encD t)⟩)] 1 (resV (resD g0 rk z 1)) ((0, ⟨1, t.sz, []⟩) :: newC g0 rk z 1) (1 + newN rk)
theorem rqOK {P : Program} {f nt : Nat} {ow : Nat → Bool} {tc : TC} {rs : List RR} {env : List (Nat × Ent)} {N : Nat} {ns : List NS} {t : GT} {ps : List PA} {rk : List RK} {model : List (El t) → Els (PA.tys ps) → Option (Els (RK.tys rk))} (hm : P.follows .mixedOrders = true) (hf : FnOK P f nt ow tc.er rs) (hE : EnvOK P env) (hh : tc.hok P nt ow false) (hlen : Nat.ble (ps.length + 1) nt = true)
  (hrun : ∀ as y, run env N 1 tc ⟨argT0 (.whole 0 :: pasI ps y) 0, [some (.arr t as)]⟩ (finR ns rs rk) = model as y) : RqOK P f t ps rk model := by
 intro as y z hz
 obtain ⟨fn, h1, h2, h3, rfl, h5, h6⟩ := hf.ex
 generalize hpost : ((0, (⟨1, t.sz, []⟩ : Ck)) :: newC g0 rk z 1) = post
 have lpost : post.length = 1 + newN rk := by rw [← hpost, List.length_cons, newC_len]; omega
 have npost := numb_of (l := post) (i := 0) fun k hk => by subst hpost; exact rd_num z k hk
 have pat : ∀ k (hk : k < post.length), ofL post k = some post[k].2 := fun k hk => by
  have := npost.get (H := Hp.emp) (k := k) hk
  rw [Nat.zero_add] at this
  rw [show ofL _ _ = _ from this]
  simp only [ckAt, List.getD_eq_getElem?_getD, List.getElem?_eq_getElem hk, Option.getD_some]
 have pget : ∀ o, o < 1 + newN rk → ∃ ck, ofL post o = some ck := fun o ho => ⟨_, pat o (by omega)⟩
 have pinv : ∀ o ck, ofL post o = some ck → ∃ (hk : o < post.length), ck = post[o].2 := fun o ck ho => by
  obtain ⟨k, hk, e, _⟩ := npost.mem ho
  have : o = k := by omega
  subst this
  refine ⟨hk, ?_⟩
  rw [pat o hk] at ho; injection ho with ho; exact ho.symm
 have pC : ∀ (k : Nat) c, (newC g0 rk z 1)[k]? = some c → ofL post (1 + k) = some c.2 := fun k c hk => by
  obtain ⟨hk1, hk2⟩ := List.getElem?_eq_some_iff.1 hk
  have hl : 1 + k < post.length := by rw [lpost]; rw [newC_len] at hk1; omega
  rw [pat _ hl]
  have : post[1 + k] = (newC g0 rk z 1)[k] := by
   have e : post[1 + k]? = (newC g0 rk z 1)[k]? := by rw [← hpost, Nat.add_comm 1 k, List.getElem?_cons_succ]
   rw [List.getElem?_eq_getElem hl, List.getElem?_eq_getElem hk1] at e
   injection e
  rw [this, hk2]
 have p0 : ofL post 0 = some ⟨1, t.sz, []⟩ := by
  rw [pat 0 (by rw [lpost]; omega)]
  simp only [← hpost, List.getElem_cons_zero]
 have parts : ∀ o ck, ofL post o = some ck → (o = 0 ∧ ck = ⟨1, t.sz, []⟩) ∨ ∃ k c, o = 1 + k ∧ (newC g0 rk z 1)[k]? = some c ∧ c.2 = ck := fun o ck ho => by
  cases o with
  | zero => rw [p0] at ho; injection ho with ho; exact .inl ⟨rfl, ho.symm⟩
  | succ k =>
   obtain ⟨hk, _⟩ := pinv _ ck ho
   have hl : k < (newC g0 rk z 1).length := by rw [newC_len]; rw [lpost] at hk; omega
   refine .inr ⟨k, _, by omega, List.getElem?_eq_getElem hl, ?_⟩
   have := pC k _ (List.getElem?_eq_getElem hl)
   rw [Nat.add_comm 1 k, ho] at this; injection this with this; exact this.symm
 refine CallOK.intro5 (fun o => Nat.beq o 0) hm h1 h2 h3 h5 h6 (by simp only [List.length_cons, pasD_len]; exact Nat.le_of_ble_eq_true hlen) (fun o ck h => ?_) (fun o ck h hlt => ?_) (by omega) ?_ (fun o ck h x hx c hc => ?_) (fun o ck h => ?_) (fun o ck h hd => ?_) fun cx hcx hnb hro => ?_
 ·have := ofL_mem h
  simp only [List.mem_singleton, Prod.mk.injEq] at this
  rw [this.1]; exact ⟨_, p0⟩
 ·have : o = 0 := by omega
  subst this; exact ⟨_, rfl⟩
 ·exact resV_ids (resD_ids g0 rk z _ fun o h1 h2 => .inl (pget o h2))
 ·rcases parts o ck h with ⟨_, rfl⟩ | ⟨k, c0, rfl, hk, rfl⟩
  ·cases hx
  ·exact (fl_ids (newC_fl g0 rk z _ c0 (List.mem_of_getElem? hk)) x hx c hc).mono' fun _ h => h.elim
 ·obtain ⟨hk, _⟩ := pinv o ck h
  rw [lpost] at hk; exact hk
 ·have : o = 0 := Nat.eq_of_beq_eq_true hd
  subst this
  rw [p0] at h; injection h with h; subst h
  refine ⟨rfl, fun c0 hc0 => ?_⟩
  have hc0 : some (⟨0, t.sz, as.map (encD t)⟩ : Ck) = some c0 := hc0
  injection hc0 with hc0; subst hc0; exact Nat.zero_lt_one
 ·have hs : SR ⟨argT0 (.whole 0 :: pasI ps y) 0, [some (.arr t as)]⟩ ⟨ofArgs (.own 0 0 0 as.length :: pasD ps y), ofL [(0, ⟨0, t.sz, as.map (encD t)⟩)], 1⟩ := by
   refine start_rel ((pasI_rel ps y).cons (.whole _ _ _ Nat.zero_lt_one fun ck hk => ?_)) (fun o c hc => ?_) rfl
   ·have hk : some (⟨0, t.sz, as.map (encD t)⟩ : Ck) = some ck := hk
    injection hk with hk; subst hk; exact ⟨rfl, List.length_map ..⟩
   ·cases o with
    | zero =>
     simp only [getH, Option.some.injEq] at hc; subst hc
     exact ⟨Nat.zero_lt_one, ⟨0, t.sz, as.map (encD t)⟩, rfl, rfl, bothMap t as⟩
    | succ o => simp [getH] at hc
  have hr : run env N cx.nb tc ⟨argT0 (.whole 0 :: pasI ps y) 0, [some (.arr t as)]⟩ (finR ns rs rk) = some z := by rw [hnb, ← hz]; exact hrun as y
  refine (run_sound hE N tc cx (by rw [hcx, hro]; exact hh) _ _ _ hs hr).monoW ?_
  rintro e s' hnx ⟨si', k1, k2⟩
  have fin : ∀ (s' : St) (si' : SI), SR si' s' → finR' rs rk si' = some z → (∃ ds, rrV s'.T s'.H rs = some ds ∧ ∀ ps M w v, VR s'.H ps M s'.nx w (resV ds) v → VR (ofL post) (mask (fun o => Nat.beq o 0) ps) M (1 + newN rk) w (resV (resD g0 rk z 1)) v) ∧
    ∀ o ck, ofL post o = some ck → Nat.beq o 0 = false → ∃ c0, s'.H o = some c0 ∧ CkG (fun o => Nat.beq o 0) s'.H s'.nx (ofL post) (1 + newN rk) c0 ck ∧ (o < 1 → ck.gen = c0.gen) := by
   intro s' si' k1 k2
   unfold finR' at k2
   split at k2
   ·rename_i vs hv
    obtain ⟨ds, q1, q2⟩ := rrI_rel k1 rs vs hv
    obtain ⟨q3, q4⟩ := decR_at k1 rk vs z 1 ds k2 q2
    have nwG : ∀ k c, (newC g0 rk z 1)[k]? = some c → ∃ c0, s'.H (1 + k) = some c0 ∧ CkW c0 ⟨c0.gen, c.2.sz, c.2.xs⟩ := fun k c hk => by
     rw [newC_g0 (gsOf s'.H), List.getElem?_map] at hk
     simp only [Option.map_eq_some_iff] at hk
     obtain ⟨c1, hk1, rfl⟩ := hk
     obtain ⟨c0, u1, u2⟩ := q4 k c1 hk1
     exact ⟨c0, u1, ⟨rfl, u2.s, u2.l, u2.r⟩⟩
    have ex : ∀ o ck, ofL post o = some ck → Nat.beq o 0 = false → ∃ c0, s'.H o = some c0 := fun o ck ho hd => by
     rcases parts o ck ho with ⟨rfl, _⟩ | ⟨k, c, rfl, hc, _⟩
     ·cases hd
     ·obtain ⟨c0, u, _⟩ := nwG k c hc; exact ⟨c0, u⟩
    refine ⟨⟨ds, q1, fun ps M w v hv => ?_⟩, fun o ck ho hd => ?_⟩
    ·refine (resV_rg (resD_rg (dead := fun o => Nat.beq o 0) (H := s'.H) (H' := ofL post) (nx' := 1 + newN rk) rk z _ (fun k c hk => ?_) (fun k c hk => ?_))).vr ex ps M w v (resV_wk q3 _ _ _ _ _ _ hv)
     ·have := (List.getElem?_eq_some_iff.1 hk).1
      rw [newC_len] at this
      refine ⟨by omega, ?_, q4 k c hk⟩
      rw [Nat.add_comm]; rfl
     ·exact pC k c hk
    ·rcases parts o ck ho with ⟨rfl, _⟩ | ⟨k, c, rfl, hc, rfl⟩
     ·cases hd
     ·obtain ⟨c0, u1, u2⟩ := nwG k c hc
      exact ⟨c0, u1, u2.toG ex (fl_ids (newC_fl g0 rk z _ c (List.mem_of_getElem? hc))), fun h => absurd h (by omega)⟩
   ·cases k2
  cases e with
  | normal =>
   simp only [finR] at k2
   split at k2
   ·rename_i si2 hg
    rw [← hnb] at hg
    obtain ⟨s2, w2, r2, _⟩ := normI_sound ns k1 hnx hg
    obtain ⟨a, b⟩ := fin s2 si2 r2 k2
    exact ⟨s2, w2, .inl rfl, a, b⟩
   ·cases k2
  | ret => obtain ⟨a, b⟩ := fin s' si' k1 k2; exact ⟨s', Wk.refl _ _, .inr rfl, a, b⟩
  | _ => simp [finR] at k2
def rqE (t : GT) (ps : List PA) (rk : List RK) (model : List (El t) → Els (PA.tys ps) → Option (Els (RK.tys rk))) : Ent := fun args H k => match args with
 | v :: rest => match decPs ps rest, decOA (.a t) [v] H with
  | some y, some (as, [o], []) => Option.bind (model as y) fun z => k (resI (resIV rk z H.length)) (setH (killHs [o] H) o none ++ newI rk z) [o] (o :: numsFrom H.length (newN rk)) [o]
  | _, _ => none
 | _ => none
theorem rqE_ok {P : Program} {f : FuncId} {t : GT} {ps : List PA} {rk : List RK} {model : List (El t) → Els (PA.tys ps) → Option (Els (RK.tys rk))} (h : RqOK P f t ps rk model) : EntOK P f (rqE t ps rk model) := by
 intro R args HI k r hr dargs H nx ha hH hn
 simp only [rqE] at hr
 split at hr
 ·rename_i v rest
  obtain ⟨dv, dr, rfl, hv, hrest⟩ := ha.cons_l
  split at hr
  ·rename_i y as o hy hdec
   have w2 := decPs_wk ps _ y _ hy hrest
   have flat2 : ∀ d, d ∈ pasD ps y → Ids (fun _ => False) d := pasD_ids ps y
   have flatRn : ∀ (r γ : Nat → Nat) (q : Nat) (l : List DV), (∀ d, d ∈ l → Ids (fun _ => False) d) → Both (Rn r γ q) l l := fun r γ q l hl => ⟨rfl, fun j h1 h2 => .flat _ (hl _ (List.getElem_mem h1))⟩
   have fin : ∀ (z : Els (RK.tys rk)) (post : Cks) (nx' i : Nat), (∀ (k : Nat) c, (newC g0 rk z i)[k]? = some c → i + k < nx' ∧ puts H post (i + k) = some c.2) → Rel (puts H post) nx' (resI (resIV rk z i)) (resV (resD g0 rk z i)) := fun z post nx' i hz => resI_rel (resIV_rel rk z i hz)
   cases hm : model as y with
   | none => rw [hm] at hr; cases hr
   | some z =>
    rw [hm] at hr
    simp only [Option.bind_some] at hr
    have h0 := h as y z hm
    let ρ : Nat → Nat := fun j => if j = 0 then o else nx + (j - 1)
    let γ : Nat → Nat := fun j => if j = 0 then ((H o).map (·.gen)).getD 0 else 0
    have ρn : ∀ j, j ≠ 0 → ρ j = nx + (j - 1) := fun j hj => if_neg hj
    obtain ⟨_, ⟨d1, d2, hds, hw, hnil⟩, hck⟩ := decOA_at (ρ := ρ) (γ := γ) (q := 1) hH (.a t) [v] as [o] [] [dv] 0 hdec (.one hv) fun k q hk => by
     cases k with
     | zero => simp only [List.getElem?_cons_zero, Option.some.injEq] at hk; subst hk; exact ⟨rfl, rfl⟩
     | succ k => simp at hk
    have := hnil.nil_l; subst this
    simp only [List.append_nil] at hds; subst hds
    obtain ⟨o', ck, e1, hHo, hlt, hM⟩ := hck 0 (0, ⟨0, t.sz, as.map (encD t)⟩) rfl
    simp only [List.getElem?_cons_zero, Option.some.injEq] at e1; subst e1
    have hg : γ 0 = ck.gen := by show ((H o).map (·.gen)).getD 0 = _; rw [hHo]; rfl
    have hw : Both WkD [dv] [.own o (γ 0) 0 as.length] := hw
    obtain ⟨h2, K⟩ := rd_ren (r := ρ) (γ := γ) (o := o) (g := ck.gen) (i := nx) (nb := nx) (pre' := [(o, ck)]) (args' := .own o (γ 0) 0 as.length :: pasD ps y) h0 rfl hg (fun k hk => ⟨by rw [ρn _ (by omega)]; omega, if_neg (by omega)⟩) (fun a b ha hb e => by
      by_cases h1 : a = 0 <;> by_cases h2 : b = 0
      ·omega
      ·subst h1; rw [ρn b h2] at e; have e : o = nx + (b - 1) := e; omega
      ·subst h2; rw [ρn a h1] at e; have e : nx + (a - 1) = o := e; omega
      ·rw [ρn a h1, ρn b h2] at e; omega)
     (fun j hj => by
      have : j = 0 := by omega
      subst this; exact hlt) (fun j h1 hj => by rw [ρn j (by omega)]; omega)
     ⟨fun j c hj => by
      have := ofL_mem hj
      simp only [List.mem_singleton, Prod.mk.injEq] at this
      obtain ⟨rfl, rfl⟩ := this
      refine ⟨Nat.zero_lt_one, ck, ?_, by rw [hg]; exact hM⟩
      show ofL [(o, ck)] o = _
      rw [show ofL [(o, ck)] = Hp.emp.put o (some ck) from rfl, Hp.put_same],
     fun q c hq => by
      have := ofL_mem hq
      simp only [List.mem_singleton, Prod.mk.injEq] at this
      obtain ⟨rfl, rfl⟩ := this
      exact ⟨0, _, Nat.zero_lt_one, rfl, rfl⟩⟩
     ((flatRn _ _ _ _ flat2).cons (by
      have := Rn.own (r := ρ) (γ := γ) (q := 1) 0 0 0 as.length Nat.zero_lt_one
      rw [Nat.zero_add] at this; exact this))
    have hout : ∀ q, q < nx → q ≠ o → puts H ((o, (⟨1 + ck.gen, t.sz, []⟩ : Ck)) :: newC g0 rk z nx) q = H q := fun q hq hne => K.out (fun k hk e => by
     by_cases h1 : k = 0
     ·subst h1; exact hne e
     ·rw [ρn k h1] at e; omega) H
    have pk : ∀ (k : Nat) c, (newC g0 rk z nx)[k]? = some c → nx + k < nx + (1 + newN rk - 1) ∧ puts H ((o, ⟨1 + ck.gen, t.sz, []⟩) :: newC g0 rk z nx) (nx + k) = some c.2 := fun k c hk => by
     obtain ⟨hk1, hk2⟩ := List.getElem?_eq_some_iff.1 hk
     rw [newC_len] at hk1
     have := K.get (k := 1 + k) (by omega) H
     rw [ρn _ (by omega), show 1 + k - 1 = k by omega] at this
     refine ⟨by omega, ?_⟩
     rw [this]
     simp only [ckAt, List.getD_eq_getElem?_getD, Nat.add_comm 1 k, List.getElem?_cons_succ, hk, Option.getD_some]
    have hsame : SameK [o] H nx (puts H ((o, ⟨1 + ck.gen, t.sz, []⟩) :: newC g0 rk z nx)) (nx + (1 + newN rk - 1)) := ⟨by omega, fun q ck' hq hne hk => by
     rw [hout q hq (fun e => hne (by rw [e]; exact List.mem_singleton.2 rfl))] at hk
     exact ⟨ck', hk, rfl, rfl⟩⟩
    refine ⟨_, _, _, _, _, hr, [(o, ck)], resV (resD g0 rk z nx), (o, ⟨1 + ck.gen, t.sz, []⟩) :: newC g0 rk z nx, nx + (1 + newN rk - 1), ?_, fun q c hq => ?_, rfl, ?_, ?_, ?_, ?_, hsame⟩
    ·          exact h2.weak (w2.cons (hw.2 0 (by simp) (by simp)))
    ·have := ofL_mem hq
     simp only [List.mem_singleton, Prod.mk.injEq] at this
     obtain ⟨rfl, rfl⟩ := this
     exact hHo
    ·rw [List.map_cons, numsFrom_eq, hn]
    ·rw [List.length_append, setH_len, killHs_len, newI_len, hn]; omega
    ·intro q c hc
     rw [getH_append, setH_len, killHs_len, hn] at hc
     by_cases hq : q < nx
     ·rw [if_pos hq, getH_set] at hc
      by_cases e : q = o ∧ o < (killHs [o] HI).length
      ·rw [if_pos e] at hc; cases hc
      ·rw [if_neg e] at hc
       have hne : q ≠ o := fun e2 => e ⟨e2, by rw [killHs_len, hn]; exact hlt⟩
       obtain ⟨c0, a1, a2⟩ := killHs_at hsame hc
       obtain ⟨q1, ck', q2, q3⟩ := hH q c0 a1
       exact ⟨by omega, ck', by rw [hout q hq hne]; exact q2, a2 ck' q3⟩
     ·rw [if_neg hq] at hc
      obtain ⟨cp, b1, b2⟩ := newI_at (H := puts H ((o, (⟨1 + ck.gen, t.sz, []⟩ : Ck)) :: newC g0 rk z nx)) (nx := nx + (1 + newN rk - 1)) rk z nx (q - nx) c hc
      have := pk _ _ b1
      rw [show nx + (q - nx) = q by omega] at this
      exact ⟨this.1, cp, this.2, b2⟩
    ·rw [hn]; exact fin z _ _ _ pk
  ·cases hr
 ·cases hr
theorem flatBox {H : Hp} {nx g : Nat} {cs : List IV} {ck : Ck} (hf : cs.all flB = true) (h : CkR H nx (.box g cs) ck) (H' : Hp) (nx' : Nat) : CkR H' nx' (.box g cs) ck := by
 obtain ⟨h1, ds, h2, h3, h4⟩ := h
 exact ⟨h1, ds, h2, ⟨h3.1, fun j a b => (flB_rel (List.all_eq_true.1 hf _ (List.getElem_mem a)) (h3.2 j a b)).1⟩, h4⟩
theorem flatBoxI {H : Hp} {nx g : Nat} {cs : List IV} {ck : Ck} (hf : cs.all flB = true) (h : CkR H nx (.box g cs) ck) : ∀ x, x ∈ ck.xs → ∀ c, c ∈ x → Ids (fun _ => False) c := by
 obtain ⟨h1, ds, h2, h3, h4⟩ := h
 intro x hx c hc
 rw [h2] at hx
 rw [List.mem_singleton.1 hx] at hc
 obtain ⟨j, hj, rfl⟩ := List.mem_iff_getElem.1 hc
 exact (flB_rel (H' := H) (nx' := nx) (List.all_eq_true.1 hf _ (List.getElem_mem (by rw [h3.1]; exact hj))) (h3.2 j (by rw [h3.1]; exact hj) hj)).2
def rpAs (H : IH) : List IV → List IV × List Nat
 | [v, .fn g [.ptr q 0 0]] => match getH H q with
  | some (.box _ cs) => cond (cs.all flB) ([v, .fn g [.rp cs]], [q]) ([v, .fn g [.ptr q 0 0]], [])
  | _ => ([v, .fn g [.ptr q 0 0]], [])
 | l => (l, [])
def rpE (E : Ent) : Ent := fun args H k => match rpAs H args with
 | (_, []) => E args H k
 | (args', o :: os) => E args' (delHs (o :: os) H) fun v H' rd wr kl => brB ((o :: os).all fun j => !(anyN rd j) && !(anyN wr j)) (k (stV v) (lendH (o :: os) wr H H' 0) ((o :: os) ++ rd) ((o :: os) ++ wr) kl) none
theorem rpAs_ok {H : Hp} {HI : IH} {nx : Nat} (hH : HRel HI H nx) {vs vs' : List IV} {os : List Nat} {ds : List DV} (h : rpAs HI vs = (vs', os)) (hr : Rels H nx vs ds) : ∃ ds1, Rels H nx vs' ds1 ∧ Both (LendOK H HI nx os) ds ds1 ∧ ∀ o, o ∈ os → ∃ g cs, getH HI o = some (.box g cs) ∧ cs.all flB = true := by
 have same : (vs, ([] : List Nat)) = (vs', os) → ∃ ds1, Rels H nx vs' ds1 ∧ Both (LendOK H HI nx os) ds ds1 ∧ ∀ o, o ∈ os → ∃ g cs, getH HI o = some (.box g cs) ∧ cs.all flB = true := fun e => by
  injection e with e1 e2; subst e1; subst e2
  exact ⟨ds, hr, ⟨rfl, fun j h1 h2 => .same _ _⟩, fun o h => by cases h⟩
 unfold rpAs at h
 split at h
 ·rename_i v g q
  split at h
  ·rename_i gb cs hc
   cases hb : cs.all flB with
   | false => rw [hb] at h; exact same h
   | true =>
    rw [hb] at h
    simp only [cond_true, Prod.mk.injEq] at h
    obtain ⟨rfl, rfl⟩ := h
    obtain ⟨dv, dr, rfl, hv, hrest⟩ := hr.cons_l
    obtain ⟨dc, rfl, hc2⟩ := hrest.one_l
    obtain ⟨dcs, rfl, hcs⟩ := hc2.fn_inv
    obtain ⟨dp, rfl, hp⟩ := hcs.one_l
    obtain ⟨gp, rfl, hqlt, hgp⟩ := hp.ptr_inv
    obtain ⟨_, cq, hq1, hq2, es, hq3, hq4, hq5⟩ := hH q _ hc
    refine ⟨[dv, .fn g [.rp es]], .cons hv (.one (Rel.fnB (.one (Rel.rpB hq4)))), .cons (.same _ _) (.one fun B pre hB ps M w x hR hx => ?_), fun o ho => ?_⟩
    ·obtain ⟨b1, b2⟩ := hB q (by simp)
     obtain ⟨vs, rfl, g1, g2⟩ := hx.fn_inv
     refine .fn _ _ vs (by simpa using g1) fun j hj => ?_
     have hj0 : j = 0 := by simpa using hj
     subst hj0
     have hptr := g2 0 (by simp)
     show VR _ _ _ _ _ (.rp es) _
     generalize vs.getD 0 undef = x0 at hptr
     have hptr : VR (ofL (B ++ pre)) ps M nx w (.ptr q gp 0 0) x0 := hptr
     cases hptr with
     | ptr _ _ _ _ _ q0 q1 qh =>
      obtain ⟨_, qh⟩ := qh cq (by rw [b1]; exact hq1)
      obtain ⟨_, p, hp1, rfl⟩ := qh (hgp cq hq1).1
      have hcr := hR.cr q cq (by rw [b1]; exact hq1)
      rcases hcr with ⟨r1, _⟩ | ⟨p', c, E, vs2, r1, r2, r3, r4, r5, r6, r7⟩
      ·rw [hp1] at r1; cases r1
      ·rw [hp1] at r1; injection r1 with r1; subst r1
       have l0 : 0 < cq.xs.length := by rw [hq3]; exact Nat.zero_lt_one
       have e0 : cq.xs[0] = es := by simp only [hq3, List.getElem_cons_zero]
       have esl : es.length = cq.sz := by rw [← e0]; exact r4 0 l0
       simp only [Nat.zero_mul, Nat.add_zero]
       refine .rp es p.b p.k (fun j => vs2 0 j) (fun _ hmu => ?_) (fun j hj => (r6 0 j l0 (by omega)).1) (fun j hj => ?_) fun j hj => ?_
       ·rcases hmu with hmu | ⟨j, ck', p', k1, k2, k3⟩
        ·exact hR.dj q cq p (by rw [b1]; exact hq1) hp1 hmu
        ·have k1' : ofL (B ++ pre) j = some ck' := by
          rcases ofL_app B pre j with ⟨c, h1, h2⟩ | ⟨h1, h2⟩
          ·rw [k1] at h1; injection h1 with h1; subst h1; exact h2
          ·rw [k1] at h1; cases h1
         have := hR.inj j q ck' cq p' p k1' (by rw [b1]; exact hq1) k2 hp1 k3
         subst this
         rw [b2] at k1; cases k1
       ·rw [r2.cell]
        have := (r6 0 j l0 (by omega)).2
        rwa [Nat.zero_mul, Nat.zero_add] at this
       ·have := r7 0 j l0 (by rw [e0]; exact hj)
        have := this.mono (kp_less (B := B) (pre := pre))
        simpa only [e0] using this
    ·rw [List.mem_singleton.1 ho]; exact ⟨gb, cs, hc, hb⟩
  ·exact same h
 ·exact same h
theorem rpE_ok {P : Program} {f : FuncId} {E : Ent} (hE : EntOK P f E) : EntOK P f (rpE E) := by
 intro R args HI k r h dargs H nx hargs hH hn
 simp only [rpE] at h
 split at h
 ·exact hE R args HI k r h dargs H nx hargs hH hn
 ·rename_i args' o0 os0 hla
  revert h
  generalize hos : o0 :: os0 = os at hla
  intro h
  obtain ⟨ds1, a1, a2, a3⟩ := rpAs_ok hH hla hargs
  have hH1 : HRel (delHs os HI) H nx := fun o c hc => by
   by_cases ho : o ∈ os
   ·rw [(delHs_get os HI o).1 ho] at hc; cases hc
   ·rw [(delHs_get os HI o).2 ho] at hc; exact hH o c hc
  obtain ⟨v, H', rd, wr, kl, h1, pre, d, post, nx', h2, h3, h4, h5, h6, h7, h8, h9⟩ := hE R args' _ _ r h ds1 H nx a1 hH1 (by rw [delHs_len]; exact hn)
  obtain ⟨hd, hk⟩ := cond_some h1
  have dis : ∀ o, o ∈ os → o ∉ rd ∧ o ∉ wr := fun o ho => by
   have := List.all_eq_true.1 hd o ho
   simp only [Bool.and_eq_true, Bool.not_eq_true'] at this
   exact ⟨fun hm => (by rw [anyN_mem.2 hm] at this; cases this.1), fun hm => (by rw [anyN_mem.2 hm] at this; cases this.2)⟩
  let B : Cks := os.map fun o => (o, (H o).getD ⟨0, 0, []⟩)
  have there : ∀ o, o ∈ os → ∃ g cs ck, getH HI o = some (.box g cs) ∧ o < nx ∧ H o = some ck ∧ (∀ (H' : Hp) (nx' : Nat), CkR H' nx' (.box g cs) ck) ∧ ∀ x, x ∈ ck.xs → ∀ c, c ∈ x → Ids (fun _ => False) c := fun o ho => by
   obtain ⟨g, cs, hc, hfl⟩ := a3 o ho
   obtain ⟨hlt, ck, k1, k2⟩ := hH o _ hc
   exact ⟨g, cs, ck, hc, hlt, k1, flatBox hfl k2, flatBoxI hfl k2⟩
  have inv : ∀ o ck, ofL B o = some ck → o ∈ os ∧ H o = some ck := fun o ck ho => by
   have hm := ofL_mem ho
   obtain ⟨q, hq, e⟩ := List.mem_map.1 hm
   injection e with e1 e2
   subst e1
   obtain ⟨_, _, c, _, _, k1, _⟩ := there q hq
   rw [k1] at e2
   exact ⟨hq, by rw [k1, ← e2]; simp⟩
  have hkeys : B.map (·.1) = os := by simp [B, Function.comp_def]
  have atB : ∀ o, o ∈ os → ofL B o = H o := fun o ho => by
   obtain ⟨_, _, c, _, _, k1, _⟩ := there o ho
   have hk : o ∈ B.map (·.1) := by rw [hkeys]; exact ho
   obtain ⟨ck, _, q⟩ := puts_has (H := H) hk
   have := inv o ck (q Hp.emp)
   show puts Hp.emp B o = _
   rw [q, this.2]
  have npre : ∀ o, o ∈ os → ofL pre o = none := fun o ho => by
   cases hq : ofL pre o with
   | none => rfl
   | some ck => exact absurd (by rw [← h4]; exact List.mem_map.2 ⟨(o, ck), ofL_mem hq, rfl⟩) (dis o ho).1
  have npost : ∀ o, o ∈ os → ofL post o = none := fun o ho => by
   cases hq : ofL post o with
   | none => rfl
   | some ck => exact absurd (by rw [← h5]; exact List.mem_map.2 ⟨(o, ck), ofL_mem hq, rfl⟩) (dis o ho).2
  have hcall := h2.lend B (fun o ck ho => by
   obtain ⟨i1, i2⟩ := inv o ck ho
   obtain ⟨t, as, c, _, hlt, k1, k2, k3⟩ := there o i1
   rw [i2] at k1; injection k1 with k1; subst k1
   exact ⟨npre o i1, npost o i1, hlt, k3⟩) (a2.mono fun d d1 hl => hl B pre fun o ho => by
    refine ⟨?_, npre o ho⟩
    rcases ofL_app B pre o with ⟨c, q1, _⟩ | ⟨_, q2⟩
    ·rw [npre o ho] at q1; cases q1
    ·rw [q2, atB o ho])
  have putB : puts H B = H := by
   funext o
   rcases puts_split B H o with ⟨_, q2⟩ | ⟨ck, q1, q2⟩
   ·exact q2
   ·rw [q2, (inv o ck q1).2]
  have key : ∀ j, (∃ ck, puts H post j = some ck ∧ j ∈ wr ∧ puts H (B ++ stPost post) j = some (stCk ck)) ∨ (puts H post j = H j ∧ j ∉ wr ∧ puts H (B ++ stPost post) j = H j) := fun j => by
   rw [puts_append, putB]
   by_cases hw : j ∈ wr
   ·rw [← h5] at hw
    obtain ⟨ck, _, q⟩ := puts_has (H := H) hw
    rcases stPost_at post j with ⟨c, q1, q2⟩ | ⟨q1, _⟩
    ·exact .inl ⟨c, q1 _, by rw [← h5]; exact hw, q2 _⟩
    ·have e1 := q Hp.emp; rw [q1] at e1; cases e1
   ·have hw' : j ∉ post.map (·.1) := by rw [h5]; exact hw
    have hw2 : j ∉ (stPost post).map (·.1) := by
     have : (stPost post).map (·.1) = post.map (·.1) := by simp [stPost, Function.comp_def]
     rw [this]; exact hw'
    exact .inr ⟨puts_out hw', hw, puts_out hw2⟩
  have sm : Same (puts H post) nx' (puts H (B ++ stPost post)) nx' := ⟨Nat.le_refl _, fun o c2 _ hc => by
   rcases key o with ⟨ck, k1, _, k3⟩ | ⟨k1, _, k3⟩
   ·rw [k3] at hc; injection hc with hc; subst hc; exact ⟨ck, k1, rfl, by simp [stCk]⟩
   ·rw [k3] at hc; exact ⟨c2, by rw [k1]; exact hc, rfl, rfl⟩⟩
  refine ⟨_, _, _, _, _, hk, B ++ pre, _, _, nx', hcall, fun o ck ho => ?_, by rw [List.map_append, hkeys, h4], ?_, by rw [lendH_len]; exact h6, fun j c hj => ?_, (stV_rel h8).same sm, ⟨h9.n, fun j c2 hj hnk hc => ?_⟩⟩
  ·rcases ofL_app B pre o with ⟨c, q1, q2⟩ | ⟨q1, q2⟩
   ·rw [q2] at ho; injection ho with ho; subst ho; exact h3 o _ q1
   ·rw [q2] at ho; exact (inv o ck ho).2
  ·have : (stPost post).map (·.1) = post.map (·.1) := by simp [stPost, Function.comp_def]
   rw [List.map_append, hkeys, this, h5]
  ·have hlt : j < H'.length := by have := getH_lt _ _ _ hj; rwa [lendH_len] at this
   rw [lendH_get _ _ _ hlt, Nat.zero_add] at hj
   cases ho : anyN os j with
   | true =>
    rw [ho] at hj
    simp only [cond_true] at hj
    have hm := anyN_mem.1 ho
    obtain ⟨t, as, ck, q1, q2, q3, q4⟩ := there j hm
    rw [q1] at hj; injection hj with hj; subst hj
    rcases key j with ⟨_, _, hw, _⟩ | ⟨_, _, k3⟩
    ·exact absurd hw (dis j hm).2
    ·exact ⟨by rw [← h6]; exact hlt, ck, by rw [k3]; exact q3, q4.1 _ _⟩
   | false =>
    rw [ho] at hj
    simp only [cond_false] at hj
    cases hw : anyN wr j with
    | true =>
     rw [hw] at hj
     simp only [cond_true] at hj
     cases hg : getH H' j with
     | none => rw [hg] at hj; cases hj
     | some c0 =>
      rw [hg] at hj
      obtain ⟨q1, ck, q2, q3⟩ := h7 j c0 hg
      rcases key j with ⟨c1, k1, _, k3⟩ | ⟨_, hw', _⟩
      ·rw [k1] at q2; injection q2 with q2; subst q2
       exact ⟨q1, _, k3, (stK_rel q3 hj).same sm⟩
      ·exact absurd (anyN_mem.1 hw) hw'
    | false =>
     rw [hw] at hj
     simp only [cond_false] at hj
     obtain ⟨q1, ck, q2, q3⟩ := h7 j c hj
     rcases key j with ⟨_, _, hw', _⟩ | ⟨k1, _, k3⟩
     ·rw [anyN_mem.2 hw'] at hw; cases hw
     ·exact ⟨q1, ck, by rw [k3, ← k1]; exact q2, q3.same sm⟩
  ·rcases key j with ⟨ck, k1, _, k3⟩ | ⟨k1, _, k3⟩
   ·rw [k3] at hc; injection hc with hc; subst hc
    obtain ⟨c0, m1, m2, m3⟩ := h9.h j ck hj hnk k1
    exact ⟨c0, m1, m2, by rw [m3]; simp [stCk]⟩
   ·rw [k3] at hc; exact ⟨c2, hc, rfl, rfl⟩
end Go.Pv
