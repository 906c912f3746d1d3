/- Functions with a slice parameter that is an own array of the caller and is used up (RdOK), and their entries (rdE). No condition of its own: over any program. -/
import Derived.Test.YtipokcccpbcmeaaDoorPxS
set_option linter.all false
namespace Go.Pv
open Go.RowKit

/-- A function of plain data, of an own array that it uses up, and of plain data. -/
def RdOK (P : Program) (f : FuncId) (ts1 : List GT) (t : GT) (ts2 : List GT) (rk : List RK) (model : Els ts1 → List (El t) → Els ts2 → Option (Els (RK.tys rk))) : Prop := ∀ x as y z, model x as y = some z →
  CallOK P f (valsD ts1 x ++ .own 0 0 0 as.length :: valsD ts2 y) [(0, ⟨0, t.sz, as.map (encD t)⟩)] 1 (resV (resD g0 rk z 1)) ((0, ⟨1, t.sz, []⟩) :: newC g0 rk z 1) (1 + newN rk)

section
variable {t : GT} {rk : List RK}
theorem rd_num (z : Els (RK.tys rk)) : ∀ k (hk : k < ((0, (⟨1, t.sz, []⟩ : Ck)) :: newC g0 rk z 1).length), ((0, (⟨1, t.sz, []⟩ : Ck)) :: newC g0 rk z 1)[k].1 = 0 + k := fun k hk => by
  cases k with
  | zero => rfl
  | succ k =>
    simp only [List.getElem_cons_succ]
    rw [newC_num]; omega
end

def finR' (rs : List RR) (rk : List RK) (si : SI) : Option (Els (RK.tys rk)) := match rrI si.T si.H rs with
  | some vs => decR rk vs si.H 1
  | none => none
def finR (ns : List NS) (rs : List RR) (rk : List RK) : Exit → SI → Option (Els (RK.tys rk))
  | .normal, si => (match normI 1 ns si with
    | some si => finR' rs rk si
    | none => none)
  | .ret, si => finR' rs rk si
  | _, _ => none

theorem rdOK {P : Program} {f nt : Nat} {ow : Nat → Bool} {tc : TC} {rs : List RR} {env : List (Nat × Ent)} {N : Nat} {ns : List NS} {ts1 : List GT} {t : GT} {ts2 : List GT} {rk : List RK} {model : Els ts1 → List (El t) → Els ts2 → Option (Els (RK.tys rk))} (hm : P.follows .mixedOrders = true) (hf : FnOK P f nt ow tc.er rs) (hE : EnvOK P env) (hh : tc.hok P nt ow false) (hlen : Nat.ble (ts1.length + 1 + ts2.length) nt = true)
    (hrun : ∀ x as y, run env N 1 tc ⟨argT0 (valsI ts1 x ++ .whole 0 :: valsI ts2 y) 0, [some (.arr t as)]⟩ (finR ns rs rk) = model x as y) : RdOK P f ts1 t ts2 rk model := by
  intro x as y z hz
  obtain ⟨fn, h1, h2, h3, rfl, h5, h6⟩ := hf.ex
  generalize hpost : ((0, (⟨1, t.sz, []⟩ : Ck)) :: newC g0 rk z 1) = post
  have lpost : post.length = 1 + newN rk := by rw [← hpost, List.length_cons, newC_len]; omega
  have npost := numb_of (l := post) (i := 0) fun k hk => by subst hpost; exact rd_num z k hk
  have pat : ∀ k (hk : k < post.length), ofL post k = some post[k].2 := fun k hk => by
    have := npost.get (H := Hp.emp) (k := k) hk
    rw [Nat.zero_add] at this
    rw [show ofL _ _ = _ from this]
    simp only [ckAt, List.getD_eq_getElem?_getD, List.getElem?_eq_getElem hk, Option.getD_some]
  have pget : ∀ o, o < 1 + newN rk → ∃ ck, ofL post o = some ck := fun o ho => ⟨_, pat o (by omega)⟩
  have pinv : ∀ o ck, ofL post o = some ck → ∃ (hk : o < post.length), ck = post[o].2 := fun o ck ho => by
    obtain ⟨k, hk, e, _⟩ := npost.mem ho
    have : o = k := by omega
    subst this
    refine ⟨hk, ?_⟩
    rw [pat o hk] at ho; injection ho with ho; exact ho.symm
  have pC : ∀ (k : Nat) c, (newC g0 rk z 1)[k]? = some c → ofL post (1 + k) = some c.2 := fun k c hk => by
    obtain ⟨hk1, hk2⟩ := List.getElem?_eq_some_iff.1 hk
    have hl : 1 + k < post.length := by rw [lpost]; rw [newC_len] at hk1; omega
    rw [pat _ hl]
    have : post[1 + k] = (newC g0 rk z 1)[k] := by
      have e : post[1 + k]? = (newC g0 rk z 1)[k]? := by rw [← hpost, Nat.add_comm 1 k, List.getElem?_cons_succ]
      rw [List.getElem?_eq_getElem hl, List.getElem?_eq_getElem hk1] at e
      injection e
    rw [this, hk2]
  have p0 : ofL post 0 = some ⟨1, t.sz, []⟩ := by
    rw [pat 0 (by rw [lpost]; omega)]
    simp only [← hpost, List.getElem_cons_zero]
  have parts : ∀ o ck, ofL post o = some ck → (o = 0 ∧ ck = ⟨1, t.sz, []⟩) ∨ ∃ k c, o = 1 + k ∧ (newC g0 rk z 1)[k]? = some c ∧ c.2 = ck := fun o ck ho => by
    cases o with
    | zero => rw [p0] at ho; injection ho with ho; exact .inl ⟨rfl, ho.symm⟩
    | succ k =>
      obtain ⟨hk, _⟩ := pinv _ ck ho
      have hl : k < (newC g0 rk z 1).length := by rw [newC_len]; rw [lpost] at hk; omega
      refine .inr ⟨k, _, by omega, List.getElem?_eq_getElem hl, ?_⟩
      have := pC k _ (List.getElem?_eq_getElem hl)
      rw [Nat.add_comm 1 k, ho] at this; injection this with this; exact this.symm
  refine CallOK.intro5 (fun o => Nat.beq o 0) hm h1 h2 h3 h5 h6 (by simp only [List.length_append, List.length_cons, valsD_len]; have := Nat.le_of_ble_eq_true hlen; omega) (fun o ck h => ?_) (fun o ck h hlt => ?_) (by omega) ?_ (fun o ck h x hx c hc => ?_) (fun o ck h => ?_) (fun o ck h hd => ?_) fun cx hcx hnb hro => ?_
  · have := ofL_mem h
    simp only [List.mem_singleton, Prod.mk.injEq] at this
    rw [this.1]; exact ⟨_, p0⟩
  · have : o = 0 := by omega
    subst this; exact ⟨_, rfl⟩
  · exact resV_ids (resD_ids g0 rk z _ fun o h1 h2 => .inl (pget o h2))
  · rcases parts o ck h with ⟨_, rfl⟩ | ⟨k, c0, rfl, hk, rfl⟩
    · cases hx
    · exact (fl_ids (newC_fl g0 rk z _ c0 (List.mem_of_getElem? hk)) x hx c hc).mono' fun _ h => h.elim
  · obtain ⟨hk, _⟩ := pinv o ck h
    rw [lpost] at hk; exact hk
  · have : o = 0 := Nat.eq_of_beq_eq_true hd
    subst this
    rw [p0] at h; injection h with h; subst h
    refine ⟨rfl, fun c0 hc0 => ?_⟩
    have hc0 : some (⟨0, t.sz, as.map (encD t)⟩ : Ck) = some c0 := hc0
    injection hc0 with hc0; subst hc0; exact Nat.zero_lt_one
  · have hs : SR ⟨argT0 (valsI ts1 x ++ .whole 0 :: valsI ts2 y) 0, [some (.arr t as)]⟩ ⟨ofArgs (valsD ts1 x ++ .own 0 0 0 as.length :: valsD ts2 y), ofL [(0, ⟨0, t.sz, as.map (encD t)⟩)], 1⟩ := by
      refine start_rel ((valsI_rel ts1 x).append ((valsI_rel ts2 y).cons (.whole _ _ _ Nat.zero_lt_one fun ck hk => ?_))) (fun o c hc => ?_) rfl
      · have hk : some (⟨0, t.sz, as.map (encD t)⟩ : Ck) = some ck := hk
        injection hk with hk; subst hk; exact ⟨rfl, List.length_map ..⟩
      · cases o with
        | zero =>
          simp only [getH, Option.some.injEq] at hc; subst hc
          exact ⟨Nat.zero_lt_one, ⟨0, t.sz, as.map (encD t)⟩, rfl, rfl, bothMap t as⟩
        | succ o => simp [getH] at hc
    have hr : run env N cx.nb tc ⟨argT0 (valsI ts1 x ++ .whole 0 :: valsI ts2 y) 0, [some (.arr t as)]⟩ (finR ns rs rk) = some z := by rw [hnb, ← hz]; exact hrun x as y
    refine (run_sound hE N tc cx (by rw [hcx, hro]; exact hh) _ _ _ hs hr).monoW ?_
    rintro e s' hnx ⟨si', k1, k2⟩
    have fin : ∀ (s' : St) (si' : SI), SR si' s' → finR' rs rk si' = some z → (∃ ds, rrV s'.T s'.H rs = some ds ∧ ∀ ps M w v, VR s'.H ps M s'.nx w (resV ds) v → VR (ofL post) (mask (fun o => Nat.beq o 0) ps) M (1 + newN rk) w (resV (resD g0 rk z 1)) v) ∧
        ∀ o ck, ofL post o = some ck → Nat.beq o 0 = false → ∃ c0, s'.H o = some c0 ∧ CkG (fun o => Nat.beq o 0) s'.H s'.nx (ofL post) (1 + newN rk) c0 ck ∧ (o < 1 → ck.gen = c0.gen) := by
      intro s' si' k1 k2
      unfold finR' at k2
      split at k2
      · rename_i vs hv
        obtain ⟨ds, q1, q2⟩ := rrI_rel k1 rs vs hv
        obtain ⟨q3, q4⟩ := decR_at k1 rk vs z 1 ds k2 q2
        have nwG : ∀ k c, (newC g0 rk z 1)[k]? = some c → ∃ c0, s'.H (1 + k) = some c0 ∧ CkW c0 ⟨c0.gen, c.2.sz, c.2.xs⟩ := fun k c hk => by
          rw [newC_g0 (gsOf s'.H), List.getElem?_map] at hk
          simp only [Option.map_eq_some_iff] at hk
          obtain ⟨c1, hk1, rfl⟩ := hk
          obtain ⟨c0, u1, u2⟩ := q4 k c1 hk1
          exact ⟨c0, u1, ⟨rfl, u2.s, u2.l, u2.r⟩⟩
        have ex : ∀ o ck, ofL post o = some ck → Nat.beq o 0 = false → ∃ c0, s'.H o = some c0 := fun o ck ho hd => by
          rcases parts o ck ho with ⟨rfl, _⟩ | ⟨k, c, rfl, hc, _⟩
          · cases hd
          · obtain ⟨c0, u, _⟩ := nwG k c hc; exact ⟨c0, u⟩
        refine ⟨⟨ds, q1, fun ps M w v hv => ?_⟩, fun o ck ho hd => ?_⟩
        · refine (resV_rg (resD_rg (dead := fun o => Nat.beq o 0) (H := s'.H) (H' := ofL post) (nx' := 1 + newN rk) rk z _ (fun k c hk => ?_) (fun k c hk => ?_))).vr ex ps M w v (resV_wk q3 _ _ _ _ _ _ hv)
          · have := (List.getElem?_eq_some_iff.1 hk).1
            rw [newC_len] at this
            refine ⟨by omega, ?_, q4 k c hk⟩
            rw [Nat.add_comm]; rfl
          · exact pC k c hk
        · rcases parts o ck ho with ⟨rfl, _⟩ | ⟨k, c, rfl, hc, rfl⟩
          · cases hd
          · obtain ⟨c0, u1, u2⟩ := nwG k c hc
            exact ⟨c0, u1, u2.toG ex (fl_ids (newC_fl g0 rk z _ c (List.mem_of_getElem? hc))), fun h => absurd h (by omega)⟩
      · cases k2
    cases e with
    | normal =>
      simp only [finR] at k2
      split at k2
      · rename_i si2 hg
        rw [← hnb] at hg
        obtain ⟨s2, w2, r2, _⟩ := normI_sound ns k1 hnx hg
        obtain ⟨a, b⟩ := fin s2 si2 r2 k2
        exact ⟨s2, w2, .inl rfl, a, b⟩
      · cases k2
    | ret => obtain ⟨a, b⟩ := fin s' si' k1 k2; exact ⟨s', Wk.refl _ _, .inr rfl, a, b⟩
    | _ => simp [finR] at k2

end Go.Pv
