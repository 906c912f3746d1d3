/- Each operation of the walk is a step of the layer (evI_sound). No condition of its own: over any program. -/
import Derived.Test.YtipokcccpbcmeaaDoorPxC
set_option linter.all false
namespace Go.Pv
open Go.RowKit

section sound
variable {R : Type} {P : Program} {s : St} {T : List (Nat × IV)} {HI : IH} {r : R} {k : IV → UpI → List Nat → Option R}

theorem evI_mov {an : An} {x : RO} (hs : SR ⟨T, HI⟩ s) (h : evI (.mov x) an T HI k = some r) : EvOK P (.mov x) s T HI k r :=
  .no h hs rfl rfl rfl (getO_rel hs.t x)

theorem rel_un_b {H : Hp} {nx : Nat} {v : IV} {d : DV} {x : Bool} (h : Rel H nx (.bool x) (un true d)) (p : Bool) : un p d = .v (.bool x) := by
  have := h.bool_inv
  cases d with
  | gd q e =>
    simp only [un] at this ⊢
    cases q with
    | true => simp only [Bool.not_true, Bool.or_true, Bool.true_or, if_true] at this ⊢; exact this
    | false => simp at this
  | _ => first | exact this | (simp only [un] at this ⊢; exact this)

theorem evI_pick {an : An} {c a b : RO} (hs : SR ⟨T, HI⟩ s) (h : evI (.pick c a b) an T HI k = some r) : EvOK P (.pick c a b) s T HI k r := by
  simp only [evI] at h
  have hc := getO_rel hs.t c
  have ha := getO_rel hs.t a
  have hb := getO_rel hs.t b
  split at h
  · rename_i q hq
    rw [hq] at hc
    have hcd := hc.bool_inv
    split at h
    · rename_i x y hx hy
      rw [hx] at ha; rw [hy] at hb
      refine .no h hs rfl (d := .v (.bool (cond q x y))) ?_ rfl (.bool _)
      rw [ev_pick]; unfold pickV; rw [hcd]; simp only [rel_un_b (v := .any) ha, rel_un_b (v := .any) hb, pickU, Option.map_some]
    · rename_i x hx _
      rw [hx] at ha
      obtain ⟨hq1, h⟩ := cond_some h
      subst hq1
      refine .no h hs rfl (d := .v (.bool x)) ?_ rfl (.bool _)
      rw [ev_pick]; unfold pickV; rw [hcd]; simp only [rel_un_b (v := .any) ha]
      generalize un (true && !true) (b.get s.T) = e
      cases e with
      | v z => cases z <;> simp [pickU]
      | _ => simp [pickU]
    · rename_i y hy _
      rw [hy] at hb
      obtain ⟨hq1, h⟩ := cond_some' h
      subst hq1
      refine .no h hs rfl (d := .v (.bool y)) ?_ rfl (.bool _)
      rw [ev_pick]; unfold pickV; rw [hcd]; simp only [rel_un_b (v := .any) hb]
      generalize un (true && false) (a.get s.T) = e
      cases e with
      | v z => cases z <;> simp [pickU]
      | _ => simp [pickU]
    · cases h
  · cases h

theorem evI_box {an : An} {x : RO} (hs : SR ⟨T, HI⟩ s) (h : evI (.box x) an T HI k = some r) : EvOK P (.box x) s T HI k r := by
  simp only [evI] at h
  split at h
  · rename_i cs hc
    obtain ⟨ds, h1, h2⟩ := icells_rel hc (getO_rel hs.t x)
    refine ⟨_, _, _, _, h, .al hs rfl (d := .ptr s.nx 0 0 0) (ck := ⟨0, ds.length, [ds]⟩) (by simp only [ev, h1, Option.map_some]) rfl ⟨h2.1.symm, ds, rfl, h2, rfl⟩ ?_, rfl⟩
    rw [show HI.length = s.nx from hs.n]
    refine .ptr _ _ _ _ (Nat.lt_succ_self _) fun ck hk => ?_
    rw [Hp.put_same] at hk; injection hk with hk; subst hk; exact ⟨rfl, by simp⟩
  · cases h

theorem evI_alloc {an : An} {z : List DV} (hs : SR ⟨T, HI⟩ s) (h : evI (.alloc z) an T HI k = some r) : EvOK P (.alloc z) s T HI k r := by
  simp only [evI] at h
  split at h
  · refine ⟨_, _, _, _, h, ⟨.ptr s.nx 0 0 0, [(s.nx, ⟨0, z.length, [z]⟩)], s.nx + 1, fun K hK => .inl ?_, rfl, fun dst => ?_⟩, by rw [show HI.length = s.nx from hs.n]; rfl⟩
    · exact hK
    · refine hs.al (CkR.boxI (by simp) (ofDcs_rel z)) ?_ dst
      rw [show HI.length = s.nx from hs.n]
      refine .ptr _ _ _ _ (Nat.lt_succ_self _) fun ck hk => ?_
      rw [Hp.put_same] at hk; injection hk with hk; subst hk; exact ⟨rfl, by simp⟩
  · rename_i o _
    split at h
    · rename_i hw
      obtain ⟨ho, ck, h1, sz, rfl⟩ := hs.h.at hw
      refine ⟨_, _, _, _, h, ⟨.ptr o 1 0 0, [(o, ⟨1, z.length, [z]⟩)], s.nx, fun K hK => .inr ⟨o, sz, h1, hK⟩, rfl, fun dst => ?_⟩, rfl⟩
      refine hs.grow ho (CkR.boxI (by simp) (ofDcs_rel z)) ?_ dst
      refine .ptr _ _ _ _ ho fun ck hk => ?_
      rw [Hp.put_same] at hk; injection hk with hk; subst hk; exact ⟨rfl, by simp⟩
    · cases h

theorem evI_build {an : An} {z : List DV} {ps : List (Nat × Nat × RO)} (hs : SR ⟨T, HI⟩ s) (h : evI (.build z ps) an T HI k = some r) : EvOK P (.build z ps) s T HI k r := by
  simp only [evI] at h
  split at h
  · rename_i cs hc
    obtain ⟨ds, h1, h2⟩ := fillI_rel hs.t ps _ _ cs hc (ofDcs_rel z)
    exact .no h hs rfl (d := .agg ds) (by simp only [ev, h1, Option.map_some]) rfl (Rel.aggB h2)
  · cases h

theorem evI_bslice {an : An} {ow : Bool} {sz len : Nat} {z : List DV} {ps : List (Nat × RO)} (hs : SR ⟨T, HI⟩ s) (h : evI (.bslice ow sz z len ps) an T HI k = some r) : EvOK P (.bslice ow sz z len ps) s T HI k r := by
  simp only [evI] at h
  split at h
  · rename_i rows hz hrows
    obtain ⟨ds, h1, h2⟩ := rowsI_rel sz hs.t ps _ (List.replicate len z) rows hrows (Both.replicate len (ofDcs_rel z))
    split at h
    · rename_i as has
      have hb := decRows_rel rows as ds has h2
      split at h
      · have hl : ds.length = len := by
          have : ∀ (ps : List (Nat × RO)) (xs ys : List (List DV)), bslP (fun x => un true (x.get s.T)) sz xs ps = some ys → ys.length = xs.length := by
            intro ps
            induction ps with
            | nil => intro xs ys h; simp only [bslP, Option.some.injEq] at h; rw [h]
            | cons p r ih =>
              intro xs ys h
              obtain ⟨i, x⟩ := p
              simp only [bslP] at h
              split at h
              · split at h
                · have := ih _ _ h; simpa using this
                · cases h
              · cases h
          have := this ps _ _ h1
          simpa using this
        refine ⟨_, _, _, _, h, .al hs rfl (d := .own s.nx 0 0 len) (ck := ⟨0, sz, ds⟩) (by simp only [ev, h1, Option.map_some, if_true]) rfl ⟨(Nat.eq_of_beq_eq_true hz).symm, hb⟩ ?_, rfl⟩
        rw [show HI.length = s.nx from hs.n]
        refine .whole _ _ _ (Nat.lt_succ_self _) fun ck hk => ?_
        rw [Hp.put_same] at hk; injection hk with hk; subst hk; exact ⟨rfl, hl⟩
      · exact .no h hs rfl (d := .lst true ds) (by simp only [ev, h1, Option.map_some]; rfl) rfl (.lst _ _ _ _ _ (fun _ => rfl) hb)
    · cases h
  · cases h

theorem evI_load {an : An} {ag : Bool} {n : Nat} {a : RO} (hs : SR ⟨T, HI⟩ s) (h : evI (.load ag n a) an T HI k = some r) : EvOK P (.load ag n a) s T HI k r := by
  simp only [evI] at h
  have ha := getO_rel hs.t a
  split at h
  · rename_i o i off hv
    rw [hv] at ha
    obtain ⟨g, hd, ho, hg⟩ := ha.ptr_inv
    have fin : ∀ (cs : List IV) (ck : Ck), s.H o = some ck → Rels s.H s.nx cs (ck.xs.getD i []) → loadI ag n off cs [o] k = some r → EvOK P (.load ag n a) s T HI k r := by
      intro cs ck hH hr h
      obtain ⟨rfl, hi⟩ := hg ck hH
      obtain ⟨v, d, h1, h2, h3, h4⟩ := loadI_sound h hr
      refine .no h1 hs rfl (d := d) ?_ (by simp only [rds, hd, DV.ids]) h2
      simp only [ev, hd, loadV, hH]
      rw [if_pos ⟨trivial, h3⟩]
      simp only [h4, Option.map_some]
    split at h
    · rename_i _ cs hc
      obtain ⟨_, ck, h1, h2, ds, h3, h4, h5⟩ := hs.h.at hc
      refine fin cs ck h1 ?_ h
      have := (hg ck h1).2
      rw [h3] at this ⊢
      have : i = 0 := by simpa using this
      subst this; exact h4
    · rename_i t as hc
      obtain ⟨_, ck, h1, h2, h3⟩ := hs.h.at hc
      exact fin _ ck h1 (encC_of_row h3 (hg ck h1).2) h
    · cases h
  · rename_i cs hv
    rw [hv] at ha
    obtain ⟨ds, hd, hr⟩ := ha.rp_inv
    obtain ⟨v, d, h1, h2, h3, h4⟩ := loadI_sound h hr
    refine .no h1 hs rfl (d := d) ?_ (by simp only [rds, hd, DV.ids]) h2
    simp only [Nat.zero_add, List.drop_zero] at h3 h4
    simp only [ev, hd, loadV]
    rw [if_pos h3]
    simp only [h4, Option.map_some]
  · cases h

theorem evI_store {an : An} {n : Nat} {a x : RO} (hs : SR ⟨T, HI⟩ s) (h : evI (.store n a x) an T HI k = some r) : EvOK P (.store n a x) s T HI k r := by
  simp only [evI] at h
  have ha := getO_rel hs.t a
  split at h
  · rename_i o i off ns hv hns
    rw [hv] at ha
    obtain ⟨g, hd, ho, hg⟩ := ha.ptr_inv
    obtain ⟨ms, hms, hrel⟩ := icells_rel hns (getO_rel hs.t x)
    have fin : ∀ (cs : List IV) (ck : Ck) (c0 c : ICk), getH HI o = some c0 → s.H o = some ck → ns.length = n → Rels s.H s.nx cs (ck.xs.getD i []) → off + n ≤ cs.length →
        CkR s.H s.nx c ⟨ck.gen, ck.sz, ck.xs.set i (putCells (ck.xs.getD i []) off ms)⟩ → k (.raw undef) (.set o c) [o] = some r → EvOK P (.store n a x) s T HI k r := by
      intro cs ck c0 c hc0 hH hnl hr hoff hck h
      obtain ⟨rfl, hi⟩ := hg ck hH
      refine ⟨_, _, _, _, h, .set hs rfl (d := .v undef) (ck := ck) (ck' := ⟨ck.gen, ck.sz, ck.xs.set i (putCells (ck.xs.getD i []) off ms)⟩) ?_ (by simp only [rds, hd, DV.ids]) hc0 hH rfl (by simp) hck (.raw _), rfl⟩
      simp only [ev, hd, storeV, hms, hH]
      rw [if_pos ⟨trivial, by rw [← hrel.1]; exact hnl, by rw [← hr.1]; exact hoff⟩]
      rfl
    split at h
    · rename_i gb cs hb hc
      split at h
      · rename_i hb2
        obtain ⟨_, ck, h1, h2, ds, h3, h4, h5⟩ := hs.h.at hc
        have hi := (hg ck h1).2
        rw [h3] at hi
        have : i = 0 := by simpa using hi
        subst this
        refine fin cs ck _ (.box gb (putIc cs off ns)) hc h1 (Nat.eq_of_beq_eq_true hb) (by rw [h3]; exact h4) (Nat.le_of_ble_eq_true hb2) (And.intro ?_ ⟨_, by rw [h3]; rfl, putIc_rel h4 hrel off, h5⟩) h
        have e2 := Nat.le_of_ble_eq_true hb2
        have e1 := Nat.eq_of_beq_eq_true hb
        simp only [putIc, List.length_append, List.length_take, List.length_drop, h2]; omega
      · cases h
    · rename_i t as hb hc
      split at h
      · rename_i x' hb2 hx'
        obtain ⟨_, ck, h1, h2, h3⟩ := hs.h.at hc
        have hi := (hg ck h1).2
        have hrow := encC_of_row (H := s.H) (nx := s.nx) h3 hi
        have hlen : (encC t (as.getD i (dflt t))).length = t.sz := by rw [hrow.1]; exact RelT.len t _ _ (h3.getD (dflt t) [] (by rw [h3.1]; exact hi))
        refine fin _ ck _ (.arr t (as.set i x')) hc h1 (Nat.eq_of_beq_eq_true hb) hrow (by rw [hlen]; exact Nat.le_of_ble_eq_true hb2) (And.intro h2 (h3.set i ?_)) h
        exact dec_rel hx' (putIc_rel hrow hrel off)
      · cases h
    · cases h
  · cases h

theorem evI_nilck {an : An} {x : RO} (hs : SR ⟨T, HI⟩ s) (h : evI (.nilck x) an T HI k = some r) : EvOK P (.nilck x) s T HI k r := by
  simp only [evI] at h
  have ha := getO_rel hs.t x
  split at h
  · rename_i o i f hv
    rw [hv] at ha
    obtain ⟨g, hd, ho, hg⟩ := ha.ptr_inv
    split at h
    · rename_i c hc
      obtain ⟨_, ck, h1, h2⟩ := hs.h.at hc
      obtain ⟨rfl, hi⟩ := hg ck h1
      refine .no h hs rfl (d := .ptr o ck.gen i f) ?_ (by simp only [rds, hd, DV.ids]) (.ptr _ _ _ _ ho hg)
      simp only [ev, hd, live_of h1, if_true]
    · cases h
  · rename_i cs hv
    rw [hv] at ha
    obtain ⟨ds, hd, hr⟩ := ha.rp_inv
    exact .no h hs rfl (d := .rp ds) (by simp only [ev, hd]) (by simp only [rds, hd, DV.ids]) (Rel.rpB hr)
  · rename_i f cs hv
    rw [hv] at ha
    obtain ⟨ds, hd, hr⟩ := ha.fn_inv
    exact .no h hs rfl (d := .fn f ds) (by simp only [ev, hd]) (by simp only [rds, hd, DV.ids]) (Rel.fnB hr)
  · cases h

theorem evI_bin {an : An} {op : BinOp} {x y : RO} (hs : SR ⟨T, HI⟩ s) (h : evI (.bin op x y) an T HI k = some r) : EvOK P (.bin op x y) s T HI k r := by
  simp only [evI] at h
  have ha := getO_rel hs.t x
  have hb := getO_rel hs.t y
  split at h
  · rename_i kx a ky b hx hy
    rw [hx] at ha; rw [hy] at hb
    have e1 := ha.int_inv
    have e2 := hb.int_inv
    split at h
    · rename_i hsh
      obtain ⟨v, d, h1, h2, h3⟩ := shf2_sound h
      refine .no h1 hs rfl (d := d) ?_ rfl (h3 _ _)
      rw [ev_bin, e1, e2]; simp only [binV, hsh, if_true, h2, Option.map_some]
    · rename_i hsh
      split at h
      · rename_i hk
        have hk : kx = ky := by simpa using hk
        subst hk
        obtain ⟨v, d, h1, h2, h3⟩ := binI2_sound h
        refine .no h1 hs rfl (d := d) ?_ rfl (h3 _ _)
        rw [ev_bin, e1, e2]; simp only [binV, hsh, Bool.false_eq_true, if_false, if_true, h2, Option.map_some]
      · cases h
  · rename_i a b hx hy
    rw [hx] at ha; rw [hy] at hb
    have e1 := ha.str_inv
    have e2 := hb.str_inv
    split at h
    · obtain ⟨hc, h⟩ := cond_some h
      have hc := of_decide_eq_true hc
      refine .no h hs rfl (d := .v (.string (mkS (a ++ b)))) ?_ rfl (.str _)
      rw [ev_bin, e1, e2]; show Option.map _ (if a.length + b.length ≤ 9223372036854775807 then _ else none) = _; rw [if_pos hc]; rfl
    · refine .no h hs rfl (d := .v (.bool (a == b))) ?_ rfl (.bool _)
      rw [ev_bin, e1, e2]; simp only [binV, strV, bl_mkS, Option.map_some]
    · refine .no h hs rfl (d := .v (.bool (!(a == b)))) ?_ rfl (.bool _)
      rw [ev_bin, e1, e2]; simp only [binV, strV, bl_mkS, Option.map_some]
    · cases h
  · cases h

theorem evI_eqa {an : An} {neg : Bool} {offs : List (Nat × Nat)} {x y : RO} (hs : SR ⟨T, HI⟩ s) (h : evI (.eqa neg offs x y) an T HI k = some r) : EvOK P (.eqa neg offs x y) s T HI k r := by
  simp only [evI] at h
  have ha := getO_rel hs.t x
  have hb := getO_rel hs.t y
  split at h
  · rename_i xs ys hx hy
    rw [hx] at ha; rw [hy] at hb
    obtain ⟨ds, e1, r1⟩ := ha.agg_inv
    obtain ⟨es, e2, r2⟩ := hb.agg_inv
    split at h
    · rename_i b hc
      have hq := cellsEqI_rel r1 r2 offs b hc
      split at h
      · refine .no h hs rfl (d := .v (.bool (b != true))) ?_ rfl (by cases b <;> exact .bool _)
        simp only [ev, e1, e2, hq, Option.map_some]
      · refine .no h hs rfl (d := .v (.bool (b != false))) ?_ rfl (by cases b <;> exact .bool _)
        simp only [ev, e1, e2, hq, Option.map_some]
    · cases h
  · cases h

theorem evI_beq {an : An} {neg : Bool} {x y : RO} (hs : SR ⟨T, HI⟩ s) (h : evI (.beq neg x y) an T HI k = some r) : EvOK P (.beq neg x y) s T HI k r := by
  simp only [evI] at h
  have ha := getO_rel hs.t x
  have hb := getO_rel hs.t y
  split at h
  · rename_i a b hx hy
    rw [hx] at ha; rw [hy] at hb
    have e1 := ha.bool_inv
    have e2 := hb.bool_inv
    split at h
    · refine .no h hs rfl (d := .v (.bool ((a == b) != true))) ?_ rfl (by cases a == b <;> exact .bool _)
      simp only [ev, e1, e2, beqV, Option.map_some]
    · refine .no h hs rfl (d := .v (.bool ((a == b) != false))) ?_ rfl (by cases a == b <;> exact .bool _)
      simp only [ev, e1, e2, beqV, Option.map_some]
  · cases h

theorem evI_isn {an : An} {neg : Bool} {x : RO} (hs : SR ⟨T, HI⟩ s) (h : evI (.isn neg x) an T HI k = some r) : EvOK P (.isn neg x) s T HI k r := by
  simp only [evI] at h
  have ha := getO_rel hs.t x
  split at h
  · rename_i hx
    rw [hx] at ha
    have e1 := ha.raw_inv
    exact .no h hs rfl (d := .v (.bool (!neg))) (by simp only [ev, e1, isnV, Option.map_some]) rfl (.bool _)
  · rename_i hx
    rw [hx] at ha
    have e1 := ha.nn_inv
    exact .no h hs rfl (d := .v (.bool neg)) (by simp only [ev, e1, isnV, Option.map_some]) rfl (.bool _)
  · cases h

theorem evI_un {an : An} {op : UnOp} {x : RO} (hs : SR ⟨T, HI⟩ s) (h : evI (.un op x) an T HI k = some r) : EvOK P (.un op x) s T HI k r := by
  simp only [evI] at h
  have ha := getO_rel hs.t x
  split at h
  · rename_i kx n hx
    rw [hx] at ha
    exact .no h hs rfl (d := .v (.int kx (kx.wrap (0 - n)))) (by simp only [ev, ha.int_inv, unV, Option.map_some]) rfl (.int _ _)
  · rename_i b hx
    rw [hx] at ha
    exact .no h hs rfl (d := .v (.bool (!b))) (by simp only [ev, ha.bool_inv, unV, Option.map_some]) rfl (.bool _)
  · cases h

theorem evI_conv {an : An} {kk : IntKind} {x : RO} (hs : SR ⟨T, HI⟩ s) (h : evI (.conv kk x) an T HI k = some r) : EvOK P (.conv kk x) s T HI k r := by
  simp only [evI] at h
  have ha := getO_rel hs.t x
  split at h
  · rename_i kx n hx
    rw [hx] at ha
    exact .no h hs rfl (d := .v (.int kk (kk.wrap n))) (by simp only [ev, ha.int_inv]) rfl (.int _ _)
  · cases h

theorem bytes_rows : ∀ {as : List Int} {xs : List (List DV)}, Both (RelT (.int .u8)) as xs → rowsBy xs = some (as.map fun n => UInt8.ofNat n.toNat)
  | [], xs, h => by rw [h.nil_l]; rfl
  | a :: as, xs, h => by
    obtain ⟨b, bs, rfl, h1, h2⟩ := h.cons_l
    have h1 : b = [.v (.int .u8 a)] := h1
    rw [h1]
    simp only [rowsBy, rowBy, bytes_rows h2, List.map_cons]
theorem evI_s2b {an : An} {x : RO} (hs : SR ⟨T, HI⟩ s) (h : evI (.s2b x) an T HI k = some r) : EvOK P (.s2b x) s T HI k r := by
  simp only [evI] at h
  have ha := getO_rel hs.t x
  split at h
  · rename_i st hx
    rw [hx] at ha
    have hd := ha.str_inv
    have hbl : bl (mkS st) = st := by simp [bl, mkS]
    refine ⟨_, _, _, _, h, ⟨.own s.nx 0 0 st.length, [(s.nx, ⟨0, 1, st.map byRow⟩)], s.nx + 1, fun K hK => ?_, rfl, fun dst => ?_⟩, by rw [show HI.length = s.nx from hs.n]; rfl⟩
    · have : ev (.s2b x) true s.T s.H s.nx = some (.own s.nx 0 0 st.length, .al ⟨0, 1, st.map byRow⟩) := by simp only [ev, hd, hbl]
      show evK _ _
      rw [this]; exact hK
    · refine hs.al (CkR.arrI (t := .int .u8) rfl ⟨by simp, fun j h1 h2 => ?_⟩) ?_ dst
      · simp only [List.getElem_map]; rfl
      · rw [show HI.length = s.nx from hs.n]
        refine .whole _ _ _ (Nat.lt_succ_self _) fun ck hk => ?_
        rw [Hp.put_same] at hk; injection hk with hk; subst hk; exact ⟨rfl, by simp⟩
  · cases h
theorem evI_b2s {an : An} {x : RO} (hs : SR ⟨T, HI⟩ s) (h : evI (.b2s x) an T HI k = some r) : EvOK P (.b2s x) s T HI k r := by
  simp only [evI] at h
  have ha := getO_rel hs.t x
  split at h
  · rename_i f as hx
    rw [hx] at ha
    obtain ⟨f', xs, hd, _, hb⟩ := ha.lst_inv
    exact .no h hs rfl (d := .v (.string (mkS (as.map fun n => UInt8.ofNat n.toNat)))) (by simp only [ev, hd, elemsV, bytes_rows hb, Option.map_some]) (by simp only [rds, hd, DV.ids]) (.str _)
  · rename_i o hx
    rw [hx] at ha
    split at h
    · rename_i as hw
      obtain ⟨ho, ck, h1, h2, h3⟩ := hs.h.at hw
      obtain ⟨g, n, hd, _, hgn⟩ := ha.whole_inv
      obtain ⟨rfl, rfl⟩ := hgn ck h1
      refine .no h hs rfl (d := .v (.string (mkS (as.map fun n => UInt8.ofNat n.toNat)))) ?_ (by simp only [rds, hd, DV.ids]) (.str _)
      simp only [ev, hd, elemsV, h1]
      rw [if_pos trivial, List.drop_zero, List.take_length]
      simp only [bytes_rows h3, Option.map_some]
    · cases h
  · cases h
theorem evI_fadr {an : An} {off : Nat} {x : RO} (hs : SR ⟨T, HI⟩ s) (h : evI (.fadr off x) an T HI k = some r) : EvOK P (.fadr off x) s T HI k r := by
  simp only [evI] at h
  have ha := getO_rel hs.t x
  split at h
  · rename_i o i f hv
    rw [hv] at ha
    obtain ⟨g, hd, ho, hg⟩ := ha.ptr_inv
    split at h
    · rename_i c hc
      obtain ⟨_, ck, h1, h2⟩ := hs.h.at hc
      obtain ⟨rfl, hi⟩ := hg ck h1
      refine .no h hs rfl (d := .ptr o ck.gen i (f + off)) ?_ (by simp only [rds, hd, DV.ids]) (.ptr _ _ _ _ ho hg)
      simp only [ev, hd, live_of h1, if_true]
    · cases h
  · rename_i cs hv
    rw [hv] at ha
    obtain ⟨ds, hd, hr⟩ := ha.rp_inv
    exact .no h hs rfl (d := .rp (ds.drop off)) (by simp only [ev, hd]) (by simp only [rds, hd, DV.ids]) (Rel.rpB (hr.drop off))
  · cases h

theorem head_rel {H : Hp} {nx : Nat} {cs : List IV} {ds : List DV} {off : Nat} {c : IV} {l : List IV} (hr : Rels H nx cs ds) (he : cs.drop off = c :: l) : ∃ d, (ds.drop off).head? = some d ∧ Rel H nx c d := by
  have hd := hr.drop off
  rw [he] at hd
  obtain ⟨d, ds', he', h1, h2⟩ := hd.cons_l
  exact ⟨d, by simp [he'], h1⟩

theorem evI_fld {an : An} {ag : Bool} {n off : Nat} {x : RO} (hs : SR ⟨T, HI⟩ s) (h : evI (.fld ag n off x) an T HI k = some r) : EvOK P (.fld ag n off x) s T HI k r := by
  simp only [evI] at h
  have ha := getO_rel hs.t x
  split at h
  · rename_i cs hv
    rw [hv] at ha
    obtain ⟨ds, hd, hr⟩ := ha.agg_inv
    split at h
    · rename_i hb
      have hle : off + n ≤ ds.length := by rw [← hr.1]; exact Nat.le_of_ble_eq_true hb
      split at h
      · refine .no h hs rfl (d := .agg ((ds.drop off).take n)) ?_ rfl (Rel.aggB ((hr.drop off).take n))
        simp only [ev, hd]; rw [if_pos hle]; rfl
      · split at h
        · rename_i c l he
          obtain ⟨d, h1, h2⟩ := head_rel hr he
          refine .no h hs rfl (d := d) ?_ rfl h2
          simp only [ev, hd]; rw [if_pos hle]; simp [h1]
        · cases h
    · cases h
  · cases h

theorem evI_iadrS {an : An} {sz : Nat} {x i : RO} (hs : SR ⟨T, HI⟩ s) (h : evI (.iadrS sz x i) an T HI k = some r) : EvOK P (.iadrS sz x i) s T HI k r := by
  simp only [evI] at h
  have ha := getO_rel hs.t x
  have hi := getO_rel hs.t i
  split at h
  · rename_i f t as kx n hx hn
    rw [hx] at ha; rw [hn] at hi
    obtain ⟨f', xs, hd, _, hb⟩ := ha.lst_inv
    split at h
    · rename_i hz
      obtain ⟨hin, h⟩ := cond_some h
      simp only [inB, decide_eq_true_eq] at hin
      have hlt : n.toNat < as.length := by omega
      have hlt2 : n.toNat < xs.length := by rw [← hb.1]; exact hlt
      have hrow := hb.getD (dflt t) [] hlt
      refine .no h hs rfl (d := .rp (xs.getD n.toNat [])) ?_ (by simp only [rds, hd, DV.ids]) (Rel.rpB (encC_of_row hb hlt2))
      simp only [ev, hd, hi.int_inv]
      rw [if_pos ⟨hin.1, by rw [← hb.1]; exact hin.2, by rw [RelT.len t _ _ hrow]; exact Nat.eq_of_beq_eq_true hz⟩]
    · cases h
  · rename_i o kx n hx hn
    rw [hx] at ha; rw [hn] at hi
    obtain ⟨g, m, hd, ho, hg⟩ := ha.whole_inv
    split at h
    · rename_i t as hc
      split at h
      · rename_i hz
        obtain ⟨hin, h⟩ := cond_some h
        simp only [inB, decide_eq_true_eq] at hin
        obtain ⟨_, ck, h1, h2, h3⟩ := hs.h.at hc
        obtain ⟨rfl, rfl⟩ := hg ck h1
        have e := h3.1
        refine .no h hs rfl (d := .ptr o ck.gen (0 + n.toNat) 0) ?_ (by simp only [rds, hd, DV.ids]) ?_
        · simp only [ev, hd, hi.int_inv, h1]
          rw [if_pos ⟨trivial, by rw [h2]; exact Nat.eq_of_beq_eq_true hz, hin.1, by omega⟩]
        · rw [Nat.zero_add]
          exact .ptr _ _ _ _ ho fun ck' hk => by rw [h1] at hk; injection hk with hk; subst hk; exact ⟨rfl, by omega⟩
      · cases h
    · cases h
  · rename_i o lo m kx n hx hn
    rw [hx] at ha; rw [hn] at hi
    obtain ⟨g, hd, ho, hg⟩ := ha.part_inv
    split at h
    · rename_i t as hc
      split at h
      · rename_i hz
        obtain ⟨hin, h⟩ := cond_some h
        simp only [inB, decide_eq_true_eq] at hin
        obtain ⟨_, ck, h1, h2, h3⟩ := hs.h.at hc
        obtain ⟨rfl, hle⟩ := hg ck h1
        refine .no h hs rfl (d := .ptr o ck.gen (lo + n.toNat) 0) ?_ (by simp only [rds, hd, DV.ids]) ?_
        · simp only [ev, hd, hi.int_inv, h1]
          rw [if_pos ⟨trivial, by rw [h2]; exact Nat.eq_of_beq_eq_true hz, hin.1, by omega⟩]
        · exact .ptr _ _ _ _ ho fun ck' hk => by rw [h1] at hk; injection hk with hk; subst hk; exact ⟨rfl, by omega⟩
      · cases h
    · cases h
  · cases h

theorem evI_iadrA {an : An} {sz len : Nat} {x i : RO} (hs : SR ⟨T, HI⟩ s) (h : evI (.iadrA sz len x i) an T HI k = some r) : EvOK P (.iadrA sz len x i) s T HI k r := by
  simp only [evI] at h
  have ha := getO_rel hs.t x
  have hi := getO_rel hs.t i
  split at h
  · rename_i o j f kx n hx hn
    rw [hx] at ha; rw [hn] at hi
    obtain ⟨g, hd, ho, hg⟩ := ha.ptr_inv
    split at h
    · rename_i c hc
      obtain ⟨hin, h⟩ := cond_some h
      simp only [inB, decide_eq_true_eq] at hin
      obtain ⟨_, ck, h1, h2⟩ := hs.h.at hc
      obtain ⟨rfl, hl⟩ := hg ck h1
      refine .no h hs rfl (d := .ptr o ck.gen j (f + n.toNat * sz)) ?_ (by simp only [rds, hd, DV.ids]) (.ptr _ _ _ _ ho hg)
      simp only [ev, hd, hi.int_inv]
      rw [if_pos ⟨live_of h1, hin.1, hin.2⟩]
    · cases h
  · rename_i cs kx n hx hn
    rw [hx] at ha; rw [hn] at hi
    obtain ⟨ds, hd, hr⟩ := ha.rp_inv
    obtain ⟨hin, h⟩ := cond_some h
    simp only [inB, decide_eq_true_eq] at hin
    refine .no h hs rfl (d := .rp (ds.drop (n.toNat * sz))) ?_ (by simp only [rds, hd, DV.ids]) (Rel.rpB (hr.drop _))
    simp only [ev, hd, hi.int_inv]
    rw [if_pos hin]
  · cases h

theorem evI_idxA {an : An} {ag : Bool} {sz len : Nat} {x i : RO} (hs : SR ⟨T, HI⟩ s) (h : evI (.idxA ag sz len x i) an T HI k = some r) : EvOK P (.idxA ag sz len x i) s T HI k r := by
  simp only [evI] at h
  have ha := getO_rel hs.t x
  have hi := getO_rel hs.t i
  split at h
  · rename_i cs kx n hx hn
    rw [hx] at ha; rw [hn] at hi
    obtain ⟨ds, hd, hr⟩ := ha.agg_inv
    obtain ⟨hin, h⟩ := cond_some h
    rw [Bool.and_eq_true] at hin
    obtain ⟨hin, hle⟩ := hin
    have hle := Nat.le_of_ble_eq_true hle
    simp only [inB, decide_eq_true_eq] at hin
    split at h
    · refine .no h hs rfl (d := .agg ((ds.drop (n.toNat * sz)).take sz)) ?_ rfl (Rel.aggB ((hr.drop _).take _))
      simp only [ev, hd, hi.int_inv]
      rw [if_pos ⟨hin.1, hin.2, by rw [← hr.1]; exact hle⟩]; rfl
    · split at h
      · rename_i c l he
        obtain ⟨d, h1, h2⟩ := head_rel hr he
        refine .no h hs rfl (d := d) ?_ rfl h2
        simp only [ev, hd, hi.int_inv]
        rw [if_pos ⟨hin.1, hin.2, by rw [← hr.1]; exact hle⟩]; simp [h1]
      · cases h
  · cases h

theorem bnd_rel {H : Hp} {nx : Nat} {T : List (Nat × IV)} {T' : Nat → DV} (ht : ∀ t, Rel H nx (getT T t) (T' t)) {o : Option RO} {l : Option Int} (h : bnd0 (o.map (getO T)) = some l) (d : Nat) : bndV d (o.map fun x => un true (x.get T')) = some (boD d l) := by
  cases o with
  | none => simp only [Option.map_none, bnd0, Option.some.injEq] at h; subst h; rfl
  | some x =>
    simp only [Option.map_some, bnd0] at h
    split at h
    · rename_i e; cases e
    · rename_i kx n e
      injection e with e
      injection h with h; subst h
      have := getO_rel ht x
      rw [e] at this
      simp only [Option.map_some, this.int_inv, bndV, boD]
    · cases h

theorem evI_slc {an : An} {sz : Nat} {x : RO} {lo hi : Option RO} (hs : SR ⟨T, HI⟩ s) (h : evI (.slc sz x lo hi) an T HI k = some r) : EvOK P (.slc sz x lo hi) s T HI k r := by
  simp only [evI] at h
  have ha := getO_rel hs.t x
  split at h
  · rename_i f t as l u hx hl hu
    rw [hx] at ha
    obtain ⟨f', xs, hd, hf, hb⟩ := ha.lst_inv
    split at h
    · rename_i hz
      obtain ⟨hin, h⟩ := cond_some h
      have hcut := cutL_both hb l u hin
      simp only [slB, decide_eq_true_eq] at hin
      have hall := all_sz hb hz
      refine .no h hs rfl (d := .lst (f' && decide (boD xs.length u = xs.length)) ((xs.drop (boD 0 l).toNat).take ((boD xs.length u).toNat - (boD 0 l).toNat))) ?_ (by simp only [rds, hd, DV.ids]) (.lst _ _ _ _ _ ?_ hcut)
      · simp only [ev, hd, slcV, bnd_rel hs.t hl 0, bnd_rel hs.t hu xs.length]
        have e := hb.1
        rw [if_pos ⟨hin.1, by rw [← e]; exact hin.2.1, by rw [← e]; exact hin.2.2, .inr hall⟩]; rfl
      · cases u with
        | none => intro hf1; simp [hf hf1, boD]
        | some e => intro hf1; cases hf1
    · cases h
  · rename_i o l u hx hl hu
    rw [hx] at ha
    obtain ⟨g, m, hd, ho, hg⟩ := ha.whole_inv
    split at h
    · rename_i t as hc
      split at h
      · rename_i hz
        obtain ⟨hin, h⟩ := cond_some h
        simp only [slB, decide_eq_true_eq] at hin
        obtain ⟨_, ck, h1, h2, h3⟩ := hs.h.at hc
        obtain ⟨rfl, rfl⟩ := hg ck h1
        have e := h3.1
        rw [e] at hin h
        refine .no h hs rfl (d := .own o ck.gen (0 + (boD 0 l).toNat) ((boD ck.xs.length u).toNat - (boD 0 l).toNat)) ?_ (by simp only [rds, hd, DV.ids]) ?_
        · simp only [ev, hd, slcV, bnd_rel hs.t hl 0, bnd_rel hs.t hu ck.xs.length]
          rw [if_pos ⟨by simp [ownSz, h1, h2, Nat.eq_of_beq_eq_true hz], hin⟩]; rfl
        · rw [Nat.zero_add]
          exact .part _ _ _ _ ho fun ck' hk => by rw [h1] at hk; injection hk with hk; subst hk; exact ⟨rfl, by omega⟩
      · cases h
    · cases h
  · rename_i o b m l u hx hl hu
    rw [hx] at ha
    obtain ⟨g, hd, ho, hg⟩ := ha.part_inv
    split at h
    · rename_i t as hc
      split at h
      · rename_i hz
        obtain ⟨hin, h⟩ := cond_some h
        simp only [slB, decide_eq_true_eq] at hin
        obtain ⟨_, ck, h1, h2, h3⟩ := hs.h.at hc
        obtain ⟨rfl, hle⟩ := hg ck h1
        refine .no h hs rfl (d := .own o ck.gen (b + (boD 0 l).toNat) ((boD m u).toNat - (boD 0 l).toNat)) ?_ (by simp only [rds, hd, DV.ids]) ?_
        · simp only [ev, hd, slcV, bnd_rel hs.t hl 0, bnd_rel hs.t hu m]
          rw [if_pos ⟨by simp [ownSz, h1, h2, Nat.eq_of_beq_eq_true hz], hin⟩]; rfl
        · exact .part _ _ _ _ ho fun ck' hk => by rw [h1] at hk; injection hk with hk; subst hk; exact ⟨rfl, by omega⟩
      · cases h
    · cases h
  · cases h

theorem evI_mksl {an : An} {sz bytes : Nat} {z : List DV} {len cap : RO} (hs : SR ⟨T, HI⟩ s) (h : evI (.mksl sz bytes z len cap) an T HI k = some r) : EvOK P (.mksl sz bytes z len cap) s T HI k r := by
  simp only [evI] at h
  have ha := getO_rel hs.t len
  have hb := getO_rel hs.t cap
  split at h
  · rename_i l c z' hl hc hz'
    rw [hl] at ha; rw [hc] at hb
    split at h
    · rename_i hz
      have hev : mkB bytes l c = true → ev (.mksl sz bytes z len cap) true s.T s.H s.nx = some (.own s.nx 0 0 l.toNat, .al ⟨0, sz, List.replicate l.toNat z⟩) := fun hin => by
        simp only [mkB, decide_eq_true_eq] at hin
        simp only [ev, ha.int_inv, hb.int_inv]; rw [if_pos hin]
      split at h
      · obtain ⟨hin, h⟩ := cond_some h
        refine ⟨_, _, _, _, h, ⟨.own s.nx 0 0 l.toNat, [(s.nx, ⟨0, sz, List.replicate l.toNat z⟩)], s.nx + 1, fun K hK => .inl ?_, rfl, fun dst => ?_⟩, by rw [show HI.length = s.nx from hs.n]; rfl⟩
        · rw [hev hin]; exact hK
        · refine hs.al (CkR.arrI (Nat.eq_of_beq_eq_true hz).symm (Both.replicate _ (dec_rel hz' (ofDcs_rel (H := s.H) (nx := s.nx) z)))) ?_ dst
          rw [show HI.length = s.nx from hs.n]
          refine .whole _ _ _ (Nat.lt_succ_self _) fun ck hk => ?_
          rw [Hp.put_same] at hk; injection hk with hk; subst hk; exact ⟨rfl, by simp⟩
      · rename_i o _
        split at h
        · rename_i hw
          obtain ⟨hin, h⟩ := cond_some h
          obtain ⟨ho, ck, h1, sz0, rfl⟩ := hs.h.at hw
          refine ⟨_, _, _, _, h, ⟨.own o 1 0 l.toNat, [(o, ⟨1, sz, List.replicate l.toNat z⟩)], s.nx, fun K hK => .inr ⟨o, sz0, _, _, hev hin, h1, by simpa using hK⟩, rfl, fun dst => ?_⟩, rfl⟩
          refine hs.grow ho (CkR.arrI (Nat.eq_of_beq_eq_true hz).symm (Both.replicate _ (dec_rel hz' (ofDcs_rel (H := s.H) (nx := s.nx) z)))) ?_ dst
          refine .whole _ _ _ ho fun ck hk => ?_
          rw [Hp.put_same] at hk; injection hk with hk; subst hk; exact ⟨rfl, by simp⟩
        · cases h
    · cases h
  · cases h

theorem evI_len {an : An} {x : RO} (hs : SR ⟨T, HI⟩ s) (h : evI (.len x) an T HI k = some r) : EvOK P (.len x) s T HI k r := by
  simp only [evI] at h
  have ha := getO_rel hs.t x
  split at h
  · rename_i hx
    rw [hx] at ha
    exact .no h hs rfl (d := I 0) (by simp only [ev, ha.nil_inv, lenV, List.length_nil, Option.map_some]; rfl) (by simp only [rds, ha.nil_inv, DV.ids]) (.int _ _)
  · rename_i f t as hx
    rw [hx] at ha
    obtain ⟨f', xs, hd, _, hb⟩ := ha.lst_inv
    exact .no h hs rfl (d := I as.length) (by simp only [ev, hd, lenV, Option.map_some, hb.1]) (by simp only [rds, hd, DV.ids]) (.int _ _)
  · rename_i o hx
    rw [hx] at ha
    obtain ⟨g, m, hd, ho, hg⟩ := ha.whole_inv
    split at h
    · rename_i t as hc
      obtain ⟨_, ck, h1, h2, h3⟩ := hs.h.at hc
      obtain ⟨rfl, rfl⟩ := hg ck h1
      exact .no h hs rfl (d := I as.length) (by simp only [ev, hd, lenV, Option.map_some, h3.1]) (by simp only [rds, hd, DV.ids]) (.int _ _)
    · cases h
  · rename_i o lo n hx
    rw [hx] at ha
    obtain ⟨g, hd, ho, hg⟩ := ha.part_inv
    exact .no h hs rfl (d := I n) (by simp only [ev, hd, lenV, Option.map_some]) (by simp only [rds, hd, DV.ids]) (.int _ _)
  · cases h

theorem evI_lens {an : An} {x : RO} (hs : SR ⟨T, HI⟩ s) (h : evI (.lens x) an T HI k = some r) : EvOK P (.lens x) s T HI k r := by
  simp only [evI] at h
  have ha := getO_rel hs.t x
  split at h
  · rename_i b hx
    rw [hx] at ha
    exact .no h hs rfl (d := I (mkS b).size) (by simp only [ev, ha.str_inv, lensV, Option.map_some]) rfl (.int _ _)
  · cases h

theorem evI_sidx {an : An} {x i : RO} (hs : SR ⟨T, HI⟩ s) (h : evI (.sidx x i) an T HI k = some r) : EvOK P (.sidx x i) s T HI k r := by
  simp only [evI] at h
  have ha := getO_rel hs.t x
  have hb := getO_rel hs.t i
  split at h
  · rename_i b kk n hx hi
    rw [hx] at ha; rw [hi] at hb
    obtain ⟨hc, h⟩ := cond_some h
    have hc : 0 ≤ n ∧ n < b.length := by simpa [inB] using hc
    refine .no h hs rfl (d := .v (.int .u8 (b.getD n.toNat 0).toNat)) ?_ rfl (.int _ _)
    simp only [ev, ha.str_inv, hb.int_inv, sidxV, bl_mkS]
    show Option.map _ (if 0 ≤ n ∧ n < (b.length : Int) then _ else none) = _
    rw [if_pos hc]; rfl
  · cases h
theorem evI_sslc {an : An} {x : RO} {lo hi : Option RO} (hs : SR ⟨T, HI⟩ s) (h : evI (.sslc x lo hi) an T HI k = some r) : EvOK P (.sslc x lo hi) s T HI k r := by
  simp only [evI] at h
  have ha := getO_rel hs.t x
  split at h
  · rename_i b l hh hx hl hi'
    rw [hx] at ha
    obtain ⟨hc, h⟩ := cond_some h
    have hc : 0 ≤ boD 0 l ∧ boD 0 l ≤ boD b.length hh ∧ boD b.length hh ≤ b.length := by simpa [slB] using hc
    refine .no h hs rfl (d := .v (.string (mkS (cutL b l hh)))) ?_ rfl (.str _)
    simp only [ev, ha.str_inv, sslcV, bl_mkS, bnd_rel hs.t hl, bnd_rel hs.t hi']
    have e : (b.drop (boD 0 l).toNat).take ((boD b.length hh).toNat - (boD 0 l).toNat) = cutL b l hh := by
      cases l with
      | none =>
        cases hh with
        | none => simp [boD, cutL]
        | some m => simp [boD, cutL]
      | some q =>
        cases hh with
        | none => simp only [boD, cutL, Int.toNat_natCast]; exact List.take_of_length_le (by simp)
        | some m => simp [boD, cutL]
    show Option.map _ (if 0 ≤ boD 0 l ∧ boD 0 l ≤ boD (b.length : Int) hh ∧ boD (b.length : Int) hh ≤ (b.length : Int) then some (DV.v (.string (mkS ((b.drop (boD 0 l).toNat).take ((boD (b.length : Int) hh).toNat - (boD 0 l).toNat))))) else none) = _
    rw [if_pos hc]
    rw [e]; rfl
  · cases h

theorem evI_mm {an : An} {mx : Bool} {xs : List RO} (hs : SR ⟨T, HI⟩ s) (h : evI (.mm mx xs) an T HI k = some r) : EvOK P (.mm mx xs) s T HI k r := by
  cases xs with
  | nil => simp [evI] at h
  | cons x r' =>
    simp only [evI, List.map_cons] at h
    split at h
    · rename_i v hv
      have hl : Rels s.H s.nx (r'.map (getO T)) (r'.map fun x => un true (x.get s.T)) := Both.of_map r' fun y => getO_rel hs.t y
      obtain ⟨e, q1, q2⟩ := mmI_sound _ _ _ _ _ hv (getO_rel hs.t x) hl
      exact .no h hs rfl (d := e) (by simp only [ev, List.map_cons, q1, Option.map_some]) rfl q2
    · cases h

theorem evI_extr {an : An} {i : Nat} {x : RO} (hs : SR ⟨T, HI⟩ s) (h : evI (.extr i x) an T HI k = some r) : EvOK P (.extr i x) s T HI k r := by
  simp only [evI] at h
  have ha := getO_rel hs.t x
  split at h
  · rename_i vs hx
    rw [hx] at ha
    obtain ⟨ds, hd, hr⟩ := ha.tup_inv
    split at h
    · rename_i v hv
      obtain ⟨d, q1, q2⟩ := Both.get? hr hv
      exact .no h hs rfl (d := d) (by simp only [ev, hd, q1, Option.map_some]) rfl q2
    · cases h
  · cases h

theorem evI_mkfn {an : An} {f : FuncId} {cs : List RO} (hs : SR ⟨T, HI⟩ s) (h : evI (.mkfn f cs) an T HI k = some r) : EvOK P (.mkfn f cs) s T HI k r :=
  .no h hs rfl (d := .fn f (cs.map fun x => un true (x.get s.T))) rfl rfl (Rel.fnB (Both.of_map cs fun x => getO_rel hs.t x))

theorem evI_app {an : An} {sz bytes : Nat} {a x : RO} (hs : SR ⟨T, HI⟩ s) (h : evI (.app sz bytes a x) an T HI k = some r) : EvOK P (.app sz bytes a x) s T HI k r := by
  simp only [evI] at h
  have ha := getO_rel hs.t a
  have hx := getO_rel hs.t x
  split at h
  · rename_i o hv
    rw [hv] at ha
    obtain ⟨g, m, hd, ho, hg⟩ := ha.whole_inv
    split at h
    · rename_i t as hc
      split at h
      · rename_i bs rd hz hel
        split at h
        · rename_i hself
          rw [Bool.and_eq_true] at hself
          have hsz1 := Nat.le_of_ble_eq_true hself.2
          obtain ⟨hin, h⟩ := cond_some h
          obtain ⟨ys, e1, e2, e3⟩ := elems_rel hel hs hx
          obtain ⟨_, ck, h1, h2, h3⟩ := hs.h.at hc
          obtain ⟨rfl, rfl⟩ := hg ck h1
          simp only [fitsB, decide_eq_true_eq] at hin
          have hzz := Nat.eq_of_beq_eq_true hz
          have hrd : rds (.app sz bytes a x) true s.T = o :: rd := by show (un true (a.get s.T)).ids ++ (un true (x.get s.T)).ids = _; rw [hd, e3]; rfl
          have hlen : ((ck.xs.drop 0).take ck.xs.length ++ ys).length = ck.xs.length + ys.length := by simp
          have hev : ev (.app sz bytes a x) true s.T s.H s.nx = some (.own o (ck.gen + 1) 0 ((ck.xs.drop 0).take ck.xs.length ++ ys).length, .wr o ⟨ck.gen + 1, sz, (ck.xs.drop 0).take ck.xs.length ++ ys⟩) := by
            rw [hlen]
            simp only [ev, hd, appV, e1, h1]
            rw [if_pos (all_sz e2 hz), if_pos ⟨trivial, by rw [h2]; exact hzz, by rw [← h3.1, ← e2.1]; exact hin.1, by rw [← h3.1, ← e2.1]; exact hin.2⟩]
          refine ⟨_, _, _, _, h, ⟨.lst false ((ck.xs.drop 0).take ck.xs.length ++ ys), [(o, ⟨ck.gen + 1 + 1, sz, []⟩)], s.nx, fun K hk => .inr (.inr ⟨o, ⟨ck.gen + 1, sz, (ck.xs.drop 0).take ck.xs.length ++ ys⟩, hev, by show 0 < sz; omega, by rw [hrd]; exact hk⟩), rfl, fun dst => ?_⟩, rfl⟩
          refine hs.grow ho (CkR.arrI hzz.symm Both.nil) (.lst _ _ _ _ _ (fun e => by cases e) ?_) dst
          have : (ck.xs.drop 0).take ck.xs.length = ck.xs := by simp
          rw [this]; exact h3.append e2
        obtain ⟨hin, h⟩ := cond_some h
        obtain ⟨ys, e1, e2, e3⟩ := elems_rel hel hs hx
        obtain ⟨_, ck, h1, h2, h3⟩ := hs.h.at hc
        obtain ⟨rfl, rfl⟩ := hg ck h1
        simp only [fitsB, decide_eq_true_eq] at hin
        have hzz := Nat.eq_of_beq_eq_true hz
        refine ⟨_, _, _, _, h, .grow hs rfl (d := .own o (ck.gen + 1) 0 (ck.xs.length + ys.length)) (ck' := ⟨ck.gen + 1, sz, (ck.xs.drop 0).take ck.xs.length ++ ys⟩) ?_ (by show (un true (a.get s.T)).ids ++ (un true (x.get s.T)).ids = _; rw [hd, e3]; rfl) ho (CkR.arrI hzz.symm ?_) ?_, rfl⟩
        · simp only [ev, hd, appV, e1, h1]
          rw [if_pos (all_sz e2 hz), if_pos ⟨trivial, by rw [h2]; exact hzz, by rw [← h3.1, ← e2.1]; exact hin.1, by rw [← h3.1, ← e2.1]; exact hin.2⟩]
        · have : (ck.xs.drop 0).take ck.xs.length = ck.xs := by simp
          rw [this]; exact h3.append e2
        · refine .whole _ _ _ ho fun ck' hk => ?_
          rw [Hp.put_same] at hk; injection hk with hk; subst hk; exact ⟨rfl, by simp⟩
      · cases h
    · cases h
  · rename_i o lo m hv
    rw [hv] at ha
    obtain ⟨g, hd, ho, hg⟩ := ha.part_inv
    split at h
    · rename_i t as hc
      split at h
      · rename_i bs rd hz hel
        obtain ⟨hin, h⟩ := cond_some h
        obtain ⟨ys, e1, e2, e3⟩ := elems_rel hel hs hx
        obtain ⟨_, ck, h1, h2, h3⟩ := hs.h.at hc
        obtain ⟨rfl, hle⟩ := hg ck h1
        simp only [fitsB, decide_eq_true_eq] at hin
        have hzz := Nat.eq_of_beq_eq_true hz
        refine ⟨_, _, _, _, h, .grow hs rfl (d := .own o (ck.gen + 1) 0 (m + ys.length)) (ck' := ⟨ck.gen + 1, sz, (ck.xs.drop lo).take m ++ ys⟩) ?_ (by show (un true (a.get s.T)).ids ++ (un true (x.get s.T)).ids = _; rw [hd, e3]; rfl) ho (CkR.arrI hzz.symm (((h3.drop lo).take m).append e2)) ?_, rfl⟩
        · simp only [ev, hd, appV, e1, h1]
          rw [if_pos (all_sz e2 hz), if_pos ⟨trivial, by rw [h2]; exact hzz, by rw [← e2.1]; exact hin.1, by rw [← e2.1]; exact hin.2⟩]
        · refine .whole _ _ _ ho fun ck' hk => ?_
          rw [Hp.put_same] at hk; injection hk with hk; subst hk; exact ⟨rfl, by simp; omega⟩
      · cases h
    · cases h
  · rename_i hv
    rw [hv] at ha
    split at h
    · split at h
      · rename_i bs rd hz hel
        obtain ⟨hin, h⟩ := cond_some h
        obtain ⟨ys, e1, e2, e3⟩ := elems_rel hel hs hx
        simp only [fitsB, decide_eq_true_eq] at hin
        refine .no h hs rfl (d := .lst false ([] ++ ys)) ?_ (by show (un true (a.get s.T)).ids ++ (un true (x.get s.T)).ids = _; rw [ha.nil_inv, e3]; rfl) (.lst _ _ _ _ _ (fun e => by cases e) (by simpa using e2))
        simp only [ev, ha.nil_inv, appV, e1]
        rw [if_pos (all_sz e2 hz), if_pos ⟨rfl, by simpa [← e2.1] using hin.1, by simpa [← e2.1] using hin.2⟩]
      · cases h
    · rename_i o ho0
      split at h
      · rename_i t hc
        split at h
        · rename_i bs rd hz hel
          obtain ⟨hin, h⟩ := cond_some h
          obtain ⟨ys, e1, e2, e3⟩ := elems_rel hel hs hx
          obtain ⟨ho, ck, h1, h2, h3⟩ := hs.h.at hc
          have hxs : ck.xs = [] := h3.nil_l
          have hzz := Nat.eq_of_beq_eq_true hz
          simp only [fitsB, decide_eq_true_eq] at hin
          refine ⟨_, _, _, _, h, ⟨.own o (ck.gen + 1) 0 (0 + ys.length), [(o, ⟨ck.gen + 1, sz, (ck.xs.drop 0).take 0 ++ ys⟩)], s.nx, fun K hk => .inr (.inl ⟨o, ck, .own o (ck.gen + 1) 0 (0 + ys.length), .wr o ⟨ck.gen + 1, sz, (ck.xs.drop 0).take 0 ++ ys⟩, ha.nil_inv, h1, hxs, ?_, ?_⟩), rfl, fun dst => ?_⟩, rfl⟩
          · simp only [appV, e1, h1]
            rw [if_pos (all_sz e2 hz), if_pos ⟨trivial, by rw [h2]; exact hzz, by rw [Nat.zero_add, ← e2.1]; exact hin.1, by rw [Nat.zero_add, ← e2.1]; exact hin.2⟩]
          · rw [e3]; exact hk
          · refine hs.grow ho (CkR.arrI hzz.symm (by simpa using e2)) (.whole _ _ _ ho fun ck' hk => ?_) dst
            rw [Hp.put_same] at hk; injection hk with hk; subst hk; exact ⟨rfl, by simp⟩
        · cases h
      · cases h
  · rename_i t as hv
    rw [hv] at ha
    obtain ⟨f', xs, hd, hf, hb⟩ := ha.lst_inv
    have hf1 := hf rfl
    subst hf1
    split at h
    · rename_i bs rd hz hel
      obtain ⟨hin, h⟩ := cond_some h
      obtain ⟨ys, e1, e2, e3⟩ := elems_rel hel hs hx
      simp only [fitsB, decide_eq_true_eq] at hin
      refine .no h hs rfl (d := .lst false (xs ++ ys)) ?_ (by show (un true (a.get s.T)).ids ++ (un true (x.get s.T)).ids = _; rw [hd, e3]; rfl) (.lst _ _ _ _ _ (fun e => by cases e) (hb.append e2))
      simp only [ev, hd, appV, e1]
      rw [if_pos (all_sz e2 hz), if_pos ⟨all_sz hb hz, by rw [← hb.1, ← e2.1]; exact hin.1, by rw [← hb.1, ← e2.1]; exact hin.2⟩]
    · cases h
  · cases h

theorem evI_sound {op : ROp} {an : An} (hs : SR ⟨T, HI⟩ s) (h : evI op an T HI k = some r) : EvOK P op s T HI k r := by
  cases op with
  | mov => exact evI_mov hs h
  | pick => exact evI_pick hs h
  | box => exact evI_box hs h
  | alloc => exact evI_alloc hs h
  | build => exact evI_build hs h
  | bslice => exact evI_bslice hs h
  | load => exact evI_load hs h
  | store => exact evI_store hs h
  | nilck => exact evI_nilck hs h
  | bin => exact evI_bin hs h
  | eqa => exact evI_eqa hs h
  | beq => exact evI_beq hs h
  | isn => exact evI_isn hs h
  | un => exact evI_un hs h
  | conv => exact evI_conv hs h
  | s2b => exact evI_s2b hs h
  | b2s => exact evI_b2s hs h
  | fadr => exact evI_fadr hs h
  | fld => exact evI_fld hs h
  | iadrS => exact evI_iadrS hs h
  | iadrA => exact evI_iadrA hs h
  | idxA => exact evI_idxA hs h
  | slc => exact evI_slc hs h
  | mksl => exact evI_mksl hs h
  | len => exact evI_len hs h
  | lens => exact evI_lens hs h
  | sidx => exact evI_sidx hs h
  | sslc => exact evI_sslc hs h
  | lenA n => exact .no h hs rfl (d := I n) rfl rfl (.int _ _)
  | mm => exact evI_mm hs h
  | app => exact evI_app hs h
  | extr => exact evI_extr hs h
  | mkfn => exact evI_mkfn hs h
  | call => simp [evI] at h
end sound
end Go.Pv
