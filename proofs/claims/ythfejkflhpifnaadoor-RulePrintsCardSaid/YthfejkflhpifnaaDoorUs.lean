/- rule.Uses: the array of the conditions seen and the list out of it, walked by hand (HandOK). No condition of its own: over any program. -/
import Derived.Test.YthfejkflhpifnaaDoorNs
set_option linter.all false
namespace Go.Pv
open Go.RowKit

section
variable {P : Program} {T : Nat → DV} {H : Hp} {nx : Nat}
theorem e_iadrAP {o g j f sz len n : Nat} {x y : RO} {k : IntKind} {gs : Nat} {xs : List (List DV)} (hx : un true (x.get T) = .ptr o g j f) (hy : un true (y.get T) = .v (.int k n)) (hH : H o = some ⟨g, gs, xs⟩) (hn : n < len) : ev (.iadrA sz len x y) true T H nx = some (.ptr o g j (f + n * sz), .no) := by
  simp only [ev, hx, hy]
  rw [if_pos ⟨by simp [live, hH], by omega, by omega⟩, Int.toNat_natCast]
theorem e_idxA1 {n len : Nat} {x y : RO} {k : IntKind} {cs : List DV} {d : DV} (hx : un true (x.get T) = .agg cs) (hy : un true (y.get T) = .v (.int k n)) (hn : n < len) (hd : cs[n]? = some d) : ev (.idxA false 1 len x y) true T H nx = some (d, .no) := by
  obtain ⟨hl, hd⟩ := List.getElem?_eq_some_iff.1 hd
  simp only [ev, hx, hy]
  rw [if_pos ⟨by omega, by omega, by simp; omega⟩, Int.toNat_natCast]
  simp [List.head?_drop, hl, hd]
end

abbrev G_Nd : GT := .pair (.int .i64) (.pair (.int .i64) (.pair (.int .i64) (.int .i64)))
def setR : List (El G_Nd) → List Bool → Option (List Bool)
  | [], h => some h
  | n :: ns, h => bif decide (n.1 = 1) then (bif inB n.2.1 64 then setR ns (h.set n.2.1.toNat true) else none) else setR ns h
def outU : List Bool → Nat → List Int
  | [], _ => []
  | b :: bs, i => bif b then (i : Int) :: outU bs (i + 1) else outU bs (i + 1)
def usesM (l : List (El G_Nd)) : Option (List Int) := bif decide (l.length < 9223372036854775807) then (match setR l (List.replicate 64 false) with
  | some h => some (outU h 0)
  | none => none) else none
theorem setR_len : ∀ (l : List (El G_Nd)) (h h' : List Bool), setR l h = some h' → h'.length = h.length
  | [], h, h', e => by simp only [setR, Option.some.injEq] at e; rw [e]
  | n :: ns, h, h', e => by
    simp only [setR] at e
    cases h1 : decide (n.1 = 1) with
    | true =>
      rw [h1, cond_true] at e
      cases h2 : inB n.2.1 64 with
      | true => rw [h2, cond_true] at e; rw [setR_len ns _ _ e, List.length_set]
      | false => rw [h2, cond_false] at e; cases e
    | false => rw [h1, cond_false] at e; exact setR_len ns _ _ e
def ndC (r : El G_Nd) : List DV := [I r.1, I r.2.1, I r.2.2.1, I r.2.2.2]
theorem nd_of {r : El G_Nd} {ds : List DV} (h : RelT G_Nd r ds) : ds = ndC r := by
  obtain ⟨d1, e1, rfl, h1, d2, e2, rfl, h2, d3, e3, rfl, h3, h4⟩ := h
  rw [show d1 = _ from h1, show d2 = _ from h2, show d3 = _ from h3, show e3 = _ from h4]
  rfl
theorem nds_of : ∀ {as : List (El G_Nd)} {xs : List (List DV)}, Both (RelT G_Nd) as xs → xs = as.map ndC
  | [], xs, h => h.nil_l
  | a :: as, xs, h => by
    obtain ⟨b, bs, rfl, h1, h2⟩ := h.cons_l
    rw [nd_of h1, nds_of h2]; rfl
def uses_A : AC := (.rg [⟨(some 3), (.alloc [(B false), (B false), (B false), (B false), (B false), (B false), (B false), (B false), (B false), (B false), (B false), (B false), (B false), (B false), (B false), (B false), (B false), (B false), (B false), (B false), (B false), (B false), (B false), (B
  false), (B false), (B false), (B false), (B false), (B false), (B false), (B false), (B false), (B false), (B false), (B false), (B false), (B false), (B false), (B false), (B false), (B false), (B false), (B false), (B false), (B false), (B false), (B false), (B false), (B false), (B false), (B
  false), (B false), (B false), (B false), (B false), (B false), (B false), (B false), (B false), (B false), (B false), (B false), (B false), (B false)]), none⟩] none)
def uses_L1 : AC := (.seq (.rg [⟨(some 15), (.bin .lss (.t 14) (.t 13)), none⟩] none) (.seq (.cond (.t 15) .skip (.exit 0)) (.seq (.block 1 (.seq (.rg [⟨(some 16), (.iadrS 4 (.t 12) (.t 14)), none⟩, ⟨(some 17), (.load true 4 (.t 16)), none⟩, ⟨(some 5), (.alloc [(I 0), (I 0), (I 0), (I 0)]), none⟩,
  ⟨none, (.store 4 (.t 5) (.t 17)), none⟩] none) (.seq (.rg [⟨(some 18), (.fadr 0 (.t 5)), none⟩, ⟨(some 19), (.load false 1 (.t 18)), none⟩, ⟨(some 20), (.bin .eql (.t 19) (.c (I 1))), none⟩] none) (.cond (.t 20) (.rg [⟨(some 21), (.fadr 1 (.t 5)), none⟩, ⟨(some 22), (.load false 1 (.t 21)), none⟩,
  ⟨(some 23), (.iadrA 1 64 (.t 3) (.t 22)), none⟩, ⟨none, (.store 1 (.t 23) (.c (B true))), none⟩] none) .skip)))) (.rg [⟨(some 24), (.bin .add (.t 14) (.c (I 1))), none⟩, ⟨(some 14), (.mov (.t 24)), none⟩] none))))
def uses_B : AC := (.seq (.rg [⟨(some 12), (.mov (.t 0)), none⟩, ⟨(some 13), (.len (.t 12)), none⟩, ⟨(some 14), (.mov (.c (I 0))), none⟩] none) (.block 0 (.loop uses_L1)))
def uses_C : AC := (.rg [⟨(some 6), (.mov (.c (.lst true []))), none⟩] none)
def uses_L2 : AC := (.seq (.rg [⟨(some 27), (.bin .lss (.t 26) (.c (I 64))), none⟩] none) (.seq (.cond (.t 27) .skip (.exit 2)) (.seq (.block 3 (.seq (.rg [⟨(some 28), (.mov (.t 26)), none⟩, ⟨(some 29), (.idxA false 1 64 (.t 25) (.t 26)), none⟩, ⟨(some 7), (.mov (.t 28)), none⟩, ⟨(some 8), (.mov (.t
  29)), none⟩] none) (.seq (.rg [⟨(some 30), (.mov (.t 8)), none⟩] none) (.cond (.t 30) (.rg [⟨(some 31), (.mov (.t 6)), none⟩, ⟨(some 32), (.mov (.t 7)), none⟩, ⟨(some 33), (.bslice false 1 [(I 0)] 1 [(0, (.t 32))]), none⟩, ⟨(some 34), (.app 1 8 (.t 31) (.t 33)), none⟩, ⟨(some 6), (.mov (.t 34)),
  none⟩] none) .skip)))) (.rg [⟨(some 35), (.bin .add (.t 26) (.c (I 1))), none⟩, ⟨(some 26), (.mov (.t 35)), none⟩] none))))
def uses_D : AC := (.seq (.rg [⟨(some 25), (.load true 64 (.t 3)), none⟩, ⟨(some 26), (.mov (.c (I 0))), none⟩] none) (.block 2 (.loop uses_L2)))

def bx (h : List Bool) : List DV := h.map B
theorem uses_loop1 {P : Program} {cx : Cx} {ow : Nat → Bool} (f : Bool) (l : List (El G_Nd)) (out : List Bool) (Q : Exit → St → Prop) (hlen : l.length < 9223372036854775807)
    (hQ : ∀ T H nx, H 0 = some ⟨0, 64, [bx out]⟩ → 0 < nx → T 3 = .ptr 0 0 0 0 → Q (.exit 0) ⟨T, H, nx⟩) : ∀ (ks : List (El G_Nd)) (i : Nat) (h : List Bool) (H : Hp) (nx : Nat), l.drop i = ks → i + ks.length = l.length → h.length = 64 →
    H 0 = some ⟨0, 64, [bx h]⟩ → 0 < nx → setR ks h = some out →
    AWPL P cx ow uses_L1 Q ⟨mkT [(3, .ptr 0 0 0 0), (12, .lst f (l.map ndC)), (13, I l.length), (14, I i)], H, nx⟩ := by
  intro ks
  induction ks with
  | nil =>
    intro i h H nx hd hi hh hH hx ho
    simp only [setR, Option.some.injEq] at ho; subst ho
    refine AWPL.unr (by delta uses_L1; rfl) ?_
    refine AWP.seq (AWP.rgX (rx_no (e_lss (a := i) (b := l.length) rfl rfl) (rx_nil ?_)))
    refine tq_nrm (AWP.seq ?_)
    refine AWP.condF rfl (decide_eq_false (by simp at hi; omega)) (AWP.exit ?_)
    refine tq_ex (tq_ex ?_)
    exact hQ _ _ _ hH hx rfl
  | cons k ks ih =>
    intro i h H nx hd hi hh hH hx ho
    have hi' : i < l.length := by simp at hi; omega
    have hk : l[i] = k := by
      have := List.getElem_drop (xs := l) (i := i) (j := 0) (h := by rw [hd]; simp)
      simp only [hd, List.getElem_cons_zero, Nat.add_zero] at this
      exact this.symm
    refine AWPL.unr (by delta uses_L1; rfl) ?_
    refine AWP.seq (AWP.rgX (rx_no (e_lss (a := i) (b := l.length) rfl rfl) (rx_nil ?_)))
    refine tq_nrm (AWP.seq ?_)
    refine AWP.condT rfl (decide_eq_true (by omega)) (AWP.skip ?_)
    refine tq_nrm (AWP.seq (AWP.block ?_))
    have fin : ∀ (T' : Nat → DV) (H' : Hp) (nx' : Nat) (h' : List Bool), h'.length = 64 → H' 0 = some ⟨0, 64, [bx h']⟩ → 0 < nx' → setR ks h' = some out → T' 3 = .ptr 0 0 0 0 → T' 12 = .lst f (l.map ndC) → T' 13 = I l.length → T' 14 = I i →
        AWP P cx ow (.rg [⟨(some 24), (.bin .add (.t 14) (.c (I 1))), none⟩, ⟨(some 14), (.mov (.t 24)), none⟩] none) (thenQ (fun s' => AWPL P cx ow uses_L1 Q s') Q) ⟨T', H', nx'⟩ := by
      intro T' H' nx' h' a1 a2 a3 a4 b1 b2 b3 b4
      refine AWP.rgX ?_
      refine rx_no (e_inc (i := i) (by show un true (T' 14) = _; rw [b4]; rfl) rfl (by omega)) ?_
      refine rx_no (e_movI (k := .i64) (a := ((i + 1 : Nat) : Int)) rfl) (rx_nil ?_)
      refine tq_nrm ?_
      refine AWPL.live [(3, .ptr 0 0 0 0), (12, .lst f (l.map ndC)), (13, I l.length), (14, I ((i + 1 : Nat) : Int))] ?_ ?_
      · simp only [Has, upd_get]
        exact ⟨b1, b2, b3, rfl, trivial⟩
      · refine ih (i + 1) h' _ _ ?_ ?_ a1 a2 a3 a4
        · rw [← List.drop_drop, hd]; rfl
        · simp at hi; omega
    refine AWP.seq (AWP.rgX ?_)
    refine rx_no (e_ixL (f := f) (xs := l.map ndC) (n := i) (cs := ndC k) rfl rfl (by omega) (by simp; omega) (by simp [hi', hk]) rfl) ?_
    refine rx_no (d := .agg (ndC k)) rfl ?_
    refine rx_al (ev_alloc ..) ?_
    refine rx_st (e_st (o := nx) (g := 0) (i := 0) (f := 0) (cs := ndC k) (ys := [ndC k]) rfl rfl (Hp.put_same ..) rfl rfl rfl) (rx_nil ?_)
    refine tq_nrm ?_
    generalize hH2 : (Hp.put (Hp.put H nx _) nx _) = H2
    have hr2 : H2 nx = some ⟨0, 4, [ndC k]⟩ := by rw [← hH2]; exact Hp.put_same ..
    have hH02 : H2 0 = some ⟨0, 64, [bx h]⟩ := by rw [← hH2, Hp.put_ne _ _ _ (by omega), Hp.put_ne _ _ _ (by omega)]; exact hH
    clear hH2
    refine AWP.seq (AWP.rgX ?_)
    refine rx_no (e_fap (o := nx) (g := 0) (i := 0) (f := 0) rfl hr2) ?_
    refine rx_no (e_ldp (c := I k.1) rfl hr2 rfl) ?_
    refine rx_no (e_eql (k := .i64) (a := k.1) (b := 1) rfl rfl) (rx_nil ?_)
    refine tq_nrm ?_
    simp only [setR] at ho
    by_cases hc : k.1 = 1
    · rw [decide_eq_true hc, cond_true] at ho
      cases hb : inB k.2.1 64 with
      | false => rw [hb, cond_false] at ho; cases ho
      | true =>
        rw [hb, cond_true] at ho
        obtain ⟨k0, k1⟩ : 0 ≤ k.2.1 ∧ k.2.1 < (64 : Nat) := of_decide_eq_true hb
        obtain ⟨p, hp⟩ : ∃ p : Nat, k.2.1 = (p : Int) := ⟨Int.toNat k.2.1, (Int.toNat_of_nonneg k0).symm⟩
        rw [hp] at k1
        rw [hp, Int.toNat_natCast] at ho
        have k1' : (p : Int) < 64 := k1
        have hp64 : p < 64 := by omega
        refine AWP.condT (b := k.1 == 1) rfl (by simp [hc]) (AWP.rgX ?_)
        refine rx_no (e_fap (o := nx) (g := 0) (i := 0) (f := 0) rfl hr2) ?_
        refine rx_no (e_ldp (c := I p) rfl hr2 (by show some (I k.2.1) = _; rw [hp])) ?_
        refine rx_no (e_iadrAP (o := 0) (g := 0) (j := 0) (f := 0) (n := p) rfl rfl hH02 hp64) ?_
        refine rx_st (e_st (o := 0) (g := 0) (i := 0) (f := 0 + p * 1) (cs := [B true]) (ys := [bx (h.set p true)]) rfl rfl hH02 rfl ?_ ?_) (rx_nil ?_)
        · simp [bx, hh]; omega
        · show [putCells (bx h) (0 + p * 1) [B true]] = _
          congr 1
          unfold putCells bx
          have hpl : p < h.length := by omega
          rw [show 0 + p * 1 = p by omega, List.map_set, List.set_eq_take_append_cons_drop, if_pos (by simpa using hpl)]
          simp
        · refine iq_nrm (tq_nrm ?_)
          exact fin _ _ _ (h.set p true) (by simpa using hh) (Hp.put_same ..) (by omega) ho rfl rfl rfl rfl
    · rw [decide_eq_false hc, cond_false] at ho
      refine AWP.condF (b := k.1 == 1) rfl (by simp [hc]) (AWP.skip ?_)
      refine iq_nrm (tq_nrm ?_)
      exact fin _ _ _ h hh hH02 (by omega) ho rfl rfl rfl rfl

theorem uses_loop2 {P : Program} {cx : Cx} {ow : Nat → Bool} (o : Nat) (h : List Bool) (hh : h.length = 64) (Q : Exit → St → Prop)
    (hQ : ∀ T H nx g, H o = some ⟨g, 1, encR (outU h 0)⟩ → o < nx → T 6 = .own o g 0 (outU h 0).length → Q (.exit 2) ⟨T, H, nx⟩) : ∀ (ks : List Bool) (i g : Nat) (out : List Int) (H : Hp) (nx : Nat), h.drop i = ks → i + ks.length = 64 → out.length ≤ i →
    H o = some ⟨g, 1, encR out⟩ → o < nx → out ++ outU ks i = outU h 0 →
    AWPL P cx ow uses_L2 Q ⟨mkT [(6, .own o g 0 out.length), (25, .agg (bx h)), (26, I i)], H, nx⟩ := by
  intro ks
  induction ks with
  | nil =>
    intro i g out H nx hd hi hl hH hx ho
    simp only [outU, List.append_nil] at ho; subst ho
    refine AWPL.unr (by delta uses_L2; rfl) ?_
    refine AWP.seq (AWP.rgX (rx_no (e_lss (a := i) (b := 64) rfl rfl) (rx_nil ?_)))
    refine tq_nrm (AWP.seq ?_)
    refine AWP.condF rfl (decide_eq_false (by simp at hi; omega)) (AWP.exit ?_)
    refine tq_ex (tq_ex ?_)
    exact hQ _ _ _ g hH hx rfl
  | cons k ks ih =>
    intro i g out H nx hd hi hl hH hx ho
    have hi' : i < h.length := by simp at hi; omega
    have hk : h[i] = k := by
      have := List.getElem_drop (xs := h) (i := i) (j := 0) (h := by rw [hd]; simp)
      simp only [hd, List.getElem_cons_zero, Nat.add_zero] at this
      exact this.symm
    refine AWPL.unr (by delta uses_L2; rfl) ?_
    refine AWP.seq (AWP.rgX (rx_no (e_lss (a := i) (b := 64) rfl rfl) (rx_nil ?_)))
    refine tq_nrm (AWP.seq ?_)
    refine AWP.condT rfl (decide_eq_true (by omega)) (AWP.skip ?_)
    refine tq_nrm (AWP.seq (AWP.block ?_))
    have fin : ∀ (T' : Nat → DV) (H' : Hp) (nx' g' : Nat) (out' : List Int), out'.length ≤ i + 1 → H' o = some ⟨g', 1, encR out'⟩ → o < nx' → out' ++ outU ks (i + 1) = outU h 0 → T' 6 = .own o g' 0 out'.length → T' 25 = .agg (bx h) → T' 26 = I i →
        AWP P cx ow (.rg [⟨(some 35), (.bin .add (.t 26) (.c (I 1))), none⟩, ⟨(some 26), (.mov (.t 35)), none⟩] none) (thenQ (fun s' => AWPL P cx ow uses_L2 Q s') Q) ⟨T', H', nx'⟩ := by
      intro T' H' nx' g' out' a1 a2 a3 a4 b1 b2 b3
      refine AWP.rgX ?_
      refine rx_no (e_inc (i := i) (by show un true (T' 26) = _; rw [b3]; rfl) rfl (by omega)) ?_
      refine rx_no (e_movI (k := .i64) (a := ((i + 1 : Nat) : Int)) rfl) (rx_nil ?_)
      refine tq_nrm ?_
      refine AWPL.live [(6, .own o g' 0 out'.length), (25, .agg (bx h)), (26, I ((i + 1 : Nat) : Int))] ?_ ?_
      · simp only [Has, upd_get]
        exact ⟨b1, b2, rfl, trivial⟩
      · refine ih (i + 1) g' out' _ _ ?_ ?_ a1 a2 a3 a4
        · rw [← List.drop_drop, hd]; rfl
        · simp at hi; omega
    refine AWP.seq (AWP.rgX ?_)
    refine rx_no (e_movI (k := .i64) (a := i) rfl) ?_
    refine rx_no (e_idxA1 (n := i) (d := B k) (cs := bx h) rfl rfl (by omega) (by simp [bx, hi', hk])) ?_
    refine rx_no (e_movI (k := .i64) (a := i) rfl) ?_
    refine rx_no (e_movB (a := k) rfl) (rx_nil ?_)
    refine tq_nrm ?_
    refine AWP.seq (AWP.rgX ?_)
    refine rx_no (e_movB (a := k) rfl) (rx_nil ?_)
    refine tq_nrm ?_
    cases k with
    | false =>
      refine AWP.condF (b := false) rfl rfl (AWP.skip ?_)
      refine iq_nrm (tq_nrm ?_)
      exact fin _ _ _ g out (by omega) hH hx ho rfl rfl rfl
    | true =>
      refine AWP.condT (b := true) rfl rfl (AWP.rgX ?_)
      refine rx_no (e_movO (o := o) (g := g) (i := 0) (f := out.length) rfl) ?_
      refine rx_no (e_movI (k := .i64) (a := i) rfl) ?_
      refine rx_no (e_bsl (xs := [[I i]]) rfl) ?_
      refine rx_wr (e_appO (o := o) (g := g) (lo := 0) (n := out.length) (news := [[I i]]) rfl rfl hH rfl (by simp; omega)) ?_
      refine rx_no (e_movO (o := o) (g := g + 1) (i := 0) (f := out.length + 1) rfl) (rx_nil ?_)
      refine iq_nrm (tq_nrm ?_)
      have e1 : encR (out ++ [(i : Int)]) = ((encR out).drop 0).take out.length ++ [[I i]] := by
        rw [List.drop_zero, List.take_of_length_le (by simp [encR])]; simp [encR]
      exact fin _ _ _ (g + 1) (out ++ [(i : Int)]) (by simp; omega) (by rw [e1]; exact Hp.put_same ..) hx (by simpa [outU] using ho) (by simp; rfl) rfl rfl

def uses_g (si : SI) : Option (El (.list (.int .i64))) := match si.H, getT si.T 0 with
  | [], .lst _ t l => (match castL t G_Nd l with
    | some l => usesM l
    | none => none)
  | _, _ => none
def uses_u (y : El (.list (.int .i64))) (si : SI) : SI := ⟨[(6, .lst false (.int .i64) y)], si.H⟩

theorem uses_hand {P : Program} {nt : Nat} {ow : Nat → Bool} : HandOK P nt ow [uses_A, uses_B, uses_C, uses_D] (.list (.int .i64)) uses_g uses_u := by
  intro cx hcx si y s c Q hs hn hg hk
  unfold uses_g at hg
  split at hg
  · rename_i f t l0 hH h0
    split at hg
    · rename_i l hc
      obtain ⟨rfl, rfl⟩ := castL_some hc
      obtain ⟨f', xs, e0, _, hb⟩ := (h0 ▸ hs.t 0).lst_inv
      have hxs := nds_of hb
      subst hxs
      have hnx : s.nx = 0 := by rw [← hs.n, hH]; rfl
      obtain ⟨T, H, nx⟩ := s
      simp only at hnx e0 hn
      subst hnx
      have hg : (bif decide (l.length < 9223372036854775807) then (match setR l (List.replicate 64 false) with
        | some h => some (outU h 0)
        | none => none) else none) = some y := hg
      by_cases q1 : l.length < 9223372036854775807
      · rw [decide_eq_true q1, cond_true] at hg
        cases hset : setR l (List.replicate 64 false) with
        | none => rw [hset] at hg; cases hg
        | some h =>
          rw [hset] at hg
          injection hg with hg
          subst hg
          have hh : h.length = 64 := by rw [setR_len _ _ _ hset]; simp
          show AWP P cx ow (.seq uses_A (.seq uses_B (.seq uses_C (.seq uses_D c)))) Q _
          refine AWP.seq (AWP.rgX ?_)
          refine rx_al (ev_alloc ..) (rx_nil ?_)
          refine tq_nrm (AWP.seq (AWP.seq (AWP.rgX ?_)))
          refine rx_no (e_movL (f := f') (xs := l.map ndC) (by show un true (T 0) = _; rw [e0]; rfl)) ?_
          refine rx_no (e_lenL (f := f') (xs := l.map ndC) (n := l.length) rfl (by simp)) ?_
          refine rx_no (e_movI (k := .i64) (a := 0) rfl) (rx_nil ?_)
          refine tq_nrm (AWP.block (AWP.loopL ?_))
          refine AWPL.live [(3, .ptr 0 0 0 0), (12, .lst f' (l.map ndC)), (13, I l.length), (14, I 0)] ?_ ?_
          · simp only [Has, upd_get]
            exact ⟨rfl, rfl, rfl, rfl, trivial⟩
          refine uses_loop1 f' l h _ q1 ?_ l 0 (List.replicate 64 false) _ _ rfl (by omega) (by simp) (Hp.put_same ..) (by omega) hset
          intro T1 H1 nx1 hH1 hx1 hT1
          refine iq_ex (tq_nrm (AWP.seq (AWP.rgX ?_)))
          refine rx_no (e_movL (f := true) (xs := []) rfl) (rx_nil ?_)
          refine tq_nrm ?_
          refine AWP.wk (Wk.ghost 1) ?_
          have sh : Shape ⟨upd T1 6 (.lst true []), H1.put nx1 (some ⟨0, 1, []⟩), nx1 + 1⟩ (cutH (H1.put nx1 (some ⟨0, 1, []⟩)) (nx1 + 1)) id (nx1 + 1) := ⟨fun j ck' hj => by
            obtain ⟨h1, h2⟩ := cutH_some hj
            exact ⟨h1, ck', h2, rfl, rfl, rfl⟩⟩
          have w1 : Wk cx ⟨upd T1 6 (.lst true []), H1.put nx1 (some ⟨0, 1, []⟩), nx1 + 1⟩ ⟨upd T1 6 (.own nx1 0 0 0), cutH (H1.put nx1 (some ⟨0, 1, []⟩)) (nx1 + 1), nx1 + 1⟩ := by
            refine Wk.cells (s := ⟨upd T1 6 (.lst true []), H1.put nx1 (some ⟨0, 1, []⟩), nx1 + 1⟩) (by show cx.nb ≤ nx1 + 1; omega) sh (fun j ck' ck h1 h2 => .inl ?_) (fun q => ?_)
            · have h2 : (H1.put nx1 (some ⟨0, 1, []⟩)) j = some ck := h2
              have := (cutH_some h1).2
              rw [h2] at this; injection this with this; exact this.symm
            · simp only [upd]
              by_cases e : q = 6
              · subst e; rw [if_pos rfl]
                exact own_tr (fun _ _ => Nat.zero_le _) (by show nx1 < nx1 + 1; omega)
              · rw [if_neg e, if_neg e]; exact id_tr sh
          refine AWP.wk w1 ?_
          have hHo : cutH (H1.put nx1 (some ⟨0, 1, []⟩)) (nx1 + 1) nx1 = some ⟨0, 1, encR []⟩ := by unfold cutH; rw [if_pos (by omega)]; exact Hp.put_same ..
          have hH0' : cutH (H1.put nx1 (some ⟨0, 1, []⟩)) (nx1 + 1) 0 = some ⟨0, 64, [bx h]⟩ := by unfold cutH; rw [if_pos (by omega), Hp.put_ne _ _ _ (by have := hx1; intro e; omega)]; exact hH1
          generalize cutH (H1.put nx1 (some ⟨0, 1, []⟩)) (nx1 + 1) = H2 at hHo hH0'
          refine AWP.seq (AWP.seq (AWP.rgX ?_))
          refine rx_no (e_lda (o := 0) (g := 0) (i := 0) (f := 0) (n := 64) (cs := bx h) (by show un true (T1 3) = _; rw [hT1]; rfl) hH0' (by simp [bx, hh]) (List.take_of_length_le (by simp [bx, hh]))) ?_
          refine rx_no (e_movI (k := .i64) (a := 0) rfl) (rx_nil ?_)
          refine tq_nrm (AWP.block (AWP.loopL ?_))
          refine AWPL.live [(6, .own nx1 0 0 0), (25, .agg (bx h)), (26, I 0)] ?_ ?_
          · exact ⟨rfl, rfl, rfl, trivial⟩
          refine uses_loop2 nx1 h hh _ ?_ h 0 0 [] H2 (nx1 + 1) rfl (by omega) (Nat.le_refl _) hHo (by omega) rfl
          intro T3 H3 nx3 g3 hH3 hx3 hT3
          refine iq_ex (tq_nrm ?_)
          have sh3 : Shape ⟨T3, H3, nx3⟩ (fun _ => none) id nx3 := ⟨fun j ck' hj => by cases hj⟩
          have w3 : Wk cx ⟨T3, H3, nx3⟩ ⟨upd (fun _ => .any) 6 (.lst false (encR (outU h 0))), fun _ => none, nx3⟩ := by
            refine Wk.cells (s := ⟨T3, H3, nx3⟩) (by show cx.nb ≤ nx3; omega) sh3 (fun j ck' ck h1 h2 => by cases h1) (fun q => ?_)
            simp only [upd]
            by_cases e : q = 6
            · subst e; rw [if_pos rfl]
              have key := own_lst (s := ⟨T3, H3, nx3⟩) (H' := fun _ => none) (o := nx1) (ck := ⟨g3, 1, encR (outU h 0)⟩) hH3 Nat.zero_lt_one (flat_enc _) sh3 rfl g3 0 (outU h 0).length rfl (by simp [encR])
              have e2 : ((encR (outU h 0)).drop 0).take (outU h 0).length = encR (outU h 0) := by rw [List.drop_zero]; exact List.take_of_length_le (by simp [encR])
              simp only [e2] at key
              show Tr _ _ _ _ (T3 6) _
              rw [hT3]; exact key
            · rw [if_neg e]; exact fun ps M w x _ _ => .any x
          refine AWP.wk (w3.trans (Wk.cut (nx0 := 0) (T' := upd (fun _ => .any) 6 (.lst false (encR (outU h 0)))) (H1 := fun _ => none) hn (Nat.zero_le _) (fun j ck h => by cases h) (fun q => ?_))) (hk _ ⟨fun q => ?_, ?_, ?_⟩ hn)
          · simp only [upd]
            by_cases e : q = 6
            · rw [if_pos e]
              exact .inr ⟨trivial, .lst _ _ fun x hx c hc => (flat_enc _ x hx c hc).mono' fun _ h => h.elim⟩
            · rw [if_neg e]; exact .inl rfl
          · simp only [uses_u, getT, upd]
            by_cases e : q = 6
            · subst e; rw [if_pos rfl]
              exact .lst _ _ _ _ _ (fun e => e) (both_enc _)
            · rw [if_neg e]
              cases hb : Nat.beq 6 q with
              | true => exact absurd (Nat.eq_of_beq_eq_true hb).symm e
              | false => exact .any _
          · simp only [uses_u, hH]; exact fun o c h => by cases h
          · simp only [uses_u, hH]; rfl
      · rw [decide_eq_false q1, cond_false] at hg; cases hg
    · cases hg
  · cases hg
end Go.Pv
