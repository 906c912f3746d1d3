/- plan.part and plan.Parts: the arrays of arrays that they grow, walked by hand (HandOK). No condition of its own: over any program. -/
import Derived.Test.YtdmggkpefjpknaaPxQ
set_option linter.all false
namespace Go.Pv
open Go.RowKit

section rx
variable {P : Program} {r : List RI} {lg : Lg} {T : Nat → DV} {H : Hp} {nx : Nat} {K : Lg → St → Prop}
theorem rx_nil (k : K lg ⟨T, H, nx⟩) : runX P [] lg ⟨T, H, nx⟩ K := k
theorem rx_no {t : Nat} {op : ROp} {d : DV} (h : ev op true T H nx = some (d, .no)) (k : runX P r (lg ++ [(rds op true T, [])]) ⟨upd T t d, H, nx⟩ K) : runX P (⟨some t, op, none⟩ :: r) lg ⟨T, H, nx⟩ K :=
  ⟨⟨d, [], nx, rds op true T⟩, .inl ⟨.no, h, rfl, rfl, rfl⟩, k⟩
theorem rx_al {t : Nat} {op : ROp} {d : DV} {ck : Ck} (h : ev op true T H nx = some (d, .al ck)) (k : runX P r (lg ++ [(rds op true T, [nx])]) ⟨upd T t d, H.put nx (some ck), nx + 1⟩ K) : runX P (⟨some t, op, none⟩ :: r) lg ⟨T, H, nx⟩ K :=
  ⟨⟨d, [(nx, ck)], nx + 1, rds op true T⟩, .inl ⟨.al ck, h, rfl, rfl, rfl⟩, k⟩
theorem rx_wr {t : Nat} {op : ROp} {d : DV} {o : Nat} {ck : Ck} (h : ev op true T H nx = some (d, .wr o ck)) (k : runX P r (lg ++ [(rds op true T, [o])]) ⟨upd T t d, H.put o (some ck), nx⟩ K) : runX P (⟨some t, op, none⟩ :: r) lg ⟨T, H, nx⟩ K :=
  ⟨⟨d, [(o, ck)], nx, rds op true T⟩, .inl ⟨.wr o ck, h, rfl, rfl, rfl⟩, k⟩
theorem rx_st {op : ROp} {d : DV} {o : Nat} {ck : Ck} (h : ev op true T H nx = some (d, .wr o ck)) (k : runX P r (lg ++ [(rds op true T, [o])]) ⟨T, H.put o (some ck), nx⟩ K) : runX P (⟨none, op, none⟩ :: r) lg ⟨T, H, nx⟩ K :=
  ⟨⟨d, [(o, ck)], nx, rds op true T⟩, .inl ⟨.wr o ck, h, rfl, rfl, rfl⟩, k⟩
theorem rx_noR {t : Nat} {op : ROp} {d : DV} {rd : List Nat} (h : ev op true T H nx = some (d, .no)) (hr : rds op true T = rd) (k : runX P r (lg ++ [(rd, [])]) ⟨upd T t d, H, nx⟩ K) : runX P (⟨some t, op, none⟩ :: r) lg ⟨T, H, nx⟩ K := rx_no h (by rw [hr]; exact k)
theorem rx_wrR {t : Nat} {op : ROp} {d : DV} {o : Nat} {ck : Ck} {rd : List Nat} (h : ev op true T H nx = some (d, .wr o ck)) (hr : rds op true T = rd) (k : runX P r (lg ++ [(rd, [o])]) ⟨upd T t d, H.put o (some ck), nx⟩ K) : runX P (⟨some t, op, none⟩ :: r) lg ⟨T, H, nx⟩ K := rx_wr h (by rw [hr]; exact k)
theorem e_appO {sz by' : Nat} {x y : RO} {o g lo n : Nat} {xs news : List (List DV)} (hx : un true (x.get T) = .own o g lo n) (hy : un true (y.get T) = .lst true news) (hH : H o = some ⟨g, sz, xs⟩) (ha : news.all (fun c => c.length == sz) = true) (h1 : (n + news.length) * by' ≤ 140737488355328 ∧ n + news.length ≤ 9223372036854775807) :
    ev (.app sz by' x y) true T H nx = some (.own o (g + 1) 0 (n + news.length), .wr o ⟨g + 1, sz, (xs.drop lo).take n ++ news⟩) := by
  rw [ev_app, hx, hy]
  simp only [appV, elemsV, hH]
  rw [if_pos ha, if_pos ⟨trivial, trivial, h1.1, h1.2⟩]
theorem e_mksl {sz by' : Nat} {z : List DV} {x y : RO} {l c : Int} (hx : un true (x.get T) = I l) (hy : un true (y.get T) = I c) (h : 0 ≤ l ∧ l ≤ c ∧ by' * c ≤ 140737488355328 ∧ c ≤ 140737488355328) :
    ev (.mksl sz by' z x y) true T H nx = some (.own nx 0 0 l.toNat, .al ⟨0, sz, List.replicate l.toNat z⟩) := by
  simp only [ev, hx, hy]; rw [if_pos h]
theorem e_ixN {o g k p : Nat} {sz : Nat} {xs : List (List DV)} {x y : RO} (h : un true (x.get T) = .own o g 0 k) (hi : un true (y.get T) = I p) (hH : H o = some ⟨g, sz, xs⟩) (hl : p < k) : ev (.iadrS sz x y) true T H nx = some (.ptr o g p 0, .no) := by
  have := e_ixO (nx := nx) h hi hH (by omega) (by omega)
  rwa [Int.toNat_natCast, Nat.zero_add] at this
theorem e_inc {x y : RO} {i : Nat} (hx : un true (x.get T) = I i) (hy : un true (y.get T) = I 1) (h : i < 9223372036854775807) : ev (.bin .add x y) true T H nx = some (I ((i + 1 : Nat) : Int), .no) := by
  rw [e_add hx hy, wrap_eq (by omega) (by omega)]; rfl
end rx

/-- One more number in a row. -/
def addM (i x : Int) (l : List (List Int)) : Option (List (List Int)) := bif inB i l.length then bif fitsB ((l.getD i.toNat []).length + 1) 8 then some (addR l i.toNat x) else none else none
def outsR : List Int → Nat → List (List Int) → Option (List (List Int))
  | [], _, l => some l
  | k :: ks, i, l => Option.bind (addM k i l) (outsR ks (i + 1))
def outsM (n : Int) (of : List Int) : Option (List (List Int)) := bif mkB 24 n n && decide (of.length < 9223372036854775807) then outsR of 0 (List.replicate n.toNat []) else none
theorem addM_some {i x : Int} {l l' : List (List Int)} (h : addM i x l = some l') : (0 ≤ i ∧ i < l.length) ∧ (((l.getD i.toNat []).length + 1) * 8 ≤ 140737488355328 ∧ (l.getD i.toNat []).length + 1 ≤ 9223372036854775807) ∧ l' = addR l i.toNat x := by
  unfold addM at h
  cases h1 : inB i l.length with
  | false => rw [h1] at h; cases h
  | true =>
    rw [h1, cond_true] at h
    cases h2 : fitsB ((l.getD i.toNat []).length + 1) 8 with
    | false => rw [h2] at h; cases h
    | true =>
      rw [h2, cond_true] at h
      injection h with h
      exact ⟨of_decide_eq_true h1, of_decide_eq_true h2, h.symm⟩

def parts_A : AC := (.rg [⟨(some 16), (.mov (.t 4)), none⟩, ⟨(some 17), (.mksl 1 24 [(.lst true [])] (.t 16) (.t 16)), none⟩, ⟨(some 5), (.mov (.t 17)), none⟩] none)
def parts_L1 : AC := (.seq (.rg [⟨(some 21), (.bin .lss (.t 20) (.t 19)), none⟩] none) (.seq (.cond (.t 21) .skip (.exit 0)) (.seq (.block 1 (.seq (.rg [⟨(some 22), (.mov (.t 20)), none⟩, ⟨(some 23), (.iadrS 1 (.t 18) (.t 20)), none⟩, ⟨(some 24), (.load false 1 (.t 23)), none⟩, ⟨(some 6), (.mov (.t
  22)), none⟩, ⟨(some 7), (.mov (.t 24)), none⟩] none) (.rg [⟨(some 25), (.mov (.t 5)), none⟩, ⟨(some 26), (.mov (.t 7)), none⟩, ⟨(some 27), (.mov (.t 5)), none⟩, ⟨(some 28), (.mov (.t 7)), none⟩, ⟨(some 29), (.iadrS 1 (.t 27) (.t 28)), none⟩, ⟨(some 30), (.load false 1 (.t 29)), none⟩, ⟨(some 31),
  (.mov (.t 6)), none⟩, ⟨(some 32), (.bslice false 1 [(I 0)] 1 [(0, (.t 31))]), none⟩, ⟨(some 33), (.app 1 8 (.t 30) (.t 32)), none⟩, ⟨(some 34), (.iadrS 1 (.t 25) (.t 26)), none⟩, ⟨none, (.store 1 (.t 34) (.t 33)), none⟩] none))) (.rg [⟨(some 35), (.bin .add (.t 20) (.c (I 1))), none⟩, ⟨(some 20),
  (.mov (.t 35)), none⟩] none))))
def parts_B : AC := (.seq (.rg [⟨(some 18), (.mov (.t 3)), none⟩, ⟨(some 19), (.len (.t 18)), none⟩, ⟨(some 20), (.mov (.c (I 0))), none⟩] none) (.block 0 (.loop parts_L1)))

theorem parts_loop {P : Program} {cx : Cx} {ow : Nat → Bool} (o g base : Nat) (H0 : Hp) (f : Bool) (of : List Int) (out : List (List Int)) (Q : Exit → St → Prop) (hob : o < base) (hlen : of.length < 9223372036854775807)
    (hQ : ∀ T H nx gs, Nest H o g base gs out → (∀ j, j < o → H j = H0 j) → base + out.length ≤ nx → T 5 = .own o g 0 out.length → Q (.exit 0) ⟨T, H, nx⟩) : ∀ (ks : List Int) (i : Nat) (gs : Nat → Nat) (rows : List (List Int)) (H : Hp) (nx : Nat), of.drop i = ks → i + ks.length = of.length →
    Nest H o g base gs rows → (∀ j, j < o → H j = H0 j) → base + rows.length ≤ nx → outsR ks i rows = some out →
    AWPL P cx ow parts_L1 Q ⟨mkT [(5, .own o g 0 rows.length), (18, .lst f (encR of)), (19, I of.length), (20, I i)], H, nx⟩ := by
  intro ks
  induction ks with
  | nil =>
    intro i gs rows H nx hd hi hN hH hx ho
    simp only [outsR, Option.some.injEq] at ho; subst ho
    refine AWPL.unr (by delta parts_L1; rfl) ?_
    refine AWP.seq (AWP.rgX (rx_no (e_lss (a := i) (b := of.length) rfl rfl) (rx_nil ?_)))
    refine tq_nrm (AWP.seq ?_)
    refine AWP.condF rfl (decide_eq_false (by simp at hi; omega)) (AWP.exit ?_)
    refine tq_ex (tq_ex ?_)
    exact hQ _ _ _ gs hN hH hx rfl
  | cons k ks ih =>
    intro i gs rows H nx hd hi hN hH hx ho
    have hi' : i < of.length := by simp at hi; omega
    have hk : of[i] = k := by
      have := List.getElem_drop (xs := of) (i := i) (j := 0) (h := by rw [hd]; simp)
      simp only [hd, List.getElem_cons_zero, Nat.add_zero] at this
      exact this.symm
    simp only [outsR] at ho
    obtain ⟨rows', ha, ho⟩ := Option.bind_eq_some_iff.1 ho
    obtain ⟨⟨k0, k1⟩, hfit, rfl⟩ := addM_some ha
    obtain ⟨p, rfl⟩ : ∃ p : Nat, k = p := ⟨k.toNat, by omega⟩
    have hp : p < rows.length := by omega
    rw [Int.toNat_natCast] at hfit ho
    refine AWPL.unr (by delta parts_L1; rfl) ?_
    refine AWP.seq (AWP.rgX (rx_no (e_lss (a := i) (b := of.length) rfl rfl) (rx_nil ?_)))
    refine tq_nrm (AWP.seq ?_)
    refine AWP.condT rfl (decide_eq_true (by omega)) (AWP.skip ?_)
    refine tq_nrm (AWP.seq (AWP.block (AWP.seq (AWP.rgX ?_))))
    refine rx_no (e_movI (k := .i64) (a := i) rfl) ?_
    refine rx_no (e_ixL (f := f) (xs := encR of) (n := i) (cs := [I p]) rfl rfl (by omega) (by simp [encR]; omega) (by simp [encR, hi', hk]) rfl) ?_
    refine rx_no (e_ldr (c := I p) (cs := []) rfl) ?_
    refine rx_no (e_movI (k := .i64) (a := i) rfl) ?_
    refine rx_no (e_movI (k := .i64) (a := p) rfl) (rx_nil ?_)
    refine tq_nrm (AWP.rgX ?_)
    refine rx_no (e_movO (o := o) (g := g) (i := 0) (f := rows.length) rfl) ?_
    refine rx_no (e_movI (k := .i64) (a := p) rfl) ?_
    refine rx_no (e_movO (o := o) (g := g) (i := 0) (f := rows.length) rfl) ?_
    refine rx_no (e_movI (k := .i64) (a := p) rfl) ?_
    refine rx_no (e_ixN (o := o) (g := g) (k := rows.length) (p := p) rfl rfl hN.top hp) ?_
    refine rx_no (e_ldp (c := .own (base + p) (gs p) 0 (rows.getD p []).length) rfl hN.top (by rw [nestX_getD hp]; rfl)) ?_
    refine rx_no (e_movI (k := .i64) (a := i) rfl) ?_
    refine rx_no (e_bsl (xs := [[I i]]) rfl) ?_
    refine rx_wr (e_appO (o := base + p) (g := gs p) (lo := 0) (n := (rows.getD p []).length) (news := [[I i]]) rfl rfl (hN.row p hp) rfl hfit) ?_
    refine rx_no (e_ixN (o := o) (g := g) (k := rows.length) (p := p) rfl rfl (by rw [Hp.put_ne _ _ _ (by omega)]; exact hN.top) hp) ?_
    refine rx_st (e_st (o := o) (g := g) (i := p) (f := 0) rfl rfl (by rw [Hp.put_ne _ _ _ (by omega)]; exact hN.top) rfl (by rw [nestX_getD hp]; rfl) rfl) (rx_nil ?_)
    refine iq_nrm (tq_nrm (AWP.rgX ?_))
    refine rx_no (e_inc (i := i) rfl rfl (by omega)) ?_
    refine rx_no (e_movI (k := .i64) (a := ((i + 1 : Nat) : Int)) rfl) (rx_nil ?_)
    refine tq_nrm ?_
    have hN' := hN.add hp i hob
    rw [List.take_of_length_le (by simp [encR])]
    refine AWPL.live [(5, .own o g 0 (addR rows p i).length), (18, .lst f (encR of)), (19, I of.length), (20, I ((i + 1 : Nat) : Int))] ?_ ?_
    · simp only [Has, upd_get, mkT, addR_len]
      exact ⟨rfl, rfl, rfl, rfl, trivial⟩
    · refine ih (i + 1) (fun q => if q = p then gs p + 1 else gs q) (addR rows p i) _ _ ?_ ?_ ?_ ?_ (by rw [addR_len]; exact hx) ho
      · rw [← List.drop_drop, hd]; rfl
      · simp at hi; omega
      · rw [show putCells ((nestX base gs rows).getD p []) 0 [DV.own (base + p) (gs p + 1) 0 ((rows.getD p []).length + [[I (i : Int)]].length)] = [DV.own (base + p) (gs p + 1) 0 ((rows.getD p []).length + 1)] by rw [nestX_getD hp]; rfl]
        exact hN'
      · intro j hj
        rw [Hp.put_ne _ _ _ (by omega), Hp.put_ne _ _ _ (by omega)]; exact hH j hj

theorem both_enc : ∀ (as : List Int), Both (RelT (.int .i64)) as (encR as) := fun as => ⟨by simp [encR], fun j h1 h2 => by simp [encR, RelT, I]⟩
theorem enc_of : ∀ {as : List Int} {xs : List (List DV)}, Both (RelT (.int .i64)) as xs → xs = encR as
  | [], xs, h => h.nil_l
  | a :: as, xs, h => by
    obtain ⟨b, bs, rfl, h1, h2⟩ := h.cons_l
    rw [show b = _ from h1, enc_of h2]; rfl
theorem rel_rows {H : Hp} {nx : Nat} (rows : List (List Int)) : Rel H nx (.lst false (.list (.int .i64)) rows) (.lst false (rows.map fun r => [.lst false (encR r)])) :=
  .lst _ _ _ _ _ (fun e => e) ⟨by simp, fun j h1 h2 => by simp only [List.getElem_map]; exact ⟨false, _, rfl, both_enc _⟩⟩

/-- The one box, with two lists, that is kept. -/
theorem keep_box {si : SI} {s : St} (hs : SR si s) {gb : Nat} {f1 f2 : Bool} {t1 t2 : GT} {a1 : List (El t1)} {a2 : List (El t2)} (hH : si.H = [some (.box gb [.lst f1 t1 a1, .lst f2 t2 a2])]) :
    ∃ ck, s.H 0 = some ck ∧ s.nx = 1 ∧ (∃ x1 x2 : Bool × List (List DV), ck = ⟨gb, 2, [[.lst x1.1 x1.2, .lst x2.1 x2.2]]⟩ ∧ Both (RelT t1) a1 x1.2 ∧ Both (RelT t2) a2 x2.2) ∧ (∀ x ∈ ck.xs, ∀ c ∈ x, Ids (fun j => j < 1) c) ∧ ∀ H', H' 0 = some ck → HRel si.H H' 1 := by
  have hn : s.nx = 1 := by rw [← hs.n, hH]; rfl
  obtain ⟨_, ck, h1, h2, ds, h3, h4, h5⟩ := hs.h 0 (.box gb [.lst f1 t1 a1, .lst f2 t2 a2]) (by rw [hH]; rfl)
  obtain ⟨d1, ds', rfl, q1, q2⟩ := h4.cons_l
  obtain ⟨d2, rfl, q3⟩ := q2.one_l
  obtain ⟨g1, x1, rfl, k1, k2⟩ := q1.lst_inv
  obtain ⟨g2, x2, rfl, k3, k4⟩ := q3.lst_inv
  have fl : ∀ (t : GT) (a : List (El t)) (x : List (List DV)) (g : Bool), Both (RelT t) a x → Ids (fun j => j < 1) (.lst g x) := fun t a x g hb => .lst _ _ fun y hy c hc => by
    obtain ⟨j, hj, rfl⟩ := List.mem_iff_getElem.1 hy
    exact (RelT.ids t _ _ (hb.2 j (by rw [hb.1]; exact hj) hj) c hc).mono' fun _ h => h.elim
  have e : ck = ⟨gb, 2, [[.lst g1 x1, .lst g2 x2]]⟩ := by
    cases ck; simp only at h2 h3 h5; subst h2; subst h3; subst h5; rfl
  refine ⟨ck, h1, hn, ⟨(g1, x1), (g2, x2), e, k2, k4⟩, fun x hx c hc => ?_, fun H' hH' o c hc => ?_⟩
  · rw [h3, List.mem_singleton] at hx
    subst hx
    rcases List.mem_cons.1 hc with rfl | hc
    · exact fl _ _ _ _ k2
    · rw [List.mem_singleton.1 hc]; exact fl _ _ _ _ k4
  · rw [hH] at hc
    cases o with
    | zero =>
      simp only [getH, Option.some.injEq] at hc; subst hc
      exact ⟨Nat.zero_lt_one, ck, hH', h2, _, h3, (Both.one (.lst _ _ _ _ _ k3 k4)).cons (.lst _ _ _ _ _ k1 k2), h5⟩
    | succ o => simp [getH] at hc

def parts_g (si : SI) : Option (El (.list (.list (.int .i64)))) := match si.H, getT si.T 3, getT si.T 4 with
  | [some (.box _ [.lst _ _ _, .lst _ _ _])], .lst _ t of, .int .i64 n => (match castL t (.int .i64) of with
    | some of => outsM n of
    | none => none)
  | _, _, _ => none
def parts_u (y : El (.list (.list (.int .i64)))) (si : SI) : SI := ⟨[(5, .lst false (.list (.int .i64)) y)], si.H⟩

theorem parts_hand {P : Program} {nt : Nat} {ow : Nat → Bool} : HandOK P nt ow [parts_A, parts_B] (.list (.list (.int .i64))) parts_g parts_u := by
  intro cx hcx si y s c Q hs hn hg hk
  unfold parts_g at hg
  split at hg
  · rename_i gb f1 t1 a1 f2 t2 a2 f t of0 n hH h3 h4
    split at hg
    · rename_i of hc
      obtain ⟨rfl, rfl⟩ := castL_some hc
      obtain ⟨ck0, hc1, hnx, _, hfl, hrel⟩ := keep_box hs hH
      obtain ⟨f', xs, e3, _, hb⟩ := (h3 ▸ hs.t 3).lst_inv
      have hxs := enc_of hb
      subst hxs
      have e4 := (h4 ▸ hs.t 4).int_inv
      have hg : (bif mkB 24 n n && decide (of.length < 9223372036854775807) then outsR of 0 (List.replicate n.toNat []) else none) = some y := hg
      cases hq : mkB 24 n n && decide (of.length < 9223372036854775807) with
      | false => rw [hq] at hg; cases hg
      | true =>
        rw [hq, cond_true] at hg
        rw [Bool.and_eq_true] at hq
        have q1 : 0 ≤ n ∧ n ≤ n ∧ (24 : Int) * n ≤ 140737488355328 ∧ n ≤ 140737488355328 := of_decide_eq_true hq.1
        have q2 : of.length < 9223372036854775807 := of_decide_eq_true hq.2
        show AWP P cx ow (.seq parts_A (.seq parts_B c)) Q s
        obtain ⟨T, H, nx⟩ := s
        simp only at hnx e3 e4 hc1 hn
        subst hnx
        refine AWP.seq (AWP.rgX ?_)
        refine rx_no (e_movI (k := .i64) (a := n) (by show un true (T 4) = _; rw [e4]; rfl)) ?_
        refine rx_al (e_mksl (l := n) (c := n) rfl rfl q1) ?_
        refine rx_no (e_movO (o := 1) (g := 0) (i := 0) (f := n.toNat) rfl) (rx_nil ?_)
        refine tq_nrm ?_
        obtain ⟨H', w1, hN, hold⟩ := Nest.start (cx := cx) (T := upd (upd (upd T 16 (.v (.int .i64 n))) 17 (.own 1 0 0 n.toNat)) 5 (.own 1 0 0 n.toNat)) (H := H.put 1 (some ⟨0, 1, List.replicate n.toNat [.lst true []]⟩)) (nx := 1 + 1) (o := 1) (g := 0) (n := n.toNat) (by omega) (by omega) (Hp.put_same ..)
        refine AWP.wk w1 (AWP.seq (AWP.seq (AWP.rgX ?_)))
        refine rx_no (e_movL (f := f') (xs := encR of) (by show un true (T 3) = _; rw [e3]; rfl)) ?_
        refine rx_no (e_lenL (f := f') (xs := encR of) (n := of.length) rfl (by simp [encR])) ?_
        refine rx_no (e_movI (k := .i64) (a := 0) rfl) (rx_nil ?_)
        refine tq_nrm (AWP.block (AWP.loopL ?_))
        refine AWPL.live [(5, .own 1 0 0 n.toNat), (18, .lst f' (encR of)), (19, I of.length), (20, I 0)] ?_ ?_
        · simp only [Has, upd_get]
          exact ⟨rfl, rfl, rfl, rfl, trivial⟩
        · have hl : (List.replicate n.toNat ([] : List Int)).length = n.toNat := by simp
          have key := parts_loop (P := P) (cx := cx) (ow := ow) 1 0 2 H' f' of y (inQ 0 (thenQ (fun s' => AWP P cx ow c Q s') Q)) (by omega) q2 ?_ of 0 (fun _ => 0) (List.replicate n.toNat []) H' (1 + 1 + n.toNat) rfl (by omega) hN (fun j _ => rfl) (by rw [hl]; omega) hg
          · rw [hl] at key; exact key
          · intro T2 H2 nx2 gs2 hN2 hH2 hx2 hT2
            refine iq_ex (tq_nrm ?_)
            refine AWP.wk (Nest.freeze (t := 5) (n := 0) hN2 hn (Nat.le_refl _) (by omega) hx2 hT2 (H1 := fun j => if j = 0 then some ck0 else none) (fun j ck hj => ?_) (fun _ => .any) (fun q => .inl rfl)) (hk _ ⟨fun q => ?_, ?_, hs.n⟩ hn)
            · by_cases e : j = 0
              · subst e; rw [if_pos rfl] at hj; injection hj with hj; subst hj
                refine ⟨by omega, ?_, hfl⟩
                rw [hH2 0 (by omega), hold 0 (by omega) (by omega), Hp.put_ne _ _ _ (by omega)]; exact hc1
              · rw [if_neg e] at hj; cases hj
            · simp only [parts_u, getT, upd]
              by_cases e : q = 5
              · subst e; rw [if_pos rfl]; exact rel_rows y
              · rw [if_neg e]
                cases hb : Nat.beq 5 q with
                | true => exact absurd (Nat.eq_of_beq_eq_true hb).symm e
                | false => exact .any _
            · exact hrel _ rfl
    · cases hg
  · cases hg

/-! ### plan.part -/
abbrev G_Pl : GT := .pair (.int .i64) .bool
abbrev G_Rd : GT := .pair (.int .i64) (.pair (.int .i64) (.pair (.int .i64) (.pair (.int .i64) (.pair .bool (.pair .bool (.pair (.pair (.int .i64) (.int .i64)) (.pair (.int .i64) (.int .i64))))))))
def nearR : List (El G_Rd) → List (List Int) → Option (List (List Int))
  | [], l => some l
  | r :: rs, l => bif r.2.2.2.2.2.1 then nearR rs l else Option.bind (addM r.1 r.2.1 l) fun l => Option.bind (addM r.2.1 r.1 l) fun l => nearR rs l
def nearM (n : Nat) (rs : List (El G_Rd)) : Option (List (List Int)) := bif mkB 24 n n && decide (rs.length < 9223372036854775807) then nearR rs (List.replicate n []) else none
def rdC (r : El G_Rd) : List DV := [I r.1, I r.2.1, I r.2.2.1, I r.2.2.2.1, B r.2.2.2.2.1, B r.2.2.2.2.2.1, I r.2.2.2.2.2.2.1.1, I r.2.2.2.2.2.2.1.2, I r.2.2.2.2.2.2.2.1, I r.2.2.2.2.2.2.2.2]
theorem rd_of {r : El G_Rd} {ds : List DV} (h : RelT G_Rd r ds) : ds = rdC r := by
  obtain ⟨d1, e1, rfl, h1, d2, e2, rfl, h2, d3, e3, rfl, h3, d4, e4, rfl, h4, d5, e5, rfl, h5, d6, e6, rfl, h6, d7, e7, rfl, ⟨d8, e8, rfl, h8, h9⟩, d10, e10, rfl, h10, h11⟩ := h
  rw [show d1 = _ from h1, show d2 = _ from h2, show d3 = _ from h3, show d4 = _ from h4, show d5 = _ from h5, show d6 = _ from h6, show d8 = _ from h8, show e8 = _ from h9, show d10 = _ from h10, show e10 = _ from h11]
  rfl
theorem rds_of : ∀ {as : List (El G_Rd)} {xs : List (List DV)}, Both (RelT G_Rd) as xs → xs = as.map rdC
  | [], xs, h => h.nil_l
  | a :: as, xs, h => by
    obtain ⟨b, bs, rfl, h1, h2⟩ := h.cons_l
    rw [rd_of h1, rds_of h2]; rfl

def part_A : AC := (.rg [⟨(some 15), (.fadr 0 (.t 1)), none⟩, ⟨(some 16), (.load false 1 (.t 15)), none⟩, ⟨(some 17), (.len (.t 16)), none⟩, ⟨(some 18), (.mksl 1 24 [(.lst true [])] (.t 17) (.t 17)), none⟩, ⟨(some 4), (.mov (.t 18)), none⟩] none)
def part_L1 : AC := (.seq (.rg [⟨(some 23), (.bin .lss (.t 22) (.t 21)), none⟩] none) (.seq (.cond (.t 23) .skip (.exit 0)) (.seq (.block 1 (.seq (.rg [⟨(some 24), (.iadrS 10 (.t 20) (.t 22)), none⟩, ⟨(some 25), (.load true 10 (.t 24)), none⟩, ⟨(some 6), (.alloc [(I 0), (I 0), (I 0), (I 0), (B
  false), (B false), (I 0), (I 0), (I 0), (I 0)]), none⟩, ⟨none, (.store 10 (.t 6) (.t 25)), none⟩] none) (.seq (.rg [⟨(some 26), (.fadr 5 (.t 6)), none⟩, ⟨(some 27), (.load false 1 (.t 26)), none⟩, ⟨(some 28), (.un .not (.t 27)), none⟩] none) (.cond (.t 28) (.seq (.rg [⟨(some 29), (.mov (.t 4)),
  none⟩, ⟨(some 30), (.fadr 0 (.t 6)), none⟩, ⟨(some 31), (.load false 1 (.t 30)), none⟩, ⟨(some 32), (.mov (.t 4)), none⟩, ⟨(some 33), (.fadr 0 (.t 6)), none⟩, ⟨(some 34), (.load false 1 (.t 33)), none⟩, ⟨(some 35), (.iadrS 1 (.t 32) (.t 34)), none⟩, ⟨(some 36), (.load false 1 (.t 35)), none⟩,
  ⟨(some 37), (.fadr 1 (.t 6)), none⟩, ⟨(some 38), (.load false 1 (.t 37)), none⟩, ⟨(some 39), (.bslice false 1 [(I 0)] 1 [(0, (.t 38))]), none⟩, ⟨(some 40), (.app 1 8 (.t 36) (.t 39)), none⟩, ⟨(some 41), (.iadrS 1 (.t 29) (.t 31)), none⟩, ⟨none, (.store 1 (.t 41) (.t 40)), none⟩] (some [(1, 11), (2,
  11)])) (.rg [⟨(some 42), (.mov (.t 4)), none⟩, ⟨(some 43), (.fadr 1 (.t 6)), none⟩, ⟨(some 44), (.load false 1 (.t 43)), none⟩, ⟨(some 45), (.mov (.t 4)), none⟩, ⟨(some 46), (.fadr 1 (.t 6)), none⟩, ⟨(some 47), (.load false 1 (.t 46)), none⟩, ⟨(some 48), (.iadrS 1 (.t 45) (.t 47)), none⟩, ⟨(some
  49), (.load false 1 (.t 48)), none⟩, ⟨(some 50), (.fadr 0 (.t 6)), none⟩, ⟨(some 51), (.load false 1 (.t 50)), none⟩, ⟨(some 52), (.bslice false 1 [(I 0)] 1 [(0, (.t 51))]), none⟩, ⟨(some 53), (.app 1 8 (.t 49) (.t 52)), none⟩, ⟨(some 54), (.iadrS 1 (.t 42) (.t 44)), none⟩, ⟨none, (.store 1 (.t 54)
  (.t 53)), none⟩] (some [(1, 11), (2, 11)]))) .skip)))) (.rg [⟨(some 55), (.bin .add (.t 22) (.c (I 1))), none⟩, ⟨(some 22), (.mov (.t 55)), none⟩] none))))
def part_B : AC := (.seq (.rg [⟨(some 19), (.fadr 1 (.t 1)), none⟩, ⟨(some 20), (.load false 1 (.t 19)), none⟩, ⟨(some 21), (.len (.t 20)), none⟩, ⟨(some 22), (.mov (.c (I 0))), none⟩] none) (.block 0 (.loop part_L1)))


/-- One of the two appends of a road. -/
theorem part_add1 {P : Program} {K : St → Prop} {T : Nat → DV} {H : Hp} {nx o g base rb p : Nat} {x : Int} {gs : Nat → Nat} {rows : List (List Int)} {cs : List DV} (hN : Nest H o g base gs rows) (hob : o < base) (hp : p < rows.length) (hrb : base + rows.length ≤ rb) (hr : H rb = some ⟨0, 10, [cs]⟩)
    (h4 : T 4 = .own o g 0 rows.length) (h6 : T 6 = .ptr rb 0 0 0) (hc1 : cs[0]? = some (I p)) (hc2 : cs[1]? = some (I x)) (hfit : ((rows.getD p []).length + 1) * 8 ≤ 140737488355328 ∧ (rows.getD p []).length + 1 ≤ 9223372036854775807)
    (k : ∀ T' H', (∀ t, t < 29 → T' t = T t) → Nest H' o g base (fun q => if q = p then gs p + 1 else gs q) (addR rows p x) → (∀ j, j < o → H' j = H j) → H' rb = H rb → K ⟨T', H', nx⟩) :
    awpRX P [⟨(some 29), (.mov (.t 4)), none⟩, ⟨(some 30), (.fadr 0 (.t 6)), none⟩, ⟨(some 31), (.load false 1 (.t 30)), none⟩, ⟨(some 32), (.mov (.t 4)), none⟩, ⟨(some 33), (.fadr 0 (.t 6)), none⟩, ⟨(some 34), (.load false 1 (.t 33)), none⟩, ⟨(some 35), (.iadrS 1 (.t 32) (.t 34)), none⟩, ⟨(some 36), (.load false 1 (.t 35)), none⟩, ⟨(some 37), (.fadr 1 (.t 6)), none⟩, ⟨(some 38), (.load false 1 (.t 37)), none⟩, ⟨(some 39), (.bslice false 1 [(I 0)] 1 [(0, (.t 38))]), none⟩, ⟨(some 40), (.app 1 8 (.t 36) (.t 39)), none⟩, ⟨(some 41), (.iadrS 1 (.t 29) (.t 31)), none⟩, ⟨none, (.store 1 (.t 41) (.t 40)), none⟩] (some [(1, 11), (2, 11)]) ⟨T, H, nx⟩ K := by
  have h6' : un true (T 6) = .ptr rb 0 0 0 := by rw [h6]; rfl
  have h4' : un true (T 4) = .own o g 0 rows.length := by rw [h4]; rfl
  show runX P _ _ _ _
  refine rx_no (e_movO (o := o) (g := g) (i := 0) (f := rows.length) h4') ?_
  refine rx_noR (rd := [rb]) (e_fap (o := rb) (g := 0) (i := 0) (f := 0) h6' hr) (by show DV.ids (un true (T 6)) = _; rw [h6']; rfl) ?_
  refine rx_noR (rd := [rb]) (e_ldp (c := I p) rfl hr hc1) rfl ?_
  refine rx_no (e_movO (o := o) (g := g) (i := 0) (f := rows.length) h4') ?_
  refine rx_no (e_fap (o := rb) (g := 0) (i := 0) (f := 0) h6' hr) ?_
  refine rx_no (e_ldp (c := I p) rfl hr hc1) ?_
  refine rx_no (e_ixN (o := o) (g := g) (k := rows.length) (p := p) rfl rfl hN.top hp) ?_
  refine rx_no (e_ldp (c := .own (base + p) (gs p) 0 (rows.getD p []).length) rfl hN.top (by rw [nestX_getD hp]; rfl)) ?_
  refine rx_no (e_fap (o := rb) (g := 0) (i := 0) (f := 0) h6' hr) ?_
  refine rx_no (e_ldp (c := I x) rfl hr hc2) ?_
  refine rx_no (e_bsl (xs := [[I x]]) rfl) ?_
  refine rx_wrR (rd := [base + p]) (e_appO (o := base + p) (g := gs p) (lo := 0) (n := (rows.getD p []).length) (news := [[I x]]) rfl rfl (hN.row p hp) rfl hfit) rfl ?_
  refine rx_no (e_ixN (o := o) (g := g) (k := rows.length) (p := p) rfl rfl (by rw [Hp.put_ne _ _ _ (by omega)]; exact hN.top) hp) ?_
  refine rx_st (e_st (o := o) (g := g) (i := p) (f := 0) rfl rfl (by rw [Hp.put_ne _ _ _ (by omega)]; exact hN.top) rfl (by rw [nestX_getD hp]; rfl) rfl) (rx_nil ?_)
  have hN' := hN.add hp x hob
  rw [List.take_of_length_le (by simp [encR])]
  refine ⟨?_, rfl, k _ _ ?_ ?_ ?_ ?_⟩
  · have d : disL ([rb], []) ([base + p], [base + p]) := ⟨fun j hj => (by cases hj), fun j hj hq => by
      have e1 : j = base + p := List.mem_singleton.1 hj
      have e2 : j = rb := List.mem_singleton.1 hq
      omega⟩
    intro q hq
    rcases List.mem_cons.1 hq with rfl | hq
    · exact d
    · rw [List.mem_singleton.1 hq]; exact d
  · intro t ht
    simp only [upd]
    repeat rw [if_neg (by omega)]
  · rw [show putCells ((nestX base gs rows).getD p []) 0 [DV.own (base + p) (gs p + 1) 0 ((rows.getD p []).length + [[I x]].length)] = [DV.own (base + p) (gs p + 1) 0 ((rows.getD p []).length + 1)] by rw [nestX_getD hp]; rfl]
    exact hN'
  · intro j hj
    rw [Hp.put_ne _ _ _ (by omega), Hp.put_ne _ _ _ (by omega)]
  · rw [Hp.put_ne _ _ _ (by omega), Hp.put_ne _ _ _ (by omega)]

/-- One of the two appends of a road. -/
theorem part_add2 {P : Program} {K : St → Prop} {T : Nat → DV} {H : Hp} {nx o g base rb p : Nat} {x : Int} {gs : Nat → Nat} {rows : List (List Int)} {cs : List DV} (hN : Nest H o g base gs rows) (hob : o < base) (hp : p < rows.length) (hrb : base + rows.length ≤ rb) (hr : H rb = some ⟨0, 10, [cs]⟩)
    (h4 : T 4 = .own o g 0 rows.length) (h6 : T 6 = .ptr rb 0 0 0) (hc1 : cs[1]? = some (I p)) (hc2 : cs[0]? = some (I x)) (hfit : ((rows.getD p []).length + 1) * 8 ≤ 140737488355328 ∧ (rows.getD p []).length + 1 ≤ 9223372036854775807)
    (k : ∀ T' H', (∀ t, t < 42 → T' t = T t) → Nest H' o g base (fun q => if q = p then gs p + 1 else gs q) (addR rows p x) → (∀ j, j < o → H' j = H j) → H' rb = H rb → K ⟨T', H', nx⟩) :
    awpRX P [⟨(some 42), (.mov (.t 4)), none⟩, ⟨(some 43), (.fadr 1 (.t 6)), none⟩, ⟨(some 44), (.load false 1 (.t 43)), none⟩, ⟨(some 45), (.mov (.t 4)), none⟩, ⟨(some 46), (.fadr 1 (.t 6)), none⟩, ⟨(some 47), (.load false 1 (.t 46)), none⟩, ⟨(some 48), (.iadrS 1 (.t 45) (.t 47)), none⟩, ⟨(some 49), (.load false 1 (.t 48)), none⟩, ⟨(some 50), (.fadr 0 (.t 6)), none⟩, ⟨(some 51), (.load false 1 (.t 50)), none⟩, ⟨(some 52), (.bslice false 1 [(I 0)] 1 [(0, (.t 51))]), none⟩, ⟨(some 53), (.app 1 8 (.t 49) (.t 52)), none⟩, ⟨(some 54), (.iadrS 1 (.t 42) (.t 44)), none⟩, ⟨none, (.store 1 (.t 54) (.t 53)), none⟩] (some [(1, 11), (2, 11)]) ⟨T, H, nx⟩ K := by
  have h6' : un true (T 6) = .ptr rb 0 0 0 := by rw [h6]; rfl
  have h4' : un true (T 4) = .own o g 0 rows.length := by rw [h4]; rfl
  show runX P _ _ _ _
  refine rx_no (e_movO (o := o) (g := g) (i := 0) (f := rows.length) h4') ?_
  refine rx_noR (rd := [rb]) (e_fap (o := rb) (g := 0) (i := 0) (f := 0) h6' hr) (by show DV.ids (un true (T 6)) = _; rw [h6']; rfl) ?_
  refine rx_noR (rd := [rb]) (e_ldp (c := I p) rfl hr hc1) rfl ?_
  refine rx_no (e_movO (o := o) (g := g) (i := 0) (f := rows.length) h4') ?_
  refine rx_no (e_fap (o := rb) (g := 0) (i := 0) (f := 0) h6' hr) ?_
  refine rx_no (e_ldp (c := I p) rfl hr hc1) ?_
  refine rx_no (e_ixN (o := o) (g := g) (k := rows.length) (p := p) rfl rfl hN.top hp) ?_
  refine rx_no (e_ldp (c := .own (base + p) (gs p) 0 (rows.getD p []).length) rfl hN.top (by rw [nestX_getD hp]; rfl)) ?_
  refine rx_no (e_fap (o := rb) (g := 0) (i := 0) (f := 0) h6' hr) ?_
  refine rx_no (e_ldp (c := I x) rfl hr hc2) ?_
  refine rx_no (e_bsl (xs := [[I x]]) rfl) ?_
  refine rx_wrR (rd := [base + p]) (e_appO (o := base + p) (g := gs p) (lo := 0) (n := (rows.getD p []).length) (news := [[I x]]) rfl rfl (hN.row p hp) rfl hfit) rfl ?_
  refine rx_no (e_ixN (o := o) (g := g) (k := rows.length) (p := p) rfl rfl (by rw [Hp.put_ne _ _ _ (by omega)]; exact hN.top) hp) ?_
  refine rx_st (e_st (o := o) (g := g) (i := p) (f := 0) rfl rfl (by rw [Hp.put_ne _ _ _ (by omega)]; exact hN.top) rfl (by rw [nestX_getD hp]; rfl) rfl) (rx_nil ?_)
  have hN' := hN.add hp x hob
  rw [List.take_of_length_le (by simp [encR])]
  refine ⟨?_, rfl, k _ _ ?_ ?_ ?_ ?_⟩
  · have d : disL ([rb], []) ([base + p], [base + p]) := ⟨fun j hj => (by cases hj), fun j hj hq => by
      have e1 : j = base + p := List.mem_singleton.1 hj
      have e2 : j = rb := List.mem_singleton.1 hq
      omega⟩
    intro q hq
    rcases List.mem_cons.1 hq with rfl | hq
    · exact d
    · rw [List.mem_singleton.1 hq]; exact d
  · intro t ht
    simp only [upd]
    repeat rw [if_neg (by omega)]
  · rw [show putCells ((nestX base gs rows).getD p []) 0 [DV.own (base + p) (gs p + 1) 0 ((rows.getD p []).length + [[I x]].length)] = [DV.own (base + p) (gs p + 1) 0 ((rows.getD p []).length + 1)] by rw [nestX_getD hp]; rfl]
    exact hN'
  · intro j hj
    rw [Hp.put_ne _ _ _ (by omega), Hp.put_ne _ _ _ (by omega)]
  · rw [Hp.put_ne _ _ _ (by omega), Hp.put_ne _ _ _ (by omega)]
theorem part_loop {P : Program} {cx : Cx} {ow : Nat → Bool} (o g base : Nat) (H0 : Hp) (d1 : DV) (f : Bool) (rs : List (El G_Rd)) (out : List (List Int)) (Q : Exit → St → Prop) (hob : o < base) (hlen : rs.length < 9223372036854775807)
    (hQ : ∀ T H nx gs, Nest H o g base gs out → (∀ j, j < o → H j = H0 j) → base + out.length ≤ nx → T 4 = .own o g 0 out.length → T 1 = d1 → Q (.exit 0) ⟨T, H, nx⟩) : ∀ (ks : List (El G_Rd)) (i : Nat) (gs : Nat → Nat) (rows : List (List Int)) (H : Hp) (nx : Nat), rs.drop i = ks → i + ks.length = rs.length →
    Nest H o g base gs rows → (∀ j, j < o → H j = H0 j) → base + rows.length ≤ nx → nearR ks rows = some out →
    AWPL P cx ow part_L1 Q ⟨mkT [(1, d1), (4, .own o g 0 rows.length), (20, .lst f (rs.map rdC)), (21, I rs.length), (22, I i)], H, nx⟩ := by
  intro ks
  induction ks with
  | nil =>
    intro i gs rows H nx hd hi hN hH hx ho
    simp only [nearR, Option.some.injEq] at ho; subst ho
    refine AWPL.unr (by delta part_L1; rfl) ?_
    refine AWP.seq (AWP.rgX (rx_no (e_lss (a := i) (b := rs.length) rfl rfl) (rx_nil ?_)))
    refine tq_nrm (AWP.seq ?_)
    refine AWP.condF rfl (decide_eq_false (by simp at hi; omega)) (AWP.exit ?_)
    refine tq_ex (tq_ex ?_)
    exact hQ _ _ _ gs hN hH hx rfl rfl
  | cons k ks ih =>
    intro i gs rows H nx hd hi hN hH hx ho
    have hi' : i < rs.length := by simp at hi; omega
    have hk : rs[i] = k := by
      have := List.getElem_drop (xs := rs) (i := i) (j := 0) (h := by rw [hd]; simp)
      simp only [hd, List.getElem_cons_zero, Nat.add_zero] at this
      exact this.symm
    refine AWPL.unr (by delta part_L1; rfl) ?_
    refine AWP.seq (AWP.rgX (rx_no (e_lss (a := i) (b := rs.length) rfl rfl) (rx_nil ?_)))
    refine tq_nrm (AWP.seq ?_)
    refine AWP.condT rfl (decide_eq_true (by omega)) (AWP.skip ?_)
    refine tq_nrm (AWP.seq (AWP.block ?_))
    have fin : ∀ (T' : Nat → DV) (H' : Hp) (nx' : Nat) (gs' : Nat → Nat) (rows' : List (List Int)), Nest H' o g base gs' rows' → (∀ j, j < o → H' j = H0 j) → base + rows'.length ≤ nx' → nearR ks rows' = some out → T' 1 = d1 → T' 4 = .own o g 0 rows'.length → T' 20 = .lst f (rs.map rdC) → T' 21 = I rs.length → T' 22 = I i →
        AWP P cx ow (.rg [⟨(some 55), (.bin .add (.t 22) (.c (I 1))), none⟩, ⟨(some 22), (.mov (.t 55)), none⟩] none) (thenQ (fun s' => AWPL P cx ow part_L1 Q s') Q) ⟨T', H', nx'⟩ := by
      intro T' H' nx' gs' rows' a1 a2 a3 a4 b1 b2 b3 b4 b5
      refine AWP.rgX ?_
      refine rx_no (e_inc (i := i) (by show un true (T' 22) = _; rw [b5]; rfl) rfl (by omega)) ?_
      refine rx_no (e_movI (k := .i64) (a := ((i + 1 : Nat) : Int)) rfl) (rx_nil ?_)
      refine tq_nrm ?_
      refine AWPL.live [(1, d1), (4, .own o g 0 rows'.length), (20, .lst f (rs.map rdC)), (21, I rs.length), (22, I ((i + 1 : Nat) : Int))] ?_ ?_
      · simp only [Has, upd_get]
        exact ⟨b1, b2, b3, b4, rfl, trivial⟩
      · refine ih (i + 1) gs' rows' _ _ ?_ ?_ a1 a2 a3 a4
        · rw [← List.drop_drop, hd]; rfl
        · simp at hi; omega
    refine AWP.seq (AWP.rgX ?_)
    refine rx_no (e_ixL (f := f) (xs := rs.map rdC) (n := i) (cs := rdC k) rfl rfl (by omega) (by simp; omega) (by simp [hi', hk]) rfl) ?_
    refine rx_no (d := .agg (rdC k)) rfl ?_
    refine rx_al (ev_alloc ..) ?_
    refine rx_st (e_st (o := nx) (g := 0) (i := 0) (f := 0) (cs := rdC k) (ys := [rdC k]) rfl rfl (Hp.put_same ..) rfl rfl rfl) (rx_nil ?_)
    refine tq_nrm ?_
    generalize hH2 : (Hp.put (Hp.put H nx _) nx _) = H2
    have hr2 : H2 nx = some ⟨0, 10, [rdC k]⟩ := by rw [← hH2]; exact Hp.put_same ..
    have hold2 : ∀ j, j < nx → H2 j = H j := fun j hj => by rw [← hH2, Hp.put_ne _ _ _ (by omega), Hp.put_ne _ _ _ (by omega)]
    have hN2 : Nest H2 o g base gs rows := hN.keep (fun j hj => hold2 j (by omega)) hob
    have hag2 : ∀ j, j < o → H2 j = H0 j := fun j hj => by rw [hold2 j (by omega)]; exact hH j hj
    clear hH2
    refine AWP.seq (AWP.rgX ?_)
    refine rx_no (e_fap (o := nx) (g := 0) (i := 0) (f := 0) rfl hr2) ?_
    refine rx_no (e_ldp (c := B k.2.2.2.2.2.1) rfl hr2 rfl) ?_
    refine rx_no (e_not (c := k.2.2.2.2.2.1) rfl) (rx_nil ?_)
    refine tq_nrm ?_
    simp only [nearR] at ho
    cases hcl : k.2.2.2.2.2.1 with
    | true =>
      rw [hcl, cond_true] at ho
      refine AWP.condF (b := false) rfl rfl (AWP.skip ?_)
      refine iq_nrm (tq_nrm ?_)
      exact fin _ _ _ gs rows hN2 hag2 (by omega) ho rfl rfl rfl rfl rfl
    | false =>
      rw [hcl, cond_false] at ho
      obtain ⟨rows1, ha, ho⟩ := Option.bind_eq_some_iff.1 ho
      obtain ⟨⟨k0, k1⟩, hfit, rfl⟩ := addM_some ha
      obtain ⟨rows2, ha2, ho⟩ := Option.bind_eq_some_iff.1 ho
      obtain ⟨⟨m0, m1⟩, hfit2, rfl⟩ := addM_some ha2
      obtain ⟨p, hp⟩ : ∃ p : Nat, k.1 = (p : Int) := ⟨Int.toNat k.1, (Int.toNat_of_nonneg k0).symm⟩
      obtain ⟨q, hq⟩ : ∃ q : Nat, k.2.1 = (q : Int) := ⟨Int.toNat k.2.1, (Int.toNat_of_nonneg m0).symm⟩
      rw [hp] at k1
      rw [hq, addR_len] at m1
      simp only [hp, hq, Int.toNat_natCast] at hfit hfit2 ho
      have hpl : p < rows.length := by omega
      have hql : q < (addR rows p q).length := by rw [addR_len]; omega
      refine AWP.condT (b := true) rfl rfl (AWP.seq (AWP.rgX ?_))
      refine part_add1 (x := q) (gs := gs) (rows := rows) (rb := nx) (o := o) (g := g) (base := base) (p := p) hN2 hob hpl hx hr2 rfl rfl (by show some (I k.1) = _; rw [hp]) (by show some (I k.2.1) = _; rw [hq]) hfit fun T1 H1 hT1 hN1 hag1 hr1 => ?_
      refine tq_nrm (AWP.rgX ?_)
      refine part_add2 (x := p) (rows := addR rows p q) (rb := nx) (o := o) (g := g) (base := base) (p := q) hN1 hob hql (by rw [addR_len]; exact hx) (by rw [hr1]; exact hr2) (by rw [hT1 4 (by omega), addR_len]; rfl) (by rw [hT1 6 (by omega)]; rfl) (by show some (I k.2.1) = _; rw [hq]) (by show some (I k.1) = _; rw [hp]) hfit2 fun T2 H3 hT2 hN3 hag3 hr3 => ?_
      refine iq_nrm (tq_nrm ?_)
      refine fin _ _ _ _ (addR (addR rows p q) q p) hN3 (fun j hj => by rw [hag3 j hj, hag1 j hj]; exact hag2 j hj) (by rw [addR_len, addR_len]; omega) ho ?_ ?_ ?_ ?_ ?_
      · rw [hT2 1 (by omega), hT1 1 (by omega)]; rfl
      · rw [hT2 4 (by omega), hT1 4 (by omega), addR_len, addR_len]; rfl
      · rw [hT2 20 (by omega), hT1 20 (by omega)]; rfl
      · rw [hT2 21 (by omega), hT1 21 (by omega)]; rfl
      · rw [hT2 22 (by omega), hT1 22 (by omega)]; rfl

def part_g (si : SI) : Option (El (.list (.list (.int .i64)))) := match si.H, getT si.T 1 with
  | [some (.box 0 [.lst _ t1 ps, .lst _ t2 rs])], .ptr 0 0 0 => (match castL t1 G_Pl ps, castL t2 G_Rd rs with
    | some ps, some rs => nearM ps.length rs
    | _, _ => none)
  | _, _ => none
def part_u (y : El (.list (.list (.int .i64)))) (si : SI) : SI := ⟨[(4, .lst false (.list (.int .i64)) y), (1, .ptr 0 0 0)], si.H⟩

theorem part_hand {P : Program} {nt : Nat} {ow : Nat → Bool} : HandOK P nt ow [part_A, part_B] (.list (.list (.int .i64))) part_g part_u := by
  intro cx hcx si y s c Q hs hn hg hk
  unfold part_g at hg
  split at hg
  · rename_i f1 t1 a1 f2 t2 a2 hH h1
    split at hg
    · rename_i ps rs hc1' hc2'
      obtain ⟨rfl, rfl⟩ := castL_some hc1'
      obtain ⟨rfl, rfl⟩ := castL_some hc2'
      obtain ⟨ck0, hc1, hnx, ⟨⟨g1, x1⟩, ⟨g2, x2⟩, hck, hb1, hb2⟩, hfl, hrel⟩ := keep_box hs hH
      have hx2 := rds_of hb2
      simp only at hx2
      subst hx2
      obtain ⟨gg, e1, _, hgg⟩ := (h1 ▸ hs.t 1).ptr_inv
      have : gg = 0 := by have := (hgg ck0 hc1).1; rw [hck] at this; exact this.symm
      subst this
      have hg : (bif mkB 24 (ps.length : Int) (ps.length : Int) && decide (rs.length < 9223372036854775807) then nearR rs (List.replicate ps.length []) else none) = some y := hg
      cases hq : mkB 24 (ps.length : Int) (ps.length : Int) && decide (rs.length < 9223372036854775807) with
      | false => rw [hq] at hg; cases hg
      | true =>
        rw [hq, cond_true] at hg
        rw [Bool.and_eq_true] at hq
        have q1 : 0 ≤ (ps.length : Int) ∧ (ps.length : Int) ≤ ps.length ∧ (24 : Int) * ps.length ≤ 140737488355328 ∧ (ps.length : Int) ≤ 140737488355328 := of_decide_eq_true hq.1
        have q2 : rs.length < 9223372036854775807 := of_decide_eq_true hq.2
        show AWP P cx ow (.seq part_A (.seq part_B c)) Q s
        obtain ⟨T, H, nx⟩ := s
        simp only at hnx e1 hc1 hn
        subst hnx
        rw [hck] at hc1
        refine AWP.seq (AWP.rgX ?_)
        refine rx_no (e_fap (o := 0) (g := 0) (i := 0) (f := 0) (by show un true (T 1) = _; rw [e1]; rfl) hc1) ?_
        refine rx_no (e_ldp (c := .lst g1 x1) rfl hc1 rfl) ?_
        refine rx_no (e_lenL (f := g1) (xs := x1) (n := ps.length) rfl (by rw [← hb1.1])) ?_
        refine rx_al (e_mksl (l := ps.length) (c := ps.length) rfl rfl q1) ?_
        rw [Int.toNat_natCast]
        refine rx_no (e_movO (o := 1) (g := 0) (i := 0) (f := ps.length) rfl) (rx_nil ?_)
        refine tq_nrm ?_
        generalize hT0 : upd (upd _ 18 _) 4 _ = T0
        have t1 : T0 1 = .ptr 0 0 0 0 := by rw [← hT0]; exact e1
        have t4 : T0 4 = .own 1 0 0 ps.length := by rw [← hT0]; rfl
        obtain ⟨H', w1, hN, hold⟩ := Nest.start (cx := cx) (T := T0) (H := H.put 1 (some ⟨0, 1, List.replicate ps.length [.lst true []]⟩)) (nx := 1 + 1) (o := 1) (g := 0) (n := ps.length) (by omega) (by omega) (Hp.put_same ..)
        have hH0 : H' 0 = some ⟨0, 2, [[.lst g1 x1, .lst g2 (rs.map rdC)]]⟩ := by rw [hold 0 (by omega) (by omega), Hp.put_ne _ _ _ (by omega)]; exact hc1
        refine AWP.wk w1 (AWP.seq (AWP.seq (AWP.rgX ?_)))
        refine rx_no (e_fap (o := 0) (g := 0) (i := 0) (f := 0) (by show un true (T0 1) = _; rw [t1]; rfl) hH0) ?_
        refine rx_no (e_ldp (c := .lst g2 (rs.map rdC)) rfl hH0 rfl) ?_
        refine rx_no (e_lenL (f := g2) (xs := rs.map rdC) (n := rs.length) rfl (by simp)) ?_
        refine rx_no (e_movI (k := .i64) (a := 0) rfl) (rx_nil ?_)
        refine tq_nrm (AWP.block (AWP.loopL ?_))
        refine AWPL.live [(1, .ptr 0 0 0 0), (4, .own 1 0 0 ps.length), (20, .lst g2 (rs.map rdC)), (21, I rs.length), (22, I 0)] ?_ ?_
        · simp only [Has, upd_get]
          exact ⟨t1, t4, rfl, rfl, rfl, trivial⟩
        · have hl : (List.replicate ps.length ([] : List Int)).length = ps.length := by simp
          have key := part_loop (P := P) (cx := cx) (ow := ow) 1 0 2 H' (.ptr 0 0 0 0) g2 rs y (inQ 0 (thenQ (fun s' => AWP P cx ow c Q s') Q)) (by omega) q2 ?_ rs 0 (fun _ => 0) (List.replicate ps.length []) H' (1 + 1 + ps.length) rfl (by omega) hN (fun j _ => rfl) (by rw [hl]; omega) hg
          · rw [hl] at key; exact key
          · intro T2 H2 nx2 gs2 hN2 hH2 hx2 hT2 hT1
            refine iq_ex (tq_nrm ?_)
            have ids1 : Ids (fun j => j < 1) (T2 1) := by rw [hT1]; exact .ptr _ _ _ _ (by omega)
            refine AWP.wk (Nest.freeze (t := 4) (n := 0) hN2 hn (Nat.le_refl _) (by omega) hx2 hT2 (H1 := fun j => if j = 0 then some ck0 else none) (fun j ck hj => ?_) (fun q => if q = 1 then T2 1 else .any) (fun q => ?_)) (hk _ ⟨fun q => ?_, ?_, hs.n⟩ hn)
            · by_cases e : j = 0
              · subst e; rw [if_pos rfl] at hj; injection hj with hj; subst hj
                refine ⟨by omega, ?_, hfl⟩
                rw [hH2 0 (by omega), hH0, hck]
              · rw [if_neg e] at hj; cases hj
            · by_cases e : q = 1
              · subst e; rw [if_pos rfl]; exact .inr ⟨rfl, by omega, ids1⟩
              · rw [if_neg e]; exact .inl rfl
            · simp only [part_u, getT, upd]
              by_cases e : q = 4
              · subst e; rw [if_pos rfl]; exact rel_rows y
              · rw [if_neg e]
                cases hb : Nat.beq 4 q with
                | true => exact absurd (Nat.eq_of_beq_eq_true hb).symm e
                | false =>
                  simp only [cond_false]
                  by_cases e1 : q = 1
                  · subst e1
                    rw [if_pos rfl, hT1]
                    refine .ptr _ _ _ _ (by omega) fun ck hj => ?_
                    rw [if_pos rfl] at hj; injection hj with hj; subst hj
                    rw [hck]; exact ⟨rfl, Nat.zero_lt_one⟩
                  · rw [if_neg e1]
                    cases hb : Nat.beq 1 q with
                    | true => exact absurd (Nat.eq_of_beq_eq_true hb).symm e1
                    | false => exact .any _
            · exact hrel _ rfl
    · cases hg
  · cases hg
end Go.Pv
