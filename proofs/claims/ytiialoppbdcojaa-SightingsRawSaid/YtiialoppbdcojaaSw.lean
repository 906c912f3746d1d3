/- Sightings: the law of any reports, and of readers with one odd thing. No condition of its own. -/
import Derived.Test.YtiialoppbdcojaaSr
set_option linter.all false
namespace Go.Proofs.Ytiialoppbdcojaa
open Go.Pv M

/-! ### Made mines are right -/
theorem check_road {m : T_Mine} (hm : Mk m) : ∀ (j n k : Nat), j + k = m.2.length → j < n → plan_Check_L2 1000 n m.1.length m.2 m.2.length k = some 0
  | 0, n + 1, k, hk, hn => by rw [plan_Check_L2_succ, decide_eq_false (by omega), cond_false]
  | j + 1, n + 1, k, hk, hn => by
    have hr := hm.r _ (getD_mem D_Road (show k < m.2.length by omega))
    have ih := check_road hm j n (k + 1) (by omega) (by omega)
    have h10 := hm.r2
    rw [plan_Check_L2_succ, decide_eq_true (by omega), cond_true, inB_true (by omega), cond_true, Int.toNat_natCast]
    generalize m.2.getD k D_Road = r at hr ⊢
    obtain ⟨⟨a1, a2⟩, ⟨b1, b2⟩, c, ⟨d1, d2⟩, ⟨e1, e2⟩, f1, f2⟩ := hr
    simp only
    rw [decide_eq_false (by omega), cond_false, decide_eq_false (by omega), cond_false, decide_eq_false (by omega), cond_false, decide_eq_false (by omega), cond_false, ne2 c, cond_false, plan_Check_J2_eq, decide_eq_false (by omega), cond_false, decide_eq_false (by omega), cond_false, decide_eq_false (by omega), cond_false, decide_eq_false (by omega), cond_false, f1, f2]
    show plan_Check_L2 1000 n m.1.length m.2 m.2.length (W ((k : Int) + 1)) = some 0
    rw [W_eq (n := (k : Int) + 1) (by omega) (by omega), show (k : Int) + 1 = ((k + 1 : Nat) : Int) by omega]
    exact ih
theorem check_place {m : T_Mine} (hm : Mk m) : ∀ (j n k : Nat), j + k = m.1.length → j < n → plan_Check_L1 1000 n m.1 m.1.length k m.1 m.2 = some 0
  | 0, n + 1, k, hk, hn => by
    rw [plan_Check_L1_succ, decide_eq_false (by omega), cond_false]
    exact check_road hm m.2.length 1000 0 rfl (by have := hm.r2; omega)
  | j + 1, n + 1, k, hk, hn => by
    obtain ⟨p1, p2⟩ := hm.p _ (getD_mem D_Place (show k < m.1.length by omega))
    have ih := check_place hm j n (k + 1) (by omega) (by omega)
    have h7 := hm.n2
    rw [plan_Check_L1_succ, decide_eq_true (by omega), cond_true, inB_true (by omega), cond_true, Int.toNat_natCast, decide_eq_false (by omega), cond_false, decide_eq_false (by omega), cond_false, W_eq (n := (k : Int) + 1) (by omega) (by omega), show (k : Int) + 1 = ((k + 1 : Nat) : Int) by omega]
    exact ih
theorem check_made {m : T_Mine} (hm : Mk m) : plan_Check 1000 m = some 0 := by
  have h7 := hm.n2
  have h10 := hm.r2
  unfold plan_Check
  rw [decide_eq_false (by omega), cond_false, decide_eq_false (by omega), cond_false, plan_Check_J1_eq]
  exact check_place hm m.1.length 1000 0 rfl (by omega)

/-! ### Made readers are right -/
def Rq (q : Nat) (x : T_TagReader) : Prop := Ro q x ∧ x.1.length ≤ 100
theorem rq_rd {q : Nat} {x : T_TagReader} (h : Rq q x) : Rd x := ⟨by have := h.1.2.2.1; omega, by have := h.1.2.2.2.1; omega, by have := h.1.2.2.2.2; omega⟩
theorem rdrs_loop {ps : List T_Place} {rs : List T_Road} (hp : 1 ≤ ps.length ∧ ps.length ≤ 100) : ∀ (n k : Nat) (d : T_Dice) (l : List T_TagReader), k < n → k ≤ 3 → l.length + k ≤ 3 → Dk d → (∀ x, x ∈ l → Rq ps.length x) →
    ∃ l' d', made_Dice_Readers_L1 1000 n k d.1 d.2 ps rs l = some (l', d') ∧ l'.length ≤ 3 ∧ (∀ x, x ∈ l' → Rq ps.length x) ∧ Dk d'
  | n + 1, 0, d, l, hn, hk, hl, hd, hx => by
    rw [made_Dice_Readers_L1_succ]
    exact ⟨l, d, rfl, by omega, hx, hd⟩
  | n + 1, k + 1, d, l, hn, hk, hl, hd, hx => by
    rw [made_Dice_Readers_L1_succ, decide_eq_true (by omega), cond_true]
    obtain ⟨s, d1, e1, sl, sr, so, hd1⟩ := some_spec hd (q := ps.length) (by omega)
    rw [show ((d.1, d.2) : T_Dice) = d from rfl, e1, bind_some']
    obtain ⟨c, d3, e3, m3, hd3⟩ := of_spec 1000 hd1 [9, 29, 4] (by decide) (by decide)
    simp only
    rw [e3, bind_some']
    obtain ⟨w, d5, e5, w1, w2, hd5⟩ := next_spec 1000 hd3 (n := 3) (by omega) (by omega)
    simp only
    rw [e5, bind_some']
    obtain ⟨g, d4, e4, m4, hd4⟩ := of_spec 1000 hd5 [0, 1, 5] (by decide) (by decide)
    simp only
    rw [e4, bind_some']
    simp only
    simp only [List.mem_cons, List.not_mem_nil, or_false] at m3 m4
    rw [W_eq (n := ((k + 1 : Nat) : Int) - 1) (by omega) (by omega), show ((k + 1 : Nat) : Int) - 1 = (k : Int) by omega, W_eq (n := 1 + c) (by omega) (by omega), fitsB_true (by omega)]
    have hr : ∀ p : List Int, p.length ≠ 0 → p.length ≤ 100 → rsP 0 ((ps.length : Int) - 1) p → Rq ps.length (p, (1 + c, (w, g))) := fun p h1 h2 h3 => ⟨⟨h1, h3, ⟨by show 1 ≤ 1 + c; omega, by show 1 + c ≤ 600; omega⟩, ⟨by show 0 ≤ w; omega, by show w ≤ 10; omega⟩, ⟨by show 0 ≤ g; omega, by show g ≤ 60; omega⟩⟩, h2⟩
    by_cases h0 : (s.length : Int) = 0
    · rw [eq2 h0, cond_true]
      obtain ⟨z, d6, e6, z1, z2, hd6⟩ := next_spec 1000 hd4 (n := (ps.length : Int)) (by omega) (by omega)
      rw [e6, bind_some', cond_true]
      refine rdrs_loop hp n k d6 _ (by omega) (by omega) (by rw [List.length_append, List.length_singleton]; omega) hd6 (mem_app hx (hr _ (by simp) (by simp) fun i hi => ?_))
      have : i = 0 := by have : i < 1 := hi; omega
      subst this
      exact ⟨by show 0 ≤ z; omega, by show z ≤ (ps.length : Int) - 1; omega, fun h => absurd h (Nat.lt_irrefl _)⟩
    · rw [ne2 h0, cond_false, cond_true]
      refine rdrs_loop hp n k d4 _ (by omega) (by omega) (by rw [List.length_append, List.length_singleton]; omega) hd4 (mem_app hx (hr _ (by omega) (by omega) fun i hi => ?_))
      have hi1 := sr _ (getD_mem 0 hi)
      refine ⟨by omega, by omega, fun h => ?_⟩
      have := so (i - 1) (by omega)
      rwa [show i - 1 + 1 = i by omega] at this
theorem rdrs_spec {d : T_Dice} (hd : Dk d) {m : T_Mine} (hm : Mk m) : ∃ l d', made_Dice_Readers 1000 d m = some (l, d') ∧ l.length ≤ 3 ∧ (∀ x, x ∈ l → Rq m.1.length x) ∧ Dk d' := by
  unfold made_Dice_Readers
  obtain ⟨a, d1, e1, a1, a2, hd1⟩ := next_spec 1000 hd (n := 4) (by omega) (by omega)
  rw [e1, bind_some']
  obtain ⟨k, rfl⟩ := Int.eq_ofNat_of_zero_le a1
  exact rdrs_loop ⟨by have := hm.n1; omega, by have := hm.n2; omega⟩ 1000 k d1 [] (by omega) (by omega) (by simp; omega) hd1 (fun x hx => by cases hx)

/-! ### The law -/
theorem mem_set {α : Type} {P : α → Prop} {l : List α} {k : Nat} {a : α} (h : ∀ x, x ∈ l → P x) (ha : P a) : ∀ x, x ∈ l.set k a → P x := fun x hx => by
  rcases List.mem_or_eq_of_mem_set hx with h1 | h1
  · exact h x h1
  · rw [h1]; exact ha
theorem raw3 (ps : List T_Place) (rs : List T_Road) (hp : ps.length ≤ 900) (hr : rs.length ≤ 900) (l : List T_TagReader) (hl : l.length ≤ 900) (hx : ∀ x, x ∈ l → x.1.length ≤ 900) : law24_SightingsRaw_J3 1000 ps rs l = some true := by
  obtain ⟨v, e1, e2, _⟩ := sval_both (m := (ps, rs)) hp hr hl hx
  rw [law24_SightingsRaw_J3_eq, awake_eq, bind_some', cond_true, e1, bind_some', e2, bind_some', beq_self_eq_true]
theorem raw_fill (ps : List T_Place) (rs : List T_Road) (hp : ps.length ≤ 900) (hr : rs.length ≤ 900) (a b : Int) : ∀ (j n : Nat) (l : List T_TagReader), l.length + j = 40 → 0 < l.length → j < n → l.length ≤ 33 → (∀ x, x ∈ l → x.1.length ≤ 900) → law24_SightingsRaw_L2 1000 n a b ps rs l = some true
  | j, n + 1, l, hj, h0, hn, hl, hx => by
    have hmod := modS_range (n := b) (m := 2) (by omega)
    rw [law24_SightingsRaw_L2_succ, mod_eq 1000 b 2 (by omega), bind_some', W_eq (n := 32 + modS b 2) (by omega) (by omega)]
    by_cases h : (l.length : Int) < 32 + modS b 2
    · rw [decide_eq_true h, cond_true, inB_true (by omega), cond_true, fitsB_true (by omega), cond_true]
      obtain ⟨j, rfl⟩ : ∃ j', j = j' + 1 := ⟨j - 1, by omega⟩
      exact raw_fill ps rs hp hr a b j n _ (by rw [List.length_append, List.length_singleton]; omega) (by rw [List.length_append, List.length_singleton]; omega) (by omega) (by rw [List.length_append, List.length_singleton]; omega) (mem_app hx (hx _ (getD_mem D_TagReader h0)))
    · rw [decide_eq_false h, cond_false]
      exact raw3 ps rs hp hr l (by omega) hx
theorem raw2 {m : T_Mine} (hm : Mk m) {d : T_Dice} (hd : Dk d) (a b : Int) {l : List T_TagReader} (hl : l.length ≤ 3) (hq : ∀ x, x ∈ l → Rq m.1.length x) : law24_SightingsRaw_J2 1000 a b d.1 d.2 m.1 m.2 l = some true := by
  have h7 := hm.n2
  have h2 := hm.n1
  have h10 := hm.r2
  have hx : ∀ x, x ∈ l → x.1.length ≤ 900 := fun x h => by have := (hq x h).2; omega
  have fin := fun l' (h1 : l'.length ≤ 900) (h2 : ∀ x : T_TagReader, x ∈ l' → x.1.length ≤ 900) => raw3 m.1 m.2 (by omega) (by omega) l' h1 h2
  rw [law24_SightingsRaw_J2_eq]
  by_cases h0 : (l.length : Int) > 0
  · rw [decide_eq_true h0, cond_true]
    obtain ⟨k, d1, e1, k1, k2, hd1⟩ := next_spec 1000 hd (n := (l.length : Int)) (by omega) (by omega)
    rw [show ((d.1, d.2) : T_Dice) = d from rfl, e1, bind_some']
    obtain ⟨z, d2, e2, z1, z2, hd2⟩ := next_spec 1000 hd1 (n := 7) (by omega) (by omega)
    simp only
    rw [inB_true ⟨k1, k2⟩, cond_true, e2, bind_some']
    obtain ⟨k, rfl⟩ := Int.eq_ofNat_of_zero_le k1
    simp only
    rw [Int.toNat_natCast]
    have hmem := getD_mem D_TagReader (show k < l.length by omega)
    have hxk := (hq _ hmem).2
    have sl : ∀ v : T_TagReader, (l.set k v).length ≤ 900 := fun v => by rw [List.length_set]; omega
    by_cases c0 : z = 0
    · rw [eq2 c0, cond_true]; exact fin _ (sl _) (mem_set hx (by show ([] : List Int).length ≤ 900; simp))
    rw [ne2 c0, cond_false]
    by_cases c1 : z = 1
    · rw [eq2 c1, cond_true, fitsB_true (by omega), cond_true, fitsB_true (by omega), cond_true]
      exact fin _ (sl _) (mem_set hx (by show ((l.getD k D_TagReader).1 ++ [a]).length ≤ 900; rw [List.length_append, List.length_singleton]; omega))
    rw [ne2 c1, cond_false]
    by_cases c2 : z = 2
    · rw [eq2 c2, cond_true]; exact fin _ (sl _) (mem_set hx (by show (l.getD k D_TagReader).1.length ≤ 900; omega))
    rw [ne2 c2, cond_false]
    by_cases c3 : z = 3
    · rw [eq2 c3, cond_true]; exact fin _ (sl _) (mem_set hx (by show (l.getD k D_TagReader).1.length ≤ 900; omega))
    rw [ne2 c3, cond_false]
    by_cases c4 : z = 4
    · rw [eq2 c4, cond_true]; exact fin _ (sl _) (mem_set hx (by show (l.getD k D_TagReader).1.length ≤ 900; omega))
    rw [ne2 c4, cond_false]
    by_cases c5 : z = 5
    · rw [eq2 c5, cond_true]
      exact raw_fill m.1 m.2 (by omega) (by omega) a b (40 - l.length) 1000 l (by omega) (by omega) (by omega) (by omega) hx
    rw [ne2 c5, cond_false, W_eq (n := (m.1.length : Int) - 1) (by omega) (by omega), slB_true (by omega), cond_true]
    exact raw3 _ m.2 (by rw [List.length_take]; omega) (by omega) l (by omega) hx
  · rw [decide_eq_false h0, cond_false]
    exact fin l (by omega) hx
theorem raw1 {t : List Int} (ht : t.length ≤ 400) {raw : List T_Report} (hr : raw.length ≤ 40) (a b : Int) : ∀ (j n k : Nat), j + k = raw.length → j < n → (∀ i, i < k → (raw.getD i D_Report).2.2.2.length ≤ 60) → law24_SightingsRaw_L1 1000 n t raw k a b = some true
  | j + 1, n + 1, k, hk, hn, hg => by
    rw [law24_SightingsRaw_L1_succ, decide_eq_true (by omega), cond_true, inB_true (by omega), cond_true, Int.toNat_natCast]
    by_cases h : ((raw.getD k D_Report).2.2.2.length : Int) > 60
    · rw [decide_eq_true h, cond_true, awake_eq]; rfl
    · rw [decide_eq_false h, cond_false, W_eq (n := (k : Int) + 1) (by omega) (by omega), show (k : Int) + 1 = ((k + 1 : Nat) : Int) by omega]
      refine raw1 ht hr a b j n (k + 1) (by omega) (by omega) fun i hi => ?_
      by_cases e : i = k
      · subst e; omega
      · exact hg i (by omega)
  | 0, n + 1, k, hk, hn, hg => by
    have tags : ∀ r, r ∈ raw → r.2.2.2.length ≤ 900 := fun r hr' => by
      obtain ⟨i, hi, e⟩ := List.mem_iff_getElem.1 hr'
      have := hg i (by omega)
      rw [List.getD_eq_getElem?_getD, List.getElem?_eq_getElem hi, Option.getD_some, e] at this
      omega
    rw [law24_SightingsRaw_L1_succ, decide_eq_false (by omega), cond_false, roll_spec, bind_some']
    obtain ⟨m, d1, e1, hm, hd1⟩ := mine_spec (rollD_ok (l := t) ht)
    simp only
    rw [e1, bind_some']
    obtain ⟨rs, d2, e2, hl, hq, hd2⟩ := rdrs_spec hd1 hm
    simp only
    rw [e2, bind_some']
    have h7 := hm.n2
    have h10 := hm.r2
    have hrd : ∀ x, x ∈ rs → Rd x := fun x h => rq_rd (hq x h)
    obtain ⟨v, ev, _, hv⟩ := sval_both (m := m) (by omega) (by omega) (l := rs) (by omega) (fun x h => by have := (hq x h).2; omega)
    have : v = true := hv.2 ⟨fun x h => (hq x h).1, check_made hm, by omega⟩
    subst this
    simp only
    rw [ev, bind_some']
    simp only [Bool.not_true, cond_false]
    rw [agree_true hrd (by omega) a b raw (by omega) tags, bind_some']
    simp only [Bool.not_true, cond_false]
    rw [mod_eq 1000 a 4 (by omega), bind_some', mod_eq 1000 b 9 (by omega), bind_some', agree_true hrd (by omega) _ _ raw (by omega) tags, bind_some']
    simp only [Bool.not_true, cond_false]
    exact raw2 hm hd2 a b hl hq
theorem raw_true (t : List Int) (raw : List T_Report) (n : T_Span) : law24_SightingsRaw 1000 t raw n = some true := by
  unfold law24_SightingsRaw
  rw [light_eq, bind_some']
  by_cases h : (t.length : Int) ≤ 400
  · simp only [h, decide_true, Bool.not_true, cond_false]
    by_cases h1 : (raw.length : Int) > 40
    · rw [decide_eq_true h1, cond_true, awake_eq]; rfl
    rw [decide_eq_false h1, cond_false, law24_SightingsRaw_J1_eq]
    exact raw1 (by omega) (by omega) n.1 n.2 raw.length 1000 0 rfl (by omega) (fun i hi => by omega)
  · simp only [h, decide_false, Bool.not_false, cond_true]
    rw [awake_eq]; rfl
theorem sightingsRaw_any (dargs : List DV) (h : TyAs [(false, [.sl [.it .i64]]), (false, [.sl [.it .i64, .it .i64, .it .i64, .sl [.it .i64]]]), (true, [.it .i64, .it .i64])] dargs) : CallOK Try.prog 6 dargs [] 0 (B true) [] 0 :=
  law_any (law24_SightingsRaw_pure 1000) (fun x _ => raw_true x.1 x.2.1 x.2.2) rfl dargs h
end Go.Proofs.Ytiialoppbdcojaa
