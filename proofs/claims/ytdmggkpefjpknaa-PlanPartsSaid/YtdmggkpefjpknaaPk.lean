/- The parts of a mine, by the program and by the reference; PlanLooks. No condition of its own. -/
import Derived.Test.YtdmggkpefjpknaaPj
import Derived.Test.YtdmggkpefjpknaaPb
set_option linter.all false
namespace Go.Proofs.Ytdmggkpefjpknaa
open Go.Pv M

def cls (of : List Int) (c : Nat) (q : Nat) : Bool := gt of q == (c : Int)
def rowsT (of : List Int) (k i : Nat) : List (List Int) := (List.range k).map fun c => coll (cls of c) i 0
theorem rowsT_len (of : List Int) (k i : Nat) : (rowsT of k i).length = k := by simp [rowsT]
theorem rowsT_get {of : List Int} {k i c : Nat} (h : c < k) : (rowsT of k i).getD c [] = coll (cls of c) i 0 := by
  unfold rowsT
  rw [List.getD_eq_getElem?_getD, List.getElem?_map, List.getElem?_range h]; rfl
theorem rows_ext {a b : List (List Int)} (h : a.length = b.length) (g : ∀ c, c < a.length → a.getD c [] = b.getD c []) : a = b := by
  refine List.ext_getElem h fun c h1 h2 => ?_
  have := g c h1
  simpa [List.getD_eq_getElem?_getD, h1, h2] using this
theorem outs_loop {m : T_Mine} (hm : Vm m) {of : List Int} {k : Nat} (hp : Prt m m.1.length k of) : ∀ (ks : List Int) (i : Nat), of.drop i = ks → i + ks.length = of.length → outsR ks i (rowsT of k i) = some (rowsT of k m.1.length)
  | [], i, h, hi => by
    have : i = m.1.length := by rw [← hp.len]; simpa using hi
    subst this; rfl
  | x :: ks, i, h, hi => by
    have n1 := hm.n
    have hlen := hp.len
    have hil : i < of.length := by simp at hi; omega
    have hx : gt of i = x := by
      unfold gt
      have := drop_cons (0 : Int) hil
      rw [h] at this
      injection this with h1 h2
      exact h1.symm
    have hv := hp.val i (by omega)
    have hl := hp.low i (by omega) (by omega)
    simp only [outsR]
    rw [addM_eq (by rw [rowsT_len]; omega) (by rw [rowsT_get (by omega)]; have := coll_len (cls of x.toNat) i 0; omega), bind_some']
    have e : addR (rowsT of k i) x.toNat (i : Int) = rowsT of k (i + 1) := by
      refine rows_ext (by rw [addR_len, rowsT_len, rowsT_len]) fun c hc => ?_
      rw [addR_len, rowsT_len] at hc
      rw [addR_get (by rw [rowsT_len]; omega), rowsT_get hc, rowsT_get hc, rowsT_get (by omega), coll_snoc]
      by_cases e : c = x.toNat
      · subst e
        rw [if_pos rfl, if_pos (by rw [Nat.zero_add]; unfold cls; rw [hx]; exact eq2 (by omega)), Nat.zero_add]
      · rw [if_neg e, if_neg (by rw [Nat.zero_add]; unfold cls; rw [hx]; simp; omega), List.append_nil]
    rw [e]
    refine outs_loop hm hp ks (i + 1) ?_ (by simp at hi ⊢; omega)
    rw [← List.drop_drop, h]; rfl
theorem parts_eq {m : T_Mine} (hm : Vm m) {of : List Int} {k : Nat} (e1 : plan_part 1000 m = some (of, ((k : Nat) : Int))) (hp : Prt m m.1.length k of) : plan_Parts 1000 m = some (rowsT of k m.1.length) := by
  have n1 := hm.n
  have hk := hp.ki
  have hlen := hp.len
  unfold plan_Parts
  rw [valid_eq, bind_some', show (chk m == 0) = true by simpa using (chk_zero m).2 hm, Bool.not_true, cond_false, e1, bind_some']
  simp only
  unfold outsM
  rw [mkB_true (by omega), decide_eq_true (by omega), Bool.and_self, cond_true, Int.toNat_natCast]
  have e : List.replicate k ([] : List Int) = rowsT of k 0 := by
    refine rows_ext (by rw [rowsT_len]; simp) fun c hc => ?_
    have hc : c < k := by simpa using hc
    rw [rowsT_get hc]
    simp [coll, hc]
  rw [e, outs_loop hm hp of 0 rfl (by omega)]
  rfl

/-! ### The reference -/
theorem rpart_row {m : T_Mine} (hm : Vm m) (i0 n1 : Nat) (seen : List Bool) (hs : seen.length = m.1.length) (acc : List (List Int)) : ∀ (j f i : Nat) (dn : List Bool) (row : List Int), j + i = m.1.length → j < f → dn.length = m.1.length → row.length ≤ i →
    ∃ dn', ref01_Parts_L2 1000 n1 f i0 seen i m.1 m.2 acc dn row = (bif fitsB (acc.length + 1) 24 then ref01_Parts_L1 1000 n1 (W ((i0 : Int) + 1)) m.1 m.2 (acc ++ [row ++ coll (bg seen) j i]) dn' else none) ∧ dn'.length = m.1.length ∧ ∀ q, q < m.1.length → (bg dn' q = true ↔ bg dn q = true ∨ (i ≤ q ∧ bg seen q = true))
  | 0, f + 1, i, dn, row, hj, hf, hd, hr => by
    rw [ref01_Parts_L2_succ, df (by omega)]
    refine ⟨dn, by simp [coll], hd, fun q hq => ⟨.inl, fun h => h.elim id fun h => by omega⟩⟩
  | j + 1, f + 1, i, dn, row, hj, hf, hd, hr => by
    have n1' := hm.n
    rw [ref01_Parts_L2_succ, dt (by omega), it (by omega), Int.toNat_natCast, W_succ (show i < 1000000000 by omega), show seen.getD i false = bg seen i from rfl]
    cases hb : bg seen i with
    | true =>
      rw [cond_true, fitsB_true (by omega), cond_true, it (by omega), coll_t hb]
      obtain ⟨dn', e, h1, h2⟩ := rpart_row hm i0 n1 seen hs acc j f (i + 1) (dn.set i true) (row ++ [(i : Int)]) (by omega) (by omega) (by simp [hd]) (by rw [List.length_append, List.length_singleton]; omega)
      refine ⟨dn', by rw [e, List.append_assoc]; rfl, h1, fun q hq => ?_⟩
      rw [h2 q hq, bg_set (by omega)]
      by_cases e : q = i
      · subst e; rw [if_pos rfl]; exact ⟨fun _ => .inr ⟨Nat.le_refl _, hb⟩, fun _ => .inl rfl⟩
      · rw [if_neg e]
        exact or_congr_right ⟨fun h => ⟨by omega, h.2⟩, fun h => ⟨by omega, h.2⟩⟩
    | false =>
      rw [cond_false, coll_f hb]
      obtain ⟨dn', e, h1, h2⟩ := rpart_row hm i0 n1 seen hs acc j f (i + 1) dn row (by omega) (by omega) hd (by omega)
      refine ⟨dn', e, h1, fun q hq => ?_⟩
      rw [h2 q hq]
      refine or_congr_right ⟨fun h => ⟨by omega, h.2⟩, fun h => ⟨?_, h.2⟩⟩
      by_cases e : q = i
      · subst e; rw [hb] at h; cases h.2
      · omega
theorem rparts_loop {m : T_Mine} (hm : Vm m) {of : List Int} {k : Nat} (hp : Prt m m.1.length k of) : ∀ (j f i K : Nat) (dn : List Bool), j + i = m.1.length → j < f → dn.length = m.1.length → (∀ q, q < m.1.length → (bg dn q = true ↔ ∃ x, x < i ∧ Cn m x q)) → (∀ x, x < i → gt of x < K) → (∀ c, c < K → ∃ x, x < i ∧ gt of x = c) → K ≤ i →
    ref01_Parts_L1 1000 f i m.1 m.2 (rowsT of K m.1.length) dn = some (rowsT of k m.1.length)
  | 0, f + 1, i, K, dn, hj, hf, hd, h1, h2, h3, h4 => by
    have : i = m.1.length := by omega
    subst this
    rw [ref01_Parts_L1_succ, df (by omega)]
    have : K = k := by
      rcases Nat.lt_trichotomy K k with h | h | h
      · obtain ⟨x, a, b, c⟩ := hp.fst K h
        have := h2 x a; omega
      · exact h
      · obtain ⟨x, a, b⟩ := h3 k h
        have := hp.val x a; omega
    rw [this]
  | j + 1, f + 1, i, K, dn, hj, hf, hd, h1, h2, h3, h4 => by
    have n1 := hm.n
    have hi : i < m.1.length := by omega
    rw [ref01_Parts_L1_succ, dt (by omega), it (by omega), Int.toNat_natCast, show dn.getD i false = bg dn i from rfl]
    have hli := hp.low i hi hi
    cases hb : bg dn i with
    | true =>
      rw [cond_true, W_succ (by omega)]
      obtain ⟨x, a, b⟩ := (h1 i hi).1 hb
      have hx := (hp.cls x i (by omega) hi (hp.low x (by omega) (by omega))).2 b
      have := h2 x a
      refine rparts_loop hm hp j f (i + 1) K dn (by omega) (by omega) hd (fun q hq => ?_) (fun y hy => ?_) (fun c hc => ?_) (by omega)
      · rw [h1 q hq]
        refine ⟨fun ⟨y, c, d⟩ => ⟨y, by omega, d⟩, fun ⟨y, c, d⟩ => ?_⟩
        by_cases e : y = i
        · subst e; exact ⟨x, a, b.trans d⟩
        · exact ⟨y, by omega, d⟩
      · by_cases e : y = i
        · subst e; omega
        · exact h2 y (by omega)
      · obtain ⟨y, c1, c2⟩ := h3 c hc; exact ⟨y, by omega, c2⟩
    | false =>
      have hK : gt of i = K := by
        have hge : (K : Int) ≤ gt of i := by
          by_cases h : (K : Int) ≤ gt of i
          · exact h
          · obtain ⟨x, a, b⟩ := h3 (gt of i).toNat (by omega)
            have hc := (hp.cls x i (by omega) hi (hp.low x (by omega) (by omega))).1 (by omega)
            have := (h1 i hi).2 ⟨x, a, hc⟩
            rw [hb] at this; cases this
        by_cases h : gt of i = K
        · exact h
        · obtain ⟨x, a, b⟩ := hp.can i hi K (by omega)
          have := h2 x a; omega
      rw [cond_false, mkB_true (by omega), cond_true]
      simp only
      rw [Int.toNat_natCast, it (by rw [List.length_replicate]; omega)]
      obtain ⟨seen, e, s1, s2⟩ := from_spec hm (l := (List.replicate m.1.length false).set i true) (by simp)
      rw [show ((m.1, m.2) : T_Mine) = m from rfl, e, bind_some']
      have hs : ∀ q, q < m.1.length → (bg seen q = true ↔ Cn m i q) := fun q hq => by
        rw [s2 q hq]
        constructor
        · rintro ⟨x, a, b, c⟩
          rw [bg_set (by rw [List.length_replicate]; omega), bg_rep] at b
          split at b
          · rename_i e; subst e; exact c
          · cases b
        · intro c
          exact ⟨i, hi, by rw [bg_set (by rw [List.length_replicate]; omega), if_pos rfl], c⟩
      obtain ⟨dn', e2, d1, d2⟩ := rpart_row hm i f seen s1 (rowsT of K m.1.length) m.1.length 1000 0 dn [] rfl (by omega) hd (by simp)
      rw [show ((0 : Nat) : Int) = 0 from rfl] at e2
      rw [e2, rowsT_len, fitsB_true (by omega), cond_true, List.nil_append, W_succ (by omega)]
      have er : rowsT of K m.1.length ++ [coll (bg seen) m.1.length 0] = rowsT of (K + 1) m.1.length := by
        unfold rowsT
        rw [List.range_succ, List.map_append, List.map_singleton]
        refine congrArg _ (congrArg (fun x => [x]) (coll_congr _ _ fun q _ hq => ?_))
        have hq : q < m.1.length := by omega
        rw [Bool.eq_iff_iff, hs q hq, ← hp.cls i q hi hq hli, hK]
        unfold cls; simp
      rw [er]
      refine rparts_loop hm hp j f (i + 1) (K + 1) dn' (by omega) (by omega) d1 (fun q hq => ?_) (fun y hy => ?_) (fun c hc => ?_) (by omega)
      · rw [d2 q hq, h1 q hq, hs q hq]
        constructor
        · rintro (⟨y, c, d⟩ | ⟨_, d⟩)
          · exact ⟨y, by omega, d⟩
          · exact ⟨i, by omega, d⟩
        · rintro ⟨y, c, d⟩
          by_cases e : y = i
          · subst e; exact .inr ⟨Nat.zero_le _, d⟩
          · exact .inl ⟨y, by omega, d⟩
      · by_cases e : y = i
        · subst e; omega
        · have := h2 y (by omega); omega
      · by_cases e : c = K
        · subst e; exact ⟨i, by omega, hK⟩
        · obtain ⟨y, c1, c2⟩ := h3 c (by omega); exact ⟨y, by omega, c2⟩
theorem rparts_eq {m : T_Mine} (hm : Vm m) {of : List Int} {k : Nat} (hp : Prt m m.1.length k of) : ref01_Parts 1000 m = some (rowsT of k m.1.length) := by
  have n1 := hm.n
  unfold ref01_Parts
  rw [rcheck_eq, bind_some', nf ((chk_zero m).2 hm), mkB_true (by omega), cond_true, Int.toNat_natCast]
  exact rparts_loop hm hp m.1.length 1000 0 0 (List.replicate m.1.length false) rfl (by omega) (by simp) (fun q hq => by rw [bg_rep]; exact ⟨fun h => (by cases h), fun ⟨x, a, _⟩ => by omega⟩) (fun x hx => by omega) (fun c hc => by omega) (Nat.le_refl _)
theorem parts_bad {m : T_Mine} (h : chk m ≠ 0) : plan_Parts 1000 m = some [] ∧ ref01_Parts 1000 m = some [] := by
  constructor
  · unfold plan_Parts
    rw [valid_eq, bind_some', show (chk m == 0) = false by simpa using h]; rfl
  · unfold ref01_Parts
    rw [rcheck_eq, bind_some', nt h]

/-! ### Lists that are the same -/
theorem ints_loop {l : List Int} (hl : l.length ≤ 900) : ∀ (j f i : Nat), j + i = l.length → j < f → ref01_Ints_L1 1000 f l l i = some true
  | 0, f + 1, i, hj, hf => by rw [ref01_Ints_L1_succ, df (by omega)]
  | j + 1, f + 1, i, hj, hf => by
    rw [ref01_Ints_L1_succ, dt (by omega), it (by omega), it (by omega), nf rfl, W_succ (by omega)]
    exact ints_loop hl j f (i + 1) (by omega) (by omega)
theorem ints_refl {l : List Int} (hl : l.length ≤ 900) : ref01_Ints 1000 l l = some true := by
  unfold ref01_Ints; rw [nf rfl]; exact ints_loop hl l.length 1000 0 rfl (by omega)
theorem lists_loop {l : List (List Int)} (hl : l.length ≤ 900) (h : ∀ x, x ∈ l → x.length ≤ 900) : ∀ (j f i : Nat), j + i = l.length → j < f → ref01_Lists_L1 1000 f l l i = some true
  | 0, f + 1, i, hj, hf => by rw [ref01_Lists_L1_succ, df (by omega)]
  | j + 1, f + 1, i, hj, hf => by
    rw [ref01_Lists_L1_succ, dt (by omega), it (by omega), it (by omega), ints_refl (h _ (getD_mem _ (by omega))), bind_some', Bool.not_true, cond_false, W_succ (by omega)]
    exact lists_loop hl h j f (i + 1) (by omega) (by omega)
theorem lists_refl {l : List (List Int)} (hl : l.length ≤ 900) (h : ∀ x, x ∈ l → x.length ≤ 900) : ref01_Lists 1000 l l = some true := by
  unfold ref01_Lists; rw [nf rfl]; exact lists_loop hl h l.length 1000 0 rfl (by omega)

/-! ### Roads and their other ends -/
def ofP (rs : List T_Road) (p : Int) (q : Nat) : Bool := (rs.getD q D_Road).1 == p || (rs.getD q D_Road).2.1 == p
theorem roads_loop {rs : List T_Road} (hr : rs.length ≤ 128) (p : Int) : ∀ (j f i : Nat) (acc : List Int), j + i = rs.length → j < f → acc.length ≤ i → plan_Roads_L1 1000 f p rs rs.length i acc = some (acc ++ coll (ofP rs p) j i)
  | 0, f + 1, i, acc, hj, hf, ha => by rw [plan_Roads_L1_succ, df (by omega)]; simp [coll]
  | j + 1, f + 1, i, acc, hj, hf, ha => by
    rw [plan_Roads_L1_succ, dt (by omega), it (by omega), Int.toNat_natCast, W_succ (by omega)]
    by_cases h1 : (rs.getD i D_Road).1 = p
    · rw [et h1, fitsB_true (by omega), cond_true, roads_loop hr p j f (i + 1) _ (by omega) (by omega) (by rw [List.length_append, List.length_singleton]; omega), coll_t (by unfold ofP; rw [eq2 h1]; rfl), List.append_assoc]; rfl
    rw [ef h1]
    by_cases h2 : (rs.getD i D_Road).2.1 = p
    · rw [et h2, fitsB_true (by omega), cond_true, roads_loop hr p j f (i + 1) _ (by omega) (by omega) (by rw [List.length_append, List.length_singleton]; omega), coll_t (by unfold ofP; rw [eq2 h2, Bool.or_true]), List.append_assoc]; rfl
    · rw [ef h2, roads_loop hr p j f (i + 1) acc (by omega) (by omega) (by omega), coll_f (by unfold ofP; rw [ne2 h1, ne2 h2]; rfl)]
theorem rroads_loop (ps : List T_Place) {rs : List T_Road} (hr : rs.length ≤ 128) (p : Int) : ∀ (j f i : Nat) (acc : List Int), j + i = rs.length → j < f → acc.length ≤ i → ref01_Roads_L1 1000 f p i ps rs acc = some (acc ++ coll (ofP rs p) j i)
  | 0, f + 1, i, acc, hj, hf, ha => by rw [ref01_Roads_L1_succ, df (by omega)]; simp [coll]
  | j + 1, f + 1, i, acc, hj, hf, ha => by
    rw [ref01_Roads_L1_succ, dt (by omega), it (by omega), Int.toNat_natCast, W_succ (by omega)]
    by_cases h1 : (rs.getD i D_Road).1 = p
    · rw [et h1, fitsB_true (by omega), cond_true, rroads_loop ps hr p j f (i + 1) _ (by omega) (by omega) (by rw [List.length_append, List.length_singleton]; omega), coll_t (by unfold ofP; rw [eq2 h1]; rfl), List.append_assoc]; rfl
    rw [ef h1, it (by omega)]
    by_cases h2 : (rs.getD i D_Road).2.1 = p
    · rw [et h2, fitsB_true (by omega), cond_true, rroads_loop ps hr p j f (i + 1) _ (by omega) (by omega) (by rw [List.length_append, List.length_singleton]; omega), coll_t (by unfold ofP; rw [eq2 h2, Bool.or_true]), List.append_assoc]; rfl
    · rw [ef h2, rroads_loop ps hr p j f (i + 1) acc (by omega) (by omega) (by omega), coll_f (by unfold ofP; rw [ne2 h1, ne2 h2]; rfl)]
theorem roads_eq {m : T_Mine} (hr : m.2.length ≤ 128) (p : Int) : plan_Roads 1000 m p = some (coll (ofP m.2 p) m.2.length 0) ∧ ref01_Roads 1000 m p = some (coll (ofP m.2 p) m.2.length 0) :=
  ⟨roads_loop hr p m.2.length 1000 0 [] rfl (by omega) (by simp), rroads_loop m.1 hr p m.2.length 1000 0 [] rfl (by omega) (by simp)⟩
def other (m : T_Mine) (r p : Int) : Int := if r < 0 ∨ r ≥ m.2.length then -1 else if (m.2.getD r.toNat D_Road).1 = p then (m.2.getD r.toNat D_Road).2.1 else if (m.2.getD r.toNat D_Road).2.1 = p then (m.2.getD r.toNat D_Road).1 else -1
theorem other_eq (m : T_Mine) (r p : Int) : plan_Other 1000 m r p = some (other m r p) := by
  unfold plan_Other other
  by_cases h1 : r < 0
  · rw [dt h1, if_pos (.inl h1)]
  rw [df h1]
  by_cases h2 : r ≥ m.2.length
  · rw [dt h2, if_pos (.inr h2)]
  rw [df h2, it (by omega), if_neg (by omega)]
  simp only
  by_cases h3 : (m.2.getD r.toNat D_Road).1 = p
  · rw [et h3.symm, if_pos h3]
  rw [ef (fun e => h3 e.symm), if_neg h3]
  by_cases h4 : (m.2.getD r.toNat D_Road).2.1 = p
  · rw [et h4.symm, if_pos h4]
  · rw [ef (fun e => h4 e.symm), if_neg h4]
theorem rother_eq (m : T_Mine) (r p : Int) : ref01_Other 1000 m r p = some (other m r p) := by
  unfold ref01_Other other
  by_cases h1 : r < 0
  · rw [dt h1, if_pos (.inl h1)]
  rw [df h1]
  by_cases h2 : r ≥ m.2.length
  · rw [dt h2, if_pos (.inr h2)]
  rw [df h2, it (by omega), if_neg (by omega)]
  by_cases h3 : (m.2.getD r.toNat D_Road).1 = p
  · rw [et h3, it (by omega), if_pos h3]
  rw [ef h3, it (by omega), if_neg h3]
  by_cases h4 : (m.2.getD r.toNat D_Road).2.1 = p
  · rw [et h4, it (by omega), if_pos h4]
  · rw [ef h4, if_neg h4]

/-! ### PlanLooks -/
theorem both_cut {m : T_Mine} (hn : m.1.length ≤ 64) : ∃ l, plan_CutOff 1000 m = some l ∧ ref01_CutOff 1000 m = some l ∧ l.length ≤ 64 := by
  by_cases h : chk m = 0
  · obtain ⟨l, a, b, _⟩ := cut_spec ((chk_zero m).1 h)
    exact ⟨_, a, b, Nat.le_trans (coll_len _ _ _) hn⟩
  · exact ⟨_, (cut_bad h).1, (cut_bad h).2, by simp⟩
theorem both_parts {m : T_Mine} (hn : m.1.length ≤ 64) : ∃ l, plan_Parts 1000 m = some l ∧ ref01_Parts 1000 m = some l ∧ ref01_Lists 1000 l l = some true := by
  by_cases h : chk m = 0
  · have hm := (chk_zero m).1 h
    obtain ⟨of, k, e, hp⟩ := part_spec hm
    have hk := hp.ki
    refine ⟨_, parts_eq hm e hp, rparts_eq hm hp, lists_refl (by rw [rowsT_len]; omega) fun x hx => ?_⟩
    obtain ⟨c, _, rfl⟩ := List.mem_map.1 hx
    exact Nat.le_trans (coll_len _ _ _) (by omega)
  · exact ⟨_, (parts_bad h).1, (parts_bad h).2, lists_refl (by simp) (fun x hx => by cases hx)⟩
theorem looks_loop (pl rd : Int) {l : List T_Mine} (h2 : l.length = 2) (hl : ∀ m, m ∈ l → m.1.length ≤ 64 ∧ m.2.length ≤ 128) : ∀ (j f i : Nat), j + i = 2 → j < f → law01_PlanLooks_L1 1000 f pl rd l 2 i = some true
  | 0, f + 1, i, hj, hf => by
    rw [law01_PlanLooks_L1_succ, df (by omega), awake_true]; rfl
  | j + 1, f + 1, i, hj, hf => by
    rw [law01_PlanLooks_L1_succ, dt (by omega), it (by omega), Int.toNat_natCast]
    obtain ⟨n1, n2⟩ := hl _ (getD_mem D_Mine (show i < l.length by omega))
    generalize l.getD i D_Mine = m at n1 n2 ⊢
    simp only
    rw [W_succ (by omega), W_succ (by omega), mod_eq _ _ _ (by omega), bind_some', mod_eq _ _ _ (by omega), bind_some', (roads_eq n2 _).1, bind_some', (roads_eq n2 _).2, bind_some', ints_refl (Nat.le_trans (coll_len _ _ _) (by omega)), bind_some', Bool.not_true, cond_false,
      (roads_eq n2 _).1, bind_some', (roads_eq n2 _).2, bind_some', ints_refl (Nat.le_trans (coll_len _ _ _) (by omega)), bind_some', Bool.not_true, cond_false, other_eq, bind_some', rother_eq, bind_some', nf rfl, other_eq, bind_some', rother_eq, bind_some', nf rfl]
    obtain ⟨a, a1, a2, a3⟩ := both_cut n1
    obtain ⟨b, b1, b2, b3⟩ := both_parts n1
    rw [a1, bind_some', a2, bind_some', ints_refl (by omega), bind_some', Bool.not_true, cond_false, b1, bind_some', b2, bind_some', b3, bind_some', Bool.not_true, cond_false, W_succ (by omega)]
    exact looks_loop pl rd h2 hl j f (i + 1) (by omega) (by omega)
theorem planLooks_eq {l : List Int} (h : ∀ a, a ∈ l → (Lit.int .u8 a).wf = true) (hl : l.length ≤ maxLen) (raw : T_Mine) (a b : Int) : law01_PlanLooks 1000 l raw a b = some true := by
  unfold law01_PlanLooks
  obtain ⟨d, e, hd⟩ := new_spec 1000 h hl
  rw [e, bind_some']
  obtain ⟨m, d1, e1, hm, hd1⟩ := mine_spec hd
  simp only
  rw [e1, bind_some']
  have n1 := hm.n2
  have n2 := hm.r2
  simp only
  have go : ∀ ps rs, ps.length ≤ 20 → rs.length ≤ 20 → law01_PlanLooks_J1 1000 a b ps rs m.1 m.2 = some true := fun ps rs h1 h2 => by
    rw [law01_PlanLooks_J1_eq]
    refine looks_loop a b rfl (fun x hx => ?_) 2 1000 0 rfl (by omega)
    rcases List.mem_cons.1 hx with rfl | hx
    · exact ⟨by show m.1.length ≤ 64; omega, by show m.2.length ≤ 128; omega⟩
    · rw [List.mem_singleton.1 hx]; exact ⟨by show ps.length ≤ 64; omega, by show rs.length ≤ 128; omega⟩
  by_cases h1 : (raw.1.length : Int) > 20
  · rw [dt h1]; exact go [] [] (by simp) (by simp)
  rw [df h1]
  by_cases h2 : (raw.2.length : Int) > 20
  · rw [dt h2]; exact go [] [] (by simp) (by simp)
  · rw [df h2]; exact go _ _ (by omega) (by omega)
theorem planLooks_any (dargs : List DV) (h : TyAs [(false, [.sl [.it .u8]]), (true, [.sl [.it .i64, .bo], .sl [.it .i64, .it .i64, .it .i64, .it .i64, .bo, .bo, .it .i64, .it .i64, .it .i64, .it .i64]]), (false, [.it .i64]), (false, [.it .i64])] dargs) : CallOK Try.prog 8 dargs [] 0 (B true) [] 0 :=
  law_any (law01_PlanLooks_pure 1000) (fun x hx => planLooks_eq hx.1.2 hx.1.1 _ _ _) rfl dargs h
end Go.Proofs.Ytdmggkpefjpknaa
