/- PlanParts and PlanBack. No condition of its own. -/
import Derived.Test.YtdmggkpefjpknaaPk
import Derived.Test.YtdmggkpefjpknaaPo
set_option linter.all false
namespace Go.Proofs.Ytdmggkpefjpknaa
open Go.Pv M

theorem has_loop {l : List Int} (hl : l.length ≤ 900) (x : Int) : ∀ (j f i : Nat), j + i = l.length → j < f → ref01_Has_L1 1000 f l x i = some (decide (x ∈ l.drop i))
  | 0, f + 1, i, hj, hf => by rw [ref01_Has_L1_succ, df (by omega), drop_nil (by omega)]; simp
  | j + 1, f + 1, i, hj, hf => by
    rw [ref01_Has_L1_succ, dt (by omega), it (by omega), Int.toNat_natCast, W_succ (by omega), drop_cons (0 : Int) (by omega)]
    by_cases h : l.getD i 0 = x
    · rw [et h, decide_eq_true (by rw [h]; exact List.mem_cons_self ..)]
    · rw [ef h, has_loop hl x j f (i + 1) (by omega) (by omega)]
      refine congrArg some ?_
      rw [Bool.eq_iff_iff, decide_eq_true_iff, decide_eq_true_iff, List.mem_cons]
      exact ⟨.inr, fun g => g.elim (fun e => absurd e.symm h) id⟩
theorem has_eq {l : List Int} (hl : l.length ≤ 900) (x : Int) : ref01_Has 1000 l x = some (decide (x ∈ l)) := has_loop hl x l.length 1000 0 rfl (by omega)

/-! ### Counting -/
theorem coll_add {p q r : Nat → Bool} : ∀ (j i : Nat), (∀ x, r x = true ↔ p x = true ∨ q x = true) → (∀ x, ¬ (p x = true ∧ q x = true)) → (coll r j i).length = (coll p j i).length + (coll q j i).length
  | 0, _, _, _ => rfl
  | j + 1, i, h, g => by
    have ih := coll_add j (i + 1) h g
    cases hp : p i with
    | true =>
      cases hq : q i with
      | true => exact absurd ⟨hp, hq⟩ (g i)
      | false => rw [coll_t hp, coll_f hq, coll_t ((h i).2 (.inl hp))]; simp only [List.length_cons]; omega
    | false =>
      cases hq : q i with
      | true => rw [coll_f hp, coll_t hq, coll_t ((h i).2 (.inr hq))]; simp only [List.length_cons]; omega
      | false =>
        have : r i = false := by
          cases hr : r i with
          | false => rfl
          | true => rcases (h i).1 hr with e | e <;> simp_all
        rw [coll_f hp, coll_f hq, coll_f this, ih]
theorem coll_mono {p q : Nat → Bool} : ∀ (j i : Nat), (∀ x, i ≤ x → x < i + j → p x = true → q x = true) → (coll p j i).length ≤ (coll q j i).length
  | 0, _, _ => Nat.le_refl _
  | j + 1, i, h => by
    have ih := coll_mono j (i + 1) fun x h1 h2 => h x (by omega) (by omega)
    cases hp : p i with
    | true => rw [coll_t hp, coll_t (h i (by omega) (by omega) hp)]; simp only [List.length_cons]; omega
    | false =>
      rw [coll_f hp]
      cases hq : q i with
      | true => rw [coll_t hq]; simp only [List.length_cons]; omega
      | false => rw [coll_f hq]; exact ih
theorem coll_all {p : Nat → Bool} : ∀ (j i : Nat), (∀ x, i ≤ x → x < i + j → p x = true) → (coll p j i).length = j
  | 0, _, _ => rfl
  | j + 1, i, h => by
    rw [coll_t (h i (by omega) (by omega)), List.length_cons, coll_all j (i + 1) fun x h1 h2 => h x (by omega) (by omega)]
theorem coll_none {p : Nat → Bool} : ∀ (j i : Nat), (∀ x, p x = false) → coll p j i = []
  | 0, _, _ => rfl
  | j + 1, i, h => by rw [coll_f (h i), coll_none j (i + 1) h]

/-! ### PlanParts -/
section parts
variable {m : T_Mine} {of : List Int} {k : Nat} {l : List Bool}
def below (of : List Int) (c : Nat) (q : Nat) : Bool := decide (gt of q < (c : Int))
def cutl (m : T_Mine) (l : List Bool) : List Int := coll (fun q => !bg l q) m.1.length 0

theorem parts_row (hm : Vm m) (hp : Prt m m.1.length k of) (hl : ∀ q, q < m.1.length → (bg l q = true ↔ ∃ i, i < m.1.length ∧ surf m i = true ∧ Cn m i q)) {c : Nat} (hc : c < k) (n1 tot : Nat) (ht : tot ≤ 1000) (S : Bool) (hS : S = true ↔ ∃ i, i < m.1.length ∧ surf m i = true ∧ gt of i = c) {R : List Int} (hR : R = coll (cls of c) m.1.length 0)
    (fin : ∀ mk : List Int, mk.length = m.1.length → (∀ q, q < m.1.length → gt mk q = if gt of q < ((c + 1 : Nat) : Int) then gt of q + 1 else 0) → law01_PlanParts_L1 1000 n1 (rowsT of k m.1.length) (cutl m l) ((tot + R.length : Nat) : Int) ((c + 1 : Nat) : Int) m.1 m.2 mk = some true) :
    ∀ (j f i : Nat) (airy : Bool) (mk : List Int), j + i = R.length → j < f → (airy = true ↔ ∃ x, x ∈ R.take i ∧ surf m x.toNat = true) → mk.length = m.1.length → (∀ q, q < m.1.length → gt mk q = if (q : Int) ∈ R.take i then (c : Int) + 1 else if gt of q < (c : Int) then gt of q + 1 else 0) →
      law01_PlanParts_L2 1000 n1 f (rowsT of k m.1.length) (cutl m l) tot c airy (if S = true then 0 else (i : Int)) i m.1 m.2 mk = some true
  | 0, f + 1, i, airy, mk, hj, hf, ha, hmk, hg => by
    have n0 := hm.n
    have hk := hp.ki
    have hi : i = R.length := by omega
    have hRl : R.length ≤ m.1.length := by rw [hR]; exact coll_len _ _ _
    have hrow : (rowsT of k m.1.length).getD c [] = R := by rw [rowsT_get hc, hR]
    have hmem : ∀ x, x ∈ R ↔ ∃ q : Nat, x = q ∧ q < m.1.length ∧ gt of q = c := fun x => by
      rw [hR, coll_mem]
      exact ⟨fun ⟨q, a, _, b, d⟩ => ⟨q, a, by omega, by unfold cls at d; simpa using d⟩, fun ⟨q, a, b, d⟩ => ⟨q, a, Nat.zero_le _, by omega, by unfold cls; exact eq2 d⟩⟩
    have hpos : 0 < R.length := by
      obtain ⟨q, a, b, d⟩ := hp.fst c hc
      exact List.length_pos_iff.2 (List.ne_nil_of_mem ((hmem q).2 ⟨q, rfl, b, d⟩))
    have hairy : airy = S := by
      rw [Bool.eq_iff_iff, ha, hS, hi, List.take_length]
      constructor
      · rintro ⟨x, hx, hs⟩
        obtain ⟨q, rfl, b, d⟩ := (hmem x).1 hx
        exact ⟨q, b, by rw [Int.toNat_natCast] at hs; exact hs, d⟩
      · rintro ⟨q, b, hs, d⟩
        exact ⟨q, (hmem q).2 ⟨q, rfl, b, d⟩, by rw [Int.toNat_natCast]; exact hs⟩
    have last := fin mk hmk fun q hq => by
      rw [hg q hq, hi, List.take_length]
      have hv := hp.low q hq hq
      by_cases e : gt of q = c
      · rw [if_pos ((hmem q).2 ⟨q, rfl, hq, e⟩), if_pos (by omega)]; omega
      · rw [if_neg (fun h => by obtain ⟨q', a, b, d⟩ := (hmem _).1 h; have : q = q' := (by omega); subst this; exact e d)]
        by_cases g : gt of q < c
        · rw [if_pos g, if_pos (by omega)]
        · rw [if_neg g, if_neg (by omega)]
    rw [law01_PlanParts_L2_succ, it (by rw [rowsT_len]; omega), Int.toNat_natCast, hrow, df (by omega), W_succ (by omega), hairy]
    cases S with
    | true =>
      rw [if_pos rfl, nf rfl, show ((true == decide ((0 : Int) > 0)) : Bool) = false from rfl, cond_false, it (by rw [rowsT_len]; omega), W_eq (by omega) (by omega)]
      exact last
    | false =>
      rw [if_neg (fun e => by cases e), nt (by omega), it (by rw [rowsT_len]; omega), nf (by omega), show (false == decide ((i : Int) > 0)) = false by simp; omega, cond_false, it (by rw [rowsT_len]; omega), W_eq (by omega) (by omega)]
      exact last
  | j + 1, f + 1, i, airy, mk, hj, hf, ha, hmk, hg => by
    have n0 := hm.n
    have hk := hp.ki
    have hRl : R.length ≤ m.1.length := by rw [hR]; exact coll_len _ _ _
    have hrow : (rowsT of k m.1.length).getD c [] = R := by rw [rowsT_get hc, hR]
    have hil : i < R.length := by omega
    have hx0 : R.getD i 0 ∈ coll (cls of c) m.1.length 0 := by
      have := getD_mem (0 : Int) hil
      rwa [hR] at this ⊢
    obtain ⟨p, hp0, _, hp1, hp2⟩ := (coll_mem _ _).1 hx0
    have hpn : p < m.1.length := by omega
    have hpc : gt of p = c := by unfold cls at hp2; simpa using hp2
    have hstep : ∀ x, x ∈ R.take (i + 1) ↔ x ∈ R.take i ∨ x = p := fun x => by
      rw [List.take_succ, List.getElem?_eq_getElem hil, List.mem_append]
      have : R[i] = (p : Int) := by rw [← hp0, List.getD_eq_getElem?_getD, List.getElem?_eq_getElem hil]; rfl
      rw [this]; simp
    have hcut : ((p : Int) ∈ cutl m l) ↔ S = false := by
      unfold cutl
      rw [coll_mem]
      have hb : bg l p = true ↔ S = true := by
        rw [hl p hpn, hS]
        constructor
        · rintro ⟨x, a, b, d⟩
          have := (hp.cls x p a hpn (hp.low x a a)).2 d
          exact ⟨x, a, b, by omega⟩
        · rintro ⟨x, a, b, d⟩
          exact ⟨x, a, b, (hp.cls x p a hpn (hp.low x a a)).1 (by omega)⟩
      constructor
      · rintro ⟨q, a, _, b, d⟩
        have : p = q := by omega
        subst this
        cases hS' : S with
        | false => rfl
        | true => have := hb.2 hS'; rw [this] at d; cases d
      · intro h
        refine ⟨p, rfl, Nat.zero_le _, by omega, ?_⟩
        cases hb' : bg l p with
        | false => rfl
        | true => have := hb.1 hb'; rw [h] at this; cases this
    have hcl : (cutl m l).length ≤ 900 := Nat.le_trans (coll_len _ _ _) (by omega)
    have hmk' : ∀ q, q < m.1.length → gt (mk.set p ((c + 1 : Nat) : Int)) q = if (q : Int) ∈ R.take (i + 1) then (c : Int) + 1 else if gt of q < (c : Int) then gt of q + 1 else 0 := fun q hq => by
      rw [gt_set (by omega), hg q hq]
      by_cases e : q = p
      · subst e; rw [if_pos rfl, if_pos ((hstep _).2 (.inr rfl))]; omega
      · rw [if_neg e]
        have : ((q : Int) ∈ R.take (i + 1)) ↔ ((q : Int) ∈ R.take i) := by
          rw [hstep]; exact ⟨fun h => h.elim id (fun h => absurd (by omega) e), .inl⟩
        by_cases g : (q : Int) ∈ R.take i
        · rw [if_pos g, if_pos (this.2 g)]
        · rw [if_neg g, if_neg (fun h => g (this.1 h))]
    have go : ∀ airy' : Bool, (airy' = true ↔ ∃ x, x ∈ R.take (i + 1) ∧ surf m x.toNat = true) → law01_PlanParts_L2 1000 n1 f (rowsT of k m.1.length) (cutl m l) tot c airy' (if S = true then 0 else ((i + 1 : Nat) : Int)) ((i + 1 : Nat) : Int) m.1 m.2 (mk.set p ((c + 1 : Nat) : Int)) = some true := fun airy' h =>
      parts_row hm hp hl hc n1 tot ht S hS hR fin j f (i + 1) airy' _ (by omega) (by omega) h (by simp [hmk]) hmk'
    have two : ∀ airy' : Bool, (airy' = true ↔ ∃ x, x ∈ R.take (i + 1) ∧ surf m x.toNat = true) → (Option.bind (ref01_Has 1000 (cutl m l) p) fun r => bif r then law01_PlanParts_L2 1000 n1 f (rowsT of k m.1.length) (cutl m l) tot c airy' (W ((if S = true then 0 else (i : Int)) + 1)) (W ((i : Int) + 1)) m.1 m.2 (mk.set p (W ((c : Int) + 1))) else law01_PlanParts_L2 1000 n1 f (rowsT of k m.1.length) (cutl m l) tot c airy' (if S = true then 0 else (i : Int)) (W ((i : Int) + 1)) m.1 m.2 (mk.set p (W ((c : Int) + 1)))) = some true := fun airy' h => by
      have g := go airy' h
      rw [has_eq hcl, bind_some', W_succ (by omega), W_succ (by omega)]
      cases hS' : S with
      | true =>
        rw [decide_eq_false (by rw [hcut, hS']; simp), cond_false, if_pos rfl]
        rw [hS', if_pos rfl] at g; exact g
      | false =>
        rw [decide_eq_true (hcut.2 hS'), cond_true, if_neg (fun e => by cases e), W_succ (by omega)]
        rw [hS', if_neg (fun e => by cases e)] at g; exact g
    rw [law01_PlanParts_L2_succ, it (by rw [rowsT_len]; omega), Int.toNat_natCast, hrow, dt (by omega), it (by rw [rowsT_len]; omega), it (by omega), Int.toNat_natCast, hp0]
    simp only
    rw [df (by omega), df (by omega), it (by omega), Int.toNat_natCast]
    cases airy with
    | true =>
      rw [cond_true]
      obtain ⟨x, a, b⟩ := ha.1 rfl
      exact two true ⟨fun _ => ⟨x, (hstep x).2 (.inl a), b⟩, fun _ => rfl⟩
    | false =>
      rw [cond_false, it (by omega)]
      refine two _ ⟨fun h => ⟨p, (hstep _).2 (.inr rfl), by rw [Int.toNat_natCast]; exact h⟩, ?_⟩
      rintro ⟨x, a, b⟩
      rcases (hstep x).1 a with a | a
      · have := ha.2 ⟨x, a, b⟩; cases this
      · subst a; rw [Int.toNat_natCast] at b; exact b

theorem parts_open (hm : Vm m) (hp : Prt m m.1.length k of) {mk : List Int} (hl : mk.length = m.1.length) (hg : ∀ q, q < m.1.length → gt mk q = gt of q + 1) : ∀ (j f i : Nat), j + i = m.2.length → j < f → law01_PlanParts_L4 1000 f i m.1 m.2 mk = some true
  | 0, f + 1, i, hj, hf => by rw [law01_PlanParts_L4_succ, df (by omega), awake_true]; rfl
  | j + 1, f + 1, i, hj, hf => by
    have n2 := hm.k
    have ih := parts_open hm hp hl hg j f (i + 1) (by omega) (by omega)
    have hmem := getD_mem D_Road (show i < m.2.length by omega)
    have he := (hm.r _ hmem).1
    rw [law01_PlanParts_L4_succ, dt (by omega), it (by omega), Int.toNat_natCast, W_succ (by omega)]
    generalize m.2.getD i D_Road = r at hmem he ⊢
    unfold endE at he
    simp only
    cases ho : r.2.2.2.2.2.1 with
    | true => rw [Bool.not_true, cond_false]; exact ih
    | false =>
      have ha : Adj m r.1.toNat r.2.1.toNat := ⟨r, hmem, ho, .inl ⟨by omega, by omega⟩⟩
      have h1 := (hp.cls r.1.toNat r.2.1.toNat (by omega) (by omega) (hp.low _ (by omega) (by omega))).2 ((Cn.refl _).step ha)
      have g1 := hg r.1.toNat (by omega)
      have g2 := hg r.2.1.toNat (by omega)
      rw [Bool.not_false, cond_true, it (by omega), it (by omega), nf (show gt mk r.1.toNat = gt mk r.2.1.toNat by omega)]
      exact ih
theorem parts_marks (hm : Vm m) (hp : Prt m m.1.length k of) {mk : List Int} (hl : mk.length = m.1.length) (hg : ∀ q, q < m.1.length → gt mk q = gt of q + 1) : ∀ (j f i : Nat), j + i = m.1.length → j < f → law01_PlanParts_L3 1000 f i m.1 m.2 mk = some true
  | 0, f + 1, i, hj, hf => by
    rw [law01_PlanParts_L3_succ, df (by omega)]
    exact parts_open hm hp hl hg m.2.length 1000 0 rfl (by have := hm.k; omega)
  | j + 1, f + 1, i, hj, hf => by
    have n1 := hm.n
    have h1 := hg i (by omega)
    have h2 := hp.low i (by omega) (by omega)
    rw [law01_PlanParts_L3_succ, dt (by omega), it (by omega), Int.toNat_natCast, W_succ (by omega), ef (show gt mk i ≠ 0 by omega)]
    exact parts_marks hm hp hl hg j f (i + 1) (by omega) (by omega)
open Classical in
theorem parts_all (hm : Vm m) (hp : Prt m m.1.length k of) (hl : ∀ q, q < m.1.length → (bg l q = true ↔ ∃ i, i < m.1.length ∧ surf m i = true ∧ Cn m i q)) : ∀ (j f c : Nat) (mk : List Int), j + c = k → j < f → mk.length = m.1.length → (∀ q, q < m.1.length → gt mk q = if gt of q < (c : Int) then gt of q + 1 else 0) →
    law01_PlanParts_L1 1000 f (rowsT of k m.1.length) (cutl m l) ((coll (below of c) m.1.length 0).length : Int) c m.1 m.2 mk = some true
  | 0, f + 1, c, mk, hj, hf, hmk, hg => by
    have : c = k := by omega
    subst this
    have hall : (coll (below of c) m.1.length 0).length = m.1.length := coll_all _ _ fun x _ hx => by
      unfold below; exact decide_eq_true (hp.val x (by omega))
    rw [law01_PlanParts_L1_succ, df (by rw [rowsT_len]; omega), hall, nf (by rw [hmk])]
    exact parts_marks hm hp hmk (fun q hq => by rw [hg q hq, if_pos (hp.val q hq)]) m.1.length 1000 0 rfl (by have := hm.n; omega)
  | j + 1, f + 1, c, mk, hj, hf, hmk, hg => by
    have n1 := hm.n
    have hk := hp.ki
    rw [law01_PlanParts_L1_succ, dt (by rw [rowsT_len]; omega)]
    have hadd : (coll (below of (c + 1)) m.1.length 0).length = (coll (below of c) m.1.length 0).length + (coll (cls of c) m.1.length 0).length := coll_add _ _ (fun x => by
      unfold below cls
      rw [decide_eq_true_iff, decide_eq_true_iff, beq_iff_eq]; omega) fun x => by
      unfold below cls
      rw [decide_eq_true_iff, beq_iff_eq]; omega
    have key := parts_row (of := of) (k := k) (l := l) hm hp hl (c := c) (by omega) f (coll (below of c) m.1.length 0).length (Nat.le_trans (coll_len _ _ _) (by omega)) (decide (∃ i, i < m.1.length ∧ surf m i = true ∧ gt of i = c)) decide_eq_true_iff rfl (fun mk2 h1 h2 => ?_) (coll (cls of c) m.1.length 0).length 1000 0 false mk rfl (by have := coll_len (cls of c) m.1.length 0; omega) ⟨fun h => (by cases h), fun ⟨x, a, _⟩ => by simp at a⟩ hmk (fun q hq => by rw [if_neg (by simp)]; exact hg q hq)
    · simp only [show ((0 : Nat) : Int) = 0 from rfl, ite_self] at key
      exact key
    · rw [← hadd]
      exact parts_all hm hp hl j f (c + 1) mk2 (by omega) (by omega) h1 h2
end parts

theorem planParts_eq {c : List Int} (h : ∀ a, a ∈ c → (Lit.int .u8 a).wf = true) (hl : c.length ≤ maxLen) : law01_PlanParts 1000 c = some true := by
  unfold law01_PlanParts
  obtain ⟨d, e, hd⟩ := new_spec 1000 h hl
  rw [e, bind_some']
  obtain ⟨m, d1, e1, hm, hd1⟩ := mine_spec hd
  simp only
  rw [e1, bind_some']
  have v := hm.vm
  have n1 := hm.n2
  obtain ⟨of, k, e2, hp⟩ := part_spec v
  have hk := hp.ki
  obtain ⟨l, c1, _, c3⟩ := cut_spec v
  simp only
  rw [parts_eq v e2 hp, bind_some', c1, bind_some', mkB_true (by omega), cond_true, Int.toNat_natCast]
  have := parts_all v hp c3 k 1000 0 (List.replicate m.1.length 0) rfl (by omega) (by simp) (fun q hq => by
    rw [if_neg (by have := hp.low q hq hq; omega)]
    unfold gt; rw [List.getD_eq_getElem?_getD, List.getElem?_replicate]; split <;> rfl)
  rw [coll_none (p := below of 0) _ _ (fun x => by
    unfold below
    by_cases hx : x < m.1.length
    · exact decide_eq_false (by have := hp.low x hx hx; omega)
    · refine decide_eq_false ?_
      have : gt of x = 0 := by unfold gt; rw [List.getD_eq_getElem?_getD, List.getElem?_eq_none (by have := hp.len; omega)]; rfl
      omega)] at this
  exact this

/-! ### PlanBack -/
def isRep (of : List Int) (i : Nat) : Bool := !(List.range i).any fun j => gt of j == gt of i
theorem isRep_iff (of : List Int) (i : Nat) : isRep of i = true ↔ ∀ j, j < i → gt of j ≠ gt of i := by
  unfold isRep
  rw [Bool.not_eq_true', List.any_eq_false]
  simp only [List.mem_range, beq_iff_eq]
theorem rep_len {m : T_Mine} {of : List Int} {k : Nat} (hp : Prt m m.1.length k of) : (coll (isRep of) m.1.length 0).length = k := by
  have key : ∀ i, i ≤ m.1.length → ∃ K, (coll (isRep of) i 0).length = K ∧ (∀ x, x < i → gt of x < K) ∧ (∀ c, c < K → ∃ x, x < i ∧ gt of x = (c : Int)) := by
    intro i
    induction i with
    | zero => exact fun _ => ⟨0, rfl, fun x hx => by omega, fun c hc => by omega⟩
    | succ i ih =>
      intro hi
      obtain ⟨K, h1, h2, h3⟩ := ih (by omega)
      have hl := hp.low i (by omega) (by omega)
      rw [coll_snoc, Nat.zero_add]
      by_cases hr : isRep of i = true
      · have hn := (isRep_iff of i).1 hr
        have hK : gt of i = K := by
          rcases Int.lt_trichotomy (gt of i) K with h | h | h
          · obtain ⟨x, a, b⟩ := h3 (gt of i).toNat (by omega)
            exact absurd (by omega) (hn x a)
          · exact h
          · obtain ⟨x, a, b⟩ := hp.can i (by omega) K h
            have := h2 x a; omega
        refine ⟨K + 1, by rw [if_pos hr, List.length_append, h1]; rfl, fun x hx => ?_, fun c hc => ?_⟩
        · by_cases e : x = i
          · subst e; omega
          · have := h2 x (by omega); omega
        · by_cases e : c = K
          · subst e; exact ⟨i, by omega, hK⟩
          · obtain ⟨x, a, b⟩ := h3 c (by omega); exact ⟨x, by omega, b⟩
      · refine ⟨K, by rw [if_neg hr, List.append_nil]; exact h1, fun x hx => ?_, fun c hc => ?_⟩
        · by_cases e : x = i
          · subst e
            have : ¬ ∀ j, j < x → gt of j ≠ gt of x := fun h => hr ((isRep_iff of x).2 h)
            obtain ⟨y, hy⟩ := Classical.not_forall.1 this
            obtain ⟨ha, hb⟩ := Classical.not_imp.1 hy
            have hb := Classical.not_not.1 hb
            have := h2 y ha; omega
          · exact h2 x (by omega)
        · obtain ⟨x, a, b⟩ := h3 c hc; exact ⟨x, by omega, b⟩
  obtain ⟨K, h1, h2, h3⟩ := key m.1.length (Nat.le_refl _)
  rw [h1]
  rcases Nat.lt_trichotomy K k with h | h | h
  · obtain ⟨x, a, b, c⟩ := hp.fst K h
    have := h2 x a; omega
  · exact h
  · obtain ⟨x, a, b⟩ := h3 k h
    have := hp.val x a; omega

theorem back_tail {a b : T_Mine} (ha : Vm a) (hb : Vm b) (hn : a.1 = b.1) (hA : ∀ i j, Adj a i j → Adj b i j) {l1 l2 : List Bool} (h1 : ∀ q, q < a.1.length → (bg l1 q = true ↔ ∃ i, i < a.1.length ∧ surf a i = true ∧ Cn a i q)) (h2 : ∀ q, q < b.1.length → (bg l2 q = true ↔ ∃ i, i < b.1.length ∧ surf b i = true ∧ Cn b i q)) :
    ∀ (j f i : Nat), j + i = (cutl b l2).length → j < f → law01_PlanBack_L1 1000 f (cutl a l1) (cutl b l2) i a.1 a.2 b.1 b.2 = some true := by
  have hC : ∀ i j, Cn a i j → Cn b i j := fun i j h => by
    induction h with
    | refl => exact .refl _
    | step _ x ih => exact ih.step (hA _ _ x)
  have n1 := ha.n
  have n2 := hb.n
  have hl1 : (cutl a l1).length ≤ 64 := Nat.le_trans (coll_len _ _ _) n1
  have hl2 : (cutl b l2).length ≤ 64 := Nat.le_trans (coll_len _ _ _) n2
  intro j
  induction j with
  | zero =>
    intro f i hj hf
    obtain ⟨f, rfl⟩ : ∃ g, f = g + 1 := ⟨f - 1, by omega⟩
    obtain ⟨of1, k1, e1, p1⟩ := part_spec ha
    obtain ⟨of2, k2, e2, p2⟩ := part_spec hb
    have hle : k2 ≤ k1 := by
      rw [← rep_len p1, ← rep_len p2, hn]
      refine coll_mono _ _ fun x _ hx hr => ?_
      rw [isRep_iff] at hr ⊢
      intro y hy e
      have hx : x < b.1.length := by omega
      have c := (p1.cls x y (by rw [hn]; exact hx) (by rw [hn]; omega) (p1.low x (by rw [hn]; exact hx) (by rw [hn]; exact hx))).1 e
      exact hr y hy ((p2.cls x y hx (by omega) (p2.low x hx hx)).2 (hC _ _ c))
    rw [law01_PlanBack_L1_succ, df (by omega), show ((a.1, a.2) : T_Mine) = a from rfl, show ((b.1, b.2) : T_Mine) = b from rfl, parts_eq ha e1 p1, bind_some', parts_eq hb e2 p2, bind_some', rowsT_len, rowsT_len, dt (by omega), awake_true]
    rfl
  | succ j ih =>
    intro f i hj hf
    obtain ⟨f, rfl⟩ : ∃ g, f = g + 1 := ⟨f - 1, by omega⟩
    have hil : i < (cutl b l2).length := by omega
    rw [law01_PlanBack_L1_succ, dt (by omega), it (by omega), Int.toNat_natCast, has_eq (by omega), bind_some', W_succ (by omega), bnot_t (decide_eq_true ?_)]
    · exact ih f (i + 1) (by omega) (by omega)
    · obtain ⟨q, e, _, hq, hb2⟩ := (coll_mem _ _).1 (getD_mem (0 : Int) hil)
      have hq : q < b.1.length := by omega
      refine (coll_mem _ _).2 ⟨q, e, Nat.zero_le _, by rw [hn]; omega, ?_⟩
      cases hx : bg l1 q with
      | false => rfl
      | true =>
        obtain ⟨x, x1, x2, x3⟩ := (h1 q (by rw [hn]; exact hq)).1 hx
        have : bg l2 q = true := (h2 q hq).2 ⟨x, by rw [← hn]; exact x1, by unfold surf at x2 ⊢; rw [← hn]; exact x2, hC _ _ x3⟩
        rw [this] at hb2; cases hb2
theorem clos_ok {n : Int} {r : T_Road} (h : ¬ endE n r ∧ ¬ rngE r) (c : Bool) : ¬ endE n (clos r c) ∧ ¬ rngE (clos r c) := h
theorem vm_set {m : T_Mine} (hm : Vm m) {i : Nat} {r : T_Road} (h : ¬ endE m.1.length r ∧ ¬ rngE r) : Vm (m.1, m.2.set i r) := ⟨hm.n, by simpa using hm.k, hm.p, fun x hx => by
  rcases List.mem_or_eq_of_mem_set hx with hx | rfl
  · exact hm.r x hx
  · exact h⟩
theorem appl_clos {m : T_Mine} (hm : Vm m) {i : Nat} (hi : i < m.2.length) {c : Bool} (hc : (m.2.getD i D_Road).2.2.2.2.2.1 = !c) {e : Int} (he : e = 3 ∨ e = 4) (hec : (e == 3) = c) (p : T_Place) (r : T_Road) (s : Int × Int) : appl m (e, p, r, (i : Int), s) = ((m.1, m.2.set i (clos (m.2.getD i D_Road) c)), 0) := by
  have hr : roadE (e, p, r, (i : Int), s) (m.2.getD i D_Road) = some (clos (m.2.getD i D_Road) c) := by
    unfold roadE
    simp only
    rw [if_neg (by omega), if_neg (by omega), if_neg (by rw [hc, hec]; cases c <;> simp), hec]
  have := road_do (m := m) (e := (e, p, r, (i : Int), s)) hm (by show (3 : Int) ≤ e; omega) (by show e ≤ (6 : Int); omega) (by show 0 ≤ (i : Int) ∧ (i : Int) < m.2.length; omega) (r := clos (m.2.getD i D_Road) c) (by simp only [Int.toNat_natCast]; exact hr) (by simp only [Int.toNat_natCast]; exact vm_set hm (clos_ok (hm.r _ (getD_mem _ hi)) c))
  simpa using this
theorem clos_adj {m : T_Mine} {i : Nat} (hi : i < m.2.length) (hc : (m.2.getD i D_Road).2.2.2.2.2.1 = true) (x y : Nat) (h : Adj m x y) : Adj (m.1, m.2.set i (clos (m.2.getD i D_Road) false)) x y := by
  obtain ⟨r, h1, h2, h3⟩ := h
  obtain ⟨q, hq, e⟩ := List.mem_iff_getElem.1 h1
  refine ⟨r, ?_, h2, h3⟩
  have hne : i ≠ q := by
    rintro rfl
    rw [List.getD_eq_getElem?_getD, List.getElem?_eq_getElem hi, Option.getD_some, e] at hc
    unfold open_ at h2; rw [h2] at hc; cases hc
  have : (m.2.set i (clos (m.2.getD i D_Road) false))[q]? = some r := by rw [List.getElem?_set_ne hne, List.getElem?_eq_getElem hq, e]
  exact List.mem_of_getElem? this
theorem open_adj {m : T_Mine} {i : Nat} (hi : i < m.2.length) (hc : (m.2.getD i D_Road).2.2.2.2.2.1 = false) (x y : Nat) (h : Adj (m.1, m.2.set i (clos (m.2.getD i D_Road) true)) x y) : Adj m x y := by
  obtain ⟨r, h1, h2, h3⟩ := h
  rcases List.mem_or_eq_of_mem_set h1 with h1 | rfl
  · exact ⟨r, h1, h2, h3⟩
  · unfold open_ clos at h2; cases h2
theorem set_back {m : T_Mine} {i : Nat} (hi : i < m.2.length) {c : Bool} (hc : (m.2.getD i D_Road).2.2.2.2.2.1 = !c) : (m.2.set i (clos (m.2.getD i D_Road) c)).set i (clos ((m.2.set i (clos (m.2.getD i D_Road) c)).getD i D_Road) (!c)) = m.2 := by
  have e : (m.2.set i (clos (m.2.getD i D_Road) c)).getD i D_Road = clos (m.2.getD i D_Road) c := by
    rw [List.getD_eq_getElem?_getD, List.getElem?_set_self hi]; rfl
  rw [e, List.set_set]
  have e2 : clos (clos (m.2.getD i D_Road) c) (!c) = m.2[i] := by
    rw [← hc]
    show m.2.getD i D_Road = _
    rw [List.getD_eq_getElem?_getD, List.getElem?_eq_getElem hi]; rfl
  rw [e2, List.set_getElem_self]
theorem back_go {m : T_Mine} (hm : Mk m) {i : Nat} (hi : i < m.2.length) {c : Bool} (hc : (m.2.getD i D_Road).2.2.2.2.2.1 = !c) {e e' : Int} (he : e = if c = true then 3 else 4) (he' : e' = if c = true then 4 else 3) : law01_PlanBack_J1 1000 i e e' m.1 m.2 = some true := by
  have v := hm.vm
  have n1 := v.n
  have n2 := v.k
  have ec : (e == 3) = c := by rw [he]; cases c <;> rfl
  have ec' : (e' == 3) = !c := by rw [he']; cases c <;> rfl
  have hx : Vm (m.1, m.2.set i (clos (m.2.getD i D_Road) c)) := vm_set v (clos_ok (v.r _ (getD_mem _ hi)) c)
  have hg : ((m.2.set i (clos (m.2.getD i D_Road) c)).getD i D_Road).2.2.2.2.2.1 = !(!c) := by
    rw [List.getD_eq_getElem?_getD, List.getElem?_set_self hi, Bool.not_not]; rfl
  rw [law01_PlanBack_J1_eq, show ((m.1, m.2) : T_Mine) = m from rfl, apply_eq, bind_some', appl_clos v hi hc (by rw [he]; cases c <;> simp) ec, apply_eq, bind_some']
  simp only
  rw [appl_clos (m := (m.1, m.2.set i (clos (m.2.getD i D_Road) c))) hx (by simpa using hi) hg (by rw [he']; cases c <;> simp) ec']
  simp only
  rw [nf rfl, nf rfl, set_back hi hc, show ((m.1, m.2) : T_Mine) = m from rfl, same_refl (by omega) (by omega), bind_some', Bool.not_true, cond_false, law01_PlanBack_J2_eq]
  obtain ⟨la, a1, _, a3⟩ := cut_spec v
  obtain ⟨lb, b1, _, b3⟩ := cut_spec hx
  cases c with
  | true =>
    rw [ef (by rw [he]; decide), b1, bind_some', show ((m.1, m.2) : T_Mine) = m from rfl, a1, bind_some']
    exact back_tail hx v rfl (fun x y h => open_adj hi hc x y h) b3 a3 _ 1000 0 rfl (by have := coll_len (fun q => !bg la q) m.1.length 0; unfold cutl; omega)
  | false =>
    rw [et (by rw [he]; rfl), show ((m.1, m.2) : T_Mine) = m from rfl, a1, bind_some', b1, bind_some']
    exact back_tail v hx rfl (fun x y h => clos_adj hi hc x y h) a3 b3 _ 1000 0 rfl (by have := coll_len (fun q => !bg lb q) m.1.length 0; unfold cutl; show (coll _ m.1.length 0).length - 0 < 1000; omega)
theorem planBack_eq {c : List Int} (h : ∀ a, a ∈ c → (Lit.int .u8 a).wf = true) (hl : c.length ≤ maxLen) (rd : Int) : law01_PlanBack 1000 c rd = some true := by
  unfold law01_PlanBack
  obtain ⟨d, e, hd⟩ := new_spec 1000 h hl
  rw [e, bind_some']
  obtain ⟨m, d1, e1, hm, hd1⟩ := mine_spec hd
  simp only
  rw [e1, bind_some']
  have n1 := hm.n2
  have n2 := hm.r2
  simp only
  by_cases h0 : (m.2.length : Int) = 0
  · rw [et h0, awake_true]; rfl
  rw [ef h0, mod_eq _ _ _ (by omega), bind_some']
  obtain ⟨g1, g2⟩ := modS_range (n := rd) (m := m.2.length) (by omega)
  generalize modS rd m.2.length = x at g1 g2
  obtain ⟨i, rfl⟩ := Int.eq_ofNat_of_zero_le g1
  rw [it (by omega), Int.toNat_natCast]
  cases hc : (m.2.getD i D_Road).2.2.2.2.2.1 with
  | true => rw [cond_true]; exact back_go hm (by omega) (c := false) hc rfl rfl
  | false => rw [cond_false]; exact back_go hm (by omega) (c := true) hc rfl rfl
theorem planParts_any (dargs : List DV) (h : TyAs [(false, [.sl [.it .u8]])] dargs) : CallOK Try.prog 7 dargs [] 0 (B true) [] 0 :=
  law_any (law01_PlanParts_pure 1000) (fun x hx => planParts_eq hx.2 hx.1) rfl dargs h
theorem planBack_any (dargs : List DV) (h : TyAs [(false, [.sl [.it .u8]]), (false, [.it .i64])] dargs) : CallOK Try.prog 6 dargs [] 0 (B true) [] 0 :=
  law_any (law01_PlanBack_pure 1000) (fun x hx => planBack_eq hx.1.2 hx.1.1 _) rfl dargs h
end Go.Proofs.Ytdmggkpefjpknaa
