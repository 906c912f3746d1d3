/- plan.part: the numbers of the parts. No condition of its own. -/
import Derived.Test.YtdmggkpefjpknaaPh
set_option linter.all false
namespace Go.Proofs.Ytdmggkpefjpknaa
open Go.Pv M

/-- The parts that begin below place i, k of them. -/
structure Prt (m : T_Mine) (i k : Nat) (of : List Int) : Prop where
  len : of.length = m.1.length
  val : ∀ j, j < m.1.length → gt of j < k
  low : ∀ j, j < i → j < m.1.length → 0 ≤ gt of j
  cls : ∀ j l, j < m.1.length → l < m.1.length → 0 ≤ gt of j → (gt of l = gt of j ↔ Cn m j l)
  fst : ∀ c, c < k → ∃ j, j < i ∧ j < m.1.length ∧ gt of j = c
  can : ∀ j, j < m.1.length → ∀ c : Nat, (c : Int) < gt of j → ∃ j', j' < j ∧ gt of j' = c
  ki : k ≤ i

theorem neg_le (of : List Int) : neg of ≤ of.length := List.countP_le_length

theorem part_loop {m : T_Mine} (hm : Vm m) {near : List (List Int)} (hN : NearOf m near) : ∀ (j f i k : Nat) (of : List Int), j + i = m.1.length → j < f → Prt m i k of →
    ∃ (of' : List Int) (k' : Nat), plan_part_L2 1000 f near k m.1.length i of = some (of', (k' : Int)) ∧ Prt m m.1.length k' of'
  | 0, f + 1, i, k, of, hj, hf, hp => by
    have : i = m.1.length := by omega
    subst this
    rw [plan_part_L2_succ, df (by omega)]
    exact ⟨of, k, rfl, hp⟩
  | j + 1, f + 1, i, k, of, hj, hf, hp => by
    have n1 := hm.n
    have hi : i < m.1.length := by omega
    have hl := hp.len
    have hki := hp.ki
    rw [plan_part_L2_succ, dt (by omega), it (by omega), Int.toNat_natCast, show of.getD i 0 = gt of i from rfl]
    by_cases h : gt of i ≥ 0
    · rw [dt h, W_succ (by omega)]
      exact part_loop hm hN j f (i + 1) k of (by omega) (by omega) ⟨hl, hp.val, fun q h1 h2 => if e : q = i then by subst e; exact h else hp.low q (by omega) h2, hp.cls, fun c hc => by obtain ⟨q, a, b⟩ := hp.fst c hc; exact ⟨q, by omega, b⟩, hp.can, by omega⟩
    · have hneg : gt of i < 0 := by omega
      rw [df h, it (by omega)]
      have hs := neg_set (x := (k : Int)) (by omega : i < of.length) hneg (by omega)
      have hg : ∀ q, gt (of.set i k) q = if q = i then (k : Int) else gt of q := gt_set (by omega)
      have h0 : ∀ q, q < m.1.length → 0 ≤ gt of q → ∀ l, Adj m q l → 0 ≤ gt of l := fun q h1 h2 l ha => by
        have := (hp.cls q l h1 (ha.lt hm).2 h2).2 ((Cn.refl q).step ha)
        omega
      have key := dfs_loop (of0 := of) (i := i) (k := k) hm hN (by omega) f m.1.length h0 (by omega) (neg (of.set i k) + 1) 1000 (of.set i k) [(i : Int)] rfl (by have := neg_le of; omega) (by have := neg_le of; omega) ⟨by simp [hl], fun q h1 h2 => ?_, fun q h1 h2 => ?_, fun q h1 h2 h3 => ?_, fun t ht => ?_, fun q h1 h2 h3 => ?_, ?_⟩
      · obtain ⟨of', e, d⟩ := key
        rw [e]
        have dn : ∀ q, q < m.1.length → gt of' q = k → gt of q < 0 := fun q h1 h2 => by
          by_cases hq : gt of q < 0
          · exact hq
          · have := d.old q h1 (by omega); have := hp.val q h1; omega
        have cl : ∀ q l, Cn m q l → q < m.1.length → gt of' q = k → gt of' l = k := by
          intro q l hc hq1
          induction hc with
          | refl => exact id
          | @step b c hb a ih =>
            intro hk
            have hbk := ih hk
            have hbl := hb.lt hm hq1
            have hcl := (a.lt hm).2
            rcases d.prc b hbl (dn b hbl hbk) hbk with h | h | h
            · cases h
            · exact h.elim
            · have h1 := h c a
              by_cases hc0 : gt of c < 0
              · rcases d.new c hcl hc0 with h2 | h2
                · exact h2
                · omega
              · have h2 := h0 c hcl (by omega) b a.symm
                have := dn b hbl hbk
                omega
        have dcs : ∀ q, q < m.1.length → 0 ≤ gt of' q → (gt of' q = k ∧ gt of q < 0) ∨ (0 ≤ gt of q ∧ gt of' q = gt of q) := fun q h1 h2 => by
          by_cases hq : gt of q < 0
          · rcases d.new q h1 hq with h3 | h3
            · exact .inl ⟨h3, hq⟩
            · omega
          · exact .inr ⟨by omega, d.old q h1 (by omega)⟩
        refine part_loop hm hN j f (i + 1) (k + 1) of' (by omega) (by omega) ⟨d.len, fun q h1 => ?_, fun q h1 h2 => ?_, fun q l h1 h2 h3 => ?_, fun c hc => ?_, fun q h1 c hc => ?_, by omega⟩
        · by_cases hq : 0 ≤ gt of' q
          · rcases dcs q h1 hq with ⟨a, _⟩ | ⟨_, a⟩
            · omega
            · have := hp.val q h1; omega
          · omega
        · by_cases e : q = i
          · subst e; rw [d.rt]; omega
          · have := hp.low q (by omega) h2
            rw [d.old q h2 this]; exact this
        · rcases dcs q h1 h3 with ⟨a, b⟩ | ⟨a, b⟩
          · rw [a]
            exact ⟨fun hl => (d.con q h1 b a).symm.trans (d.con l h2 (dn l h2 hl) hl), fun hc => cl q l hc h1 a⟩
          · rw [b]
            constructor
            · intro hl
              have hvq := hp.val q h1
              by_cases hlo : 0 ≤ gt of l
              · rw [d.old l h2 hlo] at hl
                exact (hp.cls q l h1 h2 a).1 hl
              · rcases d.new l h2 (by omega) with h4 | h4 <;> omega
            · intro hc
              have h4 := (hp.cls q l h1 h2 a).2 hc
              rw [d.old l h2 (by omega)]; exact h4
        · by_cases e : c = k
          · subst e; exact ⟨i, by omega, hi, d.rt⟩
          · obtain ⟨q, a, b, g⟩ := hp.fst c (by omega)
            exact ⟨q, by omega, b, by rw [d.old q b (by omega)]; exact g⟩
        · rcases dcs q h1 (by omega) with ⟨a, b⟩ | ⟨a, b⟩
          · obtain ⟨q', x1, x2, x3⟩ := hp.fst c (by omega)
            refine ⟨q', ?_, by rw [d.old q' x2 (by omega)]; exact x3⟩
            by_cases hlt : q' < q
            · exact hlt
            · have := hp.low q (by omega) h1; omega
          · obtain ⟨q', x1, x2⟩ := hp.can q h1 c (by omega)
            exact ⟨q', x1, by rw [d.old q' (by omega) (by omega)]; exact x2⟩
      · rw [hg, if_neg (by rintro rfl; omega)]
      · rw [hg]; split
        · exact .inl rfl
        · exact .inr h2
      · rw [hg] at h3
        by_cases e : q = i
        · subst e; exact .refl _
        · rw [if_neg e] at h3; omega
      · exact ⟨i, List.mem_singleton.1 ht, hi, by rw [hg, if_pos rfl], hneg⟩
      · rw [hg] at h3
        by_cases e : q = i
        · subst e; exact .inl (by simp)
        · rw [if_neg e] at h3; omega
      · rw [hg, if_pos rfl]

theorem minus_loop {n : Nat} (hn : n ≤ 64) (near : List (List Int)) : ∀ (j f i : Nat) (of : List Int), j + i = n → j < f → of.length = n → (∀ q, q < i → gt of q = -1) →
    ∃ of', plan_part_L1 1000 f near n i of = plan_part_L2 1000 1000 near 0 n 0 of' ∧ of'.length = n ∧ ∀ q, q < n → gt of' q = -1
  | 0, f + 1, i, of, hj, hf, hl, hq => by
    rw [plan_part_L1_succ, df (by omega), hl]
    exact ⟨of, rfl, hl, fun q h => hq q (by omega)⟩
  | j + 1, f + 1, i, of, hj, hf, hl, hq => by
    rw [plan_part_L1_succ, dt (by omega), it (by omega), W_succ (by omega), Int.toNat_natCast]
    refine minus_loop hn near j f (i + 1) _ (by omega) (by omega) (by simp [hl]) fun q h => ?_
    rw [gt_set (by omega)]
    split
    · rfl
    · exact hq q (by omega)

theorem part_spec {m : T_Mine} (hm : Vm m) : ∃ of k, plan_part 1000 m = some (of, ((k : Nat) : Int)) ∧ Prt m m.1.length k of := by
  have n1 := hm.n
  unfold plan_part
  obtain ⟨near, e, hN⟩ := near_of hm
  rw [e, bind_some', mkB_true (by omega), cond_true]
  simp only
  rw [Int.toNat_natCast, List.length_replicate]
  obtain ⟨of', e1, h1, h2⟩ := minus_loop n1 near m.1.length 1000 0 (List.replicate m.1.length 0) rfl (by omega) (by simp) (fun q h => by omega)
  rw [show ((0 : Nat) : Int) = 0 from rfl] at e1
  rw [e1]
  obtain ⟨of2, k2, e2, h3⟩ := part_loop hm hN m.1.length 1000 0 0 of' rfl (by omega) ⟨h1, fun j hj => by rw [h2 j hj]; omega, fun j hj => by omega, fun j l hj _ h0 => by rw [h2 j hj] at h0; omega, fun c hc => by omega, fun j hj c hc => by rw [h2 j hj] at hc; omega, Nat.le_refl _⟩
  exact ⟨of2, k2, e2, h3⟩
end Go.Proofs.Ytdmggkpefjpknaa
