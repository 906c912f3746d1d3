/- Walk: the program's way, place by place. No condition of its own. -/
import Derived.Test.YtihgpillkgndbaaWx
set_option linter.all false
namespace Go.Proofs.Ytihgpillkgndbaa
open Go.Pv M

def dir (r : T_Road) (p : Int) : Bool := r.1 != p
theorem dir_true {r : T_Road} {p : Int} : dir r p = true ↔ r.1 ≠ p := bne_iff_ne
/-- A road that leads on. -/
def hit (m : T_Mine) (y : List T_Span) (p : Int) (r : T_Road) : Prop := (r.1 = p ∨ r.2.1 = p) ∧ 0 ≤ tw pq m.1 r (dir r p) ∧ (gp y (enB r (dir r p))).1 < 1099511627776 ∧ gp y p = cst m.1 y (r, dir r p)
instance (m : T_Mine) (y : List T_Span) (p : Int) (r : T_Road) : Decidable (hit m y p r) := inferInstanceAs (Decidable (_ ∧ _ ∧ _ ∧ _))
/-- The first road that leads on, and where to. -/
def fnd (m : T_Mine) (y : List T_Span) (p : Int) : List T_Road → Nat → Option (Int × Int)
  | [], _ => none
  | r :: rs, k => if hit m y p r then some ((k : Int), enB r (dir r p)) else fnd m y p rs (k + 1)
/-- The roads of a place. -/
def rdl (p : Int) : List T_Road → Nat → List Int
  | [], _ => []
  | r :: rs, k => if r.1 = p ∨ r.2.1 = p then (k : Int) :: rdl p rs (k + 1) else rdl p rs (k + 1)
theorem rdl_len (p : Int) : ∀ (rs : List T_Road) (k : Nat), (rdl p rs k).length ≤ rs.length
  | [], _ => Nat.le_refl _
  | r :: rs, k => by
    have := rdl_len p rs (k + 1)
    simp only [rdl]; split <;> simp only [List.length_cons] <;> omega
theorem fnd_some {m : T_Mine} {y : List T_Span} {p : Int} : ∀ (rs : List T_Road) (k : Nat) (q : Int × Int), fnd m y p rs k = some q → ∃ i, i < rs.length ∧ q.1 = ((k + i : Nat) : Int) ∧ hit m y p (rs.getD i D_Road) ∧ q.2 = enB (rs.getD i D_Road) (dir (rs.getD i D_Road) p)
  | [], _, _, h => by cases h
  | r :: rs, k, q, h => by
    rw [fnd] at h
    by_cases c : hit m y p r
    · rw [if_pos c] at h; injection h with h; subst h
      exact ⟨0, by simp, rfl, c, rfl⟩
    · rw [if_neg c] at h
      obtain ⟨i, h1, h2, h3, h4⟩ := fnd_some rs (k + 1) q h
      exact ⟨i + 1, by simpa using h1, by rw [h2]; omega, by simpa using h3, by simpa using h4⟩
theorem fnd_ex {m : T_Mine} {y : List T_Span} {p : Int} : ∀ (rs : List T_Road) (k : Nat), (∃ r, r ∈ rs ∧ hit m y p r) → ∃ q, fnd m y p rs k = some q
  | [], _, h => by obtain ⟨r, h, _⟩ := h; cases h
  | r :: rs, k, h => by
    rw [fnd]
    by_cases c : hit m y p r
    · rw [if_pos c]; exact ⟨_, rfl⟩
    · rw [if_neg c]
      obtain ⟨r', h1, h2⟩ := h
      rcases List.mem_cons.1 h1 with rfl | h1
      · exact absurd h2 c
      · exact fnd_ex rs (k + 1) ⟨r', h1, h2⟩
theorem roads_loop (p : Int) (rs : List T_Road) (hr : rs.length ≤ 128) : ∀ (j f k : Nat) (o : List Int), j + k = rs.length → j < f → o.length ≤ k → plan_Roads_L1 1267650600228229401496703205376 f p rs rs.length k o = some (o ++ rdl p (rs.drop k) k)
  | j, 0, k, _, _, hf, _ => absurd hf (Nat.not_lt_zero _)
  | j, f + 1, k, o, hjk, hf, ho => by
    rw [plan_Roads_L1_succ]
    by_cases c : (k : Int) < rs.length
    · have hk : k < rs.length := by omega
      obtain ⟨j', rfl⟩ : ∃ j', j = j' + 1 := ⟨j - 1, by omega⟩
      rw [dt c, it (by omega), drop_cons D_Road hk, Int.toNat_natCast, W_succ (by omega), fitsB_true (by omega), cond_true, rdl]
      have ih1 := roads_loop p rs hr j' f (k + 1) (o ++ [(k : Int)]) (by omega) (by omega) (by simp; omega)
      have ih2 := roads_loop p rs hr j' f (k + 1) o (by omega) (by omega) (by omega)
      by_cases c1 : (rs.getD k D_Road).1 = p
      · rw [et c1, if_pos (.inl c1), ih1, List.append_assoc]; rfl
      · rw [ef c1]
        by_cases c2 : (rs.getD k D_Road).2.1 = p
        · rw [et c2, if_pos (.inr c2), ih1, List.append_assoc]; rfl
        · rw [ef c2, if_neg (by omega), ih2]
    · rw [df c, drop_nil (by omega)]; simp [rdl]
theorem roads_eq (m : T_Mine) (hr : m.2.length ≤ 128) (p : Int) : plan_Roads 1267650600228229401496703205376 m p = some (rdl p m.2 0) := by
  have := roads_loop p m.2 hr m.2.length 1267650600228229401496703205376 0 [] rfl (by omega) (by simp)
  rw [show ((0 : Nat) : Int) = 0 from rfl, List.drop_zero] at this
  exact this
theorem other_eq (N : Nat) {m : T_Mine} (hm : Vm m) {k : Nat} (hk : k < m.2.length) (p : Int) (h : (m.2.getD k D_Road).1 = p ∨ (m.2.getD k D_Road).2.1 = p) : plan_Other N m k p = some (enB (m.2.getD k D_Road) (dir (m.2.getD k D_Road) p)) := by
  have hv := hm.rv (getD_mem D_Road hk)
  unfold plan_Other
  rw [df (by omega), df (by omega), it (by omega), Int.toNat_natCast]
  generalize m.2.getD k D_Road = r at *
  simp only []
  have hn := hv.ne
  by_cases c : p = r.1
  · rw [et c, show dir r p = false by unfold dir; simp [c]]; rfl
  · rw [ef c, et (by omega), dir_true.2 (Ne.symm c)]; rfl
theorem way_find {m : T_Mine} (hm : Vm m) {to fr p : Int} {y : List T_Span} (hy : Wl m to y) (hp : 0 ≤ p ∧ p < m.1.length) (n4 : Nat) (L out : List Int) (hL : L.length ≤ 128) (ho : out.length ≤ 1000000000) : ∀ (j f i k : Nat), j + k = m.2.length → i ≤ L.length → L.length < i + f → L.drop i = rdl p (m.2.drop k) k →
    walk_Way_L5 1267650600228229401496703205376 n4 f fr to p (-1) L L.length i m.1 m.2 out y = match fnd m y p (m.2.drop k) k with
      | some q => walk_Way_L4 1267650600228229401496703205376 n4 fr to q.2 m.1 m.2 (out ++ [q.1]) y
      | none => some ([], 0, false) := by
  intro j
  induction j with
  | zero =>
    intro f i k hjk hi hf hd
    have hk : m.2.length ≤ k := by omega
    rw [drop_nil hk] at hd ⊢
    have hi : L.length ≤ i := List.drop_eq_nil_iff.1 hd
    obtain ⟨f', rfl⟩ : ∃ f', f = f' + 1 := ⟨f - 1, by omega⟩
    rw [walk_Way_L5_succ, df (by omega), dt (by omega)]; rfl
  | succ j ih =>
    intro f i k hjk hi hf hd
    have hk : k < m.2.length := by omega
    have hK := hm.k
    have hrm := getD_mem D_Road hk
    have hv := hm.rv hrm
    have hoth := fun N => other_eq N hm hk p
    have es := fun (b : Bool) => step_eq (N := 1267650600228229401496703205376) hm hk b
    rw [drop_cons D_Road hk] at hd ⊢
    have hgk : m.2.getD (Int.toNat (k : Int)) D_Road = m.2.getD k D_Road := by rw [Int.toNat_natCast]
    rw [rdl] at hd
    rw [fnd]
    by_cases c : (m.2.getD k D_Road).1 = p ∨ (m.2.getD k D_Road).2.1 = p
    · rw [if_pos c] at hd
      have hil : i < L.length := by
        rcases Nat.lt_or_ge i L.length with h | h
        · exact h
        · rw [drop_nil h] at hd; cases hd
      obtain ⟨f', rfl⟩ : ∃ f', f = f' + 1 := ⟨f - 1, by omega⟩
      rw [drop_cons 0 hil] at hd
      injection hd with hd1 hd2
      rw [walk_Way_L5_succ, dt (by omega), it (by omega), Int.toNat_natCast, hd1, hoth 1267650600228229401496703205376 c, bind_some', it (by omega), hgk]
      have ih' := ih f' (i + 1) (k + 1) (by omega) (by omega) (by omega) hd2
      generalize m.2.getD k D_Road = r at *
      have hd : (r.1 != p) = dir r p := rfl
      rw [hd, show walk_step 1267650600228229401496703205376 (m.1, m.2) k (dir r p) = _ from es (dir r p), bind_some', W_succ (by omega)]
      have hb := hv.eb (dir r p)
      have hl := hy.l
      have gb := hy.rc hm hb.1 hb.2
      have tq := tw_rng pq_ok (ps := m.1) hv.g (dir r p)
      by_cases c1 : tw pq m.1 r (dir r p) ≥ 0
      · rw [dt c1, it (by omega), show y.getD (enB r (dir r p)).toNat D_Span = gp y (enB r (dir r p)) from rfl]
        by_cases c2 : (gp y (enB r (dir r p))).1 < 1099511627776
        · rcases gb with g1 | g1
          · rw [g1] at c2; simp at c2
          rw [dt c2, it (by omega)]
          simp only []
          rw [it (by omega), it (by omega), show y.getD p.toNat D_Span = gp y p from rfl, W_eq (n := (gp y (enB r (dir r p))).1 + tw pq m.1 r (dir r p)) (by omega) (by omega), W_eq (n := (gp y (enB r (dir r p))).2 + 1) (by omega) (by omega)]
          by_cases c3 : hit m y p r
          · have e3 := c3.2.2.2
            have e4 : (gp y p).1 = (gp y (enB r (dir r p))).1 + tw pq m.1 r (dir r p) := by rw [e3]; rfl
            have e5 : (gp y p).2 = (gp y (enB r (dir r p))).2 + 1 := by rw [e3]; rfl
            rw [← e4, ← e5, beq_self_eq_true, beq_self_eq_true, Bool.and_true, cond_true, fitsB_true (by omega), cond_true, df (by omega), if_pos c3]
          · have e6 : ((gp y p).1 == (gp y (enB r (dir r p))).1 + tw pq m.1 r (dir r p) && (gp y p).2 == (gp y (enB r (dir r p))).2 + 1) = false := by
              rw [Bool.eq_false_iff]
              intro h
              rw [Bool.and_eq_true, beq_iff_eq, beq_iff_eq] at h
              exact c3 ⟨c, c1, c2, Prod.ext h.1 h.2⟩
            rw [e6, cond_false, if_neg c3]; exact ih'
        · rw [df c2, if_neg (fun h => c2 h.2.2.1)]; exact ih'
      · rw [df c1, if_neg (fun h => c1 h.2.1)]; exact ih'
    · rw [if_neg c] at hd
      rw [if_neg (fun h => c h.1)]
      exact ih f i (k + 1) (by omega) hi hf hd
/-- A way, by the first roads that lead on. -/
inductive Pth (m : T_Mine) (y : List T_Span) (to : Int) : Int → List Int → Prop
  | nil : Pth m y to to []
  | cons {p k b : Int} {l : List Int} : p ≠ to → fnd m y p m.2 0 = some (k, b) → Pth m y to b l → Pth m y to p (k :: l)
theorem fnd_to {m : T_Mine} (hm : Vm m) {y : List T_Span} {p k b : Int} (h : fnd m y p m.2 0 = some (k, b)) : ∃ i, i < m.2.length ∧ k = (i : Int) ∧ hit m y p (m.2.getD i D_Road) ∧ b = enB (m.2.getD i D_Road) (dir (m.2.getD i D_Road) p) ∧ (0 ≤ b ∧ b < m.1.length) ∧ enA (m.2.getD i D_Road) (dir (m.2.getD i D_Road) p) = p := by
  obtain ⟨i, h1, h2, h3, h4⟩ := fnd_some m.2 0 (k, b) h
  refine ⟨i, h1, by simpa using h2, h3, h4, ?_, ?_⟩
  · have := (hm.rv (getD_mem D_Road h1)).eb (dir (m.2.getD i D_Road) p)
    simp only at h4; omega
  · have hn := (hm.rv (getD_mem D_Road h1)).ne
    unfold enA
    split
    · rename_i c
      have := dir_true.1 c
      have := h3.1
      omega
    · rename_i c
      have : ¬ ((m.2.getD i D_Road).1 ≠ p) := fun h => c (dir_true.2 h)
      omega
theorem way_out {m : T_Mine} (hm : Vm m) {to fr : Int} {y : List T_Span} (hy : Wl m to y) (hfr : 0 ≤ fr ∧ fr < m.1.length) : ∀ (l : List Int) (p : Int), Pth m y to p l → 0 ≤ p ∧ p < m.1.length → ∀ (f : Nat) (out : List Int), l.length < f → out.length + l.length ≤ 1000000000 →
    walk_Way_L4 1267650600228229401496703205376 f fr to p m.1 m.2 out y = some (out ++ l, (gp y fr).1, true) := by
  intro l
  induction l with
  | nil =>
    intro p h hp f out hf ho
    obtain ⟨f', rfl⟩ : ∃ f', f = f' + 1 := ⟨f - 1, by omega⟩
    cases h
    rw [walk_Way_L4_succ, show (to != to) = false by simp, cond_false, it (by have := hy.l; omega), List.append_nil]; rfl
  | cons k l ih =>
    intro p h hp f out hf ho
    obtain ⟨f', rfl⟩ : ∃ f', f = f' + 1 := ⟨f - 1, by omega⟩
    cases h with
    | cons h1 h2 h3 =>
      rename_i b
      obtain ⟨i, _, _, _, _, hb, _⟩ := fnd_to hm h2
      have hK := hm.k
      have hl := rdl_len p m.2 0
      have := way_find hm (fr := fr) hy hp f' (rdl p m.2 0) out (by omega) (by simp only [List.length_cons] at ho; omega) m.2.length 1267650600228229401496703205376 0 0 rfl (by omega) (by omega) (by rw [List.drop_zero, List.drop_zero])
      rw [List.drop_zero, h2] at this
      rw [walk_Way_L4_succ, show (p != to) = true from bne_iff_ne.2 h1, cond_true, show plan_Roads 1267650600228229401496703205376 (m.1, m.2) p = _ from roads_eq m hK p, bind_some']
      refine Eq.trans this ?_
      simp only
      rw [ih b h3 hb f' (out ++ [k]) (by simpa using hf) (by simp only [List.length_append, List.length_cons, List.length_nil] at ho ⊢; omega), List.append_assoc]; rfl
theorem way_pth {m : T_Mine} (hm : Vm m) {to : Int} {y : List T_Span} (hy : Wl m to y) (hc : ClW m y) : ∀ (n : Nat) (p : Int), 0 ≤ p ∧ p < m.1.length → (gp y p).1 < 1099511627776 → (gp y p).2 = n → ∃ l, Pth m y to p l ∧ l.length = n := by
  intro n
  induction n with
  | zero =>
    intro p hp h1 h2
    by_cases e : p = to
    · subst e; exact ⟨[], .nil, rfl⟩
    · exfalso
      obtain ⟨e', p1, p2, p3, p4, p5⟩ := hy.w p hp.1 hp.2 e h1
      have hb := (hm.rv (mem_acs.1 p1)).eb e'.2
      have := hy.rc hm hb.1 hb.2
      have h6 := hc e' p1 p3 p4
      rw [p2] at h6
      have hcs : (cst m.1 y e').1 = (gp y (enB e'.1 e'.2)).1 + tw pq m.1 e'.1 e'.2 ∧ (cst m.1 y e').2 = (gp y (enB e'.1 e'.2)).2 + 1 := ⟨rfl, rfl⟩
      unfold lss at p5 h6
      rcases this with g | g
      · rw [g] at p4; simp at p4
      · omega
  | succ n ih =>
    intro p hp h1 h2
    have e : p ≠ to := by
      intro e; subst e
      rw [hy.z] at h2; simp only at h2; omega
    obtain ⟨e', p1, p2, p3, p4, p5⟩ := hy.w p hp.1 hp.2 e h1
    have hv := hm.rv (mem_acs.1 p1)
    have hn := hv.ne
    have h6 := hc e' p1 p3 p4
    rw [p2] at h6
    have hcs : (cst m.1 y e').1 = (gp y (enB e'.1 e'.2)).1 + tw pq m.1 e'.1 e'.2 ∧ (cst m.1 y e').2 = (gp y (enB e'.1 e'.2)).2 + 1 := ⟨rfl, rfl⟩
    have heq : gp y p = cst m.1 y e' := by
      unfold lss at p5 h6
      exact Prod.ext (by omega) (by omega)
    obtain ⟨r, b⟩ := e'
    have hdir : dir r p = b := by
      simp only at p2
      cases b with
      | true =>
        have : r.2.1 = p := p2
        exact dir_true.2 (by simp only at hn; omega)
      | false =>
        have : r.1 = p := p2
        unfold dir; simp [this]
    have hh : hit m y p r := by
      refine ⟨?_, by rw [hdir]; exact p3, by rw [hdir]; exact p4, by rw [hdir]; exact heq⟩
      cases b with
      | true => exact .inr p2
      | false => exact .inl p2
    obtain ⟨⟨k, b'⟩, hf⟩ := fnd_ex m.2 0 ⟨r, mem_acs.1 p1, hh⟩
    obtain ⟨i, q1, q2, q3, q4, q5, q6⟩ := fnd_to hm hf
    have e5 : (gp y p).2 = (gp y b').2 + 1 := by rw [q3.2.2.2, q4]; rfl
    obtain ⟨l, l1, l2⟩ := ih b' q5 (by rw [q4]; exact q3.2.2.1) (by omega)
    exact ⟨k :: l, .cons e hf l1, by simp [l2]⟩
/-- What Way returns. -/
structure Wy (m : T_Mine) (fr to : Int) (y : List T_Span) : Prop where
  i : itr (stW m.1) (acs m.2) 618970019642690137449562113 (st0 m.1.length to) = some y
  w : Wl m to y
  c : ClW m y
  g : (gp y fr).1 < 1099511627776 → ∃ l, Pth m y to fr l ∧ l.length ≤ 64000704 ∧ walk_Way 1267650600228229401496703205376 m fr to = some (l, (gp y fr).1, true)
  b : ¬ (gp y fr).1 < 1099511627776 → walk_Way 1267650600228229401496703205376 m fr to = some ([], 0, false)
theorem way_ok {m : T_Mine} (hm : Vm m) {fr to : Int} (hf : 0 ≤ fr ∧ fr < m.1.length) (ht : 0 ≤ to ∧ to < m.1.length) : ∃ y, Wy m fr to y := by
  have hN := hm.n
  obtain ⟨y, h1, h2, h3⟩ := way_itr hm (st0_wl ht) (n := 618970019642690137449562113) (by omega)
  obtain ⟨f', h4⟩ := way_rounds hm to fr _ 1267650600228229401496703205376 _ y (st0_wl ht) h1 (by omega)
  have h5 := way_init m.1 m.2 fr to m.1.length hN ht m.1.length 1267650600228229401496703205376 0 rfl (by omega)
  have h6 : walk_Way 1267650600228229401496703205376 m fr to = bif (decide ((gp y fr).1 ≥ 1099511627776)) then some ([], 0, false) else walk_Way_L4 1267650600228229401496703205376 1267650600228229401496703205376 fr to fr m.1 m.2 [] y := by
    unfold walk_Way
    rw [valid_eq, bind_some', (chk_zero m).2 hm]
    simp only [show ((0 : Int) == 0) = true from rfl, Bool.not_true, cond_false]
    rw [df (by omega), df (by omega), df (by omega), df (by omega), walk_Way_J1_eq 1267650600228229401496703205375, mkB_true (by omega), cond_true]
    simp only [Int.toNat_natCast, List.length_replicate]
    have h7 : walk_Way_L1 1267650600228229401496703205376 1267650600228229401496703205376 fr to m.1.length 0 m.1 m.2 (List.replicate m.1.length (0, 0)) = walk_Way_L2 1267650600228229401496703205376 1267650600228229401496703205376 fr to m.1 m.2 true (st0 m.1.length to) := h5
    refine Eq.trans h7 (h4.trans ?_)
    rw [walk_Way_L2_succ, cond_false, it (by have := h2.l; omega)]; rfl
  have hr := h2.rc hm hf.1 hf.2
  refine ⟨y, h1, h2, h3, fun hg => ?_, fun hg => ?_⟩
  · rcases hr with hr | hr
    · rw [hr] at hg; simp at hg
    · obtain ⟨l, l1, l2⟩ := way_pth hm h2 h3 (gp y fr).2.toNat fr hf hg (by omega)
      refine ⟨l, l1, by omega, ?_⟩
      rw [h6, df (by omega)]
      exact way_out hm h2 hf l fr l1 hf 1267650600228229401496703205376 [] (by omega) (by simp; omega)
  · rw [h6, dt (by omega)]
end Go.Proofs.Ytihgpillkgndbaa
