/- ReentryClear answers true for every input. No condition of its own. -/
import Derived.Test.YtlnilmcocbbohaaDc
set_option linter.all false
namespace Go.Proofs.Ytlnilmcocbbohaa
open Go.Pv M

theorem awake_eq : law36_awake 1000 = some true := by kernel_rfl

/-- What makes one road clear. -/
def okAt (roads : List Int) (l : List T_Span) (lim : Int) (high : List Int) (k : Nat) : Prop :=
  roads.getD k 0 < high.length ∧ high.getD (roads.getD k 0).toNat 0 ≤ lim ∧ (l.getD k D_Span).2 ≤ lim ∧ (l.getD k D_Span).1 ≤ (l.getD k D_Span).2

theorem clear_loop (N : Nat) (l : List T_Span) (roads : List Int) (wait lim : Int) (ft : Int) (high : List Int) (hl : l.length = roads.length) (hr : ∀ k, k < roads.length → 0 ≤ roads.getD k 0) (hlen : roads.length ≤ 1000) :
    ∀ (m n k : Nat), m + k = roads.length → m < n → ∃ b, reentry_Clear_L1 N n l roads (roads.length : Int) k wait lim roads ft high = some b ∧ (b = true ↔ ∀ j, k ≤ j → j < roads.length → okAt roads l lim high j)
  | 0, n + 1, k, hk, hn => by
    rw [reentry_Clear_L1_succ]
    have : ¬ ((k : Int) < (roads.length : Int)) := by omega
    simp only [this, decide_false, cond_false]
    exact ⟨true, rfl, by simp; intro j h1 h2; omega⟩
  | m + 1, n + 1, k, hk, hn => by
    rw [reentry_Clear_L1_succ]
    have hlt : (k : Int) < (roads.length : Int) := by omega
    have hrk := hr k (by omega)
    simp only [hlt, decide_true, cond_true, inB_true (show 0 ≤ (k : Int) ∧ (k : Int) < (roads.length : Nat) from ⟨by omega, by omega⟩), inB_true (show 0 ≤ (k : Int) ∧ (k : Int) < (l.length : Nat) from ⟨by omega, by omega⟩), Int.toNat_natCast]
    have fail : ¬ okAt roads l lim high k → ∃ b, (some false : Option Bool) = some b ∧ (b = true ↔ ∀ j, k ≤ j → j < roads.length → okAt roads l lim high j) := fun h =>
      ⟨false, rfl, ⟨fun e => (by cases e), fun hh => absurd (hh k (Nat.le_refl _) (by omega)) h⟩⟩
    by_cases c1 : roads.getD k 0 ≥ (high.length : Int)
    · simp only [c1, decide_true, cond_true]
      exact fail fun h => by have := h.1; omega
    · simp only [c1, decide_false, cond_false]
      rw [inB_true ⟨hrk, by omega⟩, cond_true]
      by_cases c2 : high.getD (roads.getD k 0).toNat 0 > lim
      · simp only [c2, decide_true, cond_true]
        exact fail fun h => by have := h.2.1; omega
      · simp only [c2, decide_false, cond_false]
        by_cases c3 : (l.getD k D_Span).2 > lim
        · simp only [c3, decide_true, cond_true]
          exact fail fun h => by have := h.2.2.1; omega
        · simp only [c3, decide_false, cond_false]
          by_cases c4 : (l.getD k D_Span).1 > (l.getD k D_Span).2
          · simp only [c4, decide_true, cond_true]
            exact fail fun h => by have := h.2.2.2; omega
          · simp only [c4, decide_false, cond_false]
            rw [W_eq (by omega) (by omega), show (k : Int) + 1 = ((k + 1 : Nat) : Int) by omega]
            obtain ⟨b, e, hb⟩ := clear_loop N l roads wait lim ft high hl hr hlen m n (k + 1) (by omega) (by omega)
            refine ⟨b, e, hb.trans ⟨fun h j h1 h2 => ?_, fun h j h1 h2 => h j (by omega) h2⟩⟩
            by_cases hj : j = k
            · subst hj; exact ⟨by omega, by omega, by omega, by omega⟩
            · exact h j (by omega) h2

/-- Roads as the scene has them. -/
def Rd2 (roads : List Int) : Prop := roads = [0] ∨ roads = [0, 2]

theorem valid_eq {roads : List Int} (hr : Rd2 roads) {wait lim : Int} (h1 : 0 ≤ wait ∧ wait ≤ 1800) (h2 : 0 ≤ lim ∧ lim ≤ 1000) : reentry_Valid 1000 (wait, lim, roads) (0, 0, 0, 0) = some true := by
  have e : lists_Rising 1000 roads 0 127 = some true := by
    rcases hr with rfl | rfl <;> kernel_rfl
  have hn : ((roads.length : Int) == 0) = false := by rcases hr with rfl | rfl <;> rfl
  unfold reentry_Valid lists_In
  have a1 : wait ≥ 0 := by omega
  have a2 : wait ≤ 2147483648 := by omega
  have a3 : lim ≥ 0 := by omega
  have a4 : lim ≤ 1000000 := by omega
  simp only [a1, a2, a3, a4, decide_true, cond_true, bind_some', Bool.not_true, cond_false, hn, e]
  rw [reentry_Valid_J1_eq]
  rfl

theorem clear_spec {roads : List Int} (hr : Rd2 roads) {wait lim : Int} (h1 : 0 ≤ wait ∧ wait ≤ 1800) (h2 : 0 ≤ lim ∧ lim ≤ 1000) (ft : Int) (high : List Int) (l : List T_Span) (t : Int) :
    ∃ b, reentry_Clear 1000 (wait, lim, roads) (ft, high) l t = some b ∧ (b = true ↔ l.length = roads.length ∧ ft ≤ t ∧ ∀ j, j < roads.length → okAt roads l lim high j) := by
  unfold reentry_Clear
  rw [valid_eq hr h1 h2]
  simp only [bind_some', Bool.not_true, cond_false]
  by_cases c1 : l.length = roads.length
  · have e1 : ((l.length : Int) != (roads.length : Int)) = false := by simp [c1]
    simp only [e1, cond_false]
    by_cases c2 : ft > t
    · simp only [c2, decide_true, cond_true]
      exact ⟨false, rfl, ⟨fun e => (by cases e), fun h => by have := h.2.1; omega⟩⟩
    · simp only [c2, decide_false, cond_false]
      rw [reentry_Clear_J1_eq]
      have hr0 : ∀ k, k < roads.length → 0 ≤ roads.getD k 0 := by
        rcases hr with rfl | rfl
        · intro k hk; have : k = 0 := by simpa using hk
          subst this; decide
        · intro k hk
          have : k = 0 ∨ k = 1 := by simp at hk; omega
          rcases this with rfl | rfl <;> decide
      have hl2 : roads.length ≤ 2 := by rcases hr with rfl | rfl <;> simp
      obtain ⟨b, e, hb⟩ := clear_loop 1000 l roads wait lim ft high c1 hr0 (by omega) roads.length 1000 0 (by omega) (by omega)
      refine ⟨b, e, hb.trans ⟨fun h => ⟨c1, by omega, fun j hj => h j (Nat.zero_le _) hj⟩, fun h j _ hj => h.2.2 j hj⟩⟩
  · have e1 : ((l.length : Int) != (roads.length : Int)) = true := by
      simp only [bne_iff_ne, ne_eq]; omega
    simp only [e1, cond_true]
    exact ⟨false, rfl, ⟨fun e => (by cases e), fun h => absurd h.1 c1⟩⟩

/-! ### The scene -/
theorem scene_loop (wait lim : Int) (x14 x15 x16 ft : Int) (roads high : List Int) (hlen : roads.length ≤ 2) : ∀ (m n k : Nat) (d : T_Dice) (l : List T_Span), Dk d → m + k = roads.length → m < n → l.length = k → (∀ s, s ∈ l → -5 ≤ s.1 ∧ s.1 ≤ 40 ∧ 20 ≤ s.2 ∧ s.2 ≤ 31) → 0 < roads.length →
    ∃ (l' : List T_Span) (d' : T_Dice), law36_scene_L1 1000 n (roads.length : Int) k d.1 d.2 x14 x15 x16 wait lim roads ft high l = some (((wait, lim, roads), (ft, high), l'), d') ∧ Dk d' ∧ l'.length = roads.length ∧ (∀ s, s ∈ l' → -1125899906842624 ≤ s.1 ∧ s.1 ≤ 1125899906842624 ∧ -1125899906842624 ≤ s.2 ∧ s.2 ≤ 1125899906842624)
  | 0, n + 1, k, d, l, hd, hk, hn, hl, hs, hp => by
    rw [law36_scene_L1_succ]
    have : ¬ ((k : Int) < (roads.length : Int)) := by omega
    simp only [this, decide_false, cond_false]
    obtain ⟨b, d', e, hd'⟩ := one_spec 1000 hd (n := 8) (by omega) (by omega)
    rw [e, bind_some']
    cases b with
    | true =>
      simp only [cond_true]
      rw [inB_true (by omega), cond_true]
      refine ⟨_, _, rfl, hd', by simp; omega, fun s hss => ?_⟩
      rcases List.mem_or_eq_of_mem_set hss with h | rfl
      · have := hs s h; omega
      · exact ⟨by decide, by decide, by decide, by decide⟩
    | false => exact ⟨_, _, rfl, hd', by omega, fun s hss => by have := hs s hss; omega⟩
  | m + 1, n + 1, k, d, l, hd, hk, hn, hl, hs, hp => by
    rw [law36_scene_L1_succ]
    have hlt : (k : Int) < (roads.length : Int) := by omega
    simp only [hlt, decide_true, cond_true]
    obtain ⟨v, d1, e1, m1, hd1⟩ := of_spec 1000 hd [0, 10, -5, 40] (by decide) (by decide)
    rw [show ((d.1, d.2) : T_Dice) = d from rfl, e1, bind_some']
    obtain ⟨u, d2, e2, m2, hd2⟩ := of_spec 1000 hd1 [30, 20, 31, 20] (by decide) (by decide)
    simp only
    rw [e2, bind_some', fitsB_true (by omega), cond_true, W_eq (by omega) (by omega), show (k : Int) + 1 = ((k + 1 : Nat) : Int) by omega]
    refine scene_loop wait lim x14 x15 x16 ft roads high hlen m n (k + 1) d2 _ hd2 (by omega) (by omega) (by simp [hl]) (fun s hss => ?_) hp
    rcases List.mem_append.1 hss with h | h
    · exact hs s h
    · rw [List.mem_singleton.1 h]
      simp only [List.mem_cons, List.not_mem_nil, or_false] at m1 m2
      simp only
      omega

/-- What the scene gives. -/
structure Sc (wait lim : Int) (roads : List Int) (ft : Int) (high : List Int) (l : List T_Span) : Prop where
  w : 0 ≤ wait ∧ wait ≤ 1800
  m : lim = 30
  r : Rd2 roads
  t : 0 ≤ ft ∧ ft ≤ 2000
  h : high.length ≤ 3 ∧ ∀ x, x ∈ high → 0 ≤ x ∧ x ≤ 500
  l : l.length = roads.length ∧ ∀ s, s ∈ l → -1125899906842624 ≤ s.1 ∧ s.1 ≤ 1125899906842624 ∧ -1125899906842624 ≤ s.2 ∧ s.2 ≤ 1125899906842624

theorem scene_spec {d : T_Dice} (hd : Dk d) : ∃ wait lim roads ft high l d', law36_scene 1000 d = some (((wait, lim, roads), (ft, high), l), d') ∧ Dk d' ∧ Sc wait lim roads ft high l := by
  unfold law36_scene
  obtain ⟨w, d1, e1, m1, hd1⟩ := of_spec 1000 hd [100, 0, 1800] (by decide) (by decide)
  rw [e1, bind_some']
  obtain ⟨a, d2, e2, a1, a2, hd2⟩ := next_spec 1000 hd1 (n := 2) (by omega) (by omega)
  simp only
  rw [e2, bind_some']
  simp only
  rw [W_eq (n := 1 + a) (by omega) (by omega), slB_true (by simp; omega), cond_true]
  obtain ⟨ft, d3, e3, m3, hd3⟩ := of_spec 1000 hd2 [0, 50, 2000] (by decide) (by decide)
  rw [e3, bind_some']
  obtain ⟨p, d4, e4, m4, hd4⟩ := of_spec 1000 hd3 [10, 30, 31] (by decide) (by decide)
  simp only
  rw [e4, bind_some']
  obtain ⟨q, d5, e5, m5, hd5⟩ := of_spec 1000 hd4 [30, 0, 90] (by decide) (by decide)
  simp only
  rw [e5, bind_some']
  obtain ⟨c, d6, e6, c1, c2, hd6⟩ := next_spec 1000 hd5 (n := 6) (by omega) (by omega)
  simp only
  rw [e6, bind_some']
  simp only
  have hc : c.tdiv 5 = 0 ∨ c.tdiv 5 = 1 := by
    have : c = 0 ∨ c = 1 ∨ c = 2 ∨ c = 3 ∨ c = 4 ∨ c = 5 := by omega
    rcases this with rfl | rfl | rfl | rfl | rfl | rfl <;> decide
  rw [W_eq (n := c.tdiv 5) (by omega) (by omega), W_eq (n := 3 - c.tdiv 5) (by omega) (by omega), slB_true (by simp; omega), cond_true]
  simp only [List.mem_cons, List.not_mem_nil, or_false] at m1 m3 m4 m5
  have hroads : Rd2 ([0, 2].take (1 + a).toNat) := by
    have : a = 0 ∨ a = 1 := by omega
    rcases this with rfl | rfl
    · exact .inl rfl
    · exact .inr rfl
  have hl2 : 0 < ([0, 2].take (1 + a).toNat : List Int).length ∧ ([0, 2].take (1 + a).toNat : List Int).length ≤ 2 := by
    rcases hroads with h | h <;> rw [h] <;> simp
  obtain ⟨l, d7, e7, hd7, hl, hs⟩ := scene_loop w 30 0 0 0 ft ([0, 2].take (1 + a).toNat) ([p, 500, q].take (3 - c.tdiv 5).toNat) hl2.2 _ 1000 0 d6 [] hd6 (Nat.add_zero _) (by omega) rfl (fun s h => by cases h) hl2.1
  refine ⟨_, _, _, _, _, _, _, e7, hd7, ⟨by omega, rfl, hroads, by omega, ⟨by simp; omega, fun x hx => ?_⟩, ⟨hl, hs⟩⟩⟩
  have := List.mem_of_mem_take hx
  simp only [List.mem_cons, List.not_mem_nil, or_false] at this
  omega

/-! ### Less is measured, and less is given -/
theorem low_loop (x7 : List T_Span) (x8 : Int) (x9 : Bool) (x13 x14 : Int) (x15 : List Int) (x16 : Int) (high : List Int) (x18 : Int) (Q : Option Bool → Prop) (hh : high.length ≤ 3 ∧ ∀ x, x ∈ high → 0 ≤ x ∧ x ≤ 500)
    (fin : ∀ (d : T_Dice) (low : List Int), Dk d → low.length = high.length → (∀ j, j < high.length → low.getD j 0 ≤ high.getD j 0) → Q (law36_ReentryClear_L2 1000 1000 x7 x8 x9 0 d.1 d.2 x13 x14 x15 x16 high x18 low [])) :
    ∀ (m n k : Nat) (d : T_Dice) (low : List Int), Dk d → m + k = high.length → m < n → low.length = k → (∀ j, j < k → low.getD j 0 ≤ high.getD j 0) → Q (law36_ReentryClear_L1 1000 n x7 x8 x9 k d.1 d.2 x13 x14 x15 x16 high x18 low)
  | 0, n + 1, k, d, low, hd, hk, hn, hl, hlow => by
    rw [law36_ReentryClear_L1_succ]
    have : ¬ ((k : Int) < (high.length : Int)) := by omega
    simp only [this, decide_false, cond_false]
    exact fin d low hd (by omega) fun j hj => hlow j (by omega)
  | m + 1, n + 1, k, d, low, hd, hk, hn, hl, hlow => by
    rw [law36_ReentryClear_L1_succ]
    have hlt : (k : Int) < (high.length : Int) := by omega
    have hkl : k < high.length := by omega
    simp only [hlt, decide_true, cond_true, inB_true (show 0 ≤ (k : Int) ∧ (k : Int) < (high.length : Nat) from ⟨by omega, hlt⟩)]
    obtain ⟨v, d1, e1, r1, r2, hd1⟩ := next_spec 1000 hd (n := 20) (by omega) (by omega)
    rw [show ((d.1, d.2) : T_Dice) = d from rfl, e1, bind_some', fitsB_true (by omega), cond_true, W_eq (by omega) (by omega), show (k : Int) + 1 = ((k + 1 : Nat) : Int) by omega]
    have hx := hh.2 (high.getD k 0) (by rw [List.getD_eq_getElem?_getD, List.getElem?_eq_getElem hkl]; exact List.getElem_mem hkl)
    simp only [Int.toNat_natCast]
    rw [W_eq (n := high.getD k 0 - v) (by omega) (by omega)]
    refine low_loop x7 x8 x9 x13 x14 x15 x16 high x18 Q hh fin m n (k + 1) d1 _ hd1 (by omega) (by omega) (by simp [hl]) fun j hj => ?_
    by_cases hjk : j < k
    · have := hlow j hjk
      simp only [List.getD_eq_getElem?_getD] at this ⊢
      rw [List.getElem?_append_left (by omega)]; exact this
    · have : j = k := by omega
      subst this
      simp only [List.getD_eq_getElem?_getD]
      rw [List.getElem?_append_right (by omega), hl]
      simp only [Nat.sub_self, List.getElem?_cons_zero, Option.getD_some]
      simp only [List.getD_eq_getElem?_getD] at hx ⊢
      omega

theorem span_loop {wait : Int} {roads : List Int} {ft : Int} {high : List Int} {l : List T_Span} (sc : Sc wait 30 roads ft high l) {low : List Int} (hll : low.length = high.length) (hlow : ∀ j, j < high.length → low.getD j 0 ≤ high.getD j 0) {t : Int} (ht : 2000 ≤ t ∧ t ≤ 2100) {clear : Bool}
    (hclear : clear = true ↔ l.length = roads.length ∧ ft ≤ t ∧ ∀ j, j < roads.length → okAt roads l 30 high j) :
    ∀ (m n k : Nat) (d : T_Dice) (lower : List T_Span), Dk d → m + k = l.length → m < n → lower.length = k → (∀ j, j < k → (lower.getD j D_Span).2 ≤ (l.getD j D_Span).2 ∧ ((l.getD j D_Span).1 ≤ (l.getD j D_Span).2 → (lower.getD j D_Span).1 ≤ (lower.getD j D_Span).2)) → law36_ReentryClear_L2 1000 n l t clear k d.1 d.2 wait 30 roads ft high ft low lower = some true
  | 0, n + 1, k, d, lower, hd, hk, hn, hl, hq => by
    rw [law36_ReentryClear_L2_succ]
    have : ¬ ((k : Int) < (l.length : Int)) := by omega
    simp only [this, decide_false, cond_false]
    obtain ⟨v, d1, e1, r1, r2, hd1⟩ := next_spec 1000 hd (n := 100) (by omega) (by omega)
    rw [show ((d.1, d.2) : T_Dice) = d from rfl, e1, bind_some', awake_eq, bind_some', cond_true]
    have hr1 : 0 < roads.length := by rcases sc.r with h | h <;> rw [h] <;> simp
    have none1 : ∃ b, reentry_Clear 1000 (wait, 30, roads) (ft, high) [] t = some b ∧ b = false := by
      obtain ⟨b, e, hb⟩ := clear_spec sc.r sc.w (lim := 30) (by omega) ft high [] t
      refine ⟨b, e, ?_⟩
      cases b with
      | false => rfl
      | true => have := (hb.1 rfl).1; simp at this; omega
    obtain ⟨b0, e0, rfl⟩ := none1
    cases clear with
    | false =>
      simp only [Bool.not_false, cond_true]
      rw [e0]; rfl
    | true =>
      simp only [Bool.not_true, cond_false]
      obtain ⟨_, c2, c3⟩ := hclear.1 rfl
      obtain ⟨b1, q1, hb1⟩ := clear_spec sc.r sc.w (lim := 30) (by omega) ft low l t
      have t1 : b1 = true := hb1.2 ⟨sc.l.1, c2, fun j hj => by
        obtain ⟨o1, o2, o3, o4⟩ := c3 j hj
        refine ⟨by omega, ?_, o3, o4⟩
        have hr0 : 0 ≤ roads.getD j 0 := by
          rcases sc.r with h | h <;> rw [h] at hj ⊢
          · have : j = 0 := by simpa using hj
            subst this; decide
          · have : j = 0 ∨ j = 1 := by simp at hj; omega
            rcases this with rfl | rfl <;> decide
        have := hlow (roads.getD j 0).toNat (by omega)
        omega⟩
      rw [q1, bind_some', t1, cond_true]
      obtain ⟨b2, q2, hb2⟩ := clear_spec sc.r sc.w (lim := 30) (by omega) ft high lower t
      have t2 : b2 = true := hb2.2 ⟨by rw [hl, ← sc.l.1]; omega, c2, fun j hj => by
        obtain ⟨o1, o2, o3, o4⟩ := c3 j hj
        have := hq j (by have := sc.l.1; omega)
        exact ⟨o1, o2, by omega, this.2 o4⟩⟩
      rw [q2, bind_some', t2, cond_true, W_eq (by omega) (by omega), W_eq (by omega) (by omega)]
      obtain ⟨b3, q3, hb3⟩ := clear_spec sc.r sc.w (lim := 30 + v) (by omega) ft high l (t + 5)
      have t3 : b3 = true := hb3.2 ⟨sc.l.1, by omega, fun j hj => by
        obtain ⟨o1, o2, o3, o4⟩ := c3 j hj
        exact ⟨o1, by omega, by omega, o4⟩⟩
      rw [q3, bind_some', t3, cond_true, e0]; rfl
  | m + 1, n + 1, k, d, lower, hd, hk, hn, hl, hq => by
    rw [law36_ReentryClear_L2_succ]
    have hlt : (k : Int) < (l.length : Int) := by omega
    have hkl : k < l.length := by omega
    have hll2 : l.length ≤ 2 := by rw [sc.l.1]; rcases sc.r with h | h <;> rw [h] <;> simp
    simp only [hlt, decide_true, cond_true, inB_true (show 0 ≤ (k : Int) ∧ (k : Int) < (l.length : Nat) from ⟨by omega, hlt⟩)]
    obtain ⟨v, d1, e1, r1, r2, hd1⟩ := next_spec 1000 hd (n := 20) (by omega) (by omega)
    rw [show ((d.1, d.2) : T_Dice) = d from rfl, e1, bind_some', fitsB_true (by omega), cond_true, W_eq (n := (k : Int) + 1) (by omega) (by omega), show (k : Int) + 1 = ((k + 1 : Nat) : Int) by omega]
    have hx := sc.l.2 (l.getD k D_Span) (by rw [List.getD_eq_getElem?_getD, List.getElem?_eq_getElem hkl]; exact List.getElem_mem hkl)
    simp only [Int.toNat_natCast]
    rw [W_eq (n := (l.getD k D_Span).1 - 50) (by omega) (by omega), W_eq (n := (l.getD k D_Span).2 - v) (by omega) (by omega)]
    refine span_loop sc hll hlow ht hclear m n (k + 1) d1 _ hd1 (by omega) (by omega) (by simp [hl]) fun j hj => ?_
    by_cases hjk : j < k
    · have := hq j hjk
      simp only [List.getD_eq_getElem?_getD] at this ⊢
      rw [List.getElem?_append_left (by omega)]; exact this
    · have : j = k := by omega
      subst this
      have e : (lower ++ [((l.getD j D_Span).1 - 50, (l.getD j D_Span).2 - v)]).getD j D_Span = ((l.getD j D_Span).1 - 50, (l.getD j D_Span).2 - v) := by
        rw [List.getD_eq_getElem?_getD, List.getElem?_append_right (by omega), hl]; simp
      rw [e]
      exact ⟨by show _ - v ≤ _; omega, fun h => by show _ - 50 ≤ _ - v; omega⟩

theorem law_true (t : List Int) : law36_ReentryClear 1000 t = some true := by
  unfold law36_ReentryClear
  rw [light_eq, bind_some']
  by_cases h : (t.length : Int) ≤ 400
  · simp only [h, decide_true, Bool.not_true, cond_false]
    rw [roll_spec, bind_some']
    obtain ⟨wait, lim, roads, ft, high, l, d1, e1, hd1, sc⟩ := scene_spec (roll_ok (l := t) (by omega))
    obtain rfl := sc.m
    simp only
    rw [e1, bind_some']
    obtain ⟨v, d2, e2, r1, r2, hd2⟩ := next_spec 1000 hd1 (n := 100) (by omega) (by omega)
    simp only
    rw [e2, bind_some']
    simp only
    rw [W_eq (by omega) (by omega)]
    obtain ⟨b, e3, hb⟩ := clear_spec sc.r sc.w (lim := 30) (by omega) ft high l (2000 + v)
    rw [e3, bind_some']
    refine low_loop l (2000 + v) b wait 30 roads ft high ft (fun x => x = some true) sc.h (fun d low hd hll hlow => ?_) high.length 1000 0 d2 [] hd2 (by omega) (by have := sc.h.1; omega) rfl (fun j hj => by omega)
    have hll2 : l.length ≤ 2 := by rw [sc.l.1]; rcases sc.r with h | h <;> rw [h] <;> simp
    exact span_loop sc hll hlow ⟨by omega, by omega⟩ hb l.length 1000 0 d [] hd (by omega) (by omega) rfl (fun j hj => by omega)
  · simp only [h, decide_false, Bool.not_false, cond_true]
    rw [awake_eq]; rfl

theorem reentryClear_any (dargs : List DV) (h : TyAs [(false, [.sl [.it .i64]])] dargs) : CallOK Try.prog 3 dargs [] 0 (B true) [] 0 :=
  law_any (law36_ReentryClear_pure 1000) (fun x _ => law_true x) rfl dargs h
end Go.Proofs.Ytlnilmcocbbohaa
