/- The reference's rules, and the law RuleChecks: plain models. No condition of its own. -/
import Derived.Test.YthfejkflhpifnaaDoorM
import Derived.Test.YthfejkflhpifnaaDoorPxN
set_option linter.all false
namespace Go.Proofs.YthfejkflhpifnaaDoor
open Go.Pv M

inductive Tr where
  | c (k : Int)
  | n (a : Tr)
  | b (o : Bool) (x y : Tr)
namespace Tr
def sz : Tr → Nat
  | .c _ => 1
  | .n a => a.sz + 1
  | .b _ x y => x.sz + y.sz + 1
def dp : Tr → Nat
  | .c _ => 1
  | .n a => a.dp + 1
  | .b _ x y => max x.dp y.dp + 1
def kd (o : Bool) : Int := bif o then 4 else 3
def fl : Tr → Nat → List T_RuleNode
  | .c k, _ => [(1, (k, (0, 0)))]
  | .n a, p => a.fl p ++ [(2, (0, (((p + a.sz : Nat) : Int) - 1, 0)))]
  | .b o x y, p => x.fl p ++ (y.fl (p + x.sz) ++ [(kd o, (0, (((p + x.sz : Nat) : Int) - 1, ((p + x.sz + y.sz : Nat) : Int) - 1)))])
def wf : Tr → Prop
  | .c k => 0 ≤ k ∧ k < 64
  | .n a => a.wf
  | .b _ x y => x.wf ∧ y.wf
theorem sz_pos : ∀ t : Tr, 0 < t.sz
  | .c _ => Nat.zero_lt_one
  | .n a => Nat.succ_pos _
  | .b _ x y => Nat.succ_pos _
theorem dp_le : ∀ t : Tr, t.dp ≤ t.sz
  | .c _ => Nat.le_refl _
  | .n a => Nat.succ_le_succ a.dp_le
  | .b _ x y => by
    have := x.dp_le
    have := y.dp_le
    simp only [dp, sz]; omega
theorem fl_len : ∀ (t : Tr) (p : Nat), (t.fl p).length = t.sz
  | .c _, _ => rfl
  | .n a, p => by simp [fl, sz, fl_len a]
  | .b _ x y, p => by simp [fl, sz, fl_len x, fl_len y]; omega
theorem kd_cases (o : Bool) : kd o = 3 ∨ kd o = 4 := by cases o; exact .inl rfl; exact .inr rfl
end Tr

def Seg (l : List T_RuleNode) (b m : Nat) : List T_RuleNode := (l.drop b).take m
theorem seg_add (l : List T_RuleNode) (b m k : Nat) : Seg l b (m + k) = Seg l b m ++ Seg l (b + m) k := by
  unfold Seg; rw [List.take_add, List.drop_drop]
theorem seg_one {l : List T_RuleNode} {b : Nat} (h : b < l.length) : Seg l b 1 = [l.getD b D_RuleNode] := by
  unfold Seg
  rw [List.drop_eq_getElem_cons h, List.take_succ_cons, List.take_zero, List.getD_eq_getElem?_getD, List.getElem?_eq_getElem h]
  rfl
theorem seg_len {l : List T_RuleNode} {b m : Nat} (h : b + m ≤ l.length) : (Seg l b m).length = m := by
  unfold Seg; simp; omega
def At (l : List T_RuleNode) (t : Tr) (b : Nat) : Prop := b + t.sz ≤ l.length ∧ Seg l b t.sz = t.fl b
theorem at_c {l : List T_RuleNode} {k : Int} {b : Nat} : At l (.c k) b ↔ b < l.length ∧ l.getD b D_RuleNode = (1, (k, (0, 0))) := by
  constructor
  · rintro ⟨h1, h2⟩
    have h1 : b < l.length := h1
    refine ⟨h1, ?_⟩
    have h2 : Seg l b 1 = [(1, (k, (0, 0)))] := h2
    rw [seg_one h1] at h2
    exact (List.cons.inj h2).1
  · rintro ⟨h1, h2⟩
    refine ⟨h1, ?_⟩
    show Seg l b 1 = [(1, (k, (0, 0)))]
    rw [seg_one h1, h2]
theorem at_n {l : List T_RuleNode} {a : Tr} {b : Nat} : At l (.n a) b ↔ At l a b ∧ b + a.sz < l.length ∧ l.getD (b + a.sz) D_RuleNode = (2, (0, (((b + a.sz : Nat) : Int) - 1, 0))) := by
  constructor
  · rintro ⟨h1, h2⟩
    have h1 : b + (a.sz + 1) ≤ l.length := h1
    have h2 : Seg l b (a.sz + 1) = a.fl b ++ [(2, (0, (((b + a.sz : Nat) : Int) - 1, 0)))] := h2
    rw [seg_add, seg_one (by omega)] at h2
    obtain ⟨h3, h4⟩ := List.append_inj h2 (by rw [seg_len (by omega), Tr.fl_len])
    exact ⟨⟨by omega, h3⟩, by omega, (List.cons.inj h4).1⟩
  · rintro ⟨⟨h1, h2⟩, h3, h4⟩
    refine ⟨by show b + (a.sz + 1) ≤ l.length; omega, ?_⟩
    show Seg l b (a.sz + 1) = a.fl b ++ [(2, (0, (((b + a.sz : Nat) : Int) - 1, 0)))]
    rw [seg_add, seg_one h3, h2, h4]
theorem at_b {l : List T_RuleNode} {o : Bool} {x y : Tr} {b : Nat} : At l (.b o x y) b ↔ At l x b ∧ At l y (b + x.sz) ∧ b + x.sz + y.sz < l.length ∧ l.getD (b + x.sz + y.sz) D_RuleNode = (Tr.kd o, (0, (((b + x.sz : Nat) : Int) - 1, ((b + x.sz + y.sz : Nat) : Int) - 1))) := by
  constructor
  · rintro ⟨h1, h2⟩
    have h1 : b + (x.sz + y.sz + 1) ≤ l.length := h1
    have h2 : Seg l b (x.sz + y.sz + 1) = x.fl b ++ (y.fl (b + x.sz) ++ [(Tr.kd o, (0, (((b + x.sz : Nat) : Int) - 1, ((b + x.sz + y.sz : Nat) : Int) - 1)))]) := h2
    rw [Nat.add_assoc x.sz, seg_add, seg_add, seg_one (by omega)] at h2
    obtain ⟨h3, h4⟩ := List.append_inj h2 (by rw [seg_len (by omega), Tr.fl_len])
    obtain ⟨h5, h6⟩ := List.append_inj h4 (by rw [seg_len (by omega), Tr.fl_len])
    exact ⟨⟨by omega, h3⟩, ⟨by omega, h5⟩, by omega, (List.cons.inj h6).1⟩
  · rintro ⟨⟨h1, h2⟩, ⟨h3, h4⟩, h5, h6⟩
    refine ⟨by show b + (x.sz + y.sz + 1) ≤ l.length; omega, ?_⟩
    show Seg l b (x.sz + y.sz + 1) = x.fl b ++ (y.fl (b + x.sz) ++ [(Tr.kd o, (0, (((b + x.sz : Nat) : Int) - 1, ((b + x.sz + y.sz : Nat) : Int) - 1)))])
    rw [Nat.add_assoc x.sz, seg_add, seg_add, seg_one h5, h2, h4, h6]
theorem at_fl (t : Tr) : At (t.fl 0) t 0 := by
  refine ⟨by rw [Tr.fl_len]; omega, ?_⟩
  unfold Seg
  rw [List.drop_zero, List.take_of_length_le (by rw [Tr.fl_len]; omega)]
theorem at_end {l : List T_RuleNode} {t : Tr} (h : At l t 0) (hl : l.length = t.sz) : l = t.fl 0 := by
  have := h.2
  unfold Seg at this
  rwa [List.drop_zero, List.take_of_length_le (by omega)] at this

/-! ### part of the program -/
theorem part_fl (N : Nat) {l : List T_RuleNode} (hl : l.length ≤ 64) : ∀ (t : Tr) (b n : Nat), At l t b → t.wf → t.dp ≤ n → rule_part_M N n l (((b + t.sz : Nat) : Int) - 1) = some ((b : Int), ((t.dp : Int), true))
  | .c k, b, 0, _, _, h => absurd h (by simp [Tr.dp])
  | .n a, b, 0, _, _, h => absurd h (by simp [Tr.dp])
  | .b o x y, b, 0, _, _, h => absurd h (by simp [Tr.dp])
  | .c k, b, n + 1, hA, hw, _ => by
    obtain ⟨h1, h2⟩ := at_c.1 hA
    obtain ⟨w1, w2⟩ : 0 ≤ k ∧ k < 64 := hw
    have e : ((b + (Tr.c k).sz : Nat) : Int) - 1 = (b : Int) := by simp [Tr.sz]
    rw [e, rule_part_M_succ]
    unfold rule_part_R
    rw [decide_eq_false (by omega), cond_false, inB_true (by omega), cond_true, Int.toNat_natCast]
    dsimp only
    rw [h2]
    simp [w1, w2, Tr.dp]
  | .n a, b, n + 1, hA, hw, hn => by
    obtain ⟨h0, h1, h2⟩ := at_n.1 hA
    have e : ((b + (Tr.n a).sz : Nat) : Int) - 1 = ((b + a.sz : Nat) : Int) := by simp [Tr.sz]; omega
    have ih := part_fl N hl a b n h0 hw (by simpa [Tr.dp] using hn)
    have hd : a.dp ≤ 64 := by have := a.dp_le; omega
    rw [e, rule_part_M_succ]
    unfold rule_part_R
    rw [decide_eq_false (by omega), cond_false, inB_true (by omega), cond_true, Int.toNat_natCast]
    dsimp only
    rw [h2, W_eq (by omega) (by omega), ih]
    simp [Tr.dp, W_eq (n := (a.dp : Int) + 1) (by omega) (by omega)]
  | .b o x y, b, n + 1, hA, hw, hn => by
    obtain ⟨h0, h0', h1, h2⟩ := at_b.1 hA
    have e : ((b + (Tr.b o x y).sz : Nat) : Int) - 1 = ((b + x.sz + y.sz : Nat) : Int) := by simp [Tr.sz]; omega
    have hn' : max x.dp y.dp ≤ n := by simpa [Tr.dp] using hn
    have ih := part_fl N hl y (b + x.sz) n h0' hw.2 (by omega)
    have ih2 := part_fl N hl x b n h0 hw.1 (by omega)
    have hd : x.dp ≤ 64 := by have := x.dp_le; omega
    have hd2 : y.dp ≤ 64 := by have := y.dp_le; omega
    have em : max (x.dp : Int) (y.dp : Int) = ((max x.dp y.dp : Nat) : Int) := by omega
    rw [e, rule_part_M_succ]
    unfold rule_part_R
    rw [decide_eq_false (by omega), cond_false, inB_true (by omega), cond_true, Int.toNat_natCast]
    dsimp only
    rw [h2, W_eq (n := ((b + x.sz + y.sz : Nat) : Int) - 1) (by omega) (by omega), ih]
    simp only [Option.bind_some]
    rw [W_eq (n := ((b + x.sz : Nat) : Int) - 1) (by omega) (by omega), ih2]
    simp only [Option.bind_some]
    rw [em, W_eq (n := ((max x.dp y.dp : Nat) : Int) + 1) (by omega) (by omega)]
    rcases Tr.kd_cases o with e | e <;> rw [e] <;> simp [Tr.dp]

/-- What a part that is right is. -/
def PS (l : List T_RuleNode) (j : Int) (f d : Int) : Prop := ∃ (t : Tr) (p : Nat), t.wf ∧ f = (p : Int) ∧ d = (t.dp : Int) ∧ At l t p ∧ j + 1 = ((p + t.sz : Nat) : Int)
theorem PS.bd {l : List T_RuleNode} {j : Int} {f d : Int} (h : PS l j f d) (hl : l.length ≤ 64) : 0 ≤ f ∧ f ≤ j ∧ 0 ≤ d ∧ d ≤ 64 := by
  obtain ⟨t, p, _, rfl, rfl, ⟨h1, _⟩, h2⟩ := h
  have := t.sz_pos
  have := t.dp_le
  omega
theorem PS.cI {l : List T_RuleNode} {i : Nat} {k : Int} (hi : i < l.length) (h0 : 0 ≤ k) (h1 : k < 64) (hv : l.getD i D_RuleNode = (1, (k, (0, 0)))) : PS l i i 1 :=
  ⟨.c k, i, ⟨h0, h1⟩, rfl, rfl, at_c.2 ⟨hi, hv⟩, by simp [Tr.sz]⟩
theorem PS.nI {l : List T_RuleNode} {i : Nat} {f d : Int} (h : PS l ((i : Int) - 1) f d) (hi : i < l.length) (hv : l.getD i D_RuleNode = (2, (0, ((i : Int) - 1, 0)))) : PS l i f (d + 1) := by
  obtain ⟨t, p, h1, h2, h3, h4, h5⟩ := h
  have e : i = p + t.sz := by omega
  refine ⟨.n t, p, h1, h2, by rw [h3]; simp [Tr.dp], at_n.2 ⟨h4, by omega, ?_⟩, by simp [Tr.sz]; omega⟩
  rw [← e]; exact hv
theorem PS.bI {l : List T_RuleNode} {i : Nat} {f d f2 d2 : Int} (o : Bool) (h : PS l ((i : Int) - 1) f d) (h' : PS l (f - 1) f2 d2) (hi : i < l.length) (hv : l.getD i D_RuleNode = (Tr.kd o, (0, (f - 1, (i : Int) - 1)))) : PS l i f2 (max d2 d + 1) := by
  obtain ⟨y, p, h1, h2, h3, h4, h5⟩ := h
  obtain ⟨x, p2, g1, g2, g3, g4, g5⟩ := h'
  have e : i = p + y.sz := by omega
  have e2 : p = p2 + x.sz := by omega
  refine ⟨.b o x y, p2, ⟨g1, h1⟩, g2, ?_, at_b.2 ⟨g4, e2 ▸ h4, by omega, ?_⟩, by simp [Tr.sz]; omega⟩
  · rw [g3, h3]; simp only [Tr.dp]; omega
  · rw [← e2, ← e, hv, h2]
theorem part_sound (N : Nat) {l : List T_RuleNode} (hl : l.length ≤ 64) : ∀ (n : Nat) (j : Int), -1 ≤ j → j < l.length → j + 1 < n → n ≤ 1000000000000000 → ∃ f d ok, rule_part_M N n l j = some (f, (d, ok)) ∧ (0 ≤ f ∧ f ≤ 64 ∧ 0 ≤ d ∧ d ≤ n) ∧ (ok = true → PS l j f d) := by
  intro n
  induction n with
  | zero => intro j h0 h1 h2; omega
  | succ n ih =>
    intro j h0 h1 h2 h3
    rw [rule_part_M_succ]
    unfold rule_part_R
    by_cases hj : j < 0
    · rw [decide_eq_true hj, cond_true]
      exact ⟨0, 0, false, rfl, by omega, fun h => by cases h⟩
    · obtain ⟨i, rfl⟩ : ∃ i : Nat, j = i := ⟨j.toNat, by omega⟩
      rw [decide_eq_false hj, cond_false, inB_true (by omega), cond_true, Int.toNat_natCast]
      dsimp only
      generalize hv : l.getD i D_RuleNode = v
      obtain ⟨kd, k, lf, rg⟩ := v
      dsimp only
      rw [W_eq (n := (i : Int) - 1) (by omega) (by omega)]
      obtain ⟨f, d, ok, e, hb, hs⟩ := ih ((i : Int) - 1) (by omega) (by omega) (by omega) (by omega)
      rw [e]
      simp only [Option.bind_some]
      rw [W_eq (n := d + 1) (by omega) (by omega)]
      by_cases k1 : kd = 1
      · subst k1
        have e1 : ((1 : Int) == 1) = true := rfl
        rw [e1, cond_true]
        by_cases q1 : lf = 0
        · by_cases q2 : rg = 0
          · by_cases q3 : k ≥ 0
            · subst q1; subst q2
              rw [show ((0 : Int) == 0) = true from rfl, cond_true, cond_true, decide_eq_true q3, cond_true]
              exact ⟨i, 1, _, rfl, by omega, fun h => PS.cI (by omega) q3 (of_decide_eq_true h) hv⟩
            · subst q1; subst q2
              rw [show ((0 : Int) == 0) = true from rfl, cond_true, cond_true, decide_eq_false q3, cond_false]
              exact ⟨i, 1, _, rfl, by omega, fun h => by cases h⟩
          · subst q1
            rw [show ((0 : Int) == 0) = true from rfl, cond_true, beq_false_of_ne q2, cond_false]
            exact ⟨i, 1, _, rfl, by omega, fun h => by cases h⟩
        · rw [beq_false_of_ne q1, cond_false]
          exact ⟨i, 1, _, rfl, by omega, fun h => by cases h⟩
      · rw [beq_false_of_ne k1, cond_false]
        by_cases k2 : kd = 2
        · subst k2
          rw [show ((2 : Int) == 2) = true from rfl, cond_true]
          cases ok with
          | false => exact ⟨f, d + 1, false, rfl, by omega, fun h => by cases h⟩
          | true =>
            rw [cond_true]
            by_cases q1 : k = 0
            · by_cases q2 : rg = 0
              · subst q1; subst q2
                refine ⟨f, d + 1, _, rfl, by omega, fun h => ?_⟩
                have h : lf = (i : Int) - 1 := eq_of_beq h
                subst h
                exact (hs rfl).nI (by omega) hv
              · subst q1
                rw [show ((0 : Int) == 0) = true from rfl, cond_true, beq_false_of_ne q2, cond_false]
                exact ⟨f, d + 1, _, rfl, by omega, fun h => by cases h⟩
            · rw [beq_false_of_ne q1, cond_false]
              exact ⟨f, d + 1, _, rfl, by omega, fun h => by cases h⟩
        · rw [beq_false_of_ne k2, cond_false]
          have two : ∀ (o : Bool), kd = Tr.kd o → ∃ f' d' ok', (bif (!ok) then some ((0 : Int), ((0 : Int), false)) else bif (k != 0) then some (0, (0, false)) else bif (rg != (i : Int) - 1) then some (0, (0, false)) else bif (lf != (W (f - 1))) then some (0, (0, false)) else
              Option.bind (rule_part_M N n l (W (f - 1))) fun r4 => some (r4.1, ((W ((max r4.2.1 d) + 1)), r4.2.2))) = some (f', (d', ok')) ∧ (0 ≤ f' ∧ f' ≤ 64 ∧ 0 ≤ d' ∧ d' ≤ (n + 1 : Nat)) ∧ (ok' = true → PS l i f' d') := by
            intro o ho
            cases ok with
            | false => exact ⟨0, 0, false, rfl, by omega, fun h => by cases h⟩
            | true =>
              have hps := hs rfl
              have hbd := hps.bd hl
              rw [Bool.not_true, cond_false]
              by_cases q1 : k = 0
              · by_cases q2 : rg = (i : Int) - 1
                · rw [W_eq (n := f - 1) (by omega) (by omega)]
                  by_cases q3 : lf = f - 1
                  · subst q1; subst q2; subst q3
                    obtain ⟨f2, d2, ok2, e2, hb2, hs2⟩ := ih (f - 1) (by omega) (by omega) (by omega) (by omega)
                    rw [show ((0 : Int) != 0) = false from rfl, cond_false, bne_self_eq_false, cond_false, bne_self_eq_false, cond_false, e2]
                    simp only [Option.bind_some]
                    rw [W_eq (n := max d2 d + 1) (by omega) (by omega)]
                    exact ⟨f2, max d2 d + 1, ok2, rfl, by omega, fun h => hps.bI o (hs2 h) (by omega) (by rw [hv, ho])⟩
                  · subst q1; subst q2
                    rw [show ((0 : Int) != 0) = false from rfl, cond_false, bne_self_eq_false, cond_false, bne_iff_ne.2 q3, cond_true]
                    exact ⟨0, 0, false, rfl, by omega, fun h => by cases h⟩
                · subst q1
                  rw [show ((0 : Int) != 0) = false from rfl, cond_false, bne_iff_ne.2 q2, cond_true]
                  exact ⟨0, 0, false, rfl, by omega, fun h => by cases h⟩
              · rw [bne_iff_ne.2 q1, cond_true]
                exact ⟨0, 0, false, rfl, by omega, fun h => by cases h⟩
          by_cases k3 : kd = 3
          · subst k3
            rw [show ((3 : Int) == 3) = true from rfl, cond_true]
            exact two false rfl
          · rw [beq_false_of_ne k3, cond_false]
            by_cases k4 : kd = 4
            · subst k4
              rw [show ((4 : Int) == 4) = true from rfl, cond_true]
              exact two true rfl
            · rw [beq_false_of_ne k4, cond_false]
              exact ⟨0, 0, false, rfl, by omega, fun h => by cases h⟩
/-- A list of nodes that is a rule. -/
def Good (t : Tr) : Prop := t.wf ∧ t.dp ≤ 16 ∧ t.sz ≤ 64
def Rt (l : List T_RuleNode) : Prop := ∃ t, Good t ∧ l = t.fl 0
theorem right_iff {N : Nat} (hN : 66 ≤ N) (hN2 : N ≤ 1000000000000000) (l : List T_RuleNode) : ∃ r, rule_right N l = some r ∧ (r = true ↔ Rt l) := by
  unfold rule_right
  by_cases h1 : (l.length : Int) < 1
  · rw [decide_eq_true h1, cond_true]
    refine ⟨false, rfl, (fun h => by cases h), ?_⟩
    rintro ⟨t, _, rfl⟩
    have := t.sz_pos
    rw [Tr.fl_len] at h1; omega
  · rw [decide_eq_false h1, cond_false]
    by_cases h2 : (l.length : Int) > 64
    · rw [decide_eq_true h2, cond_true]
      refine ⟨false, rfl, (fun h => by cases h), ?_⟩
      rintro ⟨t, ⟨_, _, h⟩, rfl⟩
      rw [Tr.fl_len] at h2; omega
    · rw [decide_eq_false h2, cond_false, W_eq (by omega) (by omega)]
      unfold rule_part
      obtain ⟨f, d, ok, e, hb, hs⟩ := part_sound N (l := l) (by omega) N ((l.length : Int) - 1) (by omega) (by omega) (by omega) (by omega)
      rw [e]
      simp only [Option.bind_some]
      have back : Rt l → ok = true ∧ f = 0 ∧ d ≤ 16 := by
        rintro ⟨t, ⟨g1, g2, g3⟩, hl⟩
        have hA : At l t 0 := by rw [hl]; exact at_fl t
        have hsz : l.length = t.sz := by rw [hl, Tr.fl_len]
        have := part_fl N (l := l) (by omega) t 0 N hA g1 (by omega)
        rw [show (((0 + t.sz : Nat) : Int) - 1) = (l.length : Int) - 1 by omega, e] at this
        simp only [Option.some.injEq, Prod.mk.injEq] at this
        exact ⟨this.2.2, by omega, by omega⟩
      cases ok with
      | false => exact ⟨false, rfl, (fun h => by cases h), fun h => (back h).1⟩
      | true =>
        rw [cond_true]
        by_cases q : f = 0
        · subst q
          rw [show ((0 : Int) == 0) = true from rfl, cond_true]
          refine ⟨_, rfl, fun h => ?_, fun h => decide_eq_true (back h).2.2⟩
          have h := of_decide_eq_true h
          obtain ⟨t, p, w1, w2, w3, w4, w5⟩ := hs rfl
          obtain rfl : p = 0 := by omega
          exact ⟨t, ⟨w1, by omega, by omega⟩, at_end w4 (by omega)⟩
        · rw [beq_false_of_ne q, cond_false]
          exact ⟨false, rfl, (fun h => by cases h), fun h => absurd (back h).2.1 q⟩
end Go.Proofs.YthfejkflhpifnaaDoor
set_option linter.all false
namespace Go.Proofs.YthfejkflhpifnaaDoor
open Go.Pv M

def ev (v : List Int) : Tr → Int
  | .c k => bif decide (k < (v.length : Int)) then (bif decide (-1 ≤ v.getD k.toNat 0) then (bif decide (v.getD k.toNat 0 ≤ 1) then v.getD k.toNat 0 else 0) else 0) else 0
  | .n a => 0 - ev v a
  | .b o x y => bif o then max (ev v x) (ev v y) else min (ev v x) (ev v y)
theorem ev_bd (v : List Int) : ∀ t : Tr, -1 ≤ ev v t ∧ ev v t ≤ 1
  | .c k => by
    unfold ev
    cases h1 : decide (k < (v.length : Int)) with
    | false => rw [cond_false]; omega
    | true =>
      rw [cond_true]
      cases h2 : decide (-1 ≤ v.getD k.toNat 0) with
      | false => rw [cond_false]; omega
      | true =>
        rw [cond_true]
        cases h3 : decide (v.getD k.toNat 0 ≤ 1) with
        | false => rw [cond_false]; omega
        | true => rw [cond_true]; exact ⟨of_decide_eq_true h2, of_decide_eq_true h3⟩
  | .n a => by have := ev_bd v a; simp only [ev]; omega
  | .b o x y => by
    have := ev_bd v x; have := ev_bd v y
    cases o <;> simp only [ev, cond_true, cond_false] <;> omega
theorem getD_set (arr : List Int) (i j : Nat) (x : Int) (h : i < arr.length) : (arr.set i x).getD j 0 = if j = i then x else arr.getD j 0 := by
  rw [List.getD_eq_getElem?_getD, List.getElem?_set]
  by_cases e : i = j
  · subst e; rw [if_pos rfl, if_pos h, if_pos rfl]; rfl
  · rw [if_neg e, if_neg (fun h => e h.symm), List.getD_eq_getElem?_getD]

theorem eval_loop (N : Nat) {l : List T_RuleNode} (hl : l.length ≤ 64) (v : List Int) : ∀ (t : Tr) (p n : Nat) (arr : List Int), At l t p → t.wf → arr.length = l.length → (∀ j, p ≤ j → arr.getD j 0 = 0) →
    ∃ arr', rule_Eval_L1 N (n + t.sz) v l (l.length : Int) (p : Int) arr = rule_Eval_L1 N n v l (l.length : Int) ((p + t.sz : Nat) : Int) arr' ∧ arr'.length = l.length ∧ (∀ j, j < p → arr'.getD j 0 = arr.getD j 0) ∧ (∀ j, p + t.sz ≤ j → arr'.getD j 0 = 0) ∧ arr'.getD (p + t.sz - 1) 0 = ev v t
  | .c k, p, n, arr, hA, hw, ha, hz => by
    obtain ⟨h1, h2⟩ := at_c.1 hA
    obtain ⟨w1, w2⟩ : 0 ≤ k ∧ k < 64 := hw
    have e0 : rule_Eval_L1 N (n + (Tr.c k).sz) v l (l.length : Int) (p : Int) arr = rule_Eval_L1 N (n + 1) v l (l.length : Int) (p : Int) arr := rfl
    have e1 : W ((p : Int) + 1) = ((p + 1 : Nat) : Int) := by rw [W_eq (by omega) (by omega)]; omega
    have keep : ∃ arr', rule_Eval_L1 N n v l (l.length : Int) ((p + 1 : Nat) : Int) arr = rule_Eval_L1 N n v l (l.length : Int) ((p + 1 : Nat) : Int) arr' ∧ arr'.length = l.length ∧ (∀ j, j < p → arr'.getD j 0 = arr.getD j 0) ∧ (∀ j, p + 1 ≤ j → arr'.getD j 0 = 0) ∧ arr'.getD (p + 1 - 1) 0 = 0 := ⟨arr, rfl, ha, fun j _ => rfl, fun j hj => hz j (by omega), hz _ (by omega)⟩
    rw [e0, rule_Eval_L1_succ, decide_eq_true (by omega), cond_true, inB_true (by omega), cond_true, Int.toNat_natCast]
    dsimp only
    rw [h2]
    dsimp only
    rw [show ((1 : Int) == 1) = true from rfl, cond_true, e1]
    simp only [Tr.sz, ev]
    by_cases q1 : k < (v.length : Int)
    · rw [decide_eq_true q1, cond_true, cond_true, inB_true (by omega), cond_true]
      by_cases q2 : -1 ≤ v.getD k.toNat 0
      · rw [decide_eq_true (show v.getD k.toNat 0 ≥ -1 from q2), cond_true, cond_true]
        by_cases q3 : v.getD k.toNat 0 ≤ 1
        · rw [decide_eq_true q3, cond_true, cond_true, cond_true, inB_true (by omega), cond_true]
          refine ⟨arr.set p (v.getD k.toNat 0), rfl, by simpa using ha, fun j hj => ?_, fun j hj => ?_, ?_⟩
          · rw [getD_set _ _ _ _ (by omega), if_neg (by omega)]
          · rw [getD_set _ _ _ _ (by omega), if_neg (by omega)]; exact hz j (by omega)
          · rw [getD_set _ _ _ _ (by omega), if_pos (by omega)]; rfl
        · rw [decide_eq_false q3, cond_false, cond_false]
          exact keep
      · rw [decide_eq_false (show ¬ v.getD k.toNat 0 ≥ -1 from q2), cond_false, cond_false]
        exact keep
    · rw [decide_eq_false q1, cond_false, cond_false]
      exact keep
  | .n a, p, n, arr, hA, hw, ha, hz => by
    obtain ⟨h0, h1, h2⟩ := at_n.1 hA
    obtain ⟨arr', i1, i2, i3, i4, i5⟩ := eval_loop N hl v a p (n + 1) arr h0 hw ha hz
    have hb := ev_bd v a
    have hs := a.sz_pos
    have e0 : n + (Tr.n a).sz = n + 1 + a.sz := by simp only [Tr.sz]; omega
    have e1 : W (((p + a.sz : Nat) : Int) + 1) = ((p + (a.sz + 1) : Nat) : Int) := by rw [W_eq (by omega) (by omega)]; omega
    have e2 : (((p + a.sz : Nat) : Int) - 1).toNat = p + a.sz - 1 := by omega
    rw [e0, i1, rule_Eval_L1_succ, decide_eq_true (by omega), cond_true, inB_true (by omega), cond_true, Int.toNat_natCast]
    dsimp only
    rw [h2]
    dsimp only
    rw [show ((2 : Int) == 1) = false from rfl, cond_false, show ((2 : Int) == 2) = true from rfl, cond_true, inB_true (by omega), cond_true, inB_true (by omega), cond_true, e1, e2, i5, W_eq (n := 0 - ev v a) (by omega) (by omega)]
    refine ⟨arr'.set (p + a.sz) (0 - ev v a), rfl, by simpa using i2, fun j hj => ?_, fun j hj => ?_, ?_⟩
    · rw [getD_set _ _ _ _ (by omega), if_neg (by omega)]; exact i3 j hj
    · simp only [Tr.sz] at hj
      rw [getD_set _ _ _ _ (by omega), if_neg (by omega)]; exact i4 j (by omega)
    · simp only [Tr.sz, ev]
      rw [getD_set _ _ _ _ (by omega), if_pos (by omega)]
  | .b o x y, p, n, arr, hA, hw, ha, hz => by
    obtain ⟨h0, h0', h1, h2⟩ := at_b.1 hA
    obtain ⟨arr1, i1, i2, i3, i4, i5⟩ := eval_loop N hl v x p (n + 1 + y.sz) arr h0 hw.1 ha hz
    obtain ⟨arr2, j1, j2, j3, j4, j5⟩ := eval_loop N hl v y (p + x.sz) (n + 1) arr1 h0' hw.2 i2 i4
    have hs := x.sz_pos
    have hs' := y.sz_pos
    have e0 : n + (Tr.b o x y).sz = n + 1 + y.sz + x.sz := by simp only [Tr.sz]; omega
    have e1 : W (((p + x.sz + y.sz : Nat) : Int) + 1) = ((p + (x.sz + y.sz + 1) : Nat) : Int) := by rw [W_eq (by omega) (by omega)]; omega
    have e2 : (((p + x.sz : Nat) : Int) - 1).toNat = p + x.sz - 1 := by omega
    have e3 : (((p + x.sz + y.sz : Nat) : Int) - 1).toNat = p + x.sz + y.sz - 1 := by omega
    have i6 : arr2.getD (p + x.sz - 1) 0 = ev v x := by rw [j3 _ (by omega)]; exact i5
    have fin : ∀ r : Int, ev v (.b o x y) = r → ∃ arr', rule_Eval_L1 N n v l (l.length : Int) ((p + (x.sz + y.sz + 1) : Nat) : Int) (arr2.set (p + x.sz + y.sz) r) = rule_Eval_L1 N n v l (l.length : Int) ((p + (Tr.b o x y).sz : Nat) : Int) arr' ∧ arr'.length = l.length ∧ (∀ j, j < p → arr'.getD j 0 = arr.getD j 0) ∧ (∀ j, p + (Tr.b o x y).sz ≤ j → arr'.getD j 0 = 0) ∧ arr'.getD (p + (Tr.b o x y).sz - 1) 0 = ev v (.b o x y) := fun r hr => by
      refine ⟨arr2.set (p + x.sz + y.sz) r, rfl, by simpa using j2, fun j hj => ?_, fun j hj => ?_, ?_⟩
      · rw [getD_set _ _ _ _ (by omega), if_neg (by omega), j3 j (by omega)]; exact i3 j hj
      · simp only [Tr.sz] at hj
        rw [getD_set _ _ _ _ (by omega), if_neg (by omega)]; exact j4 j (by omega)
      · simp only [Tr.sz]
        rw [getD_set _ _ _ _ (by omega), if_pos (by omega), hr]
    rw [e0, i1, j1, rule_Eval_L1_succ, decide_eq_true (by omega), cond_true, inB_true (by omega), cond_true, Int.toNat_natCast]
    dsimp only
    rw [h2]
    dsimp only
    cases o with
    | false =>
      rw [show (Tr.kd false == 1) = false from rfl, cond_false, show (Tr.kd false == 2) = false from rfl, cond_false, show (Tr.kd false == 3) = true from rfl, cond_true, inB_true (by omega), cond_true, inB_true (by omega), cond_true, inB_true (by omega), cond_true, e1, e2, e3, i6, j5]
      exact fin _ rfl
    | true =>
      rw [show (Tr.kd true == 1) = false from rfl, cond_false, show (Tr.kd true == 2) = false from rfl, cond_false, show (Tr.kd true == 3) = false from rfl, cond_false, inB_true (by omega), cond_true, inB_true (by omega), cond_true, inB_true (by omega), cond_true, e1, e2, e3, i6, j5]
      exact fin _ rfl

theorem right_good {N : Nat} (hN : 66 ≤ N) (hN2 : N ≤ 1000000000000000) {t : Tr} (h : Good t) : rule_right N (t.fl 0) = some true := by
  obtain ⟨r, e, h2⟩ := right_iff hN hN2 (t.fl 0)
  rw [e, h2.2 ⟨t, h, rfl⟩]
theorem right_bad {N : Nat} (hN : 66 ≤ N) (hN2 : N ≤ 1000000000000000) {l : List T_RuleNode} (h : ¬ Rt l) : rule_right N l = some false := by
  obtain ⟨r, e, h2⟩ := right_iff hN hN2 l
  cases r with
  | false => exact e
  | true => exact absurd (h2.1 rfl) h
theorem eval_good {N : Nat} (hN : 66 ≤ N) (hN2 : N ≤ 1000000000000000) {t : Tr} (h : Good t) (v : List Int) : rule_Eval N (t.fl 0) v = some (ev v t) := by
  unfold rule_Eval
  rw [right_good hN hN2 h]
  simp only [Option.bind_some, Bool.not_true, cond_false]
  have hlen := t.fl_len 0
  have hs := t.sz_pos
  obtain ⟨h1, h2, h3⟩ := h
  have hmk : mkB 8 ((t.fl 0).length : Int) ((t.fl 0).length : Int) = true := decide_eq_true ⟨by omega, by omega, by omega, by omega⟩
  rw [hmk, cond_true]
  obtain ⟨arr', i1, i2, i3, i4, i5⟩ := eval_loop N (l := t.fl 0) (by omega) v t 0 (N - t.sz) (List.replicate ((t.fl 0).length : Int).toNat 0) (at_fl t) h1 (by simp) (fun j _ => by
    rw [List.getD_eq_getElem?_getD, List.getElem?_replicate]; split <;> rfl)
  rw [show N - t.sz + t.sz = N by omega] at i1
  rw [show ((0 : Nat) : Int) = 0 from rfl] at i1
  rw [i1]
  obtain ⟨n', hn'⟩ : ∃ n', N - t.sz = n' + 1 := ⟨N - t.sz - 1, by omega⟩
  rw [hn', rule_Eval_L1_succ, decide_eq_false (by omega), cond_false]
  dsimp only
  rw [W_eq (by omega) (by omega), inB_true (by omega), cond_true, show ((arr'.length : Int) - 1).toNat = 0 + t.sz - 1 by omega, i5]
theorem eval_bad {N : Nat} (hN : 66 ≤ N) (hN2 : N ≤ 1000000000000000) {l : List T_RuleNode} (h : ¬ Rt l) (v : List Int) : rule_Eval N l v = some 0 := by
  unfold rule_Eval
  rw [right_bad hN hN2 h]
  rfl

/-! ### Texts -/
end Go.Proofs.YthfejkflhpifnaaDoor
set_option linter.all false
namespace Go.Proofs.YthfejkflhpifnaaDoor
open Go.Pv M

/-! ### Digits -/
/-! ### The reader's small steps -/
/-! ### Reading: all that it takes is a rule's text -/
/-! ### Reading: every rule's text is taken -/
/-! ### Parse -/
end Go.Proofs.YthfejkflhpifnaaDoor
set_option linter.all false
namespace Go.Proofs.YthfejkflhpifnaaDoor
open Go.Pv M

/-- Choices from which can be drawn. -/
def Cd (d : T_Codes) : Prop := 0 ≤ d.2 ∧ d.2 ≤ d.1.length ∧ d.1.length ≤ 300 ∧ ∀ a, a ∈ d.1 → 0 ≤ a ∧ a ≤ 255

theorem mod_eq (N : Nat) (n m : Int) (h2 : m ≤ 4611686018427387904) : draw_Mod N n m = some (modS n m) := by
  unfold draw_Mod modS
  by_cases h : m < 1
  · simp [h]
  · have h0 : ¬ m = 0 := by omega
    have hr := tmod_lt (n := n) (m := m) (by omega)
    have he := tmod_emod (n := n) (m := m) (by omega)
    have h00 : (m == 0) = false := by simpa using h0
    simp only [h, decide_false, cond_false, h00, if_false]
    split at he
    · rename_i hlt
      simp only [hlt, decide_true, cond_true]
      rw [W_eq (by omega) (by omega), he]
    · rename_i hlt
      simp only [hlt, decide_false, cond_false]; rw [he]

theorem cd_get {d : List Int} (h : ∀ a, a ∈ d → 0 ≤ a ∧ a ≤ 255) (k : Nat) : 0 ≤ d.getD k 0 ∧ d.getD k 0 ≤ 255 := by
  rw [List.getD_eq_getElem?_getD]
  cases e : d[k]? with
  | none => simp
  | some x => exact h x (List.mem_of_getElem? e)

theorem next_spec {N : Nat} (hN : 0 < N) {d : T_Codes} (hd : Cd d) {n : Int} (h2 : n ≤ 4611686018427387904) : ∃ v d', draw_Codes_Next N d n = some (v, d') ∧ 0 ≤ v ∧ (v < n ∨ v = 0) ∧ Cd d' := by
  obtain ⟨a1, a2, a3, a4⟩ := hd
  obtain ⟨M, rfl⟩ : ∃ M, N = M + 1 := ⟨N - 1, by omega⟩
  unfold draw_Codes_Next
  by_cases h1 : n < 1
  · simp only [h1, decide_true, cond_true]
    exact ⟨0, d, rfl, by omega, .inr rfl, a1, a2, a3, a4⟩
  simp only [h1, decide_false, cond_false]
  by_cases h : d.2 ≥ (d.1.length : Int)
  · simp only [h, decide_true, cond_true]
    exact ⟨0, d, rfl, by omega, .inr rfl, a1, a2, a3, a4⟩
  · simp only [h, decide_false, cond_false]
    rw [draw_Codes_Next_J1_eq]
    have h0 : (n == 0) = false := by simp; omega
    rw [W_eq (n := d.2 + 1) (by omega) (by omega), W_eq (n := d.2 + 1 - 1) (by omega) (by omega), inB_true (by omega), cond_true]
    have g1 := cd_get a4 (d.2 + 1 - 1).toNat
    have g2 := cd_get a4 (d.2 + 1).toNat
    simp only [h0, cond_false]
    by_cases hn : n > 256
    · simp only [hn, decide_true, cond_true]
      by_cases hl : d.2 + 1 < (d.1.length : Int)
      · simp only [hl, decide_true, cond_true]
        rw [inB_true (by omega), cond_true]
        generalize d.1.getD (d.2 + 1 - 1).toNat 0 = x at g1 ⊢
        generalize d.1.getD (d.2 + 1).toNat 0 = y at g2 ⊢
        rw [W_eq (n := x) (by omega) (by omega), W_eq (n := y) (by omega) (by omega), W_eq (n := x * 256) (by omega) (by omega), W_eq (n := x * 256 + y) (by omega) (by omega), W_eq (n := d.2 + 1 + 1) (by omega) (by omega)]
        refine ⟨_, _, rfl, Int.tmod_nonneg _ (by omega), .inl (Int.tmod_lt_of_pos _ (by omega)), ?_, ?_, a3, a4⟩
        · show 0 ≤ d.2 + 1 + 1; omega
        · show d.2 + 1 + 1 ≤ (d.1.length : Int); omega
      · simp only [hl, decide_false, cond_false]
        rw [W_eq (n := d.1.getD (d.2 + 1 - 1).toNat 0) (by omega) (by omega)]
        refine ⟨_, _, rfl, Int.tmod_nonneg _ (by omega), .inl (Int.tmod_lt_of_pos _ (by omega)), ?_, ?_, a3, a4⟩
        · show 0 ≤ d.2 + 1; omega
        · show d.2 + 1 ≤ (d.1.length : Int); omega
    · simp only [hn, decide_false, cond_false]
      rw [W_eq (n := d.1.getD (d.2 + 1 - 1).toNat 0) (by omega) (by omega)]
      refine ⟨_, _, rfl, Int.tmod_nonneg _ (by omega), .inl (Int.tmod_lt_of_pos _ (by omega)), ?_, ?_, a3, a4⟩
      · show 0 ≤ d.2 + 1; omega
      · show d.2 + 1 ≤ (d.1.length : Int); omega

theorem one_spec {N : Nat} (hN : 0 < N) {d : T_Codes} (hd : Cd d) {n : Int} (h2 : n ≤ 4611686018427387904) : ∃ b d', draw_Codes_One N d n = some (b, d') ∧ Cd d' := by
  unfold draw_Codes_One
  obtain ⟨v, d', e, r1, r2, r3⟩ := next_spec hN hd h2
  rw [e, bind_some']
  exact ⟨_, _, rfl, r3⟩

theorem range_spec {N : Nat} (hN : 0 < N) {d : T_Codes} (hd : Cd d) {a b : Int} (h1 : a ≤ b) (h2 : -1000000 ≤ a) (h3 : b ≤ 1000000) : ∃ v d', draw_Codes_Range N d a b = some (v, d') ∧ a ≤ v ∧ v ≤ b ∧ Cd d' := by
  unfold draw_Codes_Range
  rw [W_eq (n := b - a) (by omega) (by omega), W_eq (n := b - a + 1) (by omega) (by omega)]
  obtain ⟨v, d', e, r1, r2, r3⟩ := next_spec hN hd (n := b - a + 1) (by omega)
  rw [e, bind_some']
  simp only
  rw [W_eq (n := a + v) (by omega) (by omega)]
  exact ⟨_, _, rfl, by omega, by omega, r3⟩

theorem new_spec (N : Nat) {l : List Int} (h : ∀ a, a ∈ l → (Lit.int .u8 a).wf = true) (hl : l.length ≤ maxLen) : ∃ d, draw_New N l = some (d, ()) ∧ Cd d := by
  unfold draw_New
  have : maxLen ≤ 9223372036854775807 := by decide
  simp only
  rw [slB_true (by omega), cond_true]
  refine ⟨_, rfl, by show (0 : Int) ≤ 0; omega, by show (0 : Int) ≤ _; omega, ?_, fun a ha => ?_⟩
  · show (l.take _).length ≤ 300
    rw [List.length_take]; omega
  · have := h a (List.mem_of_mem_take ha)
    simp only [Lit.wf, Bool.and_eq_true, decide_eq_true_eq] at this
    exact this
end Go.Proofs.YthfejkflhpifnaaDoor
set_option linter.all false
namespace Go.Proofs.YthfejkflhpifnaaDoor
open Go.Pv M

def Tr.cw (c : Int) : Tr → Prop
  | .c k => 0 ≤ k ∧ k < c
  | .n a => a.cw c
  | .b _ x y => x.cw c ∧ y.cw c
theorem Tr.cw_wf {c : Int} (hc : c ≤ 64) : ∀ {t : Tr}, t.cw c → t.wf
  | .c k, h => ⟨h.1, by have := h.2; omega⟩
  | .n a, h => cw_wf hc (t := a) h
  | .b _ x y, h => ⟨cw_wf hc (t := x) h.1, cw_wf hc (t := y) h.2⟩
def sh (m : Nat) (x : T_RuleNode) : T_RuleNode := (x.1, (x.2.1, ((if x.1 = 1 then x.2.2.1 else x.2.2.1 + (m : Int)), (if x.1 = 3 ∨ x.1 = 4 then x.2.2.2 + (m : Int) else x.2.2.2))))
theorem sh_fl (m : Nat) : ∀ (t : Tr) (p : Nat), (t.fl p).map (sh m) = t.fl (p + m)
  | .c k, p => by simp [Tr.fl, sh]
  | .n a, p => by
    simp only [Tr.fl, List.map_append, sh_fl m a p, List.map_cons, List.map_nil]
    congr 2
    simp [sh]; omega
  | .b o x y, p => by
    simp only [Tr.fl, List.map_append, sh_fl m x p, sh_fl m y (p + x.sz), List.map_cons, List.map_nil]
    rw [show p + m + x.sz = p + x.sz + m by omega]
    congr 3
    cases o <;> simp [sh, Tr.kd] <;> omega
def Nb (x : T_RuleNode) : Prop := 0 ≤ x.2.2.1 ∧ x.2.2.1 ≤ 1000 ∧ 0 ≤ x.2.2.2 ∧ x.2.2.2 ≤ 1000
theorem fl_nb : ∀ (t : Tr) (p : Nat), p + t.sz ≤ 1000 → ∀ x ∈ t.fl p, Nb x
  | .c k, p, h, x, hx => by
    rw [Tr.fl, List.mem_singleton] at hx; subst hx
    exact ⟨by simp, by simp, by simp, by simp⟩
  | .n a, p, h, x, hx => by
    simp only [Tr.sz] at h
    have hs := a.sz_pos
    rw [Tr.fl, List.mem_append, List.mem_singleton] at hx
    rcases hx with hx | rfl
    · exact fl_nb a p (by omega) x hx
    · unfold Nb; dsimp only; omega
  | .b o y z, p, h, x, hx => by
    simp only [Tr.sz] at h
    have hs := y.sz_pos
    have hs' := z.sz_pos
    rw [Tr.fl, List.mem_append, List.mem_append, List.mem_singleton] at hx
    rcases hx with hx | hx | rfl
    · exact fl_nb y p (by omega) x hx
    · exact fl_nb z _ (by omega) x hx
    · unfold Nb; dsimp only; omega
theorem mid_get {α : Type} (done rest : List α) (x d : α) : (done ++ x :: rest).getD done.length d = x := by simp
theorem mid_set {α : Type} (done rest : List α) (x y : α) : (done ++ x :: rest).set done.length y = done ++ y :: rest := by simp
theorem shift_loop (N : Nat) (self : T_Codes → Int → Int → Option ((List T_RuleNode) × T_Codes)) (c1 : List Int) (c2 : Int) (a : List T_RuleNode) (ha : a.length ≤ 1000) : ∀ (rest done : List T_RuleNode) (n : Nat), (done ++ rest).length ≤ 1000 → (∀ x ∈ rest, Nb x) →
    draw_Codes_Rule_L1 N self (n + rest.length) (done.length : Int) c1 c2 a (done ++ rest) = draw_Codes_Rule_L1 N self n ((done ++ rest).length : Int) c1 c2 a (done ++ rest.map (sh a.length))
  | [], done, n, _, _ => by simp
  | x :: rest, done, n, hl, hx => by
    have ih := fun y : T_RuleNode => shift_loop N self c1 c2 a ha rest (done ++ [y]) n (by simp at hl ⊢; omega) (fun z hz => hx z (List.mem_cons_of_mem _ hz))
    simp only [List.append_assoc, List.singleton_append, List.length_append, List.length_cons, List.length_nil, Nat.zero_add] at ih
    have hlen : (done ++ x :: rest).length = done.length + (rest.length + 1) := by simp
    have hlen2 : ∀ y, (done ++ y :: rest).length = done.length + (rest.length + 1) := fun y => by simp
    rw [hlen] at hl
    obtain ⟨b1, b2, b3, b4⟩ := hx x (List.mem_cons_self ..)
    rw [show n + (x :: rest).length = n + rest.length + 1 by simp; omega, draw_Codes_Rule_L1_succ, hlen, decide_eq_true (by omega), cond_true, inB_true (by omega), cond_true, Int.toNat_natCast, mid_get]
    have e1 : W ((done.length : Int) + 1) = ((done.length + 1 : Nat) : Int) := by rw [W_eq (by omega) (by omega)]; omega
    have fin : ∀ y, y = sh a.length x → draw_Codes_Rule_L1 N self (n + rest.length) (W ((done.length : Int) + 1)) c1 c2 a (done ++ y :: rest) = draw_Codes_Rule_L1 N self n ((done.length + (rest.length + 1) : Nat) : Int) c1 c2 a (done ++ (x :: rest).map (sh a.length)) := fun y hy => by
      rw [e1, ih y, hy, List.map_cons]
    obtain ⟨kd, k, lf, rg⟩ := x
    simp only at b1 b2 b3 b4
    dsimp only
    by_cases k1 : kd = 1
    · subst k1
      rw [show ((1 : Int) != 1) = false from rfl, cond_false, cond_true, show ((1 : Int) == 3) = false from rfl, cond_false, cond_true, show ((1 : Int) == 4) = false from rfl, cond_false]
      exact fin _ (by simp [sh])
    · rw [bne_iff_ne.2 k1, cond_true, cond_true, cond_true, W_eq (n := lf + (a.length : Int)) (by omega) (by omega), mid_set, hlen2, inB_true (by omega), cond_true, mid_get]
      dsimp only
      by_cases k3 : kd = 3
      · subst k3
        rw [show ((3 : Int) == 3) = true from rfl, cond_true, cond_true, cond_true, W_eq (n := rg + (a.length : Int)) (by omega) (by omega), mid_set]
        exact fin _ (by simp [sh])
      · rw [beq_false_of_ne k3, cond_false, cond_true]
        by_cases k4 : kd = 4
        · subst k4
          rw [show ((4 : Int) == 4) = true from rfl, cond_true, cond_true, cond_true, W_eq (n := rg + (a.length : Int)) (by omega) (by omega), mid_set]
          exact fin _ (by simp [sh])
        · rw [beq_false_of_ne k4, cond_false]
          exact fin _ (by simp [sh, k1, k3, k4])

theorem pow_le (k : Nat) (h : k ≤ 5) : 2 ^ (k + 1) ≤ 64 := by
  have : k = 0 ∨ k = 1 ∨ k = 2 ∨ k = 3 ∨ k = 4 ∨ k = 5 := by omega
  rcases this with rfl | rfl | rfl | rfl | rfl | rfl <;> decide
theorem rule_spec {N : Nat} (hN : 66 ≤ N) {c : Int} (hc : 1 ≤ c) (hc2 : c ≤ 64) : ∀ (k n : Nat) (d : T_Codes), Cd d → k < n → k ≤ 5 → ∃ (t : Tr) (d' : T_Codes), draw_Codes_Rule_M N n d c (k : Int) = some (t.fl 0, d') ∧ t.cw c ∧ t.dp ≤ k + 1 ∧ t.sz + 1 ≤ 2 ^ (k + 1) ∧ Cd d' := by
  have leaf : ∀ (k : Nat) (d : T_Codes), Cd d → ∃ (t : Tr) (d' : T_Codes), (Option.bind (draw_Codes_Next N d c) fun r1 => some ([(1, (r1.1, (0, 0)))], r1.2)) = some (Tr.fl t 0, d') ∧ t.cw c ∧ t.dp ≤ k + 1 ∧ t.sz + 1 ≤ 2 ^ (k + 1) ∧ Cd d' := fun k d hd => by
    obtain ⟨v, d', e, h1, h2, h3⟩ := next_spec (N := N) (by omega) hd (n := c) (by omega)
    rw [e, bind_some']
    refine ⟨.c v, d', rfl, ⟨h1, by omega⟩, by simp [Tr.dp], ?_, h3⟩
    have : 2 ^ (k + 1) = 2 ^ k * 2 := Nat.pow_succ ..
    have := Nat.one_le_two_pow (n := k)
    simp only [Tr.sz]; omega
  intro k
  induction k with
  | zero =>
    intro n d hd hn _
    obtain ⟨n', rfl⟩ : ∃ n', n = n' + 1 := ⟨n - 1, by omega⟩
    rw [draw_Codes_Rule_M_succ]
    unfold draw_Codes_Rule_R
    rw [decide_eq_true (by omega), cond_true]
    exact leaf 0 d hd
  | succ k ih =>
    intro n d hd hn hk
    obtain ⟨n', rfl⟩ : ∃ n', n = n' + 1 := ⟨n - 1, by omega⟩
    rw [draw_Codes_Rule_M_succ]
    unfold draw_Codes_Rule_R
    rw [decide_eq_false (by omega), cond_false]
    obtain ⟨v, d1, e1, _, _, hd1⟩ := next_spec (N := N) (by omega) hd (n := 3) (by omega)
    rw [e1, bind_some']
    dsimp only
    by_cases hv : v = 0
    · subst hv
      rw [show ((0 : Int) == 0) = true from rfl, cond_true]
      exact leaf (k + 1) d1 hd1
    · rw [beq_false_of_ne hv, cond_false]
      obtain ⟨M', rfl⟩ : ∃ M', N = M' + 1 := ⟨N - 1, by omega⟩
      have hp : 2 ^ (k + 1 + 1) = 2 ^ (k + 1) * 2 := Nat.pow_succ ..
      have hp1 := Nat.one_le_two_pow (n := k + 1)
      have hp2 := pow_le k (by omega)
      rw [draw_Codes_Rule_J1_eq, show ((d1.1, d1.2) : T_Codes) = d1 from rfl, show W (((k + 1 : Nat) : Int) - 1) = (k : Int) by rw [W_eq (by omega) (by omega)]; omega]
      obtain ⟨x, d2, e2, x1, x2, x3, hd2⟩ := ih n' d1 hd1 (by omega) (by omega)
      rw [e2, bind_some']
      obtain ⟨b, d3, e3, hd3⟩ := one_spec (N := M' + 1) (by omega) hd2 (n := 4) (by omega)
      dsimp only
      rw [e3, bind_some']
      have hx := x.fl_len 0
      have hxp := x.sz_pos
      cases b with
      | true =>
        dsimp only
        rw [cond_true, fitsB_true (by omega), cond_true, W_eq (by omega) (by omega)]
        refine ⟨.n x, d3, ?_, x1, by simp only [Tr.dp]; omega, by simp only [Tr.sz]; omega, hd3⟩
        simp only [Tr.fl]
        rw [hx, Nat.zero_add]
      | false =>
        dsimp only
        rw [cond_false]
        obtain ⟨y, d4, e4, y1, y2, y3, hd4⟩ := ih n' d3 hd3 (by omega) (by omega)
        rw [e4, bind_some']
        dsimp only
        have hy := y.fl_len 0
        have hyp := y.sz_pos
        have := shift_loop (M' + 1) (draw_Codes_Rule_M (M' + 1) n') d4.1 d4.2 (x.fl 0) (by omega) (y.fl 0) [] (M' + 1 - y.sz) (by simp; omega) (fl_nb y 0 (by omega))
        rw [hy, show M' + 1 - y.sz + y.sz = M' + 1 by omega] at this
        simp only [List.nil_append, List.length_nil] at this
        rw [show ((0 : Nat) : Int) = 0 from rfl] at this
        rw [this, sh_fl, hx, hy, Nat.zero_add]
        obtain ⟨n2, hn2⟩ : ∃ n2, M' + 1 - y.sz = n2 + 1 := ⟨M' - y.sz, by omega⟩
        have hyl := y.fl_len x.sz
        rw [hn2, draw_Codes_Rule_L1_succ, decide_eq_false (by omega), cond_false, fitsB_true (by omega), cond_true]
        obtain ⟨w, d5, e5, w1, w2, hd5⟩ := range_spec (N := M' + 1) (by omega) hd4 (a := 3) (b := 4) (by omega) (by omega) (by omega)
        rw [show ((d4.1, d4.2) : T_Codes) = d4 from rfl, e5, bind_some']
        dsimp only
        rw [fitsB_true (by rw [List.length_append]; omega), cond_true, hx, hyl, W_eq (n := (x.sz : Int) - 1) (by omega) (by omega), W_eq (n := (x.sz : Int) + (y.sz : Int)) (by omega) (by omega), W_eq (n := (x.sz : Int) + (y.sz : Int) - 1) (by omega) (by omega)]
        have hw : w = 3 ∨ w = 4 := by omega
        have key : ∀ o, w = Tr.kd o → ∃ (t : Tr) (d' : T_Codes), some ((x.fl 0 ++ y.fl x.sz ++ [(w, (0, ((x.sz : Int) - 1, (x.sz : Int) + (y.sz : Int) - 1)))], d5) : List T_RuleNode × T_Codes) = some (Tr.fl t 0, d') ∧ t.cw c ∧ t.dp ≤ k + 1 + 1 ∧ t.sz + 1 ≤ 2 ^ (k + 1 + 1) ∧ Cd d' := fun o ho => by
          refine ⟨.b o x y, d5, ?_, ⟨x1, y1⟩, by simp only [Tr.dp]; omega, by simp only [Tr.sz]; omega, hd5⟩
          simp only [Tr.fl, Nat.zero_add, List.append_assoc]
          rw [ho, show (((x.sz + y.sz : Nat) : Int)) = (x.sz : Int) + (y.sz : Int) by omega]
        rcases hw with h | h
        · exact key false h
        · exact key true h
end Go.Proofs.YthfejkflhpifnaaDoor
set_option linter.all false
namespace Go.Proofs.YthfejkflhpifnaaDoor
open Go.Pv M

theorem awake_true : law19_awake 1000 = some true := by kernel_rfl
theorem values_loop {N : Nat} (hN : 0 < N) : ∀ (m n : Nat) (d : T_Codes) (l : List Int), Cd d → m < n → m + l.length ≤ 100 → ∃ v, law19_values_L1 N n (m : Int) d.1 d.2 l = some v ∧ v.length = l.length + m
  | 0, n, d, l, hd, hn, hl => by
    obtain ⟨n', rfl⟩ : ∃ n', n = n' + 1 := ⟨n - 1, by omega⟩
    rw [law19_values_L1_succ, decide_eq_false (by omega), cond_false]
    exact ⟨l, rfl, rfl⟩
  | m + 1, n, d, l, hd, hn, hl => by
    obtain ⟨n', rfl⟩ : ∃ n', n = n' + 1 := ⟨n - 1, by omega⟩
    rw [law19_values_L1_succ, decide_eq_true (by omega), cond_true]
    obtain ⟨v, d1, e1, _, _, hd1⟩ := next_spec hN hd (n := 3) (by omega)
    unfold draw_Codes_Truth
    rw [show ((d.1, d.2) : T_Codes) = d from rfl, e1, bind_some', bind_some']
    obtain ⟨b, d2, e2, hd2⟩ := one_spec hN hd1 (n := 20) (by omega)
    dsimp only
    rw [e2, bind_some', show W (((m + 1 : Nat) : Int) - 1) = (m : Int) by rw [W_eq (by omega) (by omega)]; omega]
    dsimp only
    cases b with
    | true =>
      rw [cond_true]
      obtain ⟨w, d3, e3, _, _, hd3⟩ := range_spec hN hd2 (a := -5) (b := 5) (by omega) (by omega) (by omega)
      rw [e3, bind_some', fitsB_true (by omega), cond_true]
      obtain ⟨r, h1, h2⟩ := values_loop hN m n' d3 (l ++ [w]) hd3 (by omega) (by simp; omega)
      exact ⟨r, h1, by rw [h2]; simp; omega⟩
    | false =>
      rw [cond_false, fitsB_true (by omega), cond_true]
      obtain ⟨r, h1, h2⟩ := values_loop hN m n' d2 (l ++ [W (v - 1)]) hd2 (by omega) (by simp; omega)
      exact ⟨r, h1, by rw [h2]; simp; omega⟩
theorem values_spec {N : Nat} (hN : 66 ≤ N) {a : List Int} (h : ∀ x, x ∈ a → (Lit.int .u8 x).wf = true) (hl : a.length ≤ maxLen) : ∃ v, law19_values N a = some v ∧ 3 ≤ v.length ∧ v.length ≤ 8 := by
  unfold law19_values
  obtain ⟨d, e, hd⟩ := new_spec N h hl
  rw [e, bind_some']
  obtain ⟨k, d1, e1, h1, h2, hd1⟩ := next_spec (N := N) (by omega) hd (n := 5) (by omega)
  dsimp only
  rw [e1, bind_some']
  dsimp only
  obtain ⟨r, q1, q2⟩ := values_loop (N := N) (by omega) (3 + k.toNat) N d1 [] hd1 (by omega) (by simp; omega)
  rw [show ((3 + k.toNat : Nat) : Int) = W (3 + k) by rw [W_eq (by omega) (by omega)]; omega] at q1
  exact ⟨r, q1, by rw [q2, List.length_nil]; omega, by rw [q2, List.length_nil]; omega⟩
theorem drawn {N : Nat} (hN : 66 ≤ N) {c : Int} (hc : 1 ≤ c) (hc2 : c ≤ 64) (k : Nat) (hk : k ≤ 5) {d : T_Codes} (hd : Cd d) : ∃ (t : Tr) (d' : T_Codes), draw_Codes_Rule N d c (k : Int) = some (t.fl 0, d') ∧ t.cw c ∧ Good t ∧ t.dp ≤ k + 1 ∧ t.sz + 1 ≤ 2 ^ (k + 1) ∧ Cd d' := by
  obtain ⟨t, d', e, h1, h2, h3, h4⟩ := rule_spec hN hc hc2 k N d hd (by omega) hk
  have := pow_le k hk
  exact ⟨t, d', e, h1, ⟨Tr.cw_wf hc2 h1, by omega, by omega⟩, h2, h3, h4⟩

end Go.Proofs.YthfejkflhpifnaaDoor
set_option linter.all false
namespace Go.Proofs.YthfejkflhpifnaaDoor
open Go.Pv M

theorem rpart_out (N n : Nat) (l : List T_RuleNode) {j : Int} (h : j < 0 ∨ j ≥ l.length) : ref19_part_M N (n + 1) l j = some (-1, 0) := by
  rw [ref19_part_M_succ]; unfold ref19_part_R
  by_cases h0 : j < 0
  · rw [decide_eq_true h0, cond_true]
  · rw [decide_eq_false h0, cond_false, decide_eq_true (by omega), cond_true]
theorem rpart_fl {N : Nat} (hN : 0 < N) {l : List T_RuleNode} (hl : l.length ≤ 64) : ∀ (t : Tr) (b n : Nat), At l t b → t.wf → t.dp ≤ n → ref19_part_M N n l (((b + t.sz : Nat) : Int) - 1) = some ((b : Int), (t.dp : Int))
  | .c k, b, 0, _, _, h => absurd h (by simp [Tr.dp])
  | .n a, b, 0, _, _, h => absurd h (by simp [Tr.dp])
  | .b o x y, b, 0, _, _, h => absurd h (by simp [Tr.dp])
  | .c k, b, n + 1, hA, hw, _ => by
    obtain ⟨h1, h2⟩ := at_c.1 hA
    obtain ⟨w1, w2⟩ : 0 ≤ k ∧ k < 64 := hw
    obtain ⟨M', rfl⟩ : ∃ M', N = M' + 1 := ⟨N - 1, by omega⟩
    have e : ((b + (Tr.c k).sz : Nat) : Int) - 1 = (b : Int) := by simp [Tr.sz]
    rw [e, ref19_part_M_succ]
    unfold ref19_part_R
    rw [decide_eq_false (by omega), cond_false, decide_eq_false (by omega), cond_false, ref19_part_J1_eq, inB_true (by omega), cond_true, Int.toNat_natCast]
    dsimp only
    rw [h2]
    dsimp only
    rw [show ((1 : Int) == 1) = true from rfl, cond_true, decide_eq_false (by omega), cond_false, decide_eq_false (by omega), cond_false, show ((0 : Int) != 0) = false from rfl, cond_false, cond_false]
    rfl
  | .n a, b, n + 1, hA, hw, hn => by
    obtain ⟨h0, h1, h2⟩ := at_n.1 hA
    obtain ⟨M', rfl⟩ : ∃ M', N = M' + 1 := ⟨N - 1, by omega⟩
    have e : ((b + (Tr.n a).sz : Nat) : Int) - 1 = ((b + a.sz : Nat) : Int) := by simp [Tr.sz]; omega
    have ih := rpart_fl hN hl a b n h0 hw (by simpa [Tr.dp] using hn)
    have hd : a.dp ≤ 64 := by have := a.dp_le; omega
    rw [e, ref19_part_M_succ]
    unfold ref19_part_R
    rw [decide_eq_false (by omega), cond_false, decide_eq_false (by omega), cond_false, ref19_part_J1_eq, inB_true (by omega), cond_true, Int.toNat_natCast]
    dsimp only
    rw [h2, W_eq (by omega) (by omega), ih]
    dsimp only
    rw [show ((2 : Int) == 1) = false from rfl, cond_false, show ((2 : Int) == 2) = true from rfl, cond_true, show ((0 : Int) != 0) = false from rfl, cond_false, cond_false, bne_self_eq_false, cond_false]
    simp only [Option.bind_some]
    rw [W_eq (n := (a.dp : Int) + 1) (by omega) (by omega)]
    rfl
  | .b o x y, b, n + 1, hA, hw, hn => by
    obtain ⟨h0, h0', h1, h2⟩ := at_b.1 hA
    obtain ⟨M', rfl⟩ : ∃ M', N = M' + 1 := ⟨N - 1, by omega⟩
    have e : ((b + (Tr.b o x y).sz : Nat) : Int) - 1 = ((b + x.sz + y.sz : Nat) : Int) := by simp [Tr.sz]; omega
    have hn' : max x.dp y.dp ≤ n := by simpa [Tr.dp] using hn
    have ih := rpart_fl hN hl y (b + x.sz) n h0' hw.2 (by omega)
    have ih2 := rpart_fl hN hl x b n h0 hw.1 (by omega)
    have hd : x.dp ≤ 64 := by have := x.dp_le; omega
    have hd2 : y.dp ≤ 64 := by have := y.dp_le; omega
    have hxp := x.sz_pos
    have em : max (x.dp : Int) (y.dp : Int) = ((max x.dp y.dp : Nat) : Int) := by omega
    rw [e, ref19_part_M_succ]
    unfold ref19_part_R
    rw [decide_eq_false (by omega), cond_false, decide_eq_false (by omega), cond_false, ref19_part_J1_eq, inB_true (by omega), cond_true, Int.toNat_natCast]
    dsimp only
    rw [h2, W_eq (n := ((b + x.sz + y.sz : Nat) : Int) - 1) (by omega) (by omega), ih]
    simp only [Option.bind_some]
    rw [W_eq (n := ((b + x.sz : Nat) : Int) - 1) (by omega) (by omega), ih2]
    simp only [Option.bind_some]
    rw [em, W_eq (n := ((max x.dp y.dp : Nat) : Int) + 1) (by omega) (by omega), decide_eq_false (show ¬ (((b + x.sz : Nat) : Int) < 1) by omega), show ((0 : Int) != 0) = false from rfl, bne_self_eq_false, bne_self_eq_false]
    simp only [cond_false]
    cases o <;> rfl
/-- The place that the reference's part gives is right, or -1. -/
theorem rpart_sound {N : Nat} (hN : 0 < N) {l : List T_RuleNode} (hl : l.length ≤ 64) : ∀ (n : Nat) (j : Int), -1 ≤ j → j < l.length → j + 1 < n → n ≤ 1000000000000000 → ∃ f d, ref19_part_M N n l j = some (f, d) ∧ (-1 ≤ f ∧ f ≤ 64 ∧ 0 ≤ d ∧ d ≤ n) ∧ (0 ≤ f → PS l j f d) := by
  intro n
  induction n with
  | zero => intro j h0 h1 h2; omega
  | succ n ih =>
    intro j h0 h1 h2 h3
    by_cases hj : j < 0
    · exact ⟨-1, 0, rpart_out N n l (.inl hj), by omega, fun h => by omega⟩
    · have bad : ∀ (R : Option (Int × Int)), R = some (-1, 0) → ∃ f d, R = some (f, d) ∧ (-1 ≤ f ∧ f ≤ 64 ∧ 0 ≤ d ∧ d ≤ (n + 1 : Nat)) ∧ (0 ≤ f → PS l j f d) := fun R hR => ⟨-1, 0, hR, by omega, fun h => by omega⟩
      obtain ⟨M', rfl⟩ : ∃ M', N = M' + 1 := ⟨N - 1, by omega⟩
      rw [ref19_part_M_succ]
      unfold ref19_part_R
      obtain ⟨i, rfl⟩ : ∃ i : Nat, j = i := ⟨j.toNat, by omega⟩
      rw [decide_eq_false hj, cond_false, decide_eq_false (by omega), cond_false, ref19_part_J1_eq, inB_true (by omega), cond_true, Int.toNat_natCast]
      dsimp only
      generalize hv : l.getD i D_RuleNode = v
      obtain ⟨kd, k, lf, rg⟩ := v
      dsimp only
      rw [W_eq (n := (i : Int) - 1) (by omega) (by omega)]
      obtain ⟨f, d, e, hb, hs⟩ := ih ((i : Int) - 1) (by omega) (by omega) (by omega) (by omega)
      rw [e]
      simp only [Option.bind_some]
      rw [W_eq (n := d + 1) (by omega) (by omega)]
      by_cases k1 : kd = 1
      · subst k1
        rw [show ((1 : Int) == 1) = true from rfl, cond_true]
        by_cases q1 : k < 0
        · rw [decide_eq_true q1, cond_true]; exact bad _ rfl
        · rw [decide_eq_false q1, cond_false]
          by_cases q2 : k ≥ 64
          · rw [decide_eq_true q2, cond_true]; exact bad _ rfl
          · rw [decide_eq_false q2, cond_false]
            by_cases q3 : lf = 0
            · by_cases q4 : rg = 0
              · subst q3; subst q4
                rw [show ((0 : Int) != 0) = false from rfl, cond_false, cond_false]
                exact ⟨i, 1, rfl, by omega, fun _ => PS.cI (by omega) (by omega) (by omega) hv⟩
              · subst q3
                rw [show ((0 : Int) != 0) = false from rfl, cond_false, bne_iff_ne.2 q4, cond_true]; exact bad _ rfl
            · rw [bne_iff_ne.2 q3, cond_true]; exact bad _ rfl
      · rw [beq_false_of_ne k1, cond_false]
        by_cases k2 : kd = 2
        · subst k2
          rw [show ((2 : Int) == 2) = true from rfl, cond_true]
          by_cases q1 : k = 0
          · by_cases q2 : rg = 0
            · by_cases q3 : lf = (i : Int) - 1
              · subst q1; subst q2; subst q3
                rw [show ((0 : Int) != 0) = false from rfl, cond_false, cond_false, bne_self_eq_false, cond_false]
                exact ⟨f, d + 1, rfl, by omega, fun h => (hs h).nI (by omega) hv⟩
              · subst q1; subst q2
                rw [show ((0 : Int) != 0) = false from rfl, cond_false, cond_false, bne_iff_ne.2 q3, cond_true]; exact bad _ rfl
            · subst q1
              rw [show ((0 : Int) != 0) = false from rfl, cond_false, bne_iff_ne.2 q2, cond_true]; exact bad _ rfl
          · rw [bne_iff_ne.2 q1, cond_true]; exact bad _ rfl
        · rw [beq_false_of_ne k2, cond_false]
          have two : ∀ (o : Bool), kd = Tr.kd o → ∃ f' d', (bif (k != 0) then some ((-1 : Int), (0 : Int)) else bif (rg != (i : Int) - 1) then some (-1, 0) else bif (decide (f < 1)) then some (-1, 0) else bif (lf != (W (f - 1))) then some (-1, 0) else
              Option.bind (ref19_part_M (M' + 1) n l (W (f - 1))) fun r4 => some (r4.1, (W ((max r4.2 d) + 1)))) = some (f', d') ∧ (-1 ≤ f' ∧ f' ≤ 64 ∧ 0 ≤ d' ∧ d' ≤ (n + 1 : Nat)) ∧ (0 ≤ f' → PS l i f' d') := by
            intro o ho
            by_cases q1 : k = 0
            · by_cases q2 : rg = (i : Int) - 1
              · by_cases q4 : f < 1
                · subst q1; subst q2
                  rw [show ((0 : Int) != 0) = false from rfl, cond_false, bne_self_eq_false, cond_false, decide_eq_true q4, cond_true]; exact bad _ rfl
                · have hps := hs (by omega)
                  have hbd := hps.bd hl
                  rw [W_eq (n := f - 1) (by omega) (by omega)]
                  by_cases q3 : lf = f - 1
                  · subst q1; subst q2; subst q3
                    obtain ⟨f2, d2, e2, hb2, hs2⟩ := ih (f - 1) (by omega) (by omega) (by omega) (by omega)
                    rw [show ((0 : Int) != 0) = false from rfl, cond_false, bne_self_eq_false, cond_false, decide_eq_false q4, cond_false, bne_self_eq_false, cond_false, e2]
                    simp only [Option.bind_some]
                    rw [W_eq (n := max d2 d + 1) (by omega) (by omega)]
                    exact ⟨f2, max d2 d + 1, rfl, by omega, fun h => hps.bI o (hs2 h) (by omega) (by rw [hv, ho])⟩
                  · subst q1; subst q2
                    rw [show ((0 : Int) != 0) = false from rfl, cond_false, bne_self_eq_false, cond_false, decide_eq_false q4, cond_false, bne_iff_ne.2 q3, cond_true]; exact bad _ rfl
              · subst q1
                rw [show ((0 : Int) != 0) = false from rfl, cond_false, bne_iff_ne.2 q2, cond_true]; exact bad _ rfl
            · rw [bne_iff_ne.2 q1, cond_true]; exact bad _ rfl
          by_cases k3 : kd = 3
          · subst k3
            rw [show ((3 : Int) == 3) = true from rfl, cond_true]
            exact two false rfl
          · rw [beq_false_of_ne k3, cond_false]
            by_cases k4 : kd = 4
            · subst k4
              rw [show ((4 : Int) == 4) = true from rfl, cond_true]
              exact two true rfl
            · rw [beq_false_of_ne k4, cond_false]
              exact bad _ rfl
theorem rright_iff {N : Nat} (hN : 66 ≤ N) (hN2 : N ≤ 1000000000000000) (l : List T_RuleNode) : ∃ r, ref19_Right N l = some r ∧ (r = true ↔ Rt l) := by
  unfold ref19_Right
  by_cases h1 : (l.length : Int) < 1
  · rw [decide_eq_true h1, cond_true]
    refine ⟨false, rfl, (fun h => by cases h), ?_⟩
    rintro ⟨t, _, rfl⟩
    have := t.sz_pos
    rw [Tr.fl_len] at h1; omega
  · rw [decide_eq_false h1, cond_false]
    by_cases h2 : (l.length : Int) > 64
    · rw [decide_eq_true h2, cond_true]
      refine ⟨false, rfl, (fun h => by cases h), ?_⟩
      rintro ⟨t, ⟨_, _, h⟩, rfl⟩
      rw [Tr.fl_len] at h2; omega
    · rw [decide_eq_false h2, cond_false, W_eq (by omega) (by omega)]
      unfold ref19_part
      obtain ⟨f, d, e, hb, hs⟩ := rpart_sound (N := N) (by omega) (l := l) (by omega) N ((l.length : Int) - 1) (by omega) (by omega) (by omega) (by omega)
      rw [e]
      simp only [Option.bind_some]
      have back : Rt l → f = 0 ∧ d ≤ 16 := by
        rintro ⟨t, ⟨g1, g2, g3⟩, hl⟩
        have hA : At l t 0 := by rw [hl]; exact at_fl t
        have hsz : l.length = t.sz := by rw [hl, Tr.fl_len]
        have := rpart_fl (N := N) (by omega) (l := l) (by omega) t 0 N hA g1 (by omega)
        rw [show (((0 + t.sz : Nat) : Int) - 1) = (l.length : Int) - 1 by omega, e] at this
        simp only [Option.some.injEq, Prod.mk.injEq] at this
        exact ⟨by omega, by omega⟩
      by_cases q : f = 0
      · subst q
        rw [show ((0 : Int) == 0) = true from rfl, cond_true]
        refine ⟨_, rfl, fun h => ?_, fun h => decide_eq_true (back h).2⟩
        have h := of_decide_eq_true h
        obtain ⟨t, p, w1, w2, w3, w4, w5⟩ := hs (by omega)
        obtain rfl : p = 0 := by omega
        exact ⟨t, ⟨w1, by omega, by omega⟩, at_end w4 (by omega)⟩
      · rw [beq_false_of_ne q, cond_false]
        exact ⟨false, rfl, (fun h => by cases h), fun h => absurd (back h).1 q⟩
theorem rright_good {N : Nat} (hN : 66 ≤ N) (hN2 : N ≤ 1000000000000000) {t : Tr} (h : Good t) : ref19_Right N (t.fl 0) = some true := by
  obtain ⟨r, e, h2⟩ := rright_iff hN hN2 (t.fl 0)
  rw [e, h2.2 ⟨t, h, rfl⟩]
theorem rright_bad {N : Nat} (hN : 66 ≤ N) (hN2 : N ≤ 1000000000000000) {l : List T_RuleNode} (h : ¬ Rt l) : ref19_Right N l = some false := by
  obtain ⟨r, e, h2⟩ := rright_iff hN hN2 l
  cases r with
  | false => exact e
  | true => exact absurd (h2.1 rfl) h

/-! ### Check -/
theorem check_both (N : Nat) (l : List T_RuleNode) (c : Int) (hl : l.length ≤ 1000) : ∀ (m n i : Nat), i + m = l.length → m < n → ∃ r, rule_Check_L1 N n c l (l.length : Int) (i : Int) = some r ∧ ref19_Check_L1 N n l c (i : Int) = some r
  | 0, n, i, hm, hn => by
    obtain ⟨n', rfl⟩ : ∃ n', n = n' + 1 := ⟨n - 1, by omega⟩
    rw [rule_Check_L1_succ, decide_eq_false (by omega), cond_false, ref19_Check_L1_succ, decide_eq_false (by omega), cond_false]
    exact ⟨0, rfl, rfl⟩
  | m + 1, n, i, hm, hn => by
    obtain ⟨n', rfl⟩ : ∃ n', n = n' + 1 := ⟨n - 1, by omega⟩
    obtain ⟨r, h1, h2⟩ := check_both N l c hl m n' (i + 1) (by omega) (by omega)
    have e1 : W ((i : Int) + 1) = ((i + 1 : Nat) : Int) := by rw [W_eq (by omega) (by omega)]; omega
    rw [rule_Check_L1_succ, decide_eq_true (by omega), cond_true, inB_true (by omega), cond_true, ref19_Check_L1_succ, decide_eq_true (by omega), cond_true, inB_true (by omega), cond_true, cond_true, e1]
    dsimp only
    cases ((l.getD (i : Int).toNat D_RuleNode).1 == 1) with
    | false => rw [cond_false, cond_false]; exact ⟨r, h1, h2⟩
    | true =>
      rw [cond_true, cond_true]
      cases (decide ((l.getD (i : Int).toNat D_RuleNode).2.1 ≥ c)) with
      | false => rw [cond_false, cond_false]; exact ⟨r, h1, h2⟩
      | true => exact ⟨1, rfl, rfl⟩
theorem check_eq {N : Nat} (hN : 66 ≤ N) (hN2 : N ≤ 1000000000000000) (l : List T_RuleNode) (c : Int) : ∃ r, rule_Check N l c = some r ∧ ref19_Check N l c = some r := by
  unfold rule_Check ref19_Check
  by_cases h : Rt l
  · obtain ⟨t, ht, rfl⟩ := h
    rw [right_good hN hN2 ht, rright_good hN hN2 ht]
    simp only [Option.bind_some, Bool.not_true, cond_false]
    have := t.fl_len 0
    obtain ⟨_, _, h3⟩ := ht
    exact check_both N _ c (by omega) (t.fl 0).length N 0 (by omega) (by omega)
  · rw [right_bad hN hN2 h, rright_bad hN hN2 h]
    exact ⟨18, rfl, rfl⟩
/-! ### Eval -/
theorem value_fl (N : Nat) {l : List T_RuleNode} (hl : l.length ≤ 64) (v : List Int) : ∀ (t : Tr) (b n : Nat), At l t b → t.wf → t.dp ≤ n → ref19_value_M N n l v (((b + t.sz : Nat) : Int) - 1) = some (ev v t)
  | .c k, b, 0, _, _, h => absurd h (by simp [Tr.dp])
  | .n a, b, 0, _, _, h => absurd h (by simp [Tr.dp])
  | .b o x y, b, 0, _, _, h => absurd h (by simp [Tr.dp])
  | .c k, b, n + 1, hA, hw, _ => by
    obtain ⟨h1, h2⟩ := at_c.1 hA
    obtain ⟨w1, w2⟩ : 0 ≤ k ∧ k < 64 := hw
    have e : ((b + (Tr.c k).sz : Nat) : Int) - 1 = (b : Int) := by simp [Tr.sz]
    rw [e, ref19_value_M_succ]
    unfold ref19_value_R
    rw [inB_true (by omega), cond_true, Int.toNat_natCast]
    dsimp only
    rw [h2]
    dsimp only
    rw [show ((1 : Int) == 1) = true from rfl, cond_true]
    unfold ev
    by_cases q1 : k < (v.length : Int)
    · rw [decide_eq_false (by omega), cond_false, inB_true (by omega), cond_true, decide_eq_true q1, cond_true]
      by_cases q2 : -1 ≤ v.getD k.toNat 0
      · rw [decide_eq_false (by omega), cond_false, cond_true, decide_eq_true q2, cond_true]
        by_cases q3 : v.getD k.toNat 0 ≤ 1
        · rw [decide_eq_false (by omega), cond_false, cond_true, decide_eq_true q3, cond_true]
        · rw [decide_eq_true (by omega), cond_true, decide_eq_false q3, cond_false]; rfl
      · rw [decide_eq_true (by omega), cond_true, decide_eq_false q2, cond_false]; rfl
    · rw [decide_eq_true (by omega), cond_true, decide_eq_false q1, cond_false]
  | .n a, b, n + 1, hA, hw, hn => by
    obtain ⟨h0, h1, h2⟩ := at_n.1 hA
    have e : ((b + (Tr.n a).sz : Nat) : Int) - 1 = ((b + a.sz : Nat) : Int) := by simp [Tr.sz]; omega
    have ih := value_fl N hl v a b n h0 hw (by simpa [Tr.dp] using hn)
    have hb := ev_bd v a
    rw [e, ref19_value_M_succ]
    unfold ref19_value_R
    rw [inB_true (by omega), cond_true, Int.toNat_natCast]
    dsimp only
    rw [h2]
    dsimp only
    rw [show ((2 : Int) == 1) = false from rfl, cond_false, show ((2 : Int) == 2) = true from rfl, cond_true, ih]
    simp only [Option.bind_some]
    rw [W_eq (by omega) (by omega)]
    rfl
  | .b o x y, b, n + 1, hA, hw, hn => by
    obtain ⟨h0, h0', h1, h2⟩ := at_b.1 hA
    have e : ((b + (Tr.b o x y).sz : Nat) : Int) - 1 = ((b + x.sz + y.sz : Nat) : Int) := by simp [Tr.sz]; omega
    have hn' : max x.dp y.dp ≤ n := by simpa [Tr.dp] using hn
    have ih := value_fl N hl v y (b + x.sz) n h0' hw.2 (by omega)
    have ih2 := value_fl N hl v x b n h0 hw.1 (by omega)
    rw [e, ref19_value_M_succ]
    unfold ref19_value_R
    rw [inB_true (by omega), cond_true, Int.toNat_natCast]
    dsimp only
    rw [h2]
    dsimp only
    rw [ih, ih2]
    cases o <;> rfl
theorem reval_good {N : Nat} (hN : 66 ≤ N) (hN2 : N ≤ 1000000000000000) {t : Tr} (h : Good t) (v : List Int) : ref19_Eval N (t.fl 0) v = some (ev v t) := by
  unfold ref19_Eval
  rw [rright_good hN hN2 h]
  simp only [Option.bind_some, Bool.not_true, cond_false]
  have hlen := t.fl_len 0
  have hs := t.sz_pos
  have hdp := t.dp_le
  obtain ⟨h1, h2, h3⟩ := h
  unfold ref19_value
  have := value_fl N (l := t.fl 0) (by omega) v t 0 N (at_fl t) h1 (by omega)
  rw [show (((0 + t.sz : Nat) : Int) - 1) = W (((t.fl 0).length : Int) - 1) by rw [W_eq (by omega) (by omega)]; omega] at this
  rw [this]
  rfl
theorem evals_eq {N : Nat} (hN : 66 ≤ N) (hN2 : N ≤ 1000000000000000) (l : List T_RuleNode) (v : List Int) : ∃ r, rule_Eval N l v = some r ∧ ref19_Eval N l v = some r := by
  by_cases h : Rt l
  · obtain ⟨t, ht, rfl⟩ := h
    exact ⟨_, eval_good hN hN2 ht v, reval_good hN hN2 ht v⟩
  · refine ⟨0, eval_bad hN hN2 h v, ?_⟩
    unfold ref19_Eval
    rw [rright_bad hN hN2 h]
    rfl

/-! ### Uses -/
def usd (c : Int) (x : T_RuleNode) : Bool := x.1 == 1 && x.2.1 == c
def outC (l : List T_RuleNode) : Nat → Nat → List Int
  | _, 0 => []
  | c, m + 1 => bif l.any (usd c) then (c : Int) :: outC l (c + 1) m else outC l (c + 1) m
theorem fl_cond : ∀ (t : Tr) (p : Nat), t.wf → ∀ x ∈ t.fl p, x.1 = 1 → 0 ≤ x.2.1 ∧ x.2.1 < 64
  | .c k, p, hw, x, hx, _ => by rw [Tr.fl, List.mem_singleton] at hx; subst hx; exact hw
  | .n a, p, hw, x, hx, h1 => by
    rw [Tr.fl, List.mem_append, List.mem_singleton] at hx
    rcases hx with hx | rfl
    · exact fl_cond a p hw x hx h1
    · exact absurd h1 (by show ¬ (2 : Int) = 1; omega)
  | .b o y z, p, hw, x, hx, h1 => by
    rw [Tr.fl, List.mem_append, List.mem_append, List.mem_singleton] at hx
    rcases hx with hx | hx | rfl
    · exact fl_cond y p hw.1 x hx h1
    · exact fl_cond z _ hw.2 x hx h1
    · have h1 : Tr.kd o = 1 := h1
      rcases Tr.kd_cases o with e | e <;> omega
theorem getB_set (h : List Bool) (i j : Nat) (x : Bool) (hi : i < h.length) : (h.set i x).getD j false = if j = i then x else h.getD j false := by
  rw [List.getD_eq_getElem?_getD, List.getElem?_set]
  by_cases e : i = j
  · subst e; rw [if_pos rfl, if_pos hi, if_pos rfl]; rfl
  · rw [if_neg e, if_neg (fun h => e h.symm), List.getD_eq_getElem?_getD]
theorem setR_spec : ∀ (l : List T_RuleNode) (h : List Bool), h.length = 64 → (∀ x ∈ l, x.1 = 1 → 0 ≤ x.2.1 ∧ x.2.1 < 64) → ∃ h', setR l h = some h' ∧ h'.length = 64 ∧ ∀ c : Nat, c < 64 → h'.getD c false = (h.getD c false || l.any (usd c))
  | [], h, hh, _ => ⟨h, rfl, hh, fun c _ => by simp⟩
  | x :: l, h, hh, hx => by
    simp only [setR]
    by_cases h1 : x.1 = 1
    · obtain ⟨b0, b1⟩ := hx x (List.mem_cons_self ..) h1
      rw [decide_eq_true h1, cond_true, inB_true ⟨b0, b1⟩, cond_true]
      obtain ⟨h', e, e1, e2⟩ := setR_spec l (h.set x.2.1.toNat true) (by simpa using hh) (fun y hy => hx y (List.mem_cons_of_mem _ hy))
      refine ⟨h', e, e1, fun c hc => ?_⟩
      rw [e2 c hc, getB_set _ _ _ _ (by omega), List.any_cons]
      unfold usd
      rw [h1]
      by_cases q : c = x.2.1.toNat
      · rw [if_pos q, show (x.2.1 == (c : Int)) = true by rw [beq_iff_eq]; omega]; simp
      · rw [if_neg q, beq_false_of_ne (show x.2.1 ≠ (c : Int) by omega)]; simp
    · rw [decide_eq_false h1, cond_false]
      obtain ⟨h', e, e1, e2⟩ := setR_spec l h hh (fun y hy => hx y (List.mem_cons_of_mem _ hy))
      refine ⟨h', e, e1, fun c hc => ?_⟩
      rw [e2 c hc, List.any_cons]
      unfold usd
      rw [beq_false_of_ne h1]; simp
theorem outU_eq (l : List T_RuleNode) : ∀ (h : List Bool) (c : Nat), (∀ j, j < h.length → h.getD j false = l.any (usd ((c + j : Nat) : Int))) → outU h c = outC l c h.length
  | [], c, _ => rfl
  | b :: bs, c, hb => by
    have h0 := hb 0 (by simp)
    simp only [List.getD_cons_zero, Nat.add_zero] at h0
    have ih := outU_eq l bs (c + 1) (fun j hj => by
      have := hb (j + 1) (by simp; omega)
      simp only [List.getD_cons_succ] at this
      rw [this, show c + (j + 1) = c + 1 + j by omega])
    simp only [outU, List.length_cons, outC, ih, h0]
theorem usesM_spec {l : List T_RuleNode} (hl : l.length ≤ 1000) (hx : ∀ x ∈ l, x.1 = 1 → 0 ≤ x.2.1 ∧ x.2.1 < 64) : usesM l = some (outC l 0 64) := by
  unfold usesM
  rw [decide_eq_true (by omega), cond_true]
  obtain ⟨h', e, e1, e2⟩ := setR_spec l (List.replicate 64 false) (by simp) hx
  rw [e]
  simp only
  rw [outU_eq l h' 0 (fun j hj => by
    rw [e2 j (by omega), Nat.zero_add]
    have : (List.replicate 64 false).getD j false = false := by rw [List.getD_eq_getElem?_getD, List.getElem?_replicate]; split <;> rfl
    rw [this, Bool.false_or]), e1]
theorem ruses_in (N n1 : Nat) (l : List T_RuleNode) (hl : l.length ≤ 1000) (c : Int) (acc : List Int) : ∀ (m n i : Nat) (fg : Bool), i + m = l.length → m < n → ref19_Uses_L2 N n1 n l c fg (i : Int) acc =
    bif fg || (l.drop i).any (usd c) then (bif fitsB (acc.length + 1) 8 then ref19_Uses_L1 N n1 l (W (c + 1)) (acc ++ [c]) else none) else ref19_Uses_L1 N n1 l (W (c + 1)) acc
  | 0, n, i, fg, hm, hn => by
    obtain ⟨n', rfl⟩ : ∃ n', n = n' + 1 := ⟨n - 1, by omega⟩
    rw [ref19_Uses_L2_succ, decide_eq_false (by omega), cond_false, List.drop_eq_nil_of_le (by omega)]
    simp
  | m + 1, n, i, fg, hm, hn => by
    obtain ⟨n', rfl⟩ : ∃ n', n = n' + 1 := ⟨n - 1, by omega⟩
    have e1 : W ((i : Int) + 1) = ((i + 1 : Nat) : Int) := by rw [W_eq (by omega) (by omega)]; omega
    have hd : l.drop i = l.getD i D_RuleNode :: l.drop (i + 1) := by
      rw [List.drop_eq_getElem_cons (by omega), List.getD_eq_getElem?_getD, List.getElem?_eq_getElem (by omega)]; rfl
    have ih := fun f => ruses_in N n1 l hl c acc m n' (i + 1) f (by omega) (by omega)
    rw [ref19_Uses_L2_succ, decide_eq_true (by omega), cond_true, e1, hd, List.any_cons]
    cases fg with
    | true => rw [cond_true, ih true]; simp
    | false =>
      rw [cond_false, inB_true (by omega), cond_true, cond_true, Int.toNat_natCast, Bool.false_or]
      unfold usd
      by_cases q : (l.getD i D_RuleNode).1 = 1
      · rw [q, show ((1 : Int) == 1) = true from rfl, cond_true, ih, Bool.true_and]; rfl
      · rw [beq_false_of_ne q, cond_false, ih, Bool.false_and]; rfl
theorem ruses_out (N : Nat) (l : List T_RuleNode) (hl : l.length ≤ 1000) (hN : l.length < N) : ∀ (m n c : Nat) (acc : List Int), c + m = 64 → m < n → acc.length ≤ c → ref19_Uses_L1 N n l (c : Int) acc = some (acc ++ outC l c m)
  | 0, n, c, acc, hm, hn, ha => by
    obtain ⟨n', rfl⟩ : ∃ n', n = n' + 1 := ⟨n - 1, by omega⟩
    rw [ref19_Uses_L1_succ, decide_eq_false (by omega), cond_false]
    simp [outC]
  | m + 1, n, c, acc, hm, hn, ha => by
    obtain ⟨n', rfl⟩ : ∃ n', n = n' + 1 := ⟨n - 1, by omega⟩
    have e1 : W ((c : Int) + 1) = ((c + 1 : Nat) : Int) := by rw [W_eq (by omega) (by omega)]; omega
    have h0 := ruses_in N n' l hl (c : Int) acc l.length N 0 false (by omega) hN
    rw [show ((0 : Nat) : Int) = 0 from rfl] at h0
    rw [ref19_Uses_L1_succ, decide_eq_true (by omega), cond_true, h0, List.drop_zero, Bool.false_or, e1]
    simp only [outC]
    cases l.any (usd (c : Int)) with
    | true =>
      rw [cond_true, fitsB_true (by omega), cond_true, ruses_out N l hl hN m n' (c + 1) (acc ++ [(c : Int)]) (by omega) (by omega) (by simp; omega)]
      simp
    | false => rw [cond_false, ruses_out N l hl hN m n' (c + 1) acc (by omega) (by omega) (by omega)]; simp
theorem ints_loop (N : Nat) (l : List Int) (hl : l.length ≤ 1000000) : ∀ (m n i : Nat), i + m = l.length → m < n → ref01_Ints_L1 N n l l (i : Int) = some true
  | 0, n, i, hm, hn => by
    obtain ⟨n', rfl⟩ : ∃ n', n = n' + 1 := ⟨n - 1, by omega⟩
    rw [ref01_Ints_L1_succ, decide_eq_false (by omega), cond_false]
  | m + 1, n, i, hm, hn => by
    obtain ⟨n', rfl⟩ : ∃ n', n = n' + 1 := ⟨n - 1, by omega⟩
    rw [ref01_Ints_L1_succ, decide_eq_true (by omega), cond_true, inB_true (by omega), cond_true, cond_true, bne_self_eq_false, cond_false, show W ((i : Int) + 1) = ((i + 1 : Nat) : Int) by rw [W_eq (by omega) (by omega)]; omega]
    exact ints_loop N l hl m n' (i + 1) (by omega) (by omega)
theorem ints_refl {N : Nat} {l : List Int} (hl : l.length ≤ 1000000) (hN : l.length < N) : ref01_Ints N l l = some true := by
  unfold ref01_Ints
  rw [bne_self_eq_false, cond_false]
  exact ints_loop N l hl l.length N 0 (by omega) hN
theorem outC_len (l : List T_RuleNode) : ∀ (m c : Nat), (outC l c m).length ≤ m
  | 0, c => Nat.le_refl _
  | m + 1, c => by
    have := outC_len l m (c + 1)
    simp only [outC]
    cases l.any (usd (c : Int)) with
    | true => rw [cond_true, List.length_cons]; omega
    | false => rw [cond_false]; omega
theorem uses_eq {N : Nat} (hN : 66 ≤ N) (hN2 : N ≤ 1000000000000000) (l : List T_RuleNode) : ∃ r, rule_Uses N l = some r ∧ ref19_Uses N l = some r ∧ r.length ≤ 64 := by
  unfold rule_Uses ref19_Uses
  by_cases h : Rt l
  · obtain ⟨t, ht, rfl⟩ := h
    rw [right_good hN hN2 ht, rright_good hN hN2 ht]
    simp only [Option.bind_some, Bool.not_true, cond_false]
    have hlen := t.fl_len 0
    obtain ⟨h1, _, h3⟩ := ht
    rw [usesM_spec (by omega) (fl_cond t 0 h1)]
    have := ruses_out N (t.fl 0) (by omega) (by omega) 64 N 0 [] (by omega) (by omega) (by simp)
    rw [show ((0 : Nat) : Int) = 0 from rfl] at this
    rw [this]
    exact ⟨_, rfl, rfl, outC_len _ 64 0⟩
  · rw [right_bad hN hN2 h, rright_bad hN hN2 h]
    exact ⟨[], rfl, rfl, by simp⟩

/-! ### The law -/
theorem modS_in (n : Int) {m : Int} (h : 1 ≤ m) : 0 ≤ modS n m ∧ modS n m < m := modS_range h
theorem made_spec {N : Nat} (hN : 66 ≤ N) {a : List Int} (ha : ∀ x, x ∈ a → (Lit.int .u8 x).wf = true) (hla : a.length ≤ maxLen) (i by' : Int) : ∃ l, law19_made N a i by' = some l := by
  unfold law19_made
  obtain ⟨d, e, hd⟩ := new_spec N ha hla
  rw [e, bind_some']
  obtain ⟨x, d1, e1, _, hx, x1, x2, hd1⟩ := drawn (N := N) hN (c := 6) (by omega) (by omega) 4 (by omega) hd
  rw [show ((4 : Nat) : Int) = 4 from rfl] at e1
  dsimp only
  rw [e1, bind_some']
  have hlen := x.fl_len 0
  have hp := x.sz_pos
  have h3 := hx.2.2
  dsimp only
  rw [mod_eq _ _ _ (by omega), bind_some']
  have hm := modS_in i (m := ((x.fl 0).length : Int)) (by omega)
  rw [inB_true (by omega), cond_true]
  obtain ⟨v, d2, e2, _, _, _⟩ := next_spec (N := N) (by omega) hd1 (n := 9) (by omega)
  rw [e2, bind_some']
  dsimp only
  cases (v == 1) with
  | true => exact ⟨_, rfl⟩
  | false =>
    rw [cond_false]
    cases (v == 2) with
    | true => exact ⟨_, rfl⟩
    | false =>
      rw [cond_false]
      cases (v == 3) with
      | true => exact ⟨_, rfl⟩
      | false =>
        rw [cond_false]
        cases (v == 4) with
        | true => exact ⟨_, rfl⟩
        | false =>
          rw [cond_false]
          cases (v == 5) with
          | true => rw [cond_true, W_eq (by omega) (by omega), slB_true (by omega), cond_true]; exact ⟨_, rfl⟩
          | false => exact ⟨_, rfl⟩
theorem checks_loop {N : Nat} (hN : 66 ≤ N) (hN2 : N ≤ 1000000000000000) (hA : law19_awake N = some true) (c : Int) (v : List Int) (ls : List (List T_RuleNode)) (hls : ls.length ≤ 1000) : ∀ (m n i : Nat), i + m = ls.length → m < n → law19_RuleChecks_L1 N n c v ls (ls.length : Int) (i : Int) = some true
  | 0, n, i, hm, hn => by
    obtain ⟨n', rfl⟩ : ∃ n', n = n' + 1 := ⟨n - 1, by omega⟩
    rw [law19_RuleChecks_L1_succ, decide_eq_false (by omega), cond_false, hA]
    rfl
  | m + 1, n, i, hm, hn => by
    obtain ⟨n', rfl⟩ : ∃ n', n = n' + 1 := ⟨n - 1, by omega⟩
    rw [law19_RuleChecks_L1_succ, decide_eq_true (by omega), cond_true, inB_true (by omega), cond_true]
    obtain ⟨r, h1, h2⟩ := check_eq hN hN2 (ls.getD (i : Int).toNat []) c
    obtain ⟨r2, h3, h4⟩ := check_eq hN hN2 (ls.getD (i : Int).toNat []) (v.length : Int)
    obtain ⟨u, h5, h6, h7⟩ := uses_eq hN hN2 (ls.getD (i : Int).toNat [])
    obtain ⟨w, h8, h9⟩ := evals_eq hN hN2 (ls.getD (i : Int).toNat []) v
    rw [h1, bind_some', h2, bind_some', bne_self_eq_false, cond_false, h3, bind_some', h4, bind_some', bne_self_eq_false, cond_false, h5, bind_some', h6, bind_some', ints_refl (by omega) (by omega), bind_some', Bool.not_true, cond_false, h8, bind_some', h9, bind_some', bne_self_eq_false, cond_false]
    rw [show W ((i : Int) + 1) = ((i + 1 : Nat) : Int) by rw [W_eq (by omega) (by omega)]; omega]
    exact checks_loop hN hN2 hA c v ls hls m n' (i + 1) (by omega) (by omega)
theorem ruleChecks_ok {a more : List Int} (ha : ∀ x, x ∈ a → (Lit.int .u8 x).wf = true) (hla : a.length ≤ maxLen) (raw : List T_RuleNode) (i by' c : Int) (hb : ∀ x, x ∈ more → (Lit.int .u8 x).wf = true) (hlb : more.length ≤ maxLen) : law19_RuleChecks 1000 a raw i by' c more = some true := by
  unfold law19_RuleChecks
  by_cases h : (raw.length : Int) > 80
  · rw [decide_eq_true h, cond_true, awake_true]; rfl
  · rw [decide_eq_false h, cond_false]
    obtain ⟨v, e, _, _⟩ := values_spec (N := 1000) (by omega) hb hlb
    rw [e, bind_some']
    obtain ⟨l, e2⟩ := made_spec (N := 1000) (by omega) ha hla i by'
    rw [e2, bind_some']
    exact checks_loop (by omega) (by omega) awake_true c v [l, raw] (by simp) 2 1000 0 (by simp) (by omega)
theorem ruleChecks_any (dargs : List DV) (h : TyAs [(false, [.sl [.it .u8]]), (false, [.sl [.it .i64, .it .i64, .it .i64, .it .i64]]), (false, [.it .i64]), (false, [.it .i64]), (false, [.it .i64]), (false, [.sl [.it .u8]])] dargs) : CallOK Tryd.prog 3 dargs [] 0 (B true) [] 0 :=
  law_any (law19_RuleChecks_pure 1000) (fun x hx => ruleChecks_ok hx.1.2 hx.1.1 _ _ _ _ hx.2.2.2.2.2.2 hx.2.2.2.2.2.1) rfl dargs h
end Go.Proofs.YthfejkflhpifnaaDoor
