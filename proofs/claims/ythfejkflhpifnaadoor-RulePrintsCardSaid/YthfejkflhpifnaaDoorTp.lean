/- Plain laws: the reference's text and reading of rules; RulePrints. No condition of its own. -/
import Derived.Test.YthfejkflhpifnaaDoorM
import Derived.Test.YthfejkflhpifnaaDoorPxN
set_option linter.all false
namespace Go.Proofs.YthfejkflhpifnaaDoor
open Go.Pv M

inductive Tr where
  | c (k : Int)
  | n (a : Tr)
  | b (o : Bool) (x y : Tr)
namespace Tr
def sz : Tr → Nat
  | .c _ => 1
  | .n a => a.sz + 1
  | .b _ x y => x.sz + y.sz + 1
def dp : Tr → Nat
  | .c _ => 1
  | .n a => a.dp + 1
  | .b _ x y => max x.dp y.dp + 1
def kd (o : Bool) : Int := bif o then 4 else 3
def fl : Tr → Nat → List T_RuleNode
  | .c k, _ => [(1, (k, (0, 0)))]
  | .n a, p => a.fl p ++ [(2, (0, (((p + a.sz : Nat) : Int) - 1, 0)))]
  | .b o x y, p => x.fl p ++ (y.fl (p + x.sz) ++ [(kd o, (0, (((p + x.sz : Nat) : Int) - 1, ((p + x.sz + y.sz : Nat) : Int) - 1)))])
def wf : Tr → Prop
  | .c k => 0 ≤ k ∧ k < 64
  | .n a => a.wf
  | .b _ x y => x.wf ∧ y.wf
theorem sz_pos : ∀ t : Tr, 0 < t.sz
  | .c _ => Nat.zero_lt_one
  | .n a => Nat.succ_pos _
  | .b _ x y => Nat.succ_pos _
theorem dp_pos : ∀ t : Tr, 0 < t.dp
  | .c _ => Nat.zero_lt_one
  | .n a => Nat.succ_pos _
  | .b _ x y => Nat.succ_pos _
theorem dp_le : ∀ t : Tr, t.dp ≤ t.sz
  | .c _ => Nat.le_refl _
  | .n a => Nat.succ_le_succ a.dp_le
  | .b _ x y => by
    have := x.dp_le
    have := y.dp_le
    simp only [dp, sz]; omega
theorem fl_len : ∀ (t : Tr) (p : Nat), (t.fl p).length = t.sz
  | .c _, _ => rfl
  | .n a, p => by simp [fl, sz, fl_len a]
  | .b _ x y, p => by simp [fl, sz, fl_len x, fl_len y]; omega
theorem kd_cases (o : Bool) : kd o = 3 ∨ kd o = 4 := by cases o; exact .inl rfl; exact .inr rfl
end Tr

def Seg (l : List T_RuleNode) (b m : Nat) : List T_RuleNode := (l.drop b).take m
theorem seg_add (l : List T_RuleNode) (b m k : Nat) : Seg l b (m + k) = Seg l b m ++ Seg l (b + m) k := by
  unfold Seg; rw [List.take_add, List.drop_drop]
theorem seg_one {l : List T_RuleNode} {b : Nat} (h : b < l.length) : Seg l b 1 = [l.getD b D_RuleNode] := by
  unfold Seg
  rw [List.drop_eq_getElem_cons h, List.take_succ_cons, List.take_zero, List.getD_eq_getElem?_getD, List.getElem?_eq_getElem h]
  rfl
theorem seg_len {l : List T_RuleNode} {b m : Nat} (h : b + m ≤ l.length) : (Seg l b m).length = m := by
  unfold Seg; simp; omega
def At (l : List T_RuleNode) (t : Tr) (b : Nat) : Prop := b + t.sz ≤ l.length ∧ Seg l b t.sz = t.fl b
theorem at_c {l : List T_RuleNode} {k : Int} {b : Nat} : At l (.c k) b ↔ b < l.length ∧ l.getD b D_RuleNode = (1, (k, (0, 0))) := by
  constructor
  · rintro ⟨h1, h2⟩
    have h1 : b < l.length := h1
    refine ⟨h1, ?_⟩
    have h2 : Seg l b 1 = [(1, (k, (0, 0)))] := h2
    rw [seg_one h1] at h2
    exact (List.cons.inj h2).1
  · rintro ⟨h1, h2⟩
    refine ⟨h1, ?_⟩
    show Seg l b 1 = [(1, (k, (0, 0)))]
    rw [seg_one h1, h2]
theorem at_n {l : List T_RuleNode} {a : Tr} {b : Nat} : At l (.n a) b ↔ At l a b ∧ b + a.sz < l.length ∧ l.getD (b + a.sz) D_RuleNode = (2, (0, (((b + a.sz : Nat) : Int) - 1, 0))) := by
  constructor
  · rintro ⟨h1, h2⟩
    have h1 : b + (a.sz + 1) ≤ l.length := h1
    have h2 : Seg l b (a.sz + 1) = a.fl b ++ [(2, (0, (((b + a.sz : Nat) : Int) - 1, 0)))] := h2
    rw [seg_add, seg_one (by omega)] at h2
    obtain ⟨h3, h4⟩ := List.append_inj h2 (by rw [seg_len (by omega), Tr.fl_len])
    exact ⟨⟨by omega, h3⟩, by omega, (List.cons.inj h4).1⟩
  · rintro ⟨⟨h1, h2⟩, h3, h4⟩
    refine ⟨by show b + (a.sz + 1) ≤ l.length; omega, ?_⟩
    show Seg l b (a.sz + 1) = a.fl b ++ [(2, (0, (((b + a.sz : Nat) : Int) - 1, 0)))]
    rw [seg_add, seg_one h3, h2, h4]
theorem at_b {l : List T_RuleNode} {o : Bool} {x y : Tr} {b : Nat} : At l (.b o x y) b ↔ At l x b ∧ At l y (b + x.sz) ∧ b + x.sz + y.sz < l.length ∧ l.getD (b + x.sz + y.sz) D_RuleNode = (Tr.kd o, (0, (((b + x.sz : Nat) : Int) - 1, ((b + x.sz + y.sz : Nat) : Int) - 1))) := by
  constructor
  · rintro ⟨h1, h2⟩
    have h1 : b + (x.sz + y.sz + 1) ≤ l.length := h1
    have h2 : Seg l b (x.sz + y.sz + 1) = x.fl b ++ (y.fl (b + x.sz) ++ [(Tr.kd o, (0, (((b + x.sz : Nat) : Int) - 1, ((b + x.sz + y.sz : Nat) : Int) - 1)))]) := h2
    rw [Nat.add_assoc x.sz, seg_add, seg_add, seg_one (by omega)] at h2
    obtain ⟨h3, h4⟩ := List.append_inj h2 (by rw [seg_len (by omega), Tr.fl_len])
    obtain ⟨h5, h6⟩ := List.append_inj h4 (by rw [seg_len (by omega), Tr.fl_len])
    exact ⟨⟨by omega, h3⟩, ⟨by omega, h5⟩, by omega, (List.cons.inj h6).1⟩
  · rintro ⟨⟨h1, h2⟩, ⟨h3, h4⟩, h5, h6⟩
    refine ⟨by show b + (x.sz + y.sz + 1) ≤ l.length; omega, ?_⟩
    show Seg l b (x.sz + y.sz + 1) = x.fl b ++ (y.fl (b + x.sz) ++ [(Tr.kd o, (0, (((b + x.sz : Nat) : Int) - 1, ((b + x.sz + y.sz : Nat) : Int) - 1)))])
    rw [Nat.add_assoc x.sz, seg_add, seg_add, seg_one h5, h2, h4, h6]
theorem at_fl (t : Tr) : At (t.fl 0) t 0 := by
  refine ⟨by rw [Tr.fl_len]; omega, ?_⟩
  unfold Seg
  rw [List.drop_zero, List.take_of_length_le (by rw [Tr.fl_len]; omega)]
theorem at_end {l : List T_RuleNode} {t : Tr} (h : At l t 0) (hl : l.length = t.sz) : l = t.fl 0 := by
  have := h.2
  unfold Seg at this
  rwa [List.drop_zero, List.take_of_length_le (by omega)] at this

/-! ### part of the program -/
theorem part_fl (N : Nat) {l : List T_RuleNode} (hl : l.length ≤ 64) : ∀ (t : Tr) (b n : Nat), At l t b → t.wf → t.dp ≤ n → rule_part_M N n l (((b + t.sz : Nat) : Int) - 1) = some ((b : Int), ((t.dp : Int), true))
  | .c k, b, 0, _, _, h => absurd h (by simp [Tr.dp])
  | .n a, b, 0, _, _, h => absurd h (by simp [Tr.dp])
  | .b o x y, b, 0, _, _, h => absurd h (by simp [Tr.dp])
  | .c k, b, n + 1, hA, hw, _ => by
    obtain ⟨h1, h2⟩ := at_c.1 hA
    obtain ⟨w1, w2⟩ : 0 ≤ k ∧ k < 64 := hw
    have e : ((b + (Tr.c k).sz : Nat) : Int) - 1 = (b : Int) := by simp [Tr.sz]
    rw [e, rule_part_M_succ]
    unfold rule_part_R
    rw [decide_eq_false (by omega), cond_false, inB_true (by omega), cond_true, Int.toNat_natCast]
    dsimp only
    rw [h2]
    simp [w1, w2, Tr.dp]
  | .n a, b, n + 1, hA, hw, hn => by
    obtain ⟨h0, h1, h2⟩ := at_n.1 hA
    have e : ((b + (Tr.n a).sz : Nat) : Int) - 1 = ((b + a.sz : Nat) : Int) := by simp [Tr.sz]; omega
    have ih := part_fl N hl a b n h0 hw (by simpa [Tr.dp] using hn)
    have hd : a.dp ≤ 64 := by have := a.dp_le; omega
    rw [e, rule_part_M_succ]
    unfold rule_part_R
    rw [decide_eq_false (by omega), cond_false, inB_true (by omega), cond_true, Int.toNat_natCast]
    dsimp only
    rw [h2, W_eq (by omega) (by omega), ih]
    simp [Tr.dp, W_eq (n := (a.dp : Int) + 1) (by omega) (by omega)]
  | .b o x y, b, n + 1, hA, hw, hn => by
    obtain ⟨h0, h0', h1, h2⟩ := at_b.1 hA
    have e : ((b + (Tr.b o x y).sz : Nat) : Int) - 1 = ((b + x.sz + y.sz : Nat) : Int) := by simp [Tr.sz]; omega
    have hn' : max x.dp y.dp ≤ n := by simpa [Tr.dp] using hn
    have ih := part_fl N hl y (b + x.sz) n h0' hw.2 (by omega)
    have ih2 := part_fl N hl x b n h0 hw.1 (by omega)
    have hd : x.dp ≤ 64 := by have := x.dp_le; omega
    have hd2 : y.dp ≤ 64 := by have := y.dp_le; omega
    have em : max (x.dp : Int) (y.dp : Int) = ((max x.dp y.dp : Nat) : Int) := by omega
    rw [e, rule_part_M_succ]
    unfold rule_part_R
    rw [decide_eq_false (by omega), cond_false, inB_true (by omega), cond_true, Int.toNat_natCast]
    dsimp only
    rw [h2, W_eq (n := ((b + x.sz + y.sz : Nat) : Int) - 1) (by omega) (by omega), ih]
    simp only [Option.bind_some]
    rw [W_eq (n := ((b + x.sz : Nat) : Int) - 1) (by omega) (by omega), ih2]
    simp only [Option.bind_some]
    rw [em, W_eq (n := ((max x.dp y.dp : Nat) : Int) + 1) (by omega) (by omega)]
    rcases Tr.kd_cases o with e | e <;> rw [e] <;> simp [Tr.dp]

/-- What a part that is right is. -/
def PS (l : List T_RuleNode) (j : Int) (f d : Int) : Prop := ∃ (t : Tr) (p : Nat), t.wf ∧ f = (p : Int) ∧ d = (t.dp : Int) ∧ At l t p ∧ j + 1 = ((p + t.sz : Nat) : Int)
theorem PS.bd {l : List T_RuleNode} {j : Int} {f d : Int} (h : PS l j f d) (hl : l.length ≤ 64) : 0 ≤ f ∧ f ≤ j ∧ 0 ≤ d ∧ d ≤ 64 := by
  obtain ⟨t, p, _, rfl, rfl, ⟨h1, _⟩, h2⟩ := h
  have := t.sz_pos
  have := t.dp_le
  omega
theorem PS.cI {l : List T_RuleNode} {i : Nat} {k : Int} (hi : i < l.length) (h0 : 0 ≤ k) (h1 : k < 64) (hv : l.getD i D_RuleNode = (1, (k, (0, 0)))) : PS l i i 1 :=
  ⟨.c k, i, ⟨h0, h1⟩, rfl, rfl, at_c.2 ⟨hi, hv⟩, by simp [Tr.sz]⟩
theorem PS.nI {l : List T_RuleNode} {i : Nat} {f d : Int} (h : PS l ((i : Int) - 1) f d) (hi : i < l.length) (hv : l.getD i D_RuleNode = (2, (0, ((i : Int) - 1, 0)))) : PS l i f (d + 1) := by
  obtain ⟨t, p, h1, h2, h3, h4, h5⟩ := h
  have e : i = p + t.sz := by omega
  refine ⟨.n t, p, h1, h2, by rw [h3]; simp [Tr.dp], at_n.2 ⟨h4, by omega, ?_⟩, by simp [Tr.sz]; omega⟩
  rw [← e]; exact hv
theorem PS.bI {l : List T_RuleNode} {i : Nat} {f d f2 d2 : Int} (o : Bool) (h : PS l ((i : Int) - 1) f d) (h' : PS l (f - 1) f2 d2) (hi : i < l.length) (hv : l.getD i D_RuleNode = (Tr.kd o, (0, (f - 1, (i : Int) - 1)))) : PS l i f2 (max d2 d + 1) := by
  obtain ⟨y, p, h1, h2, h3, h4, h5⟩ := h
  obtain ⟨x, p2, g1, g2, g3, g4, g5⟩ := h'
  have e : i = p + y.sz := by omega
  have e2 : p = p2 + x.sz := by omega
  refine ⟨.b o x y, p2, ⟨g1, h1⟩, g2, ?_, at_b.2 ⟨g4, e2 ▸ h4, by omega, ?_⟩, by simp [Tr.sz]; omega⟩
  · rw [g3, h3]; simp only [Tr.dp]; omega
  · rw [← e2, ← e, hv, h2]
theorem part_sound (N : Nat) {l : List T_RuleNode} (hl : l.length ≤ 64) : ∀ (n : Nat) (j : Int), -1 ≤ j → j < l.length → j + 1 < n → n ≤ 1000000000000000 → ∃ f d ok, rule_part_M N n l j = some (f, (d, ok)) ∧ (0 ≤ f ∧ f ≤ 64 ∧ 0 ≤ d ∧ d ≤ n) ∧ (ok = true → PS l j f d) := by
  intro n
  induction n with
  | zero => intro j h0 h1 h2; omega
  | succ n ih =>
    intro j h0 h1 h2 h3
    rw [rule_part_M_succ]
    unfold rule_part_R
    by_cases hj : j < 0
    · rw [decide_eq_true hj, cond_true]
      exact ⟨0, 0, false, rfl, by omega, fun h => by cases h⟩
    · obtain ⟨i, rfl⟩ : ∃ i : Nat, j = i := ⟨j.toNat, by omega⟩
      rw [decide_eq_false hj, cond_false, inB_true (by omega), cond_true, Int.toNat_natCast]
      dsimp only
      generalize hv : l.getD i D_RuleNode = v
      obtain ⟨kd, k, lf, rg⟩ := v
      dsimp only
      rw [W_eq (n := (i : Int) - 1) (by omega) (by omega)]
      obtain ⟨f, d, ok, e, hb, hs⟩ := ih ((i : Int) - 1) (by omega) (by omega) (by omega) (by omega)
      rw [e]
      simp only [Option.bind_some]
      rw [W_eq (n := d + 1) (by omega) (by omega)]
      by_cases k1 : kd = 1
      · subst k1
        have e1 : ((1 : Int) == 1) = true := rfl
        rw [e1, cond_true]
        by_cases q1 : lf = 0
        · by_cases q2 : rg = 0
          · by_cases q3 : k ≥ 0
            · subst q1; subst q2
              rw [show ((0 : Int) == 0) = true from rfl, cond_true, cond_true, decide_eq_true q3, cond_true]
              exact ⟨i, 1, _, rfl, by omega, fun h => PS.cI (by omega) q3 (of_decide_eq_true h) hv⟩
            · subst q1; subst q2
              rw [show ((0 : Int) == 0) = true from rfl, cond_true, cond_true, decide_eq_false q3, cond_false]
              exact ⟨i, 1, _, rfl, by omega, fun h => by cases h⟩
          · subst q1
            rw [show ((0 : Int) == 0) = true from rfl, cond_true, beq_false_of_ne q2, cond_false]
            exact ⟨i, 1, _, rfl, by omega, fun h => by cases h⟩
        · rw [beq_false_of_ne q1, cond_false]
          exact ⟨i, 1, _, rfl, by omega, fun h => by cases h⟩
      · rw [beq_false_of_ne k1, cond_false]
        by_cases k2 : kd = 2
        · subst k2
          rw [show ((2 : Int) == 2) = true from rfl, cond_true]
          cases ok with
          | false => exact ⟨f, d + 1, false, rfl, by omega, fun h => by cases h⟩
          | true =>
            rw [cond_true]
            by_cases q1 : k = 0
            · by_cases q2 : rg = 0
              · subst q1; subst q2
                refine ⟨f, d + 1, _, rfl, by omega, fun h => ?_⟩
                have h : lf = (i : Int) - 1 := eq_of_beq h
                subst h
                exact (hs rfl).nI (by omega) hv
              · subst q1
                rw [show ((0 : Int) == 0) = true from rfl, cond_true, beq_false_of_ne q2, cond_false]
                exact ⟨f, d + 1, _, rfl, by omega, fun h => by cases h⟩
            · rw [beq_false_of_ne q1, cond_false]
              exact ⟨f, d + 1, _, rfl, by omega, fun h => by cases h⟩
        · rw [beq_false_of_ne k2, cond_false]
          have two : ∀ (o : Bool), kd = Tr.kd o → ∃ f' d' ok', (bif (!ok) then some ((0 : Int), ((0 : Int), false)) else bif (k != 0) then some (0, (0, false)) else bif (rg != (i : Int) - 1) then some (0, (0, false)) else bif (lf != (W (f - 1))) then some (0, (0, false)) else
              Option.bind (rule_part_M N n l (W (f - 1))) fun r4 => some (r4.1, ((W ((max r4.2.1 d) + 1)), r4.2.2))) = some (f', (d', ok')) ∧ (0 ≤ f' ∧ f' ≤ 64 ∧ 0 ≤ d' ∧ d' ≤ (n + 1 : Nat)) ∧ (ok' = true → PS l i f' d') := by
            intro o ho
            cases ok with
            | false => exact ⟨0, 0, false, rfl, by omega, fun h => by cases h⟩
            | true =>
              have hps := hs rfl
              have hbd := hps.bd hl
              rw [Bool.not_true, cond_false]
              by_cases q1 : k = 0
              · by_cases q2 : rg = (i : Int) - 1
                · rw [W_eq (n := f - 1) (by omega) (by omega)]
                  by_cases q3 : lf = f - 1
                  · subst q1; subst q2; subst q3
                    obtain ⟨f2, d2, ok2, e2, hb2, hs2⟩ := ih (f - 1) (by omega) (by omega) (by omega) (by omega)
                    rw [show ((0 : Int) != 0) = false from rfl, cond_false, bne_self_eq_false, cond_false, bne_self_eq_false, cond_false, e2]
                    simp only [Option.bind_some]
                    rw [W_eq (n := max d2 d + 1) (by omega) (by omega)]
                    exact ⟨f2, max d2 d + 1, ok2, rfl, by omega, fun h => hps.bI o (hs2 h) (by omega) (by rw [hv, ho])⟩
                  · subst q1; subst q2
                    rw [show ((0 : Int) != 0) = false from rfl, cond_false, bne_self_eq_false, cond_false, bne_iff_ne.2 q3, cond_true]
                    exact ⟨0, 0, false, rfl, by omega, fun h => by cases h⟩
                · subst q1
                  rw [show ((0 : Int) != 0) = false from rfl, cond_false, bne_iff_ne.2 q2, cond_true]
                  exact ⟨0, 0, false, rfl, by omega, fun h => by cases h⟩
              · rw [bne_iff_ne.2 q1, cond_true]
                exact ⟨0, 0, false, rfl, by omega, fun h => by cases h⟩
          by_cases k3 : kd = 3
          · subst k3
            rw [show ((3 : Int) == 3) = true from rfl, cond_true]
            exact two false rfl
          · rw [beq_false_of_ne k3, cond_false]
            by_cases k4 : kd = 4
            · subst k4
              rw [show ((4 : Int) == 4) = true from rfl, cond_true]
              exact two true rfl
            · rw [beq_false_of_ne k4, cond_false]
              exact ⟨0, 0, false, rfl, by omega, fun h => by cases h⟩
/-- A list of nodes that is a rule. -/
def Good (t : Tr) : Prop := t.wf ∧ t.dp ≤ 16 ∧ t.sz ≤ 64
def Rt (l : List T_RuleNode) : Prop := ∃ t, Good t ∧ l = t.fl 0
theorem right_iff {N : Nat} (hN : 66 ≤ N) (hN2 : N ≤ 1000000000000000) (l : List T_RuleNode) : ∃ r, rule_right N l = some r ∧ (r = true ↔ Rt l) := by
  unfold rule_right
  by_cases h1 : (l.length : Int) < 1
  · rw [decide_eq_true h1, cond_true]
    refine ⟨false, rfl, (fun h => by cases h), ?_⟩
    rintro ⟨t, _, rfl⟩
    have := t.sz_pos
    rw [Tr.fl_len] at h1; omega
  · rw [decide_eq_false h1, cond_false]
    by_cases h2 : (l.length : Int) > 64
    · rw [decide_eq_true h2, cond_true]
      refine ⟨false, rfl, (fun h => by cases h), ?_⟩
      rintro ⟨t, ⟨_, _, h⟩, rfl⟩
      rw [Tr.fl_len] at h2; omega
    · rw [decide_eq_false h2, cond_false, W_eq (by omega) (by omega)]
      unfold rule_part
      obtain ⟨f, d, ok, e, hb, hs⟩ := part_sound N (l := l) (by omega) N ((l.length : Int) - 1) (by omega) (by omega) (by omega) (by omega)
      rw [e]
      simp only [Option.bind_some]
      have back : Rt l → ok = true ∧ f = 0 ∧ d ≤ 16 := by
        rintro ⟨t, ⟨g1, g2, g3⟩, hl⟩
        have hA : At l t 0 := by rw [hl]; exact at_fl t
        have hsz : l.length = t.sz := by rw [hl, Tr.fl_len]
        have := part_fl N (l := l) (by omega) t 0 N hA g1 (by omega)
        rw [show (((0 + t.sz : Nat) : Int) - 1) = (l.length : Int) - 1 by omega, e] at this
        simp only [Option.some.injEq, Prod.mk.injEq] at this
        exact ⟨this.2.2, by omega, by omega⟩
      cases ok with
      | false => exact ⟨false, rfl, (fun h => by cases h), fun h => (back h).1⟩
      | true =>
        rw [cond_true]
        by_cases q : f = 0
        · subst q
          rw [show ((0 : Int) == 0) = true from rfl, cond_true]
          refine ⟨_, rfl, fun h => ?_, fun h => decide_eq_true (back h).2.2⟩
          have h := of_decide_eq_true h
          obtain ⟨t, p, w1, w2, w3, w4, w5⟩ := hs rfl
          obtain rfl : p = 0 := by omega
          exact ⟨t, ⟨w1, by omega, by omega⟩, at_end w4 (by omega)⟩
        · rw [beq_false_of_ne q, cond_false]
          exact ⟨false, rfl, (fun h => by cases h), fun h => absurd (back h).2.1 q⟩
end Go.Proofs.YthfejkflhpifnaaDoor
set_option linter.all false
namespace Go.Proofs.YthfejkflhpifnaaDoor
open Go.Pv M

def ev (v : List Int) : Tr → Int
  | .c k => bif decide (k < (v.length : Int)) then (bif decide (-1 ≤ v.getD k.toNat 0) then (bif decide (v.getD k.toNat 0 ≤ 1) then v.getD k.toNat 0 else 0) else 0) else 0
  | .n a => 0 - ev v a
  | .b o x y => bif o then max (ev v x) (ev v y) else min (ev v x) (ev v y)
theorem right_good {N : Nat} (hN : 66 ≤ N) (hN2 : N ≤ 1000000000000000) {t : Tr} (h : Good t) : rule_right N (t.fl 0) = some true := by
  obtain ⟨r, e, h2⟩ := right_iff hN hN2 (t.fl 0)
  rw [e, h2.2 ⟨t, h, rfl⟩]
theorem right_bad {N : Nat} (hN : 66 ≤ N) (hN2 : N ≤ 1000000000000000) {l : List T_RuleNode} (h : ¬ Rt l) : rule_right N l = some false := by
  obtain ⟨r, e, h2⟩ := right_iff hN hN2 l
  cases r with
  | false => exact e
  | true => exact absurd (h2.1 rfl) h
/-! ### Texts -/
def opc (o : Bool) : UInt8 := bif o then 124 else 38
def tx : Tr → List UInt8
  | .c k => [99] ++ itoaM k
  | .n a => [33] ++ tx a
  | .b o x y => ((([40] ++ tx x) ++ [32, opc o, 32]) ++ tx y) ++ [41]
theorem digs_len : ∀ (f u : Nat), (digs f u).length ≤ f
  | 0, u => Nat.le_refl _
  | f + 1, u => by
    rw [digs]
    by_cases h : u < 10
    · rw [decide_eq_true h, cond_true]; simp
    · rw [decide_eq_false h, cond_false]
      have := digs_len f (u / 10)
      simp; omega
theorem itoa_len (k : Int) : (itoaM k).length ≤ 21 := by
  unfold itoaM
  by_cases h : k < 0
  · rw [decide_eq_true h, cond_true]
    have := digs_len 20 k.natAbs
    simp; omega
  · rw [decide_eq_false h, cond_false]
    have := digs_len 20 k.toNat
    omega
theorem tx_len : ∀ t : Tr, (tx t).length ≤ 22 * t.sz
  | .c k => by have := itoa_len k; simp [tx, Tr.sz]; omega
  | .n a => by have := tx_len a; simp [tx, Tr.sz]; omega
  | .b o x y => by have := tx_len x; have := tx_len y; simp [tx, Tr.sz]; omega
theorem itoa_some (N : Nat) {k : Int} (h0 : 0 ≤ k) (h1 : k < 64) : strconv_Itoa N k = some (itoaM k) := by
  unfold strconv_Itoa
  rw [decide_eq_true ⟨by omega, by omega⟩, cond_true]
theorem getS_set (arr : List (List UInt8)) (i j : Nat) (x : List UInt8) (h : i < arr.length) : (arr.set i x).getD j [] = if j = i then x else arr.getD j [] := by
  rw [List.getD_eq_getElem?_getD, List.getElem?_set]
  by_cases e : i = j
  · subst e; rw [if_pos rfl, if_pos h, if_pos rfl]; rfl
  · rw [if_neg e, if_neg (fun h => e h.symm), List.getD_eq_getElem?_getD]
theorem print_loop (N : Nat) {l : List T_RuleNode} (hl : l.length ≤ 64) : ∀ (t : Tr) (p n : Nat) (arr : List (List UInt8)), At l t p → t.wf → arr.length = l.length →
    ∃ arr', rule_Print_L1 N (n + t.sz) l (l.length : Int) (p : Int) arr = rule_Print_L1 N n l (l.length : Int) ((p + t.sz : Nat) : Int) arr' ∧ arr'.length = l.length ∧ (∀ j, j < p → arr'.getD j [] = arr.getD j []) ∧ arr'.getD (p + t.sz - 1) [] = tx t
  | .c k, p, n, arr, hA, hw, ha => by
    obtain ⟨h1, h2⟩ := at_c.1 hA
    obtain ⟨w1, w2⟩ : 0 ≤ k ∧ k < 64 := hw
    have e0 : rule_Print_L1 N (n + (Tr.c k).sz) l (l.length : Int) (p : Int) arr = rule_Print_L1 N (n + 1) l (l.length : Int) (p : Int) arr := rfl
    have e1 : W ((p : Int) + 1) = ((p + 1 : Nat) : Int) := by rw [W_eq (by omega) (by omega)]; omega
    have hk := itoa_len k
    rw [e0, rule_Print_L1_succ, decide_eq_true (by omega), cond_true, inB_true (by omega), cond_true, Int.toNat_natCast]
    dsimp only
    rw [h2]
    dsimp only
    rw [show ((1 : Int) == 1) = true from rfl, cond_true, itoa_some N w1 w2]
    simp only [Option.bind_some]
    rw [decide_eq_true (by simp; omega), cond_true, inB_true (by omega), cond_true, e1]
    refine ⟨arr.set p ([99] ++ itoaM k), rfl, by simpa using ha, fun j hj => ?_, ?_⟩
    · rw [getS_set _ _ _ _ (by omega), if_neg (by omega)]
    · simp only [Tr.sz, tx]
      rw [getS_set _ _ _ _ (by omega), if_pos (by omega)]
  | .n a, p, n, arr, hA, hw, ha => by
    obtain ⟨h0, h1, h2⟩ := at_n.1 hA
    obtain ⟨arr', i1, i2, i3, i5⟩ := print_loop N hl a p (n + 1) arr h0 hw ha
    have hb := tx_len a
    have hs := a.sz_pos
    have e0 : n + (Tr.n a).sz = n + 1 + a.sz := by simp only [Tr.sz]; omega
    have e1 : W (((p + a.sz : Nat) : Int) + 1) = ((p + (a.sz + 1) : Nat) : Int) := by rw [W_eq (by omega) (by omega)]; omega
    have e2 : (((p + a.sz : Nat) : Int) - 1).toNat = p + a.sz - 1 := by omega
    rw [e0, i1, rule_Print_L1_succ, decide_eq_true (by omega), cond_true, inB_true (by omega), cond_true, Int.toNat_natCast]
    dsimp only
    rw [h2]
    dsimp only
    rw [show ((2 : Int) == 1) = false from rfl, cond_false, show ((2 : Int) == 2) = true from rfl, cond_true, inB_true (by omega), cond_true, e2, i5, decide_eq_true (by simp; omega), cond_true, inB_true (by omega), cond_true, e1]
    refine ⟨arr'.set (p + a.sz) ([33] ++ tx a), rfl, by simpa using i2, fun j hj => ?_, ?_⟩
    · rw [getS_set _ _ _ _ (by omega), if_neg (by omega)]; exact i3 j hj
    · simp only [Tr.sz, tx]
      rw [getS_set _ _ _ _ (by omega), if_pos (by omega)]
  | .b o x y, p, n, arr, hA, hw, ha => by
    obtain ⟨h0, h0', h1, h2⟩ := at_b.1 hA
    obtain ⟨arr1, i1, i2, i3, i5⟩ := print_loop N hl x p (n + 1 + y.sz) arr h0 hw.1 ha
    obtain ⟨arr2, j1, j2, j3, j5⟩ := print_loop N hl y (p + x.sz) (n + 1) arr1 h0' hw.2 i2
    have hb := tx_len x
    have hb' := tx_len y
    have hs := x.sz_pos
    have hs' := y.sz_pos
    have e0 : n + (Tr.b o x y).sz = n + 1 + y.sz + x.sz := by simp only [Tr.sz]; omega
    have e1 : W (((p + x.sz + y.sz : Nat) : Int) + 1) = ((p + (x.sz + y.sz + 1) : Nat) : Int) := by rw [W_eq (by omega) (by omega)]; omega
    have e2 : (((p + x.sz : Nat) : Int) - 1).toNat = p + x.sz - 1 := by omega
    have e3 : (((p + x.sz + y.sz : Nat) : Int) - 1).toNat = p + x.sz + y.sz - 1 := by omega
    have i6 : arr2.getD (p + x.sz - 1) [] = tx x := by rw [j3 _ (by omega)]; exact i5
    have fin : ∃ arr', rule_Print_L1 N n l (l.length : Int) ((p + (x.sz + y.sz + 1) : Nat) : Int) (arr2.set (p + x.sz + y.sz) (((([40] ++ tx x) ++ [32, opc o, 32]) ++ tx y) ++ [41])) = rule_Print_L1 N n l (l.length : Int) ((p + (Tr.b o x y).sz : Nat) : Int) arr' ∧ arr'.length = l.length ∧ (∀ j, j < p → arr'.getD j [] = arr.getD j []) ∧ arr'.getD (p + (Tr.b o x y).sz - 1) [] = tx (.b o x y) := by
      refine ⟨arr2.set (p + x.sz + y.sz) _, rfl, by simpa using j2, fun j hj => ?_, ?_⟩
      · rw [getS_set _ _ _ _ (by omega), if_neg (by omega), j3 j (by omega)]; exact i3 j hj
      · simp only [Tr.sz]
        rw [getS_set _ _ _ _ (by omega), if_pos (by omega)]; rfl
    rw [e0, i1, j1, rule_Print_L1_succ, decide_eq_true (by omega), cond_true, inB_true (by omega), cond_true, Int.toNat_natCast]
    dsimp only
    rw [h2]
    dsimp only
    cases o with
    | false =>
      rw [show (Tr.kd false == 1) = false from rfl, cond_false, show (Tr.kd false == 2) = false from rfl, cond_false, show (Tr.kd false == 3) = true from rfl, cond_true, inB_true (by omega), cond_true, inB_true (by omega), cond_true, inB_true (by omega), cond_true, e1, e2, e3, i6, j5]
      rw [decide_eq_true (by simp; omega), cond_true, decide_eq_true (by simp; omega), cond_true, decide_eq_true (by simp; omega), cond_true, decide_eq_true (by simp; omega), cond_true]
      exact fin
    | true =>
      rw [show (Tr.kd true == 1) = false from rfl, cond_false, show (Tr.kd true == 2) = false from rfl, cond_false, show (Tr.kd true == 3) = false from rfl, cond_false, inB_true (by omega), cond_true, inB_true (by omega), cond_true, inB_true (by omega), cond_true, e1, e2, e3, i6, j5]
      rw [decide_eq_true (by simp; omega), cond_true, decide_eq_true (by simp; omega), cond_true, decide_eq_true (by simp; omega), cond_true, decide_eq_true (by simp; omega), cond_true]
      exact fin
theorem print_good {N : Nat} (hN : 66 ≤ N) (hN2 : N ≤ 1000000000000000) {t : Tr} (h : Good t) : rule_Print N (t.fl 0) = some (tx t, 0) := by
  unfold rule_Print
  rw [right_good hN hN2 h]
  simp only [Option.bind_some, Bool.not_true, cond_false]
  have hlen := t.fl_len 0
  have hs := t.sz_pos
  obtain ⟨h1, h2, h3⟩ := h
  have hmk : mkB 16 ((t.fl 0).length : Int) ((t.fl 0).length : Int) = true := decide_eq_true ⟨by omega, by omega, by omega, by omega⟩
  rw [hmk, cond_true]
  obtain ⟨arr', i1, i2, i3, i5⟩ := print_loop N (l := t.fl 0) (by omega) t 0 (N - t.sz) (List.replicate ((t.fl 0).length : Int).toNat []) (at_fl t) h1 (by simp)
  rw [show N - t.sz + t.sz = N by omega] at i1
  rw [show ((0 : Nat) : Int) = 0 from rfl] at i1
  rw [i1]
  obtain ⟨n', hn'⟩ : ∃ n', N - t.sz = n' + 1 := ⟨N - t.sz - 1, by omega⟩
  rw [hn', rule_Print_L1_succ, decide_eq_false (by omega), cond_false]
  dsimp only
  rw [W_eq (by omega) (by omega), inB_true (by omega), cond_true, show ((arr'.length : Int) - 1).toNat = 0 + t.sz - 1 by omega, i5]
theorem print_bad {N : Nat} (hN : 66 ≤ N) (hN2 : N ≤ 1000000000000000) {l : List T_RuleNode} (h : ¬ Rt l) : rule_Print N l = some ([], 18) := by
  unfold rule_Print
  rw [right_bad hN hN2 h]
  rfl
end Go.Proofs.YthfejkflhpifnaaDoor
set_option linter.all false
namespace Go.Proofs.YthfejkflhpifnaaDoor
open Go.Pv M

/-! ### Digits -/
def dg (c : UInt8) : Bool := decide (48 ≤ c.toNat) && decide (c.toNat ≤ 57)
def spd : List UInt8 → Nat
  | [] => 0
  | c :: r => bif dg c then spd r + 1 else 0
theorem spd_le : ∀ s, spd s ≤ s.length
  | [] => Nat.le_refl _
  | c :: r => by
    have := spd_le r
    cases h : dg c <;> simp [spd, h]; omega
theorem spd_get : ∀ (s : List UInt8) (k : Nat), k < spd s → dg (s.getD k 0) = true
  | [], k, h => absurd h (Nat.not_lt_zero _)
  | c :: r, k, h => by
    cases hc : dg c with
    | false => simp [spd, hc] at h
    | true =>
      cases k with
      | zero => simpa using hc
      | succ k =>
        simp only [spd, hc, cond_true] at h
        simpa using spd_get r k (by omega)
theorem spd_end : ∀ (s : List UInt8), spd s < s.length → dg (s.getD (spd s) 0) = false
  | [], h => absurd h (Nat.not_lt_zero _)
  | c :: r, h => by
    cases hc : dg c with
    | false => simpa [spd, hc] using hc
    | true =>
      simp only [spd, hc, cond_true, List.length_cons] at h ⊢
      simpa using spd_end r (by omega)
theorem spd_app : ∀ (ds s : List UInt8), ds.all dg = true → spd s = 0 → spd (ds ++ s) = ds.length
  | [], s, _, h => h
  | c :: r, s, h, hs => by
    simp only [List.all_cons, Bool.and_eq_true] at h
    simp only [List.cons_append, spd, h.1, cond_true, List.length_cons, spd_app r s h.2 hs]
theorem spd_all : ∀ (s : List UInt8), (s.take (spd s)).all dg = true
  | [] => rfl
  | c :: r => by
    cases hc : dg c with
    | false => simp [spd, hc]
    | true => simp only [spd, hc, cond_true, List.take_succ_cons, List.all_cons, Bool.true_and]; exact spd_all r
theorem dg_iff {c : UInt8} : dg c = true ↔ 48 ≤ c.toNat ∧ c.toNat ≤ 57 := by simp [dg]
/-- The numbers below 64, written out. -/
theorem num_tab : ((List.range 64).all fun k => atoiB (itoaM (k : Int)) && (atoiV (itoaM (k : Int)) == (k : Int)) && (itoaM (k : Int)).all dg && (((itoaM (k : Int)).length == 1) || ((itoaM (k : Int)).length == 2 && ((itoaM (k : Int)).getD 0 0 != 48)))) = true := by kernel_rfl
theorem num_fact {k : Int} (h0 : 0 ≤ k) (h1 : k < 64) : atoiB (itoaM k) = true ∧ atoiV (itoaM k) = k ∧ (itoaM k).all dg = true ∧ ((itoaM k).length = 1 ∨ (itoaM k).length = 2 ∧ (itoaM k).getD 0 0 ≠ 48) := by
  have := List.all_eq_true.1 num_tab k.toNat (by simp; omega)
  rw [show ((k.toNat : Nat) : Int) = k by omega] at this
  simp only [Bool.and_eq_true, Bool.or_eq_true, beq_iff_eq, bne_iff_ne] at this
  exact ⟨this.1.1.1, this.1.1.2, this.1.2, this.2⟩
theorem parse_ge : ∀ (l : List UInt8) (acc u : Nat), Lib.parseUint10 acc l = .ok u → acc * 10 ^ l.length ≤ u
  | [], acc, u, h => by
    simp only [Lib.parseUint10] at h
    injection h with h
    simp [h]
  | c :: r, acc, u, h => by
    simp only [Lib.parseUint10] at h
    split at h
    · split at h
      · cases h
      · split at h
        · cases h
        · have := parse_ge r _ u h
          have e : acc * 10 ^ (c :: r).length = acc * 10 * 10 ^ r.length := by rw [List.length_cons, Nat.pow_succ]; grind
          rw [e]
          exact Nat.le_trans (Nat.mul_le_mul_right _ (by omega)) this
    · cases h
theorem pair_tab : ((List.range 10).all fun a => itoaM (a : Int) == [UInt8.ofNat (48 + a)]) = true ∧ ((List.range 10).all fun a => (List.range 10).all fun b => a == 0 || (itoaM ((10 * a + b : Nat) : Int) == [UInt8.ofNat (48 + a), UInt8.ofNat (48 + b)])) = true := ⟨by kernel_rfl, by kernel_rfl⟩
theorem u8_of (c : UInt8) (h : 48 ≤ c.toNat) : UInt8.ofNat (48 + (c.toNat - 48)) = c := by
  rw [show 48 + (c.toNat - 48) = c.toNat by omega]; simp
/-- A numeral below 64 without idle zeros is the number's own text. -/
theorem num_back {ds : List UInt8} (hd : ds.all dg = true) (hb : atoiB ds = true) (hz : ds.length = 1 ∨ ds.getD 0 0 ≠ 48) (hk : atoiV ds < 64) : itoaM (atoiV ds) = ds ∧ 0 ≤ atoiV ds := by
  unfold atoiB at hb
  cases he : Lib.atoiAll ds with
  | ok v =>
    have hv : atoiV ds = v := by unfold atoiV; rw [he]
    rw [hv] at hk ⊢
    cases ds with
    | nil => cases he
    | cons c r =>
      simp only [List.all_cons, Bool.and_eq_true] at hd
      obtain ⟨hc, hr⟩ := hd
      have hc := dg_iff.1 hc
      have h43 : ¬ c.toNat = 43 := by omega
      have h45 : ¬ c.toNat = 45 := by omega
      simp only [Lib.atoiAll, h43, h45, or_self, if_false, not_false_eq_true, true_and, false_and] at he
      unfold Lib.parseMag at he
      rw [if_neg (by simp)] at he
      cases hp : Lib.parseUint10 0 (c :: r) with
      | ok u =>
        rw [hp] at he
        simp only at he
        split at he
        · cases he
        · injection he with he
          subst he
          simp only [Lib.parseUint10] at hp
          rw [if_pos hc, if_neg (by omega), if_neg (by omega)] at hp
          have hge := parse_ge r _ u hp
          simp only [Nat.zero_mul, Nat.zero_add] at hp hge
          refine ⟨?_, by omega⟩
          cases r with
          | nil =>
            simp only [Lib.parseUint10] at hp
            injection hp with hp
            have := List.all_eq_true.1 pair_tab.1 (c.toNat - 48) (by simp; omega)
            rw [← hp, eq_of_beq this, u8_of c hc.1]
          | cons c2 r =>
            have h1 : 1 ≤ c.toNat - 48 := by
              rcases hz with hz | hz
              · simp at hz
              · have : c ≠ 48 := by simpa using hz
                have : c.toNat ≠ 48 := fun e => this (UInt8.toNat_inj.1 (by simpa using e))
                omega
            cases r with
            | nil =>
              simp only [List.all_cons, Bool.and_eq_true] at hr
              have hc2 := dg_iff.1 hr.1
              simp only [Lib.parseUint10] at hp
              rw [if_pos hc2, if_neg (by omega), if_neg (by omega)] at hp
              injection hp with hp
              have := List.all_eq_true.1 pair_tab.2 (c.toNat - 48) (by simp; omega)
              have := List.all_eq_true.1 this (c2.toNat - 48) (by simp; omega)
              rw [Bool.or_eq_true] at this
              rcases this with h | h
              · have := eq_of_beq h; omega
              · rw [← hp, show (c.toNat - 48) * 10 + (c2.toNat - 48) = 10 * (c.toNat - 48) + (c2.toNat - 48) by omega, eq_of_beq h, u8_of c hc.1, u8_of c2 hc2.1]
            | cons c3 r =>
              exfalso
              have h2 : 10 ^ 2 ≤ 10 ^ (c2 :: c3 :: r).length := Nat.pow_le_pow_right (by omega) (by simp)
              have h3 : 1 * 10 ^ (c2 :: c3 :: r).length ≤ (c.toNat - 48) * 10 ^ (c2 :: c3 :: r).length := Nat.mul_le_mul_right _ h1
              omega
      | _ => rw [hp] at he; cases he
  | _ => rw [he] at hb; cases hb

/-! ### The reader's small steps -/
theorem need_t (N : Nat) (a : T_reader) : rule_reader_needP N a true = some (some ((), a)) := rfl
theorem need_f (N : Nat) (a : T_reader) : rule_reader_needP N a false = some none := rfl
theorem isPan_s {α : Type} (x : α) : isPan (some (some x)) = false := rfl
theorem isPan_n {α : Type} : isPan (some (none : Option α)) = true := rfl
theorem joinP_s {α : Type} (x : α) : joinP (some (some x)) = some x := rfl
theorem take_eq (N : Nat) (s : List UInt8) (l : List T_RuleNode) (w : List UInt8) : rule_reader_take N (s, l) w = some (w.isPrefixOf s, ((bif w.isPrefixOf s then s.drop w.length else s), l)) := rfl
theorem take_t (N : Nat) (s : List UInt8) (l : List T_RuleNode) (w : List UInt8) : rule_reader_take N (w ++ s, l) w = some (true, (s, l)) := by
  have h : w.isPrefixOf (w ++ s) = true := by simp
  rw [take_eq, h, cond_true, List.drop_left]
theorem take_f (N : Nat) {s : List UInt8} (l : List T_RuleNode) {w : List UInt8} (h : w.isPrefixOf s = false) : rule_reader_take N (s, l) w = some (false, (s, l)) := by
  rw [take_eq, h, cond_false]
theorem pre_split {w s : List UInt8} (h : w.isPrefixOf s = true) : ∃ r, s = w ++ r := by
  obtain ⟨r, hr⟩ := List.isPrefixOf_iff_prefix.1 h
  exact ⟨r, hr.symm⟩
theorem add_eq (N : Nat) (s : List UInt8) {l : List T_RuleNode} (x : T_RuleNode) (h : l.length ≤ 1000) : rule_reader_add N (s, l) x = some ((l.length : Int), (s, l ++ [x])) := by
  unfold rule_reader_add
  dsimp only
  rw [fitsB_true (by omega), cond_true]
  have : (l ++ [x]).length = l.length + 1 := by simp
  rw [this, W_eq (by omega) (by omega)]
  congr 2
  omega
theorem dig_loop (N : Nat) (self : T_reader → Int → Option (Option (Int × T_reader))) (s : List UInt8) (l : List T_RuleNode) (hs : s.length ≤ 281474976710656) : ∀ (n k : Nat), k ≤ spd s → spd s - k < n → rule_reader_read_L1 N self n (k : Int) s l = rule_reader_read_J1 N self (spd s : Int) s l
  | 0, k, _, h => absurd h (Nat.not_lt_zero _)
  | n + 1, k, h1, h2 => by
    have hle := spd_le s
    rw [rule_reader_read_L1_succ]
    by_cases hk : k < spd s
    · have hd := dg_iff.1 (spd_get s k hk)
      rw [decide_eq_true (by omega), cond_true, inB_true (by omega), cond_true, Int.toNat_natCast, decide_eq_true (by omega), cond_true, cond_true, decide_eq_true (by omega), cond_true, show W ((k : Int) + 1) = ((k + 1 : Nat) : Int) by rw [W_eq (by omega) (by omega)]; omega]
      exact dig_loop N self s l hs n (k + 1) (by omega) (by omega)
    · obtain rfl : k = spd s := by omega
      by_cases hl : spd s < s.length
      · have hd := spd_end s hl
        rw [decide_eq_true (by omega), cond_true, inB_true (by omega), cond_true, Int.toNat_natCast]
        by_cases q : 48 ≤ (s.getD (spd s) 0).toNat
        · rw [decide_eq_true (by omega), cond_true, cond_true, decide_eq_false (fun h => by rw [dg_iff.2 ⟨q, by omega⟩] at hd; cases hd), cond_false]
        · rw [decide_eq_false (by omega), cond_false]
      · rw [decide_eq_false (by omega), cond_false]
/-- The number behind a c. -/
def numOK (s : List UInt8) : Bool := atoiB (s.take (spd s)) && (decide (spd s = 1) || (s.getD 0 0 != 48))
theorem atoi_nil : atoiB [] = false := rfl
theorem num_spec {N : Nat} (self : T_reader → Int → Option (Option (Int × T_reader))) (s : List UInt8) (l : List T_RuleNode) (hs : s.length ≤ 281474976710656) (hN : s.length + 2 ≤ N) (hl : l.length ≤ 1000) :
    rule_reader_read_L1 N self N 0 s l = bif numOK s then some (some ((l.length : Int), (s.drop (spd s), l ++ [(1, (atoiV (s.take (spd s)), (0, 0)))]))) else some none := by
  have hle := spd_le s
  have h0 := dig_loop N self s l hs N 0 (Nat.zero_le _) (by omega)
  rw [show ((0 : Nat) : Int) = 0 from rfl] at h0
  rw [h0]
  obtain ⟨M', rfl⟩ : ∃ M', N = M' + 1 := ⟨N - 1, by omega⟩
  have hsl : slB 0 (spd s : Int) s.length = true := decide_eq_true ⟨by omega, by omega, by omega⟩
  have hsl2 : slB (spd s : Int) (s.length : Int) s.length = true := decide_eq_true ⟨by omega, by omega, by omega⟩
  rw [rule_reader_read_J1_eq, hsl, cond_true, Int.toNat_natCast, decide_eq_true (by rw [List.length_take]; omega), cond_true]
  unfold numOK
  cases hb : atoiB (s.take (spd s)) with
  | false =>
    rw [cond_false, need_f, isPan_n, cond_true]; rfl
  | true =>
    have hpos : 0 < spd s := by
      rcases Nat.eq_zero_or_pos (spd s) with e | e
      · rw [e, List.take_zero, atoi_nil] at hb; cases hb
      · exact e
    rw [cond_true, Bool.true_and]
    by_cases h1 : spd s = 1
    · rw [h1] at hsl2 ⊢
      rw [show (((1 : Nat) : Int) == 1) = true from rfl, cond_true, need_t, isPan_s, cond_false, joinP_s]
      simp only [Option.bind_some]
      rw [hsl2, cond_true, add_eq _ _ _ hl]
      simp
    · rw [beq_false_of_ne (by omega), cond_false, inB_true (by omega), cond_true, decide_eq_false h1, Bool.false_or]
      dsimp only
      have e0 : ((0 : Int).toNat) = 0 := rfl
      have eb : (((s.getD (0 : Int).toNat 0).toNat : Int) != 48) = (s.getD 0 0 != 48) := by
        rw [e0]
        by_cases q : s.getD 0 0 = 48
        · rw [q]; rfl
        · rw [bne_iff_ne.2 q, bne_iff_ne]
          intro e
          exact q (UInt8.toNat_inj.1 (by have : (s.getD 0 0).toNat = 48 := by omega
                                         rw [this]; rfl))
      rw [eb]
      cases hq : (s.getD 0 0 != 48) with
      | false => rw [need_f, isPan_n, cond_true]; rfl
      | true =>
        rw [need_t, isPan_s, cond_false, joinP_s]
        simp only [Option.bind_some]
        rw [hsl2, cond_true, add_eq _ _ _ hl]
        simp

/-! ### Reading: all that it takes is a rule's text -/
/-- What a reading from s and l to r comes to. -/
def RdS (s : List UInt8) (l : List T_RuleNode) (deep : Nat) (r : Int × T_reader) : Prop :=
  ∃ t : Tr, r.1 = ((l.length + t.sz : Nat) : Int) - 1 ∧ r.2.2 = l ++ t.fl l.length ∧ t.dp ≤ deep ∧ (t.wf → s = tx t ++ r.2.1) ∧ r.2.2.length ≤ 65 + deep ∧ r.2.1.length ≤ s.length
theorem read_zero (N n : Nat) (s : List UInt8) (l : List T_RuleNode) {d : Int} (hd : d ≤ 0) : rule_reader_read_M N (n + 1) (s, l) d = some none := by
  rw [rule_reader_read_M_succ]
  unfold rule_reader_read_R
  rw [decide_eq_false (by omega), cond_false, need_f, isPan_n, cond_true]
theorem read_sound {N : Nat} : ∀ (n : Nat) (s : List UInt8) (l : List T_RuleNode) (deep : Nat), deep < n → deep ≤ 100 → s.length + 2 ≤ N → s.length ≤ 281474976710656 → l.length ≤ 500 → ∃ r, rule_reader_read_M N n (s, l) (deep : Int) = some r ∧ ∀ x, r = some x → RdS s l deep x
  | 0, s, l, deep, h, _, _, _, _ => absurd h (Nat.not_lt_zero _)
  | n + 1, s, l, 0, _, _, _, _, _ => ⟨none, read_zero N n s l (by omega), fun x h => by cases h⟩
  | n + 1, s, l, deep + 1, h1, h2, h3, h4, h5 => by
    rw [rule_reader_read_M_succ]
    unfold rule_reader_read_R
    have eW : W (((deep + 1 : Nat) : Int) - 1) = (deep : Int) := by rw [W_eq (by omega) (by omega)]; omega
    rw [decide_eq_true (by omega), cond_true, eW]
    dsimp only
    by_cases hl' : 64 < l.length
    · rw [decide_eq_false (by omega), need_f, isPan_n, cond_true]
      exact ⟨none, rfl, fun x h => by cases h⟩
    have hl : l.length ≤ 64 := by omega
    rw [decide_eq_true (by omega), need_t, isPan_s, cond_false, joinP_s]
    simp only [Option.bind_some]
    cases p1 : ([33] : List UInt8).isPrefixOf s with
    | true =>
      obtain ⟨s1, rfl⟩ := pre_split p1
      rw [take_t]
      simp only [Option.bind_some, cond_true]
      have hs1 : s1.length + 1 = ([33] ++ s1 : List UInt8).length := by simp
      obtain ⟨r, e, hr⟩ := read_sound (N := N) n s1 l deep (by omega) (by omega) (by omega) (by omega) h5
      rw [e]
      cases r with
      | none => exact ⟨none, by rw [isPan_n, cond_true], fun x h => by cases h⟩
      | some x =>
        obtain ⟨t, t1, t2, t3, t4, t5, t6⟩ := hr x rfl
        obtain ⟨x1, x2, x3⟩ := x
        simp only at t1 t2 t4 t5 t6
        rw [isPan_s, cond_false, joinP_s]
        simp only [Option.bind_some]
        rw [add_eq _ _ _ (by omega)]
        simp only [Option.bind_some]
        refine ⟨_, rfl, fun y hy => ?_⟩
        obtain rfl := Option.some.inj hy
        subst t2
        have hlen : (l ++ t.fl l.length).length = l.length + t.sz := by rw [List.length_append, Tr.fl_len]
        refine ⟨.n t, ?_, ?_, by simp only [Tr.dp]; omega, fun hw => ?_, ?_, ?_⟩
        · simp only [hlen, Tr.sz]; omega
        · simp only [Tr.fl, t1, List.append_assoc]
        · rw [t4 hw]; simp [tx]
        · simp only [List.length_append, List.length_cons, List.length_nil] at t5 ⊢; omega
        · simp only; omega
    | false =>
      rw [take_f _ _ p1]
      simp only [Option.bind_some, cond_false]
      cases p2 : ([40] : List UInt8).isPrefixOf s with
      | true =>
        obtain ⟨s1, rfl⟩ := pre_split p2
        rw [take_t]
        simp only [Option.bind_some, cond_true]
        have hs1 : s1.length + 1 = ([40] ++ s1 : List UInt8).length := by simp
        obtain ⟨r, e, hr⟩ := read_sound (N := N) n s1 l deep (by omega) (by omega) (by omega) (by omega) h5
        rw [e]
        cases r with
        | none => exact ⟨none, by rw [isPan_n, cond_true], fun x h => by cases h⟩
        | some x =>
          obtain ⟨t, t1, t2, t3, t4, t5, t6⟩ := hr x rfl
          obtain ⟨x1, x2, x3⟩ := x
          simp only at t1 t2 t4 t5 t6
          rw [isPan_s, cond_false, joinP_s]
          simp only [Option.bind_some]
          have hlen : (l ++ t.fl l.length).length = l.length + t.sz := by rw [List.length_append, Tr.fl_len]
          -- the second part, behind ' & ' or ' | '
          have two : ∀ (o : Bool) (s2 : List UInt8), x2 = [32, opc o, 32] ++ s2 → ∃ r, (bif isPan (rule_reader_read_M N n (s2, x3) (deep : Int)) then some none else
              Option.bind (joinP (rule_reader_read_M N n (s2, x3) (deep : Int))) fun r10 => Option.bind (rule_reader_take N r10.2 [41]) fun r11 => bif isPan (rule_reader_needP N r11.2 r11.1) then some none else
              Option.bind (joinP (rule_reader_needP N r11.2 r11.1)) fun r12 => Option.bind (rule_reader_add N r12.2 (Tr.kd o, (0, (x1, r10.1)))) fun r13 => some (some (r13.1, r13.2))) = some r ∧ ∀ y, r = some y → RdS ([40] ++ s1) l (deep + 1) y := by
            intro o s2 hx2
            have hs2 : s2.length + 3 = x2.length := by rw [hx2]; simp
            obtain ⟨r, e, hr⟩ := read_sound (N := N) n s2 x3 deep (by omega) (by omega) (by omega) (by omega) (by omega)
            rw [e]
            cases r with
            | none => exact ⟨none, by rw [isPan_n, cond_true], fun x h => by cases h⟩
            | some y =>
              obtain ⟨u, u1, u2, u3, u4, u5, u6⟩ := hr y rfl
              obtain ⟨y1, y2, y3⟩ := y
              simp only at u1 u2 u4 u5 u6
              rw [isPan_s, cond_false, joinP_s]
              simp only [Option.bind_some]
              cases p3 : ([41] : List UInt8).isPrefixOf y2 with
              | false =>
                rw [take_f _ _ p3]
                simp only [Option.bind_some]
                rw [need_f, isPan_n, cond_true]
                exact ⟨none, rfl, fun x h => by cases h⟩
              | true =>
                obtain ⟨s3, hs3⟩ := pre_split p3
                subst hs3
                rw [take_t]
                simp only [Option.bind_some]
                rw [need_t, isPan_s, cond_false, joinP_s]
                simp only [Option.bind_some]
                rw [add_eq _ _ _ (by omega)]
                simp only [Option.bind_some]
                refine ⟨_, rfl, fun z hz => ?_⟩
                obtain rfl := Option.some.inj hz
                have hlen2 : y3.length = l.length + t.sz + u.sz := by rw [u2, t2, List.length_append, Tr.fl_len, hlen]
                have h31 : ([41] ++ s3 : List UInt8).length = s3.length + 1 := by simp
                refine ⟨.b o t u, ?_, ?_, by simp only [Tr.dp]; omega, fun hw => ?_, ?_, ?_⟩
                · simp only [hlen2, Tr.sz]; omega
                · have e1 : x3.length = l.length + t.sz := by rw [t2, hlen]
                  simp only [Tr.fl]
                  rw [u2, e1, t2, t1, u1, e1]
                  simp only [List.append_assoc]
                · rw [t4 hw.1, hx2, u4 hw.2]; simp [tx]
                · simp only [List.length_append, List.length_cons, List.length_nil]
                  omega
                · simp only; omega
          cases p4 : ([32, 38, 32] : List UInt8).isPrefixOf x2 with
          | true =>
            obtain ⟨s2, hs2⟩ := pre_split p4
            subst hs2
            rw [take_t]
            simp only [Option.bind_some, Bool.not_true, cond_false]
            exact two false s2 rfl
          | false =>
            rw [take_f _ _ p4]
            simp only [Option.bind_some, Bool.not_false, cond_true]
            cases p5 : ([32, 124, 32] : List UInt8).isPrefixOf x2 with
            | false =>
              rw [take_f _ _ p5]
              simp only [Option.bind_some]
              rw [need_f, isPan_n, cond_true]
              exact ⟨none, rfl, fun x h => by cases h⟩
            | true =>
              obtain ⟨s2, hs2⟩ := pre_split p5
              subst hs2
              rw [take_t]
              simp only [Option.bind_some]
              rw [need_t, isPan_s, cond_false, joinP_s]
              simp only [Option.bind_some]
              exact two true s2 rfl
      | false =>
        rw [take_f _ _ p2]
        simp only [Option.bind_some, cond_false]
        cases p3 : ([99] : List UInt8).isPrefixOf s with
        | false =>
          rw [take_f _ _ p3]
          simp only [Option.bind_some]
          rw [need_f, isPan_n, cond_true]
          exact ⟨none, rfl, fun x h => by cases h⟩
        | true =>
          obtain ⟨s1, rfl⟩ := pre_split p3
          rw [take_t]
          simp only [Option.bind_some]
          rw [need_t, isPan_s, cond_false, joinP_s]
          simp only [Option.bind_some]
          have hs1 : s1.length + 1 = ([99] ++ s1 : List UInt8).length := by simp
          rw [num_spec _ s1 l (by omega) (by omega) (by omega)]
          cases hn : numOK s1 with
          | false => exact ⟨none, rfl, fun x h => by cases h⟩
          | true =>
            refine ⟨_, rfl, fun x hx => ?_⟩
            obtain rfl := Option.some.inj hx
            unfold numOK at hn
            rw [Bool.and_eq_true, Bool.or_eq_true, decide_eq_true_eq, bne_iff_ne] at hn
            refine ⟨.c (atoiV (s1.take (spd s1))), ?_, rfl, by simp [Tr.dp], fun hw => ?_, ?_, ?_⟩
            · simp only [Tr.sz]; omega
            · have hle := spd_le s1
              have hb := num_back (spd_all s1) hn.1 (by
                rcases hn.2 with h | h
                · exact .inl (by rw [List.length_take]; omega)
                · by_cases h0 : spd s1 = 0
                  · rw [h0, List.take_zero, atoi_nil] at hn; exact absurd hn.1 (by simp)
                  · refine .inr ?_
                    have : (s1.take (spd s1)).getD 0 0 = s1.getD 0 0 := by
                      rw [List.getD_eq_getElem?_getD, List.getD_eq_getElem?_getD, List.getElem?_take, if_pos (by omega)]
                    rw [this]; exact h) hw.2
              simp only [tx, hb.1]
              rw [List.append_assoc, List.take_append_drop]
            · simp; omega
            · simp only [List.length_drop]; omega

/-! ### Reading: every rule's text is taken -/
theorem read_open {N n : Nat} {s : List UInt8} {l : List T_RuleNode} {deep : Nat} (h2 : deep ≤ 100) (hl : l.length ≤ 64) : rule_reader_read_M N (n + 1) (s, l) ((deep + 1 : Nat) : Int) =
    Option.bind (rule_reader_take N (s, l) [33]) fun r2 =>
    bif r2.1 then
      bif isPan (rule_reader_read_M N n r2.2 (deep : Int)) then some none else
      Option.bind (joinP (rule_reader_read_M N n r2.2 (deep : Int))) fun r3 =>
      Option.bind (rule_reader_add N r3.2 (2, (0, (r3.1, 0)))) fun r4 =>
      some (some (r4.1, r4.2))
    else
      Option.bind (rule_reader_take N r2.2 [40]) fun r5 =>
      bif r5.1 then
        bif isPan (rule_reader_read_M N n r5.2 (deep : Int)) then some none else
        Option.bind (joinP (rule_reader_read_M N n r5.2 (deep : Int))) fun r6 =>
        Option.bind (rule_reader_take N r6.2 [32, 38, 32]) fun r7 =>
        bif (!r7.1) then
          Option.bind (rule_reader_take N r7.2 [32, 124, 32]) fun r8 =>
          bif isPan (rule_reader_needP N r8.2 r8.1) then some none else
          Option.bind (joinP (rule_reader_needP N r8.2 r8.1)) fun r9 =>
          bif isPan (rule_reader_read_M N n r9.2 (deep : Int)) then some none else
          Option.bind (joinP (rule_reader_read_M N n r9.2 (deep : Int))) fun r10 =>
          Option.bind (rule_reader_take N r10.2 [41]) fun r11 =>
          bif isPan (rule_reader_needP N r11.2 r11.1) then some none else
          Option.bind (joinP (rule_reader_needP N r11.2 r11.1)) fun r12 =>
          Option.bind (rule_reader_add N r12.2 (4, (0, (r6.1, r10.1)))) fun r13 =>
          some (some (r13.1, r13.2))
        else
          bif isPan (rule_reader_read_M N n r7.2 (deep : Int)) then some none else
          Option.bind (joinP (rule_reader_read_M N n r7.2 (deep : Int))) fun r14 =>
          Option.bind (rule_reader_take N r14.2 [41]) fun r15 =>
          bif isPan (rule_reader_needP N r15.2 r15.1) then some none else
          Option.bind (joinP (rule_reader_needP N r15.2 r15.1)) fun r16 =>
          Option.bind (rule_reader_add N r16.2 (3, (0, (r6.1, r14.1)))) fun r17 =>
          some (some (r17.1, r17.2))
      else
        Option.bind (rule_reader_take N r5.2 [99]) fun r18 =>
        bif isPan (rule_reader_needP N r18.2 r18.1) then some none else
        Option.bind (joinP (rule_reader_needP N r18.2 r18.1)) fun r19 =>
        rule_reader_read_L1 N (rule_reader_read_M N n) N 0 r19.2.1 r19.2.2 := by
  rw [rule_reader_read_M_succ]
  unfold rule_reader_read_R
  have eW : W (((deep + 1 : Nat) : Int) - 1) = (deep : Int) := by rw [W_eq (by omega) (by omega)]; omega
  rw [decide_eq_true (by omega), cond_true, eW]
  dsimp only
  rw [decide_eq_true (by omega), need_t, isPan_s, cond_false, joinP_s]
  simp only [Option.bind_some]
theorem not_pre {c d : UInt8} (h : (c == d) = false) (s : List UInt8) : ([c] : List UInt8).isPrefixOf ([d] ++ s) = false := by
  simp only [List.singleton_append, List.isPrefixOf, h, Bool.false_and]
theorem tx_ne (t : Tr) : ∃ c r, tx t = c :: r ∧ dg c = false := by
  cases t with
  | c k => exact ⟨99, _, rfl, rfl⟩
  | n a => exact ⟨33, _, rfl, rfl⟩
  | b o x y => exact ⟨40, _, rfl, rfl⟩
theorem read_good {N : Nat} : ∀ (t : Tr) (n deep : Nat) (s : List UInt8) (l : List T_RuleNode), t.wf → t.dp ≤ deep → deep < n → deep ≤ 100 → (tx t ++ s).length + 2 ≤ N → (tx t ++ s).length ≤ 281474976710656 → spd s = 0 → l.length + t.sz ≤ 65 →
    rule_reader_read_M N n (tx t ++ s, l) (deep : Int) = some (some (((l.length + t.sz : Nat) : Int) - 1, (s, l ++ t.fl l.length)))
  | t, n, 0, s, l, _, h, _, _, _, _, _, _ => absurd h (by have := t.dp_pos; omega)
  | t, 0, deep + 1, s, l, _, _, h, _, _, _, _, _ => absurd h (by omega)
  | .c k, n + 1, deep + 1, s, l, hw, h1, h2, h3, h4, h5, h6, h7 => by
    obtain ⟨w1, w2⟩ : 0 ≤ k ∧ k < 64 := hw
    obtain ⟨f1, f2, f3, f4⟩ := num_fact w1 w2
    simp only [Tr.sz] at h7
    simp only [tx, List.append_assoc] at h4 h5 ⊢
    have hlen : ([99] ++ (itoaM k ++ s) : List UInt8).length = (itoaM k ++ s).length + 1 := by simp
    rw [read_open (by omega) (by omega), take_f _ _ (not_pre (by rfl) _)]
    simp only [Option.bind_some, cond_false]
    rw [take_f _ _ (not_pre (by rfl) _)]
    simp only [Option.bind_some, cond_false]
    rw [take_t]
    simp only [Option.bind_some]
    rw [need_t, isPan_s, cond_false, joinP_s]
    simp only [Option.bind_some]
    rw [num_spec _ _ _ (by omega) (by omega) (by omega)]
    have hsp : spd (itoaM k ++ s) = (itoaM k).length := spd_app _ _ f3 h6
    have htk : (itoaM k ++ s).take (spd (itoaM k ++ s)) = itoaM k := by rw [hsp, List.take_left]
    have hok : numOK (itoaM k ++ s) = true := by
      unfold numOK
      rw [htk, f1, Bool.true_and, Bool.or_eq_true, decide_eq_true_eq, bne_iff_ne, hsp]
      rcases f4 with h | ⟨h, h'⟩
      · exact .inl h
      · refine .inr ?_
        rw [List.getD_eq_getElem?_getD, List.getElem?_append_left (by omega), ← List.getD_eq_getElem?_getD]
        exact h'
    rw [hok, cond_true, htk, hsp, List.drop_left, f2]
    simp only [Tr.sz, Tr.fl]
    congr 3
    omega
  | .n a, n + 1, deep + 1, s, l, hw, h1, h2, h3, h4, h5, h6, h7 => by
    simp only [Tr.sz] at h7
    simp only [Tr.dp] at h1
    simp only [tx, List.append_assoc] at h4 h5 ⊢
    have hlen : ([33] ++ (tx a ++ s) : List UInt8).length = (tx a ++ s).length + 1 := by simp
    rw [read_open (by omega) (by omega), take_t]
    simp only [Option.bind_some, cond_true]
    rw [read_good a n deep s l hw (by omega) (by omega) (by omega) (by omega) (by omega) h6 (by omega), isPan_s, cond_false, joinP_s]
    simp only [Option.bind_some]
    have hl2 : (l ++ a.fl l.length).length = l.length + a.sz := by rw [List.length_append, Tr.fl_len]
    rw [add_eq _ _ _ (by omega)]
    simp only [Option.bind_some]
    rw [hl2]
    simp only [Tr.sz, Tr.fl, List.append_assoc]
    congr 3
    omega
  | .b o x y, n + 1, deep + 1, s, l, hw, h1, h2, h3, h4, h5, h6, h7 => by
    simp only [Tr.sz] at h7
    simp only [Tr.dp] at h1
    simp only [tx, List.append_assoc] at h4 h5 ⊢
    have hyp := y.sz_pos
    have hxp := x.sz_pos
    have hlen : ([40] ++ (tx x ++ ([32, opc o, 32] ++ (tx y ++ ([41] ++ s)))) : List UInt8).length = (tx x ++ ([32, opc o, 32] ++ (tx y ++ ([41] ++ s)))).length + 1 := by simp
    have hlen2 : (tx x ++ ([32, opc o, 32] ++ (tx y ++ ([41] ++ s))) : List UInt8).length = (tx x).length + 3 + (tx y ++ ([41] ++ s)).length := by simp; omega
    rw [read_open (by omega) (by omega), take_f _ _ (not_pre (by rfl) _)]
    simp only [Option.bind_some, cond_false]
    rw [take_t]
    simp only [Option.bind_some, cond_true]
    rw [read_good x n deep _ l hw.1 (by omega) (by omega) (by omega) (by omega) (by omega) (by rfl) (by omega), isPan_s, cond_false, joinP_s]
    simp only [Option.bind_some]
    have hl2 : (l ++ x.fl l.length).length = l.length + x.sz := by rw [List.length_append, Tr.fl_len]
    have hy := read_good (N := N) y n deep ([41] ++ s) (l ++ x.fl l.length) hw.2 (by omega) (by omega) (by omega) (by omega) (by omega) (by rfl) (by omega)
    have hl3 : (l ++ x.fl l.length ++ y.fl (l.length + x.sz)).length = l.length + x.sz + y.sz := by rw [List.length_append, Tr.fl_len, hl2]
    rw [hl2] at hy
    have fin : ∀ r, (some (some (r, (s, (l ++ x.fl l.length ++ y.fl (l.length + x.sz)) ++ [(Tr.kd o, (0, (((l.length + x.sz : Nat) : Int) - 1, ((l.length + x.sz + y.sz : Nat) : Int) - 1)))]))) : Option (Option (Int × T_reader))) = some (some (r, (s, l ++ (Tr.b o x y).fl l.length))) := fun r => by
      simp only [Tr.fl, List.append_assoc]
    cases o with
    | false =>
      rw [show opc false = 38 from rfl, take_t]
      simp only [Option.bind_some, Bool.not_true, cond_false]
      rw [hy, isPan_s, cond_false, joinP_s]
      simp only [Option.bind_some]
      rw [take_t]
      simp only [Option.bind_some]
      rw [need_t, isPan_s, cond_false, joinP_s]
      simp only [Option.bind_some]
      rw [add_eq _ _ _ (by omega)]
      simp only [Option.bind_some]
      rw [hl3]
      refine (fin _).trans ?_
      simp only [Tr.sz]
      congr 3
      omega
    | true =>
      rw [show opc true = 124 from rfl, take_f _ _ (by rfl)]
      simp only [Option.bind_some, Bool.not_false, cond_true]
      rw [take_t]
      simp only [Option.bind_some]
      rw [need_t, isPan_s, cond_false, joinP_s]
      simp only [Option.bind_some]
      rw [hy, isPan_s, cond_false, joinP_s]
      simp only [Option.bind_some]
      rw [take_t]
      simp only [Option.bind_some]
      rw [need_t, isPan_s, cond_false, joinP_s]
      simp only [Option.bind_some]
      rw [add_eq _ _ _ (by omega)]
      simp only [Option.bind_some]
      rw [hl3]
      refine (fin _).trans ?_
      simp only [Tr.sz]
      congr 3
      omega

/-! ### Parse -/
theorem parse_good {N : Nat} (hN : 66 ≤ N) (hN2 : N ≤ 1000000000000000) {t : Tr} (h : Good t) (hl : (tx t).length + 2 ≤ N) : rule_Parse N (tx t) = some (t.fl 0, 0) := by
  obtain ⟨h1, h2, h3⟩ := h
  have htl := tx_len t
  have := read_good (N := N) t N 16 [] [] h1 h2 (by omega) (by omega) (by simpa using hl) (by simp; omega) rfl (by simpa using (by omega : t.sz ≤ 65))
  simp only [List.append_nil, List.length_nil, List.nil_append] at this
  unfold rule_Parse rule_ParseP rule_reader_read
  rw [show (16 : Int) = ((16 : Nat) : Int) from rfl, this, isPan_s, cond_false, joinP_s]
  simp only [Option.bind_some]
  rw [show (([] : List UInt8) == []) = true from rfl, cond_true, right_good hN hN2 ⟨h1, h2, h3⟩]
  simp only [Option.bind_some]
  rw [need_t, isPan_s, cond_false, joinP_s]
  rfl
/-- Two trees in one place are one. -/
theorem fl_inj : ∀ (t u : Tr) (L1 L2 : List T_RuleNode), L1 ++ t.fl L1.length = L2 ++ u.fl L2.length → t = u ∧ L1 = L2
  | .c k, .c k', L1, L2, h => by
    simp only [Tr.fl] at h
    obtain ⟨h1, h2⟩ := List.append_inj' h rfl
    simp only [List.cons.injEq, Prod.mk.injEq, and_true, true_and] at h2
    exact ⟨by rw [h2], h1⟩
  | .n a, .n a', L1, L2, h => by
    simp only [Tr.fl, ← List.append_assoc] at h
    obtain ⟨h1, h2⟩ := List.append_inj' h rfl
    obtain ⟨rfl, h3⟩ := fl_inj a a' L1 L2 h1
    exact ⟨rfl, h3⟩
  | .b o x y, .b o' x' y', L1, L2, h => by
    simp only [Tr.fl, ← List.append_assoc] at h
    obtain ⟨h1, h2⟩ := List.append_inj' h rfl
    have e1 : L1.length + x.sz = (L1 ++ x.fl L1.length).length := by rw [List.length_append, Tr.fl_len]
    have e2 : L2.length + x'.sz = (L2 ++ x'.fl L2.length).length := by rw [List.length_append, Tr.fl_len]
    rw [e1, e2] at h1
    obtain ⟨rfl, h4⟩ := fl_inj y y' _ _ h1
    obtain ⟨rfl, h5⟩ := fl_inj x x' _ _ h4
    simp only [List.cons.injEq, Prod.mk.injEq] at h2
    have : o = o' := by
      have := h2.1.1
      cases o <;> cases o' <;> first | rfl | (exfalso; revert this; decide)
    exact ⟨by rw [this], h5⟩
  | .c k, .n a, L1, L2, h => by
    simp only [Tr.fl, ← List.append_assoc] at h
    obtain ⟨_, h2⟩ := List.append_inj' h rfl
    simp at h2
  | .c k, .b o x y, L1, L2, h => by
    simp only [Tr.fl, ← List.append_assoc] at h
    obtain ⟨_, h2⟩ := List.append_inj' h rfl
    rcases Tr.kd_cases o with e | e <;> rw [e] at h2 <;> simp at h2
  | .n a, .c k, L1, L2, h => by
    simp only [Tr.fl, ← List.append_assoc] at h
    obtain ⟨_, h2⟩ := List.append_inj' h rfl
    simp at h2
  | .n a, .b o x y, L1, L2, h => by
    simp only [Tr.fl, ← List.append_assoc] at h
    obtain ⟨_, h2⟩ := List.append_inj' h rfl
    rcases Tr.kd_cases o with e | e <;> rw [e] at h2 <;> simp at h2
  | .b o x y, .c k, L1, L2, h => by
    simp only [Tr.fl, ← List.append_assoc] at h
    obtain ⟨_, h2⟩ := List.append_inj' h rfl
    rcases Tr.kd_cases o with e | e <;> rw [e] at h2 <;> simp at h2
  | .b o x y, .n a, L1, L2, h => by
    simp only [Tr.fl, ← List.append_assoc] at h
    obtain ⟨_, h2⟩ := List.append_inj' h rfl
    rcases Tr.kd_cases o with e | e <;> rw [e] at h2 <;> simp at h2
theorem fl_inj0 {t u : Tr} (h : t.fl 0 = u.fl 0) : t = u := (fl_inj t u [] [] (by simpa using h)).1
/-- The answer of Parse is known. -/
theorem parse_iff {N : Nat} (hN : 66 ≤ N) (hN2 : N ≤ 1000000000000000) (s : List UInt8) (hs : s.length + 2 ≤ N) (hs2 : s.length ≤ 281474976710656) : (∃ t, Good t ∧ s = tx t ∧ rule_Parse N s = some (t.fl 0, 0)) ∨ (¬ (∃ t, Good t ∧ s = tx t) ∧ rule_Parse N s = some ([], 6)) := by
  by_cases hg : ∃ t, Good t ∧ s = tx t
  · obtain ⟨t, h, rfl⟩ := hg
    exact .inl ⟨t, h, rfl, parse_good hN hN2 h hs⟩
  · refine .inr ⟨hg, ?_⟩
    obtain ⟨r, e, hr⟩ := read_sound (N := N) N s [] 16 (by omega) (by omega) hs hs2 (by simp)
    unfold rule_Parse rule_ParseP rule_reader_read
    rw [show (16 : Int) = ((16 : Nat) : Int) from rfl, e]
    cases r with
    | none => rw [isPan_n, cond_true]; rfl
    | some x =>
      obtain ⟨t, t1, t2, t3, t4, t5, t6⟩ := hr x rfl
      obtain ⟨x1, x2, x3⟩ := x
      simp only [List.length_nil, List.nil_append] at t1 t2 t4 t5 t6
      rw [isPan_s, cond_false, joinP_s]
      simp only [Option.bind_some]
      by_cases q : x2 = []
      · subst q
        have hb : ¬ Rt x3 := by
          rintro ⟨u, hu, he⟩
          have : t = u := fl_inj0 (t2.symm.trans he)
          subst this
          exact hg ⟨t, hu, by simpa using t4 hu.1⟩
        rw [show (([] : List UInt8) == []) = true from rfl, cond_true, right_bad hN hN2 hb]
        simp only [Option.bind_some]
        rw [need_f, isPan_n, cond_true]
        rfl
      · rw [beq_false_of_ne q, cond_false, need_f, isPan_n, cond_true]
        rfl
end Go.Proofs.YthfejkflhpifnaaDoor
set_option linter.all false
namespace Go.Proofs.YthfejkflhpifnaaDoor
open Go.Pv M

/-- Choices from which can be drawn. -/
def Cd (d : T_Codes) : Prop := 0 ≤ d.2 ∧ d.2 ≤ d.1.length ∧ d.1.length ≤ 300 ∧ ∀ a, a ∈ d.1 → 0 ≤ a ∧ a ≤ 255

theorem wf_u8 {n : Int} (h : (Lit.int .u8 n).wf = true) : 0 ≤ n ∧ n ≤ 255 := by
  simp only [Lit.wf, Bool.and_eq_true, decide_eq_true_eq] at h
  exact h
theorem mod_eq (N : Nat) (n m : Int) (h2 : m ≤ 4611686018427387904) : draw_Mod N n m = some (modS n m) := by
  unfold draw_Mod modS
  by_cases h : m < 1
  · simp [h]
  · have h0 : ¬ m = 0 := by omega
    have hr := tmod_lt (n := n) (m := m) (by omega)
    have he := tmod_emod (n := n) (m := m) (by omega)
    have h00 : (m == 0) = false := by simpa using h0
    simp only [h, decide_false, cond_false, h00, if_false]
    split at he
    · rename_i hlt
      simp only [hlt, decide_true, cond_true]
      rw [W_eq (by omega) (by omega), he]
    · rename_i hlt
      simp only [hlt, decide_false, cond_false]; rw [he]

theorem cd_get {d : List Int} (h : ∀ a, a ∈ d → 0 ≤ a ∧ a ≤ 255) (k : Nat) : 0 ≤ d.getD k 0 ∧ d.getD k 0 ≤ 255 := by
  rw [List.getD_eq_getElem?_getD]
  cases e : d[k]? with
  | none => simp
  | some x => exact h x (List.mem_of_getElem? e)

theorem next_spec {N : Nat} (hN : 0 < N) {d : T_Codes} (hd : Cd d) {n : Int} (h2 : n ≤ 4611686018427387904) : ∃ v d', draw_Codes_Next N d n = some (v, d') ∧ 0 ≤ v ∧ (v < n ∨ v = 0) ∧ Cd d' := by
  obtain ⟨a1, a2, a3, a4⟩ := hd
  obtain ⟨M, rfl⟩ : ∃ M, N = M + 1 := ⟨N - 1, by omega⟩
  unfold draw_Codes_Next
  by_cases h1 : n < 1
  · simp only [h1, decide_true, cond_true]
    exact ⟨0, d, rfl, by omega, .inr rfl, a1, a2, a3, a4⟩
  simp only [h1, decide_false, cond_false]
  by_cases h : d.2 ≥ (d.1.length : Int)
  · simp only [h, decide_true, cond_true]
    exact ⟨0, d, rfl, by omega, .inr rfl, a1, a2, a3, a4⟩
  · simp only [h, decide_false, cond_false]
    rw [draw_Codes_Next_J1_eq]
    have h0 : (n == 0) = false := by simp; omega
    rw [W_eq (n := d.2 + 1) (by omega) (by omega), W_eq (n := d.2 + 1 - 1) (by omega) (by omega), inB_true (by omega), cond_true]
    have g1 := cd_get a4 (d.2 + 1 - 1).toNat
    have g2 := cd_get a4 (d.2 + 1).toNat
    simp only [h0, cond_false]
    by_cases hn : n > 256
    · simp only [hn, decide_true, cond_true]
      by_cases hl : d.2 + 1 < (d.1.length : Int)
      · simp only [hl, decide_true, cond_true]
        rw [inB_true (by omega), cond_true]
        generalize d.1.getD (d.2 + 1 - 1).toNat 0 = x at g1 ⊢
        generalize d.1.getD (d.2 + 1).toNat 0 = y at g2 ⊢
        rw [W_eq (n := x) (by omega) (by omega), W_eq (n := y) (by omega) (by omega), W_eq (n := x * 256) (by omega) (by omega), W_eq (n := x * 256 + y) (by omega) (by omega), W_eq (n := d.2 + 1 + 1) (by omega) (by omega)]
        refine ⟨_, _, rfl, Int.tmod_nonneg _ (by omega), .inl (Int.tmod_lt_of_pos _ (by omega)), ?_, ?_, a3, a4⟩
        · show 0 ≤ d.2 + 1 + 1; omega
        · show d.2 + 1 + 1 ≤ (d.1.length : Int); omega
      · simp only [hl, decide_false, cond_false]
        rw [W_eq (n := d.1.getD (d.2 + 1 - 1).toNat 0) (by omega) (by omega)]
        refine ⟨_, _, rfl, Int.tmod_nonneg _ (by omega), .inl (Int.tmod_lt_of_pos _ (by omega)), ?_, ?_, a3, a4⟩
        · show 0 ≤ d.2 + 1; omega
        · show d.2 + 1 ≤ (d.1.length : Int); omega
    · simp only [hn, decide_false, cond_false]
      rw [W_eq (n := d.1.getD (d.2 + 1 - 1).toNat 0) (by omega) (by omega)]
      refine ⟨_, _, rfl, Int.tmod_nonneg _ (by omega), .inl (Int.tmod_lt_of_pos _ (by omega)), ?_, ?_, a3, a4⟩
      · show 0 ≤ d.2 + 1; omega
      · show d.2 + 1 ≤ (d.1.length : Int); omega

theorem one_spec {N : Nat} (hN : 0 < N) {d : T_Codes} (hd : Cd d) {n : Int} (h2 : n ≤ 4611686018427387904) : ∃ b d', draw_Codes_One N d n = some (b, d') ∧ Cd d' := by
  unfold draw_Codes_One
  obtain ⟨v, d', e, r1, r2, r3⟩ := next_spec hN hd h2
  rw [e, bind_some']
  exact ⟨_, _, rfl, r3⟩

theorem range_spec {N : Nat} (hN : 0 < N) {d : T_Codes} (hd : Cd d) {a b : Int} (h1 : a ≤ b) (h2 : -1000000 ≤ a) (h3 : b ≤ 1000000) : ∃ v d', draw_Codes_Range N d a b = some (v, d') ∧ a ≤ v ∧ v ≤ b ∧ Cd d' := by
  unfold draw_Codes_Range
  rw [W_eq (n := b - a) (by omega) (by omega), W_eq (n := b - a + 1) (by omega) (by omega)]
  obtain ⟨v, d', e, r1, r2, r3⟩ := next_spec hN hd (n := b - a + 1) (by omega)
  rw [e, bind_some']
  simp only
  rw [W_eq (n := a + v) (by omega) (by omega)]
  exact ⟨_, _, rfl, by omega, by omega, r3⟩

theorem new_spec (N : Nat) {l : List Int} (h : ∀ a, a ∈ l → (Lit.int .u8 a).wf = true) (hl : l.length ≤ maxLen) : ∃ d, draw_New N l = some (d, ()) ∧ Cd d := by
  unfold draw_New
  have : maxLen ≤ 9223372036854775807 := by decide
  simp only
  rw [slB_true (by omega), cond_true]
  refine ⟨_, rfl, by show (0 : Int) ≤ 0; omega, by show (0 : Int) ≤ _; omega, ?_, fun a ha => ?_⟩
  · show (l.take _).length ≤ 300
    rw [List.length_take]; omega
  · have := h a (List.mem_of_mem_take ha)
    simp only [Lit.wf, Bool.and_eq_true, decide_eq_true_eq] at this
    exact this
end Go.Proofs.YthfejkflhpifnaaDoor
set_option linter.all false
namespace Go.Proofs.YthfejkflhpifnaaDoor
open Go.Pv M

def Tr.cw (c : Int) : Tr → Prop
  | .c k => 0 ≤ k ∧ k < c
  | .n a => a.cw c
  | .b _ x y => x.cw c ∧ y.cw c
theorem Tr.cw_wf {c : Int} (hc : c ≤ 64) : ∀ {t : Tr}, t.cw c → t.wf
  | .c k, h => ⟨h.1, by have := h.2; omega⟩
  | .n a, h => cw_wf hc (t := a) h
  | .b _ x y, h => ⟨cw_wf hc (t := x) h.1, cw_wf hc (t := y) h.2⟩
def sh (m : Nat) (x : T_RuleNode) : T_RuleNode := (x.1, (x.2.1, ((if x.1 = 1 then x.2.2.1 else x.2.2.1 + (m : Int)), (if x.1 = 3 ∨ x.1 = 4 then x.2.2.2 + (m : Int) else x.2.2.2))))
theorem sh_fl (m : Nat) : ∀ (t : Tr) (p : Nat), (t.fl p).map (sh m) = t.fl (p + m)
  | .c k, p => by simp [Tr.fl, sh]
  | .n a, p => by
    simp only [Tr.fl, List.map_append, sh_fl m a p, List.map_cons, List.map_nil]
    congr 2
    simp [sh]; omega
  | .b o x y, p => by
    simp only [Tr.fl, List.map_append, sh_fl m x p, sh_fl m y (p + x.sz), List.map_cons, List.map_nil]
    rw [show p + m + x.sz = p + x.sz + m by omega]
    congr 3
    cases o <;> simp [sh, Tr.kd] <;> omega
def Nb (x : T_RuleNode) : Prop := 0 ≤ x.2.2.1 ∧ x.2.2.1 ≤ 1000 ∧ 0 ≤ x.2.2.2 ∧ x.2.2.2 ≤ 1000
theorem fl_nb : ∀ (t : Tr) (p : Nat), p + t.sz ≤ 1000 → ∀ x ∈ t.fl p, Nb x
  | .c k, p, h, x, hx => by
    rw [Tr.fl, List.mem_singleton] at hx; subst hx
    exact ⟨by simp, by simp, by simp, by simp⟩
  | .n a, p, h, x, hx => by
    simp only [Tr.sz] at h
    have hs := a.sz_pos
    rw [Tr.fl, List.mem_append, List.mem_singleton] at hx
    rcases hx with hx | rfl
    · exact fl_nb a p (by omega) x hx
    · unfold Nb; dsimp only; omega
  | .b o y z, p, h, x, hx => by
    simp only [Tr.sz] at h
    have hs := y.sz_pos
    have hs' := z.sz_pos
    rw [Tr.fl, List.mem_append, List.mem_append, List.mem_singleton] at hx
    rcases hx with hx | hx | rfl
    · exact fl_nb y p (by omega) x hx
    · exact fl_nb z _ (by omega) x hx
    · unfold Nb; dsimp only; omega
theorem mid_get {α : Type} (done rest : List α) (x d : α) : (done ++ x :: rest).getD done.length d = x := by simp
theorem mid_set {α : Type} (done rest : List α) (x y : α) : (done ++ x :: rest).set done.length y = done ++ y :: rest := by simp
theorem shift_loop (N : Nat) (self : T_Codes → Int → Int → Option ((List T_RuleNode) × T_Codes)) (c1 : List Int) (c2 : Int) (a : List T_RuleNode) (ha : a.length ≤ 1000) : ∀ (rest done : List T_RuleNode) (n : Nat), (done ++ rest).length ≤ 1000 → (∀ x ∈ rest, Nb x) →
    draw_Codes_Rule_L1 N self (n + rest.length) (done.length : Int) c1 c2 a (done ++ rest) = draw_Codes_Rule_L1 N self n ((done ++ rest).length : Int) c1 c2 a (done ++ rest.map (sh a.length))
  | [], done, n, _, _ => by simp
  | x :: rest, done, n, hl, hx => by
    have ih := fun y : T_RuleNode => shift_loop N self c1 c2 a ha rest (done ++ [y]) n (by simp at hl ⊢; omega) (fun z hz => hx z (List.mem_cons_of_mem _ hz))
    simp only [List.append_assoc, List.singleton_append, List.length_append, List.length_cons, List.length_nil, Nat.zero_add] at ih
    have hlen : (done ++ x :: rest).length = done.length + (rest.length + 1) := by simp
    have hlen2 : ∀ y, (done ++ y :: rest).length = done.length + (rest.length + 1) := fun y => by simp
    rw [hlen] at hl
    obtain ⟨b1, b2, b3, b4⟩ := hx x (List.mem_cons_self ..)
    rw [show n + (x :: rest).length = n + rest.length + 1 by simp; omega, draw_Codes_Rule_L1_succ, hlen, decide_eq_true (by omega), cond_true, inB_true (by omega), cond_true, Int.toNat_natCast, mid_get]
    have e1 : W ((done.length : Int) + 1) = ((done.length + 1 : Nat) : Int) := by rw [W_eq (by omega) (by omega)]; omega
    have fin : ∀ y, y = sh a.length x → draw_Codes_Rule_L1 N self (n + rest.length) (W ((done.length : Int) + 1)) c1 c2 a (done ++ y :: rest) = draw_Codes_Rule_L1 N self n ((done.length + (rest.length + 1) : Nat) : Int) c1 c2 a (done ++ (x :: rest).map (sh a.length)) := fun y hy => by
      rw [e1, ih y, hy, List.map_cons]
    obtain ⟨kd, k, lf, rg⟩ := x
    simp only at b1 b2 b3 b4
    dsimp only
    by_cases k1 : kd = 1
    · subst k1
      rw [show ((1 : Int) != 1) = false from rfl, cond_false, cond_true, show ((1 : Int) == 3) = false from rfl, cond_false, cond_true, show ((1 : Int) == 4) = false from rfl, cond_false]
      exact fin _ (by simp [sh])
    · rw [bne_iff_ne.2 k1, cond_true, cond_true, cond_true, W_eq (n := lf + (a.length : Int)) (by omega) (by omega), mid_set, hlen2, inB_true (by omega), cond_true, mid_get]
      dsimp only
      by_cases k3 : kd = 3
      · subst k3
        rw [show ((3 : Int) == 3) = true from rfl, cond_true, cond_true, cond_true, W_eq (n := rg + (a.length : Int)) (by omega) (by omega), mid_set]
        exact fin _ (by simp [sh])
      · rw [beq_false_of_ne k3, cond_false, cond_true]
        by_cases k4 : kd = 4
        · subst k4
          rw [show ((4 : Int) == 4) = true from rfl, cond_true, cond_true, cond_true, W_eq (n := rg + (a.length : Int)) (by omega) (by omega), mid_set]
          exact fin _ (by simp [sh])
        · rw [beq_false_of_ne k4, cond_false]
          exact fin _ (by simp [sh, k1, k3, k4])

theorem pow_le (k : Nat) (h : k ≤ 5) : 2 ^ (k + 1) ≤ 64 := by
  have : k = 0 ∨ k = 1 ∨ k = 2 ∨ k = 3 ∨ k = 4 ∨ k = 5 := by omega
  rcases this with rfl | rfl | rfl | rfl | rfl | rfl <;> decide
theorem rule_spec {N : Nat} (hN : 66 ≤ N) {c : Int} (hc : 1 ≤ c) (hc2 : c ≤ 64) : ∀ (k n : Nat) (d : T_Codes), Cd d → k < n → k ≤ 5 → ∃ (t : Tr) (d' : T_Codes), draw_Codes_Rule_M N n d c (k : Int) = some (t.fl 0, d') ∧ t.cw c ∧ t.dp ≤ k + 1 ∧ t.sz + 1 ≤ 2 ^ (k + 1) ∧ Cd d' := by
  have leaf : ∀ (k : Nat) (d : T_Codes), Cd d → ∃ (t : Tr) (d' : T_Codes), (Option.bind (draw_Codes_Next N d c) fun r1 => some ([(1, (r1.1, (0, 0)))], r1.2)) = some (Tr.fl t 0, d') ∧ t.cw c ∧ t.dp ≤ k + 1 ∧ t.sz + 1 ≤ 2 ^ (k + 1) ∧ Cd d' := fun k d hd => by
    obtain ⟨v, d', e, h1, h2, h3⟩ := next_spec (N := N) (by omega) hd (n := c) (by omega)
    rw [e, bind_some']
    refine ⟨.c v, d', rfl, ⟨h1, by omega⟩, by simp [Tr.dp], ?_, h3⟩
    have : 2 ^ (k + 1) = 2 ^ k * 2 := Nat.pow_succ ..
    have := Nat.one_le_two_pow (n := k)
    simp only [Tr.sz]; omega
  intro k
  induction k with
  | zero =>
    intro n d hd hn _
    obtain ⟨n', rfl⟩ : ∃ n', n = n' + 1 := ⟨n - 1, by omega⟩
    rw [draw_Codes_Rule_M_succ]
    unfold draw_Codes_Rule_R
    rw [decide_eq_true (by omega), cond_true]
    exact leaf 0 d hd
  | succ k ih =>
    intro n d hd hn hk
    obtain ⟨n', rfl⟩ : ∃ n', n = n' + 1 := ⟨n - 1, by omega⟩
    rw [draw_Codes_Rule_M_succ]
    unfold draw_Codes_Rule_R
    rw [decide_eq_false (by omega), cond_false]
    obtain ⟨v, d1, e1, _, _, hd1⟩ := next_spec (N := N) (by omega) hd (n := 3) (by omega)
    rw [e1, bind_some']
    dsimp only
    by_cases hv : v = 0
    · subst hv
      rw [show ((0 : Int) == 0) = true from rfl, cond_true]
      exact leaf (k + 1) d1 hd1
    · rw [beq_false_of_ne hv, cond_false]
      obtain ⟨M', rfl⟩ : ∃ M', N = M' + 1 := ⟨N - 1, by omega⟩
      have hp : 2 ^ (k + 1 + 1) = 2 ^ (k + 1) * 2 := Nat.pow_succ ..
      have hp1 := Nat.one_le_two_pow (n := k + 1)
      have hp2 := pow_le k (by omega)
      rw [draw_Codes_Rule_J1_eq, show ((d1.1, d1.2) : T_Codes) = d1 from rfl, show W (((k + 1 : Nat) : Int) - 1) = (k : Int) by rw [W_eq (by omega) (by omega)]; omega]
      obtain ⟨x, d2, e2, x1, x2, x3, hd2⟩ := ih n' d1 hd1 (by omega) (by omega)
      rw [e2, bind_some']
      obtain ⟨b, d3, e3, hd3⟩ := one_spec (N := M' + 1) (by omega) hd2 (n := 4) (by omega)
      dsimp only
      rw [e3, bind_some']
      have hx := x.fl_len 0
      have hxp := x.sz_pos
      cases b with
      | true =>
        dsimp only
        rw [cond_true, fitsB_true (by omega), cond_true, W_eq (by omega) (by omega)]
        refine ⟨.n x, d3, ?_, x1, by simp only [Tr.dp]; omega, by simp only [Tr.sz]; omega, hd3⟩
        simp only [Tr.fl]
        rw [hx, Nat.zero_add]
      | false =>
        dsimp only
        rw [cond_false]
        obtain ⟨y, d4, e4, y1, y2, y3, hd4⟩ := ih n' d3 hd3 (by omega) (by omega)
        rw [e4, bind_some']
        dsimp only
        have hy := y.fl_len 0
        have hyp := y.sz_pos
        have := shift_loop (M' + 1) (draw_Codes_Rule_M (M' + 1) n') d4.1 d4.2 (x.fl 0) (by omega) (y.fl 0) [] (M' + 1 - y.sz) (by simp; omega) (fl_nb y 0 (by omega))
        rw [hy, show M' + 1 - y.sz + y.sz = M' + 1 by omega] at this
        simp only [List.nil_append, List.length_nil] at this
        rw [show ((0 : Nat) : Int) = 0 from rfl] at this
        rw [this, sh_fl, hx, hy, Nat.zero_add]
        obtain ⟨n2, hn2⟩ : ∃ n2, M' + 1 - y.sz = n2 + 1 := ⟨M' - y.sz, by omega⟩
        have hyl := y.fl_len x.sz
        rw [hn2, draw_Codes_Rule_L1_succ, decide_eq_false (by omega), cond_false, fitsB_true (by omega), cond_true]
        obtain ⟨w, d5, e5, w1, w2, hd5⟩ := range_spec (N := M' + 1) (by omega) hd4 (a := 3) (b := 4) (by omega) (by omega) (by omega)
        rw [show ((d4.1, d4.2) : T_Codes) = d4 from rfl, e5, bind_some']
        dsimp only
        rw [fitsB_true (by rw [List.length_append]; omega), cond_true, hx, hyl, W_eq (n := (x.sz : Int) - 1) (by omega) (by omega), W_eq (n := (x.sz : Int) + (y.sz : Int)) (by omega) (by omega), W_eq (n := (x.sz : Int) + (y.sz : Int) - 1) (by omega) (by omega)]
        have hw : w = 3 ∨ w = 4 := by omega
        have key : ∀ o, w = Tr.kd o → ∃ (t : Tr) (d' : T_Codes), some ((x.fl 0 ++ y.fl x.sz ++ [(w, (0, ((x.sz : Int) - 1, (x.sz : Int) + (y.sz : Int) - 1)))], d5) : List T_RuleNode × T_Codes) = some (Tr.fl t 0, d') ∧ t.cw c ∧ t.dp ≤ k + 1 + 1 ∧ t.sz + 1 ≤ 2 ^ (k + 1 + 1) ∧ Cd d' := fun o ho => by
          refine ⟨.b o x y, d5, ?_, ⟨x1, y1⟩, by simp only [Tr.dp]; omega, by simp only [Tr.sz]; omega, hd5⟩
          simp only [Tr.fl, Nat.zero_add, List.append_assoc]
          rw [ho, show (((x.sz + y.sz : Nat) : Int)) = (x.sz : Int) + (y.sz : Int) by omega]
        rcases hw with h | h
        · exact key false h
        · exact key true h
end Go.Proofs.YthfejkflhpifnaaDoor
set_option linter.all false
namespace Go.Proofs.YthfejkflhpifnaaDoor
open Go.Pv M

theorem drawn {N : Nat} (hN : 66 ≤ N) {c : Int} (hc : 1 ≤ c) (hc2 : c ≤ 64) (k : Nat) (hk : k ≤ 5) {d : T_Codes} (hd : Cd d) : ∃ (t : Tr) (d' : T_Codes), draw_Codes_Rule N d c (k : Int) = some (t.fl 0, d') ∧ t.cw c ∧ Good t ∧ t.dp ≤ k + 1 ∧ t.sz + 1 ≤ 2 ^ (k + 1) ∧ Cd d' := by
  obtain ⟨t, d', e, h1, h2, h3, h4⟩ := rule_spec hN hc hc2 k N d hd (by omega) hk
  have := pow_le k hk
  exact ⟨t, d', e, h1, ⟨Tr.cw_wf hc2 h1, by omega, by omega⟩, h2, h3, h4⟩

end Go.Proofs.YthfejkflhpifnaaDoor
set_option linter.all false
namespace Go.Proofs.YthfejkflhpifnaaDoor
open Go.Pv M

theorem rpart_out (N n : Nat) (l : List T_RuleNode) {j : Int} (h : j < 0 ∨ j ≥ l.length) : ref19_part_M N (n + 1) l j = some (-1, 0) := by
  rw [ref19_part_M_succ]; unfold ref19_part_R
  by_cases h0 : j < 0
  · rw [decide_eq_true h0, cond_true]
  · rw [decide_eq_false h0, cond_false, decide_eq_true (by omega), cond_true]
theorem rpart_fl {N : Nat} (hN : 0 < N) {l : List T_RuleNode} (hl : l.length ≤ 64) : ∀ (t : Tr) (b n : Nat), At l t b → t.wf → t.dp ≤ n → ref19_part_M N n l (((b + t.sz : Nat) : Int) - 1) = some ((b : Int), (t.dp : Int))
  | .c k, b, 0, _, _, h => absurd h (by simp [Tr.dp])
  | .n a, b, 0, _, _, h => absurd h (by simp [Tr.dp])
  | .b o x y, b, 0, _, _, h => absurd h (by simp [Tr.dp])
  | .c k, b, n + 1, hA, hw, _ => by
    obtain ⟨h1, h2⟩ := at_c.1 hA
    obtain ⟨w1, w2⟩ : 0 ≤ k ∧ k < 64 := hw
    obtain ⟨M', rfl⟩ : ∃ M', N = M' + 1 := ⟨N - 1, by omega⟩
    have e : ((b + (Tr.c k).sz : Nat) : Int) - 1 = (b : Int) := by simp [Tr.sz]
    rw [e, ref19_part_M_succ]
    unfold ref19_part_R
    rw [decide_eq_false (by omega), cond_false, decide_eq_false (by omega), cond_false, ref19_part_J1_eq, inB_true (by omega), cond_true, Int.toNat_natCast]
    dsimp only
    rw [h2]
    dsimp only
    rw [show ((1 : Int) == 1) = true from rfl, cond_true, decide_eq_false (by omega), cond_false, decide_eq_false (by omega), cond_false, show ((0 : Int) != 0) = false from rfl, cond_false, cond_false]
    rfl
  | .n a, b, n + 1, hA, hw, hn => by
    obtain ⟨h0, h1, h2⟩ := at_n.1 hA
    obtain ⟨M', rfl⟩ : ∃ M', N = M' + 1 := ⟨N - 1, by omega⟩
    have e : ((b + (Tr.n a).sz : Nat) : Int) - 1 = ((b + a.sz : Nat) : Int) := by simp [Tr.sz]; omega
    have ih := rpart_fl hN hl a b n h0 hw (by simpa [Tr.dp] using hn)
    have hd : a.dp ≤ 64 := by have := a.dp_le; omega
    rw [e, ref19_part_M_succ]
    unfold ref19_part_R
    rw [decide_eq_false (by omega), cond_false, decide_eq_false (by omega), cond_false, ref19_part_J1_eq, inB_true (by omega), cond_true, Int.toNat_natCast]
    dsimp only
    rw [h2, W_eq (by omega) (by omega), ih]
    dsimp only
    rw [show ((2 : Int) == 1) = false from rfl, cond_false, show ((2 : Int) == 2) = true from rfl, cond_true, show ((0 : Int) != 0) = false from rfl, cond_false, cond_false, bne_self_eq_false, cond_false]
    simp only [Option.bind_some]
    rw [W_eq (n := (a.dp : Int) + 1) (by omega) (by omega)]
    rfl
  | .b o x y, b, n + 1, hA, hw, hn => by
    obtain ⟨h0, h0', h1, h2⟩ := at_b.1 hA
    obtain ⟨M', rfl⟩ : ∃ M', N = M' + 1 := ⟨N - 1, by omega⟩
    have e : ((b + (Tr.b o x y).sz : Nat) : Int) - 1 = ((b + x.sz + y.sz : Nat) : Int) := by simp [Tr.sz]; omega
    have hn' : max x.dp y.dp ≤ n := by simpa [Tr.dp] using hn
    have ih := rpart_fl hN hl y (b + x.sz) n h0' hw.2 (by omega)
    have ih2 := rpart_fl hN hl x b n h0 hw.1 (by omega)
    have hd : x.dp ≤ 64 := by have := x.dp_le; omega
    have hd2 : y.dp ≤ 64 := by have := y.dp_le; omega
    have hxp := x.sz_pos
    have em : max (x.dp : Int) (y.dp : Int) = ((max x.dp y.dp : Nat) : Int) := by omega
    rw [e, ref19_part_M_succ]
    unfold ref19_part_R
    rw [decide_eq_false (by omega), cond_false, decide_eq_false (by omega), cond_false, ref19_part_J1_eq, inB_true (by omega), cond_true, Int.toNat_natCast]
    dsimp only
    rw [h2, W_eq (n := ((b + x.sz + y.sz : Nat) : Int) - 1) (by omega) (by omega), ih]
    simp only [Option.bind_some]
    rw [W_eq (n := ((b + x.sz : Nat) : Int) - 1) (by omega) (by omega), ih2]
    simp only [Option.bind_some]
    rw [em, W_eq (n := ((max x.dp y.dp : Nat) : Int) + 1) (by omega) (by omega), decide_eq_false (show ¬ (((b + x.sz : Nat) : Int) < 1) by omega), show ((0 : Int) != 0) = false from rfl, bne_self_eq_false, bne_self_eq_false]
    simp only [cond_false]
    cases o <;> rfl
/-- The place that the reference's part gives is right, or -1. -/
theorem rpart_sound {N : Nat} (hN : 0 < N) {l : List T_RuleNode} (hl : l.length ≤ 64) : ∀ (n : Nat) (j : Int), -1 ≤ j → j < l.length → j + 1 < n → n ≤ 1000000000000000 → ∃ f d, ref19_part_M N n l j = some (f, d) ∧ (-1 ≤ f ∧ f ≤ 64 ∧ 0 ≤ d ∧ d ≤ n) ∧ (0 ≤ f → PS l j f d) := by
  intro n
  induction n with
  | zero => intro j h0 h1 h2; omega
  | succ n ih =>
    intro j h0 h1 h2 h3
    by_cases hj : j < 0
    · exact ⟨-1, 0, rpart_out N n l (.inl hj), by omega, fun h => by omega⟩
    · have bad : ∀ (R : Option (Int × Int)), R = some (-1, 0) → ∃ f d, R = some (f, d) ∧ (-1 ≤ f ∧ f ≤ 64 ∧ 0 ≤ d ∧ d ≤ (n + 1 : Nat)) ∧ (0 ≤ f → PS l j f d) := fun R hR => ⟨-1, 0, hR, by omega, fun h => by omega⟩
      obtain ⟨M', rfl⟩ : ∃ M', N = M' + 1 := ⟨N - 1, by omega⟩
      rw [ref19_part_M_succ]
      unfold ref19_part_R
      obtain ⟨i, rfl⟩ : ∃ i : Nat, j = i := ⟨j.toNat, by omega⟩
      rw [decide_eq_false hj, cond_false, decide_eq_false (by omega), cond_false, ref19_part_J1_eq, inB_true (by omega), cond_true, Int.toNat_natCast]
      dsimp only
      generalize hv : l.getD i D_RuleNode = v
      obtain ⟨kd, k, lf, rg⟩ := v
      dsimp only
      rw [W_eq (n := (i : Int) - 1) (by omega) (by omega)]
      obtain ⟨f, d, e, hb, hs⟩ := ih ((i : Int) - 1) (by omega) (by omega) (by omega) (by omega)
      rw [e]
      simp only [Option.bind_some]
      rw [W_eq (n := d + 1) (by omega) (by omega)]
      by_cases k1 : kd = 1
      · subst k1
        rw [show ((1 : Int) == 1) = true from rfl, cond_true]
        by_cases q1 : k < 0
        · rw [decide_eq_true q1, cond_true]; exact bad _ rfl
        · rw [decide_eq_false q1, cond_false]
          by_cases q2 : k ≥ 64
          · rw [decide_eq_true q2, cond_true]; exact bad _ rfl
          · rw [decide_eq_false q2, cond_false]
            by_cases q3 : lf = 0
            · by_cases q4 : rg = 0
              · subst q3; subst q4
                rw [show ((0 : Int) != 0) = false from rfl, cond_false, cond_false]
                exact ⟨i, 1, rfl, by omega, fun _ => PS.cI (by omega) (by omega) (by omega) hv⟩
              · subst q3
                rw [show ((0 : Int) != 0) = false from rfl, cond_false, bne_iff_ne.2 q4, cond_true]; exact bad _ rfl
            · rw [bne_iff_ne.2 q3, cond_true]; exact bad _ rfl
      · rw [beq_false_of_ne k1, cond_false]
        by_cases k2 : kd = 2
        · subst k2
          rw [show ((2 : Int) == 2) = true from rfl, cond_true]
          by_cases q1 : k = 0
          · by_cases q2 : rg = 0
            · by_cases q3 : lf = (i : Int) - 1
              · subst q1; subst q2; subst q3
                rw [show ((0 : Int) != 0) = false from rfl, cond_false, cond_false, bne_self_eq_false, cond_false]
                exact ⟨f, d + 1, rfl, by omega, fun h => (hs h).nI (by omega) hv⟩
              · subst q1; subst q2
                rw [show ((0 : Int) != 0) = false from rfl, cond_false, cond_false, bne_iff_ne.2 q3, cond_true]; exact bad _ rfl
            · subst q1
              rw [show ((0 : Int) != 0) = false from rfl, cond_false, bne_iff_ne.2 q2, cond_true]; exact bad _ rfl
          · rw [bne_iff_ne.2 q1, cond_true]; exact bad _ rfl
        · rw [beq_false_of_ne k2, cond_false]
          have two : ∀ (o : Bool), kd = Tr.kd o → ∃ f' d', (bif (k != 0) then some ((-1 : Int), (0 : Int)) else bif (rg != (i : Int) - 1) then some (-1, 0) else bif (decide (f < 1)) then some (-1, 0) else bif (lf != (W (f - 1))) then some (-1, 0) else
              Option.bind (ref19_part_M (M' + 1) n l (W (f - 1))) fun r4 => some (r4.1, (W ((max r4.2 d) + 1)))) = some (f', d') ∧ (-1 ≤ f' ∧ f' ≤ 64 ∧ 0 ≤ d' ∧ d' ≤ (n + 1 : Nat)) ∧ (0 ≤ f' → PS l i f' d') := by
            intro o ho
            by_cases q1 : k = 0
            · by_cases q2 : rg = (i : Int) - 1
              · by_cases q4 : f < 1
                · subst q1; subst q2
                  rw [show ((0 : Int) != 0) = false from rfl, cond_false, bne_self_eq_false, cond_false, decide_eq_true q4, cond_true]; exact bad _ rfl
                · have hps := hs (by omega)
                  have hbd := hps.bd hl
                  rw [W_eq (n := f - 1) (by omega) (by omega)]
                  by_cases q3 : lf = f - 1
                  · subst q1; subst q2; subst q3
                    obtain ⟨f2, d2, e2, hb2, hs2⟩ := ih (f - 1) (by omega) (by omega) (by omega) (by omega)
                    rw [show ((0 : Int) != 0) = false from rfl, cond_false, bne_self_eq_false, cond_false, decide_eq_false q4, cond_false, bne_self_eq_false, cond_false, e2]
                    simp only [Option.bind_some]
                    rw [W_eq (n := max d2 d + 1) (by omega) (by omega)]
                    exact ⟨f2, max d2 d + 1, rfl, by omega, fun h => hps.bI o (hs2 h) (by omega) (by rw [hv, ho])⟩
                  · subst q1; subst q2
                    rw [show ((0 : Int) != 0) = false from rfl, cond_false, bne_self_eq_false, cond_false, decide_eq_false q4, cond_false, bne_iff_ne.2 q3, cond_true]; exact bad _ rfl
              · subst q1
                rw [show ((0 : Int) != 0) = false from rfl, cond_false, bne_iff_ne.2 q2, cond_true]; exact bad _ rfl
            · rw [bne_iff_ne.2 q1, cond_true]; exact bad _ rfl
          by_cases k3 : kd = 3
          · subst k3
            rw [show ((3 : Int) == 3) = true from rfl, cond_true]
            exact two false rfl
          · rw [beq_false_of_ne k3, cond_false]
            by_cases k4 : kd = 4
            · subst k4
              rw [show ((4 : Int) == 4) = true from rfl, cond_true]
              exact two true rfl
            · rw [beq_false_of_ne k4, cond_false]
              exact bad _ rfl
theorem rright_iff {N : Nat} (hN : 66 ≤ N) (hN2 : N ≤ 1000000000000000) (l : List T_RuleNode) : ∃ r, ref19_Right N l = some r ∧ (r = true ↔ Rt l) := by
  unfold ref19_Right
  by_cases h1 : (l.length : Int) < 1
  · rw [decide_eq_true h1, cond_true]
    refine ⟨false, rfl, (fun h => by cases h), ?_⟩
    rintro ⟨t, _, rfl⟩
    have := t.sz_pos
    rw [Tr.fl_len] at h1; omega
  · rw [decide_eq_false h1, cond_false]
    by_cases h2 : (l.length : Int) > 64
    · rw [decide_eq_true h2, cond_true]
      refine ⟨false, rfl, (fun h => by cases h), ?_⟩
      rintro ⟨t, ⟨_, _, h⟩, rfl⟩
      rw [Tr.fl_len] at h2; omega
    · rw [decide_eq_false h2, cond_false, W_eq (by omega) (by omega)]
      unfold ref19_part
      obtain ⟨f, d, e, hb, hs⟩ := rpart_sound (N := N) (by omega) (l := l) (by omega) N ((l.length : Int) - 1) (by omega) (by omega) (by omega) (by omega)
      rw [e]
      simp only [Option.bind_some]
      have back : Rt l → f = 0 ∧ d ≤ 16 := by
        rintro ⟨t, ⟨g1, g2, g3⟩, hl⟩
        have hA : At l t 0 := by rw [hl]; exact at_fl t
        have hsz : l.length = t.sz := by rw [hl, Tr.fl_len]
        have := rpart_fl (N := N) (by omega) (l := l) (by omega) t 0 N hA g1 (by omega)
        rw [show (((0 + t.sz : Nat) : Int) - 1) = (l.length : Int) - 1 by omega, e] at this
        simp only [Option.some.injEq, Prod.mk.injEq] at this
        exact ⟨by omega, by omega⟩
      by_cases q : f = 0
      · subst q
        rw [show ((0 : Int) == 0) = true from rfl, cond_true]
        refine ⟨_, rfl, fun h => ?_, fun h => decide_eq_true (back h).2⟩
        have h := of_decide_eq_true h
        obtain ⟨t, p, w1, w2, w3, w4, w5⟩ := hs (by omega)
        obtain rfl : p = 0 := by omega
        exact ⟨t, ⟨w1, by omega, by omega⟩, at_end w4 (by omega)⟩
      · rw [beq_false_of_ne q, cond_false]
        exact ⟨false, rfl, (fun h => by cases h), fun h => absurd (back h).1 q⟩
theorem rright_good {N : Nat} (hN : 66 ≤ N) (hN2 : N ≤ 1000000000000000) {t : Tr} (h : Good t) : ref19_Right N (t.fl 0) = some true := by
  obtain ⟨r, e, h2⟩ := rright_iff hN hN2 (t.fl 0)
  rw [e, h2.2 ⟨t, h, rfl⟩]
theorem rright_bad {N : Nat} (hN : 66 ≤ N) (hN2 : N ≤ 1000000000000000) {l : List T_RuleNode} (h : ¬ Rt l) : ref19_Right N l = some false := by
  obtain ⟨r, e, h2⟩ := rright_iff hN hN2 l
  cases r with
  | false => exact e
  | true => exact absurd (h2.1 rfl) h

/-! ### Check -/
/-! ### Eval -/
/-! ### Uses -/
/-! ### The law -/
theorem modS_in (n : Int) {m : Int} (h : 1 ≤ m) : 0 ≤ modS n m ∧ modS n m < m := modS_range h
theorem made_spec {N : Nat} (hN : 66 ≤ N) {a : List Int} (ha : ∀ x, x ∈ a → (Lit.int .u8 x).wf = true) (hla : a.length ≤ maxLen) (i by' : Int) : ∃ l, law19_made N a i by' = some l := by
  unfold law19_made
  obtain ⟨d, e, hd⟩ := new_spec N ha hla
  rw [e, bind_some']
  obtain ⟨x, d1, e1, _, hx, x1, x2, hd1⟩ := drawn (N := N) hN (c := 6) (by omega) (by omega) 4 (by omega) hd
  rw [show ((4 : Nat) : Int) = 4 from rfl] at e1
  dsimp only
  rw [e1, bind_some']
  have hlen := x.fl_len 0
  have hp := x.sz_pos
  have h3 := hx.2.2
  dsimp only
  rw [mod_eq _ _ _ (by omega), bind_some']
  have hm := modS_in i (m := ((x.fl 0).length : Int)) (by omega)
  rw [inB_true (by omega), cond_true]
  obtain ⟨v, d2, e2, _, _, _⟩ := next_spec (N := N) (by omega) hd1 (n := 9) (by omega)
  rw [e2, bind_some']
  dsimp only
  cases (v == 1) with
  | true => exact ⟨_, rfl⟩
  | false =>
    rw [cond_false]
    cases (v == 2) with
    | true => exact ⟨_, rfl⟩
    | false =>
      rw [cond_false]
      cases (v == 3) with
      | true => exact ⟨_, rfl⟩
      | false =>
        rw [cond_false]
        cases (v == 4) with
        | true => exact ⟨_, rfl⟩
        | false =>
          rw [cond_false]
          cases (v == 5) with
          | true => rw [cond_true, W_eq (by omega) (by omega), slB_true (by omega), cond_true]; exact ⟨_, rfl⟩
          | false => exact ⟨_, rfl⟩
end Go.Proofs.YthfejkflhpifnaaDoor
set_option linter.all false
namespace Go.Proofs.YthfejkflhpifnaaDoor
open Go.Pv M
theorem awakeM (k : Nat) : law19_awake (k + 70) = some true := by kernel_rfl
theorem awake_all {N : Nat} (hN : 70 ≤ N) : law19_awake N = some true := by
  obtain ⟨k, rfl⟩ : ∃ k, N = k + 70 := ⟨N - 70, by omega⟩
  exact awakeM k
theorem same_loops (N : Nat) (l : List T_RuleNode) (hl : l.length ≤ 1000000) : ∀ (m n i : Nat), i + m = l.length → m < n → ref19_Same_L1 N n l l (i : Int) = some true
  | 0, n, i, hm, hn => by
    obtain ⟨n', rfl⟩ : ∃ n', n = n' + 1 := ⟨n - 1, by omega⟩
    rw [ref19_Same_L1_succ, decide_eq_false (by omega), cond_false]
  | m + 1, n, i, hm, hn => by
    obtain ⟨n', rfl⟩ : ∃ n', n = n' + 1 := ⟨n - 1, by omega⟩
    rw [ref19_Same_L1_succ, decide_eq_true (by omega), cond_true, inB_true (by omega), cond_true]
    dsimp only
    rw [cond_true]
    simp only [beq_self_eq_true, Bool.and_self, Bool.not_true, cond_false]
    rw [show W ((i : Int) + 1) = ((i + 1 : Nat) : Int) by rw [W_eq (by omega) (by omega)]; omega]
    exact same_loops N l hl m n' (i + 1) (by omega) (by omega)
theorem same_all {N : Nat} {l : List T_RuleNode} (hl : l.length ≤ 1000000) (hN : l.length < N) : ref19_Same N l l = some true := by
  unfold ref19_Same
  rw [bne_self_eq_false, cond_false]
  exact same_loops N l hl l.length N 0 (by omega) hN
theorem rtext (N : Nat) {l : List T_RuleNode} (hl : l.length ≤ 64) : ∀ (t : Tr) (b n : Nat), At l t b → t.wf → t.dp ≤ n → ref19_text_M N n l (((b + t.sz : Nat) : Int) - 1) = some (tx t)
  | .c k, b, 0, _, _, h => absurd h (by simp [Tr.dp])
  | .n a, b, 0, _, _, h => absurd h (by simp [Tr.dp])
  | .b o x y, b, 0, _, _, h => absurd h (by simp [Tr.dp])
  | .c k, b, n + 1, hA, hw, _ => by
    obtain ⟨h1, h2⟩ := at_c.1 hA
    obtain ⟨w1, w2⟩ : 0 ≤ k ∧ k < 64 := hw
    have e : ((b + (Tr.c k).sz : Nat) : Int) - 1 = (b : Int) := by simp [Tr.sz]
    have hk := itoa_len k
    rw [e, ref19_text_M_succ]
    unfold ref19_text_R
    rw [inB_true (by omega), cond_true, Int.toNat_natCast]
    dsimp only
    rw [h2]
    dsimp only
    rw [show ((1 : Int) == 1) = true from rfl, cond_true, itoa_some N w1 w2, bind_some', decide_eq_true (by simp; omega), cond_true]
    rfl
  | .n a, b, n + 1, hA, hw, hn => by
    obtain ⟨h0, h1, h2⟩ := at_n.1 hA
    have e : ((b + (Tr.n a).sz : Nat) : Int) - 1 = ((b + a.sz : Nat) : Int) := by simp [Tr.sz]; omega
    have ih := rtext N hl a b n h0 hw (by simpa [Tr.dp] using hn)
    have hk := tx_len a
    rw [e, ref19_text_M_succ]
    unfold ref19_text_R
    rw [inB_true (by omega), cond_true, Int.toNat_natCast]
    dsimp only
    rw [h2]
    dsimp only
    rw [show ((2 : Int) == 1) = false from rfl, cond_false, show ((2 : Int) == 2) = true from rfl, cond_true, ih, bind_some', decide_eq_true (by simp; omega), cond_true]
    rfl
  | .b o x y, b, n + 1, hA, hw, hn => by
    obtain ⟨h0, h0', h1, h2⟩ := at_b.1 hA
    have e : ((b + (Tr.b o x y).sz : Nat) : Int) - 1 = ((b + x.sz + y.sz : Nat) : Int) := by simp [Tr.sz]; omega
    have hn' : max x.dp y.dp ≤ n := by simpa [Tr.dp] using hn
    have ih := rtext N hl y (b + x.sz) n h0' hw.2 (by omega)
    have ih2 := rtext N hl x b n h0 hw.1 (by omega)
    have hk := tx_len x
    have hk2 := tx_len y
    rw [e, ref19_text_M_succ]
    unfold ref19_text_R
    rw [inB_true (by omega), cond_true, Int.toNat_natCast]
    dsimp only
    rw [h2]
    dsimp only
    cases o with
    | false =>
      rw [show (Tr.kd false == 1) = false from rfl, cond_false, show (Tr.kd false == 2) = false from rfl, cond_false, show (Tr.kd false == 3) = true from rfl, cond_true, ih2, bind_some', decide_eq_true (by simp; omega), cond_true, decide_eq_true (by simp; omega), cond_true, ih, bind_some', decide_eq_true (by simp; omega), cond_true, decide_eq_true (by simp; omega), cond_true]
      rfl
    | true =>
      rw [show (Tr.kd true == 1) = false from rfl, cond_false, show (Tr.kd true == 2) = false from rfl, cond_false, show (Tr.kd true == 3) = false from rfl, cond_false, ih2, bind_some', decide_eq_true (by simp; omega), cond_true, decide_eq_true (by simp; omega), cond_true, ih, bind_some', decide_eq_true (by simp; omega), cond_true, decide_eq_true (by simp; omega), cond_true]
      rfl
theorem rprint_good {N : Nat} (hN : 66 ≤ N) (hN2 : N ≤ 1000000000000000) {t : Tr} (h : Good t) : ref19_Print N (t.fl 0) = some (tx t, 0) := by
  unfold ref19_Print
  rw [rright_good hN hN2 h, bind_some', Bool.not_true, cond_false]
  obtain ⟨h1, h2, h3⟩ := h
  have hlen := t.fl_len 0
  have hs := t.sz_pos
  have := rtext N (l := t.fl 0) (by omega) t 0 N (at_fl t) h1 (by omega)
  rw [W_eq (by omega) (by omega)]
  unfold ref19_text
  rw [show ((t.fl 0).length : Int) - 1 = ((0 + t.sz : Nat) : Int) - 1 by omega, this]
  rfl
theorem rprint_bad {N : Nat} (hN : 66 ≤ N) (hN2 : N ≤ 1000000000000000) {l : List T_RuleNode} (h : ¬ Rt l) : ref19_Print N l = some ([], 18) := by
  unfold ref19_Print
  rw [rright_bad hN hN2 h]
  rfl
/-! ### Reading -/
theorem drop_get {s : List UInt8} {p : Nat} (h : p < s.length) : s.drop p = s.getD p 0 :: s.drop (p + 1) := by
  rw [List.drop_eq_getElem_cons h]
  simp [List.getD_eq_getElem?_getD, h]
theorem get_of {s r : List UInt8} {p : Nat} {c : UInt8} (h : s.drop p = c :: r) : p < s.length ∧ s.getD p 0 = c ∧ s.drop (p + 1) = r := by
  have hp : p < s.length := by
    by_cases q : p < s.length
    · exact q
    · rw [List.drop_eq_nil_of_le (by omega)] at h; cases h
  rw [drop_get hp] at h
  injection h with h1 h2
  exact ⟨hp, h1, h2⟩
theorem u8_ofInt {c d : UInt8} (h : ((c.toNat : Int) == (d.toNat : Int)) = true) : c = d := by
  have : (c.toNat : Int) = d.toNat := by simpa using h
  exact UInt8.toNat_inj.mp (by omega)
def RpS (s : List UInt8) (l : List T_RuleNode) (p : Nat) (r : List T_RuleNode × Int) : Prop :=
  r.2 = -1 ∨ ∃ (e : Nat) (t : Tr), r.2 = (e : Int) ∧ p ≤ e ∧ e ≤ s.length ∧ t.wf ∧ s.drop p = tx t ++ s.drop e ∧ r.1 = l ++ t.fl l.length
theorem itoa_any (N : Nat) {k : Int} (h0 : 0 ≤ k) (h1 : k ≤ 1000) : strconv_Itoa N k = some (itoaM k) := by
  unfold strconv_Itoa
  rw [decide_eq_true ⟨by omega, by omega⟩, cond_true]
abbrev SF := (List UInt8) → Int → (List T_RuleNode) → Int → Option ((List T_RuleNode) × Int)
theorem j2_sound {N : Nat} (self : SF) {s : List UInt8} {l : List T_RuleNode} (hs : s.length ≤ 281474976710656) (hl : l.length ≤ 64) {p q : Nat} {x : Int} (h0 : 0 ≤ x) (h1 : x ≤ 999) (hp : p + 1 ≤ q) (hq : q ≤ s.length) (hc : s.getD p 0 = 99) :
    ∃ r, ref19_read_J2 (N + 1) self s (p : Int) (q : Int) x l = some r ∧ RpS s l p r ∧ r.1.length ≤ 65 := by
  rw [ref19_read_J2_eq, itoa_any _ h0 (by omega), bind_some', W_eq (by omega) (by omega), slB_true (by omega), cond_true]
  rw [show ((p : Int) + 1).toNat = p + 1 by omega, Int.toNat_natCast]
  cases he : itoaM x == (s.drop (p + 1)).take (q - (p + 1)) with
  | false => exact ⟨_, rfl, .inl rfl, by simp⟩
  | true =>
    rw [Bool.not_true, cond_false]
    by_cases hx : x ≥ 64
    · rw [decide_eq_true hx, cond_true]; exact ⟨_, rfl, .inl rfl, by simp⟩
    · rw [decide_eq_false hx, cond_false, fitsB_true (by omega), cond_true]
      refine ⟨_, rfl, .inr ⟨q, .c x, rfl, by omega, hq, ⟨h0, by omega⟩, ?_, rfl⟩, by simp; omega⟩
      have := eq_of_beq he
      rw [drop_get (by omega), hc, tx, this, show s.drop q = (s.drop (p + 1)).drop (q - (p + 1)) by rw [List.drop_drop]; congr 1; omega, List.append_assoc, List.take_append_drop]
      rfl
def bd (m : Nat) : Int := if 3 ≤ m then 0 else if m = 2 then 9 else if m = 1 then 99 else 999
theorem bd_step {m : Nat} (h : m ≤ 2) : 10 * bd (m + 1) + 9 ≤ bd m := by
  unfold bd
  rcases (by omega : m = 0 ∨ m = 1 ∨ m = 2) with rfl | rfl | rfl <;> decide
theorem bd_le (m : Nat) : bd m ≤ 999 := by
  unfold bd
  repeat' split
  all_goals decide
theorem wrap_dig {c : UInt8} (h1 : 48 ≤ c.toNat) (h2 : c.toNat ≤ 57) : IntKind.u8.wrap ((c.toNat : Int) - 48) = (c.toNat : Int) - 48 := by
  have tab : ((List.range 10).all fun k => IntKind.u8.wrap (k : Int) == (k : Int)) = true := by kernel_rfl
  have := List.all_eq_true.mp tab (c.toNat - 48) (List.mem_range.mpr (by omega))
  have := eq_of_beq this
  rw [show (c.toNat : Int) - 48 = ((c.toNat - 48 : Nat) : Int) by omega]
  exact this
theorem rdig {N : Nat} (self : SF) {s : List UInt8} {l : List T_RuleNode} (hs : s.length ≤ 281474976710656) (hl : l.length ≤ 64) {p : Nat} (hc : s.getD p 0 = 99) : ∀ (m n q : Nat) (x : Int), m ≤ 3 → p + 4 = q + m → m < n → q ≤ s.length → 0 ≤ x → x ≤ bd m →
    ∃ r, ref19_read_L1 (N + 1) self n s (p : Int) (q : Int) x l = some r ∧ RpS s l p r ∧ r.1.length ≤ 65
  | m, 0, _, _, _, _, h, _, _, _ => absurd h (Nat.not_lt_zero _)
  | m, n + 1, q, x, h1, h2, h3, h4, h5, h6 => by
    have hb := bd_le m
    have J := j2_sound (N := N) self (x := x) (q := q) hs hl h5 (by omega) (by omega) h4 hc
    rw [ref19_read_L1_succ]
    by_cases a : q < s.length
    · rw [decide_eq_true (by omega), cond_true, W_eq (n := (p : Int) + 4) (by omega) (by omega)]
      cases m with
      | zero => rw [decide_eq_false (by omega), cond_false]; exact J
      | succ m =>
        rw [decide_eq_true (by omega), cond_true, inB_true (by omega), cond_true, Int.toNat_natCast]
        by_cases g : 48 ≤ (s.getD q 0).toNat
        · rw [decide_eq_true (by omega), cond_true, cond_true]
          by_cases g2 : (s.getD q 0).toNat ≤ 57
          · rw [decide_eq_true (by omega), cond_true, cond_true, wrap_dig g g2]
            have hb2 := bd_step (m := m) (by omega)
            rw [W_eq (n := 10 * x) (by omega) (by omega), W_eq (n := ((s.getD q 0).toNat : Int) - 48) (by omega) (by omega), W_eq (n := 10 * x + (((s.getD q 0).toNat : Int) - 48)) (by omega) (by omega), show W ((q : Int) + 1) = ((q + 1 : Nat) : Int) by rw [W_eq (by omega) (by omega)]; omega]
            exact rdig self hs hl hc m n (q + 1) _ (by omega) (by omega) (by omega) (by omega) (by omega) (by omega)
          · rw [decide_eq_false (by omega), cond_false]; exact J
        · rw [decide_eq_false (by omega), cond_false]; exact J
    · rw [decide_eq_false (by omega), cond_false]; exact J

theorem read_sound' {N : Nat} (hN : 5 ≤ N) {s : List UInt8} (hs : s.length ≤ 281474976710656) : ∀ (n deep p : Nat) (l : List T_RuleNode), 18 ≤ deep + n → deep ≤ 17 → p ≤ 281474976710666 →
    ∃ r, ref19_read_M N n s (p : Int) l (deep : Int) = some r ∧ RpS s l p r ∧ r.1.length + deep ≤ 82
  | 0, deep, p, l, h, h', _ => absurd h (by omega)
  | n + 1, deep, p, l, h1, h2, h3 => by
    rw [ref19_read_M_succ]
    unfold ref19_read_R
    by_cases a : s.length ≤ p
    · rw [decide_eq_true (by omega), cond_true]; exact ⟨_, rfl, .inl rfl, by simp; omega⟩
    rw [decide_eq_false (by omega), cond_false]
    by_cases a2 : 16 < deep
    · rw [decide_eq_true (by omega), cond_true]; exact ⟨_, rfl, .inl rfl, by simp; omega⟩
    rw [decide_eq_false (by omega), cond_false]
    by_cases a3 : 64 < l.length
    · rw [decide_eq_true (by omega), cond_true]; exact ⟨_, rfl, .inl rfl, by simp; omega⟩
    rw [decide_eq_false (by omega), cond_false]
    obtain ⟨M', rfl⟩ : ∃ M', N = M' + 1 := ⟨N - 1, by omega⟩
    rw [ref19_read_J1_eq, inB_true (by omega), cond_true, Int.toNat_natCast]
    dsimp only
    have eP : W ((p : Int) + 1) = ((p + 1 : Nat) : Int) := by rw [W_eq (by omega) (by omega)]; omega
    have eD : W ((deep : Int) + 1) = ((deep + 1 : Nat) : Int) := by rw [W_eq (by omega) (by omega)]; omega
    rw [eP, eD]
    have nil : ∃ r : List T_RuleNode × Int, (some ([], -1) : Option (List T_RuleNode × Int)) = some r ∧ RpS s l p r ∧ r.1.length + deep ≤ 82 := ⟨_, rfl, .inl rfl, by simp; omega⟩
    cases c1 : (((s.getD p 0).toNat : Int) == 99) with
    | true =>
      rw [cond_true]
      obtain ⟨r, e, e1, e2⟩ := rdig (N := M') (ref19_read_M (M' + 1) n) hs (l := l) (by omega) (p := p) (u8_ofInt (d := 99) c1) 3 (M' + 1) (p + 1) 0 (by omega) (by omega) (by omega) (by omega) (by omega) (by decide)
      exact ⟨r, e, e1, by omega⟩
    | false =>
      rw [cond_false]
      cases c2 : (((s.getD p 0).toNat : Int) == 33) with
      | true =>
        rw [cond_true]
        have hc := u8_ofInt (d := 33) c2
        obtain ⟨r, e, e1, e2⟩ := read_sound' hN hs n (deep + 1) (p + 1) l (by omega) (by omega) (by omega)
        rw [e, bind_some']
        rcases e1 with e1 | ⟨q, t, f1, f2, f3, f4, f5, f6⟩
        · rw [e1, decide_eq_true (by omega), cond_true]; exact nil
        · rw [f1, decide_eq_false (by omega), cond_false, fitsB_true (by omega), cond_true]
          refine ⟨_, rfl, .inr ⟨q, .n t, rfl, by omega, f3, f4, ?_, ?_⟩, by simp; omega⟩
          · rw [drop_get (by omega), hc, f5]; rfl
          · have hl := congrArg List.length f6
            rw [List.length_append, Tr.fl_len] at hl
            show r.1 ++ _ = l ++ (t.fl l.length ++ _)
            rw [W_eq (by omega) (by omega), hl, f6, List.append_assoc]
      | false =>
        rw [cond_false]
        cases c3 : (((s.getD p 0).toNat : Int) == 40) with
        | false => exact nil
        | true =>
          rw [cond_true]
          have hc := u8_ofInt (d := 40) c3
          obtain ⟨r, e, e1, e2⟩ := read_sound' hN hs n (deep + 1) (p + 1) l (by omega) (by omega) (by omega)
          rw [e, bind_some']
          rcases e1 with e1 | ⟨q, x, f1, f2, f3, f4, f5, f6⟩
          · rw [e1, decide_eq_true (by omega), cond_true]; exact nil
          rw [f1, decide_eq_false (by omega), cond_false, W_eq (n := (q : Int) + 3) (by omega) (by omega)]
          by_cases b1 : s.length < q + 3
          · rw [decide_eq_true (by omega), cond_true]; exact nil
          rw [decide_eq_false (by omega), cond_false, slB_true (by omega), cond_true, cond_true, show ((q : Int) + 3).toNat - (q : Int).toNat = 3 by omega, Int.toNat_natCast]
          have key : ∀ o : Bool, (s.drop q).take 3 = [32, opc o, 32] → ∃ r', ref19_read_J3 (M' + 1) (ref19_read_M (M' + 1) n) s (deep : Int) (q : Int) r.1 = some r' ∧ RpS s l p r' ∧ r'.1.length + deep ≤ 82 := by
            intro o ho
            have hd : s.drop q = [32, opc o, 32] ++ s.drop (q + 3) := by
              rw [← ho, ← List.drop_drop, List.take_append_drop]
            obtain ⟨_, _, hd1⟩ := get_of (r := opc o :: 32 :: s.drop (q + 3)) hd
            obtain ⟨_, hd2, _⟩ := get_of hd1
            obtain ⟨r2, g, g1, g2⟩ := read_sound' hN hs n (deep + 1) (q + 3) r.1 (by omega) (by omega) (by omega)
            rw [ref19_read_J3_eq, eD, show W ((q : Int) + 3) = ((q + 3 : Nat) : Int) by rw [W_eq (by omega) (by omega)]; omega]
            dsimp only
            rw [g, bind_some']
            rcases g1 with g1 | ⟨q2, y, k1, k2, k3, k4, k5, k6⟩
            · rw [g1, decide_eq_true (by omega), cond_true]; exact nil
            rw [k1, decide_eq_false (by omega), cond_false]
            by_cases b2 : s.length ≤ q2
            · rw [decide_eq_true (by omega), cond_true]; exact nil
            rw [decide_eq_false (by omega), cond_false, inB_true (by omega), cond_true, Int.toNat_natCast]
            cases c4 : (((s.getD q2 0).toNat : Int) == 41) with
            | false =>
              rw [show (((s.getD q2 0).toNat : Int) != 41) = true by rw [bne, c4]; rfl, cond_true]; exact nil
            | true =>
              have hc4 := u8_ofInt (d := 41) c4
              rw [show (((s.getD q2 0).toNat : Int) != 41) = false by rw [bne, c4]; rfl, cond_false, show W ((q : Int) + 1) = ((q + 1 : Nat) : Int) by rw [W_eq (by omega) (by omega)]; omega, inB_true (by omega), cond_true, Int.toNat_natCast, hd2]
              have hl := congrArg List.length f6
              have hl2 := congrArg List.length k6
              rw [List.length_append, Tr.fl_len] at hl hl2
              have fin : RpS s l p (r2.1 ++ [(Tr.kd o, (0, (W ((r.1.length : Int) - 1), W ((r2.1.length : Int) - 1))))], W ((q2 : Int) + 1)) := by
                refine .inr ⟨q2 + 1, .b o x y, by show W ((q2 : Int) + 1) = _; rw [W_eq (by omega) (by omega)]; omega, by omega, by omega, ⟨f4, k4⟩, ?_, ?_⟩
                · rw [drop_get (p := p) (by omega), hc, f5, hd, k5, drop_get (p := q2) (by omega), hc4]
                  simp [tx]
                · show r2.1 ++ _ = l ++ (x.fl l.length ++ (y.fl (l.length + x.sz) ++ _))
                  rw [W_eq (by omega) (by omega), W_eq (by omega) (by omega), hl2, hl, k6, hl, f6]
                  simp [Tr.kd]
              rw [fitsB_true (by omega)]
              cases o with
              | false => exact ⟨_, rfl, fin, by simp; omega⟩
              | true => exact ⟨_, rfl, fin, by simp; omega⟩
          cases c5 : ((s.drop q).take 3 == [32, 38, 32]) with
          | true => rw [Bool.not_true, cond_false]; exact key false (eq_of_beq c5)
          | false =>
            rw [Bool.not_false, cond_true]
            cases c6 : ((s.drop q).take 3 == [32, 124, 32]) with
            | true => rw [Bool.not_true, cond_false]; exact key true (eq_of_beq c6)
            | false => exact nil

theorem drop_add {s a b : List UInt8} {p : Nat} (h : s.drop p = a ++ b) : s.drop (p + a.length) = b := by
  rw [← List.drop_drop, h, List.drop_left]
theorem spd_zero {s : List UInt8} (h : spd s = 0) (h2 : 0 < s.length) : dg (s.getD 0 0) = false := by
  have := spd_end s (by omega)
  rwa [h] at this
theorem getD_drop {s : List UInt8} {p : Nat} (i : Nat) : (s.drop p).getD i 0 = s.getD (p + i) 0 := by
  simp [List.getD_eq_getElem?_getD, List.getElem?_drop]
theorem dig_stop {N : Nat} (self : SF) {s : List UInt8} {l : List T_RuleNode} {p : Nat} (q : Nat) (x : Int) (n : Nat) (hq : q ≤ s.length) (hp : p ≤ s.length) (hs : s.length ≤ 281474976710656) (hz : spd (s.drop q) = 0) : ref19_read_L1 N self (n + 1) s (p : Int) (q : Int) x l = ref19_read_J2 N self s (p : Int) (q : Int) x l := by
  rw [ref19_read_L1_succ, W_eq (n := (p : Int) + 4) (by omega) (by omega)]
  by_cases a : q < s.length
  · have hd := spd_zero hz (by simp; omega)
    rw [getD_drop, Nat.add_zero] at hd
    rw [decide_eq_true (by omega), cond_true]
    by_cases b : q < p + 4
    · rw [decide_eq_true (by omega), cond_true, inB_true (by omega), cond_true, Int.toNat_natCast]
      by_cases g : 48 ≤ (s.getD q 0).toNat
      · by_cases g2 : (s.getD q 0).toNat ≤ 57
        · rw [dg_iff.mpr ⟨g, g2⟩] at hd; cases hd
        · rw [decide_eq_true (by omega), cond_true, cond_true, decide_eq_false (by omega), cond_false]
      · rw [decide_eq_false (by omega), cond_false]
    · rw [decide_eq_false (by omega), cond_false]
  · rw [decide_eq_false (by omega), cond_false]
theorem dig_one {N : Nat} (self : SF) {s : List UInt8} {l : List T_RuleNode} {p : Nat} (q : Nat) (x : Int) (n : Nat) (hq : q < s.length) (hp : p ≤ s.length) (hs : s.length ≤ 281474976710656) (hx : 0 ≤ x ∧ x ≤ 1000) (h : q < p + 4) (hd : dg (s.getD q 0) = true) :
    ref19_read_L1 N self (n + 1) s (p : Int) (q : Int) x l = ref19_read_L1 N self n s (p : Int) ((q + 1 : Nat) : Int) (10 * x + (((s.getD q 0).toNat : Int) - 48)) l := by
  obtain ⟨g, g2⟩ := dg_iff.mp hd
  rw [ref19_read_L1_succ, W_eq (n := (p : Int) + 4) (by omega) (by omega), decide_eq_true (by omega), cond_true, decide_eq_true (by omega), cond_true, inB_true (by omega), cond_true, Int.toNat_natCast, decide_eq_true (by omega), cond_true, cond_true, decide_eq_true (by omega), cond_true, cond_true, wrap_dig g g2]
  rw [W_eq (n := 10 * x) (by omega) (by omega), W_eq (n := ((s.getD q 0).toNat : Int) - 48) (by omega) (by omega), W_eq (n := 10 * x + (((s.getD q 0).toNat : Int) - 48)) (by omega) (by omega), show W ((q : Int) + 1) = ((q + 1 : Nat) : Int) by rw [W_eq (by omega) (by omega)]; omega]
theorem val_tab : ((List.range 64).all fun k => ((itoaM (k : Int)).foldl (fun (x : Int) (c : UInt8) => 10 * x + ((c.toNat : Int) - 48)) 0 == (k : Int))) = true := by kernel_rfl
theorem dig_num {N : Nat} (self : SF) {s : List UInt8} {l : List T_RuleNode} {p : Nat} {k : Int} (h0 : 0 ≤ k) (h1 : k < 64) (hs : s.length ≤ 281474976710656) {post : List UInt8} (hd : s.drop p = 99 :: (itoaM k ++ post)) (hz : spd post = 0) (n : Nat) :
    ref19_read_L1 N self (n + 3) s (p : Int) ((p + 1 : Nat) : Int) 0 l = ref19_read_J2 N self s (p : Int) ((p + 1 + (itoaM k).length : Nat) : Int) k l := by
  obtain ⟨_, _, f3, f4⟩ := num_fact h0 h1
  obtain ⟨g1, g2, g3⟩ := get_of hd
  have hv : (itoaM k).foldl (fun (x : Int) (c : UInt8) => 10 * x + ((c.toNat : Int) - 48)) 0 = k := by
    have := List.all_eq_true.mp val_tab k.toNat (List.mem_range.mpr (by omega))
    have := eq_of_beq this
    rwa [show ((k.toNat : Nat) : Int) = k by omega] at this
  generalize itoaM k = ds at *
  have hz2 : spd (s.drop (p + 1 + ds.length)) = 0 := by rw [drop_add g3]; exact hz
  have hle : p + 1 + ds.length ≤ s.length := by
    have := congrArg List.length g3
    simp at this
    omega
  match ds, f4 with
  | [a], _ =>
    obtain ⟨a1, a2, a3⟩ := get_of g3
    simp only [List.all_cons, List.all_nil, Bool.and_true] at f3
    rw [dig_one self (p + 1) 0 (n + 2) (by omega) (by omega) hs (by omega) (by omega) (by rw [a2]; exact f3), a2]
    rw [dig_stop self (p + 1 + 1) _ (n + 1) (by simpa using hle) (by omega) hs hz2]
    rw [show 10 * (0 : Int) + ((a.toNat : Int) - 48) = k from hv]
    rfl
  | [a, b], _ =>
    obtain ⟨a1, a2, a3⟩ := get_of g3
    obtain ⟨b1, b2, b3⟩ := get_of a3
    simp only [List.all_cons, List.all_nil, Bool.and_true, Bool.and_eq_true] at f3
    obtain ⟨q1, q2⟩ := dg_iff.mp f3.1
    rw [dig_one self (p + 1) 0 (n + 2) (by omega) (by omega) hs (by omega) (by omega) (by rw [a2]; exact f3.1), a2]
    rw [dig_one self (p + 1 + 1) _ (n + 1) (by omega) (by omega) hs (by omega) (by omega) (by rw [b2]; exact f3.2), b2]
    rw [dig_stop self (p + 1 + 1 + 1) _ n (by simpa using hle) (by omega) hs hz2]
    rw [show 10 * (10 * (0 : Int) + ((a.toNat : Int) - 48)) + ((b.toNat : Int) - 48) = k from hv]
    rfl
  | [], h => simp at h
  | _ :: _ :: _ :: _, h => simp at h

theorem rread_good {N : Nat} (hN : 5 ≤ N) {s : List UInt8} (hs : s.length ≤ 281474976710656) : ∀ (t : Tr) (n deep p : Nat) (l : List T_RuleNode) (post : List UInt8), t.wf → t.dp + deep ≤ 17 → t.dp ≤ n → s.drop p = tx t ++ post → spd post = 0 → l.length + t.sz ≤ 65 →
    ref19_read_M N n s (p : Int) l (deep : Int) = some (l ++ t.fl l.length, ((p + (tx t).length : Nat) : Int)) := by
  intro t n
  induction n generalizing t with
  | zero => intro deep p l post _ _ h; exact absurd h (by have := t.dp_pos; omega)
  | succ n ihn =>
    intro deep p l post hw h1 h2 h3 h4 h5
    have hdp := t.dp_pos
    have hsz := t.sz_pos
    obtain ⟨c0, r0, ht0, _⟩ := tx_ne t
    have hp : p < s.length := (get_of (h3.trans (by rw [ht0]; rfl))).1
    rw [ref19_read_M_succ]
    unfold ref19_read_R
    rw [decide_eq_false (by omega), cond_false, decide_eq_false (by omega), cond_false, decide_eq_false (by omega), cond_false]
    obtain ⟨M', rfl⟩ : ∃ M', N = M' + 1 := ⟨N - 1, by omega⟩
    rw [ref19_read_J1_eq, inB_true (by omega), cond_true, Int.toNat_natCast]
    dsimp only
    have eP : W ((p : Int) + 1) = ((p + 1 : Nat) : Int) := by rw [W_eq (by omega) (by omega)]; omega
    have eD : W ((deep : Int) + 1) = ((deep + 1 : Nat) : Int) := by rw [W_eq (by omega) (by omega)]; omega
    rw [eP, eD]
    clear ht0
    cases t with
    | c k =>
      obtain ⟨w1, w2⟩ : 0 ≤ k ∧ k < 64 := hw
      obtain ⟨g1, g2, g3⟩ := get_of (c := 99) (r := itoaM k ++ post) h3
      obtain ⟨K, rfl⟩ : ∃ K, M' = K + 2 := ⟨M' - 2, by omega⟩
      rw [g2, show (((99 : UInt8).toNat : Int) == 99) = true from rfl, cond_true]
      refine (dig_num (N := K + 2 + 1) _ w1 w2 hs h3 h4 K).trans ?_
      have hle := congrArg List.length g3
      simp at hle
      rw [ref19_read_J2_eq, itoa_some _ w1 w2, bind_some', W_eq (by omega) (by omega), slB_true (by omega), cond_true]
      rw [show ((p : Int) + 1).toNat = p + 1 by omega, Int.toNat_natCast, show p + 1 + (itoaM k).length - (p + 1) = (itoaM k).length by omega, g3, List.take_left, beq_self_eq_true, Bool.not_true, cond_false, decide_eq_false (by omega), cond_false, fitsB_true (by omega), cond_true]
      rw [show p + (tx (.c k)).length = p + 1 + (itoaM k).length by simp [tx]; omega]
      rfl
    | n a =>
      obtain ⟨g1, g2, g3⟩ := get_of (c := 33) (r := tx a ++ post) h3
      simp only [Tr.dp, Tr.sz] at h1 h2 h5
      have ih := ihn a (deep + 1) (p + 1) l post hw (by omega) (by omega) g3 h4 (by omega)
      rw [g2, show (((33 : UInt8).toNat : Int) == 99) = false from rfl, cond_false, show (((33 : UInt8).toNat : Int) == 33) = true from rfl, cond_true, ih, bind_some']
      have hl : (l ++ a.fl l.length).length = l.length + a.sz := by rw [List.length_append, Tr.fl_len]
      dsimp only
      rw [decide_eq_false (by omega), cond_false, fitsB_true (by omega), cond_true, W_eq (by omega) (by omega), hl, List.append_assoc, show p + (tx (.n a)).length = p + 1 + (tx a).length by simp [tx]; omega]
      rfl
    | b o x y =>
      have h3 : s.drop p = 40 :: (tx x ++ ([32, opc o, 32] ++ (tx y ++ (41 :: post)))) := by rw [h3]; simp [tx]
      obtain ⟨g1, g2, g3⟩ := get_of h3
      simp only [Tr.dp, Tr.sz] at h1 h2 h5
      have hd1 := drop_add g3
      have hd2 := drop_add hd1
      have hd3 := drop_add hd2
      obtain ⟨k1, k2, k3⟩ := get_of hd3
      obtain ⟨_, _, hq1⟩ := get_of (r := opc o :: 32 :: (tx y ++ (41 :: post))) hd1
      obtain ⟨_, hq2, _⟩ := get_of hq1
      rw [show ([32, opc o, 32] : List UInt8).length = 3 from rfl] at hd2 k1 k2 k3
      have ih := ihn x (deep + 1) (p + 1) l _ hw.1 (by omega) (by omega) g3 (by rfl) (by omega)
      have hl : (l ++ x.fl l.length).length = l.length + x.sz := by rw [List.length_append, Tr.fl_len]
      have ih2 := ihn y (deep + 1) (p + 1 + (tx x).length + 3) (l ++ x.fl l.length) _ hw.2 (by omega) (by omega) hd2 (by rfl) (by omega)
      have hl2 : ((l ++ x.fl l.length) ++ y.fl (l ++ x.fl l.length).length).length = l.length + x.sz + y.sz := by rw [List.length_append, Tr.fl_len, hl]
      rw [g2, show (((40 : UInt8).toNat : Int) == 99) = false from rfl, cond_false, show (((40 : UInt8).toNat : Int) == 33) = false from rfl, cond_false, show (((40 : UInt8).toNat : Int) == 40) = true from rfl, cond_true, ih, bind_some']
      dsimp only
      generalize hq : p + 1 + (tx x).length = q at *
      generalize hy : q + 3 + (tx y).length = q2 at *
      rw [decide_eq_false (by omega), cond_false, W_eq (n := (q : Int) + 3) (by omega) (by omega), decide_eq_false (by omega), cond_false, slB_true (by omega), cond_true, cond_true, show ((q : Int) + 3).toNat - (q : Int).toNat = 3 by omega, Int.toNat_natCast, hd1]
      have key : ref19_read_J3 (M' + 1) (ref19_read_M (M' + 1) n) s (deep : Int) (q : Int) (l ++ x.fl l.length) = some (l ++ (Tr.b o x y).fl l.length, ((q2 + 1 : Nat) : Int)) := by
        rw [ref19_read_J3_eq, eD, show W ((q : Int) + 3) = ((q + 3 : Nat) : Int) by rw [W_eq (by omega) (by omega)]; omega]
        dsimp only
        rw [ih2, bind_some']
        dsimp only
        rw [decide_eq_false (by omega), cond_false, decide_eq_false (by omega), cond_false, inB_true (by omega), cond_true, Int.toNat_natCast, k2, show (((41 : UInt8).toNat : Int) != 41) = false from rfl, cond_false, show W ((q : Int) + 1) = ((q + 1 : Nat) : Int) by rw [W_eq (by omega) (by omega)]; omega, inB_true (by omega), cond_true, Int.toNat_natCast, hq2, fitsB_true (by rw [hl2]; omega), hl2, hl, W_eq (n := ((l.length + x.sz : Nat) : Int) - 1) (by omega) (by omega), W_eq (n := ((l.length + x.sz + y.sz : Nat) : Int) - 1) (by omega) (by omega), show W ((q2 : Int) + 1) = ((q2 + 1 : Nat) : Int) by rw [W_eq (by omega) (by omega)]; omega]
        cases o <;> simp [Tr.fl, Tr.kd, opc]
      have he : p + (tx (.b o x y)).length = q2 + 1 := by simp [tx]; omega
      rw [he]
      cases o with
      | false => exact key
      | true => exact key
theorem tx_bound (t : Tr) : t.wf → (tx t).length ≤ 6 * t.sz := by
  induction t with
  | c k => intro h; obtain ⟨_, _, _, f⟩ := num_fact h.1 h.2; simp [tx, Tr.sz]; omega
  | n a ih => intro h; have := ih h; simp [tx, Tr.sz]; omega
  | b o x y ih1 ih2 => intro h; have := ih1 h.1; have := ih2 h.2; simp [tx, Tr.sz]; omega
theorem rparse_iff {N : Nat} (hN : 66 ≤ N) (hN2 : N ≤ 1000000000000000) (s : List UInt8) (hs2 : s.length ≤ 281474976710656) : (∃ t, Good t ∧ s = tx t ∧ ref19_Parse N s = some (t.fl 0, 0)) ∨ (¬ (∃ t, Good t ∧ s = tx t) ∧ ref19_Parse N s = some ([], 6)) := by
  by_cases hg : ∃ t, Good t ∧ s = tx t
  · obtain ⟨t, ⟨h1, h2, h3⟩, rfl⟩ := hg
    refine .inl ⟨t, ⟨h1, h2, h3⟩, rfl, ?_⟩
    have := rread_good (N := N) (by omega) hs2 t N 1 0 [] [] h1 (by omega) (by omega) (by simp) rfl (by simp; omega)
    unfold ref19_Parse ref19_read
    rw [show (0 : Int) = ((0 : Nat) : Int) from rfl, show (1 : Int) = ((1 : Nat) : Int) from rfl, this, bind_some']
    dsimp only
    rw [Nat.zero_add, bne_self_eq_false, cond_false, List.nil_append, List.length_nil, rright_good hN hN2 ⟨h1, h2, h3⟩]
    rfl
  · refine .inr ⟨hg, ?_⟩
    obtain ⟨r, e, hr, _⟩ := read_sound' (N := N) (by omega) hs2 N 1 0 [] (by omega) (by omega) (by omega)
    unfold ref19_Parse ref19_read
    rw [show (0 : Int) = ((0 : Nat) : Int) from rfl, show (1 : Int) = ((1 : Nat) : Int) from rfl, e, bind_some']
    by_cases q : r.2 = (s.length : Int)
    · rcases hr with hr | ⟨e, t, t1, t2, t3, t4, t5, t6⟩
      · omega
      have he : e = s.length := by omega
      subst he
      have hb : ¬ Rt r.1 := by
        rintro ⟨u, hu, hx⟩
        have : t = u := fl_inj0 (t6.symm.trans hx)
        subst this
        exact hg ⟨t, hu, by simpa using t5⟩
      rw [q, bne_self_eq_false, cond_false, rright_bad hN hN2 hb]
      rfl
    · rw [show (r.2 != (s.length : Int)) = true by simpa using q, cond_true]
theorem prints_loop {N : Nat} (hN : 70 ≤ N) (hN2' : N ≤ 1000000) (ls : List (List UInt8)) (hls : ls.length ≤ 1000) (hb : ∀ s, s ∈ ls → s.length + 2 ≤ N) : ∀ (m n i : Nat), i + m = ls.length → m < n → law19_RulePrints_L1 N n ls (ls.length : Int) (i : Int) = some true
  | 0, n, i, hm, hn => by
    obtain ⟨n', rfl⟩ : ∃ n', n = n' + 1 := ⟨n - 1, by omega⟩
    rw [law19_RulePrints_L1_succ, decide_eq_false (by omega), cond_false, awake_all hN]
    rfl
  | m + 1, n, i, hm, hn => by
    obtain ⟨n', rfl⟩ : ∃ n', n = n' + 1 := ⟨n - 1, by omega⟩
    rw [law19_RulePrints_L1_succ, decide_eq_true (by omega), cond_true, inB_true (by omega), cond_true, Int.toNat_natCast]
    have hm' : ls.getD i [] ∈ ls := by
      rw [List.getD_eq_getElem?_getD, List.getElem?_eq_getElem (by omega)]
      exact List.getElem_mem _
    have hl := hb _ hm'
    have eW : W ((i : Int) + 1) = ((i + 1 : Nat) : Int) := by rw [W_eq (by omega) (by omega)]; omega
    rcases parse_iff (N := N) (by omega) (by omega) (ls.getD i []) hl (by omega) with ⟨t, ht, h1, h2⟩ | ⟨h1, h2⟩
    · rcases rparse_iff (N := N) (by omega) (by omega) (ls.getD i []) (by omega) with ⟨u, hu, k1, k2⟩ | ⟨k1, k2⟩
      · have hfl := parse_iff (N := N) (by omega) (by omega) (ls.getD i []) hl (by omega)
        have h3 := h2
        rw [k1, parse_good (by omega) (by omega) hu (by rw [← k1]; exact hl)] at h3
        have h4 : u.fl 0 = t.fl 0 := by injection h3 with h3; injection h3
        have hsz := ht.2.2
        rw [h2, bind_some', k2, bind_some', h4]
        dsimp only
        rw [same_all (by rw [Tr.fl_len]; omega) (by rw [Tr.fl_len]; omega), bind_some', Bool.not_true, cond_false, bne_self_eq_false, cond_false, eW]
        exact prints_loop hN hN2' ls hls hb m n' (i + 1) (by omega) (by omega)
      · exact absurd ⟨t, ht, h1⟩ k1
    · rcases rparse_iff (N := N) (by omega) (by omega) (ls.getD i []) (by omega) with ⟨u, hu, k1, k2⟩ | ⟨k1, k2⟩
      · exact absurd ⟨u, hu, k1⟩ h1
      · rw [h2, bind_some', k2, bind_some']
        dsimp only
        rw [same_all (by simp) (by simp; omega), bind_some', Bool.not_true, cond_false, bne_self_eq_false, cond_false, eW]
        exact prints_loop hN hN2' ls hls hb m n' (i + 1) (by omega) (by omega)

theorem mod_in (N : Nat) (a : Int) {b : Int} (h0 : 1 ≤ b) (h1 : b ≤ 1000000) : ∃ r, draw_Mod N a b = some r ∧ 0 ≤ r ∧ r < b := by
  unfold draw_Mod
  have k1 := Int.tmod_lt_of_pos a (show 0 < b by omega)
  have k2 : -b < a.tmod b := by
    have := Int.tmod_lt_of_pos (-a) (show 0 < b by omega)
    rw [Int.neg_tmod] at this
    omega
  rw [decide_eq_false (by omega), cond_false, show (b == 0) = false by simp; omega, cond_false]
  by_cases h : a.tmod b < 0
  · rw [decide_eq_true h, cond_true, W_eq (by omega) (by omega)]
    exact ⟨_, rfl, by omega, by omega⟩
  · rw [decide_eq_false h, cond_false]
    exact ⟨_, rfl, by omega, by omega⟩
theorem prints_j1 {x7 t : List UInt8} (h7 : x7.length ≤ 400) (ht : t.length ≤ 384) (x8 : Int) {x9 : Int} (h0 : 0 ≤ x9) (h9 : x9 ≤ 255) : law19_RulePrints_J1 1000 x7 x8 x9 t = some true := by
  have L : ∀ c : List UInt8, c.length ≤ 384 → law19_RulePrints_L1 1000 1000 [t, c, x7, t ++ [32], [40] ++ t, ((([40] ++ t) ++ [32, 38, 32]) ++ t) ++ [41]] (([t, c, x7, t ++ [32], [40] ++ t, ((([40] ++ t) ++ [32, 38, 32]) ++ t) ++ [41]] : List (List UInt8)).length : Int) 0 = some true := fun c hc =>
    prints_loop (N := 1000) (by omega) (by omega) _ (by simp) (fun s hs => by
      simp only [List.mem_cons, List.mem_nil_iff, or_false] at hs
      rcases hs with rfl | rfl | rfl | rfl | rfl | rfl <;> simp <;> omega) 6 1000 0 (by simp) (by omega)
  show law19_RulePrints_J1 (999 + 1) x7 x8 x9 t = some true
  rw [law19_RulePrints_J1_eq]
  dsimp only
  have kk := Int.tmod_lt_of_pos x9 (show (0 : Int) < 11 by omega)
  have kk0 := Int.tmod_nonneg (11 : Int) h0
  by_cases h : 0 < t.length
  · rw [decide_eq_true (by simp; omega), cond_true]
    obtain ⟨r, e, e1, e2⟩ := mod_in (999 + 1) x8 (b := ((t.map fun b => (b.toNat : Int)).length : Int)) (by simp; omega) (by simp; omega)
    rw [e, bind_some', W_eq (n := x9) (by omega) (by omega), inB_true ⟨kk0, by simpa using kk⟩, cond_true, inB_true (by omega), cond_true]
    rw [decide_eq_true (by simp; omega), cond_true, decide_eq_true (by simp; omega), cond_true, cond_true, decide_eq_true (by simp; omega), cond_true, decide_eq_true (by simp; omega), cond_true, decide_eq_true (by simp; omega), cond_true]
    exact L _ (by simp; omega)
  · have hz : t = [] := List.eq_nil_of_length_eq_zero (by omega)
    subst hz
    rw [decide_eq_false (by simp), cond_false]
    rw [decide_eq_true (by simp), cond_true, decide_eq_true (by simp), cond_true, cond_true, decide_eq_true (by simp), cond_true, decide_eq_true (by simp), cond_true, decide_eq_true (by simp), cond_true]
    exact L _ (by simp)
theorem rulePrints_ok {a : List Int} (ha : ∀ x, x ∈ a → (Lit.int .u8 x).wf = true) (hla : a.length ≤ maxLen) (s : List UInt8) (i : Int) {y : Int} (h0 : 0 ≤ y) (h9 : y ≤ 255) : law19_RulePrints 1000 a s i y = some true := by
  unfold law19_RulePrints
  obtain ⟨l, e2⟩ := made_spec (N := 1000) (by omega) ha hla i ((W y).tmod 8)
  rw [e2, bind_some']
  have fin : ∀ (t : List UInt8) (c : Int), t.length ≤ 384 → rule_Print 1000 l = some (t, c) → ref19_Print 1000 l = some (t, c) → (Option.bind (rule_Print 1000 l) fun r2 =>
      Option.bind (ref19_Print 1000 l) fun r3 =>
      bif (!(r2.1 == r3.1)) then
        bif (r2.1 == r3.1) then
          bif (r2.2 == r3.2) then Option.bind (law19_awake 1000) fun r4 => some r4 else some false
        else some false
      else
        bif (r2.2 != r3.2) then
          bif (r2.1 == r3.1) then
            bif (r2.2 == r3.2) then Option.bind (law19_awake 1000) fun r5 => some r5 else some false
          else some false
        else
          bif (decide ((s.length : Int) > 400)) then
            bif (r2.1 == r3.1) then
              bif (r2.2 == r3.2) then Option.bind (law19_awake 1000) fun r6 => some r6 else some false
            else some false
          else law19_RulePrints_J1 1000 s i y r3.1) = some true := by
    intro t c ht e3 e4
    rw [e3, bind_some', e4, bind_some']
    dsimp only
    rw [beq_self_eq_true, Bool.not_true, cond_false, bne_self_eq_false, cond_false, cond_true, beq_self_eq_true, cond_true, awake_all (by omega), bind_some']
    by_cases h : s.length ≤ 400
    · rw [decide_eq_false (by omega), cond_false, prints_j1 h ht i h0 h9]
    · rw [decide_eq_true (by omega), cond_true]
  by_cases hR : Rt l
  · obtain ⟨t, ht, rfl⟩ := hR
    have hb := tx_bound t ht.1
    have := ht.2.2
    exact fin _ _ (by omega) (print_good (by omega) (by omega) ht) (rprint_good (by omega) (by omega) ht)
  · exact fin _ _ (by simp) (print_bad (by omega) (by omega) hR) (rprint_bad (by omega) (by omega) hR)
theorem rulePrints_any (dargs : List DV) (h : TyAs [(false, [.sl [.it .u8]]), (false, [.st]), (false, [.it .i64]), (false, [.it .u8])] dargs) : CallOK Tryd.prog 4 dargs [] 0 (B true) [] 0 :=
  law_any (law19_RulePrints_pure 1000) (fun x hx => rulePrints_ok hx.1.2 hx.1.1 _ _ (wf_u8 hx.2.2.2).1 (wf_u8 hx.2.2.2).2) rfl dargs h
end Go.Proofs.YthfejkflhpifnaaDoor
