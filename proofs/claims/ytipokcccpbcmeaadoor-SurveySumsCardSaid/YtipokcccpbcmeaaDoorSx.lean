/- SurveySums, SurveyPrints for arguments from outside. No condition of its own. -/
import Derived.Test.YtipokcccpbcmeaaDoorM
import Derived.Test.YtipokcccpbcmeaaDoorPxN
set_option linter.all false
namespace Go.Proofs.YtipokcccpbcmeaaDoor
open Go.Pv M

theorem ne2 {x y : Int} (h : x ≠ y) : (x == y) = false := by simpa using h
end Go.Proofs.YtipokcccpbcmeaaDoor
set_option linter.all false
namespace Go.Proofs.YtipokcccpbcmeaaDoor
open Go.Pv M

theorem eq2 {x y : Int} (h : x = y) : (x == y) = true := by simpa using h
theorem dt {p : Prop} [Decidable p] {α : Type} {x y : α} (h : p) : (bif decide p then x else y) = x := by rw [decide_eq_true h]; rfl
theorem df {p : Prop} [Decidable p] {α : Type} {x y : α} (h : ¬ p) : (bif decide p then x else y) = y := by rw [decide_eq_false h]; rfl
theorem et {a b : Int} {α : Type} {x y : α} (h : a = b) : (bif a == b then x else y) = x := by rw [eq2 h]; rfl
theorem ef {a b : Int} {α : Type} {x y : α} (h : a ≠ b) : (bif a == b then x else y) = y := by rw [ne2 h]; rfl
theorem it {n : Int} {l : Nat} {α : Type} {x y : α} (h : 0 ≤ n ∧ n < l) : (bif inB n l then x else y) = x := by rw [inB_true h]; rfl
theorem drop_cons {α : Type} {l : List α} {k : Nat} (d : α) (h : k < l.length) : l.drop k = l.getD k d :: l.drop (k + 1) := by
  rw [List.drop_eq_getElem_cons h, List.getD_eq_getElem?_getD, List.getElem?_eq_getElem h]; rfl
theorem drop_nil {α : Type} {l : List α} {k : Nat} (h : l.length ≤ k) : l.drop k = [] := List.drop_eq_nil_of_le h
theorem W_succ {k : Nat} (h : k < 1000000000) : W ((k : Int) + 1) = ((k + 1 : Nat) : Int) := by rw [W_eq (by omega) (by omega)]; omega
theorem getD_mem {α : Type} {l : List α} (d : α) {k : Nat} (h : k < l.length) : l.getD k d ∈ l := by
  rw [List.getD_eq_getElem?_getD, List.getElem?_eq_getElem h]; exact List.getElem_mem h

/-! ### Check -/
def badP (p : T_Place) : Prop := p.1 < -10000 ∨ p.1 > 10000
instance (p : T_Place) : Decidable (badP p) := inferInstanceAs (Decidable (_ ∨ _))
def endE (n : Int) (r : T_Road) : Prop := r.1 < 0 ∨ r.1 ≥ n ∨ r.2.1 < 0 ∨ r.2.1 ≥ n ∨ r.1 = r.2.1
instance (n : Int) (r : T_Road) : Decidable (endE n r) := inferInstanceAs (Decidable (_ ∨ _ ∨ _ ∨ _ ∨ _))
def spanO (s : T_Span) (a b : Int) : Prop := a ≤ s.1 ∧ s.1 ≤ s.2 ∧ s.2 ≤ b
instance (s : T_Span) (a b : Int) : Decidable (spanO s a b) := inferInstanceAs (Decidable (_ ∧ _ ∧ _))
def rngE (r : T_Road) : Prop := r.2.2.1 < 1 ∨ r.2.2.1 > 100000 ∨ r.2.2.2.1 < 1 ∨ r.2.2.2.1 > 1000 ∨ ¬ spanO r.2.2.2.2.2.2.1 1 262144 ∨ ¬ spanO r.2.2.2.2.2.2.2 (-2199023255552) 2199023255552
instance (r : T_Road) : Decidable (rngE r) := inferInstanceAs (Decidable (_ ∨ _ ∨ _ ∨ _ ∨ ¬ _ ∨ ¬ _))
theorem bnot_t {b : Bool} {α : Type} {x y : α} (h : b = true) : (bif !b then x else y) = y := by rw [h]; rfl
theorem bnot_f {b : Bool} {α : Type} {x y : α} (h : b = false) : (bif !b then x else y) = x := by rw [h]; rfl

/-! ### What a valid mine is -/
structure Vm (m : T_Mine) : Prop where
  n : m.1.length ≤ 64
  k : m.2.length ≤ 128
  p : ∀ x, x ∈ m.1 → ¬ badP x
  r : ∀ x, x ∈ m.2 → ¬ endE m.1.length x ∧ ¬ rngE x
/-! ### Made mines -/
def Pk (p : T_Place) : Prop := -60 ≤ p.1 ∧ p.1 ≤ 60
def Bk (r : T_Road) : Prop := (1 ≤ r.2.2.1 ∧ r.2.2.1 ≤ 400) ∧ (4 ≤ r.2.2.2.1 ∧ r.2.2.2.1 ≤ 30) ∧ (1 ≤ r.2.2.2.2.2.2.1.1 ∧ r.2.2.2.2.2.2.1.1 ≤ r.2.2.2.2.2.2.1.2 ∧ r.2.2.2.2.2.2.1.2 ≤ 30) ∧ (-300 ≤ r.2.2.2.2.2.2.2.1 ∧ r.2.2.2.2.2.2.2.1 ≤ r.2.2.2.2.2.2.2.2 ∧ r.2.2.2.2.2.2.2.2 ≤ 400)
def Rk (n : Int) (r : T_Road) : Prop := (0 ≤ r.1 ∧ r.1 < n) ∧ (0 ≤ r.2.1 ∧ r.2.1 < n) ∧ r.1 ≠ r.2.1 ∧ Bk r
structure Mk (m : T_Mine) : Prop where
  n1 : 2 ≤ m.1.length
  n2 : m.1.length ≤ 7
  r2 : m.2.length ≤ 8
  p : ∀ x, x ∈ m.1 → Pk x
  r : ∀ x, x ∈ m.2 → Rk m.1.length x
theorem Bk.rng {r : T_Road} (h : Bk r) : ¬ rngE r := by
  obtain ⟨h1, h2, h3, h4⟩ := h
  unfold rngE spanO
  omega
theorem Rk.ok {n : Int} {r : T_Road} (h : Rk n r) : ¬ endE n r ∧ ¬ rngE r := by
  obtain ⟨h1, h2, h3, h4⟩ := h
  exact ⟨by unfold endE; omega, h4.rng⟩
end Go.Proofs.YtipokcccpbcmeaaDoor
set_option linter.all false
namespace Go.Proofs.YtipokcccpbcmeaaDoor
open Go.Pv M

theorem nt {a b : Int} {α : Type} {x y : α} (h : a ≠ b) : (bif a != b then x else y) = x := by rw [show (a != b) = true by simpa using h]; rfl
theorem nf {a b : Int} {α : Type} {x y : α} (h : a = b) : (bif a != b then x else y) = y := by rw [show (a != b) = false by simpa using h]; rfl

abbrev Res := T_Mine × Int
def no (e : Int) : Res := (([], []), e)
def rest (r : T_Road) (a b : Int) : T_Road := (r.1, (r.2.1, (r.2.2.1, (r.2.2.2.1, (r.2.2.2.2.1, (r.2.2.2.2.2.1, ((a, b), r.2.2.2.2.2.2.2)))))))
/-! ### Same -/
end Go.Proofs.YtipokcccpbcmeaaDoor
set_option linter.all false
namespace Go.Proofs.YtipokcccpbcmeaaDoor
open Go.Pv M

theorem bt {b : Bool} {α : Type} {x y : α} (h : b = true) : (bif b then x else y) = x := by rw [h]; rfl
theorem bf {b : Bool} {α : Type} {x y : α} (h : b = false) : (bif b then x else y) = y := by rw [h]; rfl
/-! ### digits -/
def dg (c : UInt8) : Prop := 48 ≤ c.toNat ∧ c.toNat ≤ 57
def val : List UInt8 → Nat → Nat
  | [], a => a
  | c :: l, a => val l (a * 10 + (c.toNat - 48))
theorem val_app : ∀ (l m : List UInt8) (a : Nat), val (l ++ m) a = val m (val l a)
  | [], _, _ => rfl
  | c :: l, m, a => val_app l m _
theorem toNat_of {n : Nat} (h : n < 256) : (UInt8.ofNat n).toNat = n := by simp [UInt8.toNat_ofNat']; omega
theorem dg_of {n : Nat} (h : n < 10) : dg (UInt8.ofNat (48 + n)) := by unfold dg; rw [toNat_of (by omega)]; omega
theorem digs_spec : ∀ (f u : Nat), u < 10 ^ f → 0 < f → (∀ c, c ∈ digs f u → dg c) ∧ val (digs f u) 0 = u ∧ 0 < (digs f u).length ∧ (∀ k, 0 < k → u < 10 ^ k → (digs f u).length ≤ k) ∧ (0 < u → (digs f u).getD 0 0 ≠ 48)
  | f + 1, u, hu, _ => by
    rw [digs]
    by_cases h1 : u < 10
    · rw [dt h1]
      refine ⟨fun c hc => by rw [List.mem_singleton.1 hc]; exact dg_of h1, ?_, by simp, fun k hk _ => by simp; omega, fun h0 e => ?_⟩
      · show 0 * 10 + ((UInt8.ofNat (48 + u)).toNat - 48) = u
        rw [toNat_of (by omega)]; omega
      · have e : UInt8.ofNat (48 + u) = 48 := e
        have := congrArg UInt8.toNat e
        rw [toNat_of (by omega)] at this
        have h48 : (48 : UInt8).toNat = 48 := rfl
        omega
    · rw [df h1]
      have hf : 0 < f := by
        rcases Nat.eq_zero_or_pos f with rfl | h
        · simp at hu; omega
        · exact h
      have hd : u / 10 < 10 ^ f := Nat.div_lt_of_lt_mul (by rw [Nat.pow_succ, Nat.mul_comm] at hu; exact hu)
      obtain ⟨g1, g2, g3, g4, g5⟩ := digs_spec f (u / 10) hd hf
      have hm : u % 10 < 10 := Nat.mod_lt _ (by omega)
      refine ⟨fun c hc => ?_, ?_, by simp, fun k hk hlt => ?_, fun h0 e => ?_⟩
      · rcases List.mem_append.1 hc with hc | hc
        · exact g1 c hc
        · rw [List.mem_singleton.1 hc]; exact dg_of hm
      · rw [val_app, g2]
        show u / 10 * 10 + ((UInt8.ofNat (48 + u % 10)).toNat - 48) = u
        rw [toNat_of (by omega)]; omega
      · rw [List.length_append, List.length_singleton]
        have hk1 : 1 < k := by
          rcases Nat.lt_or_ge 1 k with h | h
          · exact h
          · have : k = 1 := by omega
            subst this; simp at hlt; omega
        have hk2 : u / 10 < 10 ^ (k - 1) := by
          obtain ⟨k', rfl⟩ : ∃ k', k = k' + 1 := ⟨k - 1, by omega⟩
          rw [Nat.pow_succ] at hlt
          exact Nat.div_lt_of_lt_mul (by rw [Nat.mul_comm]; exact hlt)
        have := g4 (k - 1) (by omega) hk2
        omega
      · have e' : (digs f (u / 10) ++ [UInt8.ofNat (48 + u % 10)]).getD 0 0 = (digs f (u / 10)).getD 0 0 := by
          rw [List.getD_eq_getElem?_getD, List.getElem?_append_left g3, ← List.getD_eq_getElem?_getD]
        rw [e'] at e
        exact g5 (by omega) e
theorem getD0_app {l m : List UInt8} (h : 0 < l.length) : (l ++ m).getD 0 0 = l.getD 0 0 := by
  rw [List.getD_eq_getElem?_getD, List.getElem?_append_left h, ← List.getD_eq_getElem?_getD]
theorem val_pos : ∀ (l : List UInt8) (a : Nat), a ≤ val l a
  | [], a => Nat.le_refl _
  | c :: l, a => by
    have := val_pos l (a * 10 + (c.toNat - 48))
    rw [val]; omega
theorem val_lt : ∀ (l : List UInt8) (a : Nat), (∀ c, c ∈ l → dg c) → val l a < (a + 1) * 10 ^ l.length
  | [], a, _ => by simp [val]
  | c :: l, a, h => by
    have h1 := h c (List.mem_cons_self ..)
    have h2 := val_lt l (a * 10 + (c.toNat - 48)) fun d hd => h d (List.mem_cons_of_mem _ hd)
    unfold dg at h1
    rw [val, List.length_cons, Nat.pow_succ]
    have h3 : (a * 10 + (c.toNat - 48) + 1) ≤ (a + 1) * 10 := by omega
    calc _ < (a * 10 + (c.toNat - 48) + 1) * 10 ^ l.length := h2
      _ ≤ (a + 1) * 10 * 10 ^ l.length := Nat.mul_le_mul_right _ h3
      _ = (a + 1) * (10 ^ l.length * 10) := by rw [Nat.mul_assoc, Nat.mul_comm 10]
/-- A row of digits without zeros ahead is what is printed of its value. -/
theorem digs_back : ∀ (n : Nat) (l : List UInt8) (f : Nat), l.length = n → 0 < n → n ≤ f → (∀ c, c ∈ l → dg c) → (l.getD 0 0 ≠ 48 ∨ l.length = 1) → digs f (val l 0) = l
  | n, l, 0, hn, h0, hf, _, _ => by omega
  | 0, l, f + 1, hn, h0, hf, _, _ => by omega
  | n + 1, l, f + 1, hn, h0, hf, hd, hz => by
    obtain ⟨m, c, rfl⟩ : ∃ m c, l = m ++ [c] := ⟨l.dropLast, l.getLast (by intro e; simp [e] at hn), (List.dropLast_concat_getLast _).symm⟩
    have hc := hd c (by simp)
    unfold dg at hc
    have hm : m.length = n := by simpa using hn
    have hcc : UInt8.ofNat (48 + (c.toNat - 48)) = c := by
      rw [show 48 + (c.toNat - 48) = c.toNat by omega]; exact UInt8.ofNat_toNat
    rw [digs, val_app]
    show (bif decide (val m 0 * 10 + (c.toNat - 48) < 10) then [UInt8.ofNat (48 + (val m 0 * 10 + (c.toNat - 48)))] else digs f ((val m 0 * 10 + (c.toNat - 48)) / 10) ++ [UInt8.ofNat (48 + (val m 0 * 10 + (c.toNat - 48)) % 10)]) = _
    by_cases hn0 : n = 0
    · have : m = [] := List.length_eq_zero_iff.1 (by omega)
      subst this
      have hx : val [] 0 * 10 + (c.toNat - 48) = c.toNat - 48 := by simp [val]
      rw [hx, dt (by omega), hcc]; rfl
    · have hm0 : 0 < m.length := by omega
      have hz' : m.getD 0 0 ≠ 48 := by
        rcases hz with h | h
        · rw [getD0_app hm0] at h; exact h
        · rw [List.length_append, List.length_singleton] at h; omega
      have hv : 1 ≤ val m 0 := by
        cases m with
        | nil => simp at hm0
        | cons d m =>
          have h1 := hd d (by simp)
          unfold dg at h1
          have h2 : d ≠ 48 := hz'
          have h3 : d.toNat ≠ 48 := fun e => h2 (UInt8.toNat_inj.1 e)
          have := val_pos m (0 * 10 + (d.toNat - 48))
          rw [val]; omega
      rw [df (by omega), show (val m 0 * 10 + (c.toNat - 48)) / 10 = val m 0 by omega, show (val m 0 * 10 + (c.toNat - 48)) % 10 = c.toNat - 48 by omega, hcc, digs_back n m f hm (by omega) (by omega) (fun d h => hd d (by simp [h])) (.inl hz')]

/-! ### numbers of at most 18 digits -/
def Sh (v : Int) : Prop := -1000000000000000000 < v ∧ v < 1000000000000000000
def isNum (s : List UInt8) (v : Int) : Prop := Sh v ∧ s = itoaM v
/-- What is printed: a sign, and digits without zeros ahead. -/
theorem itoa_form {v : Int} (h : Sh v) : ∃ d : List UInt8, itoaM v = (if v < 0 then [45] else []) ++ d ∧ (∀ c, c ∈ d → dg c) ∧ val d 0 = v.natAbs ∧ 1 ≤ d.length ∧ d.length ≤ 18 ∧ (d.getD 0 0 = 48 → v = 0 ∧ d = [48]) := by
  unfold Sh at h
  have hn : v.natAbs < 10 ^ 18 := by omega
  obtain ⟨g1, g2, g3, g4, g5⟩ := digs_spec 20 v.natAbs (Nat.lt_of_lt_of_le hn (by decide)) (by omega)
  have hz : (digs 20 v.natAbs).getD 0 0 = 48 → v = 0 ∧ digs 20 v.natAbs = [48] := fun e => by
    rcases Nat.eq_zero_or_pos v.natAbs with h0 | h0
    · rw [h0]; exact ⟨by omega, by decide⟩
    · exact absurd e (g5 h0)
  unfold itoaM
  by_cases h0 : v < 0
  · rw [decide_eq_true h0, cond_true, if_pos h0]
    exact ⟨_, rfl, g1, g2, g3, g4 18 (by omega) hn, hz⟩
  · rw [decide_eq_false h0, cond_false, if_neg h0, show v.toNat = v.natAbs by omega]
    exact ⟨_, rfl, g1, g2, g3, g4 18 (by omega) hn, hz⟩
theorem itoa_some' (N : Nat) {v : Int} (h0 : -9223372036854775808 ≤ v) (h1 : v ≤ 9223372036854775807) : strconv_Itoa N v = some (itoaM v) := by
  unfold strconv_Itoa; rw [dt ⟨h0, h1⟩]
theorem trim_eq (N : Nat) (s : List UInt8) : strings_TrimPrefix N s [45] = some (if s.head? = some 45 then s.drop 1 else s) := by
  unfold strings_TrimPrefix
  cases s with
  | nil => rfl
  | cons c s =>
    have e : [45].isPrefixOf (c :: s) = (c == 45) := by
      simp only [List.isPrefixOf, Bool.and_true]
      by_cases h : c = 45
      · subst h; rfl
      · rw [beq_eq_false_iff_ne.2 h, beq_eq_false_iff_ne.2 (Ne.symm h)]
    rw [e]
    by_cases h : c = 45
    · subst h; simp
    · rw [beq_eq_false_iff_ne.2 h]; simp [h]
theorem u8m {n : Nat} (h0 : 48 ≤ n) (h1 : n < 256) : IntKind.u8.wrap ((n : Int) - 48) = ((n - 48 : Nat) : Int) := by
  have e : ((n : Int) - 48) = ((n - 48 : Nat) : Int) := by omega
  rw [e, IntKind.wrap_u8]; omega

theorem np_loop {s d : List UInt8} (hd : d.length ≤ 18) : ∀ (j f k a : Nat), j + k = d.length → j < f → a < 10 ^ k → ((∀ c, c ∈ d.drop k → dg c) → survey_number_L1 1267650600228229401496703205376 f s d a k = (bif decide ((d.length : Int) < (s.length : Int)) then some (W (0 - (val (d.drop k) a : Int)), true) else some ((val (d.drop k) a : Int), true))) ∧ ((∃ c, c ∈ d.drop k ∧ ¬ dg c) → survey_number_L1 1267650600228229401496703205376 f s d a k = some (0, false))
  | 0, f + 1, k, a, hk, hf, ha => by
    rw [drop_nil (by omega), survey_number_L1_succ, df (by omega)]
    exact ⟨fun _ => rfl, fun ⟨c, hc, _⟩ => by cases hc⟩
  | j + 1, f + 1, k, a, hk, hf, ha => by
    have hkl : k < d.length := by omega
    rw [drop_cons 0 hkl, survey_number_L1_succ, dt (by omega), it (by omega), Int.toNat_natCast]
    have hp : 10 ^ k ≤ 10 ^ 17 := Nat.pow_le_pow_right (by decide) (by omega)
    by_cases h1 : 48 ≤ (d.getD k 0).toNat
    · rw [df (by omega), it (by omega)]
      by_cases h2 : (d.getD k 0).toNat ≤ 57
      · have hu : (d.getD k 0).toNat < 256 := by omega
        rw [df (by omega), it (by omega), u8m h1 hu, W_eq (n := (a : Int) * 10) (by omega) (by omega), W_eq (n := (((d.getD k 0).toNat - 48 : Nat) : Int)) (by omega) (by omega), W_eq (by omega) (by omega), W_succ (by omega), show ((a : Int) * 10 + (((d.getD k 0).toNat - 48 : Nat) : Int)) = ((a * 10 + ((d.getD k 0).toNat - 48) : Nat) : Int) by omega]
        have ih := np_loop (s := s) hd j f (k + 1) (a * 10 + ((d.getD k 0).toNat - 48)) (by omega) (by omega) (by rw [Nat.pow_succ]; omega)
        refine ⟨fun h => ?_, fun ⟨c, hc, hn⟩ => ?_⟩
        · rw [ih.1 fun c hc => h c (List.mem_cons_of_mem _ hc)]; rfl
        · rcases List.mem_cons.1 hc with rfl | hc
          · exact absurd ⟨h1, h2⟩ hn
          · exact ih.2 ⟨c, hc, hn⟩
      · rw [dt (by omega)]
        exact ⟨fun h => absurd (h _ (List.mem_cons_self ..)).2 h2, fun _ => rfl⟩
    · rw [dt (by omega)]
      exact ⟨fun h => absurd (h _ (List.mem_cons_self ..)).1 h1, fun _ => rfl⟩

theorem nr_loop {s d : List UInt8} (hd : d.length ≤ 18) : ∀ (j f k a : Nat), j + k = d.length → j < f → a < 10 ^ k → ((∀ c, c ∈ d.drop k → dg c) → ref02_number_L1 1267650600228229401496703205376 f s d a k = (bif decide ((d.length : Int) < (s.length : Int)) then (Option.bind (strconv_Itoa 1267650600228229401496703205376 (W (0 - (val (d.drop k) a : Int)))) fun r => some (W (0 - (val (d.drop k) a : Int)), r == s)) else Option.bind (strconv_Itoa 1267650600228229401496703205376 (val (d.drop k) a : Int)) fun r => some ((val (d.drop k) a : Int), r == s))) ∧ ((∃ c, c ∈ d.drop k ∧ ¬ dg c) → ref02_number_L1 1267650600228229401496703205376 f s d a k = some (0, false))
  | 0, f + 1, k, a, hk, hf, ha => by
    rw [drop_nil (by omega), ref02_number_L1_succ, df (by omega)]
    exact ⟨fun _ => rfl, fun ⟨c, hc, _⟩ => by cases hc⟩
  | j + 1, f + 1, k, a, hk, hf, ha => by
    have hkl : k < d.length := by omega
    rw [drop_cons 0 hkl, ref02_number_L1_succ, dt (by omega), it (by omega), Int.toNat_natCast]
    have hp : 10 ^ k ≤ 10 ^ 17 := Nat.pow_le_pow_right (by decide) (by omega)
    by_cases h1 : 48 ≤ (d.getD k 0).toNat
    · rw [df (by omega), it (by omega)]
      by_cases h2 : (d.getD k 0).toNat ≤ 57
      · have hu : (d.getD k 0).toNat < 256 := by omega
        rw [df (by omega), it (by omega), u8m h1 hu, W_eq (n := 10 * (a : Int)) (by omega) (by omega), Int.mul_comm 10 (a : Int), W_eq (n := (((d.getD k 0).toNat - 48 : Nat) : Int)) (by omega) (by omega), W_eq (by omega) (by omega), W_succ (by omega), show ((a : Int) * 10 + (((d.getD k 0).toNat - 48 : Nat) : Int)) = ((a * 10 + ((d.getD k 0).toNat - 48) : Nat) : Int) by omega]
        have ih := nr_loop (s := s) hd j f (k + 1) (a * 10 + ((d.getD k 0).toNat - 48)) (by omega) (by omega) (by rw [Nat.pow_succ]; omega)
        refine ⟨fun h => ?_, fun ⟨c, hc, hn⟩ => ?_⟩
        · rw [ih.1 fun c hc => h c (List.mem_cons_of_mem _ hc)]; rfl
        · rcases List.mem_cons.1 hc with rfl | hc
          · exact absurd ⟨h1, h2⟩ hn
          · exact ih.2 ⟨c, hc, hn⟩
      · rw [dt (by omega)]
        exact ⟨fun h => absurd (h _ (List.mem_cons_self ..)).2 h2, fun _ => rfl⟩
    · rw [dt (by omega)]
      exact ⟨fun h => absurd (h _ (List.mem_cons_self ..)).1 h1, fun _ => rfl⟩

/-- The digits of a text, behind a sign. -/
def dig (s : List UInt8) : List UInt8 := if s.head? = some 45 then s.drop 1 else s
theorem dig_neg (d : List UInt8) : dig (45 :: d) = d := rfl
theorem dig_pos {d : List UInt8} (h : ∀ c, c ∈ d → dg c) (h0 : 1 ≤ d.length) : dig d = d := by
  cases d with
  | nil => simp at h0
  | cons c d =>
    have hc := h c (List.mem_cons_self ..)
    unfold dig
    rw [if_neg]
    intro e
    injection e with e
    subst e
    exact absurd hc.1 (by decide)
/-- A text that both take as a number. -/
def okNum (s : List UInt8) : Prop := 1 ≤ (dig s).length ∧ (dig s).length ≤ 18 ∧ (∀ c, c ∈ dig s → dg c) ∧ ((dig s).getD 0 0 = 48 → s = [48])
def numV (s : List UInt8) : Int := if s.head? = some 45 then -(val (dig s) 0 : Int) else val (dig s) 0
theorem val18 {d : List UInt8} (h : d.length ≤ 18) (hd : ∀ c, c ∈ d → dg c) : val d 0 < 1000000000000000000 := by
  have h1 := val_lt d 0 hd
  have h2 : 10 ^ d.length ≤ 10 ^ 18 := Nat.pow_le_pow_right (by decide) h
  omega
theorem ok_isNum {s : List UInt8} (h : okNum s) : isNum s (numV s) := by
  obtain ⟨h1, h2, h3, h4⟩ := h
  have hv := val18 h2 h3
  unfold numV isNum Sh
  by_cases hs : s.head? = some 45
  · obtain ⟨d, rfl⟩ : ∃ d, s = 45 :: d := by
      cases s with
      | nil => cases hs
      | cons c s => injection hs with hs; exact ⟨s, by rw [hs]⟩
    rw [dig_neg] at h1 h2 h3 h4 hv
    rw [dig_neg, if_pos hs]
    have hz : d.getD 0 0 ≠ 48 := fun e => by have := h4 e; injection this with e1 e2; exact absurd e1 (by decide)
    have hb := digs_back d.length d 20 rfl (by omega) (by omega) h3 (.inl hz)
    have hp : 0 < val d 0 := by
      cases d with
      | nil => simp at h1
      | cons c d =>
        have hc := h3 c (by simp)
        unfold dg at hc
        have h5 : c ≠ 48 := hz
        have h6 : c.toNat ≠ 48 := fun e => h5 (UInt8.toNat_inj.1 e)
        have := val_pos d (0 * 10 + (c.toNat - 48))
        rw [val]; omega
    refine ⟨by omega, ?_⟩
    unfold itoaM
    rw [dt (by omega), show (-(val d 0 : Int)).natAbs = val d 0 by omega, hb]
  · have e : dig s = s := by unfold dig; rw [if_neg hs]
    rw [e] at h1 h2 h3 h4 hv
    rw [e, if_neg hs]
    have hz : s.getD 0 0 ≠ 48 ∨ s.length = 1 := by
      by_cases h5 : s.getD 0 0 = 48
      · right; rw [h4 h5]; rfl
      · exact .inl h5
    have hb := digs_back s.length s 20 rfl (by omega) (by omega) h3 hz
    refine ⟨by omega, ?_⟩
    unfold itoaM
    rw [df (by omega), Int.toNat_natCast, hb]
theorem isNum_ok {s : List UInt8} {v : Int} (h : isNum s v) : okNum s ∧ numV s = v := by
  obtain ⟨h0, rfl⟩ := h
  obtain ⟨d, e, g1, g2, g3, g4, g5⟩ := itoa_form h0
  by_cases hv : v < 0
  · rw [if_pos hv] at e
    have e : itoaM v = 45 :: d := e
    unfold okNum numV
    rw [e, dig_neg, if_pos (show (45 :: d).head? = some 45 from rfl)]
    exact ⟨⟨g3, g4, g1, fun h => by have := (g5 h).1; omega⟩, by omega⟩
  · rw [if_neg hv] at e
    have e : itoaM v = d := e
    have hh : d.head? ≠ some 45 := by
      cases d with
      | nil => simp at g3
      | cons c d =>
        have hc := g1 c (List.mem_cons_self ..)
        intro e
        injection e with e
        subst e
        exact absurd hc.1 (by decide)
    unfold okNum numV
    rw [e, dig_pos g1 g3, if_neg hh]
    exact ⟨⟨g3, g4, g1, fun h => (g5 h).2⟩, by omega⟩
theorem isNum_iff {s : List UInt8} : (∃ v, isNum s v) ↔ okNum s := ⟨fun ⟨_, h⟩ => (isNum_ok h).1, fun h => ⟨_, ok_isNum h⟩⟩
theorem dig_lt (s : List UInt8) : (dig s).length < s.length ↔ s.head? = some 45 := by
  unfold dig
  by_cases h : s.head? = some 45
  · rw [if_pos h, List.length_drop]
    cases s with
    | nil => cases h
    | cons c s => simp [h]
  · rw [if_neg h]; simp [h]
theorem trim_dig (N : Nat) (s : List UInt8) : strings_TrimPrefix N s [45] = some (dig s) := trim_eq N s
theorem getD0 (l : List UInt8) : l.getD (0 : Int).toNat 0 = l.getD 0 0 := rfl
theorem num_P {s : List UInt8} (h : okNum s) : survey_number 1267650600228229401496703205376 s = some (numV s, true) := by
  obtain ⟨h1, h2, h3, h4⟩ := h
  have hv := val18 h2 h3
  have key : survey_number_L1 1267650600228229401496703205376 1267650600228229401496703205376 s (dig s) 0 0 = some (numV s, true) := by
    have := (np_loop (s := s) h2 (dig s).length 1267650600228229401496703205376 0 0 rfl (by omega) (by simp)).1 h3
    rw [List.drop_zero] at this
    refine Eq.trans this ?_
    unfold numV
    by_cases hs : s.head? = some 45
    · rw [dt (by have := (dig_lt s).2 hs; omega), if_pos hs, W_eq (by omega) (by omega), Int.zero_sub]
    · rw [df (by intro e; exact hs ((dig_lt s).1 (by omega))), if_neg hs]
  unfold survey_number
  rw [trim_dig, bind_some', df (by omega), df (by omega), it (by omega), getD0]
  by_cases h5 : (dig s).getD 0 0 = 48
  · have e := h4 h5
    rw [bt (by rw [h5]; rfl), bf (by rw [e]; rfl), survey_number_J1_eq]
    exact key
  · rw [bf (by
      have : ((dig s).getD 0 0).toNat ≠ 48 := fun e => h5 (UInt8.toNat_inj.1 e)
      exact beq_eq_false_iff_ne.2 (by omega)), survey_number_J1_eq]
    exact key
theorem num_Pn {s : List UInt8} (h : ¬ okNum s) : ∃ x, survey_number 1267650600228229401496703205376 s = some (x, false) := by
  unfold survey_number
  rw [trim_dig, bind_some']
  by_cases h1 : 1 ≤ (dig s).length
  · rw [df (by omega)]
    by_cases h2 : (dig s).length ≤ 18
    · rw [df (by omega), it (by omega), getD0]
      have key : (¬ ∀ c, c ∈ dig s → dg c) → ∃ x, survey_number_L1 1267650600228229401496703205376 1267650600228229401496703205376 s (dig s) 0 0 = some (x, false) := fun hn => by
        have h3 : ∃ c, c ∈ (dig s).drop 0 ∧ ¬ dg c := by
          rw [List.drop_zero]
          exact Classical.byContradiction fun e => hn fun c hc => Classical.byContradiction fun e' => e ⟨c, hc, e'⟩
        exact ⟨0, (np_loop (s := s) h2 (dig s).length 1267650600228229401496703205376 0 0 rfl (by omega) (by simp)).2 h3⟩
      by_cases h5 : (dig s).getD 0 0 = 48
      · rw [bt (by rw [h5]; rfl)]
        by_cases e : s = [48]
        · exfalso
          refine h ⟨h1, h2, ?_, fun _ => e⟩
          subst e
          intro c hc
          rw [show c = 48 by simpa [dig] using hc]
          exact ⟨by decide, by decide⟩
        · rw [bt (by rw [beq_eq_false_iff_ne.2 e]; rfl)]
          exact ⟨0, rfl⟩
      · rw [bf (by
          have : ((dig s).getD 0 0).toNat ≠ 48 := fun e => h5 (UInt8.toNat_inj.1 e)
          exact beq_eq_false_iff_ne.2 (by omega)), survey_number_J1_eq]
        exact key fun h3 => h ⟨h1, h2, h3, fun e => absurd e h5⟩
    · rw [dt (by omega)]; exact ⟨0, rfl⟩
  · rw [dt (by omega)]; exact ⟨0, rfl⟩
theorem nr_end {s : List UInt8} (h2 : (dig s).length ≤ 18) (h3 : ∀ c, c ∈ dig s → dg c) : ref02_number 1267650600228229401496703205376 s = some (numV s, itoaM (numV s) == s) := by
  have hv := val18 h2 h3
  unfold ref02_number
  rw [trim_dig, bind_some', df (by omega)]
  have := (nr_loop (s := s) h2 (dig s).length 1267650600228229401496703205376 0 0 rfl (by omega) (by simp)).1 h3
  rw [List.drop_zero] at this
  refine Eq.trans this ?_
  unfold numV
  by_cases hs : s.head? = some 45
  · rw [dt (by have := (dig_lt s).2 hs; omega), if_pos hs, W_eq (by omega) (by omega), Int.zero_sub, itoa_some' _ (by omega) (by omega)]; rfl
  · rw [df (by intro e; exact hs ((dig_lt s).1 (by omega))), if_neg hs, itoa_some' _ (by omega) (by omega)]; rfl
theorem num_R {s : List UInt8} (h : okNum s) : ref02_number 1267650600228229401496703205376 s = some (numV s, true) := by
  rw [nr_end h.2.1 h.2.2.1, ← (ok_isNum h).2, beq_self_eq_true]
theorem num_Rn {s : List UInt8} (h : ¬ okNum s) : ∃ x, ref02_number 1267650600228229401496703205376 s = some (x, false) := by
  by_cases h2 : (dig s).length ≤ 18
  · by_cases h3 : ∀ c, c ∈ dig s → dg c
    · refine ⟨numV s, ?_⟩
      rw [nr_end h2 h3, beq_eq_false_iff_ne.2]
      intro e
      have hv := val18 h2 h3
      refine h (isNum_iff.1 ⟨numV s, ?_, e.symm⟩)
      unfold Sh numV
      split <;> omega
    · have h3 : ∃ c, c ∈ (dig s).drop 0 ∧ ¬ dg c := by
        rw [List.drop_zero]
        exact Classical.byContradiction fun e => h3 fun c hc => Classical.byContradiction fun e' => e ⟨c, hc, e'⟩
      unfold ref02_number
      rw [trim_dig, bind_some', df (by omega)]
      exact ⟨0, (nr_loop (s := s) h2 (dig s).length 1267650600228229401496703205376 0 0 rfl (by omega) (by simp)).2 h3⟩
  · unfold ref02_number
    rw [trim_dig, bind_some', dt (by omega)]
    exact ⟨0, rfl⟩
end Go.Proofs.YtipokcccpbcmeaaDoor
set_option linter.all false
namespace Go.Proofs.YtipokcccpbcmeaaDoor
open Go.Pv M

abbrev PL : List UInt8 := [112, 108, 97, 99, 101]
abbrev RO : List UInt8 := [114, 111, 97, 100]
abbrev CL : List UInt8 := [99, 108, 111, 115, 101]
abbrev OP : List UInt8 := [111, 112, 101, 110]
abbrev RE : List UInt8 := [114, 101, 115, 116]
abbrev LI : List UInt8 := [108, 105, 102, 116]
abbrev SU : List UInt8 := [115, 117, 114, 102, 97, 99, 101]
abbrev BE : List UInt8 := [98, 101, 108, 111, 119]
abbrev WA : List UInt8 := [119, 97, 108, 107]
abbrev MA : List UInt8 := [109, 97, 99, 104, 105, 110, 101]
abbrev SM : List UInt8 := [115, 117, 109]
theorem it2 {b : Bool} {α : Type} {x y : α} (h : b = true) : (bif b then x else y) = x := by rw [h]; rfl
/-! ### rows of numbers -/
def okAll (l : List (List UInt8)) : Prop := ∀ s, s ∈ l → okNum s
theorem okAll_cons {s : List UInt8} {l : List (List UInt8)} : okAll (s :: l) ↔ okNum s ∧ okAll l := ⟨fun h => ⟨h s (List.mem_cons_self ..), fun x hx => h x (List.mem_cons_of_mem _ hx)⟩, fun ⟨h1, h2⟩ x hx => by
  rcases List.mem_cons.1 hx with rfl | hx
  · exact h1
  · exact h2 x hx⟩
theorem nums_loop {l : List (List UInt8)} (hl : l.length ≤ 100) : ∀ (j f k : Nat) (out : List Int), j + k = l.length → j < f → out.length ≤ k → (okAll (l.drop k) → survey_numbers_L1 1267650600228229401496703205376 f l (l.length : Int) k out = some (out ++ (l.drop k).map numV, true)) ∧ (¬ okAll (l.drop k) → survey_numbers_L1 1267650600228229401496703205376 f l (l.length : Int) k out = some ([], false))
  | 0, f + 1, k, out, hk, hf, ho => by
    rw [drop_nil (by omega), survey_numbers_L1_succ, df (by omega)]
    exact ⟨fun _ => by simp, fun h => absurd (fun s hs => by cases hs) h⟩
  | j + 1, f + 1, k, out, hk, hf, ho => by
    rw [drop_cons [] (by omega : k < l.length), survey_numbers_L1_succ, dt (by omega), it (by omega), Int.toNat_natCast]
    by_cases h : okNum (l.getD k [])
    · rw [num_P h, bind_some', bnot_t rfl, fitsB_true (by omega), cond_true, W_succ (by omega)]
      have ih := nums_loop hl j f (k + 1) (out ++ [numV (l.getD k [])]) (by omega) (by omega) (by simp; omega)
      refine ⟨fun ha => ?_, fun ha => ih.2 fun h2 => ha (okAll_cons.2 ⟨h, h2⟩)⟩
      rw [ih.1 (okAll_cons.1 ha).2]; simp
    · obtain ⟨y, hy⟩ := num_Pn h
      rw [hy, bind_some', bnot_f rfl]
      exact ⟨fun ha => absurd (okAll_cons.1 ha).1 h, fun _ => rfl⟩
theorem nums_eq {l : List (List UInt8)} (hl : l.length ≤ 100) {n : Int} (hn : (l.length : Int) = n) : (okAll l → survey_numbers 1267650600228229401496703205376 l n = some (l.map numV, true)) ∧ (¬ okAll l → survey_numbers 1267650600228229401496703205376 l n = some ([], false)) := by
  have := nums_loop hl l.length 1267650600228229401496703205376 0 [] rfl (by omega) (Nat.zero_le _)
  rw [List.drop_zero] at this
  unfold survey_numbers
  rw [nf hn]
  exact ⟨fun h => (this.1 h).trans (by simp), this.2⟩
theorem nums_ne {l : List (List UInt8)} {n : Int} (hn : (l.length : Int) ≠ n) : survey_numbers 1267650600228229401496703205376 l n = some ([], false) := by
  unfold survey_numbers; rw [nt hn]
theorem rnums_loop {l : List (List UInt8)} (hl : l.length ≤ 100) : ∀ (j f k : Nat) (out : List Int), j + k = l.length → j < f → out.length ≤ k → (okAll (l.drop k) → ref02_numbers_L1 1267650600228229401496703205376 f l k out = some (out ++ (l.drop k).map numV, true)) ∧ (¬ okAll (l.drop k) → ref02_numbers_L1 1267650600228229401496703205376 f l k out = some ([], false))
  | 0, f + 1, k, out, hk, hf, ho => by
    rw [drop_nil (by omega), ref02_numbers_L1_succ, df (by omega)]
    exact ⟨fun _ => by simp, fun h => absurd (fun s hs => by cases hs) h⟩
  | j + 1, f + 1, k, out, hk, hf, ho => by
    rw [drop_cons [] (by omega : k < l.length), ref02_numbers_L1_succ, dt (by omega), it (by omega), Int.toNat_natCast]
    by_cases h : okNum (l.getD k [])
    · rw [num_R h, bind_some', bnot_t rfl, fitsB_true (by omega), cond_true, W_succ (by omega)]
      have ih := rnums_loop hl j f (k + 1) (out ++ [numV (l.getD k [])]) (by omega) (by omega) (by simp; omega)
      refine ⟨fun ha => ?_, fun ha => ih.2 fun h2 => ha (okAll_cons.2 ⟨h, h2⟩)⟩
      rw [ih.1 (okAll_cons.1 ha).2]; simp
    · obtain ⟨y, hy⟩ := num_Rn h
      rw [hy, bind_some', bnot_f rfl]
      exact ⟨fun ha => absurd (okAll_cons.1 ha).1 h, fun _ => rfl⟩
theorem rnums_eq {l : List (List UInt8)} (hl : l.length ≤ 100) : (okAll l → ref02_numbers 1267650600228229401496703205376 l = some (l.map numV, true)) ∧ (¬ okAll l → ref02_numbers 1267650600228229401496703205376 l = some ([], false)) := by
  have := rnums_loop hl l.length 1267650600228229401496703205376 0 [] rfl (by omega) (Nat.zero_le _)
  rw [List.drop_zero] at this
  unfold ref02_numbers
  exact ⟨fun h => (this.1 h).trans (by simp), this.2⟩

/-! ### edits and their words -/
def eP (h : Int) (s : Bool) : T_Edit := (1, ((h, s), ((0, (0, (0, (0, (false, (false, ((0, 0), (0, 0)))))))), (0, (0, 0)))))
def eR (f t l a : Int) (w : Bool) (r1 r2 l1 l2 : Int) : T_Edit := (2, ((0, false), ((f, (t, (l, (a, (w, (false, ((r1, r2), (l1, l2)))))))), (0, (0, 0)))))
def eN (k r : Int) (a b : Int) : T_Edit := (k, ((0, false), ((0, (0, (0, (0, (false, (false, ((0, 0), (0, 0)))))))), (r, (a, b)))))
inductive PlE : T_Edit → List (List UInt8) → Prop
  | p (a : List UInt8) (s : Bool) (h : okNum a) : PlE (eP (numV a) s) [PL, a, if s then SU else BE]
  | r (a1 a2 a3 a4 b1 b2 b3 b4 : List UInt8) (w : Bool) (h : okAll [a1, a2, a3, a4]) (h' : okAll [b1, b2, b3, b4]) : PlE (eR (numV a1) (numV a2) (numV a3) (numV a4) w (numV b1) (numV b2) (numV b3) (numV b4)) [RO, a1, a2, a3, a4, if w then WA else MA, b1, b2, b3, b4]
  | c (a : List UInt8) (h : okNum a) : PlE (eN 3 (numV a) 0 0) [CL, a]
  | o (a : List UInt8) (h : okNum a) : PlE (eN 4 (numV a) 0 0) [OP, a]
  | s (a b c : List UInt8) (h : okAll [a, b, c]) : PlE (eN 5 (numV a) (numV b) (numV c)) [RE, a, b, c]
  | l (a b c : List UInt8) (h : okAll [a, b, c]) : PlE (eN 6 (numV a) (numV b) (numV c)) [LI, a, b, c]
def rdOK (e : T_Edit) (x : List UInt8) : Prop := survey_read 1267650600228229401496703205376 x = some (e, true) ∧ ref02_edit 1267650600228229401496703205376 x = some (e, true)
def rdNo (x : List UInt8) : Prop := (∃ y, survey_read 1267650600228229401496703205376 x = some (y, false)) ∧ ∃ y, ref02_edit 1267650600228229401496703205376 x = some (y, false)
abbrev NoE : T_Edit := (0, ((0, false), ((0, (0, (0, (0, (false, (false, ((0, 0), (0, 0)))))))), (0, (0, 0)))))
section
variable {x : List UInt8}
theorem sp_place {a b : List UInt8} (h : strings_Split 1267650600228229401496703205376 x [32] = some [PL, a, b]) : survey_read 1267650600228229401496703205376 x = bif (!(b == SU)) then (bif (!(b == BE)) then some (NoE, false) else Option.bind (survey_number 1267650600228229401496703205376 a) fun r => some (eP r.1 (b == SU), r.2)) else Option.bind (survey_number 1267650600228229401496703205376 a) fun r => some (eP r.1 (b == SU), r.2) := by
  unfold survey_read; rw [h]; kernel_rfl
theorem rp_place {a b : List UInt8} (h : strings_Split 1267650600228229401496703205376 x [32] = some [PL, a, b]) : ref02_edit 1267650600228229401496703205376 x = bif (b == SU) then (Option.bind (ref02_number 1267650600228229401496703205376 a) fun r => some (eP r.1 (b == SU), r.2)) else bif (b == BE) then (Option.bind (ref02_number 1267650600228229401496703205376 a) fun r => some (eP r.1 (b == SU), r.2)) else ref02_edit_J1 1267650600228229401496703205376 [PL, a, b] 0 0 false 0 0 0 0 false false 0 0 0 0 0 0 0 := by
  unfold ref02_edit; rw [h]; kernel_rfl
/-- The reference, where no case fits. -/
theorem r_J4 {w : List (List UInt8)} (h0 : 0 < w.length) (h1 : ¬ (w.getD 0 [] = RE ∧ w.length = 4)) (h2 : ¬ (w.getD 0 [] = LI ∧ w.length = 4)) : ref02_edit_J4 1267650600228229401496703205376 w 0 0 false 0 0 0 0 false false 0 0 0 0 0 0 0 = some (NoE, false) := by
  rw [ref02_edit_J4_eq, it (by omega)]
  have e0 : w.getD (0 : Int).toNat [] = w.getD 0 [] := rfl
  rw [e0]
  by_cases g1 : w.getD 0 [] = RE
  · rw [bt (by rw [g1]; rfl), bf (beq_eq_false_iff_ne.2 (by intro e; exact h1 ⟨g1, by omega⟩))]
  · rw [bf (beq_eq_false_iff_ne.2 g1), it (by omega)]
    by_cases g2 : w.getD 0 [] = LI
    · rw [bt (by rw [g2]; rfl), bf (beq_eq_false_iff_ne.2 (by intro e; exact h2 ⟨g2, by omega⟩))]
    · rw [bf (beq_eq_false_iff_ne.2 g2)]
theorem r_J3 {w : List (List UInt8)} (h0 : 0 < w.length) (h1 : ¬ (w.getD 0 [] = CL ∧ w.length = 2)) (h2 : ¬ (w.getD 0 [] = OP ∧ w.length = 2)) : ref02_edit_J3 1267650600228229401496703205376 w 0 0 false 0 0 0 0 false false 0 0 0 0 0 0 0 = ref02_edit_J4 1267650600228229401496703205376 w 0 0 false 0 0 0 0 false false 0 0 0 0 0 0 0 := by
  rw [ref02_edit_J3_eq, it (by omega)]
  have e0 : w.getD (0 : Int).toNat [] = w.getD 0 [] := rfl
  rw [e0]
  by_cases g1 : w.getD 0 [] = CL
  · rw [bt (by rw [g1]; rfl), bf (beq_eq_false_iff_ne.2 (by intro e; exact h1 ⟨g1, by omega⟩))]
  · rw [bf (beq_eq_false_iff_ne.2 g1), it (by omega)]
    by_cases g2 : w.getD 0 [] = OP
    · rw [bt (by rw [g2]; rfl), bf (beq_eq_false_iff_ne.2 (by intro e; exact h2 ⟨g2, by omega⟩))]
    · rw [bf (beq_eq_false_iff_ne.2 g2)]
theorem r_J1 {w : List (List UInt8)} (h0 : 0 < w.length) (h1 : ¬ (w.getD 0 [] = RO ∧ w.length = 10)) : ref02_edit_J1 1267650600228229401496703205376 w 0 0 false 0 0 0 0 false false 0 0 0 0 0 0 0 = ref02_edit_J3 1267650600228229401496703205376 w 0 0 false 0 0 0 0 false false 0 0 0 0 0 0 0 := by
  rw [ref02_edit_J1_eq, it (by omega)]
  have e0 : w.getD (0 : Int).toNat [] = w.getD 0 [] := rfl
  rw [e0]
  by_cases g1 : w.getD 0 [] = RO
  · rw [bt (by rw [g1]; rfl), bf (beq_eq_false_iff_ne.2 (by intro e; exact h1 ⟨g1, by omega⟩))]
  · rw [bf (beq_eq_false_iff_ne.2 g1)]
theorem r_0 {w : List (List UInt8)} (h : strings_Split 1267650600228229401496703205376 x [32] = some w) (h0 : 0 < w.length) (h1 : ¬ (w.getD 0 [] = PL ∧ w.length = 3)) : ref02_edit 1267650600228229401496703205376 x = ref02_edit_J1 1267650600228229401496703205376 w 0 0 false 0 0 0 0 false false 0 0 0 0 0 0 0 := by
  unfold ref02_edit
  rw [h, bind_some', it (by omega)]
  have e0 : w.getD (0 : Int).toNat [] = w.getD 0 [] := rfl
  rw [e0]
  by_cases g1 : w.getD 0 [] = PL
  · rw [bt (by rw [g1]; rfl), bf (beq_eq_false_iff_ne.2 (by intro e; exact h1 ⟨g1, by omega⟩))]
  · rw [bf (beq_eq_false_iff_ne.2 g1)]
theorem sp_road {a1 a2 a3 a4 k b1 b2 b3 b4 : List UInt8} (h : strings_Split 1267650600228229401496703205376 x [32] = some [RO, a1, a2, a3, a4, k, b1, b2, b3, b4]) : survey_read 1267650600228229401496703205376 x = bif (!(k == WA)) then (bif (!(k == MA)) then some (NoE, false) else survey_read_J1 1267650600228229401496703205376 [RO, a1, a2, a3, a4, k, b1, b2, b3, b4] 0 0 false 0 0 0 0 false false 0 0 0 0 0 0 0) else survey_read_J1 1267650600228229401496703205376 [RO, a1, a2, a3, a4, k, b1, b2, b3, b4] 0 0 false 0 0 0 0 false false 0 0 0 0 0 0 0 := by
  unfold survey_read; rw [h]; kernel_rfl
theorem sJ1_yes {a1 a2 a3 a4 k b1 b2 b3 b4 : List UInt8} (h : okAll [a1, a2, a3, a4]) (h' : okAll [b1, b2, b3, b4]) : survey_read_J1 1267650600228229401496703205376 [RO, a1, a2, a3, a4, k, b1, b2, b3, b4] 0 0 false 0 0 0 0 false false 0 0 0 0 0 0 0 = some (eR (numV a1) (numV a2) (numV a3) (numV a4) (k == WA) (numV b1) (numV b2) (numV b3) (numV b4), true) := by
  rw [survey_read_J1_eq, it2 (by kernel_rfl)]
  show Option.bind (survey_numbers 1267650600228229401496703205376 [a1, a2, a3, a4] 4) _ = _
  rw [(nums_eq (n := 4) (by simp) rfl).1 h, bind_some', it2 (by kernel_rfl)]
  show Option.bind (survey_numbers 1267650600228229401496703205376 [b1, b2, b3, b4] 4) _ = _
  rw [(nums_eq (n := 4) (by simp) rfl).1 h', bind_some']
  kernel_rfl
theorem sJ1_no {a1 a2 a3 a4 k b1 b2 b3 b4 : List UInt8} (h : ¬ (okAll [a1, a2, a3, a4] ∧ okAll [b1, b2, b3, b4])) : survey_read_J1 1267650600228229401496703205376 [RO, a1, a2, a3, a4, k, b1, b2, b3, b4] 0 0 false 0 0 0 0 false false 0 0 0 0 0 0 0 = some (NoE, false) := by
  rw [survey_read_J1_eq, it2 (by kernel_rfl)]
  show Option.bind (survey_numbers 1267650600228229401496703205376 [a1, a2, a3, a4] 4) _ = _
  by_cases g1 : okAll [a1, a2, a3, a4]
  · rw [(nums_eq (n := 4) (by simp) rfl).1 g1, bind_some', it2 (by kernel_rfl)]
    show Option.bind (survey_numbers 1267650600228229401496703205376 [b1, b2, b3, b4] 4) _ = _
    rw [(nums_eq (n := 4) (by simp) rfl).2 fun g2 => h ⟨g1, g2⟩, bind_some']
    rfl
  · rw [(nums_eq (n := 4) (by simp) rfl).2 g1, bind_some', it2 (by kernel_rfl)]
    show Option.bind (survey_numbers 1267650600228229401496703205376 [b1, b2, b3, b4] 4) _ = _
    by_cases g2 : okAll [b1, b2, b3, b4]
    · rw [(nums_eq (n := 4) (by simp) rfl).1 g2, bind_some']; rfl
    · rw [(nums_eq (n := 4) (by simp) rfl).2 g2, bind_some']; rfl
theorem rJ2_yes {a1 a2 a3 a4 k b1 b2 b3 b4 : List UInt8} (h : okAll [a1, a2, a3, a4]) (h' : okAll [b1, b2, b3, b4]) : ref02_edit_J2 1267650600228229401496703205376 [RO, a1, a2, a3, a4, k, b1, b2, b3, b4] 0 0 false 0 0 0 0 false false 0 0 0 0 0 0 0 = some (eR (numV a1) (numV a2) (numV a3) (numV a4) (k == WA) (numV b1) (numV b2) (numV b3) (numV b4), true) := by
  rw [ref02_edit_J2_eq, it2 (by kernel_rfl)]
  show Option.bind (ref02_numbers 1267650600228229401496703205376 [a1, a2, a3, a4]) _ = _
  rw [(rnums_eq (by simp)).1 h, bind_some', it2 (by kernel_rfl)]
  show Option.bind (ref02_numbers 1267650600228229401496703205376 [b1, b2, b3, b4]) _ = _
  rw [(rnums_eq (by simp)).1 h', bind_some']
  kernel_rfl
theorem rJ2_no {a1 a2 a3 a4 k b1 b2 b3 b4 : List UInt8} (h : ¬ (okAll [a1, a2, a3, a4] ∧ okAll [b1, b2, b3, b4])) : ref02_edit_J2 1267650600228229401496703205376 [RO, a1, a2, a3, a4, k, b1, b2, b3, b4] 0 0 false 0 0 0 0 false false 0 0 0 0 0 0 0 = some (NoE, false) := by
  rw [ref02_edit_J2_eq, it2 (by kernel_rfl)]
  show Option.bind (ref02_numbers 1267650600228229401496703205376 [a1, a2, a3, a4]) _ = _
  by_cases g1 : okAll [a1, a2, a3, a4]
  · rw [(rnums_eq (by simp)).1 g1, bind_some', it2 (by kernel_rfl)]
    show Option.bind (ref02_numbers 1267650600228229401496703205376 [b1, b2, b3, b4]) _ = _
    rw [(rnums_eq (by simp)).2 fun g2 => h ⟨g1, g2⟩, bind_some']
    rfl
  · rw [(rnums_eq (by simp)).2 g1, bind_some', it2 (by kernel_rfl)]
    show Option.bind (ref02_numbers 1267650600228229401496703205376 [b1, b2, b3, b4]) _ = _
    by_cases g2 : okAll [b1, b2, b3, b4]
    · rw [(rnums_eq (by simp)).1 g2, bind_some']; rfl
    · rw [(rnums_eq (by simp)).2 g2, bind_some']; rfl
theorem rp_road {a1 a2 a3 a4 k b1 b2 b3 b4 : List UInt8} : ref02_edit_J1 1267650600228229401496703205376 [RO, a1, a2, a3, a4, k, b1, b2, b3, b4] 0 0 false 0 0 0 0 false false 0 0 0 0 0 0 0 = bif (k == WA) then ref02_edit_J2 1267650600228229401496703205376 [RO, a1, a2, a3, a4, k, b1, b2, b3, b4] 0 0 false 0 0 0 0 false false 0 0 0 0 0 0 0 else bif (k == MA) then ref02_edit_J2 1267650600228229401496703205376 [RO, a1, a2, a3, a4, k, b1, b2, b3, b4] 0 0 false 0 0 0 0 false false 0 0 0 0 0 0 0 else ref02_edit_J3 1267650600228229401496703205376 [RO, a1, a2, a3, a4, k, b1, b2, b3, b4] 0 0 false 0 0 0 0 false false 0 0 0 0 0 0 0 := by
  rw [ref02_edit_J1_eq]; kernel_rfl
/-! the shorter lines -/
theorem s_0 {w : List (List UInt8)} (h : strings_Split 1267650600228229401496703205376 x [32] = some w) (h0 : 0 < w.length) (h1 : w.getD 0 [] = PL → w.length ≠ 3) (h2 : w.getD 0 [] = RO → w.length ≠ 10) :
    survey_read 1267650600228229401496703205376 x = if w.getD 0 [] = PL ∨ w.getD 0 [] = RO then some (NoE, false) else survey_read_J2 1267650600228229401496703205376 w (w.getD 0 []) (decide (w.getD 0 [] = CL ∨ w.getD 0 [] = OP)) 0 0 false 0 0 0 0 false false 0 0 0 0 0 0 0 := by
  unfold survey_read
  rw [h, bind_some', it (by omega)]
  have e0 : w.getD (0 : Int).toNat [] = w.getD 0 [] := rfl
  simp only []
  rw [e0]
  by_cases g1 : w.getD 0 [] = PL
  · rw [bt (by rw [g1]; rfl), nt (by have := h1 g1; omega), if_pos (.inl g1)]
  · rw [bf (beq_eq_false_iff_ne.2 g1)]
    by_cases g2 : w.getD 0 [] = RO
    · rw [bt (by rw [g2]; rfl), nt (by have := h2 g2; omega), if_pos (.inr g2)]
    · rw [bf (beq_eq_false_iff_ne.2 g2), if_neg (fun h => h.elim g1 g2)]
      by_cases g3 : w.getD 0 [] = CL
      · rw [bt (by rw [g3]; rfl), decide_eq_true (.inl g3)]
      · rw [bf (beq_eq_false_iff_ne.2 g3)]
        by_cases g4 : w.getD 0 [] = OP
        · rw [decide_eq_true (.inr g4), g4]; rfl
        · rw [decide_eq_false (fun h => h.elim g3 g4), beq_eq_false_iff_ne.2 g4]
theorem s_1 {w : List (List UInt8)} {w0 : List UInt8} (h0 : 0 < w.length) (hl : w.length ≤ 10000000) (hn : ((w.drop 1).length : Int) ≠ 1) : survey_read_J2 1267650600228229401496703205376 w w0 true 0 0 false 0 0 0 0 false false 0 0 0 0 0 0 0 = some (NoE, false) := by
  rw [survey_read_J2_eq, cond_true, slB_true (by omega), cond_true]
  show Option.bind (survey_numbers 1267650600228229401496703205376 (w.drop 1) 1) _ = _
  rw [nums_ne hn, bind_some']; rfl
theorem s_3 {w : List (List UInt8)} {w0 : List UInt8} (h0 : 0 < w.length) (hl : w.length ≤ 10000000) (hn : ((w.drop 1).length : Int) ≠ 3 ∨ (w0 ≠ RE ∧ w0 ≠ LI)) : survey_read_J2 1267650600228229401496703205376 w w0 false 0 0 false 0 0 0 0 false false 0 0 0 0 0 0 0 = some (NoE, false) := by
  rw [survey_read_J2_eq, cond_false]
  by_cases g1 : w0 = RE
  · rw [bt (by rw [g1]; rfl), slB_true (by omega), cond_true]
    show Option.bind (survey_numbers 1267650600228229401496703205376 (w.drop 1) 3) _ = _
    rw [nums_ne (hn.resolve_right fun h => h.1 g1), bind_some']; rfl
  · rw [bf (beq_eq_false_iff_ne.2 g1)]
    by_cases g2 : w0 = LI
    · rw [bt (by rw [g2]; rfl), slB_true (by omega), cond_true]
      show Option.bind (survey_numbers 1267650600228229401496703205376 (w.drop 1) 3) _ = _
      rw [nums_ne (hn.resolve_right fun h => h.2 g2), bind_some']; rfl
    · rw [bf (beq_eq_false_iff_ne.2 g2)]
theorem three {w : List (List UInt8)} {n : Nat} (h0 : 0 < w.length) (h : w.length = n + 1) : ∃ t, w = w.getD 0 [] :: t ∧ t.length = n := by
  cases w with
  | nil => simp at h0
  | cons a t => exact ⟨t, rfl, by simpa using h⟩
theorem l1 {t : List (List UInt8)} (h : t.length = 1) : ∃ a, t = [a] := by
  match t, h with
  | [a], _ => exact ⟨a, rfl⟩
theorem l2 {t : List (List UInt8)} (h : t.length = 2) : ∃ a b, t = [a, b] := by
  match t, h with
  | [a, b], _ => exact ⟨a, b, rfl⟩
theorem l3 {t : List (List UInt8)} (h : t.length = 3) : ∃ a b c, t = [a, b, c] := by
  match t, h with
  | [a, b, c], _ => exact ⟨a, b, c, rfl⟩
theorem l9 {t : List (List UInt8)} (h : t.length = 9) : ∃ a1 a2 a3 a4 k b1 b2 b3 b4, t = [a1, a2, a3, a4, k, b1, b2, b3, b4] := by
  match t, h with
  | [a1, a2, a3, a4, k, b1, b2, b3, b4], _ => exact ⟨a1, a2, a3, a4, k, b1, b2, b3, b4, rfl⟩
def Cls (x : List UInt8) (w : List (List UInt8)) : Prop := (∃ e, PlE e w ∧ rdOK e x) ∨ ((∀ e, ¬ PlE e w) ∧ rdNo x)
theorem cls_place {a b : List UInt8} (h : strings_Split 1267650600228229401496703205376 x [32] = some [PL, a, b]) : Cls x [PL, a, b] := by
  have hs := sp_place h
  have hr := rp_place h
  have nb : ∀ s : Bool, (if s then SU else BE) ≠ b → b ≠ SU ∧ b ≠ BE → True := fun _ _ _ => trivial
  by_cases g1 : b = SU ∨ b = BE
  · have e1 : survey_read 1267650600228229401496703205376 x = Option.bind (survey_number 1267650600228229401496703205376 a) fun r => some (eP r.1 (b == SU), r.2) := by
      rw [hs]; rcases g1 with rfl | rfl
      · rw [bnot_t (show (SU == SU) = true from rfl)]
      · rw [bnot_f (show (BE == SU) = false from rfl), bnot_t (show (BE == BE) = true from rfl)]
    have e2 : ref02_edit 1267650600228229401496703205376 x = Option.bind (ref02_number 1267650600228229401496703205376 a) fun r => some (eP r.1 (b == SU), r.2) := by
      rw [hr]; rcases g1 with rfl | rfl
      · rw [bt (show (SU == SU) = true from rfl)]
      · rw [bf (show (BE == SU) = false from rfl), bt (show (BE == BE) = true from rfl)]
    have eb : b = if (b == SU) then SU else BE := by rcases g1 with rfl | rfl <;> rfl
    by_cases g2 : okNum a
    · rw [num_P g2] at e1
      rw [num_R g2] at e2
      refine .inl ⟨eP (numV a) (b == SU), ?_, e1, e2⟩
      have := PlE.p a (b == SU) g2
      rw [← eb] at this
      exact this
    · obtain ⟨y, hy⟩ := num_Pn g2
      obtain ⟨z, hz⟩ := num_Rn g2
      rw [hy] at e1
      rw [hz] at e2
      refine .inr ⟨fun e he => ?_, ⟨_, e1⟩, ⟨_, e2⟩⟩
      generalize hw : [PL, a, b] = w at he
      cases he <;> injection hw with w0 w1 <;> first
        | (injection w1 with w1 w2; subst w1; contradiction)
        | exact absurd w0 (by decide)
  · have q1 : b ≠ SU := fun e => g1 (.inl e)
    have q2 : b ≠ BE := fun e => g1 (.inr e)
    refine .inr ⟨fun e he => ?_, ⟨NoE, ?_⟩, ⟨NoE, ?_⟩⟩
    · generalize hw : [PL, a, b] = w at he
      cases he with
      | p a' s h' =>
        injection hw with w0 w1; injection w1 with w1 w2; injection w2 with w2 w3
        cases s
        · exact q2 w2
        · exact q1 w2
      | _ => injection hw with w0 w1; exact absurd w0 (by decide)
    · rw [hs, bnot_f (beq_eq_false_iff_ne.2 q1), bnot_f (beq_eq_false_iff_ne.2 q2)]
    · rw [hr, bf (beq_eq_false_iff_ne.2 q1), bf (beq_eq_false_iff_ne.2 q2), r_J1 (by simp) (by rintro ⟨e, _⟩; exact absurd (show PL = RO from e) (by decide)), r_J3 (by simp) (by rintro ⟨e, _⟩; exact absurd (show PL = CL from e) (by decide)) (by rintro ⟨e, _⟩; exact absurd (show PL = OP from e) (by decide)), r_J4 (by simp) (by rintro ⟨e, _⟩; exact absurd (show PL = RE from e) (by decide)) (by rintro ⟨e, _⟩; exact absurd (show PL = LI from e) (by decide))]
theorem cls_road {a1 a2 a3 a4 k b1 b2 b3 b4 : List UInt8} (h : strings_Split 1267650600228229401496703205376 x [32] = some [RO, a1, a2, a3, a4, k, b1, b2, b3, b4]) : Cls x [RO, a1, a2, a3, a4, k, b1, b2, b3, b4] := by
  have hs := sp_road h
  have hr := (r_0 h (by simp) (by rintro ⟨e, _⟩; exact absurd (show RO = PL from e) (by decide))).trans rp_road
  by_cases g1 : k = WA ∨ k = MA
  · have e1 : survey_read 1267650600228229401496703205376 x = survey_read_J1 1267650600228229401496703205376 [RO, a1, a2, a3, a4, k, b1, b2, b3, b4] 0 0 false 0 0 0 0 false false 0 0 0 0 0 0 0 := by
      rw [hs]; rcases g1 with rfl | rfl
      · rw [bnot_t (show (WA == WA) = true from rfl)]
      · rw [bnot_f (show (MA == WA) = false from rfl), bnot_t (show (MA == MA) = true from rfl)]
    have e2 : ref02_edit 1267650600228229401496703205376 x = ref02_edit_J2 1267650600228229401496703205376 [RO, a1, a2, a3, a4, k, b1, b2, b3, b4] 0 0 false 0 0 0 0 false false 0 0 0 0 0 0 0 := by
      rw [hr]; rcases g1 with rfl | rfl
      · rw [bt (show (WA == WA) = true from rfl)]
      · rw [bf (show (MA == WA) = false from rfl), bt (show (MA == MA) = true from rfl)]
    have eb : k = if (k == WA) then WA else MA := by rcases g1 with rfl | rfl <;> rfl
    by_cases g2 : okAll [a1, a2, a3, a4] ∧ okAll [b1, b2, b3, b4]
    · rw [sJ1_yes g2.1 g2.2] at e1
      rw [rJ2_yes g2.1 g2.2] at e2
      refine .inl ⟨_, ?_, e1, e2⟩
      have := PlE.r a1 a2 a3 a4 b1 b2 b3 b4 (k == WA) g2.1 g2.2
      rw [← eb] at this
      exact this
    · rw [sJ1_no g2] at e1
      rw [rJ2_no g2] at e2
      refine .inr ⟨fun e he => ?_, ⟨_, e1⟩, ⟨_, e2⟩⟩
      generalize hw : [RO, a1, a2, a3, a4, k, b1, b2, b3, b4] = w at he
      cases he with
      | r c1 c2 c3 c4 d1 d2 d3 d4 w p q =>
        simp only [List.cons.injEq] at hw
        obtain ⟨_, rfl, rfl, rfl, rfl, _, rfl, rfl, rfl, rfl, _⟩ := hw
        exact g2 ⟨p, q⟩
      | _ => injection hw with w0 w1; exact absurd w0 (by decide)
  · have q1 : k ≠ WA := fun e => g1 (.inl e)
    have q2 : k ≠ MA := fun e => g1 (.inr e)
    refine .inr ⟨fun e he => ?_, ⟨NoE, ?_⟩, ⟨NoE, ?_⟩⟩
    · generalize hw : [RO, a1, a2, a3, a4, k, b1, b2, b3, b4] = w at he
      cases he with
      | r c1 c2 c3 c4 d1 d2 d3 d4 w p q =>
        simp only [List.cons.injEq] at hw
        obtain ⟨_, _, _, _, _, e, _⟩ := hw
        cases w
        · exact q2 e
        · exact q1 e
      | _ => injection hw with w0 w1; exact absurd w0 (by decide)
    · rw [hs, bnot_f (beq_eq_false_iff_ne.2 q1), bnot_f (beq_eq_false_iff_ne.2 q2)]
    · rw [hr, bf (beq_eq_false_iff_ne.2 q1), bf (beq_eq_false_iff_ne.2 q2), r_J3 (by simp) (by rintro ⟨e, _⟩; exact absurd (show RO = CL from e) (by decide)) (by rintro ⟨e, _⟩; exact absurd (show RO = OP from e) (by decide)), r_J4 (by simp) (by rintro ⟨e, _⟩; exact absurd (show RO = RE from e) (by decide)) (by rintro ⟨e, _⟩; exact absurd (show RO = LI from e) (by decide))]

theorem rJ3_CL (a : List UInt8) : ref02_edit_J3 1267650600228229401496703205376 [CL, a] 0 0 false 0 0 0 0 false false 0 0 0 0 0 0 0 = Option.bind (ref02_number 1267650600228229401496703205376 a) fun r => some (eN 3 r.1 0 0, r.2) := by
  rw [ref02_edit_J3_eq]; kernel_rfl
theorem sJ2_CL (a : List UInt8) : survey_read_J2 1267650600228229401496703205376 [CL, a] CL true 0 0 false 0 0 0 0 false false 0 0 0 0 0 0 0 = Option.bind (survey_numbers 1267650600228229401496703205376 [a] 1) fun r => bif (!r.2) then some (NoE, false) else bif inB 0 r.1.length then some (eN 3 (r.1.getD 0 0) 0 0, true) else none := by
  rw [survey_read_J2_eq]; kernel_rfl
theorem cls_CL {a : List UInt8} (h : strings_Split 1267650600228229401496703205376 x [32] = some [CL, a]) : Cls x [CL, a] := by
  have hs := s_0 h (by simp) (fun e => absurd (show CL = PL from e) (by decide)) (fun e => absurd (show CL = RO from e) (by decide))
  rw [show ([CL, a] : List (List UInt8)).getD 0 [] = CL from rfl, if_neg (show ¬ (CL = PL ∨ CL = RO) by decide), show decide (CL = CL ∨ CL = OP) = true by decide] at hs
  have hs : survey_read 1267650600228229401496703205376 x = survey_read_J2 1267650600228229401496703205376 [CL, a] CL true 0 0 false 0 0 0 0 false false 0 0 0 0 0 0 0 := hs
  have hr := (r_0 h (by simp) (by rintro ⟨e, _⟩; exact absurd (show CL = PL from e) (by decide))).trans ((r_J1 (by simp) (by rintro ⟨e, _⟩; exact absurd (show CL = RO from e) (by decide))).trans (rJ3_CL a))
  rw [sJ2_CL] at hs
  by_cases g : okNum a
  · rw [(nums_eq (n := 1) (l := [a]) (by simp) rfl).1 (okAll_cons.2 ⟨g, fun s hs => by cases hs⟩), bind_some'] at hs
    rw [num_R g, bind_some'] at hr
    exact .inl ⟨_, .c a g, hs, hr⟩
  · rw [(nums_eq (n := 1) (l := [a]) (by simp) rfl).2 (fun h => g (okAll_cons.1 h).1), bind_some'] at hs
    obtain ⟨z, hz⟩ := num_Rn g
    rw [hz, bind_some'] at hr
    refine .inr ⟨fun e he => ?_, ⟨_, hs⟩, ⟨_, hr⟩⟩
    generalize hw : [CL, a] = w at he
    cases he <;> injection hw with w0 w1 <;> first
      | (injection w1 with w1 w2; subst w1; contradiction)
      | exact absurd w0 (by decide)

theorem rJ3_OP (a : List UInt8) : ref02_edit_J3 1267650600228229401496703205376 [OP, a] 0 0 false 0 0 0 0 false false 0 0 0 0 0 0 0 = Option.bind (ref02_number 1267650600228229401496703205376 a) fun r => some (eN 4 r.1 0 0, r.2) := by
  rw [ref02_edit_J3_eq]; kernel_rfl
theorem sJ2_OP (a : List UInt8) : survey_read_J2 1267650600228229401496703205376 [OP, a] OP true 0 0 false 0 0 0 0 false false 0 0 0 0 0 0 0 = Option.bind (survey_numbers 1267650600228229401496703205376 [a] 1) fun r => bif (!r.2) then some (NoE, false) else bif inB 0 r.1.length then some (eN 4 (r.1.getD 0 0) 0 0, true) else none := by
  rw [survey_read_J2_eq]; kernel_rfl
theorem cls_OP {a : List UInt8} (h : strings_Split 1267650600228229401496703205376 x [32] = some [OP, a]) : Cls x [OP, a] := by
  have hs := s_0 h (by simp) (fun e => absurd (show OP = PL from e) (by decide)) (fun e => absurd (show OP = RO from e) (by decide))
  rw [show ([OP, a] : List (List UInt8)).getD 0 [] = OP from rfl, if_neg (show ¬ (OP = PL ∨ OP = RO) by decide), show decide (OP = CL ∨ OP = OP) = true by decide] at hs
  have hs : survey_read 1267650600228229401496703205376 x = survey_read_J2 1267650600228229401496703205376 [OP, a] OP true 0 0 false 0 0 0 0 false false 0 0 0 0 0 0 0 := hs
  have hr := (r_0 h (by simp) (by rintro ⟨e, _⟩; exact absurd (show OP = PL from e) (by decide))).trans ((r_J1 (by simp) (by rintro ⟨e, _⟩; exact absurd (show OP = RO from e) (by decide))).trans (rJ3_OP a))
  rw [sJ2_OP] at hs
  by_cases g : okNum a
  · rw [(nums_eq (n := 1) (l := [a]) (by simp) rfl).1 (okAll_cons.2 ⟨g, fun s hs => by cases hs⟩), bind_some'] at hs
    rw [num_R g, bind_some'] at hr
    exact .inl ⟨_, .o a g, hs, hr⟩
  · rw [(nums_eq (n := 1) (l := [a]) (by simp) rfl).2 (fun h => g (okAll_cons.1 h).1), bind_some'] at hs
    obtain ⟨z, hz⟩ := num_Rn g
    rw [hz, bind_some'] at hr
    refine .inr ⟨fun e he => ?_, ⟨_, hs⟩, ⟨_, hr⟩⟩
    generalize hw : [OP, a] = w at he
    cases he <;> injection hw with w0 w1 <;> first
      | (injection w1 with w1 w2; subst w1; contradiction)
      | exact absurd w0 (by decide)

theorem rJ4_RE (a b c : List UInt8) : ref02_edit_J4 1267650600228229401496703205376 [RE, a, b, c] 0 0 false 0 0 0 0 false false 0 0 0 0 0 0 0 = ref02_edit_J5 1267650600228229401496703205376 [RE, a, b, c] 0 0 false 0 0 0 0 false false 0 0 0 0 0 0 0 := by
  rw [ref02_edit_J4_eq]; kernel_rfl
theorem rJ5_RE (a b c : List UInt8) : ref02_edit_J5 1267650600228229401496703205376 [RE, a, b, c] 0 0 false 0 0 0 0 false false 0 0 0 0 0 0 0 = Option.bind (ref02_numbers 1267650600228229401496703205376 [a, b, c]) fun r => bif (!r.2) then some (NoE, false) else bif inB 0 r.1.length then bif inB 1 r.1.length then bif inB 2 r.1.length then some (eN 5 (r.1.getD 0 0) (r.1.getD 1 0) (r.1.getD 2 0), true) else none else none else none := by
  rw [ref02_edit_J5_eq]; kernel_rfl
theorem sJ2_RE (a b c : List UInt8) : survey_read_J2 1267650600228229401496703205376 [RE, a, b, c] RE false 0 0 false 0 0 0 0 false false 0 0 0 0 0 0 0 = Option.bind (survey_numbers 1267650600228229401496703205376 [a, b, c] 3) fun r => bif (!r.2) then some (NoE, false) else bif inB 0 r.1.length then bif inB 1 r.1.length then bif inB 2 r.1.length then some (eN 5 (r.1.getD 0 0) (r.1.getD 1 0) (r.1.getD 2 0), true) else none else none else none := by
  rw [survey_read_J2_eq]; kernel_rfl
theorem cls_RE {a b c : List UInt8} (h : strings_Split 1267650600228229401496703205376 x [32] = some [RE, a, b, c]) : Cls x [RE, a, b, c] := by
  have hs := s_0 h (by simp) (fun e => absurd (show RE = PL from e) (by decide)) (fun e => absurd (show RE = RO from e) (by decide))
  rw [show ([RE, a, b, c] : List (List UInt8)).getD 0 [] = RE from rfl, if_neg (show ¬ (RE = PL ∨ RE = RO) by decide), show decide (RE = CL ∨ RE = OP) = false by decide] at hs
  have hs : survey_read 1267650600228229401496703205376 x = survey_read_J2 1267650600228229401496703205376 [RE, a, b, c] RE false 0 0 false 0 0 0 0 false false 0 0 0 0 0 0 0 := hs
  have hr := (r_0 h (by simp) (by rintro ⟨e, _⟩; exact absurd (show RE = PL from e) (by decide))).trans ((r_J1 (by simp) (by rintro ⟨e, _⟩; exact absurd (show RE = RO from e) (by decide))).trans ((r_J3 (by simp) (by rintro ⟨e, _⟩; exact absurd (show RE = CL from e) (by decide)) (by rintro ⟨e, _⟩; exact absurd (show RE = OP from e) (by decide))).trans ((rJ4_RE a b c).trans (rJ5_RE a b c))))
  rw [sJ2_RE] at hs
  by_cases g : okAll [a, b, c]
  · rw [(nums_eq (n := 3) (l := [a, b, c]) (by simp) rfl).1 g, bind_some'] at hs
    rw [(rnums_eq (l := [a, b, c]) (by simp)).1 g, bind_some'] at hr
    exact .inl ⟨_, .s a b c g, hs, hr⟩
  · rw [(nums_eq (n := 3) (l := [a, b, c]) (by simp) rfl).2 g, bind_some'] at hs
    rw [(rnums_eq (l := [a, b, c]) (by simp)).2 g, bind_some'] at hr
    refine .inr ⟨fun e he => ?_, ⟨_, hs⟩, ⟨_, hr⟩⟩
    generalize hw : [RE, a, b, c] = w at he
    cases he <;> injection hw with w0 w1 <;> first
      | (injection w1 with w1 w2; injection w2 with w2 w3; injection w3 with w3 w4; subst w1; subst w2; subst w3; contradiction)
      | exact absurd w0 (by decide)

theorem rJ4_LI (a b c : List UInt8) : ref02_edit_J4 1267650600228229401496703205376 [LI, a, b, c] 0 0 false 0 0 0 0 false false 0 0 0 0 0 0 0 = ref02_edit_J5 1267650600228229401496703205376 [LI, a, b, c] 0 0 false 0 0 0 0 false false 0 0 0 0 0 0 0 := by
  rw [ref02_edit_J4_eq]; kernel_rfl
theorem rJ5_LI (a b c : List UInt8) : ref02_edit_J5 1267650600228229401496703205376 [LI, a, b, c] 0 0 false 0 0 0 0 false false 0 0 0 0 0 0 0 = Option.bind (ref02_numbers 1267650600228229401496703205376 [a, b, c]) fun r => bif (!r.2) then some (NoE, false) else bif inB 0 r.1.length then bif inB 1 r.1.length then bif inB 2 r.1.length then some (eN 6 (r.1.getD 0 0) (r.1.getD 1 0) (r.1.getD 2 0), true) else none else none else none := by
  rw [ref02_edit_J5_eq]; kernel_rfl
theorem sJ2_LI (a b c : List UInt8) : survey_read_J2 1267650600228229401496703205376 [LI, a, b, c] LI false 0 0 false 0 0 0 0 false false 0 0 0 0 0 0 0 = Option.bind (survey_numbers 1267650600228229401496703205376 [a, b, c] 3) fun r => bif (!r.2) then some (NoE, false) else bif inB 0 r.1.length then bif inB 1 r.1.length then bif inB 2 r.1.length then some (eN 6 (r.1.getD 0 0) (r.1.getD 1 0) (r.1.getD 2 0), true) else none else none else none := by
  rw [survey_read_J2_eq]; kernel_rfl
theorem cls_LI {a b c : List UInt8} (h : strings_Split 1267650600228229401496703205376 x [32] = some [LI, a, b, c]) : Cls x [LI, a, b, c] := by
  have hs := s_0 h (by simp) (fun e => absurd (show LI = PL from e) (by decide)) (fun e => absurd (show LI = RO from e) (by decide))
  rw [show ([LI, a, b, c] : List (List UInt8)).getD 0 [] = LI from rfl, if_neg (show ¬ (LI = PL ∨ LI = RO) by decide), show decide (LI = CL ∨ LI = OP) = false by decide] at hs
  have hs : survey_read 1267650600228229401496703205376 x = survey_read_J2 1267650600228229401496703205376 [LI, a, b, c] LI false 0 0 false 0 0 0 0 false false 0 0 0 0 0 0 0 := hs
  have hr := (r_0 h (by simp) (by rintro ⟨e, _⟩; exact absurd (show LI = PL from e) (by decide))).trans ((r_J1 (by simp) (by rintro ⟨e, _⟩; exact absurd (show LI = RO from e) (by decide))).trans ((r_J3 (by simp) (by rintro ⟨e, _⟩; exact absurd (show LI = CL from e) (by decide)) (by rintro ⟨e, _⟩; exact absurd (show LI = OP from e) (by decide))).trans ((rJ4_LI a b c).trans (rJ5_LI a b c))))
  rw [sJ2_LI] at hs
  by_cases g : okAll [a, b, c]
  · rw [(nums_eq (n := 3) (l := [a, b, c]) (by simp) rfl).1 g, bind_some'] at hs
    rw [(rnums_eq (l := [a, b, c]) (by simp)).1 g, bind_some'] at hr
    exact .inl ⟨_, .l a b c g, hs, hr⟩
  · rw [(nums_eq (n := 3) (l := [a, b, c]) (by simp) rfl).2 g, bind_some'] at hs
    rw [(rnums_eq (l := [a, b, c]) (by simp)).2 g, bind_some'] at hr
    refine .inr ⟨fun e he => ?_, ⟨_, hs⟩, ⟨_, hr⟩⟩
    generalize hw : [LI, a, b, c] = w at he
    cases he <;> injection hw with w0 w1 <;> first
      | (injection w1 with w1 w2; injection w2 with w2 w3; injection w3 with w3 w4; subst w1; subst w2; subst w3; contradiction)
      | exact absurd w0 (by decide)

theorem PlE.shape {e : T_Edit} {w : List (List UInt8)} (h : PlE e w) : (w.getD 0 [] = PL ∧ w.length = 3) ∨ (w.getD 0 [] = RO ∧ w.length = 10) ∨ (w.getD 0 [] = CL ∧ w.length = 2) ∨ (w.getD 0 [] = OP ∧ w.length = 2) ∨ (w.getD 0 [] = RE ∧ w.length = 4) ∨ (w.getD 0 [] = LI ∧ w.length = 4) := by
  cases h <;> simp
theorem cls_of {w : List (List UInt8)} (h : strings_Split 1267650600228229401496703205376 x [32] = some w) (h0 : 0 < w.length) (hl : w.length ≤ 10000000) : Cls x w := by
  by_cases p1 : w.getD 0 [] = PL ∧ w.length = 3
  · obtain ⟨t, e, ht⟩ := three h0 p1.2
    obtain ⟨a, b, rfl⟩ := l2 ht
    rw [p1.1] at e
    rw [e] at h ⊢; exact cls_place h
  by_cases p2 : w.getD 0 [] = RO ∧ w.length = 10
  · obtain ⟨t, e, ht⟩ := three h0 p2.2
    obtain ⟨a1, a2, a3, a4, k, b1, b2, b3, b4, rfl⟩ := l9 ht
    rw [p2.1] at e
    rw [e] at h ⊢; exact cls_road h
  by_cases p3 : w.getD 0 [] = CL ∧ w.length = 2
  · obtain ⟨t, e, ht⟩ := three h0 p3.2
    obtain ⟨a, rfl⟩ := l1 ht
    rw [p3.1] at e
    rw [e] at h ⊢; exact cls_CL h
  by_cases p4 : w.getD 0 [] = OP ∧ w.length = 2
  · obtain ⟨t, e, ht⟩ := three h0 p4.2
    obtain ⟨a, rfl⟩ := l1 ht
    rw [p4.1] at e
    rw [e] at h ⊢; exact cls_OP h
  by_cases p5 : w.getD 0 [] = RE ∧ w.length = 4
  · obtain ⟨t, e, ht⟩ := three h0 p5.2
    obtain ⟨a, b, c, rfl⟩ := l3 ht
    rw [p5.1] at e
    rw [e] at h ⊢; exact cls_RE h
  by_cases p6 : w.getD 0 [] = LI ∧ w.length = 4
  · obtain ⟨t, e, ht⟩ := three h0 p6.2
    obtain ⟨a, b, c, rfl⟩ := l3 ht
    rw [p6.1] at e
    rw [e] at h ⊢; exact cls_LI h
  refine .inr ⟨fun e he => ?_, ⟨NoE, ?_⟩, ⟨NoE, ?_⟩⟩
  · rcases he.shape with q | q | q | q | q | q
    · exact p1 q
    · exact p2 q
    · exact p3 q
    · exact p4 q
    · exact p5 q
    · exact p6 q
  · rw [s_0 h h0 (fun e1 e2 => p1 ⟨e1, e2⟩) (fun e1 e2 => p2 ⟨e1, e2⟩)]
    by_cases q : w.getD 0 [] = PL ∨ w.getD 0 [] = RO
    · rw [if_pos q]
    · rw [if_neg q]
      by_cases q2 : w.getD 0 [] = CL ∨ w.getD 0 [] = OP
      · rw [decide_eq_true q2]
        refine s_1 h0 hl ?_
        rw [List.length_drop]
        rcases q2 with q2 | q2
        · have : w.length ≠ 2 := fun e => p3 ⟨q2, e⟩; omega
        · have : w.length ≠ 2 := fun e => p4 ⟨q2, e⟩; omega
      · rw [decide_eq_false q2]
        refine s_3 h0 hl ?_
        rw [List.length_drop]
        by_cases q3 : w.getD 0 [] = RE
        · have : w.length ≠ 4 := fun e => p5 ⟨q3, e⟩; left; omega
        · by_cases q4 : w.getD 0 [] = LI
          · have : w.length ≠ 4 := fun e => p6 ⟨q4, e⟩; left; omega
          · exact .inr ⟨q3, q4⟩
  · rw [r_0 h h0 p1, r_J1 h0 p2, r_J3 h0 p3 p4, r_J4 h0 p5 p6]
end
end Go.Proofs.YtipokcccpbcmeaaDoor
set_option linter.all false
namespace Go.Proofs.YtipokcccpbcmeaaDoor
open Go.Pv M

/-! ### words put together and parted -/
def jn : List (List UInt8) → List UInt8
  | [] => []
  | [a] => a
  | a :: b :: t => a ++ 32 :: jn (b :: t)
theorem spl_pos (c : UInt8) : ∀ s, 0 < (spl c s).length
  | [] => by simp [spl]
  | b :: l => by
    have := spl_pos c l
    rw [spl]
    cases b == c with
    | true => simp
    | false =>
      cases h : spl c l with
      | nil => simp
      | cons x t => simp
theorem spl_len (c : UInt8) : ∀ s, (spl c s).length ≤ s.length + 1
  | [] => by simp [spl]
  | b :: l => by
    have h1 := spl_len c l
    have h2 := spl_pos c l
    rw [spl]
    cases b == c with
    | true => simp; omega
    | false =>
      cases h : spl c l with
      | nil => simp
      | cons x t => rw [h] at h1; simp at h1 ⊢; omega
theorem jn_spl : ∀ s, jn (spl 32 s) = s
  | [] => rfl
  | b :: l => by
    have ih := jn_spl l
    have hp := spl_pos 32 l
    rw [spl]
    by_cases h : b = 32
    · subst h
      rw [beq_self_eq_true, cond_true]
      cases hs : spl 32 l with
      | nil => rw [hs] at hp; simp at hp
      | cons x t => rw [hs] at ih; simp only [jn, List.nil_append]; rw [ih]
    · rw [beq_eq_false_iff_ne.2 h, cond_false]
      cases hs : spl 32 l with
      | nil => rw [hs] at hp; simp at hp
      | cons x t =>
        rw [hs] at ih
        simp only
        cases t with
        | nil => simp only [jn] at ih ⊢; rw [ih]
        | cons y t => simp only [jn, List.cons_append] at ih ⊢; rw [ih]
theorem spl_word : ∀ (a : List UInt8), (∀ c, c ∈ a → c ≠ 32) → spl 32 a = [a]
  | [], _ => rfl
  | b :: l, h => by
    rw [spl, beq_eq_false_iff_ne.2 (h b (List.mem_cons_self ..)), cond_false, spl_word l fun c hc => h c (List.mem_cons_of_mem _ hc)]
theorem spl_app : ∀ (a s : List UInt8), (∀ c, c ∈ a → c ≠ 32) → spl 32 (a ++ 32 :: s) = a :: spl 32 s
  | [], s, _ => by rw [List.nil_append, spl, beq_self_eq_true, cond_true]
  | b :: l, s, h => by
    rw [List.cons_append, spl, beq_eq_false_iff_ne.2 (h b (List.mem_cons_self ..)), cond_false, spl_app l s fun c hc => h c (List.mem_cons_of_mem _ hc)]
def clean (w : List (List UInt8)) : Prop := ∀ a, a ∈ w → ∀ c, c ∈ a → c ≠ 32 ∧ c ≠ 10
theorem spl_jn : ∀ (w : List (List UInt8)), w ≠ [] → clean w → spl 32 (jn w) = w
  | [a], _, h => spl_word a fun c hc => (h a (List.mem_cons_self ..) c hc).1
  | a :: b :: t, _, h => by
    rw [jn, spl_app a _ fun c hc => (h a (List.mem_cons_self ..) c hc).1, spl_jn (b :: t) (by simp) fun x hx => h x (List.mem_cons_of_mem _ hx)]
theorem okNum_clean {a : List UInt8} (h : okNum a) : ∀ c, c ∈ a → c ≠ 32 ∧ c ≠ 10 := by
  obtain ⟨h1, h2, h3, h4⟩ := h
  have hd : ∀ c, dg c → c ≠ 32 ∧ c ≠ 10 := fun c hc => ⟨by rintro rfl; exact absurd hc.1 (by decide), by rintro rfl; exact absurd hc.1 (by decide)⟩
  intro c hc
  unfold dig at h3
  by_cases hs : a.head? = some 45
  · rw [if_pos hs] at h3
    cases a with
    | nil => cases hc
    | cons b a =>
      injection hs with hs
      subst hs
      rcases List.mem_cons.1 hc with rfl | hc
      · exact ⟨by decide, by decide⟩
      · exact hd c (h3 c hc)
  · rw [if_neg hs] at h3; exact hd c (h3 c hc)
theorem wclean {a : List UInt8} (h : (a.all fun c => decide (c ≠ 32) && decide (c ≠ 10)) = true) : ∀ c, c ∈ a → c ≠ 32 ∧ c ≠ 10 := fun c hc => by
  have := List.all_eq_true.1 h c hc
  simpa using this
theorem PlE.clean {e : T_Edit} {w : List (List UInt8)} (h : PlE e w) : clean w := by
  have cn : ∀ {a : List UInt8} {t : List (List UInt8)}, (∀ c, c ∈ a → c ≠ 32 ∧ c ≠ 10) → Go.Proofs.YtipokcccpbcmeaaDoor.clean t → Go.Proofs.YtipokcccpbcmeaaDoor.clean (a :: t) := fun h1 h2 x hx => by
    rcases List.mem_cons.1 hx with rfl | hx
    · exact h1
    · exact h2 x hx
  have c0 : Go.Proofs.YtipokcccpbcmeaaDoor.clean [] := fun x hx => by cases hx
  have call : ∀ {l : List (List UInt8)}, okAll l → Go.Proofs.YtipokcccpbcmeaaDoor.clean l := fun h x hx => okNum_clean (h x hx)
  cases h with
  | p a s h => exact cn (wclean (by decide)) (cn (okNum_clean h) (cn (wclean (by cases s <;> decide)) c0))
  | r a1 a2 a3 a4 b1 b2 b3 b4 w h h' =>
    simp only [okAll_cons] at h h'
    exact cn (wclean (by decide)) (cn (okNum_clean h.1) (cn (okNum_clean h.2.1) (cn (okNum_clean h.2.2.1) (cn (okNum_clean h.2.2.2.1) (cn (wclean (by cases w <;> decide)) (call (fun x hx => by
      simp only [List.mem_cons, List.not_mem_nil, or_false] at hx
      rcases hx with rfl | rfl | rfl | rfl
      · exact h'.1
      · exact h'.2.1
      · exact h'.2.2.1
      · exact h'.2.2.2.1)))))))
  | c a h => exact cn (wclean (by decide)) (cn (okNum_clean h) c0)
  | o a h => exact cn (wclean (by decide)) (cn (okNum_clean h) c0)
  | s a b c h => exact cn (wclean (by decide)) (call h)
  | l a b c h => exact cn (wclean (by decide)) (call h)
theorem PlE.ne {e : T_Edit} {w : List (List UInt8)} (h : PlE e w) : w ≠ [] := by cases h <;> simp
theorem PlE.spl {e : T_Edit} {w : List (List UInt8)} (h : PlE e w) : spl 32 (jn w) = w := spl_jn w h.ne h.clean

/-! ### words with numbers -/
def I64 (n : Int) : Prop := -9223372036854775808 ≤ n ∧ n ≤ 9223372036854775807
def cat : List Int → List UInt8
  | [] => []
  | n :: l => 32 :: itoaM n ++ cat l
theorem digs_len : ∀ (f u : Nat), (digs f u).length ≤ f
  | 0, _ => Nat.le_refl _
  | f + 1, u => by
    rw [digs]
    by_cases h : u < 10
    · rw [dt h]; simp
    · rw [df h]
      have := digs_len f (u / 10)
      simp; omega
theorem itoa_len (k : Int) : (itoaM k).length ≤ 21 := by
  unfold itoaM
  have h1 := digs_len 20 k.natAbs
  have h2 := digs_len 20 k.toNat
  by_cases h : k < 0
  · rw [dt h]; simp; omega
  · rw [df h]; omega
theorem words_loop {l : List Int} (hl : l.length ≤ 20) (hi : ∀ n, n ∈ l → I64 n) : ∀ (j f k : Nat) (acc : List UInt8), j + k = l.length → j < f → acc.length ≤ 1000 + 22 * k → survey_words_L1 1267650600228229401496703205376 f acc l (l.length : Int) k = some (acc ++ cat (l.drop k))
  | 0, f + 1, k, acc, hk, hf, ha => by
    rw [drop_nil (by omega), survey_words_L1_succ, df (by omega)]
    simp [cat]
  | j + 1, f + 1, k, acc, hk, hf, ha => by
    have hkl : k < l.length := by omega
    have hn := hi _ (getD_mem 0 hkl)
    have hlen := itoa_len (l.getD k 0)
    rw [drop_cons 0 hkl, survey_words_L1_succ, dt (by omega), it (by omega), Int.toNat_natCast, itoa_some' _ hn.1 hn.2, bind_some']
    generalize l.getD k 0 = v at hn hlen ⊢
    simp only []
    rw [dt (by simp; omega), dt (by simp; omega), W_succ (by omega)]
    rw [words_loop hl hi j f (k + 1) (acc ++ ([32] ++ itoaM v)) (by omega) (by omega) (by simp; omega)]
    simp [cat]
theorem rwords_loop {l : List Int} (hl : l.length ≤ 20) (hi : ∀ n, n ∈ l → I64 n) : ∀ (j f k : Nat) (acc : List UInt8), j + k = l.length → j < f → acc.length ≤ 1000 + 22 * k → ref02_words_L1 1267650600228229401496703205376 f acc l k = some (acc ++ cat (l.drop k))
  | 0, f + 1, k, acc, hk, hf, ha => by
    rw [drop_nil (by omega), ref02_words_L1_succ, df (by omega)]
    simp [cat]
  | j + 1, f + 1, k, acc, hk, hf, ha => by
    have hkl : k < l.length := by omega
    have hn := hi _ (getD_mem 0 hkl)
    have hlen := itoa_len (l.getD k 0)
    rw [drop_cons 0 hkl, ref02_words_L1_succ, dt (by omega), it (by omega), Int.toNat_natCast, itoa_some' _ hn.1 hn.2, bind_some']
    generalize l.getD k 0 = v at hn hlen ⊢
    simp only []
    rw [dt (by simp; omega), dt (by simp; omega), W_succ (by omega)]
    rw [rwords_loop hl hi j f (k + 1) (acc ++ ([32] ++ itoaM v)) (by omega) (by omega) (by simp; omega)]
    simp [cat]
theorem words_eq {a : List UInt8} {l : List Int} (ha : a.length ≤ 1000) (hl : l.length ≤ 20) (hi : ∀ n, n ∈ l → I64 n) : survey_words 1267650600228229401496703205376 a l = some (a ++ cat l) ∧ ref02_words 1267650600228229401496703205376 a l = some (a ++ cat l) := ⟨words_loop hl hi l.length 1267650600228229401496703205376 0 a rfl (by omega) (by omega), rwords_loop hl hi l.length 1267650600228229401496703205376 0 a rfl (by omega) (by omega)⟩
theorem cat_len : ∀ (l : List Int), (cat l).length ≤ 22 * l.length
  | [] => by simp [cat]
  | n :: l => by
    have h1 := itoa_len n
    have h2 := cat_len l
    simp [cat]; omega
instance (v : Int) : Decidable (Sh v) := inferInstanceAs (Decidable (_ ∧ _))
def shA (l : List Int) : Bool := l.all fun n => decide (Sh n)
theorem short_loop {l : List Int} (hl : l.length ≤ 20) : ∀ (j f k : Nat), j + k = l.length → j < f → survey_short_L1 1267650600228229401496703205376 f l (l.length : Int) k = some (shA (l.drop k))
  | 0, f + 1, k, hk, hf => by
    rw [drop_nil (by omega), survey_short_L1_succ, df (by omega)]
    rfl
  | j + 1, f + 1, k, hk, hf => by
    have hkl : k < l.length := by omega
    rw [drop_cons 0 hkl, survey_short_L1_succ, dt (by omega), it (by omega), Int.toNat_natCast]
    have ih := short_loop hl j f (k + 1) (by omega) (by omega)
    have e : shA (l.getD k 0 :: l.drop (k + 1)) = (decide (Sh (l.getD k 0)) && shA (l.drop (k + 1))) := rfl
    rw [e]
    by_cases h1 : l.getD k 0 < -999999999999999999
    · rw [dt h1, decide_eq_false (by unfold Sh; omega)]; rfl
    · rw [df h1]
      by_cases h2 : l.getD k 0 > 999999999999999999
      · rw [dt h2, decide_eq_false (by unfold Sh; omega)]; rfl
      · rw [df h2, decide_eq_true (by unfold Sh; omega), Bool.true_and, W_succ (by omega)]
        exact ih
theorem rshort_loop {l : List Int} (hl : l.length ≤ 20) : ∀ (j f k : Nat), j + k = l.length → j < f → ref02_short_L1 1267650600228229401496703205376 f l k = some (shA (l.drop k))
  | 0, f + 1, k, hk, hf => by
    rw [drop_nil (by omega), ref02_short_L1_succ, df (by omega)]
    rfl
  | j + 1, f + 1, k, hk, hf => by
    have hkl : k < l.length := by omega
    rw [drop_cons 0 hkl, ref02_short_L1_succ, dt (by omega), it (by omega), Int.toNat_natCast]
    have ih := rshort_loop hl j f (k + 1) (by omega) (by omega)
    have e : shA (l.getD k 0 :: l.drop (k + 1)) = (decide (Sh (l.getD k 0)) && shA (l.drop (k + 1))) := rfl
    rw [e]
    by_cases h1 : l.getD k 0 ≤ -1000000000000000000
    · rw [dt h1, decide_eq_false (by unfold Sh; omega)]; rfl
    · rw [df h1, it (by omega)]
      by_cases h2 : l.getD k 0 ≥ 1000000000000000000
      · rw [dt h2, decide_eq_false (by unfold Sh; omega)]; rfl
      · rw [df h2, decide_eq_true (by unfold Sh; omega), Bool.true_and, W_succ (by omega)]
        exact ih
theorem short_eq {l : List Int} (hl : l.length ≤ 20) : survey_short 1267650600228229401496703205376 l = some (shA l) ∧ ref02_short 1267650600228229401496703205376 l = some (shA l) := ⟨short_loop hl l.length 1267650600228229401496703205376 0 rfl (by omega), rshort_loop hl l.length 1267650600228229401496703205376 0 rfl (by omega)⟩
theorem num_of {v : Int} (h : Sh v) : okNum (itoaM v) ∧ numV (itoaM v) = v := isNum_ok ⟨h, rfl⟩
end Go.Proofs.YtipokcccpbcmeaaDoor
set_option linter.all false
namespace Go.Proofs.YtipokcccpbcmeaaDoor
open Go.Pv M
def ch (k h : Int) (s : Bool) (f t l a : Int) (w c : Bool) (r1 r2 l1 l2 rd s1 s2 : Int) : Bool := ((k == 0) && ((h == 0) && ((s == false) && ((f == 0) && ((t == 0) && ((l == 0) && ((a == 0) && ((w == false) && ((c == false) && ((r1 == 0) && ((r2 == 0) && ((l1 == 0) && ((l2 == 0) && ((rd == 0) && ((s1 == 0) && (s2 == 0))))))))))))))))
def rc (k h : Int) (s : Bool) (f t l a : Int) (w c : Bool) (r1 r2 l1 l2 rd s1 s2 : Int) (k' h' : Int) (s' : Bool) (f' t' l' a' : Int) (w' c' : Bool) (r1' r2' l1' l2' rd' s1' s2' : Int) : Bool := ((k == k') && ((h == h') && ((s == s') && ((f == f') && ((t == t') && ((l == l') && ((a == a') && ((w == w') && ((c == c') && ((r1 == r1') && ((r2 == r2') && ((l1 == l1') && ((l2 == l2') && ((rd == rd') && ((s1 == s1') && (s2 == s2'))))))))))))))))
section
variable (h : Int) (s : Bool) (f t l a : Int) (w c : Bool) (r1 r2 l1 l2 rd s1 s2 : Int)
theorem pl_1 : survey_line 1267650600228229401496703205376 (1, ((h, s), ((f, (t, (l, (a, (w, (c, ((r1, r2), (l1, l2)))))))), (rd, (s1, s2))))) = bif s then (Option.bind (survey_words 1267650600228229401496703205376 PL [h]) fun r => bif decide (r.length + (32 :: SU).length ≤ 9223372036854775807) then (bif ch 0 0 false f t l a w c r1 r2 l1 l2 rd s1 s2 then Option.bind (survey_short 1267650600228229401496703205376 [h]) fun q => some (r ++ 32 :: SU, q) else some (r ++ 32 :: SU, false)) else none) else (Option.bind (survey_words 1267650600228229401496703205376 PL [h]) fun r => bif decide (r.length + (32 :: BE).length ≤ 9223372036854775807) then (bif ch 0 0 false f t l a w c r1 r2 l1 l2 rd s1 s2 then Option.bind (survey_short 1267650600228229401496703205376 [h]) fun q => some (r ++ 32 :: BE, q) else some (r ++ 32 :: BE, false)) else none) := by
  unfold survey_line; simp only []; rw [et (rfl : (1 : Int) = 1)]; rfl
theorem pl_2 : survey_line 1267650600228229401496703205376 (2, ((h, s), ((f, (t, (l, (a, (w, (c, ((r1, r2), (l1, l2)))))))), (rd, (s1, s2))))) = bif w then (Option.bind (survey_words 1267650600228229401496703205376 RO [f, t, l, a]) fun r => Option.bind (survey_words 1267650600228229401496703205376 (32 :: WA) [r1, r2, l1, l2]) fun r' => bif decide (r.length + r'.length ≤ 9223372036854775807) then (bif ch 0 h s 0 0 0 0 false false 0 0 0 0 rd s1 s2 then (bif !c then Option.bind (survey_short 1267650600228229401496703205376 [f, t, l, a, r1, r2, l1, l2]) fun q => some (r ++ r', q) else some (r ++ r', false)) else some (r ++ r', false)) else none) else (Option.bind (survey_words 1267650600228229401496703205376 RO [f, t, l, a]) fun r => Option.bind (survey_words 1267650600228229401496703205376 (32 :: MA) [r1, r2, l1, l2]) fun r' => bif decide (r.length + r'.length ≤ 9223372036854775807) then (bif ch 0 h s 0 0 0 0 false false 0 0 0 0 rd s1 s2 then (bif !c then Option.bind (survey_short 1267650600228229401496703205376 [f, t, l, a, r1, r2, l1, l2]) fun q => some (r ++ r', q) else some (r ++ r', false)) else some (r ++ r', false)) else none) := by
  have e : survey_line 1267650600228229401496703205376 (2, ((h, s), ((f, (t, (l, (a, (w, (c, ((r1, r2), (l1, l2)))))))), (rd, (s1, s2))))) = bif w then survey_line_J1 1267650600228229401496703205376 (32 :: WA) 0 h s 0 0 0 0 false false 0 0 0 0 rd s1 s2 f t l a w c r1 r2 l1 l2 else survey_line_J1 1267650600228229401496703205376 (32 :: MA) 0 h s 0 0 0 0 false false 0 0 0 0 rd s1 s2 f t l a w c r1 r2 l1 l2 := by
    unfold survey_line; simp only []; rw [ef (by decide : (2 : Int) ≠ 1), et (rfl : (2 : Int) = 2)]
  rw [e, survey_line_J1_eq, survey_line_J1_eq]; rfl
theorem pl_3 : survey_line 1267650600228229401496703205376 (3, ((h, s), ((f, (t, (l, (a, (w, (c, ((r1, r2), (l1, l2)))))))), (rd, (s1, s2))))) = Option.bind (survey_words 1267650600228229401496703205376 CL [rd]) fun r => bif ch 0 h s f t l a w c r1 r2 l1 l2 0 s1 s2 then Option.bind (survey_short 1267650600228229401496703205376 [rd]) fun q => some (r, q) else some (r, false) := by
  have e : survey_line 1267650600228229401496703205376 (3, ((h, s), ((f, (t, (l, (a, (w, (c, ((r1, r2), (l1, l2)))))))), (rd, (s1, s2))))) = survey_line_J2 1267650600228229401496703205376 3 true 3 h s f t l a w c r1 r2 l1 l2 rd s1 s2 0 h s f t l a w c r1 r2 l1 l2 rd s1 s2 := by
    unfold survey_line; simp only []; rw [ef (by decide : (3 : Int) ≠ 1), ef (by decide : (3 : Int) ≠ 2), et rfl]
  rw [e, survey_line_J2_eq, cond_true, et (rfl : (3 : Int) = 3)]; rfl
theorem pl_4 : survey_line 1267650600228229401496703205376 (4, ((h, s), ((f, (t, (l, (a, (w, (c, ((r1, r2), (l1, l2)))))))), (rd, (s1, s2))))) = Option.bind (survey_words 1267650600228229401496703205376 OP [rd]) fun r => bif ch 0 h s f t l a w c r1 r2 l1 l2 0 s1 s2 then Option.bind (survey_short 1267650600228229401496703205376 [rd]) fun q => some (r, q) else some (r, false) := by
  have e : survey_line 1267650600228229401496703205376 (4, ((h, s), ((f, (t, (l, (a, (w, (c, ((r1, r2), (l1, l2)))))))), (rd, (s1, s2))))) = survey_line_J2 1267650600228229401496703205376 4 ((4 : Int) == 4) 4 h s f t l a w c r1 r2 l1 l2 rd s1 s2 0 h s f t l a w c r1 r2 l1 l2 rd s1 s2 := by
    unfold survey_line; simp only []; rw [ef (by decide : (4 : Int) ≠ 1), ef (by decide : (4 : Int) ≠ 2), ef (by decide : (4 : Int) ≠ 3)]
  rw [e, survey_line_J2_eq, et (rfl : (4 : Int) = 4), ef (by decide : (4 : Int) ≠ 3)]; rfl
theorem pl_5 : survey_line 1267650600228229401496703205376 (5, ((h, s), ((f, (t, (l, (a, (w, (c, ((r1, r2), (l1, l2)))))))), (rd, (s1, s2))))) = Option.bind (survey_words 1267650600228229401496703205376 RE [rd, s1, s2]) fun r => bif ch 0 h s f t l a w c r1 r2 l1 l2 0 0 0 then Option.bind (survey_short 1267650600228229401496703205376 [rd, s1, s2]) fun q => some (r, q) else some (r, false) := by
  have e : survey_line 1267650600228229401496703205376 (5, ((h, s), ((f, (t, (l, (a, (w, (c, ((r1, r2), (l1, l2)))))))), (rd, (s1, s2))))) = survey_line_J2 1267650600228229401496703205376 5 ((5 : Int) == 4) 5 h s f t l a w c r1 r2 l1 l2 rd s1 s2 0 h s f t l a w c r1 r2 l1 l2 rd s1 s2 := by
    unfold survey_line; simp only []; rw [ef (by decide : (5 : Int) ≠ 1), ef (by decide : (5 : Int) ≠ 2), ef (by decide : (5 : Int) ≠ 3)]
  rw [e, survey_line_J2_eq, ef (by decide : (5 : Int) ≠ 4), et (rfl : (5 : Int) = 5), ef (by decide : (5 : Int) ≠ 6)]; rfl
theorem pl_6 : survey_line 1267650600228229401496703205376 (6, ((h, s), ((f, (t, (l, (a, (w, (c, ((r1, r2), (l1, l2)))))))), (rd, (s1, s2))))) = Option.bind (survey_words 1267650600228229401496703205376 LI [rd, s1, s2]) fun r => bif ch 0 h s f t l a w c r1 r2 l1 l2 0 0 0 then Option.bind (survey_short 1267650600228229401496703205376 [rd, s1, s2]) fun q => some (r, q) else some (r, false) := by
  have e : survey_line 1267650600228229401496703205376 (6, ((h, s), ((f, (t, (l, (a, (w, (c, ((r1, r2), (l1, l2)))))))), (rd, (s1, s2))))) = survey_line_J2 1267650600228229401496703205376 6 ((6 : Int) == 4) 6 h s f t l a w c r1 r2 l1 l2 rd s1 s2 0 h s f t l a w c r1 r2 l1 l2 rd s1 s2 := by
    unfold survey_line; simp only []; rw [ef (by decide : (6 : Int) ≠ 1), ef (by decide : (6 : Int) ≠ 2), ef (by decide : (6 : Int) ≠ 3)]
  rw [e, survey_line_J2_eq, ef (by decide : (6 : Int) ≠ 4), ef (by decide : (6 : Int) ≠ 5), et (rfl : (6 : Int) = 6), et (rfl : (6 : Int) = 6)]; rfl
theorem rp_1 : ref02_Plain 1267650600228229401496703205376 (1, ((h, s), ((f, (t, (l, (a, (w, (c, ((r1, r2), (l1, l2)))))))), (rd, (s1, s2))))) = bif rc 1 h s 0 0 0 0 false false 0 0 0 0 0 0 0 1 h s f t l a w c r1 r2 l1 l2 rd s1 s2 then Option.bind (ref02_short 1267650600228229401496703205376 [h, rd, s1, s2, f, t, l, a, r1, r2, l1, l2]) fun q => some q else some false := by
  have e : ref02_Plain 1267650600228229401496703205376 (1, ((h, s), ((f, (t, (l, (a, (w, (c, ((r1, r2), (l1, l2)))))))), (rd, (s1, s2))))) = ref02_Plain_J1 1267650600228229401496703205376 1 h s f t l a w c r1 r2 l1 l2 rd s1 s2 1 h s 0 0 0 0 false false 0 0 0 0 0 0 0 := by
    unfold ref02_Plain; simp only []; rw [et (rfl : (1 : Int) = 1)]
  rw [e, ref02_Plain_J1_eq]; rfl
theorem rp_2 : ref02_Plain 1267650600228229401496703205376 (2, ((h, s), ((f, (t, (l, (a, (w, (c, ((r1, r2), (l1, l2)))))))), (rd, (s1, s2))))) = bif rc 2 0 false f t l a w false r1 r2 l1 l2 0 0 0 2 h s f t l a w c r1 r2 l1 l2 rd s1 s2 then Option.bind (ref02_short 1267650600228229401496703205376 [h, rd, s1, s2, f, t, l, a, r1, r2, l1, l2]) fun q => some q else some false := by
  have e : ref02_Plain 1267650600228229401496703205376 (2, ((h, s), ((f, (t, (l, (a, (w, (c, ((r1, r2), (l1, l2)))))))), (rd, (s1, s2))))) = ref02_Plain_J1 1267650600228229401496703205376 2 h s f t l a w c r1 r2 l1 l2 rd s1 s2 2 0 false f t l a w false r1 r2 l1 l2 0 0 0 := by
    unfold ref02_Plain; simp only []; rw [ef (by decide : (2 : Int) ≠ 1), et (rfl : (2 : Int) = 2)]
  rw [e, ref02_Plain_J1_eq]; rfl
theorem rp_3 : ref02_Plain 1267650600228229401496703205376 (3, ((h, s), ((f, (t, (l, (a, (w, (c, ((r1, r2), (l1, l2)))))))), (rd, (s1, s2))))) = bif rc 3 0 false 0 0 0 0 false false 0 0 0 0 rd 0 0 3 h s f t l a w c r1 r2 l1 l2 rd s1 s2 then Option.bind (ref02_short 1267650600228229401496703205376 [h, rd, s1, s2, f, t, l, a, r1, r2, l1, l2]) fun q => some q else some false := by
  have e : ref02_Plain 1267650600228229401496703205376 (3, ((h, s), ((f, (t, (l, (a, (w, (c, ((r1, r2), (l1, l2)))))))), (rd, (s1, s2))))) = ref02_Plain_J1 1267650600228229401496703205376 3 h s f t l a w c r1 r2 l1 l2 rd s1 s2 3 0 false 0 0 0 0 false false 0 0 0 0 rd 0 0 := by
    unfold ref02_Plain; simp only []; rw [ef (by decide : (3 : Int) ≠ 1), ef (by decide : (3 : Int) ≠ 2), et (rfl : (3 : Int) = 3)]
  rw [e, ref02_Plain_J1_eq]; rfl
theorem rp_4 : ref02_Plain 1267650600228229401496703205376 (4, ((h, s), ((f, (t, (l, (a, (w, (c, ((r1, r2), (l1, l2)))))))), (rd, (s1, s2))))) = bif rc 4 0 false 0 0 0 0 false false 0 0 0 0 rd 0 0 4 h s f t l a w c r1 r2 l1 l2 rd s1 s2 then Option.bind (ref02_short 1267650600228229401496703205376 [h, rd, s1, s2, f, t, l, a, r1, r2, l1, l2]) fun q => some q else some false := by
  have e : ref02_Plain 1267650600228229401496703205376 (4, ((h, s), ((f, (t, (l, (a, (w, (c, ((r1, r2), (l1, l2)))))))), (rd, (s1, s2))))) = ref02_Plain_J1 1267650600228229401496703205376 4 h s f t l a w c r1 r2 l1 l2 rd s1 s2 4 0 false 0 0 0 0 false false 0 0 0 0 rd 0 0 := by
    unfold ref02_Plain; simp only []; rw [ef (by decide : (4 : Int) ≠ 1), ef (by decide : (4 : Int) ≠ 2), ef (by decide : (4 : Int) ≠ 3), et (rfl : (4 : Int) = 4)]
  rw [e, ref02_Plain_J1_eq]; rfl
theorem rp_5 : ref02_Plain 1267650600228229401496703205376 (5, ((h, s), ((f, (t, (l, (a, (w, (c, ((r1, r2), (l1, l2)))))))), (rd, (s1, s2))))) = bif rc 5 0 false 0 0 0 0 false false 0 0 0 0 rd s1 s2 5 h s f t l a w c r1 r2 l1 l2 rd s1 s2 then Option.bind (ref02_short 1267650600228229401496703205376 [h, rd, s1, s2, f, t, l, a, r1, r2, l1, l2]) fun q => some q else some false := by
  have e : ref02_Plain 1267650600228229401496703205376 (5, ((h, s), ((f, (t, (l, (a, (w, (c, ((r1, r2), (l1, l2)))))))), (rd, (s1, s2))))) = ref02_Plain_J1 1267650600228229401496703205376 5 h s f t l a w c r1 r2 l1 l2 rd s1 s2 5 0 false 0 0 0 0 false false 0 0 0 0 rd s1 s2 := by
    unfold ref02_Plain; simp only []; rw [ef (by decide : (5 : Int) ≠ 1), ef (by decide : (5 : Int) ≠ 2), ef (by decide : (5 : Int) ≠ 3), ef (by decide : (5 : Int) ≠ 4), et (rfl : (5 : Int) = 5)]
  rw [e, ref02_Plain_J1_eq]; rfl
theorem rp_6 : ref02_Plain 1267650600228229401496703205376 (6, ((h, s), ((f, (t, (l, (a, (w, (c, ((r1, r2), (l1, l2)))))))), (rd, (s1, s2))))) = bif rc 6 0 false 0 0 0 0 false false 0 0 0 0 rd s1 s2 6 h s f t l a w c r1 r2 l1 l2 rd s1 s2 then Option.bind (ref02_short 1267650600228229401496703205376 [h, rd, s1, s2, f, t, l, a, r1, r2, l1, l2]) fun q => some q else some false := by
  have e : ref02_Plain 1267650600228229401496703205376 (6, ((h, s), ((f, (t, (l, (a, (w, (c, ((r1, r2), (l1, l2)))))))), (rd, (s1, s2))))) = ref02_Plain_J1 1267650600228229401496703205376 6 h s f t l a w c r1 r2 l1 l2 rd s1 s2 6 0 false 0 0 0 0 false false 0 0 0 0 rd s1 s2 := by
    unfold ref02_Plain; simp only []; rw [ef (by decide : (6 : Int) ≠ 1), ef (by decide : (6 : Int) ≠ 2), ef (by decide : (6 : Int) ≠ 3), ef (by decide : (6 : Int) ≠ 4), ef (by decide : (6 : Int) ≠ 5), et (rfl : (6 : Int) = 6)]
  rw [e, ref02_Plain_J1_eq]; rfl
end
end Go.Proofs.YtipokcccpbcmeaaDoor
set_option linter.all false
namespace Go.Proofs.YtipokcccpbcmeaaDoor
open Go.Pv M
def PP (e : T_Edit) : Prop := (∃ h s, e = eP h s ∧ Sh h) ∨ (∃ f t l a w r1 r2 l1 l2, e = eR f t l a w r1 r2 l1 l2 ∧ Sh f ∧ Sh t ∧ Sh l ∧ Sh a ∧ Sh r1 ∧ Sh r2 ∧ Sh l1 ∧ Sh l2) ∨ (∃ r, e = eN 3 r 0 0 ∧ Sh r) ∨ (∃ r, e = eN 4 r 0 0 ∧ Sh r) ∨ (∃ r a b, e = eN 5 r a b ∧ Sh r ∧ Sh a ∧ Sh b) ∨ (∃ r a b, e = eN 6 r a b ∧ Sh r ∧ Sh a ∧ Sh b)
theorem shN {a : List UInt8} (h : okNum a) : Sh (numV a) := (ok_isNum h).1
theorem PlE.pp {e : T_Edit} {w : List (List UInt8)} (h : PlE e w) : PP e := by
  cases h with
  | p a s h => exact .inl ⟨_, _, rfl, shN h⟩
  | r a1 a2 a3 a4 b1 b2 b3 b4 w h h' =>
    simp only [okAll_cons] at h h'
    exact .inr (.inl ⟨_, _, _, _, _, _, _, _, _, rfl, shN h.1, shN h.2.1, shN h.2.2.1, shN h.2.2.2.1, shN h'.1, shN h'.2.1, shN h'.2.2.1, shN h'.2.2.2.1⟩)
  | c a h => exact .inr (.inr (.inl ⟨_, rfl, shN h⟩))
  | o a h => exact .inr (.inr (.inr (.inl ⟨_, rfl, shN h⟩)))
  | s a b c h =>
    simp only [okAll_cons] at h
    exact .inr (.inr (.inr (.inr (.inl ⟨_, _, _, rfl, shN h.1, shN h.2.1, shN h.2.2.1⟩))))
  | l a b c h =>
    simp only [okAll_cons] at h
    exact .inr (.inr (.inr (.inr (.inr ⟨_, _, _, rfl, shN h.1, shN h.2.1, shN h.2.2.1⟩))))
def LY (e : T_Edit) : Prop := ∃ w, PlE e w ∧ survey_line 1267650600228229401496703205376 e = some (jn w, true) ∧ ref02_Plain 1267650600228229401496703205376 e = some true ∧ ref02_line 1267650600228229401496703205376 e = some (jn w ++ [10])
theorem Sh.i {v : Int} (h : Sh v) : I64 v := by unfold Sh at h; unfold I64; omega
theorem i0 : I64 0 := by unfold I64; omega
theorem all1 {P : Int → Prop} {a : Int} (h : P a) : ∀ n, n ∈ [a] → P n := fun n hn => by rw [List.mem_singleton.1 hn]; exact h
theorem all3 {P : Int → Prop} {a b c : Int} (h1 : P a) (h2 : P b) (h3 : P c) : ∀ n, n ∈ [a, b, c] → P n := fun n hn => by
  simp only [List.mem_cons, List.not_mem_nil, or_false] at hn
  rcases hn with rfl | rfl | rfl <;> assumption
theorem all4 {P : Int → Prop} {a b c d : Int} (h1 : P a) (h2 : P b) (h3 : P c) (h4 : P d) : ∀ n, n ∈ [a, b, c, d] → P n := fun n hn => by
  simp only [List.mem_cons, List.not_mem_nil, or_false] at hn
  rcases hn with rfl | rfl | rfl | rfl <;> assumption
theorem chT : ch 0 0 false 0 0 0 0 false false 0 0 0 0 0 0 0 = true := rfl
theorem shT {n : Int} {l : List Int} (h : Sh n) : shA (n :: l) = shA l := by show (decide (Sh n) && shA l) = _; rw [decide_eq_true h]; rfl
theorem sh0T {l : List Int} : shA (0 :: l) = shA l := rfl
theorem okAll4 {a b c d : List UInt8} (h1 : okNum a) (h2 : okNum b) (h3 : okNum c) (h4 : okNum d) : okAll [a, b, c, d] := okAll_cons.2 ⟨h1, okAll_cons.2 ⟨h2, okAll_cons.2 ⟨h3, okAll_cons.2 ⟨h4, fun s hs => by cases hs⟩⟩⟩⟩
theorem okAll3 {a b c : List UInt8} (h1 : okNum a) (h2 : okNum b) (h3 : okNum c) : okAll [a, b, c] := okAll_cons.2 ⟨h1, okAll_cons.2 ⟨h2, okAll_cons.2 ⟨h3, fun s hs => by cases hs⟩⟩⟩
theorem ly_1 {h : Int} {s : Bool} (hh : Sh h) : LY (eP h s) := by
  have hp := PlE.p (itoaM h) s (num_of hh).1
  rw [(num_of hh).2] at hp
  have hw := words_eq (a := PL) (l := [h]) (by decide) (by simp) (all1 hh.i)
  have hl := cat_len [h]
  refine ⟨_, hp, ?_, ?_, ?_⟩
  · unfold eP
    rw [pl_1]
    cases s with
    | true => rw [cond_true, hw.1, bind_some', dt (by simp at hl ⊢; omega), bt chT, (short_eq (by simp)).1, bind_some', shT hh]; simp [jn, cat, shA]
    | false => rw [cond_false, hw.1, bind_some', dt (by simp at hl ⊢; omega), bt chT, (short_eq (by simp)).1, bind_some', shT hh]; simp [jn, cat, shA]
  · unfold eP
    rw [rp_1, bt (by simp [rc]), (short_eq (by simp)).2, bind_some', shT hh]; rfl
  · unfold eP ref02_line
    simp only []
    rw [et (rfl : (1 : Int) = 1)]
    cases s with
    | true => rw [cond_true, hw.2, bind_some', dt (by simp at hl ⊢; omega)]; simp [jn, cat]
    | false => rw [cond_false, hw.2, bind_some', dt (by simp at hl ⊢; omega)]; simp [jn, cat]
theorem ly_2 {f t l a : Int} {w : Bool} {r1 r2 l1 l2 : Int} (h1 : Sh f) (h2 : Sh t) (h3 : Sh l) (h4 : Sh a) (h5 : Sh r1) (h6 : Sh r2) (h7 : Sh l1) (h8 : Sh l2) : LY (eR f t l a w r1 r2 l1 l2) := by
  have hp := PlE.r (itoaM f) (itoaM t) (itoaM l) (itoaM a) (itoaM r1) (itoaM r2) (itoaM l1) (itoaM l2) w (okAll4 (num_of h1).1 (num_of h2).1 (num_of h3).1 (num_of h4).1) (okAll4 (num_of h5).1 (num_of h6).1 (num_of h7).1 (num_of h8).1)
  rw [(num_of h1).2, (num_of h2).2, (num_of h3).2, (num_of h4).2, (num_of h5).2, (num_of h6).2, (num_of h7).2, (num_of h8).2] at hp
  have hw := words_eq (a := RO) (l := [f, t, l, a]) (by decide) (by simp) (all4 h1.i h2.i h3.i h4.i)
  have hwa := words_eq (a := 32 :: WA) (l := [r1, r2, l1, l2]) (by decide) (by simp) (all4 h5.i h6.i h7.i h8.i)
  have hma := words_eq (a := 32 :: MA) (l := [r1, r2, l1, l2]) (by decide) (by simp) (all4 h5.i h6.i h7.i h8.i)
  have hl := cat_len [f, t, l, a]
  have hl' := cat_len [r1, r2, l1, l2]
  refine ⟨_, hp, ?_, ?_, ?_⟩
  · unfold eR
    rw [pl_2]
    cases w with
    | true => rw [cond_true, hw.1, bind_some', hwa.1, bind_some', dt (by simp at hl hl' ⊢; omega), bt chT, bnot_f rfl, (short_eq (by simp)).1, bind_some', shT h1, shT h2, shT h3, shT h4, shT h5, shT h6, shT h7, shT h8]; simp [jn, cat, shA]
    | false => rw [cond_false, hw.1, bind_some', hma.1, bind_some', dt (by simp at hl hl' ⊢; omega), bt chT, bnot_f rfl, (short_eq (by simp)).1, bind_some', shT h1, shT h2, shT h3, shT h4, shT h5, shT h6, shT h7, shT h8]; simp [jn, cat, shA]
  · unfold eR
    rw [rp_2, bt (by simp [rc]), (short_eq (by simp)).2, bind_some', sh0T, sh0T, sh0T, sh0T, shT h1, shT h2, shT h3, shT h4, shT h5, shT h6, shT h7, shT h8]; rfl
  · unfold eR ref02_line
    simp only []
    rw [ef (by decide : (2 : Int) ≠ 1), et (rfl : (2 : Int) = 2)]
    cases w with
    | true => rw [cond_true, hw.2, bind_some', hwa.2, bind_some', dt (by simp at hl hl' ⊢; omega), dt (by simp at hl hl' ⊢; omega)]; simp [jn, cat]
    | false => rw [cond_false, hw.2, bind_some', hma.2, bind_some', dt (by simp at hl hl' ⊢; omega), dt (by simp at hl hl' ⊢; omega)]; simp [jn, cat]
theorem ly_3 {r : Int} (h1 : Sh r) : LY (eN 3 r 0 0) := by
  have hp := PlE.c (itoaM r) (num_of h1).1
  rw [(num_of h1).2] at hp
  have hw := words_eq (a := CL) (l := [r]) (by decide) (by simp) (all1 h1.i)
  have hl := cat_len [r]
  refine ⟨_, hp, ?_, ?_, ?_⟩
  · unfold eN
    rw [pl_3, hw.1, bind_some', bt chT, (short_eq (by simp)).1, bind_some', shT h1]; simp [jn, cat, shA]
  · unfold eN
    rw [rp_3, bt (by simp [rc]), (short_eq (by simp)).2, bind_some', sh0T, shT h1]; rfl
  · unfold eN ref02_line
    simp only []
    rw [ef (by decide : (3 : Int) ≠ 1), ef (by decide : (3 : Int) ≠ 2), et (rfl : (3 : Int) = 3), hw.2, bind_some', dt (by simp at hl ⊢; omega)]; simp [jn, cat]
theorem ly_4 {r : Int} (h1 : Sh r) : LY (eN 4 r 0 0) := by
  have hp := PlE.o (itoaM r) (num_of h1).1
  rw [(num_of h1).2] at hp
  have hw := words_eq (a := OP) (l := [r]) (by decide) (by simp) (all1 h1.i)
  have hl := cat_len [r]
  refine ⟨_, hp, ?_, ?_, ?_⟩
  · unfold eN
    rw [pl_4, hw.1, bind_some', bt chT, (short_eq (by simp)).1, bind_some', shT h1]; simp [jn, cat, shA]
  · unfold eN
    rw [rp_4, bt (by simp [rc]), (short_eq (by simp)).2, bind_some', sh0T, shT h1]; rfl
  · unfold eN ref02_line
    simp only []
    rw [ef (by decide : (4 : Int) ≠ 1), ef (by decide : (4 : Int) ≠ 2), ef (by decide : (4 : Int) ≠ 3), et (rfl : (4 : Int) = 4), hw.2, bind_some', dt (by simp at hl ⊢; omega)]; simp [jn, cat]
theorem ly_5 {r a b : Int} (h1 : Sh r) (h2 : Sh a) (h3 : Sh b) : LY (eN 5 r a b) := by
  have hp := PlE.s (itoaM r) (itoaM a) (itoaM b) (okAll3 (num_of h1).1 (num_of h2).1 (num_of h3).1)
  rw [(num_of h1).2, (num_of h2).2, (num_of h3).2] at hp
  have hw := words_eq (a := RE) (l := [r, a, b]) (by decide) (by simp) (all3 h1.i h2.i h3.i)
  have hl := cat_len [r, a, b]
  refine ⟨_, hp, ?_, ?_, ?_⟩
  · unfold eN
    rw [pl_5, hw.1, bind_some', bt chT, (short_eq (by simp)).1, bind_some', shT h1, shT h2, shT h3]; simp [jn, cat, shA]
  · unfold eN
    rw [rp_5, bt (by simp [rc]), (short_eq (by simp)).2, bind_some', sh0T, shT h1, shT h2, shT h3]; rfl
  · unfold eN ref02_line
    simp only []
    rw [ef (by decide : (5 : Int) ≠ 1), ef (by decide : (5 : Int) ≠ 2), ef (by decide : (5 : Int) ≠ 3), ef (by decide : (5 : Int) ≠ 4), et (rfl : (5 : Int) = 5), hw.2, bind_some', dt (by simp at hl ⊢; omega)]; simp [jn, cat]
theorem ly_6 {r a b : Int} (h1 : Sh r) (h2 : Sh a) (h3 : Sh b) : LY (eN 6 r a b) := by
  have hp := PlE.l (itoaM r) (itoaM a) (itoaM b) (okAll3 (num_of h1).1 (num_of h2).1 (num_of h3).1)
  rw [(num_of h1).2, (num_of h2).2, (num_of h3).2] at hp
  have hw := words_eq (a := LI) (l := [r, a, b]) (by decide) (by simp) (all3 h1.i h2.i h3.i)
  have hl := cat_len [r, a, b]
  refine ⟨_, hp, ?_, ?_, ?_⟩
  · unfold eN
    rw [pl_6, hw.1, bind_some', bt chT, (short_eq (by simp)).1, bind_some', shT h1, shT h2, shT h3]; simp [jn, cat, shA]
  · unfold eN
    rw [rp_6, bt (by simp [rc]), (short_eq (by simp)).2, bind_some', sh0T, shT h1, shT h2, shT h3]; rfl
  · unfold eN ref02_line
    simp only []
    rw [ef (by decide : (6 : Int) ≠ 1), ef (by decide : (6 : Int) ≠ 2), ef (by decide : (6 : Int) ≠ 3), ef (by decide : (6 : Int) ≠ 4), ef (by decide : (6 : Int) ≠ 5), hw.2, bind_some', dt (by simp at hl ⊢; omega)]; simp [jn, cat]
theorem pp_ly {e : T_Edit} (h : PP e) : LY e := by
  rcases h with ⟨h, s, rfl, p⟩ | ⟨f, t, l, a, w, r1, r2, l1, l2, rfl, p1, p2, p3, p4, p5, p6, p7, p8⟩ | ⟨r, rfl, p⟩ | ⟨r, rfl, p⟩ | ⟨r, a, b, rfl, p1, p2, p3⟩ | ⟨r, a, b, rfl, p1, p2, p3⟩
  · exact ly_1 p
  · exact ly_2 p1 p2 p3 p4 p5 p6 p7 p8
  · exact ly_3 p
  · exact ly_4 p
  · exact ly_5 p1 p2 p3
  · exact ly_6 p1 p2 p3
section
variable {h : Int} {s : Bool} {f t l a : Int} {w c : Bool} {r1 r2 l1 l2 rd s1 s2 : Int}
end
end Go.Proofs.YtipokcccpbcmeaaDoor
set_option linter.all false
namespace Go.Proofs.YtipokcccpbcmeaaDoor
open Go.Pv M
/-! ### check values -/
def sm : Nat → List UInt8 → Nat
  | h, [] => h
  | h, c :: l => sm ((h * 31 + c.toNat) % 65521) l
theorem u8lt (c : UInt8) : c.toNat < 256 := c.toNat_lt
theorem sum_loop {s : List UInt8} (hs : s.length ≤ 1000000000000000000) : ∀ (j f k h : Nat), j + k = s.length → j < f → h < 65521 → survey_Sum_L1 1267650600228229401496703205376 f s h k = some (sm h (s.drop k) : Int)
  | 0, f + 1, k, h, hk, hf, hh => by
    rw [drop_nil (by omega), survey_Sum_L1_succ, df (by omega)]; rfl
  | j + 1, f + 1, k, h, hk, hf, hh => by
    have hc := u8lt (s.getD k 0)
    rw [drop_cons 0 (by omega : k < s.length), survey_Sum_L1_succ, dt (by omega), it (by omega), Int.toNat_natCast, W_eq (n := (h : Int) * 31) (by omega) (by omega), W_eq (n := ((s.getD k 0).toNat : Int)) (by omega) (by omega), W_eq (by omega) (by omega), W_eq (n := (k : Int) + 1) (by omega) (by omega),
      show ((h : Int) * 31 + ((s.getD k 0).toNat : Int)) = ((h * 31 + (s.getD k 0).toNat : Nat) : Int) by omega, show (65521 : Int) = ((65521 : Nat) : Int) from rfl, ← Int.ofNat_tmod, show ((k : Int) + 1) = ((k + 1 : Nat) : Int) by omega]
    exact sum_loop hs j f (k + 1) _ (by omega) (by omega) (Nat.mod_lt _ (by omega))
theorem rsum_loop {s : List UInt8} (hs : s.length ≤ 1000000000000000000) : ∀ (j f k h : Nat), j + k = s.length → j < f → h < 65521 → ref02_Sum_L1 1267650600228229401496703205376 f s h k = some (sm h (s.drop k) : Int)
  | 0, f + 1, k, h, hk, hf, hh => by
    rw [drop_nil (by omega), ref02_Sum_L1_succ, df (by omega)]; rfl
  | j + 1, f + 1, k, h, hk, hf, hh => by
    have hc := u8lt (s.getD k 0)
    rw [drop_cons 0 (by omega : k < s.length), ref02_Sum_L1_succ, dt (by omega), it (by omega), Int.toNat_natCast, W_eq (n := (h : Int) * 31) (by omega) (by omega), W_eq (n := ((s.getD k 0).toNat : Int)) (by omega) (by omega), W_eq (by omega) (by omega), W_eq (n := (k : Int) + 1) (by omega) (by omega),
      show ((h : Int) * 31 + ((s.getD k 0).toNat : Int)) = ((h * 31 + (s.getD k 0).toNat : Nat) : Int) by omega, show (65521 : Int) = ((65521 : Nat) : Int) from rfl, ← Int.ofNat_tmod, show ((k : Int) + 1) = ((k + 1 : Nat) : Int) by omega]
    exact rsum_loop hs j f (k + 1) _ (by omega) (by omega) (Nat.mod_lt _ (by omega))
theorem sum_eq {s : List UInt8} (hs : s.length ≤ 1000000000000000000) : survey_Sum 1267650600228229401496703205376 s = some (sm 1 s : Int) := sum_loop hs s.length 1267650600228229401496703205376 0 1 rfl (by omega) (by omega)
theorem rsum_eq {s : List UInt8} (hs : s.length ≤ 1000000000000000000) : ref02_Sum 1267650600228229401496703205376 s = some (sm 1 s : Int) := rsum_loop hs s.length 1267650600228229401496703205376 0 1 rfl (by omega) (by omega)
/-! ### files -/
inductive Body : List T_Edit → List UInt8 → Prop
  | nil : Body [] []
  | cons {e : T_Edit} {w : List (List UInt8)} {l : List T_Edit} {t : List UInt8} (h : PlE e w) (k : Body l t) : Body (e :: l) (jn w ++ [10] ++ t)
theorem okNum_len {a : List UInt8} (h : okNum a) : a.length ≤ 19 := by
  obtain ⟨h1, h2, _⟩ := h
  unfold dig at h2
  split at h2
  · rw [List.length_drop] at h2; omega
  · omega
theorem jn_len : ∀ (w : List (List UInt8)), (∀ a, a ∈ w → a.length ≤ 19) → (jn w).length ≤ 20 * w.length
  | [], _ => by simp [jn]
  | [a], h => by have := h a (by simp); simp [jn]; omega
  | a :: b :: t, h => by
    have h1 := h a (by simp)
    have h2 := jn_len (b :: t) fun x hx => h x (List.mem_cons_of_mem _ hx)
    rw [jn, List.length_append, List.length_cons]
    simp only [List.length_cons] at h2 ⊢
    omega
theorem PlE.len {e : T_Edit} {w : List (List UInt8)} (h : PlE e w) : (jn w).length ≤ 200 := by
  have key : (∀ a, a ∈ w → a.length ≤ 19) ∧ w.length ≤ 10 := by
    have ol : ∀ {l : List (List UInt8)}, okAll l → ∀ a, a ∈ l → a.length ≤ 19 := fun h a ha => okNum_len (h a ha)
    cases h with
    | p a s h => exact ⟨fun x hx => by
        simp only [List.mem_cons, List.not_mem_nil, or_false] at hx
        rcases hx with rfl | rfl | rfl
        · decide
        · exact okNum_len h
        · cases s <;> decide, by simp⟩
    | r a1 a2 a3 a4 b1 b2 b3 b4 w h h' =>
      simp only [okAll_cons] at h h'
      exact ⟨fun x hx => by
        simp only [List.mem_cons, List.not_mem_nil, or_false] at hx
        rcases hx with rfl | rfl | rfl | rfl | rfl | rfl | rfl | rfl | rfl | rfl
        · decide
        · exact okNum_len h.1
        · exact okNum_len h.2.1
        · exact okNum_len h.2.2.1
        · exact okNum_len h.2.2.2.1
        · cases w <;> decide
        · exact okNum_len h'.1
        · exact okNum_len h'.2.1
        · exact okNum_len h'.2.2.1
        · exact okNum_len h'.2.2.2.1, by simp⟩
    | c a h | o a h => exact ⟨fun x hx => by
        simp only [List.mem_cons, List.not_mem_nil, or_false] at hx
        rcases hx with rfl | rfl
        · decide
        · exact okNum_len h, by simp⟩
    | s a b c h | l a b c h => exact ⟨fun x hx => by
        rcases List.mem_cons.1 hx with rfl | hx
        · decide
        · exact ol h x hx, by simp⟩
  have := jn_len w key.1
  omega
theorem Body.len {l : List T_Edit} {t : List UInt8} (h : Body l t) : t.length ≤ 201 * l.length := by
  induction h with
  | nil => simp
  | cons h k ih =>
    have := h.len
    simp only [List.length_append, List.length_cons, List.length_nil]; omega
/-- The words of an edit. -/
def wo (e : T_Edit) : List (List UInt8) :=
  if e.1 = 1 then [PL, itoaM e.2.1.1, if e.2.1.2 then SU else BE]
  else if e.1 = 2 then [RO, itoaM e.2.2.1.1, itoaM e.2.2.1.2.1, itoaM e.2.2.1.2.2.1, itoaM e.2.2.1.2.2.2.1, if e.2.2.1.2.2.2.2.1 then WA else MA, itoaM e.2.2.1.2.2.2.2.2.2.1.1, itoaM e.2.2.1.2.2.2.2.2.2.1.2, itoaM e.2.2.1.2.2.2.2.2.2.2.1, itoaM e.2.2.1.2.2.2.2.2.2.2.2]
  else if e.1 = 3 then [CL, itoaM e.2.2.2.1]
  else if e.1 = 4 then [OP, itoaM e.2.2.2.1]
  else if e.1 = 5 then [RE, itoaM e.2.2.2.1, itoaM e.2.2.2.2.1, itoaM e.2.2.2.2.2]
  else [LI, itoaM e.2.2.2.1, itoaM e.2.2.2.2.1, itoaM e.2.2.2.2.2]
theorem num1 {a : List UInt8} (h : okNum a) : itoaM (numV a) = a := (ok_isNum h).2.symm
theorem PlE.wo {e : T_Edit} {w : List (List UInt8)} (h : PlE e w) : w = wo e := by
  cases h with
  | p a s h =>
    show _ = [PL, itoaM (numV a), if s then SU else BE]
    rw [num1 h]
  | r a1 a2 a3 a4 b1 b2 b3 b4 x h k =>
    simp only [okAll_cons] at h k
    show _ = [RO, itoaM (numV a1), itoaM (numV a2), itoaM (numV a3), itoaM (numV a4), if x then WA else MA, itoaM (numV b1), itoaM (numV b2), itoaM (numV b3), itoaM (numV b4)]
    rw [num1 h.1, num1 h.2.1, num1 h.2.2.1, num1 h.2.2.2.1, num1 k.1, num1 k.2.1, num1 k.2.2.1, num1 k.2.2.2.1]
  | c a h => show _ = [CL, itoaM (numV a)]; rw [num1 h]
  | o a h => show _ = [OP, itoaM (numV a)]; rw [num1 h]
  | s a b c h =>
    simp only [okAll_cons] at h
    show _ = [RE, itoaM (numV a), itoaM (numV b), itoaM (numV c)]
    rw [num1 h.1, num1 h.2.1, num1 h.2.2.1]
  | l a b c h =>
    simp only [okAll_cons] at h
    show _ = [LI, itoaM (numV a), itoaM (numV b), itoaM (numV c)]
    rw [num1 h.1, num1 h.2.1, num1 h.2.2.1]
/-- The text of an edit is one. -/
theorem PlE.one {e : T_Edit} {w : List (List UInt8)} (h : PlE e w) : survey_line 1267650600228229401496703205376 e = some (jn w, true) ∧ ref02_line 1267650600228229401496703205376 e = some (jn w ++ [10]) := by
  obtain ⟨w', h', h1, _, h2⟩ := pp_ly h.pp
  have hw : w = w' := h.wo.trans h'.wo.symm
  rw [hw]; exact ⟨h1, h2⟩
def endL (t : List UInt8) : List UInt8 := SM ++ cat [(sm 1 t : Int)] ++ [10]
def full (t : List UInt8) : List UInt8 := t ++ endL t
def fin (t : List UInt8) : List UInt8 × Int := if (full t).length > 65536 then ([], 2) else (full t, 0)
end Go.Proofs.YtipokcccpbcmeaaDoor
set_option linter.all false
namespace Go.Proofs.YtipokcccpbcmeaaDoor
open Go.Pv M
theorem idx_lt (c : UInt8) : ∀ (l : List UInt8) (i : Nat), M.idx c l = i → i < l.length ∧ l.getD i 0 = c ∧ ∀ j, j < i → l.getD j 0 ≠ c
  | [], i, h => by rw [M.idx] at h; omega
  | b :: l, i, h => by
    rw [M.idx] at h
    by_cases hb : b = c
    · subst hb
      rw [bt (by simp)] at h
      have : i = 0 := by omega
      subst this
      exact ⟨by simp, rfl, fun j hj => by omega⟩
    · rw [bf (beq_eq_false_iff_ne.2 hb)] at h
      cases hz : M.idx c l == -1 with
      | true => rw [hz, cond_true] at h; omega
      | false =>
        rw [hz, cond_false] at h
        have hge := idx_ge c l
        have hne : M.idx c l ≠ -1 := by simpa using hz
        obtain ⟨k, hk⟩ : ∃ k : Nat, M.idx c l = k := ⟨(M.idx c l).toNat, by omega⟩
        obtain ⟨g1, g2, g3⟩ := idx_lt c l k hk
        have : i = k + 1 := by omega
        subst this
        refine ⟨by simp; omega, g2, fun j hj => ?_⟩
        cases j with
        | zero => exact hb
        | succ j => exact g3 j (by omega)
theorem cut_eq (r : List UInt8) (hr : r.length ≤ 1000000000000000000) : strings_Cut 1267650600228229401496703205376 r [10] = some (if M.idx 10 r = -1 then (r, [], false) else (r.take (M.idx 10 r).toNat, r.drop ((M.idx 10 r).toNat + 1), true)) := by
  unfold strings_Cut internal_stringslite_Cut internal_stringslite_Index
  simp only [bind_some']
  have hge := idx_ge 10 r
  by_cases h : M.idx 10 r = -1
  · rw [if_pos h, df (by omega)]; rfl
  · rw [if_neg h, dt (by omega)]
    obtain ⟨i, hi⟩ : ∃ i : Nat, M.idx 10 r = i := ⟨(M.idx 10 r).toNat, by omega⟩
    obtain ⟨g1, _⟩ := idx_lt 10 r i hi
    rw [hi, slB_true (by omega), cond_true]
    have hw : W ((i : Int) + (([10] : List UInt8).length : Int)) = ((i + 1 : Nat) : Int) := by rw [W_eq (by simp; omega) (by simp; omega)]; simp
    rw [hw, slB_true (by omega), cond_true]
    rfl
theorem index_eq (r : List UInt8) : strings_Index 1267650600228229401496703205376 r [10] = some (M.idx 10 r) := rfl
theorem split_eq {x : List UInt8} (hx : x.length < 4294967281) : strings_Split 1267650600228229401496703205376 x [32] = some (spl 32 x) := by
  unfold strings_Split; rw [dt hx]
def SMb (b : List UInt8) : List UInt8 := SM ++ 32 :: b
theorem pre_iff {x : List UInt8} : Lib.hasPrefix x (SM ++ [32]) = true ↔ ∃ b, x = SMb b := by
  unfold Lib.hasPrefix
  rw [List.isPrefixOf_iff_prefix]
  constructor
  · rintro ⟨b, rfl⟩; exact ⟨b, by simp [SMb]⟩
  · rintro ⟨b, rfl⟩; exact ⟨b, by simp [SMb]⟩
theorem hasP (x : List UInt8) : strings_HasPrefix 1267650600228229401496703205376 x [115, 117, 109, 32] = some (Lib.hasPrefix x (SM ++ [32])) := rfl
theorem smb_spl {b : List UInt8} (h : okNum b) : spl 32 (SMb b) = [SM, b] := by
  unfold SMb
  rw [spl_app SM b (fun c hc => (wclean (a := SM) (by decide) c hc).1), spl_word b fun c hc => (okNum_clean h c hc).1]
theorem spl_smb {x b : List UInt8} (h : spl 32 x = [SM, b]) : x = SMb b := by
  have := jn_spl x
  rw [h] at this
  rw [← this]; rfl
/-- What a line does, to both. -/
def sumR (s : List UInt8) (a i n : Nat) (b : List UInt8) (out : List T_Edit) : List T_Edit × Int × Int := if numV b ≠ (sm 1 (s.take a) : Int) then ([], (n : Int), 7) else if a + i + 1 < s.length then ([], ((n + 1 : Nat) : Int), 6) else (out, 0, 0)
inductive Stp (s : List UInt8) (a n : Nat) (out : List T_Edit) (f : Nat) : Prop
  | none (h : M.idx 10 (s.drop a) = -1) (p : survey_Parse_L1 1267650600228229401496703205376 (f + 1) s a n out = some ([], (n : Int), 6)) (r : ref02_Parse_L1 1267650600228229401496703205376 (f + 1) s a n out = some ([], (n : Int), 6))
  | sum (i : Nat) (b : List UInt8) (h : M.idx 10 (s.drop a) = i) (hx : (s.drop a).take i = SMb b) (hb : okNum b) (p : survey_Parse_L1 1267650600228229401496703205376 (f + 1) s a n out = some (sumR s a i n b out)) (r : ref02_Parse_L1 1267650600228229401496703205376 (f + 1) s a n out = some (sumR s a i n b out))
  | edit (i : Nat) (e : T_Edit) (w : List (List UInt8)) (h : M.idx 10 (s.drop a) = i) (hx : (s.drop a).take i = jn w) (he : PlE e w) (p : survey_Parse_L1 1267650600228229401496703205376 (f + 1) s a n out = if n > 1000 then some ([], (n : Int), 2) else survey_Parse_L1 1267650600228229401496703205376 f s ((a + i + 1 : Nat) : Int) ((n + 1 : Nat) : Int) (out ++ [e])) (r : ref02_Parse_L1 1267650600228229401496703205376 (f + 1) s a n out = if n > 1000 then some ([], (n : Int), 2) else ref02_Parse_L1 1267650600228229401496703205376 f s ((a + i + 1 : Nat) : Int) ((n + 1 : Nat) : Int) (out ++ [e]))
  | bad (i : Nat) (h : M.idx 10 (s.drop a) = i) (h1 : ∀ b, okNum b → (s.drop a).take i ≠ SMb b) (h2 : ∀ e w, PlE e w → (s.drop a).take i ≠ jn w) (p : survey_Parse_L1 1267650600228229401496703205376 (f + 1) s a n out = some ([], (n : Int), 6)) (r : ref02_Parse_L1 1267650600228229401496703205376 (f + 1) s a n out = some ([], (n : Int), 6))
theorem ple_word {e : T_Edit} {w : List (List UInt8)} (h : PlE e w) : w.getD 0 [] ≠ SM ∧ ∀ b, jn w ≠ SMb b := by
  have key : w.getD 0 [] ≠ SM := by
    cases h with
    | p => intro e; exact absurd (show PL = SM from e) (by decide)
    | r => intro e; exact absurd (show RO = SM from e) (by decide)
    | c => intro e; exact absurd (show CL = SM from e) (by decide)
    | o => intro e; exact absurd (show OP = SM from e) (by decide)
    | s => intro e; exact absurd (show RE = SM from e) (by decide)
    | l => intro e; exact absurd (show LI = SM from e) (by decide)
  refine ⟨key, fun b hb => ?_⟩
  have := h.spl
  rw [hb] at this
  have e : spl 32 (SMb b) = SM :: spl 32 b := by unfold SMb; rw [spl_app SM b fun c hc => (wclean (a := SM) (by decide) c hc).1]
  rw [e] at this
  rw [← this] at key
  exact key rfl

theorem stp {s : List UInt8} (hs : s.length ≤ 65536) {a n : Nat} (ha : a ≤ s.length) (hn : n ≤ 100000) {out : List T_Edit} (ho : out.length ≤ 100000) (f : Nat) : Stp s a n out f := by
  have hdl : (s.drop a).length = s.length - a := List.length_drop ..
  have hge := idx_ge 10 (s.drop a)
  by_cases h : M.idx 10 (s.drop a) = -1
  · refine .none h ?_ ?_
    · rw [survey_Parse_L1_succ, slB_true (by omega), cond_true, Int.toNat_natCast, cut_eq _ (by omega), if_pos h, bind_some', bnot_f rfl]
    · rw [ref02_Parse_L1_succ, slB_true (by omega), cond_true, Int.toNat_natCast, index_eq, bind_some', dt (by omega)]
  · obtain ⟨i, hi⟩ : ∃ i : Nat, M.idx 10 (s.drop a) = i := ⟨(M.idx 10 (s.drop a)).toNat, by omega⟩
    obtain ⟨g1, g2, g3⟩ := idx_lt 10 _ i hi
    obtain ⟨x, hx⟩ : ∃ x, (s.drop a).take i = x := ⟨_, rfl⟩
    have hxl : x.length = i := by rw [← hx, List.length_take]; omega
    have hsp : strings_Split 1267650600228229401496703205376 x [32] = some (spl 32 x) := split_eq (by omega)
    have hp0 := spl_pos 32 x
    have hpl := spl_len 32 x
    -- both, up to the line
    have p1 : survey_Parse_L1 1267650600228229401496703205376 (f + 1) s a n out = bif ((spl 32 x).getD 0 [] == SM) then (Option.bind (survey_numbers 1267650600228229401496703205376 ((spl 32 x).drop 1) 1) fun r10 => bif (!r10.2) then some ([], (n : Int), 6) else bif inB 0 r10.1.length then (bif (r10.1.getD 0 0 != (sm 1 (s.take a) : Int)) then some ([], (n : Int), 7) else bif decide (((a + i + 1 : Nat) : Int) < (s.length : Int)) then some ([], ((n + 1 : Nat) : Int), 6) else some (out, 0, 0)) else none)
        else Option.bind (survey_read 1267650600228229401496703205376 x) fun r15 => bif (!r15.2) then some ([], (n : Int), 6) else bif decide ((n : Int) > 1000) then some ([], (n : Int), 2) else survey_Parse_L1 1267650600228229401496703205376 f s ((a + i + 1 : Nat) : Int) ((n + 1 : Nat) : Int) (out ++ [r15.1]) := by
      rw [survey_Parse_L1_succ, slB_true (by omega), cond_true, Int.toNat_natCast, cut_eq _ (by omega), if_neg h, bind_some', bnot_t rfl, hi, Int.toNat_natCast]
      simp only []
      rw [hx, hsp, bind_some', it (by omega), fitsB_true (by omega), slB_true (a := 1) (by omega), slB_true (a := 0) (by omega)]
      have e0 : (spl 32 x).getD (0 : Int).toNat [] = (spl 32 x).getD 0 [] := rfl
      have e1 : (spl 32 x).drop (1 : Int).toNat = (spl 32 x).drop 1 := rfl
      rw [e0, e1, sum_eq (by rw [List.length_take]; omega), hxl, W_eq (n := (a : Int) + (i : Int)) (by omega) (by omega), W_eq (n := (a : Int) + (i : Int) + 1) (by omega) (by omega), W_eq (n := (i : Int) + 1) (by omega) (by omega), W_eq (n := (a : Int) + ((i : Int) + 1)) (by omega) (by omega), W_eq (n := (n : Int) + 1) (by omega) (by omega),
        show (a : Int) + (i : Int) + 1 = ((a + i + 1 : Nat) : Int) by omega, show (a : Int) + ((i : Int) + 1) = ((a + i + 1 : Nat) : Int) by omega, show (n : Int) + 1 = ((n + 1 : Nat) : Int) by omega]
      rfl
    have r1 : ref02_Parse_L1 1267650600228229401496703205376 (f + 1) s a n out = bif Lib.hasPrefix x (SM ++ [32]) then (Option.bind (ref02_number 1267650600228229401496703205376 (x.drop 4)) fun r10 => bif (!r10.2) then some ([], (n : Int), 6) else (bif (r10.1 != (sm 1 (s.take a) : Int)) then some ([], (n : Int), 7) else bif decide (((a + i + 1 : Nat) : Int) < (s.length : Int)) then some ([], ((n + 1 : Nat) : Int), 6) else some (out, 0, 0)))
        else Option.bind (ref02_edit 1267650600228229401496703205376 x) fun r15 => bif (!r15.2) then some ([], (n : Int), 6) else bif decide ((n : Int) > 1000) then some ([], (n : Int), 2) else ref02_Parse_L1 1267650600228229401496703205376 f s ((a + i + 1 : Nat) : Int) ((n + 1 : Nat) : Int) (out ++ [r15.1]) := by
      rw [ref02_Parse_L1_succ, slB_true (by omega), cond_true, Int.toNat_natCast, index_eq, bind_some', hi, df (by omega), W_eq (n := (a : Int) + (i : Int)) (by omega) (by omega), slB_true (by omega), cond_true]
      have ex : (s.drop a).take (((a : Int) + (i : Int)).toNat - a) = x := by rw [← hx]; congr 1; omega
      simp only []
      rw [ex, hasP, bind_some', fitsB_true (by omega), rsum_eq (by rw [List.length_take]; omega), W_eq (n := (a : Int) + (i : Int) + 1) (by omega) (by omega), W_eq (n := (i : Int) + 1) (by omega) (by omega), W_eq (n := (a : Int) + ((i : Int) + 1)) (by omega) (by omega), W_eq (n := (n : Int) + 1) (by omega) (by omega),
        show (a : Int) + (i : Int) + 1 = ((a + i + 1 : Nat) : Int) by omega, show (a : Int) + ((i : Int) + 1) = ((a + i + 1 : Nat) : Int) by omega, show (n : Int) + 1 = ((n + 1 : Nat) : Int) by omega]
      cases hpre : Lib.hasPrefix x (SM ++ [32]) with
      | false => rfl
      | true =>
        obtain ⟨b, rfl⟩ := pre_iff.1 hpre
        rw [cond_true, cond_true, slB_true (a := 4) (by simp [SMb] at hxl ⊢; omega), slB_true (a := 0) (by omega)]
        rfl
    have hcls := cls_of hsp hp0 (by omega)
    by_cases hS : ∃ b, okNum b ∧ x = SMb b
    · obtain ⟨b, hb, rfl⟩ := hS
      refine .sum i b hi hx hb ?_ ?_
      · rw [p1, smb_spl hb]
        rw [show ([SM, b] : List (List UInt8)).getD 0 [] = SM from rfl, bt (beq_self_eq_true SM), show ([SM, b] : List (List UInt8)).drop 1 = [b] from rfl, (nums_eq (n := 1) (l := [b]) (by simp) rfl).1 (okAll_cons.2 ⟨hb, fun s hs => by cases hs⟩), bind_some', bnot_t rfl, it (by simp)]
        show (bif (numV b != (sm 1 (s.take a) : Int)) then _ else _) = _
        unfold sumR
        by_cases q : numV b = (sm 1 (s.take a) : Int)
        · rw [nf q, if_neg (fun h => h q)]
          by_cases q2 : a + i + 1 < s.length
          · rw [dt (by omega), if_pos q2]
          · rw [df (by omega), if_neg q2]
        · rw [nt q, if_pos q]
      · rw [r1, bt (pre_iff.2 ⟨b, rfl⟩), show (SMb b).drop 4 = b from rfl, num_R hb, bind_some', bnot_t rfl]
        show (bif (numV b != (sm 1 (s.take a) : Int)) then _ else _) = _
        unfold sumR
        by_cases q : numV b = (sm 1 (s.take a) : Int)
        · rw [nf q, if_neg (fun h => h q)]
          by_cases q2 : a + i + 1 < s.length
          · rw [dt (by omega), if_pos q2]
          · rw [df (by omega), if_neg q2]
        · rw [nt q, if_pos q]
    · have nS : ∀ b, okNum b → x ≠ SMb b := fun b hb e => hS ⟨b, hb, e⟩
      have hpre : Lib.hasPrefix x (SM ++ [32]) = true → ref02_Parse_L1 1267650600228229401496703205376 (f + 1) s a n out = some ([], (n : Int), 6) := fun hq => by
        obtain ⟨b, hb⟩ := pre_iff.1 hq
        have hnb : ¬ okNum b := fun h => nS b h hb
        obtain ⟨z, hz⟩ := num_Rn hnb
        rw [r1, bt hq, hb, show (SMb b).drop 4 = b from rfl, hz, bind_some', bnot_f rfl]
      rcases hcls with ⟨e, he, h1, h2⟩ | ⟨hne, ⟨y, h1⟩, z, h2⟩
      · have hw := ple_word he
        have hxw : x = jn (spl 32 x) := (jn_spl x).symm
        have hnp : Lib.hasPrefix x (SM ++ [32]) = false := by
          cases hq : Lib.hasPrefix x (SM ++ [32]) with
          | false => rfl
          | true =>
            obtain ⟨b, hb⟩ := pre_iff.1 hq
            exact absurd (hxw.symm.trans hb) (hw.2 b)
        refine .edit i e (spl 32 x) hi (hx.trans hxw) he ?_ ?_
        · rw [p1, bf (beq_eq_false_iff_ne.2 hw.1), h1, bind_some', bnot_t rfl]
          by_cases q : n > 1000
          · rw [dt (by omega), if_pos q]
          · rw [df (by omega), if_neg q]
        · rw [r1, bf hnp, h2, bind_some', bnot_t rfl]
          by_cases q : n > 1000
          · rw [dt (by omega), if_pos q]
          · rw [df (by omega), if_neg q]
      · refine .bad i hi (fun b hb e => nS b hb (hx.symm.trans e)) (fun e w he h => ?_) ?_ ?_
        · have e1 : spl 32 x = w := by rw [← hx, h, he.spl]
          exact hne e (e1 ▸ he)
        · rw [p1]
          by_cases q : (spl 32 x).getD 0 [] = SM
          · rw [bt (by rw [q]; rfl)]
            by_cases q1 : (((spl 32 x).drop 1).length : Int) = 1
            · obtain ⟨t, ht, hl⟩ := three hp0 (n := 1) (by rw [List.length_drop] at q1; omega)
              obtain ⟨b, rfl⟩ := l1 hl
              rw [q] at ht
              have hnb : ¬ okNum b := fun h => nS b h (spl_smb ht)
              rw [(nums_eq (by omega) q1).2 (by rw [ht]; exact fun h => hnb (okAll_cons.1 h).1), bind_some', bnot_f rfl]
            · rw [nums_ne q1, bind_some', bnot_f rfl]
          · rw [bf (beq_eq_false_iff_ne.2 q), h1, bind_some', bnot_f rfl]
        · cases hq : Lib.hasPrefix x (SM ++ [32]) with
          | true => exact hpre hq
          | false => rw [r1, bf hq, h2, bind_some', bnot_f rfl]
/-! ### what is read, was printed -/
theorem PlE.inj {e e' : T_Edit} {w : List (List UInt8)} (h : PlE e w) (h' : PlE e' w) : e = e' := by
  generalize hw : w = w' at h'
  have ns : ∀ {b b' : Bool}, (if b then SU else BE) = (if b' then SU else BE) → b = b' := fun {b b'} h => by
    cases b <;> cases b' <;> first | rfl | exact absurd h (by decide)
  have nw : ∀ {b b' : Bool}, (if b then WA else MA) = (if b' then WA else MA) → b = b' := fun {b b'} h => by
    cases b <;> cases b' <;> first | rfl | exact absurd h (by decide)
  cases h with
  | p a s q =>
    cases h' with
    | p a' s' q' => simp only [List.cons.injEq] at hw; rw [hw.2.1, ns hw.2.2.1]
    | _ => injection hw with e1 _; exact absurd e1 (by decide)
  | r a1 a2 a3 a4 b1 b2 b3 b4 x q k =>
    cases h' with
    | r a1' a2' a3' a4' b1' b2' b3' b4' x' q' k' =>
      simp only [List.cons.injEq] at hw
      obtain ⟨-, rfl, rfl, rfl, rfl, e5, rfl, rfl, rfl, rfl, -⟩ := hw
      rw [nw e5]
    | _ => injection hw with e1 _; exact absurd e1 (by decide)
  | c a q =>
    cases h' with
    | c a' q' => simp only [List.cons.injEq] at hw; rw [hw.2.1]
    | _ => injection hw with e1 _; exact absurd e1 (by decide)
  | o a q =>
    cases h' with
    | o a' q' => simp only [List.cons.injEq] at hw; rw [hw.2.1]
    | _ => injection hw with e1 _; exact absurd e1 (by decide)
  | s a b c q =>
    cases h' with
    | s a' b' c' q' => simp only [List.cons.injEq] at hw; rw [hw.2.1, hw.2.2.1, hw.2.2.2.1]
    | _ => injection hw with e1 _; exact absurd e1 (by decide)
  | l a b c q =>
    cases h' with
    | l a' b' c' q' => simp only [List.cons.injEq] at hw; rw [hw.2.1, hw.2.2.1, hw.2.2.2.1]
    | _ => injection hw with e1 _; exact absurd e1 (by decide)
end Go.Proofs.YtipokcccpbcmeaaDoor
set_option linter.all false
namespace Go.Proofs.YtipokcccpbcmeaaDoor
open Go.Pv M
theorem awake_true : law02_awake 1267650600228229401496703205376 = some true := by kernel_rfl
theorem sh {v : Int} (h1 : -1000000 ≤ v) (h2 : v ≤ 1000000) : Sh v := by unfold Sh; omega
/-! ### the laws -/
theorem sums_eq {a b : List UInt8} (ha : a.length ≤ 281474976710656) (hb : b.length ≤ 281474976710656) : law02_SurveySums 1267650600228229401496703205376 a b = some true := by
  unfold law02_SurveySums
  rw [sum_eq (by omega), rsum_eq (by omega), bind_some', bind_some', et rfl, dt (by omega), sum_eq (by rw [List.length_append]; omega), bind_some', dt (by omega), rsum_eq (by rw [List.length_append]; omega), bind_some', et rfl, awake_true]
  rfl
end Go.Proofs.YtipokcccpbcmeaaDoor
set_option linter.all false
namespace Go.Proofs.YtipokcccpbcmeaaDoor
open Go.Pv M
theorem surveySums_any (dargs : List DV) (h : TyAs [(false, [.st]), (false, [.st])] dargs) (hw0 : ∀ (s : ByteArray), dargs[0]? = some (DV.v (.string s)) → s.size ≤ 281474976710656) (hw1 : ∀ (s : ByteArray), dargs[1]? = some (DV.v (.string s)) → s.size ≤ 281474976710656) : CallOK Tryd.prog 3 dargs [] 0 (B true) [] 0 := by
  obtain ⟨x, rfl, hx⟩ := open_els [.str, .str] dargs h
  have h0 := hw0 (mkS x.1) rfl
  have h1 := hw1 (mkS x.2) rfl
  have h0 : x.1.length ≤ 281474976710656 := by simpa [mkS, ByteArray.size] using h0
  have h1 : x.2.length ≤ 281474976710656 := by simpa [mkS, ByteArray.size] using h1
  exact law02_SurveySums_pure 1267650600228229401496703205376 x true (sums_eq h0 h1) 0
end Go.Proofs.YtipokcccpbcmeaaDoor
