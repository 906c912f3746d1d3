/- What the reference's From gives: all that open roads connect. What is cut off. No condition of its own. -/
import Derived.Test.YtdmggkpefjpknaaPi
import Derived.Test.YtdmggkpefjpknaaPc
set_option linter.all false
namespace Go.Proofs.Ytdmggkpefjpknaa
open Go.Pv M

abbrev bg (l : List Bool) (j : Nat) : Bool := l.getD j false
theorem bg_set {l : List Bool} {i : Nat} {x : Bool} (hi : i < l.length) (j : Nat) : bg (l.set i x) j = if j = i then x else bg l j := by
  unfold bg
  rw [List.getD_eq_getElem?_getD, List.getElem?_set]
  by_cases e : j = i
  · subst e; rw [if_pos rfl, if_pos hi, if_pos rfl]; rfl
  · rw [if_neg (fun e' => e e'.symm), if_neg e, List.getD_eq_getElem?_getD]
theorem bg_rep (n j : Nat) : bg (List.replicate n false) j = false := by
  unfold bg; rw [List.getD_eq_getElem?_getD, List.getElem?_replicate]; split <;> rfl
def fls (l : List Bool) : Nat := l.countP fun b => !b
theorem fls_set {l : List Bool} {i : Nat} (hi : i < l.length) : fls (l.set i true) + (if bg l i = true then 0 else 1) = fls l := by
  unfold fls bg
  rw [List.countP_set hi, List.getD_eq_getElem?_getD, List.getElem?_eq_getElem hi, Option.getD_some]
  cases hb : l[i] with
  | true => simp
  | false =>
    have hpos : 0 < l.countP fun b => !b := List.countP_pos_iff.2 ⟨l[i], List.getElem_mem hi, by simp [hb]⟩
    simp
    omega

/-- From l0, s: what a pass over the roads has come to. -/
structure Fr1 (m : T_Mine) (l0 s : List Bool) (idx : Nat) (flag : Bool) (cur : List Bool) : Prop where
  len : cur.length = m.1.length
  snd : ∀ j, j < m.1.length → bg cur j = true → ∃ i, i < m.1.length ∧ bg l0 i = true ∧ Cn m i j
  mono : ∀ j, bg l0 j = true → bg cur j = true
  fl : flag = true → fls cur < fls s
  le : fls cur ≤ fls s
  eq : flag = false → ∀ q, q < idx → open_ (m.2.getD q D_Road) → bg cur (m.2.getD q D_Road).1.toNat = bg cur (m.2.getD q D_Road).2.1.toNat

theorem from_pass {m : T_Mine} (hm : Vm m) (l0 s : List Bool) (n1 : Nat) : ∀ (j f idx : Nat) (flag : Bool) (cur : List Bool), j + idx = m.2.length → j < f → Fr1 m l0 s idx flag cur →
    ∃ flag' cur', ref01_From_L2 1000 n1 f flag idx m.1 m.2 cur = ref01_From_L1 1000 n1 flag' m.1 m.2 cur' ∧ Fr1 m l0 s m.2.length flag' cur'
  | 0, f + 1, idx, flag, cur, hj, hf, h => by
    have : idx = m.2.length := by omega
    subst this
    rw [ref01_From_L2_succ, df (by omega)]
    exact ⟨flag, cur, rfl, h⟩
  | j + 1, f + 1, idx, flag, cur, hj, hf, h => by
    have n1' := hm.k
    have hidx : idx < m.2.length := by omega
    have hmem := getD_mem D_Road hidx
    have hr := (hm.r _ hmem).1
    have hlen := h.len
    rw [ref01_From_L2_succ, dt (by omega), it (by omega), Int.toNat_natCast, W_succ (by omega)]
    generalize hrr : m.2.getD idx D_Road = r at hmem hr ⊢
    unfold endE at hr
    by_cases ho : r.2.2.2.2.2.1 = true
    · rw [bnot_t ho]
      refine from_pass hm l0 s n1 j f (idx + 1) flag cur (by omega) (by omega) ⟨h.len, h.snd, h.mono, h.fl, h.le, fun hfl q hq hop => ?_⟩
      by_cases e : q = idx
      · subst e; rw [hrr] at hop; unfold open_ at hop; rw [ho] at hop; cases hop
      · exact h.eq hfl q (by omega) hop
    have ho : r.2.2.2.2.2.1 = false := by simpa using ho
    have ha : Adj m r.1.toNat r.2.1.toNat := ⟨r, hmem, ho, .inl ⟨by omega, by omega⟩⟩
    rw [bnot_f ho, it (by omega), it (by omega)]
    by_cases he : bg cur r.1.toNat = bg cur r.2.1.toNat
    · rw [show (cur.getD r.1.toNat false == cur.getD r.2.1.toNat false) = true by simpa using he]
      simp only [Bool.not_true, cond_false]
      refine from_pass hm l0 s n1 j f (idx + 1) flag cur (by omega) (by omega) ⟨h.len, h.snd, h.mono, h.fl, h.le, fun hfl q hq hop => ?_⟩
      by_cases e : q = idx
      · subst e; rw [hrr]; exact he
      · exact h.eq hfl q (by omega) hop
    · rw [show (cur.getD r.1.toNat false == cur.getD r.2.1.toNat false) = false by simpa using he]
      simp only [Bool.not_false, cond_true]
      rw [it (by omega), it (by rw [List.length_set]; omega)]
      have s1 := fls_set (l := cur) (i := r.1.toNat) (by omega)
      have s2 := fls_set (l := cur.set r.1.toNat true) (i := r.2.1.toNat) (by rw [List.length_set]; omega)
      have hg : ∀ q, bg ((cur.set r.1.toNat true).set r.2.1.toNat true) q = if q = r.2.1.toNat then true else if q = r.1.toNat then true else bg cur q := fun q => by
        rw [bg_set (by rw [List.length_set]; omega), bg_set (by omega)]
      have g2 : bg (cur.set r.1.toNat true) r.2.1.toNat = bg cur r.2.1.toNat := by rw [bg_set (by omega), if_neg (by omega)]
      rw [g2] at s2
      have hle := h.le
      have hdrop : fls ((cur.set r.1.toNat true).set r.2.1.toNat true) < fls s := by
        cases c1 : bg cur r.1.toNat <;> cases c2 : bg cur r.2.1.toNat <;> rw [c1] at s1 <;> rw [c2] at s2 <;> simp at s1 s2 <;> first | omega | (rw [c1, c2] at he; exact absurd rfl he)
      refine from_pass hm l0 s n1 j f (idx + 1) true _ (by omega) (by omega) ⟨by simp [hlen], fun q hq hb => ?_, fun q hq => ?_, fun _ => hdrop, by omega, fun hfl => by cases hfl⟩
      · rw [hg] at hb
        have one : ∀ x y, (x = r.1.toNat ∧ y = r.2.1.toNat ∨ x = r.2.1.toNat ∧ y = r.1.toNat) → bg cur x = true → ∃ i, i < m.1.length ∧ bg l0 i = true ∧ Cn m i y := by
          rintro x y hxy hb
          have hx : x < m.1.length := by rcases hxy with ⟨rfl, _⟩ | ⟨rfl, _⟩ <;> omega
          obtain ⟨i, h1, h2, h3⟩ := h.snd x hx hb
          refine ⟨i, h1, h2, h3.step ?_⟩
          rcases hxy with ⟨rfl, rfl⟩ | ⟨rfl, rfl⟩
          · exact ha
          · exact ha.symm
        have some1 : bg cur r.1.toNat = true ∨ bg cur r.2.1.toNat = true := by
          cases c1 : bg cur r.1.toNat <;> cases c2 : bg cur r.2.1.toNat <;> first | exact .inl rfl | exact .inr rfl | (rw [c1, c2] at he; exact absurd rfl he)
        split at hb
        · rename_i e; subst e
          rcases some1 with c | c
          · exact one _ _ (.inl ⟨rfl, rfl⟩) c
          · exact h.snd _ hq c
        · split at hb
          · rename_i e; subst e
            rcases some1 with c | c
            · exact h.snd _ hq c
            · exact one _ _ (.inr ⟨rfl, rfl⟩) c
          · exact h.snd q hq hb
      · rw [hg]; split
        · rfl
        · split
          · rfl
          · exact h.mono q hq

theorem from_loop {m : T_Mine} (hm : Vm m) (l0 : List Bool) : ∀ (M f : Nat) (s : List Bool), fls s = M → M + 1 < f → s.length = m.1.length → (∀ j, j < m.1.length → bg s j = true → ∃ i, i < m.1.length ∧ bg l0 i = true ∧ Cn m i j) → (∀ j, bg l0 j = true → bg s j = true) →
    ∃ out, ref01_From_L1 1000 f true m.1 m.2 s = some out ∧ out.length = m.1.length ∧ ∀ j, j < m.1.length → (bg out j = true ↔ ∃ i, i < m.1.length ∧ bg l0 i = true ∧ Cn m i j) := by
  intro M
  induction M using Nat.strongRecOn with
  | _ M ih =>
    intro f s hM hf hl hs hmo
    obtain ⟨f, rfl⟩ : ∃ g, f = g + 2 := ⟨f - 2, by omega⟩
    rw [ref01_From_L1_succ, cond_true]
    obtain ⟨flag, cur, e, h⟩ := from_pass hm l0 s (f + 1) m.2.length 1000 0 false s rfl (by have := hm.k; omega) ⟨hl, hs, hmo, fun h => (by cases h), Nat.le_refl _, fun _ q hq => by omega⟩
    rw [show ((0 : Nat) : Int) = 0 from rfl] at e
    rw [e]
    cases flag with
    | true =>
      have := h.fl rfl
      exact ih (fls cur) (by omega) (f + 1) cur rfl (by omega) h.len h.snd h.mono
    | false =>
      rw [ref01_From_L1_succ, cond_false]
      refine ⟨cur, rfl, h.len, fun j hj => ⟨h.snd j hj, ?_⟩⟩
      rintro ⟨i, h1, h2, h3⟩
      have hi := h.mono i h2
      clear hj
      induction h3 with
      | refl => exact hi
      | step hb a ih =>
        obtain ⟨r, q1, q2, q3⟩ := a
        obtain ⟨q, hq, eq⟩ := List.mem_iff_getElem.1 q1
        have := h.eq rfl q hq (by rw [List.getD_eq_getElem?_getD, List.getElem?_eq_getElem hq]; show open_ m.2[q]; rw [eq]; exact q2)
        rw [List.getD_eq_getElem?_getD, List.getElem?_eq_getElem hq, Option.getD_some, eq] at this
        rcases q3 with ⟨a1, a2⟩ | ⟨a1, a2⟩
        · rw [a1, a2, Int.toNat_natCast, Int.toNat_natCast] at this; rw [← this]; exact ih
        · rw [a1, a2, Int.toNat_natCast, Int.toNat_natCast] at this; rw [this]; exact ih
theorem from_spec {m : T_Mine} (hm : Vm m) {l : List Bool} (hl : l.length = m.1.length) : ∃ out, ref01_From 1000 m l = some out ∧ out.length = m.1.length ∧ ∀ j, j < m.1.length → (bg out j = true ↔ ∃ i, i < m.1.length ∧ bg l i = true ∧ Cn m i j) := by
  have n1 := hm.n
  unfold ref01_From
  rw [fitsB_true (by omega), cond_true]
  have : fls l ≤ l.length := List.countP_le_length
  exact from_loop hm l (fls l) 1000 l rfl (by omega) hl (fun j hj h => ⟨j, hj, h, .refl j⟩) fun j h => h

/-! ### Lists of places -/
def coll (p : Nat → Bool) : Nat → Nat → List Int
  | 0, _ => []
  | j + 1, i => if p i = true then (i : Int) :: coll p j (i + 1) else coll p j (i + 1)
theorem coll_t {p : Nat → Bool} {j i : Nat} (h : p i = true) : coll p (j + 1) i = (i : Int) :: coll p j (i + 1) := by simp only [coll]; rw [if_pos h]
theorem coll_f {p : Nat → Bool} {j i : Nat} (h : p i = false) : coll p (j + 1) i = coll p j (i + 1) := by simp only [coll]; rw [if_neg (by rw [h]; exact fun e => by cases e)]
theorem coll_congr {p q : Nat → Bool} : ∀ (j i : Nat), (∀ x, i ≤ x → x < i + j → p x = q x) → coll p j i = coll q j i
  | 0, _, _ => rfl
  | j + 1, i, h => by
    simp only [coll]
    rw [h i (by omega) (by omega), coll_congr j (i + 1) fun x h1 h2 => h x (by omega) (by omega)]
theorem coll_len (p : Nat → Bool) : ∀ (j i : Nat), (coll p j i).length ≤ j
  | 0, _ => Nat.le_refl _
  | j + 1, i => by
    simp only [coll]
    have := coll_len p j (i + 1)
    split
    · simp only [List.length_cons]; omega
    · omega
theorem coll_mem {p : Nat → Bool} {x : Int} : ∀ (j i : Nat), x ∈ coll p j i ↔ ∃ q : Nat, x = q ∧ i ≤ q ∧ q < i + j ∧ p q = true
  | 0, i => by simp only [coll, List.not_mem_nil, false_iff]; rintro ⟨q, _, h1, h2, _⟩; omega
  | j + 1, i => by
    simp only [coll]
    have ih := coll_mem (p := p) (x := x) j (i + 1)
    by_cases h : p i = true
    · rw [if_pos h, List.mem_cons, ih]
      constructor
      · rintro (rfl | ⟨q, h1, h2, h3, h4⟩)
        · exact ⟨i, rfl, by omega, by omega, h⟩
        · exact ⟨q, h1, by omega, by omega, h4⟩
      · rintro ⟨q, h1, h2, h3, h4⟩
        by_cases e : q = i
        · subst e; exact .inl h1
        · exact .inr ⟨q, h1, by omega, by omega, h4⟩
    · rw [if_neg h, ih]
      constructor
      · rintro ⟨q, h1, h2, h3, h4⟩; exact ⟨q, h1, by omega, by omega, h4⟩
      · rintro ⟨q, h1, h2, h3, h4⟩
        by_cases e : q = i
        · subst e; exact absurd h4 h
        · exact ⟨q, h1, by omega, by omega, h4⟩
theorem coll_snoc (p : Nat → Bool) : ∀ (j i : Nat), coll p (j + 1) i = coll p j i ++ (if p (i + j) = true then [((i + j : Nat) : Int)] else [])
  | 0, i => by simp only [coll, Nat.add_zero, List.nil_append]
  | j + 1, i => by
    rw [coll, coll_snoc p j (i + 1), coll, show i + 1 + j = i + (j + 1) by omega]
    split <;> simp

/-! ### CutOff -/
def surf (m : T_Mine) (i : Nat) : Bool := (m.1.getD i D_Place).2
theorem airy_loop {m : T_Mine} (hm : Vm m) : ∀ (j f i : Nat) (l : List Bool), j + i = m.1.length → j < f → l.length = m.1.length → (∀ q, q < i → bg l q = surf m q) →
    ∃ out, ref01_Airy_L1 1000 f i m.1 m.2 l = some out ∧ out.length = m.1.length ∧ ∀ q, q < m.1.length → (bg out q = true ↔ ∃ i, i < m.1.length ∧ surf m i = true ∧ Cn m i q)
  | 0, f + 1, i, l, hj, hf, hl, h => by
    rw [ref01_Airy_L1_succ, df (by omega)]
    obtain ⟨out, e, h1, h2⟩ := from_spec hm hl
    rw [show ((m.1, m.2) : T_Mine) = m from rfl, e]
    refine ⟨out, rfl, h1, fun q hq => ?_⟩
    rw [h2 q hq]
    exact ⟨fun ⟨x, a, b, c⟩ => ⟨x, a, by rw [← h x (by omega)]; exact b, c⟩, fun ⟨x, a, b, c⟩ => ⟨x, a, by rw [h x (by omega)]; exact b, c⟩⟩
  | j + 1, f + 1, i, l, hj, hf, hl, h => by
    have n1 := hm.n
    rw [ref01_Airy_L1_succ, dt (by omega), it (by omega), it (by omega), W_succ (by omega), Int.toNat_natCast]
    refine airy_loop hm j f (i + 1) _ (by omega) (by omega) (by simp [hl]) fun q hq => ?_
    rw [bg_set (by omega)]
    split
    · rename_i e; subst e; rfl
    · exact h q (by omega)
theorem rcut_loop (l : List Bool) (hl : l.length ≤ 64) : ∀ (j f i : Nat) (acc : List Int), j + i = l.length → j < f → acc.length ≤ i → ref01_CutOff_L1 1000 f l i acc = some (acc ++ coll (fun q => !bg l q) j i)
  | 0, f + 1, i, acc, hj, hf, ha => by rw [ref01_CutOff_L1_succ, df (by omega)]; simp [coll]
  | j + 1, f + 1, i, acc, hj, hf, ha => by
    rw [ref01_CutOff_L1_succ, dt (by omega), it (by omega), Int.toNat_natCast, W_succ (by omega)]
    cases hb : bg l i with
    | true =>
      rw [show l.getD i false = true from hb, Bool.not_true, cond_false, rcut_loop l hl j f (i + 1) acc (by omega) (by omega) (by omega)]
      rw [coll_f (by simp only [hb]; rfl)]
    | false =>
      rw [show l.getD i false = false from hb, Bool.not_false, cond_true, fitsB_true (by omega), cond_true, rcut_loop l hl j f (i + 1) _ (by omega) (by omega) (by rw [List.length_append, List.length_singleton]; omega)]
      rw [coll_t (by simp only [hb]; rfl), List.append_assoc]; rfl
theorem rcut_eq {m : T_Mine} (hm : Vm m) : ∃ l : List Bool, ref01_CutOff 1000 m = some (coll (fun q => !bg l q) m.1.length 0) ∧ ∀ q, q < m.1.length → (bg l q = true ↔ ∃ i, i < m.1.length ∧ surf m i = true ∧ Cn m i q) := by
  have n1 := hm.n
  unfold ref01_CutOff ref01_Airy
  rw [rcheck_eq, bind_some', nf ((chk_zero m).2 hm), mkB_true (by omega), cond_true, Int.toNat_natCast]
  obtain ⟨out, e, h1, h2⟩ := airy_loop hm m.1.length 1000 0 (List.replicate m.1.length false) rfl (by omega) (by simp) (fun q hq => by omega)
  rw [show ((0 : Nat) : Int) = 0 from rfl] at e
  rw [e, bind_some']
  have := rcut_loop out (by omega) m.1.length 1000 0 [] (by omega) (by omega) (by simp)
  rw [show ((0 : Nat) : Int) = 0 from rfl] at this
  exact ⟨out, this, h2⟩

theorem fresh_loop {m : T_Mine} (hm : Vm m) {of : List Int} {k : Nat} (hp : Prt m m.1.length k of) : ∀ (j f i : Nat) (fr : List Bool), j + i = m.1.length → j < f → fr.length = k → (∀ c, c < k → (bg fr c = true ↔ ∃ q, q < i ∧ surf m q = true ∧ gt of q = c)) →
    ∃ fr', plan_CutOff_L1 1000 f of m.1 m.1.length i m.1 m.2 fr = plan_CutOff_L2 1000 1000 of m.1.length 0 fr' [] ∧ fr'.length = k ∧ ∀ c, c < k → (bg fr' c = true ↔ ∃ q, q < m.1.length ∧ surf m q = true ∧ gt of q = c)
  | 0, f + 1, i, fr, hj, hf, hl, h => by
    have : i = m.1.length := by omega
    subst this
    rw [plan_CutOff_L1_succ, df (by omega)]
    exact ⟨fr, rfl, hl, h⟩
  | j + 1, f + 1, i, fr, hj, hf, hl, h => by
    have n1 := hm.n
    have hlen := hp.len
    have hi : i < m.1.length := by omega
    have h1 := hp.val i hi
    have h2 := hp.low i hi hi
    rw [plan_CutOff_L1_succ, dt (by omega), it (by omega), Int.toNat_natCast, W_succ (by omega), show (m.1.getD i D_Place).2 = surf m i from rfl, show of.getD i 0 = gt of i from rfl]
    cases hs : surf m i with
    | true =>
      rw [cond_true, it (by omega), it (by omega)]
      refine fresh_loop hm hp j f (i + 1) _ (by omega) (by omega) (by simp [hl]) fun c hc => ?_
      rw [bg_set (by omega)]
      constructor
      · split
        · rename_i e; exact fun _ => ⟨i, by omega, hs, by omega⟩
        · intro hb; obtain ⟨q, a, b⟩ := (h c hc).1 hb; exact ⟨q, by omega, b⟩
      · rintro ⟨q, a, b, g⟩
        split
        · rfl
        · rename_i e
          refine (h c hc).2 ⟨q, ?_, b, g⟩
          by_cases e2 : q = i
          · subst e2; omega
          · omega
    | false =>
      rw [cond_false]
      refine fresh_loop hm hp j f (i + 1) fr (by omega) (by omega) hl fun c hc => ?_
      rw [h c hc]
      exact ⟨fun ⟨q, a, b⟩ => ⟨q, by omega, b⟩, fun ⟨q, a, b, g⟩ => ⟨q, by
        by_cases e2 : q = i
        · subst e2; rw [hs] at b; cases b
        · omega, b, g⟩⟩
theorem cut_loop {m : T_Mine} (hm : Vm m) {of : List Int} {k : Nat} (hp : Prt m m.1.length k of) {fr : List Bool} (hf : fr.length = k) : ∀ (j f i : Nat) (acc : List Int), j + i = m.1.length → j < f → acc.length ≤ i → plan_CutOff_L2 1000 f of m.1.length i fr acc = some (acc ++ coll (fun q => !bg fr (gt of q).toNat) j i)
  | 0, f + 1, i, acc, hj, hf, ha => by rw [plan_CutOff_L2_succ, df (by omega)]; simp [coll]
  | j + 1, f + 1, i, acc, hj, hf, ha => by
    have n1 := hm.n
    have hlen := hp.len
    have hi : i < m.1.length := by omega
    have h1 := hp.val i hi
    have h2 := hp.low i hi hi
    rw [plan_CutOff_L2_succ, dt (by omega), it (by omega), Int.toNat_natCast, W_succ (by omega), show of.getD i 0 = gt of i from rfl, it (by omega)]
    cases hb : bg fr (gt of i).toNat with
    | true =>
      rw [show fr.getD (gt of i).toNat false = true from hb, Bool.not_true, cond_false, cut_loop hm hp (by assumption) j f (i + 1) acc (by omega) (by omega) (by omega)]
      rw [coll_f (by simp only [hb]; rfl)]
    | false =>
      rw [show fr.getD (gt of i).toNat false = false from hb, Bool.not_false, cond_true, fitsB_true (by omega), cond_true, cut_loop hm hp (by assumption) j f (i + 1) _ (by omega) (by omega) (by rw [List.length_append, List.length_singleton]; omega)]
      rw [coll_t (by simp only [hb]; rfl), List.append_assoc]; rfl
/-- What is cut off, by the program and by the reference. -/
theorem cut_spec {m : T_Mine} (hm : Vm m) : ∃ l : List Bool, plan_CutOff 1000 m = some (coll (fun q => !bg l q) m.1.length 0) ∧ ref01_CutOff 1000 m = some (coll (fun q => !bg l q) m.1.length 0) ∧ ∀ q, q < m.1.length → (bg l q = true ↔ ∃ i, i < m.1.length ∧ surf m i = true ∧ Cn m i q) := by
  have n1 := hm.n
  obtain ⟨l, e, h⟩ := rcut_eq hm
  obtain ⟨of, k, e1, hp⟩ := part_spec hm
  have hk := hp.ki
  refine ⟨l, ?_, e, h⟩
  unfold plan_CutOff
  rw [valid_eq, bind_some', show (chk m == 0) = true by simpa using (chk_zero m).2 hm, Bool.not_true, cond_false, e1, bind_some']
  simp only
  rw [mkB_true (by omega), cond_true, Int.toNat_natCast]
  obtain ⟨fr, e2, h1, h2⟩ := fresh_loop hm hp m.1.length 1000 0 (List.replicate k false) rfl (by omega) (by simp) (fun c hc => by
    rw [bg_rep]; exact ⟨fun h => (by cases h), fun ⟨q, a, _⟩ => by omega⟩)
  rw [show ((0 : Nat) : Int) = 0 from rfl] at e2
  rw [e2]
  have := cut_loop hm hp h1 m.1.length 1000 0 [] rfl (by omega) (by simp)
  rw [show ((0 : Nat) : Int) = 0 from rfl] at this
  rw [this, List.nil_append]
  refine congrArg some (coll_congr _ _ fun q _ hq => ?_)
  have hq : q < m.1.length := by omega
  have hv := hp.val q hq
  have hl := hp.low q hq hq
  have : (bg fr (gt of q).toNat = true) ↔ (bg l q = true) := by
    rw [h2 _ (by omega), h q hq]
    constructor
    · rintro ⟨i, a, b, c⟩
      exact ⟨i, a, b, (hp.cls i q a hq (hp.low i a a)).1 (by omega)⟩
    · rintro ⟨i, a, b, c⟩
      have := (hp.cls i q a hq (hp.low i a a)).2 c
      exact ⟨i, a, b, by omega⟩
  have e3 : bg fr (gt of q).toNat = bg l q := by rw [Bool.eq_iff_iff]; exact this
  rw [e3]
theorem cut_bad {m : T_Mine} (h : chk m ≠ 0) : plan_CutOff 1000 m = some [] ∧ ref01_CutOff 1000 m = some [] := by
  constructor
  · unfold plan_CutOff
    rw [valid_eq, bind_some', show (chk m == 0) = false by simpa using h]; rfl
  · unfold ref01_CutOff
    rw [rcheck_eq, bind_some', nt h]
end Go.Proofs.Ytdmggkpefjpknaa
