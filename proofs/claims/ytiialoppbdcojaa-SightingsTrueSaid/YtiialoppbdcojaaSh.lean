/- Sightings: a clock set forward moves all absences as much; reports of other readers do not matter. No condition of its own. -/
import Derived.Test.YtiialoppbdcojaaSg
set_option linter.all false
namespace Go.Proofs.Ytiialoppbdcojaa
open Go.Pv M

/-! ### Answers without a fault; how large the answers are -/
theorem cf_ok {l : List T_Report} (hl : l.length ≤ 400) (h : ∀ x, x ∈ l → Vr x) : ∃ r, slices_IndexFunc_api_Report_api_Report_S1_L1 1000 1000 l l.length 0 = some (r, ()) ∧ ¬ r ≥ 0 := by
  obtain ⟨r, e1, h1⟩ := cf_loop l hl l.length 1000 0 rfl (by omega) fun j hj => by omega
  rw [show ((0 : Nat) : Int) = 0 from rfl] at e1
  exact ⟨r, e1, fun hh => (h1.1 hh) h⟩
theorem abs_ok {rs : List T_TagReader} (hrs : ∀ x, x ∈ rs → Rd x) {tag : Int} (ht : 1 ≤ tag ∧ tag ≤ 65535) {l : List T_Report} (hl : l.length ≤ 400) (g : ∀ r, r ∈ l → Vr r) (hn : 0 < rs.length) :
    sightings_Absences 1000 rs 0 tag l = some ((spc (rs.getD 0 D_TagReader) 0 tag l none [], 0), ()) := by
  unfold sightings_Absences slices_ContainsFunc_api_Report_api_Report_S1 slices_IndexFunc_api_Report_api_Report_S1
  obtain ⟨r, e1, h1⟩ := cf_ok hl g
  rw [decide_eq_false (show ¬ (l.length : Int) > 400 by omega), cond_false, e1, bind_some', bind_some']
  simp only
  rw [decide_eq_false h1, cond_false, decide_eq_false (show ¬ (0 : Int) < 0 by omega), cond_false, decide_eq_false (show ¬ (0 : Int) ≥ (rs.length : Int) by omega), cond_false, in_eq, bind_some', decide_eq_true ht.1, decide_eq_true ht.2]
  simp only [Bool.and_self, Bool.not_true, cond_false]
  rw [inB_true (by omega), cond_true]
  have hx : Rd (rs.getD 0 D_TagReader) := hrs _ (by rw [List.getD_eq_getElem?_getD, List.getElem?_eq_getElem (by omega)]; exact List.getElem_mem _)
  have p1 := prog_loop hx 0 tag l hl g l.length 1000 0 [] [] none rfl (by omega) (by simp) (by simp) (.inl ⟨rfl, rfl⟩)
  simp only [List.drop_zero] at p1
  exact p1
theorem spc_len (x : T_TagReader) (rd tag : Int) : ∀ (l : List T_Report) (s : Sta) (out : List T_Absence), (spc x rd tag l s out).length ≤ out.length + l.length + 1 := by
  intro l
  induction l with
  | nil => intro s out; have := fin_len x rd tag s out; simpa [spc] using this
  | cons r l ih =>
    intro s out
    have fl := fin_len x rd tag s out
    simp only [spc, List.length_cons]
    split
    · have := ih s out; omega
    · split
      · have := ih none (fin x rd tag s out); omega
      · cases s with
        | none => have := ih (some (r, r, false)) out; simp only; omega
        | some p =>
          obtain ⟨a, b, m⟩ := p
          simp only
          split
          · have := ih (some (a, r, true)) out; omega
          · have := ih (some (r, r, false)) (fin x rd tag (some (a, b, m)) out); omega
def Ab (a : T_Absence) : Prop := (-1000 ≤ a.2.2.1 ∧ a.2.2.1 ≤ 3000000000) ∧ (-1000 ≤ a.2.2.2 ∧ a.2.2.2 ≤ 3000000000)
def St (s : Sta) : Prop := ∀ a b m, s = some (a, b, m) → Tm a ∧ Tm b
theorem st_none : St none := fun a b m h => by cases h
theorem st_some {a b : T_Report} {m : Bool} (ha : Tm a) (hb : Tm b) : St (some (a, b, m)) := fun a' b' m' h => by
  injection h with h
  injection h with h1 h2
  injection h2 with h2 h3
  subst h1; subst h2; exact ⟨ha, hb⟩
theorem fin_mem {x : T_TagReader} (hx : Rd x) (rd tag : Int) {s : Sta} (hs : St s) {out : List T_Absence} (ho : ∀ a, a ∈ out → Ab a) : ∀ a, a ∈ fin x rd tag s out → Ab a := by
  unfold fin
  split
  · rename_i a b
    obtain ⟨⟨_, a2⟩, ⟨_, b2⟩⟩ := hs a b true rfl
    obtain ⟨x1, x2, x3⟩ := hx
    split
    · exact mem_app ho ⟨⟨by show (-1000 : Int) ≤ a.2.2.1 + x.2.2.2; omega, by show a.2.2.1 + x.2.2.2 ≤ (3000000000 : Int); omega⟩, ⟨by show (-1000 : Int) ≤ b.2.2.1 - x.2.2.2; omega, by show b.2.2.1 - x.2.2.2 ≤ (3000000000 : Int); omega⟩⟩
    · exact ho
  · exact ho
theorem spc_mem {x : T_TagReader} (hx : Rd x) (rd tag : Int) : ∀ (l : List T_Report) (s : Sta) (out : List T_Absence), (∀ r, r ∈ l → Vr r) → St s → (∀ a, a ∈ out → Ab a) → ∀ a, a ∈ spc x rd tag l s out → Ab a := by
  intro l
  induction l with
  | nil => intro s out _ hs ho; exact fin_mem hx rd tag hs ho
  | cons r l ih =>
    intro s out hl hs ho
    have hl' : ∀ r, r ∈ l → Vr r := fun q hq => hl q (List.mem_cons_of_mem _ hq)
    have vr := hl r List.mem_cons_self
    have tr : Tm r := ⟨vr.2.1, vr.2.2.1⟩
    simp only [spc]
    split
    · exact ih s out hl' hs ho
    · split
      · exact ih none _ hl' st_none (fin_mem hx rd tag hs ho)
      · cases s with
        | none => exact ih _ out hl' (st_some tr tr) ho
        | some p =>
          obtain ⟨a, b, m⟩ := p
          simp only
          split
          · exact ih _ out hl' (st_some (hs a b m rfl).1 tr) ho
          · exact ih _ _ hl' (st_some tr tr) (fin_mem hx rd tag hs ho)

/-! ### Set forward -/
def shR (s : Int) (r : T_Report) : T_Report := (r.1, (r.2.1, (r.2.2.1 + s, r.2.2.2)))
def shA (s : Int) (a : T_Absence) : T_Absence := (a.1, (a.2.1, (a.2.2.1 + s, a.2.2.2 + s)))
def shS (s : Int) (t : Sta) : Sta := t.map fun p => (shR s p.1, shR s p.2.1, p.2.2)
theorem fo_shift (x : T_TagReader) (s : Int) (a b : T_Report) : fo x (shR s a) (shR s b) = fo x a b := by
  unfold fo shR
  simp only
  rw [decide_eq_decide.2 (show b.2.2.1 + s ≥ a.2.2.1 + s ↔ b.2.2.1 ≥ a.2.2.1 by omega), show b.2.2.1 + s - (a.2.2.1 + s) = b.2.2.1 - a.2.2.1 by omega]
theorem fin_shift (x : T_TagReader) (rd tag s : Int) (t : Sta) (out : List T_Absence) : fin x rd tag (shS s t) (out.map (shA s)) = (fin x rd tag t out).map (shA s) := by
  cases t with
  | none => rfl
  | some p =>
    obtain ⟨a, b, m⟩ := p
    cases m with
    | false => rfl
    | true =>
      show (if b.2.2.1 + s - x.2.2.2 > a.2.2.1 + s + x.2.2.2 then _ else _) = List.map _ (if b.2.2.1 - x.2.2.2 > a.2.2.1 + x.2.2.2 then _ else _)
      by_cases h : b.2.2.1 - x.2.2.2 > a.2.2.1 + x.2.2.2
      · rw [if_pos h, if_pos (by omega), List.map_append]
        show _ ++ [(rd, (tag, (a.2.2.1 + s + x.2.2.2, b.2.2.1 + s - x.2.2.2)))] = _ ++ [(rd, (tag, (a.2.2.1 + x.2.2.2 + s, b.2.2.1 - x.2.2.2 + s)))]
        rw [show a.2.2.1 + s + x.2.2.2 = a.2.2.1 + x.2.2.2 + s by omega, show b.2.2.1 + s - x.2.2.2 = b.2.2.1 - x.2.2.2 + s by omega]
      · rw [if_neg h, if_neg (by omega)]
theorem spc_shift (x : T_TagReader) (rd tag s : Int) : ∀ (l : List T_Report) (t : Sta) (out : List T_Absence), spc x rd tag (l.map (shR s)) (shS s t) (out.map (shA s)) = (spc x rd tag l t out).map (shA s) := by
  intro l
  induction l with
  | nil => intro t out; exact fin_shift x rd tag s t out
  | cons r l ih =>
    intro t out
    rw [List.map_cons]
    simp only [spc]
    rw [show (shR s r).1 = r.1 from rfl, show (shR s r).2.2.2 = r.2.2.2 from rfl]
    split
    · exact ih t out
    · split
      · rw [fin_shift]; exact ih none _
      · cases t with
        | none => exact ih (some (r, r, false)) out
        | some p =>
          obtain ⟨a, b, m⟩ := p
          simp only [shS, Option.map_some]
          rw [fo_shift]
          cases fo x b r with
          | true => exact ih (some (a, r, true)) out
          | false =>
            have := fin_shift x rd tag s (some (a, b, m)) out
            simp only [shS, Option.map_some] at this
            simp only
            rw [this]
            exact ih (some (r, r, false)) _

/-! ### The law -/
theorem getD_mid {α : Type} (pre suf : List α) (r d : α) : (pre ++ r :: suf).getD pre.length d = r := by
  rw [List.getD_eq_getElem?_getD, List.getElem?_append_right (Nat.le_refl _), Nat.sub_self]; rfl
theorem set_mid {α : Type} : ∀ (pre suf : List α) (r v : α), (pre ++ r :: suf).set pre.length v = pre ++ v :: suf
  | [], suf, r, v => rfl
  | a :: pre, suf, r, v => by
    show a :: (pre ++ r :: suf).set pre.length v = _
    rw [set_mid pre suf r v]; rfl
theorem shift2 {s : Int} (hs : 0 ≤ s ∧ s < 5000) (q : List T_Absence) (hq : q.length ≤ 950) : ∀ (suf pre : List T_Absence) (n : Nat), suf.length < n → (∀ a, a ∈ suf → Ab a) → pre ++ suf.map (shA s) = q →
    law24_SightingsShift_L2 1000 n s pre.length (pre ++ suf) q = some true
  | [], pre, n + 1, hn, hm, e => by
    rw [law24_SightingsShift_L2_succ, List.append_nil, decide_eq_false (by omega), cond_false, awake_eq, bind_some', cond_true]
    rw [List.map_nil, List.append_nil] at e
    rw [e, sameA q hq]; rfl
  | r :: suf, pre, n + 1, hn, hm, e => by
    have hr := hm r List.mem_cons_self
    obtain ⟨⟨r1, r2⟩, r3, r4⟩ := hr
    have hl : (pre ++ r :: suf).length = pre.length + suf.length + 1 := by rw [List.length_append, List.length_cons]; omega
    rw [law24_SightingsShift_L2_succ, decide_eq_true (by omega), cond_true, inB_true (by omega), cond_true, cond_true, cond_true]
    simp only [Int.toNat_natCast, getD_mid, set_mid]
    rw [inB_true (by rw [List.length_append, List.length_cons]; omega), cond_true]
    have hql : q.length = pre.length + suf.length + 1 := by
      rw [← e, List.length_append, List.length_map, List.length_cons]; omega
    rw [W_eq (n := r.2.2.1 + s) (by omega) (by omega), W_eq (n := r.2.2.2 + s) (by omega) (by omega), W_eq (n := (pre.length : Int) + 1) (by omega) (by omega)]
    have := shift2 hs q hq suf (pre ++ [shA s r]) n (by rw [List.length_cons] at hn; omega) (fun a ha => hm a (List.mem_cons_of_mem _ ha)) (by rw [← e, List.append_assoc]; rfl)
    rw [List.length_append, List.length_singleton, List.append_assoc] at this
    exact this

theorem vr_mk {rd num time : Int} {t : List Int} (h1 : 0 ≤ rd ∧ rd ≤ 31) (h2 : 0 ≤ num ∧ num ≤ 65535) (h3 : 0 ≤ time ∧ time ≤ 2147483648) (ht : t = [4] ∨ t = [6] ∨ t = []) : Vr (rd, (num, (time, t))) := by
  refine ⟨h1, h2, h3, ?_, ?_⟩
  · rcases ht with rfl | rfl | rfl
    · show 1 ≤ 20; omega
    · show 1 ≤ 20; omega
    · show 0 ≤ 20; omega
  · intro k hk
    rcases ht with rfl | rfl | rfl
    · have : k = 0 := by have : k < 1 := hk; omega
      subst this; exact ⟨by show (1 : Int) ≤ 4; decide, by show (4 : Int) ≤ 65535; decide, fun h => absurd h (by decide)⟩
    · have : k = 0 := by have : k < 1 := hk; omega
      subst this; exact ⟨by show (1 : Int) ≤ 6; decide, by show (6 : Int) ≤ 65535; decide, fun h => absurd h (by decide)⟩
    · exact absurd hk (Nat.not_lt_zero _)
theorem shift1 {s : Int} (hs : 0 ≤ s ∧ s < 5000) {rs : List T_TagReader} (hrs : ∀ x, x ∈ rs → Rd x) (hn0 : 0 < rs.length) : ∀ (n k : Nat) (d : T_Dice) (num time : Int) (a b : List T_Report), k < n → k ≤ 20 → a.length + k ≤ 20 → b.length + 2 * k ≤ 40 → Dk d → 0 ≤ num → num + 2 * k ≤ 60 → 0 ≤ time → time + 15 * k ≤ 500 → (∀ r, r ∈ a → Vr r) → (∀ r, r ∈ b → Vr r) → (b.filter fun r => r.1 == 0) = a.map (shR s) →
    law24_SightingsShift_L1 1000 n s rs num time k d.1 d.2 a b = some true
  | n + 1, 0, d, num, time, a, b, hk, hk2, ha, hb, hd, n0, n1, t0, t1, va, vb, hf => by
    rw [law24_SightingsShift_L1_succ, decide_eq_false (by omega), cond_false, abs_ok hrs (by omega) (by omega) va hn0, abs_ok hrs (by omega) (by omega) vb hn0, bind_some', bind_some']
    have hx : Rd (rs.getD 0 D_TagReader) := hrs _ (by rw [List.getD_eq_getElem?_getD, List.getElem?_eq_getElem (by omega)]; exact List.getElem_mem _)
    have e : spc (rs.getD 0 D_TagReader) 0 4 b none [] = (spc (rs.getD 0 D_TagReader) 0 4 a none []).map (shA s) := by
      rw [← spc_filter, hf]; exact spc_shift _ 0 4 s a none []
    have hm := spc_mem hx 0 4 a none [] va st_none (fun a h => by cases h)
    have hl := spc_len (rs.getD 0 D_TagReader) 0 4 a none []
    simp only [e]
    generalize spc (rs.getD 0 D_TagReader) 0 4 a none [] = o at hm hl
    rw [List.length_nil] at hl
    simp only [bne_self_eq_false, cond_false, List.length_map]
    rw [law24_SightingsShift_J1_eq]
    exact shift2 hs (o.map (shA s)) (by rw [List.length_map]; omega) o [] 1000 (by omega) hm rfl
  | n + 1, k + 1, d, num, time, a, b, hk, hk2, ha, hb, hd, n0, n1, t0, t1, va, vb, hf => by
    have go : ∀ (t : List Int) (d' : T_Dice) (e : List T_Report), (t = [4] ∨ t = []) → Dk d' → e.length ≤ 1 → (∀ r, r ∈ e → Vr r) → (e.filter fun r => r.1 == 0) = [] →
        ((made_Dice_Of 1000 d' [1, 1, 2]).bind fun r33 => (made_Dice_Of 1000 r33.2 [10, 5, 15]).bind fun r34 => law24_SightingsShift_L1 1000 n s rs (W (num + r33.1)) (W (time + r34.1)) (W (((k + 1 : Nat) : Int) - 1)) r34.2.1 r34.2.2 (a ++ [(0, (num, (time, t)))]) (b ++ [(0, (num, (W (time + s), t)))] ++ e)) = some true := by
      intro t d' e ht hd' he ve hfe
      obtain ⟨c, d3, e3, m3, hd3⟩ := of_spec 1000 hd' [1, 1, 2] (by decide) (by decide)
      obtain ⟨h, d4, e4, m4, hd4⟩ := of_spec 1000 hd3 [10, 5, 15] (by decide) (by decide)
      rw [e3, bind_some']
      simp only
      rw [e4, bind_some']
      simp only
      simp only [List.mem_cons, List.not_mem_nil, or_false] at m3 m4
      have ht' : t = [4] ∨ t = [6] ∨ t = [] := by rcases ht with h | h <;> simp [h]
      rw [W_eq (n := num + c) (by omega) (by omega), W_eq (n := time + h) (by omega) (by omega), W_eq (n := time + s) (by omega) (by omega), W_eq (n := ((k + 1 : Nat) : Int) - 1) (by omega) (by omega), show ((k + 1 : Nat) : Int) - 1 = (k : Int) by omega]
      refine shift1 hs hrs hn0 n k d4 (num + c) (time + h) _ _ (by omega) (by omega) ?_ ?_ hd4 (by omega) (by omega) (by omega) (by omega) (mem_app va (vr_mk (by omega) (by omega) (by omega) ht')) ?_ ?_
      · rw [List.length_append, List.length_singleton]; omega
      · rw [List.length_append, List.length_append, List.length_singleton]; omega
      · intro r hr
        rcases List.mem_append.1 hr with h | h
        · exact mem_app vb (vr_mk (by omega) (by omega) (by omega) ht') r h
        · exact ve r h
      · rw [List.filter_append, List.filter_append, hf, hfe, List.append_nil, List.map_append]; rfl
    rw [law24_SightingsShift_L1_succ, decide_eq_true (by omega), cond_true]
    obtain ⟨z, d6, e6, hd6⟩ := one_spec 1000 hd (n := 5) (by omega) (by omega)
    rw [show ((d.1, d.2) : T_Dice) = d from rfl, e6, bind_some']
    simp only
    rw [fitsB_true (by omega), fitsB_true (by omega), cond_true, cond_true, cond_true, cond_true]
    obtain ⟨w, d7, e7, hd7⟩ := one_spec 1000 hd6 (n := 3) (by omega) (by omega)
    rw [e7]
    obtain ⟨v, d8, e8, v1, v2, hd8⟩ := next_spec 1000 hd7 (n := 100) (by omega) (by omega)
    have ve : ∀ r, r ∈ [((1, (num, (v, [4]))) : T_Report)] → Vr r := fun r hr => by
      rw [List.mem_singleton] at hr; subst hr; exact vr_mk (by omega) (by omega) (by omega) (.inl rfl)
    have fb : fitsB (b ++ [((0, (num, (W (time + s), [4]))) : T_Report)]).length.succ 48 = true := fitsB_true (by rw [List.length_append, List.length_singleton]; omega)
    have fb' : fitsB (b ++ [((0, (num, (W (time + s), []))) : T_Report)]).length.succ 48 = true := fitsB_true (by rw [List.length_append, List.length_singleton]; omega)
    cases z <;> cases w <;> simp only [cond_true, cond_false, bind_some']
    · have := go [] d7 [] (.inr rfl) hd7 (by simp) (fun r h => by cases h) rfl
      rw [List.append_nil] at this; exact this
    · rw [e8, bind_some']
      simp only
      rw [show fitsB ((b ++ [((0, (num, (W (time + s), []))) : T_Report)]).length + 1) 48 = true from fb', cond_true]
      exact go [] d8 _ (.inr rfl) hd8 (by simp) ve rfl
    · have := go [4] d7 [] (.inl rfl) hd7 (by simp) (fun r h => by cases h) rfl
      rw [List.append_nil] at this; exact this
    · rw [e8, bind_some']
      simp only
      rw [show fitsB ((b ++ [((0, (num, (W (time + s), [4]))) : T_Report)]).length + 1) 48 = true from fb, cond_true]
      exact go [4] d8 _ (.inl rfl) hd8 (by simp) ve rfl
theorem shift_true (t : List Int) (more : Int) : law24_SightingsShift 1000 t more = some true := by
  unfold law24_SightingsShift
  rw [light_eq, bind_some']
  by_cases h : (t.length : Int) ≤ 400
  · simp only [h, decide_true, Bool.not_true, cond_false]
    rw [roll_spec, bind_some', mod_eq 1000 more 5000 (by omega), bind_some']
    obtain ⟨c, d3, e3, m3, hd3⟩ := of_spec 1000 (rollD_ok (l := t) (by omega)) [2, 0] (by decide) (by decide)
    simp only
    rw [e3, bind_some']
    obtain ⟨a, d4, e4, a1, a2, hd4⟩ := next_spec 1000 hd3 (n := 20) (by omega) (by omega)
    simp only
    rw [e4, bind_some']
    obtain ⟨k, rfl⟩ := Int.eq_ofNat_of_zero_le a1
    simp only [List.mem_cons, List.not_mem_nil, or_false] at m3
    have hm := modS_range (n := more) (m := 5000) (by omega)
    refine shift1 (rs := [([0], (10, (1, c))), ([0], (10, (0, 0)))]) (by omega) (fun x hx => ?_) (Nat.succ_pos 1) 1000 k d4 0 100 [] [] (by omega) (by omega) (by simp; omega) (by simp; omega) hd4 (by omega) (by omega) (by omega) (by omega) (fun r h => by cases h) (fun r h => by cases h) rfl
    rcases List.mem_cons.1 hx with h | h
    · subst h; exact ⟨⟨by show (0 : Int) ≤ 10; omega, by show (10 : Int) ≤ 1000; omega⟩, ⟨by show (0 : Int) ≤ 1; omega, by show (1 : Int) ≤ 100; omega⟩, ⟨by show 0 ≤ c; omega, by show c ≤ 100; omega⟩⟩
    · rw [List.mem_singleton] at h; subst h; exact ⟨⟨by decide, by decide⟩, ⟨by decide, by decide⟩, ⟨by decide, by decide⟩⟩
  · simp only [h, decide_false, Bool.not_false, cond_true]
    rw [awake_eq]; rfl
theorem sightingsShift_any (dargs : List DV) (h : TyAs [(false, [.sl [.it .i64]]), (false, [.it .i64])] dargs) : CallOK Try.prog 5 dargs [] 0 (B true) [] 0 :=
  law_any (law24_SightingsShift_pure 1000) (fun x _ => shift_true x.1 x.2) rfl dargs h
end Go.Proofs.Ytiialoppbdcojaa
