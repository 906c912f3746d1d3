/- Entries for functions that turn boxes or make new ones. No condition of its own: over any program. -/
import Derived.Test.YtipokcccpbcmeaaDoorPxK
set_option linter.all false
namespace Go.Pv
open Go.RowKit

/-- A list of chunks with keys that differ. -/
structure Keyed (l : Cks) (n : Nat) (key : Nat → Nat) (c : Nat → Ck) : Prop where
  len : l.length = n
  nth : ∀ k (h : k < l.length), l[k] = (key k, c k)
  inj : ∀ i j, i < n → j < n → key i = key j → i = j
theorem puts_has {H : Hp} {o : Nat} : ∀ {l : Cks}, o ∈ l.map (·.1) → ∃ ck, (o, ck) ∈ l ∧ ∀ H : Hp, puts H l o = some ck := by
  intro l h
  rcases puts_one l o with ⟨ck, h1, h2⟩ | h1
  · exact ⟨ck, h1, h2⟩
  · exfalso
    have key : ∀ (l : Cks) (H : Hp), o ∈ l.map (·.1) → ∃ ck, puts H l o = some ck := by
      intro l
      induction l with
      | nil => intro H h; simp at h
      | cons x l ih =>
        intro H h
        rw [puts_cons]
        by_cases hl : o ∈ l.map (·.1)
        · exact ih _ hl
        · have : o = x.1 := by simpa [hl] using h
          rw [puts_out hl, this, Hp.put_same]; exact ⟨_, rfl⟩
    obtain ⟨ck, hk⟩ := key l Hp.emp h
    rw [h1 Hp.emp] at hk; cases hk
theorem Keyed.get {l : Cks} {n : Nat} {key : Nat → Nat} {c : Nat → Ck} (h : Keyed l n key c) {k : Nat} (hk : k < n) (H : Hp) : puts H l (key k) = some (c k) := by
  have hk' : k < l.length := by rw [h.len]; exact hk
  have hm : key k ∈ l.map (·.1) := List.mem_map.2 ⟨_, List.getElem_mem hk', by rw [h.nth k hk']⟩
  obtain ⟨ck, h1, h2⟩ := puts_has (H := H) hm
  obtain ⟨j, hj, e⟩ := List.mem_iff_getElem.1 h1
  rw [h.nth j hj] at e
  injection e with e1 e2
  have := h.inj j k (by rw [← h.len]; exact hj) hk e1
  subst this
  rw [h2, e2]
theorem Keyed.mem {l : Cks} {n : Nat} {key : Nat → Nat} {c : Nat → Ck} (h : Keyed l n key c) {o : Nat} {ck : Ck} (ho : ofL l o = some ck) : ∃ k, k < n ∧ o = key k ∧ ck = c k := by
  obtain ⟨k, hk, e⟩ := List.mem_iff_getElem.1 (ofL_mem ho)
  rw [h.nth k hk] at e
  injection e with e1 e2
  exact ⟨k, by rw [← h.len]; exact hk, e1.symm, e2.symm⟩
theorem Keyed.out {l : Cks} {n : Nat} {key : Nat → Nat} {c : Nat → Ck} (h : Keyed l n key c) {o : Nat} (ho : ∀ k, k < n → o ≠ key k) (H : Hp) : puts H l o = H o := by
  refine puts_out fun hm => ?_
  obtain ⟨x, hx, e⟩ := List.mem_map.1 hm
  obtain ⟨k, hk, rfl⟩ := List.mem_iff_getElem.1 hx
  rw [h.nth k hk] at e
  exact ho k (by rw [← h.len]; exact hk) e.symm


/-! ### What is read of the arguments -/
section read
variable {H : Hp} {nx : Nat} {HI : IH} {ρ γ : Nat → Nat} {q : Nat}
end read

/-! ### Own arrays that are lent to a call as plain lists -/
/-- A result, its lists forgotten. -/
def stD : DV → DV
  | .v x => .v x
  | .ptr o g i f => .ptr o g i f
  | .own o g l n => .own o g l n
  | .fn f [] => .fn f []
  | .nn => .nn
  | _ => .any
def stDA : DV → DV
  | .agg cs => .agg (cs.map stD)
  | d => stD d
def stDV : DV → DV
  | .tup vs => .tup (vs.map stDA)
  | d => stDA d
def stCk (c : Ck) : Ck := { c with xs := c.xs.map fun r => r.map stD }
def stPost (l : Cks) : Cks := l.map fun e => (e.1, stCk e.2)

section strip
variable {H H' : Hp} {nx nx' : Nat}
theorem stD_ids {S S' : Nat → Prop} {d : DV} (h : Ids S d) (hS : ∀ j, S j → S' j) : Ids S' (stD d) := by
  cases h with
  | v x => exact .v x
  | any => exact .any
  | nn => exact .nn
  | gd p d h => exact .any
  | ptr o g i f h => exact .ptr _ _ _ _ (hS _ h)
  | own o g l n h => exact .own _ _ _ _ (hS _ h)
  | lst f xs h => exact .any
  | rp cs h => exact .any
  | agg cs h => exact .any
  | tup cs h => exact .any
  | fn f cs h =>
    cases cs with
    | nil => exact .fn _ _ (fun c hc => by cases hc)
    | cons => exact .any
theorem stDA_ids {S S' : Nat → Prop} {d : DV} (h : Ids S d) (hS : ∀ j, S j → S' j) : Ids S' (stDA d) := by
  cases h with
  | agg cs h =>
    refine .agg _ fun c hc => ?_
    obtain ⟨b, hb, rfl⟩ := List.mem_map.1 hc
    exact stD_ids (h b hb) hS
  | v x => exact .v x
  | any => exact .any
  | nn => exact .nn
  | gd p d h => exact .any
  | ptr o g i f h => exact .ptr _ _ _ _ (hS _ h)
  | own o g l n h => exact .own _ _ _ _ (hS _ h)
  | lst f xs h => exact .any
  | rp cs h => exact .any
  | tup cs h => exact .any
  | fn f cs h => exact stD_ids (.fn f cs h) hS
theorem stDV_ids {S S' : Nat → Prop} {d : DV} (h : Ids S d) (hS : ∀ j, S j → S' j) : Ids S' (stDV d) := by
  cases h with
  | tup cs h =>
    refine .tup _ fun c hc => ?_
    obtain ⟨b, hb, rfl⟩ := List.mem_map.1 hc
    exact stDA_ids (h b hb) hS
  | agg cs h => exact stDA_ids (.agg cs h) hS
  | v x => exact .v x
  | any => exact .any
  | nn => exact .nn
  | gd p d h => exact .any
  | ptr o g i f h => exact .ptr _ _ _ _ (hS _ h)
  | own o g l n h => exact .own _ _ _ _ (hS _ h)
  | lst f xs h => exact .any
  | rp cs h => exact .any
  | fn f cs h => exact stD_ids (.fn f cs h) hS

/-- Two heaps that agree on the chunks that are named. -/
structure Agr (S : Nat → Prop) (H : Hp) (ps : Ps) (nx : Nat) (H' : Hp) (ps' : Ps) (nx' : Nat) : Prop where
  lt : ∀ o, S o → o < nx → o < nx'
  h : ∀ o, S o → ∀ c', H' o = some c' → ∃ c, H o = some c ∧ c.gen = c'.gen ∧ c.sz = c'.sz ∧ c.xs.length = c'.xs.length ∧ ps' o = ps o
theorem stD_vr {S : Nat → Prop} {ps ps' : Ps} {M M' : Nat → Prop} {w : World} {d : DV} {x : Value} (a : Agr S H ps nx H' ps' nx') (hi : Ids S d) (h : VR H ps M nx w d x) : VR H' ps' M' nx' w (stD d) x := by
  cases h with
  | v x => exact .v x
  | any x => exact .any x
  | nn t p => exact .nn t p
  | gd p d x h h2 => exact .any _
  | ptr o g i off x h0 h1 h =>
    cases hi with
    | ptr _ _ _ _ hs =>
      refine .ptr _ _ _ _ _ (a.lt o hs h0) h1 fun c' hc => ?_
      obtain ⟨c, k1, k2, k3, k4, k5⟩ := a.h o hs c' hc
      obtain ⟨a1, a2⟩ := h c k1
      refine ⟨by omega, fun e => ?_⟩
      obtain ⟨b1, p, b2, b3⟩ := a2 (by omega)
      exact ⟨by omega, p, by rw [k5]; exact b2, by rw [← k3]; exact b3⟩
  | own o g lo n x h0 h1 h =>
    cases hi with
    | own _ _ _ _ hs =>
      refine .own _ _ _ _ _ (a.lt o hs h0) h1 fun c' hc => ?_
      obtain ⟨c, k1, k2, k3, k4, k5⟩ := a.h o hs c' hc
      obtain ⟨a1, a2⟩ := h c k1
      refine ⟨by omega, fun e => ?_⟩
      obtain ⟨b1, aa, cap, b2, b3, b4⟩ := a2 (by omega)
      refine ⟨by omega, aa, cap, b2, b3, ?_⟩
      rcases b4 with b4 | ⟨p, p1, p2, p3⟩
      · exact .inl b4
      · exact .inr ⟨p, by rw [k5]; exact p1, by rw [← k3]; exact p2, by rw [← k3]; exact p3⟩
  | rp cs b off vs hM h1 hc hv => exact .any _
  | lnil full aa cap hf => exact .any _
  | lst full xs b off cap sz vs hne hs hcap hf hM hz h1 hc hv => exact .any _
  | agg cs vs hl h1 hv => exact .any _
  | tup cs vs hl hv => exact .any _
  | fn f cs vs hl hv =>
    cases cs with
    | nil => exact .fn _ _ _ hl (fun j hj => by cases hj)
    | cons => exact .any _
theorem stDA_vr {S : Nat → Prop} {ps ps' : Ps} {M M' : Nat → Prop} {w : World} {d : DV} {x : Value} (a : Agr S H ps nx H' ps' nx') (hi : Ids S d) (h : VR H ps M nx w d x) : VR H' ps' M' nx' w (stDA d) x := by
  cases d with
  | agg cs =>
    obtain ⟨vs, rfl, h1, h2, h3⟩ := h.agg_inv
    cases hi with
    | agg _ hi =>
      refine .agg _ vs (by simp [h1]) (fun j hj => h2 j (by simpa using hj)) fun j hj => ?_
      have hj' : j < cs.length := by simpa using hj
      simp only [List.getElem_map]
      exact stD_vr a (hi _ (List.getElem_mem hj')) (h3 j hj')
  | v x => exact stD_vr a hi h
  | any => exact stD_vr a hi h
  | nn => exact stD_vr a hi h
  | gd p d => exact stD_vr a hi h
  | ptr o g i f => exact stD_vr a hi h
  | own o g l n => exact stD_vr a hi h
  | lst f xs => exact stD_vr a hi h
  | rp cs => exact stD_vr a hi h
  | tup cs => exact stD_vr a hi h
  | fn f cs => exact stD_vr a hi h
theorem stDV_vr {S : Nat → Prop} {ps ps' : Ps} {M M' : Nat → Prop} {w : World} {d : DV} {x : Value} (a : Agr S H ps nx H' ps' nx') (hi : Ids S d) (h : VR H ps M nx w d x) : VR H' ps' M' nx' w (stDV d) x := by
  cases d with
  | tup cs =>
    obtain ⟨vs, rfl, h1, h2⟩ := h.tup_inv
    cases hi with
    | tup _ hi =>
      refine .tup _ vs (by simp [h1]) fun j hj => ?_
      have hj' : j < cs.length := by simpa using hj
      simp only [List.getElem_map]
      exact stDA_vr a (hi _ (List.getElem_mem hj')) (h2 j hj')
  | agg cs => exact stDA_vr a hi h
  | v x => exact stDA_vr a hi h
  | any => exact stDA_vr a hi h
  | nn => exact stDA_vr a hi h
  | gd p d => exact stDA_vr a hi h
  | ptr o g i f => exact stDA_vr a hi h
  | own o g l n => exact stDA_vr a hi h
  | lst f xs => exact stDA_vr a hi h
  | rp cs => exact stDA_vr a hi h
  | fn f cs => exact stDA_vr a hi h
end strip

theorem puts_append (H : Hp) : ∀ (l m : Cks), puts H (l ++ m) = puts (puts H l) m := fun l m => by simp [puts]
theorem ofL_app (B l : Cks) (j : Nat) : ((∃ ck, ofL l j = some ck ∧ ofL (B ++ l) j = some ck) ∨ (ofL l j = none ∧ ofL (B ++ l) j = ofL B j)) := by
  rcases puts_split l (ofL B) j with ⟨q1, q2⟩ | ⟨ck, q1, q2⟩
  · exact .inr ⟨q1, by show puts Hp.emp (B ++ l) j = _; rw [puts_append]; exact q2⟩
  · exact .inl ⟨ck, q1, by show puts Hp.emp (B ++ l) j = _; rw [puts_append]; exact q2⟩
theorem stPost_at : ∀ (l : Cks) (j : Nat), (∃ ck, (∀ H, puts H l j = some ck) ∧ ∀ H, puts H (stPost l) j = some (stCk ck)) ∨ ((∀ H, puts H l j = H j) ∧ ∀ H, puts H (stPost l) j = H j)
  | [], j => .inr ⟨fun _ => rfl, fun _ => rfl⟩
  | e :: l, j => by
    rcases stPost_at l j with ⟨ck, h1, h2⟩ | ⟨h1, h2⟩
    · exact .inl ⟨ck, fun H => h1 _, fun H => h2 _⟩
    · by_cases e1 : j = e.1
      · subst e1
        refine .inl ⟨e.2, fun H => ?_, fun H => ?_⟩
        · rw [puts_cons, h1, Hp.put_same]
        · show puts (H.put e.1 (some (stCk e.2))) (stPost l) _ = _
          rw [h2, Hp.put_same]
      · refine .inr ⟨fun H => ?_, fun H => ?_⟩
        · rw [puts_cons, h1, Hp.put_ne _ _ _ e1]
        · show puts (H.put e.1 (some (stCk e.2))) (stPost l) _ = _
          rw [h2, Hp.put_ne _ _ _ e1]

/-- A datum that is lent, where the chunks B are told to the caller alone. -/
def BwL (B pre : Cks) (nx : Nat) (d' d : DV) : Prop := ∀ (ps : Ps) (M : Nat → Prop) (w : World) (x : Value), HR (ofL (B ++ pre)) ps M nx w → VR (ofL (B ++ pre)) ps M nx w d' x → VR (ofL pre) ps M nx w d x

theorem kp_less {B pre : Cks} {ps : Ps} {M : Nat → Prop} {nx : Nat} {w : World} : Kp (ofL (B ++ pre)) ps M nx w (ofL pre) ps M nx w := by
  have key : ∀ o ck, ofL pre o = some ck → ofL (B ++ pre) o = some ck := fun o ck h => by
    rcases ofL_app B pre o with ⟨c, h1, h2⟩ | ⟨h1, _⟩
    · rw [h] at h1; injection h1 with h1; subst h1; exact h2
    · rw [h] at h1; cases h1
  refine ⟨Nat.le_refl _, fun o _ ck' hk => ⟨ck', key o ck' hk, .inr ⟨rfl, rfl, Nat.le_refl _, rfl⟩⟩, fun b hb => .inl ?_, fun _ _ _ => rfl⟩
  rcases hb with hb | ⟨o, ck, p, h1, h2, h3⟩
  · exact .inl hb
  · exact .inr ⟨o, ck, p, key o ck h1, h2, h3⟩

theorem CallOK.lend {P : Program} {f : FuncId} {args args' : List DV} {pre : Cks} {nb : Nat} {res : DV} {post : Cks} {nx' : Nat} (h : CallOK P f args pre nb res post nx') (B : Cks) (hB : ∀ o ck, ofL B o = some ck → ofL pre o = none ∧ ofL post o = none ∧ o < nb ∧ ∀ x, x ∈ ck.xs → ∀ c, c ∈ x → Ids (fun _ => False) c)
    (ha : Both (BwL B pre nb) args' args) : CallOK P f args' (B ++ pre) nb (stDV res) (B ++ stPost post) nx' := by
  have post2 : ∀ j ck, ofL post j = some ck → ofL (B ++ stPost post) j = some (stCk ck) := fun j ck hj => by
    rcases stPost_at post j with ⟨c, h1, h2⟩ | ⟨h1, _⟩
    · rw [ofL, h1] at hj; injection hj with hj; subst hj
      show puts Hp.emp (B ++ stPost post) j = _
      rw [puts_append, h2]
    · rw [ofL, h1] at hj; cases hj
  have back : ∀ j c2, ofL (B ++ stPost post) j = some c2 → (∃ ck, ofL post j = some ck ∧ c2 = stCk ck) ∨ (ofL post j = none ∧ ofL B j = some c2) := fun j c2 hj => by
    rcases stPost_at post j with ⟨c, h1, h2⟩ | ⟨h1, h2⟩
    · have : ofL (B ++ stPost post) j = some (stCk c) := by show puts Hp.emp (B ++ stPost post) j = _; rw [puts_append, h2]
      rw [this] at hj; injection hj with hj
      exact .inl ⟨c, h1 _, hj.symm⟩
    · have : ofL (B ++ stPost post) j = ofL B j := by show puts Hp.emp (B ++ stPost post) j = _; rw [puts_append, h2]; rfl
      rw [this] at hj
      exact .inr ⟨h1 _, hj⟩
  have inB : ∀ j ck, ofL B j = some ck → ofL (B ++ stPost post) j = some ck := fun j ck hj => by
    rcases stPost_at post j with ⟨c, h1, _⟩ | ⟨_, h2⟩
    · have := (hB j ck hj).2.1; rw [ofL, h1] at this; cases this
    · show puts Hp.emp (B ++ stPost post) j = _; rw [puts_append, h2]; exact hj
  have preB : ∀ j ck, ofL (B ++ pre) j = some ck → ofL pre j = some ck ∨ (ofL pre j = none ∧ ofL B j = some ck) := fun j ck hj => by
    rcases ofL_app B pre j with ⟨c, h1, h2⟩ | ⟨h1, h2⟩
    · rw [h2] at hj; injection hj with hj; subst hj; exact .inl h1
    · rw [h2] at hj; exact .inr ⟨h1, hj⟩
  have pre1 : ∀ j ck, ofL pre j = some ck → ofL (B ++ pre) j = some ck := fun j ck hj => by
    rcases ofL_app B pre j with ⟨c, h1, h2⟩ | ⟨h1, h2⟩
    · rw [hj] at h1; injection h1 with h1; subst h1; exact h2
    · rw [hj] at h1; cases h1
  have preI : ∀ j ck, ofL B j = some ck → ofL (B ++ pre) j = some ck := fun j ck hj => by
    rcases ofL_app B pre j with ⟨c, h1, h2⟩ | ⟨h1, h2⟩
    · have := (hB j ck hj).1; rw [this] at h1; cases h1
    · rw [h2]; exact hj
  have hS : ∀ j, ((∃ ck, ofL post j = some ck) ∨ (nb ≤ j ∧ j < nx')) → ((∃ ck, ofL (B ++ stPost post) j = some ck) ∨ (nb ≤ j ∧ j < nx')) := fun j hj => hj.elim (fun ⟨ck, hk⟩ => .inl ⟨_, post2 j ck hk⟩) .inr
  refine ⟨h.fn, fun o ck ho => ?_, fun o ck' ho hlt => ?_, h.le, stDV_ids h.ids hS, fun o c2 ho x hx c hc => ?_, fun M ps w cargs hR hsz hva hgl => ?_⟩
  · rcases preB o ck ho with ho | ⟨_, ho⟩
    · obtain ⟨c, hc⟩ := h.keep o ck ho; exact ⟨_, post2 o c hc⟩
    · exact ⟨ck, inB o ck ho⟩
  · rcases back o ck' ho with ⟨ck, hk, _⟩ | ⟨_, hk⟩
    · obtain ⟨c, hc⟩ := h.old o ck hk hlt; exact ⟨c, pre1 o c hc⟩
    · exact ⟨_, preI o _ hk⟩
  · rcases back o c2 ho with ⟨ck, hk, rfl⟩ | ⟨_, hk⟩
    · simp only [stCk] at hx
      obtain ⟨y, hy, rfl⟩ := List.mem_map.1 hx
      obtain ⟨d, hd, rfl⟩ := List.mem_map.1 hc
      exact stD_ids (h.idp o ck hk y hy d hd) hS
    · exact ((hB o c2 hk).2.2.2 x hx c hc).mono' fun _ h => h.elim
  · have hR0 : HR (ofL pre) ps M nb w := ⟨fun o ck ho => hR.lt o ck (pre1 o ck ho), fun o ck ho => (hR.cr o ck (pre1 o ck ho)).mono kp_less rfl fun _ _ => rfl, fun o o' ck ck' p p' h1 h2 => hR.inj o o' ck ck' p p' (pre1 _ _ h1) (pre1 _ _ h2), hR.ml, fun o ck p h1 => hR.dj o ck p (pre1 _ _ h1)⟩
    refine (h.run M ps w cargs hR0 (by rw [hsz, ha.1]) (fun j hj => ha.2 j (by rw [ha.1]; exact hj) hj ps M w _ hR (hva j (by rw [ha.1]; exact hj))) (hgl.less fun b ⟨o, ck, p, k1, k2, k3⟩ => ⟨o, ck, p, pre1 o ck k1, k2, k3⟩)).mono ?_
    rintro e w' ⟨v, ps', rfl, g1, g2, g3, g4, g5⟩
    let ps2 : Ps := fun o => match ofL post o with | some _ => ps' o | none => ps o
    have psi : ∀ o ck, ofL post o = some ck → ps2 o = ps' o := fun o ck h => by simp only [ps2, h]
    have pso : ∀ o, ofL post o = none → ps2 o = ps o := fun o h => by simp only [ps2, h]
    have notlive : ∀ o ck p, ofL B o = some ck → ps o = some p → ¬ Live (ofL pre) ps p.b := by
      rintro o ck p h1 h2 ⟨o', ck', p', k1, k2, k3⟩
      have := hR.inj o o' ck ck' p p' (preI o ck h1) (pre1 o' ck' k1) h2 k2 k3.symm
      subst this
      rw [(hB o ck h1).1] at k1; cases k1
    have blk : ∀ o ck p, ofL B o = some ck → ps o = some p → w'.heap[p.b]? = w.heap[p.b]? := fun o ck p h1 h2 => g3.block _ (hR.live_lt (preI o ck h1) h2) (notlive o ck p h1 h2)
    have agr : Agr (fun j => (∃ ck, ofL post j = some ck) ∨ (nb ≤ j ∧ j < nx')) (ofL post) ps' nx' (ofL (B ++ stPost post)) ps2 nx' := by
      refine ⟨fun _ _ h => h, fun o hs c' hc => ?_⟩
      rcases back o c' hc with ⟨ck, hk, rfl⟩ | ⟨hn, hk⟩
      · exact ⟨ck, hk, rfl, rfl, by simp [stCk], psi o ck hk⟩
      · have := (hB o c' hk).2.2.1
        rcases hs with ⟨ck, hs⟩ | hs
        · rw [hn] at hs; cases hs
        · omega
    have live2 : ∀ o c2 p, ofL (B ++ stPost post) o = some c2 → ps2 o = some p → (∃ ck, ofL post o = some ck ∧ ps' o = some p) ∨ (∃ ck, ofL B o = some ck ∧ ps o = some p) := fun o c2 p h1 h2 => by
      rcases back o c2 h1 with ⟨ck, hk, rfl⟩ | ⟨hn, hk⟩
      · rw [psi o ck hk] at h2; exact .inl ⟨ck, hk, h2⟩
      · rw [pso o hn] at h2; exact .inr ⟨c2, hk, h2⟩
    refine ⟨v, ps2, rfl, stDV_vr agr h.ids g1, ⟨fun o c2 ho => ?_, fun o c2 ho => ?_, fun o o' c c' p p' h1 h2 h3 h4 h5 => ?_, g2.ml, fun o c p h1 h2 => ?_⟩, ⟨g3.os, g3.tape, g3.output, g3.size, fun b hb hl => g3.block b hb fun hl' => hl (by obtain ⟨o, ck, p, k1, k2, k3⟩ := hl'; exact ⟨o, ck, p, pre1 o ck k1, k2, k3⟩)⟩, fun o c p h1 h2 => ?_, fun o ho c2 hk => ?_⟩
    · rcases back o c2 ho with ⟨ck, hk, rfl⟩ | ⟨_, hk⟩
      · exact g2.lt o ck hk
      · exact Nat.lt_of_lt_of_le (hB o c2 hk).2.2.1 h.le
    · rcases back o c2 ho with ⟨ck, hk, rfl⟩ | ⟨hn, hk⟩
      · rcases g2.cr o ck hk with ⟨q1, q2⟩ | ⟨p, c, E, vs, q1, q2, q3, q4, q5, q6, q7⟩
        · exact .inl ⟨by rw [psi o ck hk]; exact q1, by simp [stCk, q2]⟩
        · refine .inr ⟨p, c, E, vs, by rw [psi o ck hk]; exact q1, q2, q3, fun i hi => ?_, by simpa [stCk] using q5, fun i j hi hj => q6 i j (by simpa [stCk] using hi) hj, fun i j hi hj => ?_⟩
          · simp only [stCk, List.getElem_map, List.length_map]; exact q4 i _
          · simp only [stCk, List.getElem_map]
            have hi' : i < ck.xs.length := by simpa [stCk] using hi
            have hj' : j < ck.xs[i].length := by simpa [stCk] using hj
            exact stD_vr agr (h.idp o ck hk _ (List.getElem_mem hi') _ (List.getElem_mem hj')) (q7 i j hi' hj')
      · rcases hR.cr o c2 (preI o c2 hk) with ⟨q1, q2⟩ | ⟨p, c, E, vs, q1, q2, q3, q4, q5, q6, q7⟩
        · exact .inl ⟨by rw [pso o hn]; exact q1, q2⟩
        · refine .inr ⟨p, c, E, vs, by rw [pso o hn]; exact q1, q2.same (blk o c2 p hk q1), q3, q4, q5, q6, fun i j hi hj => ?_⟩
          have kps : KpS (fun _ => False) (ofL (B ++ pre)) ps M nb w (ofL (B ++ stPost post)) ps2 M nx' w' := by
            refine ⟨fun o h => h.elim, fun o h => h.elim, fun b hb => ?_, fun b hb hm => g3.block b hb fun hl => hm (.inr (by obtain ⟨o, ck, p, k1, k2, k3⟩ := hl; exact ⟨o, ck, p, pre1 o ck k1, k2, k3⟩))⟩
            rcases hb with hb | ⟨o', c', p', h1, h2, rfl⟩
            · exact .inl (.inl hb)
            · rcases live2 o' c' p' h1 h2 with ⟨ck, k1, k2⟩ | ⟨ck, k1, k2⟩
              · rcases g4 o' ck p' k1 k2 with ⟨o3, c3, p3, m1, m2, m3⟩ | k
                · exact .inl (.inr ⟨o3, c3, p3, pre1 o3 c3 m1, m2, m3⟩)
                · exact .inr k
              · exact .inl (.inr ⟨o', ck, p', preI o' ck k1, k2, rfl⟩)
          exact (q7 i j hi hj).monoS ((hB o c2 hk).2.2.2 _ (List.getElem_mem hi) _ (List.getElem_mem hj)) kps
    · have cross : ∀ o o' ck ck' p p', ofL post o = some ck → ps' o = some p → ofL B o' = some ck' → ps o' = some p' → p.b = p'.b → False := fun o o' ck ck' p p' a1 a2 a3 a4 a5 => by
        rcases g4 o ck p a1 a2 with k | k
        · exact notlive o' ck' p' a3 a4 (a5 ▸ k)
        · have := hR.live_lt (preI o' ck' a3) a4; omega
      rcases live2 o c p h1 h3 with ⟨ck, k1, k2⟩ | ⟨ck, k1, k2⟩ <;> rcases live2 o' c' p' h2 h4 with ⟨ck', m1, m2⟩ | ⟨ck', m1, m2⟩
      · exact g2.inj o o' ck ck' p p' k1 m1 k2 m2 h5
      · exact (cross o o' ck ck' p p' k1 k2 m1 m2 h5).elim
      · exact (cross o' o ck' ck p' p m1 m2 k1 k2 h5.symm).elim
      · exact hR.inj o o' ck ck' p p' (preI _ _ k1) (preI _ _ m1) k2 m2 h5
    · rcases live2 o c p h1 h2 with ⟨ck, k1, k2⟩ | ⟨ck, k1, k2⟩
      · exact g2.dj o ck p k1 k2
      · exact hR.dj o ck p (preI o ck k1) k2
    · rcases live2 o c p h1 h2 with ⟨ck, k1, k2⟩ | ⟨ck, k1, k2⟩
      · rcases g4 o ck p k1 k2 with ⟨o3, c3, p3, m1, m2, m3⟩ | k
        · exact .inl ⟨o3, c3, p3, pre1 o3 c3 m1, m2, m3⟩
        · exact .inr k
      · exact .inl ⟨o, ck, p, preI o ck k1, k2, rfl⟩
    · rcases back o c2 hk with ⟨ck, k, rfl⟩ | ⟨hn, k⟩
      · obtain ⟨c0, m1, m2⟩ := g5 o ho ck k
        refine ⟨c0, pre1 o c0 m1, ?_⟩
        rcases m2 with m2 | ⟨m2, m3, m4, m5⟩
        · exact .inl m2
        · exact .inr ⟨m2, m3, by simpa [stCk] using m4, by rw [psi o ck k]; exact m5⟩
      · exact ⟨c2, preI o c2 k, .inr ⟨rfl, rfl, Nat.le_refl _, pso o hn⟩⟩

section lendArgs
variable {H : Hp} {nx : Nat} {HI : IH}
/-- What lending an argument says: at any place where the lent chunks are B. -/
def LendOK (H : Hp) (HI : IH) (nx : Nat) (os : List Nat) (d d1 : DV) : Prop := ∀ (B pre : Cks), (∀ o, o ∈ os → ofL (B ++ pre) o = H o ∧ ofL pre o = none) → BwL B pre nx d d1
theorem LendOK.same (d : DV) (os : List Nat) : LendOK H HI nx os d d := fun B pre _ ps M w x hR hv => hv.mono kp_less
theorem LendOK.mono {os os' : List Nat} {d d1 : DV} (h : LendOK H HI nx os d d1) (hs : ∀ o, o ∈ os → o ∈ os') : LendOK H HI nx os' d d1 := fun B pre hB => h B pre fun o ho => hB o (hs o ho)
theorem LendOK.agg {os : List Nat} {ds es : List DV} (h : Both (LendOK H HI nx os) ds es) : LendOK H HI nx os (.agg ds) (.agg es) := fun B pre hB ps M w x hR hv => by
  obtain ⟨vs, rfl, h1, h2, h3⟩ := hv.agg_inv
  have e := h.1
  exact .agg _ vs (by omega) (fun j hj => h2 j (by omega)) fun j hj => h.2 j (by omega) hj B pre hB ps M w _ hR (h3 j (by omega))
end lendArgs

/-! ### A function with several contracts, by the functions among its arguments -/
end Go.Pv
