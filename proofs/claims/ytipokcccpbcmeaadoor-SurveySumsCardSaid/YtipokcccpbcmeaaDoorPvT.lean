/- Rules by which one operation is reckoned at once, loops by unrolling, states cut down to what lives. No condition of its own: over any program. -/
import Derived.Test.YtipokcccpbcmeaaDoorPvS
set_option linter.all false
namespace Go.Pv
open Go.RowKit

section ge
variable {p q : Bool} {T : Nat → DV} {H : Hp} {nx : Nat} {x y z : RO}
section bin
variable {a b : Int} {k : IntKind}
end bin
end ge

section tq
variable {K : St → Prop} {Q : Exit → St → Prop} {s : St} {id id' : Nat}
end tq

section trim
variable {P : Program} {cx : Cx} {ow : Nat → Bool} {Q : Exit → St → Prop}

def mkT : List (Nat × DV) → Nat → DV
  | [] => fun _ => .any
  | x :: r => upd (mkT r) x.1 x.2

/-- A heap, written out. -/
def mkH : List (Nat × Ck) → Hp
  | [] => Hp.emp
  | x :: r => (mkH r).put x.1 (some x.2)

def Has (T : Nat → DV) : List (Nat × DV) → Prop
  | [] => True
  | x :: r => T x.1 = x.2 ∧ Has T r

theorem Has.mk {T : Nat → DV} : ∀ {l : List (Nat × DV)}, Has T l → ∀ t, mkT l t = .any ∨ mkT l t = T t
  | [], _, t => .inl rfl
  | x :: r, h, t => by
    by_cases e : t = x.1
    · subst e; right; simp only [mkT, upd, if_true]; exact h.1.symm
    · simp only [mkT, upd, if_neg e]; exact Has.mk h.2 t

theorem Wk.refl (cx : Cx) (s : St) : Wk cx s s := fun ps _ _ R => ⟨ps, R⟩
theorem Wk.trans {s s' s'' : St} (h : Wk cx s s') (k : Wk cx s' s'') : Wk cx s s'' := fun ps a w R => by
  obtain ⟨ps', R'⟩ := h ps a w R; exact k ps' a w R'
theorem Wk.trim {T T' : Nat → DV} {H : Hp} {nx : Nat} (h : ∀ t, T' t = .any ∨ T' t = T t) : Wk cx ⟨T, H, nx⟩ ⟨T', H, nx⟩ := fun ps a w R =>
  ⟨ps, ⟨fun t => by rcases h t with e | e
                    · show VR _ _ _ _ _ (T' t) _; rw [e]; exact .any _
                    · show VR _ _ _ _ _ (T' t) _; rw [e]; exact R.t t, R.nt, R.hr, R.fr, R.lb, R.df, R.nbx, R.gm, R.fz⟩⟩
theorem Wk.live {T : Nat → DV} {H : Hp} {nx : Nat} (l : List (Nat × DV)) (h : Has T l) : Wk cx ⟨T, H, nx⟩ ⟨mkT l, H, nx⟩ := Wk.trim h.mk

/-- Chunks that are no longer used are forgotten, and newer numbers pass. -/
theorem Wk.drop {T : Nat → DV} {H H' : Hp} {nx nx' : Nat} (hH : ∀ o, H' o = none ∨ H' o = H o) (hn : nx ≤ nx') : Wk cx ⟨T, H, nx⟩ ⟨T, H', nx'⟩ := fun ps a w R => by
  have kp : Kp H ps cx.M nx w H' ps cx.M nx' w := by
    refine ⟨hn, fun o ho ck' hk => ?_, fun b hb => .inl ?_, fun _ _ _ => rfl⟩
    · rcases hH o with e | e
      · rw [e] at hk; cases hk
      · rw [e] at hk; exact ⟨ck', hk, .inr ⟨rfl, rfl, Nat.le_refl _, rfl⟩⟩
    · rcases hb with hb | ⟨o, ck, p, h1, h2, h3⟩
      · exact .inl hb
      · rcases hH o with e | e
        · rw [e] at h1; cases h1
        · rw [e] at h1; exact .inr ⟨o, ck, p, h1, h2, h3⟩
  have up : ∀ o ck, H' o = some ck → H o = some ck := fun o ck h => by
    rcases hH o with e | e
    · rw [e] at h; cases h
    · rw [e] at h; exact h
  exact ⟨ps, ⟨fun t => (R.t t).mono kp, R.nt,
    ⟨fun o ck h => Nat.lt_of_lt_of_le (R.hr.lt o ck (up o ck h)) hn, fun o ck h => (R.hr.cr o ck (up o ck h)).mono kp rfl fun _ _ => rfl, fun o o' ck ck' p p' h1 h2 => R.hr.inj o o' ck ck' p p' (up _ _ h1) (up _ _ h2), R.hr.ml, fun o ck p h1 => R.hr.dj o ck p (up _ _ h1)⟩,
    R.fr, fun o ck p h1 => R.lb o ck p (up _ _ h1), R.df, Nat.le_trans R.nbx hn, fun o ho ck' hk => R.gm o ho ck' (up _ _ hk), R.fz⟩⟩

theorem AWP.live {ac : AC} {T : Nat → DV} {H : Hp} {nx : Nat} (l : List (Nat × DV)) (h : Has T l) (k : AWP P cx ow ac Q ⟨mkT l, H, nx⟩) : AWP P cx ow ac Q ⟨T, H, nx⟩ := AWP.wk (Wk.live l h) k

/-- At the head of a loop. -/
def AWPL (P : Program) (cx : Cx) (ow : Nat → Bool) (x : AC) (Q : Exit → St → Prop) (s : St) : Prop :=
  Hm P cx → ∀ c, comp P cx.nt ow c = some x → x.nofz cx.fz → ∀ ps a w, RS cx s ps a w → ∀ (b : Frame) (k : List Item) (cs : List Frame), b.roundOf = cx.ro →
    ∃ e a' w', (∃ s' ps', RS cx s' ps' a' w' ∧ Q e s') ∧ ArrivesIn (Machine.fenced P (FR cx.ro)) P (lone (b.atR a (.code c :: .inLoop c :: k)) cs w) b k cs e a' w'

theorem AWPL.wk {x : AC} {s s' : St} (h : Wk cx s s') (k : AWPL P cx ow x Q s') : AWPL P cx ow x Q s := fun hm c hc hz ps a w R => by
  obtain ⟨ps', R'⟩ := h ps a w R
  exact k hm c hc hz ps' a w R'
theorem AWPL.live {x : AC} {T : Nat → DV} {H : Hp} {nx : Nat} (l : List (Nat × DV)) (h : Has T l) (k : AWPL P cx ow x Q ⟨mkT l, H, nx⟩) : AWPL P cx ow x Q ⟨T, H, nx⟩ := AWPL.wk (Wk.live l h) k
theorem roomFR {ro : Option Nat} (n : Nat) : (FR ro).room n := fun d h => by cases h

/-- A loop is its body, then the loop. -/
theorem AWPL.unroll {x : AC} {s : St} (h : AWP P cx ow x (thenQ (fun s' => AWPL P cx ow x Q s') Q) s) : AWPL P cx ow x Q s := fun hm c1 h1 hz ps a w R b k cs hro => by
  obtain ⟨e, a₁, w₁, ⟨s₁, ps₁, R₁, hq⟩, harr⟩ := h hm c1 h1 hz ps a w R b (.inLoop c1 :: k) cs hro trivial (roomFR _)
  cases e with
  | normal =>
    obtain ⟨e₂, a₂, w₂, hq₂, harr₂⟩ := hq hm c1 h1 hz ps₁ a₁ w₁ R₁ b k cs hro
    exact ⟨e₂, a₂, w₂, hq₂, .of_steps (StepsIn.trans harr (.one (fenced_calm (F := FR cx.ro) (n := 0) trivial (roomFR _) rfl) stepR_inLoop)) harr₂⟩
  | exit id => exact ⟨_, a₁, w₁, ⟨s₁, ps₁, R₁, hq⟩, .pass (x := .inLoop c1) rfl (fun _ _ => .inl (by simp)) harr⟩
  | goto l => exact ⟨_, a₁, w₁, ⟨s₁, ps₁, R₁, hq⟩, .pass (x := .inLoop c1) rfl (fun _ _ => .inl (by simp)) harr⟩
  | ret => exact ⟨_, a₁, w₁, ⟨s₁, ps₁, R₁, hq⟩, .pass (x := .inLoop c1) rfl (fun _ _ => .inl (by simp)) harr⟩
  | panic ch => exact ⟨_, a₁, w₁, ⟨s₁, ps₁, R₁, hq⟩, .pass (x := .inLoop c1) rfl (fun _ _ => .inl (by simp)) harr⟩
  | outgrown => exact ⟨_, a₁, w₁, ⟨s₁, ps₁, R₁, hq⟩, .pass (x := .inLoop c1) rfl (fun _ _ => .inl (by simp)) harr⟩

theorem AWP.loopL {x : AC} {s : St} (h : AWPL P cx ow x Q s) : AWP P cx ow (.loop x) Q s := fun hm c hc hz ps a w R => by
  cases c with
  | loop c1 =>
    simp only [comp] at hc
    split at hc
    · rename_i x' h1
      injection hc with hc; injection hc with e1; subst e1
      intro b k cs hro _ _
      obtain ⟨e, a', w', hq, harr⟩ := h hm c1 h1 hz ps a w R b k cs hro
      exact ⟨e, a', w', hq, .of_steps (.one (fenced_calm (F := FR cx.ro) (n := 0) trivial (roomFR _) rfl) stepR_loop) harr⟩
    · cases hc
  | _ => exfalso; simp only [comp] at hc; revert hc; (repeat' split) <;> simp
end trim

section more
variable {p q : Bool} {T : Nat → DV} {H : Hp} {nx : Nat} {x y z : RO}
theorem e_lenL {f : Bool} {xs : List (List DV)} {n : Int} (h : un p (x.get T) = .lst f xs) (hn : (xs.length : Int) = n) : ev (.len x) p T H nx = some (I n, .no) := by rw [ev_len, h, ← hn]; rfl
end more
section sets
def BE := And.intro @get_t (And.intro @get_c (And.intro @upd_get (And.intro @un_v (And.intro @un_ptr (And.intro @un_own (And.intro @un_lst (And.intro @un_rp (And.intro @un_agg (And.intro @dcells_int (And.intro @dcells_bool (And.intro @dcells_agg (And.intro @dcells_lst (And.intro @List.set_cons_zero.{0} (And.intro @List.set_cons_succ.{0} (And.intro @List.length_cons.{0} (And.intro @List.length_nil.{0}
  (And.intro @Nat.zero_add (And.intro @and_self (And.intro @and_true (And.intro @true_and (@Nat.lt_add_left_iff_pos)))))))))))))))))))))
end sets
end Go.Pv
