/- Code of the walk (run), with notes on how states are written anew, and its soundness. No condition of its own: over any program. -/
import Derived.Test.YtlnilmcocbbohaaPxG
set_option linter.all false
namespace Go.Pv
open Go.RowKit

/-! ### Weaker lists -/
def wkC : GT → List IV → List IV × List IV
  | .list t, .nil :: r => ([.lst false t []], r)
  | .list _, .lst _ t' as :: r => ([.lst false t' as], r)
  | .pair a b, cs => match wkC a cs with
    | (x, r) => match wkC b r with
      | (y, r') => (x ++ y, r')
  | .unit, cs => ([], cs)
  | _, c :: r => ([c], r)
  | _, [] => ([], [])

theorem wkC_rel {H : Hp} {nx : Nat} : ∀ (t : GT) (cs : List IV) (ds : List DV), Rels H nx cs ds → ∃ d1 d2, ds = d1 ++ d2 ∧ Rels H nx (wkC t cs).1 d1 ∧ Rels H nx (wkC t cs).2 d2 := by
  have one : ∀ (c : IV) (r : List IV) (ds : List DV), Rels H nx (c :: r) ds → ∃ d1 d2, ds = d1 ++ d2 ∧ Rels H nx [c] d1 ∧ Rels H nx r d2 := by
    intro c r ds h
    obtain ⟨d, ds, rfl, h1, h2⟩ := h.cons_l
    exact ⟨[d], ds, rfl, .one h1, h2⟩
  have zero : ∀ (cs : List IV) (ds : List DV), Rels H nx cs ds → ∃ d1 d2, ds = d1 ++ d2 ∧ Rels H nx [] d1 ∧ Rels H nx cs d2 := fun cs ds h => ⟨[], ds, rfl, .nil, h⟩
  intro t
  induction t with
  | list t ih =>
    intro cs ds h
    cases cs with
    | nil => exact zero [] ds h
    | cons c r =>
      obtain ⟨d, ds, rfl, h1, h2⟩ := h.cons_l
      cases c with
      | nil => rw [h1.nil_inv]; exact ⟨[.lst true []], ds, rfl, .one (.lst _ _ _ _ _ (fun e => by cases e) .nil), h2⟩
      | lst f t' as =>
        obtain ⟨f', xs, rfl, _, h3⟩ := h1.lst_inv
        exact ⟨[.lst f' xs], ds, rfl, .one (.lst _ _ _ _ _ (fun e => by cases e) h3), h2⟩
      | _ => exact ⟨[d], ds, rfl, .one h1, h2⟩
  | pair a b iha ihb =>
    intro cs ds h
    obtain ⟨d1, d2, rfl, h1, h2⟩ := iha cs ds h
    obtain ⟨d3, d4, rfl, h3, h4⟩ := ihb _ d2 h2
    refine ⟨d1 ++ d3, d4, by simp, ?_, ?_⟩
    · simp only [wkC]; exact h1.append h3
    · simp only [wkC]; exact h4
  | unit => intro cs ds h; exact zero cs ds h
  | _ =>
    intro cs ds h
    cases cs with
    | nil => exact zero [] ds h
    | cons c r => exact one c r ds h

def wkV (t : GT) : IV → IV
  | .agg cs => match wkC t cs with
    | (x, r) => .agg (x ++ r)
  | .nil => match wkC t [.nil] with
    | ([c], []) => c
    | _ => .nil
  | .lst f t' as => .lst false t' as
  | v => v
theorem wkV_rel {H : Hp} {nx : Nat} {t : GT} {v : IV} {d : DV} (h : Rel H nx v d) : Rel H nx (wkV t v) d := by
  unfold wkV
  split
  · obtain ⟨ds, rfl, k⟩ := h.agg_inv
    obtain ⟨d1, d2, rfl, h1, h2⟩ := wkC_rel t _ _ k
    exact Rel.aggB (h1.append h2)
  · split
    · rename_i c he
      obtain ⟨d1, d2, e, h1, h2⟩ := wkC_rel t [.nil] [d] (.one h)
      rw [he] at h1 h2
      obtain ⟨d', rfl, h3⟩ := h1.one_l
      have := h2.nil_l; subst this
      simp only [List.append_nil, List.cons.injEq, and_true] at e
      rw [e]; exact h3
    · exact h
  · obtain ⟨f', xs, rfl, _, h3⟩ := h.lst_inv
    exact .lst _ _ _ _ _ (fun e => by cases e) h3
  · exact h

/-! ### Notes -/
inductive NS where
  | keep (ts : List Nat)
  | own (t : Nat) (ty : GT)
  | ownc (t c : Nat) (ty : GT)
  | frz (t : Nat)
  | frzb (t : Nat)
  | frzo (o : Nat)
  | wait
  | wk (t : Nat) (ty : GT)
  | wkb (t : Nat) (ty : GT)
  | cmp

def keepT (T : List (Nat × IV)) : List Nat → List (Nat × IV)
  | [] => []
  | t :: r => (t, getT T t) :: keepT T r
theorem keepT_get {H : Hp} {nx : Nat} {T : List (Nat × IV)} {T' : Nat → DV} (h : ∀ t, Rel H nx (getT T t) (T' t)) : ∀ (ts : List Nat) (t : Nat), Rel H nx (getT (keepT T ts) t) (T' t)
  | [], t => .any _
  | a :: r, t => by
    simp only [keepT, getT]
    cases hb : Nat.beq a t with
    | true => rw [← Nat.eq_of_beq_eq_true hb]; exact h a
    | false => exact keepT_get h r t

def norm1 (nb : Nat) (n : NS) (s : SI) : Option SI :=
  match n with
  | .keep ts => some ⟨keepT s.T ts, s.H⟩
  | .own t ty => ownI t ty s
  | .ownc t c ty => ownC t c ty s
  | .frz t => some (frzL (idsV (getT s.T t)) s)
  | .frzb t => match getT s.T t with
    | .ptr o _ _ => match getH s.H o with
      | some (.box _ cs) => some (frzL (cs.flatMap idsC) s)
      | _ => none
    | _ => none
  | .frzo o => match getH s.H o with
    | some (.box _ cs) => some (frzL (cs.flatMap idsC) s)
    | _ => none
  | .wait => some ⟨s.T, s.H ++ [some .wait]⟩
  | .wk t ty => some ⟨(t, wkV ty (getT s.T t)) :: s.T, s.H⟩
  | .wkb t ty => match getT s.T t with
    | .ptr o 0 0 => match getH s.H o with
      | some (.box g cs) => match wkC ty cs with
        | (x, r) => some ⟨s.T, setH s.H o (some (.box g (x ++ r)))⟩
      | _ => none
    | _ => none
  | .cmp => cmpI nb s
def normI (nb : Nat) : List NS → SI → Option SI
  | [], s => some s
  | n :: r, s => match norm1 nb n s with
    | some s' => normI nb r s'
    | none => none

theorem norm1_sound {cx : Cx} {n : NS} {si si' : SI} {s : St} (hs : SR si s) (hn : cx.nb ≤ s.nx) (h : norm1 cx.nb n si = some si') : ∃ s', Wk cx s s' ∧ SR si' s' ∧ cx.nb ≤ s'.nx := by
  cases n with
  | keep ts => simp only [norm1, Option.some.injEq] at h; subst h; exact ⟨s, Wk.refl _ _, ⟨keepT_get hs.t ts, hs.h, hs.n⟩, hn⟩
  | own t ty => exact ownI_sound hs hn h
  | ownc t c ty => exact ownC_sound hs hn h
  | frz t => simp only [norm1, Option.some.injEq] at h; subst h; exact frzL_sound _ hs hn
  | frzb t =>
    simp only [norm1] at h
    split at h
    · split at h
      · injection h with h; subst h; exact frzL_sound _ hs hn
      · cases h
    · cases h
  | frzo o =>
    simp only [norm1] at h
    split at h
    · injection h with h; subst h; exact frzL_sound _ hs hn
    · cases h
  | wait =>
    simp only [norm1, Option.some.injEq] at h; subst h
    obtain ⟨w, r⟩ := ghost_sound (cx := cx) .wait 0 ⟨0, rfl⟩ (T := si.T) (HI := si.H) hs hn
    exact ⟨_, w, r, Nat.le_succ_of_le hn⟩
  | wk t ty =>
    simp only [norm1, Option.some.injEq] at h; subst h
    refine ⟨s, Wk.refl _ _, ⟨fun t' => ?_, hs.h, hs.n⟩, hn⟩
    simp only [getT]
    cases hb : Nat.beq t t' with
    | true => rw [← Nat.eq_of_beq_eq_true hb]; exact wkV_rel (hs.t t)
    | false => exact hs.t t'
  | wkb t ty =>
    simp only [norm1] at h
    split at h
    · rename_i o hv
      split at h
      · rename_i gb cs hc
        injection h with h; subst h
        refine ⟨s, Wk.refl _ _, ⟨hs.t, fun q c' hq => ?_, by rw [setH_len]; exact hs.n⟩, hn⟩
        rw [getH_set] at hq
        by_cases e : q = o ∧ o < si.H.length
        · rw [if_pos e] at hq
          obtain ⟨rfl, _⟩ := e
          injection hq with hq; subst hq
          obtain ⟨ho, ck, h1, h2, ds, h3, h4, h5⟩ := hs.h.at hc
          obtain ⟨d1, d2, rfl, k1, k2⟩ := wkC_rel ty _ _ h4
          exact ⟨ho, ck, h1, by rw [h2, h4.1, (k1.append k2).1], _, h3, k1.append k2, h5⟩
        · rw [if_neg e] at hq; exact hs.h q c' hq
      · cases h
    · cases h
  | cmp => exact cmpI_sound hs h
theorem normI_sound {cx : Cx} : ∀ (l : List NS) {si si' : SI} {s : St}, SR si s → cx.nb ≤ s.nx → normI cx.nb l si = some si' → ∃ s', Wk cx s s' ∧ SR si' s' ∧ cx.nb ≤ s'.nx
  | [], si, si', s, hs, hn, h => by simp only [normI, Option.some.injEq] at h; subst h; exact ⟨s, Wk.refl _ _, hs, hn⟩
  | n :: r, si, si', s, hs, hn, h => by
    simp only [normI] at h
    split at h
    · rename_i s1 h1
      obtain ⟨t1, w1, r1, n1⟩ := norm1_sound hs hn h1
      obtain ⟨t2, w2, r2, n2⟩ := normI_sound r r1 n1 h
      exact ⟨t2, w1.trans w2, r2, n2⟩
    · cases h

/-! ### Code -/
inductive TC where
  | skip
  | rg (l : List TI) (un : Option (List (Nat × Nat)))
  | seq (a b : TC)
  | cond (c : RO) (a b : TC)
  | block (id : Nat) (c : TC)
  | loop (ns : List NS) (c : TC)
  | exit (id : Nat)
  | ret
  | pre (ns : List NS) (c : TC)

def TC.er : TC → AC
  | .skip => .skip
  | .rg l un => .rg (l.map (·.ri)) un
  | .seq a b => .seq a.er b.er
  | .cond c a b => .cond c a.er b.er
  | .block id c => .block id c.er
  | .loop _ c => .loop c.er
  | .exit id => .exit id
  | .ret => .ret
  | .pre _ c => c.er

section run
variable {R : Type}
def seqK (f : SI → (Exit → SI → Option R) → Option R) (k : Exit → SI → Option R) : Exit → SI → Option R
  | .normal, s => f s k
  | e, s => k e s
def blkK (id : Nat) (k : Exit → SI → Option R) : Exit → SI → Option R
  | .exit id', s => cond (Nat.beq id' id) (k .normal s) (k (.exit id') s)
  | e, s => k e s
def rgK (un : Option (List (Nat × Nat))) (n : Nat) (k : Exit → SI → Option R) : List (Nat × IV) → IH → Lg → Option R := match un with
  | none => fun T H _ => k .normal ⟨T, H⟩
  | some uo => fun T H lg => cond (compatB uo lg && Nat.beq H.length n) (k .normal ⟨T, H⟩) none
def preK (o : Option SI) (f : SI → Option R) : Option R := match o with
  | some s => f s
  | none => none
def nextL (g : SI → Option SI) (h : SI → (Exit → SI → Option R) → Option R) : SI → (Exit → SI → Option R) → Option R := fun s k => preK (g s) fun s' => h s' k
def loopN (g : SI → Option SI) (f : SI → (Exit → SI → Option R) → Option R) : Nat → SI → (Exit → SI → Option R) → Option R
  | 0, _, _ => none
  | n + 1, s, k => f s (seqK (nextL g (loopN g f n)) k)
def setO (T : List (Nat × IV)) (c : RO) (b : Bool) : List (Nat × IV) := match c with
  | .t n => (n, .bool b) :: T
  | .c _ => T
def run (env : List (Nat × Ent)) (N nb : Nat) : TC → SI → (Exit → SI → Option R) → Option R
  | .skip, s, k => k .normal s
  | .rg l un, s, k => runOps env l s.T s.H [] (rgK un s.H.length k)
  | .seq a b, s, k => run env N nb a s (seqK (run env N nb b) k)
  | .cond c a b, s, k => match getO s.T c with
    | .bool q => cond q (run env N nb a ⟨setO s.T c true, s.H⟩ k) (run env N nb b ⟨setO s.T c false, s.H⟩ k)
    | _ => none
  | .block id c, s, k => run env N nb c s (blkK id k)
  | .loop ns c, s, k => preK (normI nb ns s) fun s' => loopN (normI nb ns) (run env N nb c) N s' k
  | .exit id, s, k => k (.exit id) s
  | .ret, s, k => k .ret s
  | .pre ns c, s, k => preK (normI nb ns s) fun s' => run env N nb c s' k
end run

section sound
variable {R : Type} {P : Program} {cx : Cx} {ow : Nat → Bool} {r : R} {env : List (Nat × Ent)}

def FinQ (k : Exit → SI → Option R) (r : R) : Exit → St → Prop := fun e s' => ∃ si', SR si' s' ∧ k e si' = some r

theorem compatB_ok {un : List (Nat × Nat)} {lg : Lg} (h : compatB un lg = true) : compat un lg := by
  intro p hp
  have := List.all_eq_true.1 h p hp
  simp only [disB, Bool.and_eq_true, List.all_eq_true, Bool.not_eq_true', List.contains_eq_mem, decide_eq_false_iff_not] at this
  exact ⟨fun o ho => this.1 o ho, fun o ho => this.2 o ho⟩

theorem runX_mono {P : Program} : ∀ (l : List RI) (lg : Lg) (s : St) (K K' : Lg → St → Prop), (∀ lg s, K lg s → K' lg s) → runX P l lg s K → runX P l lg s K'
  | [], lg, s, K, K', hk, h => hk _ _ h
  | i :: l, lg, s, K, K', hk, h => by
    obtain ⟨e, h1, h2⟩ := h
    exact ⟨e, h1, runX_mono l _ _ K K' hk h2⟩

theorem AWP.nbx {ac : AC} {Q : Exit → St → Prop} {s : St} (h : cx.nb ≤ s.nx → AWP P cx ow ac Q s) : AWP P cx ow ac Q s := fun hm c hc ps a w R => h R.nbx hm c hc ps a w R
theorem AWPL.nbx {ac : AC} {Q : Exit → St → Prop} {s : St} (h : cx.nb ≤ s.nx → AWPL P cx ow ac Q s) : AWPL P cx ow ac Q s := fun hm c hc ps a w R => h R.nbx hm c hc ps a w R

theorem loopN_sound {g : SI → Option SI} {f : SI → (Exit → SI → Option R) → Option R} {ac : AC} (hg : ∀ si si' s, SR si s → cx.nb ≤ s.nx → g si = some si' → ∃ s', Wk cx s s' ∧ SR si' s' ∧ cx.nb ≤ s'.nx)
    (hf : ∀ si k s, SR si s → f si k = some r → AWP P cx ow ac (FinQ k r) s) : ∀ (n : Nat) (si : SI) (k : Exit → SI → Option R) (s : St), SR si s → loopN g f n si k = some r → AWPL P cx ow ac (FinQ k r) s
  | 0, si, k, s, hs, h => by simp [loopN] at h
  | n + 1, si, k, s, hs, h => by
    simp only [loopN] at h
    refine AWPL.unroll ((hf _ _ _ hs h).mono ?_)
    rintro e s' ⟨si', h1, h2⟩
    cases e with
    | normal =>
      simp only [seqK, nextL] at h2
      refine AWPL.nbx fun hnb => ?_
      cases hgs : g si' with
      | none => simp [hgs, preK] at h2
      | some si2 =>
        rw [hgs] at h2
        obtain ⟨s2, w2, r2, _⟩ := hg si' si2 s' h1 hnb hgs
        exact AWPL.wk w2 (loopN_sound hg hf n si2 k s2 r2 h2)
    | _ => exact ⟨si', h1, h2⟩

theorem run_sound (hE : EnvOK P env) (N : Nat) : ∀ (tc : TC) (si : SI) (k : Exit → SI → Option R) (s : St), SR si s → run env N cx.nb tc si k = some r → AWP P cx ow tc.er (FinQ k r) s
  | .skip, si, k, s, hs, h => AWP.skip ⟨si, hs, h⟩
  | .rg l un, si, k, s, hs, h => by
    simp only [run] at h
    have h1 := runOps_sound hE l si.T si.H [] _ s hs h
    refine AWP.rgX ?_
    cases un with
    | none =>
      refine runX_mono _ _ _ _ _ ?_ h1
      rintro lg s' ⟨T', H', r1, r2⟩
      exact ⟨⟨T', H'⟩, r1, r2⟩
    | some uo =>
      refine runX_mono _ _ _ _ _ ?_ h1
      rintro lg s' ⟨T', H', r1, r2⟩
      simp only [rgK] at r2
      obtain ⟨r3, r4⟩ := cond_some r2
      rw [Bool.and_eq_true] at r3
      refine ⟨compatB_ok r3.1, ?_, ⟨T', H'⟩, r1, r4⟩
      have := Nat.eq_of_beq_eq_true r3.2
      have e1 := r1.n
      have e2 := hs.n
      simp only at e1
      omega
  | .seq a b, si, k, s, hs, h => by
    simp only [run] at h
    refine AWP.seq ((run_sound hE N a si _ s hs h).mono ?_)
    rintro e s' ⟨si', h1, h2⟩
    cases e with
    | normal => exact run_sound hE N b si' k s' h1 h2
    | _ => exact ⟨si', h1, h2⟩
  | .cond c a b, si, k, s, hs, h => by
    simp only [run] at h
    split at h
    · rename_i q hq
      have hc := getO_rel hs.t c
      rw [hq] at hc
      have hcv : c.get s.T = .v (.bool q) := rel_un_b (v := .any) hc true ▸ by
        have := hc.bool_inv
        cases c with
        | t n =>
          have h2 := hs.t n
          simp only [getO] at hq
          rw [hq] at h2
          simp only [RO.get]
          rw [h2.bool_inv]; rfl
        | c d =>
          simp only [getO] at hq
          have h2 := ofD_rel (H := s.H) (nx := s.nx) d
          rw [hq] at h2
          simp only [RO.get]
          rw [h2.bool_inv]; rfl
      have ref : ∀ b : Bool, b = q → SR ⟨setO si.T c b, si.H⟩ s := by
        intro b hb
        subst hb
        refine ⟨fun t => ?_, hs.h, hs.n⟩
        cases c with
        | c d => exact hs.t t
        | t n =>
          simp only [setO, getT]
          cases hbq : Nat.beq n t with
          | false => exact hs.t t
          | true =>
            rw [← Nat.eq_of_beq_eq_true hbq]
            have := hs.t n
            simp only [getO] at hq
            rw [hq] at this
            exact this
      refine AWP.cond hcv (fun e => ?_) (fun e => ?_)
      · subst e; exact run_sound hE N a _ k s (ref true rfl) h
      · subst e; exact run_sound hE N b _ k s (ref false rfl) h
    · cases h
  | .block id c, si, k, s, hs, h => by
    simp only [run] at h
    refine AWP.block ((run_sound hE N c si _ s hs h).mono ?_)
    rintro e s' ⟨si', h1, h2⟩
    cases e with
    | exit id' =>
      simp only [blkK] at h2
      simp only [inQ]
      cases hb : Nat.beq id' id with
      | true => rw [hb] at h2; rw [if_pos (Nat.eq_of_beq_eq_true hb)]; exact ⟨si', h1, h2⟩
      | false => rw [hb] at h2; rw [if_neg (nbeq_ne hb)]; exact ⟨si', h1, h2⟩
    | _ => exact ⟨si', h1, h2⟩
  | .loop ns c, si, k, s, hs, h => by
    simp only [run] at h
    refine AWP.nbx fun hnb => ?_
    cases hg : normI cx.nb ns si with
    | none => simp [hg, preK] at h
    | some si2 =>
      rw [hg] at h
      obtain ⟨s2, w2, r2, _⟩ := normI_sound ns hs hnb hg
      refine AWP.wk w2 (AWP.loopL ?_)
      exact loopN_sound (fun si si' s a b c => normI_sound ns a b c) (fun si k s a b => run_sound hE N c si k s a b) N si2 k s2 r2 h
  | .exit id, si, k, s, hs, h => AWP.exit ⟨si, hs, h⟩
  | .ret, si, k, s, hs, h => AWP.ret ⟨si, hs, h⟩
  | .pre ns c, si, k, s, hs, h => by
    simp only [run] at h
    refine AWP.nbx fun hnb => ?_
    cases hg : normI cx.nb ns si with
    | none => simp [hg, preK] at h
    | some si2 =>
      rw [hg] at h
      obtain ⟨s2, w2, r2, _⟩ := normI_sound ns hs hnb hg
      exact AWP.wk w2 (run_sound hE N c si2 k s2 r2 h)
end sound
end Go.Pv
