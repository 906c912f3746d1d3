/- Code of the walk (run), with notes on how states are written anew, and its soundness. No condition of its own: over any program. -/
import Derived.Test.YtipokcccpbcmeaaDoorPxG
import Derived.Test.YtipokcccpbcmeaaDoorPxR
set_option linter.all false
namespace Go.Pv
open Go.RowKit

/-! ### Weaker lists -/
def wkC : GT → List IV → List IV × List IV
  | .list t, .nil :: r => ([.lst false t []], r)
  | .list _, .lst _ t' as :: r => ([.lst false t' as], r)
  | .pair a b, cs => match wkC a cs with
    | (x, r) => match wkC b r with
      | (y, r') => (x ++ y, r')
  | .unit, cs => ([], cs)
  | _, c :: r => ([c], r)
  | _, [] => ([], [])

theorem wkC_rel {H : Hp} {nx : Nat} : ∀ (t : GT) (cs : List IV) (ds : List DV), Rels H nx cs ds → ∃ d1 d2, ds = d1 ++ d2 ∧ Rels H nx (wkC t cs).1 d1 ∧ Rels H nx (wkC t cs).2 d2 := by
  have one : ∀ (c : IV) (r : List IV) (ds : List DV), Rels H nx (c :: r) ds → ∃ d1 d2, ds = d1 ++ d2 ∧ Rels H nx [c] d1 ∧ Rels H nx r d2 := by
    intro c r ds h
    obtain ⟨d, ds, rfl, h1, h2⟩ := h.cons_l
    exact ⟨[d], ds, rfl, .one h1, h2⟩
  have zero : ∀ (cs : List IV) (ds : List DV), Rels H nx cs ds → ∃ d1 d2, ds = d1 ++ d2 ∧ Rels H nx [] d1 ∧ Rels H nx cs d2 := fun cs ds h => ⟨[], ds, rfl, .nil, h⟩
  intro t
  induction t with
  | list t ih =>
    intro cs ds h
    cases cs with
    | nil => exact zero [] ds h
    | cons c r =>
      obtain ⟨d, ds, rfl, h1, h2⟩ := h.cons_l
      cases c with
      | nil => rw [h1.nil_inv]; exact ⟨[.lst true []], ds, rfl, .one (.lst _ _ _ _ _ (fun e => by cases e) .nil), h2⟩
      | lst f t' as =>
        obtain ⟨f', xs, rfl, _, h3⟩ := h1.lst_inv
        exact ⟨[.lst f' xs], ds, rfl, .one (.lst _ _ _ _ _ (fun e => by cases e) h3), h2⟩
      | _ => exact ⟨[d], ds, rfl, .one h1, h2⟩
  | pair a b iha ihb =>
    intro cs ds h
    obtain ⟨d1, d2, rfl, h1, h2⟩ := iha cs ds h
    obtain ⟨d3, d4, rfl, h3, h4⟩ := ihb _ d2 h2
    refine ⟨d1 ++ d3, d4, by simp, ?_, ?_⟩
    · simp only [wkC]; exact h1.append h3
    · simp only [wkC]; exact h4
  | unit => intro cs ds h; exact zero cs ds h
  | _ =>
    intro cs ds h
    cases cs with
    | nil => exact zero [] ds h
    | cons c r => exact one c r ds h

def wkV (t : GT) : IV → IV
  | .agg cs => match wkC t cs with
    | (x, r) => .agg (x ++ r)
  | .nil => match wkC t [.nil] with
    | ([c], []) => c
    | _ => .nil
  | .lst f t' as => .lst false t' as
  | v => v
theorem wkV_rel {H : Hp} {nx : Nat} {t : GT} {v : IV} {d : DV} (h : Rel H nx v d) : Rel H nx (wkV t v) d := by
  unfold wkV
  split
  · obtain ⟨ds, rfl, k⟩ := h.agg_inv
    obtain ⟨d1, d2, rfl, h1, h2⟩ := wkC_rel t _ _ k
    exact Rel.aggB (h1.append h2)
  · split
    · rename_i c he
      obtain ⟨d1, d2, e, h1, h2⟩ := wkC_rel t [.nil] [d] (.one h)
      rw [he] at h1 h2
      obtain ⟨d', rfl, h3⟩ := h1.one_l
      have := h2.nil_l; subst this
      simp only [List.append_nil, List.cons.injEq, and_true] at e
      rw [e]; exact h3
    · exact h
  · obtain ⟨f', xs, rfl, _, h3⟩ := h.lst_inv
    exact .lst _ _ _ _ _ (fun e => by cases e) h3
  · exact h

/-! ### Notes -/
inductive NS where
  | keep (ts : List Nat)
  | own (t : Nat) (ty : GT)
  | ownc (t c : Nat) (ty : GT)
  | frz (t : Nat)
  | frzb (t : Nat)
  | frzo (o : Nat)
  | wait
  | wk (t : Nat) (ty : GT)
  | wkb (t : Nat) (ty : GT)
  | cmp
  | out (bs : List Nat)
  | ghost (ty : GT)
  | sl (t : Nat)

def keepT (T : List (Nat × IV)) : List Nat → List (Nat × IV)
  | [] => []
  | t :: r => (t, getT T t) :: keepT T r
theorem keepT_get {H : Hp} {nx : Nat} {T : List (Nat × IV)} {T' : Nat → DV} (h : ∀ t, Rel H nx (getT T t) (T' t)) : ∀ (ts : List Nat) (t : Nat), Rel H nx (getT (keepT T ts) t) (T' t)
  | [], t => .any _
  | a :: r, t => by
    simp only [keepT, getT]
    cases hb : Nat.beq a t with
    | true => rw [← Nat.eq_of_beq_eq_true hb]; exact h a
    | false => exact keepT_get h r t

def norm1 (nb : Nat) (n : NS) (s : SI) : Option SI :=
  match n with
  | .keep ts => some ⟨keepT s.T ts, s.H⟩
  | .own t ty => ownI t ty s
  | .ownc t c ty => ownC t c ty s
  | .frz t => some (frzL (idsV (getT s.T t)) s)
  | .frzb t => match getT s.T t with
    | .ptr o _ _ => match getH s.H o with
      | some (.box _ cs) => some (frzL (cs.flatMap idsC) s)
      | _ => none
    | _ => none
  | .frzo o => match getH s.H o with
    | some (.box _ cs) => some (frzL (cs.flatMap idsC) s)
    | _ => none
  | .wait => some ⟨s.T, s.H ++ [some .wait]⟩
  | .wk t ty => some ⟨(t, wkV ty (getT s.T t)) :: s.T, s.H⟩
  | .wkb t ty => match getT s.T t with
    | .ptr o 0 0 => match getH s.H o with
      | some (.box g cs) => match wkC ty cs with
        | (x, r) => some ⟨s.T, setH s.H o (some (.box g (x ++ r)))⟩
      | _ => none
    | _ => none
  | .cmp => cmpI nb s
  | .out bs => outI nb bs s
  | .ghost ty => some ⟨s.T, s.H ++ [some (.arr ty [])]⟩
  | .sl t => slI t s
def normI (nb : Nat) : List NS → SI → Option SI
  | [], s => some s
  | n :: r, s => match norm1 nb n s with
    | some s' => normI nb r s'
    | none => none

theorem norm1_sound {cx : Cx} {n : NS} {si si' : SI} {s : St} (hs : SR si s) (hn : cx.nb ≤ s.nx) (h : norm1 cx.nb n si = some si') : ∃ s', Wk cx s s' ∧ SR si' s' ∧ cx.nb ≤ s'.nx := by
  cases n with
  | keep ts => simp only [norm1, Option.some.injEq] at h; subst h; exact ⟨s, Wk.refl _ _, ⟨keepT_get hs.t ts, hs.h, hs.n⟩, hn⟩
  | own t ty => exact ownI_sound hs hn h
  | ownc t c ty => exact ownC_sound hs hn h
  | frz t => simp only [norm1, Option.some.injEq] at h; subst h; exact frzL_sound _ hs hn
  | frzb t =>
    simp only [norm1] at h
    split at h
    · split at h
      · injection h with h; subst h; exact frzL_sound _ hs hn
      · cases h
    · cases h
  | frzo o =>
    simp only [norm1] at h
    split at h
    · injection h with h; subst h; exact frzL_sound _ hs hn
    · cases h
  | wait =>
    simp only [norm1, Option.some.injEq] at h; subst h
    obtain ⟨w, r⟩ := ghost_sound (cx := cx) .wait 0 ⟨0, rfl⟩ (T := si.T) (HI := si.H) hs hn
    exact ⟨_, w, r, Nat.le_succ_of_le hn⟩
  | wk t ty =>
    simp only [norm1, Option.some.injEq] at h; subst h
    refine ⟨s, Wk.refl _ _, ⟨fun t' => ?_, hs.h, hs.n⟩, hn⟩
    simp only [getT]
    cases hb : Nat.beq t t' with
    | true => rw [← Nat.eq_of_beq_eq_true hb]; exact wkV_rel (hs.t t)
    | false => exact hs.t t'
  | wkb t ty =>
    simp only [norm1] at h
    split at h
    · rename_i o hv
      split at h
      · rename_i gb cs hc
        injection h with h; subst h
        refine ⟨s, Wk.refl _ _, ⟨hs.t, fun q c' hq => ?_, by rw [setH_len]; exact hs.n⟩, hn⟩
        rw [getH_set] at hq
        by_cases e : q = o ∧ o < si.H.length
        · rw [if_pos e] at hq
          obtain ⟨rfl, _⟩ := e
          injection hq with hq; subst hq
          obtain ⟨ho, ck, h1, h2, ds, h3, h4, h5⟩ := hs.h.at hc
          obtain ⟨d1, d2, rfl, k1, k2⟩ := wkC_rel ty _ _ h4
          exact ⟨ho, ck, h1, by rw [h2, h4.1, (k1.append k2).1], _, h3, k1.append k2, h5⟩
        · rw [if_neg e] at hq; exact hs.h q c' hq
      · cases h
    · cases h
  | cmp => exact cmpI_sound hs h
  | sl t => exact slI_sound hs hn h
  | out bs => exact outI_sound hs h
  | ghost ty =>
    simp only [norm1, Option.some.injEq] at h; subst h
    obtain ⟨w, r⟩ := ghost_sound (cx := cx) (.arr ty []) ty.sz (CkR.arrI rfl Both.nil) (T := si.T) (HI := si.H) hs hn
    exact ⟨_, w, r, Nat.le_succ_of_le hn⟩
theorem normI_sound {cx : Cx} : ∀ (l : List NS) {si si' : SI} {s : St}, SR si s → cx.nb ≤ s.nx → normI cx.nb l si = some si' → ∃ s', Wk cx s s' ∧ SR si' s' ∧ cx.nb ≤ s'.nx
  | [], si, si', s, hs, hn, h => by simp only [normI, Option.some.injEq] at h; subst h; exact ⟨s, Wk.refl _ _, hs, hn⟩
  | n :: r, si, si', s, hs, hn, h => by
    simp only [normI] at h
    split at h
    · rename_i s1 h1
      obtain ⟨t1, w1, r1, n1⟩ := norm1_sound hs hn h1
      obtain ⟨t2, w2, r2, n2⟩ := normI_sound r r1 n1 h
      exact ⟨t2, w1.trans w2, r2, n2⟩
    · cases h

/-! ### Code -/
inductive TC where
  | skip
  | rg (l : List TI) (un : Option (List (Nat × Nat)))
  | rgw (l : List (List TI × List NS))
  | seq (a b : TC)
  | cond (c : RO) (a b : TC)
  | block (id : Nat) (c : TC)
  | loop (ns : List NS) (c : TC)
  | exit (id : Nat)
  | ret
  | pre (ns : List NS) (c : TC)
  | join (ns : List NS) (c : TC)
  | hand (as : List AC) (t : GT) (g : SI → Option (El t)) (u : El t → SI → SI) (c : TC)
  | rngf (g : RO) (p fb : Nat) (ns : List NS) (a b : TC)
  | bad

/-- Pieces of code one after the other, then the rest. -/
def seqsAC : List AC → AC → AC
  | [], c => c
  | a :: r, c => .seq a (seqsAC r c)

def TC.er : TC → AC
  | .skip => .skip
  | .rg l un => .rg (l.map (·.ri)) un
  | .rgw l => .rg (l.flatMap fun q => q.1.map (·.ri)) none
  | .seq a b => .seq a.er b.er
  | .cond c a b => .cond c a.er b.er
  | .block id c => .block id c.er
  | .loop _ c => .loop c.er
  | .exit id => .exit id
  | .ret => .ret
  | .pre _ c => c.er
  | .join _ c => c.er
  | .hand as _ _ _ c => seqsAC as c.er
  | .rngf g p _ _ a b => .rngf g p a.er b.er
  | .bad => .bad

section run
variable {R : Type}
def seqK (f : SI → (Exit → SI → Option R) → Option R) (k : Exit → SI → Option R) : Exit → SI → Option R
  | .normal, s => f s k
  | e, s => k e s
def blkK (id : Nat) (k : Exit → SI → Option R) : Exit → SI → Option R
  | .exit id', s => brB (Nat.beq id' id) (k .normal s) (k (.exit id') s)
  | e, s => k e s
def rgK (un : Option (List (Nat × Nat))) (n : Nat) (k : Exit → SI → Option R) : List (Nat × IV) → IH → Lg → Option R := match un with
  | none => fun T H _ => k .normal ⟨T, H⟩
  | some uo => fun T H lg => brB (compatB uo lg && Nat.beq H.length n) (k .normal ⟨T, H⟩) none
def preK (o : Option SI) (f : SI → Option R) : Option R := match o with
  | some s => f s
  | none => none
def nextL (g : SI → Option SI) (h : SI → (Exit → SI → Option R) → Option R) : SI → (Exit → SI → Option R) → Option R := fun s k => preK (g s) fun s' => h s' k
def loopN (g : SI → Option SI) (f : SI → (Exit → SI → Option R) → Option R) : Nat → SI → (Exit → SI → Option R) → Option R
  | 0, _, _ => none
  | n + 1, s, k => f s (seqK (nextL g (loopN g f n)) k)
/-- Code that several paths come to: it waits for a number. -/
def joinN (f : SI → (Exit → SI → Option R) → Option R) : Nat → SI → (Exit → SI → Option R) → Option R
  | 0, _, _ => none
  | _ + 1, s, k => f s k
def setO (T : List (Nat × IV)) (c : RO) (b : Bool) : List (Nat × IV) := match c with
  | .t n => (n, .bool b) :: T
  | .c _ => T
/-- A region in parts, with notes behind each. -/
def runWs (env : List (Nat × Ent)) (nb : Nat) : List (List TI × List NS) → SI → (SI → Option R) → Option R
  | [], s, k => k s
  | (l, ns) :: r, s, k => runOps env l s.T s.H [] fun T H _ => preK (normI nb ns ⟨T, H⟩) fun s' => runWs env nb r s' k
def nrmK (g : SI → Option R) : Exit → SI → Option R
  | .normal, s => g s
  | _, _ => none
def anyT (wr : List Nat) (T : List (Nat × IV)) : List (Nat × IV) := wr.foldr (fun t T => (t, .any) :: T) T
/-- Rounds, one after the other. -/
def rngN (fa fb : SI → (Exit → SI → Option R) → Option R) (g : SI → Option SI) (N p : Nat) (wr : List Nat) : List Bool → SI → (Exit → SI → Option R) → Option R
  | [], s, k => k .normal s
  | v :: vs, s, k => fa ⟨(p, .bool v) :: s.T, s.H⟩ (nrmK fun s1 => fb s1 (nrmK fun s2 => preK (g ⟨anyT wr s2.T, s2.H⟩) fun s' => joinN (rngN fa fb g N p wr vs) N s' k))
def run (env : List (Nat × Ent)) (N nb : Nat) : TC → SI → (Exit → SI → Option R) → Option R
  | .skip, s, k => k .normal s
  | .rg l un, s, k => runOps env l s.T s.H [] (rgK un s.H.length k)
  | .rgw l, s, k => runWs env nb l s fun s' => k .normal s'
  | .seq a b, s, k => run env N nb a s (seqK (run env N nb b) k)
  | .cond c a b, s, k => match getO s.T c with
    | .bool q => brB q (run env N nb a ⟨setO s.T c true, s.H⟩ k) (run env N nb b ⟨setO s.T c false, s.H⟩ k)
    | _ => none
  | .block id c, s, k => run env N nb c s (blkK id k)
  | .loop ns c, s, k => preK (normI nb ns s) fun s' => loopN (normI nb ns) (run env N nb c) N s' k
  | .exit id, s, k => k (.exit id) s
  | .ret, s, k => k .ret s
  | .pre ns c, s, k => preK (normI nb ns s) fun s' => run env N nb c s' k
  | .join ns c, s, k => preK (normI nb ns s) fun s' => joinN (run env N nb c) N s' k
  | .hand _ _ g u c, s, k => Option.bind (g s) fun y => run env N nb c (u y s) k
  | .rngf g p fb ns a b, s, k => match getO s.T g with
    | .fn f [] => brB (Nat.beq f fb) (rngN (run env N nb a) (run env N nb b) (normI nb ns) N p (p :: (a.er.dsts ++ b.er.dsts)) [false, true] s k) none
    | _ => none
  | .bad, _, _ => none
end run

section sound
variable {R : Type} {P : Program} {cx : Cx} {ow : Nat → Bool} {r : R} {env : List (Nat × Ent)}

def FinQ (k : Exit → SI → Option R) (r : R) : Exit → St → Prop := fun e s' => ∃ si', SR si' s' ∧ k e si' = some r

theorem compatB_ok {un : List (Nat × Nat)} {lg : Lg} (h : compatB un lg = true) : compat un lg := by
  intro p hp
  have := List.all_eq_true.1 h p hp
  simp only [disB, Bool.and_eq_true, List.all_eq_true, Bool.not_eq_true', List.contains_eq_mem, decide_eq_false_iff_not] at this
  exact ⟨fun o ho => this.1 o ho, fun o ho => this.2 o ho⟩

theorem runX_mono {P : Program} : ∀ (l : List RI) (lg : Lg) (s : St) (K K' : Lg → St → Prop), (∀ lg s, K lg s → K' lg s) → runX P l lg s K → runX P l lg s K'
  | [], lg, s, K, K', hk, h => hk _ _ h
  | i :: l, lg, s, K, K', hk, h => by
    obtain ⟨e, h1, h2⟩ := h
    exact ⟨e, h1, runX_mono l _ _ K K' hk h2⟩

theorem AWP.nbx {ac : AC} {Q : Exit → St → Prop} {s : St} (h : cx.nb ≤ s.nx → AWP P cx ow ac Q s) : AWP P cx ow ac Q s := fun hm c hc hz ps a w R => h R.nbx hm c hc hz ps a w R
theorem AWPL.nbx {ac : AC} {Q : Exit → St → Prop} {s : St} (h : cx.nb ≤ s.nx → AWPL P cx ow ac Q s) : AWPL P cx ow ac Q s := fun hm c hc hz ps a w R => h R.nbx hm c hc hz ps a w R

theorem loopN_sound {g : SI → Option SI} {f : SI → (Exit → SI → Option R) → Option R} {ac : AC} (hg : ∀ si si' s, SR si s → cx.nb ≤ s.nx → g si = some si' → ∃ s', Wk cx s s' ∧ SR si' s' ∧ cx.nb ≤ s'.nx)
    (hf : ∀ si k s, SR si s → f si k = some r → AWP P cx ow ac (FinQ k r) s) : ∀ (n : Nat) (si : SI) (k : Exit → SI → Option R) (s : St), SR si s → loopN g f n si k = some r → AWPL P cx ow ac (FinQ k r) s
  | 0, si, k, s, hs, h => by simp [loopN] at h
  | n + 1, si, k, s, hs, h => by
    simp only [loopN] at h
    refine AWPL.unroll ((hf _ _ _ hs h).mono ?_)
    rintro e s' ⟨si', h1, h2⟩
    cases e with
    | normal =>
      simp only [seqK, nextL] at h2
      refine AWPL.nbx fun hnb => ?_
      cases hgs : g si' with
      | none => simp [hgs, preK] at h2
      | some si2 =>
        rw [hgs] at h2
        obtain ⟨s2, w2, r2, _⟩ := hg si' si2 s' h1 hnb hgs
        exact AWPL.wk w2 (loopN_sound hg hf n si2 k s2 r2 h2)
    | _ => exact ⟨si', h1, h2⟩

theorem runWs_sound (hE : EnvOK P env) : ∀ (l : List (List TI × List NS)) (si : SI) (k : SI → Option R) (s : St), SR si s → runWs env cx.nb l si k = some r →
    runW P cx (l.flatMap fun q => q.1.map (·.ri)) s fun s' => ∃ si', SR si' s' ∧ k si' = some r
  | [], si, k, s, hs, h => fun _ => ⟨s, Wk.refl _ _, si, hs, h⟩
  | (l, ns) :: r', si, k, s, hs, h => by
    simp only [runWs] at h
    have h1 := runOps_sound hE l si.T si.H [] _ s hs h
    simp only [List.flatMap_cons]
    refine runW.of (runX_mono _ _ _ _ _ ?_ h1)
    rintro lg s1 ⟨T', H', r1, r2⟩
    cases hg : normI cx.nb ns ⟨T', H'⟩ with
    | none => simp [hg, preK] at r2
    | some s2i =>
      rw [hg] at r2
      simp only [preK] at r2
      refine runW.nb fun hn => ?_
      obtain ⟨s2, w2, q2, n2⟩ := normI_sound ns r1 hn hg
      exact runW.wk w2 n2 (runWs_sound hE r' s2i k s2 q2 r2)
/-- Pieces of code that are walked by hand: what they make of a state. -/
def HandOK (P : Program) (nt : Nat) (ow : Nat → Bool) (as : List AC) (t : GT) (g : SI → Option (El t)) (u : El t → SI → SI) : Prop := ∀ (cx : Cx), cx.nt = nt → ∀ (si : SI) (y : El t) (s : St) (c : AC) (Q : Exit → St → Prop), SR si s → cx.nb ≤ s.nx → g si = some y → (∀ s', SR (u y si) s' → cx.nb ≤ s'.nx → AWP P cx ow c Q s') → AWP P cx ow (seqsAC as c) Q s
def TC.hok (P : Program) (nt : Nat) (ow : Nat → Bool) (inr : Bool) : TC → Prop
  | .seq a b => a.hok P nt ow inr ∧ b.hok P nt ow inr
  | .cond _ a b => a.hok P nt ow inr ∧ b.hok P nt ow inr
  | .block _ c => c.hok P nt ow inr
  | .loop _ c => c.hok P nt ow inr
  | .pre _ c => c.hok P nt ow inr
  | .join _ c => c.hok P nt ow inr
  | .hand as t g u c => HandOK P nt ow as t g u ∧ c.hok P nt ow inr
  | .rngf _ _ fb _ a b => inr = false ∧ (IterFB P fb ∧ ∃ fn, P.funcs[fb]? = some fn ∧ (fn.name == "runtime.NumGoroutine") = false ∧ fn.body.isNone = false) ∧ a.hok P nt ow true ∧ b.hok P nt ow true
  | _ => True
def TC.noh : TC → Bool
  | .seq a b => a.noh && b.noh
  | .cond _ a b => a.noh && b.noh
  | .block _ c => c.noh
  | .loop _ c => c.noh
  | .pre _ c => c.noh
  | .join _ c => c.noh
  | .hand _ _ _ _ _ => false
  | .rngf _ _ _ _ _ _ => false
  | _ => true
theorem TC.noh_ok {P : Program} {nt : Nat} {ow : Nat → Bool} {inr : Bool} : ∀ {tc : TC}, tc.noh = true → tc.hok P nt ow inr
  | .seq a b, h => by simp only [TC.noh, Bool.and_eq_true] at h; exact ⟨TC.noh_ok h.1, TC.noh_ok h.2⟩
  | .cond _ a b, h => by simp only [TC.noh, Bool.and_eq_true] at h; exact ⟨TC.noh_ok h.1, TC.noh_ok h.2⟩
  | .block _ c, h => TC.noh_ok (tc := c) h
  | .loop _ c, h => TC.noh_ok (tc := c) h
  | .pre _ c, h => TC.noh_ok (tc := c) h
  | .join _ c, h => TC.noh_ok (tc := c) h
  | .hand _ _ _ _ _, h => by cases h
  | .rngf _ _ _ _ _ _, h => by cases h
  | .skip, _ => trivial
  | .rg _ _, _ => trivial
  | .rgw _, _ => trivial
  | .exit _, _ => trivial
  | .ret, _ => trivial
  | .bad, _ => trivial

theorem anyT_get (wr : List Nat) (T : List (Nat × IV)) (t : Nat) : getT (anyT wr T) t = if t ∈ wr then .any else getT T t := by
  induction wr with
  | nil => simp [anyT]
  | cons a r ih =>
    show getT ((a, .any) :: anyT r T) t = _
    simp only [getT, ih, List.mem_cons]
    cases hb : Nat.beq a t with
    | true => rw [if_pos (Or.inl (Nat.eq_of_beq_eq_true hb).symm)]; rfl
    | false =>
      have hne : t ≠ a := fun e => by subst e; rw [Nat.beq_refl] at hb; cases hb
      simp only [cond_false, hne, false_or]
theorem anyT_rel {wr : List Nat} {T : List (Nat × IV)} {H : IH} {s : St} (hs : SR ⟨T, H⟩ s) : SR ⟨anyT wr T, H⟩ ⟨keepD wr s.T, s.H, s.nx⟩ := by
  refine ⟨fun t => ?_, hs.h, hs.n⟩
  rw [anyT_get]
  show Rel _ _ _ (keepD wr s.T t)
  unfold keepD
  by_cases h : t ∈ wr
  · rw [if_pos h, if_pos h]; exact .any _
  · rw [if_neg h, if_neg h]; exact hs.t t
theorem putB_rel {T : List (Nat × IV)} {H : IH} {s : St} (hs : SR ⟨T, H⟩ s) (p : Nat) (b : Bool) : SR ⟨(p, .bool b) :: T, H⟩ ⟨upd s.T p (B b), s.H, s.nx⟩ :=
  ⟨putT_rel hs.t (v := .bool b) (.bool b) (some p), hs.h, hs.n⟩
theorem keepD_p {p : Nat} {l : List Nat} {T : Nat → DV} : keepD (p :: l) T p = .any := if_pos (List.mem_cons_self ..)

theorem run_sound (hE : EnvOK P env) (N : Nat) : ∀ (tc : TC) (cx : Cx) (hh : tc.hok P cx.nt ow cx.ro.isSome) (si : SI) (k : Exit → SI → Option R) (s : St), SR si s → run env N cx.nb tc si k = some r → AWP P cx ow tc.er (FinQ k r) s
  | .skip, cx, hh, si, k, s, hs, h => AWP.skip ⟨si, hs, h⟩
  | .rg l un, cx, hh, si, k, s, hs, h => by
    simp only [run] at h
    have h1 := runOps_sound hE l si.T si.H [] _ s hs h
    refine AWP.rgX ?_
    cases un with
    | none =>
      refine runX_mono _ _ _ _ _ ?_ h1
      rintro lg s' ⟨T', H', r1, r2⟩
      exact ⟨⟨T', H'⟩, r1, r2⟩
    | some uo =>
      refine runX_mono _ _ _ _ _ ?_ h1
      rintro lg s' ⟨T', H', r1, r2⟩
      simp only [rgK] at r2
      obtain ⟨r3, r4⟩ := cond_some r2
      rw [Bool.and_eq_true] at r3
      refine ⟨compatB_ok r3.1, ?_, ⟨T', H'⟩, r1, r4⟩
      have := Nat.eq_of_beq_eq_true r3.2
      have e1 := r1.n
      have e2 := hs.n
      simp only at e1
      omega
  | .rgw l, cx, hh, si, k, s, hs, h => by
    simp only [run] at h
    exact AWP.rgW (runWs_sound hE l si _ s hs h)
  | .seq a b, cx, hh, si, k, s, hs, h => by
    simp only [run] at h
    refine AWP.seq ((run_sound hE N a cx hh.1 si _ s hs h).mono ?_)
    rintro e s' ⟨si', h1, h2⟩
    cases e with
    | normal => exact run_sound hE N b cx hh.2 si' k s' h1 h2
    | _ => exact ⟨si', h1, h2⟩
  | .cond c a b, cx, hh, si, k, s, hs, h => by
    simp only [run] at h
    split at h
    · rename_i q hq
      have hc := getO_rel hs.t c
      rw [hq] at hc
      have hcv : c.get s.T = .v (.bool q) := rel_un_b (v := .any) hc true ▸ by
        have := hc.bool_inv
        cases c with
        | t n =>
          have h2 := hs.t n
          simp only [getO] at hq
          rw [hq] at h2
          simp only [RO.get]
          rw [h2.bool_inv]; rfl
        | c d =>
          simp only [getO] at hq
          have h2 := ofD_rel (H := s.H) (nx := s.nx) d
          rw [hq] at h2
          simp only [RO.get]
          rw [h2.bool_inv]; rfl
      have ref : ∀ b : Bool, b = q → SR ⟨setO si.T c b, si.H⟩ s := by
        intro b hb
        subst hb
        refine ⟨fun t => ?_, hs.h, hs.n⟩
        cases c with
        | c d => exact hs.t t
        | t n =>
          simp only [setO, getT]
          cases hbq : Nat.beq n t with
          | false => exact hs.t t
          | true =>
            rw [← Nat.eq_of_beq_eq_true hbq]
            have := hs.t n
            simp only [getO] at hq
            rw [hq] at this
            exact this
      refine AWP.cond hcv (fun e => ?_) (fun e => ?_)
      · subst e; exact run_sound hE N a cx hh.1 _ k s (ref true rfl) h
      · subst e; exact run_sound hE N b cx hh.2 _ k s (ref false rfl) h
    · cases h
  | .block id c, cx, hh, si, k, s, hs, h => by
    simp only [run] at h
    refine AWP.block ((run_sound hE N c cx hh si _ s hs h).mono ?_)
    rintro e s' ⟨si', h1, h2⟩
    cases e with
    | exit id' =>
      simp only [blkK] at h2
      simp only [inQ]
      cases hb : Nat.beq id' id with
      | true => rw [hb] at h2; rw [if_pos (Nat.eq_of_beq_eq_true hb)]; exact ⟨si', h1, h2⟩
      | false => rw [hb] at h2; rw [if_neg (nbeq_ne hb)]; exact ⟨si', h1, h2⟩
    | _ => exact ⟨si', h1, h2⟩
  | .loop ns c, cx, hh, si, k, s, hs, h => by
    simp only [run] at h
    refine AWP.nbx fun hnb => ?_
    cases hg : normI cx.nb ns si with
    | none => simp [hg, preK] at h
    | some si2 =>
      rw [hg] at h
      obtain ⟨s2, w2, r2, _⟩ := normI_sound ns hs hnb hg
      refine AWP.wk w2 (AWP.loopL ?_)
      exact loopN_sound (fun si si' s a b c => normI_sound ns a b c) (fun si k s a b => run_sound hE N c cx hh si k s a b) N si2 k s2 r2 h
  | .exit id, cx, hh, si, k, s, hs, h => AWP.exit ⟨si, hs, h⟩
  | .ret, cx, hh, si, k, s, hs, h => AWP.ret ⟨si, hs, h⟩
  | .pre ns c, cx, hh, si, k, s, hs, h => by
    simp only [run] at h
    refine AWP.nbx fun hnb => ?_
    cases hg : normI cx.nb ns si with
    | none => simp [hg, preK] at h
    | some si2 =>
      rw [hg] at h
      obtain ⟨s2, w2, r2, _⟩ := normI_sound ns hs hnb hg
      exact AWP.wk w2 (run_sound hE N c cx hh si2 k s2 r2 h)
  | .join ns c, cx, hh, si, k, s, hs, h => by
    simp only [run] at h
    refine AWP.nbx fun hnb => ?_
    cases hg : normI cx.nb ns si with
    | none => simp [hg, preK] at h
    | some si2 =>
      rw [hg] at h
      obtain ⟨s2, w2, r2, _⟩ := normI_sound ns hs hnb hg
      cases N with
      | zero => simp [preK, joinN] at h
      | succ n => exact AWP.wk w2 (run_sound hE (n + 1) c cx hh si2 k s2 r2 h)
  | .hand as ty g u c, cx, hh, si, k, s, hs, h => by
    simp only [run] at h
    refine AWP.nbx fun hnb => ?_
    cases hg : g si with
    | none => rw [hg] at h; cases h
    | some y =>
      rw [hg] at h
      exact hh.1 cx rfl si y s c.er _ hs hnb hg fun s' hs' _ => run_sound hE N c cx hh.2 (u y si) k s' hs' h
  | .rngf g p fb ns ta tb, cx, hh, si, k, s, hs, h => by
    simp only [run] at h
    obtain ⟨hr0, ⟨h1, h2⟩, h3, h4⟩ := hh
    have hro : cx.ro = none := by cases h0 : cx.ro with | none => rfl | some l => rw [h0] at hr0; cases hr0
    · split at h
      · rename_i f hf
        obtain ⟨hb, hrr⟩ := cond_some h
        clear h
        have hfe := Nat.eq_of_beq_eq_true hb
        subst hfe
        have hg := getO_rel hs.t g
        rw [hf] at hg
        obtain ⟨dc, hgd, hcs⟩ := hg.fn_inv
        have := hcs.nil_l; subst this
        refine AWP.rngf hro h1 h2 hgd fun c1 n1 b1 z1 => ?_
        simp only [rngN] at hrr
        refine (run_sound hE N ta c1 (by rw [n1, z1]; exact h3) _ _ _ (putB_rel hs p false) (by rw [b1]; exact hrr)).mono ?_
        rintro e s1 ⟨si1, r1, q1⟩
        cases e <;> try (cases q1; done)
        refine ⟨rfl, fun c2 n2 b2 z2 => (run_sound hE N tb c2 (by rw [n2, z2]; exact h4) _ _ _ r1 (by rw [b2]; exact q1)).mono ?_⟩
        rintro e s2 ⟨si2, r2, q2⟩
        cases e <;> try (cases q2; done)
        refine ⟨rfl, fun c3 n3 b3 z3 => AWP.nbx fun hnb => ?_⟩
        have rk := anyT_rel (wr := p :: (ta.er.dsts ++ tb.er.dsts)) r2
        cases hg1 : normI cx.nb ns ⟨anyT (p :: (ta.er.dsts ++ tb.er.dsts)) si2.T, si2.H⟩ with
        | none => simp [nrmK, hg1, preK] at q2
        | some si3 =>
          simp only [nrmK, hg1, preK] at q2
          obtain ⟨s3, w3, r3, _⟩ := normI_sound (cx := c3) ns rk hnb (by rw [b3]; exact hg1)
          refine AWP.wk (w3.updP keepD_p) ?_
          cases N with
          | zero => simp [joinN] at q2
          | succ n =>
            simp only [joinN, rngN] at q2
            refine (run_sound hE (n + 1) ta c3 (by rw [n3, z3]; exact h3) _ _ _ (putB_rel r3 p true) (by rw [b3]; exact q2)).mono ?_
            rintro e s4 ⟨si4, r4, q4⟩
            cases e <;> try (cases q4; done)
            refine ⟨rfl, fun c4 n4 b4 z4 => (run_sound hE (n + 1) tb c4 (by rw [n4, z4]; exact h4) _ _ _ r4 (by rw [b4]; exact q4)).mono ?_⟩
            rintro e s5 ⟨si5, r5, q5⟩
            cases e <;> try (cases q5; done)
            refine ⟨rfl, fun hnb5 => ?_⟩
            have rk5 := anyT_rel (wr := p :: (ta.er.dsts ++ tb.er.dsts)) r5
            cases hg5 : normI cx.nb ns ⟨anyT (p :: (ta.er.dsts ++ tb.er.dsts)) si5.T, si5.H⟩ with
            | none => simp [nrmK, hg5, preK] at q5
            | some si6 =>
              simp only [nrmK, hg5, preK, joinN] at q5
              obtain ⟨s6, w6, r6, _⟩ := normI_sound (cx := cx) ns rk5 hnb5 hg5
              exact ⟨s6, w6, si6, r6, q5⟩
      · cases h
  | .bad, cx, hh, si, k, s, hs, h => by simp [run] at h
end sound
end Go.Pv
