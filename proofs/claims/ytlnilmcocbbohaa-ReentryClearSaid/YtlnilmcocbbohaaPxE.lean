/- Calls on typed data, regions and code of the walk (run), and its soundness. No condition of its own: over any program. -/
import Derived.Test.YtlnilmcocbbohaaPxD
set_option linter.all false
namespace Go.Pv
open Go.RowKit

/-- What is known of a function that is called, in continuation style. -/
abbrev Ent : Type 1 := {R : Type} → List IV → IH → (IV → IH → List Nat → List Nat → Option R) → Option R

def EntOK (P : Program) (f : FuncId) (E : Ent) : Prop := ∀ (R : Type) (args : List IV) (HI : IH) (k : IV → IH → List Nat → List Nat → Option R) (r : R), E args HI k = some r → ∀ (dargs : List DV) (H : Hp) (nx : Nat), Rels H nx args dargs → HRel HI H nx → HI.length = nx →
  ∃ res H' rd wr, k res H' rd wr = some r ∧ ∃ pre d post nx', CallOK P f dargs pre nx d post nx' ∧ (∀ o ck, ofL pre o = some ck → H o = some ck) ∧ pre.map (·.1) = rd ∧ post.map (·.1) = wr ∧ H'.length = nx' ∧ HRel H' (puts H post) nx' ∧ Rel (puts H post) nx' res d ∧ Same H nx (puts H post) nx'

structure Env where
  l : List (Nat × Ent)

section run
variable {R : Type}

def callE : List (Nat × Ent) → Nat → List IV → IH → (IV → IH → List Nat → List Nat → Option R) → Option R
  | [], _, _, _, _ => none
  | (g, E) :: r, f, args, H, k => cond (Nat.beq g f) (E args H k) (callE r f args H k)

def wrOf (H : IH) : UpI → List Nat
  | .no => []
  | .set o _ => [o]
  | .al _ => [H.length]
  | .grow o _ => [o]

structure TI where
  ri : RI
  an : An := {}

def stepI (env : List (Nat × Ent)) (op : ROp) (an : An) (T : List (Nat × IV)) (H : IH) (k : IV → List (Nat × IV) → IH → List Nat → List Nat → Option R) : Option R :=
  match op with
  | .call f xs => match getO T f with
    | .fn id caps => callE env id (xs.map (getO T) ++ caps) H fun v H' rd wr => k v T H' rd wr
    | _ => none
  | op => evI op an T H fun v u rd => k v (u.t T) (u.h H) rd (wrOf H u)

def runOps (env : List (Nat × Ent)) : List TI → List (Nat × IV) → IH → Lg → (List (Nat × IV) → IH → Lg → Option R) → Option R
  | [], T, H, lg, k => k T H lg
  | i :: r, T, H, lg, k =>
    match i.ri.gd with
    | none => stepI env i.ri.op i.an T H fun v T' H' rd wr => runOps env r (putI i.ri.dst v T') H' (lg ++ [(rd, wr)]) k
    | some (t, wn) => match getT T t with
      | .bool b => match wn with
        | true => cond b (stepI env i.ri.op i.an ((t, .bool true) :: T) H fun v T' H' rd wr => runOps env r (putI i.ri.dst v T') H' (lg ++ [(rd, wr)]) k)
            (runOps env r (putI i.ri.dst (.raw undef) ((t, .bool false) :: T)) H (lg ++ [([], [])]) k)
        | false => cond b (runOps env r (putI i.ri.dst (.raw undef) ((t, .bool true) :: T)) H (lg ++ [([], [])]) k)
            (stepI env i.ri.op i.an ((t, .bool false) :: T) H fun v T' H' rd wr => runOps env r (putI i.ri.dst v T') H' (lg ++ [(rd, wr)]) k)
      | .raw (.tuple _) => runOps env r (putI i.ri.dst (.raw undef) T) H (lg ++ [([], [])]) k
      | _ => none
end run

section sound
variable {R : Type} {P : Program} {r : R} {env : List (Nat × Ent)}

def EnvOK (P : Program) (env : List (Nat × Ent)) : Prop := ∀ x, x ∈ env → EntOK P x.1 x.2
theorem EnvOK.nil : EnvOK P [] := fun x h => by cases h
theorem EnvOK.cons {f : Nat} {E : Ent} {env : List (Nat × Ent)} (h : EntOK P f E) (k : EnvOK P env) : EnvOK P ((f, E) :: env) := fun x hx => by
  rcases List.mem_cons.1 hx with rfl | hx
  · exact h
  · exact k x hx

theorem callE_sound (hE : EnvOK P env) {f : Nat} {args : List IV} {H : IH} {k : IV → IH → List Nat → List Nat → Option R} (h : callE env f args H k = some r) : ∃ E : Ent, EntOK P f E ∧ E args H k = some r := by
  induction env with
  | nil => simp [callE] at h
  | cons x l ih =>
    obtain ⟨g, E⟩ := x
    simp only [callE] at h
    cases hb : Nat.beq g f with
    | true =>
      rw [hb] at h
      have := Nat.eq_of_beq_eq_true hb
      subst this
      exact ⟨E, hE (g, E) (by simp), h⟩
    | false =>
      rw [hb] at h
      exact ih (fun x hx => hE x (List.mem_cons_of_mem _ hx)) h

theorem stepI_sound (hE : EnvOK P env) {op : ROp} {an : An} {T : List (Nat × IV)} {H : IH} {k : IV → List (Nat × IV) → IH → List Nat → List Nat → Option R} {s : St} (hs : SR ⟨T, H⟩ s) (h : stepI env op an T H k = some r) :
    ∃ v T' H' rd wr, k v T' H' rd wr = some r ∧ ∃ e : Rc, Exec P op true s e ∧ e.rd = rd ∧ e.post.map (·.1) = wr ∧ ∀ dst, SR ⟨putI dst v T', H'⟩ (s.app dst e) := by
  have gen : ∀ op, evI op an T H (fun v u rd => k v (u.t T) (u.h H) rd (wrOf H u)) = some r → ∃ v T' H' rd wr, k v T' H' rd wr = some r ∧ ∃ e : Rc, Exec P op true s e ∧ e.rd = rd ∧ e.post.map (·.1) = wr ∧ ∀ dst, SR ⟨putI dst v T', H'⟩ (s.app dst e) := by
    intro op h
    obtain ⟨v, u, rd, wr, h1, ⟨d, post, nx', h2, h3, h4⟩, h5⟩ := evI_sound hs h
    obtain ⟨e, he, e1, e2, e3, e4⟩ := awpX_exec (h2 (fun d' post' nx'' rd' => d' = d ∧ post' = post ∧ nx'' = nx' ∧ rd' = rd) ⟨rfl, rfl, rfl, rfl⟩)
    refine ⟨v, u.t T, u.h H, rd, wrOf H u, h1, e, he, e4, ?_, fun dst => ?_⟩
    · rw [e2, h3, h5]; cases u <;> rfl
    · have := h4 dst
      simp only [St.app, e1, e2, e3]; exact this
  cases op with
  | call f xs =>
    simp only [stepI] at h
    have hf := getO_rel hs.t f
    split at h
    · rename_i id caps hfv
      rw [hfv] at hf
      obtain ⟨dc, hfd, hcaps⟩ := hf.fn_inv
      obtain ⟨E, hE1, hE2⟩ := callE_sound hE h
      have hargs : Rels s.H s.nx (xs.map (getO T) ++ caps) (xs.map (fun x => un true (x.get s.T)) ++ dc) := (Both.of_map xs fun x => getO_rel hs.t x).append hcaps
      obtain ⟨res, H', rd, wr, h1, pre, d, post, nx', h2, h3, h4, h5, h6, h7, h8, h9⟩ := hE1 _ _ _ _ _ hE2 _ s.H s.nx hargs hs.h hs.n
      refine ⟨res, T, H', rd, wr, h1, ⟨d, post, nx', pre.map (·.1)⟩, .inr (.inl ⟨f, xs, id, dc, rfl, hfd, pre, h2, h3, fun o ck ho => List.mem_map.2 ⟨(o, ck), ofL_mem ho, rfl⟩⟩), h4, h5, fun dst => ?_⟩
      refine ⟨putT_rel (fun t => (hs.t t).same h9) h8 dst, h7, h6⟩
    · cases h
  | _ => exact gen _ h

theorem runOps_sound (hE : EnvOK P env) : ∀ (l : List TI) (T : List (Nat × IV)) (H : IH) (lg : Lg) (k : List (Nat × IV) → IH → Lg → Option R) (s : St), SR ⟨T, H⟩ s → runOps env l T H lg k = some r →
    runX P (l.map (·.ri)) lg s fun lg' s' => ∃ T' H', SR ⟨T', H'⟩ s' ∧ k T' H' lg' = some r
  | [], T, H, lg, k, s, hs, h => ⟨T, H, hs, h⟩
  | i :: l, T, H, lg, k, s, hs, h => by
    have go : ∀ (T : List (Nat × IV)), SR ⟨T, H⟩ s → (stepI env i.ri.op i.an T H fun v T' H' rd wr => runOps env l (putI i.ri.dst v T') H' (lg ++ [(rd, wr)]) k) = some r →
        ∃ e : Rc, Exec P i.ri.op true s e ∧ runX P (l.map (·.ri)) (lg ++ [(e.rd, e.post.map (·.1))]) (s.app i.ri.dst e) fun lg' s' => ∃ T' H', SR ⟨T', H'⟩ s' ∧ k T' H' lg' = some r := by
      intro T hs h
      obtain ⟨v, T', H', rd, wr, h1, e, he, e1, e2, e3⟩ := stepI_sound hE hs h
      refine ⟨e, he, ?_⟩
      rw [e1, e2]
      exact runOps_sound hE l _ _ _ k _ (e3 _) h1
    have skip : ∀ (T : List (Nat × IV)), SR ⟨T, H⟩ s → runOps env l (putI i.ri.dst (.raw undef) T) H (lg ++ [([], [])]) k = some r →
        runX P (l.map (·.ri)) (lg ++ [([], [])]) (s.app i.ri.dst ⟨.v undef, [], s.nx, []⟩) fun lg' s' => ∃ T' H', SR ⟨T', H'⟩ s' ∧ k T' H' lg' = some r := by
      intro T hs h
      exact runOps_sound hE l _ _ _ k _ ⟨putT_rel hs.t (.raw _) _, hs.h, hs.n⟩ h
    simp only [runOps] at h
    show ∃ e : Rc, Stp P i.ri s e ∧ _
    split at h
    · rename_i hg
      obtain ⟨e, h1, h2⟩ := go T hs h
      exact ⟨e, by unfold Stp; rw [hg]; exact h1, h2⟩
    · rename_i t wn hg
      have ht := hs.t t
      have ref : ∀ b : Bool, getT T t = .bool b → SR ⟨(t, .bool b) :: T, H⟩ s := by
        intro b hb
        refine ⟨fun t' => ?_, hs.h, hs.n⟩
        simp only [getT]
        cases hq : Nat.beq t t' with
        | false => exact hs.t t'
        | true =>
          have := Nat.eq_of_beq_eq_true hq
          subst this
          have := hs.t t
          simp only [hb] at this
          exact this
      have gvb : ∀ b : Bool, getT T t = .bool b → gv (s.T t) wn = some (b == wn) := by
        intro b hb
        simp only [hb] at ht
        rw [ht.bool_inv]; rfl
      split at h
      · rename_i b hb
        have hgb := gvb b hb
        have hrf := ref b hb
        split at h
        · cases b with
          | true =>
            obtain ⟨e, h1, h2⟩ := go _ hrf h
            exact ⟨e, by unfold Stp; rw [hg]; exact ⟨true, hgb, .inl ⟨rfl, h1⟩⟩, h2⟩
          | false => exact ⟨⟨.v undef, [], s.nx, []⟩, by unfold Stp; rw [hg]; exact ⟨false, hgb, .inr (.inl ⟨rfl, rfl⟩)⟩, skip _ hrf h⟩
        · cases b with
          | false =>
            obtain ⟨e, h1, h2⟩ := go _ hrf h
            exact ⟨e, by unfold Stp; rw [hg]; exact ⟨true, hgb, .inl ⟨rfl, h1⟩⟩, h2⟩
          | true => exact ⟨⟨.v undef, [], s.nx, []⟩, by unfold Stp; rw [hg]; exact ⟨false, hgb, .inr (.inl ⟨rfl, rfl⟩)⟩, skip _ hrf h⟩
      · rename_i vs hb
        simp only [hb] at ht
        have hraw := ht.raw_inv
        have hgv : gv (s.T t) wn = some false := by
          rw [hraw]; rfl
        exact ⟨⟨.v undef, [], s.nx, []⟩, by unfold Stp; rw [hg]; exact ⟨false, hgv, .inr (.inl ⟨rfl, rfl⟩)⟩, skip T hs h⟩
      · cases h
end sound
end Go.Pv
