/- How a function's proof is begun, and the rules by which a walk is reckoned. No condition of its own: over any program. -/
import Derived.Test.YtdmggkpefjpknaaPvP
set_option linter.all false
namespace Go.Pv
open Go.RowKit

def bodyOf (fn : Func) : Code := fn.body.getD .skip

/-- A function's code, resolved. -/
structure FnOK (P : Program) (f : FuncId) (nt : Nat) (ow : Nat → Bool) (ac : AC) (rs : List RR) : Prop where
  ex : ∃ fn, P.funcs[f]? = some fn ∧ (fn.name == "runtime.NumGoroutine") = false ∧ fn.body = some (bodyOf fn) ∧ fn.ntmps = nt ∧ comp P nt ow (bodyOf fn) = some ac ∧ resR P fn.results.toList = some rs

theorem FnOK.mk' {P : Program} {f : FuncId} {fn : Func} {ow : Nat → Bool} {ac : AC} {rs : List RR} {nt : Nat} (hf : P.funcs[f]? = some fn) (h1 : (fn.name == "runtime.NumGoroutine") = false) (h2 : fn.body = some (bodyOf fn)) (h3 : fn.ntmps = nt)
    (h4 : comp P nt ow (bodyOf fn) = some ac) (h5 : resR P fn.results.toList = some rs) : FnOK P f nt ow ac rs := ⟨⟨fn, hf, h1, h2, h3, h4, h5⟩⟩

/-- What a body must end with. -/
def Ends (rs : List RR) (res : DV) (post : Cks) : Exit → St → Prop := fun e s' =>
  (e = .normal ∨ e = .ret) ∧ (∃ ds, rrV s'.T s'.H rs = some ds ∧ resV ds = res) ∧ ∀ o ck, ofL post o = some ck → s'.H o = some ck

theorem FnOK.call {P : Program} {f : FuncId} {nt : Nat} {ow : Nat → Bool} {ac : AC} {rs : List RR} (hm : P.follows .mixedOrders = true) (h : FnOK P f nt ow ac rs) {args : List DV} {pre : Cks} {nb : Nat} {res : DV} {post : Cks} {nx' : Nat} (hlen : args.length ≤ nt)
    (keep : ∀ o ck, ofL pre o = some ck → ∃ ck', ofL post o = some ck') (old : ∀ o ck', ofL post o = some ck' → o < nb → ∃ ck, ofL pre o = some ck) (le : nb ≤ nx')
    (ids : Ids (fun o => (∃ ck, ofL post o = some ck) ∨ (nb ≤ o ∧ o < nx')) res) (idp : ∀ o ck, ofL post o = some ck → ∀ x, x ∈ ck.xs → ∀ c, c ∈ x → Ids (fun o => (∃ ck, ofL post o = some ck) ∨ (nb ≤ o ∧ o < nx')) c)
    (plt : ∀ o ck, ofL post o = some ck → o < nx')
    (k : ∀ cx : Cx, cx.nt = nt → cx.nb = nb → AWP P cx ow ac (Ends rs res post) ⟨ofArgs args, ofL pre, nb⟩) : CallOK P f args pre nb res post nx' := by
  obtain ⟨fn, h1, h2, h3, rfl, h5, h6⟩ := h.ex
  exact CallOK.intro hm h1 h2 h3 h5 h6 hlen keep old le ids idp plt k

theorem ofL_nil (o : Nat) : ofL [] o = none := rfl

/-- A function that touches no chunk. -/
theorem FnOK.pure {P : Program} {f : FuncId} {nt : Nat} {ow : Nat → Bool} {ac : AC} {rs : List RR} (hm : P.follows .mixedOrders = true) (h : FnOK P f nt ow ac rs) {args : List DV} {nb : Nat} {res : DV} (hlen : args.length ≤ nt)
    (ids : Ids (fun _ => False) res) (k : ∀ cx : Cx, cx.nt = nt → cx.nb = nb → AWP P cx ow ac (Ends rs res []) ⟨ofArgs args, Hp.emp, nb⟩) : CallOK P f args [] nb res [] nb := by
  have mono : ∀ {S S' : Nat → Prop} {d : DV}, (∀ o, S o → S' o) → Ids S d → Ids S' d := by
    intro S S' d hS hd
    induction hd with
    | v x => exact .v x
    | any => exact .any
    | gd p d _ ih => exact .gd p d ih
    | ptr o g i off h => exact .ptr o g i off (hS o h)
    | own o g lo n h => exact .own o g lo n (hS o h)
    | lst f xs _ ih => exact .lst f xs ih
    | rp cs _ ih => exact .rp cs ih
    | agg cs _ ih => exact .agg cs ih
    | tup cs _ ih => exact .tup cs ih
    | fn f cs _ ih => exact .fn f cs ih
  exact h.call hm hlen (fun o ck h => by cases h) (fun o ck h => by cases h) (Nat.le_refl _) (mono (fun _ h => h.elim) ids) (fun o ck h => by cases h) (fun o ck h => by cases h) k

theorem evK_some (d : DV) (u : Up) (k : DV → Up → Prop) : evK (some (d, u)) k = k d u := rfl
theorem gvK_some (p : Bool) (k : Bool → Prop) : gvK (some p) k = k p := rfl
theorem awpOps_nil (P : Program) (lg : Lg) (s : St) (K : Lg → St → Prop) : awpOps P [] lg s K = K lg s := rfl

theorem putT_some (T : Nat → DV) (t : Nat) (d : DV) : putT T (some t) d = upd T t d := rfl
theorem putT_none (T : Nat → DV) (d : DV) : putT T none d = T := rfl

theorem CallX.of {P : Program} {fn : FuncId} {caps args : List DV} {H : Hp} {nx : Nat} {k : DV → Cks → Nat → List Nat → Prop} {pre : Cks} {res : DV} {post : Cks} {nx' : Nat} (h : CallOK P fn (args ++ caps) pre nx res post nx')
    (hpre : ∀ o ck, ofL pre o = some ck → H o = some ck) (hk : k res post nx' (pre.map (·.1))) : CallX P (.fn fn caps) args H nx k := ⟨fn, caps, pre, res, post, nx', rfl, h, hpre, hk⟩

/-- A call that touches no chunk. -/
theorem CallX.pure {P : Program} {fn : FuncId} {args : List DV} {H : Hp} {nx : Nat} {k : DV → Cks → Nat → List Nat → Prop} {res : DV} (h : CallOK P fn args [] nx res [] nx) (hk : k res [] nx []) : CallX P (.fn fn []) args H nx k :=
  CallX.of (pre := []) (by simpa using h) (fun o ck h => by cases h) hk

section step
variable {P : Program} {r : List RI} {lg : Lg} {s : St} {T : Nat → DV} {H : Hp} {nx : Nat} {K : Lg → St → Prop}

/-- One operation, taken by itself. -/
theorem step_op {dst : Option Nat} {op : ROp} {d : DV} {u : Up} (h : ev op true T H nx = some (d, u)) (hc : rdq op = rdq op) (k : awpOps P r (lg ++ [(rds op true T, (u.post nx).map (·.1))]) ⟨putT T dst d, u.hp H nx, u.nx nx⟩ K) : awpOps P (⟨dst, op, none⟩ :: r) lg ⟨T, H, nx⟩ K := by
  simp only [awpOps]
  have key : ∀ op, ev op true T H nx = some (d, u) → awpOps P r (lg ++ [(rds op true T, (u.post nx).map (·.1))]) ⟨putT T dst d, u.hp H nx, u.nx nx⟩ K →
      awpX P op true ⟨T, H, nx⟩ (fun d post nx rd => awpOps P r (lg ++ [(rd, post.map (·.1))]) ⟨putT T dst d, puts H post, nx⟩ K) := by
    intro op h k
    cases op with
    | call f xs => simp [ev] at h
    | alloc z => exact .inl (by simp only [h, evK, Up.puts_post]; exact k)
    | app sz by' a x => exact .inl (by simp only [h, evK, Up.puts_post]; exact k)
    | mksl sz by' z l c => exact .inl (by simp only [h, evK, Up.puts_post]; exact k)
    | _ => simp only [awpX, h, evK, Up.puts_post]; exact k
  exact key op h k
theorem step_gd {dst : Option Nat} {op : ROp} {t : Nat} {wn p : Bool} {d : DV} {u : Up} (hg : gv (T t) wn = some p) (ht : tot op = true) (h : ev op p T H nx = some (d, u)) (k : awpOps P r (lg ++ [(rds op p T, [])]) ⟨putT T dst (.gd p d), H, nx⟩ K) :
    awpOps P (⟨dst, op, some (t, wn)⟩ :: r) lg ⟨T, H, nx⟩ K := by
  simp only [awpOps, hg, gvK, ht, if_true, h, evK]; exact k
/-- A guarded operation, by the guard's word. -/
theorem step_br {dst : Option Nat} {op : ROp} {t : Nat} {wn p : Bool} (hg : gv (T t) wn = some p) (ht : tot op = false) (k1 : p = true → awpOps P (⟨dst, op, none⟩ :: r) lg ⟨T, H, nx⟩ K) (k2 : p = false → awpOps P r (lg ++ [([], [])]) ⟨putT T dst (.v undef), H, nx⟩ K) :
    awpOps P (⟨dst, op, some (t, wn)⟩ :: r) lg ⟨T, H, nx⟩ K := by
  have hb : GX P p op ⟨T, H, nx⟩ (fun d => awpOps P r (lg ++ [([], [])]) ⟨putT T dst (.gd p d), H, nx⟩ K)
        ((p = true → awpX P op true ⟨T, H, nx⟩ fun d post nx rd => awpOps P r (lg ++ [(rd, post.map (·.1))]) ⟨putT T dst d, puts H post, nx⟩ K) ∧
        (p = false → awpOps P r (lg ++ [([], [])]) ⟨putT T dst (.v undef), H, nx⟩ K)) := by
    have hb' : ((p = true → awpX P op true ⟨T, H, nx⟩ fun d post nx rd => awpOps P r (lg ++ [(rd, post.map (·.1))]) ⟨putT T dst d, puts H post, nx⟩ K) ∧
        (p = false → awpOps P r (lg ++ [([], [])]) ⟨putT T dst (.v undef), H, nx⟩ K)) := ⟨fun e => by have := k1 e; simpa only [awpOps] using this, k2⟩
    cases op <;> first | exact .inr hb' | exact hb'
  simp only [awpOps, hg, gvK, ht, Bool.false_eq_true, if_false]; exact hb
/-- A guarded call of a function that needs nothing and touches nothing. -/
theorem step_gcall {dst : Option Nat} {f : RO} {xs : List RO} {t : Nat} {wn p : Bool} {fn : FuncId} {args : List DV} {d : DV} (hg : gv (T t) wn = some p) (hf : un p (f.get T) = .fn fn []) (ha : xs.map (fun x => un p (x.get T)) = args) (hc : CallOK P fn args [] nx d [] nx)
    (k : awpOps P r (lg ++ [([], [])]) ⟨putT T dst (.gd p d), H, nx⟩ K) : awpOps P (⟨dst, .call f xs, some (t, wn)⟩ :: r) lg ⟨T, H, nx⟩ K := by
  simp only [awpOps, hg, gvK, tot, Bool.false_eq_true, if_false, GX]
  exact .inl ⟨fn, [], d, hf, by rw [ha]; simpa using hc, k⟩
theorem step_call {dst : Option Nat} {f : RO} {xs : List RO} {fn : FuncId} {caps args : List DV} {pre : Cks} {res : DV} {post : Cks} {nx' : Nat} (hf : un true (f.get T) = .fn fn caps) (ha : xs.map (fun x => un true (x.get T)) ++ caps = args) (hc : CallOK P fn args pre nx res post nx')
    (hp : ∀ o ck, ofL pre o = some ck → H o = some ck) (k : awpOps P r (lg ++ [(pre.map (·.1), post.map (·.1))]) ⟨putT T dst res, puts H post, nx'⟩ K) : awpOps P (⟨dst, .call f xs, none⟩ :: r) lg ⟨T, H, nx⟩ K := by
  simp only [awpOps, awpX]
  exact ⟨fn, caps, pre, res, post, nx', hf, by rw [ha]; exact hc, hp, k⟩
/-- A call of a function that touches no chunk. -/
theorem step_pcall {dst : Option Nat} {f : RO} {xs : List RO} {fn : FuncId} {args : List DV} {res : DV} (hf : un true (f.get T) = .fn fn []) (ha : xs.map (fun x => un true (x.get T)) = args) (hc : CallOK P fn args [] nx res [] nx)
    (k : awpOps P r (lg ++ [([], [])]) ⟨putT T dst res, H, nx⟩ K) : awpOps P (⟨dst, .call f xs, none⟩ :: r) lg ⟨T, H, nx⟩ K :=
  step_call (caps := []) (pre := []) (post := []) hf (by rw [List.append_nil]; exact ha) hc (fun o ck h => by cases h) k
theorem step_no {t : Nat} {op : ROp} {d : DV} (h : ev op true T H nx = some (d, .no)) (k : awpOps P r (lg ++ [(rds op true T, [])]) ⟨upd T t d, H, nx⟩ K) : awpOps P (⟨some t, op, none⟩ :: r) lg ⟨T, H, nx⟩ K := step_op h rfl k
theorem step_wr {op : ROp} {d : DV} {o : Nat} {ck : Ck} (h : ev op true T H nx = some (d, .wr o ck)) (k : awpOps P r (lg ++ [(rds op true T, [o])]) ⟨T, H.put o (some ck), nx⟩ K) : awpOps P (⟨none, op, none⟩ :: r) lg ⟨T, H, nx⟩ K := step_op h rfl k
theorem step_wrt {t : Nat} {op : ROp} {d : DV} {o : Nat} {ck : Ck} (h : ev op true T H nx = some (d, .wr o ck)) (k : awpOps P r (lg ++ [(rds op true T, [o])]) ⟨upd T t d, H.put o (some ck), nx⟩ K) : awpOps P (⟨some t, op, none⟩ :: r) lg ⟨T, H, nx⟩ K := step_op h rfl k
theorem step_al {t : Nat} {op : ROp} {d : DV} {ck : Ck} (h : ev op true T H nx = some (d, .al ck)) (k : awpOps P r (lg ++ [(rds op true T, [nx])]) ⟨upd T t d, H.put nx (some ck), nx + 1⟩ K) : awpOps P (⟨some t, op, none⟩ :: r) lg ⟨T, H, nx⟩ K := step_op h rfl k
theorem step_g {dt t : Nat} {op : ROp} {wn p : Bool} {d : DV} (hg : gv (T t) wn = some p) (ht : tot op = true) (h : ev op p T H nx = some (d, .no)) (k : awpOps P r (lg ++ [(rds op p T, [])]) ⟨upd T dt (.gd p d), H, nx⟩ K) :
    awpOps P (⟨some dt, op, some (t, wn)⟩ :: r) lg ⟨T, H, nx⟩ K := step_gd hg ht h k
theorem step_gc {dt : Nat} {f : RO} {xs : List RO} {t : Nat} {wn p : Bool} {fn : FuncId} {args : List DV} {d : DV} (hc : CallOK P fn args [] nx d [] nx) (hg : gv (T t) wn = some p) (hf : un p (f.get T) = .fn fn []) (ha : xs.map (fun x => un p (x.get T)) = args)
    (k : awpOps P r (lg ++ [([], [])]) ⟨upd T dt (.gd p d), H, nx⟩ K) : awpOps P (⟨some dt, .call f xs, some (t, wn)⟩ :: r) lg ⟨T, H, nx⟩ K := step_gcall hg hf ha hc k
theorem step_c {dt : Nat} {f : RO} {xs : List RO} {fn : FuncId} {args : List DV} {res : DV} (hc : CallOK P fn args [] nx res [] nx) (hf : un true (f.get T) = .fn fn []) (ha : xs.map (fun x => un true (x.get T)) = args)
    (k : awpOps P r (lg ++ [([], [])]) ⟨upd T dt res, H, nx⟩ K) : awpOps P (⟨some dt, .call f xs, none⟩ :: r) lg ⟨T, H, nx⟩ K := step_pcall hf ha hc k
theorem step_nil (h : K lg s) : awpOps P [] lg s K := h
theorem reg_text {ris : List RI} {K : St → Prop} (h : awpOps P ris [] s fun _ s' => K s') : awpR P ris none s K := h
theorem reg_draw {ris : List RI} {un : List (Nat × Nat)} {K : St → Prop} (h : awpOps P ris [] s fun lg s' => compat un lg ∧ s'.nx = s.nx ∧ K s') : awpR P ris (some un) s K := h
theorem reg_draw0 {ris : List RI} {K : St → Prop} (h : awpOps P ris [] s fun _ s' => s'.nx = s.nx ∧ K s') : awpR P ris (some []) s K := by
  have hg : ∀ (ris : List RI) (lg : Lg) (s : St) (K K' : Lg → St → Prop), (∀ lg s, K lg s → K' lg s) → awpOps P ris lg s K → awpOps P ris lg s K' := by
    intro ris
    induction ris with
    | nil => intro lg s K K' hk h; exact hk _ _ h
    | cons i r ih =>
      intro lg s K K' hk h
      have hx : ∀ op p s (k k' : DV → Cks → Nat → List Nat → Prop), (∀ a b c d, k a b c d → k' a b c d) → awpX P op p s k → awpX P op p s k' := by
        intro op p s k k' hkk h
        have gen : ∀ op, evK (ev op p s.T s.H s.nx) (fun d u => k d (u.post s.nx) (u.nx s.nx) (rds op p s.T)) → evK (ev op p s.T s.H s.nx) (fun d u => k' d (u.post s.nx) (u.nx s.nx) (rds op p s.T)) := by
          intro op h
          cases hev : ev op p s.T s.H s.nx with
          | none => rw [hev] at h; exact h
          | some du => rw [hev] at h; exact hkk _ _ _ _ h
        cases op with
        | call f xs => obtain ⟨a, b, c, d, e, f, h1, h2, h3, h4⟩ := h; exact ⟨a, b, c, d, e, f, h1, h2, h3, hkk _ _ _ _ h4⟩
        | mov x => exact gen (.mov x) h
        | alloc z =>
          rcases h with h | ⟨o, sz, h1, h2⟩
          · exact .inl (gen (.alloc z) h)
          · exact .inr ⟨o, sz, h1, hkk _ _ _ _ h2⟩
        | app sz by' a x =>
          rcases h with h | ⟨o, ck, d, u, h1, h2, h3, h4, h5⟩ | ⟨o, ck, h1, h2, h3⟩
          · exact .inl (gen _ h)
          · exact .inr (.inl ⟨o, ck, d, u, h1, h2, h3, h4, hkk _ _ _ _ h5⟩)
          · exact .inr (.inr ⟨o, ck, h1, h2, hkk _ _ _ _ h3⟩)
        | lenA n => exact gen (.lenA n) h
        | mksl sz by' z l c =>
          rcases h with h | ⟨o, sz0, d, ck, h1, h2, h3⟩
          · exact .inl (gen (.mksl sz by' z l c) h)
          · exact .inr ⟨o, sz0, d, ck, h1, h2, hkk _ _ _ _ h3⟩
        | mkfn f cs => exact gen (.mkfn f cs) h
        | _ => exact gen _ h
      simp only [awpOps] at h ⊢
      cases hgd : i.gd with
      | none => rw [hgd] at h; exact hx _ _ _ _ _ (fun a b c d => ih _ _ _ _ hk) h
      | some g =>
        obtain ⟨t, wn⟩ := g
        rw [hgd] at h
        simp only at h ⊢
        cases hgv : gv (s.T t) wn with
        | none => rw [hgv] at h; exact h
        | some p =>
          rw [hgv] at h
          simp only [gvK] at h ⊢
          split
          · rename_i ht
            rw [if_pos ht] at h
            cases hev : ev i.op p s.T s.H s.nx with
            | none => rw [hev] at h; exact h
            | some du => rw [hev] at h; exact ih _ _ _ _ hk h
          · rename_i ht
            rw [if_neg ht] at h
            have hbr : ((p = true → awpX P i.op true s fun d post nx rd => awpOps P r (lg ++ [(rd, post.map (·.1))]) ⟨putT s.T i.dst d, puts s.H post, nx⟩ K) ∧
                (p = false → awpOps P r (lg ++ [([], [])]) ⟨putT s.T i.dst (.v undef), s.H, s.nx⟩ K)) → ((p = true → awpX P i.op true s fun d post nx rd => awpOps P r (lg ++ [(rd, post.map (·.1))]) ⟨putT s.T i.dst d, puts s.H post, nx⟩ K') ∧
                (p = false → awpOps P r (lg ++ [([], [])]) ⟨putT s.T i.dst (.v undef), s.H, s.nx⟩ K')) :=
              fun h => ⟨fun e => hx _ _ _ _ _ (fun a b c d => ih _ _ _ _ hk) (h.1 e), fun e => ih _ _ _ _ hk (h.2 e)⟩
            cases hop : i.op with
            | call f xs =>
              rw [hop] at h hbr
              rcases h with ⟨a, b, c, h1, h2, h3⟩ | h
              · exact .inl ⟨a, b, c, h1, h2, ih _ _ _ _ hk h3⟩
              · exact .inr (hbr h)
            | _ => rw [hop] at h hbr; exact hbr h
  refine hg _ _ _ _ _ (fun lg s h => ⟨?_, h⟩) h
  intro p hp; cases hp
end step

/-- A walk whose log nobody asks. -/
def awpT (P : Program) (ris : List RI) (s : St) (K : St → Prop) : Prop := ∀ lg, awpOps P ris lg s fun _ s' => K s'

section stept
variable {P : Program} {r : List RI} {T : Nat → DV} {H : Hp} {nx : Nat} {K : St → Prop}
theorem st_nil {s : St} (h : K s) : awpT P [] s K := fun _ => h
theorem st_no {t : Nat} {op : ROp} {d : DV} (h : ev op true T H nx = some (d, .no)) (k : awpT P r ⟨upd T t d, H, nx⟩ K) : awpT P (⟨some t, op, none⟩ :: r) ⟨T, H, nx⟩ K := fun _ => step_no h (k _)
theorem st_wr {op : ROp} {d : DV} {o : Nat} {ck : Ck} (h : ev op true T H nx = some (d, .wr o ck)) (k : awpT P r ⟨T, H.put o (some ck), nx⟩ K) : awpT P (⟨none, op, none⟩ :: r) ⟨T, H, nx⟩ K := fun _ => step_wr h (k _)
theorem st_wrt {t : Nat} {op : ROp} {d : DV} {o : Nat} {ck : Ck} (h : ev op true T H nx = some (d, .wr o ck)) (k : awpT P r ⟨upd T t d, H.put o (some ck), nx⟩ K) : awpT P (⟨some t, op, none⟩ :: r) ⟨T, H, nx⟩ K := fun _ => step_wrt h (k _)
theorem st_al {t : Nat} {op : ROp} {d : DV} {ck : Ck} (h : ev op true T H nx = some (d, .al ck)) (k : awpT P r ⟨upd T t d, H.put nx (some ck), nx + 1⟩ K) : awpT P (⟨some t, op, none⟩ :: r) ⟨T, H, nx⟩ K := fun _ => step_al h (k _)
theorem st_g {dt t : Nat} {op : ROp} {wn p : Bool} {d : DV} (hg : gv (T t) wn = some p) (ht : tot op = true) (h : ev op p T H nx = some (d, .no)) (k : awpT P r ⟨upd T dt (.gd p d), H, nx⟩ K) :
    awpT P (⟨some dt, op, some (t, wn)⟩ :: r) ⟨T, H, nx⟩ K := fun _ => step_g hg ht h (k _)
theorem st_gc {dt : Nat} {f : RO} {xs : List RO} {t : Nat} {wn p : Bool} {fn : FuncId} {args : List DV} {d : DV} (hc : CallOK P fn args [] nx d [] nx) (hg : gv (T t) wn = some p) (hf : un p (f.get T) = .fn fn []) (ha : xs.map (fun x => un p (x.get T)) = args)
    (k : awpT P r ⟨upd T dt (.gd p d), H, nx⟩ K) : awpT P (⟨some dt, .call f xs, some (t, wn)⟩ :: r) ⟨T, H, nx⟩ K := fun _ => step_gc hc hg hf ha (k _)
theorem st_br {dst : Option Nat} {op : ROp} {t : Nat} {wn p : Bool} (hg : gv (T t) wn = some p) (ht : tot op = false) (k1 : p = true → awpT P (⟨dst, op, none⟩ :: r) ⟨T, H, nx⟩ K) (k2 : p = false → awpT P r ⟨putT T dst (.v undef), H, nx⟩ K) :
    awpT P (⟨dst, op, some (t, wn)⟩ :: r) ⟨T, H, nx⟩ K := fun lg => step_br hg ht (fun e => k1 e lg) (fun e => k2 e _)
theorem st_c {dt : Nat} {f : RO} {xs : List RO} {fn : FuncId} {args : List DV} {res : DV} (hc : CallOK P fn args [] nx res [] nx) (hf : un true (f.get T) = .fn fn []) (ha : xs.map (fun x => un true (x.get T)) = args)
    (k : awpT P r ⟨upd T dt res, H, nx⟩ K) : awpT P (⟨some dt, .call f xs, none⟩ :: r) ⟨T, H, nx⟩ K := fun _ => step_c hc hf ha (k _)
/-- A call that touches chunks. -/
theorem st_cc {dt : Nat} {f : RO} {xs : List RO} {fn : FuncId} {args : List DV} {pre : Cks} {res : DV} {post : Cks} {nx' : Nat} (hc : CallOK P fn args pre nx res post nx') (hf : un true (f.get T) = .fn fn []) (ha : xs.map (fun x => un true (x.get T)) = args)
    (hp : ∀ o ck, (o, ck) ∈ pre → H o = some ck) (k : awpT P r ⟨upd T dt res, puts H post, nx'⟩ K) : awpT P (⟨some dt, .call f xs, none⟩ :: r) ⟨T, H, nx⟩ K := fun _ =>
  step_call (caps := []) hf (by rw [List.append_nil]; exact ha) hc (fun o ck h => hp o ck (ofL_mem h)) (k _)
end stept

section idsr
theorem Ids.agg' {S : Nat → Prop} {cs : List DV} : Ids S (.agg cs) ↔ ∀ c, c ∈ cs → Ids S c := ⟨fun h => by cases h with | agg _ h => exact h, .agg cs⟩
theorem Ids.tup' {S : Nat → Prop} {cs : List DV} : Ids S (.tup cs) ↔ ∀ c, c ∈ cs → Ids S c := ⟨fun h => by cases h with | tup _ h => exact h, .tup cs⟩
theorem Ids.rp' {S : Nat → Prop} {cs : List DV} : Ids S (.rp cs) ↔ ∀ c, c ∈ cs → Ids S c := ⟨fun h => by cases h with | rp _ h => exact h, .rp cs⟩
theorem Ids.lst' {S : Nat → Prop} {f : Bool} {xs : List (List DV)} : Ids S (.lst f xs) ↔ ∀ x, x ∈ xs → ∀ c, c ∈ x → Ids S c := ⟨fun h => by cases h with | lst _ _ h => exact h, .lst f xs⟩
theorem Ids.v' {S : Nat → Prop} {x : Value} : Ids S (.v x) ↔ True := ⟨fun _ => trivial, fun _ => .v x⟩
theorem Ids.ptr' {S : Nat → Prop} {o g i f : Nat} : Ids S (.ptr o g i f) ↔ S o := ⟨fun h => by cases h with | ptr _ _ _ _ h => exact h, .ptr o g i f⟩
theorem Ids.own' {S : Nat → Prop} {o g i f : Nat} : Ids S (.own o g i f) ↔ S o := ⟨fun h => by cases h with | own _ _ _ _ h => exact h, .own o g i f⟩
end idsr

section flow
variable {P : Program} {cx : Cx} {ow : Nat → Bool} {Q : Exit → St → Prop} {s : St} {K : St → Prop} {ris : List RI}
theorem AWP.rgK (h : awpT P ris s K) : AWP P cx ow (.rg ris none) (thenQ K Q) s := AWP.rg (reg_text (h _))
theorem AWP.rgN (h : awpT P ris s fun s' => Q .normal s') : AWP P cx ow (.rg ris none) Q s := AWP.rg (reg_text (h _))
theorem AWP.rgND (h : awpT P ris s fun s' => s'.nx = s.nx ∧ Q .normal s') : AWP P cx ow (.rg ris (some [])) Q s := AWP.rg (reg_draw0 (h _))
theorem AWP.rgD (h : awpT P ris s fun s' => s'.nx = s.nx ∧ K s') : AWP P cx ow (.rg ris (some [])) (thenQ K Q) s := AWP.rg (reg_draw0 (h _))
theorem thenQ_ret : thenQ K Q .ret s = Q .ret s := rfl
theorem thenQ_exit (id : Nat) : thenQ K Q (.exit id) s = Q (.exit id) s := rfl
theorem thenQ_normal : thenQ K Q .normal s = K s := rfl
theorem inQ_ret (id : Nat) : inQ id Q .ret s = Q .ret s := rfl
theorem inQ_normal (id : Nat) : inQ id Q .normal s = Q .normal s := rfl
theorem inQ_exit (id : Nat) : inQ id Q (.exit id) s = Q .normal s := by simp [inQ]
theorem inQ_other (id id' : Nat) (h : id' ≠ id) : inQ id Q (.exit id') s = Q (.exit id') s := by simp [inQ, h]
theorem AWP.skipK (h : K s) : AWP P cx ow .skip (thenQ K Q) s := AWP.skip h
theorem AWP.retK (h : Q .ret s) : AWP P cx ow .ret (thenQ K Q) s := AWP.ret h
theorem Ends.ret {rs : List RR} {res : DV} {T : Nat → DV} {H : Hp} {nx : Nat} {ds : List DV} (h1 : rrV T H rs = some ds) (h2 : resV ds = res) : Ends rs res [] .ret ⟨T, H, nx⟩ := ⟨.inr rfl, ⟨ds, h1, h2⟩, fun o ck h => by cases h⟩
theorem Ends.nrm {rs : List RR} {res : DV} {T : Nat → DV} {H : Hp} {nx : Nat} {ds : List DV} (h1 : rrV T H rs = some ds) (h2 : resV ds = res) : Ends rs res [] .normal ⟨T, H, nx⟩ := ⟨.inl rfl, ⟨ds, h1, h2⟩, fun o ck h => by cases h⟩
end flow

section evs
variable (p : Bool) (T : Nat → DV) (H : Hp) (nx : Nat)
theorem ev_mov (x : RO) : ev (.mov x) p T H nx = some (un p (x.get T), .no) := rfl
theorem ev_pick (c a b : RO) : ev (.pick c a b) p T H nx = (pickV p (c.get T) (a.get T) (b.get T)).map (·, .no) := rfl
theorem ev_box (x : RO) : ev (.box x) p T H nx = (dcells (un p (x.get T))).map fun cs => (.ptr nx 0 0 0, .al ⟨0, cs.length, [cs]⟩) := rfl
theorem ev_alloc (z : List DV) : ev (.alloc z) p T H nx = some (.ptr nx 0 0 0, .al ⟨0, z.length, [z]⟩) := rfl
theorem ev_build (z : List DV) (ps : List (Nat × Nat × RO)) : ev (.build z ps) p T H nx = (fillP (fun x : RO => un p (x.get T)) z ps).map fun cs => (.agg cs, .no) := rfl
theorem ev_load (ag : Bool) (n : Nat) (a : RO) : ev (.load ag n a) p T H nx = (loadV H ag n (un p (a.get T))).map (·, .no) := rfl
theorem ev_store (n : Nat) (a x : RO) : ev (.store n a x) p T H nx = (storeV H n (un p (a.get T)) (un p (x.get T))).map (.v undef, ·) := rfl
theorem ev_bin (op : BinOp) (x y : RO) : ev (.bin op x y) p T H nx = (binV op (un p (x.get T)) (un p (y.get T))).map (·, .no) := rfl
theorem ev_beq (neg : Bool) (x y : RO) : ev (.beq neg x y) p T H nx = (beqV neg (un p (x.get T)) (un p (y.get T))).map (·, .no) := rfl
theorem ev_un (op : UnOp) (x : RO) : ev (.un op x) p T H nx = (unV op (un p (x.get T))).map (·, .no) := rfl
theorem ev_len (x : RO) : ev (.len x) p T H nx = (lenV H (un p (x.get T))).map (·, .no) := rfl
theorem ev_lens (x : RO) : ev (.lens x) p T H nx = (lensV (un p (x.get T))).map (·, .no) := rfl
theorem ev_lenA (n : Nat) : ev (.lenA n) p T H nx = some (I n, .no) := rfl
theorem ev_app (sz b : Nat) (s x : RO) : ev (.app sz b s x) p T H nx = appV H sz b (un p (s.get T)) (un p (x.get T)) := rfl
theorem ev_slc (sz : Nat) (x : RO) (lo hi : Option RO) : ev (.slc sz x lo hi) p T H nx = (slcV H sz (un p (x.get T)) (lo.map fun x : RO => un p (x.get T)) (hi.map fun x : RO => un p (x.get T))).map (·, .no) := rfl
theorem ev_mkfn (f : FuncId) (cs : List RO) : ev (.mkfn f cs) p T H nx = some (.fn f (cs.map fun x : RO => un p (x.get T)), .no) := rfl
def nilckV (H : Hp) : DV → Option (DV × Up)
  | .ptr o g i f => if live H o g = true then some (.ptr o g i f, .no) else none
  | .rp cs => some (.rp cs, .no)
  | .fn f cs => some (.fn f cs, .no)
  | _ => none
theorem ev_nilck (x : RO) : ev (.nilck x) p T H nx = nilckV H (un p (x.get T)) := by
  simp only [ev]; unfold nilckV
  generalize un p (x.get T) = d
  cases d <;> first | rfl | (rename_i v; cases v <;> rfl)
def fadrV (H : Hp) (off : Nat) : DV → Option (DV × Up)
  | .ptr o g i f => if live H o g = true then some (.ptr o g i (f + off), .no) else none
  | .rp cs => some (.rp (cs.drop off), .no)
  | _ => none
theorem ev_fadr (off : Nat) (x : RO) : ev (.fadr off x) p T H nx = fadrV H off (un p (x.get T)) := by
  simp only [ev]; unfold fadrV
  generalize un p (x.get T) = d
  cases d <;> first | rfl | (rename_i v; cases v <;> rfl)
def convV (k : IntKind) : DV → Option (DV × Up)
  | .v (.int _ n) => some (.v (.int k (k.wrap n)), .no)
  | _ => none
theorem ev_conv (k : IntKind) (x : RO) : ev (.conv k x) p T H nx = convV k (un p (x.get T)) := by
  simp only [ev]; unfold convV
  generalize un p (x.get T) = d
  cases d <;> first | rfl | (rename_i v; cases v <;> rfl)
def fldV (ag : Bool) (n off : Nat) : DV → Option (DV × Up)
  | .agg cs => if off + n ≤ cs.length then (if ag then some (.agg ((cs.drop off).take n), .no) else ((cs.drop off).head?).map (·, .no)) else none
  | _ => none
theorem ev_fld (ag : Bool) (n off : Nat) (x : RO) : ev (.fld ag n off x) p T H nx = fldV ag n off (un p (x.get T)) := by
  simp only [ev]; unfold fldV
  generalize un p (x.get T) = d
  cases d <;> first | rfl | (rename_i v; cases v <;> rfl)
def eqaV (neg : Bool) (offs : List (Nat × Nat)) : DV → DV → Option (DV × Up)
  | .agg xs, .agg ys => (cellsEq xs ys offs).map fun b => (.v (.bool (b != neg)), .no)
  | _, _ => none
theorem ev_eqa (neg : Bool) (offs : List (Nat × Nat)) (x y : RO) : ev (.eqa neg offs x y) p T H nx = eqaV neg offs (un p (x.get T)) (un p (y.get T)) := by
  simp only [ev]; unfold eqaV
  generalize un p (x.get T) = d
  generalize un p (y.get T) = e
  cases d <;> cases e <;> rfl
def idxV (H : Hp) (sz : Nat) : DV → DV → Option (DV × Up)
  | .lst _ xs, .v (.int _ n) => if 0 ≤ n ∧ n < xs.length ∧ (xs.getD n.toNat []).length = sz then some (.rp (xs.getD n.toNat []), .no) else none
  | .own o g lo k, .v (.int _ n) => match H o with
    | some ck => if ck.gen = g ∧ ck.sz = sz ∧ 0 ≤ n ∧ n < k then some (.ptr o g (lo + n.toNat) 0, .no) else none
    | none => none
  | _, _ => none
theorem ev_iadrS (sz : Nat) (x i : RO) : ev (.iadrS sz x i) p T H nx = idxV H sz (un p (x.get T)) (un p (i.get T)) := by
  simp only [ev]; unfold idxV
  generalize un p (x.get T) = d
  generalize un p (i.get T) = e
  cases d <;> cases e <;> first | rfl | (rename_i v; cases v <;> rfl)
def extrV (i : Nat) : DV → Option (DV × Up)
  | .tup vs => (vs[i]?).map (·, .no)
  | _ => none
theorem ev_extr (i : Nat) (x : RO) : ev (.extr i x) p T H nx = extrV i (un p (x.get T)) := by
  simp only [ev]; unfold extrV
  generalize un p (x.get T) = d
  cases d <;> first | rfl | (rename_i v; cases v <;> rfl)
def mmV (mx : Bool) : List DV → Option (DV × Up)
  | d :: r => (mmL mx d r).map (·, .no)
  | [] => none
theorem ev_mm (mx : Bool) (xs : List RO) : ev (.mm mx xs) p T H nx = mmV mx (xs.map fun x : RO => un p (x.get T)) := by
  simp only [ev]; unfold mmV
  generalize (xs.map fun x : RO => un p (x.get T)) = l
  cases l <;> rfl
theorem ev_bslice (sz : Nat) (z : List DV) (len : Nat) (ps : List (Nat × RO)) : ev (.bslice false sz z len ps) p T H nx = (bslP (fun x : RO => un p (x.get T)) sz (List.replicate len z) ps).map fun xs => (.lst true xs, .no) := by
  simp only [ev, Bool.false_eq_true, if_false]
theorem ev_bsliceo (sz : Nat) (z : List DV) (len : Nat) (ps : List (Nat × RO)) : ev (.bslice true sz z len ps) p T H nx = (bslP (fun x : RO => un p (x.get T)) sz (List.replicate len z) ps).map fun xs => (.own nx 0 0 len, .al ⟨0, sz, xs⟩) := by
  simp only [ev, if_true]

theorem loadV_ptr (ag : Bool) (n o g i off : Nat) : loadV H ag n (.ptr o g i off) = (match H o with
    | some ck => if ck.gen = g ∧ off + n ≤ (ck.xs.getD i []).length then (if ag then some (.agg (((ck.xs.getD i []).drop off).take n)) else if n = 1 then ((ck.xs.getD i []).drop off).head? else none) else none
    | none => none) := rfl
theorem loadV_rp (ag : Bool) (n : Nat) (cs : List DV) : loadV H ag n (.rp cs) = if n ≤ cs.length then (if ag then some (.agg (cs.take n)) else if n = 1 then cs.head? else none) else none := rfl
theorem nilckV_ptr (o g i f : Nat) : nilckV H (.ptr o g i f) = if live H o g = true then some (.ptr o g i f, .no) else none := rfl
theorem nilckV_rp (cs : List DV) : nilckV H (.rp cs) = some (.rp cs, .no) := rfl
theorem nilckV_fn (f : FuncId) (cs : List DV) : nilckV H (.fn f cs) = some (.fn f cs, .no) := rfl
theorem fadrV_ptr (off o g i f : Nat) : fadrV H off (.ptr o g i f) = if live H o g = true then some (.ptr o g i (f + off), .no) else none := rfl
theorem fadrV_rp (off : Nat) (cs : List DV) : fadrV H off (.rp cs) = some (.rp (cs.drop off), .no) := rfl

theorem binV_add (a b : Int) : binV .add (.v (.int .i64 a)) (.v (.int .i64 b)) = some (.v (.int .i64 (IntKind.i64.wrap (a + b)))) := rfl
theorem binV_sub (a b : Int) : binV .sub (.v (.int .i64 a)) (.v (.int .i64 b)) = some (.v (.int .i64 (IntKind.i64.wrap (a - b)))) := rfl
theorem binV_mul (a b : Int) : binV .mul (.v (.int .i64 a)) (.v (.int .i64 b)) = some (.v (.int .i64 (IntKind.i64.wrap (a * b)))) := rfl
theorem binV_quo (a b : Int) : binV .quo (.v (.int .i64 a)) (.v (.int .i64 b)) = if b = 0 then none else some (.v (.int .i64 (IntKind.i64.wrap (a.tdiv b)))) := rfl
theorem binV_rem (a b : Int) : binV .rem (.v (.int .i64 a)) (.v (.int .i64 b)) = if b = 0 then none else some (.v (.int .i64 (a.tmod b))) := rfl
theorem binV_eql (k : IntKind) (a b : Int) : binV .eql (.v (.int k a)) (.v (.int k b)) = some (.v (.bool (a == b))) := by simp only [binV, isShf, Bool.false_eq_true, if_false, if_true, binI]
theorem binV_neq (k : IntKind) (a b : Int) : binV .neq (.v (.int k a)) (.v (.int k b)) = some (.v (.bool (a != b))) := by simp only [binV, isShf, Bool.false_eq_true, if_false, if_true, binI]
theorem binV_lss (k : IntKind) (a b : Int) : binV .lss (.v (.int k a)) (.v (.int k b)) = some (.v (.bool (decide (a < b)))) := by simp only [binV, isShf, Bool.false_eq_true, if_false, if_true, binI]
theorem binV_leq (k : IntKind) (a b : Int) : binV .leq (.v (.int k a)) (.v (.int k b)) = some (.v (.bool (decide (a ≤ b)))) := by simp only [binV, isShf, Bool.false_eq_true, if_false, if_true, binI]
theorem binV_gtr (k : IntKind) (a b : Int) : binV .gtr (.v (.int k a)) (.v (.int k b)) = some (.v (.bool (decide (b < a)))) := by simp only [binV, isShf, Bool.false_eq_true, if_false, if_true, binI, gt_iff_lt]
theorem binV_geq (k : IntKind) (a b : Int) : binV .geq (.v (.int k a)) (.v (.int k b)) = some (.v (.bool (decide (b ≤ a)))) := by simp only [binV, isShf, Bool.false_eq_true, if_false, if_true, binI, ge_iff_le]
theorem unV_not (b : Bool) : unV .not (.v (.bool b)) = some (.v (.bool (!b))) := rfl
theorem unV_neg (a : Int) : unV .neg (.v (.int .i64 a)) = some (.v (.int .i64 (IntKind.i64.wrap (0 - a)))) := rfl
theorem dcells_int (k : IntKind) (n : Int) : dcells (.v (.int k n)) = some [.v (.int k n)] := rfl
theorem dcells_bool (b : Bool) : dcells (.v (.bool b)) = some [.v (.bool b)] := rfl
theorem dcells_agg (cs : List DV) : dcells (.agg cs) = some cs := rfl
theorem dcells_ptr (o g i f : Nat) : dcells (.ptr o g i f) = some [.ptr o g i f] := rfl
theorem dcells_own (o g i f : Nat) : dcells (.own o g i f) = some [.own o g i f] := rfl
theorem dcells_lst (f : Bool) (xs : List (List DV)) : dcells (.lst f xs) = some [.lst f xs] := rfl
theorem dcells_rp (cs : List DV) : dcells (.rp cs) = some [.rp cs] := rfl
theorem dcells_fn (f : FuncId) (cs : List DV) : dcells (.fn f cs) = some [.fn f cs] := rfl
theorem pickU_b (q x y : Bool) : pickU q (.v (.bool x)) (.v (.bool y)) = some (.v (.bool (cond q x y))) := rfl
def pickW (p : Bool) (a b : DV) : DV → Option DV
  | .v (.bool q) => pickU q (un (p && q) a) (un (p && !q) b)
  | _ => none
theorem pickW_b (p q : Bool) (a b : DV) : pickW p a b (.v (.bool q)) = pickU q (un (p && q) a) (un (p && !q) b) := rfl
theorem pickV_eq (p : Bool) (c a b : DV) : pickV p c a b = pickW p a b (un p c) := by
  unfold pickV pickW
  generalize un p c = e
  cases e <;> rfl
theorem gv_b (b w : Bool) : gv (.v (.bool b)) w = some (b == w) := rfl
theorem gv_g (q b w : Bool) : gv (.gd q (.v (.bool b))) w = some (q && (b == w)) := rfl
theorem gv_u (w : Bool) : gv (.v undef) w = some false := rfl
theorem live_eq (o g : Nat) : live H o g = match H o with | some ck => ck.gen == g | none => false := rfl
theorem get_t (n : Nat) : (RO.t n).get T = T n := rfl
theorem get_c (d : DV) : (RO.c d).get T = d := rfl
end evs

section rules
/- Where a walk is reckoned, what follows is not looked into before its turn. -/
theorem evK_congr {r r' : Option (DV × Up)} (k : DV → Up → Prop) (h : r = r') : evK r k = evK r' k := by rw [h]
theorem gvK_congr {r r' : Option Bool} (k : Bool → Prop) (h : r = r') : gvK r k = gvK r' k := by rw [h]
theorem CallX_congr {P : Program} {fv fv' : DV} {args args' : List DV} {H H' : Hp} {nx nx' : Nat} (k : DV → Cks → Nat → List Nat → Prop) (h1 : fv = fv') (h2 : args = args') (h3 : H = H') (h4 : nx = nx') : CallX P fv args H nx k = CallX P fv' args' H' nx' k := by
  rw [h1, h2, h3, h4]
theorem GC_congr {P : Program} {fv fv' : DV} {args args' : List DV} {nx nx' : Nat} (k : DV → Prop) (b : Prop) (h1 : fv = fv') (h2 : args = args') (h4 : nx = nx') : GC P fv args nx k b = GC P fv' args' nx' k b := by
  rw [h1, h2, h4]
theorem AWP_congr {P : Program} {cx : Cx} {ow : Nat → Bool} {ac : AC} {Q : Exit → St → Prop} {s s' : St} (h : s = s') : AWP P cx ow ac Q s = AWP P cx ow ac Q s' := by rw [h]
theorem awpX_congr {P : Program} {op : ROp} {p : Bool} {s s' : St} (k : DV → Cks → Nat → List Nat → Prop) (h : s = s') : awpX P op p s k = awpX P op p s' k := by rw [h]
theorem GX_congr {P : Program} {p : Bool} {op : ROp} {s s' : St} (k : DV → Prop) (b : Prop) (h : s = s') : GX P p op s k b = GX P p op s' k b := by rw [h]
theorem awpOps_congr {P : Program} {r : List RI} {lg : Lg} {s s' : St} {K : Lg → St → Prop} (h : s = s') : awpOps P r lg s K = awpOps P r lg s' K := by rw [h]
theorem awpR_congr {P : Program} {r : List RI} {un : Option (List (Nat × Nat))} {s s' : St} {K : St → Prop} (h : s = s') : awpR P r un s K = awpR P r un s' K := by rw [h]
attribute [congr] awpX_congr GX_congr awpOps_congr awpR_congr evK_congr gvK_congr CallX_congr GC_congr AWP_congr

theorem un_v (p : Bool) (x : Value) : un p (.v x) = .v x := rfl
theorem un_any (p : Bool) : un p .any = .any := rfl
theorem un_ptr (p : Bool) (o g i f : Nat) : un p (.ptr o g i f) = .ptr o g i f := rfl
theorem un_own (p : Bool) (o g i f : Nat) : un p (.own o g i f) = .own o g i f := rfl
theorem un_lst (p f : Bool) (xs : List (List DV)) : un p (.lst f xs) = .lst f xs := rfl
theorem un_rp (p : Bool) (cs : List DV) : un p (.rp cs) = .rp cs := rfl
theorem un_agg (p : Bool) (cs : List DV) : un p (.agg cs) = .agg cs := rfl
theorem un_tup (p : Bool) (cs : List DV) : un p (.tup cs) = .tup cs := rfl
theorem un_fn (p : Bool) (f : FuncId) (cs : List DV) : un p (.fn f cs) = .fn f cs := rfl
theorem un_gd (p q : Bool) (d : DV) : un p (.gd q d) = if (!p || q) = true then d else .any := rfl
theorem upd_get (T : Nat → DV) (d : Nat) (x : DV) (t : Nat) : upd T d x t = if t = d then x else T t := rfl

def argT : Nat → List DV → Nat → DV
  | _, [] => fun _ => .any
  | k, a :: l => upd (argT (k + 1) l) k a
theorem argT_get : ∀ (l : List DV) (k t : Nat), argT k l t = if k ≤ t then l.getD (t - k) .any else .any
  | [], k, t => by simp [argT]
  | a :: l, k, t => by
    simp only [argT, upd_get, argT_get l]
    by_cases h : t = k
    · subst h; simp
    · by_cases h2 : k ≤ t
      · have : t - k = (t - (k + 1)) + 1 := by omega
        rw [if_neg h, if_pos (by omega), if_pos h2, this]; simp [List.getD]
      · rw [if_neg h, if_neg (by omega), if_neg h2]
theorem ofArgs_eq (l : List DV) : ofArgs l = argT 0 l := by
  funext t; rw [argT_get]; simp [ofArgs]

theorem imp1 (p q : Bool) : (!(p && q) || p) = true := by cases p <;> cases q <;> rfl
theorem imp2 (p q : Bool) : (!(q && p) || p) = true := by cases p <;> cases q <;> rfl
theorem imp0 (p : Bool) : (!p || p) = true := by cases p <;> rfl
theorem puts_one_eq (H : Hp) (o : Nat) (c : Ck) : puts H [(o, c)] = H.put o (some c) := rfl
theorem Hp.put_get (H : Hp) (o : Nat) (c : Option Ck) (o' : Nat) : H.put o c o' = if o' = o then c else H o' := rfl
theorem beq_true_eq (b : Bool) : (b == true) = b := by cases b <;> rfl
theorem beq_false_eq (b : Bool) : (b == false) = !b := by cases b <;> rfl
theorem cond_and (a b : Bool) : (bif a then b else false) = (a && b) := by cases a <;> rfl
theorem cond_or (a b : Bool) : (bif a then true else b) = (a || b) := by cases a <;> rfl
end rules

end Go.Pv
