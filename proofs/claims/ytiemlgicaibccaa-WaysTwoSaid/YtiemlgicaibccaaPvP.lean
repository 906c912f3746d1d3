/- The resolved code of a function (AC), walks over it (AWP), and from a walk to a call (CallOK.intro). No condition of its own: over any program. -/
import Derived.Test.YtiemlgicaibccaaPvO
set_option linter.all false
namespace Go.Pv
open Go.RowKit
inductive AC where
 | skip
 | rg (ris : List RI) (un : Option (List (Nat × Nat)))
 | seq (a b : AC)
 | cond (c : RO) (a b : AC)
 | block (id : Nat) (c : AC)
 | loop (c : AC)
 | exit (id : Nat)
 | ret
 | bad
 | rngf (g : RO) (p : Nat) (a b : AC)
def AC.nofz (fz : Nat → Option Value) : AC → Prop
 | .rg ris _ => ∀ k (hk : k < ris.length), ∀ d, ris[k].dst = some d → fz d = none
 | .seq a b => a.nofz fz ∧ b.nofz fz
 | .cond _ a b => a.nofz fz ∧ b.nofz fz
 | .block _ c => c.nofz fz
 | .loop c => c.nofz fz
 | _ => True
theorem AC.nofz_none : ∀ (ac : AC), ac.nofz (fun _ => none)
 | .rg _ _ => fun _ _ _ _ => rfl
 | .seq a b => ⟨a.nofz_none, b.nofz_none⟩
 | .cond _ a b => ⟨a.nofz_none, b.nofz_none⟩
 | .block _ c => c.nofz_none
 | .loop c => c.nofz_none
 | .skip | .exit _ | .ret | .bad | .rngf _ _ _ _ => trivial
def comp (P : Program) (nt : Nat) (ow : Nat → Bool) : Code → Option AC
 | .skip => some .skip
 | .label _ => some .skip
 | .region _ ops draw => match rIs P nt ow ops ops.toList with
  | some ris => if draw = true then (if okReg ops.toList (befS [] ops.toList) ris = true then some (.rg ris (some (unOf (befS [] ops.toList) ris))) else some .bad) else some (.rg ris none)
  | none => some .bad
 | .seq a b => match comp P nt ow a, comp P nt ow b with
  | some x, some y => some (.seq x y)
  | _, _ => none
 | .cond c a b => match ro c, comp P nt ow a, comp P nt ow b with
  | some r, some x, some y => some (.cond r x y)
  | _, _, _ => none
 | .block id c => match comp P nt ow c with
  | some x => some (.block id x)
  | none => none
 | .loop c => match comp P nt ow c with
  | some x => some (.loop x)
  | none => none
 | .exit id => some (.exit id)
 | .ret => some .ret
 | .rangeFunc g ps a b => match ro g, ps.toList, comp P nt ow a, comp P nt ow b with
  | some r, [p], some x, some y => if p < nt then some (.rngf r p x y) else some .bad
  | _, _, _, _ => some .bad
 | _ => some .bad
def AWP (P : Program) (cx : Cx) (ow : Nat → Bool) (ac : AC) (Q : Exit → St → Prop) (s : St) : Prop :=
 Hm P cx → ∀ c, comp P cx.nt ow c = some ac → ac.nofz cx.fz → ∀ ps a w, RS cx s ps a w → c.wpIn (FR cx.ro) 0 P (fun e a' w' => ∃ s' ps', RS cx s' ps' a' w' ∧ Q e s') a w
def thenQ (K : St → Prop) (Q : Exit → St → Prop) : Exit → St → Prop
 | .normal, s => K s
 | e, s => Q e s
def inQ (id : Nat) (Q : Exit → St → Prop) : Exit → St → Prop
 | .exit id', s => if id' = id then Q .normal s else Q (.exit id') s
 | e, s => Q e s
def Wk (cx : Cx) (s s' : St) : Prop := ∀ ps a w, RS cx s ps a w → ∃ ps', RS cx s' ps' a w
section
variable {P : Program} {cx : Cx} {ow : Nat → Bool} {Q : Exit → St → Prop} {s : St}
theorem AWP.wk {ac : AC} {s' : St} (h : Wk cx s s') (k : AWP P cx ow ac Q s') : AWP P cx ow ac Q s := fun hm c hc hz ps a w R => by
 obtain ⟨ps', R'⟩ := h ps a w R
 exact k hm c hc hz ps' a w R'
theorem AWP.mono {ac : AC} {Q' : Exit → St → Prop} (h : AWP P cx ow ac Q s) (hq : ∀ e s, Q e s → Q' e s) : AWP P cx ow ac Q' s := fun hm c hc hz ps a w R =>
 wpIn_mono (h hm c hc hz ps a w R) fun e a w ⟨s', ps', R', q⟩ => ⟨s', ps', R', hq _ _ q⟩
theorem AWP.skip (h : Q .normal s) : AWP P cx ow .skip Q s := fun hm c hc hz ps a w R => by
 cases c <;> simp only [comp] at hc <;> (try cases hc; done)
 ·exact wpIn_skip ⟨s, ps, R, h⟩
 all_goals (first | exact wpIn_label ⟨s, ps, R, h⟩ | (exfalso; revert hc; (repeat' split) <;> simp))
theorem AWP.seq {x y : AC} (h : AWP P cx ow x (thenQ (fun s' => AWP P cx ow y Q s') Q) s) : AWP P cx ow (.seq x y) Q s := fun hm c hc hz ps a w R => by
 cases c with
 | seq c1 c2 =>
  simp only [comp] at hc
  split at hc
  ·rename_i x' y' h1 h2
   injection hc with hc; injection hc with e1 e2; subst e1; subst e2
   refine wpIn_seq (wpIn_mono (h hm c1 h1 hz.1 ps a w R) ?_)
   rintro e a' w' ⟨s', ps', R', q⟩
   cases e with
   | normal => exact q hm c2 h2 hz.2 ps' a' w' R'
   | _ => exact ⟨s', ps', R', q⟩
  ·cases hc
 | _ => exfalso; simp only [comp] at hc; revert hc; (repeat' split) <;> simp
theorem AWP.cond {c : RO} {x y : AC} {b : Bool} (hb : c.get s.T = .v (.bool b)) (h1 : b = true → AWP P cx ow x Q s) (h2 : b = false → AWP P cx ow y Q s) : AWP P cx ow (.cond c x y) Q s := fun hm cc hc hz ps a w R => by
 cases cc with
 | cond c' c1 c2 =>
  simp only [comp] at hc
  split at hc
  ·rename_i r x' y' k1 k2 k3
   injection hc with hc; injection hc with e1 e2 e3; subst e1; subst e2; subst e3
   have hv := ro_sound (a := a) k1 R.t
   rw [hb] at hv
   refine wpIn_cond_split hv.v_inv (fun e => h1 e hm c1 k2 hz.1 ps a w R) (fun e => h2 e hm c2 k3 hz.2 ps a w R)
  ·cases hc
 | _ => exfalso; simp only [comp] at hc; revert hc; (repeat' split) <;> simp
theorem AWP.block {id : Nat} {x : AC} (h : AWP P cx ow x (inQ id Q) s) : AWP P cx ow (.block id x) Q s := fun hm c hc hz ps a w R => by
 cases c with
 | block id' c1 =>
  simp only [comp] at hc
  split at hc
  ·rename_i x' h1
   injection hc with hc; injection hc with e1 e2; subst e1; subst e2
   refine wpIn_block (wpIn_mono (h hm c1 h1 hz ps a w R) ?_)
   rintro e a' w' ⟨s', ps', R', q⟩
   cases e with
   | exit id2 =>
    simp only [Exit.inBlock, inQ] at q ⊢
    split
    ·rename_i he; rw [if_pos he] at q; exact ⟨s', ps', R', q⟩
    ·rename_i he; rw [if_neg he] at q; exact ⟨s', ps', R', q⟩
   | _ => exact ⟨s', ps', R', q⟩
  ·cases hc
 | _ => exfalso; simp only [comp] at hc; revert hc; (repeat' split) <;> simp
theorem AWP.exit {id : Nat} (h : Q (.exit id) s) : AWP P cx ow (.exit id) Q s := fun hm c hc hz ps a w R => by
 cases c with
 | exit id' => simp only [comp, Option.some.injEq, AC.exit.injEq] at hc; subst hc; exact wpIn_exit ⟨s, ps, R, h⟩
 | _ => exfalso; simp only [comp] at hc; revert hc; (repeat' split) <;> simp
theorem AWP.ret (h : Q .ret s) : AWP P cx ow .ret Q s := fun hm c hc hz ps a w R => by
 cases c with
 | ret => exact wpIn_ret ⟨s, ps, R, h⟩
 | _ => exfalso; simp only [comp] at hc; revert hc; (repeat' split) <;> simp
theorem AWP.rgX {ris : List RI} {un : Option (List (Nat × Nat))} (h : awpRX P ris un s (fun s' => Q .normal s')) : AWP P cx ow (.rg ris un) Q s := fun hm c hc hz ps a w R => by
 cases c with
 | region id ops draw =>
  simp only [comp] at hc
  split at hc
  ·rename_i ris' h1
   split at hc
   ·rename_i hd
    split at hc
    ·rename_i hok
     injection hc with hc; injection hc with e1 e2; subst e1; subst e2
     exact region_sound hm h1 hz (.inr ⟨hd, hok, rfl⟩) h ps a w R fun s' ps' a' w' q R' => ⟨s', ps', R', q⟩
    ·cases hc
   ·rename_i hd
    injection hc with hc; injection hc with e1 e2; subst e1; subst e2
    exact region_sound hm h1 hz (.inl ⟨by simpa using hd, rfl⟩) h ps a w R fun s' ps' a' w' q R' => ⟨s', ps', R', q⟩
  ·cases hc
 | _ => exfalso; simp only [comp] at hc; revert hc; (repeat' split) <;> simp
def runW (P : Program) (cx : Cx) : List RI → St → (St → Prop) → Prop
 | [], s, K => cx.nb ≤ s.nx → ∃ s0, Wk cx s s0 ∧ K s0
 | i :: r, s, K => cx.nb ≤ s.nx → ∃ s0, Wk cx s s0 ∧ ∃ e : Rc, Stp P i s0 e ∧ runW P cx r (s0.app i.dst e) K
theorem runW.wk {ris : List RI} {s s' : St} {K : St → Prop} (w : Wk cx s s') (hn : cx.nb ≤ s'.nx) (h : runW P cx ris s' K) : runW P cx ris s K := by
 cases ris with
 | nil => exact fun _ => by obtain ⟨s0, w0, h⟩ := h hn; exact ⟨s0, fun ps a wd R => by obtain ⟨ps', R'⟩ := w ps a wd R; exact w0 ps' a wd R', h⟩
 | cons i r => exact fun _ => by obtain ⟨s0, w0, h⟩ := h hn; exact ⟨s0, fun ps a wd R => by obtain ⟨ps', R'⟩ := w ps a wd R; exact w0 ps' a wd R', h⟩
theorem runW.nb {ris : List RI} {s : St} {K : St → Prop} (h : cx.nb ≤ s.nx → runW P cx ris s K) : runW P cx ris s K := by
 cases ris with
 | nil => exact fun hn => h hn hn
 | cons i r => exact fun hn => h hn hn
theorem runW.of : ∀ {a b : List RI} {lg : Lg} {s : St} {K : St → Prop}, runX P a lg s (fun _ s' => runW P cx b s' K) → runW P cx (a ++ b) s K
 | [], b, lg, s, K, h => h
 | i :: a, b, lg, s, K, h => by
  obtain ⟨e, h1, h2⟩ := h
  exact fun _ => ⟨s, fun ps a w R => ⟨ps, R⟩, e, h1, runW.of h2⟩
theorem textW (hg0 : GlOK P cx.w0 cx.B) {n : Nat} {ow : Nat → Bool} {ops : Array Oper} {ris : List RI} {Q : Exit → Act → World → Prop} {K : St → Prop} (hris : rIs P cx.nt ow ops ops.toList = some ris) (hz : ∀ k (hk : k < ris.length), ∀ d, ris[k].dst = some d → cx.fz d = none) (fin : ∀ s ps a w, K s → RS cx s ps a w → Q .normal a w) :
  ∀ (l : List RI) (k : Nat) (s : St), ris.drop k = l → k + l.length = ris.length → runW P cx l s K → ∀ ps a w, RS cx s ps a w → wpOpsIn (FR cx.ro) n P ops Q (List.range' k l.length) a w
 | [], k, s, hl, hk, h, ps, a, w, R => by
  obtain ⟨s0, w0, h⟩ := h R.nbx
  obtain ⟨ps', R'⟩ := w0 ps a w R
  exact fin s0 ps' a w h R'
 | i :: l, k, s, hl, hk, h, ps, a, w, R => by
  obtain ⟨hlen, hr⟩ := rIs_parts hris
  obtain ⟨s0, w0, e, h1, h2⟩ := h R.nbx
  obtain ⟨ps', R'⟩ := w0 ps a w R
  simp only [List.length_cons] at hk ⊢
  rw [List.range'_succ, wpOpsIn_cons]
  have hk1 : k < ris.length := by omega
  have hk2 : k < ops.toList.length := by omega
  have ho : ops[k]? = some ops.toList[k] := by
   have hk3 : k < ops.size := by simpa using hk2
   simp [hk3]
  have hi : ris[k] = i := by
   have := List.getElem_drop (xs := ris) (i := k) (j := 0) (h := by rw [hl]; simp)
   simp only [hl, List.getElem_cons_zero, Nat.add_zero] at this
   exact this.symm
  refine stp_sound hg0 ho (hi ▸ hr k hk2 hk1) R' h1 (hi ▸ hz k hk1) _ fun ps2 a2 w2 R2 => ?_
  refine textW hg0 hris hz fin l (k + 1) _ ?_ (by omega) h2 ps2 a2 w2 R2
  rw [← List.drop_drop, hl]; rfl
theorem AWP.rgW {ris : List RI} (h : runW P cx ris s (fun s' => Q .normal s')) : AWP P cx ow (.rg ris none) Q s := fun hm c hc hz ps a w R => by
 cases c with
 | region id ops draw =>
  simp only [comp] at hc
  split at hc
  ·rename_i ris' h1
   split at hc
   ·split at hc
    ·injection hc with hc; injection hc with e1 e2; cases e2
    ·cases hc
   ·rename_i hd
    injection hc with hc; injection hc with e1 e2; subst e1
    have hdf : draw = false := by simpa using hd
    subst hdf
    obtain ⟨hl, _⟩ := rIs_parts h1
    refine wpIn_region ?_
    have hn : ris'.length = ops.size := by simpa using hl
    rw [List.range_eq_range', ← hn]
    exact textW hm.g h1 hz (fun s' ps' a' w' q R' => ⟨s', ps', R', q⟩) ris' 0 s (by simp) (by omega) h ps a w R
  ·cases hc
 | _ => exfalso; simp only [comp] at hc; revert hc; (repeat' split) <;> simp
theorem AWP.rg {ris : List RI} {un : Option (List (Nat × Nat))} (h : awpR P ris un s (fun s' => Q .normal s')) : AWP P cx ow (.rg ris un) Q s := AWP.rgX h.x
end
inductive RR where
 | t (n : Nat)
 | cell (a : Nat) (ag : Bool) (n : Nat)
def resR (P : Program) : List ResultVar → Option (List RR)
 | [] => some []
 | .tmp t :: r => match resR P r with
  | some l => some (.t t :: l)
  | none => none
 | .cell a t :: r => match aggT P t, sizeT P t, resR P r with
  | some ag, some n, some l => if ag || n == 1 then some (.cell a ag n :: l) else none
  | _, _, _ => none
def rrV (T : Nat → DV) (H : Hp) : List RR → Option (List DV)
 | [] => some []
 | .t n :: r => match rrV T H r with
  | some l => some (T n :: l)
  | none => none
 | .cell a ag n :: r => match loadV H ag n (T a), rrV T H r with
  | some d, some l => some (d :: l)
  | _, _ => none
def resV : List DV → DV
 | [d] => d
 | l => .tup l
def resOne (tmps : Array Value) : ResultVar → Sem Value
 | .tmp t => Pure.pure (tmps.getD t undef)
 | .cell a t => do loadVar t (← asAddr (tmps.getD a undef))
theorem rr_sound {P : Program} {H ps M nx w T} {tmps : Array Value} (hr : HR H ps M nx w) (hT : ∀ t, VR H ps M nx w (T t) (tmps.getD t undef)) : ∀ (l : List ResultVar) (rs : List RR) (ds : List DV), resR P l = some rs → rrV T H rs = some ds →
  ∃ vs : List Value, (l.mapM (resOne tmps)).run P w = Result.ok vs w ∧ vs.length = ds.length ∧ ∀ j (h1 : j < ds.length) (h2 : j < vs.length), VR H ps M nx w ds[j] vs[j]
 | [], rs, ds, h1, h2 => by simp [resR] at h1; subst h1; simp [rrV] at h2; subst h2; exact ⟨[], by simp, rfl, fun j h => by simp at h⟩
 | .tmp t :: r, rs, ds, h1, h2 => by
  simp only [resR] at h1
  split at h1
  ·rename_i l hl
   injection h1 with h1; subst h1
   simp only [rrV] at h2
   split at h2
   ·rename_i ds' hd
    injection h2 with h2; subst h2
    obtain ⟨vs, k1, k2, k3⟩ := rr_sound hr hT r l ds' hl hd
    refine ⟨tmps.getD t undef :: vs, by simp [List.mapM_cons, resOne, k1], by simp [k2], fun j g1 g2 => ?_⟩
    cases j with
    | zero => exact hT t
    | succ j => exact k3 j (by simpa using g1) (by simpa using g2)
   ·cases h2
  ·cases h1
 | .cell a t :: r, rs, ds, h1, h2 => by
  simp only [resR] at h1
  split at h1
  ·rename_i ag n l hag hn hl
   split at h1
   ·rename_i hc
    injection h1 with h1; subst h1
    simp only [rrV] at h2
    split at h2
    ·rename_i d ds' hd hds
     injection h2 with h2; subst h2
     obtain ⟨vs, k1, k2, k3⟩ := rr_sound hr hT r l ds' hl hds
     obtain ⟨b, off, f, cs, hx, hcn, hcell, h1c, hvs, hr'⟩ := loadV_sound hr hd (hT a)
     have hrun := run_loadVar hag hn hc w b off f hcell
     obtain ⟨v, hv1, hv2⟩ := load_sound (P := P) hr hag hn hc hd (hT a)
     have hv1' : (loadVar t ⟨b, off, none⟩).run P w = .ok v w := by
      rw [hx] at hv1
      simpa [Instr.loadAt, Instr.sureAddr] using hv1
     refine ⟨v :: vs, by simp [List.mapM_cons, resOne, hx, asAddr, hv1', k1], by simp [k2], fun j g1 g2 => ?_⟩
     cases j with
     | zero => exact hv2
     | succ j => exact k3 j (by simpa using g1) (by simpa using g2)
    ·cases h2
   ·cases h1
  ·cases h1
def ofArgs (args : List DV) : Nat → DV := fun t => args.getD t .any
end Go.Pv
