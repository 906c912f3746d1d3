/- Functions with a slice parameter that is an own array of the caller and is used up (RdOK), and their entries (rdE). No condition of its own: over any program. -/
import Derived.Test.YtiemlgicaibccaaPxS
set_option linter.all false
namespace Go.Pv
open Go.RowKit
section
variable {t : GT} {rk : List RK}
theorem rd_num (z : Els (RK.tys rk)) : ∀ k (hk : k < ((0, (⟨1, t.sz, []⟩ : Ck)) :: newC g0 rk z 1).length), ((0, (⟨1, t.sz, []⟩ : Ck)) :: newC g0 rk z 1)[k].1 = 0 + k := fun k hk => by
 cases k with
 | zero => rfl
 | succ k =>
  simp only [List.getElem_cons_succ]
  rw [newC_num]; omega
end
def finR' (rs : List RR) (rk : List RK) (si : SI) : Option (Els (RK.tys rk)) := match rrI si.T si.H rs with
 | some vs => decR rk vs si.H 1
 | none => none
def finR (ns : List NS) (rs : List RR) (rk : List RK) : Exit → SI → Option (Els (RK.tys rk))
 | .normal, si => (match normI 1 ns si with
  | some si => finR' rs rk si
  | none => none)
 | .ret, si => finR' rs rk si
 | _, _ => none
theorem rd_ren {P : Program} {f : FuncId} {args args' : List DV} {pre pre' : Cks} {p nb : Nat} {rk : List RK} {z : Els (RK.tys rk)} {sz o g i : Nat} {r γ : Nat → Nat} (h : CallOK P f args pre p (resV (resD g0 rk z 1)) ((0, ⟨1, sz, []⟩) :: newC g0 rk z 1) (1 + newN rk))
  (r0 : r 0 = o) (γ0 : γ 0 = g) (hr : ∀ k, k < newN rk → r (1 + k) = i + k ∧ γ (1 + k) = 0) (hinj : ∀ a b, a < 1 + newN rk → b < 1 + newN rk → r a = r b → a = b) (hold : ∀ j, j < p → r j < nb) (hnew : ∀ j, p ≤ j → j < 1 + newN rk → nb ≤ r j ∧ r j < nb + (1 + newN rk - p)) (hpre : Moved r γ p pre' pre) (ha : Both (Rn r γ p) args' args) :
  CallOK P f args' pre' nb (resV (resD g0 rk z i)) ((o, ⟨1 + g, sz, []⟩) :: newC g0 rk z i) (nb + (1 + newN rk - p)) ∧ Keyed ((o, (⟨1 + g, sz, []⟩ : Ck)) :: newC g0 rk z i) (1 + newN rk) r (ckAt ((o, ⟨1 + g, sz, []⟩) :: newC g0 rk z i)) := by
 have l1 : ((0, (⟨1, sz, []⟩ : Ck)) :: newC g0 rk z 1).length = 1 + newN rk := by rw [List.length_cons, newC_len]; omega
 have le : LE r γ (1 + newN rk) ((o, ⟨1 + g, sz, []⟩) :: newC g0 rk z i) ((0, ⟨1, sz, []⟩) :: newC g0 rk z 1) 0 :=
  LE.cons rfl r0.symm ⟨by rw [γ0], rfl, rfl, fun k h1 h2 => absurd h1 (Nat.not_lt_zero _)⟩ (newC_le rk z 1 i hr)
 have le0 : LE id g0 (1 + newN rk) ((0, ⟨1, sz, []⟩) :: newC g0 rk z 1) ((0, ⟨1, sz, []⟩) :: newC g0 rk z 1) 0 :=
  LE.cons rfl rfl ⟨rfl, rfl, rfl, fun k h1 h2 => absurd h1 (Nat.not_lt_zero _)⟩ (newC_le rk z 1 1 fun k hk => ⟨rfl, rfl⟩)
 have Kp : Keyed ((0, (⟨1, sz, []⟩ : Ck)) :: newC g0 rk z 1) (1 + newN rk) id (ckAt ((0, ⟨1, sz, []⟩) :: newC g0 rk z 1)) := le0.keyed l1 fun _ _ _ _ e => e
 have Kp' := le.keyed l1 hinj
 have ckp : ∀ k (hk : k < 1 + newN rk), CkE r γ (1 + newN rk) (γ k) (ckAt ((o, ⟨1 + g, sz, []⟩) :: newC g0 rk z i) k) (ckAt ((0, ⟨1, sz, []⟩) :: newC g0 rk z 1) k) := fun k hk => by
  have hk1 : k < ((0, (⟨1, sz, []⟩ : Ck)) :: newC g0 rk z 1).length := by rw [l1]; exact hk
  have hk2 : k < ((o, (⟨1 + g, sz, []⟩ : Ck)) :: newC g0 rk z i).length := by rw [le.len]; exact hk1
  have := (le.nth k hk1 hk2).2.2
  rw [Nat.zero_add] at this
  simp only [ckAt, List.getD_eq_getElem?_getD, List.getElem?_eq_getElem hk1, List.getElem?_eq_getElem hk2, Option.getD_some]
  exact this
 refine ⟨CallOK.rename (r := r) (γ := γ) h hinj hold hnew hpre (fun q ck' ho => ?_) (fun j ck hj => ?_) ha (resV_rn (resD_rn rk z 1 i fun k hk => ⟨by omega, hr k hk⟩)) (fun j hj => ⟨_, Kp.get hj Hp.emp⟩), Kp'⟩
 ·obtain ⟨k, hk, rfl, rfl⟩ := Kp'.mem ho
  exact ⟨k, _, hk, rfl, Kp.get hk Hp.emp, ckp k hk⟩
 ·obtain ⟨k, hk, e, rfl⟩ := Kp.mem hj
  simp only [id] at e; subst e
  exact ⟨hk, _, Kp'.get hk Hp.emp⟩
def rdE (ts1 : List GT) (t : GT) (ts2 : List GT) (rk : List RK) (model : Els ts1 → List (El t) → Els ts2 → Option (Els (RK.tys rk))) : Ent := fun args H k => match decVs ts1 (args.take ts1.length), args.drop ts1.length with
 | some x, v :: r => match decVs ts2 r with
  | some y => match v with
   | .nil => Option.bind (model x [] y) fun z => k (resI (resIV rk z (H.length + 1))) (H ++ (none :: newI rk z)) [] (H.length :: numsFrom (H.length + 1) (newN rk)) []
   | v => match decOA (.a t) [v] H with
    | some (as, [o], []) => Option.bind (model x as y) fun z => k (resI (resIV rk z H.length)) (setH (killHs [o] H) o none ++ newI rk z) [o] (o :: numsFrom H.length (newN rk)) [o]
    | _ => none
  | none => none
 | _, _ => none
end Go.Pv
