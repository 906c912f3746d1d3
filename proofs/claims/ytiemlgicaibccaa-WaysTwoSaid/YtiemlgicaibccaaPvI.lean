/- ev_sound: what 'ev' computes on plain data, the model's operation does. No condition of its own: over any program. -/
import Derived.Test.YtiemlgicaibccaaPvH
set_option linter.all false
namespace Go.Pv
open Go.RowKit
section
variable {P : Program} {cx : Cx} {H : Hp} {ps : Ps} {nx : Nat} {w : World} {T : Nat → DV} {p : Bool} {a : Act}
theorem map1 {o : Option DV} {d : DV} {u : Up} (h : o.map (·, Up.no) = some (d, u)) : o = some d ∧ u = .no := by
 cases o with
 | none => cases h
 | some x => simp at h; exact ⟨by rw [h.1], h.2.symm⟩
theorem ofEx (k : Pre cx H ps nx w T p a) {s : Sem Value} {d : DV} (h : ∃ v, s.run P w = .ok v w ∧ VR H ps cx.M nx w d v) :
  Snd P cx H ps nx w ((do Pure.pure (Next.value (← s)) : Sem Next).run P w) d .no := by
 obtain ⟨v, h1, h2⟩ := h; exact k.val h1 h2
theorem ev_sound (k : Pre cx H ps nx w T p a) {ow : Bool} {o : Oper} {r : ROp} {d : DV} {u : Up} (hr : rop P ow o.op = some r) (he : ev r p T H nx = some (d, u)) :
  Snd P cx H ps nx w ((execOp a.eval o).run P w) d u := by
 obtain ⟨dst, op, type, pos, after, guard⟩ := o
 simp only at hr
 cases op with
 | move x =>
  simp only [rop] at hr
  cases h1 : ro x with
  | none => simp [h1] at hr
  | some x' =>
   simp [h1] at hr; subst hr
   simp only [ev, Option.some.injEq, Prod.mk.injEq] at he
   obtain ⟨rfl, rfl⟩ := he
   exact Snd.pure k.hr k.fr k.lb rfl (k.ro h1)
 | assign x =>
  simp only [rop] at hr
  cases h1 : ro x with
  | none => simp [h1] at hr
  | some x' =>
   simp [h1] at hr; subst hr
   simp only [ev, Option.some.injEq, Prod.mk.injEq] at he
   obtain ⟨rfl, rfl⟩ := he
   exact Snd.pure k.hr k.fr k.lb rfl (k.ro h1)
 | pick c x y =>
  simp only [rop] at hr
  split at hr
  ·rename_i c' x' y' h1 h2 h3
   injection hr with hr; subst hr
   simp only [ev] at he
   replace he := map1 he; obtain ⟨he, rfl⟩ := he
   have := pick_sound (P := P) (cx := cx) (H := H) (ps := ps) (nx := nx) (w := w) (a := a) k.hp k.t h1 h2 h3 he
   obtain ⟨v, hv1, hv2⟩ := this
   have q := ofEx k (s := (do Pure.pure (if ← asBool (a.eval c) then a.eval x else a.eval y))) ⟨v, hv1, hv2⟩
   obtain ⟨nv, v', w', ps', q1, q2⟩ := q
   refine ⟨nv, v', w', ps', ?_, q2⟩
   simpa [execOp] using q1
  ·cases hr
 | alloc e =>
  simp only [rop] at hr
  cases h1 : zeroOf P e with
  | none => simp [h1] at hr
  | some z =>
   simp [h1] at hr; subst hr
   simp only [ev, Option.some.injEq, Prod.mk.injEq] at he
   obtain ⟨rfl, rfl⟩ := he
   exact snd_alloc k h1
 | box e x =>
  simp only [rop] at hr
  cases h1 : ro x with
  | none => simp [h1] at hr
  | some x' =>
   simp [h1] at hr; subst hr
   simp only [ev] at he
   cases h2 : dcells (un p (x'.get T)) with
   | none => simp [h2] at he
   | some cs =>
    simp only [h2, Option.map_some, Option.some.injEq, Prod.mk.injEq] at he
    obtain ⟨rfl, rfl⟩ := he
    exact snd_box k h1 h2
 | build t parts =>
  have hr' : ∃ z rps, r = .build z rps ∧ rop P false (.build t parts) = some (.build z rps) := by
   simp only [rop] at hr ⊢
   split at hr
   ·split at hr
    ·rename_i places hpl
     cases hb : bparts (places.toArray[·]?) parts.toList with
     | none => simp only [hb, Option.map_none] at hr; cases hr
     | some q => simp only [hb, Option.map_some, Option.some.injEq] at hr ⊢; exact ⟨_, _, hr.symm, rfl⟩
    ·cases hr
   ·split at hr
    ·rename_i ie hie
     cases hb : bparts (fun i => some (i * ie.size, ie.size)) parts.toList with
     | none => simp only [hb, Option.map_none] at hr; cases hr
     | some q => simp only [hb, Option.map_some, Option.some.injEq] at hr ⊢; exact ⟨_, _, hr.symm, rfl⟩
    ·cases hr
   ·cases hr
  obtain ⟨z, rps, rfl, h0⟩ := hr'
  simp only [ev] at he
  cases h2 : fillP (fun x => un p (x.get T)) z rps with
  | none => simp [h2] at he
  | some cs =>
   simp only [h2, Option.map_some, Option.some.injEq, Prod.mk.injEq] at he
   obtain ⟨rfl, rfl⟩ := he
   exact snd_build k h0 h2
 | buildSlice t len parts =>
  simp only [rop] at hr
  split at hr
  ·rename_i e hu
   split at hr
   ·rename_i z n hz hn
    split at hr
    ·rename_i hc
     cases hs : sparts parts.toList with
     | none => simp only [hs, Option.map_none] at hr; cases hr
     | some rps =>
      simp only [hs, Option.map_some, Option.some.injEq] at hr; subst hr
      simp only [ev] at he
      cases h2 : bslP (fun x => un p (x.get T)) n (List.replicate len z) rps with
      | none => simp [h2] at he
      | some xs =>
       have := snd_bslice k hu hz hn hc.1 hc.2 hs h2 ow
       cases ow
       ·simp [h2] at he; obtain ⟨rfl, rfl⟩ := he; simpa [execOp] using this
       ·simp [h2] at he; obtain ⟨rfl, rfl⟩ := he; simpa [execOp] using this
    ·cases hr
   ·cases hr
  ·cases hr
 | load t x =>
  simp only [rop] at hr
  split at hr
  ·rename_i ag n x' h1 h2 h3
   split at hr
   ·rename_i hc
    injection hr with hr; subst hr
    simp only [ev] at he
    replace he := map1 he; obtain ⟨he, rfl⟩ := he
    exact ofEx k (load_sound k.hr h1 h2 hc he (k.ro h3))
   ·cases hr
  ·cases hr
 | store t x y =>
  simp only [rop] at hr
  split at hr
  ·rename_i n x' y' h1 h2 h3
   injection hr with hr; subst hr
   simp only [ev] at he
   cases h4 : storeV H n (un p (x'.get T)) (un p (y'.get T)) with
   | none => simp [h4] at he
   | some u' =>
    simp only [h4, Option.map_some, Option.some.injEq, Prod.mk.injEq] at he
    obtain ⟨rfl, rfl⟩ := he
    exact snd_store k h1 h2 h3 h4
  ·cases hr
 | nilCheck x =>
  simp only [rop] at hr
  cases h1 : ro x with
  | none => simp [h1] at hr
  | some x' =>
   simp [h1] at hr; subst hr
   exact snd_nilck k h1 he _ rfl
 | binOp op t x y yt =>
  simp only [rop] at hr
  split at hr
  ·rename_i x' y' h1 h2
   split at hr
   ·rename_i fs hu
    split at hr
    ·rename_i offs hf
     split at hr
     ·cases hr
     ·rename_i hg
      injection hr with hr; subst hr
      simp only [ev] at he
      split at he
      ·rename_i cs ds e1 e2
       cases h3 : cellsEq cs ds offs with
       | none => simp [h3] at he
       | some b =>
        simp only [h3, Option.map_some, Option.some.injEq, Prod.mk.injEq] at he
        obtain ⟨rfl, rfl⟩ := he
        have hx := k.ro h1; have hy := k.ro h2
        rw [e1] at hx; rw [e2] at hy
        exact ofEx k ⟨_, eqa_sound (neg := false) hu hf (by simpa using hg) h3 hx hy x y, .v _⟩
      ·cases he
    ·rename_i offs hf
     split at hr
     ·cases hr
     ·rename_i hg
      injection hr with hr; subst hr
      simp only [ev] at he
      split at he
      ·rename_i cs ds e1 e2
       cases h3 : cellsEq cs ds offs with
       | none => simp [h3] at he
       | some b =>
        simp only [h3, Option.map_some, Option.some.injEq, Prod.mk.injEq] at he
        obtain ⟨rfl, rfl⟩ := he
        have hx := k.ro h1; have hy := k.ro h2
        rw [e1] at hx; rw [e2] at hy
        exact ofEx k ⟨_, eqa_sound (neg := true) hu hf (by simpa using hg) h3 hx hy x y, .v _⟩
      ·cases he
    ·cases hr
   ·rename_i hu
    split at hr
    ·injection hr with hr; subst hr
     simp only [ev] at he
     replace he := map1 he; obtain ⟨he, rfl⟩ := he
     exact ofEx k (beq_sound (neg := false) hu he (k.ro h1) (k.ro h2) x y)
    ·injection hr with hr; subst hr
     simp only [ev] at he
     replace he := map1 he; obtain ⟨he, rfl⟩ := he
     exact ofEx k (beq_sound (neg := true) hu he (k.ro h1) (k.ro h2) x y)
    ·cases hr
   ·rename_i ms hu
    have hnil : isNilC y = true → y = .const .nilIface := fun h => by
     unfold isNilC at h; split at h
     ·rfl
     ·cases h
    split at hr
    ·split at hr
     ·rename_i hy
      injection hr with hr; subst hr
      simp only [ev] at he
      replace he := map1 he; obtain ⟨he, rfl⟩ := he
      rw [hnil hy]
      exact ofEx k (isn_sound (neg := false) hu he (k.ro h1) x)
     ·cases hr
    ·split at hr
     ·rename_i hy
      injection hr with hr; subst hr
      simp only [ev] at he
      replace he := map1 he; obtain ⟨he, rfl⟩ := he
      rw [hnil hy]
      exact ofEx k (isn_sound (neg := true) hu he (k.ro h1) x)
     ·cases hr
    ·cases hr
   ·have hrb : r = .bin op x' y' := by
     injection hr with hr; exact hr.symm
    subst hrb
    simp only [ev] at he
    replace he := map1 he; obtain ⟨he, rfl⟩ := he
    exact ofEx k (bin_sound he (k.ro h1) (k.ro h2) t x y)
  ·cases hr
 | unOp op t x =>
  simp only [rop] at hr
  cases h1 : ro x with
  | none => simp [h1] at hr
  | some x' =>
   simp [h1] at hr; subst hr
   simp only [ev] at he
   replace he := map1 he; obtain ⟨he, rfl⟩ := he
   exact ofEx k (un_op_sound he (k.ro h1))
 | convert src dst x =>
  simp only [rop] at hr
  split at hr
  ·rename_i k' x' ds hu h1 hds
   injection hr with hr; subst hr
   simp only [ev] at he
   split at he
   ·rename_i kk n hd
    simp only [Option.some.injEq, Prod.mk.injEq] at he
    obtain ⟨rfl, rfl⟩ := he
    have hx := k.ro h1
    rw [hd] at hx
    refine ofEx k ⟨_, ?_, .v _⟩
    rw [hx.v_inv]
    simp [convert, run_underlying hu, run_underlying hds, Conv.intToInt]
   ·cases he
  ·rename_i e' x' hu h1 hds
   split at hr
   ·rename_i hu8
    injection hr with hr; subst hr
    exact snd_s2b k hds hu (isU8_eq hu8) h1 he
   ·cases hr
  ·rename_i e' x' hu h1 hds
   split at hr
   ·rename_i hu8
    injection hr with hr; subst hr
    exact snd_b2s k hds hu (isU8_eq hu8) h1 he
   ·cases hr
  ·cases hr
 | fieldAddr t x i =>
  simp only [rop] at hr
  split at hr
  ·rename_i fs x' hu h1
   split at hr
   ·rename_i f hf
    split at hr
    ·rename_i n hn
     split at hr
     ·rename_i h0
      injection hr with hr; subst hr
      exact snd_fadr k hu hf hn h0 h1 he
     ·cases hr
    ·cases hr
   ·cases hr
  ·cases hr
 | field t x i =>
  simp only [rop] at hr
  split at hr
  ·rename_i fs x' hu h1
   split at hr
   ·rename_i f hf
    split at hr
    ·rename_i ag n hag hn
     split at hr
     ·rename_i h0
      injection hr with hr; subst hr
      simp only [ev] at he
      split at he
      ·rename_i cs hd
       split at he
       ·rename_i hb
        have hx := k.ro h1
        rw [hd] at hx
        obtain ⟨vs, hval, hl, ho, hv⟩ := hx.agg_inv
        have hd' : (if ag then some (.agg ((cs.drop f.offset).take n)) else (cs.drop f.offset).head?) = some d ∧ u = .no := by
         cases ag
         ·simp only [Bool.false_eq_true, if_false] at he ⊢; exact map1 he
         ·simp only [if_true, Option.some.injEq, Prod.mk.injEq] at he ⊢; exact ⟨he.1, he.2.symm⟩
        obtain ⟨hd', rfl⟩ := hd'
        obtain ⟨v, r1, r2⟩ := part_sound (P := P) hag hn h0 hl ho hv hb hd'
        refine ofEx k ⟨v, ?_, r2⟩
        rw [hval]
        simp [Instr.field, run_underlying hu, hf, asAgg, r1]
       ·cases he
      ·cases he
     ·cases hr
    ·cases hr
   ·cases hr
  ·cases hr
 | indexAddr t x i =>
  simp only [rop] at hr
  split at hr
  ·rename_i e x' i' hu h1 h2
   split at hr
   ·rename_i n hn
    injection hr with hr; subst hr
    exact snd_idx k hu hn h1 h2 he
   ·cases hr
  ·rename_i len e x' i' hu h1 h2
   split at hr
   ·rename_i n hn
    injection hr with hr; subst hr
    exact snd_iadrA k hu hn h1 h2 he
   ·cases hr
  ·cases hr
 | index t x i =>
  simp only [rop] at hr
  split at hr
  ·rename_i len e x' i' hu h1 h2
   split at hr
   ·rename_i ag n hag hn
    split at hr
    ·rename_i h0
     injection hr with hr; subst hr
     simp only [ev] at he
     split at he
     ·rename_i cs kk m hd hdi
      split at he
      ·rename_i hb
       obtain ⟨c1, c2, c3⟩ := hb
       have hx := k.ro h1; have hi := k.ro h2
       rw [hd] at hx; rw [hdi] at hi
       obtain ⟨q, rfl⟩ := Int.eq_ofNat_of_zero_le c1
       simp only [Int.toNat_natCast] at c3 he
       obtain ⟨vs, hval, hl, ho, hv⟩ := hx.agg_inv
       have hd' : (if ag then some (.agg ((cs.drop (q * n)).take n)) else (cs.drop (q * n)).head?) = some d ∧ u = .no := by
        cases ag
        ·simp only [Bool.false_eq_true, if_false] at he ⊢; exact map1 he
        ·simp only [if_true, Option.some.injEq, Prod.mk.injEq] at he ⊢; exact ⟨he.1, he.2.symm⟩
       obtain ⟨hd', rfl⟩ := hd'
       obtain ⟨v, r1, r2⟩ := part_sound (P := P) hag hn h0 hl ho hv c3 hd'
       refine ofEx k ⟨v, ?_, r2⟩
       rw [hval, hi.v_inv]
       simp only [Instr.index, asIntOf, Sem.run_bind, Sem.run_pure, Result.andThen_ok, run_underlying hu]
       rw [if_pos ⟨Int.natCast_nonneg q, c2⟩]
       simp [run_sizeT hn, r1]
      ·cases he
     ·cases he
    ·cases hr
   ·cases hr
  ·rename_i x' i' hu h1 h2
   injection hr with hr; subst hr
   simp only [ev] at he
   replace he := map1 he; obtain ⟨he, rfl⟩ := he
   exact ofEx k (sidx_sound hu he (k.ro h1) (k.ro h2))
  ·cases hr
 | slice t x lo hi mx =>
  cases mx with
  | some m => simp [rop] at hr
  | none =>
   have key : ∃ x' lo' hi', ro x = some x' ∧ ((∃ e n, P.underlying t = some (.slice e) ∧ sizeT P e = some n ∧ r = .slc n x' lo' hi') ∨ (P.underlying t = some .string ∧ r = .sslc x' lo' hi')) ∧
     ((lo = none ∧ lo' = none) ∨ ∃ y y', lo = some y ∧ lo' = some y' ∧ ro y = some y') ∧ ((hi = none ∧ hi' = none) ∨ ∃ y y', hi = some y ∧ hi' = some y' ∧ ro y = some y') := by
    simp only [rop] at hr
    split at hr
    ·rename_i e x' hu h1
     split at hr
     ·rename_i n hn
      cases lo with
      | none =>
       cases hi with
       | none => simp only [Option.some.injEq] at hr; exact ⟨x', none, none, h1, .inl ⟨e, n, hu, hn, hr.symm⟩, .inl ⟨rfl, rfl⟩, .inl ⟨rfl, rfl⟩⟩
       | some h =>
        cases h2 : ro h with
        | none => simp [h2] at hr
        | some h' => simp [h2] at hr; exact ⟨x', none, some h', h1, .inl ⟨e, n, hu, hn, hr.symm⟩, .inl ⟨rfl, rfl⟩, .inr ⟨_, _, rfl, rfl, h2⟩⟩
      | some l =>
       cases hi with
       | none =>
        cases h2 : ro l with
        | none => simp [h2] at hr
        | some l' => simp [h2] at hr; exact ⟨x', some l', none, h1, .inl ⟨e, n, hu, hn, hr.symm⟩, .inr ⟨_, _, rfl, rfl, h2⟩, .inl ⟨rfl, rfl⟩⟩
       | some h =>
        simp only at hr
        cases h2 : ro l with
        | none => simp [h2] at hr
        | some l' =>
         cases h3 : ro h with
         | none => simp [h2, h3] at hr
         | some h' => simp [h2, h3] at hr; exact ⟨x', some l', some h', h1, .inl ⟨e, n, hu, hn, hr.symm⟩, .inr ⟨_, _, rfl, rfl, h2⟩, .inr ⟨_, _, rfl, rfl, h3⟩⟩
     ·cases hr
    ·rename_i x' hu h1
     cases lo with
     | none =>
      cases hi with
      | none => simp only [Option.some.injEq] at hr; exact ⟨x', none, none, h1, .inr ⟨hu, hr.symm⟩, .inl ⟨rfl, rfl⟩, .inl ⟨rfl, rfl⟩⟩
      | some h =>
       cases h2 : ro h with
       | none => simp [h2] at hr
       | some h' => simp [h2] at hr; exact ⟨x', none, some h', h1, .inr ⟨hu, hr.symm⟩, .inl ⟨rfl, rfl⟩, .inr ⟨_, _, rfl, rfl, h2⟩⟩
     | some l =>
      cases hi with
      | none =>
       cases h2 : ro l with
       | none => simp [h2] at hr
       | some l' => simp [h2] at hr; exact ⟨x', some l', none, h1, .inr ⟨hu, hr.symm⟩, .inr ⟨_, _, rfl, rfl, h2⟩, .inl ⟨rfl, rfl⟩⟩
      | some h =>
       simp only at hr
       cases h2 : ro l with
       | none => simp [h2] at hr
       | some l' =>
        cases h3 : ro h with
        | none => simp [h2, h3] at hr
        | some h' => simp [h2, h3] at hr; exact ⟨x', some l', some h', h1, .inr ⟨hu, hr.symm⟩, .inr ⟨_, _, rfl, rfl, h2⟩, .inr ⟨_, _, rfl, rfl, h3⟩⟩
    ·cases hr
   obtain ⟨x', lo', hi', h1, hor, hlo, hhi⟩ := key
   have conv : ∀ {q : Option Operand} {q' : Option RO}, ((q = none ∧ q' = none) ∨ ∃ y y', q = some y ∧ q' = some y' ∧ ro y = some y') →
     ((q'.map fun x => un p (x.get T)) = none ∧ (q.map a.eval) = none) ∨ ∃ x y, (q'.map fun x => un p (x.get T)) = some x ∧ (q.map a.eval) = some y ∧ VR H ps cx.M nx w x y := by
    intro q q' h
    rcases h with ⟨rfl, rfl⟩ | ⟨y, y', rfl, rfl, h⟩
    ·exact .inl ⟨rfl, rfl⟩
    ·exact .inr ⟨_, _, rfl, rfl, k.ro h⟩
   rcases hor with ⟨e, n, hu, hn, rfl⟩ | ⟨hu, rfl⟩
   ·simp only [ev] at he
    replace he := map1 he; obtain ⟨he, rfl⟩ := he
    exact ofEx k (slc_sound k.hr hu hn he (k.ro h1) (conv hlo) (conv hhi))
   ·simp only [ev] at he
    replace he := map1 he; obtain ⟨he, rfl⟩ := he
    exact ofEx k (sslc_sound hu he (k.ro h1) (conv hlo) (conv hhi))
 | makeSlice t x y =>
  simp only [rop] at hr
  split at hr
  ·rename_i e x' y' hu h1 h2
   split at hr
   ·rename_i i z hi hz
    split at hr
    ·rename_i h0
     injection hr with hr; subst hr
     exact snd_mksl k hu hi hz h0 h1 h2 he
    ·cases hr
   ·cases hr
  ·cases hr
 | extract x i =>
  simp only [rop] at hr
  cases h1 : ro x with
  | none => simp [h1] at hr
  | some x' =>
   simp [h1] at hr; subst hr
   simp only [ev] at he
   split at he
   ·rename_i vs hd
    replace he := map1 he; obtain ⟨he, rfl⟩ := he
    have hx := k.ro h1
    rw [hd] at hx
    obtain ⟨us, hval, hl, hv⟩ := hx.tup_inv
    obtain ⟨hi, rfl⟩ := List.getElem?_eq_some_iff.1 he
    refine ofEx k ⟨us.getD i undef, ?_, hv i hi⟩
    rw [hval]
    have hi' : i < us.size := by omega
    simp [Instr.extract, hi', Array.getD]
   ·cases he
 | makeFunc fn first captured =>
  cases fn with
  | func f =>
   simp only [rop] at hr
   split at hr
   ·rename_i h0
    cases h1 : ros captured.toList with
    | none => simp [h1] at hr
    | some rs =>
     simp [h1] at hr; subst hr
     simp only [ev, Option.some.injEq, Prod.mk.injEq] at he
     obtain ⟨rfl, rfl⟩ := he
     obtain ⟨r1, r2⟩ := ros_sound (a := a) (cx := cx) k.hp k.t captured.toList rs h1
     refine ofEx k ⟨.func (.func f) #[] (captured.map a.eval), ?_, ?_⟩
     ·have : first = #[] := by simpa using h0
      simp [Instr.makeFunc, this]
     ·refine .fn _ _ _ (by simp [r1]) fun j hj => ?_
      have hj' : j < captured.size := by simp [r1] at hj; exact hj
      have := r2 j (by simpa using hj) (by simpa using hj')
      simpa [Array.getD, hj'] using this
   ·cases hr
  | _ => simp [rop] at hr
 | call c =>
  obtain ⟨callee, args, argTypes⟩ := c
  cases callee with
  | value f =>
   simp only [rop] at hr
   split at hr
   ·injection hr with hr; subst hr; simp [ev] at he
   ·cases hr
  | invoke r m => simp [rop] at hr
  | builtin b =>
   cases b with
   | len =>
    simp only [rop] at hr
    split at hr
    ·rename_i x t hax hat
     have hargs : args = #[x] := by rw [← Array.toArray_toList (xs := args), hax]
     have htys : argTypes = #[t] := by rw [← Array.toArray_toList (xs := argTypes), hat]
     subst hargs; subst htys
     split at hr
     ·rename_i n e hu
      injection hr with hr; subst hr
      simp only [ev, Option.some.injEq, Prod.mk.injEq] at he
      obtain ⟨rfl, rfl⟩ := he
      refine (ofEx k (s := Builtin.len_ #[t] type #[a.eval x]) ⟨.int .i64 n, ?_, .v _⟩ : Snd P cx H ps nx w _ _ _) |> fun q => by simpa [execOp, resolve, invoke, builtin, I] using q
      simp [Builtin.len_, run_underlying hu, goInt]
     ·rename_i e hu
      cases h1 : ro x with
      | none => simp [h1] at hr
      | some x' =>
       simp [h1] at hr; subst hr
       simp only [ev] at he
       replace he := map1 he; obtain ⟨he, rfl⟩ := he
       obtain ⟨b, n, c, hval, rfl⟩ := len_sound he (k.ro h1)
       refine (ofEx k (s := Builtin.len_ #[t] type #[a.eval x]) ⟨.int .i64 n, ?_, .v _⟩ : Snd P cx H ps nx w _ _ _) |> fun q => by simpa [execOp, resolve, invoke, builtin, I] using q
       rw [hval]; simp [Builtin.len_, run_underlying hu, goInt]
     ·rename_i hu
      cases h1 : ro x with
      | none => simp [h1] at hr
      | some x' =>
       simp [h1] at hr; subst hr
       simp only [ev] at he
       replace he := map1 he; obtain ⟨he, rfl⟩ := he
       obtain ⟨s, hval, rfl⟩ := lens_sound he (k.ro h1)
       refine (ofEx k (s := Builtin.len_ #[t] type #[a.eval x]) ⟨.int .i64 s.size, ?_, .v _⟩ : Snd P cx H ps nx w _ _ _) |> fun q => by simpa [execOp, resolve, invoke, builtin, I] using q
       rw [hval]; simp [Builtin.len_, run_underlying hu, goInt]
     ·cases hr
    ·cases hr
   | clear =>
    simp only [rop] at hr
    split at hr
    ·rename_i x t hax hat
     have hargs : args = #[x] := by rw [← Array.toArray_toList (xs := args), hax]
     have htys : argTypes = #[t] := by rw [← Array.toArray_toList (xs := argTypes), hat]
     subst hargs; subst htys
     split at hr
     ·rename_i e hu
      split at hr
      ·rename_i i z x' hi hz h1
       split at hr
       ·rename_i h0
        injection hr with hr; subst hr
        have q := snd_clr (ty := type) k hu hi hz h0 h1 he
        simpa [execOp, resolve, invoke, builtin] using q
       ·cases hr
      ·cases hr
     ·cases hr
    ·cases hr
   | append =>
    simp only [rop] at hr
    split at hr
    ·rename_i s x t t' hax hat
     have hargs : args = #[s, x] := by rw [← Array.toArray_toList (xs := args), hax]
     have htys : argTypes = #[t, t'] := by rw [← Array.toArray_toList (xs := argTypes), hat]
     subst hargs; subst htys
     split at hr
     ·rename_i htt
      subst htt
      split at hr
      ·rename_i e hu
       split at hr
       ·rename_i i z s' x' hi hz h1 h2
        split at hr
        ·rename_i h0
         injection hr with hr; subst hr
         simp only [ev] at he
         obtain ⟨i', v, q1, hzv, hs, hl, hva⟩ := k.va hz
         rw [hi] at q1; injection q1 with q1; subst q1
         have := app_sound (P := P) k.hr k.fr k.lb t type e i v hu hi hzv h0 hs he (k.ro h1) (k.ro h2)
         have q := Snd.of_v this
         simpa [execOp, resolve, invoke, builtin] using q
        ·cases hr
       ·cases hr
      ·cases hr
     ·cases hr
    ·cases hr
   | max =>
    simp only [rop] at hr
    cases h1 : ros args.toList with
    | none => simp [h1] at hr
    | some rs =>
     simp [h1] at hr; subst hr
     obtain ⟨r1, r2⟩ := ros_sound (a := a) (cx := cx) k.hp k.t args.toList rs h1
     simp only [ev] at he
     cases rs with
     | nil => simp at he
     | cons y ys =>
      simp only [List.map_cons] at he
      replace he := map1 he; obtain ⟨he, rfl⟩ := he
      cases hax : args.toList with
      | nil => rw [hax] at r1; simp at r1
      | cons x xs =>
       have hargs : args = (x :: xs).toArray := by rw [← hax]
       subst hargs
       obtain ⟨v, hv1, hv2⟩ := mmL_sound (P := P) (mx := true) (ys.map fun x => un p (x.get T)) (xs.map a.eval) _ d (a.eval x) he (by simp at r1 ⊢; exact r1) (r2 0 (by simp) (by simp))
        (fun j h1 h2 => by
         have := r2 (j + 1) (by simp at h1 ⊢; exact h1) (by simp at h2 ⊢; exact h2)
         simpa using this)
       refine (ofEx k (s := Builtin.max_ argTypes type ((x :: xs).toArray.map a.eval)) ⟨v, ?_, hv2⟩ : Snd P cx H ps nx w _ _ _) |> fun q => by simpa [execOp, resolve, invoke, builtin, I] using q
       simpa [Builtin.max_] using hv1
   | min =>
    simp only [rop] at hr
    cases h1 : ros args.toList with
    | none => simp [h1] at hr
    | some rs =>
     simp [h1] at hr; subst hr
     obtain ⟨r1, r2⟩ := ros_sound (a := a) (cx := cx) k.hp k.t args.toList rs h1
     simp only [ev] at he
     cases rs with
     | nil => simp at he
     | cons y ys =>
      simp only [List.map_cons] at he
      replace he := map1 he; obtain ⟨he, rfl⟩ := he
      cases hax : args.toList with
      | nil => rw [hax] at r1; simp at r1
      | cons x xs =>
       have hargs : args = (x :: xs).toArray := by rw [← hax]
       subst hargs
       obtain ⟨v, hv1, hv2⟩ := mmL_sound (P := P) (mx := false) (ys.map fun x => un p (x.get T)) (xs.map a.eval) _ d (a.eval x) he (by simp at r1 ⊢; exact r1) (r2 0 (by simp) (by simp))
        (fun j h1 h2 => by
         have := r2 (j + 1) (by simp at h1 ⊢; exact h1) (by simp at h2 ⊢; exact h2)
         simpa using this)
       refine (ofEx k (s := Builtin.min_ argTypes type ((x :: xs).toArray.map a.eval)) ⟨v, ?_, hv2⟩ : Snd P cx H ps nx w _ _ _) |> fun q => by simpa [execOp, resolve, invoke, builtin, I] using q
       simpa [Builtin.min_] using hv1
   | _ => simp [rop] at hr
 | _ => simp [rop] at hr
end
end Go.Pv
