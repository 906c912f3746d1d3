/- Every resolved operation is sound: the joined theorem ev_sound. No condition of its own: lemmas over any program. -/
import Derived.Test.YtiemlgicaibccaaPvF
set_option linter.all false
namespace Go.Pv
open Go.RowKit
section
variable {P : Program} {cx : Cx} {H : Hp} {ps : Ps} {nx : Nat} {w : World} {T : Nat → DV} {p : Bool} {a : Act}
structure Pre (cx : Cx) (H : Hp) (ps : Ps) (nx : Nat) (w : World) (T : Nat → DV) (p : Bool) (a : Act) : Prop where
 hr : HR H ps cx.M nx w
 fr : Fr cx.B cx.w0 w
 lb : ∀ o ck p, H o = some ck → ps o = some p → cx.B p.b ∨ cx.w0.heap.size ≤ p.b
 hp : p = true
 t : ∀ t, VR H ps cx.M nx w (T t) (a.tmps.getD t undef)
theorem Pre.ro (k : Pre cx H ps nx w T p a) {x : Operand} {r : RO} (h : Pv.ro x = some r) : VR H ps cx.M nx w (un p (r.get T)) (a.eval x) := ro_un k.hp h k.t
theorem Pre.val (k : Pre cx H ps nx w T p a) {s : Sem Value} {d : DV} {v : Value} (h : s.run P w = .ok v w) (hv : VR H ps cx.M nx w d v) :
  Snd P cx H ps nx w ((do Pure.pure (Next.value (← s)) : Sem Next).run P w) d .no := Snd.of_v (SndV.pure k.hr k.fr k.lb h hv)
theorem Pre.va (k : Pre cx H ps nx w T p a) {P : Program} {t : TypeId} {z : List DV} (h : zeroOf P t = some z) : ∃ i v, P.info? t = some i ∧ i.zero = some v ∧ v.cells.size = i.size ∧ z.length = i.size ∧ VA H ps cx.M nx w z v.cells := by
 obtain ⟨i, v, h1, h2, h3, h4, h5, h6⟩ := zeroOf_sound h
 refine ⟨i, v, h1, h2, h3, h4, by rw [h4, h3], fun j hj => h6 j (by omega), fun j hj => ?_⟩
 subst h5; exact ofC_cells v.cells j hj
theorem snd_box (k : Pre cx H ps nx w T p a) {e : TypeId} {x : Operand} {x' : RO} {cs : List DV} (h1 : Pv.ro x = some x') (h2 : dcells (un p (x'.get T)) = some cs) :
  Snd P cx H ps nx w ((do Pure.pure (Next.value (← Instr.box e (a.eval x))) : Sem Next).run P w) (.ptr nx 0 0 0) (.al ⟨0, cs.length, [cs]⟩) := by
 obtain ⟨d1, d2, d3⟩ := dcells_sound h2 (k.ro h1)
 obtain ⟨m1, m2⟩ := Mv.box (cx := cx) cs (a.eval x).cells e k.hr k.fr k.lb d1 d2 d3
 refine Snd.of_v ⟨_, _, _, ?_, m2, m1⟩
 simp only [Instr.box, newVar, Sem.run_bind, newRow_run, Result.andThen_ok, Sem.run_pure]
theorem snd_alloc (k : Pre cx H ps nx w T p a) {e : TypeId} {z : List DV} (h1 : zeroOf P e = some z) :
  Snd P cx H ps nx w ((do Pure.pure (Next.value (← Instr.alloc e true (.tuple #[]))) : Sem Next).run P w) (.ptr nx 0 0 0) (.al ⟨0, z.length, [z]⟩) := by
 obtain ⟨i, v, hi, hz, hs, hl, hva⟩ := k.va h1
 obtain ⟨m1, m2⟩ := Mv.box (cx := cx) z v.cells e k.hr k.fr k.lb hva.l hva.o hva.r
 refine Snd.of_v ⟨_, _, _, ?_, m2, m1⟩
 simp only [Instr.alloc, zeroValue, typeInfo, newVar, Sem.run_bind, run_program, Result.andThen_ok, hi, Sem.run_pure, hz, newRow_run]
theorem snd_build (k : Pre cx H ps nx w T p a) {t : TypeId} {parts : Array (Nat × Operand)} {z cs : List DV} {rps : List (Nat × Nat × RO)} (h0 : rop P false (.build t parts) = some (.build z rps))
  (h2 : fillP (fun x => un p (x.get T)) z rps = some cs) :
  Snd P cx H ps nx w ((do Pure.pure (Next.value (← Instr.build t (parts.map fun (i, x) => (i, a.eval x)))) : Sem Next).run P w) (.agg cs) .no := by
 simp only [rop] at h0
 cases hz : zeroOf P t with
 | none => simp [hz] at h0
 | some z' =>
  obtain ⟨i, v, hi, hzv, hs, hl, hva⟩ := k.va hz
  have hpm : (parts.map fun (i, x) => (i, a.eval x)).toList = parts.toList.map fun x => (x.1, a.eval x.2) := by simp
  cases hu : P.underlying t with
  | none => simp [hz, hu] at h0
  | some d =>
   cases d <;> simp only [hz, hu] at h0 <;> try (cases h0; done)
   case array n e =>
    cases hie : P.info? e with
    | none => simp [hie] at h0
    | some ie =>
     simp only [hie] at h0
     cases hb : bparts (fun i => some (i * ie.size, ie.size)) parts.toList with
     | none => simp only [hb, Option.map_none] at h0; cases h0
     | some r =>
      simp only [hb, Option.map_some, Option.some.injEq, ROp.build.injEq] at h0; obtain ⟨rfl, rfl⟩ := h0
      obtain ⟨out, ho, hov⟩ := fill_sound k.hp k.t _ parts.toList r z' cs v.cells hb hva h2
      refine k.val (run_build w t _ out ?_) hov.agg
      simp only [Program.built, hi, hu, hzv, hie]
      rw [hpm]; exact ho
   case struct fs =>
    cases hpl : fs.toList.mapM (fun f => (P.info? f.type).map fun i => (f.offset, i.size)) with
    | none => simp [hpl] at h0
    | some places =>
     simp only [hpl] at h0
     cases hb : bparts (places.toArray[·]?) parts.toList with
     | none => simp only [hb, Option.map_none] at h0; cases h0
     | some r =>
      simp only [hb, Option.map_some, Option.some.injEq, ROp.build.injEq] at h0; obtain ⟨rfl, rfl⟩ := h0
      obtain ⟨out, ho, hov⟩ := fill_sound k.hp k.t _ parts.toList r z' cs v.cells hb hva h2
      refine k.val (run_build w t _ out ?_) hov.agg
      simp only [Program.built, hi, hu, hzv, hpl]
      rw [hpm]; exact ho
theorem snd_bslice (k : Pre cx H ps nx w T p a) {t e : TypeId} {len n : Nat} {parts : Array (Nat × Operand)} {z : List DV} {rps : List (Nat × RO)} {xs : List (List DV)} (hu : P.underlying t = some (.slice e))
  (hz : zeroOf P e = some z) (hn : sizeT P e = some n) (h0 : 0 < n) (hlen : len * n ≤ 2 ^ 24) (hsp : sparts parts.toList = some rps) (h : bslP (fun x => un p (x.get T)) n (List.replicate len z) rps = some xs) (ow : Bool) :
  Snd P cx H ps nx w ((do Pure.pure (Next.value (← Instr.buildSlice t len (parts.map fun (i, x) => (i, a.eval x)))) : Sem Next).run P w) (if ow then .own nx 0 0 len else .lst true xs) (if ow then .al ⟨0, n, xs⟩ else .no) := by
 obtain ⟨i, v, hi, hzv, hs, hl, hva⟩ := k.va hz
 have hni : i.size = n := by unfold sizeT at hn; simpa [hi] using hn
 have hzz : z = v.cells.toList.map ofC := by
  obtain ⟨i', v', q1, q2, _, _, q5, _⟩ := zeroOf_sound hz
  rw [hi] at q1; injection q1 with q1; subst q1; rw [hzv] at q2; injection q2 with q2; subst q2; exact q5
 have hrow := zeroRow_va (H := H) (ps := ps) (M := cx.M) (nx := nx) (w := w) v n len (by omega) h0 (fun j hj => by have := hva.o j (by rw [← hva.l]; exact hj); exact this)
 rw [← hzz] at hrow
 have hzl : ∀ c ∈ List.replicate len z, c.length = n := fun c hc => by rw [List.eq_of_mem_replicate hc]; omega
 obtain ⟨k1, k2, k3⟩ := bslP_fill (fun x => un p (x.get T)) n rps (List.replicate len z) xs hzl h
 obtain ⟨out, ho, hov⟩ := fill_sound k.hp k.t (fun i => some (i * n, n)) parts.toList _ _ _ _ (sparts_bparts n parts.toList rps hsp) hrow k3
 have hxl : xs.length = len := by rw [k2]; simp
 have hfl := hov.fl k1
 have hpm : (parts.map fun (i, x) => (i, a.eval x)).toList = parts.toList.map fun x => (x.1, a.eval x.2) := by simp
 have hrun : (Instr.buildSlice t len (parts.map fun (i, x) => (i, a.eval x))).run P w = .ok (.slice (some ⟨w.heap.size, 0, none⟩) len len) (w.alloc (.cells out e)) := by
  have hcells : Instr.fill (fun i => some (i * n, n)) ((Array.range (len * n)).map ((if len * n = 0 then #[] else v.cells)[· % (if len * n = 0 then #[] else v.cells).size]!)) (parts.toList.map fun x => (x.1, a.eval x.2)) = some out := by
   by_cases hz0 : len * n = 0
   ·rw [if_pos hz0]
    rw [← ho]; congr 1
    rw [hz0]; simp
   ·rw [if_neg hz0]; exact ho
  have hgt : ¬ (16777216 < len * n) := by simpa using hlen
  simp only [Instr.buildSlice, Sem.run_bind, run_underlying hu, Result.andThen_ok, run_sizeT hn]
  rw [if_neg (by simpa using hlen)]
  by_cases hz0 : len * n = 0
  ·simp only [hz0, if_true] at hcells ⊢
   simp only [Sem.run_bind, Sem.run_pure, Result.andThen_ok]
   rw [hpm]
   simp only [hcells, Sem.run_bind, newRow_run, Result.andThen_ok, Sem.run_pure]
  ·simp only [hz0, if_false] at hcells ⊢
   simp only [Sem.run_bind, zeroValue, typeInfo, run_program, hi, hzv, Sem.run_pure, Result.andThen_ok]
   rw [hpm]
   simp only [hcells, Sem.run_bind, newRow_run, Result.andThen_ok, Sem.run_pure]
 have hsz : out.size = len * n := by rw [hov.l, (flatten_get k1).1, hxl]
 cases ow with
 | true =>
  simp only [if_true]
  have hm := Mv.al (cx := cx) ⟨0, n, xs⟩ out e (fun i j => out.toList.getD (i * n + j) undef) k.hr k.fr k.lb hfl.z (by simp only [hxl, hsz]; exact Nat.le_refl _)
   (fun i j hi hj => ⟨(hfl.get hi hj).2, by have := (hfl.get hi hj).1; simpa using this⟩) hfl.r
  refine Snd.of_v ⟨_, _, _, hrun, ?_, hm⟩
  refine .own _ _ _ _ _ (by simp [Up.nx]) ⟨_, _, rfl⟩ fun ck' hck' => ?_
  simp only [Up.hp, Hp.put_same, Option.some.injEq] at hck'; subst hck'
  exact ⟨Nat.le_refl _, fun _ => ⟨by simp [hxl], _, _, rfl, Nat.le_refl _, .inr ⟨_, Ps.put_same .., by simp, by simp [hsz]⟩⟩⟩
 | false =>
  simp only [Bool.false_eq_true, if_false]
  have hg := Grew.alloc w (.cells out e)
  refine Snd.of_v ⟨_, _, ps, hrun, ?_, Mv.grew k.hr k.fr k.lb hg⟩
  by_cases hne : xs = []
  ·subst hne
   have : len = 0 := by rw [← hxl]; rfl
   subst this
   exact .lnil true _ 0 fun _ => rfl
  ·have := (hfl.mono (Kp.grew hg)).lst_new h0 hne w.heap.size len out e (by show (w.heap.push _)[w.heap.size]? = _; simp) (not_mu_new k.hr _ (Nat.le_refl _)) (by omega) true (fun _ => hxl.symm) (fun q v hq => by simpa using hq)
   rw [hxl] at this; exact this
theorem snd_store (k : Pre cx H ps nx w T p a) {t : TypeId} {n : Nat} {x y : Operand} {x' y' : RO} {u : Up} (hn : sizeT P t = some n) (h1 : Pv.ro x = some x') (h2 : Pv.ro y = some y')
  (h : storeV H n (un p (x'.get T)) (un p (y'.get T)) = some u) :
  Snd P cx H ps nx w ((do Instr.storeAt t (a.eval x) (a.eval y); Pure.pure Next.skip : Sem Next).run P w) (.v undef) u := by
 have hx := k.ro h1
 have hy := k.ro h2
 unfold storeV at h
 split at h
 ·rename_i o g i off cs hda hdc
  rw [hda] at hx
  cases ho : H o with
  | none => simp [ho] at h
  | some ck =>
   simp only [ho] at h
   split at h
   ·rename_i hc
    obtain ⟨c1, c2, c3⟩ := hc
    injection h with h; subst h
    cases hx with
    | ptr _ _ _ _ _ h0 h1' hh =>
     obtain ⟨_, hh⟩ := hh ck ho
     obtain ⟨hi, q, hq, hval⟩ := hh c1
     have hgd : ck.xs.getD i [] = ck.xs[i] := by simp [List.getD, hi]
     rw [hgd] at c3
     obtain ⟨d1, d2, d3⟩ := dcells_sound hdc hy
     have hgl : ∀ j, (a.eval y).cells.toList.getD j undef = (a.eval y).cells.getD j undef := by intro j; simp [List.getD, Array.getD_eq_getD_getElem?]
     obtain ⟨w', hrun, hmv⟩ := Mv.store (P := P) (off := off) (cs := cs) (ns := (a.eval y).cells.toList) k.hr k.fr k.lb ho hq hi (by omega) (by simp [d1]) (fun v hv => by
      obtain ⟨j, hj, rfl⟩ := List.mem_iff_getElem.1 hv
      have hj' : j < (a.eval y).cells.size := by simpa using hj
      have := d2 j (by rw [← d1]; exact hj')
      simpa [Array.getD, hj'] using this) (fun j hj => by rw [hgl]; exact d3 j hj)
     refine ⟨.skip, undef, w', ps, ?_, .inr ⟨rfl, rfl⟩, .v _, ?_⟩
     ·simp only [Instr.storeAt, Instr.sureAddr, hval, Sem.run_bind, Sem.run_pure, Result.andThen_ok, storeVar, run_sizeT hn]
      rw [if_neg (by simp [d1, c2])]
      rw [hrun]; simp
     ·rw [hgd]; exact hmv
   ·cases h
 ·cases h
theorem snd_idx (k : Pre cx H ps nx w T p a) {t e : TypeId} {sz : Nat} {x y : Operand} {x' y' : RO} {d : DV} {u : Up} (ht : P.underlying t = some (.slice e)) (hn : sizeT P e = some sz) (h1 : Pv.ro x = some x') (h2 : Pv.ro y = some y')
  (h : ev (.iadrS sz x' y') p T H nx = some (d, u)) :
  Snd P cx H ps nx w ((do Pure.pure (Next.value (← Instr.indexAt t (a.eval x) (a.eval y))) : Sem Next).run P w) d u := by
 have hx := k.ro h1
 have hy := k.ro h2
 simp only [ev] at h
 split at h
 ·rename_i full xs kk n hdx hdy
  rw [hdx] at hx; rw [hdy] at hy
  split at h
  ·rename_i hc
   obtain ⟨c1, c2, c3⟩ := hc
   injection h with h; injection h with e1 e2; subst e1; subst e2
   obtain ⟨m, rfl⟩ := Int.eq_ofNat_of_zero_le c1
   simp only [Int.toNat_natCast] at c3 ⊢
   have hm : m < xs.length := by omega
   have hgd : xs.getD m [] = xs[m] := by simp [List.getD, hm]
   rw [hgd] at c3 ⊢
   have hye := hy.v_inv
   generalize a.eval x = vx at hx
   cases hx with
   | lnil _ a0 cap hf => simp at hm
   | lst _ _ b off cap sz' vs hne hs' hcap hf hM hz h1' hcc hv =>
    have hsz : sz' = sz := by rw [← hz m hm]; exact c3
    subst hsz
    refine k.val (v := .pointer (some ⟨b, off + m * sz', none⟩)) ?_ ?_
    ·simp only [Instr.indexAt, hye, asIntOf, Sem.run_bind, Sem.run_pure, Result.andThen_ok, run_underlying ht]
     rw [if_pos ⟨Int.natCast_nonneg m, by omega⟩]
     simp [run_sizeT hn, Addr.add_mk]
    ·refine .rp _ b (off + m * sz') (fun j => vs m j) (fun _ => hM) (fun j hj => h1' m j hm (by rw [hz m hm] at hj; exact hj)) (fun j hj => ?_) (fun j hj => hv m j hm hj)
     have := hcc m j hm (by rw [hz m hm] at hj; exact hj)
     rwa [← Nat.add_assoc] at this
  ·cases h
 ·rename_i o g lo kk k' n hdx hdy
  rw [hdx] at hx; rw [hdy] at hy
  cases ho : H o with
  | none => simp [ho] at h
  | some ck =>
   simp only [ho] at h
   split at h
   ·rename_i hc
    obtain ⟨c1, c2, c3, c4⟩ := hc
    injection h with h; injection h with e1 e2; subst e1; subst e2
    obtain ⟨m, rfl⟩ := Int.eq_ofNat_of_zero_le c3
    simp only [Int.toNat_natCast]
    have hye := hy.v_inv
    obtain ⟨ck', ho', hg', hlen, aa, cap, hval, hnc, hpl⟩ := hx.own_live (by simp [live, ho, c1])
    rw [ho] at ho'; injection ho' with ho'; subst ho'
    rcases hpl with hpl | ⟨q, hq, rfl, htot⟩
    ·omega
    ·refine k.val (v := .pointer (some ⟨q.b, q.k + (lo + m) * ck.sz, none⟩)) ?_ ?_
     ·simp only [Instr.indexAt, hye, hval, asIntOf, Sem.run_bind, Sem.run_pure, Result.andThen_ok, run_underlying ht]
      rw [if_pos ⟨Int.natCast_nonneg m, by omega⟩]
      simp [run_sizeT hn, Addr.add_mk, ← c2, Nat.add_mul, Nat.add_assoc]
     ·refine .ptr _ _ _ _ _ (k.hr.lt o ck ho) rfl fun ck' hck' => ?_
      rw [ho] at hck'; injection hck' with hck'; subst hck'
      exact ⟨by omega, fun _ => ⟨by omega, q, hq, by simp⟩⟩
   ·cases h
 ·cases h
end
end Go.Pv
