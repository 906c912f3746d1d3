/- Every resolved operation is sound. No condition of its own: lemmas over any program. -/
import Derived.Test.YtiemlgicaibccaaPvD
set_option linter.all false
namespace Go.Pv
open Go.RowKit
section
variable {P : Program} {cx : Cx} {H : Hp} {ps : Ps} {nx : Nat} {w : World}
theorem SndV.pure (hr : HR H ps cx.M nx w) (fr : Fr cx.B cx.w0 w) (lb : ∀ o ck p, H o = some ck → ps o = some p → cx.B p.b ∨ cx.w0.heap.size ≤ p.b)
  {r : Result Value} {d : DV} {v : Value} (h : r = .ok v w) (hv : VR H ps cx.M nx w d v) : SndV P cx H ps nx w r d .no :=
 ⟨v, w, ps, h, hv, Mv.grew hr fr lb (Grew.refl w)⟩
theorem Snd.of_v {s : Sem Value} {d : DV} {u : Up} (h : SndV P cx H ps nx w (s.run P w) d u) : Snd P cx H ps nx w ((do Pure.pure (Next.value (← s)) : Sem Next).run P w) d u := by
 obtain ⟨v, w', ps', h1, h2, h3⟩ := h
 exact ⟨_, v, w', ps', by simp only [Sem.run_bind, h1, Result.andThen_ok, Sem.run_pure], .inl rfl, h2, h3⟩
end
structure VA (H : Hp) (ps : Ps) (M : Nat → Prop) (nx : Nat) (w : World) (cs : List DV) (vs : Array Value) : Prop where
 l : vs.size = cs.length
 o : ∀ j, j < cs.length → (vs.getD j undef).oneCell' = true
 r : ∀ j (hj : j < cs.length), VR H ps M nx w cs[j] (vs.getD j undef)
theorem VA.agg {H ps M nx w cs vs} (h : VA H ps M nx w cs vs) : VR H ps M nx w (.agg cs) (.agg vs) := .agg _ _ h.l h.o h.r
theorem foldl_over (off : Nat) : ∀ (l : List Value) (j0 : Nat) (cs : Array Value), off + j0 + l.length ≤ cs.size →
  ((l.zipIdx j0).foldl (fun (cs : Array Value) (x : Value × Nat) => cs.setIfInBounds (off + x.2) x.1) cs).size = cs.size ∧
  ∀ q, ((l.zipIdx j0).foldl (fun (cs : Array Value) (x : Value × Nat) => cs.setIfInBounds (off + x.2) x.1) cs).getD q undef = if off + j0 ≤ q ∧ q < off + j0 + l.length then l.getD (q - (off + j0)) undef else cs.getD q undef
 | [], j0, cs, _ => by
  refine ⟨rfl, fun q => ?_⟩
  rw [if_neg (by intro h; simp at h; omega)]; rfl
 | v :: l, j0, cs, h => by
  simp only [List.zipIdx_cons, List.foldl_cons]
  have hl : off + (j0 + 1) + l.length ≤ (cs.setIfInBounds (off + j0) v).size := by simp at h ⊢; omega
  obtain ⟨h1, h2⟩ := foldl_over off l (j0 + 1) (cs.setIfInBounds (off + j0) v) hl
  refine ⟨by rw [h1]; simp, fun q => ?_⟩
  rw [h2 q]
  simp only [List.length_cons] at h ⊢
  by_cases e : q = off + j0
  ·subst e
   rw [if_neg (by omega), if_pos (by omega)]
   simp [Array.getD, show off + j0 < cs.size by omega]
  ·by_cases hin : off + (j0 + 1) ≤ q ∧ q < off + (j0 + 1) + l.length
   ·rw [if_pos hin, if_pos (by omega)]
    have : q - (off + j0) = (q - (off + (j0 + 1))) + 1 := by omega
    rw [this]; simp [List.getD]
   ·rw [if_neg hin, if_neg (by omega)]
    simp [Array.getD_eq_getD_getElem?, Array.getElem?_setIfInBounds_ne (Ne.symm e)]
theorem VA.put {H ps M nx w zs arr cs} {v : Value} {off : Nat} (h : VA H ps M nx w zs arr) (hoff : off + cs.length ≤ zs.length) (h1 : v.cells.size = cs.length) (h2 : ∀ j, j < cs.length → (v.cells.getD j undef).oneCell' = true)
  (h3 : ∀ j (hj : j < cs.length), VR H ps M nx w cs[j] (v.cells.getD j undef)) :
  VA H ps M nx w (putCells zs off cs) (v.cells.zipIdx.foldl (fun (cs : Array Value) (x : Value × Nat) => cs.setIfInBounds (off + x.2) x.1) arr) := by
 have hk := foldl_over off v.cells.toList 0 arr (by simp [h1, h.l]; omega)
 have he : v.cells.zipIdx.foldl (fun (cs : Array Value) (x : Value × Nat) => cs.setIfInBounds (off + x.2) x.1) arr = ((v.cells.toList.zipIdx 0).foldl (fun (cs : Array Value) (x : Value × Nat) => cs.setIfInBounds (off + x.2) x.1) arr) := by
  rw [← Array.foldl_toList, Array.toList_zipIdx]
 rw [he]
 obtain ⟨k1, k2⟩ := hk
 have hlen := putCells_length zs off cs hoff
 have hgd : ∀ j, v.cells.toList.getD j undef = v.cells.getD j undef := by intro j; simp [List.getD, Array.getD_eq_getD_getElem?]
 refine ⟨by rw [k1, h.l, hlen], fun j hj => ?_, fun j hj => ?_⟩
 ·rw [k2 j]; split
  ·rename_i hin; simp only [Nat.add_zero, Array.length_toList, h1] at hin
   simp only [Nat.add_zero]
   rw [hgd]; exact h2 _ (by omega)
  ·exact h.o j (by omega)
 ·rw [k2 j]
  simp only [Nat.add_zero, Array.length_toList, h1]
  rcases putCells_get zs off cs hoff j hj with ⟨g1, g2, g3⟩ | ⟨g1, g2, g3⟩
  ·rw [g3, if_pos (by omega), hgd]; exact h3 _ g1
  ·rw [g3, if_neg (by omega)]; exact h.r j g1
section
variable {P : Program} {H : Hp} {ps : Ps} {M : Nat → Prop} {nx : Nat} {w : World} {T : Nat → DV} {p : Bool} {a : Act}
theorem fill_sound (hp : p = true) (hT : ∀ t, VR H ps M nx w (T t) (a.tmps.getD t undef)) (place : Nat → Option (Nat × Nat)) :
  ∀ (parts : List (Nat × Operand)) (rps : List (Nat × Nat × RO)) (zs cs : List DV) (arr : Array Value), bparts place parts = some rps → VA H ps M nx w zs arr →
   fillP (fun x => un p (x.get T)) zs rps = some cs → ∃ out, Instr.fill place arr (parts.map fun x => (x.1, a.eval x.2)) = some out ∧ VA H ps M nx w cs out
 | [], rps, zs, cs, arr, hb, hz, hf => by
  simp [bparts] at hb; subst hb
  simp [fillP] at hf; subst hf
  exact ⟨arr, by simp [Instr.fill], hz⟩
 | (i, x) :: r, rps, zs, cs, arr, hb, hz, hf => by
  simp only [bparts] at hb
  cases h1 : place i with
  | none => simp [h1] at hb
  | some on =>
   obtain ⟨off, n⟩ := on
   cases h2 : ro x with
   | none => simp [h1, h2] at hb
   | some x' =>
    cases h3 : bparts place r with
    | none => simp [h1, h2, h3] at hb
    | some r' =>
     simp [h1, h2, h3] at hb; subst hb
     simp only [fillP] at hf
     cases h4 : dcells (un p (x'.get T)) with
     | none => simp [h4] at hf
     | some ds =>
      simp only [h4] at hf; split at hf
      ·rename_i hc
       obtain ⟨hn, hoff⟩ := hc
       obtain ⟨d1, d2, d3⟩ := dcells_sound h4 (ro_un hp h2 hT)
       have hva := hz.put (off := off) (v := a.eval x) (by omega) d1 d2 d3
       obtain ⟨out, ho, hov⟩ := fill_sound hp hT place r r' _ cs _ h3 hva hf
       refine ⟨out, ?_, hov⟩
       simp only [List.map_cons, Instr.fill, h1]
       rw [if_neg (by simp [d1, hn, hz.l]; omega)]
       exact ho
      ·cases hf
end
theorem flatten_get {xs : List (List DV)} {sz : Nat} (hz : ∀ c ∈ xs, c.length = sz) : xs.flatten.length = xs.length * sz ∧
  ∀ i j (hi : i < xs.length) (hj : j < xs[i].length) (hq : i * sz + j < xs.flatten.length), xs.flatten[i * sz + j] = xs[i][j] := by
 induction xs with
 | nil => exact ⟨by simp, fun i j hi => by simp at hi⟩
 | cons c r ih =>
  obtain ⟨h1, h2⟩ := ih fun c hc => hz c (by simp [hc])
  have hc := hz c (by simp)
  refine ⟨by simp [h1, hc, Nat.add_mul]; omega, fun i j hi hj hq => ?_⟩
  cases i with
  | zero =>
   have hj' : j < c.length := by simpa using hj
   simp only [List.flatten_cons, Nat.zero_mul, Nat.zero_add, List.getElem_cons_zero]
   exact List.getElem_append_left hj'
  | succ i =>
   have e : (i + 1) * sz + j = c.length + (i * sz + j) := by rw [hc, Nat.succ_mul]; omega
   have hi' : i < r.length := by simpa using hi
   have hj' : j < r[i].length := by simpa using hj
   have hq' : i * sz + j < r.flatten.length := by
    rw [h1]; exact idx_lt hi' (by rw [hz r[i] (by simp)] at hj'; exact hj')
   simp only [List.flatten_cons, e, List.getElem_cons_succ]
   rw [List.getElem_append_right (by omega)]
   simp only [Nat.add_sub_cancel_left]
   exact h2 i j hi' hj' hq'
theorem flatten_set {xs : List (List DV)} {sz : Nat} (hz : ∀ c ∈ xs, c.length = sz) (i : Nat) (cs : List DV) (hi : i < xs.length) (hc : cs.length = sz) :
  (xs.set i cs).flatten = putCells xs.flatten (i * sz) cs := by
 induction xs generalizing i with
 | nil => simp at hi
 | cons c r ih =>
  have hcl := hz c (by simp)
  cases i with
  | zero =>
   simp only [List.set_cons_zero, List.flatten_cons, Nat.zero_mul, putCells, List.take_zero, List.nil_append, Nat.zero_add]
   rw [List.drop_append_of_le_length (by omega), hc, ← hcl, List.drop_length, List.nil_append]
  | succ i =>
   have hi' : i < r.length := by simpa using hi
   rw [List.set_cons_succ, List.flatten_cons, ih (fun c hc => hz c (by simp [hc])) i hi']
   simp only [putCells, List.flatten_cons]
   have e1 : (c ++ r.flatten).take ((i + 1) * sz) = c ++ r.flatten.take (i * sz) := by
    rw [show (i + 1) * sz = c.length + i * sz by rw [Nat.succ_mul]; omega, List.take_length_add_append]
   have e2 : (c ++ r.flatten).drop ((i + 1) * sz + cs.length) = r.flatten.drop (i * sz + cs.length) := by
    rw [show (i + 1) * sz + cs.length = c.length + (i * sz + cs.length) by rw [Nat.succ_mul]; omega, List.drop_length_add_append]
   rw [e1, e2]; simp [List.append_assoc]
theorem bslP_fill (ρ : RO → DV) (sz : Nat) : ∀ (ps : List (Nat × RO)) (xs ys : List (List DV)), (∀ c ∈ xs, c.length = sz) → bslP ρ sz xs ps = some ys →
  (∀ c ∈ ys, c.length = sz) ∧ ys.length = xs.length ∧ fillP ρ xs.flatten (ps.map fun x => (x.1 * sz, sz, x.2)) = some ys.flatten
 | [], xs, ys, hz, h => by simp [bslP] at h; subst h; exact ⟨hz, rfl, by simp [fillP]⟩
 | (i, x) :: r, xs, ys, hz, h => by
  simp only [bslP] at h
  cases h1 : dcells (ρ x) with
  | none => simp [h1] at h
  | some cs =>
   simp only [h1] at h; split at h
   ·rename_i hc
    obtain ⟨hc1, hc2⟩ := hc
    have hz' : ∀ c ∈ xs.set i cs, c.length = sz := fun c hc => by
     rcases List.mem_or_eq_of_mem_set hc with h | h
     ·exact hz c h
     ·rw [h]; exact hc1
    obtain ⟨k1, k2, k3⟩ := bslP_fill ρ sz r _ ys hz' h
    refine ⟨k1, by rw [k2]; simp, ?_⟩
    simp only [List.map_cons, fillP, h1]
    have hle : i * sz + sz ≤ xs.flatten.length := by
     rw [(flatten_get hz).1]
     have := Nat.mul_le_mul_right sz (Nat.succ_le_of_lt hc2)
     rwa [Nat.succ_mul] at this
    rw [if_pos ⟨hc1, hle⟩, ← flatten_set hz i cs hc2 hc1]
    exact k3
   ·cases h
theorem sparts_bparts (sz : Nat) : ∀ (ps : List (Nat × Operand)) (rps : List (Nat × RO)), sparts ps = some rps →
  bparts (fun i => some (i * sz, sz)) ps = some (rps.map fun x => (x.1 * sz, sz, x.2))
 | [], rps, h => by simp [sparts] at h; subst h; rfl
 | (i, x) :: r, rps, h => by
  simp only [sparts] at h
  cases h1 : ro x with
  | none => simp [h1] at h
  | some x' =>
   cases h2 : sparts r with
   | none => simp [h1, h2] at h
   | some r' =>
    simp [h1, h2] at h; subst h
    simp [bparts, h1, sparts_bparts sz r r' h2]
theorem VA.fl {H ps M nx w xs sz arr} (hz : ∀ c ∈ xs, c.length = sz) (h : VA H ps M nx w xs.flatten arr) : FL H ps M nx w xs sz arr.toList := by
 obtain ⟨k1, k2⟩ := flatten_get hz
 refine ⟨fun i hi => hz _ (List.getElem_mem hi), by simp [h.l, k1], fun v hv => ?_, fun i j hi hj => ?_⟩
 ·obtain ⟨q, hq, rfl⟩ := List.mem_iff_getElem.1 hv
  have hq' : q < arr.size := by simpa using hq
  have := h.o q (by rw [← h.l]; exact hq')
  simpa [Array.getD, hq'] using this
 ·have hq : i * sz + j < xs.flatten.length := by rw [k1]; exact idx_lt hi (by rw [← hz xs[i] (List.getElem_mem hi)]; exact hj)
  have := h.r (i * sz + j) hq
  rw [k2 i j hi hj hq] at this
  have e : arr.toList.getD (i * sz + j) undef = arr.getD (i * sz + j) undef := by simp [List.getD, Array.getD_eq_getD_getElem?]
  rw [e]; exact this
theorem zeroRow_va {H : Hp} {ps : Ps} {M : Nat → Prop} {nx : Nat} {w : World} (v : Value) (n len : Nat) (hn : v.cells.size = n) (hp : 0 < n) (ho : ∀ j, j < v.cells.size → (v.cells.getD j undef).oneCell' = true) :
  VA H ps M nx w (List.replicate len (v.cells.toList.map ofC)).flatten ((Array.range (len * n)).map (v.cells[· % v.cells.size]!)) := by
 have hz : ∀ c ∈ List.replicate len (v.cells.toList.map ofC), c.length = n := fun c hc => by rw [List.eq_of_mem_replicate hc]; simpa using hn
 obtain ⟨k1, k2⟩ := flatten_get hz
 have hg : ∀ q, q < len * n → ((Array.range (len * n)).map (v.cells[· % v.cells.size]!)).getD q undef = v.cells.getD (q % n) undef := by
  intro q hq
  have hm : q % n < v.cells.size := by rw [hn]; exact Nat.mod_lt _ hp
  subst hn
  simp [Array.getD, hq, hm]
 refine ⟨by simp [hn], fun q hq => ?_, fun q hq => ?_⟩
 ·rw [k1, List.length_replicate] at hq
  rw [hg q hq]; exact ho _ (by rw [hn]; exact Nat.mod_lt _ hp)
 ·have hq' : q < len * n := by rw [k1, List.length_replicate] at hq; exact hq
  rw [hg q hq']
  have hi : q / n < (List.replicate len (v.cells.toList.map ofC)).length := by
   rw [List.length_replicate]; exact Nat.div_lt_of_lt_mul (by rw [Nat.mul_comm]; exact hq')
  have hm : q % n < n := Nat.mod_lt _ hp
  have hj : q % n < (List.replicate len (v.cells.toList.map ofC))[q / n].length := by rw [hz _ (List.getElem_mem hi)]; exact hm
  have e : q / n * n + q % n = q := by rw [Nat.mul_comm]; exact Nat.div_add_mod q n
  have h3 := k2 (q / n) (q % n) hi hj (by rw [e]; exact hq)
  simp only [e] at h3
  rw [h3]
  simp only [List.getElem_replicate]
  exact ofC_cells v.cells (q % n) (by simpa [hn] using hm)
section
variable {P : Program} {cx : Cx} {H : Hp} {ps : Ps} {nx : Nat} {w : World} {T : Nat → DV} {p : Bool} {a : Act}
variable (hr : HR H ps cx.M nx w) (fr : Fr cx.B cx.w0 w) (lb : ∀ o ck p, H o = some ck → ps o = some p → cx.B p.b ∨ cx.w0.heap.size ≤ p.b)
variable (hp : p = true) (hT : ∀ t, VR H ps cx.M nx w (T t) (a.tmps.getD t undef))
theorem pick_sound {c x y : Operand} {c' x' y' : RO} {d : DV} (hp : p = true) (hT : ∀ t, VR H ps cx.M nx w (T t) (a.tmps.getD t undef)) (h1 : ro c = some c') (h2 : ro x = some x') (h3 : ro y = some y')
  (h : pickV p (c'.get T) (x'.get T) (y'.get T) = some d) : ∃ v, ((do Pure.pure (if ← asBool (a.eval c) then a.eval x else a.eval y) : Sem Value).run P w = .ok v w) ∧ VR H ps cx.M nx w d v := by
 unfold pickV at h
 have hc := ro_un hp h1 hT
 split at h
 ·rename_i q hq
  rw [hq] at hc
  have hce := hc.v_inv
  have key : ∀ z, (q = true → un (p && q) (x'.get T) = .v (.bool z)) → (q = false → un (p && !q) (y'.get T) = .v (.bool z)) → ∃ v, ((do Pure.pure (if ← asBool (a.eval c) then a.eval x else a.eval y) : Sem Value).run P w = .ok v w) ∧ VR H ps cx.M nx w (.v (.bool z)) v := by
   intro z e1 e2
   cases q with
   | true =>
    have := un_sound (p := p && true) (by simp [hp]) (ro_sound h2 hT)
    rw [e1 rfl] at this
    exact ⟨_, by simp [hce, asBool, this.v_inv], .v _⟩
   | false =>
    have := un_sound (p := p && !false) (by simp [hp]) (ro_sound h3 hT)
    rw [e2 rfl] at this
    exact ⟨_, by simp [hce, asBool, this.v_inv], .v _⟩
  unfold pickU at h
  split at h
  ·rename_i b1 b2 e1 e2
   injection h with h; subst h
   exact key _ (fun hq => by subst hq; exact e1) (fun hq => by subst hq; exact e2)
  ·rename_i b1 e1 _
   split at h
   ·rename_i hq1
    injection h with h; subst h
    exact key _ (fun _ => e1) (fun hq => by rw [hq1] at hq; cases hq)
   ·cases h
  ·rename_i b1 e1 _
   split at h
   ·cases h
   ·rename_i hq1
    injection h with h; subst h
    exact key _ (fun hq => absurd hq hq1) (fun _ => e1)
  ·cases h
 ·cases h
theorem binI_sound {op : BinOp} {k : IntKind} {x y : Int} {d : DV} (h : binI op k x y = some d) (t : TypeId) : ∃ v, (binOp op t (.int k x) (.int k y)).run P w = .ok v w ∧ VR H ps cx.M nx w d v := by
 cases op <;> simp only [binI, Option.some.injEq] at h <;> (try cases h) <;>
  first
   | exact ⟨_, by simp [binOp, Op.intArith, Op.intCmp, Op.intBits], .v _⟩
   | (split at h
      ·cases h
      ·rename_i h0; injection h with h; subst h; exact ⟨_, by simp [binOp, Op.intDiv, h0], .v _⟩)
theorem bin_sound {op : BinOp} {x y : DV} {v1 v2 : Value} {d : DV} (h : binV op x y = some d) (hx : VR H ps cx.M nx w x v1) (hy : VR H ps cx.M nx w y v2) (t : TypeId) (o1 o2 : Operand) :
  ∃ v, ((do eqGuard op t o1 o2 v1 v2; binOp op t v1 v2 : Sem Value).run P w = .ok v w) ∧ VR H ps cx.M nx w d v := by
 unfold binV at h
 split at h
 ·rename_i a b
  rw [hx.v_inv, hy.v_inv]
  have hg : (eqGuard op t o1 o2 (.string a) (.string b)).run P w = .ok () w := by
   unfold eqGuard; cases op <;> simp
  have hla : (bl a).length = a.size := by simp [bl]
  have hlb : (bl b).length = b.size := by simp [bl]
  cases op <;> simp only [strV] at h <;> (try cases h; done)
  ·split at h
   ·rename_i hle
    injection h with h; subst h
    refine ⟨.string (a ++ b), ?_, ?_⟩
    ·have : ¬ ((a.size + b.size : Nat) : Int) > IntKind.i64.max := by
      have : IntKind.i64.max = 9223372036854775807 := by decide
      omega
     simp only [Sem.run_bind, hg, Result.andThen_ok, binOp, Op.stringOp]
     rw [if_neg this]; rfl
    ·have : mkS (bl a ++ bl b) = a ++ b := by
      apply ByteArray.ext
      simp [mkS, bl]
     rw [this]; exact .v _
   ·cases h
  ·injection h with h; subst h
   refine ⟨.bool (a.toList == b.toList), by simp [hg, binOp, Op.stringOp], ?_⟩
   rw [ByteArray.toList_eq, ByteArray.toList_eq]; exact .v _
  ·injection h with h; subst h
   refine ⟨.bool (!(a.toList == b.toList)), by simp [hg, binOp, Op.stringOp], ?_⟩
   rw [ByteArray.toList_eq, ByteArray.toList_eq]; exact .v _
 ·split at h
  ·rename_i k1 x k2 y hs
   have e1 := hx.v_inv; have e2 := hy.v_inv
   subst e1; subst e2
   have hg : (eqGuard op t o1 o2 (.int k1 x) (.int k2 y)).run P w = .ok () w := by
    unfold eqGuard; cases op <;> simp
   unfold shfV at h
   split at h
   ·cases h
   ·rename_i hb
    split at h
    ·injection h with h; subst h
     exact ⟨_, by simp [hg]; simp [binOp, Op.shift, hb], .v _⟩
    ·injection h with h; subst h
     exact ⟨_, by simp [hg]; simp [binOp, Op.shift, hb], .v _⟩
    ·cases h
  split at h
  ·rename_i k1 x k2 y hs hk
   subst hk
   have e1 := hx.v_inv; have e2 := hy.v_inv
   subst e1; subst e2
   obtain ⟨v, hv, hr'⟩ := binI_sound (P := P) (H := H) (ps := ps) (cx := cx) (nx := nx) (w := w) h t
   refine ⟨v, ?_, hr'⟩
   have hg : (eqGuard op t o1 o2 (.int k1 x) (.int k1 y)).run P w = .ok () w := by
    unfold eqGuard; cases op <;> simp
   simp [hg, hv]
  ·cases h
 ·cases h
theorem isn_sound {neg : Bool} {x : DV} {v1 : Value} {d : DV} {t : TypeId} {ms : Array (String × TypeId)} (hu : P.underlying t = some (.interface ms)) (h : isnV neg x = some d) (hx : VR H ps cx.M nx w x v1) (o1 : Operand) :
  ∃ v, ((do eqGuard (if neg then .neq else .eql) t o1 (.const .nilIface) v1 .nilIface; binOp (if neg then .neq else .eql) t v1 .nilIface : Sem Value).run P w = .ok v w) ∧ VR H ps cx.M nx w d v := by
 have hq : ∀ (v1 : Value) (b : Bool), (Op.equal t v1 .nilIface).run P w = .ok b w → (binOp (if neg then .neq else .eql) t v1 .nilIface).run P w = .ok (.bool (b != neg)) w := by
  intro v1 b h1
  cases neg <;> cases v1 <;> simp [binOp, h1]
 have q1 : ∀ d, (Op.equalIn (d + 1) t .nilIface .nilIface).run P w = .ok true w := fun d => by
  simp only [Op.equalIn, Sem.run_bind, run_underlying hu, Result.andThen_ok, Sem.run_pure]
 have q2 : ∀ d tt p, (Op.equalIn (d + 1) t (.iface tt p) .nilIface).run P w = .ok false w := fun d tt p => by
  simp only [Op.equalIn, Sem.run_bind, run_underlying hu, Result.andThen_ok, Sem.run_pure]
 unfold isnV at h
 split at h
 ·injection h with h; subst h
  rw [hx.v_inv]
  have hg : (eqGuard (if neg then .neq else .eql) t o1 (.const .nilIface) .nilIface .nilIface).run P w = .ok () w := by
   unfold eqGuard; cases neg <;> simp
  refine ⟨_, by simp only [Sem.run_bind, hg, Result.andThen_ok]; exact hq .nilIface true (q1 9999), ?_⟩
  cases neg <;> exact .v _
 ·injection h with h; subst h
  cases hx with
  | nn tt p =>
   have hg : (eqGuard (if neg then .neq else .eql) t o1 (.const .nilIface) (.iface tt p) .nilIface).run P w = .ok () w := by
    unfold eqGuard; cases neg <;> simp
   refine ⟨_, by simp only [Sem.run_bind, hg, Result.andThen_ok]; exact hq (.iface tt p) false (q2 9999 tt p), ?_⟩
   cases neg <;> exact .v _
 ·cases h
theorem sidx_sound {x i : DV} {v1 v2 : Value} {d : DV} {t : TypeId} (hu : P.underlying t = some .string) (h : sidxV x i = some d) (hx : VR H ps cx.M nx w x v1) (hi : VR H ps cx.M nx w i v2) :
  ∃ v, (Instr.index t v1 v2).run P w = .ok v w ∧ VR H ps cx.M nx w d v := by
 unfold sidxV at h
 split at h
 ·rename_i s k n
  split at h
  ·rename_i hb
   injection h with h; subst h
   rw [hx.v_inv, hi.v_inv]
   obtain ⟨q, rfl⟩ := Int.eq_ofNat_of_zero_le hb.1
   have hq : q < s.data.toList.length := by have := hb.2; simp only [bl] at this; omega
   have hq2 : q < s.size := by simpa using hq
   refine ⟨.int .u8 (s[q].toNat), ?_, ?_⟩
   ·simp only [Instr.index, asIntOf, Sem.run_bind, Sem.run_pure, Result.andThen_ok, run_underlying hu]
    have : (0 : Int) ≤ (q : Int) := by omega
    simp only [if_pos this, Int.toNat_natCast]
    have e : s[q]? = some s[q] := by simp [hq2]
    rw [e]; rfl
   ·have e : (bl s).getD (q : Int).toNat 0 = s[q] := by
     simp only [Int.toNat_natCast, bl, List.getD_eq_getElem?_getD, List.getElem?_eq_getElem hq, Option.getD_some]
     rfl
    rw [e]; exact .v _
  ·cases h
 ·cases h
theorem str_bnd {o : Option DV} {q : Option Value} {b : Nat} {m : Int} (h : bndV b o = some m) (ho : (o = none ∧ q = none) ∨ ∃ x y, o = some x ∧ q = some y ∧ VR H ps cx.M nx w x y) : (q = none ∧ m = b) ∨ ∃ k, q = some (.int k m) := by
 rcases ho with ⟨rfl, rfl⟩ | ⟨x, y, rfl, rfl, hv⟩
 ·simp only [bndV, Option.some.injEq] at h; exact .inl ⟨rfl, h.symm⟩
 ·unfold bndV at h
  split at h
  ·rename_i e; cases e
  ·rename_i k n e
   injection e with e; subst e
   injection h with h; subst h
   rw [hv.v_inv]; exact .inr ⟨_, rfl⟩
  ·cases h
theorem sslc_sound {x : DV} {v1 : Value} {d : DV} {t : TypeId} {lo hi : Option DV} {lv hv : Option Value} (hu : P.underlying t = some .string) (h : sslcV x lo hi = some d) (hx : VR H ps cx.M nx w x v1)
  (hlo : (lo = none ∧ lv = none) ∨ ∃ x y, lo = some x ∧ lv = some y ∧ VR H ps cx.M nx w x y) (hhi : (hi = none ∧ hv = none) ∨ ∃ x y, hi = some x ∧ hv = some y ∧ VR H ps cx.M nx w x y) :
  ∃ v, (Instr.sliceAt t v1 lv hv none).run P w = .ok v w ∧ VR H ps cx.M nx w d v := by
 have hsa : ∀ v l h, (Instr.sliceAt t v l h none).run P w = (Instr.slice t v l h none).run P w := by
  intro v l h; simp [Instr.sliceAt, run_underlying hu]
 simp only [hsa]
 unfold sslcV at h
 split at h
 ·rename_i s
  split at h
  ·rename_i l hh h1 h2
   split at h
   ·rename_i hb
    injection h with h; subst h
    rw [hx.v_inv]
    obtain ⟨l, rfl⟩ := Int.eq_ofNat_of_zero_le hb.1
    obtain ⟨hh, rfl⟩ := Int.eq_ofNat_of_zero_le (show 0 ≤ hh by omega)
    have hsz : (bl s).length = s.size := by simp [bl]
    have q1 : l ≤ hh := by omega
    have q2 : hh ≤ s.size := by omega
    have ex : s.extract l hh = mkS (((bl s).drop (l : Int).toNat).take ((hh : Int).toNat - (l : Int).toNat)) := by
     simp only [Int.toNat_natCast]
     apply ByteArray.ext
     simp only [mkS, bl, ByteArray.data_extract]
     apply Array.toList_inj.1
     simp only [Array.toList_extract, List.extract_eq_take_drop]
    refine ⟨.string (s.extract l hh), ?_, by rw [ex]; exact .v _⟩
    have r1 := str_bnd h1 hlo
    have r2 := str_bnd h2 hhi
    have c1 : (0 : Int) ≤ (l : Int) ∧ (l : Int) ≤ (hh : Int) := by omega
    have c2 : (0 : Int) ≤ (hh : Int) ∧ (hh : Int) ≤ (s.size : Int) := by omega
    rcases r1 with ⟨rfl, e1⟩ | ⟨k1, rfl⟩ <;> rcases r2 with ⟨rfl, e2⟩ | ⟨k2, rfl⟩
    ·have e1' : l = 0 := by omega
     have e2' : hh = s.size := by omega
     subst e1'; subst e2'
     simp [Instr.slice, run_underlying hu, Instr.sliceBounds]
    ·have e1' : l = 0 := by omega
     subst e1'
     simp only [Instr.slice, Sem.run_bind, run_underlying hu, Result.andThen_ok, Instr.sliceBounds, Instr.sliceBound, asIntOf, Sem.run_pure, if_pos c2]
     simp
     all_goals (intros; omega)
    ·have e2' : hh = s.size := by omega
     subst e2'
     simp only [Instr.slice, Sem.run_bind, run_underlying hu, Result.andThen_ok, Instr.sliceBounds, Instr.sliceBound, asIntOf, Sem.run_pure, if_pos c1]
     simp
     all_goals (intros; omega)
    ·simp only [Instr.slice, Sem.run_bind, run_underlying hu, Result.andThen_ok, Instr.sliceBounds, Instr.sliceBound, asIntOf, Sem.run_pure, if_pos c2, Int.toNat_natCast, if_pos c1]
     simp
     rw [if_pos q2, if_pos q1]
   ·cases h
  ·cases h
 ·cases h
theorem un_op_sound {op : UnOp} {x : DV} {v1 : Value} {d : DV} (h : unV op x = some d) (hx : VR H ps cx.M nx w x v1) : ∃ v, (Op.unary op v1).run P w = .ok v w ∧ VR H ps cx.M nx w d v := by
 unfold unV at h
 split at h
 ·split at h
  ·injection h with h; subst h
   have := hx.v_inv; subst this
   exact ⟨_, by simp [Op.unary, Op.intArith], .v _⟩
  ·cases h
 ·split at h
  ·injection h with h; subst h
   have := hx.v_inv; subst this
   exact ⟨_, by simp [Op.unary], .v _⟩
  ·cases h
 ·cases h
theorem VR.own_live {o g b n : Nat} {x : Value} (h : VR H ps cx.M nx w (.own o g b n) x) (hl : live H o g = true) : ∃ ck, H o = some ck ∧ ck.gen = g ∧ OwnS ps ck o b n x := by
 unfold live at hl
 cases ho : H o with
 | none => simp [ho] at hl
 | some ck =>
  simp only [ho, beq_iff_eq] at hl
  cases h with
  | own _ _ _ _ _ h0 h1 h => exact ⟨ck, rfl, hl, (h ck ho).2 hl⟩
theorem VR.ptr_live {o g i f : Nat} {x : Value} (h : VR H ps cx.M nx w (.ptr o g i f) x) (hl : live H o g = true) : ∃ ck, H o = some ck ∧ ck.gen = g ∧ PtrS ps ck o i f x := by
 unfold live at hl
 cases ho : H o with
 | none => simp [ho] at hl
 | some ck =>
  simp only [ho, beq_iff_eq] at hl
  cases h with
  | ptr _ _ _ _ _ h0 h1 h => exact ⟨ck, rfl, hl, (h ck ho).2 hl⟩
theorem len_sound {x : DV} {v1 : Value} {d : DV} (h : lenV H x = some d) (hx : VR H ps cx.M nx w x v1) : ∃ a n c, v1 = .slice a n c ∧ d = I n := by
 unfold lenV at h
 split at h
 ·injection h with h; subst h
  cases hx with
  | lnil _ a cap hf => exact ⟨a, 0, cap, rfl, rfl⟩
  | lst _ xs b off cap sz' vs hne hs' hcap hf hM hzz h1 hc hv => exact ⟨_, _, cap, rfl, rfl⟩
 ·injection h with h; subst h
  cases hx with
  | own _ _ _ _ _ h0 h1 h => obtain ⟨a, cap, rfl⟩ := h1; exact ⟨a, _, cap, rfl, rfl⟩
 ·cases h
theorem lens_sound {x : DV} {v1 : Value} {d : DV} (h : lensV x = some d) (hx : VR H ps cx.M nx w x v1) : ∃ s, v1 = .string s ∧ d = I s.size := by
 unfold lensV at h
 split at h
 ·injection h with h; subst h
  have := hx.v_inv; subst this
  exact ⟨_, rfl, rfl⟩
 ·cases h
theorem mm2_sound {mx : Bool} {x y d : DV} {v1 v2 : Value} (h : mm2 mx x y = some d) (hx : VR H ps cx.M nx w x v1) (hy : VR H ps cx.M nx w y v2) :
  ∃ v, ((if mx then Builtin.max2 v1 v2 else Builtin.min2 v1 v2).run P w = .ok v w) ∧ VR H ps cx.M nx w d v := by
 unfold mm2 at h
 split at h
 ·injection h with h; subst h
  have e1 := hx.v_inv; have e2 := hy.v_inv
  subst e1; subst e2
  rename_i k a k' b
  cases mx
  ·exact ⟨.int k (if b < a then b else a), by simp [Builtin.min2], .v _⟩
  ·exact ⟨.int k (if a < b then b else a), by simp [Builtin.max2], .v _⟩
 ·cases h
theorem mmL_sound {mx : Bool} : ∀ (l : List DV) (vs : List Value) (x d : DV) (v1 : Value), mmL mx x l = some d → l.length = vs.length → VR H ps cx.M nx w x v1 →
  (∀ j (h1 : j < l.length) (h2 : j < vs.length), VR H ps cx.M nx w l[j] vs[j]) → ∃ v, ((vs.foldlM (if mx then Builtin.max2 else Builtin.min2) v1).run P w = .ok v w) ∧ VR H ps cx.M nx w d v
 | [], [], x, d, v1, h, _, hx, _ => by
  simp only [mmL] at h
  split at h
  ·injection h with h; subst h
   exact ⟨v1, by simp, hx⟩
  ·cases h
 | y :: l, u :: vs, x, d, v1, h, hl, hx, hv => by
  simp only [mmL] at h
  cases hm : mm2 mx x y with
  | none => simp [hm] at h
  | some z =>
   simp only [hm] at h
   obtain ⟨v, hv1, hv2⟩ := mm2_sound (P := P) hm hx (hv 0 (by simp) (by simp))
   obtain ⟨v', hv3, hv4⟩ := mmL_sound l vs z d v h (by simpa using hl) hv2 (fun j h1 h2 => hv (j + 1) (by simpa using h1) (by simpa using h2))
   refine ⟨v', ?_, hv4⟩
   simp only [List.foldlM_cons, Sem.run_bind]
   cases mx <;> simp_all
 | [], _ :: _, _, _, _, _, hl, _, _ => by simp at hl
 | _ :: _, [], _, _, _, _, hl, _, _ => by simp at hl
theorem ros_sound (hp : p = true) (hT : ∀ t, VR H ps cx.M nx w (T t) (a.tmps.getD t undef)) : ∀ (l : List Operand) (rs : List RO), ros l = some rs →
  rs.length = l.length ∧ ∀ j (h1 : j < rs.length) (h2 : j < l.length), VR H ps cx.M nx w (un p (rs[j].get T)) (a.eval l[j])
 | [], rs, h => by simp [ros] at h; subst h; exact ⟨rfl, fun j h1 => by simp at h1⟩
 | x :: l, rs, h => by
  simp only [ros] at h
  cases h1 : ro x with
  | none => simp [h1] at h
  | some x' =>
   cases h2 : ros l with
   | none => simp [h1, h2] at h
   | some r' =>
    simp [h1, h2] at h; subst h
    obtain ⟨k1, k2⟩ := ros_sound hp hT l r' h2
    refine ⟨by simp [k1], fun j h1' h2' => ?_⟩
    cases j with
    | zero => exact ro_un hp h1 hT
    | succ j => exact k2 j (by simpa using h1') (by simpa using h2')
end
end Go.Pv
