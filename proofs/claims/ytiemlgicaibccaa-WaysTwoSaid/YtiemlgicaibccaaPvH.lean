/- Every resolved operation but a call is sound: ev_sound. No condition of its own: over any program. -/
import Derived.Test.YtiemlgicaibccaaPvG
import Derived.Lib.ConvBytes
import Derived.Laws.BytesArg
set_option linter.all false
namespace Go.Pv
open Go.RowKit
section
variable {P : Program} {cx : Cx} {H : Hp} {ps : Ps} {nx : Nat} {w : World} {T : Nat → DV} {p : Bool} {a : Act}
theorem head_of {l : List DV} {d : DV} (h : l.head? = some d) : ∃ h0 : 0 < l.length, d = l[0] := by
 cases l with
 | nil => simp at h
 | cons x r => simp at h; exact ⟨by simp, by simp [h]⟩
theorem part_sound {t : TypeId} {ag : Bool} {n off : Nat} {cs : List DV} {vs : Array Value} {d : DV} (h1 : aggT P t = some ag) (h2 : sizeT P t = some n) (h3 : (ag || n == 1) = true) (hl : vs.size = cs.length)
  (ho : ∀ j, j < cs.length → (vs.getD j undef).oneCell' = true) (hv : ∀ j (hj : j < cs.length), VR H ps cx.M nx w cs[j] (vs.getD j undef)) (hb : off + n ≤ cs.length)
  (h : (if ag then some (.agg ((cs.drop off).take n)) else (cs.drop off).head?) = some d) : ∃ v, (part t vs off).run P w = .ok v w ∧ VR H ps cx.M nx w d v := by
 cases ag with
 | true =>
  simp only [if_true, Option.some.injEq] at h; subst h
  refine ⟨_, run_part_agg h1 h2 vs off w, ?_⟩
  have hg : ∀ j, j < n → (vs.extract off (off + n)).getD j undef = vs.getD (off + j) undef := by
   intro j hj
   simp only [Array.getD_eq_getD_getElem?, Array.getElem?_extract]
   rw [if_pos (by omega)]
  refine .agg _ _ (by simp; omega) (fun j hj => ?_) (fun j hj => ?_)
  ·have hj' : j < n := by simp at hj; omega
   rw [hg j hj']; exact ho _ (by omega)
  ·have hj' : j < n := by simp at hj; omega
   rw [hg j hj']
   have := hv (off + j) (by omega)
   simpa using this
 | false =>
  have hn : n = 1 := by simpa using h3
  subst hn
  simp only [Bool.false_eq_true, if_false] at h
  obtain ⟨h0, rfl⟩ := head_of h
  refine ⟨_, run_part_cell h1 vs off (by omega) w, ?_⟩
  have := hv off (by omega)
  simpa using this
theorem snd_nilck (k : Pre cx H ps nx w T p a) {x : Operand} {x' : RO} {d : DV} {u : Up} (h1 : Pv.ro x = some x') (h : ev (.nilck x') p T H nx = some (d, u)) (o : Oper) (ho : o.op = .nilCheck x) :
  Snd P cx H ps nx w ((execOp a.eval o).run P w) d u := by
 have hx := k.ro h1
 simp only [ev] at h
 simp only [execOp, ho]
 split at h
 ·rename_i o' g i f hd
  split at h
  ·rename_i hl
   injection h with h; injection h with e1 e2; subst e1; subst e2
   rw [hd] at hx
   obtain ⟨ck, _, _, _, q, hq, hval⟩ := hx.ptr_live hl
   rw [hval] at hx ⊢
   exact Snd.pure k.hr k.fr k.lb rfl hx
  ·cases h
 ·rename_i cs hd
  injection h with h; injection h with e1 e2; subst e1; subst e2
  rw [hd] at hx
  generalize a.eval x = v at hx
  cases hx with
  | rp _ b off vs hM h1 hc hv => exact Snd.pure k.hr k.fr k.lb rfl (.rp _ b off vs hM h1 hc hv)
 ·rename_i f cs hd
  injection h with h; injection h with e1 e2; subst e1; subst e2
  rw [hd] at hx
  obtain ⟨vs, hval, hl, hv⟩ := hx.fn_inv
  rw [hval]
  exact Snd.pure k.hr k.fr k.lb rfl (.fn _ _ _ hl hv)
 ·cases h
theorem snd_fadr (k : Pre cx H ps nx w T p a) {t : TypeId} {fs : Array Field} {f : Field} {i n : Nat} {x : Operand} {x' : RO} {d : DV} {u : Up} (ht : P.underlying t = some (.struct fs)) (hf : fs[i]? = some f)
  (hn : sizeT P f.type = some n) (h0 : 0 < n) (h1 : Pv.ro x = some x') (h : ev (.fadr f.offset x') p T H nx = some (d, u)) :
  Snd P cx H ps nx w ((do Pure.pure (Next.value (← Instr.fieldAt t (a.eval x) i)) : Sem Next).run P w) d u := by
 have hx := k.ro h1
 have hrun : ∀ b off, (Instr.fieldAt t (.pointer (some ⟨b, off, none⟩)) i).run P w = .ok (.pointer (some ⟨b, off + f.offset, none⟩)) w := by
  intro b off
  have hne : ¬ n = 0 := by omega
  simp [Instr.fieldAt, run_underlying ht, hf, Instr.sureAddr, fieldPlace, run_sizeT hn, hne, Addr.add_mk]
 simp only [ev] at h
 split at h
 ·rename_i o g i' f' hd
  split at h
  ·rename_i hl
   injection h with h; injection h with e1 e2; subst e1; subst e2
   rw [hd] at hx
   obtain ⟨ck, ho, hg, hi, q, hq, hval⟩ := hx.ptr_live hl
   rw [hval]
   refine k.val (hrun _ _) (.ptr _ _ _ _ _ (k.hr.lt o ck ho) rfl fun ck' hck' => ?_)
   rw [ho] at hck'; injection hck' with hck'; subst hck'
   exact ⟨by omega, fun _ => ⟨hi, q, hq, by simp [Nat.add_assoc]⟩⟩
  ·cases h
 ·rename_i cs hd
  injection h with h; injection h with e1 e2; subst e1; subst e2
  rw [hd] at hx
  generalize a.eval x = v at hx
  cases hx with
  | rp _ b off vs hM h1 hc hv =>
   refine k.val (hrun b off) (.rp _ b (off + f.offset) (fun j => vs (f.offset + j)) (fun hne => hM fun e => hne (by simp [e])) (fun j hj => h1 _ (by simp at hj; omega)) (fun j hj => ?_) (fun j hj => ?_))
   ·have := hc (f.offset + j) (by simp at hj; omega)
    rwa [← Nat.add_assoc] at this
   ·have := hv (f.offset + j) (by simp at hj; omega)
    simpa using this
 ·cases h
theorem snd_iadrA (k : Pre cx H ps nx w T p a) {t e : TypeId} {sz len : Nat} {x y : Operand} {x' y' : RO} {d : DV} {u : Up} (ht : P.underlying t = some (.array len e)) (hn : sizeT P e = some sz) (h1 : Pv.ro x = some x') (h2 : Pv.ro y = some y')
  (h : ev (.iadrA sz len x' y') p T H nx = some (d, u)) :
  Snd P cx H ps nx w ((do Pure.pure (Next.value (← Instr.indexAt t (a.eval x) (a.eval y))) : Sem Next).run P w) d u := by
 have hx := k.ro h1
 have hy := k.ro h2
 have hrun : ∀ b off kk (m : Nat), (m : Int) < len → a.eval y = .int kk (m : Int) → (Instr.indexAt t (.pointer (some ⟨b, off, none⟩)) (a.eval y)).run P w = .ok (.pointer (some ⟨b, off + m * sz, none⟩)) w := by
  intro b off kk m hm hye
  simp only [Instr.indexAt, hye, asIntOf, Sem.run_bind, Sem.run_pure, Result.andThen_ok, run_underlying ht, Instr.sureAddr]
  rw [if_pos ⟨Int.natCast_nonneg m, hm⟩]
  simp [run_sizeT hn, Addr.add_mk]
 simp only [ev] at h
 split at h
 ·rename_i o g j f kk n hd hdy
  rw [hd] at hx; rw [hdy] at hy
  split at h
  ·rename_i hc
   obtain ⟨hl, c1, c2⟩ := hc
   injection h with h; injection h with e1 e2; subst e1; subst e2
   obtain ⟨m, rfl⟩ := Int.eq_ofNat_of_zero_le c1
   obtain ⟨ck, ho, hg, hi, q, hq, hval⟩ := hx.ptr_live hl
   rw [hval]
   refine k.val (hrun _ _ kk m c2 hy.v_inv) (.ptr _ _ _ _ _ (k.hr.lt o ck ho) rfl fun ck' hck' => ?_)
   rw [ho] at hck'; injection hck' with hck'; subst hck'
   exact ⟨by omega, fun _ => ⟨hi, q, hq, by simp [Nat.add_assoc]⟩⟩
  ·cases h
 ·rename_i cs kk n hd hdy
  rw [hd] at hx; rw [hdy] at hy
  split at h
  ·rename_i hc
   obtain ⟨c1, c2⟩ := hc
   injection h with h; injection h with e1 e2; subst e1; subst e2
   obtain ⟨m, rfl⟩ := Int.eq_ofNat_of_zero_le c1
   generalize hvx : a.eval x = v at hx
   cases hx with
   | rp _ b off vs hM h1 hc hv =>
    simp only [Int.toNat_natCast]
    refine k.val (hrun b off kk m c2 hy.v_inv) (.rp _ b (off + m * sz) (fun j => vs (m * sz + j)) (fun hne => hM fun e => hne (by simp [e])) (fun j hj => h1 _ (by simp at hj; omega)) (fun j hj => ?_) (fun j hj => ?_))
    ·have := hc (m * sz + j) (by simp at hj; omega)
     rwa [← Nat.add_assoc] at this
    ·have := hv (m * sz + j) (by simp at hj; omega)
     simpa using this
  ·cases h
 ·cases h
theorem bl_size (s : ByteArray) : (bl s).length = s.size := by show s.data.toList.length = s.data.size; exact Array.length_toList
theorem snd_s2b (k : Pre cx H ps nx w T p a) {src dst e : TypeId} {x : Operand} {x' : RO} {d : DV} {u : Up} (hs : P.underlying src = some .string) (hd : P.underlying dst = some (.slice e)) (he : P.underlying e = some (.int .u8))
  (h1 : Pv.ro x = some x') (h : ev (.s2b x') p T H nx = some (d, u)) :
  Snd P cx H ps nx w ((do Pure.pure (Next.value (← convert src dst (a.eval x))) : Sem Next).run P w) d u := by
 have hx := k.ro h1
 simp only [ev] at h
 split at h
 ·rename_i s hsd
  rw [hsd] at hx
  injection h with h; injection h with e1 e2; subst e1; subst e2
  rw [hx.v_inv]
  have hrun := Lib.run_convert_string_bytes (P := P) w src dst e s hs hd he
  have hge := grownCap_ge w s.size 0 e
  have hcs : (Lib.bytesCells w e s).size = grownCap w s.size 0 e := by
   unfold Lib.bytesCells
   simp only [Array.size_append, Array.size_map, Array.size_replicate]
   have : s.data.size = s.size := rfl
   omega
  have hbl := bl_size s
  have hcell : ∀ i, i < s.size → (Lib.bytesCells w e s)[i]? = some (.int .u8 ((bl s).getD i 0).toNat) := fun i hi => by
   unfold Lib.bytesCells
   have hi' : i < s.data.size := hi
   rw [Array.getElem?_append_left (by simpa using hi')]
   have e0 := Array.getElem?_eq_getElem hi'
   simp [bl, e0]
  have hg : Grew w (Lib.bytesWorld w e s) := ⟨rfl, rfl, rfl, by rw [Lib.bytesWorld_size]; omega, fun b hb => Lib.bytesWorld_at_old w e s b hb⟩
  have hm := Mv.upd (cx := cx) nx ⟨0, 1, (bl s).map byRow⟩ (some ⟨w.heap.size, 0, grownCap w s.size 0 e⟩) (nx + 1) (Lib.bytesWorld w e s) k.hr k.fr k.lb (by omega) (by omega) (.inl (Nat.le_refl _)) (hg.but _)
   (fun p' hp' => by injection hp' with hp'; subst hp'; exact .inr (Nat.le_refl _)) (fun kp => by
    refine .inr ⟨⟨w.heap.size, 0, grownCap w s.size 0 e⟩, Lib.bytesCells w e s, e, fun i _ => .int .u8 ((bl s).getD i 0).toNat, Ps.put_same .., ⟨_, Lib.bytesWorld_at_new w e s, .inr rfl⟩, hcs, ?_, ?_, ?_, ?_⟩
    ·intro i hi; simp [byRow]
    ·simp only [List.length_map]; omega
    ·intro i j hi hj
     simp only [List.length_map] at hi
     have hj : j < (1 : Nat) := hj
     have hj : j = 0 := by omega
     subst hj
     exact ⟨rfl, by simpa using hcell i (by omega)⟩
    ·intro i j hi hj
     have hi' : i < (bl s).length := by simpa using hi
     have hj' : j = 0 := by simp [byRow] at hj; omega
     subst hj'
     simp only [List.getElem_map, byRow, List.getElem_cons_zero, List.getD_eq_getElem?_getD, List.getElem?_eq_getElem hi', Option.getD_some]
     exact .v _)
  refine Snd.of_v ⟨.slice (some ⟨w.heap.size, 0, none⟩) s.size (grownCap w s.size 0 e), _, _, by simp only [Sem.run_bind, hrun, Result.andThen_ok, Sem.run_pure], ?_, hm⟩
  refine .own _ _ _ _ _ (by show nx < nx + 1; omega) ⟨_, _, by rw [hbl]⟩ fun ck' hck' => ?_
  rw [show (Up.al (⟨0, 1, (bl s).map byRow⟩ : Ck)).hp H nx = H.put nx (some ⟨0, 1, (bl s).map byRow⟩) from rfl, Hp.put_same] at hck'
  injection hck' with hck'; subst hck'
  exact ⟨Nat.le_refl _, fun _ => ⟨by simp, some ⟨w.heap.size, 0, none⟩, grownCap w s.size 0 e, by rw [hbl], by omega, .inr ⟨⟨w.heap.size, 0, grownCap w s.size 0 e⟩, Ps.put_same .., by simp, by simp⟩⟩⟩
 ·cases h
theorem rowsBy_at : ∀ {rows : List (List DV)} {bs : List UInt8}, rowsBy rows = some bs → rows.length = bs.length ∧ ∀ i (hi : i < rows.length), ∃ n : Int, rows[i] = [.v (.int .u8 n)] ∧ bs[i]? = some (UInt8.ofNat n.toNat)
 | [], bs, h => by simp only [rowsBy, Option.some.injEq] at h; subst h; exact ⟨rfl, fun i hi => absurd hi (Nat.not_lt_zero _)⟩
 | r :: l, bs, h => by
  simp only [rowsBy] at h
  split at h
  ·rename_i b bs' h1 h2
   injection h with h; subst h
   obtain ⟨e1, e2⟩ := rowsBy_at h2
   refine ⟨by simp [e1], fun i hi => ?_⟩
   cases i with
   | zero =>
    unfold rowBy at h1
    split at h1
    ·rename_i n
     injection h1 with h1
     exact ⟨n, rfl, by simp [h1]⟩
    ·cases h1
   | succ i => simpa using e2 i (by simpa using hi)
  ·cases h
theorem snd_b2s (k : Pre cx H ps nx w T p a) {src dst e : TypeId} {x : Operand} {x' : RO} {d : DV} {u : Up} (hs : P.underlying src = some (.slice e)) (hd : P.underlying dst = some .string) (he : P.underlying e = some (.int .u8))
  (h1 : Pv.ro x = some x') (h : ev (.b2s x') p T H nx = some (d, u)) :
  Snd P cx H ps nx w ((do Pure.pure (Next.value (← convert src dst (a.eval x))) : Sem Next).run P w) d u := by
 have hx := k.ro h1
 simp only [ev] at h
 split at h
 ·rename_i rows hel
  cases hb : rowsBy rows with
  | none => rw [hb] at h; cases h
  | some bs =>
   rw [hb] at h
   injection h with h; injection h with e1 e2; subst e1; subst e2
   obtain ⟨hl, hat⟩ := rowsBy_at hb
   obtain ⟨xa, xc, vs, hxe, hfl, hcell⟩ := elemsV_sound k.hr hel (sz := 1) (fun c hc => by
    obtain ⟨i, hi, rfl⟩ := List.mem_iff_getElem.1 hc
    obtain ⟨n, hn, _⟩ := hat i hi
    rw [hn]; rfl) hx
   rw [hxe]
   have fin : ∀ v, (convert src dst (.slice xa rows.length xc)).run P w = .ok v w → v = .string (mkS bs) → Snd P cx H ps nx w ((do Pure.pure (Next.value (← convert src dst (.slice xa rows.length xc))) : Sem Next).run P w) (.v (.string (mkS bs))) .no := fun v hv hvv => by
    subst hvv
    exact k.val hv (.v _)
   by_cases h0 : rows = []
   ·subst h0
    have : bs = [] := List.eq_nil_of_length_eq_zero (by simpa using hl.symm)
    subst this
    refine fin (.string (mkS [])) ?_ rfl
    rw [run_convert_bytes_string w src dst e _ _ _ hs he hd]
    cases xa <;> simp [Conv.bytesToString, loadCells, mkS] <;> rfl
   ·obtain ⟨b, off, rfl, hc⟩ := hcell h0
    let xs : List Int := rows.map fun r => match r with
     | [.v (.int .u8 n)] => n
     | _ => 0
    have hxs : xs.length = rows.length := by simp [xs]
    refine fin _ (run_convert_bytes_arg w src e hs he b off rows.length xc xs hxs (fun i hi => ?_) dst hd) ?_
    ·obtain ⟨n, hn, _⟩ := hat i hi
     have hg := hfl.get (i := i) (j := 0) hi (by omega)
     have hr := hfl.r i 0 hi (by rw [hn]; simp)
     simp only [hn, List.getElem_cons_zero] at hr
     have hv := hr.v_inv
     have := hc (i * 1 + 0) _ hg.1
     rw [hv] at this
     simp only [Nat.mul_one, Nat.add_zero] at this
     rw [this]
     simp [xs, hi, hn]
    ·congr 1
     unfold strOfNums mkS
     congr 2
     refine List.ext_getElem? fun i => ?_
     by_cases hi : i < rows.length
     ·obtain ⟨n, hn, hb'⟩ := hat i hi
      rw [hb']
      simp [xs, hi, hn]
     ·rw [List.getElem?_eq_none (by simp [xs]; omega), List.getElem?_eq_none (by omega)]
 ·cases h
theorem Mv.fill {P : Program} {cx : Cx} {H : Hp} {ps : Ps} {nx : Nat} {w : World} {o lo : Nat} {ck : Ck} {p : Ph} {rows : List (List DV)} {ns : List Value}
  (hr : HR H ps cx.M nx w) (fr : Fr cx.B cx.w0 w) (lb : ∀ o ck p, H o = some ck → ps o = some p → cx.B p.b ∨ cx.w0.heap.size ≤ p.b)
  (ho : H o = some ck) (hp : ps o = some p) (hi : lo + rows.length ≤ ck.xs.length) (hf : FL H ps cx.M nx w rows ck.sz ns) :
  ∃ w', (storeCells ⟨p.b, p.k + lo * ck.sz, none⟩ ns).run P w = .ok () w' ∧ Mv cx H ps nx w (H.put o (some ⟨ck.gen, ck.sz, fillR ck.xs lo rows⟩)) ps nx w' := by
 have hps : ps.put o (some p) = ps := by funext o'; simp only [Ps.put]; split <;> simp_all
 rcases hr.cr o ck ho with ⟨q1, q2⟩ | ⟨p', c, E, vs, q1, q2, q3, q4, q5, q6, q7⟩
 ·simp [q1] at hp
 ·rw [hp] at q1; injection q1 with q1; subst q1
  have hrow : (lo + rows.length) * ck.sz ≤ ck.xs.length * ck.sz := Nat.mul_le_mul_right _ hi
  rw [Nat.add_mul] at hrow
  have hnl := hf.l
  have hfit : p.k + lo * ck.sz + ns.length ≤ c.size := by omega
  obtain ⟨hst, q2'⟩ := q2.store (P := P) (p.k + lo * ck.sz) ns hfit hf.o
  refine ⟨_, hst, ?_⟩
  have hlen : (fillR ck.xs lo rows).length = ck.xs.length := by simp [fillR]; omega
  have hget : ∀ i (h : i < (fillR ck.xs lo rows).length), (∃ h1 : i - lo < rows.length, lo ≤ i ∧ (fillR ck.xs lo rows)[i] = rows[i - lo]) ∨ (∃ h1 : i < ck.xs.length, (i < lo ∨ lo + rows.length ≤ i) ∧ (fillR ck.xs lo rows)[i] = ck.xs[i]) := fun i h => by
   rw [hlen] at h
   simp only [fillR, List.getElem_append, List.length_append, List.length_take, List.getElem_take, List.getElem_drop]
   by_cases h1 : i < lo
   ·refine .inr ⟨h, .inl h1, ?_⟩
    simp [show i < min lo ck.xs.length + rows.length by omega, show i < min lo ck.xs.length by omega]
   ·by_cases h2 : i < lo + rows.length
    ·refine .inl ⟨by omega, by omega, ?_⟩
     simp [h1, h2, show min lo ck.xs.length = lo by omega]
    ·refine .inr ⟨h, .inr (by omega), ?_⟩
     simp [show ¬ i < min lo ck.xs.length + rows.length by omega, show lo + rows.length + (i - (min lo ck.xs.length + rows.length)) = i by omega]
  have key := Mv.upd o ⟨ck.gen, ck.sz, fillR ck.xs lo rows⟩ (some p) nx (hr := hr) (fr := fr) (lb := lb) (hn := Nat.le_refl _) (ho := hr.lt o ck ho)
   (hold := .inr ⟨ck, ho, .inr ⟨rfl, rfl, by rw [hlen]; exact Nat.le_refl _, hp.symm⟩⟩)
   (w' := w.setRow p.b (c.toList.take (p.k + lo * ck.sz) ++ ns ++ c.toList.drop (p.k + lo * ck.sz + ns.length)).toArray)
   (g := ⟨rfl, rfl, rfl, by simp [World.setRow], fun b hb hne => setRow_other w p.b b _ fun e => hne ⟨ck, p, ho, hp, e⟩⟩)
   (hb := fun p' e => by injection e with e; subst e; exact .inl ⟨ck, p, ho, hp, rfl⟩) (hcr := ?_)
  ·rwa [hps] at key
  ·intro kp
   refine .inr ⟨p, _, E, fun i j => if lo ≤ i ∧ i < lo + rows.length then ns.getD ((i - lo) * ck.sz + j) undef else vs i j, Ps.put_same .., q2', ?_, ?_, ?_, ?_, ?_⟩
   ·simp; omega
   ·intro i hi'
    rcases hget i hi' with ⟨g1, _, g3⟩ | ⟨g1, _, g3⟩
    ·show (fillR ck.xs lo rows)[i].length = _
     rw [g3]; exact hf.z _ _
    ·show (fillR ck.xs lo rows)[i].length = _
     rw [g3]; exact q4 _ _
   ·show p.k + (fillR ck.xs lo rows).length * ck.sz ≤ _
    rw [hlen]; exact q5
   ·intro i j hi' hj
    have hi2 : i < ck.xs.length := by rw [← hlen]; exact hi'
    have hj : j < ck.sz := hj
    have hmul : i * ck.sz + ck.sz ≤ ck.xs.length * ck.sz := by
     have := Nat.mul_le_mul_right ck.sz (Nat.succ_le_of_lt hi2)
     rwa [Nat.succ_mul] at this
    dsimp only
    rw [over_get c _ ns hfit]
    by_cases hin : lo ≤ i ∧ i < lo + rows.length
    ·obtain ⟨d, rfl⟩ : ∃ d, i = lo + d := ⟨i - lo, by omega⟩
     have hd : d < rows.length := by omega
     have hdm : d * ck.sz + ck.sz ≤ rows.length * ck.sz := by
      have := Nat.mul_le_mul_right ck.sz (Nat.succ_le_of_lt hd)
      rwa [Nat.succ_mul] at this
     have hb : d * ck.sz + j < ns.length := by omega
     have e1 : (lo + d) * ck.sz = lo * ck.sz + d * ck.sz := Nat.add_mul ..
     rw [if_pos hin, if_pos (by omega), Nat.add_sub_cancel_left]
     have e2 : p.k + ((lo + d) * ck.sz + j) - (p.k + lo * ck.sz) = d * ck.sz + j := by omega
     rw [e2]
     refine ⟨?_, ?_⟩
     ·simp only [List.getD, List.getElem?_eq_getElem hb, Option.getD_some]; exact hf.o _ (List.getElem_mem hb)
     ·simp only [List.getD, List.getElem?_eq_getElem hb, Option.getD_some]
    ·rw [if_neg hin]
     refine ⟨(q6 i j hi2 hj).1, ?_⟩
     rw [if_neg ?_]
     ·exact (q6 i j hi2 hj).2
     ·intro hcon
      apply hin
      rcases Nat.lt_or_ge i lo with hlt | hge
      ·have := Nat.mul_le_mul_right ck.sz (Nat.succ_le_of_lt hlt)
       rw [Nat.succ_mul] at this; omega
      ·refine ⟨hge, ?_⟩
       rcases Nat.lt_or_ge i (lo + rows.length) with h | h
       ·exact h
       ·have := Nat.mul_le_mul_right ck.sz h
        rw [Nat.add_mul] at this; omega
   ·intro i j hi' hj'
    have hi2 : i < (fillR ck.xs lo rows).length := hi'
    have hj2 : j < (fillR ck.xs lo rows)[i].length := hj'
    show VR _ _ _ _ _ ((fillR ck.xs lo rows)[i][j]) _
    dsimp only
    rcases hget i hi2 with ⟨g1, g2, g3⟩ | ⟨g1, g2, g3⟩
    ·rw [if_pos ⟨g2, by omega⟩]
     have hj3 : j < rows[i - lo].length := by rw [← g3]; exact hj2
     have := (hf.r (i - lo) j g1 hj3).mono kp
     simpa only [g3] using this
    ·rw [if_neg (by omega)]
     have hj3 : j < ck.xs[i].length := by rw [← g3]; exact hj2
     have := (q7 i j g1 hj3).mono kp
     simpa only [g3] using this
theorem snd_clr (k : Pre cx H ps nx w T p a) {t e ty : TypeId} {i : TypeInfo} {z : List DV} {x : Operand} {x' : RO} {d : DV} {u : Up} (ht : P.underlying t = some (.slice e)) (hi : P.info? e = some i) (hz : zeroOf P e = some z) (h0 : 0 < i.size)
  (h1 : Pv.ro x = some x') (h : ev (.clr i.size z x') p T H nx = some (d, u)) :
  Snd P cx H ps nx w ((do Pure.pure (Next.value (← Builtin.clear_ #[t] ty #[a.eval x])) : Sem Next).run P w) d u := by
 have hx := k.ro h1
 obtain ⟨i', v, q1, hzv, hs, hl, hva⟩ := k.va hz
 rw [hi] at q1; injection q1 with q1; subst q1
 have hzz : z = v.cells.toList.map ofC := by
  obtain ⟨i', v', q1, q2, _, _, q5, _⟩ := zeroOf_sound hz
  rw [hi] at q1; injection q1 with q1; subst q1; rw [hzv] at q2; injection q2 with q2; subst q2; exact q5
 have hzr : (zeroValue e).run P w = .ok v w := by simp [zeroValue, typeInfo, hi, hzv]
 simp only [ev, Option.map_eq_some_iff, Prod.mk.injEq] at h
 obtain ⟨u', h, rfl, rfl⟩ := h
 generalize un p (x'.get T) = dx at hx h
 unfold clrV at h
 split at h
 ·rename_i o g lo n
  cases ho : H o with
  | none => simp [ho] at h
  | some ck =>
   simp only [ho] at h
   split at h
   ·rename_i hc
    obtain ⟨c1, c2, c3⟩ := hc
    injection h with h; subst h
    cases hx with
    | own _ _ _ _ _ h0' h1' hh =>
     obtain ⟨_, hh⟩ := hh ck ho
     obtain ⟨hle, ad, cap, hval, hn, hcap⟩ := hh c1
     have hrow := zeroRow_va (H := H) (ps := ps) (M := cx.M) (nx := nx) (w := w) v i.size n (by omega) h0 (fun j hj => by have := hva.o j (by rw [← hva.l]; exact hj); exact this)
     rw [← hzz] at hrow
     have hzl : ∀ c ∈ List.replicate n z, c.length = i.size := fun c hc => by rw [List.eq_of_mem_replicate hc]; omega
     have hfl := hrow.fl hzl
     by_cases hn0 : n = 0
     ·subst hn0
      have hsame : fillR ck.xs lo (List.replicate 0 z) = ck.xs := by simp [fillR]
      have hput : H.put o (some ⟨ck.gen, ck.sz, fillR ck.xs lo (List.replicate 0 z)⟩) = H := by
       rw [hsame]; funext o'
       by_cases e : o' = o
       ·subst e; rw [Hp.put_same, ho]
       ·rw [Hp.put_ne _ _ _ e]
      refine ⟨.value (.tuple #[]), _, w, ps, ?_, .inl rfl, .v _, ?_⟩
      ·rw [hval]
       cases ad <;> simp [Builtin.clear_, run_underlying ht]
      ·show Mv cx H ps nx w (H.put o _) ps nx w
       rw [hput]; exact Mv.grew k.hr k.fr k.lb (Grew.refl w)
     ·rcases hcap with hcap | ⟨q, hq, rfl, htot⟩
      ·omega
      ·obtain ⟨w', hrun, hmv⟩ := Mv.fill (P := P) (rows := List.replicate n z) (lo := lo) k.hr k.fr k.lb ho hq (by simpa using c3) (by rw [c2]; exact hfl)
       refine ⟨.value (.tuple #[]), _, w', ps, ?_, .inl rfl, .v _, hmv⟩
       have hcells : (Builtin.zeroCells v.cells n).toList = ((Array.range (n * i.size)).map (v.cells[· % v.cells.size]!)).toList := by
        have hvs : v.cells.size = i.size := by omega
        simp only [Builtin.zeroCells, hvs]
       rw [hval]
       obtain ⟨m, rfl⟩ : ∃ m, n = m + 1 := ⟨n - 1, by omega⟩
       have hrun' : (storeCells ⟨q.b, q.k + lo * ck.sz, none⟩ (Builtin.zeroCells v.cells (m + 1)).toList).run P w = .ok () w' := by rw [hcells]; exact hrun
       simp [Builtin.clear_, run_underlying ht, hzr, hrun']
   ·cases h
 ·cases h
theorem snd_mksl (k : Pre cx H ps nx w T p a) {t e : TypeId} {i : TypeInfo} {z : List DV} {x y : Operand} {x' y' : RO} {d : DV} {u : Up} (ht : P.underlying t = some (.slice e)) (hi : P.info? e = some i) (hz : zeroOf P e = some z) (h0 : 0 < i.size)
  (h1 : Pv.ro x = some x') (h2 : Pv.ro y = some y') (h : ev (.mksl i.size i.bytes z x' y') p T H nx = some (d, u)) :
  Snd P cx H ps nx w ((do Pure.pure (Next.value (← Instr.makeSlice t (a.eval x) (a.eval y))) : Sem Next).run P w) d u := by
 have hx := k.ro h1
 have hy := k.ro h2
 obtain ⟨i', v, q1, hzv, hs, hl, hva⟩ := k.va hz
 rw [hi] at q1; injection q1 with q1; subst q1
 have hzz : z = v.cells.toList.map ofC := by
  obtain ⟨i', v', q1, q2, _, _, q5, _⟩ := zeroOf_sound hz
  rw [hi] at q1; injection q1 with q1; subst q1; rw [hzv] at q2; injection q2 with q2; subst q2; exact q5
 simp only [ev] at h
 split at h
 ·rename_i l c hd hdy
  rw [hd] at hx; rw [hdy] at hy
  split at h
  ·rename_i hc
   obtain ⟨c1, c2, c3, c4⟩ := hc
   injection h with h; injection h with e1 e2; subst e1; subst e2
   rw [hx.v_inv, hy.v_inv]
   have hrun := run_make (P := P) w t e i v ht hi hzv .i64 .i64 l c c1 c2 (by omega) (by omega)
   obtain ⟨ln, rfl⟩ := Int.eq_ofNat_of_zero_le c1
   obtain ⟨cn, rfl⟩ := Int.eq_ofNat_of_zero_le (show 0 ≤ c by omega)
   simp only [Int.toNat_natCast] at hrun ⊢
   have hlc : ln ≤ cn := by omega
   have hrow := zeroRow_va (H := H) (ps := ps) (M := cx.M) (nx := nx) (w := w) v i.size cn (by omega) h0 (fun j hj => by have := hva.o j (by rw [← hva.l]; exact hj); exact this)
   rw [← hzz] at hrow
   have hzl : ∀ c ∈ List.replicate cn z, c.length = i.size := fun c hc => by rw [List.eq_of_mem_replicate hc]; omega
   have hfl := hrow.fl hzl
   have hmc : madeCells v.cells (cn * i.size) = (Array.range (cn * i.size)).map (v.cells[· % v.cells.size]!) := rfl
   rw [← hmc] at hfl
   have hm := Mv.al (cx := cx) ⟨0, i.size, List.replicate ln z⟩ (madeCells v.cells (cn * i.size)) e (fun a b => (madeCells v.cells (cn * i.size)).toList.getD (a * i.size + b) undef) k.hr k.fr k.lb
    (fun j hj => by simp only [List.getElem_replicate]; omega) (by simp only [List.length_replicate, size_madeCells]; exact Nat.mul_le_mul_right _ hlc)
    (fun a b ha hb => by
     simp only [List.length_replicate] at ha
     have := hfl.get (i := a) (j := b) (by simp; omega) hb
     exact ⟨this.2, by have := this.1; simpa using this⟩)
    (fun a b ha hb => by
     simp only [List.length_replicate] at ha
     have := hfl.r a b (by simp; omega) (by simpa using hb)
     simpa using this)
   refine Snd.of_v ⟨_, _, _, hrun, ?_, hm⟩
   refine .own _ _ _ _ _ (by simp [Up.nx]) ⟨_, _, rfl⟩ fun ck' hck' => ?_
   simp only [Up.hp, Hp.put_same, Option.some.injEq] at hck'; subst hck'
   exact ⟨Nat.le_refl _, fun _ => ⟨by simp, _, _, rfl, hlc, .inr ⟨_, Ps.put_same .., by simp, by simp [size_madeCells]⟩⟩⟩
  ·cases h
 ·cases h
end
end Go.Pv
