/- The resolved operations are sound: what 'ev' computes on plain data, the model's operation does in memory. No condition of its own: lemmas over any program. -/
import Derived.Test.YtiemlgicaibccaaPvB
set_option linter.all false
namespace Go.Pv
open Go.RowKit
theorem idx_lt {i j n sz : Nat} (hi : i < n) (hj : j < sz) : i * sz + j < n * sz := by
 have := Nat.mul_le_mul_right sz (Nat.succ_le_of_lt hi)
 rw [Nat.succ_mul] at this; omega
theorem ofC_sound {H ps M nx w} (x : Value) : VR H ps M nx w (ofC x) x := by
 unfold ofC; split
 ·rename_i h
  cases x with
  | slice a l c =>
   cases a with
   | none =>
    simp [isNilSlice] at h
    obtain ⟨rfl, rfl⟩ := h
    exact .lnil true none 0 (fun _ => rfl)
   | some a => simp [isNilSlice] at h
  | _ => simp [isNilSlice] at h
 ·split
  ·rename_i f h
   cases x with
   | func g a b =>
    cases g with
    | func g =>
     simp [fnOf] at h
     obtain ⟨⟨rfl, rfl⟩, rfl⟩ := h
     exact .fn _ [] #[] rfl (fun j hj => by simp at hj)
    | _ => simp [fnOf] at h
   | _ => simp [fnOf] at h
  ·exact .v _
theorem cellsOk_at {cs : Array Value} (h : cellsOk cs = true) (j : Nat) (hj : j < cs.size) : (cs.getD j undef).oneCell' = true := by
 unfold cellsOk at h
 rw [List.all_eq_true] at h
 have : cs.getD j undef = cs[j] := by simp [Array.getD, hj]
 rw [this]; exact h _ (by simp)
theorem ofV_sound {H ps M nx w x d} (h : ofV x = some d) : VR H ps M nx w d x := by
 unfold ofV at h; split at h
 ·split at h
  ·rename_i cs hk
   injection h with h; subst h
   refine .agg _ _ (by simp) (fun j hj => cellsOk_at hk j (by simpa using hj)) fun j hj => ?_
   have hj' : j < cs.size := by simpa using hj
   have : cs.getD j undef = cs[j] := by simp [Array.getD, hj']
   rw [this]; simp only [List.getElem_map, Array.getElem_toList]; exact ofC_sound _
  ·cases h
 ·cases h
 ·injection h with h; subst h; exact ofC_sound _
theorem ro_sound {H ps M nx w x r T} {a : Act} (h : ro x = some r) (hT : ∀ t, VR H ps M nx w (T t) (a.tmps.getD t undef)) :
  VR H ps M nx w (r.get T) (a.eval x) := by
 unfold ro at h; split at h
 ·injection h with h; subst h; exact hT _
 ·rename_i v
  cases hv : ofV v with
  | none => simp [hv] at h
  | some d => simp [hv] at h; subst h; exact ofV_sound hv
 ·cases h
 ·injection h with h; subst h; exact .fn _ [] #[] rfl (fun j hj => by simp at hj)
theorem un_sound {H ps M nx w d x} {p : Bool} (hp : p = true) (h : VR H ps M nx w d x) : VR H ps M nx w (un p d) x := by
 cases h with
 | gd q d x h h2 =>
  simp only [un]; split
  ·rename_i hq; subst hp; simp at hq; exact h hq
  ·exact .any _
 | _ => simp only [un]; constructor <;> assumption
theorem ro_un {H ps M nx w x r T p} {a : Act} (hp : p = true) (h : ro x = some r) (hT : ∀ t, VR H ps M nx w (T t) (a.tmps.getD t undef)) :
  VR H ps M nx w (un p (r.get T)) (a.eval x) := un_sound hp (ro_sound h hT)
theorem VR.v_inv {H ps M nx w x y} (h : VR H ps M nx w (.v x) y) : y = x := by cases h; rfl
theorem VR.agg_inv {H ps M nx w cs y} (h : VR H ps M nx w (.agg cs) y) : ∃ vs, y = .agg vs ∧ vs.size = cs.length ∧ (∀ j, j < cs.length → (vs.getD j undef).oneCell' = true) ∧
  ∀ j (hj : j < cs.length), VR H ps M nx w cs[j] (vs.getD j undef) := by cases h with | agg _ vs hl h1 hv => exact ⟨vs, rfl, hl, h1, hv⟩
theorem VR.tup_inv {H ps M nx w cs y} (h : VR H ps M nx w (.tup cs) y) : ∃ vs, y = .tuple vs ∧ vs.size = cs.length ∧
  ∀ j (hj : j < cs.length), VR H ps M nx w cs[j] (vs.getD j undef) := by cases h with | tup _ vs hl hv => exact ⟨vs, rfl, hl, hv⟩
theorem VR.fn_inv {H ps M nx w f cs y} (h : VR H ps M nx w (.fn f cs) y) : ∃ vs, y = .func (.func f) #[] vs ∧ vs.size = cs.length ∧
  ∀ j (hj : j < cs.length), VR H ps M nx w cs[j] (vs.getD j undef) := by cases h with | fn _ _ vs hl hv => exact ⟨vs, rfl, hl, hv⟩
theorem dcells_sound {H ps M nx w d x cs} (h : dcells d = some cs) (hv : VR H ps M nx w d x) :
  x.cells.size = cs.length ∧ (∀ j, j < cs.length → (x.cells.getD j undef).oneCell' = true) ∧ ∀ j (hj : j < cs.length), VR H ps M nx w cs[j] (x.cells.getD j undef) := by
 have single : ∀ d : DV, isCell d = true → VR H ps M nx w d x → (x.cells.size = [d].length ∧ (∀ j, j < [d].length → (x.cells.getD j undef).oneCell' = true) ∧ ∀ j (hj : j < [d].length), VR H ps M nx w [d][j] (x.cells.getD j undef)) := by
  intro d hd hv
  have h1 := hv.oneCell hd
  have hc : x.cells = #[x] := by cases x <;> simp_all [Value.cells, Value.oneCell']
  rw [hc]
  refine ⟨rfl, fun j hj => ?_, fun j hj => ?_⟩
  ·have : j = 0 := by simpa using hj
   subst this; exact h1
  ·have : j = 0 := by simpa using hj
   subst this; exact hv
 cases d with
 | agg cs' =>
  simp only [dcells, Option.some.injEq] at h; subst h
  obtain ⟨vs, rfl, hl, h1, h2⟩ := hv.agg_inv
  exact ⟨hl, h1, h2⟩
 | v x' =>
  simp only [dcells] at h; split at h
  ·rename_i h1; injection h with h; subst h; exact single _ h1 hv
  ·cases h
 | ptr => simp only [dcells, Option.some.injEq] at h; subst h; exact single _ rfl hv
 | own => simp only [dcells, Option.some.injEq] at h; subst h; exact single _ rfl hv
 | lst => simp only [dcells, Option.some.injEq] at h; subst h; exact single _ rfl hv
 | rp => simp only [dcells, Option.some.injEq] at h; subst h; exact single _ rfl hv
 | fn => simp only [dcells, Option.some.injEq] at h; subst h; exact single _ rfl hv
 | _ => simp [dcells] at h
theorem Mv.al {cx : Cx} {H : Hp} {ps : Ps} {nx : Nat} {w : World} (ck : Ck) (c : Array Value) (E : TypeId) (vs : Nat → Nat → Value)
  (hr : HR H ps cx.M nx w) (fr : Fr cx.B cx.w0 w) (lb : ∀ o ck p, H o = some ck → ps o = some p → cx.B p.b ∨ cx.w0.heap.size ≤ p.b)
  (hz : ∀ i (hi : i < ck.xs.length), ck.xs[i].length = ck.sz) (hs : ck.xs.length * ck.sz ≤ c.size)
  (hc : ∀ i j, i < ck.xs.length → j < ck.sz → (vs i j).oneCell' = true ∧ c[i * ck.sz + j]? = some (vs i j))
  (hv : ∀ i j (hi : i < ck.xs.length) (hj : j < ck.xs[i].length), VR H ps cx.M nx w ck.xs[i][j] (vs i j)) :
  Mv cx H ps nx w (H.put nx (some ck)) (ps.put nx (some ⟨w.heap.size, 0, c.size⟩)) (nx + 1) (w.alloc (.cells c E)) := by
 refine Mv.upd nx ck (some ⟨w.heap.size, 0, c.size⟩) (nx + 1) _ hr fr lb (by omega) (by omega) (.inl (Nat.le_refl _)) ((Grew.alloc w _).but _) ?_ ?_
 ·intro p' hp'; injection hp' with hp'; subst hp'; exact .inr (Nat.le_refl _)
 ·intro kp
  refine .inr ⟨⟨w.heap.size, 0, c.size⟩, c, E, vs, Ps.put_same .., ?_, rfl, hz, by simpa using hs, ?_, fun i j hi hj => (hv i j hi hj).mono kp⟩
  ·exact CellsAt.of (by show (w.heap.push _)[w.heap.size]? = _; simp)
  ·intro i j hi hj; simpa using hc i j hi hj
theorem newRow_run {P : Program} (w : World) (E : TypeId) (c : Array Value) : (newRow E c).run P w = .ok ⟨w.heap.size, 0, none⟩ (w.alloc (.cells c E)) := rfl
theorem Mv.box {cx : Cx} {H : Hp} {ps : Ps} {nx : Nat} {w : World} (cs : List DV) (c : Array Value) (E : TypeId)
  (hr : HR H ps cx.M nx w) (fr : Fr cx.B cx.w0 w) (lb : ∀ o ck p, H o = some ck → ps o = some p → cx.B p.b ∨ cx.w0.heap.size ≤ p.b)
  (hl : c.size = cs.length) (h1 : ∀ j, j < cs.length → (c.getD j undef).oneCell' = true) (hv : ∀ j (hj : j < cs.length), VR H ps cx.M nx w cs[j] (c.getD j undef)) :
  Mv cx H ps nx w (H.put nx (some ⟨0, cs.length, [cs]⟩)) (ps.put nx (some ⟨w.heap.size, 0, c.size⟩)) (nx + 1) (w.alloc (.cells c E)) ∧
  VR (H.put nx (some ⟨0, cs.length, [cs]⟩)) (ps.put nx (some ⟨w.heap.size, 0, c.size⟩)) cx.M (nx + 1) (w.alloc (.cells c E)) (.ptr nx 0 0 0) (.pointer (some ⟨w.heap.size, 0, none⟩)) := by
 refine ⟨Mv.al ⟨0, cs.length, [cs]⟩ c E (fun _ j => c.getD j undef) hr fr lb ?_ (by simp [hl]) ?_ ?_, ?_⟩
 ·intro i hi; have : i = 0 := by simpa using hi
  subst this; rfl
 ·intro i j hi hj
  have : i = 0 := by simpa using hi
  subst this
  refine ⟨h1 j hj, ?_⟩
  have hj' : j < c.size := by rw [hl]; exact hj
  simp [Array.getD, hj']
 ·intro i j hi hj
  have : i = 0 := by simpa using hi
  subst this; exact hv j hj
 ·refine .ptr _ _ _ _ _ (by omega) rfl fun ck' h => ?_
  rw [Hp.put_same] at h; injection h with h; subst h
  exact ⟨Nat.le_refl _, fun _ => ⟨by simp, _, Ps.put_same .., by simp⟩⟩
def Snd (P : Program) (cx : Cx) (H : Hp) (ps : Ps) (nx : Nat) (w : World) (r : Result Next) (d : DV) (u : Up) : Prop :=
 ∃ nv v w' ps', r = .ok nv w' ∧ (nv = .value v ∨ (nv = .skip ∧ v = undef)) ∧ VR (u.hp H nx) ps' cx.M (u.nx nx) w' d v ∧ Mv cx H ps nx w (u.hp H nx) ps' (u.nx nx) w'
theorem Snd.pure {P cx H ps nx w d v} {r : Result Next} (hr : HR H ps cx.M nx w) (fr : Fr cx.B cx.w0 w) (lb : ∀ o ck p, H o = some ck → ps o = some p → cx.B p.b ∨ cx.w0.heap.size ≤ p.b)
  (h : r = .ok (.value v) w) (hv : VR H ps cx.M nx w d v) : Snd P cx H ps nx w r d .no :=
 ⟨_, v, w, ps, h, .inl rfl, hv, Mv.grew hr fr lb (Grew.refl w)⟩
theorem zeroOf_sound {P : Program} {t : TypeId} {z : List DV} (h : zeroOf P t = some z) :
  ∃ i v, P.info? t = some i ∧ i.zero = some v ∧ v.cells.size = i.size ∧ z.length = i.size ∧ z = v.cells.toList.map ofC ∧ (∀ j, j < v.cells.size → (v.cells.getD j undef).oneCell' = true) := by
 unfold zeroOf at h
 cases hi : P.info? t with
 | none => simp [hi] at h
 | some i =>
  cases hz : i.zero with
  | none => simp [hi, hz] at h
  | some v =>
   simp only [hi, hz] at h; split at h
   ·rename_i hk
    simp only [Bool.and_eq_true, beq_iff_eq] at hk
    injection h with h; subst h
    exact ⟨i, v, rfl, hz, hk.2, by simp [hk.2], rfl, fun j hj => cellsOk_at hk.1 j hj⟩
   ·cases h
theorem ofC_cells {H ps M nx w} (cs : Array Value) (j : Nat) (hj : j < (cs.toList.map ofC).length) : VR H ps M nx w (cs.toList.map ofC)[j] (cs.getD j undef) := by
 have hj' : j < cs.size := by simpa using hj
 have : cs.getD j undef = cs[j] := by simp [Array.getD, hj']
 rw [this]; simp only [List.getElem_map, Array.getElem_toList]; exact ofC_sound _
theorem run_isAgg {P : Program} {t : TypeId} {ag : Bool} (h : aggT P t = some ag) (w : World) : (isAgg t).run P w = .ok ag w := by
 unfold aggT at h
 cases hu : P.underlying t with
 | none => simp [hu] at h
 | some d =>
  simp only [isAgg, Sem.run_bind, run_underlying hu, Result.andThen_ok]
  cases d <;> simp [hu] at h <;> subst h <;> rfl
theorem run_sizeT {P : Program} {t : TypeId} {n : Nat} (h : sizeT P t = some n) (w : World) : (sizeOf t).run P w = .ok n w := by
 unfold sizeT at h
 cases hi : P.info? t with
 | none => simp [hi] at h
 | some i => simp [hi] at h; subst h; simp [sizeOf, typeInfo, hi]
theorem Addr.add_mk (b off j : Nat) : (⟨b, off, none⟩ : Addr).add j = ⟨b, off + j, none⟩ := by unfold Addr.add; split <;> simp_all
theorem run_loadVar {P : Program} {t : TypeId} {ag : Bool} {n : Nat} (h1 : aggT P t = some ag) (h2 : sizeT P t = some n) (h3 : (ag || n == 1) = true) (w : World) (b off : Nat) (f : Nat → Value)
  (hc : ∀ j, j < n → w.cell? ⟨b, off + j, none⟩ = some (f j)) :
  (loadVar t ⟨b, off, none⟩).run P w = .ok (if ag then .agg ((List.range n).map f).toArray else f 0) w := by
 unfold loadVar
 simp only [Sem.run_bind, run_isAgg h1, Result.andThen_ok, Sem.run_ite]
 cases ag with
 | true =>
  have := run_loadCells (P := P) w ⟨b, off, none⟩ n f (fun j hj => by rw [Addr.add_mk]; exact hc j hj)
  simp [run_sizeT h2, this]
 | false =>
  have hn : n = 1 := by simpa using h3
  have := hc 0 (by omega)
  simp only [Nat.add_zero] at this
  simp [this]
theorem HR.cell {H ps M nx w o ck} (h : HR H ps M nx w) (ho : H o = some ck) {p : Ph} (hp : ps o = some p) {i : Nat} (hi : i < ck.xs.length) :
  (ck.xs[i].length = ck.sz) ∧ ∃ vs : Nat → Value, ∀ j (hj : j < ck.xs[i].length), w.cell? ⟨p.b, p.k + i * ck.sz + j, none⟩ = some (vs j) ∧ (vs j).oneCell' = true ∧ VR H ps M nx w ck.xs[i][j] (vs j) := by
 rcases h.cr o ck ho with ⟨h1, h2⟩ | ⟨p', c, E, vs, h1, h2, h3, h4, h5, h6, h7⟩
 ·simp [h1] at hp
 ·rw [hp] at h1; injection h1 with h1; subst h1
  refine ⟨h4 i hi, vs i, fun j hj => ?_⟩
  have hj' : j < ck.sz := by rw [← h4 i hi]; exact hj
  refine ⟨?_, (h6 i j hi hj').1, h7 i j hi hj⟩
  have := (h6 i j hi hj').2
  rw [← Nat.add_assoc] at this
  rw [h2.cell]; exact this
theorem loadV_sound {H ps M nx w ag n d x r} (hr : HR H ps M nx w) (h : loadV H ag n d = some r) (hv : VR H ps M nx w d x) :
  ∃ (b off : Nat) (f : Nat → Value) (cs : List DV), x = .pointer (some ⟨b, off, none⟩) ∧ cs.length = n ∧ (∀ j, j < n → w.cell? ⟨b, off + j, none⟩ = some (f j)) ∧ (∀ j, j < n → (f j).oneCell' = true) ∧
   (∀ j (hj : j < cs.length), VR H ps M nx w cs[j] (f j)) ∧ ((ag = true ∧ r = .agg cs) ∨ (ag = false ∧ n = 1 ∧ cs = [r])) := by
 cases d with
 | ptr o g i off =>
  simp only [loadV] at h
  cases ho : H o with
  | none => simp [ho] at h
  | some ck =>
   simp only [ho] at h
   split at h
   ·rename_i hc
    obtain ⟨hg, hlen⟩ := hc
    cases hv with
    | ptr _ _ _ _ _ h0 h1 hh =>
     obtain ⟨_, hh⟩ := hh ck ho
     obtain ⟨hi, p, hp, rfl⟩ := hh hg
     obtain ⟨hz, vs, hvs⟩ := hr.cell ho hp hi
     have hgd : ck.xs.getD i [] = ck.xs[i] := by simp [List.getD, hi]
     rw [hgd] at h hlen
     refine ⟨p.b, p.k + i * ck.sz + off, fun j => vs (off + j), (ck.xs[i].drop off).take n, rfl, ?_, ?_, ?_, ?_, ?_⟩
     ·simp; omega
     ·intro j hj; have := (hvs (off + j) (by omega)).1; rwa [← Nat.add_assoc] at this
     ·intro j hj; exact (hvs (off + j) (by omega)).2.1
     ·intro j hj
      have hj' : off + j < ck.xs[i].length := by simp at hj; omega
      have := (hvs (off + j) hj').2.2
      simpa using this
     ·split at h
      ·rename_i hag; injection h with h; exact .inl ⟨by simpa using hag, h.symm⟩
      ·rename_i hag; split at h
       ·rename_i hn
        refine .inr ⟨by simpa using hag, hn, ?_⟩
        subst hn
        cases hd : ck.xs[i].drop off with
        | nil => simp [hd] at h
        | cons a l => simp [hd] at h; subst h; simp
       ·cases h
   ·cases h
 | rp cs =>
  simp only [loadV] at h
  split at h
  ·rename_i hlen
   cases hv with
   | rp _ b off vs hM h1 hc hv =>
    refine ⟨b, off, vs, cs.take n, rfl, by simp; omega, fun j hj => hc j (by omega), fun j hj => h1 j (by omega), fun j hj => ?_, ?_⟩
    ·have hj' : j < cs.length := by simp at hj; omega
     simpa using hv j hj'
    ·split at h
     ·rename_i hag; injection h with h; exact .inl ⟨by simpa using hag, h.symm⟩
     ·rename_i hag; split at h
      ·rename_i hn
       refine .inr ⟨by simpa using hag, hn, ?_⟩
       subst hn
       cases cs with
       | nil => simp at h
       | cons a l => simp at h; subst h; simp
      ·cases h
  ·cases h
 | _ => simp [loadV] at h
theorem load_sound {P : Program} {H ps M nx w ag n d x r} {t : TypeId} (hr : HR H ps M nx w) (h1 : aggT P t = some ag) (h2 : sizeT P t = some n) (h3 : (ag || n == 1) = true)
  (h : loadV H ag n d = some r) (hv : VR H ps M nx w d x) : ∃ v, (Instr.loadAt t x).run P w = .ok v w ∧ VR H ps M nx w r v := by
 obtain ⟨b, off, f, cs, rfl, hn, hc, h1c, hvs, hr'⟩ := loadV_sound hr h hv
 have hrun := run_loadVar h1 h2 h3 w b off f hc
 refine ⟨_, by simp only [Instr.loadAt, Instr.sureAddr, Sem.run_bind, Sem.run_pure, Result.andThen_ok]; exact hrun, ?_⟩
 rcases hr' with ⟨rfl, rfl⟩ | ⟨rfl, rfl, rfl⟩
 ·simp only [if_true]
  have hgd : ∀ j, j < n → (((List.range n).map f).toArray.getD j undef) = f j := by intro j hj; simp [Array.getD, hj]
  refine .agg _ _ (by simp [hn]) (fun j hj => ?_) fun j hj => ?_
  ·rw [hgd j (by omega)]; exact h1c j (by omega)
  ·rw [hgd j (by omega)]; exact hvs j hj
 ·simp only [Bool.false_eq_true, if_false]
  exact hvs 0 (by simp)
theorem putCells_length (cs : List DV) (off : Nat) (ns : List DV) (h : off + ns.length ≤ cs.length) : (putCells cs off ns).length = cs.length := by
 simp [putCells]; omega
theorem putCells_get (cs : List DV) (off : Nat) (ns : List DV) (h : off + ns.length ≤ cs.length) (j : Nat) (hj : j < (putCells cs off ns).length) :
  (∃ h1 : j - off < ns.length, off ≤ j ∧ (putCells cs off ns)[j] = ns[j - off]) ∨ (∃ h1 : j < cs.length, (j < off ∨ off + ns.length ≤ j) ∧ (putCells cs off ns)[j] = cs[j]) := by
 rw [putCells_length cs off ns h] at hj
 simp only [putCells, List.getElem_append, List.length_append, List.length_take, List.getElem_take, List.getElem_drop]
 by_cases h1 : j < off
 ·refine .inr ⟨hj, .inl h1, ?_⟩
  simp [show j < min off cs.length + ns.length by omega, show j < min off cs.length by omega]
 ·by_cases h2 : j < off + ns.length
  ·refine .inl ⟨by omega, by omega, ?_⟩
   simp [h1, h2, show min off cs.length = off by omega]
  ·refine .inr ⟨hj, .inr (by omega), ?_⟩
   simp [show ¬ j < min off cs.length + ns.length by omega, show off + ns.length + (j - (min off cs.length + ns.length)) = j by omega]
theorem over_get (c : Array Value) (k : Nat) (ns : List Value) (h : k + ns.length ≤ c.size) (q : Nat) :
  ((c.toList.take k ++ ns ++ c.toList.drop (k + ns.length)).toArray)[q]? = if k ≤ q ∧ q < k + ns.length then ns[q - k]? else c[q]? := by
 simp only [List.getElem?_toArray, List.getElem?_append, List.length_append, List.length_take, List.getElem?_take, List.getElem?_drop, Array.length_toList, Array.getElem?_toList]
 have hm : min k c.size = k := by omega
 rw [hm]
 by_cases h1 : q < k
 ·simp [h1, show q < k + ns.length by omega, show ¬ k ≤ q by omega]
 ·by_cases h2 : q < k + ns.length
  ·simp [h1, h2, show k ≤ q by omega]
  ·simp [h2, show k + ns.length + (q - (k + ns.length)) = q by omega]
theorem storeM {P : Program} (g o : Nat) (t : TypeId) (fr : Nat × Nat) : ∀ (vs : List Value) (i : Nat) (cur : Array Value) (w : World), w.heap[g]? = some (.cells cur t fr) → (fr = (0, 0) ∨ fr = (cur.size, cur.size + 1)) → o + i + vs.length ≤ cur.size → (∀ v ∈ vs, v.oneCell' = true) →
  (storeCells ⟨g, o, none⟩ vs i).run P w = .ok () (w.setRow g (cur.toList.take (o + i) ++ vs ++ cur.toList.drop (o + i + vs.length)).toArray)
 | [], i, cur, w, hg, _, _, _ => by
  have : (cur.toList.take (o + i) ++ [] ++ cur.toList.drop (o + i + ([] : List Value).length)).toArray = cur := by simp
  rw [this, setRow_self w g cur t fr hg]; rfl
 | v :: rest, i, cur, w, hg, hf, hl, h1 => by
  have hl' : o + i + (rest.length + 1) ≤ cur.size := by simpa using hl
  have hA : CellsAt w g cur t := ⟨fr, hg, hf⟩
  have hi : o + i < cur.size := by omega
  have hst : (store ((⟨g, o, none⟩ : Addr).add i) v).run P w = .ok () (w.setRow g (cur.setIfInBounds (o + i) v)) := by
   rw [Addr.add_mk, run_store P w _ v _ (h1 v (List.mem_cons_self ..)), hA.cell, Array.getElem?_eq_getElem hi]
   simp [hA.froz _ hi, setCell_eq_setRow w g (o + i) cur t fr v hg]
  have ih := storeM (P := P) g o t fr rest (i + 1) (cur.setIfInBounds (o + i) v) (w.setRow g (cur.setIfInBounds (o + i) v)) (setRow_heap w g cur _ t _ hg) (by simpa using hf) (by simp; omega) (fun x hx => h1 x (List.mem_cons_of_mem _ hx))
  simp only [storeCells, Sem.run_bind, hst, Result.andThen_ok, ih, setRow_setRow]
  have e := list_seg_step cur.toList (o + i) v rest (by simp; omega)
  congr 3
  simpa [Array.toList_setIfInBounds, Nat.add_assoc] using e
theorem CellsAt.store {P : Program} {w : World} {b : Nat} {c : Array Value} {E : TypeId} (h : CellsAt w b c E) (o : Nat) (ns : List Value) (hl : o + ns.length ≤ c.size) (h1 : ∀ v ∈ ns, v.oneCell' = true) :
  (storeCells ⟨b, o, none⟩ ns).run P w = .ok () (w.setRow b (c.toList.take o ++ ns ++ c.toList.drop (o + ns.length)).toArray) ∧ CellsAt (w.setRow b (c.toList.take o ++ ns ++ c.toList.drop (o + ns.length)).toArray) b (c.toList.take o ++ ns ++ c.toList.drop (o + ns.length)).toArray E := by
 obtain ⟨fr, h2, h3⟩ := h
 have hst := storeM (P := P) b o E fr ns 0 c w h2 h3 (by omega) h1
 simp only [Nat.add_zero] at hst
 refine ⟨hst, fr, setRow_heap w b c _ E _ h2, ?_⟩
 have : (c.toList.take o ++ ns ++ c.toList.drop (o + ns.length)).toArray.size = c.size := by simp; omega
 rw [this]; exact h3
theorem Mv.store {P : Program} {cx : Cx} {H : Hp} {ps : Ps} {nx : Nat} {w : World} {o i off : Nat} {ck : Ck} {p : Ph} {cs : List DV} {ns : List Value}
  (hr : HR H ps cx.M nx w) (fr : Fr cx.B cx.w0 w) (lb : ∀ o ck p, H o = some ck → ps o = some p → cx.B p.b ∨ cx.w0.heap.size ≤ p.b)
  (ho : H o = some ck) (hp : ps o = some p) (hi : i < ck.xs.length) (hoff : off + cs.length ≤ (ck.xs[i]).length) (hl : ns.length = cs.length)
  (h1 : ∀ v ∈ ns, v.oneCell' = true) (hv : ∀ j (hj : j < cs.length), VR H ps cx.M nx w cs[j] (ns.getD j undef)) :
  ∃ w', (storeCells ⟨p.b, p.k + i * ck.sz + off, none⟩ ns).run P w = .ok () w' ∧
   Mv cx H ps nx w (H.put o (some { ck with xs := ck.xs.set i (putCells ck.xs[i] off cs) })) ps nx w' := by
 have hps : ps.put o (some p) = ps := by funext o'; simp only [Ps.put]; split <;> simp_all
 rcases hr.cr o ck ho with ⟨q1, q2⟩ | ⟨p', c, E, vs, q1, q2, q3, q4, q5, q6, q7⟩
 ·simp [q1] at hp
 ·rw [hp] at q1; injection q1 with q1; subst q1
  have hz := q4 i hi
  have hrow : i * ck.sz + ck.sz ≤ ck.xs.length * ck.sz := by
   have := Nat.mul_le_mul_right ck.sz (Nat.succ_le_of_lt hi)
   rwa [Nat.succ_mul] at this
  have hfit : p.k + i * ck.sz + off + ns.length ≤ c.size := by omega
  obtain ⟨hst, q2'⟩ := q2.store (P := P) (p.k + i * ck.sz + off) ns hfit h1
  refine ⟨_, hst, ?_⟩
  have key := Mv.upd o { ck with xs := ck.xs.set i (putCells ck.xs[i] off cs) } (some p) nx (hr := hr) (fr := fr) (lb := lb) (hn := Nat.le_refl _) (ho := hr.lt o ck ho)
   (hold := .inr ⟨ck, ho, .inr ⟨rfl, rfl, by simp, hp.symm⟩⟩)
   (w' := w.setRow p.b (c.toList.take (p.k + i * ck.sz + off) ++ ns ++ c.toList.drop (p.k + i * ck.sz + off + ns.length)).toArray)
   (g := ⟨rfl, rfl, rfl, by simp [World.setRow], fun b hb hne => setRow_other w p.b b _ fun e => hne ⟨ck, p, ho, hp, e⟩⟩)
   (hb := fun p' e => by injection e with e; subst e; exact .inl ⟨ck, p, ho, hp, rfl⟩) (hcr := ?_)
  ·rwa [hps] at key
  ·intro kp
   have hlp : (putCells ck.xs[i] off cs).length = ck.xs[i].length := putCells_length _ _ _ hoff
   have hxl : ∀ i' (h : i' < (ck.xs.set i (putCells ck.xs[i] off cs)).length), (ck.xs.set i (putCells ck.xs[i] off cs))[i'] = if i = i' then putCells ck.xs[i] off cs else ck.xs[i']'(by simpa using h) := by
    intro i' h; rw [List.getElem_set]
   refine .inr ⟨p, _, E, fun i' j' => if i' = i ∧ off ≤ j' ∧ j' < off + cs.length then ns.getD (j' - off) undef else vs i' j', Ps.put_same .., q2', ?_, ?_, ?_, ?_, ?_⟩
   ·simp; omega
   ·intro i' hi'
    rw [hxl i' hi']; split
    ·rw [hlp]; exact hz
    ·exact q4 i' (by simpa using hi')
   ·simpa using q5
   ·intro i' j' hi' hj'
    have hi2 : i' < ck.xs.length := by simpa using hi'
    have hj2 : j' < ck.sz := hj'
    have hi3 : i' * ck.sz + ck.sz ≤ ck.xs.length * ck.sz := by
     have := Nat.mul_le_mul_right ck.sz (Nat.succ_le_of_lt hi2)
     rwa [Nat.succ_mul] at this
    dsimp only
    rw [over_get c _ ns hfit]
    by_cases hin : i' = i ∧ off ≤ j' ∧ j' < off + cs.length
    ·obtain ⟨rfl, h2, h3⟩ := hin
     have hb : j' - off < ns.length := by omega
     rw [if_pos ⟨rfl, h2, h3⟩, if_pos (by omega)]
     have : p.k + (i' * ck.sz + j') - (p.k + i' * ck.sz + off) = j' - off := by omega
     refine ⟨?_, ?_⟩
     ·simp only [List.getD, List.getElem?_eq_getElem hb, Option.getD_some]; exact h1 _ (List.getElem_mem hb)
     ·simp only [this, List.getD, List.getElem?_eq_getElem hb, Option.getD_some]
    ·rw [if_neg hin]
     refine ⟨(q6 i' j' hi2 hj2).1, ?_⟩
     rw [if_neg ?_]
     ·exact (q6 i' j' hi2 hj2).2
     ·intro hcon
      apply hin
      rcases Nat.lt_trichotomy i' i with hlt | heq | hgt
      ·have := Nat.mul_le_mul_right ck.sz (Nat.succ_le_of_lt hlt)
       rw [Nat.succ_mul] at this; omega
      ·subst heq; exact ⟨rfl, by omega, by omega⟩
      ·have := Nat.mul_le_mul_right ck.sz (Nat.succ_le_of_lt hgt)
       rw [Nat.succ_mul] at this; omega
   ·intro i' j' hi' hj'
    have hi2 : i' < ck.xs.length := by simpa using hi'
    dsimp only
    by_cases hii : i' = i
    ·subst hii
     have he : (ck.xs.set i' (putCells ck.xs[i'] off cs))[i'] = putCells ck.xs[i'] off cs := by simp
     have hj2 : j' < (putCells ck.xs[i'] off cs).length := by
      have := hj'; simp only [he] at this; exact this
     have hgoal : (ck.xs.set i' (putCells ck.xs[i'] off cs))[i'][j'] = (putCells ck.xs[i'] off cs)[j'] := by simp [he]
     show VR _ _ _ _ _ ((ck.xs.set i' (putCells ck.xs[i'] off cs))[i'][j']) _
     rw [hgoal]
     rcases putCells_get ck.xs[i'] off cs hoff j' hj2 with ⟨g1, g2, g3⟩ | ⟨g1, g2, g3⟩
     ·rw [g3, if_pos ⟨rfl, g2, by omega⟩]; exact (hv _ g1).mono kp
     ·rw [g3, if_neg (by omega)]; exact (q7 i' j' hi2 g1).mono kp
    ·have he : (ck.xs.set i (putCells ck.xs[i] off cs))[i'] = ck.xs[i'] := by rw [List.getElem_set, if_neg (Ne.symm hii)]
     have hj2 : j' < ck.xs[i'].length := by have := hj'; simp only [he] at this; exact this
     have hgoal : (ck.xs.set i (putCells ck.xs[i] off cs))[i'][j'] = ck.xs[i'][j'] := by simp [he]
     show VR _ _ _ _ _ ((ck.xs.set i (putCells ck.xs[i] off cs))[i'][j']) _
     rw [hgoal, if_neg (by simp [hii])]
     exact (q7 i' j' hi2 hj2).mono kp
end Go.Pv
