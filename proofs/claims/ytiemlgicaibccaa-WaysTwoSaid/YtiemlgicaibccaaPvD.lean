/- Appends on plain data are sound. No condition of its own: lemmas over any program. -/
import Derived.Test.YtiemlgicaibccaaPvC
set_option linter.all false
namespace Go.Pv
open Go.RowKit
structure FL (H : Hp) (ps : Ps) (M : Nat → Prop) (nx : Nat) (w : World) (xs : List (List DV)) (sz : Nat) (vs : List Value) : Prop where
 z : ∀ i (hi : i < xs.length), xs[i].length = sz
 l : vs.length = xs.length * sz
 o : ∀ v ∈ vs, v.oneCell' = true
 r : ∀ i j (hi : i < xs.length) (hj : j < xs[i].length), VR H ps M nx w xs[i][j] (vs.getD (i * sz + j) undef)
theorem FL.nil {H : Hp} {ps : Ps} {M : Nat → Prop} {nx : Nat} {w : World} {sz : Nat} : FL H ps M nx w [] sz [] :=
 ⟨fun i hi => by simp at hi, by simp, by simp, fun i j hi => by simp at hi⟩
theorem FL.append {H ps M nx w xs ys sz vs us} (h : FL H ps M nx w xs sz vs) (k : FL H ps M nx w ys sz us) : FL H ps M nx w (xs ++ ys) sz (vs ++ us) := by
 refine ⟨fun i hi => ?_, by simp [h.l, k.l, Nat.add_mul], fun v hv => ?_, fun i j hi hj => ?_⟩
 ·rw [List.getElem_append]; split
  ·exact h.z i _
  ·exact k.z _ _
 ·rcases List.mem_append.1 hv with hv | hv
  ·exact h.o v hv
  ·exact k.o v hv
 ·by_cases hlt : i < xs.length
  ·have he : (xs ++ ys)[i] = xs[i] := List.getElem_append_left hlt
   have hj' : j < xs[i].length := by rw [← he]; exact hj
   have hq : i * sz + j < vs.length := by rw [h.l]; exact idx_lt hlt (by rw [← h.z i hlt]; exact hj')
   have hg : (vs ++ us).getD (i * sz + j) undef = vs.getD (i * sz + j) undef := by simp [List.getD, List.getElem?_append, hq]
   have hgoal : (xs ++ ys)[i][j] = xs[i][j] := by simp [he]
   rw [hgoal, hg]; exact h.r i j hlt hj'
  ·have hge : xs.length ≤ i := by omega
   have hi2 : i - xs.length < ys.length := by simp at hi; omega
   have he : (xs ++ ys)[i] = ys[i - xs.length] := List.getElem_append_right hge
   have hj' : j < ys[i - xs.length].length := by rw [← he]; exact hj
   have hmul : i * sz = xs.length * sz + (i - xs.length) * sz := by rw [← Nat.add_mul]; congr 1; omega
   have hg : (vs ++ us).getD (i * sz + j) undef = us.getD ((i - xs.length) * sz + j) undef := by
    have : ¬ i * sz + j < vs.length := by rw [h.l]; omega
    simp only [List.getD, List.getElem?_append, this, if_false]
    congr 2
    rw [h.l]; omega
   have hgoal : (xs ++ ys)[i][j] = ys[i - xs.length][j] := by simp [he]
   rw [hgoal, hg]; exact k.r _ j hi2 hj'
theorem FL.mono {H ps M nx w H' ps' M' nx' w' xs sz vs} (h : FL H ps M nx w xs sz vs) (k : Kp H ps M nx w H' ps' M' nx' w') : FL H' ps' M' nx' w' xs sz vs :=
 ⟨h.z, h.l, h.o, fun i j hi hj => (h.r i j hi hj).mono k⟩
theorem FL.of_cells {H : Hp} {ps : Ps} {M : Nat → Prop} {nx : Nat} {w : World} {xs : List (List DV)} {sz : Nat} (f : Nat → Nat → Value) (hz : ∀ i (hi : i < xs.length), xs[i].length = sz)
  (h1 : ∀ i j, i < xs.length → j < sz → (f i j).oneCell' = true) (hv : ∀ i j (hi : i < xs.length) (hj : j < xs[i].length), VR H ps M nx w xs[i][j] (f i j)) :
  FL H ps M nx w xs sz ((List.range (xs.length * sz)).map fun q => f (q / sz) (q % sz)) := by
 have key : ∀ i j, i < xs.length → j < sz → (i * sz + j) / sz = i ∧ (i * sz + j) % sz = j := by
  intro i j _ hj
  have hp : 0 < sz := by omega
  rw [Nat.mul_comm i sz]
  exact ⟨by rw [Nat.mul_add_div hp]; simp [Nat.div_eq_of_lt hj], by rw [Nat.mul_add_mod]; exact Nat.mod_eq_of_lt hj⟩
 refine ⟨hz, by simp, fun v hv' => ?_, fun i j hi hj => ?_⟩
 ·obtain ⟨q, hq, rfl⟩ := List.mem_map.1 hv'
  have hq' : q < xs.length * sz := by simpa using hq
  have hp : 0 < sz := by
   rcases Nat.eq_zero_or_pos sz with h0 | h0
   ·subst h0; simp at hq'
   ·exact h0
  exact h1 _ _ (Nat.div_lt_of_lt_mul (by rw [Nat.mul_comm]; exact hq')) (Nat.mod_lt _ hp)
 ·have hj' : j < sz := by rw [← hz i hi]; exact hj
  obtain ⟨k1, k2⟩ := key i j hi hj'
  have hq := idx_lt hi hj'
  have : ((List.range (xs.length * sz)).map fun q => f (q / sz) (q % sz)).getD (i * sz + j) undef = f i j := by
   simp [List.getD, List.getElem?_range hq, k1, k2]
  rw [this]; exact hv i j hi hj
theorem flat_at {n sz : Nat} (f : Nat → Nat → Value) (q : Nat) (v : Value) (h : ((List.range (n * sz)).map fun q => f (q / sz) (q % sz))[q]? = some v) :
  q < n * sz ∧ q / sz < n ∧ q % sz < sz ∧ v = f (q / sz) (q % sz) ∧ q = q / sz * sz + q % sz := by
 have hq : q < n * sz := by
  have := (List.getElem?_eq_some_iff.1 h).1; simpa using this
 have hp : 0 < sz := by
  rcases Nat.eq_zero_or_pos sz with h0 | h0
  ·subst h0; simp at hq
  ·exact h0
 refine ⟨hq, Nat.div_lt_of_lt_mul (by rw [Nat.mul_comm]; exact hq), Nat.mod_lt _ hp, ?_, ?_⟩
 ·simp [List.getElem?_range hq] at h; exact h.symm
 ·have := Nat.div_add_mod q sz; rw [Nat.mul_comm] at this; exact this.symm
theorem elemsV_sound {H ps M nx w d x xs sz} (hr : HR H ps M nx w) (h : elemsV H d = some xs) (hz : ∀ c ∈ xs, c.length = sz) (hv : VR H ps M nx w d x) :
  ∃ a c vs, x = .slice a xs.length c ∧ FL H ps M nx w xs sz vs ∧ (xs ≠ [] → ∃ b off, a = some ⟨b, off, none⟩ ∧ ∀ j v, vs[j]? = some v → w.cell? ⟨b, off + j, none⟩ = some v) := by
 have hz' : ∀ i (hi : i < xs.length), xs[i].length = sz := fun i hi => hz _ (List.getElem_mem hi)
 cases d with
 | lst full ys =>
  simp only [elemsV, Option.some.injEq] at h; subst h
  cases hv with
  | lnil _ a cap hf => exact ⟨a, cap, [], rfl, FL.nil, fun h => absurd rfl h⟩
  | lst _ _ b off cap sz' vs hne hs hcap hf hM hzz h1 hc hv =>
   have hszz : sz' = sz := by
    have := hzz 0 (List.length_pos_iff.2 hne); rw [hz' 0 (List.length_pos_iff.2 hne)] at this; exact this.symm
   subst hszz
   refine ⟨_, cap, _, rfl, FL.of_cells vs hz' h1 hv, fun _ => ⟨b, off, rfl, fun j v hj => ?_⟩⟩
   obtain ⟨q1, q2, q3, q4, q5⟩ := flat_at vs j v hj
   subst q4
   have := hc _ _ q2 q3
   rwa [← q5] at this
 | own o g lo n =>
  simp only [elemsV] at h
  cases ho : H o with
  | none => simp [ho] at h
  | some ck =>
   simp only [ho] at h; split at h
   ·rename_i hg
    injection h with h; subst h
    cases hv with
    | own _ _ _ _ _ h0 h1 hh =>
     obtain ⟨_, hh⟩ := hh ck ho
     obtain ⟨hlen, a, cap, rfl, hn, hcap⟩ := hh hg
     have hxl : ((ck.xs.drop lo).take n).length = n := by simp; omega
     by_cases hn0 : n = 0
     ·subst hn0
      refine ⟨a, cap, [], by simp, by simpa using FL.nil, fun h => by simp at h⟩
     ·rcases hcap with hcap | ⟨p, hp, rfl, htot⟩
      ·omega
      ·rcases hr.cr o ck ho with ⟨q1, _⟩ | ⟨p', c, E, vs, q1, q2, q3, q4, q5, q6, q7⟩
       ·simp [q1] at hp
       ·rw [hp] at q1; injection q1 with q1; subst q1
        have hsz : ck.sz = sz := by
         have h0 := hz' 0 (by rw [hxl]; omega)
         simp only [List.getElem_take, List.getElem_drop] at h0
         rw [← q4 (lo + 0) (by omega)]; exact h0
        subst hsz
        refine ⟨_, cap, _, by rw [hxl], FL.of_cells (fun i j => vs (lo + i) j) hz' (fun i j hi hj => (q6 (lo + i) j (by omega) hj).1) (fun i j hi hj => ?_), fun _ => ⟨p.b, p.k + lo * ck.sz, rfl, fun j v hj => ?_⟩⟩
        ·have hi' : lo + i < ck.xs.length := by omega
         have hj' : j < ck.xs[lo + i].length := by simpa using hj
         have := q7 (lo + i) j hi' hj'
         simpa using this
        ·obtain ⟨r1, r2, r3, r4, r5⟩ := flat_at (fun i j => vs (lo + i) j) j v hj
         subst r4
         have hi' : lo + j / ck.sz < ck.xs.length := by omega
         have := (q6 (lo + j / ck.sz) (j % ck.sz) hi' r3).2
         have e : p.k + lo * ck.sz + j = p.k + ((lo + j / ck.sz) * ck.sz + j % ck.sz) := by rw [Nat.add_mul]; omega
         rw [q2.cell, e]; exact this
   ·cases h
 | _ => simp [elemsV] at h
theorem run_app_zero {P : Program} (w : World) (t ty e : TypeId) (i : TypeInfo) (ht : P.underlying t = some (.slice e)) (hi : P.info? e = some i)
  (base : Option Addr) (sLen sCap : Nat) (h : sLen ≤ sCap) (a : Option Addr) (c : Nat) :
  (Builtin.append_ #[t, t] ty #[.slice base sLen sCap, .slice a 0 c]).run P w = .ok (.slice base sLen sCap) w := by
 have hf : (Builtin.firstCells i.size 0 (.slice a 0 c)).run P w = .ok #[] w := by
  cases a with
  | none => exact run_firstCells_none w _ _ _ _
  | some a => have := run_firstCells_some (P := P) w i.size 0 a 0 c [] (by simp) (by simp); simpa using this
 cases base with
 | none => simp [Builtin.append_, run_underlying ht, sizeOf, typeInfo, hi, Builtin.lenOf, h, hf]
 | some b => simp [Builtin.append_, run_underlying ht, sizeOf, typeInfo, hi, Builtin.lenOf, h, hf, storeCells]
theorem run_app_grow {P : Program} (w : World) (t ty e : TypeId) (i : TypeInfo) (z : Value) (ht : P.underlying t = some (.slice e)) (hi : P.info? e = some i) (hz : i.zero = some z)
  (base : Option Addr) (sLen sCap : Nat) (olds : List Value) (hlo : olds.length = sLen * i.size) (hb : olds ≠ [] → ∃ b off, base = some ⟨b, off, none⟩ ∧ ∀ j v, olds[j]? = some v → w.cell? ⟨b, off + j, none⟩ = some v)
  (hb0 : sLen ≠ 0 → olds ≠ []) (hbn : base = none → sLen = 0 ∧ sCap = 0)
  (b off : Nat) (n c : Nat) (news : List Value) (hl : news.length = n * i.size) (hnews : ∀ j v, news[j]? = some v → w.cell? ⟨b, off + j, none⟩ = some v)
  (hg : sCap < sLen + n) (h63 : sLen + n ≤ 9223372036854775807) (hfit : (sLen + n) * i.bytes ≤ 140737488355328) :
  (Builtin.append_ #[t, t] ty #[.slice base sLen sCap, .slice (some ⟨b, off, none⟩) n c]).run P w =
   .ok (.slice (some ⟨w.heap.size, 0, none⟩) (sLen + n) (grownCap w (sLen + n) sCap e))
    (w.drew.alloc (.cells (olds.toArray ++ news.toArray ++ Builtin.zeroCells z.cells (grownCap w (sLen + n) sCap e - (sLen + n))) e)) := by
 have hnews' : ∀ j v, news[j]? = some v → w.cell? ((⟨b, off, none⟩ : Addr).add j) = some v := fun j v h => by rw [Addr.add_mk]; exact hnews j v h
 cases base with
 | none =>
  obtain ⟨rfl, rfl⟩ := hbn rfl
  have ho : olds = [] := by simpa using hlo
  subst ho
  have := run_append_nil (P := P) w t ty e i z ht hi hz ⟨b, off, none⟩ n c news hl hnews' (by omega) (by omega) (by have := hfit; simp only [Nat.zero_add] at this; omega)
  simpa using this
 | some a =>
  refine run_append_grow (P := P) w t ty e i z ht hi hz a sLen sCap olds hlo (fun j v h => ?_) ⟨b, off, none⟩ n c news hl hnews' hg (by omega) (growslice_fits hg hfit)
  have hne : olds ≠ [] := by intro e; simp [e] at h
  obtain ⟨b', off', e, h'⟩ := hb hne
  injection e with e; subst e
  rw [Addr.add_mk]; exact h' j v h
theorem run_app_room {P : Program} (w : World) (t ty e : TypeId) (i : TypeInfo) (ht : P.underlying t = some (.slice e)) (hi : P.info? e = some i)
  (g o : Nat) (sLen sCap : Nat) (cur : Array Value) (E : TypeId) (hg : CellsAt w g cur E)
  (b off : Nat) (n c : Nat) (news : List Value) (hl : news.length = n * i.size) (hnews : ∀ j v, news[j]? = some v → w.cell? ⟨b, off + j, none⟩ = some v) (h1 : ∀ v ∈ news, v.oneCell' = true)
  (hroom : sLen + n ≤ sCap) (hfit : o + sLen * i.size + news.length ≤ cur.size) :
  (Builtin.append_ #[t, t] ty #[.slice (some ⟨g, o, none⟩) sLen sCap, .slice (some ⟨b, off, none⟩) n c]).run P w =
   .ok (.slice (some ⟨g, o, none⟩) (sLen + n) sCap)
    (w.setRow g (cur.toList.take (o + sLen * i.size) ++ news ++ cur.toList.drop (o + sLen * i.size + news.length)).toArray) := by
 have hnews' : ∀ j v, news[j]? = some v → w.cell? ((⟨b, off, none⟩ : Addr).add j) = some v := fun j v h => by rw [Addr.add_mk]; exact hnews j v h
 have hfc := run_firstCells_some (P := P) w i.size n ⟨b, off, none⟩ n c news hl hnews'
 have hst := (hg.store (P := P) (o + sLen * i.size) news hfit h1).1
 simp [Builtin.append_, run_underlying ht, sizeOf, typeInfo, hi, Builtin.lenOf, hroom, hfc, Addr.add_mk, hst]
def SndV (P : Program) (cx : Cx) (H : Hp) (ps : Ps) (nx : Nat) (w : World) (r : Result Value) (d : DV) (u : Up) : Prop :=
 ∃ v w' ps', r = .ok v w' ∧ VR (u.hp H nx) ps' cx.M (u.nx nx) w' d v ∧ Mv cx H ps nx w (u.hp H nx) ps' (u.nx nx) w'
theorem FL.get {H ps M nx w xs sz vs} (h : FL H ps M nx w xs sz vs) {i j : Nat} (hi : i < xs.length) (hj : j < sz) :
  vs[i * sz + j]? = some (vs.getD (i * sz + j) undef) ∧ (vs.getD (i * sz + j) undef).oneCell' = true := by
 have hq : i * sz + j < vs.length := by rw [h.l]; exact idx_lt hi hj
 refine ⟨by simp [List.getD, hq], ?_⟩
 have : vs.getD (i * sz + j) undef = vs[i * sz + j] := by simp [List.getD, hq]
 rw [this]; exact h.o _ (List.getElem_mem hq)
theorem FL.lst_new {H ps M nx w xs sz vs} (h : FL H ps M nx w xs sz vs) (hs : 0 < sz) (hne : xs ≠ []) (b cap : Nat) (c : Array Value) (E : TypeId) (hb : w.heap[b]? = some (.cells c E (0, 0)))
  (hM : ¬ Mu H ps M b) (hcap : xs.length ≤ cap) (full : Bool) (hf : full = true → cap = xs.length) (hc : ∀ (q : Nat) (v : Value), vs[q]? = some v → c[q]? = some v) :
  VR H ps M nx w (.lst full xs) (.slice (some ⟨b, 0, none⟩) xs.length cap) := by
 refine .lst full xs b 0 cap sz (fun i j => vs.getD (i * sz + j) undef) hne hs hcap hf hM h.z (fun i j hi hj => (h.get hi hj).2) (fun i j hi hj => ?_) h.r
 simp [World.cell?, hb, hc _ _ (h.get hi hj).1]
theorem FL.cr {H ps M nx w xs sz vs} (h : FL H ps M nx w xs sz vs) {o : Nat} {g : Nat} {p : Ph} (hp : ps o = some p) {c : Array Value} {E : TypeId} (hb : CellsAt w p.b c E)
  (ht : c.size = p.tot) (hl : p.k + xs.length * sz ≤ p.tot) (hc : ∀ (q : Nat) (v : Value), vs[q]? = some v → c[p.k + q]? = some v) : CR H ps M nx w o ⟨g, sz, xs⟩ :=
 .inr ⟨p, c, E, fun i j => vs.getD (i * sz + j) undef, hp, hb, ht, h.z, hl, fun i j hi hj => ⟨(h.get hi hj).2, hc _ _ (h.get hi hj).1⟩, h.r⟩
theorem not_mu_new {H ps M nx w} (hr : HR H ps M nx w) (b : Nat) (hb : w.heap.size ≤ b) : ¬ Mu H ps M b := by
 rintro (h | ⟨o, ck, p, h1, h2, h3⟩)
 ·have := hr.ml b h; omega
 ·have := hr.live_lt h1 h2; omega
theorem app_sound {P : Program} {cx : Cx} {H : Hp} {ps : Ps} {nx : Nat} {w : World} (hr : HR H ps cx.M nx w) (fr : Fr cx.B cx.w0 w) (lb : ∀ o ck p, H o = some ck → ps o = some p → cx.B p.b ∨ cx.w0.heap.size ≤ p.b)
  (t ty e : TypeId) (i : TypeInfo) (z : Value) (ht : P.underlying t = some (.slice e)) (hi : P.info? e = some i) (hz : i.zero = some z) (hsz : 0 < i.size) (hzs : z.cells.size = i.size)
  {ds dx d : DV} {u : Up} {s x : Value} (h : appV H i.size i.bytes ds dx = some (d, u)) (hs : VR H ps cx.M nx w ds s) (hx : VR H ps cx.M nx w dx x) :
  SndV P cx H ps nx w ((Builtin.append_ #[t, t] ty #[s, x]).run P w) d u := by
 unfold appV at h
 cases he : elemsV H dx with
 | none => simp [he] at h
 | some news =>
  simp only [he] at h
  split at h
  ·rename_i hall
   have hnz : ∀ c ∈ news, c.length = i.size := fun c hc => by have := List.all_eq_true.1 hall c hc; simpa using this
   obtain ⟨xa, xc, nv, rfl, hnf, hnm⟩ := elemsV_sound hr he hnz hx
   cases ds with
   | lst full xs =>
    cases full with
    | false => simp at h
    | true =>
     simp only at h
     split at h
     ·rename_i hcond
      obtain ⟨hxall, hbytes, h63⟩ := hcond
      injection h with h; injection h with hd hu; subst hd; subst hu
      have hxz : ∀ c ∈ xs, c.length = i.size := fun c hc => by have := List.all_eq_true.1 hxall c hc; simpa using this
      obtain ⟨sa, sc, ov, rfl, hof, hom⟩ := elemsV_sound hr (show elemsV H (.lst true xs) = some xs from rfl) hxz hs
      have hcap : sc = xs.length ∧ (sa = none → xs.length = 0) := by
       generalize hq : Value.slice sa xs.length sc = q at hs
       cases hs with
       | lnil _ a cap hf => injection hq with q1 q2 q3; subst q3; exact ⟨by simp [hf rfl], fun _ => rfl⟩
       | lst _ _ b off cap sz' vs hne hs' hcap hf hM hzz h1 hc hv => injection hq with q1 q2 q3; subst q3; exact ⟨hf rfl, fun e => by simp [e] at q1⟩
      obtain ⟨rfl, hsn⟩ := hcap
      by_cases hn0 : news = []
      ·subst hn0
       refine ⟨_, w, ps, run_app_zero w t ty e i ht hi sa xs.length xs.length (Nat.le_refl _) xa xc, ?_, Mv.grew hr fr lb (Grew.refl w)⟩
       rw [List.append_nil]
       generalize hq : Value.slice sa xs.length xs.length = q at hs
       cases hs with
       | lnil _ a cap hf => exact .lnil false a cap (by simp)
       | lst _ _ b off cap sz' vs hne hs' hcap hf hM hzz h1 hc hv => exact .lst false xs b off cap sz' vs hne hs' hcap (by simp) hM hzz h1 hc hv
      ·obtain ⟨b, off, rfl, hnm'⟩ := hnm hn0
       have hnl : 0 < news.length := List.length_pos_iff.2 hn0
       have hrun := run_app_grow (P := P) w t ty e i z ht hi hz sa xs.length xs.length ov hof.l (fun hne => hom fun e => hne (by subst e; simpa using hof.l))
        (fun h0 hov => h0 (by
         have := hof.l; rw [hov, List.length_nil] at this
         have := Nat.mul_eq_zero.1 this.symm; omega)) (fun e => ⟨hsn e, hsn e⟩) b off news.length xc nv hnf.l hnm' (by omega) h63 hbytes
       have hg : Grew w (w.drew.alloc (.cells (ov.toArray ++ nv.toArray ++ Builtin.zeroCells z.cells (grownCap w (xs.length + news.length) xs.length e - (xs.length + news.length))) e)) := (Grew.drew w).trans (Grew.alloc _ _)
       refine ⟨_, _, ps, hrun, ?_, Mv.grew hr fr lb hg⟩
       have hfl := (hof.append hnf).mono (Kp.grew hg)
       have := hfl.lst_new hsz (by simp [hn0]) w.heap.size (grownCap w (xs.length + news.length) xs.length e) _ e (by show (w.heap.push _)[w.heap.size]? = _; simp; rfl) (not_mu_new hr _ (Nat.le_refl _))
        (by simpa using grownCap_ge w (xs.length + news.length) xs.length e) false (by simp) (fun q v hq => by
         have hlt := (List.getElem?_eq_some_iff.1 hq).1
         rw [Array.getElem?_append_left (by simpa using hlt)]
         simpa using hq)
       rw [List.length_append] at this; exact this
     ·cases h
   | own o g lo n =>
    simp only at h
    cases ho : H o with
    | none => simp [ho] at h
    | some ck =>
     simp only [ho] at h
     split at h
     ·rename_i hcond
      obtain ⟨hgen, hcsz, hbytes, h63⟩ := hcond
      injection h with h; injection h with hd hu; subst hd; subst hu
      have hcr := hr.cr o ck ho
      cases hs with
      | own _ _ _ _ _ h0 h1 hh =>
       obtain ⟨_, hh⟩ := hh ck ho
       obtain ⟨hlen, sa, sc, rfl, hnc, hplace⟩ := hh hgen
       have hxl : ((ck.xs.drop lo).take n).length = n := by simp; omega
       have hev : elemsV H (.own o g lo n) = some ((ck.xs.drop lo).take n) := by simp [elemsV, ho, hgen]
       have hxz : ∀ c ∈ (ck.xs.drop lo).take n, c.length = i.size := by
        intro c hc
        obtain ⟨q, hq, rfl⟩ := List.mem_iff_getElem.1 hc
        rcases hcr with ⟨_, q2⟩ | ⟨_, _, _, _, _, _, _, q4, _⟩
        ·rw [q2] at hq; simp at hq
        ·simp only [List.getElem_take, List.getElem_drop]
         rw [q4 (lo + q) (by rw [hxl] at hq; omega), hcsz]
       have hs0 : VR H ps cx.M nx w (.own o g lo n) (.slice sa n sc) := .own o g lo n _ h0 h1 fun ck' hck' => by
        rw [ho] at hck'; injection hck' with hck'; subst hck'
        exact ⟨by omega, fun _ => ⟨hlen, sa, sc, rfl, hnc, hplace⟩⟩
       obtain ⟨sa', sc', ov, hsl, hof, hom⟩ := elemsV_sound hr hev hxz hs0
       rw [hxl] at hsl; injection hsl with e1 e2 e3; subst e1; subst e3
       have holen : ov.length = n * i.size := by rw [hof.l, hxl]
       have hxlen : ((ck.xs.drop lo).take n ++ news).length = n + news.length := by rw [List.length_append, hxl]
       by_cases hroom : n + news.length ≤ sc
       ·-- there is room
        by_cases hn0 : news = []
        ·subst hn0
         have hrun := run_app_zero (P := P) w t ty e i ht hi sa n sc hnc xa xc
         by_cases hpl : sc = 0
         ·subst hpl
          have hn : n = 0 := by omega
          subst hn
          have hmv := Mv.upd (cx := cx) o ⟨g + 1, i.size, (ck.xs.drop lo).take 0 ++ []⟩ none nx w hr fr lb (Nat.le_refl _) (hr.lt o ck ho) (.inr ⟨ck, ho, .inl (by simp; omega)⟩) ((Grew.refl w).but _)
           (fun p' hp' => by cases hp') (fun _ => .inl ⟨Ps.put_same .., by simp⟩)
          refine ⟨_, w, _, hrun, ?_, hmv⟩
          refine .own _ _ _ _ _ (hr.lt o ck ho) ⟨_, _, rfl⟩ fun ck' hck' => ?_
          simp only [Up.hp, Hp.put_same, Option.some.injEq] at hck'; subst hck'
          exact ⟨Nat.le_refl _, fun _ => ⟨by simp, sa, 0, rfl, by simp, .inl rfl⟩⟩
         ·rcases hplace with hplace | ⟨p, hp, rfl, htot⟩
          ·exact absurd hplace hpl
          ·rcases hcr with ⟨q1, _⟩ | ⟨p', c, E, vs, q1, q2, q3, q4, q5, q6, q7⟩
           ·simp [q1] at hp
           ·rw [hp] at q1; injection q1 with q1; subst q1
            have hmv := Mv.upd (cx := cx) o ⟨g + 1, i.size, (ck.xs.drop lo).take n ++ []⟩ (some ⟨p.b, p.k + lo * ck.sz, p.tot⟩) nx w hr fr lb (Nat.le_refl _) (hr.lt o ck ho)
             (.inr ⟨ck, ho, .inl (by simp; omega)⟩) ((Grew.refl w).but _) (fun p' hp' => by injection hp' with hp'; subst hp'; exact .inl ⟨ck, p, ho, hp, rfl⟩)
             (fun kp => by
              have hfl := (hof.append (FL.nil (sz := i.size))).mono kp
              refine hfl.cr (Ps.put_same ..) q2 q3 ?_ fun q v hq => ?_
              ·simp only [List.append_nil, hxl]
               rw [hcsz] at htot ⊢
               have : (lo + n) * i.size ≤ (lo + sc) * i.size := Nat.mul_le_mul_right _ (by omega)
               rw [Nat.add_mul] at this; omega
              ·simp only [List.append_nil] at hq
               have hne : (ck.xs.drop lo).take n ≠ [] := by
                intro hnil; rw [hnil] at hof; have := hof.l; simp at this; simp [this] at hq
               obtain ⟨b', off', e', hcell⟩ := hom hne
               injection e' with e'; injection e' with e1 e2 e3; subst e1; subst e2
               have := hcell q v hq
               rwa [q2.cell] at this)
            refine ⟨_, w, _, hrun, ?_, hmv⟩
            refine .own _ _ _ _ _ (hr.lt o ck ho) ⟨_, _, rfl⟩ fun ck' hck' => ?_
            simp only [Up.hp, Hp.put_same, Option.some.injEq] at hck'; subst hck'
            refine ⟨Nat.le_refl _, fun _ => ⟨by simp; omega, _, sc, by simp; rfl, by simpa using hnc, .inr ⟨_, Ps.put_same .., by simp, ?_⟩⟩⟩
            simp only [Nat.zero_add]
            rw [← hcsz]; rw [Nat.add_mul] at htot; omega
        ·obtain ⟨b, off, rfl, hnm'⟩ := hnm hn0
         have hnl : 0 < news.length := List.length_pos_iff.2 hn0
         rcases hplace with hplace | ⟨p, hp, rfl, htot⟩
         ·omega
         ·rcases hcr with ⟨q1, _⟩ | ⟨p', c, E, vs, q1, q2, q3, q4, q5, q6, q7⟩
          ·simp [q1] at hp
          ·rw [hp] at q1; injection q1 with q1; subst q1
           have hfit : p.k + lo * ck.sz + n * i.size + nv.length ≤ c.size := by
            rw [hnf.l, q3]
            have : (lo + (n + news.length)) * ck.sz ≤ (lo + sc) * ck.sz := Nat.mul_le_mul_right _ (by omega)
            rw [Nat.add_mul, Nat.add_mul] at this; rw [← hcsz]; omega
           have hrun := run_app_room (P := P) w t ty e i ht hi p.b (p.k + lo * ck.sz) n sc c E q2 b off news.length xc nv hnf.l hnm' hnf.o hroom hfit
           have hmv := Mv.upd (cx := cx) o ⟨g + 1, i.size, (ck.xs.drop lo).take n ++ news⟩ (some ⟨p.b, p.k + lo * ck.sz, p.tot⟩) nx
            (w.setRow p.b (c.toList.take (p.k + lo * ck.sz + n * i.size) ++ nv ++ c.toList.drop (p.k + lo * ck.sz + n * i.size + nv.length)).toArray) hr fr lb (Nat.le_refl _) (hr.lt o ck ho)
            (.inr ⟨ck, ho, .inl (by simp; omega)⟩) ⟨rfl, rfl, rfl, by simp [World.setRow], fun b hb hne => setRow_other w p.b b _ fun e => hne ⟨ck, p, ho, hp, e⟩⟩
            (fun p' hp' => by injection hp' with hp'; subst hp'; exact .inl ⟨ck, p, ho, hp, rfl⟩)
            (fun kp => by
             have hfl := (hof.append hnf).mono kp
             refine hfl.cr (Ps.put_same ..) (q2.store (P := P) (p.k + lo * ck.sz + n * i.size) nv hfit hnf.o).2 (by simp; omega) ?_ fun q v hq => ?_
             ·simp only [hxlen]
              have : (lo + (n + news.length)) * ck.sz ≤ (lo + sc) * ck.sz := Nat.mul_le_mul_right _ (by omega)
              rw [Nat.add_mul] at this; rw [← hcsz]; omega
             ·rw [over_get c _ nv hfit]
              simp only
              by_cases hlt : q < ov.length
              ·rw [if_neg (by omega)]
               rw [List.getElem?_append_left hlt] at hq
               have hne : (ck.xs.drop lo).take n ≠ [] := by
                intro hnil; rw [hnil] at hof; have := hof.l; simp at this; simp [this] at hlt
               obtain ⟨b', off', e', hcell⟩ := hom hne
               injection e' with e'; injection e' with e1 e2 e3; subst e1; subst e2
               have := hcell q v hq
               rwa [q2.cell] at this
              ·rw [List.getElem?_append_right (by omega)] at hq
               have hlt2 := (List.getElem?_eq_some_iff.1 hq).1
               rw [if_pos (by omega)]
               rw [← hq]; congr 1; omega)
           refine ⟨_, _, _, hrun, ?_, hmv⟩
           refine .own _ _ _ _ _ (hr.lt o ck ho) ⟨_, _, rfl⟩ fun ck' hck' => ?_
           simp only [Up.hp, Hp.put_same, Option.some.injEq] at hck'; subst hck'
           refine ⟨Nat.le_refl _, fun _ => ⟨by simp; omega, _, sc, rfl, hroom, .inr ⟨_, Ps.put_same .., by simp, ?_⟩⟩⟩
           simp only [Nat.zero_add]
           rw [← hcsz]; rw [Nat.add_mul] at htot; omega
       ·-- a new row
        have hn0 : news ≠ [] := by intro e; subst e; simp at hroom; omega
        obtain ⟨b, off, rfl, hnm'⟩ := hnm hn0
        have hrun := run_app_grow (P := P) w t ty e i z ht hi hz sa n sc ov holen (fun hne => hom fun e => hne (by rw [e] at hof; simpa using hof.l))
         (fun h0 hov => h0 (by
          rw [hov, List.length_nil] at holen
          have := Nat.mul_eq_zero.1 holen.symm; omega)) (fun e => by
           rcases hplace with hplace | ⟨p, hp, e', _⟩
           ·exact ⟨by omega, hplace⟩
           ·rw [e] at e'; cases e') b off news.length xc nv hnf.l hnm' (by omega) h63 hbytes
        have hg : Grew w (w.drew.alloc (.cells (ov.toArray ++ nv.toArray ++ Builtin.zeroCells z.cells (grownCap w (n + news.length) sc e - (n + news.length))) e)) := (Grew.drew w).trans (Grew.alloc _ _)
        have hcapge := grownCap_ge w (n + news.length) sc e
        have hmv := Mv.upd (cx := cx) o ⟨g + 1, i.size, (ck.xs.drop lo).take n ++ news⟩ (some ⟨w.heap.size, 0, grownCap w (n + news.length) sc e * i.size⟩) nx _ hr fr lb (Nat.le_refl _) (hr.lt o ck ho)
         (.inr ⟨ck, ho, .inl (by simp; omega)⟩) (hg.but _) (fun p' hp' => by injection hp' with hp'; subst hp'; exact .inr (Nat.le_refl _))
         (fun kp => by
          have hfl := (hof.append hnf).mono kp
          refine hfl.cr (Ps.put_same ..) (c := ov.toArray ++ nv.toArray ++ Builtin.zeroCells z.cells (grownCap w (n + news.length) sc e - (n + news.length))) (E := e) (CellsAt.of (by show (w.heap.push _)[w.heap.size]? = _; simp)) ?_ ?_ fun q v hq => ?_
          ·simp only [Array.size_append, List.size_toArray, size_zeroCells, hzs, holen, hnf.l, ← Nat.add_mul]
           congr 1; omega
          ·simp only [hxlen, Nat.zero_add]; exact Nat.mul_le_mul_right _ hcapge
          ·have hlt := (List.getElem?_eq_some_iff.1 hq).1
           simp only [Nat.zero_add]
           rw [Array.getElem?_append_left (by simpa using hlt)]
           simpa using hq)
        refine ⟨_, _, _, hrun, ?_, hmv⟩
        refine .own _ _ _ _ _ (hr.lt o ck ho) ⟨_, _, rfl⟩ fun ck' hck' => ?_
        simp only [Up.hp, Hp.put_same, Option.some.injEq] at hck'; subst hck'
        refine ⟨Nat.le_refl _, fun _ => ⟨by simp; omega, _, _, rfl, hcapge, .inr ⟨_, Ps.put_same .., by simp, by simp⟩⟩⟩
     ·cases h
   | _ => simp at h
  ·cases h
end Go.Pv
