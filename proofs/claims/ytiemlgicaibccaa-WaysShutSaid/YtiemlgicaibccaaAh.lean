/- ways.Apart walked: its contract. No condition of its own. -/
import Derived.Test.YtiemlgicaibccaaFx
import Derived.Test.YtiemlgicaibccaaPw
import Derived.StillTailTactics
import Derived.BigRegion
import Derived.LoopTactic
set_option linter.all false
namespace Go.Proofs.Ytiemlgicaibccaa
open Go.Pv
def PV (w : World) (d : DV) (x : Value) : Prop := VR (ofL []) (fun _ => none) (fun _ => False) 0 w d x
theorem nolive (ps : Ps) (b : Nat) : ¬ Live (ofL []) ps b := by rintro ⟨o, ck, p, h, _⟩; cases h
theorem PV.of {H : Hp} {ps : Ps} {M : Nat → Prop} {nx : Nat} {w : World} {d : DV} {x : Value} (h : VR H ps M nx w d x) (hd : Ids (fun _ => False) d) : PV w d x :=
 h.monoS hd ⟨fun o h => h.elim, fun o h => h.elim, fun b hb => by rcases hb with h | h; exact h.elim; exact absurd h (nolive _ _), fun _ _ _ => rfl⟩
theorem PV.keep {w w' : World} {d : DV} {x : Value} (h : PV w d x) (fr : Fr (fun _ => False) w w') : PV w' d x :=
 VR.mono h ⟨Nat.le_refl _, fun o ho => absurd ho (Nat.not_lt_zero _), fun b hb => by rcases hb with h | h; exact h.elim; exact absurd h (nolive _ _), fun b hb _ => fr.block b hb (fun h => h)⟩
def GW (P : Program) (w : World) : Prop := GlOK P w (fun _ => False)
theorem GW.keep {P : Program} {w w' : World} (h : GW P w) (fr : Fr (fun _ => False) w w') : GW P w' := GlOK.of h fr fun b hb => hb.elim
theorem hr_nil {M : Nat → Prop} {ps : Ps} {nx : Nat} {w : World} (hm : ∀ b, M b → b < w.heap.size) : HR (ofL []) ps M nx w :=
 ⟨fun o ck h => (by cases h), fun o ck h => (by cases h), fun o o' ck ck' p p' h => (by cases h), hm, fun o ck p h => (by cases h)⟩
theorem fr_live {ps : Ps} {w w' : World} (h : Fr (Live (ofL []) ps) w w') : Fr (fun _ => False) w w' := ⟨h.os, h.tape, h.output, h.size, fun i hi hn => h.block i hi (nolive _ _)⟩
theorem pure_raw {P : Program} {f : FuncId} {ts ret : List GT} {model : Els ts → Option (Els ret)} (h : PureOK P f ts ret model) {x : Els ts} {y : Els ret} (hm : model x = some y) {w : World} {cargs : Array Value} (hsz : cargs.size = (valsD ts x).length)
  (hv : ∀ j (hj : j < (valsD ts x).length), PV w (valsD ts x)[j] (cargs.getD j undef)) (hg : GW P w) : Calls P f cargs w fun e w' => ∃ v, e = .returned v ∧ PV w' (resV (valsD ret y)) v ∧ Fr (fun _ => False) w w' := by
 refine ((h x y hm 0).run (fun _ => False) (fun _ => none) w cargs (hr_nil fun _ h => h.elim) hsz hv (hg.less fun b hb => nolive _ _ hb)).mono ?_
 rintro e w' ⟨v, ps', rfl, h1, h2, h3, h4, h5⟩
 exact ⟨v, rfl, PV.of h1 (resV_ids (valsD_ids ret y)), fr_live h3⟩
theorem own_pv {H : Hp} {ps : Ps} {M : Nat → Prop} {nx : Nat} {w : World} {o : Nat} {ck : Ck} {v : Value} (hr : HR H ps M nx w) (hH : H o = some ck) (hz : 0 < ck.sz) (flat : ∀ x, x ∈ ck.xs → ∀ c, c ∈ x → Ids (fun _ => False) c) (hv : VR H ps M nx w (.own o ck.gen 0 ck.xs.length) v) : PV w (.lst false ck.xs) v := by
 cases hv with
 | own _ _ _ _ _ h0 h1 hh =>
  obtain ⟨_, hh⟩ := hh ck hH
  obtain ⟨_, a, cap, rfl, hn, hcap⟩ := hh rfl
  by_cases hn0 : ck.xs = []
  ·rw [hn0]; exact .lnil false a cap (fun e => by cases e)
  ·have hpos := List.length_pos_iff.2 hn0
   rcases hcap with hcap | ⟨p, hp1, rfl, htot⟩
   ·omega
   ·rcases hr.cr o ck hH with ⟨q1, _⟩ | ⟨p', c, E, vs, q1, q2, q3, q4, q5, q6, q7⟩
    ·rw [hp1] at q1; cases q1
    ·rw [hp1] at q1; injection q1 with q1; subst q1
     refine .lst false ck.xs p.b (p.k + 0 * ck.sz) cap ck.sz vs hn0 hz hn (fun e => by cases e) ?_ q4 (fun i j hi hj => (q6 i j hi hj).1) (fun i j hi hj => ?_) (fun i j hi hj => PV.of (q7 i j hi hj) (flat _ (List.getElem_mem hi) _ (List.getElem_mem hj)))
     ·rintro (hm | hm)
      ·exact hm
      ·exact nolive _ _ hm
     ·have h2 := (q6 i j hi hj).2
      rw [q2.cell]
      rw [Nat.zero_mul, Nat.add_zero]; exact h2
open M
theorem find_raw {fi : El GMine × El GEsc → Option (Fdr × Unit)} (h2 : SFOK Try.prog 42 [none, none] [.v GMine, .v GEsc] [.o (.p (.v (.int .i64)) (.p (.a GSte) (.p (.a .bool) (.a .bool))))] fi) {m : El GMine} {e : El GEsc} {f : Fdr} (hf : fi (m, e) = some (f, ())) {w : World} {x0 x1 : Value}
  (hv0 : PV w (valD GMine m) x0) (hv1 : PV w (valD GEsc e) x1) (hg : GW Try.prog w) : Calls Try.prog 42 #[x0, x1] w fun e w' => ∃ s1 s2 s3, e = .returned (.agg #[.int .i64 f.1, s1, s2, s3]) ∧ s1.oneCell' = true ∧ s2.oneCell' = true ∧ s3.oneCell' = true ∧ PV w' (.lst false (f.2.1.map (encD GSte))) s1 ∧ PV w' (.lst false (f.2.2.1.map (encD .bool))) s2 ∧ PV w' (.lst false (f.2.2.2.map (encD .bool))) s3 ∧ Fr (fun _ => False) w w' := by
 have C : CallOK Try.prog 42 [valD GMine m, valD GEsc e] [] 0 (.agg [.v (.int .i64 f.1), .own 0 0 0 f.2.1.length, .own 1 0 0 f.2.2.1.length, .own 2 0 0 f.2.2.2.length]) [(0, ⟨0, 4, f.2.1.map (encD GSte)⟩), (1, ⟨0, 1, f.2.2.1.map (encD .bool)⟩), (2, ⟨0, 1, f.2.2.2.map (encD .bool)⟩)] 3 := h2 (m, e) f () hf
 refine (C.run (fun _ => False) (fun _ => none) w #[x0, x1] (hr_nil fun _ h => h.elim) rfl (fun j hj => ?_) (hg.less fun b hb => nolive _ _ hb)).mono ?_
 ·match j, hj with
  | 0, _ => exact hv0
  | 1, _ => exact hv1
 rintro e w' ⟨v, ps', rfl, k1, k2, k3, k4, k5⟩
 obtain ⟨vs, rfl, z, z1, z2⟩ := k1.agg_inv
 obtain ⟨l⟩ := vs
 match l, z with
 | [a, s1, s2, s3], _ =>
 have z3 := (z2 0 (show 0 < 4 by decide)).v_inv
 have z3 : a = .int .i64 f.1 := z3
 subst z3
 have o1 := own_pv (ck := ⟨0, 4, f.2.1.map (encD GSte)⟩) k2 (o := 0) rfl (Nat.zero_lt_succ _) (fun x hx c hc => map_ids x hx c hc) (by have := z2 1 (show 1 < 4 by decide); rw [List.length_map]; exact this)
 have o2 := own_pv (ck := ⟨0, 1, f.2.2.1.map (encD .bool)⟩) k2 (o := 1) rfl (Nat.zero_lt_succ _) (fun x hx c hc => map_ids x hx c hc) (by have := z2 2 (show 2 < 4 by decide); rw [List.length_map]; exact this)
 have o3 := own_pv (ck := ⟨0, 1, f.2.2.2.map (encD .bool)⟩) k2 (o := 2) rfl (Nat.zero_lt_succ _) (fun x hx c hc => map_ids x hx c hc) (by have := z2 3 (show 3 < 4 by decide); rw [List.length_map]; exact this)
 exact ⟨s1, s2, s3, rfl, z1 1 (show 1 < 4 by decide), z1 2 (show 2 < 4 by decide), z1 3 (show 3 < 4 by decide), o1, o2, o3, fr_live k3⟩
end Go.Proofs.Ytiemlgicaibccaa
set_option linter.all false
namespace Go.Proofs.Ytiemlgicaibccaa
open Go.Pv Go.ChangeMaps Go.Maps Go.Pv.Fw Go.MapKept M
open Go.RowKit (intOf)
theorem fr_none {w w' : World} {row : Option Nat} (g : w.grownBy w' row) (h : ∀ k, row = some k → w.heap.size ≤ k) : Fr (fun _ => False) w w' :=
 ⟨g.os, g.tape, g.output, g.size, fun i hi _ => g.block i hi fun e => by have := h i e.symm; omega⟩
theorem fr_alloc (w : World) (o : Obj) : Fr (fun _ => False) w (w.alloc o) := fr_none (World.grownBy_alloc w o none) (by simp)
theorem lst_cells {w : World} {xs : List (List DV)} {s : Value} (h : PV w (.lst false xs) s) (sz : Nat) (hz : ∀ x, x ∈ xs → x.length = sz) : ∃ oa cap, s = .slice oa xs.length cap ∧ (xs ≠ [] → ∃ b off, oa = some ⟨b, off, none⟩ ∧ b < w.heap.size ∧
  ∀ i (hi : i < xs.length) j (hj : j < xs[i].length), ∃ v, w.cell? ⟨b, off + (i * sz + j), none⟩ = some v ∧ PV w xs[i][j] v) := by
 cases h with
 | lnil _ a cap hf => exact ⟨a, cap, rfl, fun h => absurd rfl h⟩
 | lst _ _ b off cap sz' vs hne hs hcap hf hM hz' h1 hc hv =>
  have hp := List.length_pos_iff.2 hne
  have e : sz' = sz := by rw [← hz' 0 hp]; exact hz _ (List.getElem_mem hp)
  subst e
  exact ⟨_, cap, rfl, fun _ => ⟨b, off, rfl, lt_size_of_cell (hc 0 0 hp hs), fun i hi j hj => ⟨vs i j, hc i j hi (by rw [← hz' i hi]; exact hj), hv i j hi hj⟩⟩⟩
theorem safe_cells {f : Fdr} {s2 : Value} {w5 : World} (o2 : PV w5 (.lst false (f.2.2.1.map (encD .bool))) s2) (hne : f.2.2.1 ≠ []) : ∃ b off cap, s2 = .slice (some ⟨b, off, none⟩) f.2.2.1.length cap ∧ b < w5.heap.size ∧ ∀ i : Nat, i < f.2.2.1.length → w5.cell? ⟨b, off + i, none⟩ = some (.bool (f.2.2.1.getD i false)) := by
 obtain ⟨oa, cap, rfl, h⟩ := lst_cells o2 1 (fun x hx => by obtain ⟨y, _, rfl⟩ := List.mem_map.1 hx; rfl)
 obtain ⟨b, off, rfl, hb, h⟩ := h (by simpa using hne)
 refine ⟨b, off, cap, by rw [List.length_map], hb, fun i hi => ?_⟩
 obtain ⟨v, k1, k2⟩ := h i (by rw [List.length_map]; exact hi) 0 (by simp [encD])
 have e : (List.map (encD GT.bool) f.2.2.1)[i]'(by rw [List.length_map]; exact hi) = [.v (.bool (f.2.2.1[i]))] := by rw [List.getElem_map]; rfl
 have k2 : PV w5 (.v (.bool f.2.2.1[i])) v := by simpa [e] using k2
 rw [VR.v_inv k2] at k1
 rw [show f.2.2.1.getD i false = f.2.2.1[i] by simp [List.getD, hi], ← k1, Nat.mul_one, Nat.add_zero]
theorem step_cells {f : Fdr} {s1 : Value} {w5 : World} (o1 : PV w5 (.lst false (f.2.1.map (encD GSte))) s1) : ∃ oa cap, s1 = .slice oa f.2.1.length cap ∧ (0 < f.2.1.length → ∃ b off, oa = some ⟨b, off, none⟩ ∧ b < w5.heap.size ∧ ∀ (i : Nat) (s : Ste), f.2.1[i]? = some s →
  w5.cell? ⟨b, off + i * 4, none⟩ = some (.int .i64 s.1) ∧ w5.cell? ⟨b, off + i * 4 + 1, none⟩ = some (.int .i64 s.2.1) ∧ w5.cell? ⟨b, off + i * 4 + 2, none⟩ = some (.int .i64 s.2.2.1) ∧ w5.cell? ⟨b, off + i * 4 + 3, none⟩ = some (.int .i64 s.2.2.2)) := by
 obtain ⟨oa, cap, rfl, h⟩ := lst_cells o1 4 (fun x hx => by obtain ⟨y, _, rfl⟩ := List.mem_map.1 hx; rfl)
 refine ⟨oa, cap, by rw [List.length_map], fun hne => ?_⟩
 obtain ⟨b, off, rfl, hb, h⟩ := h (by intro e; rw [List.map_eq_nil_iff] at e; rw [e] at hne; exact absurd hne (by simp))
 refine ⟨b, off, rfl, hb, fun i s hs => ?_⟩
 obtain ⟨hi, hs⟩ := List.getElem?_eq_some_iff.1 hs
 have hi' : i < (List.map (encD GSte) f.2.1).length := by rw [List.length_map]; exact hi
 have e : (List.map (encD GSte) f.2.1)[i]'hi' = [.v (.int .i64 s.1), .v (.int .i64 s.2.1), .v (.int .i64 s.2.2.1), .v (.int .i64 s.2.2.2)] := by rw [List.getElem_map, hs]; rfl
 have key : ∀ (j : Nat) (x : Value), [DV.v (.int .i64 s.1), .v (.int .i64 s.2.1), .v (.int .i64 s.2.2.1), .v (.int .i64 s.2.2.2)][j]? = some (.v x) → w5.cell? ⟨b, off + (i * 4 + j), none⟩ = some x := fun j x hj => by
  obtain ⟨hj1, hj2⟩ := List.getElem?_eq_some_iff.1 hj
  obtain ⟨v, k1, k2⟩ := h i hi' j (by rw [e]; exact hj1)
  have k3 : PV w5 (.v x) v := by simp only [e] at k2; rw [hj2] at k2; exact k2
  rw [VR.v_inv k3] at k1; exact k1
 exact ⟨by have := key 0 _ rfl; rw [Nat.add_zero] at this; exact this, by have := key 1 _ rfl; rw [← Nat.add_assoc] at this; exact this, by have := key 2 _ rfl; rw [← Nat.add_assoc] at this; exact this, by have := key 3 _ rfl; rw [← Nat.add_assoc] at this; exact this⟩
theorem bad_len {l : List Bool} {s3 : Value} {w5 : World} (o3 : PV w5 (.lst false (l.map (encD .bool))) s3) : ∃ oa cap, s3 = .slice oa l.length cap := by
 obtain ⟨oa, cap, rfl, h⟩ := lst_cells o3 1 (fun x hx => by obtain ⟨y, _, rfl⟩ := List.mem_map.1 hx; rfl)
 exact ⟨oa, cap, by rw [List.length_map]⟩
section
variable {th : El GMine × El GEsc × Int → Option Bool} {fi : El GMine × El GEsc → Option (Fdr × Unit)} {u : Fdr × Ste → Option Bool} (h1 : PureOK Try.prog 41 [GMine, GEsc, .int .i64] [.bool] th)
  (h2 : SFOK Try.prog 42 [none, none] [.v GMine, .v GEsc] [.o (.p (.v (.int .i64)) (.p (.a GSte) (.p (.a .bool) (.a .bool))))] fi) (h3 : PureOK Try.prog 45 [GFdr, GSte] [.bool] u)
  (hu : ∀ f s, Wf f → s ∈ f.2.1 → u (f, s) = some (usB f s))
variable {m : El GMine} {e : El GEsc} {p : Int} {w : World} {a0 a1 b0 b1 b2 b3 : Value} (v0 : PV w (valD GMine m) (.agg #[a0, a1])) (v1 : PV w (valD GEsc e) (.agg #[b0, b1, b2, b3])) (hg : GW Try.prog w)
include h1 v0 v1 hg
set_option maxRecDepth 1000000 in
theorem apart_A (ht : th (m, e, p) = some false) : Calls Try.prog 21 #[.agg #[a0, a1], .agg #[b0, b1, b2, b3], .int .i64 p] w fun e w' => e = .returned (.int .i64 0) ∧ Fr (fun _ => False) w w' := by
 have f2 : Fr (fun _ => False) w ((w.alloc (.cells #[a0, a1] 32)).alloc (.cells #[b0, b1, b2, b3] 24)) := Fr.comp (fr_alloc _ _) (fr_alloc _ _)
 have hc := pure_raw h1 ht (w := (w.alloc (.cells #[a0, a1] 32)).alloc (.cells #[b0, b1, b2, b3] 24)) (cargs := #[.agg #[a0, a1], .agg #[b0, b1, b2, b3], .int .i64 p]) rfl (fun j hj => match j, hj with
  | 0, _ => v0.keep f2
  | 1, _ => v1.keep f2
  | 2, _ => .v _) (hg.keep f2)
 go_enter Try.func21, Try.ntmps21
 go_wp2_with (go_at_call 41; refine hc.mono ?_; rintro e2 w3 ⟨v, rfl, hv, hf⟩; cases (show v = .bool false from VR.v_inv hv))
 go_ret
 exact ⟨rfl, Fr.comp f2 hf⟩
include h2
set_option maxRecDepth 1000000 in
theorem apart_B (ht : th (m, e, p) = some true) {f : Fdr} (hf : fi (m, e) = some (f, ())) {k : Nat} (hk : p = k) (hp1 : k < f.2.2.1.length) (hpl : f.2.2.1.length ≤ 1000000) (hps : f.2.2.1.getD k false = true) : Calls Try.prog 21 #[.agg #[a0, a1], .agg #[b0, b1, b2, b3], .int .i64 p] w fun e w' => e = .returned (.int .i64 2) ∧ Fr (fun _ => False) w w' := by
 have f2 : Fr (fun _ => False) w ((w.alloc (.cells #[a0, a1] 32)).alloc (.cells #[b0, b1, b2, b3] 24)) := Fr.comp (fr_alloc _ _) (fr_alloc _ _)
 have hc := pure_raw h1 ht (w := (w.alloc (.cells #[a0, a1] 32)).alloc (.cells #[b0, b1, b2, b3] 24)) (cargs := #[.agg #[a0, a1], .agg #[b0, b1, b2, b3], .int .i64 p]) rfl (fun j hj => match j, hj with
  | 0, _ => v0.keep f2
  | 1, _ => v1.keep f2
  | 2, _ => .v _) (hg.keep f2)
 have sz2 : ((w.alloc (.cells #[a0, a1] 32)).alloc (.cells #[b0, b1, b2, b3] 24)).heap.size = w.heap.size + 2 := by simp only [alloc_sz]
 have ca : ((w.alloc (.cells #[a0, a1] 32)).alloc (.cells #[b0, b1, b2, b3] 24)).heap[w.heap.size]? = some (.cells #[a0, a1] 32 (0, 0)) := by rw [alloc_keep _ _ _ (by rw [alloc_sz]; omega)]; exact (heap_alloc w _).1
 have cb : ((w.alloc (.cells #[a0, a1] 32)).alloc (.cells #[b0, b1, b2, b3] 24)).heap[w.heap.size + 1]? = some (.cells #[b0, b1, b2, b3] 24 (0, 0)) := by have := (heap_alloc (w.alloc (.cells #[a0, a1] 32)) (.cells #[b0, b1, b2, b3] 24)).1; rw [alloc_sz] at this; exact this
 subst hk
 go_enter Try.func21, Try.ntmps21
 go_wp2_with (first | (go_at_call 41; refine hc.mono ?_; rintro e2 w3 ⟨v, rfl, hv, hf3⟩; cases (show v = .bool true from VR.v_inv hv); have ca3 := (hf3.block w.heap.size (by omega) (fun h => h)).trans ca; have cb3 := (hf3.block (w.heap.size + 1) (by omega) (fun h => h)).trans cb; have q1 : w3.cell? ⟨w.heap.size, 0, none⟩ = some a0 := by { simp [World.cell?, ca3] }; have q2 : w3.cell? ⟨w.heap.size, 1, none⟩ = some a1 := by { simp [World.cell?, ca3] }; have q3 : w3.cell? ⟨w.heap.size + 1, 0, none⟩ = some b0 := by { simp [World.cell?, cb3] }; have q4 : w3.cell? ⟨w.heap.size + 1, 1, none⟩ = some b1 := by { simp [World.cell?, cb3] }; have q5 : w3.cell? ⟨w.heap.size + 1, 2, none⟩ = some b2 := by { simp [World.cell?, cb3] }; have q6 : w3.cell? ⟨w.heap.size + 1, 3, none⟩ = some b3 := by { simp [World.cell?, cb3] }) | (go_at_call 42; go_loud (refine (find_raw h2 hf (v0.keep (Fr.comp f2 hf3)) (v1.keep (Fr.comp f2 hf3)) (hg.keep (Fr.comp f2 hf3))).mono ?_; rintro e3 w5 ⟨s1, s2, s3, rfl, y1, y2, y3, o1, o2, o3, hf5⟩; obtain ⟨bs, os, caps, rfl, hbs, hcs⟩ := safe_cells o2 (fun h => by rw [h] at hp1; exact absurd hp1 (by simp)); obtain ⟨oa1, cap1, rfl, hst⟩ := step_cells o1; obtain ⟨oa3, cap3, rfl⟩ := bad_len o3; have hpk : (w5.alloc (.cells #[.int .i64 f.1, .slice oa1 f.2.1.length cap1, .slice (some ⟨bs, os, none⟩) f.2.2.1.length caps, .slice oa3 f.2.2.2.length cap3] 72)).cell? ⟨bs, os + k, none⟩ = some (.bool true) := (cell_old _ _ _ hbs).trans (by rw [hcs k hp1, hps]))))
 go_ret
 exact ⟨rfl, Fr.comp (Fr.comp (Fr.comp f2 hf3) hf5) (fr_alloc _ _)⟩
end
end Go.Proofs.Ytiemlgicaibccaa
set_option linter.all false
namespace Go.Proofs.Ytiemlgicaibccaa
open Go.Pv Go.ChangeMaps Go.Maps Go.Pv.Fw Go.MapKept M
open Go.RowKit (intOf)
open Classical in
noncomputable def rr (S : Nd → Nd → Prop) : Nd → Nd → Int := fun a b => if S a b then 1 else 0
theorem setr_rr (S : Nd → Nd → Prop) (a b : Nd) : setr (rr S) a b 1 = rr (fun y z => S y z ∨ (y = a ∧ z = b)) := by
 funext y z
 unfold setr rr
 by_cases h : y = a ∧ z = b
 ·rw [if_pos h, if_pos (.inr h)]
 ·rw [if_neg h]
  by_cases h2 : S y z
  ·rw [if_pos h2, if_pos (.inl h2)]
  ·rw [if_neg h2, if_neg (fun h3 => h3.elim h2 h)]
theorem rr_eq {S S' : Nd → Nd → Prop} (h : ∀ a b, S a b ↔ S' a b) : rr S = rr S' := by
 have : S = S' := by funext a b; exact propext (h a b)
 rw [this]
structure ApS (n : Nat) (W wr : World) (wb e : Nat) (S : Nd → Nd → Prop) (D : Nd → Option Nat) : Prop where
 web : Web wr wb (rr S) D
 fr : Fr (fun _ => False) W wr
 dm : ∀ i, Dom wb D i → W.heap.size ≤ i ∧ i ≠ e
 dv : ∀ x, D x ≠ none → x ∈ Vn n
 e1 : wr.cell? ⟨e, 0, none⟩ = some (.int .i64 n)
 e2 : wr.cell? ⟨e, 1, none⟩ = some (.bool false)
theorem ApS.grow {n : Nat} {W wr w' : World} {wb e : Nat} {S : Nd → Nd → Prop} {D : Nd → Option Nat} (A : ApS n W wr wb e S D) (fr : Fr (fun _ => False) wr w') : ApS n W w' wb e S D :=
 ⟨A.web.keep fun i hi => fr.block i (A.web.lt hi) (fun h => h), Fr.comp A.fr fr, A.dm, A.dv, Fr.cell fr A.e1 (fun h => h), Fr.cell fr A.e2 (fun h => h)⟩
theorem ApS.arc {n : Nat} {W wr w' : World} {wb e : Nat} {S : Nd → Nd → Prop} {D : Nd → Option Nat} (A : ApS n W wr wb e S D) {a b : Nd} (ha : a ∈ Vn n) (hb : b ∈ Vn n) {D' : Nd → Option Nat} (h1 : Web w' wb (setr (rr S) a b 1) D') (h2 : Ext wr w' wb D D') (h3 : Only a b D D') : ApS n W w' wb e (fun y z => S y z ∨ (y = a ∧ z = b)) D' := by
 have he : e < wr.heap.size := lt_size_of_cell A.e1
 have hne : ¬ Dom wb D e := fun h => (A.dm e h).2 rfl
 have hs := A.fr.size
 refine ⟨by rw [← setr_rr]; exact h1, ⟨h2.fr.os.trans A.fr.os, h2.fr.tape.trans A.fr.tape, h2.fr.output.trans A.fr.output, Nat.le_trans hs h2.fr.size, fun i hi _ => (h2.fr.block i (by omega) (fun hd => by have := (A.dm i hd).1; omega)).trans (A.fr.block i hi (fun h => h))⟩, fun i hi => ?_, fun x hx => ?_, Fr.cell h2.fr A.e1 hne, Fr.cell h2.fr A.e2 hne⟩
 ·rcases hi with rfl | ⟨x, hx⟩
  ·exact A.dm _ (.inl rfl)
  ·rcases h2.new x i hx with h | h
   ·exact A.dm _ (.inr ⟨x, h⟩)
   ·exact ⟨by omega, by omega⟩
 ·rcases h3 x hx with h | rfl | rfl
  ·exact A.dv x h
  ·exact ha
  ·exact hb
theorem ApS.start {n : Nat} {W w1 : World} {wb e : Nat} (g : Fr (fun _ => False) W w1) (hm : w1.heap[wb]? = some (.map #[] 0)) (hwb : W.heap.size ≤ wb) (hne : wb ≠ e) (h1 : w1.cell? ⟨e, 0, none⟩ = some (.int .i64 n)) (h2 : w1.cell? ⟨e, 1, none⟩ = some (.bool false)) : ApS n W w1 wb e (fun _ _ => False) (fun _ => none) := by
 refine ⟨⟨⟨_, _, _, MapD.new hm⟩, fun a b h => (by cases h), fun a _ x => ?_, fun a h => absurd rfl h, fun a a' b h => (by cases h)⟩, g, fun i hi => ?_, fun x h => absurd rfl h, h1, h2⟩
 ·unfold rr; exact if_neg fun h => h
 ·rcases hi with rfl | ⟨a, ha⟩
  ·exact ⟨hwb, hne⟩
  ·cases ha
theorem fr_drew (w : World) : Fr (fun _ => False) w w.drew := ⟨rfl, rfl, rfl, Nat.le_refl _, fun _ _ _ => rfl⟩
theorem ApS.start1 {n : Nat} (W : World) : ApS n W ((W.alloc (.cells #[.int .i64 n, .bool false] 81)).alloc (.map #[] 0)).drew (W.heap.size + 1) W.heap.size (fun _ _ => False) (fun _ => none) := by
 have g : Fr (fun _ => False) W ((W.alloc (.cells #[.int .i64 n, .bool false] 81)).alloc (.map #[] 0)).drew := Fr.comp (fr_alloc W _) (Fr.comp (fr_alloc _ _) (fr_drew _))
 refine .start g ?_ (Nat.le_succ _) (by omega) ?_ ?_
 ·have := (heap_alloc (W.alloc (.cells #[.int .i64 n, .bool false] 81)) (.map #[] 0)).1
  rw [alloc_sz] at this; exact this
 ·exact (cell_old _ _ ⟨W.heap.size, 0, none⟩ (by rw [alloc_sz]; exact Nat.lt_succ_self _)).trans (cell_new _ _ _ _)
 ·exact (cell_old _ _ ⟨W.heap.size, 1, none⟩ (by rw [alloc_sz]; exact Nat.lt_succ_self _)).trans (cell_new _ _ _ _)
theorem ApS.start2 {n : Nat} (W : World) : ApS n W ((W.alloc (.map #[] 0)).alloc (.cells #[.int .i64 n, .bool false] 81)).drew W.heap.size (W.heap.size + 1) (fun _ _ => False) (fun _ => none) := by
 have g : Fr (fun _ => False) W ((W.alloc (.map #[] 0)).alloc (.cells #[.int .i64 n, .bool false] 81)).drew := Fr.comp (fr_alloc W _) (Fr.comp (fr_alloc _ _) (fr_drew _))
 have hc : ∀ i, ((W.alloc (.map #[] 0)).alloc (.cells #[.int .i64 n, .bool false] 81)).cell? ⟨W.heap.size + 1, i, none⟩ = (#[Value.int .i64 n, .bool false] : Array Value)[i]? := fun i => by have := cell_new (W.alloc (.map #[] 0)) #[.int .i64 n, .bool false] 81 i; rw [alloc_sz] at this; exact this
 refine .start g ?_ (Nat.le_refl _) (by omega) (hc 0) (hc 1)
 exact (alloc_keep _ _ _ (by rw [alloc_sz]; exact Nat.lt_succ_self _)).trans (heap_alloc W _).1
def ArcA (sa : List Bool) (p : Nat) (j : Nat) (a b : Nd) : Prop := (∃ q : Nat, q < j ∧ q ≠ p ∧ a = ((q : Int), false) ∧ b = ((q : Int), true)) ∨ (∃ q : Nat, q < j ∧ sa.getD q false = true ∧ a = ((q : Int), true) ∧ b = ((sa.length : Int), false))
def ArcR (f : Fdr) (p : Int) (j : Nat) (a b : Nd) : Prop := ∃ (i : Nat) (s : Ste), i < j ∧ f.2.1[i]? = some s ∧ us f s ∧ s.2.2.1 ≠ p ∧ a = (s.2.1, true) ∧ b = (s.2.2.1, false)
theorem arcA_zero (sa : List Bool) (p : Nat) (a b : Nd) : False ↔ ArcA sa p 0 a b :=
 ⟨fun h => h.elim, fun h => by rcases h with ⟨q, h, _⟩ | ⟨q, h, _⟩ <;> exact absurd h (Nat.not_lt_zero _)⟩
theorem arcA_succ (sa : List Bool) (p j : Nat) (a b : Nd) : ArcA sa p (j + 1) a b ↔ ArcA sa p j a b ∨ (j ≠ p ∧ a = ((j : Int), false) ∧ b = ((j : Int), true)) ∨ (sa.getD j false = true ∧ a = ((j : Int), true) ∧ b = ((sa.length : Int), false)) := by
 unfold ArcA
 constructor
 ·rintro (⟨q, h1, h2, h3⟩ | ⟨q, h1, h2, h3⟩)
  ·by_cases e : q = j
   ·subst e; exact .inr (.inl ⟨h2, h3⟩)
   ·exact .inl (.inl ⟨q, by omega, h2, h3⟩)
  ·by_cases e : q = j
   ·subst e; exact .inr (.inr ⟨h2, h3⟩)
   ·exact .inl (.inr ⟨q, by omega, h2, h3⟩)
 ·rintro ((⟨q, h1, h2, h3⟩ | ⟨q, h1, h2, h3⟩) | ⟨h2, h3⟩ | ⟨h2, h3⟩)
  ·exact .inl ⟨q, by omega, h2, h3⟩
  ·exact .inr ⟨q, by omega, h2, h3⟩
  ·exact .inl ⟨j, by omega, h2, h3⟩
  ·exact .inr ⟨j, by omega, h2, h3⟩
theorem arcR_zero (f : Fdr) (p : Int) (a b : Nd) : ¬ ArcR f p 0 a b := fun ⟨i, s, h, _⟩ => absurd h (Nat.not_lt_zero _)
theorem arcR_succ (f : Fdr) (p : Int) (j : Nat) (s : Ste) (hs : f.2.1[j]? = some s) (a b : Nd) : ArcR f p (j + 1) a b ↔ ArcR f p j a b ∨ (us f s ∧ s.2.2.1 ≠ p ∧ a = (s.2.1, true) ∧ b = (s.2.2.1, false)) := by
 unfold ArcR
 constructor
 ·rintro ⟨i, s', h1, h2, h3⟩
  by_cases e : i = j
  ·subst e; rw [hs] at h2; injection h2 with h2; subst h2; exact .inr h3
  ·exact .inl ⟨i, s', by omega, h2, h3⟩
 ·rintro (⟨i, s', h1, h2, h3⟩ | h3)
  ·exact ⟨i, s', by omega, h2, h3⟩
  ·exact ⟨j, s, by omega, hs, h3⟩
theorem arc_all (st : List Ste) (sa ba : List Bool) (k : Nat) (a b : Nd) : (ArcA sa k sa.length a b ∨ ArcR ((sa.length : Int), st, sa, ba) k st.length a b) ↔ Arc ((sa.length : Int), st, sa, ba) k a b := by
 constructor
 ·rintro ((⟨q, h1, h2, rfl, rfl⟩ | ⟨q, h1, h2, rfl, rfl⟩) | ⟨i, s, h1, h2, h3, h4, rfl, rfl⟩)
  ·exact .thru (by omega) (by simp only; omega) (by omega)
  ·exact .out (f := ((sa.length : Int), st, sa, ba)) (by omega) (by simp only; omega) (by simpa using h2)
  ·exact .road (List.mem_of_getElem? h2) h3 h4
 ·intro h
  cases h with
  | @thru q h0 h1 hq => exact .inl (.inl ⟨q.toNat, by simp only at h1; omega, by omega, by rw [Int.toNat_of_nonneg h0], by rw [Int.toNat_of_nonneg h0]⟩)
  | @out q h0 h1 hs => exact .inl (.inr ⟨q.toNat, by simp only at h1; omega, hs, by rw [Int.toNat_of_nonneg h0], rfl⟩)
  | @road s hs hu hp =>
   obtain ⟨i, hi, he⟩ := List.getElem_of_mem hs
   exact .inr ⟨i, s, hi, by rw [List.getElem?_eq_getElem hi, he], hu, hp, rfl, rfl⟩
theorem nodup_len {l V : List Nd} (hl : l.Nodup) (h : ∀ x, x ∈ l → x ∈ V) : l.length ≤ V.length := by
 induction l generalizing V with
 | nil => exact Nat.zero_le _
 | cons a r ih =>
  have h1 := h a (List.mem_cons_self ..)
  have hn := List.nodup_cons.1 hl
  have := ih (V := V.erase a) hn.2 fun x hx => (List.mem_erase_of_ne (fun e : x = a => hn.1 (e ▸ hx))).2 (h x (List.mem_cons_of_mem _ hx))
  rw [List.length_erase_of_mem h1] at this
  have := List.length_pos_of_mem h1
  simp only [List.length_cons]; omega
theorem vn_nok {n : Nat} (hn : n ≤ 1000000) {a : Nd} (h : a ∈ Vn n) : Nok a := by
 rcases Vn_mem.1 h with rfl | h
 ·exact ⟨by simp only; omega, by simp only; omega⟩
 ·exact ⟨h.1, by omega⟩
theorem vn_in {n j : Nat} (h : j < n) (b : Bool) : (((j : Int), b) : Nd) ∈ Vn n := Vn_mem.2 (.inr ⟨by simp only; omega, by simp only; omega⟩)
theorem vn_end (n : Nat) : (((n : Int), false) : Nd) ∈ Vn n := Vn_mem.2 (.inl rfl)
theorem pv_fdr {w : World} {f : Fdr} {s1 s2 s3 : Value} (y1 : s1.oneCell' = true) (y2 : s2.oneCell' = true) (y3 : s3.oneCell' = true) (o1 : PV w (.lst false (f.2.1.map (encD GSte))) s1) (o2 : PV w (.lst false (f.2.2.1.map (encD .bool))) s2) (o3 : PV w (.lst false (f.2.2.2.map (encD .bool))) s3) : PV w (valD GFdr f) (.agg #[.int .i64 f.1, s1, s2, s3]) := by
 refine .agg [.v (.int .i64 f.1), .lst false (f.2.1.map (encD GSte)), .lst false (f.2.2.1.map (encD .bool)), .lst false (f.2.2.2.map (encD .bool))] _ rfl (fun j hj => ?_) (fun j hj => ?_)
 ·match j, hj with
  | 0, _ => rfl
  | 1, _ => exact y1
  | 2, _ => exact y2
  | 3, _ => exact y3
 ·match j, hj with
  | 0, _ => exact .v _
  | 1, _ => exact o1
  | 2, _ => exact o2
  | 3, _ => exact o3
theorem pv_ste {w : World} (s : Ste) : PV w (valD GSte s) (.agg #[.int .i64 s.1, .int .i64 s.2.1, .int .i64 s.2.2.1, .int .i64 s.2.2.2]) := by
 refine .agg [.v (.int .i64 s.1), .v (.int .i64 s.2.1), .v (.int .i64 s.2.2.1), .v (.int .i64 s.2.2.2)] _ rfl (fun j hj => ?_) (fun j hj => ?_)
 ·match j, hj with
  | 0, _ => rfl
  | 1, _ => rfl
  | 2, _ => rfl
  | 3, _ => rfl
 ·match j, hj with
  | 0, _ => exact .v _
  | 1, _ => exact .v _
  | 2, _ => exact .v _
  | 3, _ => exact .v _
theorem PushR.t {n : Nat} {w w' : World} {wb sb : Nat} {k : Nat} {r r' : Nd → Nd → Int} {D : Nd → Option Nat} {g g' : Nd → Option Bool} (h : PushR (Vn n) w w' wb sb ((k : Int), true) ((n : Int), false) r r' D g g' true) : PushT n k r r' := ⟨h.nn rfl, h.out rfl⟩
theorem PushR.f {n : Nat} {w w' : World} {wb sb : Nat} {k : Nat} {r r' : Nd → Nd → Int} {D : Nd → Option Nat} {g g' : Nd → Option Bool} (hr : ∀ x y, 0 ≤ r x y) (hg : ∀ x, ¬ Sn g x) (hkn : k < n) (h : PushR (Vn n) w w' wb sb ((k : Int), true) ((n : Int), false) r r' D g g' false) : PushF n k r := by
 obtain ⟨h1, h2⟩ := h.shut rfl
 refine ⟨Sn g', h1, fun hb => (h2 _ hb (hg _)).1 rfl, out_zero fun a b _ _ ha hb => ?_⟩
 have h3 := hr a b
 have : ¬ 0 < r a b := fun hp => hb ((h2 a ha (hg a)).2 b hp)
 omega
theorem meas {n j : Nat} (h : j < n) : n - (intOf (Value.int .i64 ((j : Int) + 1))).toNat < n - (intOf (Value.int .i64 (j : Int))).toNat := by
 show n - ((j : Int) + 1).toNat < n - (j : Int).toNat
 omega
structure ApP (n : Nat) (W wr : World) (wb e : Nat) (r : Nd → Nd → Int) (D : Nd → Option Nat) : Prop where
 web : Web wr wb r D
 fr : Fr (fun _ => False) W wr
 dm : ∀ i, Dom wb D i → W.heap.size ≤ i ∧ i ≠ e
 dv : ∀ x, D x ≠ none → x ∈ Vn n
 e1 : wr.cell? ⟨e, 0, none⟩ = some (.int .i64 n)
 e2 : wr.cell? ⟨e, 1, none⟩ = some (.bool false)
 nn : ∀ x y, 0 ≤ r x y
 two : ∀ x y, r x y + r y x ≤ 2
theorem ApS.rooms {n : Nat} {W wr : World} {wb e : Nat} {S : Nd → Nd → Prop} {D : Nd → Option Nat} (A : ApS n W wr wb e S D) {f : Fdr} {p : Int} (h : ∀ a b, S a b ↔ Arc f p a b) : ApP n W wr wb e (M.r0 f p) D :=
 ⟨by rw [show M.r0 f p = rr S from (rr_eq (S' := Arc f p) h).symm]; exact A.web, A.fr, A.dm, A.dv, A.e1, A.e2, r0_nonneg f p, fun x y => by have := r0_le f p x y; have := r0_le f p y x; omega⟩
def ApL (n k : Nat) (W wr : World) (wb e : Nat) (r : Nd → Nd → Int) (c : Nat) : Prop := ∃ D, (c = 0 ∧ ApP n W wr wb e r D) ∨ (c = 1 ∧ ∃ r1, ApP n W wr wb e r1 D ∧ PushT n k r r1) ∨ (c = 2 ∧ ∃ r1 r2, ApP n W wr wb e r2 D ∧ PushT n k r r1 ∧ PushT n k r1 r2)
theorem ApP.push {n k : Nat} {W wr : World} {wb e : Nat} {r : Nd → Nd → Int} {D : Nd → Option Nat} (A : ApP n W wr wb e r D) (hn : n ≤ 1000000) (hk : k < n) : Calls Try.prog 48 #[.map (some wb), .agg #[.int .i64 k, .bool true], .agg #[.int .i64 n, .bool false], .map (some wr.heap.size)] (wr.alloc (.map #[] 0)) fun e' w' => ∃ res r', e' = .returned (.bool res) ∧ (res = true → PushT n k r r' ∧ ApP n W w' wb e r' D) ∧ (res = false → PushF n k r ∧ Fr (fun _ => False) W w') := by
 have hs := A.fr.size
 have el : e < wr.heap.size := lt_size_of_cell A.e1
 have lt : ∀ i, Dom wb D i → i < wr.heap.size := fun i hi => A.web.lt hi
 have hsn : ∀ x, ¬ Sn (fun _ => none) x := fun x h => by unfold Sn at h; cases h
 refine (push_ok (Vn n) (Vn_nodup n) wb wr.heap.size ((n : Int), false) (vn_nok hn (vn_end n)) D A.dv (Vn n).length ((k : Int), true) (wr.alloc (.map #[] 0)) r (fun _ => none) #[] 0 (fun _ => none) (A.web.keep fun i hi => alloc_keep _ _ _ (lt i hi)) (.new (heap_alloc wr _).1) (fun h => absurd (lt _ h) (by omega)) (vn_in hk true) (vn_nok hn (vn_in hk true)) (hsn _) A.nn A.two (fun l hl hx => nodup_len hl fun x h => (hx x h).1)).mono ?_
 rintro e' w' ⟨res, r', g', rfl, R⟩
 have fr : Fr (fun _ => False) W w' := by
  refine ⟨R.fr.os.trans A.fr.os, R.fr.tape.trans A.fr.tape, R.fr.output.trans A.fr.output, Nat.le_trans (by rw [alloc_sz]; omega) R.fr.size, fun i hi hn => ?_⟩
  rw [R.fr.block i (by rw [alloc_sz]; omega) (fun h => h.elim (fun h => by have := (A.dm i h.2).1; omega) fun h => by omega), alloc_keep _ _ _ (by omega)]
  exact A.fr.block i hi hn
 refine ⟨res, r', rfl, ?_, ?_⟩
 ·rintro rfl
  have hne : ¬ ((true = true ∧ Dom wb D e) ∨ e = wr.heap.size) := fun h => h.elim (fun h => (A.dm e h.2).2 rfl) fun h => by omega
  refine ⟨R.t, R.web, fr, A.dm, A.dv, Fr.cell R.fr ((cell_old _ _ _ el).trans A.e1) hne, Fr.cell R.fr ((cell_old _ _ _ el).trans A.e2) hne, R.nn rfl, R.two rfl⟩
 ·rintro rfl
  exact ⟨R.f A.nn hsn hk, fr⟩
section
variable {th : El GMine × El GEsc × Int → Option Bool} {fi : El GMine × El GEsc → Option (Fdr × Unit)} {u : Fdr × Ste → Option Bool} (h1 : PureOK Try.prog 41 [GMine, GEsc, .int .i64] [.bool] th)
  (h2 : SFOK Try.prog 42 [none, none] [.v GMine, .v GEsc] [.o (.p (.v (.int .i64)) (.p (.a GSte) (.p (.a .bool) (.a .bool))))] fi) (h3 : PureOK Try.prog 45 [GFdr, GSte] [.bool] u)
  (hu : ∀ f s, Wf f → s ∈ f.2.1 → u (f, s) = some (usB f s))
variable {m : El GMine} {e : El GEsc} {p : Int} {w : World} {a0 a1 b0 b1 b2 b3 : Value} (v0 : PV w (valD GMine m) (.agg #[a0, a1])) (v1 : PV w (valD GEsc e) (.agg #[b0, b1, b2, b3])) (hg : GW Try.prog w)
include h1 v0 v1 hg h2 h3 hu
set_option maxRecDepth 1000000 in
set_option maxHeartbeats 8000000 in
theorem apart_C (ht : th (m, e, p) = some true) {st : List Ste} {sa ba : List Bool} (hf : fi (m, e) = some (((sa.length : Int), st, sa, ba), ())) {k : Nat} (hk : p = k) (hp1 : k < sa.length) (hpl : sa.length ≤ 1000000) (hps : sa.getD k false = false) (hw : Wf ((sa.length : Int), st, sa, ba)) : Calls Try.prog 21 #[.agg #[a0, a1], .agg #[b0, b1, b2, b3], .int .i64 p] w fun e w' => e = .returned (.int .i64 (apartV ((sa.length : Int), st, sa, ba) p)) ∧ Fr (fun _ => False) w w' := by
 have f2 : Fr (fun _ => False) w ((w.alloc (.cells #[a0, a1] 32)).alloc (.cells #[b0, b1, b2, b3] 24)) := Fr.comp (fr_alloc _ _) (fr_alloc _ _)
 have hc := pure_raw h1 ht (w := (w.alloc (.cells #[a0, a1] 32)).alloc (.cells #[b0, b1, b2, b3] 24)) (cargs := #[.agg #[a0, a1], .agg #[b0, b1, b2, b3], .int .i64 p]) rfl (fun j hj => match j, hj with
  | 0, _ => v0.keep f2
  | 1, _ => v1.keep f2
  | 2, _ => .v _) (hg.keep f2)
 have sz2 : ((w.alloc (.cells #[a0, a1] 32)).alloc (.cells #[b0, b1, b2, b3] 24)).heap.size = w.heap.size + 2 := by simp only [alloc_sz]
 have ca : ((w.alloc (.cells #[a0, a1] 32)).alloc (.cells #[b0, b1, b2, b3] 24)).heap[w.heap.size]? = some (.cells #[a0, a1] 32 (0, 0)) := by rw [alloc_keep _ _ _ (by rw [alloc_sz]; omega)]; exact (heap_alloc w _).1
 have cb : ((w.alloc (.cells #[a0, a1] 32)).alloc (.cells #[b0, b1, b2, b3] 24)).heap[w.heap.size + 1]? = some (.cells #[b0, b1, b2, b3] 24 (0, 0)) := by have := (heap_alloc (w.alloc (.cells #[a0, a1] 32)) (.cells #[b0, b1, b2, b3] 24)).1; rw [alloc_sz] at this; exact this
 have qM : ∀ (u : World), (Instr.makeMap 79 none).run Try.prog u = .ok (.map (some u.heap.size)) (u.alloc (.map #[] 0)) := fun u => rfl
 subst hk
 go_enter Try.func21, Try.ntmps21
 go_wp2_with (first | (go_at_call 41; refine hc.mono ?_; rintro e2 w3 ⟨v, rfl, hv, hf3⟩; cases (show v = .bool true from VR.v_inv hv); have ca3 := (hf3.block w.heap.size (by omega) (fun h => h)).trans ca; have cb3 := (hf3.block (w.heap.size + 1) (by omega) (fun h => h)).trans cb; have q1 : w3.cell? ⟨w.heap.size, 0, none⟩ = some a0 := by { simp [World.cell?, ca3] }; have q2 : w3.cell? ⟨w.heap.size, 1, none⟩ = some a1 := by { simp [World.cell?, ca3] }; have q3 : w3.cell? ⟨w.heap.size + 1, 0, none⟩ = some b0 := by { simp [World.cell?, cb3] }; have q4 : w3.cell? ⟨w.heap.size + 1, 1, none⟩ = some b1 := by { simp [World.cell?, cb3] }; have q5 : w3.cell? ⟨w.heap.size + 1, 2, none⟩ = some b2 := by { simp [World.cell?, cb3] }; have q6 : w3.cell? ⟨w.heap.size + 1, 3, none⟩ = some b3 := by { simp [World.cell?, cb3] }) | (go_at_call 42; go_loud (refine (find_raw h2 hf (v0.keep (Fr.comp f2 hf3)) (v1.keep (Fr.comp f2 hf3)) (hg.keep (Fr.comp f2 hf3))).mono ?_; rintro e3 w5 ⟨s1, s2, s3, rfl, y1, y2, y3, o1, o2, o3, hf5⟩; obtain ⟨bs, os, caps, rfl, hbs, hcs⟩ := safe_cells (f := ((sa.length : Int), st, sa, ba)) o2 (fun (h : sa = []) => by rw [h] at hp1; exact absurd hp1 (by simp)); obtain ⟨oa1, cap1, rfl, hst⟩ := step_cells (f := ((sa.length : Int), st, sa, ba)) o1; obtain ⟨oa3, cap3, rfl⟩ := bad_len o3; have hpk : (w5.alloc (.cells #[.int .i64 sa.length, .slice oa1 st.length cap1, .slice (some ⟨bs, os, none⟩) sa.length caps, .slice oa3 ba.length cap3] 72)).cell? ⟨bs, os + k, none⟩ = some (.bool false) := (cell_old _ _ _ hbs).trans ((hcs k hp1).trans (by rw [show ((sa.length : Int), st, sa, ba).2.2.1.getD k false = false from hps])))))
 have fr5 := fr_alloc w5 (.cells #[.int .i64 sa.length, .slice oa1 st.length cap1, .slice (some ⟨bs, os, none⟩) sa.length caps, .slice oa3 ba.length cap3] 72)
 have T0 : ∀ i v, (#[Value.int .i64 sa.length, .slice oa1 st.length cap1, .slice (some ⟨bs, os, none⟩) sa.length caps, .slice oa3 ba.length cap3] : Array Value)[i]? = some v → (w5.alloc (.cells #[.int .i64 sa.length, .slice oa1 st.length cap1, .slice (some ⟨bs, os, none⟩) sa.length caps, .slice oa3 ba.length cap3] 72)).cell? ⟨w5.heap.size, i, none⟩ = some v := fun i v h => (cell_new _ _ _ _).trans h
 have t0 := T0 0 (.int .i64 sa.length) rfl
 have t1 := T0 1 (.slice oa1 st.length cap1) rfl
 have t2 := T0 2 (.slice (some ⟨bs, os, none⟩) sa.length caps) rfl
 have t3 := T0 3 (.slice oa3 ba.length cap3) rfl
 have hcs' : ∀ i, i < sa.length → (w5.alloc (.cells #[.int .i64 sa.length, .slice oa1 st.length cap1, .slice (some ⟨bs, os, none⟩) sa.length caps, .slice oa3 ba.length cap3] 72)).cell? ⟨bs, os + i, none⟩ = some (.bool (sa.getD i false)) := fun i hi => (cell_old _ _ _ hbs).trans (hcs i hi)
 have hst' : ∀ (i : Nat) (s : Ste), st[i]? = some s → ∃ b off, oa1 = some ⟨b, off, none⟩ ∧ (w5.alloc (.cells #[.int .i64 sa.length, .slice oa1 st.length cap1, .slice (some ⟨bs, os, none⟩) sa.length caps, .slice oa3 ba.length cap3] 72)).cell? ⟨b, off + i * 4, none⟩ = some (.int .i64 s.1) ∧ (w5.alloc (.cells #[.int .i64 sa.length, .slice oa1 st.length cap1, .slice (some ⟨bs, os, none⟩) sa.length caps, .slice oa3 ba.length cap3] 72)).cell? ⟨b, off + i * 4 + 1, none⟩ = some (.int .i64 s.2.1) ∧ (w5.alloc (.cells #[.int .i64 sa.length, .slice oa1 st.length cap1, .slice (some ⟨bs, os, none⟩) sa.length caps, .slice oa3 ba.length cap3] 72)).cell? ⟨b, off + i * 4 + 2, none⟩ = some (.int .i64 s.2.2.1) ∧ (w5.alloc (.cells #[.int .i64 sa.length, .slice oa1 st.length cap1, .slice (some ⟨bs, os, none⟩) sa.length caps, .slice oa3 ba.length cap3] 72)).cell? ⟨b, off + i * 4 + 3, none⟩ = some (.int .i64 s.2.2.2) := fun i s hs => by
  obtain ⟨hi, _⟩ := List.getElem?_eq_some_iff.1 hs
  obtain ⟨b, off, e, hb, h⟩ := hst (show 0 < st.length by omega)
  obtain ⟨g1, g2, g3, g4⟩ := h i s hs
  exact ⟨b, off, e, Fr.cell fr5 g1 (fun h => h), Fr.cell fr5 g2 (fun h => h), Fr.cell fr5 g3 (fun h => h), Fr.cell fr5 g4 (fun h => h)⟩
 have frW : Fr (fun _ => False) w (w5.alloc (.cells #[.int .i64 sa.length, .slice oa1 st.length cap1, .slice (some ⟨bs, os, none⟩) sa.length caps, .slice oa3 ba.length cap3] 72)) := Fr.comp (Fr.comp (Fr.comp f2 hf3) hf5) fr5
 have O1 := o1.keep fr5
 have O2 := o2.keep fr5
 have O3 := o3.keep fr5
 have gW := hg.keep frW
 clear T0 hst hc hcs o1 o2 o3 q1 q2 q3 q4 q5 q6 ca3 cb3 hv fr5 hpk
 generalize (w5.alloc (.cells #[.int .i64 sa.length, .slice oa1 st.length cap1, .slice (some ⟨bs, os, none⟩) sa.length caps, .slice oa3 ba.length cap3] 72)) = W at t0 t1 t2 t3 hcs' hst' frW O1 O2 O3 gW ⊢
 have hWs : w5.heap.size < W.heap.size := lt_size_of_cell t0
 generalize w5.heap.size = f5 at t0 t1 t2 t3 hWs ⊢
 have qM2 : ∀ (u : World), (Instr.makeMap 84 none).run Try.prog u = .ok (.map (some u.heap.size)) (u.alloc (.map #[] 0)) := fun u => rfl
 have hstl : st.length ≤ 1000000 := by have := hw.2.2.1; simp only at this; omega
 clear hf3 hf5 hbs sz2 f2 ca cb
 go_region
 ·have A0 := ApS.start2 (n := sa.length) W
  generalize ((W.alloc (Obj.map #[] 0)).alloc (Obj.cells #[Value.int IntKind.i64 ↑sa.length, Value.bool false] 81)).drew = w0 at A0 ⊢
  generalize W.heap.size + 1 = eb at A0 ⊢
  generalize W.heap.size = wb at A0 ⊢
  have r0 := Fr.cell A0.fr t0 (fun h => h)
  go_wp2
  go_loopw [33] (fun i wr => ∃ j : Nat, j ≤ sa.length ∧ i = .int .i64 j ∧ ∃ S D, ApS sa.length W wr wb eb S D ∧ ∀ a b, S a b ↔ ArcA sa k j a b) (fun i _ => sa.length - (intOf i).toNat)
  case atStart => exact ⟨0, Nat.zero_le _, rfl, _, _, A0, arcA_zero sa k⟩
  case round =>
   obtain ⟨j, hj, rfl, S, D, A, hS⟩ := hrel
   rcases Nat.lt_or_ge j sa.length with hlt | hge
   ·have x2 := Fr.cell A.fr t2 (fun h => h)
    have x4 := Fr.cell A.fr (hcs' j hlt) (fun h => h)
    have hltI : (j : Int) < (sa.length : Int) := by omega
    by_cases hjk : j = k
    ·subst hjk
     rw [hps] at x4
     go_wp2
     exact ⟨⟨j + 1, by omega, rfl, S, D, A, fun a b => by rw [arcA_succ, hS]; exact ⟨.inl, fun h => h.elim id fun h => h.elim (fun h => absurd rfl h.1) fun h => by rw [hps] at h; cases h.1⟩⟩, meas hlt⟩
    ·have hjkI : ¬ (j : Int) = (k : Int) := by omega
     have hc1 := arc_ok wb ((j : Int), false) ((j : Int), true) wr (rr S) D A.web (by simp) (vn_nok hpl (vn_in hlt false)) (vn_nok hpl (vn_in hlt true))
     cases hsj : sa.getD j false with
     | false =>
      rw [hsj] at x4
      go_wp2_with (go_at_call 47; refine hc1.mono ?_; rintro e2 w6 ⟨⟨v, rfl⟩, D1, g1, g2, g3⟩; have A1 := A.arc (vn_in hlt false) (vn_in hlt true) g1 g2 g3; have x2' := Fr.cell A1.fr t2 (fun h => h); have x4' := (Fr.cell A1.fr (hcs' j hlt) (fun h => h)).trans (by rw [hsj]))
      exact ⟨⟨j + 1, by omega, rfl, _, _, A1, fun a b => by rw [arcA_succ, ← hS]; exact ⟨fun h => h.elim .inl fun h => .inr (.inl ⟨hjk, h⟩), fun h => h.elim .inl fun h => h.elim (fun h => .inr h.2) fun h => by rw [hsj] at h; cases h.1⟩⟩, meas hlt⟩
     | true =>
      rw [hsj] at x4
      go_wp2_with (first | (go_at_call 47; refine hc2.mono ?_; rintro e3 w7 ⟨⟨v, rfl⟩, D2, k1, k2, k3⟩; have A2 := A1.arc (vn_in hlt true) (vn_end _) k1 k2 k3) | (go_at_call 47; refine hc1.mono ?_; rintro e2 w6 ⟨⟨v, rfl⟩, D1, g1, g2, g3⟩; have A1 := A.arc (vn_in hlt false) (vn_in hlt true) g1 g2 g3; have x2' := Fr.cell A1.fr t2 (fun h => h); have x4' := (Fr.cell A1.fr (hcs' j hlt) (fun h => h)).trans (by rw [hsj]); have x5 := A1.e1; have x6 := A1.e2; have hc2 := arc_ok wb ((j : Int), true) ((sa.length : Int), false) w6 _ D1 A1.web (by simp) (vn_nok hpl (vn_in hlt true)) (vn_nok hpl (vn_end _))))
      exact ⟨⟨j + 1, by omega, rfl, _, _, A2, fun a b => by rw [arcA_succ, ← hS]; exact ⟨fun h => h.elim (fun h => h.elim .inl fun h => .inr (.inl ⟨hjk, h⟩)) fun h => .inr (.inr ⟨hsj, h⟩), fun h => h.elim (fun h => .inl (.inl h)) fun h => h.elim (fun h => .inl (.inr h.2)) fun h => .inr h.2⟩⟩, meas hlt⟩
   ·obtain rfl : j = sa.length := by omega
    have x1 := Fr.cell A.fr t1 (fun h => h)
    have hnn : ¬ (sa.length : Int) < (sa.length : Int) := by omega
    go_wp2
    go_loopw [59] (fun i wr => ∃ j : Nat, j ≤ st.length ∧ i = .int .i64 j ∧ ∃ S D, ApS sa.length W wr wb eb S D ∧ ∀ a b, S a b ↔ (ArcA sa k sa.length a b ∨ ArcR ((sa.length : Int), st, sa, ba) k j a b)) (fun i _ => st.length - (intOf i).toNat)
    case atStart => exact ⟨0, Nat.zero_le _, rfl, _, _, A, fun a b => by rw [hS]; exact ⟨.inl, fun h => h.elim id fun h => absurd h (arcR_zero _ _ _ _)⟩⟩
    case round =>
     clear A hS x1 S D
     obtain ⟨j, hj, rfl, S, D, A, hS⟩ := hrel
     rcases Nat.lt_or_ge j st.length with hlt | hge
     ·obtain ⟨⟨s0, s1, s2, s3⟩, hs⟩ : ∃ s, st[j]? = some s := ⟨_, List.getElem?_eq_getElem hlt⟩
      obtain ⟨bo, off, rfl, z1, z2, z3, z4⟩ := hst' j _ hs
      have z1 := Fr.cell A.fr z1 (fun h => h)
      have z2 := Fr.cell A.fr z2 (fun h => h)
      have z3 := Fr.cell A.fr z3 (fun h => h)
      have z4 := Fr.cell A.fr z4 (fun h => h)
      have x0 := Fr.cell A.fr t0 (fun h => h)
      have x1 := Fr.cell A.fr t1 (fun h => h)
      have x2 := Fr.cell A.fr t2 (fun h => h)
      have x3 := Fr.cell A.fr t3 (fun h => h)
      have v0 : (wr.alloc (.cells #[.int .i64 s0, .int .i64 s1, .int .i64 s2, .int .i64 s3] 76)).cell? ⟨f5, 0, none⟩ = _ := (cell_old wr (.cells #[.int .i64 s0, .int .i64 s1, .int .i64 s2, .int .i64 s3] 76) _ (lt_size_of_cell x0)).trans x0
      have v1 : (wr.alloc (.cells #[.int .i64 s0, .int .i64 s1, .int .i64 s2, .int .i64 s3] 76)).cell? ⟨f5, 1, none⟩ = _ := (cell_old wr (.cells #[.int .i64 s0, .int .i64 s1, .int .i64 s2, .int .i64 s3] 76) _ (lt_size_of_cell x1)).trans x1
      have v2 : (wr.alloc (.cells #[.int .i64 s0, .int .i64 s1, .int .i64 s2, .int .i64 s3] 76)).cell? ⟨f5, 2, none⟩ = _ := (cell_old wr (.cells #[.int .i64 s0, .int .i64 s1, .int .i64 s2, .int .i64 s3] 76) _ (lt_size_of_cell x2)).trans x2
      have v3 : (wr.alloc (.cells #[.int .i64 s0, .int .i64 s1, .int .i64 s2, .int .i64 s3] 76)).cell? ⟨f5, 3, none⟩ = _ := (cell_old wr (.cells #[.int .i64 s0, .int .i64 s1, .int .i64 s2, .int .i64 s3] 76) _ (lt_size_of_cell x3)).trans x3
      have hltI : (j : Int) < (st.length : Int) := by omega
      have hmem : (s0, s1, s2, s3) ∈ st := List.mem_of_getElem? hs
      have hwf : 0 ≤ s1 ∧ s1 < (sa.length : Int) ∧ 0 ≤ s2 ∧ s2 < (sa.length : Int) := hw.2.2.2 _ hmem
      have fa := Fr.comp A.fr (fr_alloc wr (.cells #[.int .i64 s0, .int .i64 s1, .int .i64 s2, .int .i64 s3] 76))
      have hc3 := pure_raw h3 (hu ((sa.length : Int), st, sa, ba) _ hw hmem) (w := wr.alloc (.cells #[.int .i64 s0, .int .i64 s1, .int .i64 s2, .int .i64 s3] 76)) (cargs := #[.agg #[.int .i64 sa.length, .slice (some ⟨bo, off, none⟩) st.length cap1, .slice (some ⟨bs, os, none⟩) sa.length caps, .slice oa3 ba.length cap3], .agg #[.int .i64 s0, .int .i64 s1, .int .i64 s2, .int .i64 s3]]) rfl (fun j hj => match j, hj with
       | 0, _ => pv_fdr y1 y2 y3 (O1.keep fa) (O2.keep fa) (O3.keep fa)
       | 1, _ => pv_ste (s0, s1, s2, s3)) (gW.keep fa)
      have q0 : ∀ i v, (#[Value.int .i64 s0, .int .i64 s1, .int .i64 s2, .int .i64 s3] : Array Value)[i]? = some v → (wr.alloc (.cells #[.int .i64 s0, .int .i64 s1, .int .i64 s2, .int .i64 s3] 76)).cell? ⟨wr.heap.size, i, none⟩ = some v := fun i v h => (cell_new _ _ _ _).trans h
      cases hub : usB ((sa.length : Int), st, sa, ba) (s0, s1, s2, s3) with
      | false =>
       go_wp2_with (go_at_call 45; refine hc3.mono ?_; rintro e2 w6 ⟨v, rfl, hv, hf6⟩; cases (show v = .bool false from (VR.v_inv hv).trans (by rw [hub])); have A1 := A.grow (Fr.comp (fr_alloc wr (.cells #[.int .i64 s0, .int .i64 s1, .int .i64 s2, .int .i64 s3] 76)) hf6); have e2 := Fr.cell hf6 (q0 2 _ rfl) (fun h => h))
       exact ⟨⟨j + 1, by omega, rfl, _, _, A1, fun a b => by rw [hS, arcR_succ _ _ _ _ hs, ← usB_iff, hub]; exact ⟨fun h => h.elim .inl fun h => .inr (.inl h), fun h => h.elim .inl fun h => h.elim .inr fun h => by cases h.1⟩⟩, meas hlt⟩
      | true =>
       by_cases hsk : s2 = (k : Int)
       ·subst hsk
        go_wp2_with (go_at_call 45; refine hc3.mono ?_; rintro e2 w6 ⟨v, rfl, hv, hf6⟩; cases (show v = .bool true from (VR.v_inv hv).trans (by rw [hub])); have A1 := A.grow (Fr.comp (fr_alloc wr (.cells #[.int .i64 s0, .int .i64 s1, .int .i64 (k : Int), .int .i64 s3] 76)) hf6); have e2 := Fr.cell hf6 (q0 2 _ rfl) (fun h => h))
        exact ⟨⟨j + 1, by omega, rfl, _, _, A1, fun a b => by rw [hS, arcR_succ _ _ _ _ hs]; exact ⟨fun h => h.elim .inl fun h => .inr (.inl h), fun h => h.elim .inl fun h => h.elim .inr fun h => absurd rfl h.2.1⟩⟩, meas hlt⟩
       ·go_wp2_with (first | (go_at_call 45; refine hc3.mono ?_; rintro e2 w6 ⟨v, rfl, hv, hf6⟩; cases (show v = .bool true from (VR.v_inv hv).trans (by rw [hub])); have A1 := A.grow (Fr.comp (fr_alloc wr (.cells #[.int .i64 s0, .int .i64 s1, .int .i64 s2, .int .i64 s3] 76)) hf6); have e2 := Fr.cell hf6 (q0 2 _ rfl) (fun h => h); have e1 := Fr.cell hf6 (q0 1 _ rfl) (fun h => h); have hc4 := arc_ok wb (s1, true) (s2, false) w6 _ D A1.web (by simp) ⟨hwf.1, by simp only at hwf ⊢; omega⟩ ⟨hwf.2.2.1, by simp only at hwf ⊢; omega⟩) | (go_at_call 47; refine hc4.mono ?_; rintro e3 w7 ⟨⟨v, rfl⟩, D2, k1, k2, k3⟩; have A2 := A1.arc (Vn_mem.2 (.inr ⟨hwf.1, hwf.2.1⟩)) (Vn_mem.2 (.inr ⟨hwf.2.2.1, hwf.2.2.2⟩)) k1 k2 k3))
        exact ⟨⟨j + 1, by omega, rfl, _, _, A2, fun a b => by rw [arcR_succ _ _ _ _ hs, ← usB_iff, hub, hS]; exact ⟨fun h => h.elim (fun h => h.elim .inl fun h => .inr (.inl h)) fun h => .inr (.inr ⟨rfl, hsk, h⟩), fun h => h.elim (fun h => .inl (.inl h)) fun h => h.elim (fun h => .inl (.inr h)) fun h => .inr h.2.2⟩⟩, meas hlt⟩
     ·obtain rfl : j = st.length := by omega
      have hnn2 : ¬ (st.length : Int) < (st.length : Int) := by omega
      have B0 : ApP sa.length W wr wb eb (M.r0 ((sa.length : Int), st, sa, ba) k) D := A.rooms fun a b => (hS a b).trans (arc_all st sa ba k a b)
      go_wp2
      go_loopw [13] (fun i wr => ∃ c : Nat, i = .int .i64 c ∧ ApL sa.length k W wr wb eb (M.r0 ((sa.length : Int), st, sa, ba) k) c) (fun i _ => 2 - (intOf i).toNat)
      case atStart => exact ⟨0, rfl, D, .inl ⟨rfl, B0⟩⟩
      case round =>
       clear A hS B0 S D
       obtain ⟨c, rfl, D, hc⟩ := hrel
       rcases hc with ⟨rfl, B⟩ | ⟨rfl, r1, B, P⟩ | ⟨rfl, r1, r2, B, P, P2⟩
       ·have x5 := B.e1
        have x6 := B.e2
        have hc5 := B.push hpl hp1
        have x7 : (wr.alloc (.map #[] 0)).cell? ⟨eb, 0, none⟩ = some (.int .i64 sa.length) := (cell_old _ _ _ (lt_size_of_cell x5)).trans x5
        have x8 : (wr.alloc (.map #[] 0)).cell? ⟨eb, 1, none⟩ = some (.bool false) := (cell_old _ _ _ (lt_size_of_cell x6)).trans x6
        go_wp2_with (go_at_call 48; refine hc5.mono ?_; rintro e2 w6 ⟨res, r', rfl, hT, hF⟩; cases res)
        ·go_ret
         exact ⟨by rw [apart_0 hw rfl (Int.natCast_nonneg k) (by omega) (hF trivial).1]; rfl, Fr.comp frW (hF trivial).2⟩
        ·exact ⟨⟨1, rfl, D, .inr (.inl ⟨rfl, r', (hT trivial).2, (hT trivial).1⟩)⟩, by decide⟩
       ·have x5 := B.e1
        have x6 := B.e2
        have hc5 := B.push hpl hp1
        have x7 : (wr.alloc (.map #[] 0)).cell? ⟨eb, 0, none⟩ = some (.int .i64 sa.length) := (cell_old _ _ _ (lt_size_of_cell x5)).trans x5
        have x8 : (wr.alloc (.map #[] 0)).cell? ⟨eb, 1, none⟩ = some (.bool false) := (cell_old _ _ _ (lt_size_of_cell x6)).trans x6
        go_wp2_with (go_at_call 48; refine hc5.mono ?_; rintro e2 w6 ⟨res, r', rfl, hT, hF⟩; cases res)
        ·go_ret
         exact ⟨by rw [apart_1 hw rfl (Int.natCast_nonneg k) (by omega) (show sa.getD (k : Int).toNat false = false from hps) P (hF trivial).1]; rfl, Fr.comp frW (hF trivial).2⟩
        ·exact ⟨⟨2, rfl, D, .inr (.inr ⟨rfl, r1, r', (hT trivial).2, P, (hT trivial).1⟩)⟩, by decide⟩
       ·go_wp2
        go_ret
        exact ⟨by rw [apart_2 hw rfl (Int.natCast_nonneg k) (by omega) P P2]; rfl, Fr.comp frW B.fr⟩
 ·have A0 := ApS.start1 (n := sa.length) W
  generalize ((W.alloc (Obj.cells #[Value.int IntKind.i64 ↑sa.length, Value.bool false] 81)).alloc (Obj.map #[] 0)).drew = w0 at A0 ⊢
  generalize W.heap.size + 1 = wb at A0 ⊢
  generalize W.heap.size = eb at A0 ⊢
  have r0 := Fr.cell A0.fr t0 (fun h => h)
  go_wp2
  go_loopw [33] (fun i wr => ∃ j : Nat, j ≤ sa.length ∧ i = .int .i64 j ∧ ∃ S D, ApS sa.length W wr wb eb S D ∧ ∀ a b, S a b ↔ ArcA sa k j a b) (fun i _ => sa.length - (intOf i).toNat)
  case atStart => exact ⟨0, Nat.zero_le _, rfl, _, _, A0, arcA_zero sa k⟩
  case round =>
   obtain ⟨j, hj, rfl, S, D, A, hS⟩ := hrel
   rcases Nat.lt_or_ge j sa.length with hlt | hge
   ·have x2 := Fr.cell A.fr t2 (fun h => h)
    have x4 := Fr.cell A.fr (hcs' j hlt) (fun h => h)
    have hltI : (j : Int) < (sa.length : Int) := by omega
    by_cases hjk : j = k
    ·subst hjk
     rw [hps] at x4
     go_wp2
     exact ⟨⟨j + 1, by omega, rfl, S, D, A, fun a b => by rw [arcA_succ, hS]; exact ⟨.inl, fun h => h.elim id fun h => h.elim (fun h => absurd rfl h.1) fun h => by rw [hps] at h; cases h.1⟩⟩, meas hlt⟩
    ·have hjkI : ¬ (j : Int) = (k : Int) := by omega
     have hc1 := arc_ok wb ((j : Int), false) ((j : Int), true) wr (rr S) D A.web (by simp) (vn_nok hpl (vn_in hlt false)) (vn_nok hpl (vn_in hlt true))
     cases hsj : sa.getD j false with
     | false =>
      rw [hsj] at x4
      go_wp2_with (go_at_call 47; refine hc1.mono ?_; rintro e2 w6 ⟨⟨v, rfl⟩, D1, g1, g2, g3⟩; have A1 := A.arc (vn_in hlt false) (vn_in hlt true) g1 g2 g3; have x2' := Fr.cell A1.fr t2 (fun h => h); have x4' := (Fr.cell A1.fr (hcs' j hlt) (fun h => h)).trans (by rw [hsj]))
      exact ⟨⟨j + 1, by omega, rfl, _, _, A1, fun a b => by rw [arcA_succ, ← hS]; exact ⟨fun h => h.elim .inl fun h => .inr (.inl ⟨hjk, h⟩), fun h => h.elim .inl fun h => h.elim (fun h => .inr h.2) fun h => by rw [hsj] at h; cases h.1⟩⟩, meas hlt⟩
     | true =>
      rw [hsj] at x4
      go_wp2_with (first | (go_at_call 47; refine hc2.mono ?_; rintro e3 w7 ⟨⟨v, rfl⟩, D2, k1, k2, k3⟩; have A2 := A1.arc (vn_in hlt true) (vn_end _) k1 k2 k3) | (go_at_call 47; refine hc1.mono ?_; rintro e2 w6 ⟨⟨v, rfl⟩, D1, g1, g2, g3⟩; have A1 := A.arc (vn_in hlt false) (vn_in hlt true) g1 g2 g3; have x2' := Fr.cell A1.fr t2 (fun h => h); have x4' := (Fr.cell A1.fr (hcs' j hlt) (fun h => h)).trans (by rw [hsj]); have x5 := A1.e1; have x6 := A1.e2; have hc2 := arc_ok wb ((j : Int), true) ((sa.length : Int), false) w6 _ D1 A1.web (by simp) (vn_nok hpl (vn_in hlt true)) (vn_nok hpl (vn_end _))))
      exact ⟨⟨j + 1, by omega, rfl, _, _, A2, fun a b => by rw [arcA_succ, ← hS]; exact ⟨fun h => h.elim (fun h => h.elim .inl fun h => .inr (.inl ⟨hjk, h⟩)) fun h => .inr (.inr ⟨hsj, h⟩), fun h => h.elim (fun h => .inl (.inl h)) fun h => h.elim (fun h => .inl (.inr h.2)) fun h => .inr h.2⟩⟩, meas hlt⟩
   ·obtain rfl : j = sa.length := by omega
    have x1 := Fr.cell A.fr t1 (fun h => h)
    have hnn : ¬ (sa.length : Int) < (sa.length : Int) := by omega
    go_wp2
    go_loopw [59] (fun i wr => ∃ j : Nat, j ≤ st.length ∧ i = .int .i64 j ∧ ∃ S D, ApS sa.length W wr wb eb S D ∧ ∀ a b, S a b ↔ (ArcA sa k sa.length a b ∨ ArcR ((sa.length : Int), st, sa, ba) k j a b)) (fun i _ => st.length - (intOf i).toNat)
    case atStart => exact ⟨0, Nat.zero_le _, rfl, _, _, A, fun a b => by rw [hS]; exact ⟨.inl, fun h => h.elim id fun h => absurd h (arcR_zero _ _ _ _)⟩⟩
    case round =>
     clear A hS x1 S D
     obtain ⟨j, hj, rfl, S, D, A, hS⟩ := hrel
     rcases Nat.lt_or_ge j st.length with hlt | hge
     ·obtain ⟨⟨s0, s1, s2, s3⟩, hs⟩ : ∃ s, st[j]? = some s := ⟨_, List.getElem?_eq_getElem hlt⟩
      obtain ⟨bo, off, rfl, z1, z2, z3, z4⟩ := hst' j _ hs
      have z1 := Fr.cell A.fr z1 (fun h => h)
      have z2 := Fr.cell A.fr z2 (fun h => h)
      have z3 := Fr.cell A.fr z3 (fun h => h)
      have z4 := Fr.cell A.fr z4 (fun h => h)
      have x0 := Fr.cell A.fr t0 (fun h => h)
      have x1 := Fr.cell A.fr t1 (fun h => h)
      have x2 := Fr.cell A.fr t2 (fun h => h)
      have x3 := Fr.cell A.fr t3 (fun h => h)
      have v0 : (wr.alloc (.cells #[.int .i64 s0, .int .i64 s1, .int .i64 s2, .int .i64 s3] 76)).cell? ⟨f5, 0, none⟩ = _ := (cell_old wr (.cells #[.int .i64 s0, .int .i64 s1, .int .i64 s2, .int .i64 s3] 76) _ (lt_size_of_cell x0)).trans x0
      have v1 : (wr.alloc (.cells #[.int .i64 s0, .int .i64 s1, .int .i64 s2, .int .i64 s3] 76)).cell? ⟨f5, 1, none⟩ = _ := (cell_old wr (.cells #[.int .i64 s0, .int .i64 s1, .int .i64 s2, .int .i64 s3] 76) _ (lt_size_of_cell x1)).trans x1
      have v2 : (wr.alloc (.cells #[.int .i64 s0, .int .i64 s1, .int .i64 s2, .int .i64 s3] 76)).cell? ⟨f5, 2, none⟩ = _ := (cell_old wr (.cells #[.int .i64 s0, .int .i64 s1, .int .i64 s2, .int .i64 s3] 76) _ (lt_size_of_cell x2)).trans x2
      have v3 : (wr.alloc (.cells #[.int .i64 s0, .int .i64 s1, .int .i64 s2, .int .i64 s3] 76)).cell? ⟨f5, 3, none⟩ = _ := (cell_old wr (.cells #[.int .i64 s0, .int .i64 s1, .int .i64 s2, .int .i64 s3] 76) _ (lt_size_of_cell x3)).trans x3
      have hltI : (j : Int) < (st.length : Int) := by omega
      have hmem : (s0, s1, s2, s3) ∈ st := List.mem_of_getElem? hs
      have hwf : 0 ≤ s1 ∧ s1 < (sa.length : Int) ∧ 0 ≤ s2 ∧ s2 < (sa.length : Int) := hw.2.2.2 _ hmem
      have fa := Fr.comp A.fr (fr_alloc wr (.cells #[.int .i64 s0, .int .i64 s1, .int .i64 s2, .int .i64 s3] 76))
      have hc3 := pure_raw h3 (hu ((sa.length : Int), st, sa, ba) _ hw hmem) (w := wr.alloc (.cells #[.int .i64 s0, .int .i64 s1, .int .i64 s2, .int .i64 s3] 76)) (cargs := #[.agg #[.int .i64 sa.length, .slice (some ⟨bo, off, none⟩) st.length cap1, .slice (some ⟨bs, os, none⟩) sa.length caps, .slice oa3 ba.length cap3], .agg #[.int .i64 s0, .int .i64 s1, .int .i64 s2, .int .i64 s3]]) rfl (fun j hj => match j, hj with
       | 0, _ => pv_fdr y1 y2 y3 (O1.keep fa) (O2.keep fa) (O3.keep fa)
       | 1, _ => pv_ste (s0, s1, s2, s3)) (gW.keep fa)
      have q0 : ∀ i v, (#[Value.int .i64 s0, .int .i64 s1, .int .i64 s2, .int .i64 s3] : Array Value)[i]? = some v → (wr.alloc (.cells #[.int .i64 s0, .int .i64 s1, .int .i64 s2, .int .i64 s3] 76)).cell? ⟨wr.heap.size, i, none⟩ = some v := fun i v h => (cell_new _ _ _ _).trans h
      cases hub : usB ((sa.length : Int), st, sa, ba) (s0, s1, s2, s3) with
      | false =>
       go_wp2_with (go_at_call 45; refine hc3.mono ?_; rintro e2 w6 ⟨v, rfl, hv, hf6⟩; cases (show v = .bool false from (VR.v_inv hv).trans (by rw [hub])); have A1 := A.grow (Fr.comp (fr_alloc wr (.cells #[.int .i64 s0, .int .i64 s1, .int .i64 s2, .int .i64 s3] 76)) hf6); have e2 := Fr.cell hf6 (q0 2 _ rfl) (fun h => h))
       exact ⟨⟨j + 1, by omega, rfl, _, _, A1, fun a b => by rw [hS, arcR_succ _ _ _ _ hs, ← usB_iff, hub]; exact ⟨fun h => h.elim .inl fun h => .inr (.inl h), fun h => h.elim .inl fun h => h.elim .inr fun h => by cases h.1⟩⟩, meas hlt⟩
      | true =>
       by_cases hsk : s2 = (k : Int)
       ·subst hsk
        go_wp2_with (go_at_call 45; refine hc3.mono ?_; rintro e2 w6 ⟨v, rfl, hv, hf6⟩; cases (show v = .bool true from (VR.v_inv hv).trans (by rw [hub])); have A1 := A.grow (Fr.comp (fr_alloc wr (.cells #[.int .i64 s0, .int .i64 s1, .int .i64 (k : Int), .int .i64 s3] 76)) hf6); have e2 := Fr.cell hf6 (q0 2 _ rfl) (fun h => h))
        exact ⟨⟨j + 1, by omega, rfl, _, _, A1, fun a b => by rw [hS, arcR_succ _ _ _ _ hs]; exact ⟨fun h => h.elim .inl fun h => .inr (.inl h), fun h => h.elim .inl fun h => h.elim .inr fun h => absurd rfl h.2.1⟩⟩, meas hlt⟩
       ·go_wp2_with (first | (go_at_call 45; refine hc3.mono ?_; rintro e2 w6 ⟨v, rfl, hv, hf6⟩; cases (show v = .bool true from (VR.v_inv hv).trans (by rw [hub])); have A1 := A.grow (Fr.comp (fr_alloc wr (.cells #[.int .i64 s0, .int .i64 s1, .int .i64 s2, .int .i64 s3] 76)) hf6); have e2 := Fr.cell hf6 (q0 2 _ rfl) (fun h => h); have e1 := Fr.cell hf6 (q0 1 _ rfl) (fun h => h); have hc4 := arc_ok wb (s1, true) (s2, false) w6 _ D A1.web (by simp) ⟨hwf.1, by simp only at hwf ⊢; omega⟩ ⟨hwf.2.2.1, by simp only at hwf ⊢; omega⟩) | (go_at_call 47; refine hc4.mono ?_; rintro e3 w7 ⟨⟨v, rfl⟩, D2, k1, k2, k3⟩; have A2 := A1.arc (Vn_mem.2 (.inr ⟨hwf.1, hwf.2.1⟩)) (Vn_mem.2 (.inr ⟨hwf.2.2.1, hwf.2.2.2⟩)) k1 k2 k3))
        exact ⟨⟨j + 1, by omega, rfl, _, _, A2, fun a b => by rw [arcR_succ _ _ _ _ hs, ← usB_iff, hub, hS]; exact ⟨fun h => h.elim (fun h => h.elim .inl fun h => .inr (.inl h)) fun h => .inr (.inr ⟨rfl, hsk, h⟩), fun h => h.elim (fun h => .inl (.inl h)) fun h => h.elim (fun h => .inl (.inr h)) fun h => .inr h.2.2⟩⟩, meas hlt⟩
     ·obtain rfl : j = st.length := by omega
      have hnn2 : ¬ (st.length : Int) < (st.length : Int) := by omega
      have B0 : ApP sa.length W wr wb eb (M.r0 ((sa.length : Int), st, sa, ba) k) D := A.rooms fun a b => (hS a b).trans (arc_all st sa ba k a b)
      go_wp2
      go_loopw [13] (fun i wr => ∃ c : Nat, i = .int .i64 c ∧ ApL sa.length k W wr wb eb (M.r0 ((sa.length : Int), st, sa, ba) k) c) (fun i _ => 2 - (intOf i).toNat)
      case atStart => exact ⟨0, rfl, D, .inl ⟨rfl, B0⟩⟩
      case round =>
       clear A hS B0 S D
       obtain ⟨c, rfl, D, hc⟩ := hrel
       rcases hc with ⟨rfl, B⟩ | ⟨rfl, r1, B, P⟩ | ⟨rfl, r1, r2, B, P, P2⟩
       ·have x5 := B.e1
        have x6 := B.e2
        have hc5 := B.push hpl hp1
        have x7 : (wr.alloc (.map #[] 0)).cell? ⟨eb, 0, none⟩ = some (.int .i64 sa.length) := (cell_old _ _ _ (lt_size_of_cell x5)).trans x5
        have x8 : (wr.alloc (.map #[] 0)).cell? ⟨eb, 1, none⟩ = some (.bool false) := (cell_old _ _ _ (lt_size_of_cell x6)).trans x6
        go_wp2_with (go_at_call 48; refine hc5.mono ?_; rintro e2 w6 ⟨res, r', rfl, hT, hF⟩; cases res)
        ·go_ret
         exact ⟨by rw [apart_0 hw rfl (Int.natCast_nonneg k) (by omega) (hF trivial).1]; rfl, Fr.comp frW (hF trivial).2⟩
        ·exact ⟨⟨1, rfl, D, .inr (.inl ⟨rfl, r', (hT trivial).2, (hT trivial).1⟩)⟩, by decide⟩
       ·have x5 := B.e1
        have x6 := B.e2
        have hc5 := B.push hpl hp1
        have x7 : (wr.alloc (.map #[] 0)).cell? ⟨eb, 0, none⟩ = some (.int .i64 sa.length) := (cell_old _ _ _ (lt_size_of_cell x5)).trans x5
        have x8 : (wr.alloc (.map #[] 0)).cell? ⟨eb, 1, none⟩ = some (.bool false) := (cell_old _ _ _ (lt_size_of_cell x6)).trans x6
        go_wp2_with (go_at_call 48; refine hc5.mono ?_; rintro e2 w6 ⟨res, r', rfl, hT, hF⟩; cases res)
        ·go_ret
         exact ⟨by rw [apart_1 hw rfl (Int.natCast_nonneg k) (by omega) (show sa.getD (k : Int).toNat false = false from hps) P (hF trivial).1]; rfl, Fr.comp frW (hF trivial).2⟩
        ·exact ⟨⟨2, rfl, D, .inr (.inr ⟨rfl, r1, r', (hT trivial).2, P, (hT trivial).1⟩)⟩, by decide⟩
       ·go_wp2
        go_ret
        exact ⟨by rw [apart_2 hw rfl (Int.natCast_nonneg k) (by omega) P P2]; rfl, Fr.comp frW B.fr⟩
end
end Go.Proofs.Ytiemlgicaibccaa
set_option linter.all false
namespace Go.Proofs.Ytiemlgicaibccaa
open Go.Pv
namespace M
theorem agg2 {w : World} {d1 d2 : DV} {v : Value} (h : PV w (.agg [d1, d2]) v) : ∃ a b, v = .agg #[a, b] := by
 obtain ⟨vs, rfl, z, _⟩ := h.agg_inv
 obtain ⟨l⟩ := vs
 match l, z with
 | [a, b], _ => exact ⟨a, b, rfl⟩
theorem agg4 {w : World} {d1 d2 d3 d4 : DV} {v : Value} (h : PV w (.agg [d1, d2, d3, d4]) v) : ∃ a b c d, v = .agg #[a, b, c, d] := by
 obtain ⟨vs, rfl, z, _⟩ := h.agg_inv
 obtain ⟨l⟩ := vs
 match l, z with
 | [a, b, c, d], _ => exact ⟨a, b, c, d, rfl⟩
set_option maxRecDepth 1000000 in
theorem apart_hand {th : El GMine × El GEsc × Int → Option Bool} {fi : El GMine × El GEsc → Option (Fdr × Unit)} {u : Fdr × Ste → Option Bool} (h1 : PureOK Try.prog 41 [GMine, GEsc, .int .i64] [.bool] th)
  (h2 : SFOK Try.prog 42 [none, none] [.v GMine, .v GEsc] [.o (.p (.v (.int .i64)) (.p (.a GSte) (.p (.a .bool) (.a .bool))))] fi) (h3 : PureOK Try.prog 45 [GFdr, GSte] [.bool] u)
  (hu : ∀ f s, Wf f → s ∈ f.2.1 → u (f, s) = some (usB f s)) :
  PureOK Try.prog 21 [GMine, GEsc, .int .i64] [.int .i64] (fun x => apartM (th x) (fi (x.1, x.2.1)) x.2.2) := by
 rintro ⟨m, e, p⟩ y hm nb
 replace hm : apartM (th (m, e, p)) (fi (m, e)) p = some y := hm
 have key : CallOK Try.prog 21 (valsD [GMine, GEsc, .int .i64] (m, e, p)) [] 0 (resV (valsD [.int .i64] y)) [] 0 := by
  refine ⟨⟨_, rfl, by kernel_rfl, by kernel_rfl⟩, fun o ck h => (by cases h), fun o ck h => (by cases h), Nat.le_refl _, (resV_ids (valsD_ids [.int .i64] y)).mono' fun _ h => h.elim, fun o ck h => (by cases h), fun M ps w cargs hR hsz hva hgl => ?_⟩
  obtain ⟨cl⟩ := cargs
  match cl, hsz, hva with
  | [x0, x1, x2], _, hva =>
   have ids := valsD_ids [GMine, GEsc, .int .i64] (m, e, p)
   have v0 : PV w (valD GMine m) x0 := PV.of (hva 0 (show 0 < 3 by decide)) (ids _ (List.mem_cons_self ..))
   have v1 : PV w (valD GEsc e) x1 := PV.of (hva 1 (show 1 < 3 by decide)) (ids _ (List.mem_cons_of_mem _ (List.mem_cons_self ..)))
   have v2 : x2 = .int .i64 p := VR.v_inv (hva 2 (show 2 < 3 by decide))
   subst v2
   obtain ⟨a0, a1, rfl⟩ := agg2 v0
   obtain ⟨b0, b1, b2, b3, rfl⟩ := agg4 v1
   have hg : GW Try.prog w := hgl.less fun b h => h.elim
   have fin : ∀ {e' : Ending} {w' : World} {n : Int}, n = y → (e' = .returned (.int .i64 n) ∧ Fr (fun _ => False) w w') → ∃ v ps', e' = .returned v ∧ VR (ofL []) ps' M 0 w' (resV (valsD [.int .i64] y)) v ∧ HR (ofL []) ps' M 0 w' ∧ Fr (Live (ofL []) ps) w w' ∧
     (∀ o ck p, ofL [] o = some ck → ps' o = some p → Live (ofL []) ps p.b ∨ w.heap.size ≤ p.b) ∧ (∀ o, o < 0 → ∀ ck', ofL [] o = some ck' → ∃ ck, ofL [] o = some ck ∧ Later ps ps' o ck ck') := by
    rintro e' w' n rfl ⟨rfl, fr⟩
    exact ⟨_, ps, rfl, .v _, hr_nil fun b hb => Nat.lt_of_lt_of_le (hR.ml b hb) fr.size, Fr.wide fr fun _ _ h => h.elim, fun o ck p h => (by cases h), fun o h => absurd h (Nat.not_lt_zero _)⟩
   unfold apartM at hm
   cases ht : th (m, e, p) with
   | none => rw [ht] at hm; cases hm
   | some t =>
   rw [ht, Option.bind_some] at hm
   cases t with
   | false =>
    rw [Bool.not_false, cond_true] at hm
    injection hm with hm
    exact (apart_A h1 v0 v1 hg ht).mono fun e' w' h => fin hm h
   | true =>
   rw [Bool.not_true, cond_false] at hm
   cases hf : fi (m, e) with
   | none => rw [hf] at hm; cases hm
   | some f =>
   obtain ⟨⟨n, st, sa, ba⟩, u0⟩ := f
   rw [hf, Option.bind_some] at hm
   cases hi : inB p sa.length with
   | false => rw [hi, cond_false] at hm; cases hm
   | true =>
   rw [hi, cond_true] at hm
   by_cases hw : Wf (n, st, sa, ba)
   ·rw [if_pos hw] at hm
    injection hm with hm
    obtain rfl : n = sa.length := hw.1
    have hb : @LE.le Int _ 0 p ∧ @LT.lt Int _ p sa.length := of_decide_eq_true hi
    have hlt : Int.toNat p < sa.length := (Int.toNat_lt hb.1).2 hb.2
    have hpl : sa.length ≤ 1000000 := by have := hw.2.2.1; simp only at this; omega
    have hpk : p = ((p.toNat : Nat) : Int) := (Int.toNat_of_nonneg hb.1).symm
    cases hs : sa.getD p.toNat false with
    | true =>
     rw [hs, cond_true] at hm
     exact (apart_B h1 h2 v0 v1 hg ht (f := ((sa.length : Int), st, sa, ba)) hf hpk hlt hpl hs).mono fun e' w' h => fin hm h
    | false =>
     rw [hs, cond_false] at hm
     exact (apart_C h1 h2 h3 hu v0 v1 hg ht hf hpk hlt hpl hs hw).mono fun e' w' h => fin hm h
   ·rw [if_neg hw] at hm; cases hm
 exact key.lift0 (valsD_ids [GMine, GEsc, .int .i64] (m, e, p)) (resV_ids (valsD_ids [.int .i64] y)) nb
end M
end Go.Proofs.Ytiemlgicaibccaa
