/- ways.push walked: what it says of the rooms. No condition of its own. -/
import Derived.Test.YtiemlgicaibccaaPu
import Derived.StillTailTactics
import Derived.BigRegion
import Derived.LoopTactic
set_option linter.all false
namespace Go.Proofs.Ytiemlgicaibccaa
open Go.Pv Go.ChangeMaps Go.Maps Go.Pv.Fw Go.MapKept
open Go.RowKit (intOf)
theorem iterSeen_of {w : World} {b r : Nat} {es : Array MapEntry} {cl since c0 : Nat} {sn : Array Nat} (h : IterF w b r es cl since c0 sn) : w.iterSeen r = sn := by
 unfold World.iterSeen; rw [h.hr]
theorem flip_setr {r : Nd → Nd → Int} {a x : Nd} (hax : a ≠ x) {m : Int} (hm : r a x = m) : setr (setr r a x (m - 1)) x a (r x a + 1) = Fw.flip r a x := by
 funext y z
 unfold setr Fw.flip
 by_cases h1 : y = x ∧ z = a
 ·rw [if_pos h1, if_pos h1, if_neg fun h => hax (h.1.symm.trans h1.1), h1.1, h1.2]; omega
 ·rw [if_neg h1, if_neg h1]
  by_cases h2 : y = a ∧ z = x
  ·rw [if_pos h2, if_pos h2, h2.1, h2.2, hm]; omega
  ·rw [if_neg h2, if_neg h2]; omega
theorem flip_nn {r : Nd → Nd → Int} {a x : Nd} (h : ∀ y z, 0 ≤ r y z) (hm : 0 < r a x) (y z : Nd) : 0 ≤ Fw.flip r a x y z := by
 unfold Fw.flip
 have := h y z
 by_cases h2 : y = a ∧ z = x
 ·rw [if_pos h2, h2.1, h2.2]; split <;> omega
 ·rw [if_neg h2]; split <;> omega
theorem flip_two {r : Nd → Nd → Int} {a x : Nd} (h : ∀ y z, r y z + r z y ≤ 2) (y z : Nd) : Fw.flip r a x y z + Fw.flip r a x z y ≤ 2 := by
 unfold Fw.flip
 have := h y z
 have q1 : (z = x ∧ y = a) ↔ (y = a ∧ z = x) := and_comm
 have q2 : (z = a ∧ y = x) ↔ (y = x ∧ z = a) := and_comm
 by_cases h1 : y = a ∧ z = x
 ·rw [if_pos h1, if_pos (q1.2 h1)]
  by_cases h2 : y = x ∧ z = a
  ·rw [if_pos h2, if_pos (q2.2 h2)]; omega
  ·rw [if_neg h2, if_neg fun h => h2 (q2.1 h)]; omega
 ·rw [if_neg h1, if_neg (c := z = x ∧ y = a) fun h => h1 (q1.1 h)]
  by_cases h2 : y = x ∧ z = a
  ·rw [if_pos h2, if_pos (q2.2 h2)]; omega
  ·rw [if_neg h2, if_neg fun h => h2 (q2.1 h)]; omega
theorem flip_far {r : Nd → Nd → Int} {a x y : Nd} (h1 : y ≠ a) (h2 : y ≠ x) (z : Nd) : Fw.flip r a x y z = r y z := by
 unfold Fw.flip
 rw [if_neg fun h => h1 h.1, if_neg fun h => h2 h.1]; omega
set_option maxRecDepth 1000000 in
set_option maxHeartbeats 1000000 in
theorem push_ok (V : List Nd) (hV : V.Nodup) (wb sb : Nat) (b : Nd) (nb : Nok b) (D : Nd → Option Nat) (hDV : ∀ x, D x ≠ none → x ∈ V) : ∀ (k : Nat) (a : Nd) (w : World) (r : Nd → Nd → Int) (g : Nd → Option Bool) (es0 : Array MapEntry) (cl0 : Nat) (F0 : Value → Option Value), Web w wb r D → MapD w sb encB g es0 cl0 F0 → ¬ Dom wb D sb → a ∈ V → Nok a → ¬ Sn g a → (∀ x y, 0 ≤ r x y) → (∀ x y, r x y + r y x ≤ 2) →
  (∀ l : List Nd, l.Nodup → (∀ x, x ∈ l → x ∈ V ∧ ¬ Sn g x) → l.length ≤ k) →
  Calls Try.prog 48 #[.map (some wb), .agg #[.int .i64 a.1, .bool a.2], .agg #[.int .i64 b.1, .bool b.2], .map (some sb)] w fun e w' => ∃ res r' g', e = .returned (.bool res) ∧ PushR V w w' wb sb a b r r' D g g' res := by
 intro k
 induction k with
 | zero =>
  intro a w r g es0 cl0 F0 hw hs hsb haV na hga hnn htwo hk
  have := hk [a] (by simp) (fun x hx => by rw [List.mem_singleton.1 hx]; exact ⟨haV, hga⟩)
  simp at this
 | succ k ih =>
 intro a w r g es0 cl0 F0 hw hs hsb haV na hga hnn htwo hk
 have hq := fun u => eqN a b u
 have hsl : sb < w.heap.size := hs.m.lt
 have hwl : wb < w.heap.size := hw.lt (.inl rfl)
 obtain ⟨ka, hka⟩ := keyN na
 have hz : ∀ u : World, (zeroValue 101).run Try.prog u = .ok (.map none) u := fun u => rfl
 by_cases hab : a = b
 ·rw [decide_eq_true hab] at hq
  subst hab
  go_enter Try.func48, Try.ntmps48
  go_wp2
  go_ret
  have kp : ∀ i, i < w.heap.size → ((w.alloc (Obj.cells #[Value.int IntKind.i64 a.fst, Value.bool a.snd] 81)).alloc (Obj.cells #[Value.int IntKind.i64 a.fst, Value.bool a.snd] 81)).heap[i]? = w.heap[i]? := fun i hi => by rw [alloc_keep _ _ _ (by rw [alloc_sz]; omega), alloc_keep _ _ _ hi]
  exact ⟨true, r, g, rfl, hw.keep fun i hi => kp i (hw.lt hi), ⟨_, _, _, hs.same (kp sb hsl)⟩, fun _ h => h, ⟨rfl, rfl, rfl, by simp only [alloc_sz]; omega, fun i hi _ => kp i hi⟩, fun _ => hnn, fun _ => htwo, fun _ X => by omega, fun _ _ _ _ => rfl, fun h => (by cases h), fun h => (by cases h)⟩
 ·rw [decide_eq_false hab] at hq
  go_enter Try.func48, Try.ntmps48
  obtain ⟨eso, clo, Fo, ho⟩ := hw.outer
  have hFa := ho.get a
  have hsne : ∀ i, w.heap.size ≤ i → some i ≠ some sb := fun i hi e => by injection e with e; omega
  have p1 : ((w.alloc (.cells #[.int .i64 a.1, .bool a.2] 81)).alloc (.cells #[.int .i64 b.1, .bool b.2] 81)).cell? ⟨w.heap.size, 0, none⟩ = some (.int .i64 a.1) := by rw [cell_old _ _ _ (by rw [alloc_sz]; show w.heap.size < _; omega), cell_new]; rfl
  have p2 : ((w.alloc (.cells #[.int .i64 a.1, .bool a.2] 81)).alloc (.cells #[.int .i64 b.1, .bool b.2] 81)).cell? ⟨w.heap.size, 1, none⟩ = some (.bool a.2) := by rw [cell_old _ _ _ (by rw [alloc_sz]; show w.heap.size < _; omega), cell_new]; rfl
  have p3 : ((w.alloc (.cells #[.int .i64 a.1, .bool a.2] 81)).alloc (.cells #[.int .i64 b.1, .bool b.2] 81)).cell? ⟨w.heap.size + 1, 0, none⟩ = some (.int .i64 b.1) := by have := cell_new (w.alloc (.cells #[.int .i64 a.1, .bool a.2] 81)) #[.int .i64 b.1, .bool b.2] 81 0; rw [alloc_sz] at this; exact this
  have p4 : ((w.alloc (.cells #[.int .i64 a.1, .bool a.2] 81)).alloc (.cells #[.int .i64 b.1, .bool b.2] 81)).cell? ⟨w.heap.size + 1, 1, none⟩ = some (.bool b.2) := by have := cell_new (w.alloc (.cells #[.int .i64 a.1, .bool a.2] 81)) #[.int .i64 b.1, .bool b.2] 81 1; rw [alloc_sz] at this; exact this
  cases hda : D a with
  | none =>
   rw [hda] at hFa
   have hnx : ∀ (u : World) ty, (Instr.next (.pointer (some ⟨u.heap.size, 0, none⟩)) false ty).run Try.prog (u.alloc (.mapIter none 0 #[] 0)) = .ok (.tuple #[.bool false]) (u.alloc (.mapIter none 0 #[] 0)) := fun u ty => run_next_nilMap u ty 0 0 #[]
   have hrg : ∀ u : World, (Instr.range 101 (.map none)).run Try.prog u = .ok (.pointer (some ⟨u.heap.size, 0, none⟩)) (u.alloc (.mapIter none 0 #[] 0)) := fun u => run_range_nilMap (P := Try.prog) u 101 81 3 U101
   go_wp2_with (first | (at_lookup; go_loud (refine wpList_lookup_F rfl _ _ _ rfl 81 101 K81 U79 (hz _) wb rfl (ho.m.same (by rw [g1.block wb (by simp only [alloc_sz]; omega) (by intro e; injection e with e; exact hsb (.inl e.symm)), alloc_keep, alloc_keep] <;> (try simp only [alloc_sz]) <;> omega)) (nv a) ka rfl hka ?_; rw [hFa, Option.map_none, Option.getD_none])) | (at_mapUpdate; go_loud (refine wpList_mapUpdate_F rfl _ _ _ _ rfl 81 4 K81 U84 sb rfl (hs.m.same (by rw [alloc_keep, alloc_keep] <;> (try simp only [alloc_sz]) <;> omega)) (nv a) (encB true) ka rfl rfl hka ?_; intro w1 es1 cl1 h1 g1 z1; have d1 := g1.cell p1 (hsne _ (Nat.le_refl _)); have d2 := g1.cell p2 (hsne _ (Nat.le_refl _)); have d3 := g1.cell p3 (hsne _ (Nat.le_succ _)); have d4 := g1.cell p4 (hsne _ (Nat.le_succ _)); clear z1)) | go_in)
   refine wp_loop_rounds 1 ?_
   rw [rounds_succ]
   go_wp2
   go_ret
   have sz1 := g1.size
   simp only [alloc_sz] at sz1
   have old : ∀ i, i < w.heap.size → i ≠ sb → (w1.alloc (Obj.mapIter none 0 #[] 0)).heap[i]? = w.heap[i]? := fun i hi hn => by
    rw [alloc_keep _ _ _ (by omega), g1.block i (by simp only [alloc_sz]; omega) (fun e => by injection e with e; exact hn e), alloc_keep _ _ _ (by rw [alloc_sz]; omega), alloc_keep _ _ _ hi]
   refine ⟨false, r, upd g a true, rfl, hw.keep fun i hi => old i (hw.lt hi) (fun e => hsb (e ▸ hi)), ⟨_, _, _, (hs.up h1).same (alloc_keep _ _ _ (by omega))⟩, fun x hx => ?_, ⟨g1.os, g1.tape, g1.output, by rw [alloc_sz]; omega, fun i hi hn => old i hi fun e => hn (.inr e)⟩, fun h => (by cases h), fun h => (by cases h), fun h => (by cases h), fun h => (by cases h), fun _ => rfl, fun _ => ⟨?_, fun y hy hn => ?_⟩⟩
   ·by_cases e : x = a
    ·subst e; exact absurd hx hga
    ·unfold Sn; rw [upd_ne _ _ e]; exact hx
   ·unfold Sn; rw [upd_same]; rfl
   ·by_cases e : y = a
    ·subst e; exact ⟨hab, fun z hz => by rw [hw.non _ hda] at hz; omega⟩
    ·unfold Sn at hy; rw [upd_ne _ _ e] at hy; exact absurd hy hn
  | some q =>
   rw [hda] at hFa
   obtain ⟨hqw, ga, ⟨es, cl, F, hi⟩, hgr, hgd⟩ := hw.inner a q hda
   have hql : q < w.heap.size := hw.lt (.inr ⟨a, hda⟩)
   have hqs : q ≠ sb := fun e => hsb (.inr ⟨a, e ▸ hda⟩)
   go_wp2_with (first | (at_lookup; go_loud (refine wpList_lookup_F rfl _ _ _ rfl 81 101 K81 U79 (hz _) wb rfl (ho.m.same (by rw [g1.block wb (by simp only [alloc_sz]; omega) (by intro e; injection e with e; exact hsb (.inl e.symm)), alloc_keep, alloc_keep] <;> (try simp only [alloc_sz]) <;> omega)) (nv a) ka rfl hka ?_; rw [hFa, Option.map_some, Option.getD_some, show encM q = .map (some q) from rfl])) | (at_mapUpdate; go_loud (refine wpList_mapUpdate_F rfl _ _ _ _ rfl 81 4 K81 U84 sb rfl (hs.m.same (by rw [alloc_keep, alloc_keep] <;> (try simp only [alloc_sz]) <;> omega)) (nv a) (encB true) ka rfl rfl hka ?_; intro w1 es1 cl1 h1 g1 z1; have d1 := g1.cell p1 (hsne _ (Nat.le_refl _)); have d2 := g1.cell p2 (hsne _ (Nat.le_refl _)); have d3 := g1.cell p3 (hsne _ (Nat.le_succ _)); have d4 := g1.cell p4 (hsne _ (Nat.le_succ _)))) | (at_range; go_loud (refine wpList_range_F rfl _ _ rfl 81 3 U101 q rfl (hi.m.same (by rw [g1.block q (by simp only [alloc_sz]; omega) (by intro e; injection e with e; exact hqs e), alloc_keep, alloc_keep] <;> (try simp only [alloc_sz]) <;> omega)) ?_; intro w3 h3 i3 g3 z3; go_frame)) | go_in)
   have hrb : w1.heap.size = w.heap.size + 1 + 1 := by rw [z1]; simp only [alloc_sz]
   rw [hrb]
   go_loopw [20] (fun _ wr => ∃ g' sn c0, PushL V w wr wb sb (w.heap.size + 1 + 1) a b r D g g' es cl cl c0 sn q ga F) (fun _ wr => (leftOf es (wr.iterSeen (w.heap.size + 1 + 1))).size)
   case atStart =>
    have sz3 : w3.heap.size = w.heap.size + 3 := by rw [z3, hrb]
    have old : ∀ i, i < w.heap.size → i ≠ sb → w3.heap[i]? = w.heap[i]? := fun i hi hn => by
     rw [g3.block i (by omega) (by simp), g1.block i (by simp only [alloc_sz]; omega) (fun e => by injection e with e; exact hn e), alloc_keep _ _ _ (by rw [alloc_sz]; omega), alloc_keep _ _ _ hi]
    refine ⟨upd g a true, #[], cl, hw.keep fun i hi => old i (hw.lt hi) (fun e => hsb (e ▸ hi)), ⟨_, _, _, (hs.up h1).same (g3.block sb (by omega) (by simp))⟩, fun x hx => ?_, ?_, ⟨g3.os.trans g1.os, g3.tape.trans g1.tape, g3.output.trans g1.output, by omega, fun i hi hn => old i hi hn⟩, fun y hy hn hne => ?_, ⟨h3, hi.get, hi.dom⟩, by rw [hrb] at i3; exact i3, fun e he hc => by simp at hc, g3.cell d1 (by simp), g3.cell d2 (by simp), g3.cell d3 (by simp), g3.cell d4 (by simp), by omega, by omega⟩
    ·by_cases e : x = a
     ·subst e; exact absurd hx hga
     ·unfold Sn; rw [upd_ne _ _ e]; exact hx
    ·unfold Sn; rw [upd_same]; rfl
    ·unfold Sn at hy; rw [upd_ne _ _ hne] at hy; exact absurd hy hn
   case round =>
    obtain ⟨g', sn, c0, L⟩ := hrel
    go_wp2_with (first | (at_next; refine wpList_next_F rfl _ rfl 81 rfl (by have := L.rge; have := L.rlt; omega) L.mp.m L.it ?_ ?_) | go_in)
    ·intro hall
     go_wp2
     go_ret
     refine ⟨false, r, g', rfl, L.web, L.seen, L.mono, Fr.wide L.fr fun i _ h => .inr h, fun h => (by cases h), fun h => (by cases h), fun h => (by cases h), fun h => (by cases h), fun _ => rfl, fun _ => ⟨L.ha, fun y hy hn => ?_⟩⟩
     by_cases e : y = a
     ·subst e
      refine ⟨hab, fun z hz => ?_⟩
      rw [hgr] at hz
      cases hgz : ga z with
      | none => rw [hgz] at hz; exact absurd hz (by decide)
      | some m =>
       rw [hgz] at hz
       obtain ⟨e, he, hk1, hk2⟩ := L.mp.all hgz
       exact L.don e he (by have := hall e (by simpa using he); simpa using this) z m hk1 hgz hz
     ·exact L.shut y hy hn e
    ·intro e w4 he hsn h4 i4 hlt g4 z4 hen
     have he' : e ∈ es.toList := by simpa using he
     obtain ⟨x, m, hkx, hvx, hgx⟩ := L.mp.entry he'
     rw [hkx, hvx] at hen
     unfold nv encI at hen
     obtain ⟨ess, cls, Fs, hse⟩ := L.seen
     have hDx : D x ≠ none := hgd x (by rw [hgx]; simp)
     have nx : Nok x := hw.dom x hDx
     obtain ⟨kx, hkx'⟩ := keyN nx
     have hzs : ∀ u : World, (zeroValue 4).run Try.prog u = .ok (.bool false) u := fun u => rfl
     have hsr : sb < wr.heap.size := hse.m.lt
     have hrr := L.rlt
     have hgs : (Fs (nv x)).getD (.bool false) = .bool ((g' x).getD false) := by rw [hse.get]; cases g' x <;> rfl
     have hsn5 : (w4.alloc (.cells #[.int .i64 x.1, .bool x.2] 81)).heap[sb]? = wr.heap[sb]? := by rw [alloc_keep _ _ _ (by omega), g4.block sb hsr (by intro e; injection e with e; omega)]
     have hl5 : (Instr.lookup 84 (.map (some sb)) (.agg #[.int .i64 x.1, .bool x.2]) false).run Try.prog (w4.alloc (.cells #[.int .i64 x.1, .bool x.2] 81)) = .ok (.bool ((g' x).getD false)) (w4.alloc (.cells #[.int .i64 x.1, .bool x.2] 81)) := by
      have := (hse.m.same hsn5).look K81 U84 (hzs _) hkx'
      rw [hgs] at this; exact this
     have hw4 : w4.heap.size = wr.heap.size := z4
     have hge := L.rge
     have k1 : (w4.alloc (.cells #[.int .i64 x.1, .bool x.2] 81)).cell? ⟨w.heap.size, 0, none⟩ = some (.int .i64 a.1) := by rw [cell_old _ _ _ (by show w.heap.size < _; omega)]; exact g4.cell L.e1 (by intro e; injection e with e; simp only at e; omega)
     have k2 : (w4.alloc (.cells #[.int .i64 x.1, .bool x.2] 81)).cell? ⟨w.heap.size, 1, none⟩ = some (.bool a.2) := by rw [cell_old _ _ _ (by show w.heap.size < _; omega)]; exact g4.cell L.e2 (by intro e; injection e with e; simp only at e; omega)
     have k3 : (w4.alloc (.cells #[.int .i64 x.1, .bool x.2] 81)).cell? ⟨w.heap.size + 1, 0, none⟩ = some (.int .i64 b.1) := by rw [cell_old _ _ _ (by show w.heap.size + 1 < _; omega)]; exact g4.cell L.e3 (by intro e; injection e with e; simp only at e; omega)
     have k4 : (w4.alloc (.cells #[.int .i64 x.1, .bool x.2] 81)).cell? ⟨w.heap.size + 1, 1, none⟩ = some (.bool b.2) := by rw [cell_old _ _ _ (by show w.heap.size + 1 < _; omega)]; exact g4.cell L.e4 (by intro e; injection e with e; simp only at e; omega)
     have hms : (leftOf es (sn.push e.born)).size < (leftOf es (wr.iterSeen (w.heap.size + 1 + 1))).size := by rw [iterSeen_of L.it]; exact hlt
     have step : ∀ {w6 : World} {g'' : Nd → Option Bool}, (∃ es cl F, MapD w6 sb encB g'' es cl F) → (∀ y, Sn g' y → Sn g'' y) → Fr (fun i => i = sb) (w4.alloc (.cells #[.int .i64 x.1, .bool x.2] 81)) w6 → (0 < m → Sn g'' x) → (∀ y, Sn g'' y → ¬ Sn g' y → y ≠ b ∧ ∀ z, 0 < r y z → Sn g'' z) →
       (∃ g' sn c0, PushL V w w6 wb sb (w.heap.size + 1 + 1) a b r D g g' es cl cl c0 sn q ga F) ∧ (leftOf es (w6.iterSeen (w.heap.size + 1 + 1))).size < (leftOf es (wr.iterSeen (w.heap.size + 1 + 1))).size := fun a1 a2 a3 a4 a5 => by
      have L' := L.step hw hsb hsl ⟨a, hda⟩ he' hkx hgx i4 g4 (World.grownBy_alloc _ _ _) a1 a2 a3 a4 a5
      exact ⟨⟨_, _, _, L'⟩, by rw [iterSeen_of L'.it]; exact hms⟩
     by_cases hm : 0 < m
     ·cases hsx : (g' x).getD false with
      | true =>
       rw [hsx] at hl5
       go_wp2
       exact step ⟨_, _, _, hse.same hsn5⟩ (fun _ h => h) (Fr.refl _ _) (fun _ => hsx) (fun y hy hn => absurd hy hn)
      | false =>
       rw [hsx] at hl5
       have hnx : ¬ Sn g' x := by unfold Sn; rw [hsx]; simp
       have web5 : Web (w4.alloc (.cells #[.int .i64 x.1, .bool x.2] 81)) wb r D := L.web.keep fun i hi => by
        have := hw.lt hi
        rw [alloc_keep _ _ _ (by omega), g4.block i (by omega) (fun e => by injection e with e; omega)]
       have hk' : ∀ l : List Nd, l.Nodup → (∀ x, x ∈ l → x ∈ V ∧ ¬ Sn g' x) → l.length ≤ k := fun l hl hx => by
        have := hk (a :: l) (List.nodup_cons.2 ⟨fun h => (hx a h).2 L.ha, hl⟩) (fun y hy => by
         rcases List.mem_cons.1 hy with rfl | hy
         ·exact ⟨haV, hga⟩
         ·exact ⟨(hx y hy).1, fun h => (hx y hy).2 (L.mono y h)⟩)
        simpa using this
       have hc := ih x _ r g' ess cls Fs web5 (hse.same hsn5) hsb (hDV x hDx) nx hnx hnn htwo hk'
       go_wp2_with (go_at_call 48; refine hc.mono ?_; rintro e2 w6 ⟨res, r', g'', rfl, R⟩; cases res)
       ·have hnf := R.shut rfl
        exact step R.seen R.mono (Fr.wide R.fr fun i _ h => h.elim (fun h => by cases h.1) id) (fun _ => hnf.1) (fun y hy hn => hnf.2 y hy hn)
       ·have outD : ∀ i, w.heap.size ≤ i → ¬ ((true = true ∧ Dom wb D i) ∨ i = sb) := fun i hi h => by
         rcases h with ⟨_, h⟩ | h
         ·have := hw.lt h; omega
         ·omega
        have hax : a ≠ x := fun e => hnx (e ▸ L.ha)
        obtain ⟨eso6, clo6, Fo6, ho6⟩ := R.web.outer
        obtain ⟨_, ga6, ⟨es6, cl6, F6, hi6⟩, hgr6, hgd6⟩ := R.web.inner a q hda
        have hr6 : r' a x = m := by rw [R.stay rfl a x L.ha, hgr, hgx]; rfl
        have hga6 : (ga6 x).getD 0 = m := by rw [← hgr6, hr6]
        obtain ⟨st, W2, W3, rr1, rr2, rr3, rr4, mp3, gg3, zz3⟩ := room_put (w := w6.drew) (hi6.same rfl) nx (m - 1)
        rw [hga6] at rr1 rr2 rr3
        have hlo6 : (Instr.lookup 79 (.map (some wb)) (.agg #[.int .i64 a.1, .bool a.2]) false).run Try.prog w6.drew = .ok (.map (some q)) w6.drew := by
         have := (ho6.m.same (w' := w6.drew) rfl).look K81 U79 (hz _) hka
         rw [ho6.get a, hda] at this; exact this
        have hm2 : m ≤ 2 := by have := R.two rfl a x; have := R.nn rfl x a; omega
        have c1 := Fr.cell R.fr k1 (outD _ (by simp only; omega))
        have u1 := gg3.cell (w := w6.drew) c1 (by intro e; injection e with e; simp only at e; omega)
        have c2 := Fr.cell R.fr k2 (outD _ (by simp only; omega))
        have u2 := gg3.cell (w := w6.drew) c2 (by intro e; injection e with e; simp only at e; omega)
        have c3 := Fr.cell R.fr k3 (outD _ (by simp only; omega))
        have u3 := gg3.cell (w := w6.drew) c3 (by intro e; injection e with e; simp only at e; omega)
        have c4 := Fr.cell R.fr k4 (outD _ (by simp only; omega))
        have u4 := gg3.cell (w := w6.drew) c4 (by intro e; injection e with e; simp only at e; omega)
        have hx56 : wr.heap.size < w6.heap.size := by have := R.fr.size; rw [alloc_sz] at this; omega
        have y1 : w6.cell? ⟨wr.heap.size, 0, none⟩ = some (.int .i64 x.1) := Fr.cell R.fr (by rw [← hw4, cell_new]; rfl) (outD _ (by simp only; omega))
        have y2 : w6.cell? ⟨wr.heap.size, 1, none⟩ = some (.bool x.2) := Fr.cell R.fr (by rw [← hw4, cell_new]; rfl) (outD _ (by simp only; omega))
        have v1 := gg3.cell (w := w6.drew) y1 (by intro e; injection e with e; simp only at e; omega)
        have v2 := gg3.cell (w := w6.drew) y2 (by intro e; injection e with e; simp only at e; omega)
        have s6 := R.fr.size
        rw [alloc_sz] at s6
        have web3 : Web W3 wb (setr r' a x (m - 1)) D := R.web.set hda hDx hi6 mp3 fun i hi hne => gg3.block i (by show i < w6.heap.size; have := hw.lt hi; omega) (fun e => by injection e with e; exact hne e)
        cases hdx : D x with
        | none => exact absurd hdx hDx
        | some q2 =>
        obtain ⟨eso3, clo3, Fo3, ho3⟩ := web3.outer
        obtain ⟨_, gx, ⟨esx, clx, Fx, hix⟩, hgrx, hgdx⟩ := web3.inner x q2 hdx
        have hgx3 : (gx a).getD 0 = r' x a := by
         rw [← hgrx]; unfold setr; rw [if_neg]; exact fun h => hax h.1.symm
        obtain ⟨st', W4, W5, tt1, tt2, tt3, tt4, mp5, gg5, zz5⟩ := room_put (w := W3.drew) (hix.same rfl) na (r' x a + 1)
        rw [hgx3] at tt1 tt2 tt3
        have hn0 : 0 ≤ r' x a := R.nn rfl x a
        have hn1 : r' x a ≤ 1 := by have := R.two rfl a x; omega
        have hlo3 : (Instr.lookup 79 (.map (some wb)) (.agg #[.int .i64 x.1, .bool x.2]) false).run Try.prog W3.drew = .ok (.map (some q2)) W3.drew := by
         have := (ho3.m.same (w' := W3.drew) rfl).look K81 U79 (hz _) hkx'
         rw [ho3.get x, hdx] at this; exact this
        clear hc step hk' web5 hnn htwo hk
        go_region
        all_goals go_wp2
        all_goals go_region
        all_goals go_wp2
        all_goals go_ret
        have b6 : ∀ i, i < wr.heap.size → i ≠ q → i ≠ q2 → W5.heap[i]? = w6.heap[i]? := fun i hi h1 h2 =>
         (gg5.block i (by show i < W3.heap.size; rw [zz3]; show i < w6.heap.size; omega) (fun e => by injection e with e; exact h2 e)).trans (gg3.block i (by show i < w6.heap.size; omega) (fun e => by injection e with e; exact h1 e))
        have hq2l : q2 < w.heap.size := hw.lt (.inr ⟨x, hdx⟩)
        have hq2s : q2 ≠ sb := fun e => hsb (.inr ⟨x, e ▸ hdx⟩)
        have z3 : W3.heap.size = w6.heap.size := zz3
        have z5 : W5.heap.size = W3.heap.size := zz5
        obtain ⟨es7, cl7, F7, hs7⟩ := R.seen
        have web7 := web3.set (d := r' x a + 1) hdx (by rw [hda]; simp) hix mp5 fun i hi hne => gg5.block i (by show i < W3.heap.size; have := hw.lt hi; omega) (fun e => by injection e with e; exact hne e)
        rw [flip_setr hax hr6] at web7
        have fr0 := R.fr
        refine ⟨true, Fw.flip r' a x, g'', rfl, web7, ⟨_, _, _, hs7.same (b6 sb hsr (Ne.symm hqs) (Ne.symm hq2s))⟩, fun y hy => R.mono y (L.mono y hy), ?_, fun _ => flip_nn (R.nn rfl) (by omega), fun _ => flip_two (R.two rfl), fun _ X => ?_, fun _ y z hy => ?_, fun h => (by cases h), fun h => (by cases h)⟩
        ·refine ⟨gg5.os.trans (gg3.os.trans (fr0.os.trans (g4.os.trans L.fr.os))), gg5.tape.trans (gg3.tape.trans (fr0.tape.trans (g4.tape.trans L.fr.tape))), gg5.output.trans (gg3.output.trans (fr0.output.trans (g4.output.trans L.fr.output))), by omega, fun i hi hn => ?_⟩
         rw [b6 i (by omega) (fun e => hn (.inl ⟨rfl, .inr ⟨a, e ▸ hda⟩⟩)) (fun e => hn (.inl ⟨rfl, .inr ⟨x, e ▸ hdx⟩⟩)), fr0.block i (by rw [alloc_sz]; omega) hn, alloc_keep _ _ _ (by omega), g4.block i (by omega) (fun e => by injection e with e; omega)]
         exact L.fr.block i hi fun e => hn (.inr e)
        ·rw [out_flip hV X r' haV (hDV x hDx), R.out rfl X]; omega
        ·rw [flip_far (y := y) (fun e => hga (by rw [← e]; exact hy)) (fun e => hnx (by rw [← e]; exact L.mono y hy)), R.stay rfl y z (L.mono y hy)]
     ·go_wp2
      exact step ⟨_, _, _, hse.same hsn5⟩ (fun _ h => h) (Fr.refl _ _) (fun h => absurd h hm) (fun y hy hn => absurd hy hn)
end Go.Proofs.Ytiemlgicaibccaa
