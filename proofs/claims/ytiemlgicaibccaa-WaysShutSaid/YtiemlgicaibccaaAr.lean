/- ways.arc: an arc comes to the web. No condition of its own. -/
import Derived.Test.YtiemlgicaibccaaWe
import Derived.StillTailTactics
import Derived.Deep.AppendLies
import Derived.LoopTactic
set_option linter.all false
namespace Go.Proofs.Ytiemlgicaibccaa
open Go.Pv Go.ChangeMaps Go.Maps Go.Pv.Fw
open Go.RowKit (intOf)
theorem alloc_keep (w : World) (o : Obj) (i : Nat) (h : i < w.heap.size) : (w.alloc o).heap[i]? = w.heap[i]? := (MapKept.heap_alloc w o).2 i h
theorem alloc_sz (w : World) (o : Obj) : (w.alloc o).heap.size = w.heap.size + 1 := by simp
theorem cell_new (w : World) (cs : Array Value) (t : TypeId) (i : Nat) : (w.alloc (.cells cs t)).cell? ⟨w.heap.size, i, none⟩ = cs[i]? := by
 show (match (w.alloc (.cells cs t)).heap[w.heap.size]? with | some (.cells c _ _) => c[i]? | _ => none) = _
 rw [(MapKept.heap_alloc w _).1]
theorem cell_old (w : World) (o : Obj) (a : Addr) (h : a.block < w.heap.size) : (w.alloc o).cell? a = w.cell? a := World.grownBy.cell_far (World.grownBy_alloc w o none) a h (by simp)
structure Ext (w w' : World) (wb : Nat) (D D' : Nd → Option Nat) : Prop where
 old : ∀ x, D x ≠ none → D' x = D x
 new : ∀ x c, D' x = some c → D x = some c ∨ w.heap.size ≤ c
 fr : Fr (Dom wb D) w w'
def Only (a b : Nd) (D D' : Nd → Option Nat) : Prop := ∀ x, D' x ≠ none → D x ≠ none ∨ x = a ∨ x = b
structure ArcS (w wr : World) (wb : Nat) (a b : Nd) (r : Nd → Nd → Int) (D D' : Nd → Option Nat) (k : Nat) : Prop where
 c0 : wr.cell? ⟨w.heap.size + 2, 0, none⟩ = some (.int .i64 a.1)
 c1 : wr.cell? ⟨w.heap.size + 2, 1, none⟩ = some (.bool a.2)
 c2 : wr.cell? ⟨w.heap.size + 2, 2, none⟩ = some (.int .i64 b.1)
 c3 : wr.cell? ⟨w.heap.size + 2, 3, none⟩ = some (.bool b.2)
 e1 : wr.cell? ⟨w.heap.size, 0, none⟩ = some (.int .i64 a.1)
 e2 : wr.cell? ⟨w.heap.size, 1, none⟩ = some (.bool a.2)
 e3 : wr.cell? ⟨w.heap.size + 1, 0, none⟩ = some (.int .i64 b.1)
 e4 : wr.cell? ⟨w.heap.size + 1, 1, none⟩ = some (.bool b.2)
 web : Web wr wb r D'
 old : ∀ x, D x ≠ none → D' x = D x
 new : ∀ x c, D' x = some c → D x = some c ∨ w.heap.size + 3 ≤ c
 ha : 0 < k → D' a ≠ none
 hb : 1 < k → D' b ≠ none
 fr : Fr (Dom wb D) w wr
 sz : w.heap.size + 3 ≤ wr.heap.size
 wl : wb < w.heap.size
 on : Only a b D D'
theorem ArcS.grow {w wr w1 : World} {wb : Nat} {a b : Nd} {r : Nd → Nd → Int} {D D' : Nd → Option Nat} {k : Nat} (s : ArcS w wr wb a b r D D' k) (g : wr.grownBy w1 none) : ArcS w w1 wb a b r D D' k :=
 ⟨g.cell s.c0 (by simp), g.cell s.c1 (by simp), g.cell s.c2 (by simp), g.cell s.c3 (by simp), g.cell s.e1 (by simp), g.cell s.e2 (by simp), g.cell s.e3 (by simp), g.cell s.e4 (by simp),
   s.web.keep fun i hi => g.block i (s.web.lt hi) (by simp), s.old, s.new, s.ha, s.hb,
   ⟨g.os.trans s.fr.os, g.tape.trans s.fr.tape, g.output.trans s.fr.output, Nat.le_trans s.fr.size g.size, fun i hi hn => (g.block i (by have := s.fr.size; omega) (by simp)).trans (s.fr.block i hi hn)⟩,
   Nat.le_trans s.sz g.size, s.wl, s.on⟩
theorem ArcS.touch {w wr w1 : World} {wb : Nat} {a b : Nd} {r : Nd → Nd → Int} {D D' : Nd → Option Nat} {k : Nat} (s : ArcS w wr wb a b r D D' k) {x : Nd} (hx : D' x = none) (nx : Nok x) (xab : x = a ∨ x = b) {c cl : Nat} (hc : wr.heap.size ≤ c) (hn : w1.heap[c]? = some (.map #[] cl))
  (ho : ∃ es cl F, MapD w1 wb encM (upd D' x c) es cl F) (g : wr.grownBy w1 (some wb)) : ArcS w w1 wb a b r D (upd D' x c) k := by
 have hwl := s.wl
 have ne : ∀ i, w.heap.size ≤ i → some i ≠ some wb := fun i hi e => by injection e with e; omega
 have mo : ∀ y, D' y ≠ none → upd D' x c y ≠ none := fun y hy => by
  by_cases e : y = x
  ·rw [e, upd_same]; simp
  ·rw [upd_ne _ _ e]; exact hy
 refine ⟨g.cell s.c0 (ne _ (by show w.heap.size ≤ w.heap.size + 2; omega)), g.cell s.c1 (ne _ (by show w.heap.size ≤ w.heap.size + 2; omega)), g.cell s.c2 (ne _ (by show w.heap.size ≤ w.heap.size + 2; omega)), g.cell s.c3 (ne _ (by show w.heap.size ≤ w.heap.size + 2; omega)), g.cell s.e1 (ne _ (Nat.le_refl _)), g.cell s.e2 (ne _ (Nat.le_refl _)), g.cell s.e3 (ne _ (by show w.heap.size ≤ w.heap.size + 1; omega)), g.cell s.e4 (ne _ (by show w.heap.size ≤ w.heap.size + 1; omega)),
   s.web.touch hx nx (fun h => by have := s.web.lt h; omega) hn ho (fun i hi => g.block i (s.web.lt (.inr hi)) (fun e => ?_)), fun y hy => ?_, fun y q hq => ?_, fun h => mo _ (s.ha h), fun h => mo _ (s.hb h),
   ⟨g.os.trans s.fr.os, g.tape.trans s.fr.tape, g.output.trans s.fr.output, Nat.le_trans s.fr.size g.size, fun i hi hn => (g.block i (by have := s.fr.size; omega) (fun e => by injection e with e; exact hn (.inl e))).trans (s.fr.block i hi hn)⟩,
   Nat.le_trans s.sz g.size, s.wl, fun y hy => ?_⟩
 ·obtain ⟨y, hy⟩ := hi
  injection e with e; subst e
  exact absurd rfl (s.web.inner y i hy).1
 ·by_cases e : y = x
  ·subst e; rw [← s.old y hy, hx] at hy; exact absurd rfl hy
  ·rw [upd_ne _ _ e]; exact s.old y hy
 ·by_cases e : y = x
  ·subst e; rw [upd_same] at hq; injection hq with hq; subst hq
   exact .inr (Nat.le_trans s.sz hc)
  ·rw [upd_ne _ _ e] at hq; exact s.new y q hq
 ·by_cases e : y = x
  ·exact .inr (e ▸ xab)
  ·rw [upd_ne _ _ e] at hy; exact s.on y hy
set_option maxRecDepth 1000000 in
theorem arc_ok (wb : Nat) (a b : Nd) (w : World) (r : Nd → Nd → Int) (D : Nd → Option Nat) (h : Web w wb r D) (hab : a ≠ b) (na : Nok a) (nb : Nok b) :
  Calls Try.prog 47 #[.map (some wb), .agg #[.int .i64 a.1, .bool a.2], .agg #[.int .i64 b.1, .bool b.2]] w fun e w' => (∃ v, e = .returned v) ∧ ∃ D', Web w' wb (setr r a b 1) D' ∧ Ext w w' wb D D' ∧ Only a b D D' := by
 have qN : ∀ (w : World) (r : Option Nat), (binOp .eql 101 (.map r) (.map none)).run Try.prog w = .ok (.bool r.isNone) w := fun w r => run_eql_map_nil w _ _ _ r U101
 have qM : ∀ (u : World), (Instr.makeMap 101 none).run Try.prog u = .ok (.map (some u.heap.size)) (u.alloc (.map #[] 0)) := fun u => rfl
 go_enter Try.func47, Try.ntmps47
 go_wp2
 go_loopw [12] (fun i wr => ∃ k : Nat, k ≤ 2 ∧ i = .int .i64 k ∧ ∃ D', ArcS w wr wb a b r D D' k) (fun i _ => 2 - (intOf i).toNat)
 case atStart =>
  refine ⟨0, by omega, rfl, D, ?_⟩
  have hwl : wb < w.heap.size := h.lt (.inl rfl)
  have o2 : ∀ (o1 o2 : Obj) (q : Addr), q.block < w.heap.size + 1 → (((w.alloc o1).alloc o2).cell? q) = (w.alloc o1).cell? q := fun o1 o2 q hq => cell_old _ _ _ (by rw [alloc_sz]; exact hq)
  have o3 : ∀ (o1 o2 o3 : Obj) (q : Addr), q.block < w.heap.size + 2 → ((((w.alloc o1).alloc o2).alloc o3).cell? q) = ((w.alloc o1).alloc o2).cell? q := fun o1 o2 o3 q hq => cell_old _ _ _ (by rw [alloc_sz, alloc_sz]; exact hq)
  have n2 : ∀ (o1 : Obj) (cs : Array Value) (t : TypeId) (i : Nat), ((w.alloc o1).alloc (.cells cs t)).cell? ⟨w.heap.size + 1, i, none⟩ = cs[i]? := fun o1 cs t i => by have := cell_new (w.alloc o1) cs t i; rw [alloc_sz] at this; exact this
  have n3 : ∀ (o1 o2 : Obj) (cs : Array Value) (t : TypeId) (i : Nat), (((w.alloc o1).alloc o2).alloc (.cells cs t)).cell? ⟨w.heap.size + 2, i, none⟩ = cs[i]? := fun o1 o2 cs t i => by have := cell_new ((w.alloc o1).alloc o2) cs t i; rw [alloc_sz, alloc_sz] at this; exact this
  refine ⟨by rw [n3]; rfl, by rw [n3]; rfl, by rw [n3]; rfl, by rw [n3]; rfl, by rw [o3 _ _ _ _ (by show w.heap.size < _; omega), o2 _ _ _ (by show w.heap.size < _; omega), cell_new]; rfl, by rw [o3 _ _ _ _ (by show w.heap.size < _; omega), o2 _ _ _ (by show w.heap.size < _; omega), cell_new]; rfl, by rw [o3 _ _ _ _ (by show w.heap.size + 1 < _; omega), n2]; rfl, by rw [o3 _ _ _ _ (by show w.heap.size + 1 < _; omega), n2]; rfl, ?_, fun _ _ => rfl, fun _ _ h => .inl h, fun h => by omega, fun h => by omega, ?_, by simp only [alloc_sz]; omega, hwl, fun _ h => .inl h⟩
  ·exact h.keep fun i hi => by have := h.lt hi; rw [alloc_keep _ _ _ (by simp only [alloc_sz]; omega), alloc_keep _ _ _ (by simp only [alloc_sz]; omega), alloc_keep _ _ _ this]
  ·exact ⟨rfl, rfl, rfl, by simp only [alloc_sz]; omega, fun i hi _ => by rw [alloc_keep _ _ _ (by simp only [alloc_sz]; omega), alloc_keep _ _ _ (by simp only [alloc_sz]; omega), alloc_keep _ _ _ hi]⟩
 case round =>
  obtain ⟨k, hk, rfl, D', s⟩ := hrel
  obtain ⟨es, cl, F, ho⟩ := s.web.outer
  have hlo := ho.m.lt
  obtain ⟨c0, c1, c2, c3, e1, e2, e3, e4⟩ := And.intro s.c0 (And.intro s.c1 (And.intro s.c2 (And.intro s.c3 (And.intro s.e1 (And.intro s.e2 (And.intro s.e3 s.e4))))))
  obtain ⟨ka, hka⟩ := keyN na
  obtain ⟨kb, hkb⟩ := keyN nb
  have hz : ∀ u : World, (zeroValue 101).run Try.prog u = .ok (.map none) u := fun u => rfl
  rcases Nat.lt_or_ge k 1 with hk0 | hk0
  ·obtain rfl : k = 0 := by omega
   have hga : F (nv a) = (D' a).map encM := ho.get a
   cases hda : D' a with
   | none =>
    rw [hda] at hga
    go_wp2_with (first | (at_lookup; go_loud (refine wpList_lookup_F rfl _ _ _ rfl 81 101 K81 U79 (hz _) wb rfl (ho.m.same (by first | rfl | (rw [alloc_keep] <;> (try simp only [alloc_sz]) <;> omega))) (nv a) ka rfl hka ?_; rw [hga, Option.map_none, Option.getD_none])) | (at_mapUpdate; go_loud (refine wpList_mapUpdate_F rfl _ _ _ _ rfl 81 101 K81 U79 wb rfl (ho.m.same (by first | rfl | (rw [alloc_keep, alloc_keep] <;> (try simp only [alloc_sz]) <;> omega))) (nv a) (encM (wr.heap.size + 1)) ka rfl rfl hka ?_; intro w1 es1 cl1 h1 g1 z1)) | go_in)
    have gg : wr.grownBy w1 (some wb) := (World.grownBy_alloc wr _ _).trans ((World.grownBy_alloc _ _ _).trans g1)
    have s' := s.touch hda na (.inl rfl) (c := wr.heap.size + 1) (cl := 0) (by omega) (by
     rw [g1.block (wr.heap.size + 1) (by simp only [alloc_sz]; omega) (by intro e; injection e with e; omega)]
     have := (MapKept.heap_alloc (wr.alloc (.cells #[.int .i64 a.1, .bool a.2] 81)) (.map #[] 0)).1
     rw [alloc_sz] at this; exact this) ⟨_, _, _, ho.up h1⟩ gg
    exact ⟨⟨1, by omega, rfl, _, { s' with ha := fun _ => by rw [upd_same]; simp, hb := fun h => by omega }⟩, by decide⟩
   | some q =>
    rw [hda] at hga
    go_wp2_with (first | (at_lookup; go_loud (refine wpList_lookup_F rfl _ _ _ rfl 81 101 K81 U79 (hz _) wb rfl (ho.m.same (by first | rfl | (rw [alloc_keep] <;> (try simp only [alloc_sz]) <;> omega))) (nv a) ka rfl hka ?_; rw [hga, Option.map_some, Option.getD_some, show encM q = .map (some q) from rfl])) | go_in)
    have s' := s.grow (World.grownBy_alloc wr (.cells #[.int .i64 a.1, .bool a.2] 81) none)
    exact ⟨⟨1, by omega, rfl, _, { s' with ha := fun _ => by rw [hda]; simp, hb := fun h => by omega }⟩, by decide⟩
  ·rcases Nat.lt_or_ge k 2 with hk1 | hk1
   ·obtain rfl : k = 1 := by omega
    have hga : F (nv b) = (D' b).map encM := ho.get b
    cases hda : D' b with
    | none =>
     rw [hda] at hga
     go_wp2_with (first | (at_lookup; go_loud (refine wpList_lookup_F rfl _ _ _ rfl 81 101 K81 U79 (hz _) wb rfl (ho.m.same (by first | rfl | (rw [alloc_keep] <;> (try simp only [alloc_sz]) <;> omega))) (nv b) kb rfl hkb ?_; rw [hga, Option.map_none, Option.getD_none])) | (at_mapUpdate; go_loud (refine wpList_mapUpdate_F rfl _ _ _ _ rfl 81 101 K81 U79 wb rfl (ho.m.same (by first | rfl | (rw [alloc_keep, alloc_keep] <;> (try simp only [alloc_sz]) <;> omega))) (nv b) (encM (wr.heap.size + 1)) kb rfl rfl hkb ?_; intro w1 es1 cl1 h1 g1 z1)) | go_in)
     have gg : wr.grownBy w1 (some wb) := (World.grownBy_alloc wr _ _).trans ((World.grownBy_alloc _ _ _).trans g1)
     have s' := s.touch hda nb (.inr rfl) (c := wr.heap.size + 1) (cl := 0) (by omega) (by
      rw [g1.block (wr.heap.size + 1) (by simp only [alloc_sz]; omega) (by intro e; injection e with e; omega)]
      have := (MapKept.heap_alloc (wr.alloc (.cells #[.int .i64 b.1, .bool b.2] 81)) (.map #[] 0)).1
      rw [alloc_sz] at this; exact this) ⟨_, _, _, ho.up h1⟩ gg
     exact ⟨⟨2, by omega, rfl, _, { s' with ha := fun _ => s'.ha (by omega), hb := fun _ => by rw [upd_same]; simp }⟩, by decide⟩
    | some q =>
     rw [hda] at hga
     go_wp2_with (first | (at_lookup; go_loud (refine wpList_lookup_F rfl _ _ _ rfl 81 101 K81 U79 (hz _) wb rfl (ho.m.same (by first | rfl | (rw [alloc_keep] <;> (try simp only [alloc_sz]) <;> omega))) (nv b) kb rfl hkb ?_; rw [hga, Option.map_some, Option.getD_some, show encM q = .map (some q) from rfl])) | go_in)
     have s' := s.grow (World.grownBy_alloc wr (.cells #[.int .i64 b.1, .bool b.2] 81) none)
     exact ⟨⟨2, by omega, rfl, _, { s' with ha := fun _ => s'.ha (by omega), hb := fun _ => by rw [hda]; simp }⟩, by decide⟩
   ·obtain rfl : k = 2 := by omega
    have hga : F (nv a) = (D' a).map encM := ho.get a
    cases hda : D' a with
    | none => exact absurd hda (s.ha (by omega))
    | some q =>
    obtain ⟨hqw, g, ⟨es', cl', F', hi⟩, hgr, hgd⟩ := s.web.inner a q hda
    rw [hda] at hga
    have hl0 : (Instr.lookup 79 (.map (some wb)) (.agg #[.int .i64 a.1, .bool a.2]) false).run Try.prog wr.drew = .ok (.map (some q)) wr.drew := by
     have := (ho.m.same (w' := wr.drew) rfl).look K81 U79 (hz _) hka
     rw [hga] at this; exact this
    go_wp2_with fail
    go_still_tail 4, (by kernel_rfl)
    go_goals
    change wpList _ _ _ _ _ wr.drew
    refine wpList_mapUpdate_F rfl _ _ _ _ rfl 81 3 K81 U101 q rfl (hi.m.same (w' := wr.drew) rfl) (nv b) (encI 1) kb rfl rfl hkb ?_
    intro w2 es2 cl2 h2 g2 z2
    go_wp2
    go_end0
    have sz : wr.heap.size ≤ w2.heap.size := g2.size
    have hb2 : ∀ i, i < wr.heap.size → i ≠ q → w2.heap[i]? = wr.heap[i]? := fun i hi hne => g2.block i hi (fun e => by injection e with e; exact hne e)
    refine ⟨⟨_, rfl⟩, D', s.web.set hda (s.hb (by omega)) hi ⟨_, _, _, hi.up h2⟩ (fun i hi hne => hb2 i (s.web.lt hi) hne), ⟨s.old, fun x c hc => (s.new x c hc).imp id fun h => by omega, ?_⟩, s.on⟩
    refine ⟨g2.os.trans s.fr.os, g2.tape.trans s.fr.tape, g2.output.trans s.fr.output, Nat.le_trans s.fr.size sz, fun i hi hn => (hb2 i (by have := s.fr.size; omega) fun e => ?_).trans (s.fr.block i hi hn)⟩
    subst e
    rcases s.new a i hda with h' | h'
    ·exact hn (.inr ⟨a, h'⟩)
    ·omega
end Go.Proofs.Ytiemlgicaibccaa
