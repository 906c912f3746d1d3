/- What a push says; its loop; rooms at an entry. No condition of its own. -/
import Derived.Test.YtiemlgicaibccaaAr
import Derived.StillTailTactics
import Derived.BigRegion
import Derived.LoopTactic
import Derived.Laws.StructEq
import Derived.ChangeKeysEq
set_option linter.all false
namespace Go.Proofs.Ytiemlgicaibccaa
open Go.Pv Go.ChangeMaps Go.Maps Go.Pv.Fw Go.MapKept
open Go.RowKit (intOf)
theorem eqN (a b : Nd) (u : World) : (binOp .eql 81 (.agg #[.int .i64 a.1, .bool a.2]) (.agg #[.int .i64 b.1, .bool b.2])).run Try.prog u = .ok (.bool (decide (a = b))) u := by
 have h : Try.prog.fieldsOf 81 = fs81 := by unfold Program.fieldsOf; rw [U81]
 have h1 : Try.prog.underlying 81 = some (.struct (Try.prog.fieldsOf 81)) := by rw [h]; exact U81
 have p3 : Try.prog.plainKey 3 = true := by unfold Program.plainKey; rw [U3]
 have p4 : Try.prog.plainKey 4 = true := by unfold Program.plainKey; rw [U4]
 have hd : ∀ u : World, (binOp .eql 81 (.agg #[.int .i64 a.1, .bool a.2]) (.agg #[.int .i64 b.1, .bool b.2])).run Try.prog u = ((do let r ← Op.equalIn Op.maxDepth 81 (.agg #[.int .i64 a.1, .bool a.2]) (.agg #[.int .i64 b.1, .bool b.2]); pure (Value.bool r)) : Sem Value).run Try.prog u := fun u => rfl
 obtain ⟨d, hm⟩ : ∃ d, Op.maxDepth = d + 2 := ⟨Op.maxDepth - 2, by decide⟩
 rw [hd]
 rw [hm]
 simp only [Sem.run_bind, run_equalIn_struct u (d + 1) 81 _ _ h1 (by kernel_rfl), h]
 have x3 : ∀ (n : Int) (q : Bool) (w : World), (part 3 #[.int .i64 n, .bool q] 0).run Try.prog w = .ok (.int .i64 n) w := fun n q w => run_part_plain _ p3 rfl
 have x4 : ∀ (n : Int) (q : Bool) (w : World), (part 4 #[.int .i64 n, .bool q] 1).run Try.prog w = .ok (.bool q) w := fun n q w => run_part_plain _ p4 rfl
 simp [fs81, Op.eqFields, x3, x4, Result.andThen, run_equalIn_int u d 3 .i64 .i64 _ _ U3, run_equalIn_bool' u d 4 _ _ U4]
 obtain ⟨a1, a2⟩ := a
 obtain ⟨b1, b2⟩ := b
 by_cases e1 : a1 = b1 <;> by_cases e2 : a2 = b2 <;> simp [e1, e2]
set_option maxRecDepth 1000000 in
theorem zero3 (u : World) : (zeroValue 3).run Try.prog u = .ok (.int .i64 0) u := rfl
theorem room_put {w : World} {q : Nat} {g : Nd → Option Int} {es : Array MapEntry} {cl : Nat} {F : Value → Option Value} (h : MapD w q encI g es cl F) {x : Nd} (hx : Nok x) (d : Int) :
  ∃ (st : Nat) (W2 W3 : World), (Instr.mapEntry 101 (.map (some q)) (.agg #[.int .i64 x.1, .bool x.2])).run Try.prog w = .ok (.tuple #[.int .i64 ((g x).getD 0), .int .i64 (st : Int)]) W2 ∧
   (Instr.lookup 101 (.map (some q)) (.agg #[.int .i64 x.1, .bool x.2]) false).run Try.prog w = .ok (.int .i64 ((g x).getD 0)) w ∧
   (Instr.lookup 101 (.map (some q)) (.agg #[.int .i64 x.1, .bool x.2]) false).run Try.prog W2 = .ok (.int .i64 ((g x).getD 0)) W2 ∧
   (Instr.entryStore 101 (.map (some q)) (.int .i64 (st : Int)) (.int .i64 d)).run Try.prog W2 = .ok () W3 ∧
   (∃ es cl F, MapD W3 q encI (upd g x d) es cl F) ∧ w.grownBy W3 (some q) ∧ W3.heap.size = w.heap.size := by
 obtain ⟨k, hk⟩ := keyN hx
 have hgx : (F (nv x)).getD (.int .i64 0) = .int .i64 ((g x).getD 0) := by
  rw [h.get]; cases g x <;> rfl
 obtain ⟨st, es1, cl1, h1, h2, h3⟩ := h.m.entry K81 U101 zero3 hk
 obtain ⟨es', h4, h5⟩ := h3 _ (encI d) h2.hb
 have l1 := h.m.look K81 U101 (zero3 w) hk
 have l2 := h2.look K81 U101 (zero3 _) hk
 rw [upF_same, Option.getD_some] at l2
 rw [hgx] at l1 l2 h1
 have h5' : MapD _ q encI (upd g x d) es' cl1 _ := MapD.up h h5
 exact ⟨st, _, _, h1, l1, l2, h4, ⟨_, _, _, h5'⟩, (grown_set _ _ _).trans (grown_set _ _ _), by simp [setBlock]⟩
def Sn (g : Nd → Option Bool) (x : Nd) : Prop := (g x).getD false = true
structure PushR (V : List Nd) (w w' : World) (wb sb : Nat) (a b : Nd) (r r' : Nd → Nd → Int) (D : Nd → Option Nat) (g g' : Nd → Option Bool) (res : Bool) : Prop where
 web : Web w' wb r' D
 seen : ∃ es cl F, MapD w' sb encB g' es cl F
 mono : ∀ x, Sn g x → Sn g' x
 fr : Fr (fun i => (res = true ∧ Dom wb D i) ∨ i = sb) w w'
 nn : res = true → ∀ x y, 0 ≤ r' x y
 two : res = true → ∀ x y, r' x y + r' y x ≤ 2
 out : res = true → ∀ X : Nd → Prop, Fw.out V X r' = Fw.out V X r - ind X a + ind X b
 stay : res = true → ∀ y z, Sn g y → r' y z = r y z
 same : res = false → r' = r
 shut : res = false → Sn g' a ∧ ∀ y, Sn g' y → ¬ Sn g y → y ≠ b ∧ ∀ z, 0 < r y z → Sn g' z
structure PushL (V : List Nd) (w wr : World) (wb sb rb : Nat) (a b : Nd) (r : Nd → Nd → Int) (D : Nd → Option Nat) (g g' : Nd → Option Bool) (es : Array MapEntry) (cl since c0 : Nat) (sn : Array Nat) (q : Nat) (ga : Nd → Option Int) (F : Value → Option Value) : Prop where
 web : Web wr wb r D
 seen : ∃ es cl F, MapD wr sb encB g' es cl F
 mono : ∀ x, Sn g x → Sn g' x
 ha : Sn g' a
 fr : Fr (fun i => i = sb) w wr
 shut : ∀ y, Sn g' y → ¬ Sn g y → y ≠ a → y ≠ b ∧ ∀ z, 0 < r y z → Sn g' z
 mp : MapD wr q encI ga es cl F
 it : IterF wr q rb es cl since c0 sn
 don : ∀ e, e ∈ es.toList → sn.contains e.born = true → ∀ x m, e.key = nv x → ga x = some m → 0 < m → Sn g' x
 e1 : wr.cell? ⟨w.heap.size, 0, none⟩ = some (.int .i64 a.1)
 e2 : wr.cell? ⟨w.heap.size, 1, none⟩ = some (.bool a.2)
 e3 : wr.cell? ⟨w.heap.size + 1, 0, none⟩ = some (.int .i64 b.1)
 e4 : wr.cell? ⟨w.heap.size + 1, 1, none⟩ = some (.bool b.2)
 rlt : rb < wr.heap.size
 rge : w.heap.size + 2 ≤ rb
theorem Fr.comp {B : Nat → Prop} {w w1 w2 : World} (f : Fr B w w1) (g : Fr B w1 w2) : Fr B w w2 :=
 ⟨g.os.trans f.os, g.tape.trans f.tape, g.output.trans f.output, Nat.le_trans f.size g.size, fun i hi hn => (g.block i (by have := f.size; omega) hn).trans (f.block i hi hn)⟩
theorem Fr.wide {B C : Nat → Prop} {w w1 : World} (f : Fr B w w1) (h : ∀ i, i < w.heap.size → B i → C i) : Fr C w w1 :=
 ⟨f.os, f.tape, f.output, f.size, fun i hi hn => f.block i hi fun hb => hn (h i hi hb)⟩
theorem Fr.grown {B : Nat → Prop} {w w1 : World} {row : Option Nat} (g : w.grownBy w1 row) (h : ∀ k, row = some k → k < w.heap.size → B k) : Fr B w w1 :=
 ⟨g.os, g.tape, g.output, g.size, fun i hi hn => g.block i hi fun e => hn (h i e.symm hi)⟩
theorem Fr.cell {B : Nat → Prop} {w w1 : World} (f : Fr B w w1) {p : Addr} {v : Value} (h : w.cell? p = some v) (hn : ¬ B p.block) : w1.cell? p = some v :=
 (World.cell?_of_block (f.block _ (World.block_lt_of_cell? w p h) hn)).trans h
theorem nodup_born : ∀ {l : List MapEntry}, (l.map (·.born)).Nodup → ∀ {x y : MapEntry}, x ∈ l → y ∈ l → x.born = y.born → x = y
 | [], _, _, _, h, _, _ => by cases h
 | c :: l, hn, x, y, hx, hy, e => by
  rw [List.map_cons, List.nodup_cons] at hn
  rcases List.mem_cons.1 hx with h1 | h1
  ·rcases List.mem_cons.1 hy with h2 | h2
   ·rw [h1, h2]
   ·exact absurd (List.mem_map.2 ⟨y, h2, by rw [← e, h1]⟩) hn.1
  ·rcases List.mem_cons.1 hy with h2 | h2
   ·exact absurd (List.mem_map.2 ⟨x, h1, by rw [e, h2]⟩) hn.1
   ·exact nodup_born hn.2 h1 h2 e
theorem PushL.step {V : List Nd} {w wr : World} {wb sb rb : Nat} {a b : Nd} {r : Nd → Nd → Int} {D : Nd → Option Nat} {g g' : Nd → Option Bool} {es : Array MapEntry} {cl c0 : Nat} {sn : Array Nat} {q : Nat} {ga : Nd → Option Int} {F : Value → Option Value}
  (L : PushL V w wr wb sb rb a b r D g g' es cl cl c0 sn q ga F) (hw : Web w wb r D) (hsb : ¬ Dom wb D sb) (hsl : sb < w.heap.size) (hq : ∃ a, D a = some q) {e : MapEntry} (he : e ∈ es.toList) {x : Nd} {m : Int} (hkx : e.key = nv x) (hgx : ga x = some m) {w4 w5 w6 : World}
  (i4 : IterF w4 q rb es cl cl cl (sn.push e.born)) (g4 : wr.grownBy w4 (some rb)) (g5 : w4.grownBy w5 none) {g'' : Nd → Option Bool} (seen6 : ∃ es cl F, MapD w6 sb encB g'' es cl F) (mono6 : ∀ y, Sn g' y → Sn g'' y) (fr6 : Fr (fun i => i = sb) w5 w6)
  (hx : 0 < m → Sn g'' x) (shut6 : ∀ y, Sn g'' y → ¬ Sn g' y → y ≠ b ∧ ∀ z, 0 < r y z → Sn g'' z) : PushL V w w6 wb sb rb a b r D g g'' es cl cl cl (sn.push e.born) q ga F := by
 have hge := L.rge
 have hrl := L.rlt
 have s4 := g4.size
 have s5 := g5.size
 have s6 := fr6.size
 have sw := L.fr.size
 have fr46 : Fr (fun i => i = sb) w4 w6 := Fr.comp (Fr.grown g5 (by simp)) fr6
 have old : ∀ i, i < w.heap.size → i ≠ sb → w6.heap[i]? = w.heap[i]? := fun i hi hn =>
  (fr46.block i (by omega) hn).trans ((g4.block i (by omega) (fun e => by injection e with e; omega)).trans (L.fr.block i hi hn))
 have late : ∀ i, w.heap.size ≤ i → i < w.heap.size + 2 → w6.heap[i]? = wr.heap[i]? := fun i h1 h2 =>
  (fr46.block i (by omega) (by omega)).trans (g4.block i (by omega) (fun e => by injection e with e; omega))
 have frw : Fr (fun i => i = sb) w w6 := ⟨fr46.os.trans (g4.os.trans L.fr.os), fr46.tape.trans (g4.tape.trans L.fr.tape), fr46.output.trans (g4.output.trans L.fr.output), by omega, fun i hi hn => old i hi hn⟩
 have keepc : ∀ (p : Addr) (v : Value), w.heap.size ≤ p.block → p.block < w.heap.size + 2 → wr.cell? p = some v → w6.cell? p = some v := fun p v h1 h2 h => (World.cell?_of_block (late _ h1 h2)).trans h
 have hqd : Dom wb D q := .inr hq
 have hqw := hw.lt hqd
 have hqs : q ≠ sb := fun e => hsb (e ▸ hqd)
 have hq6 : w6.heap[q]? = wr.heap[q]? := (fr46.block q (by omega) hqs).trans (g4.block q (by omega) (fun e => by injection e with e; omega))
 have hr6 : w6.heap[rb]? = w4.heap[rb]? := fr46.block rb (by omega) (fun e => by omega)
 refine ⟨hw.keep fun i hi => old i (hw.lt hi) (fun e => hsb (e ▸ hi)), seen6, fun y hy => mono6 y (L.mono y hy), mono6 a L.ha, frw, fun y hy hn hne => ?_, L.mp.same hq6, ⟨hr6.trans i4.hr, i4.hold, i4.hsc, i4.hsk⟩, fun e' he' hc y n hy hn hp => ?_,
  keepc _ _ (Nat.le_refl _) (by show w.heap.size < _; omega) L.e1, keepc _ _ (Nat.le_refl _) (by show w.heap.size < _; omega) L.e2, keepc _ _ (by show w.heap.size ≤ w.heap.size + 1; omega) (by show w.heap.size + 1 < _; omega) L.e3, keepc _ _ (by show w.heap.size ≤ w.heap.size + 1; omega) (by show w.heap.size + 1 < _; omega) L.e4, by omega, hge⟩
 ·by_cases h : Sn g' y
  ·obtain ⟨h1, h2⟩ := L.shut y h hn hne
   exact ⟨h1, fun z hz => mono6 z (h2 z hz)⟩
  ·exact shut6 y hy h
 ·by_cases h : sn.contains e'.born = true
  ·exact mono6 y (L.don e' he' h y n hy hn hp)
  ·have hb : e'.born = e.born := by
    simp only [Array.contains_push, Bool.or_eq_true, beq_iff_eq] at hc
    rcases hc with hc | hc
    ·exact absurd hc h
    ·exact hc
   have he1 : e' = e := by
    have hnd := ((stamped_iff es cl).1 L.mp.m.st).2.1
    exact nodup_born hnd he' he hb
   subst he1
   rw [hkx] at hy
   have := nv_inj hy
   subst this
   rw [hgx] at hn; injection hn with hn; subst hn
   exact hx hp
end Go.Proofs.Ytiemlgicaibccaa
