/- Calls on plain data (CallOK), one operation of a region (Stp) and its soundness. No condition of its own: over any program. -/
import Derived.Test.YtiemlgicaibccaaPvJ
set_option linter.all false
namespace Go.Pv
open Go.RowKit
abbrev Cks := List (Nat × Ck)
def puts (H : Hp) (l : Cks) : Hp := l.foldl (fun H x => H.put x.1 (some x.2)) H
def ofL (l : Cks) : Hp := puts Hp.emp l
theorem puts_cons (H : Hp) (x : Nat × Ck) (l : Cks) : puts H (x :: l) = puts (H.put x.1 (some x.2)) l := rfl
theorem puts_one : ∀ (l : Cks) (o : Nat), (∃ ck, (o, ck) ∈ l ∧ ∀ H, puts H l o = some ck) ∨ (∀ H, puts H l o = H o)
 | [], o => .inr fun H => rfl
 | x :: l, o => by
  rcases puts_one l o with ⟨ck, hm, h⟩ | h
  ·exact .inl ⟨ck, List.mem_cons_of_mem _ hm, fun H => by rw [puts_cons]; exact h _⟩
  ·by_cases hx : o = x.1
   ·subst hx; exact .inl ⟨x.2, by simp, fun H => by rw [puts_cons, h, Hp.put_same]⟩
   ·exact .inr fun H => by rw [puts_cons, h, Hp.put_ne _ _ _ hx]
theorem puts_split (l : Cks) (H : Hp) (o : Nat) : (ofL l o = none ∧ puts H l o = H o) ∨ (∃ ck, ofL l o = some ck ∧ puts H l o = some ck) := by
 rcases puts_one l o with ⟨ck, _, h⟩ | h
 ·exact .inr ⟨ck, h _, h _⟩
 ·exact .inl ⟨h _, h _⟩
theorem ofL_mem {l : Cks} {o : Nat} {ck : Ck} (h : ofL l o = some ck) : (o, ck) ∈ l := by
 rcases puts_one l o with ⟨ck', hm, h'⟩ | h'
 ·have := h' Hp.emp; unfold ofL at h; rw [h] at this; injection this with this; subst this; exact hm
 ·have := h' Hp.emp; unfold ofL at h; rw [h] at this; cases this
inductive Ids (S : Nat → Prop) : DV → Prop
 | v (x : Value) : Ids S (.v x)
 | any : Ids S .any
 | nn : Ids S .nn
 | gd (p : Bool) (d : DV) (h : Ids S d) : Ids S (.gd p d)
 | ptr (o g i off : Nat) (h : S o) : Ids S (.ptr o g i off)
 | own (o g lo n : Nat) (h : S o) : Ids S (.own o g lo n)
 | lst (f : Bool) (xs : List (List DV)) (h : ∀ x, x ∈ xs → ∀ c, c ∈ x → Ids S c) : Ids S (.lst f xs)
 | rp (cs : List DV) (h : ∀ c, c ∈ cs → Ids S c) : Ids S (.rp cs)
 | agg (cs : List DV) (h : ∀ c, c ∈ cs → Ids S c) : Ids S (.agg cs)
 | tup (cs : List DV) (h : ∀ c, c ∈ cs → Ids S c) : Ids S (.tup cs)
 | fn (f : FuncId) (cs : List DV) (h : ∀ c, c ∈ cs → Ids S c) : Ids S (.fn f cs)
structure KpS (S : Nat → Prop) (H : Hp) (ps : Ps) (M : Nat → Prop) (nx : Nat) (w : World) (H' : Hp) (ps' : Ps) (M' : Nat → Prop) (nx' : Nat) (w' : World) : Prop where
 n : ∀ o, S o → o < nx → o < nx'
 hp : ∀ o, S o → o < nx → ∀ ck', H' o = some ck' → ∃ ck, H o = some ck ∧ (ck.gen < ck'.gen ∨ (ck.gen = ck'.gen ∧ ck.sz = ck'.sz ∧ ck.xs.length ≤ ck'.xs.length ∧ ps' o = ps o))
 mu : ∀ b, Mu H' ps' M' b → Mu H ps M b ∨ w.heap.size ≤ b
 mem : ∀ b, b < w.heap.size → ¬ Mu H ps M b → w'.heap[b]? = w.heap[b]?
theorem VR.monoS {S H ps M nx w H' ps' M' nx' w' d x} (h : VR H ps M nx w d x) (hi : Ids S d) (k : KpS S H ps M nx w H' ps' M' nx' w') : VR H' ps' M' nx' w' d x := by
 induction h with
 | v x => exact .v x
 | any x => exact .any x
 | nn t p => exact .nn t p
 | gd p d x h h2 ih => cases hi with | gd _ _ hi => exact .gd p d x (fun e => ih e hi) h2
 | ptr o g i off x h0 h1 h =>
  cases hi with
  | ptr _ _ _ _ hs =>
  refine .ptr o g i off x (k.n o hs h0) h1 fun ck' hck' => ?_
  obtain ⟨ck, hck, hg⟩ := k.hp o hs h0 ck' hck'
  obtain ⟨hle, hsame⟩ := h ck hck
  rcases hg with hg | ⟨hg, hsz, hlen, hps⟩
  ·exact ⟨by omega, fun e => by omega⟩
  ·refine ⟨by omega, fun e => ?_⟩
   obtain ⟨hi, p, hp, hx⟩ := hsame (by omega)
   exact ⟨by omega, p, by rw [hps]; exact hp, by rw [← hsz]; exact hx⟩
 | own o g lo n x h0 h1 h =>
  cases hi with
  | own _ _ _ _ hs =>
  refine .own o g lo n x (k.n o hs h0) h1 fun ck' hck' => ?_
  obtain ⟨ck, hck, hg⟩ := k.hp o hs h0 ck' hck'
  obtain ⟨hle, hsame⟩ := h ck hck
  rcases hg with hg | ⟨hg, hsz, hlen, hps⟩
  ·exact ⟨by omega, fun e => by omega⟩
  ·refine ⟨by omega, fun e => ?_⟩
   obtain ⟨hi, a, cap, hx, hn, hcap⟩ := hsame (by omega)
   refine ⟨by omega, a, cap, hx, hn, ?_⟩
   rcases hcap with hcap | ⟨p, hp, ha, ht⟩
   ·exact .inl hcap
   ·exact .inr ⟨p, by rw [hps]; exact hp, by rw [← hsz]; exact ha, by rw [← hsz]; exact ht⟩
 | rp cs b off vs hM h1 hc hv ih =>
  cases hi with
  | rp _ hs =>
  refine .rp cs b off vs (fun hne hmu => ?_) h1 (fun j hj => ?_) (fun j hj => ih j hj (hs _ (List.getElem_mem hj)))
  ·have hp : 0 < cs.length := List.length_pos_iff.2 hne
   have := lt_size_of_cell (hc 0 hp)
   rcases k.mu b hmu with h | h
   ·exact hM hne h
   ·simp at this; omega
  ·have hne : cs ≠ [] := by intro e; simp [e] at hj
   have hb := lt_size_of_cell (hc j hj)
   rw [World.cell?_of_block (w := w) (k.mem b hb (hM hne))]; exact hc j hj
 | lnil full a cap hf => exact .lnil full a cap hf
 | lst full xs b off cap sz vs hne hs hcap hf hM hz h1 hc hv ih =>
  cases hi with
  | lst _ _ hss =>
  have hb : b < w.heap.size := lt_size_of_cell (hc 0 0 (List.length_pos_iff.2 hne) hs)
  refine .lst full xs b off cap sz vs hne hs hcap hf (fun hmu => ?_) hz h1 (fun i j hi hj => ?_) (fun i j hi hj => ih i j hi hj (hss _ (List.getElem_mem hi) _ (List.getElem_mem hj)))
  ·rcases k.mu b hmu with h | h
   ·exact hM h
   ·omega
  ·rw [World.cell?_of_block (w := w) (k.mem b hb hM)]; exact hc i j hi hj
 | agg cs vs hl h1 hv ih => cases hi with | agg _ hs => exact .agg cs vs hl h1 (fun j hj => ih j hj (hs _ (List.getElem_mem hj)))
 | tup cs vs hl hv ih => cases hi with | tup _ hs => exact .tup cs vs hl (fun j hj => ih j hj (hs _ (List.getElem_mem hj)))
 | fn f cs vs hl hv ih => cases hi with | fn _ _ hs => exact .fn f cs vs hl (fun j hj => ih j hj (hs _ (List.getElem_mem hj)))
def glNames : List String := ["internal/strconv.uint64pow10", "strconv.ErrSyntax", "strconv.ErrRange"]
def GlIs (nm : String) (cs : Array Value) : Prop := (nm = "internal/strconv.uint64pow10" → cs = (((List.range 20).map fun i => ((10 ^ i : Nat) : Int)).map fun z => Value.int .u64 z).toArray) ∧ (nm ≠ "internal/strconv.uint64pow10" → ∃ t p, cs = #[.iface t p])
def GlOK (P : Program) (w : World) (L : Nat → Prop) : Prop := ∀ nm, nm ∈ glNames → ∀ g, P.globalNamed nm = some g → g < w.heap.size ∧ ¬ L g ∧ ∃ cs t f, w.heap[g]? = some (.cells cs t f) ∧ GlIs nm cs
theorem GlOK.of {P : Program} {w0 w : World} {B L : Nat → Prop} (h : GlOK P w0 B) (fr : Fr B w0 w) (hL : ∀ b, L b → B b ∨ w0.heap.size ≤ b) : GlOK P w L := fun nm hn g hg => by
 obtain ⟨h1, h2, cs, t, f, h3, h4⟩ := h nm hn g hg
 refine ⟨Nat.lt_of_lt_of_le h1 fr.size, fun hl => ?_, cs, t, f, by rw [fr.block g h1 h2]; exact h3, h4⟩
 rcases hL g hl with k | k
 ·exact h2 k
 ·omega
theorem GlOK.less {P : Program} {w : World} {L L' : Nat → Prop} (h : GlOK P w L) (hL : ∀ b, L' b → L b) : GlOK P w L' := fun nm hn g hg => by
 obtain ⟨h1, h2, h3⟩ := h nm hn g hg
 exact ⟨h1, fun hl => h2 (hL g hl), h3⟩
theorem GlOK.none {P : Program} {w : World} {L : Nat → Prop} (h : (glNames.all fun nm => (P.globalNamed nm).isNone) = true) : GlOK P w L := fun nm hn g hg => by
 have := List.all_eq_true.1 h nm hn
 rw [hg] at this; cases this
structure Hm (P : Program) (cx : Cx) : Prop where
 m : P.follows .mixedOrders = true
 g : GlOK P cx.w0 cx.B
structure CallOK (P : Program) (f : FuncId) (args : List DV) (pre : Cks) (nb : Nat) (res : DV) (post : Cks) (nx' : Nat) : Prop where
 fn : ∃ fn, P.funcs[f]? = some fn ∧ (fn.name == "runtime.NumGoroutine") = false ∧ fn.body.isNone = false
 keep : ∀ o ck, ofL pre o = some ck → ∃ ck', ofL post o = some ck'
 old : ∀ o ck', ofL post o = some ck' → o < nb → ∃ ck, ofL pre o = some ck
 le : nb ≤ nx'
 ids : Ids (fun o => (∃ ck, ofL post o = some ck) ∨ (nb ≤ o ∧ o < nx')) res
 idp : ∀ o ck, ofL post o = some ck → ∀ x, x ∈ ck.xs → ∀ c, c ∈ x → Ids (fun o => (∃ ck, ofL post o = some ck) ∨ (nb ≤ o ∧ o < nx')) c
 run : ∀ (M : Nat → Prop) (ps : Ps) (w : World) (cargs : Array Value), HR (ofL pre) ps M nb w → cargs.size = args.length → (∀ j (hj : j < args.length), VR (ofL pre) ps M nb w args[j] (cargs.getD j undef)) → GlOK P w (Live (ofL pre) ps) →
  Calls P f cargs w fun e w' => ∃ v ps', e = .returned v ∧ VR (ofL post) ps' M nx' w' res v ∧ HR (ofL post) ps' M nx' w' ∧ Fr (Live (ofL pre) ps) w w' ∧
   (∀ o ck p, ofL post o = some ck → ps' o = some p → Live (ofL pre) ps p.b ∨ w.heap.size ≤ p.b) ∧
   (∀ o, o < nb → ∀ ck', ofL post o = some ck' → ∃ ck, ofL pre o = some ck ∧ Later ps ps' o ck ck')
theorem CallOK.calls {P : Program} {f : FuncId} {args : List DV} {pre : Cks} {nb : Nat} {res : DV} {post : Cks} {nx' : Nat} (h : CallOK P f args pre nb res post nx') {cx : Cx} (hg : GlOK P cx.w0 cx.B) {H : Hp} {ps : Ps} {w : World} (hr : HR H ps cx.M nb w) (fr : Fr cx.B cx.w0 w)
  (lb : ∀ o ck p, H o = some ck → ps o = some p → cx.B p.b ∨ cx.w0.heap.size ≤ p.b) (hpre : ∀ o ck, ofL pre o = some ck → H o = some ck) (cargs : Array Value) (hl : cargs.size = args.length)
  (ha : ∀ j (hj : j < args.length), VR H ps cx.M nb w args[j] (cargs.getD j undef)) :
  Calls P f cargs w fun e w' => ∃ v ps', e = .returned v ∧ VR (puts H post) ps' cx.M nx' w' res v ∧ Mv cx H ps nb w (puts H post) ps' nx' w' := by
 let M' : Nat → Prop := fun b => cx.M b ∨ (Live H ps b ∧ ¬ Live (ofL pre) ps b)
 have hlive : ∀ b, Live (ofL pre) ps b → Live H ps b := fun b ⟨o, ck, p, h1, h2, h3⟩ => ⟨o, ck, p, hpre o ck h1, h2, h3⟩
 have hmu : ∀ b, Mu (ofL pre) ps M' b ↔ Mu H ps cx.M b := by
  intro b
  constructor
  ·rintro ((h | h) | h)
   ·exact .inl h
   ·exact .inr h.1
   ·exact .inr (hlive b h)
  ·rintro (h | h)
   ·exact .inl (.inl h)
   ·by_cases h' : Live (ofL pre) ps b
    ·exact .inr h'
    ·exact .inl (.inr ⟨h, h'⟩)
 have kp0 : Kp H ps cx.M nb w (ofL pre) ps M' nb w :=
  ⟨Nat.le_refl _, fun o _ ck' hk => ⟨ck', hpre o ck' hk, .inr ⟨rfl, rfl, Nat.le_refl _, rfl⟩⟩, fun b hb => .inl ((hmu b).1 hb), fun _ _ _ => rfl⟩
 have hr0 : HR (ofL pre) ps M' nb w := by
  refine ⟨fun o ck ho => hr.lt o ck (hpre o ck ho), fun o ck ho => (hr.cr o ck (hpre o ck ho)).mono kp0 rfl fun _ _ => rfl, fun o o' ck ck' p p' h1 h2 => hr.inj o o' ck ck' p p' (hpre _ _ h1) (hpre _ _ h2), ?_, ?_⟩
  ·rintro b (hb | ⟨⟨o, ck, p, h1, h2, h3⟩, _⟩)
   ·exact hr.ml b hb
   ·rw [← h3]; exact hr.live_lt h1 h2
  ·intro o ck p h1 h2 hM
   rcases hM with hM | ⟨_, hM⟩
   ·exact hr.dj o ck p (hpre o ck h1) h2 hM
   ·exact hM ⟨o, ck, p, h1, h2, rfl⟩
 refine (h.run M' ps w cargs hr0 hl (fun j hj => (ha j hj).mono kp0) (hg.of fr fun b ⟨o, ck, p, h1, h2, h3⟩ => h3 ▸ lb o ck p (hpre o ck h1) h2)).mono ?_
 rintro e w' ⟨v, ps', rfl, hv, hr', fr', lb', gm⟩
 let ps2 : Ps := fun o => match ofL post o with | some _ => ps' o | none => ps o
 have ps2_in : ∀ o ck, ofL post o = some ck → ps2 o = ps' o := by intro o ck h; simp only [ps2, h]
 have ps2_out : ∀ o, ofL post o = none → ps2 o = ps o := by intro o h; simp only [ps2, h]
 have notpre : ∀ o, ofL post o = none → ofL pre o = none := by
  intro o ho
  cases hq : ofL pre o with
  | none => rfl
  | some ck => obtain ⟨ck', hk⟩ := h.keep o ck hq; rw [ho] at hk; cases hk
 have liveb : ∀ b, Live (puts H post) ps2 b → Live H ps b ∨ w.heap.size ≤ b := by
  rintro b ⟨o, ck, p, h1, h2, rfl⟩
  rcases puts_split post H o with ⟨q1, q2⟩ | ⟨ck', q1, q2⟩
  ·rw [q2] at h1; rw [ps2_out o q1] at h2; exact .inl ⟨o, ck, p, h1, h2, rfl⟩
  ·rw [ps2_in o ck' q1] at h2
   rcases lb' o ck' p q1 h2 with h | h
   ·exact .inl (hlive _ h)
   ·exact .inr h
 have kp : Kp H ps cx.M nb w (puts H post) ps2 cx.M nx' w' := by
  refine ⟨h.le, fun o ho ck' hk => ?_, fun b hb => ?_, fun b hb hm => ?_⟩
  ·rcases puts_split post H o with ⟨q1, q2⟩ | ⟨ck2, q1, q2⟩
   ·rw [q2] at hk; exact ⟨ck', hk, .inr ⟨rfl, rfl, Nat.le_refl _, ps2_out o q1⟩⟩
   ·rw [q2] at hk; injection hk with hk; subst hk
    obtain ⟨ck, g1, g2⟩ := gm o ho ck2 q1
    exact ⟨ck, hpre o ck g1, by rw [ps2_in o ck2 q1]; exact g2⟩
  ·rcases hb with hb | hb
   ·exact .inl (.inl hb)
   ·rcases liveb b hb with h | h
    ·exact .inl (.inr h)
    ·exact .inr h
  ·exact fr'.block b hb fun hl => hm (.inr (hlive b hl))
 have kpS : KpS (fun o => (∃ ck, ofL post o = some ck) ∨ (nb ≤ o ∧ o < nx')) (ofL post) ps' M' nx' w' (puts H post) ps2 cx.M nx' w' := by
  refine ⟨fun o _ h => h, fun o hs _ ck' hk => ?_, fun b hb => ?_, fun _ _ _ => rfl⟩
  ·rcases puts_split post H o with ⟨q1, q2⟩ | ⟨ck2, q1, q2⟩
   ·rcases hs with ⟨ck, hs⟩ | hs
    ·rw [q1] at hs; cases hs
    ·rw [q2] at hk; have := hr.lt o ck' hk; omega
   ·rw [q2] at hk; injection hk with hk; subst hk
    exact ⟨ck2, q1, .inr ⟨rfl, rfl, Nat.le_refl _, ps2_in o ck2 q1⟩⟩
  ·rcases hb with hb | ⟨o, ck, p, h1, h2, rfl⟩
   ·exact .inl (.inl (.inl hb))
   ·rcases puts_split post H o with ⟨q1, q2⟩ | ⟨ck2, q1, q2⟩
    ·rw [q2] at h1; rw [ps2_out o q1] at h2
     refine .inl (.inl (.inr ⟨⟨o, ck, p, h1, h2, rfl⟩, ?_⟩))
     rintro ⟨o', ck', p', g1, g2, g3⟩
     have := hr.inj o o' ck ck' p p' h1 (hpre o' ck' g1) h2 g2 g3.symm
     subst this
     rw [notpre o q1] at g1; cases g1
    ·rw [ps2_in o ck2 q1] at h2
     exact .inl (.inr ⟨o, ck2, p, q1, h2, rfl⟩)
 refine ⟨v, ps2, rfl, hv.monoS h.ids kpS, kp, ⟨?_, ?_, ?_, ?_, ?_⟩, ⟨fr'.os.trans fr.os, fr'.tape.trans fr.tape, fr'.output.trans fr.output, Nat.le_trans fr.size fr'.size, ?_⟩, ?_⟩
 ·intro o ck ho
  rcases puts_split post H o with ⟨q1, q2⟩ | ⟨ck2, q1, q2⟩
  ·rw [q2] at ho; exact Nat.lt_of_lt_of_le (hr.lt o ck ho) h.le
  ·exact hr'.lt o ck2 q1
 ·intro o ck ho
  rcases puts_split post H o with ⟨q1, q2⟩ | ⟨ck2, q1, q2⟩
  ·rw [q2] at ho
   refine (hr.cr o ck ho).mono kp (ps2_out o q1) fun p hp => fr'.block _ (hr.live_lt ho hp) ?_
   rintro ⟨o', ck', p', g1, g2, g3⟩
   have := hr.inj o o' ck ck' p p' ho (hpre o' ck' g1) hp g2 g3.symm
   subst this
   rw [notpre o q1] at g1; cases g1
  ·rw [q2] at ho; injection ho with ho; subst ho
   rcases hr'.cr o ck2 q1 with ⟨g1, g2⟩ | ⟨p, c, E, vs, g1, g2, g3, g4, g5, g6, g7⟩
   ·exact .inl ⟨by rw [ps2_in o ck2 q1]; exact g1, g2⟩
   ·exact .inr ⟨p, c, E, vs, by rw [ps2_in o ck2 q1]; exact g1, g2, g3, g4, g5, g6, fun i j hi hj => (g7 i j hi hj).monoS (h.idp o ck2 q1 _ (List.getElem_mem hi) _ (List.getElem_mem hj)) kpS⟩
 ·intro o1 o2 ck1 ck2 p1 p2 h1 h2 g1 g2 e
  rcases puts_split post H o1 with ⟨a1, a2⟩ | ⟨c1, a1, a2⟩ <;> rcases puts_split post H o2 with ⟨b1, b2⟩ | ⟨c2, b1, b2⟩
  ·rw [a2] at h1; rw [b2] at h2; rw [ps2_out _ a1] at g1; rw [ps2_out _ b1] at g2
   exact hr.inj o1 o2 ck1 ck2 p1 p2 h1 h2 g1 g2 e
  ·rw [a2] at h1; rw [ps2_out _ a1] at g1; rw [ps2_in _ _ b1] at g2
   exfalso
   rcases lb' o2 c2 p2 b1 g2 with ⟨o', ck', p', k1, k2, k3⟩ | k
   ·have := hr.inj o1 o' ck1 ck' p1 p' h1 (hpre o' ck' k1) g1 k2 (e.trans k3.symm)
    subst this
    rw [notpre o1 a1] at k1; cases k1
   ·have := hr.live_lt h1 g1; omega
  ·rw [b2] at h2; rw [ps2_out _ b1] at g2; rw [ps2_in _ _ a1] at g1
   exfalso
   rcases lb' o1 c1 p1 a1 g1 with ⟨o', ck', p', k1, k2, k3⟩ | k
   ·have := hr.inj o2 o' ck2 ck' p2 p' h2 (hpre o' ck' k1) g2 k2 (e.symm.trans k3.symm)
    subst this
    rw [notpre o2 b1] at k1; cases k1
   ·have := hr.live_lt h2 g2; omega
  ·rw [ps2_in _ _ a1] at g1; rw [ps2_in _ _ b1] at g2
   exact hr'.inj o1 o2 c1 c2 p1 p2 a1 b1 g1 g2 e
 ·exact fun b hb => Nat.lt_of_lt_of_le (hr.ml b hb) fr'.size
 ·intro o ck p h1 h2
  rcases puts_split post H o with ⟨a1, a2⟩ | ⟨c1, a1, a2⟩
  ·rw [a2] at h1; rw [ps2_out _ a1] at h2; exact hr.dj o ck p h1 h2
  ·rw [ps2_in _ _ a1] at h2
   exact fun hM => hr'.dj o c1 p a1 h2 (.inl hM)
 ·intro b hb hB
  rw [fr'.block b (Nat.lt_of_lt_of_le hb fr.size) ?_, fr.block b hb hB]
  rintro ⟨o, ck, p, h1, h2, h3⟩
  subst h3
  rcases lb o ck p (hpre o ck h1) h2 with h | h
  ·exact hB h
  ·omega
 ·intro o ck p h1 h2
  rcases puts_split post H o with ⟨a1, a2⟩ | ⟨c1, a1, a2⟩
  ·rw [a2] at h1; rw [ps2_out _ a1] at h2; exact lb o ck p h1 h2
  ·rw [ps2_in _ _ a1] at h2
   rcases lb' o c1 p a1 h2 with ⟨o', ck', p', k1, k2, k3⟩ | k
   ·rw [← k3]; exact lb o' ck' p' (hpre o' ck' k1) k2
   ·exact .inr (Nat.le_trans fr.size k)
end Go.Pv
