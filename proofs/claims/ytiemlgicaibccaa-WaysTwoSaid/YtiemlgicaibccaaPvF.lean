/- Equality of structs, slices of slices, indices: sound. No condition of its own: lemmas over any program. -/
import Derived.Test.YtiemlgicaibccaaPvE
set_option linter.all false
namespace Go.Pv
open Go.RowKit
def veq : Nat → Value → Value → Option Bool
 | 1, .int k a, .int k' b => if k = k' then some (a == b) else none
 | 0, .bool a, .bool b => some (a == b)
 | 2, .string a, .string b => some (a == b)
 | _, _, _ => none
def veqs (xs ys : Array Value) : List (Nat × Nat) → Option Bool
 | [] => some true
 | o :: r => match veq o.2 (xs.getD o.1 undef) (ys.getD o.1 undef), veqs xs ys r with
  | some a, some b => some (a && b)
  | _, _ => none
theorem veqs_append (xs ys : Array Value) : ∀ (l r : List (Nat × Nat)) (b : Bool), veqs xs ys (l ++ r) = some b → ∃ b1 b2, veqs xs ys l = some b1 ∧ veqs xs ys r = some b2 ∧ b = (b1 && b2)
 | [], r, b, h => ⟨true, b, rfl, h, by simp⟩
 | o :: l, r, b, h => by
  simp only [List.cons_append, veqs] at h
  cases h1 : veq o.2 (xs.getD o.1 undef) (ys.getD o.1 undef) with
  | none => simp only [h1] at h; cases h
  | some c =>
   cases h2 : veqs xs ys (l ++ r) with
   | none => simp only [h1, h2] at h; cases h
   | some e =>
    simp only [h1, h2, Option.some.injEq] at h; subst h
    obtain ⟨b1, b2, k1, k2, k3⟩ := veqs_append xs ys l r e h2
    exact ⟨c && b1, b2, by simp only [veqs, h1, k1], k2, by rw [k3, Bool.and_assoc]⟩
theorem veqs_extract (xs ys : Array Value) (off n : Nat) : ∀ (l : List (Nat × Nat)), l.all (fun x => decide (x.1 < n)) = true →
  veqs (xs.extract off (off + n)) (ys.extract off (off + n)) l = veqs xs ys (l.map fun x => (off + x.1, x.2))
 | [], _ => rfl
 | o :: l, h => by
  simp only [List.all_cons, Bool.and_eq_true, decide_eq_true_eq] at h
  have hg : ∀ zs : Array Value, (zs.extract off (off + n)).getD o.1 undef = zs.getD (off + o.1) undef := by
   intro zs
   simp only [Array.getD_eq_getD_getElem?, Array.getElem?_extract]
   by_cases hlt : o.1 < min (off + n) zs.size - off
   ·simp [hlt]
   ·have : zs.size ≤ off + o.1 := by omega
    simp [hlt, Array.getElem?_eq_none this]
  simp only [List.map_cons, veqs, hg, veqs_extract xs ys off n l h.2]
theorem veq_size {k : Nat} {xs ys : Array Value} {o : Nat} {b : Bool} (h : veq k (xs.getD o undef) (ys.getD o undef) = some b) : o < xs.size ∧ o < ys.size := by
 constructor
 ·rcases Nat.lt_or_ge o xs.size with h' | h'
  ·exact h'
  ·rw [show xs.getD o undef = undef by simp [Array.getD_eq_getD_getElem?, Array.getElem?_eq_none h']] at h
   unfold veq at h; split at h <;> simp_all [undef]
 ·rcases Nat.lt_or_ge o ys.size with h' | h'
  ·exact h'
  ·rw [show ys.getD o undef = undef by simp [Array.getD_eq_getD_getElem?, Array.getElem?_eq_none h']] at h
   unfold veq at h; split at h <;> simp_all [undef]
theorem veq_one {k : Nat} {x y : Value} {b : Bool} (h : (match veq k x y, (some true : Option Bool) with | some a, some b => some (a && b) | _, _ => none) = some b) : veq k x y = some b := by
 cases hq : veq k x y with
 | none => simp only [hq] at h; cases h
 | some c => simp only [hq, Option.some.injEq, Bool.and_true] at h; rw [h]
theorem veq0 {x y : Value} {b : Bool} (h : veq 0 x y = some b) : ∃ a c, x = .bool a ∧ y = .bool c ∧ b = (a == c) := by
 cases x <;> cases y <;> simp [veq] at h
 exact ⟨_, _, rfl, rfl, by simp [h]⟩
theorem veq1 {x y : Value} {b : Bool} (h : veq 1 x y = some b) : ∃ k a c, x = .int k a ∧ y = .int k c ∧ b = (a == c) := by
 cases x <;> cases y <;> simp [veq] at h
 obtain ⟨rfl, h⟩ := h
 exact ⟨_, _, _, rfl, rfl, by simp [h]⟩
theorem veq2 {x y : Value} {b : Bool} (h : veq 2 x y = some b) : ∃ a c, x = .string a ∧ y = .string c ∧ b = (a == c) := by
 cases x <;> cases y <;> simp [veq] at h
 exact ⟨_, _, rfl, rfl, by simp [h]⟩
theorem cells_getD0 {x : Value} (h : ∀ cs, x ≠ .agg cs) : x.cells.getD 0 undef = x := by
 cases x <;> first | rfl | exact absurd rfl (h _)
section
variable {P : Program}
theorem run_part_agg {t : TypeId} {n : Nat} (h1 : aggT P t = some true) (h2 : sizeT P t = some n) (cs : Array Value) (off : Nat) (w : World) : (part t cs off).run P w = .ok (.agg (cs.extract off (off + n))) w := by
 simp [part, run_isAgg h1, run_sizeT h2]
theorem run_part_cell {t : TypeId} (h1 : aggT P t = some false) (cs : Array Value) (off : Nat) (hoff : off < cs.size) (w : World) : (part t cs off).run P w = .ok (cs.getD off undef) w := by
 simp [part, run_isAgg h1, hoff, Array.getD]
theorem equalIn_flat (w : World) : ∀ (d : Nat) (t : TypeId) (offs : List (Nat × Nat)), flat P d t = some offs → ∀ D, d ≤ D → ∀ (x y : Value) (b : Bool),
  ((∃ fs, P.underlying t = some (.struct fs)) → ∃ xs ys, x = .agg xs ∧ y = .agg ys) → ((∀ fs, P.underlying t ≠ some (.struct fs)) → (∀ cs, x ≠ .agg cs) ∧ ∀ cs, y ≠ .agg cs) →
  veqs x.cells y.cells offs = some b → (Op.equalIn D t x y).run P w = .ok b w := by
 intro d
 induction d with
 | zero => intro t offs h; simp [flat] at h
 | succ d ih =>
  intro t offs h D hD x y b hs hns hv
  obtain ⟨D, rfl⟩ : ∃ D', D = D' + 1 := ⟨D - 1, by omega⟩
  simp only [flat] at h
  split at h
  ·rename_i hu
   injection h with h; subst h
   obtain ⟨n1, n2⟩ := hns (by simp [hu])
   simp only [veqs, cells_getD0 n1, cells_getD0 n2] at hv
   obtain ⟨a, c, rfl, rfl, rfl⟩ := veq0 (veq_one hv)
   simp [Op.equalIn, run_underlying hu]
  ·rename_i k hu
   injection h with h; subst h
   obtain ⟨n1, n2⟩ := hns (by simp [hu])
   simp only [veqs, cells_getD0 n1, cells_getD0 n2] at hv
   obtain ⟨k', a, c, rfl, rfl, rfl⟩ := veq1 (veq_one hv)
   simp [Op.equalIn, run_underlying hu]
  ·rename_i hu
   injection h with h; subst h
   obtain ⟨n1, n2⟩ := hns (by simp [hu])
   simp only [veqs, cells_getD0 n1, cells_getD0 n2] at hv
   obtain ⟨a, c, rfl, rfl, rfl⟩ := veq2 (veq_one hv)
   simp [Op.equalIn, run_underlying hu]
  ·rename_i fs hu
   split at h
   ·cases h
   ·rename_i hst
    obtain ⟨xs, ys, rfl, rfl⟩ := hs ⟨fs, hu⟩
    have hf : P.fieldsOf t = fs := by simp [Program.fieldsOf, hu]
    rw [run_equalIn_struct w D t xs ys (by rw [hf]; exact hu) (by simpa using hst), hf]
    simp only [Value.cells] at hv
    clear hu hf hs hns hst
    generalize fs.toList = l at h
    induction l generalizing offs b with
    | nil =>
     simp at h; subst h
     simp [veqs] at hv; subst hv
     simp [Op.eqFields]
    | cons f l ihl =>
     simp only [List.foldr_cons] at h
     split at h
     ·cases h
     ·rename_i r hr
      split at h
      ·cases h
      ·rename_i hname
       split at h
       ·rename_i lf n hlf hn
        split at h
        ·rename_i hall
         injection h with h; subst h
         obtain ⟨b1, b2, hv1, hv2, rfl⟩ := veqs_append xs ys _ _ b hv
         have hrest := ihl r b2 hv2 hr
         simp only [Op.eqFields, if_pos (show f.name ≠ "_" from hname), Sem.run_bind]
         have key : ∃ x' y', (part f.type xs f.offset).run P w = .ok x' w ∧ (part f.type ys f.offset).run P w = .ok y' w ∧ (Op.equalIn D f.type x' y').run P w = .ok b1 w := by
          by_cases hag : ∃ gs, P.underlying f.type = some (.struct gs)
          ·obtain ⟨gs, hgs⟩ := hag
           have ha : aggT P f.type = some true := by simp [aggT, hgs]
           refine ⟨_, _, run_part_agg ha hn xs _ w, run_part_agg ha hn ys _ w, ih f.type lf hlf D (by omega) _ _ b1 (fun _ => ⟨_, _, rfl, rfl⟩) (fun hh => absurd hgs (hh gs)) ?_⟩
           simp only [Value.cells]
           rw [veqs_extract xs ys f.offset n lf hall]; exact hv1
          ·have hlf' := hlf
           cases d with
           | zero => simp [flat] at hlf
           | succ d =>
            simp only [flat] at hlf
            have fin : ∀ k, lf = [(0, k)] → aggT P f.type = some false → (∀ b, veq k (xs.getD (f.offset + 0) undef) (ys.getD (f.offset + 0) undef) = some b → (∀ cs, xs.getD f.offset undef ≠ .agg cs) ∧ ∀ cs, ys.getD f.offset undef ≠ .agg cs) →
              ∃ x' y', (part f.type xs f.offset).run P w = .ok x' w ∧ (part f.type ys f.offset).run P w = .ok y' w ∧ (Op.equalIn D f.type x' y').run P w = .ok b1 w := by
             intro k hk ha hna
             subst hk
             simp only [List.map_cons, List.map_nil, veqs] at hv1
             cases hq : veq k (xs.getD (f.offset + 0) undef) (ys.getD (f.offset + 0) undef) with
             | none => simp only [hq] at hv1; cases hv1
             | some c =>
              simp only [hq, Option.some.injEq, Bool.and_true] at hv1; subst hv1
              obtain ⟨s1, s2⟩ := veq_size hq
              obtain ⟨n1, n2⟩ := hna c hq
              refine ⟨_, _, run_part_cell ha xs _ (by simpa using s1) w, run_part_cell ha ys _ (by simpa using s2) w, ih f.type _ hlf' D (by omega) _ _ c (fun hh => absurd hh hag) (fun _ => ⟨n1, n2⟩) ?_⟩
              simp only [veqs, cells_getD0 n1, cells_getD0 n2]
              rw [Nat.add_zero] at hq
              simp only [hq, Bool.and_true]
            have nag : ∀ k b, veq k (xs.getD (f.offset + 0) undef) (ys.getD (f.offset + 0) undef) = some b → (∀ cs, xs.getD f.offset undef ≠ .agg cs) ∧ ∀ cs, ys.getD f.offset undef ≠ .agg cs := by
             intro k b hq
             rw [Nat.add_zero] at hq
             generalize xs.getD f.offset undef = u at hq
             generalize ys.getD f.offset undef = v at hq
             unfold veq at hq
             split at hq
             ·exact ⟨by simp, by simp⟩
             ·exact ⟨by simp, by simp⟩
             ·exact ⟨by simp, by simp⟩
             ·cases hq
            split at hlf
            ·rename_i hu; injection hlf with hlf; exact fin 0 hlf.symm (by simp [aggT, hu]) (nag 0)
            ·rename_i hu; injection hlf with hlf; exact fin 1 hlf.symm (by simp [aggT, hu]) (nag 1)
            ·rename_i hu; injection hlf with hlf; exact fin 2 hlf.symm (by simp [aggT, hu]) (nag 2)
            ·rename_i gs hu; exact absurd ⟨gs, hu⟩ hag
            ·cases hlf
         obtain ⟨x', y', k1, k2, k3⟩ := key
         simp only [k1, Result.andThen_ok, k2, k3, Sem.run_ite]
         cases b1 with
         | false => simp
         | true => simpa using hrest
        ·cases h
       ·cases h
  ·cases h
end
section
variable {P : Program} {cx : Cx} {H : Hp} {ps : Ps} {nx : Nat} {w : World}
theorem cellEq_veq {k : Nat} {x y : DV} {v u : Value} {b : Bool} (h : cellEq k x y = some b) (hx : VR H ps cx.M nx w x v) (hy : VR H ps cx.M nx w y u) : veq k v u = some b := by
 unfold cellEq at h
 split at h
 ·have e1 := hx.v_inv; have e2 := hy.v_inv; subst e1; subst e2; exact h
 ·have e1 := hx.v_inv; have e2 := hy.v_inv; subst e1; subst e2; exact h
 ·have e1 := hx.v_inv; have e2 := hy.v_inv; subst e1; subst e2; exact h
 ·cases h
theorem cellEq_some {k : Nat} {x y : DV} {b : Bool} (h : cellEq k x y = some b) : x ≠ .any ∧ y ≠ .any := by
 unfold cellEq at h
 split at h
 ·exact ⟨by simp, by simp⟩
 ·exact ⟨by simp, by simp⟩
 ·exact ⟨by simp, by simp⟩
 ·cases h
theorem cellsEq_veqs {cs ds : List DV} {xs ys : Array Value} (hx : ∀ j (hj : j < cs.length), VR H ps cx.M nx w cs[j] (xs.getD j undef)) (hy : ∀ j (hj : j < ds.length), VR H ps cx.M nx w ds[j] (ys.getD j undef)) :
  ∀ (offs : List (Nat × Nat)) (b : Bool), cellsEq cs ds offs = some b → veqs xs ys offs = some b
 | [], b, h => by simpa [cellsEq, veqs] using h
 | o :: l, b, h => by
  simp only [cellsEq] at h
  cases h1 : cellEq o.2 (cs.getD o.1 .any) (ds.getD o.1 .any) with
  | none => simp only [h1] at h; cases h
  | some c =>
   cases h2 : cellsEq cs ds l with
   | none => simp only [h1, h2] at h; cases h
   | some e =>
    simp only [h1, h2, Option.some.injEq] at h; subst h
    obtain ⟨n1, n2⟩ := cellEq_some h1
    have l1 : o.1 < cs.length := by
     rcases Nat.lt_or_ge o.1 cs.length with h | h
     ·exact h
     ·exact absurd (by simp [List.getD, List.getElem?_eq_none h]) n1
    have l2 : o.1 < ds.length := by
     rcases Nat.lt_or_ge o.1 ds.length with h | h
     ·exact h
     ·exact absurd (by simp [List.getD, List.getElem?_eq_none h]) n2
    have e1 : cs.getD o.1 .any = cs[o.1] := by simp [List.getD, l1]
    have e2 : ds.getD o.1 .any = ds[o.1] := by simp [List.getD, l2]
    rw [e1, e2] at h1
    have := cellEq_veq (b := c) h1 (hx o.1 l1) (hy o.1 l2)
    simp only [veqs, this, cellsEq_veqs hx hy l e h2]
theorem eqa_sound {neg : Bool} {offs : List (Nat × Nat)} {cs ds : List DV} {v1 v2 : Value} {b : Bool} {t : TypeId} {fs : Array Field} (hu : P.underlying t = some (.struct fs)) (hf : flat P 20 t = some offs) (hg : P.eqGuardType P.depth t = false)
  (h : cellsEq cs ds offs = some b) (hx : VR H ps cx.M nx w (.agg cs) v1) (hy : VR H ps cx.M nx w (.agg ds) v2) (o1 o2 : Operand) :
  ((do eqGuard (if neg then .neq else .eql) t o1 o2 v1 v2; binOp (if neg then .neq else .eql) t v1 v2 : Sem Value).run P w = .ok (.bool (b != neg)) w) := by
 obtain ⟨xs, rfl, _, _, hvx⟩ := hx.agg_inv
 obtain ⟨ys, rfl, _, _, hvy⟩ := hy.agg_inv
 have he := equalIn_flat (P := P) w 20 t offs hf Op.maxDepth (by unfold Op.maxDepth; omega) (.agg xs) (.agg ys) b (fun _ => ⟨_, _, rfl, rfl⟩) (fun hh => absurd hu (hh fs)) (cellsEq_veqs hvx hvy offs b h)
 have hgd : ∀ op : BinOp, (eqGuard op t o1 o2 (.agg xs) (.agg ys)).run P w = .ok () w := by
  intro op; unfold eqGuard; cases op <;> simp [hg]
 cases neg with
 | false => simp [hgd, binOp, Op.equal, he]
 | true => simp [hgd, binOp, Op.equal, he]
theorem beq_sound {neg : Bool} {x y : DV} {v1 v2 : Value} {d : DV} {t : TypeId} (hu : P.underlying t = some .bool) (h : beqV neg x y = some d) (hx : VR H ps cx.M nx w x v1) (hy : VR H ps cx.M nx w y v2) (o1 o2 : Operand) :
  ∃ v, ((do eqGuard (if neg then .neq else .eql) t o1 o2 v1 v2; binOp (if neg then .neq else .eql) t v1 v2 : Sem Value).run P w = .ok v w) ∧ VR H ps cx.M nx w d v := by
 unfold beqV at h
 split at h
 ·rename_i a b
  injection h with h; subst h
  have e1 := hx.v_inv; have e2 := hy.v_inv
  subst e1; subst e2
  have he : (Op.equalIn Op.maxDepth t (.bool a) (.bool b)).run P w = .ok (a == b) w := by
   have hp : 0 < Op.maxDepth := by unfold Op.maxDepth; omega
   obtain ⟨D, hD⟩ : ∃ D, Op.maxDepth = D + 1 := ⟨Op.maxDepth - 1, by omega⟩
   rw [hD]; simp [Op.equalIn, run_underlying hu]
  have hgd : ∀ op : BinOp, (eqGuard op t o1 o2 (.bool a) (.bool b)).run P w = .ok () w := by
   intro op; unfold eqGuard; cases op <;> simp
  refine ⟨_, ?_, .v _⟩
  cases neg with
  | false => simp [hgd, binOp, Op.equal, he]
  | true => simp [hgd, binOp, Op.equal, he]
 ·cases h
theorem run_slice {t e : TypeId} {size : Nat} (ht : P.underlying t = some (.slice e)) (hs : sizeT P e = some size) (a : Option Addr) (len cap : Nat) (lo hi : Option Value) (l h : Nat)
  (hlo : (lo = none ∧ l = 0) ∨ ∃ k, lo = some (.int k l)) (hhi : (hi = none ∧ h = len) ∨ ∃ k, hi = some (.int k h)) (hl : l ≤ h) (hc : h ≤ cap) :
  (Instr.slice t (.slice a len cap) lo hi none).run P w = .ok (.slice (if cap = l then a else a.map (·.add (l * size))) (h - l) (cap - l)) w := by
 have hb : (Instr.sliceBounds true len cap lo hi none).run P w = .ok (l, h, cap) w := by
  rcases hlo with ⟨rfl, rfl⟩ | ⟨k, rfl⟩ <;> rcases hhi with ⟨rfl, rfl⟩ | ⟨k', rfl⟩ <;>
   simp [Instr.sliceBounds, Instr.sliceBound, asIntOf, hl, hc]
 simp [Instr.slice, run_underlying ht, hb, run_sizeT hs]
theorem bnd_sound {d : Nat} {o : Option DV} {v : Option Value} {n : Int} (h : bndV d o = some n) (hv : (o = none ∧ v = none) ∨ ∃ x y, o = some x ∧ v = some y ∧ VR H ps cx.M nx w x y) (h0 : 0 ≤ n) :
  (v = none ∧ n.toNat = d) ∨ ∃ k, v = some (.int k n.toNat) := by
 rcases hv with ⟨rfl, rfl⟩ | ⟨x, y, rfl, rfl, hxy⟩
 ·simp only [bndV, Option.some.injEq] at h; subst h; exact .inl ⟨rfl, by simp⟩
 ·unfold bndV at h
  split at h
  ·rename_i e; cases e
  ·rename_i k m e
   injection h with h; subst h
   injection e with e; subst e
   have := hxy.v_inv; subst this
   exact .inr ⟨k, by rw [Int.toNat_of_nonneg h0]⟩
  ·cases h
theorem slc_sound {t e : TypeId} {size : Nat} (hr : HR H ps cx.M nx w) (ht : P.underlying t = some (.slice e)) (hs : sizeT P e = some size) {x d : DV} {v : Value} {lo hi : Option DV} {lo' hi' : Option Value}
  (h : slcV H size x lo hi = some d) (hx : VR H ps cx.M nx w x v) (hlo : (lo = none ∧ lo' = none) ∨ ∃ x y, lo = some x ∧ lo' = some y ∧ VR H ps cx.M nx w x y)
  (hhi : (hi = none ∧ hi' = none) ∨ ∃ x y, hi = some x ∧ hi' = some y ∧ VR H ps cx.M nx w x y) :
  ∃ v', (Instr.sliceAt t v lo' hi' none).run P w = .ok v' w ∧ VR H ps cx.M nx w d v' := by
 have hsa : ∀ v, Instr.sliceAt t v lo' hi' none = (do match ← underlying t with | .array n elem => do let a ← Instr.sureAddr v; let (l, h, m) ← Instr.sliceBounds false n n lo' hi' none; let size ← sizeOf elem; pure (.slice (some (if m = l then a else a.add (l * size))) (h - l) (m - l)) | _ => Instr.slice t v lo' hi' none) := fun v => rfl
 have hrun : ∀ v, (Instr.sliceAt t v lo' hi' none).run P w = (Instr.slice t v lo' hi' none).run P w := by
  intro v; simp [Instr.sliceAt, run_underlying ht]
 rw [hrun]
 unfold slcV at h
 split at h
 ·rename_i full xs
  cases hl : bndV 0 lo with
  | none => simp [hl] at h
  | some l =>
   cases hh : bndV xs.length hi with
   | none => simp [hl, hh] at h
   | some hb =>
    simp only [hl, hh] at h
    split at h
    ·rename_i hc
     obtain ⟨c1, c2, c3, c4⟩ := hc
     injection h with h; subst h
     have b1 := bnd_sound hl hlo c1
     have b2 := bnd_sound hh hhi (by omega)
     obtain ⟨ln, rfl⟩ := Int.eq_ofNat_of_zero_le c1
     obtain ⟨hn, rfl⟩ := Int.eq_ofNat_of_zero_le (show 0 ≤ hb by omega)
     simp only [Int.toNat_natCast] at b1 b2 ⊢
     have e1 : ln ≤ hn := by omega
     have e2 : hn ≤ xs.length := by omega
     cases hx with
     | lnil _ a cap hf =>
      have : hn = 0 := by simpa using e2
      subst this
      have : ln = 0 := by omega
      subst this
      refine ⟨_, run_slice ht hs a 0 cap lo' hi' 0 0 b1 (by simpa using b2) (Nat.le_refl _) (by omega), ?_⟩
      simp only [List.drop_nil, List.take_nil]
      exact .lnil _ _ _ fun hfull => by simp at hfull; simp [hf hfull]
     | lst _ _ b off cap sz vs hne hs' hcap hf hM hz h1 hcc hv =>
      refine ⟨_, run_slice ht hs _ xs.length cap lo' hi' ln hn b1 b2 e1 (by omega), ?_⟩
      have hlen : ((xs.drop ln).take (hn - ln)).length = hn - ln := by simp; omega
      by_cases hem : hn - ln = 0
      ·have hnil : (xs.drop ln).take (hn - ln) = [] := by rw [hem]; simp
       rw [hnil, hem]
       refine .lnil _ _ _ fun hfull => ?_
       simp only [Bool.and_eq_true, decide_eq_true_eq] at hfull
       have := hf hfull.1; omega
      ·have hsz : ln = 0 ∨ sz = size := by
        rcases c4 with c4 | c4
        ·exact .inl (by omega)
        ·have hp : 0 < xs.length := by omega
         have := List.all_eq_true.1 c4 xs[0] (List.getElem_mem hp)
         rw [hz 0 hp] at this
         exact .inr (by simpa using this)
       have ha : (if cap = ln then some (⟨b, off, none⟩ : Addr) else (some (⟨b, off, none⟩ : Addr)).map (·.add (ln * size))) = some ⟨b, off + ln * sz, none⟩ := by
        rw [if_neg (by omega)]
        rcases hsz with hsz | hsz
        ·subst hsz; simp [Addr.add]
        ·subst hsz; simp [Addr.add_mk]
       have hne' : (xs.drop ln).take (hn - ln) ≠ [] := by intro e; rw [e] at hlen; simp at hlen; omega
       rw [ha]
       suffices key : VR H ps cx.M nx w (.lst (full && decide ((hn : Int) = xs.length)) ((xs.drop ln).take (hn - ln))) (.slice (some ⟨b, off + ln * sz, none⟩) ((xs.drop ln).take (hn - ln)).length (cap - ln)) by
        rw [hlen] at key; exact key
       refine .lst _ _ b (off + ln * sz) (cap - ln) sz (fun i j => vs (ln + i) j) hne' hs' (by omega) (fun hfull => ?_) hM (fun i hi => ?_) (fun i j hi hj => h1 _ _ (by omega) hj) (fun i j hi hj => ?_) (fun i j hi hj => ?_)
       ·simp only [Bool.and_eq_true, decide_eq_true_eq] at hfull
        have := hf hfull.1; omega
       ·simp only [List.getElem_take, List.getElem_drop]; exact hz _ _
       ·have := hcc (ln + i) j (by omega) hj
        rw [Nat.add_mul] at this
        rw [show off + ln * sz + (i * sz + j) = off + (ln * sz + i * sz + j) by omega]; exact this
       ·have hi' : ln + i < xs.length := by omega
        have hj' : j < xs[ln + i].length := by simpa using hj
        have := hv (ln + i) j hi' hj'
        simpa using this
    ·cases h
 ·rename_i o g b n
  cases hl : bndV 0 lo with
  | none => simp [hl] at h
  | some l =>
   cases hh : bndV n hi with
   | none => simp [hl, hh] at h
   | some hb =>
    simp only [hl, hh] at h
    split at h
    ·rename_i hc
     obtain ⟨c0, c1, c2, c3⟩ := hc
     injection h with h; subst h
     have b1 := bnd_sound hl hlo c1
     have b2 := bnd_sound hh hhi (by omega)
     obtain ⟨ln, rfl⟩ := Int.eq_ofNat_of_zero_le c1
     obtain ⟨hn, rfl⟩ := Int.eq_ofNat_of_zero_le (show 0 ≤ hb by omega)
     simp only [Int.toNat_natCast] at b1 b2 ⊢
     have e1 : ln ≤ hn := by omega
     have e2 : hn ≤ n := by omega
     have hlive : live H o g = true := by
      unfold ownSz at c0; unfold live; split at c0 <;> simp_all
     obtain ⟨ck, ho, hg, hlen, a, cap, rfl, hnc, hpl⟩ := hx.own_live hlive
     have hsz : ck.sz = size := by unfold ownSz at c0; rw [ho] at c0; simp at c0; exact c0.2
     refine ⟨_, run_slice ht hs a n cap lo' hi' ln hn b1 b2 e1 (by omega), ?_⟩
     refine .own _ _ _ _ _ (hr.lt o ck ho) ⟨_, _, rfl⟩ fun ck' hck' => ?_
     rw [ho] at hck'; injection hck' with hck'; subst hck'
     refine ⟨by omega, fun _ => ⟨by omega, _, _, rfl, by omega, ?_⟩⟩
     by_cases hcl : cap = ln
     ·exact .inl (by omega)
     ·rcases hpl with hpl | ⟨p, hp, rfl, htot⟩
      ·exact .inl (by omega)
      ·refine .inr ⟨p, hp, ?_, ?_⟩
       ·rw [if_neg hcl]
        simp only [Option.map_some, Addr.add_mk, ← hsz, Nat.add_mul, Nat.add_assoc]
       ·rw [show b + ln + (cap - ln) = b + cap by omega]; exact htot
    ·cases h
 ·cases h
end
end Go.Pv
