/- Operations read only what they name: 'ev' at two states that agree there. No condition of its own: over any program. -/
import Derived.Test.YtiemlgicaibccaaPvI
set_option linter.all false
namespace Go.Pv
open Go.RowKit
def RO.rs : RO → List Nat
 | .t n => [n]
 | .c _ => []
def ROp.rs : ROp → List Nat
 | .isn _ x | .mov x | .box x | .nilck x | .un _ x | .conv _ x | .s2b x | .b2s x | .fadr _ x | .fld _ _ _ x | .len x | .lens x | .extr _ x | .load _ _ x | .clr _ _ x => x.rs
 | .pick c a b => c.rs ++ a.rs ++ b.rs
 | .alloc _ | .lenA _ => []
 | .build _ ps => ps.flatMap fun x => x.2.2.rs
 | .bslice _ _ _ _ ps => ps.flatMap fun x => x.2.rs
 | .store _ a x | .bin _ a x | .eqa _ _ a x | .beq _ a x | .iadrS _ a x | .iadrA _ _ a x | .idxA _ _ _ a x | .mksl _ _ _ a x | .app _ _ a x => a.rs ++ x.rs
 | .sidx x i => x.rs ++ i.rs
 | .sslc x lo hi => x.rs ++ (match lo with | some l => l.rs | none => []) ++ (match hi with | some l => l.rs | none => [])
 | .slc _ x lo hi => x.rs ++ (match lo with | some l => l.rs | none => []) ++ (match hi with | some l => l.rs | none => [])
 | .mm _ xs => xs.flatMap RO.rs
 | .mkfn _ xs => xs.flatMap RO.rs
 | .call f xs => f.rs ++ xs.flatMap RO.rs
theorem RO.get_congr {x : RO} {T T' : Nat → DV} (h : ∀ t ∈ x.rs, T' t = T t) : x.get T' = x.get T := by
 cases x with
 | t n => exact h n (by simp [RO.rs])
 | c d => rfl
theorem fillP_congr {ρ ρ' : RO → DV} : ∀ (ps : List (Nat × Nat × RO)) (z : List DV), (∀ x ∈ ps, ρ' x.2.2 = ρ x.2.2) → fillP ρ' z ps = fillP ρ z ps
 | [], z, _ => rfl
 | (o, n, x) :: r, z, h => by
  simp only [fillP, h (o, n, x) (by simp)]
  split
  ·split
   ·exact fillP_congr r _ fun y hy => h y (by simp [hy])
   ·rfl
  ·rfl
theorem bslP_congr {ρ ρ' : RO → DV} (sz : Nat) : ∀ (ps : List (Nat × RO)) (xs : List (List DV)), (∀ x ∈ ps, ρ' x.2 = ρ x.2) → bslP ρ' sz xs ps = bslP ρ sz xs ps
 | [], z, _ => rfl
 | (o, x) :: r, z, h => by
  simp only [bslP, h (o, x) (by simp)]
  split
  ·split
   ·exact bslP_congr sz r _ fun y hy => h y (by simp [hy])
   ·rfl
  ·rfl
theorem loadV_congr {H H' : Hp} {ag : Bool} {n : Nat} {d : DV} (h : ∀ o ∈ d.ids, H' o = H o) : loadV H' ag n d = loadV H ag n d := by
 cases d <;> simp only [loadV]
 rw [h _ (by simp [DV.ids])]
theorem clrV_congr {H H' : Hp} {sz : Nat} {z : List DV} {d : DV} (h : ∀ o ∈ d.ids, H' o = H o) : clrV H' sz z d = clrV H sz z d := by
 cases d with
 | own o g lo n => simp only [clrV]; rw [h o (by simp [DV.ids])]
 | _ => simp only [clrV]
theorem storeV_congr {H H' : Hp} {n : Nat} {d x : DV} (h : ∀ o ∈ d.ids, H' o = H o) : storeV H' n d x = storeV H n d x := by
 cases d with
 | ptr o g i off =>
  simp only [storeV]
  cases dcells x with
  | none => rfl
  | some cs => simp only []; rw [h o (by simp [DV.ids])]
 | _ => simp only [storeV]
theorem live_congr {H H' : Hp} {o g : Nat} (h : H' o = H o) : live H' o g = live H o g := by simp only [live, h]
theorem ownSz_congr {H H' : Hp} {o g z : Nat} (h : H' o = H o) : ownSz H' o g z = ownSz H o g z := by simp only [ownSz, h]
theorem elemsV_congr {H H' : Hp} {d : DV} (h : ∀ o ∈ d.ids, H' o = H o) : elemsV H' d = elemsV H d := by
 cases d <;> simp only [elemsV]
 rw [h _ (by simp [DV.ids])]
theorem appV_congr {H H' : Hp} {sz by' : Nat} {d x : DV} (h1 : ∀ o ∈ d.ids, H' o = H o) (h2 : ∀ o ∈ x.ids, H' o = H o) : appV H' sz by' d x = appV H sz by' d x := by
 simp only [appV, elemsV_congr h2]
 cases d with
 | own o g lo n => simp only []; rw [h1 o (by simp [DV.ids])]
 | lst full xs => cases full <;> rfl
 | _ => rfl
theorem lenV_congr {H H' : Hp} {d : DV} (h : ∀ o ∈ d.ids, H' o = H o) : lenV H' d = lenV H d := by
 cases d <;> rfl
theorem slcV_congr {H H' : Hp} {sz : Nat} {d : DV} {lo hi : Option DV} (h : ∀ o ∈ d.ids, H' o = H o) : slcV H' sz d lo hi = slcV H sz d lo hi := by
 cases d <;> simp only [slcV]
 rw [ownSz_congr (h _ (by simp [DV.ids]))]
theorem rds_congr {op : ROp} {p : Bool} {T T' : Nat → DV} (hT : ∀ t ∈ op.rs, T' t = T t) : rds op p T' = rds op p T := by
 cases op <;> simp only [rds, ROp.rs, List.mem_append] at * <;> (try rfl) <;>
  first
   | rw [RO.get_congr fun t ht => hT t ht]
   | rw [RO.get_congr fun t ht => hT t (.inl ht)]
   | rw [RO.get_congr fun t ht => hT t (.inl (.inl ht))]
   | (rw [RO.get_congr fun t ht => hT t (.inl ht), RO.get_congr fun t ht => hT t (.inr ht)])
 ·rename_i s x
  rw [RO.get_congr (x := x) fun t ht => hT t (.inr ht)]
theorem ev_congr {op : ROp} {p : Bool} {T T' : Nat → DV} {H H' : Hp} {nx : Nat} (hT : ∀ t ∈ op.rs, T' t = T t) (hH : ∀ o ∈ rds op p T, H' o = H o) : ev op p T' H' nx = ev op p T H nx := by
 cases op with
 | pick c a b =>
  simp only [ROp.rs, List.mem_append] at hT
  simp only [ev, RO.get_congr (x := c) fun t ht => hT t (.inl (.inl ht)), RO.get_congr (x := a) fun t ht => hT t (.inl (.inr ht)), RO.get_congr (x := b) fun t ht => hT t (.inr ht)]
 | alloc z => rfl
 | lenA n => rfl
 | call f xs => rfl
 | build z ps =>
  simp only [ROp.rs, List.mem_flatMap] at hT
  simp only [ev]
  rw [fillP_congr (ρ := fun x => un p (x.get T)) (ρ' := fun x => un p (x.get T')) ps z fun x hx => by simp only [RO.get_congr (x := x.2.2) fun t ht => hT t ⟨x, hx, ht⟩]]
 | bslice ow sz z len ps =>
  simp only [ROp.rs, List.mem_flatMap] at hT
  simp only [ev]
  rw [bslP_congr (ρ := fun x => un p (x.get T)) (ρ' := fun x => un p (x.get T')) sz ps _ fun x hx => by simp only [RO.get_congr (x := x.2) fun t ht => hT t ⟨x, hx, ht⟩]]
 | mm mx xs =>
  simp only [ROp.rs, List.mem_flatMap] at hT
  have : xs.map (fun x : RO => un p (x.get T')) = xs.map (fun x : RO => un p (x.get T)) := List.map_congr_left fun x hx => by rw [RO.get_congr fun t ht => hT t ⟨x, hx, ht⟩]
  simp only [ev, this]
 | mkfn f xs =>
  simp only [ROp.rs, List.mem_flatMap] at hT
  have : xs.map (fun x : RO => un p (x.get T')) = xs.map (fun x : RO => un p (x.get T)) := List.map_congr_left fun x hx => by rw [RO.get_congr fun t ht => hT t ⟨x, hx, ht⟩]
  simp only [ev, this]
 | load ag n a =>
  simp only [ev, RO.get_congr (x := a) hT]
  rw [loadV_congr hH]
 | clr sz z x =>
  simp only [ev, RO.get_congr (x := x) hT]
  rw [clrV_congr hH]
 | store n a x =>
  simp only [ROp.rs, List.mem_append] at hT
  simp only [ev, RO.get_congr (x := a) fun t ht => hT t (.inl ht), RO.get_congr (x := x) fun t ht => hT t (.inr ht)]
  rw [storeV_congr hH]
 | app sz by' s x =>
  simp only [ROp.rs, List.mem_append] at hT
  simp only [ev, RO.get_congr (x := s) fun t ht => hT t (.inl ht), RO.get_congr (x := x) fun t ht => hT t (.inr ht)]
  simp only [rds, List.mem_append] at hH
  exact appV_congr (fun o ho => hH o (.inl ho)) fun o ho => hH o (.inr ho)
 | len x =>
  simp only [ev, RO.get_congr (x := x) hT]
  rw [lenV_congr hH]
 | slc sz x lo hi =>
  simp only [ROp.rs, List.mem_append] at hT
  have e2 : lo.map (fun x : RO => un p (x.get T')) = lo.map (fun x : RO => un p (x.get T)) := by
   cases lo with
   | none => rfl
   | some l => simp only [Option.map_some]; rw [RO.get_congr fun t ht => hT t (.inl (.inr ht))]
  have e3 : hi.map (fun x : RO => un p (x.get T')) = hi.map (fun x : RO => un p (x.get T)) := by
   cases hi with
   | none => rfl
   | some l => simp only [Option.map_some]; rw [RO.get_congr fun t ht => hT t (.inr ht)]
  simp only [ev, RO.get_congr (x := x) fun t ht => hT t (.inl (.inl ht)), e2, e3]
  rw [slcV_congr hH]
 | nilck x =>
  simp only [ev, RO.get_congr (x := x) hT]
  simp only [rds] at hH
  generalize un p (x.get T) = d at *
  cases d <;> simp only []
  rw [live_congr (hH _ (by simp [DV.ids]))]
 | fadr off x =>
  simp only [ev, RO.get_congr (x := x) hT]
  simp only [rds] at hH
  generalize un p (x.get T) = d at *
  cases d <;> simp only []
  rw [live_congr (hH _ (by simp [DV.ids]))]
 | iadrS sz x i =>
  simp only [ROp.rs, List.mem_append] at hT
  simp only [ev, RO.get_congr (x := x) fun t ht => hT t (.inl ht), RO.get_congr (x := i) fun t ht => hT t (.inr ht)]
  simp only [rds] at hH
  generalize un p (x.get T) = d at *
  generalize un p (i.get T) = e
  have fin : ∀ (o g lo k : Nat) (e : DV), H' o = H o → (match DV.own o g lo k, e with
   | .lst _ xs, .v (.int _ n) => if 0 ≤ n ∧ n < xs.length ∧ (xs.getD n.toNat []).length = sz then some (DV.rp (xs.getD n.toNat []), Up.no) else none
   | .own o g lo k, .v (.int _ n) => match H' o with
    | some ck => if ck.gen = g ∧ ck.sz = sz ∧ 0 ≤ n ∧ n < k then some (.ptr o g (lo + n.toNat) 0, .no) else none
    | none => none
   | _, _ => none) = (match DV.own o g lo k, e with
   | .lst _ xs, .v (.int _ n) => if 0 ≤ n ∧ n < xs.length ∧ (xs.getD n.toNat []).length = sz then some (DV.rp (xs.getD n.toNat []), Up.no) else none
   | .own o g lo k, .v (.int _ n) => match H o with
    | some ck => if ck.gen = g ∧ ck.sz = sz ∧ 0 ≤ n ∧ n < k then some (.ptr o g (lo + n.toNat) 0, .no) else none
    | none => none
   | _, _ => none) := by
   intro o g lo k e h
   cases e <;> try rfl
   rename_i v; cases v <;> try rfl
   simp only [h]
  cases d with
  | own o g lo k => exact fin o g lo k e (hH o (by simp [DV.ids]))
  | _ => cases e <;> first | rfl | (rename_i v; cases v <;> rfl)
 | iadrA sz len x i =>
  simp only [ROp.rs, List.mem_append] at hT
  simp only [ev, RO.get_congr (x := x) fun t ht => hT t (.inl ht), RO.get_congr (x := i) fun t ht => hT t (.inr ht)]
  simp only [rds] at hH
  generalize un p (x.get T) = d at *
  generalize un p (i.get T) = e
  cases d with
  | ptr o g j f =>
   cases e <;> try rfl
   rename_i v; cases v <;> try rfl
   simp only [live_congr (g := g) (hH o (by simp [DV.ids]))]
  | _ => cases e <;> first | rfl | (rename_i v; cases v <;> rfl)
 | bin op x y =>
  simp only [ROp.rs, List.mem_append] at hT
  simp only [ev, RO.get_congr (x := x) fun t ht => hT t (.inl ht), RO.get_congr (x := y) fun t ht => hT t (.inr ht)]
 | beq n x y =>
  simp only [ROp.rs, List.mem_append] at hT
  simp only [ev, RO.get_congr (x := x) fun t ht => hT t (.inl ht), RO.get_congr (x := y) fun t ht => hT t (.inr ht)]
 | eqa n offs x y =>
  simp only [ROp.rs, List.mem_append] at hT
  simp only [ev, RO.get_congr (x := x) fun t ht => hT t (.inl ht), RO.get_congr (x := y) fun t ht => hT t (.inr ht)]
 | idxA ag sz len x i =>
  simp only [ROp.rs, List.mem_append] at hT
  simp only [ev, RO.get_congr (x := x) fun t ht => hT t (.inl ht), RO.get_congr (x := i) fun t ht => hT t (.inr ht)]
 | mksl sz by' z x i =>
  simp only [ROp.rs, List.mem_append] at hT
  simp only [ev, RO.get_congr (x := x) fun t ht => hT t (.inl ht), RO.get_congr (x := i) fun t ht => hT t (.inr ht)]
 | mov x => simp only [ev, RO.get_congr (x := x) hT]
 | box x => simp only [ev, RO.get_congr (x := x) hT]
 | un op x => simp only [ev, RO.get_congr (x := x) hT]
 | isn n x => simp only [ev, RO.get_congr (x := x) hT]
 | conv k x => simp only [ev, RO.get_congr (x := x) hT]
 | s2b x => simp only [ev, RO.get_congr (x := x) hT]
 | b2s x =>
  simp only [ev, RO.get_congr (x := x) hT]
  rw [elemsV_congr hH]
 | fld ag n off x => simp only [ev, RO.get_congr (x := x) hT]
 | lens x => simp only [ev, RO.get_congr (x := x) hT]
 | sidx x i =>
  simp only [ROp.rs, List.mem_append] at hT
  simp only [ev, RO.get_congr (x := x) fun t ht => hT t (.inl ht), RO.get_congr (x := i) fun t ht => hT t (.inr ht)]
 | sslc x lo hi =>
  simp only [ROp.rs, List.mem_append] at hT
  simp only [ev, RO.get_congr (x := x) fun t ht => hT t (.inl (.inl ht))]
  cases lo with
  | none =>
   cases hi with
   | none => rfl
   | some h => simp only [Option.map_none, Option.map_some, RO.get_congr (x := h) fun t ht => hT t (.inr ht)]
  | some l =>
   cases hi with
   | none => simp only [Option.map_none, Option.map_some, RO.get_congr (x := l) fun t ht => hT t (.inl (.inr ht))]
   | some h => simp only [Option.map_some, RO.get_congr (x := l) fun t ht => hT t (.inl (.inr ht)), RO.get_congr (x := h) fun t ht => hT t (.inr ht)]
 | extr i x => simp only [ev, RO.get_congr (x := x) hT]
end Go.Pv
