/- Control flow on plain data (AWP): regions, sequences, tests, blocks, loops; and from a body to a call. No condition of its own: over any program. -/
import Derived.Test.YtiemlgicaibccaaPvN
set_option linter.all false
namespace Go.Pv
open Go.RowKit
def rIs (P : Program) (nt : Nat) (ow : Nat → Bool) (ops : Array Oper) : List Oper → Option (List RI)
 | [] => some []
 | o :: r => match rI P nt ow ops o, rIs P nt ow ops r with
  | some i, some l => some (i :: l)
  | _, _ => none
theorem rIs_parts {P nt ow ops} : ∀ {l : List Oper} {ris : List RI}, rIs P nt ow ops l = some ris → ris.length = l.length ∧ ∀ k (h1 : k < l.length) (h2 : k < ris.length), rI P nt ow ops l[k] = some ris[k]
 | [], ris, h => by simp [rIs] at h; subst h; exact ⟨rfl, fun k h1 => by simp at h1⟩
 | o :: r, ris, h => by
  simp only [rIs] at h
  cases h1 : rI P nt ow ops o with
  | none => simp [h1] at h
  | some i =>
   cases h2 : rIs P nt ow ops r with
   | none => simp [h1, h2] at h
   | some l =>
    simp [h1, h2] at h; subst h
    obtain ⟨a, b⟩ := rIs_parts h2
    refine ⟨by simp [a], fun k k1 k2 => ?_⟩
    cases k with
    | zero => exact h1
    | succ k => exact b k (by simpa using k1) (by simpa using k2)
section
variable {P : Program} {cx : Cx} {ops : Array Oper} {Q : Exit → Act → World → Prop}
theorem text_sound (hg0 : GlOK P cx.w0 cx.B) {ow : Nat → Bool} {ris : List RI} {n : Nat} (hris : rIs P cx.nt ow ops ops.toList = some ris) (hz : ∀ k (hk : k < ris.length), ∀ d, ris[k].dst = some d → cx.fz d = none) {l : List Rc} {s : St} (hst : ∀ k (hk : k < ris.length), Stp P ris[k] (stL ris (effOf l) s allL k) (effOf l k))
  (fin : ∀ ps a w, RS cx (stL ris (effOf l) s allL ris.length) ps a w → Q .normal a w) : ∀ m k, k + m = ris.length → ∀ ps a w, RS cx (stL ris (effOf l) s allL k) ps a w → wpOpsIn (FR cx.ro) n P ops Q (List.range' k m) a w
 | 0, k, hk, ps, a, w, R => by
  have : k = ris.length := by omega
  subst this
  exact fin ps a w R
 | m + 1, k, hk, ps, a, w, R => by
  obtain ⟨hl, hr⟩ := rIs_parts hris
  rw [List.range'_succ, wpOpsIn_cons]
  have hk1 : k < ris.length := by omega
  have hk2 : k < ops.toList.length := by omega
  have ho : ops[k]? = some ops.toList[k] := by
   have hk3 : k < ops.size := by simpa using hk2
   simp [hk3]
  refine stp_sound hg0 ho (hr k hk2 hk1) R (hst k hk1) (hz k hk1) _ fun ps' a' w' R' => ?_
  refine text_sound hg0 hris hz hst fin m (k + 1) (by omega) ps' a' w' ?_
  have : stL ris (effOf l) s allL (k + 1) = (stL ris (effOf l) s allL k).app ris[k].dst (effOf l k) := by
   simp only [stL, allL, if_true, List.getElem?_eq_getElem hk1]; rfl
  rw [this]; exact R'
theorem stL_ext {ris : List RI} {effs : Nat → Rc} {s : St} {L L' : Nat → Bool} : ∀ n, (∀ k, k < n → L k = L' k) → stL ris effs s L n = stL ris effs s L' n
 | 0, _ => rfl
 | n + 1, h => by simp only [stL, h n (by omega), stL_ext n fun k hk => h k (by omega)]
theorem any_sound (hg0 : GlOK P cx.w0 cx.B) {ow : Nat → Bool} {ris : List RI} {n : Nat} (hris : rIs P cx.nt ow ops ops.toList = some ris) (hz : ∀ k (hk : k < ris.length), ∀ d, ris[k].dst = some d → cx.fz d = none) {l : List Rc} {s : St} {ord : Nat → Nat → Bool} (hs : Sch P ris (effOf l) s ops.size ord)
  (hdep : ∀ j (hj : j < ops.size), ∀ e ∈ depOf ops[j], e < j) (hord : ∀ j (hj : j < ops.size) i, ord i j = true → ∃ e ∈ depOf ops[j], e = i ∨ (e < j ∧ ord i e = true))
  (fin : ∀ ps a w, RS cx (stL ris (effOf l) s allL ris.length) ps a w → Q .normal a w) :
  ∀ (fuel : Nat) (listed : Array Bool), listed.size = ops.size → ((List.range ops.size).filter fun k => !listed.getD k false).length = fuel →
   (∀ j (hj : j < ops.size), listed.getD j false = true → ∀ e ∈ depOf ops[j], listed.getD e false = true) →
   ∀ ps a w, RS cx (stL ris (effOf l) s (fun k => listed.getD k false) ops.size) ps a w → wpAnyIn (FR cx.ro) n P .any ops Q fuel listed a w := by
 obtain ⟨hl, hr⟩ := rIs_parts hris
 have hn : ris.length = ops.size := by simpa using hl
 have mem_ready : ∀ (listed : Array Bool), listed.size = ops.size → ∀ i, i ∈ Region.ready .any ops listed ↔ ∃ hi : i < ops.size, listed.getD i false = false ∧ ∀ e ∈ depOf ops[i], listed.getD e false = true := by
  intro listed hls i
  simp only [Region.ready, List.mem_filter, List.mem_range, Bool.and_eq_true, Bool.not_eq_true']
  constructor
  ·rintro ⟨h1, h2, h3⟩
   refine ⟨h1, ?_, ?_⟩
   ·have : i < listed.size := by omega
    simpa [Array.getD, this] using h2
   ·intro e he
    rw [Array.getElem?_eq_getElem h1] at h3
    simp only [Option.map_some, Option.getD_some] at h3
    obtain ⟨ed, hed, hx⟩ := List.mem_filterMap.1 he
    split at hx
    ·rename_i hb
     injection hx with hx; subst hx
     have hm : ed ∈ ops[i].after := by simpa using hed
     obtain ⟨q, hq, hqe⟩ := Array.mem_iff_getElem.1 hm
     have := Array.all_eq_true.1 h3 q hq
     rw [hqe] at this
     simpa [hb] using this
    ·cases hx
  ·rintro ⟨h1, h2, h3⟩
   refine ⟨h1, ?_, ?_⟩
   ·have : i < listed.size := by omega
    simpa [Array.getD, this] using h2
   ·rw [Array.getElem?_eq_getElem h1]
    simp only [Option.map_some, Option.getD_some]
    refine Array.all_eq_true.2 fun q hq => ?_
    by_cases hb : Region.binds .any ops[i].after[q] = true
    ·have := h3 ops[i].after[q].on (List.mem_filterMap.2 ⟨ops[i].after[q], by simp, by rw [if_pos hb]⟩)
     simp [this]
    ·simp [hb]
 have all_listed : ∀ (listed : Array Bool), listed.size = ops.size → Region.ready .any ops listed = [] → ∀ k, k < ops.size → listed.getD k false = true := by
  intro listed hls hre k
  induction k using Nat.strongRecOn with
  | _ k ih =>
   intro hk
   cases hq : listed.getD k false with
   | true => rfl
   | false =>
    have : k ∈ Region.ready .any ops listed := (mem_ready listed hls k).2 ⟨hk, hq, fun e he => ih e (hdep k hk e he) (by have := hdep k hk e he; omega)⟩
    rw [hre] at this; cases this
 have closed : ∀ (listed : Array Bool), listed.size = ops.size → (∀ j (hj : j < ops.size), listed.getD j false = true → ∀ e ∈ depOf ops[j], listed.getD e false = true) → ∀ i j, ord i j = true → listed.getD j false = true → listed.getD i false = true := by
  intro listed hls hc i j
  induction j using Nat.strongRecOn with
  | _ j ih =>
   intro ho hj
   have hjn : j < ops.size := by
    rcases Nat.lt_or_ge j ops.size with h | h
    ·exact h
    ·have : ¬ j < listed.size := by omega
     simp [Array.getD, this] at hj
   obtain ⟨e, he, h⟩ := hord j hjn i ho
   have hle := hc j hjn hj e he
   rcases h with rfl | ⟨hlt, h⟩
   ·exact hle
   ·exact ih e hlt h hle
 have donefin : ∀ (listed : Array Bool), listed.size = ops.size → Region.ready .any ops listed = [] → ∀ ps a w, RS cx (stL ris (effOf l) s (fun k => listed.getD k false) ops.size) ps a w → Q .normal a w := by
  intro listed hls hre ps a w R
  refine fin ps a w ?_
  rw [hn, stL_ext (L := allL) (L' := fun k => listed.getD k false) ops.size fun k hk => (all_listed listed hls hre k hk).symm]
  exact R
 intro fuel
 induction fuel with
 | zero =>
  intro listed hls hcount hc ps a w R
  have hre : Region.ready .any ops listed = [] := by
   apply List.eq_nil_iff_forall_not_mem.2
   intro i hi
   obtain ⟨h1, h2, _⟩ := (mem_ready listed hls i).1 hi
   have : i ∈ (List.range ops.size).filter fun k => !listed.getD k false := List.mem_filter.2 ⟨List.mem_range.2 h1, by simp [h2]⟩
   rw [List.length_eq_zero_iff.1 hcount] at this; cases this
  exact ⟨hre, donefin listed hls hre ps a w R⟩
 | succ fuel ih =>
  intro listed hls hcount hc ps a w R
  refine ⟨fun hre => donefin listed hls hre ps a w R, fun i hi => ?_⟩
  obtain ⟨h1, h2, h3⟩ := (mem_ready listed hls i).1 hi
  have hL := closed listed hls hc
  have hpre : ∀ k, ord k i = true → listed.getD k false = true := by
   intro k hk
   obtain ⟨e, he, h⟩ := hord i h1 k hk
   have hle := h3 e he
   rcases h with rfl | ⟨_, h⟩
   ·exact hle
   ·exact hL k e h hle
  have hstp := hs.stp_at (L := fun k => listed.getD k false) hL h1 h2 hpre
  have hadd := hs.add (L := fun k => listed.getD k false) hL h1 h2
  have hk1 : i < ris.length := by omega
  have hk2 : i < ops.toList.length := by simpa using h1
  have ho : ops[i]? = some ops.toList[i] := by simp [h1]
  have hset : ∀ k, (listed.setIfInBounds i true).getD k false = (listed.getD k false || decide (k = i)) := by
   intro k
   by_cases hk : k = i
   ·subst hk
    have : k < listed.size := by omega
    simp [Array.getD, this]
   ·rw [Array.getD_eq_getD_getElem?, Array.getElem?_setIfInBounds_ne (Ne.symm hk), ← Array.getD_eq_getD_getElem?]
    have : decide (k = i) = false := by simp [hk]
    rw [this, Bool.or_false]
  refine stp_sound hg0 ho (hr i hk2 hk1) R hstp (hz i hk1) _ fun ps' a' w' R' => ?_
  refine ih (listed.setIfInBounds i true) (by simpa using hls) ?_ ?_ ps' a' w' ?_
  ·have hsplit : ∀ (m : List Nat), m.Nodup → i ∈ m → (m.filter fun k => !listed.getD k false).length = (m.filter fun k => !(listed.setIfInBounds i true).getD k false).length + 1 := by
    intro m
    induction m with
    | nil => intro _ h; cases h
    | cons x m ihm =>
     intro hnd hm
     have hnd' := List.nodup_cons.1 hnd
     by_cases hx : x = i
     ·subst hx
      have e1 : (m.filter fun k => !(listed.setIfInBounds x true).getD k false) = m.filter fun k => !listed.getD k false := by
       apply List.filter_congr
       intro k hk
       have : k ≠ x := fun e => hnd'.1 (e ▸ hk)
       rw [hset]; simp [this]
      rw [List.filter_cons_of_pos (by simp [h2]), List.filter_cons_of_neg (by rw [hset]; simp), e1]; rfl
     ·have him : i ∈ m := by
       rcases List.mem_cons.1 hm with h | h
       ·exact absurd h.symm hx
       ·exact h
      have := ihm hnd'.2 him
      have e2 : (listed.setIfInBounds i true).getD x false = listed.getD x false := by rw [hset]; simp [hx]
      by_cases hlx : listed.getD x false = true
      ·rw [List.filter_cons_of_neg (by simp [hlx]), List.filter_cons_of_neg (by rw [e2]; simp [hlx])]; exact this
      ·rw [List.filter_cons_of_pos (by simp [hlx]), List.filter_cons_of_pos (by rw [e2]; simp [hlx])]; simp only [List.length_cons]; omega
   have := hsplit (List.range ops.size) List.nodup_range (List.mem_range.2 h1)
   omega
  ·intro j hj hlj e he
   rw [hset] at hlj ⊢
   simp only [Bool.or_eq_true, decide_eq_true_eq] at hlj ⊢
   rcases hlj with h | h
   ·exact .inl (hc j hj h e he)
   ·subst h; exact .inl (h3 e he)
  ·rw [stL_ext (L' := fun k => listed.getD k false || decide (k = i)) ops.size fun k _ => hset k, hadd]
   exact R'
def lgAt (lg : Lg) (k : Nat) : List Nat × List Nat := lg.getD k ([], [])
def disL (x y : List Nat × List Nat) : Prop := (∀ o, o ∈ x.2 → o ∉ y.1 ∧ o ∉ y.2) ∧ (∀ o, o ∈ y.2 → o ∉ x.1)
def compat (un : List (Nat × Nat)) (lg : Lg) : Prop := ∀ p, p ∈ un → disL (lgAt lg p.1) (lgAt lg p.2)
def awpR (P : Program) (ris : List RI) (un : Option (List (Nat × Nat))) (s : St) (K : St → Prop) : Prop :=
 match un with
 | none => awpOps P ris [] s fun _ s' => K s'
 | some l => awpOps P ris [] s fun lg s' => compat l lg ∧ s'.nx = s.nx ∧ K s'
def awpRX (P : Program) (ris : List RI) (un : Option (List (Nat × Nat))) (s : St) (K : St → Prop) : Prop :=
 match un with
 | none => runX P ris [] s fun _ s' => K s'
 | some l => runX P ris [] s fun lg s' => compat l lg ∧ s'.nx = s.nx ∧ K s'
theorem awpR.x {P : Program} {ris : List RI} {un : Option (List (Nat × Nat))} {s : St} {K : St → Prop} (h : awpR P ris un s K) : awpRX P ris un s K := by
 cases un with
 | none => exact runX_of _ _ _ _ h
 | some l => exact runX_of _ _ _ _ h
theorem region_sound {id : Nat} {draw : Bool} {ow : Nat → Bool} {ris : List RI} {n : Nat} {un : Option (List (Nat × Nat))} (hm : Hm P cx) (hris : rIs P cx.nt ow ops ops.toList = some ris) (hz : ∀ k (hk : k < ris.length), ∀ d, ris[k].dst = some d → cx.fz d = none)
  (hun : (draw = false ∧ un = none) ∨ (draw = true ∧ okReg ops.toList (befS [] ops.toList) ris = true ∧ un = some (unOf (befS [] ops.toList) ris))) {s : St} {K : St → Prop} (h : awpRX P ris un s K)
  (ps : Ps) (a : Act) (w : World) (R : RS cx s ps a w) (fin : ∀ s' ps' a' w', K s' → RS cx s' ps' a' w' → Q .normal a' w') : (Code.region id ops draw).wpIn (FR cx.ro) n P Q a w := by
 obtain ⟨hl, _⟩ := rIs_parts hris
 have hn : ris.length = ops.size := by simpa using hl
 rcases hun with ⟨rfl, rfl⟩ | ⟨rfl, hok, rfl⟩
 ·obtain ⟨l, l1, l2, l3⟩ := runX_run ris [] s _ h
  refine wpIn_region ?_
  rw [List.range_eq_range']
  exact text_sound hm.g hris hz l2 (fun ps a w R => fin _ ps a w l3 R) ops.size 0 (by omega) ps a w R
 ·obtain ⟨l, l1, l2, l3, l4, l5⟩ := runX_run ris [] s _ h
  unfold okReg at hok
  rw [Bool.and_eq_true, List.all_eq_true, List.all_eq_true] at hok
  obtain ⟨k1, k2⟩ := hok
  have hdep : ∀ j (hj : j < ops.size), ∀ e ∈ depOf ops[j], e < j := by
   intro j hj e he
   have hm : (ops[j], j) ∈ ops.toList.zipIdx := by
    rw [List.mem_iff_getElem]
    exact ⟨j, by simpa using hj, by simp⟩
   have := List.all_eq_true.1 (k1 _ hm) e he
   simpa using this
  have hord : ∀ j (hj : j < ops.size) i, ordB (befS [] ops.toList) i j = true → ∃ e ∈ depOf ops[j], e = i ∨ (e < j ∧ ordB (befS [] ops.toList) i e = true) := by
   intro j hj i h
   have := befS_step ops.toList [] j (by simpa using hj) i (by simpa [ordB] using h)
   simpa [ordB] using this
  have hlt : ∀ i j, ordB (befS [] ops.toList) i j = true → i < j := by
   intro i j
   induction j using Nat.strongRecOn with
   | _ j ih =>
    intro h
    have hj : j < ops.size := by
     rcases Nat.lt_or_ge j ops.size with h' | h'
     ·exact h'
     ·have : (befS [] ops.toList).length ≤ j := by rw [befS_len]; simpa using h'
      simp [ordB, List.getD, List.getElem?_eq_none this] at h
    obtain ⟨e, he, hh⟩ := hord j hj i h
    have := hdep j hj e he
    rcases hh with rfl | ⟨_, hh⟩
    ·exact this
    ·have := ih e this hh; omega
  have hra : ∀ k (hk : k < ris.length), riAt ris k = ris[k] := by intro k hk; simp [riAt, List.getD, hk]
  have hgetl : ∀ k, k < ops.size → lgAt ([] ++ l.map fun e => (e.rd, e.post.map (·.1))) k = ((effOf l k).rd, (effOf l k).post.map (·.1)) := by
   intro k hk
   have : k < l.length := by omega
   simp [lgAt, effOf, List.getD, this]
  have nxall : ∀ k, k < ops.size → (effOf l k).nx = s.nx := by
   have le1 : ∀ k (hk : k < ris.length), (stL ris (effOf l) s allL k).nx ≤ (effOf l k).nx := by
    intro k hk
    have hx : ∀ p, Exec P ris[k].op p (stL ris (effOf l) s allL k) (effOf l k) → (stL ris (effOf l) s allL k).nx ≤ (effOf l k).nx := by
     intro p hx
     rcases hx with ⟨u, _, _, hnx, _⟩ | ⟨_, _, _, _, _, _, _, hc, _⟩ | ⟨_, _, _, _, _, he⟩ | ⟨_, _, _, _, _, _, _, u, _, _, _, _, _, he⟩ | ⟨_, _, _, _, _, _, _, _, _, he⟩ | ⟨_, _, _, _, _, _, _, _, _, _, _, _, he⟩
     ·rw [hnx]; cases u <;> simp [Up.nx]
     ·exact hc.le
     ·rw [he]; exact Nat.le_refl _
     ·rw [he]; cases u <;> simp [Up.nx]
     ·rw [he]; exact Nat.le_refl _
     ·rw [he]; exact Nat.le_refl _
    have := l2 k hk
    unfold Stp at this
    split at this
    ·exact hx _ this
    ·obtain ⟨p, _, h⟩ := this
     rcases h with ⟨_, h⟩ | ⟨_, h⟩ | ⟨_, d, _, h⟩ | ⟨_, _, _, _, _, _, _, _, h⟩
     ·exact hx _ h
     ·rw [h]; exact Nat.le_refl _
     ·rw [h]; exact Nat.le_refl _
     ·rw [h]; exact Nat.le_refl _
   have step : ∀ k, (stL ris (effOf l) s allL (k + 1)).nx = (effOf l k).nx := by intro k; simp only [stL, allL, if_true]; rfl
   have mono : ∀ m k, k + m ≤ ris.length → (stL ris (effOf l) s allL k).nx ≤ (stL ris (effOf l) s allL (k + m)).nx := by
    intro m
    induction m with
    | zero => intro k _; exact Nat.le_refl _
    | succ m ih =>
     intro k hk
     refine Nat.le_trans (ih k (by omega)) ?_
     rw [show k + (m + 1) = (k + m) + 1 by omega, step]
     exact le1 (k + m) (by omega)
   intro k hk
   have a1 := mono k 0 (by omega)
   have a2 := le1 k (by omega)
   have a3 := mono (ris.length - (k + 1)) (k + 1) (by omega)
   rw [show k + 1 + (ris.length - (k + 1)) = ris.length by omega, step, l4] at a3
   have : (stL ris (effOf l) s allL 0).nx = s.nx := rfl
   rw [Nat.zero_add] at a1
   omega
  have hs : Sch P ris (effOf l) s ops.size (ordB (befS [] ops.toList)) := by
   refine ⟨hn, fun k hk => l2 k (by omega), nxall, hlt, fun i j hi hj hij ho => ?_, fun i j hi hj hij ho => ?_⟩
   ·have := k2 (i, j) (mem_pairs hij (by omega))
    simp only [ho, Bool.false_or] at this
    rwa [hra i (by omega), hra j (by omega)] at this
   ·by_cases hc : clash ris[i].op ris[j].op = true
    ·have hmem : (i, j) ∈ unOf (befS [] ops.toList) ris := by
      unfold unOf
      refine List.mem_filter.2 ⟨mem_pairs hij (by omega), ?_⟩
      simp only [ho, Bool.not_false, Bool.true_and]
      rw [hra i (by omega), hra j (by omega)]; exact hc
     have := l3 _ hmem
     rw [hgetl i hi, hgetl j hj] at this
     exact this
    ·exact dis_of (l2 i (by omega)) (l2 j (by omega)) (by simpa using hc)
  refine wpIn_region_any hm.m ?_
  refine any_sound hm.g hris hz hs hdep hord (fun ps a w R => fin _ ps a w l5 R) ops.size (Array.replicate ops.size false) (by simp) ?_ ?_ ps a _ ?_
  ·have : ((List.range ops.size).filter fun k => !(Array.replicate ops.size false).getD k false) = List.range ops.size := by
    apply List.filter_eq_self.2
    intro k hk
    have : k < ops.size := by simpa using hk
    simp [Array.getD, this]
   rw [this]; simp
  ·intro j hj h; simp [Array.getD, hj] at h
  ·have : ∀ n, stL ris (effOf l) s (fun k => (Array.replicate ops.size false).getD k false) n = s := by
    intro n
    induction n with
    | zero => rfl
    | succ n ih =>
     have : (Array.replicate ops.size false).getD n false = false := by simp [Array.getD]
     simp only [stL, this, Bool.false_eq_true, if_false, ih]
   rw [this]
   exact R.grew (Grew.drawn w _)
end
end Go.Pv
