/- rule.Parse by hand: its deferred closure recovers from the panic of a fault (both contracts of the closure), and the function's contract out of a run of its body (runP). No condition of its own: over the loaded program. -/
import Derived.Test.YthfejkflhpifnaaDoorRl
import Derived.Test.YthfejkflhpifnaaDoorUs
import Derived.RecoverIn
set_option linter.all false
namespace Go.Pv
open Go.RowKit
theorem RS.leavesD {P : Program} {cx : Cx} {s : St} {ps : Ps} {F : Fence} {n : Nat} {fn : Func} {Rr : Ending → World → Prop} {tmps : Array Value} {u : FrameMode} (hu : u ≠ .run) : ∀ (Ds : List Nat) (w : World), RS cx s ps ⟨tmps, Ds.map (fun D => ({ target := .collected D, args := #[] } : Deferred)) ++ cx.db⟩ w →
    Ds.Nodup → (∀ D, D ∈ Ds → cx.w0.heap.size ≤ D ∧ ¬ cx.M D ∧ w.heap[D]? = some (.deferred (some []))) →
    (∀ w2, RS cx s ps ⟨tmps, cx.db⟩ w2 → LeavesInM F n P fn tmps Rr cx.db u w2) → LeavesInM F n P fn tmps Rr (Ds.map (fun D => ({ target := .collected D, args := #[] } : Deferred)) ++ cx.db) u w
  | [], w, R, _, _, k => k w R
  | D :: Ds, w, R, hnd, h3, k => by
    obtain ⟨hn1, hn2⟩ := List.nodup_cons.1 hnd
    obtain ⟨h0, hM, hD⟩ := h3 D (List.mem_cons_self ..)
    have h3' : ∀ D', D' ∈ Ds → cx.w0.heap.size ≤ D' ∧ ¬ cx.M D' ∧ (w.putObj D (.deferred none)).heap[D']? = some (.deferred (some [])) := fun D' hD' => by
      obtain ⟨g0, g1, g2⟩ := h3 D' (List.mem_cons_of_mem _ hD')
      exact ⟨g0, g1, by rw [World.putObj_heap_other (by rintro rfl; exact hn1 hD')]; exact g2⟩
    refine ⟨hu, .inl ⟨D, w.putObj D (.deferred none), rfl, run_takeDeferred hD, RS.leavesD hu Ds _ ?_ hn2 h3' k⟩⟩
    exact R.quiet (Quiet.putObj hD (fun _ _ _ e => by cases e) h0) ⟨Ds, rfl, hn2, h3'⟩
theorem wpOpsIn_val {ro : Option Nat} {n : Nat} {P : Program} {ops : Array Oper} {Q : Exit → Act → World → Prop} {i : Nat} {rest : List Nat} {a : Act} {w w' : World} {o : Oper} {v : Value} (h0 : ops[i]? = some o) (hw : Region.wanted o (yielded ops a.tmps) = true)
    (hr : (o.semAt (FR ro).round a.eval).run P w = .ok (.value v) w') (k : wpOpsIn (FR ro) n P ops Q rest (a.put o.dst v) w') : wpOpsIn (FR ro) n P ops Q (i :: rest) a w := by
  unfold wpOpsIn
  rw [h0]
  simp only
  rw [if_pos hw]
  refine ⟨fun _ _ => trivial, ?_⟩
  rw [hr]; exact k
theorem wpOpsIn_def {ro : Option Nat} {n : Nat} {P : Program} {ops : Array Oper} {Q : Exit → Act → World → Prop} {i : Nat} {rest : List Nat} {a : Act} {w w' : World} {o : Oper} {d : Deferred} (h0 : ops[i]? = some o) (hw : Region.wanted o (yielded ops a.tmps) = true)
    (hr : (o.semAt (FR ro).round a.eval).run P w = .ok (.defer d) w') (k : wpOpsIn (FR ro) n P ops Q rest ({ a with defers := d :: a.defers }.put o.dst undef) w') : wpOpsIn (FR ro) n P ops Q (i :: rest) a w := by
  unfold wpOpsIn
  rw [h0]
  simp only
  rw [if_pos hw]
  refine ⟨fun _ _ => trivial, ?_⟩
  rw [hr]; exact k
def AC.nofzB (l : List Nat) : AC → Bool
  | .rg ris _ => ris.all fun r => match r.dst with
    | some d => !l.elem d
    | none => true
  | .seq a b => a.nofzB l && b.nofzB l
  | .cond _ a b => a.nofzB l && b.nofzB l
  | .block _ c => c.nofzB l
  | .loop c => c.nofzB l
  | _ => true
theorem AC.nofzB_ok {l : List Nat} {fz : Nat → Option Value} (hl : ∀ t, t ∉ l → fz t = none) : ∀ (ac : AC), ac.nofzB l = true → ac.nofz fz
  | .rg ris _, h => fun k hk d hd => by
    have h1 := List.all_eq_true.1 h ris[k] (List.getElem_mem hk)
    rw [hd] at h1
    exact hl d (by simpa using h1)
  | .seq a b, h => by
    simp only [AC.nofzB, Bool.and_eq_true] at h
    exact ⟨nofzB_ok hl a h.1, nofzB_ok hl b h.2⟩
  | .cond _ a b, h => by
    simp only [AC.nofzB, Bool.and_eq_true] at h
    exact ⟨nofzB_ok hl a h.1, nofzB_ok hl b h.2⟩
  | .block _ c, h => nofzB_ok hl c h
  | .loop c, h => nofzB_ok hl c h
  | .skip, _ | .exit _, _ | .ret, _ | .bad, _ | .rngf _ _ _ _, _ => trivial
theorem results_ok {P : Program} {H : Hp} {ps : Ps} {M : Nat → Prop} {nx : Nat} {w : World} {T : Nat → DV} {tmps : Array Value} {fn : Func} {rs : List RR} {ds : List DV} {res : DV} (hr : HR H ps M nx w) (hT : ∀ t, VR H ps M nx w (T t) (tmps.getD t undef)) (hrs : resR P fn.results.toList = some rs) (hds : rrV T H rs = some ds) (hres : WkD (resV ds) res) :
    ∃ v, (results fn tmps).run P w = .ok v w ∧ VR H ps M nx w res v := by
  obtain ⟨vs, k1, k2, k3⟩ := rr_sound (P := P) (tmps := tmps) hr hT fn.results.toList rs ds hrs hds
  refine ⟨if h : vs.toArray.size = 1 then vs.toArray[0] else .tuple vs.toArray, ?_, ?_⟩
  · have hres : results fn tmps = (do let vs ← fn.results.mapM (resOne tmps); Pure.pure (if h : vs.size = 1 then vs[0] else .tuple vs)) := by
      unfold results
      congr 1
    rw [hres, Array.mapM_eq_mapM_toList]
    simp only [Sem.run_bind, Sem.run_map]
    rw [k1]
    simp
  · refine hres _ _ _ _ _ _ ?_
    cases ds with
    | nil =>
      have : vs = [] := by simpa using k2
      subst this
      exact .tup _ _ rfl (fun j hj => by simp at hj)
    | cons d ds =>
      cases ds with
      | nil =>
        obtain ⟨v, rfl⟩ : ∃ v, vs = [v] := by
          cases vs with
          | nil => simp at k2
          | cons v vs => cases vs with
            | nil => exact ⟨v, rfl⟩
            | cons _ _ => simp at k2
        exact k3 0 (by simp) (by simp)
      | cons d2 ds =>
        rw [dif_neg (by simp [k2])]
        refine .tup _ _ (by simp [k2]) fun j hj => ?_
        have hj2 : j < vs.length := by omega
        have := k3 j hj hj2
        simpa [Array.getD, hj2] using this
theorem box_at {H : Hp} {ps : Ps} {M : Nat → Prop} {nx : Nat} {w : World} {o : Nat} {ck : Ck} {c : IV} {p : Ph} (hr : HR H ps M nx w) (ho : H o = some ck) (hc : CkR H nx (.box 0 [c]) ck) (hp : ps o = some p) : ∃ v, w.cell? ⟨p.b, p.k, none⟩ = some v ∧ w.frozen? ⟨p.b, p.k, none⟩ = false := by
  obtain ⟨h1, ds, h2, h3, h4⟩ := hc
  have h1 : ck.sz = 1 := h1
  rcases hr.cr o ck ho with ⟨g1, g2⟩ | ⟨p', cc, E, vs, g1, g2, g3, g4, g5, g6, g7⟩
  · rw [h2] at g2; cases g2
  · rw [hp] at g1; injection g1 with g1; subst g1
    have := (g6 0 0 (by rw [h2]; simp) (by omega)).2
    refine ⟨vs 0 0, ?_, ?_⟩
    · rw [g2.cell]; simpa using this
    · exact g2.froz _ (by have := (Array.getElem?_eq_some_iff.mp this).1; simpa using this)
/-- An object is laid at the heap's end: nothing that is read turns. -/
theorem Kp.push {H : Hp} {ps : Ps} {M : Nat → Prop} {nx : Nat} {w : World} (o : Obj) : Kp H ps M nx w H ps M nx (w.alloc o) :=
  ⟨Nat.le_refl _, fun o _ ck' h => ⟨ck', h, .inr ⟨rfl, rfl, Nat.le_refl _, rfl⟩⟩, fun _ h => .inl h, fun b hb _ => by
    show (w.heap.push o)[b]? = _
    rw [Array.getElem?_push_lt hb, Array.getElem?_eq_getElem hb]⟩
theorem HR.push {H : Hp} {ps : Ps} {M : Nat → Prop} {nx : Nat} {w : World} (h : HR H ps M nx w) (o : Obj) : HR H ps M nx (w.alloc o) := by
  refine ⟨h.lt, fun o' ck ho => (h.cr o' ck ho).mono (Kp.push o) rfl fun p hp => ?_, h.inj, fun b hb => Nat.lt_of_lt_of_le (h.ml b hb) (by show _ ≤ (w.heap.push o).size; simp), h.dj⟩
  have hb := h.live_lt ho hp
  show (w.heap.push o)[p.b]? = _
  rw [Array.getElem?_push_lt hb, Array.getElem?_eq_getElem hb]
theorem Fr.push {B : Nat → Prop} {w0 w : World} (h : Fr B w0 w) (o : Obj) : Fr B w0 (w.alloc o) :=
  ⟨h.os, h.tape, h.output, Nat.le_trans h.size (by show _ ≤ (w.heap.push o).size; simp), fun b hb hB => by
    rw [← h.block b hb hB]
    have hb' := Nat.lt_of_lt_of_le hb h.size
    show (w.heap.push o)[b]? = _
    rw [Array.getElem?_push_lt hb', Array.getElem?_eq_getElem hb']⟩
theorem Fr.set {B : Nat → Prop} {w0 w : World} (h : Fr B w0 w) {a : Addr} {v : Value} (ha : w0.heap.size ≤ a.block) : Fr B w0 (w.setCell a v) :=
  ⟨h.os, h.tape, h.output, Nat.le_trans h.size (by show _ ≤ (w.setCell a v).heap.size; simp [World.setCell]), fun b hb hB => by
    rw [← h.block b hb hB]
    unfold World.setCell
    simp only [Array.getElem?_modify]
    rw [if_neg (by omega)]⟩
end Go.Pv
namespace Go.Proofs.YthfejkflhpifnaaDoor
open Go.Pv
namespace M
theorem ta_yes (w : World) : (Instr.typeAssert (.iface 64 (.agg #[])) 20 64 true).run Tryd.prog w = .ok (.tuple #[.agg #[], .bool true]) w := by kernel_rfl
theorem ta_no (w : World) : (Instr.typeAssert .nilIface 20 64 true).run Tryd.prog w = .ok (.tuple #[.agg #[], .bool false]) w := by kernel_rfl
theorem cell_alloc {w : World} {p : Addr} {v : Value} {o : Obj} (h : w.cell? p = some v) : (w.alloc o).cell? p = some v := by
  have : p.block < w.heap.size := by
    rcases Nat.lt_or_ge p.block w.heap.size with h' | h'
    · exact h'
    · unfold World.cell? at h; rw [Array.getElem?_eq_none h'] at h; cases h
  unfold World.cell? at h ⊢
  simp only [World.alloc]
  rw [Array.getElem?_push_lt this]
  rw [Array.getElem?_eq_getElem this] at h
  exact h
theorem froz_alloc {w : World} {p : Addr} {v : Value} {o : Obj} (h : w.cell? p = some v) (z : w.frozen? p = false) : (w.alloc o).frozen? p = false := by
  have : p.block < w.heap.size := by
    rcases Nat.lt_or_ge p.block w.heap.size with h' | h'
    · exact h'
    · unfold World.cell? at h; rw [Array.getElem?_eq_none h'] at h; cases h
  unfold World.frozen? at z ⊢
  simp only [World.alloc]
  rw [Array.getElem?_push_lt this]
  rw [Array.getElem?_eq_getElem this] at z
  exact z
theorem cell_far {w : World} {p q : Addr} {v : Value} (h : p.block ≠ q.block) : (w.setCell p v).cell? q = w.cell? q := by
  unfold World.cell? World.setCell
  simp only [Array.getElem?_modify]
  rw [if_neg h]
theorem cell_set {w : World} {p : Addr} {u v : Value} (h : w.cell? p = some u) : (w.setCell p v).cell? p = some v := by
  unfold World.cell? at h
  unfold World.cell? World.setCell
  simp only [Array.getElem?_modify, if_true]
  cases hb : w.heap[p.block]? with
  | none => rw [hb] at h; cases h
  | some o =>
    rw [hb] at h
    cases o with
    | cells c e f =>
      simp only at h
      cases hs : p.spot.isSome with
      | true => simp [hs] at h
      | false =>
        simp only [hs] at h
        have : p.off < c.size := by
          rcases Nat.lt_or_ge p.off c.size with h' | h'
          · exact h'
          · simp [Array.getElem?_eq_none h'] at h
        simp [hs, this]
    | _ => cases h
theorem parse1_pan (p q : Addr) (w : World) (vp vq : Value) (hne : p.block ≠ q.block) (hp : w.cell? p = some vp) (hq : w.cell? q = some vq) (zp : w.frozen? p = false) (zq : w.frozen? q = false) :
    CallsDIn (FR none) 0 Tryd.prog 36 #[.pointer (some p), .pointer (some q)] (.panicking chF) w fun e u' w' =>
      e = .returned (.tuple #[]) ∧ u' = .panicking [{ v := .iface 64 (.agg #[]), recovered := true }] ∧ w' = ((w.alloc (.cells #[] 64)).setCell p (.slice none 0 0)).setCell q (.int .i64 6) := by
  refine callsDIn_of_wpSIn Tryd.func36 rfl trivial fun c₀ cs hu => ?_
  apply wpSIn_seq
  apply wpSIn_region
  simp [wpOpsSIn, go_sem, recoverD, hu, chF, Exit.thenS]
  apply wpSIn_seq
  apply wpSIn_region
  simp [wpOpsSIn, go_sem, Exit.thenS, ta_yes]
  apply wpSIn_seq
  apply wpSIn_region
  simp [wpOpsSIn, go_sem, Exit.thenS]
  refine wpSIn_cond (t := true) (by simp [Act.eval, Array.replicate]) ?_
  simp only [if_true]
  apply wpSIn_region
  have hp2 : (w.alloc (Obj.cells #[] 64)).cell? p = some vp := cell_alloc hp
  have hq2 : (w.alloc (Obj.cells #[] 64)).cell? q = some vq := cell_alloc hq
  have zp2 : (w.alloc (Obj.cells #[] 64)).frozen? p = false := froz_alloc hp zp
  have zq2 : (w.alloc (Obj.cells #[] 64)).frozen? q = false := froz_alloc hq zq
  have hq3 : ((w.alloc (Obj.cells #[] 64)).setCell p (Value.slice none 0 0)).cell? q = some vq := by rw [cell_far hne]; exact hq2
  simp [wpOpsSIn, go_sem, hp2, hq3, zp2, zq2, bodyPostS, results]
theorem parse1_ret (p q : Addr) (w : World) :
    CallsDIn (FR none) 0 Tryd.prog 36 #[.pointer (some p), .pointer (some q)] .returning w fun e u' w' =>
      e = .returned (.tuple #[]) ∧ u' = .returning ∧ w' = w.alloc (.cells #[] 64) := by
  refine callsDIn_of_wpSIn Tryd.func36 rfl trivial fun c₀ cs hu => ?_
  apply wpSIn_seq
  apply wpSIn_region
  simp [wpOpsSIn, go_sem, recoverD, hu, chF, Exit.thenS]
  apply wpSIn_seq
  apply wpSIn_region
  simp [wpOpsSIn, go_sem, Exit.thenS, ta_no]
  apply wpSIn_seq
  apply wpSIn_region
  simp [wpOpsSIn, go_sem, Exit.thenS]
  refine wpSIn_cond (t := false) (by simp [Act.eval, Array.replicate]) ?_
  simp only [Bool.false_eq_true, if_false]
  apply wpSIn_seq
  apply wpSIn_region
  simp [wpOpsSIn, go_sem, Exit.thenS]
  refine wpSIn_cond (t := false) (by simp [Act.eval, Array.replicate]) ?_
  simp only [Bool.false_eq_true, if_false]
  refine wpSIn_of_wpIn rfl (wpIn_skip ?_)
  cases c₀
  simp_all [bodyPostS, results]

/-- Boxes 0 and 1 must still be there when the function panics. -/
def kpR {α : Type} : IH → Option (Option α) := fun HI => match getH HI 0, getH HI 1 with
  | some (.box 0 [_]), some (.box 0 [_]) => some none
  | _, _ => none
def recM (m : Option (Option (List (El G_Nd) × Int))) : Option (List (El G_Nd) × Int) := match m with
  | some (some r) => some r
  | some none => some ([], 6)
  | none => none
noncomputable def parseRest : Code := match Tryd.f22.body with
  | some (.seq _ (.seq _ c)) => c
  | _ => .skip
def parseW1 (w : World) : World := w.alloc (.cells #[.slice none 0 0] 23)
def parseW (w : World) : World := (parseW1 w).alloc (.cells #[.int .i64 0] 29)
def parseP (w : World) : Value := .pointer (some ⟨w.heap.size, 0, none⟩)
def parseD (w : World) : Deferred := { target := .fn (.func 36) #[parseP w, parseP (parseW1 w)], args := #[] }
def parseB (x : Value) (w : World) : Act := ((({ tmps := #[x] ++ Array.replicate 28 undef, defers := [] } : Act).put (some 2) (parseP w)).put (some 3) (parseP (parseW1 w))).put (some 5) (.func (.func 36) #[] #[parseP w, parseP (parseW1 w)])
def parseA (x : Value) (w : World) : Act := { parseB x w with defers := parseD w :: (parseB x w).defers }.put none undef
theorem parse_begin {Q : Exit → Act → World → Prop} (x : Value) (w : World) (h : parseRest.wpIn (FR none) 0 Tryd.prog Q (parseA x w) (parseW w)) :
    (bodyOf Tryd.f22).wpIn (FR none) 0 Tryd.prog Q { tmps := #[x] ++ Array.replicate 28 undef, defers := [] } w := by
  show Code.wpIn _ _ _ (Code.seq _ (Code.seq _ parseRest)) _ _ _
  refine wpIn_seq (wpIn_region ?_)
  refine wpOpsIn_val (i := 0) (rest := [1]) rfl rfl (v := parseP w) (w' := parseW1 w) (by kernel_rfl) ?_
  refine wpOpsIn_val (i := 1) (rest := []) rfl rfl (v := parseP (parseW1 w)) (w' := parseW w) (by kernel_rfl) ?_
  refine wpIn_seq (wpIn_region ?_)
  refine wpOpsIn_val (i := 0) (rest := [1]) rfl rfl (v := .func (.func 36) #[] #[parseP w, parseP (parseW1 w)]) (w' := parseW w) (by kernel_rfl) ?_
  refine wpOpsIn_def (i := 1) (rest := []) rfl rfl (d := parseD w) (w' := parseW w) (by kernel_rfl) ?_
  exact h

theorem parseA_tmps (x : Value) (w : World) : (parseA x w).tmps = (parseB x w).tmps := by kernel_rfl
theorem parseA_defers (x : Value) (w : World) : (parseA x w).defers = [parseD w] := by kernel_rfl
theorem parseB_2 (x : Value) (w : World) : (parseB x w).tmps.getD 2 undef = parseP w := by kernel_rfl
theorem parseB_3 (x : Value) (w : World) : (parseB x w).tmps.getD 3 undef = parseP (parseW1 w) := by kernel_rfl
theorem one0 : ∀ j, j < [DV.lst true []].length → ((#[Value.slice none 0 0] : Array Value).getD j undef).oneCell' = true := fun j hj => by
  have : j = 0 := by simpa using hj
  subst this; rfl
theorem one0' : ∀ j, j < [I 0].length → ((#[Value.int .i64 0] : Array Value).getD j undef).oneCell' = true := fun j hj => by
  have : j = 0 := by simpa using hj
  subst this; rfl
theorem parse_ok {tp : TP} {env : List (Nat × Ent)} {penv : List (Nat × PEnt)} {N : Nat} {modelP : List UInt8 → Option (Option (List (El G_Nd) × Int))} (hc : comp Tryd.prog 29 (fun _ => false) parseRest = some tp.er) (hz : tp.er.nofzB [2, 3] = true) (hE : EnvOK Tryd.prog env) (hP : PEnvOK Tryd.prog chF penv)
    (hh : tp.hok Tryd.prog 29 (fun _ => false) false)
    (hrun : ∀ x : List UInt8, runP penv env N 2 kpR tp ⟨[(3, .ptr 1 0 0), (2, .ptr 0 0 0), (0, .str x)], [some (.box 0 ([DV.lst true []].map ofDc)), some (.box 0 ([I 0].map ofDc))]⟩ (mapS (fin [(.cell 2 false 1), (.cell 3 false 1)] [.list G_Nd, .int .i64])) = modelP x) :
    PureOK Tryd.prog 22 [.str] [.list G_Nd, .int .i64] (fun x => recM (modelP x)) := by
  intro x y hy nb
  refine CallOK.lift0 ?_ (valsD_ids [.str] x) (resV_ids (valsD_ids [.list G_Nd, .int .i64] y)) nb
  obtain ⟨q, hq, hqy⟩ : ∃ q, modelP x = some q ∧ (match q with | some r => r | none => ([], 6)) = y := by
    have hy : recM (modelP x) = some y := hy
    unfold recM at hy
    split at hy
    · rename_i r hr; injection hy with hy; exact ⟨some r, hr, hy⟩
    · rename_i hr; injection hy with hy; exact ⟨none, hr, hy⟩
    · cases hy
  refine ⟨⟨Tryd.f22, Tryd.func22, by kernel_rfl, by kernel_rfl⟩, fun o ck h => (by cases h), fun o ck h => (by cases h), Nat.le_refl _, (resV_ids (valsD_ids [.list G_Nd, .int .i64] y)).mono' fun _ h => h.elim, fun o ck h => (by cases h), fun M ps w cargs hr hsz hva hgl => ?_⟩
  have hx : cargs = #[.string (mkS x)] := by
    have hsz : cargs.size = 1 := hsz
    refine Array.ext hsz fun i h1 h2 => ?_
    have hi : i = 0 := by omega
    subst hi
    have := (hva 0 Nat.zero_lt_one).v_inv
    simpa [Array.getD_eq_getD_getElem?, h1] using this
  subst hx
  let cx0 : Cx := ⟨29, M, Live (ofL []) ps, w, ofL [], ps, 0, none, fun _ => none, []⟩
  have R0 : RS cx0 ⟨ofArgs (valsD [.str] x), ofL [], 0⟩ ps { tmps := #[.string (mkS x)] ++ Array.replicate 28 undef, defers := [] } w := by
    refine ⟨fun t => ?_, by simp [cx0], hr, Fr.refl _ _, fun o ck p h1 h2 => .inl ⟨o, ck, p, h1, h2, rfl⟩, Marks.nil, Nat.le_refl _, fun o _ ck' hk => ⟨ck', hk, .inr ⟨rfl, rfl, Nat.le_refl _, rfl⟩⟩, fun t v h => by cases h⟩
    cases t with
    | zero =>
      have e2 : (#[Value.string (mkS x)] ++ Array.replicate 28 undef).getD 0 undef = .string (mkS x) := by simp [Array.getD_eq_getD_getElem?]
      show VR _ _ _ _ _ (.v (.string (mkS x))) ((#[Value.string (mkS x)] ++ Array.replicate 28 undef).getD 0 undef)
      rw [e2]; exact .v _
    | succ t =>
      show VR _ _ _ _ _ .any _
      exact .any _
  obtain ⟨m1, v1⟩ := Mv.box (cx := cx0) [.lst true []] #[.slice none 0 0] 23 R0.hr R0.fr R0.lb rfl one0 (fun j hj => by
    have : j = 0 := by simpa using hj
    subst this
    exact .lnil _ _ _ fun _ => rfl)
  have R1 := R0.step (dst := some 2) m1 v1 (fun t h => by cases h; exact ⟨by show 2 < 29; omega, rfl⟩)
  obtain ⟨m2, v2⟩ := Mv.box (cx := cx0) [I 0] #[.int .i64 0] 29 R1.hr R1.fr R1.lb rfl one0' (fun j hj => by
    have : j = 0 := by simpa using hj
    subst this
    exact .v _)
  have R2 := R1.step (dst := some 3) m2 v2 (fun t h => by cases h; exact ⟨by show 3 < 29; omega, rfl⟩)
  have S0 : SR ⟨[(0, .str x)], []⟩ ⟨ofArgs (valsD [.str] x), ofL [], 0⟩ := start_rel (valsI_rel [.str] x) (fun o c h => by simp [getH] at h) rfl
  have S1 := S0.al (CkR.boxI (g := 0) (n := 1) rfl (ofDcs_rel [DV.lst true []])) (v := .ptr 0 0 0) (d := .ptr 0 0 0 0) (.ptr _ _ _ _ (Nat.lt_succ_self _) fun ck hk => by
    rw [Hp.put_same] at hk; injection hk with hk; subst hk; exact ⟨rfl, by simp⟩) (some 2)
  have S2 := S1.al (CkR.boxI (g := 0) (n := 1) rfl (ofDcs_rel [I 0])) (v := .ptr 1 0 0) (d := .ptr 1 0 0 0) (.ptr _ _ _ _ (Nat.lt_succ_self _) fun ck hk => by
    rw [Hp.put_same] at hk; injection hk with hk; subst hk; exact ⟨rfl, by simp⟩) (some 3)
  have hp0 : ∀ ck, ((((ofL []).put 0 (some ⟨0, 1, [[DV.lst true []]]⟩)).put 1 (some ⟨0, 1, [[I 0]]⟩)) : Hp) 0 = some ck → ck.gen = 0 := fun ck h => by
    rw [Hp.put_ne _ _ _ (by omega), Hp.put_same] at h; exact (congrArg Ck.gen (Option.some.inj h)).symm
  have hp1 : ∀ ck, ((((ofL []).put 0 (some ⟨0, 1, [[DV.lst true []]]⟩)).put 1 (some ⟨0, 1, [[I 0]]⟩)) : Hp) 1 = some ck → ck.gen = 0 := fun ck h => by
    rw [Hp.put_same] at h; exact (congrArg Ck.gen (Option.some.inj h)).symm
  have hs0 : ((ps.put 0 (some ⟨w.heap.size, 0, 1⟩)).put 1 (some ⟨(parseW1 w).heap.size, 0, 1⟩)) 0 = some ⟨w.heap.size, 0, 1⟩ := by rw [Ps.put_ne _ _ _ (by omega), Ps.put_same]
  have hs1 : ((ps.put 0 (some ⟨w.heap.size, 0, 1⟩)).put 1 (some ⟨(parseW1 w).heap.size, 0, 1⟩)) 1 = some ⟨(parseW1 w).heap.size, 0, 1⟩ := by rw [Ps.put_same]
  change RS cx0 ⟨_, ((ofL []).put 0 (some ⟨0, 1, [[DV.lst true []]]⟩)).put 1 (some ⟨0, 1, [[I 0]]⟩), 2⟩ ((ps.put 0 (some ⟨w.heap.size, 0, 1⟩)).put 1 (some ⟨(parseW1 w).heap.size, 0, 1⟩)) _ (parseW w) at R2
  change SR ⟨[(3, .ptr 1 0 0), (2, .ptr 0 0 0), (0, .str x)], [some (.box 0 ([DV.lst true []].map ofDc)), some (.box 0 ([I 0].map ofDc))]⟩ ⟨_, ((ofL []).put 0 (some ⟨0, 1, [[DV.lst true []]]⟩)).put 1 (some ⟨0, 1, [[I 0]]⟩), 2⟩ at S2
  clear m1 v1 R1 m2 v2 S0 S1
  generalize ((ofL []).put 0 (some ⟨0, 1, [[DV.lst true []]]⟩)).put 1 (some ⟨0, 1, [[I 0]]⟩) = H2 at R2 S2 hp0 hp1
  generalize (ps.put 0 (some ⟨w.heap.size, 0, 1⟩)).put 1 (some ⟨(parseW1 w).heap.size, 0, 1⟩) = ps2 at R2 hs0 hs1
  have hT5 : ∀ t, putT (putT (ofArgs (valsD [.str] x)) (some 2) (.ptr 0 0 0 0)) (some 3) (.ptr 1 0 0 0) t = upd (putT (putT (ofArgs (valsD [.str] x)) (some 2) (.ptr 0 0 0 0)) (some 3) (.ptr 1 0 0 0)) 5 .any t := fun t => by
    by_cases e : t = 5
    · subst e; rfl
    · rw [upd_ne _ _ _ _ e]
  have R3 := R2.step (dst := some 5) (x := .func (.func 36) #[] #[parseP w, parseP (parseW1 w)]) (d := .any) ⟨Kp.refl .., R2.hr, R2.fr, R2.lb⟩ (.any _) (fun t h => by cases h; exact ⟨by show 5 < 29; omega, rfl⟩)
  change RS cx0 _ ps2 (parseB (.string (mkS x)) w) (parseW w) at R3
  have hnt : (parseA (.string (mkS x)) w).tmps.size = 29 := by rw [parseA_tmps]; exact R3.nt
  have htm : ∀ t, (parseA (.string (mkS x)) w).tmps.getD t undef = (parseB (.string (mkS x)) w).tmps.getD t undef := fun t => by rw [parseA_tmps]
  let fz : Nat → Option Value := fun t => if t = 2 then some (parseP w) else if t = 3 then some (parseP (parseW1 w)) else none
  let cx1 : Cx := ⟨29, M, Live H2 ps2, parseW w, H2, ps2, 2, none, fz, [parseD w]⟩
  have R4 : RS cx1 ⟨putT (putT (ofArgs (valsD [.str] x)) (some 2) (.ptr 0 0 0 0)) (some 3) (.ptr 1 0 0 0), H2, 2⟩ ps2 (parseA (.string (mkS x)) w) (parseW w) := by
    refine ⟨fun t => ?_, hnt, R2.hr, Fr.refl _ _, fun o ck p h1 h2 => .inl ⟨o, ck, p, h1, h2, rfl⟩, by rw [parseA_defers]; exact Marks.nil, Nat.le_refl _, fun o _ ck' hk => ⟨ck', hk, .inr ⟨rfl, rfl, Nat.le_refl _, rfl⟩⟩, fun t v h => ?_⟩
    · rw [htm t]
      have := R3.t t
      have e := hT5 t
      show VR H2 ps2 M 2 (parseW w) (putT (putT (ofArgs (valsD [.str] x)) (some 2) (.ptr 0 0 0 0)) (some 3) (.ptr 1 0 0 0) t) _
      rw [e]; exact this
    · rw [htm t]
      have h : fz t = some v := h
      by_cases e2 : t = 2
      · subst e2; rw [parseB_2]; exact Option.some.inj h
      · by_cases e3 : t = 3
        · subst e3; rw [parseB_3]; exact Option.some.inj h
        · simp only [fz] at h
          rw [if_neg e2, if_neg e3] at h; cases h
  have hgl2 : GlOK Tryd.prog (parseW w) (Live H2 ps2) := hgl.of R2.fr fun b ⟨o, ck, p, h1, h2, h3⟩ => h3 ▸ R2.lb o ck p h1 h2
  have hr1 : runP penv env N cx1.nb kpR tp _ (mapS (fin [(.cell 2 false 1), (.cell 3 false 1)] [.list G_Nd, .int .i64])) = some q := (hrun x).trans hq
  have A1 := runP_sound (ow := fun _ => false) hE hP N tp cx1 hh _ _ _ S2 hr1
  refine (callsFR (ro := none) (n := 0)).1 (callsIn_of_wp_marks Tryd.func22 rfl trivial ?_)
  refine parse_begin _ _ (wpIn_mono (A1 ⟨Tryd.checked.mixed, hgl2⟩ parseRest hc (AC.nofzB_ok (fun t ht => ?_) _ hz) ps2 _ _ R4) ?_)
  · simp only [List.mem_cons, List.not_mem_nil, or_false, not_or] at ht
    simp only [cx1, fz]
    rw [if_neg ht.1, if_neg ht.2]
  rintro e ⟨tmps, ds⟩ w' ⟨s', ps', R', hfin⟩
  obtain ⟨Ds, hds, hnd, hDs⟩ := R'.df
  simp only at hds
  subst hds
  have frC : ∀ {w2 : World}, RS cx1 s' ps' ⟨tmps, cx1.db⟩ w2 → Fr (Live (ofL []) ps) w w2 := fun {w2} R5 =>
    ⟨R5.fr.os.trans R2.fr.os, R5.fr.tape.trans R2.fr.tape, R5.fr.output.trans R2.fr.output, Nat.le_trans R2.fr.size R5.fr.size, fun b hb hB => (R5.fr.block b (Nat.lt_of_lt_of_le hb R2.fr.size) (fun ⟨o, ck, p, h1, h2, h3⟩ => (R2.lb o ck p h1 h2).elim (fun h => hB (h3 ▸ h)) (fun h => by have h : w.heap.size ≤ p.b := h; omega))).trans (R2.fr.block b hb hB)⟩
  have finish : ∀ {H : Hp} {nx : Nat} {w3 : World} {v : Value}, (∀ b, M b → b < w3.heap.size) → VR H ps' M nx w3 (resV (valsD [.list G_Nd, .int .i64] y)) v → Fr (Live (ofL []) ps) w w3 →
      ∃ v' ps'', Ending.returned v = .returned v' ∧ VR (ofL []) ps'' M 0 w3 (resV (valsD [.list G_Nd, .int .i64] y)) v' ∧ HR (ofL []) ps'' M 0 w3 ∧ Fr (Live (ofL []) ps) w w3 ∧ (∀ o ck p, ofL [] o = some ck → ps'' o = some p → Live (ofL []) ps p.b ∨ w.heap.size ≤ p.b) ∧ (∀ o, o < 0 → ∀ ck', ofL [] o = some ck' → ∃ ck, ofL [] o = some ck ∧ Later ps ps'' o ck ck') := fun {H nx w3 v} h1 h2 h3 =>
    ⟨v, ps', rfl, h2.monoS (resV_ids (valsD_ids [.list G_Nd, .int .i64] y)) ⟨fun o h => h.elim, fun o h => h.elim, fun b hb => .inl (hb.elim .inl fun ⟨o, ck, p, h, _⟩ => by cases h), fun _ _ _ => rfl⟩, ⟨fun o ck h => (by cases h), fun o ck h => (by cases h), fun o o' ck ck' p p' h => (by cases h), h1, fun o ck p h => (by cases h)⟩, h3, fun o ck p h => (by cases h), fun o _ ck h => (by cases h)⟩
  rcases hfin with ⟨si', k1, k2⟩ | ⟨rfl, HI, k1, k2, k3⟩
  · simp only [mapS, Option.map_eq_some_iff] at k2
    obtain ⟨r, k2, rfl⟩ := k2
    have hqy : r = y := hqy
    subst hqy
    obtain ⟨he, dd, hdd, hres⟩ := fin_sound k2 k1
    rcases he with rfl | rfl
    all_goals
      refine RS.leavesD (cx := cx1) (u := .returning) (fun e => by cases e) Ds w' R' hnd hDs fun w2 R5 => ?_
      show LeavesInM (FR none) 0 _ _ tmps _ [parseD w] _ w2
      refine ⟨(fun e => by cases e), .inr ⟨(fun e => by cases e), _, _, 36, #[parseP w, parseP (parseW1 w)], rfl, by kernel_rfl, fun _ _ => trivial, (parse1_ret _ _ w2).mono ?_⟩⟩
      rintro e' u' w3 ⟨rfl, rfl, rfl⟩
      obtain ⟨v, hrun, hv⟩ := results_ok (fn := Tryd.f22) (P := Tryd.prog) (tmps := tmps) (R5.hr.push (.cells #[] 64)) (fun t => (R5.t t).mono (Kp.push _)) (by kernel_rfl) hdd hres
      exact ⟨v, hrun, finish (R5.hr.push _).ml hv ((frC R5).push _)⟩
  · unfold kpR at k3
    split at k3
    · rename_i c0 c1 hb0 hb1
      injection k3 with k3; subst k3
      have hqy : (([], 6) : List (El G_Nd) × Int) = y := hqy
      subst hqy
      refine RS.leavesD (cx := cx1) (u := .panicking chF) (fun e => by cases e) Ds w' R' hnd hDs fun w2 R5 => ?_
      obtain ⟨_, ck0, a1, a2⟩ := k1 0 _ hb0
      obtain ⟨_, ck1, a3, a4⟩ := k1 1 _ hb1
      have q0 : ps' 0 = some ⟨w.heap.size, 0, 1⟩ := by
        obtain ⟨ckx, x1, x2⟩ := R5.gm 0 (by show 0 < 2; omega) ck0 a1
        have g0 := hp0 ckx x1
        obtain ⟨_, _, _, _, g1⟩ := a2
        rcases x2 with x2 | ⟨_, _, _, x2⟩
        · omega
        · rw [x2]; exact hs0
      have q1 : ps' 1 = some ⟨(parseW1 w).heap.size, 0, 1⟩ := by
        obtain ⟨ckx, x1, x2⟩ := R5.gm 1 (by show 1 < 2; omega) ck1 a3
        have g0 := hp1 ckx x1
        obtain ⟨_, _, _, _, g1⟩ := a4
        rcases x2 with x2 | ⟨_, _, _, x2⟩
        · omega
        · rw [x2]; exact hs1
      obtain ⟨vp, b1, b2⟩ := box_at R5.hr a1 a2 q0
      obtain ⟨vq, b3, b4⟩ := box_at R5.hr a3 a4 q1
      have hsz1 : (parseW1 w).heap.size = w.heap.size + 1 := by unfold parseW1; show (w.heap.push _).size = _; simp
      have hne : (⟨w.heap.size, 0, none⟩ : Addr).block ≠ (⟨(parseW1 w).heap.size, 0, none⟩ : Addr).block := by show w.heap.size ≠ (parseW1 w).heap.size; omega
      have t2 : tmps.getD 2 undef = parseP w := R5.fz 2 _ rfl
      have t3 : tmps.getD 3 undef = parseP (parseW1 w) := R5.fz 3 _ rfl
      show LeavesInM (FR none) 0 _ _ tmps _ [parseD w] _ w2
      refine ⟨(fun e => by cases e), .inr ⟨(fun e => by cases e), _, _, 36, #[parseP w, parseP (parseW1 w)], rfl, by kernel_rfl, fun _ _ => trivial, (parse1_pan _ _ w2 vp vq hne b1 b3 b2 b4).mono ?_⟩⟩
      rintro e' u' w3 ⟨rfl, rfl, rfl⟩
      generalize hw3 : ((w2.alloc (.cells #[] 64)).setCell _ _).setCell _ _ = w3
      have e1 : w3.cell? ⟨w.heap.size, 0, none⟩ = some (.slice none 0 0) := by rw [← hw3, cell_far (fun e => hne e.symm)]; exact cell_set (cell_alloc b1)
      have e2 : w3.cell? ⟨(parseW1 w).heap.size, 0, none⟩ = some (.int .i64 6) := by rw [← hw3]; exact cell_set (by rw [cell_far hne]; exact cell_alloc b3)
      have t2' : tmps[2]?.getD undef = parseP w := by rw [← Array.getD_eq_getD_getElem?]; exact t2
      have t3' : tmps[3]?.getD undef = parseP (parseW1 w) := by rw [← Array.getD_eq_getD_getElem?]; exact t3
      have hrun : (results Tryd.f22 tmps).run Tryd.prog w3 = .ok (.tuple #[.slice none 0 0, .int .i64 6]) w3 := by
        simp [results, Tryd.f22, t2', t3', parseP, go_sem, e1, e2]
      have hfr : Fr (Live (ofL []) ps) w w3 := by rw [← hw3]; exact (((frC R5).push _).set (Nat.le_refl _)).set (by show w.heap.size ≤ (parseW1 w).heap.size; omega)
      have hml : ∀ b, M b → b < w3.heap.size := fun b hb => Nat.lt_of_lt_of_le (hr.ml b hb) hfr.size
      refine ⟨_, hrun, finish (H := ofL []) (nx := 0) hml ?_ hfr⟩
      refine .tup _ _ rfl fun j hj => ?_
      have hj : j < 2 := hj
      rcases j with _ | _ | j
      · exact .lnil _ _ _ fun _ => rfl
      · exact .v _
      · omega
    · cases k3
end M
end Go.Proofs.YthfejkflhpifnaaDoor
