/- Calls that turn one chunk, or make one; regions of open order with a log. No condition of its own: over any program. -/
import Derived.Test.YtlnilmcocbbohaaPvU
set_option linter.all false
namespace Go.Pv
open Go.RowKit

theorem ids_cond {S : Nat → Prop} {b : Bool} {x y : DV} (hx : Ids S x) (hy : Ids S y) : Ids S (bif b then x else y) := by cases b <;> assumption
theorem ofL_one {o o' : Nat} {ck ck' : Ck} (h : ofL [(o, ck)] o' = some ck') : o' = o ∧ ck' = ck := by
  have := ofL_mem h
  simpa using this
theorem ofL_self (o : Nat) (ck : Ck) : ofL [(o, ck)] o = some ck := by simp [ofL, puts, Hp.put]

section fn
variable {P : Program} {f : FuncId} {nt : Nat} {ow : Nat → Bool} {ac : AC} {rs : List RR}
/-- A function that turns one chunk. -/
theorem FnOK.one (hm : P.follows .mixedOrders = true) (h : FnOK P f nt ow ac rs) {args : List DV} {o : Nat} {ck ck' : Ck} {nb : Nat} {res : DV} (hlen : args.length ≤ nt) (ho : o < nb) (ids : Ids (fun o' => o' = o) res)
    (idp : ∀ x, x ∈ ck'.xs → ∀ c, c ∈ x → Ids (fun o' => o' = o) c) (k : ∀ cx : Cx, cx.nt = nt → cx.nb = nb → AWP P cx ow ac (Ends rs res [(o, ck')]) ⟨ofArgs args, ofL [(o, ck)], nb⟩) : CallOK P f args [(o, ck)] nb res [(o, ck')] nb := by
  have mono : ∀ {S S' : Nat → Prop} {d : DV}, (∀ o, S o → S' o) → Ids S d → Ids S' d := by
    intro S S' d hS hd
    induction hd with
    | v x => exact .v x
    | any => exact .any
    | gd p d _ ih => exact .gd p d ih
    | ptr o g i off h => exact .ptr o g i off (hS o h)
    | own o g lo n h => exact .own o g lo n (hS o h)
    | lst f xs _ ih => exact .lst f xs ih
    | rp cs _ ih => exact .rp cs ih
    | agg cs _ ih => exact .agg cs ih
    | tup cs _ ih => exact .tup cs ih
    | fn f cs _ ih => exact .fn f cs ih
  have hS : ∀ o', o' = o → (∃ ck, ofL [(o, ck')] o' = some ck) ∨ (nb ≤ o' ∧ o' < nb) := fun o' e => by subst e; exact .inl ⟨ck', ofL_self _ _⟩
  refine h.call hm hlen (fun o' c hc => ?_) (fun o' c hc _ => ?_) (Nat.le_refl _) (mono hS ids) (fun o' c hc x hx d hd => ?_) (fun o' c hc => ?_) k
  · obtain ⟨rfl, rfl⟩ := ofL_one hc; exact ⟨ck', ofL_self _ _⟩
  · obtain ⟨rfl, rfl⟩ := ofL_one hc; exact ⟨ck, ofL_self _ _⟩
  · obtain ⟨rfl, rfl⟩ := ofL_one hc; exact mono hS (idp x hx d hd)
  · obtain ⟨rfl, rfl⟩ := ofL_one hc; exact ho
/-- A function that makes one chunk. -/
theorem FnOK.new (hm : P.follows .mixedOrders = true) (h : FnOK P f nt ow ac rs) {args : List DV} {ck' : Ck} {nb : Nat} {res : DV} (hlen : args.length ≤ nt) (ids : Ids (fun o' => o' = nb) res)
    (idp : ∀ x, x ∈ ck'.xs → ∀ c, c ∈ x → Ids (fun o' => o' = nb) c) (k : ∀ cx : Cx, cx.nt = nt → cx.nb = nb → AWP P cx ow ac (Ends rs res [(nb, ck')]) ⟨ofArgs args, Hp.emp, nb⟩) : CallOK P f args [] nb res [(nb, ck')] (nb + 1) := by
  have mono : ∀ {S S' : Nat → Prop} {d : DV}, (∀ o, S o → S' o) → Ids S d → Ids S' d := by
    intro S S' d hS hd
    induction hd with
    | v x => exact .v x
    | any => exact .any
    | gd p d _ ih => exact .gd p d ih
    | ptr o g i off h => exact .ptr o g i off (hS o h)
    | own o g lo n h => exact .own o g lo n (hS o h)
    | lst f xs _ ih => exact .lst f xs ih
    | rp cs _ ih => exact .rp cs ih
    | agg cs _ ih => exact .agg cs ih
    | tup cs _ ih => exact .tup cs ih
    | fn f cs _ ih => exact .fn f cs ih
  have hS : ∀ o', o' = nb → (∃ ck, ofL [(nb, ck')] o' = some ck) ∨ (nb ≤ o' ∧ o' < nb + 1) := fun o' e => by subst e; exact .inl ⟨ck', ofL_self _ _⟩
  refine h.call hm hlen (fun o' c hc => by cases hc) (fun o' c hc hlt => ?_) (Nat.le_succ _) (mono hS ids) (fun o' c hc x hx d hd => ?_) (fun o' c hc => ?_) k
  · obtain ⟨rfl, rfl⟩ := ofL_one hc; omega
  · obtain ⟨rfl, rfl⟩ := ofL_one hc; exact mono hS (idp x hx d hd)
  · obtain ⟨rfl, rfl⟩ := ofL_one hc; omega
end fn

section ends
variable {rs : List RR} {res : DV} {T : Nat → DV} {H : Hp} {nx o : Nat} {ck ck0 : Ck} {ds : List DV}
theorem Ends.ret1 (h1 : rrV T H rs = some ds) (hH : H o = some ck0) (h2 : resV ds = res) (he : ck0 = ck) : Ends rs res [(o, ck)] .ret ⟨T, H, nx⟩ := ⟨.inr rfl, ⟨ds, h1, h2⟩, fun o' c h => by obtain ⟨rfl, rfl⟩ := ofL_one h; show H o' = some c; rw [hH, he]⟩
theorem Ends.nrm1 (h1 : rrV T H rs = some ds) (hH : H o = some ck0) (h2 : resV ds = res) (he : ck0 = ck) : Ends rs res [(o, ck)] .normal ⟨T, H, nx⟩ := ⟨.inl rfl, ⟨ds, h1, h2⟩, fun o' c h => by obtain ⟨rfl, rfl⟩ := ofL_one h; show H o' = some c; rw [hH, he]⟩
end ends

section one
variable {P : Program} {r : List RI} {T : Nat → DV} {H : Hp} {nx : Nat} {K : St → Prop} {lg : Lg} {KL : Lg → St → Prop}
theorem step_c1 {dst : Option Nat} {f : RO} {xs : List RO} {fn : FuncId} {args : List DV} {o : Nat} {ck ck' : Ck} {res : DV} (hc : CallOK P fn args [(o, ck)] nx res [(o, ck')] nx) (hf : un true (f.get T) = .fn fn []) (ha : xs.map (fun x => un true (x.get T)) = args) (hH : H o = some ck)
    (k : awpOps P r (lg ++ [([o], [o])]) ⟨putT T dst res, H.put o (some ck'), nx⟩ KL) : awpOps P (⟨dst, .call f xs, none⟩ :: r) lg ⟨T, H, nx⟩ KL :=
  step_call (caps := []) (pre := [(o, ck)]) (post := [(o, ck')]) hf (by rw [List.append_nil]; exact ha) hc (fun o' c h => by obtain ⟨rfl, rfl⟩ := ofL_one h; exact hH) k
theorem step_cn {dst : Option Nat} {f : RO} {xs : List RO} {fn : FuncId} {args : List DV} {ck' : Ck} {res : DV} (hc : CallOK P fn args [] nx res [(nx, ck')] (nx + 1)) (hf : un true (f.get T) = .fn fn []) (ha : xs.map (fun x => un true (x.get T)) = args)
    (k : awpOps P r (lg ++ [([], [nx])]) ⟨putT T dst res, H.put nx (some ck'), nx + 1⟩ KL) : awpOps P (⟨dst, .call f xs, none⟩ :: r) lg ⟨T, H, nx⟩ KL :=
  step_call (caps := []) (pre := []) (post := [(nx, ck')]) hf (by rw [List.append_nil]; exact ha) hc (fun o' c h => by cases h) k

theorem st_c1 {dt : Nat} {f : RO} {xs : List RO} {fn : FuncId} {args : List DV} {o : Nat} {ck ck' : Ck} {res : DV} (hc : CallOK P fn args [(o, ck)] nx res [(o, ck')] nx) (hf : un true (f.get T) = .fn fn []) (ha : xs.map (fun x => un true (x.get T)) = args) (hH : H o = some ck)
    (k : awpT P r ⟨upd T dt res, H.put o (some ck'), nx⟩ K) : awpT P (⟨some dt, .call f xs, none⟩ :: r) ⟨T, H, nx⟩ K := fun lg => step_c1 hc hf ha hH (k _)
theorem st_cn {dt : Nat} {f : RO} {xs : List RO} {fn : FuncId} {args : List DV} {ck' : Ck} {res : DV} (hc : CallOK P fn args [] nx res [(nx, ck')] (nx + 1)) (hf : un true (f.get T) = .fn fn []) (ha : xs.map (fun x => un true (x.get T)) = args)
    (k : awpT P r ⟨upd T dt res, H.put nx (some ck'), nx + 1⟩ K) : awpT P (⟨some dt, .call f xs, none⟩ :: r) ⟨T, H, nx⟩ K := fun lg => step_cn hc hf ha (k _)
end one

/-- With a log: no two operations of open order touch the same chunk. -/
def disB (x y : List Nat × List Nat) : Bool := x.2.all (fun o => !y.1.contains o && !y.2.contains o) && y.2.all (fun o => !x.1.contains o)
def compatB (un : List (Nat × Nat)) (lg : Lg) : Bool := un.all fun p => disB (lgAt lg p.1) (lgAt lg p.2)
theorem compat_of {un : List (Nat × Nat)} {lg : Lg} (h : compatB un lg = true) : compat un lg := by
  intro p hp
  have := List.all_eq_true.1 h p hp
  simp only [disB, Bool.and_eq_true, List.all_eq_true, Bool.not_eq_true', List.contains_eq_mem, decide_eq_false_iff_not] at this
  exact ⟨fun o ho => this.1 o ho, fun o ho => this.2 o ho⟩

def awpG (P : Program) (uo : List (Nat × Nat)) (ris : List RI) (lg : Lg) (s : St) (K : St → Prop) : Prop := awpOps P ris lg s fun lg' s' => compat uo lg' ∧ K s'

section logged
variable {P : Program} {r : List RI} {T : Nat → DV} {H : Hp} {nx : Nat} {K : St → Prop} {uo : List (Nat × Nat)} {lg : Lg}
theorem sg_nil {s : St} (h1 : compatB uo lg = true) (h : K s) : awpG P uo [] lg s K := ⟨compat_of h1, h⟩
theorem sg_no {t : Nat} {op : ROp} {d : DV} {rd : List Nat} (h : ev op true T H nx = some (d, .no)) (hr : rds op true T = rd) (k : awpG P uo r (lg ++ [(rd, [])]) ⟨upd T t d, H, nx⟩ K) : awpG P uo (⟨some t, op, none⟩ :: r) lg ⟨T, H, nx⟩ K := step_no h (by rw [hr]; exact k)
theorem sg_g {dt t : Nat} {op : ROp} {wn p : Bool} {d : DV} {rd : List Nat} (hg : gv (T t) wn = some p) (ht : tot op = true) (h : ev op p T H nx = some (d, .no)) (hr : rds op p T = rd) (k : awpG P uo r (lg ++ [(rd, [])]) ⟨upd T dt (.gd p d), H, nx⟩ K) :
    awpG P uo (⟨some dt, op, some (t, wn)⟩ :: r) lg ⟨T, H, nx⟩ K := step_g hg ht h (by rw [hr]; exact k)
theorem sg_gc {dt : Nat} {f : RO} {xs : List RO} {t : Nat} {wn p : Bool} {fn : FuncId} {args : List DV} {d : DV} (hc : CallOK P fn args [] nx d [] nx) (hg : gv (T t) wn = some p) (hf : un p (f.get T) = .fn fn []) (ha : xs.map (fun x => un p (x.get T)) = args)
    (k : awpG P uo r (lg ++ [([], [])]) ⟨upd T dt (.gd p d), H, nx⟩ K) : awpG P uo (⟨some dt, .call f xs, some (t, wn)⟩ :: r) lg ⟨T, H, nx⟩ K := step_gc hc hg hf ha k
theorem sg_c {dt : Nat} {f : RO} {xs : List RO} {fn : FuncId} {args : List DV} {res : DV} (hc : CallOK P fn args [] nx res [] nx) (hf : un true (f.get T) = .fn fn []) (ha : xs.map (fun x => un true (x.get T)) = args)
    (k : awpG P uo r (lg ++ [([], [])]) ⟨upd T dt res, H, nx⟩ K) : awpG P uo (⟨some dt, .call f xs, none⟩ :: r) lg ⟨T, H, nx⟩ K := step_c hc hf ha k
theorem sg_c1 {dt : Nat} {f : RO} {xs : List RO} {fn : FuncId} {args : List DV} {o : Nat} {ck ck' : Ck} {res : DV} (hc : CallOK P fn args [(o, ck)] nx res [(o, ck')] nx) (hf : un true (f.get T) = .fn fn []) (ha : xs.map (fun x => un true (x.get T)) = args) (hH : H o = some ck)
    (k : awpG P uo r (lg ++ [([o], [o])]) ⟨upd T dt res, H.put o (some ck'), nx⟩ K) : awpG P uo (⟨some dt, .call f xs, none⟩ :: r) lg ⟨T, H, nx⟩ K := step_c1 hc hf ha hH k
theorem sg_wr {op : ROp} {d : DV} {o : Nat} {ck : Ck} {rd : List Nat} (h : ev op true T H nx = some (d, .wr o ck)) (hr : rds op true T = rd) (k : awpG P uo r (lg ++ [(rd, [o])]) ⟨T, H.put o (some ck), nx⟩ K) : awpG P uo (⟨none, op, none⟩ :: r) lg ⟨T, H, nx⟩ K := step_wr h (by rw [hr]; exact k)
theorem AWP.rgG {cx : Cx} {ow : Nat → Bool} {Q : Exit → St → Prop} {s : St} {ris : List RI} (h : awpG P uo ris [] s fun s' => s'.nx = s.nx ∧ Q .normal s') : AWP P cx ow (.rg ris (some uo)) Q s := AWP.rg (reg_draw h)
end logged

theorem wrap_eq {a : Int} (h1 : -9223372036854775808 ≤ a) (h2 : a ≤ 9223372036854775807) : IntKind.i64.wrap a = a := by rw [IntKind.wrap_i64]; omega
section arith
variable {p : Bool} {T : Nat → DV} {H : Hp} {nx : Nat} {x y : RO} {a b : Int}
theorem e_addB (hx : un p (x.get T) = I a) (hy : un p (y.get T) = I b) (h : -9223372036854775808 ≤ a + b ∧ a + b ≤ 9223372036854775807) : ev (.bin .add x y) p T H nx = some (I (a + b), .no) := by rw [e_add hx hy, wrap_eq h.1 h.2]
theorem e_subB (hx : un p (x.get T) = I a) (hy : un p (y.get T) = I b) (h : -9223372036854775808 ≤ a - b ∧ a - b ≤ 9223372036854775807) : ev (.bin .sub x y) p T H nx = some (I (a - b), .no) := by rw [e_sub hx hy, wrap_eq h.1 h.2]
theorem e_mulB (hx : un p (x.get T) = I a) (hy : un p (y.get T) = I b) (h : -9223372036854775808 ≤ a * b ∧ a * b ≤ 9223372036854775807) : ev (.bin .mul x y) p T H nx = some (I (a * b), .no) := by rw [e_mul hx hy, wrap_eq h.1 h.2]
theorem e_negB (hx : un p (x.get T) = I a) (h : -9223372036854775808 ≤ -a ∧ -a ≤ 9223372036854775807) : ev (.un .neg x) p T H nx = some (I (-a), .no) := by
  have e : 0 - a = -a := by omega
  rw [e_neg hx, e, wrap_eq h.1 h.2]
/-- An element of a list that is given by a function. -/
theorem e_ixM {α : Type} (z : α) {f : Bool} {e : α → List DV} {as : List α} {n : Int} {sz : Nat} (h : un p (x.get T) = .lst f (as.map e)) (hi : un p (y.get T) = I n) (hn : 0 ≤ n ∧ n < as.length) (hs : ∀ v, (e v).length = sz) : ev (.iadrS sz x y) p T H nx = some (.rp (e (as.getD n.toNat z)), .no) := by
  have hlt : n.toNat < as.length := by omega
  refine e_ixL h hi hn.1 (by simpa using hn.2) ?_ (hs _)
  simp [List.getD_eq_getElem?_getD, hlt]
theorem e_lenM {α : Type} {f : Bool} {e : α → List DV} {as : List α} (h : un p (x.get T) = .lst f (as.map e)) : ev (.len x) p T H nx = some (I as.length, .no) := e_lenL h (by simp)
end arith

/-- Operations that write nothing and call nobody. -/
def mute : ROp → Bool
  | .store .. | .app .. | .call .. | .box _ | .alloc _ | .mksl .. => false
  | .bslice ow .. => !ow
  | _ => true
theorem AWP.rgM {P : Program} {cx : Cx} {ow : Nat → Bool} {Q : Exit → St → Prop} {s : St} {ris : List RI} {uo : List (Nat × Nat)} (hm : ris.all (fun i => mute i.op) = true) (h : awpS P uo ris s fun s' => s'.nx = s.nx ∧ Q .normal s') : AWP P cx ow (.rg ris (some uo)) Q s := AWP.rgSN h

/-! ### Heads of loops: what lives, written out -/
def HasH (H : Hp) : List (Nat × Ck) → Prop
  | [] => True
  | x :: r => H x.1 = some x.2 ∧ HasH H r
theorem HasH.mk {H : Hp} : ∀ {l : List (Nat × Ck)}, HasH H l → ∀ o, mkH l o = none ∨ mkH l o = H o
  | [], _, o => .inl rfl
  | x :: r, h, o => by
    by_cases e : o = x.1
    · subst e; right; simp only [mkH, Hp.put, if_true]; exact h.1.symm
    · simp only [mkH, Hp.put, if_neg e]; exact HasH.mk h.2 o
theorem mkH_mem {o : Nat} {ck : Ck} : ∀ {l : List (Nat × Ck)}, mkH l o = some ck → (o, ck) ∈ l
  | [], h => by cases h
  | x :: r, h => by
    by_cases e : o = x.1
    · subst e; simp only [mkH, Hp.put, if_true, Option.some.injEq] at h; subst h; simp
    · simp only [mkH, Hp.put, if_neg e] at h; exact List.mem_cons_of_mem _ (mkH_mem h)
theorem mkT_ids {S : Nat → Prop} : ∀ {l : List (Nat × DV)}, (∀ x, x ∈ l → Ids S x.2) → ∀ t, Ids S (mkT l t)
  | [], _, t => .any
  | x :: r, h, t => by
    by_cases e : t = x.1
    · subst e; simp only [mkT, upd, if_true]; exact h x (by simp)
    · simp only [mkT, upd, if_neg e]; exact mkT_ids (fun y hy => h y (List.mem_cons_of_mem _ hy)) t

/-- All ids of a written state lie below a number. -/
def below (n : Nat) : DV → Prop := Ids (fun o => o < n)
structure Fits (l : List (Nat × DV)) (hl : List (Nat × Ck)) (n : Nat) : Prop where
  t : ∀ x, x ∈ l → Ids (fun o => o < n) x.2
  h : ∀ x, x ∈ hl → x.1 < n ∧ ∀ r, r ∈ x.2.xs → ∀ c, c ∈ r → Ids (fun o => o < n) c

theorem Wk.head {cx : Cx} {T : Nat → DV} {H : Hp} {nx : Nat} (l : List (Nat × DV)) (hl : List (Nat × Ck)) (n : Nat) (hT : Has T l) (hH : HasH H hl) (hf : Fits l hl n) (hn : cx.nb ≤ n) : Wk cx ⟨T, H, nx⟩ ⟨mkT l, mkH hl, n⟩ := fun ps a w R => by
  have up : ∀ o ck, mkH hl o = some ck → H o = some ck := fun o ck h => by
    rcases hH.mk o with e | e
    · rw [e] at h; cases h
    · rw [e] at h; exact h
  have live : ∀ b, Live (mkH hl) ps b → Live H ps b := fun b ⟨o, ck, p, h1, h2, h3⟩ => ⟨o, ck, p, up o ck h1, h2, h3⟩
  have kp : KpS (fun o => o < n) H ps cx.M nx w (mkH hl) ps cx.M n w := by
    refine ⟨fun o h _ => h, fun o _ _ ck' hk => ⟨ck', up o ck' hk, .inr ⟨rfl, rfl, Nat.le_refl _, rfl⟩⟩, fun b hb => .inl ?_, fun _ _ _ => rfl⟩
    rcases hb with hb | hb
    · exact .inl hb
    · exact .inr (live b hb)
  refine ⟨ps, ⟨fun t => ?_, R.nt, ⟨fun o ck h => (hf.h _ (mkH_mem h)).1, fun o ck h => ?_, fun o o' ck ck' p p' h1 h2 => R.hr.inj o o' ck ck' p p' (up _ _ h1) (up _ _ h2), R.hr.ml, fun o ck p h1 => R.hr.dj o ck p (up _ _ h1)⟩,
    R.fr, fun o ck p h1 => R.lb o ck p (up _ _ h1), R.df, hn, fun o ho ck' hk => R.gm o ho ck' (up _ _ hk)⟩⟩
  · show VR (mkH hl) ps cx.M n w (mkT l t) _
    rcases hT.mk t with e | e
    · rw [e]; exact .any _
    · have hi := mkT_ids hf.t t
      have hv : VR H ps cx.M nx w (T t) (a.tmps.getD t undef) := R.t t
      rw [← e] at hv
      exact hv.monoS hi kp
  · rcases R.hr.cr o ck (up o ck h) with ⟨h1, h2⟩ | ⟨p, c, E, vs, h1, h2, h3, h4, h5, h6, h7⟩
    · exact .inl ⟨h1, h2⟩
    · exact .inr ⟨p, c, E, vs, h1, h2, h3, h4, h5, h6, fun i j hi hj => (h7 i j hi hj).monoS ((hf.h _ (mkH_mem h)).2 _ (List.getElem_mem hi) _ (List.getElem_mem hj)) kp⟩

theorem AWPL.head {P : Program} {cx : Cx} {ow : Nat → Bool} {Q : Exit → St → Prop} {x : AC} {T : Nat → DV} {H : Hp} {nx : Nat} (l : List (Nat × DV)) (hl : List (Nat × Ck)) (n : Nat) (hT : Has T l) (hH : HasH H hl) (hf : Fits l hl n) (hn : cx.nb ≤ n)
    (k : AWPL P cx ow x Q ⟨mkT l, mkH hl, n⟩) : AWPL P cx ow x Q ⟨T, H, nx⟩ := AWPL.wk (Wk.head l hl n hT hH hf hn) k
theorem AWP.head {P : Program} {cx : Cx} {ow : Nat → Bool} {Q : Exit → St → Prop} {x : AC} {T : Nat → DV} {H : Hp} {nx : Nat} (l : List (Nat × DV)) (hl : List (Nat × Ck)) (n : Nat) (hT : Has T l) (hH : HasH H hl) (hf : Fits l hl n) (hn : cx.nb ≤ n)
    (k : AWP P cx ow x Q ⟨mkT l, mkH hl, n⟩) : AWP P cx ow x Q ⟨T, H, nx⟩ := AWP.wk (Wk.head l hl n hT hH hf hn) k
theorem Ids.lstm {S : Nat → Prop} {α : Type} {f : Bool} {as : List α} {e : α → List DV} : Ids S (.lst f (as.map e)) ↔ ∀ a, a ∈ as → ∀ c, c ∈ e a → Ids S c := by
  rw [Ids.lst']
  constructor
  · exact fun h a ha c hc => h _ (List.mem_map.2 ⟨a, ha, rfl⟩) c hc
  · intro h x hx c hc
    obtain ⟨a, ha, rfl⟩ := List.mem_map.1 hx
    exact h a ha c hc
end Go.Pv
