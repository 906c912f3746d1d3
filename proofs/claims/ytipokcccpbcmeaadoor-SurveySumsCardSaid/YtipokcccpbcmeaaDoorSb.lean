/- survey.Print: a strings.Builder in a loop, walked by hand over the library's contracts. No condition of its own: over the loaded program. -/
import Derived.Test.YtipokcccpbcmeaaDoorWp
import Derived.Test.YtipokcccpbcmeaaDoorShelf
import Derived.Test.YtipokcccpbcmeaaDoorChecked
import Derived.Shelf.Strings.BuilderK
set_option linter.all false
theorem Go.Lib.IsBuilderF.same {T e : Go.TypeId} {B b : Nat} {bs : List Go.Value} {w w' : Go.World} (h : Go.Lib.IsBuilderF T e B b bs w) (hf : ∀ k, k < w.heap.size → w'.heap[k]? = w.heap[k]?) : Go.Lib.IsBuilderF T e B b bs w' := by
  have lt : ∀ {k : Nat} {o : Go.Obj}, w.heap[k]? = some o → k < w.heap.size := fun {k o} hk => by
    rcases Nat.lt_or_ge k w.heap.size with g | g
    · exact g
    · rw [Array.getElem?_eq_none g] at hk; cases hk
  have one : ∀ {p : Go.Value}, Go.Lib.BuilderAtF T e B b p bs w → Go.Lib.BuilderAtF T e B b p bs w' := by
    rintro p ⟨h1, v, h2, ⟨h3, h4⟩, h5⟩
    refine ⟨h1, v, (hf b (lt h2)).trans h2, ⟨h3, ?_⟩, h5⟩
    rcases h4 with h4 | ⟨g, cap, cur, fz, k1, k2, k3, k4⟩
    · exact .inl h4
    · exact .inr ⟨g, cap, cur, fz, k1, k2, (hf g (lt k3)).trans k3, k4⟩
  exact h.imp one one
namespace Go.Proofs.YtipokcccpbcmeaaDoor
open Go.Pv Go.RowKit
namespace M
def bren : Go.Shelf.Ren := ⟨fun | 240 => 42 | 276 => 55 | 166 => 24 | 167 => 25 | n => n, fun | 70 => 62 | 9 => 9 | 20 => 20 | 4 => 4 | 0 => 0 | 72 => 64 | 37 => 25 | 164 => 97 | 3 => 3 | 5 => 5 | 75 => 68 | 80 => 72 | n => n, fun | n => n⟩
theorem lays_ws : Go.Proofs.Lays.n166 Tryd.prog bren := {
  mixed := by kernel_rfl
  f166 := Tryd.func24.trans (congrArg some (by kernel_rfl))
  f240 := Tryd.func42.trans (congrArg some (by kernel_rfl))
  f276 := Tryd.func55.trans (congrArg some (by kernel_rfl))
  t0 := Tryd.underlying0
  a0 := Tryd.isAgg0
  z0 := Tryd.sizeOf0
  v0 := Tryd.zeroValue0
  t3 := Tryd.underlying3
  a3 := Tryd.isAgg3
  z3 := Tryd.sizeOf3
  v3 := Tryd.zeroValue3
  t4 := Tryd.underlying4
  a4 := Tryd.isAgg4
  z4 := Tryd.sizeOf4
  v4 := Tryd.zeroValue4
  t9 := Tryd.underlying9
  a9 := Tryd.isAgg9
  z9 := Tryd.sizeOf9
  v9 := Tryd.zeroValue9
  t20 := Tryd.underlying20
  a20 := Tryd.isAgg20
  z20 := Tryd.sizeOf20
  v20 := Tryd.zeroValue20
  t37 := Tryd.underlying25
  a37 := Tryd.isAgg25
  z37 := Tryd.sizeOf25
  v37 := Tryd.zeroValue25
  t70 := Tryd.underlying62
  a70 := Tryd.isAgg62
  z70 := Tryd.sizeOf62
  v70 := Tryd.zeroValue62
  t72 := Tryd.underlying64
  a72 := Tryd.isAgg64
  z72 := Tryd.sizeOf64
  v72 := Tryd.zeroValue64
  t75 := Tryd.underlying68
  a75 := Tryd.isAgg68
  z75 := Tryd.sizeOf68
  v75 := Tryd.zeroValue68
  t164 := Tryd.underlying97
  a164 := Tryd.isAgg97
  z164 := Tryd.sizeOf97
  v164 := Tryd.zeroValue97 }
theorem lays_wb : Go.Proofs.Lays.n167 Tryd.prog bren := {
  mixed := by kernel_rfl
  f167 := Tryd.func25.trans (congrArg some (by kernel_rfl))
  f240 := Tryd.func42.trans (congrArg some (by kernel_rfl))
  f276 := Tryd.func55.trans (congrArg some (by kernel_rfl))
  t0 := Tryd.underlying0
  a0 := Tryd.isAgg0
  z0 := Tryd.sizeOf0
  v0 := Tryd.zeroValue0
  t4 := Tryd.underlying4
  a4 := Tryd.isAgg4
  z4 := Tryd.sizeOf4
  v4 := Tryd.zeroValue4
  t5 := Tryd.underlying5
  a5 := Tryd.isAgg5
  z5 := Tryd.sizeOf5
  v5 := Tryd.zeroValue5
  t9 := Tryd.underlying9
  a9 := Tryd.isAgg9
  z9 := Tryd.sizeOf9
  v9 := Tryd.zeroValue9
  t20 := Tryd.underlying20
  a20 := Tryd.isAgg20
  z20 := Tryd.sizeOf20
  v20 := Tryd.zeroValue20
  t37 := Tryd.underlying25
  a37 := Tryd.isAgg25
  z37 := Tryd.sizeOf25
  v37 := Tryd.zeroValue25
  t70 := Tryd.underlying62
  a70 := Tryd.isAgg62
  z70 := Tryd.sizeOf62
  v70 := Tryd.zeroValue62
  t72 := Tryd.underlying64
  a72 := Tryd.isAgg64
  z72 := Tryd.sizeOf64
  v72 := Tryd.zeroValue64
  t75 := Tryd.underlying68
  a75 := Tryd.isAgg68
  z75 := Tryd.sizeOf68
  v75 := Tryd.zeroValue68
  t164 := Tryd.underlying97
  a164 := Tryd.isAgg97
  z164 := Tryd.sizeOf97
  v164 := Tryd.zeroValue97 }
theorem bextra : Builder.Extra Tryd.prog bren := {
  sizeBuilder := by kernel_rfl
  liesBuilder := by kernel_rfl
  t5 := Tryd.underlying5
  a5 := Tryd.isAgg5
  z5 := Tryd.sizeOf5
  v5 := Tryd.zeroValue5
  infoByte := by kernel_rfl
  cellsByte := by kernel_rfl
  sizeByte := by kernel_rfl
  neB5 := by decide }
theorem b_ws (B b : Nat) (bs : List Value) (s : ByteArray) (w : World) (h : Lib.IsBuilderF 64 5 B b bs w) (hlen : bs.length + s.size ≤ 140737488355328) (hBw : B ≤ w.heap.size) :
    Calls Tryd.prog 24 #[.pointer (some ⟨b, 0, none⟩), .string s] w fun e w' => e = .returned (.tuple #[.int .i64 s.size, .nilIface]) ∧ (Lib.BuilderAtF 64 5 B b (.pointer (some ⟨b, 0, none⟩)) (bs ++ Lib.strCells s) w' ∧ Below B w w' ∧ Lib.OthersKept 5 (some b) w w') := Any.Builder_WriteString_k lays_ws bextra B b bs s w h hlen hBw
theorem b_wb (B b : Nat) (bs : List Value) (c : Int) (w : World) (h : Lib.IsBuilderF 64 5 B b bs w) (hlen : bs.length + 1 ≤ 140737488355328) (hBw : B ≤ w.heap.size) :
    Calls Tryd.prog 25 #[.pointer (some ⟨b, 0, none⟩), .int .u8 c] w fun e w' => e = .returned .nilIface ∧ (Lib.BuilderAtF 64 5 B b (.pointer (some ⟨b, 0, none⟩)) (bs ++ [.int .u8 c]) w' ∧ Below B w w' ∧ Lib.OthersKept 5 (some b) w w') := Any.Builder_WriteByte_k lays_wb bextra B b bs c w h hlen hBw

abbrev GR : GT := (.pair (.int .i64) (.pair (.int .i64) (.pair (.int .i64) (.pair (.int .i64) (.pair .bool (.pair .bool (.pair (.pair (.int .i64) (.int .i64)) (.pair (.int .i64) (.int .i64)))))))))
abbrev GE : GT := (.pair (.int .i64) (.pair (.pair (.int .i64) .bool) (.pair GR (.pair (.int .i64) (.pair (.int .i64) (.int .i64))))))
section
variable (line : El GE → Option (List UInt8 × Bool)) (sum : List UInt8 → Option Int) (words : List UInt8 × List Int → Option (List UInt8))
/-- The lines of edits, one after the other; 'some none': one of them is not plain. -/
def linesM : List (El GE) → List UInt8 → Option (Option (List UInt8))
  | [], acc => some (some acc)
  | e :: es, acc => Option.bind (line e) fun r => bif r.2 then (bif decide (acc.length + r.1.length + 1 ≤ 140737488355328) then linesM es (acc ++ r.1 ++ [10]) else none) else some none
def ti (d : Nat) (op : ROp) : TI := ⟨⟨some d, op, none⟩, {}⟩
def tailT : TC := .seq (.rg [ti 31 (.mov (.t 9)), ti 32 (.mov (.t 9)), ti 33 (.call (.c (.fn 7 [])) [(.t 32)]), ⟨⟨some 34, .bslice false 1 [(I 0)] 1 [(0, (.t 33))], none⟩, ⟨(.int .i64), none, []⟩⟩, ⟨⟨some 35, .call (.c (.fn 27 [])) [(.c (.v (.string ⟨⟨[115, 117, 109]⟩⟩))), (.t 34)], none⟩, {}⟩, ti 36 (.bin .add (.t 35) (.c (.v (.string ⟨⟨[10]⟩⟩)))), ti 37 (.bin .add (.t 31) (.t 36)), ti 9 (.mov (.t 37))] none)
  (.seq (.seq (.rg [ti 38 (.mov (.t 9)), ti 39 (.lens (.t 38)), ti 40 (.bin .gtr (.t 39) (.c (I 65536)))] none) (.cond (.t 40) (.seq (.rg [ti 2 (.mov (.c (.v (.string ⟨⟨[]⟩⟩)))), ti 3 (.mov (.c (I 2)))] none) .ret) .skip)) (.seq (.rg [ti 41 (.mov (.t 9)), ti 2 (.mov (.t 41)), ti 3 (.mov (.c (I 0)))] none) .ret))
def tailE : List (Nat × Ent) := [(7, pureE [.str] [.int .i64] sum), (27, pureE [.str, .list (.int .i64)] [.str] words)]
def tailK (e : Exit) (si : SI) : Option (List UInt8 × Int) := match e, getT si.T 2, getT si.T 3 with
  | .ret, .str t, .int .i64 n => some (t, n)
  | _, _, _ => none
def tailM (t : List UInt8) : Option (List UInt8 × Int) := Option.bind (sum t) fun v => Option.bind (words ([115, 117, 109], [v])) fun r =>
  bif decide (r.length + 1 ≤ 9223372036854775807) then bif decide (t.length + (r ++ [10]).length ≤ 9223372036854775807) then bif decide (((t ++ (r ++ [10])).length : Int) > 65536) then some ([], 2) else some (t ++ (r ++ [10]), 0) else none else none
theorem tail_run (t : List UInt8) : run (tailE sum words) 0 0 tailT ⟨[(9, .str t)], []⟩ tailK = tailM sum words t := by kernel_rfl
end

/-! ### The walk -/
def lkD : List (Nat × IV × DV) → Nat → DV
  | [], _ => .any
  | (a, _, d) :: r, t => cond (Nat.beq a t) d (lkD r t)
def lkI : List (Nat × IV × DV) → List (Nat × IV)
  | [] => []
  | (a, i, _) :: r => (a, i) :: lkI r
theorem lk_rel {H : Hp} {nx : Nat} : ∀ (l : List (Nat × IV × DV)), (∀ x, x ∈ l → Rel H nx x.2.1 x.2.2) → ∀ t, Rel H nx (getT (lkI l) t) (lkD l t)
  | [], _, _ => .any _
  | (a, i, d) :: r, h, t => by
    simp only [lkI, lkD, getT]
    cases Nat.beq a t with
    | true => exact h _ (List.mem_cons_self ..)
    | false => exact lk_rel r (fun x hx => h x (List.mem_cons_of_mem _ hx)) t
theorem lk_vr {a : Act} {w : World} : ∀ (l : List (Nat × IV × DV)), (∀ x, x ∈ l → VR (ofL []) (fun _ => none) (fun _ => False) 0 w x.2.2 (a.tmps.getD x.1 undef)) → ∀ t, VR (ofL []) (fun _ => none) (fun _ => False) 0 w (lkD l t) (a.tmps.getD t undef)
  | [], _, _ => .any _
  | (b, i, d) :: r, h, t => by
    simp only [lkD]
    cases e : Nat.beq b t with
    | true => rw [← Nat.eq_of_beq_eq_true e]; exact h _ (List.mem_cons_self ..)
    | false => exact lk_vr r (fun x hx => h x (List.mem_cons_of_mem _ hx)) t
def fzL : List (Nat × Value) → Nat → Option Value
  | [], _ => none
  | (a, v) :: r, t => cond (Nat.beq a t) (some v) (fzL r t)
theorem fzL_of {f : Nat → Value} : ∀ (l : List (Nat × Value)), (∀ x, x ∈ l → f x.1 = x.2) → ∀ t v, fzL l t = some v → f t = v
  | [], _, t, v, h => by cases h
  | (a, x) :: r, h, t, v, e => by
    simp only [fzL] at e
    cases c : Nat.beq a t with
    | true => rw [c, cond_true] at e; injection e with e; rw [← Nat.eq_of_beq_eq_true c, ← e]; exact h _ (List.mem_cons_self ..)
    | false => rw [c, cond_false] at e; exact fzL_of r (fun x hx => h x (List.mem_cons_of_mem _ hx)) t v e
theorem lk_sr (l : List (Nat × IV × DV)) (h : ∀ x, x ∈ l → Rel (ofL []) 0 x.2.1 x.2.2) : SR ⟨lkI l, []⟩ ⟨lkD l, ofL [], 0⟩ := ⟨lk_rel l h, fun o c h => by simp [getH] at h, rfl⟩
theorem no_live {b : Nat} : ¬ Live (ofL []) (fun _ => none) b := by rintro ⟨o, ck, p, h, _⟩; cases h
theorem hr0 (w : World) : HR (ofL []) (fun _ => none) (fun _ => False) 0 w := ⟨fun o ck h => (by cases h), fun o ck h => (by cases h), fun o o' ck ck' p p' h => (by cases h), fun b h => h.elim, fun o ck p h => (by cases h)⟩
theorem put_tmps {a : Act} {m : Nat} {v : Value} (hm : m < a.tmps.size) (t : Nat) : (a.put (some m) v).tmps.getD t undef = if t = m then v else a.tmps.getD t undef := by
  by_cases h : t = m
  · subst h; rw [if_pos rfl]; simp [Act.put, Array.getD, hm]
  · rw [if_neg h]; simp [Act.put, Array.getD_eq_getD_getElem?, Array.getElem?_setIfInBounds_ne (Ne.symm h)]

/-- What holds of memory all along. -/
structure PW (cx : Cx) (w1 : World) (a : Act) (w : World) : Prop where
  sz : a.tmps.size = cx.nt
  bel : Below w1.heap.size w1 w
  mks : Marks cx.M cx.w0.heap.size cx.db w a.defers
/-- What holds of slots. -/
def Slots (l : List (Nat × Value)) (a : Act) : Prop := ∀ x, x ∈ l → a.tmps.getD x.1 undef = x.2
theorem fzL_mem {a : Act} : ∀ (q : List (Nat × Value)), Slots q a → ∀ y, y ∈ q → fzL q y.1 = some y.2
  | [], _, y, hy => by cases hy
  | (za, zv) :: q, hq, y, hy => by
    simp only [fzL]
    cases c : Nat.beq za y.1 with
    | true =>
      have e1 := Nat.eq_of_beq_eq_true c
      have e2 : a.tmps.getD za undef = zv := hq (za, zv) (List.mem_cons_self ..)
      have e3 := hq y hy
      simp only [cond_true]
      rw [← e2, ← e3, e1]
    | false =>
      simp only [cond_false]
      rcases List.mem_cons.1 hy with rfl | hy
      · rw [show Nat.beq za za = true by simp] at c; cases c
      · exact fzL_mem q (fun y hy => hq y (List.mem_cons_of_mem _ hy)) y hy
theorem nz {ac : AC} {pins : List (Nat × Value)} (h : (ac.dsts.all fun t => (fzL pins t).isNone) = true) : ac.nofz (fzL pins) := AC.nofz_of fun t ht => by
  have := List.all_eq_true.1 h t ht
  simpa using this
section
variable {cx : Cx} {ow : Nat → Bool} {w1 : World} (hn0 : cx.w0.heap.size ≤ w1.heap.size) (hM : ∀ b, cx.M b → b < w1.heap.size) (hro : cx.ro = none) (hgl : GlOK Tryd.prog w1 fun _ => False)
include hn0 hM hro hgl
theorem glw {w : World} {a : Act} (h : PW cx w1 a w) : GlOK Tryd.prog w fun _ => False := hgl.of (w0 := w1) (B := fun _ => False) ⟨h.bel.os, h.bel.tape, h.bel.output, h.bel.size, fun b hb _ => h.bel.block b hb⟩ fun b h => h.elim
/-- A leaf over no chunks, with slots pinned. -/
theorem leaf0 {Q : Exit → Act → World → Prop} {a : Act} {w : World} {R : Type} {env : List (Nat × Ent)} (tc : TC) (hE : EnvOK Tryd.prog env) (hh : tc.hok Tryd.prog cx.nt ow false) (pins : List (Nat × Value)) (hnz : tc.er.nofz (fzL pins)) (hp : Slots pins a) (hw : PW cx w1 a w)
    (l : List (Nat × IV × DV)) (hl : ∀ x, x ∈ l → Rel (ofL []) 0 x.2.1 x.2.2 ∧ VR (ofL []) (fun _ => none) (fun _ => False) 0 w x.2.2 (a.tmps.getD x.1 undef)) (k : Exit → SI → Option R) (r : R) (hrun : run env 0 0 tc ⟨lkI l, []⟩ k = some r)
    (fin : ∀ e si' s' ps' a' w', SR si' s' → k e si' = some r → Slots pins a' → (∀ t, VR s'.H ps' (fun _ => False) s'.nx w' (s'.T t) (a'.tmps.getD t undef)) → HR s'.H ps' (fun _ => False) s'.nx w' → (∀ b, Live s'.H ps' b → w.heap.size ≤ b) → (∀ b, b < w.heap.size → w'.heap[b]? = w.heap[b]?) → w.heap.size ≤ w'.heap.size → PW cx w1 a' w' → Q e a' w') :
    WP Tryd.prog cx ow tc.er Q a w := by
  refine WP.leaf 0 tc Tryd.checked.mixed hE hh hro (fzL pins) hnz (fzL_of pins hp) hw.sz ⟨lkD l, ofL [], 0⟩ (fun _ => none) ((glw hn0 hM hro hgl hw).less fun b hb => no_live hb) (lk_vr l fun x hx => (hl x hx).2) (hr0 w) ⟨lkI l, []⟩ (lk_sr l fun x hx => (hl x hx).1) k r hrun ?_
  intro e si' s' ps' a' w' h1 h2 h3 h4 h5 h6 h7 h8 h9
  have hsame : ∀ b, b < w.heap.size → w'.heap[b]? = w.heap[b]? := fun b hb => h7.block b hb no_live
  refine fin e si' s' ps' a' w' h1 h2 ?_ h5 h6 (fun b hb => (h8 b hb).resolve_left no_live) hsame h7.size ⟨h3, ?_, ?_⟩
  · intro x hx
    exact h4 x.1 x.2 (fzL_mem pins hp x hx)
  · exact hw.bel.trans ⟨h7.os, h7.tape, h7.output, h7.size, fun b hb => hsame b (Nat.lt_of_lt_of_le hb hw.bel.size)⟩
  · exact hw.mks.app h9 (fun b hb => Nat.lt_of_lt_of_le (hM b hb) hw.bel.size) (Nat.le_trans hn0 hw.bel.size) fun b x hx => hsame b (heap_lt hx)
/-- A leaf over a chunk made before. -/
theorem leaf1 {Q : Exit → Act → World → Prop} {a : Act} {w w0 : World} {R : Type} {env : List (Nat × Ent)} (tc : TC) (hE : EnvOK Tryd.prog env) (hh : tc.hok Tryd.prog cx.nt ow false) (pins : List (Nat × Value)) (hnz : tc.er.nofz (fzL pins)) (hp : Slots pins a) (hw : PW cx w1 a w)
    (s : St) (ps : Ps) (hT : ∀ t, VR s.H ps (fun _ => False) s.nx w (s.T t) (a.tmps.getD t undef)) (hr : HR s.H ps (fun _ => False) s.nx w) (hlv : ∀ b, Live s.H ps b → w0.heap.size ≤ b) (hw0 : w1.heap.size ≤ w0.heap.size) (hw00 : w0.heap.size ≤ w.heap.size) (si : SI) (hsr : SR si s) (k : Exit → SI → Option R) (r : R) (hrun : run env 0 0 tc si k = some r)
    (fin : ∀ e si' s' ps' a' w', SR si' s' → k e si' = some r → Slots pins a' → (∀ t, VR s'.H ps' (fun _ => False) s'.nx w' (s'.T t) (a'.tmps.getD t undef)) → (∀ b, b < w0.heap.size → w'.heap[b]? = w.heap[b]?) → w.heap.size ≤ w'.heap.size → PW cx w1 a' w' → Q e a' w') :
    WP Tryd.prog cx ow tc.er Q a w := by
  have g0 : GlOK Tryd.prog w (Live s.H ps) := hgl.of (w0 := w1) (B := fun _ => False) ⟨hw.bel.os, hw.bel.tape, hw.bel.output, hw.bel.size, fun b hb _ => hw.bel.block b hb⟩ fun b hb => .inr (Nat.le_trans hw0 (hlv b hb))
  refine WP.leaf 0 tc Tryd.checked.mixed hE hh hro (fzL pins) hnz (fzL_of pins hp) hw.sz s ps g0 hT hr si hsr k r hrun ?_
  intro e si' s' ps' a' w' h1 h2 h3 h4 h5 h6 h7 h8 h9
  have hsame : ∀ b, b < w0.heap.size → w'.heap[b]? = w.heap[b]? := fun b hb => h7.block b (Nat.lt_of_lt_of_le hb hw00) fun hl => by have := hlv b hl; omega
  refine fin e si' s' ps' a' w' h1 h2 (fun x hx => h4 x.1 x.2 (fzL_mem pins hp x hx)) h5 hsame h7.size ⟨h3, ?_, ?_⟩
  · exact hw.bel.trans ⟨h7.os, h7.tape, h7.output, h7.size, fun b hb => hsame b (Nat.lt_of_lt_of_le hb hw0)⟩
  · refine hw.mks.app h9 (fun b hb => Nat.lt_of_lt_of_le (hM b hb) hw.bel.size) (Nat.le_trans hn0 hw.bel.size) fun b x hx => h7.block b (heap_lt hx) (hr.no_live hx)
end

theorem both_encD {t : GT} : ∀ (l : List (El t)), Both (RelT t) l (l.map (encD t))
  | [] => .nil
  | x :: l => .cons (encD_rel t x) (both_encD l)
def lE (line : El GE → Option (List UInt8 × Bool)) : List (Nat × Ent) := [(23, pureE [GE] [.str, .bool] line)]
def t5 : TC := .rg [ti 16 (.bin .lss (.t 15) (.t 14))] none
def t6 : TC := .rg [ti 17 (.iadrS 16 (.t 13) (.t 15)), ti 18 (.load true 16 (.t 17)), ti 6 (.alloc [(I 0), (I 0), (B false), (I 0), (I 0), (I 0), (I 0), (B false), (B false), (I 0), (I 0), (I 0), (I 0), (I 0), (I 0), (I 0)]), ⟨⟨none, .store 16 (.t 6) (.t 18), none⟩, {}⟩] none
def t7 : TC := .rg [ti 20 (.load true 16 (.t 6)), ti 21 (.call (.c (.fn 23 [])) [(.t 20)]), ti 19 (.mov (.t 21)), ti 22 (.extr 0 (.t 19)), ti 23 (.extr 1 (.t 19)), ti 7 (.mov (.t 22)), ti 8 (.mov (.t 23))] none
def t8 : TC := .rg [ti 24 (.mov (.t 8)), ti 25 (.un .not (.t 24))] none
def t12 : TC := .rg [ti 29 (.bin .add (.t 15) (.c (I 1))), ti 15 (.mov (.t 29))] none
def a9 : AC := .seq (.rg [⟨some 2, .mov (.c (.v (.string ⟨⟨[]⟩⟩))), none⟩, ⟨some 3, .mov (.c (I 6)), none⟩] none) .ret
def a10 : AC := .rg [⟨some 26, .mov (.t 7), none⟩, ⟨some 27, .call (.c (.fn 24 [])) [(.t 4), (.t 26)], none⟩] none
def a11 : AC := .rg [⟨some 28, .call (.c (.fn 25 [])) [(.t 4), (.c (.v (.int .u8 10)))], none⟩] none
def pL : AC := .seq t5.er (.seq (.cond (.t 16) .skip (.exit 0)) (.seq (.block 1 (.seq t6.er (.seq t7.er (.seq (.seq t8.er (.cond (.t 25) a9 .skip)) (.seq a10 a11))))) t12.er))
def kB (i : Nat) (e : Exit) (si : SI) : Option Bool := match e, getT si.T i with
  | .normal, .bool b => some b
  | _, _ => none
def kI (i : Nat) (e : Exit) (si : SI) : Option Int := match e, getT si.T i with
  | .normal, .int .i64 b => some b
  | _, _ => none
def kSB (i j : Nat) (e : Exit) (si : SI) : Option (List UInt8 × Bool) := match e, getT si.T i, getT si.T j with
  | .normal, .str s, .bool b => some (s, b)
  | _, _, _ => none
def kSi (e : Exit) (si : SI) : Option (Exit × SI) := some (e, si)
theorem t5_run (n k : Int) : run [] 0 0 t5 ⟨[(14, .int .i64 n), (15, .int .i64 k)], []⟩ (kB 16) = some (decide (k < n)) := by kernel_rfl
theorem t8_run (b : Bool) : run [] 0 0 t8 ⟨[(8, .bool b)], []⟩ (kB 25) = some (!b) := by kernel_rfl
theorem t12_run (k : Int) : run [] 0 0 t12 ⟨[(15, .int .i64 k)], []⟩ (kI 15) = some (W (k + 1)) := by kernel_rfl
def dE : El GE := (0, ((0, false), ((0, 0, 0, 0, false, false, (0, 0), 0, 0), 0, 0, 0)))
def S6 (l : List (El GE)) (k : Int) : SI := ⟨[(6, .ptr 0 0 0), (18, .agg (encC GE (l.getD k.toNat dE))), (17, .rp (encC GE (l.getD k.toNat dE))), (13, .lst false GE l), (15, .int .i64 k)], [some (.box 0 (encC GE (l.getD k.toNat dE)))]⟩
theorem t6_run (l : List (El GE)) (k : Int) : run [] 0 0 t6 ⟨[(13, .lst false GE l), (15, .int .i64 k)], []⟩ kSi = brB (inB k l.length) (some (.normal, S6 l k)) none := by kernel_rfl
theorem t7_run (line : El GE → Option (List UInt8 × Bool)) (l : List (El GE)) (k : Int) : run (lE line) 0 0 t7 (S6 l k) (kSB 7 8) = Option.bind (line (l.getD k.toNat dE)) fun y => some y := by kernel_rfl

/-- What a call of Print is to end with. -/
structure PE (cx : Cx) (w1 : World) (r : List UInt8 × Int) (a : Act) (w : World) : Prop where
  pw : PW cx w1 a w
  s2 : a.tmps.getD 2 undef = .string (mkS r.1)
  s3 : a.tmps.getD 3 undef = .int .i64 r.2
structure PB (cx : Cx) (w1 : World) (b : Nat) (acc : List UInt8) (a : Act) (w : World) : Prop where
  pw : PW cx w1 a w
  bld : Lib.IsBuilderF 64 5 w1.heap.size b (Lib.byteCells acc) w
theorem bc_app (acc s : List UInt8) : Lib.byteCells acc ++ Lib.strCells (mkS s) ++ [.int .u8 10] = Lib.byteCells (acc ++ s ++ [10]) := by
  rw [Lib.strCells_eq]; simp [Lib.byteCells, mkS]
theorem slotB {H : Hp} {nx : Nat} {M : Nat → Prop} {ps : Ps} {w : World} {T : Nat → DV} {a : Act} {si : SI} {i : Nat} {e : Exit} {b : Bool} (hs : SR si ⟨T, H, nx⟩) (hk : kB i e si = some b) (hv : ∀ t, VR H ps M nx w (T t) (a.tmps.getD t undef)) : e = .normal ∧ a.tmps.getD i undef = .bool b := by
  unfold kB at hk
  split at hk
  · rename_i e1
    injection hk with hk; subst hk
    have h1 := hs.t i
    rw [e1] at h1
    have h2 := hv i
    rw [show T i = _ from h1.bool_inv] at h2
    exact ⟨rfl, h2.v_inv⟩
  · cases hk
theorem slotI {H : Hp} {nx : Nat} {M : Nat → Prop} {ps : Ps} {w : World} {T : Nat → DV} {a : Act} {si : SI} {i : Nat} {e : Exit} {b : Int} (hs : SR si ⟨T, H, nx⟩) (hk : kI i e si = some b) (hv : ∀ t, VR H ps M nx w (T t) (a.tmps.getD t undef)) : e = .normal ∧ a.tmps.getD i undef = .int .i64 b := by
  unfold kI at hk
  split at hk
  · rename_i e1
    injection hk with hk; subst hk
    have h1 := hs.t i
    rw [e1] at h1
    have h2 := hv i
    rw [show T i = _ from h1.int_inv] at h2
    exact ⟨rfl, h2.v_inv⟩
  · cases hk
theorem slotSB {H : Hp} {nx : Nat} {M : Nat → Prop} {ps : Ps} {w : World} {T : Nat → DV} {a : Act} {si : SI} {i j : Nat} {e : Exit} {b : List UInt8 × Bool} (hs : SR si ⟨T, H, nx⟩) (hk : kSB i j e si = some b) (hv : ∀ t, VR H ps M nx w (T t) (a.tmps.getD t undef)) : e = .normal ∧ a.tmps.getD i undef = .string (mkS b.1) ∧ a.tmps.getD j undef = .bool b.2 := by
  unfold kSB at hk
  split at hk
  · rename_i e1 e2
    injection hk with hk; subst hk
    have h1 := hs.t i
    rw [e1] at h1
    have h2 := hv i
    rw [show T i = _ from h1.str_inv] at h2
    have h3 := hs.t j
    rw [e2] at h3
    have h4 := hv j
    rw [show T j = _ from h3.bool_inv] at h4
    exact ⟨rfl, h2.v_inv, h4.v_inv⟩
  · cases hk
section
variable {cx : Cx} {ow : Nat → Bool} {w1 : World} (hn0 : cx.w0.heap.size ≤ w1.heap.size) (hM : ∀ b, cx.M b → b < w1.heap.size) (hro : cx.ro = none) (hgl : GlOK Tryd.prog w1 fun _ => False)
include hn0 hM hro hgl
omit hn0 hM hro hgl
theorem PW.put {a : Act} {w w' : World} {m : Nat} {v : Value} (h : PW cx w1 a w) (hb : Below w1.heap.size w w') (hk : ∀ (b : Nat) (x : Option (List Deferred)), w.heap[b]? = some (Obj.deferred x) → w'.heap[b]? = w.heap[b]?) : PW cx w1 (a.put (some m) v) w' :=
  ⟨by simpa [Act.put] using h.sz, h.bel.trans hb, h.mks.keep fun D _ hD => hk D _ hD⟩
theorem Slots.put {l : List (Nat × Value)} {a : Act} {m : Nat} {v : Value} (h : Slots l a) (hm : (l.all fun x => !(Nat.beq x.1 m)) = true) (hs : m < a.tmps.size) : Slots l (a.put (some m) v) := fun x hx => by
  rw [put_tmps hs, if_neg (fun e => by have := List.all_eq_true.1 hm x hx; rw [e] at this; simp at this)]; exact h x hx
include hn0 hM hro hgl
omit hn0 hM hro hgl
theorem ints2 {a : Act} {w : World} {n k : Int} (h1 : a.tmps.getD 14 undef = .int .i64 n) (h2 : a.tmps.getD 15 undef = .int .i64 k) : ∀ x : Nat × IV × DV, x ∈ [(14, IV.int .i64 n, I n), (15, .int .i64 k, I k)] → Rel (ofL []) 0 x.2.1 x.2.2 ∧ VR (ofL []) (fun _ => none) (fun _ => False) 0 w x.2.2 (a.tmps.getD x.1 undef) := by
  intro x hx
  simp only [List.mem_cons, List.not_mem_nil, or_false] at hx
  rcases hx with rfl | rfl
  · exact ⟨.int _ _, by rw [h1]; exact .v _⟩
  · exact ⟨.int _ _, by rw [h2]; exact .v _⟩
theorem Slots.app {l : List (Nat × Value)} {a : Act} {m : Nat} {v : Value} (h : Slots l a) (hv : a.tmps.getD m undef = v) : Slots (l ++ [(m, v)]) a := fun x hx => by
  rcases List.mem_append.1 hx with hx | hx
  · exact h x hx
  · rw [List.mem_singleton.1 hx]; exact hv
include hn0 hM hro hgl
theorem print_loop {line : El GE → Option (List UInt8 × Bool)} (hline : PureOK Tryd.prog 23 [GE] [.str, .bool] line) (hnt : cx.nt = 42) {x0 : Value} {l : List (El GE)} {fl : Bool} (hx0 : VR (ofL []) (fun _ => none) (fun _ => False) 0 w1 (.lst fl (l.map (encD GE))) x0) (hl : l.length < 9223372036854775807) {b : Nat} {res : Option (List UInt8)} {Q : Exit → Act → World → Prop}
    (hQ1 : ∀ t a w, res = some t → PB cx w1 b t a w → Slots [(4, .pointer (some ⟨b, 0, none⟩))] a → Q (.exit 0) a w) (hQ2 : ∀ a w, res = none → PE cx w1 ([], 6) a w → Q .ret a w) : ∀ (es : List (El GE)) (k : Nat) (acc : List UInt8) (a : Act) (w : World), l.drop k = es → k + es.length = l.length → linesM line es acc = some res → PB cx w1 b acc a w →
      Slots [(13, x0), (4, .pointer (some ⟨b, 0, none⟩)), (14, .int .i64 l.length)] a → a.tmps.getD 15 undef = .int .i64 k → WPL Tryd.prog cx ow pL Q a w := by
  intro es
  induction es with
  | nil =>
    intro k acc a w hd hk hr hb hp h15
    simp only [linesM, Option.some.injEq] at hr
    refine WPL.unroll (WP.seq ?_)
    refine leaf0 hn0 hM hro hgl t5 .nil (TC.noh_ok (by kernel_rfl)) [(13, x0), (4, .pointer (some ⟨b, 0, none⟩)), (14, .int .i64 l.length)] (nz (by kernel_rfl)) hp hb.pw [(14, .int .i64 l.length, I l.length), (15, .int .i64 k, I k)] ?_ (kB 16) _ (t5_run _ _) ?_
    · exact ints2 (hp (14, _) (by simp)) h15
    intro e si' s' ps' a' w' h1 h2 h3 h4 _ _ h5 h6 h7
    obtain ⟨rfl, h16⟩ := slotB h1 h2 h4
    refine WP.seq (WP.cond (fun t => VR.v (H := ofL []) (ps := fun _ => none) (M := fun _ => False) (nx := 0) (w := w') (a'.tmps.getD t undef)) (b := false) ?_ (fun h => by cases h) fun _ => WP.exit ?_)
    · show DV.v (a'.tmps.getD 16 undef) = _
      rw [h16, decide_eq_false (by simp at hk; omega)]
    · exact hQ1 acc a' w' hr.symm ⟨h7, hb.bld.same h5⟩ fun x hx => by rw [List.mem_singleton.1 hx]; exact h3 (4, _) (by simp)
  | cons e es ih =>
    intro k acc a w hd hk hr hb hp h15
    have hk' : k < l.length := by simp at hk; omega
    have hke : l.getD k dE = e := by
      have := List.getElem_drop (xs := l) (i := k) (j := 0) (h := by rw [hd]; simp)
      simp only [hd, List.getElem_cons_zero, Nat.add_zero] at this
      rw [List.getD_eq_getElem?_getD, List.getElem?_eq_getElem hk', Option.getD_some]; exact this.symm
    simp only [linesM] at hr
    refine WPL.unroll (WP.seq ?_)
    refine leaf0 hn0 hM hro hgl t5 .nil (TC.noh_ok (by kernel_rfl)) [(13, x0), (4, .pointer (some ⟨b, 0, none⟩)), (14, .int .i64 l.length), (15, .int .i64 k)] (nz (by kernel_rfl)) ?_ hb.pw [(14, .int .i64 l.length, I l.length), (15, .int .i64 k, I k)] ?_ (kB 16) _ (t5_run _ _) ?_
    · exact hp.app h15
    · exact ints2 (hp (14, _) (by simp)) h15
    intro e1 si1 s1 ps1 a1 w' h1 h2 hp1 h4 _ _ h5 h6 h7
    have hb1 : PB cx w1 b acc a1 w' := ⟨h7, hb.bld.same h5⟩
    obtain ⟨rfl, h16⟩ := slotB h1 h2 h4
    refine WP.seq (WP.cond (fun t => VR.v (H := ofL []) (ps := fun _ => none) (M := fun _ => False) (nx := 0) (w := w') (a1.tmps.getD t undef)) (b := true) ?_ (fun _ => WP.skip ?_) fun h => by cases h)
    · show DV.v (a1.tmps.getD 16 undef) = _
      rw [h16, decide_eq_true (by omega)]
    clear h1 h2 h4 h5 h6 h7 h16
    refine WP.seq (WP.block (WP.seq ?_))
    have hx1 : VR (ofL []) (fun _ => none) (fun _ => False) 0 w' (.lst fl (l.map (encD GE))) x0 := hx0.mono ⟨Nat.le_refl _, fun o h => absurd h (Nat.not_lt_zero _), fun b hb => hb.elim (fun h => h.elim) fun h => absurd h no_live, fun b hb _ => hb1.pw.bel.block b hb⟩
    refine leaf0 hn0 hM hro hgl t6 .nil (TC.noh_ok (by kernel_rfl)) [(13, x0), (4, .pointer (some ⟨b, 0, none⟩)), (14, .int .i64 l.length), (15, .int .i64 k)] (nz (by kernel_rfl)) hp1 hb1.pw [(13, .lst false GE l, .lst fl (l.map (encD GE))), (15, .int .i64 k, I k)] ?_ kSi (.normal, S6 l k) ?_ ?_
    · intro x hx
      simp only [List.mem_cons, List.not_mem_nil, or_false] at hx
      rcases hx with rfl | rfl
      · exact ⟨.lst _ _ _ _ _ (fun h => by cases h) (both_encD l), by rw [hp1 (13, x0) (by simp)]; exact hx1⟩
      · exact ⟨.int _ _, by rw [hp1 (15, .int .i64 k) (by simp)]; exact .v _⟩
    · rw [show lkI [(13, IV.lst false GE l, DV.lst fl (l.map (encD GE))), (15, .int .i64 (k : Int), I k)] = [(13, .lst false GE l), (15, .int .i64 k)] from rfl, t6_run]
      rw [show inB (k : Int) l.length = true from inB_true (by omega)]; rfl
    intro e2 si2 s2 ps2 a2 w2 g1 g2 hp2 g4 g5 g6 g7 g8 g9
    injection g2 with g2
    injection g2 with g2 g2'
    subst g2; subst g2'
    have hb2 : PB cx w1 b acc a2 w2 := ⟨g9, hb1.bld.same g7⟩
    refine WP.seq ?_
    cases hle : line e with
    | none => rw [hle] at hr; cases hr
    | some y =>
    rw [hle, Option.bind_some] at hr
    refine leaf1 hn0 hM hro hgl (w0 := w') t7 (.cons (pureE_ok hline) .nil) (TC.noh_ok (by kernel_rfl)) [(13, x0), (4, .pointer (some ⟨b, 0, none⟩)), (14, .int .i64 l.length), (15, .int .i64 k)] (nz (by kernel_rfl)) hp2 hb2.pw s2 ps2 g4 g5 g6 hb1.pw.bel.size g8 (S6 l k) g1 (kSB 7 8) y ?_ ?_
    · have := t7_run line l k
      rw [Int.toNat_natCast, hke, hle] at this
      exact this
    intro e3 si3 s3 ps3 a3 w3 k1 k2 hp3 k4 k5 k6 k7
    obtain ⟨rfl, h7, h8⟩ := slotSB k1 k2 k4
    have hb3 : PB cx w1 b acc a3 w3 := ⟨k7, hb1.bld.same fun q hq => (k5 q hq).trans (g7 q hq)⟩
    clear g1 g4 g5 g6 g7 g8 g9 k1 k2 k4 k5 k6 k7 hb2
    refine WP.seq (WP.seq ?_)
    refine leaf0 hn0 hM hro hgl t8 .nil (TC.noh_ok (by kernel_rfl)) [(13, x0), (4, .pointer (some ⟨b, 0, none⟩)), (14, .int .i64 l.length), (15, .int .i64 k), (7, .string (mkS y.1))] (nz (by kernel_rfl)) ?_ hb3.pw [(8, .bool y.2, B y.2)] ?_ (kB 25) _ (t8_run _) ?_
    · exact hp3.app h7
    · intro x hx
      rw [List.mem_singleton.1 hx]
      exact ⟨.bool _, by rw [h8]; exact .v _⟩
    intro e4 si4 s4 ps4 a4 w4 k1 k2 hp4 k4 _ _ k5 k6 k7
    obtain ⟨rfl, h25⟩ := slotB k1 k2 k4
    have hb4 : PB cx w1 b acc a4 w4 := ⟨k7, hb3.bld.same k5⟩
    clear k1 k2 k4 k5 k6 k7
    have nt42 : ∀ {q : Act} {v : World}, PW cx w1 q v → q.tmps.size = 42 := fun h => h.sz.trans hnt
    cases hy : y.2 with
    | false =>
      rw [hy, cond_false] at hr
      injection hr with hr
      refine WP.cond (fun t => VR.v (H := ofL []) (ps := fun _ => none) (M := fun _ => False) (nx := 0) (w := w4) (a4.tmps.getD t undef)) (b := true) ?_ (fun _ => WP.seq (WP.rg ?_)) fun h => by cases h
      · show DV.v (a4.tmps.getD 25 undef) = _
        rw [h25, hy]; rfl
      refine WO.mov rfl fun _ => WO.mov rfl fun _ => WO.nil (WP.ret ?_)
      refine hQ2 _ _ hr.symm ⟨((hb4.pw.put (Below.refl ..) fun _ _ _ => rfl).put (Below.refl ..) fun _ _ _ => rfl), ?_, ?_⟩
      · rw [put_tmps (by simp [Act.put, nt42 hb4.pw]), if_neg (by decide), put_tmps (by simp [nt42 hb4.pw]), if_pos rfl]; rfl
      · rw [put_tmps (by simp [Act.put, nt42 hb4.pw]), if_pos rfl]
    | true =>
      rw [hy, cond_true] at hr
      have hlim : acc.length + y.1.length + 1 ≤ 140737488355328 := by
        cases hd : decide (acc.length + y.1.length + 1 ≤ 140737488355328) with
        | true => exact of_decide_eq_true hd
        | false => rw [hd, cond_false] at hr; cases hr
      rw [decide_eq_true hlim, cond_true] at hr
      refine WP.cond (fun t => VR.v (H := ofL []) (ps := fun _ => none) (M := fun _ => False) (nx := 0) (w := w4) (a4.tmps.getD t undef)) (b := false) ?_ (fun h => by cases h) fun _ => WP.skip ?_
      · show DV.v (a4.tmps.getD 25 undef) = _
        rw [h25, hy]; rfl
      refine WP.seq (WP.rg (WO.mov (d := .string (mkS y.1)) ?_ fun _ => ?_))
      · show DV.v (a4.tmps.getD 7 undef) = _
        rw [hp4 (7, .string (mkS y.1)) (by simp)]
      have hw5 : PW cx w1 (a4.put (some 26) (.string (mkS y.1))) w4 := hb4.pw.put (Below.refl ..) fun _ _ _ => rfl
      have hp5 : Slots [(13, x0), (4, .pointer (some ⟨b, 0, none⟩)), (14, .int .i64 l.length), (15, .int .i64 k), (7, .string (mkS y.1))] (a4.put (some 26) (.string (mkS y.1))) := hp4.put (by kernel_rfl) (by rw [nt42 hb4.pw]; decide)
      have h26 : (a4.put (some 26) (.string (mkS y.1))).tmps.getD 26 undef = .string (mkS y.1) := by rw [put_tmps (by rw [nt42 hb4.pw]; decide), if_pos rfl]
      have hsz : (mkS y.1).size = y.1.length := by simp [mkS, ByteArray.size]
      have hbl : (Lib.byteCells acc).length = acc.length := by simp [Lib.byteCells]
      generalize (a4.put (some 26) (.string (mkS y.1))) = a5 at hw5 hp5 h26 ⊢
      refine WO.call rfl ⟨_, Tryd.func24, by kernel_rfl, by kernel_rfl⟩ (cargs := [.pointer (some ⟨b, 0, none⟩), .string (mkS y.1)]) ?_ fun _ => ?_
      · show [DV.v (a5.tmps.getD 4 undef), DV.v (a5.tmps.getD 26 undef)] = _
        rw [hp5 (4, .pointer (some ⟨b, 0, none⟩)) (by simp), h26]; rfl
      refine (b_ws w1.heap.size b (Lib.byteCells acc) (mkS y.1) w4 hb4.bld (by rw [hsz, hbl]; omega) hw5.bel.size).mono ?_
      rintro e6 w6 ⟨rfl, bl6, be6, ok6⟩
      refine ⟨_, rfl, WO.nil ?_⟩
      have keep : ∀ {v v' : World} {bs : List Value} (_ : Lib.BuilderAtF 64 5 w1.heap.size b (.pointer (some ⟨b, 0, none⟩)) bs v' ∨ Lib.IsBuilderF 64 5 w1.heap.size b bs v) (_ : Lib.OthersKept 5 (some b) v v'), ∀ (q : Nat) (x : Option (List Deferred)), v.heap[q]? = some (Obj.deferred x) → q ≠ b → v'.heap[q]? = v.heap[q]? := fun _ ok q x hq hne => (ok q _ hq (by simpa using hne) (fun _ _ h => by cases h)).trans hq.symm
      have bne : ∀ {v : World} {bs : List Value}, Lib.IsBuilderF 64 5 w1.heap.size b bs v → ∀ (q : Nat) (x : Option (List Deferred)), v.heap[q]? = some (Obj.deferred x) → q ≠ b := by
        rintro v bs hbb q x hq rfl
        rcases hbb with ⟨_, v1, h2, _⟩ | ⟨_, v1, h2, _⟩
        · rw [h2] at hq; cases hq
        · rw [h2] at hq; cases hq
      have hw6 : PW cx w1 (a5.put (some 27) (.tuple #[.int .i64 (mkS y.1).size, .nilIface])) w6 := hw5.put be6 fun q x hq => keep (.inr hb4.bld) ok6 q x hq (bne hb4.bld q x hq)
      have hp6 : Slots [(13, x0), (4, .pointer (some ⟨b, 0, none⟩)), (14, .int .i64 l.length), (15, .int .i64 k), (7, .string (mkS y.1))] (a5.put (some 27) (.tuple #[.int .i64 (mkS y.1).size, .nilIface])) := hp5.put (by kernel_rfl) (by rw [nt42 hw5]; decide)
      generalize (a5.put (some 27) (.tuple #[.int .i64 (mkS y.1).size, .nilIface])) = a6 at hw6 hp6 ⊢
      clear hp5 hw5 h26
      refine WP.rg (WO.call rfl ⟨_, Tryd.func25, by kernel_rfl, by kernel_rfl⟩ (cargs := [.pointer (some ⟨b, 0, none⟩), .int .u8 10]) ?_ fun _ => ?_)
      · show [DV.v (a6.tmps.getD 4 undef), DV.v (.int .u8 10)] = _
        rw [hp6 (4, .pointer (some ⟨b, 0, none⟩)) (by simp)]; rfl
      refine (b_wb w1.heap.size b (Lib.byteCells acc ++ Lib.strCells (mkS y.1)) 10 w6 (.inr bl6) (by rw [List.length_append, hbl, Lib.strCells_length, hsz]; omega) hw6.bel.size).mono ?_
      rintro e7 w7 ⟨rfl, bl7, be7, ok7⟩
      refine ⟨_, rfl, WO.nil ?_⟩
      have hw7 : PW cx w1 (a6.put (some 28) .nilIface) w7 := hw6.put be7 fun q x hq => keep (.inr (.inr bl6)) ok7 q x hq (bne (.inr bl6) q x hq)
      have hp7 : Slots [(13, x0), (4, .pointer (some ⟨b, 0, none⟩)), (14, .int .i64 l.length), (15, .int .i64 k), (7, .string (mkS y.1))] (a6.put (some 28) .nilIface) := hp6.put (by kernel_rfl) (by rw [nt42 hw6]; decide)
      have hb7 : Lib.IsBuilderF 64 5 w1.heap.size b (Lib.byteCells (acc ++ y.1 ++ [10])) w7 := .inr (by rw [← bc_app]; exact bl7)
      generalize (a6.put (some 28) .nilIface) = a7 at hw7 hp7 ⊢
      refine leaf0 hn0 hM hro hgl t12 .nil (TC.noh_ok (by kernel_rfl)) [(13, x0), (4, .pointer (some ⟨b, 0, none⟩)), (14, .int .i64 l.length)] (nz (by kernel_rfl)) (fun x hx => hp7 x (by simp only [List.mem_cons, List.not_mem_nil, or_false] at hx ⊢; rcases hx with h | h | h <;> simp [h])) hw7 [(15, .int .i64 k, I k)] ?_ (kI 15) _ (t12_run _) ?_
      · intro x hx
        rw [List.mem_singleton.1 hx]
        exact ⟨.int _ _, by rw [hp7 (15, .int .i64 k) (by simp)]; exact .v _⟩
      intro e8 si8 s8 ps8 a8 w8 k1 k2 hp8 k4 _ _ k5 k6 k7
      obtain ⟨rfl, h15'⟩ := slotI k1 k2 k4
      have : W ((k : Int) + 1) = ((k + 1 : Nat) : Int) := by rw [W_eq (by omega) (by omega)]; omega
      rw [this] at h15'
      refine ih (k + 1) (acc ++ y.1 ++ [10]) a8 w8 ?_ (by simp at hk ⊢; omega) hr ⟨k7, hb7.same k5⟩ hp8 h15'
      rw [← List.drop_drop, hd]; rfl
end
/-! ### The whole -/
section
variable {cx : Cx} {ow : Nat → Bool} {w1 : World} (hn0 : cx.w0.heap.size ≤ w1.heap.size) (hM : ∀ b, cx.M b → b < w1.heap.size)
include hn0 hM
theorem WO.ev {Q : Exit → Act → World → Prop} {a : Act} {w : World} {m : Nat} {op : ROp} {d : Value} {r : List RI} (hw : PW cx w1 a w) (l : List (Nat × IV × DV)) (hl : ∀ x, x ∈ l → VR (ofL []) (fun _ => none) (fun _ => False) 0 w x.2.2 (a.tmps.getD x.1 undef)) (he : ev op true (lkD l) (ofL []) 0 = some (.v d, .no))
    (k : m < cx.nt → ∀ w', PW cx w1 (a.put (some m) d) w' → (∀ b, b < w.heap.size → w'.heap[b]? = w.heap[b]?) → WO Tryd.prog cx ow r Q (a.put (some m) d) w') : WO Tryd.prog cx ow (⟨some m, op, none⟩ :: r) Q a w := fun ops ris j h1 hd hl' => by
  obtain ⟨o, ho, hi, hd', hl''⟩ := wo_at h1 hd hl'
  show wpOpsIn (FR cx.ro) 0 Tryd.prog ops Q (List.range' j (r.length + 1)) a w
  rw [List.range'_succ, wpOpsIn_cons]
  obtain ⟨hdst, ⟨ow', hrop⟩, hd0, hgd⟩ := rI_parts hi
  have hdst : some m = o.dst := hdst
  have hrop : rop Tryd.prog ow' o.op = some op := hrop
  rcases hgd with ⟨g1, g2⟩ | ⟨j', wn, t, g1, g2, g3⟩
  · unfold wpOpIn
    rw [ho]
    simp only
    have hw' : Region.wanted o (yielded ops a.tmps) = true := by simp [Region.wanted, g1]
    rw [if_pos hw']
    refine Go.Oper.wp.toIn ?_ fun c hc => by rw [hc] at hrop; simp [rop] at hrop
    let cx' : Cx := ⟨cx.nt, fun _ => False, fun _ => False, w, ofL [], fun _ => none, 0, none, fun _ => none, []⟩
    obtain ⟨nv, v, w', ps', hrun, hnv, hv, hm⟩ := ev_sound (cx := cx') (H := ofL []) (ps := fun _ => none) (nx := 0) (w := w) (T := lkD l) (p := true) (a := a) ⟨hr0 w, Fr.refl _ _, fun o ck p h => (by cases h), rfl, lk_vr l hl⟩ hrop he
    have hv := hv.v_inv
    subst hv
    have hsame : ∀ b, b < w.heap.size → w'.heap[b]? = w.heap[b]? := fun b hb => hm.fr.block b hb fun h => h
    have hpw : PW cx w1 (a.put (some m) v) w' := ⟨by simpa [Act.put] using hw.sz, hw.bel.trans ⟨hm.fr.os, hm.fr.tape, hm.fr.output, hm.fr.size, fun b hb => hsame b (Nat.lt_of_lt_of_le hb hw.bel.size)⟩, hw.mks.keep fun D _ hD => hsame D (heap_lt hD)⟩
    unfold Oper.wp
    rw [hrun]
    have fin : wpOpsIn (FR cx.ro) 0 Tryd.prog ops Q (List.range' (j + 1) r.length) (a.put o.dst v) w' := by rw [← hdst]; exact k (hd0 m hdst.symm) w' hpw hsame ops ris (j + 1) h1 hd' hl''
    rcases hnv with rfl | ⟨rfl, rfl⟩
    · exact fin
    · exact fin
  · cases g3
end
def a0 : AC := .rg [⟨some 2, .mov (.c (.v (.string ⟨⟨[]⟩⟩))), none⟩, ⟨some 3, .mov (.c (I 0)), none⟩] none
def a2 : AC := .seq (.rg [⟨some 2, .mov (.c (.v (.string ⟨⟨[]⟩⟩))), none⟩, ⟨some 3, .mov (.c (I 2)), none⟩] none) .ret
def a1 : AC := .seq (.rg [⟨some 10, .mov (.t 0), none⟩, ⟨some 11, .len (.t 10), none⟩, ⟨some 12, .bin .gtr (.t 11) (.c (I 1000)), none⟩] none) (.cond (.t 12) a2 .skip)
def a3 : AC := .rg [⟨some 4, .alloc [(.v (.pointer none)), (.lst true [])], none⟩] none
def a4 : AC := .rg [⟨some 13, .mov (.t 0), none⟩, ⟨some 14, .len (.t 13), none⟩, ⟨some 15, .mov (.c (I 0)), none⟩] none
def a13 : AC := .rg [⟨some 30, .call (.c (.fn 26 [])) [(.t 4)], none⟩, ⟨some 9, .mov (.t 30), none⟩] none
def restA : AC := .seq (.seq a4 (.block 0 (.loop pL))) (.seq a13 tailT.er)
def printA : AC := .seq a0 (.seq a1 (.seq a3 restA))
theorem print_comp : comp Tryd.prog 42 (fun _ => false) (bodyOf Tryd.f12) = some printA := by kernel_rfl
def alB : Code → Bool
  | .seq _ (.seq _ (.seq (.region _ ops false) _)) => match ops.toList with
    | [o] => (match o.dst with | some d => Nat.beq d 4 | none => false) && (match o.op with | .alloc t => Nat.beq t 64 | _ => false) && o.guard.isNone
    | _ => false
  | _ => false
theorem alB_of {c : Code} (h : alB c = true) : ∃ c0 c1 id ops c4 o, c = .seq c0 (.seq c1 (.seq (.region id ops false) c4)) ∧ ops = #[o] ∧ o.dst = some 4 ∧ o.op = .alloc 64 ∧ o.guard = none := by
  unfold alB at h
  split at h
  · rename_i c0 c1 id ops c4
    split at h
    · rename_i o ho
      simp only [Bool.and_eq_true] at h
      obtain ⟨⟨h1, h2⟩, h3⟩ := h
      refine ⟨c0, c1, id, ops, c4, o, rfl, ?_, ?_, ?_, by simpa using h3⟩
      · exact Array.ext' (by simpa using ho)
      · split at h1
        · rename_i d hd
          rw [hd, Nat.eq_of_beq_eq_true h1]
        · cases h1
      · split at h2
        · rename_i t ht
          rw [ht, Nat.eq_of_beq_eq_true h2]
        · cases h2
    · cases h
  · cases h
theorem comp_seq {P : Program} {nt : Nat} {ow : Nat → Bool} {c1 c2 : Code} {x y : AC} (hc : comp P nt ow (.seq c1 c2) = some (.seq x y)) : comp P nt ow c1 = some x ∧ comp P nt ow c2 = some y := by
  simp only [comp] at hc
  split at hc
  · rename_i x' y' h1 h2
    injection hc with hc; injection hc with e1 e2; subst e1; subst e2
    exact ⟨h1, h2⟩
  · cases hc
theorem seqC {P : Program} {ro : Option Nat} {Q : Exit → Act → World → Prop} {a : Act} {w : World} {c1 c2 : Code} (h : c1.wpIn (FR ro) 0 P (thenW (fun a w => c2.wpIn (FR ro) 0 P Q a w) Q) a w) : (Code.seq c1 c2).wpIn (FR ro) 0 P Q a w := by
  refine wpIn_seq (wpIn_mono h ?_)
  rintro e a' w' q
  cases e with
  | normal => exact q
  | _ => exact q
theorem allocC {ro : Option Nat} {Q : Exit → Act → World → Prop} {a : Act} {w : World} {id : Nat} {o : Oper} (h1 : o.dst = some 4) (h2 : o.op = .alloc 64) (h3 : o.guard = none) (k : Q .normal (a.put (some 4) (.pointer (some ⟨w.heap.size, 0, none⟩))) (w.alloc (.cells #[.pointer none, .slice none 0 0] 64))) :
    (Code.region id #[o] false).wpIn (FR ro) 0 Tryd.prog Q a w := by
  refine wpIn_region ?_
  show wpOpsIn (FR ro) 0 Tryd.prog #[o] Q [0] a w
  rw [wpOpsIn_cons]
  unfold wpOpIn
  simp only [List.getElem?_toArray, List.getElem?_cons_zero]
  have hw' : Region.wanted o (yielded #[o] a.tmps) = true := by simp [Region.wanted, h3]
  rw [if_pos hw']
  refine Go.Oper.wp.toIn ?_ fun c hc => by rw [h2] at hc; cases hc
  have hrun : (execOp a.eval o).run Tryd.prog w = .ok (.value (.pointer (some ⟨w.heap.size, 0, none⟩))) (w.alloc (.cells #[.pointer none, .slice none 0 0] 64)) := by
    have hz := Tryd.zeroValue64 w
    simp only [execOp, h2, Instr.alloc, newVar, Sem.run_bind, run_program, Result.andThen_ok, Sem.run_pure, hz, newRow_run]
    rfl
  unfold Oper.wp
  rw [hrun]
  show wpOpsIn (FR ro) 0 Tryd.prog #[o] Q [] (a.put o.dst _) _
  rw [h1]
  exact k
def printM (line : El GE → Option (List UInt8 × Bool)) (sum : List UInt8 → Option Int) (words : List UInt8 × List Int → Option (List UInt8)) (l : List (El GE)) : Option (List UInt8 × Int) :=
  bif decide (l.length > 1000) then some ([], 2) else Option.bind (linesM line l []) fun r => match r with
    | none => some ([], 6)
    | some t => tailM sum words t
theorem marks_keep {B b : Nat} {bs : List Value} {v v' : World} (hb : Lib.IsBuilderF 64 5 B b bs v) (ok : Lib.OthersKept 5 (some b) v v') (q : Nat) (x : Option (List Deferred)) (hq : v.heap[q]? = some (Obj.deferred x)) : v'.heap[q]? = v.heap[q]? := by
  have hne : q ≠ b := by
    rintro rfl
    rcases hb with ⟨_, v1, h2, _⟩ | ⟨_, v1, h2, _⟩
    · rw [h2] at hq; cases hq
    · rw [h2] at hq; cases hq
  exact (ok q _ hq (by simpa using hne) (fun _ _ h => by cases h)).trans hq.symm
theorem slotE {H : Hp} {nx : Nat} {M : Nat → Prop} {ps : Ps} {w : World} {T : Nat → DV} {a : Act} {si : SI} {e : Exit} {b : List UInt8 × Int} (hs : SR si ⟨T, H, nx⟩) (hk : tailK e si = some b) (hv : ∀ t, VR H ps M nx w (T t) (a.tmps.getD t undef)) : e = .ret ∧ a.tmps.getD 2 undef = .string (mkS b.1) ∧ a.tmps.getD 3 undef = .int .i64 b.2 := by
  unfold tailK at hk
  split at hk
  · rename_i e1 e2
    injection hk with hk; subst hk
    have h1 := hs.t 2
    rw [e1] at h1
    have h2 := hv 2
    rw [show T 2 = _ from h1.str_inv] at h2
    have h3 := hs.t 3
    rw [e2] at h3
    have h4 := hv 3
    rw [show T 3 = _ from h3.int_inv] at h4
    exact ⟨rfl, h2.v_inv, h4.v_inv⟩
  · cases hk
theorem print_hand {line : El GE → Option (List UInt8 × Bool)} {sum : List UInt8 → Option Int} {words : List UInt8 × List Int → Option (List UInt8)} (hline : PureOK Tryd.prog 23 [GE] [.str, .bool] line) (hsum : PureOK Tryd.prog 7 [.str] [.int .i64] sum) (hwords : PureOK Tryd.prog 27 [.str, .list (.int .i64)] [.str] words) :
    PureOK Tryd.prog 12 [.list GE] [.str, .int .i64] (printM line sum words) := by
  intro l y hy nb
  refine CallOK.lift0 ?_ (valsD_ids [.list GE] l) (resV_ids (valsD_ids [.str, .int .i64] y)) nb
  refine CallOK.intro2 (rs := [.t 2, .t 3]) Tryd.checked.mixed Tryd.func12 (by kernel_rfl) (show Tryd.f12.body = some (bodyOf Tryd.f12) by kernel_rfl) (by rw [show Tryd.f12.ntmps = 42 by kernel_rfl]; exact print_comp) (by kernel_rfl) (by rw [valsD_len]; exact Nat.le_of_ble_eq_true (by kernel_rfl)) (fun o ck h => (by cases h)) (fun o ck h => (by cases h)) (Nat.le_refl _) ((resV_ids (valsD_ids [.str, .int .i64] y)).mono' fun _ h => h.elim) (fun o ck h => (by cases h)) (fun o ck h => (by cases h)) fun cx hcx hnb hro hfz hmm ps a w R => ?_
  have hcx : cx.nt = 42 := hcx.trans (by kernel_rfl)
  obtain ⟨c0, c1, id, ops, c4, o, hc, rfl, h1, h2, h3⟩ := alB_of (show alB (bodyOf Tryd.f12) = true by kernel_rfl)
  have hcomp := print_comp
  rw [hc] at hcomp ⊢
  obtain ⟨k0, hcomp⟩ := comp_seq hcomp
  obtain ⟨k1, hcomp⟩ := comp_seq hcomp
  obtain ⟨-, k4⟩ := comp_seq hcomp
  rw [← hcx] at k0 k1 k4
  have hz : ∀ ac : AC, ac.nofz cx.fz := fun ac => by rw [hfz]; exact ac.nofz_none
  have hn0 : cx.w0.heap.size ≤ w.heap.size := R.fr.size
  have hM : ∀ b, cx.M b → b < w.heap.size := R.hr.ml
  have hgl : GlOK Tryd.prog w fun _ => False := hmm.g.of R.fr fun b h => h.elim
  have pw0 : PW cx w a w := ⟨R.nt, Below.refl .., R.df⟩
  obtain ⟨x0, hx⟩ : ∃ x0, a.tmps.getD 0 undef = x0 := ⟨_, rfl⟩
  have hx0 : VR (ofL []) (fun _ => none) (fun _ => False) 0 w (.lst false (l.map (encD GE))) x0 := by
    have h0 : VR (ofL []) ps cx.M 0 w (.lst false (l.map (encD GE))) (a.tmps.getD 0 undef) := R.t 0
    rw [hx] at h0
    exact h0.mono ⟨Nat.le_refl _, fun o h => absurd h (Nat.not_lt_zero _), fun b hb => hb.elim (fun h => h.elim) fun h => absurd h no_live, fun b hb _ => rfl⟩
  have fin : ∀ e a' w', (e = Exit.normal ∨ e = .ret) → PE cx w y a' w' → ∃ s' ps', RS cx s' ps' a' w' ∧ (e = .normal ∨ e = .ret) ∧ (∃ ds, rrV s'.T s'.H [.t 2, .t 3] = some ds ∧ WkD (resV ds) (resV (valsD [.str, .int .i64] y))) ∧ ∀ o ck, ofL [] o = some ck → ∃ c0, s'.H o = some c0 ∧ CkW c0 ck := by
    intro e a' w' he hpe
    refine ⟨⟨fun t => if t = 2 then .v (.string (mkS y.1)) else if t = 3 then I y.2 else .any, ofL [], 0⟩, ps, ⟨fun t => ?_, hpe.pw.sz, ?_, ?_, fun o ck p h => (by cases h), hpe.pw.mks, ?_, fun o _ ck' h => (by cases h), fun t v h => by rw [hfz] at h; cases h⟩, he, ⟨_, rfl, WkD.refl _⟩, fun o ck h => by cases h⟩
    · show VR _ _ _ _ _ (if t = 2 then _ else if t = 3 then _ else _) _
      by_cases e2 : t = 2
      · rw [if_pos e2, e2, hpe.s2]; exact .v _
      · rw [if_neg e2]
        by_cases e3 : t = 3
        · rw [if_pos e3, e3, hpe.s3]; exact .v _
        · rw [if_neg e3]; exact .any _
    · exact ⟨fun o ck h => (by cases h), fun o ck h => (by cases h), fun o o' ck ck' p p' h => (by cases h), fun b hb => Nat.lt_of_lt_of_le (hM b hb) hpe.pw.bel.size, fun o ck p h => (by cases h)⟩
    · have hb := hpe.pw.bel
      exact ⟨hb.os.trans R.fr.os, hb.tape.trans R.fr.tape, hb.output.trans R.fr.output, Nat.le_trans hn0 hb.size, fun b hb1 hb2 => (hb.block b (Nat.lt_of_lt_of_le hb1 hn0)).trans (R.fr.block b hb1 hb2)⟩
    · show cx.nb ≤ 0
      rw [hnb]
      exact Nat.le_refl _
  have nt42 : ∀ {q : Act} {v : World}, PW cx w q v → q.tmps.size = 42 := fun h => h.sz.trans hcx
  have hro' : FR cx.ro = FR none := by rw [hro]
  rw [← hro']
  refine seqC ((show WP Tryd.prog cx (fun _ => false) a0 _ a w from WP.rg (WO.mov rfl fun _ => WO.mov rfl fun _ => WO.nil ?_)) c0 k0 (hz _))
  have pwa := (pw0.put (m := 2) (v := .string ⟨⟨[]⟩⟩) (Below.refl ..) fun _ _ _ => rfl).put (m := 3) (v := .int .i64 0) (Below.refl ..) fun _ _ _ => rfl
  have hxa : ((a.put (some 2) (.string ⟨⟨[]⟩⟩)).put (some 3) (.int .i64 0)).tmps.getD 0 undef = x0 := by
    rw [put_tmps (by simp [Act.put, nt42 pw0]), if_neg (by decide), put_tmps (by simp [nt42 pw0]), if_neg (by decide), hx]
  show (Code.seq c1 _).wpIn (FR cx.ro) 0 Tryd.prog _ ((a.put (some 2) (.string ⟨⟨[]⟩⟩)).put (some 3) (.int .i64 0)) w
  generalize (a.put (some 2) (.string ⟨⟨[]⟩⟩)).put (some 3) (.int .i64 0) = aa at pwa hxa ⊢
  refine seqC ((show WP Tryd.prog cx (fun _ => false) a1 _ aa w from ?_) c1 k1 (hz _))
  refine WP.seq (WP.rg (WO.mov (d := x0) (by show DV.v (aa.tmps.getD 0 undef) = _; rw [hxa]) fun _ => ?_))
  have pwb := pwa.put (m := 10) (v := x0) (Below.refl ..) fun _ _ _ => rfl
  have hb0 : (aa.put (some 10) x0).tmps.getD 0 undef = x0 := by rw [put_tmps (by rw [nt42 pwa]; decide), if_neg (by decide), hxa]
  have hb10 : (aa.put (some 10) x0).tmps.getD 10 undef = x0 := by rw [put_tmps (by rw [nt42 pwa]; decide), if_pos rfl]
  generalize aa.put (some 10) x0 = ab at pwb hb0 hb10 ⊢
  refine WO.ev hn0 hM pwb [(10, .any, .lst false (l.map (encD GE)))] (fun x hx => by rw [List.mem_singleton.1 hx, hb10]; exact hx0) (d := .int .i64 l.length) (e_lenL (f := false) (xs := l.map (encD GE)) rfl (by simp)) fun _ wc pwc hsc => ?_
  have hc0 : (ab.put (some 11) (.int .i64 l.length)).tmps.getD 0 undef = x0 := by rw [put_tmps (by rw [nt42 pwb]; decide), if_neg (by decide), hb0]
  have hc11 : (ab.put (some 11) (.int .i64 l.length)).tmps.getD 11 undef = .int .i64 l.length := by rw [put_tmps (by rw [nt42 pwb]; decide), if_pos rfl]
  generalize ab.put (some 11) (.int .i64 l.length) = ac at pwc hc0 hc11 ⊢
  refine WO.ev hn0 hM pwc [(11, .any, I l.length)] (fun x hx => by rw [List.mem_singleton.1 hx, hc11]; exact .v _) (d := .bool (decide ((1000 : Int) < l.length))) rfl fun _ wd pwd hsd => WO.nil ?_
  have hd0 : (ac.put (some 12) (.bool (decide ((1000 : Int) < l.length)))).tmps.getD 0 undef = x0 := by rw [put_tmps (by rw [nt42 pwc]; decide), if_neg (by decide), hc0]
  have hd12 : (ac.put (some 12) (.bool (decide ((1000 : Int) < l.length)))).tmps.getD 12 undef = .bool (decide ((1000 : Int) < l.length)) := by rw [put_tmps (by rw [nt42 pwc]; decide), if_pos rfl]
  show WP Tryd.prog cx _ _ _ (ac.put (some 12) (.bool (decide ((1000 : Int) < l.length)))) wd
  generalize ac.put (some 12) (.bool (decide ((1000 : Int) < l.length))) = ad at pwd hd0 hd12 ⊢
  have hcond : (RO.t 12).get (fun t => DV.v (ad.tmps.getD t undef)) = .v (.bool (decide ((1000 : Int) < l.length))) := by show DV.v (ad.tmps.getD 12 undef) = _; rw [hd12]
  unfold printM at hy
  refine WP.cond (fun t => VR.v (H := ofL []) (ps := fun _ => none) (M := fun _ => False) (nx := 0) (w := wd) (ad.tmps.getD t undef)) hcond (fun hlt => ?_) fun hge => ?_
  · have hlt : (1000 : Int) < l.length := of_decide_eq_true hlt
    rw [decide_eq_true (show l.length > 1000 by omega), cond_true] at hy
    injection hy with hy
    subst hy
    refine WP.seq (WP.rg (WO.mov rfl fun _ => WO.mov rfl fun _ => WO.nil (WP.ret (fin _ _ _ (.inr rfl) ⟨(pwd.put (Below.refl ..) fun _ _ _ => rfl).put (Below.refl ..) fun _ _ _ => rfl, ?_, ?_⟩))))
    · rw [put_tmps (by simp [Act.put, nt42 pwd]), if_neg (by decide), put_tmps (by simp [nt42 pwd]), if_pos rfl]; rfl
    · rw [put_tmps (by simp [Act.put, nt42 pwd]), if_pos rfl]
  have hge : ¬ (1000 : Int) < l.length := of_decide_eq_false hge
  rw [decide_eq_false (show ¬ l.length > 1000 by omega), cond_false] at hy
  refine WP.skip ?_
  show (Code.seq _ c4).wpIn (FR cx.ro) 0 Tryd.prog _ ad wd
  refine seqC (allocC h1 h2 h3 ?_)
  have pwe : PW cx w (ad.put (some 4) (.pointer (some ⟨wd.heap.size, 0, none⟩))) (wd.alloc (.cells #[.pointer none, .slice none 0 0] 64)) := pwd.put ((Below.refl _ _).alloc pwd.bel.size _) fun q x hq => by
    have := heap_lt hq
    exact Lib.alloc_old wd _ q this
  have hbe : Lib.IsBuilderF 64 5 w.heap.size wd.heap.size (Lib.byteCells []) (wd.alloc (.cells #[.pointer none, .slice none 0 0] 64)) := .inl ⟨pwd.bel.size, .slice none 0 0, heap_alloc_new wd _, World.ownsRowF_of (World.ownsRow_nil _ _ _ _), by simp [Value.ownBlock]⟩
  have he0 : (ad.put (some 4) (.pointer (some ⟨wd.heap.size, 0, none⟩))).tmps.getD 0 undef = x0 := by rw [put_tmps (by rw [nt42 pwd]; decide), if_neg (by decide), hd0]
  have he4 : (ad.put (some 4) (.pointer (some ⟨wd.heap.size, 0, none⟩))).tmps.getD 4 undef = .pointer (some ⟨wd.heap.size, 0, none⟩) := by rw [put_tmps (by rw [nt42 pwd]; decide), if_pos rfl]
  show c4.wpIn (FR cx.ro) 0 Tryd.prog _ (ad.put (some 4) (.pointer (some ⟨wd.heap.size, 0, none⟩))) (wd.alloc (.cells #[.pointer none, .slice none 0 0] 64))
  generalize ad.put (some 4) (.pointer (some ⟨wd.heap.size, 0, none⟩)) = ae at pwe he0 he4 ⊢
  generalize wd.heap.size = b at hbe he4 ⊢
  generalize wd.alloc (.cells #[.pointer none, .slice none 0 0] 64) = we at pwe hbe ⊢
  refine (show WP Tryd.prog cx (fun _ => false) restA _ ae we from ?_) c4 k4 (hz _)
  cases hlm : linesM line l [] with
  | none => rw [hlm] at hy; cases hy
  | some res =>
  rw [hlm, Option.bind_some] at hy
  refine WP.seq (WP.seq (WP.rg (WO.mov (d := x0) (by show DV.v (ae.tmps.getD 0 undef) = _; rw [he0]) fun _ => ?_)))
  have pwf := pwe.put (m := 13) (v := x0) (Below.refl ..) fun _ _ _ => rfl
  have hf4 : (ae.put (some 13) x0).tmps.getD 4 undef = .pointer (some ⟨b, 0, none⟩) := by rw [put_tmps (by rw [nt42 pwe]; decide), if_neg (by decide), he4]
  have hf13 : (ae.put (some 13) x0).tmps.getD 13 undef = x0 := by rw [put_tmps (by rw [nt42 pwe]; decide), if_pos rfl]
  generalize ae.put (some 13) x0 = af at pwf hf4 hf13 ⊢
  have hxf : VR (ofL []) (fun _ => none) (fun _ => False) 0 we (.lst false (l.map (encD GE))) x0 := hx0.mono ⟨Nat.le_refl _, fun o h => absurd h (Nat.not_lt_zero _), fun b hb => hb.elim (fun h => h.elim) fun h => absurd h no_live, fun b hb _ => pwf.bel.block b hb⟩
  refine WO.ev hn0 hM pwf [(13, .any, .lst false (l.map (encD GE)))] (fun x hx => by rw [List.mem_singleton.1 hx, hf13]; exact hxf) (d := .int .i64 l.length) (e_lenL (f := false) (xs := l.map (encD GE)) rfl (by simp)) fun _ wg pwg hsg => WO.mov rfl fun _ => WO.nil ?_
  have pwh := pwg.put (m := 15) (v := .int .i64 0) (Below.refl ..) fun _ _ _ => rfl
  have hph : Slots [(13, x0), (4, .pointer (some ⟨b, 0, none⟩)), (14, .int .i64 l.length)] ((af.put (some 14) (.int .i64 l.length)).put (some 15) (.int .i64 0)) := by
    have s14 : 14 < af.tmps.size := by rw [nt42 pwf]; decide
    have s15 : 15 < (af.put (some 14) (.int .i64 l.length)).tmps.size := by rw [nt42 pwg]; decide
    intro x hx
    simp only [List.mem_cons, List.not_mem_nil, or_false] at hx
    rcases hx with rfl | rfl | rfl
    · show Array.getD _ 13 undef = _
      rw [put_tmps s15, if_neg (by decide), put_tmps s14, if_neg (by decide), hf13]
    · show Array.getD _ 4 undef = _
      rw [put_tmps s15, if_neg (by decide), put_tmps s14, if_neg (by decide), hf4]
    · show Array.getD _ 14 undef = _
      rw [put_tmps s15, if_neg (by decide), put_tmps s14, if_pos rfl]
  have hh15 : ((af.put (some 14) (.int .i64 l.length)).put (some 15) (.int .i64 0)).tmps.getD 15 undef = .int .i64 ((0 : Nat) : Int) := by rw [put_tmps (by rw [nt42 pwg]; decide), if_pos rfl]; rfl
  show WP Tryd.prog cx _ _ _ ((af.put (some 14) (.int .i64 l.length)).put (some 15) (.int .i64 0)) wg
  generalize (af.put (some 14) (.int .i64 l.length)).put (some 15) (.int .i64 0) = ah at pwh hph hh15 ⊢
  refine WP.block (WP.loop (print_loop hn0 hM hro hgl hline hcx hx0 (by omega) (b := b) (res := res) ?_ ?_ l 0 [] ah wg rfl (by simp) hlm ⟨pwh, hbe.same hsg⟩ hph hh15))
  · rintro t ai wi rfl hbi hpi
    refine WP.seq (WP.rg (WO.call rfl ⟨_, Tryd.func26, by kernel_rfl, by kernel_rfl⟩ (cargs := [.pointer (some ⟨b, 0, none⟩)]) (by show [DV.v (ai.tmps.getD 4 undef)] = _; rw [hpi (4, .pointer (some ⟨b, 0, none⟩)) (by simp)]; rfl) fun _ => ?_))
    refine (Tryd.Builder_String_any_k w.heap.size b t wi hbi.bld hbi.pw.bel.size).mono ?_
    rintro e wj ⟨rfl, _, bej, okj⟩
    refine ⟨_, rfl, WO.mov (d := .string (mkS t)) ?_ fun _ => WO.nil ?_⟩
    · show DV.v (Array.getD _ 30 undef) = _
      rw [put_tmps (by rw [nt42 hbi.pw]; decide), if_pos rfl]; rfl
    have pwj := (hbi.pw.put (m := 30) (v := .string ⟨t.toArray⟩) bej (marks_keep hbi.bld okj)).put (m := 9) (v := .string (mkS t)) (Below.refl ..) fun _ _ _ => rfl
    have hj9 : ((ai.put (some 30) (.string ⟨t.toArray⟩)).put (some 9) (.string (mkS t))).tmps.getD 9 undef = .string (mkS t) := by rw [put_tmps (by simp [Act.put, nt42 hbi.pw]), if_pos rfl]
    show WP Tryd.prog cx _ _ _ ((ai.put (some 30) (.string ⟨t.toArray⟩)).put (some 9) (.string (mkS t))) wj
    generalize (ai.put (some 30) (.string ⟨t.toArray⟩)).put (some 9) (.string (mkS t)) = aj at pwj hj9 ⊢
    refine leaf0 hn0 hM hro hgl tailT (.cons (pureE_ok hsum) (.cons (pureE_ok hwords) .nil)) (TC.noh_ok (by kernel_rfl)) [] (nz (by kernel_rfl)) (fun x hx => by cases hx) pwj [(9, .str t, .v (.string (mkS t)))] ?_ tailK y ((tail_run sum words t).trans hy) ?_
    · intro x hx
      rw [List.mem_singleton.1 hx]
      exact ⟨.str _, by rw [hj9]; exact .v _⟩
    intro e si' s' ps' a' w' g1 g2 _ g4 _ _ _ _ g7
    obtain ⟨rfl, g8, g9⟩ := slotE g1 g2 g4
    exact fin _ _ _ (.inr rfl) ⟨g7, g8, g9⟩
  · rintro ai wi rfl hpe
    injection hy with hy
    subst hy
    exact fin _ _ _ (.inr rfl) hpe
end M
end Go.Proofs.YtipokcccpbcmeaaDoor
