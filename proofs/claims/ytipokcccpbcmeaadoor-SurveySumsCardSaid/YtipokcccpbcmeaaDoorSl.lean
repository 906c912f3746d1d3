/- strconv.Itoa, strings.HasPrefix, TrimPrefix, Index, Cut and Split (at one byte) as functions on plain data, out of the library's contracts at this dump. No condition of its own: over the loaded program. -/
import Derived.Test.YtipokcccpbcmeaaDoorPxT
import Derived.Test.YtipokcccpbcmeaaDoorShelf
import Derived.Test.YtipokcccpbcmeaaDoorChecked
set_option linter.all false
namespace Go.Pv
/-- A function of the library, out of a contract on values. -/
theorem CallOK.libW {P : Program} {f : FuncId} {xs : List Value} {res : DV} {nb : Nat} (hfn : ∃ fn, P.funcs[f]? = some fn ∧ (fn.name == "runtime.NumGoroutine") = false ∧ fn.body.isNone = false) (hids : Ids (fun _ => False) res)
    (h : ∀ w, GlOK P w (fun _ => False) → Calls P f xs.toArray w fun e w' => ∃ v, e = .returned v ∧ (∀ ps M nx, (∀ b, M b → b < w.heap.size) → VR (ofL []) ps M nx w' res v) ∧ RowKit.Below w.heap.size w w') : CallOK P f (xs.map DV.v) [] nb res [] nb := by
  refine ⟨hfn, fun o ck h => (by cases h), fun o ck h => (by cases h), Nat.le_refl _, hids.mono' fun _ h => h.elim, fun o ck h => (by cases h), fun M ps w cargs hR hsz hva hgl => ?_⟩
  have e : cargs = xs.toArray := by
    refine Array.ext (by simpa using hsz) fun i h1 h2 => ?_
    have hi : i < xs.length := by simpa using h2
    have := hva i (by simpa using hi)
    simp only [List.getElem_map] at this
    have := this.v_inv
    simpa [Array.getD_eq_getD_getElem?, h1] using this
  subst e
  refine (h w (hgl.less fun b hb => hb.elim)).mono ?_
  rintro e w' ⟨v, rfl, h1, h2⟩
  exact ⟨v, ps, rfl, h1 _ _ _ hR.ml, ⟨fun o ck h => (by cases h), fun o ck h => (by cases h), fun o o' ck ck' p p' h => (by cases h), fun b hb => Nat.lt_of_lt_of_le (hR.ml b hb) h2.size, fun o ck p h => (by cases h)⟩, ⟨h2.os, h2.tape, h2.output, h2.size, fun b hb _ => h2.block b hb⟩, fun o ck p h => (by cases h), fun o ho ck h => (by cases h)⟩
end Go.Pv
theorem Go.RowKit.below_grow' (w : Go.World) (k : Nat) (os : Array Go.Obj) : Go.RowKit.Below w.heap.size w (Go.Sort.grow (w.drewN k) os) := by
  refine ⟨rfl, rfl, rfl, ?_, fun i hi => ?_⟩
  · show w.heap.size ≤ (w.heap ++ os).size
    rw [Array.size_append]; omega
  · show (w.heap ++ os)[i]? = _
    rw [Array.getElem?_append_left hi]
namespace Go.Proofs.YtipokcccpbcmeaaDoor
open Go.Pv
namespace M
theorem glTab {w : World} (h : GlOK Tryd.prog w (fun _ => False)) : Lib.TabIs Tryd.prog w "internal/strconv.uint64pow10" .u64 Lib.pow10Tab := by
  have hg : Tryd.prog.globalNamed "internal/strconv.uint64pow10" = some 1 := by kernel_rfl
  obtain ⟨h1, _, cs, t, f, h3, h4⟩ := h _ (by decide) _ hg
  unfold Lib.TabIs World.var?
  rw [hg]
  simp only [Option.bind_some, h3]
  rw [h4.1 rfl]
  simp only [Lib.pow10Tab, List.map_map]
/-! ### strconv.Itoa -/
def digs : Nat → Nat → List UInt8
  | 0, _ => []
  | f + 1, u => bif decide (u < 10) then [UInt8.ofNat (48 + u)] else digs f (u / 10) ++ [UInt8.ofNat (48 + u % 10)]
theorem digs_eq : ∀ (f u : Nat), u < 10 ^ (f + 1) → digs (f + 1) u = Lib.decDigits u
  | 0, u, h => by
    have h1 : u < 10 := by simpa using h
    rw [Lib.decDigits, digs, dif_pos h1, decide_eq_true h1, cond_true]
  | f + 1, u, h => by
    rw [Lib.decDigits, digs]
    by_cases h1 : u < 10
    · rw [dif_pos h1, decide_eq_true h1, cond_true]
    · rw [dif_neg h1, decide_eq_false h1, cond_false, digs_eq f (u / 10) (Nat.div_lt_of_lt_mul (by rw [Nat.pow_succ, Nat.mul_comm] at h; exact h))]
def itoaM (n : Int) : List UInt8 := bif decide (n < 0) then 45 :: digs 20 n.natAbs else digs 20 n.toNat
theorem itoaM_eq {n : Int} (h0 : -9223372036854775808 ≤ n) (h1 : n ≤ 9223372036854775807) : itoaM n = Lib.itoa n := by
  unfold itoaM Lib.itoa
  by_cases h : n < 0
  · rw [if_pos h, decide_eq_true h, cond_true, digs_eq _ _ (by omega)]
  · rw [if_neg h, decide_eq_false h, cond_false, digs_eq _ _ (by omega)]
def strconv_Itoa (N : Nat) (a0 : Int) : Option (List UInt8) := bif decide (-9223372036854775808 ≤ a0 ∧ a0 ≤ 9223372036854775807) then some (itoaM a0) else none
theorem strconv_Itoa_pure (N : Nat) : PureOK Tryd.prog 43 [.int .i64] [.str] (fun x => strconv_Itoa N x) := by
  intro n y h nb
  simp only [strconv_Itoa] at h
  obtain ⟨hk, h⟩ := cond_some (show brB _ _ _ = some y from h)
  injection h with h; subst h
  have hk : -9223372036854775808 ≤ n ∧ n ≤ 9223372036854775807 := of_decide_eq_true hk
  rw [itoaM_eq hk.1 hk.2]
  show CallOK _ _ ([Value.int .i64 n].map DV.v) [] nb (.v (.string (mkS (Lib.itoa n)))) [] nb
  refine CallOK.libW ⟨_, Tryd.func43, by kernel_rfl, by kernel_rfl⟩ (.v _) fun w hg => (Tryd.strconv_Itoa n hk.1 hk.2 w (glTab hg)).mono ?_
  rintro e w' ⟨rfl, k, os, rfl⟩
  exact ⟨_, rfl, fun _ _ _ _ => .v _, RowKit.below_grow' _ _ _⟩


/-! ### strings -/
def strings_HasPrefix (N : Nat) (a0 a1 : List UInt8) : Option Bool := some (Lib.hasPrefix a0 a1)
def strings_TrimPrefix (N : Nat) (a0 a1 : List UInt8) : Option (List UInt8) := some (bif a1.isPrefixOf a0 then a0.drop a1.length else a0)
theorem strings_TrimPrefix_pure (N : Nat) : PureOK Tryd.prog 60 [.str, .str] [.str] (fun x => strings_TrimPrefix N x.1 x.2) := by
  rintro ⟨s, p⟩ y h nb
  simp only [strings_TrimPrefix, Option.some.injEq] at h; subst h
  have e : (bif p.isPrefixOf s then s.drop p.length else s) = Lib.trimPrefix s p := by
    unfold Lib.trimPrefix Lib.hasPrefix
    cases p.isPrefixOf s <;> rfl
  rw [e]
  show CallOK _ _ ([Value.string (mkS s), .string (mkS p)].map DV.v) [] nb (.v (.string (mkS (Lib.trimPrefix s p)))) [] nb
  refine CallOK.libW ⟨_, Tryd.func60, by kernel_rfl, by kernel_rfl⟩ (.v _) fun w hg => (Tryd.strings_TrimPrefix (mkS s) (mkS p) w).mono ?_
  rintro e w' ⟨rfl, rfl⟩
  exact ⟨_, rfl, fun _ _ _ _ => .v _, RowKit.Below.refl _ _⟩
/-- Where a byte comes first; -1 without one. -/
def idx (c : UInt8) : List UInt8 → Int
  | [] => -1
  | b :: l => bif b == c then 0 else bif idx c l == -1 then -1 else idx c l + 1
theorem idx_eq (c : UInt8) : ∀ l, idx c l = Lib.indexByte l c
  | [] => rfl
  | b :: l => by
    rw [idx, Lib.indexByte, idx_eq c l]
    cases b == c with
    | true => rfl
    | false => cases h : Lib.indexByte l c == -1 <;> simp [h]
theorem idx_index (c : UInt8) : ∀ l, idx c l = Lib.index l [c]
  | [] => rfl
  | b :: l => by
    rw [idx, Lib.index, idx_index c l]
    have e : [c].isPrefixOf (b :: l) = (b == c) := by
      simp only [List.isPrefixOf, Bool.and_true]
      by_cases h : b = c
      · subst h; simp
      · rw [beq_eq_false_iff_ne.2 h, beq_eq_false_iff_ne.2 (Ne.symm h)]
    rw [e]
    cases b == c with
    | true => rfl
    | false => cases h : Lib.index l [c] == -1 <;> simp [h]
def internal_stringslite_Index (N : Nat) (a0 a1 : List UInt8) : Option Int := match a1 with
  | [c] => some (idx c a0)
  | _ => none
theorem internal_stringslite_Index_pure (N : Nat) : PureOK Tryd.prog 57 [.str, .str] [.int .i64] (fun x => internal_stringslite_Index N x.1 x.2) := by
  rintro ⟨s, p⟩ y h nb
  simp only [internal_stringslite_Index] at h
  split at h
  · rename_i c
    injection h with h; subst h
    rw [idx_eq]
    show CallOK _ _ ([Value.string (mkS s), .string (mkS [c])].map DV.v) [] nb (.v (.int .i64 (Lib.indexByte s c))) [] nb
    refine CallOK.libW ⟨_, Tryd.func57, by kernel_rfl, by kernel_rfl⟩ (.v _) fun w hg => (Tryd.stringslite_Index_one (mkS s) c w).mono ?_
    rintro e w' ⟨rfl, rfl⟩
    exact ⟨_, rfl, fun _ _ _ _ => .v _, RowKit.Below.refl _ _⟩
  · cases h
/-- The pieces of a text between bytes. -/
def spl (c : UInt8) : List UInt8 → List (List UInt8)
  | [] => [[]]
  | b :: l => bif b == c then [] :: spl c l else match spl c l with
    | h :: t => (b :: h) :: t
    | [] => [[b]]
theorem idx_ge (c : UInt8) : ∀ l, -1 ≤ idx c l
  | [] => by simp [idx]
  | b :: l => by
    have := idx_ge c l
    rw [idx]
    cases b == c with
    | true => simp
    | false => cases h : idx c l == -1 <;> simp <;> omega
theorem spl_splitK (c : UInt8) : ∀ l, Lib.splitK [c] 0 (l.count c) l = spl c l
  | [] => rfl
  | b :: l => by
    have ih := spl_splitK c l
    rw [spl]
    by_cases h : b = c
    · subst h
      rw [List.count_cons_self, Lib.splitK, ← idx_index, idx, beq_self_eq_true, cond_true, cond_true, if_neg (by decide)]
      show [] :: Lib.splitK [b] 0 (l.count b) l = _
      rw [ih]
    · have hb : (b == c) = false := beq_eq_false_iff_ne.2 h
      rw [List.count_cons_of_ne h, hb, cond_false, ← ih]
      cases hk : l.count c with
      | zero => rfl
      | succ k =>
        have hix : idx c l ≠ -1 := by
          intro e
          have : ∀ l, idx c l = -1 → l.count c = 0 := by
            intro l
            induction l with
            | nil => intro _; rfl
            | cons d l ihl =>
              intro e
              rw [idx] at e
              cases hd : d == c with
              | true => rw [hd, cond_true] at e; cases e
              | false =>
                rw [hd, cond_false] at e
                have hge := idx_ge c l
                rw [List.count_cons_of_ne (by simpa using hd)]
                refine ihl ?_
                cases hz : idx c l == -1 with
                | true => simpa using hz
                | false => rw [hz, cond_false] at e; omega
          rw [this l e] at hk; cases hk
        have hge := idx_ge c l
        rw [Lib.splitK, Lib.splitK, ← idx_index, ← idx_index, idx, hb, cond_false, beq_eq_false_iff_ne.2 hix, cond_false, if_neg (by simp; omega), if_neg (by simp)]
        obtain ⟨i, hi⟩ : ∃ i : Nat, idx c l = i := ⟨(idx c l).toNat, by omega⟩
        rw [hi, show ((i : Int) + 1).toNat = i + 1 by omega, Int.toNat_natCast]
        rfl
def strings_Split (N : Nat) (a0 a1 : List UInt8) : Option (List (List UInt8)) := bif decide (a0.length < 4294967281) then match a1 with
  | [c] => some (spl c a0)
  | _ => none
  else none
theorem mkS_data (s : List UInt8) : (mkS s).data.toList = s := rfl
theorem strings_Split_pure (N : Nat) : PureOK Tryd.prog 32 [.str, .str] [.list .str] (fun x => strings_Split N x.1 x.2) := by
  rintro ⟨s, p⟩ y h nb
  simp only [strings_Split] at h
  obtain ⟨hlen, h2⟩ := cond_some (show brB _ _ _ = some y from h)
  clear h
  have hlen : s.length < 4294967281 := of_decide_eq_true hlen
  split at h2
  · rename_i c
    injection h2 with h; subst h
    have hsz : (mkS s).size = s.length := by simp [mkS, ByteArray.size]
    show CallOK _ _ ([Value.string (mkS s), .string (mkS [c])].map DV.v) [] nb (.lst false ((spl c s).map fun x => [.v (.string (mkS x))])) [] nb
    refine CallOK.libW ⟨_, Tryd.func32, by kernel_rfl, by kernel_rfl⟩ (.lst _ _ fun x hx d hd => by
      obtain ⟨z, hz, rfl⟩ := List.mem_map.1 hx
      rw [List.mem_singleton.1 hd]; exact .v _) fun w hg => ?_
    have hcount : Lib.countB (mkS s) (mkS [c]) = Lib.countByte s c := Lib.count_one c s
    have hdata : (Lib.splitB (mkS [c]) 0 (Lib.countB (mkS s) (mkS [c])) (mkS s)).map (·.data.toList) = spl c s := by
      rw [Lib.splitB_data, hcount]; exact spl_splitK c s
    have hle := Lib.countB_le (mkS [c]) (by simp [mkS, ByteArray.size]) (mkS s).size (mkS s) (Nat.le_refl _)
    have hall := Lib.splitB_all (mkS [c]) (by simp [mkS, ByteArray.size]) 0 _ (mkS s) rfl
    have key := Any.strings_genSplit_core Tryd.lays221 (by kernel_rfl) (mkS s) (mkS [c]) 0 (-1) (Lib.countB (mkS s) (mkS [c]) + 1) w (by rw [hsz]; omega) (by simp [mkS, ByteArray.size]) (Nat.zero_le _)
      (fun x cs hx => (Tryd.strings_Index_one x c _).mono fun e w' ⟨h1, h2⟩ => ⟨by rw [h1, ← idx_eq, idx_index]; rfl, h2⟩)
      ((Tryd.strings_Count_one (mkS s) c w).mono fun e w' ⟨h1, h2⟩ => ⟨by rw [h1, hcount, mkS_data], h2⟩) (by decide) (by decide) (by rw [if_pos (by decide)]; omega)
    rw [Nat.add_sub_cancel, hall] at key
    have e2 : Lib.cellsOf (Lib.splitB (mkS [c]) 0 (Lib.countB (mkS s) (mkS [c])) (mkS s)) (Lib.countB (mkS s) (mkS [c]) + 1) = ((Lib.splitB (mkS [c]) 0 (Lib.countB (mkS s) (mkS [c])) (mkS s)).map Value.string).toArray := by rw [← hall]; exact Lib.cellsOf_full _
    rw [e2] at key
    have call : Calls Tryd.prog 32 #[.string (mkS s), .string (mkS [c])] w fun e w' => e = .returned (.slice (some ⟨w.heap.size, 0, none⟩) (Lib.countB (mkS s) (mkS [c]) + 1) (Lib.countB (mkS s) (mkS [c]) + 1)) ∧ w' = w.alloc (.cells ((Lib.splitB (mkS [c]) 0 (Lib.countB (mkS s) (mkS [c])) (mkS s)).map Value.string).toArray 9) := by
      clear hdata hcount hle hall e2
      have e46 : ∀ args w, (callFunc 46 args).run Tryd.prog w = .ok (.enter 46 args) w := enters_of Tryd.func46 (by kernel_rfl) rfl
      have t9 := Tryd.underlying9; have z9 := Tryd.sizeOf9; have v9 := Tryd.zeroValue9; have t45 := Tryd.underlying45; have z45 := Tryd.sizeOf45; have v45 := Tryd.zeroValue45; have a9 := Tryd.isAgg9; have a45 := Tryd.isAgg45; have mixed := Tryd.checked.mixed
      go_enter Tryd.func32, Tryd.ntmps32
      go_wp2_with (go_at_fn 46; refine key.mono ?_; rintro e w' ⟨rfl, hw⟩; rw [hw])
      go_ret
      exact ⟨rfl, rfl⟩
    refine call.mono ?_
    rintro e w' ⟨rfl, rfl⟩
    refine ⟨_, rfl, fun ps M nx hml => ?_, (RowKit.Below.refl _ _).alloc (Nat.le_refl _) _⟩
    generalize Lib.splitB (mkS [c]) 0 (Lib.countB (mkS s) (mkS [c])) (mkS s) = pcs at hdata hall
    have hn : (spl c s).length = Lib.countB (mkS s) (mkS [c]) + 1 := by rw [← hdata, List.length_map, hall]
    rw [← hn]
    have hpc : ∀ j (h : j < (spl c s).length), pcs[j]'(by rw [hall, ← hn]; exact h) = mkS ((spl c s)[j]) := by
      intro j h
      have : (spl c s)[j] = (pcs[j]'(by rw [hall, ← hn]; exact h)).data.toList := by simp only [← hdata, List.getElem_map]
      rw [this]; rfl
    have hne : (spl c s).map (fun x => [DV.v (.string (mkS x))]) ≠ [] := by intro e; have := congrArg List.length e; simp [hn] at this
    have := VR.lst (H := ofL []) (ps := ps) (M := M) (nx := nx) (w := w.alloc (.cells (pcs.map Value.string).toArray 9)) false ((spl c s).map fun x => [.v (.string (mkS x))]) w.heap.size 0 (spl c s).length 1 (fun i _ => .string (mkS ((spl c s).getD i []))) hne Nat.zero_lt_one (by simp) (fun h => by cases h) ?_ (fun i hi => by simp) (fun i j hi hj => rfl) ?_ ?_
    · simpa using this
    · rintro (hm | ⟨o, ck, p, h1, _⟩)
      · exact Nat.lt_irrefl _ (hml _ hm)
      · cases h1
    · intro i j hi hj
      have hj0 : j = 0 := by omega
      subst hj0
      have hi' : i < (spl c s).length := by simpa using hi
      have hip : i < pcs.length := by rw [hall, ← hn]; exact hi'
      simp only [World.cell?, heap_alloc_new, Nat.zero_add, Nat.mul_one, Nat.add_zero]
      simp [hip, hpc i hi', List.getD_eq_getElem?_getD, hi']
    · intro i j hi hj
      have hi' : i < (spl c s).length := by simpa using hi
      have hj0 : j = 0 := by simp at hj; exact hj
      subst hj0
      simp only [List.getElem_map, List.getElem_cons_zero]
      rw [List.getD_eq_getElem?_getD, List.getElem?_eq_getElem hi', Option.getD_some]
      exact .v _
  · cases h2
end M
end Go.Proofs.YtipokcccpbcmeaaDoor
