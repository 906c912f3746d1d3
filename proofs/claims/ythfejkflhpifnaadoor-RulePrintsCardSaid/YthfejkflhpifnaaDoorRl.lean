/- strconv.Itoa, strconv.Atoi and strings.CutPrefix as functions on plain data, out of the library's contracts at this dump; how (*reader).need panics. No condition of its own: over the loaded program. -/
import Derived.Test.YthfejkflhpifnaaDoorPxT
import Derived.Test.YthfejkflhpifnaaDoorShelf
import Derived.Test.YthfejkflhpifnaaDoorChecked
import Derived.Recover
import Derived.WalkLawsBesides
set_option linter.all false
namespace Go.Pv
/-- A function of the library, out of a contract on values. -/
theorem CallOK.lib {P : Program} {f : FuncId} {xs : List Value} {res : DV} {nb : Nat} (hfn : ∃ fn, P.funcs[f]? = some fn ∧ (fn.name == "runtime.NumGoroutine") = false ∧ fn.body.isNone = false) (hids : Ids (fun _ => False) res)
    (h : ∀ w, GlOK P w (fun _ => False) → Calls P f xs.toArray w fun e w' => ∃ v, e = .returned v ∧ (∀ H ps M nx w, VR H ps M nx w res v) ∧ RowKit.Below w.heap.size w w') : CallOK P f (xs.map DV.v) [] nb res [] nb := by
  refine ⟨hfn, fun o ck h => (by cases h), fun o ck h => (by cases h), Nat.le_refl _, hids.mono' fun _ h => h.elim, fun o ck h => (by cases h), fun M ps w cargs hR hsz hva hgl => ?_⟩
  have e : cargs = xs.toArray := by
    refine Array.ext (by simpa using hsz) fun i h1 h2 => ?_
    have hi : i < xs.length := by simpa using h2
    have := hva i (by simpa using hi)
    simp only [List.getElem_map] at this
    have := this.v_inv
    simpa [Array.getD_eq_getD_getElem?, h1] using this
  subst e
  refine (h w (hgl.less fun b hb => hb.elim)).mono ?_
  rintro e w' ⟨v, rfl, h1, h2⟩
  exact ⟨v, ps, rfl, h1 _ _ _ _ _, ⟨fun o ck h => (by cases h), fun o ck h => (by cases h), fun o o' ck ck' p p' h => (by cases h), fun b hb => Nat.lt_of_lt_of_le (hR.ml b hb) h2.size, fun o ck p h => (by cases h)⟩, ⟨h2.os, h2.tape, h2.output, h2.size, fun b hb _ => h2.block b hb⟩, fun o ck p h => (by cases h), fun o ho ck h => (by cases h)⟩
end Go.Pv
theorem Go.RowKit.below_grow' (w : Go.World) (k : Nat) (os : Array Go.Obj) : Go.RowKit.Below w.heap.size w (Go.Sort.grow (w.drewN k) os) := by
  refine ⟨rfl, rfl, rfl, ?_, fun i hi => ?_⟩
  · show w.heap.size ≤ (w.heap ++ os).size
    rw [Array.size_append]; omega
  · show (w.heap ++ os)[i]? = _
    rw [Array.getElem?_append_left hi]
namespace Go.Proofs.YthfejkflhpifnaaDoor
open Go.Pv
namespace M
theorem glTab {w : World} (h : GlOK Tryd.prog w (fun _ => False)) : Lib.TabIs Tryd.prog w "internal/strconv.uint64pow10" .u64 Lib.pow10Tab := by
  have hg : Tryd.prog.globalNamed "internal/strconv.uint64pow10" = some 0 := by kernel_rfl
  obtain ⟨h1, _, cs, t, f, h3, h4⟩ := h _ (by decide) _ hg
  unfold Lib.TabIs World.var?
  rw [hg]
  simp only [Option.bind_some, h3]
  rw [h4.1 rfl]
  simp only [Lib.pow10Tab, List.map_map]
theorem glErr {w : World} (h : GlOK Tryd.prog w (fun _ => False)) (nm : String) (hn : nm ∈ glNames) (hne : nm ≠ "internal/strconv.uint64pow10") (g : Nat) (hg : Tryd.prog.globalNamed nm = some g) : ∃ t p, w.var? Tryd.prog nm = some #[.iface t p] := by
  obtain ⟨h1, _, cs, t, f, h3, h4⟩ := h _ hn _ hg
  obtain ⟨tp, p, rfl⟩ := h4.2 hne
  refine ⟨tp, p, ?_⟩
  unfold World.var?
  rw [hg]
  simp only [Option.bind_some, h3]

/-! ### strconv.Itoa -/
def digs : Nat → Nat → List UInt8
  | 0, _ => []
  | f + 1, u => bif decide (u < 10) then [UInt8.ofNat (48 + u)] else digs f (u / 10) ++ [UInt8.ofNat (48 + u % 10)]
theorem digs_eq : ∀ (f u : Nat), u < 10 ^ (f + 1) → digs (f + 1) u = Lib.decDigits u
  | 0, u, h => by
    have h1 : u < 10 := by simpa using h
    rw [Lib.decDigits, digs, dif_pos h1, decide_eq_true h1, cond_true]
  | f + 1, u, h => by
    rw [Lib.decDigits, digs]
    by_cases h1 : u < 10
    · rw [dif_pos h1, decide_eq_true h1, cond_true]
    · rw [dif_neg h1, decide_eq_false h1, cond_false, digs_eq f (u / 10) (Nat.div_lt_of_lt_mul (by rw [Nat.pow_succ, Nat.mul_comm] at h; exact h))]
def itoaM (n : Int) : List UInt8 := bif decide (n < 0) then 45 :: digs 20 n.natAbs else digs 20 n.toNat
theorem itoaM_eq {n : Int} (h0 : -9223372036854775808 ≤ n) (h1 : n ≤ 9223372036854775807) : itoaM n = Lib.itoa n := by
  unfold itoaM Lib.itoa
  by_cases h : n < 0
  · rw [if_pos h, decide_eq_true h, cond_true, digs_eq _ _ (by omega)]
  · rw [if_neg h, decide_eq_false h, cond_false, digs_eq _ _ (by omega)]
def strconv_Itoa (N : Nat) (a0 : Int) : Option (List UInt8) := bif decide (-9223372036854775808 ≤ a0 ∧ a0 ≤ 9223372036854775807) then some (itoaM a0) else none
theorem strconv_Itoa_pure (N : Nat) : PureOK Tryd.prog 34 [.int .i64] [.str] (fun x => strconv_Itoa N x) := by
  intro n y h nb
  simp only [strconv_Itoa] at h
  obtain ⟨hk, h⟩ := cond_some (show brB _ _ _ = some y from h)
  injection h with h; subst h
  have hk : -9223372036854775808 ≤ n ∧ n ≤ 9223372036854775807 := of_decide_eq_true hk
  rw [itoaM_eq hk.1 hk.2]
  show CallOK _ _ ([Value.int .i64 n].map DV.v) [] nb (.v (.string (mkS (Lib.itoa n)))) [] nb
  refine CallOK.lib ⟨_, Tryd.func34, by kernel_rfl, by kernel_rfl⟩ (.v _) fun w hg => (Tryd.strconv_Itoa n hk.1 hk.2 w (glTab hg)).mono ?_
  rintro e w' ⟨rfl, k, os, rfl⟩
  exact ⟨_, rfl, fun _ _ _ _ _ => .v _, RowKit.below_grow' _ _ _⟩

/-! ### strings.CutPrefix -/
def strings_CutPrefix (N : Nat) (a0 a1 : List UInt8) : Option (List UInt8 × Bool) := some (bif a1.isPrefixOf a0 then a0.drop a1.length else a0, a1.isPrefixOf a0)
theorem strings_CutPrefix_pure (N : Nat) : PureOK Tryd.prog 47 [.str, .str] [.str, .bool] (fun x => strings_CutPrefix N x.1 x.2) := by
  rintro ⟨s, p⟩ y h nb
  simp only [strings_CutPrefix, Option.some.injEq] at h; subst h
  have e : (bif p.isPrefixOf s then s.drop p.length else s) = Lib.trimPrefix s p := by
    unfold Lib.trimPrefix Lib.hasPrefix
    cases p.isPrefixOf s <;> rfl
  rw [e]
  show CallOK _ _ ([Value.string (mkS s), .string (mkS p)].map DV.v) [] nb (.tup [.v (.string (mkS (Lib.trimPrefix s p))), .v (.bool (Lib.hasPrefix s p))]) [] nb
  refine CallOK.lib ⟨_, Tryd.func47, by kernel_rfl, by kernel_rfl⟩ (.tup _ fun c hc => by
    rcases List.mem_cons.1 hc with rfl | hc
    · exact .v _
    · rw [List.mem_singleton.1 hc]; exact .v _) fun w hg => (Tryd.strings_CutPrefix (mkS s) (mkS p) w).mono ?_
  rintro e w' ⟨rfl, rfl⟩
  refine ⟨_, rfl, fun _ _ _ _ _ => ?_, RowKit.Below.refl _ _⟩
  refine .tup _ _ rfl fun j hj => ?_
  match j, hj with
  | 0, _ => exact .v _
  | 1, _ => exact .v _

/-! ### strconv.Atoi -/
def atoiB (s : List UInt8) : Bool := match Lib.atoiAll s with
  | .ok _ => true
  | _ => false
def atoiV (s : List UInt8) : Int := match Lib.atoiAll s with
  | .ok v => v
  | _ => 0
def atoiE : Ent := fun args H k => match args with
  | [.str s] => brB (decide (s.length ≤ 281474976710656)) (brB (atoiB s) (k (.tup [.int .i64 (atoiV s), .raw .nilIface]) H [] [] []) (k (.tup [.any, .nn]) H [] [] [])) none
  | _ => none
theorem atoiE_ok : EntOK Tryd.prog 45 atoiE := by
  intro R args HI k r hr dargs H nx ha hH hn
  simp only [atoiE] at hr
  split at hr
  · rename_i s
    obtain ⟨hlim, hr⟩ := cond_some hr
    have hlim : s.length ≤ 281474976710656 := of_decide_eq_true hlim
    have hsz : (mkS s).size ≤ 281474976710656 := by simpa [mkS, ByteArray.size] using hlim
    obtain ⟨d, rfl, hd⟩ := ha.one_l
    have hd := hd.str_inv
    subst hd
    have hl : (mkS s).data.toList = s := by simp [mkS]
    have fnx : ∃ fn, Tryd.prog.funcs[45]? = some fn ∧ (fn.name == "runtime.NumGoroutine") = false ∧ fn.body.isNone = false := ⟨_, Tryd.func45, by kernel_rfl, by kernel_rfl⟩
    cases hb : atoiB s with
    | true =>
      rw [hb] at hr
      have hr : k (.tup [.int .i64 (atoiV s), .raw .nilIface]) HI [] [] [] = some r := hr
      have he : Lib.atoiAll s = .ok (atoiV s) := by
        unfold atoiB at hb; unfold atoiV
        cases h : Lib.atoiAll s <;> simp_all
      refine ⟨_, HI, [], [], [], hr, [], .tup [.v (.int .i64 (atoiV s)), .v .nilIface], [], nx, ?_, fun o ck h => (by cases h), rfl, rfl, hn, hH, Rel.tupB ((Both.one (.raw _)).cons (.int _ _)), .same Same.refl⟩
      refine CallOK.lib (xs := [.string (mkS s)]) fnx (.tup _ fun c hc => by
        rcases List.mem_cons.1 hc with rfl | hc
        · exact .v _
        · rw [List.mem_singleton.1 hc]; exact .v _) fun w hg => (Tryd.strconv_Atoi_ok (mkS s) (by omega) (atoiV s) (by rw [hl]; exact he) w).mono ?_
      rintro e w' ⟨rfl, h⟩
      refine ⟨_, rfl, fun _ _ _ _ _ => .tup _ _ rfl fun j hj => ?_, ?_⟩
      · match j, hj with
        | 0, _ => exact .v _
        | 1, _ => exact .v _
      · rcases h with rfl | ⟨t, rfl⟩
        · exact RowKit.Below.refl _ _
        · exact Lib.bytesWorld_below _ _ _
    | false =>
      rw [hb] at hr
      have hr : k (.tup [.any, .nn]) HI [] [] [] = some r := hr
      have mk : ∀ v : Int, (∀ w, GlOK Tryd.prog w (fun _ => False) → Calls Tryd.prog 45 #[.string (mkS s)] w fun e w' => ∃ tt N, e = .returned (.tuple #[.int .i64 v, .iface tt (.pointer (some ⟨N, 0, none⟩))]) ∧ RowKit.Below w.heap.size w w') →
          ∃ res H' rd wr kl, k res H' rd wr kl = some r ∧ ∃ pre d post nx', CallOK Tryd.prog 45 [.v (.string (mkS s))] pre nx d post nx' ∧ (∀ o ck, ofL pre o = some ck → H o = some ck) ∧ pre.map (·.1) = rd ∧ post.map (·.1) = wr ∧ H'.length = nx' ∧ HRel H' (puts H post) nx' ∧ Rel (puts H post) nx' res d ∧ SameK kl H nx (puts H post) nx' := fun v hv => by
        refine ⟨_, HI, [], [], [], hr, [], .tup [.v (.int .i64 v), .nn], [], nx, ?_, fun o ck h => (by cases h), rfl, rfl, hn, hH, Rel.tupB ((Both.one .nn).cons (.any _)), .same Same.refl⟩
        refine CallOK.lib (xs := [.string (mkS s)]) fnx (.tup _ fun c hc => by
          rcases List.mem_cons.1 hc with rfl | hc
          · exact .v _
          · rw [List.mem_singleton.1 hc]; exact .nn) fun w hg => (hv w hg).mono ?_
        rintro e w' ⟨tt, N, rfl, h⟩
        refine ⟨_, rfl, fun _ _ _ _ _ => .tup _ _ rfl fun j hj => ?_, h⟩
        match j, hj with
        | 0, _ => exact .v _
        | 1, _ => exact .nn _ _
      rcases he : Lib.atoiAll s with v | _ | _
      · unfold atoiB at hb; rw [he] at hb; cases hb
      · refine mk 0 fun w hg => ?_
        obtain ⟨tp, p, hv⟩ := glErr hg "strconv.ErrSyntax" (by decide) (by decide) 1 (by kernel_rfl)
        refine (Tryd.strconv_Atoi_syntax_var (mkS s) hsz (by rw [hl]; exact he) tp p w hv).mono ?_
        rintro e w' ⟨N, rfl, _, _, h⟩
        exact ⟨_, N, rfl, h⟩
      · refine mk (Lib.atoiSat s) fun w hg => ?_
        obtain ⟨tp, p, hv⟩ := glErr hg "strconv.ErrRange" (by decide) (by decide) 2 (by kernel_rfl)
        refine (Tryd.strconv_Atoi_range_var (mkS s) hsz (by rw [hl]; exact he) tp p w hv).mono ?_
        rintro e w' ⟨N, rfl, _, _, h⟩
        exact ⟨_, N, by rw [hl], h⟩
  · cases hr

/-! ### (*reader).need -/
def chF : List PanicEntry := [{ v := .iface 64 (.agg #[]), recovered := false }]
end M
theorem need_calls (p : Value) (w : World) : Calls Tryd.prog 38 #[p, .bool false] w fun e w' => e = .panicked M.chF ∧ w' = w := by
  go_enter Tryd.func38, Tryd.ntmps38
  go_wp2
  exact ⟨rfl, rfl, rfl⟩
namespace M
theorem need_pan {r : DV} {pre : Cks} {nb : Nat} : CallPan Tryd.prog chF 38 [r, .v (.bool false)] pre nb := by
  refine ⟨⟨_, Tryd.func38, by kernel_rfl, by kernel_rfl⟩, fun M ps w cargs hr hsz hva hgl => ?_⟩
  have h1 := (hva 1 (by simp)).v_inv
  have e : cargs = #[cargs.getD 0 undef, .bool false] := by
    refine Array.ext (by simpa using hsz) fun i h2 h3 => ?_
    match i, h3 with
    | 0, _ => simp [Array.getD_eq_getD_getElem?, h2]
    | 1, _ => simpa [Array.getD_eq_getD_getElem?, h2] using h1
  rw [e]
  refine (need_calls _ w).mono ?_
  rintro e w' ⟨rfl, rfl⟩
  exact ⟨rfl, Fr.refl _ _⟩
def needP {α : Type} (b : Bool) (m : Option α) : Option (Option α) := bif b then Option.map some m else some none
theorem needP_j {α : Type} {b : Bool} {m : Option α} {y : α} (h : joinP (needP b m) = some y) : m = some y := by
  cases b <;> cases m <;> simp_all [needP, joinP]
theorem needP_n {α : Type} {b : Bool} {m : Option α} (h : needP b m = some none) : b = false := by
  cases b <;> cases m <;> simp_all [needP]
end M
end Go.Proofs.YthfejkflhpifnaaDoor
