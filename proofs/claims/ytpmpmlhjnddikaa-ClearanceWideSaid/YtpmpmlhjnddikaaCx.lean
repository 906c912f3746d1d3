/- Clearance: the law of what is known less exactly. No condition of its own. -/
import Derived.Test.YtpmpmlhjnddikaaCw
import Derived.Test.YtpmpmlhjnddikaaMo
set_option linter.all false
namespace Go.Proofs.Ytpmpmlhjnddikaa
open Go.Pv M

theorem sgetD {α : Type} {l : List α} {k i : Nat} {v d : α} (h : k < l.length) : (l.set k v).getD i d = if i = k then v else l.getD i d := by
  by_cases e : i = k
  · subst e; rw [if_pos rfl, List.getD_eq_getElem?_getD, List.getElem?_set_self h]; rfl
  · rw [if_neg e, List.getD_eq_getElem?_getD, List.getElem?_set_ne (Ne.symm e), ← List.getD_eq_getElem?_getD]
theorem wide_true (t : List Int) : law35_ClearanceWide 1000 t = some true := by
  unfold law35_ClearanceWide
  rw [light_eq, bind_some']
  by_cases h : (t.length : Int) ≤ 400
  · simp only [h, decide_true, Bool.not_true, cond_false]
    rw [roll_spec, bind_some']
    obtain ⟨m, d1, e1, hm, hm1, hd1⟩ := mine_spec_r (rollD_ok (l := t) (by omega))
    simp only
    rw [e1, bind_some']
    obtain ⟨x, d2, e2, hx, hs, hd2⟩ := flows_spec hd1 hm
    simp only
    rw [e2, bind_some']
    obtain ⟨f, d3, e3, ⟨f1, f2⟩, hf, hh, hd3⟩ := fumes_spec hd2 hm
    simp only
    rw [e3, bind_some']
    have h7 := hm.n2
    have h10 := hm.r2
    simp only
    rw [fitsB_true (by omega), cond_true]
    obtain ⟨k, d4, e4, k1, k2, hd4⟩ := next_spec 1000 hd3 (n := (x.length : Int)) (by omega) (by omega)
    rw [e4, bind_some']
    obtain ⟨a, d5, e5, a1, a2, hd5⟩ := next_spec 1000 hd4 (n := 3000) (by omega) (by omega)
    obtain ⟨b, d6, e6, b1, b2, hd6⟩ := next_spec 1000 hd5 (n := 3000) (by omega) (by omega)
    simp only
    rw [inB_true ⟨k1, k2⟩, cond_true, e5, bind_some', cond_true]
    simp only
    rw [e6, bind_some', cond_true]
    simp only
    rw [inB_true (by rw [List.length_set]; exact ⟨k1, k2⟩), cond_true]
    unfold ref35_Copy
    rw [fitsB_true (by omega), cond_true, bind_some']
    simp only
    obtain ⟨n, d7, e7, n1, n2, hd7⟩ := next_spec 1000 hd6 (n := (f.2.length : Int)) (by omega) (by omega)
    rw [e7, bind_some']
    obtain ⟨c, d8, e8, c1, c2, hd8⟩ := next_spec 1000 hd7 (n := 500) (by omega) (by omega)
    simp only
    rw [inB_true ⟨n1, n2⟩, cond_true, e8, bind_some', cond_true]
    obtain ⟨s, d9, e9, s1, s2, hd9⟩ := next_spec 1000 hd8 (n := 600) (by omega) (by omega)
    simp only
    rw [e9, bind_some']
    obtain ⟨k, rfl⟩ := Int.eq_ofNat_of_zero_le k1
    obtain ⟨n, rfl⟩ := Int.eq_ofNat_of_zero_le n1
    have hkx : k < x.length := by omega
    have hnf : n < f.2.length := by omega
    have hsk := hs _ (getD_mem D_Span hkx)
    have hhn := hh _ (getD_mem 0 hnf)
    simp only
    rw [Int.toNat_natCast, Int.toNat_natCast]
    obtain ⟨q1, q2, q3⟩ := hsk
    obtain ⟨g1, g2⟩ := hhn
    rw [sgetD hkx, if_pos rfl]
    rw [W_eq (n := (x.getD k D_Span).1 - a) (by omega) (by omega), W_eq (n := (x.getD k D_Span).2 + b) (by omega) (by omega), W_eq (n := f.2.getD n 0 + c) (by omega) (by omega), W_eq (n := f.1 + s) (by omega) (by omega)]
    simp only
    -- the wider flows, the greater fumes
    have hwl : ((x.set k (max (-1125899906842624) ((x.getD k D_Span).1 - a), (x.getD k D_Span).2)).set k (max (-1125899906842624) ((x.getD k D_Span).1 - a), min 1125899906842624 ((x.getD k D_Span).2 + b))).length = m.2.length := by rw [List.length_set, List.length_set, hx]
    have hws : ∀ y, y ∈ (x.set k (max (-1125899906842624) ((x.getD k D_Span).1 - a), (x.getD k D_Span).2)).set k (max (-1125899906842624) ((x.getD k D_Span).1 - a), min 1125899906842624 ((x.getD k D_Span).2 + b)) → Sk y :=
      mem_set (mem_set hs ⟨by show (-1125899906842624 : Int) ≤ max (-1125899906842624) ((x.getD k D_Span).1 - a); omega, by show max (-1125899906842624) ((x.getD k D_Span).1 - a) ≤ (x.getD k D_Span).2; omega, q3⟩) ⟨by show (-1125899906842624 : Int) ≤ max (-1125899906842624) ((x.getD k D_Span).1 - a); omega, by show max (-1125899906842624) ((x.getD k D_Span).1 - a) ≤ min 1125899906842624 ((x.getD k D_Span).2 + b); omega, by show min 1125899906842624 ((x.getD k D_Span).2 + b) ≤ 1125899906842624; omega⟩
    have hww : ∀ i, Wd (x.getD i D_Span) (((x.set k (max (-1125899906842624) ((x.getD k D_Span).1 - a), (x.getD k D_Span).2)).set k (max (-1125899906842624) ((x.getD k D_Span).1 - a), min 1125899906842624 ((x.getD k D_Span).2 + b))).getD i D_Span) := fun i => by
      rw [sgetD (by rw [List.length_set]; exact hkx)]
      by_cases e : i = k
      · subst e; rw [if_pos rfl]; exact ⟨by show max (-1125899906842624) ((x.getD i D_Span).1 - a) ≤ (x.getD i D_Span).1; omega, by show (x.getD i D_Span).2 ≤ min 1125899906842624 ((x.getD i D_Span).2 + b); omega⟩
      · rw [if_neg e, sgetD hkx, if_neg e]; exact ⟨Int.le_refl _, Int.le_refl _⟩
    generalize (x.set k (max (-1125899906842624) ((x.getD k D_Span).1 - a), (x.getD k D_Span).2)).set k (max (-1125899906842624) ((x.getD k D_Span).1 - a), min 1125899906842624 ((x.getD k D_Span).2 + b)) = x' at hwl hws hww
    have hml : (f.2.set n (min 1000000 (f.2.getD n 0 + c))).length = m.2.length := by rw [List.length_set, hf]
    have hmh : ∀ y, y ∈ f.2.set n (min 1000000 (f.2.getD n 0 + c)) → Hk y := mem_set hh ⟨by omega, by omega⟩
    have hmm : ∀ i, f.2.getD i 0 ≤ (f.2.set n (min 1000000 (f.2.getD n 0 + c))).getD i 0 := fun i => by
      rw [sgetD hnf]
      by_cases e : i = n
      · subst e; rw [if_pos rfl]; omega
      · rw [if_neg e]; exact Int.le_refl _
    generalize f.2.set n (min 1000000 (f.2.getD n 0 + c)) = hi' at hml hmh hmm
    obtain ⟨ss, qs, hof, ha⟩ := of_spec' (by omega) (by omega) hx hs
    obtain ⟨ss', qs', hof', ha'⟩ := of_spec' (by omega) (by omega) hwl hws
    obtain ⟨oa, ea, la, A, ka⟩ := step_spec hm hx hs hof ha f1 hf hh (t := f.1 + s) (by omega) (by omega)
    obtain ⟨ob, eb, lb, B, kb⟩ := step_spec hm hwl hws hof' ha' f1 hf hh (t := f.1 + s) (by omega) (by omega)
    obtain ⟨oc, ec, lc, C, kc⟩ := step_spec hm hx hs hof ha (f := (f.1, hi')) f1 hml hmh (t := f.1 + s) (by show f.1 ≤ _; omega) (by omega)
    rw [ea, bind_some', eb, bind_some', ec, bind_some']
    simp only
    rw [show ((0 : Int) != 0) = false from rfl, cond_false, cond_false, cond_false, la, lb, lc, bne_self_eq_false, cond_false, cond_false, cond_false, law35_ClearanceWide_J1_eq]
    rw [show f.1 + s - f.1 = s by omega] at A B
    simp only at C
    rw [show f.1 + s - f.1 = s by omega] at C
    refine wide_l1 m h10 la lb lc (fun i hi => ?_) (fun i hi => ?_) _ _ _ m.2.length 1000 0 rfl (by omega)
    · rw [A i hi, B i hi]
      exact aft_mono hm hx hwl hww ha ha' (fun _ => Int.le_refl _) hh hf s1 hi
    · rw [A i hi, C i hi]
      exact aft_mono hm hx hx (fun _ => ⟨Int.le_refl _, Int.le_refl _⟩) ha ha hmm hmh hml s1 hi
  · simp only [h, decide_false, Bool.not_false, cond_true]
    rw [awake_eq]; rfl
theorem clearanceWide_any (dargs : List DV) (h : TyAs [(false, [.sl [.it .i64]])] dargs) : CallOK Try.prog 6 dargs [] 0 (B true) [] 0 :=
  law_any (law35_ClearanceWide_pure 1000) (fun x _ => wide_true _) rfl dargs h
end Go.Proofs.Ytpmpmlhjnddikaa
