/- What plan.part computes: the parts, numbered by their first places. No condition of its own. -/
import Derived.Test.YtdmggkpefjpknaaPg
set_option linter.all false
namespace Go.Proofs.Ytdmggkpefjpknaa
open Go.Pv M

abbrev gt (of : List Int) (j : Nat) : Int := of.getD j 0
def neg (of : List Int) : Nat := of.countP fun x => decide (x < 0)
theorem gt_set {of : List Int} {i : Nat} {x : Int} (hi : i < of.length) (j : Nat) : gt (of.set i x) j = if j = i then x else gt of j := by
  unfold gt
  rw [List.getD_eq_getElem?_getD, List.getElem?_set]
  by_cases e : j = i
  · subst e; rw [if_pos rfl, if_pos hi, if_pos rfl]; rfl
  · rw [if_neg (fun e' => e e'.symm), if_neg e, List.getD_eq_getElem?_getD]
theorem neg_set {of : List Int} {i : Nat} {x : Int} (hi : i < of.length) (h : gt of i < 0) (hx : 0 ≤ x) : neg (of.set i x) + 1 = neg of := by
  unfold neg
  have hg : gt of i = of[i] := by unfold gt; rw [List.getD_eq_getElem?_getD, List.getElem?_eq_getElem hi]; rfl
  rw [hg] at h
  have hpos : 0 < of.countP fun x => decide (x < 0) := List.countP_pos_iff.2 ⟨of[i], List.getElem_mem hi, by simpa using h⟩
  rw [List.countP_set hi]
  simp only [h, decide_true, if_true, show ¬ x < 0 by omega, decide_false]
  simp
  omega

section dfs
variable {m : T_Mine} {of0 : List Int} {i k : Nat}
/-- The walk in depth from place i, part k. -/
structure Dfs (m : T_Mine) (of0 : List Int) (i k : Nat) (of todo : List Int) (skip : Nat → Prop) : Prop where
  len : of.length = m.1.length
  old : ∀ j, j < m.1.length → 0 ≤ gt of0 j → gt of j = gt of0 j
  new : ∀ j, j < m.1.length → gt of0 j < 0 → gt of j = k ∨ gt of j < 0
  con : ∀ j, j < m.1.length → gt of0 j < 0 → gt of j = k → Cn m i j
  td : ∀ t, t ∈ todo → ∃ j : Nat, t = j ∧ j < m.1.length ∧ gt of j = k ∧ gt of0 j < 0
  prc : ∀ j, j < m.1.length → gt of0 j < 0 → gt of j = k → (j : Int) ∈ todo ∨ skip j ∨ ∀ q, Adj m j q → 0 ≤ gt of q
  rt : gt of i = k

theorem row_loop (hm : Vm m) (near : List (List Int)) (hk : k ≤ 1000) (n3 n2 p cnt : Nat) (hp : p < m.1.length) (row : List Int) (hrl : row.length ≤ 256) (hrow : ∀ x, x ∈ row → ∃ q : Nat, x = q ∧ Adj m p q) (hall : ∀ q, Adj m p q → (q : Int) ∈ row)
    (h0 : ∀ j, j < m.1.length → 0 ≤ gt of0 j → ∀ q, Adj m j q → 0 ≤ gt of0 q) : ∀ (j f idx : Nat) (of todo : List Int) (M : Nat), j + idx = row.length → j < f → Dfs m of0 i k of todo (fun q => q = p) → gt of p = k → gt of0 p < 0 → todo.length ≤ 300 → (∀ x, x ∈ row.take idx → 0 ≤ gt of x.toNat) → neg of + todo.length = M → M ≤ 300 →
    ∃ of' todo', plan_part_L4 1000 n3 n2 f near k cnt i row row.length idx of todo = plan_part_L3 1000 n2 n3 near k cnt i of' todo' ∧ Dfs m of0 i k of' todo' (fun _ => False) ∧ neg of' + todo'.length = M
  | 0, f + 1, idx, of, todo, M, hj, hf, hd, hpk, hp0, htl, hx, hM, hM3 => by
    rw [plan_part_L4_succ, df (by omega)]
    refine ⟨of, todo, rfl, ⟨hd.len, hd.old, hd.new, hd.con, hd.td, fun j hj1 hj2 hj3 => ?_, hd.rt⟩, hM⟩
    rcases hd.prc j hj1 hj2 hj3 with h | h | h
    · exact .inl h
    · subst h
      refine .inr (.inr fun q ha => ?_)
      have := hx q (by rw [List.take_of_length_le (by omega)]; exact hall q ha)
      simpa using this
    · exact .inr (.inr h)
  | j + 1, f + 1, idx, of, todo, M, hj, hf, hd, hpk, hp0, htl, hx, hM, hM3 => by
    have hlen := hd.len
    have n1 := hm.n
    obtain ⟨q, hq, ha⟩ := hrow _ (getD_mem (0 : Int) (show idx < row.length by omega))
    have hql := (ha.lt hm).2
    have hstep : ∀ x, x ∈ row.take (idx + 1) → x ∈ row.take idx ∨ x = q := fun x hx => by
      rw [List.take_succ, List.getElem?_eq_getElem (show idx < row.length by omega)] at hx
      rcases List.mem_append.1 hx with hx | hx
      · exact .inl hx
      · right
        rw [← hq, List.getD_eq_getElem?_getD, List.getElem?_eq_getElem (show idx < row.length by omega)]
        simpa using hx
    rw [plan_part_L4_succ, dt (by omega), it (by omega), Int.toNat_natCast, hq, it (by omega), Int.toNat_natCast, W_succ (by omega)]
    by_cases hn : gt of q < 0
    · rw [show (of.getD q 0 : Int) = gt of q from rfl, dt hn, it (by omega), fitsB_true (by omega), cond_true]
      have hs := neg_set (x := (k : Int)) (by omega : q < of.length) hn (by omega)
      have hqp : ∀ j, gt (of.set q k) j = if j = q then (k : Int) else gt of j := gt_set (by omega)
      have hq0 : gt of0 q < 0 := by
        by_cases h : gt of0 q < 0
        · exact h
        · have := hd.old q hql (by omega); omega
      have key := row_loop hm near hk n3 n2 p cnt hp row hrl hrow hall h0 j f (idx + 1) (of.set q k) (todo ++ [(q : Int)]) M (by omega) (by omega) ⟨by simp [hlen], fun j hj1 hj2 => ?_, fun j hj1 hj2 => ?_, fun j hj1 hj2 hj3 => ?_, fun t ht => ?_, fun j hj1 hj2 hj3 => ?_, ?_⟩ ?_ hp0 (by rw [List.length_append, List.length_singleton]; omega) (fun x hx' => ?_) (by rw [List.length_append, List.length_singleton]; omega) hM3
      · exact key
      · rw [hqp, if_neg (by rintro rfl; omega)]; exact hd.old j hj1 hj2
      · rw [hqp]
        split
        · exact .inl rfl
        · exact hd.new j hj1 hj2
      · rw [hqp] at hj3
        by_cases e : j = q
        · subst e; exact (hd.con p hp hp0 hpk).step ha
        · rw [if_neg e] at hj3; exact hd.con j hj1 hj2 hj3
      · rcases List.mem_append.1 ht with ht | ht
        · obtain ⟨j', e1, e2, e3, e4⟩ := hd.td t ht
          refine ⟨j', e1, e2, ?_, e4⟩
          rw [hqp]; split
          · rfl
          · exact e3
        · exact ⟨q, List.mem_singleton.1 ht, hql, by rw [hqp, if_pos rfl], hq0⟩
      · by_cases e : j = q
        · subst e; exact .inl (by simp)
        · rw [hqp, if_neg e] at hj3
          rcases hd.prc j hj1 hj2 hj3 with h | h | h
          · exact .inl (List.mem_append_left _ h)
          · exact .inr (.inl h)
          · refine .inr (.inr fun q' ha' => ?_)
            rw [hqp]; split
            · omega
            · exact h q' ha'
      · rw [hqp]; split
        · rfl
        · exact hd.rt
      · rw [hqp]; split
        · rfl
        · exact hpk
      · rw [hqp]; split
        · omega
        · rename_i hne
          rcases hstep x hx' with h | h
          · exact hx x h
          · rw [h, Int.toNat_natCast] at hne; exact absurd rfl hne
    · rw [show (of.getD q 0 : Int) = gt of q from rfl, df hn]
      refine row_loop hm near hk n3 n2 p cnt hp row hrl hrow hall h0 j f (idx + 1) of todo M (by omega) (by omega) hd hpk hp0 htl (fun x hx' => ?_) hM hM3
      rcases hstep x hx' with h | h
      · exact hx x h
      · rw [h, Int.toNat_natCast]; omega

theorem dfs_loop (hm : Vm m) {near : List (List Int)} (hN : NearOf m near) (hk : k ≤ 1000) (n2 cnt : Nat) (h0 : ∀ j, j < m.1.length → 0 ≤ gt of0 j → ∀ q, Adj m j q → 0 ≤ gt of0 q) (hi : i ≤ 1000) : ∀ (M f : Nat) (of todo : List Int), neg of + todo.length = M → M < f → M ≤ 300 → Dfs m of0 i k of todo (fun _ => False) →
    ∃ of', plan_part_L3 1000 n2 f near k cnt i of todo = plan_part_L2 1000 n2 near ((k + 1 : Nat) : Int) cnt ((i + 1 : Nat) : Int) of' ∧ Dfs m of0 i k of' [] (fun _ => False) := by
  intro M
  induction M with
  | zero =>
    intro f of todo hM hf _ hd
    obtain ⟨f, rfl⟩ : ∃ g, f = g + 1 := ⟨f - 1, by omega⟩
    have : todo = [] := List.eq_nil_of_length_eq_zero (by omega)
    subst this
    rw [plan_part_L3_succ, df (by simp), W_succ (by omega), W_succ (by omega)]
    exact ⟨of, rfl, hd⟩
  | succ M ih =>
    intro f of todo hM hf hM3 hd
    obtain ⟨f, rfl⟩ : ∃ g, f = g + 1 := ⟨f - 1, by omega⟩
    by_cases ht : todo.length = 0
    · have : todo = [] := List.eq_nil_of_length_eq_zero ht
      subst this
      rw [plan_part_L3_succ, df (by simp), W_succ (by omega), W_succ (by omega)]
      exact ⟨of, rfl, hd⟩
    · have hlast : (todo.length - 1 : Nat) < todo.length := by omega
      obtain ⟨p, hp1, hp2, hp3, hp4⟩ := hd.td _ (getD_mem (0 : Int) hlast)
      rw [plan_part_L3_succ, dt (by omega)]
      simp only
      have hnl := hN.1
      rw [W_eq (n := (todo.length : Int) - 1) (by omega) (by omega), show (todo.length : Int) - 1 = ((todo.length - 1 : Nat) : Int) by omega, it (by omega), slB_true (by omega), cond_true, Int.toNat_natCast, hp1, it (by omega), Int.toNat_natCast]
      have hsplit : todo = todo.take (todo.length - 1) ++ [(p : Int)] := by
        have h1 : todo.drop (todo.length - 1) = [(p : Int)] := by
          rw [drop_cons (0 : Int) hlast, hp1, drop_nil (by omega)]
        rw [← h1, List.take_append_drop]
      have hrow := hN.2.2.1 p hp2
      rw [show ((todo.drop (0 : Int).toNat).take (todo.length - 1 - (0 : Int).toNat)) = todo.take (todo.length - 1) from rfl]
      have hlen' : (todo.take (todo.length - 1)).length = todo.length - 1 := by rw [List.length_take]; omega
      have key := row_loop (of0 := of0) (i := i) (k := k) hm near hk f n2 p cnt hp2 (near.getD p []) (hN.2.1 p) hrow (hN.2.2.2 p) h0 (near.getD p []).length 1000 0 of (todo.take (todo.length - 1)) M rfl (by have := hN.2.1 p; omega) ⟨hd.len, hd.old, hd.new, hd.con, fun t h => hd.td t (List.mem_of_mem_take h), fun j hj1 hj2 hj3 => ?_, hd.rt⟩ hp3 hp4 (by omega) (fun x hx => by simp at hx) (by omega) (by omega)
      · obtain ⟨of', todo', e, d, hM'⟩ := key
        rw [show ((0 : Nat) : Int) = 0 from rfl] at e
        rw [e]
        exact ih f of' todo' hM' (by omega) (by omega) d
      · rcases hd.prc j hj1 hj2 hj3 with h | h | h
        · rw [hsplit] at h
          rcases List.mem_append.1 h with h | h
          · exact .inl h
          · exact .inr (.inl (by have := List.mem_singleton.1 h; omega))
        · exact h.elim
        · exact .inr (.inr h)
end dfs
end Go.Proofs.Ytdmggkpefjpknaa
