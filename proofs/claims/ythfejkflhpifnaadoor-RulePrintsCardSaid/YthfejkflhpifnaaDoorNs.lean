/- plan.part and plan.Parts: the arrays of arrays that they grow, walked by hand (HandOK). No condition of its own: over any program. -/
import Derived.Test.YthfejkflhpifnaaDoorPxQ
set_option linter.all false
namespace Go.Pv
open Go.RowKit

section rx
variable {P : Program} {r : List RI} {lg : Lg} {T : Nat → DV} {H : Hp} {nx : Nat} {K : Lg → St → Prop}
theorem rx_nil (k : K lg ⟨T, H, nx⟩) : runX P [] lg ⟨T, H, nx⟩ K := k
theorem rx_no {t : Nat} {op : ROp} {d : DV} (h : ev op true T H nx = some (d, .no)) (k : runX P r (lg ++ [(rds op true T, [])]) ⟨upd T t d, H, nx⟩ K) : runX P (⟨some t, op, none⟩ :: r) lg ⟨T, H, nx⟩ K :=
  ⟨⟨d, [], nx, rds op true T⟩, .inl ⟨.no, h, rfl, rfl, rfl⟩, k⟩
theorem rx_al {t : Nat} {op : ROp} {d : DV} {ck : Ck} (h : ev op true T H nx = some (d, .al ck)) (k : runX P r (lg ++ [(rds op true T, [nx])]) ⟨upd T t d, H.put nx (some ck), nx + 1⟩ K) : runX P (⟨some t, op, none⟩ :: r) lg ⟨T, H, nx⟩ K :=
  ⟨⟨d, [(nx, ck)], nx + 1, rds op true T⟩, .inl ⟨.al ck, h, rfl, rfl, rfl⟩, k⟩
theorem rx_wr {t : Nat} {op : ROp} {d : DV} {o : Nat} {ck : Ck} (h : ev op true T H nx = some (d, .wr o ck)) (k : runX P r (lg ++ [(rds op true T, [o])]) ⟨upd T t d, H.put o (some ck), nx⟩ K) : runX P (⟨some t, op, none⟩ :: r) lg ⟨T, H, nx⟩ K :=
  ⟨⟨d, [(o, ck)], nx, rds op true T⟩, .inl ⟨.wr o ck, h, rfl, rfl, rfl⟩, k⟩
theorem rx_st {op : ROp} {d : DV} {o : Nat} {ck : Ck} (h : ev op true T H nx = some (d, .wr o ck)) (k : runX P r (lg ++ [(rds op true T, [o])]) ⟨T, H.put o (some ck), nx⟩ K) : runX P (⟨none, op, none⟩ :: r) lg ⟨T, H, nx⟩ K :=
  ⟨⟨d, [(o, ck)], nx, rds op true T⟩, .inl ⟨.wr o ck, h, rfl, rfl, rfl⟩, k⟩
theorem e_appO {sz by' : Nat} {x y : RO} {o g lo n : Nat} {xs news : List (List DV)} (hx : un true (x.get T) = .own o g lo n) (hy : un true (y.get T) = .lst true news) (hH : H o = some ⟨g, sz, xs⟩) (ha : news.all (fun c => c.length == sz) = true) (h1 : (n + news.length) * by' ≤ 140737488355328 ∧ n + news.length ≤ 9223372036854775807) :
    ev (.app sz by' x y) true T H nx = some (.own o (g + 1) 0 (n + news.length), .wr o ⟨g + 1, sz, (xs.drop lo).take n ++ news⟩) := by
  rw [ev_app, hx, hy]
  simp only [appV, elemsV, hH]
  rw [if_pos ha, if_pos ⟨trivial, trivial, h1.1, h1.2⟩]
theorem e_inc {x y : RO} {i : Nat} (hx : un true (x.get T) = I i) (hy : un true (y.get T) = I 1) (h : i < 9223372036854775807) : ev (.bin .add x y) true T H nx = some (I ((i + 1 : Nat) : Int), .no) := by
  rw [e_add hx hy, wrap_eq (by omega) (by omega)]; rfl
end rx

theorem both_enc : ∀ (as : List Int), Both (RelT (.int .i64)) as (encR as) := fun as => ⟨by simp [encR], fun j h1 h2 => by simp [encR, RelT, I]⟩
/-! ### plan.part -/
abbrev G_Pl : GT := .pair (.int .i64) .bool
abbrev G_Rd : GT := .pair (.int .i64) (.pair (.int .i64) (.pair (.int .i64) (.pair (.int .i64) (.pair .bool (.pair .bool (.pair (.pair (.int .i64) (.int .i64)) (.pair (.int .i64) (.int .i64))))))))
end Go.Pv
