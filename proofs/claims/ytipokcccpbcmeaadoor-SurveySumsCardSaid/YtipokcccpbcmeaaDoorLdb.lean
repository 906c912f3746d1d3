/- What the row's listed package variables give the walks: the table of powers of ten stands in memory. No condition of its own: over the loaded program. -/
import Derived.Test.YtipokcccpbcmeaaDoorPvU
import Derived.Test.YtipokcccpbcmeaaDoorRows
import Derived.LaidMore
import Derived.Lay
import Derived.Stop.LaidErr
import Derived.Lib.LaidTab
import Derived.Stop.Joined
import Derived.ProofKit
set_option linter.all false
namespace Go.Proofs.YtipokcccpbcmeaaDoor
open Go.Pv
namespace Ld
def laidL : List (String × DataW Unit) := [("math/bits.deBruijn32tab", Rows.laid_math_bits_deBruijn32tab), ("math/bits.deBruijn64tab", Rows.laid_math_bits_deBruijn64tab), ("internal/strconv.uint64pow10", Rows.laid_internal_strconv_uint64pow10), ("unicode/utf8.acceptRanges", Rows.laid_unicode_utf8_acceptRanges), ("unicode/utf8.first", Rows.laid_unicode_utf8_first)]
theorem var_heap {w : World} {nm : String} {cs : Array Value} {g : Nat} (hg : Tryd.prog.globalNamed nm = some g) (h : w.var? Tryd.prog nm = some cs) : g < w.heap.size ∧ ∃ t f, w.heap[g]? = some (.cells cs t f) := by
  unfold World.var? at h
  rw [hg] at h
  simp only [Option.bind_some] at h
  cases hb : w.heap[g]? with
  | none => rw [hb] at h; cases h
  | some o =>
    rw [hb] at h
    cases o with
    | cells c t f =>
      simp only [Option.some.injEq] at h
      subst h
      refine ⟨heap_lt hb, t, f, rfl⟩
    | _ => cases h
theorem gl_of_laid {r : List (String × DataW Unit)} {w : World} (h0 : laidMet Tryd.prog (("internal/strconv.uint64pow10", Rows.laid_internal_strconv_uint64pow10) :: r) w) : GlOK Tryd.prog w (fun _ => False) := by
  have e0 : Rows.laid_internal_strconv_uint64pow10 = (Lib.tabData .u64 ((List.range 20).map fun i => ((10 ^ i : Nat) : Int)) : DataW Unit) := by kernel_rfl
  rw [e0] at h0
  have t0 : Lib.TabIs Tryd.prog w "internal/strconv.uint64pow10" .u64 ((List.range 20).map fun i => ((10 ^ i : Nat) : Int)) := Lib.tabIs_of_head (g := 1) (t := 120) (e := 111) (n := 20) (by kernel_rfl) (by kernel_rfl) (by kernel_rfl) (by kernel_rfl) (by kernel_rfl) (by kernel_rfl) h0
  have n1 : Tryd.prog.globalNamed "strconv.ErrSyntax" = none := by kernel_rfl
  have n2 : Tryd.prog.globalNamed "strconv.ErrRange" = none := by kernel_rfl
  intro nm hn g hg
  simp only [glNames, List.mem_cons, List.not_mem_nil, or_false] at hn
  rcases hn with rfl | rfl | rfl
  · obtain ⟨k1, t, f, k2⟩ := var_heap hg t0
    exact ⟨k1, fun e => e.elim, _, t, f, k2, fun _ => rfl, fun e => absurd rfl e⟩
  · rw [n1] at hg; cases hg
  · rw [n2] at hg; cases hg
theorem glLaid {w : World} (h : laidMetH Tryd.prog laidL w) : GlOK Tryd.prog w (fun _ => False) := by
  rw [MakeChecks.laidMetH_plain _ _ _ (by kernel_rfl)] at h
  exact gl_of_laid h.tail.tail
theorem door_met (os : Os) (args : Array Value) : laidMetH Tryd.prog laidL ((World.laidAll Tryd.prog os laidL).forCall (fun _ _ => 0) ⟨#[], args, []⟩).memory := by
  rw [MakeChecks.laidMetH_plain _ _ _ (by kernel_rfl)]
  exact laidMet_laidAll _ (by kernel_rfl) (by kernel_rfl)
end Ld
end Go.Proofs.YtipokcccpbcmeaaDoor
