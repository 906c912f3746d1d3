/- What the row's listed package variables give the walks: the table of powers of ten and the two errors of strconv stand in memory. No condition of its own: over the loaded program. -/
import Derived.Test.YthfejkflhpifnaaDoorPvU
import Derived.Test.YthfejkflhpifnaaDoorRows
import Derived.LaidMore
import Derived.Stop.LaidErr
import Derived.Lib.LaidTab
import Derived.Stop.Joined
import Derived.ProofKit
set_option linter.all false
namespace Go.Proofs.YthfejkflhpifnaaDoor
open Go.Pv
namespace Ld
def laidL : List (String × DataW Unit) := [("math/bits.deBruijn32tab", Rows.laid_math_bits_deBruijn32tab), ("math/bits.deBruijn64tab", Rows.laid_math_bits_deBruijn64tab), ("internal/strconv.uint64pow10", Rows.laid_internal_strconv_uint64pow10), ("strconv.ErrRange", Rows.laid_strconv_ErrRange), ("strconv.ErrSyntax", Rows.laid_strconv_ErrSyntax)]
theorem star : "*" ++ "errors.errorString" = "*errors.errorString" := by decide
theorem rowE (u : TypeId) (h : Tryd.prog.typeName? 3 u = some "*errors.errorString") : u = 114 :=
  typeName_ptr_named (nm := "errors.errorString") (by rw [star]; kernel_rfl) (by kernel_rfl) (by decide) u (by rw [star]; exact h)
theorem var_heap {w : World} {nm : String} {cs : Array Value} {g : Nat} (hg : Tryd.prog.globalNamed nm = some g) (h : w.var? Tryd.prog nm = some cs) : g < w.heap.size ∧ ∃ t f, w.heap[g]? = some (.cells cs t f) := by
  unfold World.var? at h
  rw [hg] at h
  simp only [Option.bind_some] at h
  cases hb : w.heap[g]? with
  | none => rw [hb] at h; cases h
  | some o =>
    rw [hb] at h
    cases o with
    | cells c t f =>
      simp only [Option.some.injEq] at h
      subst h
      refine ⟨heap_lt hb, t, f, rfl⟩
    | _ => cases h
theorem gl_of_laid {r : List (String × DataW Unit)} {w : World} (h0 : laidMet Tryd.prog (("internal/strconv.uint64pow10", Rows.laid_internal_strconv_uint64pow10) :: ("strconv.ErrRange", Rows.laid_strconv_ErrRange) :: ("strconv.ErrSyntax", Rows.laid_strconv_ErrSyntax) :: r) w) : GlOK Tryd.prog w (fun _ => False) := by
  have h1 := h0.tail
  have h2 := h1.tail
  have e0 : Rows.laid_internal_strconv_uint64pow10 = (Lib.tabData .u64 ((List.range 20).map fun i => ((10 ^ i : Nat) : Int)) : DataW Unit) := by kernel_rfl
  rw [e0] at h0
  have t0 : Lib.TabIs Tryd.prog w "internal/strconv.uint64pow10" .u64 ((List.range 20).map fun i => ((10 ^ i : Nat) : Int)) := Lib.tabIs_of_head (g := 0) (t := 100) (e := 47) (n := 20) (by kernel_rfl) (by kernel_rfl) (by kernel_rfl) (by kernel_rfl) (by kernel_rfl) (by kernel_rfl) h0
  obtain ⟨a1, s1, v1, -, -, -⟩ := laid_sentinel (g := 2) (ti := 81) (tp := 114) (te := 116) (ts := 9) h1 (by kernel_rfl) (by kernel_rfl) Tryd.underlying81 rowE Tryd.underlying114 Tryd.underlying116 rfl rfl Tryd.underlying9 (by kernel_rfl) (by kernel_rfl)
  obtain ⟨a2, s2, v2, -, -, -⟩ := laid_sentinel (g := 1) (ti := 81) (tp := 114) (te := 116) (ts := 9) h2 (by kernel_rfl) (by kernel_rfl) Tryd.underlying81 rowE Tryd.underlying114 Tryd.underlying116 rfl rfl Tryd.underlying9 (by kernel_rfl) (by kernel_rfl)
  intro nm hn g hg
  simp only [glNames, List.mem_cons, List.not_mem_nil, or_false] at hn
  rcases hn with rfl | rfl | rfl
  · obtain ⟨k1, t, f, k2⟩ := var_heap hg t0
    exact ⟨k1, fun e => e.elim, _, t, f, k2, fun _ => rfl, fun e => absurd rfl e⟩
  · obtain ⟨k1, t, f, k2⟩ := var_heap hg v2
    exact ⟨k1, fun e => e.elim, _, t, f, k2, fun e => by simp at e, fun _ => ⟨_, _, rfl⟩⟩
  · obtain ⟨k1, t, f, k2⟩ := var_heap hg v1
    exact ⟨k1, fun e => e.elim, _, t, f, k2, fun e => by simp at e, fun _ => ⟨_, _, rfl⟩⟩
theorem glLaid {w : World} (h : laidMetH Tryd.prog laidL w) : GlOK Tryd.prog w (fun _ => False) := by
  rw [MakeChecks.laidMetH_plain _ _ _ (by kernel_rfl)] at h
  exact gl_of_laid h.tail.tail
/-- The door's own heap meets the condition. -/
theorem door_met (os : Os) (args : Array Value) : laidMetH Tryd.prog laidL ((World.doorLaid Tryd.prog 400 os).forCall (fun _ _ => 0) ⟨#[], args, []⟩).memory :=
  laidMetH_of_parts3 (fuel := 8) (laidMet_of_run' 8 (by kernel_rfl) (by kernel_rfl)) (by kernel_rfl) (by kernel_rfl)
end Ld
end Go.Proofs.YthfejkflhpifnaaDoor
