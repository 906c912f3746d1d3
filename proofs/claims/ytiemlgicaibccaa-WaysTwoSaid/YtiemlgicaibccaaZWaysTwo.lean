/- WaysTwo answers true for every input. No condition of its own. -/
import Derived.Test.YtiemlgicaibccaaYq
import Derived.Test.YtiemlgicaibccaaPvU
import Derived.Test.YtiemlgicaibccaaRows
import Derived.WalkKit
import Derived.ProofKit
import Derived.OpenShut
namespace Go.Proofs.Ytiemlgicaibccaa
open Go.Pv Go.ChangeShapes Go.WideShapes Go.ChangeAt Go.RowKit
set_option linter.all false
theorem waysTwo_own : ownKnob Try.prog.godebug = none := by kernel_rfl
theorem waysTwo_laidOut : laidOutB Try.prog = true := by kernel_rfl
set_option maxRecDepth 100000 in
theorem waysTwo_lifted (os : Os) (started : os.Started) (H : Type) (enc : TypeId × Value → H) :
  ReturnsInHanded {} Try.checked os 5 .any (Rows.waysTwoSpec.pre6 enc Try.prog Try.f5 Rows.waysTwoRow.domain false) (Rows.waysTwoSpec.post enc Try.prog Try.f5 false true false false) := by
 refine returnsInHanded_of_change (C := Try.checked) waysTwo_own started (by kernel_rfl) Try.func5
  (ChangeSpec.witness6 (enc := enc) (C := Try.checked) false ⟨#[], #[.slice none 0 0], []⟩ 8 (by kernel_rfl) (by kernel_rfl) (by kernel_rfl) (by kernel_rfl)) ?_
 intro W base args ds gs before hval0 hW hcnd _
 have hval : ∀ (j : Nat) t v, Try.f5.params[j]? = some t → args[j]? = some v → Value.okWide Try.prog W .any base t v := hval0
 have hW' := hW
 obtain ⟨p, q, hA0, hV, rfl, hfz, hnd⟩ := hW
 have hA : DataW.TrodAll enc Try.prog W 0 (fun _ => true) true Try.f5.params.toList args.toList ds p := hA0
 rw [Try.params5] at hA hval
 obtain ⟨rfl, rfl⟩ := trodVars_none hV
 obtain ⟨dargs, hl, hr, ht⟩ := open_args (r := .any) (base := base) [22] [(false, [.sl [.it .i64]])] args.toList ds p (by kernel_rfl) (fun j t v h1 h2 => hval j t v (by simpa using h1) (by simpa using h2)) hA
 have kA := hA
 obtain ⟨v0, vs0, d0, ds0, p0, q0, ha0, rfl, hp0, h0, r0⟩ := trodAll_cons hA
 obtain ⟨_, rfl, _⟩ := trodAll_nil r0
 clear hA0 hval0
 refine (((waysTwo_any dargs ht : CallOK Try.prog 5 dargs [] 0 (B true) [] 0)).outer (GlOK.none (by kernel_rfl)) (by simpa using hl) (fun j hj => by have := hr j hj; simpa [Array.getD_eq_getD_getElem?, List.getD_eq_getElem?_getD] using this)).mono fun e W' ⟨he, bel⟩ => ?_
 subst he
 exact ⟨_, rfl, _, _, _, [], _, [], hW', trodAll_mk1 (shut_bool Try.underlying4 _), trodAll_stays waysTwo_laidOut bel [22] _ _ _ (by kernel_rfl) kA, rfl, bel.frame _, fun h => by cases h⟩

theorem waysTwo_over : Rows.waysTwoRow.holds Try.pinned (OpenSpec.ofChange Rows.waysTwoSpec) :=
 OpenClaim.holds_of_wide 5 Try.f5 rfl rfl rfl rfl rfl rfl rfl ⟨rfl, rfl, rfl, rfl, rfl⟩ rfl rfl rfl rfl rfl (by kernel_rfl) Try.func5 (by kernel_rfl)
  (of_decide_eq_true (by kernel_rfl)) (by unfold Func.isWrapper; first | (rw [if_pos (by decide +kernel)]; kernel_rfl) | (rw [if_neg (by decide +kernel)]; exact ⟨rfl, rfl⟩))
  (fun os started H enc _ => waysTwo_lifted os started H enc)

theorem waysTwo_holds : Rows.WaysTwoSaid := waysTwo_over
end Go.Proofs.Ytiemlgicaibccaa
