/- SurveySums answers true for every input. No condition of its own. -/
import Derived.Test.YtipokcccpbcmeaaDoorSx
import Derived.Test.YtipokcccpbcmeaaDoorPvU
import Derived.Test.YtipokcccpbcmeaaDoorRows
import Derived.WalkKit
import Derived.ProofKit
import Derived.OpenShut
import Derived.Test.YtipokcccpbcmeaaDoorLdb
import Derived.Test.YtipokcccpbcmeaaDoorCards
import Derived.Test.YtipokcccpbcmeaaDoorTie
import Derived.SevenTiedAt
import Derived.LaidMore
import Derived.Lay
import Derived.Stop.Joined
namespace Go.Proofs.YtipokcccpbcmeaaDoor
open Go.Pv Go.ChangeShapes Go.WideShapes Go.ChangeAt Go.RowKit
set_option linter.all false
theorem surveySums_own : ownKnob Tryd.prog.godebug = none := by kernel_rfl
theorem surveySums_laidOut : laidOutB Tryd.prog = true := by kernel_rfl
set_option maxRecDepth 100000 in
theorem surveySums_lifted (os : Os) (started : os.Started) (H : Type) (enc : TypeId × Value → H) :
    ReturnsInHanded {} Tryd.checked os 3 .any (fun w args => (Rows.surveySumsSpec.pre enc Tryd.prog Tryd.f3 [] false w args ∧ laidMetH Tryd.prog Ld.laidL w) ∧ sizedMet enc Tryd.prog Tryd.f3 (OpenSpec.ofChange Rows.surveySumsSpec) false w args) (Rows.surveySumsSpec.post enc Tryd.prog Tryd.f3 false true false false) := by
  refine returnsInHanded_of_change_and (C := Tryd.checked) (X := fun w _ => laidMetH Tryd.prog Ld.laidL w) (fun _ _ _ hh h => h.of_heap hh) surveySums_own started (by kernel_rfl) Tryd.func3
    (ChangeSpec.witness_shaped (enc := enc) (C := Tryd.checked) (os := os) (X := fun w _ => laidMetH Tryd.prog Ld.laidL w) false (World.laidAll Tryd.prog os Ld.laidL) #[.string ByteArray.empty, .string ByteArray.empty] 8 (World.laidAll_os _ _ _) (World.shaped_of_ZipB (by kernel_rfl) (by kernel_rfl)) (by kernel_rfl) (by kernel_rfl) (by kernel_rfl) (Ld.door_met os _)) ?_
  intro W base args ds gs before hval0 hW _ hwt hL _
  have hval : ∀ (j : Nat) t v, Tryd.f3.params[j]? = some t → args[j]? = some v → Value.okWide Tryd.prog W .any base t v := hval0
  have hW' := hW
  obtain ⟨p, q, hA0, hV, rfl, hfz, hnd⟩ := hW
  have hA : DataW.TrodAll enc Tryd.prog W 0 (fun _ => true) true Tryd.f3.params.toList args.toList ds p := hA0
  rw [Tryd.params3] at hA hval
  obtain ⟨rfl, rfl⟩ := trodVars_none hV
  obtain ⟨dargs, hl, hr, ht⟩ := open_args (r := .any) (base := base) [9, 9] [(false, [.st]), (false, [.st])] args.toList ds p (by kernel_rfl) (fun j t v h1 h2 => hval j t v (by simpa using h1) (by simpa using h2)) hA
  have kA := hA
  obtain ⟨v0, vs0, d0, ds0, p0, q0, ha0, rfl, hp0, h0, r0⟩ := trodAll_cons hA
  obtain ⟨v1, vs1, d1, ds1, p1, q1, ha1, rfl, hp1, h1, r1⟩ := trodAll_cons r0
  obtain ⟨_, rfl, _⟩ := trodAll_nil r1
  have hsz0 : ∀ s : ByteArray, dargs[0]? = some (DV.v (.string s)) → s.size ≤ 281474976710656 := by
    intro s hs
    obtain ⟨s1, hv1, hd1, _, _⟩ := ChangeMaps.open_string Tryd.underlying9 (hval 0 9 v0 rfl (by rw [← Array.getElem?_toList, ha0]; rfl)) h0
    obtain ⟨hj, he⟩ := List.getElem?_eq_some_iff.1 hs
    have h2 := hr 0 hj
    rw [he] at h2
    have h3 := h2.v_inv
    rw [ha0] at h3
    have h3 : v0 = .string s := h3
    rw [hv1] at h3
    injection h3 with h3
    subst h3
    have hw2 := hwt
    rw [Tryd.params3, hd1] at hw2
    have hw3 := List.all_eq_true.1 hw2 s1.data.toList.length (by simp [DataW.weightsEach, DataW.weights])
    have hw4 : s1.data.toList.length ≤ reachBytes := of_decide_eq_true hw3
    have e2 : s1.data.toList.length = s1.data.size := Array.length_toList
    have e3 : reachBytes ≤ 281474976710656 := by decide
    have e1 : s1.size = s1.data.size := rfl
    omega
  have hsz1 : ∀ s : ByteArray, dargs[1]? = some (DV.v (.string s)) → s.size ≤ 281474976710656 := by
    intro s hs
    obtain ⟨s1, hv1, hd1, _, _⟩ := ChangeMaps.open_string Tryd.underlying9 (hval 1 9 v1 rfl (by rw [← Array.getElem?_toList, ha0, ha1]; rfl)) h1
    obtain ⟨hj, he⟩ := List.getElem?_eq_some_iff.1 hs
    have h2 := hr 1 hj
    rw [he] at h2
    have h3 := h2.v_inv
    rw [ha0, ha1] at h3
    have h3 : v1 = .string s := h3
    rw [hv1] at h3
    injection h3 with h3
    subst h3
    have hw2 := hwt
    rw [Tryd.params3, hd1] at hw2
    have hw3 := List.all_eq_true.1 hw2 s1.data.toList.length (by simp [DataW.weightsEach, DataW.weights])
    have hw4 : s1.data.toList.length ≤ reachBytes := of_decide_eq_true hw3
    have e2 : s1.data.toList.length = s1.data.size := Array.length_toList
    have e3 : reachBytes ≤ 281474976710656 := by decide
    have e1 : s1.size = s1.data.size := rfl
    omega
  clear hA0 hval0
  refine (((surveySums_any dargs ht hsz0 hsz1 : CallOK Tryd.prog 3 dargs [] 0 (B true) [] 0)).outer (Ld.glLaid hL) (by simpa using hl) (fun j hj => by have := hr j hj; simpa [Array.getD_eq_getD_getElem?, List.getD_eq_getElem?_getD] using this)).mono fun e W' ⟨he, bel⟩ => ?_
  subst he
  exact ⟨_, rfl, _, _, _, [], _, [], hW', trodAll_mk1 (shut_bool Tryd.underlying4 _), trodAll_stays surveySums_laidOut bel [9, 9] _ _ _ (by kernel_rfl) kA, rfl, bel.frame _, fun h => by cases h⟩

theorem surveySums_over : Rows.surveySumsRow.holds Tryd.pinned (OpenSpec.ofChange Rows.surveySumsSpec) :=
  OpenClaim.holds_of_wide 3 Tryd.f3 rfl rfl rfl rfl rfl rfl rfl ⟨rfl, rfl, rfl, rfl, rfl⟩ rfl rfl rfl rfl rfl (by kernel_rfl) Tryd.func3 (by kernel_rfl)
    (of_decide_eq_true (by kernel_rfl)) (by unfold Func.isWrapper; first | (rw [if_pos (by decide +kernel)]; kernel_rfl) | (rw [if_neg (by decide +kernel)]; exact ⟨rfl, rfl⟩))
    (fun os started H enc _ => surveySums_lifted os started H enc)

theorem surveySums_holds : Rows.SurveySumsCardSaid :=
  Claim7.holds_tied_plain_at .later [] [.data, .data, .data, .data, .pinned] true (true, "d90f27493c7b366fc6d0aeec8123aed771fb686875a64551b2a04e5979361688") false
    surveySums_over (fun _ h => by cases h) (by kernel_rfl) (fun _ h => by cases h) surveySums_row_tie rfl ⟨rfl, rfl⟩ (by kernel_rfl) rfl
    (fun f fn hf hfn => by
      obtain rfl : f = 3 := Option.some.inj ((show Tryd.prog.funcNamed "minecontrol/minecontrollaw02.SurveySums" = some 3 by kernel_rfl).symm.trans hf) |>.symm
      obtain rfl : fn = Tryd.f3 := (Option.some.inj (Tryd.func3.symm.trans hfn)).symm
      exact ⟨by kernel_rfl, fun j t ht => by
        rw [Tryd.params3] at ht
        have hm : t ∈ [9, 9] := by simpa using Array.mem_of_getElem? ht
        have hall : ([9, 9].all fun u => !Tryd.prog.wantsStandIn u) = true := by kernel_rfl
        exact (show Tryd.prog.wantsStandIn t = false by simpa using List.all_eq_true.1 hall t hm)⟩)
    (by kernel_rfl)
end Go.Proofs.YtipokcccpbcmeaaDoor
