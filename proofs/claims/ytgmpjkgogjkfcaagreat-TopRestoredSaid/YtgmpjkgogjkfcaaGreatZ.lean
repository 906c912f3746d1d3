/- TopRestored answers true for every input. No condition of its own. -/
import Derived.Test.YtgmpjkgogjkfcaaGreatR
import Derived.Test.YtgmpjkgogjkfcaaGreatE
import Derived.Test.YtgmpjkgogjkfcaaGreatRows
import Derived.WalkKit
import Derived.ProofKit
import Derived.OpenShut
set_option linter.all false
namespace Go.Proofs.YtgmpjkgogjkfcaaGreat
open Go.Pv Go.ChangeShapes Go.WideShapes Go.ChangeAt Go.RowKit
theorem aam:ownKnob Tryz.prog.godebug=none:=by kernel_rfl
theorem YW:laidOutB Tryz.prog=true:=by kernel_rfl
set_option maxRecDepth 100000 in
theorem ami(os:Os)(started:os.Started)(H:Type)(enc:TypeId×Value->H):
  ReturnsInHanded {} Tryz.checked os 3 .any (Rows.topRestoredSpec.pre6 enc Tryz.prog Tryz.f3 Rows.topRestoredRow.domain false) (Rows.topRestoredSpec.post enc Tryz.prog Tryz.f3 false true false false):=by
 refine returnsInHanded_of_change (C:=Tryz.checked) aam started (by kernel_rfl) Tryz.func3
  (ChangeSpec.witness6 (enc:=enc) (C:=Tryz.checked) false ⟨#[], #[.slice none 0 0],[]⟩ 8 (by kernel_rfl) (by kernel_rfl) (by kernel_rfl) (by kernel_rfl)) ?_
 intro W base args ds gs before hval0 hW hcnd _;have hval:∀(j:Nat) t v,Tryz.f3.params[j]? =some t->args[j]? =some v->Value.okWide Tryz.prog W .any base t v:=hval0;have hW':=hW;obtain⟨p,q,hA0,hV,rfl,hfz,hnd⟩:=hW;have hA:DataW.TrodAll enc Tryz.prog W 0 (fun _=>true) true Tryz.f3.params.toList args.toList ds p:=hA0;rw[Tryz.params3] at hA hval;obtain⟨rfl,rfl⟩:=trodVars_none hV;obtain⟨dargs,hl,hr,ht⟩:=WM (r:=.any) (base:=base) [22] [(false,[.sl [.it .u8]])] args.toList ds p (by kernel_rfl) (fun j t v h1 h2=>hval j t v (by simpa using h1) (by simpa using h2)) hA
 have kA:=hA;obtain⟨v0,vs0,d0,ds0,p0,q0,ha0,rfl,hp0,h0,r0⟩:=trodAll_cons hA;obtain⟨_,rfl,_⟩:=trodAll_nil r0;clear hA0 hval0;refine(((ajv dargs ht:de Tryz.prog 3 dargs [] 0 (B true) [] 0)).outer (iV.none (by kernel_rfl)) (by simpa using hl) (fun j hj=>by have:=hr j hj;simpa[Array.getD_eq_getD_getElem?,List.getD_eq_getElem?_getD] using this)).mono fun e W' ⟨he,bel⟩=>?_;subst he;exact⟨_,rfl,_,_,_,[],_,[],hW',trodAll_mk1 (shut_bool Tryz.underlying4 _),WK YW bel [22] _ _ _ (by kernel_rfl) kA,rfl,bel.frame _,fun h=>by cases h⟩
theorem aj3:Rows.topRestoredRow.holds Tryz.pinned (OpenSpec.ofChange Rows.topRestoredSpec):=
 OpenClaim.holds_of_wide 3 Tryz.f3 rfl rfl rfl rfl rfl rfl rfl ⟨rfl,rfl,rfl,rfl,rfl⟩ rfl rfl rfl rfl rfl (by kernel_rfl) Tryz.func3 (by kernel_rfl)
  (of_decide_eq_true (by kernel_rfl)) (by unfold Func.isWrapper;first | (rw[if_pos (by decide+kernel)];kernel_rfl) | (rw[if_neg (by decide+kernel)];exact⟨rfl,rfl⟩))
  (fun os started H enc _=>ami os started H enc)
theorem topRestored_holds:Rows.TopRestoredSaid:=aj3
end Go.Proofs.YtgmpjkgogjkfcaaGreat
