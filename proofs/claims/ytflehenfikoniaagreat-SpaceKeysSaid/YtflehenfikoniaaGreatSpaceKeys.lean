/-
  PROVED: 'Rows.SpaceKeysSaid': keys are sorted; each rule's are there; a key that is dropped has no rules any more, and all others stay as they were: for every input the law returns true, and each argument reads afterwards as it read before. No condition.
-/
import Derived.Test.YtflehenfikoniaaGreatJf
import Derived.Test.YtflehenfikoniaaGreatJc
set_option linter.unusedSimpArgs false
set_option linter.unusedVariables false
namespace Go.Proofs.YtflehenfikoniaaGreat.spaceKeys
open Go Go.RowKit Go.ChangeShapes Go.WideShapes Go.ChangeAt
theorem own:ownKnob Tryz.prog.godebug=none:=by kernel_rfl
set_option maxHeartbeats 2000000 in
set_option maxRecDepth 100000 in
theorem lifted(os:Os)(started:os.Started)(H:Type)(enc:TypeId×Value->H):
 ReturnsInHanded {} Tryz.checked os 5 .any (Rows.spaceKeysSpec.pre6 enc Tryz.prog Tryz.f5 Rows.spaceKeysRow.domain false) (Rows.spaceKeysSpec.post enc Tryz.prog Tryz.f5 false true false false):=by
 refine returnsInHanded_of_change_sized (C:=Tryz.checked) own started (by kernel_rfl) Tryz.func5
  (ChangeSpec.witness6 (enc:=enc) (C:=Tryz.checked) false ⟨#[],#[.slice none 0 0,.string ByteArray.empty],[]⟩ 8 (by kernel_rfl) (by kernel_rfl) (by kernel_rfl) (by kernel_rfl)) ?_
 intro W base args ds gs before hval0 hW hcnd hsz _;have hval:∀(j:Nat) t v,Tryz.f5.params[j]?=some t->args[j]?=some v->Value.okWide Tryz.prog W .any base t v:=hval0;have hW2:=hW;obtain⟨p,q,hA0,hV,rfl,_,_⟩:=hW2;have hA:DataW.TrodAll enc Tryz.prog W 0 (λ_=>true) true Tryz.f5.params.toList args.toList ds p:=hA0;rw[Tryz.params5]at hA hval;obtain⟨v0,vs0,d0,ds0,p0,q0,hargs,rfl,rfl,h0,r0⟩:=trodAll_cons hA;obtain⟨v1,vs1,d1,ds1,p1,q1,rfl,rfl,rfl,h1,r1⟩:=trodAll_cons r0;obtain⟨rfl,rfl,rfl⟩:=trodAll_nil r1;obtain rfl:args= #[v0,v1]:=by cases args;simp_all
 obtain⟨rfl,rfl⟩:=trodVars_none hV;obtain⟨X0,z0,in0,fr0,hv0,dd0,ln0⟩:=R0 (P:=Tryz.prog) (d:=5) (d2:=5) Tryz.underlying22 (by kernel_rfl) (by kernel_rfl) Tryz.underlying28 (by kernel_rfl) (by kernel_rfl) (C7 Tryz.underlying22 (hval 0 22 v0 rfl rfl)) h0;have sz0:X0.length<=8796093022208:=Fu (P:=Tryz.prog) (t:=22) (e:=34) hsz (j:=0) rfl rfl ((by first|exact dd0.imp (λq=>by rw[q];rfl) id|exact dd0):X0.length=0∨_) (by kernel_rfl) (Nat.le_of_ble_eq_true (by kernel_rfl))
 obtain⟨a1,rfl,rfl,rfl,w1⟩:=Go.ChangeMaps.open_string Tryz.underlying9 (hval 1 9 v1 rfl rfl) h1;clear hA0 hval0;refine(Fs VY (EE X0 (a1.data.toList.map UInt8.toNat) in0 sz0) W (HR.frs (fr0)) (.cons (hv0 _ λ_ h=>h) (.cons (kI a1) .nil))).mono λe W' ⟨he,hb⟩=>?_
 subst he;exact⟨_,rfl,LW (by kernel_rfl) (by kernel_rfl) (by kernel_rfl) Tryz.underlying4 rfl rfl hW hb⟩
theorem proved:Rows.SpaceKeysSaid:=
 OpenClaim.holds_of_wide 5 Tryz.f5 rfl rfl rfl rfl rfl rfl rfl ⟨rfl,rfl,rfl,rfl,rfl⟩ rfl rfl rfl rfl rfl (by kernel_rfl) Tryz.func5 (by kernel_rfl)
  (of_decide_eq_true (by kernel_rfl)) (by unfold Func.isWrapper;first|(rw[if_pos (by decide+kernel)];kernel_rfl)|(rw[if_neg (by decide+kernel)];exact⟨rfl,rfl⟩))
  (λos started H enc _=>lifted os started H enc)
#print axioms proved
end Go.Proofs.YtflehenfikoniaaGreat.spaceKeys

