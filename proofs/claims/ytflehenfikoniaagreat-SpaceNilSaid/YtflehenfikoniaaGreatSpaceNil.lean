/-
  PROVED: 'Rows.SpaceNilSaid': a space that is not there has no keys: for every input the law returns true, and each argument reads afterwards as it read before. No condition.
-/
import Derived.Test.YtflehenfikoniaaGreatJf
import Derived.Test.YtflehenfikoniaaGreatJc
set_option linter.unusedSimpArgs false
set_option linter.unusedVariables false
namespace Go.Proofs.YtflehenfikoniaaGreat.spaceNil
open Go Go.RowKit Go.ChangeShapes Go.WideShapes Go.ChangeAt
theorem own:ownKnob Tryz.prog.godebug=none:=by kernel_rfl
set_option maxHeartbeats 2000000 in
set_option maxRecDepth 100000 in
theorem lifted (os:Os) (started:os.Started) (H:Type) (enc:TypeId×Value->H):
 ReturnsInHanded {} Tryz.checked os 8 .any (Rows.spaceNilSpec.pre6 enc Tryz.prog Tryz.f8 Rows.spaceNilRow.domain false) (Rows.spaceNilSpec.post enc Tryz.prog Tryz.f8 false true false false):=by
 refine returnsInHanded_of_change_sized (C:=Tryz.checked) own started (by kernel_rfl) Tryz.func8
  (ChangeSpec.witness6 (enc:=enc) (C:=Tryz.checked) false ⟨#[],#[.agg #[.int .i64 0,.string ByteArray.empty,.int .i64 0,.int .i64 0,.int .i64 0,.int .i64 0,.int .i64 0,.int .i64 0,.slice none 0 0,.string ByteArray.empty,.string ByteArray.empty,.int .i64 0,.int .i64 0,.int .i64 0]],[]⟩ 8 (by kernel_rfl) (by kernel_rfl) (by kernel_rfl) (by kernel_rfl)) ?_
 intro W base args ds gs before hval0 hW hcnd hsz _;have hval:∀(j:Nat) t v,Tryz.f8.params[j]?=some t->args[j]?=some v->Value.okWide Tryz.prog W .any base t v:=hval0;have hW2:=hW;obtain⟨p,q,hA0,hV,rfl,_,_⟩:=hW2;have hA:DataW.TrodAll enc Tryz.prog W 0 (fun _=>true) true Tryz.f8.params.toList args.toList ds p:=hA0;rw[Tryz.params8]at hA hval;obtain⟨v0,vs0,d0,ds0,p0,q0,hargs,rfl,rfl,h0,r0⟩:=trodAll_cons hA;obtain⟨rfl,rfl,rfl⟩:=trodAll_nil r0;obtain rfl:args= #[v0]:=by cases args;simp_all
 obtain⟨rfl,rfl⟩:=trodVars_none hV;obtain⟨X0,z0,in0,fr0,hv0⟩:=Tl (P:=Tryz.prog) (d:=5) (d2:=5) Tryz.underlying34 (by kernel_rfl) Tryz.underlying28 (by kernel_rfl) (by kernel_rfl) (hval 0 34 v0 rfl rfl) h0;clear hA0 hval0;refine(DI PU (EO X0 in0) W (HR.frs (fr0)) (.cons (hv0 _ fun _ h=>h) .nil)).mono fun e W' ⟨he,hb⟩=>?_
 subst he;exact⟨_,rfl,JE (by kernel_rfl) (by kernel_rfl) (by kernel_rfl) Tryz.underlying4 rfl rfl hW hb⟩
theorem proved:Rows.SpaceNilSaid:=
 OpenClaim.holds_of_wide 8 Tryz.f8 rfl rfl rfl rfl rfl rfl rfl ⟨rfl,rfl,rfl,rfl,rfl⟩ rfl rfl rfl rfl rfl (by kernel_rfl) Tryz.func8 (by kernel_rfl)
  (of_decide_eq_true (by kernel_rfl)) (by unfold Func.isWrapper;first|(rw[if_pos (by decide+kernel)];kernel_rfl)|(rw[if_neg (by decide+kernel)];exact⟨rfl,rfl⟩))
  (fun os started H enc _=>lifted os started H enc)
#print axioms proved
end Go.Proofs.YtflehenfikoniaaGreat.spaceNil

