/-
  PROVED: 'Rows.SpaceWritesSaid': a key that is not there, or is made, is not written; an error changes nothing; what is added is told, if the policy is Last; no other key changes, but those that are made of it: for every input the law returns true, and each argument reads afterwards as it read before. No condition.
-/
import Derived.Test.YtflehenfikoniaaGreatJf
import Derived.Test.YtflehenfikoniaaGreatJc
set_option linter.unusedSimpArgs false
set_option linter.unusedVariables false
namespace Go.Proofs.YtflehenfikoniaaGreat.spaceWrites
open Go Go.RowKit Go.ChangeShapes Go.WideShapes Go.ChangeAt
theorem own:ownKnob Tryz.prog.godebug=none:=by kernel_rfl
set_option maxHeartbeats 2000000 in
set_option maxRecDepth 100000 in
theorem lifted(os:Os)(started:os.Started)(H:Type)(enc:TypeId×Value->H):
 ReturnsInHanded {} Tryz.checked os 6 .any (Rows.spaceWritesSpec.pre6 enc Tryz.prog Tryz.f6 Rows.spaceWritesRow.domain false) (Rows.spaceWritesSpec.post enc Tryz.prog Tryz.f6 false true false false):=by
 refine returnsInHanded_of_change_sized (C:=Tryz.checked) own started (by kernel_rfl) Tryz.func6
  (ChangeSpec.witness6 (enc:=enc) (C:=Tryz.checked) false ⟨#[],#[.slice none 0 0,.string ByteArray.empty,.agg #[.int .i64 0,.int .i64 0]],[]⟩ 8 (by kernel_rfl) (by kernel_rfl) (by kernel_rfl) (by kernel_rfl)) ?_
 intro W base args ds gs before hval0 hW hcnd hsz _;have hval:∀(j:Nat) t v,Tryz.f6.params[j]?=some t->args[j]?=some v->Value.okWide Tryz.prog W .any base t v:=hval0;have hW2:=hW;obtain⟨p,q,hA0,hV,rfl,_,_⟩:=hW2;have hA:DataW.TrodAll enc Tryz.prog W 0 (λ_=>true) true Tryz.f6.params.toList args.toList ds p:=hA0;rw[Tryz.params6]at hA hval;obtain⟨v0,vs0,d0,ds0,p0,q0,hargs,rfl,rfl,h0,r0⟩:=trodAll_cons hA;obtain⟨v1,vs1,d1,ds1,p1,q1,rfl,rfl,rfl,h1,r1⟩:=trodAll_cons r0;obtain⟨v2,vs2,d2,ds2,p2,q2,rfl,rfl,rfl,h2,r2⟩:=trodAll_cons r1;obtain⟨rfl,rfl,rfl⟩:=trodAll_nil r2;obtain rfl:args= #[v0,v1,v2]:=by cases args;simp_all
 obtain⟨rfl,rfl⟩:=trodVars_none hV;obtain⟨X0,z0,in0,fr0,hv0,dd0,ln0⟩:=RQ (P:=Tryz.prog) (d:=5) (d2:=5) Tryz.underlying22 (by kernel_rfl) (by kernel_rfl) Tryz.underlying28 (by kernel_rfl) (by kernel_rfl) (Dl Tryz.underlying22 (hval 0 22 v0 rfl rfl)) h0;have sz0:X0.length<=8796093022208:=FO (P:=Tryz.prog) (t:=22) (e:=34) hsz (j:=0) rfl rfl ((by first|exact dd0.imp (λq=>by rw[q];rfl) id|exact dd0):X0.length=0∨_) (by kernel_rfl) (Nat.le_of_ble_eq_true (by kernel_rfl))
 obtain⟨a1,rfl,rfl,rfl,w1⟩:=Go.ChangeMaps.open_string Tryz.underlying9 (hval 1 9 v1 rfl rfl) h1;obtain⟨x2,y2,ix2,iy2,hv2⟩:=MC (P:=Tryz.prog) (d:=5) Tryz.underlying27 (by kernel_rfl) (hval 2 27 v2 rfl rfl) h2;clear hA0 hval0;refine(FM VG (yQ X0 (a1.data.toList.map UInt8.toNat) x2 y2 in0 sz0 ix2 iy2) W (HR.frs (fr0)) (.cons (hv0 _ λ_ h=>h) (.cons (kO a1) (.cons (hv2 _) .nil)))).mono λe W' ⟨he,hb⟩=>?_
 subst he;exact⟨_,rfl,LP (by kernel_rfl) (by kernel_rfl) (by kernel_rfl) Tryz.underlying4 rfl rfl hW hb⟩
theorem proved:Rows.SpaceWritesSaid:=
 OpenClaim.holds_of_wide 6 Tryz.f6 rfl rfl rfl rfl rfl rfl rfl ⟨rfl,rfl,rfl,rfl,rfl⟩ rfl rfl rfl rfl rfl (by kernel_rfl) Tryz.func6 (by kernel_rfl)
  (of_decide_eq_true (by kernel_rfl)) (by unfold Func.isWrapper;first|(rw[if_pos (by decide+kernel)];kernel_rfl)|(rw[if_neg (by decide+kernel)];exact⟨rfl,rfl⟩))
  (λos started H enc _=>lifted os started H enc)
#print axioms proved
end Go.Proofs.YtflehenfikoniaaGreat.spaceWrites

