/- Texts of our own, joined: the engine, the machine that runs code, and what is known of the functions. -/
import Derived.Test.YtflehenfikoniaaGreatRows
import Derived.WalkKit
import Derived.Deep.Quiet
import Derived.ProofKit
import Derived.Laws.StructEq
import Derived.LaidEql
import Derived.Laws.BytesArg
import Derived.Maps.RangeRun
import Derived.RangeFuncSeq
import Derived.Scope
import Derived.Laws.Strings
import Derived.Laws.Strings2
import Derived.Below
import Derived.Carry
import Derived.OpenShut
import Derived.ChangeMaps5
import Derived.Deep.Slices
import Derived.Deep.SlicePairs
import Derived.SizedLaws
import Derived.Test.YtflehenfikoniaaGreatJb
import Derived.Laws.BitsAllLaws
set_option linter.unusedSimpArgs false
set_option linter.unusedVariables false
set_option maxHeartbeats 16000000
set_option maxRecDepth 100000
namespace Go.Proofs.YtflehenfikoniaaGreat
open Go Go.RowKit
section
variable {φ ψ:Ph} {H:AH} {n:Nat} {h0 hp:Hp}
theorem HR.xL (hr:HR φ H n h0 hp) {φ0:Ph} {H0:AH} {n0:Nat} (h:HR φ0 H0 n0 hp hp) (hn:∀b o,H0.get b=some o->o.own=false) (hz:∀q,¬φ0.z q):HR ⟨φ0.f,φ.z,φ.z,φ0.s⟩ H0 n0 hp hp:=by
 have hle:SLe φ0 ⟨φ0.f,φ.z,φ.z,φ0.s⟩:=⟨fun _ _ e=>e,fun q e=>(hz q e).elim⟩;have hz2:∀q,φ.z q->(⟨φ0.f,φ.z,φ.z,φ0.s⟩:Ph).z q:=fun _ e=>e
 refine⟨h.dom,fun b o hb=>(h.live b o hb).imp id fun⟨p,ob,h1,h2,h3,h4⟩=>⟨p,ob,h1,h2,h3,h4.cO hle⟩,h.inj,h.base,h.size,fun q hq=>⟨⟨FzR.mono hz2 (hr.frz q hq).1.1,.inl hq⟩,fun b o p hb hw _=>?_⟩,fun b Q hb=>by cases hn b _ hb⟩;rw[hn b o hb]at hw;cases hw
def FrG (m k:Nat) (s:List AV) (u:AV) (H':AH):Prop:=
 (hd u= .nsl/\m=0/\s=[])∨(u= .fr m k s/\s.length=m*k)∨
 (∃b o x l z r,u= .rw b o m k x/\x≠4/\H'.get b=some (.cells l z)/\bp l o (m*k)=some r/\r.map mk=s.map mk)∨
 ∃b o c kk l z r,hd u= .sl b o m c kk/\m<=c/\H'.get b=some (.cells l z)/\bp l o (m*k)=some r/\r.map mk=s.map mk
theorem NC {m k j b x:Nat} {l s:List AV} {z:Bool} {u:AV} {H':AH} (h1:u= .rw b 0 j k x) (hj:j=m) (hb:H'.get b=some (.cells l z)) (hl:l.map mk=s.map mk) (hs:s.length=m*k) (hx:x≠4:=by decide):FrG m k s u H':=by
 subst hj;exact .inr (.inr (.inl ⟨b,0,x,l,z,l,h1,hx,hb,bq (by have:=congrArg List.length hl;simp only[List.length_map]at this;omega),hl⟩))
def Ph.more (φ:Ph) (z:Fz->Prop):Ph:=⟨φ.f,fun q=>φ.z q∨z q,φ.y,φ.s⟩
theorem Ph.oJ (φ:Ph) (z:Fz->Prop):PLe φ (φ.more z):=⟨fun _ _ e=>e,fun _ e=> .inl e,fun _ e=>e⟩
theorem HR.more {h:Hp} (hr:HR φ H n h0 h) {z:Fz->Prop} (hz:∀q,z q->FzR (φ.more z) h q/\h0.f q.B=none/\(∀b o p,H.get b=some o->o.own=true->φ b=some p->p.B≠q.B)/\∀b Q,H.get b=some (.sep Q)->¬φ.s b q.B):HR (φ.more z) H n h0 h:=by
 refine⟨hr.dom,fun b o hb=>(hr.live b o hb).imp id fun⟨p,ob,h1,h2,h3,h4⟩=>⟨p,ob,h1,h2,h3,h4.mono (φ.oJ z)⟩,hr.inj,hr.base,hr.size,fun q hq=>?_,hr.b9 (Nat.le_refl _) (fun x Q hx=>⟨hx,rfl⟩) (fun _ h=> .inl h) (fun q h=>h.imp id fun h=>(hz q h).2.2.2) (fun _ _ _ _ _=>rfl) fun b' o' p' e1 e2 e3=> .inl ⟨b',o',p',e1,e2,e3,rfl⟩⟩;rcases hq with hq|hq
 ·obtain⟨⟨h1,h2⟩,h3⟩:=hr.frz q hq;exact⟨⟨FzR.mono (φ.oJ z).z h1,h2⟩,h3⟩
 ·obtain⟨h1,h2,h3⟩:=hz q hq;exact⟨⟨h1,.inr h2⟩,h3.1⟩
theorem DJ {H':AH} {n':Nat} {g:Hp} {m k:Nat} {s:List AV} {u:AV} {w:Value} (hr:HR φ H n h0 hp) (hg:HR ψ H' n' hp g) (hy:∀q,ψ.y q->φ.z q) (hs:s.all flat.flat1=true) (hsl:s.length=m*k) (hu:VR ψ u w) (he:FrG m k s u H'):
 ∃χ,PLe φ χ/\HR χ H n h0 g/\VR χ (.fr m k s) w:=by
 have hg2:HR φ H n h0 g:=hr.grow (fun b o hb=>(hg.base b o hb).2) hg.size
 have hb0:∀B,hp.f B=none->h0.f B=none:=fun B e=>by
  cases q:h0.f B with
  |none=>rfl
  |some o=>have:=(hr.base B o q).2;rw[e]at this;cases this
 have own:∀B,hp.f B=none->∀b o p,H.get b=some o->o.own=true->φ b=some p->p.B≠B:=fun B e b o p hb hw hp' q=>by
  obtain⟨ob,_,h1,_⟩:=hr.of hb hp';rw[q,e]at h1;cases h1
 have nsp:∀B,hp.f B=none->∀b Q,H.get b=some (.sep Q)->¬φ.s b B:=fun B e b Q hb hB=>by
  obtain⟨o,ho⟩:=Q.ex _ _ _ _ (hr.sep b Q hb).1 hB;rw[e]at ho;cases ho
 have none:∀{a:Option Addr} {C:Nat},m=0->s=[]->w= .slice a 0 C->(a=none->C=0)->∃χ,PLe φ χ/\HR χ H n h0 g/\VR χ (.fr m k s) w:=fun{a C} h1 h2 h3 h4=>by
  subst h1 h2 h3;exact⟨φ,.refl φ,hg2,.fre h4⟩
 have new:∀(B a C:Nat) (c:Array Value) (t:TypeId) (fz:Nat×Nat),hp.f B= .none->B<g.n->g.f B=some (.cells c t fz)->a+m*k<=c.size->(∃χ,CR χ c a s)->m<=C->w= .slice (some ⟨B,a,.none⟩) m C->∃χ,PLe φ χ/\HR χ H n h0 g/\VR χ (.fr m k s) w:=by
  intro B a C c t fz h1 h2 h3 h4 ⟨χ,h5⟩ h6 h7;subst h7
  have hst:s.all nL=true:=by
   rw[List.all_eq_true]at hs⊢;intro x hx;have:=hs x hx;cases x<;>first|rfl|cases this
  refine⟨φ.more fun q=>q=⟨B,a,s⟩,φ.oJ _,hg2.more fun q hq=>?_,?_⟩
  ·subst hq;exact⟨⟨⟨h2,hst⟩,c,t,fz,h3,(show a+s.length<=c.size by omega),CR.mQ h5 rfl hs⟩,hb0 _ h1,own _ h1,nsp _ h1⟩
  ·have:VR (φ.more fun q=>q=⟨B,a,s⟩) (.fr m k s) (.slice (some ⟨B,a+0,.none⟩) m C):= .fr (q:=⟨B,a,s⟩) (o:=0) (.inr rfl) h6 (bq hsl);exact this
 rcases he with⟨e,hm,hs0⟩|⟨rfl,_⟩|⟨b,o,x,l,z,r,rfl,hx,hb,hsub,hmk⟩|⟨b,o,c,kk,l,z,r,e,hc,hb,hsub,hmk⟩
 ·have:=hu.hd;rw[e]at this;exact none hm hs0 this.cP fun _=>rfl
 ·rcases hu.rO with⟨h1,h2,a,C,h3,h4⟩|⟨q,o,C,hq,rfl,hC,hl⟩
  ·exact none h1 h2 h3 h4
  ·obtain⟨⟨hf,hyq⟩,_⟩:=hg.frz q hq;rcases hyq with hyq|hyq
   ·exact⟨φ,.refl φ,hg2,.fr (hy q hyq) hC hl⟩
   ·obtain⟨⟨h1,h2⟩,c,t,fz,h3,h4,h5⟩:=hf;obtain⟨g1,g2⟩:=bu hl;exact new q.B (q.s+o) C c t fz hyq h1 h3 (by omega) ⟨ψ,by rw[g2];exact CR.drop h5⟩ hC rfl
 ·rcases hu.gz with⟨h1,hem⟩|⟨p,a,C,hpb,rfl,h2,h3,h4,h5,_,_⟩
  ·exact none h1 (List.eq_nil_of_length_eq_zero (by rw[hsl,h1,Nat.zero_mul])) (hem.nil hx) fun _=>rfl
  ·obtain⟨ob,hq0,hq1,cc,t,fz,rfl,o1,o2,o3,o4,o5⟩:=hg.of hb hpb;by_cases hm:m=0
   ·exact none (a:=some ⟨p.B,a,.none⟩) hm (List.eq_nil_of_length_eq_zero (by rw[hsl,hm,Nat.zero_mul])) (by rw[hm]) fun q=>by cases q
   ·have ha:=h2 hm;subst ha;obtain⟨g1,g2⟩:=bu hsub;have h6:CR ψ cc (p.s+o) r:=by rw[g2];exact CR.drop o5
    exact new p.B (p.s+o) C cc t fz hq0 (hg.dom _ _ hpb).2 hq1 (by omega) ⟨ψ,CR.mQ h6 hmk hs⟩ h4 rfl
 ·have:=hu.hd;rw[e]at this;obtain⟨p,C,hpb,rfl,hC0,hC1⟩:=this.eo;obtain⟨ob,hq0,hq1,cc,t,fz,rfl,o1,o2,o3,o4,o5⟩:=hg.of hb hpb;obtain⟨g1,g2⟩:=bu hsub;have h6:CR ψ cc (p.s+o) r:=by rw[g2];exact CR.drop o5
  have hlC:m<=C:=by
   by_cases hk0:kk=0
   ·rw[hC0 hk0];exact hc
   ·exact Nat.le_trans hc (hC1 hk0).1
  exact new p.B (p.s+o) C cc t fz hq0 (hg.dom _ _ hpb).2 hq1 (by omega) ⟨ψ,CR.mQ h6 hmk hs⟩ hlC rfl
noncomputable def ND (F:FuncId->EP) (d:Nat) (D:DT) (f:FuncId):List AV->AH->Nat->PK->Prop:=EP.rec (fun _ _ _ _=>False) (fun D c rs m=>No (ax F d) (tc F) D c rs m) (fun _ _ _ _ _=>False) (fun _ _ _ _ _=>False) (xq D f)
theorem Fc {F:FuncId->EP} (hF:aW F) (d:Nat) {D:DT} {f:FuncId} (hok:Ht Tryz.prog f=true) (hdr:xr D f=true):ai f (ND F d D f):=fun args H n κ hs φ h0 h vs K hr hargs hk=>by
 have hf:=vb (D:=D) hok hdr;unfold ND at hs;cases hbd:xq D f with
 |no=>rw[hbd]at hs;exact hs.elim
 |nat g=>rw[hbd]at hs;exact hs.elim
 |det g=>rw[hbd]at hs;exact hs.elim
 |run D c rs m=>
  rw[hbd]at hs hf;obtain⟨hok,hdr,fn,hfn,hb,hrs,hnt⟩:=hf;subst hrs hnt;exact va (by kernel_rfl) (bR (by kernel_rfl) hF d) (qH hF) (mN hF) hok hdr hfn hb hs hr hargs hk
theorem an {F:FuncId->EP} (hF:aW F) (d:Nat) (f:FuncId):ai f (ax F d f):=fun args H n κ hs φ h0 h vs K hr hargs hk=>bR (by kernel_rfl) hF d f args H n κ hs φ h0 h vs K hr hargs hk
theorem Kr {f:FuncId} {run:List AV->AH->Nat->PK->Prop} (hrun:ai f run) {args0:List AV} {H0:AH} {n0 m k:Nat} {s:List AV} (hs:s.all flat.flat1=true) (hsl:s.length=m*k) (h:run args0 H0 n0 fun u H' _=>FrG m k s u H')
 {vs:Array Value} {κ:PK} {K:KH} (hk':κ (.fr m k s) H n) (hr:HR φ H n h0 hp) (hk:ck φ h0 κ K) (hic:bW Tryz.prog f=true) {φ0:Ph} (hr0:Wf hp->HR φ0 H0 n0 hp hp) (hy:φ0.y=φ.z) (hargs:VRs φ0 args0 vs.toList):dj Tryz.prog f vs hp K:=by
 have key:Wf hp->dj Tryz.prog f vs hp K:=fun hw=>hrun args0 H0 n0 _ h φ0 hp hp vs K (hr0 hw) hargs fun ψ u H' n' w g hle hg hu he=>by
  obtain⟨χ,h1,h2,h3⟩:=DJ hr hg (fun q hq=>hy▸hle.y q hq) hs hsl hu he;exact hk χ _ H n w g h1 h2 h3 hk'
 exact⟨hic,fun w hi=>(key hi.wf).2 w hi⟩
theorem Fe {F:FuncId->EP} (hF:aW F) {d:Nat} {f:FuncId} {args0:List AV} {H0:AH} {n0 m k:Nat} {s:List AV} (hs:s.all flat.flat1=true) (hsl:s.length=m*k) (h:ax F d f args0 H0 n0 fun u H' _=>FrG m k s u H')
 {vs:Array Value} {κ:PK} {K:KH} (hk':κ (.fr m k s) H n) (hr:HR φ H n h0 hp) (hk:ck φ h0 κ K) (hic:bW Tryz.prog f=true) {φ0:Ph} (hr0:Wf hp->HR φ0 H0 n0 hp hp) (hy:φ0.y=φ.z) (hargs:VRs φ0 args0 vs.toList):dj Tryz.prog f vs hp K:=
 Kr (an hF d f) hs hsl h hk' hr hk hic hr0 hy hargs
end
end Go.Proofs.YtflehenfikoniaaGreat
namespace Go.Proofs.YtflehenfikoniaaGreat
open Go Go.RowKit
mutual
def ren (r:Nat->Nat):AV->AV
 | .int k n=> .int k n
 | .str s=> .str s
 | .bool b=> .bool b
 | .nil=> .nil
 | .ptr b o=> .ptr (r b) o
 | .nsl=> .nsl
 | .sl b o n c k=> .sl (r b) o n c k
 | .esl b=> .esl (r b)
 | .agg l=> .agg (du r l)
 | .tup l=> .tup (du r l)
 | .fn f a c=> .fn f (du r a) (du r c)
 | .map b=> .map (r b)
 | .any v=> .any v
 | .bad=> .bad
 | .si k n=> .si k n
 | .sb b=> .sb b
 | .ss s=> .ss s
 | .sy b o n c k=> .sy (r b) o n c k
 | .rw b o n k x=> .rw (r b) o n k x
 | .fr n k l=> .fr n k l
 | .fa l o=> .fa l o
def du (r:Nat->Nat):List AV->List AV
 | []=> []
 |a::l=>ren r a::du r l
end
mutual
def ltV (m:Nat):AV->Bool
 | .int _ _=>true
 | .str _=>true
 | .bool _=>true
 | .nil=>true
 | .ptr b _=>Nat.blt b m
 | .nsl=>true
 | .sl b _ _ _ _=>Nat.blt b m
 | .esl b=>Nat.blt b m
 | .agg l=>jv m l
 | .tup l=>jv m l
 | .fn _ a c=>jv m a&&jv m c
 | .map b=>Nat.blt b m
 | .any _=>true
 | .bad=>true
 | .si _ _=>true
 | .sb _=>true
 | .ss _=>true
 | .sy b _ _ _ _=>Nat.blt b m
 | .rw b _ _ _ _=>Nat.blt b m
 | .fr _ _ _=>true
 | .fa _ _=>true
def jv (m:Nat):List AV->Bool
 | []=>true
 |a::l=>ltV m a&&jv m l
end
def Ph.pull (χ:Ph) (r:Nat->Nat):Ph:=⟨fun b=>χ (r b),χ.z,χ.y,fun b=>χ.s (r b)⟩
section
variable {χ ψ:Ph} {r:Nat->Nat} {m:Nat}
mutual
theorem VR.pull:∀(a:AV) (v:Value),VR χ (ren r a) v<->VR (χ.pull r) a v
 | .int k n,v=>by simp only[ren,VR]
 | .str s,v=>by simp only[ren,VR]
 | .bool b,v=>by simp only[ren,VR]
 | .nil,v=>by simp only[ren,VR]
 | .ptr b o,v=>by simp only[ren,VR,Ph.pull]
 | .nsl,v=>by simp only[ren,VR]
 | .sl b o n c k,v=>by simp only[ren,VR,Ph.pull]
 | .esl b,v=>by simp only[ren,VR,Ph.pull]
 | .agg l,v=>by simp only[ren,VR,VRs.pull l]
 | .tup l,v=>by simp only[ren,VR,VRs.pull l]
 | .fn f a c,v=>by simp only[ren,VR,VRs.pull a,VRs.pull c]
 | .map b,v=>by simp only[ren,VR,Ph.pull]
 | .any u,v=>by simp only[ren,VR]
 | .bad,v=>by simp only[ren,VR]
 | .si k n,v=>by simp only[ren,VR]
 | .sb b,v=>by simp only[ren,VR]
 | .ss s,v=>by simp only[ren,VR]
 | .sy b o n c k,v=>by simp only[ren,VR,Ph.pull]
 | .rw b o n k x,v=>by simp only[ren,VR,Ph.pull]
 | .fr n k l,v=>by simp only[ren,VR,Ph.pull]
 | .fa l o,v=>by simp only[ren,VR,Ph.pull]
theorem VRs.pull:∀(l:List AV) (vs:List Value),VRs χ (du r l) vs<->VRs (χ.pull r) l vs
 | [],vs=>by simp only[du,VRs]
 |a::l,vs=>by simp only[du,VRs,VR.pull a,VRs.pull l]
end
mutual
theorem VR.below (he:∀b p,b<m->ψ b=some p->χ b=some p) (hz:∀q,ψ.z q->χ.z q):∀(a:AV) (v:Value),ltV m a=true->VR ψ a v->VR χ a v
 | .int k n,v,_,h=>by simp only[VR]at h⊢;exact h
 | .str s,v,_,h=>by simp only[VR]at h⊢;exact h
 | .bool b,v,_,h=>by simp only[VR]at h⊢;exact h
 | .nil,v,_,h=>by simp only[VR]at h⊢;exact h
 | .ptr b o,v,hl,h=>by
  simp only[ltV,Nat.blt_eq]at hl;simp only[VR]at h⊢;obtain⟨p,h1,h2⟩:=h;exact⟨p,he _ _ hl h1,h2⟩
 | .nsl,v,_,h=>by simp only[VR]at h⊢;exact h
 | .sl b o n c k,v,hl,h=>by
  simp only[ltV,Nat.blt_eq]at hl;simp only[VR]at h⊢;obtain⟨p,C,h1,h2⟩:=h;exact⟨p,C,he _ _ hl h1,h2⟩
 | .esl b,v,hl,h=>by
  simp only[ltV,Nat.blt_eq]at hl;simp only[VR]at h⊢;obtain⟨p,x,C,h1,h2⟩:=h;exact⟨p,x,C,he _ _ hl h1,h2⟩
 | .agg l,v,hl,h=>by
  simp only[ltV]at hl;simp only[VR]at h⊢;obtain⟨cs,h1,h2⟩:=h;exact⟨cs,h1,VRs.below he hz l _ hl h2⟩
 | .tup l,v,hl,h=>by
  simp only[ltV]at hl;simp only[VR]at h⊢;obtain⟨cs,h1,h2⟩:=h;exact⟨cs,h1,VRs.below he hz l _ hl h2⟩
 | .fn f a c,v,hl,h=>by
  simp only[ltV,Bool.and_eq_true]at hl;simp only[VR]at h⊢;obtain⟨xs,cs,h1,h2,h3⟩:=h;exact⟨xs,cs,h1,VRs.below he hz a _ hl.1 h2,VRs.below he hz c _ hl.2 h3⟩
 | .map b,v,hl,h=>by
  simp only[ltV,Nat.blt_eq]at hl;simp only[VR]at h⊢;obtain⟨p,h1,h2⟩:=h;exact⟨p,he _ _ hl h1,h2⟩
 | .any u,v,_,h=>by simp only[VR]at h⊢;exact h
 | .bad,v,_,h=>by simp only[VR]
 | .si k n,v,_,h=>by simp only[VR]at h⊢;exact h
 | .sb b,v,_,h=>by simp only[VR]at h⊢;exact h
 | .ss s,v,_,h=>by simp only[VR]at h⊢;exact h
 | .sy b o n c k,v,hl,h=>by
  simp only[ltV,Nat.blt_eq]at hl;simp only[VR]at h⊢;obtain⟨p,C,h1,h2⟩:=h;exact⟨p,C,he _ _ hl h1,h2⟩
 | .rw b o n k x,v,hl,h=>by
  simp only[ltV,Nat.blt_eq]at hl;simp only[VR]at h⊢;rcases h with h|⟨p,a,C,h1,h2⟩
  ·exact .inl h
  ·exact .inr ⟨p,a,C,he _ _ hl h1,h2⟩
 | .fr n k l,v,_,h=>by
  simp only[VR]at h⊢;rcases h with h|⟨q,o,C,h1,h2⟩
  ·exact .inl h
  ·exact .inr ⟨q,o,C,hz _ h1,h2⟩
 | .fa l o,v,_,h=>by
  simp only[VR]at h⊢;obtain⟨q,x,h1,h2⟩:=h;exact⟨q,x,hz _ h1,h2⟩
theorem VRs.below (he:∀b p,b<m->ψ b=some p->χ b=some p) (hz:∀q,ψ.z q->χ.z q):∀(l:List AV) (vs:List Value),jv m l=true->VRs ψ l vs->VRs χ l vs
 | [],vs,_,h=>by simp only[VRs]at h⊢;exact h
 |a::l,vs,hl,h=>by
  simp only[jv,Bool.and_eq_true]at hl;simp only[VRs]at h⊢;obtain⟨v,us,h1,h2,h3⟩:=h;exact⟨v,us,h1,VR.below he hz a v hl.1 h2,VRs.below he hz l us hl.2 h3⟩
end
end
def wS (r:Nat->Nat):List (AV×AV)->List (AV×AV)
 | []=> []
 |e::es=>(ren r e.1,ren r e.2)::wS r es
def cx (r:Nat->Nat):AO->AO
 | .cells l z=> .cells (du r l) z
 | .map es=> .map (wS r es)
 | .mp es bs cl=> .mp (wS r es) bs cl
 | .ro l=> .ro (du r l)
 | .iter b m seen=> .iter (r b) m seen
 | .sep Q=> .sep Q
def ltE (m:Nat):List (AV×AV)->Bool
 | []=>true
 |e::es=>ltV m e.1&&(ltV m e.2&&ltE m es)
def ltO (m:Nat):AO->Bool
 | .cells l _=>jv m l
 | .map es=>ltE m es
 | .mp es _ _=>ltE m es
 | .ro l=>jv m l
 | .iter b _ _=>Nat.blt b m
 | .sep _=>true
section
variable {χ ψ:Ph} {r:Nat->Nat} {m:Nat}
theorem nX:∀l:List AV,(du r l).length=l.length
 | []=>rfl
 |a::l=>by simp[du,nX l]
theorem yX:∀(l:List AV) (i:Nat),(du r l)[i]?=(l[i]?).map (ren r)
 | [],i=>by simp[du]
 |a::l,0=>by simp[du]
 |a::l,i+1=>by simp[du,yX l i]
theorem Ks:∀{l:List AV},jv m l=true->∀{i:Nat} {a:AV},l[i]?=some a->ltV m a=true
 | [],_,i,a,h=>by simp at h
 |b::l,hl,i,a,h=>by
  simp only[jv,Bool.and_eq_true]at hl;cases i with
  |zero=>simp only[List.getElem?_cons_zero,Option.some.injEq]at h;subst h;exact hl.1
  |succ i=>exact Ks hl.2 (by simpa using h)
theorem CR.pull {c:Array Value} {s:Nat} {l:List AV}:CR χ c s (du r l)<->CR (χ.pull r) c s l:=by
 constructor
 ·intro h i a e;obtain⟨v,h1,h2⟩:=h i (ren r a) (by rw[yX,e];rfl);exact⟨v,h1,(VR.pull _ _).1 h2⟩
 ·intro h i a e;rw[yX,Option.map_eq_some_iff]at e;obtain⟨a',e1,rfl⟩:=e;obtain⟨v,h1,h2⟩:=h i a' e1;exact⟨v,h1,(VR.pull _ _).2 h2⟩
theorem CR.below (he:∀b p,b<m->ψ b=some p->χ b=some p) (hz:∀q,ψ.z q->χ.z q) {c:Array Value} {s:Nat} {l:List AV} (hl:jv m l=true) (h:CR ψ c s l):CR χ c s l:=fun i a e=>by
 obtain⟨v,h1,h2⟩:=h i a e;exact⟨v,h1,VR.below he hz a v (Ks hl e) h2⟩
theorem MR.pull:∀{es:List (AV×AV)} {ms:List MapEntry},MR χ (wS r es) ms<->MR (χ.pull r) es ms
 | [],ms=>Iff.rfl
 |e::es,ms=>by
  show(∃m us,_/\_/\_/\MR χ (wS r es) us)<->∃m us,_/\_/\_/\MR (χ.pull r) es us;simp only[MR.pull (es:=es),VR.pull]
theorem MR.below (he:∀b p,b<m->ψ b=some p->χ b=some p) (hz:∀q,ψ.z q->χ.z q):∀{es:List (AV×AV)} {ms:List MapEntry},ltE m es=true->MR ψ es ms->MR χ es ms
 | [],ms,_,h=>h
 |e::es,ms,hl,⟨x,us,h1,h2,h3,h4⟩=>by
  simp only[ltE,Bool.and_eq_true]at hl;exact⟨x,us,h1,VR.below he hz _ _ hl.1 h2,VR.below he hz _ _ hl.2.1 h3,MR.below he hz hl.2.2 h4⟩
theorem OR.pull {p:Pl} {o:AO} {ob:Obj}:OR χ p (cx r o) ob<->OR (χ.pull r) p o ob:=by
 cases o with
 |cells l z=>simp only[cx,OR,nX,CR.pull]
 |map es=>simp only[cx,OR,MR.pull]
 |mp es bs cl=>simp only[cx,OR,MR.pull]
 |iter b k seen=>exact Iff.rfl
 |ro l=>simp only[cx,OR,nX,CR.pull]
 |sep Q=>exact Iff.rfl
theorem OR.below (he:∀b p,b<m->ψ b=some p->χ b=some p) (hz:∀q,ψ.z q->χ.z q) {p:Pl} {o:AO} {ob:Obj} (hl:ltO m o=true) (h:OR ψ p o ob):OR χ p o ob:=by
 cases o with
 |cells l z=>obtain⟨c,t,fz,h1,h2,h3,h4,h5,h6⟩:=h;exact⟨c,t,fz,h1,h2,h3,h4,h5,h6.below he hz hl⟩
 |map es=>obtain⟨ms,cl,h1,h2,h3⟩:=h;exact⟨ms,cl,h1,MR.below he hz hl h2,h3⟩
 |mp es bs cl=>obtain⟨ms,h1,h2,h3⟩:=h;exact⟨ms,h1,MR.below he hz hl h2,h3⟩
 |iter b k seen=>
  obtain⟨h0,q,h1,h2⟩:=h;simp only[ltO,Nat.blt_eq]at hl;exact⟨h0,q,he _ _ hl h1,h2⟩
 |ro l=>obtain⟨c,t,fz,h1,h2,h3,h4⟩:=h;exact⟨c,t,fz,h1,h2,h3,h4.below he hz hl⟩
 |sep Q=>exact h.elim
theorem iF (o:AO):(cx r o).own=o.own:=by cases o<;>rfl
theorem jZ (o:AO):(cx r o).free=o.free:=by
 cases o with
 |cells l z=>cases l<;>rfl
 |map es=>rfl
 |mp _ _ _=>rfl
 |iter b k seen=>rfl
 |ro l=>cases l<;>rfl
 |sep Q=>rfl
theorem lT {o:AO} {Q:HP} (h:cx r o= .sep Q):o= .sep Q:=by cases o<;>first|exact h|cases h
theorem mS (o:AO) (ob:Obj):(cx r o).under ob=o.under ob:=by cases o<;>rfl
end
def bl (S:List Nat) (n b:Nat):Nat:=match S[b]? with
 |some s=>s
 |none=>n+(b-S.length)
def bH (O:List AO):Nat->List (Nat×AO)
 |k=>match O with
  | []=> []
  |o::O=>(k,o)::bH O (k+1)
theorem vk:∀{O:List AO} {k b:Nat} {o:AO},(b,o)∈bH O k->∃i,b=k+i/\O[i]?=some o
 | [],k,b,o,h=>by cases h
 |x::O,k,b,o,h=>by
  rcases List.mem_cons.1 (show(b,o)∈(k,x)::bH O (k+1) from h)with h|h
  ·injection h with h1 h2;subst h1 h2;exact⟨0,rfl,rfl⟩
  ·obtain⟨i,h1,h2⟩:=vk h;exact⟨i+1,by omega,h2⟩
theorem lU:∀{S:List Nat},S.Nodup->∀{i j a:Nat},S[i]?=some a->S[j]?=some a->i=j
 | [],_,i,j,a,h,_=>by simp at h
 |x::S,hn,i,j,a,h,k=>by
  obtain⟨h1,h2⟩:=List.nodup_cons.1 hn;cases i with
  |zero=>
   cases j with
   |zero=>rfl
   |succ j=>
    simp only[List.getElem?_cons_zero,Option.some.injEq,List.getElem?_cons_succ]at h k;subst h;exact absurd (List.mem_of_getElem? k) h1
  |succ i=>
   cases j with
   |zero=>
    simp only[List.getElem?_cons_zero,Option.some.injEq,List.getElem?_cons_succ]at h k;subst k;exact absurd (List.mem_of_getElem? h) h1
   |succ j=>
    simp only[List.getElem?_cons_succ]at h k;rw[lU h2 h k]
section
variable {φ ψ:Ph} {H H' H2:AH} {n n' m:Nat} {h0 hp g:Hp} {S:List Nat} {O:List AO}
def iL (H:AH) (n:Nat) (S:List Nat) (O:List AO):Prop:=S.Nodup/\S.length=O.length/\∀(i:Nat) s o,S[i]?=some s->O[i]?=some o->s<n/\H.get s=some (cx (bl S n) o)/\(o.void=false∨o.own=true)
theorem cu {i s:Nat} (h:S[i]?=some s):bl S n i=s:=by unfold bl;rw[h]
theorem fX {b:Nat} (h:S.length<=b):bl S n b=n+(b-S.length):=by unfold bl;rw[List.getElem?_eq_none h]
def Bj (φ:Ph) (S:List Nat) (O:List AO) (B:Nat):Prop:=(∃(i:Nat) (s:Nat) (o:AO) (p:Pl),S[i]?=some s/\O[i]?=some o/\o.own=true/\φ s=some p/\p.B=B)∨∃(i:Nat) (s:Nat) (Q:HP),S[i]?=some s/\O[i]?=some (.sep Q)/\φ.s s B
open Classical in
noncomputable def lX (φ:Ph) (S:List Nat) (O:List AO) (hp:Hp):Hp:=⟨fun B=>if Bj φ S O B then none else hp.f B,hp.n⟩
theorem HT {B:Nat} {o:Obj} (h:(lX φ S O hp).f B=some o):hp.f B=some o/\¬Bj φ S O B:=by
 unfold lX at h;dsimp only at h;split at h
 ·cases h
 ·rename_i q;exact⟨h,q⟩
theorem lf {B:Nat} (h:¬Bj φ S O B):(lX φ S O hp).f B=hp.f B:=by
 unfold lX;dsimp only;rw[if_neg h]
theorem HU {B:Nat} (h:(lX φ S O hp).f B=none):Bj φ S O B∨hp.f B=none:=by
 unfold lX at h;dsimp only at h;split at h
 ·rename_i q;exact .inl q
 ·exact .inr h
theorem iL.at (hh:iL H n S O) {i s:Nat} (hs:S[i]?=some s):∃o,O[i]?=some o/\s<n/\H.get s=some (cx (bl S n) o)/\(o.void=false∨o.own=true):=by
 have hlt:i<O.length:=by rw[<-hh.2.1];exact(List.getElem?_eq_some_iff.1 hs).1
 exact⟨O[i],List.getElem?_eq_getElem hlt,hh.2.2 i s O[i] hs (List.getElem?_eq_getElem hlt)⟩
theorem Bj.base (hr:HR φ H n h0 hp) (hh:iL H n S O) {B:Nat} (h:Bj φ S O B):h0.f B=none:=by
 rcases h with⟨i,s,o,p,h1,h2,h3,h4,rfl⟩|⟨i,s,Q,h1,h2,h3⟩
 ·obtain⟨_,h5,_⟩:=hh.2.2 i s o h1 h2;obtain⟨ob,h6,_⟩:=hr.of h5 h4;rw[mS,AO.bA h3]at h6;exact h6
 ·exact((hr.sep s Q (hh.2.2 i s _ h1 h2).2.1).2 B h3).1.2
theorem HR.small (hr:HR φ H n h0 hp) (hh:iL H n S O) (hw:Wf hp):HR ⟨fun b=>φ (bl S n b),φ.z,φ.z,fun b=>φ.s (bl S n b)⟩ (mkH (bH O 0)) S.length (lX φ S O hp) hp:=by
 have nlt:∀b p,φ (bl S n b)=some p->∃s,S[b]?=some s/\φ s=some p:=fun b p e=>by
  cases hb:S[b]? with
  |some s=>rw[cu hb]at e;exact⟨s,rfl,e⟩
  |none=>
   have hl:=List.getElem?_eq_none_iff.1 hb;rw[fX hl]at e;have:=(hr.dom _ _ e).1;omega
 have get:∀{b o},(mkH (bH O 0)).get b=some o->O[b]?=some o:=fun{b o} e=>by
  obtain⟨i,h1,h2⟩:=vk (b7 e);rw[show b=i by omega];exact h2
 have ofO:∀{b o},O[b]?=some o->∃s,S[b]?=some s:=fun{b o} e=>by
  have:=(List.getElem?_eq_some_iff.1 e).1;rw[<-hh.2.1]at this;exact⟨S[b],List.getElem?_eq_getElem this⟩
 refine⟨fun b p e=>?_,fun b o e=>?_,fun b b' o o' p p' e e' ho ho' hp1 hp2 hB=>?_,fun b o e=>?_,Nat.le_refl _,fun q hq=>⟨⟨FzR.mono (φ:=φ) (ψ:=⟨fun b=>φ (bl S n b),φ.z,φ.z,fun b=>φ.s (bl S n b)⟩) (fun _ h=>h) (hr.frz q hq).1.1,.inl hq⟩,fun b o p e ho hp1=>?_⟩,fun b Q e=>?_⟩;rotate_left 5
 ·have h1:=get e;obtain⟨s,h2⟩:=ofO h1;obtain⟨k1,k2⟩:=hr.sep s Q (hh.2.2 b s _ h2 h1).2.1;have es:(⟨fun b=>φ (bl S n b),φ.z,φ.z,fun b=>φ.s (bl S n b)⟩:Ph).s b=φ.s s:=by show φ.s (bl S n b)=_;rw[cu h2]
  rw[es];refine⟨k1,fun B hB=>?_⟩;obtain⟨g1,g2,g3,g4⟩:=k2 B hB;refine⟨⟨g1.1,?_⟩,fun b' o' p' e1 e2 e3=>?_,g3,fun b' Q' e1 e2 e3=>?_⟩
  ·unfold lX;dsimp only;rw[if_pos (.inr ⟨b,s,Q,h2,h1,hB⟩)]
  ·have f1:=get e1;obtain⟨s',f2⟩:=ofO f1;have e3:φ (bl S n b')=some p':=e3;rw[cu f2]at e3;exact g2 s' _ p' (hh.2.2 b' s' o' f2 f1).2.1 (by rw[iF];exact e2) e3
  ·have f1:=get e1;obtain⟨s',f2⟩:=ofO f1;have e3:φ.s (bl S n b') B:=e3;rw[cu f2]at e3;exact g4 s' Q' (hh.2.2 b' s' _ f2 f1).2.1 (fun q=>e2 (by subst q;exact lU hh.1 f2 h2)) e3
 ·obtain⟨s,h1,h2⟩:=nlt b p e;exact⟨(List.getElem?_eq_some_iff.1 h1).1,(hr.dom s p h2).2⟩
 ·have h1:=get e;obtain⟨s,h2⟩:=ofO h1;obtain⟨_,h4,h5⟩:=hh.2.2 b s o h2 h1;rcases hr.live s _ h4 with⟨hφ,hv⟩|⟨p,ob,h6,h7,h8,h9⟩
  ·exact .inl ⟨by show φ (bl S n b)=_;rw[cu h2];exact hφ,by rw[jZ]at hv;exact hv⟩
  ·refine .inr ⟨p,ob,by show φ (bl S n b)=_;rw[cu h2];exact h6,?_,h8,?_⟩
   ·rw[mS]at h7;by_cases ho:o.own=true
    ·rw[AO.bA ho];unfold lX;dsimp only;rw[if_pos (.inl ⟨b,s,o,p,h2,h1,ho,h6,rfl⟩)]
    ·rw[lf (fun hg=>?_),h8]
     ·cases o<;>first|(exact absurd rfl ho;done)|rfl
     ·have:=hg.base hr hh;rw[this]at h7;cases o<;>first|(exact absurd rfl ho;done)|cases h7
   ·have:=(OR.pull (χ:=φ) (r:=bl S n)).1 h9;exact OR.cO (φ:=φ.pull (bl S n)) (ψ:=⟨fun b=>φ (bl S n b),φ.z,φ.z,fun b=>φ.s (bl S n b)⟩) ⟨fun _ _ h=>h,fun _ h=>h⟩ this
 ·have h1:=get e;have h1':=get e';obtain⟨s,h2⟩:=ofO h1;obtain⟨s',h2'⟩:=ofO h1';have hp1:φ (bl S n b)=some p:=hp1;have hp2:φ (bl S n b')=some p':=hp2;rw[cu h2]at hp1;rw[cu h2']at hp2;have:=hr.inj s s' _ _ p p' (hh.2.2 b s o h2 h1).2.1 (hh.2.2 b' s' o' h2' h1').2.1 (by rw[iF];exact ho) (by rw[iF];exact ho') hp1 hp2 hB;subst this;exact lU hh.1 h2 h2'
 ·obtain⟨h1,_⟩:=HT e;exact⟨hw _ _ h1,h1⟩
 ·have h1:=get e;obtain⟨s,h2⟩:=ofO h1;have hp1:φ (bl S n b)=some p:=hp1;rw[cu h2]at hp1;exact(hr.frz q hq).2 s _ p (hh.2.2 b s o h2 h1).2.1 (by rw[iF];exact ho) hp1
def fq (S:List Nat) (n m:Nat) (H H' H2:AH):Prop:=∀b o,H2.get b=some o->(∃c o',c<m/\b=bl S n c/\H'.get c=some o'/\o'.own=true/\ltO m o'=true/\o=cx (bl S n) o')∨((b<n∨n+(m-S.length)<=b)/\H.get b=some o/\(b∈S->o.own=false))
open Classical in
noncomputable def phA (φ ψ:Ph) (S:List Nat) (n m:Nat):Ph:=⟨fun b=>if h:∃c,c<m/\bl S n c=b then ψ h.choose else if b<n then φ b else none,fun q=>φ.z q∨ψ.z q,φ.y,fun b=>if h:∃c,c<m/\bl S n c=b then ψ.s h.choose else φ.s b⟩
theorem Bk (hh:iL H n S O) {c d:Nat} (h:bl S n c=bl S n d):c=d:=by
 have lt:∀{i s},S[i]?=some s->s<n:=fun{i s} hs=>by
  obtain⟨_,_,h,_⟩:=hh.at hs;exact h
 cases hc:S[c]? with
 |some s=>
  cases hd:S[d]? with
  |some t=>
   rw[cu hc,cu hd]at h;subst h;exact lU hh.1 hc hd
  |none=>
   rw[cu hc,fX (List.getElem?_eq_none_iff.1 hd)]at h;have:=lt hc;omega
 |none=>
  have l1:=List.getElem?_eq_none_iff.1 hc;cases hd:S[d]? with
  |some t=>
   rw[cu hd,fX l1]at h;have:=lt hd;omega
  |none=>
   have l2:=List.getElem?_eq_none_iff.1 hd;rw[fX l1,fX l2]at h;omega
theorem iZ (hh:iL H n S O) {c:Nat} (hc:c<m):phA φ ψ S n m (bl S n c)=ψ c:=by
 have h:∃d,d<m/\bl S n d=bl S n c:=⟨c,hc,rfl⟩;show(if h:∃d,d<m/\bl S n d=bl S n c then ψ h.choose else _)=_;rw[dif_pos h,Bk hh h.choose_spec.2]
theorem yY (hh:iL H n S O) {c:Nat} (hc:c<m):(phA φ ψ S n m).s (bl S n c)=ψ.s c:=by
 have h:∃d,d<m/\bl S n d=bl S n c:=⟨c,hc,rfl⟩;show(if h:∃d,d<m/\bl S n d=bl S n c then ψ.s h.choose else _)=_;rw[dif_pos h,Bk hh h.choose_spec.2]
theorem rY (hh:iL H n S O) {b:Nat} (hb:b<n∨n+(m-S.length)<=b) (hS:b∉S):(phA φ ψ S n m).s b=φ.s b:=by
 have h:¬∃d,d<m/\bl S n d=b:=fun⟨d,h1,e⟩=>by
  cases hd:S[d]? with
  |some s=>rw[cu hd]at e;subst e;exact hS (List.mem_of_getElem? hd)
  |none=>
   have:=List.getElem?_eq_none_iff.1 hd;rw[fX this]at e;rcases hb with hb|hb<;>omega
 show(if h:∃d,d<m/\bl S n d=b then ψ.s h.choose else φ.s b)=_;rw[dif_neg h]
theorem Ff {b:Nat} (hb:b<n) (hS:b∉S):phA φ ψ S n m b=φ b:=by
 have h:¬∃d,d<m/\bl S n d=b:=fun⟨d,_,e⟩=>by
  cases hd:S[d]? with
  |some s=>rw[cu hd]at e;subst e;exact hS (List.mem_of_getElem? hd)
  |none=>rw[fX (List.getElem?_eq_none_iff.1 hd)]at e;omega
 show(if h:∃d,d<m/\bl S n d=b then ψ h.choose else _)=_;rw[dif_neg h,if_pos hb]
theorem Bl (hr:HR φ H n h0 hp) (hh:iL H n S O) {b:Nat} (hb:b<n∨n+(m-S.length)<=b) (hS:b∉S):phA φ ψ S n m b=φ b:=by
 rcases hb with hb|hb
 ·exact Ff hb hS
 ·have h:¬∃d,d<m/\bl S n d=b:=fun⟨d,h1,e⟩=>by
   cases hd:S[d]? with
   |some s=>rw[cu hd]at e;subst e;exact hS (List.mem_of_getElem? hd)
   |none=>
    have:=List.getElem?_eq_none_iff.1 hd;rw[fX this]at e;omega
  show(if h:∃d,d<m/\bl S n d=b then ψ h.choose else if b<n then φ b else none)=_;rw[dif_neg h,if_neg (by omega)];cases e:φ b with
  |none=>rfl
  |some p=>have:=(hr.dom b p e).1;omega
theorem Kt (hr:HR φ H n h0 hp) (hh:iL H n S O) (hm:S.length<=m) (hle:PLe ⟨fun b=>φ (bl S n b),φ.z,φ.z,fun b=>φ.s (bl S n b)⟩ ψ):PLe φ (phA φ ψ S n m):=by
 refine⟨fun b p e=>?_,fun _ h=> .inl h,fun _ h=>h⟩;have hb:=(hr.dom b p e).1;by_cases hS:b∈S
 ·obtain⟨i,hi,rfl⟩:=List.mem_iff_getElem.1 hS;have hi2:S[i]?=some S[i]:=List.getElem?_eq_getElem hi;have:=iZ (φ:=φ) (ψ:=ψ) (m:=m) hh (c:=i) (by omega);rw[cu hi2]at this;rw[this];exact hle.b i p (by show φ (bl S n i)=_;rw[cu hi2];exact e)
 ·rw[Ff hb hS];exact e
theorem HR.after (hr:HR φ H n h0 hp) (hh:iL H n S O) (hm:S.length<=m) (hle:PLe ⟨fun b=>φ (bl S n b),φ.z,φ.z,fun b=>φ.s (bl S n b)⟩ ψ) (hg:HR ψ H' n' (lX φ S O hp) g) (ha:fq S n m H H' H2):HR (phA φ ψ S n m) H2 (n+(m-S.length)) h0 g:=by
 have hple:=Kt (m:=m) hr hh hm hle
 have pull:∀b p,b<m->ψ b=some p->(phA φ ψ S n m).pull (bl S n) b=some p:=fun b p hb e=>by
  show phA φ ψ S n m (bl S n b)=_;rw[iZ hh hb];exact e
 have hn0:∀B,(lX φ S O hp).f B=none->h0.f B=none:=fun B e=>by
  rcases HU e with h|h
  ·exact h.base hr hh
  ·cases q:h0.f B with
   |none=>rfl
   |some o=>have:=(hr.base B o q).2;rw[h]at this;cases this
 have old:∀{b o p},(b<n∨n+(m-S.length)<=b)->H.get b=some o->(b∈S->o.own=false)->φ b=some p->∃ob,h0.f p.B=o.under ob/\hp.f p.B=some ob/\¬Bj φ S O p.B/\OR φ p o ob:=fun{b o p} hb e hS hp1=>by
  obtain⟨ob,h1,h2,h3⟩:=hr.of e hp1;refine⟨ob,h1,h2,fun hgn=>?_,h3⟩;by_cases ho:o.own=true
  ·rcases hgn with⟨i,s,o',p',g1,g2,g3,g4,g5⟩|⟨i,s,Q,g1,g2,g3⟩
   ·have:=hr.inj s b _ o p' p (hh.2.2 i s o' g1 g2).2.1 e (by rw[iF];exact g3) ho g4 hp1 g5;subst this;have:=hS (List.mem_of_getElem? g1);rw[this]at ho;cases ho
   ·exact((hr.sep s Q (hh.2.2 i s _ g1 g2).2.1).2 _ g3).2.1 b o p e ho hp1 rfl
  ·have:=hgn.base hr hh;rw[this]at h1;cases o<;>first|(exact absurd rfl ho;done)|cases h1
 have oldP:∀{b o},(b<n∨n+(m-S.length)<=b)->H.get b=some o->(b∈S->o.own=false)->∀p,phA φ ψ S n m b=some p->o.own=true∨φ b≠none->φ b=some p:=fun{b o} hb e hS p hp1 hq=>by
  by_cases hbS:b∈S
  ·have hf:=hS hbS;rcases hq with hq|hq
   ·rw[hf]at hq;cases hq
   ·cases hφ:φ b with
    |none=>exact absurd hφ hq
    |some q=>
     have:=hple.b b q hφ;rw[hp1]at this;rw[this]
  ·rw[Bl hr hh hb hbS]at hp1;exact hp1
 have oldS:∀{b Q B},H.get b=some (.sep Q)->b∉S->φ.s b B->∃ob,hp.f B=some ob/\(lX φ S O hp).f B=some ob:=fun{b Q B} e hS hB=>by
  obtain⟨k1,k2⟩:=hr.sep b Q e;obtain⟨ob,h1⟩:=Q.ex _ _ _ B k1 hB;obtain⟨_,g2,_,g4⟩:=k2 B hB;refine⟨ob,h1,?_⟩;rw[lf (fun hgn=>?_)]
  ·exact h1
  ·rcases hgn with⟨i,s,o',p',f1,f2,f3,f4,f5⟩|⟨i,s,Q',f1,f2,f3⟩
   ·exact g2 s _ p' (hh.2.2 i s o' f1 f2).2.1 (by rw[iF];exact f3) f4 f5
   ·exact g4 s Q' (hh.2.2 i s _ f1 f2).2.1 (fun q=>hS (by rw[<-q];exact List.mem_of_getElem? f1)) f3
 have sepS:∀{b:Nat} {Q:HP},(b∈S->(AO.sep Q).own=false)->b∉S:=fun h q=>by cases h q
 refine⟨fun b p e=>?_,fun b o e=>?_,fun b b' o o' p p' e e' ho ho' hp1 hp2 hB=>?_,fun b o e=>?_,Nat.le_trans hr.size hg.size,fun q hq=>?_,fun b Q e=>?_⟩;rotate_left 5
 ·rcases ha b _ e with⟨c,o',hc,rfl,h1,h2,h3,h4⟩|⟨hb,h1,h2⟩
  ·have h4:=lT h4.symm;subst h4;obtain⟨k1,k2⟩:=hg.sep c Q h1;rw[yY hh hc];refine⟨Q.mono _ _ _ _ (fun q hq=>Or.inr hq) k1,fun B hB=>?_⟩;obtain⟨g1,g2,g3,g4⟩:=k2 B hB;refine⟨⟨g1.1,hn0 B g1.2⟩,fun b' o' p' e1 e2 e3=>?_,fun q hq=>?_,fun b' Q' e1 e2 e3=>?_⟩
   ·rcases ha b' o' e1 with⟨d,x,hd,rfl,f1,f2,f3,rfl⟩|⟨hb',f1,f2⟩
    ·rw[iZ hh hd]at e3;exact g2 d x p' f1 f2 e3
    ·intro q;obtain⟨ob,j1,j2,j3,_⟩:=old hb' f1 f2 (oldP hb' f1 f2 p' e3 (.inl e2));rw[<-q,lf j3,j2]at g1;cases g1.2
   ·rcases hq with hq|hq
    ·exact g3 q (hle.z q hq)
    ·exact g3 q hq
   ·rcases ha b' _ e1 with⟨d,x,hd,rfl,f1,f2,f3,f4⟩|⟨hb',f1,f2⟩
    ·have f4:=lT f4.symm;subst f4;rw[yY hh hd]at e3;exact g4 d Q' f1 (fun q=>e2 (by rw[q])) e3
    ·have hS':=sepS f2;rw[rY hh hb' hS']at e3;obtain⟨ob,_,j2⟩:=oldS f1 hS' e3;rw[j2]at g1;cases g1.2
  ·have hS:=sepS h2;obtain⟨k1,k2⟩:=hr.sep b Q h1;rw[rY hh hb hS]
   have keepB:∀B,φ.s b B->g.f B=hp.f B:=fun B hB=>by
    obtain⟨ob,j1,j2⟩:=oldS h1 hS hB;rw[j1];exact(hg.base _ _ j2).2
   refine⟨Q.mono _ _ _ _ (fun q hq=>Or.inl hq) (Q.loc _ _ hp _ (show hp.n<=g.n from hg.size) keepB k1),fun B hB=>?_⟩;obtain⟨g1,g2,g3,g4⟩:=k2 B hB;obtain⟨ob,j1,j2⟩:=oldS h1 hS hB;have hsz:hp.n<=g.n:=hg.size;refine⟨⟨Nat.lt_of_lt_of_le g1.1 hsz,g1.2⟩,fun b' o' p' e1 e2 e3=>?_,fun q hq=>?_,fun b' Q' e1 e2 e3=>?_⟩
   ·rcases ha b' o' e1 with⟨d,x,hd,rfl,f1,f2,f3,rfl⟩|⟨hb',f1,f2⟩
    ·rw[iZ hh hd]at e3;intro q;obtain⟨ob',f4,_⟩:=hg.of f1 e3;rw[AO.bA f2,q,j2]at f4;cases f4
    ·exact g2 b' o' p' f1 e2 (oldP hb' f1 f2 p' e3 (.inl e2))
   ·rcases hq with hq|hq
    ·exact g3 q hq
    ·intro q2;rcases(hg.frz q hq).1.2 with k|k
     ·exact g3 q (hle.y q k) q2
     ·rw[q2,j2]at k;cases k
   ·rcases ha b' _ e1 with⟨d,x,hd,rfl,f1,f2,f3,f4⟩|⟨hb',f1,f2⟩
    ·have f4:=lT f4.symm;subst f4;rw[yY hh hd]at e3;have:=((hg.sep d Q' f1).2 B e3).1.2;rw[j2]at this;cases this
    ·rw[rY hh hb' (sepS f2)]at e3;exact g4 b' Q' f1 e2 e3
 ·have e:(if h:∃c,c<m/\bl S n c=b then ψ h.choose else if b<n then φ b else none)=some p:=e;split at e
  ·rename_i h;obtain⟨h1,h2⟩:=h.choose_spec;refine⟨?_,(hg.dom _ _ e).2⟩;generalize h.choose=c at h1 h2;cases hc:S[c]? with
   |some s=>rw[cu hc]at h2;obtain⟨_,_,h3,_⟩:=hh.at hc;omega
   |none=>
    have:=List.getElem?_eq_none_iff.1 hc;rw[fX this]at h2;omega
  ·split at e
   ·have:=hr.dom b p e;have hsz:hp.n<=g.n:=hg.size;omega
   ·cases e
 ·rcases ha b o e with⟨c,o',hc,rfl,h1,h2,h3,rfl⟩|⟨hb,h1,h2⟩
  ·rcases hg.live c o' h1 with⟨h4,h5⟩|⟨p,ob,h4,h5,h6,h7⟩
   ·exact .inl ⟨by rw[iZ hh hc];exact h4,by rw[jZ];exact h5⟩
   ·refine .inr ⟨p,ob,by rw[iZ hh hc];exact h4,?_,h6,?_⟩
    ·rw[mS,AO.bA h2];rw[AO.bA h2]at h5;exact hn0 _ h5
    ·exact(OR.pull (χ:=phA φ ψ S n m)).2 (h7.below (m:=m) pull (fun _ h=> .inr h) h3)
  ·rcases hr.live b o h1 with⟨h3,h4⟩|⟨p,ob,h3,_⟩
   ·by_cases hbS:b∈S
    ·obtain⟨i,hi,rfl⟩:=List.mem_iff_getElem.1 hbS;obtain⟨o',g1,_,g2,g3⟩:=hh.at (List.getElem?_eq_getElem hi);rw[h1]at g2;injection g2 with g2;rcases g3 with g3|g3
     ·have q:=h2 hbS;rw[g2]at h4 q;rw[jZ]at h4;rw[iF]at q;cases o' with
      |sep Q=>cases q
      |cells l z=>rw[show(AO.cells l z).free=(AO.cells l z).void from rfl,g3]at h4;cases h4
      |ro l=>rw[show(AO.ro l).free=(AO.ro l).void from rfl,g3]at h4;cases h4
      |map es=>cases h4
      |mp _ _ _=>cases h4
      |iter _ _ _=>cases h4
     ·have:=h2 hbS;rw[g2,iF,g3]at this;cases this
    ·exact .inl ⟨by rw[Bl hr hh hb hbS];exact h3,h4⟩
   ·obtain⟨ob,h4,h5,h6,h7⟩:=old hb h1 h2 h3;exact .inr ⟨p,ob,hple.b b p h3,h4,(hg.base _ _ (by rw[lf h6];exact h5)).2,h7.mono hple⟩
 ·rcases ha b o e with⟨c,x,hc,rfl,h1,h2,h3,rfl⟩|⟨hb,h1,h2⟩<;>rcases ha b' o' e' with⟨d,y,hd,rfl,k1,k2,k3,rfl⟩|⟨hb',k1,k2⟩
  ·rw[iZ hh hc]at hp1;rw[iZ hh hd]at hp2;rw[hg.inj c d x y p p' h1 k1 h2 k2 hp1 hp2 hB]
  ·exfalso;rw[iZ hh hc]at hp1;have hp2':=oldP hb' k1 k2 p' hp2 (.inl ho');obtain⟨ob,g1,g2,g3,_⟩:=old hb' k1 k2 hp2';obtain⟨ob',g4,_⟩:=hg.of h1 hp1;rw[AO.bA h2,hB,lf g3,g2]at g4;cases g4
  ·exfalso;rw[iZ hh hd]at hp2;have hp1':=oldP hb h1 h2 p hp1 (.inl ho);obtain⟨ob,g1,g2,g3,_⟩:=old hb h1 h2 hp1';obtain⟨ob',g4,_⟩:=hg.of k1 hp2;rw[AO.bA k2,<-hB,lf g3,g2]at g4;cases g4
  ·exact hr.inj b b' o o' p p' h1 k1 ho ho' (oldP hb h1 h2 p hp1 (.inl ho)) (oldP hb' k1 k2 p' hp2 (.inl ho')) hB
 ·obtain⟨_,h1⟩:=hr.base b o e;have h2:¬Bj φ S O b:=fun hgn=>by rw[hgn.base hr hh]at e;cases e
  exact hg.base b o (by rw[lf h2];exact h1)
 ·rcases hq with hq|hq
  ·obtain⟨⟨h1,h2⟩,h3⟩:=hr.frz q hq;have hψ:ψ.z q:=hle.z q hq;obtain⟨⟨k1,k2⟩,k3⟩:=hg.frz q hψ;refine⟨⟨FzR.mono (φ:=ψ) (ψ:=phA φ ψ S n m) (fun _ h=>Or.inr h) k1,h2⟩,fun b o p e ho hp1=>?_⟩;rcases ha b o e with⟨c,x,hc,rfl,g1,g2,g3,rfl⟩|⟨hb,g1,g2⟩
   ·rw[iZ hh hc]at hp1;exact k3 c x p g1 g2 hp1
   ·exact h3 b o p g1 ho (oldP hb g1 g2 p hp1 (.inl ho))
  ·obtain⟨⟨k1,k2⟩,k3⟩:=hg.frz q hq;refine⟨⟨FzR.mono (φ:=ψ) (ψ:=phA φ ψ S n m) (fun _ h=>Or.inr h) k1,?_⟩,fun b o p e ho hp1=>?_⟩
   ·rcases k2 with k2|k2
    ·exact(hr.frz q (hle.y q k2)).1.2
    ·exact .inr (hn0 _ k2)
   ·rcases ha b o e with⟨c,x,hc,rfl,g1,g2,g3,rfl⟩|⟨hb,g1,g2⟩
    ·rw[iZ hh hc]at hp1;exact k3 c x p g1 g2 hp1
    ·have hp1':=oldP hb g1 g2 p hp1 (.inl ho);obtain⟨ob,j1,j2,j3,_⟩:=old hb g1 g2 hp1';rcases k2 with k2|k2
     ·exact(hr.frz q (hle.y q k2)).2 b o p g1 ho hp1'
     ·intro hB;rw[<-hB,lf j3,j2]at k2;cases k2
end
noncomputable def jI (S:List Nat) (n:Nat) (H:AH):List (Nat×Option AO)->AH
 | []=>H
 |x::l=>(jI S n H l).set (x.2.map (cx (bl S n))) aa (bl S n x.1)
theorem Bm {S:List Nat} {n:Nat} {H:AH}:∀{l:List (Nat×Option AO)} {b:Nat} {o:AO},(jI S n H l).get b=some o->(∃x∈l,∃o',b=bl S n x.1/\x.2=some o'/\o=cx (bl S n) o')∨(H.get b=some o/\∀x∈l,b≠bl S n x.1)
 | [],b,o,h=> .inr ⟨h,fun x hx=>by cases hx⟩
 |x::l,b,o,h=>by
  rcases PM.aj aa _ _ b o (show((jI S n H l).set (x.2.map (cx (bl S n))) aa (bl S n x.1)).get b=some o from h)with⟨h1,h2⟩|⟨h1,h2⟩
  ·rw[Option.map_eq_some_iff]at h2;obtain⟨o',h3,h4⟩:=h2;exact .inl ⟨x,List.mem_cons_self,o',h1,h3,h4.symm⟩
  ·rcases Bm h2 with⟨y,h3,h4⟩|⟨h3,h4⟩
   ·exact .inl ⟨y,List.mem_cons_of_mem _ h3,h4⟩
   ·refine .inr ⟨h3,fun y hy=>?_⟩;rcases List.mem_cons.1 hy with rfl|hy
    ·exact h1
    ·exact h4 y hy
theorem fq.put {S:List Nat} {n m:Nat} {H H':AH} {l:List (Nat×Option AO)} (hm:S.length<=m) (hl:l.map (·.1)=List.range m) (h:∀x∈l,∀o,x.2=some o->H'.get x.1=some o/\o.own=true/\ltO m o=true):fq S n m H H' (jI S n H l):=fun b o e=>by
 rcases Bm e with⟨x,h1,o',h2,h3,h4⟩|⟨h1,h2⟩
 ·obtain⟨k1,k2,k3⟩:=h x h1 o' h3;have:x.1∈List.range m:=hl▸List.mem_map.2 ⟨x,h1,rfl⟩;exact .inl ⟨x.1,o',List.mem_range.1 this,h2,k1,k2,k3,h4⟩
 ·have key:∀c,c<m->b≠bl S n c:=fun c hc=>by
   have:c∈l.map (·.1):=hl▸List.mem_range.2 hc;obtain⟨x,h3,rfl⟩:=List.mem_map.1 this;exact h2 x h3
  refine .inr ⟨?_,h1,fun hS=>?_⟩
  ·by_cases q:b<n
   ·exact .inl q
   ·refine .inr ?_;rcases Nat.lt_or_ge b (n+(m-S.length))with q2|q2
    ·exfalso;refine key (S.length+(b-n)) (by omega) ?_;rw[fX (by omega)];omega
    ·exact q2
  ·obtain⟨i,hi,rfl⟩:=List.mem_iff_getElem.1 hS;exact absurd (cu (n:=n) (List.getElem?_eq_getElem hi)).symm (key i (by omega))
theorem fq.same {S:List Nat} {n:Nat} {H H':AH} (h:∀(i s:Nat) o,S[i]?=some s->H.get s=some o->o.own=true->∃o',H'.get i=some o'/\o'.own=true/\ltO S.length o'=true/\o=cx (bl S n) o'):fq S n S.length H H' H:=fun b o e=>by
 by_cases hb:b∈S
 ·obtain⟨i,hi,rfl⟩:=List.mem_iff_getElem.1 hb;by_cases ho:o.own=true
  ·obtain⟨o',h1,h2,h3,h4⟩:=h i S[i] o (List.getElem?_eq_getElem hi) e ho;exact .inl ⟨i,o',hi,(cu (List.getElem?_eq_getElem hi)).symm,h1,h2,h3,h4⟩
  ·exact .inr ⟨by omega,e,fun _=>by simpa using ho⟩
 ·exact .inr ⟨by omega,e,fun h=>absurd h hb⟩
theorem dy {f:FuncId} {run:List AV->AH->Nat->PK->Prop} (hrun:ai f run) {φ:Ph} {H:AH} {n:Nat} {h0 hp:Hp} {S:List Nat} {O:List AO} {args0:List AV} {κ:PK} {K:KH} {vs:Array Value} (hic:bW Tryz.prog f=true)
 (hr:HR φ H n h0 hp) (hh:iL H n S O) (hargs:VRs φ (du (bl S n) args0) vs.toList) (hk:ck φ h0 κ K)
 {Q:PK} (h:run args0 (mkH (bH O 0)) S.length Q) (hQ:∀u H' n',Q u H' n'->∃m H2,S.length<=m/\fq S n m H H' H2/\ltV m u=true/\κ (ren (bl S n) u) H2 (n+(m-S.length))):dj Tryz.prog f vs hp K:=by
 have key:Wf hp->dj Tryz.prog f vs hp K:=fun hw=>hrun args0 _ _ _ h ⟨fun b=>φ (bl S n b),φ.z,φ.z,fun b=>φ.s (bl S n b)⟩ (lX φ S O hp) hp vs K (hr.small hh hw) (VRs.cO (φ:=φ.pull (bl S n)) (ψ:=⟨fun b=>φ (bl S n b),φ.z,φ.z,fun b=>φ.s (bl S n b)⟩) ⟨fun _ _ h=>h,fun _ h=>h⟩ _ _ ((VRs.pull (χ:=φ) (r:=bl S n) args0 vs.toList).1 hargs)) fun ψ u H' n' w g hle hg hu hq=>by
  obtain⟨m,H2,hm,ha,hl,hκ⟩:=hQ u H' n' hq
  exact hk _ _ _ _ w g (Kt hr hh hm hle) (hr.after hh hm hle hg ha) ((VR.pull (χ:=phA φ ψ S n m) u w).2 (VR.below (ψ:=ψ) (m:=m) (fun b p hb e=>by
   show phA φ ψ S n m (bl S n b)=_;rw[iZ hh hb];exact e) (fun _ h=>Or.inr h) u w hl hu)) hκ
 exact⟨hic,fun w hi=>(key hi.wf).2 w hi⟩
theorem HR.Qh {φ:Ph} {H:AH} {n:Nat} {h0 h:Hp} (hr:HR φ H n h0 h) {b:Nat} {o o':AO} (hb:H.get b=some o) (hown:o.own=true) (hown':o'.own=true) (hv:o.free=true->o'.free=true) (ho:∀p ob,φ b=some p->h.f p.B=some ob->OR φ p o ob->OR φ p o' ob) (hns:o'.Hq=none:=by rfl):HR φ (H.set (some o') aa b) n h0 h:=by
 have back:∀z r,(H.set (some o') aa b).get z=some r->r.own=true->∃r',H.get z=some r'/\r'.own=true:=fun z r hz hw2=>by
  rcases PM.aj aa H b z r hz with⟨rfl,_⟩|⟨_,h2⟩
  ·exact⟨o,hb,hown⟩
  ·exact⟨r,h2,hw2⟩
 refine⟨hr.dom,fun x q hx=>?_,fun x y q q' px py hx hy hwx hwy hpx hpy e=>?_,hr.base,hr.size,fun q hq=>⟨(hr.frz q hq).1,fun y oy py hy hwy hpy=>?_⟩,hr.b9 (Nat.le_refl _) (fun x Q hx=>?_) (fun _ h=>h) (fun _ h=> .inl h) (fun _ _ _ _ _=>rfl) fun b' o1 p' e1 e2 e3=>?_⟩;rotate_left 3
 ·rcases PM.aj aa H b x _ hx with⟨_,h2⟩|⟨_,h2⟩
  ·injection h2 with h2;subst h2;cases hns
  ·exact⟨h2,rfl⟩
 ·obtain⟨r,h1,h2⟩:=back b' o1 e1 e2;exact .inl ⟨b',r,p',h1,h2,e3,rfl⟩
 ·rcases PM.aj aa H b x q hx with⟨rfl,h2⟩|⟨h1,h2⟩
  ·injection h2 with h2;subst h2;rcases hr.live x o hb with⟨h3,h4⟩|⟨p,ob,h3,h4,h5,h6⟩
   ·exact .inl ⟨h3,hv h4⟩
   ·exact .inr ⟨p,ob,h3,by rw[AO.bA hown'];rw[AO.bA hown]at h4;exact h4,h5,ho p ob h3 h5 h6⟩
  ·exact hr.live x q h2
 ·obtain⟨r,hr1,hr3⟩:=back x q hx hwx;obtain⟨r',hr2,hr4⟩:=back y q' hy hwy;exact hr.inj x y r r' px py hr1 hr2 hr3 hr4 hpx hpy e
 ·obtain⟨r,hr1,hr3⟩:=back y oy hy hwy;exact(hr.frz q hq).2 y r py hr1 hr3 hpy
theorem HR.Ku {φ:Ph} {H:AH} {n:Nat} {h0 h:Hp} (hr:HR φ H n h0 h) {b:Nat} {l l':List AV} {z:Bool} (hb:H.get b=some (.cells l z)) (hl:l'.length=l.length) (hc:∀(i:Nat) (a':AV),l'[i]?=some a'->∃a,l[i]?=some a/\∀v,VR φ a v->VR φ a' v):HR φ (H.set (some (.cells l' z)) aa b) n h0 h:=
 hr.Qh hb rfl rfl (fun q=>by cases l with
  |nil=>cases l' with
   |nil=>rfl
   |cons _ _=>simp at hl
  |cons _ _=>cases q) fun p ob _ _ ⟨c,t,fz,h1,h2,h3,h4,h5,h6⟩=>⟨c,t,fz,h1,by rw[hl];exact h2,h3,h4,h5,fun i a' hi=>by
   obtain⟨a,h7,h8⟩:=hc i a' hi;obtain⟨v,h9,h10⟩:=h6 i a h7;exact⟨v,h9,h8 v h10⟩⟩
end Go.Proofs.YtflehenfikoniaaGreat
namespace Go.Proofs.YtflehenfikoniaaGreat
open Go Go.RowKit Go.ChangeShapes Go.WideShapes
section
variable {H:Type} {enc:TypeId×Value->H} {P:Program} {W:World} {held:Bool}
theorem DK {t e:TypeId} {ks:List Kd} {d c fuel:Nat} {v:Value} {D:DataW H} {ps:List MemPlace} (ht:P.underlying t=some (.slice e)) (hk:yW P d e=some ks) (hc:ks.length=c) (hc2:P.cellsOf e=c) (hc0:c≠0)
 (hf:DataW.trod enc P W 0 (fun _=>true) held fuel t [v]=some (D,ps)):∃(rows:List (List Value)),(∀r∈rows,jO (TrS enc P W 0 (fun _=>true) held) ks r/\r.length=c)/\(rows=[]∨∃E F,D= .slice ((List.range rows.length).map F) E)/\rows.length<=maxLen/\
  ((rows=[]/\∃a C,v= .slice a 0 C/\(a=none->C=0))∨∃b off cap cc u fz,v= .slice (some ⟨b,off,none⟩) rows.length cap/\rows.length<=cap/\W.heap[b]?=some (.cells cc u fz)/\off+rows.length*c<=cc.size/\∀i a,rows.flatten[i]?=some a->cc[off+i]?=some a):=by
 rcases Go.Deep.open_slice ht hf with⟨h0,h1⟩|⟨a,len,cap,m,n,Df,Pf,h1,_,hl,hm,hmm,hx,hel⟩
 ·injection h0 with h0;subst h0;exact⟨[],(fun r h=>by cases h),.inl rfl,Nat.zero_le _,.inl ⟨rfl,none,0,rfl,fun _=>rfl⟩⟩
 ·injection h1 with h1;subst h1;have hmc:m=cap:=hmm;subst hmc;by_cases hcap:len=0
  ·subst hcap;exact⟨[],(fun r h=>by cases h),.inl rfl,Nat.zero_le _,.inl ⟨rfl,some a,m,rfl,fun q=>by cases q⟩⟩
  ·have hcells:∀i,i<m->∃cs',cs'.length=c/\jO (TrS enc P W 0 (fun _=>true) held) ks cs'/\∀q,q<c->W.cell? ((a.add (i*c)).add q)=cs'[q]?:=fun i hi=>by
    obtain⟨cs',g1,g2⟩:=hel i hi;rw[hc2]at g1;obtain⟨_,g3,g4⟩:=World.cells?_some g1;exact⟨cs',g3,qL d e ks n cs' _ hk g2,fun q hq=>g4 q hq⟩
   obtain⟨R,hR⟩:=Go.Deep.choose_lt hcells
   have hspot:a.spot=none/\∃cc u fz,W.heap[a.block]?=some (.cells cc u fz):=by
    obtain⟨g1,_,g3⟩:=hR 0 (by omega);have g4:=g3 0 (by omega);rw[List.getElem?_eq_getElem (by omega)]at g4;obtain⟨cc,u,fz,g5,g6,_⟩:=Kq g4;have e0:(a.add (0*c)).add 0=a:=by simp[Addr.add]
    rw[e0]at g5 g6;exact⟨g6,cc,u,fz,g5⟩
   obtain⟨hs,cc,u,fz,hb⟩:=hspot;obtain⟨b,off,sp⟩:=a;simp only at hs hb;subst hs
   have hget:∀i q,i<m->q<c->cc[off+i*c+q]?=(R i)[q]?:=fun i q hi hq=>by
    have g:=(hR i hi).2.2 q hq;have e0:((⟨b,off,none⟩:Addr).add (i*c)).add q=(⟨b,off,none⟩:Addr).add (i*c+q):=Go.Deep.add_add _ _ _;rw[e0,List.getElem?_eq_getElem (by rw[(hR i hi).1];exact hq)]at g;have:=NB hb g;rw[Nat.add_assoc,this,List.getElem?_eq_getElem (by rw[(hR i hi).1];exact hq)]
   have hrl:((List.range len).map R).length=len:=by simp
   have hmem:∀r∈(List.range len).map R,∃i,i<len/\r=R i:=fun r hr=>by
    simp only[List.mem_map,List.mem_range]at hr;obtain⟨i,hi,rfl⟩:=hr;exact⟨i,hi,rfl⟩
   have hrc:∀r∈(List.range len).map R,r.length=c:=fun r hr=>by
    obtain⟨i,hi,rfl⟩:=hmem r hr;exact(hR i (by omega)).1
   have hfl:=Bi _ hrc;rw[hrl]at hfl;refine⟨(List.range len).map R,fun r hr=>⟨?_,hrc r hr⟩,.inr ?_,?_,.inr ⟨b,off,m,cc,u,fz,by rw[hrl],by rw[hrl];exact hl,hb,?_,fun i a hi=>?_⟩⟩
   ·obtain⟨i,hi,rfl⟩:=hmem r hr;exact(hR i (by omega)).2.1
   ·injection hx with hx _;exact⟨_,Df,by rw[hrl];exact hx⟩
   ·rw[hrl];omega
   ·rw[hrl];have g:=hget (len-1) (c-1) (by omega) (by omega);rw[List.getElem?_eq_getElem (by rw[(hR _ (by omega)).1];omega)]at g;have:=(Array.getElem?_eq_some_iff.1 g).1;have e1:(len-1)*c+c=len*c:=by rw[<-Nat.succ_mul];congr 1;omega
    omega
   ·have hi2:=(List.getElem?_eq_some_iff.1 hi).1;rw[hfl]at hi2;have h0:=Nat.div_add_mod i c;have hq:=Nat.mod_lt i (Nat.pos_of_ne_zero hc0);have hj:i/c<len:=(Nat.div_lt_iff_lt_mul (Nat.pos_of_ne_zero hc0)).2 hi2;have ei:i=i/c*c+i%c:=by rw[Nat.mul_comm];omega
    rw[ei,Fb _ hrc _ _ hq]at hi;have e2:((List.range len).map R)[i/c]?=some (R (i/c)):=by simp[hj]
    rw[e2,Option.bind_some]at hi;have:=hget (i/c) (i%c) (by omega) hq;rw[hi,Nat.add_assoc,<-ei]at this;exact this
def phF (z:Fz->Prop):Ph:=⟨fun _=>none,z,z,fun _ _=>False⟩
def rZ (W:World) (z:Fz->Prop):Prop:=∀q,z q->FzR (phF z) (gH W) q
theorem rZ.none:rZ W fun _=>False:=fun _ h=>h.elim
theorem HR.frs {z:Fz->Prop} (h:rZ W z):HR (phF z) .nil 0 (gH W) (gH W):=
 ⟨fun _ _ h=>(by cases h),fun _ _ h=>(by cases h),fun _ _ _ _ _ _ h=>(by cases h),fun b o h=>⟨(Array.getElem?_eq_some_iff.1 h).1,h⟩,Nat.le_refl _,fun q hq=>⟨⟨h q hq,.inl hq⟩,fun _ _ _ h=>by cases h⟩,fun _ _ h=>by cases h⟩
theorem NF {b off cap m k:Nat} {cc:Array Value} {u:TypeId} {fz:Nat×Nat} {L:List AV} {vs:List Value} (hb:W.heap[b]?=some (.cells cc u fz)) (hcap:m<=cap) (hL:L.length=m*k) (hsz:off+m*k<=cc.size) (hst:L.all nL=true) {z:Fz->Prop} (hfz:z ⟨b,off,L⟩) (hv:VRs (phF z) L vs) (hcell:∀i a,vs[i]?=some a->cc[off+i]?=some a):
 FzR (phF z) (gH W) ⟨b,off,L⟩/\∀χ:Ph,(∀q,z q->χ.z q)->VR χ (.fr m k L) (.slice (some ⟨b,off,none⟩) m cap):=by
 refine⟨⟨⟨(Array.getElem?_eq_some_iff.1 hb).1,hst⟩,cc,u,fz,hb,(show off+L.length<=cc.size by omega),fun i a e=>?_⟩,fun χ hχ=>?_⟩
 ·obtain⟨v,h1,h2⟩:=hv.at e;exact⟨v,hcell i v h1,h2⟩
 ·have:VR χ (.fr m k L) (.slice (some ⟨(⟨b,off,L⟩:Fz).B,(⟨b,off,L⟩:Fz).s+0,.none⟩) m cap):= .fr (q:=⟨b,off,L⟩) (o:=0) (hχ _ hfz) hcap (bq hL);exact this
end
end Go.Proofs.YtflehenfikoniaaGreat
namespace Go.Proofs.YtflehenfikoniaaGreat
open Go Go.RowKit
abbrev Pk:=List ((Nat×Nat)×List AV)
def pS (p:Nat×Nat):Value:= .pointer (some ⟨p.1,p.2,none⟩)
def aQ (p:Nat×Nat):AV:= .any (pS p)
def tT (p:Nat×Nat) (l:List AV) (h:Hp):Prop:=l.all flat.flat1=true/\∃T c t,h.f p.1=some (.cells c t (0,0))/\l.length<=T/\p.2+T<=c.size/\CR Ph.no c p.2 l
def pkB (Cs:Pk):List Nat:=Cs.map fun c=>c.1.1
theorem Fg {A B:Pk} {p:Nat×Nat} {l:List AV}:(pkB (A++(p,l)::B)).Nodup<->p.1∉pkB (A++B)/\(pkB (A++B)).Nodup:=by
 have h:(pkB (A++(p,l)::B)).Perm (p.1::pkB (A++B)):=(List.perm_middle (l₁:=A) (l₂:=B) (a:=(p,l))).map _;rw[h.nodup_iff,List.nodup_cons]
def pk (Cs:Pk):HP where
 P _ S h:=(∀B,S B->∃o,h.f B=some o)/\(pkB Cs).Nodup/\∀c∈Cs,S c.1.1/\tT c.1 c.2 h
 loc z S h g _ e hp:=⟨fun B hB=>by
  obtain⟨o,ho⟩:=hp.1 B hB;exact⟨o,(e B hB).trans ho⟩,hp.2.1,fun c hc=>⟨(hp.2.2 c hc).1,by
  obtain⟨k1,T,c',t,k2,k3⟩:=(hp.2.2 c hc).2;exact⟨k1,T,c',t,(e _ (hp.2.2 c hc).1).trans k2,k3⟩⟩⟩
 mono _ _ _ _ _ h:=h
 ex _ _ _ B h hB:=h.1 B hB
theorem PM.bF {α:Type} {v:Option α}:∀(f:Nat) (t:PM α) (n:Nat),n+1<2^f->(PM.set v f t n).get n=v
 |0,t,n,h=>by simp at h
 |f+1,.nil,0,h=>rfl
 |f+1,.node l u r,0,h=>rfl
 |f+1,.nil,n+1,h=>by
  have h2:n/2+1<2^f:=by rw[Nat.pow_succ]at h;omega
  rw[PM.AK];split
  ·rename_i q;rw[PM.bk,if_pos q];exact PM.bF f .nil (n/2) h2
  ·rename_i q;rw[PM.bk,if_neg q];exact PM.bF f .nil (n/2) h2
 |f+1,.node l u r,n+1,h=>by
  have h2:n/2+1<2^f:=by rw[Nat.pow_succ]at h;omega
  rw[PM.xh];split
  ·rename_i q;rw[PM.bk,if_pos q];exact PM.bF f l (n/2) h2
  ·rename_i q;rw[PM.bk,if_neg q];exact PM.bF f r (n/2) h2
theorem aD {n:Nat} (h:n<1000000):n+1<2^aa:=by
 have:(1000001:Nat)<2^aa:=by show 1000001<2^40;decide
 omega
section
variable {φ:Ph} {H:AH} {n:Nat} {h0 h:Hp} {b:Nat} {A B:Pk} {p:Nat×Nat} {l l':List AV}
theorem HR.mT (hr:HR φ H n h0 h) {Q:HP} (hb:H.get b=some (.sep Q)):φ b=none:=by
 rcases hr.live b _ hb with⟨h1,_⟩|⟨q,ob,_,_,_,h4⟩
 ·exact h1
 ·exact h4.elim
theorem HR.Bn (hr:HR φ H n h0 h) (hbn:b<n) (hb:H.get b=some (.sep (pk (A++(p,l)::B)))):
 ∃ψ T,PLe φ ψ/\ψ n=some ⟨p.1,p.2,T⟩/\HR ψ ((H.set (some (.sep (pk (A++B)))) aa b).set (some (.cells l true)) aa n) (n+1) h0 h:=by
 obtain⟨⟨s1,s2,s3⟩,s4⟩:=hr.sep b _ hb;obtain⟨hS,hfl,T,c,t,hc1,hc2,hc3,hc4⟩:=s3 (p,l) (by simp);obtain⟨⟨k1,k2⟩,k3,k4,k5⟩:=s4 p.1 hS;have hnd:p.1∉pkB (A++B)/\(pkB (A++B)).Nodup:=Fg.1 s2;have hbo:=hr.mT hb
 have hn0:φ n=none:=by
  cases e:φ n with
  |none=>rfl
  |some q=>exact absurd (hr.dom n q e).1 (Nat.lt_irrefl _)
 let ψ:Ph:=⟨fun x=>if x=n then some ⟨p.1,p.2,T⟩else φ x,φ.z,φ.y,fun x=>if x=b then(fun X=>φ.s b X/\X≠p.1)else φ.s x⟩
 have hle:PLe φ ψ:=⟨fun x q e=>by
  show(if x=n then _ else φ x)=some q;rw[if_neg (fun q=>by subst q;rw[hn0]at e;cases e)];exact e,fun _ h=>h,fun _ h=>h⟩
 have ψn:ψ n=some ⟨p.1,p.2,T⟩:=if_pos rfl
 have ψo:∀x,x≠n->ψ x=φ x:=fun x hx=>if_neg hx
 have cs:∀x o,((H.set (some (.sep (pk (A++B)))) aa b).set (some (.cells l true)) aa n).get x=some o->(x=n/\o= .cells l true)∨(x≠n/\((x=b/\o= .sep (pk (A++B)))∨(x≠b/\H.get x=some o))):=fun x o hx=>by
  rcases PM.aj aa _ n x o hx with⟨h1,h2⟩|⟨h1,h2⟩
  ·injection h2 with h2;exact .inl ⟨h1,h2.symm⟩
  ·rcases PM.aj aa H b x o h2 with⟨h3,h4⟩|⟨h3,h4⟩
   ·injection h4 with h4;exact .inr ⟨h1,.inl ⟨h3,h4.symm⟩⟩
   ·exact .inr ⟨h1,.inr ⟨h3,h4⟩⟩
 have old:∀x o q,((H.set (some (.sep (pk (A++B)))) aa b).set (some (.cells l true)) aa n).get x=some o->o.own=true->ψ x=some q->(x=n/\q=⟨p.1,p.2,T⟩)∨(x≠n/\H.get x=some o/\φ x=some q):=fun x o q hx ho hq=>by
  rcases cs x o hx with⟨h1,_⟩|⟨h1,⟨h3,_⟩|⟨h3,h4⟩⟩
  ·subst h1;rw[ψn]at hq;injection hq with hq;exact .inl ⟨rfl,hq.symm⟩
  ·subst h3;rw[ψo _ h1,hbo]at hq;cases hq
  ·rw[ψo _ h1]at hq;exact .inr ⟨h1,h4,hq⟩
 refine⟨ψ,T,hle,ψn,⟨fun x q hx=>?_,fun x o hx=>?_,fun x y o o' q q' hx hy ho ho' hq hq' e=>?_,hr.base,hr.size,fun q hq=>?_,fun x Q hx=>?_⟩⟩
 ·by_cases hxn:x=n
  ·subst hxn;rw[ψn]at hx;injection hx with hx;subst hx;exact⟨Nat.lt_succ_self _,k1⟩
  ·rw[ψo _ hxn]at hx;have:=hr.dom x q hx;exact⟨by omega,this.2⟩
 ·rcases cs x o hx with⟨rfl,rfl⟩|⟨h1,⟨rfl,rfl⟩|⟨h3,h4⟩⟩
  ·exact .inr ⟨_,_,ψn,k2,hc1,c,t,(0,0),rfl,hc2,hc3,iO _ _,fun _=>rfl,CR.cO (φ:=Ph.no) (ψ:=ψ) ⟨(fun _ _ h=>by cases h),fun _ h=>h.elim⟩ hc4⟩
  ·exact .inl ⟨by rw[ψo _ h1];exact hbo,rfl⟩
  ·rcases hr.live x o h4 with⟨g1,g2⟩|⟨q,ob,g1,g2,g3,g4⟩
   ·exact .inl ⟨by rw[ψo _ h1];exact g1,g2⟩
   ·exact .inr ⟨q,ob,by rw[ψo _ h1];exact g1,g2,g3,g4.mono hle⟩
 ·rcases old x o q hx ho hq with⟨rfl,rfl⟩|⟨a1,a2,a3⟩<;>rcases old y o' q' hy ho' hq' with⟨rfl,rfl⟩|⟨b1,b2,b3⟩
  ·rfl
  ·exact absurd e.symm (k3 y o' q' b2 ho' b3)
  ·exact absurd e (k3 x o q a2 ho a3)
  ·exact hr.inj x y o o' q q' a2 b2 ho ho' a3 b3 e
 ·refine⟨⟨FzR.mono (φ:=φ) (ψ:=ψ) hle.z (hr.frz q hq).1.1,(hr.frz q hq).1.2⟩,fun x o px hx ho hpx=>?_⟩;rcases old x o px hx ho hpx with⟨rfl,rfl⟩|⟨a1,a2,a3⟩
  ·exact fun e=>k4 q hq e.symm
  ·exact(hr.frz q hq).2 x o px a2 ho a3
 ·rcases cs x _ hx with⟨_,h2⟩|⟨h1,⟨rfl,h2⟩|⟨h3,h4⟩⟩
  ·cases h2
  ·injection h2 with h2;subst h2;have es:ψ.s x=fun X=>φ.s x X/\X≠p.1:=if_pos rfl
   rw[es];refine⟨⟨fun X hX=>s1 X hX.1,hnd.2,fun d hd=>?_⟩,fun X hX=>?_⟩
   ·have hd2:d∈A++(p,l)::B:=by
     rcases List.mem_append.1 hd with q|q
     ·exact List.mem_append_left _ q
     ·exact List.mem_append_right _ (List.mem_cons_of_mem _ q)
    exact⟨⟨(s3 d hd2).1,fun e=>hnd.1 (e▸List.mem_map_of_mem hd)⟩,(s3 d hd2).2⟩
   ·obtain⟨g1,g2,g3,g4⟩:=s4 X hX.1;refine⟨g1,fun y o q hy ho hq=>?_,g3,fun y Q' hy hne hs=>?_⟩
    ·rcases old y o q hy ho hq with⟨rfl,rfl⟩|⟨a1,a2,a3⟩
     ·exact fun e=>hX.2 e.symm
     ·exact g2 y o q a2 ho a3
    ·rcases cs y _ hy with⟨_,q2⟩|⟨q1,⟨q3,_⟩|⟨q3,q4⟩⟩
     ·cases q2
     ·exact hne q3
     ·have:ψ.s y=φ.s y:=if_neg q3;rw[this]at hs;exact g4 y Q' q4 hne hs
  ·obtain⟨g0,g⟩:=hr.sep x Q h4;have es:ψ.s x=φ.s x:=if_neg h3;rw[es];refine⟨g0,fun X hX=>?_⟩;obtain⟨g1,g2,g3,g4⟩:=g X hX;refine⟨g1,fun y o q hy ho hq=>?_,g3,fun y Q' hy hne hs=>?_⟩
   ·rcases old y o q hy ho hq with⟨rfl,rfl⟩|⟨a1,a2,a3⟩
    ·exact fun(e:p.1=X)=>k5 x Q h4 h3 (by rw[e];exact hX)
    ·exact g2 y o q a2 ho a3
   ·rcases cs y _ hy with⟨_,q2⟩|⟨q1,⟨q3,_⟩|⟨q3,q4⟩⟩
    ·cases q2
    ·subst q3;have:ψ.s y=fun X=>φ.s y X/\X≠p.1:=if_pos rfl
     rw[this]at hs;exact g4 y _ hb hne hs.1
    ·have:ψ.s y=φ.s y:=if_neg q3;rw[this]at hs;exact g4 y Q' q4 hne hs
theorem HR.nY (hr:HR φ H n h0 h) {m T:Nat} (hbm:b≠m) (hb:H.get b=some (.sep (pk (A++B)))) (hm:H.get m=some (.cells l true)) (hp:φ m=some ⟨p.1,p.2,T⟩) (hl:l.map Go.Proofs.YtflehenfikoniaaGreat.mk=l'.map Go.Proofs.YtflehenfikoniaaGreat.mk) (hf:l'.all flat.flat1=true):
 ∃ψ,SLe φ ψ/\PLe φ ψ/\ψ.f=φ.f/\HR ψ ((H.set none aa m).set (some (.sep (pk (A++(p,l')::B)))) aa b) n h0 h:=by
 obtain⟨⟨s1,s2,s3⟩,s4⟩:=hr.sep b _ hb;obtain⟨ob,o1,o2,c,t,fz,rfl,o3,o4,o5,o6,o7⟩:=hr.of hm hp;have o6:=o6 rfl
 subst o6;have hbo:=hr.mT hb;have hpS:¬φ.s b p.1:=fun q=>(s4 p.1 q).2.1 m _ _ hm rfl hp rfl
 let ψ:Ph:=⟨φ.f,φ.z,φ.y,fun x=>if x=b then(fun X=>φ.s b X∨X=p.1)else φ.s x⟩
 have cs:∀x o,((H.set none aa m).set (some (.sep (pk (A++(p,l')::B)))) aa b).get x=some o->(x=b/\o= .sep (pk (A++(p,l')::B)))∨(x≠b/\x≠m/\H.get x=some o):=fun x o hx=>by
  rcases PM.aj aa _ b x o hx with⟨h1,h2⟩|⟨h1,h2⟩
  ·injection h2 with h2;exact .inl ⟨h1,h2.symm⟩
  ·rcases PM.aj aa H m x o h2 with⟨h3,h4⟩|⟨h3,h4⟩
   ·cases h4
   ·exact .inr ⟨h1,h3,h4⟩
 have own:∀x o q,((H.set none aa m).set (some (.sep (pk (A++(p,l')::B)))) aa b).get x=some o->o.own=true->φ x=some q->x≠m/\H.get x=some o:=fun x o q hx ho hq=>by
  rcases cs x o hx with⟨rfl,_⟩|⟨_,h2,h3⟩
  ·rw[hbo]at hq;cases hq
  ·exact⟨h2,h3⟩
 have sle:SLe φ ψ:=⟨fun _ _ h=>h,fun _ h=>h⟩;refine⟨ψ,sle,⟨fun _ _ h=>h,fun _ h=>h,fun _ h=>h⟩,rfl,⟨hr.dom,fun x o hx=>?_,fun x y o o' q q' hx hy ho ho' hq hq' e=>?_,hr.base,hr.size,fun q hq=>⟨⟨FzR.mono (φ:=φ) (ψ:=ψ) sle.z (hr.frz q hq).1.1,(hr.frz q hq).1.2⟩,fun x o px hx ho hpx=>(hr.frz q hq).2 x o px (own x o px hx ho hpx).2 ho hpx⟩,fun x Q hx=>?_⟩⟩
 ·rcases cs x o hx with⟨rfl,rfl⟩|⟨_,_,h4⟩
  ·exact .inl ⟨hbo,rfl⟩
  ·rcases hr.live x o h4 with g|⟨q,ob,g1,g2,g3,g4⟩
   ·exact .inl g
   ·exact .inr ⟨q,ob,g1,g2,g3,g4.cO sle⟩
 ·exact hr.inj x y o o' q q' (own x o q hx ho hq).2 (own y o' q' hy ho' hq').2 ho ho' hq hq' e
 ·rcases cs x _ hx with⟨rfl,h2⟩|⟨h1,hxm,h4⟩
  ·injection h2 with h2;subst h2;have es:ψ.s x=fun X=>φ.s x X∨X=p.1:=if_pos rfl
   rw[es];refine⟨⟨fun X hX=>?_,?_,fun d hd=>?_⟩,fun X hX=>?_⟩
   ·rcases hX with hX|rfl
    ·exact s1 X hX
    ·exact⟨_,o2⟩
   ·refine Fg.2 ⟨fun q=>?_,s2⟩;obtain⟨d,hd,e⟩:=List.mem_map.1 q;exact hpS (e▸(s3 d hd).1)
   ·have hd2:d=(p,l')∨d∈A++B:=by
     rcases List.mem_append.1 hd with q|q
     ·exact .inr (List.mem_append_left _ q)
     ·rcases List.mem_cons.1 q with q|q
      ·exact .inl q
      ·exact .inr (List.mem_append_right _ q)
    rcases hd2 with rfl|hd2
    ·refine⟨.inr rfl,hf,T,c,t,o2,?_,o4,o7.mQ hl hf⟩;have:l'.length=l.length:=by have:=congrArg List.length hl;simpa using this.symm
     rw[this];exact o3
    ·exact⟨.inl (s3 d hd2).1,(s3 d hd2).2⟩
   ·rcases hX with hX|rfl
    ·obtain⟨g1,g2,g3,g4⟩:=s4 X hX;refine⟨g1,fun y o q hy ho hq=>g2 y o q (own y o q hy ho hq).2 ho hq,g3,fun y Q' hy hne hs=>?_⟩;rcases cs y _ hy with⟨q1,_⟩|⟨q1,_,q4⟩
     ·exact hne q1
     ·have:ψ.s y=φ.s y:=if_neg q1;rw[this]at hs;exact g4 y Q' q4 hne hs
    ·refine⟨⟨(hr.dom m _ hp).2,o1⟩,fun y o q hy ho hq e=>?_,fun q hq e=>(hr.frz q hq).2 m _ _ hm rfl hp e.symm,fun y Q' hy hne hs=>?_⟩
     ·obtain⟨a1,a2⟩:=own y o q hy ho hq;exact a1 (hr.inj y m o _ q _ a2 hm ho rfl hq hp e)
     ·rcases cs y _ hy with⟨q1,_⟩|⟨q1,_,q4⟩
      ·exact hne q1
      ·have:ψ.s y=φ.s y:=if_neg q1;rw[this]at hs;exact((hr.sep y Q' q4).2 _ hs).2.1 m _ _ hm rfl hp rfl
  ·obtain⟨g0,g⟩:=hr.sep x Q h4;have es:ψ.s x=φ.s x:=if_neg h1;rw[es];refine⟨g0,fun X hX=>?_⟩;obtain⟨g1,g2,g3,g4⟩:=g X hX;refine⟨g1,fun y o q hy ho hq=>g2 y o q (own y o q hy ho hq).2 ho hq,g3,fun y Q' hy hne hs=>?_⟩;rcases cs y _ hy with⟨rfl,_⟩|⟨q1,_,q4⟩
   ·have:ψ.s y=fun X=>φ.s y X∨X=p.1:=if_pos rfl
    rw[this]at hs;rcases hs with hs|rfl
    ·exact g4 y _ hb hne hs
    ·exact g2 m _ _ hm rfl hp rfl
   ·have:ψ.s y=φ.s y:=if_neg q1;rw[this]at hs;exact g4 y Q' q4 hne hs
theorem HR.tj (hr:HR φ H n h0 h) {Q Q':HP} (hb:H.get b=some (.sep Q)) (hq:∀z S h,Q.P z S h->Q'.P z S h):HR φ (H.set (some (.sep Q')) aa b) n h0 h:=by
 have cs:∀x o,(H.set (some (.sep Q')) aa b).get x=some o->(x=b/\o= .sep Q')∨(x≠b/\H.get x=some o):=fun x o hx=>by
  rcases PM.aj aa H b x o hx with⟨h1,h2⟩|h2
  ·injection h2 with h2;exact .inl ⟨h1,h2.symm⟩
  ·exact .inr h2
 have hbo:=hr.mT hb
 have own:∀x o q,(H.set (some (.sep Q')) aa b).get x=some o->φ x=some q->H.get x=some o:=fun x o q hx hq=>by
  rcases cs x o hx with⟨rfl,_⟩|⟨_,h3⟩
  ·rw[hbo]at hq;cases hq
  ·exact h3
 refine⟨hr.dom,fun x o hx=>?_,fun x y o o' q q' hx hy ho ho' hq hq' e=>hr.inj x y o o' q q' (own x o q hx hq) (own y o' q' hy hq') ho ho' hq hq' e,hr.base,hr.size,fun q hq=>⟨hr.frz q hq|>.1,fun x o px hx ho hpx=>(hr.frz q hq).2 x o px (own x o px hx hpx) ho hpx⟩,fun x Q2 hx=>?_⟩
 ·rcases cs x o hx with⟨rfl,rfl⟩|⟨_,h4⟩
  ·exact .inl ⟨hbo,rfl⟩
  ·exact hr.live x o h4
 ·have:∃Q3,H.get x=some (.sep Q3)/\∀z S h,Q3.P z S h->Q2.P z S h:=by
   rcases cs x _ hx with⟨rfl,h2⟩|⟨_,h4⟩
   ·injection h2 with h2;subst h2;exact⟨Q,hb,hq⟩
   ·exact⟨Q2,h4,fun _ _ _ h=>h⟩
  obtain⟨Q3,e1,e2⟩:=this;obtain⟨g0,g⟩:=hr.sep x Q3 e1;refine⟨e2 _ _ _ g0,fun X hX=>?_⟩;obtain⟨g1,g2,g3,g4⟩:=g X hX;refine⟨g1,fun y o q hy ho hq=>g2 y o q (own y o q hy hq) ho hq,g3,fun y Q4 hy hne=>?_⟩;rcases cs y _ hy with⟨rfl,_⟩|⟨_,h4⟩
  ·exact g4 y Q hb hne
  ·exact g4 y Q4 h4 hne
theorem NG {Cs Ds:Pk} (hs:∀c∈Ds,c∈Cs) (hd:(pkB Cs).Nodup->(pkB Ds).Nodup):∀z S h,(pk Cs).P z S h->(pk Ds).P z S h:=fun z S h ⟨h1,h2,h3⟩=>⟨h1,hd h2,fun c hc=>h3 c (hs c hc)⟩
theorem Rb {Cs Ds:Pk} (hp:Ds.Sublist Cs):∀z S h,(pk Cs).P z S h->(pk Ds).P z S h:=NG (fun c hc=>hp.subset hc) fun h=>(hp.map _).nodup h
theorem HR.TH (hr:HR φ H n h0 h):∃ψ,PLe φ ψ/\HR ψ (H.set (some (.sep (pk []))) aa n) (n+1) h0 h:=by
 have cs:∀x o,(H.set (some (.sep (pk []))) aa n).get x=some o->(x=n/\o= .sep (pk []))∨(x≠n/\H.get x=some o):=fun x o hx=>by
  rcases PM.aj aa H n x o hx with⟨h1,h2⟩|h2
  ·injection h2 with h2;exact .inl ⟨h1,h2.symm⟩
  ·exact .inr h2
 have hno:φ n=none:=by
  cases e:φ n with
  |none=>rfl
  |some q=>exact absurd (hr.dom n q e).1 (Nat.lt_irrefl _)
 let ψ:Ph:=⟨φ.f,φ.z,φ.y,fun x=>if x=n then(fun _=>False)else φ.s x⟩
 have own:∀x o q,(H.set (some (.sep (pk []))) aa n).get x=some o->φ x=some q->H.get x=some o:=fun x o q hx hq=>by
  rcases cs x o hx with⟨rfl,_⟩|⟨_,h3⟩
  ·rw[hno]at hq;cases hq
  ·exact h3
 have sle:SLe φ ψ:=⟨fun _ _ h=>h,fun _ h=>h⟩;refine⟨ψ,⟨fun _ _ h=>h,fun _ h=>h,fun _ h=>h⟩,⟨fun x q hx=>⟨by have:=(hr.dom x q hx).1;omega,(hr.dom x q hx).2⟩,fun x o hx=>?_,fun x y o o' q q' hx hy ho ho' hq hq' e=>hr.inj x y o o' q q' (own x o q hx hq) (own y o' q' hy hq') ho ho' hq hq' e,hr.base,hr.size,fun q hq=>⟨⟨FzR.mono (φ:=φ) (ψ:=ψ) sle.z (hr.frz q hq).1.1,(hr.frz q hq).1.2⟩,fun x o px hx ho hpx=>(hr.frz q hq).2 x o px (own x o px hx hpx) ho hpx⟩,fun x Q2 hx=>?_⟩⟩
 ·rcases cs x o hx with⟨rfl,rfl⟩|⟨_,h4⟩
  ·exact .inl ⟨hno,rfl⟩
  ·rcases hr.live x o h4 with g|⟨q,ob,g1,g2,g3,g4⟩
   ·exact .inl g
   ·exact .inr ⟨q,ob,g1,g2,g3,g4.cO sle⟩
 ·rcases cs x _ hx with⟨rfl,h2⟩|⟨h1,h4⟩
  ·injection h2 with h2;subst h2;have es:ψ.s x=fun _=>False:=if_pos rfl
   rw[es];exact⟨⟨(fun X hX=>hX.elim),List.nodup_nil,fun c hc=>by cases hc⟩,fun X hX=>hX.elim⟩
  ·obtain⟨g0,g⟩:=hr.sep x Q2 h4;have es:ψ.s x=φ.s x:=if_neg h1;rw[es];refine⟨g0,fun X hX=>?_⟩;obtain⟨g1,g2,g3,g4⟩:=g X hX;refine⟨g1,fun y o q hy ho hq=>g2 y o q (own y o q hy hq) ho hq,g3,fun y Q4 hy hne hs=>?_⟩;rcases cs y _ hy with⟨rfl,_⟩|⟨q1,q4⟩
   ·have:ψ.s y=fun _=>False:=if_pos rfl
    rw[this]at hs;exact hs
   ·have:ψ.s y=φ.s y:=if_neg q1;rw[this]at hs;exact g4 y Q4 q4 hne hs
end
theorem VR.nZ {φ:Ph} {b:Nat} {p:Nat×Nat} {T:Nat} (h:φ b=some ⟨p.1,p.2,T⟩):VR φ (.ptr b 0) (pS p):= .ptr (p:=⟨p.1,p.2,T⟩) (o:=0) h
def qM (H:AH) (n b:Nat) (A B:Pk) (p:Nat×Nat) (κ:PK):PK:=fun v H2 n2=>∃l2 l' Q,n2=n+1/\(∀x o,x≠n->x≠b->H.get x=some o->H2.get x=some o)/\H2.get b=some (.sep (pk (A++B)))/\H2.get n=some (.cells l2 true)/\l2.map mk=l'.map mk/\l'.all flat.flat1=true/\(∀z S h,(pk (A++(p,l')::B)).P z S h->Q.P z S h)/\κ v (H.set (some (.sep Q)) aa b) (n+1)
noncomputable def opn (H:AH) (n b:Nat) (A B:Pk) (l:List AV):AH:=(H.set (some (.sep (pk (A++B)))) aa b).set (some (.cells l true)) aa n
section
variable {H:AH} {n b:Nat} {A B:Pk} {p:Nat×Nat} {κ:PK} {v:AV} {l l2 l':List AV} {Q:HP}
theorem qN (hn:n<1000000):(opn H n b A B l).get n=some (.cells l true):=PM.bF aa _ _ (aD hn)
theorem xM (hbn:b<n) (hn:n<1000000):(opn H n b A B l).get b=some (.sep (pk (A++B))):=PM.aC aa _ _ _ (aD hn) (by omega) (PM.bF aa _ _ (aD (by omega)))
theorem tk (hbn:b<n) (hn:n<1000000) {x:Nat} {o:AO} (h1:x≠n) (h2:x≠b) (h:H.get x=some o):(opn H n b A B l).get x=some o:=PM.aC aa _ _ _ (aD hn) h1 (PM.aC aa _ _ _ (aD (by omega)) h2 h)
theorem qM.same (hbn:b<n) (hn:n<1000000) (hl:l.map mk=l'.map mk) (hf:l'.all flat.flat1=true) (hQ:∀z S h,(pk (A++(p,l')::B)).P z S h->Q.P z S h) (hκ:κ v (H.set (some (.sep Q)) aa b) (n+1)):qM H n b A B p κ v (opn H n b A B l) (n+1):=
 ⟨l,l',Q,rfl,fun x o h1 h2 h3=>tk hbn hn h1 h2 h3,xM hbn hn,qN hn,hl,hf,hQ,hκ⟩
theorem qM.set (hbn:b<n) (hn:n<1000000) (hl:l2.map mk=l'.map mk) (hf:l'.all flat.flat1=true) (hQ:∀z S h,(pk (A++(p,l')::B)).P z S h->Q.P z S h) (hκ:κ v (H.set (some (.sep Q)) aa b) (n+1)):qM H n b A B p κ v ((opn H n b A B l).set (some (.cells l2 true)) aa n) (n+1):=
 ⟨l2,l',Q,rfl,fun x o h1 h2 h3=>PM.aC aa _ _ _ (aD hn) h1 (tk hbn hn h1 h2 h3),PM.aC aa _ _ _ (aD hn) (by omega) (xM hbn hn),PM.bF aa _ _ (aD hn),hl,hf,hQ,hκ⟩
end
theorem ai.Fh {f:FuncId} {run:List AV->AH->Nat->PK->Prop} (hrun:ai f run) {φ:Ph} {H:AH} {n:Nat} {h0 hp:Hp} {vs:Array Value} {κ:PK} {K:KH} {b:Nat} {A B:Pk} {p:Nat×Nat} {l:List AV} {rest:List AV}
 (hr:HR φ H n h0 hp) (hbn:b<n) (hn:n<1000000) (hn0:H.get n=none) (hb:H.get b=some (.sep (pk (A++(p,l)::B)))) (hargs:VRs φ (aQ p::rest) vs.toList) (hk:ck φ h0 κ K)
 (hs:run (.ptr n 0::rest) (opn H n b A B l) (n+1) (qM H n b A B p κ)):dj Tryz.prog f vs hp K:=by
 obtain⟨ψ,T,hle,hψ,hr2⟩:=hr.Bn hbn hb;obtain⟨w1,us1,q1,e1,r1⟩:=hargs.cons_inv;have e1:w1=pS p:=e1;subst e1;refine hrun _ _ _ _ hs ψ h0 hp vs K hr2 (by rw[q1];exact .cons (VR.nZ hψ) (VRs.mono hle _ _ r1)) fun χ v H2 n2 u g hle2 hg hu ⟨l2,l',Q,e2,hold,hb2,hn2,hl,hf,hQ,hκ⟩=>?_
 subst e2;obtain⟨ω,_,hle3,_,hr3⟩:=hg.nY (m:=n) (by omega) hb2 hn2 (hle2.b _ _ hψ) hl hf;have hr4:=hr3.tj (Q':=Q) (PM.bF aa _ _ (aD (by omega))) hQ;refine hk ω v _ (n+1) u g ((hle.trans hle2).trans hle3) (hr4.less fun x o hx=>?_) (VR.mono hle3 _ _ hu) hκ;rcases PM.aj aa H b x o hx with⟨rfl,h2⟩|⟨h1,h2⟩
 ·rw[PM.bF aa _ _ (aD (by omega))];exact h2
 ·by_cases hxn:x=n
  ·subst hxn;rw[hn0]at h2;cases h2
  ·exact PM.aC aa _ _ _ (aD (by omega)) h1 (PM.aC aa _ _ _ (aD (by omega)) h1 (PM.aC aa _ _ _ (aD hn) hxn (hold x o hxn h1 h2)))
def bitsOf (u:Nat):Nat->List Nat
 |0=> []
 |m+1=>(u/2^m)%2::bitsOf u m
def dD (B:List Nat):Prop:=∀b∈B,b<2
theorem aL (u:Nat):∀m,(bitsOf u m).length=m
 |0=>rfl
 |m+1=>by simp[bitsOf,aL u m]
theorem df (u:Nat):∀m,dD (bitsOf u m)
 |0=>fun b h=>by cases h
 |m+1=>fun b h=>by
  rcases List.mem_cons.1 h with rfl|h
  ·exact Nat.mod_lt _ (by decide)
  ·exact df u m b h
theorem dD.nil:dD []:=fun b h=>by cases h
theorem dD.app {A B:List Nat} (h:dD A) (k:dD B):dD (A++B):=fun b hb=>(List.mem_append.1 hb).elim (h b) (k b)
theorem dD.one {b:Nat} (h:b<2):dD [b]:=fun c hc=>by simp at hc;omega
def cz (a:Nat) (B:List Nat):Nat:=B.foldl (fun u b=>2*u+b) a
theorem ja (a u:Nat):∀m,cz a (bitsOf u m)=a*2^m+u%2^m
 |0=>by simp[cz,bitsOf,Nat.mod_one]
 |m+1=>by
  show cz (2*a+u/2^m%2) (bitsOf u m)=_;rw[ja _ u m,Nat.mod_pow_succ,Nat.pow_succ,Nat.add_mul];have e1:2*a*2^m=a*(2^m*2):=by rw[Nat.mul_comm 2 a,Nat.mul_assoc,Nat.mul_comm 2]
  have e2:u/2^m%2*2^m=2^m*(u/2^m%2):=Nat.mul_comm _ _;omega
theorem qO:∀(B:List Nat) (a:Nat),cz a B=a*2^B.length+cz 0 B
 | [],a=>by simp[cz]
 |b::B,a=>by
  show cz (2*a+b) B=a*2^(B.length+1)+cz (2*0+b) B;rw[qO B (2*a+b),qO B (2*0+b),Nat.pow_succ,Nat.add_mul];have e1:2*a*2^B.length=a*(2^B.length*2):=by rw[Nat.mul_comm 2 a,Nat.mul_assoc,Nat.mul_comm 2]
  simp only[Nat.mul_zero,Nat.zero_add];omega
theorem tU:∀(B:List Nat),dD B->cz 0 B<2^B.length
 | [],_=>by simp[cz]
 |b::B,h=>by
  have ih:=tU B fun c hc=>h c (List.mem_cons_of_mem _ hc)
  have hb:=h b List.mem_cons_self;show cz (2*0+b) B<_;rw[qO,List.length_cons,Nat.pow_succ];have:(2*0+b)*2^B.length<=1*2^B.length:=Nat.mul_le_mul_right _ (by omega);omega
theorem vl (A B:List Nat) (a:Nat):cz a (A++B)=cz (cz a A) B:=by simp[cz,List.foldl_append]
theorem Fi:∀(B:List Nat) (a j:Nat),dD B->∀h:j<B.length,cz a B/2^(B.length-1-j)%2=B[j]
 |b::B,a,0,hb,_=>by
  show cz (2*a+b) B/2^(B.length+1-1-0)%2=b;have hlt:=tU B fun c hc=>hb c (List.mem_cons_of_mem _ hc)
  have:=hb b List.mem_cons_self;rw[qO,Nat.add_sub_cancel,Nat.sub_zero,Nat.mul_comm,Nat.mul_add_div (Nat.two_pow_pos _),Nat.div_eq_of_lt hlt];omega
 |b::B,a,j+1,hb,h=>by
  have h':j<B.length:=by simpa using h
  have:=Fi B (2*a+b) j (fun c hc=>hb c (List.mem_cons_of_mem _ hc)) h';show cz (2*a+b) B/2^(B.length+1-1-(j+1))%2=B[j];rw[show B.length+1-1-(j+1)=B.length-1-j from by omega];exact this
def Bo (C:List Nat):List Nat:=C++List.replicate (8-C.length) 0
def lg (C:List Nat):Nat:=cz 0 (Bo C)
def pack (B:List Nat):List Nat:=(List.range ((B.length+7)/8)).map fun i=>lg ((B.drop (8*i)).take 8)
def qQ (s:List Nat) (i:Nat):Nat:=(s[i/8]?).getD 0/2^(7-i%8)%2
theorem tm {C:List Nat} (h:C.length<=8):(Bo C).length=8:=by simp[Bo];omega
theorem xN {C:List Nat} (h:dD C):dD (Bo C):=h.app fun b hb=>by
 have:=List.eq_of_mem_replicate hb;omega
theorem Bp {C:List Nat} (h:dD C) (hl:C.length<=8):lg C<256:=by
 have:=tU _ (xN h);rw[tm hl]at this;exact this
theorem qR {C:List Nat}:lg C=cz 0 C*2^(8-C.length):=by
 unfold lg Bo;rw[vl]
 have:∀m a,cz a (List.replicate m 0)=a*2^m:=fun m=>by
  induction m with
  |zero=>intro a;simp[cz]
  |succ m ih=>
   intro a;show cz (2*a+0) (List.replicate m 0)=_;rw[ih,Nat.pow_succ,Nat.add_zero,Nat.mul_comm 2 a,Nat.mul_assoc,Nat.mul_comm 2]
 exact this _ _
theorem Kv {C:List Nat} (h:dD C) (hl:C.length<=8) {j:Nat} (hj:j<C.length):lg C/2^(7-j)%2=C[j]:=by
 have hp:=tm hl;have:=Fi (Bo C) 0 j (xN h) (by omega);unfold lg;rw[show 7-j=(Bo C).length-1-j from by omega,this];simp[Bo,hj]
theorem bh (B:List Nat):(pack B).length=(B.length+7)/8:=by simp[pack]
theorem lj (B:List Nat) (i:Nat) (h:i<(B.length+7)/8):(pack B)[i]?=some (lg ((B.drop (8*i)).take 8)):=by
 simp[pack,h]
theorem Bq {B:List Nat} (h:dD B) (i m:Nat):dD ((B.drop i).take m):=fun b hb=>h b (List.mem_of_mem_drop (List.mem_of_mem_take hb))
theorem Fj {B:List Nat} (h:dD B):∀x∈pack B,x<256:=fun x hx=>by
 simp only[pack,List.mem_map,List.mem_range]at hx;obtain⟨i,_,rfl⟩:=hx;exact Bp (Bq h _ _) (by rw[List.length_take];omega)
theorem DL {B:List Nat} (h:dD B) {i:Nat} (hi:i<B.length):qQ (pack B) i=B[i]:=by
 unfold qQ;rw[lj B (i/8) (by omega)];have hl:i%8<((B.drop (8*(i/8))).take 8).length:=by rw[List.length_take,List.length_drop];omega
 rw[Option.getD_some,Kv (Bq h _ _) (by rw[List.length_take];omega) hl];rw[List.getElem_take,List.getElem_drop];congr 1;omega
theorem vm {B:List Nat} {b:Nat} (h:B.length%8=0):pack (B++ [b])=pack B++ [b*2^7]:=by
 apply List.ext_getElem?;intro i;have hl:(pack B).length=B.length/8:=by rw[bh];omega
 rcases Nat.lt_trichotomy i (B.length/8)with hi|hi|hi
 ·rw[List.getElem?_append_left (by omega),lj _ _ (by simp;omega),lj _ _ (by omega)];rw[List.drop_append_of_le_length (by omega),List.take_append_of_le_length (by rw[List.length_drop];omega)]
 ·subst hi;rw[List.getElem?_append_right (by omega),hl,Nat.sub_self,lj _ _ (by simp;omega)]
  have:(B++ [b]).drop (8*(B.length/8))=[b]:=by
   rw[show 8*(B.length/8)=B.length from by omega];simp
  rw[this];simp[qR,cz]
 ·rw[List.getElem?_eq_none (by rw[bh];simp;omega),List.getElem?_eq_none (by simp;omega)]
theorem NH {B:List Nat} {b:Nat} (h:B.length%8≠0):pack (B++ [b])=(pack B).set (B.length/8) (lg (B.drop (8*(B.length/8)))+b*2^(7-B.length%8)):=by
 apply List.ext_getElem?;intro i;have hl:(pack B).length=B.length/8+1:=by rw[bh];omega
 rcases Nat.lt_trichotomy i (B.length/8)with hi|hi|hi
 ·rw[List.getElem?_set_ne (by omega),lj _ _ (by simp;omega),lj _ _ (by omega)];rw[List.drop_append_of_le_length (by omega),List.take_append_of_le_length (by rw[List.length_drop];omega)]
 ·subst hi;rw[List.getElem?_set_self (by omega),lj _ _ (by simp;omega)];have hC:(B.drop (8*(B.length/8))).length=B.length%8:=by rw[List.length_drop];omega
  rw[List.drop_append_of_le_length (by omega),List.take_of_length_le (by rw[List.length_append,hC];simp;omega)];generalize B.drop (8*(B.length/8))=C at hC;have hr8:=Nat.mod_lt B.length (show 8>0 by decide);generalize B.length%8=r at hC h hr8;rw[qR,qR,vl,List.length_append,hC];have hr:r<8∨8<=r:=by omega
  show some ((2*cz 0 C+b)*2^(8-(r+1)))=_;congr 1;rcases hr with hr|hr
  ·rw[show 8-(r+1)=7-r from by omega,show 8-r=7-r+1 from by omega,Nat.pow_succ,Nat.add_mul,Nat.mul_comm 2 (cz 0 C),Nat.mul_assoc,Nat.mul_comm 2]
  ·exfalso;omega
 ·rw[List.getElem?_eq_none (by rw[bh];simp;omega),List.getElem?_eq_none (by simp;omega)]
theorem lY (op:BinOp) (k:IntKind) (x y:Int) (h:op= .and∨op= .or∨op= .xor):bY op k x y=bits op k x y:=by
 rcases h with rfl|rfl|rfl<;>rfl
theorem wrap_u64 (n:Int):IntKind.u64.wrap n=n%18446744073709551616:=by simp[IntKind.wrap,IntKind.bits,IntKind.signed]
def yZ (n:Int):Nat:=if 0<=n then(2*n).toNat else(-2*n-1).toNat
def n5 (u:Nat):Int:=if u%2=0 then((u/2:Nat):Int)else-((u/2:Nat):Int)-1
theorem Kw {n:Int} (h:aN n):yZ n<18446744073709551616:=by
 unfold yZ;have:=h.1;have:=h.2;split<;>omega
theorem Fk (n:Int):n5 (yZ n)=n:=by
 unfold n5 yZ;split
 ·rename_i h;rw[if_pos (by omega)];omega
 ·rename_i h;rw[if_neg (by omega)];omega
theorem Kx (a:Nat) (h:a<18446744073709551616):a^^^18446744073709551615=18446744073709551615-a:=by
 have e:(BitVec.ofNat 64 a^^^BitVec.allOnes 64).toNat=18446744073709551615-a:=by
  rw[BitVec.xor_allOnes,BitVec.toNat_not,BitVec.toNat_ofNat,Nat.mod_eq_of_lt h]
 rw[<-e,BitVec.toNat_xor,BitVec.toNat_ofNat,Nat.mod_eq_of_lt h];rfl
theorem Rc {n:Int} (h:aN n):n.fdiv 9223372036854775808=if 0<=n then 0 else-1:=by
 have:=h.1;have:=h.2;rw[Int.fdiv_eq_ediv_of_nonneg _ (by decide)];split<;>omega
theorem Rd {n:Int} (h:aN n):bY .xor .u64 (IntKind.u64.wrap (IntKind.u64.wrap n*2)) (IntKind.u64.wrap (n.fdiv 9223372036854775808))=((yZ n:Nat):Int):=by
 have h1:=h.1;have h2:=h.2;rw[lY _ _ _ _ (.inr (.inr rfl)),Rc h];unfold yZ;by_cases h0:0<=n
 ·rw[if_pos h0,if_pos h0];have e1:IntKind.u64.wrap (IntKind.u64.wrap n*2)=(((2*n).toNat:Nat):Int):=by rw[wrap_u64,wrap_u64];omega
  have e2:IntKind.u64.wrap 0=((0:Nat):Int):=by rw[wrap_u64];rfl
  rw[e1,e2,u64_xor_nat _ _ (by omega) (by omega),Nat.xor_zero]
 ·rw[if_neg h0,if_neg h0];have e1:IntKind.u64.wrap (IntKind.u64.wrap n*2)=(((2*n+18446744073709551616).toNat:Nat):Int):=by rw[wrap_u64,wrap_u64];omega
  have e2:IntKind.u64.wrap (-1)=((18446744073709551615:Nat):Int):=by rw[wrap_u64];rfl
  rw[e1,e2,u64_xor_nat _ _ (by omega) (by omega),Kx _ (by omega)];omega
theorem y5 {a:Int} (h0:0<=a) (h1:a<=9223372036854775807):bY .xor .i64 a (-1)= -a-1:=by
 have e:bY .xor .i64 a (-1)=IntKind.i64.wrap (((BitVec.ofInt 64 a^^^BitVec.ofInt 64 (-1)).toNat:Nat):Int):=rfl
 obtain⟨m,rfl⟩:=Int.eq_ofNat_of_zero_le h0
 have e2:(BitVec.ofInt 64 (m:Int)^^^BitVec.ofInt 64 (-1)).toNat=18446744073709551615-m:=by
  have e3:BitVec.ofInt 64 (-1)=BitVec.allOnes 64:=by decide
  rw[e3,BitVec.xor_allOnes,BitVec.toNat_not,BitVec.ofInt_natCast,BitVec.toNat_ofNat,Nat.mod_eq_of_lt (by omega)]
 rw[e,e2,IntKind.wrap_i64];omega
theorem y6 {a:Int} (h0:0<=a) (h1:a<=9223372036854775807):bY .xor .i64 a 0=a:=by
 have e:bY .xor .i64 a 0=IntKind.i64.wrap (((BitVec.ofInt 64 a^^^BitVec.ofInt 64 0).toNat:Nat):Int):=rfl
 obtain⟨m,rfl⟩:=Int.eq_ofNat_of_zero_le h0
 have e2:(BitVec.ofInt 64 (m:Int)^^^BitVec.ofInt 64 0).toNat=m:=by
  have e3:BitVec.ofInt 64 0=0#64:=by decide
  rw[e3,BitVec.xor_zero,BitVec.ofInt_natCast,BitVec.toNat_ofNat,Nat.mod_eq_of_lt (by omega)]
 rw[e,e2,IntKind.wrap_i64];omega
theorem Bt (a b:Nat):(a:Int).fdiv (b:Int)=((a/b:Nat):Int):=by
 rw[Int.fdiv_eq_ediv_of_nonneg _ (Int.natCast_nonneg _)];exact(Int.natCast_ediv a b).symm
theorem VL {u:Nat} (h:u<18446744073709551616):bY .and .u64 (u:Int) 1=((u%2:Nat):Int):=by
 rw[lY _ _ _ _ (.inl rfl),show(1:Int)=((1:Nat):Int) from rfl,u64_and_nat _ _ h (by decide),nat_mask1]
theorem Rf {u:Nat} (h:u<18446744073709551616):bY .xor .i64 (IntKind.i64.wrap ((u:Int).fdiv 2)) (IntKind.i64.wrap (0-IntKind.i64.wrap (bY .and .u64 (u:Int) 1)))=n5 u:=by
 rw[show(2:Int)=((2:Nat):Int) from rfl,Bt,VL h];have e1:IntKind.i64.wrap ((u/2:Nat):Int)=((u/2:Nat):Int):=by rw[IntKind.wrap_i64];omega
 rw[e1];unfold n5;by_cases q:u%2=0
 ·rw[if_pos q,q];have e2:IntKind.i64.wrap (0-IntKind.i64.wrap ((0:Nat):Int))=0:=by rw[IntKind.wrap_i64,IntKind.wrap_i64];rfl
  rw[e2,y6 (by omega) (by omega)]
 ·have q1:u%2=1:=by omega
  rw[if_neg q,q1];have e2:IntKind.i64.wrap (0-IntKind.i64.wrap ((1:Nat):Int))= -1:=by rw[IntKind.wrap_i64,IntKind.wrap_i64];rfl
  rw[e2,y5 (by omega) (by omega)]
def bb (u:Nat):List Nat:=if u=0 then [0]else if u<128 then [1,0]++bitsOf u 7 else if u<4096 then [1,1,0]++bitsOf u 12 else if u<16777216 then [1,1,1,0]++bitsOf u 24 else [1,1,1,1]++bitsOf u 64
theorem dD.lit {l:List Nat} (h:l.all (fun b=>decide (b<2))=true):dD l:=fun b hb=>by
 have:=List.all_eq_true.1 h b hb;exact of_decide_eq_true this
theorem pT (u:Nat):dD (bb u):=by
 unfold bb
 repeat' split
 ·exact .lit rfl
 all_goals exact(dD.lit rfl).app (df _ _)
theorem ga (u:Nat):(bb u).length<=68/\1<=(bb u).length:=by
 unfold bb
 repeat' split
 all_goals simp[aL]
abbrev W64 (x:Int):Int:=IntKind.i64.wrap x
theorem vn (x:Int):aN (W64 x):=by
 unfold aN W64;rw[IntKind.wrap_i64];omega
theorem cU {x:Int} (h:aN x):W64 x=x:=by
 have:=h.1;have:=h.2;show IntKind.i64.wrap x=x;rw[IntKind.wrap_i64];omega
def gO (x:Int):Nat:=(x%18446744073709551616).toNat
theorem Ky (x:Int):IntKind.u64.wrap x=((gO x:Nat):Int):=by rw[wrap_u64];unfold gO;omega
theorem DM (x:Int):gO x<18446744073709551616:=by unfold gO;omega
theorem Bu {x:Int} (h:aN x):W64 ((gO x:Nat):Int)=x:=by
 have:=h.1;have:=h.2;show IntKind.i64.wrap _=x;unfold gO;rw[IntKind.wrap_i64];omega
def tAt (X:Smp) (i:Nat):Int:=((X[i]?).getD (0,0)).1
def vAt (X:Smp) (i:Nat):Int:=((X[i]?).getD (0,0)).2
def dM (X:Smp) (i:Nat):Int:=if i<2 then 0 else W64 (tAt X (i-1)-tAt X (i-2))
def dT (X:Smp) (i:Nat):Nat:=yZ (W64 (W64 (tAt X i-tAt X (i-1))-dM X i))
def dV (X:Smp) (i:Nat):Nat:=yZ (W64 (vAt X i-vAt X (i-1)))
def cf (X:Smp) (i:Nat):List Nat:=if i=0 then bitsOf (gO (tAt X 0)) 64++bitsOf (gO (vAt X 0)) 64 else bb (dT X i)++bb (dV X i)
def aE (X:Smp):Nat->List Nat
 |0=> []
 |i+1=>aE X i++cf X i
def aT (X:Smp):List Nat:=aE X X.length
theorem DN (X:Smp) (i:Nat):dD (cf X i):=by
 unfold cf;split
 ·exact(df _ _).app (df _ _)
 ·exact(pT _).app (pT _)
theorem gP (X:Smp):∀i,dD (aE X i)
 |0=> .nil
 |i+1=>(gP X i).app (DN X i)
theorem xO (X:Smp):dD (aT X):=gP X _
theorem oK (X:Smp):∀i,(aE X i).length<=136*i
 |0=>by simp[aE]
 |i+1=>by
  have h1:=oK X i
  have h2:(cf X i).length<=136:=by
   unfold cf;split
   ·simp[aL]
   ·rw[List.length_append];have:=(ga (dT X i)).1;have:=(ga (dV X i)).1;omega
  simp only[aE,List.length_append];omega
theorem Bv (X:Smp):(aT X).length<=136*X.length:=oK X _
theorem sa (X:Smp) (i:Nat):∀k,∃D,aE X (i+k)=aE X i++D
 |0=>⟨[],by simp⟩
 |k+1=>by
  obtain⟨D,h⟩:=sa X i k;exact⟨D++cf X (i+k),by show aE X (i+k)++cf X (i+k)=_;rw[h,List.append_assoc]⟩
theorem DO {X:Smp} {i:Nat} (h:i<X.length):∃D,aT X=aE X i++(cf X i++D):=by
 obtain⟨D,hD⟩:=sa X (i+1) (X.length-(i+1));refine⟨D,?_⟩;unfold aT;rw[show X.length=i+1+(X.length-(i+1)) from by omega,hD];simp[aE]
theorem Kz:aT []=[]:=rfl
def aH (s:List Nat) (at' m:Nat):List Nat:=(List.range m).map fun j=>qQ s (at'+j)
theorem Bw {B A C D:List Nat} (hB:dD B) (h:B=A++(C++D)):aH (pack B) A.length C.length=C:=by
 apply List.ext_getElem?;intro j;by_cases hj:j<C.length
 ·have hl:A.length+j<B.length:=by rw[h];simp;omega
  simp only[aH,List.getElem?_map,List.getElem?_range hj,Option.map_some];rw[DL hB hl,List.getElem?_eq_getElem hj];congr 1
  (try simp only[h])
  rw[List.getElem_append_right (by omega),List.getElem_append_left (by omega)];congr 1;omega
 ·rw[List.getElem?_eq_none (by simp[aH];omega),List.getElem?_eq_none (by omega)]
theorem By (s:List Nat) (a j:Nat):aH s a (j+1)=aH s a j++ [qQ s (a+j)]:=by
 simp[aH,List.range_succ]
theorem Bz (s:List Nat) (a j:Nat):dD (aH s a j):=fun b hb=>by
 simp only[aH,List.mem_map]at hb;obtain⟨_,_,rfl⟩:=hb;exact Nat.mod_lt _ (by decide)
theorem lC (s:List Nat) (a j:Nat):(aH s a j).length=j:=by simp[aH]
theorem HV (a:Nat) (B:List Nat) (b:Nat):cz a (B++ [b])=2*cz a B+b:=by rw[vl];rfl
theorem TI {u b:Nat} (hu:u<9223372036854775808) (hb:b<2):bY .or .u64 (IntKind.u64.wrap ((u:Int)*2)) (IntKind.u64.wrap (b:Int))=((2*u+b:Nat):Int):=by
 have e1:IntKind.u64.wrap ((u:Int)*2)=((2*u:Nat):Int):=by rw[wrap_u64];omega
 have e2:IntKind.u64.wrap (b:Int)=((b:Nat):Int):=by rw[wrap_u64];omega
 rw[e1,e2,lY _ _ _ _ (.inr (.inl rfl)),u64_or_nat _ _ (by omega) (by omega),nat_join 1 _ _ (by omega) (by omega)]
theorem Rg {c q:Nat} (hc:c<256):bY .and .u8 (((c/q:Nat)):Int) 1=((c/q%2:Nat):Int):=by
 rw[lY _ _ _ _ (.inl rfl),show(1:Int)=((1:Nat):Int) from rfl,u8_and_nat _ _ (Nat.lt_of_le_of_lt (Nat.div_le_self _ _) hc) (by decide),nat_mask1]
theorem Rh (c:Nat):bY .and .u8 (IntKind.u8.wrap (c:Int)) 1=((c%2:Nat):Int):=by
 have e1:IntKind.u8.wrap (c:Int)=((c%256:Nat):Int):=by rw[IntKind.wrap_u8];omega
 rw[e1,lY _ _ _ _ (.inl rfl),show(1:Int)=((1:Nat):Int) from rfl,u8_and_nat _ _ (by omega) (by decide),nat_mask1];congr 1;omega
theorem Ri {b r:Nat} (hb:b<2) (hr:r<8):IntKind.u8.wrap ((b:Int)*(2:Int)^r)=((b*2^r:Nat):Int):=by
 have hp:(2:Nat)^r<=2^7:=Nat.pow_le_pow_right (by decide) (by omega);have h2:b*2^r<=1*2^r:=Nat.mul_le_mul_right _ (by omega)
 have e:((b:Int)*(2:Int)^r)=((b*2^r:Nat):Int):=by
  rw[Int.natCast_mul,Int.natCast_pow];rfl
 rw[e,IntKind.wrap_u8];omega
theorem Qi {a b r:Nat} (ha:a<256) (hm:a%2^(r+1)=0) (hb:b<2) (hr:r<8):bY .or .u8 (a:Int) ((b*2^r:Nat):Int)=((a+b*2^r:Nat):Int):=by
 have hp:(2:Nat)^r<=2^7:=Nat.pow_le_pow_right (by decide) (by omega);have h2:b*2^r<=1*2^r:=Nat.mul_le_mul_right _ (by omega);have h3:0<2^r:=Nat.two_pow_pos r;rw[lY _ _ _ _ (.inr (.inl rfl)),u8_or_nat _ _ ha (by omega),nat_join (r+1) _ _ hm (by rw[Nat.pow_succ];omega)]
theorem DP {C:List Nat} (h:C.length<8):lg C%2^(7-C.length+1)=0:=by
 rw[qR,show 7-C.length+1=8-C.length from by omega];exact Nat.mul_mod_left _ _
def cQ (s:List Nat):List AV:=s.map fun c=> .si .u8 (Int.ofNat c)
theorem ic (s:List Nat):(cQ s).length=s.length:=by simp[cQ]
theorem lZ (s:List Nat):(cQ s).all flat.flat1=true:=by
 rw[List.all_eq_true];intro x hx;simp only[cQ,List.mem_map]at hx;obtain⟨c,_,rfl⟩:=hx;rfl
theorem gC (s:List Nat):(cQ s).map mk=cQ s:=by simp[cQ,mk]
inductive l5 (H:AH) (m:Nat) (r:Nat->Nat):List AV->List AV->Prop where
 |nil:l5 H m r [] []
 |cons {a a':AV} {l l':List AV} (h:ah H m r a a') (k:l5 H m r l l'):l5 H m r (a::l) (a'::l')
section
variable {H:AH} {m:Nat} {r:Nat->Nat}
theorem l5.length:∀{l l':List AV},l5 H m r l l'->l.length=l'.length
 |_,_,.nil=>rfl
 |_,_,.cons _ k=>congrArg (·+1) k.length
theorem l5.at:∀{l l':List AV},l5 H m r l l'->∀(i:Nat) (a':AV),l'[i]?=some a'->∃a,l[i]?=some a/\ah H m r a a'
 |_,_,.nil,i,a',h=>by simp at h
 |_,_,.cons (a:=a) q k,0,a',h=>by
  simp only[List.getElem?_cons_zero,Option.some.injEq]at h;subst h;exact⟨a,rfl,q⟩
 |_,_,.cons q k,i+1,a',h=>by
  obtain⟨b,h1,h2⟩:=k.at i a' (by simpa using h);exact⟨b,by simpa using h1,h2⟩
theorem au.st {l l':List AV} {z:Bool} (h:l5 H m r l l'):au H m r (.cells l z) (.cells l' z):=
 au.cells (by rw[h.length];exact Nat.le_refl _) (fun q=>q) h.at
end
mutual
theorem HW (r:Nat->Nat):∀a:AV,flat.flat1 a=true->ren r a=a
 | .int _ _,_=>rfl
 | .str _,_=>rfl
 | .bool _,_=>rfl
 | .nil,_=>rfl
 | .nsl,_=>rfl
 | .si _ _,_=>rfl
 | .sb _,_=>rfl
 | .ss _,_=>rfl
 | .any _,_=>rfl
 | .bad,h=>rfl
 | .ptr _ _,h=>by cases h
 | .sl _ _ _ _ _,h=>by cases h
 | .esl _,h=>by cases h
 | .agg _,h=>by cases h
 | .tup _,h=>by cases h
 | .fn _ _ _,h=>by cases h
 | .map _,h=>by cases h
 | .sy _ _ _ _ _,h=>by cases h
 | .rw _ _ _ _ _,h=>by cases h
 | .fr _ _ _,h=>by rfl
 | .fa _ _,h=>by rfl
end
theorem xP (r:Nat->Nat):∀l:List AV,l.all flat.flat1=true->du r l=l
 | [],_=>rfl
 |a::l,h=>by
  simp only[List.all_cons,Bool.and_eq_true]at h;rw[du,HW r a h.1,xP r l h.2]
theorem HX (m:Nat):∀a:AV,flat.flat1 a=true->ltV m a=true
 | .int _ _,_=>rfl
 | .str _,_=>rfl
 | .bool _,_=>rfl
 | .nil,_=>rfl
 | .nsl,_=>rfl
 | .si _ _,_=>rfl
 | .sb _,_=>rfl
 | .ss _,_=>rfl
 | .any _,_=>rfl
 | .bad,h=>rfl
 | .ptr _ _,h=>by cases h
 | .sl _ _ _ _ _,h=>by cases h
 | .esl _,h=>by cases h
 | .agg _,h=>by cases h
 | .tup _,h=>by cases h
 | .fn _ _ _,h=>by cases h
 | .map _,h=>by cases h
 | .sy _ _ _ _ _,h=>by cases h
 | .rw _ _ _ _ _,h=>by cases h
 | .fr _ _ _,h=>by rfl
 | .fa _ _,h=>by rfl
theorem vo (m:Nat):∀l:List AV,l.all flat.flat1=true->jv m l=true
 | [],_=>rfl
 |a::l,h=>by
  simp only[List.all_cons,Bool.and_eq_true]at h;rw[jv,HX m a h.1,vo m l h.2];rfl
theorem VR.TJ {φ:Ph} {a a':AV} {v:Value} (hf:Go.Proofs.YtflehenfikoniaaGreat.flat.flat1 a'=true) (e:Go.Proofs.YtflehenfikoniaaGreat.mk a=Go.Proofs.YtflehenfikoniaaGreat.mk a') (h:VR φ a v):VR φ a' v:=by
 have h1:VR φ (Go.Proofs.YtflehenfikoniaaGreat.mk a') v:=e▸h.mk;have h2:VR φ a' v:=by cases a'<;>exact h1
 exact h2
theorem HR.DQ {φ:Ph} {H:AH} {n:Nat} {h0 h:Hp} (hr:HR φ H n h0 h) {b:Nat} {l l':List AV} {z:Bool} (hb:H.get b=some (.cells l z)) (hf:l'.all Go.Proofs.YtflehenfikoniaaGreat.flat.flat1=true) (e:l.map Go.Proofs.YtflehenfikoniaaGreat.mk=l'.map Go.Proofs.YtflehenfikoniaaGreat.mk):HR φ (H.set (some (.cells l' z)) aa b) n h0 h:=
 hr.Ku hb (by have:=congrArg List.length e;simp only[List.length_map]at this;omega) fun i a' hi=>by
  have e:=congrArg (fun x:List AV=>x[i]?) e;simp only[List.getElem?_map,hi,Option.map_some]at e;rw[Option.map_eq_some_iff]at e;obtain⟨a,h1,h2⟩:=e;exact⟨a,h1,fun v hv=>hv.TJ (List.all_eq_true.1 hf a' (List.mem_of_getElem? hi)) h2⟩
def Up (L:Smp):Prop:=L.Pairwise fun x y=>x.1<y.1
def plc:Smp->Int->Nat
 | [],_=>0
 |x::L,t=>if x.1<t then plc L t+1 else 0
def has (L:Smp) (t:Int):Bool:=decide (plc L t<L.length/\tAt L (plc L t)=t)
def jJ (L:Smp) (t v:Int):Smp:=L.take (plc L t)++(t,v)::L.drop (plc L t)
def kQ (L:Smp) (t v:Int):Smp:=L.set (plc L t) (t,v)
def br (p old now:Int):Int×Int:=
 if p=1 then(0,8)else if p=2 then(old,0)else if p=3 then(now,0)else if p=4 then(min old now,0)else if p=5 then(max old now,0)
 else if p=6 then(if(0<=now/\W64 (old+now)<old)∨(now<0/\old<W64 (old+now))then(0,9)else(W64 (old+now),0))else(0,1)
def pU (size:Nat) (L M:Smp):Smp×Int:=if(aT M).length<=8*size then(M,0)else(L,2)
def eG (size:Nat) (L:Smp) (t v p:Int):Smp×Int:=
 if t<0∨1099511627776<=t then(L,1)
 else if has L t then(if(br p (vAt L (plc L t)) v).2≠0 then(L,(br p (vAt L (plc L t)) v).2)else pU size L (kQ L t (br p (vAt L (plc L t)) v).1))
 else pU size L (jJ L t v)
def aO (L:Smp) (a b:Int):Smp:=L.filter fun x=>decide (x.1<a)||decide (b<x.1)
theorem pV:∀(L:Smp) (t:Int),plc L t<=L.length
 | [],_=>Nat.le_refl _
 |x::L,t=>by
  unfold plc;split
  ·have:=pV L t;simp only[List.length_cons];omega
  ·exact Nat.zero_le _
theorem DR:∀{L:Smp} {t:Int} {j:Nat} (h:j<plc L t),tAt L j<t
 | [],t,j,h=>by simp[plc]at h
 |x::L,t,j,h=>by
  unfold plc at h;split at h
  ·rename_i hx;cases j with
   |zero=>exact hx
   |succ j=>
    have:=DR (L:=L) (t:=t) (j:=j) (by omega);simpa[tAt]using this
  ·omega
theorem DS:∀{L:Smp} {t:Int} (_:plc L t<L.length),t<=tAt L (plc L t)
 | [],t,h=>by simp at h
 |x::L,t,h=>by
  unfold plc at h⊢;split
  ·rename_i hx;rw[if_pos hx]at h;have:=DS (L:=L) (t:=t) (by simpa using h);simpa[tAt]using this
  ·rename_i hx;show t<=x.1;omega
theorem eR {L:Smp} {i:Nat} (h:i<L.length):tAt L i=L[i].1:=by simp[tAt,h]
theorem pW {L:Smp} {i:Nat} (h:i<L.length):vAt L i=L[i].2:=by simp[vAt,h]
theorem Up.lt {L:Smp} (h:Up L) {i j:Nat} (hi:i<j) (hj:j<L.length):tAt L i<tAt L j:=by
 rw[eR hj,eR (by omega)];exact List.pairwise_iff_getElem.1 h i j (by omega) hj hi
theorem Up.of {L:Smp} (h:∀i,i+1<L.length->tAt L i<tAt L (i+1)):Up L:=by
 refine List.pairwise_iff_getElem.2 fun i j hi hj hij=>?_
 obtain⟨k,rfl⟩:∃k,j=i+1+k:=⟨j-(i+1),by omega⟩;clear hij;rw[<-eR hi,<-eR hj]
 induction k with
 |zero=>exact h i hj
 |succ k ih=>exact Int.lt_trans (ih (by omega)) (h (i+1+k) hj)
theorem NI {L:Smp} {t:Int} (h:has L t=true):(t,vAt L (plc L t))∈L:=by
 unfold has at h;rw[decide_eq_true_eq]at h;have:=List.getElem_mem h.1
 have e:L[plc L t]=(t,vAt L (plc L t)):=by
  rw[pW h.1];refine Prod.ext ?_ rfl
  rw[<-eR h.1];exact h.2
 rw[<-e];exact this
theorem kE (L:Smp) (t v:Int):(jJ L t v).length=L.length+1:=by
 have:=pV L t;simp[jJ];omega
theorem qS (L:Smp) (t v:Int):(kQ L t v).length=L.length:=by simp[kQ]
theorem BA {L:Smp} {t v:Int} {x:Int×Int}:x∈jJ L t v<->x=(t,v)∨x∈L:=by
 unfold jJ;rw[List.mem_append,List.mem_cons];have:=List.take_append_drop (plc L t) L;constructor
 ·rintro(h|h|h)
  ·exact .inr (List.mem_of_mem_take h)
  ·exact .inl h
  ·exact .inr (List.mem_of_mem_drop h)
 ·rintro(h|h)
  ·exact .inr (.inl h)
  ·rw[<-this,List.mem_append]at h;rcases h with h|h
   ·exact .inl h
   ·exact .inr (.inr h)
theorem Fl {L:Smp} (h:Up L) {t:Int} (hn:has L t=false) (v:Int):Up (jJ L t v):=by
 have hle:=pV L t;refine .of fun i hi=>?_
 rw[kE]at hi
 have key:∀j,j<L.length+1->tAt (jJ L t v) j=if j<plc L t then tAt L j else if j=plc L t then t else tAt L (j-1):=fun j hj=>by
  unfold tAt jJ;have hl:(L.take (plc L t)).length=plc L t:=by simp;omega
  split
  ·rename_i q;rw[List.getElem?_append_left (by omega),List.getElem?_take,if_pos q]
  ·rename_i q;rw[List.getElem?_append_right (by omega),hl];split
   ·rename_i q2;subst q2;simp
   ·rename_i q2;obtain⟨m,rfl⟩:∃m,j=plc L t+1+m:=⟨j-(plc L t+1),by omega⟩;rw[show plc L t+1+m-plc L t=m+1 from by omega,List.getElem?_cons_succ,List.getElem?_drop,show plc L t+1+m-1=plc L t+m from by omega]
 rw[key i (by omega),key (i+1) hi]
 have hp:plc L t<L.length->t<tAt L (plc L t):=fun q=>by
  have h1:=DS q
  have h2:tAt L (plc L t)≠t:=fun e=>by
   unfold has at hn;rw[decide_eq_false_iff_not]at hn;exact hn ⟨q,e⟩
  omega
 by_cases h1:i+1<plc L t
 ·rw[if_pos (by omega),if_pos h1];exact h.lt (Nat.lt_succ_self i) (by omega)
 ·rw[if_neg h1];by_cases h2:i+1=plc L t
  ·rw[if_pos h2,if_pos (by omega)];exact DR (by omega)
  ·rw[if_neg h2];by_cases h3:i=plc L t
   ·rw[if_neg (by omega),if_pos h3,show i+1-1=plc L t from by omega];exact hp (by omega)
   ·rw[if_neg (by omega),if_neg h3];exact h.lt (by omega) (by omega)
theorem BB {L:Smp} (h:Up L) {t v:Int} (hh:has L t=true) {x:Int×Int}:x∈kQ L t v<->x=(t,v)∨(x∈L/\x.1≠t):=by
 have hh2:=hh;unfold has at hh2;rw[decide_eq_true_eq]at hh2;obtain⟨h1,h2⟩:=hh2;unfold kQ;constructor
 ·intro hx;obtain⟨i,hi,e⟩:=List.mem_iff_getElem.1 hx;rw[List.length_set]at hi;rw[List.getElem_set]at e;split at e
  ·exact .inl e.symm
  ·rename_i q;refine .inr ⟨by rw[<-e];exact List.getElem_mem hi,fun e2=>?_⟩;rw[<-e,<-eR hi]at e2;rcases Nat.lt_or_gt_of_ne q with q|q
   ·have:=h.lt q hi;omega
   ·have:=h.lt q h1;omega
 ·rintro(rfl|⟨hx,hne⟩)
  ·exact List.mem_iff_getElem.2 ⟨plc L t,by simpa using h1,by simp⟩
  ·obtain⟨i,hi,e⟩:=List.mem_iff_getElem.1 hx;have:plc L t≠i:=fun q=>hne (by subst q;rw[<-e,<-eR hi];exact h2)
   exact List.mem_iff_getElem.2 ⟨i,by simpa using hi,by rw[List.getElem_set_ne this];exact e⟩
theorem Fm {L:Smp} (h:Up L) {t v:Int} (hh:has L t=true):Up (kQ L t v):=by
 have hh2:=hh;unfold has at hh2;rw[decide_eq_true_eq]at hh2
 have key:∀j,tAt (kQ L t v) j=tAt L j:=fun j=>by
  unfold kQ tAt;rw[List.getElem?_set];split
  ·rename_i q;subst q;rw[if_pos hh2.1];have:=hh2.2;unfold tAt at this;rw[this];rfl
  ·rfl
 refine .of fun i hi=>?_
 rw[qS]at hi;rw[key,key];exact h.lt (Nat.lt_succ_self i) hi
def cK (L:Smp):Prop:=Up L/\(∀x∈L,(0<=x.1/\x.1<1099511627776)/\aN x.2)/\L.length<=20000
theorem cK.nil:cK []:=⟨List.Pairwise.nil,(fun x h=>by cases h),Nat.zero_le _⟩
theorem cK.jK {L:Smp} (h:cK L):∀x∈L,aN x.1/\aN x.2:=fun x hx=>by
 obtain⟨⟨h1,h2⟩,h3⟩:=h.2.1 x hx;exact⟨⟨by omega,by omega⟩,h3⟩
theorem cK.sub {L M:Smp} (h:cK L) (hs:M.Sublist L):cK M:=⟨h.1.sublist hs,fun x hx=>h.2.1 x (hs.subset hx),Nat.le_trans hs.length_le h.2.2⟩
theorem BC (X:Smp):∀i,2*i<=(aE X i).length
 |0=>Nat.zero_le _
 |i+1=>by
  have h1:=BC X i
  have h2:2<=(cf X i).length:=by
   unfold cf;split
   ·simp[aL]
   ·rw[List.length_append];have:=(ga (dT X i)).2;have:=(ga (dV X i)).2;omega
  simp only[aE,List.length_append];omega
theorem Fo (X:Smp):2*X.length<=(aT X).length:=BC X _
theorem NJ {a b:Int} (h:aN a) (k:aN b):aN (min a b):=by
 rcases Int.le_total a b with q|q
 ·rw[Int.min_eq_left q];exact h
 ·rw[Int.min_eq_right q];exact k
theorem NK {a b:Int} (h:aN a) (k:aN b):aN (max a b):=by
 rcases Int.le_total a b with q|q
 ·rw[Int.max_eq_right q];exact k
 ·rw[Int.max_eq_left q];exact h
theorem xQ {p a b:Int} (h:aN a) (k:aN b):aN (br p a b).1:=by
 have z:aN 0:=⟨by omega,by omega⟩;unfold br;split;exact z;split;exact h;split;exact k;split;exact NJ h k;split;exact NK h k;split
 ·split
  ·exact z
  ·exact vn _
 ·exact z
theorem xR {size:Nat} (hs:size<=4096) {L M:Smp} (h:cK L) (hu:Up M) (hm:∀x∈M,(0<=x.1/\x.1<1099511627776)/\aN x.2):cK (pU size L M).1:=by
 unfold pU;split
 ·rename_i q;have:=Fo M;exact⟨hu,hm,by show M.length<=20000;omega⟩
 ·exact h
theorem HY {size:Nat} (hs:size<=4096) {L:Smp} (h:cK L) {t v p:Int} (hv:aN v):cK (eG size L t v p).1:=by
 unfold eG;split
 ·exact h
 ·rename_i ht;have ht:0<=t/\t<1099511627776:=by omega
  split
  ·rename_i hh;have ho:aN (vAt L (plc L t)):=(h.2.1 _ (NI hh)).2;split
   ·exact h
   ·refine xR hs h (Fm h.1 hh) fun x hx=>?_
    rcases(BB h.1 hh).1 hx with rfl|⟨hx,_⟩
    ·exact⟨ht,xQ ho hv⟩
    ·exact h.2.1 x hx
  ·rename_i hh;have hh:has L t=false:=by simpa using hh
   refine xR hs h (Fl h.1 hh v) fun x hx=>?_
   rcases BA.1 hx with rfl|hx
   ·exact⟨ht,hv⟩
   ·exact h.2.1 x hx
theorem vp {L:Smp} (h:cK L) (a b:Int):cK (aO L a b):=h.sub List.filter_sublist
theorem oL {L:Smp} (h:L.length<=7):(aT L).length<=944:=by
 have key:∀i,(aE L (i+1)).length<=128+136*i:=fun i=>by
  induction i with
  |zero=>simp[aE,cf,aL]
  |succ i ih=>
   show(aE L (i+1)++cf L (i+1)).length<=_;rw[List.length_append]
   have h2:(cf L (i+1)).length<=136:=by
    unfold cf;rw[if_neg (by omega),List.length_append];have:=(ga (dT L (i+1))).1;have:=(ga (dV L (i+1))).1;omega
   omega
 unfold aT;cases hl:L.length with
 |zero=>simp[aE]
 |succ k=>have:=key k;omega
def qT (L:Smp):Int:=tAt L (L.length-1)
def pt (L M:Smp):Bool:=decide (L≠[])&&decide (M≠[])&&decide (tAt M 0<=qT L)
def bK (size:Nat) (L M:Smp):(Smp×Smp)×Int:=if pt L M then((L,M),1)else if(aT (L++M)).length<=8*size then((L++M,[]),0)else((L,M),2)
theorem HZ {size:Nat} (hs:size<=4096) {L M:Smp} (h:cK L) (k:cK M):cK (bK size L M).1.1/\cK (bK size L M).1.2:=by
 unfold bK;split
 ·exact⟨h,k⟩
 ·rename_i hm;split
  ·rename_i hq;refine⟨⟨.of fun i hi=>?_,fun x hx=>?_,?_⟩,.nil⟩
   ·rw[List.length_append]at hi;have a1:∀j,j<L.length->tAt (L++M) j=tAt L j:=fun j hj=>by simp[tAt,List.getElem?_append_left hj]
    have a2:∀j,L.length<=j->tAt (L++M) j=tAt M (j-L.length):=fun j hj=>by simp[tAt,List.getElem?_append_right hj]
    by_cases h1:i+1<L.length
    ·rw[a1 i (by omega),a1 _ h1];exact h.1.lt (Nat.lt_succ_self i) h1
    ·rw[a2 (i+1) (by omega)];by_cases h2:i+1=L.length
     ·rw[a1 i (by omega),show i+1-L.length=0 from by omega];have hL:L≠[]:=fun q=>by subst q;simp at h2
      have hM:M≠[]:=fun q=>by subst q;simp at hi;omega
      have:¬tAt M 0<=qT L:=fun q=>hm (by simp[pt,hL,hM,q])
      unfold qT at this;rw[show L.length-1=i from by omega]at this;omega
     ·rw[a2 i (by omega),show i+1-L.length=i-L.length+1 from by omega];exact k.1.lt (Nat.lt_succ_self _) (by omega)
   ·rcases List.mem_append.1 hx with hx|hx
    ·exact h.2.1 x hx
    ·exact k.2.1 x hx
   ·have:=Fo (L++M);show(L++M).length<=20000;omega
  ·exact⟨h,k⟩
def eu (H:AH) (n:Nat) (H':AH) (n':Nat):Prop:=∀(φ:Ph) (h0 h:Hp),HR φ H n h0 h->HR φ H' n' h0 h
def VTo (u v:AV):Prop:=∀(φ:Ph) (w:Value),VR φ u w->VR φ v w
theorem eu.refl (H:AH) (n:Nat):eu H n H n:=fun _ _ _ h=>h
theorem eu.trans {H1 H2 H3:AH} {n1 n2 n3:Nat} (h:eu H1 n1 H2 n2) (k:eu H2 n2 H3 n3):eu H1 n1 H3 n3:=fun φ h0 hp q=>k φ h0 hp (h φ h0 hp q)
theorem eu.DQ {H:AH} {n b:Nat} {l l':List AV} {z:Bool} (hb:H.get b=some (.cells l z)) (hf:l'.all flat.flat1=true) (e:l.map Go.Proofs.YtflehenfikoniaaGreat.mk=l'.map Go.Proofs.YtflehenfikoniaaGreat.mk):eu H n (H.set (some (.cells l' z)) aa b) n:=fun _ _ _ hr=>hr.DQ hb hf e
theorem VTo.refl (u:AV):VTo u u:=fun _ _ h=>h
def post (g:List AV->AH->Nat->PK->Prop) (args:List AV) (H:AH) (n:Nat) (κ:PK):Prop:=g args H n fun u H' n'=>∃v H2 n2,VTo u v/\eu H' n' H2 n2/\κ v H2 n2
theorem ai.post {f:FuncId} {g:List AV->AH->Nat->PK->Prop} (hg:ai f g):ai f (post g):=fun args H n κ hs φ h0 h vs K hr ha hk=>hg args H n _ hs φ h0 h vs K hr ha fun ψ u H' n' w g' hle hg' hu ⟨v,H2,n2,h1,h2,h3⟩=>hk ψ v H2 n2 w g' hle (h2 _ _ _ hg') (h1 _ _ hu) h3
theorem NL {s:List Nat} {i:Nat} (h:i<s.length):(cQ s)[i]?=some (.si .u8 (Int.ofNat s[i])):=by
 unfold cQ;rw[List.getElem?_map,List.getElem?_eq_getElem h];rfl
theorem vq:∀(l:List AV) (o:Nat) (x:AV),o<l.length->eY l o [x]=some (l.set o x)
 | [],o,x,h=>by simp at h
 |y::l,0,x,_=>by cases l<;>simp[eY]
 |y::l,o+1,x,h=>by simp[eY,vq l o x (by simpa using h)]
theorem KA (s:List Nat) (o:Nat) (c:Nat):(cQ s).set o (.si .u8 (Int.ofNat c))=cQ (s.set o c):=by simp[cQ,List.map_set]
theorem KC (s t:List Nat):cQ (s++t)=cQ s++cQ t:=by simp[cQ]
theorem BD {s:List Nat} (h:∀x∈s,x<256):kq (cQ s)=some s:=vd h
def shN (N:Nat):Nat:=7-N%8
theorem Fp (N:Nat):IntKind.i64.wrap (7-((N:Nat):Int).tmod 8)=((shN N:Nat):Int):=by
 have h:((N:Nat):Int).tmod 8=((N%8:Nat):Int):=by
  rw[Int.tmod_eq_emod_of_nonneg (Int.natCast_nonneg _)];rfl
 rw[h];have:=Nat.mod_lt N (show 8>0 by decide);unfold shN;rw[IntKind.wrap_i64];omega
theorem KF (N:Nat):min (IntKind.i64.wrap (7-((N:Nat):Int).tmod 8)).toNat 8=shN N:=by
 rw[Fp];unfold shN;simp;omega
theorem div_eq (N:Nat) (h:N<=9223372036854775807):IntKind.i64.wrap (((N:Nat):Int).tdiv 8)=((N/8:Nat):Int):=by
 have e:((N:Nat):Int).tdiv 8=((N/8:Nat):Int):=by
  rw[Int.tdiv_eq_ediv_of_nonneg (Int.natCast_nonneg _)];rfl
 rw[e,IntKind.wrap_i64];omega
theorem Fq (N:Nat):(((N:Nat):Int).tmod 8=0)<->N%8=0:=by
 have h:((N:Nat):Int).tmod 8=((N%8:Nat):Int):=by
  rw[Int.tmod_eq_emod_of_nonneg (Int.natCast_nonneg _)];rfl
 rw[h];omega
theorem fdiv_pow (U m:Nat):((U:Nat):Int).fdiv ((2:Int)^m)=((U/2^m:Nat):Int):=by
 have:((2:Int)^m)=((2^m:Nat):Int):=by rw[Int.natCast_pow];rfl
 rw[this,Bt]
theorem KI {U m:Nat} {i:Int} (hi:i=(m:Int)) (hm:m<64):bY .and .u8 (IntKind.u8.wrap (((U:Nat):Int).fdiv ((2:Int)^min i.toNat 64))) 1=((U/2^m%2:Nat):Int):=by
 subst hi;rw[show min (Int.toNat (m:Int)) 64=m from by simp;omega,fdiv_pow,Rh]
theorem wrU (x:Int) (b:Nat) (hb:b<2) (hx:x=(b:Int)) (N:Nat):IntKind.u8.wrap (x*(2:Int)^min (IntKind.i64.wrap (7-((N:Nat):Int).tmod 8)).toNat 8)=((b*2^shN N:Nat):Int):=by
 subst hx;rw[KF];exact Ri hb (by unfold shN;omega)
theorem Fs {B:List Nat} {x:Int} {b:Nat} (hb:b<2) (hx:x=(b:Int)) (h8:B.length%8=0) {o:Nat} (ho:o=B.length/8):
 eY (cQ (pack B)++ [.int .u8 0]) o [.si .u8 (bY .or .u8 0 (IntKind.u8.wrap (x*(2:Int)^min (IntKind.i64.wrap (7-((B.length:Nat):Int).tmod 8)).toNat 8)))]=some (cQ (pack (B++ [b]))):=by
 have hl:(cQ (pack B)).length=B.length/8:=by rw[ic,bh];omega
 have hs:shN B.length=7:=by unfold shN;omega
 rw[vq _ _ _ (by simp[hl,ho]),wrU x b hb hx,hs,vm h8,KC]
 have e:bY .or .u8 0 ((b*2^7:Nat):Int)=Int.ofNat (b*2^7):=by
  have:=Qi (a:=0) (b:=b) (r:=7) (by decide) (by decide) hb (by decide);rw[Nat.zero_add]at this;exact this
 rw[e,List.set_append_right _ _ (by omega),hl,ho,Nat.sub_self];rfl
theorem KJ {B:List Nat} (h8:B.length%8=0) {o:Nat} (ho:o=B.length/8):nth (cQ (pack B)++ [.int .u8 0]) o=some (.int .u8 0):=by
 have hl:(cQ (pack B)).length=B.length/8:=by rw[ic,bh];omega
 rw[fA,List.getElem?_append_right (by omega),hl,ho,Nat.sub_self];rfl
theorem KK {B:List Nat} (h8:B.length%8≠0) {o:Nat} (ho:o=B.length/8):nth (cQ (pack B)) o=some (.si .u8 (Int.ofNat (lg (B.drop (8*(B.length/8)))))):=by
 have hp:=lj B (B.length/8) (by omega);have hl:B.length/8<(pack B).length:=by rw[bh];omega
 rw[fA,ho,NL hl];rw[List.getElem?_eq_getElem hl]at hp;injection hp with hp;rw[hp,List.take_of_length_le (by rw[List.length_drop];omega)]
theorem Ft {B:List Nat} {x:Int} {b:Nat} (hB:dD B) (hb:b<2) (hx:x=(b:Int)) (h8:B.length%8≠0) {o:Nat} (ho:o=B.length/8):
 eY (cQ (pack B)) o [.si .u8 (bY .or .u8 (Int.ofNat (lg (B.drop (8*(B.length/8))))) (IntKind.u8.wrap (x*(2:Int)^min (IntKind.i64.wrap (7-((B.length:Nat):Int).tmod 8)).toNat 8)))]=some (cQ (pack (B++ [b]))):=by
 have hl:B.length/8<(cQ (pack B)).length:=by rw[ic,bh];omega
 have hd:(B.drop (8*(B.length/8))).length=B.length%8:=by rw[List.length_drop];omega
 have hd8:(B.drop (8*(B.length/8))).length<8:=by rw[hd];exact Nat.mod_lt _ (by decide)
 have hc:=Bp (C:=B.drop (8*(B.length/8))) (fun c hc=>hB c (List.mem_of_mem_drop hc)) (by omega);have hr:=DP hd8;have hs:shN B.length=7-(B.drop (8*(B.length/8))).length:=by rw[hd];rfl
 rw[vq _ _ _ (by omega),wrU x b hb hx,NH h8,hs,<-KA,ho];have e:=Qi (a:=lg (B.drop (8*(B.length/8)))) (b:=b) (r:=7-(B.drop (8*(B.length/8))).length) hc hr hb (by omega);rw[show(Int.ofNat (lg (B.drop (8*(B.length/8)))))=((lg (B.drop (8*(B.length/8))):Nat):Int) from rfl,e,hd];rfl
theorem Rj {s:List Nat} (hs:∀x∈s,x<256) {a c:Nat} (hc:nth s (a/8)=some c):bY .and .u8 ((Int.ofNat c).fdiv ((2:Int)^min (IntKind.i64.wrap (7-((a:Nat):Int).tmod 8)).toNat 8)) 1=((qQ s a:Nat):Int):=by
 rw[fA]at hc;have hc2:c<256:=hs c (List.mem_of_getElem? hc);rw[KF,show(Int.ofNat c)=((c:Nat):Int) from rfl,fdiv_pow,Rg hc2];unfold qQ shN;rw[hc];rfl
theorem NM {s:List Nat} (hs:∀x∈s,x<256) {a c u:Nat} (hc:nth s (a/8)=some c) (hu:u<9223372036854775808):
 bY .or .u64 (IntKind.u64.wrap (((u:Nat):Int)*2)) (IntKind.u64.wrap (bY .and .u8 ((Int.ofNat c).fdiv ((2:Int)^min (IntKind.i64.wrap (7-((a:Nat):Int).tmod 8)).toNat 8)) 1))=((2*u+qQ s a:Nat):Int):=by
 rw[Rj hs hc];exact TI hu (Nat.mod_lt _ (by decide))
theorem vr (s:List Nat) (a i j:Nat):aH s a (i+j)=aH s a i++aH s (a+i) j:=by
 unfold aH;rw[List.range_add,List.map_append,List.map_map];congr 1;exact List.map_congr_left fun k _=>by simp[Nat.add_assoc]
theorem H5 (s:List Nat) (a:Nat) {j:Nat} (h:j<=63):cz 0 (aH s a j)<9223372036854775808:=by
 have:=tU _ (Bz s a j);rw[lC]at this;have h2:2^j<=2^63:=Nat.pow_le_pow_right (by decide) h;omega
theorem KM (x:Int):W64 x=(x+9223372036854775808)%18446744073709551616-9223372036854775808:=by
 show IntKind.i64.wrap x=_;rw[IntKind.wrap_i64]
theorem BE (a d:Int):W64 (a+W64 (W64 d-a))=W64 d:=by
 (try simp only[KM]);omega
theorem BF {a b:Int} (h:aN b):W64 (a+W64 (b-a))=b:=by
 have:=h.1;have:=h.2
 (try simp only[KM]);omega
theorem BG (X:Smp) {i:Nat} (h:i≠0):W64 (dM X i+n5 (dT X i))=dM X (i+1):=by
 unfold dT;rw[Fk,BE];unfold dM;rw[if_neg (by omega)];congr 2
theorem TK {X:Smp} {i:Nat} (h:i≠0) (hx:aN (tAt X i)):W64 (tAt X (i-1)+dM X (i+1))=tAt X i:=by
 unfold dM;rw[if_neg (by omega),show i+1-1=i from rfl,show i+1-2=i-1 from by omega];exact BF hx
theorem TL {X:Smp} {i:Nat} (hx:aN (vAt X i)):W64 (vAt X (i-1)+n5 (dV X i))=vAt X i:=by
 unfold dV;rw[Fk];exact BF hx
theorem Qj (X:Smp) (i:Nat):dT X i<18446744073709551616:=Kw (vn _)
theorem Qk (X:Smp) (i:Nat):dV X i<18446744073709551616:=Kw (vn _)
theorem KO {X:Smp} (h:∀x∈X,aN x.1/\aN x.2) (i:Nat):aN (tAt X i)/\aN (vAt X i):=by
 unfold tAt vAt;cases e:X[i]? with
 |none=>exact⟨⟨by decide,by decide⟩,⟨by decide,by decide⟩⟩
 |some x=>exact h x (List.mem_of_getElem? e)
theorem ah.fnp {H:AH} {m:Nat} {r:Nat->Nat} {a:AV} {f b o:Nat} (hb:b<m) (e:a= .fn f [.ptr (r b) o] []):ah H m r a (.fn f [.ptr b o] []):=fun φ ψ v hr _ hv=>by
 subst e;obtain⟨xs,cs,rfl,h1,h2⟩:=hv.mF;obtain⟨x,l,e1,h3,h4⟩:=h1.cons_inv;obtain⟨p,h5,rfl⟩:=h3.ct;refine .fn ?_ (by rw[h2.aM];exact .nil);rw[e1,h4.aM];exact .cons (.ptr (by rw[hr.1 b hb];exact h5)) .nil
def mU (c:Nat) (B:List Nat):List AV:=[.rw c 0 (pack B).length 1 0,.si .i64 ((B.length:Nat):Int)]
noncomputable def TM (H:AH) (n b c:Nat) (B:List Nat):AH:=((H.set (some (.cells (cQ (pack B)) true)) aa n).set none aa c).set (some (.cells (mU n B) true)) aa b
def tV (args:List AV) (H:AH) (n:Nat) (κ:PK):Prop:=match args with
 | [x,u,m]=>∃(b c U k:Nat) (B:List Nat),x= .ptr b 0/\b≠c/\b<n/\c<n/\H.get b=some (.cells (mU c B) true)/\H.get c=some (.cells (cQ (pack B)) true)/\dD B/\mk u= .si .u64 (U:Int)/\mk m= .si .i64 (k:Int)/\k<=64/\U<2^k/\B.length<=100000000/\
  κ (.int .i64 0) (TM H n b c (B++bitsOf U k)) (n+1)
 |_=>False
theorem tn (U k:Nat):bitsOf U (k+1)=[U/2^k%2]++bitsOf U k:=rfl
noncomputable def wc (U:Nat) (D:List Nat) (k:Nat):AE×AH:=(mkE [(0,.si .u64 ((U:Nat):Int)),(2,.fn 238 [.ptr 0 0] []),(6,.si .i64 (((k:Nat):Int)-1))],mkH [(0,.cells (mU 2 D) true),(2,.cells (cQ ((pack D))) true)])
theorem sc {U:Nat} {D:List Nat} {k:Nat} {p n:Nat} {σ:AE} {H:AH} (j2:Nat) (hj:j2≠0) (hp:p<=2) (e0:ah H 3 (fun b=>if b=2 then j2 else b) (ak (pa 0) σ) (.si .u64 ((U:Nat):Int))) (e2:ah H 3 (fun b=>if b=2 then j2 else b) (ak (pa 2) σ) (.fn 238 [.ptr 0 0] [])) (e6:mk (ak (pa 6) σ)= .si .i64 (((k:Nat):Int)-1)) (h0:∃l,H.get 0=some (.cells l true)/\l5 H 3 (fun b=>if b=2 then j2 else b) l (mU 2 D)) (h2:(∃l,H.get j2=some (.cells l true)/\l.map mk=cQ ((pack D)))∨(((pack D))=[]/\n<=j2)):Cov p σ H n ((wc U D k).1,(wc U D k).2,3):=
 Cov.ofB (fun b=>if b=2 then j2 else b) (by omega) (fun b hb=>by repeat' rw[if_neg (by omega)]) ⟨e0,e2,.int e6,trivial⟩ ⟨.inl (h0.elim fun l h=>⟨_,h.1,au.st h.2⟩),h2.elim (fun⟨l,h,g⟩=> .inl ⟨_,h,au.bz (lZ _) (by rw[g,gC]) (fun q=>q)⟩) (fun h=> .inr ⟨by rw[h.1];rfl,h.2⟩),trivial⟩ rfl (fun x hx y hy=>by simp only[List.mem_cons,List.not_mem_nil,or_false]at hx hy;rcases hx with rfl|rfl<;>rcases hy with rfl|rfl<;>simp<;>omega)
noncomputable def KW:FuncId->EP:=aV 238 [] evP
theorem TN:aW KW:=aq az (by kernel_rfl) (by kernel_rfl)
theorem KQ {U k:Nat} (hk:k<=64) (hd:U/2^k=0):¬0<((U:Nat):Int).fdiv ((2:Int)^min (Int.toNat (k:Int)) IntKind.u64.bits):=by
 rw[show min (Int.toNat (k:Int)) IntKind.u64.bits=k from by show min k 64=k;omega,fdiv_pow,hd];decide
theorem tyB:RTy 248 248 1 1:=⟨_,_,_,rfl,rfl,(fun q h=>by cases h),rfl,rfl,rfl,rfl,by decide,by decide⟩
theorem KR (B:List Nat) (U k:Nat) (hB:dD B) (hk:k<=64) (hU:U<2^k) (hl:B.length<=100000000):ax KW 5 226 [.ptr 0 0,.si .u64 (U:Int),.si .i64 (k:Int)] (mkH [(0,.cells (mU 1 B) true),(1,.cells (cQ (pack B)) true)]) 2
 fun u H' _=>u= .int .i64 0/\H'.get 0=some (.cells (mU 2 (B++bitsOf U k)) true)/\H'.get 2=some (.cells (cQ (pack (B++bitsOf U k))) true):=by
 have hdiv:U/2^k=0:=Nat.div_eq_of_lt hU;have hkw:IntKind.i64.wrap ((k:Int)-1)=(k:Int)-1:=cU ⟨by omega,by omega⟩
 conv=>whnf
 refine ag.dec (fun h=>absurd h (by omega)) (fun _=>?_)
 conv=>whnf
 refine ag.dec (fun h=>absurd h (by omega)) (fun _=>?_)
 conv=>whnf
 refine ag.dec (fun h64=>?_) (fun h64=>?_)
 ·conv=>whnf
  refine⟨by omega,?_⟩
  conv=>whnf
  refine ag.dec (fun h=>absurd h (KQ hk hdiv)) (fun _=>?_)
  conv=>whnf
  refine aS.mk {t:List Nat×Nat//t.1++bitsOf U t.2=B++bitsOf U k/\dD t.1/\t.2<=k/\t.1.length+t.2=B.length+k} 3 (fun t=>wc U t.val.1 t.val.2) (fun t=>t.val.2) ⟨(B,k),rfl,hB,Nat.le_refl _,rfl⟩ ?_ ?_
  ·exact sc (j2:=1) (by decide) (Nat.le_refl 2) (.int rfl) (.fnp (by decide) rfl) (congrArg (AV.si .i64) hkw) ⟨_,rfl,.cons (ah.rw (by decide) rfl) (.cons (.int rfl) .nil)⟩ (.inl ⟨_,rfl,gC _⟩)
  ·intro⟨(D,m),he,hD,hm,hlen⟩;dsimp only at he hD hm hlen;have hDl:D.length<=100000064:=by omega
   have hDp:(pack D).length<=100000000:=by rw[bh];omega
   cases m with
   |zero=>
    conv=>whnf
    refine ag.dec (fun h1=>absurd h1 (by show¬(0:Int)<=((0:Nat):Int)-1;omega)) (fun _=>?_)
    conv=>whnf
    have e:D=B++bitsOf U k:=by simpa[bitsOf]using he
    subst e;exact⟨rfl,rfl,rfl⟩
   |succ m=>
    have hb2:U/2^m%2<2:=Nat.mod_lt _ (by decide);have hi0:0<=((m+1:Nat):Int)-1:=by omega
    have hi:((m+1:Nat):Int)-1=(m:Int):=by omega
    have hbit:=KI (U:=U) hi (by omega);have hiw:IntKind.i64.wrap (((m+1:Nat):Int)-1-1)=((m:Nat):Int)-1:=(congrArg IntKind.i64.wrap (congrArg (·-1) hi)).trans (cU ⟨by omega,by omega⟩);have hnw:IntKind.i64.wrap ((D.length:Int)+1)=(((D++ [U/2^m%2]).length:Nat):Int):=by rw[List.length_append,List.length_singleton];exact cU ⟨by omega,by omega⟩
    have hq:=div_eq D.length (by omega);have hsh0:0<=IntKind.i64.wrap (7-(D.length:Int).tmod 8):=by rw[Fp];omega
    have hrow:bp (cQ (pack D)) 0 ((pack D).length*1)=some (cQ (pack D)):=bq (by rw[ic,Nat.mul_one]);have hnext:(D++ [U/2^m%2])++bitsOf U m=B++bitsOf U k:=by rw[List.append_assoc,<-tn];exact he
    have hbig:((pack D).length+1)*1<=140737488355328:=by omega
    have hDn:dD (D++ [U/2^m%2]):=hD.app (.one hb2)
    conv=>whnf
    refine ag.dec (fun _=>?_) (fun h1=>absurd hi0 h1)
    conv=>whnf
    refine⟨hi0,?_⟩
    conv=>whnf
    refine ag.dec (fun h8=>?_) (fun h8=>?_)
    ·have h8:=(Fq _).1 h8;have hpl:(pack (D++ [U/2^m%2])).length=(pack D).length+1:=by rw[vm h8];simp
     have ho:0+D.length/8*1=D.length/8:=by omega
     have hix:D.length/8<(pack D).length+1:=by rw[bh];omega
     conv=>whnf
     refine bC.grow 1 1 _ _ _ _ _ _ tyB (.old rfl) rfl rfl (.rw rfl hrow) hbig ?_
     conv=>whnf
     refine Idx.mk (D.length/8) hq hix ?_
     conv=>whnf
     refine ay (KJ h8 ho) ?_
     conv=>whnf
     refine⟨hsh0,?_⟩
     conv=>whnf
     refine Idx.mk (D.length/8) hq hix ?_
     conv=>whnf
     refine ay (Fs hb2 hbit h8 ho) ?_
     conv=>whnf
     refine⟨⟨(D++ [U/2^m%2],m),hnext,hDn,by omega,by simp;omega⟩,Nat.lt_succ_self m,sc (j2:=4) (by decide) (Nat.le_refl 2) (.int rfl) (.fnp (by decide) rfl) (congrArg (AV.si .i64) hiw) ⟨_,rfl,.cons (ah.rw (by decide) rfl (hn:=hpl.symm)) (.cons (.int (congrArg (AV.si .i64) hnw)) .nil)⟩ (.inl ⟨_,rfl,gC _⟩)⟩
    ·have h8:D.length%8≠0:=fun q=>h8 ((Fq _).2 q)
     have hpl:(pack (D++ [U/2^m%2])).length=(pack D).length:=by rw[bh,bh];simp;omega
     have ho:0+D.length/8*1=D.length/8:=by omega
     have hix:D.length/8<(pack D).length:=by rw[bh];omega
     conv=>whnf
     refine Idx.mk (D.length/8) hq hix ?_
     conv=>whnf
     refine ay (KK h8 ho) ?_
     conv=>whnf
     refine⟨hsh0,?_⟩
     conv=>whnf
     refine Idx.mk (D.length/8) hq hix ?_
     conv=>whnf
     refine ay (Ft hD hb2 hbit h8 ho) ?_
     conv=>whnf
     refine⟨⟨(D++ [U/2^m%2],m),hnext,hDn,by omega,by simp;omega⟩,Nat.lt_succ_self m,sc (j2:=2) (by decide) (Nat.le_refl 2) (.int rfl) (.fnp (by decide) rfl) (congrArg (AV.si .i64) hiw) ⟨_,rfl,.cons (ah.rw (by decide) rfl (hn:=hpl.symm)) (.cons (.int (congrArg (AV.si .i64) hnw)) .nil)⟩ (.inl ⟨_,rfl,gC _⟩)⟩
 ·conv=>whnf
  refine aS.mk {t:List Nat×Nat//t.1++bitsOf U t.2=B++bitsOf U k/\dD t.1/\t.2<=k/\t.1.length+t.2=B.length+k} 3 (fun t=>wc U t.val.1 t.val.2) (fun t=>t.val.2) ⟨(B,k),rfl,hB,Nat.le_refl _,rfl⟩ ?_ ?_
  ·exact sc (j2:=1) (by decide) (Nat.le_refl 2) (.int rfl) (.fnp (by decide) rfl) (congrArg (AV.si .i64) hkw) ⟨_,rfl,.cons (ah.rw (by decide) rfl) (.cons (.int rfl) .nil)⟩ (.inl ⟨_,rfl,gC _⟩)
  ·intro⟨(D,m),he,hD,hm,hlen⟩;dsimp only at he hD hm hlen;have hDl:D.length<=100000064:=by omega
   have hDp:(pack D).length<=100000000:=by rw[bh];omega
   cases m with
   |zero=>
    conv=>whnf
    refine ag.dec (fun h1=>absurd h1 (by show¬(0:Int)<=((0:Nat):Int)-1;omega)) (fun _=>?_)
    conv=>whnf
    have e:D=B++bitsOf U k:=by simpa[bitsOf]using he
    subst e;exact⟨rfl,rfl,rfl⟩
   |succ m=>
    have hb2:U/2^m%2<2:=Nat.mod_lt _ (by decide);have hi0:0<=((m+1:Nat):Int)-1:=by omega
    have hi:((m+1:Nat):Int)-1=(m:Int):=by omega
    have hbit:=KI (U:=U) hi (by omega);have hiw:IntKind.i64.wrap (((m+1:Nat):Int)-1-1)=((m:Nat):Int)-1:=(congrArg IntKind.i64.wrap (congrArg (·-1) hi)).trans (cU ⟨by omega,by omega⟩);have hnw:IntKind.i64.wrap ((D.length:Int)+1)=(((D++ [U/2^m%2]).length:Nat):Int):=by rw[List.length_append,List.length_singleton];exact cU ⟨by omega,by omega⟩
    have hq:=div_eq D.length (by omega);have hsh0:0<=IntKind.i64.wrap (7-(D.length:Int).tmod 8):=by rw[Fp];omega
    have hrow:bp (cQ (pack D)) 0 ((pack D).length*1)=some (cQ (pack D)):=bq (by rw[ic,Nat.mul_one]);have hnext:(D++ [U/2^m%2])++bitsOf U m=B++bitsOf U k:=by rw[List.append_assoc,<-tn];exact he
    have hbig:((pack D).length+1)*1<=140737488355328:=by omega
    have hDn:dD (D++ [U/2^m%2]):=hD.app (.one hb2)
    conv=>whnf
    refine ag.dec (fun _=>?_) (fun h1=>absurd hi0 h1)
    conv=>whnf
    refine⟨hi0,?_⟩
    conv=>whnf
    refine ag.dec (fun h8=>?_) (fun h8=>?_)
    ·have h8:=(Fq _).1 h8;have hpl:(pack (D++ [U/2^m%2])).length=(pack D).length+1:=by rw[vm h8];simp
     have ho:0+D.length/8*1=D.length/8:=by omega
     have hix:D.length/8<(pack D).length+1:=by rw[bh];omega
     conv=>whnf
     refine bC.grow 1 1 _ _ _ _ _ _ tyB (.old rfl) rfl rfl (.rw rfl hrow) hbig ?_
     conv=>whnf
     refine Idx.mk (D.length/8) hq hix ?_
     conv=>whnf
     refine ay (KJ h8 ho) ?_
     conv=>whnf
     refine⟨hsh0,?_⟩
     conv=>whnf
     refine Idx.mk (D.length/8) hq hix ?_
     conv=>whnf
     refine ay (Fs hb2 hbit h8 ho) ?_
     conv=>whnf
     refine⟨⟨(D++ [U/2^m%2],m),hnext,hDn,by omega,by simp;omega⟩,Nat.lt_succ_self m,sc (j2:=4) (by decide) (Nat.le_refl 2) (.int rfl) (.fnp (by decide) rfl) (congrArg (AV.si .i64) hiw) ⟨_,rfl,.cons (ah.rw (by decide) rfl (hn:=hpl.symm)) (.cons (.int (congrArg (AV.si .i64) hnw)) .nil)⟩ (.inl ⟨_,rfl,gC _⟩)⟩
    ·have h8:D.length%8≠0:=fun q=>h8 ((Fq _).2 q)
     have hpl:(pack (D++ [U/2^m%2])).length=(pack D).length:=by rw[bh,bh];simp;omega
     have ho:0+D.length/8*1=D.length/8:=by omega
     have hix:D.length/8<(pack D).length:=by rw[bh];omega
     conv=>whnf
     refine Idx.mk (D.length/8) hq hix ?_
     conv=>whnf
     refine ay (KK h8 ho) ?_
     conv=>whnf
     refine⟨hsh0,?_⟩
     conv=>whnf
     refine Idx.mk (D.length/8) hq hix ?_
     conv=>whnf
     refine ay (Ft hD hb2 hbit h8 ho) ?_
     conv=>whnf
     refine⟨⟨(D++ [U/2^m%2],m),hnext,hDn,by omega,by simp;omega⟩,Nat.lt_succ_self m,sc (j2:=2) (by decide) (Nat.le_refl 2) (.int rfl) (.fnp (by decide) rfl) (congrArg (AV.si .i64) hiw) ⟨_,rfl,.cons (ah.rw (by decide) rfl (hn:=hpl.symm)) (.cons (.int (congrArg (AV.si .i64) hnw)) .nil)⟩ (.inl ⟨_,rfl,gC _⟩)⟩
theorem n6 {H:AH} {n b:Nat} {o:AO} (hb:b<n) (h:H.get b=some (cx (bl [b] n) o)) (hv:o.void=false∨o.own=true):iL H n [b] [o]:=⟨by simp,rfl,fun i s q h1 h2=>by
 match i,h1,h2 with
 |0,h1,h2=>injection h1 with h1;injection h2 with h2;subst h1 h2;exact⟨hb,h,hv⟩⟩
theorem y8 {H:AH} {n b c:Nat} {o q:AO} (hbc:b≠c) (hb:b<n) (hc:c<n) (h:H.get b=some (cx (bl [b,c] n) o)) (k:H.get c=some (cx (bl [b,c] n) q)) (hv:o.void=false∨o.own=true) (kv:q.void=false∨q.own=true):iL H n [b,c] [o,q]:=
 ⟨by simp[hbc],rfl,fun i s r h1 h2=>by
  match i,h1,h2 with
  |0,h1,h2=>injection h1 with h1;injection h2 with h2;subst h1 h2;exact⟨hb,h,hv⟩
  |1,h1,h2=>injection h1 with h1;injection h2 with h2;subst h1 h2;exact⟨hc,k,kv⟩⟩
theorem qU (r:Nat->Nat) (c:Nat) (B:List Nat):du r (mU c B)=mU (r c) B:=rfl
theorem qV (r:Nat->Nat) (s:List Nat):du r (cQ s)=cQ s:=xP r _ (lZ s)
theorem VM (H:AH) (n b c:Nat) (B:List Nat):jI [b,c] n H [(0,some (.cells (mU 2 B) true)),(1,none),(2,some (.cells (cQ (pack B)) true))]=TM H n b c B:=by
 simp only[jI,Option.map_some,Option.map_none,cx,qU,qV];rfl
theorem KS:ai 226 tV:=fun args H n κ hs φ h0' hp vs K hr hargs hk=>by
 unfold tV at hs;split at hs
 ·obtain⟨x,y,z,rfl,e1,e2,e3⟩:=vs3 hargs;obtain⟨b,c,U,k,B,rfl,hbc,hbn,hcn,hb,hc,hB,hu,hm,hk64,hU,hl,hs⟩:=hs
  refine dy (S:=[b,c]) (O:=[.cells (mU 1 B) true,.cells (cQ (pack B)) true]) (args0:=[.ptr 0 0,.si .u64 (U:Int),.si .i64 (k:Int)]) (an TN 5 _) (by kernel_rfl) hr
   (y8 hbc hbn hcn (by rw[cx,qU];exact hb) (by rw[cx,qV];exact hc) (.inr rfl) (.inr rfl)) ?_ hk (KR B U k hB hk64 hU hl) fun u H' n' ⟨h1,h2,h3⟩=>?_
  ·exact .cons e1 (.cons (by have:=e2.mk;rw[hu]at this;exact this) (.cons (by have:=e3.mk;rw[hm]at this;exact this) .nil))
  ·subst h1;refine⟨3,jI [b,c] n H [(0,some (.cells (mU 2 (B++bitsOf U k)) true)),(1,none),(2,some (.cells (cQ (pack (B++bitsOf U k))) true))],Nat.le_succ 2,fq.put (Nat.le_succ 2) rfl (fun x hx o ho=>?_),rfl,?_⟩
   ·simp only[List.mem_cons,List.not_mem_nil,or_false]at hx;rcases hx with rfl|rfl|rfl
    ·injection ho with ho;subst ho;exact⟨h2,rfl,rfl⟩
    ·cases ho
    ·injection ho with ho;subst ho;exact⟨h3,rfl,vo _ _ (lZ _)⟩
   ·rw[VM];exact hs
 ·exact hs.elim
noncomputable def KP1:FuncId->EP:=aw 226 tV evP
theorem Rk:aW KP1:=ae az KS
theorem n8 {U:Nat} {w:Int} {m:Nat} (hw:min w.toNat IntKind.u64.bits=m) (h:U/2^m=0):¬0<((U:Nat):Int).fdiv ((2:Int)^min w.toNat IntKind.u64.bits):=by
 rw[hw,fdiv_pow,h];decide
theorem c6 {U:Nat} {w:Int} {m:Nat} (hw:min w.toNat IntKind.u64.bits=m) (h:U/2^m≠0):¬¬0<((U:Nat):Int).fdiv ((2:Int)^min w.toNat IntKind.u64.bits):=by
 rw[hw,fdiv_pow];exact not_not_intro (Int.natCast_pos.2 (Nat.pos_of_ne_zero h))
theorem KT (B:List Nat) (U:Nat) (hB:dD B) (hU:U<18446744073709551616) (hl:B.length<=99999000):ax KP1 3 227 [.ptr 0 0,.si .u64 (U:Int)] (mkH [(0,.cells (mU 1 B) true),(1,.cells (cQ (pack B)) true)]) 2
 fun u H' _=>u= .int .i64 0/\∃B',B'=B++bb U/\H'.get 0=some (.cells (mU 6 B') true)/\H'.get 6=some (.cells (cQ (pack B')) true):=by
 have d0:U≠0->U/2^0≠0:=fun h=>by simpa using h
 have d1:¬U<128->U/2^7≠0:=fun h=>Nat.ne_of_gt (Nat.div_pos (by show 128<=U;omega) (by decide))
 have d2:¬U<4096->U/2^12≠0:=fun h=>Nat.ne_of_gt (Nat.div_pos (by show 4096<=U;omega) (by decide))
 have d3:¬U<16777216->U/2^24≠0:=fun h=>Nat.ne_of_gt (Nat.div_pos (by show 16777216<=U;omega) (by decide))
 have z0:U=0->U/2^0=0:=fun h=>by simp[h]
 have z1:U<128->U/2^7=0:=fun h=>Nat.div_eq_of_lt h
 have z2:U<4096->U/2^12=0:=fun h=>Nat.div_eq_of_lt h
 have z3:U<16777216->U/2^24=0:=fun h=>Nat.div_eq_of_lt h
 by_cases c0:U=0
 ·have hc:(B++bitsOf 0 1)++bitsOf U 0=B++bb U:=by
   rw[List.append_assoc];congr 1;unfold bb;rw[if_pos c0];rfl
  have hb1:dD (B++bitsOf 0 1):=hB.app (df _ _);have hl1:(B++bitsOf 0 1).length<=100000000:=by rw[List.length_append,aL];omega
  have hl0:B.length<=100000000:=by omega
  have hu1:U<2^0:=by subst c0;decide
  conv=>whnf
  refine aS.roll 6 ?_
  conv=>whnf
  refine ag.dec (fun h=>absurd h (n8 (m:=0) rfl (z0 c0))) (fun _=>?_)
  conv=>whnf
  refine⟨0,1,0,1,B,rfl,by decide,by decide,by decide,rfl,rfl,hB,rfl,rfl,by decide,by decide,hl0,?_⟩
  conv=>whnf
  refine⟨0,_,U,0,B++bitsOf 0 1,rfl,?_,by decide,?_,rfl,rfl,hb1,rfl,rfl,by decide,hu1,hl1,?_⟩
  ·decide
  ·decide
  conv=>whnf
  exact⟨rfl,_,hc,rfl,rfl⟩
 ·skip
  by_cases c1:U<128
  ·have hc:(B++bitsOf 2 2)++bitsOf U 7=B++bb U:=by
    rw[List.append_assoc];congr 1;unfold bb;rw[if_neg c0,if_pos c1];rfl
   have hb1:dD (B++bitsOf 2 2):=hB.app (df _ _);have hl1:(B++bitsOf 2 2).length<=100000000:=by rw[List.length_append,aL];omega
   have hl0:B.length<=100000000:=by omega
   have hu1:U<2^7:=by omega
   conv=>whnf
   refine aS.roll 6 ?_
   conv=>whnf
   refine ag.dec (fun _=>?_) (fun h=>absurd h (c6 (m:=0) rfl (d0 c0)))
   conv=>whnf
   refine ag.dec (fun h=>absurd h (n8 (m:=7) rfl (z1 c1))) (fun _=>?_)
   conv=>whnf
   refine⟨0,1,2,2,B,rfl,by decide,by decide,by decide,rfl,rfl,hB,rfl,rfl,by decide,by decide,hl0,?_⟩
   conv=>whnf
   refine⟨0,_,U,7,B++bitsOf 2 2,rfl,?_,by decide,?_,rfl,rfl,hb1,rfl,rfl,by decide,hu1,hl1,?_⟩
   ·decide
   ·decide
   conv=>whnf
   exact⟨rfl,_,hc,rfl,rfl⟩
  ·skip
   by_cases c2:U<4096
   ·have hc:(B++bitsOf 6 3)++bitsOf U 12=B++bb U:=by
     rw[List.append_assoc];congr 1;unfold bb;rw[if_neg c0,if_neg c1,if_pos c2];rfl
    have hb1:dD (B++bitsOf 6 3):=hB.app (df _ _);have hl1:(B++bitsOf 6 3).length<=100000000:=by rw[List.length_append,aL];omega
    have hl0:B.length<=100000000:=by omega
    have hu1:U<2^12:=by omega
    conv=>whnf
    refine aS.roll 6 ?_
    conv=>whnf
    refine ag.dec (fun _=>?_) (fun h=>absurd h (c6 (m:=0) rfl (d0 c0)))
    conv=>whnf
    refine ag.dec (fun _=>?_) (fun h=>absurd h (c6 (m:=7) rfl (d1 c1)))
    conv=>whnf
    refine ag.dec (fun h=>absurd h (n8 (m:=12) rfl (z2 c2))) (fun _=>?_)
    conv=>whnf
    refine⟨0,1,6,3,B,rfl,by decide,by decide,by decide,rfl,rfl,hB,rfl,rfl,by decide,by decide,hl0,?_⟩
    conv=>whnf
    refine⟨0,_,U,12,B++bitsOf 6 3,rfl,?_,by decide,?_,rfl,rfl,hb1,rfl,rfl,by decide,hu1,hl1,?_⟩
    ·decide
    ·decide
    conv=>whnf
    exact⟨rfl,_,hc,rfl,rfl⟩
   ·skip
    by_cases c3:U<16777216
    ·have hc:(B++bitsOf 14 4)++bitsOf U 24=B++bb U:=by
      rw[List.append_assoc];congr 1;unfold bb;rw[if_neg c0,if_neg c1,if_neg c2,if_pos c3];rfl
     have hb1:dD (B++bitsOf 14 4):=hB.app (df _ _);have hl1:(B++bitsOf 14 4).length<=100000000:=by rw[List.length_append,aL];omega
     have hl0:B.length<=100000000:=by omega
     have hu1:U<2^24:=by omega
     conv=>whnf
     refine aS.roll 6 ?_
     conv=>whnf
     refine ag.dec (fun _=>?_) (fun h=>absurd h (c6 (m:=0) rfl (d0 c0)))
     conv=>whnf
     refine ag.dec (fun _=>?_) (fun h=>absurd h (c6 (m:=7) rfl (d1 c1)))
     conv=>whnf
     refine ag.dec (fun _=>?_) (fun h=>absurd h (c6 (m:=12) rfl (d2 c2)))
     conv=>whnf
     refine ag.dec (fun h=>absurd h (n8 (m:=24) rfl (z3 c3))) (fun _=>?_)
     conv=>whnf
     refine⟨0,1,14,4,B,rfl,by decide,by decide,by decide,rfl,rfl,hB,rfl,rfl,by decide,by decide,hl0,?_⟩
     conv=>whnf
     refine⟨0,_,U,24,B++bitsOf 14 4,rfl,?_,by decide,?_,rfl,rfl,hb1,rfl,rfl,by decide,hu1,hl1,?_⟩
     ·decide
     ·decide
     conv=>whnf
     exact⟨rfl,_,hc,rfl,rfl⟩
    ·skip
     have hc:(B++bitsOf 15 4)++bitsOf U 64=B++bb U:=by
      rw[List.append_assoc];congr 1;unfold bb;rw[if_neg c0,if_neg c1,if_neg c2,if_neg c3];rfl
     have hb1:dD (B++bitsOf 15 4):=hB.app (df _ _);have hl1:(B++bitsOf 15 4).length<=100000000:=by rw[List.length_append,aL];omega
     have hl0:B.length<=100000000:=by omega
     have hu1:U<2^64:=by omega
     conv=>whnf
     refine aS.roll 6 ?_
     conv=>whnf
     refine ag.dec (fun _=>?_) (fun h=>absurd h (c6 (m:=0) rfl (d0 c0)))
     conv=>whnf
     refine ag.dec (fun _=>?_) (fun h=>absurd h (c6 (m:=7) rfl (d1 c1)))
     conv=>whnf
     refine ag.dec (fun _=>?_) (fun h=>absurd h (c6 (m:=12) rfl (d2 c2)))
     conv=>whnf
     refine ag.dec (fun _=>?_) (fun h=>absurd h (c6 (m:=24) rfl (d3 c3)))
     conv=>whnf
     refine⟨0,1,15,4,B,rfl,by decide,by decide,by decide,rfl,rfl,hB,rfl,rfl,by decide,by decide,hl0,?_⟩
     conv=>whnf
     refine⟨0,_,U,64,B++bitsOf 15 4,rfl,?_,by decide,?_,rfl,rfl,hb1,rfl,rfl,by decide,hu1,hl1,?_⟩
     ·decide
     ·decide
     conv=>whnf
     exact⟨rfl,_,hc,rfl,rfl⟩
noncomputable def Ql (H:AH) (n b c:Nat) (B:List Nat):AH:=((((((H.set (some (.cells (cQ (pack B)) true)) aa (n+4)).set none aa (n+3)).set none aa (n+2)).set none aa (n+1)).set none aa n).set none aa c).set (some (.cells (mU (n+4) B) true)) aa b
def y9 (args:List AV) (H:AH) (n:Nat) (κ:PK):Prop:=match args with
 | [x,u]=>∃(b c U:Nat) (B:List Nat),x= .ptr b 0/\b≠c/\b<n/\c<n/\H.get b=some (.cells (mU c B) true)/\H.get c=some (.cells (cQ (pack B)) true)/\dD B/\mk u= .si .u64 (U:Int)/\U<18446744073709551616/\B.length<=99999000/\
  κ (.int .i64 0) (Ql H n b c (B++bb U)) (n+5)
 |_=>False
def Fu (B:List Nat):List (Nat×Option AO):=[(0,some (.cells (mU 6 B) true)),(1,none),(2,none),(3,none),(4,none),(5,none),(6,some (.cells (cQ (pack B)) true))]
theorem VN (H:AH) (n b c:Nat) (B:List Nat):jI [b,c] n H (Fu B)=Ql H n b c B:=by
 simp only[jI,Fu,Option.map_some,Option.map_none,cx,qU,qV];rfl
theorem Rm:ai 227 y9:=fun args H n κ hs φ h0' hp vs K hr hargs hk=>by
 unfold y9 at hs;split at hs
 ·obtain⟨x,y,rfl,e1,e2⟩:=vs2 hargs;obtain⟨b,c,U,B,rfl,hbc,hbn,hcn,hb,hc,hB,hu,hU,hl,hs⟩:=hs
  refine dy (S:=[b,c]) (O:=[.cells (mU 1 B) true,.cells (cQ (pack B)) true]) (args0:=[.ptr 0 0,.si .u64 (U:Int)]) (an Rk 3 _) (by kernel_rfl) hr
   (y8 hbc hbn hcn (by rw[cx,qU];exact hb) (by rw[cx,qV];exact hc) (.inr rfl) (.inr rfl)) ?_ hk (KT B U hB hU hl) fun u H' n' ⟨h1,B',hB',h2,h3⟩=>?_
  ·exact .cons e1 (.cons (by have:=e2.mk;rw[hu]at this;exact this) .nil)
  ·subst h1 hB';refine⟨7,jI [b,c] n H (Fu (B++bb U)),Nat.le_of_ble_eq_true rfl,fq.put (Nat.le_of_ble_eq_true rfl) rfl (fun x hx o ho=>?_),rfl,?_⟩
   ·simp only[Fu,List.mem_cons,List.not_mem_nil,or_false]at hx;rcases hx with rfl|rfl|rfl|rfl|rfl|rfl|rfl
    ·injection ho with ho;subst ho;exact⟨h2,rfl,rfl⟩
    ·cases ho
    ·cases ho
    ·cases ho
    ·cases ho
    ·cases ho
    ·injection ho with ho;subst ho;exact⟨h3,rfl,vo _ _ (lZ _)⟩
   ·rw[VN];exact hs
 ·exact hs.elim
noncomputable def KE:FuncId->EP:=aV 221 [] (aw 227 y9 (aw 226 tV evP))
theorem Qm:aW KE:=aq (ae (ae az KS) Rm) (by kernel_rfl) (by kernel_rfl)
theorem Fv {n:Int} (h:aN n):bY .xor .u64 (IntKind.u64.wrap (IntKind.u64.wrap n*(2:Int)^min (Int.toNat 1) IntKind.u64.bits)) (IntKind.u64.wrap (n.fdiv ((2:Int)^min (Int.toNat 63) IntKind.i64.bits)))=((yZ n:Nat):Int):=Rd h
theorem pX (X:Smp) (i:Nat):aE X (i+1)=aE X i++cf X i:=rfl
theorem KV (X:Smp):aE X 0++bitsOf (gO (tAt X 0)) 64++bitsOf (gO (vAt X 0)) 64=aE X (0+1):=by
 rw[pX,List.append_assoc];rfl
theorem KX (X:Smp) {i:Nat} (h:i≠0):aE X i++bb (dT X i)++bb (dV X i)=aE X (i+1):=by
 rw[pX,List.append_assoc];unfold cf;rw[if_neg h]
theorem vt:pack []=[]:=by simp[pack]
noncomputable def ec (L:Smp) (cap:Nat) (i:Nat):AE×AH:=(mkE [(0,.sy 0 0 L.length cap 0),(4,.ptr 1 (0)),(5,.si .i64 (dM L i)),(11,.sy 0 0 L.length cap 0),(12,.si .i64 (((L.length:Nat):Int))),(13,.si .i64 (((i:Nat):Int)))],mkH [(0,.ro (smp (L))),(1,.cells (mU 2 (aE L i)) true),(2,.cells (cQ ((pack (aE L i)))) true)])
theorem DU {L:Smp} {cap:Nat} {i:Nat} {p n:Nat} {σ:AE} {H:AH} (j2:Nat) (hj:j2≠0/\j2≠1) (hp:p<=1) (e0:mk (ak (pa 0) σ)= .sy 0 0 L.length cap 0) (e4:ak (pa 4) σ= .ptr 1 (0)) (e5:mk (ak (pa 5) σ)= .si .i64 (dM L i)) (e11:mk (ak (pa 11) σ)= .sy 0 0 L.length cap 0) (e12:mk (ak (pa 12) σ)= .si .i64 (((L.length:Nat):Int))) (e13:mk (ak (pa 13) σ)= .si .i64 (((i:Nat):Int))) (h0:H.get 0=some (.ro (smp (L)))) (h1:∃l,H.get 1=some (.cells l true)/\l5 H 3 (fun b=>if b=2 then j2 else b) l (mU 2 (aE L i))) (h2:(∃l,H.get j2=some (.cells l true)/\l.map mk=cQ ((pack (aE L i))))∨(((pack (aE L i)))=[]/\n<=j2)):Cov p σ H n ((ec L cap i).1,(ec L cap i).2,3):=
 Cov.ofB (fun b=>if b=2 then j2 else b) (by omega) (fun b hb=>by repeat' rw[if_neg (by omega)]) ⟨.sy (by decide) e0,.ptr (by decide) e4,.int e5,.sy (by decide) e11,.int e12,.int e13,trivial⟩ ⟨.inl ⟨_,h0,au.Bb (b6 _) rfl⟩,.inl (h1.elim fun l h=>⟨_,h.1,au.st h.2⟩),h2.elim (fun⟨l,h,g⟩=> .inl ⟨_,h,au.bz (lZ _) (by rw[g,gC]) (fun q=>q)⟩) (fun h=> .inr ⟨by rw[h.1];rfl,h.2⟩),trivial⟩ rfl (fun x hx y hy=>by simp only[List.mem_cons,List.not_mem_nil,or_false]at hx hy;rcases hx with rfl|rfl|rfl<;>rcases hy with rfl|rfl|rfl<;>simp<;>omega)
theorem NN (L:Smp) (cap:Nat) (hL:L.length<=100000) (h64:∀x∈L,aN x.1/\aN x.2):ax KE 3 221 [.sy 0 0 L.length cap 0] (mkH [(0,.ro (smp L))]) 1
 fun u _ _=>mkT u=mkT (.tup [.ss (pack (aT L)),.si .i64 ((aT L).length:Int)]):=by
 conv=>whnf
 refine aS.mk {i:Nat//i<=L.length} 3 (fun i=>ec L cap i.val) (fun i=>L.length-i.val) ⟨0,Nat.zero_le _⟩ ?_ ?_
 ·exact DU (j2:=2) (by decide) (Nat.le_refl 1) rfl rfl rfl rfl rfl rfl rfl ⟨_,rfl,.cons (.iD rfl (hn:=congrArg List.length vt)) (.cons (.int rfl) .nil)⟩ (.inr ⟨vt,Nat.le_refl _⟩)
 ·intro⟨i,hi⟩;have hlt0:((aE L i).length)<=13600000:=Nat.le_trans (oK L i) (by omega);have hsub:bp (cQ (pack (aE L i))) 0 (pack (aE L i)).length=some (cQ (pack (aE L i))):=bq (ic _);have hbyt:kq (cQ (pack (aE L i)))=some (pack (aE L i)):=BD (Fj (gP L i));have hnx:i<L.length->IntKind.i64.wrap ((i:Int)+1)=(((i+1:Nat)):Int):=fun q=>cU ⟨by omega,by omega⟩
  conv=>whnf
  refine ag.dec (fun h=>?_) (fun h=>?_)
  ·have hi2:i<L.length:=by exact Int.ofNat_lt.1 h
   have ht:L[i].1=tAt L i:=(eR hi2).symm;have hv:L[i].2=vAt L i:=(pW hi2).symm
   conv=>whnf
   refine Idx.mk i rfl hi2 ?_
   conv=>whnf
   refine ay (fp hi2 (Nat.zero_add _)) ?_
   conv=>whnf
   refine ag.dec (fun h0=>?_) (fun h0=>?_)
   ·have h0:i=0:=by exact Int.ofNat_inj.1 h0
    subst h0;have hu0:AV.si .u64 (IntKind.u64.wrap L[0].1)= .si .u64 ((gO (tAt L 0):Nat):Int):=congrArg (AV.si .u64) ((Ky _).trans (by rw[ht]));have hu1:AV.si .u64 (IntKind.u64.wrap L[0].2)= .si .u64 ((gO (vAt L 0):Nat):Int):=congrArg (AV.si .u64) ((Ky _).trans (by rw[hv]));have hB1:dD (aE L 0++bitsOf (gO (tAt L 0)) 64):=(gP L 0).app (df _ _);have hl1:(aE L 0++bitsOf (gO (tAt L 0)) 64).length<=100000000:=by rw[List.length_append,aL];omega
    conv=>whnf
    refine⟨1,2,gO (tAt L 0),64,aE L 0,rfl,by decide,by decide,by decide,rfl,rfl,gP _ _,hu0,rfl,Nat.le_refl _,DM _,Nat.le_trans hlt0 (by decide),?_⟩
    conv=>whnf
    refine⟨1,4,gO (vAt L 0),64,aE L 0++bitsOf (gO (tAt L 0)) 64,rfl,by decide,by decide,by decide,rfl,rfl,hB1,hu1,rfl,Nat.le_refl _,DM _,hl1,?_⟩
    conv=>whnf
    refine⟨⟨1,by omega⟩,(show L.length-1<L.length-0 by omega),DU (j2:=5) (by decide) (Nat.le_refl 1) rfl rfl (congrArg (AV.si .i64) rfl) rfl rfl (congrArg (AV.si .i64) (hnx hi2)) rfl ⟨_,rfl,.cons (ah.rw (by decide) rfl (hn:=congrArg (fun x=>(pack x).length) (KV L))) (.cons (.int (congrArg (fun x:List Nat=>AV.si .i64 (x.length:Int)) (KV L))) .nil)⟩ (.inl ⟨_,rfl,(gC _).trans (congrArg (fun x=>cQ (pack x)) (KV L))⟩)⟩
   ·have h0:i≠0:=fun q=>h0 (by exact Int.ofNat_inj.2 q)
    have hp:i-1<L.length:=by omega
    have hpw:IntKind.i64.wrap ((i:Int)-1)=((i-1:Nat):Int):=(cU ⟨by omega,by omega⟩).trans (by omega);have ht1:L[i-1].1=tAt L (i-1):=(eR hp).symm;have hv1:L[i-1].2=vAt L (i-1):=(pW hp).symm;have ho0:0+(i-1)*2+0=(i-1)*2:=by omega
    have ho1:0+(i-1)*2+1=(i-1)*2+1:=by omega
    have hst:IntKind.i64.wrap (L[i].1-L[i-1].1)=dM L (i+1):=by
     unfold dM;rw[if_neg (by omega),ht,ht1];rfl
    have hu0:AV.si .u64 (bY .xor .u64 (IntKind.u64.wrap (IntKind.u64.wrap (IntKind.i64.wrap (IntKind.i64.wrap (L[i].1-L[i-1].1)-dM L i))*(2:Int)^min (Int.toNat 1) IntKind.u64.bits)) (IntKind.u64.wrap ((IntKind.i64.wrap (IntKind.i64.wrap (L[i].1-L[i-1].1)-dM L i)).fdiv ((2:Int)^min (Int.toNat 63) IntKind.i64.bits))))= .si .u64 ((dT L i:Nat):Int):=congrArg (AV.si .u64) ((Fv (vn _)).trans (by unfold dT;rw[ht,ht1]));have hu1:AV.si .u64 (bY .xor .u64 (IntKind.u64.wrap (IntKind.u64.wrap (IntKind.i64.wrap (L[i].2-L[i-1].2))*(2:Int)^min (Int.toNat 1) IntKind.u64.bits)) (IntKind.u64.wrap ((IntKind.i64.wrap (L[i].2-L[i-1].2)).fdiv ((2:Int)^min (Int.toNat 63) IntKind.i64.bits))))= .si .u64 ((dV L i:Nat):Int):=congrArg (AV.si .u64) ((Fv (vn _)).trans (by unfold dV;rw[hv,hv1]));have hB1:dD (aE L i++bb (dT L i)):=(gP L i).app (pT _);have hl1:(aE L i++bb (dT L i)).length<=99999000:=by have:=(ga (dT L i)).1;rw[List.length_append];omega
    conv=>whnf
    refine Idx.mk (i-1) hpw hp ?_
    conv=>whnf
    refine ay (vf hp ho0) ?_
    conv=>whnf
    refine⟨1,2,dT L i,aE L i,rfl,by decide,by decide,by decide,rfl,rfl,gP _ _,hu0,Qj _ _,Nat.le_trans hlt0 (by decide),?_⟩
    conv=>whnf
    refine Idx.mk (i-1) hpw hp ?_
    conv=>whnf
    refine ay (Bg hp ho1) ?_
    conv=>whnf
    refine⟨1,8,dV L i,aE L i++bb (dT L i),rfl,by decide,by decide,by decide,rfl,rfl,hB1,hu1,Qk _ _,hl1,?_⟩
    conv=>whnf
    refine⟨⟨i+1,by omega⟩,(show L.length-(i+1)<L.length-i by omega),DU (j2:=13) (by decide) (Nat.le_refl 1) rfl rfl (congrArg (AV.si .i64) hst) rfl rfl (congrArg (AV.si .i64) (hnx hi2)) rfl ⟨_,rfl,.cons (ah.rw (by decide) rfl (hn:=congrArg (fun x=>(pack x).length) (KX L h0))) (.cons (.int (congrArg (fun x:List Nat=>AV.si .i64 (x.length:Int)) (KX L h0))) .nil)⟩ (.inl ⟨_,rfl,(gC _).trans (congrArg (fun x=>cQ (pack x)) (KX L h0))⟩)⟩
  ·have hi3:i=L.length:=by have:¬i<L.length:=fun q=>h (Int.ofNat_lt.2 q);omega
   conv=>whnf
   refine TA.mk _ _ _ _ _ _ _ _ rfl (by decide) ⟨_,rfl,rfl,rfl⟩ (.inr ⟨_,rfl⟩) hsub hbyt ?_
   conv=>whnf
   subst hi3;rfl
theorem KY:ax KE 3 221 [.nsl] .nil 0 fun u _ _=>mkT u=mkT (.tup [.ss (pack (aT [])),.si .i64 ((aT []).length:Int)]):=by
 conv=>whnf
 refine aS.roll 1 ?_
 conv=>whnf
 exact(show _=AV.tup [.ss [],.si .i64 0] from rfl).trans (by rw[Kz,vt];rfl)
def pY (args:List AV) (H:AH) (n:Nat) (κ:PK):Prop:=match args with
 | [l]=>∃L,lR H l L/\L.length<=100000/\(∀x∈L,aN x.1/\aN x.2)/\κ (.tup [.ss (pack (aT L)),.si .i64 ((aT L).length:Int)]) H n
 |_=>False
theorem BH:ai 221 pY:=fun args H n κ hs φ h0' hp vs K hr hargs hk=>by
 unfold pY at hs;split at hs
 ·obtain⟨x,rfl,e1⟩:=vs1 hargs;obtain⟨L,hS,hL,h64,hs⟩:=hs;rcases hS.open hr e1 with⟨rfl,hv⟩|⟨p,C,_,hro,hv⟩
  ·exact gM Qm (v:= .tup [.ss (pack (aT [])),.si .i64 ((aT []).length:Int)]) rfl KY hs hr hk (by kernel_rfl) HR.ro0 (.cons (hv _) .nil)
  ·exact gM Qm (v:= .tup [.ss (pack (aT L)),.si .i64 ((aT L).length:Int)]) rfl (NN L C hL h64) hs hr hk (by kernel_rfl) (fun hw=>HR.ro1 hw hro) (.cons (hv _ 0 rfl) .nil)
 ·exact hs.elim
noncomputable def KB:FuncId->EP:=aV 233 [] (aV 212 [] evP)
theorem KZ:aW KB:=aq (aq az (by kernel_rfl) (by kernel_rfl)) (by kernel_rfl) (by kernel_rfl)
def jw (s:List Nat) (N a:Nat):List AV:=[.ss s,.si .i64 ((N:Nat):Int),.si .i64 ((a:Nat):Int),.sb true]
def tW (args:List AV) (H:AH) (n:Nat) (κ:PK):Prop:=match args with
 | [x,m]=>∃(b:Nat) (s:List Nat) (N a k V:Nat),x= .ptr b 0/\b<n/\H.get b=some (.cells (jw s N a) true)/\mk m= .si .i64 (k:Int)/\k<=64/\a+k<=N/\N<=8*s.length/\s.length<=100000000/\(∀x∈s,x<256)/\cz 0 (aH s a k)=V/\
  κ (.tup [.si .u64 (V:Int),.int .i64 0]) (H.set (some (.cells (jw s N (a+k)) true)) aa b) n
 |_=>False
noncomputable def rg (s:List Nat) (N:Nat) (a:Nat) (k:Nat) (j:Nat):AE×AH:=(mkE [(0,.ptr 0 (0)),(6,.si .u64 ((cz 0 (aH s a j):Nat):Int)),(30,.si .i64 (((k:Nat):Int))),(31,.si .i64 (((j:Nat):Int)))],mkH [(0,.cells (jw s N (a+j)) true)])
theorem K0 {s:List Nat} {N:Nat} {a:Nat} {k:Nat} {j:Nat} {p n:Nat} {σ:AE} {H:AH} (hp:p<=1) (e0:ak (pa 0) σ= .ptr 0 (0)) (e6:ah H 1 (fun b=>b) (ak (pa 6) σ) (.si .u64 ((cz 0 (aH s a j):Nat):Int))) (e30:mk (ak (pa 30) σ)= .si .i64 (((k:Nat):Int))) (e31:mk (ak (pa 31) σ)= .si .i64 (((j:Nat):Int))) (h0:∃l,H.get 0=some (.cells l true)/\l5 H 1 (fun b=>b) l (jw s N (a+j))):Cov p σ H n ((rg s N a k j).1,(rg s N a k j).2,1):=
 Cov.ofA hp ⟨.ptr (by decide) e0,e6,.int e30,.int e31,trivial⟩ ⟨.inl (h0.elim fun l h=>⟨_,h.1,au.st h.2⟩),trivial⟩ rfl
theorem Rn {s:List Nat} (hs:∀x∈s,x<256) {a c u:Nat} (hc:nth s (a/8)=some c) (hu:u<9223372036854775808):
 bY .or .u64 (IntKind.u64.wrap (((u:Nat):Int)*(2:Int)^min (Int.toNat 1) IntKind.u64.bits)) (IntKind.u64.wrap (bY .and .u8 ((Int.ofNat c).fdiv ((2:Int)^min (IntKind.i64.wrap (7-((a:Nat):Int).tmod 8)).toNat IntKind.u8.bits)) 1))=((2*u+qQ s a:Nat):Int):=NM hs hc hu
theorem K1 (s:List Nat) (N a k:Nat) (hk:k<=64) (ha:a+k<=N) (hN:N<=8*s.length) (hs1:s.length<=100000000) (hs:∀x∈s,x<256):ax KB 3 233 [.ptr 0 0,.si .i64 (k:Int)] (mkH [(0,.cells (jw s N a) true)]) 1
 fun u H' _=>u= .tup [.si .u64 ((cz 0 (aH s a k):Nat):Int),.int .i64 0]/\H'.get 0=some (.cells (jw s N (a+k)) true):=by
 have hleft:¬IntKind.i64.wrap ((N:Int)-(a:Int))<(k:Int):=by
  rw[show IntKind.i64.wrap ((N:Int)-(a:Int))=(N:Int)-(a:Int) from cU ⟨by omega,by omega⟩];omega
 conv=>whnf
 refine ag.nsb (fun h=>by cases h) (fun _=>?_)
 conv=>whnf
 refine ag.dec (fun h=>absurd h (by omega)) (fun _=>?_)
 conv=>whnf
 refine ag.dec (fun h=>absurd h (by omega)) (fun _=>?_)
 conv=>whnf
 refine ag.dec (fun h=>absurd h hleft) (fun _=>?_)
 conv=>whnf
 refine aS.mk {j:Nat//j<=k} 1 (fun j=>rg s N a k j.val) (fun j=>k-j.val) ⟨0,Nat.zero_le _⟩ ?_ ?_
 ·exact K0 (Nat.le_refl 1) rfl (.int rfl) rfl rfl ⟨_,rfl,.cons (.str rfl) (.cons (.int rfl) (.cons (.int rfl) (.cons (.bool rfl) .nil)))⟩
 ·intro⟨j,hj⟩
  conv=>whnf
  refine ag.dec (fun h=>?_) (fun h=>?_)
  ·have hjk:j<k:=by exact Int.ofNat_lt.1 h
   have hq:=div_eq (a+j) (by omega);have hq2:(a+j)/8<s.length:=by omega
   have hc:nth s ((a+j)/8)=some s[(a+j)/8]:=by rw[fA,List.getElem?_eq_getElem hq2]
   have hsh0:0<=IntKind.i64.wrap (7-((a+j:Nat):Int).tmod 8):=by rw[Fp];omega
   have hnum:2*cz 0 (aH s a j)+qQ s (a+j)=cz 0 (aH s a (j+1)):=by rw[By,HV]
   have hu:=congrArg (AV.si .u64) ((Rn (u:=cz 0 (aH s a j)) hs hc (H5 s a (by omega))).trans (congrArg (fun x:Nat=>(x:Int)) hnum));have hj1:IntKind.i64.wrap ((j:Int)+1)=(((j+1:Nat)):Int):=cU ⟨by omega,by omega⟩;have ha1:IntKind.i64.wrap (((a+j:Nat):Int)+1)=(((a+(j+1):Nat)):Int):=cU ⟨by omega,by omega⟩
   conv=>whnf
   refine Idx.mk ((a+j)/8) hq hq2 ?_
   conv=>whnf
   refine Ask.mk _ hc ?_
   conv=>whnf
   refine⟨hsh0,?_⟩
   conv=>whnf
   refine⟨⟨j+1,hjk⟩,(show k-(j+1)<k-j by omega),K0 (Nat.le_refl 1) rfl (.int hu) rfl (congrArg (AV.si .i64) hj1) ⟨_,rfl,.cons (.str rfl) (.cons (.int rfl) (.cons (.int (congrArg (AV.si .i64) ha1)) (.cons (.bool rfl) .nil)))⟩⟩
  ·have hjk:j=k:=by have:¬j<k:=fun q=>h (Int.ofNat_lt.2 q);omega
   conv=>whnf
   subst hjk;exact⟨rfl,rfl⟩
theorem K2:ai 233 tW:=fun args H n κ hs φ h0' hp vs K hr hargs hk=>by
 unfold tW at hs;split at hs
 ·obtain⟨x,y,rfl,e1,e2⟩:=vs2 hargs;obtain⟨b,s,N,a,k,V,rfl,hbn,hb,hm,hk64,ha,hN,hs1,hs2,hV,hs⟩:=hs
  refine dy (S:=[b]) (O:=[.cells (jw s N a) true]) (args0:=[.ptr 0 0,.si .i64 (k:Int)]) (an KZ 3 _) (by kernel_rfl) hr
   (n6 hbn hb (.inr rfl)) ?_ hk (K1 s N a k hk64 ha hN hs1 hs2) fun u H' n' ⟨h1,h2⟩=>?_
  ·exact .cons e1 (.cons (by have:=e2.mk;rw[hm]at this;exact this) .nil)
  ·subst h1;refine⟨1,jI [b] n H [(0,some (.cells (jw s N (a+k)) true))],Nat.le_refl _,fq.put (Nat.le_refl _) rfl (fun x hx o ho=>?_),rfl,?_⟩
   ·simp only[List.mem_cons,List.not_mem_nil,or_false]at hx;subst hx;injection ho with ho;subst ho;exact⟨h2,rfl,rfl⟩
   ·rw[<-hV]at hs;exact hs
 ·exact hs.elim
noncomputable def KG:FuncId->EP:=aw 233 tW KB
theorem TO:aW KG:=ae KZ K2
theorem ft {s:List Nat} {a j b:Nat} {B:List Nat} (h:aH s a (j+1)=b::B):aH s a 1=[b]/\aH s (a+1) j=B:=by
 rw[Nat.add_comm j 1,vr]at h;exact List.append_inj (s₂:=[b]) (t₂:=B) h (by rw[lC];rfl)
theorem K3 (s:List Nat) (N a U:Nat) (hU:U<18446744073709551616) (hrd:aH s a (bb U).length=bb U) (hle:a+(bb U).length<=N) (hN:N<=8*s.length) (hs1:s.length<=100000000) (hs:∀x∈s,x<256):ax KG 4 236 [.ptr 0 0] (mkH [(0,.cells (jw s N a) true)]) 1
 fun u H' _=>u= .tup [.si .u64 (U:Int),.int .i64 0]/\H'.get 0=some (.cells (jw s N (a+(bb U).length)) true):=by
 have d0:U≠0->U/2^0≠0:=fun h=>by simpa using h
 have d1:¬U<128->U/2^7≠0:=fun h=>Nat.ne_of_gt (Nat.div_pos (by show 128<=U;omega) (by decide))
 have d2:¬U<4096->U/2^12≠0:=fun h=>Nat.ne_of_gt (Nat.div_pos (by show 4096<=U;omega) (by decide))
 have d3:¬U<16777216->U/2^24≠0:=fun h=>Nat.ne_of_gt (Nat.div_pos (by show 16777216<=U;omega) (by decide))
 have z0:U=0->U/2^0=0:=fun h=>by simp[h]
 have z1:U<128->U/2^7=0:=fun h=>Nat.div_eq_of_lt h
 have z2:U<4096->U/2^12=0:=fun h=>Nat.div_eq_of_lt h
 have z3:U<16777216->U/2^24=0:=fun h=>Nat.div_eq_of_lt h
 by_cases c0:U=0
 ·have hcd:bb U=[0]++bitsOf U 0:=by
   unfold bb;rw[if_pos c0];rfl
  rw[hcd]at hrd hle⊢;have hlen:([0]++bitsOf U 0).length=1:=by rw[List.length_append,aL];rfl
  rw[hlen]at hrd hle⊢;obtain⟨r0,h0⟩:=ft (j:=0) hrd;have hnum:cz 0 (aH s (a+1) 0)=U:=by rw[show aH s (a+1) 0=bitsOf U 0 from h0];exact(ja 0 U 0).trans (by rw[Nat.zero_mul,Nat.zero_add];exact Nat.mod_eq_of_lt (by subst c0;decide))
  have v0:cz 0 (aH s (a) 1)=0:=by rw[r0];rfl
  conv=>whnf
  refine aS.roll 6 ?_
  conv=>whnf
  refine⟨0,s,N,a,1,0,rfl,by decide,rfl,rfl,by decide,by omega,hN,hs1,hs,v0,?_⟩
  conv=>whnf
  refine ag.dec (fun _=>?_) (fun h=>absurd rfl h)
  conv=>whnf
  refine⟨0,s,N,a+1,0,U,rfl,by decide,rfl,rfl,by decide,by omega,hN,hs1,hs,hnum,?_⟩
  conv=>whnf
  refine aS.roll 6 ?_
  conv=>whnf
  refine ag.dec (fun h=>absurd h (n8 (m:=0) rfl (z0 c0))) (fun _=>?_)
  conv=>whnf
  exact⟨rfl,rfl⟩
 ·skip
  by_cases c1:U<128
  ·have hcd:bb U=[1,0]++bitsOf U 7:=by
    unfold bb;rw[if_neg c0,if_pos c1]
   rw[hcd]at hrd hle⊢;have hlen:([1,0]++bitsOf U 7).length=9:=by rw[List.length_append,aL];rfl
   rw[hlen]at hrd hle⊢;obtain⟨r0,h0⟩:=ft (j:=8) hrd;obtain⟨r1,h1⟩:=ft (j:=7) h0;have hnum:cz 0 (aH s (a+1+1) 7)=U:=by rw[show aH s (a+1+1) 7=bitsOf U 7 from h1];exact(ja 0 U 7).trans (by rw[Nat.zero_mul,Nat.zero_add];exact Nat.mod_eq_of_lt (by omega))
   have v0:cz 0 (aH s (a) 1)=1:=by rw[r0];rfl
   have v1:cz 0 (aH s (a+1) 1)=0:=by rw[r1];rfl
   conv=>whnf
   refine aS.roll 6 ?_
   conv=>whnf
   refine⟨0,s,N,a,1,1,rfl,by decide,rfl,rfl,by decide,by omega,hN,hs1,hs,v0,?_⟩
   conv=>whnf
   refine ag.dec (fun h=>absurd h (by decide)) (fun _=>?_)
   conv=>whnf
   refine⟨0,s,N,a+1,1,0,rfl,by decide,rfl,rfl,by decide,by omega,hN,hs1,hs,v1,?_⟩
   conv=>whnf
   refine ag.dec (fun _=>?_) (fun h=>absurd rfl h)
   conv=>whnf
   refine⟨0,s,N,a+1+1,7,U,rfl,by decide,rfl,rfl,by decide,by omega,hN,hs1,hs,hnum,?_⟩
   conv=>whnf
   refine aS.roll 6 ?_
   conv=>whnf
   refine ag.dec (fun _=>?_) (fun h=>absurd h (c6 (m:=0) rfl (d0 c0)))
   conv=>whnf
   refine ag.dec (fun h=>absurd h (n8 (m:=7) rfl (z1 c1))) (fun _=>?_)
   conv=>whnf
   exact⟨rfl,rfl⟩
  ·skip
   by_cases c2:U<4096
   ·have hcd:bb U=[1,1,0]++bitsOf U 12:=by
     unfold bb;rw[if_neg c0,if_neg c1,if_pos c2]
    rw[hcd]at hrd hle⊢;have hlen:([1,1,0]++bitsOf U 12).length=15:=by rw[List.length_append,aL];rfl
    rw[hlen]at hrd hle⊢;obtain⟨r0,h0⟩:=ft (j:=14) hrd;obtain⟨r1,h1⟩:=ft (j:=13) h0;obtain⟨r2,h2⟩:=ft (j:=12) h1;have hnum:cz 0 (aH s (a+1+1+1) 12)=U:=by rw[show aH s (a+1+1+1) 12=bitsOf U 12 from h2];exact(ja 0 U 12).trans (by rw[Nat.zero_mul,Nat.zero_add];exact Nat.mod_eq_of_lt (by omega))
    have v0:cz 0 (aH s (a) 1)=1:=by rw[r0];rfl
    have v1:cz 0 (aH s (a+1) 1)=1:=by rw[r1];rfl
    have v2:cz 0 (aH s (a+1+1) 1)=0:=by rw[r2];rfl
    conv=>whnf
    refine aS.roll 6 ?_
    conv=>whnf
    refine⟨0,s,N,a,1,1,rfl,by decide,rfl,rfl,by decide,by omega,hN,hs1,hs,v0,?_⟩
    conv=>whnf
    refine ag.dec (fun h=>absurd h (by decide)) (fun _=>?_)
    conv=>whnf
    refine⟨0,s,N,a+1,1,1,rfl,by decide,rfl,rfl,by decide,by omega,hN,hs1,hs,v1,?_⟩
    conv=>whnf
    refine ag.dec (fun h=>absurd h (by decide)) (fun _=>?_)
    conv=>whnf
    refine⟨0,s,N,a+1+1,1,0,rfl,by decide,rfl,rfl,by decide,by omega,hN,hs1,hs,v2,?_⟩
    conv=>whnf
    refine ag.dec (fun _=>?_) (fun h=>absurd rfl h)
    conv=>whnf
    refine⟨0,s,N,a+1+1+1,12,U,rfl,by decide,rfl,rfl,by decide,by omega,hN,hs1,hs,hnum,?_⟩
    conv=>whnf
    refine aS.roll 6 ?_
    conv=>whnf
    refine ag.dec (fun _=>?_) (fun h=>absurd h (c6 (m:=0) rfl (d0 c0)))
    conv=>whnf
    refine ag.dec (fun _=>?_) (fun h=>absurd h (c6 (m:=7) rfl (d1 c1)))
    conv=>whnf
    refine ag.dec (fun h=>absurd h (n8 (m:=12) rfl (z2 c2))) (fun _=>?_)
    conv=>whnf
    exact⟨rfl,rfl⟩
   ·skip
    by_cases c3:U<16777216
    ·have hcd:bb U=[1,1,1,0]++bitsOf U 24:=by
      unfold bb;rw[if_neg c0,if_neg c1,if_neg c2,if_pos c3]
     rw[hcd]at hrd hle⊢;have hlen:([1,1,1,0]++bitsOf U 24).length=28:=by rw[List.length_append,aL];rfl
     rw[hlen]at hrd hle⊢;obtain⟨r0,h0⟩:=ft (j:=27) hrd;obtain⟨r1,h1⟩:=ft (j:=26) h0;obtain⟨r2,h2⟩:=ft (j:=25) h1;obtain⟨r3,h3⟩:=ft (j:=24) h2;have hnum:cz 0 (aH s (a+1+1+1+1) 24)=U:=by rw[show aH s (a+1+1+1+1) 24=bitsOf U 24 from h3];exact(ja 0 U 24).trans (by rw[Nat.zero_mul,Nat.zero_add];exact Nat.mod_eq_of_lt (by omega))
     have v0:cz 0 (aH s (a) 1)=1:=by rw[r0];rfl
     have v1:cz 0 (aH s (a+1) 1)=1:=by rw[r1];rfl
     have v2:cz 0 (aH s (a+1+1) 1)=1:=by rw[r2];rfl
     have v3:cz 0 (aH s (a+1+1+1) 1)=0:=by rw[r3];rfl
     conv=>whnf
     refine aS.roll 6 ?_
     conv=>whnf
     refine⟨0,s,N,a,1,1,rfl,by decide,rfl,rfl,by decide,by omega,hN,hs1,hs,v0,?_⟩
     conv=>whnf
     refine ag.dec (fun h=>absurd h (by decide)) (fun _=>?_)
     conv=>whnf
     refine⟨0,s,N,a+1,1,1,rfl,by decide,rfl,rfl,by decide,by omega,hN,hs1,hs,v1,?_⟩
     conv=>whnf
     refine ag.dec (fun h=>absurd h (by decide)) (fun _=>?_)
     conv=>whnf
     refine⟨0,s,N,a+1+1,1,1,rfl,by decide,rfl,rfl,by decide,by omega,hN,hs1,hs,v2,?_⟩
     conv=>whnf
     refine ag.dec (fun h=>absurd h (by decide)) (fun _=>?_)
     conv=>whnf
     refine⟨0,s,N,a+1+1+1,1,0,rfl,by decide,rfl,rfl,by decide,by omega,hN,hs1,hs,v3,?_⟩
     conv=>whnf
     refine ag.dec (fun _=>?_) (fun h=>absurd rfl h)
     conv=>whnf
     refine⟨0,s,N,a+1+1+1+1,24,U,rfl,by decide,rfl,rfl,by decide,by omega,hN,hs1,hs,hnum,?_⟩
     conv=>whnf
     refine aS.roll 6 ?_
     conv=>whnf
     refine ag.dec (fun _=>?_) (fun h=>absurd h (c6 (m:=0) rfl (d0 c0)))
     conv=>whnf
     refine ag.dec (fun _=>?_) (fun h=>absurd h (c6 (m:=7) rfl (d1 c1)))
     conv=>whnf
     refine ag.dec (fun _=>?_) (fun h=>absurd h (c6 (m:=12) rfl (d2 c2)))
     conv=>whnf
     refine ag.dec (fun h=>absurd h (n8 (m:=24) rfl (z3 c3))) (fun _=>?_)
     conv=>whnf
     exact⟨rfl,rfl⟩
    ·skip
     have hcd:bb U=[1,1,1,1]++bitsOf U 64:=by
      unfold bb;rw[if_neg c0,if_neg c1,if_neg c2,if_neg c3]
     rw[hcd]at hrd hle⊢;have hlen:([1,1,1,1]++bitsOf U 64).length=68:=by rw[List.length_append,aL];rfl
     rw[hlen]at hrd hle⊢;obtain⟨r0,h0⟩:=ft (j:=67) hrd;obtain⟨r1,h1⟩:=ft (j:=66) h0;obtain⟨r2,h2⟩:=ft (j:=65) h1;obtain⟨r3,h3⟩:=ft (j:=64) h2;have hnum:cz 0 (aH s (a+1+1+1+1) 64)=U:=by rw[show aH s (a+1+1+1+1) 64=bitsOf U 64 from h3];exact(ja 0 U 64).trans (by rw[Nat.zero_mul,Nat.zero_add];exact Nat.mod_eq_of_lt (by omega))
     have v0:cz 0 (aH s (a) 1)=1:=by rw[r0];rfl
     have v1:cz 0 (aH s (a+1) 1)=1:=by rw[r1];rfl
     have v2:cz 0 (aH s (a+1+1) 1)=1:=by rw[r2];rfl
     have v3:cz 0 (aH s (a+1+1+1) 1)=1:=by rw[r3];rfl
     conv=>whnf
     refine aS.roll 6 ?_
     conv=>whnf
     refine⟨0,s,N,a,1,1,rfl,by decide,rfl,rfl,by decide,by omega,hN,hs1,hs,v0,?_⟩
     conv=>whnf
     refine ag.dec (fun h=>absurd h (by decide)) (fun _=>?_)
     conv=>whnf
     refine⟨0,s,N,a+1,1,1,rfl,by decide,rfl,rfl,by decide,by omega,hN,hs1,hs,v1,?_⟩
     conv=>whnf
     refine ag.dec (fun h=>absurd h (by decide)) (fun _=>?_)
     conv=>whnf
     refine⟨0,s,N,a+1+1,1,1,rfl,by decide,rfl,rfl,by decide,by omega,hN,hs1,hs,v2,?_⟩
     conv=>whnf
     refine ag.dec (fun h=>absurd h (by decide)) (fun _=>?_)
     conv=>whnf
     refine⟨0,s,N,a+1+1+1,1,1,rfl,by decide,rfl,rfl,by decide,by omega,hN,hs1,hs,v3,?_⟩
     conv=>whnf
     refine ag.dec (fun h=>absurd h (by decide)) (fun _=>?_)
     conv=>whnf
     refine⟨0,s,N,a+1+1+1+1,64,U,rfl,by decide,rfl,rfl,by decide,by omega,hN,hs1,hs,hnum,?_⟩
     conv=>whnf
     refine aS.roll 6 ?_
     conv=>whnf
     refine ag.dec (fun _=>?_) (fun h=>absurd h (c6 (m:=0) rfl (d0 c0)))
     conv=>whnf
     refine ag.dec (fun _=>?_) (fun h=>absurd h (c6 (m:=7) rfl (d1 c1)))
     conv=>whnf
     refine ag.dec (fun _=>?_) (fun h=>absurd h (c6 (m:=12) rfl (d2 c2)))
     conv=>whnf
     refine ag.dec (fun _=>?_) (fun h=>absurd h (c6 (m:=24) rfl (d3 c3)))
     conv=>whnf
     exact⟨rfl,rfl⟩
def za (args:List AV) (H:AH) (n:Nat) (κ:PK):Prop:=match args with
 | [x]=>∃(b:Nat) (s:List Nat) (N a U:Nat),x= .ptr b 0/\b<n/\H.get b=some (.cells (jw s N a) true)/\U<18446744073709551616/\aH s a (bb U).length=bb U/\a+(bb U).length<=N/\N<=8*s.length/\s.length<=100000000/\(∀x∈s,x<256)/\
  κ (.tup [.si .u64 (U:Int),.int .i64 0]) (H.set (some (.cells (jw s N (a+(bb U).length)) true)) aa b) n
 |_=>False
theorem Ro:ai 236 za:=fun args H n κ hs φ h0' hp vs K hr hargs hk=>by
 unfold za at hs;split at hs
 ·obtain⟨x,rfl,e1⟩:=vs1 hargs;obtain⟨b,s,N,a,U,rfl,hbn,hb,hU,hrd,ha,hN,hs1,hs2,hs⟩:=hs
  refine dy (S:=[b]) (O:=[.cells (jw s N a) true]) (args0:=[.ptr 0 0]) (an TO 4 _) (by kernel_rfl) hr
   (n6 hbn hb (.inr rfl)) (.cons e1 .nil) hk (K3 s N a U hU hrd ha hN hs1 hs2) fun u H' n' ⟨h1,h2⟩=>?_
  subst h1;refine⟨1,jI [b] n H [(0,some (.cells (jw s N (a+(bb U).length)) true))],Nat.le_refl _,fq.put (Nat.le_refl _) rfl (fun x hx o ho=>?_),rfl,hs⟩;simp only[List.mem_cons,List.not_mem_nil,or_false]at hx;subst hx;injection ho with ho;subst ho;exact⟨h2,rfl,rfl⟩
 ·exact hs.elim
def qW (r:Nat) (T V st:Int):List AV:=[.ptr r 0,.si .i64 T,.si .i64 V,.si .i64 st,.int .i64 0]
def Rp:DT:=[(5,[(some 1000000,[3,5]),(none,[0,1,2,3,4,5,6,7,8,9]),(none,[0,1,2,4,5,3,6,7,8,9])]),(7,[(some 1000000,[4,6]),(none,[0,1,2,3,4,5,6,7,8,9,10,11]),(none,[0,1,2,3,5,6,4,7,8,9,10,11])])]
noncomputable def KN:FuncId->EP:=aV 211 Rp (aw 236 za (aw 233 tW KB))
theorem TP:aW KN:=aq (ae (ae KZ K2) Ro) (by kernel_rfl) (by kernel_rfl)
theorem BI (x:Int):cz 0 (bitsOf (gO x) 64)=gO x:=(ja 0 _ 64).trans (by rw[Nat.zero_mul,Nat.zero_add];exact Nat.mod_eq_of_lt (DM x))
theorem Fw {u:Nat} (h:u<18446744073709551616):bY .xor .i64 (IntKind.i64.wrap (((u:Nat):Int).fdiv ((2:Int)^min (Int.toNat 1) IntKind.u64.bits))) (IntKind.i64.wrap (0-IntKind.i64.wrap (bY .and .u64 ((u:Nat):Int) 1)))=n5 u:=Rf h
theorem H6 (s:List Nat) (N a:Nat) (T V st T' V':Int) (h1:aH s a 64=bitsOf (gO T') 64) (h2:aH s (a+64) 64=bitsOf (gO V') 64) (hT:aN T') (hV:aN V') (hle:a+64+64<=N) (hN:N<=8*s.length) (hs1:s.length<=100000000) (hs:∀x∈s,x<256):
 ax KN 6 211 [.ptr 0 0,.sb true] (mkH [(0,.cells (qW 1 T V st) true),(1,.cells (jw s N a) true)]) 2
 fun u H' _=>u= .agg [.si .i64 T',.si .i64 V']/\H'.get 0=some (.cells (qW 1 T' V' st) true)/\H'.get 1=some (.cells (jw s N (a+64+64)) true):=by
 have e1:cz 0 (aH s a 64)=gO T':=by rw[h1,BI]
 have e2:cz 0 (aH s (a+64) 64)=gO V':=by rw[h2,BI]
 have b1:IntKind.i64.wrap ((gO T':Nat):Int)=T':=Bu hT;have b2:IntKind.i64.wrap ((gO V':Nat):Int)=V':=Bu hV;have q1:=congr (congrArg (fun x y=>AV.agg [.si .i64 x,.si .i64 y]) b1) b2;have q2:=congr (congrArg (fun x y=>some (AO.cells (qW 1 x y st) true)) b1) b2
 conv=>whnf
 refine ag.sb (fun _=>?_) (fun h=>by cases h)
 conv=>whnf
 refine⟨1,s,N,a,64,gO T',rfl,by decide,rfl,rfl,by decide,by omega,hN,hs1,hs,e1,?_⟩
 conv=>whnf
 refine⟨1,s,N,a+64,64,gO V',rfl,by decide,rfl,rfl,by decide,by omega,hN,hs1,hs,e2,?_⟩
 conv=>whnf
 exact⟨q1,q2,rfl⟩
theorem H8 (s:List Nat) (N a U W:Nat) (T V st:Int) (hU:U<18446744073709551616) (hW:W<18446744073709551616) (h1:aH s a (bb U).length=bb U) (h2:aH s (a+(bb U).length) (bb W).length=bb W) (hle:a+(bb U).length+(bb W).length<=N) (hN:N<=8*s.length) (hs1:s.length<=100000000) (hs:∀x∈s,x<256):
 ax KN 6 211 [.ptr 0 0,.sb false] (mkH [(0,.cells (qW 1 T V st) true),(1,.cells (jw s N a) true)]) 2
 fun u H' _=>u= .agg [.si .i64 (W64 (T+W64 (st+n5 U))),.si .i64 (W64 (V+n5 W))]/\H'.get 0=some (.cells (qW 1 (W64 (T+W64 (st+n5 U))) (W64 (V+n5 W)) (W64 (st+n5 U))) true)/\H'.get 1=some (.cells (jw s N (a+(bb U).length+(bb W).length)) true):=by
 have z1:=Fw hU;have z2:=Fw hW;have q1:=congr (congrArg (fun x y=>AV.agg [.si .i64 (W64 (T+W64 (st+x))),.si .i64 (W64 (V+y))]) z1) z2;have q2:=congr (congrArg (fun x y=>some (AO.cells (qW 1 (W64 (T+W64 (st+x))) (W64 (V+y)) (W64 (st+x))) true)) z1) z2;have hle1:a+(bb U).length<=N:=by omega
 conv=>whnf
 refine ag.sb (fun h=>by cases h) (fun _=>?_)
 conv=>whnf
 refine⟨?_,?_,trivial⟩<;>(
  conv=>whnf
  refine⟨1,s,N,a,U,rfl,by decide,rfl,hU,h1,hle1,hN,hs1,hs,?_⟩
  conv=>whnf
  refine⟨?_,?_,trivial⟩<;>(
   conv=>whnf
   refine⟨1,s,N,a+(bb U).length,W,rfl,by decide,rfl,hW,h2,hle,hN,hs1,hs,?_⟩
   conv=>whnf
   exact⟨q1,q2,rfl⟩))
inductive Fx (s:List Nat) (a:Nat) (T V st:Int):Bool->Nat->Int->Int->Int->Prop where
 |first{T' V':Int} (h1:aH s a 64=bitsOf (gO T') 64) (h2:aH s (a+64) 64=bitsOf (gO V') 64) (hT:aN T') (hV:aN V'):Fx s a T V st true (a+64+64) T' V' st
 |more {U W:Nat} (hU:U<18446744073709551616) (hW:W<18446744073709551616) (h1:aH s a (bb U).length=bb U) (h2:aH s (a+(bb U).length) (bb W).length=bb W):Fx s a T V st false (a+(bb U).length+(bb W).length) (W64 (T+W64 (st+n5 U))) (W64 (V+n5 W)) (W64 (st+n5 U))
def zb (args:List AV) (H:AH) (n:Nat) (κ:PK):Prop:=match args with
 | [x,q]=>∃(b c:Nat) (s:List Nat) (N a a':Nat) (T V st T' V' st':Int) (f:Bool),x= .ptr b 0/\mk q= .sb f/\b≠c/\b<n/\c<n/\H.get b=some (.cells (qW c T V st) true)/\H.get c=some (.cells (jw s N a) true)/\Fx s a T V st f a' T' V' st'/\a'<=N/\N<=8*s.length/\s.length<=100000000/\(∀x∈s,x<256)/\
  κ (.agg [.si .i64 T',.si .i64 V']) ((H.set (some (.cells (jw s N a') true)) aa c).set (some (.cells (qW c T' V' st') true)) aa b) n
 |_=>False
theorem Rq:ai 211 zb:=fun args H n κ hs φ h0' hp vs K hr hargs hk=>by
 unfold zb at hs;split at hs
 ·obtain⟨x,y,rfl,e1,e2⟩:=vs2 hargs;obtain⟨b,c,s,N,a,a',T,V,st,T',V',st',f,rfl,hq,hbc,hbn,hcn,hb,hc,hnx,ha,hN,hs1,hs2,hs⟩:=hs
  have key:ax KN 6 211 [.ptr 0 0,.sb f] (mkH [(0,.cells (qW 1 T V st) true),(1,.cells (jw s N a) true)]) 2
   fun u H' _=>u= .agg [.si .i64 T',.si .i64 V']/\H'.get 0=some (.cells (qW 1 T' V' st') true)/\H'.get 1=some (.cells (jw s N a') true):=by
   cases hnx with
   |first h1 h2 hT hV=>exact H6 s N a T V st T' V' h1 h2 hT hV ha hN hs1 hs2
   |more hU hW h1 h2=>exact H8 s N a _ _ T V st hU hW h1 h2 ha hN hs1 hs2
  refine dy (S:=[b,c]) (O:=[.cells (qW 1 T V st) true,.cells (jw s N a) true]) (args0:=[.ptr 0 0,.sb f]) (an TP 6 _) (by kernel_rfl) hr
   (y8 hbc hbn hcn hb hc (.inr rfl) (.inr rfl)) (.cons e1 (.cons (by have:=e2.mk;rw[hq]at this;exact this) .nil)) hk key fun u H' n' ⟨h1,h2,h3⟩=>?_
  subst h1;refine⟨2,jI [b,c] n H [(0,some (.cells (qW 1 T' V' st') true)),(1,some (.cells (jw s N a') true))],Nat.le_refl _,fq.put (Nat.le_refl _) rfl (fun x hx o ho=>?_),rfl,hs⟩;simp only[List.mem_cons,List.not_mem_nil,or_false]at hx;rcases hx with rfl|rfl
  ·injection ho with ho;subst ho;exact⟨h2,rfl,rfl⟩
  ·injection ho with ho;subst ho;exact⟨h3,rfl,rfl⟩
 ·exact hs.elim
def tP (X:Smp) (i:Nat):Int:=if i=0 then 0 else tAt X (i-1)
def vP (X:Smp) (i:Nat):Int:=if i=0 then 0 else vAt X (i-1)
theorem NO {X:Smp} {i:Nat} (h:i<X.length):aH (pack (aT X)) (aE X i).length (cf X i).length=cf X i:=by
 obtain⟨D,hD⟩:=DO h;exact Bw (xO X) hD
theorem K4 {s:List Nat} {a:Nat} {A B:List Nat} (h:aH s a (A++B).length=A++B):aH s a A.length=A/\aH s (a+A.length) B.length=B:=by
 rw[List.length_append,vr]at h;exact List.append_inj h (by rw[lC])
theorem vu (X:Smp) (i:Nat):(aE X (i+1)).length=(aE X i).length+(cf X i).length:=by rw[pX,List.length_append]
theorem K5 {X:Smp} {i:Nat} (h:i<=X.length):(aE X i).length<=(aT X).length:=by
 obtain⟨D,hD⟩:=sa X i (X.length-i);rw[show i+(X.length-i)=X.length from by omega]at hD;show _<=(aE X X.length).length;rw[hD,List.length_append];omega
theorem K6 {X:Smp} (h64:∀x∈X,aN x.1/\aN x.2) {i:Nat} (h:i<X.length):Fx (pack (aT X)) (aE X i).length (tP X i) (vP X i) (dM X i) (decide ((i:Int)=0)) (aE X (i+1)).length (tP X (i+1)) (vP X (i+1)) (dM X (i+1)):=by
 have hr:=NO h;have ht:=(KO h64 i).1;have hv:=(KO h64 i).2;by_cases h0:i=0
 ·subst h0;obtain⟨r1,r2⟩:=K4 (A:=bitsOf (gO (tAt X 0)) 64) (B:=bitsOf (gO (vAt X 0)) 64) hr;rw[aL]at r1;rw[aL,aL]at r2;have e:(aE X (0+1)).length=(aE X 0).length+64+64:=by rw[vu];simp[cf,aL]
  rw[e];exact .first r1 r2 ht hv
 ·have hd:decide ((i:Int)=0)=false:=decide_eq_false (by omega);have es:cf X i=bb (dT X i)++bb (dV X i):=by unfold cf;rw[if_neg h0]
  rw[es]at hr;obtain⟨r1,r2⟩:=K4 hr;have e:(aE X (i+1)).length=(aE X i).length+(bb (dT X i)).length+(bb (dV X i)).length:=by rw[vu,es,List.length_append];omega
  have e1:tP X (i+1)=W64 (tP X i+W64 (dM X i+n5 (dT X i))):=by
   rw[BG X h0];unfold tP;rw[if_neg (by omega),if_neg h0];exact(TK h0 ht).symm
  have e2:vP X (i+1)=W64 (vP X i+n5 (dV X i)):=by
   unfold vP;rw[if_neg (by omega),if_neg h0];exact(TL hv).symm
  rw[hd,e,e1,e2,<-BG X h0];exact .more (Qj X i) (Qk X i) r1 r2
theorem BJ (L:Smp) (x:Int×Int):smp (L++ [x])=smp L++ [.si .i64 x.1,.si .i64 x.2]:=by simp[smp]
theorem tyS:RTy 52 52 2 16:=⟨_,_,_,rfl,rfl,(fun q h=>by cases h),rfl,rfl,rfl,rfl,by decide,by decide⟩
noncomputable def dc (X:Smp) (i:Nat):AE×AH:=(mkE [(2,.si .i64 (((X.length:Nat):Int))),(8,.ptr 0 (0)),(10,.ptr 1 (0)),(11,.rw 2 0 i 2 0),(12,.si .i64 (((i:Nat):Int)))],mkH [(0,.cells (jw (pack (aT X)) (aT X).length (aE X i).length) true),(1,.cells (qW 0 (tP X i) (vP X i) (dM X i)) true),(2,.cells (smp ((X.take i))) true)])
theorem K7 {X:Smp} {i:Nat} {p n:Nat} {σ:AE} {H:AH} (j2:Nat) (hj:j2≠0/\j2≠1) (hp:p<=0) (e2:mk (ak (pa 2) σ)= .si .i64 (((X.length:Nat):Int))) (e8:ak (pa 8) σ= .ptr 0 (0)) (e10:ak (pa 10) σ= .ptr 1 (0)) (e11:ah H 3 (fun b=>if b=2 then j2 else b) (ak (pa 11) σ) (.rw 2 0 i 2 0)) (e12:mk (ak (pa 12) σ)= .si .i64 (((i:Nat):Int))) (h0:∃l,H.get 0=some (.cells l true)/\l5 H 3 (fun b=>if b=2 then j2 else b) l (jw (pack (aT X)) (aT X).length (aE X i).length)) (h1:∃l,H.get 1=some (.cells l true)/\l5 H 3 (fun b=>if b=2 then j2 else b) l (qW 0 (tP X i) (vP X i) (dM X i))) (h2:(∃l,H.get j2=some (.cells l true)/\l.map mk=smp ((X.take i)))∨(((X.take i))=[]/\n<=j2)):Cov p σ H n ((dc X i).1,(dc X i).2,3):=
 Cov.ofB (fun b=>if b=2 then j2 else b) (by omega) (fun b hb=>by repeat' rw[if_neg (by omega)]) ⟨.int e2,.ptr (by decide) e8,.ptr (by decide) e10,e11,.int e12,trivial⟩ ⟨.inl (h0.elim fun l h=>⟨_,h.1,au.st h.2⟩),.inl (h1.elim fun l h=>⟨_,h.1,au.st h.2⟩),h2.elim (fun⟨l,h,g⟩=> .inl ⟨_,h,au.bz (b6 _) (by rw[g,bJ]) (fun q=>q)⟩) (fun h=> .inr ⟨by rw[h.1];rfl,h.2⟩),trivial⟩ rfl (fun x hx y hy=>by simp only[List.mem_cons,List.not_mem_nil,or_false]at hx hy;rcases hx with rfl|rfl|rfl<;>rcases hy with rfl|rfl|rfl<;>simp<;>omega)
noncomputable def KD:FuncId->EP:=aV 179 [] (aV 212 [] (aw 211 zb evP))
theorem TQ:aW KD:=aq (aq (ae az Rq) (by kernel_rfl) (by kernel_rfl)) (by kernel_rfl) (by kernel_rfl)
theorem NP (X:Smp) (hX:X.length<=100000) (h64:∀x∈X,aN x.1/\aN x.2):ax KD 4 179 [.ss (pack (aT X)),.si .i64 ((aT X).length:Int),.si .i64 (X.length:Int)] .nil 0
 fun u H' _=>Ko X 0 u H':=by
 have hbl:=Bv X;have hpl:=bh (aT X);have hN:(aT X).length<=8*(pack (aT X)).length:=by omega
 have h8:IntKind.i64.wrap (8*((pack (aT X)).length:Int))=((8*(pack (aT X)).length:Nat):Int):=cU ⟨by omega,by omega⟩;have hgt:¬IntKind.i64.wrap (8*((pack (aT X)).length:Int))<((aT X).length:Int):=by rw[h8];omega
 have hs2:=Fj (xO X)
 conv=>whnf
 refine ag.dec (fun h=>absurd h (by omega)) (fun _=>?_)
 conv=>whnf
 refine ag.dec (fun h=>absurd h hgt) (fun _=>?_)
 conv=>whnf
 refine ag.dec (fun h=>absurd h (by omega)) (fun _=>?_)
 conv=>whnf
 refine ag.dec (fun h=>absurd h (by omega)) (fun _=>?_)
 conv=>whnf
 refine aS.mk {i:Nat//i<=X.length} 3 (fun i=>dc X i.val) (fun i=>X.length-i.val) ⟨0,Nat.zero_le _⟩ ?_ ?_
 ·exact K7 (j2:=2) (by decide) (Nat.le_refl 0) rfl rfl rfl (.iD rfl) rfl ⟨_,rfl,.cons (.str rfl) (.cons (.int rfl) (.cons (.int rfl) (.cons (.bool rfl) .nil)))⟩ ⟨_,rfl,.cons (.ptr (by decide) rfl) (.cons (.int rfl) (.cons (.int rfl) (.cons (.int rfl) (.cons (.mk1 rfl rfl) .nil))))⟩ (.inr ⟨rfl,Nat.le_refl _⟩)
 ·intro⟨i,hi⟩
  conv=>whnf
  refine ag.dec (fun h=>?_) (fun h=>?_)
  ·have hi2:i<X.length:=by exact Int.ofNat_lt.1 h
   have hnx:=K6 h64 hi2;have ha:(aE X (i+1)).length<=(aT X).length:=K5 hi2;have hs1:(pack (aT X)).length<=100000000:=by omega
   have hi1:IntKind.i64.wrap ((i:Int)+1)=(((i+1:Nat)):Int):=cU ⟨by omega,by omega⟩;have hrow:bp (smp (X.take i)) 0 (i*2)=some (smp (X.take i)):=bq (by rw[bf,List.length_take];omega);have hbig:(i+1)*16<=140737488355328:=by omega
   have htk:smp (X.take i)++ [.si .i64 (tP X (i+1)),.si .i64 (vP X (i+1))]=smp (X.take (i+1)):=by
    rw[List.take_succ_eq_append_getElem hi2,BJ];unfold tP vP;rw[if_neg (by omega),if_neg (by omega),Nat.add_sub_cancel,eR hi2,pW hi2]
   conv=>whnf
   refine⟨1,0,pack (aT X),(aT X).length,(aE X i).length,(aE X (i+1)).length,tP X i,vP X i,dM X i,tP X (i+1),vP X (i+1),dM X (i+1),_,rfl,rfl,by decide,by decide,by decide,rfl,rfl,hnx,ha,hN,hs1,hs2,?_⟩
   conv=>whnf
   refine bC.grow 2 16 _ _ _ _ _ _ tyS (.old rfl) rfl rfl (.rw rfl hrow) hbig ?_
   conv=>whnf
   exact⟨⟨i+1,hi2⟩,(show X.length-(i+1)<X.length-i by omega),K7 (j2:=4) (by decide) (Nat.le_refl 0) rfl rfl rfl (ah.rw (by decide) rfl) (congrArg (AV.si .i64) hi1) ⟨_,rfl,.cons (.str rfl) (.cons (.int rfl) (.cons (.int rfl) (.cons (.bool rfl) .nil)))⟩ ⟨_,rfl,.cons (.ptr (by decide) rfl) (.cons (.int rfl) (.cons (.int rfl) (.cons (.int rfl) (.cons (.mk1 rfl rfl) .nil))))⟩ (.inl ⟨_,rfl,(congrArg (List.map mk) htk).trans (bJ _)⟩)⟩
  ·have hi3:i=X.length:=by have:¬i<X.length:=fun q=>h (Int.ofNat_lt.2 q);omega
   subst hi3
   conv=>whnf
   refine ag.dec (fun h=>absurd h (by rw[show IntKind.i64.wrap (((aT X).length:Int)-((aE X X.length).length:Int))=0 from(cU ⟨by show _<=((aT X).length:Int)-((aT X).length:Int);omega,by show((aT X).length:Int)-((aT X).length:Int)<=_;omega⟩).trans (Int.sub_self _)];decide)) (fun _=>?_)
   conv=>whnf
   have hrow:bp (smp (X.take X.length)) 0 (X.length*2)=some (smp X):=by rw[List.take_length];exact fh X
   exact⟨_,_,rfl,rfl,lb.rw rfl rfl hrow (bJ X)⟩
def zd (args:List AV) (H:AH) (n:Nat) (κ:PK):Prop:=match args with
 | [x,y,z]=>∃X:Smp,mk x= .ss (pack (aT X))/\mk y= .si .i64 ((aT X).length:Int)/\mk z= .si .i64 (X.length:Int)/\X.length<=100000/\(∀x∈X,aN x.1/\aN x.2)/\Fa (TG 0) X H n κ
 |_=>False
theorem Qn:ai 179 zd:=fun args H n κ hs φ h0' hp vs K hr hargs hk=>by
 unfold zd at hs;split at hs
 ·obtain⟨x,y,z,rfl,e1,e2,e3⟩:=vs3 hargs;obtain⟨X,h1,h2,h3,hX,h64,hs⟩:=hs;exact HS TQ (fun _ _ h=>h) (NP X hX h64) hs hr hk (by kernel_rfl) HR.ro0 (.cons (ba rfl (h1▸e1.mk)) (.cons (ba rfl (h2▸e2.mk)) (.cons (ba rfl (h3▸e3.mk)) .nil)))
 ·exact hs.elim
theorem ah.frE {H:AH} {m:Nat} {r:Nat->Nat} {a:AV} {n k:Nat} {l:List AV} (e:a= .fr n k l):ah H m r a (.fr n k l):=by subst e;exact .nL rfl
theorem lR.frz {φ:Ph} {H:AH} {n:Nat} {h0 hp:Hp} (hr:HR φ H n h0 hp) {a:AV} {L:Smp} {v:Value} (hS:lR H a L∨a= .fr L.length 2 (smp L)) (hv:VR φ a v):
 ∃z:Fz->Prop,(Wf hp->HR ⟨fun _=>none,z,z,fun _ _=>False⟩ .nil 0 hp hp)/\VR ⟨fun _=>none,z,z,fun _ _=>False⟩ (.fr L.length 2 (smp L)) v:=by
 rcases hS with hS|rfl
 ·rcases hS.open hr hv with⟨rfl,h⟩|⟨p,C,hC,⟨c,t,fz,h1,h2,h3,h4⟩,h⟩
  ·refine⟨fun _=>False,fun hw=>fB hw,?_⟩;rw[(h φ).cP];exact .fre fun _=>rfl
  ·have hst:(smp L).all nL=true:=by
    rw[List.all_eq_true];intro y hy;have:=List.all_eq_true.1 (b6 L) y hy;cases y<;>first|rfl|cases this
   refine⟨fun q=>q=⟨p.B,p.s,smp L⟩,fun hw=>⟨fun _ _ k=>(by cases k),fun _ _ k=>(by cases k),fun _ _ _ _ _ _ k=>(by cases k),fun b o k=>⟨hw b o k,k⟩,Nat.le_refl _,fun q hq=>⟨?_,fun _ _ _ k=>(by cases k)⟩,fun _ _ k=>(by cases k)⟩,?_⟩
   ·subst hq;exact⟨⟨⟨hw _ _ h1,hst⟩,c,t,fz,h1,(show p.s+(smp L).length<=c.size by omega),h4 _⟩,.inl rfl⟩
   ·obtain⟨p1,C1,g1,rfl,g3,_⟩:=(h (ph1 p) 0 rfl).yG;have:p=p1:=by simpa[ph1]using g1
    subst this;exact .fr (q:=⟨p.B,p.s,smp L⟩) (o:=0) rfl (by rw[g3 rfl];exact hC) (bq (bf L))
 ·exact⟨φ.z,fun hw=>hr.xL (fB hw) (fun _ _ h=>by cases h) (fun _ h=>h),k7 (ψ:=⟨fun _=>none,φ.z,φ.z,fun _ _=>False⟩) (fun _ h=>h) rfl hv⟩
noncomputable def KL:FuncId->EP:=aV 123 [] evP
theorem TS:aW KL:=aq az (by kernel_rfl) (by kernel_rfl)
noncomputable def pl0 (L:Smp) (t:Int) (i:Nat):AE×AH:=(mkE [(0,.fr L.length 2 (smp L)),(1,.si .i64 (t)),(6,.si .i64 (((i:Nat):Int)))],mkH [])
theorem Fy {L:Smp} {t:Int} {i:Nat} {p n:Nat} {σ:AE} {H:AH} (hp:p<=0) (e0:ak (pa 0) σ= .fr L.length 2 (smp L)) (e1:mk (ak (pa 1) σ)= .si .i64 (t)) (e6:mk (ak (pa 6) σ)= .si .i64 (((i:Nat):Int))):Cov p σ H n ((pl0 L t i).1,(pl0 L t i).2,0):=
 Cov.ofA hp ⟨ah.frE e0,.int e1,.int e6,trivial⟩ trivial rfl
theorem H9 (L:Smp) (t:Int) (hL:L.length<=100000000):ax KL 3 123 [.fr L.length 2 (smp L),.si .i64 t] .nil 0 fun u _ _=>mkT u=mkT (.tup [.si .i64 ((plc L t:Nat):Int),.sb (has L t)]):=by
 conv=>whnf
 refine aS.mk {i:Nat//i<=plc L t} 0 (fun i=>pl0 L t i.val) (fun i=>L.length-i.val) ⟨0,Nat.zero_le _⟩ ?_ ?_
 ·exact Fy (Nat.le_refl 0) rfl rfl rfl
 ·intro⟨i,hi⟩;have hpl:=pV L t
  conv=>whnf
  refine ag.dec (fun h=>?_) (fun h=>?_)
  ·have hi2:i<L.length:=by exact Int.ofNat_lt.1 h
   have hti:tAt L i=L[i].1:=eR hi2;have hi1:IntKind.i64.wrap ((i:Int)+1)=(((i+1:Nat)):Int):=cU ⟨by omega,by omega⟩
   conv=>whnf
   refine Idx.mk i rfl hi2 ?_
   conv=>whnf
   refine ay (vf hi2 rfl) ?_
   conv=>whnf
   refine ag.dec (fun h2=>?_) (fun h2=>?_)
   ·have hlt:i+1<=plc L t:=by
     rcases Nat.lt_or_ge i (plc L t)with q|q
     ·exact q
     ·have e:i=plc L t:=by omega
      have:=DS (L:=L) (t:=t) (by omega);rw[<-e,hti]at this;omega
    conv=>whnf
    exact⟨⟨i+1,hlt⟩,(show L.length-(i+1)<L.length-i by omega),Fy (Nat.le_refl 0) rfl rfl (congrArg (AV.si .i64) hi1)⟩
   ·have e:i=plc L t:=by
     rcases Nat.lt_or_ge i (plc L t)with q|q
     ·have:=DR q;rw[hti]at this;exact absurd this h2
     ·omega
    have hb:decide (L[i].1=t)=has L t:=by
     unfold has;rw[<-e,hti];simp[hi2]
    have hq:=congr (congrArg (fun(x:Nat) y=>AV.tup [.si .i64 (x:Int),.sb y]) e) hb
    conv=>whnf
    refine ag.dec (fun _=>?_) (fun q=>absurd h q)
    conv=>whnf
    refine Idx.mk i rfl hi2 ?_
    conv=>whnf
    refine ay (vf hi2 rfl) ?_
    conv=>whnf
    exact hq
  ·have e:i=plc L t:=by have:¬i<L.length:=fun q=>h (Int.ofNat_lt.2 q);omega
   have hb:false=has L t:=by
    unfold has;refine(decide_eq_false fun q=>?_).symm;have:¬i<L.length:=fun q=>h (Int.ofNat_lt.2 q)
    omega
   have hq:=congr (congrArg (fun(x:Nat) y=>AV.tup [.si .i64 (x:Int),.sb y]) e) hb
   conv=>whnf
   refine ag.dec (fun q=>absurd q h) (fun _=>?_)
   conv=>whnf
   exact hq
def K8 (args:List AV) (H:AH) (n:Nat) (κ:PK):Prop:=match args with
 | [x,y]=>∃(L:Smp) (t:Int),(lR H x L∨x= .fr L.length 2 (smp L))/\mk y= .si .i64 t/\L.length<=100000000/\κ (.tup [.si .i64 ((plc L t:Nat):Int),.sb (has L t)]) H n
 |_=>False
theorem NQ:ai 123 K8:=fun args H n κ hs φ h0' hp vs K hr hargs hk=>by
 unfold K8 at hs;split at hs
 ·obtain⟨x,y,rfl,e1,e2⟩:=vs2 hargs;obtain⟨L,t,hS,hy,hL,hs⟩:=hs;obtain⟨z,hz,hv⟩:=lR.frz hr hS e1;exact gM TS (v:= .tup [.si .i64 ((plc L t:Nat):Int),.sb (has L t)]) rfl (H9 L t hL) hs hr hk (by kernel_rfl) hz (.cons hv (.cons (ba rfl (hy▸e2.mk)) .nil))
 ·exact hs.elim
theorem Ia (p a b:Int):ax evP 4 217 [.si .i64 p,.si .i64 a,.si .i64 b] .nil 0 fun u _ _=>mkT u=mkT (.tup [.si .i64 (br p a b).1,.si .i64 (br p a b).2]):=by
 have key:∀{x y:Int},br p a b=(x,y)->mkT (.tup [.si .i64 x,.si .i64 y])=mkT (.tup [.si .i64 (br p a b).1,.si .i64 (br p a b).2]):=fun e=>by rw[e]
 conv=>whnf
 refine ag.dec (fun h1=>?_) (fun h1=>?_)
 ·have e:=key (x:=0) (y:=8) (by simp[br,h1])
  conv=>whnf
  exact e
 conv=>whnf
 refine ag.dec (fun h2=>?_) (fun h2=>?_)
 ·have e:=key (x:=a) (y:=0) (by simp[br,h2])
  conv=>whnf
  exact e
 conv=>whnf
 refine ag.dec (fun h3=>?_) (fun h3=>?_)
 ·have e:=key (x:=b) (y:=0) (by simp[br,h3])
  conv=>whnf
  exact e
 conv=>whnf
 refine ag.dec (fun h4=>?_) (fun h4=>?_)
 ·have e:=key (x:=min a b) (y:=0) (by simp[br,h4])
  conv=>whnf
  exact e
 conv=>whnf
 refine ag.dec (fun h5=>?_) (fun h5=>?_)
 ·have e:=key (x:=max a b) (y:=0) (by simp[br,h5])
  conv=>whnf
  exact e
 conv=>whnf
 refine ag.dec (fun h6=>?_) (fun h6=>?_)
 ·have e9:((0<=b/\W64 (a+b)<a)∨(b<0/\a<W64 (a+b)))->_:=fun h=>key (x:=0) (y:=9) (by simp[br,h6,h])
  have e0:¬((0<=b/\W64 (a+b)<a)∨(b<0/\a<W64 (a+b)))->_:=fun h=>key (x:=W64 (a+b)) (y:=0) (by unfold br;rw[if_neg h1,if_neg h2,if_neg h3,if_neg h4,if_neg h5,if_pos h6,if_neg h])
  conv=>whnf
  refine ag.dec (fun hb=>?_) (fun hb=>?_)
  ·conv=>whnf
   refine ag.dec (fun hn=>?_) (fun hn=>?_)
   ·have e:=e9 (.inl ⟨hb,hn⟩)
    conv=>whnf
    exact e
   ·have e:=e0 (fun q=>q.elim (fun q=>hn q.2) (fun q=>by have:=q.1;omega))
    conv=>whnf
    refine ag.dec (fun q=>absurd q (by omega)) (fun _=>?_)
    conv=>whnf
    exact e
  ·conv=>whnf
   refine ag.dec (fun hb2=>?_) (fun q=>absurd q (by omega))
   conv=>whnf
   refine ag.dec (fun hn=>?_) (fun hn=>?_)
   ·have e:=e9 (.inr ⟨hb2,hn⟩)
    conv=>whnf
    exact e
   ·have e:=e0 (fun q=>q.elim (fun q=>hb q.1) (fun q=>hn q.2))
    conv=>whnf
    exact e
 ·have e:=key (x:=0) (y:=1) (by simp[br,h1,h2,h3,h4,h5,h6])
  conv=>whnf
  exact e
def K9 (args:List AV) (H:AH) (n:Nat) (κ:PK):Prop:=match args with
 | [x,y,z]=>∃p a b:Int,mk x= .si .i64 p/\mk y= .si .i64 a/\mk z= .si .i64 b/\κ (.tup [.si .i64 (br p a b).1,.si .i64 (br p a b).2]) H n
 |_=>False
theorem NR:ai 217 K9:=fun args H n κ hs φ h0' hp vs K hr hargs hk=>by
 unfold K9 at hs;split at hs
 ·obtain⟨x,y,z,rfl,e1,e2,e3⟩:=vs3 hargs;obtain⟨p,a,b,h1,h2,h3,hs⟩:=hs;exact TB (v:= .tup [.si .i64 (br p a b).1,.si .i64 (br p a b).2]) az rfl rfl (Ia p a b) hs hr (.cons (ba rfl (h1▸e1.mk)) (.cons (ba rfl (h2▸e2.mk)) (.cons (ba rfl (h3▸e3.mk)) .nil))) hk
 ·exact hs.elim
def chk (size:Nat) (L:Smp):List AV:=[.si .i64 (size:Int),.ss (pack (aT L)),.si .i64 ((aT L).length:Int),.si .i64 (L.length:Int)]
noncomputable def KAl:FuncId->EP:=aV 119 [] (aw 179 zd evP)
theorem DV:aW KAl:=aq (ae az Qn) (by kernel_rfl) (by kernel_rfl)
theorem FD (size:Nat) (L:Smp) (hs:0<size) (hL:L.length<=100000) (h64:∀x∈L,aN x.1/\aN x.2):ax KAl 3 119 [.ptr 0 0] (mkH [(0,.ro (chk size L))]) 1 fun u H' _=>FrG L.length 2 (smp L) u H':=by
 conv=>whnf
 refine ag.dh (fun h=>absurd (show(0:Int)<(size:Int) by omega) h) (fun _=>?_)
 conv=>whnf
 refine⟨L,rfl,rfl,rfl,hL,h64,⟨rfl,by decide⟩,?_⟩
 conv=>whnf
 exact NC rfl rfl rfl rfl (bf L)
def sd (args:List AV) (H:AH) (n:Nat) (κ:PK):Prop:=match args with
 | [x]=>∃(b size:Nat) (l:List AV) (L:Smp),x= .ptr b 0/\H.get b=some (.cells l true)/\l.map mk=chk size L/\0<size/\L.length<=100000/\(∀x∈L,aN x.1/\aN x.2)/\κ (.fr L.length 2 (smp L)) H n
 |_=>False
theorem dF (size:Nat) (L:Smp):(chk size L).all flat.flat1=true:=rfl
theorem ze (size:Nat) (L:Smp):(chk size L).map mk=chk size L:=rfl
theorem FE:ai 119 sd:=fun args H n κ hs φ h0' hp vs K hr hargs hk=>by
 unfold sd at hs;split at hs
 ·obtain⟨x,rfl,e1⟩:=vs1 hargs;obtain⟨b,size,l,L,rfl,hb,hl,hsz,hL,h64,hs⟩:=hs;obtain⟨p,hpb,rfl⟩:=e1.ct;have hl4:l.length=4:=by have:=congrArg List.length hl;simpa[chk]using this
  have hro:=nV.of (s:=chk size L) hr (.inr ⟨_,hb⟩) hpb (bq (n:=4) hl4) (by rw[hl,ze]) (dF size L)
  exact Fe DV (b6 L) (bf L) (FD size L hsz hL h64) hs hr hk (by kernel_rfl) (φ0:=⟨(ph1 ⟨p.B,p.s+0,4⟩).f,φ.z,φ.z,fun _ _=>False⟩)
   (fun hw=>hr.xL (HR.ro1 hw hro) (fun b o h=>by
    have hm:=b7 h;simp only[List.mem_cons,List.not_mem_nil,or_false]at hm;injection hm with _ e;subst e;rfl) (fun _ h=>h)) rfl (.cons (.ptr (p:=⟨p.B,p.s+0,4⟩) (o:=0) rfl) .nil)
 ·exact hs.elim
theorem PM.vw {α:Type} {v:α} {t:PM α}:(PM.set (some v) aa t 0).get 0=some v:=by cases t<;>rfl
theorem La {u:AV} {H':AH} {n' size:Nat} {e:Int} {M:Smp} {l:List AV} (hu:mk u= .si .i64 e) (hb:H'.get 0=some (.cells l true)) (hl:l.map mk=chk size M):
 ∃v H2 n2,VTo u v/\eu H' n' H2 n2/\(v= .si .i64 e/\PM.get H2 0=some (.cells (chk size M) true)):=
 ⟨.si .i64 e,H'.set (some (.cells (chk size M) true)) aa 0,n',fun φ w h=>by rw[<-hu];exact h.mk,eu.DQ hb rfl hl,rfl,PM.vw⟩
theorem qX (A B:Smp):smp (A++B)=smp A++smp B:=by simp[smp]
theorem BK (z:List AV) (a:Nat):∀b,iB z (a+b)=iB z a++iB z b:=by
 intro b
 induction a with
 |zero=>simp[iB]
 |succ a ih=>rw[Nat.succ_add];simp[iB,ih]
theorem vx (z:List AV):∀a,(iB z a).length=a*z.length
 |0=>by simp[iB]
 |a+1=>by simp[iB,vx z a,Nat.succ_mul];omega
theorem kF:∀(P X Q Y:List AV),Y.length=X.length->eY (P++(X++Q)) P.length Y=some (P++(Y++Q))
 | [],[],Q,[],_=>by cases Q<;>rfl
 | [],[],Q,y::Y,h=>by simp at h
 | [],x::X,Q,[],h=>by simp at h
 | [],x::X,Q,y::Y,h=>by
  have:=kF [] X Q Y (by simpa using h);simp only[List.nil_append,List.length_nil]at this⊢;simp[eY,this]
 |p::P,X,Q,Y,h=>by
  have:=kF P X Q Y h;simp[eY,this]
theorem Lb {L:Smp} {i:Nat} (h:i<L.length) {t m:Int} (ht:tAt L i=t):eY (smp L) (0+i*2+1) [.si .i64 m]=some (smp (L.set i (t,m))):=by
 have e:L=L.take i++(L[i]::L.drop (i+1)):=by rw[<-List.drop_eq_getElem_cons h,List.take_append_drop]
 have e2:L.set i (t,m)=L.take i++((t,m)::L.drop (i+1)):=by rw[List.set_eq_take_append_cons_drop,if_pos h]
 have hl:(L.take i).length=i:=by rw[List.length_take];omega
 have e3:smp L=(smp (L.take i)++ [.si .i64 L[i].1])++([.si .i64 L[i].2]++smp (L.drop (i+1))):=by
  have:=congrArg smp e;rw[qX]at this;rw[this,List.append_assoc];rfl
 have e4:smp (L.set i (t,m))=(smp (L.take i)++ [.si .i64 L[i].1])++([.si .i64 m]++smp (L.drop (i+1))):=by
  rw[e2,qX,<-eR h,ht];simp[smp]
 have:=kF (smp (L.take i)++ [.si .i64 L[i].1]) [.si .i64 L[i].2] (smp (L.drop (i+1))) [.si .i64 m] rfl
 rw[List.length_append,bf,hl,<-e3,<-e4]at this;rw[Nat.zero_add];exact this
def z2:List AV:=[.int .i64 0,.int .i64 0]
theorem Ib {l:Nat} {x:Int} {H:AH} {n:Nat} (hx:x=(l:Int)) (hl:l<=1000000):uK Tryz.prog 52 (.int .i64 x) (.int .i64 x) H n=some (.sl n 0 l l 0,H.set (some (.cells (iB z2 l) true)) aa n,n+1):=by
 subst hx;have e:uK Tryz.prog 52 (.int .i64 (l:Int)) (.int .i64 (l:Int)) H n=if l<=l/\16*l<=281474976710656/\l<=9223372036854775807/\(2:Nat)=2 then some (.sl n 0 l l 0,H.set (some (.cells (iB z2 l) true)) aa n,n+1)else none:=rfl
 rw[e,if_pos ⟨Nat.le_refl _,by omega,by omega,rfl⟩]
theorem Ic {b l n c:Nat} {x:Int} (hx:x=(l:Int)) (hl:l<=n) (hc:n<=c):iR Tryz.prog 52 (.sl b 0 n c 0) (some (.int .i64 x)) none none=some (.sl b (if c=l then 0 else 0+l*2) (n-l) (c-l) 0):=by
 subst hx;have e:iR Tryz.prog 52 (.sl b 0 n c 0) (some (.int .i64 (l:Int))) none none=if l<=n/\n<=c/\c<=c then some (.sl b (if c=l then 0 else 0+l*2) (n-l) (c-l) 0)else none:=rfl
 rw[e,if_pos ⟨hl,hc,Nat.le_refl _⟩]
noncomputable def KU:FuncId->EP:=aV 183 [] (aV 119 [] (aw 123 K8 (aw 217 K9 (aw 179 zd (aw 221 pY evP)))))
theorem TT:aW KU:=aq (aq (ae (ae (ae (ae az BH) Qn) NR) NQ) (by kernel_rfl) (by kernel_rfl)) (by kernel_rfl) (by kernel_rfl)
def ChQ (e:Int) (size:Nat) (M:Smp):PK:=fun u H' _=>u= .si .i64 e/\PM.get H' 0=some (.cells (chk size M) true)
theorem BL {b:Bool} (h:b=false):¬b=true:=by simp[h]
theorem NS (size:Nat) (L:Smp) (t v p:Int) (hs:0<size) (hs2:size<=4096) (hF:cK L) (hv:aN v):post (ax KU 5 183) [.ptr 0 0,.agg [.si .i64 t,.si .i64 v],.si .i64 p] (mkH [(0,.cells (chk size L) true)]) 1 (ChQ (eG size L t v p).2 size (eG size L t v p).1):=by
 have hL:=hF.2.2;have h64:=hF.jK;have hsz:(0:Int)<(size:Int):=by omega
 have leaf:∀{u:AV} {H':AH} {n':Nat} {e:Int} {M:Smp} {l:List AV},eG size L t v p=(M,e)->mk u= .si .i64 e->PM.get H' 0=some (.cells l true)->l.map mk=chk size M->∃v2 H2 n2,VTo u v2/\eu H' n' H2 n2/\ChQ (eG size L t v p).2 size (eG size L t v p).1 v2 H2 n2:=fun hp hu hb hl=>by
  rw[hp];exact La hu hb hl
 show ax KU 5 183 _ _ _ _
 conv=>whnf
 refine ag.dh (fun h=>absurd hsz h) (fun _=>?_)
 conv=>whnf
 refine ag.dec (fun h=>?_) (fun h=>?_)
 ·have e:eG size L t v p=(L,1):=by unfold eG;rw[if_pos (.inl h)]
  conv=>whnf
  exact leaf e rfl rfl rfl
 conv=>whnf
 refine ag.dec (fun h2=>?_) (fun h2=>?_)
 ·have e:eG size L t v p=(L,1):=by unfold eG;rw[if_pos (.inr h2)]
  conv=>whnf
  exact leaf e rfl rfl rfl
 have hrange:¬(t<0∨1099511627776<=t):=fun q=>q.elim h h2
 conv=>whnf
 refine ag.dh (fun h=>absurd hsz h) (fun _=>?_)
 conv=>whnf
 refine⟨L,rfl,rfl,rfl,Nat.le_trans hL (by decide),h64,⟨rfl,by decide⟩,?_⟩
 conv=>whnf
 refine⟨L,t,.inl (.inr (.inl (.inl ⟨_,0,0,_,_,⟨rfl,by decide⟩,.inr ⟨_,rfl⟩,fh L,bJ L⟩))),rfl,Nat.le_trans hL (by decide),?_⟩
 conv=>whnf
 refine ag.nsb (fun hh=>?_) (fun hh=>?_)
 ·have ha:=pV L t;have hLn:=hF.2.2;have hpe:eG size L t v p=pU size L (jJ L t v):=by unfold eG;rw[if_neg hrange,if_neg (BL hh)]
  have hx:IntKind.i64.wrap ((L.length:Int)+1)=((L.length+1:Nat):Int):=cU ⟨by omega,by omega⟩;have hx2:IntKind.i64.wrap ((plc L t:Int)+1)=((plc L t+1:Nat):Int):=cU ⟨by omega,by omega⟩;have htl:(L.take (plc L t)).length=plc L t:=by rw[List.length_take];omega
  have hdl:(L.drop (plc L t)).length=L.length-plc L t:=by rw[List.length_drop]
  have hsub1:bp (smp L) 0 (plc L t*2)=some (smp (L.take (plc L t))):=by have:=Kj (L:=L) ha;rw[htl]at this;exact this
  have hsub2:bp (smp L) (0+plc L t*2) ((L.length-plc L t)*2)=some (smp (L.drop (plc L t))):=by
   unfold bp;rw[Nat.ble_eq_true_of_le (by rw[bf];omega),Nat.zero_add,qJ,List.take_of_length_le (by rw[bf,hdl];omega)]
  have hone:∀(M:Smp) (k:Nat),((smp M).take k).all nJ=true:=fun M k=>by
   rw[List.all_eq_true];intro y hy;have:=List.all_eq_true.1 (b6 M) y (List.mem_of_mem_take hy);cases y<;>first|rfl|cases this
  have hr0:iB z2 (L.length+1)=iB z2 (plc L t)++(iB z2 1++iB z2 (L.length-plc L t)):=by rw[<-BK,<-BK];congr 1;omega
  have hset1:eY (iB z2 (L.length+1)) 0 ((smp (L.take (plc L t))).take (min (plc L t) (L.length+1)*2))=some (smp (L.take (plc L t))++(iB z2 1++iB z2 (L.length-plc L t))):=by
   rw[hr0,Nat.min_eq_left (by omega),List.take_of_length_le (by rw[bf,htl];omega)];exact kF [] _ _ _ (by rw[bf,htl,vx];rfl)
  have hset2:eY (smp (L.take (plc L t))++(iB z2 1++iB z2 (L.length-plc L t))) (0+plc L t*2) [.si .i64 t,.si .i64 v]=some (smp (L.take (plc L t))++([.si .i64 t,.si .i64 v]++iB z2 (L.length-plc L t))):=by
   have:=kF (smp (L.take (plc L t))) (iB z2 1) (iB z2 (L.length-plc L t)) [.si .i64 t,.si .i64 v] rfl
   rw[bf,htl]at this;rw[Nat.zero_add];exact this
  have hset3:eY (smp (L.take (plc L t))++([.si .i64 t,.si .i64 v]++iB z2 (L.length-plc L t))) (if L.length+1=plc L t+1 then 0 else 0+(plc L t+1)*2) ((smp (L.drop (plc L t))).take (min (L.length-plc L t) (L.length+1-(plc L t+1))*2))=some (smp (jJ L t v)):=by
   have ei:smp (jJ L t v)=smp (L.take (plc L t))++([.si .i64 t,.si .i64 v]++smp (L.drop (plc L t))):=by unfold jJ;rw[qX];rfl
   have htk:(smp (L.drop (plc L t))).take ((L.length-plc L t)*2)=smp (L.drop (plc L t)):=List.take_of_length_le (by rw[bf,hdl];omega);rw[show min (L.length-plc L t) (L.length+1-(plc L t+1))=L.length-plc L t from by omega,htk,ei];by_cases q:L.length=plc L t
   ·have hd0:L.drop (plc L t)=[]:=List.eq_nil_of_length_eq_zero (by omega);rw[if_pos (by omega),hd0,show L.length-plc L t=0 from by omega];exact kF [] [] _ [] rfl
   ·rw[if_neg (by omega)];have:=kF (smp (L.take (plc L t))++ [.si .i64 t,.si .i64 v]) (iB z2 (L.length-plc L t)) [] (smp (L.drop (plc L t))) (by rw[bf,hdl,vx];rfl);rw[List.length_append,bf,htl]at this;rw[show 0+(plc L t+1)*2=plc L t*2+ [AV.si .i64 t,.si .i64 v].length from by simp;omega];simpa using this
  have hhd:hd (AV.sy 3 0 (L.length+1) (L.length+1) 0)= .sl 3 0 (jJ L t v).length (L.length+1) 0:=by rw[kE];rfl
  have hins:∀x∈jJ L t v,aN x.1/\aN x.2:=fun x hx=>by
   rcases BA.1 hx with rfl|hx
   ·exact⟨⟨by omega,by omega⟩,hv⟩
   ·exact h64 x hx
  have hw8:IntKind.i64.wrap (8*(size:Int))=((8*size:Nat):Int):=cU ⟨by omega,by omega⟩;have hlq: [AV.si .i64 (size:Int),.ss (pack (aT (jJ L t v))),.si .i64 ((aT (jJ L t v)).length:Int),.si .i64 ((L.length+1:Nat):Int)].map mk=chk size (jJ L t v):=by unfold chk;rw[kE];rfl
  have hil:(jJ L t v).length<=100000:=by rw[kE];omega
  have hil2:(jJ L t v).length<=L.length+1:=by rw[kE];exact Nat.le_refl _
  have ha1:plc L t<L.length+1:=by omega
  have ha2:plc L t+1<=L.length+1:=by omega
  have hmax:L.length+1<=1000000:=by omega
  conv=>whnf
  refine Ask.mk _ (Ib hx hmax) ?_
  conv=>whnf
  refine RSl.mk 0 (plc L t) rfl rfl (.inl rfl) (Nat.zero_le _) ha ?_
  conv=>whnf
  refine E0.mk 2 (plc L t) (L.length+1) 3 0 (L.length+1) 0 2 0 2 0 _ (smp L) (smp (L.take (plc L t))) _ true rfl rfl (by decide) ⟨_,rfl,rfl⟩ (.inr ⟨_,rfl⟩) hsub1 rfl (hone _ _) hset1 ?_
  conv=>whnf
  refine Idx.mk (plc L t) rfl ha1 ?_
  conv=>whnf
  refine ay hset2 ?_
  conv=>whnf
  refine Ask.mk _ (Ic hx2 ha2 (Nat.le_refl _)) ?_
  conv=>whnf
  refine RSl.mk (plc L t) L.length rfl rfl (.inl rfl) ha (Nat.le_refl _) ?_
  conv=>whnf
  refine E0.mk 2 (L.length-plc L t) (L.length+1-(plc L t+1)) 3 (if L.length+1=plc L t+1 then 0 else 0+(plc L t+1)*2) (L.length+1-(plc L t+1)) 0 2 (0+plc L t*2) 2 0 _ (smp L) (smp (L.drop (plc L t))) _ true rfl rfl (by decide) ⟨_,rfl,rfl⟩ (.inr ⟨_,rfl⟩) hsub2 rfl (hone _ _) hset3 ?_
  conv=>whnf
  refine⟨jJ L t v,.inr (.inr ⟨3,0,L.length+1,0,_,_,hhd,.inr ⟨_,rfl⟩,fh _,bJ _,hil2⟩),hil,hins,?_⟩
  conv=>whnf
  refine ag.dec (fun h3=>?_) (fun h3=>?_)
  ·have e:eG size L t v p=(L,2):=by rw[hpe];unfold pU;rw[if_neg (by rw[hw8]at h3;omega)]
   conv=>whnf
   exact leaf e rfl rfl rfl
  ·have e:eG size L t v p=(jJ L t v,0):=by rw[hpe];unfold pU;rw[if_pos (by rw[hw8]at h3;omega)]
   conv=>whnf
   exact leaf e rfl rfl hlq
 ·have hpl:plc L t<L.length/\tAt L (plc L t)=t:=by unfold has at hh;exact of_decide_eq_true hh
  have hvp:L[plc L t].2=vAt L (plc L t):=(pW hpl.1).symm;have hpe:eG size L t v p=if(br p (vAt L (plc L t)) v).2≠0 then(L,(br p (vAt L (plc L t)) v).2)else pU size L (kQ L t (br p (vAt L (plc L t)) v).1):=by unfold eG;rw[if_neg hrange,if_pos hh]
  have ho1:0+plc L t*2+1=plc L t*2+1:=by omega
  have hm0:aN (br p L[plc L t].2 v).1:=xQ (h64 _ (List.getElem_mem hpl.1)).2 hv;have hset:=Lb hpl.1 (m:=(br p L[plc L t].2 v).1) hpl.2
  have hins:∀x∈kQ L t (br p L[plc L t].2 v).1,aN x.1/\aN x.2:=fun x hx=>by
   rcases(BB hF.1 hh).1 hx with rfl|⟨hx,_⟩
   ·exact⟨⟨by omega,by omega⟩,hm0⟩
   ·exact h64 x hx
  have hsl:=qS L t (br p L[plc L t].2 v).1;have hil:(kQ L t (br p L[plc L t].2 v).1).length<=100000:=by omega
  have hw8:IntKind.i64.wrap (8*(size:Int))=((8*size:Nat):Int):=cU ⟨by omega,by omega⟩;have hrw:AV.rw 2 0 L.length 2 0= .rw 2 0 (kQ L t (br p L[plc L t].2 v).1).length 2 0:=by rw[hsl]
  have hlq: [AV.si .i64 (size:Int),.ss (pack (aT (kQ L t (br p L[plc L t].2 v).1))),.si .i64 ((aT (kQ L t (br p L[plc L t].2 v).1)).length:Int),.si .i64 ((L.length:Nat):Int)].map mk=chk size (kQ L t (br p L[plc L t].2 v).1):=by unfold chk;rw[hsl];rfl
  conv=>whnf
  refine Idx.mk (plc L t) rfl hpl.1 ?_
  conv=>whnf
  refine ay (Bg hpl.1 ho1) ?_
  conv=>whnf
  refine⟨p,L[plc L t].2,v,rfl,rfl,rfl,?_⟩
  conv=>whnf
  refine ag.dh (fun h3=>?_) (fun h3=>?_)
  ·have e:eG size L t v p=(L,(br p L[plc L t].2 v).2):=by rw[hpe,<-hvp,if_pos h3]
   conv=>whnf
   exact leaf e rfl rfl rfl
  ·have hpe2:eG size L t v p=pU size L (kQ L t (br p L[plc L t].2 v).1):=by rw[hpe,<-hvp,if_neg (fun q=>q h3)]
   conv=>whnf
   refine Idx.mk (plc L t) rfl hpl.1 ?_
   conv=>whnf
   refine ay hset ?_
   conv=>whnf
   refine⟨kQ L t (br p L[plc L t].2 v).1,.inr (.inl (.inl ⟨_,0,0,_,_,⟨hrw,by decide⟩,.inr ⟨_,rfl⟩,fh _,bJ _⟩)),hil,hins,?_⟩
   conv=>whnf
   refine ag.dec (fun h4=>?_) (fun h4=>?_)
   ·have e:eG size L t v p=(L,2):=by rw[hpe2];unfold pU;rw[if_neg (by rw[hw8]at h4;omega)]
    conv=>whnf
    exact leaf e rfl rfl rfl
   ·have e:eG size L t v p=(kQ L t (br p L[plc L t].2 v).1,0):=by rw[hpe2];unfold pU;rw[if_pos (by rw[hw8]at h4;omega)]
    conv=>whnf
    exact leaf e rfl rfl hlq
def Lc (args:List AV) (H:AH) (n:Nat) (κ:PK):Prop:=match args with
 | [x,y,z]=>∃(b size:Nat) (L:Smp) (t v p:Int),x= .ptr b 0/\mR y t v/\mk z= .si .i64 p/\b<n/\H.get b=some (.cells (chk size L) true)/\0<size/\size<=4096/\cK L/\aN v/\
  κ (.si .i64 (eG size L t v p).2) (H.set (some (.cells (chk size (eG size L t v p).1) true)) aa b) n
 |_=>False
theorem TU:ai 183 Lc:=fun args H n κ hs φ h0' hp vs K hr hargs hk=>by
 unfold Lc at hs;split at hs
 ·obtain⟨x,y,z,rfl,e1,e2,e3⟩:=vs3 hargs;obtain⟨b,size,L,t,v,p,rfl,hy,hz,hbn,hb,hsz,hs2,hF,hv,hs⟩:=hs
  refine dy (S:=[b]) (O:=[.cells (chk size L) true]) (args0:=[.ptr 0 0,.agg [.si .i64 t,.si .i64 v],.si .i64 p]) (ai.post (an TT 5 _)) (by kernel_rfl) hr
   (n6 hbn hb (.inr rfl)) (.cons e1 (.cons (hy.open e2 _) (.cons (ba rfl (hz▸e3.mk)) .nil))) hk (NS size L t v p hsz hs2 hF hv) fun u H' n' ⟨h1,h2⟩=>?_
  subst h1;refine⟨1,jI [b] n H [(0,some (.cells (chk size (eG size L t v p).1) true))],Nat.le_refl _,fq.put (Nat.le_refl _) rfl (fun x hx o ho=>?_),rfl,hs⟩;simp only[List.mem_cons,List.not_mem_nil,or_false]at hx;subst hx;injection ho with ho;subst ho;exact⟨h2,rfl,rfl⟩
 ·exact hs.elim
theorem DW (L:Smp) (a b:Int) {i:Nat} (h:i<L.length):aO (L.take (i+1)) a b=aO (L.take i) a b++(if(decide (L[i].1<a)||decide (b<L[i].1))=true then [L[i]]else []):=by
 unfold aO;rw[List.take_succ_eq_append_getElem h,List.filter_append];congr 1;simp only[List.filter_cons,List.filter_nil]
theorem Ie (L:Smp) (a b:Int):(aO L a b).length<=L.length:=List.length_filter_le _ _
noncomputable def dr (size:Nat) (L:Smp) (a:Int) (b:Int) (i:Nat):AE×AH:=(mkE [(0,.ptr 0 (0)),(1,.si .i64 (a)),(2,.si .i64 (b)),(7,.rw 1 0 (aO (L.take i) a b).length 2 0),(15,.fr L.length 2 (smp L)),(16,.si .i64 (((L.length:Nat):Int))),(17,.si .i64 (((i:Nat):Int)))],mkH [(0,.cells (chk size L) true),(1,.cells (smp ((aO (L.take i) a b))) true)])
theorem zf {size:Nat} {L:Smp} {a:Int} {b:Int} {i:Nat} {p n:Nat} {σ:AE} {H:AH} (j1:Nat) (hj:j1≠0) (hp:p<=1) (e0:ak (pa 0) σ= .ptr 0 (0)) (e1:mk (ak (pa 1) σ)= .si .i64 (a)) (e2:mk (ak (pa 2) σ)= .si .i64 (b)) (e7:ah H 2 (fun b=>if b=1 then j1 else b) (ak (pa 7) σ) (.rw 1 0 (aO (L.take i) a b).length 2 0)) (e15:ak (pa 15) σ= .fr L.length 2 (smp L)) (e16:mk (ak (pa 16) σ)= .si .i64 (((L.length:Nat):Int))) (e17:mk (ak (pa 17) σ)= .si .i64 (((i:Nat):Int))) (h0:∃l,H.get 0=some (.cells l true)/\l5 H 2 (fun b=>if b=1 then j1 else b) l (chk size L)) (h1:(∃l,H.get j1=some (.cells l true)/\l.map mk=smp ((aO (L.take i) a b)))∨(((aO (L.take i) a b))=[]/\n<=j1)):Cov p σ H n ((dr size L a b i).1,(dr size L a b i).2,2):=
 Cov.ofB (fun b=>if b=1 then j1 else b) (by omega) (fun b hb=>by repeat' rw[if_neg (by omega)]) ⟨.ptr (by decide) e0,.int e1,.int e2,e7,ah.frE e15,.int e16,.int e17,trivial⟩ ⟨.inl (h0.elim fun l h=>⟨_,h.1,au.st h.2⟩),h1.elim (fun⟨l,h,g⟩=> .inl ⟨_,h,au.bz (b6 _) (by rw[g,bJ]) (fun q=>q)⟩) (fun h=> .inr ⟨by rw[h.1];rfl,h.2⟩),trivial⟩ rfl (fun x hx y hy=>by simp only[List.mem_cons,List.not_mem_nil,or_false]at hx hy;rcases hx with rfl|rfl<;>rcases hy with rfl|rfl<;>simp<;>omega)
noncomputable def KDr:FuncId->EP:=aw 119 sd (aw 221 pY evP)
theorem Rr:aW KDr:=ae (ae az BH) FE
theorem Ld (size:Nat) (L:Smp) (a b:Int) (hs:0<size) (hF:cK L):post (ax KDr 5 157) [.ptr 0 0,.si .i64 a,.si .i64 b] (mkH [(0,.cells (chk size L) true)]) 1 (ChQ ((L.length:Int)-((aO L a b).length:Int)) size (aO L a b)):=by
 have hL:=hF.2.2;have h64:=hF.jK;have hL1:L.length<=100000:=by omega
 have hsz:(0:Int)<(size:Int):=by omega
 have hst:∀{H:AH} {m:Nat} {r:Nat->Nat},l5 H m r (chk size L) (chk size L):= .cons (.int rfl) (.cons (.str rfl) (.cons (.int rfl) (.cons (.int rfl) .nil)));show ax KDr 5 157 _ _ _ _
 conv=>whnf
 refine ag.dh (fun h=>absurd hsz h) (fun _=>?_)
 conv=>whnf
 refine⟨0,size,_,L,rfl,rfl,rfl,hs,hL1,h64,?_⟩
 conv=>whnf
 refine aS.mk {i:Nat//i<=L.length} 2 (fun i=>dr size L a b i.val) (fun i=>L.length-i.val) ⟨0,Nat.zero_le _⟩ ?_ ?_
 ·exact zf (j1:=1) (by decide) (Nat.le_refl 1) rfl rfl rfl (.iD rfl) rfl rfl rfl ⟨_,rfl,hst⟩ (.inr ⟨rfl,Nat.le_refl _⟩)
 ·intro⟨i,hi⟩;have hml:(aO (L.take i) a b).length<=20000:=Nat.le_trans (Ie _ _ _) (by rw[List.length_take];omega);have hrow:bp (smp (aO (L.take i) a b)) 0 ((aO (L.take i) a b).length*2)=some (smp (aO (L.take i) a b)):=fh _
  conv=>whnf
  refine ag.dec (fun h=>?_) (fun h=>?_)
  ·have hi2:i<L.length:=by exact Int.ofNat_lt.1 h
   have hi1:IntKind.i64.wrap ((i:Int)+1)=(((i+1:Nat)):Int):=cU ⟨by omega,by omega⟩;have hbig:((aO (L.take i) a b).length+1)*16<=140737488355328:=by omega
   have hlt:L.length-(i+1)<L.length-i:=by omega
   have hsn:=DW L a b hi2;have hy:(decide (L[i].1<a)||decide (b<L[i].1))=true->aO (L.take (i+1)) a b=aO (L.take i) a b++ [L[i]]:=fun q=>by rw[hsn,if_pos q]
   have hn:¬(decide (L[i].1<a)||decide (b<L[i].1))=true->aO (L.take (i+1)) a b=aO (L.take i) a b:=fun q=>by rw[hsn,if_neg q,List.append_nil]
   have hyl:(decide (L[i].1<a)||decide (b<L[i].1))=true->(aO (L.take i) a b).length+1=(aO (L.take (i+1)) a b).length:=fun q=>by rw[hy q];simp
   have hys:(decide (L[i].1<a)||decide (b<L[i].1))=true->(smp (aO (L.take i) a b)++ [AV.si .i64 L[i].1,AV.si .i64 L[i].2]).map mk=smp (aO (L.take (i+1)) a b):=fun q=>by rw[hy q,<-BJ,bJ]
   have hns:¬(decide (L[i].1<a)||decide (b<L[i].1))=true->(smp (aO (L.take i) a b)).map mk=smp (aO (L.take (i+1)) a b):=fun q=>by rw[hn q,bJ]
   have hnl:¬(decide (L[i].1<a)||decide (b<L[i].1))=true->(aO (L.take i) a b).length=(aO (L.take (i+1)) a b).length:=fun q=>by rw[hn q]
   conv=>whnf
   refine Idx.mk i rfl hi2 ?_
   conv=>whnf
   refine ay (fp hi2 rfl) ?_
   conv=>whnf
   refine ag.dec (fun h1=>?_) (fun h1=>?_)
   ·have q:(decide (L[i].1<a)||decide (b<L[i].1))=true:=by simp[h1]
    conv=>whnf
    refine bC.grow 2 16 _ _ _ _ _ _ tyS (.old rfl) rfl rfl (.rw rfl hrow) hbig ?_
    conv=>whnf
    exact⟨⟨i+1,hi2⟩,hlt,zf (j1:=4) (by decide) (Nat.le_refl 1) rfl rfl rfl (ah.rw (by decide) rfl (hn:=hyl q)) rfl rfl (congrArg (AV.si .i64) hi1) ⟨_,rfl,hst⟩ (.inl ⟨_,rfl,hys q⟩)⟩
   ·conv=>whnf
    refine ag.dec (fun h2=>?_) (fun h2=>?_)
    ·have q:(decide (L[i].1<a)||decide (b<L[i].1))=true:=by simp[h2]
     conv=>whnf
     refine bC.grow 2 16 _ _ _ _ _ _ tyS (.old rfl) rfl rfl (.rw rfl hrow) hbig ?_
     conv=>whnf
     exact⟨⟨i+1,hi2⟩,hlt,zf (j1:=4) (by decide) (Nat.le_refl 1) rfl rfl rfl (ah.rw (by decide) rfl (hn:=hyl q)) rfl rfl (congrArg (AV.si .i64) hi1) ⟨_,rfl,hst⟩ (.inl ⟨_,rfl,hys q⟩)⟩
    ·have q:¬(decide (L[i].1<a)||decide (b<L[i].1))=true:=by simp[h1,h2]
     conv=>whnf
     exact⟨⟨i+1,hi2⟩,hlt,zf (j1:=1) (by decide) (Nat.le_refl 1) rfl rfl rfl (ah.rw (by decide) rfl (hn:=hnl q)) rfl rfl (congrArg (AV.si .i64) hi1) ⟨_,rfl,hst⟩ (.inl ⟨_,rfl,hns q⟩)⟩
  ·have hi3:i=L.length:=by have:¬i<L.length:=fun q=>h (Int.ofNat_lt.2 q);omega
   have htk:L.take i=L:=by rw[hi3,List.take_length]
   have hFd:=vp (hF.sub (List.take_sublist i L)) a b;have hil:(aO (L.take i) a b).length<=100000:=by omega
   have hw:IntKind.i64.wrap ((L.length:Int)-((aO (L.take i) a b).length:Int))=(L.length:Int)-((aO L a b).length:Int):=by
    rw[htk]at hml⊢;exact cU ⟨by omega,by omega⟩
   have hq:(chk size (aO (L.take i) a b)).map mk=chk size (aO L a b):=by rw[htk];rfl
   conv=>whnf
   refine⟨aO (L.take i) a b,.inr (.inl (.inl ⟨_,0,0,_,_,⟨rfl,by decide⟩,.inr ⟨_,rfl⟩,hrow,bJ _⟩)),hil,hFd.jK,?_⟩
   conv=>whnf
   exact La (congrArg (AV.si .i64) hw) rfl hq
def FF (args:List AV) (H:AH) (n:Nat) (κ:PK):Prop:=match args with
 | [x,y,z]=>∃(c size:Nat) (L:Smp) (a b:Int),x= .ptr c 0/\mk y= .si .i64 a/\mk z= .si .i64 b/\c<n/\H.get c=some (.cells (chk size L) true)/\0<size/\cK L/\
  κ (.si .i64 ((L.length:Int)-((aO L a b).length:Int))) (H.set (some (.cells (chk size (aO L a b)) true)) aa c) n
 |_=>False
theorem Rs:ai 157 FF:=fun args H n κ hs φ h0' hp vs K hr hargs hk=>by
 unfold FF at hs;split at hs
 ·obtain⟨x,y,z,rfl,e1,e2,e3⟩:=vs3 hargs;obtain⟨c,size,L,a,b,rfl,hy,hz,hbn,hb,hsz,hF,hs⟩:=hs
  refine dy (S:=[c]) (O:=[.cells (chk size L) true]) (args0:=[.ptr 0 0,.si .i64 a,.si .i64 b]) (ai.post (an Rr 5 _)) (by kernel_rfl) hr
   (n6 hbn hb (.inr rfl)) (.cons e1 (.cons (ba rfl (hy▸e2.mk)) (.cons (ba rfl (hz▸e3.mk)) .nil))) hk (Ld size L a b hsz hF) fun u H' n' ⟨h1,h2⟩=>?_
  subst h1;refine⟨1,jI [c] n H [(0,some (.cells (chk size (aO L a b)) true))],Nat.le_refl _,fq.put (Nat.le_refl _) rfl (fun x hx o ho=>?_),rfl,hs⟩;simp only[List.mem_cons,List.not_mem_nil,or_false]at hx;subst hx;injection ho with ho;subst ho;exact⟨h2,rfl,rfl⟩
 ·exact hs.elim
abbrev Op4:=Int×Int×Int×Int
def VO (S:List Op4):List AV:=S.flatMap fun o=> [.si .i64 o.1,.si .i64 o.2.1,.si .i64 o.2.2.1,.si .i64 o.2.2.2]
noncomputable def rs (S:List Op4) (t:Int) (L:Smp) (v:Int) (is:Bool) (i:Nat):AE×AH:=(mkE [(0,.fr S.length 4 (VO S)),(1,.si .i64 (t)),(5,.ptr 0 (0)),(7,.si .i64 (v)),(8,.sb (is)),(9,.si .i64 (((i:Nat):Int)))],mkH [(0,.cells (chk 4096 L) true)])
theorem Ig {P:Program} {t:TypeId} {H:AH} {a b c d:Int} (hp:iu P t=some [(0,0),(0,1)]):wQ P .neq t (.agg [.int .i64 a,.int .i64 b]) (.agg [.int .i64 c,.int .i64 d]) H=some (.bool (!(decide (a=c)&&(decide (b=d)&&true)))):=by
 simp[wQ,hp,jr,nth,pn]
noncomputable def ho (M:Smp) (sz:Nat) (L:Smp) (i:Nat):AE×AH:=(mkE [(1,.fr M.length 2 (smp M)),(5,.ptr 0 (0)),(7,.si .i64 (((i:Nat):Int)))],mkH [(0,.cells (chk sz L) true)])
def rch (sz:Nat) (L:Smp):List AV:=[.si .i64 (sz:Int),.fr L.length 2 (smp L)]
theorem Le (size:Nat) (L:Smp) (hs:0<size) (hL:L.length<=100000) (h64:∀x∈L,aN x.1/\aN x.2):ax KAl 3 119 [.ptr 0 0] (mkH [(0,.ro (chk size L))]) 1 fun u H' _=>lb L u H':=by
 conv=>whnf
 refine ag.dh (fun h=>absurd (show(0:Int)<(size:Int) by omega) h) (fun _=>?_)
 conv=>whnf
 refine⟨L,rfl,rfl,rfl,hL,h64,⟨rfl,by decide⟩,?_⟩
 conv=>whnf
 exact lb.rw rfl rfl (fh L) (bJ L)
def zg (args:List AV) (H:AH) (n:Nat) (κ:PK):Prop:=match args with
 | [x]=>∃(b size:Nat) (l:List AV) (L:Smp),x= .ptr b 0/\H.get b=some (.cells l true)/\l.map mk=chk size L/\0<size/\L.length<=100000/\(∀x∈L,aN x.1/\aN x.2)/\Fa (fun r=>r) L H n κ
 |_=>False
theorem Rt:ai 119 zg:=fun args H n κ hs φ h0' hp vs K hr hargs hk=>by
 unfold zg at hs;split at hs
 ·obtain⟨x,rfl,e1⟩:=vs1 hargs;obtain⟨b,size,l,L,rfl,hb,hl,hsz,hL,h64,hs⟩:=hs;obtain⟨p,hpb,rfl⟩:=e1.ct;have hl4:l.length=4:=by have:=congrArg List.length hl;simpa[chk]using this
  have hro:=nV.of (s:=chk size L) hr (.inr ⟨_,hb⟩) hpb (bq (n:=4) hl4) (by rw[hl,ze]) (dF size L);exact HQ DV (fun _ _ h=>h) (Le size L hsz hL h64) hs hr hk (by kernel_rfl) (φ0:=ph1 ⟨p.B,p.s+0,4⟩) (fun hw=>HR.ro1 hw hro) (.cons (.ptr (p:=⟨p.B,p.s+0,4⟩) (o:=0) rfl) .nil)
 ·exact hs.elim
def FG (args:List AV) (H:AH) (n:Nat) (κ:PK):Prop:=sd args H n κ∨zg args H n κ
theorem Ru:ai 119 FG:=fun args H n κ hs=>hs.elim (FE args H n κ) (Rt args H n κ)
theorem vy {α:Type} {v:Option α} {t:PM α}:(PM.set v aa t 1).get 0=t.get 0:=by cases t<;>rfl
theorem vz {α:Type} {v:Option α} {t:PM α}:(PM.set v aa t 0).get 1=t.get 1:=by cases t<;>rfl
theorem vA {α:Type} {v:α} {t:PM α}:(PM.set (some v) aa t 1).get 1=some v:=by
 cases t with
 |nil=>rfl
 |node l u r=>cases l<;>rfl
def Rv (e:Int) (s1 s2:Nat) (L M:Smp):PK:=fun u H' _=>u= .si .i64 e/\PM.get H' 0=some (.cells (chk s1 L) true)/\PM.get H' 1=some (.cells (chk s2 M) true)
theorem NT {u:AV} {H':AH} {n' s1 s2:Nat} {e:Int} {L M:Smp} {l m:List AV} (hu:mk u= .si .i64 e) (hb:PM.get H' 0=some (.cells l true)) (hl:l.map mk=chk s1 L) (hc:PM.get H' 1=some (.cells m true)) (hm:m.map mk=chk s2 M):
 ∃v H2 n2,VTo u v/\eu H' n' H2 n2/\Rv e s1 s2 L M v H2 n2:=
 ⟨.si .i64 e,(H'.set (some (.cells (chk s2 M) true)) aa 1).set (some (.cells (chk s1 L) true)) aa 0,n',fun φ w h=>by rw[<-hu];exact h.mk,(eu.DQ (l':=chk s2 M) hc rfl hm).trans (eu.DQ (l':=chk s1 L) (vy.trans hb) rfl hl),rfl,PM.vw,vz.trans vA⟩
noncomputable def KJo:FuncId->EP:=aw 119 FG (aw 221 pY evP)
theorem Rw:aW KJo:=ae (ae az BH) Ru
theorem Lf (s1 s2:Nat) (L M:Smp) (h1:0<s1) (h1':s1<=4096) (h2:0<s2) (hF:cK L) (hG:cK M):post (ax KJo 5 188) [.ptr 0 0,.ptr 1 0] (mkH [(0,.cells (chk s1 L) true),(1,.cells (chk s2 M) true)]) 2 (Rv (bK s1 L M).2 s1 s2 (bK s1 L M).1.1 (bK s1 L M).1.2):=by
 have leaf:∀{u:AV} {H':AH} {n':Nat} {e:Int} {A B:Smp} {l m:List AV},bK s1 L M=((A,B),e)->mk u= .si .i64 e->PM.get H' 0=some (.cells l true)->l.map mk=chk s1 A->PM.get H' 1=some (.cells m true)->m.map mk=chk s2 B->∃v2 H2 n2,VTo u v2/\eu H' n' H2 n2/\Rv (bK s1 L M).2 s1 s2 (bK s1 L M).1.1 (bK s1 L M).1.2 v2 H2 n2:=fun hj hu hb hl hc hm=>by
  rw[hj];exact NT hu hb hl hc hm
 have hz1:(0:Int)<(s1:Int):=by omega
 have hz2:(0:Int)<(s2:Int):=by omega
 have hLl:=hF.2.2;have hMl:=hG.2.2;have hL1:L.length<=100000:=by omega
 have hM1:M.length<=100000:=by omega
 have hw8:IntKind.i64.wrap (8*(s1:Int))=((8*s1:Nat):Int):=cU ⟨by omega,by omega⟩;have hrowL:bp (smp L) 0 (L.length*2)=some (smp L):=fh L
 have hone:(smp M).all nJ=true:=by
  rw[List.all_eq_true];intro y hy;have:=List.all_eq_true.1 (b6 M) y hy;cases y<;>first|rfl|cases this
 have hbig:(L.length+M.length)*16<=140737488355328:=by omega
 have hLM:(L++M).length=L.length+M.length:=List.length_append;have hsubLM:bp (smp L++smp M) 0 ((L++M).length*2)=some (smp (L++M)):=by rw[<-qX];exact fh _
 have hLM1:(L++M).length<=100000:=by omega
 have h64:∀x∈L++M,aN x.1/\aN x.2:=fun x hx=>(List.mem_append.1 hx).elim (hF.jK x) (hG.jK x)
 have hn0:∀x∈([]:Smp),aN x.1/\aN x.2:=fun x hx=>by cases hx
 have hlq: [AV.si .i64 (s1:Int),.ss (pack (aT (L++M))),.si .i64 ((aT (L++M)).length:Int),.si .i64 ((L.length+M.length:Nat):Int)].map mk=chk s1 (L++M):=by unfold chk;rw[hLM];rfl
 show ax KJo 5 188 _ _ _ _
 conv=>whnf
 refine ag.dh (fun h=>absurd hz1 h) (fun _=>?_)
 conv=>whnf
 refine ag.dh (fun h=>absurd hz2 h) (fun _=>?_)
 conv=>whnf
 refine .inl ⟨0,s1,_,L,rfl,rfl,rfl,h1,hL1,hF.jK,?_⟩
 conv=>whnf
 refine ag.dec (fun hl0=>?_) (fun hl0=>?_)
 ·have hLn:L=[]:=List.eq_nil_of_length_eq_zero (Int.ofNat_inj.1 hl0)
  conv=>whnf
  refine .inl ⟨1,s2,_,M,rfl,rfl,rfl,h2,hM1,hG.jK,?_⟩
  conv=>whnf
  refine ag.dec (fun hm0=>?_) (fun hm0=>?_)
  ·have hj0:bK s1 L M=if(aT (L++M)).length<=8*s1 then((L++M,[]),0)else((L,M),2):=by unfold bK;rw[if_neg (by simp[pt,hLn])]
   conv=>whnf
   refine .inr ⟨0,s1,_,L,rfl,rfl,rfl,h1,hL1,hF.jK,⟨rfl,by decide⟩,?_⟩
   conv=>whnf
   refine .inl ⟨1,s2,_,M,rfl,rfl,rfl,h2,hM1,hG.jK,?_⟩
   conv=>whnf
   refine bC.grow 2 16 _ _ _ _ _ _ tyS .fr (bf M) hone (.rw rfl hrowL) hbig ?_
   conv=>whnf
   refine⟨L++M,.inr (.inl (.inl ⟨_,0,0,_,_,⟨congrArg (fun k=>AV.rw _ 0 k 2 0) hLM.symm,by decide⟩,.inr ⟨_,rfl⟩,hsubLM,bJ _⟩)),hLM1,h64,?_⟩
   conv=>whnf
   refine ag.dec (fun h3=>?_) (fun h3=>?_)
   ·have e:bK s1 L M=((L,M),2):=by rw[hj0,if_neg (by rw[hw8]at h3;omega)]
    conv=>whnf
    exact leaf e rfl rfl rfl rfl rfl
   ·have e:bK s1 L M=((L++M,[]),0):=by rw[hj0,if_pos (by rw[hw8]at h3;omega)]
    conv=>whnf
    refine⟨[],.inl ⟨rfl,rfl⟩,by decide,hn0,?_⟩
    conv=>whnf
    exact leaf e rfl rfl hlq rfl rfl
  ·have hmp:0<M.length:=Nat.pos_of_ne_zero fun q=>hm0 (by exact Int.ofNat_inj.2 q)
   conv=>whnf
   refine Idx.mk 0 rfl hmp ?_
   conv=>whnf
   refine ay (fp hmp rfl) ?_;have hj0:bK s1 L M=if(aT (L++M)).length<=8*s1 then((L++M,[]),0)else((L,M),2):=by unfold bK;rw[if_neg (by simp[pt,hLn])]
   conv=>whnf
   refine .inr ⟨0,s1,_,L,rfl,rfl,rfl,h1,hL1,hF.jK,⟨rfl,by decide⟩,?_⟩
   conv=>whnf
   refine .inl ⟨1,s2,_,M,rfl,rfl,rfl,h2,hM1,hG.jK,?_⟩
   conv=>whnf
   refine bC.grow 2 16 _ _ _ _ _ _ tyS .fr (bf M) hone (.rw rfl hrowL) hbig ?_
   conv=>whnf
   refine⟨L++M,.inr (.inl (.inl ⟨_,0,0,_,_,⟨congrArg (fun k=>AV.rw _ 0 k 2 0) hLM.symm,by decide⟩,.inr ⟨_,rfl⟩,hsubLM,bJ _⟩)),hLM1,h64,?_⟩
   conv=>whnf
   refine ag.dec (fun h3=>?_) (fun h3=>?_)
   ·have e:bK s1 L M=((L,M),2):=by rw[hj0,if_neg (by rw[hw8]at h3;omega)]
    conv=>whnf
    exact leaf e rfl rfl rfl rfl rfl
   ·have e:bK s1 L M=((L++M,[]),0):=by rw[hj0,if_pos (by rw[hw8]at h3;omega)]
    conv=>whnf
    refine⟨[],.inl ⟨rfl,rfl⟩,by decide,hn0,?_⟩
    conv=>whnf
    exact leaf e rfl rfl hlq rfl rfl
 ·have hl1:0<L.length:=Nat.pos_of_ne_zero fun q=>hl0 (by exact Int.ofNat_inj.2 q)
  have hlp:L.length-1<L.length:=by omega
  have hlw:IntKind.i64.wrap ((L.length:Int)-1)=((L.length-1:Nat):Int):=(cU ⟨by omega,by omega⟩).trans (by omega)
  conv=>whnf
  refine Idx.mk (L.length-1) hlw hlp ?_
  conv=>whnf
  refine ay (fp hlp rfl) ?_
  conv=>whnf
  refine .inl ⟨1,s2,_,M,rfl,rfl,rfl,h2,hM1,hG.jK,?_⟩
  conv=>whnf
  refine ag.dec (fun hm0=>?_) (fun hm0=>?_)
  ·have hMn:M=[]:=List.eq_nil_of_length_eq_zero (Int.ofNat_inj.1 hm0);have hj0:bK s1 L M=if(aT (L++M)).length<=8*s1 then((L++M,[]),0)else((L,M),2):=by unfold bK;rw[if_neg (by simp[pt,hMn])]
   conv=>whnf
   refine .inr ⟨0,s1,_,L,rfl,rfl,rfl,h1,hL1,hF.jK,⟨rfl,by decide⟩,?_⟩
   conv=>whnf
   refine .inl ⟨1,s2,_,M,rfl,rfl,rfl,h2,hM1,hG.jK,?_⟩
   conv=>whnf
   refine bC.grow 2 16 _ _ _ _ _ _ tyS .fr (bf M) hone (.rw rfl hrowL) hbig ?_
   conv=>whnf
   refine⟨L++M,.inr (.inl (.inl ⟨_,0,0,_,_,⟨congrArg (fun k=>AV.rw _ 0 k 2 0) hLM.symm,by decide⟩,.inr ⟨_,rfl⟩,hsubLM,bJ _⟩)),hLM1,h64,?_⟩
   conv=>whnf
   refine ag.dec (fun h3=>?_) (fun h3=>?_)
   ·have e:bK s1 L M=((L,M),2):=by rw[hj0,if_neg (by rw[hw8]at h3;omega)]
    conv=>whnf
    exact leaf e rfl rfl rfl rfl rfl
   ·have e:bK s1 L M=((L++M,[]),0):=by rw[hj0,if_pos (by rw[hw8]at h3;omega)]
    conv=>whnf
    refine⟨[],.inl ⟨rfl,rfl⟩,by decide,hn0,?_⟩
    conv=>whnf
    exact leaf e rfl rfl hlq rfl rfl
  ·have hmp:0<M.length:=Nat.pos_of_ne_zero fun q=>hm0 (by exact Int.ofNat_inj.2 q)
   conv=>whnf
   refine Idx.mk 0 rfl hmp ?_
   conv=>whnf
   refine ay (fp hmp rfl) ?_
   have hd:decide (M[0].1<=L[L.length-1].1)=pt L M:=by
    unfold pt qT;have a1:decide (L≠[])=true:=by rw[decide_eq_true_eq];intro q;rw[q]at hl1;cases hl1
    have a2:decide (M≠[])=true:=by rw[decide_eq_true_eq];intro q;rw[q]at hmp;cases hmp
    rw[eR hmp,eR hlp,a1,a2];rfl
   conv=>whnf
   refine ag.dec (fun hmt=>?_) (fun hmt=>?_)
   ·have e:bK s1 L M=((L,M),1):=by unfold bK;rw[if_pos (hd▸decide_eq_true hmt)]
    conv=>whnf
    exact leaf e rfl rfl rfl rfl rfl
   ·have hnm:¬pt L M=true:=by rw[<-hd,decide_eq_true_eq];exact hmt
    have hj0:bK s1 L M=if(aT (L++M)).length<=8*s1 then((L++M,[]),0)else((L,M),2):=by unfold bK;rw[if_neg hnm]
    conv=>whnf
    refine .inr ⟨0,s1,_,L,rfl,rfl,rfl,h1,hL1,hF.jK,⟨rfl,by decide⟩,?_⟩
    conv=>whnf
    refine .inl ⟨1,s2,_,M,rfl,rfl,rfl,h2,hM1,hG.jK,?_⟩
    conv=>whnf
    refine bC.grow 2 16 _ _ _ _ _ _ tyS .fr (bf M) hone (.rw rfl hrowL) hbig ?_
    conv=>whnf
    refine⟨L++M,.inr (.inl (.inl ⟨_,0,0,_,_,⟨congrArg (fun k=>AV.rw _ 0 k 2 0) hLM.symm,by decide⟩,.inr ⟨_,rfl⟩,hsubLM,bJ _⟩)),hLM1,h64,?_⟩
    conv=>whnf
    refine ag.dec (fun h3=>?_) (fun h3=>?_)
    ·have e:bK s1 L M=((L,M),2):=by rw[hj0,if_neg (by rw[hw8]at h3;omega)]
     conv=>whnf
     exact leaf e rfl rfl rfl rfl rfl
    ·have e:bK s1 L M=((L++M,[]),0):=by rw[hj0,if_pos (by rw[hw8]at h3;omega)]
     conv=>whnf
     refine⟨[],.inl ⟨rfl,rfl⟩,by decide,hn0,?_⟩
     conv=>whnf
     exact leaf e rfl rfl hlq rfl rfl
def FH (args:List AV) (H:AH) (n:Nat) (κ:PK):Prop:=match args with
 | [x,y]=>∃(b c s1 s2:Nat) (L M:Smp),x= .ptr b 0/\y= .ptr c 0/\b≠c/\b<n/\c<n/\H.get b=some (.cells (chk s1 L) true)/\H.get c=some (.cells (chk s2 M) true)/\0<s1/\s1<=4096/\0<s2/\cK L/\cK M/\
  κ (.si .i64 (bK s1 L M).2) ((H.set (some (.cells (chk s2 (bK s1 L M).1.2) true)) aa c).set (some (.cells (chk s1 (bK s1 L M).1.1) true)) aa b) n
 |_=>False
theorem Rx:ai 188 FH:=fun args H n κ hs φ h0' hp vs K hr hargs hk=>by
 unfold FH at hs;split at hs
 ·obtain⟨x,y,rfl,e1,e2⟩:=vs2 hargs;obtain⟨b,c,s1,s2,L,M,rfl,rfl,hbc,hbn,hcn,hb,hc,h1,h1',h2,hF,hG,hs⟩:=hs
  refine dy (S:=[b,c]) (O:=[.cells (chk s1 L) true,.cells (chk s2 M) true]) (args0:=[.ptr 0 0,.ptr 1 0]) (ai.post (an Rw 5 _)) (by kernel_rfl) hr
   (y8 hbc hbn hcn hb hc (.inr rfl) (.inr rfl)) (.cons e1 (.cons e2 .nil)) hk (Lf s1 s2 L M h1 h1' h2 hF hG) fun u H' n' ⟨g1,g2,g3⟩=>?_
  subst g1;refine⟨2,jI [b,c] n H [(0,some (.cells (chk s1 (bK s1 L M).1.1) true)),(1,some (.cells (chk s2 (bK s1 L M).1.2) true))],Nat.le_refl _,fq.put (Nat.le_refl _) rfl (fun x hx o ho=>?_),rfl,hs⟩;simp only[List.mem_cons,List.not_mem_nil,or_false]at hx;rcases hx with rfl|rfl
  ·injection ho with ho;subst ho;exact⟨g2,rfl,rfl⟩
  ·injection ho with ho;subst ho;exact⟨g3,rfl,rfl⟩
 ·exact hs.elim
def pZ (L:Smp) (k:Nat):Bool:=decide (k<L.length-1)&&decide (2*(aT (L.take k)).length<(aT L).length)
def tG (L:Smp):Nat->Nat->Nat
 |0,k=>k
 |f+1,k=>if pZ L k then tG L f (k+1)else k
def bT (L:Smp):Nat:=tG L (L.length-1) 1
theorem NU {L:Smp} {k:Nat} (h:pZ L k=true):tG L (L.length-k) k=tG L (L.length-(k+1)) (k+1):=by
 have h1:k<L.length-1:=by unfold pZ at h;simp at h;exact h.1
 rw[show L.length-k=(L.length-(k+1))+1 by omega];show(if pZ L k=true then _ else _)=_;rw[if_pos h]
theorem xS {L:Smp} {f k:Nat} (h:pZ L k=false):tG L f k=k:=by cases f<;>simp[tG,h]
theorem zh (L:Smp) {k:Nat} (h:k<=L.length):AV.fr k 2 ((smp L).take (k*2))= .fr (L.take k).length 2 (smp (L.take k)):=by rw[vg,List.length_take,Nat.min_eq_left h]
theorem FI (L:Smp) (k:Nat):AV.fr (L.length-k) 2 ((smp L).drop (k*2))= .fr (L.drop k).length 2 (smp (L.drop k)):=by rw[qJ,List.length_drop]
def TV (args:List AV) (H:AH) (n:Nat) (κ:PK):Prop:=match args with
 | [x,y]=>∃(b c s1 s2:Nat) (L M:Smp),x= .ptr b 0/\y= .ptr c 0/\b≠c/\b<n/\c<n/\H.get b=some (.cells (rch s1 L) true)/\H.get c=some (.cells (rch s2 M) true)/\0<s1/\s1<=4096/\cK L/\cK M/\
  κ (.si .i64 (bK s1 L M).2) ((H.set (some (.cells (rch s2 (bK s1 L M).1.2) true)) aa c).set (some (.cells (rch s1 (bK s1 L M).1.1) true)) aa b) n
 |_=>False
def FL (f:Nat->Smp->AV) (args:List AV) (H:AH) (n:Nat) (κ:PK):Prop:=match args with
 | [x]=>∃(b size:Nat) (l:List AV) (L:Smp),x= .ptr b 0/\H.get b=some (.cells l true)/\l.map mk=chk size L/\κ (f size L) H n
 |_=>False
theorem Lg {f:FuncId} {g:Nat->Smp->AV} (hic:bW Tryz.prog f=true) (hg:∀size L,flat.flat1 (g size L)=true) (hrun:∀size L,ax evP 3 f [.ptr 0 0] (mkH [(0,.ro (chk size L))]) 1 fun u _ _=>mkT u=mkT (g size L)) (hm:∀size L,mkT (g size L)=g size L):ai f (FL g):=fun args H n κ hs φ h0' hp vs K hr hargs hk=>by
 unfold FL at hs;split at hs
 ·obtain⟨x,rfl,e1⟩:=vs1 hargs;obtain⟨b,size,l,L,rfl,hb,hl,hs⟩:=hs;obtain⟨p,hpb,rfl⟩:=e1.ct;have hl4:l.length=4:=by have:=congrArg List.length hl;simpa[chk]using this
  have hro:=nV.of (s:=chk size L) hr (.inr ⟨_,hb⟩) hpb (bq (n:=4) hl4) (by rw[hl,ze]) (dF size L);exact gM az (v:=g size L) (vc (hg size L)) (hrun size L) (by rw[hm];exact hs) hr hk hic (φ0:=ph1 ⟨p.B,p.s+0,4⟩) (fun hw=>HR.ro1 hw hro) (.cons (.ptr (p:=⟨p.B,p.s+0,4⟩) (o:=0) rfl) .nil)
 ·exact hs.elim
def Ry (_:Nat) (L:Smp):AV:= .si .i64 (L.length:Int)
def Lh (_:Nat) (L:Smp):AV:= .si .i64 ((pack (aT L)).length:Int)
theorem TW:ai 186 (FL Ry):=Lg (by kernel_rfl) (fun _ _=>rfl) (fun size L=>by
 conv=>whnf
 rfl) fun _ _=>rfl
noncomputable def KDb:FuncId->EP:=aw 221 pY evP
theorem Rz:aW KDb:=ae az BH
theorem Ih (L:Smp) (hL:L.length<=100000) (h64:∀x∈L,aN x.1/\aN x.2) (h0:L.length≠0):ax KDb 3 218 [.fr L.length 2 (smp L)] .nil 0 fun u _ _=>mkT u=mkT (.si .i64 ((aT L).length:Int)):=by
 conv=>whnf
 refine⟨L,.inr (.inl (.inr ⟨_,rfl,bJ _,h0⟩)),hL,h64,?_⟩
 conv=>whnf
 rfl
def BM (args:List AV) (H:AH) (n:Nat) (κ:PK):Prop:=match args with
 | [x]=>∃L:Smp,x= .fr L.length 2 (smp L)/\L.length<=100000/\(∀x∈L,aN x.1/\aN x.2)/\L.length≠0/\κ (.si .i64 ((aT L).length:Int)) H n
 |_=>False
theorem NV:ai 218 BM:=fun args H n κ hs φ h0' hp vs K hr hargs hk=>by
 unfold BM at hs;split at hs
 ·obtain⟨x,rfl,e1⟩:=vs1 hargs;obtain⟨L,rfl,hL,h64,h0,hs⟩:=hs;exact gM Rz (v:= .si .i64 ((aT L).length:Int)) rfl (Ih L hL h64 h0) hs hr hk (by kernel_rfl) (φ0:=⟨fun _=>none,φ.z,φ.z,fun _ _=>False⟩) (fun hw=>hr.xL (fB hw) (fun _ _ h=>by cases h) (fun _ h=>h)) (.cons (k7 (ψ:=⟨fun _=>none,φ.z,φ.z,fun _ _=>False⟩) (fun _ h=>h) rfl e1) .nil)
 ·exact hs.elim
theorem RA:iC BM:= .pure fun args H n κ hs=>by
 unfold BM at*;split at hs
 ·obtain⟨L,h1,h2,h3,h4,h5⟩:=hs;exact⟨_,h5,fun κ' h=>⟨L,h1,h2,h3,h4,h⟩⟩
 ·exact hs.elim
def SpQ (sz:Nat) (L:Smp) (k:Nat):PK:=fun u H' _=>u= .tup [.ptr 1 0,.int .i64 0]/\PM.get H' 0=some (.cells (chk sz (L.take k)) true)/\PM.get H' 1=some (.cells (chk sz (L.drop k)) true)
noncomputable def spt (sz:Nat) (L:Smp) (k:Nat):AE×AH:=(mkE [(0,.ptr 0 (0)),(4,.fr L.length 2 (smp L)),(5,.si .i64 (((k:Nat):Int)))],mkH [(0,.cells (chk sz L) true)])
theorem FM {sz:Nat} {L:Smp} {k:Nat} {p n:Nat} {σ:AE} {H:AH} (hp:p<=1) (e0:ak (pa 0) σ= .ptr 0 (0)) (e4:ak (pa 4) σ= .fr L.length 2 (smp L)) (e5:mk (ak (pa 5) σ)= .si .i64 (((k:Nat):Int))) (h0:∃l,H.get 0=some (.cells l true)/\l5 H 1 (fun b=>b) l (chk sz L)):Cov p σ H n ((spt sz L k).1,(spt sz L k).2,1):=
 Cov.ofA hp ⟨.ptr (by decide) e0,ah.frE e4,.int e5,trivial⟩ ⟨.inl (h0.elim fun l h=>⟨_,h.1,au.st h.2⟩),trivial⟩ rfl
def NW:DT:=[(7,[(some 0,[5]),(some 0,[4]),(some 0,[20]),(some 0,[21]),(some 0,[19,22]),(some 0,[23]),(some 0,[4,24]),(some 0,[5,24]),(some 0,[25,26,24]),(none,[27,24]),(some 0,[28,24]),(some 2,[0,24]),(some 3,[30,24]),(some 4,[31,24]),(some 5,[32,24]),(some 0,[29,33,24]),(some 0,[24,34])])]
noncomputable def KSp:FuncId->EP:=aV 185 NW (cT 218 BM (aw 119 sd (aw 221 pY evP)))
theorem Li:aW KSp:=aq (a8 (ae (ae az BH) FE) NV RA) (by kernel_rfl) (by kernel_rfl)
theorem Lj {sz:Nat} {L:Smp}:∀{H:AH} {m:Nat} {r:Nat->Nat},l5 H m r (chk sz L) (chk sz L):= .cons (.int rfl) (.cons (.str rfl) (.cons (.int rfl) (.cons (.int rfl) .nil)))
theorem DX (sz:Nat) (L:Smp) (hsz:0<sz) (h2:L.length<2):post (ax KSp 4 185) [.ptr 0 0] (mkH [(0,.cells (chk sz L) true)]) 1 (fun u H' _=>u= .tup [.nil,.int .i64 5]/\PM.get H' 0=some (.cells (chk sz L) true)):=by
 have hz:(0:Int)<(sz:Int):=by omega
 show ax KSp 4 185 _ _ _ _
 conv=>whnf
 refine ag.dh (fun h=>absurd hz h) (fun _=>?_)
 conv=>whnf
 refine ag.dec (fun _=>?_) (fun q=>absurd (show(L.length:Int)<2 by omega) q)
 conv=>whnf
 exact⟨_,_,_,.refl _,.refl _ _,rfl,rfl⟩
theorem DY (sz:Nat) (L:Smp) (hsz:0<sz) (hF:cK L) (h2:2<=L.length):post (ax KSp 4 185) [.ptr 0 0] (mkH [(0,.cells (chk sz L) true)]) 1 (SpQ sz L (bT L)):=by
 have hz:(0:Int)<(sz:Int):=by omega
 have hL:=hF.2.2;have h64:=hF.jK;have hL1:L.length<=100000:=by omega
 have leaf:∀{H':AH} {n' k:Nat} {l m:List AV},k=bT L->PM.get H' 0=some (.cells l true)->l.map mk=chk sz (L.take k)->PM.get H' 1=some (.cells m true)->m.map mk=chk sz (L.drop k)->∃v2 H2 n2,VTo (.tup [.ptr 1 0,.int .i64 0]) v2/\eu H' n' H2 n2/\SpQ sz L (bT L) v2 H2 n2:=fun hk g1 g2 g3 g4=>by
  rw[<-hk];exact⟨_,_,_,.refl _,(eu.DQ (l':=chk sz (L.drop _)) g3 rfl g4).trans (eu.DQ (l':=chk sz (L.take _)) (vy.trans g1) rfl g2),rfl,PM.vw,vz.trans vA⟩
 have hlw:IntKind.i64.wrap ((L.length:Int)-1)=((L.length-1:Nat):Int):=(cU ⟨by omega,by omega⟩).trans (by omega);show ax KSp 4 185 _ _ _ _
 conv=>whnf
 refine ag.dh (fun h=>absurd hz h) (fun _=>?_)
 conv=>whnf
 refine ag.dec (fun q=>absurd q (by omega)) (fun _=>?_)
 conv=>whnf
 refine⟨0,sz,_,L,rfl,rfl,rfl,hsz,hL1,h64,?_⟩
 conv=>whnf
 refine aS.mk {k:Nat//1<=k/\k<=L.length-1/\tG L (L.length-k) k=bT L} 1 (fun k=>spt sz L k.val) (fun k=>L.length-k.val) ⟨1,Nat.le_refl _,by omega,rfl⟩ ?_ ?_
 ·exact FM (Nat.le_refl 1) rfl rfl rfl ⟨_,rfl,Lj⟩
 ·intro⟨k,hk1,hk2,hk3⟩;have hkl:k<=L.length:=by omega
  have hFt:=hF.sub (List.take_sublist k L);have hFd:=hF.sub (List.drop_sublist k L);have hit:(L.take k).length<=100000:=by rw[List.length_take];omega
  have hid:(L.drop k).length<=100000:=by rw[List.length_drop];omega
  have hnt:(L.take k).length≠0:=by rw[List.length_take];omega
  have hnd:(L.drop k).length≠0:=by rw[List.length_drop];omega
  have hlt:=Bv (L.take k);have hlt2:(aT (L.take k)).length<=13600000:=by omega
  have hk:IntKind.i64.wrap ((k:Int)+1)=((k+1:Nat):Int):=cU ⟨by omega,by omega⟩;have h2w:IntKind.i64.wrap (2*((aT (L.take k)).length:Int))=((2*(aT (L.take k)).length:Nat):Int):=(cU ⟨by omega,by omega⟩).trans (by omega);have hqt: [AV.si .i64 (sz:Int),.ss (pack (aT (L.take k))),.si .i64 ((aT (L.take k)).length:Int),.si .i64 (k:Int)].map mk=chk sz (L.take k):=by unfold chk;rw[List.length_take,Nat.min_eq_left hkl];rfl
  have hqd: [AV.si .i64 (sz:Int),.ss (pack (aT (L.drop k))),.si .i64 ((aT (L.drop k)).length:Int),.si .i64 ((L.length-k:Nat):Int)].map mk=chk sz (L.drop k):=by unfold chk;rw[List.length_drop];rfl
  conv=>whnf
  refine ag.dec (fun h=>?_) (fun h=>?_)
  ·have hc1:k<L.length-1:=by rw[hlw]at h;exact Int.ofNat_lt.1 h
   conv=>whnf
   refine RSl.mk 0 k rfl rfl (.inl rfl) (Nat.zero_le _) hkl ?_
   conv=>whnf
   refine⟨L.take k,zh L hkl,hit,hFt.jK,hnt,?_⟩
   conv=>whnf
   refine ag.dec (fun h3=>?_) (fun h3=>?_)
   ·have hcut:pZ L k=true:=by rw[h2w]at h3;unfold pZ;rw[decide_eq_true hc1,Bool.true_and];exact decide_eq_true (Int.ofNat_lt.1 h3)
    conv=>whnf
    exact⟨⟨k+1,by omega,by omega,(NU hcut).symm.trans hk3⟩,(show L.length-(k+1)<L.length-k by omega),FM (Nat.le_refl 1) rfl rfl (congrArg (AV.si .i64) hk) ⟨_,rfl,Lj⟩⟩
   ·have hsk:k=bT L:=by rw[<-hk3,xS (by rw[h2w]at h3;unfold pZ;rw[decide_eq_true hc1,Bool.true_and];exact decide_eq_false (fun q=>h3 (Int.ofNat_lt.2 q)))]
    conv=>whnf
    refine RSl.mk k _ rfl rfl (.inl rfl) hkl (Nat.le_refl _) ?_
    conv=>whnf
    refine⟨L.drop k,.inr (.inl (.inr ⟨_,FI L k,bJ _,hnd⟩)),hid,hFd.jK,?_⟩
    conv=>whnf
    refine RSl.mk 0 k rfl rfl (.inl rfl) (Nat.zero_le _) hkl ?_
    conv=>whnf
    refine⟨L.take k,.inr (.inl (.inr ⟨_,zh L hkl,bJ _,hnt⟩)),hit,hFt.jK,?_⟩
    conv=>whnf
    exact leaf hsk rfl hqt rfl hqd
  ·have hsk:k=bT L:=by rw[<-hk3,xS (by rw[hlw]at h;unfold pZ;rw[decide_eq_false (fun q=>h (Int.ofNat_lt.2 q))];rfl)]
   conv=>whnf
   refine RSl.mk k _ rfl rfl (.inl rfl) hkl (Nat.le_refl _) ?_
   conv=>whnf
   refine⟨L.drop k,.inr (.inl (.inr ⟨_,FI L k,bJ _,hnd⟩)),hid,hFd.jK,?_⟩
   conv=>whnf
   refine RSl.mk 0 k rfl rfl (.inl rfl) (Nat.zero_le _) hkl ?_
   conv=>whnf
   refine⟨L.take k,.inr (.inl (.inr ⟨_,zh L hkl,bJ _,hnt⟩)),hit,hFt.jK,?_⟩
   conv=>whnf
   exact leaf hsk rfl hqt rfl hqd
def BN (args:List AV) (H:AH) (n:Nat) (κ:PK):Prop:=match args with
 | [x]=>∃(c sz:Nat) (L:Smp),x= .ptr c 0/\c<n/\H.get c=some (.cells (chk sz L) true)/\0<sz/\cK L/\(L.length<2->κ (.tup [.nil,.int .i64 5]) H n)/\
  (2<=L.length->κ (.tup [.ptr n 0,.int .i64 0]) ((H.set (some (.cells (chk sz (L.drop (bT L))) true)) aa n).set (some (.cells (chk sz (L.take (bT L))) true)) aa c) (n+1))
 |_=>False
theorem Qo {c n:Nat} {H H':AH} {sz:Nat} {L:Smp} (hc:H.get c=some (.cells (chk sz L) true)) (h2:PM.get H' 0=some (.cells (chk sz L) true)):fq [c] n ([c]:List Nat).length H H' H:=fq.same fun i s o h3 h4 _=>by
 cases i with
 |zero=>
  injection h3 with h3;subst h3;rw[hc]at h4;injection h4 with h4;subst h4;exact⟨_,h2,rfl,rfl,rfl⟩
 |succ i=>simp at h3
theorem NX:ai 185 BN:=fun args H n κ hs φ h0' hp vs K hr hargs hk=>by
 unfold BN at hs;split at hs
 ·obtain⟨x,rfl,e1⟩:=vs1 hargs;obtain⟨c,sz,L,rfl,hcn,hc,hsz,hF,ha,hb⟩:=hs;rcases Nat.lt_or_ge L.length 2 with h2|h2
  ·refine dy (S:=[c]) (O:=[.cells (chk sz L) true]) (args0:=[.ptr 0 0]) (ai.post (an Li 4 _)) (by kernel_rfl) hr
    (n6 hcn hc (.inr rfl)) (.cons e1 .nil) hk (DX sz L hsz h2) fun u H' n' ⟨g1,g2⟩=>?_
   subst g1;exact⟨1,H,Nat.le_refl _,Qo hc g2,rfl,ha h2⟩
  ·refine dy (S:=[c]) (O:=[.cells (chk sz L) true]) (args0:=[.ptr 0 0]) (ai.post (an Li 4 _)) (by kernel_rfl) hr
    (n6 hcn hc (.inr rfl)) (.cons e1 .nil) hk (DY sz L hsz hF h2) fun u H' n' ⟨g1,g2,g3⟩=>?_
   subst g1;refine⟨2,jI [c] n H [(0,some (.cells (chk sz (L.take (bT L))) true)),(1,some (.cells (chk sz (L.drop (bT L))) true))],Nat.le_succ 1,fq.put (Nat.le_succ 1) rfl (fun x hx o ho=>?_),rfl,hb h2⟩;simp only[List.mem_cons,List.not_mem_nil,or_false]at hx;rcases hx with rfl|rfl
   ·injection ho with ho;subst ho;exact⟨g2,rfl,rfl⟩
   ·injection ho with ho;subst ho;exact⟨g3,rfl,rfl⟩
 ·exact hs.elim
theorem VTo.Lk {a b c:AV} {x y:Int} {q:Bool} (h1:mk a= .si .i64 x) (h2:mk b= .si .i64 y) (h3:mk c= .sb q):VTo (.tup [.agg [a,b],c]) (.tup [.agg [.si .i64 x,.si .i64 y],.sb q]):=fun φ w h=>by
 obtain⟨cs,rfl,hv⟩:=h.eQ;obtain⟨v1,v2,rfl,e1,e2⟩:=vs2 hv;obtain⟨ds,rfl,hw⟩:=e1.dC;obtain⟨w1,w2,rfl,f1,f2⟩:=vs2 hw;have k1:=f1.mk;have k2:=f2.mk;have k3:=e2.mk;rw[h1]at k1;rw[h2]at k2;rw[h3]at k3;exact .tup (.cons (.agg (.cons k1 (.cons k2 .nil))) (.cons k3 .nil))
def FLv (i:Nat) (L:Smp):AV:= .tup [.agg [.si .i64 (tAt L i),.si .i64 (vAt L i)],.sb (decide ((0:Int)<(L.length:Int)))]
def FLQ (i sz:Nat) (L:Smp):PK:=fun u H' _=>u=FLv i L/\PM.get H' 0=some (.cells (chk sz L) true)
theorem tX {i sz n':Nat} {L:Smp} {a b c:AV} {H':AH} (h1:mk a= .si .i64 (tAt L i)) (h2:mk b= .si .i64 (vAt L i)) (h3:mk c= .sb (decide ((0:Int)<(L.length:Int)))) (hc:PM.get H' 0=some (.cells (chk sz L) true)):∃v H2 n2,VTo (.tup [.agg [a,b],c]) v/\eu H' n' H2 n2/\FLQ i sz L v H2 n2:=⟨_,H',n',VTo.Lk h1 h2 h3,.refl _ _,rfl,hc⟩
noncomputable def KFL:FuncId->EP:=aw 119 sd evP
theorem RB:aW KFL:=ae az FE
theorem Ii (sz:Nat) (L:Smp) (hs:0<sz) (hF:cK L):post (ax KFL 4 121) [.ptr 0 0] (mkH [(0,.cells (chk sz L) true)]) 1 (FLQ (0) sz L):=by
 have hL:=hF.2.2;have h64:=hF.jK;have hL1:L.length<=100000:=by omega
 have hnt:∀i,¬(0:Int)<(L.length:Int)->AV.si .i64 0= .si .i64 (tAt L i):=fun i h=>by rw[List.eq_nil_of_length_eq_zero (show L.length=0 by omega)];rfl
 have hnv:∀i,¬(0:Int)<(L.length:Int)->AV.si .i64 0= .si .i64 (vAt L i):=fun i h=>by rw[List.eq_nil_of_length_eq_zero (show L.length=0 by omega)];rfl
 show ax KFL 4 121 _ _ _ _
 conv=>whnf
 refine⟨0,sz,_,L,rfl,rfl,rfl,hs,hL1,h64,?_⟩
 conv=>whnf
 refine ag.dec (fun h=>?_) (fun h=>?_)
 ·have hz:¬(0:Int)<(L.length:Int):=by omega
  have hq:AV.sb false= .sb (decide ((0:Int)<(L.length:Int))):=by rw[decide_eq_false hz]
  conv=>whnf
  exact tX (hnt _ hz) (hnv _ hz) hq rfl
 ·have hz:(0:Int)<(L.length:Int):=by omega
  have hp:0<L.length:=by omega
  have hq:AV.sb true= .sb (decide ((0:Int)<(L.length:Int))):=by rw[decide_eq_true hz]
  have hw:(0:Int)=((0:Nat):Int):=rfl
  have ht:AV.si .i64 L[0].1= .si .i64 (tAt L (0)):=by rw[eR hp]
  have hv:AV.si .i64 L[0].2= .si .i64 (vAt L (0)):=by rw[pW hp]
  conv=>whnf
  refine Idx.mk (0) hw hp ?_
  conv=>whnf
  refine ay (fp hp rfl) ?_
  conv=>whnf
  exact tX ht hv hq rfl
theorem Ll (sz:Nat) (L:Smp) (hs:0<sz) (hF:cK L):post (ax KFL 4 60) [.ptr 0 0] (mkH [(0,.cells (chk sz L) true)]) 1 (FLQ (L.length-1) sz L):=by
 have hL:=hF.2.2;have h64:=hF.jK;have hL1:L.length<=100000:=by omega
 have hnt:∀i,¬(0:Int)<(L.length:Int)->AV.si .i64 0= .si .i64 (tAt L i):=fun i h=>by rw[List.eq_nil_of_length_eq_zero (show L.length=0 by omega)];rfl
 have hnv:∀i,¬(0:Int)<(L.length:Int)->AV.si .i64 0= .si .i64 (vAt L i):=fun i h=>by rw[List.eq_nil_of_length_eq_zero (show L.length=0 by omega)];rfl
 show ax KFL 4 60 _ _ _ _
 conv=>whnf
 refine⟨0,sz,_,L,rfl,rfl,rfl,hs,hL1,h64,?_⟩
 conv=>whnf
 refine ag.dec (fun h=>?_) (fun h=>?_)
 ·have hz:¬(0:Int)<(L.length:Int):=by omega
  have hq:AV.sb false= .sb (decide ((0:Int)<(L.length:Int))):=by rw[decide_eq_false hz]
  conv=>whnf
  exact tX (hnt _ hz) (hnv _ hz) hq rfl
 ·have hz:(0:Int)<(L.length:Int):=by omega
  have hp:L.length-1<L.length:=by omega
  have hq:AV.sb true= .sb (decide ((0:Int)<(L.length:Int))):=by rw[decide_eq_true hz]
  have hw:IntKind.i64.wrap ((L.length:Int)-1)=((L.length-1:Nat):Int):=(cU ⟨by omega,by omega⟩).trans (by omega);have ht:AV.si .i64 L[L.length-1].1= .si .i64 (tAt L (L.length-1)):=by rw[eR hp]
  have hv:AV.si .i64 L[L.length-1].2= .si .i64 (vAt L (L.length-1)):=by rw[pW hp]
  conv=>whnf
  refine Idx.mk (L.length-1) hw hp ?_
  conv=>whnf
  refine ay (fp hp rfl) ?_
  conv=>whnf
  exact tX ht hv hq rfl
def BO (i:Smp->Nat) (args:List AV) (H:AH) (n:Nat) (κ:PK):Prop:=match args with
 | [x]=>∃(c sz:Nat) (L:Smp),x= .ptr c 0/\c<n/\H.get c=some (.cells (chk sz L) true)/\0<sz/\cK L/\κ (FLv (i L) L) H n
 |_=>False
theorem BP {f:FuncId} {i:Smp->Nat} (hic:bW Tryz.prog f=true) (hrun:∀(sz:Nat) (L:Smp),0<sz->cK L->post (ax KFL 4 f) [.ptr 0 0] (mkH [(0,.cells (chk sz L) true)]) 1 (FLQ (i L) sz L)):ai f (BO i):=fun args H n κ hs φ h0' hp vs K hr hargs hk=>by
 unfold BO at hs;split at hs
 ·obtain⟨x,rfl,e1⟩:=vs1 hargs;obtain⟨c,sz,L,rfl,hcn,hc,hsz,hF,hs⟩:=hs
  refine dy (S:=[c]) (O:=[.cells (chk sz L) true]) (args0:=[.ptr 0 0]) (ai.post (an RB 4 _)) hic hr
   (n6 hcn hc (.inr rfl)) (.cons e1 .nil) hk (hrun sz L hsz hF) fun u H' n' ⟨h1,h2⟩=>?_
  subst h1;exact⟨1,H,Nat.le_refl _,Qo hc h2,rfl,hs⟩
 ·exact hs.elim
theorem NY:ai 121 (BO fun _=>0):=BP (by kernel_rfl) Ii
theorem RC:ai 60 (BO fun L=>L.length-1):=BP (by kernel_rfl) Ll
theorem Up.app {A B:Smp}:Up (A++B)<->Up A/\Up B/\∀x∈A,∀y∈B,x.1<y.1:=List.pairwise_append
def fm (L:Smp) (t v p:Int):Smp×Int:=if has L t then(if(br p (vAt L (plc L t)) v).2≠0 then(L,(br p (vAt L (plc L t)) v).2)else(kQ L t (br p (vAt L (plc L t)) v).1,0))else(jJ L t v,0)
theorem DZ (p a b:Int):(br p a b).2≠2:=by
 unfold br
 repeat' split
 all_goals exact fun q=>absurd q (by simp)
theorem se {sz:Nat} {L:Smp} {t v p:Int} (ht:0<=t/\t<1099511627776):eG sz L t v p=if(fm L t v p).2≠0 then(L,(fm L t v p).2)else pU sz L (fm L t v p).1:=by
 unfold eG fm;rw[if_neg (by omega)];by_cases h:has L t=true
 ·rw[if_pos h,if_pos h];by_cases q:(br p (vAt L (plc L t)) v).2≠0
  ·rw[if_pos q,if_pos q];simp[q]
  ·rw[if_neg q,if_neg q];simp
 ·rw[if_neg h,if_neg h];simp
theorem Lm (L:Smp) (t v p:Int):(fm L t v p).2≠2:=by
 unfold fm;split
 ·split
  ·exact DZ _ _ _
  ·exact fun q=>absurd q (by simp)
 ·exact fun q=>absurd q (by simp)
theorem BQ {L:Smp} {t v p:Int} (h:(fm L t v p).2≠0):(fm L t v p).1=L:=by
 unfold fm at h⊢;split
 ·split
  ·rfl
  ·rename_i a b;rw[if_pos a,if_neg b]at h;exact absurd rfl h
 ·rename_i a;rw[if_neg a]at h;exact absurd rfl h
theorem Ln {A X:Smp} {t:Int} (h:∀x∈A,x.1<t):plc (A++X) t=A.length+plc X t:=by
 induction A with
 |nil=>simp
 |cons a A ih=>
  rw[List.cons_append,plc,if_pos (h a (by simp)),ih fun x hx=>h x (List.mem_cons_of_mem _ hx)];simp only[List.length_cons];omega
theorem Ij {M B:Smp} {t:Int} (h:∀x∈B,t<x.1):plc (M++B) t=plc M t:=by
 induction M with
 |nil=>
  cases B with
  |nil=>rfl
  |cons b B=>
   have hb:¬b.1<t:=by have:=h b (by simp);omega
   show plc (b::B) t=0;unfold plc;rw[if_neg hb]
 |cons a M ih=>rw[List.cons_append,plc,plc,ih]
theorem tY {A M B:Smp} {t:Int} (hA:∀x∈A,x.1<t) (hB:∀x∈B,t<x.1):plc (A++(M++B)) t=A.length+plc M t:=by rw[Ln hA,Ij hB]
theorem FN {A M B:Smp} {i:Nat} (h:i<M.length):(A++(M++B))[A.length+i]?=M[i]?:=by
 rw[List.getElem?_append_right (by omega),show A.length+i-A.length=i by omega,List.getElem?_append_left h]
theorem NZ {A M B:Smp} {t:Int} (hA:∀x∈A,x.1<t) (hB:∀x∈B,t<x.1):has (A++(M++B)) t=has M t:=by
 unfold has;rw[tY hA hB];by_cases h:plc M t<M.length
 ·have e:tAt (A++(M++B)) (A.length+plc M t)=tAt M (plc M t):=by unfold tAt;rw[FN h]
  rw[e];congr 1;simp only[List.length_append,eq_iff_iff];constructor
  ·exact fun q=>⟨h,q.2⟩
  ·exact fun q=>⟨by omega,q.2⟩
 ·have hp:plc M t=M.length:=by have:=pV M t;omega
  have e2:¬(plc M t<M.length/\tAt M (plc M t)=t):=fun q=>h q.1
  rw[decide_eq_false e2];refine decide_eq_false fun⟨q1,q2⟩=>?_
  have q1:M.length<(M++B).length:=by simp only[List.length_append]at q1⊢;omega
  have e3:(A++(M++B))[A.length+plc M t]?=B[0]?:=by
   rw[List.getElem?_append_right (by omega),show A.length+plc M t-A.length=M.length by omega,List.getElem?_append_right (Nat.le_refl _),Nat.sub_self]
  cases hB0:B with
  |nil=>rw[hB0]at q1;simp at q1
  |cons y B'=>
   unfold tAt at q2;rw[e3,hB0]at q2;have:=hB y (by rw[hB0];simp);simp at q2;omega
theorem BR {A M B:Smp} {t:Int} (v p:Int) (hA:∀x∈A,x.1<t) (hB:∀x∈B,t<x.1):fm (A++(M++B)) t v p=(A++((fm M t v p).1++B),(fm M t v p).2):=by
 have hle:=pV M t
 have e1:jJ (A++(M++B)) t v=A++(jJ M t v++B):=by
  unfold jJ;rw[tY hA hB,List.take_length_add_append,List.drop_length_add_append,List.take_append_of_le_length hle,List.drop_append_of_le_length hle];simp
 unfold fm;rw[NZ hA hB];by_cases h:has M t=true
 ·have hlt:plc M t<M.length:=by unfold has at h;exact(of_decide_eq_true h).1
  have e2:vAt (A++(M++B)) (plc (A++(M++B)) t)=vAt M (plc M t):=by unfold vAt;rw[tY hA hB,FN hlt]
  have e3:∀w,kQ (A++(M++B)) t w=A++(kQ M t w++B):=fun w=>by
   unfold kQ;rw[tY hA hB,List.set_append_right _ _ (by omega),show A.length+plc M t-A.length=plc M t by omega,List.set_append_left _ _ hlt]
  rw[if_pos h,if_pos h,e2,e3];split<;>rfl
 ·rw[if_neg h,if_neg h,e1]
theorem ke (X:Smp) (i:Nat):2<=(cf X i).length/\(cf X i).length<=136/\(i=0->(cf X i).length=128):=by
 unfold cf;split
 ·simp[aL]
 ·rename_i h;have h1:=ga (dT X i);have h2:=ga (dV X i);rw[List.length_append];exact⟨by omega,by omega,fun q=>absurd q h⟩
theorem sh {A M:Smp} (i:Nat):tAt (A++M) (A.length+i)=tAt M i/\vAt (A++M) (A.length+i)=vAt M i:=by
 unfold tAt vAt;rw[List.getElem?_append_right (by omega),show A.length+i-A.length=i by omega];exact⟨rfl,rfl⟩
theorem lk {A M:Smp} {i:Nat} (h:i<A.length):tAt (A++M) i=tAt A i/\vAt (A++M) i=vAt A i:=by
 unfold tAt vAt;rw[List.getElem?_append_left h];exact⟨rfl,rfl⟩
theorem D0 {A M:Smp} {i:Nat} (h:i<A.length):cf (A++M) i=cf A i:=by
 unfold cf dT dV dM;rw[(lk h).1,(lk h).2,(lk (show i-1<A.length by omega)).1,(lk (show i-1<A.length by omega)).2,(lk (show i-2<A.length by omega)).1,(lk (show 0<A.length by omega)).1,(lk (show 0<A.length by omega)).2]
theorem BS {A M:Smp} {i:Nat} (h:2<=i):cf (A++M) (A.length+i)=cf M i:=by
 unfold cf dT dV dM;rw[show A.length+i-1=A.length+(i-1) by omega,show A.length+i-2=A.length+(i-2) by omega,(sh i).1,(sh i).2,(sh (i-1)).1,(sh (i-1)).2,(sh (i-2)).1];simp only[show¬(A.length+i=0) by omega,show¬(A.length+i<2) by omega,show¬(i=0) by omega,show¬(i<2) by omega,if_false]
theorem kG {A M:Smp}:∀{i:Nat},i<=A.length->aE (A++M) i=aE A i
 |0,_=>rfl
 |i+1,h=>by rw[aE,aE,kG (by omega),D0 (by omega)]
theorem oa (A M:Smp):∀i:Nat,(aE (A++M) (A.length+i)).length<=(aT A).length+(aE M i).length+142/\(aT A).length+(aE M i).length<=(aE (A++M) (A.length+i)).length+260
 |0=>by
  rw[Nat.add_zero,kG (Nat.le_refl _),aE];have:(aE A A.length).length=(aT A).length:=rfl
  simp only[List.length_nil];omega
 |1=>by
  obtain⟨h1,h2⟩:=oa A M 0;have e:aE (A++M) (A.length+1)=aE (A++M) (A.length+0)++cf (A++M) (A.length+0):=rfl
  have e0:aE (A++M) (A.length+0)=aE A A.length:=by rw[Nat.add_zero,kG (Nat.le_refl _)]
  have:(aE A A.length).length=(aT A).length:=rfl
  have s1:=ke (A++M) (A.length+0);have s2:=ke M 0;have s3:=s2.2.2 rfl
  have e2:aE M 1=[]++cf M 0:=rfl
  rw[e,e0,e2,List.length_append,List.length_append,List.length_nil];omega
 |i+2=>by
  by_cases hi:i=0
  ·subst hi;have e:aE (A++M) (A.length+2)=aE (A++M) (A.length+0)++cf (A++M) (A.length+0)++cf (A++M) (A.length+1):=rfl
   have e0:aE (A++M) (A.length+0)=aE A A.length:=by rw[Nat.add_zero,kG (Nat.le_refl _)]
   have:(aE A A.length).length=(aT A).length:=rfl
   have s1:=ke (A++M) (A.length+0);have s2:=ke M 0;have s3:=s2.2.2 rfl
   have s4:=ke (A++M) (A.length+1);have s5:=ke M 1;have e2:aE M 2=[]++cf M 0++cf M 1:=rfl
   rw[e,e0,e2];simp only[List.length_append,List.length_nil];omega
  ·obtain⟨h1,h2⟩:=oa A M (i+1);have e:aE (A++M) (A.length+(i+2))=aE (A++M) (A.length+(i+1))++cf (A++M) (A.length+(i+1)):=rfl
   have e2:aE M (i+2)=aE M (i+1)++cf M (i+1):=rfl
   rw[e,e2,BS (by omega),List.length_append,List.length_append];omega
theorem BT (A M:Smp):(aT (A++M)).length<=(aT A).length+(aT M).length+142/\(aT A).length+(aT M).length<=(aT (A++M)).length+260:=by
 have:=oa A M M.length;unfold aT;rw[List.length_append];exact this
theorem FO {L:Smp}:∀(f k:Nat),1<=k->k<=L.length-1->1<=tG L f k/\tG L f k<=L.length-1
 |0,k,h1,h2=>⟨h1,h2⟩
 |f+1,k,h1,h2=>by
  unfold tG;split
  ·rename_i h;unfold pZ at h;simp only[Bool.and_eq_true,decide_eq_true_eq]at h;exact FO f (k+1) (by omega) (by omega)
  ·exact⟨h1,h2⟩
theorem zi {L:Smp} (h:2<=L.length):1<=bT L/\bT L<=L.length-1:=FO _ 1 (Nat.le_refl _) (by omega)
theorem BU {L:Smp}:∀(f k:Nat),L.length-k<=f->pZ L (tG L f k)=false
 |0,k,h=>by
  show pZ L k=false;unfold pZ;rw[decide_eq_false (show¬k<L.length-1 by omega)];rfl
 |f+1,k,h=>by
  unfold tG;split
  ·exact BU f (k+1) (by omega)
  ·rename_i h;simpa using h
theorem Lo {L:Smp} (h:1<=L.length):pZ L (bT L)=false:=BU _ 1 (by omega)
theorem Lp {sz:Nat} (hs:128<=sz) {L:Smp} (h2:2<=L.length) (hf:(aT L).length<=8*sz):(aT (L.take (bT L))).length<=8*sz/\(aT (L.drop (bT L))).length<=8*sz:=by
 obtain⟨k1,k2⟩:=zi h2;have he:=Lo (L:=L) (by omega);generalize bT L=k at*;have e:=BT (L.take k) (L.drop k);rw[List.take_append_drop]at e
 have e2:(aT (L.take k)).length<=(aT L).length:=by
  have:aT L=aE (L.take k++L.drop k) L.length:=by rw[List.take_append_drop];rfl
  have hl:(L.take k).length=k:=by rw[List.length_take];omega
  have e4:aE (L.take k++L.drop k) (L.take k).length=aT (L.take k):=kG (Nat.le_refl _)
  have mono:∀(X:Smp) (i j:Nat),(aE X i).length<=(aE X (i+j)).length:=fun X i j=>by
   induction j with
   |zero=>exact Nat.le_refl _
   |succ j ih=>
    have e5:aE X (i+(j+1))=aE X (i+j)++cf X (i+j):=rfl
    rw[e5,List.length_append];omega
  have:=mono (L.take k++L.drop k) k (L.length-k);rw[<-e4,hl];have e6:aT L=aE (L.take k++L.drop k) (k+(L.length-k)):=by rw[List.take_append_drop,show k+(L.length-k)=L.length by omega];rfl
  rw[e6];exact this
 refine⟨by omega,?_⟩;unfold pZ at he;by_cases q:k<L.length-1
 ·rw[decide_eq_true q]at he;have:¬2*(aT (L.take k)).length<(aT L).length:=by simpa using he
  omega
 ·have hl:(L.drop k).length<=7:=by rw[List.length_drop];omega
  have:=oL hl;omega
abbrev Ck5:=List ((Nat×Nat)×Smp)
def chs (sz:Nat) (C:Ck5):Pk:=C.map fun c=>(c.1,chk sz c.2)
theorem dG (sz:Nat) (A B:Ck5) (p:Nat×Nat) (L:Smp):chs sz (A++(p,L)::B)=chs sz A++(p,chk sz L)::chs sz B:=by simp[chs]
def eT (sz:Nat) (C D:Ck5):Prop:=∀z S h,(pk (chs sz C)).P z S h->(pk (chs sz D)).P z S h
theorem eT.refl (sz:Nat) (C:Ck5):eT sz C C:=fun _ _ _ h=>h
theorem eT.sub {sz:Nat} {C D:Ck5} (h:D.Sublist C):eT sz C D:=Rb (h.map _)
noncomputable def BV (H:AH) (b sz:Nat) (D:Ck5):AH:=H.set (some (.sep (pk (chs sz D)))) aa b
structure wT (H:AH) (n b sz:Nat) (C:Ck5):Prop where
 bn:b<n
 lt:n<1000000
 nn:H.get n=none
 hb:H.get b=some (.sep (pk (chs sz C)))
def zj (args:List AV) (H:AH) (n:Nat) (κ:PK):Prop:=match args with
 | [x,y,z]=>∃(b sz:Nat) (A B D:Ck5) (p:Nat×Nat) (L:Smp) (t v q:Int) (r:Smp×Int),x=aQ p/\mR y t v/\mk z= .si .i64 q/\wT H n b sz (A++(p,L)::B)/\0<sz/\sz<=4096/\cK L/\aN v/\eG sz L t v q=r/\eT sz (A++(p,r.1)::B) D/\
  κ (.si .i64 r.2) (BV H b sz D) (n+1)
 |_=>False
theorem RD:ai 183 zj:=fun args H n κ hs φ h0' hp vs K hr hargs hk=>by
 unfold zj at hs;split at hs
 ·obtain⟨b,sz,A,B,D,p,L,t,v,q,r,rfl,hy,hz,⟨hbn,hn,hn0,hb⟩,s1,s2,hF,hv,hr5,hD,hs⟩:=hs;subst hr5;rw[dG]at hb;unfold eT at hD;rw[dG]at hD;exact TU.Fh hr hbn hn hn0 hb hargs hk ⟨n,sz,L,t,v,q,rfl,hy,hz,Nat.lt_succ_self _,qN hn,s1,s2,hF,hv,qM.set hbn hn rfl (dF _ _) hD hs⟩
 ·exact hs.elim
def vB (args:List AV) (H:AH) (n:Nat) (κ:PK):Prop:=match args with
 | [x,y,z]=>∃(b sz:Nat) (A B D:Ck5) (p:Nat×Nat) (L:Smp) (s t:Int),x=aQ p/\mk y= .si .i64 s/\mk z= .si .i64 t/\wT H n b sz (A++(p,L)::B)/\0<sz/\cK L/\eT sz (A++(p,aO L s t)::B) D/\
  κ (.si .i64 ((L.length:Int)-((aO L s t).length:Int))) (BV H b sz D) (n+1)
 |_=>False
theorem N0:ai 157 vB:=fun args H n κ hs φ h0' hp vs K hr hargs hk=>by
 unfold vB at hs;split at hs
 ·obtain⟨b,sz,A,B,D,p,L,s,t,rfl,hy,hz,⟨hbn,hn,hn0,hb⟩,s1,hF,hD,hs⟩:=hs;rw[dG]at hb;unfold eT at hD;rw[dG]at hD;exact Rs.Fh hr hbn hn hn0 hb hargs hk ⟨n,sz,L,s,t,rfl,hy,hz,Nat.lt_succ_self _,qN hn,s1,hF,qM.set hbn hn rfl (dF _ _) hD hs⟩
 ·exact hs.elim
def p5 (i:Smp->Nat) (args:List AV) (H:AH) (n:Nat) (κ:PK):Prop:=match args with
 | [x]=>∃(b sz:Nat) (A B D:Ck5) (p:Nat×Nat) (L:Smp),x=aQ p/\wT H n b sz (A++(p,L)::B)/\0<sz/\cK L/\eT sz (A++(p,L)::B) D/\κ (FLv (i L) L) (BV H b sz D) (n+1)
 |_=>False
theorem xT {f:FuncId} {i:Smp->Nat} (h:ai f (BO i)):ai f (p5 i):=fun args H n κ hs φ h0' hp vs K hr hargs hk=>by
 unfold p5 at hs;split at hs
 ·obtain⟨b,sz,A,B,D,p,L,rfl,⟨hbn,hn,hn0,hb⟩,s1,hF,hD,hs⟩:=hs;rw[dG]at hb;unfold eT at hD;rw[dG]at hD;exact h.Fh hr hbn hn hn0 hb hargs hk ⟨n,sz,L,rfl,Nat.lt_succ_self _,qN hn,s1,hF,qM.same hbn hn rfl (dF _ _) hD hs⟩
 ·exact hs.elim
theorem Lq:ai 121 (p5 fun _=>0):=xT NY
theorem FP:ai 60 (p5 fun L=>L.length-1):=xT RC
def zk (f:Nat->Smp->AV) (args:List AV) (H:AH) (n:Nat) (κ:PK):Prop:=match args with
 | [x]=>∃(b sz:Nat) (A B D:Ck5) (p:Nat×Nat) (L:Smp),x=aQ p/\wT H n b sz (A++(p,L)::B)/\eT sz (A++(p,L)::B) D/\κ (f sz L) (BV H b sz D) (n+1)
 |_=>False
theorem Ik {f:FuncId} {g:Nat->Smp->AV} (h:ai f (FL g)):ai f (zk g):=fun args H n κ hs φ h0' hp vs K hr hargs hk=>by
 unfold zk at hs;split at hs
 ·obtain⟨b,sz,A,B,D,p,L,rfl,⟨hbn,hn,hn0,hb⟩,hD,hs⟩:=hs;rw[dG]at hb;unfold eT at hD;rw[dG]at hD;exact h.Fh hr hbn hn hn0 hb hargs hk ⟨n,sz,chk sz L,L,rfl,qN hn,rfl,qM.same hbn hn rfl (dF _ _) hD hs⟩
 ·exact hs.elim
theorem RE:ai 186 (zk Ry):=Ik TW
theorem tT.ro {p:Nat×Nat} {l:List AV} {h:Hp} (k:tT p l h):nV h ⟨p.1,p.2,l.length⟩ l:=by
 obtain⟨hf,T,c,t,h1,h2,h3,h4⟩:=k;exact⟨c,t,(0,0),h1,Nat.le_refl _,by show p.2+l.length<=c.size;omega,fun ψ=>CR.mQ (ψ:=Ph.no) h4 rfl hf⟩
theorem BW {φ:Ph} {H:AH} {n:Nat} {h0 hp:Hp} {b sz:Nat} {A B:Ck5} {p:Nat×Nat} {L:Smp} (hr:HR φ H n h0 hp) (hb:H.get b=some (.sep (pk (chs sz (A++(p,L)::B))))):tT p (chk sz L) hp:=by
 obtain⟨⟨_,_,h3⟩,_⟩:=hr.sep b _ hb;rw[dG]at h3;exact(h3 (p,chk sz L) (by simp)).2
def p6 (f:Nat->Smp->AV) (args:List AV) (H:AH) (n:Nat) (κ:PK):Prop:=match args with
 | [x]=>∃(b sz:Nat) (A B:Ck5) (p:Nat×Nat) (L:Smp),x=aQ p/\H.get b=some (.sep (pk (chs sz (A++(p,L)::B))))/\κ (f sz L) H n
 |_=>False
theorem FQ (f:Nat->Smp->AV):iC (p6 f):= .pure fun args H n κ hs=>by
 unfold p6 at*;split at hs
 ·obtain⟨b,sz,A,B,p,L,h1,h2,h3⟩:=hs;exact⟨_,h3,fun κ' h=>⟨b,sz,A,B,p,L,h1,h2,h⟩⟩
 ·exact hs.elim
theorem Il {f:FuncId} {g:Nat->Smp->AV} (hic:bW Tryz.prog f=true) (hg:∀size L,flat.flat1 (g size L)=true) (hrun:∀size L,ax evP 3 f [.ptr 0 0] (mkH [(0,.ro (chk size L))]) 1 fun u _ _=>mkT u=mkT (g size L)) (hm:∀size L,mkT (g size L)=g size L):ai f (p6 g):=fun args H n κ hs φ h0' hp vs K hr hargs hk=>by
 unfold p6 at hs;split at hs
 ·obtain⟨x,rfl,e1⟩:=vs1 hargs;obtain⟨b,sz,A,B,p,L,rfl,hb,hs⟩:=hs;have e1:x=pS p:=e1;subst e1;have hro:=(BW hr hb).ro;exact gM az (v:=g sz L) (vc (hg sz L)) (hrun sz L) (by rw[hm];exact hs) hr hk hic (φ0:=ph1 ⟨p.1,p.2,(chk sz L).length⟩) (fun hw=>HR.ro1 hw hro) (.cons (.ptr (p:=⟨p.1,p.2,(chk sz L).length⟩) (o:=0) rfl) .nil)
 ·exact hs.elim
theorem FT:ai 202 (p6 Lh):=Il (by kernel_rfl) (fun _ _=>rfl) (fun size L=>by
 conv=>whnf
 rfl) fun _ _=>rfl
def zl (args:List AV) (H:AH) (n:Nat) (κ:PK):Prop:=match args with
 | [x]=>∃(b sz:Nat) (A B:Ck5) (p:Nat×Nat) (L:Smp),x=aQ p/\H.get b=some (.sep (pk (chs sz (A++(p,L)::B))))/\0<sz/\cK L/\κ (.fr L.length 2 (smp L)) H n
 |_=>False
theorem RF:ai 119 zl:=fun args H n κ hs φ h0' hp vs K hr hargs hk=>by
 unfold zl at hs;split at hs
 ·obtain⟨x,rfl,e1⟩:=vs1 hargs;obtain⟨b,sz,A,B,p,L,rfl,hb,hsz,hF,hs⟩:=hs;have e1:x=pS p:=e1;subst e1;have hro:=(BW hr hb).ro;have hL:L.length<=100000:=by have:=hF.2.2;omega
  exact Fe DV (b6 L) (bf L) (FD sz L hsz hL hF.jK) hs hr hk (by kernel_rfl) (φ0:=⟨(ph1 ⟨p.1,p.2,(chk sz L).length⟩).f,φ.z,φ.z,fun _ _=>False⟩)
   (fun hw=>hr.xL (HR.ro1 hw hro) (fun b o h=>by
    have hm:=b7 h;simp only[List.mem_cons,List.not_mem_nil,or_false]at hm;injection hm with h1 h2;subst h2;rfl) (fun _ h=>h)) rfl (.cons (.ptr (p:=⟨p.1,p.2,(chk sz L).length⟩) (o:=0) rfl) .nil)
 ·exact hs.elim
structure Sr where
 sz:Nat
 ret:Int
 pol:Int
 mx:Int
 fl:Int
abbrev Ps:=List (Nat×Nat)
def aU (V:Ps):List AV:=V.map aQ
def pts (C:Ck5):Ps:=C.map fun c=>c.1
theorem ao (C:Ck5):(pts C).length=C.length:=List.length_map _
def cR (S:Sr) (k m:Nat):List AV:=[.si .i64 (S.sz:Int),.si .i64 S.ret,.si .i64 S.pol,.si .i64 S.mx,.si .i64 S.fl,.rw k 0 m 1 0]
def di (S:Sr) (C:Ck5):AO:= .sep (pk (chs S.sz C))
def iG (S:Sr) (V:Ps) (C:Ck5):List AO:=[.cells (cR S 1 V.length) true,.cells (aU V) true,di S C]
structure ew (H:AH) (n r k q:Nat) (S:Sr) (V:Ps) (C:Ck5):Prop where
 ne:r≠k/\r≠q/\k≠q
 lt:r<n/\k<n/\q<n
 hr:H.get r=some (.cells (cR S k V.length) true)
 hk:H.get k=some (.cells (aU V) true)
 hq:H.get q=some (di S C)
theorem bS (C:Ps):(aU C).length=C.length:=List.length_map _
theorem qY (A B:Ps):aU (A++B)=aU A++aU B:=List.map_append
theorem jx (f:Nat->Nat) (C:Ps):du f (aU C)=aU C:=by
 induction C with
 |nil=>rfl
 |cons c C ih=>
  show ren f (aQ c)::du f (aU C)=_;rw[ih];rfl
theorem oM (m:Nat) (C:Ps):jv m (aU C)=true:=by
 induction C with
 |nil=>rfl
 |cons c C ih=>
  show(ltV m (aQ c)&&jv m (aU C))=true;rw[ih];rfl
theorem aA (C:Ps):(aU C).map mk=aU C:=by
 unfold aU;rw[List.map_map];rfl
theorem BX (C:Ps):(aU C).all nJ=true:=by
 induction C with
 |nil=>rfl
 |cons c C ih=>exact ih
theorem ew.BY {H:AH} {n r k q:Nat} {S:Sr} {V:Ps} {C:Ck5} (h:ew H n r k q S V C):iL H n [r,k,q] (iG S V C):=
 ⟨by simp[h.ne.1,h.ne.2.1,h.ne.2.2],rfl,fun i s o h1 h2=>by
  match i,h1,h2 with
  |0,h1,h2=>injection h1 with h1;injection h2 with h2;subst h1 h2;exact⟨h.lt.1,h.hr,.inr rfl⟩
  |1,h1,h2=>injection h1 with h1;injection h2 with h2;subst h1 h2;exact⟨h.lt.2.1,by rw[cx,jx];exact h.hk,.inr rfl⟩
  |2,h1,h2=>injection h1 with h1;injection h2 with h2;subst h1 h2;exact⟨h.lt.2.2,h.hq,.inr rfl⟩⟩
noncomputable def TX (S:Sr) (V:Ps) (C:Ck5):AH:=mkH [(0,.cells (cR S 3 V.length) true),(3,.cells (aU V) true),(2,di S C)]
noncomputable def fF (H:AH) (n r k q:Nat) (S:Sr) (V:Ps) (C:Ck5):AH:=PM.set (some (.cells (cR S n V.length) true)) aa (PM.set none aa (PM.set (some (di S C)) aa (PM.set (some (.cells (aU V) true)) aa H n) q) k) r
def SP (P:AV->Sr->Ps->Ck5->Prop):PK:=fun u H' m=>∃S V C,P u S V C/\H'=TX S V C/\m=4
def fG (g:List AV->AH->Nat->PK->Prop) (args:List AV) (H:AH) (n:Nat) (κ:PK):Prop:=g args H n fun u H' n'=>∃(v:AV) (H2:AH) (m:Nat),Cov n (mkE [(0,u)]) H' n' (mkE [(0,v)],H2,m)/\κ v H2 m
theorem ai.fG {f:FuncId} {g:List AV->AH->Nat->PK->Prop} (hg:ai f g):ai f (fG g):=fun args H n κ hs φ h0 h vs K hr ha hk=>hg args H n _ hs φ h0 h vs K hr ha fun ψ u H' n' w g' hle hg' hu ⟨v,H2,m,hc,hκ⟩=>by
 obtain⟨χ,⟨c1,c2,c3⟩,c4,c5⟩:=hc ψ h0 g' (fun _=>w) hg' (fun t a ht=>by
  have:=mO ht;simp only[List.mem_cons,List.not_mem_nil,or_false]at this;injection this with e1 e2;subst e1 e2;exact hu)
 exact hk χ v H2 m w g' ⟨fun b p e=>c1 b p (hr.dom b p e).1 (hle.b b p e),fun q hq=>c2 q (hle.z q hq),fun q hq=>hle.y q (c3 q hq)⟩ c4 (c5 0 v rfl) hκ
theorem gi {f:FuncId} {run:List AV->AH->Nat->PK->Prop} (hrun:ai f run) (hic:bW Tryz.prog f=true) {ar0:List AV} {S:Sr} {V:Ps} {C:Ck5} {P:AV->Sr->Ps->Ck5->Prop} (h:fG run (.ptr 0 0::ar0) (mkH (bH (iG S V C) 0)) 3 (SP P)) (har:∀r,du r ar0=ar0)
 {φ:Ph} {H:AH} {n:Nat} {h0 hp:Hp} {vs:Array Value} {κ:PK} {K:KH} {r k q:Nat} (hr:HR φ H n h0 hp) (hR:ew H n r k q S V C) (hargs:VRs φ (.ptr r 0::ar0) vs.toList) (hk:ck φ h0 κ K) (hP:∀u S' V' C',P u S' V' C'->(∀f,ren f u=u)/\ltV 4 u=true) (hs:∀u S' V' C',P u S' V' C'->κ u (fF H n r k q S' V' C') (n+1)):dj Tryz.prog f vs hp K:=by
 refine dy (S:=[r,k,q]) (O:=iG S V C) (args0:= .ptr 0 0::ar0) (ai.fG hrun) hic hr hR.BY (by show VRs φ (ren _ _::du _ ar0) vs.toList;rw[har];exact hargs) hk h fun u H' n' ⟨S',V',C',g0,g1,g2⟩=>?_
 subst g1 g2;obtain⟨hren,hlt⟩:=hP u S' V' C' g0;refine⟨4,jI [r,k,q] n H [(0,some (.cells (cR S' 3 V'.length) true)),(1,none),(2,some (di S' C')),(3,some (.cells (aU V') true))],Nat.le_of_ble_eq_true rfl,fq.put (Nat.le_of_ble_eq_true rfl) rfl (fun x hx o ho=>?_),hlt,?_⟩
 ·simp only[List.mem_cons,List.not_mem_nil,or_false]at hx;rcases hx with rfl|rfl|rfl|rfl
  ·injection ho with ho;subst ho;exact⟨rfl,rfl,rfl⟩
  ·cases ho
  ·injection ho with ho;subst ho;exact⟨rfl,rfl,rfl⟩
  ·injection ho with ho;subst ho;exact⟨rfl,rfl,oM _ _⟩
 ·have e:jI [r,k,q] n H [(0,some (.cells (cR S' 3 V'.length) true)),(1,none),(2,some (di S' C')),(3,some (.cells (aU V') true))]=fF H n r k q S' V' C':=by
   simp only[jI,Option.map_some,Option.map_none,cx,jx];rfl
  rw[hren _,e];exact hs u S' V' C' g0
theorem VTo.mk5 {u v:AV} (h:mk u=v):VTo u v:=fun φ w hw=>h▸hw.mk
theorem au.aU {H:AH} {m:Nat} {r:Nat->Nat} {l:List AV} {C:Ps} (h:l.map Go.Proofs.YtflehenfikoniaaGreat.mk=Go.Proofs.YtflehenfikoniaaGreat.aU C):au H m r (.cells l true) (.cells (Go.Proofs.YtflehenfikoniaaGreat.aU C) true):=
 au.cells (by have:=congrArg List.length h;simp only[List.length_map]at this;omega) (fun q=>q) fun i a' hi=>by
  rw[<-h,List.getElem?_map]at hi;cases hl:l[i]? with
  |none=>rw[hl]at hi;cases hi
  |some a=>
   rw[hl]at hi;injection hi with hi;have hi2:(Go.Proofs.YtflehenfikoniaaGreat.aU C)[i]?=some a':=by rw[<-h,List.getElem?_map,hl];exact congrArg some hi
   unfold Go.Proofs.YtflehenfikoniaaGreat.aU at hi2;rw[List.getElem?_map]at hi2;cases hc:C[i]? with
   |none=>rw[hc]at hi2;cases hi2
   |some c=>
    rw[hc]at hi2;injection hi2 with hi2;refine⟨a,rfl,fun φ ψ v _ _ hv=>?_⟩;have h1:VR φ a' v:=hi▸hv.mk;rw[<-hi2]at h1⊢;exact h1
theorem au.sep {H:AH} {m:Nat} {r:Nat->Nat} (Q:HP):au H m r (.sep Q) (.sep Q):=⟨⟨rfl,rfl⟩,fun _ _ _ _ _ _ h=>h.elim⟩
noncomputable def vC (le:List (Nat×AV)) (S:Sr) (V:Ps) (C:Ck5):AE×AH×Nat:=(mkE le,mkH [(0,.cells (cR S 3 V.length) true),(3,.cells (aU V) true),(2,di S C)],4)
def zm (j1:Nat):Nat->Nat:=fun b=>if b=3 then j1 else b
theorem fb {C:Ck5} {i:Nat} (h:i<C.length):C.take i++(C[i].1,C[i].2)::C.drop (i+1)=C:=by
 show C.take i++C[i]::C.drop (i+1)=C;rw[<-List.drop_eq_getElem_cons h,List.take_append_drop]
theorem ll {H:AH} {n:Nat} {S:Sr} {C:Ck5} {i:Nat} (h:i<C.length) (hq:PM.get H 2=some (di S C)) (hn:2<n) (hl:n<1000000) (h0:PM.get H n=none):wT H n 2 S.sz (C.take i++(C[i].1,C[i].2)::C.drop (i+1)):=⟨hn,hl,h0,by rw[fb h];exact hq⟩
theorem mV {sz:Nat} {C:Ck5} {i:Nat} (h:i<C.length):eT sz (C.take i++(C[i].1,C[i].2)::C.drop (i+1)) C:=by rw[fb h];exact .refl _ _
theorem au.cR {H:AH} {m:Nat} {r:Nat->Nat} {S:Sr} {k m':Nat} {a0 a1 a2 a3 a4 a5:AV} (h0:mk a0= .si .i64 (S.sz:Int)) (h1:mk a1= .si .i64 S.ret) (h2:mk a2= .si .i64 S.pol) (h3:mk a3= .si .i64 S.mx) (h4:mk a4= .si .i64 S.fl) (h5:ah H m r a5 (.rw k 0 m' 1 0)):au H m r (.cells [a0,a1,a2,a3,a4,a5] true) (.cells (Go.Proofs.YtflehenfikoniaaGreat.cR S k m') true):=
 au.cells (Nat.le_refl _) (fun q=>q) fun i a' hi=>by
  match i,hi with
  |0,hi=>injection hi with hi;subst hi;exact⟨_,rfl,ah.int h0⟩
  |1,hi=>injection hi with hi;subst hi;exact⟨_,rfl,ah.int h1⟩
  |2,hi=>injection hi with hi;subst hi;exact⟨_,rfl,ah.int h2⟩
  |3,hi=>injection hi with hi;subst hi;exact⟨_,rfl,ah.int h3⟩
  |4,hi=>injection hi with hi;subst hi;exact⟨_,rfl,ah.int h4⟩
  |5,hi=>injection hi with hi;subst hi;exact⟨_,rfl,h5⟩
  |i+6,hi=>simp[Go.Proofs.YtflehenfikoniaaGreat.cR]at hi
theorem nh {p:Nat} {σ:AE} {H:AH} {n:Nat} {S:Sr} {V:Ps} {C:Ck5} (j1:Nat) {le:List (Nat×AV)} {a0 a1 a2 a3 a4 a5:AV} {l:List AV} (hp:p<=3) (he:∀x∈le,ah H 4 (zm j1) (ak (pa x.1) σ) x.2) (hj:j1≠0/\j1≠2)
 (hc:PM.get H 0=some (.cells [a0,a1,a2,a3,a4,a5] true)) (h0:mk a0= .si .i64 (S.sz:Int)) (h1:mk a1= .si .i64 S.ret) (h2:mk a2= .si .i64 S.pol) (h3:mk a3= .si .i64 S.mx) (h4:mk a4= .si .i64 S.fl) (h5:ah H 4 (zm j1) a5 (.rw 3 0 V.length 1 0))
 (hl:PM.get H j1=some (.cells l true)) (hl2:l.map mk=aU V) (hq:PM.get H 2=some (di S C)):Cov p σ H n (vC le S V C):=by
 refine Cov.ofR (m:=4) (p:=p) (zm j1) (by omega) (fun b hb=>by unfold zm;rw[if_neg (by omega)]) he ?_ ?_
 ·intro x hx;simp only[List.mem_cons,List.not_mem_nil,or_false]at hx;rcases hx with rfl|rfl|rfl
  ·exact⟨Nat.le_of_ble_eq_true rfl,.inl ⟨_,hc,au.cR h0 h1 h2 h3 h4 h5⟩⟩
  ·exact⟨Nat.le_of_ble_eq_true rfl,.inl ⟨_,hl,au.aU hl2⟩⟩
  ·exact⟨Nat.le_of_ble_eq_true rfl,.inl ⟨_,hq,au.sep _⟩⟩
 ·intro x hx y hy e;simp only[List.mem_cons,List.not_mem_nil,or_false]at hx hy;rcases hx with rfl|rfl|rfl<;>rcases hy with rfl|rfl|rfl
  ·rfl
  ·exact absurd (show 0=j1 from e) (by omega)
  ·exact absurd (show 0=2 from e) (by omega)
  ·exact absurd (show j1=0 from e) (by omega)
  ·rfl
  ·exact absurd (show j1=2 from e) (by omega)
  ·exact absurd (show 2=0 from e) (by omega)
  ·exact absurd (show 2=j1 from e) (by omega)
  ·rfl
theorem fu {u v:AV} {H:AH} {n:Nat} {S:Sr} {V:Ps} {C:Ck5} (P:AV->Sr->Ps->Ck5->Prop) (hP:P v S V C) (hu:VTo u v) (hv:∀φ ψ w,VR φ v w->VR ψ v w) (j1:Nat) {a0 a1 a2 a3 a4 a5:AV} {l:List AV} (hj:j1≠0/\j1≠2)
 (hc:PM.get H 0=some (.cells [a0,a1,a2,a3,a4,a5] true)) (h0:mk a0= .si .i64 (S.sz:Int)) (h1:mk a1= .si .i64 S.ret) (h2:mk a2= .si .i64 S.pol) (h3:mk a3= .si .i64 S.mx) (h4:mk a4= .si .i64 S.fl) (h5:ah H 4 (zm j1) a5 (.rw 3 0 V.length 1 0))
 (hl:PM.get H j1=some (.cells l true)) (hl2:l.map mk=aU V) (hq:PM.get H 2=some (di S C)):∃(v2:AV) (H2:AH) (m:Nat),Cov 3 (mkE [(0,u)]) H n (mkE [(0,v2)],H2,m)/\SP P v2 H2 m:=by
 refine⟨v,TX S V C,4,nh (le:=[(0,v)]) j1 (Nat.le_refl _) (fun x hx=>?_) hj hc h0 h1 h2 h3 h4 h5 hl hl2 hq,S,V,C,hP,rfl,rfl⟩;simp only[List.mem_cons,List.not_mem_nil,or_false]at hx;subst hx;exact fun φ ψ w hr _ hw=>hv φ ψ w (hu φ w hw)
structure Okc (S:Sr) (C:Ck5):Prop where
 lo:128<=S.sz
 hi:S.sz<=4096
 dW:∀c∈C,cK c.2
 few:C.length<=100000
def cnt (C:Ck5):List Smp:=C.map fun c=>c.2
theorem dN (C:Ck5):(cnt C).length=C.length:=List.length_map _
theorem N1 {C:Ck5} {i:Nat} (h:i<C.length):(cnt C)[i]'(by rw[dN];exact h)=C[i].2:=by simp[cnt]
theorem dH {C:Ck5} {i k:Nat} (h:i<C.length) (hk:k=i):nth (aU (pts C)) k=some (aQ C[i].1):=by
 rw[hk,fA];simp[aU,pts,h]
def gF:List Smp->Int->Nat
 |_::M::D,t=>if t<tAt M 0 then 0 else gF (M::D) t+1
 |_,_=>0
theorem D1 {D:List Smp} {i:Nat} {t:Int} (h:i+1<D.length):gF (D.drop i) t=if t<tAt D[i+1] 0 then 0 else gF (D.drop (i+1)) t+1:=by
 rw[List.drop_eq_getElem_cons (show i<D.length by omega),List.drop_eq_getElem_cons h];rfl
theorem BZ {D:List Smp} {t:Int} (h:D.length<=1):gF D t=0:=by
 match D,h with
 | [],_=>rfl
 | [_],_=>rfl
 |_::_::_,h=>simp at h
theorem B0:∀{D:List Smp} (t:Int),D≠[]->gF D t<D.length
 | [],_,h=>absurd rfl h
 | [_],_,_=>Nat.zero_lt_one
 |_::M::D,t,_=>by
  have:=B0 (D:=M::D) t (by simp);unfold gF;split
  ·simp
  ·simp only[List.length_cons]at this⊢;omega
noncomputable def KHm:FuncId->EP:=aV 63 [] (aw 121 (p5 fun _=>0) evP)
theorem RG:aW KHm:=aq (ae az Lq) (by kernel_rfl) (by kernel_rfl)
def HmP (S0:Sr) (C0:Ck5) (t:Int):AV->Sr->Ps->Ck5->Prop:=fun u S V C=>u= .si .i64 ((gF (cnt C0) t:Nat):Int)/\S=S0/\V=pts C0/\C=C0
theorem VR.eJ {k:IntKind} {x:Int}:∀φ ψ w,VR φ (.si k x) w->VR ψ (.si k x) w:=fun _ _ _ h=>h
theorem Lr (S:Sr) (C:Ck5) (t:Int) (hO:Okc S C):fG (ax KHm 5 63) [.ptr 0 0,.si .i64 t] (mkH (bH (iG S (pts C) C) 0)) 3 (SP (HmP S C t)):=by
 have hl:=hO.few;have hlo:=hO.lo;show ax KHm 5 _ _ _ _ _
 conv=>whnf
 refine aS.mk {i:Nat//(i<C.length∨i=0)/\gF (cnt C) t=i+gF ((cnt C).drop i) t} 4 (fun i=>((vC [(0,.ptr 0 0),(1,.si .i64 t),(5,.si .i64 (i.val:Int))] S (pts C) C).1,(vC [(0,.ptr 0 0),(1,.si .i64 t),(5,.si .i64 (i.val:Int))] S (pts C) C).2.1)) (fun i=>C.length-i.val) ⟨0,.inr rfl,by simp⟩ ?_ ?_
 focus
  exact nh 1 (le:=[(0,.ptr 0 0),(1,.si .i64 t),(5,.si .i64 ((0:Nat):Int))]) (Nat.le_refl 3) (fun x hx=>by
   simp only[List.mem_cons,List.not_mem_nil,or_false]at hx;rcases hx with rfl|rfl|rfl
   ·exact ah.ptr (Nat.le_of_ble_eq_true rfl) rfl
   ·exact ah.int rfl
   ·exact ah.int rfl) ⟨by decide,by decide⟩ rfl rfl rfl rfl rfl rfl (ah.rw (Nat.le_of_ble_eq_true rfl) rfl) rfl (aA _) rfl
 intro⟨i,hi,hI⟩;have hw:IntKind.i64.wrap ((i:Int)+1)=((i+1:Nat):Int):=by rw[al (by omega) (by omega)];omega
 conv=>whnf
 refine ag.dec (fun h=>?_) (fun h=>?_)
 focus
  have h2:i+1<C.length:=by
   have h:IntKind.i64.wrap ((i:Int)+1)<((pts C).length:Int):=h;rw[hw,ao]at h;omega
  have h3:i+1<(cnt C).length:=by rw[dN];exact h2
  have hst:=D1 (t:=t) h3;rw[N1 h2]at hst
  conv=>whnf
  refine Idx.mk (i+1) hw (by rw[ao];exact h2) ?_
  conv=>whnf
  refine ay (dH h2 (show 0+(i+1)*1=i+1 by omega)) ?_
  conv=>whnf
  refine⟨2,S.sz,C.take (i+1),C.drop (i+1+1),C,C[i+1].1,C[i+1].2,rfl,ll h2 rfl (by decide) (by decide) rfl,by omega,hO.dW _ (List.getElem_mem h2),mV h2,?_⟩
  conv=>whnf
  refine ag.dec (fun g=>?_) (fun g=>?_)
  focus
   have he:i=gF (cnt C) t:=by rw[hI,hst,if_pos g];rfl
   conv=>whnf
   exact fu (HmP S C t) ⟨rfl,rfl,rfl,rfl⟩ (VTo.mk5 (congrArg (fun q:Nat=>AV.si .i64 (q:Int)) he)) VR.eJ 3 ⟨by decide,by decide⟩ rfl rfl rfl rfl rfl rfl (ah.rw (Nat.le_of_ble_eq_true rfl) rfl) rfl (aA _) rfl
  have he:gF (cnt C) t=(i+1)+gF ((cnt C).drop (i+1)) t:=by rw[hI,hst,if_neg g];omega
  conv=>whnf
  exact⟨⟨i+1,.inl h2,he⟩,by show C.length-(i+1)<C.length-i;omega,nh 3 (le:=[(0,.ptr 0 0),(1,.si .i64 t),(5,.si .i64 ((i+1:Nat):Int))]) (Nat.le_refl 3) (fun x hx=>by
   simp only[List.mem_cons,List.not_mem_nil,or_false]at hx;rcases hx with rfl|rfl|rfl
   ·exact ah.ptr (Nat.le_of_ble_eq_true rfl) rfl
   ·exact ah.int rfl
   ·exact ah.int (congrArg (AV.si .i64) hw)) ⟨by decide,by decide⟩ rfl rfl rfl rfl rfl rfl (ah.rw (Nat.le_of_ble_eq_true rfl) rfl) rfl (aA _) rfl⟩
 have he:i=gF (cnt C) t:=by
  have h2:¬i+1<C.length:=fun q=>h (by
   show IntKind.i64.wrap ((i:Int)+1)<((pts C).length:Int);rw[hw,ao];omega)
  rw[hI,BZ (D:=(cnt C).drop i) (by rw[List.length_drop,dN];omega)];rfl
 conv=>whnf
 exact fu (HmP S C t) ⟨rfl,rfl,rfl,rfl⟩ (VTo.mk5 (congrArg (fun q:Nat=>AV.si .i64 (q:Int)) he)) VR.eJ 3 ⟨by decide,by decide⟩ rfl rfl rfl rfl rfl rfl (ah.rw (Nat.le_of_ble_eq_true rfl) rfl) rfl (aA _) rfl
def zn (args:List AV) (H:AH) (n:Nat) (κ:PK):Prop:=match args with
 | [x,y]=>∃(r k q:Nat) (S:Sr) (C:Ck5) (t:Int) (h:Nat),x= .ptr r 0/\mk y= .si .i64 t/\ew H n r k q S (pts C) C/\Okc S C/\gF (cnt C) t=h/\κ (.si .i64 (h:Int)) (fF H n r k q S (pts C) C) (n+1)
 |_=>False
theorem RH:ai 63 zn:=fun args H n κ hs φ h0' hp vs K hr hargs hk=>by
 unfold zn at hs;split at hs
 ·obtain⟨w1,us1,q1,e1,r1⟩:=hargs.cons_inv;obtain⟨w2,us2,q2,e2,r2⟩:=r1.cons_inv;obtain⟨r,k,q,S,C,t,h,rfl,hy,hR,hO,hh,hs⟩:=hs;subst hh;refine gi (an RG 5 _) (by kernel_rfl) (Lr S C t hO) (fun _=>rfl) hr hR (by rw[q1,q2];exact .cons e1 (.cons (ba rfl (hy▸e2.mk)) r2)) hk (fun u S' V' C' ⟨g,_⟩=>by subst g;exact⟨fun _=>rfl,rfl⟩) fun u S' V' C' ⟨g1,g2,g3,g4⟩=>?_
  subst g1 g2 g3 g4;exact hs
 ·exact hs.elim
noncomputable def KIn:FuncId->EP:=aV 184 [] evP
theorem RI:aW KIn:=aq az (by kernel_rfl) (by kernel_rfl)
def InP (S0:Sr) (V1:Ps) (C0:Ck5):AV->Sr->Ps->Ck5->Prop:=fun u S V C=>u= .tup []/\S=S0/\V=V1/\C=C0
theorem B3:RTy 107 107 1 8:=⟨_,_,_,rfl,rfl,(fun q h=>by cases h),rfl,rfl,rfl,rfl,by decide,by decide⟩
theorem xU (V:Ps) (i:Nat):(aU V).take i=aU (V.take i):=by simp[aU,List.map_take]
theorem xV (V:Ps) (i:Nat):(aU V).drop i=aU (V.drop i):=by simp[aU,List.map_drop]
theorem D3 (S:Sr) (V:Ps) (C:Ck5) (i:Nat) (p:Nat×Nat) (hi:i<=V.length) (hV:V.length<=200000):fG (ax KIn 5 184) [.ptr 0 0,.si .i64 (i:Int),aQ p] (mkH (bH (iG S V C) 0)) 3 (SP (InP S (V.take i++p::V.drop i) C)):=by
 show ax KIn 5 _ _ _ _ _;have e1:aU (V.take i)++ [aQ p]=aU (V.take i++ [p]):=by simp[aU]
 have hli:(V.take i).length=i:=by rw[List.length_take];omega
 have s1:bp (aU V) 0 (i*1)=some (aU (V.take i)):=by
  unfold bp;rw[Nat.ble_eq_true_of_le (by rw[bS];omega),List.drop_zero,Nat.mul_one,xU]
 have s2:bp (aU V) (0+i*1) ((V.length-i)*1)=some (aU (V.drop i)):=by
  unfold bp;rw[Nat.ble_eq_true_of_le (by rw[bS];omega),show 0+i*1=i by omega,xV,Nat.mul_one,List.take_of_length_le (by rw[bS,List.length_drop];exact Nat.le_refl _)]
 have hlen:i+1+(V.length-i)=(V.take i++p::V.drop i).length:=by rw[List.length_append,List.length_cons,List.length_drop,hli];omega
 conv=>whnf
 refine RSl.mk 0 i rfl rfl (.inr ⟨rfl,rfl⟩) (Nat.zero_le _) hi ?_
 conv=>whnf
 refine bC.exact 1 8 1 1 0 i [aQ p] (aU (V.take i)) rfl B3 (.old rfl) rfl rfl (by decide) (.rw (.inr ⟨_,rfl⟩) s1) (by omega) ?_
 conv=>whnf
 refine RSl.mk i V.length rfl rfl (.inl rfl) hi (Nat.le_refl _) ?_
 conv=>whnf
 refine bC.grow 1 8 (V.length-i) (i+1) (aU (V.drop i)) (aU (V.take i)++ [aQ p]) _ true B3 (.rw (.inr ⟨_,rfl⟩) s2) (by rw[bS,List.length_drop,Nat.mul_one]) (BX _) (.rw rfl (bq (by rw[List.length_append,bS,hli,Nat.mul_one];rfl))) (by omega) ?_
 conv=>whnf
 exact fu (InP S (V.take i++p::V.drop i) C) ⟨rfl,rfl,rfl,rfl⟩ (VTo.mk5 rfl) (fun φ ψ w h=>jl rfl h) 5 ⟨by decide,by decide⟩ rfl rfl rfl rfl rfl rfl (ah.rw (Nat.le_of_ble_eq_true rfl) (congrArg (fun q=>AV.rw 5 0 q 1 0) hlen)) rfl (by rw[List.map_append,List.map_append,aA,aA];simp[aU];rfl) rfl
def zo (args:List AV) (H:AH) (n:Nat) (κ:PK):Prop:=match args with
 | [x,y,z]=>∃(r k q i:Nat) (S:Sr) (V V':Ps) (C:Ck5) (p:Nat×Nat),x= .ptr r 0/\mk y= .si .i64 (i:Int)/\z=aQ p/\ew H n r k q S V C/\i<=V.length/\V.length<=200000/\V.take i++p::V.drop i=V'/\κ (.tup []) (fF H n r k q S V' C) (n+1)
 |_=>False
theorem B4:ai 184 zo:=fun args H n κ hs φ h0' hp vs K hr hargs hk=>by
 unfold zo at hs;split at hs
 ·obtain⟨w1,us1,q1,e1,r1⟩:=hargs.cons_inv;obtain⟨w2,us2,q2,e2,r2⟩:=r1.cons_inv;obtain⟨w3,us3,q3,e3,r3⟩:=r2.cons_inv;obtain⟨r,k,q,i,S,V,V',C,p,rfl,hy,rfl,hR,hi,hV,hV',hs⟩:=hs;subst hV';refine gi (an RI 5 _) (by kernel_rfl) (D3 S V C i p hi hV) (fun _=>rfl) hr hR (by rw[q1,q2,q3];exact .cons e1 (.cons (ba rfl (hy▸e2.mk)) (.cons e3 r3))) hk (fun u S' V' C' ⟨g,_⟩=>by subst g;exact⟨fun _=>rfl,rfl⟩) fun u S' V' C' ⟨g1,g2,g3,g4⟩=>?_
  subst g1 g2 g3 g4;exact hs
 ·exact hs.elim
theorem PM.gne {α:Type} {v:Option α} {t:PM α} {n m:Nat} {x:α} (hn:n<1000000) (hm:m≠n) (h:t.get m=some x):(PM.set v aa t n).get m=some x:=PM.aC aa _ _ _ (aD hn) hm h
theorem PM.geq {α:Type} {v:Option α} {t:PM α} {n:Nat} (hn:n<1000000):(PM.set v aa t n).get n=v:=PM.bF aa _ _ (aD hn)
theorem VR.D4 {φ:Ph} {b:Nat} {w:Value} (h:VR φ (.ptr b 0) w):∃q T,φ b=some ⟨Prod.fst q,Prod.snd q,T⟩/\w=pS q:=by
 obtain⟨P,h1,h2⟩:=h.ct;exact⟨(P.B,P.s),P.T,h1,h2⟩
def oN (args:List AV) (H:AH) (n:Nat) (κ:PK):Prop:=match args with
 | [x]=>∃(b sz:Nat) (A B:Ck5) (p:Nat×Nat) (L:Smp) (D:Nat×Nat->Ck5),x=aQ p/\wT H n b sz (A++(p,L)::B)/\H.get (n+1)=none/\n+1<1000000/\0<sz/\cK L/\2<=L.length/\
  ∀q,eT sz (A++(p,L.take (bT L))::(q,L.drop (bT L))::B) (D q)/\κ (.tup [aQ q,.int .i64 0]) (BV H b sz (D q)) (n+2)
 |_=>False
theorem B5:ai 185 oN:=fun args H n κ hs φ h0' hp vs K hr hargs hk=>by
 unfold oN at hs;split at hs
 ·obtain⟨b,sz,A,B,p,L,D,rfl,⟨hbn,hn,hn0,hb⟩,hn1,hn2,s1,hF,h2,hs⟩:=hs;rw[dG]at hb;obtain⟨w1,us1,q1,e1,r1⟩:=hargs.cons_inv;have e1:w1=pS p:=e1;subst e1;obtain⟨ψ,T,hle,hψ,hr2⟩:=hr.Bn hbn hb
  refine NX [.ptr n 0] (opn H n b (chs sz A) (chs sz B) (chk sz L)) (n+1) (fun v H2 n2=>v= .tup [.ptr (n+1) 0,.int .i64 0]/\H2=((opn H n b (chs sz A) (chs sz B) (chk sz L)).set (some (.cells (chk sz (L.drop (bT L))) true)) aa (n+1)).set (some (.cells (chk sz (L.take (bT L))) true)) aa n/\n2=n+2)
   ⟨n,sz,L,rfl,Nat.lt_succ_self _,qN hn,s1,hF,fun q=>by omega,fun _=>⟨rfl,rfl,rfl⟩⟩ ψ h0' hp vs K hr2 (by rw[q1];exact .cons (VR.nZ hψ) (VRs.mono hle _ _ r1)) fun χ v H2 n2 u g hle2 hg hu ⟨g1,g2,g3⟩=>?_
  subst g1 g2 g3;obtain⟨cs,rfl,hcs⟩:=hu.eQ;obtain⟨w1,us,q2,f1,f2⟩:=hcs.cons_inv;obtain⟨q,T',hq1,hq2⟩:=f1.D4;subst hq2
  have gb:(((opn H n b (chs sz A) (chs sz B) (chk sz L)).set (some (.cells (chk sz (L.drop (bT L))) true)) aa (n+1)).set (some (.cells (chk sz (L.take (bT L))) true)) aa n).get b=some (.sep (pk (chs sz A++chs sz B))):=
   PM.gne hn (by omega) (PM.gne hn2 (by omega) (xM hbn hn))
  have gn1:(((opn H n b (chs sz A) (chs sz B) (chk sz L)).set (some (.cells (chk sz (L.drop (bT L))) true)) aa (n+1)).set (some (.cells (chk sz (L.take (bT L))) true)) aa n).get (n+1)=some (.cells (chk sz (L.drop (bT L))) true):=
   PM.gne hn (by omega) (PM.geq hn2)
  have gn:(((opn H n b (chs sz A) (chs sz B) (chk sz L)).set (some (.cells (chk sz (L.drop (bT L))) true)) aa (n+1)).set (some (.cells (chk sz (L.take (bT L))) true)) aa n).get n=some (.cells (chk sz (L.take (bT L))) true):=PM.geq hn;generalize hG:((opn H n b (chs sz A) (chs sz B) (chk sz L)).set (some (.cells (chk sz (L.drop (bT L))) true)) aa (n+1)).set (some (.cells (chk sz (L.take (bT L))) true)) aa n=G at*;obtain⟨ω1,_,l1,f1',hr3⟩:=hg.nY (m:=n+1) (by omega) gb gn1 hq1 rfl (dF _ _)
  have hψ2:ω1 n=some ⟨p.1,p.2,T⟩:=l1.b _ _ (hle2.b _ _ hψ);obtain⟨ω2,_,l2,_,hr4⟩:=hr3.nY (m:=n) (A:=chs sz A) (B:=(q,chk sz (L.drop (bT L)))::chs sz B) (by omega) (PM.geq (by omega)) (PM.gne (by omega) (by omega) (PM.gne hn2 (by omega) gn)) hψ2 rfl (dF _ _)
  obtain⟨hD,hκ⟩:=hs q;unfold eT at hD;rw[dG]at hD;have hr5:=hr4.tj (Q':=pk (chs sz (D q))) (PM.geq (by omega)) hD;refine hk ω2 _ _ _ _ g (((hle.trans hle2).trans l1).trans l2) (hr5.less fun x o hx=>?_) (.tup (by rw[q2];exact .cons rfl (VRs.mono (l1.trans l2) _ _ f2))) hκ;rcases PM.aj aa H b x o hx with⟨rfl,h2⟩|⟨h1,h2⟩
  ·rw[PM.geq (by omega)];exact h2
  ·have x1:x≠n:=fun e=>by subst e;rw[hn0]at h2;cases h2
   have x2:x≠n+1:=fun e=>by subst e;rw[hn1]at h2;cases h2
   refine PM.gne (by omega) h1 (PM.gne (by omega) h1 (PM.gne hn x1 (PM.gne (by omega) h1 (PM.gne hn2 x2 ?_))));rw[<-hG];exact PM.gne hn x1 (PM.gne hn2 x2 (tk hbn hn x1 h1 h2))
 ·exact hs.elim
def vD (args:List AV) (H:AH) (n:Nat) (κ:PK):Prop:=match args with
 | [x,y]=>∃(b sz:Nat) (A B D:Ck5) (p q:Nat×Nat) (L M:Smp),x=aQ p/\y=aQ q/\wT H n b sz (A++(p,L)::(q,M)::B)/\H.get (n+1)=none/\n+1<1000000/\0<sz/\sz<=4096/\cK L/\cK M/\
  eT sz (A++(p,(bK sz L M).1.1)::(q,(bK sz L M).1.2)::B) D/\κ (.si .i64 (bK sz L M).2) (BV H b sz D) (n+2)
 |_=>False
theorem N2:ai 188 vD:=fun args H n κ hs φ h0' hp vs K hr hargs hk=>by
 unfold vD at hs;split at hs
 ·obtain⟨b,sz,A,B,D,p,q,L,M,rfl,rfl,⟨hbn,hn,hn0,hb⟩,hn1,hn2,s1,s2,hF,hM,hD,hκ⟩:=hs;rw[dG]at hb;obtain⟨w1,us1,q1,e1,r1⟩:=hargs.cons_inv;obtain⟨w2,us2,q2,e2,r2⟩:=r1.cons_inv;have e1:w1=pS p:=e1;have e2:w2=pS q:=e2;subst e1 e2;obtain⟨ψ,T,hle,hψ,hr2⟩:=hr.Bn hbn hb;have hb2:(opn H n b (chs sz A) (chs sz ((q,M)::B)) (chk sz L)).get b=some (.sep (pk (chs sz A++(q,chk sz M)::chs sz B))):=xM hbn hn;obtain⟨ψ2,T2,hle',hψ2,hr3⟩:=(show HR ψ (opn H n b (chs sz A) (chs sz ((q,M)::B)) (chk sz L)) (n+1) h0' hp from hr2).Bn (by omega) hb2;generalize hO:opn H n b (chs sz A) (chs sz ((q,M)::B)) (chk sz L)=O at*;have on:O.get n=some (.cells (chk sz L) true):=hO▸qN hn;have P1:(opn O (n+1) b (chs sz A) (chs sz B) (chk sz M)).get n=some (.cells (chk sz L) true):=tk (by omega) hn2 (by omega) (by omega) on;have P2:(opn O (n+1) b (chs sz A) (chs sz B) (chk sz M)).get (n+1)=some (.cells (chk sz M) true):=qN hn2;have P3:(opn O (n+1) b (chs sz A) (chs sz B) (chk sz M)).get b=some (.sep (pk (chs sz A++chs sz B))):=xM (by omega) hn2;have hr3:HR ψ2 (opn O (n+1) b (chs sz A) (chs sz B) (chk sz M)) (n+1+1) h0' hp:=hr3;have P4:∀x o,x≠n->x≠n+1->x≠b->H.get x=some o->(opn O (n+1) b (chs sz A) (chs sz B) (chk sz M)).get x=some o:=fun x o x1 x2 x3 h=>tk (by omega) hn2 x2 x3 (hO▸tk hbn hn x1 x3 h)
  generalize opn O (n+1) b (chs sz A) (chs sz B) (chk sz M)=O2 at*
  refine Rx [.ptr n 0,.ptr (n+1) 0] O2 (n+2) (fun v H2 n2=>v= .si .i64 (bK sz L M).2/\H2=((O2.set (some (.cells (chk sz (bK sz L M).1.2) true)) aa (n+1)).set (some (.cells (chk sz (bK sz L M).1.1) true)) aa n)/\n2=n+2)
   ⟨n,n+1,sz,sz,L,M,rfl,rfl,by omega,by omega,by omega,P1,P2,s1,s2,s1,hF,hM,rfl,rfl,rfl⟩ ψ2 h0' hp vs K hr3 (by rw[q1,q2];exact .cons (VR.nZ (hle'.b _ _ hψ)) (.cons (VR.nZ hψ2) (VRs.mono (hle.trans hle') _ _ r2))) fun χ v H2 n2 u g hle2 hg hu ⟨g1,g2,g3⟩=>?_
  subst g1 g2 g3;obtain⟨ω1,_,l1,_,hr4⟩:=hg.nY (m:=n+1) (p:=q) (T:=T2) (by omega) (PM.gne hn (by omega) (PM.gne hn2 (by omega) P3)) (PM.gne hn (by omega) (PM.geq hn2)) (hle2.b _ _ hψ2) rfl (dF _ _)
  obtain⟨ω2,_,l2,_,hr5⟩:=hr4.nY (m:=n) (p:=p) (T:=T) (A:=chs sz A) (B:=(q,chk sz (bK sz L M).1.2)::chs sz B) (by omega) (PM.geq (by omega)) (PM.gne (by omega) (by omega) (PM.gne hn2 (by omega) (PM.geq hn))) (l1.b _ _ (hle2.b _ _ (hle'.b _ _ hψ))) rfl (dF _ _)
  unfold eT at hD;rw[dG]at hD;have hr6:=hr5.tj (Q':=pk (chs sz D)) (PM.geq (by omega)) hD;refine hk ω2 _ _ _ _ g ((((hle.trans hle').trans hle2).trans l1).trans l2) (hr6.less fun x o hx=>?_) (VR.mono (l1.trans l2) _ _ hu) hκ;rcases PM.aj aa H b x o hx with⟨rfl,h2⟩|⟨h1,h2⟩
  ·rw[PM.geq (by omega)];exact h2
  ·have x1:x≠n:=fun e=>by subst e;rw[hn0]at h2;cases h2
   have x2:x≠n+1:=fun e=>by subst e;rw[hn1]at h2;cases h2
   exact PM.gne (by omega) h1 (PM.gne (by omega) h1 (PM.gne hn x1 (PM.gne (by omega) h1 (PM.gne hn2 x2 (PM.gne hn x1 (PM.gne hn2 x2 (P4 x o x1 x2 h1 h2)))))))
 ·exact hs.elim
def N3 (sz:Nat):List AV:=[.si .i64 (sz:Int),.str [],.int .i64 0,.int .i64 0]
theorem N4 (sz:Nat):(N3 sz).map mk=(chk sz []).map mk:=rfl
noncomputable def KNw:FuncId->EP:=aV 182 [] evP
theorem RJ:aW KNw:=aq az (by kernel_rfl) (by kernel_rfl)
theorem Lt (sz:Nat) (h1:128<=sz) (h2:sz<=4096):ax KNw 3 182 [.si .i64 (sz:Int)] (mkH (bH [] 0)) 0 (fun u H' n'=>u= .tup [.ptr 0 0,.int .i64 0]/\H'=mkH [(0,.cells (N3 sz) true)]/\n'=1):=by
 conv=>whnf
 refine ag.dec (fun q=>absurd q (by omega)) (fun _=>?_)
 conv=>whnf
 refine ag.dec (fun q=>absurd q (by omega)) (fun _=>?_)
 conv=>whnf
 exact⟨rfl,rfl,rfl⟩
def zp (args:List AV) (H:AH) (n:Nat) (κ:PK):Prop:=match args with
 | [x]=>∃(b sz:Nat) (C:Ck5) (D:Nat×Nat->Ck5),mk x= .si .i64 (sz:Int)/\128<=sz/\sz<=4096/\wT H n b sz C/\∀q,eT sz (C++ [(q,[])]) (D q)/\κ (.tup [aQ q,.int .i64 0]) (BV H b sz (D q)) (n+1)
 |_=>False
theorem RK:ai 182 zp:=fun args H n κ hs φ h0' hp vs K hr hargs hk=>by
 unfold zp at hs;split at hs
 ·obtain⟨b,sz,C,D,hx,h1,h2,⟨hbn,hn,hn0,hb⟩,hs⟩:=hs;obtain⟨w1,us1,q1,e1,r1⟩:=hargs.cons_inv;refine dy (S:=[]) (O:=[]) (args0:=[.si .i64 (sz:Int)]) (κ:=fun v H2 n2=>v= .tup [.ptr n 0,.int .i64 0]/\H2=H.set (some (.cells (N3 sz) true)) aa n/\n2=n+1) (an RJ 3 _) (by kernel_rfl) hr ⟨List.nodup_nil,rfl,fun i s o h1 h2=>by simp at h1⟩ (by rw[q1];exact .cons (ba rfl (hx▸e1.mk)) r1) ?_ (Lt sz h1 h2) fun u H' n' ⟨g0,g1,g2⟩=>?_
  ·intro χ v H2 n2 u g hle hg hu ⟨g1,g2,g3⟩;subst g1 g2 g3;obtain⟨cs,rfl,hcs⟩:=hu.eQ;obtain⟨w1,us,q2,f1,f2⟩:=hcs.cons_inv;obtain⟨q,T',hq1,hq2⟩:=f1.D4;subst hq2;obtain⟨ω1,_,l1,_,hr3⟩:=hg.nY (m:=n) (b:=b) (A:=chs sz C) (B:=[]) (p:=q) (T:=T') (l':=chk sz []) (by omega) (PM.gne hn (by omega) (by rw[List.append_nil];exact hb)) (PM.geq hn) hq1 (N4 sz) (dF _ _);obtain⟨hD,hκ⟩:=hs q;unfold eT at hD;rw[dG]at hD;have hr4:=hr3.tj (Q':=pk (chs sz (D q))) (PM.geq (by omega)) hD;refine hk ω1 _ _ _ _ g (hle.trans l1) (hr4.less fun x o hx=>?_) (.tup (by rw[q2];exact .cons rfl (VRs.mono l1 _ _ f2))) hκ;rcases PM.aj aa H b x o hx with⟨rfl,h2⟩|⟨h1,h2⟩
   ·rw[PM.geq (by omega)];exact h2
   ·have x1:x≠n:=fun e=>by subst e;rw[hn0]at h2;cases h2
    exact PM.gne (by omega) h1 (PM.gne (by omega) h1 (PM.gne hn x1 (PM.gne hn x1 h2)))
  ·subst g0 g1 g2;refine⟨1,jI [] n H [(0,some (.cells (N3 sz) true))],Nat.zero_le _,fq.put (Nat.zero_le _) rfl (fun x hx o ho=>?_),rfl,rfl,?_,rfl⟩
   ·simp only[List.mem_cons,List.not_mem_nil,or_false]at hx;subst hx;injection ho with ho;subst ho;exact⟨rfl,rfl,rfl⟩
   ·rfl
 ·exact hs.elim
noncomputable def KCp:FuncId->EP:=aV 118 [] evP
theorem RL:aW KCp:=aq az (by kernel_rfl) (by kernel_rfl)
theorem Im (sz:Nat) (L:Smp) (h1:0<sz):ax KCp 5 118 [.ptr 0 0] (mkH (bH [.cells (chk sz L) true] 0)) 1 (fun u H' n'=>u= .ptr 1 0/\H'=mkH [(1,.cells (chk sz L) true),(0,.cells (chk sz L) true)]/\n'=2):=by
 conv=>whnf
 refine ag.dh (fun q=>absurd (show(0:Int)<(sz:Int) by omega) q) (fun _=>?_)
 conv=>whnf
 exact⟨rfl,rfl,rfl⟩
def vE (args:List AV) (H:AH) (n:Nat) (κ:PK):Prop:=match args with
 | [x]=>∃(b b2 sz:Nat) (A B C2:Ck5) (p:Nat×Nat) (L:Smp) (D2:Nat×Nat->Ck5),x=aQ p/\wT H n b sz (A++(p,L)::B)/\b≠b2/\wT H n b2 sz C2/\H.get (n+1)=none/\n+1<1000000/\0<sz/\
  ∀q,eT sz (C2++ [(q,L)]) (D2 q)/\κ (aQ q) (BV H b2 sz (D2 q)) (n+2)
 |_=>False
theorem N5:ai 118 vE:=fun args H n κ hs φ h0' hp vs K hr hargs hk=>by
 unfold vE at hs;split at hs
 ·obtain⟨b,b2,sz,A,B,C2,p,L,D2,rfl,⟨hbn,hn,hn0,hb⟩,hbb,⟨hb2n,_,_,hb2⟩,hn1,hn2,s1,hs⟩:=hs;have hbS:=hb;rw[dG]at hb;obtain⟨w1,us1,q1,e1,r1⟩:=hargs.cons_inv;have e1:w1=pS p:=e1;subst e1;obtain⟨ψ,T,hle,hψ,hr2⟩:=hr.Bn hbn hb;have o2:(opn H n b (chs sz A) (chs sz B) (chk sz L)).get b2=some (.sep (pk (chs sz C2))):=tk hbn hn (by omega) (fun e=>hbb e.symm) hb2;have o1:(opn H n b (chs sz A) (chs sz B) (chk sz L)).get b=some (.sep (pk (chs sz A++chs sz B))):=xM hbn hn;have on:(opn H n b (chs sz A) (chs sz B) (chk sz L)).get n=some (.cells (chk sz L) true):=qN hn;have ox:∀x o,x≠n->x≠b->H.get x=some o->(opn H n b (chs sz A) (chs sz B) (chk sz L)).get x=some o:=fun x o a c d=>tk hbn hn a c d
  have hr2:HR ψ (opn H n b (chs sz A) (chs sz B) (chk sz L)) (n+1) h0' hp:=hr2;generalize opn H n b (chs sz A) (chs sz B) (chk sz L)=O at*;refine dy (S:=[n]) (O:=[.cells (chk sz L) true]) (args0:=[.ptr 0 0]) (κ:=fun v H2 n2=>v= .ptr (n+1) 0/\H2=(O.set (some (.cells (chk sz L) true)) aa (n+1)).set (some (.cells (chk sz L) true)) aa n/\n2=n+2) (an RL 5 _) (by kernel_rfl) hr2 (n6 (Nat.lt_succ_self _) on (.inr rfl)) (by rw[q1];exact .cons (VR.nZ hψ) (VRs.mono hle _ _ r1)) ?_ (Im sz L s1) fun u H' n' ⟨g0,g1,g2⟩=>?_
  ·intro χ v H2 n2 u g hle2 hg hu ⟨g1,g2,g3⟩;subst g1 g2 g3;obtain⟨q,T',hq1,hq2⟩:=hu.D4;subst hq2;obtain⟨ω1,_,l1,_,hr3⟩:=hg.nY (m:=n+1) (b:=b2) (A:=chs sz C2) (B:=[]) (p:=q) (T:=T') (by omega) (PM.gne hn (by omega) (PM.gne hn2 (by omega) (by rw[List.append_nil];exact o2))) (PM.gne hn (by omega) (PM.geq hn2)) hq1 rfl (dF _ _)
   obtain⟨ω2,_,l2,_,hr4⟩:=hr3.nY (m:=n) (b:=b) (A:=chs sz A) (B:=chs sz B) (p:=p) (T:=T) (by omega) (PM.gne (by omega) hbb (PM.gne hn2 (by omega) (PM.gne hn (by omega) (PM.gne hn2 (by omega) o1)))) (PM.gne (by omega) (by omega) (PM.gne hn2 (by omega) (PM.geq hn))) (l1.b _ _ (hle2.b _ _ hψ)) rfl (dF _ _)
   obtain⟨hD,hκ⟩:=hs q;unfold eT at hD;rw[dG]at hD;have hr5:=hr4.tj (b:=b2) (Q':=pk (chs sz (D2 q))) (PM.gne (by omega) (fun e=>hbb e.symm) (PM.gne hn (by omega) (PM.geq (by omega)))) hD;refine hk ω2 _ _ _ _ g (((hle.trans hle2).trans l1).trans l2) (hr5.less fun x o hx=>?_) (show VR ω2 (aQ q) (pS q) from rfl) hκ;rcases PM.aj aa H b2 x o hx with⟨rfl,h2⟩|⟨h1,h2⟩
   ·rw[PM.geq (by omega)];exact h2
   ·have x1:x≠n:=fun e=>by subst e;rw[hn0]at h2;cases h2
    have x2:x≠n+1:=fun e=>by subst e;rw[hn1]at h2;cases h2
    refine PM.gne (by omega) h1 ?_;by_cases hxb:x=b
    ·subst hxb;rw[PM.geq (by omega),<-dG];rw[hbS]at h2;exact h2
    ·exact PM.gne (by omega) hxb (PM.gne hn x1 (PM.gne (by omega) h1 (PM.gne hn2 x2 (PM.gne hn x1 (PM.gne hn2 x2 (ox x o x1 hxb h2))))))
  ·subst g0 g1 g2;refine⟨2,jI [n] (n+1) O [(0,some (.cells (chk sz L) true)),(1,some (.cells (chk sz L) true))],Nat.le_of_ble_eq_true rfl,fq.put (Nat.le_of_ble_eq_true rfl) rfl (fun x hx o ho=>?_),rfl,rfl,rfl,rfl⟩
   ·simp only[List.mem_cons,List.not_mem_nil,or_false]at hx;rcases hx with rfl|rfl
    ·injection ho with ho;subst ho;exact⟨rfl,rfl,rfl⟩
    ·injection ho with ho;subst ho;exact⟨rfl,rfl,rfl⟩
 ·exact hs.elim
def ab (C:Ck5):Smp:=(cnt C).flatten
theorem jb (A B:Ck5):ab (A++B)=ab A++ab B:=by simp[ab,cnt]
theorem bI (c:(Nat×Nat)×Smp) (B:Ck5):ab (c::B)=c.2++ab B:=by simp[ab,cnt]
theorem fk (A B:Ck5) (p:Nat×Nat) (L:Smp):ab (A++(p,L)::B)=ab A++(L++ab B):=by rw[jb,bI]
def NeT (C:Ck5):Prop:=∀c∈C.tail,c.2≠[]
structure Gd (S:Sr) (C:Ck5):Prop where
 lo:128<=S.sz
 hi:S.sz<=4096
 up:Up (ab C)
 ne:NeT C
 dW:∀c∈C,cK c.2
 fit:∀c∈C,(aT c.2).length<=8*S.sz
theorem vF:∀{C:Ck5},(∀c∈C,c.2≠[])->C.length<=(ab C).length
 | [],_=>Nat.zero_le _
 |c::C,h=>by
  have:=vF (C:=C) fun d hd=>h d (List.mem_cons_of_mem _ hd)
  have h1:0<c.2.length:=List.length_pos_iff.2 (h c (by simp));rw[bI,List.length_append,List.length_cons];omega
theorem D5 {C:Ck5} (h:NeT C):C.length<=(ab C).length+1:=by
 cases C with
 |nil=>exact Nat.zero_le _
 |cons c C=>
  have:=vF (C:=C) h;rw[bI,List.length_append,List.length_cons];omega
theorem Gd.okc {S:Sr} {C:Ck5} (h:Gd S C) (hf:(ab C).length<=90000):Okc S C:=⟨h.lo,h.hi,h.dW,by have:=D5 h.ne;omega⟩
theorem Up.N6 {L:Smp} (h:Up L) {x:Int×Int} (hx:x∈L):tAt L 0<=x.1:=by
 cases L with
 |nil=>cases hx
 |cons y L=>
  show y.1<=x.1;rcases List.mem_cons.1 hx with rfl|q
  ·exact Int.le_refl _
  ·have:=(List.pairwise_cons.1 h).1 x q;omega
theorem FU {L:Smp} (h:L≠[]):∃x∈L,x.1=tAt L 0:=by
 cases L with
 |nil=>exact absurd rfl h
 |cons y L=>exact⟨y,by simp,rfl⟩
theorem vG:∀{C:Ck5} {t:Int},C≠[]->NeT C->Up (ab C)->(∀x∈ab (C.take (gF (cnt C) t)),x.1<t)/\∀x∈ab (C.drop (gF (cnt C) t+1)),t<x.1
 | [],_,h,_,_=>absurd rfl h
 | [c],t,_,_,_=>by
  have:gF (cnt [c]) t=0:=rfl
  rw[this];exact⟨fun x hx=>by simp[ab,cnt]at hx,fun x hx=>by simp[ab,cnt]at hx⟩
 |c::d::C,t,_,hn,hu=>by
  have hd:d.2≠[]:=hn d (by simp);have hu':=hu;rw[bI,Up.app]at hu';obtain⟨u1,u2,u3⟩:=hu';have e:gF (cnt (c::d::C)) t=if t<tAt d.2 0 then 0 else gF (cnt (d::C)) t+1:=rfl
  rw[e];split
  ·rename_i ht;refine⟨fun x hx=>by simp[ab,cnt]at hx,fun x hx=>?_⟩;have hx:x∈ab (d::C):=hx;have h2:tAt (ab (d::C)) 0<=x.1:=Up.N6 u2 hx
   have h3:tAt (ab (d::C)) 0=tAt d.2 0:=by
    rw[bI];exact(lk (List.length_pos_iff.2 hd)).1
   omega
  ·rename_i ht;obtain⟨h1,h2⟩:=vG (C:=d::C) (t:=t) (by simp) (fun x hx=>hn x (show x∈(c::d::C).tail from List.mem_cons_of_mem d hx)) u2;refine⟨fun x hx=>?_,h2⟩;have hx:x∈ab (c::(d::C).take (gF (cnt (d::C)) t)):=hx;rw[bI]at hx;rcases List.mem_append.1 hx with q|q
   ·obtain⟨y,hy,hy2⟩:=FU hd;have:=u3 x q y (by rw[bI];exact List.mem_append_left _ hy);omega
   ·exact h1 x q
theorem FV {L:Smp} (h:Up L) (t v p:Int):Up (fm L t v p).1:=by
 unfold fm;split
 ·rename_i hh;split
  ·exact h
  ·exact Fm h hh
 ·rename_i hh;exact Fl h (by simpa using hh) v
theorem vH (L:Smp) (t v p:Int):(fm L t v p).1.length<=L.length+1/\L.length<=(fm L t v p).1.length:=by
 unfold fm;split
 ·split
  ·exact⟨Nat.le_succ _,Nat.le_refl _⟩
  ·rw[qS];exact⟨Nat.le_succ _,Nat.le_refl _⟩
 ·rw[kE];exact⟨Nat.le_refl _,Nat.le_succ _⟩
theorem N7 {L:Smp} {t v p:Int} (h:(fm L t v p).2=0):(fm L t v p).1≠[]:=by
 unfold fm at h⊢;split
 ·rename_i hh;rw[if_pos hh]at h;split
  ·rename_i q;rw[if_pos q]at h;exact absurd h q
  ·intro e;have h1:plc L t<L.length:=by unfold has at hh;exact(of_decide_eq_true hh).1
   have:=congrArg List.length e;rw[qS]at this;simp at this;rw[this]at h1;simp at h1
 ·intro e;have:=congrArg List.length e;rw[kE]at this;simp at this
structure D6 (S:Sr) (C C':Ck5) (t v p e:Int):Prop where
 gd:Gd S C'
 err:e=(fm (ab C) t v p).2
 fl:ab C'=(fm (ab C) t v p).1
 ne:C'≠[]
theorem NeT.set {A B:Ck5} {p q:Nat×Nat} {L M:Smp} (h:NeT (A++(p,L)::B)) (hM:M≠[]):NeT (A++(q,M)::B):=by
 cases A with
 |nil=>exact h
 |cons a A=>
  intro c hc;have hc:c∈A++(q,M)::B:=hc;have h:∀c∈A++(p,L)::B,c.2≠[]:=h;rcases List.mem_append.1 hc with k|k
  ·exact h c (List.mem_append_left _ k)
  ·rcases List.mem_cons.1 k with rfl|k
   ·exact hM
   ·exact h c (List.mem_append_right _ (List.mem_cons_of_mem _ k))
theorem db {α:Type} {A B:List α} {x c:α}:c∈A++x::B<->c=x∨c∈A++B:=by
 simp only[List.mem_append,List.mem_cons];constructor
 ·rintro(h|h|h)
  ·exact .inr (.inl h)
  ·exact .inl h
  ·exact .inr (.inr h)
 ·rintro(h|h|h)
  ·exact .inr (.inl h)
  ·exact .inl h
  ·exact .inr (.inr h)
theorem Lu {S:Sr} {A B:Ck5} {p:Nat×Nat} {L:Smp} {t v q:Int} (hg:Gd S (A++(p,L)::B)) (hA:∀x∈ab A,x.1<t) (hB:∀x∈ab B,t<x.1) (ht:0<=t/\t<1099511627776) (hv:aN v) (h2:(eG S.sz L t v q).2≠2):
 D6 S (A++(p,L)::B) (A++(p,(eG S.sz L t v q).1)::B) t v q (eG S.sz L t v q).2:=by
 have hF:cK L:=hg.dW (p,L) (by simp);have hF2:=HY (p:=q) hg.hi hF (t:=t) (v:=v) hv;have e1:=BR (M:=L) v q hA hB;rw[<-fk A B p L]at e1;rw[se ht]at h2 hF2⊢;by_cases he:(fm L t v q).2≠0
 ·rw[if_pos he]at*;refine⟨hg,by rw[e1],?_,by simp⟩;rw[e1,BQ he,fk]
 ·rw[if_neg he]at*;have he0:(fm L t v q).2=0:=by omega
  unfold pU at h2 hF2⊢;by_cases hl:(aT (fm L t v q).1).length<=8*S.sz
  ·rw[if_pos hl]at*;have ef:ab (A++(p,(fm L t v q).1)::B)=(fm (ab (A++(p,L)::B)) t v q).1:=by rw[e1,fk]
   refine⟨⟨hg.lo,hg.hi,by rw[ef];exact FV hg.up _ _ _,hg.ne.set (N7 he0),fun c hc=>?_,fun c hc=>?_⟩,by rw[e1];exact he0.symm,ef,by simp⟩
   ·rcases db.1 hc with rfl|k
    ·exact hF2
    ·exact hg.dW c (db.2 (.inr k))
   ·rcases db.1 hc with rfl|k
    ·exact hl
    ·exact hg.fit c (db.2 (.inr k))
  ·rw[if_neg hl]at h2;exact absurd rfl h2
theorem Lv {sz:Nat} {L:Smp} {t v q:Int} (hs:128<=sz) (ht:0<=t/\t<1099511627776) (h2:(eG sz L t v q).2=2):(eG sz L t v q).1=L/\2<=L.length:=by
 rw[se ht]at h2⊢;by_cases he:(fm L t v q).2≠0
 ·rw[if_pos he]at h2;exact absurd h2 (Lm _ _ _ _)
 ·rw[if_neg he]at h2⊢;unfold pU at h2⊢;by_cases hl:(aT (fm L t v q).1).length<=8*sz
  ·rw[if_pos hl]at h2;exact absurd h2 (by simp)
  ·rw[if_neg hl];refine⟨rfl,?_⟩;rcases Nat.lt_or_ge L.length 2 with h|h
   ·have:=oL (L:=(fm L t v q).1) (by have:=(vH L t v q).1;omega);omega
   ·exact h
theorem Up.last {L:Smp} (h:Up L) {x:Int×Int} (hx:x∈L):x.1<=qT L:=by
 obtain⟨i,hi,rfl⟩:=List.getElem_of_mem hx;unfold qT;by_cases q:i=L.length-1
 ·subst q;rw[eR (by omega)];exact Int.le_refl _
 ·have:=h.lt (i:=i) (j:=L.length-1) (by omega) (by omega);rw[eR hi]at this;omega
theorem vI {S:Sr} {A:Ck5} {p o:Nat×Nat} {L:Smp} {t v q:Int} (hg:Gd S (A++ [(p,L)])) (hA:∀x∈ab A,x.1<t) (hl:qT L<t) (ht:0<=t/\t<1099511627776) (hv:aN v):
 (eG S.sz [] t v q)=([(t,v)],0)/\D6 S (A++ [(p,L)]) (A++ [(p,L)]++ [(o,[(t,v)])]) t v q 0:=by
 have e0:fm [] t v q=([(t,v)],0):=rfl
 have hb:(aT [(t,v)]).length<=8*S.sz:=by have:=oL (L:=[(t,v)]) (by simp);have:=hg.lo;omega
 have hF:cK L:=hg.dW (p,L) (by simp)
 have hall:∀x∈ab (A++ [(p,L)]),x.1<t:=fun x hx=>by
  rw[jb]at hx;rcases List.mem_append.1 hx with k|k
  ·exact hA x k
  ·have k:x∈L:=by simpa[ab,cnt]using k
   have:=Up.last hF.1 k;omega
 have e1:=BR (A:=ab (A++ [(p,L)])) (M:=[]) (B:=[]) v q hall (fun x hx=>by cases hx);rw[e0]at e1;have e2:ab (A++ [(p,L)])++([]++ [])=ab (A++ [(p,L)]):=by simp
 rw[e2]at e1;have ef:ab (A++ [(p,L)]++ [(o,[(t,v)])])=(fm (ab (A++ [(p,L)])) t v q).1:=by rw[e1,jb];simp[ab,cnt]
 refine⟨by rw[se ht,e0,if_neg (by simp)];unfold pU;rw[if_pos hb],⟨hg.lo,hg.hi,by rw[ef];exact FV hg.up _ _ _,?_,fun c hc=>?_,fun c hc=>?_⟩,by rw[e1],ef,by simp⟩
 ·intro c hc;cases A with
  |nil=>
   have hc:c∈ [(o,[(t,v)])]:=hc;simp only[List.mem_cons,List.not_mem_nil,or_false]at hc;subst hc;simp
  |cons a A=>
   have hc:c∈A++ [(p,L)]++ [(o,[(t,v)])]:=hc;rcases List.mem_append.1 hc with k|k
   ·exact hg.ne c k
   ·simp only[List.mem_cons,List.not_mem_nil,or_false]at k;subst k;simp
 ·rcases List.mem_append.1 hc with k|k
  ·exact hg.dW c k
  ·simp only[List.mem_cons,List.not_mem_nil,or_false]at k;subst k;exact⟨List.pairwise_singleton _ _,fun x hx=>by simp only[List.mem_cons,List.not_mem_nil,or_false]at hx;subst hx;exact⟨ht,hv⟩,by simp⟩
 ·rcases List.mem_append.1 hc with k|k
  ·exact hg.fit c k
  ·simp only[List.mem_cons,List.not_mem_nil,or_false]at k;subst k;exact hb
theorem Lw {S:Sr} {A B:Ck5} {p q:Nat×Nat} {L:Smp} (hg:Gd S (A++(p,L)::B)) (h2:2<=L.length):Gd S (A++(p,L.take (bT L))::(q,L.drop (bT L))::B)/\ab (A++(p,L.take (bT L))::(q,L.drop (bT L))::B)=ab (A++(p,L)::B):=by
 obtain⟨k1,k2⟩:=zi h2;obtain⟨f1,f2⟩:=Lp hg.lo h2 (hg.fit (p,L) (by simp));have hF:cK L:=hg.dW (p,L) (by simp)
 have n1:L.take (bT L)≠[]:=fun e=>by
  have:(L.take (bT L)).length=0:=by rw[e];rfl
  rw[List.length_take]at this;omega
 have n2:L.drop (bT L)≠[]:=fun e=>by
  have:(L.drop (bT L)).length=0:=by rw[e];rfl
  rw[List.length_drop]at this;omega
 have ef:ab (A++(p,L.take (bT L))::(q,L.drop (bT L))::B)=ab (A++(p,L)::B):=by
  rw[fk,fk,bI,<-List.append_assoc (L.take (bT L)),List.take_append_drop]
 have mm:∀c,c∈A++(p,L.take (bT L))::(q,L.drop (bT L))::B->c=(p,L.take (bT L))∨c=(q,L.drop (bT L))∨c∈A++B:=fun c hc=>by
  rcases db.1 hc with k|k
  ·exact .inl k
  ·exact .inr (db.1 k)
 refine⟨⟨hg.lo,hg.hi,by rw[ef];exact hg.up,?_,fun c hc=>?_,fun c hc=>?_⟩,ef⟩
 ·have h1:NeT (A++(p,L.take (bT L))::B):=hg.ne.set n1;intro c hc;cases A with
  |nil=>
   have hc:c∈(q,L.drop (bT L))::B:=hc;rcases List.mem_cons.1 hc with rfl|k
   ·exact n2
   ·exact h1 c k
  |cons a A=>
   have hc:c∈A++(p,L.take (bT L))::(q,L.drop (bT L))::B:=hc;have h1:∀c∈A++(p,L.take (bT L))::B,c.2≠[]:=h1;rcases db.1 hc with rfl|k
   ·exact n1
   ·rcases db.1 k with rfl|k
    ·exact n2
    ·exact h1 c (db.2 (.inr k))
 ·rcases mm c hc with rfl|rfl|k
  ·exact hF.sub (List.take_sublist _ _)
  ·exact hF.sub (List.drop_sublist _ _)
  ·exact hg.dW c (db.2 (.inr k))
 ·rcases mm c hc with rfl|rfl|k
  ·exact f1
  ·exact f2
  ·exact hg.fit c (db.2 (.inr k))
end Go.Proofs.YtflehenfikoniaaGreat
