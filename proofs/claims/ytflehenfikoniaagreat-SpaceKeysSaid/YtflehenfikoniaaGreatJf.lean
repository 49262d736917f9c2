/- Texts of our own, joined: the engine, the machine that runs code, and what is known of the functions. -/
import Derived.Test.YtflehenfikoniaaGreatRows
import Derived.WalkKit
import Derived.Deep.Quiet
import Derived.ProofKit
import Derived.Laws.StructEq
import Derived.LaidEql
import Derived.Laws.BytesArg
import Derived.Maps.RangeRun
import Derived.RangeFuncSeq
import Derived.Scope
import Derived.Laws.Strings
import Derived.Laws.Strings2
import Derived.Below
import Derived.Carry
import Derived.OpenShut
import Derived.ChangeMaps5
import Derived.Deep.Slices
import Derived.Deep.SlicePairs
import Derived.SizedLaws
import Derived.Laws.BitsAllLaws
import Derived.RangeFuncRecord
import Derived.Test.YtflehenfikoniaaGreatJe
set_option linter.unusedSimpArgs false
set_option linter.unusedVariables false
set_option maxHeartbeats 16000000
set_option maxRecDepth 100000
noncomputable section
namespace Go.Proofs.YtflehenfikoniaaGreat
open Go Go.RowKit
def VE(X:SpV):Prop:=∀d r,X.R d=some r->X.R r.src=none
def aT(X:SpV)(E:Tx->List Int)(k:Tx):List Int:=match X.R k with
 |none=>E k
 |some r=>(E r.src).map (bB r)
structure Few(X:SpV)(b:Nat)(E:Tx->List Int):Prop where
 len:∀k,(E k).length<=b
 mem:∀k e,X.K k=some e->∀x∈e.L,x.1∈aT X E k
theorem I5:∀{l m:List Int},l.Nodup->(∀x∈l,x∈m)->l.length<=m.length
 | [],_,_,_=>Z9 _
 |x::l,m,h,f=>by
  obtain⟨i,j⟩:=q3d.1 h;obtain⟨a,c,e⟩:=List.append_of_mem (f x q0i)
  have:=I5 (l:=l) (m:=a++c) j λy g=>by
   have d:=f y (q0f _ g);rw[e]at d;simp only[q1n,Z5]at d⊢;rcases d with d|rfl|d
   ·exact .inl d
   ·exact absurd g i
   ·exact .inr d
  rw[e];simp only[Z6,q0a]at this⊢;omega
theorem Up.nodup{L:Smp}(h:Up L):(L.map Prod.fst).Nodup:=by
 unfold List.Nodup;rw[List.pairwise_map];exact h.imp λq=>by omega
section
variable {X Y:SpV} {b:Nat} {E:Tx->List Int} {r:Rl} {t was:Int} {k:Tx} {c:SpC}
theorem Pe(h:Few X b E):(aT X E k).length<=b:=by
 unfold aT;split
 ·exact h.len k
 ·rw[q0g];exact h.len _
theorem Few.bnd(h:Few X b E)(f:bA X c):Bnd X b:=λk e a=>by
 have d:=I5 (f.ser k e a).up.nodup (m:=aT X E k) λt g=>by
  obtain⟨x,i,rfl⟩:=q0p.1 g;exact h.mem k e a x i
 rw[q0g]at d;exact q0d d (Pe h)
theorem R1(r:Rl)(x:Int):bB r (bB r x)=bB r x:=by
 unfold bB;generalize r.size=s;generalize r.align=a;by_cases h:tE s a=true/\oc x=true/\a<=x
 ·have e:fX x s a=x-(x-a)%s:=if_pos h;obtain⟨d,i,o⟩:=h;have j:=of_decide_eq_true d;have l:=of_decide_eq_true i;have p:=Int.emod_nonneg (x-a) (show s≠0 by omega);have u:=Int.emod_lt_of_pos (x-a) (show 0<s by omega)
  have v:(x-a)%s<=x-a:=by
   have:=Int.mul_ediv_add_emod (x-a) s;have f:0<=(x-a)/s:=Int.ediv_nonneg (by omega) (by omega);have g:0<=s*((x-a)/s):=Int.mul_nonneg (by omega) f;omega
  have m:(x-(x-a)%s-a)%s=0:=by
   have f:=Int.mul_ediv_add_emod (x-a) s;have g:x-(x-a)%s-a=s*((x-a)/s):=by omega
   rw[g];exact Int.mul_emod_right _ _
  rw[e];unfold fX;rw[if_pos ⟨d,decide_eq_true (by omega),by omega⟩,m];omega
 ·have e:fX x s a=0:=if_neg h;rw[e];unfold fX;split
  ·rename_i q;have:=of_decide_eq_true q.1;have n:a=0:=by omega
   subst n;simp
  ·rfl
theorem Pg{L:Smp}{t v p:Int}{x:Int×Int}(h:x∈(fp L t v p).1):x.1=t∨∃y∈L,y.1=x.1:=by
 unfold fp at h;split at h
 ·split at h
  ·exact .inr ⟨x,h,rfl⟩
  ·rcases List.mem_or_eq_of_mem_set (show x∈L.set _ _ from h)with h|rfl
   ·exact .inr ⟨x,h,rfl⟩
   ·exact .inl rfl
 ·rcases wQ.1 h with rfl|h
  ·exact .inl rfl
  ·exact .inr ⟨x,h,rfl⟩
theorem Ez{S:Sr}{L:Smp}{t v p:Int}{x:Int×Int}(h:x∈(gY S L t v p).1.2):x.1=t∨∃y∈L,y.1=x.1:=by
 unfold gY at h;generalize (if p=0 then S.pol else p)=q at h;split at h
 ·exact .inr ⟨x,h,rfl⟩
 ·split at h
  ·exact .inr ⟨x,h,rfl⟩
  ·split at h
   ·exact Pg (mR.1 h).1
   ·exact .inr ⟨x,h,rfl⟩
theorem Pj{S:Sr}{L:Smp}{ret p:Int}{x:Int×Int}(h:x∈(jM S L ret p).1.2):x∈L:=by
 unfold jM at h;split at h
 ·exact(mR.1 h).1
 ·exact h
theorem Ll{s d:fK}{x:Int×Int}(h:x∈(gO r t s d).2):x.1=bB r t∨∃y∈d.L,y.1=x.1:=by
 unfold gO at h;split at h
 ·exact .inr ⟨x,h,rfl⟩
 ·split at h
  ·exact Ez h
  ·exact .inr ⟨x,(mR.1 h).1,rfl⟩
def Kp(X Y:SpV):Prop:=Y.R=X.R/\Y.n=X.n/\∀x,(Y.K x).isSome=(X.K x).isSome
theorem Kp.GJ:Kp X X:=⟨rfl,rfl,λ_=>rfl⟩
theorem Kp.trans{Z:SpV}(h:Kp X Y)(k:Kp Y Z):Kp X Z:=⟨k.1.trans h.1,k.2.1.trans h.2.1,λx=>(k.2.2 x).trans (h.2.2 x)⟩
theorem m9:Kp X (cq X r t):=⟨iY.1,iY.2,λ_=>js⟩
theorem vr(h:Kp X Y):aT Y E k=aT X E k:=by unfold aT;rw[h.1]
theorem Few.R2(h:Few X b E)(g:X.R r.dst=some r)(i:bB r t∈(E r.src).map (bB r)):Few (cq X r t) b E:=
 ⟨h.len,λk e a x f=>by
  rw[vr m9];unfold cq at a;split at a
  ·rename_i s d m j;rw[fC]at a;split at a
   ·rename_i q;subst q;injection a with a;subst a;rcases Ll f with q|⟨y,l,q⟩
    ·rw[q];unfold aT;rw[g];exact i
    ·rw[<-q];exact h.mem _ d j y l
   ·exact h.mem k e a x f
  ·exact h.mem k e a x f⟩
theorem uc{e a:fK}(h:X.K k=some e):Kp X (fO X k a):=⟨rfl,rfl,λx=>by
 rw[fC];by_cases q:x=k
 ·subst q;rw[if_pos rfl,h];rfl
 ·rw[if_neg q]⟩
theorem yk:Kp X (dN k was t X r):=by
 unfold dN;split
 ·exact m9.trans m9
 ·exact m9
theorem yl:∀(a:List Rl) {X:SpV},Kp X (a.foldl (dN k was t) X)
 | [],_=> .GJ
 |_::a,_=>yk.trans (yl a)
theorem Few.steps(e:was∈E k)(f:t∈E k):∀(a:List Rl) {X:SpV},Few X b E->(∀r∈a,X.R r.dst=some r/\r.src=k)->Few (a.foldl (dN k was t) X) b E
 | [],_,h,_=>h
 |r::a,X,h,g=>by
  obtain⟨d,i⟩:=g r q0i;have l:bB r was∈(E r.src).map (bB r):=by rw[i];exact q0p.2 ⟨_,e,rfl⟩
  have j:bB r t∈(E r.src).map (bB r):=by rw[i];exact q0p.2 ⟨_,f,rfl⟩
  refine Few.steps e f a (X:=dN k was t X r) ?_ λq m=>?_
  ·unfold dN;split
   ·exact(h.R2 d l).R2 (by rw[iY.1];exact d) j
   ·exact h.R2 d j
  ·rw[(yk (X:=X)).1];exact g q (q0f _ m)
theorem s6{s:Int×SpV}{x:Int×Int}:Kp s.2 (cO r s x).2:=by
 unfold cO;split
 ·exact m9
 ·exact .GJ
theorem s7:∀(L:Smp) {s:Int×SpV},Kp s.2 (L.foldl (cO r) s).2
 | [],_=> .GJ
 |_::L,_=>s6.trans (s7 L)
theorem Few.VF:∀(L:Smp) {s:Int×SpV},Few s.2 b E->s.2.R r.dst=some r->(∀x∈L,x.1∈E r.src)->Few (L.foldl (cO r) s).2 b E
 | [],_,h,_,_=>h
 |x::L,s,h,a,d=>by
  refine Few.VF L (s:=cO r s x) ?_ ?_ λy e=>d y (q0f _ e)
  ·unfold cO;split
   ·refine h.R2 a ?_;rw[R1];exact q0p.2 ⟨_,d x q0i,rfl⟩
   ·exact h
  ·rw[(s6 (s:=s)).1];exact a
theorem z9{gone:Smp}:∀(a:List Rl) {X:SpV},Kp X (a.foldl (dF gone) X)
 | [],_=> .GJ
 |r::a,X=>(show Kp X (dF gone X r) from s7 gone).trans (z9 a)
theorem Few.Yb{gone:Smp}(d:∀x∈gone,x.1∈E k):∀(a:List Rl) {X:SpV},Few X b E->(∀r∈a,X.R r.dst=some r/\r.src=k)->Few (a.foldl (dF gone) X) b E
 | [],_,h,_=>h
 |r::a,X,h,e=>by
  obtain⟨f,g⟩:=e r q0i;refine Few.Yb d a (X:=dF gone X r) (Few.VF gone (s:=(-1,X)) h f λx i=>by rw[g];exact d x i) λq j=>?_
  rw[(show Kp X (dF gone X r) from s7 gone).1];exact e q (q0f _ j)
structure Inv(X:SpV)(b:Nat):Prop where
 links:Links X
 noch:VE X
 n:X.n<=b
 few:∃E,Few X b E
theorem Inv.mono{a:Nat}(h:Inv X b)(d:b<=a):Inv X a:=⟨h.links,h.noch,q0d h.n d,h.few.elim λE e=>⟨E,λk=>q0d (e.len k) d,e.mem⟩⟩
theorem Inv.bnd(h:Inv X b)(a:bA X c):Bnd X b:=h.few.elim λ_ e=>e.bnd a
theorem Inv.no:Inv lE 0:=⟨λ_ _ h=>(by cases h),λ_ _ h=>(by cases h),Z3 _,λ_=> [],λ_=>Z3 _,λ_ _ h=>(by cases h)⟩
theorem Inv.bz{f:Nat}(h:Inv X b)(a:Kp X Y)(g:b<=f)(i:∃E,Few Y f E):Inv Y f:=
 ⟨λd r e=>by rw[a.1]at e;rw[a.2.2,a.2.2];exact h.links d r e,λd r e=>by rw[a.1]at e⊢;exact h.noch d r e,by rw[a.2.1];exact q0d h.n g,i⟩
theorem I6(h:dD X k=0):X.R k=none:=by
 unfold dD at h;split at h
 ·split at h
  ·cases h
  ·rename_i q;cases e:X.R k with
   |none=>rfl
   |some r=>rw[e]at q;exact absurd rfl q
 ·cases h
theorem Inv.add(h:Inv X b)(n:bA X c)(k:Tx)(t v p:Int):Inv (jY X k t v p).1 (b+2):=by
 have j:=h.mono (q1c b 2);unfold jY;split
 ·exact j
 ·rename_i g;have o:=I6 (Decidable.of_not_not g);split
  ·exact j
  ·rename_i e l;split
   ·exact j
   ·obtain⟨E,i⟩:=h.few;have a:Kp X (OS X k e t v p):=uc l;refine h.bz (a.trans (yl _)) (q1c b 2) ⟨λx=>if x=k then t::e.S.mx::E k else E x,Few.steps (by simp) (by simp) _ ⟨λx=>?_,λx y d z m=>?_⟩ λr s=>?_⟩
    ·split
     ·have:=i.len k;simp only[q0a];omega
     ·have:=i.len x;omega
    ·have up:∀u,u∈aT X E x->u∈aT X (λx=>if x=k then t::e.S.mx::E k else E x) x:=λu f=>by
      unfold aT at f⊢;split at f
      ·dsimp only;split
       ·rename_i q;subst q;exact q0f _ (q0f _ f)
       ·exact f
      ·obtain⟨w,g,rfl⟩:=q0p.1 f;refine q0p.2 ⟨w,?_,rfl⟩;dsimp only;split
       ·rename_i q;rw[q]at g;exact q0f _ (q0f _ g)
       ·exact g
     rw[vr a];unfold OS at d;rw[fC]at d;split at d
     ·rename_i q;subst q;injection d with d;subst d;rcases Ez m with q|⟨u,f,q⟩
      ·rw[q];unfold aT;rw[o];simp
      ·rw[<-q];exact up _ (i.mem x e l u f)
     ·exact up _ (i.mem x y d z m)
    ·rw[a.1];exact n.yd.1 s
theorem Inv.del(h:Inv X b)(j:bA X c)(k:Tx)(x y:Int):Inv (sY X k x y).1 b:=by
 unfold sY;split
 ·exact h
 ·rename_i l;have m:=I6 (Decidable.of_not_not l);split
  ·exact h
  ·rename_i e i;obtain⟨E,f⟩:=h.few;have a:Kp X (fO X k {e with L:=aO e.L x y}):=uc i;refine h.bz (a.trans (z9 _)) (Z3 b) ⟨E,Few.Yb (k:=k) (λz g=>?_) _ ⟨f.len,λu w d z g=>?_⟩ λr n=>?_⟩
   ·have:=f.mem k e i z (xx.1 g).1;unfold aT at this;rw[m]at this;exact this
   ·rw[vr a];rw[fC]at d;by_cases q:u=k
    ·rw[if_pos q]at d;subst q;injection d with d;subst d;exact f.mem u e i z (mR.1 g).1
    ·rw[if_neg q]at d;exact f.mem u w d z g
   ·rw[a.1];exact j.yd.1 n
theorem Inv.inc(h:Inv X b)(d:bA X c)(k:Tx)(t y:Int):Inv (sZ X k t y).1 (b+2):=by
 have a:=h.mono (q1c b 2);unfold sZ;split
 ·exact a
 ·split
  ·exact a
  ·split
   ·exact a
   ·split
    ·exact a
    ·split
     ·exact a
     ·split<;>exact h.add d _ _ _ _
theorem Inv.cr(h:Inv X b){y:fK}(l:∀x∈y.L,∃e,X.K k=some e/\x∈e.L):Inv (crK X k y) (b+2):=by
 have g:∀x,(X.K x).isSome=true->((crK X k y).K x).isSome=true:=λx m=>by
  show(if x=k then some y else X.K x).isSome=true;split
  ·rfl
  ·exact m
 obtain⟨E,f⟩:=h.few;refine⟨λd r i=>⟨g _ (h.links d r i).1,g _ (h.links d r i).2⟩,h.noch,?_,E,λx=>?_,λx e o z j=>?_⟩
 ·have:=h.n;show X.n+1<=b+2;omega
 ·have:=f.len x;omega
 ·have a:(if x=k then some y else X.K x)=some e:=o;show z.1∈aT X E x;by_cases q:x=k
  ·rw[if_pos q]at a;injection a with a;subst a q;obtain⟨p,s,u⟩:=l z j;exact f.mem x p s z u
  ·rw[if_neg q]at a;exact f.mem x e a z j
theorem Inv.create(h:Inv X b)(k:Tx)(z ret pol:Int)(l:List Lab):Inv (crF X k z ret pol l).1 (b+2):=by
 have a:=h.mono (q1c b 2);unfold crF;split
 ·exact a
 ·split
  ·split
   ·exact a
   ·exact h.cr λx d=>(by cases d)
  ·exact a
theorem Inv.alter(h:Inv X b)(k:Tx)(ret pol:Int)(l:List Lab):Inv (uX X k ret pol l).1 (b+2):=by
 have a:=h.mono (q1c b 2);unfold uX;split
 ·exact a
 ·rename_i e d;split
  ·split
   ·exact a
   ·exact h.cr λx f=>⟨e,d,Pj f⟩
  ·exact a
theorem Inv.Ta(h:Inv X b)(f:∀d r,Y.R d=some r->X.R d=some r)(j:∀x e,Y.K x=some e->X.K x=some e)(l:Links Y)(hn:Y.n<=b):Inv Y b:=by
 obtain⟨E,g⟩:=h.few;refine⟨l,λd r m=>?_,hn,λx=>aT X E x,λx=>Pe g,λx e o z p=>?_⟩
 ·have:=h.noch d r (f d r m);cases q:Y.R r.src with
  |none=>rfl
  |some y=>rw[f _ _ q]at this;cases this
 ·have s:=g.mem x e (j x e o) z p
  have key:∀w,z.1∈aT X E x->aT Y (aT X E) x=w->z.1∈w:=λw a u=>by
   subst u;unfold aT;cases q:Y.R x with
   |none=>exact a
   |some r=>
    have i:=f x r q;have v:=h.noch x r i;dsimp only;rw[v];unfold aT at a;rw[i]at a;exact a
  exact key _ s rfl
theorem Inv.unl(h:Inv X b)(s d:Tx):Inv (ua X s d).1 b:=by
 unfold ua;split
 ·exact h
 ·split
  ·have e:∀x r,(qg X d none).R x=some r->X.R x=some r:=λx r a=>by
    have a:(if x=d then none else X.R x)=some r:=a;split at a
    ·cases a
    ·exact a
   exact h.Ta e (λ_ _ f=>f) (λx r a=>h.links x r (e x r a)) h.n
  ·exact h
theorem Inv.drop(h:Inv X b)(l:bA X c)(k:Tx):Inv (dt X k) b:=by
 unfold dt;split
 ·have i:∀d r,(match X.R d with
   |some r=>if pw k r=true then none else some r
   |none=>none)=some r->X.R d=some r/\pw k r=false:=λd r a=>by
   split at a
   ·rename_i s m;split at a
    ·cases a
    ·rename_i q;injection a with a;subst a;exact⟨m,by simpa using q⟩
   ·cases a
  refine h.Ta (λd r a=>(i d r a).1) (λx e f=>?_) (λd r a=>?_) h.n
  ·dsimp only at f;split at f
   ·cases f
   ·exact f
  ·obtain⟨j,g⟩:=i d r a;have hd:=l.S2 j;unfold pw at g;simp only[Bool.or_eq_false_iff,decide_eq_false_iff_not]at g;obtain⟨o,p⟩:=h.links d r j;dsimp only;rw[if_neg g.1,if_neg (by rw[<-hd];exact g.2)];exact⟨o,p⟩
 ·exact h
theorem Inv.link(h:Inv X b)(B:bA X c)(r:Rl):Inv (lkF X r).1 (b+2):=by
 have W:=h.mono (q1c b 2)
 have C:(rlF X r).2≠0->(rlF X r).1=X:=by
  unfold rlF
  repeat' split
  all_goals first|exact λ_=>rfl|exact λq=>absurd rfl q
 unfold lkF;split
 ·rename_i q;rw[C q];exact W
 ·rename_i q
  have key:cU r=true/\(X.K r.src).isSome=true/\(X.K r.dst).isSome=true/\X.R r.src=none/\ofX X r.dst=[]/\(rlF X r).1={qg X r.dst (some r)with n:=X.n+1}:=by
   have q:=Decidable.of_not_not q;unfold rlF at q⊢;split at q
   ·rename_i P;split at q
    ·rename_i D;split at q
     ·cases q
     ·rename_i Z;split at q
      ·cases q
      ·rename_i y;rw[if_pos P,if_pos D,if_neg Z,if_neg y];refine⟨P,D.1,D.2,?_,?_,rfl⟩
       ·cases e:X.R r.src with
        |none=>rfl
        |some u=>rw[e]at y;exact absurd (Or.inl rfl) y
       ·cases e:ofX X r.dst with
        |nil=>rfl
        |cons u l=>rw[e]at y;exact absurd (Or.inr (by simp)) y
    ·cases q
   ·cases q
  obtain⟨k1,Q,S,T,k5,k6⟩:=key;obtain⟨d,hd⟩:=q0s.1 S;obtain⟨s,U⟩:=q0s.1 Q;have F:=qa k1;obtain⟨E,G⟩:=h.few;rw[k6];have e1:({qg X r.dst (some r)with n:=X.n+1}:SpV).K r.dst=some d:=hd;have e2:({qg X r.dst (some r)with n:=X.n+1}:SpV).K r.src=some s:=U;rw[e1,e2];dsimp only;have g:∀x,({qg X r.dst (some r)with n:=X.n+1}:SpV).R x=if x=r.dst then some r else X.R x:=λ_=>rfl
  have H:Links ({qg X r.dst (some r)with n:=X.n+1}:SpV):=λx u a=>by
   rw[g]at a;split at a
   ·rename_i w;injection a with a;subst a w;exact⟨Q,S⟩
   ·exact h.links x u a
  have I:VE ({qg X r.dst (some r)with n:=X.n+1}:SpV):=λx u a=>by
   rw[g]at a;rw[g];split at a
   ·rename_i w;injection a with a;subst a;rw[if_neg F];exact T
   ·rw[if_neg ?_]
    ·exact h.noch x u a
    ·intro w;have:u∈ofX X r.dst:=B.yd.2 ⟨by rw[B.S2 a];exact a,w⟩;rw[k5]at this;cases this
  have p:Links ({qg X r.dst (some r)with n:=X.n+1}:SpV)/\VE ({qg X r.dst (some r)with n:=X.n+1}:SpV):=⟨H,I⟩;obtain⟨f,i⟩:∃f,f=({qg X r.dst (some r)with n:=X.n+1}:SpV):=⟨_,rfl⟩;have A:f.K=X.K:=by rw[i];rfl
  have J:f.R r.dst=some r:=by rw[i,g,if_pos rfl]
  have M:∀x,x≠r.dst->f.R x=X.R x:=λx N=>by rw[i,g,if_neg N]
  have hn2:f.n<=b+1:=by rw[i];exact q4g h.n
  rw[<-i]at p⊢;have v:Kp f (Er f r.dst d):=uc (by rw[A];exact hd);have j:Kp f (sX r (Er f r.dst d) (bH 0 1099511627776 s.L)).2:=v.trans (s7 _)
  have hf:Few (Er f r.dst d) (b+2) E:=⟨λx=>q0d (G.len x) (q1c b 2),λx e m z V=>by
   rw[vr v];unfold Er at m;rw[fC]at m;split at m
   ·injection m with m;subst m;have o:=mR.1 V;have h4:=((B.ser _ _ hd).eE z o.1).1;omega
   ·rename_i w;rw[A]at m;have o:=G.mem x e m z V;unfold aT at o⊢;rw[M x w];exact o⟩
  have O:=Few.VF (r:=r) (bH 0 1099511627776 s.L) (s:=(-1,Er f r.dst d)) hf (by rw[v.1];exact J) λx N=>by
   have o:=G.mem r.src s U x (xx.1 N).1;unfold aT at o;rw[T]at o;exact o
  exact⟨λx u a=>by rw[j.1]at a;rw[j.2.2,j.2.2];exact p.1 x u a,λx u a=>by rw[j.1]at a⊢;exact p.2 x u a,by rw[j.2.1];omega,E,O⟩
end
def EA{X C:Type}(B:Obj X C)(R:X->List AV->X->AV->Prop)(args:List AV)(H:AH)(n:Nat)(κ:PK):Prop:=match args with
 |a::f=>∃b p x cs e v d,a=aA p/\b<n/\n<800000/\Res H n f d cs/\d.get b=some (.sep (B.Q x p))/\((∃c,B.ok x c)->R x cs e v/\κ v (d.set (some (.sep (B.Q e p))) aa b) n)
 |_=>False
def EB{X C:Type}(B:Obj X C)(b:X)(p:Nat×Nat)(v:AV):PK:=λu c d=>∃a,Re c d u a v/\a.get 0=some (.sep (B.Q b p))
theorem Yc {X C:Type} {f:FuncId} {run:List AV->AH->Nat->PK->Prop} (t:al f run) (J:bR Tryz.prog f=true) (B:Obj X C) {R:X->List AV->X->AV->Prop}
 (h:∀x cs d v p,(∃c,B.ok x c)->R x cs d v->cs.all gj=true/\gj v=true/\run (aA p::cs) (mkH [(0,.sep (B.Q x p))]) 1 (EB B d p v)):al f (EA B R):=λargs H n κ F φ L M vs K N l P=>by
 unfold EA at F;split at F
 ·obtain⟨b,p,x,cs,d,v,G,rfl,T,hn9,A,hb,U⟩:=F;obtain⟨w1,V,q1,e1,r1⟩:=l.cons_inv;obtain⟨φ1,l1,D,W⟩:=A φ L M V N r1
  have E:∃c,B.ok x c:=by
   obtain⟨c,hc,_⟩:=(D.sep b _ hb).1;exact⟨c,hc⟩
  obtain⟨hR,Y⟩:=U E;obtain⟨s1,s2,s3⟩:=h x cs d v p E hR
  have w9:iS G n [b] [.sep (B.Q x p)]:=⟨q3d.2 ⟨Z4,.nil⟩,rfl,λi s o j a=>by
   match i,j,a with
   |0,j,a=>injection j with j;injection a with a;subst j a;exact⟨T,hb,.inr rfl⟩
   |i+1,j,_=>simp at j⟩
  refine dz (S:=[b]) (O:=[.sep (B.Q x p)]) (args0:=aA p::cs) (κ:=λv2 H2 n2=>v2=v/\n2=n/\H2=G.set (some (.sep (B.Q d p))) aa b) t.m J D w9 ?_ ?_ (Q:=λv' H' m=>v'=v/\m=1/\H'=mkH [(0,.sep (B.Q d p))]) ?_ λu H' n' hq=>?_
  ·rw[q1];refine .cons e1 ?_;rw[kN s1];exact W
  ·intro χ v2 H2 n2 u g hle hg hu ⟨f1,f2,f4⟩;subst f1 f2 f4;exact P χ _ _ _ u g (l1.trans hle) hg hu Y
  ·refine⟨EB B d p v,s3,λu H' n' ⟨H2,g1,g2⟩=>⟨v,mkH [(0,.sep (B.Q d p))],1,λχ L M w N hu=>?_,rfl,rfl,rfl⟩⟩;obtain⟨ψ1,m1,hr3,hu3⟩:=g1 χ L M w N hu;obtain⟨ψ2,I,hr4⟩:=Bz (k:=1) (O:=[.sep (B.Q d p)]) hr3 ⟨⟨_,g2,.refl rfl⟩,trivial⟩ (Z3 _);exact⟨ψ2,⟨λy q hy e=>I.1 y q hy (m1.b y q e),λq e=>I.2.1 q (m1.z q e),λq e=>m1.y q (I.2.2 q e)⟩,hr4,nP I.2.1 s2 hu3⟩
  ·obtain⟨g1,g2,g3⟩:=hq;subst g1 g2 g3;refine⟨1,G.set (some (.sep (B.Q d p))) aa b,Z3 _,λy o hy=>?_,(iU (r:=λb=>b) s2).2,(iU (m:=0) s2).1,rfl,rfl⟩;rcases PM.an aa G b y o hy with⟨rfl,a⟩|⟨j,a⟩
   ·injection a with a;subst a;exact .inl ⟨0,_,Nat.one_pos,rfl,rfl,rfl,rfl,rfl⟩
   ·exact .inr ⟨by simp;omega,a,λq=>absurd (q3v.1 q) j⟩
 ·exact F.elim
theorem Yd {X C:Type} {F:FuncId->EP} (e:aS F) (d:Nat) {f:FuncId} (a:bR Tryz.prog f=true) (B:Obj X C) {R:X->List AV->X->AV->Prop}
 (h:∀x cs b v p,(∃c,B.ok x c)->R x cs b v->cs.all gj=true/\gj v=true/\ax F d f (aA p::cs) (mkH [(0,.sep (B.Q x p))]) 1 (EB B b p v)):al f (EA B R):=Yc (ay e d f) a B h
theorem EB.told{X C:Type}{B:Obj X C}{a:X}{p:Nat×Nat}{u v:AV}{H:AH}{n:Nat}(e:mkT u=mkT v)(h:H.get 0=some (.sep (B.Q a p))):EB B a p v u H n:=⟨H,.told e,h⟩
def I7{X C:Type}(B:Obj X C)(F:X->Prop)(R:List AV->X->Prop)(args:List AV)(H:AH)(n:Nat)(κ:PK):Prop:=∃cs y a,n<900000/\Res H n args a cs/\a.get n=none/\R cs y/\(F y->∀p,κ (aA p) (a.set (some (.sep (B.Q y p))) aa n) (n+1))
def R3{X C:Type}(B:Obj X C)(F:X->Prop)(y:X):PK:=λu a c=>∃p b,u=aA p/\a.get b=some (.sep (B.Q y p))/\F y
theorem Ye {X C:Type} {f:FuncId} {run:List AV->AH->Nat->PK->Prop} (k:al f run) (D:bR Tryz.prog f=true) (B:Obj X C) {F:X->Prop} {R:List AV->X->Prop}
 (h:∀cs y,R cs y->cs.all gj=true/\run cs .nil 0 (R3 B F y)):al f (I7 B F R):=λargs H n κ ⟨cs,y,E,hn9,l,G,hR,I⟩ φ J L vs K M c N=>by
 obtain⟨φ1,l1,P,T⟩:=l φ J L _ M c;obtain⟨s1,s3⟩:=h cs y hR;refine dz (S:=[]) (O:=[]) (args0:=cs) (κ:=λv2 H2 n2=>∃p,F y/\v2=aA p/\n2=n+1/\H2=E.set (some (.sep (B.Q y p))) aa n) k.m D P ⟨q4x,rfl,λi s o r _=>by simp at r⟩ (by rw[kN s1];exact T) ?_ (Q:=λv' v m=>∃p,F y/\v'=aA p/\m=1/\v=mkH [(0,.sep (B.Q y p))]) ?_ λu v n' hq=>?_
 ·intro V v2 H2 n2 u g W hg Y ⟨p,f0,f1,f2,f4⟩;subst f1 f2 f4;exact N V _ _ _ u g (l1.trans W) hg Y (I f0 p)
 ·refine⟨R3 B F y,s3,λu v n' ⟨p,b,Z,g2,g3⟩=>⟨aA p,mkH [(0,.sep (B.Q y p))],1,λV J L w M Y=>?_,p,g3,rfl,rfl,rfl⟩⟩;subst Z
  obtain⟨ψ,r,d,h3⟩:=Cov.ofR (m:=1) (p:=0) (n:=n') (σ:=PM.nil) (H:=v) (le:=[]) (lh:=[(0,.sep (B.Q y p))]) (λ_=>b) (Z9 _) (λb hb=>absurd hb (q0o b)) (λx j=>by cases j) (λx j=>by
   rw[q3v]at j;subst j;exact⟨Nat.one_pos,.inl ⟨_,g2,ak.sep _⟩⟩) (λx j z A _=>by
   rw[q3v]at j A;subst j A;rfl) V J L (λ_=>Go.undef) M (λt a e=>by cases e)
  exact⟨ψ,r,d,Y⟩
 ·obtain⟨p,g0,Z,g2,g3⟩:=hq;subst Z g2 g3;refine⟨1,E.set (some (.sep (B.Q y p))) aa n,Z9 _,λz o A=>?_,rfl,p,g0,rfl,rfl,rfl⟩;rcases PM.an aa E n z o A with⟨rfl,d⟩|⟨r,d⟩
  ·injection d with d;subst d;exact .inl ⟨0,_,Nat.one_pos,rfl,rfl,rfl,rfl,rfl⟩
  ·refine .inr ⟨?_,d,λq=>by cases q⟩;show z<n∨n+1<=z;omega
theorem Yf {X C:Type} {F:FuncId->EP} (b:aS F) (d:Nat) {f:FuncId} (a:bR Tryz.prog f=true) (B:Obj X C) {G:X->Prop} {R:List AV->X->Prop}
 (h:∀cs y,R cs y->cs.all gj=true/\ax F d f cs .nil 0 (R3 B G y)):al f (I7 B G R):=Ye (ay b d f) a B h
def Tb{X C:Type}(B:Obj X C)(run:List AV->AH->Nat->PK->Prop)(args:List AV)(H:AH)(n:Nat)(κ:PK):Prop:=∃b p x,H.get b=some (.sep (B.Q x p))/\((∃c,B.ok x c)->run args H n κ)
theorem al.kn{X C:Type}{f:FuncId}{run:List AV->AH->Nat->PK->Prop}(d:al f run)(B:Obj X C):al f (Tb B run):=λargs H n i ⟨b,p,x,j,h⟩ k l m o K g a q=>by
 have e:∃c,B.ok x c:=by
  obtain⟨c,r,_⟩:=(g.sep b _ j).1;exact⟨c,r⟩
 exact d args H n i (h e) k l m o K g a q
theorem Lm{l:List Lab}{i o:Nat}(h:i<l.length)(ho:o=i*2+1):nth (cM l) o=some (.ss l[i].2):=by
 subst ho;rw[eu]
 induction l generalizing i with
 |nil=>cases h
 |cons y l a=>
  cases i with
  |zero=>rfl
  |succ i=>
   show(AV.ss y.1::AV.ss y.2::cM l)[(i+1)*2+1]?=_;rw[show(i+1)*2+1=i*2+1+1+1 by omega,q1o,q1o];exact a (i:=i) (Nat.lt_of_succ_lt_succ h)
def oe(l:List Lab):Bool:=l.all λy=>decide (y.1.length<=100)&&decide (y.2.length<=100)
def fD(o:Oq):Bool:=decide (o.key.length<=100)&&(decide (o.lab.length<=12)&&(decide (o.r.src.length<=100)&&(decide (o.r.dst.length<=100)&&oe o.lab)))
def Yg(cs:List AV)(v:AV):Prop:=∃o:Oq,cs=[.agg (opC o)]/\v= .sb (fD o)
def kLi:FuncId->EP:=aX 10 [] evP
theorem VG:aS kLi:=au az (by kernel_rfl) (by kernel_rfl)
def liL (o:Oq) (i:Nat):AE×AH:=(mkE [(1,.ptr 0 (0)),(2,.sb (false)),(3,.si .i64 (i))],mkH [(0,.cells (opC o) true)])
theorem I8{o:Oq}{i:Nat}{p n:Nat}{σ:AE}{H:AH}(a:p<=0)(b:ai (pa 1) σ= .ptr 0 (0))(c:mk (ai (pa 2) σ)= .sb (false))(d:mk (ai (pa 3) σ)= .si .i64 (i))(e:H.get 0=some (.cells (opC o) true)):Cov p σ H n ((liL o i).1,(liL o i).2,1):=
 Cov.ofA (q0d a (by decide)) ⟨.ptr (by decide) b,.bool c,.int d,trivial⟩ ⟨.inl ⟨_,e,ak.refl rfl⟩,trivial⟩ rfl
theorem Ln(o:Oq):ax kLi 3 10 [.agg (opC o)] .nil 0 (cY (.sb (fD o))):=by
 have n:((100:Int)<(o.key.length:Int))->AV.sb false=AV.sb (fD o):=λz=>by unfold fD;rw[decide_eq_false (show¬o.key.length<=100 by omega)];rfl
 have p:((12:Int)<(o.lab.length:Int))->AV.sb false=AV.sb (fD o):=λz=>by unfold fD;rw[decide_eq_false (show¬o.lab.length<=12 by omega)];simp
 have s:((100:Int)<(o.r.src.length:Int))->AV.sb false=AV.sb (fD o):=λz=>by unfold fD;rw[decide_eq_false (show¬o.r.src.length<=100 by omega)];simp
 have t:((100:Int)<(o.r.dst.length:Int))->AV.sb false=AV.sb (fD o):=λz=>by unfold fD;rw[decide_eq_false (show¬o.r.dst.length<=100 by omega)];simp
 conv=>whnf
 refine ag.dec (λe=>?_) (λe=>?_)
 focus
  have r:=n e
  conv=>whnf
  exact cY.told r
 conv=>whnf
 refine ag.dec (λz2=>?_) (λz2=>?_)
 focus
  have r:=p z2
  conv=>whnf
  exact cY.told r
 conv=>whnf
 refine ag.dec (λf=>?_) (λf=>?_)
 focus
  have r:=s f
  conv=>whnf
  exact cY.told r
 conv=>whnf
 refine ag.dec (λg=>?_) (λg=>?_)
 focus
  have r:=t g
  conv=>whnf
  exact cY.told r
 have e:o.key.length<=100:=by have h:¬((100:Int)<(o.key.length:Int)):=e;omega
 have z2:o.lab.length<=12:=by have h:¬((12:Int)<(o.lab.length:Int)):=z2;omega
 have f:o.r.src.length<=100:=by have h:¬((100:Int)<(o.r.src.length:Int)):=f;omega
 have g:o.r.dst.length<=100:=by have h:¬((100:Int)<(o.r.dst.length:Int)):=g;omega
 have u:fD o=oe o.lab:=by unfold fD;rw[decide_eq_true e,decide_eq_true z2,decide_eq_true f,decide_eq_true g];rfl
 rw[u]
 conv=>whnf
 refine aN.mk {i:Nat//i<=o.lab.length/\oe (o.lab.take i)=true} 1 (λi=>liL o i.val) (λi=>o.lab.length-i.val) ⟨0,Z9 _,rfl⟩ ?_ ?_
 ·exact I8 (i:=0) (Z9 _) rfl rfl rfl rfl
 intro⟨i,m,d⟩;have m:i<=o.lab.length:=m;have d:oe (o.lab.take i)=true:=d;have v:IntKind.i64.wrap ((i:Int)+1)=((i+1:Nat):Int):=by rw[aj (by omega) (by omega)];omega
 conv=>whnf
 refine ag.dec (λh=>?_) (λh=>?_)
 ·have c:i<o.lab.length:=q0v.1 h;have j:o.lab.length-(i+1)<o.lab.length-i:=by omega
  have hd:o.lab=o.lab.take i++o.lab[i]::o.lab.drop (i+1):=by rw[<-q0t c,q1q]
  have no:(decide (o.lab[i].1.length<=100)&&decide (o.lab[i].2.length<=100))=false->AV.sb false=AV.sb (oe o.lab):=λq=>by
   have:oe o.lab=false:=by
    unfold oe;rw[List.all_eq_false];exact⟨o.lab[i],q0k c,by rw[q];simp⟩
   rw[this]
  have w:((100:Int)<(o.lab[i].1.length:Int))->AV.sb false=AV.sb (oe o.lab):=λz=>no (by rw[decide_eq_false (show¬o.lab[i].1.length<=100 by omega)];rfl)
  have x:((100:Int)<(o.lab[i].2.length:Int))->AV.sb false=AV.sb (oe o.lab):=λz=>no (by rw[decide_eq_false (show¬o.lab[i].2.length<=100 by omega)];simp)
  have yes:¬((100:Int)<(o.lab[i].1.length:Int))->¬((100:Int)<(o.lab[i].2.length:Int))->oe (o.lab.take (i+1))=true:=λa b=>by
   rw[q0c c];unfold oe at d⊢;rw[List.all_append,d];simp only[q2c,List.all_nil,Bool.and_true,Bool.true_and,Z8,decide_eq_true_eq];omega
  conv=>whnf
  refine Idx.mk i rfl c ?_
  conv=>whnf
  refine aq (xL c rfl) ?_
  conv=>whnf
  refine ag.dec (λk=>?_) (λk=>?_)
  ·have r:=w k
   conv=>whnf
   exact cY.told r
  conv=>whnf
  refine Idx.mk i rfl c ?_
  conv=>whnf
  refine aq (Lm c rfl) ?_
  conv=>whnf
  refine ag.dec (λl=>?_) (λl=>?_)
  ·have r:=x l
   conv=>whnf
   exact cY.told r
  have y:=yes k l
  conv=>whnf
  exact⟨⟨i+1,c,y⟩,j,I8 (Z9 _) rfl rfl (congrArg (AV.si .i64) v) rfl⟩
 have r:AV.sb true=AV.sb (oe o.lab):=by
  have A:i=o.lab.length:=by have h:¬(i:Int)<(o.lab.length:Int):=h;omega
  rw[A,q0u]at d;rw[d]
 conv=>whnf
 exact cY.told r
theorem R4:al 10 (bV Yg):=kh VG 3 (by kernel_rfl) λcs v ⟨o,a,b⟩=>by
 subst a b;exact⟨rfl,rfl,Ln o⟩
def doF (X:SpV) (o:Oq):SpV×Int×Int:=
 if o.kind=0 then((jY X o.key o.t o.v o.p).1,0,(jY X o.key o.t o.v o.p).2)else if o.kind=1 then sZ X o.key o.t o.v else if o.kind=2 then sY X o.key o.t o.v else if o.kind=3 then((crF X o.key o.z o.ret o.pol o.lab).1,0,(crF X o.key o.z o.ret o.pol o.lab).2)else if o.kind=4 then((uX X o.key o.ret o.pol o.lab).1,0,(uX X o.key o.ret o.pol o.lab).2)
 else if o.kind=5 then(dt X o.key,if(X.K o.key).isSome=true then 1 else 0,0)else if o.kind=6 then((lkF X o.r).1,0,(lkF X o.r).2)else((ua X o.r.src o.r.dst).1,0,(ua X o.r.src o.r.dst).2)
def Yh(X:SpV)(cs:List AV)(a:SpV)(v:AV):Prop:=∃o Y,cs=[.agg (opC o)]/\o.In/\o.lab.length<=1000/\X.n<1000/\Links X/\Bnd X 5000/\doF X o=Y/\a=Y.1/\v= .tup [.si .i64 Y.2.1,.si .i64 Y.2.2]
def kDo:FuncId->EP:=ao 49 (cK 5 SpB Vn) (ao 48 (cK 5 SpB Vs) (ao 27 (cK 5 SpB OV) (ao 47 (cK 5 SpB Xv) (ao 46 (cK 5 SpB RA) (ao 44 (cK 5 SpB BP) (ao 19 (cK 5 SpB O1) (ao 32 (cK 5 SpB qb) evP)))))))
theorem VH:aS kDo:=ab (ab (ab (ab (ab (ab (ab (ab az IT) Eu) IZ) yg) Lb) yf) Es) ye
theorem VI(X:SpV)(o:Oq)(p:Nat×Nat)(s:o.In)(i:o.lab.length<=1000)(hn:X.n<1000)(w:Links X)(l:Bnd X 5000){Y:SpV×Int×Int}(J:doF X o=Y):ax kDo 6 11 [aA p,.agg (opC o)] (mkH [(0,.sep (SpB.Q X p))]) 1 (EB SpB Y.1 p (.tup [.si .i64 Y.2.1,.si .i64 Y.2.2])):=by
 have j:Bnd X 20000:=λk e x=>q0d (l k e x) (by decide)
 have A:Bnd X 40000:=λk e x=>q0d (l k e x) (by decide)
 have fin:∀(W:SpV×Int×Int),doF X o=W->∀u H n,mkT u=mkT (.tup [.si .i64 W.2.1,.si .i64 W.2.2])->H.get 0=some (.sep (SpB.Q W.1 p))->EB SpB Y.1 p (.tup [.si .i64 Y.2.1,.si .i64 Y.2.2]) u H n:=λW M u H n N O=>by
  rw[<-J,M];exact EB.told N O
 have P:o.kind=0->doF X o=((jY X o.key o.t o.v o.p).1,0,(jY X o.key o.t o.v o.p).2):=λh=>if_pos h
 have R:o.kind=1->doF X o=sZ X o.key o.t o.v:=λh=>by unfold doF;rw[if_neg (by omega),if_pos h]
 have S:o.kind=2->doF X o=sY X o.key o.t o.v:=λh=>by unfold doF;rw[if_neg (by omega),if_neg (by omega),if_pos h]
 have T:o.kind=3->doF X o=((crF X o.key o.z o.ret o.pol o.lab).1,0,(crF X o.key o.z o.ret o.pol o.lab).2):=λh=>by unfold doF;rw[if_neg (by omega),if_neg (by omega),if_neg (by omega),if_pos h]
 have U:o.kind=4->doF X o=((uX X o.key o.ret o.pol o.lab).1,0,(uX X o.key o.ret o.pol o.lab).2):=λh=>by unfold doF;rw[if_neg (by omega),if_neg (by omega),if_neg (by omega),if_neg (by omega),if_pos h]
 have L:o.kind=5->doF X o=(dt X o.key,if(X.K o.key).isSome=true then 1 else 0,0):=λh=>by unfold doF;rw[if_neg (by omega),if_neg (by omega),if_neg (by omega),if_neg (by omega),if_neg (by omega),if_pos h]
 have B:(X.K o.key).isSome=true->o.kind=5->doF X o=(dt X o.key,1,0):=λq h=>by rw[L h,if_pos q]
 have C:(X.K o.key).isSome=false->o.kind=5->doF X o=(dt X o.key,0,0):=λq h=>by rw[L h,q];rfl
 have V:o.kind=6->doF X o=((lkF X o.r).1,0,(lkF X o.r).2):=λh=>by unfold doF;rw[if_neg (by omega),if_neg (by omega),if_neg (by omega),if_neg (by omega),if_neg (by omega),if_neg (by omega),if_pos h]
 have Z:¬o.kind=0->¬o.kind=1->¬o.kind=2->¬o.kind=3->¬o.kind=4->¬o.kind=5->¬o.kind=6->doF X o=((ua X o.r.src o.r.dst).1,0,(ua X o.r.src o.r.dst).2):=λa b c d e f g=>by unfold doF;rw[if_neg a,if_neg b,if_neg c,if_neg d,if_neg e,if_neg f,if_neg g]
 clear J
 conv=>whnf
 refine ag.dec (λD=>?_) (λD=>?_)
 focus
  conv=>whnf
  refine⟨0,p,X,[.ss o.key,.agg [.si .i64 o.t,.si .i64 o.v],.si .i64 o.p],(jY X o.key o.t o.v o.p).1,.si .i64 (jY X o.key o.t o.v o.p).2,_,rfl,by decide,by decide,.cons .same (.cons .same (.cons .same .nil)),rfl,rfl,⟨o.key,o.t,o.v,o.p,jY X o.key o.t o.v o.p,rfl,s.v,w,j,rfl,rfl,rfl⟩,?_⟩
  conv=>whnf
  exact fin _ (P D) _ _ _ rfl rfl
 conv=>whnf
 refine ag.dec (λE=>?_) (λE=>?_)
 focus
  conv=>whnf
  refine⟨0,p,X,[.ss o.key,.si .i64 o.t,.si .i64 o.v],(sZ X o.key o.t o.v).1,.tup [.si .i64 (sZ X o.key o.t o.v).2.1,.si .i64 (sZ X o.key o.t o.v).2.2],_,rfl,by decide,by decide,.cons .same (.cons .same (.cons .same .nil)),rfl,rfl,⟨o.key,o.t,o.v,sZ X o.key o.t o.v,rfl,w,j,rfl,rfl,rfl⟩,?_⟩
  conv=>whnf
  exact fin _ (R E) _ _ _ rfl rfl
 conv=>whnf
 refine ag.dec (λz2=>?_) (λz2=>?_)
 focus
  conv=>whnf
  refine⟨0,p,X,[.ss o.key,.si .i64 o.t,.si .i64 o.v],(sY X o.key o.t o.v).1,.tup [.si .i64 (sY X o.key o.t o.v).2.1,.si .i64 (sY X o.key o.t o.v).2.2],_,rfl,by decide,by decide,.cons .same (.cons .same (.cons .same .nil)),rfl,rfl,⟨o.key,o.t,o.v,sY X o.key o.t o.v,rfl,w,l,rfl,rfl,rfl⟩,?_⟩
  conv=>whnf
  exact fin _ (S z2) _ _ _ rfl rfl
 conv=>whnf
 refine ag.dec (λF=>?_) (λF=>?_)
 focus
  conv=>whnf
  refine⟨0,p,X,[.ss o.key,GB o.z o.ret o.pol o.lab],(crF X o.key o.z o.ret o.pol o.lab).1,.si .i64 (crF X o.key o.z o.ret o.pol o.lab).2,_,rfl,by decide,by decide,.cons .same (.cons .same .nil),rfl,rfl,⟨o.key,o.z,o.ret,o.pol,o.lab,crF X o.key o.z o.ret o.pol o.lab,rfl,i,hn,rfl,rfl,rfl⟩,?_⟩
  conv=>whnf
  exact fin _ (T F) _ _ _ rfl rfl
 conv=>whnf
 refine ag.dec (λG=>?_) (λG=>?_)
 focus
  conv=>whnf
  refine⟨0,p,X,[.ss o.key,.si .i64 o.ret,.si .i64 o.pol,gL o.lab],(uX X o.key o.ret o.pol o.lab).1,.si .i64 (uX X o.key o.ret o.pol o.lab).2,_,rfl,by decide,by decide,.cons .same (.cons .same (.cons .same (.cons .same .nil))),rfl,rfl,⟨o.key,o.ret,o.pol,o.lab,uX X o.key o.ret o.pol o.lab,rfl,i,hn,A,rfl,rfl,rfl⟩,?_⟩
  conv=>whnf
  exact fin _ (U G) _ _ _ rfl rfl
 conv=>whnf
 refine ag.dec (λm=>?_) (λm=>?_)
 focus
  conv=>whnf
  refine⟨0,p,X,[.ss o.key],dt X o.key,.sb (X.K o.key).isSome,_,rfl,by decide,by decide,.cons .same .nil,rfl,rfl,⟨o.key,rfl,rfl,rfl⟩,?_⟩
  conv=>whnf
  refine ag.sb (λy=>?_) (λy=>?_)
  focus
   have e:=B y m
   conv=>whnf
   exact fin _ e _ _ _ rfl rfl
  have e:=C y m
  conv=>whnf
  exact fin _ e _ _ _ rfl rfl
 conv=>whnf
 refine ag.dec (λI=>?_) (λI=>?_)
 focus
  conv=>whnf
  refine⟨0,p,X,[gR o.r],(lkF X o.r).1,.si .i64 (lkF X o.r).2,_,rfl,by decide,by decide,.cons .same .nil,rfl,rfl,⟨o.r,lkF X o.r,rfl,hn,l,rfl,rfl,rfl⟩,?_⟩
  conv=>whnf
  exact fin _ (V I) _ _ _ rfl rfl
 conv=>whnf
 refine⟨0,p,X,[.ss o.r.src,.ss o.r.dst],(ua X o.r.src o.r.dst).1,.si .i64 (ua X o.r.src o.r.dst).2,_,rfl,by decide,by decide,.cons .same (.cons .same .nil),rfl,rfl,⟨o.r.src,o.r.dst,ua X o.r.src o.r.dst,rfl,rfl,rfl,rfl⟩,?_⟩
 conv=>whnf
 exact fin _ (Z D E z2 F G m I) _ _ _ rfl rfl
theorem Y8:al 11 (EA SpB Yh):=Yd VH 6 (by kernel_rfl) SpB λX cs j v p k ⟨o,Y,a,b,c,d,e,f,g,h,i⟩=>by
 subst a h i;exact⟨rfl,rfl,VI X o p b c d e f g⟩
theorem Inv.doo{X:SpV}{b:Nat}{c:SpC}(h:Inv X b)(a:bA X c)(o:Oq):Inv (doF X o).1 (b+2):=by
 unfold doF;split
 ·exact h.add a _ _ _ _
 ·split
  ·exact h.inc a _ _ _
  ·split
   ·exact(h.del a _ _ _).mono (q1c b 2)
   ·split
    ·exact h.create _ _ _ _ _
    ·split
     ·exact h.alter _ _ _ _
     ·split
      ·exact(h.drop a _).mono (q1c b 2)
      ·split
       ·exact h.link a _
       ·exact(h.unl _ _).mono (q1c b 2)
def og(o:Oq):Bool:=fD o&&(decide (0<=o.kind)&&decide (o.kind<=7))
def EC (X:SpV) (o:Oq):SpV:=if og o=true then(doF X o).1 else X
def ym (S:List Oq):SpV:=S.foldl EC lE
theorem Lo{S:List Oq}{i:Nat}(h:i<S.length):ym (S.take (i+1))=EC (ym (S.take i)) S[i]:=by
 unfold ym;rw[q0c h,q3b];rfl
theorem Lp{o:Oq}(h:fD o=true):o.lab.length<=12:=by
 unfold fD at h;simp only[Z8,decide_eq_true_eq]at h;exact h.2.1
theorem R5{S:List Oq}{i o j:Nat}{v:AV}(h:i<S.length)(ho:o=i*14+j)(a:(opC S[i])[j]?=some v):nth (oqC S) o=some v:=by
 subst ho;have c:=(bt (I4 h rfl)).2;have b:j<14:=(q0e.1 a).1;rw[eu];rw[c,List.getElem?_take_of_lt b,q3c]at a;exact a
def Lq (S:List Oq):SpV:=ym (S.take 50)
def Yi(cs:List AV)(X:SpV):Prop:=∃S:List Oq,cs=[.fr S.length 14 (oqC S)]/\(∀o∈S,o.In)/\S.length<=8796093022208/\X=Lq S
def kBd:FuncId->EP:=aX 15 [] (ao 9 (sJ 5 SpB λcs y=>cs=[]/\y=lE) (ao 10 (bV Yg) (ao 11 (EA SpB Yh) evP)))
theorem VJ:aS kBd:=au (ab (ab (ab az Y8) R4) I0) (by kernel_rfl) (by kernel_rfl)
def bdL (S:List Oq) (X:SpV) (q:Nat×Nat) (i:Nat):AE×AH:=(mkE [(0,.fr S.length 14 (oqC S)),(3,aA q),(4,.si .i64 (i))],mkH [(0,.sep (SpB.Q X q))])
theorem s8{S:List Oq}{X:SpV}{q:Nat×Nat}{i:Nat}{p n:Nat}{σ:AE}{H:AH}(a:p<=0)(e0:ai (pa 0) σ= .fr S.length 14 (oqC S))(b:ai (pa 3) σ=aA q)(c:mk (ai (pa 4) σ)= .si .i64 (i))(d:H.get 0=some (.sep (SpB.Q X q))):Cov p σ H n ((bdL S X q i).1,(bdL S X q i).2,1):=
 Cov.ofA (q0d a (by decide)) ⟨ae.frE e0,ae.aA b,.int c,trivial⟩ ⟨.inl ⟨_,d,ak.sep _⟩,trivial⟩ rfl
theorem Pm(S:List Oq)(B:∀o∈S,o.In)(T:S.length<=8796093022208):ax kBd 5 15 [.fr S.length 14 (oqC S)] .nil 0 (R3 SpB (λX=>Inv X 100) (Lq S)):=by
 conv=>whnf
 refine⟨[],lE,_,by decide,.nil,rfl,⟨rfl,rfl⟩,λq=>?_⟩
 conv=>whnf
 refine aN.mk {w:Nat×SpV//w.1<=S.length/\w.1<=50/\w.2=ym (S.take w.1)/\Inv w.2 (2*w.1)} 1 (λw=>bdL S w.val.2 q w.val.1) (λw=>S.length-w.val.1) ⟨(0,lE),Z9 _,Z9 _,rfl,Inv.no⟩ ?_ ?_
 ·exact s8 (i:=0) (X:=lE) (q:=q) (Z9 _) rfl rfl rfl rfl
 intro⟨(i,X),G,p,m,f⟩;have G:i<=S.length:=G;have p:i<=50:=p;have m:X=ym (S.take i):=m;have f:Inv X (2*i):=f;have v:IntKind.i64.wrap ((i:Int)+1)=((i+1:Nat):Int):=by rw[aj (by omega) (by omega)];omega
 have sT:¬((i:Int)<(S.length:Int))->Lq S=X:=λh=>by
  have:i=S.length:=by omega
  unfold Lq;rw[m,q1t (by omega),q1t (by omega)]
 have s:¬((i:Int)<50)->Lq S=X:=λh=>by
  have:i=50:=by omega
  rw[m,this];rfl
 conv=>whnf
 refine ag.dec (λC=>?_) (λC=>?_)
 focus
  conv=>whnf
  refine ag.dec (λD=>?_) (λD=>?_)
  focus
   have d:i<S.length:=q0v.1 C;have I:i<50:=by have h:(i:Int)<50:=D;omega
   have t:S.length-(i+1)<S.length-i:=by omega
   have u:=B S[i] (q0k d);obtain⟨o,ho⟩:∃o,o=S[i]:=⟨_,rfl⟩;have g:bl (oqC S) (i*14) 14=some (opC o):=by rw[ho];exact I4 d rfl
   have J:nth (oqC S) (i*14)=some (.si .i64 o.kind):=by rw[ho];exact R5 (j:=0) d rfl rfl
   rw[<-ho]at u;have K:ym (S.take (i+1))=EC X o:=by rw[Lo d,<-m,<-ho]
   have no:og o=false->ym (S.take (i+1))=X:=λq=>by rw[K];unfold EC;rw[q];rfl
   have yes:og o=true->ym (S.take (i+1))=(doF X o).1:=λq=>by rw[K];unfold EC;rw[if_pos q]
   have M:fD o=false->og o=false:=λq=>by unfold og;rw[q];rfl
   have N:¬(0<=o.kind)->og o=false:=λq=>by unfold og;rw[decide_eq_false q];simp
   have O:¬(o.kind<=7)->og o=false:=λq=>by unfold og;rw[decide_eq_false q];simp
   have P:fD o=true->0<=o.kind->o.kind<=7->og o=true:=λa b c=>by unfold og;rw[a,decide_eq_true b,decide_eq_true c];rfl
   have fin:og o=false->∀l H n,Cov 0 l H n ((bdL S X q (i+1)).1,(bdL S X q (i+1)).2,1)->∃w:{w:Nat×SpV//w.1<=S.length/\w.1<=50/\w.2=ym (S.take w.1)/\Inv w.2 (2*w.1)},S.length-w.val.1<S.length-i/\Cov 0 l H n ((bdL S w.val.2 q w.val.1).1,(bdL S w.val.2 q w.val.1).2,1):=λz l H n x=>⟨⟨(i+1,X),d,I,(no z).symm,f.mono (by omega)⟩,t,x⟩
   clear m
   conv=>whnf
   refine Idx.mk i rfl d ?_
   conv=>whnf
   refine aq g ?_
   conv=>whnf
   refine⟨[.agg (opC o)],.sb (fD o),_,.cons .same .nil,⟨o,rfl,rfl⟩,?_⟩
   conv=>whnf
   refine ag.sb (λA=>?_) (λA=>?_)
   focus
    conv=>whnf
    refine Idx.mk i rfl d ?_
    conv=>whnf
    refine aq J ?_
    conv=>whnf
    refine ag.dec (λz2=>?_) (λz2=>?_)
    focus
     conv=>whnf
     refine Idx.mk i rfl d ?_
     conv=>whnf
     refine aq J ?_
     conv=>whnf
     refine ag.dec (λE=>?_) (λE=>?_)
     focus
      have e:=yes (P A z2 E);have L:=Lp A
      conv=>whnf
      refine Idx.mk i rfl d ?_
      conv=>whnf
      refine aq g ?_
      conv=>whnf
      refine⟨0,q,X,[.agg (opC o)],(doF X o).1,_,_,rfl,by decide,by decide,.cons .same .nil,rfl,λ⟨c,x⟩=>⟨⟨o,doF X o,rfl,u,by omega,by have:=f.n;omega,f.links,λk y Q=>q0d (f.bnd x k y Q) (by omega),rfl,rfl,rfl⟩,?_⟩⟩;have R:∀l H n,Cov 0 l H n ((bdL S (doF X o).1 q (i+1)).1,(bdL S (doF X o).1 q (i+1)).2,1)->∃w:{w:Nat×SpV//w.1<=S.length/\w.1<=50/\w.2=ym (S.take w.1)/\Inv w.2 (2*w.1)},S.length-w.val.1<S.length-i/\Cov 0 l H n ((bdL S w.val.2 q w.val.1).1,(bdL S w.val.2 q w.val.1).2,1):=λl H n F=>⟨⟨(i+1,(doF X o).1),d,I,e.symm,f.doo x o⟩,t,F⟩
      conv=>whnf
      exact R _ _ _ (s8 (X:=(doF X o).1) (q:=q) (Z9 _) rfl rfl (congrArg (AV.si .i64) v) rfl)
     have r:=O E
     conv=>whnf
     exact fin r _ _ _ (s8 (X:=X) (q:=q) (Z9 _) rfl rfl (congrArg (AV.si .i64) v) rfl)
    have r:=N z2
    conv=>whnf
    exact fin r _ _ _ (s8 (X:=X) (q:=q) (Z9 _) rfl rfl (congrArg (AV.si .i64) v) rfl)
   have r:=M A
   conv=>whnf
   exact fin r _ _ _ (s8 (X:=X) (q:=q) (Z9 _) rfl rfl (congrArg (AV.si .i64) v) rfl)
  have e:=s D;rw[e]
  conv=>whnf
  exact⟨q,0,rfl,rfl,f.mono (by omega)⟩
 have e:=sT C;rw[e]
 conv=>whnf
 exact⟨q,0,rfl,rfl,f.mono (by omega)⟩
theorem VK:al 15 (I7 SpB (λX=>Inv X 100) Yi):=Yf VJ 5 (by kernel_rfl) SpB λcs X ⟨S,a,b,c,d⟩=>by
 subst a d;exact⟨rfl,Pm S b c⟩
def Y9 (i:Nat) (c:Code):Array Oper:=Code.rec (motive:=λ_=>Array Oper)
 #[]
 (λid ops _=>bif Nat.beq id i then ops else #[])
 (λ_ _ a b=>bif Nat.beq a.size 0 then b else a)
 (λ_ _ _ a b=>bif Nat.beq a.size 0 then b else a)
 (λ_ _ b=>b)
 (λ_ b=>b)
 (λ_ _ _ _ _ _=> #[])
 (λ_=> #[])
 (λ_ b=>b)
 (λ_=> #[]) (λ_=> #[]) #[] (λ_=> #[]) c
def upF(f:Nat->Bool)(i:Nat):Nat->Bool:=λj=>if j=i then true else f j
theorem R6{l:Array Bool}{i:Nat}(h:i<l.size):(λj=>(l.setIfInBounds i true).getD j false)=upF (λj=>l.getD j false) i:=funext λj=>k9 h
def cpV (b:Bool) (v:AV):AV:=bif b then v else .bad
def cpO (b:Bool) (o:AO):AO:=bif b then o else .cells [] false
theorem jt{p:Nat}{σ:AE}{H:AH}{n:Nat}:Cov p σ H n (σ,H,n):=λa _ _ _ b c=>⟨a,⟨λ_ _ _ h=>h,λ_ h=>h,λ_ h=>h⟩,b,c⟩
theorem e0{H:AH}{m:Nat}{r:Nat->Nat}{a v:AV}(e:a=v:=by rfl)(hv:ltV 0 v=true:=by rfl):ae H m r a v:=ae.c6 (k:=0) e hv (Z9 _) λx b=>absurd b (q0o x)
def GK(j:Nat):List Nat->Bool
 | []=>false
 |x::l=>bif Nat.beq j x then true else GK j l
theorem yn{j:Nat}:∀{l:List Nat},GK j l=true->j∈l
 |x::l,h=>by
  unfold GK at h;cases e:Nat.beq j x with
  |true=>rw[q0n e];exact q0i
  |false=>rw[e]at h;exact q0f _ (yn h)
def stF(f:Nat->Bool)(T F:List Nat):Nat->Bool:=λj=>bif GK j F then false else bif GK j T then true else f j
theorem VL{f:Nat->Bool}{T F:List Nat}(a:∀j∈T,f j=true)(b:∀j∈F,f j=false):stF f T F=f:=funext λj=>by
 unfold stF;cases e:GK j F with
 |true=>exact(b j (yn e)).symm
 |false=>
  cases c:GK j T with
  |true=>exact(a j (yn c)).symm
  |false=>rfl
def rcE(ops:Array Oper):Nat->Nat->Nat->Bool
 |0,_,_=>false
 |k+1,j,i=>match ops[i]? with
  |some o=>o.after.any λe=>Region.binds .any e&&(Nat.beq e.on j||rcE ops k j e.on)
  |none=>false
theorem Pn{ops:Array Oper}{l:Array Bool}(hd:Down ops l){j:Nat}:∀(k i:Nat),(∀o,ops[i]?=some o->∀e∈o.after,Region.binds .any e=true->l.getD e.on false=true)->rcE ops k j i=true->l.getD j false=true
 |k+1,i,d,h=>by
  unfold rcE at h;split at h
  ·rename_i o ho;obtain⟨e,f,a⟩:=Array.any_eq_true'.1 h;simp only[Z8,q1m]at a;rcases a.2 with b|b
   ·rw[<-q0n b];exact d o ho e f a.1
   ·exact Pn hd k e.on (λg c=>hd e.on g c (d o ho e f a.1)) b
  ·cases h
theorem Yj{ops:Array Oper}{l:Array Bool}(hd:Down ops l){i j k:Nat}(h:rcE ops k i j=true)(a:l.getD i false=false):l.getD j false=false:=by
 cases b:l.getD j false with
 |false=>rfl
 |true=>rw[<-a];exact(Pn hd k j (λo ho=>hd j o ho b) h).symm
def allI{a:Type}(P:Nat->a->Prop):Nat->List a->Prop
 |_,[]=>True
 |i,x::l=>P i x/\allI P (i+1) l
theorem I9{a:Type}{P:Nat->a->Prop}:∀{l:List a} {i j:Nat} {x:a},allI P i l->l[j]?=some x->P (i+j) x
 |y::l,i,0,x,h,e=>by injection e with e;exact e▸h.1
 |y::l,i,j+1,x,h,e=>by rw[q4y j 1,<-q1s];exact I9 h.2 (q1o▸e)
def VM(ops:Array Oper):Nat->List (List Nat×List Nat×Option Nat)->Bool
 |_,[]=>true
 |i,x::l=>(x.1.all (λj=>rcE ops 6 j i)&&x.2.1.all (λj=>Nat.beq j i||rcE ops 6 i j))&&VM ops (i+1) l
theorem Ja{ops:Array Oper}:∀{l:List (List Nat×List Nat×Option Nat)} {i j:Nat} {x},VM ops i l=true->l[j]?=some x->(x.1.all (λy=>rcE ops 6 y (i+j))&&x.2.1.all (λy=>Nat.beq y (i+j)||rcE ops 6 (i+j) y))=true
 |y::l,i,0,x,h,e=>by injection e with e;exact e▸((Z8 _ _).mp h).1
 |y::l,i,j+1,x,h,e=>by rw[q4y j 1,<-q1s];exact Ja ((Z8 _ _).mp h).2 (q1o▸e)
def flF(m:Nat)(l:Array Bool):Nat->Bool:=λj=>bif Nat.blt j m then l.getD j false else true
theorem Po{m:Nat}{l:Array Bool}{j:Nat}(h:j<m):flF m l j=l.getD j false:=by
 unfold flF;rw[show Nat.blt _ _=true from q0z h];rfl
def nF(m:Nat):Nat->Bool:=λj=>bif Nat.blt j m then false else true
theorem BS {p:Nat} {ops:Array Oper} {call:CP} {k:KP} (G:Type) (v:G) (E:(Nat->Bool)->G->AE) (M:(Nat->Bool)->G->AH) (N:(Nat->Bool)->G->Nat) (T:List (List Nat×List Nat×Option Nat)) (I:kq ops=true) (m:Nat) (J:VM ops 0 T=true) (K:T.length=m) (hn:ops.size=m)
 (h:allI (λi x=>match ops[i]? with
  |some o=>(match x.2.2 with
   |none=>∀f g,opP ops o call (E (stF f x.1 x.2.1) g) (M (stF f x.1 x.2.1) g) (N (stF f x.1 x.2.1) g) λσ H n=>∃s:AE×AH×Nat,Cov p σ H n s/\∃g,s.1=E (upF (stF f x.1 x.2.1) i) g/\s.2.1=M (upF (stF f x.1 x.2.1) i) g/\s.2.2=N (upF (stF f x.1 x.2.1) i) g
   |some n=>∀f g,N (stF f x.1 x.2.1) g=n/\opP ops o call (E (stF f x.1 x.2.1) g) (M (stF f x.1 x.2.1) g) n λσ H n=>∃s:AE×AH×Nat,Cov p σ H n s/\∃g,s.1=E (upF (stF f x.1 x.2.1) i) g/\s.2.1=M (upF (stF f x.1 x.2.1) i) g/\s.2.2=N (upF (stF f x.1 x.2.1) i) g)
  |none=>True) 0 T)
 (L:∀g,k (E (λ_=>true) g) (M (λ_=>true) g) (N (λ_=>true) g)):yW p ops call (E (nF m) v) (M (nF m) v) (N (nF m) v) k:=by
 subst K
 have w:flF T.length (Array.replicate ops.size false)=nF T.length:=funext λj=>by
  unfold flF nF;congr 1;simp[Array.getD]
 refine⟨I,λl σ H n=>∃g,σ=E (flF T.length l) g/\H=M (flF T.length l) g/\n=N (flF T.length l) g,⟨v,by rw[w],by rw[w],by rw[w]⟩,λl i o σ H n r hd ho B O ⟨g,y,z,A⟩=>?_,λl σ H n r u ⟨g,y,z,A⟩=>⟨_,jt,?_⟩⟩
 ·subst y z A;have b:i<T.length:=by rw[<-hn];exact(q0m.1 ho).1
  obtain⟨x,C⟩:∃x,T[i]?=some x:=⟨_,q0b b⟩;have c:=I9 h C;have d:=Ja J C;rw[q1g]at c d;simp only[ho]at c;rw[Z8,q0h,q0h]at d
  have P:∀j,l.getD j false=true->flF T.length l j=true:=λj t=>by
   unfold flF;rw[t];cases Nat.blt j T.length<;>rfl
  have D:∀j,l.getD j false=false->j<T.length->flF T.length l j=false:=λj t Q=>by rw[Po Q];exact t
  have R:∀{j k:Nat},rcE ops k i j=true->j<T.length:=λ{j k} e=>by
   cases k with
   |zero=>cases e
   |succ k=>
    unfold rcE at e;split at e
    ·rename_i S a;rw[<-hn];exact(q0m.1 a).1
    ·cases e
  have F:stF (flF T.length l) x.1 x.2.1=flF T.length l:=VL (λj t=>P j (Pn hd 6 i (λS a=>by rw[ho]at a;injection a with a;exact a▸O) (d.1 j t))) λj t=>by
   rcases(q1m _ _).mp (d.2 j t)with e|e
   ·rw[q0n e];exact D i B b
   ·exact D j (Yj hd e B) (R e)
  have U:flF T.length (l.setIfInBounds i true)=upF (flF T.length l) i:=funext λj=>by
   unfold flF upF;by_cases q:j=i
   ·rw[if_pos q,q,show Nat.blt _ _=true from q0z b];simp[Array.getD,r,hn,b]
   ·rw[if_neg q];congr 1;exact(congrFun (R6 (l:=l) (i:=i) (by rw[r,hn];exact b)) j).trans (if_neg q)
  (try simp only[U])
  obtain⟨W,X,V⟩:=x;cases V with
  |none=>
   have:=c (flF T.length l) g;rw[F]at this;exact this
  |some n=>
   have:=c (flF T.length l) g;rw[F]at this;rw[this.1];exact this.2
 ·subst y z A
  have:flF T.length l=λ_=>true:=funext λj=>by
   cases e:Nat.blt j T.length with
   |true=>rw[Po (Z0 e)];exact u j (by rw[hn];exact Z0 e)
   |false=>unfold flF;rw[e];rfl
  rw[this];exact L g
def flV (f:Nat->Bool) (s j:Nat) (l:List AV):List (Nat×AV):=List.rec (λ_=> []) (λv _ a j=>(s+j,cpV (f j) v)::a (j+1)) l j
theorem Jb{H:AH}{m:Nat}{r:Nat->Nat}{σ:AE}{f:Nat->Bool}{s:Nat}:∀{l:List AV} {j:Nat},(∀i,i<j+l.length->f i=false)->qQ (λx=>ae H m r (ai (pa x.1) σ) x.2) (flV f s j l)
 | [],_,_=>trivial
 |v::l,j,h=>⟨by
  show ae H m r _ (cpV (f j) v);rw[h j (by simp)];exact ae.bad _,Jb (l:=l) (j:=j+1) λi hi=>h i (by simp;omega)⟩
theorem qQ.app{c:Type}{P:c->Prop}:∀{a b:List c},qQ P a->qQ P b->qQ P (a++b)
 | [],_,_,h=>h
 |_::_,_,h,k=>⟨h.1,h.2.app k⟩
theorem Yk{m:Nat}(i:Nat)(h:i<m):nF m i=false:=by
 unfold nF;rw[show Nat.blt _ _=true from q0z h];rfl
theorem Cov.fl {p n m s k:Nat} {σ:AE} {H:AH} {B:List (Nat×AV)} {l:List AV} {lh:List (Nat×AO)} (a:p<=m) (c:qQ (λx=>ae H m (λb=>b) (ai (pa x.1) σ) x.2) B)
 (d:qQ (λx=>(∃o,H.get x.1=some o/\ak H m (λb=>b) o x.2)∨(x.2.void=true/\n<=x.1)) lh) (e:Fm m (lh.map Prod.fst)=true) (f:l.length=k:=by rfl):Cov p σ H n (mkE (B++flV (nF k) s 0 l),mkH lh,m):=
 Cov.ofA a (c.app (Jb λi g=>Yk i (by omega))) d e
theorem GL{p:Nat}{σ:AE}{H:AH}{n:Nat}(t:Nat){a b:Bool}(g:ai (pa t) σ= .sb a)(h:a=b):Cov p σ H n (cW σ (some t) (.bool b),H,n):=by
 subst h;refine λi k h c j e=>⟨i,⟨λ_ _ _ h=>h,λ_ h=>h,λ_ h=>h⟩,j,?_⟩
 have d:=e.at t;rw[g]at d;simp only[VR]at d;have f:=e.put (some t) (a:= .bool a) (v:=c t) (by simp only[VR];exact d)
 rw[show c.put (some t) (c t)=c from funext λx=>by
  by_cases q:x=t
  ·subst q;rw[mr,rv]
  ·rw[mr,Lv _ _ _ _ q]]at f
 exact f
def cp3:Array Oper:=match Tryz.prog.funcs[26]? with
 |some fn=>(match fn.body with
  |some c=>Y9 3 c
  |none=> #[])
 |none=> #[]
def cpE (c:SpC) (f:Nat->Bool) (p2 d:Nat×Nat):List (Nat×AV):=[(0,.ptr 0 0),(8,cpV (f 0) (.map 5)),(9,cpV (f 1) (.ptr 0 0)),(10,cpV (f 2) (.ptr 0 0)),(11,cpV (f 3) (.ptr 0 1)),(12,cpV (f 4) (aA c.px)),(13,cpV (f 5) (aA p2)),(14,cpV (f 6) (.ptr 0 0)),(15,cpV (f 7) (.ptr 0 0)),(16,cpV (f 8) (.ptr 0 2)),(17,cpV (f 9) (aA c.pg)),(18,cpV (f 10) (aA d)),(19,cpV (f 11) (.agg [.map 5,aA p2,aA d])),(20,cpV (f 12) (.ptr 8 0)),(3,cpV (f 13) (.ptr 8 0))]
def cpH (c:SpC) (f:Nat->Bool) (A:List (Tx×List Lab)) (p2 d:Nat×Nat):List (Nat×AO):=[(0,.cells [.map 1,aA c.px,aA c.pg] true),(1,c.m.O kT gE),(2,.sep (IxB.Q c.x c.px)),(3,.sep (GrB.Q c.g c.pg)),(4,.sep (aE (aH c.m.A))),(5,cpO (f 0) (.map [])),(6,cpO (f 5) (.sep (IxB.Q ⟨A,8*c.x.A.length⟩ p2))),(7,cpO (f 10) (.sep (GrB.Q (mX c.g) d))),(8,cpO (f 12) (.cells [.map 5,aA p2,aA d] true))]
def rn(a N b:Nat):Nat:=if b=a then N else b
theorem uP{a N k:Nat}(h:k<=a:=by decide)(x:Nat)(c:x<k):rn a N x=x:=if_neg (by omega)
theorem BT{a N m:Nat}{l:List Nat}(f:m<=N)(h:Fm m l=true){x y:Nat}(c:x∈l)(d:y∈l)(e:rn a N x=rn a N y):x=y:=by
 have g:=nH h x c;have i:=nH h y d;unfold rn at e;split at e<;>split at e<;>omega
section
variable {H:AH} {m a N:Nat} {u v:AV} {b:Bool}
theorem zK{k:Nat}(c:k<=m:=by decide)(d:k<=a:=by decide)(e:u=cpV b v:=by rfl)(hv:ltV k v=true:=by rfl):ae H m (rn a N) u (cpV b v):=by
 subst e;cases b with
 |false=>exact ae.bad _
 |true=>exact ae.bz hv c (uP d)
theorem zP{x o:Nat}(c:x<m:=by decide)(d:rn a N x=x:=by rfl)(e:u=cpV b (.ptr x o):=by rfl):ae H m (rn a N) u (cpV b (.ptr x o)):=by
 subst e;cases b with
 |false=>exact ae.bad _
 |true=>exact ae.ptr c (by rw[d];rfl)
theorem zO{n x k:Nat}{o:AO}(c:k<=m:=by decide)(d:k<=a:=by decide)(e:H.get x=some (cpO b o):=by rfl)(hv:ltO k o=true:=by rfl):(∃q,H.get x=some q/\ak H m (rn a N) q (cpO b o))∨((cpO b o).void=true/\n<=x):= .inl ⟨_,e,by
 cases b with
 |false=>exact ak.bz (k:=0) rfl (Z9 _) (λb f=>absurd f (q0o b))
 |true=>exact ak.bz hv c (uP d)⟩
theorem zN{n x k:Nat}{o:AO}(c:k<=m:=by decide)(d:k<=a:=by decide)(e:H.get (rn a N x)=some o:=by rfl)(hv:ltO k o=true:=by rfl):(∃q,H.get (rn a N x)=some q/\ak H m (rn a N) q o)∨(o.void=true/\n<=rn a N x):= .inl ⟨_,e,ak.bz hv c (uP d)⟩
end
abbrev CpG(c:SpC):Type:={A:List (Tx×List Lab)//A.Perm (reL c.x.A)}×(Nat×Nat)×(Nat×Nat)
def cpS (c:SpC) (f:Nat->Bool) (g:CpG c):AE×AH×Nat:=(mkE (cpE c f g.2.1 g.2.2),mkH (cpH c f g.1.val g.2.1 g.2.2),9)
theorem R7 {c:SpC} (d:c.x.A.length<=1000) (r:c.g.length<=1000) {call:CP} (j:∀args H n κ,xD 4 IxB U0 args H n κ->call 66 args H n κ) (l:∀args H n κ,x7 2 GrB GrB Vc args H n κ->call 67 args H n κ)
 {k:KP} (p2 h:Nat×Nat) (s:∀A p2 h,A.Perm (reL c.x.A)->k (mkE (cpE c (λ_=>true) p2 h)) (mkH (cpH c (λ_=>true) A p2 h)) 9):yW 5 cp3 call (mkE (cpE c (λ_=>false) p2 h)) (mkH (cpH c (λ_=>false) (reL c.x.A) p2 h)) 9 k:=by
 refine BS (CpG c) (⟨reL c.x.A,.refl _⟩,p2,h) (λf g=>(cpS c f g).1) (λf g=>(cpS c f g).2.1) (λ_ _=>9) [([],[0,11,12],some 9),([],[],none),([1],[],none),([2],[],none),([3],[],none),([4],[5,11,12],some 9),([],[],none),([6],[],none),([7],[],none),([8],[],none),([9],[10,11,12],some 9),([0,5,10],[],none),([11],[12,13],some 9),([12],[],none)] (by kernel_rfl) 14 (by kernel_rfl) rfl (by kernel_rfl) ⟨?_,?_,?_,?_,?_,?_,?_,?_,?_,?_,?_,?_,?_,?_,trivial⟩ λg=>s _ _ _ g.1.2
 all_goals
  intro f g
  try refine⟨rfl,?_⟩
  conv=>whnf
  try exact⟨_,jt,g,rfl,rfl,rfl⟩
 ·refine⟨cpS c (upF (stF f [] [0,11,12]) 0) g,?_,g,rfl,rfl,rfl⟩;exact Cov.ofB (m:=9) (rn 5 9) (by decide) (uP) ⟨.ptr (by decide) rfl,ae.map (by decide) rfl,zP,zP,zP,zK (k:=0),zK (k:=0),zP,zP,zP,zK (k:=0),zK (k:=0),ae.bad _,ae.bad _,zP,trivial⟩ ⟨zN (k:=2),zN (k:=0) (hv:=aC bK iG),zN (k:=0),zN (k:=0),zN (k:=0),zN (k:=0),zO (k:=0),zO (k:=0),zN (k:=0),trivial⟩ rfl λx d y e=>BT (m:=9) (Z0 rfl) rfl (q0p.2 ⟨x,d,rfl⟩) (q0p.2 ⟨y,e,rfl⟩)
 ·refine j _ _ _ _ ⟨2,c.px,c.x,[],c.x,_,_,rfl,by decide,by decide,.nil,rfl,rfl,⟨rfl,d,rfl,rfl⟩,λv E ⟨q,o,p,i,t⟩=>?_⟩;subst i t;refine⟨cpS c (upF (stF f [4] [5,11,12]) 5) (⟨o,p⟩,q,g.2.2),?_,(⟨o,p⟩,q,g.2.2),rfl,rfl,rfl⟩;exact Cov.ofB (m:=9) (rn 6 13) (by decide) uP ⟨.ptr (by decide) rfl,zK (k:=6),zP,zP,zP,e0,e0,zP,zP,zP,zK (k:=0),zK (k:=0),ae.bad _,ae.bad _,zP,trivial⟩ ⟨zN (k:=2),zN (k:=0) (hv:=aC bK iG),zN (k:=0),zN (k:=0),zN (k:=0),zO (k:=0),zN (k:=0),zO (k:=0),zN (k:=0),trivial⟩ rfl λx d y e=>BT (m:=9) (Z0 rfl) rfl (q0p.2 ⟨x,d,rfl⟩) (q0p.2 ⟨y,e,rfl⟩)
 ·refine l _ _ _ _ ⟨3,c.pg,c.g,[],c.g,_,_,rfl,by decide,by decide,.nil,rfl,rfl,⟨rfl,r,rfl,rfl⟩,λq=>?_⟩;refine⟨cpS c (upF (stF f [9] [10,11,12]) 10) (g.1,g.2.1,q),?_,(g.1,g.2.1,q),rfl,rfl,rfl⟩;exact Cov.ofB (m:=9) (rn 7 13) (by decide) uP ⟨.ptr (by decide) rfl,zK (k:=6),zP,zP,zP,zK (k:=0),zK (k:=0),zP,zP,zP,e0,e0,ae.bad _,ae.bad _,zP,trivial⟩ ⟨zN (k:=2),zN (k:=0) (hv:=aC bK iG),zN (k:=0),zN (k:=0),zN (k:=0),zO (k:=0),zO (k:=0),zN (k:=0),zN (k:=0),trivial⟩ rfl λx d y e=>BT (m:=9) (Z0 rfl) rfl (q0p.2 ⟨x,d,rfl⟩) (q0p.2 ⟨y,e,rfl⟩)
 ·refine⟨cpS c (upF (stF f [11] [12,13]) 12) g,?_,g,rfl,rfl,rfl⟩;exact Cov.ofB (m:=9) (rn 8 9) (by decide) uP ⟨.ptr (by decide) rfl,zK (k:=6),zP,zP,zP,zK (k:=0),zK (k:=0),zP,zP,zP,zK (k:=0),zK (k:=0),ae.c6 (k:=6) rfl rfl (by decide) uP,ae.ptr (by decide) rfl,ae.bad _,trivial⟩ ⟨zN (k:=2),zN (k:=0) (hv:=aC bK iG),zN (k:=0),zN (k:=0),zN (k:=0),zO (k:=0),zO (k:=0),zO (k:=0),zN (k:=6),trivial⟩ rfl λx d y e=>BT (m:=9) (Z0 rfl) rfl (q0p.2 ⟨x,d,rfl⟩) (q0p.2 ⟨y,e,rfl⟩)
def cpF (X:SpV):SpV:={X with K:=λk=>(X.K k).map λe=>{e with lab:=cj e.lab}}
theorem ED{V:Type}{A B:List (Tx×V)}(a:(A.map Prod.fst).Nodup)(b:(B.map Prod.fst).Nodup)(h:∀e,e∈A<->e∈B)(k:Tx):aD A k=aD B k:=by
 cases e:aD B k with
 |some v=>exact cV a ((h _).2 (bJ e))
 |none=>
  cases c:aD A k with
  |none=>rfl
  |some v=>
   have:=cV b ((h _).1 (bJ c));rw[e]at this;cases this
theorem qc{V W:Type}(f:V->W)(A:List (Tx×V)):(A.map λe=>(e.1,f e.2)).map Prod.fst=A.map Prod.fst:=by rw[q4l];rfl
theorem ue{V W:Type}(f:V->W){A:List (Tx×V)}(a:(A.map Prod.fst).Nodup)(k:Tx):aD (A.map λe=>(e.1,f e.2)) k=(aD A k).map f:=by
 have b:((A.map λe=>(e.1,f e.2)).map Prod.fst).Nodup:=by rw[qc];exact a
 cases e:aD A k with
 |some v=>exact cV b (q0p.2 ⟨(k,v),bJ e,rfl⟩)
 |none=>
  cases c:aD (A.map λe=>(e.1,f e.2)) k with
  |none=>rfl
  |some w=>
   obtain⟨y,d,g⟩:=q0p.1 (bJ c);injection g with h1 h2;exact absurd h1 (pY e y d)
theorem Yl{X:SpV}{c:SpC}(h:bA X c){M:MpC Tx SE}(f:M.Ok)(i:(M.A.map λe=>(e.1,pB e.2)).Perm (c.m.A.map λe=>(e.1,pB e.2))){A:List (Tx×List Lab)}(d:A.Perm (reL c.x.A))(p2 r:Nat×Nat):
 bA (cpF X) ⟨M,⟨A,8*c.x.A.length⟩,p2,mX c.g,r⟩:=by
 have kM:(M.A.map Prod.fst).Nodup:=f.key
 have j:((reL c.x.A).map Prod.fst).Nodup:=by
  unfold reL;rw[qc];exact h.xk
 have l:(A.map Prod.fst).Nodup:=(d.map Prod.fst).nodup_iff.2 j;have s:A.length=c.x.A.length:=by rw[d.length_eq];unfold reL;rw[q0g]
 have t:M.A.length=c.m.A.length:=by have:=i.length_eq;simpa using this
 obtain⟨p,u,q⟩:=K7 h.gk h.dst;refine⟨f,l,p,h.n9,by rw[t];exact h.ml,by show A.length<=X.n;rw[s];exact h.xl,Nat.mul_le_mul_left 8 h.xl,q0d u h.gl,λk=>?_,λk=>?_,λk=>?_,λe a=>?_,λk e a=>?_,λk e a=>?_,h.rul⟩
 ·show(aD M.A k).map pB=_;rw[<-ue pB kM,ED (by rw[qc];exact kM) (by rw[qc];exact h.o.key) (λe=>i.mem_iff) k,ue pB h.o.key,h.K];unfold cpF;dsimp only;cases X.K k<;>rfl
 ·show aD A k=_;rw[ED l j (λe=>d.mem_iff) k];unfold reL;rw[ue cj h.xk,h.I];unfold cpF;dsimp only;cases X.K k<;>rfl
 ·show aD (mX c.g) k=X.R k;rw[q,h.R]
 ·exact h.dst e (bJ (by rw[<-q];exact cV p a))
 ·unfold cpF at a;dsimp only at a;cases b:X.K k with
  |none=>rw[b]at a;cases a
  |some y=>
   rw[b]at a;injection a with a;subst a;exact h.ser k y b
 ·unfold cpF at a;dsimp only at a;cases b:X.K k with
  |none=>rw[b]at a;cases a
  |some y=>exact h.key k y b
attribute [local irreducible] yW
def Ym(X:SpV)(cs:List AV)(a Y:SpV):Prop:=cs=[]/\a=X/\Y=cpF X
def kCp:FuncId->EP:=aX 26 [(3,[(some 1000002,[])]),(1000003,[]),(7,[(some 1000000,[3,7,9,7]),(none,[0,1,2,3,4,5,6,7,8,9,10,11]),(none,[0,1,2,3,4,5,6,8,9,7,10,11]),(none,[0,1,2,4,5,6,7,3,8,9,10,11]),(none,[0,1,2,4,5,6,8,9,7,3,10,11])])] (ao 66 (xD 4 IxB U0) (ao 67 (x7 2 GrB GrB Vc) (ao 58 IL evP)))
theorem VN:aS kCp:=au (ab (ab (ab az Ei) OI) Ov) (by kernel_rfl) (by kernel_rfl)
def cpL (c:SpC) (A:List (Tx×List Lab)) (p2:Nat×Nat) (a:Nat×Nat) (M:MpC Tx SE) (I:List Nat):AE×AH:=(mkE [(0,.ptr 0 (0)),(3,.ptr 8 (0)),(25,.ptr 9 (0))],mkH [(0,.cells [.map 1,aA c.px,aA c.pg] true),(1,c.m.O kT gE),(2,AO.sep (IxB.Q c.x c.px)),(3,AO.sep (GrB.Q c.g c.pg)),(4,AO.sep (aE (aH c.m.A))),(5,M.O kT gE),(6,AO.sep (IxB.Q ⟨A,8*c.x.A.length⟩ p2)),(7,AO.sep (GrB.Q (mX c.g) a)),(8,.cells [.map 5,aA p2,aA a] true),(9,AO.iter 1 c.m.cl (di c.m.bs I)),(10,AO.sep (aE (aH M.A)))])
theorem R8{c:SpC}{A:List (Tx×List Lab)}{p2:Nat×Nat}{a:Nat×Nat}{M:MpC Tx SE}{I:List Nat}{p n:Nat}{σ:AE}{H:AH}(h:p<=5)(e0:ai (pa 0) σ= .ptr 0 (0))(i:ai (pa 3) σ= .ptr 8 (0))(d:ai (pa 25) σ= .ptr 9 (0))(j:H.get 0=some (.cells [.map 1,aA c.px,aA c.pg] true))(l:H.get 1=some (c.m.O kT gE))(o:H.get 2=some (AO.sep (IxB.Q c.x c.px)))(q:H.get 3=some (AO.sep (GrB.Q c.g c.pg)))(r:H.get 4=some (AO.sep (aE (aH c.m.A))))(s:H.get 5=some (M.O kT gE))(t:H.get 6=some (AO.sep (IxB.Q ⟨A,8*c.x.A.length⟩ p2)))(u:H.get 7=some (AO.sep (GrB.Q (mX c.g) a)))(v:H.get 8=some (.cells [.map 5,aA p2,aA a] true))(w:H.get 9=some (AO.iter 1 c.m.cl (di c.m.bs I)))(e:H.get 10=some (AO.sep (aE (aH M.A)))):Cov p σ H n ((cpL c A p2 a M I).1,(cpL c A p2 a M I).2,11):=
 Cov.ofA (q0d h (by decide)) ⟨.ptr (by decide) e0,.ptr (by decide) i,.ptr (by decide) d,trivial⟩ ⟨.inl ⟨_,j,ak.bz (k:=2) rfl (by decide) (λb f=>rfl)⟩,.inl ⟨_,l,ak.bz (k:=0) (aC bK iG) (by decide) (λb f=>rfl)⟩,.inl ⟨_,o,ak.sep _⟩,.inl ⟨_,q,ak.sep _⟩,.inl ⟨_,r,ak.sep _⟩,.inl ⟨_,s,ak.bz (k:=0) (aC bK iG) (by decide) (λb f=>rfl)⟩,.inl ⟨_,t,ak.sep _⟩,.inl ⟨_,u,ak.sep _⟩,.inl ⟨_,v,ak.bz (k:=6) rfl (by decide) (λb f=>rfl)⟩,.inl ⟨_,w,ak.xU (by decide) rfl⟩,.inl ⟨_,e,ak.sep _⟩,trivial⟩ rfl
theorem VO:∀x,x<10->∀y,y<10->(if x=5 then 8 else if x=9 then 10 else if x<6 then x else x-1)=(if y=5 then 8 else if y=9 then 10 else if y<6 then y else y-1)->x=y:=by decide
structure CpI(c:SpC)(I:List Nat)(M:MpC Tx SE):Prop where
 r:RgI c.m I
 o:M.Ok
 s:(M.A.map λe=>(e.1,pB e.2))=(fc c.m.A I).map λe=>(e.1,pB e.2)
theorem GM(X:SpV)(c:SpC)(d:bA X c):ax kCp 5 26 [.ptr 0 0] (mkH (bE (spO c) 0)) 5 (Oc SpB 5 X (OH SpB 5 (cpF X))):=by
 have l:c.x.A.length<=1000:=q0d d.xl d.n9;have W:c.g.length<=1000:=q0d d.gl d.n9
 conv=>whnf
 refine qq.mk Unit 9 (λ_=>(mkE (cpE c (λ_=>false) (0,0) (0,0)),mkH (cpH c (λ_=>false) (reL c.x.A) (0,0) (0,0)))) ?_ (λ_=>?_)
 ·conv=>whnf
  refine⟨(),Cov.ofA (m:=9) (by decide) ⟨.ptr (by decide) rfl,ae.bad _,ae.bad _,ae.bad _,ae.bad _,ae.bad _,ae.bad _,ae.bad _,ae.bad _,ae.bad _,ae.bad _,ae.bad _,ae.bad _,ae.bad _,ae.bad _,trivial⟩ ⟨.inl ⟨_,rfl,ak.bz (k:=2) rfl (by decide) (λb n=>rfl)⟩,.inl ⟨_,rfl,ak.bz (k:=0) (aC bK iG) (by decide) (λb n=>rfl)⟩,.inl ⟨_,rfl,ak.sep _⟩,.inl ⟨_,rfl,ak.sep _⟩,.inl ⟨_,rfl,ak.sep _⟩,.inr ⟨rfl,Z0 rfl⟩,.inr ⟨rfl,Z0 rfl⟩,.inr ⟨rfl,Z0 rfl⟩,.inr ⟨rfl,Z0 rfl⟩,trivial⟩ rfl⟩
 conv=>whnf
 refine R7 l W (λ_ _ _ _ h=>h) (λ_ _ _ _ h=>h) _ _ λA E F Y=>?_
 conv=>whnf
 refine aN.mk {t:List Nat×MpC Tx SE//CpI c t.1 t.2} 11 (λt=>cpL c A E F t.val.2 t.val.1) (λt=>c.m.A.length-t.val.1.length) ⟨([],MpC.no),.nil,MpC.xN,rfl⟩ ?_ ?_
 focus
  refine Cov.hole (Cov.ofA (m:=11) (by decide) ⟨.ptr (by decide) rfl,.ptr (by decide) rfl,.ptr (by decide) rfl,trivial⟩ ⟨.inl ⟨_,rfl,ak.bz (k:=2) rfl (by decide) (λb n=>rfl)⟩,.inl ⟨_,rfl,ak.bz (k:=0) (aC bK iG) (by decide) (λb n=>rfl)⟩,.inl ⟨_,rfl,ak.sep _⟩,.inl ⟨_,rfl,ak.sep _⟩,.inl ⟨_,rfl,ak.sep _⟩,.inl ⟨_,rfl,ak.Gl⟩,.inl ⟨_,rfl,ak.sep _⟩,.inl ⟨_,rfl,ak.sep _⟩,.inl ⟨_,rfl,ak.bz (k:=6) rfl (by decide) (λb n=>rfl)⟩,.inl ⟨_,rfl,ak.xU (by decide) rfl⟩,.inl ⟨_,rfl,ak.sep _⟩,trivial⟩ rfl)
 intro⟨⟨I,M⟩,u⟩;dsimp only at u;have Z:=u.r.len
 conv=>whnf
 refine Nxt.mp 9 1 c.m.cl _ _ _ rfl rfl rfl rfl d.o.lt (λho=>?_) (λi e x J B hn=>?_)
 focus
  obtain⟨q1,q2⟩:=u.r.sQ d.o.nd d.o.len ho;have hS:(M.A.map λe=>(e.1,pB e.2)).Perm (c.m.A.map λe=>(e.1,pB e.2)):=by rw[u.s];exact q1.map _
  have K:=Yl d u.o hS Y E F
  conv=>whnf
  refine⟨.ptr 5 0,[.cells [.map 6,aA E,aA F] true,M.O kT gE,.sep (IxB.Q ⟨A,8*c.x.A.length⟩ E),.sep (GrB.Q (mX c.g) F),.sep (aE (aH M.A))],c,⟨_,K,rfl,?_⟩,d,rfl,λo ho=>?_,Z0 rfl,Cov.ofR (λb=>if b=5 then 8 else if b=9 then 10 else if b<6 then b else b-1) (Z0 rfl) (λb n=>?_) (λx l=>?_) (λx l=>?_) (λx l y hy e=>?_)⟩
  ·show _=[bT _ _,bT _ _,bT _ _,bT _ _,bT _ _];rw[(eG (m:=0) (r':=λb=>b) (λc d=>absurd d (q0o c)) (aC (m:=M) (j:=0) bK iG)).trans (vl _)];rfl
  ·simp only[Z5,Z4,or_false]at ho;rcases ho with rfl|rfl|rfl|rfl|rfl
   ·exact⟨rfl,rfl⟩
   ·exact⟨rfl,aC bK iG⟩
   ·exact⟨rfl,rfl⟩
   ·exact⟨rfl,rfl⟩
   ·exact⟨rfl,rfl⟩
  ·show(if b=5 then 8 else if b=9 then 10 else if b<6 then b else b-1)=b;rw[if_neg (by omega),if_neg (by omega),if_pos (by omega)]
  ·simp only[Z5,Z4,or_false]at l;subst l;exact .ptr (Z0 rfl) rfl
  ·simp only[bE,spO,SpB,q1w,q2m,Z5,Z4,or_false]at l;rcases l with rfl|rfl|rfl|rfl|rfl|rfl|rfl|rfl|rfl|rfl
   ·exact⟨Z0 rfl,.inl ⟨_,rfl,ak.bz (k:=2) rfl (Z0 rfl) (λb n=>by rw[if_neg (by omega),if_neg (by omega),if_pos (by omega)])⟩⟩
   ·exact⟨Z0 rfl,.inl ⟨_,rfl,ak.bz (k:=0) (aC bK iG) (Z0 rfl) (λb n=>absurd n (q0o b))⟩⟩
   ·exact⟨Z0 rfl,.inl ⟨_,rfl,ak.sep _⟩⟩
   ·exact⟨Z0 rfl,.inl ⟨_,rfl,ak.sep _⟩⟩
   ·exact⟨Z0 rfl,.inl ⟨_,rfl,ak.sep _⟩⟩
   ·refine⟨Z0 rfl,.inl ⟨_,rfl,.cells (Z3 _) id λi a' a=>?_⟩⟩
    match i,a with
    |0,a=>injection a with a;subst a;exact⟨_,rfl,.map (Z0 rfl) rfl⟩
    |1,a=>injection a with a;subst a;exact⟨_,rfl,ae.aA rfl⟩
    |2,a=>injection a with a;subst a;exact⟨_,rfl,ae.aA rfl⟩
    |i+3,a=>simp at a
   ·exact⟨Z0 rfl,.inl ⟨_,rfl,ak.bz (k:=0) (aC bK iG) (Z0 rfl) (λb n=>absurd n (q0o b))⟩⟩
   ·exact⟨Z0 rfl,.inl ⟨_,rfl,ak.sep _⟩⟩
   ·exact⟨Z0 rfl,.inl ⟨_,rfl,ak.sep _⟩⟩
   ·exact⟨Z0 rfl,.inl ⟨_,rfl,ak.sep _⟩⟩
  ·have lt:∀x∈bE (spO c++ [AO.cells [.map 6,aA E,aA F] true,M.O kT gE,.sep (IxB.Q ⟨A,8*c.x.A.length⟩ E),.sep (GrB.Q (mX c.g) F),.sep (aE (aH M.A))]) 0,x.1<10:=λx l=>nH (m:=10) rfl _ (q0p.2 ⟨x,l,rfl⟩)
   have N:=lt x l;have V:=lt y hy;exact VO x.1 N y.1 V e
 obtain⟨w,rfl⟩:=p5 J;obtain⟨G,a⟩:=u.r.step w B hn;have hs:di c.m.bs I++ [x]=di c.m.bs (I++ [i]):=(kO B).symm;have hm:c.m.A.length-(I++ [i]).length<c.m.A.length-I.length:=by have:=G.len;simp only[Z6,q2b]at this⊢;omega
 have P:=d.o.nd
 have D:aH c.m.A=aH (c.m.A.take i)++cn c.m.A[i].2.p c.m.A[i].2.S c.m.A[i].2.L::aH (c.m.A.drop (i+1)):=by
  conv=>lhs;rw[<-q1q i c.m.A,q0t w]
  unfold aH;rw[q0x];rfl
 have R:∀e∈M.A,e.1≠c.m.A[i].1:=λe J q=>by
  have:(e.1,pB e.2)∈(fc c.m.A I).map λe=>(e.1,pB e.2):=by rw[<-u.s];exact q0p.2 ⟨e,J,rfl⟩
  obtain⟨z,hz,hq⟩:=q0p.1 this;injection hq with N V;exact zL d.o.key w a z hz (N.trans q)
 have H:aD M.A c.m.A[i].1=none:=(xV (v:=c.m.A[i].2) R).2
 have T:∀f,CpI c (I++ [i]) (M.put c.m.A[i].1 ⟨f,c.m.A[i].2.S,c.m.A[i].2.L,c.m.A[i].2.z⟩):=λf=>⟨G,u.o.put _ _,by
  rw[ub H,sP w,q0x,q0x,u.s];rfl⟩
 have U:∀f,aE (aH M.A++cn f c.m.A[i].2.S c.m.A[i].2.L:: [])=aE (aH (M.put c.m.A[i].1 ⟨f,c.m.A[i].2.S,c.m.A[i].2.L,c.m.A[i].2.z⟩).A):=λf=>by
  rw[ub H];unfold aH;rw[q0x];rfl
 conv=>whnf
 refine Ent.mp 9 1 c.m.cl i x (di c.m.bs I) (iV kT gE c.m.A) c.m.bs _ rfl rfl rfl P B J ?_
 conv=>whnf
 refine⟨?_,?_,?_,?_,trivial⟩
 all_goals
  conv=>whnf
  refine⟨4,aH (c.m.A.take i),aH (c.m.A.drop (i+1)),c.m.A[i].2.p,c.m.A[i].2.S,c.m.A[i].2.L,rfl,by decide,by decide,rfl,congrArg (λs=>some (AO.sep (aE s))) D,λf=>?_⟩
  conv=>whnf
  refine Ask.mk _ (rm (m:=M) (g:=gE) (v:=⟨f,c.m.A[i].2.S,c.m.A[i].2.L,c.m.A[i].2.z⟩) (k:=c.m.A[i].1) bP nV rfl rfl rfl rfl) ?_
  conv=>whnf
  refine⟨⟨(I++ [i],M.put c.m.A[i].1 ⟨f,c.m.A[i].2.S,c.m.A[i].2.L,c.m.A[i].2.z⟩),T f⟩,hm,?_⟩;refine Cov.pre (λφ h0 h hr=>hr.IV (b:=10) (m:=13) (A:=aH M.A) (C:=[]) (Q:=cn f c.m.A[i].2.S c.m.A[i].2.L) (by decide) (by decide) (congrArg (λs=>some (AO.sep (aE s))) (q1e _).symm) rfl) ?_;exact R8 (I:=I++ [i]) (Z3 5) rfl rfl rfl rfl rfl rfl rfl rfl rfl rfl rfl rfl (congrArg (λs=>some (AO.iter 1 c.m.cl s)) hs) (congrArg (λs=>some (AO.sep s)) (U f))
theorem Pp:al 26 (x7 5 SpB SpB Ym):= .os (by decide) (by decide) (xE (ay VN 5 _) (by kernel_rfl) SpB rfl (by decide) λX cs g P ⟨y,⟨a,b,d⟩,e⟩=>by
 subst a b d e;exact⟨rfl,λc f=>GM _ c f⟩)
theorem Jc:∀(i:Nat) (a b:List Nat) (h:i<a.length) (k:i<b.length),a.take i=b.take i->a[i]≠b[i]->ltL a b=decide (a[i]<b[i])
 |0,a::x,b::y,_,_,_,e=>tT x y e
 |i+1,a::x,b::y,h,k,t,e=>by
  simp only[List.take_succ_cons,q3y]at t;obtain⟨rfl,t⟩:=t;rw[pn];exact Jc i x y (by simpa using h) (by simpa using k) t e
theorem Jd:∀(i:Nat) (a b:List Nat),i<=a.length->i<=b.length->a.take i=b.take i->(i=a.length∨i=b.length)->ltL a b=decide (a.length<b.length)
 |0,[],[],_,_,_,_=>rfl
 |0,[],_::_,_,_,_,_=>by simp[ltL]
 |0,_::_,[],_,_,_,_=>by simp[ltL]
 |0,_::_,_::_,_,_,_,h=>by simp at h
 |i+1,[],_,h,_,_,_=>by simp at h
 |i+1,_::_,[],_,k,_,_=>by simp at k
 |i+1,a::x,b::y,h,k,t,e=>by
  simp only[List.take_succ_cons,q3y]at t;obtain⟨rfl,t⟩:=t;rw[pn,Jd i x y (by simpa using h) (by simpa using k) t (by simpa using e)];simp
def VP(cs:List AV)(v:AV):Prop:=∃a b:Tx,cs=[.ss a,.ss b]/\a.length<=1000000/\b.length<=1000000/\v= .sb (ltL a b)
def bl0 (a:List Nat) (b:List Nat) (i:Nat):AE×AH:=(mkE [(0,.ss (a)),(1,.ss (b)),(5,.si .i64 (i))],mkH [])
theorem Je{a:List Nat}{b:List Nat}{i:Nat}{p n:Nat}{σ:AE}{H:AH}(c:p<=0)(e0:mk (ai (pa 0) σ)= .ss (a))(d:mk (ai (pa 1) σ)= .ss (b))(e:mk (ai (pa 5) σ)= .si .i64 (i)):Cov p σ H n ((bl0 a b i).1,(bl0 a b i).2,0):=
 Cov.ofA c ⟨.str e0,.str d,.int e,trivial⟩ trivial rfl
def kBe:FuncId->EP:=aX 70 [] evP
theorem VQ:aS kBe:=au az (by kernel_rfl) (by kernel_rfl)
theorem BU{a:List Nat}{i o:Nat}(h:i<a.length)(ho:o=i):nth a o=some a[i]:=by
 subst ho;rw[eu,q0b h]
theorem Lr(a b:List Nat)(t:a.length<=1000000)(u:b.length<=1000000):ax kBe 3 70 [.ss a,.ss b] .nil 0 (cY (.sb (ltL a b))):=by
 conv=>whnf
 refine aN.mk {i:Nat//i<=a.length/\i<=b.length/\a.take i=b.take i} 0 (λi=>bl0 a b i.val) (λi=>a.length-i.val) ⟨0,Z9 _,Z9 _,rfl⟩ ?_ ?_
 ·exact Je (i:=0) (Z3 0) rfl rfl rfl
 ·intro⟨i,n,o,g⟩
  have f:(i=a.length∨i=b.length)->decide ((a.length:Int)<b.length)=ltL a b:=λq=>by
   rw[Jd i a b n o g q,q2r,decide_eq_true_eq,decide_eq_true_eq];omega
  conv=>whnf
  refine ag.dec (λh=>?_) (λh=>?_)
  ·have c:i<a.length:=q0v.1 h;have j:a.length-(i+1)<a.length-i:=by omega
   have p:IntKind.i64.wrap ((i:Int)+1)=((i+1:Nat):Int):=by rw[aj (by omega) (by omega)];omega
   conv=>whnf
   refine ag.dec (λk=>?_) (λk=>?_)
   ·have d:i<b.length:=q0v.1 k
    conv=>whnf
    refine Idx.mk i rfl c ?_
    conv=>whnf
    refine Ask.mk _ (BU c rfl) ?_
    conv=>whnf
    refine Idx.mk i rfl d ?_
    conv=>whnf
    refine Ask.mk _ (BU d rfl) ?_
    conv=>whnf
    refine ag.du (λl=>?_) (λl=>?_)
    ·have m:a[i]≠b[i]:=λe=>l (by rw[e])
     have r:decide ((Int.ofNat a[i])<Int.ofNat b[i])=ltL a b:=by
      rw[Jc i a b c d g m,q2r,decide_eq_true_eq,decide_eq_true_eq];simp
     conv=>whnf
     refine Idx.mk i rfl c ?_
     conv=>whnf
     refine Ask.mk _ (BU c rfl) ?_
     conv=>whnf
     refine Idx.mk i rfl d ?_
     conv=>whnf
     refine Ask.mk _ (BU d rfl) ?_
     conv=>whnf
     exact⟨_,.told (congrArg AV.sb r)⟩
    ·have m:a[i]=b[i]:=q3u.1 l;have s:a.take (i+1)=b.take (i+1):=by rw[q0c c,q0c d,g,m]
     conv=>whnf
     exact⟨⟨i+1,c,d,s⟩,j,Je (Z3 0) rfl rfl (congrArg (AV.si .i64) p)⟩
   ·have d:i=b.length:=by have:¬(i:Int)<(b.length:Int):=k;omega
    have:=f (.inr d)
    conv=>whnf
    exact⟨_,.told (congrArg AV.sb this)⟩
  ·have c:i=a.length:=by have:¬(i:Int)<(a.length:Int):=h;omega
   have:=f (.inl c)
   conv=>whnf
   exact⟨_,.told (congrArg AV.sb this)⟩
theorem Yn:al 70 (bV VP):=kh VQ 3 (by kernel_rfl) λcs v ⟨a,b,c,d,e,f⟩=>by
 subst c f;exact⟨rfl,rfl,Lr a b d e⟩
def VS(cs:List AV)(v:AV):Prop:=∃(V:List Tx) (s:Tx),cs=[.fr V.length 1 (strs V),.ss s]/\V.length<=1000000/\v= .sb (decide (s∈V))
def ha0 (V:List (List Nat)) (s:List Nat) (i:Nat):AE×AH:=(mkE [(0,.fr V.length 1 (strs V)),(1,.ss (s)),(5,.si .i64 (i))],mkH [])
theorem Jf{V:List (List Nat)}{s:List Nat}{i:Nat}{p n:Nat}{σ:AE}{H:AH}(a:p<=0)(e0:ai (pa 0) σ= .fr V.length 1 (strs V))(b:mk (ai (pa 1) σ)= .ss (s))(c:mk (ai (pa 5) σ)= .si .i64 (i)):Cov p σ H n ((ha0 V s i).1,(ha0 V s i).2,0):=
 Cov.ofA a ⟨ae.frE e0,.str b,.int c,trivial⟩ trivial rfl
def kHa:FuncId->EP:=aX 29 [] evP
theorem VT:aS kHa:=au az (by kernel_rfl) (by kernel_rfl)
theorem R9(V:List Tx)(s:Tx)(l:V.length<=1000000):ax kHa 3 29 [.fr V.length 1 (strs V),.ss s] .nil 0 (cY (.sb (decide (s∈V)))):=by
 conv=>whnf
 refine aN.mk {i:Nat//i<=V.length/\s∉V.take i} 0 (λi=>ha0 V s i.val) (λi=>V.length-i.val) ⟨0,Z9 _,by simp⟩ ?_ ?_
 ·exact Jf (i:=0) (Z3 0) rfl rfl rfl
 ·intro⟨i,m,c⟩
  conv=>whnf
  refine ag.dec (λd=>?_) (λd=>?_)
  ·have a:i<V.length:=q0v.1 d;have f:V.length-(i+1)<V.length-i:=by omega
   have g:IntKind.i64.wrap ((i:Int)+1)=((i+1:Nat):Int):=by rw[aj (by omega) (by omega)];omega
   conv=>whnf
   refine Idx.mk i rfl a ?_
   conv=>whnf
   refine aq (cL a (q0r _)) ?_
   conv=>whnf
   refine ag.sb (λb=>?_) (λb=>?_)
   ·have e:V[i]=s:=a8.1 b;have h:decide (s∈V)=true:=decide_eq_true (e▸q0k a)
    conv=>whnf
    exact⟨_,.told (congrArg AV.sb h.symm)⟩
   ·have e:V[i]≠s:=λe=>by rw[a8.2 e]at b;cases b
    have j:s∉V.take (i+1):=λq=>by
     rw[q0c a,q1n,q3v]at q;exact q.elim c λq=>e q.symm
    conv=>whnf
    exact⟨⟨i+1,a,j⟩,f,Jf (Z3 0) rfl rfl (congrArg (AV.si .i64) g)⟩
  ·have a:i=V.length:=by have:¬(i:Int)<(V.length:Int):=d;omega
   have k:decide (s∈V)=false:=decide_eq_false (by rw[a,q0u]at c;exact c)
   conv=>whnf
   exact⟨_,.told (congrArg AV.sb k.symm)⟩
theorem Yo:al 29 (bV VS):=kh VT 3 (by kernel_rfl) λcs v ⟨V,s,a,b,c⟩=>by
 subst a c;exact⟨rfl,rfl,R9 V s b⟩
def Lt(V:List Tx):Prop:=V.Pairwise λa b=>ltL a b=true
def Tc(cs:List AV)(v:AV):Prop:=∃V:List Tx,cs=[.fr V.length 1 (strs V)]/\V.length<=1000000/\(∀s∈V,s.length<=1000000)/\Lt V/\v= .sb true
def rt8 (V:List (List Nat)) (i:Nat):AE×AH:=(mkE [(0,.fr V.length 1 (strs V)),(3,.si .i64 (i))],mkH [])
theorem Jg{V:List (List Nat)}{i:Nat}{p n:Nat}{σ:AE}{H:AH}(a:p<=0)(e0:ai (pa 0) σ= .fr V.length 1 (strs V))(b:mk (ai (pa 3) σ)= .si .i64 (i)):Cov p σ H n ((rt8 V i).1,(rt8 V i).2,0):=
 Cov.ofA a ⟨ae.frE e0,.int b,trivial⟩ trivial rfl
def kRt:FuncId->EP:=aX 28 [] (ao 70 (bV VP) evP)
theorem VU:aS kRt:=au (ab az Yn) (by kernel_rfl) (by kernel_rfl)
theorem Lu(V:List Tx)(m:V.length<=1000000)(f:∀s∈V,s.length<=1000000)(h:Lt V):ax kRt 3 28 [.fr V.length 1 (strs V)] .nil 0 (cY (.sb true)):=by
 conv=>whnf
 refine aN.mk {i:Nat//1<=i/\i<=V.length+1} 0 (λi=>rt8 V i.val) (λi=>V.length-i.val) ⟨1,Z3 _,by omega⟩ ?_ ?_
 ·exact Jg (i:=1) (Z3 0) rfl rfl
 ·intro⟨i,j,n⟩
  conv=>whnf
  refine ag.dec (λg=>?_) (λg=>?_)
  ·have a:i<V.length:=q0v.1 g;have b:i-1<V.length:=by omega
   have c:V.length-(i+1)<V.length-i:=by omega
   have k:IntKind.i64.wrap ((i:Int)+1)=((i+1:Nat):Int):=by rw[aj (by omega) (by omega)];omega
   have d:IntKind.i64.wrap ((i:Int)-1)=((i-1:Nat):Int):=by rw[aj (by omega) (by omega)];omega
   have l:ltL V[i-1] V[i]=true:=q2z.1 h _ _ b a (by omega)
   conv=>whnf
   refine Idx.mk (i-1) d b ?_
   conv=>whnf
   refine aq (cL b (q0r _)) ?_
   conv=>whnf
   refine Idx.mk i rfl a ?_
   conv=>whnf
   refine aq (cL a (q0r _)) ?_
   conv=>whnf
   refine⟨_,_,_,.cons .same (.cons .same .nil),⟨V[i-1],V[i],rfl,f _ (q0k b),f _ (q0k a),rfl⟩,?_⟩
   conv=>whnf
   refine ag.nsb (λe=>?_) (λe=>?_)
   ·rw[l]at e;cases e
   conv=>whnf
   exact⟨⟨i+1,by omega,by omega⟩,c,Jg (Z3 0) rfl (congrArg (AV.si .i64) k)⟩
  ·conv=>whnf
   exact⟨_,.told rfl⟩
theorem Yp:al 28 (bV Tc):=kh VU 3 (by kernel_rfl) λcs v ⟨V,a,b,c,d,e⟩=>by
 subst a e;exact⟨rfl,rfl,Lu V b c d⟩
theorem Yq{H:AH}{k n:Nat}{l r:List AV}(e:l=r):yz H k (.fr n k l) n r:=by subst e;exact .fr
def Td(cs:List AV)(v:AV):Prop:=∃(V:List Tx) (s:Tx),cs=[.fr V.length 1 (strs V),.ss s]/\V.length<=1000000/\(∀x∈V,x.length<=1000000)/\s.length<=1000000/\(∀x∈V,ltL x s=true)/\v= .fr (V++ [s]).length 1 (strs (V++ [s]))
def ad0 (V:List (List Nat)) (s:List Nat) (O:List (List Nat)) (i:Nat):AE×AH:=(mkE [(0,.fr V.length 1 (strs V)),(1,.ss (s)),(5,.rw 0 0 O.length 1 0),(6,.si .i64 (i))],mkH [(0,.cells (strs (O)) true)])
theorem Jh{V:List (List Nat)}{s:List Nat}{O:List (List Nat)}{i:Nat}{p n:Nat}{σ:AE}{H:AH}(a:Nat)(m:p<=0)(e0:ai (pa 0) σ= .fr V.length 1 (strs V))(e:mk (ai (pa 1) σ)= .ss (s))(f:ae H 1 (λb=>if b=0 then a else b) (ai (pa 5) σ) (.rw 0 0 O.length 1 0))(j:mk (ai (pa 6) σ)= .si .i64 (i))(k:(∃l,H.get a=some (.cells l true)/\l.map mk=strs (O))∨((O)=[]/\n<=a)):Cov p σ H n ((ad0 V s O i).1,(ad0 V s O i).2,1):=
 Cov.ofB (λb=>if b=0 then a else b) (by omega) (λb o=>by repeat' rw[if_neg (by omega)]) ⟨ae.frE e0,.str e,f,.int j,trivial⟩ ⟨k.elim (λ⟨l,h,g⟩=> .inl ⟨_,h,ak.bu (bX _) (by rw[g,cZ]) (λq=>q)⟩) (λh=> .inr ⟨by rw[h.1];rfl,h.2⟩),trivial⟩ rfl (λx c y d=>by simp only[Z5,Z4,or_false]at c d;subst c d;exact λ_=>rfl)
def kAd:FuncId->EP:=aX 71 [] (ao 70 (bV VP) evP)
theorem VV:aS kAd:=au (ab az Yn) (by kernel_rfl) (by kernel_rfl)
theorem Sa(V:List Tx)(s:Tx)(z:V.length<=1000000)(q:∀x∈V,x.length<=1000000)(r:s.length<=1000000)(t:∀x∈V,ltL x s=true):ax kAd 4 71 [.fr V.length 1 (strs V),.ss s] .nil 0 (cY (.fr (V++ [s]).length 1 (strs (V++ [s])))):=by
 have c:(strs (V++ [s])).length=(V++ [s]).length*1:=by rw[aV,q0r]
 conv=>whnf
 refine aN.mk {i:Nat//i<=V.length} 1 (λi=>ad0 V s (V.take i.val) i.val) (λi=>V.length-i.val) ⟨0,Z9 _⟩ ?_ ?_
 ·exact Jh (O:=[]) (i:=0) 0 (Z3 0) rfl rfl (.iD rfl) rfl (.inr ⟨rfl,Z3 _⟩)
 ·intro⟨i,u⟩;have v:(V.take i).length=i:=by rw[q0l];omega
  have p:bl (strs (V.take i)) 0 ((V.take i).length*1)=some (strs (V.take i)):=bj (by rw[aV,q0r]);have g:bl (strs (V.take i)++ [AV.ss s]) 0 (((V.take i).length+1)*1)=some (strs (V.take i)++ [AV.ss s]):=bj (by rw[Z6,aV,q0r];rfl);have b:((V.take i).length+1)*16<=140737488355328:=by omega
  conv=>whnf
  refine ag.dec (λf=>?_) (λf=>?_)
  ·have a:i<V.length:=q0v.1 f;have j:V.length-(i+1)<V.length-i:=by omega
   have w:IntKind.i64.wrap ((i:Int)+1)=((i+1:Nat):Int):=by rw[aj (by omega) (by omega)];omega
   have d:V.take (i+1)=V.take i++ [V[i]]:=q0c a;have k:(V.take i).length+1=(V.take (i+1)).length:=by rw[d,Z6];rfl
   conv=>whnf
   refine Idx.mk i rfl a ?_
   conv=>whnf
   refine aq (cL a (q0r _)) ?_
   conv=>whnf
   refine⟨_,_,_,.cons .same (.cons .same .nil),⟨V[i],s,rfl,q _ (q0k a),r,rfl⟩,?_⟩
   conv=>whnf
   refine ag.sb (λl=>?_) (λl=>?_)
   ·conv=>whnf
    refine Idx.mk i rfl a ?_
    conv=>whnf
    refine aq (cL a (q0r _)) ?_
    conv=>whnf
    refine bF.grow 1 16 _ _ _ _ _ _ tyT (.old rfl) rfl rfl (.rw rfl p) b ?_
    conv=>whnf
    exact⟨⟨i+1,a⟩,j,Jh 2 (Z9 _) rfl rfl (ae.rw (by decide) rfl k) (congrArg (AV.si .i64) w) (.inl ⟨_,rfl,(dJ _ _).trans (congrArg strs d.symm)⟩)⟩
   ·rw[t _ (q0k a)]at l;cases l
  ·have a:i=V.length:=by have:¬(i:Int)<(V.length:Int):=f;omega
   have hd:V.drop i=[]:=by rw[a,List.drop_length]
   have e:V.take i++ [s]++V.drop i=V++ [s]:=by rw[hd,a,q0u,q1e]
   have m:(V.take i).length+1+(V.length-i)=(V++ [s]).length:=by rw[<-e];simp only[Z6,q0a,q1r,q0y]
   have n:(strs (V.take i)++ [AV.ss s]++strs (V.drop i)).map mk=(strs (V++ [s])).map mk:=by rw[<-e];simp[strs,mk]
   have y:(strs (V.drop i)).length=(V.length-i)*1:=by rw[aV,q0y,q0r]
   have o:((V.take i).length+1+(V.length-i))*16<=140737488355328:=by omega
   conv=>whnf
   refine bF.grow 1 16 _ _ _ _ _ _ tyT (.old rfl) rfl rfl (.rw rfl p) b ?_
   conv=>whnf
   refine ag.dec (λh=>absurd h f) (λ_=>?_)
   conv=>whnf
   refine RSl.mk i V.length rfl rfl (.inl rfl) u (Z3 _) ?_
   conv=>whnf
   refine bF.grow 1 16 _ _ _ _ _ _ tyT (Yq (by rw[q0r,zG]:(strs V).drop (i*1)=strs (V.drop i))) y (xI _) (.rw rfl g) o ?_
   conv=>whnf
   exact cY.row rfl m rfl n c (bX _)
theorem Yr:al 71 (bV Td):=kh VV 4 (by kernel_rfl) λcs v ⟨V,s,a,b,c,d,e,f⟩=>by
 subst a f;exact⟨rfl,rfl,Sa V s b c d e⟩
def pk8(V W:List Tx)(q:Bool):List Tx:=V.filter λx=>decide (x∈W)==q
def Te(cs:List AV)(v:AV):Prop:=∃(V W:List Tx) (q:Bool),cs=[.fr V.length 1 (strs V),.fr W.length 1 (strs W),.bool q]/\V.length<=1000000/\W.length<=1000000/\(∀x∈V,x.length<=1000000)/\Lt V/\v= .fr (pk8 V W q).length 1 (strs (pk8 V W q))
def pk0 (V:List (List Nat)) (W:List (List Nat)) (q:Bool) (O:List (List Nat)) (i:Nat):AE×AH:=(mkE [(0,.fr V.length 1 (strs V)),(1,.fr W.length 1 (strs W)),(2,.sb (q)),(7,.fr O.length 1 (strs O)),(8,.si .i64 (i))],mkH [])
theorem Ji{V:List (List Nat)}{W:List (List Nat)}{q:Bool}{O:List (List Nat)}{i:Nat}{p n:Nat}{σ:AE}{H:AH}(a:p<=0)(e0:ai (pa 0) σ= .fr V.length 1 (strs V))(b:ai (pa 1) σ= .fr W.length 1 (strs W))(c:mk (ai (pa 2) σ)= .sb (q))(d:ai (pa 7) σ= .fr O.length 1 (strs O))(e:mk (ai (pa 8) σ)= .si .i64 (i)):Cov p σ H n ((pk0 V W q O i).1,(pk0 V W q O i).2,0):=
 Cov.ofA a ⟨ae.frE e0,ae.frE b,.bool c,ae.frE d,.int e,trivial⟩ trivial rfl
def kPk:FuncId->EP:=aX 31 [] (ao 29 (bV VS) (ao 71 (bV Td) evP))
theorem VW:aS kPk:=au (ab (ab az Yr) Yo) (by kernel_rfl) (by kernel_rfl)
theorem Pq{V W:List Tx}{q:Bool}{i:Nat}(h:i<V.length):pk8 (V.take (i+1)) W q=if(decide (V[i]∈W)==q)=true then pk8 (V.take i) W q++ [V[i]]else pk8 (V.take i) W q:=by
 unfold pk8;rw[q0c h,q2n,List.filter_cons,List.filter_nil];by_cases e:(decide (V[i]∈W)==q)=true
 ·rw[if_pos e,if_pos e]
 ·rw[if_neg e,if_neg e,q1e]
theorem Pr(V W:List Tx)(q:Bool)(t:V.length<=1000000)(p:W.length<=1000000)(n:∀x∈V,x.length<=1000000)(r:Lt V):ax kPk 5 31 [.fr V.length 1 (strs V),.fr W.length 1 (strs W),.bool q] .nil 0 (cY (.fr (pk8 V W q).length 1 (strs (pk8 V W q)))):=by
 conv=>whnf
 refine aN.mk {i:Nat//i<=V.length} 0 (λi=>pk0 V W q (pk8 (V.take i.val) W q) i.val) (λi=>V.length-i.val) ⟨0,Z9 _⟩ ?_ ?_
 ·exact Cov.ofA (Z3 0) ⟨ae.frE rfl,ae.frE rfl,.bool rfl,ae.Xc rfl,.int rfl,trivial⟩ trivial rfl
 ·intro⟨i,u⟩
  conv=>whnf
  refine ag.dec (λh=>?_) (λh=>?_)
  ·have a:i<V.length:=q0v.1 h;have c:V.length-(i+1)<V.length-i:=by omega
   have o:IntKind.i64.wrap ((i:Int)+1)=((i+1:Nat):Int):=by rw[aj (by omega) (by omega)];omega
   have d:=Pq (W:=W) (q:=q) a;have f:∀x∈pk8 (V.take i) W q,x∈V:=λx g=>q3e (q1d.1 g).1
   have k:(pk8 (V.take i) W q).length<=1000000:=q0d (q1h _ _) (by rw[q0l];omega)
   have l:∀x∈pk8 (V.take i) W q,ltL x V[i]=true:=λx g=>by
    obtain⟨j,s,rfl⟩:=q3a (q1d.1 g).1;rw[q0l]at s;rw[q4s];exact q2z.1 r _ _ (by omega) a (by omega)
   conv=>whnf
   refine Idx.mk i rfl a ?_
   conv=>whnf
   refine aq (cL a (q0r _)) ?_
   conv=>whnf
   refine⟨_,_,_,.cons .same (.cons .same .nil),⟨W,V[i],rfl,p,rfl⟩,?_⟩
   conv=>whnf
   refine ag.sb (λm=>?_) (λm=>?_)
   ·have b:pk8 (V.take (i+1)) W q=pk8 (V.take i) W q++ [V[i]]:=by rw[d,if_pos m]
    conv=>whnf
    refine Idx.mk i rfl a ?_
    conv=>whnf
    refine aq (cL a (q0r _)) ?_
    conv=>whnf
    refine⟨_,_,_,.cons .same (.cons .same .nil),⟨pk8 (V.take i) W q,V[i],rfl,k,λx g=>n x (f x g),n _ (q0k a),l,rfl⟩,?_⟩
    conv=>whnf
    exact⟨⟨i+1,a⟩,c,Ji (O:=pk8 (V.take (i+1)) W q) (Z3 0) rfl rfl rfl (congrArg (λz:List Tx=>AV.fr z.length 1 (strs z)) b.symm) (congrArg (AV.si .i64) o)⟩
   ·have b:pk8 (V.take (i+1)) W q=pk8 (V.take i) W q:=by rw[d,if_neg (by rw[m];decide)]
    conv=>whnf
    exact⟨⟨i+1,a⟩,c,Ji (O:=pk8 (V.take (i+1)) W q) (Z3 0) rfl rfl rfl (congrArg (λz:List Tx=>AV.fr z.length 1 (strs z)) b.symm) (congrArg (AV.si .i64) o)⟩
  ·have a:i=V.length:=by have:¬(i:Int)<(V.length:Int):=h;omega
   have e:V.take i=V:=by rw[a,q0u]
   rw[e]
   conv=>whnf
   exact cY.same
theorem Ys:al 31 (bV Te):=kh VW 5 (by kernel_rfl) λcs v ⟨V,W,q,a,b,c,d,e,f⟩=>by
 subst a f;exact⟨rfl,rfl,Pr V W q b c d e⟩
section
variable {X:SpV} {c:SpC} {k:Tx}
theorem rr:Lt (m7 X):=(ba _).1
theorem bA.drp(h:bA X c)(k:Tx):∃c2,bA (dt X k) c2:=by
 by_cases a:(X.K k).isSome=true
 ·exact⟨_,h.drop a⟩
 ·refine⟨c,?_⟩;unfold dt;rw[if_neg a];exact h
theorem GN(x:Tx):(dt X k).K x=if x=k then none else X.K x:=by
 by_cases q:x=k
 ·subst q;rw[if_pos rfl];exact BR
 ·rw[if_neg q];unfold dt;split
  ·exact if_neg q
  ·rfl
theorem GO(h:bA X c):m7 (dt X k)=pk8 (m7 X) [k] false:=by
 obtain⟨b,a⟩:=h.drp k;refine ri rr (List.Pairwise.filter _ rr) λx=>?_
 rw[m8 a,GN];unfold pk8;rw[q1d,m8 h];by_cases q:x=k
 ·simp[q]
 ·simp[q]
theorem Pt(h:bA X c)(e:Links X){r:Rl}(f:r∈yc (dt X k)):r.src≠k/\r.dst≠k:=by
 obtain⟨i,g⟩:=h.drp k;have a:=g.IN.1 f;by_cases b:(X.K k).isSome=true
 ·unfold dt at a;rw[if_pos b]at a;dsimp only at a;split at a
  ·split at a
   ·cases a
   ·rename_i j _ q;injection a with a;subst a;unfold pw at q;simp only[q1m,decide_eq_true_eq,not_or]at q;exact q
  ·cases a
 ·unfold dt at a;rw[if_neg b]at a;have d:=e _ _ a;exact⟨λq=>b (q▸d.1),λq=>b (q▸d.2)⟩
end
theorem VX{X:SpV}{k:Tx}{e:fK}{a b:Int}(h:Bnd X 100)(c:X.K k=some e):(bH a b e.L).length<=1000000:=by
 have d:=h k e c;have f:(bH a b e.L).length<=e.L.length:=q1h _ _;omega
theorem vt{L:List Rl}{i o j:Nat}{v:AV}(h:i<L.length)(ho:o=i*5+j)(hv:(ruC L[i])[j]?=some v):nth (ruL L) o=some v:=by
 subst ho;rw[eu,<-q3c,xX,q0t h,pv,q1l (q0e.1 hv).1];exact hv
def kKy:FuncId->EP:=aX 5 [(22,[(some 1000002,[])]),(1000022,[])] (da 14 xu (ao 15 (I7 SpB (λX=>Inv X 100) Yi) (ao 12 (Tb SpB (dM 5 SpB Vm)) (ao 16 I3 (ao 25 (dM 5 SpB Vl) (ao 26 (x7 5 SpB SpB Ym) (ao 27 (cK 5 SpB OV) (ao 21 (D1 D3) (ao 20 (DY 1000000 lp) (ao 28 (bV Tc) (ao 29 (bV VS) (ao 31 (bV Te) (ao 30 (bV Vx) evP)))))))))))))
theorem VY:aS kKy:=au (bf (ab (ab (ab (ab (ab (ab (ab (ab (ab (ab (ab (ab az XK) Ys) Yo) Yp) H9) SQ) yf) Pp) Eo) O8) (al.kn zW SpB)) VK) Lj Q7) (by kernel_rfl) (by kernel_rfl)
theorem Za{a N:Nat}(b:6<=N){x y:Nat}(c:x<6)(d:y<6)(e:(if x=a then N else x)=if y=a then N else y):x=y:=by
 split at e<;>split at e<;>omega
def kyB (K:List Tx) (i:Nat) (key:Tx) (q q2:Nat×Nat) (d:Bool):List (Nat×AV):=[(1,.ss key),(5,aA q),(8,.fr K.length 1 (strs K)),(9,aA q2),(10,.sb d),(13,.si .i64 (i:Int))]
def kyE (K:List Tx) (i:Nat) (s key:Tx) (q q2:Nat×Nat) (d:Bool) (O:Smp) (f:Nat->Bool) (g:(Nat×Nat)×(Nat×Nat)×(Nat×Nat)):AE:=mkE (kyB K i key q q2 d++flV f 91 0 [.fr K.length 1 (strs K),.si .i64 (i:Int),.fa (strs K) (i*1),.ss s,.ss key,.bool true,.bool true,aA q,.fr K.length 1 (strs K),.si .i64 (i:Int),.fa (strs K) (i*1),.ss s,aA g.1,.bool false,.bool false,aA q,.fr K.length 1 (strs K),.si .i64 (i:Int),.fa (strs K) (i*1),.ss s,aA g.2.1,.rw 17 0 O.length 2 0,aA q2,.fr K.length 1 (strs K),.si .i64 (i:Int),.fa (strs K) (i*1),.ss s,aA g.2.2,.rw 27 0 O.length 2 0,.bool true,.bool false,.bool false,.bool false])
def kyH (X Y:SpV) (e:fK) (O:Smp) (q q2:Nat×Nat) (f:Nat->Bool) (g:(Nat×Nat)×(Nat×Nat)×(Nat×Nat)):AH×Nat:=
 let a:=[(0,.sep (SpB.Q X q)),(1,.sep (SpB.Q Y q2))]
 let H1:=a++ [(7,.sep (cn g.1 e.S e.L))]
 let b:=H1++ [(13,.sep (cn g.2.1 e.S e.L))]
 let c:=b++ [(17,.cells (smp O) true)]
 let d:=c++ [(23,.sep (cn g.2.2 e.S e.L))]
 bif f 28 then(mkH (d++ [(27,.cells (smp O) true)]),28)else bif f 27 then(mkH d,24)else bif f 21 then(mkH c,18)else bif f 20 then(mkH b,14)else bif f 12 then(mkH H1,8)else(mkH a,2)
def kzH (X Y:SpV) (q q2:Nat×Nat):AH:=mkH [(0,.sep (SpB.Q X q)),(1,.sep (SpB.Q Y q2))]
def kzE (K:List Tx) (i:Nat) (s key:Tx) (q q2:Nat×Nat) (d:Bool) (f:Nat->Bool) (_:Unit):AE:=mkE (kyB K i key q q2 d++flV f 91 0 ([.fr K.length 1 (strs K),.si .i64 (i:Int),.fa (strs K) (i*1),.ss s,.ss key,.bool false,.bool false]++List.replicate 25 cT++ [.bool false]))
def kyL (X:SpV) (k:List Nat) (q:Nat×Nat) (A:List Rl) (i:Nat):AE×AH:=(mkE [(1,.ss (k)),(5,aA q),(6,.fr A.length 5 (ruL A)),(7,.si .i64 (i))],mkH [(0,.sep (SpB.Q X q))])
theorem Jj{X:SpV}{k:List Nat}{q:Nat×Nat}{A:List Rl}{i:Nat}{p n:Nat}{σ:AE}{H:AH}(a:p<=0)(b:mk (ai (pa 1) σ)= .ss (k))(c:ai (pa 5) σ=aA q)(d:ai (pa 6) σ= .fr A.length 5 (ruL A))(e:mk (ai (pa 7) σ)= .si .i64 (i))(f:H.get 0=some (.sep (SpB.Q X q))):Cov p σ H n ((kyL X k q A i).1,(kyL X k q A i).2,1):=
 Cov.ofA (q0d a (by decide)) ⟨.str b,ae.aA c,ae.frE d,.int e,trivial⟩ ⟨.inl ⟨_,f,ak.sep _⟩,trivial⟩ rfl
def kyM (X:SpV) (Y:SpV) (k:List Nat) (q:Nat×Nat) (q2:Nat×Nat) (K:List Tx) (d:Bool) (A:List Rl) (i:Nat):AE×AH:=(mkE [(1,.ss (k)),(5,aA q),(8,.fr K.length 1 (strs K)),(9,aA q2),(10,.sb (d)),(11,.fr A.length 5 (ruL A)),(12,.si .i64 (i))],mkH [(0,.sep (SpB.Q X q)),(1,.sep (SpB.Q Y q2))])
theorem Sb{X:SpV}{Y:SpV}{k:List Nat}{q:Nat×Nat}{q2:Nat×Nat}{K:List Tx}{d:Bool}{A:List Rl}{i:Nat}{p n:Nat}{σ:AE}{H:AH}(e:p<=0)(f:mk (ai (pa 1) σ)= .ss (k))(g:ai (pa 5) σ=aA q)(h:ai (pa 8) σ= .fr K.length 1 (strs K))(j:ai (pa 9) σ=aA q2)(a:mk (ai (pa 10) σ)= .sb (d))(b:ai (pa 11) σ= .fr A.length 5 (ruL A))(c:mk (ai (pa 12) σ)= .si .i64 (i))(l:H.get 0=some (.sep (SpB.Q X q)))(m:H.get 1=some (.sep (SpB.Q Y q2))):Cov p σ H n ((kyM X Y k q q2 K d A i).1,(kyM X Y k q q2 K d A i).2,2):=
 Cov.ofA (q0d e (by decide)) ⟨.str f,ae.aA g,ae.frE h,ae.aA j,.bool a,ae.frE b,.int c,trivial⟩ ⟨.inl ⟨_,l,ak.sep _⟩,.inl ⟨_,m,ak.sep _⟩,trivial⟩ rfl
def kyN (X:SpV) (Y:SpV) (k:List Nat) (q:Nat×Nat) (q2:Nat×Nat) (K:List Tx) (d:Bool) (i:Nat):AE×AH:=(mkE [(1,.ss (k)),(5,aA q),(8,.fr K.length 1 (strs K)),(9,aA q2),(10,.sb (d)),(13,.si .i64 (i))],mkH [(0,.sep (SpB.Q X q)),(1,.sep (SpB.Q Y q2))])
theorem BV{X:SpV}{Y:SpV}{k:List Nat}{q:Nat×Nat}{q2:Nat×Nat}{K:List Tx}{d:Bool}{i:Nat}{p n:Nat}{σ:AE}{H:AH}(c:p<=0)(e:mk (ai (pa 1) σ)= .ss (k))(f:ai (pa 5) σ=aA q)(g:ai (pa 8) σ= .fr K.length 1 (strs K))(h:ai (pa 9) σ=aA q2)(a:mk (ai (pa 10) σ)= .sb (d))(b:mk (ai (pa 13) σ)= .si .i64 (i))(j:H.get 0=some (.sep (SpB.Q X q)))(l:H.get 1=some (.sep (SpB.Q Y q2))):Cov p σ H n ((kyN X Y k q q2 K d i).1,(kyN X Y k q q2 K d i).2,2):=
 Cov.ofA (q0d c (by decide)) ⟨.str e,ae.aA f,ae.frE g,ae.aA h,.bool a,.int b,trivial⟩ ⟨.inl ⟨_,j,ak.sep _⟩,.inl ⟨_,l,ak.sep _⟩,trivial⟩ rfl
theorem EE(S:List Oq)(k:Tx)(hin:∀o∈S,o.In)(hS:S.length<=8796093022208):ax kKy 6 5 [.fr S.length 14 (oqC S),.ss k] .nil 0 λv _ _=>v= .bool true∨v= .sb true:=by
 obtain⟨X,hX⟩:∃X,X=Lq S:=⟨_,rfl⟩;obtain⟨A,hA⟩:∃A,A=yc X:=⟨_,rfl⟩
 conv=>whnf
 refine⟨[.fr S.length 14 (oqC S)],X,_,by decide,.cons .same .nil,rfl,⟨S,rfl,hin,hS,hX⟩,λhI p=>?_⟩
 conv=>whnf
 refine ag.dec (λz1=>?_) (λz1=>?_)
 focus
  conv=>whnf
  exact .inr rfl
 conv=>whnf
 refine⟨0,p,X,rfl,λh=>h.elim λc t=>⟨0,p,X,[],.fr A.length 5 (ruL A),rfl,by decide,by decide,.nil,rfl,rfl,⟨rfl,by rw[hA]⟩,?_⟩⟩;have hAm:∀r∈A,(X.K r.src).isSome=true/\(X.K r.dst).isSome=true:=λr R=>by rw[hA]at R;exact hI.links _ _ (t.IN.1 R)
 have hAl:A.length<=1000:=by rw[hA,<-t.all];exact q0d (vp c.g λ_=>true) (q0d t.gl t.n9)
 conv=>whnf
 refine aN.mk {i:Nat//i<=A.length} 1 (λi=>kyL X k p A i.val) (λi=>A.length-i.val) ⟨0,Z9 _⟩ ?_ ?_
 ·exact Jj (X:=X) (k:=k) (q:=p) (A:=A) (i:=0) (Z9 _) rfl rfl rfl rfl rfl
 intro⟨i,F⟩;have F:i<=A.length:=F;have G:IntKind.i64.wrap ((i:Int)+1)=((i+1:Nat):Int):=by rw[aj (by omega) (by omega)];omega
 conv=>whnf
 refine ag.dec (λC=>?_) (λC=>?_)
 focus
  have n:i<A.length:=q0v.1 C;have B:A.length-(i+1)<A.length-i:=by omega
  have hm:=hAm A[i] (q0k n);obtain⟨e1,D⟩:=q0s.1 hm.1;obtain⟨e2,J⟩:=q0s.1 hm.2
  conv=>whnf
  refine Idx.mk i rfl n ?_
  conv=>whnf
  refine aq (vt (j:=0) n rfl rfl) ?_
  conv=>whnf
  refine⟨0,p,X,A[i].src,_,rfl,by decide,by decide,.cons .same .nil,rfl,rfl,.inr ⟨e1,D,λp1=>?_⟩⟩
  conv=>whnf
  refine Idx.mk i rfl n ?_
  conv=>whnf
  refine aq (vt (j:=1) n rfl rfl) ?_
  conv=>whnf
  refine⟨0,p,X,A[i].dst,_,rfl,by decide,by decide,.cons .same .nil,rfl,rfl,.inr ⟨e2,J,λw=>?_⟩⟩
  conv=>whnf
  refine⟨⟨i+1,n⟩,B,?_⟩;exact Jj (X:=X) (k:=k) (q:=p) (A:=A) (i:=i+1) (Z9 _) rfl rfl rfl (congrArg (AV.si .i64) G) rfl
 obtain⟨K,M⟩:∃K,K=m7 X:=⟨_,rfl⟩;obtain⟨u,N⟩:∃u,u=yc (dt X k):=⟨_,rfl⟩;obtain⟨d,hd⟩:∃d,d=(X.K k).isSome:=⟨_,rfl⟩
 conv=>whnf
 refine⟨0,p,X,[],.fr K.length 1 (strs K),rfl,by decide,by decide,.nil,rfl,rfl,⟨rfl,by rw[M]⟩,?_⟩
 conv=>whnf
 refine⟨0,p,X,[],X,cpF X,_,rfl,by decide,by decide,.nil,rfl,rfl,⟨rfl,rfl,rfl⟩,λw=>?_⟩
 conv=>whnf
 refine⟨0,p,X,[.ss k],dt X k,.sb d,_,rfl,by decide,by decide,.cons .same .nil,rfl,rfl,⟨k,rfl,rfl,congrArg AV.sb hd⟩,?_⟩
 conv=>whnf
 refine⟨0,p,dt X k,rfl,λ_=>⟨0,p,dt X k,[],.fr u.length 5 (ruL u),rfl,by decide,by decide,.nil,rfl,rfl,⟨rfl,by rw[N]⟩,?_⟩⟩
 conv=>whnf
 refine aN.mk {i:Nat//i<=u.length} 2 (λi=>kyM (dt X k) (cpF X) k p w K d u i.val) (λi=>u.length-i.val) ⟨0,Z9 _⟩ ?_ ?_
 ·exact Cov.ofB (m:=2) (λb=>if b=1 then 16 else b) (Z9 _) (λb T=>absurd T (q0o b)) ⟨e0,ae.aA rfl,ae.frE rfl,ae.aA rfl,.bool rfl,ae.frE rfl,.int rfl,trivial⟩ ⟨.inl ⟨_,rfl,ak.sep _⟩,.inl ⟨_,rfl,ak.sep _⟩,trivial⟩ rfl (λx hx y hy e=>Za (by decide) (Nat.lt_trans (nH (m:=2) rfl _ (q0p.2 ⟨x,hx,rfl⟩)) (by decide)) (Nat.lt_trans (nH (m:=2) rfl _ (q0p.2 ⟨y,hy,rfl⟩)) (by decide)) e)
 clear G C
 have hA2l:u.length<=1000:=by
  obtain⟨c2,P⟩:=t.drp k;rw[N,<-P.all];exact q0d (vp c2.g λ_=>true) (q0d P.gl P.n9)
 have U:∀r∈u,db r.src k=false/\db r.dst k=false:=λr R=>by
  rw[N]at R;obtain⟨g1,g2⟩:=Pt t hI.links R
  exact⟨by cases e:db r.src k with
   |false=>rfl
   |true=>exact absurd (a8.1 e) g1,by cases e:db r.dst k with
   |false=>rfl
   |true=>exact absurd (a8.1 e) g2⟩
 intro⟨i,F⟩;have F:i<=u.length:=F;have G:IntKind.i64.wrap ((i:Int)+1)=((i+1:Nat):Int):=by rw[aj (by omega) (by omega)];omega
 conv=>whnf
 refine ag.dec (λC=>?_) (λC=>?_)
 focus
  have n:i<u.length:=q0v.1 C;have B:u.length-(i+1)<u.length-i:=by omega
  have hm:=U u[i] (q0k n)
  conv=>whnf
  refine Idx.mk i rfl n ?_
  conv=>whnf
  refine aq (vt (j:=0) n rfl rfl) ?_
  conv=>whnf
  refine ag.sb (λz=>?_) (λ_=>?_)
  ·rw[hm.1]at z;cases z
  conv=>whnf
  refine Idx.mk i rfl n ?_
  conv=>whnf
  refine aq (vt (j:=1) n rfl rfl) ?_
  conv=>whnf
  refine ag.sb (λz=>?_) (λ_=>?_)
  ·rw[hm.2]at z;cases z
  conv=>whnf
  refine⟨⟨i+1,n⟩,B,?_⟩;exact Sb (X:=dt X k) (Y:=cpF X) (k:=k) (q:=p) (q2:=w) (K:=K) (d:=d) (A:=u) (i:=i+1) (Z9 _) rfl rfl rfl rfl rfl rfl (congrArg (AV.si .i64) G) rfl rfl
 have hKl:K.length<=1000:=by
  rw[M,<-t.keys];exact q0d (cw _) (by rw[q0g];exact q0d t.xl t.n9)
 have V:∀s∈K,s.length<=1000000:=λs hs=>by
  obtain⟨e,W⟩:=q0s.1 ((m8 t).1 (M▸hs));have:=t.key s e W;unfold iu at this;simp only[Z8,decide_eq_true_eq]at this;omega
 have Z:Lt K:=M▸rr
 have hd2:(d==decide (k∈K))=true:=by
  have C:k∈K<->(X.K k).isSome=true:=M▸m8 t;rw[hd];cases e:(X.K k).isSome with
  |true=>rw[decide_eq_true (C.2 e)];rfl
  |false=>rw[decide_eq_false λq=>by rw[C.1 q]at e;cases e];rfl
 obtain⟨E,hK2⟩:∃E,E=m7 (dt X k):=⟨_,rfl⟩;have H:E=pk8 K [k] false:=by rw[hK2,M];exact GO t
 have hK2l:E.length<=1000000:=by
  have:(pk8 K [k] false).length<=K.length:=q1h _ _;rw[H];omega
 have hno:(dt X k).K k=none:=by rw[GN,if_pos rfl]
 conv=>whnf
 refine aN.mk {i:Nat//i<=K.length} 2 (λi=>kyN (dt X k) (cpF X) k p w K d i.val) (λi=>K.length-i.val) ⟨0,Z9 _⟩ ?_ ?_
 ·exact BV (i:=0) (Z9 _) rfl rfl rfl rfl rfl rfl rfl rfl
 clear G C;intro⟨i,F⟩;have F:i<=K.length:=F;have G:IntKind.i64.wrap ((i:Int)+1)=((i+1:Nat):Int):=by rw[aj (by omega) (by omega)];omega
 conv=>whnf
 rcases q3k i K.length with n|n;rotate_left
 ·refine qq.go ?_
  conv=>whnf
  refine ag.dec (λh=>absurd (q0v.1 h) (Nat.not_lt.2 n)) (λ_=>?_)
  conv=>whnf
  refine⟨[.fr K.length 1 (strs K)],_,_,.cons .same .nil,⟨K,rfl,by omega,V,Z,rfl⟩,?_⟩
  conv=>whnf
  refine ag.sb (λ_=>?_) (λz=>absurd z (by decide))
  conv=>whnf
  refine⟨[.fr K.length 1 (strs K),.ss k],_,_,.cons .same (.cons .same .nil),⟨K,k,rfl,by omega,rfl⟩,?_⟩
  conv=>whnf
  refine ag.sb (λ_=>?_) (λz=>absurd (hd2.symm.trans z) (by decide))
  conv=>whnf
  refine⟨0,p,dt X k,[],.fr E.length 1 (strs E),rfl,by decide,by decide,.nil,rfl,rfl,⟨rfl,by rw[hK2]⟩,?_⟩
  conv=>whnf
  refine⟨[.fr K.length 1 (strs K),.fr 1 1 (strs [k]),.bool false],_,_,.cons .same (.cons (Re.sl (k:=1) (z:=true) (l:=[.ss k]) (s:=[.ss k]) rfl rfl rfl rfl) (.cons .same .nil)),⟨K,[k],false,rfl,by omega,Z0 rfl,V,Z,rfl⟩,?_⟩
  conv=>whnf
  refine⟨[.fr E.length 1 (strs E),.fr (pk8 K [k] false).length 1 (strs (pk8 K [k] false))],_,_,.cons .same (.cons .same .nil),⟨E,pk8 K [k] false,rfl,hK2l,rfl⟩,?_⟩
  conv=>whnf
  refine ag.sb (λ_=>?_) (λz=>absurd ((decide_eq_true H).symm.trans z) (by decide))
  conv=>whnf
  refine⟨0,p,dt X k,k,_,rfl,by decide,by decide,.cons .same .nil,rfl,rfl,.inl ⟨hno,?_⟩⟩
  conv=>whnf
  exact .inr rfl
 have B:K.length-(i+1)<K.length-i:=by omega
 have I:=cL n (q0r _);by_cases Q:K[i]=k
 ·refine qq.mk Unit 2 (λ_=>(kzE K i K[i] k p w d (nF 33) (),(kzH (dt X k) (cpF X) p w))) ?_ (λ_=>?_)
  ·conv=>whnf
   refine ag.dec (λ_=>?_) (λh=>absurd (q0v.2 n) h)
   conv=>whnf
   exact⟨(),Cov.fl (m:=2) (Z9 _) ⟨e0,ae.aA rfl,ae.frE rfl,ae.aA rfl,.bool rfl,.int rfl,trivial⟩ ⟨.inl ⟨_,rfl,ak.sep _⟩,.inl ⟨_,rfl,ak.sep _⟩,trivial⟩ rfl⟩
  have T:(!db K[i] k)=false:=by rw[a8.2 Q];rfl
  conv=>whnf
  refine BS Unit () (kzE K i K[i] k p w d) (λ_ _=>kzH (dt X k) (cpF X) p w) (λ_ _=>2) ([([],[],none),([],[],none),([0,1],[],none),([2],[],none),([],[],none),([3,4],[],none),([5],[],none)]++List.replicate 8 ([6],[],none)++List.replicate 16 ([14],[],none)++ [([6],[],none),([6],[],none)]) (by kernel_rfl) 33 (by kernel_rfl) rfl (by kernel_rfl) ?_ λ_=>?_
  ·refine⟨?_,?_,?_,?_,?_,?_,?_,?_,?_,?_,?_,?_,?_,?_,?_,?_,?_,?_,?_,?_,?_,?_,?_,?_,?_,?_,?_,?_,?_,?_,?_,?_,?_,trivial⟩
   all_goals
    intro f g
    conv=>whnf
    first
    |exact⟨_,jt,(),rfl,rfl,rfl⟩
    |exact⟨_,GL 96 rfl T,(),rfl,rfl,rfl⟩
    |refine Idx.mk i rfl n ?_
     exact⟨_,jt,(),rfl,rfl,rfl⟩
    |refine aq I ?_
     exact⟨_,jt,(),rfl,rfl,rfl⟩
  conv=>whnf
  refine⟨⟨i+1,n⟩,B,?_⟩;exact BV (i:=i+1) (Z9 _) rfl rfl rfl rfl rfl (congrArg (AV.si .i64) G) rfl rfl
 have hKm:(X.K K[i]).isSome=true:=(m8 t).1 (M▸q0k n);obtain⟨e,W⟩:=q0s.1 hKm;have D:(dt X k).K K[i]=some e:=by rw[GN,if_neg Q];exact W
 have J:(cpF X).K K[i]=some {e with lab:=cj e.lab}:=by unfold cpF;simp only[W];rfl
 have T:(!db K[i] k)=true:=by
  cases q:db K[i] k with
  |false=>rfl
  |true=>exact absurd (a8.1 q) Q
 obtain⟨O,hO⟩:∃O,O=bH 0 1099511627776 e.L:=⟨_,rfl⟩;have hO9:O.length<=1000000:=by rw[hO];exact VX (hI.bnd t) W
 refine qq.mk Unit 2 (λ_=>(kyE K i K[i] k p w d O (nF 33) (p,p,p),(kzH (dt X k) (cpF X) p w))) ?_ (λ_=>?_)
 ·conv=>whnf
  refine ag.dec (λ_=>?_) (λh=>absurd (q0v.2 n) h)
  conv=>whnf
  exact⟨(),Cov.fl (m:=2) (Z9 _) ⟨e0,ae.aA rfl,ae.frE rfl,ae.aA rfl,.bool rfl,.int rfl,trivial⟩ ⟨.inl ⟨_,rfl,ak.sep _⟩,.inl ⟨_,rfl,ak.sep _⟩,trivial⟩ rfl⟩
 conv=>whnf
 refine BS _ (p,p,p) (kyE K i K[i] k p w d O) (λf g=>(kyH (dt X k) (cpF X) e O p w f g).1) (λf g=>(kyH (dt X k) (cpF X) e O p w f g).2) [([],[],none),([],[],none),([0,1],[],none),([2],[],none),([],[],none),([3,4],[],none),([5],[],none),([6],[],none),([6],[],none),([6],[],none),([8,9,6],[],none),([10,6],[],none),([7,11,6],[12,20,21,27,28],some 2),([12,6],[],none),([13,12,6],[],none),([14],[],none),([14],[],none),([14],[],none),([16,17,14],[],none),([18,14],[],none),([12,15,19,14],[20,21,27,28],some 8),([20,14],[21,27,28],some 14),([14],[],none),([14],[],none),([14],[],none),([23,24,14],[],none),([25,14],[],none),([22,26,21,14],[27,28],some 18),([27,14],[28],some 24),([21,28,14],[],none),([29,14],[],none),([14,30,6],[],none),([6,31],[],none)] (by kernel_rfl) 33 (by kernel_rfl) rfl (by kernel_rfl) ?_ λg=>?_
 ·refine⟨?_,?_,?_,?_,?_,?_,?_,?_,?_,?_,?_,?_,?_,?_,?_,?_,?_,?_,?_,?_,?_,?_,?_,?_,?_,?_,?_,?_,?_,?_,?_,?_,?_,trivial⟩
  all_goals
   intro f g
   try refine⟨rfl,?_⟩
   conv=>whnf
   first
   |exact⟨_,jt,g,rfl,rfl,rfl⟩
   |exact⟨_,GL 96 rfl T,g,rfl,rfl,rfl⟩
   |refine Idx.mk i rfl n ?_
    exact⟨_,jt,g,rfl,rfl,rfl⟩
   |refine aq I ?_
    exact⟨_,jt,g,rfl,rfl,rfl⟩
   |exact⟨0,p,dt X k,K[i],_,rfl,by decide,by decide,.cons .same .nil,rfl,rfl,.inr ⟨e,D,λa=>⟨_,jt,(a,g.2),rfl,rfl,rfl⟩⟩⟩
   |exact⟨0,p,dt X k,K[i],_,rfl,by decide,by decide,.cons .same .nil,rfl,rfl,.inr ⟨e,D,λa=>⟨_,jt,(g.1,a,g.2.2),rfl,rfl,rfl⟩⟩⟩
   |exact⟨1,w,cpF X,K[i],_,rfl,by decide,by decide,.cons .same .nil,rfl,rfl,.inr ⟨_,J,λa=>⟨_,jt,(g.1,g.2.1,a),rfl,rfl,rfl⟩⟩⟩
   |exact⟨13,g.2.1,e.S,e.L,O,rfl,by decide,rfl,⟨by decide,rfl,rfl,rfl,rfl⟩,⟨_,_,0,1099511627776,rfl,rfl,rfl,hO⟩,⟨_,jt,g,rfl,rfl,rfl⟩⟩
   |exact⟨23,g.2.2,e.S,e.L,O,rfl,by decide,rfl,⟨by decide,rfl,rfl,rfl,rfl⟩,⟨_,_,0,1099511627776,rfl,rfl,rfl,hO⟩,⟨_,jt,g,rfl,rfl,rfl⟩⟩
   |exact⟨O,O,.inr (.inl (.inl ⟨17,0,0,smp O,smp O,⟨rfl,by decide⟩,.inr ⟨_,rfl⟩,bj (bg O),bM O⟩)),.inr (.inl (.inl ⟨27,0,0,smp O,smp O,⟨rfl,by decide⟩,.inr ⟨_,rfl⟩,bj (bg O),bM O⟩)),hO9,hO9,⟨_,GL 120 rfl (KM _),g,rfl,rfl,rfl⟩⟩
 conv=>whnf
 refine⟨⟨i+1,n⟩,B,?_⟩;exact BV (i:=i+1) (Z9 _) rfl rfl rfl rfl rfl (congrArg (AV.si .i64) G) rfl rfl
end Go.Proofs.YtflehenfikoniaaGreat
end
