/- Texts of our own, joined: the engine, the machine that runs code, and what is known of the functions. -/
import Derived.Test.YtflehenfikoniaaGreatRows
import Derived.WalkKit
import Derived.Deep.Quiet
import Derived.ProofKit
import Derived.Laws.StructEq
import Derived.LaidEql
import Derived.Laws.BytesArg
import Derived.Maps.RangeRun
import Derived.RangeFuncSeq
import Derived.Scope
import Derived.Laws.Strings
import Derived.Laws.Strings2
import Derived.Below
import Derived.Carry
import Derived.OpenShut
import Derived.ChangeMaps5
import Derived.Deep.Slices
import Derived.Deep.SlicePairs
import Derived.SizedLaws
import Derived.Laws.BitsAllLaws
import Derived.RangeFuncRecord
import Derived.Test.YtflehenfikoniaaGreatJe
import Derived.Test.YtflehenfikoniaaGreatJc
set_option linter.unusedSimpArgs false
set_option linter.unusedVariables false
set_option maxHeartbeats 16000000
set_option maxRecDepth 100000
noncomputable section
namespace Go.Proofs.YtflehenfikoniaaGreat
open Go Go.RowKit Go.ChangeShapes Go.WideShapes
theorem K3:ak 14 FY:=λargs H n f b g c h i K d a e=>by
 unfold FY at b;split at b
 ·exact ik (v:= .bool true) RO rfl K2 b d e (by kernel_rfl) HR.ro0 (by rw[a.aP];exact .nil)
 ·exact b.elim
structure Oq where
 kind:Int
 key:Tx
 t:Int
 v:Int
 p:Int
 z:Int
 ret:Int
 pol:Int
 lab:List Lab
 r:Rl
def opC(o:Oq):List AV:=[.si .i64 o.kind,.ss o.key,.si .i64 o.t,.si .i64 o.v,.si .i64 o.p,.si .i64 o.z,.si .i64 o.ret,.si .i64 o.pol,gL o.lab,.ss o.r.src,.ss o.r.dst,.si .i64 o.r.kind,.si .i64 o.r.size,.si .i64 o.r.align]
def oqC(S:List Oq):List AV:=S.flatMap opC
theorem OY(o:Oq):(opC o).all mC=true:=rfl
theorem Es:∀S:List Oq,(oqC S).all mC=true
 | []=>rfl
 |o::S=>by
  show((opC o)++oqC S).all mC=true;rw[List.all_append,OY,Es S];rfl
theorem yf(S:List Oq):(oqC S).length=S.length*14:=by
 induction S with
 |nil=>rfl
 |cons o S a=>show(opC o++oqC S).length=_;rw[Z6,a,Z9];show 14+_=_;omega
theorem OZ(S:List Oq)(i:Nat):(oqC S).drop (i*14)=oqC (S.drop i):=by
 induction S generalizing i with
 |nil=>simp[oqC]
 |cons o S a=>
  cases i with
  |zero=>rw[q1n,q4p,q4p]
  |succ i=>
   rw[List.drop_succ_cons,<-a];show(opC o++oqC S).drop _=_;rw[show(i+1)*14=(opC o).length+i*14 by show _=14+_;omega,List.drop_append,List.drop_of_length_le (by omega),q2h];congr 1;omega
theorem IM{S:List Oq}{i o:Nat}(h:i<S.length)(ho:o=i*14):bl (oqC S) o 14=some (opC S[i]):=by
 subst ho;unfold bl;rw[q0u (by rw[yf];omega),OZ,q0k h];rfl
structure Oq.In(o:Oq):Prop where
 kind:aQ o.kind
 t:aQ o.t
 v:aQ o.v
 p:aQ o.p
 lab:o.lab.length<=maxLen
section
variable {H:Type} {enc:TypeId×Value->H} {P:Program} {W:World} {held:Bool}
def O0:Value->Tx
 | .string s=>s.data.toList.map UInt8.toNat
 |_=> []
def Et:List Value->Lab
 | [a,b]=>(O0 a,O0 b)
 |_=>([],[])
theorem zQ{Tr:TypeId->Value->Prop}:∀{rows:List (List Value)},(∀r∈rows,jN Tr [.str,.str] r)->∀φ:Ph,VRs φ (cN (rows.map Et)) rows.flatten
 | [],_,φ=> .nil
 |r::rows,h,φ=>by
  obtain⟨d,c⟩:=h r q0b
  match r,d,c with
  | [v,w],_,c=>
   obtain⟨a,rfl,f⟩:=c 0 _ v rfl rfl
   obtain⟨b,rfl,g⟩:=c 1 _ w rfl rfl
   exact .cons (mH a) (.cons (mH b) (zQ (λx e=>h x (Y4 _ e)) φ))
theorem zS:∀l:List Lab,(cN l).all mC=true
 | []=>rfl
 |y::l=>zS l
theorem O1(l:List Lab):(cN l).length=l.length*2:=by
 induction l with
 |nil=>rfl
 |cons y l a=>show(cN l).length+1+1=_;rw[a,Z9];omega
theorem K4{t e:TypeId}{d fuel:Nat}{v:Value}{D:DataW H}{j:List MemPlace}(l:P.underlying t=some (.slice e))(n:AK P d e=some [.str,.str])(g:P.cellsOf e=2)(o:DataW.trod enc P W 0 (λ_=>true) held fuel t [v]=some (D,j)):
 ∃(L:List Lab) (z:Fz->Prop),lg W z/\(∀χ:Ph,(∀q,z q->χ.z q)->VR χ (gL L) v)/\L.length<=maxLen:=by
 obtain⟨rows,p,G,s,w⟩:=wT l n rfl g (by decide) o
 rcases w with⟨rfl,a,C,rfl,x⟩|⟨b,off,cap,I,u,fz,rfl,f,y,h,c⟩
 ·exact⟨[],λ_=>False,.none,λχ _=> .fre x,Y5 _⟩
 ·obtain⟨A,B⟩:=GX (m:=rows.length) (k:=2) (L:=cN (rows.map Et)) (z:=λq=>q=⟨b,off,cN (rows.map Et)⟩) y f (by rw[O1,Y9]) h (zS _) rfl (zQ (λr E=>(p r E).1) _) c
  exact⟨rows.map Et,λq=>q=⟨b,off,cN (rows.map Et)⟩,λq F=>by subst F;exact A,λχ i=>by unfold gL;rw[Y9];exact B χ i,by rw[Y9];exact s⟩
abbrev Vm(t:TypeId):List Kd:=[.int .i64,.str,.int .i64,.int .i64,.int .i64,.int .i64,.int .i64,.int .i64,.sl t,.str,.str,.int .i64,.int .i64,.int .i64]
theorem RR{p el:TypeId}{d:Nat}{r:List Value}(s:P.underlying p=some (.slice el))(b:AK P d el=some [.str,.str])(c:P.cellsOf el=2)(h:jN (TrS enc P W 0 (λ_=>true) held) (Vm p) r):
 ∃(o:Oq) (z:Fz->Prop),o.In/\lg W z/\∀χ:Ph,(∀q,z q->χ.z q)->VRs χ (opC o) r:=by
 obtain⟨t,a⟩:=h
 match r,t,a with
 | [u,v,w,x,y,A,B,C,D,E,v10,v11,e,f],_,a=>
  obtain⟨F,rfl,G⟩:=a 0 _ u rfl rfl
  obtain⟨I,rfl,_⟩:=a 1 _ v rfl rfl
  obtain⟨J,rfl,K⟩:=a 2 _ w rfl rfl
  obtain⟨M,rfl,N⟩:=a 3 _ x rfl rfl
  obtain⟨O,rfl,Q⟩:=a 4 _ y rfl rfl
  obtain⟨R,rfl,_⟩:=a 5 _ A rfl rfl
  obtain⟨S,rfl,_⟩:=a 6 _ B rfl rfl
  obtain⟨T,rfl,_⟩:=a 7 _ C rfl rfl
  obtain⟨g,⟨D2,U⟩,i⟩:=a 8 _ D rfl rfl
  obtain⟨V,rfl,_⟩:=a 9 _ E rfl rfl
  obtain⟨j,rfl,_⟩:=a 10 _ v10 rfl rfl
  obtain⟨k,rfl,_⟩:=a 11 _ v11 rfl rfl
  obtain⟨l,rfl,_⟩:=a 12 _ e rfl rfl
  obtain⟨m,rfl,_⟩:=a 13 _ f rfl rfl
  obtain⟨L,z,X,Y,Z⟩:=K4 s b c i;exact⟨⟨F,O0 (.string I),J,M,O,R,S,T,L,⟨O0 (.string V),O0 (.string j),k,l,m⟩⟩,z,⟨.of G,.of K,.of N,.of Q,Z⟩,X,λχ n=> .cons (.si _ _) (.cons (mH _) (.cons (.si _ _) (.cons (.si _ _) (.cons (.si _ _) (.cons (.si _ _) (.cons (.si _ _) (.cons (.si _ _) (.cons (Y χ n) (.cons (mH _) (.cons (mH _) (.cons (.si _ _) (.cons (.si _ _) (.cons (.si _ _) .nil)))))))))))))⟩
theorem RS{t e s el:TypeId}{d d2:Nat}{v:Value}{D:DataW H}{U:List MemPlace}(V:P.underlying t=some (.slice e))(X:AK P d e=some (Vm s))(w:P.cellsOf e=14)(Y:P.underlying s=some (.slice el))(A:AK P d2 el=some [.str,.str])(B:P.cellsOf el=2)(j:v.cells.toList=[v])(hd:DataW.Trod enc P W 0 (λ_=>true) held t v D U):
 ∃(S:List Oq) (z:Fz->Prop),(∀o∈S,o.In)/\lg W z/\(∀χ:Ph,(∀q,z q->χ.z q)->VR χ (.fr S.length 14 (oqC S)) v)/\(S=[]∨∃E F,D= .slice ((List.range S.length).map F) E)/\S.length<=maxLen:=by
 obtain⟨fuel,Q⟩:=hd;rw[j]at Q;obtain⟨rows,Z,h2,h3,h4⟩:=wT (c:=14) V X rfl w (by decide) Q
 rcases h4 with⟨rfl,a,C,rfl,hC⟩|⟨b,off,cap,cc,u,fz,rfl,l,hb,G,n⟩
 ·exact⟨[],λ_=>False,(λx h=>by cases h),.none,λχ _=> .fre hC,.inl rfl,Y5 _⟩
 ·have inner:∀(R:List (List Value)),(∀r∈R,jN (TrS enc P W 0 (λ_=>true) held) (Vm s) r/\r.length=14)->∃(S:List Oq) (z:Fz->Prop),S.length=R.length/\(∀o∈S,o.In)/\lg W z/\∀χ:Ph,(∀q,z q->χ.z q)->VRs χ (oqC S) R.flatten:=λR=>by
   induction R with
   |nil=>intro _;exact⟨[],λ_=>False,rfl,(λx h=>by cases h),.none,λχ _=> .nil⟩
   |cons r R ih=>
    intro T;obtain⟨S,z,i,I,J,K⟩:=ih λx p=>T x (Y4 _ p)
    obtain⟨g1,g2⟩:=T r q0b;obtain⟨o,y,M,N,j3⟩:=RR Y A B g1;refine⟨o::S,λq=>y q∨z q,by simp[i],λx p=>?_,N.or J,λχ g=>?_⟩
    ·rcases Z4.1 p with rfl|p
     ·exact M
     ·exact I x p
    ·show VRs χ (opC o++oqC S) (r++R.flatten);exact(j3 χ λq f=>g q (.inl f)).append (K χ λq f=>g q (.inr f))
  obtain⟨S,z,i,I,J,K⟩:=inner rows Z
  let O:Fz->Prop:=λq=>z q∨q=⟨b,off,oqC S⟩
  obtain⟨M,N⟩:=GX (m:=rows.length) (k:=14) (L:=oqC S) (z:=O) hb l (by rw[yf,i]) G (Es S) (.inr rfl) (K _ λq f=> .inl f) n;exact⟨S,O,I,λq f=>f.elim (λf=>FzR.mono (φ:=phF z) (ψ:=phF O) (λ_ h=>Or.inl h) (J q f)) (λf=>by subst f;exact M),λχ g=>by rw[i];exact N χ g,by rw[i];exact h2.imp (λq=>by rw[q]at i;exact q0c i) id,by rw[i];exact h3⟩
end
end Go.Proofs.YtflehenfikoniaaGreat
namespace Go.Proofs.YtflehenfikoniaaGreat
open Go Go.RowKit
def O3(X:SpV):Prop:=∀d r,X.R d=some r->X.R r.src=none
def aT(X:SpV)(E:Tx->List Int)(k:Tx):List Int:=match X.R k with
 |none=>E k
 |some r=>(E r.src).map (bB r)
structure Few(X:SpV)(b:Nat)(E:Tx->List Int):Prop where
 len:∀k,(E k).length<=b
 mem:∀k e,X.K k=some e->∀x∈e.L,x.1∈aT X E k
theorem IN:∀{l m:List Int},l.Nodup->(∀x∈l,x∈m)->l.length<=m.length
 | [],_,_,_=>Y5 _
 |x::l,m,h,f=>by
  obtain⟨i,j⟩:=q2s.1 h;obtain⟨a,c,e⟩:=List.append_of_mem (f x q0b)
  have:=IN (l:=l) (m:=a++c) j λy g=>by
   have d:=f y (Y4 _ g);rw[e]at d;simp only[q1e,Z4]at d⊢;rcases d with d|rfl|d
   ·exact .inl d
   ·exact absurd g i
   ·exact .inr d
  rw[e];simp only[Z6,Z9]at this⊢;omega
theorem Up.nodup{L:Smp}(h:Up L):(L.map Prod.fst).Nodup:=by
 unfold List.Nodup;rw[List.pairwise_map];exact h.imp λq=>by omega
section
variable {X Y:SpV} {b:Nat} {E:Tx->List Int} {r:Rl} {t was:Int} {k:Tx} {c:SpC}
theorem O4(h:Few X b E):(aT X E k).length<=b:=by
 unfold aT;split
 ·exact h.len k
 ·rw[Y9];exact h.len _
theorem Few.bnd(h:Few X b E)(f:bF X c):Bnd X b:=λk e a=>by
 have d:=IN (f.ser k e a).up.nodup (m:=aT X E k) λt g=>by
  obtain⟨x,i,rfl⟩:=q0t.1 g;exact h.mem k e a x i
 rw[Y9]at d;exact Y7 d (O4 h)
theorem vw(r:Rl)(x:Int):bB r (bB r x)=bB r x:=by
 unfold bB;generalize r.size=s;generalize r.align=a;by_cases h:sc s a=true/\oa x=true/\a<=x
 ·have e:eu x s a=x-(x-a)%s:=if_pos h;obtain⟨d,i,o⟩:=h;have j:=of_decide_eq_true d;have l:=of_decide_eq_true i;have p:=Int.emod_nonneg (x-a) (show s≠0 by omega);have u:=Int.emod_lt_of_pos (x-a) (show 0<s by omega)
  have v:(x-a)%s<=x-a:=by
   have:=q3o (x-a) s;have f:0<=(x-a)/s:=Int.ediv_nonneg (by omega) (by omega);have g:0<=s*((x-a)/s):=Int.mul_nonneg (by omega) f;omega
  have m:(x-(x-a)%s-a)%s=0:=by
   have f:=q3o (x-a) s;have g:x-(x-a)%s-a=s*((x-a)/s):=by omega
   rw[g];exact Int.mul_emod_right _ _
  rw[e];unfold eu;rw[if_pos ⟨d,decide_eq_true (by omega),by omega⟩,m];omega
 ·have e:eu x s a=0:=if_neg h;rw[e];unfold eu;split
  ·rename_i q;have:=of_decide_eq_true q.1;have n:a=0:=by omega
   subst n;simp
  ·rfl
theorem yg{L:Smp}{t v p:Int}{x:Int×Int}(h:x∈(dU L t v p).1):x.1=t∨∃y∈L,y.1=x.1:=by
 unfold dU at h;split at h
 ·split at h
  ·exact .inr ⟨x,h,rfl⟩
  ·rcases List.mem_or_eq_of_mem_set (show x∈L.set _ _ from h)with h|rfl
   ·exact .inr ⟨x,h,rfl⟩
   ·exact .inl rfl
 ·rcases oY.1 h with rfl|h
  ·exact .inl rfl
  ·exact .inr ⟨x,h,rfl⟩
theorem yh{S:Sr}{L:Smp}{t v p:Int}{x:Int×Int}(h:x∈(bJ S L t v p).1.2):x.1=t∨∃y∈L,y.1=x.1:=by
 unfold bJ at h;generalize (if p=0 then S.pol else p)=q at h;split at h
 ·exact .inr ⟨x,h,rfl⟩
 ·split at h
  ·exact .inr ⟨x,h,rfl⟩
  ·split at h
   ·exact yg (dN.1 h).1
   ·exact .inr ⟨x,h,rfl⟩
theorem yi{S:Sr}{L:Smp}{ret p:Int}{x:Int×Int}(h:x∈(cV S L ret p).1.2):x∈L:=by
 unfold cV at h;split at h
 ·exact(dN.1 h).1
 ·exact h
theorem K5{s d:cU}{x:Int×Int}(h:x∈(du r t s d).2):x.1=bB r t∨∃y∈d.L,y.1=x.1:=by
 unfold du at h;split at h
 ·exact .inr ⟨x,h,rfl⟩
 ·split at h
  ·exact yh h
  ·exact .inr ⟨x,(dN.1 h).1,rfl⟩
def Kp(X Y:SpV):Prop:=Y.R=X.R/\Y.n=X.n/\∀x,(Y.K x).isSome=(X.K x).isSome
theorem Kp.Gu:Kp X X:=⟨rfl,rfl,λ_=>rfl⟩
theorem Kp.trans{Z:SpV}(h:Kp X Y)(k:Kp Y Z):Kp X Z:=⟨k.1.trans h.1,k.2.1.trans h.2.1,λx=>(k.2.2 x).trans (h.2.2 x)⟩
theorem kQ:Kp X (bU X r t):=⟨ie.1,ie.2,λ_=>jy⟩
theorem vx(h:Kp X Y):aT Y E k=aT X E k:=by unfold aT;rw[h.1]
theorem Few.sZ(h:Few X b E)(g:X.R r.dst=some r)(i:bB r t∈(E r.src).map (bB r)):Few (bU X r t) b E:=
 ⟨h.len,λk e a x f=>by
  rw[vx kQ];unfold bU at a;split at a
  ·rename_i s d m j;rw[c9]at a;split at a
   ·rename_i q;subst q;injection a with a;subst a;rcases K5 f with q|⟨y,l,q⟩
    ·rw[q];unfold aT;rw[g];exact i
    ·rw[<-q];exact h.mem _ d j y l
   ·exact h.mem k e a x f
  ·exact h.mem k e a x f⟩
theorem kR{e a:cU}(h:X.K k=some e):Kp X (fu X k a):=⟨rfl,rfl,λx=>by
 rw[c9];by_cases q:x=k
 ·subst q;rw[if_pos rfl,h];rfl
 ·rw[if_neg q]⟩
theorem nV:Kp X (cq k was t X r):=by
 unfold cq;split
 ·exact kQ.trans kQ
 ·exact kQ
theorem rB:∀(a:List Rl) {X:SpV},Kp X (a.foldl (cq k was t) X)
 | [],_=> .Gu
 |_::a,_=>nV.trans (rB a)
theorem Few.steps(e:was∈E k)(f:t∈E k):∀(a:List Rl) {X:SpV},Few X b E->(∀r∈a,X.R r.dst=some r/\r.src=k)->Few (a.foldl (cq k was t) X) b E
 | [],_,h,_=>h
 |r::a,X,h,g=>by
  obtain⟨d,i⟩:=g r q0b;have l:bB r was∈(E r.src).map (bB r):=by rw[i];exact q0t.2 ⟨_,e,rfl⟩
  have j:bB r t∈(E r.src).map (bB r):=by rw[i];exact q0t.2 ⟨_,f,rfl⟩
  refine Few.steps e f a (X:=cq k was t X r) ?_ λq m=>?_
  ·unfold cq;split
   ·exact(h.sZ d l).sZ (by rw[ie.1];exact d) j
   ·exact h.sZ d j
  ·rw[(nV (X:=X)).1];exact g q (Y4 _ m)
theorem kJ{s:Int×SpV}{x:Int×Int}:Kp s.2 (bV r s x).2:=by
 unfold bV;split
 ·exact kQ
 ·exact .Gu
theorem pF:∀(L:Smp) {s:Int×SpV},Kp s.2 (L.foldl (bV r) s).2
 | [],_=> .Gu
 |_::L,_=>kJ.trans (pF L)
theorem Few.Gv:∀(L:Smp) {s:Int×SpV},Few s.2 b E->s.2.R r.dst=some r->(∀x∈L,x.1∈E r.src)->Few (L.foldl (bV r) s).2 b E
 | [],_,h,_,_=>h
 |x::L,s,h,a,d=>by
  refine Few.Gv L (s:=bV r s x) ?_ ?_ λy e=>d y (Y4 _ e)
  ·unfold bV;split
   ·refine h.sZ a ?_;rw[vw];exact q0t.2 ⟨_,d x q0b,rfl⟩
   ·exact h
  ·rw[(kJ (s:=s)).1];exact a
theorem uc{gone:Smp}:∀(a:List Rl) {X:SpV},Kp X (a.foldl (cu gone) X)
 | [],_=> .Gu
 |r::a,X=>(show Kp X (cu gone X r) from pF gone).trans (uc a)
theorem Few.O5{gone:Smp}(d:∀x∈gone,x.1∈E k):∀(a:List Rl) {X:SpV},Few X b E->(∀r∈a,X.R r.dst=some r/\r.src=k)->Few (a.foldl (cu gone) X) b E
 | [],_,h,_=>h
 |r::a,X,h,e=>by
  obtain⟨f,g⟩:=e r q0b;refine Few.O5 d a (X:=cu gone X r) (Few.Gv gone (s:=(-1,X)) h f λx i=>by rw[g];exact d x i) λq j=>?_
  rw[(show Kp X (cu gone X r) from pF gone).1];exact e q (Y4 _ j)
structure Inv(X:SpV)(b:Nat):Prop where
 links:Links X
 noch:O3 X
 n:X.n<=b
 few:∃E,Few X b E
theorem Inv.mono{a:Nat}(h:Inv X b)(d:b<=a):Inv X a:=⟨h.links,h.noch,Y7 h.n d,h.few.elim λE e=>⟨E,λk=>Y7 (e.len k) d,e.mem⟩⟩
theorem Inv.bnd(h:Inv X b)(a:bF X c):Bnd X b:=h.few.elim λ_ e=>e.bnd a
theorem Inv.no:Inv lF 0:=⟨λ_ _ h=>(by cases h),λ_ _ h=>(by cases h),Z3 _,λ_=> [],λ_=>Z3 _,λ_ _ h=>(by cases h)⟩
theorem Inv.cm{f:Nat}(h:Inv X b)(a:Kp X Y)(g:b<=f)(i:∃E,Few Y f E):Inv Y f:=
 ⟨λd r e=>by rw[a.1]at e;rw[a.2.2,a.2.2];exact h.links d r e,λd r e=>by rw[a.1]at e⊢;exact h.noch d r e,by rw[a.2.1];exact Y7 h.n g,i⟩
theorem vy(h:dI X k=0):X.R k=none:=by
 unfold dI at h;split at h
 ·split at h
  ·cases h
  ·rename_i q;cases e:X.R k with
   |none=>rfl
   |some r=>rw[e]at q;exact absurd rfl q
 ·cases h
theorem Inv.add(h:Inv X b)(n:bF X c)(k:Tx)(t v p:Int):Inv (jc X k t v p).1 (b+2):=by
 have j:=h.mono (q0q b 2);unfold jc;split
 ·exact j
 ·rename_i g;have o:=vy (q2t g);split
  ·exact j
  ·rename_i e l;split
   ·exact j
   ·obtain⟨E,i⟩:=h.few;have a:Kp X (uX X k e t v p):=kR l;refine h.cm (a.trans (rB _)) (q0q b 2) ⟨λx=>if x=k then t::e.S.mx::E k else E x,Few.steps (by simp) (by simp) _ ⟨λx=>?_,λx y d z m=>?_⟩ λr s=>?_⟩
    ·split
     ·have:=i.len k;simp only[Z9];omega
     ·have:=i.len x;omega
    ·have up:∀u,u∈aT X E x->u∈aT X (λx=>if x=k then t::e.S.mx::E k else E x) x:=λu f=>by
      unfold aT at f⊢;split at f
      ·dsimp only;split
       ·rename_i q;subst q;exact Y4 _ (Y4 _ f)
       ·exact f
      ·obtain⟨w,g,rfl⟩:=q0t.1 f;refine q0t.2 ⟨w,?_,rfl⟩;dsimp only;split
       ·rename_i q;rw[q]at g;exact Y4 _ (Y4 _ g)
       ·exact g
     rw[vx a];unfold uX at d;rw[c9]at d;split at d
     ·rename_i q;subst q;injection d with d;subst d;rcases yh m with q|⟨u,f,q⟩
      ·rw[q];unfold aT;rw[o];simp
      ·rw[<-q];exact up _ (i.mem x e l u f)
     ·exact up _ (i.mem x y d z m)
    ·rw[a.1];exact n.mq.1 s
theorem Inv.del(h:Inv X b)(j:bF X c)(k:Tx)(x y:Int):Inv (pD X k x y).1 b:=by
 unfold pD;split
 ·exact h
 ·rename_i l;have m:=vy (q2t l);split
  ·exact h
  ·rename_i e i;obtain⟨E,f⟩:=h.few;have a:Kp X (fu X k {e with L:=aE e.L x y}):=kR i;refine h.cm (a.trans (uc _)) (Z3 b) ⟨E,Few.O5 (k:=k) (λz g=>?_) _ ⟨f.len,λu w d z g=>?_⟩ λr n=>?_⟩
   ·have:=f.mem k e i z (eQ.1 g).1;unfold aT at this;rw[m]at this;exact this
   ·rw[vx a];rw[c9]at d;by_cases q:u=k
    ·rw[if_pos q]at d;subst q;injection d with d;subst d;exact f.mem u e i z (dN.1 g).1
    ·rw[if_neg q]at d;exact f.mem u w d z g
   ·rw[a.1];exact j.mq.1 n
theorem Inv.inc(h:Inv X b)(d:bF X c)(k:Tx)(t y:Int):Inv (pE X k t y).1 (b+2):=by
 have a:=h.mono (q0q b 2);unfold pE;split
 ·exact a
 ·split
  ·exact a
  ·split
   ·exact a
   ·split
    ·exact a
    ·split
     ·exact a
     ·split<;>exact h.add d _ _ _ _
theorem Inv.cr(h:Inv X b){y:cU}(l:∀x∈y.L,∃e,X.K k=some e/\x∈e.L):Inv (crK X k y) (b+2):=by
 have g:∀x,(X.K x).isSome=true->((crK X k y).K x).isSome=true:=λx m=>by
  show(if x=k then some y else X.K x).isSome=true;split
  ·rfl
  ·exact m
 obtain⟨E,f⟩:=h.few;refine⟨λd r i=>⟨g _ (h.links d r i).1,g _ (h.links d r i).2⟩,h.noch,?_,E,λx=>?_,λx e o z j=>?_⟩
 ·have:=h.n;show X.n+1<=b+2;omega
 ·have:=f.len x;omega
 ·have a:(if x=k then some y else X.K x)=some e:=o;show z.1∈aT X E x;by_cases q:x=k
  ·rw[if_pos q]at a;injection a with a;subst a q;obtain⟨p,s,u⟩:=l z j;exact f.mem x p s z u
  ·rw[if_neg q]at a;exact f.mem x e a z j
theorem Inv.create(h:Inv X b)(k:Tx)(z ret pol:Int)(l:List Lab):Inv (crF X k z ret pol l).1 (b+2):=by
 have a:=h.mono (q0q b 2);unfold crF;split
 ·exact a
 ·split
  ·split
   ·exact a
   ·exact h.cr λx d=>(by cases d)
  ·exact a
theorem Inv.alter(h:Inv X b)(k:Tx)(ret pol:Int)(l:List Lab):Inv (rA X k ret pol l).1 (b+2):=by
 have a:=h.mono (q0q b 2);unfold rA;split
 ·exact a
 ·rename_i e d;split
  ·split
   ·exact a
   ·exact h.cr λx f=>⟨e,d,yi f⟩
  ·exact a
theorem Inv.SU(h:Inv X b)(f:∀d r,Y.R d=some r->X.R d=some r)(j:∀x e,Y.K x=some e->X.K x=some e)(l:Links Y)(hn:Y.n<=b):Inv Y b:=by
 obtain⟨E,g⟩:=h.few;refine⟨l,λd r m=>?_,hn,λx=>aT X E x,λx=>O4 g,λx e o z p=>?_⟩
 ·have:=h.noch d r (f d r m);cases q:Y.R r.src with
  |none=>rfl
  |some y=>rw[f _ _ q]at this;cases this
 ·have s:=g.mem x e (j x e o) z p
  have key:∀w,z.1∈aT X E x->aT Y (aT X E) x=w->z.1∈w:=λw a u=>by
   subst u;unfold aT;cases q:Y.R x with
   |none=>exact a
   |some r=>
    have i:=f x r q;have v:=h.noch x r i;dsimp only;rw[v];unfold aT at a;rw[i]at a;exact a
  exact key _ s rfl
theorem Inv.unl(h:Inv X b)(s d:Tx):Inv (qj X s d).1 b:=by
 unfold qj;split
 ·exact h
 ·split
  ·have e:∀x r,(m5 X d none).R x=some r->X.R x=some r:=λx r a=>by
    have a:(if x=d then none else X.R x)=some r:=a;split at a
    ·cases a
    ·exact a
   exact h.SU e (λ_ _ f=>f) (λx r a=>h.links x r (e x r a)) h.n
  ·exact h
theorem Inv.drop(h:Inv X b)(l:bF X c)(k:Tx):Inv (jz X k) b:=by
 unfold jz;split
 ·have i:∀d r,(match X.R d with
   |some r=>if qB k r=true then none else some r
   |none=>none)=some r->X.R d=some r/\qB k r=false:=λd r a=>by
   split at a
   ·rename_i s m;split at a
    ·cases a
    ·rename_i q;injection a with a;subst a;exact⟨m,by simpa using q⟩
   ·cases a
  refine h.SU (λd r a=>(i d r a).1) (λx e f=>?_) (λd r a=>?_) h.n
  ·dsimp only at f;split at f
   ·cases f
   ·exact f
  ·obtain⟨j,g⟩:=i d r a;have hd:=l.Ei j;unfold qB at g;simp only[Bool.or_eq_false_iff,decide_eq_false_iff_not]at g;obtain⟨o,p⟩:=h.links d r j;dsimp only;rw[if_neg g.1,if_neg (by rw[<-hd];exact g.2)];exact⟨o,p⟩
 ·exact h
theorem Inv.link(h:Inv X b)(B:bF X c)(r:Rl):Inv (lkF X r).1 (b+2):=by
 have W:=h.mono (q0q b 2)
 have C:(rlF X r).2≠0->(rlF X r).1=X:=by
  unfold rlF
  repeat' split
  all_goals first|exact λ_=>rfl|exact λq=>absurd rfl q
 unfold lkF;split
 ·rename_i q;rw[C q];exact W
 ·rename_i q
  have key:bk r=true/\(X.K r.src).isSome=true/\(X.K r.dst).isSome=true/\X.R r.src=none/\ofX X r.dst=[]/\(rlF X r).1={m5 X r.dst (some r)with n:=X.n+1}:=by
   have q:=q2t q;unfold rlF at q⊢;split at q
   ·rename_i P;split at q
    ·rename_i D;split at q
     ·cases q
     ·rename_i Z;split at q
      ·cases q
      ·rename_i y;rw[if_pos P,if_pos D,if_neg Z,if_neg y];refine⟨P,D.1,D.2,?_,?_,rfl⟩
       ·cases e:X.R r.src with
        |none=>rfl
        |some u=>rw[e]at y;exact absurd (Or.inl rfl) y
       ·cases e:ofX X r.dst with
        |nil=>rfl
        |cons u l=>rw[e]at y;exact absurd (Or.inr (by simp)) y
    ·cases q
   ·cases q
  obtain⟨k1,Q,S,T,k5,k6⟩:=key;obtain⟨d,hd⟩:=q0i.1 S;obtain⟨s,U⟩:=q0i.1 Q;have F:=iH k1;obtain⟨E,G⟩:=h.few;rw[k6];have e1:({m5 X r.dst (some r)with n:=X.n+1}:SpV).K r.dst=some d:=hd;have e2:({m5 X r.dst (some r)with n:=X.n+1}:SpV).K r.src=some s:=U;rw[e1,e2];dsimp only;have g:∀x,({m5 X r.dst (some r)with n:=X.n+1}:SpV).R x=if x=r.dst then some r else X.R x:=λ_=>rfl
  have H:Links ({m5 X r.dst (some r)with n:=X.n+1}:SpV):=λx u a=>by
   rw[g]at a;split at a
   ·rename_i w;injection a with a;subst a w;exact⟨Q,S⟩
   ·exact h.links x u a
  have I:O3 ({m5 X r.dst (some r)with n:=X.n+1}:SpV):=λx u a=>by
   rw[g]at a;rw[g];split at a
   ·rename_i w;injection a with a;subst a;rw[if_neg F];exact T
   ·rw[if_neg ?_]
    ·exact h.noch x u a
    ·intro w;have:u∈ofX X r.dst:=B.mq.2 ⟨by rw[B.Ei a];exact a,w⟩;rw[k5]at this;cases this
  have p:Links ({m5 X r.dst (some r)with n:=X.n+1}:SpV)/\O3 ({m5 X r.dst (some r)with n:=X.n+1}:SpV):=⟨H,I⟩;obtain⟨f,i⟩:∃f,f=({m5 X r.dst (some r)with n:=X.n+1}:SpV):=⟨_,rfl⟩;have A:f.K=X.K:=by rw[i];rfl
  have J:f.R r.dst=some r:=by rw[i,g,if_pos rfl]
  have M:∀x,x≠r.dst->f.R x=X.R x:=λx N=>by rw[i,g,if_neg N]
  have hn2:f.n<=b+1:=by rw[i];exact q4a h.n
  rw[<-i]at p⊢;have v:Kp f (sY f r.dst d):=kR (by rw[A];exact hd);have j:Kp f (sX r (sY f r.dst d) (bd 0 1099511627776 s.L)).2:=v.trans (pF _)
  have hf:Few (sY f r.dst d) (b+2) E:=⟨λx=>Y7 (G.len x) (q0q b 2),λx e m z V=>by
   rw[vx v];unfold sY at m;rw[c9]at m;split at m
   ·injection m with m;subst m;have o:=dN.1 V;have h4:=((B.ser _ _ hd).cW z o.1).1;omega
   ·rename_i w;rw[A]at m;have o:=G.mem x e m z V;unfold aT at o⊢;rw[M x w];exact o⟩
  have O:=Few.Gv (r:=r) (bd 0 1099511627776 s.L) (s:=(-1,sY f r.dst d)) hf (by rw[v.1];exact J) λx N=>by
   have o:=G.mem r.src s U x (eQ.1 N).1;unfold aT at o;rw[T]at o;exact o
  exact⟨λx u a=>by rw[j.1]at a;rw[j.2.2,j.2.2];exact p.1 x u a,λx u a=>by rw[j.1]at a⊢;exact p.2 x u a,by rw[j.2.1];omega,E,O⟩
end
def yj{X C:Type}(B:Obj X C)(R:X->List AV->X->AV->Prop)(args:List AV)(H:AH)(n:Nat)(κ:PK):Prop:=match args with
 |a::f=>∃b p x cs e v d,a=aK p/\b<n/\n<800000/\Res H n f d cs/\d.get b=some (.sep (B.Q x p))/\((∃c,B.ok x c)->R x cs e v/\κ v (d.set (some (.sep (B.Q e p))) aa b) n)
 |_=>False
def yC{X C:Type}(B:Obj X C)(b:X)(p:Nat×Nat)(v:AV):PK:=λu c d=>∃a,Re c d u a v/\a.get 0=some (.sep (B.Q b p))
theorem XT {X C:Type} {f:FuncId} {run:List AV->AH->Nat->PK->Prop} (t:ak f run) (J:bY Tryz.prog f=true) (B:Obj X C) {R:X->List AV->X->AV->Prop}
 (h:∀x cs d v p,(∃c,B.ok x c)->R x cs d v->cs.all gT=true/\gT v=true/\run (aK p::cs) (mkH [(0,.sep (B.Q x p))]) 1 (yC B d p v)):ak f (yj B R):=λargs H n κ F φ L M vs K N l P=>by
 unfold yj at F;split at F
 ·obtain⟨b,p,x,cs,d,v,G,rfl,T,hn9,A,hb,U⟩:=F;obtain⟨w1,V,q1,e1,r1⟩:=l.cons_inv;obtain⟨φ1,l1,D,W⟩:=A φ L M V N r1
  have E:∃c,B.ok x c:=by
   obtain⟨c,hc,_⟩:=(D.sep b _ hb).1;exact⟨c,hc⟩
  obtain⟨hR,Y⟩:=U E;obtain⟨s1,s2,s3⟩:=h x cs d v p E hR
  have xh:iX G n [b] [.sep (B.Q x p)]:=⟨q2s.2 ⟨Z5,.nil⟩,rfl,λi s o j a=>by
   match i,j,a with
   |0,j,a=>injection j with j;injection a with a;subst j a;exact⟨T,hb,.inr rfl⟩
   |i+1,j,_=>simp at j⟩
  refine dC (S:=[b]) (O:=[.sep (B.Q x p)]) (args0:=aK p::cs) (κ:=λv2 H2 n2=>v2=v/\n2=n/\H2=G.set (some (.sep (B.Q d p))) aa b) t.m J D xh ?_ ?_ (Q:=λv' H' m=>v'=v/\m=1/\H'=mkH [(0,.sep (B.Q d p))]) ?_ λu H' n' hq=>?_
  ·rw[q1];refine .cons e1 ?_;rw[mS s1];exact W
  ·intro χ v2 H2 n2 u g hle hg hu ⟨f1,f2,f4⟩;subst f1 f2 f4;exact P χ _ _ _ u g (l1.trans hle) hg hu Y
  ·refine⟨yC B d p v,s3,λu H' n' ⟨H2,g1,g2⟩=>⟨v,mkH [(0,.sep (B.Q d p))],1,λχ L M w N hu=>?_,rfl,rfl,rfl⟩⟩;obtain⟨ψ1,m1,hr3,hu3⟩:=g1 χ L M w N hu;obtain⟨ψ2,I,hr4⟩:=BB (k:=1) (O:=[.sep (B.Q d p)]) hr3 ⟨⟨_,g2,.refl rfl⟩,trivial⟩ (Z3 _);exact⟨ψ2,⟨λy q hy e=>I.1 y q hy (m1.b y q e),λq e=>I.2.1 q (m1.z q e),λq e=>m1.y q (I.2.2 q e)⟩,hr4,nM I.2.1 s2 hu3⟩
  ·obtain⟨g1,g2,g3⟩:=hq;subst g1 g2 g3;refine⟨1,G.set (some (.sep (B.Q d p))) aa b,Z3 _,λy o hy=>?_,(iZ (r:=λb=>b) s2).2,(iZ (m:=0) s2).1,rfl,rfl⟩;rcases PM.al aa G b y o hy with⟨rfl,a⟩|⟨j,a⟩
   ·injection a with a;subst a;exact .inl ⟨0,_,Nat.one_pos,rfl,rfl,rfl,rfl,rfl⟩
   ·exact .inr ⟨by simp;omega,a,λq=>absurd (List.mem_singleton.1 q) j⟩
 ·exact F.elim
theorem SV {X C:Type} {F:FuncId->EP} (e:aV F) (d:Nat) {f:FuncId} (a:bY Tryz.prog f=true) (B:Obj X C) {R:X->List AV->X->AV->Prop}
 (h:∀x cs b v p,(∃c,B.ok x c)->R x cs b v->cs.all gT=true/\gT v=true/\ax F d f (aK p::cs) (mkH [(0,.sep (B.Q x p))]) 1 (yC B b p v)):ak f (yj B R):=XT (ay e d f) a B h
theorem yC.told{X C:Type}{B:Obj X C}{a:X}{p:Nat×Nat}{u v:AV}{H:AH}{n:Nat}(e:mkT u=mkT v)(h:H.get 0=some (.sep (B.Q a p))):yC B a p v u H n:=⟨H,.told e,h⟩
theorem K6{l:List Lab}{i o:Nat}(h:i<l.length)(ho:o=i*2+1):nth (cN l) o=some (.ss l[i].2):=by
 subst ho;rw[fB]
 induction l generalizing i with
 |nil=>cases h
 |cons y l a=>
  cases i with
  |zero=>rfl
  |succ i=>
   show(AV.ss y.1::AV.ss y.2::cN l)[(i+1)*2+1]?=_;rw[show(i+1)*2+1=i*2+1+1+1 by omega,q1k,q1k];exact a (i:=i) (Nat.lt_of_succ_lt_succ h)
def oi(l:List Lab):Bool:=l.all λy=>decide (y.1.length<=100)&&decide (y.2.length<=100)
def iw(o:Oq):Bool:=decide (o.key.length<=100)&&(decide (o.lab.length<=12)&&(decide (o.r.src.length<=100)&&(decide (o.r.dst.length<=100)&&oi o.lab)))
def XU(cs:List AV)(v:AV):Prop:=∃o:Oq,cs=[.agg (opC o)]/\v= .sb (iw o)
def kLi:FuncId->EP:=bg 10 [] evP
theorem Vn:aV kLi:=au az (by kernel_rfl) (by kernel_rfl)
def liL (o:Oq) (i:Nat):AE×AH:=(mkE [(1,.ptr 0 (0)),(2,.sb (false)),(3,.si .i64 (i))],mkH [(0,.cells (opC o) true)])
theorem IP{o:Oq}{i:Nat}{p n:Nat}{σ:AE}{H:AH}(a:p<=0)(b:aj (pa 1) σ= .ptr 0 (0))(c:mk (aj (pa 2) σ)= .sb (false))(d:mk (aj (pa 3) σ)= .si .i64 (i))(e:H.get 0=some (.cells (opC o) true)):Cov p σ H n ((liL o i).1,(liL o i).2,1):=
 Cov.ofA (Y7 a (by decide)) ⟨.ptr (by decide) b,.bool c,.int d,trivial⟩ ⟨.inl ⟨_,e,ao.refl rfl⟩,trivial⟩ rfl
theorem K7(o:Oq):ax kLi 3 10 [.agg (opC o)] .nil 0 (dG (.sb (iw o))):=by
 have n:((100:Int)<(o.key.length:Int))->AV.sb false=AV.sb (iw o):=λz=>by unfold iw;rw[decide_eq_false (show¬o.key.length<=100 by omega)];rfl
 have p:((12:Int)<(o.lab.length:Int))->AV.sb false=AV.sb (iw o):=λz=>by unfold iw;rw[decide_eq_false (show¬o.lab.length<=12 by omega)];simp
 have s:((100:Int)<(o.r.src.length:Int))->AV.sb false=AV.sb (iw o):=λz=>by unfold iw;rw[decide_eq_false (show¬o.r.src.length<=100 by omega)];simp
 have t:((100:Int)<(o.r.dst.length:Int))->AV.sb false=AV.sb (iw o):=λz=>by unfold iw;rw[decide_eq_false (show¬o.r.dst.length<=100 by omega)];simp
 conv=>whnf
 refine ae.dec (λe=>?_) (λe=>?_)
 focus
  have r:=n e
  conv=>whnf
  exact dG.told r
 conv=>whnf
 refine ae.dec (λz2=>?_) (λz2=>?_)
 focus
  have r:=p z2
  conv=>whnf
  exact dG.told r
 conv=>whnf
 refine ae.dec (λf=>?_) (λf=>?_)
 focus
  have r:=s f
  conv=>whnf
  exact dG.told r
 conv=>whnf
 refine ae.dec (λg=>?_) (λg=>?_)
 focus
  have r:=t g
  conv=>whnf
  exact dG.told r
 have e:o.key.length<=100:=by have h:¬((100:Int)<(o.key.length:Int)):=e;omega
 have z2:o.lab.length<=12:=by have h:¬((12:Int)<(o.lab.length:Int)):=z2;omega
 have f:o.r.src.length<=100:=by have h:¬((100:Int)<(o.r.src.length:Int)):=f;omega
 have g:o.r.dst.length<=100:=by have h:¬((100:Int)<(o.r.dst.length:Int)):=g;omega
 have u:iw o=oi o.lab:=by unfold iw;rw[decide_eq_true e,decide_eq_true z2,decide_eq_true f,decide_eq_true g];rfl
 rw[u]
 conv=>whnf
 refine aR.mk {i:Nat//i<=o.lab.length/\oi (o.lab.take i)=true} 1 (λi=>liL o i.val) (λi=>o.lab.length-i.val) ⟨0,Y5 _,rfl⟩ ?_ ?_
 ·exact IP (i:=0) (Y5 _) rfl rfl rfl rfl
 intro⟨i,m,d⟩;have m:i<=o.lab.length:=m;have d:oi (o.lab.take i)=true:=d;have v:IntKind.i64.wrap ((i:Int)+1)=((i+1:Nat):Int):=by rw[ai (by omega) (by omega)];omega
 conv=>whnf
 refine ae.dec (λh=>?_) (λh=>?_)
 ·have c:i<o.lab.length:=q0s.1 h;have j:o.lab.length-(i+1)<o.lab.length-i:=by omega
  have hd:o.lab=o.lab.take i++o.lab[i]::o.lab.drop (i+1):=by rw[<-q0k c,q1i]
  have no:(decide (o.lab[i].1.length<=100)&&decide (o.lab[i].2.length<=100))=false->AV.sb false=AV.sb (oi o.lab):=λq=>by
   have:oi o.lab=false:=by
    unfold oi;rw[List.all_eq_false];exact⟨o.lab[i],q0g c,by rw[q];simp⟩
   rw[this]
  have w:((100:Int)<(o.lab[i].1.length:Int))->AV.sb false=AV.sb (oi o.lab):=λz=>no (by rw[decide_eq_false (show¬o.lab[i].1.length<=100 by omega)];rfl)
  have x:((100:Int)<(o.lab[i].2.length:Int))->AV.sb false=AV.sb (oi o.lab):=λz=>no (by rw[decide_eq_false (show¬o.lab[i].2.length<=100 by omega)];simp)
  have yes:¬((100:Int)<(o.lab[i].1.length:Int))->¬((100:Int)<(o.lab[i].2.length:Int))->oi (o.lab.take (i+1))=true:=λa b=>by
   rw[Y8 c];unfold oi at d⊢;rw[List.all_append,d];simp only[q1u,List.all_nil,Bool.and_true,Bool.true_and,Z8,decide_eq_true_eq];omega
  conv=>whnf
  refine Idx.mk i rfl c ?_
  conv=>whnf
  refine aw (xP c rfl) ?_
  conv=>whnf
  refine ae.dec (λk=>?_) (λk=>?_)
  ·have r:=w k
   conv=>whnf
   exact dG.told r
  conv=>whnf
  refine Idx.mk i rfl c ?_
  conv=>whnf
  refine aw (K6 c rfl) ?_
  conv=>whnf
  refine ae.dec (λl=>?_) (λl=>?_)
  ·have r:=x l
   conv=>whnf
   exact dG.told r
  have y:=yes k l
  conv=>whnf
  exact⟨⟨i+1,c,y⟩,j,IP (Y5 _) rfl rfl (congrArg (AV.si .i64) v) rfl⟩
 have r:AV.sb true=AV.sb (oi o.lab):=by
  have A:i=o.lab.length:=by have h:¬(i:Int)<(o.lab.length:Int):=h;omega
  rw[A,q0l]at d;rw[d]
 conv=>whnf
 exact dG.told r
theorem RT:ak 10 (db XU):=pn Vn 3 (by kernel_rfl) λcs v ⟨o,a,b⟩=>by
 subst a b;exact⟨rfl,rfl,K7 o⟩
def doF (X:SpV) (o:Oq):SpV×Int×Int:=
 if o.kind=0 then((jc X o.key o.t o.v o.p).1,0,(jc X o.key o.t o.v o.p).2)else if o.kind=1 then pE X o.key o.t o.v else if o.kind=2 then pD X o.key o.t o.v else if o.kind=3 then((crF X o.key o.z o.ret o.pol o.lab).1,0,(crF X o.key o.z o.ret o.pol o.lab).2)else if o.kind=4 then((rA X o.key o.ret o.pol o.lab).1,0,(rA X o.key o.ret o.pol o.lab).2)
 else if o.kind=5 then(jz X o.key,if(X.K o.key).isSome=true then 1 else 0,0)else if o.kind=6 then((lkF X o.r).1,0,(lkF X o.r).2)else((qj X o.r.src o.r.dst).1,0,(qj X o.r.src o.r.dst).2)
def XV(X:SpV)(cs:List AV)(a:SpV)(v:AV):Prop:=∃o Y,cs=[.agg (opC o)]/\o.In/\o.lab.length<=1000/\X.n<1000/\Links X/\Bnd X 5000/\doF X o=Y/\a=Y.1/\v= .tup [.si .i64 Y.2.1,.si .i64 Y.2.2]
def kDo:FuncId->EP:=aq 49 (cX 5 SpB U7) (aq 48 (cX 5 SpB Vc) (aq 27 (cX 5 SpB Rq) (aq 47 (cX 5 SpB Xf) (aq 46 (cX 5 SpB Rs) (aq 44 (cX 5 SpB BS) (aq 19 (cX 5 SpB OQ) (aq 32 (cX 5 SpB qe) evP)))))))
theorem Vo:aV kDo:=ag (ag (ag (ag (ag (ag (ag (ag az IB) Eo) IG) yc) KS) Ek) Em) yb
theorem Vp(X:SpV)(o:Oq)(p:Nat×Nat)(s:o.In)(i:o.lab.length<=1000)(hn:X.n<1000)(w:Links X)(l:Bnd X 5000){Y:SpV×Int×Int}(J:doF X o=Y):ax kDo 6 11 [aK p,.agg (opC o)] (mkH [(0,.sep (SpB.Q X p))]) 1 (yC SpB Y.1 p (.tup [.si .i64 Y.2.1,.si .i64 Y.2.2])):=by
 have j:Bnd X 20000:=λk e x=>Y7 (l k e x) (by decide)
 have A:Bnd X 40000:=λk e x=>Y7 (l k e x) (by decide)
 have fin:∀(W:SpV×Int×Int),doF X o=W->∀u H n,mkT u=mkT (.tup [.si .i64 W.2.1,.si .i64 W.2.2])->H.get 0=some (.sep (SpB.Q W.1 p))->yC SpB Y.1 p (.tup [.si .i64 Y.2.1,.si .i64 Y.2.2]) u H n:=λW M u H n N O=>by
  rw[<-J,M];exact yC.told N O
 have P:o.kind=0->doF X o=((jc X o.key o.t o.v o.p).1,0,(jc X o.key o.t o.v o.p).2):=λh=>if_pos h
 have R:o.kind=1->doF X o=pE X o.key o.t o.v:=λh=>by unfold doF;rw[if_neg (by omega),if_pos h]
 have S:o.kind=2->doF X o=pD X o.key o.t o.v:=λh=>by unfold doF;rw[if_neg (by omega),if_neg (by omega),if_pos h]
 have T:o.kind=3->doF X o=((crF X o.key o.z o.ret o.pol o.lab).1,0,(crF X o.key o.z o.ret o.pol o.lab).2):=λh=>by unfold doF;rw[if_neg (by omega),if_neg (by omega),if_neg (by omega),if_pos h]
 have U:o.kind=4->doF X o=((rA X o.key o.ret o.pol o.lab).1,0,(rA X o.key o.ret o.pol o.lab).2):=λh=>by unfold doF;rw[if_neg (by omega),if_neg (by omega),if_neg (by omega),if_neg (by omega),if_pos h]
 have L:o.kind=5->doF X o=(jz X o.key,if(X.K o.key).isSome=true then 1 else 0,0):=λh=>by unfold doF;rw[if_neg (by omega),if_neg (by omega),if_neg (by omega),if_neg (by omega),if_neg (by omega),if_pos h]
 have B:(X.K o.key).isSome=true->o.kind=5->doF X o=(jz X o.key,1,0):=λq h=>by rw[L h,if_pos q]
 have C:(X.K o.key).isSome=false->o.kind=5->doF X o=(jz X o.key,0,0):=λq h=>by rw[L h,q];rfl
 have V:o.kind=6->doF X o=((lkF X o.r).1,0,(lkF X o.r).2):=λh=>by unfold doF;rw[if_neg (by omega),if_neg (by omega),if_neg (by omega),if_neg (by omega),if_neg (by omega),if_neg (by omega),if_pos h]
 have Z:¬o.kind=0->¬o.kind=1->¬o.kind=2->¬o.kind=3->¬o.kind=4->¬o.kind=5->¬o.kind=6->doF X o=((qj X o.r.src o.r.dst).1,0,(qj X o.r.src o.r.dst).2):=λa b c d e f g=>by unfold doF;rw[if_neg a,if_neg b,if_neg c,if_neg d,if_neg e,if_neg f,if_neg g]
 clear J
 conv=>whnf
 refine ae.dec (λD=>?_) (λD=>?_)
 focus
  conv=>whnf
  refine⟨0,p,X,[.ss o.key,.agg [.si .i64 o.t,.si .i64 o.v],.si .i64 o.p],(jc X o.key o.t o.v o.p).1,.si .i64 (jc X o.key o.t o.v o.p).2,_,rfl,by decide,by decide,.cons .same (.cons .same (.cons .same .nil)),rfl,rfl,⟨o.key,o.t,o.v,o.p,jc X o.key o.t o.v o.p,rfl,s.v,w,j,rfl,rfl,rfl⟩,?_⟩
  conv=>whnf
  exact fin _ (P D) _ _ _ rfl rfl
 conv=>whnf
 refine ae.dec (λE=>?_) (λE=>?_)
 focus
  conv=>whnf
  refine⟨0,p,X,[.ss o.key,.si .i64 o.t,.si .i64 o.v],(pE X o.key o.t o.v).1,.tup [.si .i64 (pE X o.key o.t o.v).2.1,.si .i64 (pE X o.key o.t o.v).2.2],_,rfl,by decide,by decide,.cons .same (.cons .same (.cons .same .nil)),rfl,rfl,⟨o.key,o.t,o.v,pE X o.key o.t o.v,rfl,w,j,rfl,rfl,rfl⟩,?_⟩
  conv=>whnf
  exact fin _ (R E) _ _ _ rfl rfl
 conv=>whnf
 refine ae.dec (λz2=>?_) (λz2=>?_)
 focus
  conv=>whnf
  refine⟨0,p,X,[.ss o.key,.si .i64 o.t,.si .i64 o.v],(pD X o.key o.t o.v).1,.tup [.si .i64 (pD X o.key o.t o.v).2.1,.si .i64 (pD X o.key o.t o.v).2.2],_,rfl,by decide,by decide,.cons .same (.cons .same (.cons .same .nil)),rfl,rfl,⟨o.key,o.t,o.v,pD X o.key o.t o.v,rfl,w,l,rfl,rfl,rfl⟩,?_⟩
  conv=>whnf
  exact fin _ (S z2) _ _ _ rfl rfl
 conv=>whnf
 refine ae.dec (λF=>?_) (λF=>?_)
 focus
  conv=>whnf
  refine⟨0,p,X,[.ss o.key,Gk o.z o.ret o.pol o.lab],(crF X o.key o.z o.ret o.pol o.lab).1,.si .i64 (crF X o.key o.z o.ret o.pol o.lab).2,_,rfl,by decide,by decide,.cons .same (.cons .same .nil),rfl,rfl,⟨o.key,o.z,o.ret,o.pol,o.lab,crF X o.key o.z o.ret o.pol o.lab,rfl,i,hn,rfl,rfl,rfl⟩,?_⟩
  conv=>whnf
  exact fin _ (T F) _ _ _ rfl rfl
 conv=>whnf
 refine ae.dec (λG=>?_) (λG=>?_)
 focus
  conv=>whnf
  refine⟨0,p,X,[.ss o.key,.si .i64 o.ret,.si .i64 o.pol,gL o.lab],(rA X o.key o.ret o.pol o.lab).1,.si .i64 (rA X o.key o.ret o.pol o.lab).2,_,rfl,by decide,by decide,.cons .same (.cons .same (.cons .same (.cons .same .nil))),rfl,rfl,⟨o.key,o.ret,o.pol,o.lab,rA X o.key o.ret o.pol o.lab,rfl,i,hn,A,rfl,rfl,rfl⟩,?_⟩
  conv=>whnf
  exact fin _ (U G) _ _ _ rfl rfl
 conv=>whnf
 refine ae.dec (λm=>?_) (λm=>?_)
 focus
  conv=>whnf
  refine⟨0,p,X,[.ss o.key],jz X o.key,.sb (X.K o.key).isSome,_,rfl,by decide,by decide,.cons .same .nil,rfl,rfl,⟨o.key,rfl,rfl,rfl⟩,?_⟩
  conv=>whnf
  refine ae.sb (λy=>?_) (λy=>?_)
  focus
   have e:=B y m
   conv=>whnf
   exact fin _ e _ _ _ rfl rfl
  have e:=C y m
  conv=>whnf
  exact fin _ e _ _ _ rfl rfl
 conv=>whnf
 refine ae.dec (λI=>?_) (λI=>?_)
 focus
  conv=>whnf
  refine⟨0,p,X,[gR o.r],(lkF X o.r).1,.si .i64 (lkF X o.r).2,_,rfl,by decide,by decide,.cons .same .nil,rfl,rfl,⟨o.r,lkF X o.r,rfl,hn,l,rfl,rfl,rfl⟩,?_⟩
  conv=>whnf
  exact fin _ (V I) _ _ _ rfl rfl
 conv=>whnf
 refine⟨0,p,X,[.ss o.r.src,.ss o.r.dst],(qj X o.r.src o.r.dst).1,.si .i64 (qj X o.r.src o.r.dst).2,_,rfl,by decide,by decide,.cons .same (.cons .same .nil),rfl,rfl,⟨o.r.src,o.r.dst,qj X o.r.src o.r.dst,rfl,rfl,rfl,rfl⟩,?_⟩
 conv=>whnf
 exact fin _ (Z D E z2 F G m I) _ _ _ rfl rfl
theorem YF:ak 11 (yj SpB XV):=SV Vo 6 (by kernel_rfl) SpB λX cs j v p k ⟨o,Y,a,b,c,d,e,f,g,h,i⟩=>by
 subst a h i;exact⟨rfl,rfl,Vp X o p b c d e f g⟩
theorem Inv.doo{X:SpV}{b:Nat}{c:SpC}(h:Inv X b)(a:bF X c)(o:Oq):Inv (doF X o).1 (b+2):=by
 unfold doF;split
 ·exact h.add a _ _ _ _
 ·split
  ·exact h.inc a _ _ _
  ·split
   ·exact(h.del a _ _ _).mono (q0q b 2)
   ·split
    ·exact h.create _ _ _ _ _
    ·split
     ·exact h.alter _ _ _ _
     ·split
      ·exact(h.drop a _).mono (q0q b 2)
      ·split
       ·exact h.link a _
       ·exact(h.unl _ _).mono (q0q b 2)
theorem K8{o:Oq}(h:iw o=true):o.lab.length<=12:=by
 unfold iw at h;simp only[Z8,decide_eq_true_eq]at h;exact h.2.1
theorem RU{S:List Oq}{i o j:Nat}{v:AV}(h:i<S.length)(ho:o=i*14+j)(a:(opC S[i])[j]?=some v):nth (oqC S) o=some v:=by
 subst ho;have c:=(bz (IM h rfl)).2;have b:j<14:=(Y6.1 a).1;rw[fB];rw[c,List.getElem?_take_of_lt b,q3b]at a;exact a
theorem K9{S:Sr}{L:Smp}{t v:Int}(c:Up L)(hn:kj S)(h:(bJ S L t v 3).2=0):gQ (bJ S L t v 3).1.2 t=(v,0)/\(bJ S L t v 3).1.1.mx=max S.mx t:=by
 unfold bJ at h⊢;have hr:=hn.ret;by_cases d:t<0∨1099511627776<=t∨((3:Int)≠0/\¬(1<=(3:Int)/\(3:Int)<=6))
 ·rw[if_pos d]at h;cases h
 ·rw[if_neg d]at h⊢;by_cases a:t<bf S
  ·rw[if_pos a]at h;cases h
  ·rw[if_neg a]at h⊢;rw[if_neg (show¬(3:Int)=0 by decide)]at h⊢;by_cases b:(dU L t v 3).2=0
   ·rw[if_pos b]
    have e:bf {S with mx:=max S.mx t}<=t:=by
     unfold bf at a⊢;dsimp only at a⊢;split
     ·rename_i q;rw[if_pos q]at a;omega
     ·rename_i q;rw[if_neg q]at a;omega
    refine⟨?_,rfl⟩;show gQ (aE (dU L t v 3).1 0 _) t=_;rw[pX,pY (pU c t v 3),if_neg (by omega),zC c,if_pos rfl];cases look L t with
    |none=>rfl
    |some w=>rfl
   ·rw[if_neg b]at h;exact absurd h b
def iJ(t:Int):Prop:=0<=t/\t<=1099511627776
theorem rC{r:Rl}(h:bk r=true):sc r.size r.align=true/\1<=r.size/\r.size<=1099511627776/\0<=r.align/\r.align<r.size:=by
 unfold bk xX at h;simp only[Z8,decide_eq_true_eq]at h;exact⟨decide_eq_true h.1,h.1⟩
section
variable {r:Rl} {t u:Int}
theorem zT(h:bk r=true)(a:iJ t)(b:r.align<=t):bB r t=r.align+r.size*((t-r.align)/r.size):=by
 obtain⟨c,d⟩:=rC h;unfold bB eu;rw[if_pos ⟨c,decide_eq_true a,b⟩];have:=q3o (t-r.align) r.size;omega
theorem IQ(a:t<r.align):bB r t=0:=by
 unfold bB eu;rw[if_neg];exact λq=>by have:=q.2.2;omega
theorem lG(h:bk r=true)(b:iJ t):0<=bB r t/\bB r t<=t/\(r.align<=t->r.align<=bB r t):=by
 obtain⟨_,f,g,i,j⟩:=rC h;have a:=b;obtain⟨k,l⟩:=a;by_cases c:r.align<=t
 ·have e:=zT h b c;have d1:=q3o (t-r.align) r.size;have d2:=Int.emod_nonneg (t-r.align) (show r.size≠0 by omega);have d:0<=(t-r.align)/r.size:=Int.ediv_nonneg (by omega) (by omega);have m:0<=r.size*((t-r.align)/r.size):=Int.mul_nonneg (by omega) d;exact⟨by omega,by omega,λ_=>by omega⟩
 ·rw[IQ (by omega)];exact⟨by omega,by omega,λq=>absurd q c⟩
theorem Eu(h:bk r=true)(a:iJ t):iJ (bB r t):=by
 have b:=lG h a;have c:=a.2;exact⟨b.1,by omega⟩
theorem SW(h:bk r=true)(a:iJ t)(b:r.align<=t):eB r t=bB r t+r.size:=by
 obtain⟨c,_⟩:=rC h;have d:=lG h a;have e:=Eu h a;unfold eB qh;rw[if_pos ⟨c,decide_eq_true e⟩,if_neg (by have:=d.2.2 b;omega)];show eu (bB r t) r.size r.align+r.size=_;have:eu (bB r t) r.size r.align=bB r t:=vw r t;rw[this]
theorem SX(h:bk r=true)(a:iJ t)(b:t<r.align):eB r t=r.align:=by
 obtain⟨c,_⟩:=rC h;have d:=Eu h a;have e:=IQ (r:=r) b;have t0:=a.1;unfold eB qh;rw[if_pos ⟨c,decide_eq_true d⟩,if_pos (by omega)]
theorem O6(h:bk r=true)(a:iJ t):t<eB r t:=by
 obtain⟨_,c,d,e,f⟩:=rC h;by_cases b:r.align<=t
 ·rw[SW h a b,zT h a b];have d1:=q3o (t-r.align) r.size;have d2:=Int.emod_lt_of_pos (t-r.align) (show 0<r.size by omega);omega
 ·rw[SX h a (by omega)];omega
theorem vz(h:bk r=true)(b:iJ t)(a:iJ u)(e:t<=u):bB r t<=bB r u:=by
 obtain⟨_,f,g,i,j⟩:=rC h;by_cases c:r.align<=t
 ·rw[zT h b c,zT h a (by omega)];have d:(t-r.align)/r.size<=(u-r.align)/r.size:=Int.ediv_le_ediv (by omega) (by omega);have d2:=Int.mul_le_mul_of_nonneg_left d (show 0<=r.size by omega);omega
 ·rw[IQ (by omega)];exact(lG h a).1
theorem SY(h:bk r=true)(b:iJ t)(c:iJ u)(d:bB r t<bB r u):eB r t<=bB r u:=by
 obtain⟨_,f,g,i,j⟩:=rC h
 have a:r.align<=u:=by
  rcases Int.lt_or_le u r.align with q|q
  ·rw[IQ q]at d;have:=(lG h b).1;omega
  ·exact q
 by_cases e:r.align<=t
 ·rw[SW h b e];rw[zT h b e,zT h c a]at d⊢
  have k:(t-r.align)/r.size<(u-r.align)/r.size:=by
   rcases Int.lt_or_le ((t-r.align)/r.size) ((u-r.align)/r.size)with q|q
   ·exact q
   ·have:=Int.mul_le_mul_of_nonneg_left q (show 0<=r.size by omega);omega
  have d2:=Int.mul_le_mul_of_nonneg_left (show(t-r.align)/r.size+1<=(u-r.align)/r.size by omega) (show 0<=r.size by omega);rw[Int.mul_add,Int.mul_one]at d2;omega
 ·rw[SX h b (by omega)];exact(lG h c).2.2 a
theorem O7(h:bk r=true)(b:iJ t)(a:iJ u):(bB r t<=u/\u<=eB r t-1)<->bB r u=bB r t:=by
 constructor
 ·intro⟨d,f⟩;have c:=vz h (Eu h b) a d;rw[vw]at c;rcases Int.lt_or_le (bB r t) (bB r u)with q|q
  ·have:=SY h b a q;have:=(lG h a).2.1;omega
  ·omega
 ·intro e;have c:=(lG h a).2.1;have g:=O6 h a;have i:eB r u=eB r t:=by unfold eB;rw[e]
  omega
end
def inK(r:Rl)(b:Int)(L:Smp):Smp:=bd b (qh b r.size r.align-1) L
def nW(r:Rl)(b:Int)(L:Smp):Option Int:=if wO r.kind (inK r b L)=true then some (tE r.kind (inK r b L))else none
theorem IS{r:Rl}{b:Int}{L:Smp}(h:inK r b L=[]):nW r b L=none:=by
 unfold nW;rw[h,if_neg];unfold wO nG;simp[ss0]
structure SI(S:Sr)(L:Smp):Prop where
 mx:∀x∈L,x.1<=S.mx
 ln:bf S=S.fl
theorem qg(S:Sr):bf {S with fl:=bf S}=bf S:=by
 unfold bf;dsimp only;split
 ·rfl
 ·omega
theorem SI.add{S:Sr}{L:Smp}(h:SI S L)(t v p:Int):SI (bJ S L t v p).1.1 (bJ S L t v p).1.2:=by
 unfold bJ;generalize (if p=0 then S.pol else p)=q;split
 ·exact h
 ·split
  ·exact h
  ·split
   ·refine⟨λx a=>?_,qg _⟩;show x.1<=max S.mx t;rcases yg (dN.1 a).1 with e|⟨y,b,e⟩
    ·omega
    ·have:=h.mx y b;omega
   ·exact h
theorem SI.drop{S:Sr}{L:Smp}(h:SI S L)(a b:Int):SI S (aE L a b):=⟨λx c=>h.mx x (dN.1 c).1,h.ln⟩
theorem SI.alt{S:Sr}{L:Smp}(h:SI S L)(ret p:Int):SI (cV S L ret p).1.1 (cV S L ret p).1.2:=by
 unfold cV;split
 ·exact⟨λx a=>h.mx x (dN.1 a).1,qg _⟩
 ·exact h
theorem SI.new{z ret p:Int}{S:Sr}(h:mQ z ret p=some S):SI S []:=by
 unfold mQ at h;split at h
 ·rename_i q;injection h with h;subst h;refine⟨λx a=>(by cases a),?_⟩;unfold bf;dsimp only;split
  ·rfl
  ·omega
 ·cases h
theorem Ev.bJ{S:Sr}{L:Smp}(a:Up L)(t v p:Int):Up (Go.Proofs.YtflehenfikoniaaGreat.bJ S L t v p).1.2:=by
 unfold Go.Proofs.YtflehenfikoniaaGreat.bJ;generalize (if p=0 then S.pol else p)=q;split
 ·exact a
 ·split
  ·exact a
  ·split
   ·exact pj (pU a t v q) _ _
   ·exact a
theorem Ev.cV{S:Sr}{L:Smp}(a:Up L)(ret p:Int):Up (Go.Proofs.YtflehenfikoniaaGreat.cV S L ret p).1.2:=by
 unfold Go.Proofs.YtflehenfikoniaaGreat.cV;split
 ·exact pj a _ _
 ·exact a
theorem zU{S:Sr}{L:Smp}(h:SI S L)(t v p:Int):bf S<=bf (bJ S L t v p).1.1/\S.mx<=(bJ S L t v p).1.1.mx:=by
 unfold bJ;generalize (if p=0 then S.pol else p)=q;split
 ·exact⟨q2q _,q2q _⟩
 ·split
  ·exact⟨q2q _,q2q _⟩
  ·split
   ·refine⟨?_,(show S.mx<=max S.mx t by omega)⟩;show bf S<=bf {({S with mx:=max S.mx t}:Sr)with fl:=bf {S with mx:=max S.mx t}};rw[qg];unfold bf;dsimp only;split<;>omega
   ·exact⟨q2q _,q2q _⟩
theorem zV{S:Sr}{L:Smp}(h:SI S L)(ret p:Int):bf S<=bf (cV S L ret p).1.1/\(cV S L ret p).1.1.mx=S.mx:=by
 unfold cV;split
 ·refine⟨?_,rfl⟩;show bf S<=bf {({S with ret:=ret,pol:=p}:Sr)with fl:=bf {S with ret:=ret,pol:=p}};rw[qg,h.ln];unfold bf;dsimp only;split<;>omega
 ·exact⟨q2q _,rfl⟩
theorem zW{S:Sr}{L:Smp}(d:Up L)(t v p:Int){b:Int}(h:0<=b)(a:bf (bJ S L t v p).1.1<=b)(c:b≠t):look (bJ S L t v p).1.2 b=look L b:=by
 unfold bJ at a⊢;generalize (if p=0 then S.pol else p)=q at a⊢;split
 ·rfl
 ·rename_i e;rw[if_neg e]at a;split
  ·rfl
  ·rename_i f;rw[if_neg f]at a;split
   ·rename_i g;rw[if_pos g]at a;have a:bf {({S with mx:=max S.mx t}:Sr)with fl:=bf {S with mx:=max S.mx t}}<=b:=a;rw[qg]at a;show look (aE (dU L t v q).1 0 (bf {S with mx:=max S.mx t}-1)) b=_;rw[pY (pU d t v q),if_neg (by omega),zC d,if_neg c]
   ·rfl
theorem zX{S:Sr}{L:Smp}(c:Up L)(ret p:Int){b:Int}(a:bf (cV S L ret p).1.1<=b):look (cV S L ret p).1.2 b=look L b:=by
 unfold cV at a⊢;split
 ·rename_i d;rw[if_pos d]at a;have a:bf {({S with ret:=ret,pol:=p}:Sr)with fl:=bf {S with ret:=ret,pol:=p}}<=b:=a;rw[qg]at a;show look (aE L 0 (bf {S with ret:=ret,pol:=p}-1)) b=_;rw[pY c,if_neg (by omega)]
 ·rfl
theorem O8{S:Sr}{L:Smp}(d:Up L)(hn:kj S){t v:Int}(f:0<=t)(g:t<1099511627776)(b:bf (bJ S L t v 3).1.1<=t):look (bJ S L t v 3).1.2 t=some v:=by
 have c:(bJ S L t v 3).2=0:=by
  unfold bJ at b⊢;rw[if_neg (by omega)]at b⊢;split
  ·rename_i q;rw[if_pos q]at b;have b:bf S<=t:=b;omega
  ·rw[if_neg (show¬(3:Int)=0 by decide)]
   have:(dU L t v 3).2=0:=by
    rw[Kj];cases look L t with
    |none=>rfl
    |some w=>rfl
   rw[if_pos this]
 have a:=(K9 d hn c).1;rw[pX]at a;cases e:look (bJ S L t v 3).1.2 t with
 |none=>rw[e]at a;cases a
 |some w=>rw[e]at a;injection a with a;rw[a]
theorem yk{L:Smp}(c:Up L)(a b s:Int):look (bd a b L) s=if a<=s/\s<=b then look L s else none:=by
 split
 ·rename_i h;refine look_eq (kO c a b) c λv=>?_
  rw[eQ];exact⟨λq=>q.1,λq=>⟨q,h⟩⟩
 ·rename_i h;exact(pW (kO c a b)).2 λv e=>h (eQ.1 e).2
theorem yl{L M:Smp}(c:Up L)(e:Up M){a b:Int}(h:∀s,a<=s->s<=b->look L s=look M s):bd a b L=bd a b M:=
 NX (kO c a b) (kO e a b) λs=>by
  rw[yk c,yk e];split
  ·rename_i q;exact h s q.1 q.2
  ·rfl
theorem O9{r:Rl}{T:Int}{L:Smp}(b:bk r=true)(c:iJ T)(e:∀x∈L,iJ x.1)(h:∀x∈L,bB r x.1≠bB r T):inK r (bB r T) L=[]:=
 Kk λx a q=>h x a ((O7 b c (e x a)).1 q)
theorem Pb{r:Rl}{T U:Int}(h:bB r T=bB r U):eB r T=eB r U:=by unfold eB;rw[h]
structure MkE(P:Int->Prop)(r:Rl)(s d:cU):Prop where
 all:∀T,iJ T->0<=s.S.mx->eB r T<=bB r s.S.mx->bf s.S<=bB r T->bf d.S<=bB r T->¬P (bB r T)->look d.L (bB r T)=nW r (bB r T) s.L
 cl:∀x∈d.L,∃T,iJ T/\x.1=bB r T/\0<=s.S.mx/\eB r T<=bB r s.S.mx
structure KI(e:cU):Prop where
 up:Up e.L
 num:kj e.S
 cW:∀x∈e.L,0<=x.1/\x.1<1099511627776
 si:SI e.S e.L
theorem KI.tm{e:cU}(h:KI e):∀x∈e.L,iJ x.1:=λx a=>by have:=h.cW x a;exact⟨this.1,by omega⟩
theorem KI.mx{e:cU}(h:KI e):e.S.mx<1099511627776:=h.num.mx.2
theorem KI.of{e:cU}(h:fR e.S e.L)(k:SI e.S e.L):KI e:=⟨h.up,h.num,λx a=>(h.cW x a).1,k⟩
theorem KI.add{e:cU}(h:KI e)(t v p:Int):KI {e with S:=(bJ e.S e.L t v p).1.1,L:=(bJ e.S e.L t v p).1.2}:=by
 refine⟨Ev.bJ (S:=e.S) h.up t v p,?_,λx a=>?_,h.si.add t v p⟩
 ·show kj (bJ e.S e.L t v p).1.1;unfold bJ;generalize (if p=0 then e.S.pol else p)=q;split
  ·exact h.num
  ·rename_i b;split
   ·exact h.num
   ·split
    ·exact(h.num.mxs ⟨by omega,by omega⟩).tr
    ·exact h.num
 ·have a:x∈(bJ e.S e.L t v p).1.2:=a;unfold bJ at a;generalize (if p=0 then e.S.pol else p)=q at a;split at a
  ·exact h.cW x a
  ·rename_i b;split at a
   ·exact h.cW x a
   ·split at a
    ·rcases yg (dN.1 a).1 with w|⟨y,c,w⟩
     ·omega
     ·have:=h.cW y c;omega
    ·exact h.cW x a
theorem KI.drop{e:cU}(h:KI e)(a b:Int):KI {e with L:=aE e.L a b}:=⟨pj h.up a b,h.num,λx c=>h.cW x (dN.1 c).1,h.si.drop a b⟩
theorem KI.alt{e:cU}(h:KI e)(ret p:Int){z:Int}{l:List Lab}:KI ⟨(cV e.S e.L ret p).1.1,(cV e.S e.L ret p).1.2,z,l⟩:=by
 refine⟨Ev.cV (S:=e.S) h.up ret p,?_,λx a=>h.cW x (yi a),h.si.alt ret p⟩;show kj (cV e.S e.L ret p).1.1;unfold cV;split
 ·rename_i q;exact kj.tr ⟨q.1,q.2,h.num.mx,h.num.fl⟩
 ·exact h.num
theorem KI.sZ{r:Rl}{s d:cU}{t:Int}(h:KI d):KI {d with S:=(du r t s d).1,L:=(du r t s d).2}:=by
 unfold du;split
 ·exact h
 ·split
  ·exact h.add _ _ _
  ·exact h.drop _ _
theorem KI.new{z ret p:Int}{S:Sr}{y:Int}{l:List Lab}(h:mQ z ret p=some S):KI ⟨S,[],y,l⟩:= .of (fR.nil h) (SI.new h)
section
variable {P Q:Int->Prop} {r:Rl} {s d:cU} {t:Int}
theorem MkE.sub(h:MkE P r s d)(i:∀b,P b->Q b):MkE Q r s d:=⟨λT a b c e f g=>h.all T a b c e f λq=>g (i _ q),h.cl⟩
theorem MkE.sZ(i:bk r=true)(h:MkE P r s d)(j:iJ t)(o:KI s)(hd:KI d):MkE (λb=>P b/\b≠bB r t) r s {d with S:=(du r t s d).1,L:=(du r t s d).2}:=by
 have u:=Eu i j;by_cases ho:uN r t s.S
 ·have e:du r t s d=(d.S,d.L):=if_pos ho;rw[e];refine⟨λT a b c e f g=>h.all T a b c e f λq=>?_,h.cl⟩;by_cases p:bB r T=bB r t
  ·rw[Pb p]at c;unfold uN at ho;have ho:s.S.mx<0∨bB r s.S.mx<eB r t:=ho;omega
  ·exact g ⟨q,p⟩
 ·have l:0<=s.S.mx/\eB r t<=bB r s.S.mx:=by
   unfold uN at ho;have ho:¬(s.S.mx<0∨bB r s.S.mx<eB r t):=ho;omega
  have m:bB r t<1099511627776:=by
   have A:=O6 i j;have B:=(lG i j).2.1;have C:=(lG i (t:=s.S.mx) ⟨l.1,by have:=o.mx;omega⟩).2.1;have:=o.mx;omega
  by_cases k:wO r.kind (inB r t s.L)=true
  ·have e:du r t s d=(bJ d.S d.L (bB r t) (tE r.kind (inB r t s.L)) 3).1:=by unfold du;rw[if_neg ho,if_pos k]
   rw[e];have v:=(zU hd.si (bB r t) (tE r.kind (inB r t s.L)) 3).1;refine⟨λT a b c e f g=>?_,λx n=>?_⟩
   ·dsimp only at f⊢;by_cases q:bB r T=bB r t
    ·rw[q]at f⊢;rw[O8 hd.up hd.num u.1 m f];exact(if_pos k).symm
    ·rw[zW hd.up _ _ _ (lG i a).1 f q];exact h.all T a b c e (by omega) λw=>g ⟨w,q⟩
   ·rcases yh n with q|⟨y,z,q⟩
    ·exact⟨t,j,q,l.1,l.2⟩
    ·rw[<-q];exact h.cl y z
  ·have e:du r t s d=(d.S,aE d.L (bB r t) (bB r t)):=by unfold du;rw[if_neg ho,if_neg k]
   rw[e];refine⟨λT a b c e f g=>?_,λx n=>h.cl x (dN.1 n).1⟩;dsimp only at f⊢;rw[pY hd.up];by_cases q:bB r T=bB r t
   ·rw[q,if_pos ⟨q2q _,q2q _⟩];exact(if_neg k).symm
   ·rw[if_neg (by omega)];exact h.all T a b c e f λw=>g ⟨w,q⟩
theorem MkE.Vq(k:bk r=true)(h:MkE (λ_=>False) r s d)(l:KI s){v p:Int}(i:(bJ s.S s.L t v p).2=0):
 MkE (λb=>(0<=s.S.mx/\s.S.mx<(bJ s.S s.L t v p).1.1.mx/\b=bB r s.S.mx)∨b=bB r t) r {s with S:=(bJ s.S s.L t v p).1.1,L:=(bJ s.S s.L t v p).1.2} d:=by
 have o:iJ t/\(bJ s.S s.L t v p).1.1.mx=max s.S.mx t:=by
  unfold bJ at i⊢;generalize (if p=0 then s.S.pol else p)=q at i⊢;split at i
  ·cases i
  ·rename_i C;rw[if_neg C];split at i
   ·cases i
   ·rename_i J;rw[if_neg J];split at i
    ·rename_i F;rw[if_pos F];exact⟨⟨by omega,by omega⟩,rfl⟩
    ·rename_i F;exact absurd i F
 obtain⟨o,U⟩:=o;have V:=l.mx;have K:=l.num.mx.1;have W:=zU l.si t v p;have G:=Ev.bJ (S:=s.S) l.up t v p;have mono:0<=s.S.mx->bB r s.S.mx<=bB r (bJ s.S s.L t v p).1.1.mx:=λq=>vz k ⟨q,by omega⟩ ⟨by omega,by have:=o.2;omega⟩ W.2
 refine⟨λT a b c e f g=>?_,λx D=>?_⟩
 ·dsimp only at b c e⊢;have H:bB r T≠bB r t:=λq=>g (.inr q)
  have m:inK r (bB r T) (bJ s.S s.L t v p).1.2=inK r (bB r T) s.L:=yl G l.up λu X M=>by
   have N:iJ u:=by
    have C:=lG k a;have:u<=eB r T-1:=M;have J:=(lG k (t:=(bJ s.S s.L t v p).1.1.mx) ⟨b,by have:=o.2;omega⟩).2.1;have:=o.2;exact⟨by omega,by omega⟩
   refine zW l.up t v p N.1 (by omega) λq=>H ?_
   rw[<-q];exact((O7 k a N).1 ⟨X,M⟩).symm
  have Y:nW r (bB r T) (bJ s.S s.L t v p).1.2=nW r (bB r T) s.L:=by unfold nW;rw[m]
  rw[Y];by_cases j:0<=s.S.mx/\eB r T<=bB r s.S.mx
  ·exact h.all T a j.1 j.2 (by omega) f λq=>q
  ·have C:look d.L (bB r T)=none:=by
    cases q:look d.L (bB r T)with
    |none=>rfl
    |some w=>
     by_cases hd:Up d.L
     ·obtain⟨Z,I,A,B,n⟩:=h.cl _ ((iY hd).1 q);rw[<-Pb (r:=r) (T:=T) A]at n;exact absurd ⟨B,n⟩ j
     ·unfold look at q;split at q
      ·rename_i z;obtain⟨Z,I,A,B,n⟩:=h.cl _ (vd z);rw[<-Pb (r:=r) (T:=T) A]at n;exact absurd ⟨B,n⟩ j
      ·cases q
   rw[C,IS];refine O9 k a l.tm λx D q=>?_
   have O:=l.si.mx x D;have R:=l.tm x D;have E:0<=s.S.mx:=Int.le_trans R.1 O;have x3:=vz k R ⟨E,by omega⟩ O;rw[q]at x3;rcases Int.lt_or_le (bB r T) (bB r s.S.mx)with w|w
   ·exact j ⟨E,SY k a ⟨E,by omega⟩ w⟩
   ·have w2:bB r T=bB r s.S.mx:=by omega
    have w3:s.S.mx<(bJ s.S s.L t v p).1.1.mx:=by
     rcases Int.lt_or_le s.S.mx (bJ s.S s.L t v p).1.1.mx with y|y
     ·exact y
     ·have e1:(bJ s.S s.L t v p).1.1.mx=s.S.mx:=by omega
      rw[e1]at c;have y1:=O6 k a;have y2:=(lG k a).2.1;omega
    exact g (.inl ⟨E,w3,w2⟩)
 ·obtain⟨T,I,A,B,n⟩:=h.cl x D;exact⟨T,I,A,(show 0<=(bJ s.S s.L t v p).1.1.mx by omega),Int.le_trans n (mono B)⟩
theorem MkE.Vr(k:bk r=true)(h:MkE (λ_=>False) r s d)(l:KI s)(a c:Int):
 MkE (λb=>∃x∈bd a c s.L,b=bB r x.1) r {s with L:=aE s.L a c} d:=by
 refine⟨λT x y z w f g=>?_,h.cl⟩
 have i:inK r (bB r T) (aE s.L a c)=inK r (bB r T) s.L:=by
  unfold inK bd aE;rw[List.filter_filter];refine q4j λu j=>?_
  by_cases q:(decide (bB r T<=u.1)&&decide (u.1<=qh (bB r T) r.size r.align-1))=true
  ·have:(decide (u.1<a)||decide (c<u.1))=true:=by
    cases e:(decide (u.1<a)||decide (c<u.1))with
    |true=>rfl
    |false=>
     simp only[Bool.or_eq_false_iff,decide_eq_false_iff_not]at e;simp only[Z8,decide_eq_true_eq]at q;exact absurd ⟨u,eQ.2 ⟨j,by omega,by omega⟩,((O7 k x (l.tm u j)).1 q).symm⟩ g
   rw[q,this];rfl
  ·rw[Bool.not_eq_true]at q;rw[q];rfl
 show _=nW r (bB r T) (aE s.L a c);have m:nW r (bB r T) (aE s.L a c)=nW r (bB r T) s.L:=by unfold nW;rw[i]
 rw[m];exact h.all T x y z w f λq=>q
theorem MkE.Vs(q:bk r=true)(h:MkE (λ_=>False) r s d)(j:KI s)(ret p:Int){z:Int}{l:List Lab}:
 MkE (λ_=>False) r ⟨(cV s.S s.L ret p).1.1,(cV s.S s.L ret p).1.2,z,l⟩ d:=by
 obtain⟨v,m⟩:=zV j.si ret p;have k:=Ev.cV (S:=s.S) j.up ret p;refine⟨λT a b c e f g=>?_,λx n=>?_⟩
 ·dsimp only at b c e⊢;rw[m]at b c;have i:inK r (bB r T) (cV s.S s.L ret p).1.2=inK r (bB r T) s.L:=yl k j.up λu w _=>zX j.up ret p (by omega)
  have o:nW r (bB r T) (cV s.S s.L ret p).1.2=nW r (bB r T) s.L:=by unfold nW;rw[i]
  rw[o];exact h.all T a b c (by omega) f g
 ·dsimp only;rw[m];exact h.cl x n
theorem MkE.Vt(h:MkE (λ_=>False) r s d)(hd:KI d)(ret p:Int){z:Int}{l:List Lab}:
 MkE (λ_=>False) r s ⟨(cV d.S d.L ret p).1.1,(cV d.S d.L ret p).1.2,z,l⟩:=by
 obtain⟨j,_⟩:=zV hd.si ret p;refine⟨λT a b c e f g=>?_,λx i=>h.cl x (yi i)⟩;dsimp only at f⊢;rw[zX hd.up ret p f];exact h.all T a b c e (by omega) g
theorem MkE.new(i:bk r=true)(j:KI s)(hd:d.L=[]):MkE (λb=>∃x∈s.L,b=bB r x.1) r s d:=by
 refine⟨λT a b c e f g=>?_,λx h=>(by rw[hd]at h;cases h)⟩;rw[hd,IS (O9 i a j.tm λx h q=>g ⟨x,h,q.symm⟩)];rfl
end
def MkX(P:Rl->Int->Prop)(X:SpV):Prop:=∀d r s e,X.R d=some r->X.K r.src=some s->X.K d=some e->MkE (P r) r s e
def KX(X:SpV):Prop:=∀k e,X.K k=some e->KI e
structure RX(X:SpV):Prop where
 noch:O3 X
 dst:∀d r,X.R d=some r->r.dst=d
 rul:∀d r,X.R d=some r->bk r=true
section
variable {X Y:SpV} {P Q:Rl->Int->Prop} {r:Rl} {k:Tx} {t was:Int} {c:SpC} {b:Nat}
theorem RX.of(h:O3 X)(a:bF X c):RX X:=⟨h,λ_ _=>a.Ei,λ_ _ h=>a.rul _ _ h⟩
theorem RX.kp(h:RX X)(k:Kp X Y):RX Y:=⟨λd r a=>by rw[k.1]at a⊢;exact h.noch d r a,λd r a=>by rw[k.1]at a;exact h.dst d r a,λd r a=>by rw[k.1]at a;exact h.rul d r a⟩
theorem MkX.sub(h:MkX P X)(f:∀d r,X.R d=some r->∀b,P r b->Q r b):MkX Q X:=λd r s e a g i=>(h d r s e a g i).sub (f d r a)
theorem RV(a:r.src≠r.dst){s d:cU}(e:X.K r.src=some s)(hd:X.K r.dst=some d):bU X r t=fu X r.dst {d with S:=(du r t s d).1,L:=(du r t s d).2}:=by
 unfold bU;rw[e,hd]
theorem IT(h:X.K r.src=none∨X.K r.dst=none):bU X r t=X:=by
 unfold bU;rcases h with h|h
 ·rw[h]
 ·rw[h];cases X.K r.src<;>rfl
theorem MkX.sZ(h:MkX P X)(l:KX X)(p:RX X)(u:X.R r.dst=some r)(y:iJ t):MkX (λq b=>P q b/\¬(q=r/\b=bB r t)) (bU X r t)/\KX (bU X r t):=by
 have n:=p.rul _ _ u;have v:=iH n;cases m:X.K r.src with
 |none=>
  rw[IT (.inl m)];refine⟨λd q s e a f g=>(h d q s e a f g).sub λb i=>⟨i,λw=>?_⟩,l⟩;rw[w.1,m]at f;cases f
 |some s0=>
  cases hd:X.K r.dst with
  |none=>
   rw[IT (.inr hd)];refine⟨λd q s e a f g=>(h d q s e a f g).sub λb i=>⟨i,λw=>?_⟩,l⟩;have:=p.dst d q a;rw[w.1]at this;rw[<-this,hd]at g;cases g
  |some A=>
   rw[RV v m hd];refine⟨λd q s e a f g=>?_,λx e j=>?_⟩
   ·have a:X.R d=some q:=a;rw[c9]at f g
    have o:q.src≠r.dst:=λw=>by
     have:=p.noch d q a;rw[w,u]at this;cases this
    rw[if_neg o]at f;by_cases w:d=r.dst
    ·subst w;rw[u]at a;injection a with a;subst a;rw[if_pos rfl]at g;injection g with g;subst g;rw[m]at f;injection f with f;subst f;exact((h _ _ _ _ u m hd).sZ n y (l _ _ m) (l _ _ hd)).sub λb i=>⟨i.1,λw=>i.2 w.2⟩
    ·rw[if_neg w]at g;refine(h d q s e a f g).sub λb i=>⟨i,λz=>?_⟩
     have:=p.dst d q a;rw[z.1]at this;exact w this.symm
   ·rw[c9]at j;by_cases w:x=r.dst
    ·rw[if_pos w]at j;injection j with j;subst j;exact(l _ _ hd).sZ
    ·rw[if_neg w]at j;exact l x e j
theorem Vu{e:cU}(h:X.K k=some e):mxK X k=e.S.mx:=by unfold mxK;rw[h]
theorem MkX.cq(h:MkX P X)(j:KX X)(e:RX X)(f:X.R r.dst=some r)(l:iJ t)(m:0<=was->iJ was):MkX (λq b=>P q b/\¬(q=r/\(b=bB r t∨0<=was/\was<mxK X k/\b=bB r was))) (Go.Proofs.YtflehenfikoniaaGreat.cq k was t X r)/\KX (Go.Proofs.YtflehenfikoniaaGreat.cq k was t X r):=by
 unfold Go.Proofs.YtflehenfikoniaaGreat.cq;split
 ·rename_i q;obtain⟨n,o⟩:=h.sZ j e f (m q.1);obtain⟨g,i⟩:=n.sZ o (e.kp kQ) (by rw[ie.1];exact f) l;refine⟨g.sub λd u _ b a=>⟨a.1.1,λw=>w.2.elim (λz=>a.2 ⟨w.1,z⟩) λz=>a.1.2 ⟨w.1,z.2.2⟩⟩,i⟩
 ·rename_i q;obtain⟨g,i⟩:=h.sZ j e f l;exact⟨g.sub λd u _ b a=>⟨a.1,λw=>w.2.elim (λz=>a.2 ⟨w.1,z⟩) λz=>q ⟨z.1,z.2.1⟩⟩,i⟩
theorem Pc(h:k≠r.dst):mxK (Go.Proofs.YtflehenfikoniaaGreat.cq k was t X r) k=mxK X k:=by
 have:(Go.Proofs.YtflehenfikoniaaGreat.cq k was t X r).K k=X.K k:=by
  unfold Go.Proofs.YtflehenfikoniaaGreat.cq;rw[lE h];split
  ·exact lE h
  ·rfl
 unfold mxK;rw[this]
theorem MkX.steps{m:Int}(j:iJ t)(l:0<=was->iJ was):∀(e:List Rl) {X:SpV} {Q:Rl->Prop},MkX (λq b=>(b=bB q t∨0<=was/\was<m/\b=bB q was)/\Q q) X->KX X->RX X->mxK X k=m->(∀r∈e,X.R r.dst=some r/\r.src=k)->MkX (λq b=>(b=bB q t∨0<=was/\was<m/\b=bB q was)/\Q q/\q∉e) (e.foldl (Go.Proofs.YtflehenfikoniaaGreat.cq k was t) X)/\KX (e.foldl (Go.Proofs.YtflehenfikoniaaGreat.cq k was t) X)
 | [],X,Q,h,f,_,_,_=>⟨h.sub λ_ _ _ _ a=>⟨a.1,a.2,Z5⟩,f⟩
 |r::e,X,Q,h,f,g,n,o=>by
  obtain⟨p,v⟩:=o r q0b;have i:k≠r.dst:=λw=>iH (g.rul _ _ p) (v.trans w)
  obtain⟨s,x⟩:=h.cq (k:=k) f g p j l;rw[n]at s;have y:MkX (λq b=>(b=bB q t∨0<=was/\was<m/\b=bB q was)/\(Q q/\q≠r)) (Go.Proofs.YtflehenfikoniaaGreat.cq k was t X r):=s.sub λd u _ b a=>⟨a.1.1,a.1.2,λw=>a.2 ⟨w,by rw[<-w];exact a.1.1⟩⟩
  obtain⟨z,A⟩:=MkX.steps j l e (X:=Go.Proofs.YtflehenfikoniaaGreat.cq k was t X r) y x (g.kp nV) (by rw[Pc i];exact n) λq B=>by rw[nV.1];exact o q (Y4 _ B)
  refine⟨z.sub λd u _ b a=>⟨a.1,a.2.1.1,λw=>?_⟩,A⟩;rcases Z4.1 w with w|w
  ·exact a.2.1.2 w
  ·exact a.2.2 w
theorem MkX.Gv:∀(L:Smp) {s:Int×SpV} {Q:Rl->Int->Prop},MkX (λq b=>Q q b/\(q=r->s.1<b/\∃x∈L,b=bB r x.1)) s.2->KX s.2->RX s.2->s.2.R r.dst=some r->Up L->(∀x∈L,iJ x.1)->MkX (λq b=>Q q b/\q≠r) (L.foldl (bV r) s).2/\KX (L.foldl (bV r) s).2
 | [],s,Q,h,g,_,_,_,_=>⟨h.sub λ_ _ _ _ f=>⟨f.1,λw=>by obtain⟨_,x,A,_⟩:=f.2 w;cases A⟩,g⟩
 |x::L,s,Q,h,g,l,m,B,o=>by
  have i:=l.rul _ _ m;obtain⟨C,D⟩:=q1j.1 B;have p:=o x q0b;have u:=Eu i p;refine MkX.Gv L (s:=bV r s x) (Q:=Q) ?_ ?_ (l.kp kJ) (by rw[kJ.1];exact m) D λy a=>o y (Y4 _ a)
  ·unfold bV;split
   ·rename_i w;obtain⟨v,_⟩:=h.sZ g l m u;rw[vw]at v;refine v.sub λd q _ b f=>⟨f.1.1,λz=>?_⟩
    obtain⟨n,y,a,j⟩:=f.1.2 z;have E:b≠bB r x.1:=λe=>f.2 ⟨z,e⟩
    rcases Z4.1 a with rfl|a
    ·exact absurd j E
    ·have:=vz i p (o y (Y4 _ a)) (Int.le_of_lt (C y a));exact⟨by show bB r x.1<b;omega,y,a,j⟩
   ·rename_i w;refine h.sub λd q _ b f=>⟨f.1,λz=>?_⟩
    obtain⟨n,y,a,j⟩:=f.2 z;rcases Z4.1 a with rfl|a
    ·rw[j]at n;exact absurd n w
    ·exact⟨n,y,a,j⟩
  ·unfold bV;split
   ·exact(h.sZ g l m u).2
   ·exact g
theorem MkX.O5{gone:Smp}(m:Up gone)(g:∀x∈gone,iJ x.1):∀(f:List Rl) {X:SpV} {Q:Rl->Prop},MkX (λq b=>(∃x∈gone,b=bB q x.1)/\Q q) X->KX X->RX X->(∀r∈f,X.R r.dst=some r)->MkX (λq b=>(∃x∈gone,b=bB q x.1)/\Q q/\q∉f) (f.foldl (cu gone) X)/\KX (f.foldl (cu gone) X)
 | [],X,Q,h,i,_,_=>⟨h.sub λ_ _ _ _ a=>⟨a.1,a.2,Z5⟩,i⟩
 |r::f,X,Q,h,i,j,n=>by
  have o:=n r q0b;have l:=j.rul _ _ o;have p:Kp X (cu gone X r):=pF gone
  have y:MkX (λq b=>((∃x∈gone,b=bB q x.1)/\Q q)/\(q=r->(-1:Int)<b/\∃x∈gone,b=bB r x.1)) X:=h.sub λd q _ b a=>⟨a,λw=>by
   obtain⟨x,v,e⟩:=a.1;rw[w]at e;have:=(lG l (g x v)).1;exact⟨by omega,x,v,e⟩⟩
  obtain⟨z,A⟩:=MkX.Gv gone (s:=(-1,X)) y i j o m g;have B:MkX (λq b=>(∃x∈gone,b=bB q x.1)/\(Q q/\q≠r)) (cu gone X r):=MkX.sub (X:=cu gone X r) z λd q _ b a=>⟨a.1.1,a.1.2,a.2⟩
  obtain⟨C,D⟩:=MkX.O5 m g f (X:=cu gone X r) B A (j.kp p) λq E=>by rw[p.1];exact n q (Y4 _ E)
  refine⟨C.sub λd u _ b a=>⟨a.1,a.2.1.1,λw=>?_⟩,D⟩;rcases Z4.1 w with w|w
  ·exact a.2.1.2 w
  ·exact a.2.2 w
end
def MkN(X:SpV):Prop:=MkX (λ_ _=>False) X
structure mr(X:SpV)(b:Nat):Prop where
 inv:Inv X b
 kx:KX X
 mn:MkN X
section
variable {X Y:SpV} {r:Rl} {k:Tx} {t:Int} {c:SpC} {b:Nat}
theorem mr.no:mr lF 0:=⟨Inv.no,λ_ _ h=>(by cases h),λ_ _ _ _ h=>(by cases h)⟩
theorem La{S:Sr}{L:Smp}{t v p:Int}(a:(bJ S L t v p).2=0):(0<=t/\t<1099511627776)/\(bJ S L t v p).1.1.mx=max S.mx t:=by
 unfold bJ at a⊢;generalize (if p=0 then S.pol else p)=q at a⊢;split at a
 ·cases a
 ·rename_i e;rw[if_neg e];split at a
  ·cases a
  ·rename_i f;rw[if_neg f];split at a
   ·rename_i d;rw[if_pos d];exact⟨⟨by omega,by omega⟩,rfl⟩
   ·rename_i d;exact absurd a d
theorem Pd(h:mr X b)(u:bF X c)(k:Tx)(t v p:Int):KX (jc X k t v p).1/\MkN (jc X k t v p).1:=by
 have A:=RX.of h.inv.noch u;unfold jc;split
 ·exact⟨h.kx,h.mn⟩
 ·rename_i F;have G:=vy (q2t F);split
  ·exact⟨h.kx,h.mn⟩
  ·rename_i e o;split
   ·exact⟨h.kx,h.mn⟩
   ·rename_i a;have a:=q2t a;obtain⟨H,N⟩:=La a;have i:=h.kx k e o;have j:Kp X (uX X k e t v p):=kR o
    have B:KX (uX X k e t v p):=λx y l=>by
     unfold uX at l;rw[c9]at l;split at l
     ·injection l with l;subst l;exact i.add t v p
     ·exact h.kx x y l
    have C:mxK (uX X k e t v p) k=(bJ e.S e.L t v p).1.1.mx:=Vu (e:={e with S:=(bJ e.S e.L t v p).1.1,L:=(bJ e.S e.L t v p).1.2}) (by unfold uX;rw[c9,if_pos rfl])
    have I:MkX (λq b=>(b=bB q t∨0<=e.S.mx/\e.S.mx<(bJ e.S e.L t v p).1.1.mx/\b=bB q e.S.mx)/\q.src=k) (uX X k e t v p):=λd q s y m f n=>by
     have m:X.R d=some q:=m;unfold uX at f n;rw[c9]at f n;have D:d≠k:=λw=>by rw[w,G]at m;cases m
     rw[if_neg D]at n;by_cases w:q.src=k
     ·rw[if_pos w]at f;injection f with f;subst f;rw[<-w]at o;refine((h.mn d q e y m o n).Vq (A.rul _ _ m) i a).sub λb g=>⟨?_,w⟩
      rcases g with g|g
      ·exact .inr g
      ·exact .inl g
     ·rw[if_neg w]at f;exact(h.mn d q s y m f n).sub λ_ z=>z.elim
    obtain⟨J,K⟩:=I.steps (k:=k) ⟨H.1,by omega⟩ (λq=>⟨q,by have:=i.mx;omega⟩) (ofX X k) B (A.kp j) C λr M=>by rw[j.1];exact u.mq.1 M
    refine⟨K,J.sub λd q E b g=>?_⟩;rw[(j.trans (rB _)).1]at E;have hd:=A.dst d q E;exact g.2.2 (u.mq.2 ⟨by rw[hd];exact E,g.2.1⟩)
theorem Vv(h:mr X b)(o:bF X c)(k:Tx)(x y:Int):KX (pD X k x y).1/\MkN (pD X k x y).1:=by
 have p:=RX.of h.inv.noch o;unfold pD;split
 ·exact⟨h.kx,h.mn⟩
 ·rename_i C;have D:=vy (q2t C);split
  ·exact⟨h.kx,h.mn⟩
  ·rename_i e l;have a:=h.kx k e l;have f:Kp X (fu X k {e with L:=aE e.L x y}):=kR l
   have v:KX (fu X k {e with L:=aE e.L x y}):=λu z j=>by
    rw[c9]at j;split at j
    ·injection j with j;subst j;exact a.drop x y
    ·exact h.kx u z j
   have E:MkX (λq b=>(∃u∈bd x y e.L,b=bB q u.1)/\q.src=k) (fu X k {e with L:=aE e.L x y}):=λd q s z g i m=>by
    have g:X.R d=some q:=g;rw[c9]at i m;have A:d≠k:=λw=>by rw[w,D]at g;cases g
    rw[if_neg A]at m;by_cases w:q.src=k
    ·rw[if_pos w]at i;injection i with i;subst i;rw[<-w]at l;exact((h.mn d q e z g l m).Vr (p.rul _ _ g) a x y).sub λb n=>⟨n,w⟩
    ·rw[if_neg w]at i;exact(h.mn d q s z g i m).sub λ_ z=>z.elim
   obtain⟨F,G⟩:=E.O5 (kO a.up x y) (λu H=>a.tm u (eQ.1 H).1) (ofX X k) v (p.kp f) λr I=>by rw[f.1];exact(o.mq.1 I).1
   refine⟨G,F.sub λd q B b n=>?_⟩;rw[(f.trans (uc _)).1]at B;have hd:=p.dst d q B;exact n.2.2 (o.mq.2 ⟨by rw[hd];exact B,n.2.1⟩)
theorem Vw(h:mr X b)(a:bF X c)(k:Tx)(t y:Int):KX (pE X k t y).1/\MkN (pE X k t y).1:=by
 unfold pE;split
 ·exact⟨h.kx,h.mn⟩
 ·split
  ·exact⟨h.kx,h.mn⟩
  ·split
   ·exact⟨h.kx,h.mn⟩
   ·split
    ·exact⟨h.kx,h.mn⟩
    ·split
     ·exact⟨h.kx,h.mn⟩
     ·split<;>exact Pd h a _ _ _ _
theorem Lb(h:mr X b)(k:Tx)(z ret pol:Int)(l:List Lab):KX (crF X k z ret pol l).1/\MkN (crF X k z ret pol l).1:=by
 unfold crF;split
 ·exact⟨h.kx,h.mn⟩
 ·rename_i S n;split
  ·split
   ·exact⟨h.kx,h.mn⟩
   ·rename_i i;refine⟨λx y a=>?_,λd q s y e f g=>?_⟩
    ·have a:(if x=k then some (⟨S,[],z,b9 l⟩:cU)else X.K x)=some y:=a;split at a
     ·injection a with a;subst a;exact KI.new n
     ·exact h.kx x y a
    ·have e:X.R d=some q:=e;obtain⟨j,m⟩:=h.inv.links d q e;have f:(if q.src=k then some (⟨S,[],z,b9 l⟩:cU)else X.K q.src)=some s:=f;have g:(if d=k then some (⟨S,[],z,b9 l⟩:cU)else X.K d)=some y:=g;rw[if_neg (λw=>by rw[w]at j;exact i j)]at f;rw[if_neg (λw=>by rw[w]at m;exact i m)]at g;exact h.mn d q s y e f g
  ·exact⟨h.kx,h.mn⟩
theorem Pe(h:mr X b)(u:bF X c)(k:Tx)(ret pol:Int)(l:List Lab):KX (rA X k ret pol l).1/\MkN (rA X k ret pol l).1:=by
 unfold rA;split
 ·exact⟨h.kx,h.mn⟩
 ·rename_i e m;have g:=h.kx k e m;split
  ·split
   ·exact⟨h.kx,h.mn⟩
   ·refine⟨λx y i=>?_,λd q s y j f a=>?_⟩
    ·have i:(if x=k then some (⟨(cV e.S e.L ret pol).1.1,(cV e.S e.L ret pol).1.2,e.z,b9 l⟩:cU)else X.K x)=some y:=i;split at i
     ·injection i with i;subst i;exact g.alt ret pol
     ·exact h.kx x y i
    ·have j:X.R d=some q:=j;have f:(if q.src=k then some (⟨(cV e.S e.L ret pol).1.1,(cV e.S e.L ret pol).1.2,e.z,b9 l⟩:cU)else X.K q.src)=some s:=f;have a:(if d=k then some (⟨(cV e.S e.L ret pol).1.1,(cV e.S e.L ret pol).1.2,e.z,b9 l⟩:cU)else X.K d)=some y:=a;have n:=u.rul d q j;have o:q.src≠d:=λw=>iH n (w.trans (u.Ei j).symm)
     by_cases w:q.src=k
     ·rw[if_pos w]at f;injection f with f;subst f;rw[if_neg (λz=>o (w.trans z.symm))]at a;rw[<-w]at m;exact(h.mn d q e y j m a).Vs n g ret pol
     ·rw[if_neg w]at f;by_cases p:d=k
      ·rw[if_pos p]at a;injection a with a;subst a;rw[<-p]at m;exact(h.mn d q s e j f m).Vt g ret pol
      ·rw[if_neg p]at a;exact h.mn d q s y j f a
  ·exact⟨h.kx,h.mn⟩
theorem Vx(h:mr X b)(s d:Tx):KX (qj X s d).1/\MkN (qj X s d).1:=by
 unfold qj;split
 ·exact⟨h.kx,h.mn⟩
 ·split
  ·refine⟨h.kx,λx q s y a e f=>?_⟩;have a:(if x=d then none else X.R x)=some q:=a;split at a
   ·cases a
   ·exact h.mn x q s y a e f
  ·exact⟨h.kx,h.mn⟩
theorem drop_mk(h:mr X b)(k:Tx):KX (jz X k)/\MkN (jz X k):=by
 unfold jz;split
 ·refine⟨λx y e=>?_,λd q s y a f g=>?_⟩
  ·dsimp only at e;split at e
   ·cases e
   ·exact h.kx x y e
  ·dsimp only at a f g;split at f
   ·cases f
   ·split at g
    ·cases g
    ·split at a
     ·rename_i i j;split at a
      ·cases a
      ·injection a with a;subst a;exact h.mn d i s y j f g
     ·cases a
 ·exact⟨h.kx,h.mn⟩
theorem RW(i:bF X c)(h:(rlF X r).2=0):bk r=true/\(X.K r.src).isSome=true/\(X.K r.dst).isSome=true/\X.R r.src=none/\ofX X r.dst=[]/\(rlF X r).1={m5 X r.dst (some r)with n:=X.n+1}:=by
 unfold rlF at h⊢;by_cases f:bk r=true
 ·rw[if_pos f]at h⊢;by_cases d:(X.K r.src).isSome=true/\(X.K r.dst).isSome=true
  ·rw[if_pos d]at h⊢;by_cases g:(X.R r.dst).isSome=true
   ·rw[if_pos g]at h;cases h
   ·rw[if_neg g]at h⊢;by_cases a:(X.R r.src).isSome=true∨0<(ofX X r.dst).length
    ·rw[if_pos a]at h;cases h
    ·rw[if_neg a]at h⊢;refine⟨f,d.1,d.2,?_,?_,rfl⟩
     ·cases e:X.R r.src with
      |none=>rfl
      |some u=>rw[e]at a;exact absurd (Or.inl rfl) a
     ·cases e:ofX X r.dst with
      |nil=>rfl
      |cons u l=>rw[e]at a;exact absurd (Or.inr (by simp)) a
  ·rw[if_neg d]at h;cases h
 ·rw[if_neg f]at h;cases h
theorem Pg(q:(rlF X r).2≠0):(rlF X r).1=X:=by
 revert q;unfold rlF
 repeat' split
 all_goals first|exact λ_=>rfl|exact λq=>absurd rfl q
theorem RY(h:mr X b)(F:bF X c)(r:Rl):KX (lkF X r).1/\MkN (lkF X r).1:=by
 have I:=RX.of h.inv.noch F;unfold lkF;split
 ·rename_i q;rw[Pg q];exact⟨h.kx,h.mn⟩
 ·rename_i q;obtain⟨G,S,T,U,V,W⟩:=RW F (q2t q);obtain⟨d,hd⟩:=q0i.1 T;obtain⟨s,J⟩:=q0i.1 S;have B:=iH G;rw[W];have Z:({m5 X r.dst (some r)with n:=X.n+1}:SpV).K r.dst=some d:=hd;have e2:({m5 X r.dst (some r)with n:=X.n+1}:SpV).K r.src=some s:=J;rw[Z,e2];dsimp only;obtain⟨f,v⟩:∃f,f=({m5 X r.dst (some r)with n:=X.n+1}:SpV):=⟨_,rfl⟩;have g:∀x,f.R x=if x=r.dst then some r else X.R x:=λ_=>by rw[v];rfl
  have A:f.K=X.K:=by rw[v];rfl
  rw[<-v]
  have i:∀x u,X.R x=some u->u.src≠r.dst:=λx u a w=>by
   have:u∈ofX X r.dst:=F.mq.2 ⟨by rw[F.Ei a];exact a,w⟩;rw[V]at this;cases this
  have M:RX f:=by
   refine⟨λx u a=>?_,λx u a=>?_,λx u a=>?_⟩
   ·rw[g]at a⊢;split at a
    ·injection a with a;subst a;rw[if_neg B];exact U
    ·rw[if_neg (i x u a)];exact I.noch x u a
   ·rw[g]at a;split at a
    ·rename_i w;injection a with a;subst a;exact w.symm
    ·exact I.dst x u a
   ·rw[g]at a;split at a
    ·injection a with a;subst a;exact G
    ·exact I.rul x u a
  have C:Kp f (sY f r.dst d):=kR (by rw[A];exact hd);have j:=h.kx _ _ J;have D:=h.kx _ _ hd
  have N:KX (sY f r.dst d):=λx y p=>by
   unfold sY at p;rw[c9]at p;split at p
   ·injection p with p;subst p;exact D.drop _ _
   ·rw[A]at p;exact h.kx x y p
  have E:aE d.L 0 1099511627776=[]:=by
   unfold aE;rw[q4c];intro x O;have:=D.cW x O;simp only[q1g,decide_eq_true_eq];omega
  have m0:MkX (λq b=>q=r/\(q=r->(-1:Int)<b/\∃x∈bd 0 1099511627776 s.L,b=bB r x.1)) (sY f r.dst d):=λx q u y l m o=>by
   have l:f.R x=some q:=l;rw[g]at l;unfold sY at m o;rw[c9]at m o;rw[A]at m o;by_cases w:x=r.dst
   ·rw[if_pos w]at l o;injection l with l;injection o with o;subst l o;rw[if_neg B,J]at m;injection m with m;subst m;refine(MkE.new G j E).sub λb H=>⟨rfl,λ_=>?_⟩
    obtain⟨z,P,e⟩:=H;have h9:=j.cW z P;have:=(lG G (j.tm z P)).1;exact⟨by omega,z,eQ.2 ⟨P,by omega,by omega⟩,e⟩
   ·rw[if_neg w]at l o;rw[if_neg (i x q l)]at m;exact(h.mn x q u y l m o).sub λ_ z=>z.elim
  obtain⟨a1,a2⟩:=MkX.Gv (bd 0 1099511627776 s.L) (s:=(-1,sY f r.dst d)) (Q:=λq _=>q=r) m0 N (M.kp C) (by rw[C.1,g,if_pos rfl]) (kO j.up _ _) λx O=>j.tm x (eQ.1 O).1
  exact⟨a2,MkX.sub a1 λ_ _ _ _ H=>H.2 H.1⟩
theorem mr.doo(h:mr X b)(a:bF X c)(o:Oq):mr (doF X o).1 (b+2):=by
 have key:KX (doF X o).1/\MkN (doF X o).1:=by
  unfold doF;split
  ·exact Pd h a _ _ _ _
  ·split
   ·exact Vw h a _ _ _
   ·split
    ·exact Vv h a _ _ _
    ·split
     ·exact Lb h _ _ _ _ _
     ·split
      ·exact Pe h a _ _ _ _
      ·split
       ·exact drop_mk h _
       ·split
        ·exact RY h a _
        ·exact Vx h _ _
 exact⟨h.inv.doo a o,key.1,key.2⟩
end
def Vy:DT:=[(11,[(some 0,[7]),(some 0,[9]),(some 0,[45,46]),(some 0,[47]),(some 0,[48]),(some 0,[3]),(some 0,[50]),(some 0,[3]),(some 0,[52]),(none,[49,51,53]),(some 0,[54])]),
 (13,[(some 0,[5]),(none,[61]),(some 0,[62]),(some 0,[63]),(some 0,[11,64]),(some 0,[5,64]),(none,[66,64]),(some 1,[3,64]),(some 2,[68,64]),(some 3,[3,64]),(some 4,[70,64]),(none,[67,69,71,64]),(some 0,[65,72,64]),(some 0,[64,73]),(some 0,[74]),(some 0,[10,75]),(some 0,[5,75]),(none,[77,75]),(some 0,[76,78,75]),(some 0,[75,79]),(some 0,[80]),(some 0,[10,81]),(some 0,[6,81]),(none,[83,81]),(some 0,[82,84,81]),(some 0,[81,85])]),
 (14,[(some 0,[3]),(some 0,[88]),(some 0,[5]),(some 0,[10]),(some 0,[11]),(some 0,[92]),(none,[90,91,93]),(none,[89,94]),(some 0,[95]),(some 0,[87]),(some 0,[87]),(some 0,[96]),(some 0,[97])])]
def kMd:FuncId->EP:=bg 13 Vy (aq 16 IK (cn 21 (xE DV) (cn 24 (ky NV) (cn 54 (tD eu) (cn 55 (tD qh) (cn 37 (ky Wy) (cn 56 (wN 9223372036854775807 sd) (cn 22 (ky Wz) evP))))))))
theorem Vz:aV kMd:=au (ag (aL (aL (aL (aL (aL (aL (aL az WD (FX _)) Mo Mi) WC (FX _)) Mk wK) u9 wK) Sy (FX _)) Sz (Ur _)) OX) (by kernel_rfl) (by kernel_rfl)
theorem XW:RTy 52 52 2 16:=⟨_,_,_,rfl,rfl,(λq h=>by cases h),rfl,rfl,rfl,rfl,by decide,by decide⟩
theorem Ew(L:Smp):(smp L).all om=true:=by
 induction L with
 |nil=>rfl
 |cons c L a=>exact a
def mdL (X:SpV) (r:Rl) (q:Nat×Nat) (A:Smp) (p1:Nat×Nat) (p2:Nat×Nat) (s:cU) (d:cU) (i:Nat):AE×AH:=(mkE [(3,.ptr 1 (0)),(4,.sb (false)),(5,aK p1),(6,aK p2),(7,.rw 24 0 A.length 2 0),(9,.si .i64 (i))],mkH [(0,.sep (SpB.Q X q)),(1,.cells (ruC r) true),(7,.sep (cz p1 s.S s.L)),(13,.sep (cz p2 d.S d.L)),(24,.cells (smp (A)) true)])
theorem nX{X:SpV}{r:Rl}{q:Nat×Nat}{A:Smp}{p1:Nat×Nat}{p2:Nat×Nat}{s:cU}{d:cU}{i:Nat}{p n:Nat}{σ:AE}{H:AH}{a:List AV}(g:p<=25)(h:aj (pa 3) σ= .ptr 1 (0))(j:mk (aj (pa 4) σ)= .sb (false))(k:aj (pa 5) σ=aK p1)(l:aj (pa 6) σ=aK p2)(m:ah H 25 (λb=>b) (aj (pa 7) σ) (.rw 24 0 A.length 2 0))(o:mk (aj (pa 9) σ)= .si .i64 (i))(t:H.get 0=some (.sep (SpB.Q X q)))(u:H.get 1=some (.cells (ruC r) true))(v:H.get 7=some (.sep (cz p1 s.S s.L)))(c:H.get 13=some (.sep (cz p2 d.S d.L)))(e:H.get 24=some (.cells a true))(f:a.map mk=smp (A)):Cov p σ H n ((mdL X r q A p1 p2 s d i).1,(mdL X r q A p1 p2 s d i).2,25):=
 Cov.ofA g ⟨.ptr (by decide) h,.bool j,ah.aK k,ah.aK l,m,.int o,trivial⟩ ⟨.inl ⟨_,t,ao.sep _⟩,.inl ⟨_,u,ao.refl rfl⟩,.inl ⟨_,v,ao.sep _⟩,.inl ⟨_,c,ao.sep _⟩,.inl ⟨_,e,ao.bA (cg _) (by rw[f,bo]) (λq=>q)⟩,trivial⟩ rfl
theorem Pj(X:SpV)(r:Rl)(q:Nat×Nat){s d:cU}(hs:X.K r.src=some s)(hd:X.K r.dst=some d)(D:KI s)(E:KI d)(F:MkE (λ_=>False) r s d)(ls:s.L.length<=5000)(ld:d.L.length<=5000):ax kMd 5 13 [aK q,gR r] (mkH [(0,.sep (SpB.Q X q))]) 1 (yC SpB X q (.sb true)):=by
 obtain⟨A,G⟩:∃A,A=bd 0 1099511627776 s.L:=⟨_,rfl⟩;obtain⟨B,I⟩:∃B,B=bd 0 1099511627776 d.L:=⟨_,rfl⟩;have lA:A.length<=5000:=by rw[G];exact Y7 (q0y _ _) ls
 have lB:B.length<=5000:=by rw[I];exact Y7 (q0y _ _) ld
 have lAB:(A++B).length<=10000:=by rw[Z6];omega
 have J:∀x∈A++B,iJ x.1:=λx hx=>by
  rcases q1e.1 hx with h|h
  ·rw[G]at h;exact D.tm x (eQ.1 h).1
  ·rw[I]at h;exact E.tm x (eQ.1 h).1
 have m:(([]++smp A)++smp B).map Go.Proofs.YtflehenfikoniaaGreat.mk=smp (A++B):=by rw[q2h,<-pR,bo]
 have u:∀{H:AH} (a:AV),a= .rw 24 0 (0+A.length+B.length) 2 0->ah H 25 (λb=>b) a (.rw 24 0 (A++B).length 2 0):=λa e=>by
  subst e;rw[Z6,q0x];exact .rw (by decide) rfl
 have f:∀{H:AH} (a:AV),a= .rw 24 0 (A++B).length 2 0->ah H 25 (λb=>b) a (.rw 24 0 (A++B).length 2 0):=λa e=>by
  subst e;exact .rw (by decide) rfl
 conv=>whnf
 refine⟨0,q,X,r.src,_,rfl,by decide,by decide,.cons .same .nil,rfl,rfl,.inr ⟨s,hs,λj=>?_⟩⟩
 conv=>whnf
 refine⟨0,q,X,r.dst,_,rfl,by decide,by decide,.cons .same .nil,rfl,rfl,.inr ⟨d,hd,λl=>?_⟩⟩
 conv=>whnf
 refine⟨7,j,s.S,s.L,A,rfl,by decide,rfl,⟨by decide,rfl,rfl,rfl,rfl⟩,⟨_,_,0,1099511627776,rfl,rfl,rfl,G⟩,?_⟩
 conv=>whnf
 refine⟨13,l,d.S,d.L,B,rfl,by decide,rfl,⟨by decide,rfl,rfl,rfl,rfl⟩,⟨_,_,0,1099511627776,rfl,rfl,rfl,I⟩,?_⟩
 conv=>whnf
 refine bI.grow 2 16 A.length 0 (smp A) [] _ true XW (.rw (.inr ⟨_,rfl⟩) (dL _)) (bb _) (Ew _) (.sl rfl rfl (Z3 _) (Z3 _)) (by omega) ?_
 conv=>whnf
 refine bI.grow 2 16 B.length (0+A.length) (smp B) ([]++smp A) _ true XW (.rw (.inr ⟨_,rfl⟩) (dL _)) (bb _) (Ew _) (.rw rfl (by rw[q2h,q0x];exact dL _)) (by omega) ?_
 conv=>whnf
 refine aR.mk {i:Nat//i<=(A++B).length} 25 (λi=>mdL X r q (A++B) j l s d i.val) (λi=>(A++B).length-i.val) ⟨0,Y5 _⟩ ?_ ?_
 ·exact nX (i:=0) (A:=A++B) (by decide) rfl rfl rfl rfl (u _ rfl) rfl rfl rfl rfl rfl rfl m
 intro⟨i,U⟩;have U:i<=(A++B).length:=U;have o:IntKind.i64.wrap ((i:Int)+1)=((i+1:Nat):Int):=by rw[ai (by omega) (by omega)];omega
 conv=>whnf
 refine ae.dec (λh=>?_) (λh=>?_)
 focus
  have y:i<(A++B).length:=q0s.1 h;have M:(A++B).length-(i+1)<(A++B).length-i:=by omega
  obtain⟨T,N⟩:∃T,T=(A++B)[i].1:=⟨_,rfl⟩;have hn:∀k,k=i*2->nth (smp (A++B)) k=some (.si .i64 T):=λk e=>by rw[N];exact sa y e
  have tT:iJ T:=by rw[N];exact J _ (q0g y)
  have hE:=uM (t:=bB r T) (s:=r.size) (a:=r.align);have O:IntKind.i64.wrap (eB r T-1)=eB r T-1:=ai (by unfold eB;omega) (by unfold eB;omega);have v:¬s.S.mx<0->¬bB r s.S.mx<eB r T->¬bB r T<bf s.S->¬bB r T<bf d.S->look d.L (bB r T)=nW r (bB r T) s.L:=λa b c e=>F.all T tT (by omega) (by omega) (by omega) (by omega) λz=>z
  obtain⟨V,C⟩:∃V,V=inK r (bB r T) s.L:=⟨_,rfl⟩;have P:V.length<=9223372036854775807:=by rw[C];exact Y7 (q0y _ _) (by omega)
  have yes:wO r.kind V=true->look d.L (bB r T)=nW r (bB r T) s.L->gQ d.L (bB r T)=(tE r.kind V,0):=λz e=>by rw[pX,e];unfold nW;rw[<-C,if_pos z]
  have no:wO r.kind V=false->look d.L (bB r T)=nW r (bB r T) s.L->gQ d.L (bB r T)=(0,5):=λz e=>by rw[pX,e];unfold nW;rw[<-C,z];rfl
  have same:look d.L (bB r T)=nW r (bB r T) s.L->(decide ((gQ d.L (bB r T)).2=0)==wO r.kind V)=true:=λe=>by cases z:wO r.kind V with|true=>rw[yes z e];rfl|false=>rw[no z e];rfl
  have p:∀R H n,Cov 1 R H n ((mdL X r q (A++B) j l s d (i+1)).1,(mdL X r q (A++B) j l s d (i+1)).2,25)->∃w:{i:Nat//i<=(A++B).length},(A++B).length-w.val<(A++B).length-i/\Cov 1 R H n ((mdL X r q (A++B) j l s d w.val).1,(mdL X r q (A++B) j l s d w.val).2,25):=λR H n hc=>⟨⟨i+1,y⟩,M,hc⟩
  clear N
  conv=>whnf
  refine Idx.mk i rfl y ?_
  conv=>whnf
  refine aw (hn _ (by show 0+i*2+0=i*2;omega)) ?_
  conv=>whnf
  refine⟨7,j,s.S,s.L,_,rfl,by decide,rfl,⟨by decide,rfl,rfl,rfl,rfl⟩,⟨rfl,rfl⟩,?_⟩
  conv=>whnf
  refine ae.dec (λW=>?_) (λW=>?_)
  focus
   conv=>whnf
   refine p _ _ _ ?_;exact nX (A:=A++B) (by decide) rfl rfl rfl rfl (f _ rfl) (congrArg (AV.si .i64) o) rfl rfl rfl rfl rfl (bo _)
  conv=>whnf
  refine⟨7,j,s.S,s.L,_,rfl,by decide,rfl,⟨by decide,rfl,rfl,rfl,rfl⟩,⟨rfl,rfl⟩,?_⟩
  conv=>whnf
  refine ae.dec (λz2=>?_) (λz2=>?_)
  focus
   conv=>whnf
   refine p _ _ _ ?_;exact nX (A:=A++B) (by decide) rfl rfl rfl rfl (f _ rfl) (congrArg (AV.si .i64) o) rfl rfl rfl rfl rfl (bo _)
  conv=>whnf
  refine⟨7,j,s.S,s.L,_,rfl,by decide,rfl,⟨by decide,rfl,rfl,rfl,rfl⟩,⟨rfl,rfl⟩,?_⟩
  conv=>whnf
  refine ae.dec (λY=>?_) (λY=>?_)
  focus
   conv=>whnf
   refine p _ _ _ ?_;exact nX (A:=A++B) (by decide) rfl rfl rfl rfl (f _ rfl) (congrArg (AV.si .i64) o) rfl rfl rfl rfl rfl (bo _)
  conv=>whnf
  refine⟨13,l,d.S,d.L,_,rfl,by decide,rfl,⟨by decide,rfl,rfl,rfl,rfl⟩,⟨rfl,rfl⟩,?_⟩
  conv=>whnf
  refine ae.dec (λZ=>?_) (λZ=>?_)
  focus
   conv=>whnf
   refine p _ _ _ ?_;exact nX (A:=A++B) (by decide) rfl rfl rfl rfl (f _ rfl) (congrArg (AV.si .i64) o) rfl rfl rfl rfl rfl (bo _)
  have g:=v W z2 Y Z
  conv=>whnf
  refine⟨7,j,s.S,s.L,V,rfl,by decide,rfl,⟨by decide,rfl,rfl,rfl,rfl⟩,⟨_,_,bB r T,eB r T-1,rfl,rfl,congrArg (AV.si .i64) O,C⟩,?_⟩
  conv=>whnf
  refine⟨V,.WG rfl rfl,P,?_⟩
  conv=>whnf
  refine⟨13,l,d.S,d.L,.tup [.si .i64 (gQ d.L (bB r T)).1,.si .i64 (gQ d.L (bB r T)).2],rfl,by decide,rfl,⟨by decide,rfl,rfl,rfl,rfl⟩,⟨_,_,rfl,rfl,rfl⟩,?_⟩
  conv=>whnf
  refine ae.nsb (λz5=>?_) (λ_=>?_)
  focus
   exact absurd ((same g).symm.trans z5) (by decide)
  conv=>whnf
  refine ae.sb (λz6=>?_) (λz6=>?_)
  focus
   conv=>whnf
   refine ae.dk (λz7=>?_) (λ_=>?_)
   focus
    exact absurd (by rw[yes z6 g]) z7
   conv=>whnf
   refine p _ _ _ ?_;exact nX (A:=A++B) (by decide) rfl rfl rfl rfl (f _ rfl) (congrArg (AV.si .i64) o) rfl rfl rfl rfl rfl (bo _)
  conv=>whnf
  refine p _ _ _ ?_;exact nX (A:=A++B) (by decide) rfl rfl rfl rfl (f _ rfl) (congrArg (AV.si .i64) o) rfl rfl rfl rfl rfl (bo _)
 conv=>whnf
 exact yC.told rfl rfl
def Pm(X:SpV)(cs:List AV)(a:SpV)(v:AV):Prop:=∃r,cs=[gR r]/\a=X/\X.R r.dst=some r/\Links X/\KX X/\MkN X/\Bnd X 5000/\v= .sb true
theorem VA:ak 13 (yj SpB Pm):=SV Vz 5 (by kernel_rfl) SpB λX cs f v p n ⟨r,g,h,b,i,c,j,e,k⟩=>by
 subst g h k;obtain⟨l,m⟩:=i _ _ b;obtain⟨s,a⟩:=q0i.1 l;obtain⟨d,hd⟩:=q0i.1 m;exact⟨rfl,rfl,Pj f r p a hd (c _ _ a) (c _ _ hd) (j _ _ _ _ b a hd) (e _ _ a) (e _ _ hd)⟩
def kMs:FuncId->EP:=bg 3 [] (aq 14 FY (aq 9 (uI 5 SpB λcs y=>cs=[]/\y=lF) (aq 10 (db XU) (aq 11 (yj SpB XV) (aq 13 (yj SpB Pm) (aq 12 (eg 5 SpB U6) evP))))))
theorem VB:aV kMs:=au (ag (ag (ag (ag (ag (ag az zO) VA) YF) RT) IH) K3) (by kernel_rfl) (by kernel_rfl)
def msL (S:List Oq) (X:SpV) (q:Nat×Nat) (i:Nat):AE×AH:=(mkE [(0,.fr S.length 14 (oqC S)),(3,aK q),(4,.si .i64 (i))],mkH [(0,.sep (SpB.Q X q))])
theorem s6{S:List Oq}{X:SpV}{q:Nat×Nat}{i:Nat}{p n:Nat}{σ:AE}{H:AH}(a:p<=0)(b:aj (pa 0) σ= .fr S.length 14 (oqC S))(c:aj (pa 3) σ=aK q)(d:mk (aj (pa 4) σ)= .si .i64 (i))(e:H.get 0=some (.sep (SpB.Q X q))):Cov p σ H n ((msL S X q i).1,(msL S X q i).2,1):=
 Cov.ofA (Y7 a (by decide)) ⟨ah.frE b,ah.aK c,.int d,trivial⟩ ⟨.inl ⟨_,e,ao.sep _⟩,trivial⟩ rfl
def msI (S:List Oq) (X:SpV) (q:Nat×Nat) (i:Nat) (K:List Rl) (j:Nat):AE×AH:=(mkE [(0,.fr S.length 14 (oqC S)),(3,aK q),(4,.si .i64 (i)),(5,.fr K.length 5 (ruL K)),(6,.si .i64 (j))],mkH [(0,.sep (SpB.Q X q))])
theorem IU{S:List Oq}{X:SpV}{q:Nat×Nat}{i:Nat}{K:List Rl}{j:Nat}{p n:Nat}{σ:AE}{H:AH}(a:p<=1)(b:aj (pa 0) σ= .fr S.length 14 (oqC S))(c:aj (pa 3) σ=aK q)(d:mk (aj (pa 4) σ)= .si .i64 (i))(e:aj (pa 5) σ= .fr K.length 5 (ruL K))(f:mk (aj (pa 6) σ)= .si .i64 (j))(g:H.get 0=some (.sep (SpB.Q X q))):Cov p σ H n ((msI S X q i K j).1,(msI S X q i K j).2,1):=
 Cov.ofA a ⟨ah.frE b,ah.aK c,.int d,ah.frE e,.int f,trivial⟩ ⟨.inl ⟨_,g,ao.sep _⟩,trivial⟩ rfl
theorem BU(S:List Oq)(B:∀o∈S,o.In)(hS:S.length<=8796093022208):ax kMs 6 3 [.fr S.length 14 (oqC S)] .nil 0 λv _ _=>v= .bool true∨v= .sb true:=by
 conv=>whnf
 refine⟨[],lF,_,by decide,.nil,rfl,⟨rfl,rfl⟩,λq=>?_⟩
 conv=>whnf
 refine aR.mk {w:Nat×SpV//w.1<=S.length/\w.1<=50/\mr w.2 (2*w.1)} 1 (λw=>msL S w.val.2 q w.val.1) (λw=>S.length-w.val.1) ⟨(0,lF),Y5 _,Y5 _,mr.no⟩ ?_ ?_
 ·exact s6 (i:=0) (X:=lF) (q:=q) (Y5 _) rfl rfl rfl rfl
 intro⟨(i,X),P,m,d⟩;have P:i<=S.length:=P;have m:i<=50:=m;have d:mr X (2*i):=d;have u:IntKind.i64.wrap ((i:Int)+1)=((i+1:Nat):Int):=by rw[ai (by omega) (by omega)];omega
 conv=>whnf
 refine ae.dec (λC=>?_) (λC=>?_)
 focus
  conv=>whnf
  refine ae.dec (λD=>?_) (λD=>?_)
  focus
   have e:i<S.length:=q0s.1 C;have W:i<50:=by have h:(i:Int)<50:=D;omega
   have E:S.length-(i+1)<S.length-i:=by omega
   have p:=B S[i] (q0g e);obtain⟨o,ho⟩:∃o,o=S[i]:=⟨_,rfl⟩;have f:bl (oqC S) (i*14) 14=some (opC o):=by rw[ho];exact IM e rfl
   have Q:nth (oqC S) (i*14)=some (.si .i64 o.kind):=by rw[ho];exact RU (j:=0) e rfl rfl
   rw[<-ho]at p;have fin:∀Y F H n,mr Y (2*(i+1))->Cov 0 F H n ((msL S Y q (i+1)).1,(msL S Y q (i+1)).2,1)->∃w:{w:Nat×SpV//w.1<=S.length/\w.1<=50/\mr w.2 (2*w.1)},S.length-w.val.1<S.length-i/\Cov 0 F H n ((msL S w.val.2 q w.val.1).1,(msL S w.val.2 q w.val.1).2,1):=λY F H n x a=>⟨⟨(i+1,Y),e,W,x⟩,E,a⟩
   have l:mr X (2*(i+1)):=⟨d.inv.mono (by omega),d.kx,d.mn⟩;obtain⟨Y,x⟩:∃Y,Y=(doF X o).1:=⟨_,rfl⟩;obtain⟨K,G⟩:∃K,K=yB Y:=⟨_,rfl⟩;have I:(∃c,bF X c)->mr Y (2*(i+1)):=λh=>h.elim λc a=>by rw[x];exact d.doo a o
   clear ho
   conv=>whnf
   refine Idx.mk i rfl e ?_
   conv=>whnf
   refine aw f ?_
   conv=>whnf
   refine⟨[.agg (opC o)],.sb (iw o),_,.cons .same .nil,⟨o,rfl,rfl⟩,?_⟩
   conv=>whnf
   refine ae.nsb (λR=>?_) (λR=>?_)
   focus
    conv=>whnf
    refine fin X _ _ _ l ?_;exact s6 (X:=X) (q:=q) (Y5 _) rfl rfl (congrArg (AV.si .i64) u) rfl
   conv=>whnf
   refine Idx.mk i rfl e ?_
   conv=>whnf
   refine aw Q ?_
   conv=>whnf
   refine ae.dec (λz2=>?_) (λz2=>?_)
   focus
    conv=>whnf
    refine fin X _ _ _ l ?_;exact s6 (X:=X) (q:=q) (Y5 _) rfl rfl (congrArg (AV.si .i64) u) rfl
   conv=>whnf
   refine Idx.mk i rfl e ?_
   conv=>whnf
   refine aw Q ?_
   conv=>whnf
   refine ae.dec (λZ=>?_) (λZ=>?_)
   focus
    conv=>whnf
    refine fin X _ _ _ l ?_;exact s6 (X:=X) (q:=q) (Y5 _) rfl rfl (congrArg (AV.si .i64) u) rfl
   have T:=K8 R
   conv=>whnf
   refine Idx.mk i rfl e ?_
   conv=>whnf
   refine aw f ?_
   conv=>whnf
   refine⟨0,q,X,[.agg (opC o)],Y,_,_,rfl,by decide,by decide,.cons .same .nil,rfl,λa=>⟨a.elim λc a=>⟨o,doF X o,rfl,p,by omega,by have:=d.inv.n;omega,d.inv.links,λk y J=>Y7 (d.inv.bnd a k y J) (by omega),rfl,x,rfl⟩,?_⟩⟩;have b:mr Y (2*(i+1)):=I a
   conv=>whnf
   refine⟨0,q,Y,[],.fr K.length 5 (ruL K),rfl,by decide,by decide,.nil,rfl,rfl,⟨rfl,by rw[G]⟩,?_⟩
   conv=>whnf
   refine aR.mk {j:Nat//j<=K.length} 1 (λj=>msI S Y q i K j.val) (λj=>K.length-j.val) ⟨0,Y5 _⟩ ?_ ?_
   ·exact IU (X:=Y) (q:=q) (i:=i) (K:=K) (j:=0) (Y5 _) rfl rfl rfl rfl rfl rfl
   intro⟨j,U⟩;have U:j<=K.length:=U;have L:(K.length:Int)<=1000->IntKind.i64.wrap ((j:Int)+1)=((j+1:Nat):Int):=λ_=>by rw[ai (by omega) (by omega)];omega
   conv=>whnf
   refine ae.dec (λV=>?_) (λV=>?_)
   focus
    have A:j<K.length:=q0s.1 V;have s:K.length-(j+1)<K.length-j:=by omega
    obtain⟨r,M⟩:∃r,r=K[j]:=⟨_,rfl⟩;have N:bl (ruL K) (j*5) 5=some (ruC r):=by rw[M];exact vp A rfl
    have O:r∈yB Y:=by rw[<-G,M];exact q0g A
    clear M
    conv=>whnf
    refine Idx.mk j rfl A ?_
    conv=>whnf
    refine aw N ?_
    conv=>whnf
    refine⟨0,q,Y,[gR r],Y,.sb true,_,rfl,by decide,by decide,.cons .same .nil,rfl,λa=>⟨a.elim λc a=>⟨r,rfl,rfl,a.Rk.1 O,b.inv.links,b.kx,b.mn,λk y J=>Y7 (b.inv.bnd a k y J) (by omega),rfl⟩,?_⟩⟩;have t:=L (a.elim λc a=>by rw[G,<-a.all];have C:=Iw c.g λ_=>true;have D:=a.gl;have e:=a.n9;show((pkF c.g _).length:Int)<=1000;omega)
    conv=>whnf
    refine ae.nsb (λz=>absurd z (by decide)) (λ_=>?_)
    conv=>whnf
    refine⟨⟨j+1,A⟩,s,?_⟩;exact IU (X:=Y) (q:=q) (i:=i) (K:=K) (j:=j+1) (by decide) rfl rfl rfl rfl (congrArg (AV.si .i64) t) rfl
   conv=>whnf
   refine fin Y _ _ _ b ?_;exact s6 (X:=Y) (q:=q) (Y5 _) rfl rfl (congrArg (AV.si .i64) u) rfl
  conv=>whnf
  exact .inr rfl
 conv=>whnf
 exact .inr rfl
end Go.Proofs.YtflehenfikoniaaGreat
end
