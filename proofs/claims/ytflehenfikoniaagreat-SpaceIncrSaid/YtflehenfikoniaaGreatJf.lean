/- Texts of our own, joined: the engine, the machine that runs code, and what is known of the functions. -/
import Derived.Test.YtflehenfikoniaaGreatRows
import Derived.WalkKit
import Derived.Deep.Quiet
import Derived.ProofKit
import Derived.Laws.StructEq
import Derived.LaidEql
import Derived.Laws.BytesArg
import Derived.Maps.RangeRun
import Derived.RangeFuncSeq
import Derived.Scope
import Derived.Laws.Strings
import Derived.Laws.Strings2
import Derived.Below
import Derived.Carry
import Derived.OpenShut
import Derived.ChangeMaps5
import Derived.Deep.Slices
import Derived.Deep.SlicePairs
import Derived.SizedLaws
import Derived.Laws.BitsAllLaws
import Derived.RangeFuncRecord
import Derived.Test.YtflehenfikoniaaGreatJe
import Derived.Test.YtflehenfikoniaaGreatJc
set_option linter.unusedSimpArgs false
set_option linter.unusedVariables false
set_option maxHeartbeats 16000000
set_option maxRecDepth 100000
noncomputable section
namespace Go.Proofs.YtflehenfikoniaaGreat
open Go Go.RowKit Go.ChangeShapes Go.WideShapes
theorem Kq:ai 14 wX:=λargs H n f b g c h i K d a e=>by
 unfold wX at b;split at b
 ·exact ic (v:= .bool true) Q9 rfl Ko b d e (by kernel_rfl) HR.ro0 (by rw[a.aQ];exact .nil)
 ·exact b.elim
structure Oq where
 kind:Int
 key:Tx
 t:Int
 v:Int
 p:Int
 z:Int
 ret:Int
 pol:Int
 lab:List Lab
 r:Rl
def opC(o:Oq):List AV:=[.si .i64 o.kind,.ss o.key,.si .i64 o.t,.si .i64 o.v,.si .i64 o.p,.si .i64 o.z,.si .i64 o.ret,.si .i64 o.pol,gL o.lab,.ss o.r.src,.ss o.r.dst,.si .i64 o.r.kind,.si .i64 o.r.size,.si .i64 o.r.align]
def oqC(S:List Oq):List AV:=S.flatMap opC
theorem Ol(o:Oq):(opC o).all mg=true:=rfl
theorem DX:∀S:List Oq,(oqC S).all mg=true
 | []=>rfl
 |o::S=>by
  show((opC o)++oqC S).all mg=true;rw[List.all_append,Ol,DX S];rfl
theorem xH(S:List Oq):(oqC S).length=S.length*14:=by
 induction S with
 |nil=>rfl
 |cons o S a=>show(opC o++oqC S).length=_;rw[Z6,a,Z8];show 14+_=_;omega
theorem Om(S:List Oq)(i:Nat):(oqC S).drop (i*14)=oqC (S.drop i):=by
 induction S generalizing i with
 |nil=>simp[oqC]
 |cons o S a=>
  cases i with
  |zero=>rw[q1h,q4g,q4g]
  |succ i=>
   rw[List.drop_succ_cons,<-a];show(opC o++oqC S).drop _=_;rw[show(i+1)*14=(opC o).length+i*14 by show _=14+_;omega,List.drop_append,List.drop_of_length_le (by omega),q2i];congr 1;omega
theorem Ii{S:List Oq}{i o:Nat}(h:i<S.length)(ho:o=i*14):bk (oqC S) o 14=some (opC S[i]):=by
 subst ho;unfold bk;rw[q0n (by rw[xH];omega),Om,q0d h];rfl
structure Oq.In(o:Oq):Prop where
 kind:aN o.kind
 t:aN o.t
 v:aN o.v
 p:aN o.p
 lab:o.lab.length<=maxLen
section
variable {H:Type} {enc:TypeId×Value->H} {P:Program} {W:World} {held:Bool}
def On:Value->Tx
 | .string s=>s.data.toList.map UInt8.toNat
 |_=> []
def DY:List Value->Lab
 | [a,b]=>(On a,On b)
 |_=>([],[])
theorem zj{Tr:TypeId->Value->Prop}:∀{rows:List (List Value)},(∀r∈rows,jH Tr [.str,.str] r)->∀φ:Ph,VRs φ (cG (rows.map DY)) rows.flatten
 | [],_,φ=> .nil
 |r::rows,h,φ=>by
  obtain⟨d,c⟩:=h r Y6
  match r,d,c with
  | [v,w],_,c=>
   obtain⟨a,rfl,f⟩:=c 0 _ v rfl rfl
   obtain⟨b,rfl,g⟩:=c 1 _ w rfl rfl
   exact .cons (kE a) (.cons (kE b) (zj (λx e=>h x (X7 _ e)) φ))
theorem zk:∀l:List Lab,(cG l).all mg=true
 | []=>rfl
 |y::l=>zk l
theorem Oo(l:List Lab):(cG l).length=l.length*2:=by
 induction l with
 |nil=>rfl
 |cons y l a=>show(cG l).length+1+1=_;rw[a,Z8];omega
theorem Kr{t e:TypeId}{d fuel:Nat}{v:Value}{D:DataW H}{j:List MemPlace}(l:P.underlying t=some (.slice e))(n:xX P d e=some [.str,.str])(g:P.cellsOf e=2)(o:DataW.trod enc P W 0 (λ_=>true) held fuel t [v]=some (D,j)):
 ∃(L:List Lab) (z:Fz->Prop),kY W z/\(∀χ:Ph,(∀q,z q->χ.z q)->VR χ (gL L) v)/\L.length<=maxLen:=by
 obtain⟨rows,p,G,s,w⟩:=wa l n rfl g (by decide) o
 rcases w with⟨rfl,a,C,rfl,x⟩|⟨b,off,cap,I,u,fz,rfl,f,y,h,c⟩
 ·exact⟨[],λ_=>False,.none,λχ _=> .fre x,X5 _⟩
 ·obtain⟨A,B⟩:=Gp (m:=rows.length) (k:=2) (L:=cG (rows.map DY)) (z:=λq=>q=⟨b,off,cG (rows.map DY)⟩) y f (by rw[Oo,Y0]) h (zk _) rfl (zj (λr E=>(p r E).1) _) c
  exact⟨rows.map DY,λq=>q=⟨b,off,cG (rows.map DY)⟩,λq F=>by subst F;exact A,λχ i=>by unfold gL;rw[Y0];exact B χ i,by rw[Y0];exact s⟩
abbrev UN(t:TypeId):List Kd:=[.int .i64,.str,.int .i64,.int .i64,.int .i64,.int .i64,.int .i64,.int .i64,.sl t,.str,.str,.int .i64,.int .i64,.int .i64]
theorem Rc{p el:TypeId}{d:Nat}{r:List Value}(s:P.underlying p=some (.slice el))(b:xX P d el=some [.str,.str])(c:P.cellsOf el=2)(h:jH (TrS enc P W 0 (λ_=>true) held) (UN p) r):
 ∃(o:Oq) (z:Fz->Prop),o.In/\kY W z/\∀χ:Ph,(∀q,z q->χ.z q)->VRs χ (opC o) r:=by
 obtain⟨t,a⟩:=h
 match r,t,a with
 | [u,v,w,x,y,A,B,C,D,E,v10,v11,e,f],_,a=>
  obtain⟨F,rfl,G⟩:=a 0 _ u rfl rfl
  obtain⟨I,rfl,_⟩:=a 1 _ v rfl rfl
  obtain⟨J,rfl,K⟩:=a 2 _ w rfl rfl
  obtain⟨M,rfl,N⟩:=a 3 _ x rfl rfl
  obtain⟨O,rfl,Q⟩:=a 4 _ y rfl rfl
  obtain⟨R,rfl,_⟩:=a 5 _ A rfl rfl
  obtain⟨S,rfl,_⟩:=a 6 _ B rfl rfl
  obtain⟨T,rfl,_⟩:=a 7 _ C rfl rfl
  obtain⟨g,⟨D2,U⟩,i⟩:=a 8 _ D rfl rfl
  obtain⟨V,rfl,_⟩:=a 9 _ E rfl rfl
  obtain⟨j,rfl,_⟩:=a 10 _ v10 rfl rfl
  obtain⟨k,rfl,_⟩:=a 11 _ v11 rfl rfl
  obtain⟨l,rfl,_⟩:=a 12 _ e rfl rfl
  obtain⟨m,rfl,_⟩:=a 13 _ f rfl rfl
  obtain⟨L,z,X,Y,Z⟩:=Kr s b c i;exact⟨⟨F,On (.string I),J,M,O,R,S,T,L,⟨On (.string V),On (.string j),k,l,m⟩⟩,z,⟨.of G,.of K,.of N,.of Q,Z⟩,X,λχ n=> .cons (.si _ _) (.cons (kE _) (.cons (.si _ _) (.cons (.si _ _) (.cons (.si _ _) (.cons (.si _ _) (.cons (.si _ _) (.cons (.si _ _) (.cons (Y χ n) (.cons (kE _) (.cons (kE _) (.cons (.si _ _) (.cons (.si _ _) (.cons (.si _ _) .nil)))))))))))))⟩
theorem Rd{t e s el:TypeId}{d d2:Nat}{v:Value}{D:DataW H}{U:List MemPlace}(V:P.underlying t=some (.slice e))(X:xX P d e=some (UN s))(w:P.cellsOf e=14)(Y:P.underlying s=some (.slice el))(A:xX P d2 el=some [.str,.str])(B:P.cellsOf el=2)(j:v.cells.toList=[v])(hd:DataW.Trod enc P W 0 (λ_=>true) held t v D U):
 ∃(S:List Oq) (z:Fz->Prop),(∀o∈S,o.In)/\kY W z/\(∀χ:Ph,(∀q,z q->χ.z q)->VR χ (.fr S.length 14 (oqC S)) v)/\(S=[]∨∃E F,D= .slice ((List.range S.length).map F) E)/\S.length<=maxLen:=by
 obtain⟨fuel,Q⟩:=hd;rw[j]at Q;obtain⟨rows,Z,h2,h3,h4⟩:=wa (c:=14) V X rfl w (by decide) Q
 rcases h4 with⟨rfl,a,C,rfl,hC⟩|⟨b,off,cap,cc,u,fz,rfl,l,hb,G,n⟩
 ·exact⟨[],λ_=>False,(λx h=>by cases h),.none,λχ _=> .fre hC,.inl rfl,X5 _⟩
 ·have inner:∀(R:List (List Value)),(∀r∈R,jH (TrS enc P W 0 (λ_=>true) held) (UN s) r/\r.length=14)->∃(S:List Oq) (z:Fz->Prop),S.length=R.length/\(∀o∈S,o.In)/\kY W z/\∀χ:Ph,(∀q,z q->χ.z q)->VRs χ (oqC S) R.flatten:=λR=>by
   induction R with
   |nil=>intro _;exact⟨[],λ_=>False,rfl,(λx h=>by cases h),.none,λχ _=> .nil⟩
   |cons r R ih=>
    intro T;obtain⟨S,z,i,I,J,K⟩:=ih λx p=>T x (X7 _ p)
    obtain⟨g1,g2⟩:=T r Y6;obtain⟨o,y,M,N,j3⟩:=Rc Y A B g1;refine⟨o::S,λq=>y q∨z q,by simp[i],λx p=>?_,N.or J,λχ g=>?_⟩
    ·rcases Z4.1 p with rfl|p
     ·exact M
     ·exact I x p
    ·show VRs χ (opC o++oqC S) (r++R.flatten);exact(j3 χ λq f=>g q (.inl f)).append (K χ λq f=>g q (.inr f))
  obtain⟨S,z,i,I,J,K⟩:=inner rows Z
  let O:Fz->Prop:=λq=>z q∨q=⟨b,off,oqC S⟩
  obtain⟨M,N⟩:=Gp (m:=rows.length) (k:=14) (L:=oqC S) (z:=O) hb l (by rw[xH,i]) G (DX S) (.inr rfl) (K _ λq f=> .inl f) n;exact⟨S,O,I,λq f=>f.elim (λf=>FzR.mono (φ:=phF z) (ψ:=phF O) (λ_ h=>Or.inl h) (J q f)) (λf=>by subst f;exact M),λχ g=>by rw[i];exact N χ g,by rw[i];exact h2.imp (λq=>by rw[q]at i;exact Y5 i) id,by rw[i];exact h3⟩
end
end Go.Proofs.YtflehenfikoniaaGreat
namespace Go.Proofs.YtflehenfikoniaaGreat
open Go Go.RowKit
def UO(X:SpV):Prop:=∀d r,X.R d=some r->X.R r.src=none
def aT(X:SpV)(E:Tx->List Int)(k:Tx):List Int:=match X.R k with
 |none=>E k
 |some r=>(E r.src).map (bB r)
structure Few(X:SpV)(b:Nat)(E:Tx->List Int):Prop where
 len:∀k,(E k).length<=b
 mem:∀k e,X.K k=some e->∀x∈e.L,x.1∈aT X E k
theorem Ij:∀{l m:List Int},l.Nodup->(∀x∈l,x∈m)->l.length<=m.length
 | [],_,_,_=>X5 _
 |x::l,m,h,f=>by
  obtain⟨i,j⟩:=q2m.1 h;obtain⟨a,c,e⟩:=List.append_of_mem (f x Y6)
  have:=Ij (l:=l) (m:=a++c) j λy g=>by
   have d:=f y (X7 _ g);rw[e]at d;simp only[q0x,Z4]at d⊢;rcases d with d|rfl|d
   ·exact .inl d
   ·exact absurd g i
   ·exact .inr d
  rw[e];simp only[Z6,Z8]at this⊢;omega
theorem Up.nodup{L:Smp}(h:Up L):(L.map Prod.fst).Nodup:=by
 unfold List.Nodup;rw[List.pairwise_map];exact h.imp λq=>by omega
section
variable {X Y:SpV} {b:Nat} {E:Tx->List Int} {r:Rl} {t was:Int} {k:Tx} {c:SpC}
theorem Ot(h:Few X b E):(aT X E k).length<=b:=by
 unfold aT;split
 ·exact h.len k
 ·rw[Y0];exact h.len _
theorem Few.bnd(h:Few X b E)(f:bE X c):Bnd X b:=λk e a=>by
 have d:=Ij (f.ser k e a).up.nodup (m:=aT X E k) λt g=>by
  obtain⟨x,i,rfl⟩:=q0m.1 g;exact h.mem k e a x i
 rw[Y0]at d;exact X9 d (Ot h)
theorem Rf(r:Rl)(x:Int):bB r (bB r x)=bB r x:=by
 unfold bB;generalize r.size=s;generalize r.align=a;by_cases h:sW s a=true/\nM x=true/\a<=x
 ·have e:fV x s a=x-(x-a)%s:=if_pos h;obtain⟨d,i,o⟩:=h;have j:=of_decide_eq_true d;have l:=of_decide_eq_true i;have p:=Int.emod_nonneg (x-a) (show s≠0 by omega);have u:=Int.emod_lt_of_pos (x-a) (show 0<s by omega)
  have v:(x-a)%s<=x-a:=by
   have:=Int.mul_ediv_add_emod (x-a) s;have f:0<=(x-a)/s:=Int.ediv_nonneg (by omega) (by omega);have g:0<=s*((x-a)/s):=Int.mul_nonneg (by omega) f;omega
  have m:(x-(x-a)%s-a)%s=0:=by
   have f:=Int.mul_ediv_add_emod (x-a) s;have g:x-(x-a)%s-a=s*((x-a)/s):=by omega
   rw[g];exact Int.mul_emod_right _ _
  rw[e];unfold fV;rw[if_pos ⟨d,decide_eq_true (by omega),by omega⟩,m];omega
 ·have e:fV x s a=0:=if_neg h;rw[e];unfold fV;split
  ·rename_i q;have:=of_decide_eq_true q.1;have n:a=0:=by omega
   subst n;simp
  ·rfl
theorem Ou{L:Smp}{t v p:Int}{x:Int×Int}(h:x∈(ew L t v p).1):x.1=t∨∃y∈L,y.1=x.1:=by
 unfold ew at h;split at h
 ·split at h
  ·exact .inr ⟨x,h,rfl⟩
  ·rcases List.mem_or_eq_of_mem_set (show x∈L.set _ _ from h)with h|rfl
   ·exact .inr ⟨x,h,rfl⟩
   ·exact .inl rfl
 ·rcases oI.1 h with rfl|h
  ·exact .inl rfl
  ·exact .inr ⟨x,h,rfl⟩
theorem DZ{S:Sr}{L:Smp}{t v p:Int}{x:Int×Int}(h:x∈(fc S L t v p).1.2):x.1=t∨∃y∈L,y.1=x.1:=by
 unfold fc at h;generalize (if p=0 then S.pol else p)=q at h;split at h
 ·exact .inr ⟨x,h,rfl⟩
 ·split at h
  ·exact .inr ⟨x,h,rfl⟩
  ·split at h
   ·exact Ou (jo.1 h).1
   ·exact .inr ⟨x,h,rfl⟩
theorem Ov{S:Sr}{L:Smp}{ret p:Int}{x:Int×Int}(h:x∈(jP S L ret p).1.2):x∈L:=by
 unfold jP at h;split at h
 ·exact(jo.1 h).1
 ·exact h
theorem Ks{s d:fy}{x:Int×Int}(h:x∈(gK r t s d).2):x.1=bB r t∨∃y∈d.L,y.1=x.1:=by
 unfold gK at h;split at h
 ·exact .inr ⟨x,h,rfl⟩
 ·split at h
  ·exact DZ h
  ·exact .inr ⟨x,(jo.1 h).1,rfl⟩
def Kp(X Y:SpV):Prop:=Y.R=X.R/\Y.n=X.n/\∀x,(Y.K x).isSome=(X.K x).isSome
theorem Kp.FY:Kp X X:=⟨rfl,rfl,λ_=>rfl⟩
theorem Kp.trans{Z:SpV}(h:Kp X Y)(k:Kp Y Z):Kp X Z:=⟨k.1.trans h.1,k.2.1.trans h.2.1,λx=>(k.2.2 x).trans (h.2.2 x)⟩
theorem mO:Kp X (cg X r t):=⟨iV.1,iV.2,λ_=>jt⟩
theorem uX(h:Kp X Y):aT Y E k=aT X E k:=by unfold aT;rw[h.1]
theorem Few.Rg(h:Few X b E)(g:X.R r.dst=some r)(i:bB r t∈(E r.src).map (bB r)):Few (cg X r t) b E:=
 ⟨h.len,λk e a x f=>by
  rw[uX mO];unfold cg at a;split at a
  ·rename_i s d m j;rw[fq]at a;split at a
   ·rename_i q;subst q;injection a with a;subst a;rcases Ks f with q|⟨y,l,q⟩
    ·rw[q];unfold aT;rw[g];exact i
    ·rw[<-q];exact h.mem _ d j y l
   ·exact h.mem k e a x f
  ·exact h.mem k e a x f⟩
theorem tz{e a:fy}(h:X.K k=some e):Kp X (fJ X k a):=⟨rfl,rfl,λx=>by
 rw[fq];by_cases q:x=k
 ·subst q;rw[if_pos rfl,h];rfl
 ·rw[if_neg q]⟩
theorem xI:Kp X (di k was t X r):=by
 unfold di;split
 ·exact mO.trans mO
 ·exact mO
theorem xJ:∀(a:List Rl) {X:SpV},Kp X (a.foldl (di k was t) X)
 | [],_=> .FY
 |_::a,_=>xI.trans (xJ a)
theorem Few.steps(e:was∈E k)(f:t∈E k):∀(a:List Rl) {X:SpV},Few X b E->(∀r∈a,X.R r.dst=some r/\r.src=k)->Few (a.foldl (di k was t) X) b E
 | [],_,h,_=>h
 |r::a,X,h,g=>by
  obtain⟨d,i⟩:=g r Y6;have l:bB r was∈(E r.src).map (bB r):=by rw[i];exact q0m.2 ⟨_,e,rfl⟩
  have j:bB r t∈(E r.src).map (bB r):=by rw[i];exact q0m.2 ⟨_,f,rfl⟩
  refine Few.steps e f a (X:=di k was t X r) ?_ λq m=>?_
  ·unfold di;split
   ·exact(h.Rg d l).Rg (by rw[iV.1];exact d) j
   ·exact h.Rg d j
  ·rw[(xI (X:=X)).1];exact g q (X7 _ m)
theorem sh{s:Int×SpV}{x:Int×Int}:Kp s.2 (cI r s x).2:=by
 unfold cI;split
 ·exact mO
 ·exact .FY
theorem sj:∀(L:Smp) {s:Int×SpV},Kp s.2 (L.foldl (cI r) s).2
 | [],_=> .FY
 |_::L,_=>sh.trans (sj L)
theorem Few.UP:∀(L:Smp) {s:Int×SpV},Few s.2 b E->s.2.R r.dst=some r->(∀x∈L,x.1∈E r.src)->Few (L.foldl (cI r) s).2 b E
 | [],_,h,_,_=>h
 |x::L,s,h,a,d=>by
  refine Few.UP L (s:=cI r s x) ?_ ?_ λy e=>d y (X7 _ e)
  ·unfold cI;split
   ·refine h.Rg a ?_;rw[Rf];exact q0m.2 ⟨_,d x Y6,rfl⟩
   ·exact h
  ·rw[(sh (s:=s)).1];exact a
theorem zl{gone:Smp}:∀(a:List Rl) {X:SpV},Kp X (a.foldl (dC gone) X)
 | [],_=> .FY
 |r::a,X=>(show Kp X (dC gone X r) from sj gone).trans (zl a)
theorem Few.W9{gone:Smp}(d:∀x∈gone,x.1∈E k):∀(a:List Rl) {X:SpV},Few X b E->(∀r∈a,X.R r.dst=some r/\r.src=k)->Few (a.foldl (dC gone) X) b E
 | [],_,h,_=>h
 |r::a,X,h,e=>by
  obtain⟨f,g⟩:=e r Y6;refine Few.W9 d a (X:=dC gone X r) (Few.UP gone (s:=(-1,X)) h f λx i=>by rw[g];exact d x i) λq j=>?_
  rw[(show Kp X (dC gone X r) from sj gone).1];exact e q (X7 _ j)
structure Inv(X:SpV)(b:Nat):Prop where
 links:Links X
 noch:UO X
 n:X.n<=b
 few:∃E,Few X b E
theorem Inv.mono{a:Nat}(h:Inv X b)(d:b<=a):Inv X a:=⟨h.links,h.noch,X9 h.n d,h.few.elim λE e=>⟨E,λk=>X9 (e.len k) d,e.mem⟩⟩
theorem Inv.bnd(h:Inv X b)(a:bE X c):Bnd X b:=h.few.elim λ_ e=>e.bnd a
theorem Inv.no:Inv lp 0:=⟨λ_ _ h=>(by cases h),λ_ _ h=>(by cases h),Z3 _,λ_=> [],λ_=>Z3 _,λ_ _ h=>(by cases h)⟩
theorem Inv.b7{f:Nat}(h:Inv X b)(a:Kp X Y)(g:b<=f)(i:∃E,Few Y f E):Inv Y f:=
 ⟨λd r e=>by rw[a.1]at e;rw[a.2.2,a.2.2];exact h.links d r e,λd r e=>by rw[a.1]at e⊢;exact h.noch d r e,by rw[a.2.1];exact X9 h.n g,i⟩
theorem Bk(h:cX X k=0):X.R k=none:=by
 unfold cX at h;split at h
 ·split at h
  ·cases h
  ·rename_i q;cases e:X.R k with
   |none=>rfl
   |some r=>rw[e]at q;exact absurd rfl q
 ·cases h
theorem Inv.add(h:Inv X b)(n:bE X c)(k:Tx)(t v p:Int):Inv (gW X k t v p).1 (b+2):=by
 have j:=h.mono (q0j b 2);unfold gW;split
 ·exact j
 ·rename_i g;have o:=Bk (q2n g);split
  ·exact j
  ·rename_i e l;split
   ·exact j
   ·obtain⟨E,i⟩:=h.few;have a:Kp X (Kc X k e t v p):=tz l;refine h.b7 (a.trans (xJ _)) (q0j b 2) ⟨λx=>if x=k then t::e.S.mx::E k else E x,Few.steps (by simp) (by simp) _ ⟨λx=>?_,λx y d z m=>?_⟩ λr s=>?_⟩
    ·split
     ·have:=i.len k;simp only[Z8];omega
     ·have:=i.len x;omega
    ·have up:∀u,u∈aT X E x->u∈aT X (λx=>if x=k then t::e.S.mx::E k else E x) x:=λu f=>by
      unfold aT at f⊢;split at f
      ·dsimp only;split
       ·rename_i q;subst q;exact X7 _ (X7 _ f)
       ·exact f
      ·obtain⟨w,g,rfl⟩:=q0m.1 f;refine q0m.2 ⟨w,?_,rfl⟩;dsimp only;split
       ·rename_i q;rw[q]at g;exact X7 _ (X7 _ g)
       ·exact g
     rw[uX a];unfold Kc at d;rw[fq]at d;split at d
     ·rename_i q;subst q;injection d with d;subst d;rcases DZ m with q|⟨u,f,q⟩
      ·rw[q];unfold aT;rw[o];simp
      ·rw[<-q];exact up _ (i.mem x e l u f)
     ·exact up _ (i.mem x y d z m)
    ·rw[a.1];exact n.tv.1 s
theorem Inv.del(h:Inv X b)(j:bE X c)(k:Tx)(x y:Int):Inv (se X k x y).1 b:=by
 unfold se;split
 ·exact h
 ·rename_i l;have m:=Bk (q2n l);split
  ·exact h
  ·rename_i e i;obtain⟨E,f⟩:=h.few;have a:Kp X (fJ X k {e with L:=aJ e.L x y}):=tz i;refine h.b7 (a.trans (zl _)) (Z3 b) ⟨E,Few.W9 (k:=k) (λz g=>?_) _ ⟨f.len,λu w d z g=>?_⟩ λr n=>?_⟩
   ·have:=f.mem k e i z (wY.1 g).1;unfold aT at this;rw[m]at this;exact this
   ·rw[uX a];rw[fq]at d;by_cases q:u=k
    ·rw[if_pos q]at d;subst q;injection d with d;subst d;exact f.mem u e i z (jo.1 g).1
    ·rw[if_neg q]at d;exact f.mem u w d z g
   ·rw[a.1];exact j.tv.1 n
theorem Inv.inc(h:Inv X b)(d:bE X c)(k:Tx)(t y:Int):Inv (mN X k t y).1 (b+2):=by
 have a:=h.mono (q0j b 2);unfold mN;split
 ·exact a
 ·split
  ·exact a
  ·split
   ·exact a
   ·split
    ·exact a
    ·split
     ·exact a
     ·split<;>exact h.add d _ _ _ _
theorem Inv.cr(h:Inv X b){y:fy}(l:∀x∈y.L,∃e,X.K k=some e/\x∈e.L):Inv (crK X k y) (b+2):=by
 have g:∀x,(X.K x).isSome=true->((crK X k y).K x).isSome=true:=λx m=>by
  show(if x=k then some y else X.K x).isSome=true;split
  ·rfl
  ·exact m
 obtain⟨E,f⟩:=h.few;refine⟨λd r i=>⟨g _ (h.links d r i).1,g _ (h.links d r i).2⟩,h.noch,?_,E,λx=>?_,λx e o z j=>?_⟩
 ·have:=h.n;show X.n+1<=b+2;omega
 ·have:=f.len x;omega
 ·have a:(if x=k then some y else X.K x)=some e:=o;show z.1∈aT X E x;by_cases q:x=k
  ·rw[if_pos q]at a;injection a with a;subst a q;obtain⟨p,s,u⟩:=l z j;exact f.mem x p s z u
  ·rw[if_neg q]at a;exact f.mem x e a z j
theorem Inv.create(h:Inv X b)(k:Tx)(z ret pol:Int)(l:List Lab):Inv (crF X k z ret pol l).1 (b+2):=by
 have a:=h.mono (q0j b 2);unfold crF;split
 ·exact a
 ·split
  ·split
   ·exact a
   ·exact h.cr λx d=>(by cases d)
  ·exact a
theorem Inv.alter(h:Inv X b)(k:Tx)(ret pol:Int)(l:List Lab):Inv (uw X k ret pol l).1 (b+2):=by
 have a:=h.mono (q0j b 2);unfold uw;split
 ·exact a
 ·rename_i e d;split
  ·split
   ·exact a
   ·exact h.cr λx f=>⟨e,d,Ov f⟩
  ·exact a
theorem Inv.Sf(h:Inv X b)(f:∀d r,Y.R d=some r->X.R d=some r)(j:∀x e,Y.K x=some e->X.K x=some e)(l:Links Y)(hn:Y.n<=b):Inv Y b:=by
 obtain⟨E,g⟩:=h.few;refine⟨l,λd r m=>?_,hn,λx=>aT X E x,λx=>Ot g,λx e o z p=>?_⟩
 ·have:=h.noch d r (f d r m);cases q:Y.R r.src with
  |none=>rfl
  |some y=>rw[f _ _ q]at this;cases this
 ·have s:=g.mem x e (j x e o) z p
  have key:∀w,z.1∈aT X E x->aT Y (aT X E) x=w->z.1∈w:=λw a u=>by
   subst u;unfold aT;cases q:Y.R x with
   |none=>exact a
   |some r=>
    have i:=f x r q;have v:=h.noch x r i;dsimp only;rw[v];unfold aT at a;rw[i]at a;exact a
  exact key _ s rfl
theorem Inv.unl(h:Inv X b)(s d:Tx):Inv (tw X s d).1 b:=by
 unfold tw;split
 ·exact h
 ·split
  ·have e:∀x r,(pN X d none).R x=some r->X.R x=some r:=λx r a=>by
    have a:(if x=d then none else X.R x)=some r:=a;split at a
    ·cases a
    ·exact a
   exact h.Sf e (λ_ _ f=>f) (λx r a=>h.links x r (e x r a)) h.n
  ·exact h
theorem Inv.drop(h:Inv X b)(l:bE X c)(k:Tx):Inv (kz X k) b:=by
 unfold kz;split
 ·have i:∀d r,(match X.R d with
   |some r=>if p5 k r=true then none else some r
   |none=>none)=some r->X.R d=some r/\p5 k r=false:=λd r a=>by
   split at a
   ·rename_i s m;split at a
    ·cases a
    ·rename_i q;injection a with a;subst a;exact⟨m,by simpa using q⟩
   ·cases a
  refine h.Sf (λd r a=>(i d r a).1) (λx e f=>?_) (λd r a=>?_) h.n
  ·dsimp only at f;split at f
   ·cases f
   ·exact f
  ·obtain⟨j,g⟩:=i d r a;have hd:=l.HT j;unfold p5 at g;simp only[Bool.or_eq_false_iff,decide_eq_false_iff_not]at g;obtain⟨o,p⟩:=h.links d r j;dsimp only;rw[if_neg g.1,if_neg (by rw[<-hd];exact g.2)];exact⟨o,p⟩
 ·exact h
theorem Inv.link(h:Inv X b)(B:bE X c)(r:Rl):Inv (lkF X r).1 (b+2):=by
 have W:=h.mono (q0j b 2)
 have C:(rlF X r).2≠0->(rlF X r).1=X:=by
  unfold rlF
  repeat' split
  all_goals first|exact λ_=>rfl|exact λq=>absurd rfl q
 unfold lkF;split
 ·rename_i q;rw[C q];exact W
 ·rename_i q
  have key:cW r=true/\(X.K r.src).isSome=true/\(X.K r.dst).isSome=true/\X.R r.src=none/\ofX X r.dst=[]/\(rlF X r).1={pN X r.dst (some r)with n:=X.n+1}:=by
   have q:=q2n q;unfold rlF at q⊢;split at q
   ·rename_i P;split at q
    ·rename_i D;split at q
     ·cases q
     ·rename_i Z;split at q
      ·cases q
      ·rename_i y;rw[if_pos P,if_pos D,if_neg Z,if_neg y];refine⟨P,D.1,D.2,?_,?_,rfl⟩
       ·cases e:X.R r.src with
        |none=>rfl
        |some u=>rw[e]at y;exact absurd (Or.inl rfl) y
       ·cases e:ofX X r.dst with
        |nil=>rfl
        |cons u l=>rw[e]at y;exact absurd (Or.inr (by simp)) y
    ·cases q
   ·cases q
  obtain⟨k1,Q,S,T,k5,k6⟩:=key;obtain⟨d,hd⟩:=q0l.1 S;obtain⟨s,U⟩:=q0l.1 Q;have F:=mM k1;obtain⟨E,G⟩:=h.few;rw[k6];have e1:({pN X r.dst (some r)with n:=X.n+1}:SpV).K r.dst=some d:=hd;have e2:({pN X r.dst (some r)with n:=X.n+1}:SpV).K r.src=some s:=U;rw[e1,e2];dsimp only;have g:∀x,({pN X r.dst (some r)with n:=X.n+1}:SpV).R x=if x=r.dst then some r else X.R x:=λ_=>rfl
  have H:Links ({pN X r.dst (some r)with n:=X.n+1}:SpV):=λx u a=>by
   rw[g]at a;split at a
   ·rename_i w;injection a with a;subst a w;exact⟨Q,S⟩
   ·exact h.links x u a
  have I:UO ({pN X r.dst (some r)with n:=X.n+1}:SpV):=λx u a=>by
   rw[g]at a;rw[g];split at a
   ·rename_i w;injection a with a;subst a;rw[if_neg F];exact T
   ·rw[if_neg ?_]
    ·exact h.noch x u a
    ·intro w;have:u∈ofX X r.dst:=B.tv.2 ⟨by rw[B.HT a];exact a,w⟩;rw[k5]at this;cases this
  have p:Links ({pN X r.dst (some r)with n:=X.n+1}:SpV)/\UO ({pN X r.dst (some r)with n:=X.n+1}:SpV):=⟨H,I⟩;obtain⟨f,i⟩:∃f,f=({pN X r.dst (some r)with n:=X.n+1}:SpV):=⟨_,rfl⟩;have A:f.K=X.K:=by rw[i];rfl
  have J:f.R r.dst=some r:=by rw[i,g,if_pos rfl]
  have M:∀x,x≠r.dst->f.R x=X.R x:=λx N=>by rw[i,g,if_neg N]
  have hn2:f.n<=b+1:=by rw[i];exact q3t h.n
  rw[<-i]at p⊢;have v:Kp f (DR f r.dst d):=tz (by rw[A];exact hd);have j:Kp f (sd r (DR f r.dst d) (ba 0 1099511627776 s.L)).2:=v.trans (sj _)
  have hf:Few (DR f r.dst d) (b+2) E:=⟨λx=>X9 (G.len x) (q0j b 2),λx e m z V=>by
   rw[uX v];unfold DR at m;rw[fq]at m;split at m
   ·injection m with m;subst m;have o:=jo.1 V;have h4:=((B.ser _ _ hd).dR z o.1).1;omega
   ·rename_i w;rw[A]at m;have o:=G.mem x e m z V;unfold aT at o⊢;rw[M x w];exact o⟩
  have O:=Few.UP (r:=r) (ba 0 1099511627776 s.L) (s:=(-1,DR f r.dst d)) hf (by rw[v.1];exact J) λx N=>by
   have o:=G.mem r.src s U x (wY.1 N).1;unfold aT at o;rw[T]at o;exact o
  exact⟨λx u a=>by rw[j.1]at a;rw[j.2.2,j.2.2];exact p.1 x u a,λx u a=>by rw[j.1]at a⊢;exact p.2 x u a,by rw[j.2.1];omega,E,O⟩
end
def xK{X C:Type}(B:Obj X C)(R:X->List AV->X->AV->Prop)(args:List AV)(H:AH)(n:Nat)(κ:PK):Prop:=match args with
 |a::f=>∃b p x cs e v d,a=aK p/\b<n/\n<800000/\Res H n f d cs/\d.get b=some (.sep (B.Q x p))/\((∃c,B.ok x c)->R x cs e v/\κ v (d.set (some (.sep (B.Q e p))) aa b) n)
 |_=>False
def xL{X C:Type}(B:Obj X C)(b:X)(p:Nat×Nat)(v:AV):PK:=λu c d=>∃a,Re c d u a v/\a.get 0=some (.sep (B.Q b p))
theorem Xa {X C:Type} {f:FuncId} {run:List AV->AH->Nat->PK->Prop} (t:ai f run) (J:bM Tryz.prog f=true) (B:Obj X C) {R:X->List AV->X->AV->Prop}
 (h:∀x cs d v p,(∃c,B.ok x c)->R x cs d v->cs.all ga=true/\ga v=true/\run (aK p::cs) (mkH [(0,.sep (B.Q x p))]) 1 (xL B d p v)):ai f (xK B R):=λargs H n κ F φ L M vs K N l P=>by
 unfold xK at F;split at F
 ·obtain⟨b,p,x,cs,d,v,G,rfl,T,hn9,A,hb,U⟩:=F;obtain⟨w1,V,q1,e1,r1⟩:=l.cons_inv;obtain⟨φ1,l1,D,W⟩:=A φ L M V N r1
  have E:∃c,B.ok x c:=by
   obtain⟨c,hc,_⟩:=(D.sep b _ hb).1;exact⟨c,hc⟩
  obtain⟨hR,Y⟩:=U E;obtain⟨s1,s2,s3⟩:=h x cs d v p E hR
  have wD:iS G n [b] [.sep (B.Q x p)]:=⟨q2m.2 ⟨Z5,.nil⟩,rfl,λi s o j a=>by
   match i,j,a with
   |0,j,a=>injection j with j;injection a with a;subst j a;exact⟨T,hb,.inr rfl⟩
   |i+1,j,_=>simp at j⟩
  refine dj (S:=[b]) (O:=[.sep (B.Q x p)]) (args0:=aK p::cs) (κ:=λv2 H2 n2=>v2=v/\n2=n/\H2=G.set (some (.sep (B.Q d p))) aa b) t.m J D wD ?_ ?_ (Q:=λv' H' m=>v'=v/\m=1/\H'=mkH [(0,.sep (B.Q d p))]) ?_ λu H' n' hq=>?_
  ·rw[q1];refine .cons e1 ?_;rw[kH s1];exact W
  ·intro χ v2 H2 n2 u g hle hg hu ⟨f1,f2,f4⟩;subst f1 f2 f4;exact P χ _ _ _ u g (l1.trans hle) hg hu Y
  ·refine⟨xL B d p v,s3,λu H' n' ⟨H2,g1,g2⟩=>⟨v,mkH [(0,.sep (B.Q d p))],1,λχ L M w N hu=>?_,rfl,rfl,rfl⟩⟩;obtain⟨ψ1,m1,hr3,hu3⟩:=g1 χ L M w N hu;obtain⟨ψ2,I,hr4⟩:=AY (k:=1) (O:=[.sep (B.Q d p)]) hr3 ⟨⟨_,g2,.refl rfl⟩,trivial⟩ (Z3 _);exact⟨ψ2,⟨λy q hy e=>I.1 y q hy (m1.b y q e),λq e=>I.2.1 q (m1.z q e),λq e=>m1.y q (I.2.2 q e)⟩,hr4,nz I.2.1 s2 hu3⟩
  ·obtain⟨g1,g2,g3⟩:=hq;subst g1 g2 g3;refine⟨1,G.set (some (.sep (B.Q d p))) aa b,Z3 _,λy o hy=>?_,(iT (r:=λb=>b) s2).2,(iT (m:=0) s2).1,rfl,rfl⟩;rcases PM.ak aa G b y o hy with⟨rfl,a⟩|⟨j,a⟩
   ·injection a with a;subst a;exact .inl ⟨0,_,Nat.one_pos,rfl,rfl,rfl,rfl,rfl⟩
   ·exact .inr ⟨by simp;omega,a,λq=>absurd (q3h.1 q) j⟩
 ·exact F.elim
theorem Sh {X C:Type} {F:FuncId->EP} (e:aU F) (d:Nat) {f:FuncId} (a:bM Tryz.prog f=true) (B:Obj X C) {R:X->List AV->X->AV->Prop}
 (h:∀x cs b v p,(∃c,B.ok x c)->R x cs b v->cs.all ga=true/\ga v=true/\ax F d f (aK p::cs) (mkH [(0,.sep (B.Q x p))]) 1 (xL B b p v)):ai f (xK B R):=Xa (ay e d f) a B h
theorem xL.told{X C:Type}{B:Obj X C}{a:X}{p:Nat×Nat}{u v:AV}{H:AH}{n:Nat}(e:mkT u=mkT v)(h:H.get 0=some (.sep (B.Q a p))):xL B a p v u H n:=⟨H,.told e,h⟩
def Ik{X C:Type}(B:Obj X C)(F:X->Prop)(R:List AV->X->Prop)(args:List AV)(H:AH)(n:Nat)(κ:PK):Prop:=∃cs y a,n<900000/\Res H n args a cs/\a.get n=none/\R cs y/\(F y->∀p,κ (aK p) (a.set (some (.sep (B.Q y p))) aa n) (n+1))
def Rh{X C:Type}(B:Obj X C)(F:X->Prop)(y:X):PK:=λu a c=>∃p b,u=aK p/\a.get b=some (.sep (B.Q y p))/\F y
theorem Xb {X C:Type} {f:FuncId} {run:List AV->AH->Nat->PK->Prop} (k:ai f run) (D:bM Tryz.prog f=true) (B:Obj X C) {F:X->Prop} {R:List AV->X->Prop}
 (h:∀cs y,R cs y->cs.all ga=true/\run cs .nil 0 (Rh B F y)):ai f (Ik B F R):=λargs H n κ ⟨cs,y,E,hn9,l,G,hR,I⟩ φ J L vs K M c N=>by
 obtain⟨φ1,l1,P,T⟩:=l φ J L _ M c;obtain⟨s1,s3⟩:=h cs y hR;refine dj (S:=[]) (O:=[]) (args0:=cs) (κ:=λv2 H2 n2=>∃p,F y/\v2=aK p/\n2=n+1/\H2=E.set (some (.sep (B.Q y p))) aa n) k.m D P ⟨q4h,rfl,λi s o r _=>by simp at r⟩ (by rw[kH s1];exact T) ?_ (Q:=λv' v m=>∃p,F y/\v'=aK p/\m=1/\v=mkH [(0,.sep (B.Q y p))]) ?_ λu v n' hq=>?_
 ·intro V v2 H2 n2 u g W hg Y ⟨p,f0,f1,f2,f4⟩;subst f1 f2 f4;exact N V _ _ _ u g (l1.trans W) hg Y (I f0 p)
 ·refine⟨Rh B F y,s3,λu v n' ⟨p,b,Z,g2,g3⟩=>⟨aK p,mkH [(0,.sep (B.Q y p))],1,λV J L w M Y=>?_,p,g3,rfl,rfl,rfl⟩⟩;subst Z
  obtain⟨ψ,r,d,h3⟩:=Cov.ofR (m:=1) (p:=0) (n:=n') (σ:=PM.nil) (H:=v) (le:=[]) (lh:=[(0,.sep (B.Q y p))]) (λ_=>b) (X5 _) (λb hb=>absurd hb (q0f b)) (λx j=>by cases j) (λx j=>by
   rw[q3h]at j;subst j;exact⟨Nat.one_pos,.inl ⟨_,g2,ao.sep _⟩⟩) (λx j z A _=>by
   rw[q3h]at j A;subst j A;rfl) V J L (λ_=>Go.undef) M (λt a e=>by cases e)
  exact⟨ψ,r,d,Y⟩
 ·obtain⟨p,g0,Z,g2,g3⟩:=hq;subst Z g2 g3;refine⟨1,E.set (some (.sep (B.Q y p))) aa n,X5 _,λz o A=>?_,rfl,p,g0,rfl,rfl,rfl⟩;rcases PM.ak aa E n z o A with⟨rfl,d⟩|⟨r,d⟩
  ·injection d with d;subst d;exact .inl ⟨0,_,Nat.one_pos,rfl,rfl,rfl,rfl,rfl⟩
  ·refine .inr ⟨?_,d,λq=>by cases q⟩;show z<n∨n+1<=z;omega
theorem Xc {X C:Type} {F:FuncId->EP} (b:aU F) (d:Nat) {f:FuncId} (a:bM Tryz.prog f=true) (B:Obj X C) {G:X->Prop} {R:List AV->X->Prop}
 (h:∀cs y,R cs y->cs.all ga=true/\ax F d f cs .nil 0 (Rh B G y)):ai f (Ik B G R):=Xb (ay b d f) a B h
def Si{X C:Type}(B:Obj X C)(run:List AV->AH->Nat->PK->Prop)(args:List AV)(H:AH)(n:Nat)(κ:PK):Prop:=∃b p x,H.get b=some (.sep (B.Q x p))/\((∃c,B.ok x c)->run args H n κ)
theorem ai.kn{X C:Type}{f:FuncId}{run:List AV->AH->Nat->PK->Prop}(d:ai f run)(B:Obj X C):ai f (Si B run):=λargs H n i ⟨b,p,x,j,h⟩ k l m o K g a q=>by
 have e:∃c,B.ok x c:=by
  obtain⟨c,r,_⟩:=(g.sep b _ j).1;exact⟨c,r⟩
 exact d args H n i (h e) k l m o K g a q
theorem Kt{l:List Lab}{i o:Nat}(h:i<l.length)(ho:o=i*2+1):nth (cG l) o=some (.ss l[i].2):=by
 subst ho;rw[eR]
 induction l generalizing i with
 |nil=>cases h
 |cons y l a=>
  cases i with
  |zero=>rfl
  |succ i=>
   show(AV.ss y.1::AV.ss y.2::cG l)[(i+1)*2+1]?=_;rw[show(i+1)*2+1=i*2+1+1+1 by omega,q1d,q1d];exact a (i:=i) (Nat.lt_of_succ_lt_succ h)
def nR(l:List Lab):Bool:=l.all λy=>decide (y.1.length<=100)&&decide (y.2.length<=100)
def fD(o:Oq):Bool:=decide (o.key.length<=100)&&(decide (o.lab.length<=12)&&(decide (o.r.src.length<=100)&&(decide (o.r.dst.length<=100)&&nR o.lab)))
def Xd(cs:List AV)(v:AV):Prop:=∃o:Oq,cs=[.agg (opC o)]/\v= .sb (fD o)
def kLi:FuncId->EP:=bb 10 [] evP
theorem UQ:aU kLi:=au az (by kernel_rfl) (by kernel_rfl)
def liL (o:Oq) (i:Nat):AE×AH:=(mkE [(1,.ptr 0 (0)),(2,.sb (false)),(3,.si .i64 (i))],mkH [(0,.cells (opC o) true)])
theorem Il{o:Oq}{i:Nat}{p n:Nat}{σ:AE}{H:AH}(a:p<=0)(b:aj (pa 1) σ= .ptr 0 (0))(c:mk (aj (pa 2) σ)= .sb (false))(d:mk (aj (pa 3) σ)= .si .i64 (i))(e:H.get 0=some (.cells (opC o) true)):Cov p σ H n ((liL o i).1,(liL o i).2,1):=
 Cov.ofA (X9 a (by decide)) ⟨.ptr (by decide) b,.bool c,.int d,trivial⟩ ⟨.inl ⟨_,e,ao.refl rfl⟩,trivial⟩ rfl
theorem Ku(o:Oq):ax kLi 3 10 [.agg (opC o)] .nil 0 (dA (.sb (fD o))):=by
 have n:((100:Int)<(o.key.length:Int))->AV.sb false=AV.sb (fD o):=λz=>by unfold fD;rw[decide_eq_false (show¬o.key.length<=100 by omega)];rfl
 have p:((12:Int)<(o.lab.length:Int))->AV.sb false=AV.sb (fD o):=λz=>by unfold fD;rw[decide_eq_false (show¬o.lab.length<=12 by omega)];simp
 have s:((100:Int)<(o.r.src.length:Int))->AV.sb false=AV.sb (fD o):=λz=>by unfold fD;rw[decide_eq_false (show¬o.r.src.length<=100 by omega)];simp
 have t:((100:Int)<(o.r.dst.length:Int))->AV.sb false=AV.sb (fD o):=λz=>by unfold fD;rw[decide_eq_false (show¬o.r.dst.length<=100 by omega)];simp
 conv=>whnf
 refine ae.dec (λe=>?_) (λe=>?_)
 focus
  have r:=n e
  conv=>whnf
  exact dA.told r
 conv=>whnf
 refine ae.dec (λz2=>?_) (λz2=>?_)
 focus
  have r:=p z2
  conv=>whnf
  exact dA.told r
 conv=>whnf
 refine ae.dec (λf=>?_) (λf=>?_)
 focus
  have r:=s f
  conv=>whnf
  exact dA.told r
 conv=>whnf
 refine ae.dec (λg=>?_) (λg=>?_)
 focus
  have r:=t g
  conv=>whnf
  exact dA.told r
 have e:o.key.length<=100:=by have h:¬((100:Int)<(o.key.length:Int)):=e;omega
 have z2:o.lab.length<=12:=by have h:¬((12:Int)<(o.lab.length:Int)):=z2;omega
 have f:o.r.src.length<=100:=by have h:¬((100:Int)<(o.r.src.length:Int)):=f;omega
 have g:o.r.dst.length<=100:=by have h:¬((100:Int)<(o.r.dst.length:Int)):=g;omega
 have u:fD o=nR o.lab:=by unfold fD;rw[decide_eq_true e,decide_eq_true z2,decide_eq_true f,decide_eq_true g];rfl
 rw[u]
 conv=>whnf
 refine aR.mk {i:Nat//i<=o.lab.length/\nR (o.lab.take i)=true} 1 (λi=>liL o i.val) (λi=>o.lab.length-i.val) ⟨0,X5 _,rfl⟩ ?_ ?_
 ·exact Il (i:=0) (X5 _) rfl rfl rfl rfl
 intro⟨i,m,d⟩;have m:i<=o.lab.length:=m;have d:nR (o.lab.take i)=true:=d;have v:IntKind.i64.wrap ((i:Int)+1)=((i+1:Nat):Int):=by rw[al (by omega) (by omega)];omega
 conv=>whnf
 refine ae.dec (λh=>?_) (λh=>?_)
 ·have c:i<o.lab.length:=q0o.1 h;have j:o.lab.length-(i+1)<o.lab.length-i:=by omega
  have hd:o.lab=o.lab.take i++o.lab[i]::o.lab.drop (i+1):=by rw[<-q0d c,q1c]
  have no:(decide (o.lab[i].1.length<=100)&&decide (o.lab[i].2.length<=100))=false->AV.sb false=AV.sb (nR o.lab):=λq=>by
   have:nR o.lab=false:=by
    unfold nR;rw[List.all_eq_false];exact⟨o.lab[i],q0b c,by rw[q];simp⟩
   rw[this]
  have w:((100:Int)<(o.lab[i].1.length:Int))->AV.sb false=AV.sb (nR o.lab):=λz=>no (by rw[decide_eq_false (show¬o.lab[i].1.length<=100 by omega)];rfl)
  have x:((100:Int)<(o.lab[i].2.length:Int))->AV.sb false=AV.sb (nR o.lab):=λz=>no (by rw[decide_eq_false (show¬o.lab[i].2.length<=100 by omega)];simp)
  have yes:¬((100:Int)<(o.lab[i].1.length:Int))->¬((100:Int)<(o.lab[i].2.length:Int))->nR (o.lab.take (i+1))=true:=λa b=>by
   rw[X8 c];unfold nR at d⊢;rw[List.all_append,d];simp only[q1p,List.all_nil,Bool.and_true,Bool.true_and,Z9,decide_eq_true_eq];omega
  conv=>whnf
  refine Idx.mk i rfl c ?_
  conv=>whnf
  refine aw (xg c rfl) ?_
  conv=>whnf
  refine ae.dec (λk=>?_) (λk=>?_)
  ·have r:=w k
   conv=>whnf
   exact dA.told r
  conv=>whnf
  refine Idx.mk i rfl c ?_
  conv=>whnf
  refine aw (Kt c rfl) ?_
  conv=>whnf
  refine ae.dec (λl=>?_) (λl=>?_)
  ·have r:=x l
   conv=>whnf
   exact dA.told r
  have y:=yes k l
  conv=>whnf
  exact⟨⟨i+1,c,y⟩,j,Il (X5 _) rfl rfl (congrArg (AV.si .i64) v) rfl⟩
 have r:AV.sb true=AV.sb (nR o.lab):=by
  have A:i=o.lab.length:=by have h:¬(i:Int)<(o.lab.length:Int):=h;omega
  rw[A,q0e]at d;rw[d]
 conv=>whnf
 exact dA.told r
theorem Ri:ai 10 (cQ Xd):=oQ UQ 3 (by kernel_rfl) λcs v ⟨o,a,b⟩=>by
 subst a b;exact⟨rfl,rfl,Ku o⟩
def doF (X:SpV) (o:Oq):SpV×Int×Int:=
 if o.kind=0 then((gW X o.key o.t o.v o.p).1,0,(gW X o.key o.t o.v o.p).2)else if o.kind=1 then mN X o.key o.t o.v else if o.kind=2 then se X o.key o.t o.v else if o.kind=3 then((crF X o.key o.z o.ret o.pol o.lab).1,0,(crF X o.key o.z o.ret o.pol o.lab).2)else if o.kind=4 then((uw X o.key o.ret o.pol o.lab).1,0,(uw X o.key o.ret o.pol o.lab).2)
 else if o.kind=5 then(kz X o.key,if(X.K o.key).isSome=true then 1 else 0,0)else if o.kind=6 then((lkF X o.r).1,0,(lkF X o.r).2)else((tw X o.r.src o.r.dst).1,0,(tw X o.r.src o.r.dst).2)
def Xe(X:SpV)(cs:List AV)(a:SpV)(v:AV):Prop:=∃o Y,cs=[.agg (opC o)]/\o.In/\o.lab.length<=1000/\X.n<1000/\Links X/\Bnd X 5000/\doF X o=Y/\a=Y.1/\v= .tup [.si .i64 Y.2.1,.si .i64 Y.2.2]
def kDo:FuncId->EP:=aq 49 (cM 5 SpB Ux) (aq 48 (cM 5 SpB UC) (aq 27 (cM 5 SpB QH) (aq 47 (cM 5 SpB Wt) (aq 46 (cM 5 SpB QJ) (aq 44 (cM 5 SpB Bi) (aq 19 (cM 5 SpB Ia) (aq 32 (cM 5 SpB pJ) evP)))))))
theorem UR:aU kDo:=ag (ag (ag (ag (ag (ag (ag (ag az HY) xF) H9) xD) Kh) DP) DS) xC
theorem US(X:SpV)(o:Oq)(p:Nat×Nat)(s:o.In)(i:o.lab.length<=1000)(hn:X.n<1000)(w:Links X)(l:Bnd X 5000){Y:SpV×Int×Int}(J:doF X o=Y):ax kDo 6 11 [aK p,.agg (opC o)] (mkH [(0,.sep (SpB.Q X p))]) 1 (xL SpB Y.1 p (.tup [.si .i64 Y.2.1,.si .i64 Y.2.2])):=by
 have j:Bnd X 20000:=λk e x=>X9 (l k e x) (by decide)
 have A:Bnd X 40000:=λk e x=>X9 (l k e x) (by decide)
 have fin:∀(W:SpV×Int×Int),doF X o=W->∀u H n,mkT u=mkT (.tup [.si .i64 W.2.1,.si .i64 W.2.2])->H.get 0=some (.sep (SpB.Q W.1 p))->xL SpB Y.1 p (.tup [.si .i64 Y.2.1,.si .i64 Y.2.2]) u H n:=λW M u H n N O=>by
  rw[<-J,M];exact xL.told N O
 have P:o.kind=0->doF X o=((gW X o.key o.t o.v o.p).1,0,(gW X o.key o.t o.v o.p).2):=λh=>if_pos h
 have R:o.kind=1->doF X o=mN X o.key o.t o.v:=λh=>by unfold doF;rw[if_neg (by omega),if_pos h]
 have S:o.kind=2->doF X o=se X o.key o.t o.v:=λh=>by unfold doF;rw[if_neg (by omega),if_neg (by omega),if_pos h]
 have T:o.kind=3->doF X o=((crF X o.key o.z o.ret o.pol o.lab).1,0,(crF X o.key o.z o.ret o.pol o.lab).2):=λh=>by unfold doF;rw[if_neg (by omega),if_neg (by omega),if_neg (by omega),if_pos h]
 have U:o.kind=4->doF X o=((uw X o.key o.ret o.pol o.lab).1,0,(uw X o.key o.ret o.pol o.lab).2):=λh=>by unfold doF;rw[if_neg (by omega),if_neg (by omega),if_neg (by omega),if_neg (by omega),if_pos h]
 have L:o.kind=5->doF X o=(kz X o.key,if(X.K o.key).isSome=true then 1 else 0,0):=λh=>by unfold doF;rw[if_neg (by omega),if_neg (by omega),if_neg (by omega),if_neg (by omega),if_neg (by omega),if_pos h]
 have B:(X.K o.key).isSome=true->o.kind=5->doF X o=(kz X o.key,1,0):=λq h=>by rw[L h,if_pos q]
 have C:(X.K o.key).isSome=false->o.kind=5->doF X o=(kz X o.key,0,0):=λq h=>by rw[L h,q];rfl
 have V:o.kind=6->doF X o=((lkF X o.r).1,0,(lkF X o.r).2):=λh=>by unfold doF;rw[if_neg (by omega),if_neg (by omega),if_neg (by omega),if_neg (by omega),if_neg (by omega),if_neg (by omega),if_pos h]
 have Z:¬o.kind=0->¬o.kind=1->¬o.kind=2->¬o.kind=3->¬o.kind=4->¬o.kind=5->¬o.kind=6->doF X o=((tw X o.r.src o.r.dst).1,0,(tw X o.r.src o.r.dst).2):=λa b c d e f g=>by unfold doF;rw[if_neg a,if_neg b,if_neg c,if_neg d,if_neg e,if_neg f,if_neg g]
 clear J
 conv=>whnf
 refine ae.dec (λD=>?_) (λD=>?_)
 focus
  conv=>whnf
  refine⟨0,p,X,[.ss o.key,.agg [.si .i64 o.t,.si .i64 o.v],.si .i64 o.p],(gW X o.key o.t o.v o.p).1,.si .i64 (gW X o.key o.t o.v o.p).2,_,rfl,by decide,by decide,.cons .same (.cons .same (.cons .same .nil)),rfl,rfl,⟨o.key,o.t,o.v,o.p,gW X o.key o.t o.v o.p,rfl,s.v,w,j,rfl,rfl,rfl⟩,?_⟩
  conv=>whnf
  exact fin _ (P D) _ _ _ rfl rfl
 conv=>whnf
 refine ae.dec (λE=>?_) (λE=>?_)
 focus
  conv=>whnf
  refine⟨0,p,X,[.ss o.key,.si .i64 o.t,.si .i64 o.v],(mN X o.key o.t o.v).1,.tup [.si .i64 (mN X o.key o.t o.v).2.1,.si .i64 (mN X o.key o.t o.v).2.2],_,rfl,by decide,by decide,.cons .same (.cons .same (.cons .same .nil)),rfl,rfl,⟨o.key,o.t,o.v,mN X o.key o.t o.v,rfl,w,j,rfl,rfl,rfl⟩,?_⟩
  conv=>whnf
  exact fin _ (R E) _ _ _ rfl rfl
 conv=>whnf
 refine ae.dec (λz2=>?_) (λz2=>?_)
 focus
  conv=>whnf
  refine⟨0,p,X,[.ss o.key,.si .i64 o.t,.si .i64 o.v],(se X o.key o.t o.v).1,.tup [.si .i64 (se X o.key o.t o.v).2.1,.si .i64 (se X o.key o.t o.v).2.2],_,rfl,by decide,by decide,.cons .same (.cons .same (.cons .same .nil)),rfl,rfl,⟨o.key,o.t,o.v,se X o.key o.t o.v,rfl,w,l,rfl,rfl,rfl⟩,?_⟩
  conv=>whnf
  exact fin _ (S z2) _ _ _ rfl rfl
 conv=>whnf
 refine ae.dec (λF=>?_) (λF=>?_)
 focus
  conv=>whnf
  refine⟨0,p,X,[.ss o.key,FO o.z o.ret o.pol o.lab],(crF X o.key o.z o.ret o.pol o.lab).1,.si .i64 (crF X o.key o.z o.ret o.pol o.lab).2,_,rfl,by decide,by decide,.cons .same (.cons .same .nil),rfl,rfl,⟨o.key,o.z,o.ret,o.pol,o.lab,crF X o.key o.z o.ret o.pol o.lab,rfl,i,hn,rfl,rfl,rfl⟩,?_⟩
  conv=>whnf
  exact fin _ (T F) _ _ _ rfl rfl
 conv=>whnf
 refine ae.dec (λG=>?_) (λG=>?_)
 focus
  conv=>whnf
  refine⟨0,p,X,[.ss o.key,.si .i64 o.ret,.si .i64 o.pol,gL o.lab],(uw X o.key o.ret o.pol o.lab).1,.si .i64 (uw X o.key o.ret o.pol o.lab).2,_,rfl,by decide,by decide,.cons .same (.cons .same (.cons .same (.cons .same .nil))),rfl,rfl,⟨o.key,o.ret,o.pol,o.lab,uw X o.key o.ret o.pol o.lab,rfl,i,hn,A,rfl,rfl,rfl⟩,?_⟩
  conv=>whnf
  exact fin _ (U G) _ _ _ rfl rfl
 conv=>whnf
 refine ae.dec (λm=>?_) (λm=>?_)
 focus
  conv=>whnf
  refine⟨0,p,X,[.ss o.key],kz X o.key,.sb (X.K o.key).isSome,_,rfl,by decide,by decide,.cons .same .nil,rfl,rfl,⟨o.key,rfl,rfl,rfl⟩,?_⟩
  conv=>whnf
  refine ae.sb (λy=>?_) (λy=>?_)
  focus
   have e:=B y m
   conv=>whnf
   exact fin _ e _ _ _ rfl rfl
  have e:=C y m
  conv=>whnf
  exact fin _ e _ _ _ rfl rfl
 conv=>whnf
 refine ae.dec (λI=>?_) (λI=>?_)
 focus
  conv=>whnf
  refine⟨0,p,X,[gR o.r],(lkF X o.r).1,.si .i64 (lkF X o.r).2,_,rfl,by decide,by decide,.cons .same .nil,rfl,rfl,⟨o.r,lkF X o.r,rfl,hn,l,rfl,rfl,rfl⟩,?_⟩
  conv=>whnf
  exact fin _ (V I) _ _ _ rfl rfl
 conv=>whnf
 refine⟨0,p,X,[.ss o.r.src,.ss o.r.dst],(tw X o.r.src o.r.dst).1,.si .i64 (tw X o.r.src o.r.dst).2,_,rfl,by decide,by decide,.cons .same (.cons .same .nil),rfl,rfl,⟨o.r.src,o.r.dst,tw X o.r.src o.r.dst,rfl,rfl,rfl,rfl⟩,?_⟩
 conv=>whnf
 exact fin _ (Z D E z2 F G m I) _ _ _ rfl rfl
theorem X3:ai 11 (xK SpB Xe):=Sh UR 6 (by kernel_rfl) SpB λX cs j v p k ⟨o,Y,a,b,c,d,e,f,g,h,i⟩=>by
 subst a h i;exact⟨rfl,rfl,US X o p b c d e f g⟩
theorem Inv.doo{X:SpV}{b:Nat}{c:SpC}(h:Inv X b)(a:bE X c)(o:Oq):Inv (doF X o).1 (b+2):=by
 unfold doF;split
 ·exact h.add a _ _ _ _
 ·split
  ·exact h.inc a _ _ _
  ·split
   ·exact(h.del a _ _ _).mono (q0j b 2)
   ·split
    ·exact h.create _ _ _ _ _
    ·split
     ·exact h.alter _ _ _ _
     ·split
      ·exact(h.drop a _).mono (q0j b 2)
      ·split
       ·exact h.link a _
       ·exact(h.unl _ _).mono (q0j b 2)
def nS(o:Oq):Bool:=fD o&&(decide (0<=o.kind)&&decide (o.kind<=7))
def D0 (X:SpV) (o:Oq):SpV:=if nS o=true then(doF X o).1 else X
def xM (S:List Oq):SpV:=S.foldl D0 lp
theorem Kv{S:List Oq}{i:Nat}(h:i<S.length):xM (S.take (i+1))=D0 (xM (S.take i)) S[i]:=by
 unfold xM;rw[X8 h,q2t];rfl
theorem Kw{o:Oq}(h:fD o=true):o.lab.length<=12:=by
 unfold fD at h;simp only[Z9,decide_eq_true_eq]at h;exact h.2.1
theorem Rj{S:List Oq}{i o j:Nat}{v:AV}(h:i<S.length)(ho:o=i*14+j)(a:(opC S[i])[j]?=some v):nth (oqC S) o=some v:=by
 subst ho;have c:=(bo (Ii h rfl)).2;have b:j<14:=(X6.1 a).1;rw[eR];rw[c,List.getElem?_take_of_lt b,q2l]at a;exact a
def Kx (S:List Oq):SpV:=xM (S.take 50)
def Xf(cs:List AV)(X:SpV):Prop:=∃S:List Oq,cs=[.fr S.length 14 (oqC S)]/\(∀o∈S,o.In)/\S.length<=8796093022208/\X=Kx S
def kBd:FuncId->EP:=bb 15 [] (aq 9 (uc 5 SpB λcs y=>cs=[]/\y=lp) (aq 10 (cQ Xd) (aq 11 (xK SpB Xe) evP)))
theorem UT:aU kBd:=au (ag (ag (ag az X3) Ri) Ib) (by kernel_rfl) (by kernel_rfl)
def bdL (S:List Oq) (X:SpV) (q:Nat×Nat) (i:Nat):AE×AH:=(mkE [(0,.fr S.length 14 (oqC S)),(3,aK q),(4,.si .i64 (i))],mkH [(0,.sep (SpB.Q X q))])
theorem sm{S:List Oq}{X:SpV}{q:Nat×Nat}{i:Nat}{p n:Nat}{σ:AE}{H:AH}(a:p<=0)(b:aj (pa 0) σ= .fr S.length 14 (oqC S))(c:aj (pa 3) σ=aK q)(d:mk (aj (pa 4) σ)= .si .i64 (i))(e:H.get 0=some (.sep (SpB.Q X q))):Cov p σ H n ((bdL S X q i).1,(bdL S X q i).2,1):=
 Cov.ofA (X9 a (by decide)) ⟨ah.frE b,ah.aK c,.int d,trivial⟩ ⟨.inl ⟨_,e,ao.sep _⟩,trivial⟩ rfl
theorem Ow(S:List Oq)(B:∀o∈S,o.In)(T:S.length<=8796093022208):ax kBd 5 15 [.fr S.length 14 (oqC S)] .nil 0 (Rh SpB (λX=>Inv X 100) (Kx S)):=by
 conv=>whnf
 refine⟨[],lp,_,by decide,.nil,rfl,⟨rfl,rfl⟩,λq=>?_⟩
 conv=>whnf
 refine aR.mk {w:Nat×SpV//w.1<=S.length/\w.1<=50/\w.2=xM (S.take w.1)/\Inv w.2 (2*w.1)} 1 (λw=>bdL S w.val.2 q w.val.1) (λw=>S.length-w.val.1) ⟨(0,lp),X5 _,X5 _,rfl,Inv.no⟩ ?_ ?_
 ·exact sm (i:=0) (X:=lp) (q:=q) (X5 _) rfl rfl rfl rfl
 intro⟨(i,X),G,p,m,f⟩;have G:i<=S.length:=G;have p:i<=50:=p;have m:X=xM (S.take i):=m;have f:Inv X (2*i):=f;have v:IntKind.i64.wrap ((i:Int)+1)=((i+1:Nat):Int):=by rw[al (by omega) (by omega)];omega
 have sa:¬((i:Int)<(S.length:Int))->Kx S=X:=λh=>by
  have:i=S.length:=by omega
  unfold Kx;rw[m,q1g (by omega),q1g (by omega)]
 have s:¬((i:Int)<50)->Kx S=X:=λh=>by
  have:i=50:=by omega
  rw[m,this];rfl
 conv=>whnf
 refine ae.dec (λC=>?_) (λC=>?_)
 focus
  conv=>whnf
  refine ae.dec (λD=>?_) (λD=>?_)
  focus
   have d:i<S.length:=q0o.1 C;have I:i<50:=by have h:(i:Int)<50:=D;omega
   have t:S.length-(i+1)<S.length-i:=by omega
   have u:=B S[i] (q0b d);obtain⟨o,ho⟩:∃o,o=S[i]:=⟨_,rfl⟩;have g:bk (oqC S) (i*14) 14=some (opC o):=by rw[ho];exact Ii d rfl
   have J:nth (oqC S) (i*14)=some (.si .i64 o.kind):=by rw[ho];exact Rj (j:=0) d rfl rfl
   rw[<-ho]at u;have K:xM (S.take (i+1))=D0 X o:=by rw[Kv d,<-m,<-ho]
   have no:nS o=false->xM (S.take (i+1))=X:=λq=>by rw[K];unfold D0;rw[q];rfl
   have yes:nS o=true->xM (S.take (i+1))=(doF X o).1:=λq=>by rw[K];unfold D0;rw[if_pos q]
   have M:fD o=false->nS o=false:=λq=>by unfold nS;rw[q];rfl
   have N:¬(0<=o.kind)->nS o=false:=λq=>by unfold nS;rw[decide_eq_false q];simp
   have O:¬(o.kind<=7)->nS o=false:=λq=>by unfold nS;rw[decide_eq_false q];simp
   have P:fD o=true->0<=o.kind->o.kind<=7->nS o=true:=λa b c=>by unfold nS;rw[a,decide_eq_true b,decide_eq_true c];rfl
   have fin:nS o=false->∀l H n,Cov 0 l H n ((bdL S X q (i+1)).1,(bdL S X q (i+1)).2,1)->∃w:{w:Nat×SpV//w.1<=S.length/\w.1<=50/\w.2=xM (S.take w.1)/\Inv w.2 (2*w.1)},S.length-w.val.1<S.length-i/\Cov 0 l H n ((bdL S w.val.2 q w.val.1).1,(bdL S w.val.2 q w.val.1).2,1):=λz l H n x=>⟨⟨(i+1,X),d,I,(no z).symm,f.mono (by omega)⟩,t,x⟩
   clear m
   conv=>whnf
   refine Idx.mk i rfl d ?_
   conv=>whnf
   refine aw g ?_
   conv=>whnf
   refine⟨[.agg (opC o)],.sb (fD o),_,.cons .same .nil,⟨o,rfl,rfl⟩,?_⟩
   conv=>whnf
   refine ae.sb (λA=>?_) (λA=>?_)
   focus
    conv=>whnf
    refine Idx.mk i rfl d ?_
    conv=>whnf
    refine aw J ?_
    conv=>whnf
    refine ae.dec (λz2=>?_) (λz2=>?_)
    focus
     conv=>whnf
     refine Idx.mk i rfl d ?_
     conv=>whnf
     refine aw J ?_
     conv=>whnf
     refine ae.dec (λE=>?_) (λE=>?_)
     focus
      have e:=yes (P A z2 E);have L:=Kw A
      conv=>whnf
      refine Idx.mk i rfl d ?_
      conv=>whnf
      refine aw g ?_
      conv=>whnf
      refine⟨0,q,X,[.agg (opC o)],(doF X o).1,_,_,rfl,by decide,by decide,.cons .same .nil,rfl,λ⟨c,x⟩=>⟨⟨o,doF X o,rfl,u,by omega,by have:=f.n;omega,f.links,λk y Q=>X9 (f.bnd x k y Q) (by omega),rfl,rfl,rfl⟩,?_⟩⟩;have R:∀l H n,Cov 0 l H n ((bdL S (doF X o).1 q (i+1)).1,(bdL S (doF X o).1 q (i+1)).2,1)->∃w:{w:Nat×SpV//w.1<=S.length/\w.1<=50/\w.2=xM (S.take w.1)/\Inv w.2 (2*w.1)},S.length-w.val.1<S.length-i/\Cov 0 l H n ((bdL S w.val.2 q w.val.1).1,(bdL S w.val.2 q w.val.1).2,1):=λl H n F=>⟨⟨(i+1,(doF X o).1),d,I,e.symm,f.doo x o⟩,t,F⟩
      conv=>whnf
      exact R _ _ _ (sm (X:=(doF X o).1) (q:=q) (X5 _) rfl rfl (congrArg (AV.si .i64) v) rfl)
     have r:=O E
     conv=>whnf
     exact fin r _ _ _ (sm (X:=X) (q:=q) (X5 _) rfl rfl (congrArg (AV.si .i64) v) rfl)
    have r:=N z2
    conv=>whnf
    exact fin r _ _ _ (sm (X:=X) (q:=q) (X5 _) rfl rfl (congrArg (AV.si .i64) v) rfl)
   have r:=M A
   conv=>whnf
   exact fin r _ _ _ (sm (X:=X) (q:=q) (X5 _) rfl rfl (congrArg (AV.si .i64) v) rfl)
  have e:=s D;rw[e]
  conv=>whnf
  exact⟨q,0,rfl,rfl,f.mono (by omega)⟩
 have e:=sa C;rw[e]
 conv=>whnf
 exact⟨q,0,rfl,rfl,f.mono (by omega)⟩
theorem UU:ai 15 (Ik SpB (λX=>Inv X 100) Xf):=Xc UT 5 (by kernel_rfl) SpB λcs X ⟨S,a,b,c,d⟩=>by
 subst a d;exact⟨rfl,Ow S b c⟩
def Ox(X:SpV)(cs:List AV)(a:SpV)(v:AV):Prop:=∃k,cs=[.ss k]/\a=X/\v=ug (X.R k)
def Xg:FuncId->EP:=bb 17 [] (aq 12 (dO 5 SpB Uw) evP)
theorem Rk:aU Xg:=au (ag az zh) (by kernel_rfl) (by kernel_rfl)
def inL (L:List Rl) (X:SpV) (k:Tx) (q:Nat×Nat) (i:Nat):AE×AH:=(mkE [(1,.ss (k)),(4,.ptr 1 (0)),(6,.fr L.length 5 (ruL L)),(7,.si .i64 (i))],mkH [(0,.sep (SpB.Q X q)),(1,.cells [.str [],.str [],.int .i64 0,.int .i64 0,.int .i64 0] true)])
theorem Im{L:List Rl}{X:SpV}{k:Tx}{q:Nat×Nat}{i:Nat}{p n:Nat}{σ:AE}{H:AH}(a:p<=2)(b:mk (aj (pa 1) σ)= .ss (k))(c:aj (pa 4) σ= .ptr 1 (0))(d:aj (pa 6) σ= .fr L.length 5 (ruL L))(e:mk (aj (pa 7) σ)= .si .i64 (i))(f:H.get 0=some (.sep (SpB.Q X q)))(g:H.get 1=some (.cells [.str [],.str [],.int .i64 0,.int .i64 0,.int .i64 0] true)):Cov p σ H n ((inL L X k q i).1,(inL L X k q i).2,2):=
 Cov.ofA a ⟨.str b,.ptr (by decide) c,ah.frE d,.int e,trivial⟩ ⟨.inl ⟨_,f,ao.sep _⟩,.inl ⟨_,g,ao.refl rfl⟩,trivial⟩ rfl
theorem Oy(X:SpV)(k:Tx)(q:Nat×Nat)(c:SpC)(b:bE X c):ax Xg 4 17 [aK q,.ss k] (mkH [(0,.sep (SpB.Q X q))]) 1 (xL SpB X q (ug (X.R k))):=by
 have p:∀r,r∈uv X->X.R r.dst=some r:=λr a=>b.HU.1 a
 have j:∀r,X.R k=some r->r∈uv X/\r.dst=k:=λr a=>⟨b.HU.2 (by rw[b.HT a];exact a),b.HT a⟩
 have l:(uv X).length<=1000:=by rw[<-b.all];exact X9 (HS c.g λ_=>true) (X9 b.gl b.n9)
 obtain⟨L,s⟩:∃L,L=uv X:=⟨_,rfl⟩;rw[<-s]at p j l
 conv=>whnf
 refine⟨0,q,X,[],.fr L.length 5 (ruL L),rfl,by decide,by decide,.nil,rfl,rfl,⟨rfl,by rw[s]⟩,?_⟩
 conv=>whnf
 refine aR.mk {i:Nat//i<=L.length/\∀r∈L.take i,r.dst≠k} 2 (λi=>inL L X k q i.val) (λi=>L.length-i.val) ⟨0,X5 _,λr a=>by simp at a⟩ ?_ ?_
 ·exact Im (i:=0) (X:=X) (q:=q) (q2b 1) rfl rfl rfl rfl rfl rfl
 intro⟨i,t,m⟩;have t:i<=L.length:=t;have m:∀r∈L.take i,r.dst≠k:=m;have w:IntKind.i64.wrap ((i:Int)+1)=((i+1:Nat):Int):=by rw[al (by omega) (by omega)];omega
 conv=>whnf
 refine ae.dec (λh=>?_) (λh=>?_)
 ·have d:i<L.length:=q0o.1 h;have n:L.length-(i+1)<L.length-i:=by omega
  obtain⟨r,a⟩:∃r,r=L[i]:=⟨_,rfl⟩;have o:=p r (by rw[a];exact q0b d)
  have hd:nth (ruL L) (i*5+1)=some (.ss r.dst):=by
   have x:=(bo (rY d rfl)).2;have v:((ruC L[i])[1]?:Option AV)=some (.ss L[i].dst):=rfl
   rw[x,List.getElem?_take_of_lt (by decide),q2l]at v;rw[eR,a];exact v
  have A:bk (ruL L) (i*5) 5=some (ruC r):=by rw[a];exact rY d rfl
  have yes:dw r.dst k=true->ug (X.R k)= .tup [gR r,.sb true]:=λz=>by
   have:=bj.1 z;rw[<-this,o];rfl
  have no:dw r.dst k=false->∀u∈L.take (i+1),u.dst≠k:=λz u f=>by
   rw[X8 d,q0x,q3h,<-a]at f;rcases f with f|f
   ·exact m u f
   ·rw[f];exact λe=>by rw[bj.2 e]at z;cases z
  conv=>whnf
  refine Idx.mk i rfl d ?_
  conv=>whnf
  refine aw hd ?_
  conv=>whnf
  refine ae.sb (λz=>?_) (λz=>?_)
  ·have y:=yes z;rw[y]
   conv=>whnf
   refine Idx.mk i rfl d ?_
   conv=>whnf
   refine aw A ?_
   conv=>whnf
   exact xL.told rfl rfl
  have y:=no z
  conv=>whnf
  exact⟨⟨i+1,d,y⟩,n,Im (X:=X) (q:=q) (q2b 1) rfl rfl rfl (congrArg (AV.si .i64) w) rfl rfl⟩
 have r:ug (X.R k)=ug none:=by
  have B:i=L.length:=by have h:¬(i:Int)<(L.length:Int):=h;omega
  cases e:X.R k with
  |none=>rfl
  |some u=>
   obtain⟨C,D⟩:=j u e;exact absurd D (m u (by rw[B,q0e];exact C))
 rw[r]
 conv=>whnf
 exact xL.told rfl rfl
theorem UW:ai 17 (xK SpB Ox):=Sh Rk 4 (by kernel_rfl) SpB λX cs a v p ⟨c,b⟩ ⟨k,d,e,f⟩=>by
 subst d e f;exact⟨rfl,by cases a.R k<;>rfl,Oy a k p c b⟩
theorem Oz{X:SpV}{k:Tx}{t v p:Int}(h:(gW X k t v p).2≠0):(gW X k t v p).1=X:=by
 unfold gW at h⊢;by_cases a:cX X k≠0
 ·rw[if_pos a]
 ·rw[if_neg a]at h⊢;cases c:X.K k with
  |none=>rfl
  |some e=>
   rw[c]at h;dsimp only at h⊢;by_cases b:(fc e.S e.L t v p).2≠0
   ·rw[if_pos b]
   ·rw[if_neg b]at h;exact absurd rfl h
theorem D1{X b:SpV}{k:Tx}{t y v e:Int}(h:mN X k t y=(b,v,e))(d:e≠0):b=X/\v=0:=by
 unfold mN at h
 repeat' split at h
 all_goals(injection h with c a;injection a with a h3)
 all_goals first
  |exact⟨c.symm,a.symm⟩
  |exact absurd h3.symm d
  |(rename_i q;exact⟨c.symm.trans (Oz q),a.symm⟩)
theorem Ky{S:Sr}{L:Smp}{t v:Int}(c:Up L)(hn:mB S)(h:(fc S L t v 3).2=0):iD (fc S L t v 3).1.2 t=(v,0)/\(fc S L t v 3).1.1.mx=max S.mx t:=by
 unfold fc at h⊢;have hr:=hn.ret;by_cases d:t<0∨1099511627776<=t∨((3:Int)≠0/\¬(1<=(3:Int)/\(3:Int)<=6))
 ·rw[if_pos d]at h;cases h
 ·rw[if_neg d]at h⊢;by_cases a:t<db S
  ·rw[if_pos a]at h;cases h
  ·rw[if_neg a]at h⊢;rw[if_neg (show¬(3:Int)=0 by decide)]at h⊢;by_cases b:(ew L t v 3).2=0
   ·rw[if_pos b]
    have e:db {S with mx:=max S.mx t}<=t:=by
     unfold db at a⊢;dsimp only at a⊢;split
     ·rename_i q;rw[if_pos q]at a;omega
     ·rename_i q;rw[if_neg q]at a;omega
    refine⟨?_,rfl⟩;show iD (aJ (ew L t v 3).1 0 _) t=_;rw[JP,JR (uK c t v 3),if_neg (by omega),JQ c,if_pos rfl];cases look L t with
    |none=>rfl
    |some w=>rfl
   ·rw[if_neg b]at h;exact absurd h b
theorem D3{k:Tx}{was t:Int}:∀(a:List Rl) {X:SpV},(∀r∈a,k≠r.dst)->(a.foldl (di k was t) X).K k=X.K k
 | [],_,_=>rfl
 |r::a,X,h=>by
  have hr:=h r Y6;refine(D3 a (X:=di k was t X r) λq b=>h q (X7 _ b)).trans ?_;unfold di;rw[ln hr];split
  ·exact ln hr
  ·rfl
theorem Rm{X:SpV}{c:SpC}{k:Tx}{t v p:Int}{e:fy}(d:bE X c)(f:X.K k=some e)(h:(gW X k t v p).2=0):X.R k=none/\(fc e.S e.L t v p).2=0/\(gW X k t v p).1.K k=some {e with S:=(fc e.S e.L t v p).1.1,L:=(fc e.S e.L t v p).1.2}:=by
 unfold gW at h⊢;by_cases a:cX X k≠0
 ·rw[if_pos a]at h;exact absurd h a
 ·rw[if_neg a]at h⊢;rw[f]at h⊢;dsimp only at h⊢;by_cases b:(fc e.S e.L t v p).2≠0
  ·rw[if_pos b]at h;exact absurd h b
  ·rw[if_neg b]at h⊢;refine⟨Bk (q2n a),q2n b,?_⟩;refine(D3 (ofX X k) λr g=>?_).trans ?_
   ·obtain⟨i,j⟩:=d.tv.1 g;exact λq=>mM (d.rul _ _ i) (j.trans q)
   ·unfold Kc;rw[fq,if_pos rfl]
theorem Rn{X l:SpV}{c:SpC}{k:Tx}{t y v:Int}{e:fy}(f:bE X c)(a:X.K k=some e)(h:mN X k t y=(l,v,0)):X.R k=none/\¬(0<(e.L.length:Int)/\t<tAt e.L (e.L.length-1))/\lu (vAt e.L (e.L.length-1)) y=(v,0)/\∃g,l.K k=some g/\iD g.L t=(v,0)/\g.S.mx=max e.S.mx t:=by
 unfold mN at h;by_cases i:cX X k≠0
 ·rw[if_pos i]at h;injection h with _ h;injection h with _ h;exact absurd h i
 ·rw[if_neg i,a]at h;dsimp only at h;by_cases m:t<0∨1099511627776<=t
  ·rw[if_pos m]at h;injection h with _ h;injection h with _ h;cases h
  ·rw[if_neg m]at h;by_cases j:0<(e.L.length:Int)/\t<tAt e.L (e.L.length-1)
   ·rw[if_pos j]at h;injection h with _ h;injection h with _ h;cases h
   ·rw[if_neg j]at h;obtain⟨⟨s,o⟩,n⟩:∃z,lu (vAt e.L (e.L.length-1)) y=z:=⟨_,rfl⟩;rw[n]at h;dsimp only at h;by_cases b:o≠0
    ·rw[if_pos b]at h;injection h with _ h;injection h with _ h;exact absurd h b
    ·rw[if_neg b]at h;by_cases d:(gW X k t s 3).2≠0
     ·rw[if_pos d]at h;injection h with _ h;injection h with _ h;exact absurd h d
     ·rw[if_neg d]at h;injection h with e1 h;injection h with e2 _;subst e1 e2;obtain⟨p,q,r⟩:=Rm f a (q2n d);obtain⟨u,w⟩:=Ky (f.ser k e a).up (f.ser k e a).num q;exact⟨p,j,by rw[n,q2n b],_,r,u,w⟩
def Xh:DT:=[(13,[(some 0,[9]),(some 0,[96]),(some 0,[97]),(some 0,[12,98]),(some 0,[99,98]),(some 0,[100,98]),(some 0,[11,101]),(some 0,[102,101]),(some 0,[5,101]),(some 0,[104,101]),(some 0,[103,105,101]),(some 0,[101,106,98]),(some 0,[98,107]),(some 0,[108]),(some 0,[17,109]),(some 0,[110,109]),(some 0,[109,111]),(some 0,[112]),(some 0,[16,113]),(some 0,[13,113]),(some 0,[114,115,113]),(some 0,[113,116]),(some 0,[117]),(some 0,[19,118]),(some 0,[119,118]),(some 0,[118,120]),(some 0,[121]),(some 0,[18,122]),(some 0,[13,122]),(some 0,[123,124,122]),(some 0,[122,125]),(some 0,[126]),(some 0,[15,127]),(none,[128,127]),(some 1,[10,127]),(none,[130,127]),(some 3,[5,127]),(some 4,[132,127]),(some 0,[131,133,127]),(some 0,[129,134,127]),(some 0,[127,135]),(some 0,[136]),(none,[137]),(some 0,[137,138]),(some 0,[139])])]
def kIc:FuncId->EP:=bb 4 Xh (cf 14 wX (aq 15 (Ik SpB (λX=>Inv X 100) Xf) (aq 17 (xK SpB Ox) (aq 16 Ig (cf 18 (la Qg) (aq 19 (Si SpB (cM 5 SpB Ia)) (cf 21 (wW Dm) (cf 22 (la VQ) (cf 20 (wT 1000000 jQ) (aq 23 (cQ UF) (cf 24 (la No) evP)))))))))))
theorem UX:aU kIc:=au (aO (ag (ag (ag (aO (ag (aO (aO (aO (ag (aO az RX (Fl _)) Wz) Hd TG) VU (Fl _)) RZ (TP _)) (xF.kn SpB)) RY (Fl _)) Oj) UW) UU) Kq Qh) (by kernel_rfl) (by kernel_rfl)
theorem Xi(X:SpV)(k:Tx):X.K k=none∨∃e,X.K k=some e:=by
 cases X.K k with
 |none=>exact .inl rfl
 |some e=>exact .inr ⟨e,rfl⟩
theorem Xk(X:SpV)(k:Tx):X.R k=none∨∃e,X.R k=some e:=by
 cases X.R k with
 |none=>exact .inl rfl
 |some e=>exact .inr ⟨e,rfl⟩
theorem Bl{X:SpV}{k:Tx}{e:fy}{a b:Int}(h:Bnd X 100)(c:X.K k=some e):(ba a b e.L).length<=1000000:=by
 have d:=h k e c;have f:(ba a b e.L).length<=e.L.length:=q0y _ _;omega
theorem Xl{X f:SpV}{c:SpC}{k:Tx}{t y v b:Int}{e:fy}(i:bE X c)(g:X.K k=some e)(h:mN X k t y=(f,v,b)):∃a,f.K k=some a/\(b≠0->a=e)/\(b=0->X.R k=none/\¬(0<(e.L.length:Int)/\t<tAt e.L (e.L.length-1))/\lu (vAt e.L (e.L.length-1)) y=(v,0)/\iD a.L t=(v,0)/\a.S.mx=max e.S.mx t):=by
 by_cases q:b=0
 ·subst q;obtain⟨d,j,l,a,m,n,o⟩:=Rn i g h;exact⟨a,m,λz=>absurd rfl z,λ_=>⟨d,j,l,n,o⟩⟩
 ·obtain⟨d,_⟩:=D1 h q;exact⟨e,by rw[d];exact g,λ_=>rfl,λz=>absurd z q⟩
theorem D4(S:List Oq)(k:Tx)(t y:Int)(i:∀o∈S,o.In)(x:S.length<=8796093022208)(_:aN t)(_:aN y):ax kIc 6 4 [.fr S.length 14 (oqC S),.ss k,.agg [.si .i64 t,.si .i64 y]] .nil 0 λv _ _=>v= .bool true∨v= .sb true:=by
 obtain⟨X,A⟩:∃X,X=Kx S:=⟨_,rfl⟩;rcases Xi X k with d|⟨e,d⟩
 focus
  conv=>whnf
  refine⟨[.fr S.length 14 (oqC S)],X,_,by decide,.cons .same .nil,rfl,⟨S,rfl,i,x,A⟩,λf p=>?_⟩
  conv=>whnf
  refine ae.dec (λn=>?_) (λn=>?_)
  focus
   conv=>whnf
   exact .inr rfl
  conv=>whnf
  refine⟨1,p,X,k,_,rfl,by decide,by decide,.cons .same .nil,rfl,rfl,.inl ⟨d,?_⟩⟩
  conv=>whnf
  exact .inr rfl
 obtain⟨⟨l,v,s⟩,u⟩:∃Y,Y=mN X k t y:=⟨_,rfl⟩;have C:s≠0->v=0:=λq=>(D1 u.symm q).2
 rcases Xk X k with w|⟨r,w⟩
 focus
  conv=>whnf
  refine⟨[.fr S.length 14 (oqC S)],X,_,by decide,.cons .same .nil,rfl,⟨S,rfl,i,x,A⟩,λf p=>?_⟩
  conv=>whnf
  refine ae.dec (λn=>?_) (λn=>?_)
  focus
   conv=>whnf
   exact .inr rfl
  conv=>whnf
  refine⟨1,p,X,k,_,rfl,by decide,by decide,.cons .same .nil,rfl,rfl,.inr ⟨e,d,λE=>?_⟩⟩
  conv=>whnf
  refine⟨1,p,X,[.ss k],X,.tup [.agg [.str [],.str [],.int .i64 0,.int .i64 0,.int .i64 0],.sb false],_,rfl,by decide,by decide,.cons .same .nil,rfl,λ_=>⟨⟨k,rfl,rfl,by rw[w];rfl⟩,?_⟩⟩
  conv=>whnf
  refine⟨1,p,X,k,_,rfl,by decide,by decide,.cons .same .nil,rfl,rfl,.inr ⟨e,d,λj=>?_⟩⟩
  conv=>whnf
  refine⟨14,j,e.S,e.L,_,rfl,by decide,rfl,⟨by decide,rfl,rfl,rfl,rfl⟩,⟨rfl,rfl⟩,?_⟩
  conv=>whnf
  refine⟨1,p,X,rfl,λh=>h.elim λc g=>⟨1,p,X,[.ss k,.si .i64 t,.si .i64 y],l,.tup [.si .i64 v,.si .i64 s],_,rfl,by decide,by decide,.cons .same (.cons .same (.cons .same .nil)),rfl,rfl,⟨k,t,y,(l,v,s),rfl,f.links,λq z B=>X9 (f.bnd g q z B) (by decide),u.symm,rfl,rfl⟩,?_⟩⟩;refine(Xl g d u.symm).elim λa b=>?_
  conv=>whnf
  refine⟨1,p,l,k,_,rfl,by decide,by decide,.cons .same .nil,rfl,rfl,.inr ⟨a,b.1,λm=>?_⟩⟩
  conv=>whnf
  refine ae.c6 (λz2=>?_) (λz2=>?_)
  focus
   conv=>whnf
   refine ae.dec (λ_=>?_) (λz=>absurd (C z2) z)
   conv=>whnf
   refine⟨29,m,a.S,a.L,ba 0 1099511627776 a.L,rfl,by decide,rfl,⟨by decide,rfl,rfl,rfl,rfl⟩,⟨_,_,0,1099511627776,rfl,rfl,rfl,rfl⟩,?_⟩
   conv=>whnf
   refine⟨14,j,e.S,e.L,ba 0 1099511627776 e.L,rfl,by decide,rfl,⟨by decide,rfl,rfl,rfl,rfl⟩,⟨_,_,0,1099511627776,rfl,rfl,rfl,rfl⟩,?_⟩
   conv=>whnf
   refine⟨ba 0 1099511627776 a.L,ba 0 1099511627776 e.L,.Nq rfl rfl,.Nq rfl rfl,by rw[b.2.1 z2];exact Bl (f.bnd g) d,Bl (f.bnd g) d,?_⟩
   conv=>whnf
   refine ae.sb (λ_=>?_) (λz=>absurd ((by rw[b.2.1 z2];exact yX _:jQ (ba 0 1099511627776 a.L) (ba 0 1099511627776 e.L)=true).symm.trans z) (by decide))
   conv=>whnf
   exact .inr rfl
  have ok:=b.2.2 z2
  conv=>whnf
  refine⟨29,m,a.S,a.L,.tup [.si .i64 v,.si .i64 0],rfl,by decide,rfl,⟨by decide,rfl,rfl,rfl,rfl⟩,⟨_,t,rfl,rfl,by rw[ok.2.2.2.1]⟩,?_⟩
  conv=>whnf
  refine⟨[.si .i64 (vAt e.L (e.L.length-1)),.si .i64 y],.tup [.si .i64 v,.si .i64 0],_,.cons .same (.cons .same .nil),⟨_,_,rfl,by rw[ok.2.2.1]⟩,?_⟩
  conv=>whnf
  refine ae.nsb (λ_=>?_) (λz=>absurd z (by decide))
  conv=>whnf
  refine ae.c6 (λD=>?_) (λD=>?_)
  focus
   conv=>whnf
   refine ae.dec (λ_=>?_) (λz=>absurd rfl z)
   conv=>whnf
   refine ae.dec (λ_=>?_) (λz=>absurd rfl z)
   conv=>whnf
   refine ae.dec (λ_=>?_) (λz=>absurd rfl z)
   conv=>whnf
   refine ae.dec (λ_=>?_) (λz=>absurd rfl z)
   conv=>whnf
   refine⟨29,m,a.S,a.L,_,rfl,by decide,rfl,⟨by decide,rfl,rfl,rfl,rfl⟩,⟨rfl,rfl⟩,?_⟩
   conv=>whnf
   refine⟨14,j,e.S,e.L,_,rfl,by decide,rfl,⟨by decide,rfl,rfl,rfl,rfl⟩,⟨rfl,rfl⟩,?_⟩
   conv=>whnf
   refine ae.dec (λ_=>?_) (λz=>absurd ok.2.2.2.2 z)
   conv=>whnf
   exact .inr rfl
  conv=>whnf
  refine ae.dec (λ_=>?_) (λz=>absurd (Int.not_lt.1 λq=>ok.2.1 ⟨D,q⟩) z)
  conv=>whnf
  refine ae.dec (λ_=>?_) (λz=>absurd rfl z)
  conv=>whnf
  refine ae.dec (λ_=>?_) (λz=>absurd rfl z)
  conv=>whnf
  refine ae.dec (λ_=>?_) (λz=>absurd rfl z)
  conv=>whnf
  refine ae.dec (λ_=>?_) (λz=>absurd rfl z)
  conv=>whnf
  refine⟨29,m,a.S,a.L,_,rfl,by decide,rfl,⟨by decide,rfl,rfl,rfl,rfl⟩,⟨rfl,rfl⟩,?_⟩
  conv=>whnf
  refine⟨14,j,e.S,e.L,_,rfl,by decide,rfl,⟨by decide,rfl,rfl,rfl,rfl⟩,⟨rfl,rfl⟩,?_⟩
  conv=>whnf
  refine ae.dec (λ_=>?_) (λz=>absurd ok.2.2.2.2 z)
  conv=>whnf
  exact .inr rfl
 focus
  conv=>whnf
  refine⟨[.fr S.length 14 (oqC S)],X,_,by decide,.cons .same .nil,rfl,⟨S,rfl,i,x,A⟩,λf p=>?_⟩
  conv=>whnf
  refine ae.dec (λn=>?_) (λn=>?_)
  focus
   conv=>whnf
   exact .inr rfl
  conv=>whnf
  refine⟨1,p,X,k,_,rfl,by decide,by decide,.cons .same .nil,rfl,rfl,.inr ⟨e,d,λE=>?_⟩⟩
  conv=>whnf
  refine⟨1,p,X,[.ss k],X,.tup [gR r,.sb true],_,rfl,by decide,by decide,.cons .same .nil,rfl,λ_=>⟨⟨k,rfl,rfl,by rw[w];rfl⟩,?_⟩⟩
  conv=>whnf
  refine⟨1,p,X,k,_,rfl,by decide,by decide,.cons .same .nil,rfl,rfl,.inr ⟨e,d,λj=>?_⟩⟩
  conv=>whnf
  refine⟨14,j,e.S,e.L,_,rfl,by decide,rfl,⟨by decide,rfl,rfl,rfl,rfl⟩,⟨rfl,rfl⟩,?_⟩
  conv=>whnf
  refine⟨1,p,X,rfl,λh=>h.elim λc g=>⟨1,p,X,[.ss k,.si .i64 t,.si .i64 y],l,.tup [.si .i64 v,.si .i64 s],_,rfl,by decide,by decide,.cons .same (.cons .same (.cons .same .nil)),rfl,rfl,⟨k,t,y,(l,v,s),rfl,f.links,λq z B=>X9 (f.bnd g q z B) (by decide),u.symm,rfl,rfl⟩,?_⟩⟩;refine(Xl g d u.symm).elim λa b=>?_
  conv=>whnf
  refine⟨1,p,l,k,_,rfl,by decide,by decide,.cons .same .nil,rfl,rfl,.inr ⟨a,b.1,λm=>?_⟩⟩
  conv=>whnf
  refine ae.c6 (λz2=>?_) (λz2=>?_)
  focus
   conv=>whnf
   refine ae.dec (λ_=>?_) (λz=>absurd (C z2) z)
   conv=>whnf
   refine⟨29,m,a.S,a.L,ba 0 1099511627776 a.L,rfl,by decide,rfl,⟨by decide,rfl,rfl,rfl,rfl⟩,⟨_,_,0,1099511627776,rfl,rfl,rfl,rfl⟩,?_⟩
   conv=>whnf
   refine⟨14,j,e.S,e.L,ba 0 1099511627776 e.L,rfl,by decide,rfl,⟨by decide,rfl,rfl,rfl,rfl⟩,⟨_,_,0,1099511627776,rfl,rfl,rfl,rfl⟩,?_⟩
   conv=>whnf
   refine⟨ba 0 1099511627776 a.L,ba 0 1099511627776 e.L,.Nq rfl rfl,.Nq rfl rfl,by rw[b.2.1 z2];exact Bl (f.bnd g) d,Bl (f.bnd g) d,?_⟩
   conv=>whnf
   refine ae.sb (λ_=>?_) (λz=>absurd ((by rw[b.2.1 z2];exact yX _:jQ (ba 0 1099511627776 a.L) (ba 0 1099511627776 e.L)=true).symm.trans z) (by decide))
   conv=>whnf
   exact .inr rfl
  exact absurd ((b.2.2 z2).1.symm.trans w) (by intro q;cases q)
end Go.Proofs.YtflehenfikoniaaGreat
end
