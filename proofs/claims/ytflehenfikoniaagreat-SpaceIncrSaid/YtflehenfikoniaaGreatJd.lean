/- Texts of our own, joined: the engine, the machine that runs code, and what is known of the functions. -/
import Derived.Test.YtflehenfikoniaaGreatRows
import Derived.WalkKit
import Derived.Deep.Quiet
import Derived.ProofKit
import Derived.Laws.StructEq
import Derived.LaidEql
import Derived.Laws.BytesArg
import Derived.Maps.RangeRun
import Derived.RangeFuncSeq
import Derived.Scope
import Derived.Laws.Strings
import Derived.Laws.Strings2
import Derived.Below
import Derived.Carry
import Derived.OpenShut
import Derived.ChangeMaps5
import Derived.Deep.Slices
import Derived.Deep.SlicePairs
import Derived.SizedLaws
import Derived.Laws.BitsAllLaws
import Derived.Test.YtflehenfikoniaaGreatJc
import Derived.RangeFuncRecord
import Derived.Test.YtflehenfikoniaaGreatJb
set_option linter.unusedSimpArgs false
set_option linter.unusedVariables false
set_option maxHeartbeats 16000000
set_option maxRecDepth 100000
noncomputable section
namespace Go.Proofs.YtflehenfikoniaaGreat
open Go Go.RowKit
def MX (le:List (Nat×AV)) (S:Sr) (V:Ps) (C:Ck5) (W:Ps):AE×AH×Nat:=(mkE le,mkH [(0,.cells (c8 S 3 V.length) true),(3,.cells (aY V) true),(2,dG S C),(4,.cells (aY W) true)],5)
theorem E9 {p:Nat} {σ:AE} {H:AH} {n:Nat} {S:Sr} {V W:Ps} {C:Ck5} (j1 a:Nat) {le:List (Nat×AV)} {i j k o q r:AV} {l:List AV} (J:p<=3) (u:∀x∈le,ah H 5 (ua j1 a) (aj (pa x.1) σ) x.2) (K:j1≠0/\j1≠2/\j1≠a) (v:a≠0/\a≠2)
 (w:PM.get H 0=some (.cells [i,j,k,o,q,r] true)) (z:mk i= .si .i64 (S.sz:Int)) (A:mk j= .si .i64 S.ret) (B:mk k= .si .i64 S.pol) (D:mk o= .si .i64 S.mx) (E:mk q= .si .i64 S.fl) (F:ah H 5 (ua j1 a) r (.rw 3 0 V.length 1 0))
 (G:PM.get H j1=some (.cells l true)) (d:l.map mk=aY V) (I:PM.get H 2=some (dG S C)) (s:(∃f,PM.get H a=some (.cells f true)/\f.map mk=aY W)∨(W=[]/\n<=a)):Cov p σ H n (MX le S V C W):=by
 refine Cov.ofR (m:=5) (p:=p) (ua j1 a) (by omega) (λb s=>by unfold ua;rw[if_neg (by omega),if_neg (by omega)]) u ?_ ?_
 ·intro x c;simp only[Z4,Z5,or_false]at c;rcases c with rfl|rfl|rfl|rfl
  ·exact⟨Z0 rfl,.inl ⟨_,w,ao.c8 z A B D E F⟩⟩
  ·exact⟨Z0 rfl,.inl ⟨_,G,ao.aY d⟩⟩
  ·exact⟨Z0 rfl,.inl ⟨_,I,ao.sep _⟩⟩
  ·refine⟨Z0 rfl,?_⟩;rcases s with⟨f,g,h⟩|⟨g,h⟩
   ·exact .inl ⟨_,g,ao.aY h⟩
   ·exact .inr ⟨by rw[g];rfl,h⟩
 ·intro x c y t e;simp only[Z4,Z5,or_false]at c t;rcases c with rfl|rfl|rfl|rfl<;>rcases t with rfl|rfl|rfl|rfl
  ·rfl
  ·exact absurd (show 0=j1 from e) (by omega)
  ·exact absurd (show 0=2 from e) (by omega)
  ·exact absurd (show 0=a from e) (by omega)
  ·exact absurd (show j1=0 from e) (by omega)
  ·rfl
  ·exact absurd (show j1=2 from e) (by omega)
  ·exact absurd (show j1=a from e) (by omega)
  ·exact absurd (show 2=0 from e) (by omega)
  ·exact absurd (show 2=j1 from e) (by omega)
  ·rfl
  ·exact absurd (show 2=a from e) (by omega)
  ·exact absurd (show a=0 from e) (by omega)
  ·exact absurd (show a=j1 from e) (by omega)
  ·exact absurd (show a=2 from e) (by omega)
  ·rfl
theorem ao.Vs{H:AH}{m:Nat}{r:Nat->Nat}{V X:Ps}:ao H m r (.cells (Go.Proofs.YtflehenfikoniaaGreat.aY (V++X)) true) (.cells (Go.Proofs.YtflehenfikoniaaGreat.aY V) true):=
 ao.cells (by rw[bW,bW,Z6];omega) (λq=>q) λi d a=>by
  refine⟨d,?_,?_⟩
  ·rw[rJ,q0z (X6.1 a).1];exact a
  ·unfold Go.Proofs.YtflehenfikoniaaGreat.aY at a;rw[q0q]at a;cases b:V[i]? with
   |none=>rw[b]at a;cases a
   |some c=>
    rw[b]at a;injection a with a;subst a;exact λ_ _ _ _ _ h=>h
theorem Th {p:Nat} {σ:AE} {H:AH} {n:Nat} {S:Sr} {V X:Ps} {C:Ck5} (j1:Nat) {le:List (Nat×AV)} {c d f g h i:AV} (z:p<=3) (k:∀x∈le,ah H 4 (Ay j1) (aj (pa x.1) σ) x.2) (A:j1≠0/\j1≠2)
 (l:PM.get H 0=some (.cells [c,d,f,g,h,i] true)) (o:mk c= .si .i64 (S.sz:Int)) (q:mk d= .si .i64 S.ret) (r:mk f= .si .i64 S.pol) (s:mk g= .si .i64 S.mx) (t:mk h= .si .i64 S.fl) (u:ah H 4 (Ay j1) i (.rw 3 0 V.length 1 0))
 (v:PM.get H j1=some (.cells (aY (V++X)) true)) (w:PM.get H 2=some (dG S C)):Cov p σ H n (wE le S V C):=by
 refine Cov.ofR (m:=4) (p:=p) (Ay j1) (by omega) (λb B=>by unfold Ay;rw[if_neg (by omega)]) k ?_ ?_
 ·intro x a;simp only[Z4,Z5,or_false]at a;rcases a with rfl|rfl|rfl
  ·exact⟨Z0 rfl,.inl ⟨_,l,ao.c8 o q r s t u⟩⟩
  ·exact⟨Z0 rfl,.inl ⟨_,v,ao.Vs⟩⟩
  ·exact⟨Z0 rfl,.inl ⟨_,w,ao.sep _⟩⟩
 ·intro x a y j e;simp only[Z4,Z5,or_false]at a j;rcases a with rfl|rfl|rfl<;>rcases j with rfl|rfl|rfl
  ·rfl
  ·exact absurd (show 0=j1 from e) (by omega)
  ·exact absurd (show 0=2 from e) (by omega)
  ·exact absurd (show j1=0 from e) (by omega)
  ·rfl
  ·exact absurd (show j1=2 from e) (by omega)
  ·exact absurd (show 2=0 from e) (by omega)
  ·exact absurd (show 2=j1 from e) (by omega)
  ·rfl
theorem wO{H:AH}{S:Sr}{C:Ck5}{i:Nat}(h:i<C.length)(a:PM.get H 2=some (dG S C)):H.get 2=some (.sep (pk (chs S.sz (C.take i++(C[i].1,C[i].2)::C.drop (i+1))))):=by rw[eY h];exact a
def TdP(a:Sr)(b:Ck5):AV->Sr->Ps->Ck5->Prop:=λu S V C=>u= .tup []/\S=a/\V=pts C/\ab C=ab b/\Gt a C/\Wh a.sz C.length C
def PI:DT:=[(1,[(some 0,[0]),(some 0,[5]),(some 0,[6]),(some 0,[7]),(some 0,[1]),(some 0,[8,9]),(some 0,[10]),(none,[11]),(some 0,[12]),(some 2,[0]),(some 3,[14]),(some 4,[15]),(some 5,[16]),(some 0,[13,17]),(some 0,[18])])]
def Ti:DT:=[(12,[(some 0,[0]),(some 0,[47]),(some 0,[48]),(some 0,[49]),(some 0,[5]),(some 0,[51]),(some 0,[50,52]),(some 0,[53]),(some 0,[0]),(some 0,[55]),(some 0,[56]),(some 0,[57]),(some 0,[5]),(some 0,[58,59]),(some 0,[60])]),
 (13,[(some 1000000,[]),(none,[0,1,2,3,4,5,6,7,8,9,10,11,12,13,14,15,16,17,18])])]
def Vt:FuncId->EP:=aq 188 wH (cf 202 (qD MF) (aq 186 (Aw S1) evP))
theorem PJ:aU Vt:=ag (aO (ag az S8) GY (GX _)) Pv
def KTd:FuncId->EP:=bb 132 Ti (bb 187 PI Vt)
theorem Tj:aU KTd:=au (au PJ (by kernel_rfl) (by kernel_rfl)) (by kernel_rfl) (by kernel_rfl)
theorem MY{C:Ck5}{n:Nat}(d:1<=n)(hn:n<C.length)(M:Smp):(pts C).take n++(pts C).drop (n+1)=pts (C.take (n-1)++((C[n-1]'(by omega)).1,M)::C.drop (n+1)):=by
 have a:(pts C).take n=pts (C.take n):=by simp[pts,q4a]
 have b:(pts C).drop (n+1)=pts (C.drop (n+1)):=by simp[pts,List.map_drop]
 have c:C.take n=C.take (n-1)++ [C[n-1]'(by omega)]:=by
  have:=q4e (l:=C) (i:=n-1);rw[show n-1+1=n by omega,X4 (show n-1<C.length by omega)]at this;exact this
 rw[a,b,c,kq,kq];simp[pts]
theorem MZ(S:Sr)(C:Ck5)(W:Pre5 S C)(hf:C.length<=100000):fv (ax KTd 5 132) [.ptr 0 0] (mkH (bH (ij S (pts C) C) 0)) 3 (SP (TdP S C)):=by
 have hlo:=W.lo;have Y:=W.hi;show ax KTd 5 _ _ _ _ _
 conv=>whnf
 refine aR.mk {i:Nat//i<=C.length} 5 (λi=>((MX [(0,.ptr 0 0),(2,.rw 4 0 (pts (neC (C.take i.val))).length 1 0),(9,.rw 3 0 (pts C).length 1 0),(10,.si .i64 ((pts C).length:Int)),(11,.si .i64 ((i.val:Int)))] S (pts C) (neC (C.take i.val)++C.drop i.val) (pts (neC (C.take i.val)))).1,(MX [(0,.ptr 0 0),(2,.rw 4 0 (pts (neC (C.take i.val))).length 1 0),(9,.rw 3 0 (pts C).length 1 0),(10,.si .i64 ((pts C).length:Int)),(11,.si .i64 ((i.val:Int)))] S (pts C) (neC (C.take i.val)++C.drop i.val) (pts (neC (C.take i.val)))).2.1)) (λi=>C.length-i.val) ⟨0,X5 _⟩ ?_ ?_
 focus
  exact E9 1 3 (le:=[(0,.ptr 0 0),(2,.rw 4 0 (pts (neC (C.take 0))).length 1 0),(9,.rw 3 0 (pts C).length 1 0),(10,.si .i64 ((pts C).length:Int)),(11,.si .i64 (((0:Nat):Int)))]) (Z3 3) (λx e=>by
   simp only[Z4,Z5,or_false]at e;rcases e with rfl|rfl|rfl|rfl|rfl
   ·exact ah.ptr (Z0 rfl) rfl
   ·exact ah.iP rfl
   ·exact ah.rw (Z0 rfl) rfl
   ·exact ah.int rfl
   ·exact ah.int rfl) ⟨by decide,by decide,by decide⟩ ⟨by decide,by decide⟩ rfl rfl rfl rfl rfl rfl (ah.rw (Z0 rfl) rfl) rfl (aA _) rfl (.inr ⟨rfl,Z3 _⟩)
 focus
  intro⟨i,hi⟩;have y:IntKind.i64.wrap ((i:Int)+1)=((i+1:Nat):Int):=by rw[al (by omega) (by omega)];omega
  have K:=G2 (C.take i);rw[Y7,q3k hi]at K;have st:∀h:i<C.length,C.drop i=(C[i].1,C[i].2)::C.drop (i+1):=λh=>q0d h
  have s0:∀h:i<C.length,C[i].2=[]->neC (C.take (i+1))=neC (C.take i):=λh q=>by rw[Db h,if_pos q,q0w]
  have s1:∀h:i<C.length,¬C[i].2=[]->neC (C.take (i+1))=neC (C.take i)++ [C[i]]:=λh q=>by rw[Db h,if_neg q]
  conv=>whnf
  refine ae.dec (λh=>?_) (λh=>?_)
  focus
   have f:i<C.length:=by
    have h:(i:Int)<((pts C).length:Int):=h;rw[an]at h;omega
   have Z:=st f;have s02:=s0 f;have s12:=s1 f;have v:some (dG S (neC (C.take i)++C.drop i))=some (AO.sep (pk (chs S.sz (neC (C.take i)++(C[i].1,C[i].2)::C.drop (i+1))))):=by rw[Z];rfl
   conv=>whnf
   refine Idx.mk i rfl (by rw[an];exact f) ?_
   conv=>whnf
   refine aw (dp f (show 0+i*1=i by omega)) ?_
   conv=>whnf
   by_cases I:C[i].2=[]
   focus
    have A:=s02 I;refine⟨2,S.sz,neC (C.take i),C.drop (i+1),neC (C.take (i+1))++C.drop (i+1),C[i].1,C[i].2,rfl,⟨by decide,by decide,rfl,v⟩,by rw[A];exact eT.sub ((q3u _ _).append_left _),?_⟩
    conv=>whnf
    refine ae.dec (λz=>absurd z (by rw[I];decide)) (λ_=>?_)
    conv=>whnf
    exact⟨⟨i+1,f⟩,by show C.length-(i+1)<C.length-i;omega,E9 3 4 (le:=[(0,.ptr 0 0),(2,.rw 4 0 (pts (neC (C.take (i+1)))).length 1 0),(9,.rw 3 0 (pts C).length 1 0),(10,.si .i64 ((pts C).length:Int)),(11,.si .i64 (((i+1:Nat):Int)))]) (Z3 3) (λx e=>by
   simp only[Z4,Z5,or_false]at e;rcases e with rfl|rfl|rfl|rfl|rfl
   ·exact ah.ptr (Z0 rfl) rfl
   ·exact(by rw[A];exact ah.rw (Z0 rfl) rfl)
   ·exact ah.rw (Z0 rfl) rfl
   ·exact ah.int rfl
   ·exact ah.int (congrArg (AV.si .i64) y)) ⟨by decide,by decide,by decide⟩ ⟨by decide,by decide⟩ rfl rfl rfl rfl rfl rfl (ah.rw (Z0 rfl) rfl) rfl (aA _) rfl (.inl ⟨_,rfl,by rw[A];exact aA _⟩)⟩
   have A:=s12 I;have hpl:0<(C[i].2.length:Int):=by have:=q3e.2 I;omega
   have hcm:eT S.sz (neC (C.take i)++(C[i].1,C[i].2)::C.drop (i+1)) (neC (C.take (i+1))++C.drop (i+1)):=by rw[A,q0h];exact eT.refl _ _
   have o:(pts (neC (C.take i))).length+1=(pts (neC (C.take (i+1)))).length:=by rw[A,an,an,Z6];rfl
   have hpt:(aY (pts (neC (C.take i)))++ [aK C[i].1]).map mk=aY (pts (neC (C.take (i+1)))):=by rw[A,kq,rJ,q0k,aA];rfl
   refine⟨2,S.sz,neC (C.take i),C.drop (i+1),neC (C.take (i+1))++C.drop (i+1),C[i].1,C[i].2,rfl,⟨by decide,by decide,rfl,v⟩,hcm,?_⟩
   conv=>whnf
   refine ae.dec (λ_=>?_) (λz=>absurd hpl z)
   conv=>whnf
   refine bF.grow 1 8 1 (pts (neC (C.take i))).length [aK C[i].1] (aY (pts (neC (C.take i)))) _ true C7 (.old rfl) rfl rfl (.rw rfl (bw (by rw[bW,q0i]))) (by rw[an];omega) ?_
   conv=>whnf
   exact⟨⟨i+1,f⟩,by show C.length-(i+1)<C.length-i;omega,E9 3 7 (le:=[(0,.ptr 0 0),(2,.rw 4 0 (pts (neC (C.take (i+1)))).length 1 0),(9,.rw 3 0 (pts C).length 1 0),(10,.si .i64 ((pts C).length:Int)),(11,.si .i64 (((i+1:Nat):Int)))]) (Z3 3) (λx e=>by
   simp only[Z4,Z5,or_false]at e;rcases e with rfl|rfl|rfl|rfl|rfl
   ·exact ah.ptr (Z0 rfl) rfl
   ·exact ah.rw (Z0 rfl) (congrArg (λq=>AV.rw 7 0 q 1 0) o)
   ·exact ah.rw (Z0 rfl) rfl
   ·exact ah.int rfl
   ·exact ah.int (congrArg (AV.si .i64) y)) ⟨by decide,by decide,by decide⟩ ⟨by decide,by decide⟩ rfl rfl rfl rfl rfl rfl (ah.rw (Z0 rfl) rfl) rfl (aA _) rfl (.inl ⟨_,rfl,hpt⟩)⟩
  have D:i=C.length:=by
   have:¬i<C.length:=λq=>h (by
    show(i:Int)<((pts C).length:Int);rw[an];omega)
   omega
  have L:=Tg W;have V:neC (C.take i)=neC C:=by rw[D,q0e]
  have eD:neC (C.take i)++C.drop i=neC C:=by rw[V,D,List.drop_length,q0w]
  have hl0:=G2 C;clear st s0 s1
  conv=>whnf
  refine aR.mk {x:Nat×Ck5//1<=x.1/\ab x.2=ab C/\Gt S x.2/\x.2.length<=100000/\Wh S.sz x.1 x.2/\x.1<=100000} 4 (λx=>((wE [(0,.ptr 0 0),(5,.si .i64 ((x.val.1:Int)))] S (pts x.val.2) x.val.2).1,(wE [(0,.ptr 0 0),(5,.si .i64 ((x.val.1:Int)))] S (pts x.val.2) x.val.2).2.1)) (λx=>2*x.val.2.length-x.val.1) ⟨(1,neC C),Z3 _,wN C,L,by show(neC C).length<=100000;omega,λj hj M=>absurd M (by omega),(show(1:Nat)<=100000 by decide)⟩ ?_ ?_
  focus
   exact nN 4 (le:=[(0,.ptr 0 0),(5,.si .i64 (((1:Nat):Int)))]) (Z3 3) (λx e=>by
   simp only[Z4,Z5,or_false]at e;rcases e with rfl|rfl
   ·exact ah.ptr (Z0 rfl) rfl
   ·exact ah.int rfl) ⟨by decide,by decide⟩ rfl rfl rfl rfl rfl rfl (ah.rw (Z0 rfl) (congrArg (λq=>AV.rw 4 0 q 1 0) (congrArg (λq=>(pts q).length) V))) rfl (by rw[V];exact aA _) (congrArg (λq=>some (dG S q)) eD)
  clear D L V eD hl0 K y h hi i;intro⟨⟨m,d⟩,p,n,g,k,r,N⟩;have p:1<=m:=p;have r:Wh S.sz m d:=r;have k:d.length<=100000:=k;have N:m<=100000:=N;have g:Gt S d:=g;have n:ab d=ab C:=n;have y:IntKind.i64.wrap ((m:Int)+1)=((m+1:Nat):Int):=by rw[al (by omega) (by omega)];omega
  have E:IntKind.i64.wrap ((m:Int)-1)=((m-1:Nat):Int):=by rw[al (by omega) (by omega)];omega
  conv=>whnf
  refine ae.dec (λh=>?_) (λh=>?_)
  focus
   have f:m<d.length:=by
    have h:(m:Int)<((pts d).length:Int):=h;rw[an]at h;omega
   have J:m-1<d.length:=by omega
   have F:=JA p f;have hgx:Gt S (d.take (m-1)++(d[m-1].1,d[m-1].2)::(d[m].1,d[m].2)::d.drop (m+1)):=by rw[F];exact g
   have t:Sm5 S.sz d[m-1].2->Sm5 S.sz d[m].2->bP S.sz d[m-1].2 d[m].2=((d[m-1].2++d[m].2,[]),0)/\Gt S (d.take (m-1)++(d[m-1].1,d[m-1].2++d[m].2)::d.drop (m+1))/\ab (d.take (m-1)++(d[m-1].1,d[m-1].2++d[m].2)::d.drop (m+1))=ab C:=λa b=>by
    have:=PE hgx a b;rw[F,n]at this;exact this
   have O:=PH r p f;have G:=PF (c:=(d[m-1].1,d[m-1].2++d[m].2)) (B:=d.drop (m+1)) r f;have s:=MY p f (d[m-1].2++d[m].2);have hlj:(d.take (m-1)++(d[m-1].1,d[m-1].2++d[m].2)::d.drop (m+1)).length=d.length-1:=by simp only[Z6,Z8,Y7,q0g];omega
   obtain⟨l,P⟩:∃l,l=d.take (m-1)++(d[m-1].1,d[m-1].2++d[m].2)::d.drop (m+1):=⟨_,rfl⟩
   have hcl:Sm5 S.sz d[m-1].2->Sm5 S.sz d[m].2->eT S.sz (d.take (m-1)++(d[m-1].1,(bP S.sz d[m-1].2 d[m].2).1.1)::(d[m].1,(bP S.sz d[m-1].2 d[m].2).1.2)::d.drop (m+1)) l:=λa b=>by
    rw[(t a b).1,P];exact eT.sub (((q3u _ _).cons_cons _).append_left _)
   rw[<-P]at t G s hlj;have hpk:(wE [(0,.ptr 0 0),(5,.si .i64 ((m:Int)))] S (pts d) d).2.1.get 2=some (.sep (pk (chs S.sz (d.take (m-1)++(d[m-1].1,d[m-1].2)::(d[m].1,d[m].2)::d.drop (m+1))))):=by rw[F];rfl
   have s1:bk (aY (pts d)) 0 (m*1)=some (aY ((pts d).take m)):=by
    unfold bk;rw[q0n (by rw[bW,an];omega),q4g,q0i,yR]
   have s2:bk (aY (pts d)) (0+(m+1)*1) (((pts d).length-(m+1))*1)=some (aY ((pts d).drop (m+1))):=by
    unfold bk;rw[q0n (by rw[bW,an];omega),show 0+(m+1)*1=m+1 by omega,yS,q0i,q1g (by rw[bW,q0g];exact Z3 _)]
   have hmp:m<=(pts d).length:=by rw[an];omega
   have Q:m+1<=(pts d).length:=by rw[an];omega
   have R:(m+((pts d).length-(m+1)))*8<=140737488355328:=by rw[an];omega
   have T:max (1:Int) (IntKind.i64.wrap ((m:Int)-1))=((max 1 (m-1):Nat):Int):=by rw[E];omega
   conv=>whnf
   refine Idx.mk m rfl (by rw[an];exact f) ?_
   conv=>whnf
   refine aw (dp f (show 0+m*1=m by omega)) ?_
   conv=>whnf
   refine⟨2,S.sz,d.take m,d.drop (m+1),d[m].1,d[m].2,rfl,wO f rfl,?_⟩
   conv=>whnf
   refine ae.c6 (λu=>?_) (λu=>?_)
   focus
    have u:¬Sm5 S.sz d[m].2:=u
    conv=>whnf
    exact⟨⟨(m+1,d),Nat.le_add_left 1 m,n,g,k,O (λq=>u q.2),by show m+1<=100000;omega⟩,by show 2*d.length-(m+1)<2*d.length-m;omega,nN 3 (le:=[(0,.ptr 0 0),(5,.si .i64 (((m+1:Nat):Int)))]) (Z3 3) (λx e=>by
   simp only[Z4,Z5,or_false]at e;rcases e with rfl|rfl
   ·exact ah.ptr (Z0 rfl) rfl
   ·exact ah.int (congrArg (AV.si .i64) y)) ⟨by decide,by decide⟩ rfl rfl rfl rfl rfl rfl (ah.rw (Z0 rfl) rfl) rfl (aA _) rfl⟩
   have u:Sm5 S.sz d[m].2:=u
   conv=>whnf
   refine Idx.mk (m-1) E (by rw[an];exact J) ?_
   conv=>whnf
   refine aw (dp J (show 0+(m-1)*1=m-1 by omega)) ?_
   conv=>whnf
   refine⟨2,S.sz,d.take (m-1),d.drop (m-1+1),d[m-1].1,d[m-1].2,rfl,wO J rfl,?_⟩
   conv=>whnf
   refine ae.c6 (λz2=>?_) (λz2=>?_)
   focus
    have z2:¬Sm5 S.sz d[m-1].2:=z2
    conv=>whnf
    exact⟨⟨(m+1,d),Nat.le_add_left 1 m,n,g,k,O (λq=>z2 q.1),by show m+1<=100000;omega⟩,by show 2*d.length-(m+1)<2*d.length-m;omega,nN 3 (le:=[(0,.ptr 0 0),(5,.si .i64 (((m+1:Nat):Int)))]) (Z3 3) (λx e=>by
   simp only[Z4,Z5,or_false]at e;rcases e with rfl|rfl
   ·exact ah.ptr (Z0 rfl) rfl
   ·exact ah.int (congrArg (AV.si .i64) y)) ⟨by decide,by decide⟩ rfl rfl rfl rfl rfl rfl (ah.rw (Z0 rfl) rfl) rfl (aA _) rfl⟩
   have z2:Sm5 S.sz d[m-1].2:=z2;have j2:=(t z2 u).2.1;have j3:=(t z2 u).2.2
   conv=>whnf
   refine Idx.mk (m-1) E (by rw[an];exact J) ?_
   conv=>whnf
   refine aw (dp J (show 0+(m-1)*1=m-1 by omega)) ?_
   conv=>whnf
   refine Idx.mk m rfl (by rw[an];exact f) ?_
   conv=>whnf
   refine aw (dp f (show 0+m*1=m by omega)) ?_
   conv=>whnf
   refine⟨2,S.sz,d.take (m-1),d.drop (m+1),l,d[m-1].1,d[m].1,d[m-1].2,d[m].2,rfl,rfl,⟨by decide,by decide,rfl,hpk⟩,rfl,by decide,by omega,Y,g.dR _ (q0b J),g.dR _ (q0b f),hcl z2 u,?_⟩
   conv=>whnf
   refine⟨?_,trivial⟩
   conv=>whnf
   refine RSl.mk 0 m rfl rfl (.inr ⟨rfl,rfl⟩) (X5 _) hmp ?_
   conv=>whnf
   refine RSl.mk (m+1) (pts d).length (congrArg (λq=>mc (some (AV.int .i64 q)) 0) y) rfl (.inl rfl) Q (Z3 _) ?_
   conv=>whnf
   by_cases hend:m+1=d.length
   focus
    have I:(pts d).length-(m+1)=0:=by rw[an];omega
    have U:(pts d).drop (m+1)=[]:=q3f (by rw[an];omega);have hp2:pts d=pts l++(pts d).drop m:=by rw[<-s,U,q0w,q1c]
    have o:m=(pts l).length:=by rw[<-s,U,q0w,Y7,an];omega
    have hsr:∀{H:AH} {b q:Nat},H.get b=some (.cells (aY (pts d)) true)->zQ H 1 (.rw b (0+(m+1)*1) ((pts d).length-(m+1)) 1 q) 0 []:=λhb=>by
     rw[I]
     exact .rw (.inr ⟨_,hb⟩) (by
      unfold bk;rw[q0n (by rw[bW,an];omega)];rfl)
    refine bF.b7 1 8 3 0 m 1 _ true rfl (by decide) C7 (hsr rfl) rfl ?_
    conv=>whnf
    exact⟨⟨(max 1 (m-1),l),Nat.le_max_left _ _,j3,j2,by show l.length<=100000;omega,G,by show max 1 (m-1)<=100000;omega⟩,by show 2*l.length-max 1 (m-1)<2*d.length-m;omega,Th 3 (X:=(pts d).drop m) (le:=[(0,.ptr 0 0),(5,.si .i64 (((max 1 (m-1):Nat):Int)))]) (Z3 3) (λx e=>by
   simp only[Z4,Z5,or_false]at e;rcases e with rfl|rfl
   ·exact ah.ptr (Z0 rfl) rfl
   ·exact ah.int (congrArg (AV.si .i64) T)) ⟨by decide,by decide⟩ rfl rfl rfl rfl rfl rfl (ah.rw (Z0 rfl) (congrArg (λq=>AV.rw 3 0 q 1 1) o)) (congrArg (λq=>some (AO.cells (aY q) true)) hp2) rfl⟩
   have o:m+((pts d).length-(m+1))=(pts l).length:=by rw[<-s,Z6,Y7,q0g,an];omega
   have hn0:(pts d).length-(m+1)≠0:=by rw[an];omega
   have hpm:(aY ((pts d).take m)++aY ((pts d).drop (m+1))).map mk=aY (pts l):=by rw[<-s,rJ,q0k,aA,aA]
   refine bF.exact 1 8 ((pts d).length-(m+1)) 3 0 m (aY ((pts d).drop (m+1))) (aY ((pts d).take m)) rfl C7 (.rw (.inr ⟨_,rfl⟩) s2) (by rw[bW,q0g,q0i]) (C6 _) hn0 (.rw (.inr ⟨_,rfl⟩) s1) R ?_
   conv=>whnf
   exact⟨⟨(max 1 (m-1),l),Nat.le_max_left _ _,j3,j2,by show l.length<=100000;omega,G,by show max 1 (m-1)<=100000;omega⟩,by show 2*l.length-max 1 (m-1)<2*d.length-m;omega,nN 6 (le:=[(0,.ptr 0 0),(5,.si .i64 (((max 1 (m-1):Nat):Int)))]) (Z3 3) (λx e=>by
   simp only[Z4,Z5,or_false]at e;rcases e with rfl|rfl
   ·exact ah.ptr (Z0 rfl) rfl
   ·exact ah.int (congrArg (AV.si .i64) T)) ⟨by decide,by decide⟩ rfl rfl rfl rfl rfl rfl (ah.rw (Z0 rfl) (congrArg (λq=>AV.rw 6 0 q 1 0) o)) rfl hpm rfl⟩
  have f:d.length<=m:=by
   have:¬m<d.length:=λq=>h (by
    show(m:Int)<((pts d).length:Int);rw[an];omega)
   omega
  have hwe:Wh S.sz d.length d:=λj hj M=>r j hj (by omega)
  conv=>whnf
  exact fI (TdP S C) ⟨rfl,rfl,rfl,n,g,hwe⟩ (VTo.mk5 rfl) (λφ ψ w h=>iO rfl h) 3 ⟨by decide,by decide⟩ rfl rfl rfl rfl rfl rfl (ah.rw (Z0 rfl) rfl) rfl (aA _) rfl
def uL(args:List AV)(H:AH)(n:Nat)(κ:PK):Prop:=match args with
 | [x]=>∃(r k q:Nat) (S:Sr) (C:Ck5),x= .ptr r 0/\eX H n r k q S (pts C) C/\Pre5 S C/\C.length<=100000/\∀a,ab a=ab C->Gt S a->Wh S.sz a.length a->κ (.tup []) (fX H n r k q S (pts a) a) (n+1)
 |_=>False
theorem M0:ai 132 uL:=λargs H n y b z d A B K e a f=>by
 unfold uL at b;split at b
 ·obtain⟨D,h,E,F,G⟩:=a.cons_inv;obtain⟨r,k,q,S,C,rfl,i,j,l,b⟩:=b;refine gG (ay Tj 5 _) (by kernel_rfl) (MZ S C j l) (λ_=>rfl) e i a f (λu m o c ⟨g,_⟩=>by subst g;exact⟨λ_=>rfl,rfl⟩) λu m o c ⟨p,s,t,v,w,x⟩=>?_
  subst p s t;exact b c v w x
 ·exact b.elim
def ex5(C:Ck5):Nat:=(C.map λc=>c.2.length-1).sum
theorem G3(A B:Ck5):ex5 (A++B)=ex5 A+ex5 B:=by simp[ex5]
theorem mA(c:(Nat×Nat)×Smp)(B:Ck5):ex5 (c::B)=(c.2.length-1)+ex5 B:=by simp[ex5]
theorem AD:∀C:Ck5,ex5 C<=(ab C).length
 | []=>Z3 _
 |c::C=>by
  have:=AD C;rw[mA,bN,Z6];omega
structure oL(S:Sr)(C:Ck5):Prop where
 lo:128<=S.sz
 hi:S.sz<=4096
 up:Up (ab C)
 dR:∀c∈C,ct c.2
theorem PL{sz:Nat}{L:Smp}(a:128<=sz)(h:¬(usd L:Int)<=(sz:Int)):2<=L.length:=by
 rcases q3d L.length 2 with q|q
 ·have b:=po (L:=L) (by omega);have c:=rL L;omega
 ·exact q
theorem PN{sz:Nat}{L:Smp}(h:(usd L:Int)<=(sz:Int)):(aX L).length<=8*sz:=by
 have a:=rL L;omega
theorem M1{S:Sr}{A B:Ck5}{p q:Nat×Nat}{L:Smp}(a:oL S (A++(p,L)::B))(e:2<=L.length):oL S (A++(p,L.take (bX L))::(q,L.drop (bX L))::B)/\ab (A++(p,L.take (bX L))::(q,L.drop (bX L))::B)=ab (A++(p,L)::B)/\ex5 (A++(p,L.take (bX L))::(q,L.drop (bX L))::B)+1=ex5 (A++(p,L)::B):=by
 obtain⟨g,h⟩:=Ar e;have b:ct L:=a.dR (p,L) (by simp)
 have d:ab (A++(p,L.take (bX L))::(q,L.drop (bX L))::B)=ab (A++(p,L)::B):=by
  rw[fb,fb,bN,<-q0h (L.take (bX L)),q1c]
 refine⟨⟨a.lo,a.hi,by rw[d];exact a.up,λc f=>?_⟩,d,?_⟩
 ·rcases dz.1 f with rfl|k
  ·exact b.sub (q4d _ _)
  ·rcases dz.1 k with rfl|k
   ·exact b.sub (List.drop_sublist _ _)
   ·exact a.dR c (dz.2 (.inr k))
 ·rw[G3,G3,mA,mA,mA];simp only[Y7,q0g];omega
def FtP(b:Sr)(a:Ck5):AV->Sr->Ps->Ck5->Prop:=λu S V C=>u= .tup []/\S=b/\V=pts C/\ab C=ab a/\Pre5 b C/\C.length+ex5 C=a.length+ex5 a
def Vu:DT:=[(2,[(some 0,[0]),(some 0,[12]),(some 0,[13]),(some 0,[14]),(some 0,[2]),(some 0,[15,16]),(some 0,[17]),(none,[18]),(some 1,[0]),(some 2,[20]),(some 3,[21]),(some 4,[22]),(some 0,[19,23])])]
def Vv:FuncId->EP:=aq 184 AA (aq 185 pt (cf 202 (qD MF) evP))
theorem PO:aU Vv:=ag (ag (aO az GY (GX _)) C9) C8
def KFt:FuncId->EP:=bb 158 Vu Vv
theorem Tk:aU KFt:=au PO (by kernel_rfl) (by kernel_rfl)
theorem PQ(S:Sr)(C:Ck5)(H:oL S C)(R:C.length+ex5 C<=100000):fv (ax KFt 5 158) [.ptr 0 0] (mkH (bH (ij S (pts C) C) 0)) 3 (SP (FtP S C)):=by
 have I:=H.lo;have M:=H.hi;show ax KFt 5 _ _ _ _ _
 conv=>whnf
 refine aR.mk {x:Nat×Ck5//ab x.2=ab C/\oL S x.2/\x.2.length+ex5 x.2=C.length+ex5 C/\x.1<=x.2.length/\∀j,(l:j<x.2.length)->j<x.1->(aX (x.2[j]).2).length<=8*S.sz} 4 (λx=>((wE [(0,.ptr 0 0),(2,.si .i64 ((x.val.1:Int)))] S (pts x.val.2) x.val.2).1,(wE [(0,.ptr 0 0),(2,.si .i64 ((x.val.1:Int)))] S (pts x.val.2) x.val.2).2.1)) (λx=>2*ex5 x.val.2+(x.val.2.length-x.val.1)) ⟨(0,C),rfl,H,rfl,X5 _,λj l N=>absurd N (q0f j)⟩ ?_ ?_
 focus
  exact nN 1 (le:=[(0,.ptr 0 0),(2,.si .i64 (((0:Nat):Int)))]) (Z3 3) (λx r=>by
   simp only[Z4,Z5,or_false]at r;rcases r with rfl|rfl
   ·exact ah.ptr (Z0 rfl) rfl
   ·exact ah.int rfl) ⟨by decide,by decide⟩ rfl rfl rfl rfl rfl rfl (ah.rw (Z0 rfl) rfl) rfl (aA _) rfl
 intro⟨⟨m,a⟩,g,b,F,t,i⟩;have g:ab a=ab C:=g;have b:oL S a:=b;have F:a.length+ex5 a=C.length+ex5 C:=F;have t:m<=a.length:=t;have i:∀j,(l:j<a.length)->j<m->(aX (a[j]).2).length<=8*S.sz:=i;have K:IntKind.i64.wrap ((m:Int)+1)=((m+1:Nat):Int):=by rw[al (by omega) (by omega)];omega
 have u:¬m<a.length->Pre5 S a:=λh=>⟨b.lo,b.hi,b.up,b.dR,λc O=>by
  obtain⟨j,l,rfl⟩:=q2u O;exact i j l (by omega)⟩
 have P:(pts a).length=a.length:=an a
 have body:∀f:m<a.length,(2<=a[m].2.length->∃d:Nat×Nat->Ck5,∀o,eT S.sz (a.take m++(a[m].1,a[m].2.take (bX a[m].2))::(o,a[m].2.drop (bX a[m].2))::a.drop (m+1)) (d o)/\(pts a).take (m+1)++o::(pts a).drop (m+1)=pts (d o)/\ab (d o)=ab C/\oL S (d o)/\(d o).length=a.length+1/\ex5 (d o)+1=ex5 a/\∀j,(l:j<(d o).length)->j<m->(aX ((d o)[j]).2).length<=8*S.sz)/\((aX a[m].2).length<=8*S.sz->∀j,(l:j<a.length)->j<m+1->(aX (a[j]).2).length<=8*S.sz):=λf=>by
  have v:=eY f;refine⟨λk=>⟨λo=>a.take m++(a[m].1,a[m].2.take (bX a[m].2))::(o,a[m].2.drop (bX a[m].2))::a.drop (m+1),λo=>⟨eT.refl _ _,G1 f o _ _,?_⟩⟩,λk j l y=>?_⟩
  ·have G:=M1 (q:=o) (A:=a.take m) (B:=a.drop (m+1)) (p:=a[m].1) (L:=a[m].2) (S:=S) (by rw[v];exact b) k;rw[v,g]at G;refine⟨G.2.1,G.1,by simp only[Z6,Z8,Y7,q0g];omega,G.2.2,?_⟩;refine λj l y=>?_
   have e:(a.take m++(a[m].1,a[m].2.take (bX a[m].2))::(o,a[m].2.drop (bX a[m].2))::a.drop (m+1))[j]'l=a[j]'(by omega):=by
    rw[q3m (by rw[Y7];omega),List.getElem_take]
   rw[e];exact i j (by omega) y
  ·by_cases q:j=m
   ·subst q;exact k
   ·exact i j l (by omega)
 conv=>whnf
 refine ae.dec (λh=>?_) (λh=>?_)
 focus
  have f:m<a.length:=by
   have h:(m:Int)<((pts a).length:Int):=h;omega
  have hb:=body f;have D:m<(pts a).length:=by omega
  have Q:ct a[m].2:=b.dR _ (q0b f)
  conv=>whnf
  refine Idx.mk m rfl D ?_
  conv=>whnf
  refine aw (dp f (show 0+m*1=m by omega)) ?_
  conv=>whnf
  refine⟨2,S.sz,a.take m,a.drop (m+1),a[m].1,a[m].2,rfl,wO f rfl,?_⟩
  conv=>whnf
  refine ae.dec (λz=>?_) (λz=>?_)
  focus
   have z:(usd a[m].2:Int)<=(S.sz:Int):=z;have s:=hb.2 (PN z)
   conv=>whnf
   exact⟨⟨(m+1,a),g,b,F,f,s⟩,by show 2*ex5 a+(a.length-(m+1))<2*ex5 a+(a.length-m);omega,nN 3 (le:=[(0,.ptr 0 0),(2,.si .i64 (((m+1:Nat):Int)))]) (Z3 3) (λx r=>by
   simp only[Z4,Z5,or_false]at r;rcases r with rfl|rfl
   ·exact ah.ptr (Z0 rfl) rfl
   ·exact ah.int (congrArg (AV.si .i64) K)) ⟨by decide,by decide⟩ rfl rfl rfl rfl rfl rfl (ah.rw (Z0 rfl) rfl) rfl (aA _) rfl⟩
  have z:¬(usd a[m].2:Int)<=(S.sz:Int):=z;have E:=PL I z;have s:=hb.1 E;clear hb body;revert s;refine λ⟨d,s⟩=>?_
  conv=>whnf
  refine Idx.mk m rfl D ?_
  conv=>whnf
  refine aw (dp f (show 0+m*1=m by omega)) ?_
  conv=>whnf
  refine⟨2,S.sz,a.take m,a.drop (m+1),a[m].1,a[m].2,d,rfl,jz f rfl (by decide) (by decide) rfl,rfl,by decide,by omega,Q,E,λo=>⟨(s o).1,?_⟩⟩;have n:=(s o).2
  conv=>whnf
  refine⟨0,3,2,m+1,S,pts a,pts (d o),d o,o,rfl,congrArg (AV.si .i64) K,rfl,⟨⟨by decide,by decide,by decide⟩,⟨by decide,by decide,by decide⟩,rfl,rfl,rfl⟩,by omega,by omega,n.1,?_⟩
  conv=>whnf
  exact⟨⟨(m,d o),n.2.1,n.2.2.1,by show(d o).length+ex5 (d o)=C.length+ex5 C;have:=n.2.2.2.1;have:=n.2.2.2.2.1;omega,by show m<=(d o).length;have:=n.2.2.2.1;omega,n.2.2.2.2.2⟩,by show 2*ex5 (d o)+((d o).length-m)<2*ex5 a+(a.length-m);have:=n.2.2.2.1;have:=n.2.2.2.2.1;omega,nN 6 (le:=[(0,.ptr 0 0),(2,.si .i64 ((m:Int)))]) (Z3 3) (λx r=>by
   simp only[Z4,Z5,or_false]at r;rcases r with rfl|rfl
   ·exact ah.ptr (Z0 rfl) rfl
   ·exact ah.int rfl) ⟨by decide,by decide⟩ rfl rfl rfl rfl rfl rfl (ah.rw (Z0 rfl) rfl) rfl (aA _) rfl⟩
 have f:¬m<a.length:=λq=>h (by
  show(m:Int)<((pts a).length:Int);omega)
 have J:=u f
 conv=>whnf
 exact fI (FtP S C) ⟨rfl,rfl,rfl,g,J,F⟩ (VTo.mk5 rfl) (λT U w h=>iO rfl h) 3 ⟨by decide,by decide⟩ rfl rfl rfl rfl rfl rfl (ah.rw (Z0 rfl) rfl) rfl (aA _) rfl
def Fa(args:List AV)(H:AH)(n:Nat)(κ:PK):Prop:=match args with
 | [x]=>∃(r k q:Nat) (S:Sr) (C:Ck5),x= .ptr r 0/\eX H n r k q S (pts C) C/\oL S C/\C.length+ex5 C<=100000/\∀a,ab a=ab C->Pre5 S a->a.length<=100000->κ (.tup []) (fX H n r k q S (pts a) a) (n+1)
 |_=>False
theorem Vw:ai 158 Fa:=λargs H n x b y d z A K e a f=>by
 unfold Fa at b;split at b
 ·obtain⟨B,h,D,E,F⟩:=a.cons_inv;obtain⟨r,k,q,S,C,rfl,i,j,l,b⟩:=b;refine gG (ay Tk 5 _) (by kernel_rfl) (PQ S C j l) (λ_=>rfl) e i a f (λu m o c ⟨g,_⟩=>by subst g;exact⟨λ_=>rfl,rfl⟩) λu m o c ⟨p,s,t,v,w,G⟩=>?_
  subst p s t;exact b c v w (by omega)
 ·exact b.elim
def fm(a b:Int)(C:Ck5):Ck5:=C.map λc=>(c.1,aJ c.2 a b)
theorem qF(a b:Int):∀C:Ck5,ab (fm a b C)=aJ (ab C) a b
 | []=>rfl
 |c::C=>by
  have d:=qF a b C;show ab ((c.1,aJ c.2 a b)::fm a b C)=_;rw[bN,bN,d];unfold aJ;rw[q2c]
theorem JB(a b:Int)(C:Ck5):pts (fm a b C)=pts C:=by simp[fm,pts]
theorem JC(a b:Int)(C:Ck5):(fm a b C).length=C.length:=Y0 _
theorem Dc(a b:Int):∀C:Ck5,ex5 (fm a b C)<=ex5 C
 | []=>Z3 _
 |c::C=>by
  have d:=Dc a b C;show ex5 ((c.1,aJ c.2 a b)::fm a b C)<=_;rw[mA,mA];have:(aJ c.2 a b).length<=c.2.length:=q0y _ _;show((aJ c.2 a b).length-1)+_<=_;omega
theorem M3{S:Sr}{C:Ck5}(h:oL S C)(a b:Int):oL S (fm a b C):=⟨h.lo,h.hi,by rw[qF];exact h.up.sublist List.filter_sublist,λc e=>by
 obtain⟨d,hd,rfl⟩:=q0m.1 e;exact wj (h.dR d hd) a b⟩
theorem Fb{a b:Int}{C:Ck5}{i:Nat}(h:i<C.length):fm a b (C.take (i+1))=fm a b (C.take i)++ [(C[i].1,aJ C[i].2 a b)]:=by
 unfold fm;rw[q4e,X4 h,q0k];rfl
theorem yT{C:Ck5}{i:Nat}(h:i<C.length):ab (C.take (i+1))=ab (C.take i)++C[i].2:=by
 rw[q4e,X4 h,jm];simp[ab,cnt]
theorem AF(C:Ck5)(i:Nat):(ab (C.take i)).length<=(ab C).length:=by
 have:ab C=ab (C.take i)++ab (C.drop i):=by rw[<-jm,q1c]
 rw[this,Z6];omega
def dlN(a b:Int)(C:Ck5):Nat:=(ab C).length-(aJ (ab C) a b).length
theorem oM(L:Smp)(a b:Int):(aJ L a b).length<=L.length:=q0y _ _
theorem M4{a b:Int}{C:Ck5}{i:Nat}(h:i<C.length):(dlN a b (C.take (i+1)):Int)=(dlN a b (C.take i):Int)+((C[i].2.length:Int)-((aJ C[i].2 a b).length:Int)):=by
 unfold dlN;have c:=oM (ab (C.take i)) a b;have d:=oM C[i].2 a b;rw[yT h];have e:aJ (ab (C.take i)++C[i].2) a b=aJ (ab (C.take i)) a b++aJ C[i].2 a b:=q2c _ _;rw[e,Z6,Z6];omega
def DlP(c:Sr)(d:Ck5)(a b:Int):AV->Sr->Ps->Ck5->Prop:=λu S V C=>u= .si .i64 ((dlN a b d:Nat):Int)/\S=c/\V=pts C/\ab C=aJ (ab d) a b/\Gt c C/\Wh c.sz C.length C
def KDl:FuncId->EP:=bb 100 [] (aq 158 Fa (aq 132 uL (aq 157 wC evP)))
theorem Tl:aU KDl:=au (ag (ag (ag az Pu) M0) Vw) (by kernel_rfl) (by kernel_rfl)
theorem PR(S:Sr)(C:Ck5)(a b:Int)(g:oL S C)(L:C.length+ex5 C<=100000)(o:(ab C).length<=100000):fv (ax KDl 5 100) [.ptr 0 0,.si .i64 a,.si .i64 b] (mkH (bH (ij S (pts C) C) 0)) 3 (SP (DlP S C a b)):=by
 have p:=g.lo;have r:=g.hi;have k:=M3 g a b;have hex:=Dc a b C;have s:=JC a b C;show ax KDl 5 _ _ _ _ _
 conv=>whnf
 refine ae.c6 (λz=>absurd (show(0:Int)<(S.sz:Int) by omega) z) (λ_=>?_)
 conv=>whnf
 refine aR.mk {i:Nat//i<=C.length} 4 (λi=>((wE [(0,.ptr 0 0),(1,.si .i64 a),(2,.si .i64 b),(7,.si .i64 ((dlN a b (C.take i.val):Nat):Int)),(16,.rw 3 0 (pts C).length 1 0),(17,.si .i64 ((pts C).length:Int)),(18,.si .i64 ((i.val:Int)))] S (pts C) (fm a b (C.take i.val)++C.drop i.val)).1,(wE [(0,.ptr 0 0),(1,.si .i64 a),(2,.si .i64 b),(7,.si .i64 ((dlN a b (C.take i.val):Nat):Int)),(16,.rw 3 0 (pts C).length 1 0),(17,.si .i64 ((pts C).length:Int)),(18,.si .i64 ((i.val:Int)))] S (pts C) (fm a b (C.take i.val)++C.drop i.val)).2.1)) (λi=>C.length-i.val) ⟨0,X5 _⟩ ?_ ?_
 focus
  exact nN 1 (le:=[(0,.ptr 0 0),(1,.si .i64 a),(2,.si .i64 b),(7,.si .i64 ((dlN a b (C.take 0):Nat):Int)),(16,.rw 3 0 (pts C).length 1 0),(17,.si .i64 ((pts C).length:Int)),(18,.si .i64 (((0:Nat):Int)))]) (Z3 3) (λx d=>by
   simp only[Z4,Z5,or_false]at d;rcases d with rfl|rfl|rfl|rfl|rfl|rfl|rfl
   ·exact ah.ptr (Z0 rfl) rfl
   ·exact ah.int rfl
   ·exact ah.int rfl
   ·exact ah.int rfl
   ·exact ah.rw (Z0 rfl) rfl
   ·exact ah.int rfl
   ·exact ah.int rfl) ⟨by decide,by decide⟩ rfl rfl rfl rfl rfl rfl (ah.rw (Z0 rfl) rfl) rfl (aA _) rfl
 intro⟨i,M⟩;have t:IntKind.i64.wrap ((i:Int)+1)=((i+1:Nat):Int):=by rw[al (by omega) (by omega)];omega
 have u:(pts C).length=C.length:=an C;have hle:=AF C (i+1)
 have st:∀h:i<C.length,some (dG S (fm a b (C.take i)++C.drop i))=some (AO.sep (pk (chs S.sz (fm a b (C.take i)++(C[i].1,C[i].2)::C.drop (i+1)))))/\eT S.sz (fm a b (C.take i)++(C[i].1,aJ C[i].2 a b)::C.drop (i+1)) (fm a b (C.take (i+1))++C.drop (i+1))/\IntKind.i64.wrap (((dlN a b (C.take i):Nat):Int)+((C[i].2.length:Int)-((aJ C[i].2 a b).length:Int)))=((dlN a b (C.take (i+1)):Nat):Int):=λh=>by
  refine⟨by rw[show C.drop i=(C[i].1,C[i].2)::C.drop (i+1) from q0d h];rfl,by rw[Fb h,q0h];exact eT.refl _ _,?_⟩;have e:=M4 (a:=a) (b:=b) h;rw[<-e];have:dlN a b (C.take (i+1))<=100000:=by unfold dlN;omega
  rw[al (by omega) (by omega)]
 conv=>whnf
 refine ae.dec (λh=>?_) (λh=>?_)
 focus
  have j:i<C.length:=by
   have h:(i:Int)<((pts C).length:Int):=h;omega
  have c:=st j;have v:ct C[i].2:=g.dR _ (q0b j)
  conv=>whnf
  refine Idx.mk i rfl (by omega) ?_
  conv=>whnf
  refine aw (dp j (show 0+i*1=i by omega)) ?_
  conv=>whnf
  refine⟨2,S.sz,fm a b (C.take i),C.drop (i+1),fm a b (C.take (i+1))++C.drop (i+1),C[i].1,C[i].2,a,b,rfl,rfl,rfl,⟨by decide,by decide,rfl,c.1⟩,by omega,v,c.2.1,?_⟩
  conv=>whnf
  exact⟨⟨i+1,j⟩,by show C.length-(i+1)<C.length-i;omega,nN 3 (le:=[(0,.ptr 0 0),(1,.si .i64 a),(2,.si .i64 b),(7,.si .i64 ((dlN a b (C.take (i+1)):Nat):Int)),(16,.rw 3 0 (pts C).length 1 0),(17,.si .i64 ((pts C).length:Int)),(18,.si .i64 (((i+1:Nat):Int)))]) (Z3 3) (λx d=>by
   simp only[Z4,Z5,or_false]at d;rcases d with rfl|rfl|rfl|rfl|rfl|rfl|rfl
   ·exact ah.ptr (Z0 rfl) rfl
   ·exact ah.int rfl
   ·exact ah.int rfl
   ·exact ah.int (congrArg (AV.si .i64) c.2.2)
   ·exact ah.rw (Z0 rfl) rfl
   ·exact ah.int rfl
   ·exact ah.int (congrArg (AV.si .i64) t)) ⟨by decide,by decide⟩ rfl rfl rfl rfl rfl rfl (ah.rw (Z0 rfl) rfl) rfl (aA _) rfl⟩
 have f:i=C.length:=by
  have:¬i<C.length:=λq=>h (by
   show(i:Int)<((pts C).length:Int);omega)
  omega
 have w:fm a b (C.take i)++C.drop i=fm a b C:=by rw[f,q0e,List.drop_length,q0w]
 have y:dlN a b (C.take i)=dlN a b C:=by rw[f,q0e]
 have A:some (dG S (fm a b (C.take i)++C.drop i))=some (dG S (fm a b C)):=by rw[w]
 have n:=JB a b C;have l:some (AO.cells (c8 S 3 (pts C).length) true)=some (AO.cells (c8 S 3 (pts (fm a b C)).length) true):=by rw[n]
 have m:some (AO.cells (aY (pts C)) true)=some (AO.cells (aY (pts (fm a b C))) true):=by rw[n]
 have B:=qF a b C;have D:AV.si .i64 ((dlN a b (C.take i):Nat):Int)= .si .i64 ((dlN a b C:Nat):Int):=by rw[y]
 clear st
 conv=>whnf
 refine⟨0,3,2,S,fm a b C,rfl,⟨⟨by decide,by decide,by decide⟩,⟨by decide,by decide,by decide⟩,l,m,A⟩,k,by omega,λE F G H=>?_⟩
 conv=>whnf
 refine⟨0,4,2,S,E,rfl,⟨⟨by decide,by decide,by decide⟩,⟨by decide,by decide,by decide⟩,rfl,rfl,rfl⟩,G,H,λN I J K=>?_⟩
 conv=>whnf
 exact fI (DlP S C a b) ⟨rfl,rfl,rfl,by rw[I,F,B],J,K⟩ (VTo.mk5 D) VR.ez 5 ⟨by decide,by decide⟩ rfl rfl rfl rfl rfl rfl (ah.rw (Z0 rfl) rfl) rfl (aA _) rfl
def G4 (le:List (Nat×AV)) (S:Sr) (V:Ps) (C:Ck5):AE×AH×Nat:=(mkE le,mkH [(0,.cells (c8 S 1 V.length) true),(1,.cells (aY V) true),(2,dG S C)],3)
theorem Fc{σ:AE}{H:AH}{n:Nat}{S:Sr}{V:Ps}{C:Ck5}{le:List (Nat×AV)}(c:∀x∈le,ah H 3 (λb=>b) (aj (pa x.1) σ) x.2)(d:PM.get H 0=some (.cells (c8 S 1 V.length) true))(f:PM.get H 1=some (.cells (aY V) true))(g:PM.get H 2=some (dG S C)):Cov 3 σ H n (G4 le S V C):=by
 refine Cov.ofR (m:=3) (p:=3) (λb=>b) (Z3 _) (λb h=>rfl) c ?_ (λx a y i e=>e);intro x a;simp only[Z4,Z5,or_false]at a;rcases a with rfl|rfl|rfl
 ·exact⟨Z0 rfl,.inl ⟨_,d,ao.c8 rfl rfl rfl rfl rfl (ah.rw (Z0 rfl) rfl)⟩⟩
 ·exact⟨Z0 rfl,.inl ⟨_,f,ao.aY (aA _)⟩⟩
 ·exact⟨Z0 rfl,.inl ⟨_,g,ao.sep _⟩⟩
def RoP(P:AV->Prop)(S:Sr)(V:Ps)(C:Ck5):PK:=λu a m=>P u/\a=mkH [(0,.cells (c8 S 1 V.length) true),(1,.cells (aY V) true),(2,dG S C)]/\m=3
theorem nO{u v:AV}{H:AH}{n:Nat}{S:Sr}{V:Ps}{C:Ck5}(P:AV->Prop)(d:P v)(e:VTo u v)(f:∀φ ψ w,VR φ v w->VR ψ v w)(g:PM.get H 0=some (.cells (c8 S 1 V.length) true))(h:PM.get H 1=some (.cells (aY V) true))(i:PM.get H 2=some (dG S C)):∃(a:AV) (b:AH) (m:Nat),Cov 3 (mkE [(0,u)]) H n (mkE [(0,a)],b,m)/\RoP P S V C a b m:=
 ⟨v,(G4 [(0,v)] S V C).2.1,3,Fc (le:=[(0,v)]) (λx c=>by
  simp only[Z4,Z5,or_false]at c;subst c;exact λφ ψ w k _ j=>f φ ψ w (e φ w j)) g h i,d,rfl,rfl⟩
theorem Fe {f:FuncId} {run:List AV->AH->Nat->PK->Prop} (e:ai f run) (l:bM Tryz.prog f=true) {a:List AV} {S:Sr} {V:Ps} {C:Ck5} {P:AV->Prop} (h:fv run (.ptr 0 0::a) (mkH (bH (ij S V C) 0)) 3 (RoP P S V C)) (m:∀r,dM r a=a)
 {φ:Ph} {H:AH} {n:Nat} {w x:Hp} {p:Array Value} {κ:PK} {K:KH} {r k q:Nat} (z:HR φ H n w x) (j:eX H n r k q S V C) (d:VRs φ (.ptr r 0::a) p.toList) (A:cn φ w κ K) (B:∀u,P u->(∀f,ren f u=u)/\ltV 3 u=true) (D:∀u,P u->κ u H n):dH Tryz.prog f p x K:=by
 refine dj (S:=[r,k,q]) (O:=ij S V C) (args0:= .ptr 0 0::a) (ai.fv e) l z j.wD (by show VRs φ (ren _ _::dM _ a) p.toList;rw[m];exact d) A h λu G I ⟨y,E,F⟩=>?_
 subst E F;obtain⟨g,v⟩:=B u y;refine⟨3,H,Z3 _,fu.same λi s o b c _=>?_,v,by rw[g];exact D u y⟩
 match i,b with
 |0,b=>
  injection b with b;subst b;rw[j.hr]at c;injection c with c;subst c;exact⟨_,rfl,rfl,rfl,rfl⟩
 |1,b=>
  injection b with b;subst b;rw[j.hk]at c;injection c with c;subst c;exact⟨_,rfl,rfl,pq _ _,by rw[cJ,jM]⟩
 |2,b=>
  injection b with b;subst b;rw[j.hq]at c;injection c with c;subst c;exact⟨_,rfl,rfl,rfl,rfl⟩
def kh(A:Sr->Ck5->List AV->AV->Prop)(args:List AV)(H:AH)(n:Nat)(κ:PK):Prop:=match args with
 |x::a=>∃(r k q:Nat) (S:Sr) (C:Ck5) (v:AV),x= .ptr r 0/\eX H n r k q S (pts C) C/\A S C a v/\κ v H n
 |_=>False
theorem Ff(A:Sr->Ck5->List AV->AV->Prop):fU (kh A):= .pure λargs H n g a=>by
 unfold kh at*;split at a
 ·obtain⟨r,k,q,S,C,v,b,c,d,e⟩:=a;exact⟨v,e,λf h=>⟨r,k,q,S,C,v,b,c,d,h⟩⟩
 ·exact a.elim
theorem jN{f:FuncId}{A:Sr->Ck5->List AV->AV->Prop}{run:List AV->AH->Nat->PK->Prop}(d:ai f run)(e:bM Tryz.prog f=true)(h:∀S C j v,A S C j v->∃a,(∀φ i,VRs φ j i->VRs φ a i)/\(∀r,dM r a=a)/\((∀f,ren f v=v)/\ltV 3 v=true)/\fv run (.ptr 0 0::a) (mkH (bH (ij S (pts C) C) 0)) 3 (RoP (λu=>u=v) S (pts C) C)):ai f (kh A):=λargs H n F c φ l G i K m b o=>by
 unfold kh at c;split at c
 ·obtain⟨r,k,q,S,C,v,rfl,p,s,c⟩:=c;obtain⟨a,t,w,x,y⟩:=h S C _ v s;obtain⟨I,z,B,D,E⟩:=b.cons_inv;refine Fe d e y w m p (by rw[B];exact .cons D (t _ _ E)) o (λu g=>by subst g;exact x) λu g=>by subst g;exact c
 ·exact c.elim
theorem G5{φ:Ph}{y:AV}{t:Int}{a:List Value}(b:mk y= .si .i64 t)(h:VRs φ [y] a):VRs φ [.si .i64 t] a:=by
 obtain⟨g,c,d,e,f⟩:=h.cons_inv;rw[d];exact .cons (aV rfl (b▸e.mk)) f
theorem JD(S:Sr)(C:Ck5)(t:Int)(f:Okc S C):fv (ax KHm 5 63) [.ptr 0 0,.si .i64 t] (mkH (bH (ij S (pts C) C) 0)) 3 (RoP (λu=>u= .si .i64 ((dN (cnt C) t:Nat):Int)) S (pts C) C):=by
 have o:=f.few;have l:=f.lo;show ax KHm 5 _ _ _ _ _
 conv=>whnf
 refine aR.mk {i:Nat//(i<C.length∨i=0)/\dN (cnt C) t=i+dN ((cnt C).drop i) t} 3 (λi=>((G4 [(0,.ptr 0 0),(1,.si .i64 t),(5,.si .i64 ((i.val:Int)))] S (pts C) C).1,(G4 [(0,.ptr 0 0),(1,.si .i64 t),(5,.si .i64 ((i.val:Int)))] S (pts C) C).2.1)) (λi=>C.length-i.val) ⟨0,.inr rfl,by simp⟩ ?_ ?_
 focus
  exact Fc (le:=[(0,.ptr 0 0),(1,.si .i64 t),(5,.si .i64 (((0:Nat):Int)))]) (λx c=>by
   simp only[Z4,Z5,or_false]at c;rcases c with rfl|rfl|rfl
   ·exact ah.ptr (Z0 rfl) rfl
   ·exact ah.int rfl
   ·exact ah.int rfl) rfl rfl rfl
 intro⟨i,p,j⟩;have e:IntKind.i64.wrap ((i:Int)+1)=((i+1:Nat):Int):=by rw[al (by omega) (by omega)];omega
 have m:(pts C).length=C.length:=an C
 conv=>whnf
 refine ae.dec (λh=>?_) (λh=>?_)
 focus
  have a:i+1<C.length:=by
   have h:IntKind.i64.wrap ((i:Int)+1)<((pts C).length:Int):=h;rw[e]at h;omega
  have k:i+1<(pts C).length:=by omega
  have n:i+1<(cnt C).length:=by rw[cV];exact a
  have b:=wF (t:=t) n;rw[GZ a]at b
  conv=>whnf
  refine Idx.mk (i+1) e k ?_
  conv=>whnf
  refine aw (dp a (show 0+(i+1)*1=i+1 by omega)) ?_
  conv=>whnf
  refine⟨2,S.sz,C.take (i+1),C.drop (i+1+1),C,C[i+1].1,C[i+1].2,rfl,jz a rfl (by decide) (by decide) rfl,by omega,f.dR _ (q0b a),jl a,?_⟩
  conv=>whnf
  refine ae.dec (λg=>?_) (λg=>?_)
  focus
   have d:i=dN (cnt C) t:=by rw[j,b,if_pos g];rfl
   conv=>whnf
   exact nO _ rfl (VTo.mk5 (congrArg (λq:Nat=>AV.si .i64 (q:Int)) d)) VR.ez rfl rfl rfl
  have d:dN (cnt C) t=(i+1)+dN ((cnt C).drop (i+1)) t:=by rw[j,b,if_neg g];omega
  conv=>whnf
  exact⟨⟨i+1,.inl a,d⟩,by show C.length-(i+1)<C.length-i;omega,Fc (le:=[(0,.ptr 0 0),(1,.si .i64 t),(5,.si .i64 (((i+1:Nat):Int)))]) (λx c=>by
   simp only[Z4,Z5,or_false]at c;rcases c with rfl|rfl|rfl
   ·exact ah.ptr (Z0 rfl) rfl
   ·exact ah.int rfl
   ·exact ah.int (congrArg (AV.si .i64) e)) rfl rfl rfl⟩
 have d:i=dN (cnt C) t:=by
  have a:¬i+1<C.length:=λq=>h (by
   show IntKind.i64.wrap ((i:Int)+1)<((pts C).length:Int);rw[e];omega)
  rw[j,tZ (D:=(cnt C).drop i) (by rw[q0g,cV];omega)];rfl
 conv=>whnf
 exact nO _ rfl (VTo.mk5 (congrArg (λq:Nat=>AV.si .i64 (q:Int)) d)) VR.ez rfl rfl rfl
def M5(S:Sr)(C:Ck5)(a:List AV)(v:AV):Prop:=∃y t h,a=[y]/\mk y= .si .i64 t/\Okc S C/\dN (cnt C) t=h/\v= .si .i64 (h:Int)
theorem PS:ai 63 (kh M5):=jN (ay MP 5 _) (by kernel_rfl) λS C f v ⟨y,t,h,a,b,c,d,e⟩=>by
 subst a d e;exact⟨[.si .i64 t],λg i=>G5 b,λ_=>rfl,⟨λ_=>rfl,rfl⟩,JD S C t c⟩
def db(S:Sr):Int:=if S.ret=0 then S.fl else max S.fl (S.mx-S.ret)
def Vx:FuncId->EP:=bb 24 [] evP
theorem PT:aU Vx:=au az (by kernel_rfl) (by kernel_rfl)
def Vy(S:Sr)(C:Ck5)(a:List AV)(v:AV):Prop:=a=[]/\128<=S.sz/\v= .si .i64 (S.mx)
theorem Vz:ai 24 (kh Vy):=jN (ay PT 4 _) (by kernel_rfl) λS C d v a=>by
 obtain⟨b,e,c⟩:=a;subst b c;refine⟨[],λf g h=>h,λ_=>rfl,⟨λ_=>rfl,rfl⟩,?_⟩;show ax Vx 4 _ _ _ _ _
 conv=>whnf
 refine ae.c6 (λz=>absurd (show(0:Int)<(S.sz:Int) by omega) z) (λ_=>?_)
 conv=>whnf
 exact nO _ rfl (VTo.mk5 rfl) VR.ez rfl rfl rfl
def VA:FuncId->EP:=bb 85 [] evP
theorem PU:aU VA:=au az (by kernel_rfl) (by kernel_rfl)
def VB(S:Sr)(C:Ck5)(a:List AV)(v:AV):Prop:=a=[]/\128<=S.sz/\v= .si .i64 (S.ret)
theorem VC:ai 85 (kh VB):=jN (ay PU 4 _) (by kernel_rfl) λS C d v a=>by
 obtain⟨b,e,c⟩:=a;subst b c;refine⟨[],λf g h=>h,λ_=>rfl,⟨λ_=>rfl,rfl⟩,?_⟩;show ax VA 4 _ _ _ _ _
 conv=>whnf
 exact nO _ rfl (VTo.mk5 rfl) VR.ez rfl rfl rfl
def VD:FuncId->EP:=bb 86 [] evP
theorem PV:aU VD:=au az (by kernel_rfl) (by kernel_rfl)
def VE(S:Sr)(C:Ck5)(a:List AV)(v:AV):Prop:=a=[]/\128<=S.sz/\v= .si .i64 (S.pol)
theorem VF:ai 86 (kh VE):=jN (ay PV 4 _) (by kernel_rfl) λS C d v a=>by
 obtain⟨b,e,c⟩:=a;subst b c;refine⟨[],λf g h=>h,λ_=>rfl,⟨λ_=>rfl,rfl⟩,?_⟩;show ax VD 4 _ _ _ _ _
 conv=>whnf
 exact nO _ rfl (VTo.mk5 rfl) VR.ez rfl rfl rfl
def VG:FuncId->EP:=bb 37 [(5,[(some 0,[0]),(some 0,[17]),(some 0,[18]),(some 0,[19]),(some 0,[0]),(some 0,[21]),(some 0,[22]),(some 0,[23]),(some 0,[0]),(some 0,[25]),(some 0,[26]),(some 0,[27]),(some 0,[24,28]),(some 0,[20,29]),(some 0,[30])])] evP
theorem PW:aU VG:=au az (by kernel_rfl) (by kernel_rfl)
def M6(S:Sr)(C:Ck5)(a:List AV)(v:AV):Prop:=a=[]/\128<=S.sz/\(0<=S.ret/\S.ret<=1099511627776)/\(-1<=S.mx/\S.mx<1099511627776)/\v= .si .i64 (db S)
theorem RO:ai 37 (kh M6):=jN (ay PW 4 _) (by kernel_rfl) λS C f v a=>by
 obtain⟨b,g,i,j,c⟩:=a;subst b c;refine⟨[],λk l h=>h,λ_=>rfl,⟨λ_=>rfl,rfl⟩,?_⟩;have d:IntKind.i64.wrap (S.mx-S.ret)=S.mx-S.ret:=al (by omega) (by omega);show ax VG 4 _ _ _ _ _
 conv=>whnf
 refine ae.c6 (λz=>absurd (show(0:Int)<(S.sz:Int) by omega) z) (λ_=>?_)
 conv=>whnf
 refine ae.dec (λz=>?_) (λz=>?_)
 focus
  have e:S.fl=db S:=(if_pos z).symm
  conv=>whnf
  exact nO _ rfl (VTo.mk5 (congrArg (AV.si .i64) e)) VR.ez rfl rfl rfl
 have e:max S.fl (IntKind.i64.wrap (S.mx-S.ret))=db S:=by rw[d];exact(if_neg z).symm
 conv=>whnf
 exact nO _ rfl (VTo.mk5 (congrArg (AV.si .i64) e)) VR.ez rfl rfl rfl
theorem JE{C:Ck5}{t:Int}{h:Nat}(a:h<C.length)(b:∀x∈ab (C.take h),x.1<t)(c:∀x∈ab (C.drop (h+1)),t<x.1):iD C[h].2 t=iD (ab C) t:=by
 have e:ab C=ab (C.take h)++(C[h].2++ab (C.drop (h+1))):=by
  rw[<-fb (C.take h) (C.drop (h+1)) C[h].1 C[h].2,eY a]
 unfold iD;rw[e,GU b c];by_cases q:has C[h].2 t=true
 ·rw[if_pos q,if_pos q];have d:plc C[h].2 t<C[h].2.length:=by unfold has at q;exact(of_decide_eq_true q).1
  rw[rI b c];unfold vAt;rw[Aq d]
 ·rw[if_neg q,if_neg q]
def Tm:DT:=[(5,[(some 1000000,[3,6]),(none,[0,1,2,3,4,5,6,7,8,9,10,11,12,13,14]),(none,[0,1,2,4,5,6,3,7,8,9,10,11,12,13,14])])]
def KGe:FuncId->EP:=bb 22 Tm (cf 63 (kh M5) (aq 64 Av evP))
theorem Tn:aU KGe:=au (aO (ag az S7) PS (Ff _)) (by kernel_rfl) (by kernel_rfl)
theorem wP{C:Ck5}(h:C=[]):ab C=[]:=by subst h;rfl
def VH(S:Sr)(C:Ck5)(a:List AV)(v:AV):Prop:=∃y t,a=[y]/\mk y= .si .i64 t/\Gt S C/\(ab C).length<=90000/\v= .tup [.si .i64 (iD (ab C) t).1,.si .i64 (iD (ab C) t).2]
theorem M7(S:Sr)(C:Ck5)(t:Int)(f:Gt S C)(V:(ab C).length<=90000):fv (ax KGe 5 22) [.ptr 0 0,.si .i64 t] (mkH (bH (ij S (pts C) C) 0)) 3 (RoP (λu=>u= .tup [.si .i64 (iD (ab C) t).1,.si .i64 (iD (ab C) t).2]) S (pts C) C):=by
 have F:=f.lo;have s:=f.few;have G:Okc S C:=f.okc (by omega);have H:(pts C).length=C.length:=an C;have mt:∀a b:Int,∀n v w,VR n (.tup [.si .i64 a,.si .i64 b]) w->VR v (.tup [.si .i64 a,.si .i64 b]) w:=λa b n v w h=>iO rfl h
 have A:∀{a b:AV} {x y:Int},mk a= .si .i64 x->mk b= .si .i64 y->VTo (.tup [a,b]) (.tup [.si .i64 x,.si .i64 y]):=λI J n w K=>by
  obtain⟨cs,rfl,o⟩:=K.eH;obtain⟨W,L,M,N,O⟩:=o.cons_inv;obtain⟨X,P,Q,R,T⟩:=O.cons_inv;exact .tup (by rw[M,Q];exact .cons (aV rfl (I▸N.mk)) (.cons (aV rfl (J▸R.mk)) T))
 obtain⟨h,p⟩:∃h,dN (cnt C) t=h:=⟨_,rfl⟩
 have d:C≠[]->h<C.length/\∀q:h<C.length,iD C[h].2 t=iD (ab C) t:=λk=>by
  have:=wG (D:=cnt C) t (λe=>k (List.map_eq_nil_iff.1 e));rw[cV,p]at this;refine⟨this,λq=>?_⟩;obtain⟨B,E⟩:=qE (t:=t) k f.gd.ne f.up;rw[p]at B E;exact JE q B E
 obtain⟨g,i⟩:∃g,iD (ab C) t=g:=⟨_,rfl⟩;rw[i]at d⊢;have U:C=[]->(0,5)=g:=λk=>by rw[<-i,wP k];rfl
 show ax KGe 5 _ _ _ _ _
 conv=>whnf
 refine ae.c6 (λz=>absurd (show(0:Int)<(S.sz:Int) by omega) z) (λ_=>?_)
 conv=>whnf
 refine ae.dec (λz=>?_) (λz=>?_)
 focus
  have m:C=[]:=by
   have z:((pts C).length:Int)=0:=z;exact Y5 (by omega)
  have e:=U m
  conv=>whnf
  exact nO _ rfl (A (congrArg (λq:Int×Int=>AV.si .i64 q.1) e) (congrArg (λq:Int×Int=>AV.si .i64 q.2) e)) (mt _ _) rfl rfl rfl
 have m:C≠[]:=λe=>z (by
  show((pts C).length:Int)=0;rw[e];rfl)
 have c:=(d m).1;have j:=(d m).2 c;have l:h<(pts C).length:=by omega
 have r:ct C[h].2:=f.dR _ (q0b c)
 conv=>whnf
 refine⟨?_,?_,trivial⟩
 all_goals
  conv=>whnf
  refine⟨0,1,2,S,C,_,rfl,⟨⟨by decide,by decide,by decide⟩,⟨by decide,by decide,by decide⟩,rfl,rfl,rfl⟩,⟨_,t,h,rfl,rfl,G,p,rfl⟩,?_⟩
  conv=>whnf
  refine Idx.mk h rfl l ?_
  conv=>whnf
  refine aw (dp c (show 0+h*1=h by omega)) ?_
  conv=>whnf
  refine⟨2,S.sz,C.take h,C.drop (h+1),C,C[h].1,C[h].2,t,rfl,rfl,jz c rfl (by decide) (by decide) rfl,by omega,r,jl c,?_⟩
  conv=>whnf
  exact nO _ rfl (A (congrArg (λq:Int×Int=>AV.si .i64 q.1) j) (congrArg (λq:Int×Int=>AV.si .i64 q.2) j)) (mt _ _) rfl rfl rfl
theorem To:ai 22 (kh VH):=jN (ay Tn 5 _) (by kernel_rfl) λS C f v ⟨y,t,a,b,c,d,e⟩=>by
 subst a e;exact⟨[.si .i64 t],λg h=>G5 b,λ_=>rfl,⟨λ_=>rfl,rfl⟩,M7 S C t c d⟩
def rM(L:Smp):AV:= .tup [.agg [.si .i64 (tAt L (L.length-1)),.si .i64 (vAt L (L.length-1))],.sb (decide ((0:Int)<(L.length:Int)))]
theorem JF{C:Ck5}(a:∀c∈C,c.2≠[])(h:0<C.length):FLv ((C[C.length-1]'(by omega)).2.length-1) (C[C.length-1]'(by omega)).2=rM (ab C):=by
 have b:0<(C[C.length-1]'(by omega)).2.length:=q3e.2 (a _ (q0b _))
 have e:ab C=ab (C.take (C.length-1))++(C[C.length-1]'(by omega)).2:=by
  have:=yT (C:=C) (i:=C.length-1) (by omega);rw[show C.length-1+1=C.length by omega,q0e]at this;exact this
 have k:=s7 (A:=ab (C.take (C.length-1))) (M:=(C[C.length-1]'(by omega)).2) ((C[C.length-1]'(by omega)).2.length-1);unfold FLv rM;rw[e,Z6,show(ab (C.take (C.length-1))).length+(C[C.length-1]'(by omega)).2.length-1=(ab (C.take (C.length-1))).length+((C[C.length-1]'(by omega)).2.length-1) by omega,k.1,k.2,decide_eq_true (show(0:Int)<((C[C.length-1]'(by omega)).2.length:Int) by omega),decide_eq_true (by omega)]
def PX:DT:=[(3,[(some 1000000,[]),(none,[0,1,2,3,4,5,6,7,8,9,10,11,12,13,14,15,16])])]
def Tp:FuncId->EP:=bb 18 PX (aq 60 (qC λL=>L.length-1) evP)
theorem PY:aU Tp:=au (ag az GW) (by kernel_rfl) (by kernel_rfl)
def VI(S:Sr)(C:Ck5)(a:List AV)(v:AV):Prop:=a=[]/\Gt S C/\(ab C).length<=90000/\v=rM (ab C)
theorem JG(L:Smp):∀φ ψ w,VR φ (rM L) w->VR ψ (rM L) w:=λφ ψ w h=>by
 obtain⟨cs,rfl,a⟩:=h.eH;obtain⟨k,b,c,d,e⟩:=a.cons_inv;obtain⟨l,f,g,i,j⟩:=e.cons_inv;have:=j.aQ;subst this;exact .tup (by rw[c,g];exact .cons (iO rfl d) (.cons (iO rfl i) .nil))
theorem JH(S:Sr)(C:Ck5)(i:Gt S C)(x:(ab C).length<=90000):fv (ax Tp 5 18) [.ptr 0 0] (mkH (bH (ij S (pts C) C) 0)) 3 (RoP (λu=>u=rM (ab C)) S (pts C) C):=by
 have q:=i.lo;have o:=i.few;have r:(pts C).length=C.length:=an C;have d:=JF i.all;obtain⟨f,c⟩:∃f,rM (ab C)=f:=⟨_,rfl⟩
 have s:C=[]->VTo (.tup [.agg [.int .i64 0,.int .i64 0],.bool false]) f:=λk=>by
  rw[<-c,wP k];exact VTo.MI rfl rfl rfl
 have b:∀p t w,VR p f w->VR t f w:=c▸JG _;rw[c]at d⊢;have v:0<C.length->IntKind.i64.wrap (((pts C).length:Int)-1)=((C.length-1:Nat):Int):=λ_=>by rw[al (by omega) (by omega)];omega
 show ax Tp 5 _ _ _ _ _
 conv=>whnf
 refine ae.c6 (λz=>absurd (show(0:Int)<(S.sz:Int) by omega) z) (λ_=>?_)
 conv=>whnf
 refine ae.dec (λz=>?_) (λz=>?_)
 focus
  have j:C=[]:=by
   have z:((pts C).length:Int)=0:=z;exact Y5 (by omega)
  have e:=s j
  conv=>whnf
  exact nO _ rfl e b rfl rfl rfl
 have j:0<C.length:=by
  have z:¬((pts C).length:Int)=0:=z;omega
 have a:C.length-1<C.length:=by omega
 have g:C.length-1<(pts C).length:=by omega
 have l:ct C[C.length-1].2:=i.dR _ (q0b a);have m:=v j;have n:=d j
 conv=>whnf
 refine⟨?_,trivial⟩
 conv=>whnf
 refine Idx.mk (C.length-1) m g ?_
 conv=>whnf
 refine aw (dp a (show 0+(C.length-1)*1=C.length-1 by omega)) ?_
 conv=>whnf
 refine⟨2,S.sz,C.take (C.length-1),C.drop (C.length-1+1),C,C[C.length-1].1,C[C.length-1].2,rfl,jz a rfl (by decide) (by decide) rfl,by omega,l,jl a,?_⟩
 conv=>whnf
 exact nO _ rfl (λp w h=>by rw[<-n];exact h) b rfl rfl rfl
theorem PZ:ai 18 (kh VI):=jN (ay PY 5 _) (by kernel_rfl) λS C e v ⟨a,b,c,d⟩=>by
 subst a d;exact⟨[],λf g h=>h,λ_=>rfl,⟨λ_=>rfl,rfl⟩,JH S C b c⟩
def AG(args:List AV)(H:AH)(n:Nat)(κ:PK):Prop:=match args with
 | [x,y,z]=>∃(r k q:Nat) (S:Sr) (C:Ck5) (t v p:Int),x= .ptr r 0/\nr y t v/\mk z= .si .i64 p/\eX H n r k q S (pts C) C/\Gd S C/\(ab C).length<=80000/\(0<=t/\t<1099511627776)/\aN v/\∀a e,E8 S C a t v p e->κ (.si .i64 e) (fX H n r k q S (pts a) a) (n+1)
 |_=>False
theorem Tq:ai 130 AG:=λargs H n T b U d V W K f a h=>by
 unfold AG at b;split at b
 ·obtain⟨X,i,j,l,m⟩:=a.cons_inv;obtain⟨Y,o,s,w,x⟩:=m.cons_inv;obtain⟨Z,y,z,A,B⟩:=x.cons_inv;obtain⟨r,k,q,S,C,t,v,p,rfl,D,E,F,G,I,J,L,b⟩:=b;refine gG (ay Tf 5 _) (by kernel_rfl) (MW S C t v p G I J L) (λ_=>rfl) f F (by rw[j,s,z];exact .cons l (.cons (D.open w _) (.cons (aV rfl (E▸A.mk)) B))) h (λu M N c ⟨e,g,_⟩=>by subst g;exact⟨λ_=>rfl,rfl⟩) λu M N c ⟨e,O,P,Q,R⟩=>?_
  subst O P Q;exact b c e R
 ·exact b.elim
def uM(args:List AV)(H:AH)(n:Nat)(κ:PK):Prop:=match args with
 | [x,y,z]=>∃(r k q:Nat) (S:Sr) (C:Ck5) (a b:Int),x= .ptr r 0/\mk y= .si .i64 a/\mk z= .si .i64 b/\eX H n r k q S (pts C) C/\oL S C/\C.length+ex5 C<=100000/\(ab C).length<=100000/\∀c,ab c=aJ (ab C) a b->Gt S c->Wh S.sz c.length c->κ (.si .i64 ((dlN a b C:Nat):Int)) (fX H n r k q S (pts c) c) (n+1)
 |_=>False
theorem M8:ai 100 uM:=λargs H n R d T i U V K j c l=>by
 unfold uM at d;split at d
 ·obtain⟨W,m,o,p,s⟩:=c.cons_inv;obtain⟨X,t,v,w,x⟩:=s.cons_inv;obtain⟨Y,y,z,A,B⟩:=x.cons_inv;obtain⟨r,k,q,S,C,a,b,rfl,D,E,F,e,G,f,d⟩:=d;refine gG (ay Tl 5 _) (by kernel_rfl) (PR S C a b e G f) (λ_=>rfl) j F (by rw[o,v,z];exact .cons p (.cons (aV rfl (D▸w.mk)) (.cons (aV rfl (E▸A.mk)) B))) l (λu I J h ⟨g,_⟩=>by subst g;exact⟨λ_=>rfl,rfl⟩) λu I J h ⟨L,M,N,O,P,Q⟩=>?_
  subst L M N;exact d h O P Q
 ·exact d.elim
structure mB(S:Sr):Prop where
 ret:0<=S.ret/\S.ret<=1099511627776
 pol:1<=S.pol/\S.pol<=6
 mx: -1<=S.mx/\S.mx<1099511627776
 fl:0<=S.fl/\S.fl<=1099511627776
theorem mB.line{S:Sr}(h:mB S):0<=db S/\db S<=1099511627776:=by
 have a:=h.ret;have b:=h.mx;have c:=h.fl;unfold db;split<;>omega
structure jO(S:Sr)(C:Ck5):Prop where
 gt:Gt S C
 wh:Wh S.sz C.length C
 num:mB S
 few:(ab C).length<=80000
theorem Gd.pf{S:Sr}{C:Ck5}(h:Gd S C):oL S C:=⟨h.lo,h.hi,h.up,h.dR⟩
theorem oL.fl{S:Sr}{C:Ck5}(h:oL S C)(a b c d:Int):oL {S with ret:=a,pol:=b,mx:=c,fl:=d} C:=⟨h.lo,h.hi,h.up,h.dR⟩
def M9(S:Sr)(L:Smp):Sr×Smp:=({S with fl:=db S},aJ L 0 (db S-1))
def TmP(a:Sr)(b:Ck5):AV->Sr->Ps->Ck5->Prop:=λu S V C=>u= .tup []/\V=pts C/\(S,ab C)=M9 a (ab b)/\Gt S C/\Wh S.sz C.length C
def Ts:FuncId->EP:=bb 131 [] (cf 37 (kh M6) (aq 100 uM evP))
theorem P0:aU Ts:=au (aO (ag az M8) RO (Ff _)) (by kernel_rfl) (by kernel_rfl)
theorem Na(S:Sr)(C:Ck5)(d:oL S C)(hn:mB S)(e:C.length+ex5 C<=100000)(a:(ab C).length<=100000):fv (ax Ts 5 131) [.ptr 0 0] (mkH (bH (ij S (pts C) C) 0)) 3 (SP (TmP S C)):=by
 have b:=d.lo;have f:=hn.line;have g:IntKind.i64.wrap (db S-1)=db S-1:=al (by omega) (by omega);have c:=d.fl S.ret S.pol S.mx (db S);show ax Ts 5 _ _ _ _ _
 conv=>whnf
 refine⟨0,1,2,S,C,_,rfl,⟨⟨by decide,by decide,by decide⟩,⟨by decide,by decide,by decide⟩,rfl,rfl,rfl⟩,⟨rfl,b,hn.ret,hn.mx,rfl⟩,?_⟩
 conv=>whnf
 refine⟨0,1,2,{S with fl:=db S},C,0,db S-1,rfl,rfl,congrArg (AV.si .i64) g,⟨⟨by decide,by decide,by decide⟩,⟨by decide,by decide,by decide⟩,rfl,rfl,rfl⟩,c,e,a,λl i j k=>?_⟩
 conv=>whnf
 exact fI (TmP S C) ⟨rfl,rfl,(by rw[i];rfl),j,k⟩ (VTo.mk5 rfl) (λm n w h=>iO rfl h) 3 ⟨by decide,by decide⟩ rfl rfl rfl rfl rfl rfl (ah.rw (Z0 rfl) rfl) rfl (aA _) rfl
def rN(args:List AV)(H:AH)(n:Nat)(κ:PK):Prop:=match args with
 | [x]=>∃(r k q:Nat) (S:Sr) (C:Ck5),x= .ptr r 0/\eX H n r k q S (pts C) C/\oL S C/\mB S/\C.length+ex5 C<=100000/\(ab C).length<=100000/\∀a,ab a=aJ (ab C) 0 (db S-1)->Gt {S with fl:=db S} a->Wh S.sz a.length a->κ (.tup []) (fX H n r k q {S with fl:=db S} (pts a) a) (n+1)
 |_=>False
theorem G6:ai 131 rN:=λargs H n B b D i E F K j a l=>by
 unfold rN at b;split at b
 ·obtain⟨G,m,I,J,L⟩:=a.cons_inv;obtain⟨r,k,q,S,C,rfl,o,c,p,s,d,b⟩:=b;refine gG (ay P0 5 _) (by kernel_rfl) (Na S C c p s d) (λ_=>rfl) j o a l (λu f t e ⟨g,_⟩=>by subst g;exact⟨λ_=>rfl,rfl⟩) λu f t e ⟨v,w,h,x,y⟩=>?_
  have z:f={S with fl:=db S}:=congrArg Prod.fst h;have A:ab e=aJ (ab C) 0 (db S-1):=congrArg Prod.snd h;subst v w z;exact b e A x y
 ·exact b.elim
def fc(S:Sr)(L:Smp)(t v p:Int):(Sr×Smp)×Int:=
 if t<0∨1099511627776<=t∨(p≠0/\¬(1<=p/\p<=6))then((S,L),1)
 else if t<db S then((S,L),7)
 else if(ew L t v (if p=0 then S.pol else p)).2=0 then(M9 {S with mx:=max S.mx t} (ew L t v (if p=0 then S.pol else p)).1,0)
 else((S,L),(ew L t v (if p=0 then S.pol else p)).2)
theorem mB.mxs{S:Sr}(h:mB S){t:Int}(a:0<=t/\t<1099511627776):mB {S with mx:=max S.mx t}:=⟨h.ret,h.pol,by have:=h.mx;show-1<=max S.mx t/\max S.mx t<1099511627776;omega,h.fl⟩
theorem mB.tr{S:Sr}(h:mB S):mB {S with fl:=db S}:=⟨h.ret,h.pol,h.mx,h.line⟩
def AdP(a:Sr)(b:Ck5)(t v p:Int):AV->Sr->Ps->Ck5->Prop:=λu S V C=>∃e:Int,u= .si .i64 e/\V=pts C/\((S,ab C),e)=fc a (ab b) t v p/\Gt S C/\Wh S.sz C.length C/\mB S
def Tt:DT:=[(5,[(some 0,[4]),(some 0,[31]),(some 0,[0]),(none,[33]),(some 0,[32,34]),(some 0,[35])]),
 (11,[(some 0,[0]),(some 0,[0]),(some 0,[50]),(some 0,[51]),(some 0,[52]),(some 0,[4]),(some 0,[54]),(some 0,[53,55]),(some 0,[49]),(some 0,[57]),(none,[58,56])])]
def Tu:FuncId->EP:=bb 72 Tt (cf 37 (kh M6) (aq 130 AG (aq 131 rN (aq 132 uL evP))))
theorem P5:aU Tu:=au (aO (ag (ag (ag az M0) G6) Tq) RO (Ff _)) (by kernel_rfl) (by kernel_rfl)
theorem Nb(S:Sr)(C:Ck5)(t v p:Int)(M:jO S C)(V:aN v)(hf:(ab C).length<=40000):fv (ax Tu 5 72) [.ptr 0 0,.agg [.si .i64 t,.si .i64 v],.si .i64 p] (mkH (bH (ij S (pts C) C) 0)) 3 (SP (AdP S C t v p)):=by
 have w:=M.gt;have i:=M.num;have x:=M.wh;have y:=w.lo;obtain⟨q,G⟩:∃q,(if p=0 then S.pol else p)=q:=⟨_,rfl⟩;have H:t<0∨1099511627776<=t∨(p≠0/\¬(1<=p/\p<=6))->AdP S C t v p (.si .i64 1) S (pts C) C:=λk=>⟨1,rfl,rfl,by unfold fc;rw[if_pos k],w,x,i⟩
 have W:¬(t<0∨1099511627776<=t∨(p≠0/\¬(1<=p/\p<=6)))->t<db S->AdP S C t v p (.si .i64 7) S (pts C) C:=λj I=>⟨7,rfl,rfl,by unfold fc;rw[if_neg j,if_pos I],w,x,i⟩
 have A:¬(t<0∨1099511627776<=t∨(p≠0/\¬(1<=p/\p<=6)))->¬t<db S->∀b e,E8 S C b t v q e->b.length<=100000/\b.length+ex5 b<=100000/\(ab b).length<=100000/\(e=0->∀l a,ab l=aJ (ab b) 0 (db {S with mx:=max S.mx t}-1)->ab a=ab l->Gt {S with mx:=max S.mx t,fl:=db {S with mx:=max S.mx t}} a->Wh S.sz a.length a->AdP S C t v p (.si .i64 e) {S with mx:=max S.mx t,fl:=db {S with mx:=max S.mx t}} (pts a) a)/\(e≠0->∀a,ab a=ab b->Gt S a->Wh S.sz a.length a->AdP S C t v p (.si .i64 e) S (pts a) a):=λj I b e J=>by
  have N:=(wK (ab C) t v q).1;rw[<-J.fl]at N;have X:=E7 J.gd.ne;have Y:=AD b;have d:=J.err;have B:=J.fl;refine⟨by omega,by omega,by omega,λK l a n f g h=>?_,λK a f g h=>?_⟩
  ·refine⟨e,rfl,rfl,?_,g,h,(i.mxs (t:=t) ⟨by omega,by omega⟩).tr⟩;unfold fc;rw[if_neg j,if_neg I,G,<-d,if_pos K,f,n,B,K];rfl
  ·refine⟨e,rfl,rfl,?_,g,h,i⟩;have D:(ew (ab C) t v q).2≠0:=by rw[<-d];exact K
   unfold fc;rw[if_neg j,if_neg I,G,if_neg D,f,B,CW D,<-d]
 show ax Tu 5 _ _ _ _ _
 conv=>whnf
 refine ae.c6 (λz=>absurd (show(0:Int)<(S.sz:Int) by omega) z) (λ_=>?_)
 conv=>whnf
 refine ae.dec (λL=>?_) (λL=>?_)
 focus
  have r:=H (.inl L)
  conv=>whnf
  exact fI (AdP S C t v p) r (VTo.mk5 rfl) VR.ez 1 ⟨by decide,by decide⟩ rfl rfl rfl rfl rfl rfl (ah.rw (Z0 rfl) rfl) rfl (aA _) rfl
 conv=>whnf
 refine ae.dec (λz2=>?_) (λz2=>?_)
 focus
  have r:=H (.inr (.inl z2))
  conv=>whnf
  exact fI (AdP S C t v p) r (VTo.mk5 rfl) VR.ez 1 ⟨by decide,by decide⟩ rfl rfl rfl rfl rfl rfl (ah.rw (Z0 rfl) rfl) rfl (aA _) rfl
 conv=>whnf
 refine ae.c6 (λm=>?_) (λm=>?_)
 focus
  conv=>whnf
  refine ae.dec (λO=>?_) (λO=>?_)
  focus
   conv=>whnf
   refine ae.c6 (λP=>?_) (λP=>?_)
   focus
    have r:=H (.inr (.inr ⟨m,λk=>P k.2⟩))
    conv=>whnf
    exact fI (AdP S C t v p) r (VTo.mk5 rfl) VR.ez 1 ⟨by decide,by decide⟩ rfl rfl rfl rfl rfl rfl (ah.rw (Z0 rfl) rfl) rfl (aA _) rfl
   have o:p=q:=by rw[<-G,if_neg m]
   have j:¬(t<0∨1099511627776<=t∨(p≠0/\¬(1<=p/\p<=6))):=λk=>by
    rcases k with k|k|k
    ·exact L k
    ·exact z2 k
    ·exact k.2 ⟨O,P⟩
   conv=>whnf
   refine⟨0,1,2,S,C,_,rfl,⟨⟨by decide,by decide,by decide⟩,⟨by decide,by decide,by decide⟩,rfl,rfl,rfl⟩,⟨rfl,y,i.ret,i.mx,rfl⟩,?_⟩
   conv=>whnf
   refine ae.dec (λs=>?_) (λs=>?_)
   focus
    have r:=W j s
    conv=>whnf
    exact fI (AdP S C t v p) r (VTo.mk5 rfl) VR.ez 1 ⟨by decide,by decide⟩ rfl rfl rfl rfl rfl rfl (ah.rw (Z0 rfl) rfl) rfl (aA _) rfl
   have E:0<=t/\t<1099511627776:=⟨by omega,by omega⟩;have okB:=A j s
   conv=>whnf
   refine ae.dec (λQ=>absurd Q m) (λ_=>?_)
   conv=>whnf
   refine⟨0,1,2,S,C,t,v,q,rfl,⟨_,_,rfl,rfl,rfl⟩,congrArg (AV.si .i64) o,⟨⟨by decide,by decide,by decide⟩,⟨by decide,by decide,by decide⟩,rfl,rfl,rfl⟩,w.gd,by omega,E,V,λb e c=>?_⟩;have ok:=okB b e c;have pf:=c.gd.pf;have R:=c.gd.pre
   conv=>whnf
   refine ae.dec (λu=>?_) (λu=>?_)
   focus
    conv=>whnf
    refine⟨0,4,2,{S with mx:=max S.mx t},b,rfl,⟨⟨by decide,by decide,by decide⟩,⟨by decide,by decide,by decide⟩,rfl,rfl,rfl⟩,pf.fl S.ret S.pol (max S.mx t) S.fl,i.mxs E,ok.2.1,ok.2.2.1,λl n F Z=>?_⟩;have T:=F.toPre5
    conv=>whnf
    refine⟨0,5,2,{S with mx:=max S.mx t,fl:=db {S with mx:=max S.mx t}},l,rfl,⟨⟨by decide,by decide,by decide⟩,⟨by decide,by decide,by decide⟩,rfl,rfl,rfl⟩,T,by have U:=wJ F.all;have h2:=ok.2.2.1;have h3:(aJ (ab b) 0 (db {S with mx:=max S.mx t}-1)).length<=(ab b).length:=q0y _ _;rw[n]at U;omega,λa f g h=>?_⟩;have r:=ok.2.2.2.1 u l a n f g h
    conv=>whnf
    exact fI (AdP S C t v p) r (VTo.mk5 rfl) VR.ez 6 ⟨by decide,by decide⟩ rfl rfl rfl rfl rfl rfl (ah.rw (Z0 rfl) rfl) rfl (aA _) rfl
   conv=>whnf
   refine⟨0,4,2,S,b,rfl,⟨⟨by decide,by decide,by decide⟩,⟨by decide,by decide,by decide⟩,rfl,rfl,rfl⟩,R,ok.1,λa f g h=>?_⟩;have r:=ok.2.2.2.2 u a f g h
   conv=>whnf
   exact fI (AdP S C t v p) r (VTo.mk5 rfl) VR.ez 5 ⟨by decide,by decide⟩ rfl rfl rfl rfl rfl rfl (ah.rw (Z0 rfl) rfl) rfl (aA _) rfl
  have r:=H (.inr (.inr ⟨m,λk=>O k.1⟩))
  conv=>whnf
  exact fI (AdP S C t v p) r (VTo.mk5 rfl) VR.ez 1 ⟨by decide,by decide⟩ rfl rfl rfl rfl rfl rfl (ah.rw (Z0 rfl) rfl) rfl (aA _) rfl
 have o:S.pol=q:=by rw[<-G,if_pos m]
 have j:¬(t<0∨1099511627776<=t∨(p≠0/\¬(1<=p/\p<=6))):=λk=>by
  rcases k with k|k|k
  ·exact L k
  ·exact z2 k
  ·exact k.1 m
 conv=>whnf
 refine⟨0,1,2,S,C,_,rfl,⟨⟨by decide,by decide,by decide⟩,⟨by decide,by decide,by decide⟩,rfl,rfl,rfl⟩,⟨rfl,y,i.ret,i.mx,rfl⟩,?_⟩
 conv=>whnf
 refine ae.dec (λs=>?_) (λs=>?_)
 focus
  have r:=W j s
  conv=>whnf
  exact fI (AdP S C t v p) r (VTo.mk5 rfl) VR.ez 1 ⟨by decide,by decide⟩ rfl rfl rfl rfl rfl rfl (ah.rw (Z0 rfl) rfl) rfl (aA _) rfl
 have E:0<=t/\t<1099511627776:=⟨by omega,by omega⟩;have okB:=A j s
 conv=>whnf
 refine ae.dec (λ_=>?_) (λQ=>absurd m Q)
 conv=>whnf
 refine⟨0,1,2,S,C,t,v,q,rfl,⟨_,_,rfl,rfl,rfl⟩,congrArg (AV.si .i64) o,⟨⟨by decide,by decide,by decide⟩,⟨by decide,by decide,by decide⟩,rfl,rfl,rfl⟩,w.gd,by omega,E,V,λb e c=>?_⟩;have ok:=okB b e c;have pf:=c.gd.pf;have R:=c.gd.pre
 conv=>whnf
 refine ae.dec (λu=>?_) (λu=>?_)
 focus
  conv=>whnf
  refine⟨0,4,2,{S with mx:=max S.mx t},b,rfl,⟨⟨by decide,by decide,by decide⟩,⟨by decide,by decide,by decide⟩,rfl,rfl,rfl⟩,pf.fl S.ret S.pol (max S.mx t) S.fl,i.mxs E,ok.2.1,ok.2.2.1,λl n F Z=>?_⟩;have T:=F.toPre5
  conv=>whnf
  refine⟨0,5,2,{S with mx:=max S.mx t,fl:=db {S with mx:=max S.mx t}},l,rfl,⟨⟨by decide,by decide,by decide⟩,⟨by decide,by decide,by decide⟩,rfl,rfl,rfl⟩,T,by have U:=wJ F.all;have h2:=ok.2.2.1;have h3:(aJ (ab b) 0 (db {S with mx:=max S.mx t}-1)).length<=(ab b).length:=q0y _ _;rw[n]at U;omega,λa f g h=>?_⟩;have r:=ok.2.2.2.1 u l a n f g h
  conv=>whnf
  exact fI (AdP S C t v p) r (VTo.mk5 rfl) VR.ez 6 ⟨by decide,by decide⟩ rfl rfl rfl rfl rfl rfl (ah.rw (Z0 rfl) rfl) rfl (aA _) rfl
 conv=>whnf
 refine⟨0,4,2,S,b,rfl,⟨⟨by decide,by decide,by decide⟩,⟨by decide,by decide,by decide⟩,rfl,rfl,rfl⟩,R,ok.1,λa f g h=>?_⟩;have r:=ok.2.2.2.2 u a f g h
 conv=>whnf
 exact fI (AdP S C t v p) r (VTo.mk5 rfl) VR.ez 5 ⟨by decide,by decide⟩ rfl rfl rfl rfl rfl rfl (ah.rw (Z0 rfl) rfl) rfl (aA _) rfl
def AI(args:List AV)(H:AH)(n:Nat)(κ:PK):Prop:=match args with
 | [x,y,z]=>∃(r k q:Nat) (S:Sr) (C:Ck5) (t v p:Int),x= .ptr r 0/\nr y t v/\mk z= .si .i64 p/\eX H n r k q S (pts C) C/\jO S C/\aN v/\(ab C).length<=40000/\∀a,ab a=(fc S (ab C) t v p).1.2->Gt (fc S (ab C) t v p).1.1 a->Wh (fc S (ab C) t v p).1.1.sz a.length a->mB (fc S (ab C) t v p).1.1->κ (.si .i64 (fc S (ab C) t v p).2) (fX H n r k q (fc S (ab C) t v p).1.1 (pts a) a) (n+1)
 |_=>False
theorem Tv:ai 72 AI:=λargs H n Y b Z m hp vs K o a s=>by
 unfold AI at b;split at b
 ·obtain⟨w1,w,y,z,A⟩:=a.cons_inv;obtain⟨w2,B,D,E,F⟩:=A.cons_inv;obtain⟨w3,G,I,J,L⟩:=F.cons_inv;obtain⟨r,k,q,S,C,t,v,p,rfl,M,N,O,P,Q,R,b⟩:=b;refine gG (ay P5 5 _) (by kernel_rfl) (Nb S C t v p P Q R) (λ_=>rfl) o O (by rw[y,D,I];exact .cons z (.cons (M.open E _) (.cons (aV rfl (N▸J.mk)) L))) s (λu f T c ⟨e,g,_⟩=>by subst g;exact⟨λ_=>rfl,rfl⟩) λu f T c ⟨e,U,V,d,h,i,j⟩=>?_
  have l:f=(fc S (ab C) t v p).1.1:=congrArg (λx=>x.1.1) d;have W:ab c=(fc S (ab C) t v p).1.2:=congrArg (λx=>x.1.2) d;have X:e=(fc S (ab C) t v p).2:=congrArg (λx=>x.2) d;subst U V X;rw[l]at h i j;rw[l];exact b c W h i j
 ·exact b.elim
def jP(S:Sr)(L:Smp)(ret p:Int):(Sr×Smp)×Int:=if(0<=ret/\ret<=1099511627776)/\1<=p/\p<=6 then(M9 {S with ret:=ret,pol:=p} L,0)else((S,L),1)
def AlP(a:Sr)(b:Ck5)(ret p:Int):AV->Sr->Ps->Ck5->Prop:=λu S V C=>∃e:Int,u= .si .i64 e/\V=pts C/\((S,ab C),e)=jP a (ab b) ret p/\Gt S C/\Wh S.sz C.length C/\mB S
def Tw:FuncId->EP:=bb 108 [] (aq 131 rN evP)
theorem P6:aU Tw:=au (ag az G6) (by kernel_rfl) (by kernel_rfl)
theorem Fg(S:Sr)(C:Ck5)(ret p:Int)(e:jO S C)(s:(ab C).length<=40000):fv (ax Tw 5 108) [.ptr 0 0,.si .i64 ret,.si .i64 p] (mkH (bH (ij S (pts C) C) 0)) 3 (SP (AlP S C ret p)):=by
 have c:=e.gt;have f:=e.num;have g:=e.wh;have q:=c.lo;have t:=c.few;have u:=AD C;have pf:=c.gd.pf;have d:¬((0<=ret/\ret<=1099511627776)/\1<=p/\p<=6)->AlP S C ret p (.si .i64 1) S (pts C) C:=λk=>⟨1,rfl,rfl,by unfold jP;rw[if_neg k],c,g,f⟩
 have h:((0<=ret/\ret<=1099511627776)/\1<=p/\p<=6)->mB {S with ret:=ret,pol:=p}/\∀a,ab a=aJ (ab C) 0 (db {S with ret:=ret,pol:=p}-1)->Gt {S with ret:=ret,pol:=p,fl:=db {S with ret:=ret,pol:=p}} a->Wh S.sz a.length a->AlP S C ret p (.si .i64 0) {S with ret:=ret,pol:=p,fl:=db {S with ret:=ret,pol:=p}} (pts a) a:=λk=>by
  have b:mB {S with ret:=ret,pol:=p}:=⟨k.1,k.2,f.mx,f.fl⟩;refine⟨b,λa i j l=>⟨0,rfl,rfl,?_,j,l,b.tr⟩⟩;unfold jP;rw[if_pos k,i];rfl
 show ax Tw 5 _ _ _ _ _
 conv=>whnf
 refine ae.c6 (λz=>absurd (show(0:Int)<(S.sz:Int) by omega) z) (λ_=>?_)
 conv=>whnf
 refine ae.dec (λm=>?_) (λm=>?_)
 focus
  conv=>whnf
  refine ae.dec (λz2=>?_) (λz2=>?_)
  focus
   conv=>whnf
   refine ae.dec (λn=>?_) (λn=>?_)
   focus
    conv=>whnf
    refine ae.c6 (λo=>?_) (λo=>?_)
    focus
     have r:=d (λk=>o k.2.2)
     conv=>whnf
     exact fI (AlP S C ret p) r (VTo.mk5 rfl) VR.ez 1 ⟨by decide,by decide⟩ rfl rfl rfl rfl rfl rfl (ah.rw (Z0 rfl) rfl) rfl (aA _) rfl
    have ok:=h ⟨⟨m,z2⟩,n,o⟩
    conv=>whnf
    refine⟨0,1,2,{S with ret:=ret,pol:=p},C,rfl,⟨⟨by decide,by decide,by decide⟩,⟨by decide,by decide,by decide⟩,rfl,rfl,rfl⟩,pf.fl ret p S.mx S.fl,ok.1,by omega,by omega,λa i j l=>?_⟩;have r:=ok.2 a i j l
    conv=>whnf
    exact fI (AlP S C ret p) r (VTo.mk5 rfl) VR.ez 3 ⟨by decide,by decide⟩ rfl rfl rfl rfl rfl rfl (ah.rw (Z0 rfl) rfl) rfl (aA _) rfl
   have r:=d (λk=>n k.2.1)
   conv=>whnf
   exact fI (AlP S C ret p) r (VTo.mk5 rfl) VR.ez 1 ⟨by decide,by decide⟩ rfl rfl rfl rfl rfl rfl (ah.rw (Z0 rfl) rfl) rfl (aA _) rfl
  have r:=d (λk=>z2 k.1.2)
  conv=>whnf
  exact fI (AlP S C ret p) r (VTo.mk5 rfl) VR.ez 1 ⟨by decide,by decide⟩ rfl rfl rfl rfl rfl rfl (ah.rw (Z0 rfl) rfl) rfl (aA _) rfl
 have r:=d (λk=>m k.1.1)
 conv=>whnf
 exact fI (AlP S C ret p) r (VTo.mk5 rfl) VR.ez 1 ⟨by decide,by decide⟩ rfl rfl rfl rfl rfl rfl (ah.rw (Z0 rfl) rfl) rfl (aA _) rfl
def AJ(args:List AV)(H:AH)(n:Nat)(κ:PK):Prop:=match args with
 | [x,y,z]=>∃(r k q:Nat) (S:Sr) (C:Ck5) (ret p:Int),x= .ptr r 0/\mk y= .si .i64 ret/\mk z= .si .i64 p/\eX H n r k q S (pts C) C/\jO S C/\(ab C).length<=40000/\∀a,ab a=(jP S (ab C) ret p).1.2->Gt (jP S (ab C) ret p).1.1 a->Wh (jP S (ab C) ret p).1.1.sz a.length a->mB (jP S (ab C) ret p).1.1->κ (.si .i64 (jP S (ab C) ret p).2) (fX H n r k q (jP S (ab C) ret p).1.1 (pts a) a) (n+1)
 |_=>False
theorem Ty:ai 108 AJ:=λargs H n V b W m X Y K o a s=>by
 unfold AJ at b;split at b
 ·obtain⟨Z,t,v,w,y⟩:=a.cons_inv;obtain⟨w2,z,A,B,D⟩:=y.cons_inv;obtain⟨w3,E,F,G,I⟩:=D.cons_inv;obtain⟨r,k,q,S,C,ret,p,rfl,J,L,M,N,O,b⟩:=b;refine gG (ay P6 5 _) (by kernel_rfl) (Fg S C ret p N O) (λ_=>rfl) o M (by rw[v,A,F];exact .cons w (.cons (aV rfl (J▸B.mk)) (.cons (aV rfl (L▸G.mk)) I))) s (λu f P c ⟨e,g,_⟩=>by subst g;exact⟨λ_=>rfl,rfl⟩) λu f P c ⟨e,Q,R,d,h,i,j⟩=>?_
  have l:f=(jP S (ab C) ret p).1.1:=congrArg (λx=>x.1.1) d;have T:ab c=(jP S (ab C) ret p).1.2:=congrArg (λx=>x.1.2) d;have U:e=(jP S (ab C) ret p).2:=congrArg (λx=>x.2) d;subst Q R U;rw[l]at h i j;rw[l];exact b c T h i j
 ·exact b.elim
def pK(sz ret p:Int):Option Sr:=if(128<=sz/\sz<=4096)/\(0<=ret/\ret<=1099511627776)/\1<=p/\p<=6 then some ⟨sz.toNat,ret,p,-1,0⟩else none
def wQ (H:AH) (n:Nat) (S:Sr):AH:=((H.set (some (.cells (c8 S (n+1) 0) true)) aa n).set (some (.cells [] true)) aa (n+1)).set (some (dG S [])) aa (n+2)
def AK(args:List AV)(H:AH)(n:Nat)(κ:PK):Prop:=match args with
 | [x,y,z]=>∃(sz ret p:Int),mk x= .si .i64 sz/\mk y= .si .i64 ret/\mk z= .si .i64 p/\n<900000/\(pK sz ret p=none->κ (.tup [.nil,.int .i64 1]) H n)/\∀S,pK sz ret p=some S->κ (.tup [.ptr n 0,.int .i64 0]) (wQ H n S) (n+3)
 |_=>False
def VJ:FuncId->EP:=bb 104 [] evP
theorem P7:aU VJ:=au az (by kernel_rfl) (by kernel_rfl)
def NwQ(sz ret p:Int):PK:=λu a b=>(pK sz ret p=none/\u= .tup [.nil,.int .i64 1]/\a=mkH []/\b=0)∨∃S,pK sz ret p=some S/\u= .tup [.ptr 0 0,.int .i64 0]/\a=mkH [(0,.cells [.si .i64 sz,.si .i64 ret,.si .i64 p,.int .i64 (-1),.int .i64 0,.nsl] true)]/\b=1
theorem Nc(sz ret p:Int):ax VJ 5 104 [.si .i64 sz,.si .i64 ret,.si .i64 p] (mkH (bH [] 0)) 0 (NwQ sz ret p):=by
 have a:¬((128<=sz/\sz<=4096)/\(0<=ret/\ret<=1099511627776)/\1<=p/\p<=6)->NwQ sz ret p (.tup [.nil,.int .i64 1]) (mkH []) 0:=λk=> .inl ⟨if_neg k,rfl,rfl,rfl⟩
 have f:((128<=sz/\sz<=4096)/\(0<=ret/\ret<=1099511627776)/\1<=p/\p<=6)->NwQ sz ret p (.tup [.ptr 0 0,.int .i64 0]) (mkH [(0,.cells [.si .i64 sz,.si .i64 ret,.si .i64 p,.int .i64 (-1),.int .i64 0,.nsl] true)]) 1:=λk=> .inr ⟨_,if_pos k,rfl,rfl,rfl⟩
 conv=>whnf
 refine ae.dec (λg=>?_) (λg=>?_)
 focus
  have r:=a (λk=>absurd k.1.1 (by omega))
  conv=>whnf
  exact r
 conv=>whnf
 refine ae.dec (λz2=>?_) (λz2=>?_)
 focus
  have r:=a (λk=>absurd k.1.2 (by omega))
  conv=>whnf
  exact r
 conv=>whnf
 refine ae.dec (λb=>?_) (λb=>?_)
 focus
  conv=>whnf
  refine ae.dec (λc=>?_) (λc=>?_)
  focus
   conv=>whnf
   refine ae.dec (λd=>?_) (λd=>?_)
   focus
    conv=>whnf
    refine ae.c6 (λe=>?_) (λe=>?_)
    focus
     have r:=a (λk=>e k.2.2.2)
     conv=>whnf
     exact r
    have r:=f ⟨⟨by omega,by omega⟩,⟨b,c⟩,d,e⟩
    conv=>whnf
    exact r
   have r:=a (λk=>d k.2.2.1)
   conv=>whnf
   exact r
  have r:=a (λk=>c k.2.1.2)
  conv=>whnf
  exact r
 have r:=a (λk=>b k.2.1.1)
 conv=>whnf
 exact r
theorem Dd{A B:AH}{v:Option AO}{n:Nat}(hn:n<1000000)(h:∀x o,A.get x=some o->B.get x=some o):∀x o,(PM.set v aa A n).get x=some o->(PM.set v aa B n).get x=some o:=λx o b=>by
 rcases PM.ak aa A n x o b with⟨rfl,a⟩|⟨c,a⟩
 ·rw[PM.geq hn];exact a
 ·exact PM.gne hn c (h x o a)
theorem Tz:ai 104 AK:=λargs H n J q φ L hp vs K M e D=>by
 unfold AK at q;split at q
 ·obtain⟨w1,N,P,Q,R⟩:=e.cons_inv;obtain⟨w2,T,U,V,W⟩:=R.cons_inv;obtain⟨w3,X,Y,Z,r3⟩:=W.cons_inv;obtain⟨sz,ret,p,d,hy,hz,hn,hs0,w⟩:=q;refine dj (S:=[]) (O:=[]) (args0:=[.si .i64 sz,.si .i64 ret,.si .i64 p]) (κ:=λv z A=>(pK sz ret p=none/\v= .tup [.nil,.int .i64 1]/\z=H/\A=n)∨∃S,pK sz ret p=some S/\v= .tup [.ptr n 0,.int .i64 0]/\z=H.set (some (.cells [.si .i64 sz,.si .i64 ret,.si .i64 p,.int .i64 (-1),.int .i64 0,.nsl] true)) aa n/\A=n+1) (ay P7 5 _) (by kernel_rfl) M ⟨q4h,rfl,λi s o l r=>by simp at l⟩ (by rw[P,U,Y];exact .cons (aV rfl (d▸Q.mk)) (.cons (aV rfl (hy▸V.mk)) (.cons (aV rfl (hz▸Z.mk)) r3))) ?_ (Nc sz ret p) λu H' n' B=>?_
  ·intro χ v z A u g m E F B;rcases B with⟨a,f,h,j⟩|⟨S,a,f,h,j⟩
   ·subst f h j;exact D χ _ _ _ u g m E F (hs0 a)
   ·subst f h j
    have hS:(sz=(S.sz:Int)/\ret=S.ret/\p=S.pol)/\S.mx= -1/\S.fl=0:=by
     unfold pK at a;split at a
     ·rename_i k;injection a with a;subst a;exact⟨⟨by show sz=((sz.toNat:Nat):Int);omega,rfl,rfl⟩,rfl,rfl⟩
     ·cases a
    have hb:=PM.geq (v:=some (AO.cells [AV.si .i64 sz,.si .i64 ret,.si .i64 p,.int .i64 (-1),.int .i64 0,.nsl] true)) (t:=H) (n:=n) (by omega);obtain⟨⟨t1,t2,t3⟩,t4,t5⟩:=hS
    have l:=E.L1 (l':=c8 S (n+1) 0) hb rfl λi a' b=>by
     match i with
     |0=>simp[c8]at b;subst b;exact⟨_,rfl,λv c=>t1▸c⟩
     |1=>simp[c8]at b;subst b;exact⟨_,rfl,λv c=>t2▸c⟩
     |2=>simp[c8]at b;subst b;exact⟨_,rfl,λv c=>t3▸c⟩
     |3=>simp[c8]at b;subst b;exact⟨_,rfl,λv c=>t4▸c.mk⟩
     |4=>simp[c8]at b;subst b;exact⟨_,rfl,λv c=>t5▸c.mk⟩
     |5=>simp[c8]at b;subst b;exact⟨_,rfl,λv c=>by rw[c.cZ];exact .rwn⟩
     |i+6=>simp[c8]at b
    obtain⟨ψ,G,C⟩:=(l.zZ (o:= .cells [] true) rfl).Va
    have I:=C.less (H:=wQ H n S) λx o d=>Dd (by omega) (Dd (by omega) λx o d=>by
     rcases PM.ak aa H n x o d with⟨rfl,r⟩|⟨l,r⟩
     ·rw[PM.geq (by omega)];exact r
     ·exact PM.gne (by omega) l (PM.gne (by omega) l r)) x o d
    exact D ψ _ _ _ u g (m.trans G) I (VR.mono G _ _ F) (w S a)
  ·rcases B with⟨a,f,h,j⟩|⟨S,a,f,h,j⟩
   ·subst f h j;exact⟨0,H,Z3 _,fu.same λi s o C I _=>by simp at C,rfl,.inl ⟨a,rfl,rfl,rfl⟩⟩
   ·subst f h j;refine⟨1,ke [] n H [(0,some (.cells [.si .i64 sz,.si .i64 ret,.si .i64 p,.int .i64 (-1),.int .i64 0,.nsl] true))],X5 _,fu.put (X5 _) rfl (λx d o ho=>?_),rfl,.inr ⟨S,a,rfl,rfl,rfl⟩⟩;simp only[Z4,Z5,or_false]at d;subst d;injection ho with ho;subst ho;exact⟨rfl,rfl,rfl⟩
 ·exact q.elim
end Go.Proofs.YtflehenfikoniaaGreat
namespace Go.Proofs.YtflehenfikoniaaGreat
open Go Go.RowKit
section
variable {φ:Ph} {H:AH} {n:Nat} {h0 h g hb h1:Hp} {b:Nat} {S S':Nat->Prop} {Q Q':HP} {σ:AE} {ρ:Env}
theorem HR.pK(d:HR φ H n h0 h)(O:Q.P φ.z S h)(K:∀B,S B->(B<h.n/\h0.f B=none)/\(∀p o' L,H.get p=some o'->o'.own=true->φ p=some L->L.B≠B)/\(∀q,φ.z q->q.B≠B)/\∀p Q',H.get p=some (.sep Q')->¬φ.s p B):
 PLe φ ⟨φ.f,φ.z,φ.y,λx=>if x=n then S else φ.s x⟩/\HR ⟨φ.f,φ.z,φ.y,λx=>if x=n then S else φ.s x⟩ (H.set (some (.sep Q)) aa n) (n+1) h0 h:=by
 have cs:∀x o,(H.set (some (.sep Q)) aa n).get x=some o->(x=n/\o= .sep Q)∨(x≠n/\H.get x=some o):=λx o c=>by
  rcases PM.ak aa H n x o c with⟨h1,j⟩|j
  ·injection j with j;exact .inl ⟨h1,j.symm⟩
  ·exact .inr j
 have r:φ n=none:=by
  cases e:φ n with
  |none=>rfl
  |some q=>exact absurd (d.dom n q e).1 (q3a _)
 let i:Ph:=⟨φ.f,φ.z,φ.y,λx=>if x=n then S else φ.s x⟩
 have own:∀x o q,(H.set (some (.sep Q)) aa n).get x=some o->φ x=some q->H.get x=some o:=λx o q c a=>by
  rcases cs x o c with⟨rfl,_⟩|⟨_,R⟩
  ·rw[r]at a;cases a
  ·exact R
 have sle:SLe φ i:=⟨λ_ _ h=>h,λ_ h=>h⟩;refine⟨⟨λ_ _ h=>h,λ_ h=>h,λ_ h=>h⟩,⟨λx q c=>⟨by have:=(d.dom x q c).1;omega,(d.dom x q c).2⟩,λx o c=>?_,λx y o o' q M c k ho C a t e=>d.inj x y o o' q M (own x o q c a) (own y o' M k t) ho C a t e,d.base,d.size,λq a=>⟨⟨FzR.mono (φ:=φ) (ψ:=i) sle.z (d.frz q a).1.1,(d.frz q a).1.2⟩,λx o px c ho u=>(d.frz q a).2 x o px (own x o px c u) ho u⟩,λx w c=>?_⟩⟩
 ·rcases cs x o c with⟨rfl,rfl⟩|⟨_,A⟩
  ·exact .inl ⟨r,rfl⟩
  ·rcases d.live x o A with g|⟨q,T,D,E,F,G⟩
   ·exact .inl g
   ·exact .inr ⟨q,T,D,E,F,G.cY sle⟩
 ·rcases cs x _ c with⟨rfl,j⟩|⟨h1,A⟩
  ·injection j with j;subst j;have es:i.s x=S:=if_pos rfl
   show w.P φ.z (i.s x) h/\_;rw[es];refine⟨O,λB U=>?_⟩;obtain⟨V,W,Y,Z⟩:=K B U;refine⟨V,λy o q k ho a=>W y o q (own y o q k a) ho a,Y,λy I k l m=>?_⟩;rcases cs y _ k with⟨v,_⟩|⟨v,J⟩
   ·exact l v
   ·have:i.s y=φ.s y:=if_neg v;rw[this]at m;exact Z y I J m
  ·obtain⟨g0,g⟩:=d.sep x w A;have es:i.s x=φ.s x:=if_neg h1;show w.P φ.z (i.s x) h/\_;rw[es];refine⟨g0,λX N=>?_⟩;obtain⟨D,E,F,G⟩:=g X N;refine⟨D,λy o q k ho a=>E y o q (own y o q k a) ho a,F,λy I k l m=>?_⟩;rcases cs y _ k with⟨rfl,_⟩|⟨v,J⟩
   ·have:i.s y=S:=if_pos rfl
    rw[this]at m;exact(K X m).2.2.2 x w A N
   ·have:i.s y=φ.s y:=if_neg v;rw[this]at m;exact G y I J l m
theorem HR.RP(d:HR φ H n h0 h)(F:H.get b=some (.sep Q))(hw:Wf h)(hn:h.n<=g.n)(R:∀B o,h.f B=some o->¬φ.s b B->g.f B=some o)(Z:∀B,S' B->B<g.n/\(φ.s b B∨h.f B=none))(hQ:Q'.P φ.z S' g):
 HR ⟨φ.f,φ.z,φ.y,λx=>if x=b then S' else φ.s x⟩ (H.set (some (.sep Q')) aa b) n h0 g:=by
 have cs:∀x o,(H.set (some (.sep Q')) aa b).get x=some o->(x=b/\o= .sep Q')∨(x≠b/\H.get x=some o):=λx o j=>by
  rcases PM.ak aa H b x o j with⟨h1,p⟩|p
  ·injection p with p;exact .inl ⟨h1,p.symm⟩
  ·exact .inr p
 have G:=d.nu F;have i:=(d.sep b Q F).2
 let m:Ph:=⟨φ.f,φ.z,φ.y,λx=>if x=b then S' else φ.s x⟩
 have own:∀x o q,(H.set (some (.sep Q')) aa b).get x=some o->φ x=some q->H.get x=some o:=λx o q j a=>by
  rcases cs x o j with⟨rfl,_⟩|⟨_,h3⟩
  ·rw[G]at a;cases a
  ·exact h3
 have sle:SLe φ m:=⟨λ_ _ h=>h,λ_ h=>h⟩;have I:∀B o,h0.f B=some o->g.f B=some o:=λB o e=>R B o (d.base B o e).2 λq=>by rw[(i B q).1.2]at e;cases e
 refine⟨λx q j=>⟨(d.dom x q j).1,q0t (d.dom x q j).2 hn⟩,λx o j=>?_,λx y o o' q T j r ho W a J e=>d.inj x y o o' q T (own x o q j a) (own y o' T r J) ho W a J e,λB o e=>⟨q0t (d.base B o e).1 hn,I B o e⟩,X9 d.size hn,λq a=>⟨⟨FzR.mono (φ:=φ) (ψ:=m) sle.z ?_,(d.frz q a).1.2⟩,λx o px j ho K=>(d.frz q a).2 x o px (own x o px j K) ho K⟩,λx w j=>?_⟩
 ·rcases cs x o j with⟨rfl,rfl⟩|⟨_,L⟩
  ·exact .inl ⟨G,rfl⟩
  ·rcases d.live x o L with C|⟨q,M,C,g2,g3,g4⟩
   ·exact .inl C
   ·refine .inr ⟨q,M,C,g2,?_,g4.cY sle⟩;cases ho:o.own with
    |true=>exact R q.B M g3 λk=>(i q.B k).2.1 x o q L ho C rfl
    |false=>
     cases o with
     |ro l=>exact I q.B M g2
     |_=>cases ho
 ·obtain⟨k0,c,t,fz,D,N⟩:=(d.frz q a).1.1;exact⟨⟨q0t k0.1 hn,k0.2⟩,c,t,fz,R q.B _ D λk=>(i q.B k).2.2.1 q a rfl,N⟩
 ·rcases cs x _ j with⟨rfl,p⟩|⟨h1,L⟩
  ·injection p with p;subst p;have es:m.s x=S':=if_pos rfl
   show w.P φ.z (m.s x) g/\_;rw[es];refine⟨hQ,λB hB=>?_⟩;obtain⟨D,N⟩:=Z B hB;have no:∀o,h.f B=some o->φ.s x B:=λo e=>N.elim id λk=>by rw[k]at e;cases e
   refine⟨⟨D,?_⟩,λy o q r ho a e=>?_,λq a e=>?_,λy O r A u=>?_⟩
   ·cases e:h0.f B with
    |none=>rfl
    |some o=>rw[(i B (no o (d.base B o e).2)).1.2]at e;cases e
   ·have h5:=own y o q r a;rcases d.live y o h5 with⟨k,_⟩|⟨T,M,U,l2,l3,_⟩
    ·rw[k]at a;cases a
    ·rw[U]at a;injection a with a;subst a;exact(i B (no M (e▸l3))).2.1 y o T h5 ho U e
   ·obtain⟨k0,c,t,fz,U,_⟩:=(d.frz q a).1.1;exact(i B (no _ (e▸U))).2.2.1 q a e
   ·rcases cs y _ r with⟨E,_⟩|⟨E,V⟩
    ·exact A E
    ·have:m.s y=φ.s y:=if_neg E;rw[this]at u;obtain⟨o,ho⟩:=O.ex _ _ _ B (d.sep y O V).1 u;exact(i B (no o ho)).2.2.2 y O V E u
  ·obtain⟨Y,C⟩:=d.sep x w L;have es:m.s x=φ.s x:=if_neg h1;show w.P φ.z (m.s x) g/\_;rw[es];have nb:∀X,φ.s x X->¬φ.s b X:=λX v k=>(i X k).2.2.2 x w L h1 v
   refine⟨w.loc _ _ h _ hn (λX v=>?_) Y,λX v=>?_⟩
   ·obtain⟨o,ho⟩:=w.ex _ _ _ X Y v;rw[R X o ho (nb X v),ho]
   obtain⟨D,N,k3,k4⟩:=C X v;refine⟨⟨q0t D.1 hn,D.2⟩,λy o q r ho a=>N y o q (own y o q r a) ho a,k3,λy O r A u=>?_⟩;rcases cs y _ r with⟨rfl,_⟩|⟨E,V⟩
   ·have:m.s y=S':=if_pos rfl
    rw[this]at u;obtain⟨o,ho⟩:=w.ex _ _ _ X Y v;rcases(Z X u).2 with k|k
    ·exact nb X v k
    ·rw[k]at ho;cases ho
   ·have:m.s y=φ.s y:=if_neg E;rw[this]at u;exact k4 y O V A u
theorem HR.TA(l:HR φ H n h0 h){p:Pl}{o:AO}{ob:Obj}(ho:o.own=true)(C:o.IN=none)(M:p.B<h.n/\h0.f p.B=none)(W:h.f p.B=some ob)(G:OR φ p o ob)(h1:∀D o' N,H.get D=some o'->o'.own=true->φ D=some N->N.B≠p.B)(Y:∀q,φ.z q->q.B≠p.B)(Z:∀D Q',H.get D=some (.sep Q')->¬φ.s D p.B):
 ∃ψ:Ph,PLe φ ψ/\ψ n=some p/\HR ψ (H.set (some o) aa n) (n+1) h0 h:=by
 have I:φ n=none:=by
  cases e:φ n with
  |none=>rfl
  |some q=>exact absurd (l.dom n q e).1 (q3a _)
 let ψ:Ph:=⟨λx=>if x=n then some p else φ x,φ.z,φ.y,φ.s⟩
 have u:ψ n=some p:=if_pos rfl
 have ne:∀x,x≠n->ψ x=φ x:=λx e=>if_neg e
 have le:PLe φ ψ:=⟨λx q e=>(ne x λk=>by subst k;rw[I]at e;cases e).trans e,λ_ h=>h,λ_ h=>h⟩
 have cs:∀x o',(H.set (some o) aa n).get x=some o'->(x=n/\o'=o)∨(x≠n/\H.get x=some o'):=λx o' a=>by
  rcases PM.ak aa H n x o' a with⟨r,c⟩|c
  ·injection c with c;exact .inl ⟨r,c.symm⟩
  ·exact .inr c
 refine⟨ψ,le,u,⟨λx q a=>?_,λx o' a=>?_,λx y J E O P a A R T v t e=>?_,l.base,l.size,λq F=>⟨⟨FzR.mono (φ:=φ) (ψ:=ψ) (λ_ h=>h) (l.frz q F).1.1,(l.frz q F).1.2⟩,λx o' px a w d=>?_⟩,λx U a=>?_⟩⟩
 ·by_cases e:x=n
  ·subst e;rw[u]at a;injection a with a;subst a;exact⟨q1f _,M.1⟩
  ·rw[ne x e]at a;exact⟨Nat.lt_succ_of_lt (l.dom x q a).1,(l.dom x q a).2⟩
 ·rcases cs x o' a with⟨rfl,rfl⟩|⟨r,c⟩
  ·exact .inr ⟨p,ob,u,by rw[AO.bC ho];exact M.2,W,G.mono le⟩
  ·rcases l.live x o' c with⟨m,i⟩|⟨q,K,m,i,k5,k6⟩
   ·exact .inl ⟨(ne x r).trans m,i⟩
   ·exact .inr ⟨q,K,(ne x r).trans m,i,k5,k6.mono le⟩
 ·rcases cs x J a with⟨rfl,rfl⟩|⟨r,c⟩
  ·rcases cs y E A with⟨rfl,_⟩|⟨m,i⟩
   ·rfl
   ·rw[u]at v;injection v with v;subst v;rw[ne y m]at t;exact(h1 y E P i T t e.symm).elim
  ·rw[ne x r]at v;rcases cs y E A with⟨rfl,rfl⟩|⟨m,i⟩
   ·rw[u]at t;injection t with t;subst t;exact(h1 x J O c R v e).elim
   ·rw[ne y m]at t;exact l.inj x y J E O P c i R T v t e
 ·rcases cs x o' a with⟨rfl,rfl⟩|⟨r,c⟩
  ·rw[u]at d;injection d with d;subst d;exact λe=>Y q F e.symm
  ·rw[ne x r]at d;exact(l.frz q F).2 x o' px c w d
 ·rcases cs x _ a with⟨rfl,c⟩|⟨r,c⟩
  ·subst c;cases C
  ·obtain⟨g0,g1⟩:=l.sep x U c;refine⟨g0,λX V=>?_⟩;obtain⟨l1,l2,l3,l4⟩:=g1 X V;refine⟨l1,λy o' q A w j=>?_,l3,λy Q4 A L hs=>?_⟩
   ·rcases cs y o' A with⟨rfl,rfl⟩|⟨m,i⟩
    ·rw[u]at j;injection j with j;subst j;exact λe=>Z x U c (by rw[e];exact V)
    ·rw[ne y m]at j;exact l2 y o' q i w j
   ·rcases cs y _ A with⟨rfl,i⟩|⟨m,i⟩
    ·subst i;cases C
    ·exact l4 y Q4 i L hs
open Classical in
def oN (S:Nat->Prop) (hb h:Hp):Hp:=⟨λB=>if S B/\hb.f B=none then none else h.f B,h.n⟩
open Classical in
def inS (S:Nat->Prop) (h:Hp):Hp:=⟨λB=>if S B then h.f B else none,h.n⟩
def De(hb:Hp)(σ:AE)(ρ:Env)(H:AH)(n:Nat):HP where
 P _ S h:=(∀B,S B->∃o,h.f B=some o)/\∃(φ:Ph) (g:Hp),g.n<=h.n/\(∀B o,g.f B=some o->S B/\h.f B=some o)/\(∀q,¬φ.y q)/\HR φ H n hb g/\FR φ σ ρ
 loc _ _ _ _ hn e hp:=⟨λB a=>let⟨o,ho⟩:=hp.1 B a;⟨o,(e B a).trans ho⟩,let⟨φ,g,h1,c,d⟩:=hp.2;⟨φ,g,X9 h1 hn,λB o q=>⟨(c B o q).1,(e B (c B o q).1).trans (c B o q).2⟩,d⟩⟩
 mono _ _ _ _ _ h:=h
 ex _ _ _ B h a:=h.1 B a
theorem yU{B:Nat}{o:Obj}(h1:(oN S hb h).f B=some o):h.f B=some o/\¬(S B/\hb.f B=none):=by
 by_cases e:S B/\hb.f B=none
 ·have:(oN S hb h).f B=none:=if_pos e;rw[this]at h1;cases h1
 ·have:(oN S hb h).f B=h.f B:=if_neg e;rw[this]at h1;exact⟨h1,e⟩
theorem AL{B:Nat}(k:S B)(e:hb.f B=none):(oN S hb h).f B=none:=if_pos ⟨k,e⟩
theorem ky{B:Nat}(e:¬(S B/\hb.f B=none)):(oN S hb h).f B=h.f B:=if_neg e
theorem HR.lift(i:HR φ H n hb g)(D:Wf h)(hn:g.n<=h.n)(a:∀B o,g.f B=some o->S B/\h.f B=some o)(E:∀q,¬φ.y q):HR φ H n (oN S hb h) h:=by
 refine⟨λx q j=>⟨(i.dom x q j).1,q0t (i.dom x q j).2 hn⟩,λx o j=>?_,i.inj,λB o e=>⟨D B o (yU e).1,(yU e).1⟩,Z3 _,λq F=>?_,λx w j=>?_⟩
 ·rcases i.live x o j with k|⟨p,A,m,d,u,G⟩
  ·exact .inl k
  ·refine .inr ⟨p,A,m,?_,(a _ _ u).2,G⟩;cases ho:o.own with
   |true=>
    rw[AO.bC ho]at d⊢;exact AL (a _ _ u).1 d
   |false=>
    cases o with
    |ro l=>
     have d:hb.f p.B=some A:=d;exact(ky λk=>by rw[d]at k;cases k.2).trans (a _ _ u).2
    |_=>cases ho
 ·obtain⟨⟨m,d⟩,u⟩:=i.frz q F;obtain⟨C,c,t,fz,v,z⟩:=m;exact⟨⟨⟨⟨q0t C.1 hn,C.2⟩,c,t,fz,(a _ _ v).2,z⟩,.inr (AL (a _ _ v).1 (d.resolve_left (E q)))⟩,u⟩
 ·obtain⟨m,d⟩:=i.sep x w j;have ex:∀B,φ.s x B->∃o,g.f B=some o:=λB r=>w.ex _ _ _ B m r
  refine⟨w.loc _ _ g _ hn (λB r=>?_) m,λB r=>?_⟩
  ·obtain⟨o,ho⟩:=ex B r;rw[ho,(a _ _ ho).2]
  ·obtain⟨o,ho⟩:=ex B r;obtain⟨v,z⟩:=d B r;exact⟨⟨q0t v.1 hn,AL (a _ _ ho).1 v.2⟩,z⟩
theorem HR.AM(d:HR φ H n h1 g){L:Nat}{o o':Obj}(v:h1.f L=some o)(i:∀b o,H.get b=some o->o.own=true)(A:∀q,¬φ.y q):HR φ H n (h1.put L o') (g.put L o'):=by
 have ne:∀B,h1.f B=none->B≠L:=λB e k=>by subst k;rw[v]at e;cases e
 refine⟨d.dom,λx o m=>?_,d.inj,λB o e=>?_,d.size,λq C=>?_,λx w m=>?_⟩
 ·rcases d.live x o m with k|⟨p,z,j,a,r,D⟩
  ·exact .inl k
  ·have hu:=AO.bC (i x o m) z;rw[hu]at a;refine .inr ⟨p,z,j,?_,?_,D⟩
   ·rw[hu,aW _ _ _ _ (ne _ a)];exact a
   ·rw[aW _ _ _ _ (ne _ a)];exact r
 ·by_cases k:B=L
  ·subst k;rw[bS]at e⊢;exact⟨(d.base _ _ v).1,e⟩
  ·rw[aW _ _ _ _ k]at e⊢;exact d.base _ _ e
 ·obtain⟨⟨j,a⟩,r⟩:=d.frz q C;have a:=a.resolve_left (A q);obtain⟨E,c,t,fz,l,s⟩:=j;exact⟨⟨⟨E,c,t,fz,(aW _ _ _ _ (ne _ a)).trans l,s⟩,.inr ((aW _ _ _ _ (ne _ a)).trans a)⟩,r⟩
 ·obtain⟨j,a⟩:=d.sep x w m;refine⟨w.loc _ _ g _ (Z3 _) (λB u=>aW _ _ _ _ (ne _ (a B u).1.2)) j,λB u=>?_⟩;obtain⟨l,s⟩:=a B u;exact⟨⟨l.1,(aW _ _ _ _ (ne _ l.2)).trans l.2⟩,s⟩
theorem HR.cut(i:HR φ H n h1 g)(m:∀b o,H.get b=some o->o.own=true)(E:∀q,¬φ.y q)(w:∀B o,g.f B=some o->h1.f B=none->S' B)(d:∀B o,hb.f B=some o->S' B/\g.f B=some o/\h1.f B≠none)(z:hb.n<=g.n):HR φ H n hb (inS S' g):=by
 have is:∀B,S' B->(inS S' g).f B=g.f B:=λB e=>if_pos e
 have no:∀B,h1.f B=none->hb.f B=none:=λB e=>by
  cases k:hb.f B with
  |none=>rfl
  |some o=>exact absurd e (d B o k).2.2
 refine⟨i.dom,λx o u=>?_,i.inj,λB o e=>⟨(i.base B _ (show h1.f B=some ((h1.f B).get (Option.isSome_iff_ne_none.2 (d B o e).2.2)) by simp)).1,(is B (d B o e).1).trans (d B o e).2.1⟩,z,λq F=>?_,λx A u=>?_⟩
 ·rcases i.live x o u with k|⟨p,D,j,a,v,G⟩
  ·exact .inl k
  ·have hu:=AO.bC (m x o u) D;rw[hu]at a;exact .inr ⟨p,D,j,by rw[hu];exact no _ a,(is _ (w _ _ v a)).trans v,G⟩
 ·obtain⟨⟨j,a⟩,v⟩:=i.frz q F;have a:=a.resolve_left (E q);obtain⟨I,c,t,fz,r,C⟩:=j;exact⟨⟨⟨I,c,t,fz,(is _ (w _ _ r a)).trans r,C⟩,.inr (no _ a)⟩,v⟩
 ·obtain⟨j,a⟩:=i.sep x A u;have ex:∀B,φ.s x B->S' B:=λB l=>let⟨o,ho⟩:=A.ex _ _ _ B j l;w B o ho (a B l).1.2
  refine⟨A.loc _ _ g _ (Z3 _) (λB l=>is B (ex B l)) j,λB l=>?_⟩;obtain⟨r,C⟩:=a B l;exact⟨⟨r.1,no _ r.2⟩,C⟩
end
end Go.Proofs.YtflehenfikoniaaGreat
namespace Go.Proofs.YtflehenfikoniaaGreat
open Go Go.RowKit
def ki:Code->Bool
 | .skip=>true
 | .region _ _ d=>!d
 | .seq a b=>ki a&&ki b
 | .cond _ a b=>ki a&&ki b
 | .block _ c=>ki c
 | .exit _=>true
 | .ret=>true
 |_=>false
def VK(d:List Deferred)(n:Nat)(ds:List Nat)(ρ0:Env)(w0:World)(N R:EH)(X:Nat->EH):Exit->Act->World->Prop
 | .normal,a,w=>∃ρ h,oe d n a ρ/\Is w h/\bJ w0 w/\gA ds ρ0 ρ/\N ρ h
 | .ret,a,w=>∃ρ h,oe d n a ρ/\Is w h/\bJ w0 w/\gA ds ρ0 ρ/\R ρ h
 | .exit i,a,w=>∃ρ h,oe d n a ρ/\Is w h/\bJ w0 w/\gA ds ρ0 ρ/\X i ρ h
 |_,_,_=>False
theorem jn{P:Program}{r:Option Nat}{d:List Deferred}{n:Nat}{w0:World}:∀(c:Code),ki c=true->∀(ds:List Nat),(∀t∈aG c,t<n/\ds.contains t=true)->∀(N R:EH) (X:Nat->EH) (ρ0 ρ:Env) (h:Hp) (a:Act) (w:World),
 avc P c N R X ρ h->oe d n a ρ->Is w h->bJ w0 w->gA ds ρ0 ρ->c.wpIn (FW r) 0 P (VK d n ds ρ0 w0 N R X) a w:=by
 intro c
 induction c with
 |skip=>intro _ ds _ N R X ρ0 ρ h a w g j k m o;exact wpIn_skip ⟨ρ,h,j,k,m,o,g⟩
 |region id ops draw=>
  intro p ds hd N R X ρ0 ρ h a w g j k m o;have H:=tH (l:=ops.toList) hd;cases draw with
  |true=>cases p
  |false=>exact wpIn_region_list (og (r:=r) (d:=d) (n:=n) (ds:=ds) (ρ0:=ρ0) (w0:=w0) (λI J f A s u v z K=>⟨f,A,s,v,z,u,K⟩) ops.toList H ρ h a w g j o k m)
 |seq x y B C=>
  intro p ds hd N R X ρ0 ρ h a w g j k m o;simp only[ki,Z9]at p;refine wpIn_seq (wpIn_mono (B p.1 ds (λt E=>hd t (by simp[aG,E])) (λf A=>avc P y N R X f A) R X ρ0 ρ h a w g j k m o) (λe I J F=>?_));cases e with
  |normal=>
   obtain⟨f,A,s,v,z,u,K⟩:=F;exact C p.2 ds (λt E=>hd t (by simp[aG,E])) N R X ρ0 f A I J K s v z u
  |_=>exact F
 |cond t x y B C=>
  intro p ds hd N R X ρ0 ρ h a w g j k m o;simp only[ki,Z9]at p;unfold avc at g;split at g
  ·rename_i q F;refine wpIn_cond_split (t:=q) (by rw[j.eval,F]) (λe=>?_) (λe=>?_)
   ·exact B p.1 ds (λt E=>hd t (by simp[aG,E])) N R X ρ0 ρ h a w (g.1 e) j k m o
   ·exact C p.2 ds (λt E=>hd t (by simp[aG,E])) N R X ρ0 ρ h a w (g.2 e) j k m o
  ·exact g.elim
 |block id x M=>
  intro p ds hd N R X ρ0 ρ h a w g j k m o;refine wpIn_block (wpIn_mono (M p ds hd N R (λi f A=>if i=id then N f A else X i f A) ρ0 ρ h a w g j k m o) (λe I J F=>?_));cases e with
  |exit i=>
   obtain⟨f,A,s,v,z,u,G⟩:=F;simp only[Exit.inBlock];split
   ·rename_i e;rw[if_pos e]at G;exact⟨f,A,s,v,z,u,G⟩
   ·rename_i e;rw[if_neg e]at G;exact⟨f,A,s,v,z,u,G⟩
  |_=>exact F
 |exit i=>intro _ ds _ N R X ρ0 ρ h a w g j k m o;exact wpIn_exit ⟨ρ,h,j,k,m,o,g⟩
 |ret=>intro _ ds _ N R X ρ0 ρ h a w g j k m o;exact wpIn_ret ⟨ρ,h,j,k,m,o,g⟩
 |_=>intro p;cases p
def eE(rec:Loop)(st:LoopState)(a:Option Code):Loop:={rec with state:=st,pending:=a}
def lq(L D:Nat)(rec:Loop)(st:LoopState)(a:Option Code):Hp:=⟨λB=>if B=L then some (.loop (eE rec st a))else if B=D then some (.deferred (some []))else none,0⟩
theorem s8(L D:Nat)(rec:Loop)(st:LoopState)(a:Option Code):(lq L D rec st a).f L=some (.loop (eE rec st a)):=if_pos rfl
theorem s9{L D:Nat}(h:D≠L)(rec:Loop)(st:LoopState)(a:Option Code):(lq L D rec st a).f D=some (.deferred (some [])):=(if_neg h).trans (if_pos rfl)
theorem AN{L D B:Nat}(a:B≠L)(c:B≠D)(rec:Loop)(st:LoopState)(d:Option Code):(lq L D rec st d).f B=none:=(if_neg a).trans (if_neg c)
def dk(H:AH):Prop:=∀b o,H.get b=some o->o.own=true
def RdK(L D b:Nat)(rec:Loop)(σ:AE)(ρ:Env)(H:AH)(n:Nat)(κ:PK)(st:LoopState)(c:Option Code)(e:AH)(f:Nat):Prop:=
 ∃a d,Cov 0 σ e f (σ,a,d)/\dk a/\κ (.bool c.isNone) (H.set (some (.sep (De (lq L D rec st c) σ ρ a d))) aa b) n
def TB(L D b t:Nat)(ca cb:Code)(rec:Loop)(σ:AE)(ρ:Env)(call cd:CP)(args:List AV)(H:AH)(n:Nat)(κ:PK):Prop:=
 ∃c d x,H.get b=some (.sep (De (lq L D rec .ready none) σ ρ c d))/\args=[x]/\(∀(j k:Ph) (v:Value),VR j x v->VR k x v)/\dk c/\
  jF d cd [] ca call (cU σ (some t) x) c d (λe g h=>dk g/\jF h cd [] cb call e g h
   (λ_ a f=>dk a/\RdK L D b rec σ ρ H n κ .ready none a f)
   (λi _ a f=>dk a/\RdK L D b rec σ ρ H n κ .done (some (.exit i)) a f) (λ_ _ _=>False)) (λ_ _ _ _=>False) (λ_ _ _=>False)
theorem Is.putObj{w:World}{h:Hp}(hi:Is w h){L:Nat}{o o':Obj}(e:h.f L=some o):Is (w.putObj L o') (h.put L o'):=
 hi.set e (by simp) (World.putObj_heap_same (by rw[hi.1];exact hi.lt e)) λx a=>World.putObj_heap_other a
theorem bJ.putObj(w:World)(L:Nat)(o:Obj):bJ w (w.putObj L o):=⟨rfl,rfl,rfl⟩
section
variable {L D b t:Nat} {rec:Loop} {σ:AE} {ρ:Env} {call cd:CP}
theorem P8 (N:oz call) (hcd:oz cd) (hcs:tR cd) (O:D≠L) (hps:rec.params= #[t]) (hcA:ki rec.assign=true) (hcB:ki rec.body=true) (hdA:lZ [] rec.assign=true) (hdB:lZ [] rec.body=true)
 (hdd:((aG rec.assign).all λt=>decide (t<rec.tmps.size))=true) (hde:((aG rec.body).all λt=>decide (t<rec.tmps.size))=true) (Y:t<rec.tmps.size) (hρ:∀t,rec.tmps.getD t undef=ρ t):OI L (TB L D b t rec.assign rec.body rec σ ρ call cd):=by
 intro args H n κ hs E h0 h vs K hr Z hk w hi;obtain⟨H1,n1,x,hb,rfl,hfl,hown,hs⟩:=hs;obtain⟨v,us,qv,ev,ru⟩:=Z.cons_inv;have ru:=ru.aQ;subst ru;have hvs:vs= #[v]:=q2q qv;subst hvs;have hw:=hi.wf;obtain⟨⟨hex,J,g,hgn,m,hy,U,hf'⟩,hcond⟩:=hr.sep b _ hb;have gL:=(U.base L _ (s8 L D rec .ready none)).2;have gD:=(U.base D _ (s9 O rec .ready none)).2;have r1:=U.lift hw hgn m hy;have bL:(oN (E.s b) (lq L D rec .ready none) h).f L=some (.loop (eE rec .ready none)):=(ky λk=>by rw[s8]at k;cases k.2).trans (m _ _ gL).2;have bD:(oN (E.s b) (lq L D rec .ready none) h).f D=some (.deferred (some [])):=(ky λk=>by rw[s9 O]at k;cases k.2).trans (m _ _ gD).2;have hLw:w.heap[L]?=some (.loop (eE rec .ready none)):=hi.2 _ _ (m _ _ gL).2;have hx:VR J x v:=hfl E J v ev;refine⟨rec.fn,rec.tmps.setIfInBounds t v,rec.assign,rec.body,?_,roundIn_of_wpIn trivial ?_⟩
 ·rw[run_yield hLw (by show 1=rec.params.size;rw[hps];rfl)];simp[eE,hps]
 have rel:oe [] rec.tmps.size {tmps:=rec.tmps.setIfInBounds t v,defers:=[]} (ρ.upd t v):=by
  have:oe [] rec.tmps.size {tmps:=rec.tmps,defers:=[]} ρ:=⟨rfl,rfl,hρ⟩;exact this.put (d:=some t) (λs e=>by injection e with e;subst e;exact Y) v
 have dsA:∀t∈aG rec.assign,t<rec.tmps.size/\(aG rec.assign).contains t=true:=λt Y=>⟨by simpa using Y4.1 hdd t Y,by simpa using Y⟩
 have dsB:∀t∈aG rec.body,t<rec.tmps.size/\(aG rec.body).contains t=true:=λt Y=>⟨by simpa using Y4.1 hde t Y,by simpa using Y⟩
 have fin:∀(st:LoopState) (C:Option Code) (a c:Ph) (l:AH) (u:Nat) (A:Env) (j:Hp) (w3:World),PLe J a->PLe a c->HR c l u ((oN (E.s b) (lq L D rec .ready none) h).put L (.loop (eE rec .busy none))) j->dk l->RdK L D b rec σ ρ H n κ st C l u->Is w3 j->bJ w w3->
  ∃v' h',Ending.returned (.bool C.isNone)= .returned v'/\Is (w3.putObj L (.loop (eE rec st C))) h'/\bJ w (w3.putObj L (.loop (eE rec st C)))/\K v' h':=by
  intro st C a c l u A j w3 W T r3 ho3 ⟨H4,n4,hc,Q,hκ⟩ F R;have y3:∀q,¬c.y q:=λq I=>hy q ((W.trans T).y q I)
  obtain⟨χ,⟨_,_,cy⟩,G,f4⟩:=hc c _ j ρ r3 (hf'.mono (W.trans T));have y4:∀q,¬χ.y q:=λq I=>y3 q (cy q I)
  have G:HR χ H4 n4 ((oN (E.s b) (lq L D rec .ready none) h).put L (.loop (eE rec .busy none))) j:=G;have M:=(G.base L _ (bS _ _ _)).2;have r5:=G.AM (o':= .loop (eE rec st C)) (bS _ _ _) Q y4;refine⟨_,j.put L (.loop (eE rec st C)),rfl,F.putObj M,R.trans (bJ.putObj _ _ _),?_⟩
  let S':Nat->Prop:=λB=>(∃o,(j.put L (.loop (eE rec st C))).f B=some o)/\(E.s b B∨h.f B=none)
  have hS:∀B,S' B->B<j.n/\(E.s b B∨h.f B=none):=λB ⟨⟨o,ho⟩,k⟩=>⟨by
   have:=(F.putObj (o':= .loop (eE rec st C)) M).lt ho;exact this,k⟩
  have hn3:h.n<=j.n:=G.size
  have b7:∀B o,h.f B=some o->¬E.s b B->(j.put L (.loop (eE rec st C))).f B=some o:=λB o e k=>by
   have kL:B≠L:=λq=>by subst q;exact k (m _ _ gL).1
   rw[aW _ _ _ _ kL];refine(G.base B o ?_).2;rw[aW _ _ _ _ kL];exact(ky λq=>k q.1).trans e
  have kD:(j.put L (.loop (eE rec st C))).f D=some (.deferred (some [])):=by
   rw[aW _ _ _ _ O];exact(G.base D _ (by rw[aW _ _ _ _ O];exact bD)).2
  have hQ:(De (lq L D rec st C) σ ρ H4 n4).P E.z S' (j.put L (.loop (eE rec st C))):=by
   refine⟨λB hB=>hB.1,χ,inS S' (j.put L (.loop (eE rec st C))),Z3 _,λB o e=>?_,y4,r5.cut Q y4 (λB o e k=>⟨⟨o,e⟩,?_⟩) (λB o e=>?_) (X5 _),f4⟩
   ·by_cases k:S' B
    ·have:(inS S' (j.put L (.loop (eE rec st C)))).f B=(j.put L (.loop (eE rec st C))).f B:=if_pos k;rw[this]at e;exact⟨k,e⟩
    ·have:(inS S' (j.put L (.loop (eE rec st C)))).f B=none:=if_neg k;rw[this]at e;cases e
   ·have kL:B≠L:=λq=>by subst q;rw[bS]at k;cases k
    rw[aW _ _ _ _ kL,aW _ _ _ _ kL]at k;by_cases q:E.s b B
    ·exact .inl q
    ·rw[ky λq'=>q q'.1]at k;exact .inr k
   ·by_cases kL:B=L
    ·subst kL;rw[s8]at e;refine⟨⟨⟨_,bS _ _ _⟩,.inl (m _ _ gL).1⟩,by rw[bS];exact e,by rw[bS];simp⟩
    ·by_cases kB:B=D
     ·subst kB;rw[s9 O]at e;refine⟨⟨⟨_,kD⟩,.inl (m _ _ gD).1⟩,kD.trans e,by rw[aW _ _ _ _ kL,aW _ _ _ _ kL,bD];simp⟩
     ·rw[AN kL kB]at e;cases e
  exact hk ⟨E.f,E.z,E.y,λx=>if x=b then S' else E.s x⟩ _ _ _ _ _ ⟨λ_ _ h=>h,λ_ h=>h,λ_ h=>h⟩ (hr.RP (g:=j.put L (.loop (eE rec st C))) hb hw hn3 b7 hS hQ) (.bool _) hκ
 have ha:=jG N hcd hcs (D:=[]) (p:=n1) (φ0:=J) (λb q e=>(U.dom b q e).1) rec.assign hdA J _ H1 n1 _ _ _ (ρ.upd t v) h
  (λV h2=>∃a S H2 X,PLe J a/\HR a H2 X (oN (E.s b) (lq L D rec .ready none) h) h2/\FR a S V/\dk H2/\jF X cd [] rec.body call S H2 X
   (λ_ l u=>dk l/\RdK L D b rec σ ρ H n κ .ready none l u)
   (λi _ l u=>dk l/\RdK L D b rec σ ρ H n κ .done (some (.exit i)) l u) (λ_ _ _=>False)) (λ_ _=>False) (λ_ _ _=>False) (PLe.refl _) r1 (hf'.put (some t) hx) hs
  (λψ S H2 X V h2 W r2 f2 ⟨o2,k⟩=>⟨ψ,S,H2,X,W,r2,f2,o2,k⟩) (λ_ _ _ _ _ _ _ _ _ k=>k.elim) (λi _ _ _ _ _ _ _ _ _ k=>k.elim)
 refine wpIn_mono (jn (r:=some L) (d:=[]) (w0:=w) rec.assign hcA _ dsA _ _ _ _ _ h _ w ha rel hi (bJ.refl w) (λ_ _=>rfl)) λe a1 w1 I=>?_
 cases e with
 |normal=>
  obtain⟨V,h2,rel2,hi2,hs2,_,a,S,H2,X,W,r2,f2,o2,hbody⟩:=I;have hL2:=(r2.base L _ bL).2;refine⟨_,run_beginRound (hi2.2 _ _ hL2) rfl,?_⟩;have y2:∀q,¬a.y q:=λq I=>hy q (W.y q I)
  have r3:=r2.AM (o':= .loop (eE rec .busy none)) bL o2 y2
  have hb2:=jG N hcd hcs (D:=[]) (p:=X) (φ0:=a) (λb q e=>(r2.dom b q e).1) rec.body hdB a _ H2 X _ _ _ V (h2.put L (.loop (eE rec .busy none)))
   (λA j=>∃c l u,PLe a c/\HR c l u ((oN (E.s b) (lq L D rec .ready none) h).put L (.loop (eE rec .busy none))) j/\dk l/\RdK L D b rec σ ρ H n κ .ready none l u) (λ_ _=>False)
   (λi A j=>∃c l u,PLe a c/\HR c l u ((oN (E.s b) (lq L D rec .ready none) h).put L (.loop (eE rec .busy none))) j/\dk l/\RdK L D b rec σ ρ H n κ .done (some (.exit i)) l u) (PLe.refl _) r3 f2 hbody
   (λψ σ3 l u A j T G f3 ⟨o3,k⟩=>⟨ψ,l,u,T,G,o3,k⟩) (λ_ _ _ _ _ _ _ _ _ k=>k.elim) (λi ψ σ3 l u A j T G f3 ⟨o3,k⟩=>⟨ψ,l,u,T,G,o3,k⟩)
  have hs2':=hs2.trans (bJ.putObj w1 L (.loop (eE rec .busy none)));refine wpIn_mono (jn (r:=some L) (d:=[]) (w0:=w) rec.body hcB _ dsB _ _ _ _ _ _ _ _ hb2 rel2 (hi2.putObj hL2) hs2' (λ_ _=>rfl)) λe a2 w2 I=>?_
  cases e with
  |normal=>
   obtain⟨A,j,_,F,R,_,c,l,u,T,G,o3,k⟩:=I;have M:=(G.base L _ (bS _ _ _)).2;exact⟨_,_,run_endRound none (F.2 _ _ M),fin .ready none a c l u A j w2 W T G o3 k F R⟩
  |exit i=>
   obtain⟨A,j,_,F,R,_,c,l,u,T,G,o3,k⟩:=I;have M:=(G.base L _ (bS _ _ _)).2;exact⟨_,_,run_endRound (some (.exit i)) (F.2 _ _ M),fin .done (some (.exit i)) a c l u A j w2 W T G o3 k F R⟩
  |ret=>obtain⟨_,_,_,_,_,_,k⟩:=I;exact k.elim
  |_=>exact I.elim
 |ret=>obtain⟨_,_,_,_,_,_,k⟩:=I;exact k.elim
 |exit i=>obtain⟨_,_,_,_,_,_,k⟩:=I;exact k.elim
 |_=>exact I.elim
end
section
variable {φ:Ph} {H:AH} {n:Nat} {h0 h g:Hp}
theorem HR.ext(a:HR φ H n h0 h)(hn:h.n<=g.n)(j:∀B o,h.f B=some o->g.f B=some o):HR φ H n h0 g:=by
 refine⟨λx q b=>⟨(a.dom x q b).1,q0t (a.dom x q b).2 hn⟩,λx o b=>?_,a.inj,λB o e=>⟨q0t (a.base B o e).1 hn,j B o (a.base B o e).2⟩,X9 a.size hn,λq v=>?_,λx Q b=>?_⟩
 ·rcases a.live x o b with k|⟨p,w,d,i,m,y⟩
  ·exact .inl k
  ·exact .inr ⟨p,w,d,i,j _ _ m,y⟩
 ·obtain⟨⟨d,i⟩,m⟩:=a.frz q v;obtain⟨u,c,t,fz,l,r⟩:=d;exact⟨⟨⟨⟨q0t u.1 hn,u.2⟩,c,t,fz,j _ _ l,r⟩,i⟩,m⟩
 ·obtain⟨d,i⟩:=a.sep x Q b;refine⟨Q.loc _ _ h _ hn (λB s=>?_) d,λB s=>?_⟩
  ·obtain⟨o,ho⟩:=Q.ex _ _ _ B d s;rw[ho,j _ _ ho]
  ·obtain⟨l,r⟩:=i B s;exact⟨⟨q0t l.1 hn,l.2⟩,r⟩
end
def RQ:AV->Bool
 | .ptr _ _=>true
 |a=>flat.flat1 a
theorem Nd{φ ψ:Ph}{a:AV}{v:Value}(c:RQ a=true)(d:∀b p,φ b=some p->ψ b=some p)(h:VR φ a v):VR ψ a v:=by
 cases a with
 |ptr b o=>
  simp only[VR]at h⊢;obtain⟨p,e,f⟩:=h;exact⟨p,d _ _ e,f⟩
 |_=>exact aV c h
structure RfC where
 A:Code
 B:Code
 C:Code
 E:Code
 id:Nat
 gt:Nat
 t:Nat
 ca:Code
 cb:Code
def RfC.code(r:RfC):Code:= .seq r.A (.seq r.B (.seq (.seq r.C (.block r.id (.rangeFunc (.tmp r.gt) ⟨[r.t]⟩ r.ca r.cb))) r.E))
def rfC:Code->Option RfC
 | .seq A (.seq B (.seq (.seq C (.block id (.rangeFunc (.tmp gt) ⟨[t]⟩ ca cb))) E))=>some ⟨A,B,C,E,id,gt,t,ca,cb⟩
 |_=>none
theorem Nf{c:Code}{r:RfC}(h:rfC c=some r):c=r.code:=by
 unfold rfC at h;split at h
 ·injection h with h;subst h;rfl
 ·cases h
def RfC.ok (r:RfC) (m:Nat):Bool:=ki r.A&&ki r.B&&ki r.C&&ki r.E&&ki r.ca&&ki r.cb&&lZ [] r.ca&&lZ [] r.cb&&lZ [] r.E&&lZ [] (.seq r.A (.seq r.B r.C))&&
 ((aG r.A).all λt=>decide (t<m))&&((aG r.B).all λt=>decide (t<m))&&((aG r.C).all λt=>decide (t<m))&&((aG r.E).all λt=>decide (t<m))&&((aG r.ca).all λt=>decide (t<m))&&((aG r.cb).all λt=>decide (t<m))&&decide (r.t<m)
def RfR(b:Nat)(κ:PK)(H:AH)(n:Nat)(a:AH)(v:AV):Prop:=
 ((∀(φ d:Ph) (u:Value),VR φ v u->VR d v u)/\κ v (H.set none aa b) n)∨
 ∃c o m k x l z,v= .rw c o m k x/\a.get c=some (.cells l z)/\l.all flat.flat1=true/\κ (.rw n o m k x) ((H.set none aa b).set (some (.cells l z)) aa n) (n+1)
def RfE(L D b:Nat)(r:RfC)(rs:List ResultVar)(rec:Loop)(σ:AE)(i:Env)(call j:CP)(κ:PK)(H:AH)(n:Nat):Prop:=
 ∃st a c d,H.get b=some (.sep (De (lq L D rec st a) σ i c d))/\st≠ .busy/\(a=none∨a=some (.exit r.id))/\dk c/\
  jF d j [] r.E call σ c d (λ_ _ _=>False) (λ_ _ _ _=>False) λe f _=>dk f/\B8 rs e f λk=>RfR b κ H n f (yf k)
def AP(o:AO):Bool:=match o with
 | .cells l _=>l.all flat.flat1
 |_=>false
def RfS(r:RfC)(m:Nat)(rs:List ResultVar)(call j:CP)(κ:PK)(c:AE)(k:AH)(d:Nat):Prop:=
 d<900000/\∃l first p e f a q s,aj (pa r.gt) c= .fn l first []/\(p.all λt=>RQ (aj (pa t) c))=true/\fR e k/\fR f k/\(∀b o,e.get b=some o->AP o=true/\f.get b=none)/\Cov 0 (kV c p) e d (a,q,s)/\
  ∀(L D:Nat) (rec:Loop) (i:Env),OI L (TB L D d r.t r.ca r.cb rec a i call j)->
   call l (first++ [.any (.func (.yield L) #[] #[])]) (f.set (some (.sep (De (lq L D rec .ready none) a i q s))) aa d) (d+1) λ_ u v=>RfE L D d r rs rec a i call j κ u v
def RfG(call a:CP)(f:FuncId)(args:List AV)(H:AH)(n:Nat)(κ:PK):Prop:=match Tryz.prog.funcs[f]? with
 |some fn=>(match fn.body with
  |some c=>(match rfC c with
   |some r=>r.ok fn.ntmps=true/\args.length<=fn.ntmps/\jF n a [] (.seq r.A (.seq r.B r.C)) call (vo args 0 .nil) H n (RfS r fn.ntmps fn.results.toList call a κ) (λ_ _ _ _=>False) (λ_ _ _=>False)
   |none=>False)
  |none=>False)
 |none=>False
theorem wR{φ ψ:Ph}{p:Pl}{o:AO}{ob:Obj}(ho:AP o=true)(h:OR φ p o ob):OR ψ p o ob:=by
 cases o with
 |cells l z=>
  obtain⟨c,t,fz,d,e,f,j,k,m⟩:=h;refine⟨c,t,fz,d,e,f,j,k,λi a b=>?_⟩;obtain⟨v,q,r⟩:=m i a b;exact⟨v,q,aV (Y4.1 ho a (q0c b)) r⟩
 |_=>cases ho
theorem oO{o:AO}(ho:AP o=true):o.own=true/\o.IN=none:=by cases o<;>first|exact⟨rfl,rfl⟩|cases ho
theorem G7{H:AH}{v:Option AO}{n x:Nat}{o:AO}(h:(PM.set v aa H n).get x=some o):(x=n/\v=some o)∨(x≠n/\H.get x=some o):=PM.ak aa H n x o h
theorem TC {φ ψ:Ph} {H X:AH} {n n4 b:Nat} {h0 L g h:Hp} {κ:PK} {K:KH} {v:AV} {u:Value} {Q:HP} (t:b<1000000) (M:cn φ h0 κ K) (i:PLe φ ψ) (hr:HR ψ H n h0 g) (hb:H.get b=some (.sep Q)) (hw:Wf g) (N:Wf h) (hn:g.n<=h.n) (hg:∀B o,g.f B=some o->¬ψ.s b B->h.f B=some o)
 {χ:Ph} (O:HR χ X n4 L h) (P:∀B,L.f B=none->(∃o,h.f B=some o)->ψ.s b B∨g.f B=none) (w:VR χ v u) (hs:RfR b κ H n X v):K u h:=by
 let A:Nat->Prop:=λB=>(∃o,h.f B=some o)/\(ψ.s b B∨g.f B=none)
 have st:=hr.RP (Q':=pk []) (S':=A) hb hw hn hg (λB ⟨⟨o,e⟩,k⟩=>⟨N B o e,k⟩) ⟨λB hB=>hB.1,q4h,λc R=>by cases R⟩
 let D:Ph:=⟨ψ.f,ψ.z,ψ.y,λx=>if x=b then A else ψ.s x⟩
 have st:HR D (H.set (some (.sep (pk []))) aa b) n h0 h:=st;have lw:PLe φ D:=⟨i.b,i.z,i.y⟩
 have j:fR (H.set none aa b) (H.set (some (.sep (pk []))) aa b):=λx o O=>by
  rcases G7 O with⟨_,q⟩|⟨S,G⟩
  ·cases q
  ·exact PM.aC aa _ _ _ (aD t) S G
 have s0:=st.less j;rcases hs with⟨hf,d⟩|⟨c,o,m,k,x,l,z,rfl,R,hl,d⟩
 ·exact M D _ _ _ _ _ lw s0 (hf χ D u w) d
 ·rcases O.live c _ R with⟨T,E⟩|⟨p,I,T,E,U,c4⟩
  ·have r:(AO.cells l z).void=true:=E;have:=s0.zZ (o:= .cells l z) r;refine M D _ _ _ _ _ lw this ?_ d;simp only[VR]at w⊢;rcases w with q|⟨p,a,C,q,_⟩
   ·exact .inl q
   ·rw[T]at q;cases q
  ·have E:L.f p.B=none:=E;have hS:A p.B:=⟨⟨I,U⟩,P p.B E ⟨I,U⟩⟩;have F:(H.set (some (.sep (pk []))) aa b).get b=some (.sep (pk [])):=PM.bI aa _ _ (aD t);obtain⟨k1,k2,k3,k4⟩:=(st.sep b _ F).2 p.B (by show(if b=b then A else ψ.s b) p.B;rw[if_pos rfl];exact hS)
   obtain⟨θ,t1,t2,t3⟩:=s0.TA (p:=p) (o:= .cells l z) (ob:=I) rfl rfl k1 U (wR hl c4) (λV o' Z J W e3=>k2 V o' Z (j _ _ J) W e3) k3 (λV Y J W=>by
    rcases G7 J with⟨_,q⟩|⟨S,G⟩
    ·cases q
    ·exact k4 V Y (j _ _ J) S W)
   refine M θ _ _ _ _ _ (lw.trans t1) t3 ?_ d;simp only[VR]at w⊢;rcases w with q|⟨Z,a,C,q,G⟩
   ·exact .inl q
   ·rw[T]at q;injection q with q;subst q;exact .inr ⟨p,a,C,t2,G⟩
theorem RR{f:FuncId}{call cd:CP}(hic:bM Tryz.prog f=true)(F:oz call)(hcd:oz cd)(hcs:tR cd):ai f (RfG call cd f):=by
 intro args H n κ hs φ h0 h vs K hr hargs hk;unfold RfG at hs;split at hs
 case h_2=>exact hs.elim
 rename_i fn hfn;split at hs
 case h_2=>exact hs.elim
 rename_i c hb;split at hs
 case h_2=>exact hs.elim
 rename_i r hrc;obtain⟨hok,hlen,hs⟩:=hs;have hc:=Nf hrc;simp only[RfC.ok,Z9]at hok;obtain⟨⟨⟨⟨⟨⟨⟨⟨⟨⟨⟨⟨⟨⟨⟨⟨cA,cB⟩,cC⟩,cE⟩,cca⟩,ccb⟩,dca⟩,dcb⟩,dE⟩,dP⟩,sA⟩,sB⟩,sC⟩,sE⟩,sca⟩,scb⟩,st⟩:=hok;have st:r.t<fn.ntmps:=by simpa using st
 have X:∀{c:Code},((aG c).all λt=>decide (t<fn.ntmps))=true->∀t∈aG c,t<fn.ntmps/\(aG c).contains t=true:=λj t ht=>⟨by simpa using Y4.1 j t ht,by simpa using ht⟩
 refine⟨hic,λw hi=>(callsIn_wide (n:=0)).1 (callsIn_of_wp_marks hfn hb trivial ?_)⟩;have hal:=hargs.length;have hsz:vs.size<=fn.ntmps:=by simpa[hal]using hlen
 have hpre:=jG F hcd hcs (D:=[]) (p:=n) (φ0:=φ) (λb q e=>(hr.dom b q e).1) (.seq r.A (.seq r.B r.C)) dP φ _ H n _ _ _ (iM vs.toList 0) h
  (λρ1 h1=>∃l Y H1 J,PLe φ l/\HR l H1 J h0 h1/\FR l Y ρ1/\RfS r fn.ntmps fn.results.toList call cd κ Y H1 J) (λ_ _=>False) (λ_ _ _=>False) (PLe.refl _) hr (B3 hargs) hs
  (λZ Y H1 J ρ1 h1 l1 T f1 k=>⟨Z,Y,H1,J,l1,T,f1,k⟩) (λ_ _ _ _ _ _ _ _ _ k=>k.elim) (λi _ _ _ _ _ _ _ _ _ k=>k.elim)
 subst hc;have rel0:oe [] fn.ntmps ⟨vs++Array.replicate (fn.ntmps-vs.size) undef,[]⟩ (iM vs.toList 0):=yb hsz;refine wpIn_seq (wpIn_mono (jn (r:=none) (d:=[]) (w0:=w) r.A cA _ (X sA) _ _ _ _ _ h _ w hpre rel0 hi (bJ.refl w) (λ_ _=>rfl)) λe a1 w1 j=>?_);cases e with
 |ret=>obtain⟨_,_,_,_,_,_,k⟩:=j;exact k.elim
 |exit i=>obtain⟨_,_,_,_,_,_,k⟩:=j;exact k.elim
 |goto i=>exact j.elim
 |panic i=>exact j.elim
 |outgrown=>exact j.elim
 |normal=>
 obtain⟨ρ1,h1,rel1,hi1,hs1,_,hB⟩:=j;refine wpIn_seq (wpIn_mono (jn (r:=none) (d:=[]) (w0:=w) r.B cB _ (X sB) _ _ _ _ _ h1 _ w1 hB rel1 hi1 hs1 (λ_ _=>rfl)) λe a2 w2 j=>?_);cases e with
 |ret=>obtain⟨_,_,_,_,_,_,k⟩:=j;exact k.elim
 |exit i=>obtain⟨_,_,_,_,_,_,k⟩:=j;exact k.elim
 |goto i=>exact j.elim
 |panic i=>exact j.elim
 |outgrown=>exact j.elim
 |normal=>
 obtain⟨ρ2,h2,rel2,hi2,hs2,_,hC⟩:=j;refine wpIn_seq (wpIn_seq (wpIn_mono (jn (r:=none) (d:=[]) (w0:=w) r.C cC _ (X sC) _ _ _ _ _ h2 _ w2 hC rel2 hi2 hs2 (λ_ _=>rfl)) λe a3 w3 j=>?_));cases e with
 |ret=>obtain⟨_,_,_,_,_,_,k⟩:=j;exact k.elim
 |exit i=>obtain⟨_,_,_,_,_,_,k⟩:=j;exact k.elim
 |goto i=>exact j.elim
 |panic i=>exact j.elim
 |outgrown=>exact j.elim
 |normal=>
 obtain⟨G,m,M,hi3,hs3,_,l,Y,H1,J,l1,T,f1,hnb,gf,first,ts,Hi,He,σj,Hj,nj,hgt,hts,U,hge,hio,hcov,hS⟩:=j;refine wpIn_block (wpIn_rangeFunc λgg hgg=>?_);have e3:=hi3.1;obtain⟨D,hD⟩:∃D,D=w3.heap.size:=⟨_,rfl⟩;obtain⟨L,hL⟩:∃L,L=w3.heap.size+1:=⟨_,rfl⟩;have hDL:D≠L:=by omega
 let a:Loop:={state:= .ready,pending:=none,fn:=gg,tmps:=a3.tmps,params:=⟨[r.t]⟩,assign:=r.ca,body:=r.cb,defers:=w3.heap.size}
 let I:Hp:=(((m.put m.n (.deferred (some []))).to (m.n+1)).put (m.n+1) (.loop a)).to (m.n+2)
 let w4:World:=(w3.alloc (.deferred (some []))).alloc (.loop a)
 have hi4:Is w4 I:=(hi3.push _).push _;have hs4:bJ w w4:=hs3.trans ((bJ.push _ _).trans (bJ.push _ _))
 have h4L:I.f L=some (.loop a):=by
  rw[show L=m.n+1 from by omega];exact bS _ _ _
 have h4D:I.f D=some (.deferred (some [])):=by
  rw[show D=m.n from by omega];show((m.put m.n (.deferred (some []))).put (m.n+1) (.loop a)).f m.n=_;rw[aW _ _ _ _ (by omega)];exact bS _ _ _
 have h4o:∀B o,m.f B=some o->I.f B=some o:=λB o e=>by
  have:=hi3.lt e;show((m.put m.n (.deferred (some []))).put (m.n+1) (.loop a)).f B=_;rw[aW _ _ _ _ (by omega),aW _ _ _ _ (by omega)];exact e
 have hρ:∀t,a.tmps.getD t undef=G t:=M.2.2;have hrs:a.tmps.size=fn.ntmps:=M.2.1;have hY:OI L (TB L D J r.t r.ca r.cb a σj G call cd):=P8 (rec:=a) F hcd hcs hDL rfl cca ccb dca dcb (by rw[hrs];exact sca) (by rw[hrs];exact scb) (by rw[hrs];exact st) hρ
 let N:=lq L D a .ready none
 have hb0s:∀B o,N.f B=some o->(B=L∨B=D)/\I.f B=some o:=λB o e=>by
  by_cases kL:B=L
  ·subst kL;rw[show N.f B=_ from s8 _ _ _ _ _]at e;exact⟨.inl rfl,h4L.trans e⟩
  ·by_cases kD:B=D
   ·subst kD;rw[show N.f B=_ from s9 hDL _ _ _]at e;exact⟨.inr rfl,h4D.trans e⟩
   ·rw[show N.f B=none from AN kL kD _ _ _]at e;cases e
 have hb0n:∀B o,m.f B=some o->N.f B=none:=λB o e=>by
  have:=hi3.lt e;exact AN (by omega) (by omega) _ _ _
 let S:Nat->Prop:=λB=>(∃b o p ob,Hi.get b=some o/\l b=some p/\p.B=B/\m.f B=some ob)∨B=L∨B=D
 let φi:Ph:=⟨l.f,λ_=>False,λ_=>False,λ_ _=>False⟩
 have hex:∀B,S B->∃o,I.f B=some o:=λB hB=>by
  rcases hB with⟨_,_,_,ob,_,_,_,e⟩|rfl|rfl
  ·exact⟨ob,h4o _ _ e⟩
  ·exact⟨_,h4L⟩
  ·exact⟨_,h4D⟩
 have is:∀B,S B->(inS S I).f B=I.f B:=λB e=>if_pos e
 have n34:m.n<=I.n:=by show m.n<=m.n+2;omega
 have hii:HR φi Hi J N (inS S I):=by
  refine⟨λx q hx=>⟨(T.dom x q hx).1,q0t (T.dom x q hx).2 n34⟩,λx o hx=>?_,λx y o o' q q' hx hy w1 w2=>T.inj x y o o' q q' (U _ _ hx) (U _ _ hy) w1 w2,λB o e=>⟨hi4.lt (hb0s B o e).2,(is B (.inr (hb0s B o e).1)).trans (hb0s B o e).2⟩,X5 _,λq j=>j.elim,λx Q hx=>?_⟩
  ·rcases T.live x o (U _ _ hx)with k|⟨p,ob,k1,k2,k3,k4⟩
   ·exact .inl k
   ·refine .inr ⟨p,ob,k1,?_,(is _ (.inl ⟨x,o,p,ob,hx,k1,rfl,k3⟩)).trans (h4o _ _ k3),wR (hio x o hx).1 k4⟩;rw[AO.bC (oO (hio x o hx).1).1];exact hb0n _ _ k3
  ·have:=(oO (hio x _ hx).1).2;cases this
 have fi:FR φi (kV Y ts) G:=kX λt ht=>Nd (φ:=l) (ψ:=φi) (Y4.1 hts t ht) (λ_ _ h=>h) (f1.at t)
 have sub4:∀B o,(inS S I).f B=some o->S B/\I.f B=some o:=λB o e=>by
  by_cases k:S B
  ·rw[is B k]at e;exact⟨k,e⟩
  ·have:(inS S I).f B=none:=if_neg k;rw[this]at e;cases e
 obtain⟨χ,⟨_,_,cy⟩,hij,fj⟩:=hcov φi N (inS S I) G hii fi;have hP:(De N σj G Hj nj).P l.z S I:=⟨hex,χ,inS S I,Z3 _,sub4,λq j=>cy q j,hij,fj⟩;have r4:HR l He J h0 I:=(T.less hge).ext n34 h4o;have big:∀B,B=L∨B=D->m.n<=B/\B<I.n:=λB k=>⟨by omega,by show B<m.n+2;omega⟩
 obtain⟨le4,r5⟩:=r4.pK hP λB hB=>by
  rcases hB with⟨b,o,p,ob,k1,k2,k3,k4⟩|k
  ·have hw:=(oO (hio b o k1).1).1;refine⟨⟨q0t (hi3.lt k4) n34,?_⟩,λb' o' p' e1 e2 e3 e4=>?_,λq j e=>?_,λb' Q' e1 e2=>?_⟩
   ·rcases T.live b o (U _ _ k1)with⟨k,_⟩|⟨p',ob',k5,k6,_,_⟩
    ·rw[k]at k2;cases k2
    ·rw[k5]at k2;injection k2 with k2;subst k2;rw[AO.bC hw,k3]at k6;exact k6
   ·have:=T.inj b' b o' o p' p (hge _ _ e1) (U _ _ k1) e2 hw e3 k2 (e4.trans k3.symm);subst this;rw[(hio b' o k1).2]at e1;cases e1
   ·exact(T.frz q j).2 b o p (U _ _ k1) hw k2 (k3.trans e.symm)
   ·exact((T.sep b' Q' (hge _ _ e1)).2 B e2).2.1 b o p (U _ _ k1) hw k2 k3
  ·obtain⟨b1,b2⟩:=big B k;refine⟨⟨b2,?_⟩,λb' o' p' e1 e2 e3 e4=>?_,λq j e=>?_,λb' Q' e1 e2=>?_⟩
   ·cases e:h0.f B with
    |none=>rfl
    |some o=>have:=(T.base B o e).1;omega
   ·have:=(T.dom b' p' e3).2;omega
   ·have:=(T.frz q j).1.1.1.1;omega
   ·have:=((T.sep b' Q' (hge _ _ e1)).2 B e2).1.1;omega
 have hgv:=f1.at r.gt;rw[hgt]at hgv;obtain⟨xs,cs,hv,hx,hcv⟩:=hgv.m6;have hcv:cs= #[]:=q2q hcv.aQ;subst hcv
 have hcf:=F gf _ _ _ _ (hS L D a G hY) _ h0 I (xs++ #[.func (.yield L) #[] #[]]) (λu g=>∃Z H2 n2,PLe ⟨l.f,l.z,l.y,λx=>if x=J then S else l.s x⟩ Z/\HR Z H2 n2 h0 g/\RfE L D J r fn.results.toList a σj G call cd κ H2 n2) r5
  (by rw[q3p];exact(VRs.mono le4 _ _ hx).append (.cons rfl .nil)) λZ v H2 n2 u g le hg hu k=>⟨Z,H2,n2,le,hg,k⟩
 have hev:a3.eval (.tmp r.gt)= .func (.func gf) xs #[]:=by rw[M.eval];exact hv
 refine⟨L,[{target:= .collected w3.heap.size,args:= #[]}],w4,{target:= .fn (.func gf) #[],args:=xs++ #[.func (.yield L) #[] #[]]},w4,gf,xs++ #[.func (.yield L) #[] #[]],w4,?_,?_,λ_ _=>trivial,?_,λq=>Bool.noConfusion q,?_⟩
 ·rw[hL];exact run_enterLoop_outer _ _ _ _ _
 ·simp only[resolve,rangeCall,hev,Deferred.ofValue,Sem.run_pure,List.map_toArray,q1j,List.map_nil];rfl
 ·(try simp only[invoke])
  rw[mV hcf.1];simp
 refine callsIn_wide.2 ((hcf.2 w4 hi4).mono λe w5 ⟨v5,g5,he,hi5,hs5,Z,H2,n2,le5,r6,O,pd,Hx,nx,hb2,hst,hpd,hox,hE⟩=>?_);subst he;obtain⟨⟨hex6,φx,g6,hgn6,V,hy6,rx,fx⟩,hc6⟩:=r6.sep J _ hb2;have gL:=V _ _ (rx.base L _ (s8 L D a O pd)).2;have gD:=V _ _ (rx.base D _ (s9 hDL a O pd)).2
 let R:Obj:= .loop {eE a O pd with state:= .exhausted}
 have r7:=rx.lift hi5.wf hgn6 V hy6;have bL:(oN (Z.s J) (lq L D a O pd) g5).f L=some (.loop (eE a O pd)):=(ky λk=>by rw[s8]at k;cases k.2).trans gL.2;have bD:(oN (Z.s J) (lq L D a O pd) g5).f D=some (.deferred (some [])):=(ky λk=>by rw[s9 hDL]at k;cases k.2).trans gD.2;have r8:=r7.AM (o':=R) bL hox hy6;have hi6:Is (w5.putObj L R) (g5.put L R):=hi5.putObj gL.2;have hs6:bJ w (w5.putObj L R):=(hs4.trans hs5).trans (bJ.putObj _ _ _)
 have hEs:=jG F hcd hcs (D:=[]) (p:=nx) (φ0:=φx) (λb q e=>(rx.dom b q e).1) r.E dE φx _ Hx nx _ _ _ G (g5.put L R)
  (λ_ _=>False) (λρ7 h7=>∃W σ7 H7 n7,PLe φx W/\HR W H7 n7 ((oN (Z.s J) (lq L D a O pd) g5).put L R) h7/\FR W σ7 ρ7/\dk H7/\B8 fn.results.toList σ7 H7 λvs=>RfR J κ H2 n2 H7 (yf vs)) (λ_ _ _=>False) (PLe.refl _) r8 fx hE
  (λ_ _ _ _ _ _ _ _ _ k=>k.elim) (λW σ7 H7 n7 ρ7 h7 l7 r7 f7 ⟨o7,k⟩=>⟨W,σ7,H7,n7,l7,r7,f7,o7,k⟩) (λi _ _ _ _ _ _ _ _ _ k=>k.elim)
 have rel6:oe [{target:= .collected w3.heap.size,args:= #[]}] fn.ntmps {a3 with defers:=[{target:= .collected w3.heap.size,args:= #[]}]++a3.defers} G:=⟨by simp[M.1],M.2⟩
 have tail:r.E.wpIn Fence.wide 0 Tryz.prog (bodyPostM Fence.wide 0 Tryz.prog fn λe w'=>∃v h',e= .returned v/\Is w' h'/\bJ w w'/\K v h') {a3 with defers:=[{target:= .collected w3.heap.size,args:= #[]}]++a3.defers} (w5.putObj L R):=by
  refine wpIn_mono (jn (r:=none) (d:=[{target:= .collected w3.heap.size,args:= #[]}]) (w0:=w) r.E cE _ (X sE) _ _ _ _ _ _ _ _ hEs rel6 hi6 hs6 (λ_ _=>rfl)) λe a7 w7 j=>?_
  cases e with
  |normal=>obtain⟨_,_,_,_,_,_,k⟩:=j;exact k.elim
  |exit i=>obtain⟨_,_,_,_,_,_,k⟩:=j;exact k.elim
  |ret=>
   obtain⟨ρ7,h7,rel7,hi7,hs7,_,W,σ7,H7,n7,l7,r9,f7,o7,hres⟩:=j;have y7:∀q,¬W.y q:=λq j=>hy6 q (l7.y q j)
   have bD2:((oN (Z.s J) (lq L D a O pd) g5).put L R).f D=some (.deferred (some [])):=(aW _ _ _ _ hDL).trans bD;have hD7:=(r9.base D _ bD2).2;have r10:=r9.AM (o':= .deferred none) bD2 o7 y7;have hi8:Is (w7.putObj D (.deferred none)) (h7.put D (.deferred none)):=hi7.putObj hD7;have hw8:=hi7.2 _ _ hD7;have hrk:um Tryz.prog fn.results.toList [] ρ7 (h7.put D (.deferred none)) K:=nh r10 f7 _ [] _ hres λws us k hus=> .here (TC (by omega) hk (l1.trans (le4.trans le5)) r6 hb2 hi5.wf hi8.wf r10.size (λB o e k=>?_) r10 (λB e _=>?_) (by simpa using B4 hus) k)
   ·obtain⟨ws,q1,g',q2,q3⟩:=m5 rel7.rel hi8.2 fn.results.toList [] hrk;show LeavesInM Fence.wide 0 Tryz.prog fn a7.tmps _ a7.defers .returning w7;rw[rel7.1];refine⟨by simp,.inl ⟨w3.heap.size,w7.putObj D (.deferred none),rfl,hD▸run_takeDeferred hw8,?_⟩⟩;exact⟨_,qZ q1,_,g',rfl,hi8.sub q2,hs7.trans (bJ.putObj _ _ _),q3⟩
   ·have kL:B≠L:=λq=>k (q▸gL.1)
    have kD:B≠D:=λq=>k (q▸gD.1)
    refine(r10.base B o ?_).2;rw[aW _ _ _ _ kD,aW _ _ _ _ kL,ky λq=>k q.1];exact e
   ·by_cases k:Z.s J B
    ·exact .inl k
    ·have kL:B≠L:=λq=>k (q▸gL.1)
     have kD:B≠D:=λq=>k (q▸gD.1)
     rw[aW _ _ _ _ kD,aW _ _ _ _ kL,ky λq=>k q.1]at e;exact .inr e
  |_=>exact j.elim
 refine⟨pd,_,run_endLoop (hi5.2 _ _ gL.2) hst,?_⟩;rcases hpd with rfl|rfl
 ·exact tail
 ·exact wpIn_exit (by
   show Exit.inBlock r.id _ (.exit r.id) _ _;simp only[Exit.inBlock,if_true];exact tail)
def KRf:FuncId->EP:=aq 119 Ax evP
theorem tc:aU KRf:=ag az S9
abbrev cRg:CP:=ax KRf 5
theorem G8{t v:Int}:∀(φ ψ:Ph) (u:Value),VR φ (.agg [.si .i64 t,.si .i64 v]) u->VR ψ (.agg [.si .i64 t,.si .i64 v]) u:=λφ ψ u h=>by
 obtain⟨cs,rfl,a⟩:=h.dX;exact .agg (ph rfl a)
def rgI (a b:Int) (O:Smp):AH:=mkH [(3,.cells [.si .i64 a] true),(4,.cells [.si .i64 b] true),(5,.cells [.rw 6 0 O.length 2 0] true),(6,.cells (smp O) true)]
def rgE:AE:=mkE [(4,.ptr 3 0),(5,.ptr 4 0),(7,.ptr 5 0)]
def ecM (S:Sr) (C:Ck5) (Q:HP):AH:=mkH [(0,.cells (c8 S 1 (pts C).length) true),(1,.cells (aY (pts C)) true),(2,dG S C),(6,.sep Q)]
theorem dL{l:List (Nat×AO)}(h:(l.all λx=>x.2.own)=true):dk (mkH l):=λb o e=>Y4.1 h _ (b9 e)
theorem dk.set{H:AH}{d n:Nat}{o:AO}(h:dk H)(ho:o.own=true):dk (PM.set (some o) d H n):=λb a e=>by
 rcases PM.ak d H n b a e with⟨_,q⟩|⟨_,q⟩
 ·injection q with q;subst q;exact ho
 ·exact h b a q
theorem dk.del{H:AH}{d n:Nat}(h:dk H):dk (PM.set none d H n):=λb a e=>by
 rcases PM.ak d H n b a e with⟨_,q⟩|⟨_,q⟩
 ·cases q
 ·exact h b a q
theorem G9 {σ:AE} {H:AH} {n k:Nat} {a b:Int} {O:Smp} {h j:List AV} {l:AV} (r:aj (pa 4) σ= .ptr 3 0) (s:aj (pa 5) σ= .ptr 4 0) (t:aj (pa 7) σ= .ptr 5 0) (u:PM.get H 3=some (.cells h true)) (v:h.map mk=[.si .i64 a]) (w:PM.get H 4=some (.cells j true)) (z:j.map mk=[.si .i64 b])
 (A:PM.get H 5=some (.cells [l] true)) (B:ah H 7 (λc=>if c=6 then k else c) l (.rw 6 0 O.length 2 0)) (C:(∃g,PM.get H k=some (.cells g true)/\g.map mk=smp O)∨(O=[]/\n<=k)) (G:k≠3/\k≠4/\k≠5):Cov 0 σ H n (rgE,rgI a b O,7):=by
 refine Cov.ofR (m:=7) (p:=0) (λc=>if c=6 then k else c) (X5 _) (λb D=>absurd D (q0f b)) (λx d=>?_) (λx d=>?_) (λx d y o e=>?_)
 ·simp only[Z4,Z5,or_false]at d;rcases d with rfl|rfl|rfl
  ·exact ah.ptr (by decide) r
  ·exact ah.ptr (by decide) s
  ·exact ah.ptr (by decide) t
 ·simp only[Z4,Z5,or_false]at d;rcases d with rfl|rfl|rfl|rfl
  ·exact⟨Z0 rfl,.inl ⟨_,u,ao.bA rfl v id⟩⟩
  ·exact⟨Z0 rfl,.inl ⟨_,w,ao.bA rfl z id⟩⟩
  ·refine⟨Z0 rfl,.inl ⟨_,A,ao.cells (Z3 _) id λi I f=>?_⟩⟩
   match i,f with
   |0,f=>injection f with f;subst f;exact⟨_,rfl,B⟩
   |i+1,f=>simp at f
  ·refine⟨Z0 rfl,C.elim (λ⟨g,E,F⟩=> .inl ⟨_,E,ao.bA (b8 _) (by rw[F,bO]) id⟩) (λq=> .inr ⟨by rw[q.1];rfl,q.2⟩)⟩
 ·simp only[Z4,Z5,or_false]at d o;rcases d with rfl|rfl|rfl|rfl<;>rcases o with rfl|rfl|rfl|rfl<;>simp at e⊢<;>omega
theorem Dg{σ:AE}{H:AH}{n:Nat}{S:Sr}{C:Ck5}{Q:HP}(le:List (Nat×AV))(c:∀x∈le,ah H 7 (λb=>b) (aj (pa x.1) σ) x.2)(d:PM.get H 0=some (.cells (c8 S 1 (pts C).length) true))(f:PM.get H 1=some (.cells (aY (pts C)) true))(g:PM.get H 2=some (dG S C))(h:PM.get H 6=some (.sep Q)):Cov 7 σ H n (mkE le,ecM S C Q,7):=by
 refine Cov.ofR (m:=7) (p:=7) (λb=>b) (Z3 _) (λb i=>rfl) c ?_ (λx a y j e=>e);intro x a;simp only[Z4,Z5,or_false]at a;rcases a with rfl|rfl|rfl|rfl
 ·exact⟨Z0 rfl,.inl ⟨_,d,ao.c8 rfl rfl rfl rfl rfl (ah.rw (Z0 rfl) rfl)⟩⟩
 ·exact⟨Z0 rfl,.inl ⟨_,f,ao.aY (aA _)⟩⟩
 ·exact⟨Z0 rfl,.inl ⟨_,g,ao.sep _⟩⟩
 ·exact⟨Z0 rfl,.inl ⟨_,h,ao.sep _⟩⟩
def xZ(L:Nat):AV:= .any (.func (.yield L) #[] #[])
abbrev lo1(C:Ck5)(L i:Nat):List (Nat×AV):=[(1,xZ L),(14,.rw 1 0 (pts C).length 1 0),(15,.si .i64 ((pts C).length:Int)),(16,.si .i64 (i:Int))]
abbrev lo2(C:Ck5)(L i:Nat)(X:Smp)(j:Nat):List (Nat×AV):=[(1,xZ L),(14,.rw 1 0 (pts C).length 1 0),(15,.si .i64 ((pts C).length:Int)),(16,.si .i64 (i:Int)),(21,.fr X.length 2 (smp X)),(22,.si .i64 (X.length:Int)),(23,.si .i64 (j:Int))]
theorem Ha{H:AH}{σ:AE}{C:Ck5}{L i:Nat}(f:aj (pa 1) σ=xZ L)(a:aj (pa 14) σ= .rw 1 0 (pts C).length 1 0)(c:mk (aj (pa 15) σ)= .si .i64 ((pts C).length:Int))(d:mk (aj (pa 16) σ)= .si .i64 (i:Int)):∀x∈lo1 C L i,ah H 7 (λb=>b) (aj (pa x.1) σ) x.2:=λx e=>by
 simp only[Z4,Z5,or_false]at e;rcases e with rfl|rfl|rfl|rfl
 ·show ah H 7 _ (aj (pa 1) σ) (xZ L);rw[f];exact λ_ _ _ _ _ h=>h
 ·exact ah.rw (Z0 rfl) a
 ·exact ah.int c
 ·exact ah.int d
theorem AQ{H:AH}{σ:AE}{C:Ck5}{L i j:Nat}{X:Smp}(l:aj (pa 1) σ=xZ L)(a:aj (pa 14) σ= .rw 1 0 (pts C).length 1 0)(c:mk (aj (pa 15) σ)= .si .i64 ((pts C).length:Int))(d:mk (aj (pa 16) σ)= .si .i64 (i:Int))(e:aj (pa 21) σ= .fr X.length 2 (smp X))(f:mk (aj (pa 22) σ)= .si .i64 (X.length:Int))(g:mk (aj (pa 23) σ)= .si .i64 (j:Int)):∀x∈lo2 C L i X j,ah H 7 (λb=>b) (aj (pa x.1) σ) x.2:=λx k=>by
 simp only[Z4,Z5,or_false]at k;rcases k with rfl|rfl|rfl|rfl|rfl|rfl|rfl
 ·show ah H 7 _ (aj (pa 1) σ) (xZ L);rw[l];exact λ_ _ _ _ _ h=>h
 ·exact ah.rw (Z0 rfl) a
 ·exact ah.int c
 ·exact ah.int d
 ·exact ah.frE e
 ·exact ah.int f
 ·exact ah.int g
def geF(a:Int)(X:Smp):Smp:=X.filter λx=>decide (a<=x.1)
abbrev rgQ (L D:Nat) (rec:Loop) (ρ:Env) (a b:Int) (X:Smp):HP:=De (lq L D rec .ready none) rgE ρ (rgI a b (geF a X)) 7
theorem pv{S:Sr}{C:Ck5}{i:Nat}(h:i<C.length):dG S C= .sep (pk (chs S.sz (C.take i++(C[i].1,C[i].2)::C.drop (i+1)))):=by
 have:=eY h;unfold dG;rw[this]
def ba(a b:Int)(X:Smp):Smp:=X.filter λx=>decide (a<=x.1)&&decide (x.1<=b)
def RgP(S:Sr)(C:Ck5)(O:Smp):PK:=λu a m=>u= .rw 3 0 O.length 2 0/\a=mkH [(0,.cells (c8 S 1 (pts C).length) true),(1,.cells (aY (pts C)) true),(2,dG S C),(3,.cells (smp O) true)]/\m=4
theorem RS{H:AH}{n N:Nat}{S:Sr}{C:Ck5}{O X:Smp}(o:3<=N)(h:X=O)(i:PM.get H 0=some (.cells (c8 S 1 (pts C).length) true))(j:PM.get H 1=some (.cells (aY (pts C)) true))(k:PM.get H 2=some (dG S C))(l:PM.get H N=some (.cells (smp X) true)):∃(d:AV) (f:AH) (m:Nat),Cov 3 (mkE [(0,.rw N 0 X.length 2 0)]) H n (mkE [(0,d)],f,m)/\RgP S C O d f m:=by
 subst h;refine⟨.rw 3 0 X.length 2 0,_,4,?_,rfl,rfl,rfl⟩;refine Cov.ofR (m:=4) (p:=3) (λc=>if c=3 then N else c) (by decide) (λb q=>if_neg (by omega)) (λx a=>?_) (λx a=>?_) (λx a y g e=>?_)
 ·simp only[Z4,Z5,or_false]at a;subst a;exact ah.rw (Z0 rfl) rfl
 ·simp only[Z4,Z5,or_false]at a;rcases a with rfl|rfl|rfl|rfl
  ·exact⟨Z0 rfl,.inl ⟨_,i,ao.c8 rfl rfl rfl rfl rfl (ah.rw (Z0 rfl) rfl)⟩⟩
  ·exact⟨Z0 rfl,.inl ⟨_,j,ao.aY (aA _)⟩⟩
  ·exact⟨Z0 rfl,.inl ⟨_,k,ao.sep _⟩⟩
  ·exact⟨Z0 rfl,.inl ⟨_,l,ao.bA (b8 _) rfl id⟩⟩
 ·simp only[Z4,Z5,or_false]at a g;rcases a with rfl|rfl|rfl|rfl<;>rcases g with rfl|rfl|rfl|rfl<;>simp at e⊢<;>omega
theorem Xv:RTy 52 52 2 16:=⟨_,_,_,rfl,rfl,(λq h=>by cases h),rfl,rfl,rfl,rfl,by decide,by decide⟩
theorem Hb{a b:Int}{X:Smp}(h:∀x∈X,x.1<=b):geF a X=ba a b X:=by
 refine List.filter_congr λx c=>?_
 have:=h x c;simp[this]
theorem Fh{a b:Int}{X Y:Smp}{x:Int×Int}(d:Up (X++x::Y))(h:∀y∈X,y.1<=b)(f:b<x.1):geF a X=ba a b (X++x::Y):=by
 unfold ba;rw[q2c,Hb h]
 have:(x::Y).filter (λy=>decide (a<=y.1)&&decide (y.1<=b))=[]:=List.filter_eq_nil_iff.2 λy c=>by
  have e:=(List.pairwise_append.1 d).2.1
  have:x.1<=y.1:=by
   rcases Z4.1 c with rfl|c
   ·exact Int.le_refl _
   ·exact Int.le_of_lt (List.rel_of_pairwise_cons e c)
  simp only[Z9,decide_eq_true_eq];omega
 rw[this,q0w];rfl
theorem wS{C:Ck5}{i:Nat}(h:i<C.length):ab (C.take (i+1))=ab (C.take i)++C[i].2:=by
 rw[X8 h,jm];congr 1;simp[ab,cnt]
theorem Dh{C:Ck5}{i j:Nat}(h:i<C.length)(a:j<C[i].2.length):ab C=(ab (C.take i)++C[i].2.take j)++C[i].2[j]::(C[i].2.drop (j+1)++ab (C.drop (i+1))):=by
 have b:=eY h;have c:C[i].2=C[i].2.take j++C[i].2[j]::C[i].2.drop (j+1):=by rw[<-q0d a,q1c]
 have d:ab C=ab (C.take i)++(C[i].2++ab (C.drop (i+1))):=by
  have:=congrArg ab b;rw[<-this,jm,bN]
 rw[d];have e:C[i].2++ab (C.drop (i+1))=(C[i].2.take j++C[i].2[j]::C[i].2.drop (j+1))++ab (C.drop (i+1)):=by rw[<-c]
 rw[e];simp only[q0h,q1s]
theorem JI(S:Sr)(C:Ck5)(a b:Int)(p:Okc S C)(F:Up (ab C))(O:(ab C).length<=100000):fv (RfG cRg (tN KRf) 21) [.ptr 0 0,.si .i64 a,.si .i64 b] (mkH (bH (ij S (pts C) C) 0)) 3 (RgP S C (ba a b (ab C))):=by
 have P:=p.few;have G:=p.lo;show RfG cRg _ _ _ _ _ _
 conv=>whnf
 refine⟨by kernel_rfl,Z0 rfl,?_⟩
 conv=>whnf
 refine⟨by decide,62,[.ptr 0 0],[4,5,7],mkH [(3,.cells [.si .i64 a] true),(4,.cells [.si .i64 b] true),(5,.cells [.nsl] true)],mkH [(0,.cells (c8 S 1 (pts C).length) true),(1,.cells (aY (pts C)) true),(2,dG S C)],rgE,rgI a b [],7,rfl,rfl,λc o h=>?_,λc o h=>?_,λc o h=>?_,?_,λL D rec r H=>?_⟩
 ·have hm:=b9 h;simp only[Z4,Z5,or_false]at hm;rcases hm with hm|hm|hm<;>(injection hm with h1 d;subst h1 d;rfl)
 ·have hm:=b9 h;simp only[Z4,Z5,or_false]at hm;rcases hm with hm|hm|hm<;>(injection hm with h1 d;subst h1 d;rfl)
 ·have hm:=b9 h;simp only[Z4,Z5,or_false]at hm;rcases hm with hm|hm|hm<;>(injection hm with h1 d;subst h1 d;exact⟨rfl,rfl⟩)
 ·exact G9 (k:=6) rfl rfl rfl rfl rfl rfl rfl rfl (ah.iP rfl) (.inr ⟨rfl,Z3 _⟩) (by decide)
 conv=>whnf
 refine ae.c6 (λz=>absurd (show(0:Int)<(S.sz:Int) by omega) z) (λ_=>?_)
 conv=>whnf
 refine aR.mk {i:Nat//i<=C.length/\∀x∈ab (C.take i),x.1<=b} 7 (λi=>(mkE (lo1 C L i.val),ecM S C (rgQ L D rec r a b (ab (C.take i.val))))) (λi=>C.length-i.val) ⟨0,X5 _,λx s=>by cases s⟩ ?_ ?_
 focus
  exact Dg _ (Ha rfl rfl rfl rfl) rfl rfl rfl rfl
 intro⟨i,Q,w⟩;have I:IntKind.i64.wrap ((i:Int)+1)=((i+1:Nat):Int):=by rw[al (by omega) (by omega)];omega
 conv=>whnf
 refine ae.dec (λh=>?_) (λh=>?_)
 focus
  have d:i<C.length:=by
   have h:(i:Int)<((pts C).length:Int):=h;rw[an]at h;omega
  conv=>whnf
  refine Idx.mk i rfl (by rw[an];exact d) ?_
  conv=>whnf
  refine aw (dp d (show 0+i*1=i by omega)) ?_
  conv=>whnf
  refine⟨2,S.sz,C.take i,C.drop (i+1),C[i].1,C[i].2,rfl,congrArg some (pv d),by omega,p.dR _ (q0b d),?_⟩
  conv=>whnf
  refine aR.mk {j:Nat//j<=C[i].2.length/\∀x∈ab (C.take i)++C[i].2.take j,x.1<=b} 7 (λj=>(mkE (lo2 C L i C[i].2 j.val),ecM S C (rgQ L D rec r a b (ab (C.take i)++C[i].2.take j.val)))) (λj=>C[i].2.length-j.val) ⟨0,X5 _,by simpa using w⟩ ?_ ?_
  focus
   exact Dg _ (AQ rfl rfl rfl rfl rfl rfl rfl) rfl rfl rfl (congrArg (λX=>some (AO.sep (rgQ L D rec r a b X))) (q0w _).symm)
  have R:=(p.dR _ (q0b d)).2.2;have y:∀{j:Nat},j=C[i].2.length->ab (C.take i)++C[i].2.take j=ab (C.take (i+1)):=λ{j} e=>by rw[wS d,e,q0e]
  have t:∀{j:Nat},j=C[i].2.length->(∀x∈ab (C.take i)++C[i].2.take j,x.1<=b)->∀x∈ab (C.take (i+1)),x.1<=b:=λ{j} e k=>by rw[<-y e];exact k
  intro⟨j,T,u⟩;have l:IntKind.i64.wrap ((j:Int)+1)=((j+1:Nat):Int):=by rw[al (by omega) (by omega)];omega
  conv=>whnf
  refine ae.dec (λh=>?_) (λh=>?_)
  focus
   have g:j<C[i].2.length:=by
    have h:(j:Int)<(C[i].2.length:Int):=h;omega
   have f:=Dh d g;have v:C[i].2.take (j+1)=C[i].2.take j++ [C[i].2[j]]:=X8 g;have J:b<C[i].2[j].1->geF a (ab (C.take i)++C[i].2.take j)=ba a b (ab C):=λz=>(Fh (f▸F) u z).trans (congrArg (ba a b) f.symm)
   have m:¬b<C[i].2[j].1->∀x∈ab (C.take i)++C[i].2.take (j+1),x.1<=b:=λz x s=>by
    rw[v,<-q0h]at s;rcases q0x.1 s with q|q
    ·exact u x q
    ·rw[q3h.1 q];omega
   have A:a<=C[i].2[j].1->(smp (geF a (ab (C.take i)++C[i].2.take j))++ [AV.si .i64 C[i].2[j].1,AV.si .i64 C[i].2[j].2]).map mk=smp (geF a (ab (C.take i)++C[i].2.take (j+1)))/\(geF a (ab (C.take i)++C[i].2.take j)).length+1=(geF a (ab (C.take i)++C[i].2.take (j+1))).length:=λz=>by
    have:geF a (ab (C.take i)++C[i].2.take (j+1))=geF a (ab (C.take i)++C[i].2.take j)++ [C[i].2[j]]:=by
     rw[v,<-q0h];unfold geF;rw[q2c,List.filter_cons_of_pos (by simpa using z),List.filter_nil]
    rw[this,q0k,bO];exact⟨by rw[rH];rfl,by simp⟩
   have B:¬a<=C[i].2[j].1->geF a (ab (C.take i)++C[i].2.take j)=geF a (ab (C.take i)++C[i].2.take (j+1)):=λz=>by
    rw[v,<-q0h];generalize ab (C.take i)++C[i].2.take j=X;unfold geF;rw[q2c,q3q (by simpa using z),List.filter_nil,q0w]
   have n:((geF a (ab (C.take i)++C[i].2.take j)).length+1)*16<=140737488355328:=by
    have U:(geF a (ab (C.take i)++C[i].2.take j)).length<=(ab (C.take i)++C[i].2.take j).length:=q0y _ _;have K:=congrArg List.length f;rw[Z6,Z8]at K;omega
   conv=>whnf
   refine Idx.mk j rfl g ?_
   conv=>whnf
   refine aw (fG g rfl) ?_
   conv=>whnf
   refine Yld.mk _ H ⟨rgI a b (geF a (ab (C.take i)++C[i].2.take j)),7,_,rfl,rfl,G8,dL rfl,?_⟩
   conv=>whnf
   refine⟨((dL rfl).set rfl).set rfl,?_⟩
   conv=>whnf
   refine ae.dec (λz=>?_) (λz=>?_)
   focus
    conv=>whnf
    refine⟨((dL rfl).set rfl).set rfl,rgI a b (geF a (ab (C.take i)++C[i].2.take j)),7,G9 (k:=6) rfl rfl rfl rfl rfl rfl rfl rfl (ah.rw (Z0 rfl) rfl) (.inl ⟨_,rfl,bO _⟩) (by decide),dL rfl,?_⟩
    conv=>whnf
    refine⟨.done,some (.exit 0),rgI a b (geF a (ab (C.take i)++C[i].2.take j)),7,rfl,(λq=>by cases q),.inr rfl,dL rfl,?_⟩
    conv=>whnf
    refine⟨dL rfl,?_⟩
    conv=>whnf
    exact .inr ⟨6,0,_,2,0,smp _,true,rfl,rfl,b8 _,RS (N:=8) (by decide) (J z) rfl rfl rfl rfl⟩
   conv=>whnf
   refine ae.dec (λz2=>?_) (λz2=>?_)
   focus
    conv=>whnf
    refine bF.grow 2 16 1 (geF a (ab (C.take i)++C[i].2.take j)).length [.si .i64 C[i].2[j].1,.si .i64 C[i].2[j].2] (smp (geF a (ab (C.take i)++C[i].2.take j))) _ true Xv (.old rfl) rfl rfl (.rw rfl (fC _)) n ?_
    conv=>whnf
    refine⟨?_,rgI a b (geF a (ab (C.take i)++C[i].2.take (j+1))),7,G9 (k:=9) rfl rfl rfl rfl rfl rfl rfl rfl (ah.rw (Z0 rfl) rfl (A z2).2) (.inl ⟨_,rfl,(A z2).1⟩) (by decide),dL rfl,?_⟩
    ·repeat first|exact dL rfl|refine dk.set ?_ rfl|refine dk.del ?_
    conv=>whnf
    exact⟨⟨j+1,g,m z⟩,by show C[i].2.length-(j+1)<C[i].2.length-j;omega,Dg _ (AQ rfl rfl rfl rfl rfl rfl (congrArg (AV.si .i64) l)) rfl rfl rfl rfl⟩
   conv=>whnf
   refine⟨?_,rgI a b (geF a (ab (C.take i)++C[i].2.take (j+1))),7,G9 (k:=6) rfl rfl rfl rfl rfl rfl rfl rfl (ah.rw (Z0 rfl) rfl (congrArg List.length (B z2))) (.inl ⟨_,rfl,(bO _).trans (congrArg smp (B z2))⟩) (by decide),dL rfl,?_⟩
   ·exact((dL rfl).set rfl).set rfl
   conv=>whnf
   exact⟨⟨j+1,g,m z⟩,by show C[i].2.length-(j+1)<C[i].2.length-j;omega,Dg _ (AQ rfl rfl rfl rfl rfl rfl (congrArg (AV.si .i64) l)) rfl rfl rfl rfl⟩
  have E:j=C[i].2.length:=by
   have h:¬(j:Int)<(C[i].2.length:Int):=h;omega
  conv=>whnf
  exact⟨⟨i+1,d,t E u⟩,by show C.length-(i+1)<C.length-i;omega,Dg _ (Ha rfl rfl rfl (congrArg (AV.si .i64) I)) rfl rfl rfl (congrArg (λX=>some (AO.sep (rgQ L D rec r a b X))) (y E))⟩
 have d:i=C.length:=by
  have h:¬(i:Int)<((pts C).length:Int):=h;rw[an]at h;omega
 have M:geF a (ab (C.take i))=ba a b (ab C):=by
  rw[Hb w,d,q0e]
 conv=>whnf
 refine⟨.ready,none,rgI a b (geF a (ab (C.take i))),7,rfl,(λq=>by cases q),.inl rfl,dL rfl,?_⟩
 conv=>whnf
 refine⟨dL rfl,?_⟩
 conv=>whnf
 exact .inr ⟨6,0,_,2,0,smp _,true,rfl,rfl,b8 _,RS (N:=7) (by decide) M rfl rfl rfl rfl⟩
theorem P9(f:Nat->Nat)(L:Smp):dM f (smp L)=smp L:=by
 induction L with
 |nil=>rfl
 |cons c L a=>
  show AV.si .i64 c.1::AV.si .i64 c.2::dM f (smp L)=_;rw[a];rfl
theorem TD(m:Nat)(L:Smp):jI m (smp L)=true:=by
 induction L with
 |nil=>rfl
 |cons c L a=>exact a
theorem Fi {f:FuncId} {run:List AV->AH->Nat->PK->Prop} (e:ai f run) (j:bM Tryz.prog f=true) {c:List AV} {S:Sr} {C:Ck5} {O:Smp} (h:fv run (.ptr 0 0::c) (mkH (bH (ij S (pts C) C) 0)) 3 (RgP S C O)) (l:∀r,dM r c=c)
 {φ:Ph} {H:AH} {n:Nat} {s t:Hp} {m:Array Value} {κ:PK} {K:KH} {r k q:Nat} (v:HR φ H n s t) (i:eX H n r k q S (pts C) C) (d:VRs φ (.ptr r 0::c) m.toList) (w:cn φ s κ K) (x:κ (.rw n 0 O.length 2 0) (PM.set (some (.cells (smp O) true)) aa H n) (n+1)):dH Tryz.prog f m t K:=by
 refine dj (S:=[r,k,q]) (O:=ij S (pts C) C) (args0:= .ptr 0 0::c) (ai.fv e) j v i.wD (by show VRs φ (ren _ _::dM _ c) m.toList;rw[l];exact d) w h λu B D ⟨y,z,A⟩=>?_
 subst y z A;refine⟨4,PM.set (some (.cells (smp O) true)) aa H n,Z0 rfl,λb o g=>?_,rfl,x⟩;rcases PM.ak aa H n b o g with⟨rfl,a⟩|⟨E,a⟩
 ·injection a with a;subst a;exact .inl ⟨3,.cells (smp O) true,by decide,rfl,rfl,rfl,TD _ _,by rw[cJ,P9]⟩
 ·by_cases g:b∈ [r,k,q]
  ·left;simp only[Z4,Z5,or_false]at g;rcases g with rfl|rfl|rfl
   ·rw[i.hr]at a;injection a with a;subst a;exact⟨0,_,by decide,rfl,rfl,rfl,rfl,rfl⟩
   ·rw[i.hk]at a;injection a with a;subst a;exact⟨1,_,by decide,rfl,rfl,rfl,pq _ _,by rw[cJ,jM]⟩
   ·rw[i.hq]at a;injection a with a;subst a;exact⟨2,_,by decide,rfl,rfl,rfl,rfl,rfl⟩
  ·exact .inr ⟨by show b<n∨n+1<=b;omega,a,λq=>absurd q g⟩
def Ng(A:Sr->Ck5->List AV->Smp->Prop)(args:List AV)(H:AH)(n:Nat)(κ:PK):Prop:=match args with
 |x::a=>∃(r k q:Nat) (S:Sr) (C:Ck5) (O:Smp),x= .ptr r 0/\eX H n r k q S (pts C) C/\(n<900000/\PM.get H n=none)/\A S C a O/\κ (.rw n 0 O.length 2 0) (PM.set (some (.cells (smp O) true)) aa H n) (n+1)
 |_=>False
def VL(S:Sr)(C:Ck5)(c:List AV)(O:Smp):Prop:=∃y z a b,c=[y,z]/\mk y= .si .i64 a/\mk z= .si .i64 b/\Okc S C/\Up (ab C)/\(ab C).length<=100000/\O=ba a b (ab C)
theorem RT:bM Tryz.prog 21=true:=by kernel_rfl
theorem VM:ai 21 (Ng VL):=λargs H n G d I e J L K f c g=>by
 unfold Ng at d;split at d
 ·obtain⟨M,h,i,j,l⟩:=c.cons_inv;obtain⟨r,k,q,S,C,O,rfl,m,N,⟨y,z,a,b,rfl,o,p,s,t,u,rfl⟩,d⟩:=d;obtain⟨P,v,w,x,A⟩:=l.cons_inv;obtain⟨Q,B,D,E,F⟩:=A.cons_inv;exact Fi (RR RT (bV tab.mixed tc 5) (rn tc) (ni tc)) RT (JI S C a b s t u) (λ_=>rfl) f m (by rw[i,w,D];exact .cons j (.cons (aV rfl (o▸x.mk)) (.cons (aV rfl (p▸E.mk)) F))) g d
 ·exact d.elim
def lnI (m:Nat):AH:=mkH [(3,.cells [.si .i64 (m:Int)] true)]
def lnE:AE:=mkE [(3,.ptr 3 0)]
def lcM (S:Sr) (C:Ck5) (Q:HP):AH:=mkH [(0,.cells (c8 S 1 (pts C).length) true),(1,.cells (aY (pts C)) true),(2,dG S C),(4,.sep Q)]
abbrev lnQ (L D:Nat) (rec:Loop) (ρ:Env) (X:Smp):HP:=De (lq L D rec .ready none) lnE ρ (lnI X.length) 4
theorem RU{σ:AE}{H:AH}{n m:Nat}{d:List AV}(f:aj (pa 3) σ= .ptr 3 0)(g:PM.get H 3=some (.cells d true))(h:d.map mk=[.si .i64 (m:Int)]):Cov 0 σ H n (lnE,lnI m,4):=by
 refine Cov.ofR (m:=4) (p:=0) (λc=>c) (X5 _) (λb i=>rfl) (λx a=>?_) (λx a=>?_) (λx a y j e=>e)
 ·simp only[Z4,Z5,or_false]at a;subst a;exact ah.ptr (by decide) f
 ·simp only[Z4,Z5,or_false]at a;subst a;exact⟨Z0 rfl,.inl ⟨_,g,ao.bA rfl h id⟩⟩
theorem Hc{σ:AE}{H:AH}{n:Nat}{S:Sr}{C:Ck5}{Q:HP}(le:List (Nat×AV))(c:∀x∈le,ah H 5 (λb=>b) (aj (pa x.1) σ) x.2)(d:PM.get H 0=some (.cells (c8 S 1 (pts C).length) true))(f:PM.get H 1=some (.cells (aY (pts C)) true))(g:PM.get H 2=some (dG S C))(h:PM.get H 4=some (.sep Q)):Cov 5 σ H n (mkE le,lcM S C Q,5):=by
 refine Cov.ofR (m:=5) (p:=5) (λb=>b) (Z3 _) (λb i=>rfl) c ?_ (λx a y j e=>e);intro x a;simp only[Z4,Z5,or_false]at a;rcases a with rfl|rfl|rfl|rfl
 ·exact⟨Z0 rfl,.inl ⟨_,d,ao.c8 rfl rfl rfl rfl rfl (ah.rw (Z0 rfl) rfl)⟩⟩
 ·exact⟨Z0 rfl,.inl ⟨_,f,ao.aY (aA _)⟩⟩
 ·exact⟨Z0 rfl,.inl ⟨_,g,ao.sep _⟩⟩
 ·exact⟨Z0 rfl,.inl ⟨_,h,ao.sep _⟩⟩
theorem Di{H:AH}{σ:AE}{C:Ck5}{L i:Nat}(f:aj (pa 1) σ=xZ L)(a:aj (pa 14) σ= .rw 1 0 (pts C).length 1 0)(c:mk (aj (pa 15) σ)= .si .i64 ((pts C).length:Int))(d:mk (aj (pa 16) σ)= .si .i64 (i:Int)):∀x∈lo1 C L i,ah H 5 (λb=>b) (aj (pa x.1) σ) x.2:=λx e=>by
 simp only[Z4,Z5,or_false]at e;rcases e with rfl|rfl|rfl|rfl
 ·show ah H 5 _ (aj (pa 1) σ) (xZ L);rw[f];exact λ_ _ _ _ _ h=>h
 ·exact ah.rw (Z0 rfl) a
 ·exact ah.int c
 ·exact ah.int d
theorem Dj{H:AH}{σ:AE}{C:Ck5}{L i j:Nat}{X:Smp}(l:aj (pa 1) σ=xZ L)(a:aj (pa 14) σ= .rw 1 0 (pts C).length 1 0)(c:mk (aj (pa 15) σ)= .si .i64 ((pts C).length:Int))(d:mk (aj (pa 16) σ)= .si .i64 (i:Int))(e:aj (pa 21) σ= .fr X.length 2 (smp X))(f:mk (aj (pa 22) σ)= .si .i64 (X.length:Int))(g:mk (aj (pa 23) σ)= .si .i64 (j:Int)):∀x∈lo2 C L i X j,ah H 5 (λb=>b) (aj (pa x.1) σ) x.2:=λx k=>by
 simp only[Z4,Z5,or_false]at k;rcases k with rfl|rfl|rfl|rfl|rfl|rfl|rfl
 ·show ah H 5 _ (aj (pa 1) σ) (xZ L);rw[l];exact λ_ _ _ _ _ h=>h
 ·exact ah.rw (Z0 rfl) a
 ·exact ah.int c
 ·exact ah.int d
 ·exact ah.frE e
 ·exact ah.int f
 ·exact ah.int g
theorem Qa(S:Sr)(C:Ck5)(d:Okc S C)(x:(ab C).length<=100000):fv (RfG cRg (tN KRf) 57) [.ptr 0 0] (mkH (bH (ij S (pts C) C) 0)) 3 (RoP (λu=>u= .si .i64 ((ab C).length:Int)) S (pts C) C):=by
 have y:=d.few;have l:=d.lo;show RfG cRg _ _ _ _ _ _
 conv=>whnf
 refine⟨by kernel_rfl,Z0 rfl,?_⟩
 conv=>whnf
 refine⟨by decide,62,[.ptr 0 0],[3],mkH [(3,.cells [.int .i64 0] true)],mkH [(0,.cells (c8 S 1 (pts C).length) true),(1,.cells (aY (pts C)) true),(2,dG S C)],lnE,lnI 0,4,rfl,rfl,λc o h=>?_,λc o h=>?_,λc o h=>?_,?_,λL D rec f m=>?_⟩
 ·have hm:=b9 h;simp only[Z4,Z5,or_false]at hm;injection hm with h1 a;subst h1 a;rfl
 ·have hm:=b9 h;simp only[Z4,Z5,or_false]at hm;rcases hm with hm|hm|hm<;>(injection hm with h1 a;subst h1 a;rfl)
 ·have hm:=b9 h;simp only[Z4,Z5,or_false]at hm;injection hm with h1 a;subst h1 a;exact⟨rfl,rfl⟩
 ·exact RU rfl rfl rfl
 conv=>whnf
 refine ae.c6 (λz=>absurd (show(0:Int)<(S.sz:Int) by omega) z) (λ_=>?_)
 conv=>whnf
 refine aR.mk {i:Nat//i<=C.length} 5 (λi=>(mkE (lo1 C L i.val),lcM S C (lnQ L D rec f (ab (C.take i.val))))) (λi=>C.length-i.val) ⟨0,X5 _⟩ ?_ ?_
 focus
  exact Hc _ (Di rfl rfl rfl rfl) rfl rfl rfl rfl
 intro⟨i,A⟩;have n:IntKind.i64.wrap ((i:Int)+1)=((i+1:Nat):Int):=by rw[al (by omega) (by omega)];omega
 conv=>whnf
 refine ae.dec (λh=>?_) (λh=>?_)
 focus
  have a:i<C.length:=by
   have h:(i:Int)<((pts C).length:Int):=h;rw[an]at h;omega
  conv=>whnf
  refine Idx.mk i rfl (by rw[an];exact a) ?_
  conv=>whnf
  refine aw (dp a (show 0+i*1=i by omega)) ?_
  conv=>whnf
  refine⟨2,S.sz,C.take i,C.drop (i+1),C[i].1,C[i].2,rfl,congrArg some (pv a),by omega,d.dR _ (q0b a),?_⟩
  conv=>whnf
  refine aR.mk {j:Nat//j<=C[i].2.length} 5 (λj=>(mkE (lo2 C L i C[i].2 j.val),lcM S C (lnQ L D rec f (ab (C.take i)++C[i].2.take j.val)))) (λj=>C[i].2.length-j.val) ⟨0,X5 _⟩ ?_ ?_
  focus
   exact Hc _ (Dj rfl rfl rfl rfl rfl rfl rfl) rfl rfl rfl (congrArg (λX=>some (AO.sep (lnQ L D rec f X))) (q0w _).symm)
  have B:=(d.dR _ (q0b a)).2.2;have p:∀{j:Nat},j=C[i].2.length->ab (C.take i)++C[i].2.take j=ab (C.take (i+1)):=λ{j} e=>by rw[wS a,e,q0e]
  intro⟨j,E⟩;have g:IntKind.i64.wrap ((j:Int)+1)=((j+1:Nat):Int):=by rw[al (by omega) (by omega)];omega
  conv=>whnf
  refine ae.dec (λh=>?_) (λh=>?_)
  focus
   have b:j<C[i].2.length:=by
    have h:(j:Int)<(C[i].2.length:Int):=h;omega
   have k:=Dh a b;have r:C[i].2.take (j+1)=C[i].2.take j++ [C[i].2[j]]:=X8 b
   have s:IntKind.i64.wrap (((ab (C.take i)++C[i].2.take j).length:Int)+1)=((ab (C.take i)++C[i].2.take (j+1)).length:Int):=by
    have t:=congrArg List.length k;rw[Z6,Z8]at t;rw[r,<-q0h,Z6 (bs:=[_]),al (by omega) (by omega)];simp
   conv=>whnf
   refine Idx.mk j rfl b ?_
   conv=>whnf
   refine aw (fG b rfl) ?_
   conv=>whnf
   refine Yld.mk _ m ⟨lnI (ab (C.take i)++C[i].2.take j).length,4,_,rfl,rfl,G8,dL rfl,?_⟩
   conv=>whnf
   refine⟨dL rfl,?_⟩
   conv=>whnf
   refine⟨?_,lnI (ab (C.take i)++C[i].2.take (j+1)).length,4,RU rfl rfl (congrArg (λq=> [AV.si .i64 q]) s),dL rfl,?_⟩
   ·repeat first|exact dL rfl|refine dk.set ?_ rfl|refine dk.del ?_
   conv=>whnf
   exact⟨⟨j+1,b⟩,by show C[i].2.length-(j+1)<C[i].2.length-j;omega,Hc _ (Dj rfl rfl rfl rfl rfl rfl (congrArg (AV.si .i64) g)) rfl rfl rfl rfl⟩
  have v:j=C[i].2.length:=by
   have h:¬(j:Int)<(C[i].2.length:Int):=h;omega
  conv=>whnf
  exact⟨⟨i+1,a⟩,by show C.length-(i+1)<C.length-i;omega,Hc _ (Di rfl rfl rfl (congrArg (AV.si .i64) n)) rfl rfl rfl (congrArg (λX=>some (AO.sep (lnQ L D rec f X))) (p v))⟩
 have a:i=C.length:=by
  have h:¬(i:Int)<((pts C).length:Int):=h;rw[an]at h;omega
 have w:ab (C.take i)=ab C:=by rw[a,q0e]
 conv=>whnf
 refine⟨.ready,none,lnI (ab (C.take i)).length,4,rfl,(λq=>by cases q),.inl rfl,dL rfl,?_⟩
 conv=>whnf
 refine⟨dL rfl,?_⟩
 conv=>whnf
 exact .inl ⟨λF G u h=>h,nO _ (congrArg (λX:Smp=>AV.si .i64 (X.length:Int)) w) (VTo.mk5 rfl) VR.ez rfl rfl rfl⟩
def TE(S:Sr)(C:Ck5)(a:List AV)(v:AV):Prop:=a=[]/\Okc S C/\(ab C).length<=100000/\v= .si .i64 ((ab C).length:Int)
theorem RV:bM Tryz.prog 57=true:=by kernel_rfl
theorem TF:ai 57 (kh TE):=jN (RR RV (bV tab.mixed tc 5) (rn tc) (ni tc)) RV λS C f v a=>by
 obtain⟨b,c,d,e⟩:=a;subst b e;exact⟨[],λg i h=>h,λ_=>rfl,⟨λ_=>rfl,rfl⟩,Qa S C c d⟩
def Nh:FuncId->EP:=bb 20 [] evP
theorem Qb:aU Nh:=au az (by kernel_rfl) (by kernel_rfl)
def wT(B:Nat)(f:Smp->Smp->Bool)(args:List AV)(H:AH)(n:Nat)(κ:PK):Prop:=match args with
 | [x,y]=>∃L M,mo H x L/\mo H y M/\L.length<=B/\M.length<=B/\κ (.sb (f L M)) H n
 |_=>False
theorem TG{B:Nat}{f:Smp->Smp->Bool}:fU (wT B f):= .pure λargs H n j a=>by
 unfold wT at*;split at a
 ·obtain⟨L,M,b,c,d,e,g⟩:=a;exact⟨_,g,λi h=>⟨L,M,b,c,d,e,h⟩⟩
 ·exact a.elim
theorem Ni {B:Nat} {F:FuncId->EP} (l:aU F) {d:Nat} {f:FuncId} {g:Smp->Smp->Bool} (b:bM Tryz.prog f=true) (q:ax F d f [.nsl,.nsl] .nil 0 λu _ _=>mkT u=mkT (.bool (g [] [])))
 (r:∀M cap,M.length<=B->ax F d f [.nsl,.sy 0 0 M.length cap 0] (mkH [(0,.ro (smp M))]) 1 λu _ _=>mkT u=mkT (.bool (g [] M)))
 (s:∀L cap,L.length<=B->ax F d f [.sy 0 0 L.length cap 0,.nsl] (mkH [(0,.ro (smp L))]) 1 λu _ _=>mkT u=mkT (.bool (g L [])))
 (t:∀L M D E,L.length<=B->M.length<=B->ax F d f [.sy 0 0 L.length D 0,.sy 1 0 M.length E 0] (mkH [(0,.ro (smp L)),(1,.ro (smp M))]) 2 λu _ _=>mkT u=mkT (.bool (g L M))):ai f (wT B g):=λargs H n P m Q G R S K i h o=>by
 unfold wT at m;split at m
 ·obtain⟨x,y,rfl,I,J⟩:=vs2 h;obtain⟨L,M,N,O,w,z,c⟩:=m;rcases N.open i I with⟨rfl,j⟩|⟨p,C,_,k,j⟩<;>rcases O.open i J with⟨rfl,a⟩|⟨T,A,_,e,a⟩
  ·exact ic (v:= .bool (g [] [])) l rfl q c i o b HR.ro0 (.cons (j _) (.cons (a _) .nil))
  ·exact ic (v:= .bool (g [] M)) l rfl (r M A z) c i o b (λa=>HR.ro1 a e) (.cons (j _) (.cons (a _ 0 rfl) .nil))
  ·exact ic (v:= .bool (g L [])) l rfl (s L C w) c i o b (λa=>HR.ro1 a k) (.cons (j _ 0 rfl) (.cons (a _) .nil))
  ·exact ic (v:= .bool (g L M)) l rfl (t L M C A w z) c i o b (λa=>HR.ro2 a k e) (.cons (j _ 0 rfl) (.cons (a _ 1 rfl) .nil))
 ·exact m.elim
theorem TH:iH Tryz.prog 27=some [(0,0),(0,1)]:=by kernel_rfl
def jQ(L M:Smp):Bool:=decide (L=M)
def Fj (L M:Smp) (a b i:Nat):AE×AH:=(mkE [(0,.sy 0 0 L.length a 0),(1,.sy 1 0 M.length b 0),(5,.si .i64 i)],mkH [(0,.ro (smp L)),(1,.ro (smp M))])
theorem Dk {L M:Smp} {c d i p n:Nat} {σ:AE} {H:AH} (f:p<=2) (g:mk (aj (pa 0) σ)= .sy 0 0 L.length c 0) (h:mk (aj (pa 1) σ)= .sy 1 0 M.length d 0) (j:mk (aj (pa 5) σ)= .si .i64 i)
 (k:H.get 0=some (.ro (smp L))) (l:H.get 1=some (.ro (smp M))):Cov p σ H n ((Fj L M c d i).1,(Fj L M c d i).2,2):=by
 refine Cov.of (λb=>b) f (λb m=>rfl) ?_ ?_ ?_
 ·intro x a;simp only[Z4,Z5,or_false]at a;rcases a with rfl|rfl|rfl
  ·exact .sy (by decide) g
  ·exact .sy (by decide) h
  ·exact .int j
 ·intro x a;simp only[Z4,Z5,or_false]at a;rcases a with rfl|rfl
  ·exact⟨by simp,_,k,ao.Ci (b8 L) rfl⟩
  ·exact⟨by simp,_,l,ao.Ci (b8 M) rfl⟩
 ·intro x a y e;simp only[Z4,Z5,or_false]at a e;rcases a with rfl|rfl<;>rcases e with rfl|rfl<;>exact λq=>q
theorem uN{L M:Smp}(h:L≠M):AV.sb false=mkT (.bool (jQ L M)):=by simp[jQ,h,mkT,mk]
theorem Nj{L M:Smp}(h:L=M):AV.sb true=mkT (.bool (jQ L M)):=by simp[jQ,h,mkT,mk]
theorem JJ(L M:Smp)(l m:Nat)(o:L.length<=1000000)(p:M.length<=1000000):ax Nh 3 20 [.sy 0 0 L.length l 0,.sy 1 0 M.length m 0] (mkH [(0,.ro (smp L)),(1,.ro (smp M))]) 2 λu _ _=>mkT u=mkT (.bool (jQ L M)):=by
 conv=>whnf
 refine ae.c6 (λf=>?_) (λf=>?_)
 ·conv=>whnf
  exact(show mkT _=AV.sb false from rfl).trans (uN λe=>f (by rw[e]))
 have c:L.length=M.length:=by have:(L.length:Int)=(M.length:Int):=f;omega
 conv=>whnf
 refine aR.mk {i:Nat//i<L.length+1/\L.take i=M.take i} 2 (λa=>Fj L M l m a.val) (λa=>L.length-a.val) ⟨0,by omega,rfl⟩ ?_ ?_
 ·exact Dk (i:=0) (Z3 2) rfl rfl rfl rfl rfl
 ·intro⟨i,q,g⟩
  conv=>whnf
  refine ae.dec (λh=>?_) (λh=>?_)
  ·have d:i<L.length:=q0o.1 h;have j:i<M.length:=by omega
   have k:L.length-(i+1)<L.length-i:=by omega
   have n:IntKind.i64.wrap ((i:Int)+1)=((i+1:Nat):Int):=by rw[al (x:=(i:Int)+1) (by omega) (by omega)];omega
   conv=>whnf
   refine Idx.mk i rfl d ?_
   conv=>whnf
   refine aw (fG d (by show 0+i*2=i*2;omega)) ?_
   conv=>whnf
   refine Idx.mk i rfl j ?_
   conv=>whnf
   refine aw (fG j (by show 0+i*2=i*2;omega)) ?_
   conv=>whnf
   refine aw (Jt TH) ?_
   conv=>whnf
   refine ae.nsb (λb=>?_) (λb=>?_)
   ·conv=>whnf
    refine(show mkT _=AV.sb false from rfl).trans (uN λe=>?_);subst e;have b:(decide (L[i].1=L[i].1)&&(decide (L[i].2=L[i].2)&&true))=false:=b;simp at b
   ·conv=>whnf
    have b:(decide (L[i].1=M[i].1)&&(decide (L[i].2=M[i].2)&&true))=true:=b;simp only[Bool.and_true,Z9,decide_eq_true_eq]at b;refine⟨⟨i+1,by omega,?_⟩,k,Dk (Z3 2) rfl rfl (congrArg (AV.si .i64) n) rfl rfl⟩;rw[X8 d,X8 j,g,Prod.ext b.1 b.2]
  ·conv=>whnf
   have d:i=L.length:=by have:¬(i:Int)<(L.length:Int):=h;omega
   subst d;refine(show mkT _=AV.sb true from rfl).trans (Nj ?_);rw[q0e,c,q0e]at g;exact g
theorem Qc:ax Nh 3 20 [.nsl,.nsl] .nil 0 λu _ _=>mkT u=mkT (.bool (jQ [] [])):=by
 conv=>whnf
 refine aR.roll 1 ?_
 conv=>whnf
 rfl
theorem Qd(M:Smp)(cap:Nat):ax Nh 3 20 [.nsl,.sy 0 0 M.length cap 0] (mkH [(0,.ro (smp M))]) 1 λu _ _=>mkT u=mkT (.bool (jQ [] M)):=by
 conv=>whnf
 refine ae.c6 (λa=>?_) (λa=>?_)
 ·conv=>whnf
  exact(show mkT _=AV.sb false from rfl).trans (uN λe=>a (by rw[<-e];rfl))
 ·conv=>whnf
  have b:M=[]:=Y5 (by have:(0:Int)=(M.length:Int):=a;omega);subst b;refine aR.roll 1 ?_
  conv=>whnf
  rfl
theorem Qe(L:Smp)(cap:Nat):ax Nh 3 20 [.sy 0 0 L.length cap 0,.nsl] (mkH [(0,.ro (smp L))]) 1 λu _ _=>mkT u=mkT (.bool (jQ L [])):=by
 conv=>whnf
 refine ae.c6 (λa=>?_) (λa=>?_)
 ·conv=>whnf
  exact(show mkT _=AV.sb false from rfl).trans (uN λe=>a (by rw[e];rfl))
 ·conv=>whnf
  have b:L=[]:=Y5 (by have:(L.length:Int)=(0:Int):=a;omega);subst b;refine aR.roll 1 ?_
  conv=>whnf
  refine ae.dec (λh=>absurd h (by decide)) (λ_=>?_)
  conv=>whnf
  rfl
theorem Hd:ai 20 (wT 1000000 jQ):=Ni Qb (by kernel_rfl) Qc (λM cap _=>Qd M cap) (λL cap _=>Qe L cap) JJ
theorem rO(S:Sr)(L:Smp)(t v p:Int):(fc S L t v p).1.2.length<=L.length+1:=by
 unfold fc;generalize (if p=0 then S.pol else p)=q;split
 ·exact q2b _
 ·split
  ·exact q2b _
  ·split
   ·exact X9 (oM _ _ _) (wK _ _ _ _).1
   ·exact q2b _
theorem Nk(S:Sr)(L:Smp)(ret p:Int):(jP S L ret p).1.2.length<=L.length:=by
 unfold jP;split
 ·exact oM _ _ _
 ·exact Z3 _
def Hf(args:List AV)(H:AH)(n:Nat)(κ:PK):Prop:=match args with
 | [x,y,z]=>∃(r k q:Nat) (S:Sr) (C:Ck5) (t v p:Int) (L:Smp) (b:Sr) (c:Smp) (e:Int),x= .ptr r 0/\nr y t v/\mk z= .si .i64 p/\eX H n r k q S (pts C) C/\jO S C/\aN v/\ab C=L/\L.length<=40000/\fc S L t v p=((b,c),e)/\∀a,jO b a->ab a=c->κ (.si .i64 e) (fX H n r k q b (pts a) a) (n+1)
 |_=>False
theorem TI:ai 72 Hf:=λargs H n j a=>Tv args H n j (by
 unfold Hf at a;unfold AI;split at a
 ·obtain⟨r,k,q,S,C,t,v,p,L,A,B,e,l,m,o,s,u,w,x,y,d,b⟩:=a;subst x;refine⟨r,k,q,S,C,t,v,p,l,m,o,s,u,w,y,λz c f g h=>?_⟩;have i:=rO S (ab C) t v p;rw[d]at c f g h i;have:=b z ⟨f,g,h,by rw[c];dsimp only at i⊢;omega⟩ c;rw[d];exact this
 ·exact a.elim)
def Hg(args:List AV)(H:AH)(n:Nat)(κ:PK):Prop:=match args with
 | [x,y,z]=>∃(r k q:Nat) (S:Sr) (C:Ck5) (a b:Int) (L d:Smp) (m:Nat),x= .ptr r 0/\mk y= .si .i64 a/\mk z= .si .i64 b/\eX H n r k q S (pts C) C/\jO S C/\ab C=L/\L.length<=40000/\aJ L a b=d/\L.length-d.length=m/\∀c,jO S c->ab c=d->κ (.si .i64 (m:Int)) (fX H n r k q S (pts c) c) (n+1)
 |_=>False
theorem TJ:ai 100 Hg:=λargs H n g c=>M8 args H n g (by
 unfold Hg at c;unfold uM;split at c
 ·obtain⟨r,k,q,S,C,a,b,L,w,m,h,i,j,l,d,o,x,p,s,e⟩:=c;subst o p s;have y:=AD C;have z:=d.gt.few;have A:=oM (ab C) a b;exact⟨r,k,q,S,C,a,b,h,i,j,l,d.gt.gd.pf,by omega,by omega,λt f u v=>e t ⟨u,v,d.num,by rw[f];omega⟩ f⟩
 ·exact c.elim)
def Hh(args:List AV)(H:AH)(n:Nat)(κ:PK):Prop:=match args with
 | [x,y,z]=>∃(r k q:Nat) (S:Sr) (C:Ck5) (ret p:Int) (L:Smp) (b:Sr) (c:Smp) (e:Int),x= .ptr r 0/\mk y= .si .i64 ret/\mk z= .si .i64 p/\eX H n r k q S (pts C) C/\jO S C/\ab C=L/\L.length<=40000/\jP S L ret p=((b,c),e)/\∀a,jO b a->ab a=c->κ (.si .i64 e) (fX H n r k q b (pts a) a) (n+1)
 |_=>False
theorem TK:ai 108 Hh:=λargs H n j a=>Ty args H n j (by
 unfold Hh at a;unfold AJ;split at a
 ·obtain⟨r,k,q,S,C,ret,p,L,x,y,e,l,m,o,s,t,u,v,d,b⟩:=a;subst u;refine⟨r,k,q,S,C,ret,p,l,m,o,s,t,v,λw c f g h=>?_⟩;have i:=Nk S (ab C) ret p;rw[d]at c f g h i;have:=b w ⟨f,g,h,by rw[c];dsimp only at i⊢;omega⟩ c;rw[d];exact this
 ·exact a.elim)
theorem Nl{S:Sr}(b:128<=S.sz)(d:S.sz<=4096)(hn:mB S):jO S []:=⟨⟨⟨b,d,List.Pairwise.nil,(λc a=>by cases a),(λc a=>by cases a)⟩,(λc a=>by cases a)⟩,(λj h=>by simp at h),hn,X5 _⟩
theorem Qf{sz ret p:Int}{S:Sr}(h:pK sz ret p=some S):jO S []/\S=⟨sz.toNat,ret,p,-1,0⟩:=by
 unfold pK at h;split at h
 ·rename_i k;injection h with h;subst h;exact⟨Nl (by show 128<=sz.toNat;omega) (by show sz.toNat<=4096;omega) ⟨k.2.1,k.2.2,⟨(show(-1:Int)≤-1 by decide),(show(-1:Int)<1099511627776 by decide)⟩,⟨(show(0:Int)<=0 by decide),(show(0:Int)<=1099511627776 by decide)⟩⟩,rfl⟩
 ·cases h
theorem jO.okc{S:Sr}{C:Ck5}(h:jO S C):Okc S C:=h.gt.toPre5.okc (by have:=h.gt.few;have:=h.few;omega)
def Hk(args:List AV)(H:AH)(n:Nat)(κ:PK):Prop:=match args with
 | [x,y,z]=>∃(sz ret p:Int) (r:Option Sr),mk x= .si .i64 sz/\mk y= .si .i64 ret/\mk z= .si .i64 p/\n<900000/\pK sz ret p=r/\match r with
  |none=>κ (.tup [.nil,.int .i64 1]) H n
  |some S=>jO S []->κ (.tup [.ptr n 0,.int .i64 0]) (wQ H n S) (n+3)
 |_=>False
theorem TL:ai 104 Hk:=λargs H n d a=>Tz args H n d (by
 unfold Hk at a;unfold AK;split at a
 ·obtain⟨sz,ret,p,r,e,f,g,h,b,c⟩:=a;refine⟨sz,ret,p,e,f,g,h,λq=>?_,λS q=>?_⟩
  ·rw[b]at q;subst q;exact c
  ·have:=(Qf q).1;rw[b]at q;subst q;exact c this
 ·exact a.elim)
def HP.emp:HP where
 P _ X _:=∀B,¬X B
 loc _ _ _ _ _ _ h:=h
 mono _ _ _ _ _ h:=h
 ex _ _ _ B h hB:=absurd hB (h B)
def HP.exi{i:Type}(c:i->Prop)(Q:i->HP):HP where
 P z X h:=∃a,c a/\(Q a).P z X h
 loc z X h g hn e:=λ⟨a,f,d⟩=>⟨a,f,(Q a).loc z X h g hn e d⟩
 mono z z' X h hz:=λ⟨a,f,d⟩=>⟨a,f,(Q a).mono z z' X h hz d⟩
 ex z X h B:=λ⟨a,_,d⟩ j=>(Q a).ex z X h B d j
structure Loc(χ:Ph)(O:List AO)(X:Nat->Prop)(h:Hp):Prop where
 dom:∀i q,χ i=some q->i<O.length/\X q.B
 live:∀i o,O[i]?=some o->o.own=true/\((χ i=none/\o.free=true)∨∃q ob,χ i=some q/\h.f q.B=some ob/\OR χ q o ob)
 inj:∀i j q q',χ i=some q->χ j=some q'->q.B=q'.B->i=j
 ex:∀B,X B->∃o,h.f B=some o
 sep:∀i Q,O[i]?=some (.sep Q)->Q.P χ.z (χ.s i) h/\∀B,χ.s i B->X B/\(∀j q,χ j=some q->q.B≠B)/\∀j Q',O[j]?=some (.sep Q')->j≠i->¬χ.s j B
theorem Loc.to{χ:Ph}{O:List AO}{X:Nat->Prop}{h g:Hp}(l:Loc χ O X h)(hn:h.n<=g.n)(e:∀B,X B->g.f B=h.f B):Loc χ O X g:=
 ⟨l.dom,λi o a=>⟨(l.live i o a).1,(l.live i o a).2.imp id λ⟨q,j,d,k,m⟩=>⟨q,j,d,(e _ (l.dom i q d).2).trans k,m⟩⟩,l.inj,λB c=>by rw[e B c];exact l.ex B c,
  λi Q a=>⟨Q.loc _ _ _ _ hn (λB c=>e B ((l.sep i Q a).2 B c).1) (l.sep i Q a).1,(l.sep i Q a).2⟩⟩
def wU(O:List AO)(p:Nat×Nat):HP where
 P z X h:=∃a:Ph,(∀q,a.z q->z q)/\(∃T,a 0=some ⟨p.1,p.2,T⟩)/\Loc a O X h
 loc _ _ _ _ g e:=λ⟨a,d,f,c⟩=>⟨a,d,f,c.to g e⟩
 mono _ _ _ _ hz:=λ⟨a,d,f,c⟩=>⟨a,λq i=>hz q (d q i),f,c⟩
 ex _ _ _ B:=λ⟨_,_,_,c⟩ j=>c.ex B j
section
variable {φ:Ph} {H H':AH} {n:Nat} {h0 h:Hp} {b:Nat} {O:List AO} {p:Nat×Nat} {Q:HP} {S:List Nat}
theorem HR.Fk (g:HR φ H n h0 h) (R:b<n) (hb:H.get b=some (.sep Q)) (hP:(wU O p).P φ.z (φ.s b) h)
 (U:∀x o,H'.get x=some o->(∃i o',x=n+i/\O[i]?=some o'/\o=cJ (λc=>n+c) o')∨(x=b/\o= .sep .emp)∨(x≠b/\(x<n∨n+O.length<=x)/\H.get x=some o)):
 ∃ψ T,PLe φ ψ/\ψ n=some ⟨p.1,p.2,T⟩/\HR ψ H' (n+O.length) h0 h:=by
 obtain⟨t,hz,⟨T,h00⟩,l⟩:=hP;have N:=(g.sep b Q hb).2;have V:=g.nu hb
 have φn:∀x,n<=x->φ x=none:=λx w=>by
  cases e:φ x with
  |none=>rfl
  |some q=>have:=(g.dom x q e).1;omega
 have χn:∀i,O.length<=i->t i=none:=λi hi=>by
  cases e:t i with
  |none=>rfl
  |some q=>have:=(l.dom i q e).1;omega
 let ψ:Ph:=⟨λx=>if n<=x then t (x-n)else φ x,φ.z,φ.y,λx=>if n<=x/\x<n+O.length then t.s (x-n)else if x=b then(λ_=>False)else φ.s x⟩
 have k:∀i,ψ (n+i)=t i:=λi=>by
  show(if n<=n+i then t (n+i-n)else _)=_;rw[if_pos (q0j n i),q3b]
 have d:∀x,(x<n∨n+O.length<=x)->ψ x=φ x:=λx w=>by
  show(if n<=x then t (x-n)else φ x)=φ x;split
  ·rw[φn x (by omega),χn _ (by omega)]
  ·rfl
 have sn:∀{i:Nat} {o:AO},O[i]?=some o->ψ.s (n+i)=t.s i:=λ{i o} hi=>by
  have:=(X6.1 hi).1;show(if n<=n+i/\n+i<n+O.length then t.s (n+i-n)else _)=_;rw[if_pos ⟨q0j n i,by omega⟩,q3b]
 have sb:ψ.s b=λ_=>False:=by
  show(if n<=b/\b<n+O.length then _ else if b=b then _ else _)=_;rw[if_neg (by omega),if_pos rfl]
 have so:∀x,(x<n∨n+O.length<=x)->x≠b->ψ.s x=φ.s x:=λx w hxb=>by
  show(if n<=x/\x<n+O.length then _ else if x=b then _ else _)=_;rw[if_neg (by omega),if_neg hxb]
 have J:PLe φ ψ:=⟨λx q e=>by rw[d x (.inl (g.dom x q e).1)];exact e,λ_ h=>h,λ_ h=>h⟩;have sle:SLe t (ψ.pull (λc=>n+c)):=⟨λi q e=>by show ψ (n+i)=_;rw[k];exact e,hz⟩
 have cs:∀x o q,H'.get x=some o->o.own=true->ψ x=some q->(∃i,x=n+i/\t i=some q/\φ.s b q.B)∨((x<n∨n+O.length<=x)/\x≠b/\H.get x=some o/\φ x=some q):=λx o q w ho a=>by
  rcases U x o w with⟨i,o',rfl,u,rfl⟩|⟨rfl,rfl⟩|⟨u,f,W⟩
  ·rw[k]at a;exact .inl ⟨i,rfl,a,(l.dom i q a).2⟩
  ·rw[d _ (.inl R),V]at a;cases a
  ·rw[d _ f]at a;exact .inr ⟨f,u,W,a⟩
 refine⟨ψ,T,J,by have:=k 0;rw[q2o]at this;rw[this];exact h00,⟨λx q e=>?_,λx o e=>?_,λx y o o' q q' w D ho L a hq' e=>?_,g.base,g.size,λq a=>?_,λx Q' w=>?_⟩⟩
 ·by_cases hxn:n<=x
  ·obtain⟨i,rfl⟩:∃i,x=n+i:=⟨x-n,by omega⟩;rw[k]at e;have:=l.dom i q e;exact⟨by omega,(N q.B this.2).1.1⟩
  ·rw[d x (.inl (by omega))]at e;have:=g.dom x q e;exact⟨by omega,this.2⟩
 ·rcases U x o e with⟨i,o',rfl,u,rfl⟩|⟨rfl,rfl⟩|⟨u,f,W⟩
  ·obtain⟨E,⟨v,X⟩|⟨q,ob,v,X,g4⟩⟩:=l.live i o' u
   ·exact .inl ⟨by rw[k];exact v,by rw[kF];exact X⟩
   ·refine .inr ⟨q,ob,by rw[k];exact v,?_,X,(OR.pull (χ:=ψ)).2 (g4.cY sle)⟩;rw[nt,AO.bC E];exact(N q.B (l.dom i q v).2).1.2
  ·exact .inl ⟨by rw[d _ (.inl R)];exact V,rfl⟩
  ·rcases g.live x o W with⟨E,v⟩|⟨q,ob,E,v,X,g4⟩
   ·exact .inl ⟨by rw[d _ f];exact E,v⟩
   ·exact .inr ⟨q,ob,by rw[d _ f];exact E,v,X,g4.mono J⟩
 ·rcases cs x o q w ho a with⟨i,rfl,F,A⟩|⟨F,A,G,I⟩<;>rcases cs y o' q' D L hq' with⟨j,rfl,b1,b2⟩|⟨b1,b2,b3,b4⟩
  ·rw[l.inj i j q q' F b1 e]
  ·exact absurd e.symm ((N _ A).2.1 y o' q' b3 L b4)
  ·exact absurd e ((N _ b2).2.1 x o q G ho I)
  ·exact g.inj x y o o' q q' G b3 ho L I b4 e
 ·refine⟨⟨FzR.mono (φ:=φ) (ψ:=ψ) J.z (g.frz q a).1.1,(g.frz q a).1.2⟩,λx o px w ho hpx=>?_⟩;rcases cs x o px w ho hpx with⟨i,rfl,F,A⟩|⟨F,A,G,I⟩
  ·exact λe=>(N _ A).2.2.1 q a e.symm
  ·exact(g.frz q a).2 x o px G ho I
 ·rcases U x _ w with⟨i,o',rfl,u,f⟩|⟨rfl,f⟩|⟨u,f,W⟩
  ·have f:=mq f.symm;subst f;obtain⟨E,v⟩:=l.sep i Q' u;rw[sn u];refine⟨Q'.mono _ _ _ _ hz E,λB hB=>?_⟩;obtain⟨k1,k2,k3⟩:=v B hB;obtain⟨f1,f2,f3,Y⟩:=N B k1;refine⟨f1,λy o q D ho a=>?_,f3,λy Z D M m=>?_⟩
   ·rcases cs y o q D ho a with⟨j,rfl,F,A⟩|⟨F,A,G,I⟩
    ·exact k2 j q F
    ·exact f2 y o q G ho I
   ·rcases U y _ D with⟨j,o',rfl,C,r⟩|⟨rfl,r⟩|⟨C,r,j3⟩
    ·have r:=mq r.symm;subst r;rw[sn C]at m;exact k3 j Z C (λq=>M (by rw[q])) m
    ·rw[sb]at m;exact m
    ·rw[so y r C]at m;exact Y y Z j3 C m
  ·injection f with f;subst f;rw[sb];exact⟨λ_ h=>h,λ_ h=>h.elim⟩
  ·obtain⟨E,v⟩:=g.sep x Q' W;rw[so x f u];refine⟨E,λB hB=>?_⟩;obtain⟨f1,f2,f3,Y⟩:=v B hB;refine⟨f1,λy o q D ho a=>?_,f3,λy Z D M m=>?_⟩
   ·rcases cs y o q D ho a with⟨j,rfl,F,A⟩|⟨F,A,G,I⟩
    ·exact λe=>Y b Q hb (λq=>u q.symm) (by rw[<-e];exact A)
    ·exact f2 y o q G ho I
   ·rcases U y _ D with⟨j,o',rfl,C,r⟩|⟨rfl,r⟩|⟨C,r,j3⟩
    ·have r:=mq r.symm;subst r;rw[sn C]at m;exact Y b Q hb (λq=>u q.symm) ((l.sep j Z C).2 B m).1
    ·rw[sb]at m;exact m
    ·rw[so y r C]at m;exact Y y Z j3 M m
def yV(H:AH)(S:List Nat)(O:List AO):Prop:=S.Nodup/\S.length=O.length/\∀(i s:Nat) (o:AO),S[i]?=some s->O[i]?=some o->H.get s=some (cJ (bt S 0) o)/\o.own=true/\ltO O.length o=true
theorem HR.JK (l:HR φ H n h0 h) (A:yV H S O) (hb:H.get b=some (.sep .emp)) (hbS:b∉S) {s0 T:Nat} (hs0:S[0]?=some s0) (hp:φ s0=some ⟨p.1,p.2,T⟩)
 (hH:∀x o,H'.get x=some o->(x=b/\o= .sep Q)∨(x≠b/\x∉S/\H.get x=some o)) (hQ:∀z X h,(wU O p).P z X h->Q.P z X h):
 ∃ψ,SLe φ ψ/\PLe φ ψ/\ψ.f=φ.f/\HR ψ H' n h0 h:=by
 have hbo:=l.nu hb
 have ofS:∀{i s},S[i]?=some s->∃o,O[i]?=some o/\H.get s=some (cJ (bt S 0) o)/\o.own=true/\ltO O.length o=true:=λ{i s} e=>by
  have J:i<O.length:=by rw[<-A.2.1];exact(X6.1 e).1
  exact⟨O[i],X4 J,A.2.2 i s O[i] e (X4 J)⟩
 have ofO:∀{i o},O[i]?=some o->∃s,S[i]?=some s:=λ{i o} e=>by
  have:=(X6.1 e).1;rw[<-A.2.1]at this;exact⟨S[i],X4 this⟩
 let X:Nat->Prop:=λB=>(∃(i s:Nat) (q:Pl),S[i]?=some s/\φ s=some q/\q.B=B)∨∃(i s:Nat) (L:HP),S[i]?=some s/\O[i]?=some (AO.sep L)/\φ.s s B
 let Y:Ph:=⟨λi=>match S[i]? with|some s=>φ s|none=>none,φ.z,φ.y,λi=>match S[i]? with|some s=>φ.s s|none=>λ_=>False⟩
 have M:∀{i s},S[i]?=some s->Y i=φ s:=λ{i s} e=>by
  show(match S[i]? with|some s=>φ s|none=>none)=_;rw[e]
 have χs:∀{i s},S[i]?=some s->Y.s i=φ.s s:=λ{i s} e=>by
  show(match S[i]? with|some s=>φ.s s|none=>λ_=>False)=_;rw[e]
 have N:∀{i q},Y i=some q->∃s,S[i]?=some s/\φ s=some q:=λ{i q} e=>by
  have e:(match S[i]? with|some s=>φ s|none=>none)=some q:=e;cases hi:S[i]? with
  |none=>rw[hi]at e;cases e
  |some s=>rw[hi]at e;exact⟨s,rfl,e⟩
 have own:∀{i s q},S[i]?=some s->φ s=some q->∃o,O[i]?=some o/\H.get s=some (cJ (bt S 0) o)/\(cJ (bt S 0) o).own=true:=λ{i s q} e1 _=>by
  obtain⟨o,a,c,F,_⟩:=ofS e1;exact⟨o,a,c,by rw[iR];exact F⟩
 have hl:Loc Y O X h:=by
  refine⟨λi q e=>?_,λi o e=>?_,λi j q C e e' I=>?_,λB I=>?_,λi L e=>?_⟩
  ·obtain⟨s,a,c⟩:=N e;exact⟨by rw[<-A.2.1];exact(X6.1 a).1,.inl ⟨i,s,q,a,c,rfl⟩⟩
  ·obtain⟨s,a⟩:=ofO e;obtain⟨c,F,h4⟩:=A.2.2 i s o a e;refine⟨F,?_⟩;rcases l.live s _ c with⟨G,t⟩|⟨q,ob,G,t,v,Z⟩
   ·exact .inl ⟨by rw[M a];exact G,by rw[kF]at t;exact t⟩
   ·refine .inr ⟨q,ob,by rw[M a];exact G,v,?_⟩;have g5:=(OR.pull (χ:=φ) (r:=bt S 0)).1 Z;refine OR.below (m:=O.length) (χ:=Y) (ψ:=φ.pull (bt S 0)) (λb' p' hb' e'=>?_) (λ_ h=>h) h4 g5;have e':φ (bt S 0 b')=some p':=e';have J:b'<S.length:=by rw[A.2.1];exact hb'
    have hg:S[b']?=some S[b']:=X4 J;rw[cF hg]at e';rw[M hg];exact e'
  ·obtain⟨s,a,c⟩:=N e;obtain⟨s',h1',h2'⟩:=N e';obtain⟨o,_,t,v⟩:=own a c;obtain⟨E,_,g2',g3'⟩:=own h1' h2';have:=l.inj s s' _ _ q C t g2' v g3' c h2' I;subst this;exact mr A.1 a h1'
  ·rcases I with⟨i,s,q,a,c,rfl⟩|⟨i,s,L,a,c,F⟩
   ·obtain⟨o,_,t,_⟩:=own a c;obtain⟨ob,_,v,_⟩:=l.of t c;exact⟨ob,v⟩
   ·exact L.ex _ _ _ B (l.sep s L (A.2.2 i s _ a c).1).1 F
  ·obtain⟨s,a⟩:=ofO e;obtain⟨k1,k2⟩:=l.sep s L (A.2.2 i s _ a e).1;rw[χs a];refine⟨k1,λB I=>?_⟩;obtain⟨G,t,v,Z⟩:=k2 B I;refine⟨.inr ⟨i,s,L,a,e,I⟩,λj q hj=>?_,λj Q2 hj w hsj=>?_⟩
   ·obtain⟨s',R,f2⟩:=N hj;obtain⟨o,_,f3,f4⟩:=own R f2;exact t s' _ q f3 f4 f2
   ·obtain⟨s',R⟩:=ofO hj;rw[χs R]at hsj;exact Z s' Q2 (A.2.2 j s' _ R hj).1 (λq=>w (by subst q;exact mr A.1 R a)) hsj
 let ψ:Ph:=⟨φ.f,φ.z,φ.y,λx=>if x=b then X else φ.s x⟩
 have sle:SLe φ ψ:=⟨λ_ _ h=>h,λ_ h=>h⟩
 have old:∀x o q,H'.get x=some o->o.own=true->φ x=some q->x≠b/\x∉S/\H.get x=some o:=λx o q U ho V=>by
  rcases hH x o U with⟨rfl,_⟩|h
  ·rw[hbo]at V;cases V
  ·exact h
 refine⟨ψ,sle,⟨λ_ _ h=>h,λ_ h=>h,λ_ h=>h⟩,rfl,⟨l.dom,λx o U=>?_,λx y o E q C U D ho d V k e=>l.inj x y o E q C (old x o q U ho V).2.2 (old y E C D d k).2.2 ho d V k e,l.base,l.size,λq V=>⟨⟨FzR.mono (φ:=φ) (ψ:=ψ) sle.z (l.frz q V).1.1,(l.frz q V).1.2⟩,λx o px U ho hpx=>(l.frz q V).2 x o px (old x o px U ho hpx).2.2 ho hpx⟩,λx L U=>?_⟩⟩
 ·rcases hH x o U with⟨rfl,rfl⟩|⟨_,_,F⟩
  ·exact .inl ⟨hbo,rfl⟩
  ·rcases l.live x o F with g|⟨q,ob,G,t,v,Z⟩
   ·exact .inl g
   ·exact .inr ⟨q,ob,G,t,v,Z.cY sle⟩
 ·rcases hH x _ U with⟨rfl,c⟩|⟨a,c,F⟩
  ·injection c with c;subst c;have es:ψ.s x=X:=if_pos rfl
   rw[es];refine⟨hQ _ _ _ ⟨Y,λ_ h=>h,⟨T,by rw[M hs0];exact hp⟩,hl⟩,λB I=>?_⟩;rcases I with⟨i,s,q,a,c,rfl⟩|⟨i,s,Q2,a,c,F⟩
   ·obtain⟨o,_,t,v⟩:=own a c;obtain⟨ob,Z,_⟩:=l.of t c;rw[AO.bC v]at Z;refine⟨⟨(l.dom s q c).2,Z⟩,λy E C D d k e=>?_,λq2 hq2 e=>(l.frz q2 hq2).2 s _ q t v c e.symm,λy Q2 D w u=>?_⟩
    ·obtain⟨_,a2,a3⟩:=old y E C D d k;have:=l.inj y s E _ C q a3 t d v k c e;subst this;exact a2 (q0c a)
    ·rcases hH y _ D with⟨W,_⟩|⟨W,_,q3⟩
     ·exact w W
     ·have:ψ.s y=φ.s y:=if_neg W;rw[this]at u;exact((l.sep y Q2 q3).2 _ u).2.1 s _ q t v c rfl
   ·obtain⟨R,f2,f3,f4⟩:=(l.sep s Q2 (A.2.2 i s _ a c).1).2 B F;refine⟨R,λy E C D d k=>f2 y E C (old y E C D d k).2.2 d k,f3,λy Q3 D w u=>?_⟩;rcases hH y _ D with⟨W,_⟩|⟨W,q2,q3⟩
    ·exact w W
    ·have:ψ.s y=φ.s y:=if_neg W;rw[this]at u;exact f4 y Q3 q3 (λe=>q2 (e▸q0c a)) u
  ·obtain⟨k1,k2⟩:=l.sep x L F;have es:ψ.s x=φ.s x:=if_neg a;rw[es];refine⟨k1,λB I=>?_⟩;obtain⟨R,f2,f3,f4⟩:=k2 B I;refine⟨R,λy E C D d k=>f2 y E C (old y E C D d k).2.2 d k,f3,λy Q3 D w u=>?_⟩;rcases hH y _ D with⟨rfl,_⟩|⟨W,q2,q3⟩
   ·have:ψ.s y=X:=if_pos rfl
    rw[this]at u;rcases u with⟨i,s,q,G,t,v⟩|⟨i,s,Q2,G,t,v⟩
    ·obtain⟨o,_,j2,j3⟩:=own G t;exact f2 s _ q j2 j3 t v
    ·exact f4 s Q2 (A.2.2 i s _ G t).1 (λe=>c (e▸q0c G)) v
   ·have:ψ.s y=φ.s y:=if_neg W;rw[this]at u;exact f4 y Q3 q3 w u
theorem HR.hole(d:HR φ H n h0 h):∃ψ,PLe φ ψ/\HR ψ (H.set (some (.sep .emp)) aa n) (n+1) h0 h:=by
 have cs:∀x o,(H.set (some (.sep .emp)) aa n).get x=some o->(x=n/\o= .sep .emp)∨(x≠n/\H.get x=some o):=λx o a=>by
  rcases PM.ak aa H n x o a with⟨t,i⟩|i
  ·injection i with i;exact .inl ⟨t,i.symm⟩
  ·exact .inr i
 have j:φ n=none:=by
  cases e:φ n with
  |none=>rfl
  |some q=>exact absurd (d.dom n q e).1 (q3a _)
 let ψ:Ph:=⟨φ.f,φ.z,φ.y,λx=>if x=n then(λ_=>False)else φ.s x⟩
 have own:∀x o q,(H.set (some (.sep .emp)) aa n).get x=some o->φ x=some q->H.get x=some o:=λx o q a c=>by
  rcases cs x o a with⟨rfl,_⟩|⟨_,I⟩
  ·rw[j]at c;cases c
  ·exact I
 have sle:SLe φ ψ:=⟨λ_ _ h=>h,λ_ h=>h⟩;refine⟨ψ,⟨λ_ _ h=>h,λ_ h=>h,λ_ h=>h⟩,⟨λx q a=>⟨by have:=(d.dom x q a).1;omega,(d.dom x q a).2⟩,λx o a=>?_,λx y o F q G a k ho u c l e=>d.inj x y o F q G (own x o q a c) (own y F G k l) ho u c l e,d.base,d.size,λq c=>⟨⟨FzR.mono (φ:=φ) (ψ:=ψ) sle.z (d.frz q c).1.1,(d.frz q c).1.2⟩,λx o px a ho m=>(d.frz q c).2 x o px (own x o px a m) ho m⟩,λx J a=>?_⟩⟩
 ·rcases cs x o a with⟨rfl,rfl⟩|⟨_,v⟩
  ·exact .inl ⟨j,rfl⟩
  ·rcases d.live x o v with g|⟨q,L,w,A,B,C⟩
   ·exact .inl g
   ·exact .inr ⟨q,L,w,A,B,C.cY sle⟩
 ·rcases cs x _ a with⟨rfl,i⟩|⟨t,v⟩
  ·injection i with i;subst i;have es:ψ.s x=λ_=>False:=if_pos rfl
   rw[es];exact⟨λ_ h=>h,λX D=>D.elim⟩
  ·obtain⟨M,g⟩:=d.sep x J v;have es:ψ.s x=φ.s x:=if_neg t;rw[es];refine⟨M,λX D=>?_⟩;obtain⟨w,A,B,C⟩:=g X D;refine⟨w,λy o q k ho c=>A y o q (own y o q k c) ho c,B,λy N k E r=>?_⟩;rcases cs y _ k with⟨rfl,_⟩|⟨P,R⟩
   ·have:ψ.s y=λ_=>False:=if_pos rfl
    rw[this]at r;exact r
   ·have:ψ.s y=φ.s y:=if_neg P;rw[this]at r;exact C y N R E r
end
def rP:List AO->Nat->AH->AH
 | [],_,H=>H
 |o::O,k,H=>rP O (k+1) (H.set (some o) aa k)
theorem mC:∀{O:List AO} {k:Nat} {H:AH} {x:Nat} {o:AO},(rP O k H).get x=some o->(∃i,x=k+i/\O[i]?=some o)∨((x<k∨k+O.length<=x)/\H.get x=some o)
 | [],k,H,x,o,h=> .inr ⟨by simp only[q1e];omega,h⟩
 |a::O,k,H,x,o,h=>by
  rcases mC (O:=O) h with⟨i,rfl,d⟩|⟨d,e⟩
  ·exact .inl ⟨i+1,by omega,d⟩
  ·rcases PM.ak aa H k x o e with⟨rfl,c⟩|⟨c,f⟩
   ·injection c with c;subst c;exact .inl ⟨0,rfl,rfl⟩
   ·exact .inr ⟨by simp only[Z8];omega,f⟩
def VN(b n:Nat)(p:Nat×Nat)(κ:PK):PK:=λv a f=>∃(S:List Nat) (c:List AO) (d:HP) (e:AH),yV a S c/\a.get b=some (.sep .emp)/\b∉S/\S[0]?=some n/\(∀z X h,(wU c p).P z X h->d.P z X h)/\(∀x o,e.get x=some o->(x=b/\o= .sep d)∨(x≠b/\x∉S/\a.get x=some o))/\κ v e f
section
variable {φ:Ph} {H:AH} {n:Nat} {h0 hp:Hp} {vs:Array Value} {κ:PK} {K:KH} {b:Nat} {O:List AO} {p:Nat×Nat} {Q:HP} {rest:List AV}
theorem ai.Nm {f:FuncId} {run:List AV->AH->Nat->PK->Prop} (k:ai f run) (C:HR φ H n h0 hp) (w:b<n) (D:H.get b=some (.sep Q)) (E:(wU O p).P φ.z (φ.s b) hp) (e:VRs φ (aK p::rest) vs.toList) (F:cn φ h0 κ K)
 (G:run (.ptr n 0::rest) (rP (O.map (cJ λc=>n+c)) n (H.set (some (.sep .emp)) aa b)) (n+O.length) (VN b n p κ)):dH Tryz.prog f vs hp K:=by
 obtain⟨I,T,l,m,y⟩:=C.Fk (H':=rP (O.map (cJ λc=>n+c)) n (H.set (some (.sep .emp)) aa b)) w D E λx o J=>by
  rcases mC J with⟨i,t,j⟩|⟨t,j⟩
  ·rw[q0q,Z7]at j;obtain⟨L,j,q⟩:=j;exact .inl ⟨i,L,t,j,q.symm⟩
  ·rcases PM.ak aa H b x o j with⟨q,r⟩|⟨q,r⟩
   ·injection r with r;exact .inr (.inl ⟨q,r.symm⟩)
   ·exact .inr (.inr ⟨q,by rw[Y0]at t;exact t,r⟩)
 obtain⟨M,N,R,A,U⟩:=e.cons_inv;have A:M=qs p:=A;subst A;refine k _ _ _ _ G I h0 hp vs K y (by rw[R];exact .cons (VR.oF m) (VRs.mono l _ _ U)) λχ v H2 V u g a W X ⟨S,O2,Q2,H3,Y,Z,g3,g4,g5,g6,g7⟩=>?_
 obtain⟨ω,_,d,_,B⟩:=W.JK Y Z g3 g4 (a.b _ _ m) g6 g5;exact F ω v _ V u g ((l.trans a).trans d) B (VR.mono d _ _ X) g7
def VO(b:Nat)(κ:PK):PK:=λv a j=>∃(S:List Nat) (c:List AO) (d:Nat×Nat->HP) (e:Nat×Nat->AH) (g:Nat×Nat->AV) (s0:Nat) (i:AO),yV a S c/\a.get b=some (.sep .emp)/\b∉S/\S[0]?=some s0/\c[0]?=some i/\i.free=false/\(∀p z X h,(wU c p).P z X h->(d p).P z X h)/\(∀p x o,(e p).get x=some o->(x=b/\o= .sep (d p))∨(x≠b/\x∉S/\a.get x=some o))/\(∀p φ T u,φ.f s0=some ⟨p.1,p.2,T⟩->VR φ v u->VR φ (g p) u)/\∀p,κ (g p) (e p) j
theorem ai.VP {f:FuncId} {run:List AV->AH->Nat->PK->Prop} (j:ai f run) {args:List AV} (I:HR φ H n h0 hp) (d:VRs φ args vs.toList) (D:cn φ h0 κ K)
 (J:run args (H.set (some (.sep .emp)) aa n) (n+1) λv r k=>VO n κ v r k∨∃l,(∀x o,l.get x=some o->r.get x=some o)/\κ v l k):dH Tryz.prog f vs hp K:=by
 obtain⟨L,i,t⟩:=I.hole;refine j _ _ _ _ J L h0 hp vs K t (VRs.mono i _ _ d) λM v r k u g a w E N=>?_
 rcases N with⟨S,O2,P,l,v2,s0,R,m,y,U,F,V,W,X,Y,Z,z⟩|⟨l,m,y⟩
 ·obtain⟨j1,j2,j3⟩:=m.2.2 0 s0 R F V;rcases w.live s0 _ j1 with⟨_,G⟩|⟨q,ob,A,_⟩
  ·rw[kF,W]at G;cases G
  ·have e:q=⟨(q.B,q.s).1,(q.B,q.s).2,q.T⟩:=rfl
   rw[e]at A;obtain⟨ω,_,c,_,C⟩:=w.JK (Q:=P (q.B,q.s)) m y U F A (Y _) (X _);exact D ω _ _ k u g ((i.trans a).trans c) C (VR.mono c _ _ (Z _ _ _ _ A E)) (z _)
 ·exact D M v l k u g (i.trans a) (w.less m) E y
end
def cL(p:Nat×Nat)(S:Sr)(L:Smp):HP:=HP.exi (λC:Ck5=>jO S C/\ab C=L) λC=>wU (ij S (pts C) C) p
def iz(S:Sr)(L:Smp):Prop:=∃C,jO S C/\ab C=L
def lO(H:AH)(n:Nat):Prop:=n<800000/\PM.get H n=none/\PM.get H (n+1)=none/\PM.get H (n+2)=none/\PM.get H (n+3)=none
def opS (H:AH) (n b:Nat) (S:Sr) (C:Ck5):AH:=PM.set (some (dG S C)) aa (PM.set (some (.cells (aY (pts C)) true)) aa (PM.set (some (.cells (c8 S (n+1) (pts C).length) true)) aa (PM.set (some (.sep .emp)) aa H b) n) (n+1)) (n+2)
theorem AS(H:AH)(n b:Nat)(S:Sr)(C:Ck5):rP ((ij S (pts C) C).map (cJ λc=>n+c)) n (PM.set (some (.sep .emp)) aa H b)=opS H n b S C:=by
 show rP [cJ _ (.cells (c8 S 1 (pts C).length) true),cJ _ (.cells (aY (pts C)) true),cJ _ (dG S C)] n _=_
 (try simp only[cJ,jM])
 rfl
section
variable {H:AH} {n b:Nat} {S:Sr} {C:Ck5}
theorem oP(hn:n<800000):eX (opS H n b S C) (n+3) n (n+1) (n+2) S (pts C) C:=
 ⟨⟨by omega,by omega,by omega⟩,⟨by omega,by omega,by omega⟩,
  PM.aC aa _ _ _ (aD (by omega)) (by omega) (PM.aC aa _ _ _ (aD (by omega)) (by omega) (PM.bI aa _ _ (aD (by omega)))),
  PM.aC aa _ _ _ (aD (by omega)) (by omega) (PM.bI aa _ _ (aD (by omega))),PM.bI aa _ _ (aD (by omega))⟩
theorem Hl(a:b<n)(hn:n<800000):PM.get (opS H n b S C) b=some (.sep .emp):=
 PM.aC aa _ _ _ (aD (by omega)) (by omega) (PM.aC aa _ _ _ (aD (by omega)) (by omega) (PM.aC aa _ _ _ (aD (by omega)) (by omega) (PM.bI aa _ _ (aD (by omega)))))
theorem Nn(hn:n<800000){x:Nat}{o:AO}(d:x<n∨n+3<=x)(a:x≠b)(c:b<n)(h:PM.get H x=some o):PM.get (opS H n b S C) x=some o:=
 PM.aC aa _ _ _ (aD (by omega)) (by omega) (PM.aC aa _ _ _ (aD (by omega)) (by omega) (PM.aC aa _ _ _ (aD (by omega)) (by omega) (PM.aC aa _ _ _ (aD (by omega)) a h)))
theorem lO.ne(a:lO H n){x:Nat}{o:AO}(h:PM.get H x=some o):x≠n/\x≠n+1/\x≠n+2/\x≠n+3:=
 have key:∀m,PM.get H m=none->x≠m:=λm c e=>by rw[e,c]at h;cases h
 ⟨key _ a.2.1,key _ a.2.2.1,key _ a.2.2.2.1,key _ a.2.2.2.2⟩
theorem eX.yW{d:AH}{e r k q:Nat}(h:eX d e r k q S (pts C) C):yV d [r,k,q] (ij S (pts C) C):=
 ⟨by simp[h.ne.1,h.ne.2.1,h.ne.2.2],rfl,λi s o a c=>by
  match i,a,c with
  |0,a,c=>injection a with a;injection c with c;subst a c;exact⟨h.hr,rfl,rfl⟩
  |1,a,c=>injection a with a;injection c with c;subst a c;exact⟨by rw[cJ,jM];exact h.hk,rfl,pq _ _⟩
  |2,a,c=>injection a with a;injection c with c;subst a c;exact⟨h.hq,rfl,rfl⟩⟩
theorem JL{a r k q:Nat}{S':Sr}{C':Ck5}{c:AH}(e:r<a/\k<a/\q<a)(d:r≠k/\r≠q/\k≠q)(hn:a<890000):eX (fX c a r k q S' (pts C') C') (a+1) r a q S' (pts C') C':=
 ⟨⟨by omega,by omega,by omega⟩,⟨by omega,by omega,by omega⟩,PM.bI aa _ _ (aD (by omega)),
  PM.aC aa _ _ _ (aD (by omega)) (by omega) (PM.aC aa _ _ _ (aD (by omega)) (by omega) (PM.aC aa _ _ _ (aD (by omega)) (by omega) (PM.bI aa _ _ (aD (by omega))))),
  PM.aC aa _ _ _ (aD (by omega)) (by omega) (PM.aC aa _ _ _ (aD (by omega)) (by omega) (PM.bI aa _ _ (aD (by omega))))⟩
theorem Dl{a r k q:Nat}{S':Sr}{C':Ck5}{d:AH}(hn:a<890000)(e:r<a/\k<a/\q<a){x:Nat}{o:AO}(c:x≠r/\x≠k/\x≠q/\x≠a)(h:PM.get d x=some o):PM.get (fX d a r k q S' (pts C') C') x=some o:=
 PM.aC aa _ _ _ (aD (by omega)) c.1 (PM.aC aa _ _ _ (aD (by omega)) c.2.1 (PM.aC aa _ _ _ (aD (by omega)) c.2.2.1 (PM.aC aa _ _ _ (aD (by omega)) c.2.2.2 h)))
end
section
variable {f:FuncId} {run:List AV->AH->Nat->PK->Prop} {φ:Ph} {H:AH} {n:Nat} {h0 hp:Hp} {vs:Array Value} {κ:PK} {K:KH} {b:Nat} {p:Nat×Nat} {S:Sr} {L:Smp} {rest:List AV}
theorem JM (j:ai f run) (r:HR φ H n h0 hp) (c:b<n) (q:PM.get H b=some (.sep (cL p S L))) (k:lO H n) (d:VRs φ (aK p::rest) vs.toList) (A:cn φ h0 κ K)
 (B:∀C,jO S C->ab C=L->∃v,run (.ptr n 0::rest) (opS H n b S C) (n+3) (λu s t=>u=v/\s=opS H n b S C/\t=n+3)/\κ v H (n+3)):dH Tryz.prog f vs hp K:=by
 obtain⟨C,⟨w,y⟩,D⟩:=(r.sep b _ q).1;obtain⟨v,E,F⟩:=B C w y;have G:ai f λargs H n κ=>∃a:PK,run args H n a/\∀v l m,a v l m->κ v l m:=λargs H n κ ⟨a,I,J⟩ φ h0 h vs K M N O=>j args H n a I φ h0 h vs K M N λP v l m u g Q R T U=>O P v l m u g Q R T (J _ _ _ U)
 refine G.Nm r c q D d A ?_;rw[AS];refine⟨_,E,λu s t ⟨V,W,Y⟩=>?_⟩;subst V W Y;refine⟨[n,n+1,n+2],_,cL p S L,H,(oP k.1).yW,Hl c k.1,by simp;omega,rfl,λz X h Z=>⟨C,⟨w,y⟩,Z⟩,λx o i=>?_,F⟩;by_cases e:x=b
 ·subst e;rw[q]at i;injection i with i;exact .inl ⟨rfl,i.symm⟩
 ·have:=k.ne i;exact .inr ⟨e,by simp;omega,Nn k.1 (by omega) e c i⟩
theorem JN (k:ai f run) (t:HR φ H n h0 hp) (c:b<n) (r:PM.get H b=some (.sep (cL p S L))) (i:lO H n) (d:VRs φ (aK p::rest) vs.toList) (D:cn φ h0 κ K)
 (E:∀C,jO S C->ab C=L->∃v o,run (.ptr n 0::rest) (opS H n b S C) (n+3) (λu w y=>u=v/\w=PM.set (some o) aa (opS H n b S C) (n+3)/\y=n+4)/\κ v (PM.set (some o) aa H (n+3)) (n+4)):dH Tryz.prog f vs hp K:=by
 obtain⟨C,⟨A,B⟩,F⟩:=(t.sep b _ r).1;obtain⟨v,G,I,J⟩:=E C A B;have M:ai f λargs H n κ=>∃a:PK,run args H n a/\∀v m q,a v m q->κ v m q:=λargs H n κ ⟨a,N,O⟩ φ h0 h vs K P Q R=>k args H n a N φ h0 h vs K P Q λT v m q u g U V W Y=>R T v m q u g U V W (O _ _ _ Y)
 refine M.Nm t c r F d D ?_;rw[AS];refine⟨_,I,λu w y ⟨Z,e2,e3⟩=>?_⟩;subst Z e2 e3
 have s:eX (PM.set (some G) aa (opS H n b S C) (n+3)) (n+4) n (n+1) (n+2) S (pts C) C:=by
  have:=oP (H:=H) (b:=b) (S:=S) (C:=C) i.1;have hn:=i.1;exact⟨this.ne,⟨by omega,by omega,by omega⟩,PM.aC aa _ _ _ (aD (by omega)) (by omega) this.hr,PM.aC aa _ _ _ (aD (by omega)) (by omega) this.hk,PM.aC aa _ _ _ (aD (by omega)) (by omega) this.hq⟩
 have hn:=i.1;refine⟨[n,n+1,n+2],_,cL p S L,_,s.yW,PM.aC aa _ _ _ (aD (by omega)) (by omega) (Hl c i.1),by simp;omega,rfl,λz X h hh=>⟨C,⟨A,B⟩,hh⟩,λx o hx=>?_,J⟩;rcases PM.ak aa H (n+3) x o hx with⟨rfl,l⟩|⟨l,j⟩
 ·injection l with l;subst l;exact .inr ⟨by omega,by simp,PM.bI aa _ _ (aD (by omega))⟩
 ·by_cases e:x=b
  ·subst e;rw[r]at j;injection j with j;exact .inl ⟨rfl,j.symm⟩
  ·have:=i.ne j;exact .inr ⟨e,by simp;omega,PM.aC aa _ _ _ (aD (by omega)) l (Nn i.1 (by omega) e c j)⟩
theorem wV (i:ai f run) (r:HR φ H n h0 hp) (c:b<n) (s:PM.get H b=some (.sep (cL p S L))) (j:lO H n) (d:VRs φ (aK p::rest) vs.toList) (D:cn φ h0 κ K) {v:AV} {S':Sr} {k:Smp}
 (E:∀C,jO S C->ab C=L->run (.ptr n 0::rest) (opS H n b S C) (n+3) (λu t w=>u=v/\∃C',jO S' C'/\ab C'=k/\t=fX (opS H n b S C) (n+3) n (n+1) (n+2) S' (pts C') C'/\w=n+4))
 (q:iz S' k->κ v (PM.set (some (.sep (cL p S' k))) aa H b) (n+4)):dH Tryz.prog f vs hp K:=by
 obtain⟨C,⟨F,G⟩,I⟩:=(r.sep b _ s).1;have J:=E C F G;have M:ai f λargs H n κ=>∃a:PK,run args H n a/\∀v l m,a v l m->κ v l m:=λargs H n κ ⟨a,N,O⟩ φ h0 h vs K P Q R=>i args H n a N φ h0 h vs K P Q λT v l m u g U V W Y=>R T v l m u g U V W (O _ _ _ Y)
 refine M.Nm r c s I d D ?_;rw[AS];refine⟨_,J,λu t w ⟨Z,C',y,A,e2,e3⟩=>?_⟩;subst Z e2 e3;have hn:=j.1;refine⟨[n,n+3,n+2],_,cL p S' k,_,(JL (by omega) (by omega) (by omega)).yW,Dl (by omega) (by omega) (by omega) (Hl c j.1),by simp;omega,rfl,λz X h hh=>⟨C',⟨y,A⟩,hh⟩,λx o hx=>?_,q ⟨C',y,A⟩⟩;rcases PM.ak aa H b x o hx with⟨rfl,e⟩|⟨e,B⟩
 ·injection e with e;exact .inl ⟨rfl,e.symm⟩
 ·have:=j.ne B;exact .inr ⟨e,by simp;omega,Dl (by omega) (by omega) (by omega) (Nn j.1 (by omega) e c B)⟩
end
abbrev s0:Sr:=⟨128,10,3,-1,0⟩
abbrev s1:Sr:=⟨128,10,3,5,0⟩
abbrev s2:Sr:=⟨128,10,3,20,10⟩
def la(B:Sr->Smp->List AV->AV->Prop)(args:List AV)(H:AH)(n:Nat)(κ:PK):Prop:=match args with
 |x::a=>∃(b:Nat) (p:Nat×Nat) (S:Sr) (L:Smp) (v:AV),x=aK p/\b<n/\PM.get H b=some (.sep (cL p S L))/\lO H n/\B S L a v/\κ v H (n+3)
 |_=>False
theorem Fl(B:Sr->Smp->List AV->AV->Prop):fU (la B):=λargs H n k a=>by
 unfold la at*;split at a
 ·obtain⟨b,p,S,L,v,c,d,e,f,g,i⟩:=a;exact⟨_,_,_,i,λ_ _ h=>h,q0j _ _,λj h=>⟨b,p,S,L,v,c,d,e,f,g,h⟩⟩
 ·exact a.elim
theorem mD{f:FuncId}{A:Sr->Ck5->List AV->AV->Prop}{B:Sr->Smp->List AV->AV->Prop}(g:ai f (kh A))(h:∀S C L d v,jO S C->ab C=L->B S L d v->A S C d v):ai f (la B):=λargs H n t c u i w x K j a k=>by
 unfold la at c;split at c
 ·obtain⟨b,p,S,L,v,rfl,l,m,e,o,q⟩:=c;exact JM g j l m e a k λC r s=>⟨v,⟨n,n+1,n+2,S,C,v,rfl,oP e.1,h S C L _ v r s o,rfl,rfl,rfl⟩,q⟩
 ·exact c.elim
def No(S:Sr)(_:Smp)(a:List AV)(v:AV):Prop:=a=[]/\v= .si .i64 S.mx
def TM(S:Sr)(_:Smp)(a:List AV)(v:AV):Prop:=a=[]/\v= .si .i64 S.ret
def TN(S:Sr)(_:Smp)(a:List AV)(v:AV):Prop:=a=[]/\v= .si .i64 S.pol
def VQ(_:Sr)(L:Smp)(a:List AV)(v:AV):Prop:=∃y t,a=[y]/\mk y= .si .i64 t/\v= .tup [.si .i64 (iD L t).1,.si .i64 (iD L t).2]
def Qg(_:Sr)(L:Smp)(a:List AV)(v:AV):Prop:=a=[]/\v=rM L
def RW(_:Sr)(L:Smp)(a:List AV)(v:AV):Prop:=a=[]/\v= .si .i64 (L.length:Int)
theorem RX:ai 24 (la No):=mD Vz λS C L d v a _ ⟨b,c⟩=>⟨b,a.gt.lo,c⟩
theorem VS:ai 85 (la TM):=mD VC λS C L d v a _ ⟨b,c⟩=>⟨b,a.gt.lo,c⟩
theorem VT:ai 86 (la TN):=mD VF λS C L d v a _ ⟨b,c⟩=>⟨b,a.gt.lo,c⟩
theorem VU:ai 22 (la VQ):=mD To λS C L f v a b ⟨y,t,c,d,e⟩=>by
 subst b;exact⟨y,t,c,d,a.gt,by have:=a.few;omega,e⟩
theorem RY:ai 18 (la Qg):=mD PZ λS C L e v a b ⟨c,d⟩=>by
 subst b;exact⟨c,a.gt,by have:=a.few;omega,d⟩
theorem TO:ai 57 (la RW):=mD TF λS C L e v a b ⟨c,d⟩=>by
 subst b;exact⟨c,a.okc,by have:=a.few;omega,d⟩
def wW(B:Smp->List AV->Smp->Prop)(args:List AV)(H:AH)(n:Nat)(κ:PK):Prop:=match args with
 |x::a=>∃(b:Nat) (p:Nat×Nat) (S:Sr) (L O:Smp),x=aK p/\b<n/\PM.get H b=some (.sep (cL p S L))/\lO H n/\B L a O/\κ (.rw (n+3) 0 O.length 2 0) (PM.set (some (.cells (smp O) true)) aa H (n+3)) (n+4)
 |_=>False
theorem TP(B:Smp->List AV->Smp->Prop):fU (wW B):=λargs H n l a=>by
 unfold wW at*;split at a
 ·obtain⟨b,p,S,L,O,e,f,g,c,i,j⟩:=a;exact⟨_,_,_,j,λx o d=>PM.gne (by have:=c.1;omega) (c.ne d).2.2.2 d,q0j _ _,λk h=>⟨b,p,S,L,O,e,f,g,c,i,h⟩⟩
 ·exact a.elim
theorem Np{f:FuncId}{A:Sr->Ck5->List AV->Smp->Prop}{B:Smp->List AV->Smp->Prop}(i:ai f (Ng A))(h:∀S C L g O,jO S C->ab C=L->B L g O->A S C g O):ai f (wW B):=λargs H n w d x j y z K k a l=>by
 unfold wW at d;split at d
 ·obtain⟨b,p,S,L,O,rfl,m,r,c,s,t⟩:=d;refine JN i k m r c a l λC u v=>⟨_,_,⟨n,n+1,n+2,S,C,O,rfl,oP c.1,⟨by have:=c.1;omega,?_⟩,h S C L _ O u v s,rfl,rfl,rfl⟩,t⟩
  cases e:PM.get (opS H n b S C) (n+3)with
  |none=>rfl
  |some o=>
   have D:=c.1;rcases PM.ak aa _ _ _ _ e with⟨q,_⟩|⟨_,e⟩
   ·omega
   rcases PM.ak aa _ _ _ _ e with⟨q,_⟩|⟨_,e⟩
   ·omega
   rcases PM.ak aa _ _ _ _ e with⟨q,_⟩|⟨_,e⟩
   ·omega
   rcases PM.ak aa _ _ _ _ e with⟨q,_⟩|⟨_,e⟩
   ·omega
   rw[c.2.2.2.2]at e;cases e
 ·exact d.elim
def Dm(L:Smp)(c:List AV)(O:Smp):Prop:=∃y z a b,c=[y,z]/\mk y= .si .i64 a/\mk z= .si .i64 b/\O=ba a b L
theorem RZ:ai 21 (wW Dm):=Np VM λS C L i O c d ⟨y,z,a,b,e,f,g,h⟩=>by
 subst d;exact⟨y,z,a,b,e,f,g,c.okc,c.gt.up,by have:=c.few;omega,h⟩
def Hm(args:List AV)(H:AH)(n:Nat)(κ:PK):Prop:=match args with
 | [x,y,z]=>∃(b:Nat) (p:Nat×Nat) (S:Sr) (L:Smp) (t v q:Int) (a:Sr) (c:Smp) (e:Int),x=aK p/\b<n/\PM.get H b=some (.sep (cL p S L))/\lO H n/\nr y t v/\mk z= .si .i64 q/\aN v/\L.length<=40000/\fc S L t v q=((a,c),e)/\(iz a c->κ (.si .i64 e) (PM.set (some (.sep (cL p a c))) aa H b) (n+4))
 |_=>False
theorem TQ:ai 72 Hm:=λargs H n D c E g F G K h a i=>by
 unfold Hm at c;split at c
 ·obtain⟨b,p,S,L,t,v,q,j,k,e,rfl,l,m,f,o,r,s,u,w,d⟩:=c;exact wV TI h l m f a i (λC x y=>⟨n,n+1,n+2,S,C,t,v,q,L,j,k,e,rfl,o,r,oP f.1,x,s,y,u,w,λz A B=>⟨rfl,z,A,B,rfl,rfl⟩⟩) d
 ·exact c.elim
def Hn(args:List AV)(H:AH)(n:Nat)(κ:PK):Prop:=match args with
 | [x,y,z]=>∃(b:Nat) (p:Nat×Nat) (S:Sr) (L:Smp) (a c:Int) (d:Smp) (m:Nat),x=aK p/\b<n/\PM.get H b=some (.sep (cL p S L))/\lO H n/\mk y= .si .i64 a/\mk z= .si .i64 c/\L.length<=40000/\aJ L a c=d/\L.length-d.length=m/\(iz S d->κ (.si .i64 (m:Int)) (PM.set (some (.sep (cL p S d))) aa H b) (n+4))
 |_=>False
theorem TS:ai 100 Hn:=λargs H n A e B i D E K j d k=>by
 unfold Hn at e;split at e
 ·obtain⟨b,p,S,L,a,c,l,m,rfl,o,q,h,r,s,t,u,f,g⟩:=e;exact wV TJ j o q h d k (λC v w=>⟨n,n+1,n+2,S,C,a,c,L,l,m,rfl,r,s,oP h.1,v,w,t,u,f,λx y z=>⟨rfl,x,y,z,rfl,rfl⟩⟩) g
 ·exact e.elim
def Ho(args:List AV)(H:AH)(n:Nat)(κ:PK):Prop:=match args with
 | [x,y,z]=>∃(b:Nat) (p:Nat×Nat) (S:Sr) (L:Smp) (r q:Int) (a:Sr) (c:Smp) (e:Int),x=aK p/\b<n/\PM.get H b=some (.sep (cL p S L))/\lO H n/\mk y= .si .i64 r/\mk z= .si .i64 q/\L.length<=40000/\jP S L r q=((a,c),e)/\(iz a c->κ (.si .i64 e) (PM.set (some (.sep (cL p a c))) aa H b) (n+4))
 |_=>False
theorem TT:ai 108 Ho:=λargs H n A c B g D E K h a i=>by
 unfold Ho at c;split at c
 ·obtain⟨b,p,S,L,r,q,j,k,e,rfl,l,m,f,o,s,t,u,d⟩:=c;exact wV TK h l m f a i (λC v w=>⟨n,n+1,n+2,S,C,r,q,L,j,k,e,rfl,o,s,oP f.1,v,w,t,u,λx y z=>⟨rfl,x,y,z,rfl,rfl⟩⟩) d
 ·exact c.elim
theorem JO{H:AH}{n:Nat}{S:Sr}(hn:n<900000):eX (wQ H n S) (n+3) n (n+1) (n+2) S (pts []) []:=
 ⟨⟨by omega,by omega,by omega⟩,⟨by omega,by omega,by omega⟩,PM.gne (by omega) (by omega) (PM.gne (by omega) (by omega) (PM.geq (by omega))),PM.gne (by omega) (by omega) (PM.geq (by omega)),PM.geq (by omega)⟩
theorem Dn{H:AH}{n x:Nat}{S:Sr}{o:AO}(hn:n<900000)(a:x≠n/\x≠n+1/\x≠n+2)(h:PM.get H x=some o):PM.get (wQ H n S) x=some o:=
 PM.gne (by omega) a.2.2 (PM.gne (by omega) a.2.1 (PM.gne (by omega) a.1 h))
def AT(args:List AV)(H:AH)(n:Nat)(κ:PK):Prop:=match args with
 | [x,y,z]=>∃(sz ret q:Int) (r:Option Sr),mk x= .si .i64 sz/\mk y= .si .i64 ret/\mk z= .si .i64 q/\lO H n/\pK sz ret q=r/\match r with
  |none=>κ (.tup [.nil,.int .i64 1]) H (n+1)
  |some S=>∀p,iz S []->κ (.tup [aK p,.int .i64 0]) (PM.set (some (.sep (cL p S []))) aa H n) (n+4)
 |_=>False
theorem TU:ai 104 AT:=λargs H n J d l m L M K s a t=>by
 unfold AT at d;split at d
 ·obtain⟨sz,ret,q,r,v,y,A,i,B,k⟩:=d;have N:=i.1;refine TL.VP s a t ?_;refine⟨sz,ret,q,r,v,y,A,by omega,B,?_⟩;cases r with
  |none=>
   refine .inr ⟨H,λx o f=>PM.gne (by omega) (i.ne f).1 f,k⟩
  |some S=>
   intro c;refine .inl ⟨[n+1,n+2,n+3],ij S (pts []) [],λp=>cL p S [],λp=>PM.set (some (.sep (cL p S []))) aa H n,λp=> .tup [aK p,.int .i64 0],n+1,_,(JO (by omega)).yW,Dn (by omega) (by omega) (PM.geq (by omega)),by simp,rfl,rfl,rfl,λp z X h C=>⟨[],⟨c,rfl⟩,C⟩,λp x o f=>?_,λp l T u j D=>?_,λp=>k p ⟨[],c,rfl⟩⟩
   ·rcases PM.ak aa H n x o f with⟨rfl,e⟩|⟨g,b⟩
    ·injection e with e;exact .inl ⟨rfl,e.symm⟩
    ·have:=i.ne b;exact .inr ⟨g,by simp;omega,Dn (by omega) (by omega) (PM.gne (by omega) g b)⟩
   ·obtain⟨cs,rfl,E⟩:=D.eH;obtain⟨w,us,F,g,G⟩:=E.cons_inv;obtain⟨pl,b,I⟩:=g.cD;rw[j]at b;injection b with b;subst b;exact .tup (by rw[F];exact .cons (by subst I;exact rfl) G)
 ·exact d.elim
def wX(args:List AV)(H:AH)(n:Nat)(κ:PK):Prop:=match args with
 | []=>κ (.sb true) H n
 |_=>False
theorem Qh:fU wX:= .pure λargs H n c a=>by
 unfold wX at*;split at a
 ·exact⟨_,a,λb h=>h⟩
 ·exact a.elim
theorem ah.aK{H:AH}{m:Nat}{r:Nat->Nat}{a:AV}{p:Nat×Nat}(e:a=Go.Proofs.YtflehenfikoniaaGreat.aK p):ah H m r a (Go.Proofs.YtflehenfikoniaaGreat.aK p):=by
 subst e;exact λb c v _ _ h=>h
theorem mo.Nq{H:AH}{a:AV}{O:Smp}{b:Nat}(c:a= .rw b 0 O.length 2 0)(d:PM.get H b=some (.cells (smp O) true)):mo H a O:= .inr (.inl (.inl ⟨b,0,0,smp O,smp O,⟨c,by decide⟩,.inr ⟨true,d⟩,fC O,bO O⟩))
theorem yX(L:Smp):jQ L L=true:=by unfold jQ;exact decide_eq_true rfl
def look(L:Smp)(t:Int):Option Int:=if has L t then some (vAt L (plc L t))else none
theorem Up.uniq{L:Smp}(h:Up L){t a b:Int}(d:(t,a)∈L)(c:(t,b)∈L):a=b:=by
 induction L with
 |nil=>cases d
 |cons x L f=>
  obtain⟨e,g⟩:=q1o.1 h;rcases Z4.1 d with d|d<;>rcases Z4.1 c with c|c
  ·rw[<-d]at c;injection c with _ c;exact c.symm
  ·have:=e _ c;rw[<-d]at this;exact absurd this (Int.lt_irrefl _)
  ·have:=e _ d;rw[<-c]at this;exact absurd this (Int.lt_irrefl _)
  ·exact f g d c
theorem mE{L:Smp}(h:Up L){t v:Int}:look L t=some v<->(t,v)∈L:=by
 unfold look;constructor
 ·intro e;split at e
  ·rename_i q;injection e with e;rw[<-e];exact Ag q
  ·cases e
 ·intro a;have b:=(O6 h t).2 ⟨_,a,rfl⟩;rw[if_pos b,h.uniq (Ag b) a]
theorem td{L:Smp}(h:Up L){t:Int}:look L t=none<->∀v,(t,v)∉L:=by
 constructor
 ·intro e v a;rw[(mE h).2 a]at e;cases e
 ·intro b;cases e:look L t with
  |none=>rfl
  |some v=>exact absurd ((mE h).1 e) (b v)
theorem look_eq{L M:Smp}(h:Up L)(k:Up M){t s:Int}(e:∀v,(t,v)∈L<->(s,v)∈M):look L t=look M s:=by
 cases a:look L t with
 |none=>
  exact((td k).2 λv b=>(td h).1 a v ((e v).2 b)).symm
 |some v=>exact((mE k).2 ((e v).1 ((mE h).1 a))).symm
theorem JP(L:Smp)(t:Int):iD L t=match look L t with|some v=>(v,0)|none=>(0,5):=by
 unfold iD look;split<;>rfl
def Xw(p:Int):Option Int->Int->Option Int
 |none,v=>some v
 |some o,v=>if(bg p o v).2≠0 then some o else some (bg p o v).1
theorem JQ{L:Smp}(b:Up L)(t v p s:Int):look (ew L t v p).1 s=if s=t then Xw p (look L t) v else look L s:=by
 have a:=uK b t v p;unfold ew at a⊢;by_cases h:has L t=true
 ·have c:look L t=some (vAt L (plc L t)):=by unfold look;rw[if_pos h]
  rw[if_pos h]at a⊢;rw[c];show _=if s=t then(if(bg p (vAt L (plc L t)) v).2≠0 then _ else _)else _
  by_cases q:(bg p (vAt L (plc L t)) v).2≠0
  ·rw[if_pos q,if_pos q];split
   ·rename_i e;subst e;exact c
   ·rfl
  ·rw[if_neg q]at a⊢;rw[if_neg q];split
   ·rename_i e;subst e;exact(mE a).2 ((rC b h).2 (.inl rfl))
   ·rename_i e;refine look_eq a b λw=>?_
    show(s,w)∈kZ L t _<->_;rw[rC b h];exact⟨λq=>q.elim (λq=>absurd (congrArg Prod.fst q) e) λq=>q.1,λq=> .inr ⟨q,e⟩⟩
 ·have c:look L t=none:=by unfold look;rw[if_neg h]
  rw[if_neg h]at a⊢;rw[c];show _=if s=t then some v else _
  split
  ·rename_i e;subst e;exact(mE a).2 (oI.2 (.inl rfl))
  ·rename_i e;refine look_eq a b λw=>?_
   show(s,w)∈jJ L t v<->_;rw[oI];exact⟨λq=>q.elim (λq=>absurd (congrArg Prod.fst q) e) λq=>q,λq=> .inr q⟩
theorem Dp{L:Smp}(c:Up L)(a b:Int):Up (aJ L a b):=c.sublist List.filter_sublist
theorem jo{L:Smp}{a b:Int}{x:Int×Int}:x∈aJ L a b<->x∈L/\(x.1<a∨b<x.1):=by unfold aJ;rw[q0v];simp
theorem wY{L:Smp}{a b:Int}{x:Int×Int}:x∈ba a b L<->x∈L/\(a<=x.1/\x.1<=b):=by unfold ba;rw[q0v];simp
theorem JR{L:Smp}(c:Up L)(a b s:Int):look (aJ L a b) s=if a<=s/\s<=b then none else look L s:=by
 split
 ·rename_i h;exact(td (Dp c a b)).2 λv d=>by have:=(jo.1 d).2;dsimp only at this;omega
 ·rename_i h;refine look_eq (Dp c a b) c λv=>?_
  rw[jo];exact⟨λq=>q.1,λq=>⟨q,by dsimp only;omega⟩⟩
theorem iz.up{S:Sr}{L:Smp}(h:iz S L):Up L:=by obtain⟨C,a,rfl⟩:=h;exact a.gt.up
theorem iz.dR{S:Sr}{L:Smp}(h:iz S L):∀x∈L,(0<=x.1/\x.1<1099511627776)/\aN x.2:=by
 obtain⟨C,b,rfl⟩:=h;intro x a;obtain⟨l,d,a⟩:=List.mem_flatten.1 a;obtain⟨c,e,rfl⟩:=q0m.1 d;exact(b.gt.dR c e).2.1 x a
theorem iz.num{S:Sr}{L:Smp}(h:iz S L):mB S:=by obtain⟨C,a,rfl⟩:=h;exact a.num
def Qi:DT:=[(8,[(some 1000000,[1,3]),(none,[0,1,2,3,4,5,6,7]),(none,[0,2,3,1,4,5,6,7])])]
def TV:FuncId->EP:=bb 58 Qi (aq 118 wI evP)
theorem Hq:aU TV:=au (ag az Py) (by kernel_rfl) (by kernel_rfl)
def cyM (S:Sr) (C C':Ck5):AH:=mkH [(0,.cells (c8 S 1 (pts C).length) true),(1,.cells (aY (pts C)) true),(2,dG S C),(3,dG S C'),(4,.cells (c8 S 5 (pts C').length) true),(5,.cells (aY (pts C')) true)]
abbrev cyo(C:Ck5)(i:Nat):List (Nat×AV):=[(3,.ptr 4 0),(16,.rw 1 0 (pts C).length 1 0),(17,.si .i64 ((pts C).length:Int)),(18,.si .i64 (i:Int))]
theorem Hr (k:Nat) {σ:AE} {H:AH} {n:Nat} {S:Sr} {C C':Ck5} {f:AV} (le:List (Nat×AV)) (w:5<=k) (h:∀x∈le,ah H 6 (λc=>if c=5 then k else c) (aj (pa x.1) σ) x.2) (i:PM.get H 0=some (.cells (c8 S 1 (pts C).length) true)) (j:PM.get H 1=some (.cells (aY (pts C)) true)) (o:PM.get H 2=some (dG S C)) (r:PM.get H 3=some (dG S C'))
 (s:PM.get H 4=some (.cells [.si .i64 (S.sz:Int),.si .i64 S.ret,.si .i64 S.pol,.si .i64 S.mx,.si .i64 S.fl,f] true)) (d:ah H 6 (λc=>if c=5 then k else c) f (.rw 5 0 (pts C').length 1 0)) (t:(∃l,PM.get H k=some (.cells l true)/\l.map mk=aY (pts C'))∨(C'=[]/\n<=k)):Cov 4 σ H n (mkE le,cyM S C C',6):=by
 refine Cov.ofR (m:=6) (p:=4) (λc=>if c=5 then k else c) (by decide) (λb z=>if_neg (by omega)) h ?_ (λx a y g e=>?_)
 ·intro x a;simp only[Z4,Z5,or_false]at a;rcases a with rfl|rfl|rfl|rfl|rfl|rfl
  ·exact⟨Z0 rfl,.inl ⟨_,i,ao.c8 rfl rfl rfl rfl rfl (ah.rw (Z0 rfl) rfl)⟩⟩
  ·exact⟨Z0 rfl,.inl ⟨_,j,ao.aY (aA _)⟩⟩
  ·exact⟨Z0 rfl,.inl ⟨_,o,ao.sep _⟩⟩
  ·exact⟨Z0 rfl,.inl ⟨_,r,ao.sep _⟩⟩
  ·exact⟨Z0 rfl,.inl ⟨_,s,ao.c8 rfl rfl rfl rfl rfl d⟩⟩
  ·exact⟨Z0 rfl,t.elim (λ⟨l,u,v⟩=> .inl ⟨_,u,ao.aY v⟩) (λq=> .inr ⟨by rw[q.1];rfl,q.2⟩)⟩
 ·simp only[Z4,Z5,or_false]at a g;rcases a with rfl|rfl|rfl|rfl|rfl|rfl<;>rcases g with rfl|rfl|rfl|rfl|rfl|rfl<;>simp at e⊢<;>omega
theorem AU{H:AH}{σ:AE}{C:Ck5}{k i:Nat}(f:aj (pa 3) σ= .ptr 4 0)(a:aj (pa 16) σ= .rw 1 0 (pts C).length 1 0)(b:mk (aj (pa 17) σ)= .si .i64 ((pts C).length:Int))(d:mk (aj (pa 18) σ)= .si .i64 (i:Int)):∀x∈cyo C i,ah H 6 (λc=>if c=5 then k else c) (aj (pa x.1) σ) x.2:=λx e=>by
 simp only[Z4,Z5,or_false]at e;rcases e with rfl|rfl|rfl|rfl
 ·exact ah.ptr (Z0 rfl) f
 ·exact ah.rw (Z0 rfl) a
 ·exact ah.int b
 ·exact ah.int d
def CyP(S:Sr)(C:Ck5):PK:=λu b m=>u= .ptr 4 0/\m=6/\∃a,cnt a=cnt C/\b=cyM S C a
theorem JS(S:Sr)(C:Ck5)(f:Okc S C):fv (ax TV 5 58) [.ptr 0 0] (mkH (bH (ij S (pts C) C++ [dG S []]) 0)) 4 (CyP S C):=by
 have r:=f.few;have l:=f.lo;show ax TV 5 _ _ _ _ _
 conv=>whnf
 refine ae.c6 (λz=>absurd (show(0:Int)<(S.sz:Int) by omega) z) (λ_=>?_)
 conv=>whnf
 refine aR.mk {x:Nat×Ck5//x.1<=C.length/\cnt x.2=(cnt C).take x.1} 6 (λx=>(mkE (cyo C x.val.1),cyM S C x.val.2)) (λx=>C.length-x.val.1) ⟨(0,[]),X5 _,rfl⟩ ?_ ?_
 focus
  exact Hr (C':=[]) 5 _ (Z3 _) (AU rfl rfl rfl rfl) rfl rfl rfl rfl rfl (ah.iP rfl) (.inr ⟨rfl,Z3 _⟩)
 intro⟨(i,a),n,b⟩;dsimp only at n b;have g:IntKind.i64.wrap ((i:Int)+1)=((i+1:Nat):Int):=by rw[al (by omega) (by omega)];omega
 have o:a.length=i:=by have:=congrArg List.length b;rw[cV,Y7,cV]at this;omega
 conv=>whnf
 refine ae.dec (λh=>?_) (λh=>?_)
 focus
  have c:i<C.length:=by
   have h:(i:Int)<((pts C).length:Int):=h;rw[an]at h;omega
  have d:∀q,cnt (a++ [(q,C[i].2)])=(cnt C).take (i+1):=λq=>by
   rw[X8 (by rw[cV];exact c),<-b];unfold cnt;rw[q0k,List.getElem_map];rfl
  have j:∀q,(aY (pts a)++ [aK q]).map mk=aY (pts (a++ [(q,C[i].2)])):=λq=>by rw[kq,rJ,q0k,aA];rfl
  have e:∀q,(pts a).length+1=(pts (a++ [(q,C[i].2)])).length:=λq=>by rw[an,an,Z6];rfl
  conv=>whnf
  refine Idx.mk i rfl (by rw[an];exact c) ?_
  conv=>whnf
  refine aw (dp c (show 0+i*1=i by omega)) ?_
  conv=>whnf
  refine⟨?_,?_,trivial⟩
  focus
   conv=>whnf
   refine⟨2,3,S.sz,C.take i,C.drop (i+1),a,C[i].1,C[i].2,λq=>a++ [(q,C[i].2)],rfl,⟨by decide,by decide,rfl,congrArg some (pv c)⟩,by decide,⟨by decide,by decide,rfl,rfl⟩,rfl,by decide,by omega,λq=>⟨eT.refl _ _,?_⟩⟩
   conv=>whnf
   refine bF.grow 1 8 1 (pts a).length [aK q] (aY (pts a)) _ true C7 (.old rfl) rfl rfl (.rw rfl (bw (by rw[bW,q0i]))) (by rw[an];omega) ?_
   conv=>whnf
   exact⟨⟨(i+1,a++ [(q,C[i].2)]),c,d q⟩,by show C.length-(i+1)<C.length-i;omega,Hr 9 _ (by decide) (AU rfl rfl rfl (congrArg (AV.si .i64) g)) rfl rfl rfl rfl rfl (ah.rw (Z0 rfl) (congrArg (λm=>AV.rw 9 0 m 1 0) (e q))) (.inl ⟨_,rfl,j q⟩)⟩
  conv=>whnf
  refine⟨2,3,S.sz,C.take i,C.drop (i+1),a,C[i].1,C[i].2,λq=>a++ [(q,C[i].2)],rfl,⟨by decide,by decide,rfl,congrArg some (pv c)⟩,by decide,⟨by decide,by decide,rfl,rfl⟩,rfl,by decide,by omega,λq=>⟨eT.refl _ _,?_⟩⟩
  conv=>whnf
  refine bF.grow 1 8 1 (pts a).length [aK q] (aY (pts a)) _ true C7 (.old rfl) rfl rfl (.rw rfl (bw (by rw[bW,q0i]))) (by rw[an];omega) ?_
  conv=>whnf
  exact⟨⟨(i+1,a++ [(q,C[i].2)]),c,d q⟩,by show C.length-(i+1)<C.length-i;omega,Hr 9 _ (by decide) (AU rfl rfl rfl (congrArg (AV.si .i64) g)) rfl rfl rfl rfl rfl (ah.rw (Z0 rfl) (congrArg (λm=>AV.rw 9 0 m 1 0) (e q))) (.inl ⟨_,rfl,j q⟩)⟩
 have c:i=C.length:=by
  have h:¬(i:Int)<((pts C).length:Int):=h;rw[an]at h;omega
 have p:cnt a=cnt C:=by rw[b,c,<-cV C,q0e]
 conv=>whnf
 exact⟨.ptr 4 0,cyM S C a,6,Hr 5 [(0,.ptr 4 0)] (Z3 _) (λx k=>by
  simp only[Z4,Z5,or_false]at k;subst k;exact ah.ptr (Z0 rfl) rfl) rfl rfl rfl rfl rfl (ah.rw (Z0 rfl) rfl) (.inl ⟨_,rfl,aA _⟩),rfl,rfl,a,p,rfl⟩
theorem qG{O:List AO}{H:AH}{n b:Nat}(x:Nat)(o:AO)(g:(rP (O.map (cJ λc=>n+c)) n (PM.set (some (.sep .emp)) aa H b)).get x=some o):(∃i o',x=n+i/\O[i]?=some o'/\o=cJ (λc=>n+c) o')∨(x=b/\o= .sep .emp)∨(x≠b/\(x<n∨n+O.length<=x)/\H.get x=some o):=by
 rcases mC g with⟨i,f,a⟩|⟨f,a⟩
 ·rw[q0q,Z7]at a;obtain⟨o',a,d⟩:=a;exact .inl ⟨i,o',f,a,d.symm⟩
 ·rcases PM.ak aa H b x o a with⟨d,e⟩|⟨d,e⟩
  ·injection e with e;exact .inr (.inl ⟨d,e.symm⟩)
  ·exact .inr (.inr ⟨d,by rw[Y0]at f;exact f,e⟩)
theorem AW{C C':Ck5}(e:cnt C'=cnt C){P:Smp->Prop}(h:∀c∈C,P c.2):∀c∈C',P c.2:=λc b=>by
 have:c.2∈cnt C:=by rw[<-e];exact List.mem_map_of_mem b
 obtain⟨d,hd,q⟩:=q0m.1 this;have a:d.2=c.2:=q;rw[<-a];exact h d hd
theorem jO.cnt{S:Sr}{C C':Ck5}(h:jO S C)(e:Go.Proofs.YtflehenfikoniaaGreat.cnt C'=Go.Proofs.YtflehenfikoniaaGreat.cnt C):jO S C':=by
 have c:ab C'=ab C:=by unfold ab;rw[e]
 have f:C'.length=C.length:=by rw[<-cV,e,cV]
 have d:∀j (a:j<C'.length) (b:j<C.length),C'[j].2=C[j].2:=λj a b=>by
  have:(Go.Proofs.YtflehenfikoniaaGreat.cnt C')[j]?=(Go.Proofs.YtflehenfikoniaaGreat.cnt C)[j]?:=by rw[e]
  unfold Go.Proofs.YtflehenfikoniaaGreat.cnt at this;rw[q0q,q0q,X4 a,X4 b]at this;injection this
 refine⟨⟨⟨h.gt.lo,h.gt.hi,by rw[c];exact h.gt.up,AW e h.gt.dR,AW e (P:=λl=>(aX l).length<=8*S.sz) h.gt.fit⟩,AW e (P:=λl=>l≠[]) h.gt.all⟩,λj a b=>?_,h.num,by rw[c];exact h.few⟩;rw[d j (by omega) (by omega),d (j+1) (by omega) (by omega)];exact h.wh j (by omega) (by omega)
def Dq(args:List AV)(H:AH)(n:Nat)(κ:PK):Prop:=match args with
 | [x]=>∃(b:Nat) (p:Nat×Nat) (S:Sr) (L:Smp),x=aK p/\b<n/\PM.get H b=some (.sep (cL p S L))/\lO H n/\lO H (n+4)/\∀a,κ (aK a) (PM.set (some (.sep (cL a S L))) aa H n) (n+7)
 |_=>False
def cyH (H:AH) (n:Nat) (S:Sr) (C C':Ck5):AH:=PM.set (some (.cells (c8 S (n+2) (pts C).length) true)) aa (PM.set (some (.cells (aY (pts C)) true)) aa (PM.set (some (dG S C)) aa (PM.set (some (dG S C')) aa (PM.set (some (.cells (c8 S (n+6) (pts C').length) true)) aa (PM.set (some (.cells (aY (pts C')) true)) aa H (n+6)) (n+5)) (n+4)) (n+3)) (n+2)) (n+1)
theorem Nr{H:AH}{n x:Nat}{S:Sr}{C C':Ck5}{o:AO}(hn:n<800000)(a:x<n+1∨n+7<=x)(h:PM.get H x=some o):PM.get (cyH H n S C C') x=some o:=
 PM.gne (by omega) (by omega) (PM.gne (by omega) (by omega) (PM.gne (by omega) (by omega) (PM.gne (by omega) (by omega) (PM.gne (by omega) (by omega) (PM.gne (by omega) (by omega) h)))))
theorem TW{H:AH}{n:Nat}{S:Sr}{C C':Ck5}(hn:n<800000):eX (cyH H n S C C') (n+7) (n+1) (n+2) (n+3) S (pts C) C:=
 ⟨⟨by omega,by omega,by omega⟩,⟨by omega,by omega,by omega⟩,PM.geq (by omega),PM.gne (by omega) (by omega) (PM.geq (by omega)),PM.gne (by omega) (by omega) (PM.gne (by omega) (by omega) (PM.geq (by omega)))⟩
def TX (H:AH) (n b:Nat) (S:Sr) (C C':Ck5) (Q:HP):AH:=PM.set (some (.sep Q)) aa (PM.set none aa (PM.set none aa (PM.set none aa (cyH H n S C C') (n+1)) (n+2)) (n+3)) b
theorem wZ{H:AH}{n b x:Nat}{S:Sr}{C C':Ck5}{Q:HP}{o:AO}(hn:n<800000)(c:b<n)(a:x≠b/\x≠n+1/\x≠n+2/\x≠n+3)(h:PM.get (cyH H n S C C') x=some o):PM.get (TX H n b S C C' Q) x=some o:=
 PM.gne (by omega) a.1 (PM.gne (by omega) a.2.2.2 (PM.gne (by omega) a.2.2.1 (PM.gne (by omega) a.2.1 h)))
theorem Qj{H:AH}{n b:Nat}{S:Sr}{C C':Ck5}{Q:HP}(hn:n<800000)(a:b<n):eX (TX H n b S C C' Q) (n+7) (n+5) (n+6) (n+4) S (pts C') C':=
 ⟨⟨by omega,by omega,by omega⟩,⟨by omega,by omega,by omega⟩,
  wZ hn a (by omega) (PM.gne (by omega) (by omega) (PM.gne (by omega) (by omega) (PM.gne (by omega) (by omega) (PM.gne (by omega) (by omega) (PM.geq (by omega)))))),
  wZ hn a (by omega) (PM.gne (by omega) (by omega) (PM.gne (by omega) (by omega) (PM.gne (by omega) (by omega) (PM.gne (by omega) (by omega) (PM.gne (by omega) (by omega) (PM.geq (by omega))))))),
  wZ hn a (by omega) (PM.gne (by omega) (by omega) (PM.gne (by omega) (by omega) (PM.gne (by omega) (by omega) (PM.geq (by omega)))))⟩
theorem Qk:ai 58 Dq:=λargs H n κ F φ W hp vs K hr r hk=>by
 unfold Dq at F;split at F
 ·obtain⟨b,p,S,L,rfl,t,hb,Y,w,F⟩:=F;have y:=Y.1;obtain⟨ψ1,l1,G⟩:=hr.hole;have I:PM.get (PM.set (some (.sep .emp)) aa H n) b=some (.sep (cL p S L)):=PM.gne (by omega) (by omega) hb;obtain⟨C,⟨Z,hf⟩,hP⟩:=(G.sep b _ I).1;obtain⟨ψ2,T,l2,J,j⟩:=G.Fk (O:=ij S (pts C) C) (show b<n+1 by omega) I hP qG;rw[AS]at j;have j:HR ψ2 (opS (PM.set (some (.sep .emp)) aa H n) (n+1) b S C) (n+4) W hp:=j;obtain⟨ψ3,l3,hr3⟩:=j.Va;have hat:=oP (H:=PM.set (some (.sep .emp)) aa H n) (n:=n+1) (b:=b) (S:=S) (C:=C);have A:=Hl (H:=PM.set (some (.sep .emp)) aa H n) (n:=n+1) (b:=b) (S:=S) (C:=C) (by omega)
  have hox:∀x o,PM.get H x=some o->x≠b->PM.get (opS (PM.set (some (.sep .emp)) aa H n) (n+1) b S C) x=some o:=λx o f k=>by
   have:=Y.ne f;have:=w.ne f;by_cases q:n+4<=x∨x<n+1
   ·have hxn:x≠n:=by omega
    unfold opS;exact PM.gne (by omega) (by omega) (PM.gne (by omega) (by omega) (PM.gne (by omega) (by omega) (PM.gne (by omega) k (PM.gne (by omega) hxn f))))
   ·omega
  have D:PM.get (opS (PM.set (some (.sep .emp)) aa H n) (n+1) b S C) n=some (.sep .emp):=PM.gne (by omega) (by omega) (PM.gne (by omega) (by omega) (PM.gne (by omega) (by omega) (PM.gne (by omega) (by omega) (PM.geq (by omega)))));generalize hO:opS (PM.set (some (.sep .emp)) aa H n) (n+1) b S C=O at*;have M:n+1<800000:=by have:=w.1;omega
  obtain⟨a1,a2,a3,a4,a5⟩:=hat M;have A:=A M;obtain⟨w1,us1,q1,e1,r1⟩:=r.cons_inv;have e1:w1=qs p:=e1;subst e1;have l:ψ3 (n+1)=some ⟨p.1,p.2,T⟩:=l3.b _ _ J
  have N:iS (PM.set (some (.sep (pk []))) aa O (n+4)) (n+5) [n+1,n+2,n+3,n+4] (ij S (pts C) C++ [dG S []]):=⟨by simp,rfl,λi s o a c=>by
   match i,a,c with
   |0,a,c=>injection a with a;injection c with c;subst a c;exact⟨by omega,PM.gne (by omega) (by omega) a3,.inr rfl⟩
   |1,a,c=>injection a with a;injection c with c;subst a c;exact⟨by omega,PM.gne (by omega) (by omega) (by rw[cJ,jM];exact a4),.inr rfl⟩
   |2,a,c=>injection a with a;injection c with c;subst a c;exact⟨by omega,PM.gne (by omega) (by omega) a5,.inr rfl⟩
   |3,a,c=>injection a with a;injection c with c;subst a c;exact⟨by omega,PM.geq (by omega),.inr rfl⟩⟩
  refine dj (args0:=[.ptr 0 0]) (κ:=λv H2 n2=>v= .ptr (n+5) 0/\n2=n+7/\∃e,cnt e=cnt C/\H2=cyH (PM.set (some (.sep (pk []))) aa O (n+4)) n S C e) (ay Hq 5 _).fv (by kernel_rfl) hr3 N (by rw[q1];exact .cons (VR.oF l) (VRs.mono ((l1.trans l2).trans l3) _ _ r1)) ?_ (JS S C Z.okc) λu H' n' ⟨g0,g1,e,g2,V⟩=>?_
  ·intro χ v H2 n2 u g m hg hu ⟨g1,g2,e,V,g4⟩;subst g1 g2 g4
   obtain⟨ω1,_,k1,_,P⟩:=hg.JK (O:=ij S (pts C) C) (S:=[n+1,n+2,n+3]) (b:=b) (p:=p) (Q:=cL p S L) (H':=TX (PM.set (some (.sep (pk []))) aa O (n+4)) n b S C e (cL p S L)) (TW y).yW (Nr y (by omega) (PM.gne (by omega) (by omega) A)) (by simp;omega) rfl (m.b _ _ l) (λx o f=>by
    rcases PM.ak aa _ b x o f with⟨E,d⟩|⟨E,d⟩
    ·injection d with d;exact .inl ⟨E,d.symm⟩
    rcases PM.ak aa _ _ x o d with⟨_,j3⟩|⟨j3,j4⟩
    ·cases j3
    rcases PM.ak aa _ _ x o j4 with⟨_,j5⟩|⟨j5,j6⟩
    ·cases j5
    rcases PM.ak aa _ _ x o j6 with⟨_,j7⟩|⟨j7,j8⟩
    ·cases j7
    exact .inr ⟨E,by simp;omega,j8⟩) λz X h N=>⟨C,⟨Z,hf⟩,N⟩
   have R:=Qj (H:=PM.set (some (.sep (pk []))) aa O (n+4)) (S:=S) (C:=C) (C':=e) (Q:=cL p S L) y t;rcases P.live _ _ R.hr with⟨_,U⟩|⟨q,ob,U,_⟩
   ·cases U
   have eq:q=⟨(q.B,q.s).1,(q.B,q.s).2,q.T⟩:=rfl
   rw[eq]at U
   obtain⟨ω2,_,k3,_,hr5⟩:=P.JK (O:=ij S (pts e) e) (S:=[n+5,n+6,n+4]) (b:=n) (p:=(q.B,q.s)) (Q:=cL (q.B,q.s) S L) (H':=PM.set (some (.sep (cL (q.B,q.s) S L))) aa H n) R.yW (wZ y t (by omega) (Nr y (by omega) (PM.gne (by omega) (by omega) D))) (by simp) rfl U (λx o f=>by
    rcases PM.ak aa _ n x o f with⟨E,d⟩|⟨E,d⟩
    ·injection d with d;exact .inl ⟨E,d.symm⟩
    have:=Y.ne d;have:=w.ne d;refine .inr ⟨E,by simp;omega,?_⟩;by_cases k:x=b
    ·subst k;rw[hb]at d;injection d with d;subst d;exact PM.geq (by omega)
    ·exact wZ y t (by omega) (Nr y (by omega) (PM.gne (by omega) (by omega) (hox x o d k)))) λz X h N=>⟨e,⟨Z.cnt V,by unfold ab;rw[V];exact hf⟩,N⟩
   obtain⟨pl,f1,f2⟩:=hu.cD;have f3:=k1.b _ _ f1;rw[U]at f3;injection f3 with f3;refine hk ω2 (aK (q.B,q.s)) _ _ u g (((((l1.trans l2).trans l3).trans m).trans k1).trans k3) hr5 ?_ (F (q.B,q.s));subst f2 f3;exact rfl
  ·subst g0 g1 V;refine⟨6,ke [n+1,n+2,n+3,n+4] (n+5) (PM.set (some (.sep (pk []))) aa O (n+4)) [(0,some (.cells (c8 S 1 (pts C).length) true)),(1,some (.cells (aY (pts C)) true)),(2,some (dG S C)),(3,some (dG S e)),(4,some (.cells (c8 S 5 (pts e).length) true)),(5,some (.cells (aY (pts e)) true))],Z0 rfl,fu.put (Z0 rfl) rfl (λx f o ho=>?_),rfl,rfl,rfl,e,g2,?_⟩
   ·simp only[Z4,Z5,or_false]at f;rcases f with rfl|rfl|rfl|rfl|rfl|rfl
    ·injection ho with ho;subst ho;exact⟨rfl,rfl,rfl⟩
    ·injection ho with ho;subst ho;exact⟨rfl,rfl,pq _ _⟩
    ·injection ho with ho;subst ho;exact⟨rfl,rfl,rfl⟩
    ·injection ho with ho;subst ho;exact⟨rfl,rfl,rfl⟩
    ·injection ho with ho;subst ho;exact⟨rfl,rfl,rfl⟩
    ·injection ho with ho;subst ho;exact⟨rfl,rfl,pq _ _⟩
   ·simp only[ke,Y8,q2e,cJ,jM];rfl
 ·exact F.elim
section
variable {φ ψ:Ph} {H:AH} {n:Nat} {h0 hp:Hp}
theorem Dr{H':AH}{x:Nat}{g:Hp}(h:HR φ H n h0 hp)(i:HR ψ H' x hp g)(A:∀q,ψ.y q->φ.z q):∃χ,PLe φ χ/\HR χ H n h0 g/\∀q,ψ.z q->χ.z q:=by
 have j:HR φ H n h0 g:=h.grow (λb o d=>(i.base b o d).2) i.size
 have k:∀B,hp.f B=none->h0.f B=none:=λB e=>by
  cases q:h0.f B with
  |none=>rfl
  |some o=>have:=(h.base B o q).2;rw[e]at this;cases this
 have own:∀B,hp.f B=none->∀b o p,H.get b=some o->o.own=true->φ b=some p->p.B≠B:=λB e b o p d E l q=>by
  obtain⟨F,_,w,_⟩:=h.of d l;rw[q,e]at w;cases w
 have t:∀B,hp.f B=none->∀b Q,H.get b=some (.sep Q)->¬φ.s b B:=λB e b Q d C=>by
  obtain⟨o,ho⟩:=Q.ex _ _ _ _ (h.sep b Q d).1 C;rw[e]at ho;cases ho
 have sub:∀q,ψ.z q->(φ.more λq=>ψ.z q/\hp.f q.B=none).z q:=λq c=>by
  obtain⟨⟨_,a⟩,_⟩:=i.frz q c;rcases a with a|a
  ·exact .inl (A q a)
  ·exact .inr ⟨c,a⟩
 refine⟨φ.more λq=>ψ.z q/\hp.f q.B=none,φ.pj _,j.more λq c=>?_,sub⟩;obtain⟨⟨D,_⟩,_⟩:=i.frz q c.1;exact⟨FzR.mono sub D,k _ c.2,own _ c.2,t _ c.2⟩
end
theorem HR.Xx{φ:Ph}{H:AH}{n:Nat}{h0 h:Hp}(e:HR φ H n h0 h){b m k x:Nat}{l s:List AV}{z:Bool}{v:Value}(j:H.get b=some (.cells l z))(M:VR φ (.rw b 0 m k x) v)(N:x≠4)(O:s.all mg=true)(d:s.length=m*k)(y:∀(i:Nat) g,s[i]?=some g->∃a,l[i]?=some a/\∀w,VR φ a w->VR φ g w)(P:l.length=m*k):
 ∃χ,PLe φ χ/\HR χ (H.set none aa b) n h0 h/\VR χ (.fr m k s) v:=by
 have hk:=e.kill aa b;rcases M.gO with⟨J,A⟩|⟨p,a,C,c,rfl,R,h3,S,h5,_,_⟩
 ·have hs0:s=[]:=Y5 (by rw[d,J,q1h]);subst J hs0;rw[A.nil N];exact⟨φ,.refl φ,hk,.fre λ_=>rfl⟩
 ·by_cases D:m=0
  ·have hs0:s=[]:=Y5 (by rw[d,D,q1h]);subst D hs0;exact⟨φ,.refl φ,hk,.fre λq=>by cases q⟩
  ·have T:=R D;subst T;obtain⟨ob,E,F,K,t,fz,rfl,o1,o2,o3,o4,U⟩:=e.of j c;refine⟨φ.more λq=>q=⟨p.B,p.s+0,s⟩,φ.pj _,hk.more λq V=>?_,?_⟩
   ·subst V;refine⟨⟨⟨(e.dom _ _ c).2,O⟩,K,t,fz,F,(show p.s+0+s.length<=K.size by omega),λi g W=>?_⟩,E,λf L X G I Y Z=>?_,λf Q G I=>?_⟩
    ·obtain⟨a,g1,g2⟩:=y i g W;obtain⟨v,g3,g4⟩:=U i a g1;exact⟨v,g3,VR.mono (φ.pj _) _ _ (g2 v g4)⟩
    ·rcases PM.ak aa H b f L G with⟨_,h⟩|⟨h6,h7⟩
     ·cases h
     ·exact h6 (e.inj f b L _ X p h7 j I rfl Y c Z)
    ·rcases PM.ak aa H b f _ G with⟨_,h⟩|⟨_,h⟩
     ·cases h
     ·exact((e.sep f Q h).2 _ I).2.1 b _ p j rfl c rfl
   ·have:VR (φ.more λq=>q=⟨p.B,p.s+0,s⟩) (.fr m k s) (.slice (some ⟨p.B,p.s+0+0,none⟩) m C):= .fr (q:=⟨p.B,p.s+0,s⟩) (o:=0) (.inr rfl) S (bw d);exact this
def JT:AV->Bool
 | .agg l=>l.all mg
 |v=>mg v
def ga:AV->Bool
 | .tup l=>l.all JT
 |v=>JT v
theorem yY{φ ψ:Ph}(c:∀q,φ.z q->ψ.z q):∀{l:List AV} {vs:List Value},l.all mg=true->VRs φ l vs->VRs ψ l vs
 | [],_,_,h=>by rw[h.aQ];exact .nil
 |a::l,vs,b,h=>by
  obtain⟨v,us,rfl,d,e⟩:=h.cons_inv;simp only[q1p,Z9]at b;exact .cons (lD c b.1 d) (yY c b.2 e)
theorem Ht{φ ψ:Ph}(b:∀q,φ.z q->ψ.z q){a:AV}{w:Value}(h:JT a=true)(c:VR φ a w):VR ψ a w:=by
 cases a
 case agg l=>
  obtain⟨cs,rfl,d⟩:=c.dX;exact .agg (yY b h d)
 all_goals exact lD b h c
theorem Dt{φ ψ:Ph}(c:∀q,φ.z q->ψ.z q):∀{l:List AV} {vs:List Value},l.all JT=true->VRs φ l vs->VRs ψ l vs
 | [],_,_,h=>by rw[h.aQ];exact .nil
 |a::l,vs,b,h=>by
  obtain⟨v,us,rfl,d,e⟩:=h.cons_inv;simp only[q1p,Z9]at b;exact .cons (Ht c b.1 d) (Dt c b.2 e)
theorem nz{φ ψ:Ph}(b:∀q,φ.z q->ψ.z q){a:AV}{w:Value}(h:ga a=true)(c:VR φ a w):VR ψ a w:=by
 cases a
 case tup l=>
  obtain⟨cs,rfl,d⟩:=c.eH;exact .tup (Dt b h d)
 all_goals exact Ht b h c
theorem Du{φ ψ:Ph}(c:∀q,φ.z q->ψ.z q):∀{l:List AV} {vs:List Value},l.all ga=true->VRs φ l vs->VRs ψ l vs
 | [],_,_,h=>by rw[h.aQ];exact .nil
 |a::l,vs,b,h=>by
  obtain⟨v,us,rfl,d,e⟩:=h.cons_inv;simp only[q1p,Z9]at b;exact .cons (nz c b.1 d) (Du c b.2 e)
section
variable {r:Nat->Nat} {m:Nat}
theorem w6{a:AV}(h:mg a=true):ren r a=a/\ltV m a=true:=by cases a<;>first|exact⟨rfl,rfl⟩|cases h
theorem pw:∀{l:List AV},l.all mg=true->dM r l=l/\jI m l=true
 | [],_=>⟨rfl,rfl⟩
 |a::l,h=>by
  simp only[q1p,Z9]at h;exact⟨by simp only[dM,(w6 (r:=r) (m:=m) h.1).1,(pw h.2).1],by simp only[jI,(w6 (r:=r) (m:=m) h.1).2,(pw h.2).2,Bool.and_self]⟩
theorem w8{a:AV}(h:JT a=true):ren r a=a/\ltV m a=true:=by
 cases a
 case agg l=>exact⟨congrArg AV.agg (pw (r:=r) (m:=m) h).1,(pw (r:=r) (m:=m) h).2⟩
 all_goals exact w6 h
theorem pA:∀{l:List AV},l.all JT=true->dM r l=l/\jI m l=true
 | [],_=>⟨rfl,rfl⟩
 |a::l,h=>by
  simp only[q1p,Z9]at h;exact⟨by simp only[dM,(w8 (r:=r) (m:=m) h.1).1,(pA h.2).1],by simp only[jI,(w8 (r:=r) (m:=m) h.1).2,(pA h.2).2,Bool.and_self]⟩
theorem iT{a:AV}(h:ga a=true):ren r a=a/\ltV m a=true:=by
 cases a
 case tup l=>exact⟨congrArg AV.tup (pA (r:=r) (m:=m) h).1,(pA (r:=r) (m:=m) h).2⟩
 all_goals exact w8 h
theorem kH:∀{l:List AV},l.all ga=true->dM r l=l
 | [],_=>rfl
 |a::l,h=>by
  simp only[q1p,Z9]at h;simp only[dM,(iT (r:=r) (m:=0) h.1).1,kH h.2]
end
def Re(H:AH)(n:Nat)(u:AV)(H2:AH)(v:AV):Prop:=∀(φ:Ph) (h0 h:Hp) (w:Value),HR φ H n h0 h->VR φ u w->∃ψ,PLe φ ψ/\HR ψ H2 n h0 h/\VR ψ v w
def Res(H:AH)(n:Nat)(us:List AV)(H2:AH)(vs:List AV):Prop:=∀(φ:Ph) (h0 h:Hp) (ws:List Value),HR φ H n h0 h->VRs φ us ws->∃ψ,PLe φ ψ/\HR ψ H2 n h0 h/\VRs ψ vs ws
section
variable {H H1 H2:AH} {n:Nat} {u v:AV} {us vs:List AV}
theorem Re.same:Re H n u H u:=λφ _ _ _ a b=>⟨φ,.refl φ,a,b⟩
theorem Re.of(h:∀φ w,VR φ u w->VR φ v w):Re H n u H v:=λφ _ _ w a b=>⟨φ,.refl φ,a,h φ w b⟩
theorem VV{φ:Ph}{a:AV}{w:Value}(h:VR φ (mk a) w):VR φ a w:=by cases a<;>exact h
theorem Ns{φ:Ph}:∀{l:List AV} {ws:List Value},VRs φ (l.map mk) ws->VRs φ l ws
 | [],_,h=>h
 |a::l,ws,h=>by
  obtain⟨w,us,rfl,b,c⟩:=h.cons_inv;exact .cons (VV b) (Ns c)
theorem Hu{φ:Ph}{a:AV}{w:Value}(h:VR φ (mkT a) w):VR φ a w:=by
 cases a
 case tup l=>obtain⟨cs,rfl,b⟩:=h.eH;exact .tup (Ns b)
 all_goals exact VV h
theorem Re.told(e:mkT u=mkT v):Re H n u H v:=Re.of λ_ _ h=>Hu (e▸h.mkT)
theorem Re.agg{l l':List AV}(e:l.map mk=l'.map mk):Re H n (.agg l) H (.agg l'):=Re.of λ_ _ h=>by
 obtain⟨cs,rfl,a⟩:=h.dX;exact .agg (Ns (e▸a.mk))
theorem Re.nsl{k:Nat}:Re H n .nsl H (.fr 0 k []):=Re.of λφ w h=>by rw[h.cZ];exact .fre λ_=>rfl
theorem Re.row{b m k x:Nat}{l s:List AV}{z:Bool}(q:H.get b=some (.cells l z))(d:s.all flat.flat1=true)(f:s.length=m*k)(c:l.map mk=s.map mk)(t:x≠4:=by decide):Re H n (.rw b 0 m k x) (H.set none aa b) (.fr m k s):=λφ h0 h w A B=>by
 have g:s.all mg=true:=by
  rw[Y4]at d⊢;intro y C;have:=d y C;cases y<;>first|rfl|cases this
 refine A.Xx q B t g f (λi j o=>?_) (by have:=congrArg List.length c;simp only[Y0]at this;omega);have e:=congrArg (λx:List AV=>x[i]?) c;simp only[q0q,o,Y8]at e;rw[Z7]at e;obtain⟨a,D,E⟩:=e;refine⟨a,D,λw F=>?_⟩;have p:VR φ (mk j) w:=E▸F.mk;exact aV (Y4.1 d j (q0c o)) (by cases j<;>first|exact p|exact p)
theorem Res.nil:Res H n [] H []:=λφ _ _ _ a b=>⟨φ,.refl φ,a,b⟩
theorem Res.cons(h:Re H n u H1 v)(k:Res H1 n us H2 vs):Res H n (u::us) H2 (v::vs):=λφ h0 hp ws d e=>by
 obtain⟨w,a,rfl,f,g⟩:=e.cons_inv;obtain⟨ψ,b,i,j⟩:=h φ h0 hp w d f;obtain⟨l,c,o,p⟩:=k ψ h0 hp a i (VRs.mono b _ _ g);exact⟨l,b.trans c,o,.cons (VR.mono c _ _ j) p⟩
end
theorem Re.sl{H:AH}{n b m k:Nat}{l s:List AV}{z:Bool}(e:H.get b=some (.cells l z))(g:s.all flat.flat1=true)(d:s.length=m*k)(a:l.map mk=s.map mk):Re H n (.sl b 0 m m 0) (H.set none aa b) (.fr m k s):=λφ h0 h w f i=>by
 refine Re.row (x:=0) e g d a (by decide) φ h0 h w f ?_;obtain⟨p,C,hp,rfl,j,_⟩:=i.eQ;have o:=j rfl
 subst o;obtain⟨q,_,_,c,t,fz,_,y,_⟩:=f.of e hp;have:l.length=C*k:=by have:=congrArg List.length a;simp only[Y0]at this;omega
 exact .rw hp (λ_=>rfl) (q0j _ _) (Z3 _) (by omega)
def cQ(R:List AV->AV->Prop)(args:List AV)(H:AH)(n:Nat)(κ:PK):Prop:=∃cs v H2,Res H n args H2 cs/\R cs v/\κ v H2 n
def ub(R:List AV->AV->Prop)(args:List AV)(H:AH)(n:Nat)(κ:PK):Prop:=∃cs v,Res H n args H cs/\R cs v/\κ v H n
theorem w9(R:List AV->AV->Prop):fU (ub R):= .pure λ_ _ _ _ ⟨cs,v,h0,a,b⟩=>⟨v,b,λ_ h=>⟨cs,v,h0,a,h⟩⟩
theorem ai.cs{f:FuncId}{R:List AV->AV->Prop}(h:ai f (cQ R)):ai f (ub R):=λargs H n d ⟨cs,v,a,b,c⟩=>h args H n d ⟨cs,v,H,a,b,c⟩
def dA(v:AV):PK:=λu a b=>∃H2,Re a b u H2 v
theorem dA.told{u v:AV}{H:AH}{n:Nat}(e:mkT u=mkT v):dA v u H n:=⟨H,.told e⟩
theorem dA.row{m k j b x:Nat}{l s:List AV}{z:Bool}{u:AV}{H':AH}{a:Nat}(c:u= .rw b 0 j k x)(d:j=m)(e:H'.get b=some (.cells l z))(f:l.map mk=s.map mk)(g:s.length=m*k)(h:s.all flat.flat1=true)(i:x≠4:=by decide):dA (.fr m k s) u H' a:=by
 subst c d;exact⟨_,.row e h g f i⟩
theorem dA.same{u:AV}{H:AH}{n:Nat}:dA u u H n:=⟨H,.same⟩
theorem yZ{f:FuncId}{run:List AV->AH->Nat->PK->Prop}(b:ai f run)(e:bM Tryz.prog f=true){R:List AV->AV->Prop}(h:∀cs v,R cs v->cs.all ga=true/\ga v=true/\run cs .nil 0 (dA v)):ai f (cQ R):=λargs H n Q ⟨cs,v,H2,c,p,i⟩ φ h0 hp vs K s a t=>by
 obtain⟨ψ,x,d,A⟩:=c φ h0 hp _ s a;obtain⟨s1,s2,B⟩:=h cs v p
 have key:Wf hp->dH Tryz.prog f vs hp K:=λC=>b cs .nil 0 _ B ⟨λ_=>none,ψ.z,ψ.z,λ_ _=>False⟩ hp hp vs K (d.yI (fP C) (λ_ _ h=>by cases h) (λ_ h=>h)) (Du (φ:=ψ) (ψ:=⟨λ_=>none,ψ.z,ψ.z,λ_ _=>False⟩) (λ_ h=>h) s1 A) λD u S T w g j E F ⟨U,G⟩=>by
  obtain⟨I,J,k,l⟩:=G D hp g w E F;obtain⟨L,M,N,O⟩:=Dr d k (λq P=>j.y q (J.y q P));exact t L v H2 n w g (x.trans M) N (nz O s2 l) i
 exact⟨e,λw o=>(key o.wf).2 w o⟩
theorem oQ{F:FuncId->EP}(b:aU F)(d:Nat){f:FuncId}(a:bM Tryz.prog f=true){R:List AV->AV->Prop}(h:∀cs v,R cs v->cs.all ga=true/\ga v=true/\ax F d f cs .nil 0 (dA v)):ai f (cQ R):=yZ (ay b d f) a h
theorem oR:∀{O:List AO} {k:Nat} {H:AH} {x:Nat} {o:AO},k+O.length<1000000->(x<k∨k+O.length<=x)->H.get x=some o->(rP O k H).get x=some o
 | [],_,_,_,_,_,_,h=>h
 |a::O,k,H,x,o,d,e,h=>by
  simp only[Z8]at d e;exact oR (O:=O) (by omega) (by omega) (PM.gne (by omega) (by omega) h)
theorem AX:∀{O:List AO} {k:Nat} {H:AH} {i:Nat} {o:AO},k+O.length<1000000->O[i]?=some o->(rP O k H).get (k+i)=some o
 | [],_,_,i,_,_,h=>by simp at h
 |a::O,k,H,0,o,d,h=>by
  simp only[Z8]at d;injection h with h;subst h;exact oR (O:=O) (by omega) (.inl (by omega)) (PM.geq (by omega))
 |a::O,k,H,i+1,o,d,h=>by
  simp only[Z8]at d;rw[show k+(i+1)=k+1+i by omega];exact AX (O:=O) (by omega) (by simpa using h)
theorem rQ:∀{O:List AO} {k i:Nat} {o:AO},k+O.length<1000000->O[i]?=some o->(mkH (bH O k)).get (k+i)=some o
 | [],_,i,_,_,h=>by simp at h
 |a::O,k,0,o,d,h=>by
  simp only[Z8]at d;injection h with h;subst h;exact PM.geq (by omega)
 |a::O,k,i+1,o,d,h=>by
  simp only[Z8]at d;have:=rQ (O:=O) (k:=k+1) (i:=i) (o:=o) (by omega) (by simpa using h);rw[show k+(i+1)=k+1+i by omega];exact PM.gne (by omega) (by omega) this
section
variable {r r':Nat->Nat} {m:Nat}
mutual
theorem pB(h:∀c,c<m->r c=r' c):∀a:AV,ltV m a=true->ren r a=ren r' a
 | .ptr b o,e=>congrArg (AV.ptr · o) (h b (Z0 e))
 | .sl b o n c k,e=>congrArg (AV.sl · o n c k) (h b (Z0 e))
 | .esl b,e=>congrArg AV.esl (h b (Z0 e))
 | .map b,e=>congrArg AV.map (h b (Z0 e))
 | .sy b o n c k,e=>congrArg (AV.sy · o n c k) (h b (Z0 e))
 | .rw b o n k x,e=>congrArg (AV.rw · o n k x) (h b (Z0 e))
 | .agg l,e=>congrArg AV.agg (ik h l e)
 | .tup l,e=>congrArg AV.tup (ik h l e)
 | .fn f a c,e=>by
  simp only[ltV,Z9]at e;simp only[ren,ik h a e.1,ik h c e.2]
 | .int _ _,_| .str _,_| .bool _,_| .nil,_| .nsl,_| .any _,_| .bad,_| .si _ _,_| .sb _,_| .ss _,_| .fr _ _ _,_| .fa _ _,_=>rfl
theorem ik(h:∀c,c<m->r c=r' c):∀l:List AV,jI m l=true->dM r l=dM r' l
 | [],_=>rfl
 |a::l,e=>by
  simp only[jI,Z9]at e;simp only[dM,pB h a e.1,ik h l e.2]
end
theorem qH(h:∀c,c<m->r c=r' c):∀l:List (AV×AV),ltE m l=true->xY r l=xY r' l
 | [],_=>rfl
 |a::l,e=>by
  simp only[ltE,Z9]at e;simp only[xY,pB h _ e.1,pB h _ e.2.1,qH h l e.2.2]
theorem il(h:∀c,c<m->r c=r' c){o:AO}(e:ltO m o=true):cJ r o=cJ r' o:=by
 cases o with
 |cells l z=>exact congrArg (AO.cells · z) (ik h l e)
 |map es=>exact congrArg AO.map (qH h es e)
 |mp es bs cl=>exact congrArg (AO.mp · bs cl) (qH h es e)
 |ro l=>exact congrArg AO.ro (ik h l e)
 |iter b k seen=>exact congrArg (AO.iter · k seen) (h b (Z0 e))
 |sep Q=>rfl
end
def lr(n k:Nat):List Nat:=(List.range k).map λi=>n+i
theorem dq(n k:Nat):(lr n k).length=k:=by simp[lr]
theorem uO{n k i:Nat}(h:i<k):(lr n k)[i]?=some (n+i):=by simp[lr,h]
theorem rR{n k i s:Nat}(h:(lr n k)[i]?=some s):i<k/\s=n+i:=by
 have a:=(X6.1 h).1;rw[dq]at a;rw[uO a]at h;injection h with h;exact⟨a,h.symm⟩
theorem jR{n k x:Nat}(h:x∈lr n k):n<=x/\x<n+k:=by
 simp only[lr,q0m,q2g]at h;obtain⟨i,a,rfl⟩:=h;omega
theorem qI(n k:Nat):(lr n k).Nodup:=by
 rw[lr,List.nodup_iff_pairwise_ne,List.pairwise_map];exact List.nodup_range.imp λh e=>h (by omega)
theorem nA{n k N c:Nat}(h:c<k):bt (lr n k) N c=n+c:=cF (uO h)
def x0(H:AH)(m:Nat):List AO->Nat->Prop
 | [],_=>True
 |o::os,i=>(∃a,H.get i=some a/\ao H m (λb=>b) a o)/\x0 H m os (i+1)
theorem x0.at{H:AH}{m:Nat}:∀{O:List AO} {k i:Nat} {o:AO},x0 H m O k->O[i]?=some o->∃e,H.get (k+i)=some e/\ao H m (λb=>b) e o
 | [],_,i,_,_,h=>by simp at h
 |a::O,k,0,o,d,h=>by injection h with h;subst h;exact d.1
 |a::O,k,i+1,o,d,h=>by
  rw[show k+(i+1)=k+1+i by omega];exact x0.at d.2 (by simpa using h)
def Xy(f:Nat)(u:AV)(H':AH)(g:Nat)(v:AV)(i:AH)(m:Nat):Prop:=∀(a:Ph) (e h:Hp) (w:Value),HR a H' g e h->VR a u w->∃d:Ph,((∀b q,b<f->a b=some q->d b=some q)/\(∀q,a.z q->d.z q)/\∀q,d.y q->a.y q)/\HR d i m e h/\VR d v w
def Xz(run:List AV->AH->Nat->PK->Prop)(args:List AV)(H:AH)(n:Nat)(κ:PK):Prop:=∃a:PK,run args H n a/\∀u d e,a u d e->∃v f m,Xy n u d e v f m/\κ v f m
theorem ai.m{f:FuncId}{run:List AV->AH->Nat->PK->Prop}(o:ai f run):ai f (Xz run):=λargs H n V ⟨d,s,t⟩ A j h D K k E F=>o args H n d s A j h D K k E λG u I J w l a g L M=>by
 obtain⟨v,N,m,O,i⟩:=t u I J M;obtain⟨P,⟨Q,R,S⟩,T,U⟩:=O G j l w g L;exact F P v N m w l ⟨λb p e=>Q b p (k.dom b p e).1 (a.b b p e),λq e=>R q (a.z q e),λq e=>a.y q (S q e)⟩ T U i
theorem AY{φ:Ph}{H:AH}{n k:Nat}{d h:Hp}{O:List AO}(l:HR φ H n d h)(s:x0 H k O 0)(A:O.length<=k):∃ψ:Ph,((∀b q,b<k->φ b=some q->ψ b=some q)/\(∀q,φ.z q->ψ.z q)/\∀q,ψ.y q->φ.y q)/\HR ψ (mkH (bH O 0)) k d h:=by
 obtain⟨ψ,u,v,_⟩:=Cov.ofR (m:=k) (p:=k) (n:=n) (σ:=PM.nil) (H:=H) (le:=[]) (lh:=bH O 0) (λb=>b) (Z3 _) (λ_ _=>rfl) (λx f=>by cases f) (λx f=>by
  obtain⟨b,o⟩:=x;obtain⟨i,w,g⟩:=vZ f;have:=(X6.1 g).1;have j:=s.at g;rw[<-w]at j;exact⟨(by show b<k;omega),.inl j⟩) (λ_ _ _ _ e=>e) φ d h (λ_=>Go.undef) l (λt a e=>by cases e)
 exact⟨ψ,u,v⟩
theorem ao.refl{H:AH}{m:Nat}{o:AO}(h:ltO m o=true):ao H m (λb=>b) o o:=⟨⟨rfl,rfl⟩,λf g _ _ a _ ho=>OR.below (m:=m) (λb _ d e=>(a.1 b d).trans e) a.2 h ho⟩
structure Obj (X C:Type)where
 ok:X->C->Prop
 O:C->List AO
 k:Nat
 len:∀c,(O c).length=k
 own:∀c o,o∈O c->o.own=true/\ltO k o=true
 pos:∀c,∃a l z,(O c)[0]?=some (.cells (a::l) z)
def Obj.Q{X C:Type}(B:Obj X C)(x:X)(p:Nat×Nat):HP:=HP.exi (B.ok x) λc=>wU (B.O c) p
def iA (H:AH):Nat->Nat->Bool
 |0,_=>true
 |k+1,n=>(match H.get n with
  |none=>iA H k (n+1)
  |some _=>false)
theorem nB{H:AH}:∀{k n:Nat},iA H k n=true->∀{x:Nat} {o:AO},n<=x->x<n+k->H.get x=some o->False
 |0,n,_,x,o,d,f,_=>by omega
 |k+1,n,h,x,o,d,f,a=>by
  unfold iA at h;split at h
  ·rename_i e;by_cases q:x=n
   ·subst q;rw[e]at a;cases a
   ·exact nB h (by omega) (by omega) a
  ·cases h
def cM{X C:Type}(k:Nat)(B:Obj X C)(R:X->List AV->X->AV->Prop)(args:List AV)(H:AH)(n:Nat)(κ:PK):Prop:=match args with
 |a::f=>∃b p x cs e v d,a=aK p/\b<n/\n<800000/\Res H n f d cs/\d.get b=some (.sep (B.Q x p))/\iA d k n=true/\R x cs e v/\κ v (d.set (some (.sep (B.Q e p))) aa b) (n+k)
 |_=>False
def gi{X C:Type}(B:Obj X C)(e:X)(v:AV):PK:=λu f g=>∃a d,Re f g u a v/\B.ok e d/\x0 a B.k (B.O d) 0
section
variable {X C:Type} {B:Obj X C} {x:X} {p:Nat×Nat} {H:AH} {n b:Nat} {c:C}
theorem Obj.lt(B:Obj X C)(c:C){i:Nat}{o:AO}(h:(B.O c)[i]?=some o):i<B.k/\o.own=true/\ltO B.k o=true:=
 ⟨by rw[<-B.len c];exact(X6.1 h).1,B.own c o (q0c h)⟩
def opO (B:Obj X C) (H:AH) (n b:Nat) (c:C):AH:=rP ((B.O c).map (cJ λj=>n+j)) n (H.set (some (.sep .emp)) aa b)
theorem uP(B:Obj X C)(c:C){n:Nat}:((B.O c).map (cJ λj=>n+j)).length=B.k:=by rw[Y0,B.len]
theorem Fm(hn:n+B.k<1000000){i:Nat}{o:AO}(h:(B.O c)[i]?=some o):(opO B H n b c).get (n+i)=some (cJ (λj=>n+j) o):=AX (by rw[uP];exact hn) (by rw[q0q,h];rfl)
theorem Nt(hn:n+B.k<1000000)(d:b<n){y:Nat}{o:AO}(e:y<n∨n+B.k<=y)(a:y≠b)(h:H.get y=some o):(opO B H n b c).get y=some o:=oR (by rw[uP];exact hn) (by rw[uP];exact e) (PM.gne (by omega) a h)
theorem Nu(hn:n+B.k<1000000)(a:b<n):(opO B H n b c).get b=some (.sep .emp):=oR (by rw[uP];exact hn) (.inl a) (PM.geq (by omega))
theorem Hv{y:Nat}{o:AO}(h:(opO B H n b c).get y=some o):(∃i o',y=n+i/\(B.O c)[i]?=some o'/\o=cJ (λj=>n+j) o')∨(y=b/\o= .sep .emp)∨(y≠b/\(y<n∨n+B.k<=y)/\H.get y=some o):=by
 rcases qG y o h with h|h|⟨d,a,e⟩
 ·exact .inl h
 ·exact .inr (.inl h)
 ·rw[B.len]at a;exact .inr (.inr ⟨d,a,e⟩)
theorem y5(hn:n+B.k<1000000):yV (opO B H n b c) (lr n B.k) (B.O c):=⟨qI _ _,by rw[dq,B.len],λi s o e a=>by
 obtain⟨h,rfl⟩:=rR e;obtain⟨_,f,d⟩:=B.lt c a;refine⟨?_,f,by rw[B.len];exact d⟩;rw[Fm hn a];exact congrArg some (il (m:=B.k) (λj g=>(nA g).symm) d)⟩
theorem JU(hn:n+B.k<1000000):iS (opO B H n b c) (n+B.k) (lr n B.k) (B.O c):=⟨qI _ _,by rw[dq,B.len],λi s o d a=>by
 obtain⟨h,rfl⟩:=rR d;obtain⟨_,e,f⟩:=B.lt c a;refine⟨by omega,?_,.inr e⟩;rw[Fm hn a];exact congrArg some (il (m:=B.k) (λj g=>(nA g).symm) f)⟩
theorem Obj.k0(B:Obj X C)(c:C):0<B.k:=by
 obtain⟨a,l,z,h⟩:=B.pos c;exact(B.lt c h).1
end
def TY{X C:Type}(B:Obj X C)(k:Nat)(d:X)(P:AV->List AO->Prop):PK:=λu e f=>∃v E a,P v E/\B.ok d a/\ltV (k+E.length) v=true/\(∀o∈E,o.own=true/\ltO (k+E.length) o=true)/\E.length<1000/\Cov k (mkE [(0,u)]) e f (mkE [(0,v)],mkH (bH (B.O a++E) 0),k+E.length)
def JV (n k:Nat) (E:List AO) (H:AH):AH:=rP (E.map (cJ λj=>n+j)) (n+k) H
def Nv{X C:Type}(k:Nat)(B:Obj X C)(R:X->List AV->X->(AV->List AO->Prop)->Prop)(args:List AV)(H:AH)(n:Nat)(κ:PK):Prop:=match args with
 |a::f=>∃b p x cs e P d,a=aK p/\b<n/\n<800000/\Res H n f d cs/\d.get b=some (.sep (B.Q x p))/\iA d k n=true/\R x cs e P/\∀v E,P v E->κ (ren (λj=>n+j) v) (JV n k E (d.set (some (.sep (B.Q e p))) aa b)) (n+k+E.length)
 |_=>False
theorem Fo{n k m c:Nat}(h:c<m):bt (lr n k) (n+k) c=n+c:=by
 by_cases q:c<k
 ·exact nA q
 ·rw[gC (by rw[dq];omega),dq];omega
def VW(run:List AV->AH->Nat->PK->Prop)(args:List AV)(H:AH)(n:Nat)(κ:PK):Prop:=∃a:PK,run args H n a/\∀u d e,a u d e->κ u d e
theorem ai.w{f:FuncId}{run:List AV->AH->Nat->PK->Prop}(j:ai f run):ai f (VW run):=λargs H n F ⟨a,k,l⟩ o q h s K t v y=>j args H n a k o q h s K t v λz u g i w A d e D E=>y z u g i w A d e D (l u g i E)
section
variable {m m':Nat}
mutual
theorem Fp(h:m<=m'):∀a:AV,ltV m a=true->ltV m' a=true
 | .ptr b o,e| .sl b o n c k,e| .esl b,e| .map b,e| .sy b o n c k,e| .rw b o n k x,e=>q0n (X9 (Z0 e) h)
 | .agg l,e| .tup l,e=>te h l e
 | .fn f a c,e=>by
  simp only[ltV,Z9]at e⊢;exact⟨te h a e.1,te h c e.2⟩
 | .int _ _,_| .str _,_| .bool _,_| .nil,_| .nsl,_| .any _,_| .bad,_| .si _ _,_| .sb _,_| .ss _,_| .fr _ _ _,_| .fa _ _,_=>rfl
theorem te(h:m<=m'):∀l:List AV,jI m l=true->jI m' l=true
 | [],_=>rfl
 |a::l,e=>by
  simp only[jI,Z9]at e⊢;exact⟨Fp h a e.1,te h l e.2⟩
end
theorem Fq(h:m<=m'):∀l:List (AV×AV),ltE m l=true->ltE m' l=true
 | [],_=>rfl
 |a::l,e=>by
  simp only[ltE,Z9]at e⊢;exact⟨Fp h _ e.1,Fp h _ e.2.1,Fq h l e.2.2⟩
theorem TZ(h:m<=m'){o:AO}(e:ltO m o=true):ltO m' o=true:=by
 cases o with
 |cells l z=>exact te h l e
 |map es=>exact Fq h es e
 |mp es bs cl=>exact Fq h es e
 |ro l=>exact te h l e
 |iter b k seen=>exact q0n (X9 (Z0 e) h)
 |sep Q=>rfl
end
theorem Nw {X C:Type} {f:FuncId} {run:List AV->AH->Nat->PK->Prop} (Z:ai f run) (hic:bM Tryz.prog f=true) (B:Obj X C) {k:Nat} (hk:B.k=k) (hk9:k<1000) {R:X->List AV->X->(AV->List AO->Prop)->Prop}
 (h:∀x cs F P,R x cs F P->cs.all ga=true/\∀c,B.ok x c->run (.ptr 0 0::cs) (mkH (bH (B.O c) 0)) k (TY B k F P)):ai f (Nv k B R):=λargs H n κ hs φ h0 hp vs K hr L hk2=>by
 unfold Nv at hs;split at hs
 ·rename_i a ar;obtain⟨b,p,x,cs,F,P,I,rfl,A,hn9,hres,hb,M,hR,hκ⟩:=hs;obtain⟨w1,us1,q1,e1,r1⟩:=L.cons_inv;have e1:w1=qs p:=e1;subst e1 hk;obtain⟨φ1,l1,hr1,ha1⟩:=hres φ h0 hp us1 hr r1;obtain⟨c,hc,hP⟩:=(hr1.sep b _ hb).1;obtain⟨ψ,T,l2,hψ,G⟩:=hr1.Fk (O:=B.O c) A hb hP qG;obtain⟨s1,s3⟩:=h x cs F P hR;have N:=s3 c hc;rw[B.len]at G;have Y:n+B.k<1000000:=by omega
  have G:HR ψ (opO B I n b c) (n+B.k) h0 hp:=G;have J:∀(d:C) (E:List AO),(B.O d++E).length=B.k+E.length:=λd E=>by rw[Z6,B.len]
  have e:∀E:List AO,(E.map (cJ λj=>n+j)).length=E.length:=λE=>Y0 _
  refine dj (S:=lr n B.k) (O:=B.O c) (args0:= .ptr 0 0::cs) (κ:=λv2 H2 n2=>∃v E d,P v E/\B.ok F d/\(∀o∈E,o.own=true)/\E.length<1000/\v2=ren (λj=>n+j) v/\n2=n+B.k+E.length/\H2=JV n B.k E (opO B I n b d)) Z.m hic G (JU Y) ?_ ?_ (Q:=λv' H' m=>∃E d,P v' E/\B.ok F d/\ltV (B.k+E.length) v'=true/\(∀o∈E,o.own=true/\ltO (B.k+E.length) o=true)/\E.length<1000/\m=B.k+E.length/\H'=mkH (bH (B.O d++E) 0)) ?_ λu H' n' hq=>?_
  ·rw[q1];refine .cons ?_ ?_
   ·show VR ψ (.ptr (bt (lr n B.k) (n+B.k) 0) 0) (qs p);rw[nA (B.k0 c),q2o];exact VR.oF hψ
   ·rw[kH s1];exact VRs.mono l2 _ _ ha1
  ·intro χ v2 H2 n2 u g hle hg hu ⟨v,E,d,f0,f1,f5,f6,f2,f3,f4⟩;subst f2 f3 f4;have D:∀{y o},(y<n+B.k∨n+B.k+E.length<=y)->(opO B I n b d).get y=some o->(JV n B.k E (opO B I n b d)).get y=some o:=λU ho=>oR (by rw[e];omega) (by rw[e];exact U) ho
   have sl:yV (JV n B.k E (opO B I n b d)) (lr n B.k) (B.O d):=by
    obtain⟨a1,a2,a3⟩:=y5 (B:=B) (H:=I) (b:=b) (c:=d) Y
    exact⟨a1,a2,λi s o h1 h2=>by
     obtain⟨b1,b2⟩:=a3 i s o h1 h2;exact⟨D (.inl (by have:=rR h1;omega)) b1,b2⟩⟩
   obtain⟨ω,_,l3,_,hr3⟩:=hg.JK (O:=B.O d) (S:=lr n B.k) (b:=b) (p:=p) (Q:=B.Q F p) (H':=JV n B.k E (I.set (some (.sep (B.Q F p))) aa b)) sl (D (.inl (by omega)) (Nu Y A)) (λq=>by have:=jR q;omega) (s0:=n) (by rw[uO (B.k0 c),q2o]) (hle.b _ _ hψ) (λy o U=>by
    rcases mC U with⟨i,rfl,l⟩|⟨j0,l⟩
    ·have:i<E.length:=by have:=(X6.1 l).1;rwa [e]at this
     exact .inr ⟨by omega,λq=>by have:=jR q;omega,AX (by rw[e];omega) l⟩
    rw[e]at j0;rcases PM.ak aa _ b y o l with⟨V,l⟩|⟨V,l⟩
    ·injection l with l;exact .inl ⟨V,l.symm⟩
    ·have:y<n∨n+B.k<=y:=by
      rcases q3d y n with q|q
      ·exact .inl q
      ·exact .inr (q3g λq2=>nB M q q2 l)
     exact .inr ⟨V,λq=>by have:=jR q;omega,D j0 (Nt Y A this V l)⟩) λz X h hh=>⟨d,f1,hh⟩
   exact hk2 ω _ _ _ u g (((l1.trans l2).trans hle).trans l3) hr3 (VR.mono l3 _ _ hu) (hκ v E f0)
  ·refine⟨TY B B.k F P,by rw[dq];exact N,λu H' n' ⟨v,E,d,g1,g2,g3,g4,g5,g6⟩=>⟨v,mkH (bH (B.O d++E) 0),B.k+E.length,λχ h0 hp w hr hu=>?_,E,d,g1,g2,g3,g4,g5,rfl,rfl⟩⟩
   obtain⟨ψ2,m2,hr4,hf4⟩:=g6 χ h0 hp (λ_=>w) hr (λt a ht=>by
    have:=nk ht;simp only[Z4,Z5,or_false]at this;injection this with e1 e2;subst e1 e2;exact hu)
   rw[dq];exact⟨ψ2,m2,hr4,hf4 0 v rfl⟩
  ·obtain⟨E,d,g1,g2,g3,g4,g5,g6,g7⟩:=hq;subst g6 g7;refine⟨B.k+E.length,JV n B.k E (opO B I n b d),by rw[dq];exact q0j _ _,λy o U=>?_,g3,u,E,d,g1,g2,λo ho=>(g4 o ho).1,g5,pB (m:=B.k+E.length) (λj hj=>Fo hj) _ g3,by rw[dq];omega,rfl⟩;rcases mC U with⟨i,rfl,l⟩|⟨j0,U⟩
   ·have hi:i<E.length:=by have:=(X6.1 l).1;rwa [e]at this
    rw[q0q,Z7]at l;obtain⟨W,j3,rfl⟩:=l;have:=g4 W (q0c j3);refine .inl ⟨B.k+i,W,by omega,by rw[Fo (m:=B.k+E.length) (by omega)];omega,?_,this.1,this.2,il (m:=B.k+E.length) (λj hj=>(Fo hj).symm) this.2⟩;have h2:=rQ (O:=B.O d++E) (k:=0) (i:=B.k+i) (o:=W) (by rw[J];omega) (by rw[q0r (by rw[B.len];omega),B.len,q3b];exact j3);rwa [q0s]at h2
   rw[e]at j0;rcases Hv U with⟨i,W,rfl,i1,rfl⟩|⟨rfl,rfl⟩|⟨i1,i2,i3⟩
   ·obtain⟨V,l,j3⟩:=B.lt d i1;have lt2:ltO (B.k+E.length) W=true:=TZ (q0j _ _) j3;refine .inl ⟨i,W,by omega,(nA V).symm,?_,l,lt2,il (m:=B.k) (λj hj=>(nA hj).symm) j3⟩;have h2:=rQ (O:=B.O d++E) (k:=0) (i:=i) (o:=W) (by rw[J];omega) (by rw[q0z (by rw[B.len];exact V)];exact i1);rwa [q0s]at h2
   ·exact .inr ⟨.inl (by omega),Nu Y A,λq=>by have:=jR q;omega⟩
   ·exact .inr ⟨by rw[dq];omega,Nt Y A i2 i1 i3,λq=>by have:=jR q;omega⟩
 ·exact hs.elim
theorem VX {X C:Type} {f:FuncId} {run:List AV->AH->Nat->PK->Prop} (j:ai f run) (F:bM Tryz.prog f=true) (B:Obj X C) {k:Nat} (hk:B.k=k) (G:k<1000) {R:X->List AV->X->AV->Prop}
 (h:∀x cs d v,R x cs d v->cs.all ga=true/\ga v=true/\∀c,B.ok x c->run (.ptr 0 0::cs) (mkH (bH (B.O c) 0)) k (gi B d v)):ai f (cM k B R):=λargs H n κ s φ I J vs K L g M=>by
 unfold cM at s;split at s
 ·rename_i a ar;obtain⟨b,p,x,cs,d,v,H1,rfl,N,Q,l,hb,i,A,S⟩:=s;have s2:=(h x cs d v A).2.1;refine Nw (R:=λx cs d P=>∃v,P=(λu E=>E=[]/\u=v)/\R x cs d v) (run:=VW run) j.w F B hk G (λx cs d P ⟨v,hP,A⟩=>?_) (aK p::ar) H n κ ⟨b,p,x,cs,d,λu E=>E=[]/\u=v,H1,rfl,N,Q,l,hb,i,⟨v,rfl,A⟩,λu E ⟨T,U⟩=>?_⟩ φ I J vs K L g M
  ·obtain⟨s1,s2,s3⟩:=h x cs d v A;subst hP hk;refine⟨s1,λc hc=>⟨gi B d v,s3 c hc,λu H' n' ⟨H2,c',g1,g2,g3⟩=>⟨v,[],c',⟨rfl,rfl⟩,g2,(iT (r:=λb=>b) s2).2,λo ho=>(by cases ho),by decide,?_⟩⟩⟩;rw[q0w];intro χ I J ρ L hf;obtain⟨ψ1,V,W,Y⟩:=g1 χ I J (ρ 0) L (hf 0 u rfl);obtain⟨Z,D,hr4⟩:=AY W g3 (by rw[B.len];exact Z3 _);refine⟨Z,⟨λy q hy e=>D.1 y q hy (V.b y q e),λq e=>D.2.1 q (V.z q e),λq e=>V.y q (D.2.2 q e)⟩,hr4,λt a ht=>?_⟩;have:=nk ht;simp only[Z4,Z5,or_false]at this;injection this with T U;subst T U;exact nz D.2.1 s2 Y
  ·subst T U;rw[(iT (m:=0) s2).1];exact S
 ·exact s.elim
theorem gj {X C:Type} {F:FuncId->EP} (i:aU F) (d:Nat) {f:FuncId} (a:bM Tryz.prog f=true) (B:Obj X C) {k:Nat} (j:B.k=k) (e:k<1000) {R:X->List AV->X->AV->Prop}
 (h:∀x cs g v,R x cs g v->cs.all ga=true/\ga v=true/\∀c,B.ok x c->ax F d f (.ptr 0 0::cs) (mkH (bH (B.O c) 0)) k (gi B g v)):ai f (cM k B R):=VX (ay i d f) a B j e h
def dO{X C:Type}(k:Nat)(B:Obj X C)(R:X->List AV->AV->Prop)(args:List AV)(H:AH)(n:Nat)(κ:PK):Prop:=match args with
 |a::c=>∃b p x cs v,a=aK p/\b<n/\n<800000/\Res H n c H cs/\H.get b=some (.sep (B.Q x p))/\iA H k n=true/\R x cs v/\κ v H (n+k)
 |_=>False
theorem Fs{X C:Type}(k:Nat)(B:Obj X C)(R:X->List AV->AV->Prop):fU (dO k B R):=λargs H n q a=>by
 unfold dO at*;split at a
 ·obtain⟨b,p,x,cs,v,c,d,e,f,g,i,j,l⟩:=a;exact⟨v,H,n+k,l,λ_ _ h=>h,q0j _ _,λo h=>⟨b,p,x,cs,v,c,d,e,f,g,i,j,h⟩⟩
 ·exact a.elim
theorem ai.ol{X C:Type}{f:FuncId}{k:Nat}{B:Obj X C}{R:X->List AV->AV->Prop}(h:ai f (cM k B λx cs t v=>t=x/\R x cs v)):ai f (dO k B R):=λargs H n Z e φ h0 w A K D c E=>by
 unfold dO at e;split at e
 ·rename_i a F;obtain⟨b,p,x,cs,v,G,I,J,L,l,M,N,O⟩:=e;refine h (a::F) H n (λi r s=>i=v/\r=H.set (some (.sep (B.Q x p))) aa b/\s=n+k) ⟨b,p,x,cs,x,v,H,G,I,J,L,l,M,⟨rfl,N⟩,rfl,rfl,rfl⟩ φ h0 w A K D c λP i r s u g j T U ⟨V,W,Y⟩=>?_
  subst V W Y;refine E P i H _ u g j (T.less λy o d=>?_) U O;by_cases q:y=b
  ·subst q;rw[l]at d;injection d with d;subst d;exact PM.geq (by omega)
  ·exact PM.gne (by omega) q d
 ·exact e.elim
def VY{Y E:Type}(D:Obj Y E)(k:Nat)(y:Y):PK:=λu a c=>∃e,D.ok y e/\Cov 0 (mkE [(0,u)]) a c (mkE [(0,.ptr 0 0)],mkH (bH (D.O e) 0),k)
def uc{Y E:Type}(k:Nat)(D:Obj Y E)(R:List AV->Y->Prop)(args:List AV)(H:AH)(n:Nat)(κ:PK):Prop:=∃cs y a,n<800000/\Res H n args a cs/\iA a (k+1) n=true/\R cs y/\∀p,κ (aK p) (a.set (some (.sep (D.Q y p))) aa n) (n+1+k)
theorem Nx {Y E:Type} {f:FuncId} {run:List AV->AH->Nat->PK->Prop} (F:ai f run) (N:bM Tryz.prog f=true) (D:Obj Y E) {k:Nat} (hk:D.k=k) (hk9:k<1000) {R:List AV->Y->Prop}
 (h:∀cs y,R cs y->cs.all ga=true/\run cs .nil 0 (VY D k y)):ai f (uc k D R):=λargs H n κ ⟨cs,y,P,hn9,G,d,hR,U⟩ φ h0 V vs K W r Z=>by
 subst hk;obtain⟨φ1,l1,hr1,ha1⟩:=G φ h0 V _ W r;obtain⟨ψ,l2,hr2⟩:=hr1.hole;obtain⟨s1,s3⟩:=h cs y hR;have J:n+1+D.k<1000000:=by omega
 refine dj (S:=[]) (O:=[]) (args0:=cs) (κ:=λv2 H2 n2=>v2= .ptr (n+1) 0/\n2=n+1+D.k/\∃e,D.ok y e/\H2=opO D P (n+1) n e) F.m N hr2 ⟨q4h,rfl,λi s o h1 _=>by simp at h1⟩ (by rw[kH s1];exact VRs.mono l2 _ _ ha1) ?_ (Q:=λv' L m=>v'= .ptr 0 0/\m=D.k/\∃e,D.ok y e/\L=mkH (bH (D.O e) 0)) ?_ λu L n' hq=>?_
 ·intro χ v2 H2 n2 u g hle hg hu ⟨v,f2,e,f3,f4⟩;subst v f2 f4;obtain⟨a,l,z,I⟩:=D.pos e;rcases hg.live _ _ (Fm J I)with⟨_,A⟩|⟨q,ob,A,_⟩
  ·cases A
  rw[q2o]at A;have eq:q=⟨(q.B,q.s).1,(q.B,q.s).2,q.T⟩:=rfl
  rw[eq]at A
  obtain⟨ω,_,l3,_,hr3⟩:=hg.JK (O:=D.O e) (S:=lr (n+1) D.k) (b:=n) (p:=(q.B,q.s)) (Q:=D.Q y (q.B,q.s)) (H':=P.set (some (.sep (D.Q y (q.B,q.s)))) aa n) (y5 J) (Nu J (by omega)) (λq=>by have:=jR q;omega) (s0:=n+1) (by rw[uO (D.k0 e),q2o]) A (λx o hx=>by
   rcases PM.ak aa _ n x o hx with⟨C,c⟩|⟨C,c⟩
   ·injection c with c;exact .inl ⟨C,c.symm⟩
   ·have:x<n+1∨n+1+D.k<=x:=by
     rcases q3d x n with q|q
     ·exact .inl (by omega)
     ·exact .inr (q3g λq2=>nB d q (by omega) c)
    exact .inr ⟨C,λq=>by have:=jR q;omega,Nt J (by omega) this C c⟩) λz X h hh=>⟨e,f3,hh⟩
  refine Z ω (aK (q.B,q.s)) _ _ u g (((l1.trans l2).trans hle).trans l3) hr3 ?_ (U (q.B,q.s));obtain⟨pl,v,f2⟩:=hu.cD;rw[A]at v;injection v with v;subst f2 v;exact rfl
 ·refine⟨VY D D.k y,s3,λu L n' ⟨e,g1,g2⟩=>⟨.ptr 0 0,mkH (bH (D.O e) 0),D.k,λχ h0 V w W hu=>?_,rfl,rfl,e,g1,rfl⟩⟩
  obtain⟨ψ2,m2,hr4,hf4⟩:=g2 χ h0 V (λ_=>w) W (λt a ht=>by
   have:=nk ht;simp only[Z4,Z5,or_false]at this;injection this with e1 e2;subst e1 e2;exact hu)
  exact⟨ψ2,m2,hr4,hf4 0 _ rfl⟩
 ·obtain⟨g1,g2,e,g3,g4⟩:=hq;subst g1 g2 g4;refine⟨D.k,opO D P (n+1) n e,X5 _,λx o hx=>?_,q0n (D.k0 e),?_,by simp,e,g3,rfl⟩
  ·rcases Hv hx with⟨i,o',rfl,M,rfl⟩|⟨rfl,rfl⟩|⟨M,i2,i3⟩
   ·obtain⟨C,c,j3⟩:=D.lt e M;have h2:=rQ (O:=D.O e) (k:=0) (i:=i) (o:=o') (by rw[D.len];omega) M;rw[q0s]at h2;have nm:∀j,bt [] (n+1) j=n+1+j:=λj=>by rw[gC (X5 _)];simp
    exact .inl ⟨i,o',C,(nm i).symm,h2,c,j3,il (m:=D.k) (λj hj=>(nm j).symm) j3⟩
   ·exact .inr ⟨.inl (by omega),PM.geq (by omega),λq=>by cases q⟩
   ·exact .inr ⟨by simp;omega,PM.gne (by omega) M i3,λq=>by cases q⟩
  ·show AV.ptr (bt [] (n+1) 0) 0=_;rw[gC (X5 _)];rfl
def HP.kj(Q R:HP):HP where
 P z X h:=∃Y Z:Nat->Prop,(∀B,X B<->Y B∨Z B)/\(∀B,Y B->¬Z B)/\Q.P z Y h/\R.P z Z h
 loc z X h g hn e:=λ⟨Y,Z,a,i,c,d⟩=>⟨Y,Z,a,i,Q.loc z Y h g hn (λB f=>e B ((a B).2 (.inl f))) c,R.loc z Z h g hn (λB f=>e B ((a B).2 (.inr f))) d⟩
 mono z j X h k:=λ⟨Y,Z,a,i,c,d⟩=>⟨Y,Z,a,i,Q.mono z j Y h k c,R.mono z j Z h k d⟩
 ex z X h B:=λ⟨Y,Z,a,i,c,d⟩ f=>((a B).1 f).elim (Q.ex z Y h B c) (R.ex z Z h B d)
def aF:List HP->HP
 | []=> .emp
 |Q::l=> .kj Q (aF l)
section
variable {Q R S:HP} {z:Fz->Prop} {X:Nat->Prop} {h:Hp}
theorem xa:(HP.kj Q (.kj R S)).P z X h->(HP.kj R (.kj Q S)).P z X h:=λ⟨Y,Z,f,e,g,V,W,d,i,j,k⟩=>
 ⟨V,λB=>Y B∨W B,λB=>by rw[f B,d B,<-or_assoc,<-or_assoc,or_comm (a:=Y B)],λB c l=>l.elim (λq=>e B q ((d B).2 (.inl c))) (i B c),j,Y,W,λ_=>Iff.rfl,λB c q=>e B c ((d B).2 (.inr q)),g,k⟩
theorem ue{a:HP}(c:∀X,R.P z X h->a.P z X h):(HP.kj Q R).P z X h->(HP.kj Q a).P z X h:=λ⟨Y,Z,d,e,f,g⟩=>⟨Y,Z,d,e,f,c Z g⟩
theorem tf:∀(A:List HP) {B:List HP} {X:Nat->Prop},(aF (A++Q::B)).P z X h->(HP.kj Q (aF (A++B))).P z X h
 | [],_,_,h=>h
 |_::A,_,_,h=>xa (ue (λ_=>tf A) h)
theorem xb:∀(A:List HP) {B:List HP} {X:Nat->Prop},(HP.kj Q (aF (A++B))).P z X h->(aF (A++Q::B)).P z X h
 | [],_,_,h=>h
 |_::A,_,_,h=>ue (λ_=>xb A) (xa h)
end
section
variable {φ:Ph} {H:AH} {n:Nat} {h0 h:Hp} {b m:Nat} {Q R:HP}
theorem HR.split(d:HR φ H n h0 h)(hbn:b<n)(J:H.get b=some (.sep (.kj Q R))):∃ψ,PLe φ ψ/\HR ψ ((H.set (some (.sep R)) aa b).set (some (.sep Q)) aa n) (n+1) h0 h:=by
 obtain⟨⟨Y,Z,W,y2,y3,y4⟩,s4⟩:=d.sep b _ J;have A:=d.nu J
 have C:φ n=none:=by
  cases e:φ n with
  |none=>rfl
  |some q=>exact absurd (d.dom n q e).1 (q3a _)
 let ψ:Ph:=⟨φ.f,φ.z,φ.y,λx=>if x=n then Y else if x=b then Z else φ.s x⟩
 have K:ψ.s n=Y:=if_pos rfl
 have sb:ψ.s b=Z:=by show(if b=n then Y else if b=b then Z else _)=Z;rw[if_neg (by omega),if_pos rfl]
 have so:∀x,x≠n->x≠b->ψ.s x=φ.s x:=λx j a=>by show(if x=n then Y else if x=b then Z else φ.s x)=_;rw[if_neg j,if_neg a]
 have cs:∀x o,((H.set (some (.sep R)) aa b).set (some (.sep Q)) aa n).get x=some o->(x=n/\o= .sep Q)∨(x≠n/\((x=b/\o= .sep R)∨(x≠b/\H.get x=some o))):=λx o c=>by
  rcases PM.ak aa _ n x o c with⟨j,a⟩|⟨j,a⟩
  ·injection a with a;exact .inl ⟨j,a.symm⟩
  ·rcases PM.ak aa H b x o a with⟨l,p⟩|⟨l,p⟩
   ·injection p with p;exact .inr ⟨j,.inl ⟨l,p.symm⟩⟩
   ·exact .inr ⟨j,.inr ⟨l,p⟩⟩
 have own:∀x o q,((H.set (some (.sep R)) aa b).set (some (.sep Q)) aa n).get x=some o->φ x=some q->H.get x=some o:=λx o q c k=>by
  rcases cs x o c with⟨rfl,_⟩|⟨_,⟨rfl,_⟩|⟨_,l⟩⟩
  ·rw[C]at k;cases k
  ·rw[A]at k;cases k
  ·exact l
 have sle:SLe φ ψ:=⟨λ_ _ h=>h,λ_ h=>h⟩;refine⟨ψ,⟨λ_ _ h=>h,λ_ h=>h,λ_ h=>h⟩,⟨λx q e=>⟨by have:=(d.dom x q e).1;omega,(d.dom x q e).2⟩,λx o c=>?_,λx y o r q q' c D ho M k E e=>d.inj x y o r q q' (own x o q c k) (own y r q' D E) ho M k E e,d.base,d.size,λq k=>⟨⟨FzR.mono (φ:=φ) (ψ:=ψ) sle.z (d.frz q k).1.1,(d.frz q k).1.2⟩,λx o px c ho F=>(d.frz q k).2 x o px (own x o px c F) ho F⟩,λx u c=>?_⟩⟩
 ·rcases cs x o c with⟨rfl,rfl⟩|⟨_,⟨rfl,rfl⟩|⟨_,p⟩⟩
  ·exact .inl ⟨C,rfl⟩
  ·exact .inl ⟨A,rfl⟩
  ·rcases d.live x o p with g|⟨q,ob,N,O,P,T⟩
   ·exact .inl g
   ·exact .inr ⟨q,ob,N,O,P,T.cY sle⟩
 have up:∀{x B},ψ.s x B->∀{u},((H.set (some (.sep R)) aa b).set (some (.sep Q)) aa n).get x=some (.sep u)->∃t U,H.get t=some (.sep U)/\φ.s t B/\(t=b<->(x=b∨x=n))/\(t≠b->t=x):=λ{x B} i {u} c=>by
  rcases cs x _ c with⟨rfl,_⟩|⟨j,⟨rfl,_⟩|⟨a,l⟩⟩
  ·rw[K]at i;exact⟨b,_,J,(W B).2 (.inl i),by simp,λq=>absurd rfl q⟩
  ·rw[sb]at i;exact⟨x,_,J,(W B).2 (.inr i),by simp,λq=>absurd rfl q⟩
  ·rw[so x j a]at i;exact⟨x,_,l,i,by simp[j,a],λ_=>rfl⟩
 have fin:∀{x u},((H.set (some (.sep R)) aa b).set (some (.sep Q)) aa n).get x=some (.sep u)->∀B,ψ.s x B->(B<h.n/\h0.f B=none)/\(∀w r G,((H.set (some (.sep R)) aa b).set (some (.sep Q)) aa n).get w=some r->r.own=true->ψ w=some G->G.B≠B)/\(∀q,ψ.z q->q.B≠B)/\∀w Q',((H.set (some (.sep R)) aa b).set (some (.sep Q)) aa n).get w=some (.sep Q')->w≠x->¬ψ.s w B:=λ{x u} c B i=>by
  obtain⟨t,U,e1,e2,e3,e4⟩:=up i c;obtain⟨N,O,P,T⟩:=(d.sep t U e1).2 B e2;refine⟨N,λy r G D ho hp=>O y r G (own y r G D hp) ho hp,P,λy Q' D v I=>?_⟩;obtain⟨V,Q4,f1,f2,f3,f4⟩:=up I D;by_cases q:V=t
  ·subst q;by_cases L:V=b
   ·have a1:=e3.1 L;have a2:=f3.1 L;rcases a1 with rfl|rfl<;>rcases a2 with rfl|rfl
    ·exact v rfl
    ·rw[sb]at i;rw[K]at I;exact y2 B I i
    ·rw[K]at i;rw[sb]at I;exact y2 B i I
    ·exact v rfl
   ·exact v ((f4 L).symm.trans (e4 L))
  ·exact T V Q4 f1 q f2
 refine⟨?_,fin c⟩;rcases cs x _ c with⟨rfl,a⟩|⟨j,⟨rfl,a⟩|⟨l,p⟩⟩
 ·injection a with a;subst a;rw[K];exact y3
 ·injection a with a;subst a;rw[sb];exact y4
 ·rw[so x j l];exact(d.sep x u p).1
theorem HR.join(c:HR φ H n h0 h)(F:b≠m)(D:H.get b=some (.sep R))(U:H.get m=some (.sep Q)):∃ψ,PLe φ ψ/\HR ψ ((H.set none aa m).set (some (.sep (.kj Q R))) aa b) n h0 h:=by
 obtain⟨r1,r2⟩:=c.sep b _ D;obtain⟨q1,q2⟩:=c.sep m _ U;have r:=c.nu D
 let ψ:Ph:=⟨φ.f,φ.z,φ.y,λx=>if x=b then(λB=>φ.s m B∨φ.s b B)else φ.s x⟩
 have sb:ψ.s b=λB=>φ.s m B∨φ.s b B:=if_pos rfl
 have V:∀x,x≠b->ψ.s x=φ.s x:=λx j=>if_neg j
 have cs:∀x o,((H.set none aa m).set (some (.sep (.kj Q R))) aa b).get x=some o->(x=b/\o= .sep (.kj Q R))∨(x≠b/\x≠m/\H.get x=some o):=λx o a=>by
  rcases PM.ak aa _ b x o a with⟨j,d⟩|⟨j,d⟩
  ·injection d with d;exact .inl ⟨j,d.symm⟩
  ·rcases PM.ak aa H m x o d with⟨l,t⟩|⟨l,t⟩
   ·cases t
   ·exact .inr ⟨j,l,t⟩
 have own:∀x o q,((H.set none aa m).set (some (.sep (.kj Q R))) aa b).get x=some o->φ x=some q->H.get x=some o:=λx o q a k=>by
  rcases cs x o a with⟨rfl,_⟩|⟨_,_,l⟩
  ·rw[r]at k;cases k
  ·exact l
 have sle:SLe φ ψ:=⟨λ_ _ h=>h,λ_ h=>h⟩;refine⟨ψ,⟨λ_ _ h=>h,λ_ h=>h,λ_ h=>h⟩,⟨c.dom,λx o a=>?_,λx y o u q W a v ho G k w e=>c.inj x y o u q W (own x o q a k) (own y u W v w) ho G k w e,c.base,c.size,λq k=>⟨⟨FzR.mono (φ:=φ) (ψ:=ψ) sle.z (c.frz q k).1.1,(c.frz q k).1.2⟩,λx o px a ho A=>(c.frz q k).2 x o px (own x o px a A) ho A⟩,λx E a=>?_⟩⟩
 ·rcases cs x o a with⟨rfl,rfl⟩|⟨_,_,t⟩
  ·exact .inl ⟨r,rfl⟩
  ·rcases c.live x o t with g|⟨q,ob,I,J,K,L⟩
   ·exact .inl g
   ·exact .inr ⟨q,ob,I,J,K,L.cY sle⟩
 have up:∀{x B},ψ.s x B->∀{E},((H.set none aa m).set (some (.sep (.kj Q R))) aa b).get x=some (.sep E)->∃p M,H.get p=some (.sep M)/\φ.s p B/\(x=b/\(p=b∨p=m)∨x≠b/\x≠m/\p=x):=λ{x B} i {E} a=>by
  rcases cs x _ a with⟨rfl,_⟩|⟨j,d,l⟩
  ·rw[sb]at i;rcases i with i|i
   ·exact⟨m,_,U,i,.inl ⟨rfl,.inr rfl⟩⟩
   ·exact⟨x,_,D,i,.inl ⟨rfl,.inl rfl⟩⟩
  ·rw[V x j]at i;exact⟨x,_,l,i,.inr ⟨j,d,rfl⟩⟩
 refine⟨?_,λB i=>?_⟩
 ·rcases cs x _ a with⟨rfl,d⟩|⟨j,d,l⟩
  ·injection d with d;subst d;rw[sb];exact⟨φ.s m,φ.s x,λ_=>Iff.rfl,λB i=>(q2 B i).2.2.2 x R D F,q1,r1⟩
  ·rw[V x j];exact(c.sep x E l).1
 ·obtain⟨p,M,e1,e2,e3⟩:=up i a;obtain⟨I,J,K,L⟩:=(c.sep p M e1).2 B e2;refine⟨I,λy u Y v ho Z=>J y u Y (own y u Y v Z) ho Z,K,λy Q' v C hs=>?_⟩;obtain⟨y',Q4,f1,f2,f3⟩:=up hs v;by_cases q:y'=p
  ·subst q;rcases e3 with⟨N,O⟩|⟨N,O,a3⟩<;>rcases f3 with⟨P,T⟩|⟨P,T,c3⟩
   ·exact C (P.trans N.symm)
   ·subst c3;rcases O with rfl|rfl
    ·exact P rfl
    ·exact T rfl
   ·subst a3;rcases T with rfl|rfl
    ·exact N rfl
    ·exact O rfl
   ·exact C (c3.symm.trans a3)
  ·exact L y' Q4 f1 q f2
end
def VZ(run:List AV->AH->Nat->PK->Prop)(args:List AV)(H:AH)(n:Nat)(κ:PK):Prop:=∃(b:Nat) (A C:List HP) (Q:HP),b<n/\n<800000/\H.get n=none/\H.get b=some (.sep (aF (A++Q::C)))/\run args ((H.set (some (.sep (aF (A++C)))) aa b).set (some (.sep Q)) aa n) (n+1) λv a d=>∃c,a.get b=some (.sep (aF (A++C)))/\a.get n=some (.sep c)/\κ v ((a.set none aa n).set (some (.sep (aF (A++c::C)))) aa b) d
theorem ai.st{f:FuncId}{run:List AV->AH->Nat->PK->Prop}(d:ai f run):ai f (VZ run):=λargs H n Y ⟨b,A,C,Q,i,Z,F,G,I⟩ φ h0 h J K L a M=>by
 have j:=L.tV (Q':= .kj Q (aF (A++C))) G λ_ _ _=>tf A
 obtain⟨y,B,l⟩:=j.split i (PM.geq (by omega))
 have p:HR y ((H.set (some (.sep (aF (A++C)))) aa b).set (some (.sep Q)) aa n) (n+1) h0 h:=l.less λx o q=>by
  rcases PM.ak aa _ n x o q with⟨rfl,c⟩|⟨e,c⟩
  ·rw[PM.geq (by omega)];exact c
  rcases PM.ak aa H b x o c with⟨rfl,r⟩|⟨D,r⟩
  ·exact PM.gne (by omega) e (by rw[PM.geq (by omega)];exact r)
  ·exact PM.gne (by omega) e (PM.gne (by omega) D (PM.gne (by omega) D r))
 refine d args _ _ _ I y h0 h J K p (VRs.mono B _ _ a) λχ v H2 N u g s O P ⟨k,T,U,V⟩=>?_
 obtain⟨W,E,t⟩:=O.join (by omega) T U;have w:=t.tV (Q':=aF (A++k::C)) (PM.geq (by omega)) λ_ _ _=>xb A
 refine M W v _ N u g ((B.trans s).trans E) (w.less λx o q=>?_) (VR.mono E _ _ P) V;rcases PM.ak aa _ b x o q with⟨rfl,c⟩|⟨e,c⟩
 ·rw[PM.geq (by omega)];exact c
 ·exact PM.gne (by omega) e (PM.gne (by omega) e c)
def V0(run:List AV->AH->Nat->PK->Prop)(args:List AV)(H:AH)(n:Nat)(κ:PK):Prop:=∃(b:Nat) (A C:List HP) (Q:HP) (v:AV) (a:Nat),b<n/\n<800000/\H.get n=none/\H.get b=some (.sep (aF (A++Q::C)))/\n<=a/\run args ((H.set (some (.sep (aF (A++C)))) aa b).set (some (.sep Q)) aa n) (n+1) (λu c d=>u=v/\c=(H.set (some (.sep (aF (A++C)))) aa b).set (some (.sep Q)) aa n/\d=a)/\κ v H a
theorem ai.sl{f:FuncId}{run:List AV->AH->Nat->PK->Prop}(d:ai f run):ai f (V0 run):=λargs H n P ⟨b,A,C,Q,v,B,D,E,s,t,T,F,G⟩ φ h0 h I K J a L=>by
 refine d.w.st args H n (λu i j=>u=v/\j=B/\∀x o,H.get x=some o->i.get x=some o) ⟨b,A,C,Q,D,E,s,t,_,F,λu i j ⟨k,l,p⟩=>?_⟩ φ h0 h I K J a λM u i j w g r N O ⟨k,l,p⟩=>?_
 ·subst k l p;refine⟨Q,PM.gne (by omega) (by omega) (PM.geq (by omega)),PM.geq (by omega),rfl,rfl,λx o c=>?_⟩;by_cases q:x=b
  ·subst q;rw[t]at c;injection c with c;subst c;exact PM.geq (by omega)
  ·have y:x≠n:=λe=>by subst e;rw[s]at c;cases c
   exact PM.gne (by omega) q (PM.gne (by omega) y (PM.gne (by omega) y (PM.gne (by omega) q c)))
 ·subst k l;exact L M u H _ w g r (N.less p) O G
abbrev Tx:=List Nat
def strs(V:List (List Nat)):List AV:=V.map λs=> .ss s
theorem b6(V:List (List Nat)):(strs V).all flat.flat1=true:=by simp[strs,flat.flat1]
theorem dd(V:List (List Nat)):(strs V).map mk=strs V:=by simp[strs,mk,Function.comp_def]
theorem bq(V:List (List Nat)):(strs V).length=V.length:=by simp[strs]
theorem gm{V:List (List Nat)}{i o:Nat}(h:i<V.length)(ho:o=i):nth (strs V) o=some (.ss V[i]):=by
 subst ho;rw[eR,strs,q0q,X4 h];rfl
def rS(V:List (List Nat))(i:Nat):Prop:=∀j,j+1<i->∀h:j+1<V.length,ltL (V[j]'(by omega)) V[j+1]=true
instance (V:List (List Nat)) (i:Nat):Decidable (rS V i):=Classical.propDecidable _
def lb (V:List (List Nat)):Bool:=decide (rS V V.length)
def rs0 (V:List (List Nat)) (i:Nat):AE×AH:=(mkE [(0,.fr V.length 1 (strs V)),(3,.si .i64 (i))],mkH [])
theorem Hw{V:List (List Nat)}{i:Nat}{p n:Nat}{σ:AE}{H:AH}(a:p<=0)(b:aj (pa 0) σ= .fr V.length 1 (strs V))(c:mk (aj (pa 3) σ)= .si .i64 (i)):Cov p σ H n ((rs0 V i).1,(rs0 V i).2,0):=
 Cov.ofA a ⟨ah.frE b,.int c,trivial⟩ trivial rfl
theorem ah.fn0{H:AH}{m:Nat}{r:Nat->Nat}{a:AV}{f:Nat}(e:a= .fn f [] []):ah H m r a (.fn f [] []):=λg h v _ _ b=>by
 subst e;obtain⟨xs,cs,rfl,c,d⟩:=b.m6;exact .fn (by rw[c.aQ];exact .nil) (by rw[d.aQ];exact .nil)
theorem Dv(V:List (List Nat)):(strs V).all oi=true:=by simp[strs,oi]
theorem JW(V:List (List Nat))(i:Nat):(strs V).drop i=strs (V.drop i):=by simp[strs,List.map_drop]
theorem JX(V:List (List Nat))(i:Nat):(strs V).take i=strs (V.take i):=by simp[strs,q4a]
theorem dU(W:List (List Nat))(v:List Nat):(strs W++ [AV.ss v]).map mk=strs (W++ [v]):=by simp[strs,mk,Function.comp_def]
theorem tyT:RTy 58 58 1 16:=⟨_,_,_,rfl,rfl,(λq h=>by cases h),rfl,rfl,rfl,rfl,by decide,by decide⟩
def leS (a b:List Nat):Bool:=ltL a b||dw a b
theorem tg:∀(a b:List Nat),leS a b=false->leS b a=true
 | [],[],h=>by cases h
 | [],_::_,h=>by cases h
 |_::_,[],_=>rfl
 |a::x,b::y,h=>by
  unfold leS ltL dw at h⊢;by_cases e:a=b
  ·subst e;rw[Nat.beq_refl]at h⊢;exact tg x y h
  ·have c:Nat.beq a b=false:=by cases q:Nat.beq a b;rfl;exact absurd (q0a q) e
   have d:Nat.beq b a=false:=by cases q:Nat.beq b a;rfl;exact absurd (q0a q).symm e
   rw[c]at h;rw[d];simp only[Bool.or_false]at h⊢;have f:¬a<b:=λq=>by rw[(q2h (x:=a) (y:=b)).mpr q]at h;cases h
   exact(q2h (x:=b) (y:=a)).mpr (by omega)
def bu (q:Bool):List Tx->List Tx->List Tx
 | [],B=>if q=true then B else []
 |a::A,[]=>a::A
 |a::A,b::B=>if leS a b=true then(if leS b a=true then(if q=true then b::bu q A B else bu q A B)else a::bu q A (b::B))else(if q=true then b::bu q (a::A) B else bu q (a::A) B)
termination_by A B=>A.length+B.length
decreasing_by all_goals(simp only[Z8];omega)
section
variable {q:Bool}
theorem gu(B:List Tx):bu q [] B=if q=true then B else []:=by rw[bu]
theorem gv(A:List Tx):bu q A []=A:=by cases A<;>rw[bu];split<;>rfl
theorem mF{a b:Tx}(A B:List Tx)(h:leS a b=true)(k:¬leS b a=true):bu q (a::A) (b::B)=a::bu q A (b::B):=by rw[bu,if_pos h,if_neg k]
theorem mG{a b:Tx}(A B:List Tx)(h:leS a b=true)(k:leS b a=true):bu q (a::A) (b::B)=(if q=true then [b]else [])++bu q A B:=by rw[bu,if_pos h,if_pos k];split<;>rfl
theorem mH{a b:Tx}(A B:List Tx)(h:¬leS a b=true):bu q (a::A) (b::B)=(if q=true then [b]else [])++bu q (a::A) B:=by rw[bu,if_neg h];split<;>rfl
end
theorem lf(q:Bool):∀(A B:List Tx),(bu q A B).length<=A.length+B.length
 | [],B=>by rw[gu];split<;>simp
 |a::A,[]=>by rw[gv];simp
 |a::A,b::B=>by
  have e:∀l:List Tx,((if q=true then [b]else [])++l).length<=l.length+1:=λl=>by split<;>simp
  by_cases h:leS a b=true
  ·by_cases k:leS b a=true
   ·have:=lf q A B;have:=e (bu q A B);rw[mG A B h k];simp only[Z8];omega
   ·have:=lf q A (b::B);rw[mF A B h k];simp only[Z8]at this⊢;omega
  ·have:=lf q (a::A) B;have c:=e (bu q (a::A) B);rw[mH A B h];simp only[Z8]at this⊢;omega
termination_by A B=>A.length+B.length
def ms0 (A:List Tx) (B:List Tx) (O:List Tx) (f:Nat):AE×AH:=(mkE [(0,.fr A.length 1 (strs A)),(1,.fr B.length 1 (strs B)),(2,AV.fn f [] []),(7,.rw 0 0 O.length 1 0)],mkH [(0,.cells (strs (O)) true)])
theorem gH{A:List Tx}{B:List Tx}{O:List Tx}{f:Nat}{p n:Nat}{σ:AE}{H:AH}(a:Nat)(o:p<=0)(e:aj (pa 0) σ= .fr A.length 1 (strs A))(i:aj (pa 1) σ= .fr B.length 1 (strs B))(j:ah H 1 (λb=>if b=0 then a else b) (aj (pa 2) σ) (AV.fn f [] []))(k:ah H 1 (λb=>if b=0 then a else b) (aj (pa 7) σ) (.rw 0 0 O.length 1 0))(m:(∃l,H.get a=some (.cells l true)/\l.map mk=strs (O))∨((O)=[]/\n<=a)):Cov p σ H n ((ms0 A B O f).1,(ms0 A B O f).2,1):=
 Cov.ofB (λb=>if b=0 then a else b) (by omega) (λb r=>by repeat' rw[if_neg (by omega)]) ⟨ah.frE e,ah.frE i,j,k,trivial⟩ ⟨m.elim (λ⟨l,h,g⟩=> .inl ⟨_,h,ao.bA (b6 _) (by rw[g,dd]) (λq=>q)⟩) (λh=> .inr ⟨by rw[h.1];rfl,h.2⟩),trivial⟩ rfl (λx c y d=>by simp only[Z4,Z5,or_false]at c d;subst c d;exact λ_=>rfl)
def GMs:FuncId->EP:=bb 206 [] evP
theorem T0:aU GMs:=au az (by kernel_rfl) (by kernel_rfl)
def R0(f:Nat)(q:Bool):Prop:=(f=214/\q=true)∨(f=222/\q=true)∨(f=215/\q=false)
theorem Ft(V W:List Tx)(f:Nat)(q:Bool)(o:R0 f q)(p:V.length+W.length<=1000000):ax GMs 3 206 [.fr V.length 1 (strs V),.fr W.length 1 (strs W),.fn f [] []] .nil 0 (dA (.fr (bu q V W).length 1 (strs (bu q V W)))):=by
 rcases o with⟨rfl,j⟩|⟨rfl,j⟩|⟨rfl,j⟩
 all_goals
  conv=>whnf
  first
  |(refine aR.mk {t:List (List Nat)×List (List Nat)×List (List Nat)//t.1.length+t.2.1.length+t.2.2.length<=V.length+W.length/\t.2.2++bu q t.1 t.2.1=bu q V W} 1 (λt=>ms0 t.val.1 t.val.2.1 t.val.2.2 214) (λt=>t.val.1.length+t.val.2.1.length) ⟨(V,W,[]),by simp,rfl⟩ ?_ ?_;focus exact gH (O:=[]) 0 (Z3 0) rfl rfl (.fn0 rfl) (.iP rfl) (.inr ⟨rfl,Z3 _⟩))
  |(refine aR.mk {t:List (List Nat)×List (List Nat)×List (List Nat)//t.1.length+t.2.1.length+t.2.2.length<=V.length+W.length/\t.2.2++bu q t.1 t.2.1=bu q V W} 1 (λt=>ms0 t.val.1 t.val.2.1 t.val.2.2 222) (λt=>t.val.1.length+t.val.2.1.length) ⟨(V,W,[]),by simp,rfl⟩ ?_ ?_;focus exact gH (O:=[]) 0 (Z3 0) rfl rfl (.fn0 rfl) (.iP rfl) (.inr ⟨rfl,Z3 _⟩))
  |(refine aR.mk {t:List (List Nat)×List (List Nat)×List (List Nat)//t.1.length+t.2.1.length+t.2.2.length<=V.length+W.length/\t.2.2++bu q t.1 t.2.1=bu q V W} 1 (λt=>ms0 t.val.1 t.val.2.1 t.val.2.2 215) (λt=>t.val.1.length+t.val.2.1.length) ⟨(V,W,[]),by simp,rfl⟩ ?_ ?_;focus exact gH (O:=[]) 0 (Z3 0) rfl rfl (.fn0 rfl) (.iP rfl) (.inr ⟨rfl,Z3 _⟩))
  ·intro⟨(A,B,O),e,h⟩;dsimp only at e h;have l:bk (strs O) 0 (O.length*1)=some (strs O):=bw (by rw[bq,q0i]);cases A with
   |nil=>
    cases B with
    |nil=>
     conv=>whnf
     refine ae.dec (λc=>absurd (show(0:Int)<IntKind.i64.wrap (((0:Nat):Int)+((0:Nat):Int)) from c) (by decide)) (λ_=>?_);have m:O=bu q V W:=by rw[<-h,gu];simp
     conv=>whnf
     exact dA.row rfl (congrArg List.length m) rfl (congrArg (λz=>(strs z).map mk) m) (by rw[bq,q0i]) (b6 _)
    |cons b B=>
     have n:(0:Int)<IntKind.i64.wrap (((0:Nat):Int)+((B.length+1:Nat):Int)):=by simp only[Z8,q1e]at e;rw[al (by omega) (by omega)];omega
     have d:(O.length+1)*16<=140737488355328:=by simp only[Z8,q1e]at e;omega
     conv=>whnf
     refine ae.dec (λ_=>?_) (λc=>absurd n c)
     conv=>whnf
     refine ae.dec (λc=>absurd (show((0:Nat):Int)>0 from c) (by decide)) (λ_=>?_)
     conv=>whnf
     refine ae.dec (λ_=>?_) (λc=>absurd (show(0:Int)<((B.length+1:Nat):Int) by omega) c)
     conv=>whnf
     refine ae.dec (λ_=>?_) (λc=>absurd rfl c)
     conv=>whnf
     refine Idx.mk 0 rfl (q3o _) ?_
     conv=>whnf
     refine RSl.mk 1 (B.length+1) rfl rfl (.inl rfl) (q3t (X5 _)) (Z3 _) ?_
     conv=>whnf
     first
     |(refine bF.grow 1 16 _ _ _ _ _ _ tyT (.old rfl) rfl rfl (.rw rfl l) d ?_;(conv=>whnf);refine⟨⟨([],B,O++ [b]),?_,?_⟩,?_,gH 2 (X5 _) rfl rfl (.fn0 rfl) (ah.rw (by decide) rfl) (.inl ⟨_,rfl,dU O b⟩)⟩;(focus (simp only[Z8,Z6,q1e]at e⊢<;>omega));(focus (show(O++ [b])++bu q [] B=_;rw[<-h,gu,gu];try simp[j]));(focus (show 0+B.length<0+(B.length+1);omega)))
     |(refine⟨⟨([],B,O),?_,?_⟩,?_,gH 0 (Z3 0) rfl rfl (.fn0 rfl) (ah.rw (by decide) rfl) (.inl ⟨_,rfl,dd O⟩)⟩;(focus (simp only[Z8]at e⊢<;>omega));(focus (show(O)++bu q [] B=_;rw[<-h,gu,gu];try simp[j]));(focus (show 0+B.length<0+(B.length+1);omega)))
   |cons a A=>
    have d:(O.length+1)*16<=140737488355328:=by simp only[Z8]at e;omega
    cases B with
    |nil=>
     have n:(0:Int)<IntKind.i64.wrap (((A.length+1:Nat):Int)+((0:Nat):Int)):=by simp only[Z8,q1e]at e;rw[al (by omega) (by omega)];omega
     conv=>whnf
     refine ae.dec (λ_=>?_) (λc=>absurd n c)
     conv=>whnf
     refine ae.dec (λ_=>?_) (λc=>absurd (show(0:Int)<((A.length+1:Nat):Int) by omega) c)
     conv=>whnf
     refine ae.dec (λ_=>?_) (λc=>absurd rfl c)
     conv=>whnf
     refine ae.dec (λc=>absurd (show((0:Nat):Int)>0 from c) (by decide)) (λ_=>?_)
     conv=>whnf
     refine Idx.mk 0 rfl (q3o _) ?_
     conv=>whnf
     refine RSl.mk 1 (A.length+1) rfl rfl (.inl rfl) (q3t (X5 _)) (Z3 _) ?_
     conv=>whnf
     first
     |(refine bF.grow 1 16 _ _ _ _ _ _ tyT (.old rfl) rfl rfl (.rw rfl l) d ?_;(conv=>whnf);refine⟨⟨(A,[],O++ [a]),?_,?_⟩,?_,gH 2 (X5 _) rfl rfl (.fn0 rfl) (ah.rw (by decide) rfl) (.inl ⟨_,rfl,dU O a⟩)⟩;(focus (simp only[Z8,Z6,q1e]at e⊢<;>omega));(focus (show(O++ [a])++bu q A []=_;rw[<-h,gv,gv];try simp));(focus (show A.length+0<(A.length+1)+0;omega)))
     |(refine⟨⟨(A,[],O),?_,?_⟩,?_,gH 0 (Z3 0) rfl rfl (.fn0 rfl) (ah.rw (by decide) rfl) (.inl ⟨_,rfl,dd O⟩)⟩;(focus (simp only[Z8]at e⊢<;>omega));(focus (show(O)++bu q A []=_;rw[<-h,gv,gv];try simp));(focus (show A.length+0<(A.length+1)+0;omega)))
    |cons b B=>
     have n:(0:Int)<IntKind.i64.wrap (((A.length+1:Nat):Int)+((B.length+1:Nat):Int)):=by simp only[Z8]at e;rw[al (by omega) (by omega)];omega
     conv=>whnf
     refine ae.dec (λ_=>?_) (λc=>absurd n c)
     conv=>whnf
     refine ae.dec (λ_=>?_) (λc=>absurd (show(0:Int)<((A.length+1:Nat):Int) by omega) c)
     conv=>whnf
     refine ae.dec (λc=>absurd (show((B.length+1:Nat):Int)=0 from c) (by omega)) (λ_=>?_)
     conv=>whnf
     refine Idx.mk 0 rfl (q3o _) ?_
     conv=>whnf
     refine Idx.mk 0 rfl (q3o _) ?_
     conv=>whnf
     refine ae.dec (λ_=>?_) (λc=>absurd (show(0:Int)<((B.length+1:Nat):Int) by omega) c)
     conv=>whnf
     refine ae.dec (λc=>absurd (show((A.length+1:Nat):Int)=0 from c) (by omega)) (λ_=>?_)
     conv=>whnf
     refine Idx.mk 0 rfl (q3o _) ?_
     conv=>whnf
     refine Idx.mk 0 rfl (q3o _) ?_
     conv=>whnf
     refine ae.sb (λc=>?_) (λc=>?_)
     ·have k:leS a b=true:=c
      conv=>whnf
      refine Idx.mk 0 rfl (q3o _) ?_
      conv=>whnf
      refine RSl.mk 1 (A.length+1) rfl rfl (.inl rfl) (q3t (X5 _)) (Z3 _) ?_
      conv=>whnf
      refine ae.sb (λg=>?_) (λg=>?_)
      ·have i:leS b a=true:=g
       conv=>whnf
       refine Idx.mk 0 rfl (q3o _) ?_
       conv=>whnf
       refine RSl.mk 1 (B.length+1) rfl rfl (.inl rfl) (q3t (X5 _)) (Z3 _) ?_
       conv=>whnf
       repeat(first|(refine ae.sb (λ_=>?_) (λz=>absurd (z.symm.trans c) (by decide));(conv=>whnf))|(refine ae.sb (λz=>absurd (z.symm.trans c) (by decide)) (λ_=>?_);(conv=>whnf))|(refine ae.nsb (λ_=>?_) (λz=>absurd (z.symm.trans c) (by decide));(conv=>whnf))|(refine ae.nsb (λz=>absurd (z.symm.trans c) (by decide)) (λ_=>?_);(conv=>whnf))|(refine ae.sb (λ_=>?_) (λz=>absurd (z.symm.trans g) (by decide));(conv=>whnf))|(refine ae.sb (λz=>absurd (z.symm.trans g) (by decide)) (λ_=>?_);(conv=>whnf))|(refine ae.nsb (λ_=>?_) (λz=>absurd (z.symm.trans g) (by decide));(conv=>whnf))|(refine ae.nsb (λz=>absurd (z.symm.trans g) (by decide)) (λ_=>?_);(conv=>whnf)))
       first
       |(refine bF.grow 1 16 _ _ _ _ _ _ tyT (.old rfl) rfl rfl (.rw rfl l) d ?_;(conv=>whnf);refine⟨⟨(A,B,O++ [b]),?_,?_⟩,?_,gH 2 (X5 _) rfl rfl (.fn0 rfl) (ah.rw (by decide) rfl) (.inl ⟨_,rfl,dU O b⟩)⟩;(focus (simp only[Z8,Z6,q1e]at e⊢<;>omega));(focus (show(O++ [b])++_=_;rw[<-h,mG A B k i];try simp[j]));(focus (show A.length+B.length<(A.length+1)+(B.length+1);omega)))
       |(refine⟨⟨(A,B,O),?_,?_⟩,?_,gH 0 (Z3 0) rfl rfl (.fn0 rfl) (ah.rw (by decide) rfl) (.inl ⟨_,rfl,dd O⟩)⟩;(focus (simp only[Z8]at e⊢<;>omega));(focus (show(O)++_=_;rw[<-h,mG A B k i];try simp[j]));(focus (show A.length+B.length<(A.length+1)+(B.length+1);omega)))
      ·have i:¬leS b a=true:=by rw[show leS b a=false from g];decide
       conv=>whnf
       repeat(first|(refine ae.sb (λ_=>?_) (λz=>absurd (z.symm.trans c) (by decide));(conv=>whnf))|(refine ae.sb (λz=>absurd (z.symm.trans c) (by decide)) (λ_=>?_);(conv=>whnf))|(refine ae.nsb (λ_=>?_) (λz=>absurd (z.symm.trans c) (by decide));(conv=>whnf))|(refine ae.nsb (λz=>absurd (z.symm.trans c) (by decide)) (λ_=>?_);(conv=>whnf))|(refine ae.sb (λ_=>?_) (λz=>absurd (z.symm.trans g) (by decide));(conv=>whnf))|(refine ae.sb (λz=>absurd (z.symm.trans g) (by decide)) (λ_=>?_);(conv=>whnf))|(refine ae.nsb (λ_=>?_) (λz=>absurd (z.symm.trans g) (by decide));(conv=>whnf))|(refine ae.nsb (λz=>absurd (z.symm.trans g) (by decide)) (λ_=>?_);(conv=>whnf)))
       first
       |(refine bF.grow 1 16 _ _ _ _ _ _ tyT (.old rfl) rfl rfl (.rw rfl l) d ?_;(conv=>whnf);refine⟨⟨(A,b::B,O++ [a]),?_,?_⟩,?_,gH 2 (X5 _) rfl rfl (.fn0 rfl) (ah.rw (by decide) rfl) (.inl ⟨_,rfl,dU O a⟩)⟩;(focus (simp only[Z8,Z6,q1e]at e⊢<;>omega));(focus (show(O++ [a])++_=_;rw[<-h,mF A B k i];try simp));(focus (show A.length+(B.length+1)<(A.length+1)+(B.length+1);omega)))
       |(refine⟨⟨(A,b::B,O),?_,?_⟩,?_,gH 0 (Z3 0) rfl rfl (.fn0 rfl) (ah.rw (by decide) rfl) (.inl ⟨_,rfl,dd O⟩)⟩;(focus (simp only[Z8]at e⊢<;>omega));(focus (show(O)++_=_;rw[<-h,mF A B k i];try simp));(focus (show A.length+(B.length+1)<(A.length+1)+(B.length+1);omega)))
     ·have k:¬leS a b=true:=by rw[show leS a b=false from c];decide
      have i:=tg a b c
      conv=>whnf
      refine ae.sb (λ_=>?_) (λg=>absurd (i.symm.trans g) (by decide))
      conv=>whnf
      refine Idx.mk 0 rfl (q3o _) ?_
      conv=>whnf
      refine RSl.mk 1 (B.length+1) rfl rfl (.inl rfl) (q3t (X5 _)) (Z3 _) ?_
      conv=>whnf
      repeat(first|(refine ae.sb (λ_=>?_) (λz=>absurd (z.symm.trans c) (by decide));(conv=>whnf))|(refine ae.sb (λz=>absurd (z.symm.trans c) (by decide)) (λ_=>?_);(conv=>whnf))|(refine ae.nsb (λ_=>?_) (λz=>absurd (z.symm.trans c) (by decide));(conv=>whnf))|(refine ae.nsb (λz=>absurd (z.symm.trans c) (by decide)) (λ_=>?_);(conv=>whnf))|(refine ae.sb (λ_=>?_) (λz=>absurd (z.symm.trans i) (by decide));(conv=>whnf))|(refine ae.sb (λz=>absurd (z.symm.trans i) (by decide)) (λ_=>?_);(conv=>whnf))|(refine ae.nsb (λ_=>?_) (λz=>absurd (z.symm.trans i) (by decide));(conv=>whnf))|(refine ae.nsb (λz=>absurd (z.symm.trans i) (by decide)) (λ_=>?_);(conv=>whnf)))
      first
      |(refine bF.grow 1 16 _ _ _ _ _ _ tyT (.old rfl) rfl rfl (.rw rfl l) d ?_;(conv=>whnf);refine⟨⟨(a::A,B,O++ [b]),?_,?_⟩,?_,gH 2 (X5 _) rfl rfl (.fn0 rfl) (ah.rw (by decide) rfl) (.inl ⟨_,rfl,dU O b⟩)⟩;(focus (simp only[Z8,Z6,q1e]at e⊢<;>omega));(focus (show(O++ [b])++_=_;rw[<-h,mH A B k];try simp[j]));(focus (show(A.length+1)+B.length<(A.length+1)+(B.length+1);omega)))
      |(refine⟨⟨(a::A,B,O),?_,?_⟩,?_,gH 0 (Z3 0) rfl rfl (.fn0 rfl) (ah.rw (by decide) rfl) (.inl ⟨_,rfl,dd O⟩)⟩;(focus (simp only[Z8]at e⊢<;>omega));(focus (show(O)++_=_;rw[<-h,mH A B k];try simp[j]));(focus (show(A.length+1)+B.length<(A.length+1)+(B.length+1);omega)))
theorem R1{n m k:Nat}{l r:List AV}(a:n=m)(b:l=r):AV.fr n k l=AV.fr m k r:=by subst a b;rfl
theorem JY{l:Nat}(h:l<=8796093022208):IntKind.i64.wrap ((l:Int).tdiv 2)=((l/2:Nat):Int):=by
 rw[show(l:Int).tdiv 2=((l/2:Nat):Int) from by rw[Int.tdiv_eq_ediv_of_nonneg (by omega)];omega];rw[al (by omega) (by omega)]
theorem Hy{x:Int}{j d:Nat}{k:IntKind}(h:x=(j:Int)):mc (some (AV.int k x)) d=some j:=by subst h;rfl
def GS:FuncId->EP:=bb 213 [] evP
theorem V2:aU GS:=au az (by kernel_rfl) (by kernel_rfl)
theorem Fu(V:List (List Nat))(t:V.length<=1000000):ax GS 3 213 [.fr V.length 1 (strs V)] .nil 0 (dA (.sb (lb V))):=by
 conv=>whnf
 refine aR.mk {i:Nat//1<=i/\(i=1∨i<=V.length)/\rS V i} 0 (λi=>rs0 V i.val) (λi=>V.length-i.val) ⟨1,Z3 _,.inl rfl,λj h=>by omega⟩ ?_ ?_
 ·exact Hw (i:=1) (Z3 0) rfl rfl
 ·intro⟨i,u,v,m⟩
  conv=>whnf
  refine ae.dec (λc=>?_) (λc=>?_)
  ·have a:i<V.length:=q0o.1 c;have b:i-1<V.length:=by omega
   have d:V.length-(i+1)<V.length-i:=by omega
   have n:IntKind.i64.wrap ((i:Int)+1)=((i+1:Nat):Int):=by rw[al (by omega) (by omega)];omega
   have f:IntKind.i64.wrap ((i:Int)-1)=((i-1:Nat):Int):=by rw[al (by omega) (by omega)];omega
   have o:∀q:ltL V[i-1] V[i]=true,rS V (i+1):=λq j h g=>by
    by_cases e:j+1=i
    ·have p:j=i-1:=by omega
     subst p;have r:i-1+1=i:=by omega
     (try simp only[r]);exact q
    ·exact m j (by omega) g
   have k:ltL V[i-1] V[i]=false->lb V=false:=λq=>decide_eq_false λh=>by
    have s:i-1+1=i:=by omega
    have:=h (i-1) (by omega) (by omega);simp only[s]at this;rw[q]at this;cases this
   conv=>whnf
   refine Idx.mk (i-1) f b ?_
   conv=>whnf
   refine aw (gm b (q0i _)) ?_
   conv=>whnf
   refine Idx.mk i rfl a ?_
   conv=>whnf
   refine aw (gm a (q0i _)) ?_
   conv=>whnf
   refine ae.nsb (λl=>?_) (λl=>?_)
   ·conv=>whnf
    exact dA.told (congrArg AV.sb (k l).symm)
   ·conv=>whnf
    exact⟨⟨i+1,by omega,.inr a,o l⟩,d,Hw (Z3 0) rfl (congrArg (AV.si .i64) n)⟩
  ·have a:V.length<=i:=by have:¬(i:Int)<(V.length:Int):=c;omega
   have b:lb V=true:=decide_eq_true λj h g=>m j (by omega) g
   conv=>whnf
   exact dA.told (congrArg AV.sb b.symm)
def V3(cs:List AV)(v:AV):Prop:=∃V,cs=[.fr V.length 1 (strs V)]/\V.length<=1000000/\v= .sb (lb V)
theorem XA:ai 213 (cQ V3):=oQ V2 3 (by kernel_rfl) λcs v ⟨V,a,b,c⟩=>by subst a c;exact⟨rfl,rfl,Fu V b⟩
def y6(args:List AV)(H:AH)(n:Nat)(κ:PK):Prop:=match args with
 | [x,y,.fn f [] []]=>∃V W q,x= .fr V.length 1 (strs V)/\y= .fr W.length 1 (strs W)/\R0 f q/\V.length+W.length<=1000000/\κ (.fr (bu q V W).length 1 (strs (bu q V W))) H n
 |_=>False
theorem T1:fU y6:= .pure λargs H n i a=>by
 unfold y6 at*;split at a
 ·obtain⟨V,W,q,b,c,d,e,f⟩:=a;exact⟨_,f,λg h=>⟨V,W,q,b,c,d,e,h⟩⟩
 ·exact a.elim
theorem T3{φ ψ:Ph}{f:Nat}{v:Value}(h:VR φ (.fn f [] []) v):VR ψ (.fn f [] []) v:=by
 obtain⟨xs,cs,rfl,a,b⟩:=h.m6;exact .fn (by rw[a.aQ];exact .nil) (by rw[b.aQ];exact .nil)
theorem V4:ai 206 y6:=λargs H n O b c o d P K l a p=>by
 unfold y6 at b;split at b
 ·rename_i x y f;obtain⟨V,W,q,rfl,rfl,e,r,b⟩:=b;obtain⟨x,y,f,rfl,s,t,v⟩:=vs3 a
  have key:Wf d->dH Tryz.prog 206 #[x,y,f] d K:=λA=>ay T0 3 _ _ .nil 0 _ (Ft V W _ q e r) ⟨λ_=>none,c.z,c.z,λ_ _=>False⟩ d d _ K (l.yI (fP A) (λ_ _ h=>by cases h) (λ_ h=>h)) (.cons (lD (ψ:=⟨λ_=>none,c.z,c.z,λ_ _=>False⟩) (λ_ h=>h) rfl s) (.cons (lD (ψ:=⟨λ_=>none,c.z,c.z,λ_ _=>False⟩) (λ_ h=>h) rfl t) (.cons (T3 v) .nil))) λC u Q R w g i D E ⟨S,F⟩=>by
   obtain⟨G,I,j,k⟩:=F C d g w D E;obtain⟨J,L,M,N⟩:=Dr l j (λq e=>i.y q (I.y q e));exact p J _ H n w g L M (nz N rfl k) b
  exact⟨by kernel_rfl,λw m=>(key m.wf).2 w m⟩
 ·exact b.elim
theorem gx{V:List (List Nat)}(h:V.length<2):lb V=true:=decide_eq_true λj _ a=>by omega
def aH (V:List (List Nat)):List (List Nat):=if h:lb V=true then V else bu true (aH (V.take (V.length/2))) (aH (V.drop (V.length/2)))
termination_by V.length
decreasing_by
 ·have:¬V.length<2:=λq=>h (gx q)
  simp;omega
 ·have:¬V.length<2:=λq=>h (gx q)
  simp;omega
theorem oS{V:List (List Nat)}(h:lb V=true):aH V=V:=by rw[aH,dif_pos h]
theorem xc{V:List (List Nat)}(h:¬lb V=true):aH V=bu true (aH (V.take (V.length/2))) (aH (V.drop (V.length/2))):=by rw[aH,dif_neg h]
theorem qJ:∀(N:Nat) (V:List (List Nat)),V.length<=N->(aH V).length<=V.length
 |0,V,h=>by rw[oS (gx (by omega))];exact Z3 _
 |N+1,V,h=>by
  by_cases q:lb V=true
  ·rw[oS q];exact Z3 _
  ·have a:¬V.length<2:=λk=>q (gx k)
   have b:(V.take (V.length/2)).length=V.length/2:=by rw[Y7];omega
   have c:(V.drop (V.length/2)).length=V.length-V.length/2:=q0g;have d:=qJ N (V.take (V.length/2)) (by omega);have e:=qJ N (V.drop (V.length/2)) (by omega);have f:=lf true (aH (V.take (V.length/2))) (aH (V.drop (V.length/2)));rw[xc q];omega
theorem dh(V:List (List Nat)):(aH V).length<=V.length:=qJ _ V (Z3 _)
def Ql(N:Nat)(cs:List AV)(v:AV):Prop:=∃V,cs=[.fr V.length 1 (strs V)]/\V.length<=N/\V.length<=1000000/\v= .fr (aH V).length 1 (strs (aH V))
def lg:DT:=[(4,[(some 0,[0]),(some 0,[3]),(some 0,[11,12]),(none,[13]),(some 1,[0]),(some 2,[3]),(some 3,[15,16]),(none,[17]),(none,[14,18]),(some 0,[19])])]
def GSm:FuncId->EP:=cf 213 (ub V3) (cf 206 y6 evP)
theorem Ny:aU GSm:=aO (aO az V4 T1) XA.cs (w9 _)
def GSo (N:Nat):FuncId->EP:=cf 180 (ub (Ql N)) GSm
theorem T4{N:Nat}(h:ai 180 (ub (Ql N))):aU (GSo N):=aO Ny h (w9 _)
theorem Fv(N:Nat)(V:List (List Nat))(i:V.length<=N+1)(e:V.length<=1000000):O3 (GSo N) 3 lg 180 [.fr V.length 1 (strs V)] .nil 0 (dA (.fr (aH V).length 1 (strs (aH V)))):=by
 have a:(strs (aH V)).length=(aH V).length*1:=by rw[bq,q0i]
 have d:(strs V).length=V.length*1:=by rw[bq,q0i]
 have b:(0+V.length)*16<=140737488355328:=by omega
 conv=>whnf
 refine⟨[.fr V.length 1 (strs V)],_,.cons .same .nil,⟨V,rfl,e,rfl⟩,?_⟩
 conv=>whnf
 refine ae.sb (λc=>?_) (λc=>?_)
 ·have he:=oS c
  conv=>whnf
  refine bF.grow 1 16 _ _ _ _ _ _ tyT .fr d (Dv _) .nsl b ?_
  conv=>whnf
  exact dA.row rfl (by rw[he,q0s]) rfl (by rw[he];rfl) a (b6 _)
 ·have j:¬V.length<2:=λk=>by rw[gx k]at c;cases c
  have he:=xc (V:=V) (by rw[c];decide);have hw:=JY (l:=V.length) (by omega);have f:(V.take (V.length/2)).length=V.length/2:=by rw[Y7];omega
  have g:(V.drop (V.length/2)).length=V.length-V.length/2:=q0g
  have h:(aH (V.take (V.length/2))).length+(aH (V.drop (V.length/2))).length<=1000000:=by
   have:=dh (V.take (V.length/2));have:=dh (V.drop (V.length/2));omega
  conv=>whnf
  refine RSl.mk 0 (V.length/2) rfl (Hy hw) (.inl rfl) (X5 _) (by omega) ?_
  conv=>whnf
  refine⟨_,_,.cons .same .nil,⟨V.take (V.length/2),congrArg (λx=> [x]) (R1 f.symm ((congrArg ((strs V).take ·) (q0i _)).trans (JX _ _))),by omega,by omega,rfl⟩,?_⟩
  conv=>whnf
  refine RSl.mk (V.length/2) V.length (Hy hw) rfl (.inl rfl) (by omega) (Z3 _) ?_
  conv=>whnf
  refine⟨_,_,.cons .same .nil,⟨V.drop (V.length/2),congrArg (λx=> [x]) (R1 g.symm ((congrArg ((strs V).drop ·) (q0i _)).trans (JW _ _))),by omega,by omega,rfl⟩,?_⟩
  conv=>whnf
  refine⟨aH (V.take (V.length/2)),aH (V.drop (V.length/2)),true,rfl,rfl,.inl ⟨rfl,rfl⟩,h,?_⟩
  conv=>whnf
  exact⟨_,by rw[he];exact .same⟩
theorem Dw(V:List (List Nat))(e:V.length<=0):O3 GSm 3 lg 180 [.fr V.length 1 (strs V)] .nil 0 (dA (.fr (aH V).length 1 (strs (aH V)))):=by
 have a:(strs (aH V)).length=(aH V).length*1:=by rw[bq,q0i]
 have c:(strs V).length=V.length*1:=by rw[bq,q0i]
 have b:(0+V.length)*16<=140737488355328:=by omega
 conv=>whnf
 refine⟨[.fr V.length 1 (strs V)],_,.cons .same .nil,⟨V,rfl,by omega,rfl⟩,?_⟩
 conv=>whnf
 refine ae.sb (λd=>?_) (λd=>absurd (gx (V:=V) (by omega)) (by rw[d];decide));have he:=oS d
 conv=>whnf
 refine bF.grow 1 16 _ _ _ _ _ _ tyT .fr c (Dv _) .nsl b ?_
 conv=>whnf
 exact dA.row rfl (by rw[he,q0s]) rfl (by rw[he];rfl) a (b6 _)
theorem R2:∀N,ai 180 (cQ (Ql N))
 |0=>yZ (Gl Ny 3 (by kernel_rfl) (by kernel_rfl)) (by kernel_rfl) λcs v ⟨V,a,b,d,c⟩=>by subst a c;exact⟨rfl,rfl,Dw V b⟩
 |N+1=>yZ (Gl (T4 (R2 N).cs) 3 (by kernel_rfl) (by kernel_rfl)) (by kernel_rfl) λcs v ⟨V,a,b,d,c⟩=>by subst a c;exact⟨rfl,rfl,Fv N V b d⟩
theorem bj:∀{a b:List Nat},dw a b=true<->a=b
 | [],[]=>by simp[dw]
 | [],_::_=>by simp[dw]
 |_::_,[]=>by simp[dw]
 |a::x,b::y=>by
  unfold dw;by_cases e:a=b
  ·subst e;rw[Nat.beq_refl];simp[bj (a:=x) (b:=y)]
  ·have c:Nat.beq a b=false:=by cases q:Nat.beq a b;rfl;exact absurd (q0a q) e
   rw[c];simp[e]
theorem Qm{a b:Nat}(e:a≠b):Nat.beq a b=false:=by cases q:Nat.beq a b;rfl;exact absurd (q0a q) e
theorem xd(c:Nat)(x y:List Nat):ltL (c::x) (c::y)=ltL x y:=by
 show(match Nat.beq c c with|true=>ltL x y|false=>Nat.blt c c)=_;rw[Nat.beq_refl]
theorem xe{a b:Nat}(x y:List Nat)(e:a≠b):ltL (a::x) (b::y)=decide (a<b):=by
 show(match Nat.beq a b with|true=>ltL x y|false=>Nat.blt a b)=_;rw[Qm e,q2j,q2h,decide_eq_true_eq]
theorem gZ:∀a:List Nat,ltL a a=false
 | []=>rfl
 |c::x=>by rw[xd];exact gZ x
theorem iB:∀{a b c:List Nat},ltL a b=true->ltL b c=true->ltL a c=true
 | [],[],_,h,_=>by cases h
 |_::_,[],_,h,_=>by cases h
 |_,_::_,[],_,k=>by cases k
 | [],_::_,_::_,_,_=>rfl
 |a::x,b::y,c::z,h,k=>by
  by_cases e:a=b
  ·subst e;rw[xd]at h;by_cases f:a=c
   ·subst f;rw[xd]at k⊢;exact iB h k
   ·rw[xe _ _ f]at k⊢;exact k
  ·rw[xe _ _ e]at h;have h:=of_decide_eq_true h;by_cases f:b=c
   ·subst f;rw[xe _ _ e];exact decide_eq_true h
   ·rw[xe _ _ f]at k;have k:=of_decide_eq_true k;rw[xe _ _ (by omega)];exact decide_eq_true (by omega)
def UpT(V:List Tx):Prop:=V.Pairwise λa b=>ltL a b=true
theorem th:∀{A B:List Tx},UpT A->UpT B->(∀s,s∈A<->s∈B)->A=B
 | [],[],_,_,_=>rfl
 | [],b::B,_,_,h=>by have:=(h b).2 Y6;cases this
 |a::A,[],_,_,h=>by have:=(h a).1 Y6;cases this
 |a::A,b::B,i,j,h=>by
  obtain⟨d,k⟩:=q1o.1 i;obtain⟨f,l⟩:=q1o.1 j
  have e:a=b:=by
   rcases Z4.1 ((h a).1 Y6)with e|m
   ·exact e
   ·rcases Z4.1 ((h b).2 Y6)with e|n
    ·exact e.symm
    ·have g:=iB (d b n) (f a m);rw[gZ]at g;cases g
  subst e
  rw[th k l λs=>⟨λc=>(Z4.1 ((h s).1 (X7 _ c))).elim (λe=>by
   have:=d s c;rw[e,gZ]at this;cases this) id,λc=>(Z4.1 ((h s).2 (X7 _ c))).elim (λe=>by
   have:=f s c;rw[e,gZ]at this;cases this) id⟩]
theorem pC{a b:List Nat}:leS a b=true<->ltL a b=true∨a=b:=by
 unfold leS;rw[q1a,bj]
theorem Nz{a b:List Nat}(h:leS a b=true)(k:leS b a=true):a=b:=by
 rcases pC.1 h with h|h
 ·rcases pC.1 k with k|k
  ·have:=iB h k;rw[gZ]at this;cases this
  ·exact k.symm
 ·exact h
theorem jS(q:Bool):∀(A B:List Tx),UpT A->UpT B->UpT (bu q A B)/\∀s,s∈bu q A B<->(s∈A/\(q=true∨s∉B))∨(q=true/\s∈B)
 | [],B,_,o=>by
  rw[gu];cases q with
  |true=>exact⟨o,λs=>by simp⟩
  |false=>exact⟨.nil,λs=>by simp⟩
 |a::A,[],p,_=>by rw[gv];exact⟨p,λs=>by simp⟩
 |a::A,b::B,p,o=>by
  obtain⟨j,u⟩:=q1o.1 p;obtain⟨n,v⟩:=q1o.1 o;by_cases h:leS a b=true
  ·by_cases k:leS b a=true
   ·have e:=Nz h k;subst e;obtain⟨s1,s2⟩:=jS q A B u v;rw[mG A B h k];have r:a∉A:=λm=>by have:=j a m;rw[gZ]at this;cases this
    have w:a∉B:=λm=>by have:=n a m;rw[gZ]at this;cases this
    cases q with
    |true=>
     refine⟨q1o.2 ⟨λs c=>((s2 s).1 c).elim (λz=>j s z.1) (λz=>n s z.2),s1⟩,λs=>?_⟩;simp only[if_true,q1s,q2i,Z4,s2,true_or,true_and,and_true];constructor
     ·rintro(h|h|h)
      ·exact .inl (.inl h)
      ·exact .inl (.inr h)
      ·exact .inr (.inr h)
     ·rintro((h|h)|h|h)
      ·exact .inl h
      ·exact .inr (.inl h)
      ·exact .inl h
      ·exact .inr (.inr h)
    |false=>
     refine⟨s1,λs=>?_⟩;simp only[q1u,if_false,q2i,Z4,s2,false_or,false_and,or_false,not_or];constructor
     ·rintro⟨g,i⟩;exact⟨.inr g,λe=>r (e▸g),i⟩
     ·rintro⟨g,i,t⟩;exact⟨g.resolve_left i,t⟩
   ·obtain⟨s1,s2⟩:=jS q A (b::B) u o;have d:ltL a b=true:=(pC.1 h).resolve_right λe=>k (by subst e;exact pC.2 (.inr rfl))
    rw[mF A B h k]
    have w:a∉b::B:=λm=>by
     rcases Z4.1 m with e|m
     ·rw[<-e,gZ]at d;cases d
     ·have:=iB d (n a m);rw[gZ]at this;cases this
    refine⟨q1o.2 ⟨λs c=>?_,s1⟩,λs=>?_⟩
    ·rcases(s2 s).1 c with c|c
     ·exact j s c.1
     ·rcases Z4.1 c.2 with rfl|c
      ·exact d
      ·exact iB d (n s c)
    ·rw[Z4,Z4 (l:=A),s2];constructor
     ·rintro(h|h|h)
      ·subst h;exact .inl ⟨.inl rfl,.inr w⟩
      ·exact .inl ⟨.inr h.1,h.2⟩
      ·exact .inr h
     ·rintro(⟨h|h,i⟩|h)
      ·exact .inl h
      ·exact .inr (.inl ⟨h,i⟩)
      ·exact .inr (.inr h)
  ·have k:=tg a b (by simpa using h);have f:ltL b a=true:=(pC.1 k).resolve_right λe=>h (by subst e;exact pC.2 (.inr rfl))
   obtain⟨s1,s2⟩:=jS q (a::A) B p v;rw[mH A B h]
   have r:b∉a::A:=λm=>by
    rcases Z4.1 m with e|m
    ·rw[<-e,gZ]at f;cases f
    ·have:=iB f (j b m);rw[gZ]at this;cases this
   cases q with
   |true=>
    refine⟨q1o.2 ⟨λs c=>?_,s1⟩,λs=>?_⟩
    ·rcases(s2 s).1 c with c|c
     ·rcases Z4.1 c.1 with rfl|c
      ·exact f
      ·exact iB f (j s c)
     ·exact n s c.2
    ·show s∈b::bu true (a::A) B<->_;rw[Z4,s2,Z4 (l:=B)]
     (try simp only[true_or,true_and,and_true])
     constructor
     ·rintro(h|h|h)
      ·exact .inr (.inl h)
      ·exact .inl h
      ·exact .inr (.inr h)
     ·rintro(h|h|h)
      ·exact .inr (.inl h)
      ·exact .inl h
      ·exact .inr (.inr h)
   |false=>
    refine⟨s1,λs=>?_⟩;show s∈bu false (a::A) B<->_;rw[s2,Z4 (l:=B)];simp only[q1u,false_or,false_and,or_false,not_or];exact⟨λ⟨g,i⟩=>⟨g,λe=>r (e▸g),i⟩,λ⟨g,_,t⟩=>⟨g,t⟩⟩
termination_by A B=>A.length+B.length
theorem NA{V:List Tx}(h:lb V=true):UpT V:=by
 have h:rS V V.length:=of_decide_eq_true h
 have key:∀d i,∀(a:i+d+1<V.length),ltL (V[i]'(by omega)) (V[i+d+1]'a)=true:=λd=>by
  induction d with
  |zero=>intro i a;exact h i (by omega) a
  |succ d b=>
   intro i a;exact iB (b i (by omega)) (h (i+d+1) (by omega) a)
 unfold UpT;rw[q3i];intro i j f a c;have:=key (j-i-1) i (by omega);have e:i+(j-i-1)+1=j:=by omega
 simp only[e]at this;exact this
theorem oT:∀(N:Nat) (V:List Tx),V.length<=N->UpT (aH V)/\∀s,s∈aH V<->s∈V
 |N,V,h=>by
  by_cases q:lb V=true
  ·rw[oS q];exact⟨NA q,λs=>Iff.rfl⟩
  ·have g:¬V.length<2:=λk=>q (gx k)
   cases N with
   |zero=>omega
   |succ N=>
    have i:(V.take (V.length/2)).length=V.length/2:=by rw[Y7];omega
    have j:(V.drop (V.length/2)).length=V.length-V.length/2:=q0g;obtain⟨a,b⟩:=oT N (V.take (V.length/2)) (by omega);obtain⟨c,d⟩:=oT N (V.drop (V.length/2)) (by omega);obtain⟨e,f⟩:=jS true _ _ a c;rw[xc q];refine⟨e,λs=>?_⟩;rw[f,b,d];simp only[true_or,and_true,true_and];rw[<-q0x,q1c]
theorem bf(V:List Tx):UpT (aH V)/\∀s,s∈aH V<->s∈V:=oT _ V (Z3 _)
def nV (V:List Tx) (s:Tx):List Tx:=bu true (aH V) (aH [s])
def AZ (V:List Tx) (s:Tx):List Tx:=bu false (aH V) (aH [s])
theorem xf(V:List Tx)(s:Tx):(nV V s).length<=V.length+1:=by
 have b:=lf true (aH V) (aH [s]);have c:=dh V;have a:=dh [s];simp only[q2f]at a;unfold nV;omega
theorem JZ(V:List Tx)(s:Tx):UpT (nV V s)/\∀x,x∈nV V s<->x∈V∨x=s:=by
 obtain⟨a,b⟩:=bf V;obtain⟨c,d⟩:=bf [s];obtain⟨e,f⟩:=jS true _ _ a c;exact⟨e,λx=>by unfold nV;rw[f,b,d];simp⟩
def KSo:FuncId->EP:=aq 180 (cQ (Ql 1000000)) (aq 206 y6 evP)
theorem Fw:aU KSo:=ag (ag az V4) (R2 _)
def T5(cs:List AV)(v:AV):Prop:=∃V s,cs=[.fr V.length 1 (strs V),.ss s]/\V.length<1000000/\v= .fr (nV V s).length 1 (strs (nV V s))
def V5(cs:List AV)(v:AV):Prop:=∃V s,cs=[.fr V.length 1 (strs V),.ss s]/\V.length<1000000/\v= .fr (AZ V s).length 1 (strs (AZ V s))
def T6(cs:List AV)(v:AV):Prop:=∃V,cs=[.fr V.length 1 (strs V)]/\V.length<=1000000/\v= .fr (aH V).length 1 (strs (aH V))
theorem R3:ai 124 (cQ T6):=oQ Fw 4 (by kernel_rfl) λcs v ⟨V,b,a,c⟩=>by
 subst b c;refine⟨rfl,rfl,?_⟩
 conv=>whnf
 refine⟨_,_,_,.cons .same .nil,⟨V,rfl,a,a,rfl⟩,?_⟩
 conv=>whnf
 exact dA.same
theorem NB{V:List Tx}{s:Tx}(h:V.length<1000000):(aH V).length+(aH [s]).length<=1000000:=by
 have b:=dh V;have a:=dh [s];simp only[q2f]at a;omega
theorem V6:ai 166 (cQ T5):=oQ Fw 4 (by kernel_rfl) λcs v ⟨V,s,a,b,c⟩=>by
 subst a c;refine⟨rfl,rfl,?_⟩;have d:=NB (s:=s) b
 conv=>whnf
 refine⟨_,_,_,.cons .same .nil,⟨V,rfl,by omega,by omega,rfl⟩,?_⟩
 conv=>whnf
 refine⟨[.fr 1 1 (strs [s])],_,_,.cons (.sl (l:=[.ss s]) (z:=true) rfl rfl rfl rfl) .nil,⟨[s],rfl,Z0 rfl,Z0 rfl,rfl⟩,?_⟩
 conv=>whnf
 refine⟨aH V,aH [s],true,rfl,rfl,.inr (.inl ⟨rfl,rfl⟩),d,?_⟩
 conv=>whnf
 exact dA.same
theorem XB:ai 126 (cQ V5):=oQ Fw 4 (by kernel_rfl) λcs v ⟨V,s,a,b,c⟩=>by
 subst a c;refine⟨rfl,rfl,?_⟩;have d:=NB (s:=s) b
 conv=>whnf
 refine⟨_,_,_,.cons .same .nil,⟨V,rfl,by omega,by omega,rfl⟩,?_⟩
 conv=>whnf
 refine⟨[.fr 1 1 (strs [s])],_,_,.cons (.sl (l:=[.ss s]) (z:=true) rfl rfl rfl rfl) .nil,⟨[s],rfl,Z0 rfl,Z0 rfl,rfl⟩,?_⟩
 conv=>whnf
 refine⟨aH V,aH [s],false,rfl,rfl,.inr (.inr ⟨rfl,rfl⟩),d,?_⟩
 conv=>whnf
 exact dA.same
def V7(cs:List AV)(v:AV):Prop:=∃(V:List Tx) (s:Tx),cs=[.fr V.length 1 (strs V),.ss s]/\V.length<=1000000/\v= .sb (decide (s∈V))
def hs0 (V:List Tx) (s:Tx) (i:Nat):AE×AH:=(mkE [(1,.ss (s)),(7,.fr V.length 1 (strs V)),(8,.si .i64 ((V.length:Int))),(9,.si .i64 ((i:Int)))],mkH [])
theorem Hz{V:List Tx}{s:Tx}{i:Nat}{p n:Nat}{σ:AE}{H:AH}(a:p<=0)(b:mk (aj (pa 1) σ)= .ss (s))(c:aj (pa 7) σ= .fr V.length 1 (strs V))(d:mk (aj (pa 8) σ)= .si .i64 ((V.length:Int)))(e:mk (aj (pa 9) σ)= .si .i64 ((i:Int))):Cov p σ H n ((hs0 V s i).1,(hs0 V s i).2,0):=
 Cov.ofA a ⟨.str b,ah.frE c,.int d,.int e,trivial⟩ trivial rfl
theorem XC:ai 165 (cQ V7):=oQ az 4 (by kernel_rfl) λcs v ⟨V,s,f,p,a⟩=>by
 subst f a;refine⟨rfl,rfl,?_⟩
 conv=>whnf
 refine aR.mk {i:Nat//i<=V.length/\∀j,j<i->∀h:j<V.length,V[j]≠s} 0 (λi=>hs0 V s i.val) (λi=>V.length-i.val) ⟨0,X5 _,λj h=>by omega⟩ ?_ ?_
 ·exact Hz (i:=0) (Z3 0) rfl rfl rfl rfl
 intro⟨i,r,c⟩;have g:IntKind.i64.wrap ((i:Int)+1)=((i+1:Nat):Int):=by rw[al (by omega) (by omega)];omega
 conv=>whnf
 refine ae.dec (λh=>?_) (λh=>?_)
 ·have a:i<V.length:=q0o.1 h;have l:dw V[i] s=true->AV.sb true=AV.sb (decide (s∈V)):=λz=>congrArg AV.sb (decide_eq_true (bj.1 z▸q0b a)).symm
  have n:dw V[i] s=false->∀j,j<i+1->∀h:j<V.length,V[j]≠s:=λz j d o e=>by
   by_cases q:j=i
   ·subst q;rw[bj.2 e]at z;cases z
   ·exact c j (by omega) o e
  have b:V.length-(i+1)<V.length-i:=by omega
  conv=>whnf
  refine Idx.mk i rfl a ?_
  conv=>whnf
  refine aw (gm a (q0i _)) ?_
  conv=>whnf
  refine ae.sb (λz=>?_) (λz=>?_)
  ·conv=>whnf
   exact dA.told (l z)
  ·conv=>whnf
   exact⟨⟨i+1,a,n z⟩,b,Hz (Z3 0) rfl rfl rfl (congrArg (AV.si .i64) g)⟩
 ·have k:AV.sb false=AV.sb (decide (s∈V)):=congrArg AV.sb (decide_eq_false λm=>by
   obtain⟨j,d,e⟩:=q2u m;have h:¬(i:Int)<(V.length:Int):=h;exact c j (by omega) d e).symm
  conv=>whnf
  exact dA.told k
abbrev Lab:=Tx×Tx
def cG(l:List Lab):List AV:=l.flatMap λy=> [.ss y.1,.ss y.2]
theorem gI(y:Lab)(l:List Lab):cG (y::l)= .ss y.1:: .ss y.2::cG l:=rfl
theorem jT(l:List Lab):(cG l).length=l.length*2:=by
 induction l with
 |nil=>rfl
 |cons y l a=>rw[gI];simp only[Z8,a];omega
theorem pD(l:List Lab):(cG l).all flat.flat1=true:=by
 induction l with
 |nil=>rfl
 |cons y l a=>rw[gI];simp only[q1p,a];rfl
theorem Dx(l:List Lab):(cG l).all oi=true:=by
 induction l with
 |nil=>rfl
 |cons y l a=>rw[gI];simp only[q1p,a];rfl
theorem lj(l:List Lab):(cG l).map mk=cG l:=by
 induction l with
 |nil=>rfl
 |cons y l a=>rw[gI];simp only[q1j,a];rfl
theorem ti:∀(l:List Lab) (i:Nat),(cG l).drop (i*2)=cG (l.drop i)
 |l,0=>by simp
 | [],i+1=>by simp[cG]
 |y::l,i+1=>by
  rw[gI,show(i+1)*2=i*2+1+1 by omega,List.drop_succ_cons,List.drop_succ_cons,ti l i];rfl
theorem oU{l:List Lab}{i o:Nat}(h:i<l.length)(ho:o=i*2):bk (cG l) o 2=some [.ss l[i].1,.ss l[i].2]:=by
 subst ho;unfold bk;rw[q0n (by rw[jT];omega),ti,q0d h,gI];rfl
theorem xg{l:List Lab}{i o:Nat}(h:i<l.length)(ho:o=i*2):nth (cG l) o=some (.ss l[i].1):=by
 subst ho;have e:(cG l)[i*2]?=((cG l).drop (i*2))[0]?:=by rw[q2l];simp
 rw[eR,e,ti,q0d h,gI];rfl
theorem ah.XD{H:AH}{m:Nat}{r:Nat->Nat}{a:AV}{k:Nat}(e:a= .nsl):ah H m r a (.fr 0 k []):=λc d v _ _ b=>by
 subst e;rw[b.cZ];exact .fre λ_=>rfl
theorem ah.frS{H:AH}{m n k:Nat}{r:Nat->Nat}{l:List AV}{a:AV}(e:a= .fr n k l):ah H m r a (.fr n k l):=by subst e;exact ah.mg rfl
def iE(s:Tx):Bool:=decide (s≠[])&&decide (s.length<=64)
def Dy(cs:List AV)(v:AV):Prop:=∃s,cs=[.ss s]/\v= .sb (iE s)
theorem HA:ai 105 (cQ Dy):=oQ az 3 (by kernel_rfl) λcs v ⟨s,b,c⟩=>by
 subst b c;refine⟨rfl,rfl,?_⟩;have k0:dw s []=true->iE s=false:=λz=>by rw[bj.1 z];rfl
 have d:dw s []=false->iE s=decide (s.length<=64):=λz=>by
  have:s≠[]:=λe=>by rw[bj.2 e]at z;cases z
  unfold iE;rw[decide_eq_true this];rfl
 conv=>whnf
 refine ae.nsb (λz=>?_) (λz=>?_)
 ·have a:decide ((s.length:Int)<=64)=iE s:=by rw[d z];exact decide_eq_decide.2 (by omega)
  conv=>whnf
  exact dA.told (congrArg AV.sb a)
 ·have a:=k0 z
  conv=>whnf
  exact dA.told (congrArg AV.sb a.symm)
def fp:List Tx->List Lab->Bool
 |_,[]=>true
 |N,x::l=>iE x.1&&(iE x.2&&(!decide (x.1∈N)&&fp (nV N x.1) l))
def dS (l:List Lab):Bool:=fp [] l&&decide (l.length<=8)
theorem oV:∀(l:List Lab) (N:List Tx),fp N l=true<->(∀x∈l,iE x.1=true/\iE x.2=true/\x.1∉N)/\(l.map Prod.fst).Nodup
 | [],N=>by simp[fp]
 |x::l,N=>by
  simp only[fp,Z9,q2r,decide_eq_false_iff_not,oV l,q1j,q2m,List.forall_mem_cons,(JZ N x.1).2,not_or,q0m,not_exists,not_and];constructor
  ·rintro⟨c,d,f,b,g⟩;exact⟨⟨⟨c,d,f⟩,λy a=>⟨(b y a).1,(b y a).2.1,(b y a).2.2.1⟩⟩,λy a e=>(b y a).2.2.2 e,g⟩
  ·rintro⟨⟨⟨c,d,f⟩,b⟩,g,h⟩;exact⟨c,d,f,λy a=>⟨(b y a).1,(b y a).2.1,(b y a).2.2,λe=>g y a e⟩,h⟩
theorem Dz{l m:List Lab}(h:l.Perm m):dS l=dS m:=by
 unfold dS;rw[h.length_eq];congr 1;rw[q2j,oV,oV];exact and_congr ⟨λq x a=>q x (h.mem_iff.2 a),λq x a=>q x (h.mem_iff.1 a)⟩ (h.map _).nodup_iff
theorem qK{l:List Lab}(h:dS l=true):l.length<=8:=by
 unfold dS at h;rw[Z9,decide_eq_true_eq]at h;exact h.2
def T7(cs:List AV)(v:AV):Prop:=∃l:List Lab,cs=[.fr l.length 2 (cG l)]/\l.length<=1000/\v= .sb (dS l)
def KLr:FuncId->EP:=aq 105 (cQ Dy) (aq 165 (cQ V7) (aq 166 (cQ T5) evP))
theorem T8:aU KLr:=ag (ag (ag az V6) XC) HA
def rg0 (l:List Lab) (N:List Tx) (i:Nat):AE×AH:=(mkE [(0,.fr l.length 2 (cG l)),(3,AV.fr N.length 1 (strs N)),(6,.fr l.length 2 (cG l)),(7,.si .i64 ((l.length:Int))),(8,.si .i64 ((i:Int)))],mkH [])
theorem HB{l:List Lab}{N:List Tx}{i:Nat}{p n:Nat}{σ:AE}{H:AH}(a:p<=0)(c:aj (pa 0) σ= .fr l.length 2 (cG l))(d:ah H 0 (λb=>b) (aj (pa 3) σ) (AV.fr N.length 1 (strs N)))(e:aj (pa 6) σ= .fr l.length 2 (cG l))(f:mk (aj (pa 7) σ)= .si .i64 ((l.length:Int)))(g:mk (aj (pa 8) σ)= .si .i64 ((i:Int))):Cov p σ H n ((rg0 l N i).1,(rg0 l N i).2,0):=
 Cov.ofA a ⟨ah.frE c,d,ah.frE e,.int f,.int g,trivial⟩ trivial rfl
theorem V8:ai 106 (cQ T7):=oQ T8 4 (by kernel_rfl) λcs v ⟨l,p,C,b⟩=>by
 subst p b;refine⟨rfl,rfl,?_⟩
 conv=>whnf
 refine aR.mk {t:Nat×List Tx//t.1<=l.length/\t.2.length<=t.1/\fp t.2 (l.drop t.1)=fp [] l} 0 (λt=>rg0 l t.val.2 t.val.1) (λt=>l.length-t.val.1) ⟨(0,[]),X5 _,Z3 _,rfl⟩ ?_ ?_
 ·exact HB (i:=0) (N:=[]) (Z3 0) rfl (.XD rfl) rfl rfl rfl
 intro⟨(i,N),n,o,a⟩;have n:i<=l.length:=n;have o:N.length<=i:=o;have a:fp N (l.drop i)=fp [] l:=a;have q:IntKind.i64.wrap ((i:Int)+1)=((i+1:Nat):Int):=by rw[al (by omega) (by omega)];omega
 conv=>whnf
 refine ae.dec (λh=>?_) (λh=>?_)
 ·have b:i<l.length:=q0o.1 h;have hd:l.drop i=l[i]::l.drop (i+1):=q0d b;have f:l.length-(i+1)<l.length-i:=by omega
  have a:(iE l[i].1&&(iE l[i].2&&(!decide (l[i].1∈N)&&fp (nV N l[i].1) (l.drop (i+1)))))=fp [] l:=by rw[<-a,hd];rfl
  have no:fp [] l=false->AV.sb false=AV.sb (dS l):=λe=>by unfold dS;rw[e];rfl
  have s:iE l[i].1=false->AV.sb false=AV.sb (dS l):=λz=>no (by rw[<-a,z];rfl)
  have u:iE l[i].2=false->AV.sb false=AV.sb (dS l):=λz=>no (by rw[<-a,z];simp)
  have w:l[i].1∈N->AV.sb false=AV.sb (dS l):=λz=>no (by rw[<-a,decide_eq_true z];simp)
  have x:iE l[i].1=true->iE l[i].2=true->¬l[i].1∈N->fp (nV N l[i].1) (l.drop (i+1))=fp [] l:=λc z2 d=>by rw[<-a,c,z2,decide_eq_false d];rfl
  have D:=xf N l[i].1;have g:(nV N l[i].1).length<=i+1:=by omega
  have j:N.length<1000000:=by omega
  have k:N.length<=1000000:=by omega
  clear a hd
  conv=>whnf
  refine Idx.mk i rfl b ?_
  conv=>whnf
  refine aw (oU b rfl) ?_
  conv=>whnf
  refine⟨_,_,_,.cons .same .nil,⟨_,rfl,rfl⟩,?_⟩
  conv=>whnf
  refine ae.nsb (λc=>?_) (λc=>?_)
  ·have r:=s c
   conv=>whnf
   exact dA.told r
  conv=>whnf
  refine⟨_,_,_,.cons .same .nil,⟨_,rfl,rfl⟩,?_⟩
  conv=>whnf
  refine ae.nsb (λz2=>?_) (λz2=>?_)
  ·have r:=u z2
   conv=>whnf
   exact dA.told r
  conv=>whnf
  refine⟨_,_,_,.cons .same (.cons .same .nil),⟨N,_,rfl,k,rfl⟩,?_⟩
  conv=>whnf
  refine ae.dec (λd=>?_) (λd=>?_)
  ·have r:=w d
   conv=>whnf
   exact dA.told r
  have y:=x c z2 d
  conv=>whnf
  refine⟨_,_,_,.cons .same (.cons .same .nil),⟨N,_,rfl,j,rfl⟩,?_⟩
  conv=>whnf
  exact⟨⟨(i+1,nV N l[i].1),b,g,y⟩,f,HB (Z3 0) rfl (.frS rfl) rfl rfl (congrArg (AV.si .i64) q)⟩
 ·have A:i=l.length:=by have h:¬(i:Int)<(l.length:Int):=h;omega
  have m:fp [] l=true:=by rw[<-a,A,List.drop_length];rfl
  have B:decide ((l.length:Int)<=8)=dS l:=by unfold dS;rw[m];exact decide_eq_decide.2 (by omega)
  conv=>whnf
  exact dA.told (congrArg AV.sb B)
end Go.Proofs.YtflehenfikoniaaGreat
end
