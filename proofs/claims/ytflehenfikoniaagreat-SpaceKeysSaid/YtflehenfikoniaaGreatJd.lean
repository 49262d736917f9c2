/- Texts of our own, joined: the engine, the machine that runs code, and what is known of the functions. -/
import Derived.Test.YtflehenfikoniaaGreatRows
import Derived.WalkKit
import Derived.Deep.Quiet
import Derived.ProofKit
import Derived.Laws.StructEq
import Derived.LaidEql
import Derived.Laws.BytesArg
import Derived.Maps.RangeRun
import Derived.RangeFuncSeq
import Derived.Scope
import Derived.Laws.Strings
import Derived.Laws.Strings2
import Derived.Below
import Derived.Carry
import Derived.OpenShut
import Derived.ChangeMaps5
import Derived.Deep.Slices
import Derived.Deep.SlicePairs
import Derived.SizedLaws
import Derived.Laws.BitsAllLaws
import Derived.Test.YtflehenfikoniaaGreatJc
import Derived.RangeFuncRecord
import Derived.Test.YtflehenfikoniaaGreatJb
set_option linter.unusedSimpArgs false
set_option linter.unusedVariables false
set_option maxHeartbeats 16000000
set_option maxRecDepth 100000
noncomputable section
namespace Go.Proofs.YtflehenfikoniaaGreat
open Go Go.RowKit
def vg(args:List AV)(H:AH)(n:Nat)(κ:PK):Prop:=match args with
 | [x]=>∃(r k q:Nat) (S:Sr) (C:Ck5),x= .ptr r 0/\eT H n r k q S (pts C) C/\Pre5 S C/\C.length<=100000/\∀a,ah a=ah C->Gt S a->Wh S.sz a.length a->κ (.tup []) (ga H n r k q S (pts a) a) (n+1)
 |_=>False
theorem NM:al 132 vg:=λargs H n y b z d A B K e a f=>by
 unfold vg at b;split at b
 ·obtain⟨D,h,E,F,G⟩:=a.cons_inv;obtain⟨r,k,q,S,C,rfl,i,j,l,b⟩:=b;refine gH (ay Ub 5 _) (by kernel_rfl) (NL S C j l) (λ_=>rfl) e i a f (λu m o c ⟨g,_⟩=>by subst g;exact⟨λ_=>rfl,rfl⟩) λu m o c ⟨p,s,t,v,w,x⟩=>?_
  subst p s t;exact b c v w x
 ·exact b.elim
def ex5(C:Ck5):Nat:=(C.map λc=>c.2.length-1).sum
theorem HV(A B:Ck5):ex5 (A++B)=ex5 A+ex5 B:=by simp[ex5]
theorem mN(c:(Nat×Nat)×Smp)(B:Ck5):ex5 (c::B)=(c.2.length-1)+ex5 B:=by simp[ex5]
theorem Bh:∀C:Ck5,ex5 C<=(ah C).length
 | []=>Z3 _
 |c::C=>by
  have:=Bh C;rw[mN,bS,Z6];omega
structure oZ(S:Sr)(C:Ck5):Prop where
 lo:128<=S.sz
 hi:S.sz<=4096
 up:Up (ah C)
 eE:∀c∈C,cX c.2
theorem QE{sz:Nat}{L:Smp}(a:128<=sz)(h:¬(usd L:Int)<=(sz:Int)):2<=L.length:=by
 rcases q3k L.length 2 with q|q
 ·have b:=pP (L:=L) (by omega);have c:=su L;omega
 ·exact q
theorem QF{sz:Nat}{L:Smp}(h:(usd L:Int)<=(sz:Int)):(aY L).length<=8*sz:=by
 have a:=su L;omega
theorem NN{S:Sr}{A B:Ck5}{p q:Nat×Nat}{L:Smp}(a:oZ S (A++(p,L)::B))(e:2<=L.length):oZ S (A++(p,L.take (b9 L))::(q,L.drop (b9 L))::B)/\ah (A++(p,L.take (b9 L))::(q,L.drop (b9 L))::B)=ah (A++(p,L)::B)/\ex5 (A++(p,L.take (b9 L))::(q,L.drop (b9 L))::B)+1=ex5 (A++(p,L)::B):=by
 obtain⟨g,h⟩:=A8 e;have b:cX L:=a.eE (p,L) (by simp)
 have d:ah (A++(p,L.take (b9 L))::(q,L.drop (b9 L))::B)=ah (A++(p,L)::B):=by
  rw[fB,fB,bS,<-q1a (L.take (b9 L)),q1q]
 refine⟨⟨a.lo,a.hi,by rw[d];exact a.up,λc f=>?_⟩,d,?_⟩
 ·rcases dB.1 f with rfl|k
  ·exact b.sub (q4t _ _)
  ·rcases dB.1 k with rfl|k
   ·exact b.sub (List.drop_sublist _ _)
   ·exact a.eE c (dB.2 (.inr k))
 ·rw[HV,HV,mN,mN,mN];simp only[q0l,q0y];omega
def FtP(b:Sr)(a:Ck5):AV->Sr->Ps->Ck5->Prop:=λu S V C=>u= .tup []/\S=b/\V=pts C/\ah C=ah a/\Pre5 b C/\C.length+ex5 C=a.length+ex5 a
def Wx:DT:=[(2,[(some 0,[0]),(some 0,[12]),(some 0,[13]),(some 0,[14]),(some 0,[2]),(some 0,[15,16]),(some 0,[17]),(none,[18]),(some 1,[0]),(some 2,[20]),(some 3,[21]),(some 4,[22]),(some 0,[19,23])])]
def Wy:FuncId->EP:=ao 184 Bf (ao 185 pR (da 202 (ra Ns) evP))
theorem QG:aS Wy:=ab (ab (bf az HO (HN _)) DN) DM
def KFt:FuncId->EP:=aX 158 Wx Wy
theorem Uc:aS KFt:=au QG (by kernel_rfl) (by kernel_rfl)
theorem QH(S:Sr)(C:Ck5)(H:oZ S C)(R:C.length+ex5 C<=100000):gi (ax KFt 5 158) [.ptr 0 0] (mkH (bE (iT S (pts C) C) 0)) 3 (SP (FtP S C)):=by
 have I:=H.lo;have M:=H.hi;show ax KFt 5 _ _ _ _ _
 conv=>whnf
 refine aN.mk {x:Nat×Ck5//ah x.2=ah C/\oZ S x.2/\x.2.length+ex5 x.2=C.length+ex5 C/\x.1<=x.2.length/\∀j,(l:j<x.2.length)->j<x.1->(aY (x.2[j]).2).length<=8*S.sz} 4 (λx=>((xa [(0,.ptr 0 0),(2,.si .i64 ((x.val.1:Int)))] S (pts x.val.2) x.val.2).1,(xa [(0,.ptr 0 0),(2,.si .i64 ((x.val.1:Int)))] S (pts x.val.2) x.val.2).2.1)) (λx=>2*ex5 x.val.2+(x.val.2.length-x.val.1)) ⟨(0,C),rfl,H,rfl,Z9 _,λj l N=>absurd N (q0o j)⟩ ?_ ?_
 focus
  exact od 1 (le:=[(0,.ptr 0 0),(2,.si .i64 (((0:Nat):Int)))]) (Z3 3) (λx r=>by
   simp only[Z5,Z4,or_false]at r;rcases r with rfl|rfl
   ·exact ae.ptr (Z0 rfl) rfl
   ·exact ae.int rfl) ⟨by decide,by decide⟩ rfl rfl rfl rfl rfl rfl (ae.rw (Z0 rfl) rfl) rfl (aB _) rfl
 intro⟨⟨m,a⟩,g,b,F,t,i⟩;have g:ah a=ah C:=g;have b:oZ S a:=b;have F:a.length+ex5 a=C.length+ex5 C:=F;have t:m<=a.length:=t;have i:∀j,(l:j<a.length)->j<m->(aY (a[j]).2).length<=8*S.sz:=i;have K:IntKind.i64.wrap ((m:Int)+1)=((m+1:Nat):Int):=by rw[aj (by omega) (by omega)];omega
 have u:¬m<a.length->Pre5 S a:=λh=>⟨b.lo,b.hi,b.up,b.eE,λc O=>by
  obtain⟨j,l,rfl⟩:=q3a O;exact i j l (by omega)⟩
 have P:(pts a).length=a.length:=aw a
 have body:∀f:m<a.length,(2<=a[m].2.length->∃d:Nat×Nat->Ck5,∀o,fq S.sz (a.take m++(a[m].1,a[m].2.take (b9 a[m].2))::(o,a[m].2.drop (b9 a[m].2))::a.drop (m+1)) (d o)/\(pts a).take (m+1)++o::(pts a).drop (m+1)=pts (d o)/\ah (d o)=ah C/\oZ S (d o)/\(d o).length=a.length+1/\ex5 (d o)+1=ex5 a/\∀j,(l:j<(d o).length)->j<m->(aY ((d o)[j]).2).length<=8*S.sz)/\((aY a[m].2).length<=8*S.sz->∀j,(l:j<a.length)->j<m+1->(aY (a[j]).2).length<=8*S.sz):=λf=>by
  have v:=fv f;refine⟨λk=>⟨λo=>a.take m++(a[m].1,a[m].2.take (b9 a[m].2))::(o,a[m].2.drop (b9 a[m].2))::a.drop (m+1),λo=>⟨fq.refl _ _,HT f o _ _,?_⟩⟩,λk j l y=>?_⟩
  ·have G:=NN (q:=o) (A:=a.take m) (B:=a.drop (m+1)) (p:=a[m].1) (L:=a[m].2) (S:=S) (by rw[v];exact b) k;rw[v,g]at G;refine⟨G.2.1,G.1,by simp only[Z6,q0a,q0l,q0y];omega,G.2.2,?_⟩;refine λj l y=>?_
   have e:(a.take m++(a[m].1,a[m].2.take (b9 a[m].2))::(o,a[m].2.drop (b9 a[m].2))::a.drop (m+1))[j]'l=a[j]'(by omega):=by
    rw[q4a (by rw[q0l];omega),q4s]
   rw[e];exact i j (by omega) y
  ·by_cases q:j=m
   ·subst q;exact k
   ·exact i j l (by omega)
 conv=>whnf
 refine ag.dec (λh=>?_) (λh=>?_)
 focus
  have f:m<a.length:=by
   have h:(m:Int)<((pts a).length:Int):=h;omega
  have hb:=body f;have D:m<(pts a).length:=by omega
  have Q:cX a[m].2:=b.eE _ (q0k f)
  conv=>whnf
  refine Idx.mk m rfl D ?_
  conv=>whnf
  refine aq (dZ f (show 0+m*1=m by omega)) ?_
  conv=>whnf
  refine⟨2,S.sz,a.take m,a.drop (m+1),a[m].1,a[m].2,rfl,xj f rfl,?_⟩
  conv=>whnf
  refine ag.dec (λz=>?_) (λz=>?_)
  focus
   have z:(usd a[m].2:Int)<=(S.sz:Int):=z;have s:=hb.2 (QF z)
   conv=>whnf
   exact⟨⟨(m+1,a),g,b,F,f,s⟩,by show 2*ex5 a+(a.length-(m+1))<2*ex5 a+(a.length-m);omega,od 3 (le:=[(0,.ptr 0 0),(2,.si .i64 (((m+1:Nat):Int)))]) (Z3 3) (λx r=>by
   simp only[Z5,Z4,or_false]at r;rcases r with rfl|rfl
   ·exact ae.ptr (Z0 rfl) rfl
   ·exact ae.int (congrArg (AV.si .i64) K)) ⟨by decide,by decide⟩ rfl rfl rfl rfl rfl rfl (ae.rw (Z0 rfl) rfl) rfl (aB _) rfl⟩
  have z:¬(usd a[m].2:Int)<=(S.sz:Int):=z;have E:=QE I z;have s:=hb.1 E;clear hb body;revert s;refine λ⟨d,s⟩=>?_
  conv=>whnf
  refine Idx.mk m rfl D ?_
  conv=>whnf
  refine aq (dZ f (show 0+m*1=m by omega)) ?_
  conv=>whnf
  refine⟨2,S.sz,a.take m,a.drop (m+1),a[m].1,a[m].2,d,rfl,l9 f rfl (by decide) (by decide) rfl,rfl,by decide,by omega,Q,E,λo=>⟨(s o).1,?_⟩⟩;have n:=(s o).2
  conv=>whnf
  refine⟨0,3,2,m+1,S,pts a,pts (d o),d o,o,rfl,congrArg (AV.si .i64) K,rfl,⟨⟨by decide,by decide,by decide⟩,⟨by decide,by decide,by decide⟩,rfl,rfl,rfl⟩,by omega,by omega,n.1,?_⟩
  conv=>whnf
  exact⟨⟨(m,d o),n.2.1,n.2.2.1,by show(d o).length+ex5 (d o)=C.length+ex5 C;have:=n.2.2.2.1;have:=n.2.2.2.2.1;omega,by show m<=(d o).length;have:=n.2.2.2.1;omega,n.2.2.2.2.2⟩,by show 2*ex5 (d o)+((d o).length-m)<2*ex5 a+(a.length-m);have:=n.2.2.2.1;have:=n.2.2.2.2.1;omega,od 6 (le:=[(0,.ptr 0 0),(2,.si .i64 ((m:Int)))]) (Z3 3) (λx r=>by
   simp only[Z5,Z4,or_false]at r;rcases r with rfl|rfl
   ·exact ae.ptr (Z0 rfl) rfl
   ·exact ae.int rfl) ⟨by decide,by decide⟩ rfl rfl rfl rfl rfl rfl (ae.rw (Z0 rfl) rfl) rfl (aB _) rfl⟩
 have f:¬m<a.length:=λq=>h (by
  show(m:Int)<((pts a).length:Int);omega)
 have J:=u f
 conv=>whnf
 exact fJ (FtP S C) ⟨rfl,rfl,rfl,g,J,F⟩ (VTo.mk5 rfl) (λT U w h=>jy rfl h) 3 ⟨by decide,by decide⟩ rfl rfl rfl rfl rfl rfl (ae.rw (Z0 rfl) rfl) rfl (aB _) rfl
def FZ(args:List AV)(H:AH)(n:Nat)(κ:PK):Prop:=match args with
 | [x]=>∃(r k q:Nat) (S:Sr) (C:Ck5),x= .ptr r 0/\eT H n r k q S (pts C) C/\oZ S C/\C.length+ex5 C<=100000/\∀a,ah a=ah C->Pre5 S a->a.length<=100000->κ (.tup []) (ga H n r k q S (pts a) a) (n+1)
 |_=>False
theorem Wz:al 158 FZ:=λargs H n x b y d z A K e a f=>by
 unfold FZ at b;split at b
 ·obtain⟨B,h,D,E,F⟩:=a.cons_inv;obtain⟨r,k,q,S,C,rfl,i,j,l,b⟩:=b;refine gH (ay Uc 5 _) (by kernel_rfl) (QH S C j l) (λ_=>rfl) e i a f (λu m o c ⟨g,_⟩=>by subst g;exact⟨λ_=>rfl,rfl⟩) λu m o c ⟨p,s,t,v,w,G⟩=>?_
  subst p s t;exact b c v w (by omega)
 ·exact b.elim
def fh(a b:Int)(C:Ck5):Ck5:=C.map λc=>(c.1,aO c.2 a b)
theorem rb(a b:Int):∀C:Ck5,ah (fh a b C)=aO (ah C) a b
 | []=>rfl
 |c::C=>by
  have d:=rb a b C;show ah ((c.1,aO c.2 a b)::fh a b C)=_;rw[bS,bS,d];unfold aO;rw[q2n]
theorem Kv(a b:Int)(C:Ck5):pts (fh a b C)=pts C:=by simp[fh,pts]
theorem Kw(a b:Int)(C:Ck5):(fh a b C).length=C.length:=q0g _
theorem DQ(a b:Int):∀C:Ck5,ex5 (fh a b C)<=ex5 C
 | []=>Z3 _
 |c::C=>by
  have d:=DQ a b C;show ex5 ((c.1,aO c.2 a b)::fh a b C)<=_;rw[mN,mN];have:(aO c.2 a b).length<=c.2.length:=q1h _ _;show((aO c.2 a b).length-1)+_<=_;omega
theorem NO{S:Sr}{C:Ck5}(h:oZ S C)(a b:Int):oZ S (fh a b C):=⟨h.lo,h.hi,by rw[rb];exact h.up.sublist List.filter_sublist,λc e=>by
 obtain⟨d,hd,rfl⟩:=q0p.1 e;exact wR (h.eE d hd) a b⟩
theorem F0{a b:Int}{C:Ck5}{i:Nat}(h:i<C.length):fh a b (C.take (i+1))=fh a b (C.take i)++ [(C[i].1,aO C[i].2 a b)]:=by
 unfold fh;rw[q4u,q0b h,q0x];rfl
theorem zA{C:Ck5}{i:Nat}(h:i<C.length):ah (C.take (i+1))=ah (C.take i)++C[i].2:=by
 rw[q4u,q0b h,jn];simp[ah,cnt]
theorem Bi(C:Ck5)(i:Nat):(ah (C.take i)).length<=(ah C).length:=by
 have:ah C=ah (C.take i)++ah (C.drop i):=by rw[<-jn,q1q]
 rw[this,Z6];omega
def dlN(a b:Int)(C:Ck5):Nat:=(ah C).length-(aO (ah C) a b).length
theorem o8(L:Smp)(a b:Int):(aO L a b).length<=L.length:=q1h _ _
theorem NP{a b:Int}{C:Ck5}{i:Nat}(h:i<C.length):(dlN a b (C.take (i+1)):Int)=(dlN a b (C.take i):Int)+((C[i].2.length:Int)-((aO C[i].2 a b).length:Int)):=by
 unfold dlN;have c:=o8 (ah (C.take i)) a b;have d:=o8 C[i].2 a b;rw[zA h];have e:aO (ah (C.take i)++C[i].2) a b=aO (ah (C.take i)) a b++aO C[i].2 a b:=q2n _ _;rw[e,Z6,Z6];omega
def DlP(c:Sr)(d:Ck5)(a b:Int):AV->Sr->Ps->Ck5->Prop:=λu S V C=>u= .si .i64 ((dlN a b d:Nat):Int)/\S=c/\V=pts C/\ah C=aO (ah d) a b/\Gt c C/\Wh c.sz C.length C
def KDl:FuncId->EP:=aX 100 [] (ao 158 FZ (ao 132 vg (ao 157 w8 evP)))
theorem Ud:aS KDl:=au (ab (ab (ab az Qo) NM) Wz) (by kernel_rfl) (by kernel_rfl)
theorem QI(S:Sr)(C:Ck5)(a b:Int)(g:oZ S C)(L:C.length+ex5 C<=100000)(o:(ah C).length<=100000):gi (ax KDl 5 100) [.ptr 0 0,.si .i64 a,.si .i64 b] (mkH (bE (iT S (pts C) C) 0)) 3 (SP (DlP S C a b)):=by
 have p:=g.lo;have r:=g.hi;have k:=NO g a b;have hex:=DQ a b C;have s:=Kw a b C;show ax KDl 5 _ _ _ _ _
 conv=>whnf
 refine ag.du (λz=>absurd (show(0:Int)<(S.sz:Int) by omega) z) (λ_=>?_)
 conv=>whnf
 refine aN.mk {i:Nat//i<=C.length} 4 (λi=>((xa [(0,.ptr 0 0),(1,.si .i64 a),(2,.si .i64 b),(7,.si .i64 ((dlN a b (C.take i.val):Nat):Int)),(16,.rw 3 0 (pts C).length 1 0),(17,.si .i64 ((pts C).length:Int)),(18,.si .i64 ((i.val:Int)))] S (pts C) (fh a b (C.take i.val)++C.drop i.val)).1,(xa [(0,.ptr 0 0),(1,.si .i64 a),(2,.si .i64 b),(7,.si .i64 ((dlN a b (C.take i.val):Nat):Int)),(16,.rw 3 0 (pts C).length 1 0),(17,.si .i64 ((pts C).length:Int)),(18,.si .i64 ((i.val:Int)))] S (pts C) (fh a b (C.take i.val)++C.drop i.val)).2.1)) (λi=>C.length-i.val) ⟨0,Z9 _⟩ ?_ ?_
 focus
  exact od 1 (le:=[(0,.ptr 0 0),(1,.si .i64 a),(2,.si .i64 b),(7,.si .i64 ((dlN a b (C.take 0):Nat):Int)),(16,.rw 3 0 (pts C).length 1 0),(17,.si .i64 ((pts C).length:Int)),(18,.si .i64 (((0:Nat):Int)))]) (Z3 3) (λx d=>by
   simp only[Z5,Z4,or_false]at d;rcases d with rfl|rfl|rfl|rfl|rfl|rfl|rfl
   ·exact ae.ptr (Z0 rfl) rfl
   ·exact ae.int rfl
   ·exact ae.int rfl
   ·exact ae.int rfl
   ·exact ae.rw (Z0 rfl) rfl
   ·exact ae.int rfl
   ·exact ae.int rfl) ⟨by decide,by decide⟩ rfl rfl rfl rfl rfl rfl (ae.rw (Z0 rfl) rfl) rfl (aB _) rfl
 intro⟨i,M⟩;have t:IntKind.i64.wrap ((i:Int)+1)=((i+1:Nat):Int):=by rw[aj (by omega) (by omega)];omega
 have u:(pts C).length=C.length:=aw C;have hle:=Bi C (i+1)
 have st:∀h:i<C.length,some (dA S (fh a b (C.take i)++C.drop i))=some (AO.sep (pk (chs S.sz (fh a b (C.take i)++(C[i].1,C[i].2)::C.drop (i+1)))))/\fq S.sz (fh a b (C.take i)++(C[i].1,aO C[i].2 a b)::C.drop (i+1)) (fh a b (C.take (i+1))++C.drop (i+1))/\IntKind.i64.wrap (((dlN a b (C.take i):Nat):Int)+((C[i].2.length:Int)-((aO C[i].2 a b).length:Int)))=((dlN a b (C.take (i+1)):Nat):Int):=λh=>by
  refine⟨by rw[show C.drop i=(C[i].1,C[i].2)::C.drop (i+1) from q0t h];rfl,by rw[F0 h,q1a];exact fq.refl _ _,?_⟩;have e:=NP (a:=a) (b:=b) h;rw[<-e];have:dlN a b (C.take (i+1))<=100000:=by unfold dlN;omega
  rw[aj (by omega) (by omega)]
 conv=>whnf
 refine ag.dec (λh=>?_) (λh=>?_)
 focus
  have j:i<C.length:=by
   have h:(i:Int)<((pts C).length:Int):=h;omega
  have c:=st j;have v:cX C[i].2:=g.eE _ (q0k j)
  conv=>whnf
  refine Idx.mk i rfl (by omega) ?_
  conv=>whnf
  refine aq (dZ j (show 0+i*1=i by omega)) ?_
  conv=>whnf
  refine⟨2,S.sz,fh a b (C.take i),C.drop (i+1),fh a b (C.take (i+1))++C.drop (i+1),C[i].1,C[i].2,a,b,rfl,rfl,rfl,⟨by decide,by decide,rfl,c.1⟩,by omega,v,c.2.1,?_⟩
  conv=>whnf
  exact⟨⟨i+1,j⟩,by show C.length-(i+1)<C.length-i;omega,od 3 (le:=[(0,.ptr 0 0),(1,.si .i64 a),(2,.si .i64 b),(7,.si .i64 ((dlN a b (C.take (i+1)):Nat):Int)),(16,.rw 3 0 (pts C).length 1 0),(17,.si .i64 ((pts C).length:Int)),(18,.si .i64 (((i+1:Nat):Int)))]) (Z3 3) (λx d=>by
   simp only[Z5,Z4,or_false]at d;rcases d with rfl|rfl|rfl|rfl|rfl|rfl|rfl
   ·exact ae.ptr (Z0 rfl) rfl
   ·exact ae.int rfl
   ·exact ae.int rfl
   ·exact ae.int (congrArg (AV.si .i64) c.2.2)
   ·exact ae.rw (Z0 rfl) rfl
   ·exact ae.int rfl
   ·exact ae.int (congrArg (AV.si .i64) t)) ⟨by decide,by decide⟩ rfl rfl rfl rfl rfl rfl (ae.rw (Z0 rfl) rfl) rfl (aB _) rfl⟩
 have f:i=C.length:=by
  have:¬i<C.length:=λq=>h (by
   show(i:Int)<((pts C).length:Int);omega)
  omega
 have w:fh a b (C.take i)++C.drop i=fh a b C:=by rw[f,q0u,List.drop_length,q1e]
 have y:dlN a b (C.take i)=dlN a b C:=by rw[f,q0u]
 have A:some (dA S (fh a b (C.take i)++C.drop i))=some (dA S (fh a b C)):=by rw[w]
 have n:=Kv a b C;have l:some (AO.cells (c8 S 3 (pts C).length) true)=some (AO.cells (c8 S 3 (pts (fh a b C)).length) true):=by rw[n]
 have m:some (AO.cells (aZ (pts C)) true)=some (AO.cells (aZ (pts (fh a b C))) true):=by rw[n]
 have B:=rb a b C;have D:AV.si .i64 ((dlN a b (C.take i):Nat):Int)= .si .i64 ((dlN a b C:Nat):Int):=by rw[y]
 clear st
 conv=>whnf
 refine⟨0,3,2,S,fh a b C,rfl,⟨⟨by decide,by decide,by decide⟩,⟨by decide,by decide,by decide⟩,l,m,A⟩,k,by omega,λE F G H=>?_⟩
 conv=>whnf
 refine⟨0,4,2,S,E,rfl,⟨⟨by decide,by decide,by decide⟩,⟨by decide,by decide,by decide⟩,rfl,rfl,rfl⟩,G,H,λN I J K=>?_⟩
 conv=>whnf
 exact fJ (DlP S C a b) ⟨rfl,rfl,rfl,by rw[I,F,B],J,K⟩ (VTo.mk5 D) VR.fg 5 ⟨by decide,by decide⟩ rfl rfl rfl rfl rfl rfl (ae.rw (Z0 rfl) rfl) rfl (aB _) rfl
def SF (le:List (Nat×AV)) (S:Sr) (V:Ps) (C:Ck5):AE×AH×Nat:=(mkE le,mkH [(0,.cells (c8 S 1 V.length) true),(1,.cells (aZ V) true),(2,dA S C)],3)
theorem Ue{σ:AE}{H:AH}{n:Nat}{S:Sr}{V:Ps}{C:Ck5}{le:List (Nat×AV)}(c:∀x∈le,ae H 3 (λb=>b) (ai (pa x.1) σ) x.2)(d:PM.get H 0=some (.cells (c8 S 1 V.length) true))(f:PM.get H 1=some (.cells (aZ V) true))(g:PM.get H 2=some (dA S C)):Cov 3 σ H n (SF le S V C):=by
 refine Cov.ofR (m:=3) (p:=3) (λb=>b) (Z3 _) (λb h=>rfl) c ?_ (λx a y i e=>e);intro x a;simp only[Z5,Z4,or_false]at a;rcases a with rfl|rfl|rfl
 ·exact⟨Z0 rfl,.inl ⟨_,d,ak.c8 rfl rfl rfl rfl rfl (ae.rw (Z0 rfl) rfl)⟩⟩
 ·exact⟨Z0 rfl,.inl ⟨_,f,ak.aZ (aB _)⟩⟩
 ·exact⟨Z0 rfl,.inl ⟨_,g,ak.sep _⟩⟩
def RoP(P:AV->Prop)(S:Sr)(V:Ps)(C:Ck5):PK:=λu a m=>P u/\a=mkH [(0,.cells (c8 S 1 V.length) true),(1,.cells (aZ V) true),(2,dA S C)]/\m=3
theorem uI{u v:AV}{H:AH}{n:Nat}{S:Sr}{V:Ps}{C:Ck5}(P:AV->Prop)(d:P v)(e:VTo u v)(hv:∀φ ψ w,VR φ v w->VR ψ v w)(f:PM.get H 0=some (.cells (c8 S 1 V.length) true))(g:PM.get H 1=some (.cells (aZ V) true))(h:PM.get H 2=some (dA S C)):∃(a:AV) (b:AH) (m:Nat),Cov 3 (mkE [(0,u)]) H n (mkE [(0,a)],b,m)/\RoP P S V C a b m:=
 ⟨v,(SF [(0,v)] S V C).2.1,3,Ue (le:=[(0,v)]) (λx c=>by
  simp only[Z5,Z4,or_false]at c;subst c;exact λφ ψ w j _ i=>hv φ ψ w (e φ w i)) f g h,d,rfl,rfl⟩
theorem F1 {f:FuncId} {run:List AV->AH->Nat->PK->Prop} (e:al f run) (l:bR Tryz.prog f=true) {a:List AV} {S:Sr} {V:Ps} {C:Ck5} {P:AV->Prop} (h:gi run (.ptr 0 0::a) (mkH (bE (iT S V C) 0)) 3 (RoP P S V C)) (m:∀r,dw r a=a)
 {φ:Ph} {H:AH} {n:Nat} {w x:Hp} {p:Array Value} {κ:PK} {K:KH} {r k q:Nat} (z:HR φ H n w x) (j:eT H n r k q S V C) (d:VRs φ (.ptr r 0::a) p.toList) (A:cD φ w κ K) (B:∀u,P u->(∀f,ren f u=u)/\ltV 3 u=true) (D:∀u,P u->κ u H n):dK Tryz.prog f p x K:=by
 refine dz (S:=[r,k,q]) (O:=iT S V C) (args0:= .ptr 0 0::a) (al.gi e) l z j.w9 (by show VRs φ (ren _ _::dw _ a) p.toList;rw[m];exact d) A h λu G I ⟨y,E,F⟩=>?_
 subst E F;obtain⟨g,v⟩:=B u y;refine⟨3,H,Z3 _,fH.same λi s o b c _=>?_,v,by rw[g];exact D u y⟩
 match i,b with
 |0,b=>
  injection b with b;subst b;rw[j.hr]at c;injection c with c;subst c;exact⟨_,rfl,rfl,rfl,rfl⟩
 |1,b=>
  injection b with b;subst b;rw[j.hk]at c;injection c with c;subst c;exact⟨_,rfl,rfl,pQ _ _,by rw[bT,jK]⟩
 |2,b=>
  injection b with b;subst b;rw[j.hq]at c;injection c with c;subst c;exact⟨_,rfl,rfl,rfl,rfl⟩
def mO(A:Sr->Ck5->List AV->AV->Prop)(args:List AV)(H:AH)(n:Nat)(κ:PK):Prop:=match args with
 |x::a=>∃(r k q:Nat) (S:Sr) (C:Ck5) (v:AV),x= .ptr r 0/\eT H n r k q S (pts C) C/\A S C a v/\κ v H n
 |_=>False
theorem NQ(A:Sr->Ck5->List AV->AV->Prop):iC (mO A):= .pure λargs H n g a=>by
 unfold mO at*;split at a
 ·obtain⟨r,k,q,S,C,v,b,c,d,e⟩:=a;exact⟨v,e,λf h=>⟨r,k,q,S,C,v,b,c,d,h⟩⟩
 ·exact a.elim
theorem mP{f:FuncId}{A:Sr->Ck5->List AV->AV->Prop}{run:List AV->AH->Nat->PK->Prop}(d:al f run)(e:bR Tryz.prog f=true)(h:∀S C j v,A S C j v->∃a,(∀φ i,VRs φ j i->VRs φ a i)/\(∀r,dw r a=a)/\((∀f,ren f v=v)/\ltV 3 v=true)/\gi run (.ptr 0 0::a) (mkH (bE (iT S (pts C) C) 0)) 3 (RoP (λu=>u=v) S (pts C) C)):al f (mO A):=λargs H n F c φ l G i K m b o=>by
 unfold mO at c;split at c
 ·obtain⟨r,k,q,S,C,v,rfl,p,s,c⟩:=c;obtain⟨a,t,w,x,y⟩:=h S C _ v s;obtain⟨I,z,B,D,E⟩:=b.cons_inv;refine F1 d e y w m p (by rw[B];exact .cons D (t _ _ E)) o (λu g=>by subst g;exact x) λu g=>by subst g;exact c
 ·exact c.elim
def dI(S:Sr):Int:=if S.ret=0 then S.fl else max S.fl (S.mx-S.ret)
def WA:FuncId->EP:=aX 24 [] evP
theorem QJ:aS WA:=au az (by kernel_rfl) (by kernel_rfl)
def WB(S:Sr)(C:Ck5)(a:List AV)(v:AV):Prop:=a=[]/\128<=S.sz/\v= .si .i64 (S.mx)
theorem WC:al 24 (mO WB):=mP (ay QJ 4 _) (by kernel_rfl) λS C d v a=>by
 obtain⟨b,e,c⟩:=a;subst b c;refine⟨[],λf g h=>h,λ_=>rfl,⟨λ_=>rfl,rfl⟩,?_⟩;show ax WA 4 _ _ _ _ _
 conv=>whnf
 refine ag.du (λz=>absurd (show(0:Int)<(S.sz:Int) by omega) z) (λ_=>?_)
 conv=>whnf
 exact uI _ rfl (VTo.mk5 rfl) VR.fg rfl rfl rfl
def WD:FuncId->EP:=aX 85 [] evP
theorem QK:aS WD:=au az (by kernel_rfl) (by kernel_rfl)
def WE(S:Sr)(C:Ck5)(a:List AV)(v:AV):Prop:=a=[]/\128<=S.sz/\v= .si .i64 (S.ret)
theorem WG:al 85 (mO WE):=mP (ay QK 4 _) (by kernel_rfl) λS C d v a=>by
 obtain⟨b,e,c⟩:=a;subst b c;refine⟨[],λf g h=>h,λ_=>rfl,⟨λ_=>rfl,rfl⟩,?_⟩;show ax WD 4 _ _ _ _ _
 conv=>whnf
 exact uI _ rfl (VTo.mk5 rfl) VR.fg rfl rfl rfl
def WH:FuncId->EP:=aX 86 [] evP
theorem QL:aS WH:=au az (by kernel_rfl) (by kernel_rfl)
def WI(S:Sr)(C:Ck5)(a:List AV)(v:AV):Prop:=a=[]/\128<=S.sz/\v= .si .i64 (S.pol)
theorem WJ:al 86 (mO WI):=mP (ay QL 4 _) (by kernel_rfl) λS C d v a=>by
 obtain⟨b,e,c⟩:=a;subst b c;refine⟨[],λf g h=>h,λ_=>rfl,⟨λ_=>rfl,rfl⟩,?_⟩;show ax WH 4 _ _ _ _ _
 conv=>whnf
 exact uI _ rfl (VTo.mk5 rfl) VR.fg rfl rfl rfl
def WK:FuncId->EP:=aX 37 [(5,[(some 0,[0]),(some 0,[17]),(some 0,[18]),(some 0,[19]),(some 0,[0]),(some 0,[21]),(some 0,[22]),(some 0,[23]),(some 0,[0]),(some 0,[25]),(some 0,[26]),(some 0,[27]),(some 0,[24,28]),(some 0,[20,29]),(some 0,[30])])] evP
theorem QM:aS WK:=au az (by kernel_rfl) (by kernel_rfl)
def NR(S:Sr)(C:Ck5)(a:List AV)(v:AV):Prop:=a=[]/\128<=S.sz/\(0<=S.ret/\S.ret<=1099511627776)/\(-1<=S.mx/\S.mx<1099511627776)/\v= .si .i64 (dI S)
theorem SG:al 37 (mO NR):=mP (ay QM 4 _) (by kernel_rfl) λS C f v a=>by
 obtain⟨b,g,i,j,c⟩:=a;subst b c;refine⟨[],λk l h=>h,λ_=>rfl,⟨λ_=>rfl,rfl⟩,?_⟩;have d:IntKind.i64.wrap (S.mx-S.ret)=S.mx-S.ret:=aj (by omega) (by omega);show ax WK 4 _ _ _ _ _
 conv=>whnf
 refine ag.du (λz=>absurd (show(0:Int)<(S.sz:Int) by omega) z) (λ_=>?_)
 conv=>whnf
 refine ag.dec (λz=>?_) (λz=>?_)
 focus
  have e:S.fl=dI S:=(if_pos z).symm
  conv=>whnf
  exact uI _ rfl (VTo.mk5 (congrArg (AV.si .i64) e)) VR.fg rfl rfl rfl
 have e:max S.fl (IntKind.i64.wrap (S.mx-S.ret))=dI S:=by rw[d];exact(if_neg z).symm
 conv=>whnf
 exact uI _ rfl (VTo.mk5 (congrArg (AV.si .i64) e)) VR.fg rfl rfl rfl
theorem F2{C:Ck5}(h:C=[]):ah C=[]:=by subst h;rfl
def sw(L:Smp):AV:= .tup [.agg [.si .i64 (tAt L (L.length-1)),.si .i64 (vAt L (L.length-1))],.sb (decide ((0:Int)<(L.length:Int)))]
theorem Kx{C:Ck5}(a:∀c∈C,c.2≠[])(h:0<C.length):FLv ((C[C.length-1]'(by omega)).2.length-1) (C[C.length-1]'(by omega)).2=sw (ah C):=by
 have b:0<(C[C.length-1]'(by omega)).2.length:=q3r.2 (a _ (q0k _))
 have e:ah C=ah (C.take (C.length-1))++(C[C.length-1]'(by omega)).2:=by
  have:=zA (C:=C) (i:=C.length-1) (by omega);rw[show C.length-1+1=C.length by omega,q0u]at this;exact this
 have k:=tK (A:=ah (C.take (C.length-1))) (M:=(C[C.length-1]'(by omega)).2) ((C[C.length-1]'(by omega)).2.length-1);unfold FLv sw;rw[e,Z6,show(ah (C.take (C.length-1))).length+(C[C.length-1]'(by omega)).2.length-1=(ah (C.take (C.length-1))).length+((C[C.length-1]'(by omega)).2.length-1) by omega,k.1,k.2,decide_eq_true (show(0:Int)<((C[C.length-1]'(by omega)).2.length:Int) by omega),decide_eq_true (by omega)]
def QN:DT:=[(3,[(some 1000000,[]),(none,[0,1,2,3,4,5,6,7,8,9,10,11,12,13,14,15,16])])]
def Uf:FuncId->EP:=aX 18 QN (ao 60 (qZ λL=>L.length-1) evP)
theorem QO:aS Uf:=au (ab az HM) (by kernel_rfl) (by kernel_rfl)
def WL(S:Sr)(C:Ck5)(a:List AV)(v:AV):Prop:=a=[]/\Gt S C/\(ah C).length<=90000/\v=sw (ah C)
theorem Ky(L:Smp):∀φ ψ w,VR φ (sw L) w->VR ψ (sw L) w:=λφ ψ w h=>by
 obtain⟨cs,rfl,a⟩:=h.fm;obtain⟨k,b,c,d,e⟩:=a.cons_inv;obtain⟨l,f,g,i,j⟩:=e.cons_inv;have:=j.aQ;subst this;exact .tup (by rw[c,g];exact .cons (jy rfl d) (.cons (jy rfl i) .nil))
theorem Kz(S:Sr)(C:Ck5)(i:Gt S C)(x:(ah C).length<=90000):gi (ax Uf 5 18) [.ptr 0 0] (mkH (bE (iT S (pts C) C) 0)) 3 (RoP (λu=>u=sw (ah C)) S (pts C) C):=by
 have q:=i.lo;have o:=i.few;have r:(pts C).length=C.length:=aw C;have d:=Kx i.all;obtain⟨f,c⟩:∃f,sw (ah C)=f:=⟨_,rfl⟩
 have s:C=[]->VTo (.tup [.agg [.int .i64 0,.int .i64 0],.bool false]) f:=λk=>by
  rw[<-c,F2 k];exact VTo.Nv rfl rfl rfl
 have b:∀p t w,VR p f w->VR t f w:=c▸Ky _;rw[c]at d⊢;have v:0<C.length->IntKind.i64.wrap (((pts C).length:Int)-1)=((C.length-1:Nat):Int):=λ_=>by rw[aj (by omega) (by omega)];omega
 show ax Uf 5 _ _ _ _ _
 conv=>whnf
 refine ag.du (λz=>absurd (show(0:Int)<(S.sz:Int) by omega) z) (λ_=>?_)
 conv=>whnf
 refine ag.dec (λz=>?_) (λz=>?_)
 focus
  have j:C=[]:=by
   have z:((pts C).length:Int)=0:=z;exact q0j (by omega)
  have e:=s j
  conv=>whnf
  exact uI _ rfl e b rfl rfl rfl
 have j:0<C.length:=by
  have z:¬((pts C).length:Int)=0:=z;omega
 have a:C.length-1<C.length:=by omega
 have g:C.length-1<(pts C).length:=by omega
 have l:cX C[C.length-1].2:=i.eE _ (q0k a);have m:=v j;have n:=d j
 conv=>whnf
 refine⟨?_,trivial⟩
 conv=>whnf
 refine Idx.mk (C.length-1) m g ?_
 conv=>whnf
 refine aq (dZ a (show 0+(C.length-1)*1=C.length-1 by omega)) ?_
 conv=>whnf
 refine⟨2,S.sz,C.take (C.length-1),C.drop (C.length-1+1),C,C[C.length-1].1,C[C.length-1].2,rfl,l9 a rfl (by decide) (by decide) rfl,by omega,l,nO a,?_⟩
 conv=>whnf
 exact uI _ rfl (λp w h=>by rw[<-n];exact h) b rfl rfl rfl
theorem QP:al 18 (mO WL):=mP (ay QO 5 _) (by kernel_rfl) λS C e v ⟨a,b,c,d⟩=>by
 subst a d;exact⟨[],λf g h=>h,λ_=>rfl,⟨λ_=>rfl,rfl⟩,Kz S C b c⟩
def Bj(args:List AV)(H:AH)(n:Nat)(κ:PK):Prop:=match args with
 | [x,y,z]=>∃(r k q:Nat) (S:Sr) (C:Ck5) (t v p:Int),x= .ptr r 0/\nK y t v/\mk z= .si .i64 p/\eT H n r k q S (pts C) C/\Gd S C/\(ah C).length<=80000/\(0<=t/\t<1099511627776)/\aR v/\∀a e,FX S C a t v p e->κ (.si .i64 e) (ga H n r k q S (pts a) a) (n+1)
 |_=>False
theorem Ug:al 130 Bj:=λargs H n T b U d V W K f a h=>by
 unfold Bj at b;split at b
 ·obtain⟨X,i,j,l,m⟩:=a.cons_inv;obtain⟨Y,o,s,w,x⟩:=m.cons_inv;obtain⟨Z,y,z,A,B⟩:=x.cons_inv;obtain⟨r,k,q,S,C,t,v,p,rfl,D,E,F,G,I,J,L,b⟩:=b;refine gH (ay T7 5 _) (by kernel_rfl) (NI S C t v p G I J L) (λ_=>rfl) f F (by rw[j,s,z];exact .cons l (.cons (D.open w _) (.cons (bh rfl (E▸A.mk)) B))) h (λu M N c ⟨e,g,_⟩=>by subst g;exact⟨λ_=>rfl,rfl⟩) λu M N c ⟨e,O,P,Q,R⟩=>?_
  subst O P Q;exact b c e R
 ·exact b.elim
def vh(args:List AV)(H:AH)(n:Nat)(κ:PK):Prop:=match args with
 | [x,y,z]=>∃(r k q:Nat) (S:Sr) (C:Ck5) (a b:Int),x= .ptr r 0/\mk y= .si .i64 a/\mk z= .si .i64 b/\eT H n r k q S (pts C) C/\oZ S C/\C.length+ex5 C<=100000/\(ah C).length<=100000/\∀c,ah c=aO (ah C) a b->Gt S c->Wh S.sz c.length c->κ (.si .i64 ((dlN a b C:Nat):Int)) (ga H n r k q S (pts c) c) (n+1)
 |_=>False
theorem NS:al 100 vh:=λargs H n R d T i U V K j c l=>by
 unfold vh at d;split at d
 ·obtain⟨W,m,o,p,s⟩:=c.cons_inv;obtain⟨X,t,v,w,x⟩:=s.cons_inv;obtain⟨Y,y,z,A,B⟩:=x.cons_inv;obtain⟨r,k,q,S,C,a,b,rfl,D,E,F,e,G,f,d⟩:=d;refine gH (ay Ud 5 _) (by kernel_rfl) (QI S C a b e G f) (λ_=>rfl) j F (by rw[o,v,z];exact .cons p (.cons (bh rfl (D▸w.mk)) (.cons (bh rfl (E▸A.mk)) B))) l (λu I J h ⟨g,_⟩=>by subst g;exact⟨λ_=>rfl,rfl⟩) λu I J h ⟨L,M,N,O,P,Q⟩=>?_
  subst L M N;exact d h O P Q
 ·exact d.elim
structure om(S:Sr):Prop where
 ret:0<=S.ret/\S.ret<=1099511627776
 pol:1<=S.pol/\S.pol<=6
 mx: -1<=S.mx/\S.mx<1099511627776
 fl:0<=S.fl/\S.fl<=1099511627776
theorem om.line{S:Sr}(h:om S):0<=dI S/\dI S<=1099511627776:=by
 have a:=h.ret;have b:=h.mx;have c:=h.fl;unfold dI;split<;>omega
structure jL(S:Sr)(C:Ck5):Prop where
 gt:Gt S C
 wh:Wh S.sz C.length C
 num:om S
 few:(ah C).length<=80000
theorem Gd.pf{S:Sr}{C:Ck5}(h:Gd S C):oZ S C:=⟨h.lo,h.hi,h.up,h.eE⟩
theorem oZ.fl{S:Sr}{C:Ck5}(h:oZ S C)(a b c d:Int):oZ {S with ret:=a,pol:=b,mx:=c,fl:=d} C:=⟨h.lo,h.hi,h.up,h.eE⟩
def NT(S:Sr)(L:Smp):Sr×Smp:=({S with fl:=dI S},aO L 0 (dI S-1))
def TmP(a:Sr)(b:Ck5):AV->Sr->Ps->Ck5->Prop:=λu S V C=>u= .tup []/\V=pts C/\(S,ah C)=NT a (ah b)/\Gt S C/\Wh S.sz C.length C
def Uh:FuncId->EP:=aX 131 [] (da 37 (mO NR) (ao 100 vh evP))
theorem QQ:aS Uh:=au (bf (ab az NS) SG (NQ _)) (by kernel_rfl) (by kernel_rfl)
theorem NU(S:Sr)(C:Ck5)(d:oZ S C)(hn:om S)(e:C.length+ex5 C<=100000)(a:(ah C).length<=100000):gi (ax Uh 5 131) [.ptr 0 0] (mkH (bE (iT S (pts C) C) 0)) 3 (SP (TmP S C)):=by
 have b:=d.lo;have f:=hn.line;have g:IntKind.i64.wrap (dI S-1)=dI S-1:=aj (by omega) (by omega);have c:=d.fl S.ret S.pol S.mx (dI S);show ax Uh 5 _ _ _ _ _
 conv=>whnf
 refine⟨0,1,2,S,C,_,rfl,⟨⟨by decide,by decide,by decide⟩,⟨by decide,by decide,by decide⟩,rfl,rfl,rfl⟩,⟨rfl,b,hn.ret,hn.mx,rfl⟩,?_⟩
 conv=>whnf
 refine⟨0,1,2,{S with fl:=dI S},C,0,dI S-1,rfl,rfl,congrArg (AV.si .i64) g,⟨⟨by decide,by decide,by decide⟩,⟨by decide,by decide,by decide⟩,rfl,rfl,rfl⟩,c,e,a,λl i j k=>?_⟩
 conv=>whnf
 exact fJ (TmP S C) ⟨rfl,rfl,(by rw[i];rfl),j,k⟩ (VTo.mk5 rfl) (λm n w h=>jy rfl h) 3 ⟨by decide,by decide⟩ rfl rfl rfl rfl rfl rfl (ae.rw (Z0 rfl) rfl) rfl (aB _) rfl
def sx(args:List AV)(H:AH)(n:Nat)(κ:PK):Prop:=match args with
 | [x]=>∃(r k q:Nat) (S:Sr) (C:Ck5),x= .ptr r 0/\eT H n r k q S (pts C) C/\oZ S C/\om S/\C.length+ex5 C<=100000/\(ah C).length<=100000/\∀a,ah a=aO (ah C) 0 (dI S-1)->Gt {S with fl:=dI S} a->Wh S.sz a.length a->κ (.tup []) (ga H n r k q {S with fl:=dI S} (pts a) a) (n+1)
 |_=>False
theorem HW:al 131 sx:=λargs H n B b D i E F K j a l=>by
 unfold sx at b;split at b
 ·obtain⟨G,m,I,J,L⟩:=a.cons_inv;obtain⟨r,k,q,S,C,rfl,o,c,p,s,d,b⟩:=b;refine gH (ay QQ 5 _) (by kernel_rfl) (NU S C c p s d) (λ_=>rfl) j o a l (λu f t e ⟨g,_⟩=>by subst g;exact⟨λ_=>rfl,rfl⟩) λu f t e ⟨v,w,h,x,y⟩=>?_
  have z:f={S with fl:=dI S}:=congrArg Prod.fst h;have A:ah e=aO (ah C) 0 (dI S-1):=congrArg Prod.snd h;subst v w z;exact b e A x y
 ·exact b.elim
def gY(S:Sr)(L:Smp)(t v p:Int):(Sr×Smp)×Int:=
 if t<0∨1099511627776<=t∨(p≠0/\¬(1<=p/\p<=6))then((S,L),1)
 else if t<dI S then((S,L),7)
 else if(fp L t v (if p=0 then S.pol else p)).2=0 then(NT {S with mx:=max S.mx t} (fp L t v (if p=0 then S.pol else p)).1,0)
 else((S,L),(fp L t v (if p=0 then S.pol else p)).2)
theorem om.mxs{S:Sr}(h:om S){t:Int}(a:0<=t/\t<1099511627776):om {S with mx:=max S.mx t}:=⟨h.ret,h.pol,by have:=h.mx;show-1<=max S.mx t/\max S.mx t<1099511627776;omega,h.fl⟩
theorem om.tr{S:Sr}(h:om S):om {S with fl:=dI S}:=⟨h.ret,h.pol,h.mx,h.line⟩
def AdP(a:Sr)(b:Ck5)(t v p:Int):AV->Sr->Ps->Ck5->Prop:=λu S V C=>∃e:Int,u= .si .i64 e/\V=pts C/\((S,ah C),e)=gY a (ah b) t v p/\Gt S C/\Wh S.sz C.length C/\om S
def Ui:DT:=[(5,[(some 0,[4]),(some 0,[31]),(some 0,[0]),(none,[33]),(some 0,[32,34]),(some 0,[35])]),
 (11,[(some 0,[0]),(some 0,[0]),(some 0,[50]),(some 0,[51]),(some 0,[52]),(some 0,[4]),(some 0,[54]),(some 0,[53,55]),(some 0,[49]),(some 0,[57]),(none,[58,56])])]
def Uj:FuncId->EP:=aX 72 Ui (da 37 (mO NR) (ao 130 Bj (ao 131 sx (ao 132 vg evP))))
theorem QR:aS Uj:=au (bf (ab (ab (ab az NM) HW) Ug) SG (NQ _)) (by kernel_rfl) (by kernel_rfl)
theorem NV(S:Sr)(C:Ck5)(t v p:Int)(M:jL S C)(hv:aR v)(hf:(ah C).length<=40000):gi (ax Uj 5 72) [.ptr 0 0,.agg [.si .i64 t,.si .i64 v],.si .i64 p] (mkH (bE (iT S (pts C) C) 0)) 3 (SP (AdP S C t v p)):=by
 have w:=M.gt;have i:=M.num;have x:=M.wh;have y:=w.lo;obtain⟨q,G⟩:∃q,(if p=0 then S.pol else p)=q:=⟨_,rfl⟩;have H:t<0∨1099511627776<=t∨(p≠0/\¬(1<=p/\p<=6))->AdP S C t v p (.si .i64 1) S (pts C) C:=λk=>⟨1,rfl,rfl,by unfold gY;rw[if_pos k],w,x,i⟩
 have V:¬(t<0∨1099511627776<=t∨(p≠0/\¬(1<=p/\p<=6)))->t<dI S->AdP S C t v p (.si .i64 7) S (pts C) C:=λj I=>⟨7,rfl,rfl,by unfold gY;rw[if_neg j,if_pos I],w,x,i⟩
 have A:¬(t<0∨1099511627776<=t∨(p≠0/\¬(1<=p/\p<=6)))->¬t<dI S->∀b e,FX S C b t v q e->b.length<=100000/\b.length+ex5 b<=100000/\(ah b).length<=100000/\(e=0->∀l a,ah l=aO (ah b) 0 (dI {S with mx:=max S.mx t}-1)->ah a=ah l->Gt {S with mx:=max S.mx t,fl:=dI {S with mx:=max S.mx t}} a->Wh S.sz a.length a->AdP S C t v p (.si .i64 e) {S with mx:=max S.mx t,fl:=dI {S with mx:=max S.mx t}} (pts a) a)/\(e≠0->∀a,ah a=ah b->Gt S a->Wh S.sz a.length a->AdP S C t v p (.si .i64 e) S (pts a) a):=λj I b e J=>by
  have N:=(xf (ah C) t v q).1;rw[<-J.fl]at N;have W:=FV J.gd.ne;have X:=Bh b;have d:=J.err;have B:=J.fl;refine⟨by omega,by omega,by omega,λK l a n f g h=>?_,λK a f g h=>?_⟩
  ·refine⟨e,rfl,rfl,?_,g,h,(i.mxs (t:=t) ⟨by omega,by omega⟩).tr⟩;unfold gY;rw[if_neg j,if_neg I,G,<-d,if_pos K,f,n,B,K];rfl
  ·refine⟨e,rfl,rfl,?_,g,h,i⟩;have D:(fp (ah C) t v q).2≠0:=by rw[<-d];exact K
   unfold gY;rw[if_neg j,if_neg I,G,if_neg D,f,B,DA D,<-d]
 show ax Uj 5 _ _ _ _ _
 conv=>whnf
 refine ag.du (λz=>absurd (show(0:Int)<(S.sz:Int) by omega) z) (λ_=>?_)
 conv=>whnf
 refine ag.dec (λL=>?_) (λL=>?_)
 focus
  have r:=H (.inl L)
  conv=>whnf
  exact fJ (AdP S C t v p) r (VTo.mk5 rfl) VR.fg 1 ⟨by decide,by decide⟩ rfl rfl rfl rfl rfl rfl (ae.rw (Z0 rfl) rfl) rfl (aB _) rfl
 conv=>whnf
 refine ag.dec (λz2=>?_) (λz2=>?_)
 focus
  have r:=H (.inr (.inl z2))
  conv=>whnf
  exact fJ (AdP S C t v p) r (VTo.mk5 rfl) VR.fg 1 ⟨by decide,by decide⟩ rfl rfl rfl rfl rfl rfl (ae.rw (Z0 rfl) rfl) rfl (aB _) rfl
 conv=>whnf
 refine ag.du (λm=>?_) (λm=>?_)
 focus
  conv=>whnf
  refine ag.dec (λO=>?_) (λO=>?_)
  focus
   conv=>whnf
   refine ag.du (λP=>?_) (λP=>?_)
   focus
    have r:=H (.inr (.inr ⟨m,λk=>P k.2⟩))
    conv=>whnf
    exact fJ (AdP S C t v p) r (VTo.mk5 rfl) VR.fg 1 ⟨by decide,by decide⟩ rfl rfl rfl rfl rfl rfl (ae.rw (Z0 rfl) rfl) rfl (aB _) rfl
   have o:p=q:=by rw[<-G,if_neg m]
   have j:¬(t<0∨1099511627776<=t∨(p≠0/\¬(1<=p/\p<=6))):=λk=>by
    rcases k with k|k|k
    ·exact L k
    ·exact z2 k
    ·exact k.2 ⟨O,P⟩
   conv=>whnf
   refine⟨0,1,2,S,C,_,rfl,⟨⟨by decide,by decide,by decide⟩,⟨by decide,by decide,by decide⟩,rfl,rfl,rfl⟩,⟨rfl,y,i.ret,i.mx,rfl⟩,?_⟩
   conv=>whnf
   refine ag.dec (λs=>?_) (λs=>?_)
   focus
    have r:=V j s
    conv=>whnf
    exact fJ (AdP S C t v p) r (VTo.mk5 rfl) VR.fg 1 ⟨by decide,by decide⟩ rfl rfl rfl rfl rfl rfl (ae.rw (Z0 rfl) rfl) rfl (aB _) rfl
   have E:0<=t/\t<1099511627776:=⟨by omega,by omega⟩;have okB:=A j s
   conv=>whnf
   refine ag.dec (λQ=>absurd Q m) (λ_=>?_)
   conv=>whnf
   refine⟨0,1,2,S,C,t,v,q,rfl,⟨_,_,rfl,rfl,rfl⟩,congrArg (AV.si .i64) o,⟨⟨by decide,by decide,by decide⟩,⟨by decide,by decide,by decide⟩,rfl,rfl,rfl⟩,w.gd,by omega,E,hv,λb e c=>?_⟩;have ok:=okB b e c;have pf:=c.gd.pf;have R:=c.gd.pre
   conv=>whnf
   refine ag.dec (λu=>?_) (λu=>?_)
   focus
    conv=>whnf
    refine⟨0,4,2,{S with mx:=max S.mx t},b,rfl,⟨⟨by decide,by decide,by decide⟩,⟨by decide,by decide,by decide⟩,rfl,rfl,rfl⟩,pf.fl S.ret S.pol (max S.mx t) S.fl,i.mxs E,ok.2.1,ok.2.2.1,λl n F Y=>?_⟩;have T:=F.toPre5
    conv=>whnf
    refine⟨0,5,2,{S with mx:=max S.mx t,fl:=dI {S with mx:=max S.mx t}},l,rfl,⟨⟨by decide,by decide,by decide⟩,⟨by decide,by decide,by decide⟩,rfl,rfl,rfl⟩,T,by have U:=xd F.all;have Z:=ok.2.2.1;have h3:(aO (ah b) 0 (dI {S with mx:=max S.mx t}-1)).length<=(ah b).length:=q1h _ _;rw[n]at U;omega,λa f g h=>?_⟩;have r:=ok.2.2.2.1 u l a n f g h
    conv=>whnf
    exact fJ (AdP S C t v p) r (VTo.mk5 rfl) VR.fg 6 ⟨by decide,by decide⟩ rfl rfl rfl rfl rfl rfl (ae.rw (Z0 rfl) rfl) rfl (aB _) rfl
   conv=>whnf
   refine⟨0,4,2,S,b,rfl,⟨⟨by decide,by decide,by decide⟩,⟨by decide,by decide,by decide⟩,rfl,rfl,rfl⟩,R,ok.1,λa f g h=>?_⟩;have r:=ok.2.2.2.2 u a f g h
   conv=>whnf
   exact fJ (AdP S C t v p) r (VTo.mk5 rfl) VR.fg 5 ⟨by decide,by decide⟩ rfl rfl rfl rfl rfl rfl (ae.rw (Z0 rfl) rfl) rfl (aB _) rfl
  have r:=H (.inr (.inr ⟨m,λk=>O k.1⟩))
  conv=>whnf
  exact fJ (AdP S C t v p) r (VTo.mk5 rfl) VR.fg 1 ⟨by decide,by decide⟩ rfl rfl rfl rfl rfl rfl (ae.rw (Z0 rfl) rfl) rfl (aB _) rfl
 have o:S.pol=q:=by rw[<-G,if_pos m]
 have j:¬(t<0∨1099511627776<=t∨(p≠0/\¬(1<=p/\p<=6))):=λk=>by
  rcases k with k|k|k
  ·exact L k
  ·exact z2 k
  ·exact k.1 m
 conv=>whnf
 refine⟨0,1,2,S,C,_,rfl,⟨⟨by decide,by decide,by decide⟩,⟨by decide,by decide,by decide⟩,rfl,rfl,rfl⟩,⟨rfl,y,i.ret,i.mx,rfl⟩,?_⟩
 conv=>whnf
 refine ag.dec (λs=>?_) (λs=>?_)
 focus
  have r:=V j s
  conv=>whnf
  exact fJ (AdP S C t v p) r (VTo.mk5 rfl) VR.fg 1 ⟨by decide,by decide⟩ rfl rfl rfl rfl rfl rfl (ae.rw (Z0 rfl) rfl) rfl (aB _) rfl
 have E:0<=t/\t<1099511627776:=⟨by omega,by omega⟩;have okB:=A j s
 conv=>whnf
 refine ag.dec (λ_=>?_) (λQ=>absurd m Q)
 conv=>whnf
 refine⟨0,1,2,S,C,t,v,q,rfl,⟨_,_,rfl,rfl,rfl⟩,congrArg (AV.si .i64) o,⟨⟨by decide,by decide,by decide⟩,⟨by decide,by decide,by decide⟩,rfl,rfl,rfl⟩,w.gd,by omega,E,hv,λb e c=>?_⟩;have ok:=okB b e c;have pf:=c.gd.pf;have R:=c.gd.pre
 conv=>whnf
 refine ag.dec (λu=>?_) (λu=>?_)
 focus
  conv=>whnf
  refine⟨0,4,2,{S with mx:=max S.mx t},b,rfl,⟨⟨by decide,by decide,by decide⟩,⟨by decide,by decide,by decide⟩,rfl,rfl,rfl⟩,pf.fl S.ret S.pol (max S.mx t) S.fl,i.mxs E,ok.2.1,ok.2.2.1,λl n F Y=>?_⟩;have T:=F.toPre5
  conv=>whnf
  refine⟨0,5,2,{S with mx:=max S.mx t,fl:=dI {S with mx:=max S.mx t}},l,rfl,⟨⟨by decide,by decide,by decide⟩,⟨by decide,by decide,by decide⟩,rfl,rfl,rfl⟩,T,by have U:=xd F.all;have Z:=ok.2.2.1;have h3:(aO (ah b) 0 (dI {S with mx:=max S.mx t}-1)).length<=(ah b).length:=q1h _ _;rw[n]at U;omega,λa f g h=>?_⟩;have r:=ok.2.2.2.1 u l a n f g h
  conv=>whnf
  exact fJ (AdP S C t v p) r (VTo.mk5 rfl) VR.fg 6 ⟨by decide,by decide⟩ rfl rfl rfl rfl rfl rfl (ae.rw (Z0 rfl) rfl) rfl (aB _) rfl
 conv=>whnf
 refine⟨0,4,2,S,b,rfl,⟨⟨by decide,by decide,by decide⟩,⟨by decide,by decide,by decide⟩,rfl,rfl,rfl⟩,R,ok.1,λa f g h=>?_⟩;have r:=ok.2.2.2.2 u a f g h
 conv=>whnf
 exact fJ (AdP S C t v p) r (VTo.mk5 rfl) VR.fg 5 ⟨by decide,by decide⟩ rfl rfl rfl rfl rfl rfl (ae.rw (Z0 rfl) rfl) rfl (aB _) rfl
def Bk(args:List AV)(H:AH)(n:Nat)(κ:PK):Prop:=match args with
 | [x,y,z]=>∃(r k q:Nat) (S:Sr) (C:Ck5) (t v p:Int),x= .ptr r 0/\nK y t v/\mk z= .si .i64 p/\eT H n r k q S (pts C) C/\jL S C/\aR v/\(ah C).length<=40000/\∀a,ah a=(gY S (ah C) t v p).1.2->Gt (gY S (ah C) t v p).1.1 a->Wh (gY S (ah C) t v p).1.1.sz a.length a->om (gY S (ah C) t v p).1.1->κ (.si .i64 (gY S (ah C) t v p).2) (ga H n r k q (gY S (ah C) t v p).1.1 (pts a) a) (n+1)
 |_=>False
theorem Uk:al 72 Bk:=λargs H n Y b Z m hp vs K o a s=>by
 unfold Bk at b;split at b
 ·obtain⟨w1,w,y,z,A⟩:=a.cons_inv;obtain⟨w2,B,D,E,F⟩:=A.cons_inv;obtain⟨w3,G,I,J,L⟩:=F.cons_inv;obtain⟨r,k,q,S,C,t,v,p,rfl,M,N,O,P,Q,R,b⟩:=b;refine gH (ay QR 5 _) (by kernel_rfl) (NV S C t v p P Q R) (λ_=>rfl) o O (by rw[y,D,I];exact .cons z (.cons (M.open E _) (.cons (bh rfl (N▸J.mk)) L))) s (λu f T c ⟨e,g,_⟩=>by subst g;exact⟨λ_=>rfl,rfl⟩) λu f T c ⟨e,U,V,d,h,i,j⟩=>?_
  have l:f=(gY S (ah C) t v p).1.1:=congrArg (λx=>x.1.1) d;have W:ah c=(gY S (ah C) t v p).1.2:=congrArg (λx=>x.1.2) d;have X:e=(gY S (ah C) t v p).2:=congrArg (λx=>x.2) d;subst U V X;rw[l]at h i j;rw[l];exact b c W h i j
 ·exact b.elim
def jM(S:Sr)(L:Smp)(ret p:Int):(Sr×Smp)×Int:=if(0<=ret/\ret<=1099511627776)/\1<=p/\p<=6 then(NT {S with ret:=ret,pol:=p} L,0)else((S,L),1)
def AlP(a:Sr)(b:Ck5)(ret p:Int):AV->Sr->Ps->Ck5->Prop:=λu S V C=>∃e:Int,u= .si .i64 e/\V=pts C/\((S,ah C),e)=jM a (ah b) ret p/\Gt S C/\Wh S.sz C.length C/\om S
def Ul:FuncId->EP:=aX 108 [] (ao 131 sx evP)
theorem QS:aS Ul:=au (ab az HW) (by kernel_rfl) (by kernel_rfl)
theorem F3(S:Sr)(C:Ck5)(ret p:Int)(e:jL S C)(s:(ah C).length<=40000):gi (ax Ul 5 108) [.ptr 0 0,.si .i64 ret,.si .i64 p] (mkH (bE (iT S (pts C) C) 0)) 3 (SP (AlP S C ret p)):=by
 have c:=e.gt;have f:=e.num;have g:=e.wh;have q:=c.lo;have t:=c.few;have u:=Bh C;have pf:=c.gd.pf;have d:¬((0<=ret/\ret<=1099511627776)/\1<=p/\p<=6)->AlP S C ret p (.si .i64 1) S (pts C) C:=λk=>⟨1,rfl,rfl,by unfold jM;rw[if_neg k],c,g,f⟩
 have h:((0<=ret/\ret<=1099511627776)/\1<=p/\p<=6)->om {S with ret:=ret,pol:=p}/\∀a,ah a=aO (ah C) 0 (dI {S with ret:=ret,pol:=p}-1)->Gt {S with ret:=ret,pol:=p,fl:=dI {S with ret:=ret,pol:=p}} a->Wh S.sz a.length a->AlP S C ret p (.si .i64 0) {S with ret:=ret,pol:=p,fl:=dI {S with ret:=ret,pol:=p}} (pts a) a:=λk=>by
  have b:om {S with ret:=ret,pol:=p}:=⟨k.1,k.2,f.mx,f.fl⟩;refine⟨b,λa i j l=>⟨0,rfl,rfl,?_,j,l,b.tr⟩⟩;unfold jM;rw[if_pos k,i];rfl
 show ax Ul 5 _ _ _ _ _
 conv=>whnf
 refine ag.du (λz=>absurd (show(0:Int)<(S.sz:Int) by omega) z) (λ_=>?_)
 conv=>whnf
 refine ag.dec (λm=>?_) (λm=>?_)
 focus
  conv=>whnf
  refine ag.dec (λz2=>?_) (λz2=>?_)
  focus
   conv=>whnf
   refine ag.dec (λn=>?_) (λn=>?_)
   focus
    conv=>whnf
    refine ag.du (λo=>?_) (λo=>?_)
    focus
     have r:=d (λk=>o k.2.2)
     conv=>whnf
     exact fJ (AlP S C ret p) r (VTo.mk5 rfl) VR.fg 1 ⟨by decide,by decide⟩ rfl rfl rfl rfl rfl rfl (ae.rw (Z0 rfl) rfl) rfl (aB _) rfl
    have ok:=h ⟨⟨m,z2⟩,n,o⟩
    conv=>whnf
    refine⟨0,1,2,{S with ret:=ret,pol:=p},C,rfl,⟨⟨by decide,by decide,by decide⟩,⟨by decide,by decide,by decide⟩,rfl,rfl,rfl⟩,pf.fl ret p S.mx S.fl,ok.1,by omega,by omega,λa i j l=>?_⟩;have r:=ok.2 a i j l
    conv=>whnf
    exact fJ (AlP S C ret p) r (VTo.mk5 rfl) VR.fg 3 ⟨by decide,by decide⟩ rfl rfl rfl rfl rfl rfl (ae.rw (Z0 rfl) rfl) rfl (aB _) rfl
   have r:=d (λk=>n k.2.1)
   conv=>whnf
   exact fJ (AlP S C ret p) r (VTo.mk5 rfl) VR.fg 1 ⟨by decide,by decide⟩ rfl rfl rfl rfl rfl rfl (ae.rw (Z0 rfl) rfl) rfl (aB _) rfl
  have r:=d (λk=>z2 k.1.2)
  conv=>whnf
  exact fJ (AlP S C ret p) r (VTo.mk5 rfl) VR.fg 1 ⟨by decide,by decide⟩ rfl rfl rfl rfl rfl rfl (ae.rw (Z0 rfl) rfl) rfl (aB _) rfl
 have r:=d (λk=>m k.1.1)
 conv=>whnf
 exact fJ (AlP S C ret p) r (VTo.mk5 rfl) VR.fg 1 ⟨by decide,by decide⟩ rfl rfl rfl rfl rfl rfl (ae.rw (Z0 rfl) rfl) rfl (aB _) rfl
def Bl(args:List AV)(H:AH)(n:Nat)(κ:PK):Prop:=match args with
 | [x,y,z]=>∃(r k q:Nat) (S:Sr) (C:Ck5) (ret p:Int),x= .ptr r 0/\mk y= .si .i64 ret/\mk z= .si .i64 p/\eT H n r k q S (pts C) C/\jL S C/\(ah C).length<=40000/\∀a,ah a=(jM S (ah C) ret p).1.2->Gt (jM S (ah C) ret p).1.1 a->Wh (jM S (ah C) ret p).1.1.sz a.length a->om (jM S (ah C) ret p).1.1->κ (.si .i64 (jM S (ah C) ret p).2) (ga H n r k q (jM S (ah C) ret p).1.1 (pts a) a) (n+1)
 |_=>False
theorem Um:al 108 Bl:=λargs H n V b W m X Y K o a s=>by
 unfold Bl at b;split at b
 ·obtain⟨Z,t,v,w,y⟩:=a.cons_inv;obtain⟨w2,z,A,B,D⟩:=y.cons_inv;obtain⟨w3,E,F,G,I⟩:=D.cons_inv;obtain⟨r,k,q,S,C,ret,p,rfl,J,L,M,N,O,b⟩:=b;refine gH (ay QS 5 _) (by kernel_rfl) (F3 S C ret p N O) (λ_=>rfl) o M (by rw[v,A,F];exact .cons w (.cons (bh rfl (J▸B.mk)) (.cons (bh rfl (L▸G.mk)) I))) s (λu f P c ⟨e,g,_⟩=>by subst g;exact⟨λ_=>rfl,rfl⟩) λu f P c ⟨e,Q,R,d,h,i,j⟩=>?_
  have l:f=(jM S (ah C) ret p).1.1:=congrArg (λx=>x.1.1) d;have T:ah c=(jM S (ah C) ret p).1.2:=congrArg (λx=>x.1.2) d;have U:e=(jM S (ah C) ret p).2:=congrArg (λx=>x.2) d;subst Q R U;rw[l]at h i j;rw[l];exact b c T h i j
 ·exact b.elim
def qd(sz ret p:Int):Option Sr:=if(128<=sz/\sz<=4096)/\(0<=ret/\ret<=1099511627776)/\1<=p/\p<=6 then some ⟨sz.toNat,ret,p,-1,0⟩else none
def xm (H:AH) (n:Nat) (S:Sr):AH:=((H.set (some (.cells (c8 S (n+1) 0) true)) aa n).set (some (.cells [] true)) aa (n+1)).set (some (dA S [])) aa (n+2)
def Bm(args:List AV)(H:AH)(n:Nat)(κ:PK):Prop:=match args with
 | [x,y,z]=>∃(sz ret p:Int),mk x= .si .i64 sz/\mk y= .si .i64 ret/\mk z= .si .i64 p/\n<900000/\(qd sz ret p=none->κ (.tup [.nil,.int .i64 1]) H n)/\∀S,qd sz ret p=some S->κ (.tup [.ptr n 0,.int .i64 0]) (xm H n S) (n+3)
 |_=>False
def WM:FuncId->EP:=aX 104 [] evP
theorem QT:aS WM:=au az (by kernel_rfl) (by kernel_rfl)
def NwQ(sz ret p:Int):PK:=λu a b=>(qd sz ret p=none/\u= .tup [.nil,.int .i64 1]/\a=mkH []/\b=0)∨∃S,qd sz ret p=some S/\u= .tup [.ptr 0 0,.int .i64 0]/\a=mkH [(0,.cells [.si .i64 sz,.si .i64 ret,.si .i64 p,.int .i64 (-1),.int .i64 0,.nsl] true)]/\b=1
theorem NW(sz ret p:Int):ax WM 5 104 [.si .i64 sz,.si .i64 ret,.si .i64 p] (mkH (bE [] 0)) 0 (NwQ sz ret p):=by
 have a:¬((128<=sz/\sz<=4096)/\(0<=ret/\ret<=1099511627776)/\1<=p/\p<=6)->NwQ sz ret p (.tup [.nil,.int .i64 1]) (mkH []) 0:=λk=> .inl ⟨if_neg k,rfl,rfl,rfl⟩
 have f:((128<=sz/\sz<=4096)/\(0<=ret/\ret<=1099511627776)/\1<=p/\p<=6)->NwQ sz ret p (.tup [.ptr 0 0,.int .i64 0]) (mkH [(0,.cells [.si .i64 sz,.si .i64 ret,.si .i64 p,.int .i64 (-1),.int .i64 0,.nsl] true)]) 1:=λk=> .inr ⟨_,if_pos k,rfl,rfl,rfl⟩
 conv=>whnf
 refine ag.dec (λg=>?_) (λg=>?_)
 focus
  have r:=a (λk=>absurd k.1.1 (by omega))
  conv=>whnf
  exact r
 conv=>whnf
 refine ag.dec (λz2=>?_) (λz2=>?_)
 focus
  have r:=a (λk=>absurd k.1.2 (by omega))
  conv=>whnf
  exact r
 conv=>whnf
 refine ag.dec (λb=>?_) (λb=>?_)
 focus
  conv=>whnf
  refine ag.dec (λc=>?_) (λc=>?_)
  focus
   conv=>whnf
   refine ag.dec (λd=>?_) (λd=>?_)
   focus
    conv=>whnf
    refine ag.du (λe=>?_) (λe=>?_)
    focus
     have r:=a (λk=>e k.2.2.2)
     conv=>whnf
     exact r
    have r:=f ⟨⟨by omega,by omega⟩,⟨b,c⟩,d,e⟩
    conv=>whnf
    exact r
   have r:=a (λk=>d k.2.2.1)
   conv=>whnf
   exact r
  have r:=a (λk=>c k.2.1.2)
  conv=>whnf
  exact r
 have r:=a (λk=>b k.2.1.1)
 conv=>whnf
 exact r
theorem DR{A B:AH}{v:Option AO}{n:Nat}(hn:n<1000000)(h:∀x o,A.get x=some o->B.get x=some o):∀x o,(PM.set v aa A n).get x=some o->(PM.set v aa B n).get x=some o:=λx o b=>by
 rcases PM.an aa A n x o b with⟨rfl,a⟩|⟨c,a⟩
 ·rw[PM.geq hn];exact a
 ·exact PM.gne hn c (h x o a)
theorem Un:al 104 Bm:=λargs H n J q φ L hp vs K M e D=>by
 unfold Bm at q;split at q
 ·obtain⟨w1,N,P,Q,R⟩:=e.cons_inv;obtain⟨w2,T,U,V,W⟩:=R.cons_inv;obtain⟨w3,X,Y,Z,r3⟩:=W.cons_inv;obtain⟨sz,ret,p,d,hy,hz,hn,hs0,w⟩:=q;refine dz (S:=[]) (O:=[]) (args0:=[.si .i64 sz,.si .i64 ret,.si .i64 p]) (κ:=λv z A=>(qd sz ret p=none/\v= .tup [.nil,.int .i64 1]/\z=H/\A=n)∨∃S,qd sz ret p=some S/\v= .tup [.ptr n 0,.int .i64 0]/\z=H.set (some (.cells [.si .i64 sz,.si .i64 ret,.si .i64 p,.int .i64 (-1),.int .i64 0,.nsl] true)) aa n/\A=n+1) (ay QT 5 _) (by kernel_rfl) M ⟨q4x,rfl,λi s o l r=>by simp at l⟩ (by rw[P,U,Y];exact .cons (bh rfl (d▸Q.mk)) (.cons (bh rfl (hy▸V.mk)) (.cons (bh rfl (hz▸Z.mk)) r3))) ?_ (NW sz ret p) λu H' n' B=>?_
  ·intro χ v z A u g m E F B;rcases B with⟨a,f,h,j⟩|⟨S,a,f,h,j⟩
   ·subst f h j;exact D χ _ _ _ u g m E F (hs0 a)
   ·subst f h j
    have hS:(sz=(S.sz:Int)/\ret=S.ret/\p=S.pol)/\S.mx= -1/\S.fl=0:=by
     unfold qd at a;split at a
     ·rename_i k;injection a with a;subst a;exact⟨⟨by show sz=((sz.toNat:Nat):Int);omega,rfl,rfl⟩,rfl,rfl⟩
     ·cases a
    have hb:=PM.geq (v:=some (AO.cells [AV.si .i64 sz,.si .i64 ret,.si .i64 p,.int .i64 (-1),.int .i64 0,.nsl] true)) (t:=H) (n:=n) (by omega);obtain⟨⟨t1,t2,t3⟩,t4,t5⟩:=hS
    have l:=E.MM (l':=c8 S (n+1) 0) hb rfl λi a' b=>by
     match i with
     |0=>simp[c8]at b;subst b;exact⟨_,rfl,λv c=>t1▸c⟩
     |1=>simp[c8]at b;subst b;exact⟨_,rfl,λv c=>t2▸c⟩
     |2=>simp[c8]at b;subst b;exact⟨_,rfl,λv c=>t3▸c⟩
     |3=>simp[c8]at b;subst b;exact⟨_,rfl,λv c=>t4▸c.mk⟩
     |4=>simp[c8]at b;subst b;exact⟨_,rfl,λv c=>t5▸c.mk⟩
     |5=>simp[c8]at b;subst b;exact⟨_,rfl,λv c=>by rw[c.dd];exact .rwn⟩
     |i+6=>simp[c8]at b
    obtain⟨ψ,G,C⟩:=(l.AN (o:= .cells [] true) rfl).Wc
    have I:=C.less (H:=xm H n S) λx o d=>DR (by omega) (DR (by omega) λx o d=>by
     rcases PM.an aa H n x o d with⟨rfl,r⟩|⟨l,r⟩
     ·rw[PM.geq (by omega)];exact r
     ·exact PM.gne (by omega) l (PM.gne (by omega) l r)) x o d
    exact D ψ _ _ _ u g (m.trans G) I (VR.mono G _ _ F) (w S a)
  ·rcases B with⟨a,f,h,j⟩|⟨S,a,f,h,j⟩
   ·subst f h j;exact⟨0,H,Z3 _,fH.same λi s o C I _=>by simp at C,rfl,.inl ⟨a,rfl,rfl,rfl⟩⟩
   ·subst f h j;refine⟨1,jV [] n H [(0,some (.cells [.si .i64 sz,.si .i64 ret,.si .i64 p,.int .i64 (-1),.int .i64 0,.nsl] true))],Z9 _,fH.put (Z9 _) rfl (λx d o ho=>?_),rfl,.inr ⟨S,a,rfl,rfl,rfl⟩⟩;simp only[Z5,Z4,or_false]at d;subst d;injection ho with ho;subst ho;exact⟨rfl,rfl,rfl⟩
 ·exact q.elim
end Go.Proofs.YtflehenfikoniaaGreat
namespace Go.Proofs.YtflehenfikoniaaGreat
open Go Go.RowKit
section
variable {φ:Ph} {H:AH} {n:Nat} {h0 h g hb h1:Hp} {b:Nat} {S S':Nat->Prop} {Q Q':HP} {σ:AE} {ρ:Env}
theorem HR.qd(d:HR φ H n h0 h)(O:Q.P φ.z S h)(K:∀B,S B->(B<h.n/\h0.f B=none)/\(∀p o' L,H.get p=some o'->o'.own=true->φ p=some L->L.B≠B)/\(∀q,φ.z q->q.B≠B)/\∀p Q',H.get p=some (.sep Q')->¬φ.s p B):
 PLe φ ⟨φ.f,φ.z,φ.y,λx=>if x=n then S else φ.s x⟩/\HR ⟨φ.f,φ.z,φ.y,λx=>if x=n then S else φ.s x⟩ (H.set (some (.sep Q)) aa n) (n+1) h0 h:=by
 have cs:∀x o,(H.set (some (.sep Q)) aa n).get x=some o->(x=n/\o= .sep Q)∨(x≠n/\H.get x=some o):=λx o c=>by
  rcases PM.an aa H n x o c with⟨h1,j⟩|j
  ·injection j with j;exact .inl ⟨h1,j.symm⟩
  ·exact .inr j
 have r:φ n=none:=by
  cases e:φ n with
  |none=>rfl
  |some q=>exact absurd (d.dom n q e).1 (q3o _)
 let i:Ph:=⟨φ.f,φ.z,φ.y,λx=>if x=n then S else φ.s x⟩
 have own:∀x o q,(H.set (some (.sep Q)) aa n).get x=some o->φ x=some q->H.get x=some o:=λx o q c a=>by
  rcases cs x o c with⟨rfl,_⟩|⟨_,R⟩
  ·rw[r]at a;cases a
  ·exact R
 have sle:SLe φ i:=⟨λ_ _ h=>h,λ_ h=>h⟩;refine⟨⟨λ_ _ h=>h,λ_ h=>h,λ_ h=>h⟩,⟨λx q c=>⟨by have:=(d.dom x q c).1;omega,(d.dom x q c).2⟩,λx o c=>?_,λx y o o' q M c k ho C a t e=>d.inj x y o o' q M (own x o q c a) (own y o' M k t) ho C a t e,d.base,d.size,λq a=>⟨⟨FzR.mono (φ:=φ) (ψ:=i) sle.z (d.frz q a).1.1,(d.frz q a).1.2⟩,λx o px c ho u=>(d.frz q a).2 x o px (own x o px c u) ho u⟩,λx w c=>?_⟩⟩
 ·rcases cs x o c with⟨rfl,rfl⟩|⟨_,A⟩
  ·exact .inl ⟨r,rfl⟩
  ·rcases d.live x o A with g|⟨q,T,D,E,F,G⟩
   ·exact .inl g
   ·exact .inr ⟨q,T,D,E,F,G.c9 sle⟩
 ·rcases cs x _ c with⟨rfl,j⟩|⟨h1,A⟩
  ·injection j with j;subst j;have es:i.s x=S:=if_pos rfl
   show w.P φ.z (i.s x) h/\_;rw[es];refine⟨O,λB U=>?_⟩;obtain⟨V,W,Y,Z⟩:=K B U;refine⟨V,λy o q k ho a=>W y o q (own y o q k a) ho a,Y,λy I k l m=>?_⟩;rcases cs y _ k with⟨v,_⟩|⟨v,J⟩
   ·exact l v
   ·have:i.s y=φ.s y:=if_neg v;rw[this]at m;exact Z y I J m
  ·obtain⟨g0,g⟩:=d.sep x w A;have es:i.s x=φ.s x:=if_neg h1;show w.P φ.z (i.s x) h/\_;rw[es];refine⟨g0,λX N=>?_⟩;obtain⟨D,E,F,G⟩:=g X N;refine⟨D,λy o q k ho a=>E y o q (own y o q k a) ho a,F,λy I k l m=>?_⟩;rcases cs y _ k with⟨rfl,_⟩|⟨v,J⟩
   ·have:i.s y=S:=if_pos rfl
    rw[this]at m;exact(K X m).2.2.2 x w A N
   ·have:i.s y=φ.s y:=if_neg v;rw[this]at m;exact G y I J l m
theorem HR.SH(d:HR φ H n h0 h)(F:H.get b=some (.sep Q))(hw:Wf h)(hn:h.n<=g.n)(R:∀B o,h.f B=some o->¬φ.s b B->g.f B=some o)(Z:∀B,S' B->B<g.n/\(φ.s b B∨h.f B=none))(hQ:Q'.P φ.z S' g):
 HR ⟨φ.f,φ.z,φ.y,λx=>if x=b then S' else φ.s x⟩ (H.set (some (.sep Q')) aa b) n h0 g:=by
 have cs:∀x o,(H.set (some (.sep Q')) aa b).get x=some o->(x=b/\o= .sep Q')∨(x≠b/\H.get x=some o):=λx o j=>by
  rcases PM.an aa H b x o j with⟨h1,p⟩|p
  ·injection p with p;exact .inl ⟨h1,p.symm⟩
  ·exact .inr p
 have G:=d.nM F;have i:=(d.sep b Q F).2
 let m:Ph:=⟨φ.f,φ.z,φ.y,λx=>if x=b then S' else φ.s x⟩
 have own:∀x o q,(H.set (some (.sep Q')) aa b).get x=some o->φ x=some q->H.get x=some o:=λx o q j a=>by
  rcases cs x o j with⟨rfl,_⟩|⟨_,h3⟩
  ·rw[G]at a;cases a
  ·exact h3
 have sle:SLe φ m:=⟨λ_ _ h=>h,λ_ h=>h⟩;have I:∀B o,h0.f B=some o->g.f B=some o:=λB o e=>R B o (d.base B o e).2 λq=>by rw[(i B q).1.2]at e;cases e
 refine⟨λx q j=>⟨(d.dom x q j).1,q1j (d.dom x q j).2 hn⟩,λx o j=>?_,λx y o o' q T j r ho W a J e=>d.inj x y o o' q T (own x o q j a) (own y o' T r J) ho W a J e,λB o e=>⟨q1j (d.base B o e).1 hn,I B o e⟩,q0d d.size hn,λq a=>⟨⟨FzR.mono (φ:=φ) (ψ:=m) sle.z ?_,(d.frz q a).1.2⟩,λx o px j ho K=>(d.frz q a).2 x o px (own x o px j K) ho K⟩,λx w j=>?_⟩
 ·rcases cs x o j with⟨rfl,rfl⟩|⟨_,L⟩
  ·exact .inl ⟨G,rfl⟩
  ·rcases d.live x o L with C|⟨q,M,C,g2,g3,g4⟩
   ·exact .inl C
   ·refine .inr ⟨q,M,C,g2,?_,g4.c9 sle⟩;cases ho:o.own with
    |true=>exact R q.B M g3 λk=>(i q.B k).2.1 x o q L ho C rfl
    |false=>
     cases o with
     |ro l=>exact I q.B M g2
     |_=>cases ho
 ·obtain⟨k0,c,t,fz,D,N⟩:=(d.frz q a).1.1;exact⟨⟨q1j k0.1 hn,k0.2⟩,c,t,fz,R q.B _ D λk=>(i q.B k).2.2.1 q a rfl,N⟩
 ·rcases cs x _ j with⟨rfl,p⟩|⟨h1,L⟩
  ·injection p with p;subst p;have es:m.s x=S':=if_pos rfl
   show w.P φ.z (m.s x) g/\_;rw[es];refine⟨hQ,λB hB=>?_⟩;obtain⟨D,N⟩:=Z B hB;have no:∀o,h.f B=some o->φ.s x B:=λo e=>N.elim id λk=>by rw[k]at e;cases e
   refine⟨⟨D,?_⟩,λy o q r ho a e=>?_,λq a e=>?_,λy O r A u=>?_⟩
   ·cases e:h0.f B with
    |none=>rfl
    |some o=>rw[(i B (no o (d.base B o e).2)).1.2]at e;cases e
   ·have h5:=own y o q r a;rcases d.live y o h5 with⟨k,_⟩|⟨T,M,U,l2,l3,_⟩
    ·rw[k]at a;cases a
    ·rw[U]at a;injection a with a;subst a;exact(i B (no M (e▸l3))).2.1 y o T h5 ho U e
   ·obtain⟨k0,c,t,fz,U,_⟩:=(d.frz q a).1.1;exact(i B (no _ (e▸U))).2.2.1 q a e
   ·rcases cs y _ r with⟨E,_⟩|⟨E,V⟩
    ·exact A E
    ·have:m.s y=φ.s y:=if_neg E;rw[this]at u;obtain⟨o,ho⟩:=O.ex _ _ _ B (d.sep y O V).1 u;exact(i B (no o ho)).2.2.2 y O V E u
  ·obtain⟨Y,C⟩:=d.sep x w L;have es:m.s x=φ.s x:=if_neg h1;show w.P φ.z (m.s x) g/\_;rw[es];have nb:∀X,φ.s x X->¬φ.s b X:=λX v k=>(i X k).2.2.2 x w L h1 v
   refine⟨w.loc _ _ h _ hn (λX v=>?_) Y,λX v=>?_⟩
   ·obtain⟨o,ho⟩:=w.ex _ _ _ X Y v;rw[R X o ho (nb X v),ho]
   obtain⟨D,N,k3,k4⟩:=C X v;refine⟨⟨q1j D.1 hn,D.2⟩,λy o q r ho a=>N y o q (own y o q r a) ho a,k3,λy O r A u=>?_⟩;rcases cs y _ r with⟨rfl,_⟩|⟨E,V⟩
   ·have:m.s y=S':=if_pos rfl
    rw[this]at u;obtain⟨o,ho⟩:=w.ex _ _ _ X Y v;rcases(Z X u).2 with k|k
    ·exact nb X v k
    ·rw[k]at ho;cases ho
   ·have:m.s y=φ.s y:=if_neg E;rw[this]at u;exact k4 y O V A u
theorem HR.Uo(l:HR φ H n h0 h){p:Pl}{o:AO}{ob:Obj}(ho:o.own=true)(C:o.JH=none)(M:p.B<h.n/\h0.f p.B=none)(W:h.f p.B=some ob)(G:OR φ p o ob)(h1:∀D o' N,H.get D=some o'->o'.own=true->φ D=some N->N.B≠p.B)(Y:∀q,φ.z q->q.B≠p.B)(Z:∀D Q',H.get D=some (.sep Q')->¬φ.s D p.B):
 ∃ψ:Ph,PLe φ ψ/\ψ n=some p/\HR ψ (H.set (some o) aa n) (n+1) h0 h:=by
 have I:φ n=none:=by
  cases e:φ n with
  |none=>rfl
  |some q=>exact absurd (l.dom n q e).1 (q3o _)
 let ψ:Ph:=⟨λx=>if x=n then some p else φ x,φ.z,φ.y,φ.s⟩
 have u:ψ n=some p:=if_pos rfl
 have ne:∀x,x≠n->ψ x=φ x:=λx e=>if_neg e
 have le:PLe φ ψ:=⟨λx q e=>(ne x λk=>by subst k;rw[I]at e;cases e).trans e,λ_ h=>h,λ_ h=>h⟩
 have cs:∀x o',(H.set (some o) aa n).get x=some o'->(x=n/\o'=o)∨(x≠n/\H.get x=some o'):=λx o' a=>by
  rcases PM.an aa H n x o' a with⟨r,c⟩|c
  ·injection c with c;exact .inl ⟨r,c.symm⟩
  ·exact .inr c
 refine⟨ψ,le,u,⟨λx q a=>?_,λx o' a=>?_,λx y J E O P a A R T v t e=>?_,l.base,l.size,λq F=>⟨⟨FzR.mono (φ:=φ) (ψ:=ψ) (λ_ h=>h) (l.frz q F).1.1,(l.frz q F).1.2⟩,λx o' px a w d=>?_⟩,λx U a=>?_⟩⟩
 ·by_cases e:x=n
  ·subst e;rw[u]at a;injection a with a;subst a;exact⟨q1x _,M.1⟩
  ·rw[ne x e]at a;exact⟨Nat.lt_succ_of_lt (l.dom x q a).1,(l.dom x q a).2⟩
 ·rcases cs x o' a with⟨rfl,rfl⟩|⟨r,c⟩
  ·exact .inr ⟨p,ob,u,by rw[AO.bG ho];exact M.2,W,G.mono le⟩
  ·rcases l.live x o' c with⟨m,i⟩|⟨q,K,m,i,k5,k6⟩
   ·exact .inl ⟨(ne x r).trans m,i⟩
   ·exact .inr ⟨q,K,(ne x r).trans m,i,k5,k6.mono le⟩
 ·rcases cs x J a with⟨rfl,rfl⟩|⟨r,c⟩
  ·rcases cs y E A with⟨rfl,_⟩|⟨m,i⟩
   ·rfl
   ·rw[u]at v;injection v with v;subst v;rw[ne y m]at t;exact(h1 y E P i T t e.symm).elim
  ·rw[ne x r]at v;rcases cs y E A with⟨rfl,rfl⟩|⟨m,i⟩
   ·rw[u]at t;injection t with t;subst t;exact(h1 x J O c R v e).elim
   ·rw[ne y m]at t;exact l.inj x y J E O P c i R T v t e
 ·rcases cs x o' a with⟨rfl,rfl⟩|⟨r,c⟩
  ·rw[u]at d;injection d with d;subst d;exact λe=>Y q F e.symm
  ·rw[ne x r]at d;exact(l.frz q F).2 x o' px c w d
 ·rcases cs x _ a with⟨rfl,c⟩|⟨r,c⟩
  ·subst c;cases C
  ·obtain⟨g0,g1⟩:=l.sep x U c;refine⟨g0,λX V=>?_⟩;obtain⟨l1,l2,l3,l4⟩:=g1 X V;refine⟨l1,λy o' q A w j=>?_,l3,λy Q4 A L hs=>?_⟩
   ·rcases cs y o' A with⟨rfl,rfl⟩|⟨m,i⟩
    ·rw[u]at j;injection j with j;subst j;exact λe=>Z x U c (by rw[e];exact V)
    ·rw[ne y m]at j;exact l2 y o' q i w j
   ·rcases cs y _ A with⟨rfl,i⟩|⟨m,i⟩
    ·subst i;cases C
    ·exact l4 y Q4 i L hs
open Classical in
def o9 (S:Nat->Prop) (hb h:Hp):Hp:=⟨λB=>if S B/\hb.f B=none then none else h.f B,h.n⟩
open Classical in
def inS (S:Nat->Prop) (h:Hp):Hp:=⟨λB=>if S B then h.f B else none,h.n⟩
def DS(hb:Hp)(σ:AE)(ρ:Env)(H:AH)(n:Nat):HP where
 P _ S h:=(∀B,S B->∃o,h.f B=some o)/\∃(φ:Ph) (g:Hp),g.n<=h.n/\(∀B o,g.f B=some o->S B/\h.f B=some o)/\(∀q,¬φ.y q)/\HR φ H n hb g/\FR φ σ ρ
 loc _ _ _ _ hn e hp:=⟨λB a=>let⟨o,ho⟩:=hp.1 B a;⟨o,(e B a).trans ho⟩,let⟨φ,g,h1,c,d⟩:=hp.2;⟨φ,g,q0d h1 hn,λB o q=>⟨(c B o q).1,(e B (c B o q).1).trans (c B o q).2⟩,d⟩⟩
 mono _ _ _ _ _ h:=h
 ex _ _ _ B h a:=h.1 B a
theorem zB{B:Nat}{o:Obj}(h1:(o9 S hb h).f B=some o):h.f B=some o/\¬(S B/\hb.f B=none):=by
 by_cases e:S B/\hb.f B=none
 ·have:(o9 S hb h).f B=none:=if_pos e;rw[this]at h1;cases h1
 ·have:(o9 S hb h).f B=h.f B:=if_neg e;rw[this]at h1;exact⟨h1,e⟩
theorem Bn{B:Nat}(k:S B)(e:hb.f B=none):(o9 S hb h).f B=none:=if_pos ⟨k,e⟩
theorem kE{B:Nat}(e:¬(S B/\hb.f B=none)):(o9 S hb h).f B=h.f B:=if_neg e
theorem HR.lift(i:HR φ H n hb g)(D:Wf h)(hn:g.n<=h.n)(a:∀B o,g.f B=some o->S B/\h.f B=some o)(E:∀q,¬φ.y q):HR φ H n (o9 S hb h) h:=by
 refine⟨λx q j=>⟨(i.dom x q j).1,q1j (i.dom x q j).2 hn⟩,λx o j=>?_,i.inj,λB o e=>⟨D B o (zB e).1,(zB e).1⟩,Z3 _,λq F=>?_,λx w j=>?_⟩
 ·rcases i.live x o j with k|⟨p,A,m,d,u,G⟩
  ·exact .inl k
  ·refine .inr ⟨p,A,m,?_,(a _ _ u).2,G⟩;cases ho:o.own with
   |true=>
    rw[AO.bG ho]at d⊢;exact Bn (a _ _ u).1 d
   |false=>
    cases o with
    |ro l=>
     have d:hb.f p.B=some A:=d;exact(kE λk=>by rw[d]at k;cases k.2).trans (a _ _ u).2
    |_=>cases ho
 ·obtain⟨⟨m,d⟩,u⟩:=i.frz q F;obtain⟨C,c,t,fz,v,z⟩:=m;exact⟨⟨⟨⟨q1j C.1 hn,C.2⟩,c,t,fz,(a _ _ v).2,z⟩,.inr (Bn (a _ _ v).1 (d.resolve_left (E q)))⟩,u⟩
 ·obtain⟨m,d⟩:=i.sep x w j;have ex:∀B,φ.s x B->∃o,g.f B=some o:=λB r=>w.ex _ _ _ B m r
  refine⟨w.loc _ _ g _ hn (λB r=>?_) m,λB r=>?_⟩
  ·obtain⟨o,ho⟩:=ex B r;rw[ho,(a _ _ ho).2]
  ·obtain⟨o,ho⟩:=ex B r;obtain⟨v,z⟩:=d B r;exact⟨⟨q1j v.1 hn,Bn (a _ _ ho).1 v.2⟩,z⟩
theorem HR.Bo(d:HR φ H n h1 g){L:Nat}{o o':Obj}(v:h1.f L=some o)(i:∀b o,H.get b=some o->o.own=true)(A:∀q,¬φ.y q):HR φ H n (h1.put L o') (g.put L o'):=by
 have ne:∀B,h1.f B=none->B≠L:=λB e k=>by subst k;rw[v]at e;cases e
 refine⟨d.dom,λx o m=>?_,d.inj,λB o e=>?_,d.size,λq C=>?_,λx w m=>?_⟩
 ·rcases d.live x o m with k|⟨p,z,j,a,r,D⟩
  ·exact .inl k
  ·have hu:=AO.bG (i x o m) z;rw[hu]at a;refine .inr ⟨p,z,j,?_,?_,D⟩
   ·rw[hu,aW _ _ _ _ (ne _ a)];exact a
   ·rw[aW _ _ _ _ (ne _ a)];exact r
 ·by_cases k:B=L
  ·subst k;rw[bY]at e⊢;exact⟨(d.base _ _ v).1,e⟩
  ·rw[aW _ _ _ _ k]at e⊢;exact d.base _ _ e
 ·obtain⟨⟨j,a⟩,r⟩:=d.frz q C;have a:=a.resolve_left (A q);obtain⟨E,c,t,fz,l,s⟩:=j;exact⟨⟨⟨E,c,t,fz,(aW _ _ _ _ (ne _ a)).trans l,s⟩,.inr ((aW _ _ _ _ (ne _ a)).trans a)⟩,r⟩
 ·obtain⟨j,a⟩:=d.sep x w m;refine⟨w.loc _ _ g _ (Z3 _) (λB u=>aW _ _ _ _ (ne _ (a B u).1.2)) j,λB u=>?_⟩;obtain⟨l,s⟩:=a B u;exact⟨⟨l.1,(aW _ _ _ _ (ne _ l.2)).trans l.2⟩,s⟩
theorem HR.cut(i:HR φ H n h1 g)(m:∀b o,H.get b=some o->o.own=true)(E:∀q,¬φ.y q)(w:∀B o,g.f B=some o->h1.f B=none->S' B)(d:∀B o,hb.f B=some o->S' B/\g.f B=some o/\h1.f B≠none)(z:hb.n<=g.n):HR φ H n hb (inS S' g):=by
 have is:∀B,S' B->(inS S' g).f B=g.f B:=λB e=>if_pos e
 have no:∀B,h1.f B=none->hb.f B=none:=λB e=>by
  cases k:hb.f B with
  |none=>rfl
  |some o=>exact absurd e (d B o k).2.2
 refine⟨i.dom,λx o u=>?_,i.inj,λB o e=>⟨(i.base B _ (show h1.f B=some ((h1.f B).get (Option.isSome_iff_ne_none.2 (d B o e).2.2)) by simp)).1,(is B (d B o e).1).trans (d B o e).2.1⟩,z,λq F=>?_,λx A u=>?_⟩
 ·rcases i.live x o u with k|⟨p,D,j,a,v,G⟩
  ·exact .inl k
  ·have hu:=AO.bG (m x o u) D;rw[hu]at a;exact .inr ⟨p,D,j,by rw[hu];exact no _ a,(is _ (w _ _ v a)).trans v,G⟩
 ·obtain⟨⟨j,a⟩,v⟩:=i.frz q F;have a:=a.resolve_left (E q);obtain⟨I,c,t,fz,r,C⟩:=j;exact⟨⟨⟨I,c,t,fz,(is _ (w _ _ r a)).trans r,C⟩,.inr (no _ a)⟩,v⟩
 ·obtain⟨j,a⟩:=i.sep x A u;have ex:∀B,φ.s x B->S' B:=λB l=>let⟨o,ho⟩:=A.ex _ _ _ B j l;w B o ho (a B l).1.2
  refine⟨A.loc _ _ g _ (Z3 _) (λB l=>is B (ex B l)) j,λB l=>?_⟩;obtain⟨r,C⟩:=a B l;exact⟨⟨r.1,no _ r.2⟩,C⟩
end
end Go.Proofs.YtflehenfikoniaaGreat
namespace Go.Proofs.YtflehenfikoniaaGreat
open Go Go.RowKit
def kg:Code->Bool
 | .skip=>true
 | .region _ _ d=>!d
 | .seq a b=>kg a&&kg b
 | .cond _ a b=>kg a&&kg b
 | .block _ c=>kg c
 | .exit _=>true
 | .ret=>true
 |_=>false
def WN(d:List Deferred)(n:Nat)(ds:List Nat)(ρ0:Env)(w0:World)(N R:EH)(X:Nat->EH):Exit->Act->World->Prop
 | .normal,a,w=>∃ρ h,oE d n a ρ/\Is w h/\bO w0 w/\gB ds ρ0 ρ/\N ρ h
 | .ret,a,w=>∃ρ h,oE d n a ρ/\Is w h/\bO w0 w/\gB ds ρ0 ρ/\R ρ h
 | .exit i,a,w=>∃ρ h,oE d n a ρ/\Is w h/\bO w0 w/\gB ds ρ0 ρ/\X i ρ h
 |_,_,_=>False
theorem jo{P:Program}{r:Option Nat}{d:List Deferred}{n:Nat}{w0:World}:∀(c:Code),kg c=true->∀(ds:List Nat),(∀t∈aL c,t<n/\ds.contains t=true)->∀(N R:EH) (X:Nat->EH) (ρ0 ρ:Env) (h:Hp) (a:Act) (w:World),
 avc P c N R X ρ h->oE d n a ρ->Is w h->bO w0 w->gB ds ρ0 ρ->c.wpIn (FW r) 0 P (WN d n ds ρ0 w0 N R X) a w:=by
 intro c
 induction c with
 |skip=>intro _ ds _ N R X ρ0 ρ h a w g j k m o;exact wpIn_skip ⟨ρ,h,j,k,m,o,g⟩
 |region id ops draw=>
  intro p ds hd N R X ρ0 ρ h a w g j k m o;have H:=uo (l:=ops.toList) hd;cases draw with
  |true=>cases p
  |false=>exact wpIn_region_list (oF (r:=r) (d:=d) (n:=n) (ds:=ds) (ρ0:=ρ0) (w0:=w0) (λI J f A s u v z K=>⟨f,A,s,v,z,u,K⟩) ops.toList H ρ h a w g j o k m)
 |seq x y B C=>
  intro p ds hd N R X ρ0 ρ h a w g j k m o;simp only[kg,Z8]at p;refine wpIn_seq (wpIn_mono (B p.1 ds (λt E=>hd t (by simp[aL,E])) (λf A=>avc P y N R X f A) R X ρ0 ρ h a w g j k m o) (λe I J F=>?_));cases e with
  |normal=>
   obtain⟨f,A,s,v,z,u,K⟩:=F;exact C p.2 ds (λt E=>hd t (by simp[aL,E])) N R X ρ0 f A I J K s v z u
  |_=>exact F
 |cond t x y B C=>
  intro p ds hd N R X ρ0 ρ h a w g j k m o;simp only[kg,Z8]at p;unfold avc at g;split at g
  ·rename_i q F;refine wpIn_cond_split (t:=q) (by rw[j.eval,F]) (λe=>?_) (λe=>?_)
   ·exact B p.1 ds (λt E=>hd t (by simp[aL,E])) N R X ρ0 ρ h a w (g.1 e) j k m o
   ·exact C p.2 ds (λt E=>hd t (by simp[aL,E])) N R X ρ0 ρ h a w (g.2 e) j k m o
  ·exact g.elim
 |block id x M=>
  intro p ds hd N R X ρ0 ρ h a w g j k m o;refine wpIn_block (wpIn_mono (M p ds hd N R (λi f A=>if i=id then N f A else X i f A) ρ0 ρ h a w g j k m o) (λe I J F=>?_));cases e with
  |exit i=>
   obtain⟨f,A,s,v,z,u,G⟩:=F;simp only[Exit.inBlock];split
   ·rename_i e;rw[if_pos e]at G;exact⟨f,A,s,v,z,u,G⟩
   ·rename_i e;rw[if_neg e]at G;exact⟨f,A,s,v,z,u,G⟩
  |_=>exact F
 |exit i=>intro _ ds _ N R X ρ0 ρ h a w g j k m o;exact wpIn_exit ⟨ρ,h,j,k,m,o,g⟩
 |ret=>intro _ ds _ N R X ρ0 ρ h a w g j k m o;exact wpIn_ret ⟨ρ,h,j,k,m,o,g⟩
 |_=>intro p;cases p
def eH(rec:Loop)(st:LoopState)(a:Option Code):Loop:={rec with state:=st,pending:=a}
def lG(L D:Nat)(rec:Loop)(st:LoopState)(a:Option Code):Hp:=⟨λB=>if B=L then some (.loop (eH rec st a))else if B=D then some (.deferred (some []))else none,0⟩
theorem tM(L D:Nat)(rec:Loop)(st:LoopState)(a:Option Code):(lG L D rec st a).f L=some (.loop (eH rec st a)):=if_pos rfl
theorem tN{L D:Nat}(h:D≠L)(rec:Loop)(st:LoopState)(a:Option Code):(lG L D rec st a).f D=some (.deferred (some [])):=(if_neg h).trans (if_pos rfl)
theorem Bp{L D B:Nat}(a:B≠L)(c:B≠D)(rec:Loop)(st:LoopState)(d:Option Code):(lG L D rec st d).f B=none:=(if_neg a).trans (if_neg c)
def dp(H:AH):Prop:=∀b o,H.get b=some o->o.own=true
def RdK(L D b:Nat)(rec:Loop)(σ:AE)(ρ:Env)(H:AH)(n:Nat)(κ:PK)(st:LoopState)(c:Option Code)(e:AH)(f:Nat):Prop:=
 ∃a d,Cov 0 σ e f (σ,a,d)/\dp a/\κ (.bool c.isNone) (H.set (some (.sep (DS (lG L D rec st c) σ ρ a d))) aa b) n
def Uq(L D b t:Nat)(ca cb:Code)(rec:Loop)(σ:AE)(ρ:Env)(call cd:CP)(args:List AV)(H:AH)(n:Nat)(κ:PK):Prop:=
 ∃c d x,H.get b=some (.sep (DS (lG L D rec .ready none) σ ρ c d))/\args=[x]/\(∀(j k:Ph) (v:Value),VR j x v->VR k x v)/\dp c/\
  jF d cd [] ca call (cW σ (some t) x) c d (λe g h=>dp g/\jF h cd [] cb call e g h
   (λ_ a f=>dp a/\RdK L D b rec σ ρ H n κ .ready none a f)
   (λi _ a f=>dp a/\RdK L D b rec σ ρ H n κ .done (some (.exit i)) a f) (λ_ _ _=>False)) (λ_ _ _ _=>False) (λ_ _ _=>False)
theorem Is.putObj{w:World}{h:Hp}(hi:Is w h){L:Nat}{o o':Obj}(e:h.f L=some o):Is (w.putObj L o') (h.put L o'):=
 hi.set e (by simp) (World.putObj_heap_same (by rw[hi.1];exact hi.lt e)) λx a=>World.putObj_heap_other a
theorem bO.putObj(w:World)(L:Nat)(o:Obj):bO w (w.putObj L o):=⟨rfl,rfl,rfl⟩
section
variable {L D b t:Nat} {rec:Loop} {σ:AE} {ρ:Env} {call cd:CP}
theorem QU (N:oi call) (hcd:oi cd) (hcs:uz cd) (O:D≠L) (hps:rec.params= #[t]) (hcA:kg rec.assign=true) (hcB:kg rec.body=true) (hdA:mj [] rec.assign=true) (hdB:mj [] rec.body=true)
 (hdd:((aL rec.assign).all λt=>decide (t<rec.tmps.size))=true) (hde:((aL rec.body).all λt=>decide (t<rec.tmps.size))=true) (Y:t<rec.tmps.size) (hρ:∀t,rec.tmps.getD t undef=ρ t):PC L (Uq L D b t rec.assign rec.body rec σ ρ call cd):=by
 intro args H n κ hs E h0 h vs K hr Z hk w hi;obtain⟨H1,n1,x,hb,rfl,hfl,hown,hs⟩:=hs;obtain⟨v,us,qv,ev,ru⟩:=Z.cons_inv;have ru:=ru.aQ;subst ru;have hvs:vs= #[v]:=q3g qv;subst hvs;have hw:=hi.wf;obtain⟨⟨hex,J,g,hgn,m,hy,U,hf'⟩,hcond⟩:=hr.sep b _ hb;have gL:=(U.base L _ (tM L D rec .ready none)).2;have gD:=(U.base D _ (tN O rec .ready none)).2;have r1:=U.lift hw hgn m hy;have bL:(o9 (E.s b) (lG L D rec .ready none) h).f L=some (.loop (eH rec .ready none)):=(kE λk=>by rw[tM]at k;cases k.2).trans (m _ _ gL).2;have bD:(o9 (E.s b) (lG L D rec .ready none) h).f D=some (.deferred (some [])):=(kE λk=>by rw[tN O]at k;cases k.2).trans (m _ _ gD).2;have hLw:w.heap[L]?=some (.loop (eH rec .ready none)):=hi.2 _ _ (m _ _ gL).2;have hx:VR J x v:=hfl E J v ev;refine⟨rec.fn,rec.tmps.setIfInBounds t v,rec.assign,rec.body,?_,roundIn_of_wpIn trivial ?_⟩
 ·rw[run_yield hLw (by show 1=rec.params.size;rw[hps];rfl)];simp[eH,hps]
 have rel:oE [] rec.tmps.size {tmps:=rec.tmps.setIfInBounds t v,defers:=[]} (ρ.upd t v):=by
  have:oE [] rec.tmps.size {tmps:=rec.tmps,defers:=[]} ρ:=⟨rfl,rfl,hρ⟩;exact this.put (d:=some t) (λs e=>by injection e with e;subst e;exact Y) v
 have dsA:∀t∈aL rec.assign,t<rec.tmps.size/\(aL rec.assign).contains t=true:=λt Y=>⟨by simpa using q0h.1 hdd t Y,by simpa using Y⟩
 have dsB:∀t∈aL rec.body,t<rec.tmps.size/\(aL rec.body).contains t=true:=λt Y=>⟨by simpa using q0h.1 hde t Y,by simpa using Y⟩
 have fin:∀(st:LoopState) (C:Option Code) (a c:Ph) (l:AH) (u:Nat) (A:Env) (j:Hp) (w3:World),PLe J a->PLe a c->HR c l u ((o9 (E.s b) (lG L D rec .ready none) h).put L (.loop (eH rec .busy none))) j->dp l->RdK L D b rec σ ρ H n κ st C l u->Is w3 j->bO w w3->
  ∃v' h',Ending.returned (.bool C.isNone)= .returned v'/\Is (w3.putObj L (.loop (eH rec st C))) h'/\bO w (w3.putObj L (.loop (eH rec st C)))/\K v' h':=by
  intro st C a c l u A j w3 W T r3 ho3 ⟨H4,n4,hc,Q,hκ⟩ F R;have y3:∀q,¬c.y q:=λq I=>hy q ((W.trans T).y q I)
  obtain⟨χ,⟨_,_,cy⟩,G,f4⟩:=hc c _ j ρ r3 (hf'.mono (W.trans T));have y4:∀q,¬χ.y q:=λq I=>y3 q (cy q I)
  have G:HR χ H4 n4 ((o9 (E.s b) (lG L D rec .ready none) h).put L (.loop (eH rec .busy none))) j:=G;have M:=(G.base L _ (bY _ _ _)).2;have r5:=G.Bo (o':= .loop (eH rec st C)) (bY _ _ _) Q y4;refine⟨_,j.put L (.loop (eH rec st C)),rfl,F.putObj M,R.trans (bO.putObj _ _ _),?_⟩
  let S':Nat->Prop:=λB=>(∃o,(j.put L (.loop (eH rec st C))).f B=some o)/\(E.s b B∨h.f B=none)
  have hS:∀B,S' B->B<j.n/\(E.s b B∨h.f B=none):=λB ⟨⟨o,ho⟩,k⟩=>⟨by
   have:=(F.putObj (o':= .loop (eH rec st C)) M).lt ho;exact this,k⟩
  have hn3:h.n<=j.n:=G.size
  have bz:∀B o,h.f B=some o->¬E.s b B->(j.put L (.loop (eH rec st C))).f B=some o:=λB o e k=>by
   have kL:B≠L:=λq=>by subst q;exact k (m _ _ gL).1
   rw[aW _ _ _ _ kL];refine(G.base B o ?_).2;rw[aW _ _ _ _ kL];exact(kE λq=>k q.1).trans e
  have kD:(j.put L (.loop (eH rec st C))).f D=some (.deferred (some [])):=by
   rw[aW _ _ _ _ O];exact(G.base D _ (by rw[aW _ _ _ _ O];exact bD)).2
  have hQ:(DS (lG L D rec st C) σ ρ H4 n4).P E.z S' (j.put L (.loop (eH rec st C))):=by
   refine⟨λB hB=>hB.1,χ,inS S' (j.put L (.loop (eH rec st C))),Z3 _,λB o e=>?_,y4,r5.cut Q y4 (λB o e k=>⟨⟨o,e⟩,?_⟩) (λB o e=>?_) (Z9 _),f4⟩
   ·by_cases k:S' B
    ·have:(inS S' (j.put L (.loop (eH rec st C)))).f B=(j.put L (.loop (eH rec st C))).f B:=if_pos k;rw[this]at e;exact⟨k,e⟩
    ·have:(inS S' (j.put L (.loop (eH rec st C)))).f B=none:=if_neg k;rw[this]at e;cases e
   ·have kL:B≠L:=λq=>by subst q;rw[bY]at k;cases k
    rw[aW _ _ _ _ kL,aW _ _ _ _ kL]at k;by_cases q:E.s b B
    ·exact .inl q
    ·rw[kE λq'=>q q'.1]at k;exact .inr k
   ·by_cases kL:B=L
    ·subst kL;rw[tM]at e;refine⟨⟨⟨_,bY _ _ _⟩,.inl (m _ _ gL).1⟩,by rw[bY];exact e,by rw[bY];simp⟩
    ·by_cases kB:B=D
     ·subst kB;rw[tN O]at e;refine⟨⟨⟨_,kD⟩,.inl (m _ _ gD).1⟩,kD.trans e,by rw[aW _ _ _ _ kL,aW _ _ _ _ kL,bD];simp⟩
     ·rw[Bp kL kB]at e;cases e
  exact hk ⟨E.f,E.z,E.y,λx=>if x=b then S' else E.s x⟩ _ _ _ _ _ ⟨λ_ _ h=>h,λ_ h=>h,λ_ h=>h⟩ (hr.SH (g:=j.put L (.loop (eH rec st C))) hb hw hn3 bz hS hQ) (.bool _) hκ
 have ha:=jG N hcd hcs (D:=[]) (p:=n1) (φ0:=J) (λb q e=>(U.dom b q e).1) rec.assign hdA J _ H1 n1 _ _ _ (ρ.upd t v) h
  (λV h2=>∃a S H2 X,PLe J a/\HR a H2 X (o9 (E.s b) (lG L D rec .ready none) h) h2/\FR a S V/\dp H2/\jF X cd [] rec.body call S H2 X
   (λ_ l u=>dp l/\RdK L D b rec σ ρ H n κ .ready none l u)
   (λi _ l u=>dp l/\RdK L D b rec σ ρ H n κ .done (some (.exit i)) l u) (λ_ _ _=>False)) (λ_ _=>False) (λ_ _ _=>False) (PLe.refl _) r1 (hf'.put (some t) hx) hs
  (λψ S H2 X V h2 W r2 f2 ⟨o2,k⟩=>⟨ψ,S,H2,X,W,r2,f2,o2,k⟩) (λ_ _ _ _ _ _ _ _ _ k=>k.elim) (λi _ _ _ _ _ _ _ _ _ k=>k.elim)
 refine wpIn_mono (jo (r:=some L) (d:=[]) (w0:=w) rec.assign hcA _ dsA _ _ _ _ _ h _ w ha rel hi (bO.refl w) (λ_ _=>rfl)) λe a1 w1 I=>?_
 cases e with
 |normal=>
  obtain⟨V,h2,rel2,hi2,hs2,_,a,S,H2,X,W,r2,f2,o2,hbody⟩:=I;have hL2:=(r2.base L _ bL).2;refine⟨_,run_beginRound (hi2.2 _ _ hL2) rfl,?_⟩;have y2:∀q,¬a.y q:=λq I=>hy q (W.y q I)
  have r3:=r2.Bo (o':= .loop (eH rec .busy none)) bL o2 y2
  have hb2:=jG N hcd hcs (D:=[]) (p:=X) (φ0:=a) (λb q e=>(r2.dom b q e).1) rec.body hdB a _ H2 X _ _ _ V (h2.put L (.loop (eH rec .busy none)))
   (λA j=>∃c l u,PLe a c/\HR c l u ((o9 (E.s b) (lG L D rec .ready none) h).put L (.loop (eH rec .busy none))) j/\dp l/\RdK L D b rec σ ρ H n κ .ready none l u) (λ_ _=>False)
   (λi A j=>∃c l u,PLe a c/\HR c l u ((o9 (E.s b) (lG L D rec .ready none) h).put L (.loop (eH rec .busy none))) j/\dp l/\RdK L D b rec σ ρ H n κ .done (some (.exit i)) l u) (PLe.refl _) r3 f2 hbody
   (λψ σ3 l u A j T G f3 ⟨o3,k⟩=>⟨ψ,l,u,T,G,o3,k⟩) (λ_ _ _ _ _ _ _ _ _ k=>k.elim) (λi ψ σ3 l u A j T G f3 ⟨o3,k⟩=>⟨ψ,l,u,T,G,o3,k⟩)
  have hs2':=hs2.trans (bO.putObj w1 L (.loop (eH rec .busy none)));refine wpIn_mono (jo (r:=some L) (d:=[]) (w0:=w) rec.body hcB _ dsB _ _ _ _ _ _ _ _ hb2 rel2 (hi2.putObj hL2) hs2' (λ_ _=>rfl)) λe a2 w2 I=>?_
  cases e with
  |normal=>
   obtain⟨A,j,_,F,R,_,c,l,u,T,G,o3,k⟩:=I;have M:=(G.base L _ (bY _ _ _)).2;exact⟨_,_,run_endRound none (F.2 _ _ M),fin .ready none a c l u A j w2 W T G o3 k F R⟩
  |exit i=>
   obtain⟨A,j,_,F,R,_,c,l,u,T,G,o3,k⟩:=I;have M:=(G.base L _ (bY _ _ _)).2;exact⟨_,_,run_endRound (some (.exit i)) (F.2 _ _ M),fin .done (some (.exit i)) a c l u A j w2 W T G o3 k F R⟩
  |ret=>obtain⟨_,_,_,_,_,_,k⟩:=I;exact k.elim
  |_=>exact I.elim
 |ret=>obtain⟨_,_,_,_,_,_,k⟩:=I;exact k.elim
 |exit i=>obtain⟨_,_,_,_,_,_,k⟩:=I;exact k.elim
 |_=>exact I.elim
end
section
variable {φ:Ph} {H:AH} {n:Nat} {h0 h g:Hp}
theorem HR.ext(a:HR φ H n h0 h)(hn:h.n<=g.n)(j:∀B o,h.f B=some o->g.f B=some o):HR φ H n h0 g:=by
 refine⟨λx q b=>⟨(a.dom x q b).1,q1j (a.dom x q b).2 hn⟩,λx o b=>?_,a.inj,λB o e=>⟨q1j (a.base B o e).1 hn,j B o (a.base B o e).2⟩,q0d a.size hn,λq v=>?_,λx Q b=>?_⟩
 ·rcases a.live x o b with k|⟨p,w,d,i,m,y⟩
  ·exact .inl k
  ·exact .inr ⟨p,w,d,i,j _ _ m,y⟩
 ·obtain⟨⟨d,i⟩,m⟩:=a.frz q v;obtain⟨u,c,t,fz,l,r⟩:=d;exact⟨⟨⟨⟨q1j u.1 hn,u.2⟩,c,t,fz,j _ _ l,r⟩,i⟩,m⟩
 ·obtain⟨d,i⟩:=a.sep x Q b;refine⟨Q.loc _ _ h _ hn (λB s=>?_) d,λB s=>?_⟩
  ·obtain⟨o,ho⟩:=Q.ex _ _ _ B d s;rw[ho,j _ _ ho]
  ·obtain⟨l,r⟩:=i B s;exact⟨⟨q1j l.1 hn,l.2⟩,r⟩
end
def SI:AV->Bool
 | .ptr _ _=>true
 |a=>flat.flat1 a
theorem NX{φ ψ:Ph}{a:AV}{v:Value}(c:SI a=true)(d:∀b p,φ b=some p->ψ b=some p)(h:VR φ a v):VR ψ a v:=by
 cases a with
 |ptr b o=>
  simp only[VR]at h⊢;obtain⟨p,e,f⟩:=h;exact⟨p,d _ _ e,f⟩
 |_=>exact bh c h
structure RfC where
 A:Code
 B:Code
 C:Code
 E:Code
 id:Nat
 gt:Nat
 t:Nat
 ca:Code
 cb:Code
def RfC.code(r:RfC):Code:= .seq r.A (.seq r.B (.seq (.seq r.C (.block r.id (.rangeFunc (.tmp r.gt) ⟨[r.t]⟩ r.ca r.cb))) r.E))
def rfC:Code->Option RfC
 | .seq A (.seq B (.seq (.seq C (.block id (.rangeFunc (.tmp gt) ⟨[t]⟩ ca cb))) E))=>some ⟨A,B,C,E,id,gt,t,ca,cb⟩
 |_=>none
theorem NY{c:Code}{r:RfC}(h:rfC c=some r):c=r.code:=by
 unfold rfC at h;split at h
 ·injection h with h;subst h;rfl
 ·cases h
def RfC.ok (r:RfC) (m:Nat):Bool:=kg r.A&&kg r.B&&kg r.C&&kg r.E&&kg r.ca&&kg r.cb&&mj [] r.ca&&mj [] r.cb&&mj [] r.E&&mj [] (.seq r.A (.seq r.B r.C))&&
 ((aL r.A).all λt=>decide (t<m))&&((aL r.B).all λt=>decide (t<m))&&((aL r.C).all λt=>decide (t<m))&&((aL r.E).all λt=>decide (t<m))&&((aL r.ca).all λt=>decide (t<m))&&((aL r.cb).all λt=>decide (t<m))&&decide (r.t<m)
def RfR(b:Nat)(κ:PK)(H:AH)(n:Nat)(a:AH)(v:AV):Prop:=
 ((∀(φ d:Ph) (u:Value),VR φ v u->VR d v u)/\κ v (H.set none aa b) n)∨
 ∃c o m k x l z,v= .rw c o m k x/\a.get c=some (.cells l z)/\l.all flat.flat1=true/\κ (.rw n o m k x) ((H.set none aa b).set (some (.cells l z)) aa n) (n+1)
def RfE(L D b:Nat)(r:RfC)(rs:List ResultVar)(rec:Loop)(σ:AE)(i:Env)(call j:CP)(κ:PK)(H:AH)(n:Nat):Prop:=
 ∃st a c d,H.get b=some (.sep (DS (lG L D rec st a) σ i c d))/\st≠ .busy/\(a=none∨a=some (.exit r.id))/\dp c/\
  jF d j [] r.E call σ c d (λ_ _ _=>False) (λ_ _ _ _=>False) λe f _=>dp f/\CI rs e f λk=>RfR b κ H n f (yP k)
def Bq(o:AO):Bool:=match o with
 | .cells l _=>l.all flat.flat1
 |_=>false
def RfS(r:RfC)(m:Nat)(rs:List ResultVar)(call j:CP)(κ:PK)(c:AE)(k:AH)(d:Nat):Prop:=
 d<900000/\∃l first p e f a q s,ai (pa r.gt) c= .fn l first []/\(p.all λt=>SI (ai (pa t) c))=true/\fV e k/\fV f k/\(∀b o,e.get b=some o->Bq o=true/\f.get b=none)/\Cov 0 (lb c p) e d (a,q,s)/\
  ∀(L D:Nat) (rec:Loop) (i:Env),PC L (Uq L D d r.t r.ca r.cb rec a i call j)->
   call l (first++ [.any (.func (.yield L) #[] #[])]) (f.set (some (.sep (DS (lG L D rec .ready none) a i q s))) aa d) (d+1) λ_ u v=>RfE L D d r rs rec a i call j κ u v
def RfG(call a:CP)(f:FuncId)(args:List AV)(H:AH)(n:Nat)(κ:PK):Prop:=match Tryz.prog.funcs[f]? with
 |some fn=>(match fn.body with
  |some c=>(match rfC c with
   |some r=>r.ok fn.ntmps=true/\args.length<=fn.ntmps/\jF n a [] (.seq r.A (.seq r.B r.C)) call (vT args 0 .nil) H n (RfS r fn.ntmps fn.results.toList call a κ) (λ_ _ _ _=>False) (λ_ _ _=>False)
   |none=>False)
  |none=>False)
 |none=>False
theorem xo{φ ψ:Ph}{p:Pl}{o:AO}{ob:Obj}(ho:Bq o=true)(h:OR φ p o ob):OR ψ p o ob:=by
 cases o with
 |cells l z=>
  obtain⟨c,t,fz,d,e,f,j,k,m⟩:=h;refine⟨c,t,fz,d,e,f,j,k,λi a b=>?_⟩;obtain⟨v,q,r⟩:=m i a b;exact⟨v,q,bh (q0h.1 ho a (q0w b)) r⟩
 |_=>cases ho
theorem pb{o:AO}(ho:Bq o=true):o.own=true/\o.JH=none:=by cases o<;>first|exact⟨rfl,rfl⟩|cases ho
theorem HX{H:AH}{v:Option AO}{n x:Nat}{o:AO}(h:(PM.set v aa H n).get x=some o):(x=n/\v=some o)∨(x≠n/\H.get x=some o):=PM.an aa H n x o h
theorem Ur {φ ψ:Ph} {H X:AH} {n n4 b:Nat} {h0 L g h:Hp} {κ:PK} {K:KH} {v:AV} {u:Value} {Q:HP} (t:b<1000000) (M:cD φ h0 κ K) (i:PLe φ ψ) (hr:HR ψ H n h0 g) (hb:H.get b=some (.sep Q)) (hw:Wf g) (N:Wf h) (hn:g.n<=h.n) (hg:∀B o,g.f B=some o->¬ψ.s b B->h.f B=some o)
 {χ:Ph} (O:HR χ X n4 L h) (P:∀B,L.f B=none->(∃o,h.f B=some o)->ψ.s b B∨g.f B=none) (w:VR χ v u) (hs:RfR b κ H n X v):K u h:=by
 let A:Nat->Prop:=λB=>(∃o,h.f B=some o)/\(ψ.s b B∨g.f B=none)
 have st:=hr.SH (Q':=pk []) (S':=A) hb hw hn hg (λB ⟨⟨o,e⟩,k⟩=>⟨N B o e,k⟩) ⟨λB hB=>hB.1,q4x,λc R=>by cases R⟩
 let D:Ph:=⟨ψ.f,ψ.z,ψ.y,λx=>if x=b then A else ψ.s x⟩
 have st:HR D (H.set (some (.sep (pk []))) aa b) n h0 h:=st;have lw:PLe φ D:=⟨i.b,i.z,i.y⟩
 have j:fV (H.set none aa b) (H.set (some (.sep (pk []))) aa b):=λx o O=>by
  rcases HX O with⟨_,q⟩|⟨S,G⟩
  ·cases q
  ·exact PM.aG aa _ _ _ (aI t) S G
 have s0:=st.less j;rcases hs with⟨hf,d⟩|⟨c,o,m,k,x,l,z,rfl,R,hl,d⟩
 ·exact M D _ _ _ _ _ lw s0 (hf χ D u w) d
 ·rcases O.live c _ R with⟨T,E⟩|⟨p,I,T,E,U,c4⟩
  ·have r:(AO.cells l z).void=true:=E;have:=s0.AN (o:= .cells l z) r;refine M D _ _ _ _ _ lw this ?_ d;simp only[VR]at w⊢;rcases w with q|⟨p,a,C,q,_⟩
   ·exact .inl q
   ·rw[T]at q;cases q
  ·have E:L.f p.B=none:=E;have hS:A p.B:=⟨⟨I,U⟩,P p.B E ⟨I,U⟩⟩;have F:(H.set (some (.sep (pk []))) aa b).get b=some (.sep (pk [])):=PM.bN aa _ _ (aI t);obtain⟨k1,k2,k3,k4⟩:=(st.sep b _ F).2 p.B (by show(if b=b then A else ψ.s b) p.B;rw[if_pos rfl];exact hS)
   obtain⟨θ,t1,t2,t3⟩:=s0.Uo (p:=p) (o:= .cells l z) (ob:=I) rfl rfl k1 U (xo hl c4) (λV o' Z J W e3=>k2 V o' Z (j _ _ J) W e3) k3 (λV Y J W=>by
    rcases HX J with⟨_,q⟩|⟨S,G⟩
    ·cases q
    ·exact k4 V Y (j _ _ J) S W)
   refine M θ _ _ _ _ _ (lw.trans t1) t3 ?_ d;simp only[VR]at w⊢;rcases w with q|⟨Z,a,C,q,G⟩
   ·exact .inl q
   ·rw[T]at q;injection q with q;subst q;exact .inr ⟨p,a,C,t2,G⟩
theorem SJ{f:FuncId}{call cd:CP}(hic:bR Tryz.prog f=true)(F:oi call)(hcd:oi cd)(hcs:uz cd):al f (RfG call cd f):=by
 intro args H n κ hs φ h0 h vs K hr hargs hk;unfold RfG at hs;split at hs
 case h_2=>exact hs.elim
 rename_i fn hfn;split at hs
 case h_2=>exact hs.elim
 rename_i c hb;split at hs
 case h_2=>exact hs.elim
 rename_i r hrc;obtain⟨hok,hlen,hs⟩:=hs;have hc:=NY hrc;simp only[RfC.ok,Z8]at hok;obtain⟨⟨⟨⟨⟨⟨⟨⟨⟨⟨⟨⟨⟨⟨⟨⟨cA,cB⟩,cC⟩,cE⟩,cca⟩,ccb⟩,dca⟩,dcb⟩,dE⟩,dP⟩,sA⟩,sB⟩,sC⟩,sE⟩,sca⟩,scb⟩,st⟩:=hok;have st:r.t<fn.ntmps:=by simpa using st
 have X:∀{c:Code},((aL c).all λt=>decide (t<fn.ntmps))=true->∀t∈aL c,t<fn.ntmps/\(aL c).contains t=true:=λj t ht=>⟨by simpa using q0h.1 j t ht,by simpa using ht⟩
 refine⟨hic,λw hi=>(callsIn_wide (n:=0)).1 (callsIn_of_wp_marks hfn hb trivial ?_)⟩;have hal:=hargs.length;have hsz:vs.size<=fn.ntmps:=by simpa[hal]using hlen
 have hpre:=jG F hcd hcs (D:=[]) (p:=n) (φ0:=φ) (λb q e=>(hr.dom b q e).1) (.seq r.A (.seq r.B r.C)) dP φ _ H n _ _ _ (iO vs.toList 0) h
  (λρ1 h1=>∃l Y H1 J,PLe φ l/\HR l H1 J h0 h1/\FR l Y ρ1/\RfS r fn.ntmps fn.results.toList call cd κ Y H1 J) (λ_ _=>False) (λ_ _ _=>False) (PLe.refl _) hr (CD hargs) hs
  (λZ Y H1 J ρ1 h1 l1 T f1 k=>⟨Z,Y,H1,J,l1,T,f1,k⟩) (λ_ _ _ _ _ _ _ _ _ k=>k.elim) (λi _ _ _ _ _ _ _ _ _ k=>k.elim)
 subst hc;have rel0:oE [] fn.ntmps ⟨vs++Array.replicate (fn.ntmps-vs.size) undef,[]⟩ (iO vs.toList 0):=yL hsz;refine wpIn_seq (wpIn_mono (jo (r:=none) (d:=[]) (w0:=w) r.A cA _ (X sA) _ _ _ _ _ h _ w hpre rel0 hi (bO.refl w) (λ_ _=>rfl)) λe a1 w1 j=>?_);cases e with
 |ret=>obtain⟨_,_,_,_,_,_,k⟩:=j;exact k.elim
 |exit i=>obtain⟨_,_,_,_,_,_,k⟩:=j;exact k.elim
 |goto i=>exact j.elim
 |panic i=>exact j.elim
 |outgrown=>exact j.elim
 |normal=>
 obtain⟨ρ1,h1,rel1,hi1,hs1,_,hB⟩:=j;refine wpIn_seq (wpIn_mono (jo (r:=none) (d:=[]) (w0:=w) r.B cB _ (X sB) _ _ _ _ _ h1 _ w1 hB rel1 hi1 hs1 (λ_ _=>rfl)) λe a2 w2 j=>?_);cases e with
 |ret=>obtain⟨_,_,_,_,_,_,k⟩:=j;exact k.elim
 |exit i=>obtain⟨_,_,_,_,_,_,k⟩:=j;exact k.elim
 |goto i=>exact j.elim
 |panic i=>exact j.elim
 |outgrown=>exact j.elim
 |normal=>
 obtain⟨ρ2,h2,rel2,hi2,hs2,_,hC⟩:=j;refine wpIn_seq (wpIn_seq (wpIn_mono (jo (r:=none) (d:=[]) (w0:=w) r.C cC _ (X sC) _ _ _ _ _ h2 _ w2 hC rel2 hi2 hs2 (λ_ _=>rfl)) λe a3 w3 j=>?_));cases e with
 |ret=>obtain⟨_,_,_,_,_,_,k⟩:=j;exact k.elim
 |exit i=>obtain⟨_,_,_,_,_,_,k⟩:=j;exact k.elim
 |goto i=>exact j.elim
 |panic i=>exact j.elim
 |outgrown=>exact j.elim
 |normal=>
 obtain⟨G,m,M,hi3,hs3,_,l,Y,H1,J,l1,T,f1,hnb,gf,first,ts,Hi,He,σj,Hj,nj,hgt,hts,U,hge,hio,hcov,hS⟩:=j;refine wpIn_block (wpIn_rangeFunc λgg hgg=>?_);have e3:=hi3.1;obtain⟨D,hD⟩:∃D,D=w3.heap.size:=⟨_,rfl⟩;obtain⟨L,hL⟩:∃L,L=w3.heap.size+1:=⟨_,rfl⟩;have hDL:D≠L:=by omega
 let a:Loop:={state:= .ready,pending:=none,fn:=gg,tmps:=a3.tmps,params:=⟨[r.t]⟩,assign:=r.ca,body:=r.cb,defers:=w3.heap.size}
 let I:Hp:=(((m.put m.n (.deferred (some []))).to (m.n+1)).put (m.n+1) (.loop a)).to (m.n+2)
 let w4:World:=(w3.alloc (.deferred (some []))).alloc (.loop a)
 have hi4:Is w4 I:=(hi3.push _).push _;have hs4:bO w w4:=hs3.trans ((bO.push _ _).trans (bO.push _ _))
 have h4L:I.f L=some (.loop a):=by
  rw[show L=m.n+1 from by omega];exact bY _ _ _
 have h4D:I.f D=some (.deferred (some [])):=by
  rw[show D=m.n from by omega];show((m.put m.n (.deferred (some []))).put (m.n+1) (.loop a)).f m.n=_;rw[aW _ _ _ _ (by omega)];exact bY _ _ _
 have h4o:∀B o,m.f B=some o->I.f B=some o:=λB o e=>by
  have:=hi3.lt e;show((m.put m.n (.deferred (some []))).put (m.n+1) (.loop a)).f B=_;rw[aW _ _ _ _ (by omega),aW _ _ _ _ (by omega)];exact e
 have hρ:∀t,a.tmps.getD t undef=G t:=M.2.2;have hrs:a.tmps.size=fn.ntmps:=M.2.1;have hY:PC L (Uq L D J r.t r.ca r.cb a σj G call cd):=QU (rec:=a) F hcd hcs hDL rfl cca ccb dca dcb (by rw[hrs];exact sca) (by rw[hrs];exact scb) (by rw[hrs];exact st) hρ
 let N:=lG L D a .ready none
 have hb0s:∀B o,N.f B=some o->(B=L∨B=D)/\I.f B=some o:=λB o e=>by
  by_cases kL:B=L
  ·subst kL;rw[show N.f B=_ from tM _ _ _ _ _]at e;exact⟨.inl rfl,h4L.trans e⟩
  ·by_cases kD:B=D
   ·subst kD;rw[show N.f B=_ from tN hDL _ _ _]at e;exact⟨.inr rfl,h4D.trans e⟩
   ·rw[show N.f B=none from Bp kL kD _ _ _]at e;cases e
 have hb0n:∀B o,m.f B=some o->N.f B=none:=λB o e=>by
  have:=hi3.lt e;exact Bp (by omega) (by omega) _ _ _
 let S:Nat->Prop:=λB=>(∃b o p ob,Hi.get b=some o/\l b=some p/\p.B=B/\m.f B=some ob)∨B=L∨B=D
 let φi:Ph:=⟨l.f,λ_=>False,λ_=>False,λ_ _=>False⟩
 have hex:∀B,S B->∃o,I.f B=some o:=λB hB=>by
  rcases hB with⟨_,_,_,ob,_,_,_,e⟩|rfl|rfl
  ·exact⟨ob,h4o _ _ e⟩
  ·exact⟨_,h4L⟩
  ·exact⟨_,h4D⟩
 have is:∀B,S B->(inS S I).f B=I.f B:=λB e=>if_pos e
 have n34:m.n<=I.n:=by show m.n<=m.n+2;omega
 have hii:HR φi Hi J N (inS S I):=by
  refine⟨λx q hx=>⟨(T.dom x q hx).1,q1j (T.dom x q hx).2 n34⟩,λx o hx=>?_,λx y o o' q q' hx hy w1 w2=>T.inj x y o o' q q' (U _ _ hx) (U _ _ hy) w1 w2,λB o e=>⟨hi4.lt (hb0s B o e).2,(is B (.inr (hb0s B o e).1)).trans (hb0s B o e).2⟩,Z9 _,λq j=>j.elim,λx Q hx=>?_⟩
  ·rcases T.live x o (U _ _ hx)with k|⟨p,ob,k1,k2,k3,k4⟩
   ·exact .inl k
   ·refine .inr ⟨p,ob,k1,?_,(is _ (.inl ⟨x,o,p,ob,hx,k1,rfl,k3⟩)).trans (h4o _ _ k3),xo (hio x o hx).1 k4⟩;rw[AO.bG (pb (hio x o hx).1).1];exact hb0n _ _ k3
  ·have:=(pb (hio x _ hx).1).2;cases this
 have fi:FR φi (lb Y ts) G:=lg λt ht=>NX (φ:=l) (ψ:=φi) (q0h.1 hts t ht) (λ_ _ h=>h) (f1.at t)
 have sub4:∀B o,(inS S I).f B=some o->S B/\I.f B=some o:=λB o e=>by
  by_cases k:S B
  ·rw[is B k]at e;exact⟨k,e⟩
  ·have:(inS S I).f B=none:=if_neg k;rw[this]at e;cases e
 obtain⟨χ,⟨_,_,cy⟩,hij,fj⟩:=hcov φi N (inS S I) G hii fi;have hP:(DS N σj G Hj nj).P l.z S I:=⟨hex,χ,inS S I,Z3 _,sub4,λq j=>cy q j,hij,fj⟩;have r4:HR l He J h0 I:=(T.less hge).ext n34 h4o;have big:∀B,B=L∨B=D->m.n<=B/\B<I.n:=λB k=>⟨by omega,by show B<m.n+2;omega⟩
 obtain⟨le4,r5⟩:=r4.qd hP λB hB=>by
  rcases hB with⟨b,o,p,ob,k1,k2,k3,k4⟩|k
  ·have hw:=(pb (hio b o k1).1).1;refine⟨⟨q1j (hi3.lt k4) n34,?_⟩,λb' o' p' e1 e2 e3 e4=>?_,λq j e=>?_,λb' Q' e1 e2=>?_⟩
   ·rcases T.live b o (U _ _ k1)with⟨k,_⟩|⟨p',ob',k5,k6,_,_⟩
    ·rw[k]at k2;cases k2
    ·rw[k5]at k2;injection k2 with k2;subst k2;rw[AO.bG hw,k3]at k6;exact k6
   ·have:=T.inj b' b o' o p' p (hge _ _ e1) (U _ _ k1) e2 hw e3 k2 (e4.trans k3.symm);subst this;rw[(hio b' o k1).2]at e1;cases e1
   ·exact(T.frz q j).2 b o p (U _ _ k1) hw k2 (k3.trans e.symm)
   ·exact((T.sep b' Q' (hge _ _ e1)).2 B e2).2.1 b o p (U _ _ k1) hw k2 k3
  ·obtain⟨b1,b2⟩:=big B k;refine⟨⟨b2,?_⟩,λb' o' p' e1 e2 e3 e4=>?_,λq j e=>?_,λb' Q' e1 e2=>?_⟩
   ·cases e:h0.f B with
    |none=>rfl
    |some o=>have:=(T.base B o e).1;omega
   ·have:=(T.dom b' p' e3).2;omega
   ·have:=(T.frz q j).1.1.1.1;omega
   ·have:=((T.sep b' Q' (hge _ _ e1)).2 B e2).1.1;omega
 have hgv:=f1.at r.gt;rw[hgt]at hgv;obtain⟨xs,cs,hv,hx,hcv⟩:=hgv.nu;have hcv:cs= #[]:=q3g hcv.aQ;subst hcv
 have hcf:=F gf _ _ _ _ (hS L D a G hY) _ h0 I (xs++ #[.func (.yield L) #[] #[]]) (λu g=>∃Z H2 n2,PLe ⟨l.f,l.z,l.y,λx=>if x=J then S else l.s x⟩ Z/\HR Z H2 n2 h0 g/\RfE L D J r fn.results.toList a σj G call cd κ H2 n2) r5
  (by rw[q4d];exact(VRs.mono le4 _ _ hx).append (.cons rfl .nil)) λZ v H2 n2 u g le hg hu k=>⟨Z,H2,n2,le,hg,k⟩
 have hev:a3.eval (.tmp r.gt)= .func (.func gf) xs #[]:=by rw[M.eval];exact hv
 refine⟨L,[{target:= .collected w3.heap.size,args:= #[]}],w4,{target:= .fn (.func gf) #[],args:=xs++ #[.func (.yield L) #[] #[]]},w4,gf,xs++ #[.func (.yield L) #[] #[]],w4,?_,?_,λ_ _=>trivial,?_,λq=>Bool.noConfusion q,?_⟩
 ·rw[hL];exact run_enterLoop_outer _ _ _ _ _
 ·simp only[resolve,rangeCall,hev,Deferred.ofValue,Sem.run_pure,List.map_toArray,q1y,List.map_nil];rfl
 ·(try simp only[invoke])
  rw[np hcf.1];simp
 refine callsIn_wide.2 ((hcf.2 w4 hi4).mono λe w5 ⟨v5,g5,he,hi5,hs5,Z,H2,n2,le5,r6,O,pd,Hx,nx,hb2,hst,hpd,hox,hE⟩=>?_);subst he;obtain⟨⟨hex6,φx,g6,hgn6,V,hy6,rx,fx⟩,hc6⟩:=r6.sep J _ hb2;have gL:=V _ _ (rx.base L _ (tM L D a O pd)).2;have gD:=V _ _ (rx.base D _ (tN hDL a O pd)).2
 let R:Obj:= .loop {eH a O pd with state:= .exhausted}
 have r7:=rx.lift hi5.wf hgn6 V hy6;have bL:(o9 (Z.s J) (lG L D a O pd) g5).f L=some (.loop (eH a O pd)):=(kE λk=>by rw[tM]at k;cases k.2).trans gL.2;have bD:(o9 (Z.s J) (lG L D a O pd) g5).f D=some (.deferred (some [])):=(kE λk=>by rw[tN hDL]at k;cases k.2).trans gD.2;have r8:=r7.Bo (o':=R) bL hox hy6;have hi6:Is (w5.putObj L R) (g5.put L R):=hi5.putObj gL.2;have hs6:bO w (w5.putObj L R):=(hs4.trans hs5).trans (bO.putObj _ _ _)
 have hEs:=jG F hcd hcs (D:=[]) (p:=nx) (φ0:=φx) (λb q e=>(rx.dom b q e).1) r.E dE φx _ Hx nx _ _ _ G (g5.put L R)
  (λ_ _=>False) (λρ7 h7=>∃W σ7 H7 n7,PLe φx W/\HR W H7 n7 ((o9 (Z.s J) (lG L D a O pd) g5).put L R) h7/\FR W σ7 ρ7/\dp H7/\CI fn.results.toList σ7 H7 λvs=>RfR J κ H2 n2 H7 (yP vs)) (λ_ _ _=>False) (PLe.refl _) r8 fx hE
  (λ_ _ _ _ _ _ _ _ _ k=>k.elim) (λW σ7 H7 n7 ρ7 h7 l7 r7 f7 ⟨o7,k⟩=>⟨W,σ7,H7,n7,l7,r7,f7,o7,k⟩) (λi _ _ _ _ _ _ _ _ _ k=>k.elim)
 have rel6:oE [{target:= .collected w3.heap.size,args:= #[]}] fn.ntmps {a3 with defers:=[{target:= .collected w3.heap.size,args:= #[]}]++a3.defers} G:=⟨by simp[M.1],M.2⟩
 have tail:r.E.wpIn Fence.wide 0 Tryz.prog (bodyPostM Fence.wide 0 Tryz.prog fn λe w'=>∃v h',e= .returned v/\Is w' h'/\bO w w'/\K v h') {a3 with defers:=[{target:= .collected w3.heap.size,args:= #[]}]++a3.defers} (w5.putObj L R):=by
  refine wpIn_mono (jo (r:=none) (d:=[{target:= .collected w3.heap.size,args:= #[]}]) (w0:=w) r.E cE _ (X sE) _ _ _ _ _ _ _ _ hEs rel6 hi6 hs6 (λ_ _=>rfl)) λe a7 w7 j=>?_
  cases e with
  |normal=>obtain⟨_,_,_,_,_,_,k⟩:=j;exact k.elim
  |exit i=>obtain⟨_,_,_,_,_,_,k⟩:=j;exact k.elim
  |ret=>
   obtain⟨ρ7,h7,rel7,hi7,hs7,_,W,σ7,H7,n7,l7,r9,f7,o7,hres⟩:=j;have y7:∀q,¬W.y q:=λq j=>hy6 q (l7.y q j)
   have bD2:((o9 (Z.s J) (lG L D a O pd) g5).put L R).f D=some (.deferred (some [])):=(aW _ _ _ _ hDL).trans bD;have hD7:=(r9.base D _ bD2).2;have r10:=r9.Bo (o':= .deferred none) bD2 o7 y7;have hi8:Is (w7.putObj D (.deferred none)) (h7.put D (.deferred none)):=hi7.putObj hD7;have hw8:=hi7.2 _ _ hD7;have hrk:uR Tryz.prog fn.results.toList [] ρ7 (h7.put D (.deferred none)) K:=nD r10 f7 _ [] _ hres λws us k hus=> .here (Ur (by omega) hk (l1.trans (le4.trans le5)) r6 hb2 hi5.wf hi8.wf r10.size (λB o e k=>?_) r10 (λB e _=>?_) (by simpa using CE hus) k)
   ·obtain⟨ws,q1,g',q2,q3⟩:=nt rel7.rel hi8.2 fn.results.toList [] hrk;show LeavesInM Fence.wide 0 Tryz.prog fn a7.tmps _ a7.defers .returning w7;rw[rel7.1];refine⟨by simp,.inl ⟨w3.heap.size,w7.putObj D (.deferred none),rfl,hD▸run_takeDeferred hw8,?_⟩⟩;exact⟨_,rG q1,_,g',rfl,hi8.sub q2,hs7.trans (bO.putObj _ _ _),q3⟩
   ·have kL:B≠L:=λq=>k (q▸gL.1)
    have kD:B≠D:=λq=>k (q▸gD.1)
    refine(r10.base B o ?_).2;rw[aW _ _ _ _ kD,aW _ _ _ _ kL,kE λq=>k q.1];exact e
   ·by_cases k:Z.s J B
    ·exact .inl k
    ·have kL:B≠L:=λq=>k (q▸gL.1)
     have kD:B≠D:=λq=>k (q▸gD.1)
     rw[aW _ _ _ _ kD,aW _ _ _ _ kL,kE λq=>k q.1]at e;exact .inr e
  |_=>exact j.elim
 refine⟨pd,_,run_endLoop (hi5.2 _ _ gL.2) hst,?_⟩;rcases hpd with rfl|rfl
 ·exact tail
 ·exact wpIn_exit (by
   show Exit.inBlock r.id _ (.exit r.id) _ _;simp only[Exit.inBlock,if_true];exact tail)
def KRf:FuncId->EP:=ao 119 Bb evP
theorem tO:aS KRf:=ab az TZ
abbrev cRg:CP:=ax KRf 5
theorem HY{t v:Int}:∀(φ ψ:Ph) (u:Value),VR φ (.agg [.si .i64 t,.si .i64 v]) u->VR ψ (.agg [.si .i64 t,.si .i64 v]) u:=λφ ψ u h=>by
 obtain⟨cs,rfl,a⟩:=h.dU;exact .agg (pM rfl a)
def rgI (a b:Int) (O:Smp):AH:=mkH [(3,.cells [.si .i64 a] true),(4,.cells [.si .i64 b] true),(5,.cells [.rw 6 0 O.length 2 0] true),(6,.cells (smp O) true)]
def rgE:AE:=mkE [(4,.ptr 3 0),(5,.ptr 4 0),(7,.ptr 5 0)]
def ecM (S:Sr) (C:Ck5) (Q:HP):AH:=mkH [(0,.cells (c8 S 1 (pts C).length) true),(1,.cells (aZ (pts C)) true),(2,dA S C),(6,.sep Q)]
theorem dQ{l:List (Nat×AO)}(h:(l.all λx=>x.2.own)=true):dp (mkH l):=λb o e=>q0h.1 h _ (cm e)
theorem dp.set{H:AH}{d n:Nat}{o:AO}(h:dp H)(ho:o.own=true):dp (PM.set (some o) d H n):=λb a e=>by
 rcases PM.an d H n b a e with⟨_,q⟩|⟨_,q⟩
 ·injection q with q;subst q;exact ho
 ·exact h b a q
theorem dp.del{H:AH}{d n:Nat}(h:dp H):dp (PM.set none d H n):=λb a e=>by
 rcases PM.an d H n b a e with⟨_,q⟩|⟨_,q⟩
 ·cases q
 ·exact h b a q
theorem HZ {σ:AE} {H:AH} {n k:Nat} {a b:Int} {O:Smp} {h j:List AV} {l:AV} (r:ai (pa 4) σ= .ptr 3 0) (s:ai (pa 5) σ= .ptr 4 0) (t:ai (pa 7) σ= .ptr 5 0) (u:PM.get H 3=some (.cells h true)) (v:h.map mk=[.si .i64 a]) (w:PM.get H 4=some (.cells j true)) (z:j.map mk=[.si .i64 b])
 (A:PM.get H 5=some (.cells [l] true)) (B:ae H 7 (λc=>if c=6 then k else c) l (.rw 6 0 O.length 2 0)) (C:(∃g,PM.get H k=some (.cells g true)/\g.map mk=smp O)∨(O=[]/\n<=k)) (G:k≠3/\k≠4/\k≠5):Cov 0 σ H n (rgE,rgI a b O,7):=by
 refine Cov.ofR (m:=7) (p:=0) (λc=>if c=6 then k else c) (Z9 _) (λb D=>absurd D (q0o b)) (λx d=>?_) (λx d=>?_) (λx d y o e=>?_)
 ·simp only[Z5,Z4,or_false]at d;rcases d with rfl|rfl|rfl
  ·exact ae.ptr (by decide) r
  ·exact ae.ptr (by decide) s
  ·exact ae.ptr (by decide) t
 ·simp only[Z5,Z4,or_false]at d;rcases d with rfl|rfl|rfl|rfl
  ·exact⟨Z0 rfl,.inl ⟨_,u,ak.bu rfl v id⟩⟩
  ·exact⟨Z0 rfl,.inl ⟨_,w,ak.bu rfl z id⟩⟩
  ·refine⟨Z0 rfl,.inl ⟨_,A,ak.cells (Z3 _) id λi I f=>?_⟩⟩
   match i,f with
   |0,f=>injection f with f;subst f;exact⟨_,rfl,B⟩
   |i+1,f=>simp at f
  ·refine⟨Z0 rfl,C.elim (λ⟨g,E,F⟩=> .inl ⟨_,E,ak.bu (ck _) (by rw[F,bM]) id⟩) (λq=> .inr ⟨by rw[q.1];rfl,q.2⟩)⟩
 ·simp only[Z5,Z4,or_false]at d o;rcases d with rfl|rfl|rfl|rfl<;>rcases o with rfl|rfl|rfl|rfl<;>simp at e⊢<;>omega
theorem DU{σ:AE}{H:AH}{n:Nat}{S:Sr}{C:Ck5}{Q:HP}(le:List (Nat×AV))(c:∀x∈le,ae H 7 (λb=>b) (ai (pa x.1) σ) x.2)(d:PM.get H 0=some (.cells (c8 S 1 (pts C).length) true))(f:PM.get H 1=some (.cells (aZ (pts C)) true))(g:PM.get H 2=some (dA S C))(h:PM.get H 6=some (.sep Q)):Cov 7 σ H n (mkE le,ecM S C Q,7):=by
 refine Cov.ofR (m:=7) (p:=7) (λb=>b) (Z3 _) (λb i=>rfl) c ?_ (λx a y j e=>e);intro x a;simp only[Z5,Z4,or_false]at a;rcases a with rfl|rfl|rfl|rfl
 ·exact⟨Z0 rfl,.inl ⟨_,d,ak.c8 rfl rfl rfl rfl rfl (ae.rw (Z0 rfl) rfl)⟩⟩
 ·exact⟨Z0 rfl,.inl ⟨_,f,ak.aZ (aB _)⟩⟩
 ·exact⟨Z0 rfl,.inl ⟨_,g,ak.sep _⟩⟩
 ·exact⟨Z0 rfl,.inl ⟨_,h,ak.sep _⟩⟩
def yC(L:Nat):AV:= .any (.func (.yield L) #[] #[])
abbrev lo1(C:Ck5)(L i:Nat):List (Nat×AV):=[(1,yC L),(14,.rw 1 0 (pts C).length 1 0),(15,.si .i64 ((pts C).length:Int)),(16,.si .i64 (i:Int))]
abbrev lo2(C:Ck5)(L i:Nat)(X:Smp)(j:Nat):List (Nat×AV):=[(1,yC L),(14,.rw 1 0 (pts C).length 1 0),(15,.si .i64 ((pts C).length:Int)),(16,.si .i64 (i:Int)),(21,.fr X.length 2 (smp X)),(22,.si .i64 (X.length:Int)),(23,.si .i64 (j:Int))]
theorem H5{H:AH}{σ:AE}{C:Ck5}{L i:Nat}(f:ai (pa 1) σ=yC L)(a:ai (pa 14) σ= .rw 1 0 (pts C).length 1 0)(c:mk (ai (pa 15) σ)= .si .i64 ((pts C).length:Int))(d:mk (ai (pa 16) σ)= .si .i64 (i:Int)):∀x∈lo1 C L i,ae H 7 (λb=>b) (ai (pa x.1) σ) x.2:=λx e=>by
 simp only[Z5,Z4,or_false]at e;rcases e with rfl|rfl|rfl|rfl
 ·show ae H 7 _ (ai (pa 1) σ) (yC L);rw[f];exact λ_ _ _ _ _ h=>h
 ·exact ae.rw (Z0 rfl) a
 ·exact ae.int c
 ·exact ae.int d
theorem Bt{H:AH}{σ:AE}{C:Ck5}{L i j:Nat}{X:Smp}(l:ai (pa 1) σ=yC L)(a:ai (pa 14) σ= .rw 1 0 (pts C).length 1 0)(c:mk (ai (pa 15) σ)= .si .i64 ((pts C).length:Int))(d:mk (ai (pa 16) σ)= .si .i64 (i:Int))(e:ai (pa 21) σ= .fr X.length 2 (smp X))(f:mk (ai (pa 22) σ)= .si .i64 (X.length:Int))(g:mk (ai (pa 23) σ)= .si .i64 (j:Int)):∀x∈lo2 C L i X j,ae H 7 (λb=>b) (ai (pa x.1) σ) x.2:=λx k=>by
 simp only[Z5,Z4,or_false]at k;rcases k with rfl|rfl|rfl|rfl|rfl|rfl|rfl
 ·show ae H 7 _ (ai (pa 1) σ) (yC L);rw[l];exact λ_ _ _ _ _ h=>h
 ·exact ae.rw (Z0 rfl) a
 ·exact ae.int c
 ·exact ae.int d
 ·exact ae.frE e
 ·exact ae.int f
 ·exact ae.int g
def geF(a:Int)(X:Smp):Smp:=X.filter λx=>decide (a<=x.1)
abbrev rgQ (L D:Nat) (rec:Loop) (ρ:Env) (a b:Int) (X:Smp):HP:=DS (lG L D rec .ready none) rgE ρ (rgI a b (geF a X)) 7
theorem pS{S:Sr}{C:Ck5}{i:Nat}(h:i<C.length):dA S C= .sep (pk (chs S.sz (C.take i++(C[i].1,C[i].2)::C.drop (i+1)))):=by
 have:=fv h;unfold dA;rw[this]
def bH(a b:Int)(X:Smp):Smp:=X.filter λx=>decide (a<=x.1)&&decide (x.1<=b)
def RgP(S:Sr)(C:Ck5)(O:Smp):PK:=λu a m=>u= .rw 3 0 O.length 2 0/\a=mkH [(0,.cells (c8 S 1 (pts C).length) true),(1,.cells (aZ (pts C)) true),(2,dA S C),(3,.cells (smp O) true)]/\m=4
theorem SK{H:AH}{n N:Nat}{S:Sr}{C:Ck5}{O X:Smp}(o:3<=N)(h:X=O)(i:PM.get H 0=some (.cells (c8 S 1 (pts C).length) true))(j:PM.get H 1=some (.cells (aZ (pts C)) true))(k:PM.get H 2=some (dA S C))(l:PM.get H N=some (.cells (smp X) true)):∃(d:AV) (f:AH) (m:Nat),Cov 3 (mkE [(0,.rw N 0 X.length 2 0)]) H n (mkE [(0,d)],f,m)/\RgP S C O d f m:=by
 subst h;refine⟨.rw 3 0 X.length 2 0,_,4,?_,rfl,rfl,rfl⟩;refine Cov.ofR (m:=4) (p:=3) (λc=>if c=3 then N else c) (by decide) (λb q=>if_neg (by omega)) (λx a=>?_) (λx a=>?_) (λx a y g e=>?_)
 ·simp only[Z5,Z4,or_false]at a;subst a;exact ae.rw (Z0 rfl) rfl
 ·simp only[Z5,Z4,or_false]at a;rcases a with rfl|rfl|rfl|rfl
  ·exact⟨Z0 rfl,.inl ⟨_,i,ak.c8 rfl rfl rfl rfl rfl (ae.rw (Z0 rfl) rfl)⟩⟩
  ·exact⟨Z0 rfl,.inl ⟨_,j,ak.aZ (aB _)⟩⟩
  ·exact⟨Z0 rfl,.inl ⟨_,k,ak.sep _⟩⟩
  ·exact⟨Z0 rfl,.inl ⟨_,l,ak.bu (ck _) rfl id⟩⟩
 ·simp only[Z5,Z4,or_false]at a g;rcases a with rfl|rfl|rfl|rfl<;>rcases g with rfl|rfl|rfl|rfl<;>simp at e⊢<;>omega
theorem YC:RTy 52 52 2 16:=⟨_,_,_,rfl,rfl,(λq h=>by cases h),rfl,rfl,rfl,rfl,by decide,by decide⟩
theorem H6{a b:Int}{X:Smp}(h:∀x∈X,x.1<=b):geF a X=bH a b X:=by
 refine List.filter_congr λx c=>?_
 have:=h x c;simp[this]
theorem F4{a b:Int}{X Y:Smp}{x:Int×Int}(d:Up (X++x::Y))(h:∀y∈X,y.1<=b)(f:b<x.1):geF a X=bH a b (X++x::Y):=by
 unfold bH;rw[q2n,H6 h]
 have:(x::Y).filter (λy=>decide (a<=y.1)&&decide (y.1<=b))=[]:=List.filter_eq_nil_iff.2 λy c=>by
  have e:=(List.pairwise_append.1 d).2.1
  have:x.1<=y.1:=by
   rcases Z5.1 c with rfl|c
   ·exact Int.le_refl _
   ·exact Int.le_of_lt (List.rel_of_pairwise_cons e c)
  simp only[Z8,decide_eq_true_eq];omega
 rw[this,q1e];rfl
theorem xp{C:Ck5}{i:Nat}(h:i<C.length):ah (C.take (i+1))=ah (C.take i)++C[i].2:=by
 rw[q0c h,jn];congr 1;simp[ah,cnt]
theorem DV{C:Ck5}{i j:Nat}(h:i<C.length)(a:j<C[i].2.length):ah C=(ah (C.take i)++C[i].2.take j)++C[i].2[j]::(C[i].2.drop (j+1)++ah (C.drop (i+1))):=by
 have b:=fv h;have c:C[i].2=C[i].2.take j++C[i].2[j]::C[i].2.drop (j+1):=by rw[<-q0t a,q1q]
 have d:ah C=ah (C.take i)++(C[i].2++ah (C.drop (i+1))):=by
  have:=congrArg ah b;rw[<-this,jn,bS]
 rw[d];have e:C[i].2++ah (C.drop (i+1))=(C[i].2.take j++C[i].2[j]::C[i].2.drop (j+1))++ah (C.drop (i+1)):=by rw[<-c]
 rw[e];simp only[q1a,q1w]
theorem KA(S:Sr)(C:Ck5)(a b:Int)(p:Okc S C)(F:Up (ah C))(O:(ah C).length<=100000):gi (RfG cRg (uw KRf) 21) [.ptr 0 0,.si .i64 a,.si .i64 b] (mkH (bE (iT S (pts C) C) 0)) 3 (RgP S C (bH a b (ah C))):=by
 have P:=p.few;have G:=p.lo;show RfG cRg _ _ _ _ _ _
 conv=>whnf
 refine⟨by kernel_rfl,Z0 rfl,?_⟩
 conv=>whnf
 refine⟨by decide,62,[.ptr 0 0],[4,5,7],mkH [(3,.cells [.si .i64 a] true),(4,.cells [.si .i64 b] true),(5,.cells [.nsl] true)],mkH [(0,.cells (c8 S 1 (pts C).length) true),(1,.cells (aZ (pts C)) true),(2,dA S C)],rgE,rgI a b [],7,rfl,rfl,λc o h=>?_,λc o h=>?_,λc o h=>?_,?_,λL D rec r H=>?_⟩
 ·have hm:=cm h;simp only[Z5,Z4,or_false]at hm;rcases hm with hm|hm|hm<;>(injection hm with h1 d;subst h1 d;rfl)
 ·have hm:=cm h;simp only[Z5,Z4,or_false]at hm;rcases hm with hm|hm|hm<;>(injection hm with h1 d;subst h1 d;rfl)
 ·have hm:=cm h;simp only[Z5,Z4,or_false]at hm;rcases hm with hm|hm|hm<;>(injection hm with h1 d;subst h1 d;exact⟨rfl,rfl⟩)
 ·exact HZ (k:=6) rfl rfl rfl rfl rfl rfl rfl rfl (ae.iD rfl) (.inr ⟨rfl,Z3 _⟩) (by decide)
 conv=>whnf
 refine ag.du (λz=>absurd (show(0:Int)<(S.sz:Int) by omega) z) (λ_=>?_)
 conv=>whnf
 refine aN.mk {i:Nat//i<=C.length/\∀x∈ah (C.take i),x.1<=b} 7 (λi=>(mkE (lo1 C L i.val),ecM S C (rgQ L D rec r a b (ah (C.take i.val))))) (λi=>C.length-i.val) ⟨0,Z9 _,λx s=>by cases s⟩ ?_ ?_
 focus
  exact DU _ (H5 rfl rfl rfl rfl) rfl rfl rfl rfl
 intro⟨i,Q,w⟩;have I:IntKind.i64.wrap ((i:Int)+1)=((i+1:Nat):Int):=by rw[aj (by omega) (by omega)];omega
 conv=>whnf
 refine ag.dec (λh=>?_) (λh=>?_)
 focus
  have d:i<C.length:=by
   have h:(i:Int)<((pts C).length:Int):=h;rw[aw]at h;omega
  conv=>whnf
  refine Idx.mk i rfl (by rw[aw];exact d) ?_
  conv=>whnf
  refine aq (dZ d (show 0+i*1=i by omega)) ?_
  conv=>whnf
  refine⟨2,S.sz,C.take i,C.drop (i+1),C[i].1,C[i].2,rfl,congrArg some (pS d),by omega,p.eE _ (q0k d),?_⟩
  conv=>whnf
  refine aN.mk {j:Nat//j<=C[i].2.length/\∀x∈ah (C.take i)++C[i].2.take j,x.1<=b} 7 (λj=>(mkE (lo2 C L i C[i].2 j.val),ecM S C (rgQ L D rec r a b (ah (C.take i)++C[i].2.take j.val)))) (λj=>C[i].2.length-j.val) ⟨0,Z9 _,by simpa using w⟩ ?_ ?_
  focus
   exact DU _ (Bt rfl rfl rfl rfl rfl rfl rfl) rfl rfl rfl (congrArg (λX=>some (AO.sep (rgQ L D rec r a b X))) (q1e _).symm)
  have R:=(p.eE _ (q0k d)).2.2;have y:∀{j:Nat},j=C[i].2.length->ah (C.take i)++C[i].2.take j=ah (C.take (i+1)):=λ{j} e=>by rw[xp d,e,q0u]
  have t:∀{j:Nat},j=C[i].2.length->(∀x∈ah (C.take i)++C[i].2.take j,x.1<=b)->∀x∈ah (C.take (i+1)),x.1<=b:=λ{j} e k=>by rw[<-y e];exact k
  intro⟨j,T,u⟩;have l:IntKind.i64.wrap ((j:Int)+1)=((j+1:Nat):Int):=by rw[aj (by omega) (by omega)];omega
  conv=>whnf
  refine ag.dec (λh=>?_) (λh=>?_)
  focus
   have g:j<C[i].2.length:=by
    have h:(j:Int)<(C[i].2.length:Int):=h;omega
   have f:=DV d g;have v:C[i].2.take (j+1)=C[i].2.take j++ [C[i].2[j]]:=q0c g;have J:b<C[i].2[j].1->geF a (ah (C.take i)++C[i].2.take j)=bH a b (ah C):=λz=>(F4 (f▸F) u z).trans (congrArg (bH a b) f.symm)
   have m:¬b<C[i].2[j].1->∀x∈ah (C.take i)++C[i].2.take (j+1),x.1<=b:=λz x s=>by
    rw[v,<-q1a]at s;rcases q1n.1 s with q|q
    ·exact u x q
    ·rw[q3v.1 q];omega
   have A:a<=C[i].2[j].1->(smp (geF a (ah (C.take i)++C[i].2.take j))++ [AV.si .i64 C[i].2[j].1,AV.si .i64 C[i].2[j].2]).map mk=smp (geF a (ah (C.take i)++C[i].2.take (j+1)))/\(geF a (ah (C.take i)++C[i].2.take j)).length+1=(geF a (ah (C.take i)++C[i].2.take (j+1))).length:=λz=>by
    have:geF a (ah (C.take i)++C[i].2.take (j+1))=geF a (ah (C.take i)++C[i].2.take j)++ [C[i].2[j]]:=by
     rw[v,<-q1a];unfold geF;rw[q2n,List.filter_cons_of_pos (by simpa using z),List.filter_nil]
    rw[this,q0x,bM];exact⟨by rw[sq];rfl,by simp⟩
   have B:¬a<=C[i].2[j].1->geF a (ah (C.take i)++C[i].2.take j)=geF a (ah (C.take i)++C[i].2.take (j+1)):=λz=>by
    rw[v,<-q1a];generalize ah (C.take i)++C[i].2.take j=X;unfold geF;rw[q2n,q4e (by simpa using z),List.filter_nil,q1e]
   have n:((geF a (ah (C.take i)++C[i].2.take j)).length+1)*16<=140737488355328:=by
    have U:(geF a (ah (C.take i)++C[i].2.take j)).length<=(ah (C.take i)++C[i].2.take j).length:=q1h _ _;have K:=congrArg List.length f;rw[Z6,q0a]at K;omega
   conv=>whnf
   refine Idx.mk j rfl g ?_
   conv=>whnf
   refine aq (fG g rfl) ?_
   conv=>whnf
   refine Yld.mk _ H ⟨rgI a b (geF a (ah (C.take i)++C[i].2.take j)),7,_,rfl,rfl,HY,dQ rfl,?_⟩
   conv=>whnf
   refine⟨((dQ rfl).set rfl).set rfl,?_⟩
   conv=>whnf
   refine ag.dec (λz=>?_) (λz=>?_)
   focus
    conv=>whnf
    refine⟨((dQ rfl).set rfl).set rfl,rgI a b (geF a (ah (C.take i)++C[i].2.take j)),7,HZ (k:=6) rfl rfl rfl rfl rfl rfl rfl rfl (ae.rw (Z0 rfl) rfl) (.inl ⟨_,rfl,bM _⟩) (by decide),dQ rfl,?_⟩
    conv=>whnf
    refine⟨.done,some (.exit 0),rgI a b (geF a (ah (C.take i)++C[i].2.take j)),7,rfl,(λq=>by cases q),.inr rfl,dQ rfl,?_⟩
    conv=>whnf
    refine⟨dQ rfl,?_⟩
    conv=>whnf
    exact .inr ⟨6,0,_,2,0,smp _,true,rfl,rfl,ck _,SK (N:=8) (by decide) (J z) rfl rfl rfl rfl⟩
   conv=>whnf
   refine ag.dec (λz2=>?_) (λz2=>?_)
   focus
    conv=>whnf
    refine bF.grow 2 16 1 (geF a (ah (C.take i)++C[i].2.take j)).length [.si .i64 C[i].2[j].1,.si .i64 C[i].2[j].2] (smp (geF a (ah (C.take i)++C[i].2.take j))) _ true YC (.old rfl) rfl rfl (.rw rfl (fA _)) n ?_
    conv=>whnf
    refine⟨?_,rgI a b (geF a (ah (C.take i)++C[i].2.take (j+1))),7,HZ (k:=9) rfl rfl rfl rfl rfl rfl rfl rfl (ae.rw (Z0 rfl) rfl (A z2).2) (.inl ⟨_,rfl,(A z2).1⟩) (by decide),dQ rfl,?_⟩
    ·repeat first|exact dQ rfl|refine dp.set ?_ rfl|refine dp.del ?_
    conv=>whnf
    exact⟨⟨j+1,g,m z⟩,by show C[i].2.length-(j+1)<C[i].2.length-j;omega,DU _ (Bt rfl rfl rfl rfl rfl rfl (congrArg (AV.si .i64) l)) rfl rfl rfl rfl⟩
   conv=>whnf
   refine⟨?_,rgI a b (geF a (ah (C.take i)++C[i].2.take (j+1))),7,HZ (k:=6) rfl rfl rfl rfl rfl rfl rfl rfl (ae.rw (Z0 rfl) rfl (congrArg List.length (B z2))) (.inl ⟨_,rfl,(bM _).trans (congrArg smp (B z2))⟩) (by decide),dQ rfl,?_⟩
   ·exact((dQ rfl).set rfl).set rfl
   conv=>whnf
   exact⟨⟨j+1,g,m z⟩,by show C[i].2.length-(j+1)<C[i].2.length-j;omega,DU _ (Bt rfl rfl rfl rfl rfl rfl (congrArg (AV.si .i64) l)) rfl rfl rfl rfl⟩
  have E:j=C[i].2.length:=by
   have h:¬(j:Int)<(C[i].2.length:Int):=h;omega
  conv=>whnf
  exact⟨⟨i+1,d,t E u⟩,by show C.length-(i+1)<C.length-i;omega,DU _ (H5 rfl rfl rfl (congrArg (AV.si .i64) I)) rfl rfl rfl (congrArg (λX=>some (AO.sep (rgQ L D rec r a b X))) (y E))⟩
 have d:i=C.length:=by
  have h:¬(i:Int)<((pts C).length:Int):=h;rw[aw]at h;omega
 have M:geF a (ah (C.take i))=bH a b (ah C):=by
  rw[H6 w,d,q0u]
 conv=>whnf
 refine⟨.ready,none,rgI a b (geF a (ah (C.take i))),7,rfl,(λq=>by cases q),.inl rfl,dQ rfl,?_⟩
 conv=>whnf
 refine⟨dQ rfl,?_⟩
 conv=>whnf
 exact .inr ⟨6,0,_,2,0,smp _,true,rfl,rfl,ck _,SK (N:=7) (by decide) M rfl rfl rfl rfl⟩
theorem QV(f:Nat->Nat)(L:Smp):dw f (smp L)=smp L:=by
 induction L with
 |nil=>rfl
 |cons c L a=>
  show AV.si .i64 c.1::AV.si .i64 c.2::dw f (smp L)=_;rw[a];rfl
theorem Us(m:Nat)(L:Smp):jI m (smp L)=true:=by
 induction L with
 |nil=>rfl
 |cons c L a=>exact a
theorem F5 {f:FuncId} {run:List AV->AH->Nat->PK->Prop} (e:al f run) (j:bR Tryz.prog f=true) {c:List AV} {S:Sr} {C:Ck5} {O:Smp} (h:gi run (.ptr 0 0::c) (mkH (bE (iT S (pts C) C) 0)) 3 (RgP S C O)) (l:∀r,dw r c=c)
 {φ:Ph} {H:AH} {n:Nat} {s t:Hp} {m:Array Value} {κ:PK} {K:KH} {r k q:Nat} (v:HR φ H n s t) (i:eT H n r k q S (pts C) C) (d:VRs φ (.ptr r 0::c) m.toList) (w:cD φ s κ K) (x:κ (.rw n 0 O.length 2 0) (PM.set (some (.cells (smp O) true)) aa H n) (n+1)):dK Tryz.prog f m t K:=by
 refine dz (S:=[r,k,q]) (O:=iT S (pts C) C) (args0:= .ptr 0 0::c) (al.gi e) j v i.w9 (by show VRs φ (ren _ _::dw _ c) m.toList;rw[l];exact d) w h λu B D ⟨y,z,A⟩=>?_
 subst y z A;refine⟨4,PM.set (some (.cells (smp O) true)) aa H n,Z0 rfl,λb o g=>?_,rfl,x⟩;rcases PM.an aa H n b o g with⟨rfl,a⟩|⟨E,a⟩
 ·injection a with a;subst a;exact .inl ⟨3,.cells (smp O) true,by decide,rfl,rfl,rfl,Us _ _,by rw[bT,QV]⟩
 ·by_cases g:b∈ [r,k,q]
  ·left;simp only[Z5,Z4,or_false]at g;rcases g with rfl|rfl|rfl
   ·rw[i.hr]at a;injection a with a;subst a;exact⟨0,_,by decide,rfl,rfl,rfl,rfl,rfl⟩
   ·rw[i.hk]at a;injection a with a;subst a;exact⟨1,_,by decide,rfl,rfl,rfl,pQ _ _,by rw[bT,jK]⟩
   ·rw[i.hq]at a;injection a with a;subst a;exact⟨2,_,by decide,rfl,rfl,rfl,rfl,rfl⟩
  ·exact .inr ⟨by show b<n∨n+1<=b;omega,a,λq=>absurd q g⟩
def NZ(A:Sr->Ck5->List AV->Smp->Prop)(args:List AV)(H:AH)(n:Nat)(κ:PK):Prop:=match args with
 |x::a=>∃(r k q:Nat) (S:Sr) (C:Ck5) (O:Smp),x= .ptr r 0/\eT H n r k q S (pts C) C/\(n<900000/\PM.get H n=none)/\A S C a O/\κ (.rw n 0 O.length 2 0) (PM.set (some (.cells (smp O) true)) aa H n) (n+1)
 |_=>False
def WO(S:Sr)(C:Ck5)(c:List AV)(O:Smp):Prop:=∃y z a b,c=[y,z]/\mk y= .si .i64 a/\mk z= .si .i64 b/\Okc S C/\Up (ah C)/\(ah C).length<=100000/\O=bH a b (ah C)
theorem SL:bR Tryz.prog 21=true:=by kernel_rfl
theorem WQ:al 21 (NZ WO):=λargs H n G d I e J L K f c g=>by
 unfold NZ at d;split at d
 ·obtain⟨M,h,i,j,l⟩:=c.cons_inv;obtain⟨r,k,q,S,C,O,rfl,m,N,⟨y,z,a,b,rfl,o,p,s,t,u,rfl⟩,d⟩:=d;obtain⟨P,v,w,x,A⟩:=l.cons_inv;obtain⟨Q,B,D,E,F⟩:=A.cons_inv;exact F5 (SJ SL (b7 tab.mixed tO 5) (rR tO) (nE tO)) SL (KA S C a b s t u) (λ_=>rfl) f m (by rw[i,w,D];exact .cons j (.cons (bh rfl (o▸x.mk)) (.cons (bh rfl (p▸E.mk)) F))) g d
 ·exact d.elim
def lnI (m:Nat):AH:=mkH [(3,.cells [.si .i64 (m:Int)] true)]
def lnE:AE:=mkE [(3,.ptr 3 0)]
def lcM (S:Sr) (C:Ck5) (Q:HP):AH:=mkH [(0,.cells (c8 S 1 (pts C).length) true),(1,.cells (aZ (pts C)) true),(2,dA S C),(4,.sep Q)]
abbrev lnQ (L D:Nat) (rec:Loop) (ρ:Env) (X:Smp):HP:=DS (lG L D rec .ready none) lnE ρ (lnI X.length) 4
theorem SM{σ:AE}{H:AH}{n m:Nat}{d:List AV}(f:ai (pa 3) σ= .ptr 3 0)(g:PM.get H 3=some (.cells d true))(h:d.map mk=[.si .i64 (m:Int)]):Cov 0 σ H n (lnE,lnI m,4):=by
 refine Cov.ofR (m:=4) (p:=0) (λc=>c) (Z9 _) (λb i=>rfl) (λx a=>?_) (λx a=>?_) (λx a y j e=>e)
 ·simp only[Z5,Z4,or_false]at a;subst a;exact ae.ptr (by decide) f
 ·simp only[Z5,Z4,or_false]at a;subst a;exact⟨Z0 rfl,.inl ⟨_,g,ak.bu rfl h id⟩⟩
theorem H8{σ:AE}{H:AH}{n:Nat}{S:Sr}{C:Ck5}{Q:HP}(le:List (Nat×AV))(c:∀x∈le,ae H 5 (λb=>b) (ai (pa x.1) σ) x.2)(d:PM.get H 0=some (.cells (c8 S 1 (pts C).length) true))(f:PM.get H 1=some (.cells (aZ (pts C)) true))(g:PM.get H 2=some (dA S C))(h:PM.get H 4=some (.sep Q)):Cov 5 σ H n (mkE le,lcM S C Q,5):=by
 refine Cov.ofR (m:=5) (p:=5) (λb=>b) (Z3 _) (λb i=>rfl) c ?_ (λx a y j e=>e);intro x a;simp only[Z5,Z4,or_false]at a;rcases a with rfl|rfl|rfl|rfl
 ·exact⟨Z0 rfl,.inl ⟨_,d,ak.c8 rfl rfl rfl rfl rfl (ae.rw (Z0 rfl) rfl)⟩⟩
 ·exact⟨Z0 rfl,.inl ⟨_,f,ak.aZ (aB _)⟩⟩
 ·exact⟨Z0 rfl,.inl ⟨_,g,ak.sep _⟩⟩
 ·exact⟨Z0 rfl,.inl ⟨_,h,ak.sep _⟩⟩
theorem DW{H:AH}{σ:AE}{C:Ck5}{L i:Nat}(f:ai (pa 1) σ=yC L)(a:ai (pa 14) σ= .rw 1 0 (pts C).length 1 0)(c:mk (ai (pa 15) σ)= .si .i64 ((pts C).length:Int))(d:mk (ai (pa 16) σ)= .si .i64 (i:Int)):∀x∈lo1 C L i,ae H 5 (λb=>b) (ai (pa x.1) σ) x.2:=λx e=>by
 simp only[Z5,Z4,or_false]at e;rcases e with rfl|rfl|rfl|rfl
 ·show ae H 5 _ (ai (pa 1) σ) (yC L);rw[f];exact λ_ _ _ _ _ h=>h
 ·exact ae.rw (Z0 rfl) a
 ·exact ae.int c
 ·exact ae.int d
theorem DX{H:AH}{σ:AE}{C:Ck5}{L i j:Nat}{X:Smp}(l:ai (pa 1) σ=yC L)(a:ai (pa 14) σ= .rw 1 0 (pts C).length 1 0)(c:mk (ai (pa 15) σ)= .si .i64 ((pts C).length:Int))(d:mk (ai (pa 16) σ)= .si .i64 (i:Int))(e:ai (pa 21) σ= .fr X.length 2 (smp X))(f:mk (ai (pa 22) σ)= .si .i64 (X.length:Int))(g:mk (ai (pa 23) σ)= .si .i64 (j:Int)):∀x∈lo2 C L i X j,ae H 5 (λb=>b) (ai (pa x.1) σ) x.2:=λx k=>by
 simp only[Z5,Z4,or_false]at k;rcases k with rfl|rfl|rfl|rfl|rfl|rfl|rfl
 ·show ae H 5 _ (ai (pa 1) σ) (yC L);rw[l];exact λ_ _ _ _ _ h=>h
 ·exact ae.rw (Z0 rfl) a
 ·exact ae.int c
 ·exact ae.int d
 ·exact ae.frE e
 ·exact ae.int f
 ·exact ae.int g
theorem QW(S:Sr)(C:Ck5)(d:Okc S C)(x:(ah C).length<=100000):gi (RfG cRg (uw KRf) 57) [.ptr 0 0] (mkH (bE (iT S (pts C) C) 0)) 3 (RoP (λu=>u= .si .i64 ((ah C).length:Int)) S (pts C) C):=by
 have y:=d.few;have l:=d.lo;show RfG cRg _ _ _ _ _ _
 conv=>whnf
 refine⟨by kernel_rfl,Z0 rfl,?_⟩
 conv=>whnf
 refine⟨by decide,62,[.ptr 0 0],[3],mkH [(3,.cells [.int .i64 0] true)],mkH [(0,.cells (c8 S 1 (pts C).length) true),(1,.cells (aZ (pts C)) true),(2,dA S C)],lnE,lnI 0,4,rfl,rfl,λc o h=>?_,λc o h=>?_,λc o h=>?_,?_,λL D rec f m=>?_⟩
 ·have hm:=cm h;simp only[Z5,Z4,or_false]at hm;injection hm with h1 a;subst h1 a;rfl
 ·have hm:=cm h;simp only[Z5,Z4,or_false]at hm;rcases hm with hm|hm|hm<;>(injection hm with h1 a;subst h1 a;rfl)
 ·have hm:=cm h;simp only[Z5,Z4,or_false]at hm;injection hm with h1 a;subst h1 a;exact⟨rfl,rfl⟩
 ·exact SM rfl rfl rfl
 conv=>whnf
 refine ag.du (λz=>absurd (show(0:Int)<(S.sz:Int) by omega) z) (λ_=>?_)
 conv=>whnf
 refine aN.mk {i:Nat//i<=C.length} 5 (λi=>(mkE (lo1 C L i.val),lcM S C (lnQ L D rec f (ah (C.take i.val))))) (λi=>C.length-i.val) ⟨0,Z9 _⟩ ?_ ?_
 focus
  exact H8 _ (DW rfl rfl rfl rfl) rfl rfl rfl rfl
 intro⟨i,A⟩;have n:IntKind.i64.wrap ((i:Int)+1)=((i+1:Nat):Int):=by rw[aj (by omega) (by omega)];omega
 conv=>whnf
 refine ag.dec (λh=>?_) (λh=>?_)
 focus
  have a:i<C.length:=by
   have h:(i:Int)<((pts C).length:Int):=h;rw[aw]at h;omega
  conv=>whnf
  refine Idx.mk i rfl (by rw[aw];exact a) ?_
  conv=>whnf
  refine aq (dZ a (show 0+i*1=i by omega)) ?_
  conv=>whnf
  refine⟨2,S.sz,C.take i,C.drop (i+1),C[i].1,C[i].2,rfl,congrArg some (pS a),by omega,d.eE _ (q0k a),?_⟩
  conv=>whnf
  refine aN.mk {j:Nat//j<=C[i].2.length} 5 (λj=>(mkE (lo2 C L i C[i].2 j.val),lcM S C (lnQ L D rec f (ah (C.take i)++C[i].2.take j.val)))) (λj=>C[i].2.length-j.val) ⟨0,Z9 _⟩ ?_ ?_
  focus
   exact H8 _ (DX rfl rfl rfl rfl rfl rfl rfl) rfl rfl rfl (congrArg (λX=>some (AO.sep (lnQ L D rec f X))) (q1e _).symm)
  have B:=(d.eE _ (q0k a)).2.2;have p:∀{j:Nat},j=C[i].2.length->ah (C.take i)++C[i].2.take j=ah (C.take (i+1)):=λ{j} e=>by rw[xp a,e,q0u]
  intro⟨j,E⟩;have g:IntKind.i64.wrap ((j:Int)+1)=((j+1:Nat):Int):=by rw[aj (by omega) (by omega)];omega
  conv=>whnf
  refine ag.dec (λh=>?_) (λh=>?_)
  focus
   have b:j<C[i].2.length:=by
    have h:(j:Int)<(C[i].2.length:Int):=h;omega
   have k:=DV a b;have r:C[i].2.take (j+1)=C[i].2.take j++ [C[i].2[j]]:=q0c b
   have s:IntKind.i64.wrap (((ah (C.take i)++C[i].2.take j).length:Int)+1)=((ah (C.take i)++C[i].2.take (j+1)).length:Int):=by
    have t:=congrArg List.length k;rw[Z6,q0a]at t;rw[r,<-q1a,Z6 (bs:=[_]),aj (by omega) (by omega)];simp
   conv=>whnf
   refine Idx.mk j rfl b ?_
   conv=>whnf
   refine aq (fG b rfl) ?_
   conv=>whnf
   refine Yld.mk _ m ⟨lnI (ah (C.take i)++C[i].2.take j).length,4,_,rfl,rfl,HY,dQ rfl,?_⟩
   conv=>whnf
   refine⟨dQ rfl,?_⟩
   conv=>whnf
   refine⟨?_,lnI (ah (C.take i)++C[i].2.take (j+1)).length,4,SM rfl rfl (congrArg (λq=> [AV.si .i64 q]) s),dQ rfl,?_⟩
   ·repeat first|exact dQ rfl|refine dp.set ?_ rfl|refine dp.del ?_
   conv=>whnf
   exact⟨⟨j+1,b⟩,by show C[i].2.length-(j+1)<C[i].2.length-j;omega,H8 _ (DX rfl rfl rfl rfl rfl rfl (congrArg (AV.si .i64) g)) rfl rfl rfl rfl⟩
  have v:j=C[i].2.length:=by
   have h:¬(j:Int)<(C[i].2.length:Int):=h;omega
  conv=>whnf
  exact⟨⟨i+1,a⟩,by show C.length-(i+1)<C.length-i;omega,H8 _ (DW rfl rfl rfl (congrArg (AV.si .i64) n)) rfl rfl rfl (congrArg (λX=>some (AO.sep (lnQ L D rec f X))) (p v))⟩
 have a:i=C.length:=by
  have h:¬(i:Int)<((pts C).length:Int):=h;rw[aw]at h;omega
 have w:ah (C.take i)=ah C:=by rw[a,q0u]
 conv=>whnf
 refine⟨.ready,none,lnI (ah (C.take i)).length,4,rfl,(λq=>by cases q),.inl rfl,dQ rfl,?_⟩
 conv=>whnf
 refine⟨dQ rfl,?_⟩
 conv=>whnf
 exact .inl ⟨λF G u h=>h,uI _ (congrArg (λX:Smp=>AV.si .i64 (X.length:Int)) w) (VTo.mk5 rfl) VR.fg rfl rfl rfl⟩
def Ut(S:Sr)(C:Ck5)(a:List AV)(v:AV):Prop:=a=[]/\Okc S C/\(ah C).length<=100000/\v= .si .i64 ((ah C).length:Int)
theorem SN:bR Tryz.prog 57=true:=by kernel_rfl
theorem Uu:al 57 (mO Ut):=mP (SJ SN (b7 tab.mixed tO 5) (rR tO) (nE tO)) SN λS C f v a=>by
 obtain⟨b,c,d,e⟩:=a;subst b e;exact⟨[],λg i h=>h,λ_=>rfl,⟨λ_=>rfl,rfl⟩,QW S C c d⟩
def N0:FuncId->EP:=aX 20 [] evP
theorem QX:aS N0:=au az (by kernel_rfl) (by kernel_rfl)
def DY(B:Nat)(f:Smp->Smp->Bool)(args:List AV)(H:AH)(n:Nat)(κ:PK):Prop:=match args with
 | [x,y]=>∃L M,mG H x L/\mG H y M/\L.length<=B/\M.length<=B/\κ (.sb (f L M)) H n
 |_=>False
theorem N1 {B:Nat} {F:FuncId->EP} (l:aS F) {d:Nat} {f:FuncId} {g:Smp->Smp->Bool} (b:bR Tryz.prog f=true) (q:ax F d f [.nsl,.nsl] .nil 0 λu _ _=>mkT u=mkT (.bool (g [] [])))
 (r:∀M cap,M.length<=B->ax F d f [.nsl,.sy 0 0 M.length cap 0] (mkH [(0,.ro (smp M))]) 1 λu _ _=>mkT u=mkT (.bool (g [] M)))
 (s:∀L cap,L.length<=B->ax F d f [.sy 0 0 L.length cap 0,.nsl] (mkH [(0,.ro (smp L))]) 1 λu _ _=>mkT u=mkT (.bool (g L [])))
 (t:∀L M D c2,L.length<=B->M.length<=B->ax F d f [.sy 0 0 L.length D 0,.sy 1 0 M.length c2 0] (mkH [(0,.ro (smp L)),(1,.ro (smp M))]) 2 λu _ _=>mkT u=mkT (.bool (g L M))):al f (DY B g):=λargs H n O m P E Q R K i h o=>by
 unfold DY at m;split at m
 ·obtain⟨x,y,rfl,G,I⟩:=vs2 h;obtain⟨L,M,J,N,w,z,c⟩:=m;rcases J.open i G with⟨rfl,j⟩|⟨p,C,_,k,j⟩<;>rcases N.open i I with⟨rfl,a⟩|⟨S,A,_,e,a⟩
  ·exact il (v:= .bool (g [] [])) l rfl q c i o b HR.ro0 (.cons (j _) (.cons (a _) .nil))
  ·exact il (v:= .bool (g [] M)) l rfl (r M A z) c i o b (λa=>HR.ro1 a e) (.cons (j _) (.cons (a _ 0 rfl) .nil))
  ·exact il (v:= .bool (g L [])) l rfl (s L C w) c i o b (λa=>HR.ro1 a k) (.cons (j _ 0 rfl) (.cons (a _) .nil))
  ·exact il (v:= .bool (g L M)) l rfl (t L M C A w z) c i o b (λa=>HR.ro2 a k e) (.cons (j _ 0 rfl) (.cons (a _ 1 rfl) .nil))
 ·exact m.elim
theorem Uv:iJ Tryz.prog 27=some [(0,0),(0,1)]:=by kernel_rfl
def lp(L M:Smp):Bool:=decide (L=M)
def F6 (L M:Smp) (a c2 i:Nat):AE×AH:=(mkE [(0,.sy 0 0 L.length a 0),(1,.sy 1 0 M.length c2 0),(5,.si .i64 i)],mkH [(0,.ro (smp L)),(1,.ro (smp M))])
theorem DZ {L M:Smp} {c c2 i p n:Nat} {σ:AE} {H:AH} (e:p<=2) (e0:mk (ai (pa 0) σ)= .sy 0 0 L.length c 0) (f:mk (ai (pa 1) σ)= .sy 1 0 M.length c2 0) (g:mk (ai (pa 5) σ)= .si .i64 i)
 (h:H.get 0=some (.ro (smp L))) (j:H.get 1=some (.ro (smp M))):Cov p σ H n ((F6 L M c c2 i).1,(F6 L M c c2 i).2,2):=by
 refine Cov.of (λb=>b) e (λb k=>rfl) ?_ ?_ ?_
 ·intro x a;simp only[Z5,Z4,or_false]at a;rcases a with rfl|rfl|rfl
  ·exact .sy (by decide) e0
  ·exact .sy (by decide) f
  ·exact .int g
 ·intro x a;simp only[Z5,Z4,or_false]at a;rcases a with rfl|rfl
  ·exact⟨by simp,_,h,ak.CT (ck L) rfl⟩
  ·exact⟨by simp,_,j,ak.CT (ck M) rfl⟩
 ·intro x a y d;simp only[Z5,Z4,or_false]at a d;rcases a with rfl|rfl<;>rcases d with rfl|rfl<;>exact λq=>q
theorem vi{L M:Smp}(h:L≠M):AV.sb false=mkT (.bool (lp L M)):=by simp[lp,h,mkT,mk]
theorem N2{L M:Smp}(h:L=M):AV.sb true=mkT (.bool (lp L M)):=by simp[lp,h,mkT,mk]
theorem KC(L M:Smp)(l c2:Nat)(n:L.length<=1000000)(o:M.length<=1000000):ax N0 3 20 [.sy 0 0 L.length l 0,.sy 1 0 M.length c2 0] (mkH [(0,.ro (smp L)),(1,.ro (smp M))]) 2 λu _ _=>mkT u=mkT (.bool (lp L M)):=by
 conv=>whnf
 refine ag.du (λf=>?_) (λf=>?_)
 ·conv=>whnf
  exact(show mkT _=AV.sb false from rfl).trans (vi λe=>f (by rw[e]))
 have c:L.length=M.length:=by have:(L.length:Int)=(M.length:Int):=f;omega
 conv=>whnf
 refine aN.mk {i:Nat//i<L.length+1/\L.take i=M.take i} 2 (λa=>F6 L M l c2 a.val) (λa=>L.length-a.val) ⟨0,by omega,rfl⟩ ?_ ?_
 ·exact DZ (i:=0) (Z3 2) rfl rfl rfl rfl rfl
 ·intro⟨i,p,g⟩
  conv=>whnf
  refine ag.dec (λh=>?_) (λh=>?_)
  ·have d:i<L.length:=q0v.1 h;have j:i<M.length:=by omega
   have k:L.length-(i+1)<L.length-i:=by omega
   have m:IntKind.i64.wrap ((i:Int)+1)=((i+1:Nat):Int):=by rw[aj (x:=(i:Int)+1) (by omega) (by omega)];omega
   conv=>whnf
   refine Idx.mk i rfl d ?_
   conv=>whnf
   refine aq (fG d (by show 0+i*2=i*2;omega)) ?_
   conv=>whnf
   refine Idx.mk i rfl j ?_
   conv=>whnf
   refine aq (fG j (by show 0+i*2=i*2;omega)) ?_
   conv=>whnf
   refine aq (Km Uv) ?_
   conv=>whnf
   refine ag.nsb (λb=>?_) (λb=>?_)
   ·conv=>whnf
    refine(show mkT _=AV.sb false from rfl).trans (vi λe=>?_);subst e;have b:(decide (L[i].1=L[i].1)&&(decide (L[i].2=L[i].2)&&true))=false:=b;simp at b
   ·conv=>whnf
    have b:(decide (L[i].1=M[i].1)&&(decide (L[i].2=M[i].2)&&true))=true:=b;simp only[Bool.and_true,Z8,decide_eq_true_eq]at b;refine⟨⟨i+1,by omega,?_⟩,k,DZ (Z3 2) rfl rfl (congrArg (AV.si .i64) m) rfl rfl⟩;rw[q0c d,q0c j,g,Prod.ext b.1 b.2]
  ·conv=>whnf
   have d:i=L.length:=by have:¬(i:Int)<(L.length:Int):=h;omega
   subst d;refine(show mkT _=AV.sb true from rfl).trans (N2 ?_);rw[q0u,c,q0u]at g;exact g
theorem QY:ax N0 3 20 [.nsl,.nsl] .nil 0 λu _ _=>mkT u=mkT (.bool (lp [] [])):=by
 conv=>whnf
 refine aN.roll 1 ?_
 conv=>whnf
 rfl
theorem QZ(M:Smp)(cap:Nat):ax N0 3 20 [.nsl,.sy 0 0 M.length cap 0] (mkH [(0,.ro (smp M))]) 1 λu _ _=>mkT u=mkT (.bool (lp [] M)):=by
 conv=>whnf
 refine ag.du (λa=>?_) (λa=>?_)
 ·conv=>whnf
  exact(show mkT _=AV.sb false from rfl).trans (vi λe=>a (by rw[<-e];rfl))
 ·conv=>whnf
  have b:M=[]:=q0j (by have:(0:Int)=(M.length:Int):=a;omega);subst b;refine aN.roll 1 ?_
  conv=>whnf
  rfl
theorem Q0(L:Smp)(cap:Nat):ax N0 3 20 [.sy 0 0 L.length cap 0,.nsl] (mkH [(0,.ro (smp L))]) 1 λu _ _=>mkT u=mkT (.bool (lp L [])):=by
 conv=>whnf
 refine ag.du (λa=>?_) (λa=>?_)
 ·conv=>whnf
  exact(show mkT _=AV.sb false from rfl).trans (vi λe=>a (by rw[e];rfl))
 ·conv=>whnf
  have b:L=[]:=q0j (by have:(L.length:Int)=(0:Int):=a;omega);subst b;refine aN.roll 1 ?_
  conv=>whnf
  refine ag.dec (λh=>absurd h (by decide)) (λ_=>?_)
  conv=>whnf
  rfl
theorem H9:al 20 (DY 1000000 lp):=N1 QX (by kernel_rfl) QY (λM cap _=>QZ M cap) (λL cap _=>Q0 L cap) KC
theorem sD(S:Sr)(L:Smp)(t v p:Int):(gY S L t v p).1.2.length<=L.length+1:=by
 unfold gY;generalize (if p=0 then S.pol else p)=q;split
 ·exact q2v _
 ·split
  ·exact q2v _
  ·split
   ·exact q0d (o8 _ _ _) (xf _ _ _ _).1
   ·exact q2v _
theorem N3(S:Sr)(L:Smp)(ret p:Int):(jM S L ret p).1.2.length<=L.length:=by
 unfold jM;split
 ·exact o8 _ _ _
 ·exact Z3 _
def Ia(args:List AV)(H:AH)(n:Nat)(κ:PK):Prop:=match args with
 | [x,y,z]=>∃(r k q:Nat) (S:Sr) (C:Ck5) (t v p:Int) (L:Smp) (b:Sr) (c:Smp) (e:Int),x= .ptr r 0/\nK y t v/\mk z= .si .i64 p/\eT H n r k q S (pts C) C/\jL S C/\aR v/\ah C=L/\L.length<=40000/\gY S L t v p=((b,c),e)/\∀a,jL b a->ah a=c->κ (.si .i64 e) (ga H n r k q b (pts a) a) (n+1)
 |_=>False
theorem Uw:al 72 Ia:=λargs H n j a=>Uk args H n j (by
 unfold Ia at a;unfold Bk;split at a
 ·obtain⟨r,k,q,S,C,t,v,p,L,A,B,e,l,m,o,s,u,w,x,y,d,b⟩:=a;subst x;refine⟨r,k,q,S,C,t,v,p,l,m,o,s,u,w,y,λz c f g h=>?_⟩;have i:=sD S (ah C) t v p;rw[d]at c f g h i;have:=b z ⟨f,g,h,by rw[c];dsimp only at i⊢;omega⟩ c;rw[d];exact this
 ·exact a.elim)
def Ib(args:List AV)(H:AH)(n:Nat)(κ:PK):Prop:=match args with
 | [x,y,z]=>∃(r k q:Nat) (S:Sr) (C:Ck5) (a b:Int) (L d:Smp) (m:Nat),x= .ptr r 0/\mk y= .si .i64 a/\mk z= .si .i64 b/\eT H n r k q S (pts C) C/\jL S C/\ah C=L/\L.length<=40000/\aO L a b=d/\L.length-d.length=m/\∀c,jL S c->ah c=d->κ (.si .i64 (m:Int)) (ga H n r k q S (pts c) c) (n+1)
 |_=>False
theorem Ux:al 100 Ib:=λargs H n g c=>NS args H n g (by
 unfold Ib at c;unfold vh;split at c
 ·obtain⟨r,k,q,S,C,a,b,L,w,m,h,i,j,l,d,o,x,p,s,e⟩:=c;subst o p s;have y:=Bh C;have z:=d.gt.few;have A:=o8 (ah C) a b;exact⟨r,k,q,S,C,a,b,h,i,j,l,d.gt.gd.pf,by omega,by omega,λt f u v=>e t ⟨u,v,d.num,by rw[f];omega⟩ f⟩
 ·exact c.elim)
def Ic(args:List AV)(H:AH)(n:Nat)(κ:PK):Prop:=match args with
 | [x,y,z]=>∃(r k q:Nat) (S:Sr) (C:Ck5) (ret p:Int) (L:Smp) (b:Sr) (c:Smp) (e:Int),x= .ptr r 0/\mk y= .si .i64 ret/\mk z= .si .i64 p/\eT H n r k q S (pts C) C/\jL S C/\ah C=L/\L.length<=40000/\jM S L ret p=((b,c),e)/\∀a,jL b a->ah a=c->κ (.si .i64 e) (ga H n r k q b (pts a) a) (n+1)
 |_=>False
theorem Uy:al 108 Ic:=λargs H n j a=>Um args H n j (by
 unfold Ic at a;unfold Bl;split at a
 ·obtain⟨r,k,q,S,C,ret,p,L,x,y,e,l,m,o,s,t,u,v,d,b⟩:=a;subst u;refine⟨r,k,q,S,C,ret,p,l,m,o,s,t,v,λw c f g h=>?_⟩;have i:=N3 S (ah C) ret p;rw[d]at c f g h i;have:=b w ⟨f,g,h,by rw[c];dsimp only at i⊢;omega⟩ c;rw[d];exact this
 ·exact a.elim)
theorem N4{S:Sr}(b:128<=S.sz)(d:S.sz<=4096)(hn:om S):jL S []:=⟨⟨⟨b,d,List.Pairwise.nil,(λc a=>by cases a),(λc a=>by cases a)⟩,(λc a=>by cases a)⟩,(λj h=>by simp at h),hn,Z9 _⟩
theorem Q1{sz ret p:Int}{S:Sr}(h:qd sz ret p=some S):jL S []/\S=⟨sz.toNat,ret,p,-1,0⟩:=by
 unfold qd at h;split at h
 ·rename_i k;injection h with h;subst h;exact⟨N4 (by show 128<=sz.toNat;omega) (by show sz.toNat<=4096;omega) ⟨k.2.1,k.2.2,⟨(show(-1:Int)≤-1 by decide),(show(-1:Int)<1099511627776 by decide)⟩,⟨(show(0:Int)<=0 by decide),(show(0:Int)<=1099511627776 by decide)⟩⟩,rfl⟩
 ·cases h
theorem jL.okc{S:Sr}{C:Ck5}(h:jL S C):Okc S C:=h.gt.toPre5.okc (by have:=h.gt.few;have:=h.few;omega)
def Ie(args:List AV)(H:AH)(n:Nat)(κ:PK):Prop:=match args with
 | [x,y,z]=>∃(sz ret p:Int) (r:Option Sr),mk x= .si .i64 sz/\mk y= .si .i64 ret/\mk z= .si .i64 p/\n<900000/\qd sz ret p=r/\match r with
  |none=>κ (.tup [.nil,.int .i64 1]) H n
  |some S=>jL S []->κ (.tup [.ptr n 0,.int .i64 0]) (xm H n S) (n+3)
 |_=>False
theorem Uz:al 104 Ie:=λargs H n d a=>Un args H n d (by
 unfold Ie at a;unfold Bm;split at a
 ·obtain⟨sz,ret,p,r,e,f,g,h,b,c⟩:=a;refine⟨sz,ret,p,e,f,g,h,λq=>?_,λS q=>?_⟩
  ·rw[b]at q;subst q;exact c
  ·have:=(Q1 q).1;rw[b]at q;subst q;exact c this
 ·exact a.elim)
def HP.emp:HP where
 P _ X _:=∀B,¬X B
 loc _ _ _ _ _ _ h:=h
 mono _ _ _ _ _ h:=h
 ex _ _ _ B h hB:=absurd hB (h B)
def HP.exi{i:Type}(c:i->Prop)(Q:i->HP):HP where
 P z X h:=∃a,c a/\(Q a).P z X h
 loc z X h g hn e:=λ⟨a,f,d⟩=>⟨a,f,(Q a).loc z X h g hn e d⟩
 mono z z' X h hz:=λ⟨a,f,d⟩=>⟨a,f,(Q a).mono z z' X h hz d⟩
 ex z X h B:=λ⟨a,_,d⟩ j=>(Q a).ex z X h B d j
structure Loc(χ:Ph)(O:List AO)(X:Nat->Prop)(h:Hp):Prop where
 dom:∀i q,χ i=some q->i<O.length/\X q.B
 live:∀i o,O[i]?=some o->o.own=true/\((χ i=none/\o.free=true)∨∃q ob,χ i=some q/\h.f q.B=some ob/\OR χ q o ob)
 inj:∀i j q q',χ i=some q->χ j=some q'->q.B=q'.B->i=j
 ex:∀B,X B->∃o,h.f B=some o
 sep:∀i Q,O[i]?=some (.sep Q)->Q.P χ.z (χ.s i) h/\∀B,χ.s i B->X B/\(∀j q,χ j=some q->q.B≠B)/\∀j Q',O[j]?=some (.sep Q')->j≠i->¬χ.s j B
theorem Loc.to{χ:Ph}{O:List AO}{X:Nat->Prop}{h g:Hp}(l:Loc χ O X h)(hn:h.n<=g.n)(e:∀B,X B->g.f B=h.f B):Loc χ O X g:=
 ⟨l.dom,λi o a=>⟨(l.live i o a).1,(l.live i o a).2.imp id λ⟨q,j,d,k,m⟩=>⟨q,j,d,(e _ (l.dom i q d).2).trans k,m⟩⟩,l.inj,λB c=>by rw[e B c];exact l.ex B c,
  λi Q a=>⟨Q.loc _ _ _ _ hn (λB c=>e B ((l.sep i Q a).2 B c).1) (l.sep i Q a).1,(l.sep i Q a).2⟩⟩
def xq(O:List AO)(p:Nat×Nat):HP where
 P z X h:=∃a:Ph,(∀q,a.z q->z q)/\(∃T,a 0=some ⟨p.1,p.2,T⟩)/\Loc a O X h
 loc _ _ _ _ g e:=λ⟨a,d,f,c⟩=>⟨a,d,f,c.to g e⟩
 mono _ _ _ _ hz:=λ⟨a,d,f,c⟩=>⟨a,λq i=>hz q (d q i),f,c⟩
 ex _ _ _ B:=λ⟨_,_,_,c⟩ j=>c.ex B j
section
variable {φ:Ph} {H H':AH} {n:Nat} {h0 h:Hp} {b:Nat} {O:List AO} {p:Nat×Nat} {Q:HP} {S:List Nat}
theorem HR.F7 (g:HR φ H n h0 h) (R:b<n) (hb:H.get b=some (.sep Q)) (hP:(xq O p).P φ.z (φ.s b) h)
 (U:∀x o,H'.get x=some o->(∃i o',x=n+i/\O[i]?=some o'/\o=bT (λc=>n+c) o')∨(x=b/\o= .sep .emp)∨(x≠b/\(x<n∨n+O.length<=x)/\H.get x=some o)):
 ∃ψ T,PLe φ ψ/\ψ n=some ⟨p.1,p.2,T⟩/\HR ψ H' (n+O.length) h0 h:=by
 obtain⟨t,hz,⟨T,h00⟩,l⟩:=hP;have N:=(g.sep b Q hb).2;have V:=g.nM hb
 have φn:∀x,n<=x->φ x=none:=λx w=>by
  cases e:φ x with
  |none=>rfl
  |some q=>have:=(g.dom x q e).1;omega
 have χn:∀i,O.length<=i->t i=none:=λi hi=>by
  cases e:t i with
  |none=>rfl
  |some q=>have:=(l.dom i q e).1;omega
 let ψ:Ph:=⟨λx=>if n<=x then t (x-n)else φ x,φ.z,φ.y,λx=>if n<=x/\x<n+O.length then t.s (x-n)else if x=b then(λ_=>False)else φ.s x⟩
 have k:∀i,ψ (n+i)=t i:=λi=>by
  show(if n<=n+i then t (n+i-n)else _)=_;rw[if_pos (q1c n i),q3p]
 have d:∀x,(x<n∨n+O.length<=x)->ψ x=φ x:=λx w=>by
  show(if n<=x then t (x-n)else φ x)=φ x;split
  ·rw[φn x (by omega),χn _ (by omega)]
  ·rfl
 have sn:∀{i:Nat} {o:AO},O[i]?=some o->ψ.s (n+i)=t.s i:=λ{i o} hi=>by
  have:=(q0e.1 hi).1;show(if n<=n+i/\n+i<n+O.length then t.s (n+i-n)else _)=_;rw[if_pos ⟨q1c n i,by omega⟩,q3p]
 have sb:ψ.s b=λ_=>False:=by
  show(if n<=b/\b<n+O.length then _ else if b=b then _ else _)=_;rw[if_neg (by omega),if_pos rfl]
 have so:∀x,(x<n∨n+O.length<=x)->x≠b->ψ.s x=φ.s x:=λx w hxb=>by
  show(if n<=x/\x<n+O.length then _ else if x=b then _ else _)=_;rw[if_neg (by omega),if_neg hxb]
 have J:PLe φ ψ:=⟨λx q e=>by rw[d x (.inl (g.dom x q e).1)];exact e,λ_ h=>h,λ_ h=>h⟩;have sle:SLe t (ψ.pull (λc=>n+c)):=⟨λi q e=>by show ψ (n+i)=_;rw[k];exact e,hz⟩
 have cs:∀x o q,H'.get x=some o->o.own=true->ψ x=some q->(∃i,x=n+i/\t i=some q/\φ.s b q.B)∨((x<n∨n+O.length<=x)/\x≠b/\H.get x=some o/\φ x=some q):=λx o q w ho a=>by
  rcases U x o w with⟨i,o',rfl,u,rfl⟩|⟨rfl,rfl⟩|⟨u,f,W⟩
  ·rw[k]at a;exact .inl ⟨i,rfl,a,(l.dom i q a).2⟩
  ·rw[d _ (.inl R),V]at a;cases a
  ·rw[d _ f]at a;exact .inr ⟨f,u,W,a⟩
 refine⟨ψ,T,J,by have:=k 0;rw[q2w]at this;rw[this];exact h00,⟨λx q e=>?_,λx o e=>?_,λx y o o' q q' w D ho L a hq' e=>?_,g.base,g.size,λq a=>?_,λx Q' w=>?_⟩⟩
 ·by_cases hxn:n<=x
  ·obtain⟨i,rfl⟩:∃i,x=n+i:=⟨x-n,by omega⟩;rw[k]at e;have:=l.dom i q e;exact⟨by omega,(N q.B this.2).1.1⟩
  ·rw[d x (.inl (by omega))]at e;have:=g.dom x q e;exact⟨by omega,this.2⟩
 ·rcases U x o e with⟨i,o',rfl,u,rfl⟩|⟨rfl,rfl⟩|⟨u,f,W⟩
  ·obtain⟨E,⟨v,X⟩|⟨q,ob,v,X,g4⟩⟩:=l.live i o' u
   ·exact .inl ⟨by rw[k];exact v,by rw[kJ];exact X⟩
   ·refine .inr ⟨q,ob,by rw[k];exact v,?_,X,(OR.pull (χ:=ψ)).2 (g4.c9 sle)⟩;rw[nL,AO.bG E];exact(N q.B (l.dom i q v).2).1.2
  ·exact .inl ⟨by rw[d _ (.inl R)];exact V,rfl⟩
  ·rcases g.live x o W with⟨E,v⟩|⟨q,ob,E,v,X,g4⟩
   ·exact .inl ⟨by rw[d _ f];exact E,v⟩
   ·exact .inr ⟨q,ob,by rw[d _ f];exact E,v,X,g4.mono J⟩
 ·rcases cs x o q w ho a with⟨i,rfl,F,A⟩|⟨F,A,G,I⟩<;>rcases cs y o' q' D L hq' with⟨j,rfl,b1,b2⟩|⟨b1,b2,b3,b4⟩
  ·rw[l.inj i j q q' F b1 e]
  ·exact absurd e.symm ((N _ A).2.1 y o' q' b3 L b4)
  ·exact absurd e ((N _ b2).2.1 x o q G ho I)
  ·exact g.inj x y o o' q q' G b3 ho L I b4 e
 ·refine⟨⟨FzR.mono (φ:=φ) (ψ:=ψ) J.z (g.frz q a).1.1,(g.frz q a).1.2⟩,λx o px w ho hpx=>?_⟩;rcases cs x o px w ho hpx with⟨i,rfl,F,A⟩|⟨F,A,G,I⟩
  ·exact λe=>(N _ A).2.2.1 q a e.symm
  ·exact(g.frz q a).2 x o px G ho I
 ·rcases U x _ w with⟨i,o',rfl,u,f⟩|⟨rfl,f⟩|⟨u,f,W⟩
  ·have f:=mH f.symm;subst f;obtain⟨E,v⟩:=l.sep i Q' u;rw[sn u];refine⟨Q'.mono _ _ _ _ hz E,λB hB=>?_⟩;obtain⟨k1,k2,k3⟩:=v B hB;obtain⟨f1,f2,f3,Y⟩:=N B k1;refine⟨f1,λy o q D ho a=>?_,f3,λy Z D M m=>?_⟩
   ·rcases cs y o q D ho a with⟨j,rfl,F,A⟩|⟨F,A,G,I⟩
    ·exact k2 j q F
    ·exact f2 y o q G ho I
   ·rcases U y _ D with⟨j,o',rfl,C,r⟩|⟨rfl,r⟩|⟨C,r,j3⟩
    ·have r:=mH r.symm;subst r;rw[sn C]at m;exact k3 j Z C (λq=>M (by rw[q])) m
    ·rw[sb]at m;exact m
    ·rw[so y r C]at m;exact Y y Z j3 C m
  ·injection f with f;subst f;rw[sb];exact⟨λ_ h=>h,λ_ h=>h.elim⟩
  ·obtain⟨E,v⟩:=g.sep x Q' W;rw[so x f u];refine⟨E,λB hB=>?_⟩;obtain⟨f1,f2,f3,Y⟩:=v B hB;refine⟨f1,λy o q D ho a=>?_,f3,λy Z D M m=>?_⟩
   ·rcases cs y o q D ho a with⟨j,rfl,F,A⟩|⟨F,A,G,I⟩
    ·exact λe=>Y b Q hb (λq=>u q.symm) (by rw[<-e];exact A)
    ·exact f2 y o q G ho I
   ·rcases U y _ D with⟨j,o',rfl,C,r⟩|⟨rfl,r⟩|⟨C,r,j3⟩
    ·have r:=mH r.symm;subst r;rw[sn C]at m;exact Y b Q hb (λq=>u q.symm) ((l.sep j Z C).2 B m).1
    ·rw[sb]at m;exact m
    ·rw[so y r C]at m;exact Y y Z j3 M m
def xr(H:AH)(S:List Nat)(O:List AO):Prop:=S.Nodup/\S.length=O.length/\∀(i s:Nat) (o:AO),S[i]?=some s->O[i]?=some o->H.get s=some (bT (bq S 0) o)/\o.own=true/\ltO O.length o=true
theorem HR.F8 (l:HR φ H n h0 h) (A:xr H S O) (hb:H.get b=some (.sep .emp)) (hbS:b∉S) {s0 T:Nat} (hs0:S[0]?=some s0) (hp:φ s0=some ⟨p.1,p.2,T⟩)
 (hH:∀x o,H'.get x=some o->(x=b/\o= .sep Q)∨(x≠b/\x∉S/\H.get x=some o)) (hQ:∀z X h,(xq O p).P z X h->Q.P z X h):
 ∃ψ,SLe φ ψ/\PLe φ ψ/\ψ.f=φ.f/\HR ψ H' n h0 h:=by
 have hbo:=l.nM hb
 have ofS:∀{i s},S[i]?=some s->∃o,O[i]?=some o/\H.get s=some (bT (bq S 0) o)/\o.own=true/\ltO O.length o=true:=λ{i s} e=>by
  have J:i<O.length:=by rw[<-A.2.1];exact(q0e.1 e).1
  exact⟨O[i],q0b J,A.2.2 i s O[i] e (q0b J)⟩
 have ofO:∀{i o},O[i]?=some o->∃s,S[i]?=some s:=λ{i o} e=>by
  have:=(q0e.1 e).1;rw[<-A.2.1]at this;exact⟨S[i],q0b this⟩
 let X:Nat->Prop:=λB=>(∃(i s:Nat) (q:Pl),S[i]?=some s/\φ s=some q/\q.B=B)∨∃(i s:Nat) (L:HP),S[i]?=some s/\O[i]?=some (AO.sep L)/\φ.s s B
 let Y:Ph:=⟨λi=>match S[i]? with|some s=>φ s|none=>none,φ.z,φ.y,λi=>match S[i]? with|some s=>φ.s s|none=>λ_=>False⟩
 have M:∀{i s},S[i]?=some s->Y i=φ s:=λ{i s} e=>by
  show(match S[i]? with|some s=>φ s|none=>none)=_;rw[e]
 have χs:∀{i s},S[i]?=some s->Y.s i=φ.s s:=λ{i s} e=>by
  show(match S[i]? with|some s=>φ.s s|none=>λ_=>False)=_;rw[e]
 have N:∀{i q},Y i=some q->∃s,S[i]?=some s/\φ s=some q:=λ{i q} e=>by
  have e:(match S[i]? with|some s=>φ s|none=>none)=some q:=e;cases hi:S[i]? with
  |none=>rw[hi]at e;cases e
  |some s=>rw[hi]at e;exact⟨s,rfl,e⟩
 have own:∀{i s q},S[i]?=some s->φ s=some q->∃o,O[i]?=some o/\H.get s=some (bT (bq S 0) o)/\(bT (bq S 0) o).own=true:=λ{i s q} e1 _=>by
  obtain⟨o,a,c,F,_⟩:=ofS e1;exact⟨o,a,c,by rw[iR];exact F⟩
 have hl:Loc Y O X h:=by
  refine⟨λi q e=>?_,λi o e=>?_,λi j q C e e' I=>?_,λB I=>?_,λi L e=>?_⟩
  ·obtain⟨s,a,c⟩:=N e;exact⟨by rw[<-A.2.1];exact(q0e.1 a).1,.inl ⟨i,s,q,a,c,rfl⟩⟩
  ·obtain⟨s,a⟩:=ofO e;obtain⟨c,F,h4⟩:=A.2.2 i s o a e;refine⟨F,?_⟩;rcases l.live s _ c with⟨G,t⟩|⟨q,ob,G,t,v,Z⟩
   ·exact .inl ⟨by rw[M a];exact G,by rw[kJ]at t;exact t⟩
   ·refine .inr ⟨q,ob,by rw[M a];exact G,v,?_⟩;have g5:=(OR.pull (χ:=φ) (r:=bq S 0)).1 Z;refine OR.below (m:=O.length) (χ:=Y) (ψ:=φ.pull (bq S 0)) (λb' p' hb' e'=>?_) (λ_ h=>h) h4 g5;have e':φ (bq S 0 b')=some p':=e';have J:b'<S.length:=by rw[A.2.1];exact hb'
    have hg:S[b']?=some S[b']:=q0b J;rw[cJ hg]at e';rw[M hg];exact e'
  ·obtain⟨s,a,c⟩:=N e;obtain⟨s',h1',h2'⟩:=N e';obtain⟨o,_,t,v⟩:=own a c;obtain⟨E,_,g2',g3'⟩:=own h1' h2';have:=l.inj s s' _ _ q C t g2' v g3' c h2' I;subst this;exact mI A.1 a h1'
  ·rcases I with⟨i,s,q,a,c,rfl⟩|⟨i,s,L,a,c,F⟩
   ·obtain⟨o,_,t,_⟩:=own a c;obtain⟨ob,_,v,_⟩:=l.of t c;exact⟨ob,v⟩
   ·exact L.ex _ _ _ B (l.sep s L (A.2.2 i s _ a c).1).1 F
  ·obtain⟨s,a⟩:=ofO e;obtain⟨k1,k2⟩:=l.sep s L (A.2.2 i s _ a e).1;rw[χs a];refine⟨k1,λB I=>?_⟩;obtain⟨G,t,v,Z⟩:=k2 B I;refine⟨.inr ⟨i,s,L,a,e,I⟩,λj q hj=>?_,λj Q2 hj w hsj=>?_⟩
   ·obtain⟨s',R,f2⟩:=N hj;obtain⟨o,_,f3,f4⟩:=own R f2;exact t s' _ q f3 f4 f2
   ·obtain⟨s',R⟩:=ofO hj;rw[χs R]at hsj;exact Z s' Q2 (A.2.2 j s' _ R hj).1 (λq=>w (by subst q;exact mI A.1 R a)) hsj
 let ψ:Ph:=⟨φ.f,φ.z,φ.y,λx=>if x=b then X else φ.s x⟩
 have sle:SLe φ ψ:=⟨λ_ _ h=>h,λ_ h=>h⟩
 have old:∀x o q,H'.get x=some o->o.own=true->φ x=some q->x≠b/\x∉S/\H.get x=some o:=λx o q U ho V=>by
  rcases hH x o U with⟨rfl,_⟩|h
  ·rw[hbo]at V;cases V
  ·exact h
 refine⟨ψ,sle,⟨λ_ _ h=>h,λ_ h=>h,λ_ h=>h⟩,rfl,⟨l.dom,λx o U=>?_,λx y o E q C U D ho d V k e=>l.inj x y o E q C (old x o q U ho V).2.2 (old y E C D d k).2.2 ho d V k e,l.base,l.size,λq V=>⟨⟨FzR.mono (φ:=φ) (ψ:=ψ) sle.z (l.frz q V).1.1,(l.frz q V).1.2⟩,λx o px U ho hpx=>(l.frz q V).2 x o px (old x o px U ho hpx).2.2 ho hpx⟩,λx L U=>?_⟩⟩
 ·rcases hH x o U with⟨rfl,rfl⟩|⟨_,_,F⟩
  ·exact .inl ⟨hbo,rfl⟩
  ·rcases l.live x o F with g|⟨q,ob,G,t,v,Z⟩
   ·exact .inl g
   ·exact .inr ⟨q,ob,G,t,v,Z.c9 sle⟩
 ·rcases hH x _ U with⟨rfl,c⟩|⟨a,c,F⟩
  ·injection c with c;subst c;have es:ψ.s x=X:=if_pos rfl
   rw[es];refine⟨hQ _ _ _ ⟨Y,λ_ h=>h,⟨T,by rw[M hs0];exact hp⟩,hl⟩,λB I=>?_⟩;rcases I with⟨i,s,q,a,c,rfl⟩|⟨i,s,Q2,a,c,F⟩
   ·obtain⟨o,_,t,v⟩:=own a c;obtain⟨ob,Z,_⟩:=l.of t c;rw[AO.bG v]at Z;refine⟨⟨(l.dom s q c).2,Z⟩,λy E C D d k e=>?_,λq2 hq2 e=>(l.frz q2 hq2).2 s _ q t v c e.symm,λy Q2 D w u=>?_⟩
    ·obtain⟨_,a2,a3⟩:=old y E C D d k;have:=l.inj y s E _ C q a3 t d v k c e;subst this;exact a2 (q0w a)
    ·rcases hH y _ D with⟨W,_⟩|⟨W,_,q3⟩
     ·exact w W
     ·have:ψ.s y=φ.s y:=if_neg W;rw[this]at u;exact((l.sep y Q2 q3).2 _ u).2.1 s _ q t v c rfl
   ·obtain⟨R,f2,f3,f4⟩:=(l.sep s Q2 (A.2.2 i s _ a c).1).2 B F;refine⟨R,λy E C D d k=>f2 y E C (old y E C D d k).2.2 d k,f3,λy Q3 D w u=>?_⟩;rcases hH y _ D with⟨W,_⟩|⟨W,q2,q3⟩
    ·exact w W
    ·have:ψ.s y=φ.s y:=if_neg W;rw[this]at u;exact f4 y Q3 q3 (λe=>q2 (e▸q0w a)) u
  ·obtain⟨k1,k2⟩:=l.sep x L F;have es:ψ.s x=φ.s x:=if_neg a;rw[es];refine⟨k1,λB I=>?_⟩;obtain⟨R,f2,f3,f4⟩:=k2 B I;refine⟨R,λy E C D d k=>f2 y E C (old y E C D d k).2.2 d k,f3,λy Q3 D w u=>?_⟩;rcases hH y _ D with⟨rfl,_⟩|⟨W,q2,q3⟩
   ·have:ψ.s y=X:=if_pos rfl
    rw[this]at u;rcases u with⟨i,s,q,G,t,v⟩|⟨i,s,Q2,G,t,v⟩
    ·obtain⟨o,_,j2,j3⟩:=own G t;exact f2 s _ q j2 j3 t v
    ·exact f4 s Q2 (A.2.2 i s _ G t).1 (λe=>c (e▸q0w G)) v
   ·have:ψ.s y=φ.s y:=if_neg W;rw[this]at u;exact f4 y Q3 q3 w u
theorem HR.hole(d:HR φ H n h0 h):∃ψ,PLe φ ψ/\HR ψ (H.set (some (.sep .emp)) aa n) (n+1) h0 h:=by
 have cs:∀x o,(H.set (some (.sep .emp)) aa n).get x=some o->(x=n/\o= .sep .emp)∨(x≠n/\H.get x=some o):=λx o a=>by
  rcases PM.an aa H n x o a with⟨t,i⟩|i
  ·injection i with i;exact .inl ⟨t,i.symm⟩
  ·exact .inr i
 have j:φ n=none:=by
  cases e:φ n with
  |none=>rfl
  |some q=>exact absurd (d.dom n q e).1 (q3o _)
 let ψ:Ph:=⟨φ.f,φ.z,φ.y,λx=>if x=n then(λ_=>False)else φ.s x⟩
 have own:∀x o q,(H.set (some (.sep .emp)) aa n).get x=some o->φ x=some q->H.get x=some o:=λx o q a c=>by
  rcases cs x o a with⟨rfl,_⟩|⟨_,I⟩
  ·rw[j]at c;cases c
  ·exact I
 have sle:SLe φ ψ:=⟨λ_ _ h=>h,λ_ h=>h⟩;refine⟨ψ,⟨λ_ _ h=>h,λ_ h=>h,λ_ h=>h⟩,⟨λx q a=>⟨by have:=(d.dom x q a).1;omega,(d.dom x q a).2⟩,λx o a=>?_,λx y o F q G a k ho u c l e=>d.inj x y o F q G (own x o q a c) (own y F G k l) ho u c l e,d.base,d.size,λq c=>⟨⟨FzR.mono (φ:=φ) (ψ:=ψ) sle.z (d.frz q c).1.1,(d.frz q c).1.2⟩,λx o px a ho m=>(d.frz q c).2 x o px (own x o px a m) ho m⟩,λx J a=>?_⟩⟩
 ·rcases cs x o a with⟨rfl,rfl⟩|⟨_,v⟩
  ·exact .inl ⟨j,rfl⟩
  ·rcases d.live x o v with g|⟨q,L,w,A,B,C⟩
   ·exact .inl g
   ·exact .inr ⟨q,L,w,A,B,C.c9 sle⟩
 ·rcases cs x _ a with⟨rfl,i⟩|⟨t,v⟩
  ·injection i with i;subst i;have es:ψ.s x=λ_=>False:=if_pos rfl
   rw[es];exact⟨λ_ h=>h,λX D=>D.elim⟩
  ·obtain⟨M,g⟩:=d.sep x J v;have es:ψ.s x=φ.s x:=if_neg t;rw[es];refine⟨M,λX D=>?_⟩;obtain⟨w,A,B,C⟩:=g X D;refine⟨w,λy o q k ho c=>A y o q (own y o q k c) ho c,B,λy N k E r=>?_⟩;rcases cs y _ k with⟨rfl,_⟩|⟨P,R⟩
   ·have:ψ.s y=λ_=>False:=if_pos rfl
    rw[this]at r;exact r
   ·have:ψ.s y=φ.s y:=if_neg P;rw[this]at r;exact C y N R E r
end
def sF:List AO->Nat->AH->AH
 | [],_,H=>H
 |o::O,k,H=>sF O (k+1) (H.set (some o) aa k)
theorem mQ:∀{O:List AO} {k:Nat} {H:AH} {x:Nat} {o:AO},(sF O k H).get x=some o->(∃i,x=k+i/\O[i]?=some o)∨((x<k∨k+O.length<=x)/\H.get x=some o)
 | [],k,H,x,o,h=> .inr ⟨by simp only[q1r];omega,h⟩
 |a::O,k,H,x,o,h=>by
  rcases mQ (O:=O) h with⟨i,rfl,d⟩|⟨d,e⟩
  ·exact .inl ⟨i+1,by omega,d⟩
  ·rcases PM.an aa H k x o e with⟨rfl,c⟩|⟨c,f⟩
   ·injection c with c;subst c;exact .inl ⟨0,rfl,rfl⟩
   ·exact .inr ⟨by simp only[q0a];omega,f⟩
def WR(b n:Nat)(p:Nat×Nat)(κ:PK):PK:=λv a f=>∃(S:List Nat) (c:List AO) (d:HP) (e:AH),xr a S c/\a.get b=some (.sep .emp)/\b∉S/\S[0]?=some n/\(∀z X h,(xq c p).P z X h->d.P z X h)/\(∀x o,e.get x=some o->(x=b/\o= .sep d)∨(x≠b/\x∉S/\a.get x=some o))/\κ v e f
section
variable {φ:Ph} {H:AH} {n:Nat} {h0 hp:Hp} {vs:Array Value} {κ:PK} {K:KH} {b:Nat} {O:List AO} {p:Nat×Nat} {Q:HP} {rest:List AV}
theorem al.N5 {f:FuncId} {run:List AV->AH->Nat->PK->Prop} (k:al f run) (C:HR φ H n h0 hp) (w:b<n) (D:H.get b=some (.sep Q)) (E:(xq O p).P φ.z (φ.s b) hp) (e:VRs φ (aA p::rest) vs.toList) (F:cD φ h0 κ K)
 (G:run (.ptr n 0::rest) (sF (O.map (bT λc=>n+c)) n (H.set (some (.sep .emp)) aa b)) (n+O.length) (WR b n p κ)):dK Tryz.prog f vs hp K:=by
 obtain⟨I,T,l,m,y⟩:=C.F7 (H':=sF (O.map (bT λc=>n+c)) n (H.set (some (.sep .emp)) aa b)) w D E λx o J=>by
  rcases mQ J with⟨i,t,j⟩|⟨t,j⟩
  ·rw[q1b,Z7]at j;obtain⟨L,j,q⟩:=j;exact .inl ⟨i,L,t,j,q.symm⟩
  ·rcases PM.an aa H b x o j with⟨q,r⟩|⟨q,r⟩
   ·injection r with r;exact .inr (.inl ⟨q,r.symm⟩)
   ·exact .inr (.inr ⟨q,by rw[q0g]at t;exact t,r⟩)
 obtain⟨M,N,R,A,U⟩:=e.cons_inv;have A:M=qR p:=A;subst A;refine k _ _ _ _ G I h0 hp vs K y (by rw[R];exact .cons (VR.oU m) (VRs.mono l _ _ U)) λχ v H2 V u g a W X ⟨S,O2,Q2,H3,Y,Z,g3,g4,g5,g6,g7⟩=>?_
 obtain⟨ω,_,d,_,B⟩:=W.F8 Y Z g3 g4 (a.b _ _ m) g6 g5;exact F ω v _ V u g ((l.trans a).trans d) B (VR.mono d _ _ X) g7
def WS(b:Nat)(κ:PK):PK:=λv a j=>∃(S:List Nat) (c:List AO) (d:Nat×Nat->HP) (e:Nat×Nat->AH) (g:Nat×Nat->AV) (s0:Nat) (i:AO),xr a S c/\a.get b=some (.sep .emp)/\b∉S/\S[0]?=some s0/\c[0]?=some i/\i.free=false/\(∀p z X h,(xq c p).P z X h->(d p).P z X h)/\(∀p x o,(e p).get x=some o->(x=b/\o= .sep (d p))∨(x≠b/\x∉S/\a.get x=some o))/\(∀p φ T u,φ.f s0=some ⟨p.1,p.2,T⟩->VR φ v u->VR φ (g p) u)/\∀p,κ (g p) (e p) j
theorem al.WT {f:FuncId} {run:List AV->AH->Nat->PK->Prop} (j:al f run) {args:List AV} (I:HR φ H n h0 hp) (d:VRs φ args vs.toList) (D:cD φ h0 κ K)
 (J:run args (H.set (some (.sep .emp)) aa n) (n+1) λv r k=>WS n κ v r k∨∃l,(∀x o,l.get x=some o->r.get x=some o)/\κ v l k):dK Tryz.prog f vs hp K:=by
 obtain⟨L,i,t⟩:=I.hole;refine j _ _ _ _ J L h0 hp vs K t (VRs.mono i _ _ d) λM v r k u g a w E N=>?_
 rcases N with⟨S,O2,P,l,v2,s0,R,m,y,U,F,V,W,X,Y,Z,z⟩|⟨l,m,y⟩
 ·obtain⟨j1,j2,j3⟩:=m.2.2 0 s0 R F V;rcases w.live s0 _ j1 with⟨_,G⟩|⟨q,ob,A,_⟩
  ·rw[kJ,W]at G;cases G
  ·have e:q=⟨(q.B,q.s).1,(q.B,q.s).2,q.T⟩:=rfl
   rw[e]at A;obtain⟨ω,_,c,_,C⟩:=w.F8 (Q:=P (q.B,q.s)) m y U F A (Y _) (X _);exact D ω _ _ k u g ((i.trans a).trans c) C (VR.mono c _ _ (Z _ _ _ _ A E)) (z _)
 ·exact D M v l k u g (i.trans a) (w.less m) E y
end
def cn(p:Nat×Nat)(S:Sr)(L:Smp):HP:=HP.exi (λC:Ck5=>jL S C/\ah C=L) λC=>xq (iT S (pts C) C) p
def iZ(S:Sr)(L:Smp):Prop:=∃C,jL S C/\ah C=L
def mb(H:AH)(n:Nat):Prop:=n<800000/\PM.get H n=none/\PM.get H (n+1)=none/\PM.get H (n+2)=none/\PM.get H (n+3)=none
def opS (H:AH) (n b:Nat) (S:Sr) (C:Ck5):AH:=PM.set (some (dA S C)) aa (PM.set (some (.cells (aZ (pts C)) true)) aa (PM.set (some (.cells (c8 S (n+1) (pts C).length) true)) aa (PM.set (some (.sep .emp)) aa H b) n) (n+1)) (n+2)
theorem Bu(H:AH)(n b:Nat)(S:Sr)(C:Ck5):sF ((iT S (pts C) C).map (bT λc=>n+c)) n (PM.set (some (.sep .emp)) aa H b)=opS H n b S C:=by
 show sF [bT _ (.cells (c8 S 1 (pts C).length) true),bT _ (.cells (aZ (pts C)) true),bT _ (dA S C)] n _=_
 (try simp only[bT,jK])
 rfl
section
variable {H:AH} {n b:Nat} {S:Sr} {C:Ck5}
theorem pc(hn:n<800000):eT (opS H n b S C) (n+3) n (n+1) (n+2) S (pts C) C:=
 ⟨⟨by omega,by omega,by omega⟩,⟨by omega,by omega,by omega⟩,
  PM.aG aa _ _ _ (aI (by omega)) (by omega) (PM.aG aa _ _ _ (aI (by omega)) (by omega) (PM.bN aa _ _ (aI (by omega)))),
  PM.aG aa _ _ _ (aI (by omega)) (by omega) (PM.bN aa _ _ (aI (by omega))),PM.bN aa _ _ (aI (by omega))⟩
theorem Ig(a:b<n)(hn:n<800000):PM.get (opS H n b S C) b=some (.sep .emp):=
 PM.aG aa _ _ _ (aI (by omega)) (by omega) (PM.aG aa _ _ _ (aI (by omega)) (by omega) (PM.aG aa _ _ _ (aI (by omega)) (by omega) (PM.bN aa _ _ (aI (by omega)))))
theorem N6(hn:n<800000){x:Nat}{o:AO}(d:x<n∨n+3<=x)(a:x≠b)(c:b<n)(h:PM.get H x=some o):PM.get (opS H n b S C) x=some o:=
 PM.aG aa _ _ _ (aI (by omega)) (by omega) (PM.aG aa _ _ _ (aI (by omega)) (by omega) (PM.aG aa _ _ _ (aI (by omega)) (by omega) (PM.aG aa _ _ _ (aI (by omega)) a h)))
theorem mb.ne(a:mb H n){x:Nat}{o:AO}(h:PM.get H x=some o):x≠n/\x≠n+1/\x≠n+2/\x≠n+3:=
 have key:∀m,PM.get H m=none->x≠m:=λm c e=>by rw[e,c]at h;cases h
 ⟨key _ a.2.1,key _ a.2.2.1,key _ a.2.2.2.1,key _ a.2.2.2.2⟩
theorem eT.zC{d:AH}{e r k q:Nat}(h:eT d e r k q S (pts C) C):xr d [r,k,q] (iT S (pts C) C):=
 ⟨by simp[h.ne.1,h.ne.2.1,h.ne.2.2],rfl,λi s o a c=>by
  match i,a,c with
  |0,a,c=>injection a with a;injection c with c;subst a c;exact⟨h.hr,rfl,rfl⟩
  |1,a,c=>injection a with a;injection c with c;subst a c;exact⟨by rw[bT,jK];exact h.hk,rfl,pQ _ _⟩
  |2,a,c=>injection a with a;injection c with c;subst a c;exact⟨h.hq,rfl,rfl⟩⟩
theorem KF{a r k q:Nat}{S':Sr}{C':Ck5}{c:AH}(e:r<a/\k<a/\q<a)(d:r≠k/\r≠q/\k≠q)(hn:a<890000):eT (ga c a r k q S' (pts C') C') (a+1) r a q S' (pts C') C':=
 ⟨⟨by omega,by omega,by omega⟩,⟨by omega,by omega,by omega⟩,PM.bN aa _ _ (aI (by omega)),
  PM.aG aa _ _ _ (aI (by omega)) (by omega) (PM.aG aa _ _ _ (aI (by omega)) (by omega) (PM.aG aa _ _ _ (aI (by omega)) (by omega) (PM.bN aa _ _ (aI (by omega))))),
  PM.aG aa _ _ _ (aI (by omega)) (by omega) (PM.aG aa _ _ _ (aI (by omega)) (by omega) (PM.bN aa _ _ (aI (by omega))))⟩
theorem D0{a r k q:Nat}{S':Sr}{C':Ck5}{d:AH}(hn:a<890000)(e:r<a/\k<a/\q<a){x:Nat}{o:AO}(c:x≠r/\x≠k/\x≠q/\x≠a)(h:PM.get d x=some o):PM.get (ga d a r k q S' (pts C') C') x=some o:=
 PM.aG aa _ _ _ (aI (by omega)) c.1 (PM.aG aa _ _ _ (aI (by omega)) c.2.1 (PM.aG aa _ _ _ (aI (by omega)) c.2.2.1 (PM.aG aa _ _ _ (aI (by omega)) c.2.2.2 h)))
end
section
variable {f:FuncId} {run:List AV->AH->Nat->PK->Prop} {φ:Ph} {H:AH} {n:Nat} {h0 hp:Hp} {vs:Array Value} {κ:PK} {K:KH} {b:Nat} {p:Nat×Nat} {S:Sr} {L:Smp} {rest:List AV}
theorem KI (j:al f run) (r:HR φ H n h0 hp) (c:b<n) (q:PM.get H b=some (.sep (cn p S L))) (k:mb H n) (d:VRs φ (aA p::rest) vs.toList) (A:cD φ h0 κ K)
 (B:∀C,jL S C->ah C=L->∃v,run (.ptr n 0::rest) (opS H n b S C) (n+3) (λu s t=>u=v/\s=opS H n b S C/\t=n+3)/\κ v H (n+3)):dK Tryz.prog f vs hp K:=by
 obtain⟨C,⟨w,y⟩,D⟩:=(r.sep b _ q).1;obtain⟨v,E,F⟩:=B C w y;have G:al f λargs H n κ=>∃a:PK,run args H n a/\∀v l m,a v l m->κ v l m:=λargs H n κ ⟨a,I,J⟩ φ h0 h vs K M N O=>j args H n a I φ h0 h vs K M N λP v l m u g Q R T U=>O P v l m u g Q R T (J _ _ _ U)
 refine G.N5 r c q D d A ?_;rw[Bu];refine⟨_,E,λu s t ⟨V,W,Y⟩=>?_⟩;subst V W Y;refine⟨[n,n+1,n+2],_,cn p S L,H,(pc k.1).zC,Ig c k.1,by simp;omega,rfl,λz X h Z=>⟨C,⟨w,y⟩,Z⟩,λx o i=>?_,F⟩;by_cases e:x=b
 ·subst e;rw[q]at i;injection i with i;exact .inl ⟨rfl,i.symm⟩
 ·have:=k.ne i;exact .inr ⟨e,by simp;omega,N6 k.1 (by omega) e c i⟩
theorem KJ (k:al f run) (t:HR φ H n h0 hp) (c:b<n) (r:PM.get H b=some (.sep (cn p S L))) (i:mb H n) (d:VRs φ (aA p::rest) vs.toList) (D:cD φ h0 κ K)
 (E:∀C,jL S C->ah C=L->∃v o,run (.ptr n 0::rest) (opS H n b S C) (n+3) (λu w y=>u=v/\w=PM.set (some o) aa (opS H n b S C) (n+3)/\y=n+4)/\κ v (PM.set (some o) aa H (n+3)) (n+4)):dK Tryz.prog f vs hp K:=by
 obtain⟨C,⟨A,B⟩,F⟩:=(t.sep b _ r).1;obtain⟨v,G,I,J⟩:=E C A B;have M:al f λargs H n κ=>∃a:PK,run args H n a/\∀v m q,a v m q->κ v m q:=λargs H n κ ⟨a,N,O⟩ φ h0 h vs K P Q R=>k args H n a N φ h0 h vs K P Q λT v m q u g U V W Y=>R T v m q u g U V W (O _ _ _ Y)
 refine M.N5 t c r F d D ?_;rw[Bu];refine⟨_,I,λu w y ⟨Z,e2,e3⟩=>?_⟩;subst Z e2 e3
 have s:eT (PM.set (some G) aa (opS H n b S C) (n+3)) (n+4) n (n+1) (n+2) S (pts C) C:=by
  have:=pc (H:=H) (b:=b) (S:=S) (C:=C) i.1;have hn:=i.1;exact⟨this.ne,⟨by omega,by omega,by omega⟩,PM.aG aa _ _ _ (aI (by omega)) (by omega) this.hr,PM.aG aa _ _ _ (aI (by omega)) (by omega) this.hk,PM.aG aa _ _ _ (aI (by omega)) (by omega) this.hq⟩
 have hn:=i.1;refine⟨[n,n+1,n+2],_,cn p S L,_,s.zC,PM.aG aa _ _ _ (aI (by omega)) (by omega) (Ig c i.1),by simp;omega,rfl,λz X h hh=>⟨C,⟨A,B⟩,hh⟩,λx o hx=>?_,J⟩;rcases PM.an aa H (n+3) x o hx with⟨rfl,l⟩|⟨l,j⟩
 ·injection l with l;subst l;exact .inr ⟨by omega,by simp,PM.bN aa _ _ (aI (by omega))⟩
 ·by_cases e:x=b
  ·subst e;rw[r]at j;injection j with j;exact .inl ⟨rfl,j.symm⟩
  ·have:=i.ne j;exact .inr ⟨e,by simp;omega,PM.aG aa _ _ _ (aI (by omega)) l (N6 i.1 (by omega) e c j)⟩
theorem xt (i:al f run) (r:HR φ H n h0 hp) (c:b<n) (s:PM.get H b=some (.sep (cn p S L))) (j:mb H n) (d:VRs φ (aA p::rest) vs.toList) (D:cD φ h0 κ K) {v:AV} {S':Sr} {k:Smp}
 (E:∀C,jL S C->ah C=L->run (.ptr n 0::rest) (opS H n b S C) (n+3) (λu t w=>u=v/\∃C',jL S' C'/\ah C'=k/\t=ga (opS H n b S C) (n+3) n (n+1) (n+2) S' (pts C') C'/\w=n+4))
 (q:iZ S' k->κ v (PM.set (some (.sep (cn p S' k))) aa H b) (n+4)):dK Tryz.prog f vs hp K:=by
 obtain⟨C,⟨F,G⟩,I⟩:=(r.sep b _ s).1;have J:=E C F G;have M:al f λargs H n κ=>∃a:PK,run args H n a/\∀v l m,a v l m->κ v l m:=λargs H n κ ⟨a,N,O⟩ φ h0 h vs K P Q R=>i args H n a N φ h0 h vs K P Q λT v l m u g U V W Y=>R T v l m u g U V W (O _ _ _ Y)
 refine M.N5 r c s I d D ?_;rw[Bu];refine⟨_,J,λu t w ⟨Z,C',y,A,e2,e3⟩=>?_⟩;subst Z e2 e3;have hn:=j.1;refine⟨[n,n+3,n+2],_,cn p S' k,_,(KF (by omega) (by omega) (by omega)).zC,D0 (by omega) (by omega) (by omega) (Ig c j.1),by simp;omega,rfl,λz X h hh=>⟨C',⟨y,A⟩,hh⟩,λx o hx=>?_,q ⟨C',y,A⟩⟩;rcases PM.an aa H b x o hx with⟨rfl,e⟩|⟨e,B⟩
 ·injection e with e;exact .inl ⟨rfl,e.symm⟩
 ·have:=j.ne B;exact .inr ⟨e,by simp;omega,D0 (by omega) (by omega) (by omega) (N6 j.1 (by omega) e c B)⟩
end
abbrev s0:Sr:=⟨128,10,3,-1,0⟩
abbrev s1:Sr:=⟨128,10,3,5,0⟩
abbrev s2:Sr:=⟨128,10,3,20,10⟩
def kM (C:Ck5):AH:=mkH [(0,.cells (c8 s2 1 (pts C).length) true),(1,.cells (aZ (pts C)) true),(2,dA s2 C),(3,.cells [.int .i64 20,.int .i64 2] true),(4,.cells (smp [(20,2),(10,3)]) true)]
def sG(B:Sr->Smp->List AV->AV->Prop)(args:List AV)(H:AH)(n:Nat)(κ:PK):Prop:=match args with
 |x::a=>∃(b:Nat) (p:Nat×Nat) (S:Sr) (L:Smp) (v:AV),x=aA p/\b<n/\PM.get H b=some (.sep (cn p S L))/\mb H n/\B S L a v/\κ v H (n+3)
 |_=>False
theorem pe{f:FuncId}{A:Sr->Ck5->List AV->AV->Prop}{B:Sr->Smp->List AV->AV->Prop}(g:al f (mO A))(h:∀S C L d v,jL S C->ah C=L->B S L d v->A S C d v):al f (sG B):=λargs H n t c u i w x K j a k=>by
 unfold sG at c;split at c
 ·obtain⟨b,p,S,L,v,rfl,l,m,e,o,q⟩:=c;exact KI g j l m e a k λC r s=>⟨v,⟨n,n+1,n+2,S,C,v,rfl,pc e.1,h S C L _ v r s o,rfl,rfl,rfl⟩,q⟩
 ·exact c.elim
def Q6(S:Sr)(_:Smp)(a:List AV)(v:AV):Prop:=a=[]/\v= .si .i64 S.mx
def UA(S:Sr)(_:Smp)(a:List AV)(v:AV):Prop:=a=[]/\v= .si .i64 S.ret
def UB(S:Sr)(_:Smp)(a:List AV)(v:AV):Prop:=a=[]/\v= .si .i64 S.pol
def UC(_:Sr)(L:Smp)(a:List AV)(v:AV):Prop:=a=[]/\v=sw L
def SO(_:Sr)(L:Smp)(a:List AV)(v:AV):Prop:=a=[]/\v= .si .i64 (L.length:Int)
theorem WU:al 24 (sG Q6):=pe WC λS C L d v a _ ⟨b,c⟩=>⟨b,a.gt.lo,c⟩
theorem WV:al 85 (sG UA):=pe WG λS C L d v a _ ⟨b,c⟩=>⟨b,a.gt.lo,c⟩
theorem WW:al 86 (sG UB):=pe WJ λS C L d v a _ ⟨b,c⟩=>⟨b,a.gt.lo,c⟩
theorem WX:al 18 (sG UC):=pe QP λS C L e v a b ⟨c,d⟩=>by
 subst b;exact⟨c,a.gt,by have:=a.few;omega,d⟩
theorem UD:al 57 (sG SO):=pe Uu λS C L e v a b ⟨c,d⟩=>by
 subst b;exact⟨c,a.okc,by have:=a.few;omega,d⟩
def D1(B:Smp->List AV->Smp->Prop)(args:List AV)(H:AH)(n:Nat)(κ:PK):Prop:=match args with
 |x::a=>∃(b:Nat) (p:Nat×Nat) (S:Sr) (L O:Smp),x=aA p/\b<n/\PM.get H b=some (.sep (cn p S L))/\mb H n/\B L a O/\κ (.rw (n+3) 0 O.length 2 0) (PM.set (some (.cells (smp O) true)) aa H (n+3)) (n+4)
 |_=>False
theorem N7{f:FuncId}{A:Sr->Ck5->List AV->Smp->Prop}{B:Smp->List AV->Smp->Prop}(i:al f (NZ A))(h:∀S C L g O,jL S C->ah C=L->B L g O->A S C g O):al f (D1 B):=λargs H n w d x j y z K k a l=>by
 unfold D1 at d;split at d
 ·obtain⟨b,p,S,L,O,rfl,m,r,c,s,t⟩:=d;refine KJ i k m r c a l λC u v=>⟨_,_,⟨n,n+1,n+2,S,C,O,rfl,pc c.1,⟨by have:=c.1;omega,?_⟩,h S C L _ O u v s,rfl,rfl,rfl⟩,t⟩
  cases e:PM.get (opS H n b S C) (n+3)with
  |none=>rfl
  |some o=>
   have D:=c.1;rcases PM.an aa _ _ _ _ e with⟨q,_⟩|⟨_,e⟩
   ·omega
   rcases PM.an aa _ _ _ _ e with⟨q,_⟩|⟨_,e⟩
   ·omega
   rcases PM.an aa _ _ _ _ e with⟨q,_⟩|⟨_,e⟩
   ·omega
   rcases PM.an aa _ _ _ _ e with⟨q,_⟩|⟨_,e⟩
   ·omega
   rw[c.2.2.2.2]at e;cases e
 ·exact d.elim
def D3(L:Smp)(c:List AV)(O:Smp):Prop:=∃y z a b,c=[y,z]/\mk y= .si .i64 a/\mk z= .si .i64 b/\O=bH a b L
theorem SQ:al 21 (D1 D3):=N7 WQ λS C L i O c d ⟨y,z,a,b,e,f,g,h⟩=>by
 subst d;exact⟨y,z,a,b,e,f,g,c.okc,c.gt.up,by have:=c.few;omega,h⟩
def Ih(args:List AV)(H:AH)(n:Nat)(κ:PK):Prop:=match args with
 | [x,y,z]=>∃(b:Nat) (p:Nat×Nat) (S:Sr) (L:Smp) (t v q:Int) (a:Sr) (c:Smp) (e:Int),x=aA p/\b<n/\PM.get H b=some (.sep (cn p S L))/\mb H n/\nK y t v/\mk z= .si .i64 q/\aR v/\L.length<=40000/\gY S L t v q=((a,c),e)/\(iZ a c->κ (.si .i64 e) (PM.set (some (.sep (cn p a c))) aa H b) (n+4))
 |_=>False
theorem UE:al 72 Ih:=λargs H n D c E g F G K h a i=>by
 unfold Ih at c;split at c
 ·obtain⟨b,p,S,L,t,v,q,j,k,e,rfl,l,m,f,o,r,s,u,w,d⟩:=c;exact xt Uw h l m f a i (λC x y=>⟨n,n+1,n+2,S,C,t,v,q,L,j,k,e,rfl,o,r,pc f.1,x,s,y,u,w,λz A B=>⟨rfl,z,A,B,rfl,rfl⟩⟩) d
 ·exact c.elim
def Ii(args:List AV)(H:AH)(n:Nat)(κ:PK):Prop:=match args with
 | [x,y,z]=>∃(b:Nat) (p:Nat×Nat) (S:Sr) (L:Smp) (a c:Int) (d:Smp) (m:Nat),x=aA p/\b<n/\PM.get H b=some (.sep (cn p S L))/\mb H n/\mk y= .si .i64 a/\mk z= .si .i64 c/\L.length<=40000/\aO L a c=d/\L.length-d.length=m/\(iZ S d->κ (.si .i64 (m:Int)) (PM.set (some (.sep (cn p S d))) aa H b) (n+4))
 |_=>False
theorem UF:al 100 Ii:=λargs H n A e B i D E K j d k=>by
 unfold Ii at e;split at e
 ·obtain⟨b,p,S,L,a,c,l,m,rfl,o,q,h,r,s,t,u,f,g⟩:=e;exact xt Ux j o q h d k (λC v w=>⟨n,n+1,n+2,S,C,a,c,L,l,m,rfl,r,s,pc h.1,v,w,t,u,f,λx y z=>⟨rfl,x,y,z,rfl,rfl⟩⟩) g
 ·exact e.elim
def Ij(args:List AV)(H:AH)(n:Nat)(κ:PK):Prop:=match args with
 | [x,y,z]=>∃(b:Nat) (p:Nat×Nat) (S:Sr) (L:Smp) (r q:Int) (a:Sr) (c:Smp) (e:Int),x=aA p/\b<n/\PM.get H b=some (.sep (cn p S L))/\mb H n/\mk y= .si .i64 r/\mk z= .si .i64 q/\L.length<=40000/\jM S L r q=((a,c),e)/\(iZ a c->κ (.si .i64 e) (PM.set (some (.sep (cn p a c))) aa H b) (n+4))
 |_=>False
theorem UG:al 108 Ij:=λargs H n A c B g D E K h a i=>by
 unfold Ij at c;split at c
 ·obtain⟨b,p,S,L,r,q,j,k,e,rfl,l,m,f,o,s,t,u,d⟩:=c;exact xt Uy h l m f a i (λC v w=>⟨n,n+1,n+2,S,C,r,q,L,j,k,e,rfl,o,s,pc f.1,v,w,t,u,λx y z=>⟨rfl,x,y,z,rfl,rfl⟩⟩) d
 ·exact c.elim
theorem KK{H:AH}{n:Nat}{S:Sr}(hn:n<900000):eT (xm H n S) (n+3) n (n+1) (n+2) S (pts []) []:=
 ⟨⟨by omega,by omega,by omega⟩,⟨by omega,by omega,by omega⟩,PM.gne (by omega) (by omega) (PM.gne (by omega) (by omega) (PM.geq (by omega))),PM.gne (by omega) (by omega) (PM.geq (by omega)),PM.geq (by omega)⟩
theorem D4{H:AH}{n x:Nat}{S:Sr}{o:AO}(hn:n<900000)(a:x≠n/\x≠n+1/\x≠n+2)(h:PM.get H x=some o):PM.get (xm H n S) x=some o:=
 PM.gne (by omega) a.2.2 (PM.gne (by omega) a.2.1 (PM.gne (by omega) a.1 h))
def Bv(args:List AV)(H:AH)(n:Nat)(κ:PK):Prop:=match args with
 | [x,y,z]=>∃(sz ret q:Int) (r:Option Sr),mk x= .si .i64 sz/\mk y= .si .i64 ret/\mk z= .si .i64 q/\mb H n/\qd sz ret q=r/\match r with
  |none=>κ (.tup [.nil,.int .i64 1]) H (n+1)
  |some S=>∀p,iZ S []->κ (.tup [aA p,.int .i64 0]) (PM.set (some (.sep (cn p S []))) aa H n) (n+4)
 |_=>False
theorem UH:al 104 Bv:=λargs H n J d l m L M K s a t=>by
 unfold Bv at d;split at d
 ·obtain⟨sz,ret,q,r,v,y,A,i,B,k⟩:=d;have N:=i.1;refine Uz.WT s a t ?_;refine⟨sz,ret,q,r,v,y,A,by omega,B,?_⟩;cases r with
  |none=>
   refine .inr ⟨H,λx o f=>PM.gne (by omega) (i.ne f).1 f,k⟩
  |some S=>
   intro c;refine .inl ⟨[n+1,n+2,n+3],iT S (pts []) [],λp=>cn p S [],λp=>PM.set (some (.sep (cn p S []))) aa H n,λp=> .tup [aA p,.int .i64 0],n+1,_,(KK (by omega)).zC,D4 (by omega) (by omega) (PM.geq (by omega)),by simp,rfl,rfl,rfl,λp z X h C=>⟨[],⟨c,rfl⟩,C⟩,λp x o f=>?_,λp l T u j D=>?_,λp=>k p ⟨[],c,rfl⟩⟩
   ·rcases PM.an aa H n x o f with⟨rfl,e⟩|⟨g,b⟩
    ·injection e with e;exact .inl ⟨rfl,e.symm⟩
    ·have:=i.ne b;exact .inr ⟨g,by simp;omega,D4 (by omega) (by omega) (PM.gne (by omega) g b)⟩
   ·obtain⟨cs,rfl,E⟩:=D.fm;obtain⟨w,us,F,g,G⟩:=E.cons_inv;obtain⟨pl,b,I⟩:=g.cx;rw[j]at b;injection b with b;subst b;exact .tup (by rw[F];exact .cons (by subst I;exact rfl) G)
 ·exact d.elim
def xu(args:List AV)(H:AH)(n:Nat)(κ:PK):Prop:=match args with
 | []=>κ (.sb true) H n
 |_=>False
theorem Q7:iC xu:= .pure λargs H n c a=>by
 unfold xu at*;split at a
 ·exact⟨_,a,λb h=>h⟩
 ·exact a.elim
theorem ae.aA{H:AH}{m:Nat}{r:Nat->Nat}{a:AV}{p:Nat×Nat}(e:a=Go.Proofs.YtflehenfikoniaaGreat.aA p):ae H m r a (Go.Proofs.YtflehenfikoniaaGreat.aA p):=by
 subst e;exact λb c v _ _ h=>h
theorem mG.YD{H:AH}{a:AV}{O:Smp}{b:Nat}(c:a= .rw b 0 O.length 2 0)(d:PM.get H b=some (.cells (smp O) true)):mG H a O:= .inr (.inl (.inl ⟨b,0,0,smp O,smp O,⟨c,by decide⟩,.inr ⟨true,d⟩,fA O,bM O⟩))
theorem KM(L:Smp):lp L L=true:=by unfold lp;exact decide_eq_true rfl
def look(L:Smp)(t:Int):Option Int:=if has L t then some (vAt L (plc L t))else none
theorem mR{L:Smp}{a b:Int}{x:Int×Int}:x∈aO L a b<->x∈L/\(x.1<a∨b<x.1):=by unfold aO;rw[q1d];simp
theorem xx{L:Smp}{a b:Int}{x:Int×Int}:x∈bH a b L<->x∈L/\(a<=x.1/\x.1<=b):=by unfold bH;rw[q1d];simp
theorem iZ.up{S:Sr}{L:Smp}(h:iZ S L):Up L:=by obtain⟨C,a,rfl⟩:=h;exact a.gt.up
theorem iZ.eE{S:Sr}{L:Smp}(h:iZ S L):∀x∈L,(0<=x.1/\x.1<1099511627776)/\aR x.2:=by
 obtain⟨C,b,rfl⟩:=h;intro x a;obtain⟨l,d,a⟩:=List.mem_flatten.1 a;obtain⟨c,e,rfl⟩:=q0p.1 d;exact(b.gt.eE c e).2.1 x a
def Q8:DT:=[(8,[(some 1000000,[1,3]),(none,[0,1,2,3,4,5,6,7]),(none,[0,2,3,1,4,5,6,7])])]
def UI:FuncId->EP:=aX 58 Q8 (ao 118 xc evP)
theorem Ik:aS UI:=au (ab az Qt) (by kernel_rfl) (by kernel_rfl)
def cyM (S:Sr) (C C':Ck5):AH:=mkH [(0,.cells (c8 S 1 (pts C).length) true),(1,.cells (aZ (pts C)) true),(2,dA S C),(3,dA S C'),(4,.cells (c8 S 5 (pts C').length) true),(5,.cells (aZ (pts C')) true)]
abbrev cyo(C:Ck5)(i:Nat):List (Nat×AV):=[(3,.ptr 4 0),(16,.rw 1 0 (pts C).length 1 0),(17,.si .i64 ((pts C).length:Int)),(18,.si .i64 (i:Int))]
theorem Il (k:Nat) {σ:AE} {H:AH} {n:Nat} {S:Sr} {C C':Ck5} {f:AV} (le:List (Nat×AV)) (w:5<=k) (h:∀x∈le,ae H 6 (λc=>if c=5 then k else c) (ai (pa x.1) σ) x.2) (i:PM.get H 0=some (.cells (c8 S 1 (pts C).length) true)) (j:PM.get H 1=some (.cells (aZ (pts C)) true)) (o:PM.get H 2=some (dA S C)) (r:PM.get H 3=some (dA S C'))
 (s:PM.get H 4=some (.cells [.si .i64 (S.sz:Int),.si .i64 S.ret,.si .i64 S.pol,.si .i64 S.mx,.si .i64 S.fl,f] true)) (d:ae H 6 (λc=>if c=5 then k else c) f (.rw 5 0 (pts C').length 1 0)) (t:(∃l,PM.get H k=some (.cells l true)/\l.map mk=aZ (pts C'))∨(C'=[]/\n<=k)):Cov 4 σ H n (mkE le,cyM S C C',6):=by
 refine Cov.ofR (m:=6) (p:=4) (λc=>if c=5 then k else c) (by decide) (λb z=>if_neg (by omega)) h ?_ (λx a y g e=>?_)
 ·intro x a;simp only[Z5,Z4,or_false]at a;rcases a with rfl|rfl|rfl|rfl|rfl|rfl
  ·exact⟨Z0 rfl,.inl ⟨_,i,ak.c8 rfl rfl rfl rfl rfl (ae.rw (Z0 rfl) rfl)⟩⟩
  ·exact⟨Z0 rfl,.inl ⟨_,j,ak.aZ (aB _)⟩⟩
  ·exact⟨Z0 rfl,.inl ⟨_,o,ak.sep _⟩⟩
  ·exact⟨Z0 rfl,.inl ⟨_,r,ak.sep _⟩⟩
  ·exact⟨Z0 rfl,.inl ⟨_,s,ak.c8 rfl rfl rfl rfl rfl d⟩⟩
  ·exact⟨Z0 rfl,t.elim (λ⟨l,u,v⟩=> .inl ⟨_,u,ak.aZ v⟩) (λq=> .inr ⟨by rw[q.1];rfl,q.2⟩)⟩
 ·simp only[Z5,Z4,or_false]at a g;rcases a with rfl|rfl|rfl|rfl|rfl|rfl<;>rcases g with rfl|rfl|rfl|rfl|rfl|rfl<;>simp at e⊢<;>omega
theorem Bw{H:AH}{σ:AE}{C:Ck5}{k i:Nat}(f:ai (pa 3) σ= .ptr 4 0)(a:ai (pa 16) σ= .rw 1 0 (pts C).length 1 0)(b:mk (ai (pa 17) σ)= .si .i64 ((pts C).length:Int))(d:mk (ai (pa 18) σ)= .si .i64 (i:Int)):∀x∈cyo C i,ae H 6 (λc=>if c=5 then k else c) (ai (pa x.1) σ) x.2:=λx e=>by
 simp only[Z5,Z4,or_false]at e;rcases e with rfl|rfl|rfl|rfl
 ·exact ae.ptr (Z0 rfl) f
 ·exact ae.rw (Z0 rfl) a
 ·exact ae.int b
 ·exact ae.int d
def CyP(S:Sr)(C:Ck5):PK:=λu b m=>u= .ptr 4 0/\m=6/\∃a,cnt a=cnt C/\b=cyM S C a
theorem KO(S:Sr)(C:Ck5)(f:Okc S C):gi (ax UI 5 58) [.ptr 0 0] (mkH (bE (iT S (pts C) C++ [dA S []]) 0)) 4 (CyP S C):=by
 have r:=f.few;have l:=f.lo;show ax UI 5 _ _ _ _ _
 conv=>whnf
 refine ag.du (λz=>absurd (show(0:Int)<(S.sz:Int) by omega) z) (λ_=>?_)
 conv=>whnf
 refine aN.mk {x:Nat×Ck5//x.1<=C.length/\cnt x.2=(cnt C).take x.1} 6 (λx=>(mkE (cyo C x.val.1),cyM S C x.val.2)) (λx=>C.length-x.val.1) ⟨(0,[]),Z9 _,rfl⟩ ?_ ?_
 focus
  exact Il (C':=[]) 5 _ (Z3 _) (Bw rfl rfl rfl rfl) rfl rfl rfl rfl rfl (ae.iD rfl) (.inr ⟨rfl,Z3 _⟩)
 intro⟨(i,a),n,b⟩;dsimp only at n b;have g:IntKind.i64.wrap ((i:Int)+1)=((i+1:Nat):Int):=by rw[aj (by omega) (by omega)];omega
 have o:a.length=i:=by have:=congrArg List.length b;rw[ez,q0l,ez]at this;omega
 conv=>whnf
 refine ag.dec (λh=>?_) (λh=>?_)
 focus
  have c:i<C.length:=by
   have h:(i:Int)<((pts C).length:Int):=h;rw[aw]at h;omega
  have d:∀q,cnt (a++ [(q,C[i].2)])=(cnt C).take (i+1):=λq=>by
   rw[q0c (by rw[ez];exact c),<-b];unfold cnt;rw[q0x,List.getElem_map];rfl
  have j:∀q,(aZ (pts a)++ [aA q]).map mk=aZ (pts (a++ [(q,C[i].2)])):=λq=>by rw[kC,sr,q0x,aB];rfl
  have e:∀q,(pts a).length+1=(pts (a++ [(q,C[i].2)])).length:=λq=>by rw[aw,aw,Z6];rfl
  conv=>whnf
  refine Idx.mk i rfl (by rw[aw];exact c) ?_
  conv=>whnf
  refine aq (dZ c (show 0+i*1=i by omega)) ?_
  conv=>whnf
  refine⟨?_,?_,trivial⟩
  focus
   conv=>whnf
   refine⟨2,3,S.sz,C.take i,C.drop (i+1),a,C[i].1,C[i].2,λq=>a++ [(q,C[i].2)],rfl,⟨by decide,by decide,rfl,congrArg some (pS c)⟩,by decide,⟨by decide,by decide,rfl,rfl⟩,rfl,by decide,by omega,λq=>⟨fq.refl _ _,?_⟩⟩
   conv=>whnf
   refine bF.grow 1 8 1 (pts a).length [aA q] (aZ (pts a)) _ true DL (.old rfl) rfl rfl (.rw rfl (bj (by rw[b8,q0r]))) (by rw[aw];omega) ?_
   conv=>whnf
   exact⟨⟨(i+1,a++ [(q,C[i].2)]),c,d q⟩,by show C.length-(i+1)<C.length-i;omega,Il 9 _ (by decide) (Bw rfl rfl rfl (congrArg (AV.si .i64) g)) rfl rfl rfl rfl rfl (ae.rw (Z0 rfl) (congrArg (λm=>AV.rw 9 0 m 1 0) (e q))) (.inl ⟨_,rfl,j q⟩)⟩
  conv=>whnf
  refine⟨2,3,S.sz,C.take i,C.drop (i+1),a,C[i].1,C[i].2,λq=>a++ [(q,C[i].2)],rfl,⟨by decide,by decide,rfl,congrArg some (pS c)⟩,by decide,⟨by decide,by decide,rfl,rfl⟩,rfl,by decide,by omega,λq=>⟨fq.refl _ _,?_⟩⟩
  conv=>whnf
  refine bF.grow 1 8 1 (pts a).length [aA q] (aZ (pts a)) _ true DL (.old rfl) rfl rfl (.rw rfl (bj (by rw[b8,q0r]))) (by rw[aw];omega) ?_
  conv=>whnf
  exact⟨⟨(i+1,a++ [(q,C[i].2)]),c,d q⟩,by show C.length-(i+1)<C.length-i;omega,Il 9 _ (by decide) (Bw rfl rfl rfl (congrArg (AV.si .i64) g)) rfl rfl rfl rfl rfl (ae.rw (Z0 rfl) (congrArg (λm=>AV.rw 9 0 m 1 0) (e q))) (.inl ⟨_,rfl,j q⟩)⟩
 have c:i=C.length:=by
  have h:¬(i:Int)<((pts C).length:Int):=h;rw[aw]at h;omega
 have p:cnt a=cnt C:=by rw[b,c,<-ez C,q0u]
 conv=>whnf
 exact⟨.ptr 4 0,cyM S C a,6,Il 5 [(0,.ptr 4 0)] (Z3 _) (λx k=>by
  simp only[Z5,Z4,or_false]at k;subst k;exact ae.ptr (Z0 rfl) rfl) rfl rfl rfl rfl rfl (ae.rw (Z0 rfl) rfl) (.inl ⟨_,rfl,aB _⟩),rfl,rfl,a,p,rfl⟩
theorem re{O:List AO}{H:AH}{n b:Nat}(x:Nat)(o:AO)(g:(sF (O.map (bT λc=>n+c)) n (PM.set (some (.sep .emp)) aa H b)).get x=some o):(∃i o',x=n+i/\O[i]?=some o'/\o=bT (λc=>n+c) o')∨(x=b/\o= .sep .emp)∨(x≠b/\(x<n∨n+O.length<=x)/\H.get x=some o):=by
 rcases mQ g with⟨i,f,a⟩|⟨f,a⟩
 ·rw[q1b,Z7]at a;obtain⟨o',a,d⟩:=a;exact .inl ⟨i,o',f,a,d.symm⟩
 ·rcases PM.an aa H b x o a with⟨d,e⟩|⟨d,e⟩
  ·injection e with e;exact .inr (.inl ⟨d,e.symm⟩)
  ·exact .inr (.inr ⟨d,by rw[q0g]at f;exact f,e⟩)
theorem By{C C':Ck5}(e:cnt C'=cnt C){P:Smp->Prop}(h:∀c∈C,P c.2):∀c∈C',P c.2:=λc b=>by
 have:c.2∈cnt C:=by rw[<-e];exact List.mem_map_of_mem b
 obtain⟨d,hd,q⟩:=q0p.1 this;have a:d.2=c.2:=q;rw[<-a];exact h d hd
theorem jL.cnt{S:Sr}{C C':Ck5}(h:jL S C)(e:Go.Proofs.YtflehenfikoniaaGreat.cnt C'=Go.Proofs.YtflehenfikoniaaGreat.cnt C):jL S C':=by
 have c:ah C'=ah C:=by unfold ah;rw[e]
 have f:C'.length=C.length:=by rw[<-ez,e,ez]
 have d:∀j (a:j<C'.length) (b:j<C.length),C'[j].2=C[j].2:=λj a b=>by
  have:(Go.Proofs.YtflehenfikoniaaGreat.cnt C')[j]?=(Go.Proofs.YtflehenfikoniaaGreat.cnt C)[j]?:=by rw[e]
  unfold Go.Proofs.YtflehenfikoniaaGreat.cnt at this;rw[q1b,q1b,q0b a,q0b b]at this;injection this
 refine⟨⟨⟨h.gt.lo,h.gt.hi,by rw[c];exact h.gt.up,By e h.gt.eE,By e (P:=λl=>(aY l).length<=8*S.sz) h.gt.fit⟩,By e (P:=λl=>l≠[]) h.gt.all⟩,λj a b=>?_,h.num,by rw[c];exact h.few⟩;rw[d j (by omega) (by omega),d (j+1) (by omega) (by omega)];exact h.wh j (by omega) (by omega)
def D5(args:List AV)(H:AH)(n:Nat)(κ:PK):Prop:=match args with
 | [x]=>∃(b:Nat) (p:Nat×Nat) (S:Sr) (L:Smp),x=aA p/\b<n/\PM.get H b=some (.sep (cn p S L))/\mb H n/\mb H (n+4)/\∀a,κ (aA a) (PM.set (some (.sep (cn a S L))) aa H n) (n+7)
 |_=>False
def cyH (H:AH) (n:Nat) (S:Sr) (C C':Ck5):AH:=PM.set (some (.cells (c8 S (n+2) (pts C).length) true)) aa (PM.set (some (.cells (aZ (pts C)) true)) aa (PM.set (some (dA S C)) aa (PM.set (some (dA S C')) aa (PM.set (some (.cells (c8 S (n+6) (pts C').length) true)) aa (PM.set (some (.cells (aZ (pts C')) true)) aa H (n+6)) (n+5)) (n+4)) (n+3)) (n+2)) (n+1)
theorem N8{H:AH}{n x:Nat}{S:Sr}{C C':Ck5}{o:AO}(hn:n<800000)(a:x<n+1∨n+7<=x)(h:PM.get H x=some o):PM.get (cyH H n S C C') x=some o:=
 PM.gne (by omega) (by omega) (PM.gne (by omega) (by omega) (PM.gne (by omega) (by omega) (PM.gne (by omega) (by omega) (PM.gne (by omega) (by omega) (PM.gne (by omega) (by omega) h)))))
theorem UJ{H:AH}{n:Nat}{S:Sr}{C C':Ck5}(hn:n<800000):eT (cyH H n S C C') (n+7) (n+1) (n+2) (n+3) S (pts C) C:=
 ⟨⟨by omega,by omega,by omega⟩,⟨by omega,by omega,by omega⟩,PM.geq (by omega),PM.gne (by omega) (by omega) (PM.geq (by omega)),PM.gne (by omega) (by omega) (PM.gne (by omega) (by omega) (PM.geq (by omega)))⟩
def UK (H:AH) (n b:Nat) (S:Sr) (C C':Ck5) (Q:HP):AH:=PM.set (some (.sep Q)) aa (PM.set none aa (PM.set none aa (PM.set none aa (cyH H n S C C') (n+1)) (n+2)) (n+3)) b
theorem xy{H:AH}{n b x:Nat}{S:Sr}{C C':Ck5}{Q:HP}{o:AO}(hn:n<800000)(c:b<n)(a:x≠b/\x≠n+1/\x≠n+2/\x≠n+3)(h:PM.get (cyH H n S C C') x=some o):PM.get (UK H n b S C C' Q) x=some o:=
 PM.gne (by omega) a.1 (PM.gne (by omega) a.2.2.2 (PM.gne (by omega) a.2.2.1 (PM.gne (by omega) a.2.1 h)))
theorem Q9{H:AH}{n b:Nat}{S:Sr}{C C':Ck5}{Q:HP}(hn:n<800000)(a:b<n):eT (UK H n b S C C' Q) (n+7) (n+5) (n+6) (n+4) S (pts C') C':=
 ⟨⟨by omega,by omega,by omega⟩,⟨by omega,by omega,by omega⟩,
  xy hn a (by omega) (PM.gne (by omega) (by omega) (PM.gne (by omega) (by omega) (PM.gne (by omega) (by omega) (PM.gne (by omega) (by omega) (PM.geq (by omega)))))),
  xy hn a (by omega) (PM.gne (by omega) (by omega) (PM.gne (by omega) (by omega) (PM.gne (by omega) (by omega) (PM.gne (by omega) (by omega) (PM.gne (by omega) (by omega) (PM.geq (by omega))))))),
  xy hn a (by omega) (PM.gne (by omega) (by omega) (PM.gne (by omega) (by omega) (PM.gne (by omega) (by omega) (PM.geq (by omega)))))⟩
theorem Ra:al 58 D5:=λargs H n κ F φ W hp vs K hr r hk=>by
 unfold D5 at F;split at F
 ·obtain⟨b,p,S,L,rfl,t,hb,Y,w,F⟩:=F;have y:=Y.1;obtain⟨ψ1,l1,G⟩:=hr.hole;have I:PM.get (PM.set (some (.sep .emp)) aa H n) b=some (.sep (cn p S L)):=PM.gne (by omega) (by omega) hb;obtain⟨C,⟨Z,hf⟩,hP⟩:=(G.sep b _ I).1;obtain⟨ψ2,T,l2,J,j⟩:=G.F7 (O:=iT S (pts C) C) (show b<n+1 by omega) I hP re;rw[Bu]at j;have j:HR ψ2 (opS (PM.set (some (.sep .emp)) aa H n) (n+1) b S C) (n+4) W hp:=j;obtain⟨ψ3,l3,hr3⟩:=j.Wc;have hat:=pc (H:=PM.set (some (.sep .emp)) aa H n) (n:=n+1) (b:=b) (S:=S) (C:=C);have A:=Ig (H:=PM.set (some (.sep .emp)) aa H n) (n:=n+1) (b:=b) (S:=S) (C:=C) (by omega)
  have hox:∀x o,PM.get H x=some o->x≠b->PM.get (opS (PM.set (some (.sep .emp)) aa H n) (n+1) b S C) x=some o:=λx o f k=>by
   have:=Y.ne f;have:=w.ne f;by_cases q:n+4<=x∨x<n+1
   ·have hxn:x≠n:=by omega
    unfold opS;exact PM.gne (by omega) (by omega) (PM.gne (by omega) (by omega) (PM.gne (by omega) (by omega) (PM.gne (by omega) k (PM.gne (by omega) hxn f))))
   ·omega
  have D:PM.get (opS (PM.set (some (.sep .emp)) aa H n) (n+1) b S C) n=some (.sep .emp):=PM.gne (by omega) (by omega) (PM.gne (by omega) (by omega) (PM.gne (by omega) (by omega) (PM.gne (by omega) (by omega) (PM.geq (by omega)))));generalize hO:opS (PM.set (some (.sep .emp)) aa H n) (n+1) b S C=O at*;have M:n+1<800000:=by have:=w.1;omega
  obtain⟨a1,a2,a3,a4,a5⟩:=hat M;have A:=A M;obtain⟨w1,us1,q1,e1,r1⟩:=r.cons_inv;have e1:w1=qR p:=e1;subst e1;have l:ψ3 (n+1)=some ⟨p.1,p.2,T⟩:=l3.b _ _ J
  have N:iS (PM.set (some (.sep (pk []))) aa O (n+4)) (n+5) [n+1,n+2,n+3,n+4] (iT S (pts C) C++ [dA S []]):=⟨by simp,rfl,λi s o a c=>by
   match i,a,c with
   |0,a,c=>injection a with a;injection c with c;subst a c;exact⟨by omega,PM.gne (by omega) (by omega) a3,.inr rfl⟩
   |1,a,c=>injection a with a;injection c with c;subst a c;exact⟨by omega,PM.gne (by omega) (by omega) (by rw[bT,jK];exact a4),.inr rfl⟩
   |2,a,c=>injection a with a;injection c with c;subst a c;exact⟨by omega,PM.gne (by omega) (by omega) a5,.inr rfl⟩
   |3,a,c=>injection a with a;injection c with c;subst a c;exact⟨by omega,PM.geq (by omega),.inr rfl⟩⟩
  refine dz (args0:=[.ptr 0 0]) (κ:=λv H2 n2=>v= .ptr (n+5) 0/\n2=n+7/\∃e,cnt e=cnt C/\H2=cyH (PM.set (some (.sep (pk []))) aa O (n+4)) n S C e) (ay Ik 5 _).gi (by kernel_rfl) hr3 N (by rw[q1];exact .cons (VR.oU l) (VRs.mono ((l1.trans l2).trans l3) _ _ r1)) ?_ (KO S C Z.okc) λu H' n' ⟨g0,g1,e,g2,V⟩=>?_
  ·intro χ v H2 n2 u g m hg hu ⟨g1,g2,e,V,g4⟩;subst g1 g2 g4
   obtain⟨ω1,_,k1,_,P⟩:=hg.F8 (O:=iT S (pts C) C) (S:=[n+1,n+2,n+3]) (b:=b) (p:=p) (Q:=cn p S L) (H':=UK (PM.set (some (.sep (pk []))) aa O (n+4)) n b S C e (cn p S L)) (UJ y).zC (N8 y (by omega) (PM.gne (by omega) (by omega) A)) (by simp;omega) rfl (m.b _ _ l) (λx o f=>by
    rcases PM.an aa _ b x o f with⟨E,d⟩|⟨E,d⟩
    ·injection d with d;exact .inl ⟨E,d.symm⟩
    rcases PM.an aa _ _ x o d with⟨_,j3⟩|⟨j3,j4⟩
    ·cases j3
    rcases PM.an aa _ _ x o j4 with⟨_,j5⟩|⟨j5,j6⟩
    ·cases j5
    rcases PM.an aa _ _ x o j6 with⟨_,j7⟩|⟨j7,j8⟩
    ·cases j7
    exact .inr ⟨E,by simp;omega,j8⟩) λz X h N=>⟨C,⟨Z,hf⟩,N⟩
   have R:=Q9 (H:=PM.set (some (.sep (pk []))) aa O (n+4)) (S:=S) (C:=C) (C':=e) (Q:=cn p S L) y t;rcases P.live _ _ R.hr with⟨_,U⟩|⟨q,ob,U,_⟩
   ·cases U
   have eq:q=⟨(q.B,q.s).1,(q.B,q.s).2,q.T⟩:=rfl
   rw[eq]at U
   obtain⟨ω2,_,k3,_,hr5⟩:=P.F8 (O:=iT S (pts e) e) (S:=[n+5,n+6,n+4]) (b:=n) (p:=(q.B,q.s)) (Q:=cn (q.B,q.s) S L) (H':=PM.set (some (.sep (cn (q.B,q.s) S L))) aa H n) R.zC (xy y t (by omega) (N8 y (by omega) (PM.gne (by omega) (by omega) D))) (by simp) rfl U (λx o f=>by
    rcases PM.an aa _ n x o f with⟨E,d⟩|⟨E,d⟩
    ·injection d with d;exact .inl ⟨E,d.symm⟩
    have:=Y.ne d;have:=w.ne d;refine .inr ⟨E,by simp;omega,?_⟩;by_cases k:x=b
    ·subst k;rw[hb]at d;injection d with d;subst d;exact PM.geq (by omega)
    ·exact xy y t (by omega) (N8 y (by omega) (PM.gne (by omega) (by omega) (hox x o d k)))) λz X h N=>⟨e,⟨Z.cnt V,by unfold ah;rw[V];exact hf⟩,N⟩
   obtain⟨pl,f1,f2⟩:=hu.cx;have f3:=k1.b _ _ f1;rw[U]at f3;injection f3 with f3;refine hk ω2 (aA (q.B,q.s)) _ _ u g (((((l1.trans l2).trans l3).trans m).trans k1).trans k3) hr5 ?_ (F (q.B,q.s));subst f2 f3;exact rfl
  ·subst g0 g1 V;refine⟨6,jV [n+1,n+2,n+3,n+4] (n+5) (PM.set (some (.sep (pk []))) aa O (n+4)) [(0,some (.cells (c8 S 1 (pts C).length) true)),(1,some (.cells (aZ (pts C)) true)),(2,some (dA S C)),(3,some (dA S e)),(4,some (.cells (c8 S 5 (pts e).length) true)),(5,some (.cells (aZ (pts e)) true))],Z0 rfl,fH.put (Z0 rfl) rfl (λx f o ho=>?_),rfl,rfl,rfl,e,g2,?_⟩
   ·simp only[Z5,Z4,or_false]at f;rcases f with rfl|rfl|rfl|rfl|rfl|rfl
    ·injection ho with ho;subst ho;exact⟨rfl,rfl,rfl⟩
    ·injection ho with ho;subst ho;exact⟨rfl,rfl,pQ _ _⟩
    ·injection ho with ho;subst ho;exact⟨rfl,rfl,rfl⟩
    ·injection ho with ho;subst ho;exact⟨rfl,rfl,rfl⟩
    ·injection ho with ho;subst ho;exact⟨rfl,rfl,rfl⟩
    ·injection ho with ho;subst ho;exact⟨rfl,rfl,pQ _ _⟩
   ·simp only[jV,q0q,q2t,bT,jK];rfl
 ·exact F.elim
section
variable {φ ψ:Ph} {H:AH} {n:Nat} {h0 hp:Hp}
theorem D6{H':AH}{x:Nat}{g:Hp}(h:HR φ H n h0 hp)(i:HR ψ H' x hp g)(A:∀q,ψ.y q->φ.z q):∃χ,PLe φ χ/\HR χ H n h0 g/\∀q,ψ.z q->χ.z q:=by
 have j:HR φ H n h0 g:=h.grow (λb o d=>(i.base b o d).2) i.size
 have k:∀B,hp.f B=none->h0.f B=none:=λB e=>by
  cases q:h0.f B with
  |none=>rfl
  |some o=>have:=(h.base B o q).2;rw[e]at this;cases this
 have own:∀B,hp.f B=none->∀b o p,H.get b=some o->o.own=true->φ b=some p->p.B≠B:=λB e b o p d E l q=>by
  obtain⟨F,_,w,_⟩:=h.of d l;rw[q,e]at w;cases w
 have t:∀B,hp.f B=none->∀b Q,H.get b=some (.sep Q)->¬φ.s b B:=λB e b Q d C=>by
  obtain⟨o,ho⟩:=Q.ex _ _ _ _ (h.sep b Q d).1 C;rw[e]at ho;cases ho
 have sub:∀q,ψ.z q->(φ.more λq=>ψ.z q/\hp.f q.B=none).z q:=λq c=>by
  obtain⟨⟨_,a⟩,_⟩:=i.frz q c;rcases a with a|a
  ·exact .inl (A q a)
  ·exact .inr ⟨c,a⟩
 refine⟨φ.more λq=>ψ.z q/\hp.f q.B=none,φ.pN _,j.more λq c=>?_,sub⟩;obtain⟨⟨D,_⟩,_⟩:=i.frz q c.1;exact⟨FzR.mono sub D,k _ c.2,own _ c.2,t _ c.2⟩
end
theorem HR.YE{φ:Ph}{H:AH}{n:Nat}{h0 h:Hp}(e:HR φ H n h0 h){b m k x:Nat}{l s:List AV}{z:Bool}{v:Value}(j:H.get b=some (.cells l z))(hv:VR φ (.rw b 0 m k x) v)(M:x≠4)(N:s.all mB=true)(d:s.length=m*k)(y:∀(i:Nat) g,s[i]?=some g->∃a,l[i]?=some a/\∀w,VR φ a w->VR φ g w)(O:l.length=m*k):
 ∃χ,PLe φ χ/\HR χ (H.set none aa b) n h0 h/\VR χ (.fr m k s) v:=by
 have hk:=e.kill aa b;rcases hv.gQ with⟨J,A⟩|⟨p,a,C,c,rfl,P,h3,R,h5,_,_⟩
 ·have hs0:s=[]:=q0j (by rw[d,J,q1u]);subst J hs0;rw[A.nil M];exact⟨φ,.refl φ,hk,.fre λ_=>rfl⟩
 ·by_cases D:m=0
  ·have hs0:s=[]:=q0j (by rw[d,D,q1u]);subst D hs0;exact⟨φ,.refl φ,hk,.fre λq=>by cases q⟩
  ·have S:=P D;subst S;obtain⟨ob,E,F,K,t,fz,rfl,o1,o2,o3,o4,T⟩:=e.of j c;refine⟨φ.more λq=>q=⟨p.B,p.s+0,s⟩,φ.pN _,hk.more λq U=>?_,?_⟩
   ·subst U;refine⟨⟨⟨(e.dom _ _ c).2,N⟩,K,t,fz,F,(show p.s+0+s.length<=K.size by omega),λi g V=>?_⟩,E,λf L W G I X Y=>?_,λf Q G I=>?_⟩
    ·obtain⟨a,Z,g2⟩:=y i g V;obtain⟨v,g3,g4⟩:=T i a Z;exact⟨v,g3,VR.mono (φ.pN _) _ _ (g2 v g4)⟩
    ·rcases PM.an aa H b f L G with⟨_,h⟩|⟨h6,h7⟩
     ·cases h
     ·exact h6 (e.inj f b L _ W p h7 j I rfl X c Y)
    ·rcases PM.an aa H b f _ G with⟨_,h⟩|⟨_,h⟩
     ·cases h
     ·exact((e.sep f Q h).2 _ I).2.1 b _ p j rfl c rfl
   ·have:VR (φ.more λq=>q=⟨p.B,p.s+0,s⟩) (.fr m k s) (.slice (some ⟨p.B,p.s+0+0,none⟩) m C):= .fr (q:=⟨p.B,p.s+0,s⟩) (o:=0) (.inr rfl) R (bj d);exact this
def KQ:AV->Bool
 | .agg l=>l.all mB
 |v=>mB v
def gj:AV->Bool
 | .tup l=>l.all KQ
 |v=>KQ v
theorem zD{φ ψ:Ph}(c:∀q,φ.z q->ψ.z q):∀{l:List AV} {vs:List Value},l.all mB=true->VRs φ l vs->VRs ψ l vs
 | [],_,_,h=>by rw[h.aQ];exact .nil
 |a::l,vs,b,h=>by
  obtain⟨v,us,rfl,d,e⟩:=h.cons_inv;simp only[q2c,Z8]at b;exact .cons (lQ c b.1 d) (zD c b.2 e)
theorem Im{φ ψ:Ph}(b:∀q,φ.z q->ψ.z q){a:AV}{w:Value}(h:KQ a=true)(c:VR φ a w):VR ψ a w:=by
 cases a
 case agg l=>
  obtain⟨cs,rfl,d⟩:=c.dU;exact .agg (zD b h d)
 all_goals exact lQ b h c
theorem D7{φ ψ:Ph}(c:∀q,φ.z q->ψ.z q):∀{l:List AV} {vs:List Value},l.all KQ=true->VRs φ l vs->VRs ψ l vs
 | [],_,_,h=>by rw[h.aQ];exact .nil
 |a::l,vs,b,h=>by
  obtain⟨v,us,rfl,d,e⟩:=h.cons_inv;simp only[q2c,Z8]at b;exact .cons (Im c b.1 d) (D7 c b.2 e)
theorem nP{φ ψ:Ph}(b:∀q,φ.z q->ψ.z q){a:AV}{w:Value}(h:gj a=true)(c:VR φ a w):VR ψ a w:=by
 cases a
 case tup l=>
  obtain⟨cs,rfl,d⟩:=c.fm;exact .tup (D7 b h d)
 all_goals exact Im b h c
theorem D8{φ ψ:Ph}(c:∀q,φ.z q->ψ.z q):∀{l:List AV} {vs:List Value},l.all gj=true->VRs φ l vs->VRs ψ l vs
 | [],_,_,h=>by rw[h.aQ];exact .nil
 |a::l,vs,b,h=>by
  obtain⟨v,us,rfl,d,e⟩:=h.cons_inv;simp only[q2c,Z8]at b;exact .cons (nP c b.1 d) (D8 c b.2 e)
section
variable {r:Nat->Nat} {m:Nat}
theorem xz{a:AV}(h:mB a=true):ren r a=a/\ltV m a=true:=by cases a<;>first|exact⟨rfl,rfl⟩|cases h
theorem pT:∀{l:List AV},l.all mB=true->dw r l=l/\jI m l=true
 | [],_=>⟨rfl,rfl⟩
 |a::l,h=>by
  simp only[q2c,Z8]at h;exact⟨by simp only[dw,(xz (r:=r) (m:=m) h.1).1,(pT h.2).1],by simp only[jI,(xz (r:=r) (m:=m) h.1).2,(pT h.2).2,Bool.and_self]⟩
theorem xA{a:AV}(h:KQ a=true):ren r a=a/\ltV m a=true:=by
 cases a
 case agg l=>exact⟨congrArg AV.agg (pT (r:=r) (m:=m) h).1,(pT (r:=r) (m:=m) h).2⟩
 all_goals exact xz h
theorem pU:∀{l:List AV},l.all KQ=true->dw r l=l/\jI m l=true
 | [],_=>⟨rfl,rfl⟩
 |a::l,h=>by
  simp only[q2c,Z8]at h;exact⟨by simp only[dw,(xA (r:=r) (m:=m) h.1).1,(pU h.2).1],by simp only[jI,(xA (r:=r) (m:=m) h.1).2,(pU h.2).2,Bool.and_self]⟩
theorem iU{a:AV}(h:gj a=true):ren r a=a/\ltV m a=true:=by
 cases a
 case tup l=>exact⟨congrArg AV.tup (pU (r:=r) (m:=m) h).1,(pU (r:=r) (m:=m) h).2⟩
 all_goals exact xA h
theorem kN:∀{l:List AV},l.all gj=true->dw r l=l
 | [],_=>rfl
 |a::l,h=>by
  simp only[q2c,Z8]at h;simp only[dw,(iU (r:=r) (m:=0) h.1).1,kN h.2]
end
def Re(H:AH)(n:Nat)(u:AV)(H2:AH)(v:AV):Prop:=∀(φ:Ph) (h0 h:Hp) (w:Value),HR φ H n h0 h->VR φ u w->∃ψ,PLe φ ψ/\HR ψ H2 n h0 h/\VR ψ v w
def Res(H:AH)(n:Nat)(us:List AV)(H2:AH)(vs:List AV):Prop:=∀(φ:Ph) (h0 h:Hp) (ws:List Value),HR φ H n h0 h->VRs φ us ws->∃ψ,PLe φ ψ/\HR ψ H2 n h0 h/\VRs ψ vs ws
section
variable {H H1 H2:AH} {n:Nat} {u v:AV} {us vs:List AV}
theorem Re.same:Re H n u H u:=λφ _ _ _ a b=>⟨φ,.refl φ,a,b⟩
theorem Re.of(h:∀φ w,VR φ u w->VR φ v w):Re H n u H v:=λφ _ _ w a b=>⟨φ,.refl φ,a,h φ w b⟩
theorem WY{φ:Ph}{a:AV}{w:Value}(h:VR φ (mk a) w):VR φ a w:=by cases a<;>exact h
theorem N9{φ:Ph}:∀{l:List AV} {ws:List Value},VRs φ (l.map mk) ws->VRs φ l ws
 | [],_,h=>h
 |a::l,ws,h=>by
  obtain⟨w,us,rfl,b,c⟩:=h.cons_inv;exact .cons (WY b) (N9 c)
theorem Io{φ:Ph}{a:AV}{w:Value}(h:VR φ (mkT a) w):VR φ a w:=by
 cases a
 case tup l=>obtain⟨cs,rfl,b⟩:=h.fm;exact .tup (N9 b)
 all_goals exact WY h
theorem Re.told(e:mkT u=mkT v):Re H n u H v:=Re.of λ_ _ h=>Io (e▸h.mkT)
theorem Re.agg{l l':List AV}(e:l.map mk=l'.map mk):Re H n (.agg l) H (.agg l'):=Re.of λ_ _ h=>by
 obtain⟨cs,rfl,a⟩:=h.dU;exact .agg (N9 (e▸a.mk))
theorem Re.nsl{k:Nat}:Re H n .nsl H (.fr 0 k []):=Re.of λφ w h=>by rw[h.dd];exact .fre λ_=>rfl
theorem Re.row{b m k x:Nat}{l s:List AV}{z:Bool}(q:H.get b=some (.cells l z))(d:s.all flat.flat1=true)(f:s.length=m*k)(c:l.map mk=s.map mk)(t:x≠4:=by decide):Re H n (.rw b 0 m k x) (H.set none aa b) (.fr m k s):=λφ h0 h w A B=>by
 have g:s.all mB=true:=by
  rw[q0h]at d⊢;intro y C;have:=d y C;cases y<;>first|rfl|cases this
 refine A.YE q B t g f (λi j o=>?_) (by have:=congrArg List.length c;simp only[q0g]at this;omega);have e:=congrArg (λx:List AV=>x[i]?) c;simp only[q1b,o,q0q]at e;rw[Z7]at e;obtain⟨a,D,E⟩:=e;refine⟨a,D,λw F=>?_⟩;have p:VR φ (mk j) w:=E▸F.mk;exact bh (q0h.1 d j (q0w o)) (by cases j<;>first|exact p|exact p)
theorem Res.nil:Res H n [] H []:=λφ _ _ _ a b=>⟨φ,.refl φ,a,b⟩
theorem Res.cons(h:Re H n u H1 v)(k:Res H1 n us H2 vs):Res H n (u::us) H2 (v::vs):=λφ h0 hp ws d e=>by
 obtain⟨w,a,rfl,f,g⟩:=e.cons_inv;obtain⟨ψ,b,i,j⟩:=h φ h0 hp w d f;obtain⟨l,c,o,p⟩:=k ψ h0 hp a i (VRs.mono b _ _ g);exact⟨l,b.trans c,o,.cons (VR.mono c _ _ j) p⟩
end
theorem Re.sl{H:AH}{n b m k:Nat}{l s:List AV}{z:Bool}(e:H.get b=some (.cells l z))(g:s.all flat.flat1=true)(d:s.length=m*k)(a:l.map mk=s.map mk):Re H n (.sl b 0 m m 0) (H.set none aa b) (.fr m k s):=λφ h0 h w f i=>by
 refine Re.row (x:=0) e g d a (by decide) φ h0 h w f ?_;obtain⟨p,C,hp,rfl,j,_⟩:=i.eQ;have o:=j rfl
 subst o;obtain⟨q,_,_,c,t,fz,_,y,_⟩:=f.of e hp;have:l.length=C*k:=by have:=congrArg List.length a;simp only[q0g]at this;omega
 exact .rw hp (λ_=>rfl) (q1c _ _) (Z3 _) (by omega)
def bV(R:List AV->AV->Prop)(args:List AV)(H:AH)(n:Nat)(κ:PK):Prop:=∃cs v H2,Res H n args H2 cs/\R cs v/\κ v H2 n
def uJ(R:List AV->AV->Prop)(args:List AV)(H:AH)(n:Nat)(κ:PK):Prop:=∃cs v,Res H n args H cs/\R cs v/\κ v H n
theorem xB(R:List AV->AV->Prop):iC (uJ R):= .pure λ_ _ _ _ ⟨cs,v,h0,a,b⟩=>⟨v,b,λ_ h=>⟨cs,v,h0,a,h⟩⟩
theorem al.cs{f:FuncId}{R:List AV->AV->Prop}(h:al f (bV R)):al f (uJ R):=λargs H n d ⟨cs,v,a,b,c⟩=>h args H n d ⟨cs,v,H,a,b,c⟩
def cY(v:AV):PK:=λu a b=>∃H2,Re a b u H2 v
theorem cY.told{u v:AV}{H:AH}{n:Nat}(e:mkT u=mkT v):cY v u H n:=⟨H,.told e⟩
theorem cY.row{m k j b x:Nat}{l s:List AV}{z:Bool}{u:AV}{H':AH}{a:Nat}(c:u= .rw b 0 j k x)(d:j=m)(e:H'.get b=some (.cells l z))(f:l.map mk=s.map mk)(g:s.length=m*k)(h:s.all flat.flat1=true)(i:x≠4:=by decide):cY (.fr m k s) u H' a:=by
 subst c d;exact⟨_,.row e h g f i⟩
theorem cY.same{u:AV}{H:AH}{n:Nat}:cY u u H n:=⟨H,.same⟩
theorem zE{f:FuncId}{run:List AV->AH->Nat->PK->Prop}(b:al f run)(e:bR Tryz.prog f=true){R:List AV->AV->Prop}(h:∀cs v,R cs v->cs.all gj=true/\gj v=true/\run cs .nil 0 (cY v)):al f (bV R):=λargs H n Q ⟨cs,v,H2,c,p,i⟩ φ h0 hp vs K s a t=>by
 obtain⟨ψ,x,d,A⟩:=c φ h0 hp _ s a;obtain⟨s1,s2,B⟩:=h cs v p
 have key:Wf hp->dK Tryz.prog f vs hp K:=λC=>b cs .nil 0 _ B ⟨λ_=>none,ψ.z,ψ.z,λ_ _=>False⟩ hp hp vs K (d.zn (fR C) (λ_ _ h=>by cases h) (λ_ h=>h)) (D8 (φ:=ψ) (ψ:=⟨λ_=>none,ψ.z,ψ.z,λ_ _=>False⟩) (λ_ h=>h) s1 A) λD u S T w g j E F ⟨U,G⟩=>by
  obtain⟨I,J,k,l⟩:=G D hp g w E F;obtain⟨L,M,N,O⟩:=D6 d k (λq P=>j.y q (J.y q P));exact t L v H2 n w g (x.trans M) N (nP O s2 l) i
 exact⟨e,λw o=>(key o.wf).2 w o⟩
theorem kh{F:FuncId->EP}(b:aS F)(d:Nat){f:FuncId}(a:bR Tryz.prog f=true){R:List AV->AV->Prop}(h:∀cs v,R cs v->cs.all gj=true/\gj v=true/\ax F d f cs .nil 0 (cY v)):al f (bV R):=zE (ay b d f) a h
theorem mS:∀{O:List AO} {k:Nat} {H:AH} {x:Nat} {o:AO},k+O.length<1000000->(x<k∨k+O.length<=x)->H.get x=some o->(sF O k H).get x=some o
 | [],_,_,_,_,_,_,h=>h
 |a::O,k,H,x,o,d,e,h=>by
  simp only[q0a]at d e;exact mS (O:=O) (by omega) (by omega) (PM.gne (by omega) (by omega) h)
theorem vj:∀{O:List AO} {k:Nat} {H:AH} {i:Nat} {o:AO},k+O.length<1000000->O[i]?=some o->(sF O k H).get (k+i)=some o
 | [],_,_,i,_,_,h=>by simp at h
 |a::O,k,H,0,o,d,h=>by
  simp only[q0a]at d;injection h with h;subst h;exact mS (O:=O) (by omega) (.inl (by omega)) (PM.geq (by omega))
 |a::O,k,H,i+1,o,d,h=>by
  simp only[q0a]at d;rw[show k+(i+1)=k+1+i by omega];exact vj (O:=O) (by omega) (by simpa using h)
theorem sH:∀{O:List AO} {k i:Nat} {o:AO},k+O.length<1000000->O[i]?=some o->(mkH (bE O k)).get (k+i)=some o
 | [],_,i,_,_,h=>by simp at h
 |a::O,k,0,o,d,h=>by
  simp only[q0a]at d;injection h with h;subst h;exact PM.geq (by omega)
 |a::O,k,i+1,o,d,h=>by
  simp only[q0a]at d;have:=sH (O:=O) (k:=k+1) (i:=i) (o:=o) (by omega) (by simpa using h);rw[show k+(i+1)=k+1+i by omega];exact PM.gne (by omega) (by omega) this
section
variable {r r':Nat->Nat} {m:Nat}
mutual
theorem pV(h:∀c,c<m->r c=r' c):∀a:AV,ltV m a=true->ren r a=ren r' a
 | .ptr b o,e=>congrArg (AV.ptr · o) (h b (Z0 e))
 | .sl b o n c k,e=>congrArg (AV.sl · o n c k) (h b (Z0 e))
 | .esl b,e=>congrArg AV.esl (h b (Z0 e))
 | .map b,e=>congrArg AV.map (h b (Z0 e))
 | .sy b o n c k,e=>congrArg (AV.sy · o n c k) (h b (Z0 e))
 | .rw b o n k x,e=>congrArg (AV.rw · o n k x) (h b (Z0 e))
 | .agg l,e=>congrArg AV.agg (ir h l e)
 | .tup l,e=>congrArg AV.tup (ir h l e)
 | .fn f a c,e=>by
  simp only[ltV,Z8]at e;simp only[ren,ir h a e.1,ir h c e.2]
 | .int _ _,_| .str _,_| .bool _,_| .nil,_| .nsl,_| .any _,_| .bad,_| .si _ _,_| .sb _,_| .ss _,_| .fr _ _ _,_| .fa _ _,_=>rfl
theorem ir(h:∀c,c<m->r c=r' c):∀l:List AV,jI m l=true->dw r l=dw r' l
 | [],_=>rfl
 |a::l,e=>by
  simp only[jI,Z8]at e;simp only[dw,pV h a e.1,ir h l e.2]
end
theorem rf(h:∀c,c<m->r c=r' c):∀l:List (AV×AV),ltE m l=true->rV r l=rV r' l
 | [],_=>rfl
 |a::l,e=>by
  simp only[ltE,Z8]at e;simp only[rV,pV h _ e.1,pV h _ e.2.1,rf h l e.2.2]
theorem eG(h:∀c,c<m->r c=r' c){o:AO}(e:ltO m o=true):bT r o=bT r' o:=by
 cases o with
 |cells l z=>exact congrArg (AO.cells · z) (ir h l e)
 |map es=>exact congrArg AO.map (rf h es e)
 |mp es bs cl=>exact congrArg (AO.mp · bs cl) (rf h es e)
 |ro l=>exact congrArg AO.ro (ir h l e)
 |iter b k seen=>exact congrArg (AO.iter · k seen) (h b (Z0 e))
 |sep Q=>rfl
end
def kF(n k:Nat):List Nat:=(List.range k).map λi=>n+i
theorem dh(n k:Nat):(kF n k).length=k:=by simp[kF]
theorem sI{n k i:Nat}(h:i<k):(kF n k)[i]?=some (n+i):=by simp[kF,h]
theorem ph{n k i s:Nat}(h:(kF n k)[i]?=some s):i<k/\s=n+i:=by
 have a:=(q0e.1 h).1;rw[dh]at a;rw[sI a]at h;injection h with h;exact⟨a,h.symm⟩
theorem gZ{n k x:Nat}(h:x∈kF n k):n<=x/\x<n+k:=by
 simp only[kF,q0p,q2u]at h;obtain⟨i,a,rfl⟩:=h;omega
theorem nQ(n k:Nat):(kF n k).Nodup:=by
 rw[kF,List.nodup_iff_pairwise_ne,List.pairwise_map];exact List.nodup_range.imp λh e=>h (by omega)
theorem mo{n k N c:Nat}(h:c<k):bq (kF n k) N c=n+c:=cJ (sI h)
def xC(H:AH)(m:Nat):List AO->Nat->Prop
 | [],_=>True
 |o::os,i=>(∃a,H.get i=some a/\ak H m (λb=>b) a o)/\xC H m os (i+1)
theorem xC.at{H:AH}{m:Nat}:∀{O:List AO} {k i:Nat} {o:AO},xC H m O k->O[i]?=some o->∃e,H.get (k+i)=some e/\ak H m (λb=>b) e o
 | [],_,i,_,_,h=>by simp at h
 |a::O,k,0,o,d,h=>by injection h with h;subst h;exact d.1
 |a::O,k,i+1,o,d,h=>by
  rw[show k+(i+1)=k+1+i by omega];exact xC.at d.2 (by simpa using h)
def YF(f:Nat)(u:AV)(H':AH)(g:Nat)(v:AV)(i:AH)(m:Nat):Prop:=∀(a:Ph) (e h:Hp) (w:Value),HR a H' g e h->VR a u w->∃d:Ph,((∀b q,b<f->a b=some q->d b=some q)/\(∀q,a.z q->d.z q)/\∀q,d.y q->a.y q)/\HR d i m e h/\VR d v w
def YG(run:List AV->AH->Nat->PK->Prop)(args:List AV)(H:AH)(n:Nat)(κ:PK):Prop:=∃a:PK,run args H n a/\∀u d e,a u d e->∃v f m,YF n u d e v f m/\κ v f m
theorem al.m{f:FuncId}{run:List AV->AH->Nat->PK->Prop}(o:al f run):al f (YG run):=λargs H n V ⟨d,s,t⟩ A j h D K k E F=>o args H n d s A j h D K k E λG u I J w l a g L M=>by
 obtain⟨v,N,m,O,i⟩:=t u I J M;obtain⟨P,⟨Q,R,S⟩,T,U⟩:=O G j l w g L;exact F P v N m w l ⟨λb p e=>Q b p (k.dom b p e).1 (a.b b p e),λq e=>R q (a.z q e),λq e=>a.y q (S q e)⟩ T U i
theorem Bz{φ:Ph}{H:AH}{n k:Nat}{d h:Hp}{O:List AO}(l:HR φ H n d h)(s:xC H k O 0)(A:O.length<=k):∃ψ:Ph,((∀b q,b<k->φ b=some q->ψ b=some q)/\(∀q,φ.z q->ψ.z q)/\∀q,ψ.y q->φ.y q)/\HR ψ (mkH (bE O 0)) k d h:=by
 obtain⟨ψ,u,v,_⟩:=Cov.ofR (m:=k) (p:=k) (n:=n) (σ:=PM.nil) (H:=H) (le:=[]) (lh:=bE O 0) (λb=>b) (Z3 _) (λ_ _=>rfl) (λx f=>by cases f) (λx f=>by
  obtain⟨b,o⟩:=x;obtain⟨i,w,g⟩:=rW f;have:=(q0e.1 g).1;have j:=s.at g;rw[<-w]at j;exact⟨(by show b<k;omega),.inl j⟩) (λ_ _ _ _ e=>e) φ d h (λ_=>Go.undef) l (λt a e=>by cases e)
 exact⟨ψ,u,v⟩
theorem ak.refl{H:AH}{m:Nat}{o:AO}(h:ltO m o=true):ak H m (λb=>b) o o:=⟨⟨rfl,rfl⟩,λf g _ _ a _ ho=>OR.below (m:=m) (λb _ d e=>(a.1 b d).trans e) a.2 h ho⟩
structure Obj (X C:Type)where
 ok:X->C->Prop
 O:C->List AO
 k:Nat
 len:∀c,(O c).length=k
 own:∀c o,o∈O c->o.own=true/\ltO k o=true
 pos:∀c,∃a l z,(O c)[0]?=some (.cells (a::l) z)
def Obj.Q{X C:Type}(B:Obj X C)(x:X)(p:Nat×Nat):HP:=HP.exi (B.ok x) λc=>xq (B.O c) p
def ia (H:AH):Nat->Nat->Bool
 |0,_=>true
 |k+1,n=>(match H.get n with
  |none=>ia H k (n+1)
  |some _=>false)
theorem lq{H:AH}:∀{k n:Nat},ia H k n=true->∀{x:Nat} {o:AO},n<=x->x<n+k->H.get x=some o->False
 |0,n,_,x,o,d,f,_=>by omega
 |k+1,n,h,x,o,d,f,a=>by
  unfold ia at h;split at h
  ·rename_i e;by_cases q:x=n
   ·subst q;rw[e]at a;cases a
   ·exact lq h (by omega) (by omega) a
  ·cases h
def cK{X C:Type}(k:Nat)(B:Obj X C)(R:X->List AV->X->AV->Prop)(args:List AV)(H:AH)(n:Nat)(κ:PK):Prop:=match args with
 |a::f=>∃b p x cs e v d,a=aA p/\b<n/\n<800000/\Res H n f d cs/\d.get b=some (.sep (B.Q x p))/\ia d k n=true/\R x cs e v/\κ v (d.set (some (.sep (B.Q e p))) aa b) (n+k)
 |_=>False
def gm{X C:Type}(B:Obj X C)(e:X)(v:AV):PK:=λu f g=>∃a d,Re f g u a v/\B.ok e d/\xC a B.k (B.O d) 0
section
variable {X C:Type} {B:Obj X C} {x:X} {p:Nat×Nat} {H:AH} {n b:Nat} {c:C}
theorem Obj.lt(B:Obj X C)(c:C){i:Nat}{o:AO}(h:(B.O c)[i]?=some o):i<B.k/\o.own=true/\ltO B.k o=true:=
 ⟨by rw[<-B.len c];exact(q0e.1 h).1,B.own c o (q0w h)⟩
def opO (B:Obj X C) (H:AH) (n b:Nat) (c:C):AH:=sF ((B.O c).map (bT λj=>n+j)) n (H.set (some (.sep .emp)) aa b)
theorem vk(B:Obj X C)(c:C){n:Nat}:((B.O c).map (bT λj=>n+j)).length=B.k:=by rw[q0g,B.len]
theorem F9(hn:n+B.k<1000000){i:Nat}{o:AO}(h:(B.O c)[i]?=some o):(opO B H n b c).get (n+i)=some (bT (λj=>n+j) o):=vj (by rw[vk];exact hn) (by rw[q1b,h];rfl)
theorem Oa(hn:n+B.k<1000000)(d:b<n){y:Nat}{o:AO}(e:y<n∨n+B.k<=y)(a:y≠b)(h:H.get y=some o):(opO B H n b c).get y=some o:=mS (by rw[vk];exact hn) (by rw[vk];exact e) (PM.gne (by omega) a h)
theorem Ob(hn:n+B.k<1000000)(a:b<n):(opO B H n b c).get b=some (.sep .emp):=mS (by rw[vk];exact hn) (.inl a) (PM.geq (by omega))
theorem Ip{y:Nat}{o:AO}(h:(opO B H n b c).get y=some o):(∃i o',y=n+i/\(B.O c)[i]?=some o'/\o=bT (λj=>n+j) o')∨(y=b/\o= .sep .emp)∨(y≠b/\(y<n∨n+B.k<=y)/\H.get y=some o):=by
 rcases re y o h with h|h|⟨d,a,e⟩
 ·exact .inl h
 ·exact .inr (.inl h)
 ·rw[B.len]at a;exact .inr (.inr ⟨d,a,e⟩)
theorem zF(hn:n+B.k<1000000):xr (opO B H n b c) (kF n B.k) (B.O c):=⟨nQ _ _,by rw[dh,B.len],λi s o e a=>by
 obtain⟨h,rfl⟩:=ph e;obtain⟨_,f,d⟩:=B.lt c a;refine⟨?_,f,by rw[B.len];exact d⟩;rw[F9 hn a];exact congrArg some (eG (m:=B.k) (λj g=>(mo g).symm) d)⟩
theorem KR(hn:n+B.k<1000000):iS (opO B H n b c) (n+B.k) (kF n B.k) (B.O c):=⟨nQ _ _,by rw[dh,B.len],λi s o d a=>by
 obtain⟨h,rfl⟩:=ph d;obtain⟨_,e,f⟩:=B.lt c a;refine⟨by omega,?_,.inr e⟩;rw[F9 hn a];exact congrArg some (eG (m:=B.k) (λj g=>(mo g).symm) f)⟩
theorem Obj.k0(B:Obj X C)(c:C):0<B.k:=by
 obtain⟨a,l,z,h⟩:=B.pos c;exact(B.lt c h).1
end
def Oc{X C:Type}(B:Obj X C)(k:Nat)(d:X)(P:AV->List AO->Prop):PK:=λu e f=>∃v E a,P v E/\B.ok d a/\ltV (k+E.length) v=true/\(∀o∈E,o.own=true/\ltO (k+E.length) o=true)/\E.length<1000/\Cov k (mkE [(0,u)]) e f (mkE [(0,v)],mkH (bE (B.O a++E) 0),k+E.length)
def Ga (n k:Nat) (E:List AO) (H:AH):AH:=sF (E.map (bT λj=>n+j)) (n+k) H
def xD{X C:Type}(k:Nat)(B:Obj X C)(R:X->List AV->X->(AV->List AO->Prop)->Prop)(args:List AV)(H:AH)(n:Nat)(κ:PK):Prop:=match args with
 |a::f=>∃b p x cs e P d,a=aA p/\b<n/\n<800000/\Res H n f d cs/\d.get b=some (.sep (B.Q x p))/\ia d k n=true/\R x cs e P/\∀v E,P v E->κ (ren (λj=>n+j) v) (Ga n k E (d.set (some (.sep (B.Q e p))) aa b)) (n+k+E.length)
 |_=>False
theorem Gb{n k m c:Nat}(h:c<m):bq (kF n k) (n+k) c=n+c:=by
 by_cases q:c<k
 ·exact mo q
 ·rw[gF (by rw[dh];omega),dh];omega
def WZ(run:List AV->AH->Nat->PK->Prop)(args:List AV)(H:AH)(n:Nat)(κ:PK):Prop:=∃a:PK,run args H n a/\∀u d e,a u d e->κ u d e
theorem al.w{f:FuncId}{run:List AV->AH->Nat->PK->Prop}(j:al f run):al f (WZ run):=λargs H n F ⟨a,k,l⟩ o q h s K t v y=>j args H n a k o q h s K t v λz u g i w A d e D E=>y z u g i w A d e D (l u g i E)
section
variable {m m':Nat}
mutual
theorem Gc(h:m<=m'):∀a:AV,ltV m a=true->ltV m' a=true
 | .ptr b o,e| .sl b o n c k,e| .esl b,e| .map b,e| .sy b o n c k,e| .rw b o n k x,e=>q0z (q0d (Z0 e) h)
 | .agg l,e| .tup l,e=>tQ h l e
 | .fn f a c,e=>by
  simp only[ltV,Z8]at e⊢;exact⟨tQ h a e.1,tQ h c e.2⟩
 | .int _ _,_| .str _,_| .bool _,_| .nil,_| .nsl,_| .any _,_| .bad,_| .si _ _,_| .sb _,_| .ss _,_| .fr _ _ _,_| .fa _ _,_=>rfl
theorem tQ(h:m<=m'):∀l:List AV,jI m l=true->jI m' l=true
 | [],_=>rfl
 |a::l,e=>by
  simp only[jI,Z8]at e⊢;exact⟨Gc h a e.1,tQ h l e.2⟩
end
theorem Ge(h:m<=m'):∀l:List (AV×AV),ltE m l=true->ltE m' l=true
 | [],_=>rfl
 |a::l,e=>by
  simp only[ltE,Z8]at e⊢;exact⟨Gc h _ e.1,Gc h _ e.2.1,Ge h l e.2.2⟩
theorem UL(h:m<=m'){o:AO}(e:ltO m o=true):ltO m' o=true:=by
 cases o with
 |cells l z=>exact tQ h l e
 |map es=>exact Ge h es e
 |mp es bs cl=>exact Ge h es e
 |ro l=>exact tQ h l e
 |iter b k seen=>exact q0z (q0d (Z0 e) h)
 |sep Q=>rfl
end
theorem xE {X C:Type} {f:FuncId} {run:List AV->AH->Nat->PK->Prop} (Z:al f run) (hic:bR Tryz.prog f=true) (B:Obj X C) {k:Nat} (hk:B.k=k) (hk9:k<1000) {R:X->List AV->X->(AV->List AO->Prop)->Prop}
 (h:∀x cs F P,R x cs F P->cs.all gj=true/\∀c,B.ok x c->run (.ptr 0 0::cs) (mkH (bE (B.O c) 0)) k (Oc B k F P)):al f (xD k B R):=λargs H n κ hs φ h0 hp vs K hr L hk2=>by
 unfold xD at hs;split at hs
 ·rename_i a ar;obtain⟨b,p,x,cs,F,P,I,rfl,A,hn9,hres,hb,M,hR,hκ⟩:=hs;obtain⟨w1,us1,q1,e1,r1⟩:=L.cons_inv;have e1:w1=qR p:=e1;subst e1 hk;obtain⟨φ1,l1,hr1,ha1⟩:=hres φ h0 hp us1 hr r1;obtain⟨c,hc,hP⟩:=(hr1.sep b _ hb).1;obtain⟨ψ,T,l2,hψ,G⟩:=hr1.F7 (O:=B.O c) A hb hP re;obtain⟨s1,s3⟩:=h x cs F P hR;have N:=s3 c hc;rw[B.len]at G;have Y:n+B.k<1000000:=by omega
  have G:HR ψ (opO B I n b c) (n+B.k) h0 hp:=G;have J:∀(d:C) (E:List AO),(B.O d++E).length=B.k+E.length:=λd E=>by rw[Z6,B.len]
  have e:∀E:List AO,(E.map (bT λj=>n+j)).length=E.length:=λE=>q0g _
  refine dz (S:=kF n B.k) (O:=B.O c) (args0:= .ptr 0 0::cs) (κ:=λv2 H2 n2=>∃v E d,P v E/\B.ok F d/\(∀o∈E,o.own=true)/\E.length<1000/\v2=ren (λj=>n+j) v/\n2=n+B.k+E.length/\H2=Ga n B.k E (opO B I n b d)) Z.m hic G (KR Y) ?_ ?_ (Q:=λv' H' m=>∃E d,P v' E/\B.ok F d/\ltV (B.k+E.length) v'=true/\(∀o∈E,o.own=true/\ltO (B.k+E.length) o=true)/\E.length<1000/\m=B.k+E.length/\H'=mkH (bE (B.O d++E) 0)) ?_ λu H' n' hq=>?_
  ·rw[q1];refine .cons ?_ ?_
   ·show VR ψ (.ptr (bq (kF n B.k) (n+B.k) 0) 0) (qR p);rw[mo (B.k0 c),q2w];exact VR.oU hψ
   ·rw[kN s1];exact VRs.mono l2 _ _ ha1
  ·intro χ v2 H2 n2 u g hle hg hu ⟨v,E,d,f0,f1,f5,f6,f2,f3,f4⟩;subst f2 f3 f4;have D:∀{y o},(y<n+B.k∨n+B.k+E.length<=y)->(opO B I n b d).get y=some o->(Ga n B.k E (opO B I n b d)).get y=some o:=λU ho=>mS (by rw[e];omega) (by rw[e];exact U) ho
   have sl:xr (Ga n B.k E (opO B I n b d)) (kF n B.k) (B.O d):=by
    obtain⟨a1,a2,a3⟩:=zF (B:=B) (H:=I) (b:=b) (c:=d) Y
    exact⟨a1,a2,λi s o h1 h2=>by
     obtain⟨b1,b2⟩:=a3 i s o h1 h2;exact⟨D (.inl (by have:=ph h1;omega)) b1,b2⟩⟩
   obtain⟨ω,_,l3,_,hr3⟩:=hg.F8 (O:=B.O d) (S:=kF n B.k) (b:=b) (p:=p) (Q:=B.Q F p) (H':=Ga n B.k E (I.set (some (.sep (B.Q F p))) aa b)) sl (D (.inl (by omega)) (Ob Y A)) (λq=>by have:=gZ q;omega) (s0:=n) (by rw[sI (B.k0 c),q2w]) (hle.b _ _ hψ) (λy o U=>by
    rcases mQ U with⟨i,rfl,l⟩|⟨j0,l⟩
    ·have:i<E.length:=by have:=(q0e.1 l).1;rwa [e]at this
     exact .inr ⟨by omega,λq=>by have:=gZ q;omega,vj (by rw[e];omega) l⟩
    rw[e]at j0;rcases PM.an aa _ b y o l with⟨V,l⟩|⟨V,l⟩
    ·injection l with l;exact .inl ⟨V,l.symm⟩
    ·have:y<n∨n+B.k<=y:=by
      rcases q3k y n with q|q
      ·exact .inl q
      ·exact .inr (q3t λq2=>lq M q q2 l)
     exact .inr ⟨V,λq=>by have:=gZ q;omega,D j0 (Oa Y A this V l)⟩) λz X h hh=>⟨d,f1,hh⟩
   exact hk2 ω _ _ _ u g (((l1.trans l2).trans hle).trans l3) hr3 (VR.mono l3 _ _ hu) (hκ v E f0)
  ·refine⟨Oc B B.k F P,by rw[dh];exact N,λu H' n' ⟨v,E,d,g1,g2,g3,g4,g5,g6⟩=>⟨v,mkH (bE (B.O d++E) 0),B.k+E.length,λχ h0 hp w hr hu=>?_,E,d,g1,g2,g3,g4,g5,rfl,rfl⟩⟩
   obtain⟨ψ2,m2,hr4,hf4⟩:=g6 χ h0 hp (λ_=>w) hr (λt a ht=>by
    have:=nG ht;simp only[Z5,Z4,or_false]at this;injection this with e1 e2;subst e1 e2;exact hu)
   rw[dh];exact⟨ψ2,m2,hr4,hf4 0 v rfl⟩
  ·obtain⟨E,d,g1,g2,g3,g4,g5,g6,g7⟩:=hq;subst g6 g7;refine⟨B.k+E.length,Ga n B.k E (opO B I n b d),by rw[dh];exact q1c _ _,λy o U=>?_,g3,u,E,d,g1,g2,λo ho=>(g4 o ho).1,g5,pV (m:=B.k+E.length) (λj hj=>Gb hj) _ g3,by rw[dh];omega,rfl⟩;rcases mQ U with⟨i,rfl,l⟩|⟨j0,U⟩
   ·have hi:i<E.length:=by have:=(q0e.1 l).1;rwa [e]at this
    rw[q1b,Z7]at l;obtain⟨W,j3,rfl⟩:=l;have:=g4 W (q0w j3);refine .inl ⟨B.k+i,W,by omega,by rw[Gb (m:=B.k+E.length) (by omega)];omega,?_,this.1,this.2,eG (m:=B.k+E.length) (λj hj=>(Gb hj).symm) this.2⟩;have h2:=sH (O:=B.O d++E) (k:=0) (i:=B.k+i) (o:=W) (by rw[J];omega) (by rw[q1i (by rw[B.len];omega),B.len,q3p];exact j3);rwa [q1g]at h2
   rw[e]at j0;rcases Ip U with⟨i,W,rfl,i1,rfl⟩|⟨rfl,rfl⟩|⟨i1,i2,i3⟩
   ·obtain⟨V,l,j3⟩:=B.lt d i1;have lt2:ltO (B.k+E.length) W=true:=UL (q1c _ _) j3;refine .inl ⟨i,W,by omega,(mo V).symm,?_,l,lt2,eG (m:=B.k) (λj hj=>(mo hj).symm) j3⟩;have h2:=sH (O:=B.O d++E) (k:=0) (i:=i) (o:=W) (by rw[J];omega) (by rw[q1l (by rw[B.len];exact V)];exact i1);rwa [q1g]at h2
   ·exact .inr ⟨.inl (by omega),Ob Y A,λq=>by have:=gZ q;omega⟩
   ·exact .inr ⟨by rw[dh];omega,Oa Y A i2 i1 i3,λq=>by have:=gZ q;omega⟩
 ·exact hs.elim
theorem W0 {X C:Type} {f:FuncId} {run:List AV->AH->Nat->PK->Prop} (j:al f run) (F:bR Tryz.prog f=true) (B:Obj X C) {k:Nat} (hk:B.k=k) (G:k<1000) {R:X->List AV->X->AV->Prop}
 (h:∀x cs d v,R x cs d v->cs.all gj=true/\gj v=true/\∀c,B.ok x c->run (.ptr 0 0::cs) (mkH (bE (B.O c) 0)) k (gm B d v)):al f (cK k B R):=λargs H n κ s φ I J vs K L g M=>by
 unfold cK at s;split at s
 ·rename_i a ar;obtain⟨b,p,x,cs,d,v,H1,rfl,N,Q,l,hb,i,A,S⟩:=s;have s2:=(h x cs d v A).2.1;refine xE (R:=λx cs d P=>∃v,P=(λu E=>E=[]/\u=v)/\R x cs d v) (run:=WZ run) j.w F B hk G (λx cs d P ⟨v,hP,A⟩=>?_) (aA p::ar) H n κ ⟨b,p,x,cs,d,λu E=>E=[]/\u=v,H1,rfl,N,Q,l,hb,i,⟨v,rfl,A⟩,λu E ⟨T,U⟩=>?_⟩ φ I J vs K L g M
  ·obtain⟨s1,s2,s3⟩:=h x cs d v A;subst hP hk;refine⟨s1,λc hc=>⟨gm B d v,s3 c hc,λu H' n' ⟨H2,c',g1,g2,g3⟩=>⟨v,[],c',⟨rfl,rfl⟩,g2,(iU (r:=λb=>b) s2).2,λo ho=>(by cases ho),by decide,?_⟩⟩⟩;rw[q1e];intro χ I J ρ L hf;obtain⟨ψ1,V,W,Y⟩:=g1 χ I J (ρ 0) L (hf 0 u rfl);obtain⟨Z,D,hr4⟩:=Bz W g3 (by rw[B.len];exact Z3 _);refine⟨Z,⟨λy q hy e=>D.1 y q hy (V.b y q e),λq e=>D.2.1 q (V.z q e),λq e=>V.y q (D.2.2 q e)⟩,hr4,λt a ht=>?_⟩;have:=nG ht;simp only[Z5,Z4,or_false]at this;injection this with T U;subst T U;exact nP D.2.1 s2 Y
  ·subst T U;rw[(iU (m:=0) s2).1];exact S
 ·exact s.elim
theorem gu {X C:Type} {F:FuncId->EP} (i:aS F) (d:Nat) {f:FuncId} (a:bR Tryz.prog f=true) (B:Obj X C) {k:Nat} (j:B.k=k) (e:k<1000) {R:X->List AV->X->AV->Prop}
 (h:∀x cs g v,R x cs g v->cs.all gj=true/\gj v=true/\∀c,B.ok x c->ax F d f (.ptr 0 0::cs) (mkH (bE (B.O c) 0)) k (gm B g v)):al f (cK k B R):=W0 (ay i d f) a B j e h
def dM{X C:Type}(k:Nat)(B:Obj X C)(R:X->List AV->AV->Prop)(args:List AV)(H:AH)(n:Nat)(κ:PK):Prop:=match args with
 |a::c=>∃b p x cs v,a=aA p/\b<n/\n<800000/\Res H n c H cs/\H.get b=some (.sep (B.Q x p))/\ia H k n=true/\R x cs v/\κ v H (n+k)
 |_=>False
theorem Gf{X C:Type}(k:Nat)(B:Obj X C)(R:X->List AV->AV->Prop):iC (dM k B R):=λargs H n q a=>by
 unfold dM at*;split at a
 ·obtain⟨b,p,x,cs,v,c,d,e,f,g,i,j,l⟩:=a;exact⟨v,H,n+k,l,λ_ _ h=>h,q1c _ _,λo h=>⟨b,p,x,cs,v,c,d,e,f,g,i,j,h⟩⟩
 ·exact a.elim
theorem al.ol{X C:Type}{f:FuncId}{k:Nat}{B:Obj X C}{R:X->List AV->AV->Prop}(h:al f (cK k B λx cs t v=>t=x/\R x cs v)):al f (dM k B R):=λargs H n Z e φ h0 w A K D c E=>by
 unfold dM at e;split at e
 ·rename_i a F;obtain⟨b,p,x,cs,v,G,I,J,L,l,M,N,O⟩:=e;refine h (a::F) H n (λi r s=>i=v/\r=H.set (some (.sep (B.Q x p))) aa b/\s=n+k) ⟨b,p,x,cs,x,v,H,G,I,J,L,l,M,⟨rfl,N⟩,rfl,rfl,rfl⟩ φ h0 w A K D c λP i r s u g j T U ⟨V,W,Y⟩=>?_
  subst V W Y;refine E P i H _ u g j (T.less λy o d=>?_) U O;by_cases q:y=b
  ·subst q;rw[l]at d;injection d with d;subst d;exact PM.geq (by omega)
  ·exact PM.gne (by omega) q d
 ·exact e.elim
def W3{Y E:Type}(D:Obj Y E)(k:Nat)(y:Y):PK:=λu a c=>∃e,D.ok y e/\Cov 0 (mkE [(0,u)]) a c (mkE [(0,.ptr 0 0)],mkH (bE (D.O e) 0),k)
def sJ{Y E:Type}(k:Nat)(D:Obj Y E)(R:List AV->Y->Prop)(args:List AV)(H:AH)(n:Nat)(κ:PK):Prop:=∃cs y a,n<800000/\Res H n args a cs/\ia a (k+1) n=true/\R cs y/\∀p,κ (aA p) (a.set (some (.sep (D.Q y p))) aa n) (n+1+k)
theorem Od {Y E:Type} {f:FuncId} {run:List AV->AH->Nat->PK->Prop} (F:al f run) (N:bR Tryz.prog f=true) (D:Obj Y E) {k:Nat} (hk:D.k=k) (hk9:k<1000) {R:List AV->Y->Prop}
 (h:∀cs y,R cs y->cs.all gj=true/\run cs .nil 0 (W3 D k y)):al f (sJ k D R):=λargs H n κ ⟨cs,y,P,hn9,G,d,hR,U⟩ φ h0 V vs K W r Z=>by
 subst hk;obtain⟨φ1,l1,hr1,ha1⟩:=G φ h0 V _ W r;obtain⟨ψ,l2,hr2⟩:=hr1.hole;obtain⟨s1,s3⟩:=h cs y hR;have J:n+1+D.k<1000000:=by omega
 refine dz (S:=[]) (O:=[]) (args0:=cs) (κ:=λv2 H2 n2=>v2= .ptr (n+1) 0/\n2=n+1+D.k/\∃e,D.ok y e/\H2=opO D P (n+1) n e) F.m N hr2 ⟨q4x,rfl,λi s o h1 _=>by simp at h1⟩ (by rw[kN s1];exact VRs.mono l2 _ _ ha1) ?_ (Q:=λv' L m=>v'= .ptr 0 0/\m=D.k/\∃e,D.ok y e/\L=mkH (bE (D.O e) 0)) ?_ λu L n' hq=>?_
 ·intro χ v2 H2 n2 u g hle hg hu ⟨v,f2,e,f3,f4⟩;subst v f2 f4;obtain⟨a,l,z,I⟩:=D.pos e;rcases hg.live _ _ (F9 J I)with⟨_,A⟩|⟨q,ob,A,_⟩
  ·cases A
  rw[q2w]at A;have eq:q=⟨(q.B,q.s).1,(q.B,q.s).2,q.T⟩:=rfl
  rw[eq]at A
  obtain⟨ω,_,l3,_,hr3⟩:=hg.F8 (O:=D.O e) (S:=kF (n+1) D.k) (b:=n) (p:=(q.B,q.s)) (Q:=D.Q y (q.B,q.s)) (H':=P.set (some (.sep (D.Q y (q.B,q.s)))) aa n) (zF J) (Ob J (by omega)) (λq=>by have:=gZ q;omega) (s0:=n+1) (by rw[sI (D.k0 e),q2w]) A (λx o hx=>by
   rcases PM.an aa _ n x o hx with⟨C,c⟩|⟨C,c⟩
   ·injection c with c;exact .inl ⟨C,c.symm⟩
   ·have:x<n+1∨n+1+D.k<=x:=by
     rcases q3k x n with q|q
     ·exact .inl (by omega)
     ·exact .inr (q3t λq2=>lq d q (by omega) c)
    exact .inr ⟨C,λq=>by have:=gZ q;omega,Oa J (by omega) this C c⟩) λz X h hh=>⟨e,f3,hh⟩
  refine Z ω (aA (q.B,q.s)) _ _ u g (((l1.trans l2).trans hle).trans l3) hr3 ?_ (U (q.B,q.s));obtain⟨pl,v,f2⟩:=hu.cx;rw[A]at v;injection v with v;subst f2 v;exact rfl
 ·refine⟨W3 D D.k y,s3,λu L n' ⟨e,g1,g2⟩=>⟨.ptr 0 0,mkH (bE (D.O e) 0),D.k,λχ h0 V w W hu=>?_,rfl,rfl,e,g1,rfl⟩⟩
  obtain⟨ψ2,m2,hr4,hf4⟩:=g2 χ h0 V (λ_=>w) W (λt a ht=>by
   have:=nG ht;simp only[Z5,Z4,or_false]at this;injection this with e1 e2;subst e1 e2;exact hu)
  exact⟨ψ2,m2,hr4,hf4 0 _ rfl⟩
 ·obtain⟨g1,g2,e,g3,g4⟩:=hq;subst g1 g2 g4;refine⟨D.k,opO D P (n+1) n e,Z9 _,λx o hx=>?_,q0z (D.k0 e),?_,by simp,e,g3,rfl⟩
  ·rcases Ip hx with⟨i,o',rfl,M,rfl⟩|⟨rfl,rfl⟩|⟨M,i2,i3⟩
   ·obtain⟨C,c,j3⟩:=D.lt e M;have h2:=sH (O:=D.O e) (k:=0) (i:=i) (o:=o') (by rw[D.len];omega) M;rw[q1g]at h2;have nm:∀j,bq [] (n+1) j=n+1+j:=λj=>by rw[gF (Z9 _)];simp
    exact .inl ⟨i,o',C,(nm i).symm,h2,c,j3,eG (m:=D.k) (λj hj=>(nm j).symm) j3⟩
   ·exact .inr ⟨.inl (by omega),PM.geq (by omega),λq=>by cases q⟩
   ·exact .inr ⟨by simp;omega,PM.gne (by omega) M i3,λq=>by cases q⟩
  ·show AV.ptr (bq [] (n+1) 0) 0=_;rw[gF (Z9 _)];rfl
def HP.ki(Q R:HP):HP where
 P z X h:=∃Y Z:Nat->Prop,(∀B,X B<->Y B∨Z B)/\(∀B,Y B->¬Z B)/\Q.P z Y h/\R.P z Z h
 loc z X h g hn e:=λ⟨Y,Z,a,i,c,d⟩=>⟨Y,Z,a,i,Q.loc z Y h g hn (λB f=>e B ((a B).2 (.inl f))) c,R.loc z Z h g hn (λB f=>e B ((a B).2 (.inr f))) d⟩
 mono z j X h k:=λ⟨Y,Z,a,i,c,d⟩=>⟨Y,Z,a,i,Q.mono z j Y h k c,R.mono z j Z h k d⟩
 ex z X h B:=λ⟨Y,Z,a,i,c,d⟩ f=>((a B).1 f).elim (Q.ex z Y h B c) (R.ex z Z h B d)
def aE:List HP->HP
 | []=> .emp
 |Q::l=> .ki Q (aE l)
section
variable {Q R S:HP} {z:Fz->Prop} {X:Nat->Prop} {h:Hp}
theorem xG:(HP.ki Q (.ki R S)).P z X h->(HP.ki R (.ki Q S)).P z X h:=λ⟨Y,Z,f,e,g,V,W,d,i,j,k⟩=>
 ⟨V,λB=>Y B∨W B,λB=>by rw[f B,d B,<-or_assoc,<-or_assoc,or_comm (a:=Y B)],λB c l=>l.elim (λq=>e B q ((d B).2 (.inl c))) (i B c),j,Y,W,λ_=>Iff.rfl,λB c q=>e B c ((d B).2 (.inr q)),g,k⟩
theorem uK{a:HP}(c:∀X,R.P z X h->a.P z X h):(HP.ki Q R).P z X h->(HP.ki Q a).P z X h:=λ⟨Y,Z,d,e,f,g⟩=>⟨Y,Z,d,e,f,c Z g⟩
theorem tR:∀(A:List HP) {B:List HP} {X:Nat->Prop},(aE (A++Q::B)).P z X h->(HP.ki Q (aE (A++B))).P z X h
 | [],_,_,h=>h
 |_::A,_,_,h=>xG (uK (λ_=>tR A) h)
theorem xH:∀(A:List HP) {B:List HP} {X:Nat->Prop},(HP.ki Q (aE (A++B))).P z X h->(aE (A++Q::B)).P z X h
 | [],_,_,h=>h
 |_::A,_,_,h=>uK (λ_=>xH A) (xG h)
end
section
variable {φ:Ph} {H:AH} {n:Nat} {h0 h:Hp} {b m:Nat} {Q R:HP}
theorem HR.split(d:HR φ H n h0 h)(hbn:b<n)(J:H.get b=some (.sep (.ki Q R))):∃ψ,PLe φ ψ/\HR ψ ((H.set (some (.sep R)) aa b).set (some (.sep Q)) aa n) (n+1) h0 h:=by
 obtain⟨⟨Y,Z,W,y2,y3,y4⟩,s4⟩:=d.sep b _ J;have A:=d.nM J
 have C:φ n=none:=by
  cases e:φ n with
  |none=>rfl
  |some q=>exact absurd (d.dom n q e).1 (q3o _)
 let ψ:Ph:=⟨φ.f,φ.z,φ.y,λx=>if x=n then Y else if x=b then Z else φ.s x⟩
 have K:ψ.s n=Y:=if_pos rfl
 have sb:ψ.s b=Z:=by show(if b=n then Y else if b=b then Z else _)=Z;rw[if_neg (by omega),if_pos rfl]
 have so:∀x,x≠n->x≠b->ψ.s x=φ.s x:=λx j a=>by show(if x=n then Y else if x=b then Z else φ.s x)=_;rw[if_neg j,if_neg a]
 have cs:∀x o,((H.set (some (.sep R)) aa b).set (some (.sep Q)) aa n).get x=some o->(x=n/\o= .sep Q)∨(x≠n/\((x=b/\o= .sep R)∨(x≠b/\H.get x=some o))):=λx o c=>by
  rcases PM.an aa _ n x o c with⟨j,a⟩|⟨j,a⟩
  ·injection a with a;exact .inl ⟨j,a.symm⟩
  ·rcases PM.an aa H b x o a with⟨l,p⟩|⟨l,p⟩
   ·injection p with p;exact .inr ⟨j,.inl ⟨l,p.symm⟩⟩
   ·exact .inr ⟨j,.inr ⟨l,p⟩⟩
 have own:∀x o q,((H.set (some (.sep R)) aa b).set (some (.sep Q)) aa n).get x=some o->φ x=some q->H.get x=some o:=λx o q c k=>by
  rcases cs x o c with⟨rfl,_⟩|⟨_,⟨rfl,_⟩|⟨_,l⟩⟩
  ·rw[C]at k;cases k
  ·rw[A]at k;cases k
  ·exact l
 have sle:SLe φ ψ:=⟨λ_ _ h=>h,λ_ h=>h⟩;refine⟨ψ,⟨λ_ _ h=>h,λ_ h=>h,λ_ h=>h⟩,⟨λx q e=>⟨by have:=(d.dom x q e).1;omega,(d.dom x q e).2⟩,λx o c=>?_,λx y o r q q' c D ho M k E e=>d.inj x y o r q q' (own x o q c k) (own y r q' D E) ho M k E e,d.base,d.size,λq k=>⟨⟨FzR.mono (φ:=φ) (ψ:=ψ) sle.z (d.frz q k).1.1,(d.frz q k).1.2⟩,λx o px c ho F=>(d.frz q k).2 x o px (own x o px c F) ho F⟩,λx u c=>?_⟩⟩
 ·rcases cs x o c with⟨rfl,rfl⟩|⟨_,⟨rfl,rfl⟩|⟨_,p⟩⟩
  ·exact .inl ⟨C,rfl⟩
  ·exact .inl ⟨A,rfl⟩
  ·rcases d.live x o p with g|⟨q,ob,N,O,P,T⟩
   ·exact .inl g
   ·exact .inr ⟨q,ob,N,O,P,T.c9 sle⟩
 have up:∀{x B},ψ.s x B->∀{u},((H.set (some (.sep R)) aa b).set (some (.sep Q)) aa n).get x=some (.sep u)->∃t U,H.get t=some (.sep U)/\φ.s t B/\(t=b<->(x=b∨x=n))/\(t≠b->t=x):=λ{x B} i {u} c=>by
  rcases cs x _ c with⟨rfl,_⟩|⟨j,⟨rfl,_⟩|⟨a,l⟩⟩
  ·rw[K]at i;exact⟨b,_,J,(W B).2 (.inl i),by simp,λq=>absurd rfl q⟩
  ·rw[sb]at i;exact⟨x,_,J,(W B).2 (.inr i),by simp,λq=>absurd rfl q⟩
  ·rw[so x j a]at i;exact⟨x,_,l,i,by simp[j,a],λ_=>rfl⟩
 have fin:∀{x u},((H.set (some (.sep R)) aa b).set (some (.sep Q)) aa n).get x=some (.sep u)->∀B,ψ.s x B->(B<h.n/\h0.f B=none)/\(∀w r G,((H.set (some (.sep R)) aa b).set (some (.sep Q)) aa n).get w=some r->r.own=true->ψ w=some G->G.B≠B)/\(∀q,ψ.z q->q.B≠B)/\∀w Q',((H.set (some (.sep R)) aa b).set (some (.sep Q)) aa n).get w=some (.sep Q')->w≠x->¬ψ.s w B:=λ{x u} c B i=>by
  obtain⟨t,U,e1,e2,e3,e4⟩:=up i c;obtain⟨N,O,P,T⟩:=(d.sep t U e1).2 B e2;refine⟨N,λy r G D ho hp=>O y r G (own y r G D hp) ho hp,P,λy Q' D v I=>?_⟩;obtain⟨V,Q4,f1,f2,f3,f4⟩:=up I D;by_cases q:V=t
  ·subst q;by_cases L:V=b
   ·have a1:=e3.1 L;have a2:=f3.1 L;rcases a1 with rfl|rfl<;>rcases a2 with rfl|rfl
    ·exact v rfl
    ·rw[sb]at i;rw[K]at I;exact y2 B I i
    ·rw[K]at i;rw[sb]at I;exact y2 B i I
    ·exact v rfl
   ·exact v ((f4 L).symm.trans (e4 L))
  ·exact T V Q4 f1 q f2
 refine⟨?_,fin c⟩;rcases cs x _ c with⟨rfl,a⟩|⟨j,⟨rfl,a⟩|⟨l,p⟩⟩
 ·injection a with a;subst a;rw[K];exact y3
 ·injection a with a;subst a;rw[sb];exact y4
 ·rw[so x j l];exact(d.sep x u p).1
theorem HR.join(c:HR φ H n h0 h)(F:b≠m)(D:H.get b=some (.sep R))(U:H.get m=some (.sep Q)):∃ψ,PLe φ ψ/\HR ψ ((H.set none aa m).set (some (.sep (.ki Q R))) aa b) n h0 h:=by
 obtain⟨r1,r2⟩:=c.sep b _ D;obtain⟨q1,q2⟩:=c.sep m _ U;have r:=c.nM D
 let ψ:Ph:=⟨φ.f,φ.z,φ.y,λx=>if x=b then(λB=>φ.s m B∨φ.s b B)else φ.s x⟩
 have sb:ψ.s b=λB=>φ.s m B∨φ.s b B:=if_pos rfl
 have V:∀x,x≠b->ψ.s x=φ.s x:=λx j=>if_neg j
 have cs:∀x o,((H.set none aa m).set (some (.sep (.ki Q R))) aa b).get x=some o->(x=b/\o= .sep (.ki Q R))∨(x≠b/\x≠m/\H.get x=some o):=λx o a=>by
  rcases PM.an aa _ b x o a with⟨j,d⟩|⟨j,d⟩
  ·injection d with d;exact .inl ⟨j,d.symm⟩
  ·rcases PM.an aa H m x o d with⟨l,t⟩|⟨l,t⟩
   ·cases t
   ·exact .inr ⟨j,l,t⟩
 have own:∀x o q,((H.set none aa m).set (some (.sep (.ki Q R))) aa b).get x=some o->φ x=some q->H.get x=some o:=λx o q a k=>by
  rcases cs x o a with⟨rfl,_⟩|⟨_,_,l⟩
  ·rw[r]at k;cases k
  ·exact l
 have sle:SLe φ ψ:=⟨λ_ _ h=>h,λ_ h=>h⟩;refine⟨ψ,⟨λ_ _ h=>h,λ_ h=>h,λ_ h=>h⟩,⟨c.dom,λx o a=>?_,λx y o u q W a v ho G k w e=>c.inj x y o u q W (own x o q a k) (own y u W v w) ho G k w e,c.base,c.size,λq k=>⟨⟨FzR.mono (φ:=φ) (ψ:=ψ) sle.z (c.frz q k).1.1,(c.frz q k).1.2⟩,λx o px a ho A=>(c.frz q k).2 x o px (own x o px a A) ho A⟩,λx E a=>?_⟩⟩
 ·rcases cs x o a with⟨rfl,rfl⟩|⟨_,_,t⟩
  ·exact .inl ⟨r,rfl⟩
  ·rcases c.live x o t with g|⟨q,ob,I,J,K,L⟩
   ·exact .inl g
   ·exact .inr ⟨q,ob,I,J,K,L.c9 sle⟩
 have up:∀{x B},ψ.s x B->∀{E},((H.set none aa m).set (some (.sep (.ki Q R))) aa b).get x=some (.sep E)->∃p M,H.get p=some (.sep M)/\φ.s p B/\(x=b/\(p=b∨p=m)∨x≠b/\x≠m/\p=x):=λ{x B} i {E} a=>by
  rcases cs x _ a with⟨rfl,_⟩|⟨j,d,l⟩
  ·rw[sb]at i;rcases i with i|i
   ·exact⟨m,_,U,i,.inl ⟨rfl,.inr rfl⟩⟩
   ·exact⟨x,_,D,i,.inl ⟨rfl,.inl rfl⟩⟩
  ·rw[V x j]at i;exact⟨x,_,l,i,.inr ⟨j,d,rfl⟩⟩
 refine⟨?_,λB i=>?_⟩
 ·rcases cs x _ a with⟨rfl,d⟩|⟨j,d,l⟩
  ·injection d with d;subst d;rw[sb];exact⟨φ.s m,φ.s x,λ_=>Iff.rfl,λB i=>(q2 B i).2.2.2 x R D F,q1,r1⟩
  ·rw[V x j];exact(c.sep x E l).1
 ·obtain⟨p,M,e1,e2,e3⟩:=up i a;obtain⟨I,J,K,L⟩:=(c.sep p M e1).2 B e2;refine⟨I,λy u Y v ho Z=>J y u Y (own y u Y v Z) ho Z,K,λy Q' v C hs=>?_⟩;obtain⟨y',Q4,f1,f2,f3⟩:=up hs v;by_cases q:y'=p
  ·subst q;rcases e3 with⟨N,O⟩|⟨N,O,a3⟩<;>rcases f3 with⟨P,T⟩|⟨P,T,c3⟩
   ·exact C (P.trans N.symm)
   ·subst c3;rcases O with rfl|rfl
    ·exact P rfl
    ·exact T rfl
   ·subst a3;rcases T with rfl|rfl
    ·exact N rfl
    ·exact O rfl
   ·exact C (c3.symm.trans a3)
  ·exact L y' Q4 f1 q f2
end
def W4(run:List AV->AH->Nat->PK->Prop)(args:List AV)(H:AH)(n:Nat)(κ:PK):Prop:=∃(b:Nat) (A C:List HP) (Q:HP),b<n/\n<800000/\H.get n=none/\H.get b=some (.sep (aE (A++Q::C)))/\run args ((H.set (some (.sep (aE (A++C)))) aa b).set (some (.sep Q)) aa n) (n+1) λv a d=>∃c,a.get b=some (.sep (aE (A++C)))/\a.get n=some (.sep c)/\κ v ((a.set none aa n).set (some (.sep (aE (A++c::C)))) aa b) d
theorem al.st{f:FuncId}{run:List AV->AH->Nat->PK->Prop}(d:al f run):al f (W4 run):=λargs H n Y ⟨b,A,C,Q,i,Z,F,G,I⟩ φ h0 h J K L a M=>by
 have j:=L.uD (Q':= .ki Q (aE (A++C))) G λ_ _ _=>tR A
 obtain⟨y,B,l⟩:=j.split i (PM.geq (by omega))
 have p:HR y ((H.set (some (.sep (aE (A++C)))) aa b).set (some (.sep Q)) aa n) (n+1) h0 h:=l.less λx o q=>by
  rcases PM.an aa _ n x o q with⟨rfl,c⟩|⟨e,c⟩
  ·rw[PM.geq (by omega)];exact c
  rcases PM.an aa H b x o c with⟨rfl,r⟩|⟨D,r⟩
  ·exact PM.gne (by omega) e (by rw[PM.geq (by omega)];exact r)
  ·exact PM.gne (by omega) e (PM.gne (by omega) D (PM.gne (by omega) D r))
 refine d args _ _ _ I y h0 h J K p (VRs.mono B _ _ a) λχ v H2 N u g s O P ⟨k,T,U,V⟩=>?_
 obtain⟨W,E,t⟩:=O.join (by omega) T U;have w:=t.uD (Q':=aE (A++k::C)) (PM.geq (by omega)) λ_ _ _=>xH A
 refine M W v _ N u g ((B.trans s).trans E) (w.less λx o q=>?_) (VR.mono E _ _ P) V;rcases PM.an aa _ b x o q with⟨rfl,c⟩|⟨e,c⟩
 ·rw[PM.geq (by omega)];exact c
 ·exact PM.gne (by omega) e (PM.gne (by omega) e c)
def W5(run:List AV->AH->Nat->PK->Prop)(args:List AV)(H:AH)(n:Nat)(κ:PK):Prop:=∃(b:Nat) (A C:List HP) (Q:HP) (v:AV) (a:Nat),b<n/\n<800000/\H.get n=none/\H.get b=some (.sep (aE (A++Q::C)))/\n<=a/\run args ((H.set (some (.sep (aE (A++C)))) aa b).set (some (.sep Q)) aa n) (n+1) (λu c d=>u=v/\c=(H.set (some (.sep (aE (A++C)))) aa b).set (some (.sep Q)) aa n/\d=a)/\κ v H a
theorem al.sl{f:FuncId}{run:List AV->AH->Nat->PK->Prop}(d:al f run):al f (W5 run):=λargs H n P ⟨b,A,C,Q,v,B,D,E,s,t,T,F,G⟩ φ h0 h I K J a L=>by
 refine d.w.st args H n (λu i j=>u=v/\j=B/\∀x o,H.get x=some o->i.get x=some o) ⟨b,A,C,Q,D,E,s,t,_,F,λu i j ⟨k,l,p⟩=>?_⟩ φ h0 h I K J a λM u i j w g r N O ⟨k,l,p⟩=>?_
 ·subst k l p;refine⟨Q,PM.gne (by omega) (by omega) (PM.geq (by omega)),PM.geq (by omega),rfl,rfl,λx o c=>?_⟩;by_cases q:x=b
  ·subst q;rw[t]at c;injection c with c;subst c;exact PM.geq (by omega)
  ·have y:x≠n:=λe=>by subst e;rw[s]at c;cases c
   exact PM.gne (by omega) q (PM.gne (by omega) y (PM.gne (by omega) y (PM.gne (by omega) q c)))
 ·subst k l;exact L M u H _ w g r (N.less p) O G
abbrev Tx:=List Nat
def strs(V:List (List Nat)):List AV:=V.map λs=> .ss s
theorem bX(V:List (List Nat)):(strs V).all flat.flat1=true:=by simp[strs,flat.flat1]
theorem cZ(V:List (List Nat)):(strs V).map mk=strs V:=by simp[strs,mk,Function.comp_def]
theorem aV(V:List (List Nat)):(strs V).length=V.length:=by simp[strs]
theorem cL{V:List (List Nat)}{i o:Nat}(h:i<V.length)(ho:o=i):nth (strs V) o=some (.ss V[i]):=by
 subst ho;rw[eu,strs,q1b,q0b h];rfl
def sL(V:List (List Nat))(i:Nat):Prop:=∀j,j+1<i->∀h:j+1<V.length,ltL (V[j]'(by omega)) V[j+1]=true
instance (V:List (List Nat)) (i:Nat):Decidable (sL V i):=Classical.propDecidable _
def lr (V:List (List Nat)):Bool:=decide (sL V V.length)
def rs0 (V:List (List Nat)) (i:Nat):AE×AH:=(mkE [(0,.fr V.length 1 (strs V)),(3,.si .i64 (i))],mkH [])
theorem Iq{V:List (List Nat)}{i:Nat}{p n:Nat}{σ:AE}{H:AH}(a:p<=0)(e0:ai (pa 0) σ= .fr V.length 1 (strs V))(b:mk (ai (pa 3) σ)= .si .i64 (i)):Cov p σ H n ((rs0 V i).1,(rs0 V i).2,0):=
 Cov.ofA a ⟨ae.frE e0,.int b,trivial⟩ trivial rfl
theorem ae.fn0{H:AH}{m:Nat}{r:Nat->Nat}{a:AV}{f:Nat}(e:a= .fn f [] []):ae H m r a (.fn f [] []):=λg h v _ _ b=>by
 subst e;obtain⟨xs,cs,rfl,c,d⟩:=b.nu;exact .fn (by rw[c.aQ];exact .nil) (by rw[d.aQ];exact .nil)
theorem xI(V:List (List Nat)):(strs V).all oH=true:=by simp[strs,oH]
theorem zG(V:List (List Nat))(i:Nat):(strs V).drop i=strs (V.drop i):=by simp[strs,List.map_drop]
theorem KS(V:List (List Nat))(i:Nat):(strs V).take i=strs (V.take i):=by simp[strs,q4p]
theorem dJ(W:List (List Nat))(v:List Nat):(strs W++ [AV.ss v]).map mk=strs (W++ [v]):=by simp[strs,mk,Function.comp_def]
theorem tyT:RTy 58 58 1 16:=⟨_,_,_,rfl,rfl,(λq h=>by cases h),rfl,rfl,rfl,rfl,by decide,by decide⟩
def leS (a b:List Nat):Bool:=ltL a b||db a b
theorem tS:∀(a b:List Nat),leS a b=false->leS b a=true
 | [],[],h=>by cases h
 | [],_::_,h=>by cases h
 |_::_,[],_=>rfl
 |a::x,b::y,h=>by
  unfold leS ltL db at h⊢;by_cases e:a=b
  ·subst e;rw[Nat.beq_refl]at h⊢;exact tS x y h
  ·have c:Nat.beq a b=false:=by cases q:Nat.beq a b;rfl;exact absurd (q0n q) e
   have d:Nat.beq b a=false:=by cases q:Nat.beq b a;rfl;exact absurd (q0n q).symm e
   rw[c]at h;rw[d];simp only[Bool.or_false]at h⊢;have f:¬a<b:=λq=>by rw[(q2y (x:=a) (y:=b)).mpr q]at h;cases h
   exact(q2y (x:=b) (y:=a)).mpr (by omega)
def br (q:Bool):List Tx->List Tx->List Tx
 | [],B=>if q=true then B else []
 |a::A,[]=>a::A
 |a::A,b::B=>if leS a b=true then(if leS b a=true then(if q=true then b::br q A B else br q A B)else a::br q A (b::B))else(if q=true then b::br q (a::A) B else br q (a::A) B)
termination_by A B=>A.length+B.length
decreasing_by all_goals(simp only[q0a];omega)
section
variable {q:Bool}
theorem gv(B:List Tx):br q [] B=if q=true then B else []:=by rw[br]
theorem gx(A:List Tx):br q A []=A:=by cases A<;>rw[br];split<;>rfl
theorem mT{a b:Tx}(A B:List Tx)(h:leS a b=true)(k:¬leS b a=true):br q (a::A) (b::B)=a::br q A (b::B):=by rw[br,if_pos h,if_neg k]
theorem mU{a b:Tx}(A B:List Tx)(h:leS a b=true)(k:leS b a=true):br q (a::A) (b::B)=(if q=true then [b]else [])++br q A B:=by rw[br,if_pos h,if_pos k];split<;>rfl
theorem mV{a b:Tx}(A B:List Tx)(h:¬leS a b=true):br q (a::A) (b::B)=(if q=true then [b]else [])++br q (a::A) B:=by rw[br,if_neg h];split<;>rfl
end
theorem lu(q:Bool):∀(A B:List Tx),(br q A B).length<=A.length+B.length
 | [],B=>by rw[gv];split<;>simp
 |a::A,[]=>by rw[gx];simp
 |a::A,b::B=>by
  have e:∀l:List Tx,((if q=true then [b]else [])++l).length<=l.length+1:=λl=>by split<;>simp
  by_cases h:leS a b=true
  ·by_cases k:leS b a=true
   ·have:=lu q A B;have:=e (br q A B);rw[mU A B h k];simp only[q0a];omega
   ·have:=lu q A (b::B);rw[mT A B h k];simp only[q0a]at this⊢;omega
  ·have:=lu q (a::A) B;have c:=e (br q (a::A) B);rw[mV A B h];simp only[q0a]at this⊢;omega
termination_by A B=>A.length+B.length
def ms0 (A:List Tx) (B:List Tx) (O:List Tx) (f:Nat):AE×AH:=(mkE [(0,.fr A.length 1 (strs A)),(1,.fr B.length 1 (strs B)),(2,AV.fn f [] []),(7,.rw 0 0 O.length 1 0)],mkH [(0,.cells (strs (O)) true)])
theorem gI{A:List Tx}{B:List Tx}{O:List Tx}{f:Nat}{p n:Nat}{σ:AE}{H:AH}(a:Nat)(m:p<=0)(e0:ai (pa 0) σ= .fr A.length 1 (strs A))(e:ai (pa 1) σ= .fr B.length 1 (strs B))(i:ae H 1 (λb=>if b=0 then a else b) (ai (pa 2) σ) (AV.fn f [] []))(j:ae H 1 (λb=>if b=0 then a else b) (ai (pa 7) σ) (.rw 0 0 O.length 1 0))(k:(∃l,H.get a=some (.cells l true)/\l.map mk=strs (O))∨((O)=[]/\n<=a)):Cov p σ H n ((ms0 A B O f).1,(ms0 A B O f).2,1):=
 Cov.ofB (λb=>if b=0 then a else b) (by omega) (λb o=>by repeat' rw[if_neg (by omega)]) ⟨ae.frE e0,ae.frE e,i,j,trivial⟩ ⟨k.elim (λ⟨l,h,g⟩=> .inl ⟨_,h,ak.bu (bX _) (by rw[g,cZ]) (λq=>q)⟩) (λh=> .inr ⟨by rw[h.1];rfl,h.2⟩),trivial⟩ rfl (λx c y d=>by simp only[Z5,Z4,or_false]at c d;subst c d;exact λ_=>rfl)
def GMs:FuncId->EP:=aX 206 [] evP
theorem UM:aS GMs:=au az (by kernel_rfl) (by kernel_rfl)
def SR(f:Nat)(q:Bool):Prop:=(f=214/\q=true)∨(f=222/\q=true)∨(f=215/\q=false)
theorem Gg(V W:List Tx)(f:Nat)(q:Bool)(o:SR f q)(p:V.length+W.length<=1000000):ax GMs 3 206 [.fr V.length 1 (strs V),.fr W.length 1 (strs W),.fn f [] []] .nil 0 (cY (.fr (br q V W).length 1 (strs (br q V W)))):=by
 rcases o with⟨rfl,j⟩|⟨rfl,j⟩|⟨rfl,j⟩
 all_goals
  conv=>whnf
  first
  |(refine aN.mk {t:List (List Nat)×List (List Nat)×List (List Nat)//t.1.length+t.2.1.length+t.2.2.length<=V.length+W.length/\t.2.2++br q t.1 t.2.1=br q V W} 1 (λt=>ms0 t.val.1 t.val.2.1 t.val.2.2 214) (λt=>t.val.1.length+t.val.2.1.length) ⟨(V,W,[]),by simp,rfl⟩ ?_ ?_;focus exact gI (O:=[]) 0 (Z3 0) rfl rfl (.fn0 rfl) (.iD rfl) (.inr ⟨rfl,Z3 _⟩))
  |(refine aN.mk {t:List (List Nat)×List (List Nat)×List (List Nat)//t.1.length+t.2.1.length+t.2.2.length<=V.length+W.length/\t.2.2++br q t.1 t.2.1=br q V W} 1 (λt=>ms0 t.val.1 t.val.2.1 t.val.2.2 222) (λt=>t.val.1.length+t.val.2.1.length) ⟨(V,W,[]),by simp,rfl⟩ ?_ ?_;focus exact gI (O:=[]) 0 (Z3 0) rfl rfl (.fn0 rfl) (.iD rfl) (.inr ⟨rfl,Z3 _⟩))
  |(refine aN.mk {t:List (List Nat)×List (List Nat)×List (List Nat)//t.1.length+t.2.1.length+t.2.2.length<=V.length+W.length/\t.2.2++br q t.1 t.2.1=br q V W} 1 (λt=>ms0 t.val.1 t.val.2.1 t.val.2.2 215) (λt=>t.val.1.length+t.val.2.1.length) ⟨(V,W,[]),by simp,rfl⟩ ?_ ?_;focus exact gI (O:=[]) 0 (Z3 0) rfl rfl (.fn0 rfl) (.iD rfl) (.inr ⟨rfl,Z3 _⟩))
  ·intro⟨(A,B,O),e,h⟩;dsimp only at e h;have l:bl (strs O) 0 (O.length*1)=some (strs O):=bj (by rw[aV,q0r]);cases A with
   |nil=>
    cases B with
    |nil=>
     conv=>whnf
     refine ag.dec (λc=>absurd (show(0:Int)<IntKind.i64.wrap (((0:Nat):Int)+((0:Nat):Int)) from c) (by decide)) (λ_=>?_);have m:O=br q V W:=by rw[<-h,gv];simp
     conv=>whnf
     exact cY.row rfl (congrArg List.length m) rfl (congrArg (λz=>(strs z).map mk) m) (by rw[aV,q0r]) (bX _)
    |cons b B=>
     have n:(0:Int)<IntKind.i64.wrap (((0:Nat):Int)+((B.length+1:Nat):Int)):=by simp only[q0a,q1r]at e;rw[aj (by omega) (by omega)];omega
     have d:(O.length+1)*16<=140737488355328:=by simp only[q0a,q1r]at e;omega
     conv=>whnf
     refine ag.dec (λ_=>?_) (λc=>absurd n c)
     conv=>whnf
     refine ag.dec (λc=>absurd (show((0:Nat):Int)>0 from c) (by decide)) (λ_=>?_)
     conv=>whnf
     refine ag.dec (λ_=>?_) (λc=>absurd (show(0:Int)<((B.length+1:Nat):Int) by omega) c)
     conv=>whnf
     refine ag.dec (λ_=>?_) (λc=>absurd rfl c)
     conv=>whnf
     refine Idx.mk 0 rfl (q4c _) ?_
     conv=>whnf
     refine RSl.mk 1 (B.length+1) rfl rfl (.inl rfl) (q4g (Z9 _)) (Z3 _) ?_
     conv=>whnf
     first
     |(refine bF.grow 1 16 _ _ _ _ _ _ tyT (.old rfl) rfl rfl (.rw rfl l) d ?_;(conv=>whnf);refine⟨⟨([],B,O++ [b]),?_,?_⟩,?_,gI 2 (Z9 _) rfl rfl (.fn0 rfl) (ae.rw (by decide) rfl) (.inl ⟨_,rfl,dJ O b⟩)⟩;(focus (simp only[q0a,Z6,q1r]at e⊢<;>omega));(focus (show(O++ [b])++br q [] B=_;rw[<-h,gv,gv];try simp[j]));(focus (show 0+B.length<0+(B.length+1);omega)))
     |(refine⟨⟨([],B,O),?_,?_⟩,?_,gI 0 (Z3 0) rfl rfl (.fn0 rfl) (ae.rw (by decide) rfl) (.inl ⟨_,rfl,cZ O⟩)⟩;(focus (simp only[q0a]at e⊢<;>omega));(focus (show(O)++br q [] B=_;rw[<-h,gv,gv];try simp[j]));(focus (show 0+B.length<0+(B.length+1);omega)))
   |cons a A=>
    have d:(O.length+1)*16<=140737488355328:=by simp only[q0a]at e;omega
    cases B with
    |nil=>
     have n:(0:Int)<IntKind.i64.wrap (((A.length+1:Nat):Int)+((0:Nat):Int)):=by simp only[q0a,q1r]at e;rw[aj (by omega) (by omega)];omega
     conv=>whnf
     refine ag.dec (λ_=>?_) (λc=>absurd n c)
     conv=>whnf
     refine ag.dec (λ_=>?_) (λc=>absurd (show(0:Int)<((A.length+1:Nat):Int) by omega) c)
     conv=>whnf
     refine ag.dec (λ_=>?_) (λc=>absurd rfl c)
     conv=>whnf
     refine ag.dec (λc=>absurd (show((0:Nat):Int)>0 from c) (by decide)) (λ_=>?_)
     conv=>whnf
     refine Idx.mk 0 rfl (q4c _) ?_
     conv=>whnf
     refine RSl.mk 1 (A.length+1) rfl rfl (.inl rfl) (q4g (Z9 _)) (Z3 _) ?_
     conv=>whnf
     first
     |(refine bF.grow 1 16 _ _ _ _ _ _ tyT (.old rfl) rfl rfl (.rw rfl l) d ?_;(conv=>whnf);refine⟨⟨(A,[],O++ [a]),?_,?_⟩,?_,gI 2 (Z9 _) rfl rfl (.fn0 rfl) (ae.rw (by decide) rfl) (.inl ⟨_,rfl,dJ O a⟩)⟩;(focus (simp only[q0a,Z6,q1r]at e⊢<;>omega));(focus (show(O++ [a])++br q A []=_;rw[<-h,gx,gx];try simp));(focus (show A.length+0<(A.length+1)+0;omega)))
     |(refine⟨⟨(A,[],O),?_,?_⟩,?_,gI 0 (Z3 0) rfl rfl (.fn0 rfl) (ae.rw (by decide) rfl) (.inl ⟨_,rfl,cZ O⟩)⟩;(focus (simp only[q0a]at e⊢<;>omega));(focus (show(O)++br q A []=_;rw[<-h,gx,gx];try simp));(focus (show A.length+0<(A.length+1)+0;omega)))
    |cons b B=>
     have n:(0:Int)<IntKind.i64.wrap (((A.length+1:Nat):Int)+((B.length+1:Nat):Int)):=by simp only[q0a]at e;rw[aj (by omega) (by omega)];omega
     conv=>whnf
     refine ag.dec (λ_=>?_) (λc=>absurd n c)
     conv=>whnf
     refine ag.dec (λ_=>?_) (λc=>absurd (show(0:Int)<((A.length+1:Nat):Int) by omega) c)
     conv=>whnf
     refine ag.dec (λc=>absurd (show((B.length+1:Nat):Int)=0 from c) (by omega)) (λ_=>?_)
     conv=>whnf
     refine Idx.mk 0 rfl (q4c _) ?_
     conv=>whnf
     refine Idx.mk 0 rfl (q4c _) ?_
     conv=>whnf
     refine ag.dec (λ_=>?_) (λc=>absurd (show(0:Int)<((B.length+1:Nat):Int) by omega) c)
     conv=>whnf
     refine ag.dec (λc=>absurd (show((A.length+1:Nat):Int)=0 from c) (by omega)) (λ_=>?_)
     conv=>whnf
     refine Idx.mk 0 rfl (q4c _) ?_
     conv=>whnf
     refine Idx.mk 0 rfl (q4c _) ?_
     conv=>whnf
     refine ag.sb (λc=>?_) (λc=>?_)
     ·have k:leS a b=true:=c
      conv=>whnf
      refine Idx.mk 0 rfl (q4c _) ?_
      conv=>whnf
      refine RSl.mk 1 (A.length+1) rfl rfl (.inl rfl) (q4g (Z9 _)) (Z3 _) ?_
      conv=>whnf
      refine ag.sb (λg=>?_) (λg=>?_)
      ·have i:leS b a=true:=g
       conv=>whnf
       refine Idx.mk 0 rfl (q4c _) ?_
       conv=>whnf
       refine RSl.mk 1 (B.length+1) rfl rfl (.inl rfl) (q4g (Z9 _)) (Z3 _) ?_
       conv=>whnf
       repeat(first|(refine ag.sb (λ_=>?_) (λz=>absurd (z.symm.trans c) (by decide));(conv=>whnf))|(refine ag.sb (λz=>absurd (z.symm.trans c) (by decide)) (λ_=>?_);(conv=>whnf))|(refine ag.nsb (λ_=>?_) (λz=>absurd (z.symm.trans c) (by decide));(conv=>whnf))|(refine ag.nsb (λz=>absurd (z.symm.trans c) (by decide)) (λ_=>?_);(conv=>whnf))|(refine ag.sb (λ_=>?_) (λz=>absurd (z.symm.trans g) (by decide));(conv=>whnf))|(refine ag.sb (λz=>absurd (z.symm.trans g) (by decide)) (λ_=>?_);(conv=>whnf))|(refine ag.nsb (λ_=>?_) (λz=>absurd (z.symm.trans g) (by decide));(conv=>whnf))|(refine ag.nsb (λz=>absurd (z.symm.trans g) (by decide)) (λ_=>?_);(conv=>whnf)))
       first
       |(refine bF.grow 1 16 _ _ _ _ _ _ tyT (.old rfl) rfl rfl (.rw rfl l) d ?_;(conv=>whnf);refine⟨⟨(A,B,O++ [b]),?_,?_⟩,?_,gI 2 (Z9 _) rfl rfl (.fn0 rfl) (ae.rw (by decide) rfl) (.inl ⟨_,rfl,dJ O b⟩)⟩;(focus (simp only[q0a,Z6,q1r]at e⊢<;>omega));(focus (show(O++ [b])++_=_;rw[<-h,mU A B k i];try simp[j]));(focus (show A.length+B.length<(A.length+1)+(B.length+1);omega)))
       |(refine⟨⟨(A,B,O),?_,?_⟩,?_,gI 0 (Z3 0) rfl rfl (.fn0 rfl) (ae.rw (by decide) rfl) (.inl ⟨_,rfl,cZ O⟩)⟩;(focus (simp only[q0a]at e⊢<;>omega));(focus (show(O)++_=_;rw[<-h,mU A B k i];try simp[j]));(focus (show A.length+B.length<(A.length+1)+(B.length+1);omega)))
      ·have i:¬leS b a=true:=by rw[show leS b a=false from g];decide
       conv=>whnf
       repeat(first|(refine ag.sb (λ_=>?_) (λz=>absurd (z.symm.trans c) (by decide));(conv=>whnf))|(refine ag.sb (λz=>absurd (z.symm.trans c) (by decide)) (λ_=>?_);(conv=>whnf))|(refine ag.nsb (λ_=>?_) (λz=>absurd (z.symm.trans c) (by decide));(conv=>whnf))|(refine ag.nsb (λz=>absurd (z.symm.trans c) (by decide)) (λ_=>?_);(conv=>whnf))|(refine ag.sb (λ_=>?_) (λz=>absurd (z.symm.trans g) (by decide));(conv=>whnf))|(refine ag.sb (λz=>absurd (z.symm.trans g) (by decide)) (λ_=>?_);(conv=>whnf))|(refine ag.nsb (λ_=>?_) (λz=>absurd (z.symm.trans g) (by decide));(conv=>whnf))|(refine ag.nsb (λz=>absurd (z.symm.trans g) (by decide)) (λ_=>?_);(conv=>whnf)))
       first
       |(refine bF.grow 1 16 _ _ _ _ _ _ tyT (.old rfl) rfl rfl (.rw rfl l) d ?_;(conv=>whnf);refine⟨⟨(A,b::B,O++ [a]),?_,?_⟩,?_,gI 2 (Z9 _) rfl rfl (.fn0 rfl) (ae.rw (by decide) rfl) (.inl ⟨_,rfl,dJ O a⟩)⟩;(focus (simp only[q0a,Z6,q1r]at e⊢<;>omega));(focus (show(O++ [a])++_=_;rw[<-h,mT A B k i];try simp));(focus (show A.length+(B.length+1)<(A.length+1)+(B.length+1);omega)))
       |(refine⟨⟨(A,b::B,O),?_,?_⟩,?_,gI 0 (Z3 0) rfl rfl (.fn0 rfl) (ae.rw (by decide) rfl) (.inl ⟨_,rfl,cZ O⟩)⟩;(focus (simp only[q0a]at e⊢<;>omega));(focus (show(O)++_=_;rw[<-h,mT A B k i];try simp));(focus (show A.length+(B.length+1)<(A.length+1)+(B.length+1);omega)))
     ·have k:¬leS a b=true:=by rw[show leS a b=false from c];decide
      have i:=tS a b c
      conv=>whnf
      refine ag.sb (λ_=>?_) (λg=>absurd (i.symm.trans g) (by decide))
      conv=>whnf
      refine Idx.mk 0 rfl (q4c _) ?_
      conv=>whnf
      refine RSl.mk 1 (B.length+1) rfl rfl (.inl rfl) (q4g (Z9 _)) (Z3 _) ?_
      conv=>whnf
      repeat(first|(refine ag.sb (λ_=>?_) (λz=>absurd (z.symm.trans c) (by decide));(conv=>whnf))|(refine ag.sb (λz=>absurd (z.symm.trans c) (by decide)) (λ_=>?_);(conv=>whnf))|(refine ag.nsb (λ_=>?_) (λz=>absurd (z.symm.trans c) (by decide));(conv=>whnf))|(refine ag.nsb (λz=>absurd (z.symm.trans c) (by decide)) (λ_=>?_);(conv=>whnf))|(refine ag.sb (λ_=>?_) (λz=>absurd (z.symm.trans i) (by decide));(conv=>whnf))|(refine ag.sb (λz=>absurd (z.symm.trans i) (by decide)) (λ_=>?_);(conv=>whnf))|(refine ag.nsb (λ_=>?_) (λz=>absurd (z.symm.trans i) (by decide));(conv=>whnf))|(refine ag.nsb (λz=>absurd (z.symm.trans i) (by decide)) (λ_=>?_);(conv=>whnf)))
      first
      |(refine bF.grow 1 16 _ _ _ _ _ _ tyT (.old rfl) rfl rfl (.rw rfl l) d ?_;(conv=>whnf);refine⟨⟨(a::A,B,O++ [b]),?_,?_⟩,?_,gI 2 (Z9 _) rfl rfl (.fn0 rfl) (ae.rw (by decide) rfl) (.inl ⟨_,rfl,dJ O b⟩)⟩;(focus (simp only[q0a,Z6,q1r]at e⊢<;>omega));(focus (show(O++ [b])++_=_;rw[<-h,mV A B k];try simp[j]));(focus (show(A.length+1)+B.length<(A.length+1)+(B.length+1);omega)))
      |(refine⟨⟨(a::A,B,O),?_,?_⟩,?_,gI 0 (Z3 0) rfl rfl (.fn0 rfl) (ae.rw (by decide) rfl) (.inl ⟨_,rfl,cZ O⟩)⟩;(focus (simp only[q0a]at e⊢<;>omega));(focus (show(O)++_=_;rw[<-h,mV A B k];try simp[j]));(focus (show(A.length+1)+B.length<(A.length+1)+(B.length+1);omega)))
theorem SU{n m k:Nat}{l r:List AV}(a:n=m)(b:l=r):AV.fr n k l=AV.fr m k r:=by subst a b;rfl
theorem KT{l:Nat}(h:l<=8796093022208):IntKind.i64.wrap ((l:Int).tdiv 2)=((l/2:Nat):Int):=by
 rw[show(l:Int).tdiv 2=((l/2:Nat):Int) from by rw[Int.tdiv_eq_ediv_of_nonneg (by omega)];omega];rw[aj (by omega) (by omega)]
theorem Ir{x:Int}{j d:Nat}{k:IntKind}(h:x=(j:Int)):my (some (AV.int k x)) d=some j:=by subst h;rfl
def GS:FuncId->EP:=aX 213 [] evP
theorem W6:aS GS:=au az (by kernel_rfl) (by kernel_rfl)
theorem Gh(V:List (List Nat))(t:V.length<=1000000):ax GS 3 213 [.fr V.length 1 (strs V)] .nil 0 (cY (.sb (lr V))):=by
 conv=>whnf
 refine aN.mk {i:Nat//1<=i/\(i=1∨i<=V.length)/\sL V i} 0 (λi=>rs0 V i.val) (λi=>V.length-i.val) ⟨1,Z3 _,.inl rfl,λj h=>by omega⟩ ?_ ?_
 ·exact Iq (i:=1) (Z3 0) rfl rfl
 ·intro⟨i,u,v,m⟩
  conv=>whnf
  refine ag.dec (λc=>?_) (λc=>?_)
  ·have a:i<V.length:=q0v.1 c;have b:i-1<V.length:=by omega
   have d:V.length-(i+1)<V.length-i:=by omega
   have n:IntKind.i64.wrap ((i:Int)+1)=((i+1:Nat):Int):=by rw[aj (by omega) (by omega)];omega
   have f:IntKind.i64.wrap ((i:Int)-1)=((i-1:Nat):Int):=by rw[aj (by omega) (by omega)];omega
   have o:∀q:ltL V[i-1] V[i]=true,sL V (i+1):=λq j h g=>by
    by_cases e:j+1=i
    ·have p:j=i-1:=by omega
     subst p;have r:i-1+1=i:=by omega
     (try simp only[r]);exact q
    ·exact m j (by omega) g
   have k:ltL V[i-1] V[i]=false->lr V=false:=λq=>decide_eq_false λh=>by
    have s:i-1+1=i:=by omega
    have:=h (i-1) (by omega) (by omega);simp only[s]at this;rw[q]at this;cases this
   conv=>whnf
   refine Idx.mk (i-1) f b ?_
   conv=>whnf
   refine aq (cL b (q0r _)) ?_
   conv=>whnf
   refine Idx.mk i rfl a ?_
   conv=>whnf
   refine aq (cL a (q0r _)) ?_
   conv=>whnf
   refine ag.nsb (λl=>?_) (λl=>?_)
   ·conv=>whnf
    exact cY.told (congrArg AV.sb (k l).symm)
   ·conv=>whnf
    exact⟨⟨i+1,by omega,.inr a,o l⟩,d,Iq (Z3 0) rfl (congrArg (AV.si .i64) n)⟩
  ·have a:V.length<=i:=by have:¬(i:Int)<(V.length:Int):=c;omega
   have b:lr V=true:=decide_eq_true λj h g=>m j (by omega) g
   conv=>whnf
   exact cY.told (congrArg AV.sb b.symm)
def W7(cs:List AV)(v:AV):Prop:=∃V,cs=[.fr V.length 1 (strs V)]/\V.length<=1000000/\v= .sb (lr V)
theorem YH:al 213 (bV W7):=kh W6 3 (by kernel_rfl) λcs v ⟨V,a,b,c⟩=>by subst a c;exact⟨rfl,rfl,Gh V b⟩
def zH(args:List AV)(H:AH)(n:Nat)(κ:PK):Prop:=match args with
 | [x,y,.fn f [] []]=>∃V W q,x= .fr V.length 1 (strs V)/\y= .fr W.length 1 (strs W)/\SR f q/\V.length+W.length<=1000000/\κ (.fr (br q V W).length 1 (strs (br q V W))) H n
 |_=>False
theorem UN:iC zH:= .pure λargs H n i a=>by
 unfold zH at*;split at a
 ·obtain⟨V,W,q,b,c,d,e,f⟩:=a;exact⟨_,f,λg h=>⟨V,W,q,b,c,d,e,h⟩⟩
 ·exact a.elim
theorem UO{φ ψ:Ph}{f:Nat}{v:Value}(h:VR φ (.fn f [] []) v):VR ψ (.fn f [] []) v:=by
 obtain⟨xs,cs,rfl,a,b⟩:=h.nu;exact .fn (by rw[a.aQ];exact .nil) (by rw[b.aQ];exact .nil)
theorem W8:al 206 zH:=λargs H n O b c o d P K l a p=>by
 unfold zH at b;split at b
 ·rename_i x y f;obtain⟨V,W,q,rfl,rfl,e,r,b⟩:=b;obtain⟨x,y,f,rfl,s,t,v⟩:=vs3 a
  have key:Wf d->dK Tryz.prog 206 #[x,y,f] d K:=λA=>ay UM 3 _ _ .nil 0 _ (Gg V W _ q e r) ⟨λ_=>none,c.z,c.z,λ_ _=>False⟩ d d _ K (l.zn (fR A) (λ_ _ h=>by cases h) (λ_ h=>h)) (.cons (lQ (ψ:=⟨λ_=>none,c.z,c.z,λ_ _=>False⟩) (λ_ h=>h) rfl s) (.cons (lQ (ψ:=⟨λ_=>none,c.z,c.z,λ_ _=>False⟩) (λ_ h=>h) rfl t) (.cons (UO v) .nil))) λC u Q R w g i D E ⟨S,F⟩=>by
   obtain⟨G,I,j,k⟩:=F C d g w D E;obtain⟨J,L,M,N⟩:=D6 l j (λq e=>i.y q (I.y q e));exact p J _ H n w g L M (nP N rfl k) b
  exact⟨by kernel_rfl,λw m=>(key m.wf).2 w m⟩
 ·exact b.elim
theorem gy{V:List (List Nat)}(h:V.length<2):lr V=true:=decide_eq_true λj _ a=>by omega
def aK (V:List (List Nat)):List (List Nat):=if h:lr V=true then V else br true (aK (V.take (V.length/2))) (aK (V.drop (V.length/2)))
termination_by V.length
decreasing_by
 ·have:¬V.length<2:=λq=>h (gy q)
  simp;omega
 ·have:¬V.length<2:=λq=>h (gy q)
  simp;omega
theorem pj{V:List (List Nat)}(h:lr V=true):aK V=V:=by rw[aK,dif_pos h]
theorem xJ{V:List (List Nat)}(h:¬lr V=true):aK V=br true (aK (V.take (V.length/2))) (aK (V.drop (V.length/2))):=by rw[aK,dif_neg h]
theorem rh:∀(N:Nat) (V:List (List Nat)),V.length<=N->(aK V).length<=V.length
 |0,V,h=>by rw[pj (gy (by omega))];exact Z3 _
 |N+1,V,h=>by
  by_cases q:lr V=true
  ·rw[pj q];exact Z3 _
  ·have a:¬V.length<2:=λk=>q (gy k)
   have b:(V.take (V.length/2)).length=V.length/2:=by rw[q0l];omega
   have c:(V.drop (V.length/2)).length=V.length-V.length/2:=q0y;have d:=rh N (V.take (V.length/2)) (by omega);have e:=rh N (V.drop (V.length/2)) (by omega);have f:=lu true (aK (V.take (V.length/2))) (aK (V.drop (V.length/2)));rw[xJ q];omega
theorem cw(V:List (List Nat)):(aK V).length<=V.length:=rh _ V (Z3 _)
def Rb(N:Nat)(cs:List AV)(v:AV):Prop:=∃V,cs=[.fr V.length 1 (strs V)]/\V.length<=N/\V.length<=1000000/\v= .fr (aK V).length 1 (strs (aK V))
def ly:DT:=[(4,[(some 0,[0]),(some 0,[3]),(some 0,[11,12]),(none,[13]),(some 1,[0]),(some 2,[3]),(some 3,[15,16]),(none,[17]),(none,[14,18]),(some 0,[19])])]
def GSm:FuncId->EP:=da 213 (uJ W7) (da 206 zH evP)
theorem Oe:aS GSm:=bf (bf az W8 UN) YH.cs (xB _)
def GSo (N:Nat):FuncId->EP:=da 180 (uJ (Rb N)) GSm
theorem UP{N:Nat}(h:al 180 (uJ (Rb N))):aS (GSo N):=bf Oe h (xB _)
theorem Gi(N:Nat)(V:List (List Nat))(i:V.length<=N+1)(e:V.length<=1000000):PZ (GSo N) 3 ly 180 [.fr V.length 1 (strs V)] .nil 0 (cY (.fr (aK V).length 1 (strs (aK V)))):=by
 have a:(strs (aK V)).length=(aK V).length*1:=by rw[aV,q0r]
 have d:(strs V).length=V.length*1:=by rw[aV,q0r]
 have b:(0+V.length)*16<=140737488355328:=by omega
 conv=>whnf
 refine⟨[.fr V.length 1 (strs V)],_,.cons .same .nil,⟨V,rfl,e,rfl⟩,?_⟩
 conv=>whnf
 refine ag.sb (λc=>?_) (λc=>?_)
 ·have he:=pj c
  conv=>whnf
  refine bF.grow 1 16 _ _ _ _ _ _ tyT .fr d (xI _) .nsl b ?_
  conv=>whnf
  exact cY.row rfl (by rw[he,q1g]) rfl (by rw[he];rfl) a (bX _)
 ·have j:¬V.length<2:=λk=>by rw[gy k]at c;cases c
  have he:=xJ (V:=V) (by rw[c];decide);have hw:=KT (l:=V.length) (by omega);have f:(V.take (V.length/2)).length=V.length/2:=by rw[q0l];omega
  have g:(V.drop (V.length/2)).length=V.length-V.length/2:=q0y
  have h:(aK (V.take (V.length/2))).length+(aK (V.drop (V.length/2))).length<=1000000:=by
   have:=cw (V.take (V.length/2));have:=cw (V.drop (V.length/2));omega
  conv=>whnf
  refine RSl.mk 0 (V.length/2) rfl (Ir hw) (.inl rfl) (Z9 _) (by omega) ?_
  conv=>whnf
  refine⟨_,_,.cons .same .nil,⟨V.take (V.length/2),congrArg (λx=> [x]) (SU f.symm ((congrArg ((strs V).take ·) (q0r _)).trans (KS _ _))),by omega,by omega,rfl⟩,?_⟩
  conv=>whnf
  refine RSl.mk (V.length/2) V.length (Ir hw) rfl (.inl rfl) (by omega) (Z3 _) ?_
  conv=>whnf
  refine⟨_,_,.cons .same .nil,⟨V.drop (V.length/2),congrArg (λx=> [x]) (SU g.symm ((congrArg ((strs V).drop ·) (q0r _)).trans (zG _ _))),by omega,by omega,rfl⟩,?_⟩
  conv=>whnf
  refine⟨aK (V.take (V.length/2)),aK (V.drop (V.length/2)),true,rfl,rfl,.inl ⟨rfl,rfl⟩,h,?_⟩
  conv=>whnf
  exact⟨_,by rw[he];exact .same⟩
theorem D9(V:List (List Nat))(e:V.length<=0):PZ GSm 3 ly 180 [.fr V.length 1 (strs V)] .nil 0 (cY (.fr (aK V).length 1 (strs (aK V)))):=by
 have a:(strs (aK V)).length=(aK V).length*1:=by rw[aV,q0r]
 have c:(strs V).length=V.length*1:=by rw[aV,q0r]
 have b:(0+V.length)*16<=140737488355328:=by omega
 conv=>whnf
 refine⟨[.fr V.length 1 (strs V)],_,.cons .same .nil,⟨V,rfl,by omega,rfl⟩,?_⟩
 conv=>whnf
 refine ag.sb (λd=>?_) (λd=>absurd (gy (V:=V) (by omega)) (by rw[d];decide));have he:=pj d
 conv=>whnf
 refine bF.grow 1 16 _ _ _ _ _ _ tyT .fr c (xI _) .nsl b ?_
 conv=>whnf
 exact cY.row rfl (by rw[he,q1g]) rfl (by rw[he];rfl) a (bX _)
theorem SV:∀N,al 180 (bV (Rb N))
 |0=>zE (Hb Oe 3 (by kernel_rfl) (by kernel_rfl)) (by kernel_rfl) λcs v ⟨V,a,b,d,c⟩=>by subst a c;exact⟨rfl,rfl,D9 V b⟩
 |N+1=>zE (Hb (UP (SV N).cs) 3 (by kernel_rfl) (by kernel_rfl)) (by kernel_rfl) λcs v ⟨V,a,b,d,c⟩=>by subst a c;exact⟨rfl,rfl,Gi N V b d⟩
theorem a8:∀{a b:List Nat},db a b=true<->a=b
 | [],[]=>by simp[db]
 | [],_::_=>by simp[db]
 |_::_,[]=>by simp[db]
 |a::x,b::y=>by
  unfold db;by_cases e:a=b
  ·subst e;rw[Nat.beq_refl];simp[a8 (a:=x) (b:=y)]
  ·have c:Nat.beq a b=false:=by cases q:Nat.beq a b;rfl;exact absurd (q0n q) e
   rw[c];simp[e]
theorem Rc{a b:Nat}(e:a≠b):Nat.beq a b=false:=by cases q:Nat.beq a b;rfl;exact absurd (q0n q) e
theorem pn(c:Nat)(x y:List Nat):ltL (c::x) (c::y)=ltL x y:=by
 show(match Nat.beq c c with|true=>ltL x y|false=>Nat.blt c c)=_;rw[Nat.beq_refl]
theorem tT{a b:Nat}(x y:List Nat)(e:a≠b):ltL (a::x) (b::y)=decide (a<b):=by
 show(match Nat.beq a b with|true=>ltL x y|false=>Nat.blt a b)=_;rw[Rc e,q2r,q2y,decide_eq_true_eq]
theorem ie:∀a:List Nat,ltL a a=false
 | []=>rfl
 |c::x=>by rw[pn];exact ie x
theorem iF:∀{a b c:List Nat},ltL a b=true->ltL b c=true->ltL a c=true
 | [],[],_,h,_=>by cases h
 |_::_,[],_,h,_=>by cases h
 |_,_::_,[],_,k=>by cases k
 | [],_::_,_::_,_,_=>rfl
 |a::x,b::y,c::z,h,k=>by
  by_cases e:a=b
  ·subst e;rw[pn]at h;by_cases f:a=c
   ·subst f;rw[pn]at k⊢;exact iF h k
   ·rw[tT _ _ f]at k⊢;exact k
  ·rw[tT _ _ e]at h;have h:=of_decide_eq_true h;by_cases f:b=c
   ·subst f;rw[tT _ _ e];exact decide_eq_true h
   ·rw[tT _ _ f]at k;have k:=of_decide_eq_true k;rw[tT _ _ (by omega)];exact decide_eq_true (by omega)
def UpT(V:List Tx):Prop:=V.Pairwise λa b=>ltL a b=true
theorem ri:∀{A B:List Tx},UpT A->UpT B->(∀s,s∈A<->s∈B)->A=B
 | [],[],_,_,_=>rfl
 | [],b::B,_,_,h=>by have:=(h b).2 q0i;cases this
 |a::A,[],_,_,h=>by have:=(h a).1 q0i;cases this
 |a::A,b::B,i,j,h=>by
  obtain⟨d,k⟩:=q2i.1 i;obtain⟨f,l⟩:=q2i.1 j
  have e:a=b:=by
   rcases Z5.1 ((h a).1 q0i)with e|m
   ·exact e
   ·rcases Z5.1 ((h b).2 q0i)with e|n
    ·exact e.symm
    ·have g:=iF (d b n) (f a m);rw[ie]at g;cases g
  subst e
  rw[ri k l λs=>⟨λc=>(Z5.1 ((h s).1 (q0f _ c))).elim (λe=>by
   have:=d s c;rw[e,ie]at this;cases this) id,λc=>(Z5.1 ((h s).2 (q0f _ c))).elim (λe=>by
   have:=f s c;rw[e,ie]at this;cases this) id⟩]
theorem pW{a b:List Nat}:leS a b=true<->ltL a b=true∨a=b:=by
 unfold leS;rw[q1m,a8]
theorem Of{a b:List Nat}(h:leS a b=true)(k:leS b a=true):a=b:=by
 rcases pW.1 h with h|h
 ·rcases pW.1 k with k|k
  ·have:=iF h k;rw[ie]at this;cases this
  ·exact k.symm
 ·exact h
theorem jN(q:Bool):∀(A B:List Tx),UpT A->UpT B->UpT (br q A B)/\∀s,s∈br q A B<->(s∈A/\(q=true∨s∉B))∨(q=true/\s∈B)
 | [],B,_,o=>by
  rw[gv];cases q with
  |true=>exact⟨o,λs=>by simp⟩
  |false=>exact⟨.nil,λs=>by simp⟩
 |a::A,[],p,_=>by rw[gx];exact⟨p,λs=>by simp⟩
 |a::A,b::B,p,o=>by
  obtain⟨j,u⟩:=q2i.1 p;obtain⟨n,v⟩:=q2i.1 o;by_cases h:leS a b=true
  ·by_cases k:leS b a=true
   ·have e:=Of h k;subst e;obtain⟨s1,s2⟩:=jN q A B u v;rw[mU A B h k];have r:a∉A:=λm=>by have:=j a m;rw[ie]at this;cases this
    have w:a∉B:=λm=>by have:=n a m;rw[ie]at this;cases this
    cases q with
    |true=>
     refine⟨q2i.2 ⟨λs c=>((s2 s).1 c).elim (λz=>j s z.1) (λz=>n s z.2),s1⟩,λs=>?_⟩;simp only[if_true,q1w,q2m,Z5,s2,true_or,true_and,and_true];constructor
     ·rintro(h|h|h)
      ·exact .inl (.inl h)
      ·exact .inl (.inr h)
      ·exact .inr (.inr h)
     ·rintro((h|h)|h|h)
      ·exact .inl h
      ·exact .inr (.inl h)
      ·exact .inl h
      ·exact .inr (.inr h)
    |false=>
     refine⟨s1,λs=>?_⟩;simp only[q2h,if_false,q2m,Z5,s2,false_or,false_and,or_false,not_or];constructor
     ·rintro⟨g,i⟩;exact⟨.inr g,λe=>r (e▸g),i⟩
     ·rintro⟨g,i,t⟩;exact⟨g.resolve_left i,t⟩
   ·obtain⟨s1,s2⟩:=jN q A (b::B) u o;have d:ltL a b=true:=(pW.1 h).resolve_right λe=>k (by subst e;exact pW.2 (.inr rfl))
    rw[mT A B h k]
    have w:a∉b::B:=λm=>by
     rcases Z5.1 m with e|m
     ·rw[<-e,ie]at d;cases d
     ·have:=iF d (n a m);rw[ie]at this;cases this
    refine⟨q2i.2 ⟨λs c=>?_,s1⟩,λs=>?_⟩
    ·rcases(s2 s).1 c with c|c
     ·exact j s c.1
     ·rcases Z5.1 c.2 with rfl|c
      ·exact d
      ·exact iF d (n s c)
    ·rw[Z5,Z5 (l:=A),s2];constructor
     ·rintro(h|h|h)
      ·subst h;exact .inl ⟨.inl rfl,.inr w⟩
      ·exact .inl ⟨.inr h.1,h.2⟩
      ·exact .inr h
     ·rintro(⟨h|h,i⟩|h)
      ·exact .inl h
      ·exact .inr (.inl ⟨h,i⟩)
      ·exact .inr (.inr h)
  ·have k:=tS a b (by simpa using h);have f:ltL b a=true:=(pW.1 k).resolve_right λe=>h (by subst e;exact pW.2 (.inr rfl))
   obtain⟨s1,s2⟩:=jN q (a::A) B p v;rw[mV A B h]
   have r:b∉a::A:=λm=>by
    rcases Z5.1 m with e|m
    ·rw[<-e,ie]at f;cases f
    ·have:=iF f (j b m);rw[ie]at this;cases this
   cases q with
   |true=>
    refine⟨q2i.2 ⟨λs c=>?_,s1⟩,λs=>?_⟩
    ·rcases(s2 s).1 c with c|c
     ·rcases Z5.1 c.1 with rfl|c
      ·exact f
      ·exact iF f (j s c)
     ·exact n s c.2
    ·show s∈b::br true (a::A) B<->_;rw[Z5,s2,Z5 (l:=B)]
     (try simp only[true_or,true_and,and_true])
     constructor
     ·rintro(h|h|h)
      ·exact .inr (.inl h)
      ·exact .inl h
      ·exact .inr (.inr h)
     ·rintro(h|h|h)
      ·exact .inr (.inl h)
      ·exact .inl h
      ·exact .inr (.inr h)
   |false=>
    refine⟨s1,λs=>?_⟩;show s∈br false (a::A) B<->_;rw[s2,Z5 (l:=B)];simp only[q2h,false_or,false_and,or_false,not_or];exact⟨λ⟨g,i⟩=>⟨g,λe=>r (e▸g),i⟩,λ⟨g,_,t⟩=>⟨g,t⟩⟩
termination_by A B=>A.length+B.length
theorem Og{V:List Tx}(h:lr V=true):UpT V:=by
 have h:sL V V.length:=of_decide_eq_true h
 have key:∀d i,∀(a:i+d+1<V.length),ltL (V[i]'(by omega)) (V[i+d+1]'a)=true:=λd=>by
  induction d with
  |zero=>intro i a;exact h i (by omega) a
  |succ d b=>
   intro i a;exact iF (b i (by omega)) (h (i+d+1) (by omega) a)
 unfold UpT;rw[q2z];intro i j f a c;have:=key (j-i-1) i (by omega);have e:i+(j-i-1)+1=j:=by omega
 simp only[e]at this;exact this
theorem po:∀(N:Nat) (V:List Tx),V.length<=N->UpT (aK V)/\∀s,s∈aK V<->s∈V
 |N,V,h=>by
  by_cases q:lr V=true
  ·rw[pj q];exact⟨Og q,λs=>Iff.rfl⟩
  ·have g:¬V.length<2:=λk=>q (gy k)
   cases N with
   |zero=>omega
   |succ N=>
    have i:(V.take (V.length/2)).length=V.length/2:=by rw[q0l];omega
    have j:(V.drop (V.length/2)).length=V.length-V.length/2:=q0y;obtain⟨a,b⟩:=po N (V.take (V.length/2)) (by omega);obtain⟨c,d⟩:=po N (V.drop (V.length/2)) (by omega);obtain⟨e,f⟩:=jN true _ _ a c;rw[xJ q];refine⟨e,λs=>?_⟩;rw[f,b,d];simp only[true_or,and_true,true_and];rw[<-q1n,q1q]
theorem ba(V:List Tx):UpT (aK V)/\∀s,s∈aK V<->s∈V:=po _ V (Z3 _)
def oo (V:List Tx) (s:Tx):List Tx:=br true (aK V) (aK [s])
def BA (V:List Tx) (s:Tx):List Tx:=br false (aK V) (aK [s])
theorem xK(V:List Tx)(s:Tx):(oo V s).length<=V.length+1:=by
 have b:=lu true (aK V) (aK [s]);have c:=cw V;have a:=cw [s];simp only[q2b]at a;unfold oo;omega
theorem KV(V:List Tx)(s:Tx):UpT (oo V s)/\∀x,x∈oo V s<->x∈V∨x=s:=by
 obtain⟨a,b⟩:=ba V;obtain⟨c,d⟩:=ba [s];obtain⟨e,f⟩:=jN true _ _ a c;exact⟨e,λx=>by unfold oo;rw[f,b,d];simp⟩
def KSo:FuncId->EP:=ao 180 (bV (Rb 1000000)) (ao 206 zH evP)
theorem Gj:aS KSo:=ab (ab az W8) (SV _)
def UQ(cs:List AV)(v:AV):Prop:=∃V s,cs=[.fr V.length 1 (strs V),.ss s]/\V.length<1000000/\v= .fr (oo V s).length 1 (strs (oo V s))
def W9(cs:List AV)(v:AV):Prop:=∃V s,cs=[.fr V.length 1 (strs V),.ss s]/\V.length<1000000/\v= .fr (BA V s).length 1 (strs (BA V s))
def UR(cs:List AV)(v:AV):Prop:=∃V,cs=[.fr V.length 1 (strs V)]/\V.length<=1000000/\v= .fr (aK V).length 1 (strs (aK V))
theorem SW:al 124 (bV UR):=kh Gj 4 (by kernel_rfl) λcs v ⟨V,b,a,c⟩=>by
 subst b c;refine⟨rfl,rfl,?_⟩
 conv=>whnf
 refine⟨_,_,_,.cons .same .nil,⟨V,rfl,a,a,rfl⟩,?_⟩
 conv=>whnf
 exact cY.same
theorem Oh{V:List Tx}{s:Tx}(h:V.length<1000000):(aK V).length+(aK [s]).length<=1000000:=by
 have b:=cw V;have a:=cw [s];simp only[q2b]at a;omega
theorem Xa:al 166 (bV UQ):=kh Gj 4 (by kernel_rfl) λcs v ⟨V,s,a,b,c⟩=>by
 subst a c;refine⟨rfl,rfl,?_⟩;have d:=Oh (s:=s) b
 conv=>whnf
 refine⟨_,_,_,.cons .same .nil,⟨V,rfl,by omega,by omega,rfl⟩,?_⟩
 conv=>whnf
 refine⟨[.fr 1 1 (strs [s])],_,_,.cons (.sl (l:=[.ss s]) (z:=true) rfl rfl rfl rfl) .nil,⟨[s],rfl,Z0 rfl,Z0 rfl,rfl⟩,?_⟩
 conv=>whnf
 refine⟨aK V,aK [s],true,rfl,rfl,.inr (.inl ⟨rfl,rfl⟩),d,?_⟩
 conv=>whnf
 exact cY.same
theorem YI:al 126 (bV W9):=kh Gj 4 (by kernel_rfl) λcs v ⟨V,s,a,b,c⟩=>by
 subst a c;refine⟨rfl,rfl,?_⟩;have d:=Oh (s:=s) b
 conv=>whnf
 refine⟨_,_,_,.cons .same .nil,⟨V,rfl,by omega,by omega,rfl⟩,?_⟩
 conv=>whnf
 refine⟨[.fr 1 1 (strs [s])],_,_,.cons (.sl (l:=[.ss s]) (z:=true) rfl rfl rfl rfl) .nil,⟨[s],rfl,Z0 rfl,Z0 rfl,rfl⟩,?_⟩
 conv=>whnf
 refine⟨aK V,aK [s],false,rfl,rfl,.inr (.inr ⟨rfl,rfl⟩),d,?_⟩
 conv=>whnf
 exact cY.same
def Xb(cs:List AV)(v:AV):Prop:=∃(V:List Tx) (s:Tx),cs=[.fr V.length 1 (strs V),.ss s]/\V.length<=1000000/\v= .sb (decide (s∈V))
def hs0 (V:List Tx) (s:Tx) (i:Nat):AE×AH:=(mkE [(1,.ss (s)),(7,.fr V.length 1 (strs V)),(8,.si .i64 ((V.length:Int))),(9,.si .i64 ((i:Int)))],mkH [])
theorem It{V:List Tx}{s:Tx}{i:Nat}{p n:Nat}{σ:AE}{H:AH}(a:p<=0)(b:mk (ai (pa 1) σ)= .ss (s))(c:ai (pa 7) σ= .fr V.length 1 (strs V))(d:mk (ai (pa 8) σ)= .si .i64 ((V.length:Int)))(e:mk (ai (pa 9) σ)= .si .i64 ((i:Int))):Cov p σ H n ((hs0 V s i).1,(hs0 V s i).2,0):=
 Cov.ofA a ⟨.str b,ae.frE c,.int d,.int e,trivial⟩ trivial rfl
theorem YJ:al 165 (bV Xb):=kh az 4 (by kernel_rfl) λcs v ⟨V,s,f,p,a⟩=>by
 subst f a;refine⟨rfl,rfl,?_⟩
 conv=>whnf
 refine aN.mk {i:Nat//i<=V.length/\∀j,j<i->∀h:j<V.length,V[j]≠s} 0 (λi=>hs0 V s i.val) (λi=>V.length-i.val) ⟨0,Z9 _,λj h=>by omega⟩ ?_ ?_
 ·exact It (i:=0) (Z3 0) rfl rfl rfl rfl
 intro⟨i,r,c⟩;have g:IntKind.i64.wrap ((i:Int)+1)=((i+1:Nat):Int):=by rw[aj (by omega) (by omega)];omega
 conv=>whnf
 refine ag.dec (λh=>?_) (λh=>?_)
 ·have a:i<V.length:=q0v.1 h;have l:db V[i] s=true->AV.sb true=AV.sb (decide (s∈V)):=λz=>congrArg AV.sb (decide_eq_true (a8.1 z▸q0k a)).symm
  have n:db V[i] s=false->∀j,j<i+1->∀h:j<V.length,V[j]≠s:=λz j d o e=>by
   by_cases q:j=i
   ·subst q;rw[a8.2 e]at z;cases z
   ·exact c j (by omega) o e
  have b:V.length-(i+1)<V.length-i:=by omega
  conv=>whnf
  refine Idx.mk i rfl a ?_
  conv=>whnf
  refine aq (cL a (q0r _)) ?_
  conv=>whnf
  refine ag.sb (λz=>?_) (λz=>?_)
  ·conv=>whnf
   exact cY.told (l z)
  ·conv=>whnf
   exact⟨⟨i+1,a,n z⟩,b,It (Z3 0) rfl rfl rfl (congrArg (AV.si .i64) g)⟩
 ·have k:AV.sb false=AV.sb (decide (s∈V)):=congrArg AV.sb (decide_eq_false λm=>by
   obtain⟨j,d,e⟩:=q3a m;have h:¬(i:Int)<(V.length:Int):=h;exact c j (by omega) d e).symm
  conv=>whnf
  exact cY.told k
abbrev Lab:=Tx×Tx
def cM(l:List Lab):List AV:=l.flatMap λy=> [.ss y.1,.ss y.2]
theorem gJ(y:Lab)(l:List Lab):cM (y::l)= .ss y.1:: .ss y.2::cM l:=rfl
theorem jO(l:List Lab):(cM l).length=l.length*2:=by
 induction l with
 |nil=>rfl
 |cons y l a=>rw[gJ];simp only[q0a,a];omega
theorem pX(l:List Lab):(cM l).all flat.flat1=true:=by
 induction l with
 |nil=>rfl
 |cons y l a=>rw[gJ];simp only[q2c,a];rfl
theorem Ea(l:List Lab):(cM l).all oH=true:=by
 induction l with
 |nil=>rfl
 |cons y l a=>rw[gJ];simp only[q2c,a];rfl
theorem lz(l:List Lab):(cM l).map mk=cM l:=by
 induction l with
 |nil=>rfl
 |cons y l a=>rw[gJ];simp only[q1y,a];rfl
theorem tU:∀(l:List Lab) (i:Nat),(cM l).drop (i*2)=cM (l.drop i)
 |l,0=>by simp
 | [],i+1=>by simp[cM]
 |y::l,i+1=>by
  rw[gJ,show(i+1)*2=i*2+1+1 by omega,List.drop_succ_cons,List.drop_succ_cons,tU l i];rfl
theorem pq{l:List Lab}{i o:Nat}(h:i<l.length)(ho:o=i*2):bl (cM l) o 2=some [.ss l[i].1,.ss l[i].2]:=by
 subst ho;unfold bl;rw[q0z (by rw[jO];omega),tU,q0t h,gJ];rfl
theorem xL{l:List Lab}{i o:Nat}(h:i<l.length)(ho:o=i*2):nth (cM l) o=some (.ss l[i].1):=by
 subst ho;have e:(cM l)[i*2]?=((cM l).drop (i*2))[0]?:=by rw[q3c];simp
 rw[eu,e,tU,q0t h,gJ];rfl
theorem ae.Xc{H:AH}{m:Nat}{r:Nat->Nat}{a:AV}{k:Nat}(e:a= .nsl):ae H m r a (.fr 0 k []):=λc d v _ _ b=>by
 subst e;rw[b.dd];exact .fre λ_=>rfl
theorem ae.frS{H:AH}{m n k:Nat}{r:Nat->Nat}{l:List AV}{a:AV}(e:a= .fr n k l):ae H m r a (.fr n k l):=by subst e;exact ae.mB rfl
def iu(s:Tx):Bool:=decide (s≠[])&&decide (s.length<=64)
def Eb(cs:List AV)(v:AV):Prop:=∃s,cs=[.ss s]/\v= .sb (iu s)
theorem Iu:al 105 (bV Eb):=kh az 3 (by kernel_rfl) λcs v ⟨s,b,c⟩=>by
 subst b c;refine⟨rfl,rfl,?_⟩;have k0:db s []=true->iu s=false:=λz=>by rw[a8.1 z];rfl
 have d:db s []=false->iu s=decide (s.length<=64):=λz=>by
  have:s≠[]:=λe=>by rw[a8.2 e]at z;cases z
  unfold iu;rw[decide_eq_true this];rfl
 conv=>whnf
 refine ag.nsb (λz=>?_) (λz=>?_)
 ·have a:decide ((s.length:Int)<=64)=iu s:=by rw[d z];exact decide_eq_decide.2 (by omega)
  conv=>whnf
  exact cY.told (congrArg AV.sb a)
 ·have a:=k0 z
  conv=>whnf
  exact cY.told (congrArg AV.sb a.symm)
def ft:List Tx->List Lab->Bool
 |_,[]=>true
 |N,x::l=>iu x.1&&(iu x.2&&(!decide (x.1∈N)&&ft (oo N x.1) l))
def dR (l:List Lab):Bool:=ft [] l&&decide (l.length<=8)
theorem pt:∀(l:List Lab) (N:List Tx),ft N l=true<->(∀x∈l,iu x.1=true/\iu x.2=true/\x.1∉N)/\(l.map Prod.fst).Nodup
 | [],N=>by simp[ft]
 |x::l,N=>by
  simp only[ft,Z8,q3h,decide_eq_false_iff_not,pt l,q1y,q3d,List.forall_mem_cons,(KV N x.1).2,not_or,q0p,not_exists,not_and];constructor
  ·rintro⟨c,d,f,b,g⟩;exact⟨⟨⟨c,d,f⟩,λy a=>⟨(b y a).1,(b y a).2.1,(b y a).2.2.1⟩⟩,λy a e=>(b y a).2.2.2 e,g⟩
  ·rintro⟨⟨⟨c,d,f⟩,b⟩,g,h⟩;exact⟨c,d,f,λy a=>⟨(b y a).1,(b y a).2.1,(b y a).2.2,λe=>g y a e⟩,h⟩
theorem Ec{l m:List Lab}(h:l.Perm m):dR l=dR m:=by
 unfold dR;rw[h.length_eq];congr 1;rw[q2r,pt,pt];exact and_congr ⟨λq x a=>q x (h.mem_iff.2 a),λq x a=>q x (h.mem_iff.1 a)⟩ (h.map _).nodup_iff
theorem nR{l:List Lab}(h:dR l=true):l.length<=8:=by
 unfold dR at h;rw[Z8,decide_eq_true_eq]at h;exact h.2
def US(cs:List AV)(v:AV):Prop:=∃l:List Lab,cs=[.fr l.length 2 (cM l)]/\l.length<=1000/\v= .sb (dR l)
def KLr:FuncId->EP:=ao 105 (bV Eb) (ao 165 (bV Xb) (ao 166 (bV UQ) evP))
theorem UT:aS KLr:=ab (ab (ab az Xa) YJ) Iu
def rg0 (l:List Lab) (N:List Tx) (i:Nat):AE×AH:=(mkE [(0,.fr l.length 2 (cM l)),(3,AV.fr N.length 1 (strs N)),(6,.fr l.length 2 (cM l)),(7,.si .i64 ((l.length:Int))),(8,.si .i64 ((i:Int)))],mkH [])
theorem Iv{l:List Lab}{N:List Tx}{i:Nat}{p n:Nat}{σ:AE}{H:AH}(a:p<=0)(e0:ai (pa 0) σ= .fr l.length 2 (cM l))(c:ae H 0 (λb=>b) (ai (pa 3) σ) (AV.fr N.length 1 (strs N)))(d:ai (pa 6) σ= .fr l.length 2 (cM l))(e:mk (ai (pa 7) σ)= .si .i64 ((l.length:Int)))(f:mk (ai (pa 8) σ)= .si .i64 ((i:Int))):Cov p σ H n ((rg0 l N i).1,(rg0 l N i).2,0):=
 Cov.ofA a ⟨ae.frE e0,c,ae.frE d,.int e,.int f,trivial⟩ trivial rfl
theorem Xd:al 106 (bV US):=kh UT 4 (by kernel_rfl) λcs v ⟨l,p,C,b⟩=>by
 subst p b;refine⟨rfl,rfl,?_⟩
 conv=>whnf
 refine aN.mk {t:Nat×List Tx//t.1<=l.length/\t.2.length<=t.1/\ft t.2 (l.drop t.1)=ft [] l} 0 (λt=>rg0 l t.val.2 t.val.1) (λt=>l.length-t.val.1) ⟨(0,[]),Z9 _,Z3 _,rfl⟩ ?_ ?_
 ·exact Iv (i:=0) (N:=[]) (Z3 0) rfl (.Xc rfl) rfl rfl rfl
 intro⟨(i,N),n,o,a⟩;have n:i<=l.length:=n;have o:N.length<=i:=o;have a:ft N (l.drop i)=ft [] l:=a;have q:IntKind.i64.wrap ((i:Int)+1)=((i+1:Nat):Int):=by rw[aj (by omega) (by omega)];omega
 conv=>whnf
 refine ag.dec (λh=>?_) (λh=>?_)
 ·have b:i<l.length:=q0v.1 h;have hd:l.drop i=l[i]::l.drop (i+1):=q0t b;have f:l.length-(i+1)<l.length-i:=by omega
  have a:(iu l[i].1&&(iu l[i].2&&(!decide (l[i].1∈N)&&ft (oo N l[i].1) (l.drop (i+1)))))=ft [] l:=by rw[<-a,hd];rfl
  have no:ft [] l=false->AV.sb false=AV.sb (dR l):=λe=>by unfold dR;rw[e];rfl
  have s:iu l[i].1=false->AV.sb false=AV.sb (dR l):=λz=>no (by rw[<-a,z];rfl)
  have u:iu l[i].2=false->AV.sb false=AV.sb (dR l):=λz=>no (by rw[<-a,z];simp)
  have w:l[i].1∈N->AV.sb false=AV.sb (dR l):=λz=>no (by rw[<-a,decide_eq_true z];simp)
  have x:iu l[i].1=true->iu l[i].2=true->¬l[i].1∈N->ft (oo N l[i].1) (l.drop (i+1))=ft [] l:=λc z2 d=>by rw[<-a,c,z2,decide_eq_false d];rfl
  have D:=xK N l[i].1;have g:(oo N l[i].1).length<=i+1:=by omega
  have j:N.length<1000000:=by omega
  have k:N.length<=1000000:=by omega
  clear a hd
  conv=>whnf
  refine Idx.mk i rfl b ?_
  conv=>whnf
  refine aq (pq b rfl) ?_
  conv=>whnf
  refine⟨_,_,_,.cons .same .nil,⟨_,rfl,rfl⟩,?_⟩
  conv=>whnf
  refine ag.nsb (λc=>?_) (λc=>?_)
  ·have r:=s c
   conv=>whnf
   exact cY.told r
  conv=>whnf
  refine⟨_,_,_,.cons .same .nil,⟨_,rfl,rfl⟩,?_⟩
  conv=>whnf
  refine ag.nsb (λz2=>?_) (λz2=>?_)
  ·have r:=u z2
   conv=>whnf
   exact cY.told r
  conv=>whnf
  refine⟨_,_,_,.cons .same (.cons .same .nil),⟨N,_,rfl,k,rfl⟩,?_⟩
  conv=>whnf
  refine ag.dec (λd=>?_) (λd=>?_)
  ·have r:=w d
   conv=>whnf
   exact cY.told r
  have y:=x c z2 d
  conv=>whnf
  refine⟨_,_,_,.cons .same (.cons .same .nil),⟨N,_,rfl,j,rfl⟩,?_⟩
  conv=>whnf
  exact⟨⟨(i+1,oo N l[i].1),b,g,y⟩,f,Iv (Z3 0) rfl (.frS rfl) rfl rfl (congrArg (AV.si .i64) q)⟩
 ·have A:i=l.length:=by have h:¬(i:Int)<(l.length:Int):=h;omega
  have m:ft [] l=true:=by rw[<-a,A,List.drop_length];rfl
  have B:decide ((l.length:Int)<=8)=dR l:=by unfold dR;rw[m];exact decide_eq_decide.2 (by omega)
  conv=>whnf
  exact cY.told (congrArg AV.sb B)
def sM (x:Lab):List Lab->List Lab
 | []=> [x]
 |p::r=>if ltL x.1 p.1=true then p::sM x r else x::p::r
def ja (l:List Lab):List Lab:=l.foldl (λr x=>sM x r) []
def cj (l:List Lab):List Lab:=(ja l).reverse
theorem zI(x:Lab):∀r:List Lab,(sM x r).Perm (x::r)
 | []=> .refl _
 |p::r=>by
  unfold sM;split
  ·exact((zI x r).cons p).trans (.swap x p r)
  ·exact .refl _
theorem rj:∀(l r:List Lab),(l.foldl (λr x=>sM x r) r).Perm (l++r)
 | [],r=> .refl _
 |x::l,r=>(rj l (sM x r)).trans (((zI x r).append_left l).trans List.perm_middle)
theorem rl(l:List Lab):(cj l).Perm l:=(List.reverse_perm _).trans ((rj l []).trans (by rw[q1e]))
theorem Gk{l:List Lab}{i:Nat}(h:i<l.length):ja (l.take (i+1))=sM l[i] (ja (l.take i)):=by
 unfold ja;rw[q0c h,q3b];rfl
theorem KX(l:List Lab):(ja l).length=l.length:=by
 have:=(rj l []).length_eq;rwa [q1e]at this
theorem Ed:∀(L:List Lab) (i:Nat) (y:Lab),i<L.length->fu (cM L) (i*2) [.ss y.1,.ss y.2]=some (cM (L.set i y))
 | [],i,_,h=>by simp at h
 |z::L,0,y,_=>by
  rw[gJ];show(fu (.ss z.2::cM L) 0 [.ss y.2]).map _=_;show((fu (cM L) 0 []).map _).map _=_;have:fu (cM L) 0 []=some (cM L):=by unfold fu;cases cM L<;>rfl
  rw[this];rfl
 |z::L,i+1,y,h=>by
  rw[gJ,show(i+1)*2=i*2+1+1 by omega];show(fu (.ss z.2::cM L) (i*2+1) _).map _=_;show((fu (cM L) (i*2) _).map _).map _=_;rw[Ed L i y (by simpa using h)];rfl
theorem Iw{L M:List Lab}{i o:Nat}{y:Lab}(h:i<L.length)(ho:o=i*2)(a:L.set i y=M):fu (cM L) o [.ss y.1,.ss y.2]=some (cM M):=by subst ho a;exact Ed L i y h
theorem Xe:RTy 28 28 2 32:=⟨_,_,_,rfl,rfl,(λq h=>by cases h),rfl,rfl,rfl,rfl,by decide,by decide⟩
def so0 (L:List Lab) (m:Nat) (i:Nat):AE×AH:=(mkE [(3,.rw 0 0 m 2 0),(9,.si .i64 ((m:Int))),(10,.si .i64 ((i:Int)))],mkH [(0,.cells (cM (L)) true)])
theorem BB{L:List Lab}{m:Nat}{i:Nat}{p n:Nat}{σ:AE}{H:AH}(a:Nat)(o:p<=0)(f:ae H 1 (λb=>if b=0 then a else b) (ai (pa 3) σ) (.rw 0 0 m 2 0))(j:mk (ai (pa 9) σ)= .si .i64 ((m:Int)))(c:mk (ai (pa 10) σ)= .si .i64 ((i:Int)))(k:(∃l,H.get a=some (.cells l true)/\l.map mk=cM (L))∨((L)=[]/\n<=a)):Cov p σ H n ((so0 L m i).1,(so0 L m i).2,1):=
 Cov.ofB (λb=>if b=0 then a else b) (by omega) (λb r=>by repeat' rw[if_neg (by omega)]) ⟨f,.int j,.int c,trivial⟩ ⟨k.elim (λ⟨l,h,g⟩=> .inl ⟨_,h,ak.bu (pX _) (by rw[g,lz]) (λq=>q)⟩) (λh=> .inr ⟨by rw[h.1];rfl,h.2⟩),trivial⟩ rfl (λx d y e=>by simp only[Z5,Z4,or_false]at d e;subst d e;exact λ_=>rfl)
def so1 (L:List Lab) (m:Nat) (i:Nat) (k:Nat):AE×AH:=(mkE [(3,.rw 0 0 m 2 0),(5,.si .i64 ((k:Int))),(9,.si .i64 ((m:Int))),(10,.si .i64 ((i:Int)))],mkH [(0,.cells (cM (L)) true)])
theorem Iy{L:List Lab}{m:Nat}{i:Nat}{k:Nat}{p n:Nat}{σ:AE}{H:AH}(a:Nat)(s:p<=0)(f:ae H 1 (λb=>if b=0 then a else b) (ai (pa 3) σ) (.rw 0 0 m 2 0))(j:mk (ai (pa 5) σ)= .si .i64 ((k:Int)))(o:mk (ai (pa 9) σ)= .si .i64 ((m:Int)))(c:mk (ai (pa 10) σ)= .si .i64 ((i:Int)))(r:(∃l,H.get a=some (.cells l true)/\l.map mk=cM (L))∨((L)=[]/\n<=a)):Cov p σ H n ((so1 L m i k).1,(so1 L m i k).2,1):=
 Cov.ofB (λb=>if b=0 then a else b) (by omega) (λb t=>by repeat' rw[if_neg (by omega)]) ⟨f,.int j,.int o,.int c,trivial⟩ ⟨r.elim (λ⟨l,h,g⟩=> .inl ⟨_,h,ak.bu (pX _) (by rw[g,lz]) (λq=>q)⟩) (λh=> .inr ⟨by rw[h.1];rfl,h.2⟩),trivial⟩ rfl (λx d y e=>by simp only[Z5,Z4,or_false]at d e;subst d e;exact λ_=>rfl)
def YK:FuncId->EP:=aX 167 [] evP
theorem Rd:aS YK:=au az (by kernel_rfl) (by kernel_rfl)
def SX(cs:List AV)(v:AV):Prop:=∃l:List Lab,cs=[.fr l.length 2 (cM l)]/\l.length<=1000/\v= .fr l.length 2 (cM (cj l))
theorem Xf:al 167 (bV SX):=kh Rd 4 (by kernel_rfl) λcs v ⟨l,G,M,g⟩=>by
 subst G g;refine⟨rfl,rfl,?_⟩;have m:(0+l.length)*32<=140737488355328:=by omega
 conv=>whnf
 refine bF.grow 2 32 _ _ _ _ _ _ Xe .fr (jO l) (Ea l) .nsl m ?_
 conv=>whnf
 refine aN.mk {i:Nat//i<=l.length} 1 (λi=>so0 ((ja (l.take i.val)).reverse++l.drop i.val) l.length i.val) (λi=>l.length-i.val) ⟨0,Z9 _⟩ ?_ ?_
 focus
  exact BB (L:=(ja (l.take 0)).reverse++l.drop 0) (i:=0) 0 (Z3 0) (.rw (by decide) rfl) (congrArg (AV.si .i64) (by omega)) rfl (.inl ⟨_,rfl,lz l⟩)
 intro⟨i,w⟩;have w:i<=l.length:=w;have D:IntKind.i64.wrap ((i:Int)+1)=((i+1:Nat):Int):=by rw[aj (by omega) (by omega)];omega
 conv=>whnf
 refine ag.dec (λh=>?_) (λh=>?_)
 focus
  have g:i<l.length:=q0v.1 h;have b:=KX (l.take i);rw[q0l,q3x w]at b;have e0:(ja (l.take i)).reverse++l.drop i=(ja (l.take i)).reverse++l[i]::([]++l.drop (i+1)):=by rw[q0t g];rfl
  conv=>whnf
  refine aN.mk {t:List Lab×List Lab//t.1.length+t.2.length=i/\t.2.reverse++sM l[i] t.1=ja (l.take (i+1))} 1 (λt=>so1 (t.val.1.reverse++l[i]::(t.val.2++l.drop (i+1))) l.length i t.val.1.length) (λt=>t.val.1.length) ⟨(ja (l.take i),[]),b,(Gk g).symm⟩ ?_ ?_
  focus
   exact Iy (k:=(ja (l.take i)).length) 0 (Z3 0) (.rw (by decide) rfl) (congrArg (AV.si .i64) (by rw[b])) rfl rfl (.inl ⟨_,rfl,by rw[e0,lz]⟩)
  intro⟨(r,S),j,c⟩;have j:r.length+S.length=i:=j;have c:S.reverse++sM l[i] r=ja (l.take (i+1)):=c;have a:(r.reverse++l[i]::(S++l.drop (i+1))).length=l.length:=by simp only[Z6,List.length_reverse,q0a,q0y];omega
  have done:sM l[i] r=l[i]::r->(ja (l.take (i+1))).reverse++l.drop (i+1)=r.reverse++l[i]::(S++l.drop (i+1)):=λe=>by rw[<-c,e];simp
  cases r with
  |nil=>
   have hd:=done rfl
   conv=>whnf
   refine ag.dec (λz=>absurd (show((0:Nat):Int)>0 from z) (by decide)) (λ_=>?_)
   conv=>whnf
   exact⟨⟨i+1,g⟩,by show l.length-(i+1)<l.length-i;omega,BB (L:=(ja (l.take (i+1))).reverse++l.drop (i+1)) (i:=i+1) 0 (Z3 0) (.rw (by decide) rfl) rfl (congrArg (AV.si .i64) D) (.inl ⟨_,rfl,by rw[hd,lz]⟩)⟩
  |cons p r=>
   have u:IntKind.i64.wrap (((p::r).length:Int)-1)=((r.length:Nat):Int):=by simp only[q0a]at j⊢;rw[aj (by omega) (by omega)];omega
   have x:(p::r).reverse++l[i]::(S++l.drop (i+1))=r.reverse++p::l[i]::(S++l.drop (i+1)):=by simp
   have d:r.length+1<((p::r).reverse++l[i]::(S++l.drop (i+1))).length:=by rw[a];simp only[q0a]at j;omega
   have n:r.length<((p::r).reverse++l[i]::(S++l.drop (i+1))).length:=by omega
   have y:((p::r).reverse++l[i]::(S++l.drop (i+1)))[r.length+1]=l[i]:=by
    rw[List.getElem_append_right (by simp)];simp
   have A:((p::r).reverse++l[i]::(S++l.drop (i+1)))[r.length]=p:=by
    rw[List.getElem_of_eq x,List.getElem_append_right (by simp)];simp
   have E:=xL d (show 0+(r.length+1)*2+0=(r.length+1)*2 by omega);have F:=xL n (show 0+r.length*2+0=r.length*2 by omega);rw[y]at E;rw[A]at F;have s1:=pq d (show 0+(r.length+1)*2=(r.length+1)*2 by omega);have s0:=pq n (show 0+r.length*2=r.length*2 by omega);rw[y]at s1;rw[A]at s0
   have H:fu (cM ((p::r).reverse++l[i]::(S++l.drop (i+1)))) (0+(r.length+1)*2) [.ss p.1,.ss p.2]=some (cM (r.reverse++p::p::(S++l.drop (i+1)))):=Iw d (by omega) (by
    rw[x,q4n _ _ (by simp)];simp)
   have I:fu (cM (r.reverse++p::p::(S++l.drop (i+1)))) (0+r.length*2) [.ss l[i].1,.ss l[i].2]=some (cM (r.reverse++l[i]::(p::S++l.drop (i+1)))):=Iw (i:=r.length) (by simp only[Z6,List.length_reverse,q0a];omega) (by omega) (by
    rw[q4n _ _ (by simp)];simp)
   have B:r.length+1<l.length:=by simp only[q0a]at j;omega
   have f:r.length<l.length:=by omega
   have o:((p::r).length:Int)>0:=by simp only[q0a];omega
   have C:r.length<(p::r).length:=q1x _;have J:r.length+(p::S).length=i:=by simp only[q0a]at j⊢;omega
   have ins:ltL l[i].1 p.1=true->(p::S).reverse++sM l[i] r=ja (l.take (i+1)):=λz=>by
    rw[<-c];have e:sM l[i] (p::r)=p::sM l[i] r:=if_pos z;rw[e];simp
   have s:ltL l[i].1 p.1=false->sM l[i] (p::r)=l[i]::p::r:=λz=>if_neg (by rw[z];decide)
   have fin:=λz=>done (s z)
   clear x A y done s c
   conv=>whnf
   refine ag.dec (λ_=>?_) (λz=>absurd o z)
   conv=>whnf
   refine Idx.mk (r.length+1) rfl B ?_
   conv=>whnf
   refine aq E ?_
   conv=>whnf
   refine Idx.mk r.length u f ?_
   conv=>whnf
   refine aq F ?_
   conv=>whnf
   refine ag.sb (λz=>?_) (λz=>?_)
   focus
    have q:=ins z
    conv=>whnf
    refine Idx.mk r.length u f ?_
    conv=>whnf
    refine aq s0 ?_
    conv=>whnf
    refine Idx.mk (r.length+1) rfl B ?_
    conv=>whnf
    refine aq s1 ?_
    conv=>whnf
    refine Idx.mk (r.length+1) rfl B ?_
    conv=>whnf
    refine aq H ?_
    conv=>whnf
    refine Idx.mk r.length u f ?_
    conv=>whnf
    refine aq I ?_
    conv=>whnf
    exact⟨⟨(r,p::S),J,q⟩,C,Iy (k:=r.length) 0 (Z3 0) (.rw (by decide) rfl) (congrArg (AV.si .i64) u) rfl rfl (.inl ⟨_,rfl,lz _⟩)⟩
   have hd:=fin z
   conv=>whnf
   exact⟨⟨i+1,g⟩,by show l.length-(i+1)<l.length-i;omega,BB (L:=(ja (l.take (i+1))).reverse++l.drop (i+1)) (i:=i+1) 0 (Z3 0) (.rw (by decide) rfl) rfl (congrArg (AV.si .i64) D) (.inl ⟨_,rfl,by rw[hd,lz]⟩)⟩
 have K:i=l.length:=by have h:¬(i:Int)<(l.length:Int):=h;omega
 have c:(ja (l.take i)).reverse++l.drop i=cj l:=by rw[K,q0u,List.drop_length,q1e];rfl
 have a:(cM (cj l)).length=l.length*2:=by rw[jO,(rl l).length_eq]
 conv=>whnf
 exact cY.row rfl rfl rfl (by rw[c]) a (pX _)
mutual
theorem Oi:∀a:AV,ren (λb=>b) a=a
 | .agg l=>congrArg AV.agg (nS l)
 | .tup l=>congrArg AV.tup (nS l)
 | .fn f a c=>by simp only[ren,nS a,nS c]
 | .ptr _ _| .sl _ _ _ _ _| .esl _| .map _| .sy _ _ _ _ _| .rw _ _ _ _ _| .int _ _| .str _| .bool _| .nil| .nsl| .any _| .bad| .si _ _| .sb _| .ss _| .fr _ _ _| .fa _ _=>rfl
theorem nS:∀l:List AV,dw (λb=>b) l=l
 | []=>rfl
 |a::l=>by simp only[dw,Oi a,nS l]
end
theorem BC:∀l:List (AV×AV),rV (λb=>b) l=l
 | []=>rfl
 |a::l=>by simp only[rV,Oi,BC l]
theorem vl(o:AO):bT (λb=>b) o=o:=by
 cases o with
 |cells l z=>exact congrArg (AO.cells · z) (nS l)
 |map es=>exact congrArg AO.map (BC es)
 |mp es bs cl=>exact congrArg (AO.mp · bs cl) (BC es)
 |ro l=>exact congrArg AO.ro (nS l)
 |iter b k seen=>rfl
 |sep Q=>rfl
section
variable {K V:Type} [DecidableEq K]
def gz(k:K):List (K×V)->Nat->Option (Nat×V)
 | [],_=>none
 |e::A,i=>if k=e.1 then some (i,e.2)else gz k A (i+1)
def aD(A:List (K×V))(k:K):Option V:=(gz k A 0).map Prod.snd
theorem nT{k:K}:∀{A:List (K×V)} {i:Nat},gz k A i=none->∀e∈A,e.1≠k
 | [],_,_,e,h=>by cases h
 |a::A,i,h,e,b=>by
  unfold gz at h;split at h
  ·cases h
  ·rename_i c;rcases Z5.1 b with rfl|b
   ·exact λq=>c q.symm
   ·exact nT h e b
theorem gA{k:K}:∀{A:List (K×V)} {i j:Nat} {v:V},gz k A i=some (j,v)->i<=j/\A[j-i]?=some (k,v)
 | [],_,_,_,h=>by cases h
 |a::A,i,j,v,h=>by
  unfold gz at h;split at h
  ·rename_i d;injection h with h;injection h with c b;subst c b d;exact⟨Z3 _,by simp⟩
  ·obtain⟨c,b⟩:=gA h;refine⟨by omega,?_⟩;rw[show j-i=(j-(i+1))+1 by omega];simpa using b
theorem bJ{A:List (K×V)}{k:K}{v:V}(h:aD A k=some v):(k,v)∈A:=by
 unfold aD at h;rw[Z7]at h;obtain⟨⟨i,u⟩,a,rfl⟩:=h;exact q0w (gA a).2
theorem pY{A:List (K×V)}{k:K}(h:aD A k=none):∀e∈A,e.1≠k:=by
 unfold aD at h;rw[q4j]at h;exact nT h
theorem cV{A:List (K×V)}{k:K}{v:V}(hn:(A.map Prod.fst).Nodup)(h:(k,v)∈A):aD A k=some v:=by
 cases e:aD A k with
 |none=>exact absurd rfl (pY e _ h)
 |some u=>
  have f:=bJ e;obtain⟨i,l,b⟩:=q3a h;obtain⟨j,m,a⟩:=q3a f;have:i=j:=(List.getElem_inj (xs:=A.map Prod.fst) (h₀:=by simpa using l) (h₁:=by simpa using m) hn).1 (by simp[b,a]);subst this;rw[b]at a;injection a with _ a;rw[a]
structure MpC (K V:Type)where
 A:List (K×V)
 bs:List Nat
 cl:Nat
structure MpC.Ok(m:MpC K V):Prop where
 len:m.bs.length=m.A.length
 nd:m.bs.Nodup
 lt:∀x∈m.bs,x<m.cl
 key:(m.A.map Prod.fst).Nodup
def MpC.no:MpC K V:=⟨[],[],0⟩
def MpC.put(m:MpC K V)(k:K)(v:V):MpC K V:=match gz k m.A 0 with
 |none=>⟨m.A++ [(k,v)],m.bs++ [m.cl],m.cl+1⟩
 |some (i,_)=>⟨m.A.set i (k,v),m.bs,m.cl⟩
def MpC.del(m:MpC K V)(k:K):MpC K V:=match gz k m.A 0 with
 |none=>m
 |some (i,_)=>⟨m.A.eraseIdx i,m.bs.eraseIdx i,m.cl⟩
theorem MpC.Ok.put{m:MpC K V}(h:m.Ok)(k:K)(v:V):(m.put k v).Ok:=by
 unfold MpC.put;split
 ·rename_i e;refine⟨by simp[h.len],?_,λx a=>?_,?_⟩
  ·rw[q3z];exact⟨h.nd,by simp,λx a y b=>by have:=h.lt x a;simp at b;subst b;show x≠m.cl;omega⟩
  ·rcases q1n.1 a with a|a
   ·have:=h.lt x a;show x<m.cl+1;omega
   ·simp at a;subst a;exact q1x _
  ·rw[q0x,q3z];refine⟨h.key,by simp,λx a y b=>?_⟩;simp at b;subst b;obtain⟨z,d,rfl⟩:=q0p.1 a;exact nT e z d
 ·rename_i i u e;refine⟨by simp[h.len],h.nd,h.lt,?_⟩;have c:=(gA e).2;rw[q3q]at c
  have:(m.A.set i (k,v)).map Prod.fst=m.A.map Prod.fst:=by
   rw[List.map_set];obtain⟨l,f⟩:=q0e.1 c;apply List.ext_getElem (by simp);intro j n o;rw[List.getElem_set];split
   ·rename_i q;subst q;simp[f]
   ·rfl
  show((m.A.set i (k,v)).map Prod.fst).Nodup;rw[this];exact h.key
theorem MpC.Ok.del{m:MpC K V}(h:m.Ok)(k:K):(m.del k).Ok:=by
 unfold MpC.del;split
 ·exact h
 ·rename_i i u e;refine⟨?_,h.nd.sublist (q4o _ _),λx a=>h.lt x ((q4o _ _).subset a),?_⟩
  ·show(m.bs.eraseIdx i).length=(m.A.eraseIdx i).length;rw[List.length_eraseIdx,List.length_eraseIdx,h.len]
  ·show((m.A.eraseIdx i).map Prod.fst).Nodup;exact h.key.sublist ((q4o _ _).map _)
theorem nU{m:MpC K V}{k:K}{v:V}{e:K×V}(h:e∈(m.put k v).A):e=(k,v)∨e∈m.A:=by
 unfold MpC.put at h;split at h
 ·rcases q1n.1 h with h|h
  ·exact .inr h
  ·simp at h;exact .inl h
 ·exact(List.mem_or_eq_of_mem_set h).symm
theorem BD{m:MpC K V}{k:K}{e:K×V}(h:e∈(m.del k).A):e∈m.A:=by
 unfold MpC.del at h;split at h
 ·exact h
 ·exact(q4o _ _).subset h
theorem xM{m:MpC K V}(h:m.Ok)(k:K)(v:V)(x:K):aD (m.put k v).A x=if x=k then some v else aD m.A x:=by
 have d:=(h.put k v).key
 have bz:∀e∈m.A,e.1≠k->e∈(m.put k v).A:=λe f l=>by
  unfold MpC.put;split
  ·exact q2k _ f
  ·rename_i i u b;obtain⟨j,n,o⟩:=q3a f;have a:=(gA b).2;rw[q3q]at a
   have c:i≠j:=λq=>by
    subst q;rw[q0b n,o]at a;injection a with a;rw[a]at l;exact l rfl
   show e∈m.A.set i (k,v);rw[<-o];exact q2e.2 ⟨j,by simpa using n,by rw[List.getElem_set_ne c]⟩
 have new:(k,v)∈(m.put k v).A:=by
  unfold MpC.put;split
  ·simp
  ·rename_i i u b;have a:=(gA b).2;rw[q3q]at a;obtain⟨r,_⟩:=q0e.1 a;exact q2e.2 ⟨i,by simpa using r,by simp⟩
 split
 ·rename_i e;subst e;exact cV d new
 ·rename_i p;cases e:aD m.A x with
  |some u=>exact cV d (bz _ (bJ e) p)
  |none=>
   cases b:aD (m.put k v).A x with
   |none=>rfl
   |some w=>
    rcases nU (bJ b)with q|q
    ·injection q with q _;exact absurd q p
    ·exact absurd rfl (pY e _ q)
theorem Ee{m:MpC K V}(h:m.Ok)(k x:K):aD (m.del k).A x=if x=k then none else aD m.A x:=by
 have r:=(h.del k).key;split
 ·rename_i e;subst e;cases b:aD (m.del x).A x with
  |none=>rfl
  |some u=>
   have c:=bJ b;unfold MpC.del at c;split at c
   ·rename_i e;exact absurd rfl (nT e _ c)
   ·rename_i i w e;have a:=(gA e).2;rw[q3q]at a;obtain⟨s,t⟩:=q0e.1 a;obtain⟨j,d,f⟩:=List.mem_eraseIdx_iff_getElem.1 c;have:i=j:=(List.getElem_inj (xs:=m.A.map Prod.fst) (h₀:=by simpa using s) (h₁:=by simpa using d) h.key).1 (by simp[t,f.2]);exact absurd this.symm f.1
 ·rename_i v;cases e:aD m.A x with
  |some u=>
   refine cV r ?_;have o:=bJ e;unfold MpC.del;split
   ·exact o
   ·rename_i i w b;have a:=(gA b).2;rw[q3q]at a;obtain⟨j,d,p⟩:=q3a o;refine List.mem_eraseIdx_iff_getElem.2 ⟨j,d,λq=>?_,p⟩;subst q;rw[q0b d,p]at a;injection a with a;injection a with a;exact v a
  |none=>
   cases b:aD (m.del k).A x with
   |none=>rfl
   |some w=>exact absurd rfl (pY e _ (BD (bJ b)))
end
theorem MpC.xN{K V:Type}:(MpC.no:MpC K V).Ok:=⟨rfl,.nil,λx h=>(by cases h),.nil⟩
section
variable {K V:Type} [DecidableEq K] {kA:K->AV} {g:V->AV} {kd:TypeDesc}
def iV(kA:K->AV)(g:V->AV)(A:List (K×V)):List (AV×AV):=A.map λe=>(kA e.1,g e.2)
def MpC.O(kA:K->AV)(g:V->AV)(m:MpC K V):AO:= .mp (iV kA g m.A) m.bs m.cl
structure xO(kA:K->AV)(kd:TypeDesc):Prop where
 same:∀a b,Cr kd (kA a) (kA b)=some (decide (a=b))
 ok:∀a,As kd (kA a)=true
theorem pZ(a:xO kA kd)(k:K):∀(A:List (K×V)) (i:Nat),mz kd (kA k) (iV kA g A) i=some ((gz k A i).map λr=>(r.1,g r.2))
 | [],i=>by
  show(match As kd (kA k)with|true=>some none|false=>none)=_;rw[a.ok];rfl
 |e::A,i=>by
  show(match Cr kd (kA k) (kA e.1)with|some true=>some (some (i,g e.2))|some false=>mz kd (kA k) (iV kA g A) (i+1)|none=>none)=_;rw[a.same];unfold gz;by_cases q:k=e.1
  ·rw[if_pos q,decide_eq_true q];rfl
  ·rw[if_neg q,decide_eq_false q];exact pZ a k A (i+1)
def lkV(ok:Bool)(z:AV)(r:Option AV):AV:=match ok,r with
 |true,some v=> .tup [v,.bool true]
 |false,some v=>v
 |true,none=> .tup [z,.bool false]
 |false,none=>z
theorem Rf{P:Program}{t c a:TypeId}{H:AH}{b:Nat}{m:MpC K V}{k:K}{ok:Bool}{z:Value}{x y:AV}(d:xO kA kd)(e:dO P t=some (c,kd,a))(f:x= .map b)(h:y=kA k)(i:H.get b=some (m.O kA g))(j:c7 P a=some z):jw P t x y ok H=some (lkV ok (ofV z) ((aD m.A k).map g)):=by
 subst f h;unfold jw;rw[e];dsimp only;rw[i];show tk P kd a (kA k) ok (iV kA g m.A)=_;unfold tk;rw[pZ d];unfold aD;cases gz k m.A 0 with
 |none=>simp only[q2t,j];cases ok<;>rfl
 |some r=>cases ok<;>rfl
theorem rm{P:Program}{t a c:TypeId}{H:AH}{n b:Nat}{m:MpC K V}{k:K}{v:V}{x y u:AV}(d:xO kA kd)(f:dO P t=some (a,kd,c))(j:x= .map b)(l:y=kA k)(o:u=g v)(p:H.get b=some (m.O kA g)):lK P t x y u H n=some (cT,H.set (some ((m.put k v).O kA g)) aa b,n):=by
 subst j l o;unfold lK;rw[f];dsimp only;rw[p];show(match mz kd (kA k) (iV kA g m.A) 0 with|some none=>_|some (some y)=>_|none=>none)=_;rw[pZ d]
 have q:∀A:List (K×V),lJ (kA k) (g v) (iV kA g A) none=iV kA g (A++ [(k,v)]):=λA=>by
  have:lJ (kA k) (g v) (iV kA g A) none=iV kA g A++ [(kA k,g v)]:=by cases A<;>rfl
  rw[this];unfold iV;rw[q0x];rfl
 have s:∀(A:List (K×V)) (i:Nat) (w:AV),lJ (kA k) (g v) (iV kA g A) (some (i,w))=iV kA g (A.set i (k,v)):=λA=>by
  induction A with
  |nil=>intro i w;rfl
  |cons e A z=>
   intro i w;cases i with
   |zero=>rfl
   |succ i=>show _::lJ (kA k) (g v) (iV kA g A) (some (i,w))=_;rw[z];rfl
 unfold MpC.put;cases h:gz k m.A 0 with
 |none=>simp only[q2t,q];rfl
 |some r=>obtain⟨i,w⟩:=r;simp only[q0q,s];rfl
theorem tV{P:Program}{t a c:TypeId}{H:AH}{n b:Nat}{m:MpC K V}{k:K}{x y:AV}(d:xO kA kd)(e:dO P t=some (a,kd,c))(f:x= .map b)(j:y=kA k)(l:H.get b=some (m.O kA g)):E3 P t x y H n=some (.tup [],H.set (some ((m.del k).O kA g)) aa b,n):=by
 subst f j;unfold E3;rw[e];dsimp only;rw[l];show(match mz kd (kA k) (iV kA g m.A) 0 with|some none=>_|some (some (i,_))=>_|none=>none)=_;rw[pZ d];unfold MpC.del;cases h:gz k m.A 0 with
 |none=>rfl
 |some r=>
  obtain⟨i,w⟩:=r;show some (AV.tup [],H.set (some (AO.mp ((iV kA g m.A).eraseIdx i) (m.bs.eraseIdx i) m.cl)) aa b,n)=_;unfold iV;rw[<-tz];rfl
end
section
variable {K V:Type} {kA:K->AV} {g:V->AV}
theorem aC{m:MpC K V}{j:Nat}(a:∀k,ltV j (kA k)=true)(b:∀v,ltV j (g v)=true):ltO j (m.O kA g)=true:=by
 show ltE j (iV kA g m.A)=true;unfold iV
 induction m.A with
 |nil=>rfl
 |cons e A c=>show(ltV j (kA e.1)&&(ltV j (g e.2)&&ltE j (iV kA g A)))=true;rw[a,b];exact c
theorem p5{A:List (K×V)}{i:Nat}{e:AV×AV}(h:(iV kA g A)[i]?=some e):∃f:i<A.length,e=(kA A[i].1,g A[i].2):=by
 unfold iV at h;rw[q1b,Z7]at h;obtain⟨x,a,b⟩:=h;obtain⟨c,d⟩:=q0e.1 a;subst d;exact⟨c,b.symm⟩
theorem ak.Gl{H:AH}{j:Nat}{r:Nat->Nat}:ak H j r (.map []) ((MpC.no:MpC K V).O kA g):=⟨⟨rfl,rfl⟩,λe f p h _ _ ⟨ms,cl,b,a,c⟩=>by
 have a:ms.toList=[]:=a;have d:cl=0:=by rw[c.1,a];rfl
 subst d;exact⟨ms,b,a,by rw[a];rfl⟩⟩
end
def kT(s:Tx):AV:= .str s
def kL(y:Lab):AV:= .agg [.str y.1,.str y.2]
theorem bP:xO kT .string:=⟨λa b=>congrArg some (by rw[q2r,a8,decide_eq_true_eq]),λ_=>rfl⟩
theorem Iz{c:Array Field}(h:jZ c=[(1,0),(1,1)]):xO kL (.struct c):=by
 have e:∀a b:Lab,(db a.1 b.1&&(db a.2 b.2&&true))=decide (a=b):=λa b=>by
  rw[q2r,Z8,Z8,a8,a8,decide_eq_true_eq,Prod.ext_iff];simp
 refine⟨λa b=>?_,λa=>?_⟩
 ·show(match jD [AV.str a.1,.str a.2] [.str b.1,.str b.2] (jZ c),vQ [AV.str a.1,.str a.2] [.str b.1,.str b.2]with|some p,some q=>if p=q then some q else none|_,_=>none)=_;rw[h];show(if(db a.1 b.1&&(db a.2 b.2&&true))=(db a.1 b.1&&(db a.2 b.2&&true))then some (db a.1 b.1&&(db a.2 b.2&&true))else none)=_;rw[if_pos rfl,e]
 ·show(jD [AV.str a.1,.str a.2] [.str a.1,.str a.2] (jZ c)).isSome=true;rw[h];rfl
theorem Re.opt{H:AH}{n k:Nat}{a:Type}{g:List a->AV}(b:g []= .fr 0 k [])(r:Option (List a)):Re H n (lkV false .nsl (r.map g)) H (g (r.getD [])):=by
 cases r with
 |none=>show Re H n .nsl H (g []);rw[b];exact .nsl
 |some v=>exact .same
def gM{X C:Type}(k:Nat)(B:Obj X C)(R:X->List AV->X->AV->Prop)(args:List AV)(H:AH)(n:Nat)(κ:PK):Prop:=match args with
 |a::f=>∃x cs d v b c,a= .ptr 0 0/\k<=n/\Res H n f b cs/\B.ok x c/\(∀i o,(B.O c)[i]?=some o->b.get i=some o)/\R x cs d v/\∀e,B.ok d e->κ v (sF (B.O e) 0 b) n
 |_=>False
theorem uL {X C:Type} {f:FuncId} {run:List AV->AH->Nat->PK->Prop} (A:al f run) (I:bR Tryz.prog f=true) (B:Obj X C) {k:Nat} (hk:B.k=k) (hk9:k<1000) {R:X->List AV->X->AV->Prop}
 (h:∀x cs l v,R x cs l v->cs.all gj=true/\gj v=true/\∀c,B.ok x c->run (.ptr 0 0::cs) (mkH (bE (B.O c) 0)) k (gm B l v)):al f (gM k B R):=λargs H n κ F φ J L vs K M p P=>by
 unfold gM at F;split at F
 ·rename_i a ar;obtain⟨x,cs,l,v,T,c,rfl,hkn,D,hc,U,hR,W⟩:=F;obtain⟨w1,Y,q1,e1,r1⟩:=p.cons_inv;subst hk;obtain⟨Z,l1,hr1,ha1⟩:=D φ J L Y M r1;obtain⟨s1,s2,s3⟩:=h x cs l v hR;have t:=s3 c hc;have E:∀{o:AO} {N:Nat},ltO B.k o=true->bT (bq (kF 0 B.k) N) o=o:=λ{o N} ho=>(eG (r':=λb=>b) (m:=B.k) (λj hj=>(mo hj).trans (q1g j)) ho).trans (vl o)
  have w9:iS T n (kF 0 B.k) (B.O c):=⟨nQ _ _,by rw[dh,B.len],λi s o h1 h2=>by
   obtain⟨h3,rfl⟩:=ph h1;obtain⟨_,h4,h5⟩:=B.lt c h2;refine⟨by omega,?_,.inr h4⟩;rw[q1g,U i o h2,E h5]⟩
  refine dz (S:=kF 0 B.k) (O:=B.O c) (args0:= .ptr 0 0::cs) (κ:=λv2 H2 n2=>v2=v/\n2=n/\∃d,B.ok l d/\H2=sF (B.O d) 0 T) A.m I hr1 w9 ?_ ?_ (Q:=λv' H' m=>v'=v/\m=B.k/\∃d,B.ok l d/\H'=mkH (bE (B.O d) 0)) ?_ λu H' n' hq=>?_
  ·rw[q1];refine .cons ?_ ?_
   ·show VR Z (.ptr (bq (kF 0 B.k) n 0) 0) w1;rw[mo (B.k0 c)];exact VR.mono l1 _ _ e1
   ·rw[kN s1];exact ha1
  ·intro χ v2 H2 n2 u g hle hg hu ⟨f1,f2,d,f3,f4⟩;subst f1 f2 f4;exact P χ _ _ _ u g (l1.trans hle) hg hu (W d f3)
  ·refine⟨gm B l v,by rw[dh];exact t,λu H' n' ⟨H2,d,g1,g2,g3⟩=>⟨v,mkH (bE (B.O d) 0),B.k,λχ J L w M hu=>?_,rfl,rfl,d,g2,rfl⟩⟩;obtain⟨ψ1,m1,hr3,hu3⟩:=g1 χ J L w M hu;obtain⟨ψ2,G,hr4⟩:=Bz hr3 g3 (by rw[B.len];exact Z3 _);rw[dh];exact⟨ψ2,⟨λy q hy e=>G.1 y q hy (m1.b y q e),λq e=>G.2.1 q (m1.z q e),λq e=>m1.y q (G.2.2 q e)⟩,hr4,nP G.2.1 s2 hu3⟩
  ·obtain⟨g1,g2,d,g3,g4⟩:=hq;subst g1 g2 g4;refine⟨B.k,sF (B.O d) 0 T,by rw[dh];exact Z3 _,λy o hy=>?_,(iU (r:=λb=>b) s2).2,(iU (m:=0) s2).1,by rw[dh];omega,d,g3,rfl⟩;rcases mQ hy with⟨i,rfl,i1⟩|⟨i2,i3⟩
   ·obtain⟨j1,j2,j3⟩:=B.lt d i1;have:=sH (k:=0) (by rw[B.len];omega) i1;rw[q1g]at this⊢;exact .inl ⟨i,o,j1,by rw[mo j1,q1g],this,j2,j3,(E j3).symm⟩
   ·rw[B.len]at i2;exact .inr ⟨by rw[dh];omega,i3,λq=>by have:=gZ q;omega⟩
 ·exact F.elim
end Go.Proofs.YtflehenfikoniaaGreat
end
