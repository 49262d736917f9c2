/- Texts of our own, joined: the engine, the machine that runs code, and what is known of the functions. -/
import Derived.Test.YtflehenfikoniaaGreatRows
import Derived.WalkKit
import Derived.Deep.Quiet
import Derived.ProofKit
import Derived.Laws.StructEq
import Derived.LaidEql
import Derived.Laws.BytesArg
import Derived.Maps.RangeRun
import Derived.RangeFuncSeq
import Derived.Scope
import Derived.Laws.Strings
import Derived.Laws.Strings2
import Derived.Below
import Derived.Carry
import Derived.OpenShut
import Derived.ChangeMaps5
import Derived.Deep.Slices
import Derived.Deep.SlicePairs
import Derived.SizedLaws
import Derived.Laws.BitsAllLaws
import Derived.Test.YtflehenfikoniaaGreatJc
import Derived.RangeFuncRecord
import Derived.Test.YtflehenfikoniaaGreatJb
set_option linter.unusedSimpArgs false
set_option linter.unusedVariables false
set_option maxHeartbeats 16000000
set_option maxRecDepth 100000
noncomputable section
namespace Go.Proofs.YtflehenfikoniaaGreat
open Go Go.RowKit
def vA(args:List AV)(H:AH)(n:Nat)(κ:PK):Prop:=match args with
 | [x]=>∃(r k q:Nat) (S:Sr) (C:Ck5),x= .ptr r 0/\fc H n r k q S (pts C) C/\Pre5 S C/\C.length<=100000/\∀a,ag a=ag C->Gt S a->Wh S.sz a.length a->κ (.tup []) (gx H n r k q S (pts a) a) (n+1)
 |_=>False
theorem NG:ai 132 vA:=λargs H n y b z d A B K e a f=>by
 unfold vA at b;split at b
 ·obtain⟨D,h,E,F,G⟩:=a.cons_inv;obtain⟨r,k,q,S,C,rfl,i,j,l,b⟩:=b;refine gO (ax TW 5 _) (by kernel_rfl) (NF S C j l) (λ_=>rfl) e i a f (λu m o c ⟨g,_⟩=>by subst g;exact⟨λ_=>rfl,rfl⟩) λu m o c ⟨p,s,t,v,w,x⟩=>?_
  subst p s t;exact b c v w x
 ·exact b.elim
def ex5(C:Ck5):Nat:=(C.map λc=>c.2.length-1).sum
theorem H8(A B:Ck5):ex5 (A++B)=ex5 A+ex5 B:=by simp[ex5]
theorem mP(c:(Nat×Nat)×Smp)(B:Ck5):ex5 (c::B)=(c.2.length-1)+ex5 B:=by simp[ex5]
theorem BB:∀C:Ck5,ex5 C<=(ag C).length
 | []=>Z6 _
 |c::C=>by
  have:=BB C;rw[mP,bS,Z5];omega
structure ph(S:Sr)(C:Ck5):Prop where
 lo:128<=S.sz
 hi:S.sz<=4096
 up:Up (ag C)
 dR:∀c∈C,cF c.2
theorem Qu{sz:Nat}{L:Smp}(a:128<=sz)(h:¬(usd L:Int)<=(sz:Int)):2<=L.length:=by
 rcases q3b L.length 2 with q|q
 ·have b:=pV (L:=L) (by omega);have c:=sO L;omega
 ·exact q
theorem Qv{sz:Nat}{L:Smp}(h:(usd L:Int)<=(sz:Int)):(a8 L).length<=8*sz:=by
 have a:=sO L;omega
theorem NH{S:Sr}{A B:Ck5}{p q:Nat×Nat}{L:Smp}(a:ph S (A++(p,L)::B))(e:2<=L.length):ph S (A++(p,L.take (b8 L))::(q,L.drop (b8 L))::B)/\ag (A++(p,L.take (b8 L))::(q,L.drop (b8 L))::B)=ag (A++(p,L)::B)/\ex5 (A++(p,L.take (b8 L))::(q,L.drop (b8 L))::B)+1=ex5 (A++(p,L)::B):=by
 obtain⟨g,h⟩:=Bo e;have b:cF L:=a.dR (p,L) (by simp)
 have d:ag (A++(p,L.take (b8 L))::(q,L.drop (b8 L))::B)=ag (A++(p,L)::B):=by
  rw[ff,ff,bS,<-q0q (L.take (b8 L)),q1i]
 refine⟨⟨a.lo,a.hi,by rw[d];exact a.up,λc f=>?_⟩,d,?_⟩
 ·rcases dC.1 f with rfl|k
  ·exact b.sub (q4l _ _)
  ·rcases dC.1 k with rfl|k
   ·exact b.sub (List.drop_sublist _ _)
   ·exact a.dR c (dC.2 (.inr k))
 ·rw[H8,H8,mP,mP,mP];simp only[q0g,q0p];omega
def FtP(b:Sr)(a:Ck5):AV->Sr->Ps->Ck5->Prop:=λu S V C=>u= .tup []/\S=b/\V=pts C/\ag C=ag a/\Pre5 b C/\C.length+ex5 C=a.length+ex5 a
def Wi:DT:=[(2,[(some 0,[0]),(some 0,[12]),(some 0,[13]),(some 0,[14]),(some 0,[2]),(some 0,[15,16]),(some 0,[17]),(none,[18]),(some 1,[0]),(some 2,[20]),(some 3,[21]),(some 4,[22]),(some 0,[19,23])])]
def Wj:FuncId->EP:=aq 184 Bz (aq 185 pX (cV 202 (rp Nl) evP))
theorem Qw:aW Wj:=ae (ae (ba az HX (HW _)) DZ) DY
def KFt:FuncId->EP:=bg 158 Wi Wj
theorem TX:aW KFt:=aw Qw (by kernel_rfl) (by kernel_rfl)
theorem Qx(S:Sr)(C:Ck5)(H:ph S C)(R:C.length+ex5 C<=100000):fC (ay KFt 5 158) [.ptr 0 0] (mkH (bF (iy S (pts C) C) 0)) 3 (SP (FtP S C)):=by
 have I:=H.lo;have M:=H.hi;show ay KFt 5 _ _ _ _ _
 conv=>whnf
 refine aQ.mk {x:Nat×Ck5//ag x.2=ag C/\ph S x.2/\x.2.length+ex5 x.2=C.length+ex5 C/\x.1<=x.2.length/\∀j,(l:j<x.2.length)->j<x.1->(a8 (x.2[j]).2).length<=8*S.sz} 4 (λx=>((xu [(0,.ptr 0 0),(2,.si .i64 ((x.val.1:Int)))] S (pts x.val.2) x.val.2).1,(xu [(0,.ptr 0 0),(2,.si .i64 ((x.val.1:Int)))] S (pts x.val.2) x.val.2).2.1)) (λx=>2*ex5 x.val.2+(x.val.2.length-x.val.1)) ⟨(0,C),rfl,H,rfl,Y5 _,λj l N=>absurd N (q1k j)⟩ ?_ ?_
 focus
  exact oa 1 (le:=[(0,.ptr 0 0),(2,.si .i64 (((0:Nat):Int)))]) (Z6 3) (λx r=>by
   simp only[Z3,Z4,or_false]at r;rcases r with rfl|rfl
   ·exact ab.ptr (Z0 rfl) rfl
   ·exact ab.int rfl) ⟨by decide,by decide⟩ rfl rfl rfl rfl rfl rfl (ab.rw (Z0 rfl) rfl) rfl (aC _) rfl
 intro⟨⟨m,a⟩,g,b,F,t,i⟩;have g:ag a=ag C:=g;have b:ph S a:=b;have F:a.length+ex5 a=C.length+ex5 C:=F;have t:m<=a.length:=t;have i:∀j,(l:j<a.length)->j<m->(a8 (a[j]).2).length<=8*S.sz:=i;have K:IntKind.i64.wrap ((m:Int)+1)=((m+1:Nat):Int):=by rw[aj (by omega) (by omega)];omega
 have u:¬m<a.length->Pre5 S a:=λh=>⟨b.lo,b.hi,b.up,b.dR,λc O=>by
  obtain⟨j,l,rfl⟩:=q2z O;exact i j l (by omega)⟩
 have P:(pts a).length=a.length:=ao a
 have body:∀f:m<a.length,(2<=a[m].2.length->∃d:Nat×Nat->Ck5,∀o,fb S.sz (a.take m++(a[m].1,a[m].2.take (b8 a[m].2))::(o,a[m].2.drop (b8 a[m].2))::a.drop (m+1)) (d o)/\(pts a).take (m+1)++o::(pts a).drop (m+1)=pts (d o)/\ag (d o)=ag C/\ph S (d o)/\(d o).length=a.length+1/\ex5 (d o)+1=ex5 a/\∀j,(l:j<(d o).length)->j<m->(a8 ((d o)[j]).2).length<=8*S.sz)/\((a8 a[m].2).length<=8*S.sz->∀j,(l:j<a.length)->j<m+1->(a8 (a[j]).2).length<=8*S.sz):=λf=>by
  have v:=fe f;refine⟨λk=>⟨λo=>a.take m++(a[m].1,a[m].2.take (b8 a[m].2))::(o,a[m].2.drop (b8 a[m].2))::a.drop (m+1),λo=>⟨fb.refl _ _,H5 f o _ _,?_⟩⟩,λk j l y=>?_⟩
  ·have G:=NH (q:=o) (A:=a.take m) (B:=a.drop (m+1)) (p:=a[m].1) (L:=a[m].2) (S:=S) (by rw[v];exact b) k;rw[v,g]at G;refine⟨G.2.1,G.1,by simp only[Z5,Z9,q0g,q0p];omega,G.2.2,?_⟩;refine λj l y=>?_
   have e:(a.take m++(a[m].1,a[m].2.take (b8 a[m].2))::(o,a[m].2.drop (b8 a[m].2))::a.drop (m+1))[j]'l=a[j]'(by omega):=by
    rw[q3s (by rw[q0g];omega),List.getElem_take]
   rw[e];exact i j (by omega) y
  ·by_cases q:j=m
   ·subst q;exact k
   ·exact i j l (by omega)
 conv=>whnf
 refine ah.dec (λh=>?_) (λh=>?_)
 focus
  have f:m<a.length:=by
   have h:(m:Int)<((pts a).length:Int):=h;omega
  have hb:=body f;have D:m<(pts a).length:=by omega
  have Q:cF a[m].2:=b.dR _ (q0i f)
  conv=>whnf
  refine Idx.mk m rfl D ?_
  conv=>whnf
  refine au (dy f (show 0+m*1=m by omega)) ?_
  conv=>whnf
  refine⟨2,S.sz,a.take m,a.drop (m+1),a[m].1,a[m].2,rfl,xH f rfl,?_⟩
  conv=>whnf
  refine ah.dec (λz=>?_) (λz=>?_)
  focus
   have z:(usd a[m].2:Int)<=(S.sz:Int):=z;have s:=hb.2 (Qv z)
   conv=>whnf
   exact⟨⟨(m+1,a),g,b,F,f,s⟩,by show 2*ex5 a+(a.length-(m+1))<2*ex5 a+(a.length-m);omega,oa 3 (le:=[(0,.ptr 0 0),(2,.si .i64 (((m+1:Nat):Int)))]) (Z6 3) (λx r=>by
   simp only[Z3,Z4,or_false]at r;rcases r with rfl|rfl
   ·exact ab.ptr (Z0 rfl) rfl
   ·exact ab.int (congrArg (AV.si .i64) K)) ⟨by decide,by decide⟩ rfl rfl rfl rfl rfl rfl (ab.rw (Z0 rfl) rfl) rfl (aC _) rfl⟩
  have z:¬(usd a[m].2:Int)<=(S.sz:Int):=z;have E:=Qu I z;have s:=hb.1 E;clear hb body;revert s;refine λ⟨d,s⟩=>?_
  conv=>whnf
  refine Idx.mk m rfl D ?_
  conv=>whnf
  refine au (dy f (show 0+m*1=m by omega)) ?_
  conv=>whnf
  refine⟨2,S.sz,a.take m,a.drop (m+1),a[m].1,a[m].2,d,rfl,jF f rfl (by decide) (by decide) rfl,rfl,by decide,by omega,Q,E,λo=>⟨(s o).1,?_⟩⟩;have n:=(s o).2
  conv=>whnf
  refine⟨0,3,2,m+1,S,pts a,pts (d o),d o,o,rfl,congrArg (AV.si .i64) K,rfl,⟨⟨by decide,by decide,by decide⟩,⟨by decide,by decide,by decide⟩,rfl,rfl,rfl⟩,by omega,by omega,n.1,?_⟩
  conv=>whnf
  exact⟨⟨(m,d o),n.2.1,n.2.2.1,by show(d o).length+ex5 (d o)=C.length+ex5 C;have:=n.2.2.2.1;have:=n.2.2.2.2.1;omega,by show m<=(d o).length;have:=n.2.2.2.1;omega,n.2.2.2.2.2⟩,by show 2*ex5 (d o)+((d o).length-m)<2*ex5 a+(a.length-m);have:=n.2.2.2.1;have:=n.2.2.2.2.1;omega,oa 6 (le:=[(0,.ptr 0 0),(2,.si .i64 ((m:Int)))]) (Z6 3) (λx r=>by
   simp only[Z3,Z4,or_false]at r;rcases r with rfl|rfl
   ·exact ab.ptr (Z0 rfl) rfl
   ·exact ab.int rfl) ⟨by decide,by decide⟩ rfl rfl rfl rfl rfl rfl (ab.rw (Z0 rfl) rfl) rfl (aC _) rfl⟩
 have f:¬m<a.length:=λq=>h (by
  show(m:Int)<((pts a).length:Int);omega)
 have J:=u f
 conv=>whnf
 exact fR (FtP S C) ⟨rfl,rfl,rfl,g,J,F⟩ (VTo.mk5 rfl) (λT U w h=>iU rfl h) 3 ⟨by decide,by decide⟩ rfl rfl rfl rfl rfl rfl (ab.rw (Z0 rfl) rfl) rfl (aC _) rfl
def F9(args:List AV)(H:AH)(n:Nat)(κ:PK):Prop:=match args with
 | [x]=>∃(r k q:Nat) (S:Sr) (C:Ck5),x= .ptr r 0/\fc H n r k q S (pts C) C/\ph S C/\C.length+ex5 C<=100000/\∀a,ag a=ag C->Pre5 S a->a.length<=100000->κ (.tup []) (gx H n r k q S (pts a) a) (n+1)
 |_=>False
theorem Wk:ai 158 F9:=λargs H n x b y d z A K e a f=>by
 unfold F9 at b;split at b
 ·obtain⟨B,h,D,E,F⟩:=a.cons_inv;obtain⟨r,k,q,S,C,rfl,i,j,l,b⟩:=b;refine gO (ax TX 5 _) (by kernel_rfl) (Qx S C j l) (λ_=>rfl) e i a f (λu m o c ⟨g,_⟩=>by subst g;exact⟨λ_=>rfl,rfl⟩) λu m o c ⟨p,s,t,v,w,G⟩=>?_
  subst p s t;exact b c v w (by omega)
 ·exact b.elim
def fu(a b:Int)(C:Ck5):Ck5:=C.map λc=>(c.1,aR c.2 a b)
theorem rr(a b:Int):∀C:Ck5,ag (fu a b C)=aR (ag C) a b
 | []=>rfl
 |c::C=>by
  have d:=rr a b C;show ag ((c.1,aR c.2 a b)::fu a b C)=_;rw[bS,bS,d];unfold aR;rw[q2j]
theorem Kk(a b:Int)(C:Ck5):pts (fu a b C)=pts C:=by simp[fu,pts]
theorem Kl(a b:Int)(C:Ck5):(fu a b C).length=C.length:=Y9 _
theorem D3(a b:Int):∀C:Ck5,ex5 (fu a b C)<=ex5 C
 | []=>Z6 _
 |c::C=>by
  have d:=D3 a b C;show ex5 ((c.1,aR c.2 a b)::fu a b C)<=_;rw[mP,mP];have:(aR c.2 a b).length<=c.2.length:=q1e _ _;show((aR c.2 a b).length-1)+_<=_;omega
theorem NI{S:Sr}{C:Ck5}(h:ph S C)(a b:Int):ph S (fu a b C):=⟨h.lo,h.hi,by rw[rr];exact h.up.sublist List.filter_sublist,λc e=>by
 obtain⟨d,hd,rfl⟩:=q0e.1 e;exact xd (h.dR d hd) a b⟩
theorem Ga{a b:Int}{C:Ck5}{i:Nat}(h:i<C.length):fu a b (C.take (i+1))=fu a b (C.take i)++ [(C[i].1,aR C[i].2 a b)]:=by
 unfold fu;rw[q4m,Y0 h,q0m];rfl
theorem zS{C:Ck5}{i:Nat}(h:i<C.length):ag (C.take (i+1))=ag (C.take i)++C[i].2:=by
 rw[q4m,Y0 h,ju];simp[ag,cnt]
theorem BC(C:Ck5)(i:Nat):(ag (C.take i)).length<=(ag C).length:=by
 have:ag C=ag (C.take i)++ag (C.drop i):=by rw[<-ju,q1i]
 rw[this,Z5];omega
def dlN(a b:Int)(C:Ck5):Nat:=(ag C).length-(aR (ag C) a b).length
theorem pj(L:Smp)(a b:Int):(aR L a b).length<=L.length:=q1e _ _
theorem NJ{a b:Int}{C:Ck5}{i:Nat}(h:i<C.length):(dlN a b (C.take (i+1)):Int)=(dlN a b (C.take i):Int)+((C[i].2.length:Int)-((aR C[i].2 a b).length:Int)):=by
 unfold dlN;have c:=pj (ag (C.take i)) a b;have d:=pj C[i].2 a b;rw[zS h];have e:aR (ag (C.take i)++C[i].2) a b=aR (ag (C.take i)) a b++aR C[i].2 a b:=q2j _ _;rw[e,Z5,Z5];omega
def DlP(c:Sr)(d:Ck5)(a b:Int):AV->Sr->Ps->Ck5->Prop:=λu S V C=>u= .si .i64 ((dlN a b d:Nat):Int)/\S=c/\V=pts C/\ag C=aR (ag d) a b/\Gt c C/\Wh c.sz C.length C
def KDl:FuncId->EP:=bg 100 [] (aq 158 F9 (aq 132 vA (aq 157 xr evP)))
theorem TY:aW KDl:=aw (ae (ae (ae az Qf) NG) Wk) (by kernel_rfl) (by kernel_rfl)
theorem Qy(S:Sr)(C:Ck5)(a b:Int)(g:ph S C)(L:C.length+ex5 C<=100000)(o:(ag C).length<=100000):fC (ay KDl 5 100) [.ptr 0 0,.si .i64 a,.si .i64 b] (mkH (bF (iy S (pts C) C) 0)) 3 (SP (DlP S C a b)):=by
 have p:=g.lo;have r:=g.hi;have k:=NI g a b;have hex:=D3 a b C;have s:=Kl a b C;show ay KDl 5 _ _ _ _ _
 conv=>whnf
 refine ah.di (λz=>absurd (show(0:Int)<(S.sz:Int) by omega) z) (λ_=>?_)
 conv=>whnf
 refine aQ.mk {i:Nat//i<=C.length} 4 (λi=>((xu [(0,.ptr 0 0),(1,.si .i64 a),(2,.si .i64 b),(7,.si .i64 ((dlN a b (C.take i.val):Nat):Int)),(16,.rw 3 0 (pts C).length 1 0),(17,.si .i64 ((pts C).length:Int)),(18,.si .i64 ((i.val:Int)))] S (pts C) (fu a b (C.take i.val)++C.drop i.val)).1,(xu [(0,.ptr 0 0),(1,.si .i64 a),(2,.si .i64 b),(7,.si .i64 ((dlN a b (C.take i.val):Nat):Int)),(16,.rw 3 0 (pts C).length 1 0),(17,.si .i64 ((pts C).length:Int)),(18,.si .i64 ((i.val:Int)))] S (pts C) (fu a b (C.take i.val)++C.drop i.val)).2.1)) (λi=>C.length-i.val) ⟨0,Y5 _⟩ ?_ ?_
 focus
  exact oa 1 (le:=[(0,.ptr 0 0),(1,.si .i64 a),(2,.si .i64 b),(7,.si .i64 ((dlN a b (C.take 0):Nat):Int)),(16,.rw 3 0 (pts C).length 1 0),(17,.si .i64 ((pts C).length:Int)),(18,.si .i64 (((0:Nat):Int)))]) (Z6 3) (λx d=>by
   simp only[Z3,Z4,or_false]at d;rcases d with rfl|rfl|rfl|rfl|rfl|rfl|rfl
   ·exact ab.ptr (Z0 rfl) rfl
   ·exact ab.int rfl
   ·exact ab.int rfl
   ·exact ab.int rfl
   ·exact ab.rw (Z0 rfl) rfl
   ·exact ab.int rfl
   ·exact ab.int rfl) ⟨by decide,by decide⟩ rfl rfl rfl rfl rfl rfl (ab.rw (Z0 rfl) rfl) rfl (aC _) rfl
 intro⟨i,M⟩;have t:IntKind.i64.wrap ((i:Int)+1)=((i+1:Nat):Int):=by rw[aj (by omega) (by omega)];omega
 have u:(pts C).length=C.length:=ao C;have hle:=BC C (i+1)
 have st:∀h:i<C.length,some (dB S (fu a b (C.take i)++C.drop i))=some (AO.sep (pk (chs S.sz (fu a b (C.take i)++(C[i].1,C[i].2)::C.drop (i+1)))))/\fb S.sz (fu a b (C.take i)++(C[i].1,aR C[i].2 a b)::C.drop (i+1)) (fu a b (C.take (i+1))++C.drop (i+1))/\IntKind.i64.wrap (((dlN a b (C.take i):Nat):Int)+((C[i].2.length:Int)-((aR C[i].2 a b).length:Int)))=((dlN a b (C.take (i+1)):Nat):Int):=λh=>by
  refine⟨by rw[show C.drop i=(C[i].1,C[i].2)::C.drop (i+1) from q0j h];rfl,by rw[Ga h,q0q];exact fb.refl _ _,?_⟩;have e:=NJ (a:=a) (b:=b) h;rw[<-e];have:dlN a b (C.take (i+1))<=100000:=by unfold dlN;omega
  rw[aj (by omega) (by omega)]
 conv=>whnf
 refine ah.dec (λh=>?_) (λh=>?_)
 focus
  have j:i<C.length:=by
   have h:(i:Int)<((pts C).length:Int):=h;omega
  have c:=st j;have v:cF C[i].2:=g.dR _ (q0i j)
  conv=>whnf
  refine Idx.mk i rfl (by omega) ?_
  conv=>whnf
  refine au (dy j (show 0+i*1=i by omega)) ?_
  conv=>whnf
  refine⟨2,S.sz,fu a b (C.take i),C.drop (i+1),fu a b (C.take (i+1))++C.drop (i+1),C[i].1,C[i].2,a,b,rfl,rfl,rfl,⟨by decide,by decide,rfl,c.1⟩,by omega,v,c.2.1,?_⟩
  conv=>whnf
  exact⟨⟨i+1,j⟩,by show C.length-(i+1)<C.length-i;omega,oa 3 (le:=[(0,.ptr 0 0),(1,.si .i64 a),(2,.si .i64 b),(7,.si .i64 ((dlN a b (C.take (i+1)):Nat):Int)),(16,.rw 3 0 (pts C).length 1 0),(17,.si .i64 ((pts C).length:Int)),(18,.si .i64 (((i+1:Nat):Int)))]) (Z6 3) (λx d=>by
   simp only[Z3,Z4,or_false]at d;rcases d with rfl|rfl|rfl|rfl|rfl|rfl|rfl
   ·exact ab.ptr (Z0 rfl) rfl
   ·exact ab.int rfl
   ·exact ab.int rfl
   ·exact ab.int (congrArg (AV.si .i64) c.2.2)
   ·exact ab.rw (Z0 rfl) rfl
   ·exact ab.int rfl
   ·exact ab.int (congrArg (AV.si .i64) t)) ⟨by decide,by decide⟩ rfl rfl rfl rfl rfl rfl (ab.rw (Z0 rfl) rfl) rfl (aC _) rfl⟩
 have f:i=C.length:=by
  have:¬i<C.length:=λq=>h (by
   show(i:Int)<((pts C).length:Int);omega)
  omega
 have w:fu a b (C.take i)++C.drop i=fu a b C:=by rw[f,q0k,List.drop_length,q0z]
 have y:dlN a b (C.take i)=dlN a b C:=by rw[f,q0k]
 have A:some (dB S (fu a b (C.take i)++C.drop i))=some (dB S (fu a b C)):=by rw[w]
 have n:=Kk a b C;have l:some (AO.cells (c6 S 3 (pts C).length) true)=some (AO.cells (c6 S 3 (pts (fu a b C)).length) true):=by rw[n]
 have m:some (AO.cells (aZ (pts C)) true)=some (AO.cells (aZ (pts (fu a b C))) true):=by rw[n]
 have B:=rr a b C;have D:AV.si .i64 ((dlN a b (C.take i):Nat):Int)= .si .i64 ((dlN a b C:Nat):Int):=by rw[y]
 clear st
 conv=>whnf
 refine⟨0,3,2,S,fu a b C,rfl,⟨⟨by decide,by decide,by decide⟩,⟨by decide,by decide,by decide⟩,l,m,A⟩,k,by omega,λE F G H=>?_⟩
 conv=>whnf
 refine⟨0,4,2,S,E,rfl,⟨⟨by decide,by decide,by decide⟩,⟨by decide,by decide,by decide⟩,rfl,rfl,rfl⟩,G,H,λN I J K=>?_⟩
 conv=>whnf
 exact fR (DlP S C a b) ⟨rfl,rfl,rfl,by rw[I,F,B],J,K⟩ (VTo.mk5 D) VR.eH 5 ⟨by decide,by decide⟩ rfl rfl rfl rfl rfl rfl (ab.rw (Z0 rfl) rfl) rfl (aC _) rfl
def H9 (le:List (Nat×AV)) (S:Sr) (V:Ps) (C:Ck5):AE×AH×Nat:=(mkE le,mkH [(0,.cells (c6 S 1 V.length) true),(1,.cells (aZ V) true),(2,dB S C)],3)
theorem Gb{σ:AE}{H:AH}{n:Nat}{S:Sr}{V:Ps}{C:Ck5}{le:List (Nat×AV)}(c:∀x∈le,ab H 3 (λb=>b) (bj (pa x.1) σ) x.2)(d:PM.get H 0=some (.cells (c6 S 1 V.length) true))(f:PM.get H 1=some (.cells (aZ V) true))(g:PM.get H 2=some (dB S C)):Cov 3 σ H n (H9 le S V C):=by
 refine Cov.ofR (m:=3) (p:=3) (λb=>b) (Z6 _) (λb h=>rfl) c ?_ (λx a y i e=>e);intro x a;simp only[Z3,Z4,or_false]at a;rcases a with rfl|rfl|rfl
 ·exact⟨Z0 rfl,.inl ⟨_,d,an.c6 rfl rfl rfl rfl rfl (ab.rw (Z0 rfl) rfl)⟩⟩
 ·exact⟨Z0 rfl,.inl ⟨_,f,an.aZ (aC _)⟩⟩
 ·exact⟨Z0 rfl,.inl ⟨_,g,an.sep _⟩⟩
def RoP(P:AV->Prop)(S:Sr)(V:Ps)(C:Ck5):PK:=λu a m=>P u/\a=mkH [(0,.cells (c6 S 1 V.length) true),(1,.cells (aZ V) true),(2,dB S C)]/\m=3
theorem oc{u v:AV}{H:AH}{n:Nat}{S:Sr}{V:Ps}{C:Ck5}(P:AV->Prop)(d:P v)(e:VTo u v)(hv:∀φ ψ w,VR φ v w->VR ψ v w)(f:PM.get H 0=some (.cells (c6 S 1 V.length) true))(g:PM.get H 1=some (.cells (aZ V) true))(h:PM.get H 2=some (dB S C)):∃(a:AV) (b:AH) (m:Nat),Cov 3 (mkE [(0,u)]) H n (mkE [(0,a)],b,m)/\RoP P S V C a b m:=
 ⟨v,(H9 [(0,v)] S V C).2.1,3,Gb (le:=[(0,v)]) (λx c=>by
  simp only[Z3,Z4,or_false]at c;subst c;exact λφ ψ w j _ i=>hv φ ψ w (e φ w i)) f g h,d,rfl,rfl⟩
theorem Gc {f:FuncId} {run:List AV->AH->Nat->PK->Prop} (e:ai f run) (l:bR Tryz.prog f=true) {a:List AV} {S:Sr} {V:Ps} {C:Ck5} {P:AV->Prop} (h:fC run (.ptr 0 0::a) (mkH (bF (iy S V C) 0)) 3 (RoP P S V C)) (m:∀r,dw r a=a)
 {φ:Ph} {H:AH} {n:Nat} {w x:Hp} {p:Array Value} {κ:PK} {K:KH} {r k q:Nat} (z:HR φ H n w x) (j:fc H n r k q S V C) (d:VRs φ (.ptr r 0::a) p.toList) (A:cD φ w κ K) (B:∀u,P u->(∀f,ren f u=u)/\ltV 3 u=true) (D:∀u,P u->κ u H n):dI Tryz.prog f p x K:=by
 refine dq (S:=[r,k,q]) (O:=iy S V C) (args0:= .ptr 0 0::a) (ai.fC e) l z j.xt (by show VRs φ (ren _ _::dw _ a) p.toList;rw[m];exact d) A h λu G I ⟨y,E,F⟩=>?_
 subst E F;obtain⟨g,v⟩:=B u y;refine⟨3,H,Z6 _,fB.same λi s o b c _=>?_,v,by rw[g];exact D u y⟩
 match i,b with
 |0,b=>
  injection b with b;subst b;rw[j.hr]at c;injection c with c;subst c;exact⟨_,rfl,rfl,rfl,rfl⟩
 |1,b=>
  injection b with b;subst b;rw[j.hk]at c;injection c with c;subst c;exact⟨_,rfl,rfl,pW _ _,by rw[bT,jR]⟩
 |2,b=>
  injection b with b;subst b;rw[j.hq]at c;injection c with c;subst c;exact⟨_,rfl,rfl,rfl,rfl⟩
def kl(A:Sr->Ck5->List AV->AV->Prop)(args:List AV)(H:AH)(n:Nat)(κ:PK):Prop:=match args with
 |x::a=>∃(r k q:Nat) (S:Sr) (C:Ck5) (v:AV),x= .ptr r 0/\fc H n r k q S (pts C) C/\A S C a v/\κ v H n
 |_=>False
theorem Ge(A:Sr->Ck5->List AV->AV->Prop):iG (kl A):= .pure λargs H n g a=>by
 unfold kl at*;split at a
 ·obtain⟨r,k,q,S,C,v,b,c,d,e⟩:=a;exact⟨v,e,λf h=>⟨r,k,q,S,C,v,b,c,d,h⟩⟩
 ·exact a.elim
theorem jS{f:FuncId}{A:Sr->Ck5->List AV->AV->Prop}{run:List AV->AH->Nat->PK->Prop}(d:ai f run)(e:bR Tryz.prog f=true)(h:∀S C j v,A S C j v->∃a,(∀φ i,VRs φ j i->VRs φ a i)/\(∀r,dw r a=a)/\((∀f,ren f v=v)/\ltV 3 v=true)/\fC run (.ptr 0 0::a) (mkH (bF (iy S (pts C) C) 0)) 3 (RoP (λu=>u=v) S (pts C) C)):ai f (kl A):=λargs H n F c φ l G i K m b o=>by
 unfold kl at c;split at c
 ·obtain⟨r,k,q,S,C,v,rfl,p,s,c⟩:=c;obtain⟨a,t,w,x,y⟩:=h S C _ v s;obtain⟨I,z,B,D,E⟩:=b.cons_inv;refine Gc d e y w m p (by rw[B];exact .cons D (t _ _ E)) o (λu g=>by subst g;exact x) λu g=>by subst g;exact c
 ·exact c.elim
theorem Ia{φ:Ph}{y:AV}{t:Int}{a:List Value}(b:mk y= .si .i64 t)(h:VRs φ [y] a):VRs φ [.si .i64 t] a:=by
 obtain⟨g,c,d,e,f⟩:=h.cons_inv;rw[d];exact .cons (aX rfl (b▸e.mk)) f
theorem Km(S:Sr)(C:Ck5)(t:Int)(f:Okc S C):fC (ay KHm 5 63) [.ptr 0 0,.si .i64 t] (mkH (bF (iy S (pts C) C) 0)) 3 (RoP (λu=>u= .si .i64 ((dO (cnt C) t:Nat):Int)) S (pts C) C):=by
 have o:=f.few;have l:=f.lo;show ay KHm 5 _ _ _ _ _
 conv=>whnf
 refine aQ.mk {i:Nat//(i<C.length∨i=0)/\dO (cnt C) t=i+dO ((cnt C).drop i) t} 3 (λi=>((H9 [(0,.ptr 0 0),(1,.si .i64 t),(5,.si .i64 ((i.val:Int)))] S (pts C) C).1,(H9 [(0,.ptr 0 0),(1,.si .i64 t),(5,.si .i64 ((i.val:Int)))] S (pts C) C).2.1)) (λi=>C.length-i.val) ⟨0,.inr rfl,by simp⟩ ?_ ?_
 focus
  exact Gb (le:=[(0,.ptr 0 0),(1,.si .i64 t),(5,.si .i64 (((0:Nat):Int)))]) (λx c=>by
   simp only[Z3,Z4,or_false]at c;rcases c with rfl|rfl|rfl
   ·exact ab.ptr (Z0 rfl) rfl
   ·exact ab.int rfl
   ·exact ab.int rfl) rfl rfl rfl
 intro⟨i,p,j⟩;have e:IntKind.i64.wrap ((i:Int)+1)=((i+1:Nat):Int):=by rw[aj (by omega) (by omega)];omega
 have m:(pts C).length=C.length:=ao C
 conv=>whnf
 refine ah.dec (λh=>?_) (λh=>?_)
 focus
  have a:i+1<C.length:=by
   have h:IntKind.i64.wrap ((i:Int)+1)<((pts C).length:Int):=h;rw[e]at h;omega
  have k:i+1<(pts C).length:=by omega
  have n:i+1<(cnt C).length:=by rw[c7];exact a
  have b:=xx (t:=t) n;rw[HY a]at b
  conv=>whnf
  refine Idx.mk (i+1) e k ?_
  conv=>whnf
  refine au (dy a (show 0+(i+1)*1=i+1 by omega)) ?_
  conv=>whnf
  refine⟨2,S.sz,C.take (i+1),C.drop (i+1+1),C,C[i+1].1,C[i+1].2,rfl,jF a rfl (by decide) (by decide) rfl,by omega,f.dR _ (q0i a),jt a,?_⟩
  conv=>whnf
  refine ah.dec (λg=>?_) (λg=>?_)
  focus
   have d:i=dO (cnt C) t:=by rw[j,b,if_pos g];rfl
   conv=>whnf
   exact oc _ rfl (VTo.mk5 (congrArg (λq:Nat=>AV.si .i64 (q:Int)) d)) VR.eH rfl rfl rfl
  have d:dO (cnt C) t=(i+1)+dO ((cnt C).drop (i+1)) t:=by rw[j,b,if_neg g];omega
  conv=>whnf
  exact⟨⟨i+1,.inl a,d⟩,by show C.length-(i+1)<C.length-i;omega,Gb (le:=[(0,.ptr 0 0),(1,.si .i64 t),(5,.si .i64 (((i+1:Nat):Int)))]) (λx c=>by
   simp only[Z3,Z4,or_false]at c;rcases c with rfl|rfl|rfl
   ·exact ab.ptr (Z0 rfl) rfl
   ·exact ab.int rfl
   ·exact ab.int (congrArg (AV.si .i64) e)) rfl rfl rfl⟩
 have d:i=dO (cnt C) t:=by
  have a:¬i+1<C.length:=λq=>h (by
   show IntKind.i64.wrap ((i:Int)+1)<((pts C).length:Int);rw[e];omega)
  rw[j,uX (D:=(cnt C).drop i) (by rw[q0p,c7];omega)];rfl
 conv=>whnf
 exact oc _ rfl (VTo.mk5 (congrArg (λq:Nat=>AV.si .i64 (q:Int)) d)) VR.eH rfl rfl rfl
def NK(S:Sr)(C:Ck5)(a:List AV)(v:AV):Prop:=∃y t h,a=[y]/\mk y= .si .i64 t/\Okc S C/\dO (cnt C) t=h/\v= .si .i64 (h:Int)
theorem Qz:ai 63 (kl NK):=jS (ax Nv 5 _) (by kernel_rfl) λS C f v ⟨y,t,h,a,b,c,d,e⟩=>by
 subst a d e;exact⟨[.si .i64 t],λg i=>Ia b,λ_=>rfl,⟨λ_=>rfl,rfl⟩,Km S C t c⟩
def df(S:Sr):Int:=if S.ret=0 then S.fl else max S.fl (S.mx-S.ret)
def Wl:FuncId->EP:=bg 24 [] evP
theorem QA:aW Wl:=aw az (by kernel_rfl) (by kernel_rfl)
def Wm(S:Sr)(C:Ck5)(a:List AV)(v:AV):Prop:=a=[]/\128<=S.sz/\v= .si .i64 (S.mx)
theorem Wn:ai 24 (kl Wm):=jS (ax QA 4 _) (by kernel_rfl) λS C d v a=>by
 obtain⟨b,e,c⟩:=a;subst b c;refine⟨[],λf g h=>h,λ_=>rfl,⟨λ_=>rfl,rfl⟩,?_⟩;show ay Wl 4 _ _ _ _ _
 conv=>whnf
 refine ah.di (λz=>absurd (show(0:Int)<(S.sz:Int) by omega) z) (λ_=>?_)
 conv=>whnf
 exact oc _ rfl (VTo.mk5 rfl) VR.eH rfl rfl rfl
def Wo:FuncId->EP:=bg 85 [] evP
theorem QB:aW Wo:=aw az (by kernel_rfl) (by kernel_rfl)
def Wp(S:Sr)(C:Ck5)(a:List AV)(v:AV):Prop:=a=[]/\128<=S.sz/\v= .si .i64 (S.ret)
theorem Wq:ai 85 (kl Wp):=jS (ax QB 4 _) (by kernel_rfl) λS C d v a=>by
 obtain⟨b,e,c⟩:=a;subst b c;refine⟨[],λf g h=>h,λ_=>rfl,⟨λ_=>rfl,rfl⟩,?_⟩;show ay Wo 4 _ _ _ _ _
 conv=>whnf
 exact oc _ rfl (VTo.mk5 rfl) VR.eH rfl rfl rfl
def Wr:FuncId->EP:=bg 86 [] evP
theorem QC:aW Wr:=aw az (by kernel_rfl) (by kernel_rfl)
def Ws(S:Sr)(C:Ck5)(a:List AV)(v:AV):Prop:=a=[]/\128<=S.sz/\v= .si .i64 (S.pol)
theorem Wt:ai 86 (kl Ws):=jS (ax QC 4 _) (by kernel_rfl) λS C d v a=>by
 obtain⟨b,e,c⟩:=a;subst b c;refine⟨[],λf g h=>h,λ_=>rfl,⟨λ_=>rfl,rfl⟩,?_⟩;show ay Wr 4 _ _ _ _ _
 conv=>whnf
 exact oc _ rfl (VTo.mk5 rfl) VR.eH rfl rfl rfl
def Wu:FuncId->EP:=bg 37 [(5,[(some 0,[0]),(some 0,[17]),(some 0,[18]),(some 0,[19]),(some 0,[0]),(some 0,[21]),(some 0,[22]),(some 0,[23]),(some 0,[0]),(some 0,[25]),(some 0,[26]),(some 0,[27]),(some 0,[24,28]),(some 0,[20,29]),(some 0,[30])])] evP
theorem QD:aW Wu:=aw az (by kernel_rfl) (by kernel_rfl)
def NL(S:Sr)(C:Ck5)(a:List AV)(v:AV):Prop:=a=[]/\128<=S.sz/\(0<=S.ret/\S.ret<=1099511627776)/\(-1<=S.mx/\S.mx<1099511627776)/\v= .si .i64 (df S)
theorem St:ai 37 (kl NL):=jS (ax QD 4 _) (by kernel_rfl) λS C f v a=>by
 obtain⟨b,g,i,j,c⟩:=a;subst b c;refine⟨[],λk l h=>h,λ_=>rfl,⟨λ_=>rfl,rfl⟩,?_⟩;have d:IntKind.i64.wrap (S.mx-S.ret)=S.mx-S.ret:=aj (by omega) (by omega);show ay Wu 4 _ _ _ _ _
 conv=>whnf
 refine ah.di (λz=>absurd (show(0:Int)<(S.sz:Int) by omega) z) (λ_=>?_)
 conv=>whnf
 refine ah.dec (λz=>?_) (λz=>?_)
 focus
  have e:S.fl=df S:=(if_pos z).symm
  conv=>whnf
  exact oc _ rfl (VTo.mk5 (congrArg (AV.si .i64) e)) VR.eH rfl rfl rfl
 have e:max S.fl (IntKind.i64.wrap (S.mx-S.ret))=df S:=by rw[d];exact(if_neg z).symm
 conv=>whnf
 exact oc _ rfl (VTo.mk5 (congrArg (AV.si .i64) e)) VR.eH rfl rfl rfl
theorem Kn{C:Ck5}{t:Int}{h:Nat}(a:h<C.length)(b:∀x∈ag (C.take h),x.1<t)(c:∀x∈ag (C.drop (h+1)),t<x.1):ja C[h].2 t=ja (ag C) t:=by
 have e:ag C=ag (C.take h)++(C[h].2++ag (C.drop (h+1))):=by
  rw[<-ff (C.take h) (C.drop (h+1)) C[h].1 C[h].2,fe a]
 unfold ja;rw[e,HT b c];by_cases q:has C[h].2 t=true
 ·rw[if_pos q,if_pos q];have d:plc C[h].2 t<C[h].2.length:=by unfold has at q;exact(of_decide_eq_true q).1
  rw[sM b c];unfold vAt;rw[Bn d]
 ·rw[if_neg q,if_neg q]
def TZ:DT:=[(5,[(some 1000000,[3,6]),(none,[0,1,2,3,4,5,6,7,8,9,10,11,12,13,14]),(none,[0,1,2,4,5,6,3,7,8,9,10,11,12,13,14])])]
def KGe:FuncId->EP:=bg 22 TZ (cV 63 (kl NK) (aq 64 Bt evP))
theorem T0:aW KGe:=aw (ba (ae az TJ) Qz (Ge _)) (by kernel_rfl) (by kernel_rfl)
theorem xI{C:Ck5}(h:C=[]):ag C=[]:=by subst h;rfl
def Wv(S:Sr)(C:Ck5)(a:List AV)(v:AV):Prop:=∃y t,a=[y]/\mk y= .si .i64 t/\Gt S C/\(ag C).length<=90000/\v= .tup [.si .i64 (ja (ag C) t).1,.si .i64 (ja (ag C) t).2]
theorem NM(S:Sr)(C:Ck5)(t:Int)(f:Gt S C)(V:(ag C).length<=90000):fC (ay KGe 5 22) [.ptr 0 0,.si .i64 t] (mkH (bF (iy S (pts C) C) 0)) 3 (RoP (λu=>u= .tup [.si .i64 (ja (ag C) t).1,.si .i64 (ja (ag C) t).2]) S (pts C) C):=by
 have F:=f.lo;have s:=f.few;have G:Okc S C:=f.okc (by omega);have H:(pts C).length=C.length:=ao C;have mt:∀a b:Int,∀n v w,VR n (.tup [.si .i64 a,.si .i64 b]) w->VR v (.tup [.si .i64 a,.si .i64 b]) w:=λa b n v w h=>iU rfl h
 have A:∀{a b:AV} {x y:Int},mk a= .si .i64 x->mk b= .si .i64 y->VTo (.tup [a,b]) (.tup [.si .i64 x,.si .i64 y]):=λI J n w K=>by
  obtain⟨cs,rfl,o⟩:=K.eM;obtain⟨W,L,M,N,O⟩:=o.cons_inv;obtain⟨X,P,Q,R,T⟩:=O.cons_inv;exact .tup (by rw[M,Q];exact .cons (aX rfl (I▸N.mk)) (.cons (aX rfl (J▸R.mk)) T))
 obtain⟨h,p⟩:∃h,dO (cnt C) t=h:=⟨_,rfl⟩
 have d:C≠[]->h<C.length/\∀q:h<C.length,ja C[h].2 t=ja (ag C) t:=λk=>by
  have:=xy (D:=cnt C) t (λe=>k (List.map_eq_nil_iff.1 e));rw[c7,p]at this;refine⟨this,λq=>?_⟩;obtain⟨B,E⟩:=rq (t:=t) k f.gd.ne f.up;rw[p]at B E;exact Kn q B E
 obtain⟨g,i⟩:∃g,ja (ag C) t=g:=⟨_,rfl⟩;rw[i]at d⊢;have U:C=[]->(0,5)=g:=λk=>by rw[<-i,xI k];rfl
 show ay KGe 5 _ _ _ _ _
 conv=>whnf
 refine ah.di (λz=>absurd (show(0:Int)<(S.sz:Int) by omega) z) (λ_=>?_)
 conv=>whnf
 refine ah.dec (λz=>?_) (λz=>?_)
 focus
  have m:C=[]:=by
   have z:((pts C).length:Int)=0:=z;exact q0c (by omega)
  have e:=U m
  conv=>whnf
  exact oc _ rfl (A (congrArg (λq:Int×Int=>AV.si .i64 q.1) e) (congrArg (λq:Int×Int=>AV.si .i64 q.2) e)) (mt _ _) rfl rfl rfl
 have m:C≠[]:=λe=>z (by
  show((pts C).length:Int)=0;rw[e];rfl)
 have c:=(d m).1;have j:=(d m).2 c;have l:h<(pts C).length:=by omega
 have r:cF C[h].2:=f.dR _ (q0i c)
 conv=>whnf
 refine⟨?_,?_,trivial⟩
 all_goals
  conv=>whnf
  refine⟨0,1,2,S,C,_,rfl,⟨⟨by decide,by decide,by decide⟩,⟨by decide,by decide,by decide⟩,rfl,rfl,rfl⟩,⟨_,t,h,rfl,rfl,G,p,rfl⟩,?_⟩
  conv=>whnf
  refine Idx.mk h rfl l ?_
  conv=>whnf
  refine au (dy c (show 0+h*1=h by omega)) ?_
  conv=>whnf
  refine⟨2,S.sz,C.take h,C.drop (h+1),C,C[h].1,C[h].2,t,rfl,rfl,jF c rfl (by decide) (by decide) rfl,by omega,r,jt c,?_⟩
  conv=>whnf
  exact oc _ rfl (A (congrArg (λq:Int×Int=>AV.si .i64 q.1) j) (congrArg (λq:Int×Int=>AV.si .i64 q.2) j)) (mt _ _) rfl rfl rfl
theorem T1:ai 22 (kl Wv):=jS (ax T0 5 _) (by kernel_rfl) λS C f v ⟨y,t,a,b,c,d,e⟩=>by
 subst a e;exact⟨[.si .i64 t],λg h=>Ia b,λ_=>rfl,⟨λ_=>rfl,rfl⟩,NM S C t c d⟩
def sQ(L:Smp):AV:= .tup [.agg [.si .i64 (tAt L (L.length-1)),.si .i64 (vAt L (L.length-1))],.sb (decide ((0:Int)<(L.length:Int)))]
theorem Ko{C:Ck5}(a:∀c∈C,c.2≠[])(h:0<C.length):FLv ((C[C.length-1]'(by omega)).2.length-1) (C[C.length-1]'(by omega)).2=sQ (ag C):=by
 have b:0<(C[C.length-1]'(by omega)).2.length:=q3j.2 (a _ (q0i _))
 have e:ag C=ag (C.take (C.length-1))++(C[C.length-1]'(by omega)).2:=by
  have:=zS (C:=C) (i:=C.length-1) (by omega);rw[show C.length-1+1=C.length by omega,q0k]at this;exact this
 have k:=ub (A:=ag (C.take (C.length-1))) (M:=(C[C.length-1]'(by omega)).2) ((C[C.length-1]'(by omega)).2.length-1);unfold FLv sQ;rw[e,Z5,show(ag (C.take (C.length-1))).length+(C[C.length-1]'(by omega)).2.length-1=(ag (C.take (C.length-1))).length+((C[C.length-1]'(by omega)).2.length-1) by omega,k.1,k.2,decide_eq_true (show(0:Int)<((C[C.length-1]'(by omega)).2.length:Int) by omega),decide_eq_true (by omega)]
def QE:DT:=[(3,[(some 1000000,[]),(none,[0,1,2,3,4,5,6,7,8,9,10,11,12,13,14,15,16])])]
def T3:FuncId->EP:=bg 18 QE (aq 60 (rm λL=>L.length-1) evP)
theorem QF:aW T3:=aw (ae az HV) (by kernel_rfl) (by kernel_rfl)
def Ww(S:Sr)(C:Ck5)(a:List AV)(v:AV):Prop:=a=[]/\Gt S C/\(ag C).length<=90000/\v=sQ (ag C)
theorem Kq(L:Smp):∀φ ψ w,VR φ (sQ L) w->VR ψ (sQ L) w:=λφ ψ w h=>by
 obtain⟨cs,rfl,a⟩:=h.eM;obtain⟨k,b,c,d,e⟩:=a.cons_inv;obtain⟨l,f,g,i,j⟩:=e.cons_inv;have:=j.aU;subst this;exact .tup (by rw[c,g];exact .cons (iU rfl d) (.cons (iU rfl i) .nil))
theorem Kr(S:Sr)(C:Ck5)(i:Gt S C)(x:(ag C).length<=90000):fC (ay T3 5 18) [.ptr 0 0] (mkH (bF (iy S (pts C) C) 0)) 3 (RoP (λu=>u=sQ (ag C)) S (pts C) C):=by
 have q:=i.lo;have o:=i.few;have r:(pts C).length=C.length:=ao C;have d:=Ko i.all;obtain⟨f,c⟩:∃f,sQ (ag C)=f:=⟨_,rfl⟩
 have s:C=[]->VTo (.tup [.agg [.int .i64 0,.int .i64 0],.bool false]) f:=λk=>by
  rw[<-c,xI k];exact VTo.No rfl rfl rfl
 have b:∀p t w,VR p f w->VR t f w:=c▸Kq _;rw[c]at d⊢;have v:0<C.length->IntKind.i64.wrap (((pts C).length:Int)-1)=((C.length-1:Nat):Int):=λ_=>by rw[aj (by omega) (by omega)];omega
 show ay T3 5 _ _ _ _ _
 conv=>whnf
 refine ah.di (λz=>absurd (show(0:Int)<(S.sz:Int) by omega) z) (λ_=>?_)
 conv=>whnf
 refine ah.dec (λz=>?_) (λz=>?_)
 focus
  have j:C=[]:=by
   have z:((pts C).length:Int)=0:=z;exact q0c (by omega)
  have e:=s j
  conv=>whnf
  exact oc _ rfl e b rfl rfl rfl
 have j:0<C.length:=by
  have z:¬((pts C).length:Int)=0:=z;omega
 have a:C.length-1<C.length:=by omega
 have g:C.length-1<(pts C).length:=by omega
 have l:cF C[C.length-1].2:=i.dR _ (q0i a);have m:=v j;have n:=d j
 conv=>whnf
 refine⟨?_,trivial⟩
 conv=>whnf
 refine Idx.mk (C.length-1) m g ?_
 conv=>whnf
 refine au (dy a (show 0+(C.length-1)*1=C.length-1 by omega)) ?_
 conv=>whnf
 refine⟨2,S.sz,C.take (C.length-1),C.drop (C.length-1+1),C,C[C.length-1].1,C[C.length-1].2,rfl,jF a rfl (by decide) (by decide) rfl,by omega,l,jt a,?_⟩
 conv=>whnf
 exact oc _ rfl (λp w h=>by rw[<-n];exact h) b rfl rfl rfl
theorem QG:ai 18 (kl Ww):=jS (ax QF 5 _) (by kernel_rfl) λS C e v ⟨a,b,c,d⟩=>by
 subst a d;exact⟨[],λf g h=>h,λ_=>rfl,⟨λ_=>rfl,rfl⟩,Kr S C b c⟩
def BD(args:List AV)(H:AH)(n:Nat)(κ:PK):Prop:=match args with
 | [x,y,z]=>∃(r k q:Nat) (S:Sr) (C:Ck5) (t v p:Int),x= .ptr r 0/\nJ y t v/\mk z= .si .i64 p/\fc H n r k q S (pts C) C/\Gd S C/\(ag C).length<=80000/\(0<=t/\t<1099511627776)/\aP v/\∀a e,F7 S C a t v p e->κ (.si .i64 e) (gx H n r k q S (pts a) a) (n+1)
 |_=>False
theorem T4:ai 130 BD:=λargs H n T b U d V W K f a h=>by
 unfold BD at b;split at b
 ·obtain⟨X,i,j,l,m⟩:=a.cons_inv;obtain⟨Y,o,s,w,x⟩:=m.cons_inv;obtain⟨Z,y,z,A,B⟩:=x.cons_inv;obtain⟨r,k,q,S,C,t,v,p,rfl,D,E,F,G,I,J,L,b⟩:=b;refine gO (ax TS 5 _) (by kernel_rfl) (NB S C t v p G I J L) (λ_=>rfl) f F (by rw[j,s,z];exact .cons l (.cons (D.open w _) (.cons (aX rfl (E▸A.mk)) B))) h (λu M N c ⟨e,g,_⟩=>by subst g;exact⟨λ_=>rfl,rfl⟩) λu M N c ⟨e,O,P,Q,R⟩=>?_
  subst O P Q;exact b c e R
 ·exact b.elim
def vB(args:List AV)(H:AH)(n:Nat)(κ:PK):Prop:=match args with
 | [x,y,z]=>∃(r k q:Nat) (S:Sr) (C:Ck5) (a b:Int),x= .ptr r 0/\mk y= .si .i64 a/\mk z= .si .i64 b/\fc H n r k q S (pts C) C/\ph S C/\C.length+ex5 C<=100000/\(ag C).length<=100000/\∀c,ag c=aR (ag C) a b->Gt S c->Wh S.sz c.length c->κ (.si .i64 ((dlN a b C:Nat):Int)) (gx H n r k q S (pts c) c) (n+1)
 |_=>False
theorem NN:ai 100 vB:=λargs H n R d T i U V K j c l=>by
 unfold vB at d;split at d
 ·obtain⟨W,m,o,p,s⟩:=c.cons_inv;obtain⟨X,t,v,w,x⟩:=s.cons_inv;obtain⟨Y,y,z,A,B⟩:=x.cons_inv;obtain⟨r,k,q,S,C,a,b,rfl,D,E,F,e,G,f,d⟩:=d;refine gO (ax TY 5 _) (by kernel_rfl) (Qy S C a b e G f) (λ_=>rfl) j F (by rw[o,v,z];exact .cons p (.cons (aX rfl (D▸w.mk)) (.cons (aX rfl (E▸A.mk)) B))) l (λu I J h ⟨g,_⟩=>by subst g;exact⟨λ_=>rfl,rfl⟩) λu I J h ⟨L,M,N,O,P,Q⟩=>?_
  subst L M N;exact d h O P Q
 ·exact d.elim
structure mQ(S:Sr):Prop where
 ret:0<=S.ret/\S.ret<=1099511627776
 pol:1<=S.pol/\S.pol<=6
 mx: -1<=S.mx/\S.mx<1099511627776
 fl:0<=S.fl/\S.fl<=1099511627776
theorem mQ.line{S:Sr}(h:mQ S):0<=df S/\df S<=1099511627776:=by
 have a:=h.ret;have b:=h.mx;have c:=h.fl;unfold df;split<;>omega
structure jT(S:Sr)(C:Ck5):Prop where
 gt:Gt S C
 wh:Wh S.sz C.length C
 num:mQ S
 few:(ag C).length<=80000
theorem Gd.pf{S:Sr}{C:Ck5}(h:Gd S C):ph S C:=⟨h.lo,h.hi,h.up,h.dR⟩
theorem ph.fl{S:Sr}{C:Ck5}(h:ph S C)(a b c d:Int):ph {S with ret:=a,pol:=b,mx:=c,fl:=d} C:=⟨h.lo,h.hi,h.up,h.dR⟩
def NO(S:Sr)(L:Smp):Sr×Smp:=({S with fl:=df S},aR L 0 (df S-1))
def TmP(a:Sr)(b:Ck5):AV->Sr->Ps->Ck5->Prop:=λu S V C=>u= .tup []/\V=pts C/\(S,ag C)=NO a (ag b)/\Gt S C/\Wh S.sz C.length C
def T5:FuncId->EP:=bg 131 [] (cV 37 (kl NL) (aq 100 vB evP))
theorem QH:aW T5:=aw (ba (ae az NN) St (Ge _)) (by kernel_rfl) (by kernel_rfl)
theorem NP(S:Sr)(C:Ck5)(d:ph S C)(hn:mQ S)(e:C.length+ex5 C<=100000)(a:(ag C).length<=100000):fC (ay T5 5 131) [.ptr 0 0] (mkH (bF (iy S (pts C) C) 0)) 3 (SP (TmP S C)):=by
 have b:=d.lo;have f:=hn.line;have g:IntKind.i64.wrap (df S-1)=df S-1:=aj (by omega) (by omega);have c:=d.fl S.ret S.pol S.mx (df S);show ay T5 5 _ _ _ _ _
 conv=>whnf
 refine⟨0,1,2,S,C,_,rfl,⟨⟨by decide,by decide,by decide⟩,⟨by decide,by decide,by decide⟩,rfl,rfl,rfl⟩,⟨rfl,b,hn.ret,hn.mx,rfl⟩,?_⟩
 conv=>whnf
 refine⟨0,1,2,{S with fl:=df S},C,0,df S-1,rfl,rfl,congrArg (AV.si .i64) g,⟨⟨by decide,by decide,by decide⟩,⟨by decide,by decide,by decide⟩,rfl,rfl,rfl⟩,c,e,a,λl i j k=>?_⟩
 conv=>whnf
 exact fR (TmP S C) ⟨rfl,rfl,(by rw[i];rfl),j,k⟩ (VTo.mk5 rfl) (λm n w h=>iU rfl h) 3 ⟨by decide,by decide⟩ rfl rfl rfl rfl rfl rfl (ab.rw (Z0 rfl) rfl) rfl (aC _) rfl
def sR(args:List AV)(H:AH)(n:Nat)(κ:PK):Prop:=match args with
 | [x]=>∃(r k q:Nat) (S:Sr) (C:Ck5),x= .ptr r 0/\fc H n r k q S (pts C) C/\ph S C/\mQ S/\C.length+ex5 C<=100000/\(ag C).length<=100000/\∀a,ag a=aR (ag C) 0 (df S-1)->Gt {S with fl:=df S} a->Wh S.sz a.length a->κ (.tup []) (gx H n r k q {S with fl:=df S} (pts a) a) (n+1)
 |_=>False
theorem Ib:ai 131 sR:=λargs H n B b D i E F K j a l=>by
 unfold sR at b;split at b
 ·obtain⟨G,m,I,J,L⟩:=a.cons_inv;obtain⟨r,k,q,S,C,rfl,o,c,p,s,d,b⟩:=b;refine gO (ax QH 5 _) (by kernel_rfl) (NP S C c p s d) (λ_=>rfl) j o a l (λu f t e ⟨g,_⟩=>by subst g;exact⟨λ_=>rfl,rfl⟩) λu f t e ⟨v,w,h,x,y⟩=>?_
  have z:f={S with fl:=df S}:=congrArg Prod.fst h;have A:ag e=aR (ag C) 0 (df S-1):=congrArg Prod.snd h;subst v w z;exact b e A x y
 ·exact b.elim
def fg(S:Sr)(L:Smp)(t v p:Int):(Sr×Smp)×Int:=
 if t<0∨1099511627776<=t∨(p≠0/\¬(1<=p/\p<=6))then((S,L),1)
 else if t<df S then((S,L),7)
 else if(eE L t v (if p=0 then S.pol else p)).2=0 then(NO {S with mx:=max S.mx t} (eE L t v (if p=0 then S.pol else p)).1,0)
 else((S,L),(eE L t v (if p=0 then S.pol else p)).2)
theorem mQ.mxs{S:Sr}(h:mQ S){t:Int}(a:0<=t/\t<1099511627776):mQ {S with mx:=max S.mx t}:=⟨h.ret,h.pol,by have:=h.mx;show-1<=max S.mx t/\max S.mx t<1099511627776;omega,h.fl⟩
theorem mQ.tr{S:Sr}(h:mQ S):mQ {S with fl:=df S}:=⟨h.ret,h.pol,h.mx,h.line⟩
def AdP(a:Sr)(b:Ck5)(t v p:Int):AV->Sr->Ps->Ck5->Prop:=λu S V C=>∃e:Int,u= .si .i64 e/\V=pts C/\((S,ag C),e)=fg a (ag b) t v p/\Gt S C/\Wh S.sz C.length C/\mQ S
def T6:DT:=[(5,[(some 0,[4]),(some 0,[31]),(some 0,[0]),(none,[33]),(some 0,[32,34]),(some 0,[35])]),
 (11,[(some 0,[0]),(some 0,[0]),(some 0,[50]),(some 0,[51]),(some 0,[52]),(some 0,[4]),(some 0,[54]),(some 0,[53,55]),(some 0,[49]),(some 0,[57]),(none,[58,56])])]
def T7:FuncId->EP:=bg 72 T6 (cV 37 (kl NL) (aq 130 BD (aq 131 sR (aq 132 vA evP))))
theorem QI:aW T7:=aw (ba (ae (ae (ae az NG) Ib) T4) St (Ge _)) (by kernel_rfl) (by kernel_rfl)
theorem NQ(S:Sr)(C:Ck5)(t v p:Int)(M:jT S C)(hv:aP v)(hf:(ag C).length<=40000):fC (ay T7 5 72) [.ptr 0 0,.agg [.si .i64 t,.si .i64 v],.si .i64 p] (mkH (bF (iy S (pts C) C) 0)) 3 (SP (AdP S C t v p)):=by
 have w:=M.gt;have i:=M.num;have x:=M.wh;have y:=w.lo;obtain⟨q,G⟩:∃q,(if p=0 then S.pol else p)=q:=⟨_,rfl⟩;have H:t<0∨1099511627776<=t∨(p≠0/\¬(1<=p/\p<=6))->AdP S C t v p (.si .i64 1) S (pts C) C:=λk=>⟨1,rfl,rfl,by unfold fg;rw[if_pos k],w,x,i⟩
 have V:¬(t<0∨1099511627776<=t∨(p≠0/\¬(1<=p/\p<=6)))->t<df S->AdP S C t v p (.si .i64 7) S (pts C) C:=λj I=>⟨7,rfl,rfl,by unfold fg;rw[if_neg j,if_pos I],w,x,i⟩
 have A:¬(t<0∨1099511627776<=t∨(p≠0/\¬(1<=p/\p<=6)))->¬t<df S->∀b e,F7 S C b t v q e->b.length<=100000/\b.length+ex5 b<=100000/\(ag b).length<=100000/\(e=0->∀l a,ag l=aR (ag b) 0 (df {S with mx:=max S.mx t}-1)->ag a=ag l->Gt {S with mx:=max S.mx t,fl:=df {S with mx:=max S.mx t}} a->Wh S.sz a.length a->AdP S C t v p (.si .i64 e) {S with mx:=max S.mx t,fl:=df {S with mx:=max S.mx t}} (pts a) a)/\(e≠0->∀a,ag a=ag b->Gt S a->Wh S.sz a.length a->AdP S C t v p (.si .i64 e) S (pts a) a):=λj I b e J=>by
  have N:=(xC (ag C) t v q).1;rw[<-J.fl]at N;have W:=F6 J.gd.ne;have X:=BB b;have d:=J.err;have B:=J.fl;refine⟨by omega,by omega,by omega,λK l a n f g h=>?_,λK a f g h=>?_⟩
  ·refine⟨e,rfl,rfl,?_,g,h,(i.mxs (t:=t) ⟨by omega,by omega⟩).tr⟩;unfold fg;rw[if_neg j,if_neg I,G,<-d,if_pos K,f,n,B,K];rfl
  ·refine⟨e,rfl,rfl,?_,g,h,i⟩;have D:(eE (ag C) t v q).2≠0:=by rw[<-d];exact K
   unfold fg;rw[if_neg j,if_neg I,G,if_neg D,f,B,DP D,<-d]
 show ay T7 5 _ _ _ _ _
 conv=>whnf
 refine ah.di (λz=>absurd (show(0:Int)<(S.sz:Int) by omega) z) (λ_=>?_)
 conv=>whnf
 refine ah.dec (λL=>?_) (λL=>?_)
 focus
  have r:=H (.inl L)
  conv=>whnf
  exact fR (AdP S C t v p) r (VTo.mk5 rfl) VR.eH 1 ⟨by decide,by decide⟩ rfl rfl rfl rfl rfl rfl (ab.rw (Z0 rfl) rfl) rfl (aC _) rfl
 conv=>whnf
 refine ah.dec (λz2=>?_) (λz2=>?_)
 focus
  have r:=H (.inr (.inl z2))
  conv=>whnf
  exact fR (AdP S C t v p) r (VTo.mk5 rfl) VR.eH 1 ⟨by decide,by decide⟩ rfl rfl rfl rfl rfl rfl (ab.rw (Z0 rfl) rfl) rfl (aC _) rfl
 conv=>whnf
 refine ah.di (λm=>?_) (λm=>?_)
 focus
  conv=>whnf
  refine ah.dec (λO=>?_) (λO=>?_)
  focus
   conv=>whnf
   refine ah.di (λP=>?_) (λP=>?_)
   focus
    have r:=H (.inr (.inr ⟨m,λk=>P k.2⟩))
    conv=>whnf
    exact fR (AdP S C t v p) r (VTo.mk5 rfl) VR.eH 1 ⟨by decide,by decide⟩ rfl rfl rfl rfl rfl rfl (ab.rw (Z0 rfl) rfl) rfl (aC _) rfl
   have o:p=q:=by rw[<-G,if_neg m]
   have j:¬(t<0∨1099511627776<=t∨(p≠0/\¬(1<=p/\p<=6))):=λk=>by
    rcases k with k|k|k
    ·exact L k
    ·exact z2 k
    ·exact k.2 ⟨O,P⟩
   conv=>whnf
   refine⟨0,1,2,S,C,_,rfl,⟨⟨by decide,by decide,by decide⟩,⟨by decide,by decide,by decide⟩,rfl,rfl,rfl⟩,⟨rfl,y,i.ret,i.mx,rfl⟩,?_⟩
   conv=>whnf
   refine ah.dec (λs=>?_) (λs=>?_)
   focus
    have r:=V j s
    conv=>whnf
    exact fR (AdP S C t v p) r (VTo.mk5 rfl) VR.eH 1 ⟨by decide,by decide⟩ rfl rfl rfl rfl rfl rfl (ab.rw (Z0 rfl) rfl) rfl (aC _) rfl
   have E:0<=t/\t<1099511627776:=⟨by omega,by omega⟩;have okB:=A j s
   conv=>whnf
   refine ah.dec (λQ=>absurd Q m) (λ_=>?_)
   conv=>whnf
   refine⟨0,1,2,S,C,t,v,q,rfl,⟨_,_,rfl,rfl,rfl⟩,congrArg (AV.si .i64) o,⟨⟨by decide,by decide,by decide⟩,⟨by decide,by decide,by decide⟩,rfl,rfl,rfl⟩,w.gd,by omega,E,hv,λb e c=>?_⟩;have ok:=okB b e c;have pf:=c.gd.pf;have R:=c.gd.pre
   conv=>whnf
   refine ah.dec (λu=>?_) (λu=>?_)
   focus
    conv=>whnf
    refine⟨0,4,2,{S with mx:=max S.mx t},b,rfl,⟨⟨by decide,by decide,by decide⟩,⟨by decide,by decide,by decide⟩,rfl,rfl,rfl⟩,pf.fl S.ret S.pol (max S.mx t) S.fl,i.mxs E,ok.2.1,ok.2.2.1,λl n F Y=>?_⟩;have T:=F.toPre5
    conv=>whnf
    refine⟨0,5,2,{S with mx:=max S.mx t,fl:=df {S with mx:=max S.mx t}},l,rfl,⟨⟨by decide,by decide,by decide⟩,⟨by decide,by decide,by decide⟩,rfl,rfl,rfl⟩,T,by have U:=xB F.all;have Z:=ok.2.2.1;have h3:(aR (ag b) 0 (df {S with mx:=max S.mx t}-1)).length<=(ag b).length:=q1e _ _;rw[n]at U;omega,λa f g h=>?_⟩;have r:=ok.2.2.2.1 u l a n f g h
    conv=>whnf
    exact fR (AdP S C t v p) r (VTo.mk5 rfl) VR.eH 6 ⟨by decide,by decide⟩ rfl rfl rfl rfl rfl rfl (ab.rw (Z0 rfl) rfl) rfl (aC _) rfl
   conv=>whnf
   refine⟨0,4,2,S,b,rfl,⟨⟨by decide,by decide,by decide⟩,⟨by decide,by decide,by decide⟩,rfl,rfl,rfl⟩,R,ok.1,λa f g h=>?_⟩;have r:=ok.2.2.2.2 u a f g h
   conv=>whnf
   exact fR (AdP S C t v p) r (VTo.mk5 rfl) VR.eH 5 ⟨by decide,by decide⟩ rfl rfl rfl rfl rfl rfl (ab.rw (Z0 rfl) rfl) rfl (aC _) rfl
  have r:=H (.inr (.inr ⟨m,λk=>O k.1⟩))
  conv=>whnf
  exact fR (AdP S C t v p) r (VTo.mk5 rfl) VR.eH 1 ⟨by decide,by decide⟩ rfl rfl rfl rfl rfl rfl (ab.rw (Z0 rfl) rfl) rfl (aC _) rfl
 have o:S.pol=q:=by rw[<-G,if_pos m]
 have j:¬(t<0∨1099511627776<=t∨(p≠0/\¬(1<=p/\p<=6))):=λk=>by
  rcases k with k|k|k
  ·exact L k
  ·exact z2 k
  ·exact k.1 m
 conv=>whnf
 refine⟨0,1,2,S,C,_,rfl,⟨⟨by decide,by decide,by decide⟩,⟨by decide,by decide,by decide⟩,rfl,rfl,rfl⟩,⟨rfl,y,i.ret,i.mx,rfl⟩,?_⟩
 conv=>whnf
 refine ah.dec (λs=>?_) (λs=>?_)
 focus
  have r:=V j s
  conv=>whnf
  exact fR (AdP S C t v p) r (VTo.mk5 rfl) VR.eH 1 ⟨by decide,by decide⟩ rfl rfl rfl rfl rfl rfl (ab.rw (Z0 rfl) rfl) rfl (aC _) rfl
 have E:0<=t/\t<1099511627776:=⟨by omega,by omega⟩;have okB:=A j s
 conv=>whnf
 refine ah.dec (λ_=>?_) (λQ=>absurd m Q)
 conv=>whnf
 refine⟨0,1,2,S,C,t,v,q,rfl,⟨_,_,rfl,rfl,rfl⟩,congrArg (AV.si .i64) o,⟨⟨by decide,by decide,by decide⟩,⟨by decide,by decide,by decide⟩,rfl,rfl,rfl⟩,w.gd,by omega,E,hv,λb e c=>?_⟩;have ok:=okB b e c;have pf:=c.gd.pf;have R:=c.gd.pre
 conv=>whnf
 refine ah.dec (λu=>?_) (λu=>?_)
 focus
  conv=>whnf
  refine⟨0,4,2,{S with mx:=max S.mx t},b,rfl,⟨⟨by decide,by decide,by decide⟩,⟨by decide,by decide,by decide⟩,rfl,rfl,rfl⟩,pf.fl S.ret S.pol (max S.mx t) S.fl,i.mxs E,ok.2.1,ok.2.2.1,λl n F Y=>?_⟩;have T:=F.toPre5
  conv=>whnf
  refine⟨0,5,2,{S with mx:=max S.mx t,fl:=df {S with mx:=max S.mx t}},l,rfl,⟨⟨by decide,by decide,by decide⟩,⟨by decide,by decide,by decide⟩,rfl,rfl,rfl⟩,T,by have U:=xB F.all;have Z:=ok.2.2.1;have h3:(aR (ag b) 0 (df {S with mx:=max S.mx t}-1)).length<=(ag b).length:=q1e _ _;rw[n]at U;omega,λa f g h=>?_⟩;have r:=ok.2.2.2.1 u l a n f g h
  conv=>whnf
  exact fR (AdP S C t v p) r (VTo.mk5 rfl) VR.eH 6 ⟨by decide,by decide⟩ rfl rfl rfl rfl rfl rfl (ab.rw (Z0 rfl) rfl) rfl (aC _) rfl
 conv=>whnf
 refine⟨0,4,2,S,b,rfl,⟨⟨by decide,by decide,by decide⟩,⟨by decide,by decide,by decide⟩,rfl,rfl,rfl⟩,R,ok.1,λa f g h=>?_⟩;have r:=ok.2.2.2.2 u a f g h
 conv=>whnf
 exact fR (AdP S C t v p) r (VTo.mk5 rfl) VR.eH 5 ⟨by decide,by decide⟩ rfl rfl rfl rfl rfl rfl (ab.rw (Z0 rfl) rfl) rfl (aC _) rfl
def BE(args:List AV)(H:AH)(n:Nat)(κ:PK):Prop:=match args with
 | [x,y,z]=>∃(r k q:Nat) (S:Sr) (C:Ck5) (t v p:Int),x= .ptr r 0/\nJ y t v/\mk z= .si .i64 p/\fc H n r k q S (pts C) C/\jT S C/\aP v/\(ag C).length<=40000/\∀a,ag a=(fg S (ag C) t v p).1.2->Gt (fg S (ag C) t v p).1.1 a->Wh (fg S (ag C) t v p).1.1.sz a.length a->mQ (fg S (ag C) t v p).1.1->κ (.si .i64 (fg S (ag C) t v p).2) (gx H n r k q (fg S (ag C) t v p).1.1 (pts a) a) (n+1)
 |_=>False
theorem T8:ai 72 BE:=λargs H n Y b Z m hp vs K o a s=>by
 unfold BE at b;split at b
 ·obtain⟨w1,w,y,z,A⟩:=a.cons_inv;obtain⟨w2,B,D,E,F⟩:=A.cons_inv;obtain⟨w3,G,I,J,L⟩:=F.cons_inv;obtain⟨r,k,q,S,C,t,v,p,rfl,M,N,O,P,Q,R,b⟩:=b;refine gO (ax QI 5 _) (by kernel_rfl) (NQ S C t v p P Q R) (λ_=>rfl) o O (by rw[y,D,I];exact .cons z (.cons (M.open E _) (.cons (aX rfl (N▸J.mk)) L))) s (λu f T c ⟨e,g,_⟩=>by subst g;exact⟨λ_=>rfl,rfl⟩) λu f T c ⟨e,U,V,d,h,i,j⟩=>?_
  have l:f=(fg S (ag C) t v p).1.1:=congrArg (λx=>x.1.1) d;have W:ag c=(fg S (ag C) t v p).1.2:=congrArg (λx=>x.1.2) d;have X:e=(fg S (ag C) t v p).2:=congrArg (λx=>x.2) d;subst U V X;rw[l]at h i j;rw[l];exact b c W h i j
 ·exact b.elim
def jU(S:Sr)(L:Smp)(ret p:Int):(Sr×Smp)×Int:=if(0<=ret/\ret<=1099511627776)/\1<=p/\p<=6 then(NO {S with ret:=ret,pol:=p} L,0)else((S,L),1)
def AlP(a:Sr)(b:Ck5)(ret p:Int):AV->Sr->Ps->Ck5->Prop:=λu S V C=>∃e:Int,u= .si .i64 e/\V=pts C/\((S,ag C),e)=jU a (ag b) ret p/\Gt S C/\Wh S.sz C.length C/\mQ S
def T9:FuncId->EP:=bg 108 [] (aq 131 sR evP)
theorem QJ:aW T9:=aw (ae az Ib) (by kernel_rfl) (by kernel_rfl)
theorem Gf(S:Sr)(C:Ck5)(ret p:Int)(e:jT S C)(s:(ag C).length<=40000):fC (ay T9 5 108) [.ptr 0 0,.si .i64 ret,.si .i64 p] (mkH (bF (iy S (pts C) C) 0)) 3 (SP (AlP S C ret p)):=by
 have c:=e.gt;have f:=e.num;have g:=e.wh;have q:=c.lo;have t:=c.few;have u:=BB C;have pf:=c.gd.pf;have d:¬((0<=ret/\ret<=1099511627776)/\1<=p/\p<=6)->AlP S C ret p (.si .i64 1) S (pts C) C:=λk=>⟨1,rfl,rfl,by unfold jU;rw[if_neg k],c,g,f⟩
 have h:((0<=ret/\ret<=1099511627776)/\1<=p/\p<=6)->mQ {S with ret:=ret,pol:=p}/\∀a,ag a=aR (ag C) 0 (df {S with ret:=ret,pol:=p}-1)->Gt {S with ret:=ret,pol:=p,fl:=df {S with ret:=ret,pol:=p}} a->Wh S.sz a.length a->AlP S C ret p (.si .i64 0) {S with ret:=ret,pol:=p,fl:=df {S with ret:=ret,pol:=p}} (pts a) a:=λk=>by
  have b:mQ {S with ret:=ret,pol:=p}:=⟨k.1,k.2,f.mx,f.fl⟩;refine⟨b,λa i j l=>⟨0,rfl,rfl,?_,j,l,b.tr⟩⟩;unfold jU;rw[if_pos k,i];rfl
 show ay T9 5 _ _ _ _ _
 conv=>whnf
 refine ah.di (λz=>absurd (show(0:Int)<(S.sz:Int) by omega) z) (λ_=>?_)
 conv=>whnf
 refine ah.dec (λm=>?_) (λm=>?_)
 focus
  conv=>whnf
  refine ah.dec (λz2=>?_) (λz2=>?_)
  focus
   conv=>whnf
   refine ah.dec (λn=>?_) (λn=>?_)
   focus
    conv=>whnf
    refine ah.di (λo=>?_) (λo=>?_)
    focus
     have r:=d (λk=>o k.2.2)
     conv=>whnf
     exact fR (AlP S C ret p) r (VTo.mk5 rfl) VR.eH 1 ⟨by decide,by decide⟩ rfl rfl rfl rfl rfl rfl (ab.rw (Z0 rfl) rfl) rfl (aC _) rfl
    have ok:=h ⟨⟨m,z2⟩,n,o⟩
    conv=>whnf
    refine⟨0,1,2,{S with ret:=ret,pol:=p},C,rfl,⟨⟨by decide,by decide,by decide⟩,⟨by decide,by decide,by decide⟩,rfl,rfl,rfl⟩,pf.fl ret p S.mx S.fl,ok.1,by omega,by omega,λa i j l=>?_⟩;have r:=ok.2 a i j l
    conv=>whnf
    exact fR (AlP S C ret p) r (VTo.mk5 rfl) VR.eH 3 ⟨by decide,by decide⟩ rfl rfl rfl rfl rfl rfl (ab.rw (Z0 rfl) rfl) rfl (aC _) rfl
   have r:=d (λk=>n k.2.1)
   conv=>whnf
   exact fR (AlP S C ret p) r (VTo.mk5 rfl) VR.eH 1 ⟨by decide,by decide⟩ rfl rfl rfl rfl rfl rfl (ab.rw (Z0 rfl) rfl) rfl (aC _) rfl
  have r:=d (λk=>z2 k.1.2)
  conv=>whnf
  exact fR (AlP S C ret p) r (VTo.mk5 rfl) VR.eH 1 ⟨by decide,by decide⟩ rfl rfl rfl rfl rfl rfl (ab.rw (Z0 rfl) rfl) rfl (aC _) rfl
 have r:=d (λk=>m k.1.1)
 conv=>whnf
 exact fR (AlP S C ret p) r (VTo.mk5 rfl) VR.eH 1 ⟨by decide,by decide⟩ rfl rfl rfl rfl rfl rfl (ab.rw (Z0 rfl) rfl) rfl (aC _) rfl
def BF(args:List AV)(H:AH)(n:Nat)(κ:PK):Prop:=match args with
 | [x,y,z]=>∃(r k q:Nat) (S:Sr) (C:Ck5) (ret p:Int),x= .ptr r 0/\mk y= .si .i64 ret/\mk z= .si .i64 p/\fc H n r k q S (pts C) C/\jT S C/\(ag C).length<=40000/\∀a,ag a=(jU S (ag C) ret p).1.2->Gt (jU S (ag C) ret p).1.1 a->Wh (jU S (ag C) ret p).1.1.sz a.length a->mQ (jU S (ag C) ret p).1.1->κ (.si .i64 (jU S (ag C) ret p).2) (gx H n r k q (jU S (ag C) ret p).1.1 (pts a) a) (n+1)
 |_=>False
theorem Ua:ai 108 BF:=λargs H n V b W m X Y K o a s=>by
 unfold BF at b;split at b
 ·obtain⟨Z,t,v,w,y⟩:=a.cons_inv;obtain⟨w2,z,A,B,D⟩:=y.cons_inv;obtain⟨w3,E,F,G,I⟩:=D.cons_inv;obtain⟨r,k,q,S,C,ret,p,rfl,J,L,M,N,O,b⟩:=b;refine gO (ax QJ 5 _) (by kernel_rfl) (Gf S C ret p N O) (λ_=>rfl) o M (by rw[v,A,F];exact .cons w (.cons (aX rfl (J▸B.mk)) (.cons (aX rfl (L▸G.mk)) I))) s (λu f P c ⟨e,g,_⟩=>by subst g;exact⟨λ_=>rfl,rfl⟩) λu f P c ⟨e,Q,R,d,h,i,j⟩=>?_
  have l:f=(jU S (ag C) ret p).1.1:=congrArg (λx=>x.1.1) d;have T:ag c=(jU S (ag C) ret p).1.2:=congrArg (λx=>x.1.2) d;have U:e=(jU S (ag C) ret p).2:=congrArg (λx=>x.2) d;subst Q R U;rw[l]at h i j;rw[l];exact b c T h i j
 ·exact b.elim
def qj(sz ret p:Int):Option Sr:=if(128<=sz/\sz<=4096)/\(0<=ret/\ret<=1099511627776)/\1<=p/\p<=6 then some ⟨sz.toNat,ret,p,-1,0⟩else none
def xJ (H:AH) (n:Nat) (S:Sr):AH:=((H.set (some (.cells (c6 S (n+1) 0) true)) aa n).set (some (.cells [] true)) aa (n+1)).set (some (dB S [])) aa (n+2)
def BG(args:List AV)(H:AH)(n:Nat)(κ:PK):Prop:=match args with
 | [x,y,z]=>∃(sz ret p:Int),mk x= .si .i64 sz/\mk y= .si .i64 ret/\mk z= .si .i64 p/\n<900000/\(qj sz ret p=none->κ (.tup [.nil,.int .i64 1]) H n)/\∀S,qj sz ret p=some S->κ (.tup [.ptr n 0,.int .i64 0]) (xJ H n S) (n+3)
 |_=>False
def Wx:FuncId->EP:=bg 104 [] evP
theorem QK:aW Wx:=aw az (by kernel_rfl) (by kernel_rfl)
def NwQ(sz ret p:Int):PK:=λu a b=>(qj sz ret p=none/\u= .tup [.nil,.int .i64 1]/\a=mkH []/\b=0)∨∃S,qj sz ret p=some S/\u= .tup [.ptr 0 0,.int .i64 0]/\a=mkH [(0,.cells [.si .i64 sz,.si .i64 ret,.si .i64 p,.int .i64 (-1),.int .i64 0,.nsl] true)]/\b=1
theorem NR(sz ret p:Int):ay Wx 5 104 [.si .i64 sz,.si .i64 ret,.si .i64 p] (mkH (bF [] 0)) 0 (NwQ sz ret p):=by
 have a:¬((128<=sz/\sz<=4096)/\(0<=ret/\ret<=1099511627776)/\1<=p/\p<=6)->NwQ sz ret p (.tup [.nil,.int .i64 1]) (mkH []) 0:=λk=> .inl ⟨if_neg k,rfl,rfl,rfl⟩
 have f:((128<=sz/\sz<=4096)/\(0<=ret/\ret<=1099511627776)/\1<=p/\p<=6)->NwQ sz ret p (.tup [.ptr 0 0,.int .i64 0]) (mkH [(0,.cells [.si .i64 sz,.si .i64 ret,.si .i64 p,.int .i64 (-1),.int .i64 0,.nsl] true)]) 1:=λk=> .inr ⟨_,if_pos k,rfl,rfl,rfl⟩
 conv=>whnf
 refine ah.dec (λg=>?_) (λg=>?_)
 focus
  have r:=a (λk=>absurd k.1.1 (by omega))
  conv=>whnf
  exact r
 conv=>whnf
 refine ah.dec (λz2=>?_) (λz2=>?_)
 focus
  have r:=a (λk=>absurd k.1.2 (by omega))
  conv=>whnf
  exact r
 conv=>whnf
 refine ah.dec (λb=>?_) (λb=>?_)
 focus
  conv=>whnf
  refine ah.dec (λc=>?_) (λc=>?_)
  focus
   conv=>whnf
   refine ah.dec (λd=>?_) (λd=>?_)
   focus
    conv=>whnf
    refine ah.di (λe=>?_) (λe=>?_)
    focus
     have r:=a (λk=>e k.2.2.2)
     conv=>whnf
     exact r
    have r:=f ⟨⟨by omega,by omega⟩,⟨b,c⟩,d,e⟩
    conv=>whnf
    exact r
   have r:=a (λk=>d k.2.2.1)
   conv=>whnf
   exact r
  have r:=a (λk=>c k.2.1.2)
  conv=>whnf
  exact r
 have r:=a (λk=>b k.2.1.1)
 conv=>whnf
 exact r
theorem D4{A B:AH}{v:Option AO}{n:Nat}(hn:n<1000000)(h:∀x o,A.get x=some o->B.get x=some o):∀x o,(PM.set v aa A n).get x=some o->(PM.set v aa B n).get x=some o:=λx o b=>by
 rcases PM.ak aa A n x o b with⟨rfl,a⟩|⟨c,a⟩
 ·rw[PM.geq hn];exact a
 ·exact PM.gne hn c (h x o a)
theorem Ub:ai 104 BG:=λargs H n J q φ L hp vs K M e D=>by
 unfold BG at q;split at q
 ·obtain⟨w1,N,P,Q,R⟩:=e.cons_inv;obtain⟨w2,T,U,V,W⟩:=R.cons_inv;obtain⟨w3,X,Y,Z,r3⟩:=W.cons_inv;obtain⟨sz,ret,p,d,hy,hz,hn,hs0,w⟩:=q;refine dq (S:=[]) (O:=[]) (args0:=[.si .i64 sz,.si .i64 ret,.si .i64 p]) (κ:=λv z A=>(qj sz ret p=none/\v= .tup [.nil,.int .i64 1]/\z=H/\A=n)∨∃S,qj sz ret p=some S/\v= .tup [.ptr n 0,.int .i64 0]/\z=H.set (some (.cells [.si .i64 sz,.si .i64 ret,.si .i64 p,.int .i64 (-1),.int .i64 0,.nsl] true)) aa n/\A=n+1) (ax QK 5 _) (by kernel_rfl) M ⟨q4p,rfl,λi s o l r=>by simp at l⟩ (by rw[P,U,Y];exact .cons (aX rfl (d▸Q.mk)) (.cons (aX rfl (hy▸V.mk)) (.cons (aX rfl (hz▸Z.mk)) r3))) ?_ (NR sz ret p) λu H' n' B=>?_
  ·intro χ v z A u g m E F B;rcases B with⟨a,f,h,j⟩|⟨S,a,f,h,j⟩
   ·subst f h j;exact D χ _ _ _ u g m E F (hs0 a)
   ·subst f h j
    have hS:(sz=(S.sz:Int)/\ret=S.ret/\p=S.pol)/\S.mx= -1/\S.fl=0:=by
     unfold qj at a;split at a
     ·rename_i k;injection a with a;subst a;exact⟨⟨by show sz=((sz.toNat:Nat):Int);omega,rfl,rfl⟩,rfl,rfl⟩
     ·cases a
    have hb:=PM.geq (v:=some (AO.cells [AV.si .i64 sz,.si .i64 ret,.si .i64 p,.int .i64 (-1),.int .i64 0,.nsl] true)) (t:=H) (n:=n) (by omega);obtain⟨⟨t1,t2,t3⟩,t4,t5⟩:=hS
    have l:=E.MG (l':=c6 S (n+1) 0) hb rfl λi a' b=>by
     match i with
     |0=>simp[c6]at b;subst b;exact⟨_,rfl,λv c=>t1▸c⟩
     |1=>simp[c6]at b;subst b;exact⟨_,rfl,λv c=>t2▸c⟩
     |2=>simp[c6]at b;subst b;exact⟨_,rfl,λv c=>t3▸c⟩
     |3=>simp[c6]at b;subst b;exact⟨_,rfl,λv c=>t4▸c.mk⟩
     |4=>simp[c6]at b;subst b;exact⟨_,rfl,λv c=>t5▸c.mk⟩
     |5=>simp[c6]at b;subst b;exact⟨_,rfl,λv c=>by rw[c.c9];exact .rwn⟩
     |i+6=>simp[c6]at b
    obtain⟨ψ,G,C⟩:=(l.A5 (o:= .cells [] true) rfl).VV
    have I:=C.less (H:=xJ H n S) λx o d=>D4 (by omega) (D4 (by omega) λx o d=>by
     rcases PM.ak aa H n x o d with⟨rfl,r⟩|⟨l,r⟩
     ·rw[PM.geq (by omega)];exact r
     ·exact PM.gne (by omega) l (PM.gne (by omega) l r)) x o d
    exact D ψ _ _ _ u g (m.trans G) I (VR.mono G _ _ F) (w S a)
  ·rcases B with⟨a,f,h,j⟩|⟨S,a,f,h,j⟩
   ·subst f h j;exact⟨0,H,Z6 _,fB.same λi s o C I _=>by simp at C,rfl,.inl ⟨a,rfl,rfl,rfl⟩⟩
   ·subst f h j;refine⟨1,kg [] n H [(0,some (.cells [.si .i64 sz,.si .i64 ret,.si .i64 p,.int .i64 (-1),.int .i64 0,.nsl] true))],Y5 _,fB.put (Y5 _) rfl (λx d o ho=>?_),rfl,.inr ⟨S,a,rfl,rfl,rfl⟩⟩;simp only[Z3,Z4,or_false]at d;subst d;injection ho with ho;subst ho;exact⟨rfl,rfl,rfl⟩
 ·exact q.elim
end Go.Proofs.YtflehenfikoniaaGreat
namespace Go.Proofs.YtflehenfikoniaaGreat
open Go Go.RowKit
section
variable {φ:Ph} {H:AH} {n:Nat} {h0 h g hb h1:Hp} {b:Nat} {S S':Nat->Prop} {Q Q':HP} {σ:AE} {ρ:Env}
theorem HR.qj(d:HR φ H n h0 h)(O:Q.P φ.z S h)(K:∀B,S B->(B<h.n/\h0.f B=none)/\(∀p o' L,H.get p=some o'->o'.own=true->φ p=some L->L.B≠B)/\(∀q,φ.z q->q.B≠B)/\∀p Q',H.get p=some (.sep Q')->¬φ.s p B):
 PLe φ ⟨φ.f,φ.z,φ.y,λx=>if x=n then S else φ.s x⟩/\HR ⟨φ.f,φ.z,φ.y,λx=>if x=n then S else φ.s x⟩ (H.set (some (.sep Q)) aa n) (n+1) h0 h:=by
 have cs:∀x o,(H.set (some (.sep Q)) aa n).get x=some o->(x=n/\o= .sep Q)∨(x≠n/\H.get x=some o):=λx o c=>by
  rcases PM.ak aa H n x o c with⟨h1,j⟩|j
  ·injection j with j;exact .inl ⟨h1,j.symm⟩
  ·exact .inr j
 have r:φ n=none:=by
  cases e:φ n with
  |none=>rfl
  |some q=>exact absurd (d.dom n q e).1 (q3g _)
 let i:Ph:=⟨φ.f,φ.z,φ.y,λx=>if x=n then S else φ.s x⟩
 have own:∀x o q,(H.set (some (.sep Q)) aa n).get x=some o->φ x=some q->H.get x=some o:=λx o q c a=>by
  rcases cs x o c with⟨rfl,_⟩|⟨_,R⟩
  ·rw[r]at a;cases a
  ·exact R
 have sle:SLe φ i:=⟨λ_ _ h=>h,λ_ h=>h⟩;refine⟨⟨λ_ _ h=>h,λ_ h=>h,λ_ h=>h⟩,⟨λx q c=>⟨by have:=(d.dom x q c).1;omega,(d.dom x q c).2⟩,λx o c=>?_,λx y o o' q M c k ho C a t e=>d.inj x y o o' q M (own x o q c a) (own y o' M k t) ho C a t e,d.base,d.size,λq a=>⟨⟨FzR.mono (φ:=φ) (ψ:=i) sle.z (d.frz q a).1.1,(d.frz q a).1.2⟩,λx o px c ho u=>(d.frz q a).2 x o px (own x o px c u) ho u⟩,λx w c=>?_⟩⟩
 ·rcases cs x o c with⟨rfl,rfl⟩|⟨_,A⟩
  ·exact .inl ⟨r,rfl⟩
  ·rcases d.live x o A with g|⟨q,T,D,E,F,G⟩
   ·exact .inl g
   ·exact .inr ⟨q,T,D,E,F,G.c8 sle⟩
 ·rcases cs x _ c with⟨rfl,j⟩|⟨h1,A⟩
  ·injection j with j;subst j;have es:i.s x=S:=if_pos rfl
   show w.P φ.z (i.s x) h/\_;rw[es];refine⟨O,λB U=>?_⟩;obtain⟨V,W,Y,Z⟩:=K B U;refine⟨V,λy o q k ho a=>W y o q (own y o q k a) ho a,Y,λy I k l m=>?_⟩;rcases cs y _ k with⟨v,_⟩|⟨v,J⟩
   ·exact l v
   ·have:i.s y=φ.s y:=if_neg v;rw[this]at m;exact Z y I J m
  ·obtain⟨g0,g⟩:=d.sep x w A;have es:i.s x=φ.s x:=if_neg h1;show w.P φ.z (i.s x) h/\_;rw[es];refine⟨g0,λX N=>?_⟩;obtain⟨D,E,F,G⟩:=g X N;refine⟨D,λy o q k ho a=>E y o q (own y o q k a) ho a,F,λy I k l m=>?_⟩;rcases cs y _ k with⟨rfl,_⟩|⟨v,J⟩
   ·have:i.s y=S:=if_pos rfl
    rw[this]at m;exact(K X m).2.2.2 x w A N
   ·have:i.s y=φ.s y:=if_neg v;rw[this]at m;exact G y I J l m
theorem HR.Su(d:HR φ H n h0 h)(F:H.get b=some (.sep Q))(hw:Wf h)(hn:h.n<=g.n)(R:∀B o,h.f B=some o->¬φ.s b B->g.f B=some o)(Z:∀B,S' B->B<g.n/\(φ.s b B∨h.f B=none))(hQ:Q'.P φ.z S' g):
 HR ⟨φ.f,φ.z,φ.y,λx=>if x=b then S' else φ.s x⟩ (H.set (some (.sep Q')) aa b) n h0 g:=by
 have cs:∀x o,(H.set (some (.sep Q')) aa b).get x=some o->(x=b/\o= .sep Q')∨(x≠b/\H.get x=some o):=λx o j=>by
  rcases PM.ak aa H b x o j with⟨h1,p⟩|p
  ·injection p with p;exact .inl ⟨h1,p.symm⟩
  ·exact .inr p
 have G:=d.nL F;have i:=(d.sep b Q F).2
 let m:Ph:=⟨φ.f,φ.z,φ.y,λx=>if x=b then S' else φ.s x⟩
 have own:∀x o q,(H.set (some (.sep Q')) aa b).get x=some o->φ x=some q->H.get x=some o:=λx o q j a=>by
  rcases cs x o j with⟨rfl,_⟩|⟨_,h3⟩
  ·rw[G]at a;cases a
  ·exact h3
 have sle:SLe φ m:=⟨λ_ _ h=>h,λ_ h=>h⟩;have I:∀B o,h0.f B=some o->g.f B=some o:=λB o e=>R B o (d.base B o e).2 λq=>by rw[(i B q).1.2]at e;cases e
 refine⟨λx q j=>⟨(d.dom x q j).1,q0y (d.dom x q j).2 hn⟩,λx o j=>?_,λx y o o' q T j r ho W a J e=>d.inj x y o o' q T (own x o q j a) (own y o' T r J) ho W a J e,λB o e=>⟨q0y (d.base B o e).1 hn,I B o e⟩,Y7 d.size hn,λq a=>⟨⟨FzR.mono (φ:=φ) (ψ:=m) sle.z ?_,(d.frz q a).1.2⟩,λx o px j ho K=>(d.frz q a).2 x o px (own x o px j K) ho K⟩,λx w j=>?_⟩
 ·rcases cs x o j with⟨rfl,rfl⟩|⟨_,L⟩
  ·exact .inl ⟨G,rfl⟩
  ·rcases d.live x o L with C|⟨q,M,C,g2,g3,g4⟩
   ·exact .inl C
   ·refine .inr ⟨q,M,C,g2,?_,g4.c8 sle⟩;cases ho:o.own with
    |true=>exact R q.B M g3 λk=>(i q.B k).2.1 x o q L ho C rfl
    |false=>
     cases o with
     |ro l=>exact I q.B M g2
     |_=>cases ho
 ·obtain⟨k0,c,t,fz,D,N⟩:=(d.frz q a).1.1;exact⟨⟨q0y k0.1 hn,k0.2⟩,c,t,fz,R q.B _ D λk=>(i q.B k).2.2.1 q a rfl,N⟩
 ·rcases cs x _ j with⟨rfl,p⟩|⟨h1,L⟩
  ·injection p with p;subst p;have es:m.s x=S':=if_pos rfl
   show w.P φ.z (m.s x) g/\_;rw[es];refine⟨hQ,λB hB=>?_⟩;obtain⟨D,N⟩:=Z B hB;have no:∀o,h.f B=some o->φ.s x B:=λo e=>N.elim id λk=>by rw[k]at e;cases e
   refine⟨⟨D,?_⟩,λy o q r ho a e=>?_,λq a e=>?_,λy O r A u=>?_⟩
   ·cases e:h0.f B with
    |none=>rfl
    |some o=>rw[(i B (no o (d.base B o e).2)).1.2]at e;cases e
   ·have h5:=own y o q r a;rcases d.live y o h5 with⟨k,_⟩|⟨T,M,U,l2,l3,_⟩
    ·rw[k]at a;cases a
    ·rw[U]at a;injection a with a;subst a;exact(i B (no M (e▸l3))).2.1 y o T h5 ho U e
   ·obtain⟨k0,c,t,fz,U,_⟩:=(d.frz q a).1.1;exact(i B (no _ (e▸U))).2.2.1 q a e
   ·rcases cs y _ r with⟨E,_⟩|⟨E,V⟩
    ·exact A E
    ·have:m.s y=φ.s y:=if_neg E;rw[this]at u;obtain⟨o,ho⟩:=O.ex _ _ _ B (d.sep y O V).1 u;exact(i B (no o ho)).2.2.2 y O V E u
  ·obtain⟨Y,C⟩:=d.sep x w L;have es:m.s x=φ.s x:=if_neg h1;show w.P φ.z (m.s x) g/\_;rw[es];have nb:∀X,φ.s x X->¬φ.s b X:=λX v k=>(i X k).2.2.2 x w L h1 v
   refine⟨w.loc _ _ h _ hn (λX v=>?_) Y,λX v=>?_⟩
   ·obtain⟨o,ho⟩:=w.ex _ _ _ X Y v;rw[R X o ho (nb X v),ho]
   obtain⟨D,N,k3,k4⟩:=C X v;refine⟨⟨q0y D.1 hn,D.2⟩,λy o q r ho a=>N y o q (own y o q r a) ho a,k3,λy O r A u=>?_⟩;rcases cs y _ r with⟨rfl,_⟩|⟨E,V⟩
   ·have:m.s y=S':=if_pos rfl
    rw[this]at u;obtain⟨o,ho⟩:=w.ex _ _ _ X Y v;rcases(Z X u).2 with k|k
    ·exact nb X v k
    ·rw[k]at ho;cases ho
   ·have:m.s y=φ.s y:=if_neg E;rw[this]at u;exact k4 y O V A u
theorem HR.Uc(l:HR φ H n h0 h){p:Pl}{o:AO}{ob:Obj}(ho:o.own=true)(C:o.Jw=none)(M:p.B<h.n/\h0.f p.B=none)(W:h.f p.B=some ob)(G:OR φ p o ob)(h1:∀D o' N,H.get D=some o'->o'.own=true->φ D=some N->N.B≠p.B)(Y:∀q,φ.z q->q.B≠p.B)(Z:∀D Q',H.get D=some (.sep Q')->¬φ.s D p.B):
 ∃ψ:Ph,PLe φ ψ/\ψ n=some p/\HR ψ (H.set (some o) aa n) (n+1) h0 h:=by
 have I:φ n=none:=by
  cases e:φ n with
  |none=>rfl
  |some q=>exact absurd (l.dom n q e).1 (q3g _)
 let ψ:Ph:=⟨λx=>if x=n then some p else φ x,φ.z,φ.y,φ.s⟩
 have u:ψ n=some p:=if_pos rfl
 have ne:∀x,x≠n->ψ x=φ x:=λx e=>if_neg e
 have le:PLe φ ψ:=⟨λx q e=>(ne x λk=>by subst k;rw[I]at e;cases e).trans e,λ_ h=>h,λ_ h=>h⟩
 have cs:∀x o',(H.set (some o) aa n).get x=some o'->(x=n/\o'=o)∨(x≠n/\H.get x=some o'):=λx o' a=>by
  rcases PM.ak aa H n x o' a with⟨r,c⟩|c
  ·injection c with c;exact .inl ⟨r,c.symm⟩
  ·exact .inr c
 refine⟨ψ,le,u,⟨λx q a=>?_,λx o' a=>?_,λx y J E O P a A R T v t e=>?_,l.base,l.size,λq F=>⟨⟨FzR.mono (φ:=φ) (ψ:=ψ) (λ_ h=>h) (l.frz q F).1.1,(l.frz q F).1.2⟩,λx o' px a w d=>?_⟩,λx U a=>?_⟩⟩
 ·by_cases e:x=n
  ·subst e;rw[u]at a;injection a with a;subst a;exact⟨q1l _,M.1⟩
  ·rw[ne x e]at a;exact⟨Nat.lt_succ_of_lt (l.dom x q a).1,(l.dom x q a).2⟩
 ·rcases cs x o' a with⟨rfl,rfl⟩|⟨r,c⟩
  ·exact .inr ⟨p,ob,u,by rw[AO.bH ho];exact M.2,W,G.mono le⟩
  ·rcases l.live x o' c with⟨m,i⟩|⟨q,K,m,i,k5,k6⟩
   ·exact .inl ⟨(ne x r).trans m,i⟩
   ·exact .inr ⟨q,K,(ne x r).trans m,i,k5,k6.mono le⟩
 ·rcases cs x J a with⟨rfl,rfl⟩|⟨r,c⟩
  ·rcases cs y E A with⟨rfl,_⟩|⟨m,i⟩
   ·rfl
   ·rw[u]at v;injection v with v;subst v;rw[ne y m]at t;exact(h1 y E P i T t e.symm).elim
  ·rw[ne x r]at v;rcases cs y E A with⟨rfl,rfl⟩|⟨m,i⟩
   ·rw[u]at t;injection t with t;subst t;exact(h1 x J O c R v e).elim
   ·rw[ne y m]at t;exact l.inj x y J E O P c i R T v t e
 ·rcases cs x o' a with⟨rfl,rfl⟩|⟨r,c⟩
  ·rw[u]at d;injection d with d;subst d;exact λe=>Y q F e.symm
  ·rw[ne x r]at d;exact(l.frz q F).2 x o' px c w d
 ·rcases cs x _ a with⟨rfl,c⟩|⟨r,c⟩
  ·subst c;cases C
  ·obtain⟨g0,g1⟩:=l.sep x U c;refine⟨g0,λX V=>?_⟩;obtain⟨l1,l2,l3,l4⟩:=g1 X V;refine⟨l1,λy o' q A w j=>?_,l3,λy Q4 A L hs=>?_⟩
   ·rcases cs y o' A with⟨rfl,rfl⟩|⟨m,i⟩
    ·rw[u]at j;injection j with j;subst j;exact λe=>Z x U c (by rw[e];exact V)
    ·rw[ne y m]at j;exact l2 y o' q i w j
   ·rcases cs y _ A with⟨rfl,i⟩|⟨m,i⟩
    ·subst i;cases C
    ·exact l4 y Q4 i L hs
open Classical in
def pn (S:Nat->Prop) (hb h:Hp):Hp:=⟨λB=>if S B/\hb.f B=none then none else h.f B,h.n⟩
open Classical in
def inS (S:Nat->Prop) (h:Hp):Hp:=⟨λB=>if S B then h.f B else none,h.n⟩
def D5(hb:Hp)(σ:AE)(ρ:Env)(H:AH)(n:Nat):HP where
 P _ S h:=(∀B,S B->∃o,h.f B=some o)/\∃(φ:Ph) (g:Hp),g.n<=h.n/\(∀B o,g.f B=some o->S B/\h.f B=some o)/\(∀q,¬φ.y q)/\HR φ H n hb g/\FR φ σ ρ
 loc _ _ _ _ hn e hp:=⟨λB a=>let⟨o,ho⟩:=hp.1 B a;⟨o,(e B a).trans ho⟩,let⟨φ,g,h1,c,d⟩:=hp.2;⟨φ,g,Y7 h1 hn,λB o q=>⟨(c B o q).1,(e B (c B o q).1).trans (c B o q).2⟩,d⟩⟩
 mono _ _ _ _ _ h:=h
 ex _ _ _ B h a:=h.1 B a
theorem zT{B:Nat}{o:Obj}(h1:(pn S hb h).f B=some o):h.f B=some o/\¬(S B/\hb.f B=none):=by
 by_cases e:S B/\hb.f B=none
 ·have:(pn S hb h).f B=none:=if_pos e;rw[this]at h1;cases h1
 ·have:(pn S hb h).f B=h.f B:=if_neg e;rw[this]at h1;exact⟨h1,e⟩
theorem BH{B:Nat}(k:S B)(e:hb.f B=none):(pn S hb h).f B=none:=if_pos ⟨k,e⟩
theorem kH{B:Nat}(e:¬(S B/\hb.f B=none)):(pn S hb h).f B=h.f B:=if_neg e
theorem HR.lift(i:HR φ H n hb g)(D:Wf h)(hn:g.n<=h.n)(a:∀B o,g.f B=some o->S B/\h.f B=some o)(E:∀q,¬φ.y q):HR φ H n (pn S hb h) h:=by
 refine⟨λx q j=>⟨(i.dom x q j).1,q0y (i.dom x q j).2 hn⟩,λx o j=>?_,i.inj,λB o e=>⟨D B o (zT e).1,(zT e).1⟩,Z6 _,λq F=>?_,λx w j=>?_⟩
 ·rcases i.live x o j with k|⟨p,A,m,d,u,G⟩
  ·exact .inl k
  ·refine .inr ⟨p,A,m,?_,(a _ _ u).2,G⟩;cases ho:o.own with
   |true=>
    rw[AO.bH ho]at d⊢;exact BH (a _ _ u).1 d
   |false=>
    cases o with
    |ro l=>
     have d:hb.f p.B=some A:=d;exact(kH λk=>by rw[d]at k;cases k.2).trans (a _ _ u).2
    |_=>cases ho
 ·obtain⟨⟨m,d⟩,u⟩:=i.frz q F;obtain⟨C,c,t,fz,v,z⟩:=m;exact⟨⟨⟨⟨q0y C.1 hn,C.2⟩,c,t,fz,(a _ _ v).2,z⟩,.inr (BH (a _ _ v).1 (d.resolve_left (E q)))⟩,u⟩
 ·obtain⟨m,d⟩:=i.sep x w j;have ex:∀B,φ.s x B->∃o,g.f B=some o:=λB r=>w.ex _ _ _ B m r
  refine⟨w.loc _ _ g _ hn (λB r=>?_) m,λB r=>?_⟩
  ·obtain⟨o,ho⟩:=ex B r;rw[ho,(a _ _ ho).2]
  ·obtain⟨o,ho⟩:=ex B r;obtain⟨v,z⟩:=d B r;exact⟨⟨q0y v.1 hn,BH (a _ _ ho).1 v.2⟩,z⟩
theorem HR.BI(d:HR φ H n h1 g){L:Nat}{o o':Obj}(v:h1.f L=some o)(i:∀b o,H.get b=some o->o.own=true)(A:∀q,¬φ.y q):HR φ H n (h1.put L o') (g.put L o'):=by
 have ne:∀B,h1.f B=none->B≠L:=λB e k=>by subst k;rw[v]at e;cases e
 refine⟨d.dom,λx o m=>?_,d.inj,λB o e=>?_,d.size,λq C=>?_,λx w m=>?_⟩
 ·rcases d.live x o m with k|⟨p,z,j,a,r,D⟩
  ·exact .inl k
  ·have hu:=AO.bH (i x o m) z;rw[hu]at a;refine .inr ⟨p,z,j,?_,?_,D⟩
   ·rw[hu,aY _ _ _ _ (ne _ a)];exact a
   ·rw[aY _ _ _ _ (ne _ a)];exact r
 ·by_cases k:B=L
  ·subst k;rw[bX]at e⊢;exact⟨(d.base _ _ v).1,e⟩
  ·rw[aY _ _ _ _ k]at e⊢;exact d.base _ _ e
 ·obtain⟨⟨j,a⟩,r⟩:=d.frz q C;have a:=a.resolve_left (A q);obtain⟨E,c,t,fz,l,s⟩:=j;exact⟨⟨⟨E,c,t,fz,(aY _ _ _ _ (ne _ a)).trans l,s⟩,.inr ((aY _ _ _ _ (ne _ a)).trans a)⟩,r⟩
 ·obtain⟨j,a⟩:=d.sep x w m;refine⟨w.loc _ _ g _ (Z6 _) (λB u=>aY _ _ _ _ (ne _ (a B u).1.2)) j,λB u=>?_⟩;obtain⟨l,s⟩:=a B u;exact⟨⟨l.1,(aY _ _ _ _ (ne _ l.2)).trans l.2⟩,s⟩
theorem HR.cut(i:HR φ H n h1 g)(m:∀b o,H.get b=some o->o.own=true)(E:∀q,¬φ.y q)(w:∀B o,g.f B=some o->h1.f B=none->S' B)(d:∀B o,hb.f B=some o->S' B/\g.f B=some o/\h1.f B≠none)(z:hb.n<=g.n):HR φ H n hb (inS S' g):=by
 have is:∀B,S' B->(inS S' g).f B=g.f B:=λB e=>if_pos e
 have no:∀B,h1.f B=none->hb.f B=none:=λB e=>by
  cases k:hb.f B with
  |none=>rfl
  |some o=>exact absurd e (d B o k).2.2
 refine⟨i.dom,λx o u=>?_,i.inj,λB o e=>⟨(i.base B _ (show h1.f B=some ((h1.f B).get (Option.isSome_iff_ne_none.2 (d B o e).2.2)) by simp)).1,(is B (d B o e).1).trans (d B o e).2.1⟩,z,λq F=>?_,λx A u=>?_⟩
 ·rcases i.live x o u with k|⟨p,D,j,a,v,G⟩
  ·exact .inl k
  ·have hu:=AO.bH (m x o u) D;rw[hu]at a;exact .inr ⟨p,D,j,by rw[hu];exact no _ a,(is _ (w _ _ v a)).trans v,G⟩
 ·obtain⟨⟨j,a⟩,v⟩:=i.frz q F;have a:=a.resolve_left (E q);obtain⟨I,c,t,fz,r,C⟩:=j;exact⟨⟨⟨I,c,t,fz,(is _ (w _ _ r a)).trans r,C⟩,.inr (no _ a)⟩,v⟩
 ·obtain⟨j,a⟩:=i.sep x A u;have ex:∀B,φ.s x B->S' B:=λB l=>let⟨o,ho⟩:=A.ex _ _ _ B j l;w B o ho (a B l).1.2
  refine⟨A.loc _ _ g _ (Z6 _) (λB l=>is B (ex B l)) j,λB l=>?_⟩;obtain⟨r,C⟩:=a B l;exact⟨⟨r.1,no _ r.2⟩,C⟩
end
end Go.Proofs.YtflehenfikoniaaGreat
namespace Go.Proofs.YtflehenfikoniaaGreat
open Go Go.RowKit
def km:Code->Bool
 | .skip=>true
 | .region _ _ d=>!d
 | .seq a b=>km a&&km b
 | .cond _ a b=>km a&&km b
 | .block _ c=>km c
 | .exit _=>true
 | .ret=>true
 |_=>false
def Wy(d:List Deferred)(n:Nat)(ds:List Nat)(ρ0:Env)(w0:World)(N R:EH)(X:Nat->EH):Exit->Act->World->Prop
 | .normal,a,w=>∃ρ h,oD d n a ρ/\Is w h/\bO w0 w/\gI ds ρ0 ρ/\N ρ h
 | .ret,a,w=>∃ρ h,oD d n a ρ/\Is w h/\bO w0 w/\gI ds ρ0 ρ/\R ρ h
 | .exit i,a,w=>∃ρ h,oD d n a ρ/\Is w h/\bO w0 w/\gI ds ρ0 ρ/\X i ρ h
 |_,_,_=>False
theorem jv{P:Program}{r:Option Nat}{d:List Deferred}{n:Nat}{w0:World}:∀(c:Code),km c=true->∀(ds:List Nat),(∀t∈aL c,t<n/\ds.contains t=true)->∀(N R:EH) (X:Nat->EH) (ρ0 ρ:Env) (h:Hp) (a:Act) (w:World),
 avc P c N R X ρ h->oD d n a ρ->Is w h->bO w0 w->gI ds ρ0 ρ->c.wpIn (FW r) 0 P (Wy d n ds ρ0 w0 N R X) a w:=by
 intro c
 induction c with
 |skip=>intro _ ds _ N R X ρ0 ρ h a w g j k m o;exact wpIn_skip ⟨ρ,h,j,k,m,o,g⟩
 |region id ops draw=>
  intro p ds hd N R X ρ0 ρ h a w g j k m o;have H:=uH (l:=ops.toList) hd;cases draw with
  |true=>cases p
  |false=>exact wpIn_region_list (oE (r:=r) (d:=d) (n:=n) (ds:=ds) (ρ0:=ρ0) (w0:=w0) (λI J f A s u v z K=>⟨f,A,s,v,z,u,K⟩) ops.toList H ρ h a w g j o k m)
 |seq x y B C=>
  intro p ds hd N R X ρ0 ρ h a w g j k m o;simp only[km,Z7]at p;refine wpIn_seq (wpIn_mono (B p.1 ds (λt E=>hd t (by simp[aL,E])) (λf A=>avc P y N R X f A) R X ρ0 ρ h a w g j k m o) (λe I J F=>?_));cases e with
  |normal=>
   obtain⟨f,A,s,v,z,u,K⟩:=F;exact C p.2 ds (λt E=>hd t (by simp[aL,E])) N R X ρ0 f A I J K s v z u
  |_=>exact F
 |cond t x y B C=>
  intro p ds hd N R X ρ0 ρ h a w g j k m o;simp only[km,Z7]at p;unfold avc at g;split at g
  ·rename_i q F;refine wpIn_cond_split (t:=q) (by rw[j.eval,F]) (λe=>?_) (λe=>?_)
   ·exact B p.1 ds (λt E=>hd t (by simp[aL,E])) N R X ρ0 ρ h a w (g.1 e) j k m o
   ·exact C p.2 ds (λt E=>hd t (by simp[aL,E])) N R X ρ0 ρ h a w (g.2 e) j k m o
  ·exact g.elim
 |block id x M=>
  intro p ds hd N R X ρ0 ρ h a w g j k m o;refine wpIn_block (wpIn_mono (M p ds hd N R (λi f A=>if i=id then N f A else X i f A) ρ0 ρ h a w g j k m o) (λe I J F=>?_));cases e with
  |exit i=>
   obtain⟨f,A,s,v,z,u,G⟩:=F;simp only[Exit.inBlock];split
   ·rename_i e;rw[if_pos e]at G;exact⟨f,A,s,v,z,u,G⟩
   ·rename_i e;rw[if_neg e]at G;exact⟨f,A,s,v,z,u,G⟩
  |_=>exact F
 |exit i=>intro _ ds _ N R X ρ0 ρ h a w g j k m o;exact wpIn_exit ⟨ρ,h,j,k,m,o,g⟩
 |ret=>intro _ ds _ N R X ρ0 ρ h a w g j k m o;exact wpIn_ret ⟨ρ,h,j,k,m,o,g⟩
 |_=>intro p;cases p
def eI(rec:Loop)(st:LoopState)(a:Option Code):Loop:={rec with state:=st,pending:=a}
def lI(L D:Nat)(rec:Loop)(st:LoopState)(a:Option Code):Hp:=⟨λB=>if B=L then some (.loop (eI rec st a))else if B=D then some (.deferred (some []))else none,0⟩
theorem uc(L D:Nat)(rec:Loop)(st:LoopState)(a:Option Code):(lI L D rec st a).f L=some (.loop (eI rec st a)):=if_pos rfl
theorem ue{L D:Nat}(h:D≠L)(rec:Loop)(st:LoopState)(a:Option Code):(lI L D rec st a).f D=some (.deferred (some [])):=(if_neg h).trans (if_pos rfl)
theorem BJ{L D B:Nat}(a:B≠L)(c:B≠D)(rec:Loop)(st:LoopState)(d:Option Code):(lI L D rec st d).f B=none:=(if_neg a).trans (if_neg c)
def dt(H:AH):Prop:=∀b o,H.get b=some o->o.own=true
def RdK(L D b:Nat)(rec:Loop)(σ:AE)(ρ:Env)(H:AH)(n:Nat)(κ:PK)(st:LoopState)(c:Option Code)(e:AH)(f:Nat):Prop:=
 ∃a d,Cov 0 σ e f (σ,a,d)/\dt a/\κ (.bool c.isNone) (H.set (some (.sep (D5 (lI L D rec st c) σ ρ a d))) aa b) n
def Ud(L D b t:Nat)(ca cb:Code)(rec:Loop)(σ:AE)(ρ:Env)(call cd:CP)(args:List AV)(H:AH)(n:Nat)(κ:PK):Prop:=
 ∃c d x,H.get b=some (.sep (D5 (lI L D rec .ready none) σ ρ c d))/\args=[x]/\(∀(j k:Ph) (v:Value),VR j x v->VR k x v)/\dt c/\
  jL d cd [] ca call (cU σ (some t) x) c d (λe g h=>dt g/\jL h cd [] cb call e g h
   (λ_ a f=>dt a/\RdK L D b rec σ ρ H n κ .ready none a f)
   (λi _ a f=>dt a/\RdK L D b rec σ ρ H n κ .done (some (.exit i)) a f) (λ_ _ _=>False)) (λ_ _ _ _=>False) (λ_ _ _=>False)
theorem Is.putObj{w:World}{h:Hp}(hi:Is w h){L:Nat}{o o':Obj}(e:h.f L=some o):Is (w.putObj L o') (h.put L o'):=
 hi.set e (by simp) (World.putObj_heap_same (by rw[hi.1];exact hi.lt e)) λx a=>World.putObj_heap_other a
theorem bO.putObj(w:World)(L:Nat)(o:Obj):bO w (w.putObj L o):=⟨rfl,rfl,rfl⟩
section
variable {L D b t:Nat} {rec:Loop} {σ:AE} {ρ:Env} {call cd:CP}
theorem QL (N:oj call) (hcd:oj cd) (hcs:uP cd) (O:D≠L) (hps:rec.params= #[t]) (hcA:km rec.assign=true) (hcB:km rec.body=true) (hdA:mo [] rec.assign=true) (hdB:mo [] rec.body=true)
 (hdd:((aL rec.assign).all λt=>decide (t<rec.tmps.size))=true) (hde:((aL rec.body).all λt=>decide (t<rec.tmps.size))=true) (Y:t<rec.tmps.size) (hρ:∀t,rec.tmps.getD t undef=ρ t):Pu L (Ud L D b t rec.assign rec.body rec σ ρ call cd):=by
 intro args H n κ hs E h0 h vs K hr Z hk w hi;obtain⟨H1,n1,x,hb,rfl,hfl,hown,hs⟩:=hs;obtain⟨v,us,qv,ev,ru⟩:=Z.cons_inv;have ru:=ru.aU;subst ru;have hvs:vs= #[v]:=q2w qv;subst hvs;have hw:=hi.wf;obtain⟨⟨hex,J,g,hgn,m,hy,U,hf'⟩,hcond⟩:=hr.sep b _ hb;have gL:=(U.base L _ (uc L D rec .ready none)).2;have gD:=(U.base D _ (ue O rec .ready none)).2;have r1:=U.lift hw hgn m hy;have bL:(pn (E.s b) (lI L D rec .ready none) h).f L=some (.loop (eI rec .ready none)):=(kH λk=>by rw[uc]at k;cases k.2).trans (m _ _ gL).2;have bD:(pn (E.s b) (lI L D rec .ready none) h).f D=some (.deferred (some [])):=(kH λk=>by rw[ue O]at k;cases k.2).trans (m _ _ gD).2;have hLw:w.heap[L]?=some (.loop (eI rec .ready none)):=hi.2 _ _ (m _ _ gL).2;have hx:VR J x v:=hfl E J v ev;refine⟨rec.fn,rec.tmps.setIfInBounds t v,rec.assign,rec.body,?_,roundIn_of_wpIn trivial ?_⟩
 ·rw[run_yield hLw (by show 1=rec.params.size;rw[hps];rfl)];simp[eI,hps]
 have rel:oD [] rec.tmps.size {tmps:=rec.tmps.setIfInBounds t v,defers:=[]} (ρ.upd t v):=by
  have:oD [] rec.tmps.size {tmps:=rec.tmps,defers:=[]} ρ:=⟨rfl,rfl,hρ⟩;exact this.put (d:=some t) (λs e=>by injection e with e;subst e;exact Y) v
 have dsA:∀t∈aL rec.assign,t<rec.tmps.size/\(aL rec.assign).contains t=true:=λt Y=>⟨by simpa using q0a.1 hdd t Y,by simpa using Y⟩
 have dsB:∀t∈aL rec.body,t<rec.tmps.size/\(aL rec.body).contains t=true:=λt Y=>⟨by simpa using q0a.1 hde t Y,by simpa using Y⟩
 have fin:∀(st:LoopState) (C:Option Code) (a c:Ph) (l:AH) (u:Nat) (A:Env) (j:Hp) (w3:World),PLe J a->PLe a c->HR c l u ((pn (E.s b) (lI L D rec .ready none) h).put L (.loop (eI rec .busy none))) j->dt l->RdK L D b rec σ ρ H n κ st C l u->Is w3 j->bO w w3->
  ∃v' h',Ending.returned (.bool C.isNone)= .returned v'/\Is (w3.putObj L (.loop (eI rec st C))) h'/\bO w (w3.putObj L (.loop (eI rec st C)))/\K v' h':=by
  intro st C a c l u A j w3 W T r3 ho3 ⟨H4,n4,hc,Q,hκ⟩ F R;have y3:∀q,¬c.y q:=λq I=>hy q ((W.trans T).y q I)
  obtain⟨χ,⟨_,_,cy⟩,G,f4⟩:=hc c _ j ρ r3 (hf'.mono (W.trans T));have y4:∀q,¬χ.y q:=λq I=>y3 q (cy q I)
  have G:HR χ H4 n4 ((pn (E.s b) (lI L D rec .ready none) h).put L (.loop (eI rec .busy none))) j:=G;have M:=(G.base L _ (bX _ _ _)).2;have r5:=G.BI (o':= .loop (eI rec st C)) (bX _ _ _) Q y4;refine⟨_,j.put L (.loop (eI rec st C)),rfl,F.putObj M,R.trans (bO.putObj _ _ _),?_⟩
  let S':Nat->Prop:=λB=>(∃o,(j.put L (.loop (eI rec st C))).f B=some o)/\(E.s b B∨h.f B=none)
  have hS:∀B,S' B->B<j.n/\(E.s b B∨h.f B=none):=λB ⟨⟨o,ho⟩,k⟩=>⟨by
   have:=(F.putObj (o':= .loop (eI rec st C)) M).lt ho;exact this,k⟩
  have hn3:h.n<=j.n:=G.size
  have dQ:∀B o,h.f B=some o->¬E.s b B->(j.put L (.loop (eI rec st C))).f B=some o:=λB o e k=>by
   have kL:B≠L:=λq=>by subst q;exact k (m _ _ gL).1
   rw[aY _ _ _ _ kL];refine(G.base B o ?_).2;rw[aY _ _ _ _ kL];exact(kH λq=>k q.1).trans e
  have kD:(j.put L (.loop (eI rec st C))).f D=some (.deferred (some [])):=by
   rw[aY _ _ _ _ O];exact(G.base D _ (by rw[aY _ _ _ _ O];exact bD)).2
  have hQ:(D5 (lI L D rec st C) σ ρ H4 n4).P E.z S' (j.put L (.loop (eI rec st C))):=by
   refine⟨λB hB=>hB.1,χ,inS S' (j.put L (.loop (eI rec st C))),Z6 _,λB o e=>?_,y4,r5.cut Q y4 (λB o e k=>⟨⟨o,e⟩,?_⟩) (λB o e=>?_) (Y5 _),f4⟩
   ·by_cases k:S' B
    ·have:(inS S' (j.put L (.loop (eI rec st C)))).f B=(j.put L (.loop (eI rec st C))).f B:=if_pos k;rw[this]at e;exact⟨k,e⟩
    ·have:(inS S' (j.put L (.loop (eI rec st C)))).f B=none:=if_neg k;rw[this]at e;cases e
   ·have kL:B≠L:=λq=>by subst q;rw[bX]at k;cases k
    rw[aY _ _ _ _ kL,aY _ _ _ _ kL]at k;by_cases q:E.s b B
    ·exact .inl q
    ·rw[kH λq'=>q q'.1]at k;exact .inr k
   ·by_cases kL:B=L
    ·subst kL;rw[uc]at e;refine⟨⟨⟨_,bX _ _ _⟩,.inl (m _ _ gL).1⟩,by rw[bX];exact e,by rw[bX];simp⟩
    ·by_cases kB:B=D
     ·subst kB;rw[ue O]at e;refine⟨⟨⟨_,kD⟩,.inl (m _ _ gD).1⟩,kD.trans e,by rw[aY _ _ _ _ kL,aY _ _ _ _ kL,bD];simp⟩
     ·rw[BJ kL kB]at e;cases e
  exact hk ⟨E.f,E.z,E.y,λx=>if x=b then S' else E.s x⟩ _ _ _ _ _ ⟨λ_ _ h=>h,λ_ h=>h,λ_ h=>h⟩ (hr.Su (g:=j.put L (.loop (eI rec st C))) hb hw hn3 dQ hS hQ) (.bool _) hκ
 have ha:=jM N hcd hcs (D:=[]) (p:=n1) (φ0:=J) (λb q e=>(U.dom b q e).1) rec.assign hdA J _ H1 n1 _ _ _ (ρ.upd t v) h
  (λV h2=>∃a S H2 X,PLe J a/\HR a H2 X (pn (E.s b) (lI L D rec .ready none) h) h2/\FR a S V/\dt H2/\jL X cd [] rec.body call S H2 X
   (λ_ l u=>dt l/\RdK L D b rec σ ρ H n κ .ready none l u)
   (λi _ l u=>dt l/\RdK L D b rec σ ρ H n κ .done (some (.exit i)) l u) (λ_ _ _=>False)) (λ_ _=>False) (λ_ _ _=>False) (PLe.refl _) r1 (hf'.put (some t) hx) hs
  (λψ S H2 X V h2 W r2 f2 ⟨o2,k⟩=>⟨ψ,S,H2,X,W,r2,f2,o2,k⟩) (λ_ _ _ _ _ _ _ _ _ k=>k.elim) (λi _ _ _ _ _ _ _ _ _ k=>k.elim)
 refine wpIn_mono (jv (r:=some L) (d:=[]) (w0:=w) rec.assign hcA _ dsA _ _ _ _ _ h _ w ha rel hi (bO.refl w) (λ_ _=>rfl)) λe a1 w1 I=>?_
 cases e with
 |normal=>
  obtain⟨V,h2,rel2,hi2,hs2,_,a,S,H2,X,W,r2,f2,o2,hbody⟩:=I;have hL2:=(r2.base L _ bL).2;refine⟨_,run_beginRound (hi2.2 _ _ hL2) rfl,?_⟩;have y2:∀q,¬a.y q:=λq I=>hy q (W.y q I)
  have r3:=r2.BI (o':= .loop (eI rec .busy none)) bL o2 y2
  have hb2:=jM N hcd hcs (D:=[]) (p:=X) (φ0:=a) (λb q e=>(r2.dom b q e).1) rec.body hdB a _ H2 X _ _ _ V (h2.put L (.loop (eI rec .busy none)))
   (λA j=>∃c l u,PLe a c/\HR c l u ((pn (E.s b) (lI L D rec .ready none) h).put L (.loop (eI rec .busy none))) j/\dt l/\RdK L D b rec σ ρ H n κ .ready none l u) (λ_ _=>False)
   (λi A j=>∃c l u,PLe a c/\HR c l u ((pn (E.s b) (lI L D rec .ready none) h).put L (.loop (eI rec .busy none))) j/\dt l/\RdK L D b rec σ ρ H n κ .done (some (.exit i)) l u) (PLe.refl _) r3 f2 hbody
   (λψ σ3 l u A j T G f3 ⟨o3,k⟩=>⟨ψ,l,u,T,G,o3,k⟩) (λ_ _ _ _ _ _ _ _ _ k=>k.elim) (λi ψ σ3 l u A j T G f3 ⟨o3,k⟩=>⟨ψ,l,u,T,G,o3,k⟩)
  have hs2':=hs2.trans (bO.putObj w1 L (.loop (eI rec .busy none)));refine wpIn_mono (jv (r:=some L) (d:=[]) (w0:=w) rec.body hcB _ dsB _ _ _ _ _ _ _ _ hb2 rel2 (hi2.putObj hL2) hs2' (λ_ _=>rfl)) λe a2 w2 I=>?_
  cases e with
  |normal=>
   obtain⟨A,j,_,F,R,_,c,l,u,T,G,o3,k⟩:=I;have M:=(G.base L _ (bX _ _ _)).2;exact⟨_,_,run_endRound none (F.2 _ _ M),fin .ready none a c l u A j w2 W T G o3 k F R⟩
  |exit i=>
   obtain⟨A,j,_,F,R,_,c,l,u,T,G,o3,k⟩:=I;have M:=(G.base L _ (bX _ _ _)).2;exact⟨_,_,run_endRound (some (.exit i)) (F.2 _ _ M),fin .done (some (.exit i)) a c l u A j w2 W T G o3 k F R⟩
  |ret=>obtain⟨_,_,_,_,_,_,k⟩:=I;exact k.elim
  |_=>exact I.elim
 |ret=>obtain⟨_,_,_,_,_,_,k⟩:=I;exact k.elim
 |exit i=>obtain⟨_,_,_,_,_,_,k⟩:=I;exact k.elim
 |_=>exact I.elim
end
section
variable {φ:Ph} {H:AH} {n:Nat} {h0 h g:Hp}
theorem HR.ext(a:HR φ H n h0 h)(hn:h.n<=g.n)(j:∀B o,h.f B=some o->g.f B=some o):HR φ H n h0 g:=by
 refine⟨λx q b=>⟨(a.dom x q b).1,q0y (a.dom x q b).2 hn⟩,λx o b=>?_,a.inj,λB o e=>⟨q0y (a.base B o e).1 hn,j B o (a.base B o e).2⟩,Y7 a.size hn,λq v=>?_,λx Q b=>?_⟩
 ·rcases a.live x o b with k|⟨p,w,d,i,m,y⟩
  ·exact .inl k
  ·exact .inr ⟨p,w,d,i,j _ _ m,y⟩
 ·obtain⟨⟨d,i⟩,m⟩:=a.frz q v;obtain⟨u,c,t,fz,l,r⟩:=d;exact⟨⟨⟨⟨q0y u.1 hn,u.2⟩,c,t,fz,j _ _ l,r⟩,i⟩,m⟩
 ·obtain⟨d,i⟩:=a.sep x Q b;refine⟨Q.loc _ _ h _ hn (λB s=>?_) d,λB s=>?_⟩
  ·obtain⟨o,ho⟩:=Q.ex _ _ _ B d s;rw[ho,j _ _ ho]
  ·obtain⟨l,r⟩:=i B s;exact⟨⟨q0y l.1 hn,l.2⟩,r⟩
end
def Sv:AV->Bool
 | .ptr _ _=>true
 |a=>flat.flat1 a
theorem NS{φ ψ:Ph}{a:AV}{v:Value}(c:Sv a=true)(d:∀b p,φ b=some p->ψ b=some p)(h:VR φ a v):VR ψ a v:=by
 cases a with
 |ptr b o=>
  simp only[VR]at h⊢;obtain⟨p,e,f⟩:=h;exact⟨p,d _ _ e,f⟩
 |_=>exact aX c h
structure RfC where
 A:Code
 B:Code
 C:Code
 E:Code
 id:Nat
 gt:Nat
 t:Nat
 ca:Code
 cb:Code
def RfC.code(r:RfC):Code:= .seq r.A (.seq r.B (.seq (.seq r.C (.block r.id (.rangeFunc (.tmp r.gt) ⟨[r.t]⟩ r.ca r.cb))) r.E))
def rfC:Code->Option RfC
 | .seq A (.seq B (.seq (.seq C (.block id (.rangeFunc (.tmp gt) ⟨[t]⟩ ca cb))) E))=>some ⟨A,B,C,E,id,gt,t,ca,cb⟩
 |_=>none
theorem NT{c:Code}{r:RfC}(h:rfC c=some r):c=r.code:=by
 unfold rfC at h;split at h
 ·injection h with h;subst h;rfl
 ·cases h
def RfC.ok (r:RfC) (m:Nat):Bool:=km r.A&&km r.B&&km r.C&&km r.E&&km r.ca&&km r.cb&&mo [] r.ca&&mo [] r.cb&&mo [] r.E&&mo [] (.seq r.A (.seq r.B r.C))&&
 ((aL r.A).all λt=>decide (t<m))&&((aL r.B).all λt=>decide (t<m))&&((aL r.C).all λt=>decide (t<m))&&((aL r.E).all λt=>decide (t<m))&&((aL r.ca).all λt=>decide (t<m))&&((aL r.cb).all λt=>decide (t<m))&&decide (r.t<m)
def RfR(b:Nat)(κ:PK)(H:AH)(n:Nat)(a:AH)(v:AV):Prop:=
 ((∀(φ d:Ph) (u:Value),VR φ v u->VR d v u)/\κ v (H.set none aa b) n)∨
 ∃c o m k x l z,v= .rw c o m k x/\a.get c=some (.cells l z)/\l.all flat.flat1=true/\κ (.rw n o m k x) ((H.set none aa b).set (some (.cells l z)) aa n) (n+1)
def RfE(L D b:Nat)(r:RfC)(rs:List ResultVar)(rec:Loop)(σ:AE)(i:Env)(call j:CP)(κ:PK)(H:AH)(n:Nat):Prop:=
 ∃st a c d,H.get b=some (.sep (D5 (lI L D rec st a) σ i c d))/\st≠ .busy/\(a=none∨a=some (.exit r.id))/\dt c/\
  jL d j [] r.E call σ c d (λ_ _ _=>False) (λ_ _ _ _=>False) λe f _=>dt f/\CY rs e f λk=>RfR b κ H n f (y8 k)
def BK(o:AO):Bool:=match o with
 | .cells l _=>l.all flat.flat1
 |_=>false
def RfS(r:RfC)(m:Nat)(rs:List ResultVar)(call j:CP)(κ:PK)(c:AE)(k:AH)(d:Nat):Prop:=
 d<900000/\∃l first p e f a q s,bj (pa r.gt) c= .fn l first []/\(p.all λt=>Sv (bj (pa t) c))=true/\gu e k/\gu f k/\(∀b o,e.get b=some o->BK o=true/\f.get b=none)/\Cov 0 (lk c p) e d (a,q,s)/\
  ∀(L D:Nat) (rec:Loop) (i:Env),Pu L (Ud L D d r.t r.ca r.cb rec a i call j)->
   call l (first++ [.any (.func (.yield L) #[] #[])]) (f.set (some (.sep (D5 (lI L D rec .ready none) a i q s))) aa d) (d+1) λ_ u v=>RfE L D d r rs rec a i call j κ u v
def RfG(call a:CP)(f:FuncId)(args:List AV)(H:AH)(n:Nat)(κ:PK):Prop:=match Tryz.prog.funcs[f]? with
 |some fn=>(match fn.body with
  |some c=>(match rfC c with
   |some r=>r.ok fn.ntmps=true/\args.length<=fn.ntmps/\jL n a [] (.seq r.A (.seq r.B r.C)) call (wq args 0 .nil) H n (RfS r fn.ntmps fn.results.toList call a κ) (λ_ _ _ _=>False) (λ_ _ _=>False)
   |none=>False)
  |none=>False)
 |none=>False
theorem xK{φ ψ:Ph}{p:Pl}{o:AO}{ob:Obj}(ho:BK o=true)(h:OR φ p o ob):OR ψ p o ob:=by
 cases o with
 |cells l z=>
  obtain⟨c,t,fz,d,e,f,j,k,m⟩:=h;refine⟨c,t,fz,d,e,f,j,k,λi a b=>?_⟩;obtain⟨v,q,r⟩:=m i a b;exact⟨v,q,aX (q0a.1 ho a (q0l b)) r⟩
 |_=>cases ho
theorem po{o:AO}(ho:BK o=true):o.own=true/\o.Jw=none:=by cases o<;>first|exact⟨rfl,rfl⟩|cases ho
theorem Ic{H:AH}{v:Option AO}{n x:Nat}{o:AO}(h:(PM.set v aa H n).get x=some o):(x=n/\v=some o)∨(x≠n/\H.get x=some o):=PM.ak aa H n x o h
theorem Ue {φ ψ:Ph} {H X:AH} {n n4 b:Nat} {h0 L g h:Hp} {κ:PK} {K:KH} {v:AV} {u:Value} {Q:HP} (t:b<1000000) (M:cD φ h0 κ K) (i:PLe φ ψ) (hr:HR ψ H n h0 g) (hb:H.get b=some (.sep Q)) (hw:Wf g) (N:Wf h) (hn:g.n<=h.n) (hg:∀B o,g.f B=some o->¬ψ.s b B->h.f B=some o)
 {χ:Ph} (O:HR χ X n4 L h) (P:∀B,L.f B=none->(∃o,h.f B=some o)->ψ.s b B∨g.f B=none) (w:VR χ v u) (hs:RfR b κ H n X v):K u h:=by
 let A:Nat->Prop:=λB=>(∃o,h.f B=some o)/\(ψ.s b B∨g.f B=none)
 have st:=hr.Su (Q':=pk []) (S':=A) hb hw hn hg (λB ⟨⟨o,e⟩,k⟩=>⟨N B o e,k⟩) ⟨λB hB=>hB.1,q4p,λc R=>by cases R⟩
 let D:Ph:=⟨ψ.f,ψ.z,ψ.y,λx=>if x=b then A else ψ.s x⟩
 have st:HR D (H.set (some (.sep (pk []))) aa b) n h0 h:=st;have lw:PLe φ D:=⟨i.b,i.z,i.y⟩
 have j:gu (H.set none aa b) (H.set (some (.sep (pk []))) aa b):=λx o O=>by
  rcases Ic O with⟨_,q⟩|⟨S,G⟩
  ·cases q
  ·exact PM.aF aa _ _ _ (aH t) S G
 have s0:=st.less j;rcases hs with⟨hf,d⟩|⟨c,o,m,k,x,l,z,rfl,R,hl,d⟩
 ·exact M D _ _ _ _ _ lw s0 (hf χ D u w) d
 ·rcases O.live c _ R with⟨T,E⟩|⟨p,I,T,E,U,c4⟩
  ·have r:(AO.cells l z).void=true:=E;have:=s0.A5 (o:= .cells l z) r;refine M D _ _ _ _ _ lw this ?_ d;simp only[VR]at w⊢;rcases w with q|⟨p,a,C,q,_⟩
   ·exact .inl q
   ·rw[T]at q;cases q
  ·have E:L.f p.B=none:=E;have hS:A p.B:=⟨⟨I,U⟩,P p.B E ⟨I,U⟩⟩;have F:(H.set (some (.sep (pk []))) aa b).get b=some (.sep (pk [])):=PM.bN aa _ _ (aH t);obtain⟨k1,k2,k3,k4⟩:=(st.sep b _ F).2 p.B (by show(if b=b then A else ψ.s b) p.B;rw[if_pos rfl];exact hS)
   obtain⟨θ,t1,t2,t3⟩:=s0.Uc (p:=p) (o:= .cells l z) (ob:=I) rfl rfl k1 U (xK hl c4) (λV o' Z J W e3=>k2 V o' Z (j _ _ J) W e3) k3 (λV Y J W=>by
    rcases Ic J with⟨_,q⟩|⟨S,G⟩
    ·cases q
    ·exact k4 V Y (j _ _ J) S W)
   refine M θ _ _ _ _ _ (lw.trans t1) t3 ?_ d;simp only[VR]at w⊢;rcases w with q|⟨Z,a,C,q,G⟩
   ·exact .inl q
   ·rw[T]at q;injection q with q;subst q;exact .inr ⟨p,a,C,t2,G⟩
theorem Sw{f:FuncId}{call cd:CP}(hic:bR Tryz.prog f=true)(F:oj call)(hcd:oj cd)(hcs:uP cd):ai f (RfG call cd f):=by
 intro args H n κ hs φ h0 h vs K hr hargs hk;unfold RfG at hs;split at hs
 case h_2=>exact hs.elim
 rename_i fn hfn;split at hs
 case h_2=>exact hs.elim
 rename_i c hb;split at hs
 case h_2=>exact hs.elim
 rename_i r hrc;obtain⟨hok,hlen,hs⟩:=hs;have hc:=NT hrc;simp only[RfC.ok,Z7]at hok;obtain⟨⟨⟨⟨⟨⟨⟨⟨⟨⟨⟨⟨⟨⟨⟨⟨cA,cB⟩,cC⟩,cE⟩,cca⟩,ccb⟩,dca⟩,dcb⟩,dE⟩,dP⟩,sA⟩,sB⟩,sC⟩,sE⟩,sca⟩,scb⟩,st⟩:=hok;have st:r.t<fn.ntmps:=by simpa using st
 have X:∀{c:Code},((aL c).all λt=>decide (t<fn.ntmps))=true->∀t∈aL c,t<fn.ntmps/\(aL c).contains t=true:=λj t ht=>⟨by simpa using q0a.1 j t ht,by simpa using ht⟩
 refine⟨hic,λw hi=>(callsIn_wide (n:=0)).1 (callsIn_of_wp_marks hfn hb trivial ?_)⟩;have hal:=hargs.length;have hsz:vs.size<=fn.ntmps:=by simpa[hal]using hlen
 have hpre:=jM F hcd hcs (D:=[]) (p:=n) (φ0:=φ) (λb q e=>(hr.dom b q e).1) (.seq r.A (.seq r.B r.C)) dP φ _ H n _ _ _ (iS vs.toList 0) h
  (λρ1 h1=>∃l Y H1 J,PLe φ l/\HR l H1 J h0 h1/\FR l Y ρ1/\RfS r fn.ntmps fn.results.toList call cd κ Y H1 J) (λ_ _=>False) (λ_ _ _=>False) (PLe.refl _) hr (CT hargs) hs
  (λZ Y H1 J ρ1 h1 l1 T f1 k=>⟨Z,Y,H1,J,l1,T,f1,k⟩) (λ_ _ _ _ _ _ _ _ _ k=>k.elim) (λi _ _ _ _ _ _ _ _ _ k=>k.elim)
 subst hc;have rel0:oD [] fn.ntmps ⟨vs++Array.replicate (fn.ntmps-vs.size) undef,[]⟩ (iS vs.toList 0):=yY hsz;refine wpIn_seq (wpIn_mono (jv (r:=none) (d:=[]) (w0:=w) r.A cA _ (X sA) _ _ _ _ _ h _ w hpre rel0 hi (bO.refl w) (λ_ _=>rfl)) λe a1 w1 j=>?_);cases e with
 |ret=>obtain⟨_,_,_,_,_,_,k⟩:=j;exact k.elim
 |exit i=>obtain⟨_,_,_,_,_,_,k⟩:=j;exact k.elim
 |goto i=>exact j.elim
 |panic i=>exact j.elim
 |outgrown=>exact j.elim
 |normal=>
 obtain⟨ρ1,h1,rel1,hi1,hs1,_,hB⟩:=j;refine wpIn_seq (wpIn_mono (jv (r:=none) (d:=[]) (w0:=w) r.B cB _ (X sB) _ _ _ _ _ h1 _ w1 hB rel1 hi1 hs1 (λ_ _=>rfl)) λe a2 w2 j=>?_);cases e with
 |ret=>obtain⟨_,_,_,_,_,_,k⟩:=j;exact k.elim
 |exit i=>obtain⟨_,_,_,_,_,_,k⟩:=j;exact k.elim
 |goto i=>exact j.elim
 |panic i=>exact j.elim
 |outgrown=>exact j.elim
 |normal=>
 obtain⟨ρ2,h2,rel2,hi2,hs2,_,hC⟩:=j;refine wpIn_seq (wpIn_seq (wpIn_mono (jv (r:=none) (d:=[]) (w0:=w) r.C cC _ (X sC) _ _ _ _ _ h2 _ w2 hC rel2 hi2 hs2 (λ_ _=>rfl)) λe a3 w3 j=>?_));cases e with
 |ret=>obtain⟨_,_,_,_,_,_,k⟩:=j;exact k.elim
 |exit i=>obtain⟨_,_,_,_,_,_,k⟩:=j;exact k.elim
 |goto i=>exact j.elim
 |panic i=>exact j.elim
 |outgrown=>exact j.elim
 |normal=>
 obtain⟨G,m,M,hi3,hs3,_,l,Y,H1,J,l1,T,f1,hnb,gf,first,ts,Hi,He,σj,Hj,nj,hgt,hts,U,hge,hio,hcov,hS⟩:=j;refine wpIn_block (wpIn_rangeFunc λgg hgg=>?_);have e3:=hi3.1;obtain⟨D,hD⟩:∃D,D=w3.heap.size:=⟨_,rfl⟩;obtain⟨L,hL⟩:∃L,L=w3.heap.size+1:=⟨_,rfl⟩;have hDL:D≠L:=by omega
 let a:Loop:={state:= .ready,pending:=none,fn:=gg,tmps:=a3.tmps,params:=⟨[r.t]⟩,assign:=r.ca,body:=r.cb,defers:=w3.heap.size}
 let I:Hp:=(((m.put m.n (.deferred (some []))).to (m.n+1)).put (m.n+1) (.loop a)).to (m.n+2)
 let w4:World:=(w3.alloc (.deferred (some []))).alloc (.loop a)
 have hi4:Is w4 I:=(hi3.push _).push _;have hs4:bO w w4:=hs3.trans ((bO.push _ _).trans (bO.push _ _))
 have h4L:I.f L=some (.loop a):=by
  rw[show L=m.n+1 from by omega];exact bX _ _ _
 have h4D:I.f D=some (.deferred (some [])):=by
  rw[show D=m.n from by omega];show((m.put m.n (.deferred (some []))).put (m.n+1) (.loop a)).f m.n=_;rw[aY _ _ _ _ (by omega)];exact bX _ _ _
 have h4o:∀B o,m.f B=some o->I.f B=some o:=λB o e=>by
  have:=hi3.lt e;show((m.put m.n (.deferred (some []))).put (m.n+1) (.loop a)).f B=_;rw[aY _ _ _ _ (by omega),aY _ _ _ _ (by omega)];exact e
 have hρ:∀t,a.tmps.getD t undef=G t:=M.2.2;have hrs:a.tmps.size=fn.ntmps:=M.2.1;have hY:Pu L (Ud L D J r.t r.ca r.cb a σj G call cd):=QL (rec:=a) F hcd hcs hDL rfl cca ccb dca dcb (by rw[hrs];exact sca) (by rw[hrs];exact scb) (by rw[hrs];exact st) hρ
 let N:=lI L D a .ready none
 have hb0s:∀B o,N.f B=some o->(B=L∨B=D)/\I.f B=some o:=λB o e=>by
  by_cases kL:B=L
  ·subst kL;rw[show N.f B=_ from uc _ _ _ _ _]at e;exact⟨.inl rfl,h4L.trans e⟩
  ·by_cases kD:B=D
   ·subst kD;rw[show N.f B=_ from ue hDL _ _ _]at e;exact⟨.inr rfl,h4D.trans e⟩
   ·rw[show N.f B=none from BJ kL kD _ _ _]at e;cases e
 have hb0n:∀B o,m.f B=some o->N.f B=none:=λB o e=>by
  have:=hi3.lt e;exact BJ (by omega) (by omega) _ _ _
 let S:Nat->Prop:=λB=>(∃b o p ob,Hi.get b=some o/\l b=some p/\p.B=B/\m.f B=some ob)∨B=L∨B=D
 let φi:Ph:=⟨l.f,λ_=>False,λ_=>False,λ_ _=>False⟩
 have hex:∀B,S B->∃o,I.f B=some o:=λB hB=>by
  rcases hB with⟨_,_,_,ob,_,_,_,e⟩|rfl|rfl
  ·exact⟨ob,h4o _ _ e⟩
  ·exact⟨_,h4L⟩
  ·exact⟨_,h4D⟩
 have is:∀B,S B->(inS S I).f B=I.f B:=λB e=>if_pos e
 have n34:m.n<=I.n:=by show m.n<=m.n+2;omega
 have hii:HR φi Hi J N (inS S I):=by
  refine⟨λx q hx=>⟨(T.dom x q hx).1,q0y (T.dom x q hx).2 n34⟩,λx o hx=>?_,λx y o o' q q' hx hy w1 w2=>T.inj x y o o' q q' (U _ _ hx) (U _ _ hy) w1 w2,λB o e=>⟨hi4.lt (hb0s B o e).2,(is B (.inr (hb0s B o e).1)).trans (hb0s B o e).2⟩,Y5 _,λq j=>j.elim,λx Q hx=>?_⟩
  ·rcases T.live x o (U _ _ hx)with k|⟨p,ob,k1,k2,k3,k4⟩
   ·exact .inl k
   ·refine .inr ⟨p,ob,k1,?_,(is _ (.inl ⟨x,o,p,ob,hx,k1,rfl,k3⟩)).trans (h4o _ _ k3),xK (hio x o hx).1 k4⟩;rw[AO.bH (po (hio x o hx).1).1];exact hb0n _ _ k3
  ·have:=(po (hio x _ hx).1).2;cases this
 have fi:FR φi (lk Y ts) G:=ln λt ht=>NS (φ:=l) (ψ:=φi) (q0a.1 hts t ht) (λ_ _ h=>h) (f1.at t)
 have sub4:∀B o,(inS S I).f B=some o->S B/\I.f B=some o:=λB o e=>by
  by_cases k:S B
  ·rw[is B k]at e;exact⟨k,e⟩
  ·have:(inS S I).f B=none:=if_neg k;rw[this]at e;cases e
 obtain⟨χ,⟨_,_,cy⟩,hij,fj⟩:=hcov φi N (inS S I) G hii fi;have hP:(D5 N σj G Hj nj).P l.z S I:=⟨hex,χ,inS S I,Z6 _,sub4,λq j=>cy q j,hij,fj⟩;have r4:HR l He J h0 I:=(T.less hge).ext n34 h4o;have big:∀B,B=L∨B=D->m.n<=B/\B<I.n:=λB k=>⟨by omega,by show B<m.n+2;omega⟩
 obtain⟨le4,r5⟩:=r4.qj hP λB hB=>by
  rcases hB with⟨b,o,p,ob,k1,k2,k3,k4⟩|k
  ·have hw:=(po (hio b o k1).1).1;refine⟨⟨q0y (hi3.lt k4) n34,?_⟩,λb' o' p' e1 e2 e3 e4=>?_,λq j e=>?_,λb' Q' e1 e2=>?_⟩
   ·rcases T.live b o (U _ _ k1)with⟨k,_⟩|⟨p',ob',k5,k6,_,_⟩
    ·rw[k]at k2;cases k2
    ·rw[k5]at k2;injection k2 with k2;subst k2;rw[AO.bH hw,k3]at k6;exact k6
   ·have:=T.inj b' b o' o p' p (hge _ _ e1) (U _ _ k1) e2 hw e3 k2 (e4.trans k3.symm);subst this;rw[(hio b' o k1).2]at e1;cases e1
   ·exact(T.frz q j).2 b o p (U _ _ k1) hw k2 (k3.trans e.symm)
   ·exact((T.sep b' Q' (hge _ _ e1)).2 B e2).2.1 b o p (U _ _ k1) hw k2 k3
  ·obtain⟨b1,b2⟩:=big B k;refine⟨⟨b2,?_⟩,λb' o' p' e1 e2 e3 e4=>?_,λq j e=>?_,λb' Q' e1 e2=>?_⟩
   ·cases e:h0.f B with
    |none=>rfl
    |some o=>have:=(T.base B o e).1;omega
   ·have:=(T.dom b' p' e3).2;omega
   ·have:=(T.frz q j).1.1.1.1;omega
   ·have:=((T.sep b' Q' (hge _ _ e1)).2 B e2).1.1;omega
 have hgv:=f1.at r.gt;rw[hgt]at hgv;obtain⟨xs,cs,hv,hx,hcv⟩:=hgv.nu;have hcv:cs= #[]:=q2w hcv.aU;subst hcv
 have hcf:=F gf _ _ _ _ (hS L D a G hY) _ h0 I (xs++ #[.func (.yield L) #[] #[]]) (λu g=>∃Z H2 n2,PLe ⟨l.f,l.z,l.y,λx=>if x=J then S else l.s x⟩ Z/\HR Z H2 n2 h0 g/\RfE L D J r fn.results.toList a σj G call cd κ H2 n2) r5
  (by rw[q3v];exact(VRs.mono le4 _ _ hx).append (.cons rfl .nil)) λZ v H2 n2 u g le hg hu k=>⟨Z,H2,n2,le,hg,k⟩
 have hev:a3.eval (.tmp r.gt)= .func (.func gf) xs #[]:=by rw[M.eval];exact hv
 refine⟨L,[{target:= .collected w3.heap.size,args:= #[]}],w4,{target:= .fn (.func gf) #[],args:=xs++ #[.func (.yield L) #[] #[]]},w4,gf,xs++ #[.func (.yield L) #[] #[]],w4,?_,?_,λ_ _=>trivial,?_,λq=>Bool.noConfusion q,?_⟩
 ·rw[hL];exact run_enterLoop_outer _ _ _ _ _
 ·simp only[resolve,rangeCall,hev,Deferred.ofValue,Sem.run_pure,List.map_toArray,q1r,List.map_nil];rfl
 ·(try simp only[invoke])
  rw[np hcf.1];simp
 refine callsIn_wide.2 ((hcf.2 w4 hi4).mono λe w5 ⟨v5,g5,he,hi5,hs5,Z,H2,n2,le5,r6,O,pd,Hx,nx,hb2,hst,hpd,hox,hE⟩=>?_);subst he;obtain⟨⟨hex6,φx,g6,hgn6,V,hy6,rx,fx⟩,hc6⟩:=r6.sep J _ hb2;have gL:=V _ _ (rx.base L _ (uc L D a O pd)).2;have gD:=V _ _ (rx.base D _ (ue hDL a O pd)).2
 let R:Obj:= .loop {eI a O pd with state:= .exhausted}
 have r7:=rx.lift hi5.wf hgn6 V hy6;have bL:(pn (Z.s J) (lI L D a O pd) g5).f L=some (.loop (eI a O pd)):=(kH λk=>by rw[uc]at k;cases k.2).trans gL.2;have bD:(pn (Z.s J) (lI L D a O pd) g5).f D=some (.deferred (some [])):=(kH λk=>by rw[ue hDL]at k;cases k.2).trans gD.2;have r8:=r7.BI (o':=R) bL hox hy6;have hi6:Is (w5.putObj L R) (g5.put L R):=hi5.putObj gL.2;have hs6:bO w (w5.putObj L R):=(hs4.trans hs5).trans (bO.putObj _ _ _)
 have hEs:=jM F hcd hcs (D:=[]) (p:=nx) (φ0:=φx) (λb q e=>(rx.dom b q e).1) r.E dE φx _ Hx nx _ _ _ G (g5.put L R)
  (λ_ _=>False) (λρ7 h7=>∃W σ7 H7 n7,PLe φx W/\HR W H7 n7 ((pn (Z.s J) (lI L D a O pd) g5).put L R) h7/\FR W σ7 ρ7/\dt H7/\CY fn.results.toList σ7 H7 λvs=>RfR J κ H2 n2 H7 (y8 vs)) (λ_ _ _=>False) (PLe.refl _) r8 fx hE
  (λ_ _ _ _ _ _ _ _ _ k=>k.elim) (λW σ7 H7 n7 ρ7 h7 l7 r7 f7 ⟨o7,k⟩=>⟨W,σ7,H7,n7,l7,r7,f7,o7,k⟩) (λi _ _ _ _ _ _ _ _ _ k=>k.elim)
 have rel6:oD [{target:= .collected w3.heap.size,args:= #[]}] fn.ntmps {a3 with defers:=[{target:= .collected w3.heap.size,args:= #[]}]++a3.defers} G:=⟨by simp[M.1],M.2⟩
 have tail:r.E.wpIn Fence.wide 0 Tryz.prog (bodyPostM Fence.wide 0 Tryz.prog fn λe w'=>∃v h',e= .returned v/\Is w' h'/\bO w w'/\K v h') {a3 with defers:=[{target:= .collected w3.heap.size,args:= #[]}]++a3.defers} (w5.putObj L R):=by
  refine wpIn_mono (jv (r:=none) (d:=[{target:= .collected w3.heap.size,args:= #[]}]) (w0:=w) r.E cE _ (X sE) _ _ _ _ _ _ _ _ hEs rel6 hi6 hs6 (λ_ _=>rfl)) λe a7 w7 j=>?_
  cases e with
  |normal=>obtain⟨_,_,_,_,_,_,k⟩:=j;exact k.elim
  |exit i=>obtain⟨_,_,_,_,_,_,k⟩:=j;exact k.elim
  |ret=>
   obtain⟨ρ7,h7,rel7,hi7,hs7,_,W,σ7,H7,n7,l7,r9,f7,o7,hres⟩:=j;have y7:∀q,¬W.y q:=λq j=>hy6 q (l7.y q j)
   have bD2:((pn (Z.s J) (lI L D a O pd) g5).put L R).f D=some (.deferred (some [])):=(aY _ _ _ _ hDL).trans bD;have hD7:=(r9.base D _ bD2).2;have r10:=r9.BI (o':= .deferred none) bD2 o7 y7;have hi8:Is (w7.putObj D (.deferred none)) (h7.put D (.deferred none)):=hi7.putObj hD7;have hw8:=hi7.2 _ _ hD7;have hrk:vc Tryz.prog fn.results.toList [] ρ7 (h7.put D (.deferred none)) K:=nD r10 f7 _ [] _ hres λws us k hus=> .here (Ue (by omega) hk (l1.trans (le4.trans le5)) r6 hb2 hi5.wf hi8.wf r10.size (λB o e k=>?_) r10 (λB e _=>?_) (by simpa using CU hus) k)
   ·obtain⟨ws,q1,g',q2,q3⟩:=nt rel7.rel hi8.2 fn.results.toList [] hrk;show LeavesInM Fence.wide 0 Tryz.prog fn a7.tmps _ a7.defers .returning w7;rw[rel7.1];refine⟨by simp,.inl ⟨w3.heap.size,w7.putObj D (.deferred none),rfl,hD▸run_takeDeferred hw8,?_⟩⟩;exact⟨_,rR q1,_,g',rfl,hi8.sub q2,hs7.trans (bO.putObj _ _ _),q3⟩
   ·have kL:B≠L:=λq=>k (q▸gL.1)
    have kD:B≠D:=λq=>k (q▸gD.1)
    refine(r10.base B o ?_).2;rw[aY _ _ _ _ kD,aY _ _ _ _ kL,kH λq=>k q.1];exact e
   ·by_cases k:Z.s J B
    ·exact .inl k
    ·have kL:B≠L:=λq=>k (q▸gL.1)
     have kD:B≠D:=λq=>k (q▸gD.1)
     rw[aY _ _ _ _ kD,aY _ _ _ _ kL,kH λq=>k q.1]at e;exact .inr e
  |_=>exact j.elim
 refine⟨pd,_,run_endLoop (hi5.2 _ _ gL.2) hst,?_⟩;rcases hpd with rfl|rfl
 ·exact tail
 ·exact wpIn_exit (by
   show Exit.inBlock r.id _ (.exit r.id) _ _;simp only[Exit.inBlock,if_true];exact tail)
def KRf:FuncId->EP:=aq 119 Bv evP
theorem uf:aW KRf:=ae az TL
abbrev cRg:CP:=ay KRf 5
theorem Ie{t v:Int}:∀(φ ψ:Ph) (u:Value),VR φ (.agg [.si .i64 t,.si .i64 v]) u->VR ψ (.agg [.si .i64 t,.si .i64 v]) u:=λφ ψ u h=>by
 obtain⟨cs,rfl,a⟩:=h.dY;exact .agg (pS rfl a)
def rgI (a b:Int) (O:Smp):AH:=mkH [(3,.cells [.si .i64 a] true),(4,.cells [.si .i64 b] true),(5,.cells [.rw 6 0 O.length 2 0] true),(6,.cells (smp O) true)]
def rgE:AE:=mkE [(4,.ptr 3 0),(5,.ptr 4 0),(7,.ptr 5 0)]
def ecM (S:Sr) (C:Ck5) (Q:HP):AH:=mkH [(0,.cells (c6 S 1 (pts C).length) true),(1,.cells (aZ (pts C)) true),(2,dB S C),(6,.sep Q)]
theorem dN{l:List (Nat×AO)}(h:(l.all λx=>x.2.own)=true):dt (mkH l):=λb o e=>q0a.1 h _ (ck e)
theorem dt.set{H:AH}{d n:Nat}{o:AO}(h:dt H)(ho:o.own=true):dt (PM.set (some o) d H n):=λb a e=>by
 rcases PM.ak d H n b a e with⟨_,q⟩|⟨_,q⟩
 ·injection q with q;subst q;exact ho
 ·exact h b a q
theorem dt.del{H:AH}{d n:Nat}(h:dt H):dt (PM.set none d H n):=λb a e=>by
 rcases PM.ak d H n b a e with⟨_,q⟩|⟨_,q⟩
 ·cases q
 ·exact h b a q
theorem Ig {σ:AE} {H:AH} {n k:Nat} {a b:Int} {O:Smp} {h j:List AV} {l:AV} (r:bj (pa 4) σ= .ptr 3 0) (s:bj (pa 5) σ= .ptr 4 0) (t:bj (pa 7) σ= .ptr 5 0) (u:PM.get H 3=some (.cells h true)) (v:h.map mk=[.si .i64 a]) (w:PM.get H 4=some (.cells j true)) (z:j.map mk=[.si .i64 b])
 (A:PM.get H 5=some (.cells [l] true)) (B:ab H 7 (λc=>if c=6 then k else c) l (.rw 6 0 O.length 2 0)) (C:(∃g,PM.get H k=some (.cells g true)/\g.map mk=smp O)∨(O=[]/\n<=k)) (G:k≠3/\k≠4/\k≠5):Cov 0 σ H n (rgE,rgI a b O,7):=by
 refine Cov.ofR (m:=7) (p:=0) (λc=>if c=6 then k else c) (Y5 _) (λb D=>absurd D (q1k b)) (λx d=>?_) (λx d=>?_) (λx d y o e=>?_)
 ·simp only[Z3,Z4,or_false]at d;rcases d with rfl|rfl|rfl
  ·exact ab.ptr (by decide) r
  ·exact ab.ptr (by decide) s
  ·exact ab.ptr (by decide) t
 ·simp only[Z3,Z4,or_false]at d;rcases d with rfl|rfl|rfl|rfl
  ·exact⟨Z0 rfl,.inl ⟨_,u,an.iW rfl v id⟩⟩
  ·exact⟨Z0 rfl,.inl ⟨_,w,an.iW rfl z id⟩⟩
  ·refine⟨Z0 rfl,.inl ⟨_,A,an.cells (Z6 _) id λi I f=>?_⟩⟩
   match i,f with
   |0,f=>injection f with f;subst f;exact⟨_,rfl,B⟩
   |i+1,f=>simp at f
  ·refine⟨Z0 rfl,C.elim (λ⟨g,E,F⟩=> .inl ⟨_,E,an.iW (bI _) (by rw[F,bC]) id⟩) (λq=> .inr ⟨by rw[q.1];rfl,q.2⟩)⟩
 ·simp only[Z3,Z4,or_false]at d o;rcases d with rfl|rfl|rfl|rfl<;>rcases o with rfl|rfl|rfl|rfl<;>simp at e⊢<;>omega
theorem D6{σ:AE}{H:AH}{n:Nat}{S:Sr}{C:Ck5}{Q:HP}(le:List (Nat×AV))(c:∀x∈le,ab H 7 (λb=>b) (bj (pa x.1) σ) x.2)(d:PM.get H 0=some (.cells (c6 S 1 (pts C).length) true))(f:PM.get H 1=some (.cells (aZ (pts C)) true))(g:PM.get H 2=some (dB S C))(h:PM.get H 6=some (.sep Q)):Cov 7 σ H n (mkE le,ecM S C Q,7):=by
 refine Cov.ofR (m:=7) (p:=7) (λb=>b) (Z6 _) (λb i=>rfl) c ?_ (λx a y j e=>e);intro x a;simp only[Z3,Z4,or_false]at a;rcases a with rfl|rfl|rfl|rfl
 ·exact⟨Z0 rfl,.inl ⟨_,d,an.c6 rfl rfl rfl rfl rfl (ab.rw (Z0 rfl) rfl)⟩⟩
 ·exact⟨Z0 rfl,.inl ⟨_,f,an.aZ (aC _)⟩⟩
 ·exact⟨Z0 rfl,.inl ⟨_,g,an.sep _⟩⟩
 ·exact⟨Z0 rfl,.inl ⟨_,h,an.sep _⟩⟩
def yO(L:Nat):AV:= .any (.func (.yield L) #[] #[])
abbrev lo1(C:Ck5)(L i:Nat):List (Nat×AV):=[(1,yO L),(14,.rw 1 0 (pts C).length 1 0),(15,.si .i64 ((pts C).length:Int)),(16,.si .i64 (i:Int))]
abbrev lo2(C:Ck5)(L i:Nat)(X:Smp)(j:Nat):List (Nat×AV):=[(1,yO L),(14,.rw 1 0 (pts C).length 1 0),(15,.si .i64 ((pts C).length:Int)),(16,.si .i64 (i:Int)),(21,.fr X.length 2 (smp X)),(22,.si .i64 (X.length:Int)),(23,.si .i64 (j:Int))]
theorem Ih{H:AH}{σ:AE}{C:Ck5}{L i:Nat}(f:bj (pa 1) σ=yO L)(a:bj (pa 14) σ= .rw 1 0 (pts C).length 1 0)(c:mk (bj (pa 15) σ)= .si .i64 ((pts C).length:Int))(d:mk (bj (pa 16) σ)= .si .i64 (i:Int)):∀x∈lo1 C L i,ab H 7 (λb=>b) (bj (pa x.1) σ) x.2:=λx e=>by
 simp only[Z3,Z4,or_false]at e;rcases e with rfl|rfl|rfl|rfl
 ·show ab H 7 _ (bj (pa 1) σ) (yO L);rw[f];exact λ_ _ _ _ _ h=>h
 ·exact ab.rw (Z0 rfl) a
 ·exact ab.int c
 ·exact ab.int d
theorem BL{H:AH}{σ:AE}{C:Ck5}{L i j:Nat}{X:Smp}(l:bj (pa 1) σ=yO L)(a:bj (pa 14) σ= .rw 1 0 (pts C).length 1 0)(c:mk (bj (pa 15) σ)= .si .i64 ((pts C).length:Int))(d:mk (bj (pa 16) σ)= .si .i64 (i:Int))(e:bj (pa 21) σ= .fr X.length 2 (smp X))(f:mk (bj (pa 22) σ)= .si .i64 (X.length:Int))(g:mk (bj (pa 23) σ)= .si .i64 (j:Int)):∀x∈lo2 C L i X j,ab H 7 (λb=>b) (bj (pa x.1) σ) x.2:=λx k=>by
 simp only[Z3,Z4,or_false]at k;rcases k with rfl|rfl|rfl|rfl|rfl|rfl|rfl
 ·show ab H 7 _ (bj (pa 1) σ) (yO L);rw[l];exact λ_ _ _ _ _ h=>h
 ·exact ab.rw (Z0 rfl) a
 ·exact ab.int c
 ·exact ab.int d
 ·exact ab.frE e
 ·exact ab.int f
 ·exact ab.int g
def geF(a:Int)(X:Smp):Smp:=X.filter λx=>decide (a<=x.1)
abbrev rgQ (L D:Nat) (rec:Loop) (ρ:Env) (a b:Int) (X:Smp):HP:=D5 (lI L D rec .ready none) rgE ρ (rgI a b (geF a X)) 7
theorem pY{S:Sr}{C:Ck5}{i:Nat}(h:i<C.length):dB S C= .sep (pk (chs S.sz (C.take i++(C[i].1,C[i].2)::C.drop (i+1)))):=by
 have:=fe h;unfold dB;rw[this]
def bJ(a b:Int)(X:Smp):Smp:=X.filter λx=>decide (a<=x.1)&&decide (x.1<=b)
def RgP(S:Sr)(C:Ck5)(O:Smp):PK:=λu a m=>u= .rw 3 0 O.length 2 0/\a=mkH [(0,.cells (c6 S 1 (pts C).length) true),(1,.cells (aZ (pts C)) true),(2,dB S C),(3,.cells (smp O) true)]/\m=4
theorem Sx{H:AH}{n N:Nat}{S:Sr}{C:Ck5}{O X:Smp}(o:3<=N)(h:X=O)(i:PM.get H 0=some (.cells (c6 S 1 (pts C).length) true))(j:PM.get H 1=some (.cells (aZ (pts C)) true))(k:PM.get H 2=some (dB S C))(l:PM.get H N=some (.cells (smp X) true)):∃(d:AV) (f:AH) (m:Nat),Cov 3 (mkE [(0,.rw N 0 X.length 2 0)]) H n (mkE [(0,d)],f,m)/\RgP S C O d f m:=by
 subst h;refine⟨.rw 3 0 X.length 2 0,_,4,?_,rfl,rfl,rfl⟩;refine Cov.ofR (m:=4) (p:=3) (λc=>if c=3 then N else c) (by decide) (λb q=>if_neg (by omega)) (λx a=>?_) (λx a=>?_) (λx a y g e=>?_)
 ·simp only[Z3,Z4,or_false]at a;subst a;exact ab.rw (Z0 rfl) rfl
 ·simp only[Z3,Z4,or_false]at a;rcases a with rfl|rfl|rfl|rfl
  ·exact⟨Z0 rfl,.inl ⟨_,i,an.c6 rfl rfl rfl rfl rfl (ab.rw (Z0 rfl) rfl)⟩⟩
  ·exact⟨Z0 rfl,.inl ⟨_,j,an.aZ (aC _)⟩⟩
  ·exact⟨Z0 rfl,.inl ⟨_,k,an.sep _⟩⟩
  ·exact⟨Z0 rfl,.inl ⟨_,l,an.iW (bI _) rfl id⟩⟩
 ·simp only[Z3,Z4,or_false]at a g;rcases a with rfl|rfl|rfl|rfl<;>rcases g with rfl|rfl|rfl|rfl<;>simp at e⊢<;>omega
theorem Ym:RTy 52 52 2 16:=⟨_,_,_,rfl,rfl,(λq h=>by cases h),rfl,rfl,rfl,rfl,by decide,by decide⟩
theorem Ii{a b:Int}{X:Smp}(h:∀x∈X,x.1<=b):geF a X=bJ a b X:=by
 refine List.filter_congr λx c=>?_
 have:=h x c;simp[this]
theorem Gg{a b:Int}{X Y:Smp}{x:Int×Int}(d:Up (X++x::Y))(h:∀y∈X,y.1<=b)(f:b<x.1):geF a X=bJ a b (X++x::Y):=by
 unfold bJ;rw[q2j,Ii h]
 have:(x::Y).filter (λy=>decide (a<=y.1)&&decide (y.1<=b))=[]:=List.filter_eq_nil_iff.2 λy c=>by
  have e:=(List.pairwise_append.1 d).2.1
  have:x.1<=y.1:=by
   rcases Z3.1 c with rfl|c
   ·exact Int.le_refl _
   ·exact Int.le_of_lt (List.rel_of_pairwise_cons e c)
  simp only[Z7,decide_eq_true_eq];omega
 rw[this,q0z];rfl
theorem xL{C:Ck5}{i:Nat}(h:i<C.length):ag (C.take (i+1))=ag (C.take i)++C[i].2:=by
 rw[Y8 h,ju];congr 1;simp[ag,cnt]
theorem D7{C:Ck5}{i j:Nat}(h:i<C.length)(a:j<C[i].2.length):ag C=(ag (C.take i)++C[i].2.take j)++C[i].2[j]::(C[i].2.drop (j+1)++ag (C.drop (i+1))):=by
 have b:=fe h;have c:C[i].2=C[i].2.take j++C[i].2[j]::C[i].2.drop (j+1):=by rw[<-q0j a,q1i]
 have d:ag C=ag (C.take i)++(C[i].2++ag (C.drop (i+1))):=by
  have:=congrArg ag b;rw[<-this,ju,bS]
 rw[d];have e:C[i].2++ag (C.drop (i+1))=(C[i].2.take j++C[i].2[j]::C[i].2.drop (j+1))++ag (C.drop (i+1)):=by rw[<-c]
 rw[e];simp only[q0q,q1q]
theorem Ks(S:Sr)(C:Ck5)(a b:Int)(p:Okc S C)(F:Up (ag C))(O:(ag C).length<=100000):fC (RfG cRg (uM KRf) 21) [.ptr 0 0,.si .i64 a,.si .i64 b] (mkH (bF (iy S (pts C) C) 0)) 3 (RgP S C (bJ a b (ag C))):=by
 have P:=p.few;have G:=p.lo;show RfG cRg _ _ _ _ _ _
 conv=>whnf
 refine⟨by kernel_rfl,Z0 rfl,?_⟩
 conv=>whnf
 refine⟨by decide,62,[.ptr 0 0],[4,5,7],mkH [(3,.cells [.si .i64 a] true),(4,.cells [.si .i64 b] true),(5,.cells [.nsl] true)],mkH [(0,.cells (c6 S 1 (pts C).length) true),(1,.cells (aZ (pts C)) true),(2,dB S C)],rgE,rgI a b [],7,rfl,rfl,λc o h=>?_,λc o h=>?_,λc o h=>?_,?_,λL D rec r H=>?_⟩
 ·have hm:=ck h;simp only[Z3,Z4,or_false]at hm;rcases hm with hm|hm|hm<;>(injection hm with h1 d;subst h1 d;rfl)
 ·have hm:=ck h;simp only[Z3,Z4,or_false]at hm;rcases hm with hm|hm|hm<;>(injection hm with h1 d;subst h1 d;rfl)
 ·have hm:=ck h;simp only[Z3,Z4,or_false]at hm;rcases hm with hm|hm|hm<;>(injection hm with h1 d;subst h1 d;exact⟨rfl,rfl⟩)
 ·exact Ig (k:=6) rfl rfl rfl rfl rfl rfl rfl rfl (ab.iV rfl) (.inr ⟨rfl,Z6 _⟩) (by decide)
 conv=>whnf
 refine ah.di (λz=>absurd (show(0:Int)<(S.sz:Int) by omega) z) (λ_=>?_)
 conv=>whnf
 refine aQ.mk {i:Nat//i<=C.length/\∀x∈ag (C.take i),x.1<=b} 7 (λi=>(mkE (lo1 C L i.val),ecM S C (rgQ L D rec r a b (ag (C.take i.val))))) (λi=>C.length-i.val) ⟨0,Y5 _,λx s=>by cases s⟩ ?_ ?_
 focus
  exact D6 _ (Ih rfl rfl rfl rfl) rfl rfl rfl rfl
 intro⟨i,Q,w⟩;have I:IntKind.i64.wrap ((i:Int)+1)=((i+1:Nat):Int):=by rw[aj (by omega) (by omega)];omega
 conv=>whnf
 refine ah.dec (λh=>?_) (λh=>?_)
 focus
  have d:i<C.length:=by
   have h:(i:Int)<((pts C).length:Int):=h;rw[ao]at h;omega
  conv=>whnf
  refine Idx.mk i rfl (by rw[ao];exact d) ?_
  conv=>whnf
  refine au (dy d (show 0+i*1=i by omega)) ?_
  conv=>whnf
  refine⟨2,S.sz,C.take i,C.drop (i+1),C[i].1,C[i].2,rfl,congrArg some (pY d),by omega,p.dR _ (q0i d),?_⟩
  conv=>whnf
  refine aQ.mk {j:Nat//j<=C[i].2.length/\∀x∈ag (C.take i)++C[i].2.take j,x.1<=b} 7 (λj=>(mkE (lo2 C L i C[i].2 j.val),ecM S C (rgQ L D rec r a b (ag (C.take i)++C[i].2.take j.val)))) (λj=>C[i].2.length-j.val) ⟨0,Y5 _,by simpa using w⟩ ?_ ?_
  focus
   exact D6 _ (BL rfl rfl rfl rfl rfl rfl rfl) rfl rfl rfl (congrArg (λX=>some (AO.sep (rgQ L D rec r a b X))) (q0z _).symm)
  have R:=(p.dR _ (q0i d)).2.2;have y:∀{j:Nat},j=C[i].2.length->ag (C.take i)++C[i].2.take j=ag (C.take (i+1)):=λ{j} e=>by rw[xL d,e,q0k]
  have t:∀{j:Nat},j=C[i].2.length->(∀x∈ag (C.take i)++C[i].2.take j,x.1<=b)->∀x∈ag (C.take (i+1)),x.1<=b:=λ{j} e k=>by rw[<-y e];exact k
  intro⟨j,T,u⟩;have l:IntKind.i64.wrap ((j:Int)+1)=((j+1:Nat):Int):=by rw[aj (by omega) (by omega)];omega
  conv=>whnf
  refine ah.dec (λh=>?_) (λh=>?_)
  focus
   have g:j<C[i].2.length:=by
    have h:(j:Int)<(C[i].2.length:Int):=h;omega
   have f:=D7 d g;have v:C[i].2.take (j+1)=C[i].2.take j++ [C[i].2[j]]:=Y8 g;have J:b<C[i].2[j].1->geF a (ag (C.take i)++C[i].2.take j)=bJ a b (ag C):=λz=>(Gg (f▸F) u z).trans (congrArg (bJ a b) f.symm)
   have m:¬b<C[i].2[j].1->∀x∈ag (C.take i)++C[i].2.take (j+1),x.1<=b:=λz x s=>by
    rw[v,<-q0q]at s;rcases q1d.1 s with q|q
    ·exact u x q
    ·rw[q3m.1 q];omega
   have A:a<=C[i].2[j].1->(smp (geF a (ag (C.take i)++C[i].2.take j))++ [AV.si .i64 C[i].2[j].1,AV.si .i64 C[i].2[j].2]).map mk=smp (geF a (ag (C.take i)++C[i].2.take (j+1)))/\(geF a (ag (C.take i)++C[i].2.take j)).length+1=(geF a (ag (C.take i)++C[i].2.take (j+1))).length:=λz=>by
    have:geF a (ag (C.take i)++C[i].2.take (j+1))=geF a (ag (C.take i)++C[i].2.take j)++ [C[i].2[j]]:=by
     rw[v,<-q0q];unfold geF;rw[q2j,List.filter_cons_of_pos (by simpa using z),List.filter_nil]
    rw[this,q0m,bC];exact⟨by rw[sL];rfl,by simp⟩
   have B:¬a<=C[i].2[j].1->geF a (ag (C.take i)++C[i].2.take j)=geF a (ag (C.take i)++C[i].2.take (j+1)):=λz=>by
    rw[v,<-q0q];generalize ag (C.take i)++C[i].2.take j=X;unfold geF;rw[q2j,q3w (by simpa using z),List.filter_nil,q0z]
   have n:((geF a (ag (C.take i)++C[i].2.take j)).length+1)*16<=140737488355328:=by
    have U:(geF a (ag (C.take i)++C[i].2.take j)).length<=(ag (C.take i)++C[i].2.take j).length:=q1e _ _;have K:=congrArg List.length f;rw[Z5,Z9]at K;omega
   conv=>whnf
   refine Idx.mk j rfl g ?_
   conv=>whnf
   refine au (fP g rfl) ?_
   conv=>whnf
   refine Yld.mk _ H ⟨rgI a b (geF a (ag (C.take i)++C[i].2.take j)),7,_,rfl,rfl,Ie,dN rfl,?_⟩
   conv=>whnf
   refine⟨((dN rfl).set rfl).set rfl,?_⟩
   conv=>whnf
   refine ah.dec (λz=>?_) (λz=>?_)
   focus
    conv=>whnf
    refine⟨((dN rfl).set rfl).set rfl,rgI a b (geF a (ag (C.take i)++C[i].2.take j)),7,Ig (k:=6) rfl rfl rfl rfl rfl rfl rfl rfl (ab.rw (Z0 rfl) rfl) (.inl ⟨_,rfl,bC _⟩) (by decide),dN rfl,?_⟩
    conv=>whnf
    refine⟨.done,some (.exit 0),rgI a b (geF a (ag (C.take i)++C[i].2.take j)),7,rfl,(λq=>by cases q),.inr rfl,dN rfl,?_⟩
    conv=>whnf
    refine⟨dN rfl,?_⟩
    conv=>whnf
    exact .inr ⟨6,0,_,2,0,smp _,true,rfl,rfl,bI _,Sx (N:=8) (by decide) (J z) rfl rfl rfl rfl⟩
   conv=>whnf
   refine ah.dec (λz2=>?_) (λz2=>?_)
   focus
    conv=>whnf
    refine eY.grow 2 16 1 (geF a (ag (C.take i)++C[i].2.take j)).length [.si .i64 C[i].2[j].1,.si .i64 C[i].2[j].2] (smp (geF a (ag (C.take i)++C[i].2.take j))) _ true Ym (.old rfl) rfl rfl (.rw rfl (fI _)) n ?_
    conv=>whnf
    refine⟨?_,rgI a b (geF a (ag (C.take i)++C[i].2.take (j+1))),7,Ig (k:=9) rfl rfl rfl rfl rfl rfl rfl rfl (ab.rw (Z0 rfl) rfl (A z2).2) (.inl ⟨_,rfl,(A z2).1⟩) (by decide),dN rfl,?_⟩
    ·repeat first|exact dN rfl|refine dt.set ?_ rfl|refine dt.del ?_
    conv=>whnf
    exact⟨⟨j+1,g,m z⟩,by show C[i].2.length-(j+1)<C[i].2.length-j;omega,D6 _ (BL rfl rfl rfl rfl rfl rfl (congrArg (AV.si .i64) l)) rfl rfl rfl rfl⟩
   conv=>whnf
   refine⟨?_,rgI a b (geF a (ag (C.take i)++C[i].2.take (j+1))),7,Ig (k:=6) rfl rfl rfl rfl rfl rfl rfl rfl (ab.rw (Z0 rfl) rfl (congrArg List.length (B z2))) (.inl ⟨_,rfl,(bC _).trans (congrArg smp (B z2))⟩) (by decide),dN rfl,?_⟩
   ·exact((dN rfl).set rfl).set rfl
   conv=>whnf
   exact⟨⟨j+1,g,m z⟩,by show C[i].2.length-(j+1)<C[i].2.length-j;omega,D6 _ (BL rfl rfl rfl rfl rfl rfl (congrArg (AV.si .i64) l)) rfl rfl rfl rfl⟩
  have E:j=C[i].2.length:=by
   have h:¬(j:Int)<(C[i].2.length:Int):=h;omega
  conv=>whnf
  exact⟨⟨i+1,d,t E u⟩,by show C.length-(i+1)<C.length-i;omega,D6 _ (Ih rfl rfl rfl (congrArg (AV.si .i64) I)) rfl rfl rfl (congrArg (λX=>some (AO.sep (rgQ L D rec r a b X))) (y E))⟩
 have d:i=C.length:=by
  have h:¬(i:Int)<((pts C).length:Int):=h;rw[ao]at h;omega
 have M:geF a (ag (C.take i))=bJ a b (ag C):=by
  rw[Ii w,d,q0k]
 conv=>whnf
 refine⟨.ready,none,rgI a b (geF a (ag (C.take i))),7,rfl,(λq=>by cases q),.inl rfl,dN rfl,?_⟩
 conv=>whnf
 refine⟨dN rfl,?_⟩
 conv=>whnf
 exact .inr ⟨6,0,_,2,0,smp _,true,rfl,rfl,bI _,Sx (N:=7) (by decide) M rfl rfl rfl rfl⟩
theorem QM(f:Nat->Nat)(L:Smp):dw f (smp L)=smp L:=by
 induction L with
 |nil=>rfl
 |cons c L a=>
  show AV.si .i64 c.1::AV.si .i64 c.2::dw f (smp L)=_;rw[a];rfl
theorem Uf(m:Nat)(L:Smp):jO m (smp L)=true:=by
 induction L with
 |nil=>rfl
 |cons c L a=>exact a
theorem Gh {f:FuncId} {run:List AV->AH->Nat->PK->Prop} (e:ai f run) (j:bR Tryz.prog f=true) {c:List AV} {S:Sr} {C:Ck5} {O:Smp} (h:fC run (.ptr 0 0::c) (mkH (bF (iy S (pts C) C) 0)) 3 (RgP S C O)) (l:∀r,dw r c=c)
 {φ:Ph} {H:AH} {n:Nat} {s t:Hp} {m:Array Value} {κ:PK} {K:KH} {r k q:Nat} (v:HR φ H n s t) (i:fc H n r k q S (pts C) C) (d:VRs φ (.ptr r 0::c) m.toList) (w:cD φ s κ K) (x:κ (.rw n 0 O.length 2 0) (PM.set (some (.cells (smp O) true)) aa H n) (n+1)):dI Tryz.prog f m t K:=by
 refine dq (S:=[r,k,q]) (O:=iy S (pts C) C) (args0:= .ptr 0 0::c) (ai.fC e) j v i.xt (by show VRs φ (ren _ _::dw _ c) m.toList;rw[l];exact d) w h λu B D ⟨y,z,A⟩=>?_
 subst y z A;refine⟨4,PM.set (some (.cells (smp O) true)) aa H n,Z0 rfl,λb o g=>?_,rfl,x⟩;rcases PM.ak aa H n b o g with⟨rfl,a⟩|⟨E,a⟩
 ·injection a with a;subst a;exact .inl ⟨3,.cells (smp O) true,by decide,rfl,rfl,rfl,Uf _ _,by rw[bT,QM]⟩
 ·by_cases g:b∈ [r,k,q]
  ·left;simp only[Z3,Z4,or_false]at g;rcases g with rfl|rfl|rfl
   ·rw[i.hr]at a;injection a with a;subst a;exact⟨0,_,by decide,rfl,rfl,rfl,rfl,rfl⟩
   ·rw[i.hk]at a;injection a with a;subst a;exact⟨1,_,by decide,rfl,rfl,rfl,pW _ _,by rw[bT,jR]⟩
   ·rw[i.hq]at a;injection a with a;subst a;exact⟨2,_,by decide,rfl,rfl,rfl,rfl,rfl⟩
  ·exact .inr ⟨by show b<n∨n+1<=b;omega,a,λq=>absurd q g⟩
def NU(A:Sr->Ck5->List AV->Smp->Prop)(args:List AV)(H:AH)(n:Nat)(κ:PK):Prop:=match args with
 |x::a=>∃(r k q:Nat) (S:Sr) (C:Ck5) (O:Smp),x= .ptr r 0/\fc H n r k q S (pts C) C/\(n<900000/\PM.get H n=none)/\A S C a O/\κ (.rw n 0 O.length 2 0) (PM.set (some (.cells (smp O) true)) aa H n) (n+1)
 |_=>False
def Wz(S:Sr)(C:Ck5)(c:List AV)(O:Smp):Prop:=∃y z a b,c=[y,z]/\mk y= .si .i64 a/\mk z= .si .i64 b/\Okc S C/\Up (ag C)/\(ag C).length<=100000/\O=bJ a b (ag C)
theorem Sy:bR Tryz.prog 21=true:=by kernel_rfl
theorem WA:ai 21 (NU Wz):=λargs H n G d I e J L K f c g=>by
 unfold NU at d;split at d
 ·obtain⟨M,h,i,j,l⟩:=c.cons_inv;obtain⟨r,k,q,S,C,O,rfl,m,N,⟨y,z,a,b,rfl,o,p,s,t,u,rfl⟩,d⟩:=d;obtain⟨P,v,w,x,A⟩:=l.cons_inv;obtain⟨Q,B,D,E,F⟩:=A.cons_inv;exact Gh (Sw Sy (b6 tab.mixed uf 5) (sc uf) (nE uf)) Sy (Ks S C a b s t u) (λ_=>rfl) f m (by rw[i,w,D];exact .cons j (.cons (aX rfl (o▸x.mk)) (.cons (aX rfl (p▸E.mk)) F))) g d
 ·exact d.elim
def lnI (m:Nat):AH:=mkH [(3,.cells [.si .i64 (m:Int)] true)]
def lnE:AE:=mkE [(3,.ptr 3 0)]
def lcM (S:Sr) (C:Ck5) (Q:HP):AH:=mkH [(0,.cells (c6 S 1 (pts C).length) true),(1,.cells (aZ (pts C)) true),(2,dB S C),(4,.sep Q)]
abbrev lnQ (L D:Nat) (rec:Loop) (ρ:Env) (X:Smp):HP:=D5 (lI L D rec .ready none) lnE ρ (lnI X.length) 4
theorem Sz{σ:AE}{H:AH}{n m:Nat}{d:List AV}(f:bj (pa 3) σ= .ptr 3 0)(g:PM.get H 3=some (.cells d true))(h:d.map mk=[.si .i64 (m:Int)]):Cov 0 σ H n (lnE,lnI m,4):=by
 refine Cov.ofR (m:=4) (p:=0) (λc=>c) (Y5 _) (λb i=>rfl) (λx a=>?_) (λx a=>?_) (λx a y j e=>e)
 ·simp only[Z3,Z4,or_false]at a;subst a;exact ab.ptr (by decide) f
 ·simp only[Z3,Z4,or_false]at a;subst a;exact⟨Z0 rfl,.inl ⟨_,g,an.iW rfl h id⟩⟩
theorem Ij{σ:AE}{H:AH}{n:Nat}{S:Sr}{C:Ck5}{Q:HP}(le:List (Nat×AV))(c:∀x∈le,ab H 5 (λb=>b) (bj (pa x.1) σ) x.2)(d:PM.get H 0=some (.cells (c6 S 1 (pts C).length) true))(f:PM.get H 1=some (.cells (aZ (pts C)) true))(g:PM.get H 2=some (dB S C))(h:PM.get H 4=some (.sep Q)):Cov 5 σ H n (mkE le,lcM S C Q,5):=by
 refine Cov.ofR (m:=5) (p:=5) (λb=>b) (Z6 _) (λb i=>rfl) c ?_ (λx a y j e=>e);intro x a;simp only[Z3,Z4,or_false]at a;rcases a with rfl|rfl|rfl|rfl
 ·exact⟨Z0 rfl,.inl ⟨_,d,an.c6 rfl rfl rfl rfl rfl (ab.rw (Z0 rfl) rfl)⟩⟩
 ·exact⟨Z0 rfl,.inl ⟨_,f,an.aZ (aC _)⟩⟩
 ·exact⟨Z0 rfl,.inl ⟨_,g,an.sep _⟩⟩
 ·exact⟨Z0 rfl,.inl ⟨_,h,an.sep _⟩⟩
theorem D8{H:AH}{σ:AE}{C:Ck5}{L i:Nat}(f:bj (pa 1) σ=yO L)(a:bj (pa 14) σ= .rw 1 0 (pts C).length 1 0)(c:mk (bj (pa 15) σ)= .si .i64 ((pts C).length:Int))(d:mk (bj (pa 16) σ)= .si .i64 (i:Int)):∀x∈lo1 C L i,ab H 5 (λb=>b) (bj (pa x.1) σ) x.2:=λx e=>by
 simp only[Z3,Z4,or_false]at e;rcases e with rfl|rfl|rfl|rfl
 ·show ab H 5 _ (bj (pa 1) σ) (yO L);rw[f];exact λ_ _ _ _ _ h=>h
 ·exact ab.rw (Z0 rfl) a
 ·exact ab.int c
 ·exact ab.int d
theorem D9{H:AH}{σ:AE}{C:Ck5}{L i j:Nat}{X:Smp}(l:bj (pa 1) σ=yO L)(a:bj (pa 14) σ= .rw 1 0 (pts C).length 1 0)(c:mk (bj (pa 15) σ)= .si .i64 ((pts C).length:Int))(d:mk (bj (pa 16) σ)= .si .i64 (i:Int))(e:bj (pa 21) σ= .fr X.length 2 (smp X))(f:mk (bj (pa 22) σ)= .si .i64 (X.length:Int))(g:mk (bj (pa 23) σ)= .si .i64 (j:Int)):∀x∈lo2 C L i X j,ab H 5 (λb=>b) (bj (pa x.1) σ) x.2:=λx k=>by
 simp only[Z3,Z4,or_false]at k;rcases k with rfl|rfl|rfl|rfl|rfl|rfl|rfl
 ·show ab H 5 _ (bj (pa 1) σ) (yO L);rw[l];exact λ_ _ _ _ _ h=>h
 ·exact ab.rw (Z0 rfl) a
 ·exact ab.int c
 ·exact ab.int d
 ·exact ab.frE e
 ·exact ab.int f
 ·exact ab.int g
theorem QN(S:Sr)(C:Ck5)(d:Okc S C)(x:(ag C).length<=100000):fC (RfG cRg (uM KRf) 57) [.ptr 0 0] (mkH (bF (iy S (pts C) C) 0)) 3 (RoP (λu=>u= .si .i64 ((ag C).length:Int)) S (pts C) C):=by
 have y:=d.few;have l:=d.lo;show RfG cRg _ _ _ _ _ _
 conv=>whnf
 refine⟨by kernel_rfl,Z0 rfl,?_⟩
 conv=>whnf
 refine⟨by decide,62,[.ptr 0 0],[3],mkH [(3,.cells [.int .i64 0] true)],mkH [(0,.cells (c6 S 1 (pts C).length) true),(1,.cells (aZ (pts C)) true),(2,dB S C)],lnE,lnI 0,4,rfl,rfl,λc o h=>?_,λc o h=>?_,λc o h=>?_,?_,λL D rec f m=>?_⟩
 ·have hm:=ck h;simp only[Z3,Z4,or_false]at hm;injection hm with h1 a;subst h1 a;rfl
 ·have hm:=ck h;simp only[Z3,Z4,or_false]at hm;rcases hm with hm|hm|hm<;>(injection hm with h1 a;subst h1 a;rfl)
 ·have hm:=ck h;simp only[Z3,Z4,or_false]at hm;injection hm with h1 a;subst h1 a;exact⟨rfl,rfl⟩
 ·exact Sz rfl rfl rfl
 conv=>whnf
 refine ah.di (λz=>absurd (show(0:Int)<(S.sz:Int) by omega) z) (λ_=>?_)
 conv=>whnf
 refine aQ.mk {i:Nat//i<=C.length} 5 (λi=>(mkE (lo1 C L i.val),lcM S C (lnQ L D rec f (ag (C.take i.val))))) (λi=>C.length-i.val) ⟨0,Y5 _⟩ ?_ ?_
 focus
  exact Ij _ (D8 rfl rfl rfl rfl) rfl rfl rfl rfl
 intro⟨i,A⟩;have n:IntKind.i64.wrap ((i:Int)+1)=((i+1:Nat):Int):=by rw[aj (by omega) (by omega)];omega
 conv=>whnf
 refine ah.dec (λh=>?_) (λh=>?_)
 focus
  have a:i<C.length:=by
   have h:(i:Int)<((pts C).length:Int):=h;rw[ao]at h;omega
  conv=>whnf
  refine Idx.mk i rfl (by rw[ao];exact a) ?_
  conv=>whnf
  refine au (dy a (show 0+i*1=i by omega)) ?_
  conv=>whnf
  refine⟨2,S.sz,C.take i,C.drop (i+1),C[i].1,C[i].2,rfl,congrArg some (pY a),by omega,d.dR _ (q0i a),?_⟩
  conv=>whnf
  refine aQ.mk {j:Nat//j<=C[i].2.length} 5 (λj=>(mkE (lo2 C L i C[i].2 j.val),lcM S C (lnQ L D rec f (ag (C.take i)++C[i].2.take j.val)))) (λj=>C[i].2.length-j.val) ⟨0,Y5 _⟩ ?_ ?_
  focus
   exact Ij _ (D9 rfl rfl rfl rfl rfl rfl rfl) rfl rfl rfl (congrArg (λX=>some (AO.sep (lnQ L D rec f X))) (q0z _).symm)
  have B:=(d.dR _ (q0i a)).2.2;have p:∀{j:Nat},j=C[i].2.length->ag (C.take i)++C[i].2.take j=ag (C.take (i+1)):=λ{j} e=>by rw[xL a,e,q0k]
  intro⟨j,E⟩;have g:IntKind.i64.wrap ((j:Int)+1)=((j+1:Nat):Int):=by rw[aj (by omega) (by omega)];omega
  conv=>whnf
  refine ah.dec (λh=>?_) (λh=>?_)
  focus
   have b:j<C[i].2.length:=by
    have h:(j:Int)<(C[i].2.length:Int):=h;omega
   have k:=D7 a b;have r:C[i].2.take (j+1)=C[i].2.take j++ [C[i].2[j]]:=Y8 b
   have s:IntKind.i64.wrap (((ag (C.take i)++C[i].2.take j).length:Int)+1)=((ag (C.take i)++C[i].2.take (j+1)).length:Int):=by
    have t:=congrArg List.length k;rw[Z5,Z9]at t;rw[r,<-q0q,Z5 (bs:=[_]),aj (by omega) (by omega)];simp
   conv=>whnf
   refine Idx.mk j rfl b ?_
   conv=>whnf
   refine au (fP b rfl) ?_
   conv=>whnf
   refine Yld.mk _ m ⟨lnI (ag (C.take i)++C[i].2.take j).length,4,_,rfl,rfl,Ie,dN rfl,?_⟩
   conv=>whnf
   refine⟨dN rfl,?_⟩
   conv=>whnf
   refine⟨?_,lnI (ag (C.take i)++C[i].2.take (j+1)).length,4,Sz rfl rfl (congrArg (λq=> [AV.si .i64 q]) s),dN rfl,?_⟩
   ·repeat first|exact dN rfl|refine dt.set ?_ rfl|refine dt.del ?_
   conv=>whnf
   exact⟨⟨j+1,b⟩,by show C[i].2.length-(j+1)<C[i].2.length-j;omega,Ij _ (D9 rfl rfl rfl rfl rfl rfl (congrArg (AV.si .i64) g)) rfl rfl rfl rfl⟩
  have v:j=C[i].2.length:=by
   have h:¬(j:Int)<(C[i].2.length:Int):=h;omega
  conv=>whnf
  exact⟨⟨i+1,a⟩,by show C.length-(i+1)<C.length-i;omega,Ij _ (D8 rfl rfl rfl (congrArg (AV.si .i64) n)) rfl rfl rfl (congrArg (λX=>some (AO.sep (lnQ L D rec f X))) (p v))⟩
 have a:i=C.length:=by
  have h:¬(i:Int)<((pts C).length:Int):=h;rw[ao]at h;omega
 have w:ag (C.take i)=ag C:=by rw[a,q0k]
 conv=>whnf
 refine⟨.ready,none,lnI (ag (C.take i)).length,4,rfl,(λq=>by cases q),.inl rfl,dN rfl,?_⟩
 conv=>whnf
 refine⟨dN rfl,?_⟩
 conv=>whnf
 exact .inl ⟨λF G u h=>h,oc _ (congrArg (λX:Smp=>AV.si .i64 (X.length:Int)) w) (VTo.mk5 rfl) VR.eH rfl rfl rfl⟩
def Ug(S:Sr)(C:Ck5)(a:List AV)(v:AV):Prop:=a=[]/\Okc S C/\(ag C).length<=100000/\v= .si .i64 ((ag C).length:Int)
theorem SA:bR Tryz.prog 57=true:=by kernel_rfl
theorem Uh:ai 57 (kl Ug):=jS (Sw SA (b6 tab.mixed uf 5) (sc uf) (nE uf)) SA λS C f v a=>by
 obtain⟨b,c,d,e⟩:=a;subst b e;exact⟨[],λg i h=>h,λ_=>rfl,⟨λ_=>rfl,rfl⟩,QN S C c d⟩
def NV:FuncId->EP:=bg 20 [] evP
theorem QO:aW NV:=aw az (by kernel_rfl) (by kernel_rfl)
def Ea(B:Nat)(f:Smp->Smp->Bool)(args:List AV)(H:AH)(n:Nat)(κ:PK):Prop:=match args with
 | [x,y]=>∃L M,mK H x L/\mK H y M/\L.length<=B/\M.length<=B/\κ (.sb (f L M)) H n
 |_=>False
theorem NW {B:Nat} {F:FuncId->EP} (l:aW F) {d:Nat} {f:FuncId} {g:Smp->Smp->Bool} (b:bR Tryz.prog f=true) (q:ay F d f [.nsl,.nsl] .nil 0 λu _ _=>mkT u=mkT (.bool (g [] [])))
 (r:∀M cap,M.length<=B->ay F d f [.nsl,.sy 0 0 M.length cap 0] (mkH [(0,.ro (smp M))]) 1 λu _ _=>mkT u=mkT (.bool (g [] M)))
 (s:∀L cap,L.length<=B->ay F d f [.sy 0 0 L.length cap 0,.nsl] (mkH [(0,.ro (smp L))]) 1 λu _ _=>mkT u=mkT (.bool (g L [])))
 (t:∀L M D E,L.length<=B->M.length<=B->ay F d f [.sy 0 0 L.length D 0,.sy 1 0 M.length E 0] (mkH [(0,.ro (smp L)),(1,.ro (smp M))]) 2 λu _ _=>mkT u=mkT (.bool (g L M))):ai f (Ea B g):=λargs H n P m Q G R S K i h o=>by
 unfold Ea at m;split at m
 ·obtain⟨x,y,rfl,I,J⟩:=vs2 h;obtain⟨L,M,N,O,w,z,c⟩:=m;rcases N.open i I with⟨rfl,j⟩|⟨p,C,_,k,j⟩<;>rcases O.open i J with⟨rfl,a⟩|⟨T,A,_,e,a⟩
  ·exact iu (v:= .bool (g [] [])) l rfl q c i o b HR.ro0 (.cons (j _) (.cons (a _) .nil))
  ·exact iu (v:= .bool (g [] M)) l rfl (r M A z) c i o b (λa=>HR.ro1 a e) (.cons (j _) (.cons (a _ 0 rfl) .nil))
  ·exact iu (v:= .bool (g L [])) l rfl (s L C w) c i o b (λa=>HR.ro1 a k) (.cons (j _ 0 rfl) (.cons (a _) .nil))
  ·exact iu (v:= .bool (g L M)) l rfl (t L M C A w z) c i o b (λa=>HR.ro2 a k e) (.cons (j _ 0 rfl) (.cons (a _ 1 rfl) .nil))
 ·exact m.elim
theorem Ui:iN Tryz.prog 27=some [(0,0),(0,1)]:=by kernel_rfl
def lz(L M:Smp):Bool:=decide (L=M)
def Gi (L M:Smp) (a b i:Nat):AE×AH:=(mkE [(0,.sy 0 0 L.length a 0),(1,.sy 1 0 M.length b 0),(5,.si .i64 i)],mkH [(0,.ro (smp L)),(1,.ro (smp M))])
theorem Eb {L M:Smp} {c d i p n:Nat} {σ:AE} {H:AH} (f:p<=2) (e0:mk (bj (pa 0) σ)= .sy 0 0 L.length c 0) (g:mk (bj (pa 1) σ)= .sy 1 0 M.length d 0) (h:mk (bj (pa 5) σ)= .si .i64 i)
 (j:H.get 0=some (.ro (smp L))) (k:H.get 1=some (.ro (smp M))):Cov p σ H n ((Gi L M c d i).1,(Gi L M c d i).2,2):=by
 refine Cov.of (λb=>b) f (λb l=>rfl) ?_ ?_ ?_
 ·intro x a;simp only[Z3,Z4,or_false]at a;rcases a with rfl|rfl|rfl
  ·exact .sy (by decide) e0
  ·exact .sy (by decide) g
  ·exact .int h
 ·intro x a;simp only[Z3,Z4,or_false]at a;rcases a with rfl|rfl
  ·exact⟨by simp,_,j,an.wS (bI L) rfl⟩
  ·exact⟨by simp,_,k,an.wS (bI M) rfl⟩
 ·intro x a y e;simp only[Z3,Z4,or_false]at a e;rcases a with rfl|rfl<;>rcases e with rfl|rfl<;>exact λq=>q
theorem vC{L M:Smp}(h:L≠M):AV.sb false=mkT (.bool (lz L M)):=by simp[lz,h,mkT,mk]
theorem NX{L M:Smp}(h:L=M):AV.sb true=mkT (.bool (lz L M)):=by simp[lz,h,mkT,mk]
theorem Kt(L M:Smp)(l m:Nat)(o:L.length<=1000000)(p:M.length<=1000000):ay NV 3 20 [.sy 0 0 L.length l 0,.sy 1 0 M.length m 0] (mkH [(0,.ro (smp L)),(1,.ro (smp M))]) 2 λu _ _=>mkT u=mkT (.bool (lz L M)):=by
 conv=>whnf
 refine ah.di (λf=>?_) (λf=>?_)
 ·conv=>whnf
  exact(show mkT _=AV.sb false from rfl).trans (vC λe=>f (by rw[e]))
 have c:L.length=M.length:=by have:(L.length:Int)=(M.length:Int):=f;omega
 conv=>whnf
 refine aQ.mk {i:Nat//i<L.length+1/\L.take i=M.take i} 2 (λa=>Gi L M l m a.val) (λa=>L.length-a.val) ⟨0,by omega,rfl⟩ ?_ ?_
 ·exact Eb (i:=0) (Z6 2) rfl rfl rfl rfl rfl
 ·intro⟨i,q,g⟩
  conv=>whnf
  refine ah.dec (λh=>?_) (λh=>?_)
  ·have d:i<L.length:=q0t.1 h;have j:i<M.length:=by omega
   have k:L.length-(i+1)<L.length-i:=by omega
   have n:IntKind.i64.wrap ((i:Int)+1)=((i+1:Nat):Int):=by rw[aj (x:=(i:Int)+1) (by omega) (by omega)];omega
   conv=>whnf
   refine Idx.mk i rfl d ?_
   conv=>whnf
   refine au (fP d (by show 0+i*2=i*2;omega)) ?_
   conv=>whnf
   refine Idx.mk i rfl j ?_
   conv=>whnf
   refine au (fP j (by show 0+i*2=i*2;omega)) ?_
   conv=>whnf
   refine au (Kb Ui) ?_
   conv=>whnf
   refine ah.nsb (λb=>?_) (λb=>?_)
   ·conv=>whnf
    refine(show mkT _=AV.sb false from rfl).trans (vC λe=>?_);subst e;have b:(decide (L[i].1=L[i].1)&&(decide (L[i].2=L[i].2)&&true))=false:=b;simp at b
   ·conv=>whnf
    have b:(decide (L[i].1=M[i].1)&&(decide (L[i].2=M[i].2)&&true))=true:=b;simp only[Bool.and_true,Z7,decide_eq_true_eq]at b;refine⟨⟨i+1,by omega,?_⟩,k,Eb (Z6 2) rfl rfl (congrArg (AV.si .i64) n) rfl rfl⟩;rw[Y8 d,Y8 j,g,Prod.ext b.1 b.2]
  ·conv=>whnf
   have d:i=L.length:=by have:¬(i:Int)<(L.length:Int):=h;omega
   subst d;refine(show mkT _=AV.sb true from rfl).trans (NX ?_);rw[q0k,c,q0k]at g;exact g
theorem QP:ay NV 3 20 [.nsl,.nsl] .nil 0 λu _ _=>mkT u=mkT (.bool (lz [] [])):=by
 conv=>whnf
 refine aQ.roll 1 ?_
 conv=>whnf
 rfl
theorem QQ(M:Smp)(cap:Nat):ay NV 3 20 [.nsl,.sy 0 0 M.length cap 0] (mkH [(0,.ro (smp M))]) 1 λu _ _=>mkT u=mkT (.bool (lz [] M)):=by
 conv=>whnf
 refine ah.di (λa=>?_) (λa=>?_)
 ·conv=>whnf
  exact(show mkT _=AV.sb false from rfl).trans (vC λe=>a (by rw[<-e];rfl))
 ·conv=>whnf
  have b:M=[]:=q0c (by have:(0:Int)=(M.length:Int):=a;omega);subst b;refine aQ.roll 1 ?_
  conv=>whnf
  rfl
theorem QR(L:Smp)(cap:Nat):ay NV 3 20 [.sy 0 0 L.length cap 0,.nsl] (mkH [(0,.ro (smp L))]) 1 λu _ _=>mkT u=mkT (.bool (lz L [])):=by
 conv=>whnf
 refine ah.di (λa=>?_) (λa=>?_)
 ·conv=>whnf
  exact(show mkT _=AV.sb false from rfl).trans (vC λe=>a (by rw[e];rfl))
 ·conv=>whnf
  have b:L=[]:=q0c (by have:(L.length:Int)=(0:Int):=a;omega);subst b;refine aQ.roll 1 ?_
  conv=>whnf
  refine ah.dec (λh=>absurd h (by decide)) (λ_=>?_)
  conv=>whnf
  rfl
theorem Ik:ai 20 (Ea 1000000 lz):=NW QO (by kernel_rfl) QP (λM cap _=>QQ M cap) (λL cap _=>QR L cap) Kt
theorem sT(S:Sr)(L:Smp)(t v p:Int):(fg S L t v p).1.2.length<=L.length+1:=by
 unfold fg;generalize (if p=0 then S.pol else p)=q;split
 ·exact q2n _
 ·split
  ·exact q2n _
  ·split
   ·exact Y7 (pj _ _ _) (xC _ _ _ _).1
   ·exact q2n _
theorem NY(S:Sr)(L:Smp)(ret p:Int):(jU S L ret p).1.2.length<=L.length:=by
 unfold jU;split
 ·exact pj _ _ _
 ·exact Z6 _
def Il(args:List AV)(H:AH)(n:Nat)(κ:PK):Prop:=match args with
 | [x,y,z]=>∃(r k q:Nat) (S:Sr) (C:Ck5) (t v p:Int) (L:Smp) (b:Sr) (c:Smp) (e:Int),x= .ptr r 0/\nJ y t v/\mk z= .si .i64 p/\fc H n r k q S (pts C) C/\jT S C/\aP v/\ag C=L/\L.length<=40000/\fg S L t v p=((b,c),e)/\∀a,jT b a->ag a=c->κ (.si .i64 e) (gx H n r k q b (pts a) a) (n+1)
 |_=>False
theorem Uj:ai 72 Il:=λargs H n j a=>T8 args H n j (by
 unfold Il at a;unfold BE;split at a
 ·obtain⟨r,k,q,S,C,t,v,p,L,A,B,e,l,m,o,s,u,w,x,y,d,b⟩:=a;subst x;refine⟨r,k,q,S,C,t,v,p,l,m,o,s,u,w,y,λz c f g h=>?_⟩;have i:=sT S (ag C) t v p;rw[d]at c f g h i;have:=b z ⟨f,g,h,by rw[c];dsimp only at i⊢;omega⟩ c;rw[d];exact this
 ·exact a.elim)
def Im(args:List AV)(H:AH)(n:Nat)(κ:PK):Prop:=match args with
 | [x,y,z]=>∃(r k q:Nat) (S:Sr) (C:Ck5) (a b:Int) (L d:Smp) (m:Nat),x= .ptr r 0/\mk y= .si .i64 a/\mk z= .si .i64 b/\fc H n r k q S (pts C) C/\jT S C/\ag C=L/\L.length<=40000/\aR L a b=d/\L.length-d.length=m/\∀c,jT S c->ag c=d->κ (.si .i64 (m:Int)) (gx H n r k q S (pts c) c) (n+1)
 |_=>False
theorem Uk:ai 100 Im:=λargs H n g c=>NN args H n g (by
 unfold Im at c;unfold vB;split at c
 ·obtain⟨r,k,q,S,C,a,b,L,w,m,h,i,j,l,d,o,x,p,s,e⟩:=c;subst o p s;have y:=BB C;have z:=d.gt.few;have A:=pj (ag C) a b;exact⟨r,k,q,S,C,a,b,h,i,j,l,d.gt.gd.pf,by omega,by omega,λt f u v=>e t ⟨u,v,d.num,by rw[f];omega⟩ f⟩
 ·exact c.elim)
def Io(args:List AV)(H:AH)(n:Nat)(κ:PK):Prop:=match args with
 | [x,y,z]=>∃(r k q:Nat) (S:Sr) (C:Ck5) (ret p:Int) (L:Smp) (b:Sr) (c:Smp) (e:Int),x= .ptr r 0/\mk y= .si .i64 ret/\mk z= .si .i64 p/\fc H n r k q S (pts C) C/\jT S C/\ag C=L/\L.length<=40000/\jU S L ret p=((b,c),e)/\∀a,jT b a->ag a=c->κ (.si .i64 e) (gx H n r k q b (pts a) a) (n+1)
 |_=>False
theorem Ul:ai 108 Io:=λargs H n j a=>Ua args H n j (by
 unfold Io at a;unfold BF;split at a
 ·obtain⟨r,k,q,S,C,ret,p,L,x,y,e,l,m,o,s,t,u,v,d,b⟩:=a;subst u;refine⟨r,k,q,S,C,ret,p,l,m,o,s,t,v,λw c f g h=>?_⟩;have i:=NY S (ag C) ret p;rw[d]at c f g h i;have:=b w ⟨f,g,h,by rw[c];dsimp only at i⊢;omega⟩ c;rw[d];exact this
 ·exact a.elim)
theorem NZ{S:Sr}(b:128<=S.sz)(d:S.sz<=4096)(hn:mQ S):jT S []:=⟨⟨⟨b,d,List.Pairwise.nil,(λc a=>by cases a),(λc a=>by cases a)⟩,(λc a=>by cases a)⟩,(λj h=>by simp at h),hn,Y5 _⟩
theorem QS{sz ret p:Int}{S:Sr}(h:qj sz ret p=some S):jT S []/\S=⟨sz.toNat,ret,p,-1,0⟩:=by
 unfold qj at h;split at h
 ·rename_i k;injection h with h;subst h;exact⟨NZ (by show 128<=sz.toNat;omega) (by show sz.toNat<=4096;omega) ⟨k.2.1,k.2.2,⟨(show(-1:Int)≤-1 by decide),(show(-1:Int)<1099511627776 by decide)⟩,⟨(show(0:Int)<=0 by decide),(show(0:Int)<=1099511627776 by decide)⟩⟩,rfl⟩
 ·cases h
theorem jT.okc{S:Sr}{C:Ck5}(h:jT S C):Okc S C:=h.gt.toPre5.okc (by have:=h.gt.few;have:=h.few;omega)
def Ip(args:List AV)(H:AH)(n:Nat)(κ:PK):Prop:=match args with
 | [x,y,z]=>∃(sz ret p:Int) (r:Option Sr),mk x= .si .i64 sz/\mk y= .si .i64 ret/\mk z= .si .i64 p/\n<900000/\qj sz ret p=r/\match r with
  |none=>κ (.tup [.nil,.int .i64 1]) H n
  |some S=>jT S []->κ (.tup [.ptr n 0,.int .i64 0]) (xJ H n S) (n+3)
 |_=>False
theorem Um:ai 104 Ip:=λargs H n d a=>Ub args H n d (by
 unfold Ip at a;unfold BG;split at a
 ·obtain⟨sz,ret,p,r,e,f,g,h,b,c⟩:=a;refine⟨sz,ret,p,e,f,g,h,λq=>?_,λS q=>?_⟩
  ·rw[b]at q;subst q;exact c
  ·have:=(QS q).1;rw[b]at q;subst q;exact c this
 ·exact a.elim)
def HP.emp:HP where
 P _ X _:=∀B,¬X B
 loc _ _ _ _ _ _ h:=h
 mono _ _ _ _ _ h:=h
 ex _ _ _ B h hB:=absurd hB (h B)
def HP.exi{i:Type}(c:i->Prop)(Q:i->HP):HP where
 P z X h:=∃a,c a/\(Q a).P z X h
 loc z X h g hn e:=λ⟨a,f,d⟩=>⟨a,f,(Q a).loc z X h g hn e d⟩
 mono z z' X h hz:=λ⟨a,f,d⟩=>⟨a,f,(Q a).mono z z' X h hz d⟩
 ex z X h B:=λ⟨a,_,d⟩ j=>(Q a).ex z X h B d j
structure Loc(χ:Ph)(O:List AO)(X:Nat->Prop)(h:Hp):Prop where
 dom:∀i q,χ i=some q->i<O.length/\X q.B
 live:∀i o,O[i]?=some o->o.own=true/\((χ i=none/\o.free=true)∨∃q ob,χ i=some q/\h.f q.B=some ob/\OR χ q o ob)
 inj:∀i j q q',χ i=some q->χ j=some q'->q.B=q'.B->i=j
 ex:∀B,X B->∃o,h.f B=some o
 sep:∀i Q,O[i]?=some (.sep Q)->Q.P χ.z (χ.s i) h/\∀B,χ.s i B->X B/\(∀j q,χ j=some q->q.B≠B)/\∀j Q',O[j]?=some (.sep Q')->j≠i->¬χ.s j B
theorem Loc.to{χ:Ph}{O:List AO}{X:Nat->Prop}{h g:Hp}(l:Loc χ O X h)(hn:h.n<=g.n)(e:∀B,X B->g.f B=h.f B):Loc χ O X g:=
 ⟨l.dom,λi o a=>⟨(l.live i o a).1,(l.live i o a).2.imp id λ⟨q,j,d,k,m⟩=>⟨q,j,d,(e _ (l.dom i q d).2).trans k,m⟩⟩,l.inj,λB c=>by rw[e B c];exact l.ex B c,
  λi Q a=>⟨Q.loc _ _ _ _ hn (λB c=>e B ((l.sep i Q a).2 B c).1) (l.sep i Q a).1,(l.sep i Q a).2⟩⟩
def xM(O:List AO)(p:Nat×Nat):HP where
 P z X h:=∃a:Ph,(∀q,a.z q->z q)/\(∃T,a 0=some ⟨p.1,p.2,T⟩)/\Loc a O X h
 loc _ _ _ _ g e:=λ⟨a,d,f,c⟩=>⟨a,d,f,c.to g e⟩
 mono _ _ _ _ hz:=λ⟨a,d,f,c⟩=>⟨a,λq i=>hz q (d q i),f,c⟩
 ex _ _ _ B:=λ⟨_,_,_,c⟩ j=>c.ex B j
section
variable {φ:Ph} {H H':AH} {n:Nat} {h0 h:Hp} {b:Nat} {O:List AO} {p:Nat×Nat} {Q:HP} {S:List Nat}
theorem HR.Gj (g:HR φ H n h0 h) (R:b<n) (hb:H.get b=some (.sep Q)) (hP:(xM O p).P φ.z (φ.s b) h)
 (U:∀x o,H'.get x=some o->(∃i o',x=n+i/\O[i]?=some o'/\o=bT (λc=>n+c) o')∨(x=b/\o= .sep .emp)∨(x≠b/\(x<n∨n+O.length<=x)/\H.get x=some o)):
 ∃ψ T,PLe φ ψ/\ψ n=some ⟨p.1,p.2,T⟩/\HR ψ H' (n+O.length) h0 h:=by
 obtain⟨t,hz,⟨T,h00⟩,l⟩:=hP;have N:=(g.sep b Q hb).2;have V:=g.nL hb
 have φn:∀x,n<=x->φ x=none:=λx w=>by
  cases e:φ x with
  |none=>rfl
  |some q=>have:=(g.dom x q e).1;omega
 have χn:∀i,O.length<=i->t i=none:=λi hi=>by
  cases e:t i with
  |none=>rfl
  |some q=>have:=(l.dom i q e).1;omega
 let ψ:Ph:=⟨λx=>if n<=x then t (x-n)else φ x,φ.z,φ.y,λx=>if n<=x/\x<n+O.length then t.s (x-n)else if x=b then(λ_=>False)else φ.s x⟩
 have k:∀i,ψ (n+i)=t i:=λi=>by
  show(if n<=n+i then t (n+i-n)else _)=_;rw[if_pos (q0u n i),q3h]
 have d:∀x,(x<n∨n+O.length<=x)->ψ x=φ x:=λx w=>by
  show(if n<=x then t (x-n)else φ x)=φ x;split
  ·rw[φn x (by omega),χn _ (by omega)]
  ·rfl
 have sn:∀{i:Nat} {o:AO},O[i]?=some o->ψ.s (n+i)=t.s i:=λ{i o} hi=>by
  have:=(Y6.1 hi).1;show(if n<=n+i/\n+i<n+O.length then t.s (n+i-n)else _)=_;rw[if_pos ⟨q0u n i,by omega⟩,q3h]
 have sb:ψ.s b=λ_=>False:=by
  show(if n<=b/\b<n+O.length then _ else if b=b then _ else _)=_;rw[if_neg (by omega),if_pos rfl]
 have so:∀x,(x<n∨n+O.length<=x)->x≠b->ψ.s x=φ.s x:=λx w hxb=>by
  show(if n<=x/\x<n+O.length then _ else if x=b then _ else _)=_;rw[if_neg (by omega),if_neg hxb]
 have J:PLe φ ψ:=⟨λx q e=>by rw[d x (.inl (g.dom x q e).1)];exact e,λ_ h=>h,λ_ h=>h⟩;have sle:SLe t (ψ.pull (λc=>n+c)):=⟨λi q e=>by show ψ (n+i)=_;rw[k];exact e,hz⟩
 have cs:∀x o q,H'.get x=some o->o.own=true->ψ x=some q->(∃i,x=n+i/\t i=some q/\φ.s b q.B)∨((x<n∨n+O.length<=x)/\x≠b/\H.get x=some o/\φ x=some q):=λx o q w ho a=>by
  rcases U x o w with⟨i,o',rfl,u,rfl⟩|⟨rfl,rfl⟩|⟨u,f,W⟩
  ·rw[k]at a;exact .inl ⟨i,rfl,a,(l.dom i q a).2⟩
  ·rw[d _ (.inl R),V]at a;cases a
  ·rw[d _ f]at a;exact .inr ⟨f,u,W,a⟩
 refine⟨ψ,T,J,by have:=k 0;rw[q2o]at this;rw[this];exact h00,⟨λx q e=>?_,λx o e=>?_,λx y o o' q q' w D ho L a hq' e=>?_,g.base,g.size,λq a=>?_,λx Q' w=>?_⟩⟩
 ·by_cases hxn:n<=x
  ·obtain⟨i,rfl⟩:∃i,x=n+i:=⟨x-n,by omega⟩;rw[k]at e;have:=l.dom i q e;exact⟨by omega,(N q.B this.2).1.1⟩
  ·rw[d x (.inl (by omega))]at e;have:=g.dom x q e;exact⟨by omega,this.2⟩
 ·rcases U x o e with⟨i,o',rfl,u,rfl⟩|⟨rfl,rfl⟩|⟨u,f,W⟩
  ·obtain⟨E,⟨v,X⟩|⟨q,ob,v,X,g4⟩⟩:=l.live i o' u
   ·exact .inl ⟨by rw[k];exact v,by rw[kP];exact X⟩
   ·refine .inr ⟨q,ob,by rw[k];exact v,?_,X,(OR.pull (χ:=ψ)).2 (g4.c8 sle)⟩;rw[nK,AO.bH E];exact(N q.B (l.dom i q v).2).1.2
  ·exact .inl ⟨by rw[d _ (.inl R)];exact V,rfl⟩
  ·rcases g.live x o W with⟨E,v⟩|⟨q,ob,E,v,X,g4⟩
   ·exact .inl ⟨by rw[d _ f];exact E,v⟩
   ·exact .inr ⟨q,ob,by rw[d _ f];exact E,v,X,g4.mono J⟩
 ·rcases cs x o q w ho a with⟨i,rfl,F,A⟩|⟨F,A,G,I⟩<;>rcases cs y o' q' D L hq' with⟨j,rfl,b1,b2⟩|⟨b1,b2,b3,b4⟩
  ·rw[l.inj i j q q' F b1 e]
  ·exact absurd e.symm ((N _ A).2.1 y o' q' b3 L b4)
  ·exact absurd e ((N _ b2).2.1 x o q G ho I)
  ·exact g.inj x y o o' q q' G b3 ho L I b4 e
 ·refine⟨⟨FzR.mono (φ:=φ) (ψ:=ψ) J.z (g.frz q a).1.1,(g.frz q a).1.2⟩,λx o px w ho hpx=>?_⟩;rcases cs x o px w ho hpx with⟨i,rfl,F,A⟩|⟨F,A,G,I⟩
  ·exact λe=>(N _ A).2.2.1 q a e.symm
  ·exact(g.frz q a).2 x o px G ho I
 ·rcases U x _ w with⟨i,o',rfl,u,f⟩|⟨rfl,f⟩|⟨u,f,W⟩
  ·have f:=mL f.symm;subst f;obtain⟨E,v⟩:=l.sep i Q' u;rw[sn u];refine⟨Q'.mono _ _ _ _ hz E,λB hB=>?_⟩;obtain⟨k1,k2,k3⟩:=v B hB;obtain⟨f1,f2,f3,Y⟩:=N B k1;refine⟨f1,λy o q D ho a=>?_,f3,λy Z D M m=>?_⟩
   ·rcases cs y o q D ho a with⟨j,rfl,F,A⟩|⟨F,A,G,I⟩
    ·exact k2 j q F
    ·exact f2 y o q G ho I
   ·rcases U y _ D with⟨j,o',rfl,C,r⟩|⟨rfl,r⟩|⟨C,r,j3⟩
    ·have r:=mL r.symm;subst r;rw[sn C]at m;exact k3 j Z C (λq=>M (by rw[q])) m
    ·rw[sb]at m;exact m
    ·rw[so y r C]at m;exact Y y Z j3 C m
  ·injection f with f;subst f;rw[sb];exact⟨λ_ h=>h,λ_ h=>h.elim⟩
  ·obtain⟨E,v⟩:=g.sep x Q' W;rw[so x f u];refine⟨E,λB hB=>?_⟩;obtain⟨f1,f2,f3,Y⟩:=v B hB;refine⟨f1,λy o q D ho a=>?_,f3,λy Z D M m=>?_⟩
   ·rcases cs y o q D ho a with⟨j,rfl,F,A⟩|⟨F,A,G,I⟩
    ·exact λe=>Y b Q hb (λq=>u q.symm) (by rw[<-e];exact A)
    ·exact f2 y o q G ho I
   ·rcases U y _ D with⟨j,o',rfl,C,r⟩|⟨rfl,r⟩|⟨C,r,j3⟩
    ·have r:=mL r.symm;subst r;rw[sn C]at m;exact Y b Q hb (λq=>u q.symm) ((l.sep j Z C).2 B m).1
    ·rw[sb]at m;exact m
    ·rw[so y r C]at m;exact Y y Z j3 M m
def xN(H:AH)(S:List Nat)(O:List AO):Prop:=S.Nodup/\S.length=O.length/\∀(i s:Nat) (o:AO),S[i]?=some s->O[i]?=some o->H.get s=some (bT (bz S 0) o)/\o.own=true/\ltO O.length o=true
theorem HR.Gk (l:HR φ H n h0 h) (A:xN H S O) (hb:H.get b=some (.sep .emp)) (hbS:b∉S) {s0 T:Nat} (hs0:S[0]?=some s0) (hp:φ s0=some ⟨p.1,p.2,T⟩)
 (hH:∀x o,H'.get x=some o->(x=b/\o= .sep Q)∨(x≠b/\x∉S/\H.get x=some o)) (hQ:∀z X h,(xM O p).P z X h->Q.P z X h):
 ∃ψ,SLe φ ψ/\PLe φ ψ/\ψ.f=φ.f/\HR ψ H' n h0 h:=by
 have hbo:=l.nL hb
 have ofS:∀{i s},S[i]?=some s->∃o,O[i]?=some o/\H.get s=some (bT (bz S 0) o)/\o.own=true/\ltO O.length o=true:=λ{i s} e=>by
  have J:i<O.length:=by rw[<-A.2.1];exact(Y6.1 e).1
  exact⟨O[i],Y0 J,A.2.2 i s O[i] e (Y0 J)⟩
 have ofO:∀{i o},O[i]?=some o->∃s,S[i]?=some s:=λ{i o} e=>by
  have:=(Y6.1 e).1;rw[<-A.2.1]at this;exact⟨S[i],Y0 this⟩
 let X:Nat->Prop:=λB=>(∃(i s:Nat) (q:Pl),S[i]?=some s/\φ s=some q/\q.B=B)∨∃(i s:Nat) (L:HP),S[i]?=some s/\O[i]?=some (AO.sep L)/\φ.s s B
 let Y:Ph:=⟨λi=>match S[i]? with|some s=>φ s|none=>none,φ.z,φ.y,λi=>match S[i]? with|some s=>φ.s s|none=>λ_=>False⟩
 have M:∀{i s},S[i]?=some s->Y i=φ s:=λ{i s} e=>by
  show(match S[i]? with|some s=>φ s|none=>none)=_;rw[e]
 have χs:∀{i s},S[i]?=some s->Y.s i=φ.s s:=λ{i s} e=>by
  show(match S[i]? with|some s=>φ.s s|none=>λ_=>False)=_;rw[e]
 have N:∀{i q},Y i=some q->∃s,S[i]?=some s/\φ s=some q:=λ{i q} e=>by
  have e:(match S[i]? with|some s=>φ s|none=>none)=some q:=e;cases hi:S[i]? with
  |none=>rw[hi]at e;cases e
  |some s=>rw[hi]at e;exact⟨s,rfl,e⟩
 have own:∀{i s q},S[i]?=some s->φ s=some q->∃o,O[i]?=some o/\H.get s=some (bT (bz S 0) o)/\(bT (bz S 0) o).own=true:=λ{i s q} e1 _=>by
  obtain⟨o,a,c,F,_⟩:=ofS e1;exact⟨o,a,c,by rw[iY];exact F⟩
 have hl:Loc Y O X h:=by
  refine⟨λi q e=>?_,λi o e=>?_,λi j q C e e' I=>?_,λB I=>?_,λi L e=>?_⟩
  ·obtain⟨s,a,c⟩:=N e;exact⟨by rw[<-A.2.1];exact(Y6.1 a).1,.inl ⟨i,s,q,a,c,rfl⟩⟩
  ·obtain⟨s,a⟩:=ofO e;obtain⟨c,F,h4⟩:=A.2.2 i s o a e;refine⟨F,?_⟩;rcases l.live s _ c with⟨G,t⟩|⟨q,ob,G,t,v,Z⟩
   ·exact .inl ⟨by rw[M a];exact G,by rw[kP]at t;exact t⟩
   ·refine .inr ⟨q,ob,by rw[M a];exact G,v,?_⟩;have g5:=(OR.pull (χ:=φ) (r:=bz S 0)).1 Z;refine OR.below (m:=O.length) (χ:=Y) (ψ:=φ.pull (bz S 0)) (λb' p' hb' e'=>?_) (λ_ h=>h) h4 g5;have e':φ (bz S 0 b')=some p':=e';have J:b'<S.length:=by rw[A.2.1];exact hb'
    have hg:S[b']?=some S[b']:=Y0 J;rw[cK hg]at e';rw[M hg];exact e'
  ·obtain⟨s,a,c⟩:=N e;obtain⟨s',h1',h2'⟩:=N e';obtain⟨o,_,t,v⟩:=own a c;obtain⟨E,_,g2',g3'⟩:=own h1' h2';have:=l.inj s s' _ _ q C t g2' v g3' c h2' I;subst this;exact mM A.1 a h1'
  ·rcases I with⟨i,s,q,a,c,rfl⟩|⟨i,s,L,a,c,F⟩
   ·obtain⟨o,_,t,_⟩:=own a c;obtain⟨ob,_,v,_⟩:=l.of t c;exact⟨ob,v⟩
   ·exact L.ex _ _ _ B (l.sep s L (A.2.2 i s _ a c).1).1 F
  ·obtain⟨s,a⟩:=ofO e;obtain⟨k1,k2⟩:=l.sep s L (A.2.2 i s _ a e).1;rw[χs a];refine⟨k1,λB I=>?_⟩;obtain⟨G,t,v,Z⟩:=k2 B I;refine⟨.inr ⟨i,s,L,a,e,I⟩,λj q hj=>?_,λj Q2 hj w hsj=>?_⟩
   ·obtain⟨s',R,f2⟩:=N hj;obtain⟨o,_,f3,f4⟩:=own R f2;exact t s' _ q f3 f4 f2
   ·obtain⟨s',R⟩:=ofO hj;rw[χs R]at hsj;exact Z s' Q2 (A.2.2 j s' _ R hj).1 (λq=>w (by subst q;exact mM A.1 R a)) hsj
 let ψ:Ph:=⟨φ.f,φ.z,φ.y,λx=>if x=b then X else φ.s x⟩
 have sle:SLe φ ψ:=⟨λ_ _ h=>h,λ_ h=>h⟩
 have old:∀x o q,H'.get x=some o->o.own=true->φ x=some q->x≠b/\x∉S/\H.get x=some o:=λx o q U ho V=>by
  rcases hH x o U with⟨rfl,_⟩|h
  ·rw[hbo]at V;cases V
  ·exact h
 refine⟨ψ,sle,⟨λ_ _ h=>h,λ_ h=>h,λ_ h=>h⟩,rfl,⟨l.dom,λx o U=>?_,λx y o E q C U D ho d V k e=>l.inj x y o E q C (old x o q U ho V).2.2 (old y E C D d k).2.2 ho d V k e,l.base,l.size,λq V=>⟨⟨FzR.mono (φ:=φ) (ψ:=ψ) sle.z (l.frz q V).1.1,(l.frz q V).1.2⟩,λx o px U ho hpx=>(l.frz q V).2 x o px (old x o px U ho hpx).2.2 ho hpx⟩,λx L U=>?_⟩⟩
 ·rcases hH x o U with⟨rfl,rfl⟩|⟨_,_,F⟩
  ·exact .inl ⟨hbo,rfl⟩
  ·rcases l.live x o F with g|⟨q,ob,G,t,v,Z⟩
   ·exact .inl g
   ·exact .inr ⟨q,ob,G,t,v,Z.c8 sle⟩
 ·rcases hH x _ U with⟨rfl,c⟩|⟨a,c,F⟩
  ·injection c with c;subst c;have es:ψ.s x=X:=if_pos rfl
   rw[es];refine⟨hQ _ _ _ ⟨Y,λ_ h=>h,⟨T,by rw[M hs0];exact hp⟩,hl⟩,λB I=>?_⟩;rcases I with⟨i,s,q,a,c,rfl⟩|⟨i,s,Q2,a,c,F⟩
   ·obtain⟨o,_,t,v⟩:=own a c;obtain⟨ob,Z,_⟩:=l.of t c;rw[AO.bH v]at Z;refine⟨⟨(l.dom s q c).2,Z⟩,λy E C D d k e=>?_,λq2 hq2 e=>(l.frz q2 hq2).2 s _ q t v c e.symm,λy Q2 D w u=>?_⟩
    ·obtain⟨_,a2,a3⟩:=old y E C D d k;have:=l.inj y s E _ C q a3 t d v k c e;subst this;exact a2 (q0l a)
    ·rcases hH y _ D with⟨W,_⟩|⟨W,_,q3⟩
     ·exact w W
     ·have:ψ.s y=φ.s y:=if_neg W;rw[this]at u;exact((l.sep y Q2 q3).2 _ u).2.1 s _ q t v c rfl
   ·obtain⟨R,f2,f3,f4⟩:=(l.sep s Q2 (A.2.2 i s _ a c).1).2 B F;refine⟨R,λy E C D d k=>f2 y E C (old y E C D d k).2.2 d k,f3,λy Q3 D w u=>?_⟩;rcases hH y _ D with⟨W,_⟩|⟨W,q2,q3⟩
    ·exact w W
    ·have:ψ.s y=φ.s y:=if_neg W;rw[this]at u;exact f4 y Q3 q3 (λe=>q2 (e▸q0l a)) u
  ·obtain⟨k1,k2⟩:=l.sep x L F;have es:ψ.s x=φ.s x:=if_neg a;rw[es];refine⟨k1,λB I=>?_⟩;obtain⟨R,f2,f3,f4⟩:=k2 B I;refine⟨R,λy E C D d k=>f2 y E C (old y E C D d k).2.2 d k,f3,λy Q3 D w u=>?_⟩;rcases hH y _ D with⟨rfl,_⟩|⟨W,q2,q3⟩
   ·have:ψ.s y=X:=if_pos rfl
    rw[this]at u;rcases u with⟨i,s,q,G,t,v⟩|⟨i,s,Q2,G,t,v⟩
    ·obtain⟨o,_,j2,j3⟩:=own G t;exact f2 s _ q j2 j3 t v
    ·exact f4 s Q2 (A.2.2 i s _ G t).1 (λe=>c (e▸q0l G)) v
   ·have:ψ.s y=φ.s y:=if_neg W;rw[this]at u;exact f4 y Q3 q3 w u
theorem HR.hole(d:HR φ H n h0 h):∃ψ,PLe φ ψ/\HR ψ (H.set (some (.sep .emp)) aa n) (n+1) h0 h:=by
 have cs:∀x o,(H.set (some (.sep .emp)) aa n).get x=some o->(x=n/\o= .sep .emp)∨(x≠n/\H.get x=some o):=λx o a=>by
  rcases PM.ak aa H n x o a with⟨t,i⟩|i
  ·injection i with i;exact .inl ⟨t,i.symm⟩
  ·exact .inr i
 have j:φ n=none:=by
  cases e:φ n with
  |none=>rfl
  |some q=>exact absurd (d.dom n q e).1 (q3g _)
 let ψ:Ph:=⟨φ.f,φ.z,φ.y,λx=>if x=n then(λ_=>False)else φ.s x⟩
 have own:∀x o q,(H.set (some (.sep .emp)) aa n).get x=some o->φ x=some q->H.get x=some o:=λx o q a c=>by
  rcases cs x o a with⟨rfl,_⟩|⟨_,I⟩
  ·rw[j]at c;cases c
  ·exact I
 have sle:SLe φ ψ:=⟨λ_ _ h=>h,λ_ h=>h⟩;refine⟨ψ,⟨λ_ _ h=>h,λ_ h=>h,λ_ h=>h⟩,⟨λx q a=>⟨by have:=(d.dom x q a).1;omega,(d.dom x q a).2⟩,λx o a=>?_,λx y o F q G a k ho u c l e=>d.inj x y o F q G (own x o q a c) (own y F G k l) ho u c l e,d.base,d.size,λq c=>⟨⟨FzR.mono (φ:=φ) (ψ:=ψ) sle.z (d.frz q c).1.1,(d.frz q c).1.2⟩,λx o px a ho m=>(d.frz q c).2 x o px (own x o px a m) ho m⟩,λx J a=>?_⟩⟩
 ·rcases cs x o a with⟨rfl,rfl⟩|⟨_,v⟩
  ·exact .inl ⟨j,rfl⟩
  ·rcases d.live x o v with g|⟨q,L,w,A,B,C⟩
   ·exact .inl g
   ·exact .inr ⟨q,L,w,A,B,C.c8 sle⟩
 ·rcases cs x _ a with⟨rfl,i⟩|⟨t,v⟩
  ·injection i with i;subst i;have es:ψ.s x=λ_=>False:=if_pos rfl
   rw[es];exact⟨λ_ h=>h,λX D=>D.elim⟩
  ·obtain⟨M,g⟩:=d.sep x J v;have es:ψ.s x=φ.s x:=if_neg t;rw[es];refine⟨M,λX D=>?_⟩;obtain⟨w,A,B,C⟩:=g X D;refine⟨w,λy o q k ho c=>A y o q (own y o q k c) ho c,B,λy N k E r=>?_⟩;rcases cs y _ k with⟨rfl,_⟩|⟨P,R⟩
   ·have:ψ.s y=λ_=>False:=if_pos rfl
    rw[this]at r;exact r
   ·have:ψ.s y=φ.s y:=if_neg P;rw[this]at r;exact C y N R E r
end
def sU:List AO->Nat->AH->AH
 | [],_,H=>H
 |o::O,k,H=>sU O (k+1) (H.set (some o) aa k)
theorem mR:∀{O:List AO} {k:Nat} {H:AH} {x:Nat} {o:AO},(sU O k H).get x=some o->(∃i,x=k+i/\O[i]?=some o)∨((x<k∨k+O.length<=x)/\H.get x=some o)
 | [],k,H,x,o,h=> .inr ⟨by simp only[q1j];omega,h⟩
 |a::O,k,H,x,o,h=>by
  rcases mR (O:=O) h with⟨i,rfl,d⟩|⟨d,e⟩
  ·exact .inl ⟨i+1,by omega,d⟩
  ·rcases PM.ak aa H k x o e with⟨rfl,c⟩|⟨c,f⟩
   ·injection c with c;subst c;exact .inl ⟨0,rfl,rfl⟩
   ·exact .inr ⟨by simp only[Z9];omega,f⟩
def WB(b n:Nat)(p:Nat×Nat)(κ:PK):PK:=λv a f=>∃(S:List Nat) (c:List AO) (d:HP) (e:AH),xN a S c/\a.get b=some (.sep .emp)/\b∉S/\S[0]?=some n/\(∀z X h,(xM c p).P z X h->d.P z X h)/\(∀x o,e.get x=some o->(x=b/\o= .sep d)∨(x≠b/\x∉S/\a.get x=some o))/\κ v e f
section
variable {φ:Ph} {H:AH} {n:Nat} {h0 hp:Hp} {vs:Array Value} {κ:PK} {K:KH} {b:Nat} {O:List AO} {p:Nat×Nat} {Q:HP} {rest:List AV}
theorem ai.N0 {f:FuncId} {run:List AV->AH->Nat->PK->Prop} (k:ai f run) (C:HR φ H n h0 hp) (w:b<n) (D:H.get b=some (.sep Q)) (E:(xM O p).P φ.z (φ.s b) hp) (e:VRs φ (aA p::rest) vs.toList) (F:cD φ h0 κ K)
 (G:run (.ptr n 0::rest) (sU (O.map (bT λc=>n+c)) n (H.set (some (.sep .emp)) aa b)) (n+O.length) (WB b n p κ)):dI Tryz.prog f vs hp K:=by
 obtain⟨I,T,l,m,y⟩:=C.Gj (H':=sU (O.map (bT λc=>n+c)) n (H.set (some (.sep .emp)) aa b)) w D E λx o J=>by
  rcases mR J with⟨i,t,j⟩|⟨t,j⟩
  ·rw[q0s,Z8]at j;obtain⟨L,j,q⟩:=j;exact .inl ⟨i,L,t,j,q.symm⟩
  ·rcases PM.ak aa H b x o j with⟨q,r⟩|⟨q,r⟩
   ·injection r with r;exact .inr (.inl ⟨q,r.symm⟩)
   ·exact .inr (.inr ⟨q,by rw[Y9]at t;exact t,r⟩)
 obtain⟨M,N,R,A,U⟩:=e.cons_inv;have A:M=qZ p:=A;subst A;refine k _ _ _ _ G I h0 hp vs K y (by rw[R];exact .cons (VR.oY m) (VRs.mono l _ _ U)) λχ v H2 V u g a W X ⟨S,O2,Q2,H3,Y,Z,g3,g4,g5,g6,g7⟩=>?_
 obtain⟨ω,_,d,_,B⟩:=W.Gk Y Z g3 g4 (a.b _ _ m) g6 g5;exact F ω v _ V u g ((l.trans a).trans d) B (VR.mono d _ _ X) g7
def WC(b:Nat)(κ:PK):PK:=λv a j=>∃(S:List Nat) (c:List AO) (d:Nat×Nat->HP) (e:Nat×Nat->AH) (g:Nat×Nat->AV) (s0:Nat) (i:AO),xN a S c/\a.get b=some (.sep .emp)/\b∉S/\S[0]?=some s0/\c[0]?=some i/\i.free=false/\(∀p z X h,(xM c p).P z X h->(d p).P z X h)/\(∀p x o,(e p).get x=some o->(x=b/\o= .sep (d p))∨(x≠b/\x∉S/\a.get x=some o))/\(∀p φ T u,φ.f s0=some ⟨p.1,p.2,T⟩->VR φ v u->VR φ (g p) u)/\∀p,κ (g p) (e p) j
theorem ai.WD {f:FuncId} {run:List AV->AH->Nat->PK->Prop} (j:ai f run) {args:List AV} (I:HR φ H n h0 hp) (d:VRs φ args vs.toList) (D:cD φ h0 κ K)
 (J:run args (H.set (some (.sep .emp)) aa n) (n+1) λv r k=>WC n κ v r k∨∃l,(∀x o,l.get x=some o->r.get x=some o)/\κ v l k):dI Tryz.prog f vs hp K:=by
 obtain⟨L,i,t⟩:=I.hole;refine j _ _ _ _ J L h0 hp vs K t (VRs.mono i _ _ d) λM v r k u g a w E N=>?_
 rcases N with⟨S,O2,P,l,v2,s0,R,m,y,U,F,V,W,X,Y,Z,z⟩|⟨l,m,y⟩
 ·obtain⟨j1,j2,j3⟩:=m.2.2 0 s0 R F V;rcases w.live s0 _ j1 with⟨_,G⟩|⟨q,ob,A,_⟩
  ·rw[kP,W]at G;cases G
  ·have e:q=⟨(q.B,q.s).1,(q.B,q.s).2,q.T⟩:=rfl
   rw[e]at A;obtain⟨ω,_,c,_,C⟩:=w.Gk (Q:=P (q.B,q.s)) m y U F A (Y _) (X _);exact D ω _ _ k u g ((i.trans a).trans c) C (VR.mono c _ _ (Z _ _ _ _ A E)) (z _)
 ·exact D M v l k u g (i.trans a) (w.less m) E y
end
def cq(p:Nat×Nat)(S:Sr)(L:Smp):HP:=HP.exi (λC:Ck5=>jT S C/\ag C=L) λC=>xM (iy S (pts C) C) p
def iI(S:Sr)(L:Smp):Prop:=∃C,jT S C/\ag C=L
def mc(H:AH)(n:Nat):Prop:=n<800000/\PM.get H n=none/\PM.get H (n+1)=none/\PM.get H (n+2)=none/\PM.get H (n+3)=none
def opS (H:AH) (n b:Nat) (S:Sr) (C:Ck5):AH:=PM.set (some (dB S C)) aa (PM.set (some (.cells (aZ (pts C)) true)) aa (PM.set (some (.cells (c6 S (n+1) (pts C).length) true)) aa (PM.set (some (.sep .emp)) aa H b) n) (n+1)) (n+2)
theorem BM(H:AH)(n b:Nat)(S:Sr)(C:Ck5):sU ((iy S (pts C) C).map (bT λc=>n+c)) n (PM.set (some (.sep .emp)) aa H b)=opS H n b S C:=by
 show sU [bT _ (.cells (c6 S 1 (pts C).length) true),bT _ (.cells (aZ (pts C)) true),bT _ (dB S C)] n _=_
 (try simp only[bT,jR])
 rfl
section
variable {H:AH} {n b:Nat} {S:Sr} {C:Ck5}
theorem pq(hn:n<800000):fc (opS H n b S C) (n+3) n (n+1) (n+2) S (pts C) C:=
 ⟨⟨by omega,by omega,by omega⟩,⟨by omega,by omega,by omega⟩,
  PM.aF aa _ _ _ (aH (by omega)) (by omega) (PM.aF aa _ _ _ (aH (by omega)) (by omega) (PM.bN aa _ _ (aH (by omega)))),
  PM.aF aa _ _ _ (aH (by omega)) (by omega) (PM.bN aa _ _ (aH (by omega))),PM.bN aa _ _ (aH (by omega))⟩
theorem Iq(a:b<n)(hn:n<800000):PM.get (opS H n b S C) b=some (.sep .emp):=
 PM.aF aa _ _ _ (aH (by omega)) (by omega) (PM.aF aa _ _ _ (aH (by omega)) (by omega) (PM.aF aa _ _ _ (aH (by omega)) (by omega) (PM.bN aa _ _ (aH (by omega)))))
theorem N1(hn:n<800000){x:Nat}{o:AO}(d:x<n∨n+3<=x)(a:x≠b)(c:b<n)(h:PM.get H x=some o):PM.get (opS H n b S C) x=some o:=
 PM.aF aa _ _ _ (aH (by omega)) (by omega) (PM.aF aa _ _ _ (aH (by omega)) (by omega) (PM.aF aa _ _ _ (aH (by omega)) (by omega) (PM.aF aa _ _ _ (aH (by omega)) a h)))
theorem mc.ne(a:mc H n){x:Nat}{o:AO}(h:PM.get H x=some o):x≠n/\x≠n+1/\x≠n+2/\x≠n+3:=
 have key:∀m,PM.get H m=none->x≠m:=λm c e=>by rw[e,c]at h;cases h
 ⟨key _ a.2.1,key _ a.2.2.1,key _ a.2.2.2.1,key _ a.2.2.2.2⟩
theorem fc.zU{d:AH}{e r k q:Nat}(h:fc d e r k q S (pts C) C):xN d [r,k,q] (iy S (pts C) C):=
 ⟨by simp[h.ne.1,h.ne.2.1,h.ne.2.2],rfl,λi s o a c=>by
  match i,a,c with
  |0,a,c=>injection a with a;injection c with c;subst a c;exact⟨h.hr,rfl,rfl⟩
  |1,a,c=>injection a with a;injection c with c;subst a c;exact⟨by rw[bT,jR];exact h.hk,rfl,pW _ _⟩
  |2,a,c=>injection a with a;injection c with c;subst a c;exact⟨h.hq,rfl,rfl⟩⟩
theorem Ku{a r k q:Nat}{S':Sr}{C':Ck5}{c:AH}(e:r<a/\k<a/\q<a)(d:r≠k/\r≠q/\k≠q)(hn:a<890000):fc (gx c a r k q S' (pts C') C') (a+1) r a q S' (pts C') C':=
 ⟨⟨by omega,by omega,by omega⟩,⟨by omega,by omega,by omega⟩,PM.bN aa _ _ (aH (by omega)),
  PM.aF aa _ _ _ (aH (by omega)) (by omega) (PM.aF aa _ _ _ (aH (by omega)) (by omega) (PM.aF aa _ _ _ (aH (by omega)) (by omega) (PM.bN aa _ _ (aH (by omega))))),
  PM.aF aa _ _ _ (aH (by omega)) (by omega) (PM.aF aa _ _ _ (aH (by omega)) (by omega) (PM.bN aa _ _ (aH (by omega))))⟩
theorem Ec{a r k q:Nat}{S':Sr}{C':Ck5}{d:AH}(hn:a<890000)(e:r<a/\k<a/\q<a){x:Nat}{o:AO}(c:x≠r/\x≠k/\x≠q/\x≠a)(h:PM.get d x=some o):PM.get (gx d a r k q S' (pts C') C') x=some o:=
 PM.aF aa _ _ _ (aH (by omega)) c.1 (PM.aF aa _ _ _ (aH (by omega)) c.2.1 (PM.aF aa _ _ _ (aH (by omega)) c.2.2.1 (PM.aF aa _ _ _ (aH (by omega)) c.2.2.2 h)))
end
section
variable {f:FuncId} {run:List AV->AH->Nat->PK->Prop} {φ:Ph} {H:AH} {n:Nat} {h0 hp:Hp} {vs:Array Value} {κ:PK} {K:KH} {b:Nat} {p:Nat×Nat} {S:Sr} {L:Smp} {rest:List AV}
theorem Kv (j:ai f run) (r:HR φ H n h0 hp) (c:b<n) (q:PM.get H b=some (.sep (cq p S L))) (k:mc H n) (d:VRs φ (aA p::rest) vs.toList) (A:cD φ h0 κ K)
 (B:∀C,jT S C->ag C=L->∃v,run (.ptr n 0::rest) (opS H n b S C) (n+3) (λu s t=>u=v/\s=opS H n b S C/\t=n+3)/\κ v H (n+3)):dI Tryz.prog f vs hp K:=by
 obtain⟨C,⟨w,y⟩,D⟩:=(r.sep b _ q).1;obtain⟨v,E,F⟩:=B C w y;have G:ai f λargs H n κ=>∃a:PK,run args H n a/\∀v l m,a v l m->κ v l m:=λargs H n κ ⟨a,I,J⟩ φ h0 h vs K M N O=>j args H n a I φ h0 h vs K M N λP v l m u g Q R T U=>O P v l m u g Q R T (J _ _ _ U)
 refine G.N0 r c q D d A ?_;rw[BM];refine⟨_,E,λu s t ⟨V,W,Y⟩=>?_⟩;subst V W Y;refine⟨[n,n+1,n+2],_,cq p S L,H,(pq k.1).zU,Iq c k.1,by simp;omega,rfl,λz X h Z=>⟨C,⟨w,y⟩,Z⟩,λx o i=>?_,F⟩;by_cases e:x=b
 ·subst e;rw[q]at i;injection i with i;exact .inl ⟨rfl,i.symm⟩
 ·have:=k.ne i;exact .inr ⟨e,by simp;omega,N1 k.1 (by omega) e c i⟩
theorem Kw (k:ai f run) (t:HR φ H n h0 hp) (c:b<n) (r:PM.get H b=some (.sep (cq p S L))) (i:mc H n) (d:VRs φ (aA p::rest) vs.toList) (D:cD φ h0 κ K)
 (E:∀C,jT S C->ag C=L->∃v o,run (.ptr n 0::rest) (opS H n b S C) (n+3) (λu w y=>u=v/\w=PM.set (some o) aa (opS H n b S C) (n+3)/\y=n+4)/\κ v (PM.set (some o) aa H (n+3)) (n+4)):dI Tryz.prog f vs hp K:=by
 obtain⟨C,⟨A,B⟩,F⟩:=(t.sep b _ r).1;obtain⟨v,G,I,J⟩:=E C A B;have M:ai f λargs H n κ=>∃a:PK,run args H n a/\∀v m q,a v m q->κ v m q:=λargs H n κ ⟨a,N,O⟩ φ h0 h vs K P Q R=>k args H n a N φ h0 h vs K P Q λT v m q u g U V W Y=>R T v m q u g U V W (O _ _ _ Y)
 refine M.N0 t c r F d D ?_;rw[BM];refine⟨_,I,λu w y ⟨Z,e2,e3⟩=>?_⟩;subst Z e2 e3
 have s:fc (PM.set (some G) aa (opS H n b S C) (n+3)) (n+4) n (n+1) (n+2) S (pts C) C:=by
  have:=pq (H:=H) (b:=b) (S:=S) (C:=C) i.1;have hn:=i.1;exact⟨this.ne,⟨by omega,by omega,by omega⟩,PM.aF aa _ _ _ (aH (by omega)) (by omega) this.hr,PM.aF aa _ _ _ (aH (by omega)) (by omega) this.hk,PM.aF aa _ _ _ (aH (by omega)) (by omega) this.hq⟩
 have hn:=i.1;refine⟨[n,n+1,n+2],_,cq p S L,_,s.zU,PM.aF aa _ _ _ (aH (by omega)) (by omega) (Iq c i.1),by simp;omega,rfl,λz X h hh=>⟨C,⟨A,B⟩,hh⟩,λx o hx=>?_,J⟩;rcases PM.ak aa H (n+3) x o hx with⟨rfl,l⟩|⟨l,j⟩
 ·injection l with l;subst l;exact .inr ⟨by omega,by simp,PM.bN aa _ _ (aH (by omega))⟩
 ·by_cases e:x=b
  ·subst e;rw[r]at j;injection j with j;exact .inl ⟨rfl,j.symm⟩
  ·have:=i.ne j;exact .inr ⟨e,by simp;omega,PM.aF aa _ _ _ (aH (by omega)) l (N1 i.1 (by omega) e c j)⟩
theorem xO (i:ai f run) (r:HR φ H n h0 hp) (c:b<n) (s:PM.get H b=some (.sep (cq p S L))) (j:mc H n) (d:VRs φ (aA p::rest) vs.toList) (D:cD φ h0 κ K) {v:AV} {S':Sr} {k:Smp}
 (E:∀C,jT S C->ag C=L->run (.ptr n 0::rest) (opS H n b S C) (n+3) (λu t w=>u=v/\∃C',jT S' C'/\ag C'=k/\t=gx (opS H n b S C) (n+3) n (n+1) (n+2) S' (pts C') C'/\w=n+4))
 (q:iI S' k->κ v (PM.set (some (.sep (cq p S' k))) aa H b) (n+4)):dI Tryz.prog f vs hp K:=by
 obtain⟨C,⟨F,G⟩,I⟩:=(r.sep b _ s).1;have J:=E C F G;have M:ai f λargs H n κ=>∃a:PK,run args H n a/\∀v l m,a v l m->κ v l m:=λargs H n κ ⟨a,N,O⟩ φ h0 h vs K P Q R=>i args H n a N φ h0 h vs K P Q λT v l m u g U V W Y=>R T v l m u g U V W (O _ _ _ Y)
 refine M.N0 r c s I d D ?_;rw[BM];refine⟨_,J,λu t w ⟨Z,C',y,A,e2,e3⟩=>?_⟩;subst Z e2 e3;have hn:=j.1;refine⟨[n,n+3,n+2],_,cq p S' k,_,(Ku (by omega) (by omega) (by omega)).zU,Ec (by omega) (by omega) (by omega) (Iq c j.1),by simp;omega,rfl,λz X h hh=>⟨C',⟨y,A⟩,hh⟩,λx o hx=>?_,q ⟨C',y,A⟩⟩;rcases PM.ak aa H b x o hx with⟨rfl,e⟩|⟨e,B⟩
 ·injection e with e;exact .inl ⟨rfl,e.symm⟩
 ·have:=j.ne B;exact .inr ⟨e,by simp;omega,Ec (by omega) (by omega) (by omega) (N1 j.1 (by omega) e c B)⟩
end
abbrev s0:Sr:=⟨128,10,3,-1,0⟩
abbrev s1:Sr:=⟨128,10,3,5,0⟩
abbrev s2:Sr:=⟨128,10,3,20,10⟩
def kM (C:Ck5):AH:=mkH [(0,.cells (c6 s2 1 (pts C).length) true),(1,.cells (aZ (pts C)) true),(2,dB s2 C),(3,.cells [.int .i64 20,.int .i64 2] true),(4,.cells (smp [(20,2),(10,3)]) true)]
def pt(B:Sr->Smp->List AV->AV->Prop)(args:List AV)(H:AH)(n:Nat)(κ:PK):Prop:=match args with
 |x::a=>∃(b:Nat) (p:Nat×Nat) (S:Sr) (L:Smp) (v:AV),x=aA p/\b<n/\PM.get H b=some (.sep (cq p S L))/\mc H n/\B S L a v/\κ v H (n+3)
 |_=>False
theorem mS{f:FuncId}{A:Sr->Ck5->List AV->AV->Prop}{B:Sr->Smp->List AV->AV->Prop}(g:ai f (kl A))(h:∀S C L d v,jT S C->ag C=L->B S L d v->A S C d v):ai f (pt B):=λargs H n t c u i w x K j a k=>by
 unfold pt at c;split at c
 ·obtain⟨b,p,S,L,v,rfl,l,m,e,o,q⟩:=c;exact Kv g j l m e a k λC r s=>⟨v,⟨n,n+1,n+2,S,C,v,rfl,pq e.1,h S C L _ v r s o,rfl,rfl,rfl⟩,q⟩
 ·exact c.elim
def QT(S:Sr)(_:Smp)(a:List AV)(v:AV):Prop:=a=[]/\v= .si .i64 S.mx
def Un(S:Sr)(_:Smp)(a:List AV)(v:AV):Prop:=a=[]/\v= .si .i64 S.ret
def Uo(S:Sr)(_:Smp)(a:List AV)(v:AV):Prop:=a=[]/\v= .si .i64 S.pol
def WE(_:Sr)(L:Smp)(a:List AV)(v:AV):Prop:=∃y t,a=[y]/\mk y= .si .i64 t/\v= .tup [.si .i64 (ja L t).1,.si .i64 (ja L t).2]
def Uq(_:Sr)(L:Smp)(a:List AV)(v:AV):Prop:=a=[]/\v=sQ L
def SB(_:Sr)(L:Smp)(a:List AV)(v:AV):Prop:=a=[]/\v= .si .i64 (L.length:Int)
theorem WG:ai 24 (pt QT):=mS Wn λS C L d v a _ ⟨b,c⟩=>⟨b,a.gt.lo,c⟩
theorem WH:ai 85 (pt Un):=mS Wq λS C L d v a _ ⟨b,c⟩=>⟨b,a.gt.lo,c⟩
theorem WI:ai 86 (pt Uo):=mS Wt λS C L d v a _ ⟨b,c⟩=>⟨b,a.gt.lo,c⟩
theorem WJ:ai 22 (pt WE):=mS T1 λS C L f v a b ⟨y,t,c,d,e⟩=>by
 subst b;exact⟨y,t,c,d,a.gt,by have:=a.few;omega,e⟩
theorem WK:ai 18 (pt Uq):=mS QG λS C L e v a b ⟨c,d⟩=>by
 subst b;exact⟨c,a.gt,by have:=a.few;omega,d⟩
theorem Ur:ai 57 (pt SB):=mS Uh λS C L e v a b ⟨c,d⟩=>by
 subst b;exact⟨c,a.okc,by have:=a.few;omega,d⟩
def Ed(B:Smp->List AV->Smp->Prop)(args:List AV)(H:AH)(n:Nat)(κ:PK):Prop:=match args with
 |x::a=>∃(b:Nat) (p:Nat×Nat) (S:Sr) (L O:Smp),x=aA p/\b<n/\PM.get H b=some (.sep (cq p S L))/\mc H n/\B L a O/\κ (.rw (n+3) 0 O.length 2 0) (PM.set (some (.cells (smp O) true)) aa H (n+3)) (n+4)
 |_=>False
theorem N2{f:FuncId}{A:Sr->Ck5->List AV->Smp->Prop}{B:Smp->List AV->Smp->Prop}(i:ai f (NU A))(h:∀S C L g O,jT S C->ag C=L->B L g O->A S C g O):ai f (Ed B):=λargs H n w d x j y z K k a l=>by
 unfold Ed at d;split at d
 ·obtain⟨b,p,S,L,O,rfl,m,r,c,s,t⟩:=d;refine Kw i k m r c a l λC u v=>⟨_,_,⟨n,n+1,n+2,S,C,O,rfl,pq c.1,⟨by have:=c.1;omega,?_⟩,h S C L _ O u v s,rfl,rfl,rfl⟩,t⟩
  cases e:PM.get (opS H n b S C) (n+3)with
  |none=>rfl
  |some o=>
   have D:=c.1;rcases PM.ak aa _ _ _ _ e with⟨q,_⟩|⟨_,e⟩
   ·omega
   rcases PM.ak aa _ _ _ _ e with⟨q,_⟩|⟨_,e⟩
   ·omega
   rcases PM.ak aa _ _ _ _ e with⟨q,_⟩|⟨_,e⟩
   ·omega
   rcases PM.ak aa _ _ _ _ e with⟨q,_⟩|⟨_,e⟩
   ·omega
   rw[c.2.2.2.2]at e;cases e
 ·exact d.elim
def Ee(L:Smp)(c:List AV)(O:Smp):Prop:=∃y z a b,c=[y,z]/\mk y= .si .i64 a/\mk z= .si .i64 b/\O=bJ a b L
theorem SC:ai 21 (Ed Ee):=N2 WA λS C L i O c d ⟨y,z,a,b,e,f,g,h⟩=>by
 subst d;exact⟨y,z,a,b,e,f,g,c.okc,c.gt.up,by have:=c.few;omega,h⟩
def Ir(args:List AV)(H:AH)(n:Nat)(κ:PK):Prop:=match args with
 | [x,y,z]=>∃(b:Nat) (p:Nat×Nat) (S:Sr) (L:Smp) (t v q:Int) (a:Sr) (c:Smp) (e:Int),x=aA p/\b<n/\PM.get H b=some (.sep (cq p S L))/\mc H n/\nJ y t v/\mk z= .si .i64 q/\aP v/\L.length<=40000/\fg S L t v q=((a,c),e)/\(iI a c->κ (.si .i64 e) (PM.set (some (.sep (cq p a c))) aa H b) (n+4))
 |_=>False
theorem Us:ai 72 Ir:=λargs H n D c E g F G K h a i=>by
 unfold Ir at c;split at c
 ·obtain⟨b,p,S,L,t,v,q,j,k,e,rfl,l,m,f,o,r,s,u,w,d⟩:=c;exact xO Uj h l m f a i (λC x y=>⟨n,n+1,n+2,S,C,t,v,q,L,j,k,e,rfl,o,r,pq f.1,x,s,y,u,w,λz A B=>⟨rfl,z,A,B,rfl,rfl⟩⟩) d
 ·exact c.elim
def It(args:List AV)(H:AH)(n:Nat)(κ:PK):Prop:=match args with
 | [x,y,z]=>∃(b:Nat) (p:Nat×Nat) (S:Sr) (L:Smp) (a c:Int) (d:Smp) (m:Nat),x=aA p/\b<n/\PM.get H b=some (.sep (cq p S L))/\mc H n/\mk y= .si .i64 a/\mk z= .si .i64 c/\L.length<=40000/\aR L a c=d/\L.length-d.length=m/\(iI S d->κ (.si .i64 (m:Int)) (PM.set (some (.sep (cq p S d))) aa H b) (n+4))
 |_=>False
theorem Ut:ai 100 It:=λargs H n A e B i D E K j d k=>by
 unfold It at e;split at e
 ·obtain⟨b,p,S,L,a,c,l,m,rfl,o,q,h,r,s,t,u,f,g⟩:=e;exact xO Uk j o q h d k (λC v w=>⟨n,n+1,n+2,S,C,a,c,L,l,m,rfl,r,s,pq h.1,v,w,t,u,f,λx y z=>⟨rfl,x,y,z,rfl,rfl⟩⟩) g
 ·exact e.elim
def Iu(args:List AV)(H:AH)(n:Nat)(κ:PK):Prop:=match args with
 | [x,y,z]=>∃(b:Nat) (p:Nat×Nat) (S:Sr) (L:Smp) (r q:Int) (a:Sr) (c:Smp) (e:Int),x=aA p/\b<n/\PM.get H b=some (.sep (cq p S L))/\mc H n/\mk y= .si .i64 r/\mk z= .si .i64 q/\L.length<=40000/\jU S L r q=((a,c),e)/\(iI a c->κ (.si .i64 e) (PM.set (some (.sep (cq p a c))) aa H b) (n+4))
 |_=>False
theorem Uu:ai 108 Iu:=λargs H n A c B g D E K h a i=>by
 unfold Iu at c;split at c
 ·obtain⟨b,p,S,L,r,q,j,k,e,rfl,l,m,f,o,s,t,u,d⟩:=c;exact xO Ul h l m f a i (λC v w=>⟨n,n+1,n+2,S,C,r,q,L,j,k,e,rfl,o,s,pq f.1,v,w,t,u,λx y z=>⟨rfl,x,y,z,rfl,rfl⟩⟩) d
 ·exact c.elim
theorem Kx{H:AH}{n:Nat}{S:Sr}(hn:n<900000):fc (xJ H n S) (n+3) n (n+1) (n+2) S (pts []) []:=
 ⟨⟨by omega,by omega,by omega⟩,⟨by omega,by omega,by omega⟩,PM.gne (by omega) (by omega) (PM.gne (by omega) (by omega) (PM.geq (by omega))),PM.gne (by omega) (by omega) (PM.geq (by omega)),PM.geq (by omega)⟩
theorem Ef{H:AH}{n x:Nat}{S:Sr}{o:AO}(hn:n<900000)(a:x≠n/\x≠n+1/\x≠n+2)(h:PM.get H x=some o):PM.get (xJ H n S) x=some o:=
 PM.gne (by omega) a.2.2 (PM.gne (by omega) a.2.1 (PM.gne (by omega) a.1 h))
def BN(args:List AV)(H:AH)(n:Nat)(κ:PK):Prop:=match args with
 | [x,y,z]=>∃(sz ret q:Int) (r:Option Sr),mk x= .si .i64 sz/\mk y= .si .i64 ret/\mk z= .si .i64 q/\mc H n/\qj sz ret q=r/\match r with
  |none=>κ (.tup [.nil,.int .i64 1]) H (n+1)
  |some S=>∀p,iI S []->κ (.tup [aA p,.int .i64 0]) (PM.set (some (.sep (cq p S []))) aa H n) (n+4)
 |_=>False
theorem Uv:ai 104 BN:=λargs H n J d l m L M K s a t=>by
 unfold BN at d;split at d
 ·obtain⟨sz,ret,q,r,v,y,A,i,B,k⟩:=d;have N:=i.1;refine Um.WD s a t ?_;refine⟨sz,ret,q,r,v,y,A,by omega,B,?_⟩;cases r with
  |none=>
   refine .inr ⟨H,λx o f=>PM.gne (by omega) (i.ne f).1 f,k⟩
  |some S=>
   intro c;refine .inl ⟨[n+1,n+2,n+3],iy S (pts []) [],λp=>cq p S [],λp=>PM.set (some (.sep (cq p S []))) aa H n,λp=> .tup [aA p,.int .i64 0],n+1,_,(Kx (by omega)).zU,Ef (by omega) (by omega) (PM.geq (by omega)),by simp,rfl,rfl,rfl,λp z X h C=>⟨[],⟨c,rfl⟩,C⟩,λp x o f=>?_,λp l T u j D=>?_,λp=>k p ⟨[],c,rfl⟩⟩
   ·rcases PM.ak aa H n x o f with⟨rfl,e⟩|⟨g,b⟩
    ·injection e with e;exact .inl ⟨rfl,e.symm⟩
    ·have:=i.ne b;exact .inr ⟨g,by simp;omega,Ef (by omega) (by omega) (PM.gne (by omega) g b)⟩
   ·obtain⟨cs,rfl,E⟩:=D.eM;obtain⟨w,us,F,g,G⟩:=E.cons_inv;obtain⟨pl,b,I⟩:=g.cw;rw[j]at b;injection b with b;subst b;exact .tup (by rw[F];exact .cons (by subst I;exact rfl) G)
 ·exact d.elim
def xP(args:List AV)(H:AH)(n:Nat)(κ:PK):Prop:=match args with
 | []=>κ (.sb true) H n
 |_=>False
theorem QU:iG xP:= .pure λargs H n c a=>by
 unfold xP at*;split at a
 ·exact⟨_,a,λb h=>h⟩
 ·exact a.elim
theorem ab.aA{H:AH}{m:Nat}{r:Nat->Nat}{a:AV}{p:Nat×Nat}(e:a=Go.Proofs.YtflehenfikoniaaGreat.aA p):ab H m r a (Go.Proofs.YtflehenfikoniaaGreat.aA p):=by
 subst e;exact λb c v _ _ h=>h
theorem mK.Yn{H:AH}{a:AV}{O:Smp}{b:Nat}(c:a= .rw b 0 O.length 2 0)(d:PM.get H b=some (.cells (smp O) true)):mK H a O:= .inr (.inl (.inl ⟨b,0,0,smp O,smp O,⟨c,by decide⟩,.inr ⟨true,d⟩,fI O,bC O⟩))
theorem Ky(L:Smp):lz L L=true:=by unfold lz;exact decide_eq_true rfl
def look(L:Smp)(t:Int):Option Int:=if has L t then some (vAt L (plc L t))else none
theorem Up.uniq{L:Smp}(h:Up L){t a b:Int}(d:(t,a)∈L)(c:(t,b)∈L):a=b:=by
 induction L with
 |nil=>cases d
 |cons x L f=>
  obtain⟨e,g⟩:=q1w.1 h;rcases Z3.1 d with d|d<;>rcases Z3.1 c with c|c
  ·rw[<-d]at c;injection c with _ c;exact c.symm
  ·have:=e _ c;rw[<-d]at this;exact absurd this (Int.lt_irrefl _)
  ·have:=e _ d;rw[<-c]at this;exact absurd this (Int.lt_irrefl _)
  ·exact f g d c
theorem mT{L:Smp}(h:Up L){t v:Int}:look L t=some v<->(t,v)∈L:=by
 unfold look;constructor
 ·intro e;split at e
  ·rename_i q;injection e with e;rw[<-e];exact Be q
  ·cases e
 ·intro a;have b:=(PU h t).2 ⟨_,a,rfl⟩;rw[if_pos b,h.uniq (Be b) a]
theorem ug{L:Smp}(h:Up L){t:Int}:look L t=none<->∀v,(t,v)∉L:=by
 constructor
 ·intro e v a;rw[(mT h).2 a]at e;cases e
 ·intro b;cases e:look L t with
  |none=>rfl
  |some v=>exact absurd ((mT h).1 e) (b v)
theorem look_eq{L M:Smp}(h:Up L)(k:Up M){t s:Int}(e:∀v,(t,v)∈L<->(s,v)∈M):look L t=look M s:=by
 cases a:look L t with
 |none=>
  exact((ug k).2 λv b=>(ug h).1 a v ((e v).2 b)).symm
 |some v=>exact((mT k).2 ((e v).1 ((mT h).1 a))).symm
theorem Kz(L:Smp)(t:Int):ja L t=match look L t with|some v=>(v,0)|none=>(0,5):=by
 unfold ja look;split<;>rfl
def Yo(p:Int):Option Int->Int->Option Int
 |none,v=>some v
 |some o,v=>if(bo p o v).2≠0 then some o else some (bo p o v).1
theorem KA{L:Smp}(b:Up L)(t v p s:Int):look (eE L t v p).1 s=if s=t then Yo p (look L t) v else look L s:=by
 have a:=vz b t v p;unfold eE at a⊢;by_cases h:has L t=true
 ·have c:look L t=some (vAt L (plc L t)):=by unfold look;rw[if_pos h]
  rw[if_pos h]at a⊢;rw[c];show _=if s=t then(if(bo p (vAt L (plc L t)) v).2≠0 then _ else _)else _
  by_cases q:(bo p (vAt L (plc L t)) v).2≠0
  ·rw[if_pos q,if_pos q];split
   ·rename_i e;subst e;exact c
   ·rfl
  ·rw[if_neg q]at a⊢;rw[if_neg q];split
   ·rename_i e;subst e;exact(mT a).2 ((sF b h).2 (.inl rfl))
   ·rename_i e;refine look_eq a b λw=>?_
    show(s,w)∈lq L t _<->_;rw[sF b h];exact⟨λq=>q.elim (λq=>absurd (congrArg Prod.fst q) e) λq=>q.1,λq=> .inr ⟨q,e⟩⟩
 ·have c:look L t=none:=by unfold look;rw[if_neg h]
  rw[if_neg h]at a⊢;rw[c];show _=if s=t then some v else _
  split
  ·rename_i e;subst e;exact(mT a).2 (o9.2 (.inl rfl))
  ·rename_i e;refine look_eq a b λw=>?_
   show(s,w)∈jP L t v<->_;rw[o9];exact⟨λq=>q.elim (λq=>absurd (congrArg Prod.fst q) e) λq=>q,λq=> .inr q⟩
theorem Eg{L:Smp}(c:Up L)(a b:Int):Up (aR L a b):=c.sublist List.filter_sublist
theorem jw{L:Smp}{a b:Int}{x:Int×Int}:x∈aR L a b<->x∈L/\(x.1<a∨b<x.1):=by unfold aR;rw[q1b];simp
theorem xQ{L:Smp}{a b:Int}{x:Int×Int}:x∈bJ a b L<->x∈L/\(a<=x.1/\x.1<=b):=by unfold bJ;rw[q1b];simp
theorem KC{L:Smp}(c:Up L)(a b s:Int):look (aR L a b) s=if a<=s/\s<=b then none else look L s:=by
 split
 ·rename_i h;exact(ug (Eg c a b)).2 λv d=>by have:=(jw.1 d).2;dsimp only at this;omega
 ·rename_i h;refine look_eq (Eg c a b) c λv=>?_
  rw[jw];exact⟨λq=>q.1,λq=>⟨q,by dsimp only;omega⟩⟩
theorem iI.up{S:Sr}{L:Smp}(h:iI S L):Up L:=by obtain⟨C,a,rfl⟩:=h;exact a.gt.up
theorem iI.dR{S:Sr}{L:Smp}(h:iI S L):∀x∈L,(0<=x.1/\x.1<1099511627776)/\aP x.2:=by
 obtain⟨C,b,rfl⟩:=h;intro x a;obtain⟨l,d,a⟩:=List.mem_flatten.1 a;obtain⟨c,e,rfl⟩:=q0e.1 d;exact(b.gt.dR c e).2.1 x a
theorem iI.num{S:Sr}{L:Smp}(h:iI S L):mQ S:=by obtain⟨C,a,rfl⟩:=h;exact a.num
def QV:DT:=[(8,[(some 1000000,[1,3]),(none,[0,1,2,3,4,5,6,7]),(none,[0,2,3,1,4,5,6,7])])]
def Uw:FuncId->EP:=bg 58 QV (aq 118 xA evP)
theorem Iv:aW Uw:=aw (ae az Qj) (by kernel_rfl) (by kernel_rfl)
def cyM (S:Sr) (C C':Ck5):AH:=mkH [(0,.cells (c6 S 1 (pts C).length) true),(1,.cells (aZ (pts C)) true),(2,dB S C),(3,dB S C'),(4,.cells (c6 S 5 (pts C').length) true),(5,.cells (aZ (pts C')) true)]
abbrev cyo(C:Ck5)(i:Nat):List (Nat×AV):=[(3,.ptr 4 0),(16,.rw 1 0 (pts C).length 1 0),(17,.si .i64 ((pts C).length:Int)),(18,.si .i64 (i:Int))]
theorem Iw (k:Nat) {σ:AE} {H:AH} {n:Nat} {S:Sr} {C C':Ck5} {f:AV} (le:List (Nat×AV)) (w:5<=k) (h:∀x∈le,ab H 6 (λc=>if c=5 then k else c) (bj (pa x.1) σ) x.2) (i:PM.get H 0=some (.cells (c6 S 1 (pts C).length) true)) (j:PM.get H 1=some (.cells (aZ (pts C)) true)) (o:PM.get H 2=some (dB S C)) (r:PM.get H 3=some (dB S C'))
 (s:PM.get H 4=some (.cells [.si .i64 (S.sz:Int),.si .i64 S.ret,.si .i64 S.pol,.si .i64 S.mx,.si .i64 S.fl,f] true)) (d:ab H 6 (λc=>if c=5 then k else c) f (.rw 5 0 (pts C').length 1 0)) (t:(∃l,PM.get H k=some (.cells l true)/\l.map mk=aZ (pts C'))∨(C'=[]/\n<=k)):Cov 4 σ H n (mkE le,cyM S C C',6):=by
 refine Cov.ofR (m:=6) (p:=4) (λc=>if c=5 then k else c) (by decide) (λb z=>if_neg (by omega)) h ?_ (λx a y g e=>?_)
 ·intro x a;simp only[Z3,Z4,or_false]at a;rcases a with rfl|rfl|rfl|rfl|rfl|rfl
  ·exact⟨Z0 rfl,.inl ⟨_,i,an.c6 rfl rfl rfl rfl rfl (ab.rw (Z0 rfl) rfl)⟩⟩
  ·exact⟨Z0 rfl,.inl ⟨_,j,an.aZ (aC _)⟩⟩
  ·exact⟨Z0 rfl,.inl ⟨_,o,an.sep _⟩⟩
  ·exact⟨Z0 rfl,.inl ⟨_,r,an.sep _⟩⟩
  ·exact⟨Z0 rfl,.inl ⟨_,s,an.c6 rfl rfl rfl rfl rfl d⟩⟩
  ·exact⟨Z0 rfl,t.elim (λ⟨l,u,v⟩=> .inl ⟨_,u,an.aZ v⟩) (λq=> .inr ⟨by rw[q.1];rfl,q.2⟩)⟩
 ·simp only[Z3,Z4,or_false]at a g;rcases a with rfl|rfl|rfl|rfl|rfl|rfl<;>rcases g with rfl|rfl|rfl|rfl|rfl|rfl<;>simp at e⊢<;>omega
theorem BO{H:AH}{σ:AE}{C:Ck5}{k i:Nat}(f:bj (pa 3) σ= .ptr 4 0)(a:bj (pa 16) σ= .rw 1 0 (pts C).length 1 0)(b:mk (bj (pa 17) σ)= .si .i64 ((pts C).length:Int))(d:mk (bj (pa 18) σ)= .si .i64 (i:Int)):∀x∈cyo C i,ab H 6 (λc=>if c=5 then k else c) (bj (pa x.1) σ) x.2:=λx e=>by
 simp only[Z3,Z4,or_false]at e;rcases e with rfl|rfl|rfl|rfl
 ·exact ab.ptr (Z0 rfl) f
 ·exact ab.rw (Z0 rfl) a
 ·exact ab.int b
 ·exact ab.int d
def CyP(S:Sr)(C:Ck5):PK:=λu b m=>u= .ptr 4 0/\m=6/\∃a,cnt a=cnt C/\b=cyM S C a
theorem KF(S:Sr)(C:Ck5)(f:Okc S C):fC (ay Uw 5 58) [.ptr 0 0] (mkH (bF (iy S (pts C) C++ [dB S []]) 0)) 4 (CyP S C):=by
 have r:=f.few;have l:=f.lo;show ay Uw 5 _ _ _ _ _
 conv=>whnf
 refine ah.di (λz=>absurd (show(0:Int)<(S.sz:Int) by omega) z) (λ_=>?_)
 conv=>whnf
 refine aQ.mk {x:Nat×Ck5//x.1<=C.length/\cnt x.2=(cnt C).take x.1} 6 (λx=>(mkE (cyo C x.val.1),cyM S C x.val.2)) (λx=>C.length-x.val.1) ⟨(0,[]),Y5 _,rfl⟩ ?_ ?_
 focus
  exact Iw (C':=[]) 5 _ (Z6 _) (BO rfl rfl rfl rfl) rfl rfl rfl rfl rfl (ab.iV rfl) (.inr ⟨rfl,Z6 _⟩)
 intro⟨(i,a),n,b⟩;dsimp only at n b;have g:IntKind.i64.wrap ((i:Int)+1)=((i+1:Nat):Int):=by rw[aj (by omega) (by omega)];omega
 have o:a.length=i:=by have:=congrArg List.length b;rw[c7,q0g,c7]at this;omega
 conv=>whnf
 refine ah.dec (λh=>?_) (λh=>?_)
 focus
  have c:i<C.length:=by
   have h:(i:Int)<((pts C).length:Int):=h;rw[ao]at h;omega
  have d:∀q,cnt (a++ [(q,C[i].2)])=(cnt C).take (i+1):=λq=>by
   rw[Y8 (by rw[c7];exact c),<-b];unfold cnt;rw[q0m,List.getElem_map];rfl
  have j:∀q,(aZ (pts a)++ [aA q]).map mk=aZ (pts (a++ [(q,C[i].2)])):=λq=>by rw[kG,sN,q0m,aC];rfl
  have e:∀q,(pts a).length+1=(pts (a++ [(q,C[i].2)])).length:=λq=>by rw[ao,ao,Z5];rfl
  conv=>whnf
  refine Idx.mk i rfl (by rw[ao];exact c) ?_
  conv=>whnf
  refine au (dy c (show 0+i*1=i by omega)) ?_
  conv=>whnf
  refine⟨?_,?_,trivial⟩
  focus
   conv=>whnf
   refine⟨2,3,S.sz,C.take i,C.drop (i+1),a,C[i].1,C[i].2,λq=>a++ [(q,C[i].2)],rfl,⟨by decide,by decide,rfl,congrArg some (pY c)⟩,by decide,⟨by decide,by decide,rfl,rfl⟩,rfl,by decide,by omega,λq=>⟨fb.refl _ _,?_⟩⟩
   conv=>whnf
   refine eY.grow 1 8 1 (pts a).length [aA q] (aZ (pts a)) _ true DX (.old rfl) rfl rfl (.rw rfl (bp (by rw[b7,q0r]))) (by rw[ao];omega) ?_
   conv=>whnf
   exact⟨⟨(i+1,a++ [(q,C[i].2)]),c,d q⟩,by show C.length-(i+1)<C.length-i;omega,Iw 9 _ (by decide) (BO rfl rfl rfl (congrArg (AV.si .i64) g)) rfl rfl rfl rfl rfl (ab.rw (Z0 rfl) (congrArg (λm=>AV.rw 9 0 m 1 0) (e q))) (.inl ⟨_,rfl,j q⟩)⟩
  conv=>whnf
  refine⟨2,3,S.sz,C.take i,C.drop (i+1),a,C[i].1,C[i].2,λq=>a++ [(q,C[i].2)],rfl,⟨by decide,by decide,rfl,congrArg some (pY c)⟩,by decide,⟨by decide,by decide,rfl,rfl⟩,rfl,by decide,by omega,λq=>⟨fb.refl _ _,?_⟩⟩
  conv=>whnf
  refine eY.grow 1 8 1 (pts a).length [aA q] (aZ (pts a)) _ true DX (.old rfl) rfl rfl (.rw rfl (bp (by rw[b7,q0r]))) (by rw[ao];omega) ?_
  conv=>whnf
  exact⟨⟨(i+1,a++ [(q,C[i].2)]),c,d q⟩,by show C.length-(i+1)<C.length-i;omega,Iw 9 _ (by decide) (BO rfl rfl rfl (congrArg (AV.si .i64) g)) rfl rfl rfl rfl rfl (ab.rw (Z0 rfl) (congrArg (λm=>AV.rw 9 0 m 1 0) (e q))) (.inl ⟨_,rfl,j q⟩)⟩
 have c:i=C.length:=by
  have h:¬(i:Int)<((pts C).length:Int):=h;rw[ao]at h;omega
 have p:cnt a=cnt C:=by rw[b,c,<-c7 C,q0k]
 conv=>whnf
 exact⟨.ptr 4 0,cyM S C a,6,Iw 5 [(0,.ptr 4 0)] (Z6 _) (λx k=>by
  simp only[Z3,Z4,or_false]at k;subst k;exact ab.ptr (Z0 rfl) rfl) rfl rfl rfl rfl rfl (ab.rw (Z0 rfl) rfl) (.inl ⟨_,rfl,aC _⟩),rfl,rfl,a,p,rfl⟩
theorem rv{O:List AO}{H:AH}{n b:Nat}(x:Nat)(o:AO)(g:(sU (O.map (bT λc=>n+c)) n (PM.set (some (.sep .emp)) aa H b)).get x=some o):(∃i o',x=n+i/\O[i]?=some o'/\o=bT (λc=>n+c) o')∨(x=b/\o= .sep .emp)∨(x≠b/\(x<n∨n+O.length<=x)/\H.get x=some o):=by
 rcases mR g with⟨i,f,a⟩|⟨f,a⟩
 ·rw[q0s,Z8]at a;obtain⟨o',a,d⟩:=a;exact .inl ⟨i,o',f,a,d.symm⟩
 ·rcases PM.ak aa H b x o a with⟨d,e⟩|⟨d,e⟩
  ·injection e with e;exact .inr (.inl ⟨d,e.symm⟩)
  ·exact .inr (.inr ⟨d,by rw[Y9]at f;exact f,e⟩)
theorem BP{C C':Ck5}(e:cnt C'=cnt C){P:Smp->Prop}(h:∀c∈C,P c.2):∀c∈C',P c.2:=λc b=>by
 have:c.2∈cnt C:=by rw[<-e];exact List.mem_map_of_mem b
 obtain⟨d,hd,q⟩:=q0e.1 this;have a:d.2=c.2:=q;rw[<-a];exact h d hd
theorem jT.cnt{S:Sr}{C C':Ck5}(h:jT S C)(e:Go.Proofs.YtflehenfikoniaaGreat.cnt C'=Go.Proofs.YtflehenfikoniaaGreat.cnt C):jT S C':=by
 have c:ag C'=ag C:=by unfold ag;rw[e]
 have f:C'.length=C.length:=by rw[<-c7,e,c7]
 have d:∀j (a:j<C'.length) (b:j<C.length),C'[j].2=C[j].2:=λj a b=>by
  have:(Go.Proofs.YtflehenfikoniaaGreat.cnt C')[j]?=(Go.Proofs.YtflehenfikoniaaGreat.cnt C)[j]?:=by rw[e]
  unfold Go.Proofs.YtflehenfikoniaaGreat.cnt at this;rw[q0s,q0s,Y0 a,Y0 b]at this;injection this
 refine⟨⟨⟨h.gt.lo,h.gt.hi,by rw[c];exact h.gt.up,BP e h.gt.dR,BP e (P:=λl=>(a8 l).length<=8*S.sz) h.gt.fit⟩,BP e (P:=λl=>l≠[]) h.gt.all⟩,λj a b=>?_,h.num,by rw[c];exact h.few⟩;rw[d j (by omega) (by omega),d (j+1) (by omega) (by omega)];exact h.wh j (by omega) (by omega)
def Eh(args:List AV)(H:AH)(n:Nat)(κ:PK):Prop:=match args with
 | [x]=>∃(b:Nat) (p:Nat×Nat) (S:Sr) (L:Smp),x=aA p/\b<n/\PM.get H b=some (.sep (cq p S L))/\mc H n/\mc H (n+4)/\∀a,κ (aA a) (PM.set (some (.sep (cq a S L))) aa H n) (n+7)
 |_=>False
def cyH (H:AH) (n:Nat) (S:Sr) (C C':Ck5):AH:=PM.set (some (.cells (c6 S (n+2) (pts C).length) true)) aa (PM.set (some (.cells (aZ (pts C)) true)) aa (PM.set (some (dB S C)) aa (PM.set (some (dB S C')) aa (PM.set (some (.cells (c6 S (n+6) (pts C').length) true)) aa (PM.set (some (.cells (aZ (pts C')) true)) aa H (n+6)) (n+5)) (n+4)) (n+3)) (n+2)) (n+1)
theorem N3{H:AH}{n x:Nat}{S:Sr}{C C':Ck5}{o:AO}(hn:n<800000)(a:x<n+1∨n+7<=x)(h:PM.get H x=some o):PM.get (cyH H n S C C') x=some o:=
 PM.gne (by omega) (by omega) (PM.gne (by omega) (by omega) (PM.gne (by omega) (by omega) (PM.gne (by omega) (by omega) (PM.gne (by omega) (by omega) (PM.gne (by omega) (by omega) h)))))
theorem Ux{H:AH}{n:Nat}{S:Sr}{C C':Ck5}(hn:n<800000):fc (cyH H n S C C') (n+7) (n+1) (n+2) (n+3) S (pts C) C:=
 ⟨⟨by omega,by omega,by omega⟩,⟨by omega,by omega,by omega⟩,PM.geq (by omega),PM.gne (by omega) (by omega) (PM.geq (by omega)),PM.gne (by omega) (by omega) (PM.gne (by omega) (by omega) (PM.geq (by omega)))⟩
def Uy (H:AH) (n b:Nat) (S:Sr) (C C':Ck5) (Q:HP):AH:=PM.set (some (.sep Q)) aa (PM.set none aa (PM.set none aa (PM.set none aa (cyH H n S C C') (n+1)) (n+2)) (n+3)) b
theorem xR{H:AH}{n b x:Nat}{S:Sr}{C C':Ck5}{Q:HP}{o:AO}(hn:n<800000)(c:b<n)(a:x≠b/\x≠n+1/\x≠n+2/\x≠n+3)(h:PM.get (cyH H n S C C') x=some o):PM.get (Uy H n b S C C' Q) x=some o:=
 PM.gne (by omega) a.1 (PM.gne (by omega) a.2.2.2 (PM.gne (by omega) a.2.2.1 (PM.gne (by omega) a.2.1 h)))
theorem QW{H:AH}{n b:Nat}{S:Sr}{C C':Ck5}{Q:HP}(hn:n<800000)(a:b<n):fc (Uy H n b S C C' Q) (n+7) (n+5) (n+6) (n+4) S (pts C') C':=
 ⟨⟨by omega,by omega,by omega⟩,⟨by omega,by omega,by omega⟩,
  xR hn a (by omega) (PM.gne (by omega) (by omega) (PM.gne (by omega) (by omega) (PM.gne (by omega) (by omega) (PM.gne (by omega) (by omega) (PM.geq (by omega)))))),
  xR hn a (by omega) (PM.gne (by omega) (by omega) (PM.gne (by omega) (by omega) (PM.gne (by omega) (by omega) (PM.gne (by omega) (by omega) (PM.gne (by omega) (by omega) (PM.geq (by omega))))))),
  xR hn a (by omega) (PM.gne (by omega) (by omega) (PM.gne (by omega) (by omega) (PM.gne (by omega) (by omega) (PM.geq (by omega)))))⟩
theorem QX:ai 58 Eh:=λargs H n κ F φ W hp vs K hr r hk=>by
 unfold Eh at F;split at F
 ·obtain⟨b,p,S,L,rfl,t,hb,Y,w,F⟩:=F;have y:=Y.1;obtain⟨ψ1,l1,G⟩:=hr.hole;have I:PM.get (PM.set (some (.sep .emp)) aa H n) b=some (.sep (cq p S L)):=PM.gne (by omega) (by omega) hb;obtain⟨C,⟨Z,hf⟩,hP⟩:=(G.sep b _ I).1;obtain⟨ψ2,T,l2,J,j⟩:=G.Gj (O:=iy S (pts C) C) (show b<n+1 by omega) I hP rv;rw[BM]at j;have j:HR ψ2 (opS (PM.set (some (.sep .emp)) aa H n) (n+1) b S C) (n+4) W hp:=j;obtain⟨ψ3,l3,hr3⟩:=j.VV;have hat:=pq (H:=PM.set (some (.sep .emp)) aa H n) (n:=n+1) (b:=b) (S:=S) (C:=C);have A:=Iq (H:=PM.set (some (.sep .emp)) aa H n) (n:=n+1) (b:=b) (S:=S) (C:=C) (by omega)
  have hox:∀x o,PM.get H x=some o->x≠b->PM.get (opS (PM.set (some (.sep .emp)) aa H n) (n+1) b S C) x=some o:=λx o f k=>by
   have:=Y.ne f;have:=w.ne f;by_cases q:n+4<=x∨x<n+1
   ·have hxn:x≠n:=by omega
    unfold opS;exact PM.gne (by omega) (by omega) (PM.gne (by omega) (by omega) (PM.gne (by omega) (by omega) (PM.gne (by omega) k (PM.gne (by omega) hxn f))))
   ·omega
  have D:PM.get (opS (PM.set (some (.sep .emp)) aa H n) (n+1) b S C) n=some (.sep .emp):=PM.gne (by omega) (by omega) (PM.gne (by omega) (by omega) (PM.gne (by omega) (by omega) (PM.gne (by omega) (by omega) (PM.geq (by omega)))));generalize hO:opS (PM.set (some (.sep .emp)) aa H n) (n+1) b S C=O at*;have M:n+1<800000:=by have:=w.1;omega
  obtain⟨a1,a2,a3,a4,a5⟩:=hat M;have A:=A M;obtain⟨w1,us1,q1,e1,r1⟩:=r.cons_inv;have e1:w1=qZ p:=e1;subst e1;have l:ψ3 (n+1)=some ⟨p.1,p.2,T⟩:=l3.b _ _ J
  have N:iZ (PM.set (some (.sep (pk []))) aa O (n+4)) (n+5) [n+1,n+2,n+3,n+4] (iy S (pts C) C++ [dB S []]):=⟨by simp,rfl,λi s o a c=>by
   match i,a,c with
   |0,a,c=>injection a with a;injection c with c;subst a c;exact⟨by omega,PM.gne (by omega) (by omega) a3,.inr rfl⟩
   |1,a,c=>injection a with a;injection c with c;subst a c;exact⟨by omega,PM.gne (by omega) (by omega) (by rw[bT,jR];exact a4),.inr rfl⟩
   |2,a,c=>injection a with a;injection c with c;subst a c;exact⟨by omega,PM.gne (by omega) (by omega) a5,.inr rfl⟩
   |3,a,c=>injection a with a;injection c with c;subst a c;exact⟨by omega,PM.geq (by omega),.inr rfl⟩⟩
  refine dq (args0:=[.ptr 0 0]) (κ:=λv H2 n2=>v= .ptr (n+5) 0/\n2=n+7/\∃e,cnt e=cnt C/\H2=cyH (PM.set (some (.sep (pk []))) aa O (n+4)) n S C e) (ax Iv 5 _).fC (by kernel_rfl) hr3 N (by rw[q1];exact .cons (VR.oY l) (VRs.mono ((l1.trans l2).trans l3) _ _ r1)) ?_ (KF S C Z.okc) λu H' n' ⟨g0,g1,e,g2,V⟩=>?_
  ·intro χ v H2 n2 u g m hg hu ⟨g1,g2,e,V,g4⟩;subst g1 g2 g4
   obtain⟨ω1,_,k1,_,P⟩:=hg.Gk (O:=iy S (pts C) C) (S:=[n+1,n+2,n+3]) (b:=b) (p:=p) (Q:=cq p S L) (H':=Uy (PM.set (some (.sep (pk []))) aa O (n+4)) n b S C e (cq p S L)) (Ux y).zU (N3 y (by omega) (PM.gne (by omega) (by omega) A)) (by simp;omega) rfl (m.b _ _ l) (λx o f=>by
    rcases PM.ak aa _ b x o f with⟨E,d⟩|⟨E,d⟩
    ·injection d with d;exact .inl ⟨E,d.symm⟩
    rcases PM.ak aa _ _ x o d with⟨_,j3⟩|⟨j3,j4⟩
    ·cases j3
    rcases PM.ak aa _ _ x o j4 with⟨_,j5⟩|⟨j5,j6⟩
    ·cases j5
    rcases PM.ak aa _ _ x o j6 with⟨_,j7⟩|⟨j7,j8⟩
    ·cases j7
    exact .inr ⟨E,by simp;omega,j8⟩) λz X h N=>⟨C,⟨Z,hf⟩,N⟩
   have R:=QW (H:=PM.set (some (.sep (pk []))) aa O (n+4)) (S:=S) (C:=C) (C':=e) (Q:=cq p S L) y t;rcases P.live _ _ R.hr with⟨_,U⟩|⟨q,ob,U,_⟩
   ·cases U
   have eq:q=⟨(q.B,q.s).1,(q.B,q.s).2,q.T⟩:=rfl
   rw[eq]at U
   obtain⟨ω2,_,k3,_,hr5⟩:=P.Gk (O:=iy S (pts e) e) (S:=[n+5,n+6,n+4]) (b:=n) (p:=(q.B,q.s)) (Q:=cq (q.B,q.s) S L) (H':=PM.set (some (.sep (cq (q.B,q.s) S L))) aa H n) R.zU (xR y t (by omega) (N3 y (by omega) (PM.gne (by omega) (by omega) D))) (by simp) rfl U (λx o f=>by
    rcases PM.ak aa _ n x o f with⟨E,d⟩|⟨E,d⟩
    ·injection d with d;exact .inl ⟨E,d.symm⟩
    have:=Y.ne d;have:=w.ne d;refine .inr ⟨E,by simp;omega,?_⟩;by_cases k:x=b
    ·subst k;rw[hb]at d;injection d with d;subst d;exact PM.geq (by omega)
    ·exact xR y t (by omega) (N3 y (by omega) (PM.gne (by omega) (by omega) (hox x o d k)))) λz X h N=>⟨e,⟨Z.cnt V,by unfold ag;rw[V];exact hf⟩,N⟩
   obtain⟨pl,f1,f2⟩:=hu.cw;have f3:=k1.b _ _ f1;rw[U]at f3;injection f3 with f3;refine hk ω2 (aA (q.B,q.s)) _ _ u g (((((l1.trans l2).trans l3).trans m).trans k1).trans k3) hr5 ?_ (F (q.B,q.s));subst f2 f3;exact rfl
  ·subst g0 g1 V;refine⟨6,kg [n+1,n+2,n+3,n+4] (n+5) (PM.set (some (.sep (pk []))) aa O (n+4)) [(0,some (.cells (c6 S 1 (pts C).length) true)),(1,some (.cells (aZ (pts C)) true)),(2,some (dB S C)),(3,some (dB S e)),(4,some (.cells (c6 S 5 (pts e).length) true)),(5,some (.cells (aZ (pts e)) true))],Z0 rfl,fB.put (Z0 rfl) rfl (λx f o ho=>?_),rfl,rfl,rfl,e,g2,?_⟩
   ·simp only[Z3,Z4,or_false]at f;rcases f with rfl|rfl|rfl|rfl|rfl|rfl
    ·injection ho with ho;subst ho;exact⟨rfl,rfl,rfl⟩
    ·injection ho with ho;subst ho;exact⟨rfl,rfl,pW _ _⟩
    ·injection ho with ho;subst ho;exact⟨rfl,rfl,rfl⟩
    ·injection ho with ho;subst ho;exact⟨rfl,rfl,rfl⟩
    ·injection ho with ho;subst ho;exact⟨rfl,rfl,rfl⟩
    ·injection ho with ho;subst ho;exact⟨rfl,rfl,pW _ _⟩
   ·simp only[kg,q0h,q2l,bT,jR];rfl
 ·exact F.elim
section
variable {φ ψ:Ph} {H:AH} {n:Nat} {h0 hp:Hp}
theorem Ei{H':AH}{x:Nat}{g:Hp}(h:HR φ H n h0 hp)(i:HR ψ H' x hp g)(A:∀q,ψ.y q->φ.z q):∃χ,PLe φ χ/\HR χ H n h0 g/\∀q,ψ.z q->χ.z q:=by
 have j:HR φ H n h0 g:=h.grow (λb o d=>(i.base b o d).2) i.size
 have k:∀B,hp.f B=none->h0.f B=none:=λB e=>by
  cases q:h0.f B with
  |none=>rfl
  |some o=>have:=(h.base B o q).2;rw[e]at this;cases this
 have own:∀B,hp.f B=none->∀b o p,H.get b=some o->o.own=true->φ b=some p->p.B≠B:=λB e b o p d E l q=>by
  obtain⟨F,_,w,_⟩:=h.of d l;rw[q,e]at w;cases w
 have t:∀B,hp.f B=none->∀b Q,H.get b=some (.sep Q)->¬φ.s b B:=λB e b Q d C=>by
  obtain⟨o,ho⟩:=Q.ex _ _ _ _ (h.sep b Q d).1 C;rw[e]at ho;cases ho
 have sub:∀q,ψ.z q->(φ.more λq=>ψ.z q/\hp.f q.B=none).z q:=λq c=>by
  obtain⟨⟨_,a⟩,_⟩:=i.frz q c;rcases a with a|a
  ·exact .inl (A q a)
  ·exact .inr ⟨c,a⟩
 refine⟨φ.more λq=>ψ.z q/\hp.f q.B=none,φ.pT _,j.more λq c=>?_,sub⟩;obtain⟨⟨D,_⟩,_⟩:=i.frz q c.1;exact⟨FzR.mono sub D,k _ c.2,own _ c.2,t _ c.2⟩
end
theorem HR.Yp{φ:Ph}{H:AH}{n:Nat}{h0 h:Hp}(e:HR φ H n h0 h){b m k x:Nat}{l s:List AV}{z:Bool}{v:Value}(j:H.get b=some (.cells l z))(hv:VR φ (.rw b 0 m k x) v)(M:x≠4)(N:s.all mF=true)(d:s.length=m*k)(y:∀(i:Nat) g,s[i]?=some g->∃a,l[i]?=some a/\∀w,VR φ a w->VR φ g w)(O:l.length=m*k):
 ∃χ,PLe φ χ/\HR χ (H.set none aa b) n h0 h/\VR χ (.fr m k s) v:=by
 have hk:=e.kill aa b;rcases hv.gX with⟨J,A⟩|⟨p,a,C,c,rfl,P,h3,R,h5,_,_⟩
 ·have hs0:s=[]:=q0c (by rw[d,J,q1o]);subst J hs0;rw[A.nil M];exact⟨φ,.refl φ,hk,.fre λ_=>rfl⟩
 ·by_cases D:m=0
  ·have hs0:s=[]:=q0c (by rw[d,D,q1o]);subst D hs0;exact⟨φ,.refl φ,hk,.fre λq=>by cases q⟩
  ·have S:=P D;subst S;obtain⟨ob,E,F,K,t,fz,rfl,o1,o2,o3,o4,T⟩:=e.of j c;refine⟨φ.more λq=>q=⟨p.B,p.s+0,s⟩,φ.pT _,hk.more λq U=>?_,?_⟩
   ·subst U;refine⟨⟨⟨(e.dom _ _ c).2,N⟩,K,t,fz,F,(show p.s+0+s.length<=K.size by omega),λi g V=>?_⟩,E,λf L W G I X Y=>?_,λf Q G I=>?_⟩
    ·obtain⟨a,Z,g2⟩:=y i g V;obtain⟨v,g3,g4⟩:=T i a Z;exact⟨v,g3,VR.mono (φ.pT _) _ _ (g2 v g4)⟩
    ·rcases PM.ak aa H b f L G with⟨_,h⟩|⟨h6,h7⟩
     ·cases h
     ·exact h6 (e.inj f b L _ W p h7 j I rfl X c Y)
    ·rcases PM.ak aa H b f _ G with⟨_,h⟩|⟨_,h⟩
     ·cases h
     ·exact((e.sep f Q h).2 _ I).2.1 b _ p j rfl c rfl
   ·have:VR (φ.more λq=>q=⟨p.B,p.s+0,s⟩) (.fr m k s) (.slice (some ⟨p.B,p.s+0+0,none⟩) m C):= .fr (q:=⟨p.B,p.s+0,s⟩) (o:=0) (.inr rfl) R (bp d);exact this
def KI:AV->Bool
 | .agg l=>l.all mF
 |v=>mF v
def gy:AV->Bool
 | .tup l=>l.all KI
 |v=>KI v
theorem zV{φ ψ:Ph}(c:∀q,φ.z q->ψ.z q):∀{l:List AV} {vs:List Value},l.all mF=true->VRs φ l vs->VRs ψ l vs
 | [],_,_,h=>by rw[h.aU];exact .nil
 |a::l,vs,b,h=>by
  obtain⟨v,us,rfl,d,e⟩:=h.cons_inv;simp only[q1x,Z7]at b;exact .cons (lT c b.1 d) (zV c b.2 e)
theorem Iy{φ ψ:Ph}(b:∀q,φ.z q->ψ.z q){a:AV}{w:Value}(h:KI a=true)(c:VR φ a w):VR ψ a w:=by
 cases a
 case agg l=>
  obtain⟨cs,rfl,d⟩:=c.dY;exact .agg (zV b h d)
 all_goals exact lT b h c
theorem Ej{φ ψ:Ph}(c:∀q,φ.z q->ψ.z q):∀{l:List AV} {vs:List Value},l.all KI=true->VRs φ l vs->VRs ψ l vs
 | [],_,_,h=>by rw[h.aU];exact .nil
 |a::l,vs,b,h=>by
  obtain⟨v,us,rfl,d,e⟩:=h.cons_inv;simp only[q1x,Z7]at b;exact .cons (Iy c b.1 d) (Ej c b.2 e)
theorem nN{φ ψ:Ph}(b:∀q,φ.z q->ψ.z q){a:AV}{w:Value}(h:gy a=true)(c:VR φ a w):VR ψ a w:=by
 cases a
 case tup l=>
  obtain⟨cs,rfl,d⟩:=c.eM;exact .tup (Ej b h d)
 all_goals exact Iy b h c
theorem Ek{φ ψ:Ph}(c:∀q,φ.z q->ψ.z q):∀{l:List AV} {vs:List Value},l.all gy=true->VRs φ l vs->VRs ψ l vs
 | [],_,_,h=>by rw[h.aU];exact .nil
 |a::l,vs,b,h=>by
  obtain⟨v,us,rfl,d,e⟩:=h.cons_inv;simp only[q1x,Z7]at b;exact .cons (nN c b.1 d) (Ek c b.2 e)
section
variable {r:Nat->Nat} {m:Nat}
theorem xS{a:AV}(h:mF a=true):ren r a=a/\ltV m a=true:=by cases a<;>first|exact⟨rfl,rfl⟩|cases h
theorem pZ:∀{l:List AV},l.all mF=true->dw r l=l/\jO m l=true
 | [],_=>⟨rfl,rfl⟩
 |a::l,h=>by
  simp only[q1x,Z7]at h;exact⟨by simp only[dw,(xS (r:=r) (m:=m) h.1).1,(pZ h.2).1],by simp only[jO,(xS (r:=r) (m:=m) h.1).2,(pZ h.2).2,Bool.and_self]⟩
theorem xU{a:AV}(h:KI a=true):ren r a=a/\ltV m a=true:=by
 cases a
 case agg l=>exact⟨congrArg AV.agg (pZ (r:=r) (m:=m) h).1,(pZ (r:=r) (m:=m) h).2⟩
 all_goals exact xS h
theorem p6:∀{l:List AV},l.all KI=true->dw r l=l/\jO m l=true
 | [],_=>⟨rfl,rfl⟩
 |a::l,h=>by
  simp only[q1x,Z7]at h;exact⟨by simp only[dw,(xU (r:=r) (m:=m) h.1).1,(p6 h.2).1],by simp only[jO,(xU (r:=r) (m:=m) h.1).2,(p6 h.2).2,Bool.and_self]⟩
theorem jb{a:AV}(h:gy a=true):ren r a=a/\ltV m a=true:=by
 cases a
 case tup l=>exact⟨congrArg AV.tup (p6 (r:=r) (m:=m) h).1,(p6 (r:=r) (m:=m) h).2⟩
 all_goals exact xU h
theorem kU:∀{l:List AV},l.all gy=true->dw r l=l
 | [],_=>rfl
 |a::l,h=>by
  simp only[q1x,Z7]at h;simp only[dw,(jb (r:=r) (m:=0) h.1).1,kU h.2]
end
def Re(H:AH)(n:Nat)(u:AV)(H2:AH)(v:AV):Prop:=∀(φ:Ph) (h0 h:Hp) (w:Value),HR φ H n h0 h->VR φ u w->∃ψ,PLe φ ψ/\HR ψ H2 n h0 h/\VR ψ v w
def Res(H:AH)(n:Nat)(us:List AV)(H2:AH)(vs:List AV):Prop:=∀(φ:Ph) (h0 h:Hp) (ws:List Value),HR φ H n h0 h->VRs φ us ws->∃ψ,PLe φ ψ/\HR ψ H2 n h0 h/\VRs ψ vs ws
section
variable {H H1 H2:AH} {n:Nat} {u v:AV} {us vs:List AV}
theorem Re.same:Re H n u H u:=λφ _ _ _ a b=>⟨φ,.refl φ,a,b⟩
theorem Re.of(h:∀φ w,VR φ u w->VR φ v w):Re H n u H v:=λφ _ _ w a b=>⟨φ,.refl φ,a,h φ w b⟩
theorem WL{φ:Ph}{a:AV}{w:Value}(h:VR φ (mk a) w):VR φ a w:=by cases a<;>exact h
theorem N4{φ:Ph}:∀{l:List AV} {ws:List Value},VRs φ (l.map mk) ws->VRs φ l ws
 | [],_,h=>h
 |a::l,ws,h=>by
  obtain⟨w,us,rfl,b,c⟩:=h.cons_inv;exact .cons (WL b) (N4 c)
theorem Iz{φ:Ph}{a:AV}{w:Value}(h:VR φ (mkT a) w):VR φ a w:=by
 cases a
 case tup l=>obtain⟨cs,rfl,b⟩:=h.eM;exact .tup (N4 b)
 all_goals exact WL h
theorem Re.told(e:mkT u=mkT v):Re H n u H v:=Re.of λ_ _ h=>Iz (e▸h.mkT)
theorem Re.agg{l l':List AV}(e:l.map mk=l'.map mk):Re H n (.agg l) H (.agg l'):=Re.of λ_ _ h=>by
 obtain⟨cs,rfl,a⟩:=h.dY;exact .agg (N4 (e▸a.mk))
theorem Re.nsl{k:Nat}:Re H n .nsl H (.fr 0 k []):=Re.of λφ w h=>by rw[h.c9];exact .fre λ_=>rfl
theorem Re.row{b m k x:Nat}{l s:List AV}{z:Bool}(q:H.get b=some (.cells l z))(d:s.all flat.flat1=true)(f:s.length=m*k)(c:l.map mk=s.map mk)(t:x≠4:=by decide):Re H n (.rw b 0 m k x) (H.set none aa b) (.fr m k s):=λφ h0 h w A B=>by
 have g:s.all mF=true:=by
  rw[q0a]at d⊢;intro y C;have:=d y C;cases y<;>first|rfl|cases this
 refine A.Yp q B t g f (λi j o=>?_) (by have:=congrArg List.length c;simp only[Y9]at this;omega);have e:=congrArg (λx:List AV=>x[i]?) c;simp only[q0s,o,q0h]at e;rw[Z8]at e;obtain⟨a,D,E⟩:=e;refine⟨a,D,λw F=>?_⟩;have p:VR φ (mk j) w:=E▸F.mk;exact aX (q0a.1 d j (q0l o)) (by cases j<;>first|exact p|exact p)
theorem Res.nil:Res H n [] H []:=λφ _ _ _ a b=>⟨φ,.refl φ,a,b⟩
theorem Res.cons(h:Re H n u H1 v)(k:Res H1 n us H2 vs):Res H n (u::us) H2 (v::vs):=λφ h0 hp ws d e=>by
 obtain⟨w,a,rfl,f,g⟩:=e.cons_inv;obtain⟨ψ,b,i,j⟩:=h φ h0 hp w d f;obtain⟨l,c,o,p⟩:=k ψ h0 hp a i (VRs.mono b _ _ g);exact⟨l,b.trans c,o,.cons (VR.mono c _ _ j) p⟩
end
theorem Re.sl{H:AH}{n b m k:Nat}{l s:List AV}{z:Bool}(e:H.get b=some (.cells l z))(g:s.all flat.flat1=true)(d:s.length=m*k)(a:l.map mk=s.map mk):Re H n (.sl b 0 m m 0) (H.set none aa b) (.fr m k s):=λφ h0 h w f i=>by
 refine Re.row (x:=0) e g d a (by decide) φ h0 h w f ?_;obtain⟨p,C,hp,rfl,j,_⟩:=i.eT;have o:=j rfl
 subst o;obtain⟨q,_,_,c,t,fz,_,y,_⟩:=f.of e hp;have:l.length=C*k:=by have:=congrArg List.length a;simp only[Y9]at this;omega
 exact .rw hp (λ_=>rfl) (q0u _ _) (Z6 _) (by omega)
def cW(R:List AV->AV->Prop)(args:List AV)(H:AH)(n:Nat)(κ:PK):Prop:=∃cs v H2,Res H n args H2 cs/\R cs v/\κ v H2 n
def uZ(R:List AV->AV->Prop)(args:List AV)(H:AH)(n:Nat)(κ:PK):Prop:=∃cs v,Res H n args H cs/\R cs v/\κ v H n
theorem xV(R:List AV->AV->Prop):iG (uZ R):= .pure λ_ _ _ _ ⟨cs,v,h0,a,b⟩=>⟨v,b,λ_ h=>⟨cs,v,h0,a,h⟩⟩
theorem ai.cs{f:FuncId}{R:List AV->AV->Prop}(h:ai f (cW R)):ai f (uZ R):=λargs H n d ⟨cs,v,a,b,c⟩=>h args H n d ⟨cs,v,H,a,b,c⟩
def dD(v:AV):PK:=λu a b=>∃H2,Re a b u H2 v
theorem dD.told{u v:AV}{H:AH}{n:Nat}(e:mkT u=mkT v):dD v u H n:=⟨H,.told e⟩
theorem dD.row{m k j b x:Nat}{l s:List AV}{z:Bool}{u:AV}{H':AH}{a:Nat}(c:u= .rw b 0 j k x)(d:j=m)(e:H'.get b=some (.cells l z))(f:l.map mk=s.map mk)(g:s.length=m*k)(h:s.all flat.flat1=true)(i:x≠4:=by decide):dD (.fr m k s) u H' a:=by
 subst c d;exact⟨_,.row e h g f i⟩
theorem dD.same{u:AV}{H:AH}{n:Nat}:dD u u H n:=⟨H,.same⟩
theorem zW{f:FuncId}{run:List AV->AH->Nat->PK->Prop}(b:ai f run)(e:bR Tryz.prog f=true){R:List AV->AV->Prop}(h:∀cs v,R cs v->cs.all gy=true/\gy v=true/\run cs .nil 0 (dD v)):ai f (cW R):=λargs H n Q ⟨cs,v,H2,c,p,i⟩ φ h0 hp vs K s a t=>by
 obtain⟨ψ,x,d,A⟩:=c φ h0 hp _ s a;obtain⟨s1,s2,B⟩:=h cs v p
 have key:Wf hp->dI Tryz.prog f vs hp K:=λC=>b cs .nil 0 _ B ⟨λ_=>none,ψ.z,ψ.z,λ_ _=>False⟩ hp hp vs K (d.zC (gj C) (λ_ _ h=>by cases h) (λ_ h=>h)) (Ek (φ:=ψ) (ψ:=⟨λ_=>none,ψ.z,ψ.z,λ_ _=>False⟩) (λ_ h=>h) s1 A) λD u S T w g j E F ⟨U,G⟩=>by
  obtain⟨I,J,k,l⟩:=G D hp g w E F;obtain⟨L,M,N,O⟩:=Ei d k (λq P=>j.y q (J.y q P));exact t L v H2 n w g (x.trans M) N (nN O s2 l) i
 exact⟨e,λw o=>(key o.wf).2 w o⟩
theorem pv{F:FuncId->EP}(b:aW F)(d:Nat){f:FuncId}(a:bR Tryz.prog f=true){R:List AV->AV->Prop}(h:∀cs v,R cs v->cs.all gy=true/\gy v=true/\ay F d f cs .nil 0 (dD v)):ai f (cW R):=zW (ax b d f) a h
theorem mU:∀{O:List AO} {k:Nat} {H:AH} {x:Nat} {o:AO},k+O.length<1000000->(x<k∨k+O.length<=x)->H.get x=some o->(sU O k H).get x=some o
 | [],_,_,_,_,_,_,h=>h
 |a::O,k,H,x,o,d,e,h=>by
  simp only[Z9]at d e;exact mU (O:=O) (by omega) (by omega) (PM.gne (by omega) (by omega) h)
theorem vD:∀{O:List AO} {k:Nat} {H:AH} {i:Nat} {o:AO},k+O.length<1000000->O[i]?=some o->(sU O k H).get (k+i)=some o
 | [],_,_,i,_,_,h=>by simp at h
 |a::O,k,H,0,o,d,h=>by
  simp only[Z9]at d;injection h with h;subst h;exact mU (O:=O) (by omega) (.inl (by omega)) (PM.geq (by omega))
 |a::O,k,H,i+1,o,d,h=>by
  simp only[Z9]at d;rw[show k+(i+1)=k+1+i by omega];exact vD (O:=O) (by omega) (by simpa using h)
theorem sV:∀{O:List AO} {k i:Nat} {o:AO},k+O.length<1000000->O[i]?=some o->(mkH (bF O k)).get (k+i)=some o
 | [],_,i,_,_,h=>by simp at h
 |a::O,k,0,o,d,h=>by
  simp only[Z9]at d;injection h with h;subst h;exact PM.geq (by omega)
 |a::O,k,i+1,o,d,h=>by
  simp only[Z9]at d;have:=sV (O:=O) (k:=k+1) (i:=i) (o:=o) (by omega) (by simpa using h);rw[show k+(i+1)=k+1+i by omega];exact PM.gne (by omega) (by omega) this
section
variable {r r':Nat->Nat} {m:Nat}
mutual
theorem p7(h:∀c,c<m->r c=r' c):∀a:AV,ltV m a=true->ren r a=ren r' a
 | .ptr b o,e=>congrArg (AV.ptr · o) (h b (Z0 e))
 | .sl b o n c k,e=>congrArg (AV.sl · o n c k) (h b (Z0 e))
 | .esl b,e=>congrArg AV.esl (h b (Z0 e))
 | .map b,e=>congrArg AV.map (h b (Z0 e))
 | .sy b o n c k,e=>congrArg (AV.sy · o n c k) (h b (Z0 e))
 | .rw b o n k x,e=>congrArg (AV.rw · o n k x) (h b (Z0 e))
 | .agg l,e=>congrArg AV.agg (iz h l e)
 | .tup l,e=>congrArg AV.tup (iz h l e)
 | .fn f a c,e=>by
  simp only[ltV,Z7]at e;simp only[ren,iz h a e.1,iz h c e.2]
 | .int _ _,_| .str _,_| .bool _,_| .nil,_| .nsl,_| .any _,_| .bad,_| .si _ _,_| .sb _,_| .ss _,_| .fr _ _ _,_| .fa _ _,_=>rfl
theorem iz(h:∀c,c<m->r c=r' c):∀l:List AV,jO m l=true->dw r l=dw r' l
 | [],_=>rfl
 |a::l,e=>by
  simp only[jO,Z7]at e;simp only[dw,p7 h a e.1,iz h l e.2]
end
theorem ry(h:∀c,c<m->r c=r' c):∀l:List (AV×AV),ltE m l=true->sq r l=sq r' l
 | [],_=>rfl
 |a::l,e=>by
  simp only[ltE,Z7]at e;simp only[sq,p7 h _ e.1,p7 h _ e.2.1,ry h l e.2.2]
theorem eG(h:∀c,c<m->r c=r' c){o:AO}(e:ltO m o=true):bT r o=bT r' o:=by
 cases o with
 |cells l z=>exact congrArg (AO.cells · z) (iz h l e)
 |map es=>exact congrArg AO.map (ry h es e)
 |mp es bs cl=>exact congrArg (AO.mp · bs cl) (ry h es e)
 |ro l=>exact congrArg AO.ro (iz h l e)
 |iter b k seen=>exact congrArg (AO.iter · k seen) (h b (Z0 e))
 |sep Q=>rfl
end
def kI(n k:Nat):List Nat:=(List.range k).map λi=>n+i
theorem dg(n k:Nat):(kI n k).length=k:=by simp[kI]
theorem sW{n k i:Nat}(h:i<k):(kI n k)[i]?=some (n+i):=by simp[kI,h]
theorem pw{n k i s:Nat}(h:(kI n k)[i]?=some s):i<k/\s=n+i:=by
 have a:=(Y6.1 h).1;rw[dg]at a;rw[sW a]at h;injection h with h;exact⟨a,h.symm⟩
theorem ib{n k x:Nat}(h:x∈kI n k):n<=x/\x<n+k:=by
 simp only[kI,q0e,q2m]at h;obtain⟨i,a,rfl⟩:=h;omega
theorem nO(n k:Nat):(kI n k).Nodup:=by
 rw[kI,List.nodup_iff_pairwise_ne,List.pairwise_map];exact List.nodup_range.imp λh e=>h (by omega)
theorem mr{n k N c:Nat}(h:c<k):bz (kI n k) N c=n+c:=cK (sW h)
def xW(H:AH)(m:Nat):List AO->Nat->Prop
 | [],_=>True
 |o::os,i=>(∃a,H.get i=some a/\an H m (λb=>b) a o)/\xW H m os (i+1)
theorem xW.at{H:AH}{m:Nat}:∀{O:List AO} {k i:Nat} {o:AO},xW H m O k->O[i]?=some o->∃e,H.get (k+i)=some e/\an H m (λb=>b) e o
 | [],_,i,_,_,h=>by simp at h
 |a::O,k,0,o,d,h=>by injection h with h;subst h;exact d.1
 |a::O,k,i+1,o,d,h=>by
  rw[show k+(i+1)=k+1+i by omega];exact xW.at d.2 (by simpa using h)
def Yq(f:Nat)(u:AV)(H':AH)(g:Nat)(v:AV)(i:AH)(m:Nat):Prop:=∀(a:Ph) (e h:Hp) (w:Value),HR a H' g e h->VR a u w->∃d:Ph,((∀b q,b<f->a b=some q->d b=some q)/\(∀q,a.z q->d.z q)/\∀q,d.y q->a.y q)/\HR d i m e h/\VR d v w
def Yr(run:List AV->AH->Nat->PK->Prop)(args:List AV)(H:AH)(n:Nat)(κ:PK):Prop:=∃a:PK,run args H n a/\∀u d e,a u d e->∃v f m,Yq n u d e v f m/\κ v f m
theorem ai.m{f:FuncId}{run:List AV->AH->Nat->PK->Prop}(o:ai f run):ai f (Yr run):=λargs H n V ⟨d,s,t⟩ A j h D K k E F=>o args H n d s A j h D K k E λG u I J w l a g L M=>by
 obtain⟨v,N,m,O,i⟩:=t u I J M;obtain⟨P,⟨Q,R,S⟩,T,U⟩:=O G j l w g L;exact F P v N m w l ⟨λb p e=>Q b p (k.dom b p e).1 (a.b b p e),λq e=>R q (a.z q e),λq e=>a.y q (S q e)⟩ T U i
theorem BQ{φ:Ph}{H:AH}{n k:Nat}{d h:Hp}{O:List AO}(l:HR φ H n d h)(s:xW H k O 0)(A:O.length<=k):∃ψ:Ph,((∀b q,b<k->φ b=some q->ψ b=some q)/\(∀q,φ.z q->ψ.z q)/\∀q,ψ.y q->φ.y q)/\HR ψ (mkH (bF O 0)) k d h:=by
 obtain⟨ψ,u,v,_⟩:=Cov.ofR (m:=k) (p:=k) (n:=n) (σ:=PM.nil) (H:=H) (le:=[]) (lh:=bF O 0) (λb=>b) (Z6 _) (λ_ _=>rfl) (λx f=>by cases f) (λx f=>by
  obtain⟨b,o⟩:=x;obtain⟨i,w,g⟩:=sr f;have:=(Y6.1 g).1;have j:=s.at g;rw[<-w]at j;exact⟨(by show b<k;omega),.inl j⟩) (λ_ _ _ _ e=>e) φ d h (λ_=>Go.undef) l (λt a e=>by cases e)
 exact⟨ψ,u,v⟩
theorem an.refl{H:AH}{m:Nat}{o:AO}(h:ltO m o=true):an H m (λb=>b) o o:=⟨⟨rfl,rfl⟩,λf g _ _ a _ ho=>OR.below (m:=m) (λb _ d e=>(a.1 b d).trans e) a.2 h ho⟩
theorem oF{H:AH}{m n x:Nat}{o:AO}(h:ltO m o=true:=by exact rfl)(e:H.get x=some o:=by exact rfl):(∃q,H.get x=some q/\an H m (λb=>b) q o)∨(o.void=true/\n<=x):= .inl ⟨_,e,.refl h⟩
structure Obj (X C:Type)where
 ok:X->C->Prop
 O:C->List AO
 k:Nat
 len:∀c,(O c).length=k
 own:∀c o,o∈O c->o.own=true/\ltO k o=true
 pos:∀c,∃a l z,(O c)[0]?=some (.cells (a::l) z)
def Obj.Q{X C:Type}(B:Obj X C)(x:X)(p:Nat×Nat):HP:=HP.exi (B.ok x) λc=>xM (B.O c) p
def ic (H:AH):Nat->Nat->Bool
 |0,_=>true
 |k+1,n=>(match H.get n with
  |none=>ic H k (n+1)
  |some _=>false)
theorem lB{H:AH}:∀{k n:Nat},ic H k n=true->∀{x:Nat} {o:AO},n<=x->x<n+k->H.get x=some o->False
 |0,n,_,x,o,d,f,_=>by omega
 |k+1,n,h,x,o,d,f,a=>by
  unfold ic at h;split at h
  ·rename_i e;by_cases q:x=n
   ·subst q;rw[e]at a;cases a
   ·exact lB h (by omega) (by omega) a
  ·cases h
def cL{X C:Type}(k:Nat)(B:Obj X C)(R:X->List AV->X->AV->Prop)(args:List AV)(H:AH)(n:Nat)(κ:PK):Prop:=match args with
 |a::f=>∃b p x cs e v d,a=aA p/\b<n/\n<800000/\Res H n f d cs/\d.get b=some (.sep (B.Q x p))/\ic d k n=true/\R x cs e v/\κ v (d.set (some (.sep (B.Q e p))) aa b) (n+k)
 |_=>False
def gz{X C:Type}(B:Obj X C)(e:X)(v:AV):PK:=λu f g=>∃a d,Re f g u a v/\B.ok e d/\xW a B.k (B.O d) 0
section
variable {X C:Type} {B:Obj X C} {x:X} {p:Nat×Nat} {H:AH} {n b:Nat} {c:C}
theorem Obj.lt(B:Obj X C)(c:C){i:Nat}{o:AO}(h:(B.O c)[i]?=some o):i<B.k/\o.own=true/\ltO B.k o=true:=
 ⟨by rw[<-B.len c];exact(Y6.1 h).1,B.own c o (q0l h)⟩
def opO (B:Obj X C) (H:AH) (n b:Nat) (c:C):AH:=sU ((B.O c).map (bT λj=>n+j)) n (H.set (some (.sep .emp)) aa b)
theorem vE(B:Obj X C)(c:C){n:Nat}:((B.O c).map (bT λj=>n+j)).length=B.k:=by rw[Y9,B.len]
theorem Gl(hn:n+B.k<1000000){i:Nat}{o:AO}(h:(B.O c)[i]?=some o):(opO B H n b c).get (n+i)=some (bT (λj=>n+j) o):=vD (by rw[vE];exact hn) (by rw[q0s,h];rfl)
theorem N5(hn:n+B.k<1000000)(d:b<n){y:Nat}{o:AO}(e:y<n∨n+B.k<=y)(a:y≠b)(h:H.get y=some o):(opO B H n b c).get y=some o:=mU (by rw[vE];exact hn) (by rw[vE];exact e) (PM.gne (by omega) a h)
theorem N6(hn:n+B.k<1000000)(a:b<n):(opO B H n b c).get b=some (.sep .emp):=mU (by rw[vE];exact hn) (.inl a) (PM.geq (by omega))
theorem IA{y:Nat}{o:AO}(h:(opO B H n b c).get y=some o):(∃i o',y=n+i/\(B.O c)[i]?=some o'/\o=bT (λj=>n+j) o')∨(y=b/\o= .sep .emp)∨(y≠b/\(y<n∨n+B.k<=y)/\H.get y=some o):=by
 rcases rv y o h with h|h|⟨d,a,e⟩
 ·exact .inl h
 ·exact .inr (.inl h)
 ·rw[B.len]at a;exact .inr (.inr ⟨d,a,e⟩)
theorem zX(hn:n+B.k<1000000):xN (opO B H n b c) (kI n B.k) (B.O c):=⟨nO _ _,by rw[dg,B.len],λi s o e a=>by
 obtain⟨h,rfl⟩:=pw e;obtain⟨_,f,d⟩:=B.lt c a;refine⟨?_,f,by rw[B.len];exact d⟩;rw[Gl hn a];exact congrArg some (eG (m:=B.k) (λj g=>(mr g).symm) d)⟩
theorem KJ(hn:n+B.k<1000000):iZ (opO B H n b c) (n+B.k) (kI n B.k) (B.O c):=⟨nO _ _,by rw[dg,B.len],λi s o d a=>by
 obtain⟨h,rfl⟩:=pw d;obtain⟨_,e,f⟩:=B.lt c a;refine⟨by omega,?_,.inr e⟩;rw[Gl hn a];exact congrArg some (eG (m:=B.k) (λj g=>(mr g).symm) f)⟩
theorem Obj.k0(B:Obj X C)(c:C):0<B.k:=by
 obtain⟨a,l,z,h⟩:=B.pos c;exact(B.lt c h).1
end
def N7{X C:Type}(B:Obj X C)(k:Nat)(d:X)(P:AV->List AO->Prop):PK:=λu e f=>∃v E a,P v E/\B.ok d a/\ltV (k+E.length) v=true/\(∀o∈E,o.own=true/\ltO (k+E.length) o=true)/\E.length<1000/\Cov k (mkE [(0,u)]) e f (mkE [(0,v)],mkH (bF (B.O a++E) 0),k+E.length)
def Gm (n k:Nat) (E:List AO) (H:AH):AH:=sU (E.map (bT λj=>n+j)) (n+k) H
def xX{X C:Type}(k:Nat)(B:Obj X C)(R:X->List AV->X->(AV->List AO->Prop)->Prop)(args:List AV)(H:AH)(n:Nat)(κ:PK):Prop:=match args with
 |a::f=>∃b p x cs e P d,a=aA p/\b<n/\n<800000/\Res H n f d cs/\d.get b=some (.sep (B.Q x p))/\ic d k n=true/\R x cs e P/\∀v E,P v E->κ (ren (λj=>n+j) v) (Gm n k E (d.set (some (.sep (B.Q e p))) aa b)) (n+k+E.length)
 |_=>False
theorem Gn{n k m c:Nat}(h:c<m):bz (kI n k) (n+k) c=n+c:=by
 by_cases q:c<k
 ·exact mr q
 ·rw[gK (by rw[dg];omega),dg];omega
def WM(run:List AV->AH->Nat->PK->Prop)(args:List AV)(H:AH)(n:Nat)(κ:PK):Prop:=∃a:PK,run args H n a/\∀u d e,a u d e->κ u d e
theorem ai.w{f:FuncId}{run:List AV->AH->Nat->PK->Prop}(j:ai f run):ai f (WM run):=λargs H n F ⟨a,k,l⟩ o q h s K t v y=>j args H n a k o q h s K t v λz u g i w A d e D E=>y z u g i w A d e D (l u g i E)
section
variable {m m':Nat}
mutual
theorem Gp(h:m<=m'):∀a:AV,ltV m a=true->ltV m' a=true
 | .ptr b o,e| .sl b o n c k,e| .esl b,e| .map b,e| .sy b o n c k,e| .rw b o n k x,e=>q0o (Y7 (Z0 e) h)
 | .agg l,e| .tup l,e=>uh h l e
 | .fn f a c,e=>by
  simp only[ltV,Z7]at e⊢;exact⟨uh h a e.1,uh h c e.2⟩
 | .int _ _,_| .str _,_| .bool _,_| .nil,_| .nsl,_| .any _,_| .bad,_| .si _ _,_| .sb _,_| .ss _,_| .fr _ _ _,_| .fa _ _,_=>rfl
theorem uh(h:m<=m'):∀l:List AV,jO m l=true->jO m' l=true
 | [],_=>rfl
 |a::l,e=>by
  simp only[jO,Z7]at e⊢;exact⟨Gp h a e.1,uh h l e.2⟩
end
theorem Gq(h:m<=m'):∀l:List (AV×AV),ltE m l=true->ltE m' l=true
 | [],_=>rfl
 |a::l,e=>by
  simp only[ltE,Z7]at e⊢;exact⟨Gp h _ e.1,Gp h _ e.2.1,Gq h l e.2.2⟩
theorem Uz(h:m<=m'){o:AO}(e:ltO m o=true):ltO m' o=true:=by
 cases o with
 |cells l z=>exact uh h l e
 |map es=>exact Gq h es e
 |mp es bs cl=>exact Gq h es e
 |ro l=>exact uh h l e
 |iter b k seen=>exact q0o (Y7 (Z0 e) h)
 |sep Q=>rfl
end
theorem xY {X C:Type} {f:FuncId} {run:List AV->AH->Nat->PK->Prop} (Z:ai f run) (hic:bR Tryz.prog f=true) (B:Obj X C) {k:Nat} (hk:B.k=k) (hk9:k<1000) {R:X->List AV->X->(AV->List AO->Prop)->Prop}
 (h:∀x cs F P,R x cs F P->cs.all gy=true/\∀c,B.ok x c->run (.ptr 0 0::cs) (mkH (bF (B.O c) 0)) k (N7 B k F P)):ai f (xX k B R):=λargs H n κ hs φ h0 hp vs K hr L hk2=>by
 unfold xX at hs;split at hs
 ·rename_i a ar;obtain⟨b,p,x,cs,F,P,I,rfl,A,hn9,hres,hb,M,hR,hκ⟩:=hs;obtain⟨w1,us1,q1,e1,r1⟩:=L.cons_inv;have e1:w1=qZ p:=e1;subst e1 hk;obtain⟨φ1,l1,hr1,ha1⟩:=hres φ h0 hp us1 hr r1;obtain⟨c,hc,hP⟩:=(hr1.sep b _ hb).1;obtain⟨ψ,T,l2,hψ,G⟩:=hr1.Gj (O:=B.O c) A hb hP rv;obtain⟨s1,s3⟩:=h x cs F P hR;have N:=s3 c hc;rw[B.len]at G;have Y:n+B.k<1000000:=by omega
  have G:HR ψ (opO B I n b c) (n+B.k) h0 hp:=G;have J:∀(d:C) (E:List AO),(B.O d++E).length=B.k+E.length:=λd E=>by rw[Z5,B.len]
  have e:∀E:List AO,(E.map (bT λj=>n+j)).length=E.length:=λE=>Y9 _
  refine dq (S:=kI n B.k) (O:=B.O c) (args0:= .ptr 0 0::cs) (κ:=λv2 H2 n2=>∃v E d,P v E/\B.ok F d/\(∀o∈E,o.own=true)/\E.length<1000/\v2=ren (λj=>n+j) v/\n2=n+B.k+E.length/\H2=Gm n B.k E (opO B I n b d)) Z.m hic G (KJ Y) ?_ ?_ (Q:=λv' H' m=>∃E d,P v' E/\B.ok F d/\ltV (B.k+E.length) v'=true/\(∀o∈E,o.own=true/\ltO (B.k+E.length) o=true)/\E.length<1000/\m=B.k+E.length/\H'=mkH (bF (B.O d++E) 0)) ?_ λu H' n' hq=>?_
  ·rw[q1];refine .cons ?_ ?_
   ·show VR ψ (.ptr (bz (kI n B.k) (n+B.k) 0) 0) (qZ p);rw[mr (B.k0 c),q2o];exact VR.oY hψ
   ·rw[kU s1];exact VRs.mono l2 _ _ ha1
  ·intro χ v2 H2 n2 u g hle hg hu ⟨v,E,d,f0,f1,f5,f6,f2,f3,f4⟩;subst f2 f3 f4;have D:∀{y o},(y<n+B.k∨n+B.k+E.length<=y)->(opO B I n b d).get y=some o->(Gm n B.k E (opO B I n b d)).get y=some o:=λU ho=>mU (by rw[e];omega) (by rw[e];exact U) ho
   have sl:xN (Gm n B.k E (opO B I n b d)) (kI n B.k) (B.O d):=by
    obtain⟨a1,a2,a3⟩:=zX (B:=B) (H:=I) (b:=b) (c:=d) Y
    exact⟨a1,a2,λi s o h1 h2=>by
     obtain⟨b1,b2⟩:=a3 i s o h1 h2;exact⟨D (.inl (by have:=pw h1;omega)) b1,b2⟩⟩
   obtain⟨ω,_,l3,_,hr3⟩:=hg.Gk (O:=B.O d) (S:=kI n B.k) (b:=b) (p:=p) (Q:=B.Q F p) (H':=Gm n B.k E (I.set (some (.sep (B.Q F p))) aa b)) sl (D (.inl (by omega)) (N6 Y A)) (λq=>by have:=ib q;omega) (s0:=n) (by rw[sW (B.k0 c),q2o]) (hle.b _ _ hψ) (λy o U=>by
    rcases mR U with⟨i,rfl,l⟩|⟨j0,l⟩
    ·have:i<E.length:=by have:=(Y6.1 l).1;rwa [e]at this
     exact .inr ⟨by omega,λq=>by have:=ib q;omega,vD (by rw[e];omega) l⟩
    rw[e]at j0;rcases PM.ak aa _ b y o l with⟨V,l⟩|⟨V,l⟩
    ·injection l with l;exact .inl ⟨V,l.symm⟩
    ·have:y<n∨n+B.k<=y:=by
      rcases q3b y n with q|q
      ·exact .inl q
      ·exact .inr (q3l λq2=>lB M q q2 l)
     exact .inr ⟨V,λq=>by have:=ib q;omega,D j0 (N5 Y A this V l)⟩) λz X h hh=>⟨d,f1,hh⟩
   exact hk2 ω _ _ _ u g (((l1.trans l2).trans hle).trans l3) hr3 (VR.mono l3 _ _ hu) (hκ v E f0)
  ·refine⟨N7 B B.k F P,by rw[dg];exact N,λu H' n' ⟨v,E,d,g1,g2,g3,g4,g5,g6⟩=>⟨v,mkH (bF (B.O d++E) 0),B.k+E.length,λχ h0 hp w hr hu=>?_,E,d,g1,g2,g3,g4,g5,rfl,rfl⟩⟩
   obtain⟨ψ2,m2,hr4,hf4⟩:=g6 χ h0 hp (λ_=>w) hr (λt a ht=>by
    have:=nG ht;simp only[Z3,Z4,or_false]at this;injection this with e1 e2;subst e1 e2;exact hu)
   rw[dg];exact⟨ψ2,m2,hr4,hf4 0 v rfl⟩
  ·obtain⟨E,d,g1,g2,g3,g4,g5,g6,g7⟩:=hq;subst g6 g7;refine⟨B.k+E.length,Gm n B.k E (opO B I n b d),by rw[dg];exact q0u _ _,λy o U=>?_,g3,u,E,d,g1,g2,λo ho=>(g4 o ho).1,g5,p7 (m:=B.k+E.length) (λj hj=>Gn hj) _ g3,by rw[dg];omega,rfl⟩;rcases mR U with⟨i,rfl,l⟩|⟨j0,U⟩
   ·have hi:i<E.length:=by have:=(Y6.1 l).1;rwa [e]at this
    rw[q0s,Z8]at l;obtain⟨W,j3,rfl⟩:=l;have:=g4 W (q0l j3);refine .inl ⟨B.k+i,W,by omega,by rw[Gn (m:=B.k+E.length) (by omega)];omega,?_,this.1,this.2,eG (m:=B.k+E.length) (λj hj=>(Gn hj).symm) this.2⟩;have h2:=sV (O:=B.O d++E) (k:=0) (i:=B.k+i) (o:=W) (by rw[J];omega) (by rw[q0x (by rw[B.len];omega),B.len,q3h];exact j3);rwa [q0w]at h2
   rw[e]at j0;rcases IA U with⟨i,W,rfl,i1,rfl⟩|⟨rfl,rfl⟩|⟨i1,i2,i3⟩
   ·obtain⟨V,l,j3⟩:=B.lt d i1;have lt2:ltO (B.k+E.length) W=true:=Uz (q0u _ _) j3;refine .inl ⟨i,W,by omega,(mr V).symm,?_,l,lt2,eG (m:=B.k) (λj hj=>(mr hj).symm) j3⟩;have h2:=sV (O:=B.O d++E) (k:=0) (i:=i) (o:=W) (by rw[J];omega) (by rw[q1f (by rw[B.len];exact V)];exact i1);rwa [q0w]at h2
   ·exact .inr ⟨.inl (by omega),N6 Y A,λq=>by have:=ib q;omega⟩
   ·exact .inr ⟨by rw[dg];omega,N5 Y A i2 i1 i3,λq=>by have:=ib q;omega⟩
 ·exact hs.elim
theorem WN {X C:Type} {f:FuncId} {run:List AV->AH->Nat->PK->Prop} (j:ai f run) (F:bR Tryz.prog f=true) (B:Obj X C) {k:Nat} (hk:B.k=k) (G:k<1000) {R:X->List AV->X->AV->Prop}
 (h:∀x cs d v,R x cs d v->cs.all gy=true/\gy v=true/\∀c,B.ok x c->run (.ptr 0 0::cs) (mkH (bF (B.O c) 0)) k (gz B d v)):ai f (cL k B R):=λargs H n κ s φ I J vs K L g M=>by
 unfold cL at s;split at s
 ·rename_i a ar;obtain⟨b,p,x,cs,d,v,H1,rfl,N,Q,l,hb,i,A,S⟩:=s;have s2:=(h x cs d v A).2.1;refine xY (R:=λx cs d P=>∃v,P=(λu E=>E=[]/\u=v)/\R x cs d v) (run:=WM run) j.w F B hk G (λx cs d P ⟨v,hP,A⟩=>?_) (aA p::ar) H n κ ⟨b,p,x,cs,d,λu E=>E=[]/\u=v,H1,rfl,N,Q,l,hb,i,⟨v,rfl,A⟩,λu E ⟨T,U⟩=>?_⟩ φ I J vs K L g M
  ·obtain⟨s1,s2,s3⟩:=h x cs d v A;subst hP hk;refine⟨s1,λc hc=>⟨gz B d v,s3 c hc,λu H' n' ⟨H2,c',g1,g2,g3⟩=>⟨v,[],c',⟨rfl,rfl⟩,g2,(jb (r:=λb=>b) s2).2,λo ho=>(by cases ho),by decide,?_⟩⟩⟩;rw[q0z];intro χ I J ρ L hf;obtain⟨ψ1,V,W,Y⟩:=g1 χ I J (ρ 0) L (hf 0 u rfl);obtain⟨Z,D,hr4⟩:=BQ W g3 (by rw[B.len];exact Z6 _);refine⟨Z,⟨λy q hy e=>D.1 y q hy (V.b y q e),λq e=>D.2.1 q (V.z q e),λq e=>V.y q (D.2.2 q e)⟩,hr4,λt a ht=>?_⟩;have:=nG ht;simp only[Z3,Z4,or_false]at this;injection this with T U;subst T U;exact nN D.2.1 s2 Y
  ·subst T U;rw[(jb (m:=0) s2).1];exact S
 ·exact s.elim
theorem gA {X C:Type} {F:FuncId->EP} (i:aW F) (d:Nat) {f:FuncId} (a:bR Tryz.prog f=true) (B:Obj X C) {k:Nat} (j:B.k=k) (e:k<1000) {R:X->List AV->X->AV->Prop}
 (h:∀x cs g v,R x cs g v->cs.all gy=true/\gy v=true/\∀c,B.ok x c->ay F d f (.ptr 0 0::cs) (mkH (bF (B.O c) 0)) k (gz B g v)):ai f (cL k B R):=WN (ax i d f) a B j e h
def dL{X C:Type}(k:Nat)(B:Obj X C)(R:X->List AV->AV->Prop)(args:List AV)(H:AH)(n:Nat)(κ:PK):Prop:=match args with
 |a::c=>∃b p x cs v,a=aA p/\b<n/\n<800000/\Res H n c H cs/\H.get b=some (.sep (B.Q x p))/\ic H k n=true/\R x cs v/\κ v H (n+k)
 |_=>False
theorem Gs{X C:Type}(k:Nat)(B:Obj X C)(R:X->List AV->AV->Prop):iG (dL k B R):=λargs H n q a=>by
 unfold dL at*;split at a
 ·obtain⟨b,p,x,cs,v,c,d,e,f,g,i,j,l⟩:=a;exact⟨v,H,n+k,l,λ_ _ h=>h,q0u _ _,λo h=>⟨b,p,x,cs,v,c,d,e,f,g,i,j,h⟩⟩
 ·exact a.elim
theorem ai.ol{X C:Type}{f:FuncId}{k:Nat}{B:Obj X C}{R:X->List AV->AV->Prop}(h:ai f (cL k B λx cs t v=>t=x/\R x cs v)):ai f (dL k B R):=λargs H n Z e φ h0 w A K D c E=>by
 unfold dL at e;split at e
 ·rename_i a F;obtain⟨b,p,x,cs,v,G,I,J,L,l,M,N,O⟩:=e;refine h (a::F) H n (λi r s=>i=v/\r=H.set (some (.sep (B.Q x p))) aa b/\s=n+k) ⟨b,p,x,cs,x,v,H,G,I,J,L,l,M,⟨rfl,N⟩,rfl,rfl,rfl⟩ φ h0 w A K D c λP i r s u g j T U ⟨V,W,Y⟩=>?_
  subst V W Y;refine E P i H _ u g j (T.less λy o d=>?_) U O;by_cases q:y=b
  ·subst q;rw[l]at d;injection d with d;subst d;exact PM.geq (by omega)
  ·exact PM.gne (by omega) q d
 ·exact e.elim
def WO{Y E:Type}(D:Obj Y E)(k:Nat)(y:Y):PK:=λu a c=>∃e,D.ok y e/\Cov 0 (mkE [(0,u)]) a c (mkE [(0,.ptr 0 0)],mkH (bF (D.O e) 0),k)
def sX{Y E:Type}(k:Nat)(D:Obj Y E)(R:List AV->Y->Prop)(args:List AV)(H:AH)(n:Nat)(κ:PK):Prop:=∃cs y a,n<800000/\Res H n args a cs/\ic a (k+1) n=true/\R cs y/\∀p,κ (aA p) (a.set (some (.sep (D.Q y p))) aa n) (n+1+k)
theorem N8 {Y E:Type} {f:FuncId} {run:List AV->AH->Nat->PK->Prop} (F:ai f run) (N:bR Tryz.prog f=true) (D:Obj Y E) {k:Nat} (hk:D.k=k) (hk9:k<1000) {R:List AV->Y->Prop}
 (h:∀cs y,R cs y->cs.all gy=true/\run cs .nil 0 (WO D k y)):ai f (sX k D R):=λargs H n κ ⟨cs,y,P,hn9,G,d,hR,U⟩ φ h0 V vs K W r Z=>by
 subst hk;obtain⟨φ1,l1,hr1,ha1⟩:=G φ h0 V _ W r;obtain⟨ψ,l2,hr2⟩:=hr1.hole;obtain⟨s1,s3⟩:=h cs y hR;have J:n+1+D.k<1000000:=by omega
 refine dq (S:=[]) (O:=[]) (args0:=cs) (κ:=λv2 H2 n2=>v2= .ptr (n+1) 0/\n2=n+1+D.k/\∃e,D.ok y e/\H2=opO D P (n+1) n e) F.m N hr2 ⟨q4p,rfl,λi s o h1 _=>by simp at h1⟩ (by rw[kU s1];exact VRs.mono l2 _ _ ha1) ?_ (Q:=λv' L m=>v'= .ptr 0 0/\m=D.k/\∃e,D.ok y e/\L=mkH (bF (D.O e) 0)) ?_ λu L n' hq=>?_
 ·intro χ v2 H2 n2 u g hle hg hu ⟨v,f2,e,f3,f4⟩;subst v f2 f4;obtain⟨a,l,z,I⟩:=D.pos e;rcases hg.live _ _ (Gl J I)with⟨_,A⟩|⟨q,ob,A,_⟩
  ·cases A
  rw[q2o]at A;have eq:q=⟨(q.B,q.s).1,(q.B,q.s).2,q.T⟩:=rfl
  rw[eq]at A
  obtain⟨ω,_,l3,_,hr3⟩:=hg.Gk (O:=D.O e) (S:=kI (n+1) D.k) (b:=n) (p:=(q.B,q.s)) (Q:=D.Q y (q.B,q.s)) (H':=P.set (some (.sep (D.Q y (q.B,q.s)))) aa n) (zX J) (N6 J (by omega)) (λq=>by have:=ib q;omega) (s0:=n+1) (by rw[sW (D.k0 e),q2o]) A (λx o hx=>by
   rcases PM.ak aa _ n x o hx with⟨C,c⟩|⟨C,c⟩
   ·injection c with c;exact .inl ⟨C,c.symm⟩
   ·have:x<n+1∨n+1+D.k<=x:=by
     rcases q3b x n with q|q
     ·exact .inl (by omega)
     ·exact .inr (q3l λq2=>lB d q (by omega) c)
    exact .inr ⟨C,λq=>by have:=ib q;omega,N5 J (by omega) this C c⟩) λz X h hh=>⟨e,f3,hh⟩
  refine Z ω (aA (q.B,q.s)) _ _ u g (((l1.trans l2).trans hle).trans l3) hr3 ?_ (U (q.B,q.s));obtain⟨pl,v,f2⟩:=hu.cw;rw[A]at v;injection v with v;subst f2 v;exact rfl
 ·refine⟨WO D D.k y,s3,λu L n' ⟨e,g1,g2⟩=>⟨.ptr 0 0,mkH (bF (D.O e) 0),D.k,λχ h0 V w W hu=>?_,rfl,rfl,e,g1,rfl⟩⟩
  obtain⟨ψ2,m2,hr4,hf4⟩:=g2 χ h0 V (λ_=>w) W (λt a ht=>by
   have:=nG ht;simp only[Z3,Z4,or_false]at this;injection this with e1 e2;subst e1 e2;exact hu)
  exact⟨ψ2,m2,hr4,hf4 0 _ rfl⟩
 ·obtain⟨g1,g2,e,g3,g4⟩:=hq;subst g1 g2 g4;refine⟨D.k,opO D P (n+1) n e,Y5 _,λx o hx=>?_,q0o (D.k0 e),?_,by simp,e,g3,rfl⟩
  ·rcases IA hx with⟨i,o',rfl,M,rfl⟩|⟨rfl,rfl⟩|⟨M,i2,i3⟩
   ·obtain⟨C,c,j3⟩:=D.lt e M;have h2:=sV (O:=D.O e) (k:=0) (i:=i) (o:=o') (by rw[D.len];omega) M;rw[q0w]at h2;have nm:∀j,bz [] (n+1) j=n+1+j:=λj=>by rw[gK (Y5 _)];simp
    exact .inl ⟨i,o',C,(nm i).symm,h2,c,j3,eG (m:=D.k) (λj hj=>(nm j).symm) j3⟩
   ·exact .inr ⟨.inl (by omega),PM.geq (by omega),λq=>by cases q⟩
   ·exact .inr ⟨by simp;omega,PM.gne (by omega) M i3,λq=>by cases q⟩
  ·show AV.ptr (bz [] (n+1) 0) 0=_;rw[gK (Y5 _)];rfl
def HP.ko(Q R:HP):HP where
 P z X h:=∃Y Z:Nat->Prop,(∀B,X B<->Y B∨Z B)/\(∀B,Y B->¬Z B)/\Q.P z Y h/\R.P z Z h
 loc z X h g hn e:=λ⟨Y,Z,a,i,c,d⟩=>⟨Y,Z,a,i,Q.loc z Y h g hn (λB f=>e B ((a B).2 (.inl f))) c,R.loc z Z h g hn (λB f=>e B ((a B).2 (.inr f))) d⟩
 mono z j X h k:=λ⟨Y,Z,a,i,c,d⟩=>⟨Y,Z,a,i,Q.mono z j Y h k c,R.mono z j Z h k d⟩
 ex z X h B:=λ⟨Y,Z,a,i,c,d⟩ f=>((a B).1 f).elim (Q.ex z Y h B c) (R.ex z Z h B d)
def aI:List HP->HP
 | []=> .emp
 |Q::l=> .ko Q (aI l)
section
variable {Q R S:HP} {z:Fz->Prop} {X:Nat->Prop} {h:Hp}
theorem xZ:(HP.ko Q (.ko R S)).P z X h->(HP.ko R (.ko Q S)).P z X h:=λ⟨Y,Z,f,e,g,V,W,d,i,j,k⟩=>
 ⟨V,λB=>Y B∨W B,λB=>by rw[f B,d B,<-or_assoc,<-or_assoc,or_comm (a:=Y B)],λB c l=>l.elim (λq=>e B q ((d B).2 (.inl c))) (i B c),j,Y,W,λ_=>Iff.rfl,λB c q=>e B c ((d B).2 (.inr q)),g,k⟩
theorem u0{a:HP}(c:∀X,R.P z X h->a.P z X h):(HP.ko Q R).P z X h->(HP.ko Q a).P z X h:=λ⟨Y,Z,d,e,f,g⟩=>⟨Y,Z,d,e,f,c Z g⟩
theorem ui:∀(A:List HP) {B:List HP} {X:Nat->Prop},(aI (A++Q::B)).P z X h->(HP.ko Q (aI (A++B))).P z X h
 | [],_,_,h=>h
 |_::A,_,_,h=>xZ (u0 (λ_=>ui A) h)
theorem x0:∀(A:List HP) {B:List HP} {X:Nat->Prop},(HP.ko Q (aI (A++B))).P z X h->(aI (A++Q::B)).P z X h
 | [],_,_,h=>h
 |_::A,_,_,h=>u0 (λ_=>x0 A) (xZ h)
end
section
variable {φ:Ph} {H:AH} {n:Nat} {h0 h:Hp} {b m:Nat} {Q R:HP}
theorem HR.split(d:HR φ H n h0 h)(hbn:b<n)(J:H.get b=some (.sep (.ko Q R))):∃ψ,PLe φ ψ/\HR ψ ((H.set (some (.sep R)) aa b).set (some (.sep Q)) aa n) (n+1) h0 h:=by
 obtain⟨⟨Y,Z,W,y2,y3,y4⟩,s4⟩:=d.sep b _ J;have A:=d.nL J
 have C:φ n=none:=by
  cases e:φ n with
  |none=>rfl
  |some q=>exact absurd (d.dom n q e).1 (q3g _)
 let ψ:Ph:=⟨φ.f,φ.z,φ.y,λx=>if x=n then Y else if x=b then Z else φ.s x⟩
 have K:ψ.s n=Y:=if_pos rfl
 have sb:ψ.s b=Z:=by show(if b=n then Y else if b=b then Z else _)=Z;rw[if_neg (by omega),if_pos rfl]
 have so:∀x,x≠n->x≠b->ψ.s x=φ.s x:=λx j a=>by show(if x=n then Y else if x=b then Z else φ.s x)=_;rw[if_neg j,if_neg a]
 have cs:∀x o,((H.set (some (.sep R)) aa b).set (some (.sep Q)) aa n).get x=some o->(x=n/\o= .sep Q)∨(x≠n/\((x=b/\o= .sep R)∨(x≠b/\H.get x=some o))):=λx o c=>by
  rcases PM.ak aa _ n x o c with⟨j,a⟩|⟨j,a⟩
  ·injection a with a;exact .inl ⟨j,a.symm⟩
  ·rcases PM.ak aa H b x o a with⟨l,p⟩|⟨l,p⟩
   ·injection p with p;exact .inr ⟨j,.inl ⟨l,p.symm⟩⟩
   ·exact .inr ⟨j,.inr ⟨l,p⟩⟩
 have own:∀x o q,((H.set (some (.sep R)) aa b).set (some (.sep Q)) aa n).get x=some o->φ x=some q->H.get x=some o:=λx o q c k=>by
  rcases cs x o c with⟨rfl,_⟩|⟨_,⟨rfl,_⟩|⟨_,l⟩⟩
  ·rw[C]at k;cases k
  ·rw[A]at k;cases k
  ·exact l
 have sle:SLe φ ψ:=⟨λ_ _ h=>h,λ_ h=>h⟩;refine⟨ψ,⟨λ_ _ h=>h,λ_ h=>h,λ_ h=>h⟩,⟨λx q e=>⟨by have:=(d.dom x q e).1;omega,(d.dom x q e).2⟩,λx o c=>?_,λx y o r q q' c D ho M k E e=>d.inj x y o r q q' (own x o q c k) (own y r q' D E) ho M k E e,d.base,d.size,λq k=>⟨⟨FzR.mono (φ:=φ) (ψ:=ψ) sle.z (d.frz q k).1.1,(d.frz q k).1.2⟩,λx o px c ho F=>(d.frz q k).2 x o px (own x o px c F) ho F⟩,λx u c=>?_⟩⟩
 ·rcases cs x o c with⟨rfl,rfl⟩|⟨_,⟨rfl,rfl⟩|⟨_,p⟩⟩
  ·exact .inl ⟨C,rfl⟩
  ·exact .inl ⟨A,rfl⟩
  ·rcases d.live x o p with g|⟨q,ob,N,O,P,T⟩
   ·exact .inl g
   ·exact .inr ⟨q,ob,N,O,P,T.c8 sle⟩
 have up:∀{x B},ψ.s x B->∀{u},((H.set (some (.sep R)) aa b).set (some (.sep Q)) aa n).get x=some (.sep u)->∃t U,H.get t=some (.sep U)/\φ.s t B/\(t=b<->(x=b∨x=n))/\(t≠b->t=x):=λ{x B} i {u} c=>by
  rcases cs x _ c with⟨rfl,_⟩|⟨j,⟨rfl,_⟩|⟨a,l⟩⟩
  ·rw[K]at i;exact⟨b,_,J,(W B).2 (.inl i),by simp,λq=>absurd rfl q⟩
  ·rw[sb]at i;exact⟨x,_,J,(W B).2 (.inr i),by simp,λq=>absurd rfl q⟩
  ·rw[so x j a]at i;exact⟨x,_,l,i,by simp[j,a],λ_=>rfl⟩
 have fin:∀{x u},((H.set (some (.sep R)) aa b).set (some (.sep Q)) aa n).get x=some (.sep u)->∀B,ψ.s x B->(B<h.n/\h0.f B=none)/\(∀w r G,((H.set (some (.sep R)) aa b).set (some (.sep Q)) aa n).get w=some r->r.own=true->ψ w=some G->G.B≠B)/\(∀q,ψ.z q->q.B≠B)/\∀w Q',((H.set (some (.sep R)) aa b).set (some (.sep Q)) aa n).get w=some (.sep Q')->w≠x->¬ψ.s w B:=λ{x u} c B i=>by
  obtain⟨t,U,e1,e2,e3,e4⟩:=up i c;obtain⟨N,O,P,T⟩:=(d.sep t U e1).2 B e2;refine⟨N,λy r G D ho hp=>O y r G (own y r G D hp) ho hp,P,λy Q' D v I=>?_⟩;obtain⟨V,Q4,f1,f2,f3,f4⟩:=up I D;by_cases q:V=t
  ·subst q;by_cases L:V=b
   ·have a1:=e3.1 L;have a2:=f3.1 L;rcases a1 with rfl|rfl<;>rcases a2 with rfl|rfl
    ·exact v rfl
    ·rw[sb]at i;rw[K]at I;exact y2 B I i
    ·rw[K]at i;rw[sb]at I;exact y2 B i I
    ·exact v rfl
   ·exact v ((f4 L).symm.trans (e4 L))
  ·exact T V Q4 f1 q f2
 refine⟨?_,fin c⟩;rcases cs x _ c with⟨rfl,a⟩|⟨j,⟨rfl,a⟩|⟨l,p⟩⟩
 ·injection a with a;subst a;rw[K];exact y3
 ·injection a with a;subst a;rw[sb];exact y4
 ·rw[so x j l];exact(d.sep x u p).1
theorem HR.join(c:HR φ H n h0 h)(F:b≠m)(D:H.get b=some (.sep R))(U:H.get m=some (.sep Q)):∃ψ,PLe φ ψ/\HR ψ ((H.set none aa m).set (some (.sep (.ko Q R))) aa b) n h0 h:=by
 obtain⟨r1,r2⟩:=c.sep b _ D;obtain⟨q1,q2⟩:=c.sep m _ U;have r:=c.nL D
 let ψ:Ph:=⟨φ.f,φ.z,φ.y,λx=>if x=b then(λB=>φ.s m B∨φ.s b B)else φ.s x⟩
 have sb:ψ.s b=λB=>φ.s m B∨φ.s b B:=if_pos rfl
 have V:∀x,x≠b->ψ.s x=φ.s x:=λx j=>if_neg j
 have cs:∀x o,((H.set none aa m).set (some (.sep (.ko Q R))) aa b).get x=some o->(x=b/\o= .sep (.ko Q R))∨(x≠b/\x≠m/\H.get x=some o):=λx o a=>by
  rcases PM.ak aa _ b x o a with⟨j,d⟩|⟨j,d⟩
  ·injection d with d;exact .inl ⟨j,d.symm⟩
  ·rcases PM.ak aa H m x o d with⟨l,t⟩|⟨l,t⟩
   ·cases t
   ·exact .inr ⟨j,l,t⟩
 have own:∀x o q,((H.set none aa m).set (some (.sep (.ko Q R))) aa b).get x=some o->φ x=some q->H.get x=some o:=λx o q a k=>by
  rcases cs x o a with⟨rfl,_⟩|⟨_,_,l⟩
  ·rw[r]at k;cases k
  ·exact l
 have sle:SLe φ ψ:=⟨λ_ _ h=>h,λ_ h=>h⟩;refine⟨ψ,⟨λ_ _ h=>h,λ_ h=>h,λ_ h=>h⟩,⟨c.dom,λx o a=>?_,λx y o u q W a v ho G k w e=>c.inj x y o u q W (own x o q a k) (own y u W v w) ho G k w e,c.base,c.size,λq k=>⟨⟨FzR.mono (φ:=φ) (ψ:=ψ) sle.z (c.frz q k).1.1,(c.frz q k).1.2⟩,λx o px a ho A=>(c.frz q k).2 x o px (own x o px a A) ho A⟩,λx E a=>?_⟩⟩
 ·rcases cs x o a with⟨rfl,rfl⟩|⟨_,_,t⟩
  ·exact .inl ⟨r,rfl⟩
  ·rcases c.live x o t with g|⟨q,ob,I,J,K,L⟩
   ·exact .inl g
   ·exact .inr ⟨q,ob,I,J,K,L.c8 sle⟩
 have up:∀{x B},ψ.s x B->∀{E},((H.set none aa m).set (some (.sep (.ko Q R))) aa b).get x=some (.sep E)->∃p M,H.get p=some (.sep M)/\φ.s p B/\(x=b/\(p=b∨p=m)∨x≠b/\x≠m/\p=x):=λ{x B} i {E} a=>by
  rcases cs x _ a with⟨rfl,_⟩|⟨j,d,l⟩
  ·rw[sb]at i;rcases i with i|i
   ·exact⟨m,_,U,i,.inl ⟨rfl,.inr rfl⟩⟩
   ·exact⟨x,_,D,i,.inl ⟨rfl,.inl rfl⟩⟩
  ·rw[V x j]at i;exact⟨x,_,l,i,.inr ⟨j,d,rfl⟩⟩
 refine⟨?_,λB i=>?_⟩
 ·rcases cs x _ a with⟨rfl,d⟩|⟨j,d,l⟩
  ·injection d with d;subst d;rw[sb];exact⟨φ.s m,φ.s x,λ_=>Iff.rfl,λB i=>(q2 B i).2.2.2 x R D F,q1,r1⟩
  ·rw[V x j];exact(c.sep x E l).1
 ·obtain⟨p,M,e1,e2,e3⟩:=up i a;obtain⟨I,J,K,L⟩:=(c.sep p M e1).2 B e2;refine⟨I,λy u Y v ho Z=>J y u Y (own y u Y v Z) ho Z,K,λy Q' v C hs=>?_⟩;obtain⟨y',Q4,f1,f2,f3⟩:=up hs v;by_cases q:y'=p
  ·subst q;rcases e3 with⟨N,O⟩|⟨N,O,a3⟩<;>rcases f3 with⟨P,T⟩|⟨P,T,c3⟩
   ·exact C (P.trans N.symm)
   ·subst c3;rcases O with rfl|rfl
    ·exact P rfl
    ·exact T rfl
   ·subst a3;rcases T with rfl|rfl
    ·exact N rfl
    ·exact O rfl
   ·exact C (c3.symm.trans a3)
  ·exact L y' Q4 f1 q f2
end
def WQ(run:List AV->AH->Nat->PK->Prop)(args:List AV)(H:AH)(n:Nat)(κ:PK):Prop:=∃(b:Nat) (A C:List HP) (Q:HP),b<n/\n<800000/\H.get n=none/\H.get b=some (.sep (aI (A++Q::C)))/\run args ((H.set (some (.sep (aI (A++C)))) aa b).set (some (.sep Q)) aa n) (n+1) λv a d=>∃c,a.get b=some (.sep (aI (A++C)))/\a.get n=some (.sep c)/\κ v ((a.set none aa n).set (some (.sep (aI (A++c::C)))) aa b) d
theorem ai.st{f:FuncId}{run:List AV->AH->Nat->PK->Prop}(d:ai f run):ai f (WQ run):=λargs H n Y ⟨b,A,C,Q,i,Z,F,G,I⟩ φ h0 h J K L a M=>by
 have j:=L.uT (Q':= .ko Q (aI (A++C))) G λ_ _ _=>ui A
 obtain⟨y,B,l⟩:=j.split i (PM.geq (by omega))
 have p:HR y ((H.set (some (.sep (aI (A++C)))) aa b).set (some (.sep Q)) aa n) (n+1) h0 h:=l.less λx o q=>by
  rcases PM.ak aa _ n x o q with⟨rfl,c⟩|⟨e,c⟩
  ·rw[PM.geq (by omega)];exact c
  rcases PM.ak aa H b x o c with⟨rfl,r⟩|⟨D,r⟩
  ·exact PM.gne (by omega) e (by rw[PM.geq (by omega)];exact r)
  ·exact PM.gne (by omega) e (PM.gne (by omega) D (PM.gne (by omega) D r))
 refine d args _ _ _ I y h0 h J K p (VRs.mono B _ _ a) λχ v H2 N u g s O P ⟨k,T,U,V⟩=>?_
 obtain⟨W,E,t⟩:=O.join (by omega) T U;have w:=t.uT (Q':=aI (A++k::C)) (PM.geq (by omega)) λ_ _ _=>x0 A
 refine M W v _ N u g ((B.trans s).trans E) (w.less λx o q=>?_) (VR.mono E _ _ P) V;rcases PM.ak aa _ b x o q with⟨rfl,c⟩|⟨e,c⟩
 ·rw[PM.geq (by omega)];exact c
 ·exact PM.gne (by omega) e (PM.gne (by omega) e c)
def WR(run:List AV->AH->Nat->PK->Prop)(args:List AV)(H:AH)(n:Nat)(κ:PK):Prop:=∃(b:Nat) (A C:List HP) (Q:HP) (v:AV) (a:Nat),b<n/\n<800000/\H.get n=none/\H.get b=some (.sep (aI (A++Q::C)))/\n<=a/\run args ((H.set (some (.sep (aI (A++C)))) aa b).set (some (.sep Q)) aa n) (n+1) (λu c d=>u=v/\c=(H.set (some (.sep (aI (A++C)))) aa b).set (some (.sep Q)) aa n/\d=a)/\κ v H a
theorem ai.sl{f:FuncId}{run:List AV->AH->Nat->PK->Prop}(d:ai f run):ai f (WR run):=λargs H n P ⟨b,A,C,Q,v,B,D,E,s,t,T,F,G⟩ φ h0 h I K J a L=>by
 refine d.w.st args H n (λu i j=>u=v/\j=B/\∀x o,H.get x=some o->i.get x=some o) ⟨b,A,C,Q,D,E,s,t,_,F,λu i j ⟨k,l,p⟩=>?_⟩ φ h0 h I K J a λM u i j w g r N O ⟨k,l,p⟩=>?_
 ·subst k l p;refine⟨Q,PM.gne (by omega) (by omega) (PM.geq (by omega)),PM.geq (by omega),rfl,rfl,λx o c=>?_⟩;by_cases q:x=b
  ·subst q;rw[t]at c;injection c with c;subst c;exact PM.geq (by omega)
  ·have y:x≠n:=λe=>by subst e;rw[s]at c;cases c
   exact PM.gne (by omega) q (PM.gne (by omega) y (PM.gne (by omega) y (PM.gne (by omega) q c)))
 ·subst k l;exact L M u H _ w g r (N.less p) O G
abbrev Tx:=List Nat
def strs(V:List (List Nat)):List AV:=V.map λs=> .ss s
theorem aB(V:List (List Nat)):(strs V).all flat.flat1=true:=by simp[strs,flat.flat1]
theorem aD(V:List (List Nat)):(strs V).map mk=strs V:=by simp[strs,mk,Function.comp_def]
theorem bu(V:List (List Nat)):(strs V).length=V.length:=by simp[strs]
theorem fD{V:List (List Nat)}{i o:Nat}(h:i<V.length)(ho:o=i):nth (strs V) o=some (.ss V[i]):=by
 subst ho;rw[eX,strs,q0s,Y0 h];rfl
def sY(V:List (List Nat))(i:Nat):Prop:=∀j,j+1<i->∀h:j+1<V.length,ltL (V[j]'(by omega)) V[j+1]=true
instance (V:List (List Nat)) (i:Nat):Decidable (sY V i):=Classical.propDecidable _
def lC (V:List (List Nat)):Bool:=decide (sY V V.length)
def rs0 (V:List (List Nat)) (i:Nat):AE×AH:=(mkE [(0,.fr V.length 1 (strs V)),(3,.si .i64 (i))],mkH [])
theorem ab.fn0{H:AH}{m:Nat}{r:Nat->Nat}{a:AV}{f:Nat}(e:a= .fn f [] []):ab H m r a (.fn f [] []):=λg h v _ _ b=>by
 subst e;obtain⟨xs,cs,rfl,c,d⟩:=b.nu;exact .fn (by rw[c.aU];exact .nil) (by rw[d.aU];exact .nil)
theorem El(V:List (List Nat)):(strs V).all oH=true:=by simp[strs,oH]
theorem KK(V:List (List Nat))(i:Nat):(strs V).drop i=strs (V.drop i):=by simp[strs,List.map_drop]
theorem KM(V:List (List Nat))(i:Nat):(strs V).take i=strs (V.take i):=by simp[strs,q4i]
theorem dW(W:List (List Nat))(v:List Nat):(strs W++ [AV.ss v]).map mk=strs (W++ [v]):=by simp[strs,mk,Function.comp_def]
theorem tyT:RTy 58 58 1 16:=⟨_,_,_,rfl,rfl,(λq h=>by cases h),rfl,rfl,rfl,rfl,by decide,by decide⟩
def leS (a b:List Nat):Bool:=ltL a b||dh a b
theorem uj:∀(a b:List Nat),leS a b=false->leS b a=true
 | [],[],h=>by cases h
 | [],_::_,h=>by cases h
 |_::_,[],_=>rfl
 |a::x,b::y,h=>by
  unfold leS ltL dh at h⊢;by_cases e:a=b
  ·subst e;rw[Nat.beq_refl]at h⊢;exact uj x y h
  ·have c:Nat.beq a b=false:=by cases q:Nat.beq a b;rfl;exact absurd (q0d q) e
   have d:Nat.beq b a=false:=by cases q:Nat.beq b a;rfl;exact absurd (q0d q).symm e
   rw[c]at h;rw[d];simp only[Bool.or_false]at h⊢;have f:¬a<b:=λq=>by rw[(q2q (x:=a) (y:=b)).mpr q]at h;cases h
   exact(q2q (x:=b) (y:=a)).mpr (by omega)
def bA (q:Bool):List Tx->List Tx->List Tx
 | [],B=>if q=true then B else []
 |a::A,[]=>a::A
 |a::A,b::B=>if leS a b=true then(if leS b a=true then(if q=true then b::bA q A B else bA q A B)else a::bA q A (b::B))else(if q=true then b::bA q (a::A) B else bA q (a::A) B)
termination_by A B=>A.length+B.length
decreasing_by all_goals(simp only[Z9];omega)
section
variable {q:Bool}
theorem gB(B:List Tx):bA q [] B=if q=true then B else []:=by rw[bA]
theorem gC(A:List Tx):bA q A []=A:=by cases A<;>rw[bA];split<;>rfl
theorem mV{a b:Tx}(A B:List Tx)(h:leS a b=true)(k:¬leS b a=true):bA q (a::A) (b::B)=a::bA q A (b::B):=by rw[bA,if_pos h,if_neg k]
theorem mW{a b:Tx}(A B:List Tx)(h:leS a b=true)(k:leS b a=true):bA q (a::A) (b::B)=(if q=true then [b]else [])++bA q A B:=by rw[bA,if_pos h,if_pos k];split<;>rfl
theorem mX{a b:Tx}(A B:List Tx)(h:¬leS a b=true):bA q (a::A) (b::B)=(if q=true then [b]else [])++bA q (a::A) B:=by rw[bA,if_neg h];split<;>rfl
end
theorem lD(q:Bool):∀(A B:List Tx),(bA q A B).length<=A.length+B.length
 | [],B=>by rw[gB];split<;>simp
 |a::A,[]=>by rw[gC];simp
 |a::A,b::B=>by
  have e:∀l:List Tx,((if q=true then [b]else [])++l).length<=l.length+1:=λl=>by split<;>simp
  by_cases h:leS a b=true
  ·by_cases k:leS b a=true
   ·have:=lD q A B;have:=e (bA q A B);rw[mW A B h k];simp only[Z9];omega
   ·have:=lD q A (b::B);rw[mV A B h k];simp only[Z9]at this⊢;omega
  ·have:=lD q (a::A) B;have c:=e (bA q (a::A) B);rw[mX A B h];simp only[Z9]at this⊢;omega
termination_by A B=>A.length+B.length
def ms0 (A:List Tx) (B:List Tx) (O:List Tx) (f:Nat):AE×AH:=(mkE [(0,.fr A.length 1 (strs A)),(1,.fr B.length 1 (strs B)),(2,AV.fn f [] []),(7,.rw 0 0 O.length 1 0)],mkH [(0,.cells (strs (O)) true)])
def GMs:FuncId->EP:=bg 206 [] evP
theorem UA:aW GMs:=aw az (by kernel_rfl) (by kernel_rfl)
def SD(f:Nat)(q:Bool):Prop:=(f=214/\q=true)∨(f=222/\q=true)∨(f=215/\q=false)
theorem Gu(V W:List Tx)(f:Nat)(q:Bool)(o:SD f q)(p:V.length+W.length<=1000000):ay GMs 3 206 [.fr V.length 1 (strs V),.fr W.length 1 (strs W),.fn f [] []] .nil 0 (dD (.fr (bA q V W).length 1 (strs (bA q V W)))):=by
 rcases o with⟨rfl,j⟩|⟨rfl,j⟩|⟨rfl,j⟩
 all_goals
  conv=>whnf
  first
  |(refine aQ.mk {t:List (List Nat)×List (List Nat)×List (List Nat)//t.1.length+t.2.1.length+t.2.2.length<=V.length+W.length/\t.2.2++bA q t.1 t.2.1=bA q V W} 1 (λt=>ms0 t.val.1 t.val.2.1 t.val.2.2 214) (λt=>t.val.1.length+t.val.2.1.length) ⟨(V,W,[]),by simp,rfl⟩ ?_ ?_;focus exact Cov.ofN [(0,0)] ⟨ab.frE rfl,ab.frE rfl,.fn0 rfl,.iV rfl,trivial⟩ ⟨oR (aB _) (aD _) (.inr ⟨rfl,Z6 _⟩),trivial⟩)
  |(refine aQ.mk {t:List (List Nat)×List (List Nat)×List (List Nat)//t.1.length+t.2.1.length+t.2.2.length<=V.length+W.length/\t.2.2++bA q t.1 t.2.1=bA q V W} 1 (λt=>ms0 t.val.1 t.val.2.1 t.val.2.2 222) (λt=>t.val.1.length+t.val.2.1.length) ⟨(V,W,[]),by simp,rfl⟩ ?_ ?_;focus exact Cov.ofN [(0,0)] ⟨ab.frE rfl,ab.frE rfl,.fn0 rfl,.iV rfl,trivial⟩ ⟨oR (aB _) (aD _) (.inr ⟨rfl,Z6 _⟩),trivial⟩)
  |(refine aQ.mk {t:List (List Nat)×List (List Nat)×List (List Nat)//t.1.length+t.2.1.length+t.2.2.length<=V.length+W.length/\t.2.2++bA q t.1 t.2.1=bA q V W} 1 (λt=>ms0 t.val.1 t.val.2.1 t.val.2.2 215) (λt=>t.val.1.length+t.val.2.1.length) ⟨(V,W,[]),by simp,rfl⟩ ?_ ?_;focus exact Cov.ofN [(0,0)] ⟨ab.frE rfl,ab.frE rfl,.fn0 rfl,.iV rfl,trivial⟩ ⟨oR (aB _) (aD _) (.inr ⟨rfl,Z6 _⟩),trivial⟩)
  ·intro⟨(A,B,O),e,h⟩;dsimp only at e h;have l:bq (strs O) 0 (O.length*1)=some (strs O):=bp (by rw[bu,q0r]);cases A with
   |nil=>
    cases B with
    |nil=>
     conv=>whnf
     refine ah.dec (λc=>absurd (show(0:Int)<IntKind.i64.wrap (((0:Nat):Int)+((0:Nat):Int)) from c) (by decide)) (λ_=>?_);have m:O=bA q V W:=by rw[<-h,gB];simp
     conv=>whnf
     exact dD.row rfl (congrArg List.length m) rfl (congrArg (λz=>(strs z).map mk) m) (by rw[bu,q0r]) (aB _)
    |cons b B=>
     have n:(0:Int)<IntKind.i64.wrap (((0:Nat):Int)+((B.length+1:Nat):Int)):=by simp only[Z9,q1j]at e;rw[aj (by omega) (by omega)];omega
     have d:(O.length+1)*16<=140737488355328:=by simp only[Z9,q1j]at e;omega
     conv=>whnf
     refine ah.dec (λ_=>?_) (λc=>absurd n c)
     conv=>whnf
     refine ah.dec (λc=>absurd (show((0:Nat):Int)>0 from c) (by decide)) (λ_=>?_)
     conv=>whnf
     refine ah.dec (λ_=>?_) (λc=>absurd (show(0:Int)<((B.length+1:Nat):Int) by omega) c)
     conv=>whnf
     refine ah.dec (λ_=>?_) (λc=>absurd rfl c)
     conv=>whnf
     refine Idx.mk 0 rfl (q3u _) ?_
     conv=>whnf
     refine RSl.mk 1 (B.length+1) rfl rfl (.inl rfl) (q3z (Y5 _)) (Z6 _) ?_
     conv=>whnf
     first
     |(refine eY.grow 1 16 _ _ _ _ _ _ tyT (.old rfl) rfl rfl (.rw rfl l) d ?_;(conv=>whnf);refine⟨⟨([],B,O++ [b]),?_,?_⟩,?_,Cov.ofN [(0,2)] ⟨ab.frE rfl,ab.frE rfl,.fn0 rfl,ab.rw (by decide) rfl,trivial⟩ ⟨oR (aB _) (aD _) (.inl ⟨_,rfl,dW O b⟩),trivial⟩⟩;(focus (simp only[Z9,Z5,q1j]at e⊢<;>omega));(focus (show(O++ [b])++bA q [] B=_;rw[<-h,gB,gB];try simp[j]));(focus (show 0+B.length<0+(B.length+1);omega)))
     |(refine⟨⟨([],B,O),?_,?_⟩,?_,Cov.ofN [(0,0)] ⟨ab.frE rfl,ab.frE rfl,.fn0 rfl,ab.rw (by decide) rfl,trivial⟩ ⟨oR (aB _) (aD _) (.inl ⟨_,rfl,aD O⟩),trivial⟩⟩;(focus (simp only[Z9]at e⊢<;>omega));(focus (show(O)++bA q [] B=_;rw[<-h,gB,gB];try simp[j]));(focus (show 0+B.length<0+(B.length+1);omega)))
   |cons a A=>
    have d:(O.length+1)*16<=140737488355328:=by simp only[Z9]at e;omega
    cases B with
    |nil=>
     have n:(0:Int)<IntKind.i64.wrap (((A.length+1:Nat):Int)+((0:Nat):Int)):=by simp only[Z9,q1j]at e;rw[aj (by omega) (by omega)];omega
     conv=>whnf
     refine ah.dec (λ_=>?_) (λc=>absurd n c)
     conv=>whnf
     refine ah.dec (λ_=>?_) (λc=>absurd (show(0:Int)<((A.length+1:Nat):Int) by omega) c)
     conv=>whnf
     refine ah.dec (λ_=>?_) (λc=>absurd rfl c)
     conv=>whnf
     refine ah.dec (λc=>absurd (show((0:Nat):Int)>0 from c) (by decide)) (λ_=>?_)
     conv=>whnf
     refine Idx.mk 0 rfl (q3u _) ?_
     conv=>whnf
     refine RSl.mk 1 (A.length+1) rfl rfl (.inl rfl) (q3z (Y5 _)) (Z6 _) ?_
     conv=>whnf
     first
     |(refine eY.grow 1 16 _ _ _ _ _ _ tyT (.old rfl) rfl rfl (.rw rfl l) d ?_;(conv=>whnf);refine⟨⟨(A,[],O++ [a]),?_,?_⟩,?_,Cov.ofN [(0,2)] ⟨ab.frE rfl,ab.frE rfl,.fn0 rfl,ab.rw (by decide) rfl,trivial⟩ ⟨oR (aB _) (aD _) (.inl ⟨_,rfl,dW O a⟩),trivial⟩⟩;(focus (simp only[Z9,Z5,q1j]at e⊢<;>omega));(focus (show(O++ [a])++bA q A []=_;rw[<-h,gC,gC];try simp));(focus (show A.length+0<(A.length+1)+0;omega)))
     |(refine⟨⟨(A,[],O),?_,?_⟩,?_,Cov.ofN [(0,0)] ⟨ab.frE rfl,ab.frE rfl,.fn0 rfl,ab.rw (by decide) rfl,trivial⟩ ⟨oR (aB _) (aD _) (.inl ⟨_,rfl,aD O⟩),trivial⟩⟩;(focus (simp only[Z9]at e⊢<;>omega));(focus (show(O)++bA q A []=_;rw[<-h,gC,gC];try simp));(focus (show A.length+0<(A.length+1)+0;omega)))
    |cons b B=>
     have n:(0:Int)<IntKind.i64.wrap (((A.length+1:Nat):Int)+((B.length+1:Nat):Int)):=by simp only[Z9]at e;rw[aj (by omega) (by omega)];omega
     conv=>whnf
     refine ah.dec (λ_=>?_) (λc=>absurd n c)
     conv=>whnf
     refine ah.dec (λ_=>?_) (λc=>absurd (show(0:Int)<((A.length+1:Nat):Int) by omega) c)
     conv=>whnf
     refine ah.dec (λc=>absurd (show((B.length+1:Nat):Int)=0 from c) (by omega)) (λ_=>?_)
     conv=>whnf
     refine Idx.mk 0 rfl (q3u _) ?_
     conv=>whnf
     refine Idx.mk 0 rfl (q3u _) ?_
     conv=>whnf
     refine ah.dec (λ_=>?_) (λc=>absurd (show(0:Int)<((B.length+1:Nat):Int) by omega) c)
     conv=>whnf
     refine ah.dec (λc=>absurd (show((A.length+1:Nat):Int)=0 from c) (by omega)) (λ_=>?_)
     conv=>whnf
     refine Idx.mk 0 rfl (q3u _) ?_
     conv=>whnf
     refine Idx.mk 0 rfl (q3u _) ?_
     conv=>whnf
     refine ah.sb (λc=>?_) (λc=>?_)
     ·have k:leS a b=true:=c
      conv=>whnf
      refine Idx.mk 0 rfl (q3u _) ?_
      conv=>whnf
      refine RSl.mk 1 (A.length+1) rfl rfl (.inl rfl) (q3z (Y5 _)) (Z6 _) ?_
      conv=>whnf
      refine ah.sb (λg=>?_) (λg=>?_)
      ·have i:leS b a=true:=g
       conv=>whnf
       refine Idx.mk 0 rfl (q3u _) ?_
       conv=>whnf
       refine RSl.mk 1 (B.length+1) rfl rfl (.inl rfl) (q3z (Y5 _)) (Z6 _) ?_
       conv=>whnf
       repeat(first|(refine ah.sb (λ_=>?_) (λz=>absurd (z.symm.trans c) (by decide));(conv=>whnf))|(refine ah.sb (λz=>absurd (z.symm.trans c) (by decide)) (λ_=>?_);(conv=>whnf))|(refine ah.nsb (λ_=>?_) (λz=>absurd (z.symm.trans c) (by decide));(conv=>whnf))|(refine ah.nsb (λz=>absurd (z.symm.trans c) (by decide)) (λ_=>?_);(conv=>whnf))|(refine ah.sb (λ_=>?_) (λz=>absurd (z.symm.trans g) (by decide));(conv=>whnf))|(refine ah.sb (λz=>absurd (z.symm.trans g) (by decide)) (λ_=>?_);(conv=>whnf))|(refine ah.nsb (λ_=>?_) (λz=>absurd (z.symm.trans g) (by decide));(conv=>whnf))|(refine ah.nsb (λz=>absurd (z.symm.trans g) (by decide)) (λ_=>?_);(conv=>whnf)))
       first
       |(refine eY.grow 1 16 _ _ _ _ _ _ tyT (.old rfl) rfl rfl (.rw rfl l) d ?_;(conv=>whnf);refine⟨⟨(A,B,O++ [b]),?_,?_⟩,?_,Cov.ofN [(0,2)] ⟨ab.frE rfl,ab.frE rfl,.fn0 rfl,ab.rw (by decide) rfl,trivial⟩ ⟨oR (aB _) (aD _) (.inl ⟨_,rfl,dW O b⟩),trivial⟩⟩;(focus (simp only[Z9,Z5,q1j]at e⊢<;>omega));(focus (show(O++ [b])++_=_;rw[<-h,mW A B k i];try simp[j]));(focus (show A.length+B.length<(A.length+1)+(B.length+1);omega)))
       |(refine⟨⟨(A,B,O),?_,?_⟩,?_,Cov.ofN [(0,0)] ⟨ab.frE rfl,ab.frE rfl,.fn0 rfl,ab.rw (by decide) rfl,trivial⟩ ⟨oR (aB _) (aD _) (.inl ⟨_,rfl,aD O⟩),trivial⟩⟩;(focus (simp only[Z9]at e⊢<;>omega));(focus (show(O)++_=_;rw[<-h,mW A B k i];try simp[j]));(focus (show A.length+B.length<(A.length+1)+(B.length+1);omega)))
      ·have i:¬leS b a=true:=by rw[show leS b a=false from g];decide
       conv=>whnf
       repeat(first|(refine ah.sb (λ_=>?_) (λz=>absurd (z.symm.trans c) (by decide));(conv=>whnf))|(refine ah.sb (λz=>absurd (z.symm.trans c) (by decide)) (λ_=>?_);(conv=>whnf))|(refine ah.nsb (λ_=>?_) (λz=>absurd (z.symm.trans c) (by decide));(conv=>whnf))|(refine ah.nsb (λz=>absurd (z.symm.trans c) (by decide)) (λ_=>?_);(conv=>whnf))|(refine ah.sb (λ_=>?_) (λz=>absurd (z.symm.trans g) (by decide));(conv=>whnf))|(refine ah.sb (λz=>absurd (z.symm.trans g) (by decide)) (λ_=>?_);(conv=>whnf))|(refine ah.nsb (λ_=>?_) (λz=>absurd (z.symm.trans g) (by decide));(conv=>whnf))|(refine ah.nsb (λz=>absurd (z.symm.trans g) (by decide)) (λ_=>?_);(conv=>whnf)))
       first
       |(refine eY.grow 1 16 _ _ _ _ _ _ tyT (.old rfl) rfl rfl (.rw rfl l) d ?_;(conv=>whnf);refine⟨⟨(A,b::B,O++ [a]),?_,?_⟩,?_,Cov.ofN [(0,2)] ⟨ab.frE rfl,ab.frE rfl,.fn0 rfl,ab.rw (by decide) rfl,trivial⟩ ⟨oR (aB _) (aD _) (.inl ⟨_,rfl,dW O a⟩),trivial⟩⟩;(focus (simp only[Z9,Z5,q1j]at e⊢<;>omega));(focus (show(O++ [a])++_=_;rw[<-h,mV A B k i];try simp));(focus (show A.length+(B.length+1)<(A.length+1)+(B.length+1);omega)))
       |(refine⟨⟨(A,b::B,O),?_,?_⟩,?_,Cov.ofN [(0,0)] ⟨ab.frE rfl,ab.frE rfl,.fn0 rfl,ab.rw (by decide) rfl,trivial⟩ ⟨oR (aB _) (aD _) (.inl ⟨_,rfl,aD O⟩),trivial⟩⟩;(focus (simp only[Z9]at e⊢<;>omega));(focus (show(O)++_=_;rw[<-h,mV A B k i];try simp));(focus (show A.length+(B.length+1)<(A.length+1)+(B.length+1);omega)))
     ·have k:¬leS a b=true:=by rw[show leS a b=false from c];decide
      have i:=uj a b c
      conv=>whnf
      refine ah.sb (λ_=>?_) (λg=>absurd (i.symm.trans g) (by decide))
      conv=>whnf
      refine Idx.mk 0 rfl (q3u _) ?_
      conv=>whnf
      refine RSl.mk 1 (B.length+1) rfl rfl (.inl rfl) (q3z (Y5 _)) (Z6 _) ?_
      conv=>whnf
      repeat(first|(refine ah.sb (λ_=>?_) (λz=>absurd (z.symm.trans c) (by decide));(conv=>whnf))|(refine ah.sb (λz=>absurd (z.symm.trans c) (by decide)) (λ_=>?_);(conv=>whnf))|(refine ah.nsb (λ_=>?_) (λz=>absurd (z.symm.trans c) (by decide));(conv=>whnf))|(refine ah.nsb (λz=>absurd (z.symm.trans c) (by decide)) (λ_=>?_);(conv=>whnf))|(refine ah.sb (λ_=>?_) (λz=>absurd (z.symm.trans i) (by decide));(conv=>whnf))|(refine ah.sb (λz=>absurd (z.symm.trans i) (by decide)) (λ_=>?_);(conv=>whnf))|(refine ah.nsb (λ_=>?_) (λz=>absurd (z.symm.trans i) (by decide));(conv=>whnf))|(refine ah.nsb (λz=>absurd (z.symm.trans i) (by decide)) (λ_=>?_);(conv=>whnf)))
      first
      |(refine eY.grow 1 16 _ _ _ _ _ _ tyT (.old rfl) rfl rfl (.rw rfl l) d ?_;(conv=>whnf);refine⟨⟨(a::A,B,O++ [b]),?_,?_⟩,?_,Cov.ofN [(0,2)] ⟨ab.frE rfl,ab.frE rfl,.fn0 rfl,ab.rw (by decide) rfl,trivial⟩ ⟨oR (aB _) (aD _) (.inl ⟨_,rfl,dW O b⟩),trivial⟩⟩;(focus (simp only[Z9,Z5,q1j]at e⊢<;>omega));(focus (show(O++ [b])++_=_;rw[<-h,mX A B k];try simp[j]));(focus (show(A.length+1)+B.length<(A.length+1)+(B.length+1);omega)))
      |(refine⟨⟨(a::A,B,O),?_,?_⟩,?_,Cov.ofN [(0,0)] ⟨ab.frE rfl,ab.frE rfl,.fn0 rfl,ab.rw (by decide) rfl,trivial⟩ ⟨oR (aB _) (aD _) (.inl ⟨_,rfl,aD O⟩),trivial⟩⟩;(focus (simp only[Z9]at e⊢<;>omega));(focus (show(O)++_=_;rw[<-h,mX A B k];try simp[j]));(focus (show(A.length+1)+B.length<(A.length+1)+(B.length+1);omega)))
theorem SF{n m k:Nat}{l r:List AV}(a:n=m)(b:l=r):AV.fr n k l=AV.fr m k r:=by subst a b;rfl
theorem KO{l:Nat}(h:l<=8796093022208):IntKind.i64.wrap ((l:Int).tdiv 2)=((l/2:Nat):Int):=by
 rw[show(l:Int).tdiv 2=((l/2:Nat):Int) from by rw[Int.tdiv_eq_ediv_of_nonneg (by omega)];omega];rw[aj (by omega) (by omega)]
theorem IB{x:Int}{j d:Nat}{k:IntKind}(h:x=(j:Int)):mC (some (AV.int k x)) d=some j:=by subst h;rfl
def GS:FuncId->EP:=bg 213 [] evP
theorem WS:aW GS:=aw az (by kernel_rfl) (by kernel_rfl)
theorem Gv(V:List (List Nat))(t:V.length<=1000000):ay GS 3 213 [.fr V.length 1 (strs V)] .nil 0 (dD (.sb (lC V))):=by
 conv=>whnf
 refine aQ.mk {i:Nat//1<=i/\(i=1∨i<=V.length)/\sY V i} 0 (λi=>rs0 V i.val) (λi=>V.length-i.val) ⟨1,Z6 _,.inl rfl,λj h=>by omega⟩ ?_ ?_
 ·exact Cov.ofN [] ⟨ab.frE rfl,sI,trivial⟩ trivial
 ·intro⟨i,u,v,m⟩
  conv=>whnf
  refine ah.dec (λc=>?_) (λc=>?_)
  ·have a:i<V.length:=q0t.1 c;have b:i-1<V.length:=by omega
   have d:V.length-(i+1)<V.length-i:=by omega
   have n:IntKind.i64.wrap ((i:Int)+1)=((i+1:Nat):Int):=by rw[aj (by omega) (by omega)];omega
   have f:IntKind.i64.wrap ((i:Int)-1)=((i-1:Nat):Int):=by rw[aj (by omega) (by omega)];omega
   have o:∀q:ltL V[i-1] V[i]=true,sY V (i+1):=λq j h g=>by
    by_cases e:j+1=i
    ·have p:j=i-1:=by omega
     subst p;have r:i-1+1=i:=by omega
     (try simp only[r]);exact q
    ·exact m j (by omega) g
   have k:ltL V[i-1] V[i]=false->lC V=false:=λq=>decide_eq_false λh=>by
    have s:i-1+1=i:=by omega
    have:=h (i-1) (by omega) (by omega);simp only[s]at this;rw[q]at this;cases this
   conv=>whnf
   refine Idx.mk (i-1) f b ?_
   conv=>whnf
   refine au (fD b (q0r _)) ?_
   conv=>whnf
   refine Idx.mk i rfl a ?_
   conv=>whnf
   refine au (fD a (q0r _)) ?_
   conv=>whnf
   refine ah.nsb (λl=>?_) (λl=>?_)
   ·conv=>whnf
    exact dD.told (congrArg AV.sb (k l).symm)
   ·conv=>whnf
    exact⟨⟨i+1,by omega,.inr a,o l⟩,d,Cov.ofN [] ⟨ab.frE rfl,sI (congrArg (AV.si .i64) n),trivial⟩ trivial⟩
  ·have a:V.length<=i:=by have:¬(i:Int)<(V.length:Int):=c;omega
   have b:lC V=true:=decide_eq_true λj h g=>m j (by omega) g
   conv=>whnf
   exact dD.told (congrArg AV.sb b.symm)
def WT(cs:List AV)(v:AV):Prop:=∃V,cs=[.fr V.length 1 (strs V)]/\V.length<=1000000/\v= .sb (lC V)
theorem Ys:ai 213 (cW WT):=pv WS 3 (by kernel_rfl) λcs v ⟨V,a,b,c⟩=>by subst a c;exact⟨rfl,rfl,Gv V b⟩
def zY(args:List AV)(H:AH)(n:Nat)(κ:PK):Prop:=match args with
 | [x,y,.fn f [] []]=>∃V W q,x= .fr V.length 1 (strs V)/\y= .fr W.length 1 (strs W)/\SD f q/\V.length+W.length<=1000000/\κ (.fr (bA q V W).length 1 (strs (bA q V W))) H n
 |_=>False
theorem UB:iG zY:= .pure λargs H n i a=>by
 unfold zY at*;split at a
 ·obtain⟨V,W,q,b,c,d,e,f⟩:=a;exact⟨_,f,λg h=>⟨V,W,q,b,c,d,e,h⟩⟩
 ·exact a.elim
theorem UC{φ ψ:Ph}{f:Nat}{v:Value}(h:VR φ (.fn f [] []) v):VR ψ (.fn f [] []) v:=by
 obtain⟨xs,cs,rfl,a,b⟩:=h.nu;exact .fn (by rw[a.aU];exact .nil) (by rw[b.aU];exact .nil)
theorem WU:ai 206 zY:=λargs H n O b c o d P K l a p=>by
 unfold zY at b;split at b
 ·rename_i x y f;obtain⟨V,W,q,rfl,rfl,e,r,b⟩:=b;obtain⟨x,y,f,rfl,s,t,v⟩:=vs3 a
  have key:Wf d->dI Tryz.prog 206 #[x,y,f] d K:=λA=>ax UA 3 _ _ .nil 0 _ (Gu V W _ q e r) ⟨λ_=>none,c.z,c.z,λ_ _=>False⟩ d d _ K (l.zC (gj A) (λ_ _ h=>by cases h) (λ_ h=>h)) (.cons (lT (ψ:=⟨λ_=>none,c.z,c.z,λ_ _=>False⟩) (λ_ h=>h) rfl s) (.cons (lT (ψ:=⟨λ_=>none,c.z,c.z,λ_ _=>False⟩) (λ_ h=>h) rfl t) (.cons (UC v) .nil))) λC u Q R w g i D E ⟨S,F⟩=>by
   obtain⟨G,I,j,k⟩:=F C d g w D E;obtain⟨J,L,M,N⟩:=Ei l j (λq e=>i.y q (I.y q e));exact p J _ H n w g L M (nN N rfl k) b
  exact⟨by kernel_rfl,λw m=>(key m.wf).2 w m⟩
 ·exact b.elim
theorem gF{V:List (List Nat)}(h:V.length<2):lC V=true:=decide_eq_true λj _ a=>by omega
def aK (V:List (List Nat)):List (List Nat):=if h:lC V=true then V else bA true (aK (V.take (V.length/2))) (aK (V.drop (V.length/2)))
termination_by V.length
decreasing_by
 ·have:¬V.length<2:=λq=>h (gF q)
  simp;omega
 ·have:¬V.length<2:=λq=>h (gF q)
  simp;omega
theorem pA{V:List (List Nat)}(h:lC V=true):aK V=V:=by rw[aK,dif_pos h]
theorem x4{V:List (List Nat)}(h:¬lC V=true):aK V=bA true (aK (V.take (V.length/2))) (aK (V.drop (V.length/2))):=by rw[aK,dif_neg h]
theorem rz:∀(N:Nat) (V:List (List Nat)),V.length<=N->(aK V).length<=V.length
 |0,V,h=>by rw[pA (gF (by omega))];exact Z6 _
 |N+1,V,h=>by
  by_cases q:lC V=true
  ·rw[pA q];exact Z6 _
  ·have a:¬V.length<2:=λk=>q (gF k)
   have b:(V.take (V.length/2)).length=V.length/2:=by rw[q0g];omega
   have c:(V.drop (V.length/2)).length=V.length-V.length/2:=q0p;have d:=rz N (V.take (V.length/2)) (by omega);have e:=rz N (V.drop (V.length/2)) (by omega);have f:=lD true (aK (V.take (V.length/2))) (aK (V.drop (V.length/2)));rw[x4 q];omega
theorem cu(V:List (List Nat)):(aK V).length<=V.length:=rz _ V (Z6 _)
def QY(N:Nat)(cs:List AV)(v:AV):Prop:=∃V,cs=[.fr V.length 1 (strs V)]/\V.length<=N/\V.length<=1000000/\v= .fr (aK V).length 1 (strs (aK V))
def lE:DT:=[(4,[(some 0,[0]),(some 0,[3]),(some 0,[11,12]),(none,[13]),(some 1,[0]),(some 2,[3]),(some 3,[15,16]),(none,[17]),(none,[14,18]),(some 0,[19])])]
def GSm:FuncId->EP:=cV 213 (uZ WT) (cV 206 zY evP)
theorem N9:aW GSm:=ba (ba az WU UB) Ys.cs (xV _)
def GSo (N:Nat):FuncId->EP:=cV 180 (uZ (QY N)) GSm
theorem UD{N:Nat}(h:ai 180 (uZ (QY N))):aW (GSo N):=ba N9 h (xV _)
theorem Gw(N:Nat)(V:List (List Nat))(i:V.length<=N+1)(e:V.length<=1000000):PR (GSo N) 3 lE 180 [.fr V.length 1 (strs V)] .nil 0 (dD (.fr (aK V).length 1 (strs (aK V)))):=by
 have a:(strs (aK V)).length=(aK V).length*1:=by rw[bu,q0r]
 have d:(strs V).length=V.length*1:=by rw[bu,q0r]
 have b:(0+V.length)*16<=140737488355328:=by omega
 conv=>whnf
 refine⟨[.fr V.length 1 (strs V)],_,.cons .same .nil,⟨V,rfl,e,rfl⟩,?_⟩
 conv=>whnf
 refine ah.sb (λc=>?_) (λc=>?_)
 ·have he:=pA c
  conv=>whnf
  refine eY.grow 1 16 _ _ _ _ _ _ tyT .fr d (El _) .nsl b ?_
  conv=>whnf
  exact dD.row rfl (by rw[he,q0w]) rfl (by rw[he];rfl) a (aB _)
 ·have j:¬V.length<2:=λk=>by rw[gF k]at c;cases c
  have he:=x4 (V:=V) (by rw[c];decide);have hw:=KO (l:=V.length) (by omega);have f:(V.take (V.length/2)).length=V.length/2:=by rw[q0g];omega
  have g:(V.drop (V.length/2)).length=V.length-V.length/2:=q0p
  have h:(aK (V.take (V.length/2))).length+(aK (V.drop (V.length/2))).length<=1000000:=by
   have:=cu (V.take (V.length/2));have:=cu (V.drop (V.length/2));omega
  conv=>whnf
  refine RSl.mk 0 (V.length/2) rfl (IB hw) (.inl rfl) (Y5 _) (by omega) ?_
  conv=>whnf
  refine⟨_,_,.cons .same .nil,⟨V.take (V.length/2),congrArg (λx=> [x]) (SF f.symm ((congrArg ((strs V).take ·) (q0r _)).trans (KM _ _))),by omega,by omega,rfl⟩,?_⟩
  conv=>whnf
  refine RSl.mk (V.length/2) V.length (IB hw) rfl (.inl rfl) (by omega) (Z6 _) ?_
  conv=>whnf
  refine⟨_,_,.cons .same .nil,⟨V.drop (V.length/2),congrArg (λx=> [x]) (SF g.symm ((congrArg ((strs V).drop ·) (q0r _)).trans (KK _ _))),by omega,by omega,rfl⟩,?_⟩
  conv=>whnf
  refine⟨aK (V.take (V.length/2)),aK (V.drop (V.length/2)),true,rfl,rfl,.inl ⟨rfl,rfl⟩,h,?_⟩
  conv=>whnf
  exact⟨_,by rw[he];exact .same⟩
theorem Em(V:List (List Nat))(e:V.length<=0):PR GSm 3 lE 180 [.fr V.length 1 (strs V)] .nil 0 (dD (.fr (aK V).length 1 (strs (aK V)))):=by
 have a:(strs (aK V)).length=(aK V).length*1:=by rw[bu,q0r]
 have c:(strs V).length=V.length*1:=by rw[bu,q0r]
 have b:(0+V.length)*16<=140737488355328:=by omega
 conv=>whnf
 refine⟨[.fr V.length 1 (strs V)],_,.cons .same .nil,⟨V,rfl,by omega,rfl⟩,?_⟩
 conv=>whnf
 refine ah.sb (λd=>?_) (λd=>absurd (gF (V:=V) (by omega)) (by rw[d];decide));have he:=pA d
 conv=>whnf
 refine eY.grow 1 16 _ _ _ _ _ _ tyT .fr c (El _) .nsl b ?_
 conv=>whnf
 exact dD.row rfl (by rw[he,q0w]) rfl (by rw[he];rfl) a (aB _)
theorem SG:∀N,ai 180 (cW (QY N))
 |0=>zW (Hn N9 3 (by kernel_rfl) (by kernel_rfl)) (by kernel_rfl) λcs v ⟨V,a,b,d,c⟩=>by subst a c;exact⟨rfl,rfl,Em V b⟩
 |N+1=>zW (Hn (UD (SG N).cs) 3 (by kernel_rfl) (by kernel_rfl)) (by kernel_rfl) λcs v ⟨V,a,b,d,c⟩=>by subst a c;exact⟨rfl,rfl,Gw N V b d⟩
theorem bk:∀{a b:List Nat},dh a b=true<->a=b
 | [],[]=>by simp[dh]
 | [],_::_=>by simp[dh]
 |_::_,[]=>by simp[dh]
 |a::x,b::y=>by
  unfold dh;by_cases e:a=b
  ·subst e;rw[Nat.beq_refl];simp[bk (a:=x) (b:=y)]
  ·have c:Nat.beq a b=false:=by cases q:Nat.beq a b;rfl;exact absurd (q0d q) e
   rw[c];simp[e]
theorem QZ{a b:Nat}(e:a≠b):Nat.beq a b=false:=by cases q:Nat.beq a b;rfl;exact absurd (q0d q) e
theorem x5(c:Nat)(x y:List Nat):ltL (c::x) (c::y)=ltL x y:=by
 show(match Nat.beq c c with|true=>ltL x y|false=>Nat.blt c c)=_;rw[Nat.beq_refl]
theorem x6{a b:Nat}(x y:List Nat)(e:a≠b):ltL (a::x) (b::y)=decide (a<b):=by
 show(match Nat.beq a b with|true=>ltL x y|false=>Nat.blt a b)=_;rw[QZ e,q2r,q2q,decide_eq_true_eq]
theorem il:∀a:List Nat,ltL a a=false
 | []=>rfl
 |c::x=>by rw[x5];exact il x
theorem iJ:∀{a b c:List Nat},ltL a b=true->ltL b c=true->ltL a c=true
 | [],[],_,h,_=>by cases h
 |_::_,[],_,h,_=>by cases h
 |_,_::_,[],_,k=>by cases k
 | [],_::_,_::_,_,_=>rfl
 |a::x,b::y,c::z,h,k=>by
  by_cases e:a=b
  ·subst e;rw[x5]at h;by_cases f:a=c
   ·subst f;rw[x5]at k⊢;exact iJ h k
   ·rw[x6 _ _ f]at k⊢;exact k
  ·rw[x6 _ _ e]at h;have h:=of_decide_eq_true h;by_cases f:b=c
   ·subst f;rw[x6 _ _ e];exact decide_eq_true h
   ·rw[x6 _ _ f]at k;have k:=of_decide_eq_true k;rw[x6 _ _ (by omega)];exact decide_eq_true (by omega)
def UpT(V:List Tx):Prop:=V.Pairwise λa b=>ltL a b=true
theorem rA:∀{A B:List Tx},UpT A->UpT B->(∀s,s∈A<->s∈B)->A=B
 | [],[],_,_,_=>rfl
 | [],b::B,_,_,h=>by have:=(h b).2 q0b;cases this
 |a::A,[],_,_,h=>by have:=(h a).1 q0b;cases this
 |a::A,b::B,i,j,h=>by
  obtain⟨d,k⟩:=q1w.1 i;obtain⟨f,l⟩:=q1w.1 j
  have e:a=b:=by
   rcases Z3.1 ((h a).1 q0b)with e|m
   ·exact e
   ·rcases Z3.1 ((h b).2 q0b)with e|n
    ·exact e.symm
    ·have g:=iJ (d b n) (f a m);rw[il]at g;cases g
  subst e
  rw[rA k l λs=>⟨λc=>(Z3.1 ((h s).1 (Y4 _ c))).elim (λe=>by
   have:=d s c;rw[e,il]at this;cases this) id,λc=>(Z3.1 ((h s).2 (Y4 _ c))).elim (λe=>by
   have:=f s c;rw[e,il]at this;cases this) id⟩]
theorem p8{a b:List Nat}:leS a b=true<->ltL a b=true∨a=b:=by
 unfold leS;rw[q1c,bk]
theorem Oa{a b:List Nat}(h:leS a b=true)(k:leS b a=true):a=b:=by
 rcases p8.1 h with h|h
 ·rcases p8.1 k with k|k
  ·have:=iJ h k;rw[il]at this;cases this
  ·exact k.symm
 ·exact h
theorem jV(q:Bool):∀(A B:List Tx),UpT A->UpT B->UpT (bA q A B)/\∀s,s∈bA q A B<->(s∈A/\(q=true∨s∉B))∨(q=true/\s∈B)
 | [],B,_,o=>by
  rw[gB];cases q with
  |true=>exact⟨o,λs=>by simp⟩
  |false=>exact⟨.nil,λs=>by simp⟩
 |a::A,[],p,_=>by rw[gC];exact⟨p,λs=>by simp⟩
 |a::A,b::B,p,o=>by
  obtain⟨j,u⟩:=q1w.1 p;obtain⟨n,v⟩:=q1w.1 o;by_cases h:leS a b=true
  ·by_cases k:leS b a=true
   ·have e:=Oa h k;subst e;obtain⟨s1,s2⟩:=jV q A B u v;rw[mW A B h k];have r:a∉A:=λm=>by have:=j a m;rw[il]at this;cases this
    have w:a∉B:=λm=>by have:=n a m;rw[il]at this;cases this
    cases q with
    |true=>
     refine⟨q1w.2 ⟨λs c=>((s2 s).1 c).elim (λz=>j s z.1) (λz=>n s z.2),s1⟩,λs=>?_⟩;simp only[if_true,q1q,q2f,Z3,s2,true_or,true_and,and_true];constructor
     ·rintro(h|h|h)
      ·exact .inl (.inl h)
      ·exact .inl (.inr h)
      ·exact .inr (.inr h)
     ·rintro((h|h)|h|h)
      ·exact .inl h
      ·exact .inr (.inl h)
      ·exact .inl h
      ·exact .inr (.inr h)
    |false=>
     refine⟨s1,λs=>?_⟩;simp only[q2b,if_false,q2f,Z3,s2,false_or,false_and,or_false,not_or];constructor
     ·rintro⟨g,i⟩;exact⟨.inr g,λe=>r (e▸g),i⟩
     ·rintro⟨g,i,t⟩;exact⟨g.resolve_left i,t⟩
   ·obtain⟨s1,s2⟩:=jV q A (b::B) u o;have d:ltL a b=true:=(p8.1 h).resolve_right λe=>k (by subst e;exact p8.2 (.inr rfl))
    rw[mV A B h k]
    have w:a∉b::B:=λm=>by
     rcases Z3.1 m with e|m
     ·rw[<-e,il]at d;cases d
     ·have:=iJ d (n a m);rw[il]at this;cases this
    refine⟨q1w.2 ⟨λs c=>?_,s1⟩,λs=>?_⟩
    ·rcases(s2 s).1 c with c|c
     ·exact j s c.1
     ·rcases Z3.1 c.2 with rfl|c
      ·exact d
      ·exact iJ d (n s c)
    ·rw[Z3,Z3 (l:=A),s2];constructor
     ·rintro(h|h|h)
      ·subst h;exact .inl ⟨.inl rfl,.inr w⟩
      ·exact .inl ⟨.inr h.1,h.2⟩
      ·exact .inr h
     ·rintro(⟨h|h,i⟩|h)
      ·exact .inl h
      ·exact .inr (.inl ⟨h,i⟩)
      ·exact .inr (.inr h)
  ·have k:=uj a b (by simpa using h);have f:ltL b a=true:=(p8.1 k).resolve_right λe=>h (by subst e;exact p8.2 (.inr rfl))
   obtain⟨s1,s2⟩:=jV q (a::A) B p v;rw[mX A B h]
   have r:b∉a::A:=λm=>by
    rcases Z3.1 m with e|m
    ·rw[<-e,il]at f;cases f
    ·have:=iJ f (j b m);rw[il]at this;cases this
   cases q with
   |true=>
    refine⟨q1w.2 ⟨λs c=>?_,s1⟩,λs=>?_⟩
    ·rcases(s2 s).1 c with c|c
     ·rcases Z3.1 c.1 with rfl|c
      ·exact f
      ·exact iJ f (j s c)
     ·exact n s c.2
    ·show s∈b::bA true (a::A) B<->_;rw[Z3,s2,Z3 (l:=B)]
     (try simp only[true_or,true_and,and_true])
     constructor
     ·rintro(h|h|h)
      ·exact .inr (.inl h)
      ·exact .inl h
      ·exact .inr (.inr h)
     ·rintro(h|h|h)
      ·exact .inr (.inl h)
      ·exact .inl h
      ·exact .inr (.inr h)
   |false=>
    refine⟨s1,λs=>?_⟩;show s∈bA false (a::A) B<->_;rw[s2,Z3 (l:=B)];simp only[q2b,false_or,false_and,or_false,not_or];exact⟨λ⟨g,i⟩=>⟨g,λe=>r (e▸g),i⟩,λ⟨g,_,t⟩=>⟨g,t⟩⟩
termination_by A B=>A.length+B.length
theorem Ob{V:List Tx}(h:lC V=true):UpT V:=by
 have h:sY V V.length:=of_decide_eq_true h
 have key:∀d i,∀(a:i+d+1<V.length),ltL (V[i]'(by omega)) (V[i+d+1]'a)=true:=λd=>by
  induction d with
  |zero=>intro i a;exact h i (by omega) a
  |succ d b=>
   intro i a;exact iJ (b i (by omega)) (h (i+d+1) (by omega) a)
 unfold UpT;rw[q3n];intro i j f a c;have:=key (j-i-1) i (by omega);have e:i+(j-i-1)+1=j:=by omega
 simp only[e]at this;exact this
theorem pB:∀(N:Nat) (V:List Tx),V.length<=N->UpT (aK V)/\∀s,s∈aK V<->s∈V
 |N,V,h=>by
  by_cases q:lC V=true
  ·rw[pA q];exact⟨Ob q,λs=>Iff.rfl⟩
  ·have g:¬V.length<2:=λk=>q (gF k)
   cases N with
   |zero=>omega
   |succ N=>
    have i:(V.take (V.length/2)).length=V.length/2:=by rw[q0g];omega
    have j:(V.drop (V.length/2)).length=V.length-V.length/2:=q0p;obtain⟨a,b⟩:=pB N (V.take (V.length/2)) (by omega);obtain⟨c,d⟩:=pB N (V.drop (V.length/2)) (by omega);obtain⟨e,f⟩:=jV true _ _ a c;rw[x4 q];refine⟨e,λs=>?_⟩;rw[f,b,d];simp only[true_or,and_true,true_and];rw[<-q1d,q1i]
theorem bb(V:List Tx):UpT (aK V)/\∀s,s∈aK V<->s∈V:=pB _ V (Z6 _)
def qk (V:List Tx) (s:Tx):List Tx:=bA true (aK V) (aK [s])
def Gx (V:List Tx) (s:Tx):List Tx:=bA false (aK V) (aK [s])
theorem x7(V:List Tx)(s:Tx):(qk V s).length<=V.length+1:=by
 have b:=lD true (aK V) (aK [s]);have c:=cu V;have a:=cu [s];simp only[q1v]at a;unfold qk;omega
theorem KQ(V:List Tx)(s:Tx):UpT (qk V s)/\∀x,x∈qk V s<->x∈V∨x=s:=by
 obtain⟨a,b⟩:=bb V;obtain⟨c,d⟩:=bb [s];obtain⟨e,f⟩:=jV true _ _ a c;exact⟨e,λx=>by unfold qk;rw[f,b,d];simp⟩
def KSo:FuncId->EP:=aq 180 (cW (QY 1000000)) (aq 206 zY evP)
theorem Gy:aW KSo:=ae (ae az WU) (SG _)
def UE(cs:List AV)(v:AV):Prop:=∃V s,cs=[.fr V.length 1 (strs V),.ss s]/\V.length<1000000/\v= .fr (qk V s).length 1 (strs (qk V s))
def WV(cs:List AV)(v:AV):Prop:=∃V s,cs=[.fr V.length 1 (strs V),.ss s]/\V.length<1000000/\v= .fr (Gx V s).length 1 (strs (Gx V s))
def UF(cs:List AV)(v:AV):Prop:=∃V,cs=[.fr V.length 1 (strs V)]/\V.length<=1000000/\v= .fr (aK V).length 1 (strs (aK V))
theorem SH:ai 124 (cW UF):=pv Gy 4 (by kernel_rfl) λcs v ⟨V,b,a,c⟩=>by
 subst b c;refine⟨rfl,rfl,?_⟩
 conv=>whnf
 refine⟨_,_,_,.cons .same .nil,⟨V,rfl,a,a,rfl⟩,?_⟩
 conv=>whnf
 exact dD.same
theorem Oc{V:List Tx}{s:Tx}(h:V.length<1000000):(aK V).length+(aK [s]).length<=1000000:=by
 have b:=cu V;have a:=cu [s];simp only[q1v]at a;omega
theorem WW:ai 166 (cW UE):=pv Gy 4 (by kernel_rfl) λcs v ⟨V,s,a,b,c⟩=>by
 subst a c;refine⟨rfl,rfl,?_⟩;have d:=Oc (s:=s) b
 conv=>whnf
 refine⟨_,_,_,.cons .same .nil,⟨V,rfl,by omega,by omega,rfl⟩,?_⟩
 conv=>whnf
 refine⟨[.fr 1 1 (strs [s])],_,_,.cons (.sl (l:=[.ss s]) (z:=true) rfl rfl rfl rfl) .nil,⟨[s],rfl,Z0 rfl,Z0 rfl,rfl⟩,?_⟩
 conv=>whnf
 refine⟨aK V,aK [s],true,rfl,rfl,.inr (.inl ⟨rfl,rfl⟩),d,?_⟩
 conv=>whnf
 exact dD.same
theorem Yt:ai 126 (cW WV):=pv Gy 4 (by kernel_rfl) λcs v ⟨V,s,a,b,c⟩=>by
 subst a c;refine⟨rfl,rfl,?_⟩;have d:=Oc (s:=s) b
 conv=>whnf
 refine⟨_,_,_,.cons .same .nil,⟨V,rfl,by omega,by omega,rfl⟩,?_⟩
 conv=>whnf
 refine⟨[.fr 1 1 (strs [s])],_,_,.cons (.sl (l:=[.ss s]) (z:=true) rfl rfl rfl rfl) .nil,⟨[s],rfl,Z0 rfl,Z0 rfl,rfl⟩,?_⟩
 conv=>whnf
 refine⟨aK V,aK [s],false,rfl,rfl,.inr (.inr ⟨rfl,rfl⟩),d,?_⟩
 conv=>whnf
 exact dD.same
def WX(cs:List AV)(v:AV):Prop:=∃(V:List Tx) (s:Tx),cs=[.fr V.length 1 (strs V),.ss s]/\V.length<=1000000/\v= .sb (decide (s∈V))
def hs0 (V:List Tx) (s:Tx) (i:Nat):AE×AH:=(mkE [(1,.ss (s)),(7,.fr V.length 1 (strs V)),(8,.si .i64 ((V.length:Int))),(9,.si .i64 ((i:Int)))],mkH [])
theorem Yu:ai 165 (cW WX):=pv az 4 (by kernel_rfl) λcs v ⟨V,s,f,p,a⟩=>by
 subst f a;refine⟨rfl,rfl,?_⟩
 conv=>whnf
 refine aQ.mk {i:Nat//i<=V.length/\∀j,j<i->∀h:j<V.length,V[j]≠s} 0 (λi=>hs0 V s i.val) (λi=>V.length-i.val) ⟨0,Y5 _,λj h=>by omega⟩ ?_ ?_
 ·exact Cov.ofN [] ⟨sS,ab.frE rfl,sI,sI,trivial⟩ trivial
 intro⟨i,r,c⟩;have g:IntKind.i64.wrap ((i:Int)+1)=((i+1:Nat):Int):=by rw[aj (by omega) (by omega)];omega
 conv=>whnf
 refine ah.dec (λh=>?_) (λh=>?_)
 ·have a:i<V.length:=q0t.1 h;have l:dh V[i] s=true->AV.sb true=AV.sb (decide (s∈V)):=λz=>congrArg AV.sb (decide_eq_true (bk.1 z▸q0i a)).symm
  have n:dh V[i] s=false->∀j,j<i+1->∀h:j<V.length,V[j]≠s:=λz j d o e=>by
   by_cases q:j=i
   ·subst q;rw[bk.2 e]at z;cases z
   ·exact c j (by omega) o e
  have b:V.length-(i+1)<V.length-i:=by omega
  conv=>whnf
  refine Idx.mk i rfl a ?_
  conv=>whnf
  refine au (fD a (q0r _)) ?_
  conv=>whnf
  refine ah.sb (λz=>?_) (λz=>?_)
  ·conv=>whnf
   exact dD.told (l z)
  ·conv=>whnf
   exact⟨⟨i+1,a,n z⟩,b,Cov.ofN [] ⟨sS,ab.frE rfl,sI,sI (congrArg (AV.si .i64) g),trivial⟩ trivial⟩
 ·have k:AV.sb false=AV.sb (decide (s∈V)):=congrArg AV.sb (decide_eq_false λm=>by
   obtain⟨j,d,e⟩:=q2z m;have h:¬(i:Int)<(V.length:Int):=h;exact c j (by omega) d e).symm
  conv=>whnf
  exact dD.told k
abbrev Lab:=Tx×Tx
def dj(l:List Lab):List AV:=l.flatMap λy=> [.ss y.1,.ss y.2]
theorem gP(y:Lab)(l:List Lab):dj (y::l)= .ss y.1:: .ss y.2::dj l:=rfl
theorem jW(l:List Lab):(dj l).length=l.length*2:=by
 induction l with
 |nil=>rfl
 |cons y l a=>rw[gP];simp only[Z9,a];omega
theorem jx(l:List Lab):(dj l).all flat.flat1=true:=by
 induction l with
 |nil=>rfl
 |cons y l a=>rw[gP];simp only[q1x,a];rfl
theorem En(l:List Lab):(dj l).all oH=true:=by
 induction l with
 |nil=>rfl
 |cons y l a=>rw[gP];simp only[q1x,a];rfl
theorem ie(l:List Lab):(dj l).map mk=dj l:=by
 induction l with
 |nil=>rfl
 |cons y l a=>rw[gP];simp only[q1r,a];rfl
theorem uk:∀(l:List Lab) (i:Nat),(dj l).drop (i*2)=dj (l.drop i)
 |l,0=>by simp
 | [],i+1=>by simp[dj]
 |y::l,i+1=>by
  rw[gP,show(i+1)*2=i*2+1+1 by omega,List.drop_succ_cons,List.drop_succ_cons,uk l i];rfl
theorem pC{l:List Lab}{i o:Nat}(h:i<l.length)(ho:o=i*2):bq (dj l) o 2=some [.ss l[i].1,.ss l[i].2]:=by
 subst ho;unfold bq;rw[q0o (by rw[jW];omega),uk,q0j h,gP];rfl
theorem x8{l:List Lab}{i o:Nat}(h:i<l.length)(ho:o=i*2):nth (dj l) o=some (.ss l[i].1):=by
 subst ho;have e:(dj l)[i*2]?=((dj l).drop (i*2))[0]?:=by rw[q2t];simp
 rw[eX,e,uk,q0j h,gP];rfl
theorem ab.Yv{H:AH}{m:Nat}{r:Nat->Nat}{a:AV}{k:Nat}(e:a= .nsl):ab H m r a (.fr 0 k []):=λc d v _ _ b=>by
 subst e;rw[b.c9];exact .fre λ_=>rfl
theorem ab.frS{H:AH}{m n k:Nat}{r:Nat->Nat}{l:List AV}{a:AV}(e:a= .fr n k l):ab H m r a (.fr n k l):=by subst e;exact ab.mF rfl
def iK(s:Tx):Bool:=decide (s≠[])&&decide (s.length<=64)
def Eo(cs:List AV)(v:AV):Prop:=∃s,cs=[.ss s]/\v= .sb (iK s)
theorem IC:ai 105 (cW Eo):=pv az 3 (by kernel_rfl) λcs v ⟨s,b,c⟩=>by
 subst b c;refine⟨rfl,rfl,?_⟩;have k0:dh s []=true->iK s=false:=λz=>by rw[bk.1 z];rfl
 have d:dh s []=false->iK s=decide (s.length<=64):=λz=>by
  have:s≠[]:=λe=>by rw[bk.2 e]at z;cases z
  unfold iK;rw[decide_eq_true this];rfl
 conv=>whnf
 refine ah.nsb (λz=>?_) (λz=>?_)
 ·have a:decide ((s.length:Int)<=64)=iK s:=by rw[d z];exact decide_eq_decide.2 (by omega)
  conv=>whnf
  exact dD.told (congrArg AV.sb a)
 ·have a:=k0 z
  conv=>whnf
  exact dD.told (congrArg AV.sb a.symm)
def fy:List Tx->List Lab->Bool
 |_,[]=>true
 |N,x::l=>iK x.1&&(iK x.2&&(!decide (x.1∈N)&&fy (qk N x.1) l))
def dS (l:List Lab):Bool:=fy [] l&&decide (l.length<=8)
theorem pD:∀(l:List Lab) (N:List Tx),fy N l=true<->(∀x∈l,iK x.1=true/\iK x.2=true/\x.1∉N)/\(l.map Prod.fst).Nodup
 | [],N=>by simp[fy]
 |x::l,N=>by
  simp only[fy,Z7,q2x,decide_eq_false_iff_not,pD l,q1r,q2u,List.forall_mem_cons,(KQ N x.1).2,not_or,q0e,not_exists,not_and];constructor
  ·rintro⟨c,d,f,b,g⟩;exact⟨⟨⟨c,d,f⟩,λy a=>⟨(b y a).1,(b y a).2.1,(b y a).2.2.1⟩⟩,λy a e=>(b y a).2.2.2 e,g⟩
  ·rintro⟨⟨⟨c,d,f⟩,b⟩,g,h⟩;exact⟨c,d,f,λy a=>⟨(b y a).1,(b y a).2.1,(b y a).2.2,λe=>g y a e⟩,h⟩
theorem Ep{l m:List Lab}(h:l.Perm m):dS l=dS m:=by
 unfold dS;rw[h.length_eq];congr 1;rw[q2r,pD,pD];exact and_congr ⟨λq x a=>q x (h.mem_iff.2 a),λq x a=>q x (h.mem_iff.1 a)⟩ (h.map _).nodup_iff
theorem nP{l:List Lab}(h:dS l=true):l.length<=8:=by
 unfold dS at h;rw[Z7,decide_eq_true_eq]at h;exact h.2
def UG(cs:List AV)(v:AV):Prop:=∃l:List Lab,cs=[.fr l.length 2 (dj l)]/\l.length<=1000/\v= .sb (dS l)
def KLr:FuncId->EP:=aq 105 (cW Eo) (aq 165 (cW WX) (aq 166 (cW UE) evP))
theorem UH:aW KLr:=ae (ae (ae az WW) Yu) IC
def rg0 (l:List Lab) (N:List Tx) (i:Nat):AE×AH:=(mkE [(0,.fr l.length 2 (dj l)),(3,AV.fr N.length 1 (strs N)),(6,.fr l.length 2 (dj l)),(7,.si .i64 ((l.length:Int))),(8,.si .i64 ((i:Int)))],mkH [])
theorem WY:ai 106 (cW UG):=pv UH 4 (by kernel_rfl) λcs v ⟨l,p,C,b⟩=>by
 subst p b;refine⟨rfl,rfl,?_⟩
 conv=>whnf
 refine aQ.mk {t:Nat×List Tx//t.1<=l.length/\t.2.length<=t.1/\fy t.2 (l.drop t.1)=fy [] l} 0 (λt=>rg0 l t.val.2 t.val.1) (λt=>l.length-t.val.1) ⟨(0,[]),Y5 _,Z6 _,rfl⟩ ?_ ?_
 ·exact Cov.ofN [] ⟨ab.frE rfl,.Yv rfl,ab.frE rfl,sI,sI,trivial⟩ trivial
 intro⟨(i,N),n,o,a⟩;have n:i<=l.length:=n;have o:N.length<=i:=o;have a:fy N (l.drop i)=fy [] l:=a;have q:IntKind.i64.wrap ((i:Int)+1)=((i+1:Nat):Int):=by rw[aj (by omega) (by omega)];omega
 conv=>whnf
 refine ah.dec (λh=>?_) (λh=>?_)
 ·have b:i<l.length:=q0t.1 h;have hd:l.drop i=l[i]::l.drop (i+1):=q0j b;have f:l.length-(i+1)<l.length-i:=by omega
  have a:(iK l[i].1&&(iK l[i].2&&(!decide (l[i].1∈N)&&fy (qk N l[i].1) (l.drop (i+1)))))=fy [] l:=by rw[<-a,hd];rfl
  have no:fy [] l=false->AV.sb false=AV.sb (dS l):=λe=>by unfold dS;rw[e];rfl
  have s:iK l[i].1=false->AV.sb false=AV.sb (dS l):=λz=>no (by rw[<-a,z];rfl)
  have u:iK l[i].2=false->AV.sb false=AV.sb (dS l):=λz=>no (by rw[<-a,z];simp)
  have w:l[i].1∈N->AV.sb false=AV.sb (dS l):=λz=>no (by rw[<-a,decide_eq_true z];simp)
  have x:iK l[i].1=true->iK l[i].2=true->¬l[i].1∈N->fy (qk N l[i].1) (l.drop (i+1))=fy [] l:=λc z2 d=>by rw[<-a,c,z2,decide_eq_false d];rfl
  have D:=x7 N l[i].1;have g:(qk N l[i].1).length<=i+1:=by omega
  have j:N.length<1000000:=by omega
  have k:N.length<=1000000:=by omega
  clear a hd
  conv=>whnf
  refine Idx.mk i rfl b ?_
  conv=>whnf
  refine au (pC b rfl) ?_
  conv=>whnf
  refine⟨_,_,_,.cons .same .nil,⟨_,rfl,rfl⟩,?_⟩
  conv=>whnf
  refine ah.nsb (λc=>?_) (λc=>?_)
  ·have r:=s c
   conv=>whnf
   exact dD.told r
  conv=>whnf
  refine⟨_,_,_,.cons .same .nil,⟨_,rfl,rfl⟩,?_⟩
  conv=>whnf
  refine ah.nsb (λz2=>?_) (λz2=>?_)
  ·have r:=u z2
   conv=>whnf
   exact dD.told r
  conv=>whnf
  refine⟨_,_,_,.cons .same (.cons .same .nil),⟨N,_,rfl,k,rfl⟩,?_⟩
  conv=>whnf
  refine ah.dec (λd=>?_) (λd=>?_)
  ·have r:=w d
   conv=>whnf
   exact dD.told r
  have y:=x c z2 d
  conv=>whnf
  refine⟨_,_,_,.cons .same (.cons .same .nil),⟨N,_,rfl,j,rfl⟩,?_⟩
  conv=>whnf
  exact⟨⟨(i+1,qk N l[i].1),b,g,y⟩,f,Cov.ofN [] ⟨ab.frE rfl,.frS rfl,ab.frE rfl,sI,sI (congrArg (AV.si .i64) q),trivial⟩ trivial⟩
 ·have A:i=l.length:=by have h:¬(i:Int)<(l.length:Int):=h;omega
  have m:fy [] l=true:=by rw[<-a,A,List.drop_length];rfl
  have B:decide ((l.length:Int)<=8)=dS l:=by unfold dS;rw[m];exact decide_eq_decide.2 (by omega)
  conv=>whnf
  exact dD.told (congrArg AV.sb B)
def sZ (x:Lab):List Lab->List Lab
 | []=> [x]
 |p::r=>if ltL x.1 p.1=true then p::sZ x r else x::p::r
def me (l:List Lab):List Lab:=l.foldl (λr x=>sZ x r) []
def cj (l:List Lab):List Lab:=(me l).reverse
theorem zZ(x:Lab):∀r:List Lab,(sZ x r).Perm (x::r)
 | []=> .refl _
 |p::r=>by
  unfold sZ;split
  ·exact((zZ x r).cons p).trans (.swap x p r)
  ·exact .refl _
theorem rB:∀(l r:List Lab),(l.foldl (λr x=>sZ x r) r).Perm (l++r)
 | [],r=> .refl _
 |x::l,r=>(rB l (sZ x r)).trans (((zZ x r).append_left l).trans List.perm_middle)
theorem rC(l:List Lab):(cj l).Perm l:=(List.reverse_perm _).trans ((rB l []).trans (by rw[q0z]))
theorem Gz{l:List Lab}{i:Nat}(h:i<l.length):me (l.take (i+1))=sZ l[i] (me (l.take i)):=by
 unfold me;rw[Y8 h,q2s];rfl
theorem KR(l:List Lab):(me l).length=l.length:=by
 have:=(rB l []).length_eq;rwa [q0z]at this
theorem Er:∀(L:List Lab) (i:Nat) (y:Lab),i<L.length->fA (dj L) (i*2) [.ss y.1,.ss y.2]=some (dj (L.set i y))
 | [],i,_,h=>by simp at h
 |z::L,0,y,_=>by
  rw[gP];show(fA (.ss z.2::dj L) 0 [.ss y.2]).map _=_;show((fA (dj L) 0 []).map _).map _=_;have:fA (dj L) 0 []=some (dj L):=by unfold fA;cases dj L<;>rfl
  rw[this];rfl
 |z::L,i+1,y,h=>by
  rw[gP,show(i+1)*2=i*2+1+1 by omega];show(fA (.ss z.2::dj L) (i*2+1) _).map _=_;show((fA (dj L) (i*2) _).map _).map _=_;rw[Er L i y (by simpa using h)];rfl
theorem ID{L M:List Lab}{i o:Nat}{y:Lab}(h:i<L.length)(ho:o=i*2)(a:L.set i y=M):fA (dj L) o [.ss y.1,.ss y.2]=some (dj M):=by subst ho a;exact Er L i y h
theorem WZ:RTy 28 28 2 32:=⟨_,_,_,rfl,rfl,(λq h=>by cases h),rfl,rfl,rfl,rfl,by decide,by decide⟩
def so0 (L:List Lab) (m:Nat) (i:Nat):AE×AH:=(mkE [(3,.rw 0 0 m 2 0),(9,.si .i64 ((m:Int))),(10,.si .i64 ((i:Int)))],mkH [(0,.cells (dj (L)) true)])
def so1 (L:List Lab) (m:Nat) (i:Nat) (k:Nat):AE×AH:=(mkE [(3,.rw 0 0 m 2 0),(5,.si .i64 ((k:Int))),(9,.si .i64 ((m:Int))),(10,.si .i64 ((i:Int)))],mkH [(0,.cells (dj (L)) true)])
def Yw:FuncId->EP:=bg 167 [] evP
theorem Q0:aW Yw:=aw az (by kernel_rfl) (by kernel_rfl)
def SI(cs:List AV)(v:AV):Prop:=∃l:List Lab,cs=[.fr l.length 2 (dj l)]/\l.length<=1000/\v= .fr l.length 2 (dj (cj l))
theorem W0:ai 167 (cW SI):=pv Q0 4 (by kernel_rfl) λcs v ⟨l,F,K,g⟩=>by
 subst F g;refine⟨rfl,rfl,?_⟩;have k:(0+l.length)*32<=140737488355328:=by omega
 conv=>whnf
 refine eY.grow 2 32 _ _ _ _ _ _ WZ .fr (jW l) (En l) .nsl k ?_
 conv=>whnf
 refine aQ.mk {i:Nat//i<=l.length} 1 (λi=>so0 ((me (l.take i.val)).reverse++l.drop i.val) l.length i.val) (λi=>l.length-i.val) ⟨0,Y5 _⟩ ?_ ?_
 focus
  exact Cov.ofN [(0,0)] ⟨.rw (by decide) rfl,sI (congrArg (AV.si .i64) (by omega)),sI,trivial⟩ ⟨oR (jx _) (ie _) (.inl ⟨_,rfl,ie l⟩),trivial⟩
 intro⟨i,u⟩;have u:i<=l.length:=u;have C:IntKind.i64.wrap ((i:Int)+1)=((i+1:Nat):Int):=by rw[aj (by omega) (by omega)];omega
 conv=>whnf
 refine ah.dec (λh=>?_) (λh=>?_)
 focus
  have g:i<l.length:=q0t.1 h;have b:=KR (l.take i);rw[q0g,q3q u]at b;have e0:(me (l.take i)).reverse++l.drop i=(me (l.take i)).reverse++l[i]::([]++l.drop (i+1)):=by rw[q0j g];rfl
  conv=>whnf
  refine aQ.mk {t:List Lab×List Lab//t.1.length+t.2.length=i/\t.2.reverse++sZ l[i] t.1=me (l.take (i+1))} 1 (λt=>so1 (t.val.1.reverse++l[i]::(t.val.2++l.drop (i+1))) l.length i t.val.1.length) (λt=>t.val.1.length) ⟨(me (l.take i),[]),b,(Gz g).symm⟩ ?_ ?_
  focus
   exact Cov.ofN [(0,0)] ⟨.rw (by decide) rfl,sI (congrArg (AV.si .i64) (by rw[b])),sI,sI,trivial⟩ ⟨oR (jx _) (ie _) (.inl ⟨_,rfl,by rw[e0,ie]⟩),trivial⟩
  intro⟨(r,S),j,c⟩;have j:r.length+S.length=i:=j;have c:S.reverse++sZ l[i] r=me (l.take (i+1)):=c;have a:(r.reverse++l[i]::(S++l.drop (i+1))).length=l.length:=by simp only[Z5,List.length_reverse,Z9,q0p];omega
  have done:sZ l[i] r=l[i]::r->(me (l.take (i+1))).reverse++l.drop (i+1)=r.reverse++l[i]::(S++l.drop (i+1)):=λe=>by rw[<-c,e];simp
  cases r with
  |nil=>
   have hd:=done rfl
   conv=>whnf
   refine ah.dec (λz=>absurd (show((0:Nat):Int)>0 from z) (by decide)) (λ_=>?_)
   conv=>whnf
   exact⟨⟨i+1,g⟩,by show l.length-(i+1)<l.length-i;omega,Cov.ofN [(0,0)] ⟨.rw (by decide) rfl,sI,sI (congrArg (AV.si .i64) C),trivial⟩ ⟨oR (jx _) (ie _) (.inl ⟨_,rfl,by rw[hd,ie]⟩),trivial⟩⟩
  |cons p r=>
   have s:IntKind.i64.wrap (((p::r).length:Int)-1)=((r.length:Nat):Int):=by simp only[Z9]at j⊢;rw[aj (by omega) (by omega)];omega
   have w:(p::r).reverse++l[i]::(S++l.drop (i+1))=r.reverse++p::l[i]::(S++l.drop (i+1)):=by simp
   have d:r.length+1<((p::r).reverse++l[i]::(S++l.drop (i+1))).length:=by rw[a];simp only[Z9]at j;omega
   have m:r.length<((p::r).reverse++l[i]::(S++l.drop (i+1))).length:=by omega
   have x:((p::r).reverse++l[i]::(S++l.drop (i+1)))[r.length+1]=l[i]:=by
    rw[List.getElem_append_right (by simp)];simp
   have y:((p::r).reverse++l[i]::(S++l.drop (i+1)))[r.length]=p:=by
    rw[List.getElem_of_eq w,List.getElem_append_right (by simp)];simp
   have D:=x8 d (show 0+(r.length+1)*2+0=(r.length+1)*2 by omega);have E:=x8 m (show 0+r.length*2+0=r.length*2 by omega);rw[x]at D;rw[y]at E;have s1:=pC d (show 0+(r.length+1)*2=(r.length+1)*2 by omega);have s0:=pC m (show 0+r.length*2=r.length*2 by omega);rw[x]at s1;rw[y]at s0
   have G:fA (dj ((p::r).reverse++l[i]::(S++l.drop (i+1)))) (0+(r.length+1)*2) [.ss p.1,.ss p.2]=some (dj (r.reverse++p::p::(S++l.drop (i+1)))):=ID d (by omega) (by
    rw[w,q4g _ _ (by simp)];simp)
   have H:fA (dj (r.reverse++p::p::(S++l.drop (i+1)))) (0+r.length*2) [.ss l[i].1,.ss l[i].2]=some (dj (r.reverse++l[i]::(p::S++l.drop (i+1)))):=ID (i:=r.length) (by simp only[Z5,List.length_reverse,Z9];omega) (by omega) (by
    rw[q4g _ _ (by simp)];simp)
   have A:r.length+1<l.length:=by simp only[Z9]at j;omega
   have f:r.length<l.length:=by omega
   have n:((p::r).length:Int)>0:=by simp only[Z9];omega
   have B:r.length<(p::r).length:=q1l _;have I:r.length+(p::S).length=i:=by simp only[Z9]at j⊢;omega
   have ins:ltL l[i].1 p.1=true->(p::S).reverse++sZ l[i] r=me (l.take (i+1)):=λz=>by
    rw[<-c];have e:sZ l[i] (p::r)=p::sZ l[i] r:=if_pos z;rw[e];simp
   have o:ltL l[i].1 p.1=false->sZ l[i] (p::r)=l[i]::p::r:=λz=>if_neg (by rw[z];decide)
   have fin:=λz=>done (o z)
   clear w y x done o c
   conv=>whnf
   refine ah.dec (λ_=>?_) (λz=>absurd n z)
   conv=>whnf
   refine Idx.mk (r.length+1) rfl A ?_
   conv=>whnf
   refine au D ?_
   conv=>whnf
   refine Idx.mk r.length s f ?_
   conv=>whnf
   refine au E ?_
   conv=>whnf
   refine ah.sb (λz=>?_) (λz=>?_)
   focus
    have q:=ins z
    conv=>whnf
    refine Idx.mk r.length s f ?_
    conv=>whnf
    refine au s0 ?_
    conv=>whnf
    refine Idx.mk (r.length+1) rfl A ?_
    conv=>whnf
    refine au s1 ?_
    conv=>whnf
    refine Idx.mk (r.length+1) rfl A ?_
    conv=>whnf
    refine au G ?_
    conv=>whnf
    refine Idx.mk r.length s f ?_
    conv=>whnf
    refine au H ?_
    conv=>whnf
    exact⟨⟨(r,p::S),I,q⟩,B,Cov.ofN [(0,0)] ⟨.rw (by decide) rfl,sI (congrArg (AV.si .i64) s),sI,sI,trivial⟩ ⟨oR (jx _) (ie _) (.inl ⟨_,rfl,ie _⟩),trivial⟩⟩
   have hd:=fin z
   conv=>whnf
   exact⟨⟨i+1,g⟩,by show l.length-(i+1)<l.length-i;omega,Cov.ofN [(0,0)] ⟨.rw (by decide) rfl,sI,sI (congrArg (AV.si .i64) C),trivial⟩ ⟨oR (jx _) (ie _) (.inl ⟨_,rfl,by rw[hd,ie]⟩),trivial⟩⟩
 have J:i=l.length:=by have h:¬(i:Int)<(l.length:Int):=h;omega
 have c:(me (l.take i)).reverse++l.drop i=cj l:=by rw[J,q0k,List.drop_length,q0z];rfl
 have a:(dj (cj l)).length=l.length*2:=by rw[jW,(rC l).length_eq]
 conv=>whnf
 exact dD.row rfl rfl rfl (by rw[c]) a (jx _)
end Go.Proofs.YtflehenfikoniaaGreat
end
