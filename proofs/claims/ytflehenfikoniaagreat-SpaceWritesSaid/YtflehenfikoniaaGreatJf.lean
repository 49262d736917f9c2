/- Texts of our own, joined: the engine, the machine that runs code, and what is known of the functions. -/
import Derived.Test.YtflehenfikoniaaGreatRows
import Derived.WalkKit
import Derived.Deep.Quiet
import Derived.ProofKit
import Derived.Laws.StructEq
import Derived.LaidEql
import Derived.Laws.BytesArg
import Derived.Maps.RangeRun
import Derived.RangeFuncSeq
import Derived.Scope
import Derived.Laws.Strings
import Derived.Laws.Strings2
import Derived.Below
import Derived.Carry
import Derived.OpenShut
import Derived.ChangeMaps5
import Derived.Deep.Slices
import Derived.Deep.SlicePairs
import Derived.SizedLaws
import Derived.Laws.BitsAllLaws
import Derived.RangeFuncRecord
import Derived.Test.YtflehenfikoniaaGreatJe
set_option linter.unusedSimpArgs false
set_option linter.unusedVariables false
set_option maxHeartbeats 16000000
set_option maxRecDepth 100000
noncomputable section
namespace Go.Proofs.YtflehenfikoniaaGreat
open Go Go.RowKit
def yx{X C:Type}(B:Obj X C)(R:X->List AV->X->AV->Prop)(args:List AV)(H:AH)(n:Nat)(κ:PK):Prop:=match args with
 |a::f=>∃b p x cs e v d,a=aA p/\b<n/\n<800000/\Res H n f d cs/\d.get b=some (.sep (B.Q x p))/\((∃c,B.ok x c)->R x cs e v/\κ v (d.set (some (.sep (B.Q e p))) aa b) n)
 |_=>False
def yy{X C:Type}(B:Obj X C)(b:X)(p:Nat×Nat)(v:AV):PK:=λu c d=>∃a,Re c d u a v/\a.get 0=some (.sep (B.Q b p))
theorem XZ {X C:Type} {f:FuncId} {run:List AV->AH->Nat->PK->Prop} (t:ai f run) (J:bR Tryz.prog f=true) (B:Obj X C) {R:X->List AV->X->AV->Prop}
 (h:∀x cs d v p,(∃c,B.ok x c)->R x cs d v->cs.all gy=true/\gy v=true/\run (aA p::cs) (mkH [(0,.sep (B.Q x p))]) 1 (yy B d p v)):ai f (yx B R):=λargs H n κ F φ L M vs K N l P=>by
 unfold yx at F;split at F
 ·obtain⟨b,p,x,cs,d,v,G,rfl,T,hn9,A,hb,U⟩:=F;obtain⟨w1,V,q1,e1,r1⟩:=l.cons_inv;obtain⟨φ1,l1,D,W⟩:=A φ L M V N r1
  have E:∃c,B.ok x c:=by
   obtain⟨c,hc,_⟩:=(D.sep b _ hb).1;exact⟨c,hc⟩
  obtain⟨hR,Y⟩:=U E;obtain⟨s1,s2,s3⟩:=h x cs d v p E hR
  have xt:iZ G n [b] [.sep (B.Q x p)]:=⟨q2u.2 ⟨Z4,.nil⟩,rfl,λi s o j a=>by
   match i,j,a with
   |0,j,a=>injection j with j;injection a with a;subst j a;exact⟨T,hb,.inr rfl⟩
   |i+1,j,_=>simp at j⟩
  refine dq (S:=[b]) (O:=[.sep (B.Q x p)]) (args0:=aA p::cs) (κ:=λv2 H2 n2=>v2=v/\n2=n/\H2=G.set (some (.sep (B.Q d p))) aa b) t.m J D xt ?_ ?_ (Q:=λv' H' m=>v'=v/\m=1/\H'=mkH [(0,.sep (B.Q d p))]) ?_ λu H' n' hq=>?_
  ·rw[q1];refine .cons e1 ?_;rw[kU s1];exact W
  ·intro χ v2 H2 n2 u g hle hg hu ⟨f1,f2,f4⟩;subst f1 f2 f4;exact P χ _ _ _ u g (l1.trans hle) hg hu Y
  ·refine⟨yy B d p v,s3,λu H' n' ⟨H2,g1,g2⟩=>⟨v,mkH [(0,.sep (B.Q d p))],1,λχ L M w N hu=>?_,rfl,rfl,rfl⟩⟩;obtain⟨ψ1,m1,hr3,hu3⟩:=g1 χ L M w N hu;obtain⟨ψ2,I,hr4⟩:=BQ (k:=1) (O:=[.sep (B.Q d p)]) hr3 ⟨⟨_,g2,.refl rfl⟩,trivial⟩ (Z6 _);exact⟨ψ2,⟨λy q hy e=>I.1 y q hy (m1.b y q e),λq e=>I.2.1 q (m1.z q e),λq e=>m1.y q (I.2.2 q e)⟩,hr4,nN I.2.1 s2 hu3⟩
  ·obtain⟨g1,g2,g3⟩:=hq;subst g1 g2 g3;refine⟨1,G.set (some (.sep (B.Q d p))) aa b,Z6 _,λy o hy=>?_,(jb (r:=λb=>b) s2).2,(jb (m:=0) s2).1,rfl,rfl⟩;rcases PM.ak aa G b y o hy with⟨rfl,a⟩|⟨j,a⟩
   ·injection a with a;subst a;exact .inl ⟨0,_,Nat.one_pos,rfl,rfl,rfl,rfl,rfl⟩
   ·exact .inr ⟨by simp;omega,a,λq=>absurd (q3m.1 q) j⟩
 ·exact F.elim
theorem SX {X C:Type} {F:FuncId->EP} (e:aW F) (d:Nat) {f:FuncId} (a:bR Tryz.prog f=true) (B:Obj X C) {R:X->List AV->X->AV->Prop}
 (h:∀x cs b v p,(∃c,B.ok x c)->R x cs b v->cs.all gy=true/\gy v=true/\ay F d f (aA p::cs) (mkH [(0,.sep (B.Q x p))]) 1 (yy B b p v)):ai f (yx B R):=XZ (ax e d f) a B h
theorem yy.told{X C:Type}{B:Obj X C}{a:X}{p:Nat×Nat}{u v:AV}{H:AH}{n:Nat}(e:mkT u=mkT v)(h:H.get 0=some (.sep (B.Q a p))):yy B a p v u H n:=⟨H,.told e,h⟩
def I5{X C:Type}(B:Obj X C)(F:X->Prop)(R:List AV->X->Prop)(args:List AV)(H:AH)(n:Nat)(κ:PK):Prop:=∃cs y a,n<900000/\Res H n args a cs/\a.get n=none/\R cs y/\(F y->∀p,κ (aA p) (a.set (some (.sep (B.Q y p))) aa n) (n+1))
def RT{X C:Type}(B:Obj X C)(F:X->Prop)(y:X):PK:=λu a c=>∃p b,u=aA p/\a.get b=some (.sep (B.Q y p))/\F y
theorem X3 {X C:Type} {f:FuncId} {run:List AV->AH->Nat->PK->Prop} (k:ai f run) (D:bR Tryz.prog f=true) (B:Obj X C) {F:X->Prop} {R:List AV->X->Prop}
 (h:∀cs y,R cs y->cs.all gy=true/\run cs .nil 0 (RT B F y)):ai f (I5 B F R):=λargs H n κ ⟨cs,y,E,hn9,l,G,hR,I⟩ φ J L vs K M c N=>by
 obtain⟨φ1,l1,P,T⟩:=l φ J L _ M c;obtain⟨s1,s3⟩:=h cs y hR;refine dq (S:=[]) (O:=[]) (args0:=cs) (κ:=λv2 H2 n2=>∃p,F y/\v2=aA p/\n2=n+1/\H2=E.set (some (.sep (B.Q y p))) aa n) k.m D P ⟨q4p,rfl,λi s o r _=>by simp at r⟩ (by rw[kU s1];exact T) ?_ (Q:=λv' v m=>∃p,F y/\v'=aA p/\m=1/\v=mkH [(0,.sep (B.Q y p))]) ?_ λu v n' hq=>?_
 ·intro V v2 H2 n2 u g W hg Y ⟨p,f0,f1,f2,f4⟩;subst f1 f2 f4;exact N V _ _ _ u g (l1.trans W) hg Y (I f0 p)
 ·refine⟨RT B F y,s3,λu v n' ⟨p,b,Z,g2,g3⟩=>⟨aA p,mkH [(0,.sep (B.Q y p))],1,λV J L w M Y=>?_,p,g3,rfl,rfl,rfl⟩⟩;subst Z
  obtain⟨ψ,r,d,h3⟩:=Cov.ofR (m:=1) (p:=0) (n:=n') (σ:=PM.nil) (H:=v) (le:=[]) (lh:=[(0,.sep (B.Q y p))]) (λ_=>b) (Y5 _) (λb hb=>absurd hb (q1k b)) (λx j=>by cases j) (λx j=>by
   rw[q3m]at j;subst j;exact⟨Nat.one_pos,.inl ⟨_,g2,an.sep _⟩⟩) (λx j z A _=>by
   rw[q3m]at j A;subst j A;rfl) V J L (λ_=>Go.undef) M (λt a e=>by cases e)
  exact⟨ψ,r,d,Y⟩
 ·obtain⟨p,g0,Z,g2,g3⟩:=hq;subst Z g2 g3;refine⟨1,E.set (some (.sep (B.Q y p))) aa n,Y5 _,λz o A=>?_,rfl,p,g0,rfl,rfl,rfl⟩;rcases PM.ak aa E n z o A with⟨rfl,d⟩|⟨r,d⟩
  ·injection d with d;subst d;exact .inl ⟨0,_,Nat.one_pos,rfl,rfl,rfl,rfl,rfl⟩
  ·refine .inr ⟨?_,d,λq=>by cases q⟩;show z<n∨n+1<=z;omega
theorem X4 {X C:Type} {F:FuncId->EP} (b:aW F) (d:Nat) {f:FuncId} (a:bR Tryz.prog f=true) (B:Obj X C) {G:X->Prop} {R:List AV->X->Prop}
 (h:∀cs y,R cs y->cs.all gy=true/\ay F d f cs .nil 0 (RT B G y)):ai f (I5 B G R):=X3 (ax b d f) a B h
def O5{X C:Type}(B:Obj X C)(run:List AV->AH->Nat->PK->Prop)(args:List AV)(H:AH)(n:Nat)(κ:PK):Prop:=∃b p x,H.get b=some (.sep (B.Q x p))/\((∃c,B.ok x c)->run args H n κ)
theorem ai.kn{X C:Type}{f:FuncId}{run:List AV->AH->Nat->PK->Prop}(d:ai f run)(B:Obj X C):ai f (O5 B run):=λargs H n i ⟨b,p,x,j,h⟩ k l m o K g a q=>by
 have e:∃c,B.ok x c:=by
  obtain⟨c,r,_⟩:=(g.sep b _ j).1;exact⟨c,r⟩
 exact d args H n i (h e) k l m o K g a q
theorem Lh{l:List Lab}{i o:Nat}(h:i<l.length)(ho:o=i*2+1):nth (dj l) o=some (.ss l[i].2):=by
 subst ho;rw[eX]
 induction l generalizing i with
 |nil=>cases h
 |cons y l a=>
  cases i with
  |zero=>rfl
  |succ i=>
   show(AV.ss y.1::AV.ss y.2::dj l)[(i+1)*2+1]?=_;rw[show(i+1)*2+1=i*2+1+1+1 by omega,q1g,q1g];exact a (i:=i) (Nat.lt_of_succ_lt_succ h)
def og(l:List Lab):Bool:=l.all λy=>decide (y.1.length<=100)&&decide (y.2.length<=100)
def fK(o:Oq):Bool:=decide (o.key.length<=100)&&(decide (o.lab.length<=12)&&(decide (o.r.src.length<=100)&&(decide (o.r.dst.length<=100)&&og o.lab)))
def X5(cs:List AV)(v:AV):Prop:=∃o:Oq,cs=[.agg (opC o)]/\v= .sb (fK o)
def kLi:FuncId->EP:=bg 10 [] evP
theorem Vu:aW kLi:=aw az (by kernel_rfl) (by kernel_rfl)
def liL (o:Oq) (i:Nat):AE×AH:=(mkE [(1,.ptr 0 (0)),(2,.sb (false)),(3,.si .i64 (i))],mkH [(0,.cells (opC o) true)])
theorem Li(o:Oq):ay kLi 3 10 [.agg (opC o)] .nil 0 (dD (.sb (fK o))):=by
 have n:((100:Int)<(o.key.length:Int))->AV.sb false=AV.sb (fK o):=λz=>by unfold fK;rw[decide_eq_false (show¬o.key.length<=100 by omega)];rfl
 have p:((12:Int)<(o.lab.length:Int))->AV.sb false=AV.sb (fK o):=λz=>by unfold fK;rw[decide_eq_false (show¬o.lab.length<=12 by omega)];simp
 have s:((100:Int)<(o.r.src.length:Int))->AV.sb false=AV.sb (fK o):=λz=>by unfold fK;rw[decide_eq_false (show¬o.r.src.length<=100 by omega)];simp
 have t:((100:Int)<(o.r.dst.length:Int))->AV.sb false=AV.sb (fK o):=λz=>by unfold fK;rw[decide_eq_false (show¬o.r.dst.length<=100 by omega)];simp
 conv=>whnf
 refine ah.dec (λe=>?_) (λe=>?_)
 focus
  have r:=n e
  conv=>whnf
  exact dD.told r
 conv=>whnf
 refine ah.dec (λz2=>?_) (λz2=>?_)
 focus
  have r:=p z2
  conv=>whnf
  exact dD.told r
 conv=>whnf
 refine ah.dec (λf=>?_) (λf=>?_)
 focus
  have r:=s f
  conv=>whnf
  exact dD.told r
 conv=>whnf
 refine ah.dec (λg=>?_) (λg=>?_)
 focus
  have r:=t g
  conv=>whnf
  exact dD.told r
 have e:o.key.length<=100:=by have h:¬((100:Int)<(o.key.length:Int)):=e;omega
 have z2:o.lab.length<=12:=by have h:¬((12:Int)<(o.lab.length:Int)):=z2;omega
 have f:o.r.src.length<=100:=by have h:¬((100:Int)<(o.r.src.length:Int)):=f;omega
 have g:o.r.dst.length<=100:=by have h:¬((100:Int)<(o.r.dst.length:Int)):=g;omega
 have u:fK o=og o.lab:=by unfold fK;rw[decide_eq_true e,decide_eq_true z2,decide_eq_true f,decide_eq_true g];rfl
 rw[u]
 conv=>whnf
 refine aQ.mk {i:Nat//i<=o.lab.length/\og (o.lab.take i)=true} 1 (λi=>liL o i.val) (λi=>o.lab.length-i.val) ⟨0,Y5 _,rfl⟩ ?_ ?_
 ·exact Cov.ofN [] ⟨sP,sB,sI,trivial⟩ ⟨oF,trivial⟩
 intro⟨i,m,d⟩;have m:i<=o.lab.length:=m;have d:og (o.lab.take i)=true:=d;have v:IntKind.i64.wrap ((i:Int)+1)=((i+1:Nat):Int):=by rw[aj (by omega) (by omega)];omega
 conv=>whnf
 refine ah.dec (λh=>?_) (λh=>?_)
 ·have c:i<o.lab.length:=q0t.1 h;have j:o.lab.length-(i+1)<o.lab.length-i:=by omega
  have hd:o.lab=o.lab.take i++o.lab[i]::o.lab.drop (i+1):=by rw[<-q0j c,q1i]
  have no:(decide (o.lab[i].1.length<=100)&&decide (o.lab[i].2.length<=100))=false->AV.sb false=AV.sb (og o.lab):=λq=>by
   have:og o.lab=false:=by
    unfold og;rw[List.all_eq_false];exact⟨o.lab[i],q0i c,by rw[q];simp⟩
   rw[this]
  have w:((100:Int)<(o.lab[i].1.length:Int))->AV.sb false=AV.sb (og o.lab):=λz=>no (by rw[decide_eq_false (show¬o.lab[i].1.length<=100 by omega)];rfl)
  have x:((100:Int)<(o.lab[i].2.length:Int))->AV.sb false=AV.sb (og o.lab):=λz=>no (by rw[decide_eq_false (show¬o.lab[i].2.length<=100 by omega)];simp)
  have yes:¬((100:Int)<(o.lab[i].1.length:Int))->¬((100:Int)<(o.lab[i].2.length:Int))->og (o.lab.take (i+1))=true:=λa b=>by
   rw[Y8 c];unfold og at d⊢;rw[List.all_append,d];simp only[q1x,List.all_nil,Bool.and_true,Bool.true_and,Z7,decide_eq_true_eq];omega
  conv=>whnf
  refine Idx.mk i rfl c ?_
  conv=>whnf
  refine au (x8 c rfl) ?_
  conv=>whnf
  refine ah.dec (λk=>?_) (λk=>?_)
  ·have r:=w k
   conv=>whnf
   exact dD.told r
  conv=>whnf
  refine Idx.mk i rfl c ?_
  conv=>whnf
  refine au (Lh c rfl) ?_
  conv=>whnf
  refine ah.dec (λl=>?_) (λl=>?_)
  ·have r:=x l
   conv=>whnf
   exact dD.told r
  have y:=yes k l
  conv=>whnf
  exact⟨⟨i+1,c,y⟩,j,Cov.ofN [] ⟨sP,sB,sI (congrArg (AV.si .i64) v),trivial⟩ ⟨oF,trivial⟩⟩
 have r:AV.sb true=AV.sb (og o.lab):=by
  have A:i=o.lab.length:=by have h:¬(i:Int)<(o.lab.length:Int):=h;omega
  rw[A,q0k]at d;rw[d]
 conv=>whnf
 exact dD.told r
theorem RU:ai 10 (cW X5):=pv Vu 3 (by kernel_rfl) λcs v ⟨o,a,b⟩=>by
 subst a b;exact⟨rfl,rfl,Li o⟩
def doF (X:SpV) (o:Oq):SpV×Int×Int:=
 if o.kind=0 then((fk X o.key o.t o.v o.p).1,0,(fk X o.key o.t o.v o.p).2)else if o.kind=1 then tq X o.key o.t o.v else if o.kind=2 then tp X o.key o.t o.v else if o.kind=3 then((crF X o.key o.z o.ret o.pol o.lab).1,0,(crF X o.key o.z o.ret o.pol o.lab).2)else if o.kind=4 then((vj X o.key o.ret o.pol o.lab).1,0,(vj X o.key o.ret o.pol o.lab).2)
 else if o.kind=5 then(kK X o.key,if(X.K o.key).isSome=true then 1 else 0,0)else if o.kind=6 then((lkF X o.r).1,0,(lkF X o.r).2)else((uv X o.r.src o.r.dst).1,0,(uv X o.r.src o.r.dst).2)
def X6(X:SpV)(cs:List AV)(a:SpV)(v:AV):Prop:=∃o Y,cs=[.agg (opC o)]/\o.In/\o.lab.length<=1000/\X.n<1000/\Links X/\Bnd X 5000/\doF X o=Y/\a=Y.1/\v= .tup [.si .i64 Y.2.1,.si .i64 Y.2.2]
def kDo:FuncId->EP:=aq 49 (cL 5 SpB Vb) (aq 48 (cL 5 SpB Vg) (aq 27 (cL 5 SpB Rp) (aq 47 (cL 5 SpB Xl) (aq 46 (cL 5 SpB Rr) (aq 44 (cL 5 SpB B7) (aq 19 (cL 5 SpB OP) (aq 32 (cL 5 SpB nU) evP)))))))
theorem Vv:aW kDo:=ae (ae (ae (ae (ae (ae (ae (ae az B4) EJ) IY) yq) K6) ED) EG) yp
theorem Vw(X:SpV)(o:Oq)(p:Nat×Nat)(s:o.In)(i:o.lab.length<=1000)(hn:X.n<1000)(w:Links X)(l:Bnd X 5000){Y:SpV×Int×Int}(J:doF X o=Y):ay kDo 6 11 [aA p,.agg (opC o)] (mkH [(0,.sep (SpB.Q X p))]) 1 (yy SpB Y.1 p (.tup [.si .i64 Y.2.1,.si .i64 Y.2.2])):=by
 have j:Bnd X 20000:=λk e x=>Y7 (l k e x) (by decide)
 have A:Bnd X 40000:=λk e x=>Y7 (l k e x) (by decide)
 have fin:∀(W:SpV×Int×Int),doF X o=W->∀u H n,mkT u=mkT (.tup [.si .i64 W.2.1,.si .i64 W.2.2])->H.get 0=some (.sep (SpB.Q W.1 p))->yy SpB Y.1 p (.tup [.si .i64 Y.2.1,.si .i64 Y.2.2]) u H n:=λW M u H n N O=>by
  rw[<-J,M];exact yy.told N O
 have P:o.kind=0->doF X o=((fk X o.key o.t o.v o.p).1,0,(fk X o.key o.t o.v o.p).2):=λh=>if_pos h
 have R:o.kind=1->doF X o=tq X o.key o.t o.v:=λh=>by unfold doF;rw[if_neg (by omega),if_pos h]
 have S:o.kind=2->doF X o=tp X o.key o.t o.v:=λh=>by unfold doF;rw[if_neg (by omega),if_neg (by omega),if_pos h]
 have T:o.kind=3->doF X o=((crF X o.key o.z o.ret o.pol o.lab).1,0,(crF X o.key o.z o.ret o.pol o.lab).2):=λh=>by unfold doF;rw[if_neg (by omega),if_neg (by omega),if_neg (by omega),if_pos h]
 have U:o.kind=4->doF X o=((vj X o.key o.ret o.pol o.lab).1,0,(vj X o.key o.ret o.pol o.lab).2):=λh=>by unfold doF;rw[if_neg (by omega),if_neg (by omega),if_neg (by omega),if_neg (by omega),if_pos h]
 have L:o.kind=5->doF X o=(kK X o.key,if(X.K o.key).isSome=true then 1 else 0,0):=λh=>by unfold doF;rw[if_neg (by omega),if_neg (by omega),if_neg (by omega),if_neg (by omega),if_neg (by omega),if_pos h]
 have B:(X.K o.key).isSome=true->o.kind=5->doF X o=(kK X o.key,1,0):=λq h=>by rw[L h,if_pos q]
 have C:(X.K o.key).isSome=false->o.kind=5->doF X o=(kK X o.key,0,0):=λq h=>by rw[L h,q];rfl
 have V:o.kind=6->doF X o=((lkF X o.r).1,0,(lkF X o.r).2):=λh=>by unfold doF;rw[if_neg (by omega),if_neg (by omega),if_neg (by omega),if_neg (by omega),if_neg (by omega),if_neg (by omega),if_pos h]
 have Z:¬o.kind=0->¬o.kind=1->¬o.kind=2->¬o.kind=3->¬o.kind=4->¬o.kind=5->¬o.kind=6->doF X o=((uv X o.r.src o.r.dst).1,0,(uv X o.r.src o.r.dst).2):=λa b c d e f g=>by unfold doF;rw[if_neg a,if_neg b,if_neg c,if_neg d,if_neg e,if_neg f,if_neg g]
 clear J
 conv=>whnf
 refine ah.dec (λD=>?_) (λD=>?_)
 focus
  conv=>whnf
  refine⟨0,p,X,[.ss o.key,.agg [.si .i64 o.t,.si .i64 o.v],.si .i64 o.p],(fk X o.key o.t o.v o.p).1,.si .i64 (fk X o.key o.t o.v o.p).2,_,rfl,by decide,by decide,.cons .same (.cons .same (.cons .same .nil)),rfl,rfl,⟨o.key,o.t,o.v,o.p,fk X o.key o.t o.v o.p,rfl,s.v,w,j,rfl,rfl,rfl⟩,?_⟩
  conv=>whnf
  exact fin _ (P D) _ _ _ rfl rfl
 conv=>whnf
 refine ah.dec (λE=>?_) (λE=>?_)
 focus
  conv=>whnf
  refine⟨0,p,X,[.ss o.key,.si .i64 o.t,.si .i64 o.v],(tq X o.key o.t o.v).1,.tup [.si .i64 (tq X o.key o.t o.v).2.1,.si .i64 (tq X o.key o.t o.v).2.2],_,rfl,by decide,by decide,.cons .same (.cons .same (.cons .same .nil)),rfl,rfl,⟨o.key,o.t,o.v,tq X o.key o.t o.v,rfl,w,j,rfl,rfl,rfl⟩,?_⟩
  conv=>whnf
  exact fin _ (R E) _ _ _ rfl rfl
 conv=>whnf
 refine ah.dec (λz2=>?_) (λz2=>?_)
 focus
  conv=>whnf
  refine⟨0,p,X,[.ss o.key,.si .i64 o.t,.si .i64 o.v],(tp X o.key o.t o.v).1,.tup [.si .i64 (tp X o.key o.t o.v).2.1,.si .i64 (tp X o.key o.t o.v).2.2],_,rfl,by decide,by decide,.cons .same (.cons .same (.cons .same .nil)),rfl,rfl,⟨o.key,o.t,o.v,tp X o.key o.t o.v,rfl,w,l,rfl,rfl,rfl⟩,?_⟩
  conv=>whnf
  exact fin _ (S z2) _ _ _ rfl rfl
 conv=>whnf
 refine ah.dec (λF=>?_) (λF=>?_)
 focus
  conv=>whnf
  refine⟨0,p,X,[.ss o.key,GM o.z o.ret o.pol o.lab],(crF X o.key o.z o.ret o.pol o.lab).1,.si .i64 (crF X o.key o.z o.ret o.pol o.lab).2,_,rfl,by decide,by decide,.cons .same (.cons .same .nil),rfl,rfl,⟨o.key,o.z,o.ret,o.pol,o.lab,crF X o.key o.z o.ret o.pol o.lab,rfl,i,hn,rfl,rfl,rfl⟩,?_⟩
  conv=>whnf
  exact fin _ (T F) _ _ _ rfl rfl
 conv=>whnf
 refine ah.dec (λG=>?_) (λG=>?_)
 focus
  conv=>whnf
  refine⟨0,p,X,[.ss o.key,.si .i64 o.ret,.si .i64 o.pol,gL o.lab],(vj X o.key o.ret o.pol o.lab).1,.si .i64 (vj X o.key o.ret o.pol o.lab).2,_,rfl,by decide,by decide,.cons .same (.cons .same (.cons .same (.cons .same .nil))),rfl,rfl,⟨o.key,o.ret,o.pol,o.lab,vj X o.key o.ret o.pol o.lab,rfl,i,hn,A,rfl,rfl,rfl⟩,?_⟩
  conv=>whnf
  exact fin _ (U G) _ _ _ rfl rfl
 conv=>whnf
 refine ah.dec (λm=>?_) (λm=>?_)
 focus
  conv=>whnf
  refine⟨0,p,X,[.ss o.key],kK X o.key,.sb (X.K o.key).isSome,_,rfl,by decide,by decide,.cons .same .nil,rfl,rfl,⟨o.key,rfl,rfl,rfl⟩,?_⟩
  conv=>whnf
  refine ah.sb (λy=>?_) (λy=>?_)
  focus
   have e:=B y m
   conv=>whnf
   exact fin _ e _ _ _ rfl rfl
  have e:=C y m
  conv=>whnf
  exact fin _ e _ _ _ rfl rfl
 conv=>whnf
 refine ah.dec (λI=>?_) (λI=>?_)
 focus
  conv=>whnf
  refine⟨0,p,X,[gR o.r],(lkF X o.r).1,.si .i64 (lkF X o.r).2,_,rfl,by decide,by decide,.cons .same .nil,rfl,rfl,⟨o.r,lkF X o.r,rfl,hn,l,rfl,rfl,rfl⟩,?_⟩
  conv=>whnf
  exact fin _ (V I) _ _ _ rfl rfl
 conv=>whnf
 refine⟨0,p,X,[.ss o.r.src,.ss o.r.dst],(uv X o.r.src o.r.dst).1,.si .i64 (uv X o.r.src o.r.dst).2,_,rfl,by decide,by decide,.cons .same (.cons .same .nil),rfl,rfl,⟨o.r.src,o.r.dst,uv X o.r.src o.r.dst,rfl,rfl,rfl,rfl⟩,?_⟩
 conv=>whnf
 exact fin _ (Z D E z2 F G m I) _ _ _ rfl rfl
theorem YU:ai 11 (yx SpB X6):=SX Vv 6 (by kernel_rfl) SpB λX cs j v p k ⟨o,Y,a,b,c,d,e,f,g,h,i⟩=>by
 subst a h i;exact⟨rfl,rfl,Vw X o p b c d e f g⟩
theorem Inv.doo{X:SpV}{b:Nat}{c:SpC}(h:Inv X b)(a:bE X c)(o:Oq):Inv (doF X o).1 (b+2):=by
 unfold doF;split
 ·exact h.add a _ _ _ _
 ·split
  ·exact h.inc a _ _ _
  ·split
   ·exact(h.del a _ _ _).mono (q0u b 2)
   ·split
    ·exact h.create _ _ _ _ _
    ·split
     ·exact h.alter _ _ _ _
     ·split
      ·exact(h.drop a _).mono (q0u b 2)
      ·split
       ·exact h.link a _
       ·exact(h.unl _ _).mono (q0u b 2)
def oh(o:Oq):Bool:=fK o&&(decide (0<=o.kind)&&decide (o.kind<=7))
def ER (X:SpV) (o:Oq):SpV:=if oh o=true then(doF X o).1 else X
def yz (S:List Oq):SpV:=S.foldl ER mw
theorem Lj{S:List Oq}{i:Nat}(h:i<S.length):yz (S.take (i+1))=ER (yz (S.take i)) S[i]:=by
 unfold yz;rw[Y8 h,q2s];rfl
theorem Lk{o:Oq}(h:fK o=true):o.lab.length<=12:=by
 unfold fK at h;simp only[Z7,decide_eq_true_eq]at h;exact h.2.1
theorem RV{S:List Oq}{i o j:Nat}{v:AV}(h:i<S.length)(ho:o=i*14+j)(a:(opC S[i])[j]?=some v):nth (oqC S) o=some v:=by
 subst ho;have c:=(br (I3 h rfl)).2;have b:j<14:=(Y6.1 a).1;rw[eX];rw[c,List.getElem?_take_of_lt b,q2t]at a;exact a
def Ll (S:List Oq):SpV:=yz (S.take 50)
def X7(cs:List AV)(X:SpV):Prop:=∃S:List Oq,cs=[.fr S.length 14 (oqC S)]/\(∀o∈S,o.In)/\S.length<=8796093022208/\X=Ll S
def kBd:FuncId->EP:=bg 15 [] (aq 9 (sX 5 SpB λcs y=>cs=[]/\y=mw) (aq 10 (cW X5) (aq 11 (yx SpB X6) evP)))
theorem Vx:aW kBd:=aw (ae (ae (ae az YU) RU) IZ) (by kernel_rfl) (by kernel_rfl)
def bdL (S:List Oq) (X:SpV) (q:Nat×Nat) (i:Nat):AE×AH:=(mkE [(0,.fr S.length 14 (oqC S)),(3,aA q),(4,.si .i64 (i))],mkH [(0,.sep (SpB.Q X q))])
theorem O6(S:List Oq)(B:∀o∈S,o.In)(T:S.length<=8796093022208):ay kBd 5 15 [.fr S.length 14 (oqC S)] .nil 0 (RT SpB (λX=>Inv X 100) (Ll S)):=by
 conv=>whnf
 refine⟨[],mw,_,by decide,.nil,rfl,⟨rfl,rfl⟩,λq=>?_⟩
 conv=>whnf
 refine aQ.mk {w:Nat×SpV//w.1<=S.length/\w.1<=50/\w.2=yz (S.take w.1)/\Inv w.2 (2*w.1)} 1 (λw=>bdL S w.val.2 q w.val.1) (λw=>S.length-w.val.1) ⟨(0,mw),Y5 _,Y5 _,rfl,Inv.no⟩ ?_ ?_
 ·exact Cov.ofN [] ⟨ab.frE rfl,ab.aA rfl,sI,trivial⟩ ⟨oS,trivial⟩
 intro⟨(i,X),G,p,m,f⟩;have G:i<=S.length:=G;have p:i<=50:=p;have m:X=yz (S.take i):=m;have f:Inv X (2*i):=f;have v:IntKind.i64.wrap ((i:Int)+1)=((i+1:Nat):Int):=by rw[aj (by omega) (by omega)];omega
 have ti:¬((i:Int)<(S.length:Int))->Ll S=X:=λh=>by
  have:i=S.length:=by omega
  unfold Ll;rw[m,q1n (by omega),q1n (by omega)]
 have s:¬((i:Int)<50)->Ll S=X:=λh=>by
  have:i=50:=by omega
  rw[m,this];rfl
 conv=>whnf
 refine ah.dec (λC=>?_) (λC=>?_)
 focus
  conv=>whnf
  refine ah.dec (λD=>?_) (λD=>?_)
  focus
   have d:i<S.length:=q0t.1 C;have I:i<50:=by have h:(i:Int)<50:=D;omega
   have t:S.length-(i+1)<S.length-i:=by omega
   have u:=B S[i] (q0i d);obtain⟨o,ho⟩:∃o,o=S[i]:=⟨_,rfl⟩;have g:bq (oqC S) (i*14) 14=some (opC o):=by rw[ho];exact I3 d rfl
   have J:nth (oqC S) (i*14)=some (.si .i64 o.kind):=by rw[ho];exact RV (j:=0) d rfl rfl
   rw[<-ho]at u;have K:yz (S.take (i+1))=ER X o:=by rw[Lj d,<-m,<-ho]
   have no:oh o=false->yz (S.take (i+1))=X:=λq=>by rw[K];unfold ER;rw[q];rfl
   have yes:oh o=true->yz (S.take (i+1))=(doF X o).1:=λq=>by rw[K];unfold ER;rw[if_pos q]
   have M:fK o=false->oh o=false:=λq=>by unfold oh;rw[q];rfl
   have N:¬(0<=o.kind)->oh o=false:=λq=>by unfold oh;rw[decide_eq_false q];simp
   have O:¬(o.kind<=7)->oh o=false:=λq=>by unfold oh;rw[decide_eq_false q];simp
   have P:fK o=true->0<=o.kind->o.kind<=7->oh o=true:=λa b c=>by unfold oh;rw[a,decide_eq_true b,decide_eq_true c];rfl
   have fin:oh o=false->∀l H n,Cov 0 l H n ((bdL S X q (i+1)).1,(bdL S X q (i+1)).2,1)->∃w:{w:Nat×SpV//w.1<=S.length/\w.1<=50/\w.2=yz (S.take w.1)/\Inv w.2 (2*w.1)},S.length-w.val.1<S.length-i/\Cov 0 l H n ((bdL S w.val.2 q w.val.1).1,(bdL S w.val.2 q w.val.1).2,1):=λz l H n x=>⟨⟨(i+1,X),d,I,(no z).symm,f.mono (by omega)⟩,t,x⟩
   clear m
   conv=>whnf
   refine Idx.mk i rfl d ?_
   conv=>whnf
   refine au g ?_
   conv=>whnf
   refine⟨[.agg (opC o)],.sb (fK o),_,.cons .same .nil,⟨o,rfl,rfl⟩,?_⟩
   conv=>whnf
   refine ah.sb (λA=>?_) (λA=>?_)
   focus
    conv=>whnf
    refine Idx.mk i rfl d ?_
    conv=>whnf
    refine au J ?_
    conv=>whnf
    refine ah.dec (λz2=>?_) (λz2=>?_)
    focus
     conv=>whnf
     refine Idx.mk i rfl d ?_
     conv=>whnf
     refine au J ?_
     conv=>whnf
     refine ah.dec (λE=>?_) (λE=>?_)
     focus
      have e:=yes (P A z2 E);have L:=Lk A
      conv=>whnf
      refine Idx.mk i rfl d ?_
      conv=>whnf
      refine au g ?_
      conv=>whnf
      refine⟨0,q,X,[.agg (opC o)],(doF X o).1,_,_,rfl,by decide,by decide,.cons .same .nil,rfl,λ⟨c,x⟩=>⟨⟨o,doF X o,rfl,u,by omega,by have:=f.n;omega,f.links,λk y Q=>Y7 (f.bnd x k y Q) (by omega),rfl,rfl,rfl⟩,?_⟩⟩;have R:∀l H n,Cov 0 l H n ((bdL S (doF X o).1 q (i+1)).1,(bdL S (doF X o).1 q (i+1)).2,1)->∃w:{w:Nat×SpV//w.1<=S.length/\w.1<=50/\w.2=yz (S.take w.1)/\Inv w.2 (2*w.1)},S.length-w.val.1<S.length-i/\Cov 0 l H n ((bdL S w.val.2 q w.val.1).1,(bdL S w.val.2 q w.val.1).2,1):=λl H n F=>⟨⟨(i+1,(doF X o).1),d,I,e.symm,f.doo x o⟩,t,F⟩
      conv=>whnf
      exact R _ _ _ (Cov.ofN [] ⟨ab.frE rfl,ab.aA rfl,sI (congrArg (AV.si .i64) v),trivial⟩ ⟨oS,trivial⟩)
     have r:=O E
     conv=>whnf
     exact fin r _ _ _ (Cov.ofN [] ⟨ab.frE rfl,ab.aA rfl,sI (congrArg (AV.si .i64) v),trivial⟩ ⟨oS,trivial⟩)
    have r:=N z2
    conv=>whnf
    exact fin r _ _ _ (Cov.ofN [] ⟨ab.frE rfl,ab.aA rfl,sI (congrArg (AV.si .i64) v),trivial⟩ ⟨oS,trivial⟩)
   have r:=M A
   conv=>whnf
   exact fin r _ _ _ (Cov.ofN [] ⟨ab.frE rfl,ab.aA rfl,sI (congrArg (AV.si .i64) v),trivial⟩ ⟨oS,trivial⟩)
  have e:=s D;rw[e]
  conv=>whnf
  exact⟨q,0,rfl,rfl,f.mono (by omega)⟩
 have e:=ti C;rw[e]
 conv=>whnf
 exact⟨q,0,rfl,rfl,f.mono (by omega)⟩
theorem Vy:ai 15 (I5 SpB (λX=>Inv X 100) X7):=X4 Vx 5 (by kernel_rfl) SpB λcs X ⟨S,a,b,c,d⟩=>by
 subst a d;exact⟨rfl,O6 S b c⟩
def O7(X:SpV)(cs:List AV)(a:SpV)(v:AV):Prop:=∃k,cs=[.ss k]/\a=X/\v=pG (X.R k)
def X8:FuncId->EP:=bg 17 [] (aq 12 (dL 5 SpB Va) evP)
theorem RW:aW X8:=aw (ae az Ag) (by kernel_rfl) (by kernel_rfl)
def inL (L:List Rl) (X:SpV) (k:Tx) (q:Nat×Nat) (i:Nat):AE×AH:=(mkE [(1,.ss (k)),(4,.ptr 1 (0)),(6,.fr L.length 5 (ruL L)),(7,.si .i64 (i))],mkH [(0,.sep (SpB.Q X q)),(1,.cells [.str [],.str [],.int .i64 0,.int .i64 0,.int .i64 0] true)])
theorem O8(X:SpV)(k:Tx)(q:Nat×Nat)(c:SpC)(b:bE X c):ay X8 4 17 [aA q,.ss k] (mkH [(0,.sep (SpB.Q X q))]) 1 (yy SpB X q (pG (X.R k))):=by
 have p:∀r,r∈vi X->X.R r.dst=some r:=λr a=>b.IP.1 a
 have j:∀r,X.R k=some r->r∈vi X/\r.dst=k:=λr a=>⟨b.IP.2 (by rw[b.IN a];exact a),b.IN a⟩
 have l:(vi X).length<=1000:=by rw[<-b.all];exact Y7 (B0 c.g λ_=>true) (Y7 b.gl b.n9)
 obtain⟨L,s⟩:∃L,L=vi X:=⟨_,rfl⟩;rw[<-s]at p j l
 conv=>whnf
 refine⟨0,q,X,[],.fr L.length 5 (ruL L),rfl,by decide,by decide,.nil,rfl,rfl,⟨rfl,by rw[s]⟩,?_⟩
 conv=>whnf
 refine aQ.mk {i:Nat//i<=L.length/\∀r∈L.take i,r.dst≠k} 2 (λi=>inL L X k q i.val) (λi=>L.length-i.val) ⟨0,Y5 _,λr a=>by simp at a⟩ ?_ ?_
 ·exact Cov.ofN [] ⟨sS,sP,ab.frE rfl,sI,trivial⟩ ⟨oS,oF,trivial⟩
 intro⟨i,t,m⟩;have t:i<=L.length:=t;have m:∀r∈L.take i,r.dst≠k:=m;have w:IntKind.i64.wrap ((i:Int)+1)=((i+1:Nat):Int):=by rw[aj (by omega) (by omega)];omega
 conv=>whnf
 refine ah.dec (λh=>?_) (λh=>?_)
 ·have d:i<L.length:=q0t.1 h;have n:L.length-(i+1)<L.length-i:=by omega
  obtain⟨r,a⟩:∃r,r=L[i]:=⟨_,rfl⟩;have o:=p r (by rw[a];exact q0i d)
  have hd:nth (ruL L) (i*5+1)=some (.ss r.dst):=by
   have x:=(br (qd d rfl)).2;have v:((ruC L[i])[1]?:Option AV)=some (.ss L[i].dst):=rfl
   rw[x,List.getElem?_take_of_lt (by decide),q2t]at v;rw[eX,a];exact v
  have A:bq (ruL L) (i*5) 5=some (ruC r):=by rw[a];exact qd d rfl
  have yes:dh r.dst k=true->pG (X.R k)= .tup [gR r,.sb true]:=λz=>by
   have:=bk.1 z;rw[<-this,o];rfl
  have no:dh r.dst k=false->∀u∈L.take (i+1),u.dst≠k:=λz u f=>by
   rw[Y8 d,q1d,q3m,<-a]at f;rcases f with f|f
   ·exact m u f
   ·rw[f];exact λe=>by rw[bk.2 e]at z;cases z
  conv=>whnf
  refine Idx.mk i rfl d ?_
  conv=>whnf
  refine au hd ?_
  conv=>whnf
  refine ah.sb (λz=>?_) (λz=>?_)
  ·have y:=yes z;rw[y]
   conv=>whnf
   refine Idx.mk i rfl d ?_
   conv=>whnf
   refine au A ?_
   conv=>whnf
   exact yy.told rfl rfl
  have y:=no z
  conv=>whnf
  exact⟨⟨i+1,d,y⟩,n,Cov.ofN [] ⟨sS,sP,ab.frE rfl,sI (congrArg (AV.si .i64) w),trivial⟩ ⟨oS,oF,trivial⟩⟩
 have r:pG (X.R k)=pG none:=by
  have B:i=L.length:=by have h:¬(i:Int)<(L.length:Int):=h;omega
  cases e:X.R k with
  |none=>rfl
  |some u=>
   obtain⟨C,D⟩:=j u e;exact absurd D (m u (by rw[B,q0k];exact C))
 rw[r]
 conv=>whnf
 exact yy.told rfl rfl
theorem Vz:ai 17 (yx SpB O7):=SX RW 4 (by kernel_rfl) SpB λX cs a v p ⟨c,b⟩ ⟨k,d,e,f⟩=>by
 subst d e f;exact⟨rfl,by cases a.R k<;>rfl,O8 a k p c b⟩
theorem ES{X:SpV}{k:Tx}{t v p:Int}(h:(fk X k t v p).2≠0):(fk X k t v p).1=X:=by
 unfold fk at h⊢;by_cases a:cz X k≠0
 ·rw[if_pos a]
 ·rw[if_neg a]at h⊢;cases c:X.K k with
  |none=>rfl
  |some e=>
   rw[c]at h;dsimp only at h⊢;by_cases b:(fg e.S e.L t v p).2≠0
   ·rw[if_pos b]
   ·rw[if_neg b]at h;exact absurd rfl h
theorem Lm{S:Sr}{L:Smp}{t v:Int}(c:Up L)(hn:mQ S)(h:(fg S L t v 3).2=0):ja (fg S L t v 3).1.2 t=(v,0)/\(fg S L t v 3).1.1.mx=max S.mx t:=by
 unfold fg at h⊢;have hr:=hn.ret;by_cases d:t<0∨1099511627776<=t∨((3:Int)≠0/\¬(1<=(3:Int)/\(3:Int)<=6))
 ·rw[if_pos d]at h;cases h
 ·rw[if_neg d]at h⊢;by_cases a:t<df S
  ·rw[if_pos a]at h;cases h
  ·rw[if_neg a]at h⊢;rw[if_neg (show¬(3:Int)=0 by decide)]at h⊢;by_cases b:(eE L t v 3).2=0
   ·rw[if_pos b]
    have e:df {S with mx:=max S.mx t}<=t:=by
     unfold df at a⊢;dsimp only at a⊢;split
     ·rename_i q;rw[if_pos q]at a;omega
     ·rename_i q;rw[if_neg q]at a;omega
    refine⟨?_,rfl⟩;show ja (aR (eE L t v 3).1 0 _) t=_;rw[Kz,KC (vz c t v 3),if_neg (by omega),KA c,if_pos rfl];cases look L t with
    |none=>rfl
    |some w=>rfl
   ·rw[if_neg b]at h;exact absurd h b
theorem ET{k:Tx}{was t:Int}:∀(a:List Rl) {X:SpV},(∀r∈a,k≠r.dst)->(a.foldl (cY k was t) X).K k=X.K k
 | [],_,_=>rfl
 |r::a,X,h=>by
  have hr:=h r q0b;refine(ET a (X:=cY k was t X r) λq b=>h q (Y4 _ b)).trans ?_;unfold cY;rw[jf hr];split
  ·exact jf hr
  ·rfl
theorem RX{X:SpV}{c:SpC}{k:Tx}{t v p:Int}{e:fF}(d:bE X c)(f:X.K k=some e)(h:(fk X k t v p).2=0):X.R k=none/\(fg e.S e.L t v p).2=0/\(fk X k t v p).1.K k=some {e with S:=(fg e.S e.L t v p).1.1,L:=(fg e.S e.L t v p).1.2}:=by
 unfold fk at h⊢;by_cases a:cz X k≠0
 ·rw[if_pos a]at h;exact absurd h a
 ·rw[if_neg a]at h⊢;rw[f]at h⊢;dsimp only at h⊢;by_cases b:(fg e.S e.L t v p).2≠0
  ·rw[if_pos b]at h;exact absurd h b
  ·rw[if_neg b]at h⊢;refine⟨B9 (q3o a),q3o b,?_⟩;refine(ET (ofX X k) λr g=>?_).trans ?_
   ·obtain⟨i,j⟩:=d.rF.1 g;exact λq=>m8 (d.rul _ _ i) (j.trans q)
   ·unfold GK;rw[fh,if_pos rfl]
def YV (i:Nat) (c:Code):Array Oper:=Code.rec (motive:=λ_=>Array Oper)
 #[]
 (λid ops _=>bif Nat.beq id i then ops else #[])
 (λ_ _ a b=>bif Nat.beq a.size 0 then b else a)
 (λ_ _ _ a b=>bif Nat.beq a.size 0 then b else a)
 (λ_ _ b=>b)
 (λ_ b=>b)
 (λ_ _ _ _ _ _=> #[])
 (λ_=> #[])
 (λ_ b=>b)
 (λ_=> #[]) (λ_=> #[]) #[] (λ_=> #[]) c
def upF(f:Nat->Bool)(i:Nat):Nat->Bool:=λj=>if j=i then true else f j
theorem RY{l:Array Bool}{i:Nat}(h:i<l.size):(λj=>(l.setIfInBounds i true).getD j false)=upF (λj=>l.getD j false) i:=funext λj=>lg h
def cpV (b:Bool) (v:AV):AV:=bif b then v else .bad
def cpO (b:Bool) (o:AO):AO:=bif b then o else .cells [] false
theorem my{p:Nat}{σ:AE}{H:AH}{n:Nat}:Cov p σ H n (σ,H,n):=λa _ _ _ b c=>⟨a,⟨λ_ _ _ h=>h,λ_ h=>h,λ_ h=>h⟩,b,c⟩
theorem e0{H:AH}{m:Nat}{r:Nat->Nat}{a v:AV}(e:a=v:=by rfl)(hv:ltV 0 v=true:=by rfl):ab H m r a v:=ab.ig (k:=0) e hv (Y5 _) λx b=>absurd b (q1k x)
def GW(j:Nat):List Nat->Bool
 | []=>false
 |x::l=>bif Nat.beq j x then true else GW j l
theorem yA{j:Nat}:∀{l:List Nat},GW j l=true->j∈l
 |x::l,h=>by
  unfold GW at h;cases e:Nat.beq j x with
  |true=>rw[q0d e];exact q0b
  |false=>rw[e]at h;exact Y4 _ (yA h)
def stF(f:Nat->Bool)(T F:List Nat):Nat->Bool:=λj=>bif GW j F then false else bif GW j T then true else f j
theorem VA{f:Nat->Bool}{T F:List Nat}(a:∀j∈T,f j=true)(b:∀j∈F,f j=false):stF f T F=f:=funext λj=>by
 unfold stF;cases e:GW j F with
 |true=>exact(b j (yA e)).symm
 |false=>
  cases c:GW j T with
  |true=>exact(a j (yA c)).symm
  |false=>rfl
def rcE(ops:Array Oper):Nat->Nat->Nat->Bool
 |0,_,_=>false
 |k+1,j,i=>match ops[i]? with
  |some o=>o.after.any λe=>Region.binds .any e&&(Nat.beq e.on j||rcE ops k j e.on)
  |none=>false
theorem O9{ops:Array Oper}{l:Array Bool}(hd:Down ops l){j:Nat}:∀(k i:Nat),(∀o,ops[i]?=some o->∀e∈o.after,Region.binds .any e=true->l.getD e.on false=true)->rcE ops k j i=true->l.getD j false=true
 |k+1,i,d,h=>by
  unfold rcE at h;split at h
  ·rename_i o ho;obtain⟨e,f,a⟩:=Array.any_eq_true'.1 h;simp only[Z7,q1c]at a;rcases a.2 with b|b
   ·rw[<-q0d b];exact d o ho e f a.1
   ·exact O9 hd k e.on (λg c=>hd e.on g c (d o ho e f a.1)) b
  ·cases h
theorem X9{ops:Array Oper}{l:Array Bool}(hd:Down ops l){i j k:Nat}(h:rcE ops k i j=true)(a:l.getD i false=false):l.getD j false=false:=by
 cases b:l.getD j false with
 |false=>rfl
 |true=>rw[<-a];exact(O9 hd k j (λo ho=>hd j o ho b) h).symm
def allI{a:Type}(P:Nat->a->Prop):Nat->List a->Prop
 |_,[]=>True
 |i,x::l=>P i x/\allI P (i+1) l
theorem I6{a:Type}{P:Nat->a->Prop}:∀{l:List a} {i j:Nat} {x:a},allI P i l->l[j]?=some x->P (i+j) x
 |y::l,i,0,x,h,e=>by injection e with e;exact e▸h.1
 |y::l,i,j+1,x,h,e=>by rw[q4q j 1,<-q1m];exact I6 h.2 (q1g▸e)
def VB(ops:Array Oper):Nat->List (List Nat×List Nat×Option Nat)->Bool
 |_,[]=>true
 |i,x::l=>(x.1.all (λj=>rcE ops 6 j i)&&x.2.1.all (λj=>Nat.beq j i||rcE ops 6 i j))&&VB ops (i+1) l
theorem I7{ops:Array Oper}:∀{l:List (List Nat×List Nat×Option Nat)} {i j:Nat} {x},VB ops i l=true->l[j]?=some x->(x.1.all (λy=>rcE ops 6 y (i+j))&&x.2.1.all (λy=>Nat.beq y (i+j)||rcE ops 6 (i+j) y))=true
 |y::l,i,0,x,h,e=>by injection e with e;exact e▸((Z7 _ _).mp h).1
 |y::l,i,j+1,x,h,e=>by rw[q4q j 1,<-q1m];exact I7 ((Z7 _ _).mp h).2 (q1g▸e)
def flF(m:Nat)(l:Array Bool):Nat->Bool:=λj=>bif Nat.blt j m then l.getD j false else true
theorem Pb{m:Nat}{l:Array Bool}{j:Nat}(h:j<m):flF m l j=l.getD j false:=by
 unfold flF;rw[show Nat.blt _ _=true from q0o h];rfl
def nF(m:Nat):Nat->Bool:=λj=>bif Nat.blt j m then false else true
theorem Cb {p:Nat} {ops:Array Oper} {call:CP} {k:KP} (G:Type) (v:G) (E:(Nat->Bool)->G->AE) (M:(Nat->Bool)->G->AH) (N:(Nat->Bool)->G->Nat) (T:List (List Nat×List Nat×Option Nat)) (I:kz ops=true) (m:Nat) (J:VB ops 0 T=true) (K:T.length=m) (hn:ops.size=m)
 (h:allI (λi x=>match ops[i]? with
  |some o=>(match x.2.2 with
   |none=>∀f g,opP ops o call (E (stF f x.1 x.2.1) g) (M (stF f x.1 x.2.1) g) (N (stF f x.1 x.2.1) g) λσ H n=>∃s:AE×AH×Nat,Cov p σ H n s/\∃g,s.1=E (upF (stF f x.1 x.2.1) i) g/\s.2.1=M (upF (stF f x.1 x.2.1) i) g/\s.2.2=N (upF (stF f x.1 x.2.1) i) g
   |some n=>∀f g,N (stF f x.1 x.2.1) g=n/\opP ops o call (E (stF f x.1 x.2.1) g) (M (stF f x.1 x.2.1) g) n λσ H n=>∃s:AE×AH×Nat,Cov p σ H n s/\∃g,s.1=E (upF (stF f x.1 x.2.1) i) g/\s.2.1=M (upF (stF f x.1 x.2.1) i) g/\s.2.2=N (upF (stF f x.1 x.2.1) i) g)
  |none=>True) 0 T)
 (L:∀g,k (E (λ_=>true) g) (M (λ_=>true) g) (N (λ_=>true) g)):zg p ops call (E (nF m) v) (M (nF m) v) (N (nF m) v) k:=by
 subst K
 have w:flF T.length (Array.replicate ops.size false)=nF T.length:=funext λj=>by
  unfold flF nF;congr 1;simp[Array.getD]
 refine⟨I,λl σ H n=>∃g,σ=E (flF T.length l) g/\H=M (flF T.length l) g/\n=N (flF T.length l) g,⟨v,by rw[w],by rw[w],by rw[w]⟩,λl i o σ H n r hd ho B O ⟨g,y,z,A⟩=>?_,λl σ H n r u ⟨g,y,z,A⟩=>⟨_,my,?_⟩⟩
 ·subst y z A;have b:i<T.length:=by rw[<-hn];exact(q0f.1 ho).1
  obtain⟨x,C⟩:∃x,T[i]?=some x:=⟨_,Y0 b⟩;have c:=I6 h C;have d:=I7 J C;rw[q0w]at c d;simp only[ho]at c;rw[Z7,q0a,q0a]at d
  have P:∀j,l.getD j false=true->flF T.length l j=true:=λj t=>by
   unfold flF;rw[t];cases Nat.blt j T.length<;>rfl
  have D:∀j,l.getD j false=false->j<T.length->flF T.length l j=false:=λj t Q=>by rw[Pb Q];exact t
  have R:∀{j k:Nat},rcE ops k i j=true->j<T.length:=λ{j k} e=>by
   cases k with
   |zero=>cases e
   |succ k=>
    unfold rcE at e;split at e
    ·rename_i S a;rw[<-hn];exact(q0f.1 a).1
    ·cases e
  have F:stF (flF T.length l) x.1 x.2.1=flF T.length l:=VA (λj t=>P j (O9 hd 6 i (λS a=>by rw[ho]at a;injection a with a;exact a▸O) (d.1 j t))) λj t=>by
   rcases(q1c _ _).mp (d.2 j t)with e|e
   ·rw[q0d e];exact D i B b
   ·exact D j (X9 hd e B) (R e)
  have U:flF T.length (l.setIfInBounds i true)=upF (flF T.length l) i:=funext λj=>by
   unfold flF upF;by_cases q:j=i
   ·rw[if_pos q,q,show Nat.blt _ _=true from q0o b];simp[Array.getD,r,hn,b]
   ·rw[if_neg q];congr 1;exact(congrFun (RY (l:=l) (i:=i) (by rw[r,hn];exact b)) j).trans (if_neg q)
  (try simp only[U])
  obtain⟨W,X,V⟩:=x;cases V with
  |none=>
   have:=c (flF T.length l) g;rw[F]at this;exact this
  |some n=>
   have:=c (flF T.length l) g;rw[F]at this;rw[this.1];exact this.2
 ·subst y z A
  have:flF T.length l=λ_=>true:=funext λj=>by
   cases e:Nat.blt j T.length with
   |true=>rw[Pb (Z0 e)];exact u j (by rw[hn];exact Z0 e)
   |false=>unfold flF;rw[e];rfl
  rw[this];exact L g
def flV (f:Nat->Bool) (s j:Nat) (l:List AV):List (Nat×AV):=List.rec (λ_=> []) (λv _ a j=>(s+j,cpV (f j) v)::a (j+1)) l j
theorem I8{H:AH}{m:Nat}{r:Nat->Nat}{σ:AE}{f:Nat->Bool}{s:Nat}:∀{l:List AV} {j:Nat},(∀i,i<j+l.length->f i=false)->oU (λx=>ab H m r (bj (pa x.1) σ) x.2) (flV f s j l)
 | [],_,_=>trivial
 |v::l,j,h=>⟨by
  show ab H m r _ (cpV (f j) v);rw[h j (by simp)];exact ab.bad _,I8 (l:=l) (j:=j+1) λi hi=>h i (by simp;omega)⟩
theorem oU.app{c:Type}{P:c->Prop}:∀{a b:List c},oU P a->oU P b->oU P (a++b)
 | [],_,_,h=>h
 |_::_,_,h,k=>⟨h.1,h.2.app k⟩
theorem Ya{m:Nat}(i:Nat)(h:i<m):nF m i=false:=by
 unfold nF;rw[show Nat.blt _ _=true from q0o h];rfl
theorem Cov.fl {p n m s k:Nat} {σ:AE} {H:AH} {B:List (Nat×AV)} {l:List AV} {lh:List (Nat×AO)} (a:p<=m) (c:oU (λx=>ab H m (λb=>b) (bj (pa x.1) σ) x.2) B)
 (d:oU (λx=>(∃o,H.get x.1=some o/\an H m (λb=>b) o x.2)∨(x.2.void=true/\n<=x.1)) lh) (e:Db m (lh.map Prod.fst)=true) (f:l.length=k:=by rfl):Cov p σ H n (mkE (B++flV (nF k) s 0 l),mkH lh,m):=
 Cov.ofA a (c.app (I8 λi g=>Ya i (by omega))) d e
theorem GX{p:Nat}{σ:AE}{H:AH}{n:Nat}(t:Nat){a b:Bool}(g:bj (pa t) σ= .sb a)(h:a=b):Cov p σ H n (cU σ (some t) (.bool b),H,n):=by
 subst h;refine λi k h c j e=>⟨i,⟨λ_ _ _ h=>h,λ_ h=>h,λ_ h=>h⟩,j,?_⟩
 have d:=e.at t;rw[g]at d;simp only[VR]at d;have f:=e.put (some t) (a:= .bool a) (v:=c t) (by simp only[VR];exact d)
 rw[show c.put (some t) (c t)=c from funext λx=>by
  by_cases q:x=t
  ·subst q;rw[mz,rH]
  ·rw[mz,Lo _ _ _ _ q]]at f
 exact f
def cp3:Array Oper:=match Tryz.prog.funcs[26]? with
 |some fn=>(match fn.body with
  |some c=>YV 3 c
  |none=> #[])
 |none=> #[]
def cpE (c:SpC) (f:Nat->Bool) (d e:Nat×Nat):List (Nat×AV):=[(0,.ptr 0 0),(8,cpV (f 0) (.map 5)),(9,cpV (f 1) (.ptr 0 0)),(10,cpV (f 2) (.ptr 0 0)),(11,cpV (f 3) (.ptr 0 1)),(12,cpV (f 4) (aA c.px)),(13,cpV (f 5) (aA d)),(14,cpV (f 6) (.ptr 0 0)),(15,cpV (f 7) (.ptr 0 0)),(16,cpV (f 8) (.ptr 0 2)),(17,cpV (f 9) (aA c.pg)),(18,cpV (f 10) (aA e)),(19,cpV (f 11) (.agg [.map 5,aA d,aA e])),(20,cpV (f 12) (.ptr 8 0)),(3,cpV (f 13) (.ptr 8 0))]
def cpH (c:SpC) (f:Nat->Bool) (A:List (Tx×List Lab)) (d e:Nat×Nat):List (Nat×AO):=[(0,.cells [.map 1,aA c.px,aA c.pg] true),(1,c.m.O kT gE),(2,.sep (IxB.Q c.x c.px)),(3,.sep (GrB.Q c.g c.pg)),(4,.sep (aI (aJ c.m.A))),(5,cpO (f 0) (.map [])),(6,cpO (f 5) (.sep (IxB.Q ⟨A,8*c.x.A.length⟩ d))),(7,cpO (f 10) (.sep (GrB.Q (od c.g) e))),(8,cpO (f 12) (.cells [.map 5,aA d,aA e] true))]
def rn(a N b:Nat):Nat:=if b=a then N else b
theorem u9{a N k:Nat}(h:k<=a:=by decide)(x:Nat)(c:x<k):rn a N x=x:=if_neg (by omega)
theorem uy{a N m:Nat}{l:List Nat}(f:m<=N)(h:Db m l=true){x y:Nat}(c:x∈l)(d:y∈l)(e:rn a N x=rn a N y):x=y:=by
 have g:=sd h x c;have i:=sd h y d;unfold rn at e;split at e<;>split at e<;>omega
section
variable {H:AH} {m a N:Nat} {u v:AV} {b:Bool}
theorem zK{k:Nat}(c:k<=m:=by decide)(d:k<=a:=by decide)(e:u=cpV b v:=by rfl)(hv:ltV k v=true:=by rfl):ab H m (rn a N) u (cpV b v):=by
 subst e;cases b with
 |false=>exact ab.bad _
 |true=>exact ab.dQ hv c (u9 d)
theorem zP{x o:Nat}(c:x<m:=by decide)(d:rn a N x=x:=by rfl)(e:u=cpV b (.ptr x o):=by rfl):ab H m (rn a N) u (cpV b (.ptr x o)):=by
 subst e;cases b with
 |false=>exact ab.bad _
 |true=>exact ab.ptr c (by rw[d];rfl)
theorem zO{n x k:Nat}{o:AO}(c:k<=m:=by decide)(d:k<=a:=by decide)(e:H.get x=some (cpO b o):=by rfl)(hv:ltO k o=true:=by rfl):(∃q,H.get x=some q/\an H m (rn a N) q (cpO b o))∨((cpO b o).void=true/\n<=x):= .inl ⟨_,e,by
 cases b with
 |false=>exact an.dQ (k:=0) rfl (Y5 _) (λb f=>absurd f (q1k b))
 |true=>exact an.dQ hv c (u9 d)⟩
theorem zN{n x k:Nat}{o:AO}(c:k<=m:=by decide)(d:k<=a:=by decide)(e:H.get (rn a N x)=some o:=by rfl)(hv:ltO k o=true:=by rfl):(∃q,H.get (rn a N x)=some q/\an H m (rn a N) q o)∨(o.void=true/\n<=rn a N x):= .inl ⟨_,e,an.dQ hv c (u9 d)⟩
end
abbrev CpG(c:SpC):Type:={A:List (Tx×List Lab)//A.Perm (reL c.x.A)}×(Nat×Nat)×(Nat×Nat)
def cpS (c:SpC) (f:Nat->Bool) (g:CpG c):AE×AH×Nat:=(mkE (cpE c f g.2.1 g.2.2),mkH (cpH c f g.1.val g.2.1 g.2.2),9)
theorem RZ {c:SpC} (d:c.x.A.length<=1000) (s:c.g.length<=1000) {call:CP} (l:∀args H n κ,xX 4 IxB UN args H n κ->call 66 args H n κ) (o:∀args H n κ,yk 2 GrB GrB U0 args H n κ->call 67 args H n κ)
 {k:KP} (h i:Nat×Nat) (t:∀A h i,A.Perm (reL c.x.A)->k (mkE (cpE c (λ_=>true) h i)) (mkH (cpH c (λ_=>true) A h i)) 9):zg 5 cp3 call (mkE (cpE c (λ_=>false) h i)) (mkH (cpH c (λ_=>false) (reL c.x.A) h i)) 9 k:=by
 refine Cb (CpG c) (⟨reL c.x.A,.refl _⟩,h,i) (λf g=>(cpS c f g).1) (λf g=>(cpS c f g).2.1) (λ_ _=>9) [([],[0,11,12],some 9),([],[],none),([1],[],none),([2],[],none),([3],[],none),([4],[5,11,12],some 9),([],[],none),([6],[],none),([7],[],none),([8],[],none),([9],[10,11,12],some 9),([0,5,10],[],none),([11],[12,13],some 9),([12],[],none)] (by kernel_rfl) 14 (by kernel_rfl) rfl (by kernel_rfl) ⟨?_,?_,?_,?_,?_,?_,?_,?_,?_,?_,?_,?_,?_,?_,trivial⟩ λg=>t _ _ _ g.1.2
 all_goals
  intro f g
  try refine⟨rfl,?_⟩
  conv=>whnf
  try exact⟨_,my,g,rfl,rfl,rfl⟩
 ·refine⟨cpS c (upF (stF f [] [0,11,12]) 0) g,?_,g,rfl,rfl,rfl⟩;exact Cov.ofB (m:=9) (rn 5 9) (by decide) (u9) ⟨.ptr (by decide) rfl,ab.map (by decide) rfl,zP,zP,zP,zK (k:=0),zK (k:=0),zP,zP,zP,zK (k:=0),zK (k:=0),ab.bad _,ab.bad _,zP,trivial⟩ ⟨zN (k:=2),zN (k:=0) (hv:=al aO fV),zN (k:=0),zN (k:=0),zN (k:=0),zN (k:=0),zO (k:=0),zO (k:=0),zN (k:=0),trivial⟩ rfl λx d y e=>uy (m:=9) (Z0 rfl) rfl (q0e.2 ⟨x,d,rfl⟩) (q0e.2 ⟨y,e,rfl⟩)
 ·refine l _ _ _ _ ⟨2,c.px,c.x,[],c.x,_,_,rfl,by decide,by decide,.nil,rfl,rfl,⟨rfl,d,rfl,rfl⟩,λv E ⟨q,p,r,j,w⟩=>?_⟩;subst j w;refine⟨cpS c (upF (stF f [4] [5,11,12]) 5) (⟨p,r⟩,q,g.2.2),?_,(⟨p,r⟩,q,g.2.2),rfl,rfl,rfl⟩;exact Cov.ofB (m:=9) (rn 6 13) (by decide) u9 ⟨.ptr (by decide) rfl,zK (k:=6),zP,zP,zP,e0,e0,zP,zP,zP,zK (k:=0),zK (k:=0),ab.bad _,ab.bad _,zP,trivial⟩ ⟨zN (k:=2),zN (k:=0) (hv:=al aO fV),zN (k:=0),zN (k:=0),zN (k:=0),zO (k:=0),zN (k:=0),zO (k:=0),zN (k:=0),trivial⟩ rfl λx d y e=>uy (m:=9) (Z0 rfl) rfl (q0e.2 ⟨x,d,rfl⟩) (q0e.2 ⟨y,e,rfl⟩)
 ·refine o _ _ _ _ ⟨3,c.pg,c.g,[],c.g,_,_,rfl,by decide,by decide,.nil,rfl,rfl,⟨rfl,s,rfl,rfl⟩,λq=>?_⟩;refine⟨cpS c (upF (stF f [9] [10,11,12]) 10) (g.1,g.2.1,q),?_,(g.1,g.2.1,q),rfl,rfl,rfl⟩;exact Cov.ofB (m:=9) (rn 7 13) (by decide) u9 ⟨.ptr (by decide) rfl,zK (k:=6),zP,zP,zP,zK (k:=0),zK (k:=0),zP,zP,zP,e0,e0,ab.bad _,ab.bad _,zP,trivial⟩ ⟨zN (k:=2),zN (k:=0) (hv:=al aO fV),zN (k:=0),zN (k:=0),zN (k:=0),zO (k:=0),zO (k:=0),zN (k:=0),zN (k:=0),trivial⟩ rfl λx d y e=>uy (m:=9) (Z0 rfl) rfl (q0e.2 ⟨x,d,rfl⟩) (q0e.2 ⟨y,e,rfl⟩)
 ·refine⟨cpS c (upF (stF f [11] [12,13]) 12) g,?_,g,rfl,rfl,rfl⟩;exact Cov.ofB (m:=9) (rn 8 9) (by decide) u9 ⟨.ptr (by decide) rfl,zK (k:=6),zP,zP,zP,zK (k:=0),zK (k:=0),zP,zP,zP,zK (k:=0),zK (k:=0),ab.ig (k:=6) rfl rfl (by decide) u9,ab.ptr (by decide) rfl,ab.bad _,trivial⟩ ⟨zN (k:=2),zN (k:=0) (hv:=al aO fV),zN (k:=0),zN (k:=0),zN (k:=0),zO (k:=0),zO (k:=0),zO (k:=0),zN (k:=6),trivial⟩ rfl λx d y e=>uy (m:=9) (Z0 rfl) rfl (q0e.2 ⟨x,d,rfl⟩) (q0e.2 ⟨y,e,rfl⟩)
def cpF (X:SpV):SpV:={X with K:=λk=>(X.K k).map λe=>{e with lab:=cj e.lab}}
theorem EU{V:Type}{A B:List (Tx×V)}(a:(A.map Prod.fst).Nodup)(b:(B.map Prod.fst).Nodup)(h:∀e,e∈A<->e∈B)(k:Tx):aG A k=aG B k:=by
 cases e:aG B k with
 |some v=>exact cT a ((h _).2 (bM e))
 |none=>
  cases c:aG A k with
  |none=>rfl
  |some v=>
   have:=cT b ((h _).1 (bM c));rw[e]at this;cases this
theorem qi{V W:Type}(f:V->W)(A:List (Tx×V)):(A.map λe=>(e.1,f e.2)).map Prod.fst=A.map Prod.fst:=by rw[q4e];rfl
theorem uz{V W:Type}(f:V->W){A:List (Tx×V)}(a:(A.map Prod.fst).Nodup)(k:Tx):aG (A.map λe=>(e.1,f e.2)) k=(aG A k).map f:=by
 have b:((A.map λe=>(e.1,f e.2)).map Prod.fst).Nodup:=by rw[qi];exact a
 cases e:aG A k with
 |some v=>exact cT b (q0e.2 ⟨(k,v),bM e,rfl⟩)
 |none=>
  cases c:aG (A.map λe=>(e.1,f e.2)) k with
  |none=>rfl
  |some w=>
   obtain⟨y,d,g⟩:=q0e.1 (bM c);injection g with h1 h2;exact absurd h1 (p9 e y d)
theorem Yb{X:SpV}{c:SpC}(h:bE X c){M:MpC Tx SE}(f:M.Ok)(i:(M.A.map λe=>(e.1,pI e.2)).Perm (c.m.A.map λe=>(e.1,pI e.2))){A:List (Tx×List Lab)}(d:A.Perm (reL c.x.A))(r s:Nat×Nat):
 bE (cpF X) ⟨M,⟨A,8*c.x.A.length⟩,r,od c.g,s⟩:=by
 have kM:(M.A.map Prod.fst).Nodup:=f.key
 have j:((reL c.x.A).map Prod.fst).Nodup:=by
  unfold reL;rw[qi];exact h.xk
 have l:(A.map Prod.fst).Nodup:=(d.map Prod.fst).nodup_iff.2 j;have t:A.length=c.x.A.length:=by rw[d.length_eq];unfold reL;rw[Y9]
 have u:M.A.length=c.m.A.length:=by have:=i.length_eq;simpa using this
 obtain⟨p,v,q⟩:=K2 h.gk h.dst;refine⟨f,l,p,h.n9,by rw[u];exact h.ml,by show A.length<=X.n;rw[t];exact h.xl,Nat.mul_le_mul_left 8 h.xl,Y7 v h.gl,λk=>?_,λk=>?_,λk=>?_,λe a=>?_,λk e a=>?_,λk e a=>?_,h.rul⟩
 ·show(aG M.A k).map pI=_;rw[<-uz pI kM,EU (by rw[qi];exact kM) (by rw[qi];exact h.o.key) (λe=>i.mem_iff) k,uz pI h.o.key,h.K];unfold cpF;dsimp only;cases X.K k<;>rfl
 ·show aG A k=_;rw[EU l j (λe=>d.mem_iff) k];unfold reL;rw[uz cj h.xk,h.I];unfold cpF;dsimp only;cases X.K k<;>rfl
 ·show aG (od c.g) k=X.R k;rw[q,h.R]
 ·exact h.dst e (bM (by rw[<-q];exact cT p a))
 ·unfold cpF at a;dsimp only at a;cases b:X.K k with
  |none=>rw[b]at a;cases a
  |some y=>
   rw[b]at a;injection a with a;subst a;exact h.ser k y b
 ·unfold cpF at a;dsimp only at a;cases b:X.K k with
  |none=>rw[b]at a;cases a
  |some y=>exact h.key k y b
attribute [local irreducible] zg
def Yc(X:SpV)(cs:List AV)(a Y:SpV):Prop:=cs=[]/\a=X/\Y=cpF X
def kCp:FuncId->EP:=bg 26 [(3,[(some 1000002,[])]),(1000003,[]),(7,[(some 1000000,[3,7,9,7]),(none,[0,1,2,3,4,5,6,7,8,9,10,11]),(none,[0,1,2,3,4,5,6,8,9,7,10,11]),(none,[0,1,2,4,5,6,7,3,8,9,10,11]),(none,[0,1,2,4,5,6,8,9,7,3,10,11])])] (aq 66 (xX 4 IxB UN) (aq 67 (yk 2 GrB GrB U0) (aq 58 IM evP)))
theorem VC:aW kCp:=aw (ae (ae (ae az Ew) Oz) Om) (by kernel_rfl) (by kernel_rfl)
def cpL (c:SpC) (A:List (Tx×List Lab)) (a:Nat×Nat) (b:Nat×Nat) (M:MpC Tx SE) (I:List Nat):AE×AH:=(mkE [(0,.ptr 0 (0)),(3,.ptr 8 (0)),(25,.ptr 9 (0))],mkH [(0,.cells [.map 1,aA c.px,aA c.pg] true),(1,c.m.O kT gE),(2,AO.sep (IxB.Q c.x c.px)),(3,AO.sep (GrB.Q c.g c.pg)),(4,AO.sep (aI (aJ c.m.A))),(5,M.O kT gE),(6,AO.sep (IxB.Q ⟨A,8*c.x.A.length⟩ a)),(7,AO.sep (GrB.Q (od c.g) b)),(8,.cells [.map 5,aA a,aA b] true),(9,AO.iter 1 c.m.cl (eo c.m.bs I)),(10,AO.sep (aI (aJ M.A)))])
theorem VD:∀x,x<10->∀y,y<10->(if x=5 then 8 else if x=9 then 10 else if x<6 then x else x-1)=(if y=5 then 8 else if y=9 then 10 else if y<6 then y else y-1)->x=y:=by decide
structure CpI(c:SpC)(I:List Nat)(M:MpC Tx SE):Prop where
 r:RgI c.m I
 o:M.Ok
 s:(M.A.map λe=>(e.1,pI e.2))=(fJ c.m.A I).map λe=>(e.1,pI e.2)
theorem GY(X:SpV)(c:SpC)(d:bE X c):ay kCp 5 26 [.ptr 0 0] (mkH (bF (spO c) 0)) 5 (N7 SpB 5 X (Oy SpB 5 (cpF X))):=by
 have l:c.x.A.length<=1000:=Y7 d.xl d.n9;have W:c.g.length<=1000:=Y7 d.gl d.n9
 conv=>whnf
 refine qz.mk Unit 9 (λ_=>(mkE (cpE c (λ_=>false) (0,0) (0,0)),mkH (cpH c (λ_=>false) (reL c.x.A) (0,0) (0,0)))) ?_ (λ_=>?_)
 ·conv=>whnf
  refine⟨(),Cov.ofA (m:=9) (by decide) ⟨.ptr (by decide) rfl,ab.bad _,ab.bad _,ab.bad _,ab.bad _,ab.bad _,ab.bad _,ab.bad _,ab.bad _,ab.bad _,ab.bad _,ab.bad _,ab.bad _,ab.bad _,ab.bad _,trivial⟩ ⟨.inl ⟨_,rfl,an.dQ (k:=2) rfl (by decide) (λb n=>rfl)⟩,.inl ⟨_,rfl,an.dQ (k:=0) (al aO fV) (by decide) (λb n=>rfl)⟩,.inl ⟨_,rfl,an.sep _⟩,.inl ⟨_,rfl,an.sep _⟩,.inl ⟨_,rfl,an.sep _⟩,.inr ⟨rfl,Z0 rfl⟩,.inr ⟨rfl,Z0 rfl⟩,.inr ⟨rfl,Z0 rfl⟩,.inr ⟨rfl,Z0 rfl⟩,trivial⟩ rfl⟩
 conv=>whnf
 refine RZ l W (λ_ _ _ _ h=>h) (λ_ _ _ _ h=>h) _ _ λA E F Y=>?_
 conv=>whnf
 refine aQ.mk {t:List Nat×MpC Tx SE//CpI c t.1 t.2} 11 (λt=>cpL c A E F t.val.2 t.val.1) (λt=>c.m.A.length-t.val.1.length) ⟨([],MpC.no),.nil,MpC.ya,rfl⟩ ?_ ?_
 focus
  refine Cov.hole (Cov.ofA (m:=11) (by decide) ⟨.ptr (by decide) rfl,.ptr (by decide) rfl,.ptr (by decide) rfl,trivial⟩ ⟨.inl ⟨_,rfl,an.dQ (k:=2) rfl (by decide) (λb n=>rfl)⟩,.inl ⟨_,rfl,an.dQ (k:=0) (al aO fV) (by decide) (λb n=>rfl)⟩,.inl ⟨_,rfl,an.sep _⟩,.inl ⟨_,rfl,an.sep _⟩,.inl ⟨_,rfl,an.sep _⟩,.inl ⟨_,rfl,an.GA⟩,.inl ⟨_,rfl,an.sep _⟩,.inl ⟨_,rfl,an.sep _⟩,.inl ⟨_,rfl,an.dQ (k:=6) rfl (by decide) (λb n=>rfl)⟩,.inl ⟨_,rfl,an.jd (by decide) rfl⟩,.inl ⟨_,rfl,an.sep _⟩,trivial⟩ rfl)
 intro⟨⟨I,M⟩,u⟩;dsimp only at u;have Z:=u.r.len
 conv=>whnf
 refine Nxt.mp 9 1 c.m.cl _ _ _ rfl rfl rfl rfl d.o.lt (λho=>?_) (λi e x J B hn=>?_)
 focus
  obtain⟨q1,q2⟩:=u.r.tc d.o.nd d.o.len ho;have hS:(M.A.map λe=>(e.1,pI e.2)).Perm (c.m.A.map λe=>(e.1,pI e.2)):=by rw[u.s];exact q1.map _
  have K:=Yb d u.o hS Y E F
  conv=>whnf
  refine⟨.ptr 5 0,[.cells [.map 6,aA E,aA F] true,M.O kT gE,.sep (IxB.Q ⟨A,8*c.x.A.length⟩ E),.sep (GrB.Q (od c.g) F),.sep (aI (aJ M.A))],c,⟨_,K,rfl,?_⟩,d,rfl,λo ho=>?_,Z0 rfl,Cov.ofR (λb=>if b=5 then 8 else if b=9 then 10 else if b<6 then b else b-1) (Z0 rfl) (λb n=>?_) (λx l=>?_) (λx l=>?_) (λx l y hy e=>?_)⟩
  ·show _=[bT _ _,bT _ _,bT _ _,bT _ _,bT _ _];rw[(eG (m:=0) (r':=λb=>b) (λc d=>absurd d (q1k c)) (al (m:=M) (j:=0) aO fV)).trans (vF _)];rfl
  ·simp only[Z3,Z4,or_false]at ho;rcases ho with rfl|rfl|rfl|rfl|rfl
   ·exact⟨rfl,rfl⟩
   ·exact⟨rfl,al aO fV⟩
   ·exact⟨rfl,rfl⟩
   ·exact⟨rfl,rfl⟩
   ·exact⟨rfl,rfl⟩
  ·show(if b=5 then 8 else if b=9 then 10 else if b<6 then b else b-1)=b;rw[if_neg (by omega),if_neg (by omega),if_pos (by omega)]
  ·simp only[Z3,Z4,or_false]at l;subst l;exact .ptr (Z0 rfl) rfl
  ·simp only[bF,spO,SpB,q1q,q2f,Z3,Z4,or_false]at l;rcases l with rfl|rfl|rfl|rfl|rfl|rfl|rfl|rfl|rfl|rfl
   ·exact⟨Z0 rfl,.inl ⟨_,rfl,an.dQ (k:=2) rfl (Z0 rfl) (λb n=>by rw[if_neg (by omega),if_neg (by omega),if_pos (by omega)])⟩⟩
   ·exact⟨Z0 rfl,.inl ⟨_,rfl,an.dQ (k:=0) (al aO fV) (Z0 rfl) (λb n=>absurd n (q1k b))⟩⟩
   ·exact⟨Z0 rfl,.inl ⟨_,rfl,an.sep _⟩⟩
   ·exact⟨Z0 rfl,.inl ⟨_,rfl,an.sep _⟩⟩
   ·exact⟨Z0 rfl,.inl ⟨_,rfl,an.sep _⟩⟩
   ·refine⟨Z0 rfl,.inl ⟨_,rfl,.cells (Z6 _) id λi a' a=>?_⟩⟩
    match i,a with
    |0,a=>injection a with a;subst a;exact⟨_,rfl,.map (Z0 rfl) rfl⟩
    |1,a=>injection a with a;subst a;exact⟨_,rfl,ab.aA rfl⟩
    |2,a=>injection a with a;subst a;exact⟨_,rfl,ab.aA rfl⟩
    |i+3,a=>simp at a
   ·exact⟨Z0 rfl,.inl ⟨_,rfl,an.dQ (k:=0) (al aO fV) (Z0 rfl) (λb n=>absurd n (q1k b))⟩⟩
   ·exact⟨Z0 rfl,.inl ⟨_,rfl,an.sep _⟩⟩
   ·exact⟨Z0 rfl,.inl ⟨_,rfl,an.sep _⟩⟩
   ·exact⟨Z0 rfl,.inl ⟨_,rfl,an.sep _⟩⟩
  ·have lt:∀x∈bF (spO c++ [AO.cells [.map 6,aA E,aA F] true,M.O kT gE,.sep (IxB.Q ⟨A,8*c.x.A.length⟩ E),.sep (GrB.Q (od c.g) F),.sep (aI (aJ M.A))]) 0,x.1<10:=λx l=>sd (m:=10) rfl _ (q0e.2 ⟨x,l,rfl⟩)
   have N:=lt x l;have V:=lt y hy;exact VD x.1 N y.1 V e
 obtain⟨w,rfl⟩:=qb J;obtain⟨G,a⟩:=u.r.step w B hn;have hs:eo c.m.bs I++ [x]=eo c.m.bs (I++ [i]):=(kV B).symm;have hm:c.m.A.length-(I++ [i]).length<c.m.A.length-I.length:=by have:=G.len;simp only[Z5,q1v]at this⊢;omega
 have P:=d.o.nd
 have D:aJ c.m.A=aJ (c.m.A.take i)++cq c.m.A[i].2.p c.m.A[i].2.S c.m.A[i].2.L::aJ (c.m.A.drop (i+1)):=by
  conv=>lhs;rw[<-q1i i c.m.A,q0j w]
  unfold aJ;rw[q0m];rfl
 have R:∀e∈M.A,e.1≠c.m.A[i].1:=λe J q=>by
  have:(e.1,pI e.2)∈(fJ c.m.A I).map λe=>(e.1,pI e.2):=by rw[<-u.s];exact q0e.2 ⟨e,J,rfl⟩
  obtain⟨z,hz,hq⟩:=q0e.1 this;injection hq with N V;exact Aa d.o.key w a z hz (N.trans q)
 have H:aG M.A c.m.A[i].1=none:=(ye (v:=c.m.A[i].2) R).2
 have T:∀f,CpI c (I++ [i]) (M.put c.m.A[i].1 ⟨f,c.m.A[i].2.S,c.m.A[i].2.L,c.m.A[i].2.z⟩):=λf=>⟨G,u.o.put _ _,by
  rw[uw H,s9 w,q0m,q0m,u.s];rfl⟩
 have U:∀f,aI (aJ M.A++cq f c.m.A[i].2.S c.m.A[i].2.L:: [])=aI (aJ (M.put c.m.A[i].1 ⟨f,c.m.A[i].2.S,c.m.A[i].2.L,c.m.A[i].2.z⟩).A):=λf=>by
  rw[uw H];unfold aJ;rw[q0m];rfl
 conv=>whnf
 refine Ent.mp 9 1 c.m.cl i x (eo c.m.bs I) (jc kT gE c.m.A) c.m.bs _ rfl rfl rfl P B J ?_
 conv=>whnf
 refine⟨?_,?_,?_,?_,trivial⟩
 all_goals
  conv=>whnf
  refine⟨4,aJ (c.m.A.take i),aJ (c.m.A.drop (i+1)),c.m.A[i].2.p,c.m.A[i].2.S,c.m.A[i].2.L,rfl,by decide,by decide,rfl,congrArg (λs=>some (AO.sep (aI s))) D,λf=>?_⟩
  conv=>whnf
  refine Ask.mk _ (rD (m:=M) (g:=gE) (v:=⟨f,c.m.A[i].2.S,c.m.A[i].2.L,c.m.A[i].2.z⟩) (k:=c.m.A[i].1) bP nT rfl rfl rfl rfl) ?_
  conv=>whnf
  refine⟨⟨(I++ [i],M.put c.m.A[i].1 ⟨f,c.m.A[i].2.S,c.m.A[i].2.L,c.m.A[i].2.z⟩),T f⟩,hm,?_⟩;refine Cov.pre (λφ h0 h hr=>hr.IU (b:=10) (m:=13) (A:=aJ M.A) (C:=[]) (Q:=cq f c.m.A[i].2.S c.m.A[i].2.L) (by decide) (by decide) (congrArg (λs=>some (AO.sep (aI s))) (q0z _).symm) rfl) ?_;exact Cov.ofN [] ⟨sP,sP,sP,trivial⟩ ⟨oK 2,oK 0 (al aO fV),oS,oS,oS,oK 0 (al aO fV),oS,oS,oK 6,.inl ⟨_,(congrArg (λs=>some (AO.iter 1 c.m.cl s)) hs),an.jd (by decide) rfl⟩,.inl ⟨_,(congrArg (λs=>some (AO.sep s)) (U f)),an.sep _⟩,trivial⟩
theorem Pc:ai 26 (yk 5 SpB SpB Yc):= .os (by decide) (by decide) (xY (ax VC 5 _) (by kernel_rfl) SpB rfl (by decide) λX cs g P ⟨y,⟨a,b,d⟩,e⟩=>by
 subst a b d e;exact⟨rfl,λc f=>GY _ c f⟩)
def YW(V:List Tx):Prop:=V.Pairwise λa b=>ltL a b=true
section
variable {X:SpV} {c:SpC} {k:Tx}
theorem yB:YW (oe X):=(bb _).1
end
theorem Pd(X:SpV)(k:Tx):X.K k=none∨∃e,X.K k=some e:=by
 cases X.K k with
 |none=>exact .inl rfl
 |some e=>exact .inr ⟨e,rfl⟩
theorem VE{X:SpV}{k:Tx}{e:fF}{a b:Int}(h:Bnd X 100)(c:X.K k=some e):(bJ a b e.L).length<=1000000:=by
 have d:=h k e c;have f:(bJ a b e.L).length<=e.L.length:=q1e _ _;omega
section
variable {X:SpV} {c:SpC} {k q:Tx} {t v p:Int}
theorem va{was:Int}(b:q≠k):∀(a:List Rl) {X:SpV},(∀r∈a,q≠r.dst)->(a.foldl (cY k was t) X).K q=X.K q
 | [],_,_=>rfl
 |r::a,X,h=>by
  have hr:=h r q0b;refine(va b a (X:=cY k was t X r) λq b=>h q (Y4 _ b)).trans ?_;unfold cY;rw[jf hr];split
  ·exact jf hr
  ·rfl
theorem GZ(b:bE X c)(a:q≠k)(d:∀r,X.R q=some r->r.src≠k):(fk X k t v p).1.K q=X.K q:=by
 unfold fk;split
 ·rfl
 ·split
  ·rfl
  ·split
   ·rfl
   ·refine(va a _ λr h e=>?_).trans ?_
    ·obtain⟨f,g⟩:=b.rF.1 h;exact d r (e▸f) g
    ·unfold GK;rw[fh,if_neg a]
theorem VF:(fk X k t v p).1.R=X.R:=by
 unfold fk;split
 ·rfl
 ·split
  ·rfl
  ·split
   ·rfl
   ·exact(rG _).1
theorem Al(h:X.K k=none):(fk X k t v p).2=5:=by
 have:cz X k=5:=by unfold cz;rw[h];rfl
 unfold fk;rw[if_pos (by rw[this];decide),this]
theorem Ln(h:(X.K k).isSome=true)(a:(X.R k).isSome=true):(fk X k t v p).2=10:=by
 have:cz X k=10:=by unfold cz;rw[if_pos h,if_pos a]
 unfold fk;rw[if_pos (by rw[this];decide),this]
theorem Pe(h:X.K k=none):(cpF X).K k=none:=by unfold cpF;dsimp only;rw[h];rfl
theorem EV{e:fF}(h:X.K k=some e):(cpF X).K k=some {e with lab:=cj e.lab}:=by unfold cpF;dsimp only;rw[h];rfl
theorem Pg(a:bE X c){b:SpC}(d:bE (cpF X) b):oe (cpF X)=oe X:=rA yB yB λx=>by
 rw[uu a,uu d];unfold cpF;simp
end
def SY(g:List AV->AH->Nat->PK->Prop)(args:List AV)(H:AH)(n:Nat)(κ:PK):Prop:=g args H n λv H n=>∃w a,Re H n v a w/\κ w a n
theorem ai.td{f:FuncId}{g:List AV->AH->Nat->PK->Prop}(h:ai f g):ai f (SY g):=λargs H n z o p l i q K j d r=>h args H n _ o p l i q K j d λs v H n w m i j t ⟨u,x,e,k⟩=>by
 obtain⟨y,a,b,c⟩:=e s l m w j t;exact r y u x n w m (i.trans a) b c k
def YX:DT:=[(1000010,[]),(1000012,[]),(1000018,[]),(18,[(some 1000002,[])]),(22,[(some 1000000,[4,2]),(none,[0,1,2,3,4,5,6,7,8,9,10]),(none,[0,1,3,4,2,5,6,7,8,9,10])])]
def kWr:FuncId->EP:=bg 6 YX (cV 14 xP (aq 15 (I5 SpB (λX=>Inv X 100) X7) (aq 17 (SY (yx SpB O7)) (aq 16 I1 (aq 25 (O5 SpB (dL 5 SpB U9)) (aq 26 (O5 SpB (yk 5 SpB SpB Yc)) (aq 32 (cL 5 SpB nU) (aq 21 (Ed Ee) (aq 22 (pt WE) (aq 20 (Ea 1000000 lz) (aq 30 (cW Vl) evP)))))))))))
theorem VG:aW kWr:=aw (ba (ae (ae (ae (ae (ae (ae (ae (ae (ae (ae az XA) Ik) WJ) SC) B4) (ai.kn Pc SpB)) (ai.kn EC SpB)) OW) (ai.td Vz)) Vy) Le QU) (by kernel_rfl) (by kernel_rfl)
def r0':Rl:=⟨[],[],0,0,0⟩
theorem EW{H:AH}{n:Nat}(o:Option Rl):Re H n (pG o) H (.tup [gR (o.getD r0'),.sb o.isSome]):=by
 cases o with
 |none=>exact .JU (.agg rfl) rfl
 |some r=>exact .told rfl
def wrB (k:Tx) (p b:Nat×Nat) (a c:Bool) (d:Int):List (Nat×AV):=[(1,.ss k),(5,.ptr 0 0),(7,aA p),(8,aA b),(10,.sb a),(11,.si .i64 d),(12,.sb c)]
def wrD (k:Tx) (p a:Nat×Nat) (b:Int):List (Nat×AV):=[(1,.ss k),(5,.ptr 0 0),(7,aA p),(8,aA a),(11,.si .i64 b)]
def wrH (X Y:SpV) (p a:Nat×Nat) (t y:Int):List (Nat×AO):=[(0,.cells [.si .i64 t,.si .i64 y] true),(1,.sep (SpB.Q X p)),(2,.sep (SpB.Q Y a))]
def wrL (k:Tx) (p a:Nat×Nat) (b:Int) (K:List Tx) (i:Nat) (own:Bool):List (Nat×AV):=[(1,.ss k),(5,.ptr 0 0),(7,aA p),(8,aA a),(11,.si .i64 b),(13,.fr K.length 1 (strs K)),(14,.si .i64 (i:Int)),(17,.bool own)]
def wrV (K:List Tx) (i:Nat) (s:Tx) (p a:Nat×Nat) (c:Int) (O:Smp) (b:Bool) (x y:AV) (g:(Nat×Nat)×(Nat×Nat)):List AV:=[.si .i64 c,.bool b,.bool b,x,y,.bool true,.bool true,aA p,.fr K.length 1 (strs K),.si .i64 (i:Int),.fa (strs K) (i*1),.ss s,aA g.1,.rw 12 0 O.length 2 0,aA a,.fr K.length 1 (strs K),.si .i64 (i:Int),.fa (strs K) (i*1),.ss s,aA g.2,.rw 22 0 O.length 2 0,.bool true,.bool false,.bool false]
def wrZ (a:Int):List AV:=[.si .i64 a,.bool false,.bool false,.bool true,.bool false,.bool false,.bool false]++List.replicate 16 cg++ [.bool false]
def wrS (X Y:SpV) (e:fF) (O:Smp) (p d:Nat×Nat) (t y:Int) (f:Nat->Bool) (g:(Nat×Nat)×(Nat×Nat)):AH×Nat:=
 let a:=wrH X Y p d t y
 let H1:=a++ [(8,.sep (cq g.1 e.S e.L))]
 let b:=H1++ [(12,.cells (smp O) true)]
 let c:=b++ [(18,.sep (cq g.2 e.S e.L))]
 bif f 20 then(mkH (c++ [(22,.cells (smp O) true)]),23)else bif f 19 then(mkH c,19)else bif f 13 then(mkH b,13)else bif f 12 then(mkH H1,9)else(mkH a,3)
def wrT (k:Tx) (p a:Nat×Nat) (b:Int) (K:List Tx) (i:Nat) (own:Bool) (X Y:SpV) (t y:Int) (V:List AV):AE×AH:=(mkE (wrL k p a b K i own++flV (nF 24) 111 0 V),mkH (wrH X Y p a t y))
abbrev WrA(er:Int)(own:Bool):Type:={w:Bool×AV×AV//(er≠0/\w.1=true/\w.2.1=cg/\w.2.2=cg)∨(er=0/\own=false/\w.1=false/\w.2.1= .bool false/\w.2.2= .bool true)}⊕PLift (er=0/\own=true)
def wrW (K:List Tx) (i:Nat) (s:Tx) (p b:Nat×Nat) (a:Int) (O:Smp) (own:Bool):WrA a own->List AV
 | .inl w=>wrV K i s p b a O w.val.1 w.val.2.1 w.val.2.2 (p,p)
 | .inr _=>wrZ a
theorem Cc{K:List Tx}{i:Nat}{s:Tx}{p d:Nat×Nat}{b:Int}{O:Smp}{own:Bool}{P:List AV->Prop}(h:∀V:List AV,V.length=24->P V):∃a:WrA b own,P (wrW K i s p d b O own a):=by
 by_cases c:b=0
 ·cases own with
  |false=>exact⟨.inl ⟨(false,.bool false,.bool true),.inr ⟨c,rfl,rfl,rfl,rfl⟩⟩,h _ rfl⟩
  |true=>exact⟨.inr ⟨c,rfl⟩,h _ rfl⟩
 ·exact⟨.inl ⟨(true,cg,cg),.inl ⟨c,rfl,rfl,rfl⟩⟩,h _ rfl⟩
def wrK (X:SpV) (Y:SpV) (k:List Nat) (a:Nat×Nat) (b:Nat×Nat) (t:Int) (y:Int) (c:Int) (K:List Tx) (i:Nat):AE×AH:=(mkE [(1,.ss (k)),(5,.ptr 0 (0)),(7,aA a),(8,aA b),(11,.si .i64 (c)),(13,.fr K.length 1 (strs K)),(14,.si .i64 ((i:Int)))],mkH [(0,.cells [.si .i64 t,.si .i64 y] true),(1,.sep (SpB.Q X a)),(2,.sep (SpB.Q Y b))])
theorem yQ(S:List Oq)(k:Tx)(t y:Int)(hin:∀o∈S,o.In)(hS:S.length<=8796093022208)(_:aP t)(U:aP y):ay kWr 6 6 [.fr S.length 14 (oqC S),.ss k,.agg [.si .i64 t,.si .i64 y]] .nil 0 λv _ _=>v= .bool true∨v= .sb true:=by
 obtain⟨X,hX⟩:∃X,X=Ll S:=⟨_,rfl⟩;obtain⟨⟨d,j⟩,B⟩:∃Y,Y=fk X k t y 3:=⟨_,rfl⟩;obtain⟨E,hm⟩:∃b,b=(X.R k).isSome:=⟨_,rfl⟩;obtain⟨W,u⟩:∃b,b=(X.K k).isSome:=⟨_,rfl⟩
 conv=>whnf
 refine⟨[.fr S.length 14 (oqC S)],X,_,by decide,.cons .same .nil,rfl,⟨S,rfl,hin,hS,hX⟩,λhI p=>?_⟩
 conv=>whnf
 refine ah.dec (λT=>?_) (λT=>?_)
 focus
  conv=>whnf
  exact .inr rfl
 conv=>whnf
 refine⟨1,p,X,rfl,λh=>h.elim λc J=>⟨1,p,X,[],X,cpF X,_,rfl,by decide,by decide,.nil,rfl,rfl,⟨rfl,rfl,rfl⟩,λl=>?_⟩⟩
 conv=>whnf
 refine⟨1,p,X,[.ss k],X,pG (X.R k),_,rfl,by decide,by decide,.cons .same .nil,rfl,λ_=>⟨⟨k,rfl,rfl,rfl⟩,.tup [gR ((X.R k).getD r0'),.sb E],_,hm▸EW _,?_⟩⟩
 conv=>whnf
 refine⟨1,p,X,[.ss k,.agg [.si .i64 t,.si .i64 y],.si .i64 3],d,.si .i64 j,_,rfl,by decide,by decide,.cons .same (.cons .same (.cons (.told rfl) .nil)),rfl,rfl,⟨k,t,y,3,(d,j),rfl,U,hI.links,λq z M=>Y7 (hI.bnd J q z M) (by decide),B.symm,rfl,rfl⟩,?_⟩
 conv=>whnf
 refine qz.mk Unit 3 (λ_=>(mkE (wrB k p l E W j),mkH (wrH d (cpF X) p l t y))) ?_ (λ_=>?_)
 ·rcases Pd X k with s|⟨e,s⟩
  ·conv=>whnf
   refine⟨12,l,cpF X,k,_,rfl,by decide,by decide,.cons .same .nil,rfl,rfl,.inl ⟨Pe s,?_⟩⟩
   conv=>whnf
   exact⟨(),Cov.ofB (m:=3) (rn 2 12) (Y5 _) (λb hb=>absurd hb (q1k b)) ⟨e0,ab.ptr (by decide) rfl,ab.aA rfl,ab.aA rfl,.bool rfl,.int rfl,.bool (congrArg AV.sb (u.trans (by rw[s];rfl)).symm),trivial⟩ ⟨zN (k:=0),zN (k:=0),zN (k:=0),trivial⟩ rfl λx hx y U=>uy (m:=3) (Z0 rfl) rfl (q0e.2 ⟨x,hx,rfl⟩) (q0e.2 ⟨y,U,rfl⟩)⟩
  conv=>whnf
  refine⟨12,l,cpF X,k,_,rfl,by decide,by decide,.cons .same .nil,rfl,rfl,.inr ⟨_,EV s,λ_=>?_⟩⟩
  conv=>whnf
  exact⟨(),Cov.ofB (m:=3) (rn 2 12) (Y5 _) (λb hb=>absurd hb (q1k b)) ⟨e0,ab.ptr (by decide) rfl,ab.aA rfl,ab.aA rfl,.bool rfl,.int rfl,.bool (congrArg AV.sb (u.trans (by rw[s];rfl)).symm),trivial⟩ ⟨zN (k:=0),zN (k:=0),zN (k:=0),trivial⟩ rfl λx hx y U=>uy (m:=3) (Z0 rfl) rfl (q0e.2 ⟨x,hx,rfl⟩) (q0e.2 ⟨y,U,rfl⟩)⟩
 have hcs:(W=false/\j=5)∨(W=true/\E=true/\j=10)∨(W=true/\E=false):=by
  have e2:j=(fk X k t y 3).2:=congrArg Prod.snd B;rcases Pd X k with s|⟨e,s⟩
  ·exact .inl ⟨by rw[u,s];rfl,e2.trans (Al s)⟩
  ·have F:W=true:=by rw[u,s];rfl
   cases q:E with
   |false=>exact .inr (.inr ⟨F,rfl⟩)
   |true=>exact .inr (.inl ⟨F,rfl,e2.trans (Ln (by rw[s];rfl) (hm▸q))⟩)
 conv=>whnf
 refine qz.mk Unit 3 (λ_=>(mkE (wrD k p l j),mkH (wrH d (cpF X) p l t y))) ?_ (λ_=>?_)
 ·clear B;rcases hcs with⟨F,A⟩|⟨F,A,H⟩|⟨F,A⟩
  ·clear u;subst F A
   conv=>whnf
   repeat
    first
    |refine ah.sb (λ_=>?_) (λz=>absurd z (by decide))
    |refine ah.sb (λz=>absurd z (by decide)) (λ_=>?_)
    conv=>whnf
   exact⟨(),Cov.ofA (m:=3) (Y5 _) ⟨e0,ab.ptr (by decide) rfl,ab.aA rfl,ab.aA rfl,.int rfl,trivial⟩ ⟨.inl ⟨_,rfl,an.refl rfl⟩,.inl ⟨_,rfl,an.sep _⟩,.inl ⟨_,rfl,an.sep _⟩,trivial⟩ rfl⟩
  ·clear u hm;subst F A H
   conv=>whnf
   repeat
    first
    |refine ah.sb (λ_=>?_) (λz=>absurd z (by decide))
    |refine ah.sb (λz=>absurd z (by decide)) (λ_=>?_)
    conv=>whnf
   exact⟨(),Cov.ofA (m:=3) (Y5 _) ⟨e0,ab.ptr (by decide) rfl,ab.aA rfl,ab.aA rfl,.int rfl,trivial⟩ ⟨.inl ⟨_,rfl,an.refl rfl⟩,.inl ⟨_,rfl,an.sep _⟩,.inl ⟨_,rfl,an.sep _⟩,trivial⟩ rfl⟩
  ·clear u hm;subst F A
   conv=>whnf
   repeat
    first
    |refine ah.sb (λ_=>?_) (λz=>absurd z (by decide))
    |refine ah.sb (λz=>absurd z (by decide)) (λ_=>?_)
    conv=>whnf
   exact⟨(),Cov.ofA (m:=3) (Y5 _) ⟨e0,ab.ptr (by decide) rfl,ab.aA rfl,ab.aA rfl,.int rfl,trivial⟩ ⟨.inl ⟨_,rfl,an.refl rfl⟩,.inl ⟨_,rfl,an.sep _⟩,.inl ⟨_,rfl,an.sep _⟩,trivial⟩ rfl⟩
 obtain⟨K,s⟩:∃K,K=oe d:=⟨_,rfl⟩
 conv=>whnf
 refine⟨1,p,d,rfl,λA=>A.elim λc2 I=>⟨1,p,d,[],.fr K.length 1 (strs K),rfl,by decide,by decide,.nil,rfl,rfl,⟨rfl,by rw[s]⟩,?_⟩⟩
 have hKl:K.length<=1000:=by
  rw[s,<-I.keys];exact Y7 (cu _) (by rw[Y9];exact Y7 I.xl I.n9)
 conv=>whnf
 refine aQ.mk {i:Nat//i<=K.length} 3 (λi=>wrK d (cpF X) k p l t y j K i.val) (λi=>K.length-i.val) ⟨0,Y5 _⟩ ?_ ?_
 ·exact Cov.ofN [] ⟨sS,sP,ab.aA rfl,ab.aA rfl,sI,ab.frE rfl,sI,trivial⟩ ⟨oF,oS,oS,trivial⟩
 intro⟨i,hi⟩;have hi:i<=K.length:=hi;have hw:IntKind.i64.wrap ((i:Int)+1)=((i+1:Nat):Int):=by rw[aj (by omega) (by omega)];omega
 conv=>whnf
 refine ah.dec (λF=>?_) (λF=>?_)
 ·have A:i<K.length:=q0t.1 F;have Z:K.length-(i+1)<K.length-i:=by omega
  have G:=fD A (q0r _)
  conv=>whnf
  refine Idx.mk i rfl A ?_
  conv=>whnf
  refine au G ?_;obtain⟨is,his⟩:∃b,b=(d.R K[i]).isSome:=⟨_,rfl⟩;obtain⟨R1,hR1⟩:∃r,r=(d.R K[i]).getD r0':=⟨_,rfl⟩
  conv=>whnf
  refine⟨1,p,d,[.ss K[i]],d,pG (d.R K[i]),_,rfl,by decide,by decide,.cons .same .nil,rfl,λ_=>⟨⟨K[i],rfl,rfl,rfl⟩,.tup [gR R1,.sb is],_,his▸hR1▸EW _,?_⟩⟩;have hX1:d.R=X.R:=by have:=VF (X:=X) (k:=k) (t:=t) (v:=y) (p:=3);rw[<-B]at this;exact this
  have hKm:(d.K K[i]).isSome=true:=(uu I).1 (s▸q0i A);obtain⟨e,he⟩:=q0n.1 hKm;obtain⟨own,C⟩:∃b,b=(dh K[i] k||(is&&dh R1.src k)):=⟨_,rfl⟩
  have n:(j≠0∨own=false)->X.K K[i]=some e:=λh=>by
   rcases h with h|h
   ·have:=ES (X:=X) (k:=k) (t:=t) (v:=y) (p:=3) (by rw[<-B];exact h);rw[<-B]at this;rw[<-he];exact congrFun (congrArg SpV.K this.symm) _
   ·rw[C,Bool.or_eq_false_iff]at h;have hq:K[i]≠k:=λq=>by rw[bk.2 q]at h;exact absurd h.1 (by decide)
    have:=GZ (t:=t) (v:=y) (p:=3) J hq λr hr q=>by
     have h5:=h.2;rw[his,hR1,hX1,hr]at h5;dsimp only[Option.isSome,Option.getD]at h5;rw[bk.2 q]at h5;cases h5
    rw[<-B]at this;rw[<-this];exact he
  obtain⟨O,hO⟩:∃O,O=bJ 0 1099511627776 e.L:=⟨_,rfl⟩;have N:(j≠0∨own=false)->O.length<=1000000:=λh=>by rw[hO];exact VE (hI.bnd J) (n h)
  clear B
  conv=>whnf
  refine qz.mk (WrA j own) 3 (λa=>wrT k p l j K i own d (cpF X) t y (wrW K i K[i] p l j O own a)) ?_ (λa=>?_)
  ·conv=>whnf
   refine Idx.mk i rfl A ?_
   conv=>whnf
   refine au G ?_
   conv=>whnf
   refine ah.sb (λT=>?_) (λT=>?_)
   ·have M:true=own:=by rw[C,T];rfl
    conv=>whnf
    exact Cc (P:=λV=>Cov 0 _ _ _ ((wrT k p l j K i own d (cpF X) t y V).1,(wrT k p l j K i own d (cpF X) t y V).2,3)) λV hV=>Cov.fl (m:=3) (Y5 _) ⟨e0,ab.ptr (by decide) rfl,ab.aA rfl,ab.aA rfl,.int rfl,ab.frE rfl,.int rfl,ab.flat rfl (congrArg AV.sb M),trivial⟩ ⟨.inl ⟨_,rfl,an.refl rfl⟩,.inl ⟨_,rfl,an.sep _⟩,.inl ⟨_,rfl,an.sep _⟩,trivial⟩ rfl hV
   conv=>whnf
   refine ah.sb (λz2=>?_) (λz2=>?_)
   ·have M:dh R1.src k=own:=by rw[C,T,z2];rfl
    conv=>whnf
    exact Cc (P:=λV=>Cov 0 _ _ _ ((wrT k p l j K i own d (cpF X) t y V).1,(wrT k p l j K i own d (cpF X) t y V).2,3)) λV hV=>Cov.fl (m:=3) (Y5 _) ⟨e0,ab.ptr (by decide) rfl,ab.aA rfl,ab.aA rfl,.int rfl,ab.frE rfl,.int rfl,ab.flat rfl (congrArg AV.sb M),trivial⟩ ⟨.inl ⟨_,rfl,an.refl rfl⟩,.inl ⟨_,rfl,an.sep _⟩,.inl ⟨_,rfl,an.sep _⟩,trivial⟩ rfl hV
   have M:false=own:=by rw[C,T,z2];rfl
   conv=>whnf
   exact Cc (P:=λV=>Cov 0 _ _ _ ((wrT k p l j K i own d (cpF X) t y V).1,(wrT k p l j K i own d (cpF X) t y V).2,3)) λV hV=>Cov.fl (m:=3) (Y5 _) ⟨e0,ab.ptr (by decide) rfl,ab.aA rfl,ab.aA rfl,.int rfl,ab.frE rfl,.int rfl,ab.flat rfl (congrArg AV.sb M),trivial⟩ ⟨.inl ⟨_,rfl,an.refl rfl⟩,.inl ⟨_,rfl,an.sep _⟩,.inl ⟨_,rfl,an.sep _⟩,trivial⟩ rfl hV
  cases a with
  |inr D=>
   obtain⟨D,H⟩:=D.down;clear n N;subst D H
   conv=>whnf
   refine Cb Unit () (λf _=>mkE (wrL k p l 0 K i true++flV f 111 0 (wrZ 0))) (λ_ _=>mkH (wrH d (cpF X) p l t y)) (λ_ _=>3) ([([],[],none),([0],[],none),([1],[],none),([2],[],none),([2,3],[],none),([2,4],[],none),([5],[],none)]++List.replicate 17 ([6],[],none)) (by kernel_rfl) 24 (by kernel_rfl) rfl (by kernel_rfl) ?_ λ_=>?_
   ·refine⟨?_,?_,?_,?_,?_,?_,?_,?_,?_,?_,?_,?_,?_,?_,?_,?_,?_,?_,?_,?_,?_,?_,?_,?_,trivial⟩
    all_goals
     intro f g
     conv=>whnf
     first
     |exact⟨_,my,(),rfl,rfl,rfl⟩
     |exact⟨_,GX 112 rfl (by decide),(),rfl,rfl,rfl⟩
   conv=>whnf
   refine⟨⟨i+1,A⟩,Z,?_⟩;exact Cov.ofN [] ⟨sS,sP,ab.aA rfl,ab.aA rfl,sI,ab.frE rfl,sI (congrArg (AV.si .i64) hw),trivial⟩ ⟨oF,oS,oS,trivial⟩
  |inl w=>
   obtain⟨⟨b,x,z⟩,hv⟩:=w;dsimp only at hv;have Q:(cpF X).K K[i]=some {e with lab:=cj e.lab}:=EV (n (hv.imp (λh=>h.1) (λh=>h.2.1)));have hO8:=N (hv.imp (λh=>h.1) (λh=>h.2.1))
   have hb1:(!decide (j=0))=b:=by
    rcases hv with⟨D,H,_⟩|⟨D,_,H,_⟩
    ·rw[H,decide_eq_false D];rfl
    ·rw[H,decide_eq_true D];rfl
   clear n N
   conv=>whnf
   refine Cb _ (p,p) (λf g=>mkE (wrL k p l j K i own++flV f 111 0 (wrV K i K[i] p l j O b x z g))) (λf g=>(wrS d (cpF X) e O p l t y f g).1) (λf g=>(wrS d (cpF X) e O p l t y f g).2) [([],[],none),([0],[],none),([1],[],none),([2],[],none),([2,3],[],none),([2,4],[],none),([5],[],none),([6],[],none),([6],[],none),([6],[],none),([8,9,6],[],none),([10,6],[],none),([7,11,6],[12,13,19,20],some 3),([12,6],[13,19,20],some 9),([6],[],none),([6],[],none),([6],[],none),([15,16,6],[],none),([17,6],[],none),([13,14,18,6],[19,20],some 13),([19,6],[20],some 19),([13,20,6],[],none),([21,6],[],none),([6,22],[],none)] (by kernel_rfl) 24 (by kernel_rfl) rfl (by kernel_rfl) ?_ λ_=>?_
   ·refine⟨?_,?_,?_,?_,?_,?_,?_,?_,?_,?_,?_,?_,?_,?_,?_,?_,?_,?_,?_,?_,?_,?_,?_,?_,trivial⟩
    all_goals
     intro f g
     try refine⟨rfl,?_⟩
     rcases hv with⟨D,rfl,rfl,rfl⟩|⟨D,rfl,rfl,rfl,rfl⟩
     all_goals
      conv=>whnf
      first
      |exact⟨_,my,g,rfl,rfl,rfl⟩
      |exact⟨_,GX 112 rfl hb1,g,rfl,rfl,rfl⟩
      |refine Idx.mk i rfl A ?_
       exact⟨_,my,g,rfl,rfl,rfl⟩
      |refine au G ?_
       exact⟨_,my,g,rfl,rfl,rfl⟩
      |exact⟨1,p,d,K[i],_,rfl,by decide,by decide,.cons .same .nil,rfl,rfl,.inr ⟨e,he,λa=>⟨_,my,(a,g.2),rfl,rfl,rfl⟩⟩⟩
      |exact⟨2,l,cpF X,K[i],_,rfl,by decide,by decide,.cons .same .nil,rfl,rfl,.inr ⟨_,Q,λa=>⟨_,my,(g.1,a),rfl,rfl,rfl⟩⟩⟩
      |exact⟨8,g.1,e.S,e.L,O,rfl,by decide,rfl,⟨by decide,rfl,rfl,rfl,rfl⟩,⟨_,_,0,1099511627776,rfl,rfl,rfl,hO⟩,⟨_,my,g,rfl,rfl,rfl⟩⟩
      |exact⟨18,g.2,e.S,e.L,O,rfl,by decide,rfl,⟨by decide,rfl,rfl,rfl,rfl⟩,⟨_,_,0,1099511627776,rfl,rfl,rfl,hO⟩,⟨_,my,g,rfl,rfl,rfl⟩⟩
      |exact⟨O,O,.inr (.inl (.inl ⟨12,0,0,smp O,smp O,⟨rfl,by decide⟩,.inr ⟨_,rfl⟩,bp (bh O),bC O⟩)),.inr (.inl (.inl ⟨22,0,0,smp O,smp O,⟨rfl,by decide⟩,.inr ⟨_,rfl⟩,bp (bh O),bC O⟩)),hO8,hO8,⟨_,GX 132 rfl (Ky _),g,rfl,rfl,rfl⟩⟩
   conv=>whnf
   refine⟨⟨i+1,A⟩,Z,?_⟩;exact Cov.ofN [] ⟨sS,sP,ab.aA rfl,ab.aA rfl,sI,ab.frE rfl,sI (congrArg (AV.si .i64) hw),trivial⟩ ⟨oF,oS,oS,trivial⟩
 have Q:j≠0->d=X:=λh=>by
  have:=ES (X:=X) (k:=k) (t:=t) (v:=y) (p:=3) (by rw[<-B];exact h);rw[<-B]at this;exact this
 have hG:j=0->∃e,d.K k=some e/\ja e.L t=(y,0):=λh=>by
  rcases Pd X k with q|⟨e,q⟩
  ·have:=Al (t:=t) (v:=y) (p:=3) q;rw[<-B]at this;exact absurd (h.symm.trans this) (by decide)
  ·obtain⟨_,a2,a3⟩:=RX (t:=t) (v:=y) (p:=3) J q (by rw[<-B];exact h);rw[<-B]at a3;exact⟨_,a3,(Lm (J.ser k e q).up (J.ser k e q).num a2).1⟩
 clear B
 conv=>whnf
 refine ah.di (λD=>?_) (λD=>?_)
 ·conv=>whnf
  refine⟨2,l,cpF X,rfl,λH=>H.elim λc3 hc3=>⟨2,l,cpF X,[],.fr K.length 1 (strs K),rfl,by decide,by decide,.nil,rfl,rfl,⟨rfl,by rw[Pg J hc3,s,Q D]⟩,?_⟩⟩
  conv=>whnf
  refine⟨[.fr K.length 1 (strs K),.fr K.length 1 (strs K)],_,_,.cons .same (.cons .same .nil),⟨K,K,rfl,by omega,rfl⟩,?_⟩
  conv=>whnf
  refine ah.sb (λ_=>?_) (λz=>absurd ((decide_eq_true rfl).symm.trans z) (by decide))
  conv=>whnf
  exact .inr rfl
 obtain⟨e,he,hg⟩:=hG D
 conv=>whnf
 refine⟨?_,?_,trivial⟩
 all_goals
  conv=>whnf
  refine⟨1,p,d,k,_,rfl,by decide,by decide,.cons .same .nil,rfl,rfl,.inr ⟨e,he,λp5=>?_⟩⟩
  conv=>whnf
  refine⟨8,p5,e.S,e.L,.tup [.si .i64 y,.si .i64 0],rfl,by decide,rfl,⟨by decide,rfl,rfl,rfl,rfl⟩,⟨_,t,rfl,rfl,by rw[hg]⟩,?_⟩
  conv=>whnf
  refine ah.dec (λ_=>?_) (λz=>absurd rfl z)
  conv=>whnf
  refine ah.dec (λ_=>?_) (λz=>absurd rfl z)
  conv=>whnf
  exact .inr rfl
end Go.Proofs.YtflehenfikoniaaGreat
end
