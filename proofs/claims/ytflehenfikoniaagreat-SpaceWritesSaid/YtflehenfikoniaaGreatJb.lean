/- Texts of our own, joined: the engine, the machine that runs code, and what is known of the functions. -/
import Derived.Test.YtflehenfikoniaaGreatRows
import Derived.WalkKit
import Derived.Deep.Quiet
import Derived.ProofKit
import Derived.Laws.StructEq
import Derived.LaidEql
import Derived.Laws.BytesArg
import Derived.Maps.RangeRun
import Derived.RangeFuncSeq
import Derived.Scope
import Derived.Laws.Strings
import Derived.Laws.Strings2
import Derived.Test.YtflehenfikoniaaGreatJa
import Derived.Below
import Derived.Carry
import Derived.OpenShut
import Derived.ChangeMaps5
import Derived.Deep.Slices
import Derived.Deep.SlicePairs
import Derived.SizedLaws
set_option linter.unusedSimpArgs false
set_option linter.unusedVariables false
set_option maxHeartbeats 16000000
set_option maxRecDepth 100000
noncomputable section
namespace Go.Proofs.YtflehenfikoniaaGreat
open Go Go.RowKit
theorem Jx{φ:Ph}{a:AV}{v:Value}(h:VR φ a v)(e:oH a=true):v.oneCell'=true:=by
 cases a<;>simp only[oH]at e
 case agg=>cases e
 case tup=>cases e
 case bad=>cases e
 case any u=>rw[h.vn];exact e
 case si=>rw[h.gi];rfl
 case rw=>
  rcases h.gX with⟨_,b⟩|⟨p,y,C,_,rfl,_⟩
  ·obtain⟨a,rfl⟩:=b.is;rfl
  ·rfl
 case fr=>obtain⟨a,C,rfl⟩:=h.LO;rfl
 case fa=>obtain⟨q,x,_,rfl,_⟩:=h.AM;rfl
 case sb=>rw[h.jY];rfl
 case ss=>rw[h.tJ.1];rfl
 case sy=>obtain⟨p,C,_,rfl,_⟩:=h.AL;rfl
 case int=>rw[h.b9];rfl
 case str=>rw[h.cJ.1];rfl
 case bool=>rw[h.bZ];rfl
 case nil=>rw[h.aU];rfl
 case ptr=>obtain⟨p,_,rfl⟩:=h.cw;rfl
 case nsl=>rw[h.c9];rfl
 case sl=>obtain⟨p,C,_,rfl,_⟩:=h.eT;rfl
 case esl=>obtain⟨p,x,C,_,rfl,_⟩:=h.kC;rfl
 case fn=>obtain⟨p,q,rfl,_⟩:=h.nu;rfl
 case map=>obtain⟨p,_,rfl⟩:=h.lR;rfl
theorem mI{φ:Ph}:∀{l:List AV} {b:List Value},VRs φ l b->l.all oH=true->b.all Value.oneCell'=true
 | [],b,h,_=>by rw[h.aU];rfl
 |a::l,b,h,e=>by
  obtain⟨v,us,rfl,c,d⟩:=h.cons_inv;simp only[q1x,Z7]at e⊢;exact⟨Jx c e.1,mI d e.2⟩
theorem CR.append{φ:Ph}{c:Array Value}{s:Nat}{l m:List AV}(h:CR φ c s l)(k:CR φ c (s+l.length) m):CR φ c s (l++m):=λi a e=>by
 by_cases b:i<l.length
 ·rw[q1f b]at e;exact h i a e
 ·rw[q0x (by omega)]at e;obtain⟨v,d,f⟩:=k _ a e;exact⟨v,by rw[<-d];congr 1;omega,f⟩
theorem CR.drop{φ:Ph}{c:Array Value}{s o m:Nat}{l:List AV}(h:CR φ c s l):CR φ c (s+o) ((l.drop o).take m):=λi a e=>by
 rw[List.getElem?_take]at e;split at e
 ·rw[q2t]at e;obtain⟨v,b,d⟩:=h _ a e;exact⟨v,by rw[<-b];congr 1;omega,d⟩
 ·cases e
theorem CR.kept{φ:Ph}{c:Array Value}{s o:Nat}{l:List AV}{b:List Value}(h:CR φ c s l)(ho:s+l.length<=o):CR φ (eu c o b) s l:=λi a e=>by
 have:=(Y6.1 e).1;rw[nw,if_neg (by omega)];exact h i a e
theorem CR.wrote{φ:Ph}{c:Array Value}{o:Nat}{l:List AV}{b:List Value}(h:VRs φ l b)(ho:o+l.length<=c.size):CR φ (eu c o b) o l:=λi a e=>by
 have hi:=(Y6.1 e).1;obtain⟨v,d,f⟩:=h.at e;have:=h.length;refine⟨v,?_,f⟩;rw[nw,if_pos (by omega),show o+i-o=i from by omega];exact d
theorem rI.sub{fz:Nat×Nat}{o m o' a:Nat}(h:rI fz o m)(b:o'+a<=o+m):rI fz o' a:=by
 unfold rI at*;omega
def qS(φ:Ph)(h0:Hp)(v:AV)(H:AH)(n:Nat)(K:KH):Prop:=∀(a:Ph) (u:Value) (g:Hp),PLe φ a->HR a H n h0 g->VR a v u->K u g
section
variable {P:Program} {φ:Ph} {H H':AH} {n n':Nat} {h0 h:Hp} {K:KH} {σ:AE} {ρ:Env} {r:AV}
theorem wC(a:HR φ H n h0 h){l:List AV}{cs:Array Value}{el:TypeId}(b:VRs φ l cs.toList)(e:Pq l H n=some (r,H',n'))(c:qS φ h0 r H' n' K):Jc el cs h K:=by
 unfold Pq at e;injection e with e;injection e with e1 e2;injection e2 with e2 e3;subst e1 e2 e3;have d:l.length=cs.size:=by simpa using b.length
 have ho:OR (fm φ n ⟨h.n,0,cs.size⟩) ⟨h.n,0,cs.size⟩ (.cells l true) (.cells cs el (0,0)):=
  ⟨cs,el,(0,0),rfl,by simp only;omega,by simp only;omega,jh _ _,λ_=>rfl,CR.mono (a.ple _) (CR.of' b)⟩
 exact c _ _ _ (a.ple _) (a.new ho aa) (.ptr (bG _ _ _))
theorem rV(m:HR φ H n h0 h){t:TypeId}{a x:AV}{av i:Value}(w:VR φ a av)(y:VR φ x i)(e:AJ P t a x H n=some (r,H',n'))(A:qS φ h0 r H' n' K):oq P t av i h K:=by
 unfold AJ at e;split at e
 ·rename_i b o;obtain⟨p,q,rfl⟩:=w.cw;split at e
  ·rename_i l z s u B;obtain⟨F,G,C,c,ty,fz,rfl,I,J,v,D,E⟩:=m.of u q;split at e
   ·rename_i L g d;simp only[Z7]at g;have hlen:=q0d g.1;have j:=y.cells g.2.1;have k:=j.length;have f:i.cells.size=s:=by rw[<-hlen,k,Array.length_toList]
    obtain⟨M,N,O⟩:=iD _ _ _ _ d;injection e with e;injection e with e1 e2;injection e2 with e2 e3;subst e1 e2 e3
    (try simp only[oq,C])
    refine⟨by rw[B,f],mI j g.2.2,by omega,v.sub (by omega),?_⟩;refine A _ _ _ (PLe.refl _) (m.put u q ?_ aa) .undef;exact⟨_,ty,fz,rfl,by omega,by rw[ft];omega,v,D,E.set d j (by omega)⟩
   ·cases e
  ·cases e
 ·cases e
theorem lU:∀(l:List AV) (s:List Nat) (d:List Value),VRs φ l d->lj l=some s->bytesOf d=some (s.map UInt8.ofNat)/\∀x∈s,x<256
 | [],s,d,h,e=>by
  rw[h.aU];injection e with e;subst e;exact⟨rfl,λ_ c=>by cases c⟩
 |a::l,s,d,h,e=>by
  unfold lj at e;split at e
  ·rename_i q;cases q
  ·rename_i m l' q;injection q with f g;subst f g;obtain⟨v,us,rfl,i,j⟩:=h.cons_inv;rw[i.b9];split at e
   ·rename_i b;have b:m<256:=by simpa[q2q]using b
    simp only[Z8]at e;obtain⟨k,o,rfl⟩:=e;obtain⟨p,t⟩:=lU l k us j o;refine⟨?_,λx c=>?_⟩
    ·(try simp only[bytesOf])
     rw[if_pos (by constructor<;>simp only[q1y]<;>omega),p];simp
    ·rcases Z3.1 c with rfl|c
     ·exact b
     ·exact t x c
   ·cases e
  ·rename_i m l' q;injection q with f g;subst f g;obtain⟨v,us,rfl,i,j⟩:=h.cons_inv;rw[i.gi];split at e
   ·rename_i b;have b:m<256:=by simpa[q2q]using b
    simp only[Z8]at e;obtain⟨k,o,rfl⟩:=e;obtain⟨p,t⟩:=lU l k us j o;refine⟨?_,λx c=>?_⟩
    ·(try simp only[bytesOf])
     rw[if_pos (by constructor<;>simp only[q1y]<;>omega),p];simp
    ·rcases Z3.1 c with rfl|c
     ·exact b
     ·exact t x c
   ·cases e
  ·cases e
theorem mi{s:List Nat}(a:∀x∈s,x<256):(eQ (eJ s)).toList=s.map λc=> .int .u8 (Int.ofNat c):=by
 simp only[eQ,eJ,q3y,q4e];apply q2y;intro c b;simp only[Function.comp];congr 1;rw[UInt8.toNat_ofNat',q1p (a c b)];rfl
theorem VRs.bytes(φ:Ph)(s:List Nat):VRs φ (s.map λc=> .int .u8 (Int.ofNat c)) (s.map λc=> .int .u8 (Int.ofNat c)):=VRs.map (λc=> .int _ _) s
theorem oN(m:HR φ H n h0 h){src dst:TypeId}{x:AV}{A:Value}(t:VR φ x A)(e:CH P src dst x H n=some (r,H',n'))(u:qS φ h0 r H' n' K):iB P src dst A h K:=by
 unfold CH at e;split at e
 ·rename_i O Q k a g i;rw[t.b9];injection e with e;injection e with j d;injection d with d e3;subst j d e3
  (try simp only[iB,g,i])
  exact u _ _ _ (PLe.refl _) m (.int _ _)
 ·rename_i s g i;obtain⟨rfl,w⟩:=t.cJ;injection e with e;injection e with j d;injection d with d e3;subst j d e3
  (try simp only[iB,g,i])
  exact u _ _ _ (PLe.refl _) m (.str w)
 ·rename_i el s g i;obtain⟨rfl,w⟩:=t.cJ;split at e
  ·rename_i v;injection e with e;injection e with j d;injection d with d e3;subst j d e3
   (try simp only[iB,g,i])
   refine⟨v,λcap f=>?_⟩;rw[iE]at f⊢
   have y:(eQ (eJ s)++Array.replicate (cap-s.length) (Value.int .u8 0)).size=cap:=by
    have:(eQ (eJ s)).size=s.length:=by rw[<-Array.length_toList,mi w];simp
    rw[Array.size_append,this,Array.size_replicate];omega
   have ho:OR (fm φ n ⟨h.n,0,cap⟩) ⟨h.n,0,cap⟩ (.cells (s.map λc=> .int .u8 (Int.ofNat c)) false) (.cells (eQ (eJ s)++Array.replicate (cap-s.length) (.int .u8 0)) el (cap,cap+1)):=by
    refine⟨_,el,_,rfl,by simpa using f,by simp only[y];omega,.inr (by simp only;omega),(λq=>by cases q),?_⟩;have:=CR.of (φ:=fm φ n ⟨h.n,0,cap⟩) (VRs.bytes _ s) (Array.replicate (cap-s.length) (Value.int .u8 0)).toList;rw[<-mi w]at this
    have d:((eQ (eJ s)).toList++(Array.replicate (cap-s.length) (Value.int .u8 0)).toList).toArray=eQ (eJ s)++Array.replicate (cap-s.length) (Value.int .u8 0):=by
     apply q2w;simp
    rwa [d]at this
   have:=u _ (.slice (some ⟨h.n,0+0,none⟩) s.length cap) _ (m.ple _) (m.new ho aa) (.sl (bG _ _ _) (λq=>absurd q (by decide)) (λ_=>⟨f,by simp⟩));exact this
  ·cases e
 ·rename_i el g i;rw[t.c9];split at e
  ·rename_i v;injection e with e;injection e with j d;injection d with d e3;subst j d e3
   (try simp only[iB,g,i])
   exact⟨v,u _ _ _ (PLe.refl _) m (.str (s:=[]) (λ_ t=>by cases t))⟩
  ·cases e
 ·rename_i el b o len c k g i;obtain⟨p,C,B,rfl,_,_⟩:=t.eT;split at e
  ·rename_i l z v D;obtain⟨R,S,E,T,ty,fz,rfl,_,_,_,_,F⟩:=m.of D B;simp only[Z8,q2a,q3a]at e;obtain⟨s,⟨G,j,d⟩,rfl,rfl,rfl⟩:=e;obtain⟨I,J,L⟩:=F.sub j;obtain⟨M,N⟩:=lU G s I L d;simp only[iB,g,i,E,J,q2e,M];exact⟨v,u _ _ _ (PLe.refl _) m (.str N)⟩
  ·cases e
 ·cases e
theorem oO(b:HR φ H n h0 h){t:TypeId}{x y:AV}{g i:Value}(m:VR φ x g)(o:VR φ y i)(e:wo P t x y H n=some (r,H',n'))(p:qS φ h0 r H' n' K):vU P t g i h K:=by
 unfold wo at e;split at e
 ·rename_i el C l D c s;rw[m.b9,o.b9];split at e
  ·rename_i k a z u v w;split at e
   ·rename_i A;obtain⟨E,F,G,B⟩:=A;injection e with e;injection e with e1 e2;injection e2 with e2 e3;subst e1 e2 e3
    (try simp only[vU,s,u,v,w])
    have d:(a:Int)*Int.ofNat c<=281474976710656:=by
     have:((a*c:Nat):Int)<=281474976710656:=by omega
     rwa [Int.natCast_mul]at this
    refine⟨by simp only[q1y];omega,by simp only[q1y];omega,d,by simp only[q1y];omega,?_⟩;rw[show(Int.ofNat l).toNat=l from rfl,show(Int.ofNat c).toNat=c from rfl];have f:madeCells z.cells (c*k)=(cQ z.cells.toList c).toArray:=by rw[<-B];exact ji _ _
    rw[f];have j:=tQ (mH φ z) c;have I:=j.length
    have ho:OR (fm φ n ⟨h.n,0,(cQ z.cells.toList c).length⟩) ⟨h.n,0,(cQ z.cells.toList c).length⟩ (.cells (iT (ofV z).cells c) true) (.cells (cQ z.cells.toList c).toArray el (0,0)):=
     ⟨_,el,_,rfl,by simp only;omega,by simp,jh _ _,λ_=>rfl,CR.mono (b.ple _) (CR.of' (by simpa using j))⟩
    exact p _ (.slice (some ⟨h.n,0+0,none⟩) l c) _ (b.ple _) (b.new ho aa) (.sl (bG _ _ _) (λ_=>rfl) (λq=>(q rfl).elim))
   ·cases e
  ·cases e
 ·cases e
theorem zd(t:HR φ H n h0 h){k m:Nat}{x:AV}{w:Value}{l:List AV}(i:VR φ x w)(e:Pr H k x=some (m,l)):∃d,bY h k w=some (m,d)/\VRs φ l d:=by
 unfold Pr at e;split at e
 ·rw[i.c9];injection e with e;injection e with a e2;subst a e2;exact⟨[],rfl,.nil⟩
 ·rename_i b o I c J;obtain⟨p,C,j,rfl,_,_⟩:=i.eT;split at e
  ·rename_i A z f;obtain⟨B,D,g,E,ty,fz,rfl,_,_,_,_,q⟩:=t.of f j;simp only[Z8,q3a]at e;obtain⟨F,a,rfl,rfl⟩:=e;obtain⟨d,u,v⟩:=q.sub a;exact⟨d,by simp only[bY,g,u,q0h],v⟩
  ·rename_i A f;obtain⟨B,D,g,E,ty,fz,rfl,_,_,q⟩:=t.of f j;simp only[Z8,q3a]at e;obtain⟨F,a,rfl,rfl⟩:=e;obtain⟨d,u,v⟩:=q.sub a;exact⟨d,by simp only[bY,g,u,q0h],v⟩
  ·cases e
 ·rename_i b;obtain⟨p,y,C,j,rfl,_⟩:=i.kC;split at e
  ·rename_i A z f;obtain⟨B,D,g,E,ty,fz,rfl,_,_,_,_,q⟩:=t.of f j;injection e with e;injection e with a e2;subst a e2;exact⟨[],by simp only[bY,g,q1o,cO,q0h],.nil⟩
  ·cases e
 ·rename_i s;obtain⟨rfl,G⟩:=i.cJ;injection e with e;injection e with a e2;subst a e2;refine⟨_,by simp only[bY,iE];rfl,?_⟩;rw[mi G];exact VRs.bytes _ _
 ·cases e
theorem mj(F:HR φ H n h0 h){t u:TypeId}{s x:AV}{sv xv:Value}(hs:VR φ s sv)(hx:VR φ x xv)(e:rT P t u s x H n=some (r,H',n'))(hk:qS φ h0 r H' n' K):iQ P t u sv xv h (tC K):=by
 have wk:∀v g,K v g->tC K v g:=λv g k=>⟨g,Sub.refl _,k⟩
 unfold rT at e;split at e
 case h_2=>cases e
 rename_i el ud hu hud;split at e
 case h_1=>cases e
 case h_3=>cases e
 rename_i T _ _ _ _ k U z hni hsz hbz hzz;have V:∀q,T≠ .int q:=λq h=>hni q h
 split at e
 case h_2=>cases e
 rename_i m new W;split at e
 case isFalse=>cases e
 rename_i hc;obtain⟨c1,c2,c3,c4,c5⟩:=hc;obtain⟨N,hn1,A⟩:=zd F hx W;have hnl:=A.length;have J:=mI A c5;have X:∀q,(cQ z.cells.toList q).length=q*k:=λq=>by rw[mh];simp[c1]
 have grow:∀(old:List AV) (w:List Value) (i:Nat) (zz:Bool) (d:Nat) (G:AH) (ψ:Ph),ψ=φ->HR φ G n h0 h->VRs φ old w->w.length=i*k->r= .sl n 0 (i+m) (i+m) k->H'=G.set (some (.cells (old++new) zz)) aa n->n'=n+1->G1 el z (i+m) w N h (tC K):=by
  intro old w i zz d G ψ hψ hG ho y hre hHe hne cap L;subst hre hHe hne;refine wk _ _ ?_
  have Y:(w++(N++cQ z.cells.toList (cap-(i+m)))).length=cap*k:=by
   simp only[Z5,y,<-hnl,c4,X];rw[<-q2i,<-q2i];congr 1;omega
  have O:OR (fm φ n ⟨h.n,0,cap*k⟩) ⟨h.n,0,cap*k⟩ (.cells (old++new) zz) (.cells (w++(N++cQ z.cells.toList (cap-(i+m)))).toArray el (0,0)):=by
   refine⟨_,el,_,rfl,?_,by simp only[List.size_toArray,Y];omega,jh _ _,λ_=>rfl,?_⟩
   ·have:=ho.length;simp only[Z5,c4,this,y];rw[<-q2i];exact q1h k L
   ·rw[<-q0q];exact CR.mono (hG.ple _) (CR.of (ho.append A) _)
  have:=hk _ (.slice (some ⟨h.n,0+0,none⟩) (i+m) cap) _ (hG.ple _) (hG.new O aa) (.sl (bG _ _ _) (λq=>by omega) (λ_=>⟨L,by simp⟩));exact this
 have fin:∀{base:Option Addr} {f ke:Nat},(f+m<=ke->uD base k f m ke N h (tC K))->(ke<f+m->(f+m)*U<=140737488355328/\∃old,bY h k (.slice base f ke)=some (f,old)/\G1 el z (f+m) old N h (tC K))->iQ P t u (.slice base f ke) xv h (tC K):=λa b=>
  ⟨el,T,k,U,z,m,N,hu,hud,V,hsz,hbz,hzz,c1,c2,hn1,a,b⟩
 split at e
 ·
  rw[hs.c9];split at e
  ·injection e with e;injection e with e1 e2;injection e2 with e2 e3;subst e1 e2 e3;refine fin (λ_=>wk _ _ ?_) (λq=>by omega);exact hk _ _ _ (PLe.refl _) F .nsl
  ·rename_i hm0;split at e
   ·rename_i I;injection e with e;injection e with e1 e2;injection e2 with e2 e3;refine fin (λq=>?_) (λ_=>⟨by simpa using I,[],rfl,?_⟩)
    ·have:m=0:=by omega
     exact(hm0 this).elim
    ·exact grow [] [] 0 true aa H φ rfl F .nil (by simp) (by rw[<-e1];simp) (by rw[<-e2];simp) e3.symm
   ·cases e
 ·rename_i b o i c sk;obtain⟨p,C,hp,rfl,Q,R⟩:=hs.eT
  have hcC:c<=C:=by
   by_cases q:sk=0
   ·rw[Q q];omega
   ·exact(R q).1
  split at e
  case h_2=>cases e
  rename_i l z' hb;obtain⟨ob,hB,hf,cc,ty,fz,rfl,h1,h2,h3,h4,h5⟩:=F.of hb hp;split at e
  ·rename_i hle;split at e
   ·rename_i l' M;obtain⟨g1,S,g3⟩:=iD _ _ _ _ M;injection e with e;injection e with e1 e2;injection e2 with e2 e3;subst e1 e2 e3;refine fin (λ_=>?_) (λq=>by omega)
    (try simp only[uD,hf])
    refine⟨J,by omega,h3.sub (by omega),wk _ _ ?_⟩;refine hk _ _ _ (PLe.refl _) (F.put hb hp ?_ aa) (.sl hp Q R);refine⟨_,ty,fz,rfl,by omega,by rw[ft];omega,h3,h4,?_⟩;rw[q1m];exact h5.set M A (by omega)
   ·cases e
  ·rename_i hgt;split at e
   case isFalse=>cases e
   rename_i I;split at e
   ·rename_i old j;injection e with e;injection e with e1 e2;injection e2 with e2 e3;obtain⟨w,g1,S⟩:=h5.sub j
    have y:w.length=i*k:=by
     have:=S.length;obtain⟨q1,rfl⟩:=br j;rw[<-this];simp;omega
    have:=Q rfl
    refine fin (λq=>by omega) (λ_=>⟨I,w,by simp only[bY,hf,g1,q0h],?_⟩);exact grow old w i true aa H φ rfl F S y e1.symm e2.symm e3.symm
   ·rename_i old sk' j;split at e
    case isFalse=>cases e
    rename_i hsk;obtain⟨_,hT⟩:=R (by omega);rw[hsk]at hT;injection e with e;injection e with e1 e2;injection e2 with e2 e3;obtain⟨w,g1,S⟩:=h5.sub j;obtain⟨q1,D⟩:=br j;have Z:old.length=i*k:=by subst D;simp;omega
    have y:w.length=i*k:=by
     have:=S.length;omega
    refine fin (λE=>?_) (λ_=>⟨I,w,by simp only[bY,hf,g1,q0h],?_⟩)
    ·subst e1 e2 e3
     (try simp only[uD,hf])
     have hCk:(i+m)*k<=C*k:=q1h k E;have hadd:(i+m)*k=i*k+m*k:=q2i _ _ _;refine⟨J,by omega,h3.sub (by omega),wk _ _ ?_⟩
     have O:OR (fm φ n ⟨p.B,p.s+o,C*k⟩) ⟨p.B,p.s+o,C*k⟩ (.cells (old++new) z') (.cells (eu cc (p.s+o+i*k) N) ty fz):=by
      refine⟨_,ty,fz,rfl,by simp only[Z5];omega,by rw[ft];simp only;omega,h3.sub (by simp only;omega),h4,CR.mono (F.ple _) (CR.append ?_ ?_)⟩
      ·subst D;exact CR.kept (CR.drop h5) (by simp only;omega)
      ·simp only;rw[Z];exact CR.wrote A (by omega)
     have:=hk _ (.slice (some ⟨p.B,p.s+o+0,none⟩) (i+m) C) _ (F.ple _) (F.rename (q:=⟨p.B,p.s+o,C*k⟩) hb hp rfl O aa aa) (.sl (p:=⟨p.B,p.s+o,C*k⟩) (bG _ _ _) (λq=>by omega) (λ_=>⟨E,by simp⟩));exact this
    ·exact grow old w i z' aa _ φ rfl (F.kill aa b) S y e1.symm e2.symm e3.symm
   ·cases e
 ·cases e
theorem Fm{x:AV}{v:Value}{m:Nat}(a:VR φ x v)(e:G4 x=some m):Lt v=some m:=by
 unfold G4 at e;split at e
 ·rw[a.c9];exact e
 ·obtain⟨p,C,_,rfl,_⟩:=a.eT;exact e
 ·obtain⟨p,y,C,_,rfl,_⟩:=a.kC;exact e
 ·obtain⟨rfl,_⟩:=a.cJ;simp only[Lt,iE];exact e
 ·cases e
theorem CO(j:HR φ H n h0 h){k q:Nat}{x:AV}{D:Value}{l:List AV}(m:VR φ x D)(e:Fi H k q x=some l):∃f,k9 h k q D=some f/\VRs φ l f:=by
 unfold Fi at e;split at e
 ·rw[m.c9];injection e with e;subst e;exact⟨[],rfl,.nil⟩
 ·rename_i b o I c J;obtain⟨p,C,g,rfl,_,_⟩:=m.eT;split at e
  ·rename_i t z a;obtain⟨u,v,d,w,ty,fz,rfl,_,_,_,_,i⟩:=j.of a g;obtain⟨f,A,B⟩:=i.sub e;exact⟨f,by simp only[k9,d,A],B⟩
  ·rename_i t a;obtain⟨u,v,d,w,ty,fz,rfl,_,_,i⟩:=j.of a g;obtain⟨f,A,B⟩:=i.sub e;exact⟨f,by simp only[k9,d,A],B⟩
  ·cases e
 ·rename_i b;obtain⟨p,y,C,g,rfl,_⟩:=m.kC;split at e
  ·rename_i t z a;obtain⟨u,v,d,w,ty,fz,rfl,_,_,_,_,i⟩:=j.of a g;injection e with e;subst e;exact⟨[],by simp only[k9,d,q1o,cO],.nil⟩
  ·rename_i t a;obtain⟨u,v,d,w,ty,fz,rfl,_,_,i⟩:=j.of a g;injection e with e;subst e;exact⟨[],by simp only[k9,d,q1o,cO],.nil⟩
  ·cases e
 ·rename_i s;obtain⟨rfl,E⟩:=m.cJ;injection e with e;subst e;refine⟨_,rfl,?_⟩;rw[da,<-q4i,q4e];have:((λb:UInt8=>Value.int .u8 (b.toNat:Int))∘UInt8.ofNat)=λc:Nat=>Value.int .u8 ((UInt8.ofNat c).toNat:Int):=rfl
  rw[this]
  have F:((s.take q).map λc:Nat=>Value.int .u8 ((UInt8.ofNat c).toNat:Int))=(s.take q).map λc:Nat=>Value.int .u8 (Int.ofNat c):=q2y λc G=>by
   rw[UInt8.toNat_ofNat',q1p (E c (q3f G))];rfl
  rw[F];exact VRs.bytes _ _
 ·cases e
theorem oP(j:HR φ H n h0 h){t:TypeId}{d x:AV}{M N:Value}(hd:VR φ d M)(O:VR φ x N)(e:CI P t d x H n=some (r,H',n'))(B:qS φ h0 r H' n' K):ot P t M N h K:=by
 unfold CI at e;split at e
 ·rename_i el m D E S a;split at e
  ·rename_i k F;split at e
   ·rename_i cells f;obtain⟨Z,w,A⟩:=CO j O f;have i:=Fm O S;split at e
    ·have:D=0:=by injection a with a;exact a.symm
     subst this;rw[hd.c9];injection e with e;injection e with e1 e2;injection e2 with e2 e3;subst e1 e2 e3
     (try simp only[ot,E,i,F,w])
     exact B _ _ _ (PLe.refl _) j (.int _ _)
    ·rename_i b;have:D=0:=by injection a with a;exact a.symm
     subst this;obtain⟨p,y,C,q,rfl,T,U⟩:=hd.kC;split at e
     ·rename_i l z s;obtain⟨V,W,G,I,ty,fz,rfl,Q,R,u,J,L⟩:=j.of s q;rw[A.aU]at w;injection e with e;injection e with e1 e2;injection e2 with e2 e3;subst e1 e2 e3
      (try simp only[ot,E,i,F,w,G])
      refine⟨rfl,by simp only[q1j];omega,u.sub (by simp only[q1j];omega),?_⟩;exact B _ _ _ (PLe.refl _) (j.put s q (show OR φ p (.cells l z) (.cells I ty fz) from⟨I,ty,fz,rfl,Q,R,u,J,L⟩) aa) (.int _ _)
     ·cases e
    ·rename_i b o X c k';have:D=X:=by injection a with a;exact a.symm
     subst this;obtain⟨p,C,q,rfl,_,_⟩:=hd.eT;split at e
     ·rename_i l z s;obtain⟨V,W,G,I,ty,fz,rfl,Q,R,u,J,L⟩:=j.of s q;split at e
      ·rename_i l' g v;obtain⟨q1,q2,q3⟩:=iD _ _ _ _ g;have Y:=A.length;injection e with e;injection e with e1 e2;injection e2 with e2 e3;subst e1 e2 e3
       (try simp only[ot,E,i,F,w,G])
       refine⟨mI A v,by omega,u.sub (by omega),?_⟩;refine B _ _ _ (PLe.refl _) (j.put s q ?_ aa) (.int _ _);exact⟨_,ty,fz,rfl,by omega,by rw[ft];omega,u,J,L.set g A (by omega)⟩
      ·cases e
     ·cases e
    ·cases e
   ·cases e
  ·cases e
 ·cases e
theorem Fo{k v:AV}{t w:Value}(f:VR φ k t)(hv:VR φ v w):∀(es:List (AV×AV)) (ms:List MapEntry) (q:Option (Nat×AV)) (g:Option (Nat×Value)) (cl:Nat),MR φ es ms->wv ms cl->(match q,g with
 |none,none=>True
 |some (j,_),some (A,_)=>j=A
 |_,_=>False)->∃d cl',Lu t w ms cl g= .map d cl'/\MR φ (lO k v es q) d.toList/\wv d.toList cl':=by
 have app:∀(es:List (AV×AV)) (ms:List MapEntry) (m:MapEntry),MR φ es ms->VR φ k m.key->VR φ v m.val->MR φ (es++ [(k,v)]) (ms++ [m]):=by
  intro es
  induction es with
  |nil=>intro ms m b l o;rw[show ms=[] from b];exact⟨m,[],rfl,l,o,rfl⟩
  |cons x es B=>
   intro ms m ⟨C,us,l,o,D,z⟩ G I;subst l;exact⟨C,us++ [m],rfl,o,D,B us m z G I⟩
 have p:∀(es:List (AV×AV)) (ms:List MapEntry) (i:Nat) (u:AV),MR φ es ms->MR φ (lO k v es (some (i,u))) (chg t w ms i):=by
  intro es
  induction es with
  |nil=>intro ms i u b;rw[show ms=[] from b];cases i<;>rfl
  |cons x es B=>
   intro ms i u ⟨C,us,l,o,D,z⟩;subst l;cases i with
   |zero=>exact⟨_,us,rfl,f,hv,z⟩
   |succ i=>exact⟨C,_,rfl,o,D,B us i u z⟩
 have E:∀(ms:List MapEntry) (i:Nat) (cl:Nat),wv ms cl->wv (chg t w ms i) cl:=by
  intro ms i cl h;rw[<-E2];refine⟨by rw[List.length_modify];exact h.1,λj e c=>?_⟩;rw[List.getElem?_modify]at c;cases b:ms[j]? with
  |none=>rw[b]at c;simp at c
  |some m=>
   have hb:=h.2 j m b;rw[b]at c;by_cases q:i=j
   ·simp[q]at c;subst c;exact hb
   ·simp[q]at c;subst c;exact hb
 intro es ms q g cl b s F;cases q with
 |none=>
  cases g with
  |some x=>exact F.elim
  |none=>
   refine⟨_,_,rfl,?_,s.push rfl⟩;have:lO k v es none=es++ [(k,v)]:=by cases es<;>rfl
   rw[this];exact app es ms _ b f hv
 |some y=>
  cases g with
  |none=>exact F.elim
  |some x=>
   obtain⟨j,a⟩:=y;obtain⟨A,J⟩:=x;have:j=A:=F;subst this;exact⟨_,_,rfl,p es ms j a b,E ms j cl s⟩
theorem Fp{k v:AV}{a b:Value}(c:VR φ k a)(hv:VR φ v b):∀(es:List (AV×AV)) (ms:List MapEntry) (cl:Nat),MR φ es ms->MR φ (lO k v es none) (ms++ [({key:=a,val:=b,born:=cl}:MapEntry)]).toArray.toList/\((ms++ [({key:=a,val:=b,born:=cl}:MapEntry)]).toArray.toList.map λx=>x.born)=(ms.map λx=>x.born)++ [cl]:=λes ms cl d=>by
 have app:∀(es:List (AV×AV)) (ms:List MapEntry) (m:MapEntry),MR φ es ms->VR φ k m.key->VR φ v m.val->MR φ (es++ [(k,v)]) (ms++ [m]):=by
  intro es
  induction es with
  |nil=>intro ms m d e f;rw[show ms=[] from d];exact⟨m,[],rfl,e,f,rfl⟩
  |cons x es g=>
   intro ms m ⟨i,us,e,f,j,l⟩ o p;subst e;exact⟨i,us++ [m],rfl,f,j,g us m l o p⟩
 have:lO k v es none=es++ [(k,v)]:=by cases es<;>rfl
 rw[this];exact⟨app es ms _ d c hv,by simp⟩
theorem Fq{k v:AV}{a b:Value}(c:VR φ k a)(hv:VR φ v b):∀(es:List (AV×AV)) (ms:List MapEntry) (i:Nat) (u:AV),MR φ es ms->MR φ (lO k v es (some (i,u))) (chg a b ms i).toArray.toList/\((chg a b ms i).toArray.toList.map λx=>x.born)=ms.map λx=>x.born:=by
 intro es
 induction es with
 |nil=>intro ms i u f;rw[show ms=[] from f];cases i<;>exact⟨rfl,rfl⟩
 |cons x es g=>
  intro ms i u ⟨d,us,j,l,m,e⟩;subst j;cases i with
  |zero=>exact⟨⟨_,us,rfl,c,hv,e⟩,rfl⟩
  |succ i=>
   obtain⟨o,p⟩:=g us i u e
   exact⟨⟨d,_,rfl,l,m,o⟩,by
    show d.born::_=d.born::_;exact congrArg _ p⟩
theorem jD(o:HR φ H n h0 h){t:TypeId}{m k v:AV}{I J L:Value}(M:VR φ m I)(c:VR φ k J)(hv:VR φ v L)(e:lQ P t m k v H n=some (r,H',n'))(F:qS φ h0 r H' n' K):jB P t I J L h K:=by
 unfold lQ at e;split at e
 ·rename_i b R S T d;obtain⟨p,s,rfl⟩:=M.lR;split at e
  ·rename_i es i;obtain⟨N,O,E,ms,cl,rfl,f,G⟩:=o.of i s;split at e
   ·rename_i q u;obtain⟨l,w,g⟩:=im c es ms.toList 0 q f u
    obtain⟨z,A,B,C,Q⟩:=Fo c hv es ms.toList q l cl f G (by
     cases q<;>cases l<;>first|trivial|exact g.elim|exact g.1)
    injection e with e;injection e with e1 e2;injection e2 with e2 e3;subst e1 e2 e3;simp only[jB,rO,E,d,q2e,w,q0h,B];exact F _ _ _ (PLe.refl _) (o.put i s (show OR φ p (.map _) (.map z A) from⟨z,A,rfl,C,Q⟩) aa) .undef
   ·cases e
  ·rename_i es bs cl i;obtain⟨N,O,E,ms,rfl,f,D⟩:=o.of i s;split at e
   ·rename_i u;obtain⟨l,w,g⟩:=im c es ms.toList 0 none f u;cases l with
    |some x=>exact g.elim
    |none=>
     injection e with e;injection e with e1 e2;injection e2 with e2 e3;subst e1 e2 e3;obtain⟨B,C⟩:=Fp c hv es ms.toList cl f;simp only[jB,rO,E,d,q2e,w,q0h];exact F _ _ _ (PLe.refl _) (o.put i s (show OR φ p (.mp _ _ _) (.map _ (cl+1)) from⟨_,rfl,B,by rw[C,D]⟩) aa) .undef
   ·rename_i y u;obtain⟨l,w,g⟩:=im c es ms.toList 0 (some y) f u;cases l with
    |none=>exact g.elim
    |some x=>
     obtain⟨j,a⟩:=y;obtain⟨U,V⟩:=x;have:=g.1;subst this;injection e with e;injection e with e1 e2;injection e2 with e2 e3;subst e1 e2 e3;obtain⟨B,C⟩:=Fq c hv es ms.toList j a f;simp only[jB,rO,E,d,q2e,w,q0h];exact F _ _ _ (PLe.refl _) (o.put i s (show OR φ p (.mp _ _ _) (.map _ cl) from⟨_,rfl,B,by rw[C,D]⟩) aa) .undef
   ·cases e
  ·cases e
 ·cases e
theorem MR.erase{φ:Ph}:∀{es:List (AV×AV)} {ms:List MapEntry},MR φ es ms->∀i,MR φ (es.eraseIdx i) (ms.eraseIdx i)
 | [],ms,h,i=>by rw[show ms=[] from h];exact rfl
 |e::es,ms,⟨m,us,a,c,d,b⟩,0=>by subst a;exact b
 |e::es,ms,⟨m,us,a,c,d,b⟩,i+1=>by subst a;exact⟨m,_,rfl,c,d,MR.erase b i⟩
theorem tR{b c:Type}(f:b->c):∀(l:List b) (i:Nat),(l.eraseIdx i).map f=(l.map f).eraseIdx i
 | [],i=>rfl
 |a::l,0=>rfl
 |a::l,i+1=>congrArg (f a::·) (tR f l i)
theorem qT(l:HR φ H n h0 h){t:TypeId}{m k:AV}{w y:Value}(B:VR φ m w)(c:VR φ k y)(e:Fj P t m k H n=some (r,H',n'))(z:qS φ h0 r H' n' K):ni P t w y h K:=by
 unfold Fj at e;split at e
 ·rename_i b C D E d;obtain⟨p,o,rfl⟩:=B.lR;split at e
  ·rename_i es bs cl q;obtain⟨F,G,A,ms,rfl,g,f⟩:=l.of q o;split at e
   ·rename_i s;obtain⟨u,v,j⟩:=im c es ms.toList 0 none g s;cases u with
    |some x=>exact j.elim
    |none=>
     injection e with e;injection e with e1 e2;injection e2 with e2 e3;subst e1 e2 e3;simp only[ni,vk,A,d,q2e,v,q0h];exact z _ _ _ (PLe.refl _) (l.put q o (show OR φ p (.mp _ _ _) (.map _ cl) from⟨_,rfl,g,f⟩) aa) (.tup .nil)
   ·rename_i i a s;obtain⟨u,v,j⟩:=im c es ms.toList 0 (some (i,a)) g s;cases u with
    |none=>exact j.elim
    |some x=>
     obtain⟨I,J⟩:=x;have:=j.1;subst this;injection e with e;injection e with e1 e2;injection e2 with e2 e3;subst e1 e2 e3;simp only[ni,vk,A,d,q2e,v,q0h];exact z _ _ _ (PLe.refl _) (l.put q o (show OR φ p (.mp _ _ _) (.map _ cl) from⟨_,rfl,g.erase i,by show((ms.toList.eraseIdx i).map λx=>x.born)=_;rw[tR,f]⟩) aa) (.tup .nil)
   ·cases e
  ·cases e
 ·cases e
theorem AT(a:HR φ H n h0 h){t:TypeId}{x:AV}{v:Value}(l:VR φ x v)(e:Fk P t x H n=some (r,H',n'))(i:qS φ h0 r H' n' K):Ax P t v h K:=by
 unfold Fk at e;split at e
 ·rename_i b;obtain⟨p,c,rfl⟩:=l.lR;split at e
  ·rename_i es d f;obtain⟨m,o,g,ms,cl,rfl,j,k,_⟩:=a.of d c;injection e with e;injection e with e1 e2;injection e2 with e2 e3;subst e1 e2 e3;refine⟨f,?_⟩
   (try simp only[g])
   have q:cl=es.length:=k.trans j.length.symm;subst q;have ho:OR (fm φ n ⟨h.n,0,0⟩) ⟨h.n,0,0⟩ (.iter b es.length []) (.mapIter (some p.B) es.length #[] es.length):=⟨rfl,p,a.ple _ _ _ c,rfl⟩;exact i _ (.pointer (some ⟨h.n,0+0,none⟩)) _ (a.ple _) (a.new ho aa) (.ptr (bG _ _ _))
  ·rename_i es bs cl d f;obtain⟨m,o,g,ms,rfl,j,k⟩:=a.of d c;injection e with e;injection e with e1 e2;injection e2 with e2 e3;subst e1 e2 e3;refine⟨f,?_⟩
   (try simp only[g])
   have ho:OR (fm φ n ⟨h.n,0,0⟩) ⟨h.n,0,0⟩ (.iter b cl []) (.mapIter (some p.B) cl #[] cl):=⟨rfl,p,a.ple _ _ _ c,rfl⟩;exact i _ (.pointer (some ⟨h.n,0+0,none⟩)) _ (a.ple _) (a.new ho aa) (.ptr (bG _ _ _))
  ·cases e
 ·cases e
end
def COk(P:Program)(f:FuncId)(g:List AV->AH->Nat->AR):Prop:=∀(args:List AV) (H:AH) (n:Nat) (v:AV) (H':AH) (n':Nat),g args H n=some (v,H',n')->
 ∀(φ:Ph) (h0 h:Hp) (a:Array Value) (K:KH),HR φ H n h0 h->VRs φ args a.toList->qS φ h0 v H' n' K->dI P f a h K
section
variable {P:Program} {call:AC} {φ:Ph} {H H':AH} {n n':Nat} {h0 h:Hp} {K:KH} {σ:AE} {ρ:Env} {r:AV}
theorem CQ(A:∀f,COk P f (call f))(d:HR φ H n h0 h)(i:FR φ σ ρ){o:Op}(e:G5 P call o σ H n=some (r,H',n'))(k:qS φ h0 r H' n' K):bK P o ρ h K:=by
 have quiet:∀{o:Op},bV o=false->(match rS P o σ H with
  |some v=>some (v,H,n)
  |none=>none)=some (r,H',n')->bK P o ρ h K:=λ{o} J e=>by
  unfold bK;rw[J];simp only[q2b,if_false];split at e
  ·rename_i v L;injection e with e;injection e with p j;injection j with j e3;subst p j e3;exact uJ d i L λu V=>k φ u h (PLe.refl _) d V
  ·cases e
 unfold G5 at e;split at e
 ·rename_i el;split at e
  ·rename_i z W;show qI P el h K;unfold qI
   (try simp only[W])
   exact wC d (mH φ z) e k
  ·cases e
 ·rename_i el x;split at e
  ·rename_i X;show Jc el (ρ.ev x).cells h K;exact wC d ((i.ev x).cells X) e k
  ·cases e
 ·rename_i t len parts;split at e
  ·rename_i l J;obtain⟨el,C,m,w⟩:=AS i J;injection e with e;injection e with p j;injection j with j e3;subst p j e3
   show(match dX P t len (parts.toList.map λx=>(x.1,ρ.ev x.2))with
    |some (e,r)=>K (.slice (some ⟨h.n,0,none⟩) len len) ((h.put h.n (.cells r e (0,0))).to (h.n+1))
    |none=>False)
   rw[m];have Y:l.length=C.size:=by simpa using w.length
   have ho:OR (fm φ n ⟨h.n,0,C.size⟩) ⟨h.n,0,C.size⟩ (.cells l true) (.cells C el (0,0)):=
    ⟨C,el,(0,0),rfl,by simp only;omega,by simp only;omega,jh _ _,λ_=>rfl,CR.mono (d.ple _) (CR.of' w)⟩
   exact k _ (.slice (some ⟨h.n,0+0,none⟩) len len) _ (d.ple _) (d.new ho aa) (.sl (bG _ _ _) (λ_=>rfl) (λq=>(q rfl).elim))
  ·cases e
 ·exact rV d (i.ev _) (i.ev _) e k
 ·exact oN d (i.ev _) e k
 ·exact oO d (i.ev _) (i.ev _) e k
 ·rename_i t;injection e with e;injection e with p j;injection j with j e3;subst p j e3;show K (.map (some h.n)) ((h.put h.n (.map #[] 0)).to (h.n+1));have ho:OR (fm φ n ⟨h.n,0,0⟩) ⟨h.n,0,0⟩ (.map []) (.map #[] 0):=⟨#[],0,rfl,rfl,.nil⟩;exact k _ _ _ (d.ple _) (d.new ho aa) (.map (bG _ _ _))
 ·exact jD d (i.ev _) (i.ev _) (i.ev _) e k
 ·exact jD d (i.ev _) (i.ev _) (i.ev _) e k
 ·exact AT d (i.ev _) e k
 ·rename_i c;have hm:=VRs.map i.ev c.args.toList;obtain⟨callee,args,B⟩:=c;dsimp only at e hm;split at e
  ·rename_i f;have D:=i.ev f;split at e
   ·rename_i g a cs q;rw[q]at D;obtain⟨Z,c',L,m,w⟩:=D.nu;show yV P (ρ.ev f) (args.map ρ.ev) h K;rw[L];show dI P g (Z++args.map ρ.ev++c') h K;refine A g _ _ _ _ _ _ e φ h0 h _ K d ?_ k;rw[q3v,q3v,q3y];exact(m.append hm).append w
   ·cases e
  ·show iR P .append B.toList (args.toList.map ρ.ev) h K;split at e
   ·rename_i t u s x p j;rw[j]at hm;obtain⟨T,us,m,w,E⟩:=hm.cons_inv;obtain⟨U,ws,F,G,I⟩:=E.cons_inv;rw[F,I.aU]at m;rw[p,m];exact mj d w G e k
   ·cases e
  ·show iR P .copy B.toList (args.toList.map ρ.ev) h K;split at e
   ·rename_i t u s x p j;rw[j]at hm;obtain⟨T,us,m,w,E⟩:=hm.cons_inv;obtain⟨U,ws,F,G,I⟩:=E.cons_inv;rw[F,I.aU]at m;rw[p,m];exact oP d w G e k
   ·cases e
  ·show iR P .delete B.toList (args.toList.map ρ.ev) h K;split at e
   ·rename_i t u s x p j;rw[j]at hm;obtain⟨T,us,m,w,E⟩:=hm.cons_inv;obtain⟨U,ws,F,G,I⟩:=E.cons_inv;rw[F,I.aU]at m;rw[p,m];exact qT d w G e k
   ·cases e
  ·rename_i M N O Q;cases callee with
   |value f=>exact(M f rfl).elim
   |invoke _ _=>exact quiet rfl e
   |builtin b=>cases b<;>first|exact quiet rfl e|exact(N rfl).elim|exact(O rfl).elim|exact(Q rfl).elim
 ·rename_i M N O Q q5 q6 q7 q8 q9 R S;cases o
  case alloc=>exact(M _ rfl).elim
  case box=>exact(N _ _ rfl).elim
  case buildSlice=>exact(O _ _ _ rfl).elim
  case store=>exact(Q _ _ _ rfl).elim
  case convert=>exact(q5 _ _ _ rfl).elim
  case makeSlice=>exact(q6 _ _ _ rfl).elim
  case mapUpdate=>exact(q8 _ _ _ _ rfl).elim
  case insert=>exact(q9 _ _ _ _ rfl).elim
  case range=>exact(R _ _ rfl).elim
  case next=>simp only[rS]at e;cases e
  case call=>exact(S _ rfl).elim
  case makeMap t x=>
   cases x with
   |none=>exact(q7 _ rfl).elim
   |some y=>simp only[rS]at e;cases e
  all_goals exact quiet rfl e
end
section
variable {P:Program} {call:AC} {φ:Ph} {H H':AH} {n n':Nat} {h0 h:Hp} {σ:AE} {ρ:Env}
def ki(ops:Array Oper)(j:Nat):Option Nat:=(ops[j]?).bind (·.dst)
def jZ (ops:Array Oper) (val:Nat->AV) (σ:AE) (L:Nat->Bool):Nat->Nat->Option AV
 |0,t=>σ.get t
 |k+1,t=>if L k=true/\ki ops k=some t then some (val k)else jZ ops val σ L k t
theorem jm{ops:Array Oper}{val:Nat->AV}{L a:Nat->Bool}{t:Nat}:∀k,(∀j,j<k->ki ops j=some t->L j=a j)->jZ ops val σ L k t=jZ ops val σ a k t
 |0,_=>rfl
 |k+1,h=>by
  (try simp only[jZ])
  rw[jm k λj b=>h j (by omega)];by_cases hd:ki ops k=some t
  ·rw[h k (by omega) hd]
  ·rw[if_neg (λq=>hd q.2),if_neg (λq=>hd q.2)]
theorem wD{ops:Array Oper}{val:Nat->AV}{i t:Nat}:∀k,i<=k->jZ ops val σ (λj=>decide (j<i)) k t=jZ ops val σ (λ_=>true) i t
 |0,h=>by
  have:i=0:=by omega
  subst this;rfl
 |k+1,h=>by
  by_cases a:i=k+1
  ·subst a;exact jm (k+1) λj b _=>by simp[b]
  ·(try simp only[jZ])
   rw[if_neg (by simp;omega)];exact wD k (by omega)
theorem CS{ops:Array Oper}{val:Nat->AV}{L c:Nat->Bool}{i t:Nat}(a:∀j,j≠i->c j=L j)(hi:c i=true):∀k,i<k->(∀j,i<j->j<k->ki ops i=some t->ki ops j=some t->L j=false)->
 jZ ops val σ c k t=if ki ops i=some t then some (val i)else jZ ops val σ L k t
 |0,h,_=>by omega
 |k+1,h,d=>by
  (try simp only[jZ])
  by_cases e:k=i
  ·subst e;by_cases hd:ki ops k=some t
   ·rw[if_pos ⟨hi,hd⟩,if_pos hd]
   ·rw[if_neg (λq=>hd q.2),if_neg hd,if_neg (λq=>hd q.2)];exact jm k λj l _=>a j (by omega)
  ·have f:jZ ops val σ c k t=if ki ops i=some t then some (val i)else jZ ops val σ L k t:=CS a hi k (by omega) λj g m=>d j g (by omega)
   rw[a k e,f];by_cases hd:ki ops i=some t
   ·by_cases b:ki ops k=some t
    ·have:=d k (by omega) (by omega) hd b;rw[this];simp
    ·rw[if_neg (λq=>b q.2),if_pos hd];simp[hd]
   ·rw[if_neg hd,if_neg hd]
end
section
variable {P:Program} {call:AC} {φ:Ph} {H H':AH} {n n':Nat} {h0 h:Hp} {K:KH} {σ:AE} {ρ:Env} {r:AV}
theorem least{p:Nat->Prop}:∀n,p n->∃m,p m/\∀k,p k->m<=k:=by
 intro n
 induction n using Nat.strongRecOn with
 |_ n c=>
  intro d;by_cases h:∃k,k<n/\p k
  ·obtain⟨k,a,e⟩:=h;exact c k a e
  ·exact⟨n,d,λk a=>q3l λb=>h ⟨k,b,a⟩⟩
theorem wE:∀(l:List AV) (k:Nat) (σ:AE) (t:Nat) (a:AV),(wq l k σ).get t=some a->(k<=t/\l[t-k]?=some a)∨σ.get t=some a
 | [],k,σ,t,a,e=> .inr e
 |v::l,k,σ,t,a,e=>by
  rcases wE l (k+1) _ t a e with⟨c,b⟩|h
  ·refine .inl ⟨by omega,?_⟩;obtain⟨d,rfl⟩:∃d,t=k+1+d:=⟨t-(k+1),by omega⟩;rw[show k+1+d-(k+1)=d from by omega]at b;rw[show k+1+d-k=d+1 from by omega];simpa using b
  ·rcases PM.ak eR σ k t a h with⟨rfl,b⟩|⟨_,b⟩
   ·exact .inl ⟨Z6 _,by simpa using b⟩
   ·exact .inr b
theorem CT{args:List AV}{c:Array Value}(h:VRs φ args c.toList):FR φ (wq args 0 .nil) (iS c.toList 0):=λt a e=>by
 rcases wE args 0 .nil t a e with⟨_,b⟩|b
 ·obtain⟨v,d,f⟩:=h.at b;rw[oG,if_pos (Y5 _)];rw[q3i]at d⊢;rw[d];exact f
 ·cases b
theorem CU{c:List AV}{us:List Value}(h:VRs φ c us):VR φ (y8 c) (CE us):=by
 match c,us,h with
 | [],us,h=>rw[h.aU];exact .tup (cs:= #[]) .nil
 | [a],us,h=>
  obtain⟨v,ws,rfl,f,d⟩:=h.cons_inv;rw[d.aU];exact f
 |a::b::l,us,h=>
  obtain⟨v,ws,h0,f,d⟩:=h.cons_inv;obtain⟨g,e,i,j,k⟩:=d.cons_inv;subst h0 i;exact .tup (cs:=(v::g::e).toArray) (by simpa using h)
def Jy(P:Program)(f:FuncId):Bool:=bR P f&&(match P.funcs[f]? with
 |some fn=>(match fn.body with
  |some c=>(aL c).all λt=>decide (t<fn.ntmps)
  |none=>false)
 |none=>false)
end
end Go.Proofs.YtflehenfikoniaaGreat
namespace Go.Proofs.YtflehenfikoniaaGreat
open Go Go.RowKit
def ik(w:World):Hp:=⟨λb=>w.heap[b]?,w.heap.size⟩
theorem Fs(w:World):Is w (ik w):=⟨rfl,λ_ _ h=>h⟩
open Go.ChangeShapes Go.WideShapes Go.ChangeAt
section
variable {H:Type} {enc:TypeId×Value->H} {P:Program} {W W':World}
theorem ze(l:laidOutB P=true)(m:Below W.heap.size W W'):∀(a:List TypeId) (f:List Value) (ds:List (DataW H)) (c:List MemPlace),(a.all λt=>P.readableRec t&&decide (t<P.types.size))=true->
 DataW.TrodAll enc P W 0 (λ_=>true) true a f ds c->(∀x∈c,x.block<W.heap.size)->DataW.TrodAll enc P W' 0 (λb=>decide (b<W.heap.size)) true a f ds c
 | [],f,ds,c,_,h,_=>by
  obtain⟨rfl,rfl,rfl⟩:=trodAll_nil h;exact h
 |t::a,f,ds,c,g,h,e=>by
  obtain⟨v,i,d,j,p,q,rfl,rfl,rfl,n,o⟩:=trodAll_cons h;simp only[q1x,Z7,decide_eq_true_eq]at g;exact trodAll_cons_mk (Below.trod l g.1.1 g.1.2 n m λx k=>e x (q2d _ k)) (ze l m a i j q g.2 o λx k=>e x (q4f _ k))
theorem LP {f:Func} {s:ChangeSpec} {apart fresh handsOn:Bool} {args:Array Value} {ds gs:List (DataW H)} {before:List MemPlace} {h:TypeId} (j:laidOutB P=true)
 (l:(f.params.toList.all λt=>P.readableRec t&&decide (t<P.types.size))=true) (b:f.resultTypes= #[h]) (c:P.underlying h=some .bool) (hv:s.vars=[])
 (a:s.fn H (ds++gs)={results:=[.lit (.bool true)],args:=ds}) (d:DataW.Whole enc P f.params.toList s.vars apart W args.toList ds gs before) (i:Below W.heap.size W W'):
 s.post enc P f apart fresh handsOn false W args (.bool true) W':=by
 have e:=d.lt;have g:=d;obtain⟨p,q,m,o,rfl,_,_⟩:=g;refine⟨ds,gs,p++q,[],p,[],d,?_,?_,?_,i.frame _,λk=>by cases k⟩
 ·rw[a,b];exact trodAll_mk1 (shut_bool c true)
 ·rw[a];exact ze j i _ _ _ _ l m λx n=>e x (q2d _ n)
 ·rw[a,hv];rfl
end
end Go.Proofs.YtflehenfikoniaaGreat
namespace Go.Proofs.YtflehenfikoniaaGreat
open Go Go.RowKit
def LQ (k j:IntKind):Bool:=IntKind.rec (IntKind.rec true false false false false false false false j) (IntKind.rec false true false false false false false false j) (IntKind.rec false false true false false false false false j) (IntKind.rec false false false true false false false false j)
 (IntKind.rec false false false false true false false false j) (IntKind.rec false false false false false true false false j) (IntKind.rec false false false false false false true false j) (IntKind.rec false false false false false false false true j) k
def ltq (a b:Int):Bool:=Int.rec (λm=>Int.rec (λn=>Nat.blt m n) (λ_=>false) b) (λm=>Int.rec (λ_=>true) (λn=>Nat.blt n m) b) a
def eqq (a b:Int):Bool:=Int.rec (λm=>Int.rec (λn=>Nat.beq m n) (λ_=>false) b) (λm=>Int.rec (λ_=>false) (λn=>Nat.beq m n) b) a
def LR:AC:=λ_ _ _ _=>none
noncomputable def R3 (f:FuncId):Bool:=bR Tryz.prog f&&(match Tryz.prog.funcs[f]? with
 |some fn=>(match fn.body with
  |some c=>(aL c).all λt=>decide (t<fn.ntmps)
  |none=>false)
 |none=>false)
section
variable {r:AV×AH×Nat} {σ:AE} {H:AH} {n:Nat}
theorem LS(k j:IntKind):LQ k j=decide (k=j):=by cases k<;>cases j<;>rfl
theorem LU(a b:Int):ltq a b=decide (a<b):=by
 cases a with
 |ofNat m=>
  cases b with
  |ofNat n=>
   show Nat.blt m n=_;rw[q2r,q2q,decide_eq_true_eq];simp only[q1y];omega
  |negSucc n=>
   show false=_;symm;rw[decide_eq_false_iff_not];simp only[q1y,q4n];omega
 |negSucc m=>
  cases b with
  |ofNat n=>
   show true=_;symm;rw[decide_eq_true_eq];simp only[q1y,q4n];omega
  |negSucc n=>
   show Nat.blt n m=_;rw[q2r,q2q,decide_eq_true_eq];simp only[q4n];omega
theorem LV(a b:Int):eqq a b=decide (a=b):=by
 cases a with
 |ofNat m=>
  cases b with
  |ofNat n=>
   show Nat.beq m n=_;rw[q2r,Nat.beq_eq,decide_eq_true_eq];simp only[q1y];omega
  |negSucc n=>
   show false=_;symm;rw[decide_eq_false_iff_not];simp only[q1y,q4n];omega
 |negSucc m=>
  cases b with
  |ofNat n=>
   show false=_;symm;rw[decide_eq_false_iff_not];simp only[q1y,q4n];omega
  |negSucc n=>
   show Nat.beq m n=_;rw[q2r,Nat.beq_eq,decide_eq_true_eq];simp only[q4n];omega
end
theorem HR.grow{φ:Ph}{H:AH}{n:Nat}{k h g:Hp}(a:HR φ H n k h)(d:∀b o,h.f b=some o->g.f b=some o)(hn:h.n<=g.n):HR φ H n k g:=
 ⟨λb p e=>⟨(a.dom b p e).1,q0y (a.dom b p e).2 hn⟩,λb o e=>
  (a.live b o e).imp id λ⟨p,l,i,m,r,s⟩=>⟨p,l,i,m,d _ _ r,s⟩,a.inj,λb o e=>⟨q0y (a.base b o e).1 hn,d _ _ (a.base b o e).2⟩,Y7 a.size hn,λq j=>⟨⟨(a.frz q j).1.1.grow hn (by obtain⟨_,c,t,fz,i,_⟩:=(a.frz q j).1.1;rw[i,d _ _ i]),(a.frz q j).1.2⟩,(a.frz q j).2⟩,a.dQ hn (λ_ _ h=>⟨h,rfl⟩) (λ_ h=>h) (λ_ h=> .inl h) (λx Q B u v=>by obtain⟨o,ho⟩:=Q.ex _ _ _ B (a.sep x Q u).1 v;rw[ho,d _ _ ho]) λw y z A C D=> .inl ⟨w,y,z,A,C,D,rfl⟩⟩
theorem gj{h:Hp}(a:Wf h):HR Ph.no .nil 0 h h:=
 ⟨λ_ _ k=>(by cases k),λ_ _ k=>(by cases k),λ_ _ _ _ _ _ k=>(by cases k),λb o k=>⟨a b o k,k⟩,Z6 _,λ_ k=>k.elim,λ_ _ k=>by cases k⟩
section
variable {P:Program} {ops:Array Oper}
theorem LW{m i:Nat}{o:Oper}(h:(ops.extract 0 m)[i]?=some o):i<m/\ops[i]?=some o:=by
 rw[Array.getElem?_extract]at h;split at h
 ·rename_i q;exact⟨by omega,by simpa using h⟩
 ·cases h
theorem S2{m i:Nat}{o:Oper}(hi:i<m)(h:ops[i]?=some o):(ops.extract 0 m)[i]?=some o:=by
 have:=(q0f.1 h).1;rw[Array.getElem?_extract,if_pos (by omega)];simpa using h
theorem Jz{m:Nat}{o:Oper}{b:Env}{h:Hp}{K:Env->Hp->Prop}(k:bf P (ops.extract 0 m) o b h K):bf P ops o b h K:=by
 unfold bf at k⊢;split
 ·rename_i e;rw[e]at k;exact k
 ·rename_i j want e;rw[e]at k;dsimp only at k⊢;cases a:jI (ops.extract 0 m) j with
  |none=>rw[a]at k;exact k.elim
  |some t=>
   have:jI ops j=some t:=by
    unfold jI at a⊢;cases ho:(ops.extract 0 m)[j]? with
    |none=>rw[ho]at a;cases a
    |some c=>rw[ho]at a;rw[(LW ho).2];exact a
   rw[a]at k;rw[this];exact k
theorem CV{l:Array Bool}{i j:Nat}(hi:i<l.size):(l.setIfInBounds i true).getD j false=if j=i then true else l.getD j false:=by
 rw[q2k,q2k,Array.getElem?_setIfInBounds];by_cases e:j=i
 ·subst e;simp[hi]
 ·rw[if_neg e,if_neg (Ne.symm e)]
theorem LX {m:Nat} (hm:m<=ops.size) {f:Env} {h:Hp} {N N':Env->Hp->Prop} (M:kz ops=true)
 (Y:∀i,m<=i->i<ops.size->∀a:Array Bool,Down ops a->(∀o,ops[i]?=some o->∀e∈o.after,Region.binds .any e=true->a.getD e.on false=true)->∀j,j<i->a.getD j false=true)
 (hp:CB P (ops.extract 0 m) f h N') (Z:∀f h,N' f h->lb P ops (ops.toList.drop m) f h N):CB P ops f h N:=by
 obtain⟨_,I,h0,hs,O⟩:=hp;have B:(ops.extract 0 m).size=m:=by rw[Array.size_extract];omega
 rw[B]at h0 hs O
 have tail:∀(k:Nat) (a:Array Bool) (i:Nat) (o:Oper) (f:Env) (h:Hp),m<=k->ops[i]?=some o->a.size=ops.size->(∀j,j<ops.size->(a.getD j false=true<->j<k))->a.getD i false=false->Down ops a->
  (∀e∈o.after,Region.binds .any e=true->a.getD e.on false=true)->lb P ops (ops.toList.drop k) f h N->
  i=k/\bf P ops o f h λQ J=>lb P ops (ops.toList.drop (k+1)) Q J N:=λk a i o f h u ho t g p r c w=>by
  have K:i<ops.size:=(q0f.1 ho).1
  have R:k<=i:=by
   refine q3l λq=>?_
   rw[(g i K).2 q]at p;cases p
  have b:=Y i (by omega) K a r (λS d e x y=>by rw[ho]at d;injection d with d;subst d;exact c e x y)
  have T:i=k:=by
   refine Nat.le_antisymm (q3l λq=>?_) R;have:=(g k (by omega)).1 (b k q);omega
  subst T;refine⟨rfl,?_⟩
  have e:ops.toList.drop i=o::ops.toList.drop (i+1):=by
   have h2:ops.toList[i]?=some o:=by simpa using ho
   obtain⟨h3,h4⟩:=Y6.1 h2;rw[q0j h3,h4]
  rw[e]at w;exact lf w
 refine⟨M,λa f h=>(∃s:Array Bool,s.size=m/\(∀j,j<m->s.getD j false=a.getD j false)/\(∀j,m<=j->a.getD j false=false)/\I s f h)∨
  ∃k,m<=k/\k<=ops.size/\(∀j,j<ops.size->(a.getD j false=true<->j<k))/\lb P ops (ops.toList.drop k) f h N,?_,?_,?_⟩
 ·refine .inl ⟨Array.replicate m false,by simp,λj _=>?_,λj _=>?_,h0⟩
  ·simp[Array.getD]
  ·simp[Array.getD]
 ·intro a i o f h t r ho p c U hw;have K:i<ops.size:=(q0f.1 ho).1;have ym:∀j,(a.setIfInBounds i true).getD j false=if j=i then true else a.getD j false:=λj=>CV (by omega)
  rcases U with⟨s,C,g,l,L⟩|⟨k,u,D,g,w⟩
  ·by_cases E:i<m
   ·have hds:Down (ops.extract 0 m) s:=λj S d n e x y=>by
     obtain⟨V,W⟩:=LW d;rw[g j V]at n;have z:=r j S W n e x y
     have A:e.on<m:=by
      refine Nat.lt_of_not_le λq=>?_
      rw[l e.on q]at z;cases z
     rw[g e.on A];exact z
    have F:=hs s i o f h C hds (S2 E ho) (by rw[g i E];exact p) (λe x y=>by
     have z:=c e x y
     have A:e.on<m:=by
      refine Nat.lt_of_not_le λq=>?_
      rw[l e.on q]at z;cases z
     rw[g e.on A];exact z) L hw
    refine fv (λv J u=> .inl ⟨s.setIfInBounds i true,by simpa using C,λj n=>?_,λj n=>?_,u⟩) (Jz F)
    ·rw[ym,CV (by omega),g j n]
    ·rw[ym,if_neg (by omega)];exact l j n
   ·have b:=Y i (by omega) K a r (λS d e x y=>by rw[ho]at d;injection d with d;subst d;exact c e x y);have G:lb P ops (ops.toList.drop m) f h N:=Z f h (O s f h C (λj n=>by rw[g j n];exact b j (by omega)) L);obtain⟨e,F⟩:=tail m a i o f h (Z6 _) ho t (λj n=>⟨λq=>Nat.lt_of_not_le λq2=>(by rw[l j q2]at q;cases q),λq=>b j (by omega)⟩) p r c G;refine fv (λv J u=> .inr ⟨m+1,by omega,by omega,λj n=>?_,u⟩) F;rw[ym];by_cases H:j=i
    ·rw[if_pos H];simp;omega
    ·rw[if_neg H];refine⟨λq=>?_,λq=>b j (by omega)⟩;refine Nat.lt_of_not_le λq2=>?_
     rw[l j (by omega)]at q;cases q
  ·obtain⟨e,F⟩:=tail k a i o f h u ho t g p r c w;refine fv (λv J X=> .inr ⟨k+1,by omega,by omega,λj n=>?_,X⟩) F;rw[ym];by_cases H:j=i
   ·rw[if_pos H];simp;omega
   ·rw[if_neg H,g j n];omega
 ·intro a f h t b U;rcases U with⟨s,C,g,l,L⟩|⟨k,u,D,g,w⟩
  ·have hms:m=ops.size:=by
    refine Nat.le_antisymm hm (q3l λq=>?_);have:=l m (Z6 _);rw[b m q]at this;cases this
   have:=Z f h (O s f h C (λj n=>by rw[g j n];exact b j (by omega)) L);rw[q3k (by simp;omega)]at this;exact this
  ·have hks2:k=ops.size:=by
    refine Nat.le_antisymm D (q3l λq=>?_);have:=(g k q).1 (b k q);omega
   rw[q3k (by simp;omega)]at w;exact w
def JA(ops:Array Oper)(m:Nat):Array Oper:=⟨ops.toList.take m⟩
theorem Pt(ops:Array Oper)(m:Nat):JA ops m=ops.extract 0 m:=by
 apply q2w;simp[JA]
end
abbrev PK:=AV->AH->Nat->Prop
abbrev CP:=FuncId->List AV->AH->Nat->PK->Prop
abbrev KP:=AE->AH->Nat->Prop
def cx{b:Type}(o:Option b)(k:b->Prop):Prop:=match o with
 |some a=>k a
 |none=>False
def fo(b:Bool)(t e:Prop):Prop:=match b with
 |true=>t
 |false=>e
def cD(φ:Ph)(b:Hp)(κ:PK)(K:KH):Prop:=∀(a:Ph) (v:AV) (H:AH) (n:Nat) (u:Value) (g:Hp),PLe φ a->HR a H n b g->VR a v u->κ v H n->K u g
def Pu(y:Nat)(run:List AV->AH->Nat->PK->Prop):Prop:=∀(args:List AV) (H:AH) (n:Nat) (b:PK),run args H n b->∀(a:Ph) (c h:Hp) (d:Array Value) (K:KH),HR a H n c h->VRs a args d.toList->cD a c b K->tE Tryz.prog y d h K
inductive Yld(y:Nat)(args:List AV)(H:AH)(n:Nat)(κ:PK):Prop where
 |mk (run:List AV->AH->Nat->PK->Prop) (ok:Pu y run) (h:run args H n κ)
def LY(v:AV):Option Nat:=match v with
 | .any (.func (.yield y) ⟨[]⟩ ⟨[]⟩)=>some y
 |_=>none
def yOr(o:Option (Nat×List AV))(A:Nat->List AV->Prop)(B:Prop):Prop:=match o with
 |some (y,xs)=>A y xs
 |none=>B
structure ah(b:Bool)(A B:Prop):Prop where
 t:b=true->A
 f:b=false->B
theorem ah.dec{p:Prop} [Decidable p]{A B:Prop}(t:p->A)(f:¬p->B):ah (decide p) A B:=⟨λh=>t (of_decide_eq_true h),λh=>f (of_decide_eq_false h)⟩
theorem ah.di{p:Prop} [Decidable p]{A B:Prop}(t:¬p->A)(f:p->B):ah (!decide p) A B:=⟨λh=>t (by simpa using h),λh=>f (by simpa using h)⟩
inductive Ask{α:Type}(o:Option α)(κ:α->Prop):Prop where
 |mk (a:α) (h:o=some a) (k:κ a)
inductive Idx(i:Int)(len:Nat)(κ:Nat->Prop):Prop where
 |mk (j:Nat) (h:i=(j:Int)) (lt:j<len) (k:κ j)
def hd:AV->AV
 | .si k n=> .int k n
 | .sb b=> .bool b
 | .ss s=> .str s
 | .sy b o n c k=> .sl b o n c k
 |v=>v
def mk:AV->AV
 | .int k n=> .si k n
 | .bool b=> .sb b
 | .str s=> .ss s
 | .sl b o n c k=> .sy b o n c k
 |v=>v
def isS:AV->Bool
 | .si _ _=>true
 | .sb _=>true
 | .ss _=>true
 | .sy _ _ _ _ _=>true
 |_=>false
def hdK:AV->AV
 | .agg l=> .agg (l.map hd)
 |v=>hd v
def JB:AV->Bool
 | .agg l=>l.any isS
 |v=>isS v
theorem ah.sb{A B:Prop}{b:Bool}(t:b=true->A)(f:b=false->B):ah b A B:=⟨t,f⟩
theorem ah.nsb{A B:Prop}{b:Bool}(t:b=false->A)(f:b=true->B):ah (!b) A B:=⟨λh=>t (by simpa using h),λh=>f (by simpa using h)⟩
def JC(op:BinOp)(k j:IntKind)(a b:Int)(c:Bool)(κ:AV->Prop):Prop:=match op with
 | .shl=>(match c with
  |true=>fo (ltq b 0) False (κ (.si k (k.wrap (a*2^min b.toNat k.bits))))
  |false=>0<=b/\κ (.si k (k.wrap (a*2^min b.toNat k.bits))))
 | .shr=>(match c with
  |true=>fo (ltq b 0) False (κ (.si k (a.fdiv (2^min b.toNat k.bits))))
  |false=>0<=b/\κ (.si k (a.fdiv (2^min b.toNat k.bits))))
 |op=>fo (LQ k j) (match op with
  | .add=>κ (.si k (k.wrap (a+b)))
  | .sub=>κ (.si k (k.wrap (a-b)))
  | .mul=>κ (.si k (k.wrap (a*b)))
  | .quo=>(match c with
   |true=>fo (eqq b 0) False (κ (.si k (k.wrap (a.tdiv b))))
   |false=>b≠0/\κ (.si k (k.wrap (a.tdiv b))))
  | .rem=>(match c with
   |true=>fo (eqq b 0) False (κ (.si k (a.tmod b)))
   |false=>b≠0/\κ (.si k (a.tmod b)))
  | .and=>κ (.si k (cf .and k a b))
  | .or=>κ (.si k (cf .or k a b))
  | .xor=>κ (.si k (cf .xor k a b))
  | .andNot=>κ (.si k (cf .andNot k a b))
  | .eql=>κ (.sb (decide (a=b)))
  | .neq=>κ (.sb (!decide (a=b)))
  | .lss=>κ (.sb (decide (a<b)))
  | .leq=>κ (.sb (decide (a<=b)))
  | .gtr=>κ (.sb (decide (b<a)))
  | .geq=>κ (.sb (decide (b<=a)))
  |_=>False) False
def JD(op:BinOp)(a b:List Nat)(κ:AV->Prop):Prop:=match op with
 | .add=>a.length+b.length<=9223372036854775807/\κ (.ss (a++b))
 | .eql=>κ (.sb (dh a b))
 | .neq=>κ (.sb (!dh a b))
 | .lss=>κ (.sb (ltL a b))
 | .leq=>κ (.sb (ltL a b||dh a b))
 | .gtr=>κ (.sb (!(ltL a b||dh a b)))
 | .geq=>κ (.sb (!ltL a b))
 |_=>False
def LZ (op:BinOp) (t:TypeId) (a b:Bool) (κ:AV->Prop):Prop:=fo (vm Tryz.prog t) (match op with
 | .eql=>κ (.sb (a==b))
 | .neq=>κ (.sb (!(a==b)))
 |_=>False) False
def JE (op:BinOp) (t:TypeId) (x y:AV) (H:AH) (κ:AV->Prop):Prop:=match x,y with
 | .int k a,.int j b=>cx (Pp op k j a b) κ
 | .int k a,.si j b=>JC op k j a b false κ
 | .si k a,.int j b=>JC op k j a b true κ
 | .si k a,.si j b=>JC op k j a b false κ
 | .ss a,.ss b=>JD op a b κ
 | .ss a,.str b=>JD op a b κ
 | .str a,.ss b=>JD op a b κ
 | .sb a,.sb b=>LZ op t a b κ
 | .sb a,.bool b=>LZ op t a b κ
 | .bool a,.sb b=>LZ op t a b κ
 | .agg xs,.agg c=>fo (xs.any isS||c.any isS) (cx (yK Tryz.prog op t (.agg (xs.map hd)) (.agg (c.map hd)) H) λv=>κ (mk v)) (cx (yK Tryz.prog op t (.agg xs) (.agg c) H) κ)
 |x,y=>cx (yK Tryz.prog op t x y H) κ
def unP (op:UnOp) (x:AV) (κ:AV->Prop):Prop:=match op,x with
 | .not,.sb b=>κ (.sb (!b))
 | .neg,.si k n=>κ (.si k (k.wrap (0-n)))
 | .xor,.si k n=>κ (.si k (cf .xor k (if k.signed then-1 else k.max) n))
 |op,x=>cx (eun op x) κ
def CW(c:AV)(A B:Prop):Prop:=match c with
 | .bool true=>A
 | .bool false=>B
 | .sb q=>ah q A B
 |_=>False
def pQ(P:Program)(t:TypeId):Option IntKind:=match P.underlying t with
 |some (.int k)=>some k
 |_=>none
def un3 (κ:PK) (r:AV×AH×Nat):Prop:=Prod.rec (λv q=>Prod.rec (λH n=>κ v H n) q) r
def CX (o:Op) (σ:AE) (H:AH) (n:Nat) (κ:PK):Prop:=cx (G5 Tryz.prog LR o σ H n) (un3 κ)
def mmP (mx:Bool) (x y:AV) (κ:AV->Prop):Prop:=match x,y with
 | .si k a,.si _ b=>κ (.si k (if mx then max a b else min a b))
 | .si k a,.int _ b=>κ (.si k (if mx then max a b else min a b))
 | .int k a,.si _ b=>κ (.si k (if mx then max a b else min a b))
 |x,y=>cx (emm mx x y) κ
def JF (t:TypeId) (x:AV) (H:AH) (κ:AV->Prop):Prop:=match x with
 | .ss _=>cx (Ju Tryz.prog t (hd x) H) λv=>κ (mk v)
 | .sy _ _ _ _ _=>cx (Ju Tryz.prog t (hd x) H) λv=>κ (mk v)
 | .rw _ _ n _ _=>fo (wi Tryz.prog t) (κ (.si .i64 n)) False
 | .fr n _ _=>fo (wi Tryz.prog t) (κ (.si .i64 n)) False
 |_=>cx (Ju Tryz.prog t x H) κ
def ixP (ix:AV) (len:Nat) (s:Bool) (κ:Nat->Prop):Prop:=match ix,s with
 | .si _ i,_=>Idx i len κ
 | .int _ i,true=>Idx i len κ
 |_,_=>cx (eix ix len) κ
def jn (t:TypeId) (x ix:AV) (κ:AV->Prop):Prop:=match Tryz.prog.underlying t,x with
 |some (.slice e),.sl b o n _ _=>cx (aE Tryz.prog e) λk=>ixP ix n false λi=>κ (.ptr b (o+i*k))
 |some (.slice e),.sy b o n _ _=>cx (aE Tryz.prog e) λk=>ixP ix n true λi=>κ (.ptr b (o+i*k))
 |some (.slice e),.rw b o n _ _=>cx (aE Tryz.prog e) λk=>ixP ix n true λi=>κ (.ptr b (o+i*k))
 |some (.slice e),.fr n a l=>cx (aE Tryz.prog e) λk=>fo (Nat.beq k a) (ixP ix n true λi=>κ (.fa l (i*k))) False
 |some (.array len e),.ptr b o=>cx (aE Tryz.prog e) λk=>ixP ix len false λi=>κ (.ptr b (o+i*k))
 |_,_=>False
def tS (t:TypeId) (x ix:AV) (κ:AV->Prop):Prop:=match Tryz.prog.underlying t,x with
 |some (.array len e),.agg l=>cx (aE Tryz.prog e) λk=>ixP ix len false λi=>cx (y5 Tryz.prog e l (i*k)) κ
 |some .string,.str s=>ixP ix s.length false λi=>cx (nth s i) λc=>(match ix with
  | .int _ _=>κ (.int .u8 (Int.ofNat c))
  |_=>κ (.si .u8 (Int.ofNat c)))
 |some .string,.ss s=>ixP ix s.length true λi=>Ask (nth s i) λc=>κ (.si .u8 (Int.ofNat c))
 |_,_=>False
def wF (l:List AV) (t:TypeId) (o:Nat) (κ:AV->Prop):Prop:=match nX Tryz.prog t with
 |some false=>cx (nth l o) κ
 |some true=>cx (aE Tryz.prog t) λm=>cx (bq l o m) λr=>κ (.agg r)
 |none=>False
def uK (t:TypeId) (a:AV) (H:AH) (κ:AV->Prop):Prop:=match a with
 | .ptr b o=>(match H.get b with
  |some (.cells l _)=>wF l t o κ
  |some (.ro l)=>wF l t o κ
  |_=>False)
 | .fa l o=>wF l t o κ
 |_=>False
def nC (t:TypeId) (a v:AV) (H:AH) (n:Nat) (κ:PK):Prop:=match a with
 | .ptr b o=>(match H.get b with
  |some (.cells l z)=>cx (aE Tryz.prog t) λs=>fo (Nat.beq v.cells.length s&&(okC v&&v.cells.all oH)) (cx (fA l o v.cells) λc=>κ cg (H.set (some (.cells c z)) aa b) n) False
  |_=>False)
 |_=>False
def mk3 (κ:PK) (r:AV×AH×Nat):Prop:=un3 (λv H n=>κ (mk v) H n) r
def isR:AV->Bool
 | .rw _ _ _ _ _=>true
 | .fr _ _ _=>true
 |_=>false
inductive RSl(lo hi mx:Option AV)(n:Nat)(κ:Nat->Nat->Prop):Prop where
 |mk (l h:Nat) (hl:mC (lo.map hd) 0=some l) (hh:mC (hi.map hd) n=some h) (hm:mx=none∨(hi.isSome=true/\mC (mx.map hd) 0=some h)) (h1:l<=h) (h2:h<=n) (k:κ l h)
def rwO(o k l:Nat):Option AV->Nat
 |none=>o
 |some _=>o+l*k
def rwN(n l h:Nat):Option AV->Option AV->Nat
 |none,none=>n
 |some _,none=>n-l
 |none,some _=>h
 |some _,some _=>h-l
def rwX(x:Nat):Option AV->Option AV->Nat
 |none,_=>x
 |some _,none=>(match x with
  |0=>0
  |1=>0
  |x+2=>x+2)
 |some _,some _=>(match x with
  |4=>4
  |_=>1)
def G7(b o n k x:Nat)(lo hi mx:Option AV)(l h:Nat):AV:= .rw b (rwO o k l lo) (rwN n l h lo hi) k (rwX x hi mx)
def L0 (t:TypeId) (b o n k x:Nat) (lo hi mx:Option AV) (κ:AV->Prop):Prop:=match Tryz.prog.underlying t with
 |some (.slice e)=>cx (aE Tryz.prog e) λes=>fo (Nat.beq es k) (RSl lo hi mx n λl h=>κ (G7 b o n k x lo hi mx l h)) False
 |_=>False
def frL(k:Nat)(L:List AV)(l h:Nat):Option AV->Option AV->List AV
 |none,none=>L
 |some _,none=>L.drop (l*k)
 |none,some _=>L.take (h*k)
 |some _,some _=>(L.drop (l*k)).take ((h-l)*k)
def L1 (t:TypeId) (n k:Nat) (L:List AV) (lo hi:Option AV) (κ:AV->Prop):Prop:=match Tryz.prog.underlying t with
 |some (.slice e)=>cx (aE Tryz.prog e) λes=>fo (Nat.beq es k) (RSl lo hi none n λl h=>κ (.fr (rwN n l h lo hi) k (frL k L l h lo hi))) False
 |_=>False
inductive Nxt(H:AH)(a:AV)(s:Bool)(κ:AV->AH->Prop):Prop where
 |mk (it b m:Nat) (seen:List Nat) (es:List (AV×AV)) (hs:s=false) (ha:a= .ptr it 0) (hi:H.get it=some (.iter b m seen)) (hb:H.get b=some (.map es)) (hm:es.length=m)
  (tc:(∀i,i<m->i∈seen)->κ (.tup [.bool false]) H)
  (step:∀i e,es[i]?=some e->i∉seen->κ (.tup [.bool true,Go.Proofs.YtflehenfikoniaaGreat.mk e.1,e.2]) (H.set (some (.iter b m (seen++ [i]))) aa it))
 |mp (it b m:Nat) (seen:List Nat) (es:List (AV×AV)) (bs:List Nat) (hs:s=false) (ha:a= .ptr it 0) (hi:H.get it=some (.iter b m seen)) (hb:H.get b=some (.mp es bs m)) (hm:∀x∈bs,x<m)
  (tc:(∀x∈bs,x∈seen)->κ (.tup [.bool false]) H)
  (step:∀(i:Nat) e x,es[i]?=some e->bs[i]?=some x->x∉seen->κ (.tup [.bool true,Go.Proofs.YtflehenfikoniaaGreat.mk e.1,e.2]) (H.set (some (.iter b m (seen++ [x]))) aa it))
inductive Ent(H:AH)(a:AV)(κ:AV->Prop):Prop where
 |mk (it b m i:Nat) (seen:List Nat) (es:List (AV×AV)) (e:AV×AV) (ha:a= .ptr it 0) (hi:H.get it=some (.iter b m (seen++ [i]))) (hb:H.get b=some (.map es)) (hm:es.length=m) (he:es[i]?=some e)
  (k:κ (.tup [Go.Proofs.YtflehenfikoniaaGreat.mk e.1,e.2]))
 |mp (it b m i x:Nat) (seen:List Nat) (es:List (AV×AV)) (bs:List Nat) (e:AV×AV) (ha:a= .ptr it 0) (hi:H.get it=some (.iter b m (seen++ [x]))) (hb:H.get b=some (.mp es bs m)) (hnd:bs.Nodup) (hx:bs[i]?=some x) (he:es[i]?=some e)
  (k:κ (.tup [Go.Proofs.YtflehenfikoniaaGreat.mk e.1,e.2]))
inductive AU(H:AH)(k:Nat):AV->Nat->List AV->Prop where
 |rw {b o n k' x:Nat} {l new:List AV} (hb:H.get b=some (.ro l)∨∃z,H.get b=some (.cells l z)) (hs:bq l o (n*k)=some new):AU H k (.rw b o n k' x) n new
 |old {x:AV} {m:Nat} {new:List AV} (e:Pr H k (hd x)=some (m,new)):AU H k x m new
 |fr {n:Nat} {l:List AV}:AU H k (.fr n k l) n l
inductive Pv(H:AH)(k:Nat):AV->Nat->List AV->AH->Bool->Prop where
 |nsl:Pv H k .nsl 0 [] H true
 |rw {b o n:Nat} {l old:List AV} {z:Bool} (hb:H.get b=some (.cells l z)) (hs:bq l o (n*k)=some old):Pv H k (.rw b o n k 0) n old (H.set none aa b) z
 |sl {b o n c:Nat} {l old:List AV} {z:Bool} (hb:H.get b=some (.cells l z)) (hs:bq l o (n*k)=some old) (hn:n<=c) (hc:o+c*k<=l.length):Pv H k (.sl b o n c 0) n old (H.set none aa b) z
structure RTy(t u:TypeId)(k by':Nat):Prop where
 h:∃e ud z,Tryz.prog.underlying t=some (.slice e)/\Tryz.prog.underlying u=some ud/\(∀q,ud≠ .int q)/\aE Tryz.prog e=some k/\kq Tryz.prog e=some by'/\cZ Tryz.prog e=some z/\z.cells.size=k/\0<by'/\0<k
inductive eY(t u:TypeId)(s x:AV)(H:AH)(n:Nat)(κ:PK):Prop where
 |grow (k by' m sn:Nat) (new old:List AV) (G:AH) (z:Bool) (ty:RTy t u k by') (src:AU H k x m new) (hnew:new.length=m*k) (hone:new.all oH=true) (row:Pv H k s sn old G z) (big:(sn+m)*by'<=140737488355328)
  (k':κ (.rw n 0 (sn+m) k 0) (G.set (some (.cells (old++new) z)) aa n) (n+1))
 |exact(k by' m b o sn:Nat) (new old:List AV) (hs:s= .rw b o sn k 1) (ty:RTy t u k by') (src:AU H k x m new) (hnew:new.length=m*k) (hone:new.all oH=true) (hm:m≠0) (row:AU H k s sn old) (big:(sn+m)*by'<=140737488355328)
  (k':κ (.rw n 0 (sn+m) k 0) (H.set (some (.cells (old++new) true)) aa n) (n+1))
 |dQ (k by' b o sn q:Nat) (l:List AV) (z:Bool) (hs:s= .rw b o sn k q) (hq:q≠4) (ty:RTy t u k by') (src:AU H k x 0 []) (hb:H.get b=some (.cells l z)) (k':κ (.rw b o sn k q) H n)
def G8 (t u:TypeId) (s x:AV) (H:AH) (n:Nat) (κ:PK):Prop:=fo (isR s||isR x) (eY t u s x H n κ) (fo (isS s||isS x) (Ask (rT Tryz.prog t u (hd s) (hd x) H n) (mk3 κ)) (cx (rT Tryz.prog t u s x H n) (un3 κ)))
inductive G9(t:TypeId)(s x:AV)(H:AH)(n:Nat)(κ:PK):Prop where
 |mk (k m dn b o c kk bx ox kx qx:Nat) (l lx new l':List AV) (z:Bool) (hs:hd s= .sl b o dn c kk) (hx:x= .rw bx ox m kx qx) (hq:qx≠4) (ty:∃e,Tryz.prog.underlying t=some (.slice e)/\aE Tryz.prog e=some k)
  (hbx:H.get bx=some (.ro lx)∨∃z,H.get bx=some (.cells lx z)) (hsx:bq lx ox (m*k)=some new) (hb:H.get b=some (.cells l z)) (hone:(new.take (min m dn*k)).all oH=true) (hset:fA l o (new.take (min m dn*k))=some l')
  (k':κ (.si .i64 ((min m dn:Nat):Int)) (H.set (some (.cells l' z)) aa b) n)
def R4 (t:TypeId) (s x:AV) (H:AH) (n:Nat) (κ:PK):Prop:=fo (isR x) (G9 t s x H n κ) (fo (isS s||isS x) (Ask (CI Tryz.prog t (hd s) (hd x) H n) (mk3 κ)) (cx (CI Tryz.prog t s x H n) (un3 κ)))
def VL (t:TypeId) (l c:AV) (H:AH) (n:Nat) (κ:PK):Prop:=fo (isS l||isS c) (Ask (wo Tryz.prog t (hd l) (hd c) H n) (mk3 κ)) (cx (wo Tryz.prog t l c H n) (un3 κ))
def iq (t:TypeId) (x:AV) (lo hi mx:Option AV) (κ:AV->Prop):Prop:=match x with
 | .rw b o n k q=>L0 t b o n k q lo hi mx κ
 | .fr n k q=>(match mx with
  |none=>L1 t n k q lo hi κ
  |some _=>False)
 |x=>fo (isS x||(tI lo||(tI hi||tI mx))) (Ask (jk Tryz.prog t (hd x) (lo.map hd) (hi.map hd) (mx.map hd)) λv=>κ (mk v)) (cx (jk Tryz.prog t x lo hi mx) κ)
where tI:Option AV->Bool
 |some v=>isS v
 |none=>false
def uL (c:Call) (call:CP) (σ:AE) (H:AH) (n:Nat) (κ:PK):Prop:=match c.callee with
 | .value f=>(match eev σ f with
  | .fn g a cs=>call g (a++c.args.toList.map (eev σ)++cs) H n κ
  |_=>False)
 | .builtin .len=>(match c.argTypes.toList,c.args.toList.map (eev σ)with
  | [t],[x]=>JF t x H λv=>κ v H n
  |_,_=>False)
 | .builtin .min=>(match c.args.toList.map (eev σ)with
  | [x,y]=>mmP false x y λv=>κ v H n
  | [x,y,z]=>mmP false x y λu=>mmP false u z λv=>κ v H n
  |_=>False)
 | .builtin .max=>(match c.args.toList.map (eev σ)with
  | [x,y]=>mmP true x y λv=>κ v H n
  | [x,y,z]=>mmP true x y λu=>mmP true u z λv=>κ v H n
  |_=>False)
 | .builtin .append=>(match c.argTypes.toList,c.args.toList.map (eev σ)with
  | [t,u],[s,x]=>G8 t u s x H n κ
  |_,_=>False)
 | .builtin .copy=>(match c.argTypes.toList,c.args.toList.map (eev σ)with
  | [t,_],[s,x]=>R4 t s x H n κ
  |_,_=>False)
 | .builtin .delete=>(match c.argTypes.toList,c.args.toList.map (eev σ)with
  | [t,_],[s,x]=>fo (JB x) (Ask (Fj Tryz.prog t s (hdK x) H n) (mk3 κ)) (cx (Fj Tryz.prog t s x H n) (un3 κ))
  |_,_=>False)
 |_=>False
inductive VM(src dst:TypeId)(x:AV)(H:AH)(κ:AV->Prop):Prop where
 |mk (b o n k q:Nat) (l new:List AV) (s:List Nat) (hx:x= .rw b o n k q) (hq:q≠4) (ty:∃e,Tryz.prog.underlying src=some (.slice e)/\Tryz.prog.underlying e=some (.int .u8)/\Tryz.prog.underlying dst=some .string) (hb:H.get b=some (.ro l)∨∃z,H.get b=some (.cells l z)) (hl:bq l o n=some new) (hs:lj new=some s) (k':κ (.ss s))
def R5 (src dst:TypeId) (x:AV) (H:AH) (n:Nat) (κ:PK):Prop:=match x with
 | .si _ a=>(match pQ Tryz.prog src,pQ Tryz.prog dst with
  |some _,some k=>κ (.si k (k.wrap a)) H n
  |_,_=>False)
 | .rw _ _ _ _ _=>VM src dst x H λv=>κ v H n
 |_=>fo (isS x) (Ask (CH Tryz.prog src dst (hd x) H n) (mk3 κ)) (cx (CH Tryz.prog src dst x H n) (un3 κ))
def wG (o:Op) (call:CP) (σ:AE) (H:AH) (n:Nat) (κ:PK):Prop:=match o with
 | .move x=>κ (eev σ x) H n
 | .assign x=>κ (eev σ x) H n
 | .pick c a b=>CW (eev σ c) (κ (eev σ a) H n) (κ (eev σ b) H n)
 | .load t a=>uK t (eev σ a) H λv=>κ v H n
 | .store t a x=>nC t (eev σ a) (eev σ x) H n κ
 | .binOp op t x y _=>JE op t (eev σ x) (eev σ y) H λv=>κ v H n
 | .unOp op _ x=>unP op (eev σ x) λv=>κ v H n
 | .indexAddr t x ix=>jn t (eev σ x) (eev σ ix) λv=>κ v H n
 | .index t x ix=>tS t (eev σ x) (eev σ ix) λv=>κ v H n
 | .slice t x lo e mx=>iq t (eev σ x) (lo.map (eev σ)) (e.map (eev σ)) (mx.map (eev σ)) λv=>κ v H n
 | .makeSlice t l c=>VL t (eev σ l) (eev σ c) H n κ
 | .convert s d x=>R5 s d (eev σ x) H n κ
 | .call c=>uL c call σ H n κ
 | .lookup t m k ok=>fo (JB (eev σ k)) (Ask (jC Tryz.prog t (eev σ m) (hdK (eev σ k)) ok H) λv=>κ v H n) (cx (jC Tryz.prog t (eev σ m) (eev σ k) ok H) λv=>κ v H n)
 | .next it s=>Nxt H (eev σ it) s λv H=>κ v H n
 | .entry it=>Ent H (eev σ it) λv=>κ v H n
 | .mapUpdate t m k x=>fo (JB (eev σ k)) (Ask (lQ Tryz.prog t (eev σ m) (hdK (eev σ k)) (eev σ x) H n) (mk3 κ)) (cx (lQ Tryz.prog t (eev σ m) (eev σ k) (eev σ x) H n) (un3 κ))
 |o=>CX o σ H n κ
def opP (ops:Array Oper) (o:Oper) (call:CP) (σ:AE) (H:AH) (n:Nat) (k:KP):Prop:=match o.guard with
 |none=>wG o.op call σ H n λv H n=>k (cU σ o.dst v) H n
 |some (j,want)=>(match jI ops j with
  |none=>False
  |some t=>(match bj (pa t) σ with
   | .bool q=>(match q==want with
    |true=>wG o.op call σ H n λv H n=>k (cU σ o.dst v) H n
    |false=>k (cU σ o.dst cg) H n)
   | .sb q=>(match want with
    |true=>ah q (wG o.op call (cU σ (some t) (.bool true)) H n λv H n=>k (cU (cU σ (some t) (.bool true)) o.dst v) H n) (k (cU (cU σ (some t) (.bool false)) o.dst cg) H n)
    |false=>ah q (k (cU (cU σ (some t) (.bool true)) o.dst cg) H n) (wG o.op call (cU σ (some t) (.bool false)) H n λv H n=>k (cU (cU σ (some t) (.bool false)) o.dst v) H n))
   | .tup _=>k (cU σ o.dst cg) H n
   |_=>False))
def vd (ops:Array Oper) (l:List Oper):CP->AE->AH->Nat->KP->Prop:=
 List.rec (λ_ a H n k=>k a H n) (λo _ b call a H n k=>opP ops o call a H n λa H n=>b call a H n k) l
def Pw (o:Oper) (σ:AE):Option (Nat×List AV):=match valOf o with
 |some (f,xs)=>(match LY (eev σ f)with
  |some y=>some (y,xs.toList.map (eev σ))
  |none=>none)
 |none=>none
def JG (ops:Array Oper) (l:List Oper):CP->AE->AH->Nat->KP->Prop:=
 List.rec (λ_ a H n k=>k a H n) (λo _ b call a H n k=>yOr (Pw o a) (λy xs=>Yld y xs H n λv H n=>b call (cU a o.dst v) H n k) (opP ops o call a H n λa H n=>b call a H n k)) l
abbrev XP:=CP->AE->AH->Nat->KP->(Nat->KP)->KP->Prop
def S3 (c:Operand) (q:Bool) (σ:AE):AE:=match c with
 | .tmp t=>cU σ (some t) (.bool q)
 |_=>σ
def L2 (c:Operand) (σ:AE) (A B:AE->Prop):Prop:=match eev σ c with
 | .bool true=>A σ
 | .bool false=>B σ
 | .sb q=>ah q (A (S3 c true σ)) (B (S3 c false σ))
 |_=>False
def Cov(p:Nat)(σ:AE)(H:AH)(n:Nat)(s:AE×AH×Nat):Prop:=∀(a:Ph) (d h:Hp) (e:Env),HR a H n d h->FR a σ e->∃c:Ph,((∀b q,b<p->a b=some q->c b=some q)/\(∀q,a.z q->c.z q)/\∀q,c.y q->a.y q)/\HR c s.2.1 s.2.2 d h/\FR c s.1 e
def R6 (k:Nat) (body:AE->AH->Nat->KP->Prop):KP:=Nat.rec (λ_ _ _=>False) (λ_ a b H n=>body b H n a) k
inductive aQ(p:Nat)(body:AE->AH->Nat->KP->Prop)(σ:AE)(H:AH)(n:Nat):Prop where
 |mk (α:Type) (m:Nat) (st:α->AE×AH) (μ:α->Nat) (a0:α) (h0:Cov p σ H n ((st a0).1,(st a0).2,m)) (h:∀a,body (st a).1 (st a).2 m λσ' H' n'=>∃a',μ a'<μ a/\Cov p σ' H' n' ((st a').1,(st a').2,m))
 |roll (k:Nat) (h:R6 k body σ H n)
inductive qz(p:Nat)(A:KP->Prop)(B:KP):Prop where
 |go (h:A B)
 |mk (α:Type) (m:Nat) (st:α->AE×AH) (hA:A λσ H n=>∃a,Cov p σ H n ((st a).1,(st a).2,m)) (hB:∀a,B (st a).1 (st a).2 m)
abbrev DB:=Option Nat×List Nat
abbrev DT:=List (Nat×List DB)
def findD (D:DT) (id:Nat):Option (List DB):=List.rec none (λx _ a=>Bool.rec a (some x.2) (Nat.beq x.1 id)) D
def lk (σ:AE) (a:List Nat):AE:=List.rec .nil (λt _ b=>tG (bj (pa t) σ) (pa t) b) a
def qP (o:Op) (σ:AE) (H:AH) (κ:AV->Prop):Prop:=match o with
 | .move x=>κ (eev σ x)
 | .assign x=>κ (eev σ x)
 | .pick c a b=>CW (eev σ c) (κ (eev σ a)) (κ (eev σ b))
 | .load t a=>uK t (eev σ a) H κ
 | .binOp op t x y _=>JE op t (eev σ x) (eev σ y) H κ
 | .unOp op _ x=>unP op (eev σ x) κ
 | .indexAddr t x ix=>jn t (eev σ x) (eev σ ix) κ
 | .index t x ix=>tS t (eev σ x) (eev σ ix) κ
 | .slice t x lo d mx=>iq t (eev σ x) (lo.map (eev σ)) (d.map (eev σ)) (mx.map (eev σ)) κ
 | .lookup t m k ok=>fo (JB (eev σ k)) (Ask (jC Tryz.prog t (eev σ m) (hdK (eev σ k)) ok H) κ) (cx (jC Tryz.prog t (eev σ m) (eev σ k) ok H) κ)
 | .call ⟨.builtin .len,xs,e⟩=>(match e.toList,xs.toList.map (eev σ)with
  | [t],[x]=>JF t x H κ
  |_,_=>False)
 | .call ⟨.builtin .min,xs,_⟩=>(match xs.toList.map (eev σ)with
  | [x,y]=>mmP false x y κ
  |_=>False)
 | .call ⟨.builtin .max,xs,_⟩=>(match xs.toList.map (eev σ)with
  | [x,y]=>mmP true x y κ
  |_=>False)
 |o=>cx (rS Tryz.prog o σ H) κ
def L3 (ops:Array Oper) (o:Oper) (b:DB) (e:CP) (d:List (AH×Nat)) (σ:AE) (H:AH) (n:Nat) (k:KP):Prop:=
 let go:AE->Prop:=λσ=>(match b.1 with
  |none=>(match o.op with
   | .call c=>uL c e (lk σ b.2) H n λv H n=>k (cU σ o.dst v) H n
   | .store t a x=>nC t (eev (lk σ b.2) a) (eev (lk σ b.2) x) H n λv H n=>k (cU σ o.dst v) H n
   | .buildSlice t len parts=>fo (Nat.blt n 1000000) (match H.get n with
    |none=>CX (.buildSlice t len parts) (lk σ b.2) H n λv H n=>k (cU σ o.dst v) H n
    |some _=>False) False
   |_=>False)
  |some j=>cx (nth ((H,n)::d) j) λr=>qP o.op (lk σ b.2) r.1 λv=>k (cU σ o.dst v) H n)
 match o.guard with
 |none=>go σ
 |some (j,want)=>(match jI ops j with
  |none=>False
  |some t=>(match bj (pa t) σ with
   | .bool q=>(match q==want with
    |true=>go σ
    |false=>k (cU σ o.dst cg) H n)
   | .sb q=>(match want with
    |true=>ah q (go (cU σ (some t) (.bool true))) (k (cU (cU σ (some t) (.bool false)) o.dst cg) H n)
    |false=>ah q (k (cU (cU σ (some t) (.bool true)) o.dst cg) H n) (go (cU σ (some t) (.bool false))))
   | .tup _=>k (cU σ o.dst cg) H n
   |_=>False))
def L4 (ops:Array Oper) (l:List Oper):List DB->CP->List (AH×Nat)->AE->AH->Nat->KP->Prop:=
 List.rec (λ_ _ _ c H n k=>k c H n) (λo _ g bs f a c H n k=>List.rec False (λb d _=>L3 ops o b f a c H n λe h i=>g d f ((H,n)::a) e h i k) bs) l
def L5(A:List Nat)(i:Nat)(o:Oper):Nat:=o.after.toList.foldl (λm e=>if Region.binds .any e&&decide (e.on<i)then m|||(2^e.on|||A.getD e.on 0)else m) 0
def tT:List Oper->Nat->List Nat->List Nat
 | [],_,A=>A
 |o::l,i,A=>tT l (i+1) (A++ [L5 A i o])
def L6(A:List Nat)(ops:Array Oper):Bool:=(List.range ops.size).all λi=>match ops[i]? with
 |some o=>A.getD i 0==L5 A i o
 |none=>true
def tU(A:List Nat)(j i:Nat):Bool:=(A.getD i 0).testBit j
def vo:Op->Bool
 | .call ⟨.value _,_,_⟩=>true
 | .buildSlice _ _ _=>true
 |_=>false
def mn:Op->Bool
 | .store _ _ _=>true
 |_=>false
def AW(ops:Array Oper)(j:Nat):Bool:=match ops[j]? with
 |some o=>bV o.op
 |none=>false
def vp(ops:Array Oper)(o:Oper)(a:List Nat):Bool:=match o.guard with
 |none=>true
 |some (j,_)=>(match jI ops j with
  |some t=>a.contains t
  |none=>true)
def S4(A:List Nat)(ops:Array Oper)(bs:List DB)(i:Nat):Bool:=match ops[i]?,bs[i]? with
 |some o,some b=>b.2.all (λt=>(looks ops o).contains t)&&vp ops o b.2&&(match b.1 with
  |none=>vo o.op||(mn o.op&&(List.range ops.size).all λj=>Nat.beq j i||tU A j i)
  |some k=>!bV o.op&&(decide (k<=i)&&(List.range (i-k)).all λj=>!AW ops j||tU A j i))&&
  (List.range i).all λj=>(match ops[j]? with
   |some a=>a.apart ops o&&(!bV a.op||!bV o.op)
   |none=>true)||tU A j i
 |_,_=>false
def wH(ops:Array Oper)(bs:List DB):Bool:=kz ops&&(L6 (tT ops.toList 0 []) ops&&(List.range ops.size).all (S4 (tT ops.toList 0 []) ops bs))
def lX:List Nat->List (Nat×Nat)
 |a::b::l=>(a,b)::lX l
 |_=> []
def jo:List Nat->Nat->Nat->Bool
 | [],_,_=>false
 |x::c,a,b=>Nat.beq x a||(!Nat.beq x b&&jo c a b)
def L7:Nat->List (List Bool)
 |0=> [[]]
 |m+1=>(L7 m).flatMap λl=> [true::l,false::l]
def okL(P:Program)(ops:Array Oper)(R:List (Nat×Nat)):List Nat->List Nat->Bool
 |_,[]=>true
 |acc,i::l=>acc.all (λj=>n6 P ops j i||(oi ops 6 j i||(R.contains (j,i)||R.contains (i,j))))&&okL P ops R (i::acc) l
def Ha(P:Program)(ops:Array Oper)(R:List (Nat×Nat))(i:Nat):Bool:=match ops[i]? with
 |some o=>(!bV o.op||(tD P o.op||Jr o.op))||R.all λp=>Nat.beq p.1 i||(Nat.beq p.2 i||(oi ops 6 p.1 i||oi ops 6 p.2 i))
 |none=>true
def S5(p:Nat×Nat)(b:Bool):Nat×Nat:=match b with
 |true=>p
 |false=>(p.2,p.1)
def L8(ops:Array Oper):List Nat:=(List.range ops.size).map λi=>(List.range i).foldl (λm j=>bif oi ops 6 j i then m|||2^j else m) 0
def wI(a b c:Nat):List Nat->Nat->List Nat
 | [],_=> []
 |m::l,i=>(bif Nat.beq i b||m.testBit b then m|||(2^a|||c)else m)::wI a b c l (i+1)
def L9(A:List Nat)(x:Nat×Nat):List Nat:=wI x.1 x.2 (A.getD x.1 0) A 0
def Ma(A:List Nat)(W:List (Nat×Nat)):Bool:=(List.range A.length).all λi=>!((W.foldl L9 A).getD i 0).testBit i
def R7(ops:Array Oper)(R:List (Nat×Nat))(os:List Bool):Bool:=Ma (L8 ops) ((R.zip os).map λx=>S5 x.1 x.2)
def Mb(P:Program)(ops:Array Oper)(bs:List DB):Bool:=kz ops&&(match bs with
 | []=>false
 |h::b=>(List.range ops.size).all (Ha P ops (lX h.2))&&((lX h.2).all (λp=>!Nat.beq p.1 p.2)&&(((L7 (lX h.2).length).all λos=>!R7 ops (lX h.2) os||b.any λa=>(lX h.2).map (λp=>jo a.2 p.1 p.2)==os)&&
  b.all λa=>decide (a.2.Nodup)&&(a.2.length==ops.size&&(a.2.all (λi=>decide (i<ops.size))&&okL P ops (lX h.2) [] a.2)))))
def Mc(bs:List DB):Bool:=match bs with
 |(some k,_)::_=>Nat.beq k 1000000
 |_=>false
def zf (l:List Oper) (b:List Nat):List Oper:=List.rec [] (λi _ a=>match nth l i with
 |some o=>o::a
 |none=>a) b
def S6 (ops:Array Oper) (a:List DB) (call:CP) (σ:AE) (H:AH) (n:Nat) (k:KP):Prop:=List.rec True (λb _ c=>vd ops (zf ops.toList b.2) call σ H n k/\c) a
def Ft(ops:Array Oper)(m:Nat):Bool:=kz ops&&(L6 (tT ops.toList 0 []) ops&&(List.range ops.size).all λi=>Nat.blt i m||(List.range i).all λj=>tU (tT ops.toList 0 []) j i)
def Md(bs:List DB):Bool:=match bs with
 |(some k,_)::_=>Nat.beq k 1000001
 |_=>false
def Me (ops:Array Oper) (bs:List DB) (call a:CP) (σ:AE) (H:AH) (n:Nat) (k:KP):Prop:=match Mc bs with
 |true=>S6 ops bs.tail call σ H n k
 |false=>(match Nat.blt bs.length ops.size with
  |true=>L4 (JA ops bs.length) (JA ops bs.length).toList bs a [] σ H n λσ H n=>vd ops (ops.toList.drop bs.length) call σ H n k
  |false=>L4 ops ops.toList bs a [] σ H n k)
def Fu(bs:List DB):Bool:=match bs with
 |(some k,_)::_=>Nat.beq k 1000002
 |_=>false
def zg(p:Nat)(ops:Array Oper)(call:CP)(σ:AE)(H:AH)(n:Nat)(k:KP):Prop:=kz ops=true/\∃J:Array Bool->AE->AH->Nat->Prop,J (Array.replicate ops.size false) σ H n/\
 (∀(l:Array Bool) (i:Nat) (o:Oper) (σ:AE) (H:AH) (n:Nat),l.size=ops.size->Down ops l->ops[i]?=some o->l.getD i false=false->(∀e∈o.after,Region.binds .any e=true->l.getD e.on false=true)->J l σ H n->opP ops o call σ H n λσ H n=>∃s:AE×AH×Nat,Cov p σ H n s/\J (l.setIfInBounds i true) s.1 s.2.1 s.2.2)/\
 (∀(l:Array Bool) (σ:AE) (H:AH) (n:Nat),l.size=ops.size->(∀i,i<ops.size->l.getD i false=true)->J l σ H n->∃s:AE×AH×Nat,Cov p σ H n s/\k s.1 s.2.1 s.2.2)
def Px (p:Nat) (ops:Array Oper) (bs:List DB) (call a:CP) (σ:AE) (H:AH) (n:Nat) (k:KP):Prop:=match Md bs with
 |true=>False
 |false=>(match Fu bs with
  |true=>zg p ops call σ H n k
  |false=>Me ops bs call a σ H n k)
def Hb(P:Program)(ops:Array Oper)(bs:List DB):Bool:=Md bs||(Fu bs||match Mc bs with
 |true=>Mb P ops bs
 |false=>(match Nat.blt bs.length ops.size with
  |true=>wH (JA ops bs.length) bs&&Ft ops bs.length
  |false=>wH ops bs))
def mo (D:DT) (c:Code):Bool:=Code.rec (motive:=λ_=>Bool)
 true
 (λid ops draw=>Bool.rec true (Option.rec (CA Tryz.prog ops) (λbs=>Hb Tryz.prog ops bs) (findD D id)) draw)
 (λ_ _ a b=>Bool.rec false b a)
 (λ_ _ _ a b=>Bool.rec false b a)
 (λ_ _ b=>b)
 (λ_ b=>b)
 (λ_ _ _ _ _ _=>true)
 (λ_=>true)
 (λ_ b=>b)
 (λ_=>true)
 (λ_=>true)
 true
 (λ_=>true) c
def S7 (c:Code):Option Nat:=Code.rec (motive:=λ_=>Option Nat) none (λid _ _=>some id) (λ_ _ a _=>a) (λ_ _ _ _ _=>none) (λ_ _ b=>b) (λ_ b=>b) (λ_ _ _ _ _ _=>none) (λ_=>none) (λ_ b=>b) (λ_=>none) (λ_=>none) none (λ_=>none) c
def Fv (D:DT) (c:Code):Bool:=List.rec false (λx l _=>Option.rec false (λid=>Option.rec false (λ_=>true) (findD (x::l) (id+1000000))) (S7 c)) D
def jL (p:Nat) (f:CP) (D:DT) (c:Code):XP:=Code.rec (motive:=λ_=>XP)
 (λ_ d H n kn _ _=>kn d H n)
 (λid ops draw=>Bool.rec (λcall d H n kn _ _=>JG ops ops.toList call d H n kn) (Option.rec (λcall d H n kn _ _=>vd ops ops.toList call d H n kn) (λbs call d H n kn _ _=>Px p ops bs call f d H n kn) (findD D id)) draw)
 (λ_ g a b call d H n kn kx e=>Bool.rec (a call d H n (λd H n=>b call d H n kn kx e) kx e) (qz p (λk=>a call d H n k kx e) (λd H n=>b call d H n kn kx e)) (Fv D g))
 (λc _ _ a b call d H n kn kx e=>L2 c d (λd=>a call d H n kn kx e) (λd=>b call d H n kn kx e))
 (λid _ b call d H n kn kx e=>b call d H n kn (λi d H n=>fo (Nat.beq i id) (kn d H n) (kx i d H n)) e)
 (λ_ b call d H n _ kx e=>aQ p (λd H n k=>b call d H n k kx e) d H n)
 (λ_ _ _ _ _ _ _ _ _ _ _ _ _=>False)
 (λi _ d H n _ kx _=>kx i d H n)
 (λ_ b call d H n kn kx e=>b call d H n kn kx e)
 (λ_ _ d H n kn _ _=>kn d H n)
 (λ_ _ _ _ _ _ _ _=>False)
 (λ_ d H n _ _ e=>e d H n)
 (λ_ _ _ _ _ _ _ _=>False) c
def CY (rs:List ResultVar) (σ:AE) (H:AH) (k:List AV->Prop):Prop:=
 List.rec (λk=>k []) (λr _ c k=>ResultVar.rec (λt=>c λb=>k (bj (pa t) σ::b)) (λa t=>uK t (bj (pa a) σ) H λv=>c λb=>k (v::b)) r) rs k
def Py (call d:CP) (D:DT) (c:Code) (rs:List ResultVar) (m:Nat) (args:List AV) (H:AH) (n:Nat) (κ:PK):Prop:=
 fo (Nat.ble args.length m) (jL n d D c call (wq args 0 .nil) H n (λa H n=>CY rs a H λb=>κ (y8 b) H n) (λ_ _ _ _=>False) (λa H n=>CY rs a H λb=>κ (y8 b) H n)) False
inductive EP where
 |no
 |run (D:DT) (c:Code) (rs:List ResultVar) (m:Nat)
 |nat (g:List AV->AH->Nat->PK->Prop)
 |det (g:List AV->AH->Nat->PK->Prop)
def uM (F:FuncId->EP):CP:=λf args H n a=>EP.rec (λ_ _ _ _=>False) (λ_ _ _ _ _ _ _ _=>False) (λ_ _ _ _ _=>False) (λg=>g) (F f) args H n a
def ay (F:FuncId->EP) (d:Nat):CP:=Nat.rec (λ_ _ _ _ _=>False) (λ_ a f args H n b=>EP.rec (λ_ _ _ _=>False) (λD c rs m=>Py a (uM F) D c rs m) (λg=>g) (λg=>g) (F f) args H n b) d
noncomputable def zh (D:DT) (f:FuncId):EP:=match Tryz.prog.funcs[f]? with
 |some fn=>(match fn.body with
  |some c=> .run D c fn.results.toList fn.ntmps
  |none=> .no)
 |none=> .no
def zi (D:DT) (f:FuncId):Bool:=match Tryz.prog.funcs[f]? with
 |some fn=>(match fn.body with
  |some c=>mo D c
  |none=>false)
 |none=>false
def evP (f:FuncId):EP:=Bool.rec .no (Bool.rec .no (zh [] f) (zi [] f)) (R3 f)
section
variable {φ:Ph} {H:AH} {n:Nat} {h0 h:Hp} {σ:AE} {ρ:Env}
theorem aV{b:Type}{o:Option b}{k:b->Prop}(h:cx o k):∃a,o=some a/\k a:=by
 cases o with
 |none=>exact h.elim
 |some a=>exact⟨a,rfl,h⟩
theorem au{b:Type}{o:Option b}{k:b->Prop}{a:b}(h:o=some a)(c:k a):cx o k:=by subst h;exact c
theorem gm{b:Bool}{t:Prop}(h:fo b t False):b=true/\t:=by
 cases b with
 |true=>exact⟨rfl,h⟩
 |false=>exact h.elim
theorem Ask.inv{b:Type}{o:Option b}{k:b->Prop}(h:Ask o k):∃a,o=some a/\k a:=by
 obtain⟨a,c,d⟩:=h;exact⟨a,c,d⟩
theorem VR.hd{a:AV}{v:Value}(h:VR φ a v):VR φ (hd a) v:=by cases a<;>exact h
theorem VRs.hds{l:List AV}{b:List Value}(h:VRs φ l b):VRs φ (l.map Go.Proofs.YtflehenfikoniaaGreat.hd) b:=by
 induction l generalizing b with
 |nil=>exact h
 |cons a l c=>
  obtain⟨v,us,rfl,d,f⟩:=h.cons_inv;exact .cons d.hd (c f)
theorem VR.hdK{a:AV}{v:Value}(h:VR φ a v):VR φ (hdK a) v:=by
 cases a<;>first|exact h.hd|skip
 obtain⟨cs,rfl,b⟩:=h.dY;exact .agg b.hds
theorem VR.mk{a:AV}{v:Value}(h:VR φ a v):VR φ (mk a) v:=by cases a<;>exact h
theorem VRs.R8:∀{l:List AV} {b:List Value},VRs φ l b->VRs φ (l.map Go.Proofs.YtflehenfikoniaaGreat.hd) b
 | [],b,h=>by rw[h.aU];exact .nil
 |a::l,b,h=>by
  obtain⟨v,us,rfl,c,d⟩:=h.cons_inv;exact .cons c.hd (VRs.R8 d)
theorem VR.R9{l:List AV}{v:Value}(h:VR φ (.agg l) v):VR φ (.agg (l.map Go.Proofs.YtflehenfikoniaaGreat.hd)) v:=by
 obtain⟨cs,rfl,a⟩:=h.dY;exact .agg a.R8
theorem cD.then{κ:PK}{K:KH}{v:AV}(a:cD φ h0 κ K)(h:κ v H n):qS φ h0 v H n K:=λb u g c d f=>a b v H n u g c d f h
theorem cD.S8{κ:PK}{K:KH}{r:AV×AH×Nat}(a:cD φ h0 κ K)(h:mk3 κ r):qS φ h0 r.1 r.2.1 r.2.2 K:=λb u g c d f=>a b _ _ _ u g c d f.mk h
def oj(call:CP):Prop:=∀(f:FuncId) (args:List AV) (H:AH) (n:Nat) (κ:PK),call f args H n κ->∀(φ:Ph) (h0 h:Hp) (a:Array Value) (K:KH),HR φ H n h0 h->VRs φ args a.toList->cD φ h0 κ K->dI Tryz.prog f a h K
theorem qU{P:Program}{op:BinOp}{t:TypeId}{k j:IntKind}{a b:Int}{c:Bool}{κ:AV->Prop}{K:Value->Prop}(g:JC op k j a b c κ)(o:∀r u,κ r->VR φ r u->K u):kY P op t (.int k a) (.int j b) K:=by
 have i:∀{x},κ (.si k x)->K (.int k x):=λh=>o _ _ h (.si _ _)
 have p:∀{x},κ (.sb x)->K (.bool x):=λh=>o _ _ h (.sb _)
 have s:∀{A:Prop},fo (LQ k j) A False->k=j/\A:=λh=>by
  obtain⟨q,f⟩:=gm h;rw[LS]at q;exact⟨by simpa using q,f⟩
 cases op<;>simp only[JC]at g
 case shl=>
  cases c with
  |false=>exact⟨g.1,i g.2⟩
  |true=>
   cases d:ltq b 0 with
   |true=>rw[d]at g;exact g.elim
   |false=>
    rw[d]at g;rw[LU]at d;have:¬b<0:=by simpa using d
    exact⟨by omega,i g⟩
 case shr=>
  cases c with
  |false=>exact⟨g.1,i g.2⟩
  |true=>
   cases d:ltq b 0 with
   |true=>rw[d]at g;exact g.elim
   |false=>
    rw[d]at g;rw[LU]at d;have:¬b<0:=by simpa using d
    exact⟨by omega,i g⟩
 all_goals(obtain⟨l,f⟩:=s g;clear g;subst l)
 case quo=>
  cases c with
  |false=>exact⟨rfl,f.1,i f.2⟩
  |true=>
   cases d:eqq b 0 with
   |true=>rw[d]at f;exact f.elim
   |false=>
    rw[d]at f;rw[LV]at d;exact⟨rfl,by simpa using d,i f⟩
 case rem=>
  cases c with
  |false=>exact⟨rfl,f.1,i f.2⟩
  |true=>
   cases d:eqq b 0 with
   |true=>rw[d]at f;exact f.elim
   |false=>
    rw[d]at f;rw[LV]at d;exact⟨rfl,by simpa using d,i f⟩
 case neq=>
  refine⟨rfl,?_⟩;have:decide (a≠b)=!decide (a=b):=by simp
  rw[this];exact p f
 all_goals first|exact⟨rfl,i f⟩|exact⟨rfl,p f⟩
theorem qV{P:Program}{op:BinOp}{t:TypeId}{a b:List Nat}{κ:AV->Prop}{K:Value->Prop}(d:∀x∈a,x<256)(f:∀x∈b,x<256)(c:JD op a b κ)(g:∀r u,κ r->VR φ r u->K u):kY P op t (.string (eJ a)) (.string (eJ b)) K:=by
 have key:∀{r:AV},LJ op a b=some r->κ (mk r)->kY P op t (.string (eJ a)) (.string (eJ b)) K:=λe i=>wy (φ:=φ) d f e λu j=>g _ u i j.mk
 cases op<;>simp only[JD]at c
 case add=>exact key (r:= .str (a++b)) (by simp only[LJ];rw[if_pos c.1]) c.2
 all_goals first|exact c.elim|exact key rfl c
theorem qW{op:BinOp}{t:TypeId}{a b:Bool}{κ:AV->Prop}{K:Value->Prop}(d:LZ op t a b κ)(f:∀r u,κ r->VR φ r u->K u):kY Tryz.prog op t (.bool a) (.bool b) K:=by
 obtain⟨g,c⟩:=gm d;have i:=rU g;cases op<;>first|exact c.elim|exact⟨i,f _ _ c (.sb _)⟩
theorem wJ(j:HR φ H n h0 h){op:BinOp}{t:TypeId}{x y:AV}{v u:Value}{κ:AV->Prop}{K:Value->Prop}(b:VR φ x v)(c:VR φ y u)(a:JE op t x y H κ)(d:∀r u,κ r->VR φ r u->K u):jG Tryz.prog op t v u h K:=by
 unfold JE at a;split at a
 ·obtain⟨r,f,g⟩:=aV a;rw[b.b9,c.b9];show kY Tryz.prog op t (.int _ _) (.int _ _) K;exact wx (φ:=φ) f λu i=>d _ u g i
 ·rw[b.b9,c.gi];exact qU (P:=Tryz.prog) (t:=t) a d
 ·rw[b.gi,c.b9];exact qU (P:=Tryz.prog) (t:=t) a d
 ·rw[b.gi,c.gi];exact qU (P:=Tryz.prog) (t:=t) a d
 ·obtain⟨rfl,f⟩:=b.tJ;obtain⟨rfl,g⟩:=c.tJ;exact qV (P:=Tryz.prog) (t:=t) f g a d
 ·obtain⟨rfl,f⟩:=b.tJ;obtain⟨rfl,g⟩:=c.cJ;exact qV (P:=Tryz.prog) (t:=t) f g a d
 ·obtain⟨rfl,f⟩:=b.cJ;obtain⟨rfl,g⟩:=c.tJ;exact qV (P:=Tryz.prog) (t:=t) f g a d
 ·rw[b.jY,c.jY];exact qW a d
 ·rw[b.jY,c.bZ];exact qW a d
 ·rw[b.bZ,c.jY];exact qW a d
 ·rename_i xs o;cases l:(xs.any isS||o.any isS)with
  |true=>
   rw[l]at a;obtain⟨r,f,g⟩:=aV a;exact ny j b.R9 c.R9 f λu i=>d _ u g i.mk
  |false=>
   rw[l]at a;obtain⟨r,f,g⟩:=aV a;exact ny j b c f λu i=>d _ u g i
 ·obtain⟨r,f,g⟩:=aV a;exact ny j b c f λu i=>d _ u g i
theorem zj{op:UnOp}{x:AV}{v:Value}{κ:AV->Prop}{K:Value->Prop}(b:VR φ x v)(a:unP op x κ)(c:∀r u,κ r->VR φ r u->K u):aun op v K:=by
 unfold unP at a;split at a
 ·rw[b.jY];exact c _ _ a (.sb _)
 ·rw[b.gi];exact c _ _ a (.si _ _)
 ·rw[b.gi];exact c _ _ a (.si _ _)
 ·obtain⟨r,d,f⟩:=aV a;exact zb b d λu g=>c _ u f g
theorem iF{q:Bool}{x y:AV}{v u:Value}{κ:AV->Prop}{K:Value->Prop}(b:VR φ x v)(c:VR φ y u)(a:mmP q x y κ)(d:∀r u,κ r->VR φ r u->K u):cH q v u K:=by
 unfold mmP at a;split at a
 ·rw[b.gi,c.gi];exact d _ _ a (.si _ _)
 ·rw[b.gi,c.b9];exact d _ _ a (.si _ _)
 ·rw[b.b9,c.gi];exact d _ _ a (.si _ _)
 ·obtain⟨r,f,g⟩:=aV a;exact tO b c f λu i=>d _ u g i
theorem wK(j:HR φ H n h0 h){t:TypeId}{x:AV}{v:Value}{κ:AV->Prop}{K:Value->Prop}(i:VR φ x v)(f:JF t x H κ)(g:∀r u,κ r->VR φ r u->K u):mA Tryz.prog t v h K:=by
 unfold JF at f;split at f
 ·obtain⟨r,c,d⟩:=aV f;exact nz j i.hd c λu b=>g _ u d b.mk
 ·obtain⟨r,c,d⟩:=aV f;exact nz j i.hd c λu b=>g _ u d b.mk
 ·obtain⟨c,d⟩:=gm f
  have b:∃e,Tryz.prog.underlying t=some (.slice e):=by
   unfold wi at c;split at c
   ·rename_i e;exact⟨_,e⟩
   ·cases c
  obtain⟨e,b⟩:=b;rcases i.gX with⟨rfl,l⟩|⟨p,a,C,_,rfl,_⟩
  ·obtain⟨_,rfl⟩:=l.is;simp only[mA,b];exact g _ _ d (.si _ _)
  ·(try simp only[mA,b]);exact g _ _ d (.si _ _)
 ·obtain⟨c,d⟩:=gm f
  have b:∃e,Tryz.prog.underlying t=some (.slice e):=by
   unfold wi at c;split at c
   ·rename_i e;exact⟨_,e⟩
   ·cases c
  obtain⟨e,b⟩:=b;obtain⟨a,C,rfl⟩:=i.LO
  (try simp only[mA,b]);exact g _ _ d (.si _ _)
 ·obtain⟨r,c,d⟩:=aV f;exact nz j i c λu b=>g _ u d b
theorem ll{ix:AV}{len:Nat}{s:Bool}{v:Value}{κ:Nat->Prop}(d:VR φ ix v)(a:ixP ix len s κ):∃i,i<len/\(∃k,v= .int k (i:Int))/\κ i:=by
 unfold ixP at a;split at a
 ·obtain⟨j,rfl,b,c⟩:=a;exact⟨j,b,⟨_,d.gi⟩,c⟩
 ·obtain⟨j,rfl,b,c⟩:=a;exact⟨j,b,⟨_,d.b9⟩,c⟩
 ·obtain⟨i,b,c⟩:=aV a;obtain⟨f,g⟩:=oM d b;exact⟨i,f,g,c⟩
theorem mJ{t:TypeId}{x ix:AV}{v u:Value}{κ:AV->Prop}{K:Value->Prop}(g:VR φ x v)(hi:VR φ ix u)(f:jn t x ix κ)(E:∀r u,κ r->VR φ r u->K u):cG Tryz.prog t v u K:=by
 have sl:∀{e b o m c k s},Tryz.prog.underlying t=some (.slice e)->VR φ (.sl b o m c k) v->cx (aE Tryz.prog e) (λk=>ixP ix m s λi=>κ (.ptr b (o+i*k)))->cG Tryz.prog t v u K:=λ{e b o m c k s} d g f=>by
  obtain⟨es,j,w⟩:=aV f;obtain⟨i,G,⟨I,rfl⟩,A⟩:=ll hi w;obtain⟨p,C,B,rfl,_,_⟩:=g.eT
  (try simp only[cG,d,j])
  refine⟨by omega,by omega,?_⟩;rw[q0v,q1m];exact E _ _ A (.ptr B)
 unfold jn at f;split at f
 ·rename_i d;exact sl d g f
 ·rename_i d;exact sl d g.hd f
 ·rename_i d;obtain⟨es,j,w⟩:=aV f;obtain⟨i,G,⟨I,rfl⟩,A⟩:=ll hi w;rcases g.gX with⟨O,_⟩|⟨p,a,C,B,rfl,J,_⟩
  ·omega
  have J:=J (by omega);subst J
  (try simp only[cG,d,j])
  refine⟨by omega,by omega,?_⟩;rw[q0v,q1m];exact E _ _ A (.ptr B)
 ·rename_i d;obtain⟨es,j,w⟩:=aV f;obtain⟨M,N⟩:=gm w;have:=q0d M;subst this;obtain⟨i,G,⟨I,rfl⟩,A⟩:=ll hi N;rcases g.tK with⟨O,_⟩|⟨q,y,C,P,rfl,R,F⟩
  ·omega
  (try simp only[cG,d,j])
  refine⟨by omega,by omega,?_⟩;rw[q0v]
  have D:∀{n:Nat} {l:List AV},bq q.L y n=some l->bq q.L y l.length=some l:=λ{n l} F=>by
   have:l.length=n:=by obtain⟨S,Q⟩:=br F;rw[Q];simp;omega
   rw[this];exact F
  exact E _ _ A (.fa P (D F))
 ·rename_i len el b o d;obtain⟨es,j,w⟩:=aV f;obtain⟨i,G,⟨I,rfl⟩,A⟩:=ll hi w;obtain⟨p,B,rfl⟩:=g.cw
  (try simp only[cG,d,j])
  refine⟨by omega,by omega,?_⟩;rw[q0v,q1m];exact E _ _ A (.ptr B)
 ·exact f.elim
theorem rW{t:TypeId}{x ix:AV}{v u:Value}{κ:AV->Prop}{K:Value->Prop}(g:VR φ x v)(hi:VR φ ix u)(b:tS t x ix κ)(f:∀r u,κ r->VR φ r u->K u):jX Tryz.prog t v u K:=by
 have str:∀{s:List Nat} {i c:Nat} {j:IntKind} {q:Bool},Tryz.prog.underlying t=some .string->VR φ (.str s) v->u= .int j (i:Int)->i<s.length->nth s i=some c->(∀u,VR φ (.int .u8 (Int.ofNat c)) u->K u)->jX Tryz.prog t v u K:=λ{s i c j q} a g o C A f=>by
  obtain⟨rfl,b⟩:=g.cJ;subst o;rw[eX]at A;have B:=b c (q0l A);simp only[jX,a,da,q0v,q0s,A,q0h];refine⟨by omega,f _ ?_⟩
  have:((UInt8.ofNat c).toNat:Int)=Int.ofNat c:=by
   rw[UInt8.toNat_ofNat',q1p B];rfl
  rw[this];exact .int _ _
 unfold tS at b;split at b
 ·rename_i len el l a;obtain⟨cs,rfl,D⟩:=g.dY;obtain⟨k,E,B⟩:=aV b;obtain⟨i,y,⟨j,rfl⟩,p⟩:=ll hi B;obtain⟨r,w,d⟩:=aV p
  (try simp only[jX,a,E])
  refine⟨by omega,by omega,?_⟩;rw[q0v];exact oL D w λu a=>f _ u d a
 ·rename_i s a;obtain⟨i,y,⟨j,o⟩,p⟩:=ll hi b;obtain⟨c,w,d⟩:=aV p;refine str (q:=true) a g o y w λu a=>?_
  split at d
  ·exact f _ u d a
  ·exact f _ u d a.mk
 ·rename_i s a;obtain⟨i,y,⟨j,o⟩,p⟩:=ll hi b;obtain⟨c,w,d⟩:=p.inv;exact str (q:=true) a g.hd o y w λu a=>f _ u d a.mk
 ·exact b.elim
theorem zk{l:List AV}{t:TypeId}{b o:Nat}{κ:AV->Prop}{z:Bool}(a:H.get b=some (.cells l z)∨H.get b=some (.ro l))(c:wF l t o κ):∃r,yZ Tryz.prog t (.ptr b o) H=some r/\κ r:=by
 unfold wF at c;split at c
 ·rename_i d;obtain⟨r,f,g⟩:=aV c;exact⟨r,by rcases a with a|a<;>simp only[yZ,a,d,f],g⟩
 ·rename_i d;obtain⟨m,f,g⟩:=aV c;obtain⟨r,i,j⟩:=aV g;exact⟨.agg r,by rcases a with a|a<;>simp only[yZ,a,d,f,i,q0h],j⟩
 ·exact c.elim
theorem oQ(w:HR φ H n h0 h){t:TypeId}{a:AV}{v:Value}{κ:AV->Prop}{K:Value->Prop}(x:VR φ a v)(b:uK t a H κ)(j:∀r u,κ r->VR φ r u->K u):kZ Tryz.prog t v h K:=by
 unfold uK at b;split at b
 ·split at b
  ·rename_i A;obtain⟨r,d,f⟩:=zk (.inl A) b;exact oJ w x d λu B=>j _ u f B
  ·rename_i A;obtain⟨r,d,f⟩:=zk (z:=true) (.inr A) b;exact oJ w x d λu B=>j _ u f B
  ·exact b.elim
 ·rename_i l o;obtain⟨q,y,E,rfl,F⟩:=x.AM;obtain⟨⟨⟨_,c,M,fz,G,I,C⟩,_⟩,_⟩:=w.frz q E
  have g:CR φ c (q.s+y) l:=by
   obtain⟨p,i⟩:=br F;rw[i];exact CR.drop C
  unfold wF at b
  (try simp only[kZ,G])
  split at b
  ·rename_i D;obtain⟨r,d,f⟩:=aV b;obtain⟨v,p,i⟩:=g.nth d
   (try simp only[D,p])
   exact j _ _ f i
  ·rename_i D;obtain⟨m,d,f⟩:=aV b;obtain⟨r,J,L⟩:=aV f;obtain⟨N,p,i⟩:=g.sub J
   (try simp only[D,d,p])
   exact j _ _ L (.agg (by simpa using i))
  ·exact b.elim
 ·exact b.elim
theorem rX(c:HR φ H n h0 h){t:TypeId}{a x:AV}{av xv:Value}{κ:PK}{K:KH}(d:VR φ a av)(f:VR φ x xv)(b:nC t a x H n κ)(g:cD φ h0 κ K):oq Tryz.prog t av xv h K:=by
 unfold nC at b;split at b
 ·split at b
  ·rename_i l z i;obtain⟨s,j,o⟩:=aV b;obtain⟨p,q⟩:=gm o;obtain⟨y,v,w⟩:=aV q;refine rV c d f (r:=cg) ?_ (g.then w)
   (try simp only[AJ,i,j,p,v])
  ·exact b.elim
 ·exact b.elim
theorem zl {κ:PK} {K:KH} {q:Bool} {e g:AR} {A:Prop} (i:cD φ h0 κ K) (j:fo q (Ask g (mk3 κ)) (cx e (un3 κ)))
 (a:∀r H' c,e=some (r,H',c)->qS φ h0 r H' c K->A) (b:∀r H' c,g=some (r,H',c)->qS φ h0 r H' c K->A):A:=by
 cases q with
 |true=>
  obtain⟨r,d,f⟩:=Ask.inv j;exact b _ _ _ d (i.S8 f)
 |false=>
  obtain⟨r,d,f⟩:=aV j;exact a _ _ _ d (i.then f)
theorem zm{c:AV}{v:Value}{A B:Prop}(b:VR φ c v)(a:CW c A B):∃q,v= .bool q/\(q=true->A)/\(q=false->B):=by
 unfold CW at a;split at a
 ·exact⟨true,b.bZ,λ_=>a,λk=>by cases k⟩
 ·exact⟨false,b.bZ,(λk=>by cases k),λ_=>a⟩
 ·rename_i q;exact⟨q,b.jY,a.t,a.f⟩
 ·exact a.elim
theorem JH:∀f,COk Tryz.prog f (LR f):=λf args H n v a b e=>by cases e
theorem uN(a:HR φ H n h0 h)(b:FR φ σ ρ){o:Op}{κ:PK}{K:KH}(c:CX o σ H n κ)(d:cD φ h0 κ K):bK Tryz.prog o ρ h K:=by
 obtain⟨⟨v,i,j⟩,f,g⟩:=aV c;exact CQ JH a b f (d.then g)
theorem JI (G:FR φ σ ρ) {t:TypeId} {x r:AV} {v:Value} {lo hi mx:Option Operand} {K:Value->Prop} (I:VR φ x v) (e:jk Tryz.prog t (hd x) ((lo.map (eev σ)).map hd) ((hi.map (eev σ)).map hd) ((mx.map (eev σ)).map hd)=some r)
 (J:∀u,VR φ r u->K u):dz Tryz.prog t v (lo.map ρ.ev) (hi.map ρ.ev) (mx.map ρ.ev) K:=by
 have key:∀(l h m:Option AV) (f g j:Option Value),(∀a,l=some a->∃u,f=some u/\VR φ a u)->(l=none->f=none)->(∀a,h=some a->∃u,g=some u/\VR φ a u)->(h=none->g=none)->(∀a,m=some a->∃u,j=some u/\VR φ a u)->(m=none->j=none)->
  jk Tryz.prog t (hd x) l h m=some r->dz Tryz.prog t v f g j K:=by
  intro l h m f g j D L E M F N e
  let c:AE:=((PM.nil.set l eR 0).set h eR 1).set m eR 2
  let d:Env:=λi=>if i=0 then f.getD undef else if i=1 then g.getD undef else j.getD undef
  have w:FR φ c d:=λi a b=>by
   rcases PM.ak eR _ 2 i a b with⟨rfl,A⟩|⟨Z,A⟩
   ·obtain⟨u,rfl,p⟩:=F a A;exact p
   ·rcases PM.ak eR _ 1 i a A with⟨rfl,B⟩|⟨p,B⟩
    ·obtain⟨u,rfl,p⟩:=E a B;exact p
    ·rcases PM.ak eR _ 0 i a B with⟨rfl,C⟩|⟨h5,C⟩
     ·obtain⟨u,rfl,p⟩:=D a C;exact p
     ·cases C
  have sl:∀(i:Nat) (q:Option AV) (s:Option Value),(∀a,q=some a->bj (pa i) c=a/\∃u,s=some u/\d i=u)->(q=none->s=none)->∃o:Option Operand,o.map (eev c)=q/\o.map d.ev=s:=λi q s O P=>by
   cases q with
   |none=>exact⟨none,rfl,by rw[P rfl];rfl⟩
   |some a=>
    obtain⟨Q,u,R,S⟩:=O a rfl
    exact⟨some (.tmp i),by simp only[q0h,eev,Q],by simp only[q0h,Env.ev,R,S]⟩
  obtain⟨o1,T,U⟩:=sl 0 l f (λa b=>by subst b;obtain⟨u,rfl,_⟩:=D a rfl;exact⟨by cases h<;>cases m<;>rfl,u,rfl,rfl⟩) L;obtain⟨o2,V,W⟩:=sl 1 h g (λa b=>by subst b;obtain⟨u,rfl,_⟩:=E a rfl;exact⟨by cases l<;>cases m<;>rfl,u,rfl,rfl⟩) M;obtain⟨o3,X,Y⟩:=sl 2 m j (λa b=>by subst b;obtain⟨u,rfl,_⟩:=F a rfl;exact⟨by cases l<;>cases h<;>rfl,u,rfl,rfl⟩) N;rw[<-U,<-W,<-Y];rw[<-T,<-V,<-X]at e;exact nA w I.hd e J
 have s1:∀(o:Option Operand) (a:AV),(o.map (eev σ)).map hd=some a->∃u,o.map ρ.ev=some u/\VR φ a u:=λo a b=>by
  cases o with
  |none=>cases b
  |some y=>injection b with b;subst b;exact⟨_,rfl,(G.ev y).hd⟩
 have s2:∀o:Option Operand,(o.map (eev σ)).map hd=none->o.map ρ.ev=none:=λo b=>by
  cases o with
  |none=>rfl
  |some y=>cases b
 exact key _ _ _ _ _ _ (s1 lo) (s2 lo) (s1 hi) (s2 hi) (s1 mx) (s2 mx) e
theorem rY(f:FR φ σ ρ){x:Option Operand}{d i:Nat}(e:mC ((x.map (eev σ)).map hd) d=some i)(b:Int)(a:x=none->(i:Int)=b):bnd (x.map ρ.ev) b=some (i:Int):=by
 cases x with
 |none=>simp only[q2l,bnd];rw[a rfl]
 |some y=>
  simp only[q0h,mC]at e;have c:=(f.ev y).hd;split at e
  ·rename_i q;cases q
  ·rename_i k j q;injection e with e;subst e;injection q with q;rw[q]at c;simp only[q0h,c.b9,bnd];rfl
  ·cases e
theorem JJ (O:FR φ σ ρ) {t:TypeId} {b o m k q:Nat} {v:Value} {lo hi mx:Option Operand} {κ:AV->Prop} {K:Value->Prop} (hx:VR φ (.rw b o m k q) v) (J:L0 t b o m k q (lo.map (eev σ)) (hi.map (eev σ)) (mx.map (eev σ)) κ)
 (hk:∀r u,κ r->VR φ r u->K u):dz Tryz.prog t v (lo.map ρ.ev) (hi.map ρ.ev) (mx.map ρ.ev) K:=by
 unfold L0 at J;split at J
 case h_2=>exact J.elim
 rename_i e hu;obtain⟨es,h1,h2⟩:=aV J;obtain⟨h3,l,c,P,Q,g,g1,g2,L⟩:=gm h2;have:=q0d h3;subst this;have e1:=rY O P 0 (λq=>by subst q;rw[dk P];rfl);have e2:=rY O Q (m:Int) (λq=>by subst q;rw[dk Q])
 have D:(Option.map ρ.ev mx).isSome=true->(Option.map ρ.ev hi).isSome=true:=λq'=>by
  rw[isSome_map]at q'⊢;rcases g with g|⟨g,_⟩
  ·cases mx with
   |none=>cases q'
   |some y=>cases g
  ·rw[isSome_map]at g;exact g
 have A:hi=none->c=m:=λq=>by subst q;exact dk Q
 have B:lo=none->l=0:=λq=>by subst q;exact dk P
 have key:∀(base:Option Addr) (C M:Nat),bnd (mx.map ρ.ev) (C:Int)=some (M:Int)->c<=M->M<=C->K (iP base l c M es)->dz Tryz.prog t (.slice base m C) (lo.map ρ.ev) (hi.map ρ.ev) (mx.map ρ.ev) K:=λbase C M E N i hK=>by
  (try simp only[dz,hu,h1,e1,e2,E])
  refine⟨D,by omega,by omega,?_,by omega,?_⟩
  ·unfold vR;split
   ·trivial
   ·omega
  ·rw[q0v,q0v,q0v];exact hK
 have bm:∀C:Nat,c<=C->∃M:Nat,bnd (mx.map ρ.ev) (C:Int)=some (M:Int)/\c<=M/\M<=C/\(mx=none->M=C)/\(mx≠none->M=c):=λC R=>by
  rcases g with g|⟨_,g⟩
  ·have d:mx=none:=by cases mx with|none=>rfl|some y=>cases g
   subst d;exact⟨C,rfl,R,Z6 _,λ_=>rfl,λq=>absurd rfl q⟩
  ·by_cases d:mx=none
   ·subst d;exact⟨C,rfl,R,Z6 _,λ_=>rfl,λq=>absurd rfl q⟩
   ·exact⟨c,rY O g (C:Int) (λq=>absurd q d),Z6 _,R,λq=>absurd q d,λ_=>rfl⟩
 have j:rwN m l c (lo.map (eev σ)) (hi.map (eev σ))=c-l:=by
  cases lo<;>cases hi
  ·have:=A rfl;have:=B rfl;show m=c-l;omega
  ·have:=B rfl;show c=c-l;omega
  ·have:=A rfl;show m-l=c-l;omega
  ·rfl
 have w:rwO o es l (lo.map (eev σ))=o+l*es:=by
  cases lo
  ·have:=B rfl;subst this;show o=o+0*es;omega
  ·rfl
 rcases hx.gX with⟨rfl,F⟩|⟨p,a,C,hp,rfl,ha,g3,g4,g7,S,g6⟩
 ·obtain⟨base,rfl⟩:=F.is;have U:c=0:=by omega
  have V:l=0:=by omega
  obtain⟨M,E,N,i,_,_⟩:=bm 0 (by omega);have W:M=0:=by omega
  refine key base 0 M E N i (hk _ _ L ?_);unfold G7;rw[j,w,U,V,W];show VR φ _ (.slice base 0 0);refine .rwe rfl ?_
  rcases F with h|⟨L,a,h⟩
  ·exact .inl h
  ·subst L;cases hi with
   |none=>exact .inr ⟨rfl,a,h⟩
   |some y=>
    cases mx with
    |none=>exact .inr ⟨rfl,a,h⟩
    |some z=>exact .inr ⟨rfl,a,h⟩
 ·obtain⟨M,E,N,i,X,G⟩:=bm C (by omega);refine key _ C M E N i (hk _ _ L ?_);unfold G7;rw[j,w,kE]
  have hmul:l*es+(M-l)*es<=C*es:=by
   rw[<-q2i];exact q1h es (by omega)
  have Y:l*es+(c-l)*es<=m*es:=by
   rw[<-q2i];exact q1h es (by omega)
  have I:rwX q (hi.map (eev σ)) (mx.map (eev σ))=1->M-l=c-l:=by
   cases hi with
   |none=>
    have d:mx=none:=by
     cases mx with
     |none=>rfl
     |some y=>have:=D rfl;cases this
    subst d;intro f;have:=g6 f;have:=A rfl
    have:=X rfl
    omega
   |some y=>
    cases mx with
    |none=>
     intro f;exfalso
     have f:(match q with
      |0=>0
      |1=>0
      |x+2=>x+2)=1:=f
     split at f<;>omega
    |some z=>intro _;rw[G (by simp)]
  have Z:rwX q (hi.map (eev σ)) (mx.map (eev σ))<2->a+l*es+(M-l)*es<=p.s+p.T:=by
   cases hi with
   |none=>intro f;have:=S f;omega
   |some y=>
    cases mx with
    |none=>
     intro f
     have f:(match q with
      |0=>0
      |1=>0
      |x+2=>x+2)<2:=f
     split at f
     ·have:=S (by omega);omega
     ·have:=S (by omega);omega
     ·omega
    |some z=>intro _;rw[G (by simp)];omega
  split
  ·rename_i hMl;subst hMl;have e0:(M-M)*es=0:=by rw[Nat.sub_self,q1o]
   have e1:(c-M)*es=0:=by rw[show c-M=0 from by omega,q1o]
   have:0<=m*es:=Y5 _;exact .rwx hp (λhne=>by omega) g3 (by omega) (by omega) (λf=>by omega) I
  ·exact .rwx hp (λhne=>by have:=ha (by omega);omega) (by omega) (by omega) (by omega) Z I
theorem JK{a:Type}{M L:List a}{o n l:Nat}(h:bq M o n=some L)(b:l<=n):bq M (o+l) (n-l)=some (L.drop l):=by
 obtain⟨c,rfl⟩:=br h;unfold bq;rw[q0o (by omega)];simp only[List.drop_take,List.drop_drop]
theorem JL{a:Type}{M L:List a}{o n l:Nat}(h:bq M o n=some L)(b:l<=n):bq M o l=some (L.take l):=by
 obtain⟨c,rfl⟩:=br h;unfold bq;rw[q0o (by omega)];simp only[List.take_take];rw[q3q b]
theorem JM (F:FR φ σ ρ) {t:TypeId} {m k:Nat} {L:List AV} {v:Value} {lo hi:Option Operand} {κ:AV->Prop} {K:Value->Prop} (N:VR φ (.fr m k L) v) (j:L1 t m k L (lo.map (eev σ)) (hi.map (eev σ)) κ)
 (G:∀r u,κ r->VR φ r u->K u):dz Tryz.prog t v (lo.map ρ.ev) (hi.map ρ.ev) none K:=by
 unfold L1 at j;split at j
 case h_2=>exact j.elim
 rename_i e O;obtain⟨es,P,Q⟩:=aV j;obtain⟨R,l,b,p,w,hm,g1,g2,I⟩:=gm Q;have:=q0d R;subst this;have S:=rY F p 0 (λq=>by subst q;rw[dk p];rfl);have T:=rY F w (m:Int) (λq=>by subst q;rw[dk w]);have c:hi=none->b=m:=λq=>by subst q;exact dk w
 have d:lo=none->l=0:=λq=>by subst q;exact dk p
 have key:∀(base:Option Addr) (C:Nat),m<=C->K (iP base l b C es)->dz Tryz.prog t (.slice base m C) (lo.map ρ.ev) (hi.map ρ.ev) none K:=λbase C J U=>by
  have V:bnd (none:Option Value) (C:Int)=some (C:Int):=rfl
  (try simp only[dz,O,P,S,T,V])
  refine⟨λq=>(by cases q),by omega,by omega,?_,by omega,?_⟩
  ·unfold vR;split
   ·trivial
   ·omega
  ·rw[q0v,q0v,q0v];exact U
 have f:rwN m l b (lo.map (eev σ)) (hi.map (eev σ))=b-l:=by
  cases lo<;>cases hi
  ·have:=c rfl;have:=d rfl;show m=b-l;omega
  ·have:=d rfl;show b=b-l;omega
  ·have:=c rfl;show m-l=b-l;omega
  ·rfl
 have i:L.length=m*es->frL es L l b (lo.map (eev σ)) (hi.map (eev σ))=(L.drop (l*es)).take ((b-l)*es):=λo=>by
  cases lo<;>cases hi
  ·have:=c rfl;have:=d rfl
   subst this;show L=_;rw[q1o,q4o,q1n (by rw[o];subst_vars;simp)]
  ·have:=d rfl
   subst this;show L.take (b*es)=_;rw[q1o,q4o,q3i]
  ·have:=c rfl
   show L.drop (l*es)=_;rw[q1n];rw[q0p,o,Nat.sub_mul];subst_vars;exact Z6 _
  ·rfl
 rcases N.tK with⟨rfl,rfl,a,C,rfl,M⟩|⟨q,y,C,W,rfl,J,g⟩
 ·have A:b=0:=by omega
  have D:l=0:=by omega
  subst A D;refine key a C (Y5 _) (G _ _ I ?_);rw[f,i (by simp)];show VR φ (.fr (0-0) es ((([]:List AV).drop (0*es)).take ((0-0)*es))) (iP a 0 0 C es);have X:((([]:List AV).drop (0*es)).take ((0-0)*es))=[]:=by simp
  rw[X];unfold iP;refine .fre λq=>?_
  split at q
  ·have:=M q;omega
  ·cases a with
   |none=>have:=M rfl;omega
   |some _=>cases q
 ·have o:L.length=m*es:=by obtain⟨g5,Y⟩:=br g;rw[Y];simp;omega
  have Z:l*es+(b-l)*es<=m*es:=by rw[<-q2i];exact q1h _ (by omega)
  have E:bq q.L (y+l*es) ((b-l)*es)=some ((L.drop (l*es)).take ((b-l)*es)):=JL (JK g (by omega)) (by omega);refine key _ C J (G _ _ I ?_);rw[f,i o];unfold iP;split
  ·rename_i hMl;have h0:b-l=0:=by omega
   rw[h0,q1o,List.take_zero];exact .fre λq=>by cases q
  ·have e6:Option.map (λx:Addr=>x.add (l*es)) (some ⟨q.B,q.s+y,none⟩)=some ⟨q.B,q.s+(y+l*es),none⟩:=by
    simp only[q0h,Addr.add];split
    ·rename_i h0;rw[h0];rfl
    ·rw[q1m]
   rw[e6];exact .fr W (by omega) E
theorem rZ(c:FR φ σ ρ){t:TypeId}{x:Operand}{lo hi mx:Option Operand}{κ:AV->Prop}{K:Value->Prop}(a:iq t (eev σ x) (lo.map (eev σ)) (hi.map (eev σ)) (mx.map (eev σ)) κ)(f:∀r u,κ r->VR φ r u->K u):dz Tryz.prog t (ρ.ev x) (lo.map ρ.ev) (hi.map ρ.ev) (mx.map ρ.ev) K:=by
 by_cases g:∃b o n k q,eev σ x= .rw b o n k q
 ·obtain⟨b,o,m,k,q,g⟩:=g;have d:=c.ev x;rw[g]at a d;exact JJ c d a f
 by_cases i:∃n k q,eev σ x= .fr n k q
 ·obtain⟨m,k,q,i⟩:=i;have d:=c.ev x;rw[i]at a d;cases mx with
  |none=>exact JM c d a f
  |some y=>exact a.elim
 have h:iq t (eev σ x) (lo.map (eev σ)) (hi.map (eev σ)) (mx.map (eev σ)) κ=fo (isS (eev σ x)||(iq.tI (lo.map (eev σ))||(iq.tI (hi.map (eev σ))||iq.tI (mx.map (eev σ))))) (Ask (jk Tryz.prog t (hd (eev σ x)) ((lo.map (eev σ)).map hd) ((hi.map (eev σ)).map hd) ((mx.map (eev σ)).map hd)) λv=>κ (mk v)) (cx (jk Tryz.prog t (eev σ x) (lo.map (eev σ)) (hi.map (eev σ)) (mx.map (eev σ))) κ):=by
  cases q:eev σ x
  case rw=>exact absurd ⟨_,_,_,_,_,q⟩ g
  case fr=>exact absurd ⟨_,_,_,q⟩ i
  all_goals rfl
 rw[h]at a;cases s:(isS (eev σ x)||(iq.tI (lo.map (eev σ))||(iq.tI (hi.map (eev σ))||iq.tI (mx.map (eev σ)))))with
 |true=>
  rw[s]at a;obtain⟨r,j,l⟩:=Ask.inv a;exact JI c (c.ev x) j λu p=>f _ u l p.mk
 |false=>
  rw[s]at a;obtain⟨r,j,l⟩:=aV a;exact nA c (c.ev x) j λu p=>f _ u l p
theorem pR(v:HR φ H n h0 h){k m:Nat}{x:AV}{xv:Value}{l:List AV}(w:VR φ x xv)(e:AU H k x m l):∃d,bY h k xv=some (m,d)/\VRs φ l d:=by
 cases e with
 |old e=>exact zd v w.hd e
 |fr=>
  rcases w.tK with⟨rfl,rfl,a,C,rfl,_⟩|⟨q,y,C,L,rfl,T,i⟩
  ·refine⟨[],?_,VRs.nil⟩;rcases a with _|⟨B,o,sp⟩
   ·rfl
   ·cases sp with
    |some _=>rfl
    |none=>
     (try simp only[bY])
     split
     ·simp[cO]
     ·rfl
  ·obtain⟨⟨⟨_,c,U,fz,M,N,A⟩,_⟩,_⟩:=v.frz q L;obtain⟨d,D,E⟩:=A.sub i;exact⟨d,by simp only[bY,M,D,q0h],E⟩
 | @rw b o m V q O _ j F=>
  rcases w.gX with⟨rfl,G⟩|⟨p,a,C,I,rfl,P,W,X,Y,Z,g6⟩
  ·obtain⟨_,rfl⟩:=br F;refine⟨[],?_,by simpa using VRs.nil⟩;rcases G with rfl|⟨_,⟨B,o,sp⟩,rfl⟩
   ·rfl
   ·cases sp with
    |some _=>rfl
    |none=>
     (try simp only[bY])
     split
     ·simp[cO]
     ·rfl
  ·have key:∃c t fz,h.f p.B=some (.cells c t fz)/\CR φ c p.s O:=by
    rcases j with j|⟨z,j⟩
    ·obtain⟨Q,_,g,c,t,fz,rfl,R,S,r⟩:=v.of j I;exact⟨c,t,fz,g,r⟩
    ·obtain⟨Q,_,g,c,t,fz,rfl,R,S,_,_,r⟩:=v.of j I;exact⟨c,t,fz,g,r⟩
   obtain⟨c,t,fz,g,r⟩:=key;by_cases J:m=0
   ·subst J;obtain⟨_,rfl⟩:=br F;exact⟨[],by simp only[bY,g,q1o,cO,q0h],by simpa using VRs.nil⟩
   ·have:=P J;subst this;obtain⟨d,D,E⟩:=r.sub F;exact⟨d,by simp only[bY,g,D,q0h],E⟩
variable {call:CP} {κ:PK} {K:KH}
section
variable {t u e:TypeId} {ud:TypeDesc} {k by' m sn:Nat} {z:Value} {new old:List AV} {nv ov:List Value} {xv:Value}
theorem vq{G:AH}{j:Bool}(l:cD φ h0 κ K)(o:κ (.rw n 0 (sn+m) k 0) (G.set (some (.cells (old++new) j)) aa n) (n+1))(g:HR φ G n h0 h)(ho:VRs φ old ov)(hn:VRs φ new nv)(b:ov.length=sn*k)(c:new.length=m*k)(r:z.cells.size=k):G1 e z (sn+m) ov nv h (tC K):=by
 intro cap a;refine⟨_,Sub.refl _,?_⟩;have d:∀q,(cQ z.cells.toList q).length=q*k:=λq=>by rw[mh];simp[r]
 have f:(ov++(nv++cQ z.cells.toList (cap-(sn+m)))).length=cap*k:=by
  simp only[Z5,b,<-hn.length,c,d];rw[<-q2i,<-q2i];congr 1;omega
 have i:OR (fm φ n ⟨h.n,0,cap*k⟩) ⟨h.n,0,cap*k⟩ (.cells (old++new) j) (.cells (ov++(nv++cQ z.cells.toList (cap-(sn+m)))).toArray e (0,0)):=by
  refine⟨_,e,_,rfl,?_,by simp only[List.size_toArray,f];omega,jh _ _,λ_=>rfl,?_⟩
  ·simp only[Z5,c,ho.length,b];rw[<-q2i];exact q1h k a
  ·rw[<-q0q];exact CR.mono (g.ple _) (CR.of (ho.append hn) _)
 exact l _ _ _ _ (.slice (some ⟨h.n,0,none⟩) (sn+m) cap) _ (g.ple _) (g.new i aa) (.rw (p:=⟨h.n,0,cap*k⟩) (bG _ _ _) (λ_=>by simp) (Z6 _) a (by simp)) o
theorem CZ {b C a:Nat} {p:Pl} {l:List AV} {w:Bool} (g:HR φ H n h0 h) (N:cD φ h0 κ K) (O:κ (.rw n 0 (sn+m) k 0) ((H.set none aa b).set (some (.cells (old++new) w)) aa n) (n+1))
 (hu:Tryz.prog.underlying t=some (.slice e)) (x:Tryz.prog.underlying u=some ud) (y:∀q,ud≠ .int q) (A:aE Tryz.prog e=some k) (D:kq Tryz.prog e=some by') (E:cZ Tryz.prog e=some z) (P:z.cells.size=k) (c2:0<by')
 (j:bY h k xv=some (m,nv)) (hn:VRs φ new nv) (F:new.length=m*k) (r:new.all oH=true) (G:(sn+m)*by'<=140737488355328)
 (Q:H.get b=some (.cells l w)) (R:φ b=some p) (ha:p.s<=a) (hC:sn<=C) (hT:a+C*k<=p.s+p.T) (c:(sn=0/\old=[])∨bq l (a-p.s) (sn*k)=some old):iQ Tryz.prog t u (.slice (some ⟨p.B,a,none⟩) sn C) xv h (tC K):=by
 obtain⟨ob,hB,S,I,ty,fz,rfl,q1,q2,U,q4,V⟩:=g.of Q R
 obtain⟨ov,J,ho,f,v⟩:∃ov,cO I a (sn*k)=some ov/\VRs φ old ov/\CR φ I a old/\old.length=sn*k:=by
  rcases c with⟨rfl,rfl⟩|c
  ·exact⟨[],by rw[q1o];rfl,.nil,λi a h=>by simp at h,by simp⟩
  ·obtain⟨vs,W,g2⟩:=V.sub c;obtain⟨g3,X⟩:=br c;have Y:p.s+(a-p.s)=a:=by omega
   rw[Y]at W;refine⟨vs,W,g2,?_,by rw[X];simp;omega⟩;have:=CR.drop (o:=a-p.s) (m:=sn*k) V;rw[Y,<-X]at this;exact this
 have L:ov.length=sn*k:=by rw[<-ho.length];exact v
 refine⟨e,ud,k,by',z,m,nv,hu,x,y,A,D,E,P,c2,j,λd=>?_,λ_=>⟨G,ov,by simp only[bY,S,J,q0h],vq N O (g.kill aa b) ho hn L F P⟩⟩
 (try simp only[uD,S])
 have hCk:(sn+m)*k<=C*k:=q1h k d;have Z:(sn+m)*k=sn*k+m*k:=q2i _ _ _;have hnvl:=hn.length;refine⟨mI hn r,by omega,U.sub (by omega),_,Sub.refl _,?_⟩
 have M:OR (fm φ n ⟨p.B,a,C*k⟩) ⟨p.B,a,C*k⟩ (.cells (old++new) w) (.cells (eu I (a+sn*k) nv) ty fz):=by
  refine⟨_,ty,fz,rfl,by simp only[Z5];omega,by rw[ft];simp only;omega,U.sub (by simp only;omega),q4,CR.mono (g.ple _) (CR.append ?_ ?_)⟩
  ·exact CR.kept f (by simp only;omega)
  ·simp only;rw[v];exact CR.wrote hn (by omega)
 exact N _ _ _ _ (.slice (some ⟨p.B,a,none⟩) (sn+m) C) _ (g.ple _) (g.rename (q:=⟨p.B,a,C*k⟩) Q R rfl M aa aa) (.rw (p:=⟨p.B,a,C*k⟩) (bG _ _ _) (λ_=>by simp) (Z6 _) d (by simp)) O
theorem C4 {G:AH} {R:Bool} (d:HR φ G n h0 h) (S:cD φ h0 κ K) (T:κ (.rw n 0 (0+m) k 0) (G.set (some (.cells ([]++new) R)) aa n) (n+1))
 (hu:Tryz.prog.underlying t=some (.slice e)) (B:Tryz.prog.underlying u=some ud) (C:∀q,ud≠ .int q) (D:aE Tryz.prog e=some k) (E:kq Tryz.prog e=some by') (F:cZ Tryz.prog e=some z) (U:z.cells.size=k) (c2:0<by')
 (i:bY h k xv=some (m,nv)) (hn:VRs φ new nv) (I:new.length=m*k) (J:(0+m)*by'<=140737488355328):iQ Tryz.prog t u (.slice none 0 0) xv h (tC K):=by
 refine⟨e,ud,k,by',z,m,nv,hu,B,C,D,E,F,U,c2,i,λL=>?_,λ_=>⟨J,[],rfl,vq S T d .nil hn (by simp) I U⟩⟩;have hm:m=0:=by omega
 subst hm;have j:new=[]:=q0c (by omega);subst j;refine⟨_,Sub.refl _,S φ _ _ _ (.slice none 0 0) h (PLe.refl _) ?_ .rwn T⟩
 have f:φ n=none:=by
  cases hq:φ n with
  |none=>rfl
  |some p=>exact absurd (d.dom n p hq).1 (q3g _)
 refine⟨λb p v=>⟨Nat.lt_succ_of_lt (d.dom b p v).1,(d.dom b p v).2⟩,λb o v=>?_,λx y q V px w M N O g l c ee=>?_,d.base,d.size,λz A=>⟨(d.frz z A).1,λy W w N g c=>?_⟩,d.dQ (Z6 _) (λx Q M=>?_) (λ_ h=>h) (λ_ h=> .inl h) (λ_ _ _ _ _=>rfl) λX Y p' e1 e2 P=>?_⟩;rotate_left 3
 ·rcases PM.ak aa _ n x _ M with⟨_,a⟩|⟨_,a⟩
  ·injection a with a;cases a
  ·exact⟨a,rfl⟩
 ·rcases PM.ak aa _ n X Y e1 with⟨rfl,_⟩|⟨_,a⟩
  ·rw[f]at P;cases P
  ·exact .inl ⟨X,Y,p',a,e2,P,rfl⟩
 rotate_left 2
 ·rcases PM.ak aa _ n y W N with⟨rfl,_⟩|⟨_,a⟩
  ·rw[f]at c;cases c
  ·exact(d.frz z A).2 y W w a g c
 ·rcases PM.ak aa _ n b o v with⟨rfl,a⟩|⟨_,a⟩
  ·injection a with a;subst a;exact .inl ⟨f,rfl⟩
  ·exact d.live b o a
 ·have old:∀z r Z,(G.set (some (.cells ([]++ []) R)) aa n).get z=some r->φ z=some Z->G.get z=some r:=λz r Z A s=>by
   rcases PM.ak aa _ n z r A with⟨rfl,_⟩|⟨_,a⟩
   ·rw[f]at s;cases s
   ·exact a
  exact d.inj x y q V px w (old x q px M l) (old y V w N c) O g l c ee
end
theorem C5(F:HR φ H n h0 h){t:TypeId}{s x:AV}{V xv:Value}{κ:PK}{K:KH}(hs:VR φ s V)(W:VR φ x xv)(J:G9 t s x H n κ)(hk:cD φ h0 κ K):ot Tryz.prog t V xv h K:=by
 cases J with
 |mk k m g b o c kk bx ox kx qx l X new l' z L M hq ty N O i j d k'=>
  obtain⟨el,hu,P⟩:=ty;have r:=hs.hd;rw[L]at r;rw[M]at W;obtain⟨p,C,Y,rfl,_,_⟩:=r.eT;obtain⟨Z,hB,hf,cc,ty,fz,rfl,h1,G,I,Q,v⟩:=F.of i Y;obtain⟨s1,s2⟩:=br O
  have key:Lt xv=some m/\∃w,k9 h k (min m g) xv=some w/\VRs φ (new.take (min m g*k)) w:=by
   rcases W.gX with⟨rfl,R⟩|⟨q,a,D,y,rfl,J,g3,g4,g7,g5,g6⟩
   ·rw[R.nil hq];exact⟨rfl,[],rfl,by simpa using VRs.nil⟩
   ·refine⟨rfl,?_⟩
    have kc:∃c t fz,h.f q.B=some (.cells c t fz)/\CR φ c q.s X:=by
     rcases N with i|⟨z,i⟩
     ·obtain⟨Z,_,G,c,t,fz,rfl,I,Q,v⟩:=F.of i y;exact⟨c,t,fz,G,v⟩
     ·obtain⟨Z,_,G,c,t,fz,rfl,I,Q,_,_,v⟩:=F.of i y;exact⟨c,t,fz,G,v⟩
    obtain⟨c2,t2,fz2,e1,e2⟩:=kc;by_cases hz:min m g=0
    ·rw[hz];exact⟨[],by simp only[k9,e1,q1o,cO],by simpa using VRs.nil⟩
    ·have hm:m≠0:=by omega
     have:=J hm;subst this;have S:min m g*k<=m*k:=q1h _ (by omega)
     have A:bq X ox (min m g*k)=some (new.take (min m g*k)):=by
      unfold bq;rw[q0o (by omega),s2,List.take_take,q3q S]
     obtain⟨w,T,E⟩:=e2.sub A;exact⟨w,by simp only[k9,e1,T],E⟩
  obtain⟨U,w,T,E⟩:=key;obtain⟨q1,q2,q3⟩:=iD _ _ _ _ d;have hgl:=E.length
  (try simp only[ot,hu,U,P,T,hf])
  refine⟨mI E j,by omega,I.sub (by omega),?_⟩;refine hk _ _ _ _ _ _ (PLe.refl _) (F.put i Y ?_ aa) (.si _ _) k';exact⟨_,ty,fz,rfl,by omega,by rw[ft];omega,I,Q,v.set d E (by omega)⟩
theorem Fw(D:HR φ H n h0 h){t u:TypeId}{s x:AV}{sv xv:Value}(N:VR φ s sv)(T:VR φ x xv)(V:eY t u s x H n κ)(O:cD φ h0 κ K):iQ Tryz.prog t u sv xv h (tC K):=by
 cases V with
 |grow k by' m sn new old G zz ty src d F row A I=>
  obtain⟨e,ud,z,L,g,i,j,r,v,E,M,c3⟩:=ty.h;obtain⟨nv,w,y⟩:=pR D T src;cases row with
  |nsl=>
   rw[N.c9];exact C4 D O I L g i j r v E M w y d A
  | @rw b o _ l _ _ U f=>
   rcases N.gX with⟨rfl,J⟩|⟨p,a,C,P,rfl,V,Z,g4,g7,g5,g6⟩
   ·have:=J.nil (by decide);subst this;obtain⟨_,rfl⟩:=br f;rw[q1o,List.take_zero]at I;exact C4 (D.kill aa b) O I L g i j r v E M w y d A
   ·refine CZ D O I L g i j r v E M w y d F A U P Z g4 (g5 (by decide)) ?_;by_cases W:sn=0
    ·subst W;obtain⟨_,rfl⟩:=br f;exact .inl ⟨rfl,by simp⟩
    ·have:=V W;subst this;exact .inr (by rw[q3h];exact f)
  | @sl b o _ c l _ _ U f hnc hc=>
   obtain⟨p,C,P,rfl,hC0,_⟩:=N.eT;have:=hC0 rfl
   subst this;obtain⟨ob,_,_,cc,ty,fz,rfl,q1,_⟩:=D.of U P;exact CZ D O I L g i j r v E M w y d F A U P (q0u _ _) hnc (by omega) (.inr (by rw[q3h];exact f))
 |exact k by' m b o sn new old Q ty src d F hm row A I=>
  obtain⟨e,ud,z,L,g,i,j,r,v,E,M,c3⟩:=ty.h;obtain⟨nv,w,y⟩:=pR D T src;obtain⟨ov,X,R⟩:=pR D N row;subst Q
  have Y:ov.length=sn*k:=by
   cases row with
   |rw _ f=>obtain⟨g1,g2⟩:=br f;rw[<-R.length,g2];simp;omega
   |old e=>cases e
  rcases N.gX with⟨rfl,J⟩|⟨p,a,C,P,rfl,V,Z,g4,g7,g5,g6⟩
  ·have:=J.nil (by decide);subst this;exact⟨e,ud,k,by',z,m,nv,L,g,i,j,r,v,E,M,w,λS=>by omega,λ_=>⟨A,ov,X,vq O I D R y Y d E⟩⟩
  ·have:=g6 rfl
   exact⟨e,ud,k,by',z,m,nv,L,g,i,j,r,v,E,M,w,λS=>by omega,λ_=>⟨A,ov,X,vq O I D R y Y d E⟩⟩
 |dQ k by' b o sn q l zz Q hq ty src U I=>
  obtain⟨e,ud,z,L,g,i,j,r,v,E,M,c3⟩:=ty.h;obtain⟨nv,w,y⟩:=pR D T src;have hnv:=y.aU;subst hnv;subst Q;rcases N.gX with⟨rfl,J⟩|⟨p,a,C,P,rfl,V,Z,g4,g7,g5,g6⟩
  ·have:=J.nil hq;subst this;exact⟨e,ud,k,by',z,0,[],L,g,i,j,r,v,E,M,w,λ_=>⟨h,Sub.refl _,O φ _ _ _ (.slice none 0 0) h (PLe.refl _) D N I⟩,λhgt=>by omega⟩
  ·obtain⟨ob,_,h2,cc,tt,fz,rfl,q1,q2,q3,_,_⟩:=D.of U P;refine⟨e,ud,k,by',z,0,[],L,g,i,j,r,v,E,M,w,λ_=>?_,λhgt=>by omega⟩;unfold uD;dsimp only;rw[h2];refine⟨rfl,by simp only[q1j];omega,rI.sub q3 (by simp only[q1j];omega),h,⟨rfl,λx o e=>?_⟩,O φ _ _ _ _ h (PLe.refl _) D N I⟩;by_cases T:x=p.B
   ·subst T;rw[bX];rw[h2]at e;exact e
   ·rw[aY _ _ _ _ T];exact e
theorem cn{o:Op}(ho:bV o=false)(a:dG Tryz.prog o ρ h λv=>K v h):bK Tryz.prog o ρ h K:=by
 unfold bK;rw[ho];exact a
theorem gJ{o:Op}(ho:bV o=true)(a:nZ Tryz.prog o ρ h K):bK Tryz.prog o ρ h K:=by
 unfold bK;rw[ho];exact a
theorem wL{l:List Operand}{s x:AV}(b:FR φ σ ρ)(e:l.map (eev σ)=[s,x]):∃v u,l.map ρ.ev=[v,u]/\VR φ s v/\VR φ x u:=by
 have hm:=VRs.map b.ev l;rw[e]at hm;obtain⟨c,us,a,d,f⟩:=hm.cons_inv;obtain⟨g,ws,i,j,o⟩:=f.cons_inv;rw[i,o.aU]at a;exact⟨c,g,a,d,j⟩
theorem Sa{l:List Operand}{s x y:AV}(b:FR φ σ ρ)(e:l.map (eev σ)=[s,x,y]):∃v u w,l.map ρ.ev=[v,u,w]/\VR φ s v/\VR φ x u/\VR φ y w:=by
 have hm:=VRs.map b.ev l;rw[e]at hm;obtain⟨c,us,a,d,f⟩:=hm.cons_inv;obtain⟨g,ws,i,j,o⟩:=f.cons_inv;obtain⟨p,xs,q,r,A⟩:=o.cons_inv;rw[i,q,A.aU]at a;exact⟨c,g,p,a,d,j,r⟩
theorem Sb{l:List Operand}{s:AV}(b:FR φ σ ρ)(e:l.map (eev σ)=[s]):∃v,l.map ρ.ev=[v]/\VR φ s v:=by
 have hm:=VRs.map b.ev l;rw[e]at hm;obtain⟨c,us,a,d,f⟩:=hm.cons_inv;rw[f.aU]at a;exact⟨c,a,d⟩
theorem uO(B:oj call)(j:HR φ H n h0 h)(A:FR φ σ ρ){c:Call}(b:uL c call σ H n κ)(C:cD φ h0 κ K):bK Tryz.prog (.call c) ρ h K:=by
 have hm:=VRs.map A.ev c.args.toList;have fin:∀r u,κ r H n->VR φ r u->K u h:=λr u d E=>C φ r H n u h (PLe.refl _) j E d
 obtain⟨callee,args,p⟩:=c;unfold uL at b;dsimp only at b hm;split at b
 ·rename_i f;have F:=A.ev f;split at b
  ·rename_i g a cs q;rw[q]at F;obtain⟨J,L,M,d,i⟩:=F.nu;refine gJ rfl ?_
   show yV Tryz.prog (ρ.ev f) (args.map ρ.ev) h K;rw[M];show dI Tryz.prog g (J++args.map ρ.ev++L) h K;refine B g _ _ _ _ b φ h0 h _ K j ?_ C;rw[q3v,q3v,q3y];exact(d.append hm).append i
  ·exact b.elim
 ·refine cn rfl ?_
  show dJ Tryz.prog .len p.toList (args.toList.map ρ.ev) h λv=>K v h
  split at b
  ·rename_i t x D l;obtain⟨v,o,d⟩:=Sb A l;rw[D,o];exact wK j d b λr u=>fin r u
  ·exact b.elim
 ·refine cn rfl ?_
  show dJ Tryz.prog .min p.toList (args.toList.map ρ.ev) h λv=>K v h
  split at b
  ·rename_i x y l;obtain⟨v,u,o,d,i⟩:=wL A l;rw[o];exact iF d i b λr u=>fin r u
  ·rename_i x y z l;obtain⟨v,u,w,o,d,i,I⟩:=Sa A l;rw[o];exact iF d i b λr u j E=>iF E I j λr u=>fin r u
  ·exact b.elim
 ·refine cn rfl ?_
  show dJ Tryz.prog .max p.toList (args.toList.map ρ.ev) h λv=>K v h
  split at b
  ·rename_i x y l;obtain⟨v,u,o,d,i⟩:=wL A l;rw[o];exact iF d i b λr u=>fin r u
  ·rename_i x y z l;obtain⟨v,u,w,o,d,i,I⟩:=Sa A l;rw[o];exact iF d i b λr u j E=>iF E I j λr u=>fin r u
  ·exact b.elim
 ·refine gJ rfl ?_
  show iR Tryz.prog .append p.toList (args.toList.map ρ.ev) h K;split at b
  ·rename_i t u s x D l;obtain⟨v,w,o,d,i⟩:=wL A l;rw[D,o];unfold G8 at b;cases G:(isR s||isR x)with
   |true=>rw[G]at b;exact Fw j d i b C
   |false=>rw[G]at b;exact zl C b (λ_ _ _ e=>mj j d i e) (λ_ _ _ e=>mj j d.hd i.hd e)
  ·exact b.elim
 ·refine gJ rfl ?_
  show iR Tryz.prog .copy p.toList (args.toList.map ρ.ev) h K;split at b
  ·rename_i t u s x D l;obtain⟨v,w,o,d,i⟩:=wL A l;rw[D,o];unfold R4 at b;cases G:isR x with
   |true=>rw[G]at b;exact C5 j d i b C
   |false=>rw[G]at b;exact zl C b (λ_ _ _ e=>oP j d i e) (λ_ _ _ e=>oP j d.hd i.hd e)
  ·exact b.elim
 ·refine gJ rfl ?_
  show iR Tryz.prog .delete p.toList (args.toList.map ρ.ev) h K;split at b
  ·rename_i t u s x D l;obtain⟨v,w,o,d,i⟩:=wL A l;rw[D,o];exact zl C b (λ_ _ _ e=>qT j d i e) (λ_ _ _ e=>qT j d i.hdK e)
  ·exact b.elim
 ·exact b.elim
theorem oT{t:TypeId}{k:IntKind}(h:pQ Tryz.prog t=some k):Tryz.prog.underlying t=some (.int k):=by
 unfold pQ at h;split at h
 ·rename_i e;injection h with h;subst h;exact e
 ·cases h
theorem MR.at{φ:Ph}:∀{es:List (AV×AV)} {ms:List MapEntry},MR φ es ms->∀{i:Nat} {m:MapEntry},ms[i]?=some m->∃e,es[i]?=some e/\VR φ e.1 m.key/\VR φ e.2 m.val
 | [],ms,h,i,m,e=>by rw[show ms=[] from h]at e;simp at e
 |x::es,ms,⟨f,us,a,b,c,d⟩,0,m,e=>by
  subst a;simp only[q1t,q1z]at e;subst e;exact⟨x,rfl,b,c⟩
 |x::es,ms,⟨f,us,a,b,c,d⟩,i+1,m,e=>by
  subst a;simp only[q1g]at e⊢;exact MR.at d e
theorem zn(c:HR φ H n h0 h){a:AV}{v:Value}{it b m:Nat}{seen:List Nat}{es:List (AV×AV)}(l:a= .ptr it 0)(hv:VR φ a v)(hi:H.get it=some (.iter b m seen))(o:H.get b=some (.map es))(r:es.length=m):
 ∃p q ms,p.s+0=0/\φ it=some p/\φ b=some q/\v= .pointer (some ⟨p.B,p.s+0,none⟩)/\h.f p.B=some (.mapIter (some q.B) m seen.toArray m)/\h.f q.B=some (.map ms m)/\MR φ es ms.toList/\wv ms.toList m:=by
 subst l r;obtain⟨p,d,rfl⟩:=hv.cw;obtain⟨w,_,x,hs0,q,g,rfl⟩:=c.of hi d;obtain⟨w,_,y,ms,cl,rfl,i,j⟩:=c.of o g;have:cl=es.length:=j.1.trans i.length.symm;subst this;exact⟨p,q,ms,by omega,d,g,rfl,x,y,i,j⟩
theorem wM(c:HR φ H n h0 h){a:AV}{v:Value}{it b m:Nat}{seen bs:List Nat}{es:List (AV×AV)}(i:a= .ptr it 0)(hv:VR φ a v)(hi:H.get it=some (.iter b m seen))(j:H.get b=some (.mp es bs m)):
 ∃p q ms,p.s+0=0/\φ it=some p/\φ b=some q/\v= .pointer (some ⟨p.B,p.s+0,none⟩)/\h.f p.B=some (.mapIter (some q.B) m seen.toArray m)/\h.f q.B=some (.map ms m)/\MR φ es ms.toList/\(ms.toList.map λx=>x.born)=bs:=by
 subst i;obtain⟨p,d,rfl⟩:=hv.cw;obtain⟨l,_,o,hs0,q,g,rfl⟩:=c.of hi d;obtain⟨l,_,r,ms,rfl,w,y⟩:=c.of j g;exact⟨p,q,ms,by omega,d,g,rfl,o,r,w,y⟩
theorem Fx (g:HR φ H n h0 h) {a:AV} {v:Value} {κ:PK} {K:KH} {it b m:Nat} {seen bs:List Nat} {es:List (AV×AV)} (hv:VR φ a v) (A:a= .ptr it 0) (hi:H.get it=some (.iter b m seen)) (C:H.get b=some (.mp es bs m)) (D:∀x∈bs,x<m)
 (tc:(∀x∈bs,x∈seen)->κ (.tup [.bool false]) H n)
 (step:∀(i:Nat) e x,es[i]?=some e->bs[i]?=some x->x∉seen->κ (.tup [.bool true,Go.Proofs.YtflehenfikoniaaGreat.mk e.1,e.2]) (H.set (some (.iter b m (seen++ [x]))) aa it) n) (y:cD φ h0 κ K):uF v false h K:=by
 obtain⟨p,q,ms,E,F,G,rfl,I,J,L,M⟩:=wM g A hv hi C;subst M;rw[E]
 (try simp only[uF,I,J])
 refine⟨λe d=>D _ (List.mem_map_of_mem d),Z6 _,λh0=>?_,λe d=>?_⟩
 ·refine y φ _ H n _ h (PLe.refl _) g (.tup (.cons (.bool _) .nil)) (tc λx j=>?_);obtain⟨e,d,rfl⟩:=q0e.1 j;have c:e∉qt ms.toList seen.toArray:=by rw[h0];simp
  simp only[qt,q1b,d,true_and]at c;simpa using c
 ·simp only[qt,q1b]at d;obtain⟨l,o⟩:=d;obtain⟨i,f⟩:=List.getElem?_of_mem l;obtain⟨x,j,r,s⟩:=L.at f;have w:e.born∉seen:=by simpa using o
  have ho:OR φ p (.iter b m (seen++ [e.born])) (.mapIter (some q.B) m (seen.toArray.push e.born) m):=⟨by omega,q,G,by simp⟩;exact y φ _ _ n _ _ (PLe.refl _) (g.put hi F ho aa) (.tup (.cons (.bool _) (.cons r.mk (.cons s .nil)))) (step i x e.born j (by rw[q0s,f];rfl) w)
theorem Fy (E:HR φ H n h0 h) {a:AV} {v:Value} {κ:AV->Prop} {K:Value->Prop} {it b m i x:Nat} {seen bs:List Nat} {es:List (AV×AV)} {e:AV×AV} (hv:VR φ a v) (F:a= .ptr it 0) (hi:H.get it=some (.iter b m (seen++ [x]))) (G:H.get b=some (.mp es bs m)) (f:bs.Nodup) (D:bs[i]?=some x) (I:es[i]?=some e)
 (k:κ (.tup [Go.Proofs.YtflehenfikoniaaGreat.mk e.1,e.2])) (J:∀r u,κ r->VR φ r u->K u):nk v h K:=by
 obtain⟨p,q,ms,L,S,T,rfl,M,N,O,P⟩:=wM E F hv hi G;subst P;rw[L];rw[q0s,Z8]at D;obtain⟨w,g,rfl⟩:=D;obtain⟨y,d,l,o⟩:=O.at g;rw[I]at d;injection d with d;subst d;have s:i<ms.toList.length:=(Y6.1 g).1;have c:ms.toList[i]=w:=(Y6.1 g).2;have A:(seen++ [w.born]).toArray.back?=some w.born:=by simp
 have B:ms.find? (·.born==w.born)=some w:=by
  rw[<-Array.find?_toList,List.find?_eq_some_iff_getElem];refine⟨by simp,i,s,c,λj Q=>?_⟩
  have C:¬(ms.toList[j]'(by omega)).born=w.born:=λq=>by
   have R:(ms.toList.map λx=>x.born)[j]'(by rw[Y9];omega)=(ms.toList.map λx=>x.born)[i]'(by rw[Y9];omega):=by
    rw[List.getElem_map,List.getElem_map,c];exact q
   exact q3n.1 f j i (by rw[Y9];omega) (by rw[Y9];omega) Q R
  simpa using C
 (try simp only[nk,M,N,A,B])
 exact⟨trivial,J _ _ k (.tup (.cons l.mk (.cons o .nil)))⟩
theorem JN(o:HR φ H n h0 h){a:AV}{v:Value}{s:Bool}{κ:PK}{K:KH}(hv:VR φ a v)(M:Nxt H a s λv H=>κ v H n)(y:cD φ h0 κ K):uF v s h K:=by
 rcases M with⟨it,b,m,seen,es,rfl,A,r,C,D,tc,step⟩|⟨it,b,m,seen,es,bs,rfl,A,r,C,D,tc,step⟩
 case mp=>exact Fx o hv A r C D tc step y
 obtain⟨p,q,ms,N,O,P,rfl,Q,R,S,f⟩:=zn o A hv r C D;rw[N]
 (try simp only[uF,Q,R])
 refine⟨λe w=>?_,Z6 _,λh0=>?_,λe w=>?_⟩
 ·obtain⟨i,c⟩:=List.getElem?_of_mem w;have:=(Y6.1 c).1;rw[f.2 i e c,f.1];omega
 ·refine y φ _ H n _ h (PLe.refl _) o (.tup (.cons (.bool _) .nil)) (tc λi E=>?_);have g:i<ms.toList.length:=by rw[<-f.1];exact E
  have d:ms.toList[i]∉qt ms.toList seen.toArray:=by rw[h0];simp
  have F:=f.2 i _ (Y0 g);simp only[qt,q1b,q0i,true_and,F]at d;simpa using d
 ·simp only[qt,q1b]at w;obtain⟨G,j⟩:=w;obtain⟨i,c⟩:=List.getElem?_of_mem G;have l:=f.2 i e c;obtain⟨x,T,I,J⟩:=S.at c;have L:i∉seen:=by rw[l]at j;simpa using j
  have ho:OR φ p (.iter b m (seen++ [i])) (.mapIter (some q.B) m (seen.toArray.push e.born) m):=⟨by omega,q,P,by rw[l];simp⟩;exact y φ _ _ n _ _ (PLe.refl _) (o.put r O ho aa) (.tup (.cons (.bool _) (.cons I.mk (.cons J .nil)))) (step i x T L)
theorem JO(F:HR φ H n h0 h){a:AV}{v:Value}{κ:AV->Prop}{K:Value->Prop}(hv:VR φ a v)(J:Ent H a κ)(G:∀r u,κ r->VR φ r u->K u):nk v h K:=by
 rcases J with⟨it,b,m,i,seen,es,e,g,l,o,I,f,k⟩|⟨it,b,m,i,x,seen,es,bs,e,g,l,o,s,d,f,k⟩
 case mp=>exact Fy F hv g l o s d f k G
 obtain⟨p,q,ms,L,P,Q,rfl,M,N,O,w⟩:=zn F g hv l o I;rw[L];have c:i<ms.toList.length:=by rw[<-w.1,<-I];exact(Y6.1 f).1
 obtain⟨x,d,y,A⟩:=O.at (Y0 c);have B:=w.2 i _ (Y0 c);rw[f]at d;injection d with d;subst d;have C:(seen++ [i]).toArray.back?=some i:=by simp
 have D:ms.find? (·.born==i)=some ms.toList[i]:=by
  rw[<-Array.find?_toList,List.find?_eq_some_iff_getElem];refine⟨by simpa using B,i,c,rfl,λj R=>?_⟩;have:=w.2 j _ (Y0 (by omega));have E:¬(ms.toList[j]'(by omega)).born=i:=by rw[this];omega
  simpa using E
 (try simp only[nk,M,N,C,D])
 exact⟨trivial,G _ _ k (.tup (.cons y.mk (.cons A .nil)))⟩
theorem C6(D:oj call)(j:HR φ H n h0 h)(g:FR φ σ ρ){o:Op}(i:wG o call σ H n κ)(A:cD φ h0 κ K):bK Tryz.prog o ρ h K:=by
 have fin:∀r u,κ r H n->VR φ r u->K u h:=λr u E G=>A φ r H n u h (PLe.refl _) j G E
 unfold wG at i;split at i
 ·exact cn rfl (fin _ _ i (g.ev _))
 ·exact cn rfl (fin _ _ i (g.ev _))
 ·rename_i c a b;obtain⟨q,E,w,N⟩:=zm (g.ev c) i;refine cn rfl ?_
  (try simp only[dG,E])
  cases q with
  |true=>exact fin _ _ (w rfl) (g.ev _)
  |false=>exact fin _ _ (N rfl) (g.ev _)
 ·exact cn rfl (oQ j (g.ev _) i λr u=>fin r u)
 ·exact gJ rfl (rX j (g.ev _) (g.ev _) i A)
 ·exact cn rfl (wJ j (g.ev _) (g.ev _) i λr u=>fin r u)
 ·exact cn rfl (zj (g.ev _) i λr u=>fin r u)
 ·exact cn rfl (mJ (g.ev _) (g.ev _) i λr u=>fin r u)
 ·exact cn rfl (rW (g.ev _) (g.ev _) i λr u=>fin r u)
 ·rename_i t x lo Z mx;refine cn rfl ?_
  show dz Tryz.prog t (ρ.ev x) (lo.map ρ.ev) (Z.map ρ.ev) (mx.map ρ.ev) λv=>K v h
  exact rZ (κ:=λv=>κ v H n) g i λr u=>fin r u
 ·exact gJ rfl (zl A i (λ_ _ _ e=>oO j (g.ev _) (g.ev _) e) (λ_ _ _ e=>oO j (g.ev _).hd (g.ev _).hd e))
 ·rename_i s d x;refine gJ rfl ?_
  show iB Tryz.prog s d (ρ.ev x) h K;unfold R5 at i;split at i
  ·rename_i a q;have F:=g.ev x;rw[q]at F;rw[F.gi];split at i
   ·rename_i R S e1 e2
    (try simp only[iB,oT e1,oT e2])
    exact fin _ _ i (.si _ _)
   ·exact i.elim
  ·have F:=g.ev x;cases i with
   |mk b o m k' q l' new T O hq ty I P l J=>
    obtain⟨el,U,V,W⟩:=ty;rw[O]at F;rcases F.gX with⟨rfl,Q⟩|⟨p,y,C,X,hv,ha,g3,g4,g7,g5,g6⟩
    ·rw[Q.nil hq];obtain⟨_,rfl⟩:=br P;have l:lj []=some T:=by simpa using l
     injection l with l;subst l
     (try simp only[iB,U,W])
     exact⟨V,fin _ _ J (.ss (s:=[]) (λ_ F=>by cases F))⟩
    ·rw[hv]
     have key:∃c t fz,h.f p.B=some (.cells c t fz)/\CR φ c p.s l':=by
      rcases I with I|⟨z,I⟩
      ·obtain⟨ob,_,w,c,t,fz,rfl,N,h4,L⟩:=j.of I X;exact⟨c,t,fz,w,L⟩
      ·obtain⟨ob,_,w,c,t,fz,rfl,N,h4,_,_,L⟩:=j.of I X;exact⟨c,t,fz,w,L⟩
     obtain⟨c,t,fz,w,L⟩:=key
     obtain⟨M,R,S⟩:∃M,cO c y m=some M/\VRs φ new M:=by
      by_cases Y:m=0
      ·subst Y;obtain⟨_,rfl⟩:=br P;exact⟨[],rfl,by simpa using VRs.nil⟩
      ·have:=ha Y;subst this;exact L.sub P
     obtain⟨k3,k4⟩:=lU new T M S l;simp only[iB,U,W,w,R,q2e,k3];exact⟨V,fin _ _ J (.ss k4)⟩
  ·exact zl A i (λ_ _ _ e=>oN j (g.ev x) e) (λ_ _ _ e=>oN j (g.ev x).hd e)
 ·exact uO D j g i A
 ·rename_i t m k ok;refine cn rfl ?_
  show fO Tryz.prog t (ρ.ev m) (ρ.ev k) ok h λv=>K v h
  cases q:JB (eev σ k)with
  |true=>
   rw[q]at i;obtain⟨r,E,w⟩:=Ask.inv i;exact ia j (g.ev _) (g.ev _).hdK E λu G=>fin r u w G
  |false=>
   rw[q]at i;obtain⟨r,E,w⟩:=aV i;exact ia j (g.ev _) (g.ev _) E λu G=>fin r u w G
 ·exact gJ rfl (JN j (g.ev _) i A)
 ·exact cn rfl (JO j (g.ev _) i λr u=>fin r u)
 ·exact gJ rfl (zl A i (λ_ _ _ e=>jD j (g.ev _) (g.ev _) (g.ev _) e) (λ_ _ _ e=>jD j (g.ev _) (g.ev _).hdK (g.ev _) e))
 ·exact uN j g i A
end
def Sg{α:Type}(m:(α->Prop)->Prop):Prop:=∀b,m b->∃v,b v/\∀a:α->Prop,a v->m a
section
variable {α β:Type}
theorem Sg.one(a:α):Sg (λκ=>κ a):=λ_ h=>⟨a,h,λ_ h=>h⟩
theorem Sg.no:Sg (λ_:α->Prop=>False):=λ_ h=>h.elim
theorem Sg.opt(o:Option α):Sg (λκ=>cx o κ):=λκ h=>by
 obtain⟨a,rfl,k⟩:=aV h;exact⟨a,k,λ_ h=>h⟩
theorem Sg.ask(o:Option α):Sg (λκ=>Ask o κ):=λ_ ⟨a,h,k⟩=>⟨a,k,λ_ b=>⟨a,h,b⟩⟩
theorem Sg.idx(i:Int)(len:Nat):Sg (λκ=>Idx i len κ):=λ_ ⟨j,h,lt,k⟩=>⟨j,k,λ_ a=>⟨j,h,lt,a⟩⟩
theorem Sg.bind{m:(α->Prop)->Prop}{k:α->(β->Prop)->Prop}(b:Sg m)(c:∀a,Sg (k a)):Sg (λκ=>m (λa=>k a κ)):=λκ h=>by
 obtain⟨a,d,e⟩:=b _ h;obtain⟨v,f,g⟩:=c a _ d;exact⟨v,f,λi j=>e _ (g _ j)⟩
theorem Sg.map{m:(α->Prop)->Prop}(f:α->β)(b:Sg m):Sg (λκ=>m (λa=>κ (f a))):=b.bind λa=>Sg.one (f a)
theorem Sg.FD{k:α->(β->Prop)->Prop}(o:Option α)(b:∀a,Sg (k a)):Sg (λκ=>cx o λa=>k a κ):=Sg.bind (Sg.opt o) b
theorem Sg.bif{b:Bool}{m:(α->Prop)->Prop}(a:Sg m):Sg (λκ=>fo b (m κ) False):=by
 cases b
 ·exact Sg.no
 ·exact a
theorem Sg.Pz{b:Bool}{m c:(α->Prop)->Prop}(d:Sg m)(a:Sg c):Sg (λκ=>fo b (m κ) (c κ)):=by
 cases b
 ·exact a
 ·exact d
theorem Sg.PA{b:Bool}{m:(α->Prop)->Prop}(a:Sg m):Sg (λκ=>fo b False (m κ)):=Sg.Pz Sg.no a
theorem Sg.and{p:Prop}{m:(α->Prop)->Prop}(b:Sg m):Sg (λκ=>p/\m κ):=λκ ⟨c,d⟩=>by
 obtain⟨v,e,f⟩:=b κ d;exact⟨v,e,λa g=>⟨c,f a g⟩⟩
theorem Sg.fork{q:Bool}{m g:(α->Prop)->Prop}(i:Sg m)(b:Sg g):Sg (λκ=>ah q (m κ) (g κ)):=λκ h=>by
 cases q with
 |true=>
  obtain⟨v,c,d⟩:=i κ (h.t rfl);exact⟨v,c,λa e=>⟨λ_=>d a e,λq=>by cases q⟩⟩
 |false=>
  obtain⟨v,c,d⟩:=b κ (h.f rfl);exact⟨v,c,λa e=>⟨(λq=>by cases q),λ_=>d a e⟩⟩
theorem Sg.pick(c a b:AV):Sg (λκ=>CW c (κ a) (κ b)):=by
 cases c
 case bool q=>cases q<;>exact Sg.one _
 case sb q=>exact Sg.fork (Sg.one _) (Sg.one _)
 all_goals exact Sg.no
end
theorem Sg.sym{op:BinOp}{k j:IntKind}{a b:Int}{c:Bool}:Sg (λκ=>JC op k j a b c κ):=by
 cases op
 case shl=>cases c<;>first|exact Sg.and (Sg.one _)|exact Sg.PA (Sg.one _)
 case shr=>cases c<;>first|exact Sg.and (Sg.one _)|exact Sg.PA (Sg.one _)
 case quo=>cases c<;>first|exact Sg.bif (Sg.and (Sg.one _))|exact Sg.bif (Sg.PA (Sg.one _))
 case rem=>cases c<;>first|exact Sg.bif (Sg.and (Sg.one _))|exact Sg.bif (Sg.PA (Sg.one _))
 all_goals exact Sg.bif (Sg.one _)
theorem Sg.str{op:BinOp}{a b:List Nat}:Sg (λκ=>JD op a b κ):=by
 cases op
 case add=>exact Sg.and (Sg.one _)
 all_goals first|exact Sg.one _|exact Sg.no
theorem Sg.bol{op:BinOp}{t:TypeId}{a b:Bool}:Sg (λκ=>LZ op t a b κ):=by
 cases op<;>first|exact Sg.bif (Sg.one _)|exact Sg.bif Sg.no
theorem Sg.bin{op:BinOp}{t:TypeId}{x y:AV}{H:AH}:Sg (λκ=>JE op t x y H κ):=by
 unfold JE;split<;>first|exact Sg.sym|exact Sg.str|exact Sg.bol|exact Sg.Pz (Sg.map mk (Sg.opt _)) (Sg.opt _)|exact Sg.opt _
theorem Sg.un{op:UnOp}{x:AV}:Sg (λκ=>unP op x κ):=by
 unfold unP;split<;>first|exact Sg.one _|exact Sg.opt _
theorem Sg.mm{q:Bool}{x y:AV}:Sg (λκ=>mmP q x y κ):=by
 unfold mmP;split<;>first|exact Sg.one _|exact Sg.opt _
theorem Sg.len{t:TypeId}{x:AV}{H:AH}:Sg (λκ=>JF t x H κ):=by
 unfold JF;split<;>first|exact Sg.map mk (Sg.opt _)|exact Sg.opt _|exact Sg.bif (Sg.one _)
theorem Sg.ix{ix:AV}{len:Nat}{s:Bool}:Sg (λκ=>ixP ix len s κ):=by
 unfold ixP;split<;>first|exact Sg.idx _ _|exact Sg.opt _
theorem Sg.indexAddr{t:TypeId}{x ix:AV}:Sg (λκ=>jn t x ix κ):=by
 have h:∀κ,jn t x ix κ=(match Tryz.prog.underlying t,x with
  |some (.slice e),.sl b o n _ _=>cx (aE Tryz.prog e) λk=>ixP ix n false λi=>κ (.ptr b (o+i*k))
  |some (.slice e),.sy b o n _ _=>cx (aE Tryz.prog e) λk=>ixP ix n true λi=>κ (.ptr b (o+i*k))
  |some (.slice e),.rw b o n _ _=>cx (aE Tryz.prog e) λk=>ixP ix n true λi=>κ (.ptr b (o+i*k))
  |some (.slice e),.fr n a l=>cx (aE Tryz.prog e) λk=>fo (Nat.beq k a) (ixP ix n true λi=>κ (.fa l (i*k))) False
  |some (.array len e),.ptr b o=>cx (aE Tryz.prog e) λk=>ixP ix len false λi=>κ (.ptr b (o+i*k))
  |_,_=>False):=λ_=>rfl
 (try simp only[h])
 split<;>first|exact Sg.no|exact Sg.FD _ λk=>Sg.map _ Sg.ix|exact Sg.FD _ λk=>Sg.bif (Sg.map _ Sg.ix)
theorem Sg.index{t:TypeId}{x ix:AV}:Sg (λκ=>tS t x ix κ):=by
 have h:∀κ,tS t x ix κ=(match Tryz.prog.underlying t,x with
  |some (.array len e),.agg l=>cx (aE Tryz.prog e) λk=>ixP ix len false λi=>cx (y5 Tryz.prog e l (i*k)) κ
  |some .string,.str s=>ixP ix s.length false λi=>cx (nth s i) λc=>(match ix with
   | .int _ _=>κ (.int .u8 (Int.ofNat c))
   |_=>κ (.si .u8 (Int.ofNat c)))
  |some .string,.ss s=>ixP ix s.length true λi=>Ask (nth s i) λc=>κ (.si .u8 (Int.ofNat c))
  |_,_=>False):=λ_=>rfl
 (try simp only[h])
 split
 ·exact Sg.FD _ λk=>Sg.bind Sg.ix λi=>Sg.opt _
 ·refine Sg.bind Sg.ix λi=>Sg.FD _ λc=>?_
  split<;>exact Sg.one _
 ·exact Sg.bind Sg.ix λi=>Sg.map _ (Sg.ask _)
 ·exact Sg.no
theorem Sg.get{l:List AV}{t:TypeId}{o:Nat}:Sg (λκ=>wF l t o κ):=by
 have h:∀κ,wF l t o κ=(match nX Tryz.prog t with
  |some false=>cx (nth l o) κ
  |some true=>cx (aE Tryz.prog t) λm=>cx (bq l o m) λr=>κ (.agg r)
  |none=>False):=λ_=>rfl
 (try simp only[h])
 split
 ·exact Sg.opt _
 ·exact Sg.FD _ λm=>Sg.map _ (Sg.opt _)
 ·exact Sg.no
theorem Sg.load{t:TypeId}{a:AV}{H:AH}:Sg (λκ=>uK t a H κ):=by
 have h:∀κ,uK t a H κ=(match a with
  | .ptr b o=>(match H.get b with
   |some (.cells l _)=>wF l t o κ
   |some (.ro l)=>wF l t o κ
   |_=>False)
  | .fa l o=>wF l t o κ
  |_=>False):=λ_=>rfl
 (try simp only[h])
 split
 ·split<;>first|exact Sg.get|exact Sg.no
 ·exact Sg.get
 ·exact Sg.no
theorem Sg.rsl{t:TypeId}{b o n k x:Nat}{lo hi mx:Option AV}:Sg (λκ=>L0 t b o n k x lo hi mx κ):=by
 have h:∀κ,L0 t b o n k x lo hi mx κ=(match Tryz.prog.underlying t with
  |some (.slice e)=>cx (aE Tryz.prog e) λes=>fo (Nat.beq es k) (RSl lo hi mx n λl h=>κ (G7 b o n k x lo hi mx l h)) False
  |_=>False):=λ_=>rfl
 (try simp only[h])
 split
 ·exact Sg.FD _ λes=>Sg.bif (λκ ⟨l,h,a,b,c,d,e,f⟩=>⟨_,f,λg i=>⟨l,h,a,b,c,d,e,i⟩⟩)
 ·exact Sg.no
theorem Sg.fsl{t:TypeId}{n k:Nat}{L:List AV}{lo hi:Option AV}:Sg (λκ=>L1 t n k L lo hi κ):=by
 have h:∀κ,L1 t n k L lo hi κ=(match Tryz.prog.underlying t with
  |some (.slice e)=>cx (aE Tryz.prog e) λes=>fo (Nat.beq es k) (RSl lo hi none n λl h=>κ (.fr (rwN n l h lo hi) k (frL k L l h lo hi))) False
  |_=>False):=λ_=>rfl
 (try simp only[h])
 split
 ·exact Sg.FD _ λes=>Sg.bif (λκ ⟨l,h,a,b,c,d,e,f⟩=>⟨_,f,λg i=>⟨l,h,a,b,c,d,e,i⟩⟩)
 ·exact Sg.no
theorem Sg.slice{t:TypeId}{x:AV}{lo hi mx:Option AV}:Sg (λκ=>iq t x lo hi mx κ):=by
 by_cases a:∃b o n k q,x= .rw b o n k q
 ·obtain⟨b,o,n,k,q,rfl⟩:=a;exact Sg.rsl
 by_cases c:∃n k q,x= .fr n k q
 ·obtain⟨n,k,q,rfl⟩:=c;cases mx with
  |none=>exact Sg.fsl
  |some y=>exact Sg.no
 ·have h:∀κ,iq t x lo hi mx κ=fo (isS x||(iq.tI lo||(iq.tI hi||iq.tI mx))) (Ask (jk Tryz.prog t (hd x) (lo.map hd) (hi.map hd) (mx.map hd)) λv=>κ (mk v)) (cx (jk Tryz.prog t x lo hi mx) κ):=λκ=>by
   cases x<;>first|rfl|exact absurd ⟨_,_,_,_,_,rfl⟩ a|exact absurd ⟨_,_,_,rfl⟩ c
  (try simp only[h])
  exact Sg.Pz (Sg.map mk (Sg.ask _)) (Sg.opt _)
theorem Sg.q{o:Op}{σ:AE}{H:AH}:Sg (λκ=>qP o σ H κ):=by
 unfold qP;split
 ·exact Sg.one _
 ·exact Sg.one _
 ·exact Sg.pick _ _ _
 ·exact Sg.load
 ·exact Sg.bin
 ·exact Sg.un
 ·exact Sg.indexAddr
 ·exact Sg.index
 ·exact Sg.slice
 ·exact Sg.Pz (Sg.ask _) (Sg.opt _)
 ·split<;>first|exact Sg.len|exact Sg.no
 ·split<;>first|exact Sg.mm|exact Sg.no
 ·split<;>first|exact Sg.mm|exact Sg.no
 ·exact Sg.opt _
section
variable {φ:Ph} {H:AH} {n:Nat} {h0 h:Hp} {σ:AE} {ρ:Env} {cd:CP}
theorem Mf(j:HR φ H n h0 h)(e:FR φ σ ρ){o:Op}{κ:AV->Prop}{K:Value->Prop}(d:qP o σ H κ)(f:∀r u,κ r->VR φ r u->K u):dG Tryz.prog o ρ h K:=by
 have l:cx (rS Tryz.prog o σ H) κ->dG Tryz.prog o ρ h K:=λd=>by
  obtain⟨r,g,i⟩:=aV d;exact uJ j e g λu p=>f _ u i p
 unfold qP at d;split at d
 ·exact f _ _ d (e.ev _)
 ·exact f _ _ d (e.ev _)
 ·rename_i c a b;obtain⟨q,g,i,A⟩:=zm (e.ev c) d
  (try simp only[dG,g])
  cases q with
  |true=>exact f _ _ (i rfl) (e.ev _)
  |false=>exact f _ _ (A rfl) (e.ev _)
 ·exact oQ j (e.ev _) d f
 ·exact wJ j (e.ev _) (e.ev _) d f
 ·exact zj (e.ev _) d f
 ·exact mJ (e.ev _) (e.ev _) d f
 ·exact rW (e.ev _) (e.ev _) d f
 ·rename_i t x lo B mx;show dz Tryz.prog t (ρ.ev x) (lo.map ρ.ev) (B.map ρ.ev) (mx.map ρ.ev) K;exact rZ e d f
 ·rename_i t m k ok;show fO Tryz.prog t (ρ.ev m) (ρ.ev k) ok h K;cases q:JB (eev σ k)with
  |true=>
   rw[q]at d;obtain⟨r,g,i⟩:=Ask.inv d;exact ia j (e.ev _) (e.ev _).hdK g λu p=>f r u i p
  |false=>
   rw[q]at d;obtain⟨r,g,i⟩:=aV d;exact ia j (e.ev _) (e.ev _) g λu p=>f r u i p
 ·rename_i xs s;show dJ Tryz.prog .len s.toList (xs.toList.map ρ.ev) h K;split at d
  ·rename_i t x C w;obtain⟨v,z,g⟩:=Sb e w;rw[C,z];exact wK j g d f
  ·exact d.elim
 ·rename_i xs s;show dJ Tryz.prog .min s.toList (xs.toList.map ρ.ev) h K;split at d
  ·rename_i x y w;obtain⟨v,u,z,g,i⟩:=wL e w;rw[z];exact iF g i d f
  ·exact d.elim
 ·rename_i xs s;show dJ Tryz.prog .max s.toList (xs.toList.map ρ.ev) h K;split at d
  ·rename_i x y w;obtain⟨v,u,z,g,i⟩:=wL e w;rw[z];exact iF g i d f
  ·exact d.elim
 ·exact l d
theorem tV{v:AV}:∀{p:Pa} {σ:AE},bj p σ≠ .bad->bj p (tG v p σ)=v
 | .stop,σ,h=>(h rfl).elim
 | .here,.nil,h=>rfl
 | .here,.node _ _ _,h=>rfl
 | .lo p,.nil,h=>(h rfl).elim
 | .lo p,.node l u r,h=>tV (p:=p) (σ:=l) h
 | .hi p,.nil,h=>(h rfl).elim
 | .hi p,.node l u r,h=>tV (p:=p) (σ:=r) h
def gu(H H':AH):Prop:=∀b o,H.get b=some o->H'.get b=some o
theorem gu.refl(H:AH):gu H H:=λ_ _ h=>h
theorem gu.trans{A B C:AH}(h:gu A B)(k:gu B C):gu A C:=λb o e=>k b o (h b o e)
theorem HR.less{H':AH}(a:HR φ H' n h0 h)(c:gu H H'):HR φ H n h0 h:=
 ⟨a.dom,λb o d=>a.live b o (c b o d),λb e o f p g d i=>a.inj b e o f p g (c _ _ d) (c _ _ i),a.base,a.size,λz j=>⟨(a.frz z j).1,λy k l m=>(a.frz z j).2 y k l (c _ _ m)⟩,a.dQ (Z6 _) (λ_ _ h=>⟨c _ _ h,rfl⟩) (λ_ h=>h) (λ_ h=> .inl h) (λ_ _ _ _ _=>rfl) λe f g q r s=> .inl ⟨e,f,g,c _ _ q,r,s,rfl⟩⟩
def uP(cd:CP):Prop:=∀f args H n d,cd f args H n d->∃v b c,d v b c/\gu H b/\n<=c/\∀a:PK,a v b c->cd f args H n a
def zo(φ:Ph)(σ:AE)(a:List Nat)(ρ:Env):Prop:=∀t∈a,VR φ (bj (pa t) σ) (ρ t)
theorem ln:∀{b:List Nat},zo φ σ b ρ->FR φ (lk σ b) ρ
 | [],_,t,a,h=>by cases h
 |s::b,d,t,a,h=>by
  have h:(tG (bj (pa s) σ) (pa s) (lk σ b)).get t=some a:=h;rcases oI eR _ s t a h with⟨rfl,c⟩|⟨_,c⟩
  ·rw[<-c];exact d _ q0b
  ·exact ln (λx e=>d x (Y4 _ e)) t a c
def Mg(ops:Array Oper)(o:Oper)(a:List Nat)(σ:AE)(H:AH)(v:AV):Prop:=∀(φ:Ph) (n:Nat) (h0 h:Hp) (ρ:Env) (K:Env->Hp->Prop),HR φ H n h0 h->zo φ σ a ρ->(∀u,VR φ v u->K (ρ.put o.dst u) h)->bf Tryz.prog ops o ρ h K
def Sc(ops:Array Oper)(o:Oper)(b:List Nat)(σ:AE)(H:AH)(n:Nat)(v:AV)(H':AH)(c:Nat):Prop:=∀(φ:Ph) (h0 h:Hp) (ρ:Env) (K:Env->Hp->Prop),HR φ H n h0 h->zo φ σ b ρ->
 (∀a u g,PLe φ a->HR a H' c h0 g->VR a v u->K (ρ.put o.dst u) g)->bf Tryz.prog ops o ρ h K
def Sup(x:Option AV)(a:AV):Prop:=∀φ u,(∀b,x=some b->VR φ b u)->VR φ a u
theorem Sup.refl{x:Option AV}{a:AV}(h:x=some a):Sup x a:=λφ u k=>k a h
theorem Sup.trans{x y:Option AV}{a:AV}(h:∀b,y=some b->Sup x b)(k:Sup y a):Sup x a:=λφ u q=>k φ u λb c=>h b c φ u q
structure AX(ops:Array Oper)(o:Oper)(b:DB)(hist:List (AH×Nat))(σ:AE)(H:AH)(n:Nat)(σr:AE)(v:AV)(H1:AH)(n1:Nat):Prop where
 sup:∀t a,σr.get t=some a->Sup (σ.get t) a
 grow:mn o.op=false->gu H H1
 le:n<=n1
 loud:bV o.op=true->Sc ops o b.2 σr H n v H1 n1
 still:bV o.op=false->H1=H/\n1=n/\∃G,(∀k r,b.1=some k->nth ((H,n)::hist) k=some r->G=r.1)/\Mg ops o b.2 σr G v
def bOk(o:Oper)(b:DB):Prop:=match b.1 with
 |none=>(vo o.op||mn o.op)=true
 |some _=>bV o.op=false
theorem FE{t:TypeId}{a v:AV}{H:AH}{n:Nat}{κ:PK}(h:nC t a v H n κ):∃H',κ cg H' n/\∀b:PK,b cg H' n->nC t a v H n b:=by
 unfold nC at h;split at h
 ·split at h
  ·rename_i l z c;obtain⟨s,d,e⟩:=aV h;obtain⟨f,g⟩:=gm e;obtain⟨m,i,j⟩:=aV g;refine⟨_,j,λb k=>?_⟩;unfold nC;dsimp only;rw[c];dsimp only;rw[d];show fo _ _ _;rw[f];show cx _ _;rw[i];exact k
  ·exact h.elim
 ·exact h.elim
theorem FF(hcd:oj cd)(hcs:uP cd){ops:Array Oper}{o:Oper}{b:DB}{p:List (AH×Nat)}{k:KP}(C:bOk o b)(G:vp ops o b.2=true)(l:L3 ops o b cd p σ H n k):
 ∃i v Q R,AX ops o b p σ H n i v Q R/\k (cU i o.dst v) Q R:=by
 let go:AE->Prop:=λσ=>(match b.1 with
  |none=>(match o.op with
   | .call c=>uL c cd (lk σ b.2) H n λv H n=>k (cU σ o.dst v) H n
   | .store t a x=>nC t (eev (lk σ b.2) a) (eev (lk σ b.2) x) H n λv H n=>k (cU σ o.dst v) H n
   | .buildSlice t len parts=>fo (Nat.blt n 1000000) (match H.get n with
    |none=>CX (.buildSlice t len parts) (lk σ b.2) H n λv H n=>k (cU σ o.dst v) H n
    |some _=>False) False
   |_=>False)
  |some j=>cx (nth ((H,n)::p) j) λr=>qP o.op (lk σ b.2) r.1 λv=>k (cU σ o.dst v) H n)
 have did:∀i,(∀t a,i.get t=some a->Sup (σ.get t) a)->(∀φ ρ h K,zo φ i b.2 ρ->bK Tryz.prog o.op ρ h (λv h'=>K (ρ.put o.dst v) h')->bf Tryz.prog ops o ρ h K)->go i->
  ∃i v Q R,AX ops o b p σ H n i v Q R/\k (cU i o.dst v) Q R:=by
  intro i w A l;unfold bOk at C;simp only[go]at l;cases W:b.1 with
  |none=>
   rw[W]at l C;dsimp only at l C;split at l
   ·rename_i c m;obtain⟨callee,args,ats⟩:=c;rw[m]at C;cases callee with
    |builtin _=>cases C
    |invoke _ _=>cases C
    |value f=>
     unfold uL at l;dsimp only at l;split at l
     ·rename_i g a cs q;obtain⟨v,O,X,z,I,Z,h4⟩:=hcs _ _ _ _ _ l;refine⟨i,v,O,X,⟨w,λ_=>I,Z,λ_=>?_,λJ=>?_⟩,z⟩
      ·intro φ h0 h ρ K N d L;refine A φ ρ h K d ?_
       have hs2:uL ⟨.value f,args,ats⟩ cd (lk i b.2) H n λS T U=>S=v/\T=O/\U=X:=by
        unfold uL;dsimp only;rw[q];exact h4 _ ⟨rfl,rfl,rfl⟩
       rw[m]
       exact uO hcd N (ln d) hs2 λψ S T U u g Y P V ⟨D,E,e3⟩=>by
        rw[D]at V;rw[E,e3]at P;exact L ψ u g Y P V
      ·rw[m]at J;cases J
     ·exact l.elim
   ·rename_i t a x m;obtain⟨O,z,I⟩:=FE l;refine⟨i,cg,O,n,⟨w,λq=>(by rw[m]at q;cases q),Z6 _,λ_=>?_,λJ=>?_⟩,z⟩
    ·intro φ h0 h ρ K N d L;refine A φ ρ h K d ?_;rw[m]
     exact rX N ((ln d).ev a) ((ln d).ev x) (I (λS T U=>S=cg/\T=O/\U=n) ⟨rfl,rfl,rfl⟩) λψ S T U u g Y P V ⟨D,E,e3⟩=>by
      rw[D]at V;rw[E,e3]at P;exact L ψ u g Y P V
    ·rw[m]at J;cases J
   ·rename_i t len parts m;obtain⟨hn1,l⟩:=gm l;split at l
    ·rename_i hn;obtain⟨⟨v,O,X⟩,z,I⟩:=aV l
     have gr:gu H O/\n<=X:=by
      simp only[G5]at z;split at z
      ·injection z with z;injection z with _ z;injection z with z Z;subst z Z;refine⟨λb o C=>PM.aF _ _ _ _ ?_ (λq=>by subst q;exact(by cases hn.symm.trans C)) C,q2n _⟩;have Y:n<1000000:=Z0 hn1;have P:(1000001:Nat)<2^aa:=by show 1000001<2^40;decide
       omega
      ·cases z
     refine⟨i,v,O,X,⟨w,λ_=>gr.1,gr.2,λ_=>?_,λJ=>?_⟩,I⟩
     ·intro φ h0 h ρ K N d L;refine A φ ρ h K d ?_;rw[m]
      refine uN N (ln d) (κ:=λS T U=>S=v/\T=O/\U=X) ?_ λψ S T U u g Y P V ⟨D,E,e3⟩=>by
       rw[D]at V;rw[E,e3]at P;exact L ψ u g Y P V
      unfold CX;rw[z];exact⟨rfl,rfl,rfl⟩
     ·rw[m]at J;cases J
    ·exact l.elim
   ·exact l.elim
  |some j=>
   rw[W]at l C;dsimp only at l C;obtain⟨r,z,I⟩:=aV l;obtain⟨v,Z,h4⟩:=Sg.q _ I;refine⟨i,v,H,n,⟨w,λ_=> .refl _,Z6 _,λJ=>(by rw[J]at C;cases C),λ_=>⟨rfl,rfl,r.1,λk' r' D E=>?_,?_⟩⟩,Z⟩
   ·rw[W]at D;injection D with D;subst D;rw[z]at E;injection E with E;rw[E]
   ·intro φ n h0 h ρ K N d L;refine A φ ρ h K d (cn C ?_)
    exact Mf N (ln d) (h4 (λx=>x=v) rfl) λr u e hu=>by
     subst e;exact L u hu
 have skip:∀i,(∀t a,i.get t=some a->Sup (σ.get t) a)->(∀φ ρ h K,zo φ i b.2 ρ->K (ρ.put o.dst undef) h->bf Tryz.prog ops o ρ h K)->k (cU i o.dst cg) H n->
  ∃i v Q R,AX ops o b p σ H n i v Q R/\k (cU i o.dst v) Q R:=by
  intro i w A l;refine⟨i,cg,H,n,⟨w,λ_=> .refl _,Z6 _,λJ=>?_,λ_=>?_⟩,l⟩
  ·intro φ h0 h ρ K N d L;exact A φ ρ h K d (L φ undef h (PLe.refl _) N .undef)
  ·refine⟨rfl,rfl,(match b.1 with
    |some k=>(match nth ((H,n)::p) k with
     |some r=>r.1
     |none=>H)
    |none=>H),λk r D E=>by rw[D];dsimp only;rw[E],?_⟩
   intro φ n h0 h ρ K N d L;exact A φ ρ h K d (L undef .undef)
 have same:∀t a,σ.get t=some a->Sup (σ.get t) a:=λt a h=> .refl h
 have put:∀(t:Nat) (q:Bool),bj (pa t) σ= .sb q->∀s a,(cU σ (some t) (.bool q)).get s=some a->Sup (σ.get s) a:=λt q F s a A=>by
  rcases oI eR σ t s a A with⟨rfl,I⟩|⟨_,I⟩
  ·subst I;intro φ u hu;rcases mE eR s σ _ F with e|e
   ·cases e
   ·have:=(hu _ e).jY;subst this;exact .bool q
  ·exact .refl I
 have l:(match o.guard with
  |none=>go σ
  |some (j,want)=>(match jI ops j with
   |none=>False
   |some t=>(match bj (pa t) σ with
    | .bool q=>(match q==want with
     |true=>go σ
     |false=>k (cU σ o.dst cg) H n)
    | .sb q=>(match want with
     |true=>ah q (go (cU σ (some t) (.bool true))) (k (cU (cU σ (some t) (.bool false)) o.dst cg) H n)
     |false=>ah q (k (cU (cU σ (some t) (.bool true)) o.dst cg) H n) (go (cU σ (some t) (.bool false))))
    | .tup _=>k (cU σ o.dst cg) H n
    |_=>False))):=l
 split at l
 ·rename_i A;exact did σ same (λφ ρ h K _ y=>by unfold bf;simp only[A];exact y) l
 ·rename_i j want A;split at l
  ·exact l.elim
  ·rename_i t ht
   have B:t∈b.2:=by
    unfold vp at G;rw[A]at G;dsimp only at G;rw[ht]at G;simpa using G
   have gw:∀(ρ:Env) (h:Hp) (K:Env->Hp->Prop),ρ t= .bool want->bK Tryz.prog o.op ρ h (λv h'=>K (ρ.put o.dst v) h')->bf Tryz.prog ops o ρ h K:=λρ h K hv y=>by
    unfold bf;simp only[A,ht,hv];rw[if_pos trivial];exact y
   have gn:∀(ρ:Env) (h:Hp) (K:Env->Hp->Prop),ρ t= .bool (!want)->K (ρ.put o.dst undef) h->bf Tryz.prog ops o ρ h K:=λρ h K hv y=>by
    unfold bf;simp only[A,ht,hv];rw[if_neg (by cases want<;>simp)];exact y
   split at l
   ·rename_i q F;split at l
    ·rename_i hqw;have M:q=want:=by simpa using hqw
     subst M;exact did σ same (λφ ρ h K d y=>gw ρ h K (by have:=d t B;rw[F]at this;exact this.bZ) y) l
    ·rename_i hqw;have M:q=!want:=by cases q<;>cases want<;>simp_all
     exact skip σ same (λφ ρ h K d y=>gn ρ h K (by have:=d t B;rw[F]at this;rw[this.bZ,M]) y) l
   ·rename_i q F
    have gb:∀(q':Bool),bj (pa t) (cU σ (some t) (.bool q'))= .bool q':=λq'=>by
     exact tV (by rw[F];simp)
    split at l
    ·cases q with
     |true=>exact did _ (put t true F) (λφ ρ h K d y=>gw ρ h K (by have:=d t B;rw[gb]at this;exact this.bZ) y) (l.t rfl)
     |false=>exact skip _ (put t false F) (λφ ρ h K d y=>gn ρ h K (by have:=d t B;rw[gb]at this;rw[this.bZ];rfl) y) (l.f rfl)
    ·cases q with
     |true=>exact skip _ (put t true F) (λφ ρ h K d y=>gn ρ h K (by have:=d t B;rw[gb]at this;rw[this.bZ];rfl) y) (l.t rfl)
     |false=>exact did _ (put t false F) (λφ ρ h K d y=>gw ρ h K (by have:=d t B;rw[gb]at this;exact this.bZ) y) (l.f rfl)
   ·rename_i us F;refine skip σ same (λφ ρ h K d y=>?_) l;have:=d t B;rw[F]at this;obtain⟨cs,hv,_⟩:=this.eM;unfold bf;simp only[A,ht,hv];exact y
   ·exact l.elim
end
structure TR where
 v:AV
 σ:AE
 H:AH
 n:Nat
inductive Tr(ops:Array Oper):List Oper->List DB->List (AH×Nat)->AE->AH->Nat->List TR->AE->AH->Nat->Prop
 |nil {bs:List DB} {hist:List (AH×Nat)} {σ:AE} {H:AH} {n:Nat}:Tr ops [] bs hist σ H n [] σ H n
 |cons {o:Oper} {l:List Oper} {b:DB} {bs:List DB} {hist:List (AH×Nat)} {σ:AE} {H:AH} {n:Nat} {σr:AE} {v:AV} {H1:AH} {n1:Nat} {tr:List TR} {σ':AE} {H':AH} {n':Nat}
  (s:AX ops o b hist σ H n σr v H1 n1) (r:Tr ops l bs ((H,n)::hist) (cU σr o.dst v) H1 n1 tr σ' H' n'):Tr ops (o::l) (b::bs) hist σ H n (⟨v,σr,H,n⟩::tr) σ' H' n'
section
variable {φ:Ph} {h0 h:Hp} {ρ:Env} {cd:CP} {ops:Array Oper}
theorem Hc(f:oj cd)(g:uP cd){kn:KP}:∀(l:List Oper) (bs:List DB) (a:List (AH×Nat)) (σ:AE) (H:AH) (n:Nat),(∀(i:Nat) o b,l[i]?=some o->bs[i]?=some b->bOk o b/\vp ops o b.2=true)->L4 ops l bs cd a σ H n kn->
 ∃tr c H' e,Tr ops l bs a σ H n tr c H' e/\kn c H' e
 | [],bs,a,σ,H,n,_,d=>⟨[],σ,H,n,.nil,d⟩
 |o::l,[],a,σ,H,n,_,d=>d.elim
 |o::l,b::bs,a,σ,H,n,j,d=>by
  have d:L3 ops o b cd a σ H n (λc H' e=>L4 ops l bs cd ((H,n)::a) c H' e kn):=d;obtain⟨k,m⟩:=j 0 o b rfl rfl
  obtain⟨p,v,q,r,s,t⟩:=FF f g k m d;obtain⟨tr,c,H',e,u,w⟩:=Hc f g l bs _ _ q r (λi o b x y=>j (i+1) o b (by simpa using x) (by simpa using y)) t;exact⟨_,c,H',e,.cons s u,w⟩
theorem JP{l:List Oper}{bs:List DB}{a:List (AH×Nat)}{σ:AE}{H:AH}{n:Nat}{tr:List TR}{b:AE}{H':AH}{c:Nat}(d:Tr ops l bs a σ H n tr b H' c):tr.length=l.length:=by
 induction d with
 |nil=>rfl
 |cons s r e=>simp[e]
structure At(ops:Array Oper)(Bs:List DB)(σ0:AE)(val:Nat->AV)(σs:Nat->AE)(Hs:Nat->AH)(ns:Nat->Nat)(i:Nat)(o:Oper):Prop where
 look:∀t a,(σs i).get t=some a->Sup (jZ ops val σ0 (λ_=>true) i t) a
 grow:mn o.op=false->gu (Hs i) (Hs (i+1))
 bs:∃b,Bs[i]?=some b/\(bV o.op=true->Sc ops o b.2 (σs i) (Hs i) (ns i) (val i) (Hs (i+1)) (ns (i+1)))/\
  (bV o.op=false->Hs (i+1)=Hs i/\ns (i+1)=ns i/\∀k,b.1=some k->k<=i->Mg ops o b.2 (σs i) (Hs (i-k)) (val i))
theorem PB{Bs:List DB}{σ0:AE}{val:Nat->AV}{σs:Nat->AE}{Hs:Nat->AH}{ns:Nat->Nat}{l:List Oper}{bs:List DB}{c:List (AH×Nat)}{σ:AE}{H:AH}{n:Nat}{tr:List TR}{p:AE}{H':AH}{L:Nat}(S:Tr ops l bs c σ H n tr p H' L):
 ∀k,(∀j:Nat,l[j]?=ops[k+j]?)->(∀j:Nat,bs[j]?=Bs[k+j]?)->(∀t a,σ.get t=some a->Sup (jZ ops val σ0 (λ_=>true) k t) a)->(∀j,j<k->nth c j=some (Hs (k-1-j),ns (k-1-j)))->H=Hs k->n=ns k->
 (∀(j:Nat) e,tr[j]?=some e->val (k+j)=e.v/\σs (k+j)=e.σ/\Hs (k+j)=e.H/\ns (k+j)=e.n)->Hs (k+l.length)=H'->ns (k+l.length)=L->
 (∀i o,k<=i->i<k+l.length->ops[i]?=some o->At ops Bs σ0 val σs Hs ns i o)/\tr.length=l.length/\∀t a,p.get t=some a->Sup (jZ ops val σ0 (λ_=>true) (k+l.length) t) a:=by
 induction S with
 |nil=>exact λk _ _ u _ _ _ _ _ _=>⟨λi o M w=>by simp at w;omega,rfl,u⟩
 | @cons o l b bs c σ H n x v T U tr p H' L s r V=>
  intro k z I u P B N y C D;have ho:ops[k]?=some o:=by simpa using (z 0).symm
  have O:Bs[k]?=some b:=by simpa using (I 0).symm
  obtain⟨J,K,W,X⟩:=y 0 _ rfl
  simp only[q2o]at J K W X
  have f:T=Hs (k+1)/\U=ns (k+1):=by
   cases r with
   |nil=>exact⟨by simpa using C.symm,by simpa using D.symm⟩
   |cons s2 Q=>
    obtain⟨_,_,Y,Z⟩:=y 1 _ rfl
    exact⟨Y.symm,Z.symm⟩
  have g:∀t a,x.get t=some a->Sup (jZ ops val σ0 (λ_=>true) k t) a:=λt a A=>Sup.trans (λb I=>u t b I) (s.sup t a A)
  have E:∀t a,(cU x o.dst v).get t=some a->Sup (jZ ops val σ0 (λ_=>true) (k+1) t) a:=λt a A=>by
   simp only[jZ,ki,ho,q2e,true_and];cases hd:o.dst with
   |none=>rw[hd]at A;rw[if_neg (by simp)];exact g t a A
   |some d=>
    rw[hd]at A;rcases oI eR x d t a A with⟨rfl,w⟩|⟨M,w⟩
    ·rw[if_pos rfl,J,w];exact .refl rfl
    ·rw[if_neg (by simpa using Ne.symm M)];exact g t a w
  obtain⟨r1,Q,r3⟩:=V (k+1) (λj=>by have:=z (j+1);simpa[q1m,q4q 1 j]using this) (λj=>by have:=I (j+1);simpa[q1m,q4q 1 j]using this) E
   (λj R=>by
    cases j with
    |zero=>
     show some (H,n)=_;rw[B,N];simp
    |succ j=>
     show nth c j=_;rw[P j (by omega)];have:k-1-j=k+1-1-(j+1):=by omega
     rw[this]) f.1 f.2
   (λj e he=>by
    have:=y (j+1) e (by simpa using he);rwa [show k+(j+1)=k+1+j from by omega]at this)
   (by rw[<-C];congr 1;simp;omega) (by rw[<-D];congr 1;simp;omega)
  have F:k+(o::l).length=k+1+l.length:=by simp;omega
  rw[F];refine⟨λi o' M w m=>?_,by simp[Q],r3⟩;by_cases hi:i=k
  ·subst hi;rw[ho]at m;injection m with m;subst m;refine⟨?_,?_,b,O,λz=>?_,λz=>?_⟩
   ·rw[K];exact g
   ·rw[<-B,<-f.1];exact λq=>s.grow q
   ·rw[K,J,<-B,<-N,<-f.1,<-f.2];exact s.loud z
   ·obtain⟨g1,g2,G,g3,g4⟩:=s.still z;refine⟨by rw[<-f.1,<-B];exact g1,by rw[<-f.2,<-N];exact g2,λj R hji=>?_⟩;rw[K,J]
    have hr:∃r,nth ((H,n)::c) j=some r/\r.1=Hs (i-j):=by
     cases j with
     |zero=>exact⟨(H,n),rfl,by rw[q3i];exact B⟩
     |succ j=>
      refine⟨_,P j (by omega),?_⟩;show Hs (i-1-j)=_;rw[show i-1-j=i-(j+1) from by omega]
    obtain⟨r,e1,e2⟩:=hr;rw[<-e2,<-g3 j r R e1];exact g4
  ·exact r1 i o' (by omega) w m
theorem Hd{A:List Nat}{i j:Nat}:∀(l:List Edge) (m:Nat),(l.foldl (λm e=>if Region.binds .any e&&decide (e.on<i)then m|||(2^e.on|||A.getD e.on 0)else m) m).testBit j=true->
 m.testBit j=true∨∃e∈l,Region.binds .any e=true/\e.on<i/\(e.on=j∨(A.getD e.on 0).testBit j=true)
 | [],m,h=> .inl h
 |e::l,m,h=>by
  simp only[List.foldl_cons]at h;rcases Hd l _ h with a|⟨c,a,d⟩
  ·split at a
   ·rename_i b;simp only[Z7,decide_eq_true_eq]at b;simp only[Nat.testBit_or,q1c,Nat.testBit_two_pow,decide_eq_true_eq]at a;rcases a with a|a|a
    ·exact .inl a
    ·exact .inr ⟨e,q0b,b.1,b.2,.inl a⟩
    ·exact .inr ⟨e,q0b,b.1,b.2,.inr a⟩
   ·exact .inl a
  ·exact .inr ⟨c,Y4 _ a,d⟩
theorem lY{A:List Nat}(n:L6 A ops=true){a:Array Bool}(hd:Down ops a){j:Nat}:∀(m i:Nat),i<m->(∀o,ops[i]?=some o->∀e∈o.after,Region.binds .any e=true->a.getD e.on false=true)->i<ops.size->tU A j i=true->a.getD j false=true
 |0,i,r,_,_,_=>by omega
 |m+1,i,r,hi,b,d=>by
  have ho:=q1a b;have p:=q0a.1 n i (by simpa using b);simp only[ho,beq_iff_eq]at p;unfold tU at d;rw[p]at d;rcases Hd _ _ d with f|⟨e,f,s,v,c⟩
  ·simp at f
  ·have q:=hi _ ho e (by simpa using f) s;rcases c with c|c
   ·exact c▸q
   ·exact lY n hd m e.on (by omega) (λt g u k l=>hd e.on t g q u k l) (by omega) c
theorem sa{Bs:List DB}{σ0:AE}{val:Nat->AV}{σs:Nat->AE}{Hs:Nat->AH}{ns:Nat->Nat}(e:∀i o,ops[i]?=some o->At ops Bs σ0 val σs Hs ns i o):∀(d p:Nat),p+d<=ops.size->(∀j o,p<=j->j<p+d->ops[j]?=some o->bV o.op=false)->Hs (p+d)=Hs p/\ns (p+d)=ns p
 |0,_,_,_=>⟨rfl,rfl⟩
 |d+1,p,g,f=>by
  obtain⟨k,l⟩:=sa e d p (by omega) λj o a b=>f j o a (by omega)
  have c:p+d<ops.size:=by omega
  have ho:=q1a c;obtain⟨b,_,_,m⟩:=(e _ _ ho).bs;obtain⟨n,q,_⟩:=m (f (p+d) _ (by omega) (by omega) ho);exact⟨by rw[<-k];exact n,by rw[<-l];exact q⟩
theorem Mh{Bs:List DB}{σ0:AE}{val:Nat->AV}{σs:Nat->AE}{Hs:Nat->AH}{ns:Nat->Nat}(c:∀i o,ops[i]?=some o->At ops Bs σ0 val σs Hs ns i o):∀(d p:Nat),p+d<=ops.size->(∀j o,p<=j->j<p+d->ops[j]?=some o->mn o.op=false)->gu (Hs p) (Hs (p+d))
 |0,_,_,_=> .refl _
 |d+1,p,f,e=>(Mh c d p (by omega) λj o a b=>e j o a (by omega)).trans ((c _ _ (q1a (show p+d<ops.size by omega))).grow (e (p+d) _ (by omega) (by omega) (q1a (show p+d<ops.size by omega))))
theorem Mi {Bs:List DB} {σ0 σ':AE} {val:Nat->AV} {σs:Nat->AE} {Hs:Nat->AH} {ns:Nat->Nat} {N:Env->Hp->Prop} (ht:∀i o,ops[i]?=some o->At ops Bs σ0 val σs Hs ns i o) (l:wH ops Bs=true)
 (hσ':∀t a,σ'.get t=some a->Sup (jZ ops val σ0 (λ_=>true) ops.size t) a) (hr:HR φ (Hs 0) (ns 0) h0 h) (hf:FR φ σ0 ρ) (hN:∀ψ ρ' h',PLe φ ψ->HR ψ (Hs ops.size) (ns ops.size) h0 h'->FR ψ σ' ρ'->N ρ' h'):CB Tryz.prog ops ρ h N:=by
 simp only[wH,Z7]at l;obtain⟨hed,P,l⟩:=l;generalize tT ops.toList 0 []=A at P l
 have Z:∀i o,ops[i]?=some o->∃b,Bs[i]?=some b/\(∀t∈b.2,t∈looks ops o)/\(match b.1 with
  |none=>vo o.op=true∨(mn o.op=true/\∀j,j<ops.size->j=i∨tU A j i=true)
  |some k=>bV o.op=false/\k<=i/\∀j,j<i-k->AW ops j=true->tU A j i=true)/\
  ∀j a,j<i->ops[j]?=some a->(a.apart ops o=true/\(bV a.op=false∨bV o.op=false))∨tU A j i=true:=λi o ho=>by
  have hisz:=(q0f.1 ho).1;have s:=q0a.1 l i (by simpa using hisz);unfold S4 at s;rw[ho]at s;split at s
  ·rename_i v b e1 J;injection e1 with e1;subst e1;simp only[Z7,q0a]at s;obtain⟨⟨⟨s,_⟩,K⟩,h3⟩:=s;refine⟨b,J,λt htm=>by simpa using s t htm,?_,λj a y d=>?_⟩
   ·split at K
    ·rename_i e;try simp only[e]
     simp only[q1c,Z7,q0a]at K;exact K.imp id λq=>⟨q.1,λj d=>(q.2 j (by simpa using d)).imp q0d id⟩
    ·rename_i k e
     try simp only[e]
     simp only[Z7,q2x,decide_eq_true_eq,q0a,q1c]at K
     exact⟨K.1,K.2.1,λj d w=>by
      rcases K.2.2 j (by simpa using d)with q|q
      ·rw[w]at q;cases q
      ·exact q⟩
   ·have:=h3 j (by simpa using y);rw[d]at this;simpa only[q1c,Z7,q2x]using this
  ·cases s
 have pair:∀i j a b,j<i->ops[i]?=some b->ops[j]?=some a->(a.apart ops b=true/\(bV a.op=false∨bV b.op=false))∨tU A j i=true:=λi j a b y hi d=>by
  obtain⟨_,_,_,_,h4⟩:=Z i b hi;exact h4 j a y d
 refine⟨hed,λc z s=>∃ψ p,PLe φ ψ/\p<=ops.size/\HR ψ (Hs p) (ns p) h0 s/\(∀j o,ops[j]?=some o->bV o.op=true->(c.getD j false=true<->j<p))/\
  ∀t a,jZ ops val σ0 (λj=>c.getD j false) ops.size t=some a->VR ψ a (z t),?_,?_,?_⟩
 ·refine⟨φ,0,PLe.refl _,Y5 _,hr,λj o d _=>?_,λt a e=>?_⟩
  ·have:(Array.replicate ops.size false).getD j false=false:=by simp[Array.getD]
   rw[this];simp
  ·have:jZ ops val σ0 (λj=>(Array.replicate ops.size false).getD j false) ops.size t=jZ ops val σ0 (λj=>decide (j<0)) ops.size t:=
    jm _ λj _ _=>by simp[Array.getD]
   rw[this,wD _ (Y5 _)]at e;exact hf t a e
 ·intro c i o z s hsz hdn ho hun hedge ⟨ψ,p,hp,W,B,C,F⟩ _;have hi:i<ops.size:=(q0f.1 ho).1
  have before:∀j,tU A j i=true->c.getD j false=true:=λj D=>lY P hdn (i+1) i (by omega) (λv M e he hb'=>by
   rw[ho]at M;injection M with M;subst M;exact hedge e he hb') hi D
  have behind:∀j,j<ops.size->tU A i j=true->c.getD j false=false:=λj d D=>by
   cases w:c.getD j false with
   |false=>rfl
   |true=>
    have:=lY P hdn (j+1) j (by omega) (λv M e he hb'=>hdn j v M w e he hb') d D;rw[hun]at this;cases this
  have hlook:∀t,t∈looks ops o->jZ ops val σ0 (λj=>c.getD j false) ops.size t=jZ ops val σ0 (λ_=>true) i t:=λt htl=>by
   rw[<-wD (val:=val) ops.size (Nat.le_of_lt hi)];refine jm _ λj d hd=>?_
   have O:=q1a d;have S:ops[j].dst=some t:=by simpa[ki,O]using hd
   by_cases E:j=i
   ·subst E;simp[hun]
   ·by_cases y:j<i
    ·rcases pair i j _ _ y ho O with⟨ha,_⟩|D
     ·exact absurd htl ((Oper.apart_spec ha).1 t S)
     ·rw[before j D];simp[y]
    ·rcases pair j i _ _ (by omega) O ho with⟨ha,_⟩|D
     ·exact absurd htl ((Oper.apart_spec ha).2.2 t S)
     ·rw[behind j d D];simp[y]
  have hat:=ht i o ho;obtain⟨b,hb1,hb2,r,_⟩:=Z i o ho;obtain⟨b',T,hloud,U⟩:=hat.bs;rw[hb1]at T;injection T with T;subst T
  have hsl:zo ψ (σs i) b.2 z:=λt htm=>by
   rcases mE eR t (σs i) _ rfl with e|e
   ·show VR ψ (bj (pathOf eR t) (σs i)) (z t);rw[e];exact .bad _
   ·refine hat.look t _ e ψ _ λa' ha'=>F t a' ?_
    rw[hlook t (hb2 t htm)];exact ha'
  have G:∀j,(c.setIfInBounds i true).getD j false=if j=i then true else c.getD j false:=λj=>lg (by omega)
  have Q:∀{χ:Ph} {u:Value},PLe ψ χ->VR χ (val i) u->∀t a,jZ ops val σ0 (λj=>(c.setIfInBounds i true).getD j false) ops.size t=some a->VR χ a ((z.put o.dst u) t):=λ{χ u} H hu t a e=>by
   rw[CS (L:=λj=>c.getD j false) (i:=i) (λj d=>by simp only[G,if_neg d]) (by simp only[G,if_true]) ops.size hi (λj s K hd1 S=>by
    have O:=q1a K;have e1:o.dst=some t:=by simpa[ki,ho]using hd1
    have J:ops[j].dst=some t:=by simpa[ki,O]using S
    rcases pair j i _ _ s O ho with⟨ha,_⟩|D
    ·exact absurd J ((Oper.apart_spec ha).2.1 t e1)
    ·exact behind j K D)]at e
   by_cases hd:o.dst=some t
   ·rw[if_pos (by simpa[ki,ho]using hd)]at e;injection e with e;subst e;rw[hd,mz,rH];exact hu
   ·rw[if_neg (by simpa[ki,ho]using hd)]at e;have:=VR.mono H _ _ (F t a e);rwa [mB (λx m=>by intro q;exact hd (by rw[m,q]))]
  cases w:bV o.op with
  |true=>
   have hpi:p<=i:=by
    have:=(C i o ho w);rw[hun]at this;by_cases hc:i<p
    ·have:=this.2 hc;cases this
    ·omega
   have hnol:∀j v,p<=j->j<p+(i-p)->ops[j]?=some v->bV v.op=false:=λj v s K d=>by
    cases n:bV v.op with
    |false=>rfl
    |true=>
     rcases pair i j _ _ (by omega) ho d with⟨_,m⟩|D
     ·rcases m with m|m
      ·rw[n]at m;cases m
      ·rw[w]at m;cases m
     ·have:=(C j v d n).1 (before j D);omega
   obtain⟨X,c2⟩:=sa ht (i-p) p (by omega) hnol;rw[show p+(i-p)=i from by omega]at X c2;rw[<-X,<-c2]at B;refine hloud w ψ h0 s z _ B hsl λχ u g H hg hu=>⟨χ,i+1,hp.trans H,hi,hg,λj v d n=>?_,Q H hu⟩
   rw[G];by_cases E:j=i
   ·subst E;simp
   ·rw[if_neg E];have R:=(q0f.1 d).1;by_cases y:j<i
    ·have:c.getD j false=true:=by
      rcases pair i j _ _ y ho d with⟨_,m⟩|D
      ·rcases m with m|m
       ·rw[n]at m;cases m
       ·rw[w]at m;cases m
      ·exact before j D
     rw[this];simp;omega
    ·have:c.getD j false=false:=by
      rcases pair j i _ _ (by omega) d ho with⟨_,m⟩|D
      ·rcases m with m|m
       ·rw[w]at m;cases m
       ·rw[n]at m;cases m
      ·exact behind j R D
     rw[this];simp;omega
  |false=>
   obtain⟨_,_,hsf⟩:=U w
   have hk:∃k,b.1=some k/\k<=i/\∀j,j<i-k->AW ops j=true->tU A j i=true:=by
    split at r
    ·rename_i e;rcases r with r|⟨r,_⟩
     ·unfold vo at r;split at r
      ·rename_i f xs ts J;rw[J]at w;cases w
      ·rename_i J;rw[J]at w;cases w
      ·cases r
     ·unfold mn at r;split at r
      ·rename_i f xs ts J;rw[J]at w;cases w
      ·cases r
    ·rename_i k e;exact⟨k,e,r.2⟩
   obtain⟨k,hk1,hk2,hk3⟩:=hk
   have hGr:gu (Hs (i-k)) (Hs p):=by
    by_cases hpk:i-k<=p
    ·have:=Mh ht (p-(i-k)) (i-k) (by omega) λj v s K d=>by
      cases l:mn v.op with
      |false=>rfl
      |true=>
       have V:bV v.op=true:=by
        unfold mn at l;split at l
        ·rename_i J;rw[J];rfl
        ·cases l
       have hls:=(C j v d V).2 (by omega);have R:=(q0f.1 d).1;obtain⟨b2,_,_,I,_⟩:=Z j v d;split at I
       ·rcases I with q|⟨_,q⟩
        ·unfold mn at l;split at l
         ·rename_i J;rw[J]at q;cases q
         ·cases l
        ·rcases q i hi with q|q
         ·subst q;rw[ho]at d;injection d with d;subst d;rw[w]at V;cases V
         ·rw[behind j R q]at hls;cases hls
       ·rw[V]at I;cases I.1
     rwa [show i-k+(p-(i-k))=p from by omega]at this
    ·obtain⟨X,_⟩:=sa ht (i-k-p) p (by omega) λj v s K d=>by
      cases n:bV v.op with
      |false=>rfl
      |true=>
       have h3:=hk3 j (by omega) (by unfold AW;rw[d];exact n);have:=(C j v d n).1 (before j h3);omega
     rw[show p+(i-k-p)=i-k from by omega]at X;rw[X];exact .refl _
   refine hsf k hk1 hk2 ψ (ns p) h0 s z _ (B.less hGr) hsl λu hu=>⟨ψ,p,hp,W,B,λj v d n=>?_,Q (PLe.refl _) hu⟩
   rw[G];by_cases E:j=i
   ·subst E;rw[ho]at d;injection d with d;subst d;rw[w]at n;cases n
   ·rw[if_neg E];exact C j v d n
 ·intro c z s hsz Y ⟨ψ,p,hp,W,B,C,F⟩
  obtain⟨X,c2⟩:=sa ht (ops.size-p) p (by omega) λj o a b d=>by
   cases w:bV o.op with
   |false=>rfl
   |true=>
    have:=(C j o d w).1 (Y j (by omega));omega
  rw[show p+(ops.size-p)=ops.size from by omega]at X c2;rw[<-X,<-c2]at B;refine hN ψ z s hp B λt a e=>hσ' t a e ψ _ λa' ha'=>F t a' ?_
  rw[<-ha'];exact jm _ λj d _=>Y j d
theorem wN (K:oj cd) (L:uP cd) {Bs:List DB} {σ:AE} {H:AH} {n:Nat} {kn:KP} {N:Env->Hp->Prop} (E:wH ops Bs=true) (O:L4 ops ops.toList Bs cd [] σ H n kn) (P:HR φ H n h0 h) (Q:FR φ σ ρ)
 (R:∀ψ g H' C m J,PLe φ ψ->HR ψ H' C h0 J->FR ψ g m->kn g H' C->N m J):CB Tryz.prog ops ρ h N:=by
 have u:=E;simp only[wH,Z7]at u
 obtain⟨tr,g,H',C,f,D⟩:=Hc K L ops.toList Bs [] σ H n (λi o b ho S=>by
  rw[q1u]at ho;have F:=(q0f.1 ho).1;have f:=q0a.1 u.2.2 i (by simpa using F);unfold S4 at f;rw[ho,S]at f;simp only[Z7]at f;refine⟨?_,f.1.1.2⟩;unfold bOk;have D:=f.1.2;split at D
  ·rename_i e;try rw[e]
   simp only[q1c,Z7]at D⊢;exact D.imp id λq=>q.1
  ·rename_i k e
   try rw[e]
   simp only[Z7,q2x]at D;exact D.1) O
 let G:TR:=⟨.bad,.nil,H',C⟩
 let at_:Nat->TR:=λj=>(tr[j]?).getD G
 have p:∀(j:Nat) e,tr[j]?=some e->at_ j=e:=λj e w=>by simp only[at_,w,Option.getD_some]
 have d:ops.toList.length=ops.size:=Array.length_toList
 have x:tr.length=ops.size:=by
  rw[<-d];exact JP f
 let y:Nat->AH:=λj=>if j<tr.length then(at_ j).H else H'
 let z:Nat->Nat:=λj=>if j<tr.length then(at_ j).n else C
 have A:y ops.size=H'/\z ops.size=C:=⟨by simp only[y];rw[if_neg (by omega)],by simp only[z];rw[if_neg (by omega)]⟩
 have hs0:H=y 0/\n=z 0:=by
  cases M:ops.toList with
  |nil=>
   have e0:ops.size=0:=by rw[<-d,M];rfl
   rw[M]at f;cases f
   (try simp only[y,z])
   rw[if_neg (by omega),if_neg (by omega)];exact⟨rfl,rfl⟩
  |cons o l=>
   rw[M]at f;cases f with
   |cons s r=>exact⟨rfl,rfl⟩
 obtain⟨told,_,B⟩:=PB (Bs:=Bs) (σ0:=σ) (val:=λj=>(at_ j).v) (σs:=λj=>(at_ j).σ) (Hs:=y) (ns:=z) f 0 (λj=>by rw[q0w,q1u]) (λj=>by rw[q0w]) (λt a q=> .refl q) (λj w=>by omega) hs0.1 hs0.2
  (λj e w=>by
   have I:=(Y6.1 w).1;rw[q0w];refine⟨by rw[p j e w],by rw[p j e w],?_,?_⟩
   ·(try simp only[y]);rw[if_pos I,p j e w]
   ·(try simp only[z]);rw[if_pos I,p j e w])
  (by simp only[y];rw[if_neg (by rw[x,d];omega)])
  (by simp only[z];rw[if_neg (by rw[x,d];omega)])
 rw[q0w,d]at told B;refine Mi (λi o ho=>told i o (Y5 _) (q0f.1 ho).1 ho) E B (by rw[<-hs0.1,<-hs0.2];exact P) Q ?_;rw[A.1,A.2];exact λψ m J a b c=>R ψ g H' C m J a b c D
end
section
variable {φ:Ph} {H:AH} {n:Nat} {h0 h:Hp} {σ:AE} {ρ:Env} {call:CP}
def GoP(φ0:Ph)(h0:Hp)(k:KP)(N:Env->Hp->Prop):Prop:=∀(a:Ph) (σ:AE) (H:AH) (n:Nat) (ρ:Env) (h:Hp),PLe φ0 a->HR a H n h0 h->FR a σ ρ->k σ H n->N ρ h
theorem ir(b:oj call){φ0:Ph}{ops:Array Oper}{N:Env->Hp->Prop}:∀(l:List Oper) (φ:Ph) (σ:AE) (H:AH) (n:Nat) (k:KP) (ρ:Env) (h:Hp),PLe φ0 φ->HR φ H n h0 h->FR φ σ ρ->
 vd ops l call σ H n k->GoP φ0 h0 k N->lb Tryz.prog ops l ρ h N
 | [],φ,σ,H,n,k,ρ,h,r,s,c,a,w=>w φ σ H n ρ h r s c a
 |o::l,φ,σ,H,n,k,ρ,h,r,s,c,a,w=>by
  have a:opP ops o call σ H n (λσ H n=>vd ops l call σ H n k):=a
  have did:∀(σ:AE) (ρ:Env),FR φ σ ρ->(wG o.op call σ H n λv H n=>vd ops l call (cU σ o.dst v) H n k)->bK Tryz.prog o.op ρ h λv z=>lb Tryz.prog ops l (ρ.put o.dst v) z N:=λσ ρ c a=>
   C6 b s c a λA v B C u g y D E F=>ir b l A _ B C k _ g (r.trans y) D ((c.mono y).put o.dst E) F w
  have skip:∀(σ:AE) (ρ:Env),FR φ σ ρ->vd ops l call (cU σ o.dst cg) H n k->lb Tryz.prog ops l (ρ.put o.dst undef) h N:=λσ ρ c a=>
   ir b l φ _ H n k _ h r s (c.put o.dst .undef) a w
  unfold opP at a;unfold lb;split at a
  ·rename_i x
   (try simp only[x])
   exact did σ ρ c a
  ·rename_i j want x
   (try simp only[x])
   split at a
   ·exact a.elim
   ·rename_i t G
    (try simp only[G])
    have d:∀q:Bool,ρ t= .bool q->FR φ (cU σ (some t) (.bool q)) (ρ.upd t (.bool q)):=λq p=>c.put (some t) (.bool q)
    split at a
    ·rename_i q p;have e:=(p▸c.at t).bZ
     (try simp only[e])
     split at a
     ·rename_i m;have i:q=want:=by simpa using m
      subst i;refine⟨λ_=>?_,(λk=>by rw[m]at k;cases k)⟩;rw[nq e];exact did σ ρ c a
     ·rename_i m;have i:(!want)=q:=by cases q<;>cases want<;>simp_all
      refine⟨(λk=>by rw[m]at k;cases k),λ_=>?_⟩;rw[nq (by rw[e,i])];exact skip σ ρ c a
    ·rename_i q p;have e:=(p▸c.at t).jY
     (try simp only[e])
     split at a
     ·cases q with
      |true=>exact⟨λ_=>did _ _ (d true e) (a.t rfl),λk=>by cases k⟩
      |false=>exact⟨(λk=>by cases k),λ_=>skip _ _ (d false e) (a.f rfl)⟩
     ·cases q with
      |true=>exact⟨(λk=>by cases k),λ_=>skip _ _ (d true e) (a.t rfl)⟩
      |false=>exact⟨λ_=>did _ _ (d false e) (a.f rfl),λk=>by cases k⟩
    ·rename_i us p;obtain⟨cs,e,_⟩:=(p▸c.at t).eM
     (try simp only[e])
     exact skip σ ρ c a
    ·exact a.elim
theorem FG{v:AV}{y:Nat}(h:LY v=some y):v= .any (.func (.yield y) #[] #[]):=by
 unfold LY at h;split at h
 ·injection h with h;subst h;rfl
 ·cases h
theorem qX(a:oj call){φ0:Ph}{ops:Array Oper}{N:Env->Hp->Prop}:∀(l:List Oper) (φ:Ph) (σ:AE) (H:AH) (n:Nat) (k:KP) (ρ:Env) (h:Hp),PLe φ0 φ->HR φ H n h0 h->FR φ σ ρ->
 JG ops l call σ H n k->GoP φ0 h0 k N->CC Tryz.prog ops l ρ h N
 | [],φ,σ,H,n,k,ρ,h,j,m,d,b,p=>p φ σ H n ρ h j m d b
 |o::l,φ,σ,H,n,k,ρ,h,j,m,d,b,p=>by
  have b:yOr (Pw o σ) (λy xs=>Yld y xs H n λv H n=>JG ops l call (cU σ o.dst v) H n k) (opP ops o call σ H n λσ H n=>JG ops l call σ H n k):=b;cases c:Pw o σ with
  |none=>
   rw[c]at b;have b:vd ops [o] call σ H n (λσ H n=>JG ops l call σ H n k):=b;exact .inr (lf (ir a [o] φ σ H n _ ρ h j m d b λr s t w x E q A B C=>qX a l r s t w k x E q A B C p))
  |some z=>
   obtain⟨y,xs⟩:=z;rw[c]at b;obtain⟨run,ok,e⟩:Yld y xs H n λv H n=>JG ops l call (cU σ o.dst v) H n k:=b
   unfold Pw at c;split at c
   ·rename_i f xs F;split at c
    ·rename_i G D;injection c with c;injection c with I J;subst I J;have i:=d.ev f;rw[FG D]at i;refine .inl ⟨f,xs,G,F,i.vn,ok _ _ _ _ e φ h0 h _ _ m (by rw[q3y];exact VRs.map d.ev xs.toList) λr v t w u g q A B C=>?_⟩;exact qX a l r _ t w k _ g (j.trans q) A ((d.mono q).put o.dst B) C p
    ·cases c
   ·cases c
theorem C7:∀l:List Bool,l∈L7 l.length
 | []=>by simp[L7]
 |b::l=>by
  simp only[Z9,L7,List.mem_flatMap];exact⟨l,C7 l,by cases b<;>simp⟩
theorem JQ{a:List Nat}(hn:a.Nodup)(u:Nat->Bool){i j:Nat}:∀{r f:List Nat},a.filter u=r++i::f->j∈r->jo a i j=false/\jo a j i=true:=by
 induction a with
 |nil=>intro r f h _;simp at h
 |cons x a s=>
  intro r f h d;obtain⟨g,b⟩:=q2u.1 hn;have v:(a.filter u).Nodup:=b.filter _;cases t:u x with
  |false=>
   rw[q3w (by simp[t])]at h;obtain⟨k,l⟩:=s b h d;have m:i∈a:=(q1b.1 (show _∈a.filter u by rw[h];simp)).1;have o:j∈a:=(q1b.1 (show _∈a.filter u by rw[h];simp[d])).1
   have e:Nat.beq x i=false:=by
    cases q:Nat.beq x i with
    |false=>rfl
    |true=>exact absurd (q0d q▸m) g
   have p:Nat.beq x j=false:=by
    cases q:Nat.beq x j with
    |false=>rfl
    |true=>exact absurd (q0d q▸o) g
   (try simp only[jo,e,p,k,l]);exact⟨rfl,rfl⟩
  |true=>
   rw[List.filter_cons_of_pos t]at h;cases r with
   |nil=>cases d
   |cons y r=>
    simp only[q1q,List.cons.injEq]at h;obtain⟨rfl,h⟩:=h;have m:i∈a:=(q1b.1 (show _∈a.filter u by rw[h];simp)).1
    have e:Nat.beq x i=false:=by
     cases q:Nat.beq x i with
     |false=>rfl
     |true=>exact absurd (q0d q▸m) g
    by_cases c:j=x
    ·subst c;simp only[jo,e,Nat.beq_refl];exact⟨rfl,rfl⟩
    ·have d:j∈r:=by
      rcases Z3.1 d with q|q
      ·exact absurd q c
      ·exact q
     obtain⟨k,l⟩:=s b h d
     have p:Nat.beq x j=false:=by
      cases q:Nat.beq x j with
      |false=>rfl
      |true=>exact absurd (q0d q).symm c
     (try simp only[jo,e,p,k,l]);exact⟨rfl,rfl⟩
theorem Mj{P:Program}{ops:Array Oper}{R:List (Nat×Nat)}:∀{l acc:List Nat},okL P ops R acc l=true->∀{r b:List Nat} {i:Nat},l=r++i::b->∀j,(j∈acc∨j∈r)->n6 P ops j i=true∨oi ops 6 j i=true∨(j,i)∈R∨(i,j)∈R:=by
 intro l
 induction l with
 |nil=>intro acc h r b i e;simp at e
 |cons x l c=>
  intro acc h r b i e j a;simp only[okL,Z7]at h;cases r with
  |nil=>
   simp only[q2f,List.cons.injEq]at e;obtain⟨rfl,rfl⟩:=e;have:=q0a.1 h.1 j (a.elim id (λq=>by cases q));simpa using this
  |cons y r=>
   simp only[q1q,List.cons.injEq]at e;obtain⟨rfl,rfl⟩:=e;refine c h.2 rfl j ?_
   rcases a with a|a
   ·exact .inl (Y4 _ a)
   ·rcases Z3.1 a with rfl|a
    ·exact .inl q0b
    ·exact .inr a
theorem AY{u:Nat->Bool}{i:Nat}:∀{b r d:List Nat},b.filter u=r++i::d->∃p c,b=p++i::c/\∀j∈r,j∈p:=by
 intro b
 induction b with
 |nil=>intro r d h;simp at h
 |cons x b f=>
  intro r d h;cases g:u x with
  |false=>
   rw[q3w (by simp[g])]at h;obtain⟨p,c,rfl,e⟩:=f h;exact⟨x::p,c,rfl,λj a=>Y4 _ (e j a)⟩
  |true=>
   rw[List.filter_cons_of_pos g]at h;cases r with
   |nil=>
    simp only[q2f,List.cons.injEq]at h;obtain⟨rfl,_⟩:=h;exact⟨[],b,rfl,λj a=>by cases a⟩
   |cons y r=>
    simp only[q1q,List.cons.injEq]at h;obtain⟨rfl,h⟩:=h;obtain⟨p,c,rfl,e⟩:=f h;refine⟨x::p,c,rfl,λj a=>?_⟩;rcases Z3.1 a with rfl|a
    ·exact q0b
    ·exact Y4 _ (e j a)
theorem filter_one{u:Nat->Bool}{i:Nat}:∀{a r r2:List Nat},a.Nodup->a.filter u=r++i::r2->a.filter (λk=>u k&&!(k==i))=r++r2:=by
 intro a r r2 d h
 have e:a.filter (λk=>u k&&!(k==i))=(a.filter u).filter λk=>!(k==i):=by
  rw[List.filter_filter];exact List.filter_congr λk _=>by rw[Bool.and_comm]
 have b:(r++i::r2).Nodup:=h▸d.filter _;rw[q3r,q2u]at b;obtain⟨_,⟨f,_⟩,g⟩:=b;rw[e,h,q2j,q3w (by simp)];congr 1
 ·refine List.filter_eq_self.2 λk c=>?_
  have:=g k c i (by simp);simpa using this
 ·refine List.filter_eq_self.2 λk c=>?_
  have:k≠i:=λq=>f (q▸c)
  simpa using this
theorem qY{P:Program}{ops:Array Oper}{N:Env->Hp->Prop}:∀(b:List Nat) (ρ:Env) (h:Hp),lb P ops (zf ops.toList b) ρ h N->fq P ops b ρ h N
 | [],_,_,a=>a
 |i::b,ρ,h,a=>by
  have e:nth ops.toList i=ops[i]?:=by rw[eX];simp
  have a:lb P ops (match nth ops.toList i with
   |some o=>o::zf ops.toList b
   |none=>zf ops.toList b) ρ h N:=a
  rw[e]at a;unfold fq;cases ho:ops[i]? with
  |none=>
   simp only[ho]at a⊢;exact qY b ρ h a
  |some o=>
   simp only[ho]at a⊢;exact fv (λv d c=>qY b _ _ c) (lf a)
theorem AZ{ops:Array Oper}(b:kz ops=true){j:Nat}:∀(f i:Nat),oi ops f j i=true->j<i
 |0,_,a=>by simp[oi]at a
 |f+1,i,a=>by
  unfold oi at a;split at a
  ·rename_i o ho;obtain⟨e,l,d⟩:=Array.any_eq_true'.1 a;simp only[Z7,q1c,beq_iff_eq]at d;have c:i<ops.size:=(q0f.1 ho).1;have g:=q0a.1 b i (by simpa using c);simp only[ho]at g;have m:=Array.all_eq_true'.1 g e l;have p:e.on<i:=by simpa[d.1]using m
   rcases d.2 with k|k
   ·omega
   ·have:=AZ b f e.on k;omega
  ·cases a
def Lin(ops:Array Oper)(a:Nat->Nat):Prop:=(∀j i,oi ops 6 j i=true->a j<a i)/\∀j i,a j=a i->j=i
def osR(a:Nat->Nat)(p:Nat×Nat):Bool:=decide (a p.1<a p.2)
theorem uQ{b c:Type}{f:b->c}:∀{R:List b} {x:b×c},x∈R.zip (R.map f)->x.2=f x.1/\x.1∈R
 | [],x,h=>by simp at h
 |a::R,x,h=>by
  simp only[q1r,List.zip_cons_cons,Z3]at h;rcases h with rfl|h
  ·exact⟨rfl,q0b⟩
  ·obtain⟨d,e⟩:=uQ h;exact⟨d,Y4 _ e⟩
def RkM(A:List Nat)(a:Nat->Nat):Prop:=∀i j,(A.getD i 0).testBit j=true->a j<a i
theorem C8{c:Nat->Bool}{j:Nat}:∀(l:List Nat) (m:Nat),(l.foldl (λm j=>bif c j then m|||2^j else m) m).testBit j=true->m.testBit j=true∨c j=true
 | [],_,h=> .inl h
 |x::l,m,h=>by
  rw[List.foldl_cons]at h;rcases C8 l _ h with h|h
  ·cases a:c x with
   |false=>rw[a]at h;exact .inl h
   |true=>
    rw[a,cond_true,Nat.testBit_or,q1c]at h;rcases h with h|h
    ·exact .inl h
    ·rw[Nat.testBit_two_pow,decide_eq_true_eq]at h;subst h;exact .inr a
  ·exact .inr h
theorem Mk{ops:Array Oper}{a:Nat->Nat}(b:Lin ops a):RkM (L8 ops) a:=λi j h=>by
 unfold L8 at h;rw[List.getD_eq_getElem?_getD,q0s]at h;cases e:(List.range ops.size)[i]? with
 |none=>rw[e]at h;simp at h
 |some k=>
  have c:k=i:=by
   rw[Y6]at e;obtain⟨_,e⟩:=e;simpa using e.symm
  subst c;rw[e]at h;rcases C8 _ _ h with h|h
  ·simp at h
  ·exact b.1 _ _ h
theorem wO(a b c:Nat):∀(l:List Nat) (k i:Nat),(wI a b c l k).getD i 0=if i<l.length/\(Nat.beq (k+i) b||(l.getD i 0).testBit b)=true then l.getD i 0|||(2^a|||c)else l.getD i 0
 | [],k,i=>by simp[wI]
 |m::l,k,0=>by
  show(bif Nat.beq k b||m.testBit b then _ else _)=_;cases h:(Nat.beq k b||m.testBit b)with
  |true=>rw[cond_true,if_pos ⟨by simp,h⟩];rfl
  |false=>rw[cond_false,if_neg (λq=>by rw[show(Nat.beq (k+0) b||((m::l).getD 0 0).testBit b)=(Nat.beq k b||m.testBit b) from rfl,h]at q;cases q.2)];rfl
 |m::l,k,i+1=>by
  show(wI a b c l (k+1)).getD i 0=_;rw[wO a b c l (k+1) i];have d:(m::l).getD (i+1) 0=l.getD i 0:=rfl
  rw[d,show k+1+i=k+(i+1) by omega];simp only[Z9,Nat.add_lt_add_iff_right]
theorem PC{A:List Nat}{a:Nat->Nat}(b:RkM A a){x:Nat×Nat}(c:a x.1<a x.2):RkM (L9 A x) a:=λi j h=>by
 unfold L9 at h;rw[wO,q0w]at h;split at h
 ·rename_i q
  have d:a x.2<=a i:=by
   have:=q.2;simp only[q1c]at this;rcases this with q|q
   ·rw[q0d q];exact Z6 _
   ·exact Nat.le_of_lt (b i _ q)
  simp only[Nat.testBit_or,q1c,Nat.testBit_two_pow,decide_eq_true_eq]at h;rcases h with h|rfl|h
  ·exact b i j h
  ·omega
  ·have:=b _ _ h;omega
 ·exact b i j h
theorem Ml{A:List Nat}{a:Nat->Nat}(c:RkM A a){W:List (Nat×Nat)}(b:∀x∈W,a x.1<a x.2):Ma A W=true:=by
 have:∀(W:List (Nat×Nat)) (A:List Nat),RkM A a->(∀x∈W,a x.1<a x.2)->RkM (W.foldl L9 A) a:=λW=>by
  induction W with
  |nil=>exact λA h _=>h
  |cons x W d=>exact λA h b=>d _ (PC h (b x q0b)) λy e=>b y (Y4 _ e)
 unfold Ma;rw[q0a];intro i _;cases h:((W.foldl L9 A).getD i 0).testBit i with
 |false=>rfl
 |true=>exact absurd (this W A c b i i h) (q3g _)
theorem Mm{ops:Array Oper}{a:Nat->Nat}(i:Lin ops a){R:List (Nat×Nat)}(k:R.all (λp=>!Nat.beq p.1 p.2)=true):R7 ops R (R.map (osR a))=true:=by
 have d:∀x∈(R.zip (R.map (osR a))).map (λx=>S5 x.1 x.2),a x.1<a x.2:=λx l=>by
  obtain⟨⟨p,b⟩,m,rfl⟩:=q0e.1 l;obtain⟨j,f⟩:=uQ m;dsimp only at j f;subst j;obtain⟨c,rfl⟩:∃c,c=p:=⟨p,rfl⟩;have g:=q0a.1 k c f;dsimp only;unfold osR S5;by_cases h:a c.1<a c.2
  ·rw[decide_eq_true h];exact h
  ·rw[decide_eq_false h]
   have:a c.1≠a c.2:=λe=>by
    have:=i.2 _ _ e;rw[this]at g;simp at g
   show a c.2<a c.1;omega
 exact Ml (Mk i) d
theorem Sd(a:Nat->Nat):∀m:Nat,∃M,∀k,k<m->a k<M
 |0=>⟨0,λk h=>by omega⟩
 |m+1=>by
  obtain⟨M,b⟩:=Sd a m
  exact⟨M+a m+1,λk h=>by
   rcases q3b k m with q|q
   ·have:=b k q;omega
   ·rw[show k=m by omega];omega⟩
theorem PD{P:Program}{ops:Array Oper}{bs:List DB}{N:Env->Hp->Prop}(Q:Mb P ops bs=true)(hk:∀f∈bs.tail,fq P ops f.2 ρ h N):CB P ops ρ h N:=by
 simp only[Mb,Z7]at Q;obtain⟨hed,Q⟩:=Q;cases bs with
 |nil=>cases Q
 |cons hd πs=>
  dsimp only at Q;simp only[Z7]at Q;obtain⟨hlo,hne,hall,hπ⟩:=Q;simp only[List.tail_cons]at hk;generalize lX hd.2=R at hne hall hπ hlo
  have hper:∀f∈πs,f.2.Nodup/\f.2.length=ops.size/\(∀i∈f.2,i<ops.size)/\okL P ops R [] f.2=true:=λf Y=>by
   have:=q0a.1 hπ f Y;simp only[Z7,decide_eq_true_eq,beq_iff_eq,q0a]at this;exact⟨this.1,this.2.1,this.2.2.1,this.2.2.2⟩
  have hmem:∀f∈πs,∀i,i<ops.size->i∈f.2:=λf Y i hi=>by
   obtain⟨G,E,h3,_⟩:=hper f Y;have hsub:f.2⊆List.range ops.size:=λx hx=>q2m.2 (h3 x hx)
   have hperm:(List.range ops.size)⊆f.2:=by
    intro x hx;by_cases hxm:x∈f.2
    ·exact hxm
    ·exfalso
     have:=List.Nodup.length_le_of_subset (l₁:=x::f.2) (l₂:=List.range ops.size) (q2u.2 ⟨hxm,G⟩) (λy hy=>by
      rcases Z3.1 hy with rfl|hy
      ·exact hx
      ·exact hsub hy)
     simp at this;omega
   exact hperm (q2m.2 hi)
  let dec:Array Bool->Nat×Nat->Prop:=λl p=>l.getD p.1 false=true∨l.getD p.2 false=true
  have hex:∀m:Nat->Nat,Lin ops m->∃f∈πs,∀p∈R,jo f.2 p.1 p.2=osR m p:=λm F=>by
   have G:=q0a.1 hall (R.map (osR m)) (by have:=C7 (R.map (osR m));rwa [Y9]at this);rw[Mm F hne,Bool.not_true,Bool.false_or]at G;obtain⟨f,Y,hπe⟩:=List.any_eq_true.1 G;have hπe:R.map (λp=>jo f.2 p.1 p.2)=R.map (osR m):=by simpa using hπe
   exact⟨f,Y,λp z=>List.map_inj_left.1 hπe p z⟩
  refine⟨hed,λd ρ h=>∃(o:Nat×Nat->Bool) (S:DB->Prop),(∀p∈R,(d.getD p.1 false=true->d.getD p.2 false=false->o p=true)/\(d.getD p.2 false=true->d.getD p.1 false=false->o p=false))/\
   (∀m:Nat->Nat,Lin ops m->(∀p∈R,dec d p->osR m p=o p)->∃f,S f/\∀p∈R,jo f.2 p.1 p.2=osR m p)/\(∃m:Nat->Nat,Lin ops m/\(∀p∈R,dec d p->osR m p=o p)/\∀a b,d.getD a false=true->d.getD b false=false->m a<m b)/\∀f,S f->f∈πs/\fq P ops (f.2.filter λk=>!d.getD k false) ρ h N,?_,?_,?_⟩
  ·have e0:∀k,(Array.replicate ops.size false).getD k false=false:=λk=>by simp[Array.getD]
   refine⟨λ_=>true,λf=>f∈πs,λp _=>⟨λq=>(by rw[e0]at q;cases q),λq=>(by rw[e0]at q;cases q)⟩,λm F _=>hex m F,⟨λk=>k,⟨λj i hb=>AZ hed 6 i hb,λ_ _ e=>e⟩,λp _ hd=>(by rcases hd with hd|hd<;>(rw[e0]at hd;cases hd)),λa b ha _=>(by rw[e0]at ha;cases ha)⟩,λf Y=>⟨Y,?_⟩⟩;have:f.2.filter (λk=>!(Array.replicate ops.size false).getD k false)=f.2:=List.filter_eq_self.2 λk _=>by rw[e0];rfl
   rw[this];exact hk f Y
  ·rintro d i o ρ1 G hsz hdn ho hun T ⟨or,S,hor,hS,⟨m,F,hro,hrl⟩,I⟩ ⟨w,hi⟩;have hilt:i<ops.size:=(q0f.1 ho).1;have g:∀k,(d.setIfInBounds i true).getD k false=if k=i then true else d.getD k false:=λk=>lg (by rw[hsz];exact hilt)
   let or':Nat×Nat->Bool:=λp=>if d.getD p.1 false=true∨d.getD p.2 false=true then or p else decide (p.1=i)
   have hcmp:∀p∈R,((d.setIfInBounds i true).getD p.1 false=true->(d.setIfInBounds i true).getD p.2 false=false->or' p=true)/\((d.setIfInBounds i true).getD p.2 false=true->(d.setIfInBounds i true).getD p.1 false=false->or' p=false):=λp z=>by
    obtain⟨g1,g2⟩:=hor p z;rw[g,g];refine⟨λq1 q2=>?_,λq1 q2=>?_⟩
    ·split at q2
     ·cases q2
     ·rename_i n2;by_cases d1:d.getD p.1 false=true
      ·(try simp only[or',d1,true_or,if_true]);exact g1 d1 q2
      ·have d1':d.getD p.1 false=false:=by simpa using d1
       simp only[or',d1',q2,q2b,or_self,if_false];split at q1
       ·rename_i q;simp[q]
       ·exact absurd q1 d1
    ·split at q2
     ·cases q2
     ·rename_i n2;by_cases d1:d.getD p.2 false=true
      ·(try simp only[or',d1,or_true,if_true]);exact g2 d1 q2
      ·have d1':d.getD p.2 false=false:=by simpa using d1
       simp only[or',d1',q2,q2b,or_self,if_false];simp[n2]
   have hdec:∀p,dec d p->dec (d.setIfInBounds i true) p/\or' p=or p:=λp hd=>by
    refine⟨?_,if_pos hd⟩;rcases hd with hd|hd
    ·exact .inl (by rw[g];split<;>first|rfl|exact hd)
    ·exact .inr (by rw[g];split<;>first|rfl|exact hd)
   have hS':∀m:Nat->Nat,Lin ops m->(∀p∈R,dec (d.setIfInBounds i true) p->osR m p=or' p)->∃f,S f/\∀p∈R,jo f.2 p.1 p.2=osR m p:=λm F A=>hS m F λp z hd=>by
    rw[A p z (hdec p hd).1,(hdec p hd).2]
   obtain⟨M,hM⟩:=Sd m ops.size
   have hsize:∀k,d.getD k false=true->k<ops.size:=λk hk=>by
    rcases q3b k ops.size with q|q
    ·exact q
    ·rw[<-hsz]at q;simp[Array.getD,Nat.not_lt.2 q]at hk
   let s:Nat->Nat:=λk=>if d.getD k false=true then m k else if k=i then M else M+1+k
   have U:∀k,d.getD k false=true->s k=m k:=λk h=>if_pos h
   have Z:s i=M:=(if_neg (by rw[hun];decide)).trans (if_pos rfl);have C:∀k,d.getD k false=false->k≠i->s k=M+1+k:=λk G E=>by simp only[s];rw[if_neg (by rw[G];decide),if_neg E]
   have hk4:∀k,d.getD k false=false->M<=s k:=λk h=>by
    by_cases e:k=i
    ·subst e;omega
    ·rw[C k h e];omega
   have V:∀k,d.getD k false=true->s k<M:=λk h=>by rw[U k h];exact hM k (hsize k h)
   have befl:∀j k,oi ops 6 j k=true->d.getD k false=true->d.getD j false=true:=λj k hb hk=>iC hdn 6 k (λo' A e he W=>hdn k o' A hk e he W) hb
   have befi:∀j,oi ops 6 j i=true->d.getD j false=true:=λj hb=>iC hdn 6 i (λo' A e he W=>by
    rw[ho]at A;cases A;exact T e he W) hb
   have X:Lin ops s:=by
    refine⟨λj k hb=>?_,λj k e=>?_⟩
    ·cases B:d.getD k false with
     |true=>rw[U k B,U j (befl j k hb B)];exact F.1 j k hb
     |false=>
      by_cases ek:k=i
      ·subst ek;have:=V j (befi j hb);rw[Z];exact this
      ·cases J:d.getD j false with
       |true=>have:=V j J;have:=hk4 k B;omega
       |false=>
        by_cases ej:j=i
        ·subst ej;rw[Z,C k B ek];omega
        ·rw[C j J ej,C k B ek];have:=AZ hed 6 k hb;omega
    ·cases J:d.getD j false with
     |true=>
      cases B:d.getD k false with
      |true=>rw[U j J,U k B]at e;exact F.2 j k e
      |false=>have:=V j J;have:=hk4 k B;omega
     |false=>
      cases B:d.getD k false with
      |true=>have:=V k B;have:=hk4 j J;omega
      |false=>
       by_cases ej:j=i
       ·by_cases ek:k=i
        ·rw[ej,ek]
        ·subst ej;rw[Z,C k B ek]at e;omega
       ·by_cases ek:k=i
        ·subst ek;rw[Z,C j J ej]at e;omega
        ·rw[C j J ej,C k B ek]at e;omega
   have hrl':∀a b,(d.setIfInBounds i true).getD a false=true->(d.setIfInBounds i true).getD b false=false->s a<s b:=λa b ha hb=>by
    rw[g]at ha hb;split at hb
    ·cases hb
    ·rename_i nb;have h3:=C b hb nb;split at ha
     ·rename_i ea;subst ea;omega
     ·have:=V a ha;omega
   have D:∀p∈R,dec (d.setIfInBounds i true) p->osR s p=or' p:=λp z hd=>by
    obtain⟨g1,g2⟩:=hor p z
    have hnp:p.1≠p.2:=λe=>by
     have:=q0a.1 hne p z;rw[e]at this;simp at this
    unfold osR;cases l1:d.getD p.1 false with
    |true=>
     have e1:or' p=or p:=if_pos (.inl l1);rw[e1];cases l2:d.getD p.2 false with
     |true=>rw[U _ l1,U _ l2];exact hro p z (.inl l1)
     |false=>rw[g1 l1 l2];have:=V _ l1;have:=hk4 _ l2;exact decide_eq_true (by omega)
    |false=>
     cases l2:d.getD p.2 false with
     |true=>
      have e1:or' p=or p:=if_pos (.inr l2);rw[e1,g2 l2 l1];have:=V _ l2;have:=hk4 _ l1;exact decide_eq_false (by omega)
     |false=>
      have e1:or' p=decide (p.1=i):=if_neg (by rw[l1,l2];simp);rw[e1];by_cases G:p.1=i
      ·have E:p.2≠i:=λe=>hnp (G.trans e.symm)
       rw[decide_eq_true G,G,Z,C _ l2 E];exact decide_eq_true (by omega)
      ·have E:p.2=i:=by
        rcases hd with hd|hd
        ·rw[g,if_neg G,l1]at hd;cases hd
        ·rw[g]at hd;split at hd
         ·assumption
         ·rw[l2]at hd;cases hd
       rw[decide_eq_false G,E,Z,C _ l1 G];exact decide_eq_false (by omega)
   have step:∀f,S f->(∀p∈R,dec (d.setIfInBounds i true) p->jo f.2 p.1 p.2=or' p)->bf P ops o ρ1 G λρ' h'=>fq P ops (f.2.filter λk=>!(d.setIfInBounds i true).getD k false) ρ' h' N:=λf t ha=>by
    obtain⟨Y,O⟩:=I f t;obtain⟨p1,p2,p3,p4⟩:=hper f Y;have him:i∈f.2.filter λk=>!d.getD k false:=q1b.2 ⟨hmem f Y i hilt,by rw[hun];rfl⟩
    obtain⟨r,r2,hr⟩:=List.append_of_mem him
    have hcm:∀j∈r,n6 P ops j i=true:=λj hj=>by
     obtain⟨q,q2,hq,hq2⟩:=AY hr
     have hjl:d.getD j false=false:=by
      have:=(q1b.1 (show j∈f.2.filter λk=>!d.getD k false by rw[hr];simp[hj])).2;simpa using this
     obtain⟨f1,f2⟩:=JQ p1 _ hr hj
     have hne:j≠i:=λe=>by
      subst e;have hnd:(f.2.filter λk=>!d.getD k false).Nodup:=p1.filter λk=>!d.getD k false
      rw[hr,q3r]at hnd;exact hnd.2.2 j hj j (by simp) rfl
     rcases Mj p4 hq j (.inr (hq2 j hj))with c|c|c|c
     ·exact c
     ·have:=iC hdn 6 i (λo' A e he W=>by
       rw[ho]at A;cases A;exact T e he W) c
      rw[hjl]at this;cases this
     ·have:=ha (j,i) c (.inr (by rw[g,if_pos rfl]));rw[f2]at this;simp only[or',hjl,hun,q2b,or_self,if_false]at this;simp[hne]at this
     ·have:=ha (i,j) c (.inl (by rw[g,if_pos rfl]));rw[f1]at this;simp only[or',hjl,hun,q2b,or_self,if_false]at this;simp at this
    rw[hr]at O;have hb:=R2 ho r r2 hcm hi O
    have e:(f.2.filter λk=>!(d.setIfInBounds i true).getD k false)=r++r2:=by
     rw[<-filter_one p1 hr];refine List.filter_congr λk _=>?_
     rw[g];by_cases hki:k=i<;>simp[hki]
    rw[e];exact hb
   cases hld:bV o.op&&!(tD P o.op||Jr o.op)with
   |true=>
    simp only[Z7,q2x]at hld;have hl2:=q0a.1 hlo i (by simpa using hilt);simp only[Ha,ho,hld.1,hld.2,Bool.not_true,Bool.false_or]at hl2
    have hall':∀p∈R,dec (d.setIfInBounds i true) p:=λp z=>by
     have E:=q0a.1 hl2 p z;simp only[q1c,Nat.beq_eq_true_eq]at E
     have bef:∀j,oi ops 6 j i=true->(d.setIfInBounds i true).getD j false=true:=λj hb=>by
      rw[g];split
      ·rfl
      ·exact iC hdn 6 i (λo' A e he W=>by
        rw[ho]at A;cases A;exact T e he W) hb
     rcases E with E|E|E|E
     ·exact .inl (by rw[g,if_pos (q0d E)])
     ·exact .inr (by rw[g,if_pos (q0d E)])
     ·exact .inl (bef _ E)
     ·exact .inr (bef _ E)
    obtain⟨f,t,hπo⟩:=hS' s X D;refine fv (λv h' hn=>?_) (step f t λp z hd=>(hπo p z).trans (D p z hd));exact⟨or',λq=>q=f,hcmp,λrk2 _ hos=>⟨f,rfl,λp z=>by rw[hπo p z,D p z (hall' p z),hos p z (hall' p z)]⟩,⟨s,X,D,hrl'⟩,λq hq=>by subst hq;exact⟨(I q t).1,hn⟩⟩
   |false=>
    have hst:∀{ρ:Env} {h:Hp} {K K':Env->Hp->Prop},bf P ops o ρ h K->bf P ops o ρ h K'->∃u h',K (ρ.put o.dst u) h'/\K' (ρ.put o.dst u) h'/\∀L:Env->Hp->Prop,L (ρ.put o.dst u) h'->bf P ops o ρ h L:=λ{ρ h K K'} hk hk'=>by
     simp only[Bool.and_eq_false_iff,Bool.not_eq_false',q1c]at hld;rcases hld with q|q|q
     ·obtain⟨u,q1⟩:=oC (by simp[ij,q]) hk hk';exact⟨u,h,q1⟩
     ·obtain⟨u,q1⟩:=Cw q hk hk';exact⟨u,h,q1⟩
     ·exact Js q hk hk'
    obtain⟨π0,hS0,hπ0⟩:=hS' s X D;have k0:=step π0 hS0 λp z hd=>(hπ0 p z).trans (D p z hd)
    obtain⟨u,hh,_,_,hu⟩:=hst k0 k0;refine hu _ ⟨or',λf=>S f/\∀p∈R,dec (d.setIfInBounds i true) p->jo f.2 p.1 p.2=or' p,hcmp,λrk2 hr2 hos=>?_,⟨s,X,D,hrl'⟩,λf ⟨t,ha⟩=>⟨(I f t).1,?_⟩⟩
    ·obtain⟨f,G,E⟩:=hS' rk2 hr2 hos;exact⟨f,⟨G,λp z hd=>by rw[E p z,hos p z hd]⟩,E⟩
    ·have ku:=hu (λρ' h'=>ρ'=ρ1.put o.dst u/\h'=hh) ⟨rfl,rfl⟩;obtain⟨u2,E,g1,g2,_⟩:=hst ku (step f t ha);rw[<-g1.1,<-g1.2];exact g2
  ·rintro d ρ1 G hsz hl ⟨or,S,_,hS,⟨m,F,hro,_⟩,I⟩;obtain⟨f,t,_⟩:=hS m F hro;obtain⟨Y,O⟩:=I f t
   have:(f.2.filter λk=>!d.getD k false)=[]:=List.filter_eq_nil_iff.2 λk hk=>by
    rw[hl k ((hper f Y).2.2.1 k hk)];simp
   rw[this]at O;exact O
theorem C9{ops:Array Oper}{call:CP}{σ:AE}{H:AH}{n:Nat}{k:KP}:∀{a:List DB},S6 ops a call σ H n k->∀c∈a,vd ops (zf ops.toList c.2) call σ H n k
 | [],_,c,b=>by cases b
 |q::a,h,c,b=>by
  have h:vd ops (zf ops.toList q.2) call σ H n k/\S6 ops a call σ H n k:=h;rcases Z3.1 b with rfl|b
  ·exact h.1
  ·exact C9 h.2 c b
theorem Hf(a:FR φ σ ρ){c:Operand}{q:Bool}(hv:ρ.ev c= .bool q):FR φ (S3 c q σ) ρ:=by
 cases c with
 |tmp t=>
  have:=a.put (some t) (VR.bool q);have e:ρ.put (some t) (.bool q)=ρ:=nq hv;rw[e]at this;exact this
 |_=>exact a
theorem Mn(c:oj call){p:Nat}{φ0:Ph}(u:∀b q,φ0 b=some q->b<p){ops:Array Oper}{φ:Ph}{σ:AE}{H:AH}{n:Nat}{k:KP}{ρ:Env}{h:Hp}{N:Env->Hp->Prop}(F:zg p ops call σ H n k)(G:PLe φ0 φ)(I:HR φ H n h0 h)(K:FR φ σ ρ)(L:GoP φ0 h0 k N):CB Tryz.prog ops ρ h N:=by
 obtain⟨M,J,O,P,Q⟩:=F
 have D:∀{a:Ph} {σ:AE} {H:AH} {n:Nat} {ρ:Env} {h:Hp} {s:AE×AH×Nat},PLe φ0 a->HR a H n h0 h->FR a σ ρ->Cov p σ H n s->∃f,PLe φ0 f/\HR f s.2.1 s.2.2 h0 h/\FR f s.1 ρ:=λkp g j m=>by
  obtain⟨f,⟨R,S,T⟩,U,V⟩:=m _ h0 _ _ g j;exact⟨f,⟨λb q e=>R b q (u b q e) (kp.b b q e),λq e=>S q (kp.z q e),λq e=>kp.y q (T q e)⟩,U,V⟩
 refine⟨M,λl ρ h=>∃(a:Ph) (σ:AE) (H:AH) (n:Nat),PLe φ0 a/\HR a H n h0 h/\FR a σ ρ/\J l σ H n,⟨φ,σ,H,n,G,I,K,O⟩,λl i o ρ h d hd ho W X ⟨a,σ,H,n,kp,g,j,v⟩ _=>?_,λl ρ h d r ⟨a,σ,H,n,kp,g,j,v⟩=>?_⟩
 ·have w:=P l i o σ H n d hd ho W X v
  have:=ir (ops:=ops) (N:=λt E=>∃(a:Ph) (σ:AE) (H:AH) (n:Nat),PLe φ0 a/\HR a H n h0 E/\FR a σ t/\J (l.setIfInBounds i true) σ H n) c [o] a σ H n (λσ H n=>∃s:AE×AH×Nat,Cov p σ H n s/\J (l.setIfInBounds i true) s.1 s.2.1 s.2.2) ρ h kp g j w λf Y H' n' t E Z q2 q3 ⟨s,m,q4⟩=>(by
   obtain⟨x,A,B,C⟩:=D Z q2 q3 m;exact⟨x,_,_,_,A,B,C,q4⟩)
  exact lf this
 ·obtain⟨s,m,hk⟩:=Q l σ H n d r v;obtain⟨x,A,B,C⟩:=D kp g j m;exact L x _ _ _ ρ h A B C hk
theorem Mo{a b:Bool}(h:(Bool.rec false b a:Bool)=true):a=true/\b=true:=by
 cases a with
 |true=>exact⟨rfl,h⟩
 |false=>cases h
theorem jM(E:oj call){I:CP}(hcd:oj I)(hcs:uP I){D:DT}{p:Nat}{φ0:Ph}(hφ:∀b q,φ0 b=some q->b<p)(c:Code):mo D c=true->∀(φ:Ph) (σ:AE) (H:AH) (n:Nat) (kn:KP) (kx:Nat->KP) (A:KP) (ρ:Env) (h:Hp) (N R:EH) (X:Nat->EH),PLe φ0 φ->HR φ H n h0 h->FR φ σ ρ->
 jL p I D c call σ H n kn kx A->GoP φ0 h0 kn N->GoP φ0 h0 A R->(∀i,GoP φ0 h0 (kx i) (X i))->avc Tryz.prog c N R X ρ h:=by
 induction c with
 |skip=>exact λ_ φ σ H n kn kx A ρ h N R X u w v o C _ _=>C φ σ H n ρ h u w v o
 |region id ops draw=>
  intro r φ σ H n kn kx A ρ h N R X u w v o C _ _;have key:vd ops ops.toList call σ H n kn->lb Tryz.prog ops ops.toList ρ h N:=λo=>ir E _ φ σ H n kn ρ h u w v o C
  unfold avc;cases draw with
  |false=>exact qX E _ φ σ H n kn ρ h u w v o C
  |true=>
   have o:(Option.rec (λcall σ H n kn _ _=>vd ops ops.toList call σ H n kn) (λbs call σ H n kn _ _=>Px p ops bs call I σ H n kn) (findD D id):XP) call σ H n kn kx A:=o;have r:(Option.rec (CA Tryz.prog ops) (λbs=>Hb Tryz.prog ops bs) (findD D id):Bool)=true:=r;rw[if_pos rfl];cases hd:findD D id with
   |none=>
    rw[hd]at o r;exact .inr (.inl ⟨r,key o⟩)
   |some bs=>
    rw[hd]at o r;have o:Px p ops bs call I σ H n kn:=o;have r:Hb Tryz.prog ops bs=true:=r;unfold Px at o;unfold Hb at r;cases hnv:Md bs with
    |true=>rw[hnv]at o;exact o.elim
    |false=>
    rw[hnv]at o r;rw[Bool.false_or]at r;cases hhd:Fu bs with
    |true=>
     rw[hhd]at o;exact .inr (.inr (Mn E hφ o u w v C))
    |false=>
    rw[hhd,Bool.false_or]at r;rw[hhd]at o;have o:Me ops bs call I σ H n kn:=o;unfold Me at o;cases hio:Mc bs with
    |true=>
     rw[hio]at o r;exact .inr (.inr (PD r λπ hm=>qY _ _ _ (ir E _ φ σ H n kn ρ h u w v (C9 o π hm) C)))
    |false=>
     rw[hio]at o r;cases hbl:Nat.blt bs.length ops.size with
     |false=>
      rw[hbl]at o r;exact .inr (.inr (wN hcd hcs r o w v λB σ' H' n' M h' hp' hr' hf' hk'=>C B σ' H' n' M h' (u.trans hp') hr' hf' hk'))
     |true=>
      rw[hbl]at o r;have r:(wH (JA ops bs.length) bs&&Ft ops bs.length)=true:=r;rw[Z7]at r;have hlt:bs.length<ops.size:=by simpa using hbl
      obtain⟨hd1,O⟩:=r;unfold Ft at O;simp only[Z7,q0a,q1c,q2m]at O;refine .inr (.inr (LX (m:=bs.length) (N':=λM h'=>lb Tryz.prog ops (ops.toList.drop bs.length) M h' N) (Nat.le_of_lt hlt) O.1 (λi hi hsz listed hdn hedge j hj=>lY O.2.1 hdn (i+1) i (by omega) hedge hsz ((O.2.2 i hsz).resolve_left (λq=>by rw[q2q]at q;omega) j hj)) ?_ λ_ _ h=>h));rw[<-Pt];exact wN hcd hcs hd1 o w v λB σ' H' n' M h' hp' hr' hf' hk'=>ir E _ B σ' H' n' kn M h' (u.trans hp') hr' hf' hk' C
 |seq a b P S=>
  intro r φ σ H n kn kx A ρ h N R X u w v o C F G;obtain⟨T,U⟩:=Mo r;have o:(Bool.rec (jL p I D a call σ H n (λσ H n=>jL p I D b call σ H n kn kx A) kx A) (qz p (λk=>jL p I D a call σ H n k kx A) (λσ H n=>jL p I D b call σ H n kn kx A)) (Fv D b):Prop):=o;have way:jL p I D a call σ H n (λσ H n=>jL p I D b call σ H n kn kx A) kx A->avc Tryz.prog (.seq a b) N R X ρ h:=λo=>P T φ σ H n _ kx A ρ h _ R X u w v o (λB σ H n ρ h u w v o=>S U B σ H n kn kx A ρ h N R X u w v o C F G) F G
  cases hj:Fv D b with
  |false=>rw[hj]at o;exact way o
  |true=>
   rw[hj]at o;rcases o with o|⟨α,m,st,hA,hB⟩
   ·exact way o
   ·refine P T φ σ H n _ kx A ρ h _ R X u w v hA (λB σ1 H1 n1 d s J V W ⟨a',L⟩=>?_) F G;obtain⟨χ,c1,c2,c3⟩:=L B h0 s d V W;exact S U χ _ _ _ kn kx A d s N R X ⟨λb q e=>c1.1 b q (hφ b q e) (J b q e),λq hq=>c1.2.1 q (J.z q hq),λq hq=>J.y q (c1.2.2 q hq)⟩ c2 c3 (hB a') C F G
 |cond x a b P S=>
  intro r φ σ H n kn kx A ρ h N R X u w v o C F G;obtain⟨T,U⟩:=Mo r;have o:L2 x σ (λσ=>jL p I D a call σ H n kn kx A) (λσ=>jL p I D b call σ H n kn kx A):=o;have L:=v.ev x;unfold L2 at o;unfold avc;split at o
  ·rename_i q;rw[q]at L;rw[L.bZ];exact⟨λ_=>P T φ σ H n kn kx A ρ h N R X u w v o C F G,(λk=>by cases k)⟩
  ·rename_i q;rw[q]at L;rw[L.bZ];exact⟨(λk=>by cases k),λ_=>S U φ σ H n kn kx A ρ h N R X u w v o C F G⟩
  ·rename_i q e;rw[e]at L;have hv:=L.jY;cases q with
   |true=>rw[hv];exact⟨λ_=>P T φ _ H n kn kx A ρ h N R X u w (Hf v hv) (o.t rfl) C F G,(λk=>by cases k)⟩
   |false=>rw[hv];exact⟨(λk=>by cases k),λ_=>S U φ _ H n kn kx A ρ h N R X u w (Hf v hv) (o.f rfl) C F G⟩
  ·exact o.elim
 |block id b ih=>
  intro r φ σ H n kn kx A ρ h N R X u w v hs0 C F G;unfold avc;refine ih r φ σ H n kn _ A ρ h N R _ u w v hs0 C F λi B σ H n ρ h u w v o=>?_
  cases hb:Nat.beq i id with
  |true=>
   rw[hb]at o;have hii:=q0d hb;rw[if_pos hii];exact C B σ H n ρ h u w v o
  |false=>
   rw[hb]at o;have hne:¬i=id:=λq=>by subst q;simp at hb
   (try simp only[if_neg hne])
   exact G i B σ H n ρ h u w v o
 |loop b ih=>
  intro r φ σ H n kn kx A ρ h N R X u w v o C F G;have o:aQ p (λσ H n k=>jL p I D b call σ H n k kx A) σ H n:=o;unfold avc;rcases o with⟨α,nn,st,μ,a0,c0,hstep⟩|⟨k0,hroll⟩
  ·skip
   let Q:Env->Hp->Nat->Prop:=λd s m=>∃B a,μ a=m/\PLe φ0 B/\HR B (st a).2 nn h0 s/\FR B (st a).1 d
   have cov:∀{B:Ph} {σ:AE} {H:AH} {n:Nat} {ρ:Env} {h:Hp} {a:α},Cov p σ H n ((st a).1,(st a).2,nn)->PLe φ0 B->HR B H n h0 h->FR B σ ρ->Q ρ h (μ a):=λ{B σ H n ρ h a} L u w v=>by
    obtain⟨χ,s,h2,h3⟩:=L B h0 h ρ w v;exact⟨χ,a,rfl,⟨λb q e=>s.1 b q (hφ b q e) (u b q e),λq hq=>s.2.1 q (u.z q hq),λq hq=>u.y q (s.2.2 q hq)⟩,h2,h3⟩
   have Y:∀d s g,Q d s g->∃m,Q d s m/\∀k,Q d s k->m<=k:=λd s g hg=>least g hg
   refine⟨λd s=>∃g,Q d s g,λd s=>Classical.epsilon λm=>Q d s m/\∀k,Q d s k->m<=k,⟨_,cov c0 u w v⟩,λd s ⟨g,hg⟩ _ _=>?_⟩;have Z:=q4b (Y d s g hg);obtain⟨m,hm⟩:∃m,(Classical.epsilon λm=>Q d s m/\∀k,Q d s k->m<=k)=m:=⟨_,rfl⟩;rw[hm]at Z;obtain⟨⟨B,a,ha,J,V,W⟩,_⟩:=Z;refine ih r B _ _ _ _ kx A d s _ R X J V W (hstep a) (λχ σ2 H2 n2 ρ2 h2 hp2 hr2 hf2 ⟨a',hlt,L⟩=>?_) F G;have K:=cov L hp2 hr2 hf2;refine⟨h2,Sub.refl _,⟨_,K⟩,?_⟩;have hsp2:=q4b (Y ρ2 h2 _ K);have:=hsp2.2 _ K
   (try simp only[hm])
   omega
  ·let Q:Env->Hp->Nat->Prop:=λd s m=>∃B σ H n,R6 m (λσ H n k=>jL p I D b call σ H n k kx A) σ H n/\PLe φ0 B/\HR B H n h0 s/\FR B σ d
   have Y:∀d s g,Q d s g->∃m,Q d s m/\∀k,Q d s k->m<=k:=λd s g hg=>least g hg
   refine⟨λd s=>∃g,Q d s g,λd s=>Classical.epsilon λm=>Q d s m/\∀k,Q d s k->m<=k,⟨k0,φ,σ,H,n,hroll,u,w,v⟩,λd s ⟨g,hg⟩ _ _=>?_⟩;have Z:=q4b (Y d s g hg);obtain⟨m,hm⟩:∃m,(Classical.epsilon λm=>Q d s m/\∀k,Q d s k->m<=k)=m:=⟨_,rfl⟩;rw[hm]at Z;obtain⟨⟨B,σ1,H1,n1,hr0,J,V,W⟩,_⟩:=Z;cases m with
   |zero=>exact hr0.elim
   |succ m=>
    refine ih r B _ _ _ _ kx A d s _ R X J V W hr0 (λχ σ2 H2 n2 ρ2 h2 hp2 hr2 hf2 h3=>?_) F G;have K:Q ρ2 h2 m:=⟨χ,σ2,H2,n2,h3,hp2,hr2,hf2⟩;refine⟨h2,Sub.refl _,⟨_,K⟩,?_⟩;have hsp2:=q4b (Y ρ2 h2 _ K);have:=hsp2.2 _ K
    (try simp only[hm])
    omega
 |exit i=>exact λ_ φ σ H n kn kx A ρ h N R X u w v o _ _ G=>G i φ σ H n ρ h u w v o
 |scope b ih=>exact λr φ σ H n kn kx A ρ h N R X u w v o C F G=>ih r φ σ H n kn kx A ρ h N R X u w v o C F G
 |label l=>exact λ_ φ σ H n kn kx A ρ h N R X u w v o C _ _=>C φ σ H n ρ h u w v o
 |ret=>exact λ_ φ σ H n kn kx A ρ h N R X u w v o _ F _=>F φ σ H n ρ h u w v o
 |_=>intro _ φ σ H n kn kx A ρ h N R X u w v o;exact o.elim
theorem nD(g:HR φ H n h0 h)(f:FR φ σ ρ){K:KH}:∀(rs:List ResultVar) (acc:List Value) (k:List AV->Prop),CY rs σ H k->(∀c us,k c->VRs φ c us->Fin K (CE (acc.reverse++us)) h)->vc Tryz.prog rs acc ρ h K
 | [],acc,k,b,e=>by
  have:=e [] [] b .nil;simpa[vc]using this
 | .tmp t::rs,acc,k,b,e=>by
  have b:CY rs σ H (λc=>k (bj (pa t) σ::c)):=b;refine nD g f rs (ρ t::acc) _ b λc us i d=>?_
  have:=e _ (ρ t::us) i (.cons (f.at t) d);simpa using this
 | .cell a t::rs,acc,k,b,e=>by
  have b:uK t (bj (pa a) σ) H (λv=>CY rs σ H λc=>k (v::c)):=b;refine oQ g (f.at a) b λr u i j=>?_
  refine nD g f rs (u::acc) _ i λc us l d=>?_
  have:=e _ (u::us) l (.cons j d);simpa using this
theorem wP (J:Tryz.prog.follows .mixedOrders=true) (d:oj call) {m:CP} (o:oj m) (p:uP m) {D:DT} {f:FuncId} {fn:Func} {c:Code} (g:Jy Tryz.prog f=true) (r:mo D c=true) (j:Tryz.prog.funcs[f]?=some fn) (B:fn.body=some c) {args:List AV} {κ:PK} {l:Array Value} {K:KH}
 (s:Py call m D c fn.results.toList fn.ntmps args H n κ) (C:HR φ H n h0 h) (a:VRs φ args l.toList) (L:cD φ h0 κ K):dI Tryz.prog f l h K:=by
 obtain⟨M,s⟩:=gm s;simp only[Jy,j,B,Z7]at g;obtain⟨t,hds⟩:=g;have u:=a.length;have hle:=Z0 M;refine⟨t,LI J j B rfl rfl hds (by simpa[u]using hle) λ_=>?_⟩
 have fin:GoP φ h0 (λσ H n=>CY fn.results.toList σ H λl=>κ (y8 l) H n) (vc Tryz.prog fn.results.toList [] · · K):=λE v F G w I x k y z=>
  nD k y _ [] _ z λws us N A=> .here (L E _ F G _ I x k (by simpa using CU A) N)
 exact jM d o p (λb q e=>(C.dom b q e).1) c r φ _ H n _ _ _ _ h _ _ _ (PLe.refl _) C (CT a) s fin fin λi E v F G w I _ _ _ q=>q.elim
def ai(f:FuncId)(g:List AV->AH->Nat->PK->Prop):Prop:=∀(args:List AV) (H:AH) (n:Nat) (a:PK),g args H n a->∀(φ:Ph) (h0 h:Hp) (b:Array Value) (K:KH),HR φ H n h0 h->VRs φ args b.toList->cD φ h0 a K->dI Tryz.prog f b h K
def iG(g:List AV->AH->Nat->PK->Prop):Prop:=∀args H n d,g args H n d->∃v b c,d v b c/\gu H b/\n<=c/\∀a:PK,a v b c->g args H n a
def Se(f:FuncId)(e:EP):Prop:=match e with
 | .no=>True
 | .run D c rs m=>Jy Tryz.prog f=true/\mo D c=true/\∃fn,Tryz.prog.funcs[f]?=some fn/\fn.body=some c/\fn.results.toList=rs/\fn.ntmps=m
 | .nat g=>ai f g
 | .det g=>ai f g/\iG g
def aW(F:FuncId->EP):Prop:=∀f,Se f (F f)
theorem sc{F:FuncId->EP}(i:aW F):oj (uM F):=λf args H n d a φ h0 h j K k c l=>by
 have a:(EP.rec (λ_ _ _ _=>False) (λ_ _ _ _ _ _ _ _=>False) (λ_ _ _ _ _=>False) (λg=>g) (F f):List AV->AH->Nat->PK->Prop) args H n d:=a;have e:=i f;cases b:F f with
 |no=>rw[b]at a;exact a.elim
 |nat g=>rw[b]at a;exact a.elim
 |run _ _ _ _=>rw[b]at a;exact a.elim
 |det g=>rw[b]at a e;exact e.1 args H n d a φ h0 h j K k c l
theorem nE{F:FuncId->EP}(d:aW F):uP (uM F):=λf args H n e b=>by
 unfold uM at*;have c:=d f;cases a:F f with
 |no=>rw[a]at b;exact b.elim
 |nat g=>rw[a]at b;exact b.elim
 |run _ _ _ _=>rw[a]at b;exact b.elim
 |det g=>rw[a]at b c;exact c.2 args H n e b
theorem b6(t:Tryz.prog.follows .mixedOrders=true){F:FuncId->EP}(j:aW F):∀d,oj (ay F d)
 |0=>λf args H n κ b=>b.elim
 |d+1=>λf args H n κ b φ h0 h u K k a l=>by
  have b:(EP.rec (λ_ _ _ _=>False) (λD c rs m=>Py (ay F d) (uM F) D c rs m) (λg=>g) (λg=>g) (F f):List AV->AH->Nat->PK->Prop) args H n κ:=b;have i:=j f;cases e:F f with
  |no=>rw[e]at b;exact b.elim
  |nat g=>rw[e]at b i;exact i args H n κ b φ h0 h u K k a l
  |det g=>rw[e]at b i;exact i.1 args H n κ b φ h0 h u K k a l
  |run D c rs m=>
   rw[e]at b i;obtain⟨o,p,fn,q,v,r,s⟩:=i;subst r s;exact wP t (b6 t j d) (sc j) (nE j) o p q v b k a l
theorem wQ{D:DT}{f:FuncId}(d:Jy Tryz.prog f=true)(a:zi D f=true):Se f (zh D f):=by
 unfold zi at a;unfold zh;cases b:Tryz.prog.funcs[f]? with
 |none=>rw[b]at a;cases a
 |some fn=>
  rw[b]at a;dsimp only at a⊢;cases e:fn.body with
  |none=>rw[e]at a;cases a
  |some c=>
   rw[e]at a;exact⟨d,a,fn,b,e,rfl,rfl⟩
theorem az:aW evP:=λf=>by
 unfold evP;cases h:R3 f with
 |false=>trivial
 |true=>
  cases hd:zi [] f with
  |false=>trivial
  |true=>exact wQ h hd
def bg (k:FuncId) (D:DT) (F:FuncId->EP) (f:FuncId):EP:=Bool.rec (F f) (zh D k) (Nat.beq f k)
theorem aw{F:FuncId->EP}(c:aW F){k:FuncId}{D:DT}(a:Jy Tryz.prog k=true)(b:zi D k=true):aW (bg k D F):=λf=>by
 unfold bg;cases d:Nat.beq f k with
 |false=>exact c f
 |true=>
  have:=q0d d;subst this;exact wQ a b
def cV (k:FuncId) (g:List AV->AH->Nat->PK->Prop) (F:FuncId->EP) (f:FuncId):EP:=Bool.rec (F f) (.det g) (Nat.beq f k)
theorem ba{F:FuncId->EP}(a:aW F){k:FuncId}{g:List AV->AH->Nat->PK->Prop}(b:ai k g)(c:iG g):aW (cV k g F):=λf=>by
 unfold cV;cases d:Nat.beq f k with
 |false=>exact a f
 |true=>
  have:=q0d d;subst this;exact⟨b,c⟩
def aq (k:FuncId) (g:List AV->AH->Nat->PK->Prop) (F:FuncId->EP) (f:FuncId):EP:=Bool.rec (F f) (.nat g) (Nat.beq f k)
theorem ae{F:FuncId->EP}(a:aW F){k:FuncId}{g:List AV->AH->Nat->PK->Prop}(b:ai k g):aW (aq k g F):=λf=>by
 unfold aq;cases c:Nat.beq f k with
 |false=>exact a f
 |true=>
  have:=q0d c;subst this;exact b
def flat:AV->Bool
 | .int _ _=>true
 | .str _=>true
 | .bool _=>true
 | .si _ _=>true
 | .sb _=>true
 | .ss _=>true
 | .nil=>true
 | .nsl=>true
 | .tup l=>l.all flat1
 | .agg l=>l.all flat1
 |_=>false
where flat1:AV->Bool
 | .int _ _=>true
 | .str _=>true
 | .bool _=>true
 | .si _ _=>true
 | .sb _=>true
 | .ss _=>true
 | .nil=>true
 | .nsl=>true
 |_=>false
theorem aX{φ ψ:Ph}{a:AV}{v:Value}(b:flat.flat1 a=true)(h:VR φ a v):VR ψ a v:=by
 cases a<;>first|(cases b;done)|exact h
theorem pS{φ ψ:Ph}:∀{l:List AV} {b:List Value},l.all flat.flat1=true->VRs φ l b->VRs ψ l b
 | [],b,_,h=>by rw[h.aU];exact .nil
 |a::l,b,c,h=>by
  obtain⟨v,us,rfl,d,e⟩:=h.cons_inv;simp only[q1x,Z7]at c;exact .cons (aX c.1 d) (pS c.2 e)
theorem iU{φ ψ:Ph}{a:AV}{v:Value}(b:flat a=true)(h:VR φ a v):VR ψ a v:=by
 cases a<;>first|(cases b;done)|exact h|skip
 case agg l=>obtain⟨cs,rfl,c⟩:=h.dY;exact .agg (pS b c)
 case tup l=>obtain⟨cs,rfl,c⟩:=h.eM;exact .tup (pS b c)
def mkT:AV->AV
 | .tup l=> .tup (l.map mk)
 |v=>mk v
theorem VRs.mk{φ:Ph}:∀{l:List AV} {b:List Value},VRs φ l b->VRs φ (l.map Go.Proofs.YtflehenfikoniaaGreat.mk) b
 | [],b,h=>by rw[h.aU];exact .nil
 |a::l,b,h=>by
  obtain⟨v,us,rfl,c,d⟩:=h.cons_inv;exact .cons c.mk (VRs.mk d)
theorem VR.mkT{φ:Ph}{a:AV}{v:Value}(h:VR φ a v):VR φ (mkT a) v:=by
 cases a<;>first|exact h.mk|skip
 case tup l=>obtain⟨cs,rfl,b⟩:=h.eM;exact .tup b.mk
theorem Da{a:AV}(h:flat a=true):flat (mkT a)=true:=by
 cases a<;>first|exact h|skip
 case tup l=>
  have:∀{l:List AV},l.all flat.flat1=true->(l.map mk).all flat.flat1=true:=by
   intro l
   induction l with
   |nil=>intro _;rfl
   |cons a l c=>
    intro b;simp only[q1x,q1r,Z7]at b⊢;refine⟨?_,c b.2⟩;cases a<;>exact b.1
  exact this h
theorem VN {F:FuncId->EP} (r:aW F) {d:Nat} {f:FuncId} {args:List AV} {v:AV} (x:args.all flat=true) (hv:flat v=true) (h:ay F d f args .nil 0 λu _ _=>mkT u=mkT v)
 {φ:Ph} {H:AH} {n:Nat} {h0 i:Hp} {j:Array Value} {κ:PK} {K:KH} (y:κ (mkT v) H n) (z:HR φ H n h0 i) (e:VRs φ args j.toList) (A:cD φ h0 κ K):dI Tryz.prog f j i K:=by
 have c:VRs Ph.no args j.toList:=by
  have:∀{l:List AV} {us:List Value},l.all flat=true->VRs φ l us->VRs Ph.no l us:=by
   intro l
   induction l with
   |nil=>intro us _ h;rw[h.aU];exact .nil
   |cons a l B=>
    intro us k h;obtain⟨w,ws,rfl,C,D⟩:=h.cons_inv;simp only[q1x,Z7]at k;exact .cons (iU k.1 C) (B k.2 D)
  exact this x e
 have key:Wf i->dI Tryz.prog f j i K:=λE=>b6 (by kernel_rfl) r d f args .nil 0 _ h Ph.no i i j K (gj E) c λG u N O w g _ s I J=>by
  have m:HR φ H n h0 g:=z.grow (λb o L=>(s.base b o L).2) s.size;have M:VR φ (mkT v) w:=(iU (φ:=G) (Da hv) (J▸I.mkT));exact A φ _ H n w g (PLe.refl _) m M y
 have p:bR Tryz.prog f=true:=(b6 (by kernel_rfl) r d f args .nil 0 _ h Ph.no ⟨λ_=>none,0⟩ ⟨λ_=>none,0⟩ j (λ_ _=>True) (gj λ_ _ q=>by cases q) c λ_ _ _ _ _ _ _ _ _ _=>trivial).1;exact⟨p,λw t=>(key t.wf).2 w t⟩
end
def mkE:List (Nat×AV)->AE
 | []=> .nil
 |x::l=>(mkE l).set (some x.2) eR x.1
def mkH:List (Nat×AO)->AH
 | []=> .nil
 |x::l=>(mkH l).set (some x.2) aa x.1
theorem nG:∀{l:List (Nat×AV)} {t:Nat} {a:AV},(mkE l).get t=some a->(t,a)∈l
 | [],t,a,h=>by cases h
 |x::l,t,a,h=>by
  rcases PM.ak eR _ x.1 t a h with⟨rfl,b⟩|⟨_,b⟩
  ·injection b with b;subst b;exact q0b
  ·exact Y4 _ (nG b)
theorem ck:∀{l:List (Nat×AO)} {t:Nat} {a:AO},(mkH l).get t=some a->(t,a)∈l
 | [],t,a,h=>by cases h
 |x::l,t,a,h=>by
  rcases PM.ak aa _ x.1 t a h with⟨rfl,b⟩|⟨_,b⟩
  ·injection b with b;subst b;exact q0b
  ·exact Y4 _ (ck b)
def Ren(m:Nat)(r:Nat->Nat)(φ ψ:Ph):Prop:=(∀b,b<m->ψ b=φ (r b))/\∀q,φ.z q->ψ.z q
def AO.size:AO->Nat
 | .cells l _=>l.length
 | .ro l=>l.length
 | .map _=>0
 | .mp _ _ _=>0
 | .iter _ _ _=>0
 | .sep _=>0
def Room(φ:Ph)(H:AH):Prop:=∀b o p,H.get b=some o->φ b=some p->o.size<=p.T
theorem HR.room{φ:Ph}{H:AH}{n:Nat}{f h:Hp}(g:HR φ H n f h):Room φ H:=λb o p i j=>by
 obtain⟨k,_,_,e⟩:=g.of i j;cases o with
 |cells l z=>obtain⟨c,t,fz,_,d,_⟩:=e;exact d
 |ro l=>obtain⟨c,t,fz,_,d,_⟩:=e;exact d
 |map es=>exact Y5 _
 |mp _ _ _=>exact Y5 _
 |iter _ _ _=>exact Y5 _
 |sep _=>exact Y5 _
def ab(H:AH)(m:Nat)(r:Nat->Nat)(a d:AV):Prop:=∀b c v,Ren m r b c->Room b H->VR b a v->VR c d v
def an(H:AH)(m:Nat)(r:Nat->Nat)(o o':AO):Prop:=(o.own=o'.own/\o.Jw=o'.Jw)/\∀b c p d,Ren m r b c->Room b H->OR b p o d->OR c p o' d
section
variable {H:AH} {m:Nat} {r:Nat->Nat}
theorem ab.bad(a:AV):ab H m r a .bad:=λ_ _ _ _ _ _=> .bad _
theorem ab.flat{a b:AV}(h:Go.Proofs.YtflehenfikoniaaGreat.flat b=true)(e:mk a=mk b):ab H m r a b:=λc i v _ _ d=>by
 have f:VR c (mk b) v:=e▸d.mk;have g:VR c b v:=by cases b<;>exact f
 exact iU h g
theorem ab.int{k:IntKind}{a:AV}{x:Int}(e:mk a= .si k x):ab H m r a (.si k x):=ab.flat rfl e
theorem ab.bool{a:AV}{x:Bool}(e:mk a= .sb x):ab H m r a (.sb x):=ab.flat rfl e
theorem ab.str{a:AV}{x:List Nat}(e:mk a= .ss x):ab H m r a (.ss x):=ab.flat rfl e
theorem ab.ptr{a:AV}{b o:Nat}(c:b<m)(e:a= .ptr (r b) o):ab H m r a (.ptr b o):=λh i v d _ f=>by
 subst e;obtain⟨p,g,rfl⟩:=f.cw;exact .ptr (by rw[d.1 b c];exact g)
theorem ab.mF{a:AV}(h:Go.Proofs.YtflehenfikoniaaGreat.mF a=true):ab H m r a a:=λd e v b _ c=>lT b.2 h c
theorem ab.map{a:AV}{b:Nat}(c:b<m)(e:a= .map (r b)):ab H m r a (.map b):=λh i v d _ f=>by
 subst e;obtain⟨p,g,rfl⟩:=f.lR;exact .map (by rw[d.1 b c];exact g)
theorem ab.sy{a:AV}{b o n c k:Nat}(d:b<m)(e:mk a= .sy (r b) o n c k):ab H m r a (.sy b o n c k):=λf s v g _ h=>by
 have i:VR f (.sy (r b) o n c k) v:=e▸h.mk;obtain⟨p,C,j,rfl,l,q⟩:=i.AL;exact .sy (by rw[g.1 b d];exact j) l q
theorem ab.sl{a:AV}{b o n c k:Nat}(d:b<m)(e:mk a= .sy (r b) o n c k):ab H m r a (.sl b o n c k):=λf g v h i j=>(ab.sy d e f g v h i j).hd
theorem ab.rw{a:AV}{b o n j k x d:Nat}(l:b<m)(e:a= .rw (r b) o j k d)(hn:j=n:=by first|rfl|simp)(f:(x<2->d<2)/\(x=1->d=1)/\(x≠4->d≠4):=by decide):ab H m r a (.rw b o n k x):=λD E v s _ t=>by
 subst e hn;rcases t.gX with⟨rfl,g⟩|⟨p,y,C,h,rfl,i,u,w,z,A,B⟩
 ·refine .rwe rfl (g.imp id λ⟨h,i⟩=>⟨?_,i⟩)
  by_cases c:x=4
  ·exact c
  ·exact absurd h (f.2.2 c)
 ·exact .rwx (by rw[s.1 b l];exact h) i u w z (λq=>A (f.1 q)) (λq=>B (f.2.1 q))
theorem ab.iV{a:AV}{b o n k x:Nat}(e:a= .nsl)(hn:n=0:=by first|rfl|simp):ab H m r a (.rw b o n k x):=λd f v g _ c=>by
 subst e hn;rw[c.c9];exact .rwn
theorem an.cells{l l':List AV}{z e:Bool}(f:l'.length<=l.length)(g:e=true->z=true)(h:∀(i:Nat) (b:AV),l'[i]?=some b->∃a,l[i]?=some a/\ab H m r a b):an H m r (.cells l z) (.cells l' e):=
 ⟨⟨rfl,rfl⟩,λj k p F n o ⟨c,t,fz,s,u,w,x,y,A⟩=>⟨c,t,fz,s,Y7 f u,w,x,λq=>y (g q),λi b B=>by
  obtain⟨a,C,D⟩:=h i b B;obtain⟨v,E,d⟩:=A i a C;exact⟨v,E,D j k v n o d⟩⟩⟩
theorem an.ro{l l':List AV}(e:l'.length<=l.length)(h:∀(i:Nat) (b:AV),l'[i]?=some b->∃a,l[i]?=some a/\ab H m r a b):an H m r (.ro l) (.ro l'):=
 ⟨⟨rfl,rfl⟩,λf g p z j k ⟨c,t,fz,n,o,q,s⟩=>⟨c,t,fz,n,Y7 e o,q,λi b u=>by
  obtain⟨a,w,x⟩:=h i b u;obtain⟨v,y,d⟩:=s i a w;exact⟨v,y,x f g v j k d⟩⟩⟩
theorem wR{a:AV}(h:Go.Proofs.YtflehenfikoniaaGreat.flat.flat1 a=true):Go.Proofs.YtflehenfikoniaaGreat.flat a=true:=by cases a<;>first|exact h|cases h
theorem ab.mk1{a b:AV}(c:Go.Proofs.YtflehenfikoniaaGreat.flat.flat1 b=true)(e:mk a=mk b):ab H m r a b:=ab.flat (wR c) e
theorem zp{l l':List AV}(c:l'.all Go.Proofs.YtflehenfikoniaaGreat.flat.flat1=true)(h:l.map mk=l'.map mk)(i:Nat)(b:AV)(hi:l'[i]?=some b):∃a,l[i]?=some a/\ab H m r a b:=by
 have e:=congrArg (λx:List AV=>x[i]?) h;simp only[q0s,hi,q0h]at e;rw[Z8]at e;obtain⟨a,d,f⟩:=e;exact⟨a,d,.mk1 (q0a.1 c b (q0l hi)) f⟩
theorem an.iW{l l':List AV}{z b:Bool}(c:l'.all Go.Proofs.YtflehenfikoniaaGreat.flat.flat1=true)(h:l.map mk=l'.map mk)(d:b=true->z=true):an H m r (.cells l z) (.cells l' b):=
 an.cells (by have:=congrArg List.length h;simp only[Y9]at this;omega) d (zp c h)
theorem an.wS{l l':List AV}(b:l'.all Go.Proofs.YtflehenfikoniaaGreat.flat.flat1=true)(h:l.map mk=l'.map mk):an H m r (.ro l) (.ro l'):=
 an.ro (by have:=congrArg List.length h;simp only[Y9]at this;omega) (zp b h)
theorem wT:∀{s:List Nat},(∀x∈s,x<256)->lj (s.map λc:Nat=> .si .u8 (Int.ofNat c))=some s
 | [],_=>rfl
 |c::s,h=>by
  have b:Nat.blt c 256=true:=by rw[q2q];exact h c q0b
  simp only[q1r,lj,b,wT (s:=s) λx d=>h x (Y4 _ d),q0h]
theorem bp{b:Type}{l:List b}{n:Nat}(h:l.length=n):bq l 0 n=some l:=by
 subst h;unfold bq;rw[q0w,q0o (Z6 _)];simp
theorem Cov.ofR {p n:Nat} {σ:AE} {H:AH} {le:List (Nat×AV)} {lh:List (Nat×AO)} (r:Nat->Nat) (hp:p<=m) (hr:∀b,b<p->r b=b) (he:∀x∈le,ab H m r (bj (pa x.1) σ) x.2)
 (N:∀x∈lh,x.1<m/\((∃o,H.get (r x.1)=some o/\an H m r o x.2)∨(x.2.void=true/\n<=r x.1))) (hi:∀x∈lh,∀y∈lh,r x.1=r y.1->x.1=y.1):Cov p σ H n (mkE le,mkH lh,m):=λC h0 h ρ I hF=>by
 let k:Ph:=⟨λb=>if b<m then C (r b)else none,C.z,C.y,λb=>C.s (r b)⟩
 have v:Ren m r C k:=⟨λb g=>by simp only[k,if_pos g],λ_ h=>h⟩;have u:=I.room
 have d:∀b,n<=b->C b=none:=λb g=>by
  cases f:C b with
  |none=>rfl
  |some p=>exact absurd (I.dom b p f).1 (by omega)
 refine⟨k,⟨λb q g f=>?_,λ_ h=>h,λ_ h=>h⟩,⟨λb q f=>?_,λb o g=>?_,λb b' o o' q q' g P V W f j e=>?_,I.base,I.size,λq f=>?_,λb Q g=>?_⟩,λt a ht=>?_⟩
 ·simp only[k,if_pos (q0y g hp),hr b g];exact f
 ·simp only[k]at f;split at f
  ·rename_i g;exact⟨g,(I.dom _ _ f).2⟩
  ·cases f
 ·obtain⟨G,⟨J,A,w,S⟩|⟨A,w⟩⟩:=N _ (ck g)
  ·rcases I.live _ _ A with⟨K,D⟩|⟨q,ob,K,D,X,T⟩
   ·refine .inl ⟨by simp only[k,if_pos G];exact K,?_⟩;cases L:J.Jw with
    |some Q=>
     rw[w.2]at L;cases o<;>first|rfl|cases L
    |none=>
    obtain⟨q,f⟩:∃q:Pl,q=⟨0,0,0⟩:=⟨_,rfl⟩
    have key:OR C q J (.cells #[] default (0,0)):=by
     cases J with
     |cells l z=>
      cases l with
      |nil=>exact⟨#[],default,_,rfl,by simp,by subst f;simp,jh _ _,λ_=>rfl,λi a h=>by simp at h⟩
      |cons _ _=>cases D
     |ro l=>
      cases l with
      |nil=>exact⟨#[],default,_,rfl,by simp,by subst f;simp,λi a h=>by simp at h⟩
      |cons _ _=>cases D
     |map _=>cases D
     |mp _ _ _=>cases D
     |iter _ _ _=>cases D
     |sep _=>cases L
    have M:=S C k q _ v u key;cases o with
    |cells l z=>
     obtain⟨c,t,fz,e,Y,_⟩:=M;subst f;cases l with
     |nil=>rfl
     |cons _ _=>simp at Y
    |ro l=>
     obtain⟨c,t,fz,e,Y,_⟩:=M;subst f;cases l with
     |nil=>rfl
     |cons _ _=>simp at Y
    |map _=>obtain⟨ms,cl,e,_⟩:=M;cases e
    |mp _ _ _=>obtain⟨ms,e,_⟩:=M;cases e
    |iter _ _ _=>obtain⟨_,q',_,e⟩:=M;cases e
    |sep _=>rfl
   ·refine .inr ⟨q,ob,by simp only[k,if_pos G];exact K,?_,X,S C k q ob v u T⟩;rw[D];cases J<;>cases o<;>first|rfl|cases w.1|cases T
  ·exact .inl ⟨by simp only[k,if_pos G];exact d _ w,AO.G6 A⟩
 ·obtain⟨G,E⟩:=N _ (ck g);obtain⟨Z,F⟩:=N _ (ck P);simp only[k,if_pos G]at f;simp only[k,if_pos Z]at j;rcases E with⟨J,A,w,S⟩|⟨_,w⟩
  ·rcases F with⟨o2',E,F,h4'⟩|⟨_,F⟩
   ·exact hi _ (ck g) _ (ck P) (I.inj _ _ _ _ _ _ A E (w.1.trans V) (F.1.trans W) f j e)
   ·rw[d _ F]at j;cases j
  ·rw[d _ w]at f;cases f
 ·obtain⟨⟨K,g9⟩,D⟩:=I.frz q f;refine⟨⟨FzR.mono v.2 K,g9⟩,λb o q' g V j=>?_⟩;obtain⟨G,E⟩:=N _ (ck g);simp only[k,if_pos G]at j;rcases E with⟨J,A,w,S⟩|⟨_,w⟩
  ·exact D _ _ _ A (w.1.trans V) j
  ·rw[d _ w]at j;cases j
 ·
  have src:∀{b Q},(mkH lh).get b=some (.sep Q)->b<m/\H.get (r b)=some (.sep Q):=λ{b Q} g=>by
   obtain⟨G,⟨J,A,w,_⟩|⟨A,_⟩⟩:=N _ (ck g)
   ·have:=w.2;cases J<;>first|cases this;done|(cases this;exact⟨G,A⟩)
   ·cases A
  obtain⟨G,A⟩:=src g;obtain⟨k1,M⟩:=I.sep _ _ A;refine⟨k1,λB hB=>?_⟩;obtain⟨K,D,X,T⟩:=M B hB;refine⟨K,λb' o' p' U e2 O=>?_,X,λb' Q' U e2 O=>?_⟩
  ·obtain⟨f1,R⟩:=N _ (ck U);simp only[k,if_pos f1]at O;rcases R with⟨J,R,f3,_⟩|⟨_,f3⟩
   ·exact D _ _ _ R (f3.1.trans e2) O
   ·rw[d _ f3]at O;cases O
  ·obtain⟨_,R⟩:=src U;exact T _ _ R (λq=>e2 (hi _ (ck U) _ (ck g) q)) O
 ·exact he _ (nG ht) C k _ v u (hF.at t)
theorem Cov.of {p n:Nat} {σ:AE} {H:AH} {le:List (Nat×AV)} {lh:List (Nat×AO)} (r:Nat->Nat) (e:p<=m) (f:∀b,b<p->r b=b) (g:∀x∈le,ab H m r (bj (pa x.1) σ) x.2)
 (c:∀x∈lh,x.1<m/\∃o,H.get (r x.1)=some o/\an H m r o x.2) (hi:∀x∈lh,∀y∈lh,r x.1=r y.1->x.1=y.1):Cov p σ H n (mkE le,mkH lh,m):=Cov.ofR r e f g (λx d=>⟨(c x d).1,.inl (c x d).2⟩) hi
def oU{b:Type}(P:b->Prop):List b->Prop
 | []=>True
 |x::l=>P x/\oU P l
theorem oU.at{c:Type}{P:c->Prop}:∀{l:List c},oU P l->∀x∈l,P x
 |_::_,h,x,b=>(Z3.1 b).elim (λe=>e▸h.1) (λb=>oU.at h.2 x b)
def Db(m:Nat):List Nat->Bool
 | []=>true
 |x::l=>Nat.blt x m&&Db m l
theorem sd{m:Nat}:∀{l:List Nat},Db m l=true->∀x∈l,x<m
 |a::l,h,x,b=>by
  simp only[Db,Z7,q2q]at h;exact(Z3.1 b).elim (λe=>e▸h.1) (λb=>sd h.2 x b)
theorem Cov.ofB {p n:Nat} {σ:AE} {H:AH} {le:List (Nat×AV)} {lh:List (Nat×AO)} (r:Nat->Nat) (d:p<=m) (e:∀b,b<p->r b=b) (f:oU (λx=>ab H m r (bj (pa x.1) σ) x.2) le)
 (g:oU (λx=>(∃o,H.get (r x.1)=some o/\an H m r o x.2)∨(x.2.void=true/\n<=r x.1)) lh) (h:Db m (lh.map Prod.fst)=true) (hi:∀x∈lh,∀y∈lh,r x.1=r y.1->x.1=y.1):Cov p σ H n (mkE le,mkH lh,m):=
 Cov.ofR r d e f.at (λx c=>⟨sd h _ (q0e.2 ⟨x,c,rfl⟩),g.at x c⟩) hi
theorem Cov.ofA {p n:Nat} {σ:AE} {H:AH} {le:List (Nat×AV)} {lh:List (Nat×AO)} (c:p<=m) (d:oU (λx=>ab H m (λb=>b) (bj (pa x.1) σ) x.2) le)
 (f:oU (λx=>(∃o,H.get x.1=some o/\an H m (λb=>b) o x.2)∨(x.2.void=true/\n<=x.1)) lh) (g:Db m (lh.map Prod.fst)=true):Cov p σ H n (mkE le,mkH lh,m):=
 Cov.ofB (λb=>b) c (λ_ _=>rfl) d f g λ_ _ _ _ e=>e
def rl (l:List (Nat×Nat)):Nat->Nat:=List.rec (λb=>b) (λx _ c b=>bif Nat.beq b x.1 then x.2 else c b) l
def VO (r:Nat->Nat) (l:List Nat):Bool:=l.all λx=>l.all λy=>!Nat.beq (r x) (r y)||Nat.beq x y
def idB(r:Nat->Nat):Nat->Bool
 |0=>true
 |p+1=>Nat.beq (r p) p&&idB r p
theorem gY{r:Nat->Nat}:∀{p:Nat},idB r p=true->∀b,b<p->r b=b
 |p+1,h,b,c=>by
  simp only[idB,Z7]at h;rcases Nat.lt_succ_iff_lt_or_eq.1 c with q|q
  ·exact gY h.2 b q
  ·subst q;exact q0d h.1
theorem Cov.ofN {p n:Nat} {σ:AE} {H:AH} {le:List (Nat×AV)} {lh:List (Nat×AO)} (l:List (Nat×Nat)) (d:oU (λx=>ab H m (rl l) (bj (pa x.1) σ) x.2) le)
 (f:oU (λx=>(∃o,H.get (rl l x.1)=some o/\an H m (rl l) o x.2)∨(x.2.void=true/\n<=rl l x.1)) lh) (b:(Nat.ble p m&&(Db m (lh.map Prod.fst)&&(VO (rl l) (lh.map Prod.fst)&&idB (rl l) p)))=true:=by exact rfl):Cov p σ H n (mkE le,mkH lh,m):=by
 simp only[Z7]at b;obtain⟨g,h,c,i⟩:=b;refine Cov.ofB (rl l) (Z0 g) (gY i) d f h λx j y k e=>?_
 unfold VO at c;have:=q0a.1 (q0a.1 c x.1 (q0e.2 ⟨x,j,rfl⟩)) y.1 (q0e.2 ⟨y,k,rfl⟩);rw[e]at this;simp only[Nat.beq_refl,Bool.not_true,Bool.false_or]at this;exact q0d this
section
variable {H:AH} {r:Nat->Nat} {a:AV}
theorem sI{k:IntKind}{x:Int}(e:mk a= .si k x:=by exact rfl):ab H m r a (.si k x):= .int e
theorem sB{x:Bool}(e:mk a= .sb x:=by exact rfl):ab H m r a (.sb x):= .bool e
theorem sS{x:List Nat}(e:mk a= .ss x:=by exact rfl):ab H m r a (.ss x):= .str e
theorem sP{b o:Nat}(e:a= .ptr (r b) o:=by exact rfl)(c:b<m:=by decide):ab H m r a (.ptr b o):= .ptr c e
theorem oR{n x:Nat}{L:List AV}(b:L.all Go.Proofs.YtflehenfikoniaaGreat.flat.flat1=true)(c:L.map Go.Proofs.YtflehenfikoniaaGreat.mk=L)(h:(∃l,H.get (r x)=some (.cells l true)/\l.map Go.Proofs.YtflehenfikoniaaGreat.mk=L)∨(L=[]/\n<=r x)):(∃o,H.get (r x)=some o/\an H m r o (.cells L true))∨((AO.cells L true).void=true/\n<=r x):=
 h.elim (λ⟨l,h,g⟩=> .inl ⟨_,h,an.iW b (g.trans c.symm) (λq=>q)⟩) λh=> .inr ⟨by rw[h.1];rfl,h.2⟩
end
end
def asI(a:AV)(κ:Int->Prop):Prop:=match a with
 | .int .i64 n=>κ n
 | .si .i64 n=>κ n
 |_=>False
theorem PE{φ:Ph}{a:AV}{v:Value}{κ:Int->Prop}(h:VR φ a v)(k:asI a κ):∃n,v= .int .i64 n/\κ n:=by
 unfold asI at k;split at k
 ·exact⟨_,h.b9,k⟩
 ·exact⟨_,h.gi,k⟩
 ·exact k.elim
theorem vs3{φ:Ph}{a b c:AV}{d:Array Value}(h:VRs φ [a,b,c] d.toList):∃x y z,d= #[x,y,z]/\VR φ a x/\VR φ b y/\VR φ c z:=by
 obtain⟨x,n,o,e,f⟩:=h.cons_inv;obtain⟨y,p,g,i,j⟩:=f.cons_inv;obtain⟨z,q,k,l,m⟩:=j.cons_inv;have:=m.aU;subst this k g;exact⟨x,y,z,by cases d;simp_all,e,i,l⟩
theorem vs2{φ:Ph}{a b:AV}{c:Array Value}(h:VRs φ [a,b] c.toList):∃x y,c= #[x,y]/\VR φ a x/\VR φ b y:=by
 obtain⟨x,j,k,d,e⟩:=h.cons_inv;obtain⟨y,l,f,g,i⟩:=e.cons_inv;have:=i.aU;subst this f;exact⟨x,y,by cases c;simp_all,d,g⟩
theorem vs1{φ:Ph}{a:AV}{b:Array Value}(h:VRs φ [a] b.toList):∃x,b= #[x]/\VR φ a x:=by
 obtain⟨x,e,f,c,d⟩:=h.cons_inv;have:=d.aU;subst this;exact⟨x,by cases b;simp_all,c⟩
def wU(f:Int->Int->Int->Int)(args:List AV)(H:AH)(n:Nat)(κ:PK):Prop:=match args with
 | [x,y,z]=>asI x λt=>asI y λs=>asI z λa=>κ (.si .i64 (f t s a)) H n
 |_=>False
def mkK(κ:PK):PK:=λv H n=>κ (mk v) H n
theorem cD.mkK{φ:Ph}{a:Hp}{κ:PK}{K:KH}(b:cD φ a κ K):cD φ a (mkK κ) K:=λc v H n u g d e f h=>b c _ H n u g d e f.mk h
theorem Mp{κ:PK}{H:AH}{n:Nat}{b c:Bool}(a:κ (.sb b) H n)(h:b=c):κ (.sb c) H n:=by subst h;exact a
theorem Mq{κ:PK}{H:AH}{n:Nat}{k:IntKind}{b c:Int}(a:κ (.si k b) H n)(h:b=c):κ (.si k c) H n:=by subst h;exact a
def se(f:Int->Bool)(args:List AV)(H:AH)(n:Nat)(κ:PK):Prop:=match args with
 | [x]=>asI x λt=>κ (.sb (f t)) H n
 |_=>False
def zq(f:Int->Int->Bool)(args:List AV)(H:AH)(n:Nat)(κ:PK):Prop:=match args with
 | [x,y]=>asI x λt=>asI y λs=>κ (.sb (f t s)) H n
 |_=>False
theorem nH{φ:Ph}{a:AV}{v:Value}{κ:Int->Prop}(h:VR φ a v)(k:asI a κ):∃n,VR φ (.si .i64 n) v/\κ n:=by
 obtain⟨n,rfl,k⟩:=PE h k;exact⟨n,.si _ _,k⟩
theorem Dc{F:FuncId->EP}(e:aW F){d:Nat}{f:FuncId}{g:Int->Bool}(h:∀(t:Int) (H:AH) (n:Nat) (κ:PK),κ (.sb (g t)) H n->ay F d f [.si .i64 t] H n (mkK κ)):ai f (se g):=λargs H n κ b i j k o K l a m=>by
 unfold se at b;split at b
 ·obtain⟨x,rfl,c⟩:=vs1 a;obtain⟨t,c,b⟩:=nH c b;exact b6 (by kernel_rfl) e d f _ H n (mkK κ) (h t H n κ b) i j k _ K l (.cons c .nil) m.mkK
 ·exact b.elim
theorem Mr{F:FuncId->EP}(i:aW F){d:Nat}{f:FuncId}{g:Int->Int->Bool}(h:∀(t s:Int) (H:AH) (n:Nat) (κ:PK),κ (.sb (g t s)) H n->ay F d f [.si .i64 t,.si .i64 s] H n (mkK κ)):ai f (zq g):=λargs H n κ a j k l p K m b o=>by
 unfold zq at a;split at a
 ·obtain⟨x,y,rfl,c,e⟩:=vs2 b;obtain⟨t,c,a⟩:=nH c a;obtain⟨s,e,a⟩:=nH e a;exact b6 (by kernel_rfl) i d f _ H n (mkK κ) (h t s H n κ a) j k l _ K m (.cons c (.cons e .nil)) o.mkK
 ·exact a.elim
theorem Hg{F:FuncId->EP}(k:aW F){d:Nat}{f:FuncId}{g:Int->Int->Int->Int}(h:∀(t s a:Int) (H:AH) (n:Nat) (κ:PK),κ (.si .i64 (g t s a)) H n->ay F d f [.si .i64 t,.si .i64 s,.si .i64 a] H n (mkK κ)):ai f (wU g):=λargs H n κ b l m o r K p c q=>by
 unfold wU at b;split at b
 ·obtain⟨x,y,z,rfl,e,i,j⟩:=vs3 c;obtain⟨t,e,b⟩:=nH e b;obtain⟨s,i,b⟩:=nH i b;obtain⟨a,j,b⟩:=nH j b;exact b6 (by kernel_rfl) k d f _ H n (mkK κ) (h t s a H n κ b) l m o _ K p (.cons e (.cons i (.cons j .nil))) q.mkK
 ·exact b.elim
def zr(f:Int->Int->Int)(args:List AV)(H:AH)(n:Nat)(κ:PK):Prop:=match args with
 | [x,y]=>asI x λt=>asI y λs=>κ (.si .i64 (f t s)) H n
 |_=>False
theorem Ms{F:FuncId->EP}(i:aW F){d:Nat}{f:FuncId}{g:Int->Int->Int}(h:∀(t s:Int) (H:AH) (n:Nat) (κ:PK),κ (.si .i64 (g t s)) H n->ay F d f [.si .i64 t,.si .i64 s] H n (mkK κ)):ai f (zr g):=λargs H n κ a j k l p K m b o=>by
 unfold zr at a;split at a
 ·obtain⟨x,y,rfl,c,e⟩:=vs2 b;obtain⟨t,c,a⟩:=nH c a;obtain⟨s,e,a⟩:=nH e a;exact b6 (by kernel_rfl) i d f _ H n (mkK κ) (h t s H n κ a) j k l _ K m (.cons c (.cons e .nil)) o.mkK
 ·exact a.elim
theorem iG.pure{g:List AV->AH->Nat->PK->Prop}(h:∀args H n κ,g args H n κ->∃v,κ v H n/\∀a:PK,a v H n->g args H n a):iG g:=λargs H n κ b=>by
 obtain⟨v,c,d⟩:=h args H n κ b;exact⟨v,H,n,c,.refl _,Z6 _,d⟩
theorem iX{a:AV}{κ:Int->Prop}(h:asI a κ):∃n,κ n/\∀b:Int->Prop,b n->asI a b:=by
 unfold asI at*;split at h
 ·exact⟨_,h,λ_ k=>k⟩
 ·exact⟨_,h,λ_ k=>k⟩
 ·exact h.elim
theorem Mt{f:Int->Bool}:iG (se f):= .pure λargs H n e a=>by
 unfold se at*;split at a
 ·obtain⟨x,b,c⟩:=iX a;exact⟨_,b,λd h=>c _ h⟩
 ·exact a.elim
theorem S9{f:Int->Int->Bool}:iG (zq f):= .pure λargs H n i a=>by
 unfold zq at*;split at a
 ·obtain⟨x,b,c⟩:=iX a;obtain⟨y,d,e⟩:=iX b;exact⟨_,d,λg h=>c _ (e _ h)⟩
 ·exact a.elim
theorem Ta{f:Int->Int->Int}:iG (zr f):= .pure λargs H n i a=>by
 unfold zr at*;split at a
 ·obtain⟨x,b,c⟩:=iX a;obtain⟨y,d,e⟩:=iX b;exact⟨_,d,λg h=>c _ (e _ h)⟩
 ·exact a.elim
theorem Dd{f:Int->Int->Int->Int}:iG (wU f):= .pure λargs H n k a=>by
 unfold wU at*;split at a
 ·obtain⟨x,b,c⟩:=iX a;obtain⟨y,d,e⟩:=iX b;obtain⟨z,g,i⟩:=iX d;exact⟨_,g,λj h=>c _ (e _ (i _ h))⟩
 ·exact a.elim
section
variable {φ:Ph} {H:AH} {n:Nat} {h0 hp:Hp}
def oV(hp:Hp)(p:Pl)(l:List AV):Prop:=∃c t fz,hp.f p.B=some (.cells c t fz)/\l.length<=p.T/\p.s+p.T<=c.size/\∀a,CR a c p.s l
def ph1(p:Pl):Ph:=⟨λb=>if b=0 then some p else none,λ_=>False,λ_=>False,λ_ _=>False⟩
def ph2(p q:Pl):Ph:=⟨λb=>if b=0 then some p else if b=1 then some q else none,λ_=>False,λ_=>False,λ_ _=>False⟩
theorem HR.ro1(g:Wf hp){p:Pl}{l:List AV}(h:oV hp p l):HR (ph1 p) (mkH [(0,.ro l)]) 1 hp hp:=by
 obtain⟨c,t,fz,d,i,j,m⟩:=h;refine⟨λb q e=>?_,λb o e=>?_,λb r o s q u e _ f=>?_,λb o e=>⟨g b o e,e⟩,Z6 _,λ_ k=>k.elim,λb Q e=>?_⟩;rotate_left 3
 ·have hm:=ck e;simp only[Z3,Z4,or_false]at hm;injection hm with e1 a;cases a
 ·simp only[ph1]at e;split at e
  ·injection e with e;subst e;exact⟨by omega,g _ _ d⟩
  ·cases e
 ·have hm:=ck e;simp only[Z3,Z4,or_false]at hm;injection hm with e1 a;subst e1 a;exact .inr ⟨p,_,rfl,d,d,c,t,fz,rfl,i,j,m _⟩
 ·have hm:=ck e;simp only[Z3,Z4,or_false]at hm;injection hm with e1 a;subst a;cases f
theorem HR.ro2(a:Wf hp){p q:Pl}{l m:List AV}(h:oV hp p l)(k:oV hp q m):HR (ph2 p q) (mkH [(0,.ro l),(1,.ro m)]) 2 hp hp:=by
 obtain⟨c,t,fz,d,u,v,w⟩:=h;obtain⟨x,y,f,g,z,A,B⟩:=k
 have mem:∀b o,(mkH [(0,AO.ro l),(1,AO.ro m)]).get b=some o->(b=0/\o= .ro l)∨(b=1/\o= .ro m):=λb o e=>by
  have hm:=ck e;simp only[Z3,Z4,or_false]at hm;rcases hm with hm|hm
  ·injection hm with i j;exact .inl ⟨i,j⟩
  ·injection hm with i j;exact .inr ⟨i,j⟩
 refine⟨λb r e=>?_,λb o e=>?_,λb C o D r E e _ s=>?_,λb o e=>⟨a b o e,e⟩,Z6 _,λ_ k=>k.elim,λb Q e=>by rcases mem b _ e with⟨_,h⟩|⟨_,h⟩<;>cases h⟩
 ·simp only[ph2]at e;split at e
  ·injection e with e;subst e;exact⟨by omega,a _ _ d⟩
  ·split at e
   ·injection e with e;subst e;exact⟨by omega,a _ _ g⟩
   ·cases e
 ·rcases mem b o e with⟨rfl,rfl⟩|⟨rfl,rfl⟩
  ·exact .inr ⟨p,_,rfl,d,d,c,t,fz,rfl,u,v,w _⟩
  ·exact .inr ⟨q,_,rfl,g,g,x,y,f,rfl,z,A,B _⟩
 ·rcases mem b o e with⟨_,rfl⟩|⟨_,rfl⟩<;>cases s
theorem HR.ro0(a:Wf hp):HR Ph.no .nil 0 hp hp:=gj a
theorem iu {F:FuncId->EP} (q:aW F) {d:Nat} {f:FuncId} {args0:List AV} {e:AH} {i:Nat} {v:AV} (hv:flat v=true) (h:ay F d f args0 e i λu _ _=>mkT u=mkT v)
 {c:Array Value} {κ:PK} {K:KH} (r:κ (mkT v) H n) (s:HR φ H n h0 hp) (t:cD φ h0 κ K) (j:bR Tryz.prog f=true) {φ0:Ph} (k:Wf hp->HR φ0 e i hp hp) (a:VRs φ0 args0 c.toList):dI Tryz.prog f c hp K:=by
 have key:Wf hp->dI Tryz.prog f c hp K:=λx=>b6 (by kernel_rfl) q d f args0 e i _ h φ0 hp hp c K (k x) a λy u D E w g _ m z A=>by
  have l:HR φ H n h0 g:=s.grow (λb o B=>(m.base b o B).2) m.size;have C:VR φ (mkT v) w:=(iU (φ:=y) (Da hv) (A▸z.mkT));exact t φ _ H n w g (PLe.refl _) l C r
 exact⟨j,λw p=>(key p.wf).2 w p⟩
theorem oV.of(G:HR φ H n h0 hp){b o m:Nat}{l r s:List AV}{p:Pl}(d:H.get b=some (.ro l)∨∃z,H.get b=some (.cells l z))(g:φ b=some p)(L:bq l o m=some r)(I:r.map mk=s.map mk)(M:s.all flat.flat1=true):oV hp ⟨p.B,p.s+o,m⟩ s:=by
 have key:∃c t fz,hp.f p.B=some (.cells c t fz)/\l.length<=p.T/\p.s+p.T<=c.size/\CR φ c p.s l:=by
  rcases d with d|⟨z,d⟩
  ·obtain⟨N,_,q,c,t,fz,rfl,u,h,w⟩:=G.of d g;exact⟨c,t,fz,q,u,h,w⟩
  ·obtain⟨N,_,q,c,t,fz,rfl,u,h,_,_,w⟩:=G.of d g;exact⟨c,t,fz,q,u,h,w⟩
 obtain⟨c,t,fz,O,q,u,h⟩:=key;obtain⟨w,J⟩:=br L
 have K:s.length=m:=by
  have:=congrArg List.length I;simp only[Y9]at this;rw[<-this,J];simp;omega
 refine⟨c,t,fz,O,by simp only;omega,by simp only;omega,λS i a y=>?_⟩;have P:=(Y6.1 y).1
 have Q:∃j,r[i]?=some j/\mk j=mk a:=by
  have e:=congrArg (λx:List AV=>x[i]?) I;simp only[q0s,y,q0h]at e;rw[Z8]at e;exact e
 obtain⟨j,A,R⟩:=Q
 have C:l[o+i]?=some j:=by
  rw[J]at A;rw[List.getElem?_take,if_pos (by omega),q2t]at A;exact A
 obtain⟨v,D,E⟩:=h (o+i) j C;refine⟨v,by simp only;rw[q1m];exact D,?_⟩;have F:VR φ (mk a) v:=R▸E.mk;have k:flat.flat1 a=true:=q0a.1 M a (q0l y);exact aX k (by cases a<;>first|exact F|cases k)
end
end Go.Proofs.YtflehenfikoniaaGreat
namespace Go.Proofs.YtflehenfikoniaaGreat
open Go Go.RowKit Go.ChangeShapes Go.WideShapes
section
variable {H:Type} {enc:TypeId×Value->H} {P:Program} {w:World} {base:Nat} {sp:Nat->Bool} {held:Bool}
theorem kO{φ:Ph}(s:ByteArray):VR φ (.ss (s.data.toList.map UInt8.toNat)) (.string s):=by
 have h:VR φ (.ss (s.data.toList.map UInt8.toNat)) (.string (eJ (s.data.toList.map UInt8.toNat))):= .ss λx a=>by
  simp only[q0e]at a;obtain⟨c,_,rfl⟩:=a;exact UInt8.toNat_lt c
 rwa [za]at h
end
end Go.Proofs.YtflehenfikoniaaGreat
namespace Go.Proofs.YtflehenfikoniaaGreat
open Go Go.RowKit
abbrev Smp:=List (Int×Int)
def smp(L:Smp):List AV:=L.flatMap λx=> [.si .i64 x.1,.si .i64 x.2]
theorem bh(L:Smp):(smp L).length=L.length*2:=by
 induction L with
 |nil=>rfl
 |cons x L a=>simp only[smp,q4j,Z5,Z9,q1j]at a⊢;omega
theorem bI(L:Smp):(smp L).all flat.flat1=true:=by
 induction L with
 |nil=>rfl
 |cons x L a=>exact a
theorem bC(L:Smp):(smp L).map mk=smp L:=by
 induction L with
 |nil=>rfl
 |cons x L a=>
  show mk (.si .i64 x.1)::mk (.si .i64 x.2)::(smp L).map mk=_;rw[a];rfl
theorem sh:∀(L:Smp) (i:Nat),(smp L).drop (i*2)=smp (L.drop i)
 |L,0=>by simp
 | [],i+1=>by simp[smp]
 |x::L,i+1=>by
  rw[show(i+1)*2=i*2+2 from by omega];exact sh L i
theorem FH{L:Smp}{i:Nat}(h:i<L.length):(smp L).drop (i*2)= .si .i64 L[i].1:: .si .i64 L[i].2::smp (L.drop (i+1)):=by
 rw[sh,q0j h];rfl
theorem fP{L:Smp}{i o:Nat}(h:i<L.length)(ho:o=i*2):bq (smp L) o 2=some [.si .i64 L[i].1,.si .i64 L[i].2]:=by
 subst ho;unfold bq;rw[q0o (by rw[bh];omega),FH h];rfl
theorem wV{L:Smp}{i o:Nat}(h:i<L.length)(ho:o=i*2):nth (smp L) o=some (.si .i64 L[i].1):=by
 subst ho;have:=congrArg (λl=>l[0]?) (FH h);simp only[q2t,q2o,q1t]at this;rw[eX,this]
theorem wW{L:Smp}{i o:Nat}(h:i<L.length)(ho:o=i*2+1):nth (smp L) o=some (.si .i64 L[i].2):=by
 subst ho;have:=congrArg (λl=>l[1]?) (FH h);simp only[q2t,q1g,q1t]at this;rw[eX,this]
def mK(H:AH)(a:AV)(L:Smp):Prop:=(hd a= .nsl/\L=[])∨((∃b o x l r,(a= .rw b o L.length 2 x/\x≠4)/\(H.get b=some (.ro l)∨∃z,H.get b=some (.cells l z))/\bq l o (L.length*2)=some r/\r.map mk=smp L)∨∃l,a= .fr L.length 2 l/\l.map mk=smp L/\L.length≠0)∨∃b o c k l r,hd a= .sl b o L.length c k/\(H.get b=some (.ro l)∨∃z,H.get b=some (.cells l z))/\bq l o (L.length*2)=some r/\r.map mk=smp L/\L.length<=c
section
variable {φ:Ph} {H:AH} {n:Nat} {h0 hp:Hp}
theorem oV.emp(g:HR φ H n h0 hp){b a T:Nat}{l:List AV}{p:Pl}(d:H.get b=some (.ro l)∨∃z,H.get b=some (.cells l z))(e:φ b=some p)(r:p.s<=a)(u:a+T<=p.s+p.T):oV hp ⟨p.B,a,0⟩ []:=by
 rcases d with d|⟨z,d⟩
 ·obtain⟨j,_,f,c,t,fz,rfl,k,m,o⟩:=g.of d e;exact⟨c,t,fz,f,Z6 _,(show a+0<=c.size by omega),λq i a h=>by simp at h⟩
 ·obtain⟨j,_,f,c,t,fz,rfl,k,m,_,_,o⟩:=g.of d e;exact⟨c,t,fz,f,Z6 _,(show a+0<=c.size by omega),λq i a h=>by simp at h⟩
theorem CR.nI{ψ χ:Ph}{c:Array Value}{s:Nat}{l m:List AV}(h:CR ψ c s l)(e:l.map mk=m.map mk)(j:m.all flat.flat1=true):CR χ c s m:=λi a g=>by
 have d:=congrArg (λx:List AV=>x[i]?) e;simp only[q0s,g,q0h]at d;rw[Z8]at d;obtain⟨k,o,p⟩:=d;obtain⟨v,q,r⟩:=h i k o;have b:flat.flat1 a=true:=q0a.1 j a (q0l g);have f:VR ψ (mk a) v:=p▸r.mk;exact⟨v,q,aX b (by cases a<;>first|exact f|cases b)⟩
theorem PF(f:HR φ H n h0 hp){m k:Nat}{l s:List AV}{v:Value}(g:m≠0)(hv:VR φ (.fr m k l) v)(e:l.map mk=s.map mk)(h:s.all flat.flat1=true):∃p C,m<=C/\oV hp p s/\p.T=m*k/\v= .slice (some ⟨p.B,p.s+0,none⟩) m C:=by
 rcases hv.tK with⟨h0,_⟩|⟨q,o,C,i,rfl,j,r⟩
 ·exact absurd h0 g
 ·obtain⟨⟨⟨_,c,t,fz,u,w,a⟩,_⟩,_⟩:=f.frz q i;obtain⟨z,b⟩:=br r;have d:l.length=m*k:=by rw[b];simp;omega
  have x:s.length=m*k:=by have:=congrArg List.length e;simp only[Y9]at this;omega
  have y:CR φ c (q.s+o) l:=by rw[b];exact CR.drop a
  exact⟨⟨q.B,q.s+o,m*k⟩,C,j,⟨c,t,fz,u,(show s.length<=m*k by omega),(show q.s+o+m*k<=c.size by omega),λA=>CR.nI y e h⟩,rfl,rfl⟩
theorem mK.open(k:HR φ H n h0 hp){a:AV}{L:Smp}{v:Value}(J:mK H a L)(hv:VR φ a v):(L=[]/\∀χ,VR χ .nsl v)∨∃p C,L.length<=C/\oV hp p (smp L)/\∀χ b,χ b=some p->VR χ (.sy b 0 L.length C 0) v:=by
 rcases J with⟨t,rfl⟩|(⟨b,o,x,l,r,⟨rfl,u⟩,m,e,f⟩|⟨l,rfl,f,w⟩)|⟨b,o,c,K,l,r,t,m,e,f,h⟩
 ·have i:=hv.hd;rw[t]at i;exact .inl ⟨rfl,λχ=>by rw[i.c9];exact .nsl⟩
 ·rcases hv.gX with⟨M,z⟩|⟨p,y,C,hp,rfl,N,O,G,P,_,_⟩
  ·have:=z.nil u;subst this;exact .inl ⟨q0c M,λχ=> .nsl⟩
  ·by_cases I:L=[]
   ·subst I;exact .inr ⟨⟨p.B,y,0⟩,C,G,oV.emp k m hp O P,λχ b d=> .sy (p:=⟨p.B,y,0⟩) (o:=0) d (λ_=>rfl) (λq=>absurd rfl q)⟩
   ·have:=N (λq=>I (q0c q));subst this;have g:=oV.of (s:=smp L) k m hp e (by rw[f,bC]) (bI L);exact .inr ⟨⟨p.B,p.s+o,L.length*2⟩,C,G,g,λχ b d=> .sy (p:=⟨p.B,p.s+o,L.length*2⟩) (o:=0) d (λ_=>rfl) (λq=>absurd rfl q)⟩
 ·obtain⟨p,C,Q,g,_,rfl⟩:=PF k w hv (s:=smp L) (by rw[f,bC]) (bI L);exact .inr ⟨p,C,Q,g,λχ b d=> .sy (p:=p) (o:=0) d (λ_=>rfl) (λq=>absurd rfl q)⟩
 ·have i:=hv.hd;rw[t]at i;obtain⟨p,C,A,rfl,D,E⟩:=i.eT
  have F:L.length<=C:=by
   by_cases j:K=0
   ·rw[D j];exact h
   ·exact Y7 h (E j).1
  have g:=oV.of (s:=smp L) k m A e (by rw[f,bC]) (bI L);exact .inr ⟨⟨p.B,p.s+o,L.length*2⟩,C,F,g,λχ b d=> .sy (p:=⟨p.B,p.s+o,L.length*2⟩) d (λ_=>rfl) (λq=>absurd rfl q)⟩
end
theorem wX:∀(L:Smp) (i:Nat),(smp L).take (i*2)=smp (L.take i)
 |L,0=>by simp[smp]
 | [],i+1=>by simp[smp]
 |x::L,i+1=>by
  rw[show(i+1)*2=i*2+2 from by omega];show AV.si .i64 x.1::AV.si .i64 x.2::(smp L).take (i*2)=_;rw[wX L i];rfl
theorem Mu{L:Smp}{j:Nat}(h:j<=L.length):bq (smp L) 0 ((L.take j).length*2)=some (smp (L.take j)):=by
 have:(L.take j).length=j:=by rw[q0g];omega
 rw[this];unfold bq;rw[q0o (by rw[bh];omega)];simp[wX]
theorem fI(L:Smp):bq (smp L) 0 (L.length*2)=some (smp L):=bp (bh L)
def zt(B:Nat)(f:Int->Smp->AV)(args:List AV)(H:AH)(n:Nat)(κ:PK):Prop:=match args with
 | [x,l]=>asI x λk=>∃L,mK H l L/\L.length<=B/\κ (mkT (f k L)) H n
 |_=>False
theorem Tb{B:Nat}{f:Int->Smp->AV}:iG (zt B f):= .pure λargs H n i a=>by
 unfold zt at*;split at a
 ·obtain⟨k,⟨L,b,c,d⟩,e⟩:=iX a;exact⟨_,d,λg h=>e _ ⟨L,b,c,h⟩⟩
 ·exact a.elim
theorem Mv {B:Nat} {F:FuncId->EP} (m:aW F) {d:Nat} {f:FuncId} {g:Int->Smp->AV} (b:bR Tryz.prog f=true) (o:∀k L,flat (g k L)=true) (h0:∀k,ay F d f [.si .i64 k,.nsl] .nil 0 λu _ _=>mkT u=mkT (g k []))
 (r:∀k L cap,L.length<=B->ay F d f [.si .i64 k,.sl 0 0 L.length cap 0] (mkH [(0,.ro (smp L))]) 1 λu _ _=>mkT u=mkT (g k L)):ai f (zt B g):=λargs H n A e φ s hp D K i a q=>by
 unfold zt at e;split at e
 ·obtain⟨x,y,rfl,h,t⟩:=vs2 a;obtain⟨k,h,L,v,w,c⟩:=nH h e;rcases v.open i t with⟨rfl,j⟩|⟨p,C,_,l,j⟩
  ·exact iu m (o k []) (h0 k) c i q b HR.ro0 (.cons (h:VR _ (.si .i64 k) x) (.cons (j _) .nil))
  ·exact iu m (o k L) (r k L C w) c i q b (λz=>HR.ro1 z l) (.cons (by rw[h.gi];exact .si _ _) (.cons (j _ 0 rfl).hd .nil))
 ·exact e.elim
def j9(k:Int):Bool:=decide (1<=k/\k<=7)
def tW(s a:Int):Bool:=decide (1<=s/\s<=1099511627776/\0<=a/\a<s)
def n8(t:Int):Bool:=decide (0<=t/\t<=1099511627776)
def gv(t s a:Int):Int:=if tW s a=true/\n8 t=true/\a<=t then t-(t-a)%s else 0
def wY(b s a:Int):Int:=if tW s a=true/\n8 b=true then(if b<a then a else gv b s a+s)else 0
theorem jE{t s a:Int}:0<=gv t s a/\gv t s a<=1099511627776:=by
 unfold gv;split
 ·rename_i h;simp only[tW,n8,decide_eq_true_eq]at h;have b:=Int.emod_nonneg (t-a) (show s≠0 by omega);have c:=Int.emod_add_mul_ediv (t-a) s;have d:=Int.mul_nonneg (show 0<=s by omega) (Int.ediv_nonneg (show 0<=t-a by omega) (show 0<=s by omega));omega
 ·omega
def qA(a b:Int):Bool:=decide (0<=b/\IntKind.i64.wrap (a+b)<a∨b<0/\a<IntKind.i64.wrap (a+b))
def ke(a b:Int):Int:=if qA a b=true then(if 0<b then 9223372036854775807 else-9223372036854775808)else IntKind.i64.wrap (a+b)
theorem Hh:ai 149 (se j9):=Dc (d:=1) az λt H n b a=>by
 repeat' (conv=>whnf
          first|refine ah.dec (λ_=>?_) (λ_=>?_)|refine ah.di (λ_=>?_) (λ_=>?_)|refine Mp a ?_)
 all_goals simp[j9, *]
theorem VP:ai 113 (zq tW):=Mr (d:=1) az λs a H n c b=>by
 repeat' (conv=>whnf
          first|refine ah.dec (λ_=>?_) (λ_=>?_)|refine ah.di (λ_=>?_) (λ_=>?_)|refine Mp b ?_)
 all_goals simp[tW, *]
theorem Tc:ai 114 (se n8):=Dc (d:=1) az λs H n b a=>by
 repeat' (conv=>whnf
          first|refine ah.dec (λ_=>?_) (λ_=>?_)|refine ah.di (λ_=>?_) (λ_=>?_)|refine Mp a ?_)
 all_goals simp[n8, *]
def FA:FuncId->EP:=cV 113 (zq tW) (cV 114 (se n8) (cV 149 (se j9) evP))
theorem Sf:aW FA:=ba (ba (ba az Hh Mt) Tc Mt) VP S9
theorem A0:ai 54 (wU gv):=Hg (d:=2) Sf λt s a H n i e=>by
 repeat' (conv=>whnf
          first|refine ah.dec (λ_=>?_) (λ_=>?_)|refine ah.di (λ_=>?_) (λ_=>?_)|refine ah.sb (λ_=>?_) (λ_=>?_)|refine ah.nsb (λ_=>?_) (λ_=>?_)|refine And.intro ?_ ?_|refine Mq e ?_)
 ·rename_i b;simp[gv,tW,b]
 ·rename_i c b;simp[gv,n8,b]
 ·rename_i f c b;unfold gv;rw[if_neg (by omega)]
 ·intro j;omega
 ·rename_i f c b;rw[aj (x:=t-a) (by omega) (by omega),Int.tmod_eq_emod_of_nonneg (by omega)];have g:=Int.emod_nonneg (t-a) (show s≠0 by omega);have h:=Int.emod_lt_of_pos (t-a) (show 0<s by omega);rw[aj (by omega) (by omega)]
  (try simp only[gv,tW,n8,decide_eq_true_eq])
  rw[if_pos (by omega)]
def FB:FuncId->EP:=cV 54 (wU gv) FA
theorem Sh:aW FB:=ba Sf A0 Dd
theorem Si:ai 55 (wU wY):=Hg (d:=2) Sh λb s a H n h g=>by
 repeat' (conv=>whnf
          first|refine ah.dec (λ_=>?_) (λ_=>?_)|refine ah.di (λ_=>?_) (λ_=>?_)|refine ah.sb (λ_=>?_) (λ_=>?_)|refine ah.nsb (λ_=>?_) (λ_=>?_)|refine And.intro ?_ ?_|refine Mq g ?_)
 ·rename_i c;simp[wY,tW,c]
 ·rename_i e c;simp[wY,n8,c]
 ·rename_i f e c;simp[wY,tW,n8,c,e,f]
 ·rename_i f e c;have hb:=jE (t:=b) (s:=s) (a:=a);rw[aj (by omega) (by omega)];simp[wY,tW,n8,c,e,f]
def FC:FuncId->EP:=cV 55 (wU wY) FB
theorem VQ:aW FC:=ba Sh Si Dd
theorem kinds{k:Int}(a:¬k<1)(b:¬7<k):k=1∨k=2∨k=3∨k=4∨k=5∨k=6∨k=7:=by omega
def FI(a b:Int):Int:=ke a b
theorem Td:ai 171 (zr FI):=Ms (d:=2) az λa b H n e c=>by
 repeat' (conv=>whnf
          first|refine ah.dec (λ_=>?_) (λ_=>?_)|refine ah.di (λ_=>?_) (λ_=>?_)|refine ah.sb (λ_=>?_) (λ_=>?_)|refine ah.nsb (λ_=>?_) (λ_=>?_)|refine Mq c ?_)
 all_goals
  (try simp only[FI,ke,qA,decide_eq_true_eq])
  split
  ·first|(split<;>omega)|omega
  ·omega
structure SS where
 n:Int
 sum:Int
 least:Int
 great:Int
 first:Int
 last:Int
def jq(k:Int)(s:SS):List AV:=[.si .i64 k,.si .i64 s.n,.si .i64 s.sum,.si .i64 s.least,.si .i64 s.great,.si .i64 s.first,.si .i64 s.last,.si .i64 0]
def uR(k:Int)(s:SS):List AV:=[.int .i64 k,.si .i64 s.n,.si .i64 s.sum,.si .i64 s.least,.si .i64 s.great,.si .i64 s.first,.si .i64 s.last,.si .i64 0]
def Hk(s:SS):Int:=if IntKind.i64.wrap (s.great-s.least)<0 then 9223372036854775807 else IntKind.i64.wrap (s.great-s.least)
def PH(k:Int)(s:SS):Int:=if k=1 then s.sum else if k=2 then s.least else if k=3 then s.great else if k=4 then s.n else if k=5 then s.first else if k=6 then s.last else Hk s
def qB(k:Int)(s:SS):AV:= .tup [.int .i64 (if s.n=0 then 0 else PH k s),.bool (!decide (s.n=0))]
def FJ:FuncId->EP:=bg 116 [] (bg 178 [] (cV 171 (zr FI) FC))
theorem Mw:aW FJ:=aw (aw (ba VQ Td Ta) (by kernel_rfl) (by kernel_rfl)) (by kernel_rfl) (by kernel_rfl)
theorem VS{k:Int}{s:SS}(h:s.n=0):AV.tup [.si .i64 0,.sb false]=mkT (qB k s):=by simp[qB,mkT,mk,h]
theorem Sj{k:Int}{s:SS}(h:¬s.n=0){w:Int}(a:PH k s=w):AV.tup [.si .i64 w,.sb true]=mkT (qB k s):=by simp[qB,mkT,mk,h,a]
theorem JR(k:Int)(c:1<=k)(d:k<=7)(s:SS):ay FJ 3 117 [.ptr 0 0] (mkH [(0,.ro (uR k s))]) 1 λu _ _=>mkT u=mkT (qB k s):=by
 obtain⟨e,a,sl,f,g,b⟩:=s;rcases kinds (k:=k) (by omega) (by omega)with rfl|rfl|rfl|rfl|rfl|rfl|rfl
 all_goals
  repeat' (conv=>whnf
           first|refine ah.dec (λ_=>?_) (λ_=>?_)|(refine VS ?_;assumption)|(refine Sj ?_ rfl;assumption)|(refine Sj ?_ (w:=_) ?_))
  all_goals first
   |assumption
   |(show Hk _=_
     unfold Hk
     first|rw[if_pos (by assumption)]|rw[if_neg (by assumption)])
def PI(H:AH)(b:Nat)(k:Int)(s:SS):Prop:=∃l,(H.get b=some (.ro l)∨∃z,H.get b=some (.cells l z))/\l.map mk=jq k s
def natVal(args:List AV)(H:AH)(n:Nat)(κ:PK):Prop:=match args with
 | [a]=>(a= .nil/\κ (.tup [.si .i64 0,.sb false]) H n)∨∃k s b,a= .ptr b 0/\PI H b k s/\1<=k/\k<=7/\κ (mkT (qB k s)) H n
 |_=>False
theorem PJ:iG natVal:= .pure λargs H n j a=>by
 unfold natVal at*;split at a
 ·rcases a with⟨c,d⟩|⟨k,s,b,c,d,f,g,i⟩
  ·exact⟨_,d,λe h=> .inl ⟨c,h⟩⟩
  ·exact⟨_,i,λe h=> .inr ⟨k,s,b,c,d,f,g,h⟩⟩
 ·exact a.elim
theorem JS:ay FJ 3 117 [.nil] .nil 0 λu _ _=>mkT u=mkT (.tup [.int .i64 0,.bool false]):=by
 conv=>whnf
 rfl
theorem PL:ai 117 natVal:=λargs H n y d z A C D K e a h=>by
 unfold natVal at d;split at d
 ·obtain⟨x,rfl,i⟩:=vs1 a;rcases d with⟨rfl,m⟩|⟨k,s,b,rfl,⟨l,q,j⟩,r,t,u⟩
  ·exact iu (v:= .tup [.int .i64 0,.bool false]) Mw rfl JS m e h (by kernel_rfl) HR.ro0 (.cons (by rw[i.aU];exact .nil) .nil)
  ·obtain⟨p,f,rfl⟩:=i.cw;have c:l.length=8:=by simpa[jq]using congrArg List.length j
   have g:=oV.of (s:=uR k s) e q f (bp c) (by rw[j];rfl) rfl
   exact iu Mw (v:=qB k s) rfl (JR k r t s) u e h (by kernel_rfl) (λw=>HR.ro1 w g) (.cons (.ptr (p:=⟨p.B,p.s+0,8⟩) (b:=0) (o:=0) rfl) .nil)
 ·exact d.elim
def FK:FuncId->EP:=cV 117 natVal FJ
theorem VT:aW FK:=ba Mw PL PJ
def yL(s:SS)(v:Int):SS:=if s.n=0 then⟨IntKind.i64.wrap (s.n+1),FI s.sum v,min v v,max v v,v,v⟩else⟨IntKind.i64.wrap (s.n+1),FI s.sum v,min s.least v,max s.great v,s.first,v⟩
def ss0:SS:=⟨0,0,0,0,0,0⟩
def om(L:Smp):SS:=L.foldl (λs x=>yL s x.2) ss0
theorem zu{L:Smp}{i:Nat}(h:i<L.length):om (L.take (i+1))=yL (om (L.take i)) L[i].2:=by
 unfold om;rw[Y8 h,q2s];rfl
def A3(k:Int)(L:Smp):Int:=if j9 k=true then(if(om L).n=0 then 0 else PH k (om L))else 0
def PN(k:Int)(L:Smp):Bool:=j9 k&&!decide ((om L).n=0)
def uS(k:Int)(L:Smp):AV:= .tup [.int .i64 (A3 k L),.bool (PN k L)]
theorem zv{k:Int}{L:Smp}(h:j9 k=true):uS k L=qB k (om L):=by simp[uS,A3,PN,qB,h]
theorem zw{k:Int}{L:Smp}(h:j9 k=false):uS k L= .tup [.int .i64 0,.bool false]:=by simp[uS,A3,PN,h]
def FL (k:Int) (L:Smp) (cap i:Nat):AE×AH:=(mkE [(6,.ptr 1 0),(15,.sl 0 0 L.length cap 0),(16,.si .i64 L.length),(17,.si .i64 i)],mkH [(0,.ro (smp L)),(1,.cells (jq k (om (L.take i))) true)])
theorem wZ {k:Int} {L:Smp} {cap i p n:Nat} {σ:AE} {H:AH} {l:List AV} (g:p<=2) (h:bj (pa 6) σ= .ptr 1 0) (c:mk (bj (pa 15) σ)= .sy 0 0 L.length cap 0) (d:mk (bj (pa 16) σ)= .si .i64 L.length) (e:mk (bj (pa 17) σ)= .si .i64 i)
 (j:H.get 0=some (.ro (smp L))) (m:H.get 1=some (.cells l true)) (o:l.map mk=jq k (om (L.take i))):Cov p σ H n ((FL k L cap i).1,(FL k L cap i).2,2):=by
 refine Cov.of (λb=>b) g (λb r=>rfl) ?_ ?_ ?_
 ·intro x a;simp only[Z3,Z4,or_false]at a;rcases a with rfl|rfl|rfl|rfl
  ·exact .ptr (by decide) h
  ·exact .sl (by decide) c
  ·exact .int d
  ·exact .int e
 ·intro x a;simp only[Z3,Z4,or_false]at a;rcases a with rfl|rfl
  ·exact⟨by simp,_,j,an.wS (bI L) rfl⟩
  ·exact⟨by simp,_,m,an.iW rfl o (λq=>q)⟩
 ·intro x a y f;simp only[Z3,Z4,or_false]at a f;rcases a with rfl|rfl<;>rcases f with rfl|rfl<;>exact λq=>q
def A4 (L:Smp) (cap i:Nat):AE×AH:=(mkE [(6,.nil),(15,.sl 0 0 L.length cap 0),(16,.si .i64 L.length),(17,.si .i64 i)],mkH [(0,.ro (smp L))])
theorem zx {L:Smp} {cap i p n:Nat} {σ:AE} {H:AH} (g:p<=1) (h:bj (pa 6) σ= .nil) (c:mk (bj (pa 15) σ)= .sy 0 0 L.length cap 0) (d:mk (bj (pa 16) σ)= .si .i64 L.length) (e:mk (bj (pa 17) σ)= .si .i64 i)
 (j:H.get 0=some (.ro (smp L))):Cov p σ H n ((A4 L cap i).1,(A4 L cap i).2,1):=by
 refine Cov.of (λb=>b) g (λb k=>rfl) ?_ ?_ ?_
 ·intro x a;simp only[Z3,Z4,or_false]at a;rcases a with rfl|rfl|rfl|rfl
  ·exact .flat rfl (congrArg mk h)
  ·exact .sl (by decide) c
  ·exact .int d
  ·exact .int e
 ·intro x a;simp only[Z3,Z4,or_false]at a;subst a;exact⟨by simp,_,j,an.wS (bI L) rfl⟩
 ·intro x a y f;simp only[Z3,Z4,or_false]at a f;subst a f;exact λq=>q
theorem zy{k:Int}(h:j9 k=true):1<=k/\k<=7:=by simpa only[j9,decide_eq_true_eq]using h
theorem Mx(k:Int)(L:Smp)(cap:Nat)(m:L.length<=9223372036854775807):ay FK 3 56 [.si .i64 k,.sl 0 0 L.length cap 0] (mkH [(0,.ro (smp L))]) 1 λu _ _=>mkT u=mkT (uS k L):=by
 conv=>whnf
 refine ah.nsb (λe=>?_) (λe=>?_)
 ·conv=>whnf
  refine aQ.mk (_root_.Fin (L.length+1)) 1 (λa=>A4 L cap a.val) (λa=>L.length-a.val) 0 ?_ ?_
  ·exact zx (i:=0) (by decide) rfl rfl rfl rfl rfl
  ·intro⟨i,j⟩
   conv=>whnf
   refine ah.dec (λd=>?_) (λd=>?_)
   ·have b:i<L.length:=q0t.1 d;have f:IntKind.i64.wrap ((i:Int)+1)=((i+1:Nat):Int):=by rw[aj (by omega) (by omega)];omega
    conv=>whnf
    refine Idx.mk i rfl b ?_
    conv=>whnf
    refine au (fP b (by show 0+i*2=i*2;omega)) ?_;have c:L.length-(i+1)<L.length-i:=by omega
    conv=>whnf
    exact⟨⟨i+1,by omega⟩,c,zx (Z6 1) rfl rfl rfl (congrArg (AV.si IntKind.i64) f) rfl⟩
   ·conv=>whnf
    refine .inl ⟨rfl,?_⟩
    conv=>whnf
    exact(show mkT _=AV.tup [.si .i64 0,.sb false] from rfl).trans (by rw[zw e];rfl)
 ·have hk:=zy e
  conv=>whnf
  refine aQ.mk (_root_.Fin (L.length+1)) 2 (λa=>FL k L cap a.val) (λa=>L.length-a.val) 0 ?_ ?_
  ·exact wZ (i:=0) (by decide) rfl rfl rfl rfl rfl rfl rfl
  ·intro⟨i,j⟩
   conv=>whnf
   refine ah.dec (λd=>?_) (λd=>?_)
   ·have b:i<L.length:=q0t.1 d;have f:IntKind.i64.wrap ((i:Int)+1)=((i+1:Nat):Int):=by rw[aj (by omega) (by omega)];omega
    conv=>whnf
    refine Idx.mk i rfl b ?_
    conv=>whnf
    refine au (fP b (by show 0+i*2=i*2;omega)) ?_;have c:L.length-(i+1)<L.length-i:=by omega
    conv=>whnf
    refine ah.di (λh=>absurd (show(0:Int)<k by omega) h) (λh=>?_)
    conv=>whnf
    refine ah.dec (λg=>?_) (λg=>?_)
    ·conv=>whnf
     refine⟨⟨i+1,by omega⟩,c,wZ (l:=_) (q2n 1) rfl rfl rfl (congrArg (AV.si IntKind.i64) f) rfl rfl ?_⟩;exact Eq.trans rfl (congrArg (jq k) ((zu b).trans (if_pos g)).symm)
    ·conv=>whnf
     refine⟨⟨i+1,by omega⟩,c,wZ (l:=_) (q2n 1) rfl rfl rfl (congrArg (AV.si IntKind.i64) f) rfl rfl ?_⟩;exact Eq.trans rfl (congrArg (jq k) ((zu b).trans (if_neg g)).symm)
   ·conv=>whnf
    have b:i=L.length:=by have:¬(i:Int)<L.length:=d;omega
    subst b;refine .inr ⟨k,om (L.take L.length),1,rfl,⟨_,.inr ⟨_,rfl⟩,rfl⟩,hk.1,hk.2,?_⟩
    conv=>whnf
    rw[q0k];rw[zv e];rfl
theorem My(k:Int):ay FK 3 56 [.si .i64 k,.nsl] .nil 0 λu _ _=>mkT u=mkT (uS k []):=by
 conv=>whnf
 refine ah.nsb (λa=>?_) (λa=>?_)
 ·conv=>whnf
  refine aQ.roll 1 ?_
  conv=>whnf
  refine .inl ⟨rfl,?_⟩
  conv=>whnf
  exact(show mkT _=AV.tup [.si .i64 0,.sb false] from rfl).trans (by rw[zw a];rfl)
 ·have hk:=zy a
  conv=>whnf
  refine aQ.roll 1 ?_
  conv=>whnf
  refine .inr ⟨k,ss0,0,rfl,⟨_,.inr ⟨_,rfl⟩,rfl⟩,hk.1,hk.2,?_⟩
  conv=>whnf
  exact(show mkT _=mkT (qB k ss0) from rfl).trans (congrArg mkT (zv (L:=[]) a).symm)
theorem Te:ai 56 (zt 9223372036854775807 uS):=Mv VT (by kernel_rfl) (λk L=>rfl) My Mx
end Go.Proofs.YtflehenfikoniaaGreat
namespace Go.Proofs.YtflehenfikoniaaGreat
open Go Go.RowKit Go.ChangeShapes Go.WideShapes
def aP(x:Int):Prop:= -9223372036854775808<=x/\x<=9223372036854775807
theorem Mz{P:Program}{fits:TypeId->Bool}:∀(d:Nat) (e:TypeId) (count off n:Nat),rowAt P fits d e count off n=true->off<=count*P.cellsOf e
 |0,e,count,off,n,h=>by simp[rowAt]at h
 |d+1,e,count,off,n,h=>by
  unfold rowAt at h;simp only at h;split at h
  ·cases h
  ·rename_i a;have c:=Nat.div_add_mod off (P.cellsOf e);have f:=q4k off (q3c a);generalize off/P.cellsOf e=q at*;generalize off%P.cellsOf e=m at*;simp only[q1c,Z7,beq_iff_eq,decide_eq_true_eq]at h;rcases h with⟨⟨b,g⟩,_⟩|⟨b,_⟩
   ·have:P.cellsOf e*q<=P.cellsOf e*count:=Nat.mul_le_mul_left _ (by omega);rw[q2v count];omega
   ·have:P.cellsOf e*(q+1)<=P.cellsOf e*count:=Nat.mul_le_mul_left _ (by omega);rw[Nat.mul_add,q0r]at this;rw[q2v count];omega
theorem zA{P:Program}:∀(d:Nat) (e:TypeId) (count off:Nat) (u:TypeId) (n:Nat),liesAt P d e count off u n=true->off<=count*P.cellsOf e
 |0,e,count,off,u,n,h=>by simp[liesAt]at h
 |d+1,e,count,off,u,n,h=>by
  unfold liesAt at h;simp only[q1c]at h;rcases h with h|h
  ·exact Mz _ _ _ _ _ h
  ·split at h
   ·exact zA d _ _ _ _ _ h
   ·cases h
section
variable {H:Type} {enc:TypeId×Value->H} {P:Program} {W:World} {sp:Nat->Bool} {held:Bool}
theorem ve{r:Reach}{j:Nat}{t e:TypeId}{v:Value}(k:P.underlying t=some (.slice e))(d:Value.okWide P W r j t v):v= .slice none 0 0∨∃b off len cap c u fz,v= .slice (some ⟨b,off,none⟩) len cap/\W.heap[b]?=some (.cells c u fz)/\off<=c.size:=by
 simp only[Value.okWide,k,Cell.okWide,Cell.ok]at d;split at d
 all_goals first|(rename_i h _;cases h;done)|(rename_i h;cases h;done)|skip
 ·exact .inl rfl
 ·rename_i a len cap _;obtain⟨b,off,spot⟩:=a;obtain⟨_,_,_,g,row,cells,f,i⟩:=d;change spot=none at g;change W.shape? b=_ at f;change liesAt _ _ _ _ off _ _=true at i;subst g;unfold World.shape? at f;split at f
  ·rename_i c u fz l;injection f with f;injection f with m n;subst m n;refine .inr ⟨b,off,len,cap,c,_,fz,rfl,l,?_⟩;exact Y7 (zA _ _ _ _ _ _ i) (Nat.div_mul_le_self _ _)
  ·cases f
 ·exact d.elim
theorem PO{b off:Nat}{c:Array Value}{u:TypeId}{fz:Nat×Nat}(a:W.heap[b]?=some (.cells c u fz)){i:Nat}{v:Value}(h:W.cell? ((⟨b,off,none⟩:Addr).add i)=some v):c[off+i]?=some v:=by
 have e:(⟨b,off,none⟩:Addr).add i=⟨b,off+i,none⟩:=by
  unfold Addr.add;split
  ·rename_i d;subst d;rfl
  ·rfl
 rw[e]at h;unfold World.cell? at h;simp only[a]at h;simpa using h
end
theorem FM {F:FuncId->EP} (r:aW F) {d:Nat} {f:FuncId} {args:List AV} {h:AH} {i:Nat} {φ0:Ph} {j:Array Value} (s:ay F d f args h i λv _ _=>v= .bool true∨v= .sb true) (w:World)
 (k:HR φ0 h i (ik w) (ik w)) (a:VRs φ0 args j.toList):Calls Tryz.prog f j w λe w'=>e= .returned (.bool true)/\Below w.heap.size w w':=by
 have t:=b6 (by kernel_rfl) r d f args h i _ s _ (ik w) (ik w) j (λv g=>v= .bool true/\(ik w).n<=g.n/\∀b o,(ik w).f b=some o->g.f b=some o) k a
  (λC v H n u g _ m p x=>⟨by rcases x with rfl|rfl;exact p.bZ;exact p.jY,m.size,λb o c=>(m.base b o c).2⟩)
 refine(t.2 w (Fs w)).mono λD w' ⟨v,g,y,q,l,z,A,B⟩=>?_
 subst y z;refine⟨rfl,l.1,l.2.1,l.2.2,?_,λb c=>?_⟩
 ·rw[q.1];exact A
 ·have:=B b _ (show(ik w).f b=some w.heap[b] from q1a c);rw[q.2 b _ this,q1a c]
end Go.Proofs.YtflehenfikoniaaGreat
namespace Go.Proofs.YtflehenfikoniaaGreat
open Go Go.RowKit
section
variable {φ ψ:Ph} {H:AH} {n:Nat} {h0 h hp:Hp}
theorem HR.add(j:HR φ H n h0 h){q:Pl}{o:AO}{ob:Obj}(F:h0.f q.B=none)(G:q.B<h.n)(V:h.f q.B=some ob)(ho:OR (fm φ n q) q o ob)(W:o.own=true)(v:∀b o p,H.get b=some o->φ b=some p->o.own=true->p.B≠q.B)(I:∀z,φ.z z->q.B≠z.B)(d:Nat)(J:∀b Q,H.get b=some (.sep Q)->¬φ.s b q.B):HR (fm φ n q) (H.set (some o) d n) (n+1) h0 h:=by
 have m:∀x Q,(H.set (some o) d n).get x=some (.sep Q)->H.get x=some (.sep Q):=λx Q g=>by
  rcases PM.ak d H n x _ g with⟨_,a⟩|⟨_,a⟩
  ·injection a with a;subst a;exact ho.elim
  ·exact a
 refine⟨λx r g=>?_,λx r g=>?_,λx y r K px w g L A k M c e=>?_,j.base,j.size,λz t=>⟨⟨FzR.mono (j.ple _).z (j.frz z t).1.1,(j.frz z t).1.2⟩,λy P w L k c=>?_⟩,j.dQ (Z6 _) (λx Q g=>⟨m x Q g,rfl⟩) (λ_ h=>h) (λ_ h=> .inl h) (λ_ _ _ _ _=>rfl) λR S X Y Z u=>?_⟩;rotate_left 4
 ·rcases PM.ak d H n R S Y with⟨rfl,_⟩|⟨l,a⟩
  ·rw[bG]at u;injection u with u;subst u;exact .inr (.inr J)
  ·simp only[fm,if_neg l]at u;exact .inl ⟨R,S,X,a,Z,u,rfl⟩
 ·simp only[fm]at g;split at g
  ·injection g with g;subst g;exact⟨by omega,G⟩
  ·have:=j.dom x r g;omega
 ·rcases PM.ak d _ n x r g with⟨rfl,a⟩|⟨l,a⟩
  ·injection a with a;subst a;exact .inr ⟨_,ob,bG _ _ _,by rw[AO.bH W];exact F,V,ho⟩
  ·rcases j.live x r a with⟨hv,N⟩|⟨px,O,h5,h6,h7,h8⟩
   ·exact .inl ⟨by simp only[fm,if_neg l];exact hv,N⟩
   exact .inr ⟨px,O,j.ple _ _ _ h5,h6,h7,h8.mono (j.ple _)⟩
 ·have cs:∀z r C,(H.set (some o) d n).get z=some r->fm φ n q z=some C->(z=n/\C=q)∨(z≠n/\H.get z=some r/\φ z=some C):=λz r C t i=>by
   rcases PM.ak d _ n z r t with⟨rfl,_⟩|⟨l,a⟩
   ·rw[bG]at i;injection i with i;exact .inl ⟨rfl,i.symm⟩
   ·simp only[fm,if_neg l]at i;exact .inr ⟨l,a,i⟩
  rcases cs x r px g M with⟨a1,D⟩|⟨a1,D,T⟩<;>rcases cs y K w L c with⟨b1,E⟩|⟨b1,E,U⟩
  ·omega
  ·exact(v y K w E U k (by rw[<-e,D])).elim
  ·exact(v x r px D T A (by rw[e,E])).elim
  ·exact j.inj x y r K px w D E A k T U e
 ·rcases PM.ak d _ n y P L with⟨rfl,a⟩|⟨l,a⟩
  ·rw[bG]at c;injection c with c;subst c;exact I z t
  ·simp only[fm,if_neg l]at c;exact(j.frz z t).2 y P w a k c
def Hl(W:AV->AV)(R:Smp)(H:AH)(n:Nat)(κ:PK):Prop:=(H.get n=none/\n<1000000)/\κ (W (.rw n 0 R.length 2 0)) (H.set (some (.cells (smp R) true)) aa n) (n+1)
def lZ(R:Smp)(u:AV)(H':AH):Prop:=(R=[]/\hd u= .nsl)∨(R≠[]/\∃b c k l,hd u= .sl b 0 R.length c k/\R.length<=c/\H'.get b=some (.cells l true)/\R.length*2<=l.length/\(l.take (R.length*2)).map mk=smp R/\(k=2∨k=0/\c*2<=l.length))∨∃b o x l r,u= .rw b o R.length 2 x/\x<2/\H'.get b=some (.cells l true)/\bq l o (R.length*2)=some r/\r.map mk=smp R
theorem HR.A5(d:HR φ H n h0 hp){o:AO}(ho:o.void=true):HR φ (H.set (some o) aa n) (n+1) h0 hp:=by
 have e:φ n=none:=by
  cases D:φ n with
  |none=>rfl
  |some p=>exact absurd (d.dom n p D).1 (q3g _)
 refine⟨λb p j=>⟨Nat.lt_succ_of_lt (d.dom b p j).1,(d.dom b p j).2⟩,λb q j=>?_,λx y q v px k m s t f g c E=>?_,d.base,d.size,λz l=>⟨(d.frz z l).1,λy w k s f c=>?_⟩,d.dQ (Z6 _) (λx Q m=>?_) (λ_ h=>h) (λ_ h=> .inl h) (λ_ _ _ _ _=>rfl) λA B F G I u=>?_⟩;rotate_left 3
 ·rcases PM.ak aa _ n x _ m with⟨_,a⟩|⟨_,a⟩
  ·injection a with a;subst a;cases ho
  ·exact⟨a,rfl⟩
 ·rcases PM.ak aa _ n A B G with⟨rfl,_⟩|⟨_,a⟩
  ·rw[e]at u;cases u
  ·exact .inl ⟨A,B,F,a,I,u,rfl⟩
 rotate_left 2
 ·rcases PM.ak _ _ n y w s with⟨rfl,_⟩|⟨_,a⟩
  ·rw[e]at c;cases c
  ·exact(d.frz z l).2 y w k a f c
 ·rcases PM.ak aa _ n b q j with⟨rfl,a⟩|⟨_,a⟩
  ·injection a with a;subst a;exact .inl ⟨e,AO.G6 ho⟩
  ·exact d.live b q a
 ·have old:∀z r C,(H.set (some o) aa n).get z=some r->φ z=some C->H.get z=some r:=λz r C l i=>by
   rcases PM.ak aa _ n z r l with⟨rfl,_⟩|⟨_,a⟩
   ·rw[e]at i;cases i
   ·exact a
  exact d.inj x y q v px k (old x q px m g) (old y v k s c) t f g c E
theorem w6{H':AH}{n':Nat}{g:Hp}{R:Smp}{r:AV}{w:Value}(F:HR φ H n h0 hp)(G:HR ψ H' n' hp g)(hu:VR ψ r w)(he:lZ R r H'):∃χ,PLe φ χ/\HR χ (H.set (some (.cells (smp R) true)) aa n) (n+1) h0 g/\VR χ (.rw n 0 R.length 2 0) w:=by
 have I:HR φ H n h0 g:=F.grow (λb o v=>(G.base b o v).2) G.size
 have core:∀(q:Pl) (l r:List AV) (b o a C:Nat),H'.get b=some (.cells l true)->ψ b=some q->R.length<=C->q.s<=a->a+C*2<=q.s+q.T->(R≠[]->a=q.s+o/\bq l o (R.length*2)=some r/\r.map mk=smp R)->w= .slice (some ⟨q.B,a,none⟩) R.length C->∃χ,PLe φ χ/\HR χ (H.set (some (.cells (smp R) true)) aa n) (n+1) h0 g/\VR χ (.rw n 0 R.length 2 0) w:=by
  intro q l r b o a C v d O ha1 ha2 m hw;subst hw;obtain⟨ob,j,P,S⟩:=G.of v d;have j:hp.f q.B=none:=j
  have U:h0.f q.B=none:=by
   cases hx:h0.f q.B with
   |none=>rfl
   |some o=>have:=(F.base _ _ hx).2;rw[j]at this;cases this
  obtain⟨M,t,fz,rfl,o1,o2,o3,o4,o5⟩:=S
  have J:OR (fm φ n ⟨q.B,a,C*2⟩) ⟨q.B,a,C*2⟩ (.cells (smp R) true) (.cells M t fz):=by
   have D:rI fz a (C*2):=o3.sub (by omega);refine⟨M,t,fz,rfl,by rw[bh];simp only;omega,(show a+C*2<=M.size by omega),D,o4,?_⟩;by_cases N:R=[]
   ·subst N;exact λi a hi=>by simp[smp]at hi
   ·obtain⟨rfl,y,E⟩:=m N;obtain⟨h3,V⟩:=br y;have o6:CR ψ M (q.s+o) r:=by subst V;exact CR.drop o5
    exact CR.nI o6 (by rw[E,bC]) (bI R)
  have K:=I.add (q:=⟨q.B,a,C*2⟩) U (G.dom _ _ d).2 P J rfl (λb' o' p' u W _ e3=>by
   obtain⟨X,_,A,_⟩:=F.of u W;rw[e3,j]at A;cases A) (λz hz e=>by
   obtain⟨_,c,t,fz,A,_⟩:=(F.frz z hz).1.1;have e:q.B=z.B:=e;rw[<-e,j]at A;cases A) aa λb' Q u W=>by
   obtain⟨X,A⟩:=Q.ex _ _ _ _ (F.sep b' Q u).1 W;rw[j]at A;cases A
  exact⟨_,F.ple _,K,.rw (p:=⟨q.B,a,C*2⟩) (bG _ _ _) (λ_=>rfl) (Z6 _) O (Z6 _)⟩
 have none:R=[]->w= .slice none 0 0->∃χ,PLe φ χ/\HR χ (H.set (some (.cells (smp R) true)) aa n) (n+1) h0 g/\VR χ (.rw n 0 R.length 2 0) w:=λy E=>by
  subst y E;exact⟨φ,.refl _,I.A5 rfl,.rwn⟩
 rcases he with⟨y,u⟩|⟨y,b,c,k,l,u,hc,v,L,hl,hk⟩|⟨b,o,x,l,r',u,Y,v,m,Z⟩
 ·have:=hu.hd;rw[u]at this;exact none y this.c9
 ·have hu:=hu.hd;rw[u]at hu;obtain⟨q,C,d,rfl,hC0,hC⟩:=hu.eT
  have hT:R.length<=C/\C*2<=q.T:=by
   rcases hk with rfl|⟨rfl,hk⟩
   ·obtain⟨hC1,hC2⟩:=hC (by decide);exact⟨by omega,by omega⟩
   ·have:=hC0 rfl
    have:=G.room _ _ _ v d;simp only[AO.size]at this;exact⟨by omega,by omega⟩
  refine core q l (l.take (R.length*2)) b 0 q.s C v d hT.1 (Z6 _) (by omega) (λ_=>⟨rfl,?_,hl⟩) rfl
  unfold bq;rw[q0w,q0o L];rfl
 ·rw[u]at hu;rcases hu.gX with⟨y,E⟩|⟨q,a,C,d,rfl,E,h3,V,_,h5,_⟩
  ·exact none (q0c y) (E.nil (by omega))
  ·exact core q l r' b o a C v d V h3 (h5 Y) (λN=>⟨E (λq=>N (q0c q)),m,Z⟩) rfl
theorem JT {F:FuncId->EP} (s:aW F) {d:Nat} {f:FuncId} {args0:List AV} {i:AH} {j:Nat} {R:Smp} {P:AV->AH->Prop} (t:∀u H',P u H'->lZ R u H') (c:ay F d f args0 i j λu H' _=>P u H')
 {e:Array Value} {κ:PK} {K:KH} (v:Hl (λr=>r) R H n κ) (p:HR φ H n h0 hp) (x:cD φ h0 κ K) (k:bR Tryz.prog f=true) {φ0:Ph} (l:Wf hp->HR φ0 i j hp hp) (a:VRs φ0 args0 e.toList):dI Tryz.prog f e hp K:=by
 have key:Wf hp->dI Tryz.prog f e hp K:=λy=>b6 (by kernel_rfl) s d f args0 i j _ c φ0 hp hp e K (l y) a λψ u H' J w g _ m z A=>by
  have B:HR φ H n h0 g:=p.grow (λb o C=>(m.base b o C).2) m.size;obtain⟨D,E,G,I⟩:=w6 p m z (t _ _ A);exact x D _ _ _ _ g E G I v.2
 exact⟨k,λw q=>(key q.wf).2 w q⟩
theorem lZ.rw{R:Smp}{b o x:Nat}{l r:List AV}{H':AH}{u:AV}(a:u= .rw b o R.length 2 x)(c:H'.get b=some (.cells l true))(d:bq l o (R.length*2)=some r)(e:r.map mk=smp R)(f:x<2:=by decide):lZ R u H':= .inr (.inr ⟨b,o,x,l,r,a,f,c,d,e⟩)
end
section
variable {φ ψ:Ph} {H:AH} {n:Nat} {h0 hp:Hp}
def VU(e:Int)(r:AV):AV:= .tup [r,.si .i64 e]
def MA(R:Smp)(e:Int)(u:AV)(H':AH):Prop:=∃r w,u= .tup [r,w]/\mk w= .si .i64 e/\lZ R r H'
theorem JU{a b c d:AV}{v:Value}{χ:Ph}(h:VR ψ (.tup [a,b]) v)(e:mk b=d)(hd:flat.flat1 d=true):∃x y,v= .tuple #[x,y]/\VR ψ a x/\(VR χ c x->VR χ (.tup [c,d]) v):=by
 obtain⟨cs,rfl,f⟩:=h.eM;obtain⟨x,y,rfl,g,i⟩:=vs2 f;exact⟨x,y,rfl,g,λj=> .tup (.cons j (.cons (aX hd (e▸i.mk)) .nil))⟩
theorem JV {F:FuncId->EP} (C:aW F) {d:Nat} {f:FuncId} {args0:List AV} {l:AH} {m:Nat} {R:Smp} {e:Int} {P:AV->AH->Prop} (D:∀u H',P u H'->MA R e u H') (h:ay F d f args0 l m λu H' _=>P u H')
 {j:Array Value} {κ:PK} {K:KH} (E:Hl (VU e) R H n κ) (v:HR φ H n h0 hp) (G:cD φ h0 κ K) (p:bR Tryz.prog f=true) {φ0:Ph} (q:Wf hp->HR φ0 l m hp hp) (a:VRs φ0 args0 j.toList):dI Tryz.prog f j hp K:=by
 have key:Wf hp->dI Tryz.prog f j hp K:=λI=>b6 (by kernel_rfl) C d f args0 l m _ h φ0 hp hp j K (q I) a λψ u H' X w g _ s A J=>by
  have L:HR φ H n h0 g:=v.grow (λb o M=>(s.base b o M).2) s.size;obtain⟨r,Y,rfl,i,N⟩:=D _ _ J;obtain⟨x,y,rfl,O,_⟩:=JU (c:= .nsl) (χ:=φ) A i rfl
  obtain⟨k,Q,S,T⟩:=w6 v s O N;obtain⟨U,Z,t,_,V⟩:=JU (c:= .rw n 0 R.length 2 0) (χ:=k) A i rfl
  injection t with t;have W:x=U:=by have:=congrArg (λz:Array Value=>z[0]?) t;simpa using this
  subst W;exact G k _ _ _ _ g Q S (V T) E.2
 exact⟨p,λw B=>(key B.wf).2 w B⟩
end
def nJ(x:AV)(t v:Int):Prop:=∃a b,x= .agg [a,b]/\mk a= .si .i64 t/\mk b= .si .i64 v
theorem nJ.open{φ:Ph}{x:AV}{t v:Int}{w:Value}(h:nJ x t v)(hv:VR φ x w)(χ:Ph):VR χ (.agg [.si .i64 t,.si .i64 v]) w:=by
 obtain⟨a,b,rfl,c,d⟩:=h;obtain⟨cs,rfl,e⟩:=hv.dY;obtain⟨y,z,rfl,f,g⟩:=vs2 e;exact .agg (.cons (aX rfl (c▸f.mk)) (.cons (aX rfl (d▸g.mk)) .nil))
end Go.Proofs.YtflehenfikoniaaGreat
namespace Go.Proofs.YtflehenfikoniaaGreat
open Go Go.RowKit Go.ChangeShapes Go.WideShapes
inductive Kd where
 |int (k:IntKind)
 |bool
 |str
 |sl (t:TypeId)
def vr (P:Program) (k:TypeId->Option (List Kd)):List Field->List Kd->Option (List Kd)
 | [],l=>some l
 |f::a,l=>(match k f.type with
  |some m=>if f.offset=l.length/\m.length=P.cellsOf f.type then vr P k a (l++m)else none
  |none=>none)
def De{a:Type}(m:List a):Nat->List a
 |0=> []
 |n+1=>De m n++m
def yM (P:Program):Nat->TypeId->Option (List Kd)
 |0,_=>none
 |d+1,t=>(match P.underlying t with
  |some (.int k)=>some [.int k]
  |some .bool=>some [.bool]
  |some .string=>some [.str]
  |some (.slice _)=>some [.sl t]
  |some (.struct a)=>(vr P (yM P d) a.toList []).bind λl=>if l.length=P.cellsOf t then some l else none
  |some (.array n e)=>(yM P d e).bind λm=>if m.length=P.cellsOf e/\n*m.length=P.cellsOf t then some (De m n)else none
  |_=>none)
def Prim(Tr:TypeId->Value->Prop):Kd->Value->Prop
 | .int k,v=>∃z,v= .int k z/\(Lit.int k z).wf=true
 | .bool,v=>∃b,v= .bool b
 | .str,v=>∃s,v= .string s/\s.size<=maxLen
 | .sl t,v=>Tr t v
def jN(Tr:TypeId->Value->Prop)(a:List Kd)(cs:List Value):Prop:=a.length=cs.length/\∀(j:Nat) k v,a[j]?=some k->cs[j]?=some v->Prim Tr k v
section
variable {Tr:TypeId->Value->Prop}
theorem jN.one{k:Kd}{v:Value}(h:Prim Tr k v):jN Tr [k] [v]:=⟨rfl,λj c d a b=>by
 cases j with
 |zero=>injection a with a;injection b with b;subst a b;exact h
 |succ j=>simp at a⟩
theorem jN.app{d ms:List Kd}{cs ds:List Value}(h:jN Tr d cs)(k:jN Tr ms ds):jN Tr (d++ms) (cs++ds):=⟨by simp[h.1,k.1],λj a v b c=>by
 by_cases e:j<d.length
 ·rw[q1f e]at b;rw[q1f (by rw[<-h.1];exact e)]at c;exact h.2 j a v b c
 ·rw[q0x (by omega)]at b;rw[q0x (by rw[<-h.1];omega),<-h.1]at c;exact k.2 _ a v b c⟩
end
def TrS{H:Type}(enc:TypeId×Value->H)(P:Program)(W:World)(base:Nat)(sp:Nat->Bool)(held:Bool)(t:TypeId)(v:Value):Prop:=∃fuel x,DataW.trod enc P W base sp held fuel t [v]=some x
section
variable {H:Type} {enc:TypeId×Value->H} {P:Program} {W:World} {base:Nat} {sp:Nat->Bool} {held:Bool}
theorem sj{k:TypeId->Option (List Kd)}{cs:List Value}{n:Nat}(b:∀t c cs x,k t=some c->DataW.trod enc P W base sp held n t cs=some x->jN (TrS enc P W base sp held) c cs):∀(a:List Field) (l r:List Kd),jN (TrS enc P W base sp held) l (cs.take l.length)->(∀f∈a,∃x,DataW.trod enc P W base sp held n f.type ((cs.drop f.offset).take (P.cellsOf f.type))=some x)->
 vr P k a l=some r->jN (TrS enc P W base sp held) r (cs.take r.length)
 | [],l,r,h,_,e=>by injection e with e;subst e;exact h
 |f::a,l,r,h,d,e=>by
  unfold vr at e;split at e
  ·rename_i m i;split at e
   ·rename_i ho;obtain⟨ho,j⟩:=ho;obtain⟨x,o⟩:=d f q0b;have p:=b _ _ _ _ i o;refine sj b a (l++m) r ?_ (λg q=>d g (Y4 _ q)) e
    have s:cs.take (l++m).length=cs.take l.length++((cs.drop f.offset).take (P.cellsOf f.type)):=by
     rw[Z5,List.take_add,ho,j]
    rw[s];exact h.app p
   ·cases e
  ·cases e
theorem zB{Tr:TypeId->Value->Prop}{m:List Kd}{c:Nat}{cs:List Value}(a:m.length=c):∀n,(∀i,i<n->jN Tr m ((cs.drop (i*c)).take c))->jN Tr (De m n) (cs.take (n*c))
 |0,_=>⟨by simp[De],λj k v h=>by simp[De]at h⟩
 |n+1,h=>by
  have e:cs.take ((n+1)*c)=cs.take (n*c)++(cs.drop (n*c)).take c:=by rw[q2i,Nat.one_mul,List.take_add]
  rw[e];exact(zB a n λi b=>h i (by omega)).app (h n (by omega))
theorem sm:∀(d:Nat) (t:TypeId) (p:List Kd) (fuel:Nat) (cs:List Value) (x:DataW H×List MemPlace),yM P d t=some p->DataW.trod enc P W base sp held fuel t cs=some x->jN (TrS enc P W base sp held) p cs
 |0,t,p,fuel,cs,x,h,_=>by cases h
 |d+1,t,p,fuel,cs,x,h,c=>by
  unfold yM at h;split at h
  ·rename_i k g;injection h with h;subst h;obtain⟨z,rfl,_,J⟩:=DataW.trod_int g c;exact .one ⟨z,rfl,J⟩
  ·rename_i g;injection h with h;subst h;obtain⟨b,rfl,_⟩:=DataW.trod_bool g c;exact .one ⟨b,rfl⟩
  ·rename_i g;injection h with h;subst h;obtain⟨s,rfl,_,K⟩:=DataW.trod_string g c;exact .one ⟨s,rfl,K⟩
  ·rename_i e g;injection h with h;subst h;rcases DataW.trod_slice g c with⟨rfl,_⟩|⟨a,len,cap,_,_,_,_,rfl,_⟩
   ·exact .one ⟨_,_,c⟩
   ·exact .one ⟨_,_,c⟩
  ·rename_i y g;obtain⟨xs,n,rfl,_,L,M,N⟩:=DataW.trod_struct g c;rw[q2a]at h;obtain⟨l,A,o⟩:=h;split at o
   ·rename_i B;injection o with o;subst o
    have:=sj (enc:=enc) (W:=W) (base:=base) (sp:=sp) (held:=held) (n:=n) (cs:=cs) (λt p cs x h c=>sm d t p n cs x h c) y.toList [] l ⟨by simp,λj k v h=>by simp at h⟩ (λf C=>by
     obtain⟨i,w,e⟩:=q1s.1 C;have D:i<y.size:=by simpa using w
     have O:y[i]?=some f:=by rw[q1a D];simpa using e
     have:=N i f O;rw[Y0 (by omega)]at this;exact⟨_,this⟩) A
    rw[B,<-L,q0k]at this;exact this
   ·cases o
  ·rename_i n e g;rw[q2a]at h;obtain⟨m,A,o⟩:=h;split at o
   ·rename_i B;obtain⟨r,E⟩:=B;injection o with o;subst o;cases fuel with
    |zero=>simp[DataW.trod]at c
    |succ q=>
     rw[DataW.trod_step]at c;unfold DataW.trodStep at c;simp only[g]at c;split at c
     ·rename_i u;simp only[Z8]at c;obtain⟨Q,G,_⟩:=c;have F:=mapM_some_length G
      have:=zB (cs:=cs) r n (λi w=>by
       have I:=mapM_some_get G i i (by simp[w]);rw[Y0 (by rw[F];simpa using w)]at I;exact sm d e m q _ _ A I)
      rw[<-r,E,<-u,q0k]at this;exact this
     ·cases c
   ·cases o
  ·cases h
theorem Hm{b:Type}{c:Nat}:∀(rows:List (List b)),(∀r∈rows,r.length=c)->∀i q,q<c->rows.flatten[i*c+q]?=(rows[i]?).bind (·[q]?)
 | [],_,i,q,_=>by simp
 |r::rows,h,0,q,a=>by
  have:=h r q0b;rw[List.flatten_cons,q1o,q0w,q1f (by omega)];rfl
 |r::rows,h,i+1,q,a=>by
  have e:=h r q0b;rw[List.flatten_cons,q0x (by rw[q2i];omega),show(i+1)*c+q-r.length=i*c+q from by rw[q2i];omega];exact Hm rows (λx d=>h x (Y4 _ d)) i q a
theorem Dg{a:Type}{c:Nat}:∀(rows:List (List a)),(∀r∈rows,r.length=c)->rows.flatten.length=rows.length*c
 | [],_=>by simp
 |r::rows,h=>by
  rw[List.flatten_cons,Z5,Dg rows (λx b=>h x (Y4 _ b)),h r q0b,Z9,q2i];omega
theorem MB{a:Addr}{v:Value}(h:W.cell? a=some v):∃c u fz,W.heap[a.block]?=some (.cells c u fz)/\a.spot=none/\c[a.off]?=some v:=by
 unfold World.cell? at h;split at h
 ·rename_i c u fz b;split at h
  ·cases h
  ·rename_i d;exact⟨c,u,fz,b,by simpa using d,h⟩
 ·cases h
theorem aP.of{z:Int}(h:(Lit.int .i64 z).wf=true):aP z:=by
 simp[Lit.wf,IntKind.min,IntKind.max,IntKind.signed,IntKind.bits]at h;unfold aP;omega
theorem MC{e:Nat}{t:TypeId}{d:Nat}{v:Value}{D:DataW H}{f:List MemPlace}{g:Array Field}(h:P.underlying t=some (.struct g))(i:yM P d t=some [.int .i64,.int .i64])(a:Value.okWide P W .any e t v)(hd:DataW.Trod enc P W 0 (λ_=>true) held t v D f):
 ∃x y:Int,aP x/\aP y/\∀χ,VR χ (.agg [.si .i64 x,.si .i64 y]) v:=by
 simp only[Value.okWide,h]at a;obtain⟨cs,rfl,_⟩:=a;obtain⟨fuel,j⟩:=hd;obtain⟨c,b⟩:=sm d t _ fuel _ _ i j;obtain⟨l⟩:=cs;simp only[Value.cells]at c b
 match l,c,b with
 | [k,m],_,b=>
  obtain⟨n,rfl,o⟩:=b 0 _ k rfl rfl
  obtain⟨p,rfl,q⟩:=b 1 _ m rfl rfl
  exact⟨n,p,.of o,.of q,λχ=> .agg (.cons (.si _ _) (.cons (.si _ _) .nil))⟩
end
end Go.Proofs.YtflehenfikoniaaGreat
namespace Go.Proofs.YtflehenfikoniaaGreat
open Go Go.RowKit
section
variable {φ ψ:Ph} {H:AH} {n:Nat} {h0 hp:Hp}
theorem HR.zC(l:HR φ H n h0 hp){φ0:Ph}{c:AH}{i:Nat}(h:HR φ0 c i hp hp)(hn:∀b o,c.get b=some o->o.own=false)(m:∀q,¬φ0.z q):HR ⟨φ0.f,φ.z,φ.z,φ0.s⟩ c i hp hp:=by
 have d:SLe φ0 ⟨φ0.f,φ.z,φ.z,φ0.s⟩:=⟨λ_ _ e=>e,λq e=>(m q e).elim⟩;have g:∀q,φ.z q->(⟨φ0.f,φ.z,φ.z,φ0.s⟩:Ph).z q:=λ_ e=>e
 refine⟨h.dom,λb o a=>(h.live b o a).imp id λ⟨p,r,t,u,v,w⟩=>⟨p,r,t,u,v,w.c8 d⟩,h.inj,h.base,h.size,λq j=>⟨⟨FzR.mono g (l.frz q j).1.1,.inl j⟩,λb o p a k _=>?_⟩,λb Q a=>by cases hn b _ a⟩;rw[hn b o a]at k;cases k
def FrG(m k:Nat)(s:List AV)(u:AV)(H':AH):Prop:=
 (hd u= .nsl/\m=0/\s=[])∨(u= .fr m k s/\s.length=m*k)∨
 (∃b o x l z r,u= .rw b o m k x/\x≠4/\H'.get b=some (.cells l z)/\bq l o (m*k)=some r/\r.map mk=s.map mk)∨
 ∃b o c a l z r,hd u= .sl b o m c a/\m<=c/\H'.get b=some (.cells l z)/\bq l o (m*k)=some r/\r.map mk=s.map mk
theorem PQ{m k j b x:Nat}{l s:List AV}{z:Bool}{u:AV}{H':AH}(c:u= .rw b 0 j k x)(d:j=m)(e:H'.get b=some (.cells l z))(a:l.map mk=s.map mk)(g:s.length=m*k)(f:x≠4:=by decide):FrG m k s u H':=by
 subst d;exact .inr (.inr (.inl ⟨b,0,x,l,z,l,c,f,e,bp (by have:=congrArg List.length a;simp only[Y9]at this;omega),a⟩))
def Ph.more(φ:Ph)(z:Fz->Prop):Ph:=⟨φ.f,λq=>φ.z q∨z q,φ.y,φ.s⟩
theorem Ph.pT(φ:Ph)(z:Fz->Prop):PLe φ (φ.more z):=⟨λ_ _ e=>e,λ_ e=> .inl e,λ_ e=>e⟩
theorem HR.more{h:Hp}(a:HR φ H n h0 h){z:Fz->Prop}(i:∀q,z q->FzR (φ.more z) h q/\h0.f q.B=none/\(∀b o p,H.get b=some o->o.own=true->φ b=some p->p.B≠q.B)/\∀b Q,H.get b=some (.sep Q)->¬φ.s b q.B):HR (φ.more z) H n h0 h:=by
 refine⟨a.dom,λb o j=>(a.live b o j).imp id λ⟨p,k,c,d,e,l⟩=>⟨p,k,c,d,e,l.mono (φ.pT z)⟩,a.inj,a.base,a.size,λq g=>?_,a.dQ (Z6 _) (λx Q m=>⟨m,rfl⟩) (λ_ h=> .inl h) (λq h=>h.imp id λh=>(i q h).2.2.2) (λ_ _ _ _ _=>rfl) λr t u v w y=> .inl ⟨r,t,u,v,w,y,rfl⟩⟩;rcases g with g|g
 ·obtain⟨⟨c,d⟩,e⟩:=a.frz q g;exact⟨⟨FzR.mono (φ.pT z).z c,d⟩,e⟩
 ·obtain⟨c,d,e⟩:=i q g;exact⟨⟨c,.inr d⟩,e.1⟩
theorem FN{H':AH}{n':Nat}{g:Hp}{m k:Nat}{s:List AV}{u:AV}{w:Value}(T:HR φ H n h0 hp)(E:HR ψ H' n' hp g)(hy:∀q,ψ.y q->φ.z q)(N:s.all flat.flat1=true)(F:s.length=m*k)(U:VR ψ u w)(he:FrG m k s u H'):
 ∃χ,PLe φ χ/\HR χ H n h0 g/\VR χ (.fr m k s) w:=by
 have G:HR φ H n h0 g:=T.grow (λb o v=>(E.base b o v).2) E.size
 have W:∀B,hp.f B=none->h0.f B=none:=λB e=>by
  cases q:h0.f B with
  |none=>rfl
  |some o=>have:=(T.base B o q).2;rw[e]at this;cases this
 have own:∀B,hp.f B=none->∀b o p,H.get b=some o->o.own=true->φ b=some p->p.B≠B:=λB e b o p v hw X q=>by
  obtain⟨ob,_,d,_⟩:=T.of v X;rw[q,e]at d;cases d
 have Y:∀B,hp.f B=none->∀b Q,H.get b=some (.sep Q)->¬φ.s b B:=λB e b Q v hB=>by
  obtain⟨o,ho⟩:=Q.ex _ _ _ _ (T.sep b Q v).1 hB;rw[e]at ho;cases ho
 have none:∀{a:Option Addr} {C:Nat},m=0->s=[]->w= .slice a 0 C->(a=none->C=0)->∃χ,PLe φ χ/\HR χ H n h0 g/\VR χ (.fr m k s) w:=λ{a C} d A D I=>by
  subst d A D;exact⟨φ,.refl φ,G,.fre I⟩
 have new:∀(B a C:Nat) (c:Array Value) (t:TypeId) (fz:Nat×Nat),hp.f B= .none->B<g.n->g.f B=some (.cells c t fz)->a+m*k<=c.size->(∃χ,CR χ c a s)->m<=C->w= .slice (some ⟨B,a,.none⟩) m C->∃χ,PLe φ χ/\HR χ H n h0 g/\VR χ (.fr m k s) w:=by
  intro B a C c t fz d A D I ⟨χ,V⟩ O h7;subst h7
  have Z:s.all mF=true:=by
   rw[q0a]at N⊢;intro x hx;have:=N x hx;cases x<;>first|rfl|cases this
  refine⟨φ.more λq=>q=⟨B,a,s⟩,φ.pT _,G.more λq hq=>?_,?_⟩
  ·subst hq;exact⟨⟨⟨A,Z⟩,c,t,fz,D,(show a+s.length<=c.size by omega),CR.nI V rfl N⟩,W _ d,own _ d,Y _ d⟩
  ·have:VR (φ.more λq=>q=⟨B,a,s⟩) (.fr m k s) (.slice (some ⟨B,a+0,.none⟩) m C):= .fr (q:=⟨B,a,s⟩) (o:=0) (.inr rfl) O (bp F);exact this
 rcases he with⟨e,M,hs0⟩|⟨rfl,_⟩|⟨b,o,x,l,z,r,rfl,hx,v,h,J⟩|⟨b,o,c,kk,l,z,r,e,hc,v,h,J⟩
 ·have:=U.hd;rw[e]at this;exact none M hs0 this.c9 λ_=>rfl
 ·rcases U.tK with⟨d,A,a,C,D,I⟩|⟨q,o,C,hq,rfl,hC,hl⟩
  ·exact none d A D I
  ·obtain⟨⟨hf,i⟩,_⟩:=E.frz q hq;rcases i with i|i
   ·exact⟨φ,.refl φ,G,.fr (hy q i) hC hl⟩
   ·obtain⟨⟨d,A⟩,c,t,fz,D,I,V⟩:=hf;obtain⟨g1,P⟩:=br hl;exact new q.B (q.s+o) C c t fz i d D (by omega) ⟨ψ,by rw[P];exact CR.drop V⟩ hC rfl
 ·rcases U.gX with⟨d,hem⟩|⟨p,a,C,j,rfl,A,D,I,V,_,_⟩
  ·exact none d (q0c (by rw[F,d,q1o])) (hem.nil hx) λ_=>rfl
  ·obtain⟨ob,K,L,R,t,fz,rfl,o1,o2,o3,o4,o5⟩:=E.of v j;by_cases M:m=0
   ·exact none (a:=some ⟨p.B,a,.none⟩) M (q0c (by rw[F,M,q1o])) (by rw[M]) λq=>by cases q
   ·have ha:=A M;subst ha;obtain⟨g1,P⟩:=br h;have O:CR ψ R (p.s+o) r:=by rw[P];exact CR.drop o5
    exact new p.B (p.s+o) C R t fz K (E.dom _ _ j).2 L (by omega) ⟨ψ,CR.nI O J N⟩ I rfl
 ·have:=U.hd;rw[e]at this;obtain⟨p,C,j,rfl,hC0,hC1⟩:=this.eT;obtain⟨ob,K,L,R,t,fz,rfl,o1,o2,o3,o4,o5⟩:=E.of v j;obtain⟨g1,P⟩:=br h;have O:CR ψ R (p.s+o) r:=by rw[P];exact CR.drop o5
  have hlC:m<=C:=by
   by_cases S:kk=0
   ·rw[hC0 S];exact hc
   ·exact Y7 hc (hC1 S).1
  exact new p.B (p.s+o) C R t fz K (E.dom _ _ j).2 L (by omega) ⟨ψ,CR.nI O J N⟩ hlC rfl
def PR (F:FuncId->EP) (d:Nat) (D:DT) (f:FuncId):List AV->AH->Nat->PK->Prop:=EP.rec (λ_ _ _ _=>False) (λD c rs m=>Py (ay F d) (uM F) D c rs m) (λ_ _ _ _ _=>False) (λ_ _ _ _ _=>False) (zh D f)
theorem Hn{F:FuncId->EP}(k:aW F)(d:Nat){D:DT}{f:FuncId}(e:Jy Tryz.prog f=true)(i:zi D f=true):ai f (PR F d D f):=λargs H n u a φ h0 h v K r j s=>by
 have q:=wQ (D:=D) e i;unfold PR at a;cases b:zh D f with
 |no=>rw[b]at a;exact a.elim
 |nat g=>rw[b]at a;exact a.elim
 |det g=>rw[b]at a;exact a.elim
 |run D c rs m=>
  rw[b]at a q;obtain⟨e,i,fn,l,t,o,p⟩:=q;subst o p;exact wP (by kernel_rfl) (b6 (by kernel_rfl) k d) (sc k) (nE k) e i l t a r j s
theorem ax{F:FuncId->EP}(b:aW F)(d:Nat)(f:FuncId):ai f (ay F d f):=λargs H n c e φ h0 h g K i a j=>b6 (by kernel_rfl) b d f args H n c e φ h0 h g K i a j
theorem MD {f:FuncId} {run:List AV->AH->Nat->PK->Prop} (b:ai f run) {args0:List AV} {d:AH} {e m k:Nat} {s:List AV} (t:s.all flat.flat1=true) (i:s.length=m*k) (h:run args0 d e λu H' _=>FrG m k s u H')
 {c:Array Value} {κ:PK} {K:KH} (j:κ (.fr m k s) H n) (v:HR φ H n h0 hp) (x:cD φ h0 κ K) (l:bR Tryz.prog f=true) {φ0:Ph} (o:Wf hp->HR φ0 d e hp hp) (A:φ0.y=φ.z) (a:VRs φ0 args0 c.toList):dI Tryz.prog f c hp K:=by
 have key:Wf hp->dI Tryz.prog f c hp K:=λB=>b args0 d e _ h φ0 hp hp c K (o B) a λψ u H' M w g p C D E=>by
  obtain⟨F,G,I,J⟩:=FN v C (λq L=>A▸p.y q L) t i D E;exact x F _ H n w g G I J j
 exact⟨l,λw r=>(key r.wf).2 w r⟩
theorem Ho {F:FuncId->EP} (o:aW F) {d:Nat} {f:FuncId} {args0:List AV} {i:AH} {j m k:Nat} {s:List AV} (p:s.all flat.flat1=true) (b:s.length=m*k) (h:ay F d f args0 i j λu H' _=>FrG m k s u H')
 {l:Array Value} {κ:PK} {K:KH} (c:κ (.fr m k s) H n) (q:HR φ H n h0 hp) (r:cD φ h0 κ K) (e:bR Tryz.prog f=true) {φ0:Ph} (g:Wf hp->HR φ0 i j hp hp) (t:φ0.y=φ.z) (a:VRs φ0 args0 l.toList):dI Tryz.prog f l hp K:=
 MD (ax o d f) p b h c q r e g t a
end
end Go.Proofs.YtflehenfikoniaaGreat
end
