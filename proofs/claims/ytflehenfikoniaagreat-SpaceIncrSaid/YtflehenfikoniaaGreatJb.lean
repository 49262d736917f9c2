/- Texts of our own, joined: the engine, the machine that runs code, and what is known of the functions. -/
import Derived.Test.YtflehenfikoniaaGreatRows
import Derived.WalkKit
import Derived.Deep.Quiet
import Derived.ProofKit
import Derived.Laws.StructEq
import Derived.LaidEql
import Derived.Laws.BytesArg
import Derived.Maps.RangeRun
import Derived.RangeFuncSeq
import Derived.Scope
import Derived.Laws.Strings
import Derived.Laws.Strings2
import Derived.Test.YtflehenfikoniaaGreatJa
import Derived.Below
import Derived.Carry
import Derived.OpenShut
import Derived.ChangeMaps5
import Derived.Deep.Slices
import Derived.Deep.SlicePairs
import Derived.SizedLaws
set_option linter.unusedSimpArgs false
set_option linter.unusedVariables false
set_option maxHeartbeats 16000000
set_option maxRecDepth 100000
noncomputable section
namespace Go.Proofs.YtflehenfikoniaaGreat
open Go Go.RowKit
theorem IP{φ:Ph}{a:AV}{v:Value}(h:VR φ a v)(e:oi a=true):v.oneCell'=true:=by
 cases a<;>simp only[oi]at e
 case agg=>cases e
 case tup=>cases e
 case bad=>cases e
 case any u=>rw[h.uA];exact e
 case si=>rw[h.fO];rfl
 case rw=>
  rcases h.gO with⟨_,b⟩|⟨p,y,C,_,rfl,_⟩
  ·obtain⟨a,rfl⟩:=b.is;rfl
  ·rfl
 case fr=>obtain⟨a,C,rfl⟩:=h.K6;rfl
 case fa=>obtain⟨q,x,_,rfl,_⟩:=h.zK;rfl
 case sb=>rw[h.jW];rfl
 case ss=>rw[h.sL.1];rfl
 case sy=>obtain⟨p,C,_,rfl,_⟩:=h.zJ;rfl
 case int=>rw[h.bY];rfl
 case str=>rw[h.cz.1];rfl
 case bool=>rw[h.bU];rfl
 case nil=>rw[h.aQ];rfl
 case ptr=>obtain⟨p,_,rfl⟩:=h.cD;rfl
 case nsl=>rw[h.cZ];rfl
 case sl=>obtain⟨p,C,_,rfl,_⟩:=h.eQ;rfl
 case esl=>obtain⟨p,x,C,_,rfl,_⟩:=h.ko;rfl
 case fn=>obtain⟨p,q,rfl,_⟩:=h.m6;rfl
 case map=>obtain⟨p,_,rfl⟩:=h.lC;rfl
theorem mj{φ:Ph}:∀{l:List AV} {b:List Value},VRs φ l b->l.all oi=true->b.all Value.oneCell'=true
 | [],b,h,_=>by rw[h.aQ];rfl
 |a::l,b,h,e=>by
  obtain⟨v,us,rfl,c,d⟩:=h.cons_inv;simp only[q1p,Z9]at e⊢;exact⟨IP c e.1,mj d e.2⟩
theorem CR.append{φ:Ph}{c:Array Value}{s:Nat}{l m:List AV}(h:CR φ c s l)(k:CR φ c (s+l.length) m):CR φ c s (l++m):=λi a e=>by
 by_cases b:i<l.length
 ·rw[q0z b]at e;exact h i a e
 ·rw[q0r (by omega)]at e;obtain⟨v,d,f⟩:=k _ a e;exact⟨v,by rw[<-d];congr 1;omega,f⟩
theorem CR.drop{φ:Ph}{c:Array Value}{s o m:Nat}{l:List AV}(h:CR φ c s l):CR φ c (s+o) ((l.drop o).take m):=λi a e=>by
 rw[List.getElem?_take]at e;split at e
 ·rw[q2l]at e;obtain⟨v,b,d⟩:=h _ a e;exact⟨v,by rw[<-b];congr 1;omega,d⟩
 ·cases e
theorem CR.kept{φ:Ph}{c:Array Value}{s o:Nat}{l:List AV}{b:List Value}(h:CR φ c s l)(ho:s+l.length<=o):CR φ (dZ c o b) s l:=λi a e=>by
 have:=(X6.1 e).1;rw[m7,if_neg (by omega)];exact h i a e
theorem CR.wrote{φ:Ph}{c:Array Value}{o:Nat}{l:List AV}{b:List Value}(h:VRs φ l b)(ho:o+l.length<=c.size):CR φ (dZ c o b) o l:=λi a e=>by
 have hi:=(X6.1 e).1;obtain⟨v,d,f⟩:=h.at e;have:=h.length;refine⟨v,?_,f⟩;rw[m7,if_pos (by omega),show o+i-o=i from by omega];exact d
theorem qR.sub{fz:Nat×Nat}{o m o' a:Nat}(h:qR fz o m)(b:o'+a<=o+m):qR fz o' a:=by
 unfold qR at*;omega
def qi(φ:Ph)(h0:Hp)(v:AV)(H:AH)(n:Nat)(K:KH):Prop:=∀(a:Ph) (u:Value) (g:Hp),PLe φ a->HR a H n h0 g->VR a v u->K u g
section
variable {P:Program} {φ:Ph} {H H':AH} {n n':Nat} {h0 h:Hp} {K:KH} {σ:AE} {ρ:Env} {r:AV}
theorem vy(a:HR φ H n h0 h){l:List AV}{cs:Array Value}{el:TypeId}(b:VRs φ l cs.toList)(e:OF l H n=some (r,H',n'))(c:qi φ h0 r H' n' K):Ir el cs h K:=by
 unfold OF at e;injection e with e;injection e with e1 e2;injection e2 with e2 e3;subst e1 e2 e3;have d:l.length=cs.size:=by simpa using b.length
 have ho:OR (fe φ n ⟨h.n,0,cs.size⟩) ⟨h.n,0,cs.size⟩ (.cells l true) (.cells cs el (0,0)):=
  ⟨cs,el,(0,0),rfl,by simp only;omega,by simp only;omega,iZ _ _,λ_=>rfl,CR.mono (a.ple _) (CR.of' b)⟩
 exact c _ _ _ (a.ple _) (a.new ho aa) (.ptr (bz _ _ _))
theorem rf(m:HR φ H n h0 h){t:TypeId}{a x:AV}{av i:Value}(w:VR φ a av)(y:VR φ x i)(e:zH P t a x H n=some (r,H',n'))(A:qi φ h0 r H' n' K):nY P t av i h K:=by
 unfold zH at e;split at e
 ·rename_i b o;obtain⟨p,q,rfl⟩:=w.cD;split at e
  ·rename_i l z s u B;obtain⟨F,G,C,c,ty,fz,rfl,I,J,v,D,E⟩:=m.of u q;split at e
   ·rename_i L g d;simp only[Z9]at g;have hlen:=q0a g.1;have j:=y.cells g.2.1;have k:=j.length;have f:i.cells.size=s:=by rw[<-hlen,k,Array.length_toList]
    obtain⟨M,N,O⟩:=iu _ _ _ _ d;injection e with e;injection e with e1 e2;injection e2 with e2 e3;subst e1 e2 e3
    (try simp only[nY,C])
    refine⟨by rw[B,f],mj j g.2.2,by omega,v.sub (by omega),?_⟩;refine A _ _ _ (PLe.refl _) (m.put u q ?_ aa) .undef;exact⟨_,ty,fz,rfl,by omega,by rw[fk];omega,v,D,E.set d j (by omega)⟩
   ·cases e
  ·cases e
 ·cases e
theorem lE:∀(l:List AV) (s:List Nat) (d:List Value),VRs φ l d->kU l=some s->bytesOf d=some (s.map UInt8.ofNat)/\∀x∈s,x<256
 | [],s,d,h,e=>by
  rw[h.aQ];injection e with e;subst e;exact⟨rfl,λ_ c=>by cases c⟩
 |a::l,s,d,h,e=>by
  unfold kU at e;split at e
  ·rename_i q;cases q
  ·rename_i m l' q;injection q with f g;subst f g;obtain⟨v,us,rfl,i,j⟩:=h.cons_inv;rw[i.bY];split at e
   ·rename_i b;have b:m<256:=by simpa[q2h]using b
    simp only[Z7]at e;obtain⟨k,o,rfl⟩:=e;obtain⟨p,t⟩:=lE l k us j o;refine⟨?_,λx c=>?_⟩
    ·(try simp only[bytesOf])
     rw[if_pos (by constructor<;>simp only[q1q]<;>omega),p];simp
    ·rcases Z4.1 c with rfl|c
     ·exact b
     ·exact t x c
   ·cases e
  ·rename_i m l' q;injection q with f g;subst f g;obtain⟨v,us,rfl,i,j⟩:=h.cons_inv;rw[i.fO];split at e
   ·rename_i b;have b:m<256:=by simpa[q2h]using b
    simp only[Z7]at e;obtain⟨k,o,rfl⟩:=e;obtain⟨p,t⟩:=lE l k us j o;refine⟨?_,λx c=>?_⟩
    ·(try simp only[bytesOf])
     rw[if_pos (by constructor<;>simp only[q1q]<;>omega),p];simp
    ·rcases Z4.1 c with rfl|c
     ·exact b
     ·exact t x c
   ·cases e
  ·cases e
theorem lU{s:List Nat}(a:∀x∈s,x<256):(eM (eG s)).toList=s.map λc=> .int .u8 (Int.ofNat c):=by
 simp only[eM,eG,q3s,q4i];apply q2s;intro c b;simp only[Function.comp];congr 1;rw[UInt8.toNat_ofNat',q1i (a c b)];rfl
theorem VRs.bytes(φ:Ph)(s:List Nat):VRs φ (s.map λc=> .int .u8 (Int.ofNat c)) (s.map λc=> .int .u8 (Int.ofNat c)):=VRs.map (λc=> .int _ _) s
theorem ot(m:HR φ H n h0 h){src dst:TypeId}{x:AV}{A:Value}(t:VR φ x A)(e:BR P src dst x H n=some (r,H',n'))(u:qi φ h0 r H' n' K):iq P src dst A h K:=by
 unfold BR at e;split at e
 ·rename_i O Q k a g i;rw[t.bY];injection e with e;injection e with j d;injection d with d e3;subst j d e3
  (try simp only[iq,g,i])
  exact u _ _ _ (PLe.refl _) m (.int _ _)
 ·rename_i s g i;obtain⟨rfl,w⟩:=t.cz;injection e with e;injection e with j d;injection d with d e3;subst j d e3
  (try simp only[iq,g,i])
  exact u _ _ _ (PLe.refl _) m (.str w)
 ·rename_i el s g i;obtain⟨rfl,w⟩:=t.cz;split at e
  ·rename_i v;injection e with e;injection e with j d;injection d with d e3;subst j d e3
   (try simp only[iq,g,i])
   refine⟨v,λcap f=>?_⟩;rw[iv]at f⊢
   have y:(eM (eG s)++Array.replicate (cap-s.length) (Value.int .u8 0)).size=cap:=by
    have:(eM (eG s)).size=s.length:=by rw[<-Array.length_toList,lU w];simp
    rw[Array.size_append,this,Array.size_replicate];omega
   have ho:OR (fe φ n ⟨h.n,0,cap⟩) ⟨h.n,0,cap⟩ (.cells (s.map λc=> .int .u8 (Int.ofNat c)) false) (.cells (eM (eG s)++Array.replicate (cap-s.length) (.int .u8 0)) el (cap,cap+1)):=by
    refine⟨_,el,_,rfl,by simpa using f,by simp only[y];omega,.inr (by simp only;omega),(λq=>by cases q),?_⟩;have:=CR.of (φ:=fe φ n ⟨h.n,0,cap⟩) (VRs.bytes _ s) (Array.replicate (cap-s.length) (Value.int .u8 0)).toList;rw[<-lU w]at this
    have d:((eM (eG s)).toList++(Array.replicate (cap-s.length) (Value.int .u8 0)).toList).toArray=eM (eG s)++Array.replicate (cap-s.length) (Value.int .u8 0):=by
     apply q2q;simp
    rwa [d]at this
   have:=u _ (.slice (some ⟨h.n,0+0,none⟩) s.length cap) _ (m.ple _) (m.new ho aa) (.sl (bz _ _ _) (λq=>absurd q (by decide)) (λ_=>⟨f,by simp⟩));exact this
  ·cases e
 ·rename_i el g i;rw[t.cZ];split at e
  ·rename_i v;injection e with e;injection e with j d;injection d with d e3;subst j d e3
   (try simp only[iq,g,i])
   exact⟨v,u _ _ _ (PLe.refl _) m (.str (s:=[]) (λ_ t=>by cases t))⟩
  ·cases e
 ·rename_i el b o len c k g i;obtain⟨p,C,B,rfl,_,_⟩:=t.eQ;split at e
  ·rename_i l z v D;obtain⟨R,S,E,T,ty,fz,rfl,_,_,_,_,F⟩:=m.of D B;simp only[Z7,q1t,q2v]at e;obtain⟨s,⟨G,j,d⟩,rfl,rfl,rfl⟩:=e;obtain⟨I,J,L⟩:=F.sub j;obtain⟨M,N⟩:=lE G s I L d;simp only[iq,g,i,E,J,q1x,M];exact⟨v,u _ _ _ (PLe.refl _) m (.str N)⟩
  ·cases e
 ·cases e
theorem ou(b:HR φ H n h0 h){t:TypeId}{x y:AV}{g i:Value}(m:VR φ x g)(o:VR φ y i)(e:vn P t x y H n=some (r,H',n'))(p:qi φ h0 r H' n' K):va P t g i h K:=by
 unfold vn at e;split at e
 ·rename_i el C l D c s;rw[m.bY,o.bY];split at e
  ·rename_i k a z u v w;split at e
   ·rename_i A;obtain⟨E,F,G,B⟩:=A;injection e with e;injection e with e1 e2;injection e2 with e2 e3;subst e1 e2 e3
    (try simp only[va,s,u,v,w])
    have d:(a:Int)*Int.ofNat c<=281474976710656:=by
     have:((a*c:Nat):Int)<=281474976710656:=by omega
     rwa [Int.natCast_mul]at this
    refine⟨by simp only[q1q];omega,by simp only[q1q];omega,d,by simp only[q1q];omega,?_⟩;rw[show(Int.ofNat l).toNat=l from rfl,show(Int.ofNat c).toNat=c from rfl];have f:madeCells z.cells (c*k)=(cP z.cells.toList c).toArray:=by rw[<-B];exact ja _ _
    rw[f];have j:=sQ (mi φ z) c;have I:=j.length
    have ho:OR (fe φ n ⟨h.n,0,(cP z.cells.toList c).length⟩) ⟨h.n,0,(cP z.cells.toList c).length⟩ (.cells (iN (ofV z).cells c) true) (.cells (cP z.cells.toList c).toArray el (0,0)):=
     ⟨_,el,_,rfl,by simp only;omega,by simp,iZ _ _,λ_=>rfl,CR.mono (b.ple _) (CR.of' (by simpa using j))⟩
    exact p _ (.slice (some ⟨h.n,0+0,none⟩) l c) _ (b.ple _) (b.new ho aa) (.sl (bz _ _ _) (λ_=>rfl) (λq=>(q rfl).elim))
   ·cases e
  ·cases e
 ·cases e
theorem yj(t:HR φ H n h0 h){k m:Nat}{x:AV}{w:Value}{l:List AV}(i:VR φ x w)(e:OG H k x=some (m,l)):∃d,bT h k w=some (m,d)/\VRs φ l d:=by
 unfold OG at e;split at e
 ·rw[i.cZ];injection e with e;injection e with a e2;subst a e2;exact⟨[],rfl,.nil⟩
 ·rename_i b o I c J;obtain⟨p,C,j,rfl,_,_⟩:=i.eQ;split at e
  ·rename_i A z f;obtain⟨B,D,g,E,ty,fz,rfl,_,_,_,_,q⟩:=t.of f j;simp only[Z7,q2v]at e;obtain⟨F,a,rfl,rfl⟩:=e;obtain⟨d,u,v⟩:=q.sub a;exact⟨d,by simp only[bT,g,u,Y8],v⟩
  ·rename_i A f;obtain⟨B,D,g,E,ty,fz,rfl,_,_,q⟩:=t.of f j;simp only[Z7,q2v]at e;obtain⟨F,a,rfl,rfl⟩:=e;obtain⟨d,u,v⟩:=q.sub a;exact⟨d,by simp only[bT,g,u,Y8],v⟩
  ·cases e
 ·rename_i b;obtain⟨p,y,C,j,rfl,_⟩:=i.ko;split at e
  ·rename_i A z f;obtain⟨B,D,g,E,ty,fz,rfl,_,_,_,_,q⟩:=t.of f j;injection e with e;injection e with a e2;subst a e2;exact⟨[],by simp only[bT,g,q1h,cN,Y8],.nil⟩
  ·cases e
 ·rename_i s;obtain⟨rfl,G⟩:=i.cz;injection e with e;injection e with a e2;subst a e2;refine⟨_,by simp only[bT,iv];rfl,?_⟩;rw[lU G];exact VRs.bytes _ _
 ·cases e
theorem lX(F:HR φ H n h0 h){t u:TypeId}{s x:AV}{sv xv:Value}(hs:VR φ s sv)(hx:VR φ x xv)(e:rb P t u s x H n=some (r,H',n'))(hk:qi φ h0 r H' n' K):iK P t u sv xv h (sx K):=by
 have wk:∀v g,K v g->sx K v g:=λv g k=>⟨g,Sub.refl _,k⟩
 unfold rb at e;split at e
 case h_2=>cases e
 rename_i el ud hu hud;split at e
 case h_1=>cases e
 case h_3=>cases e
 rename_i T _ _ _ _ k U z hni hsz hbz hzz;have V:∀q,T≠ .int q:=λq h=>hni q h
 split at e
 case h_2=>cases e
 rename_i m new W;split at e
 case isFalse=>cases e
 rename_i hc;obtain⟨c1,c2,c3,c4,c5⟩:=hc;obtain⟨N,hn1,A⟩:=yj F hx W;have hnl:=A.length;have J:=mj A c5;have X:∀q,(cP z.cells.toList q).length=q*k:=λq=>by rw[lT];simp[c1]
 have grow:∀(old:List AV) (w:List Value) (i:Nat) (zz:Bool) (d:Nat) (G:AH) (ψ:Ph),ψ=φ->HR φ G n h0 h->VRs φ old w->w.length=i*k->r= .sl n 0 (i+m) (i+m) k->H'=G.set (some (.cells (old++new) zz)) aa n->n'=n+1->F0 el z (i+m) w N h (sx K):=by
  intro old w i zz d G ψ hψ hG ho y hre hHe hne cap L;subst hre hHe hne;refine wk _ _ ?_
  have Y:(w++(N++cP z.cells.toList (cap-(i+m)))).length=cap*k:=by
   simp only[Z6,y,<-hnl,c4,X];rw[<-q2a,<-q2a];congr 1;omega
  have O:OR (fe φ n ⟨h.n,0,cap*k⟩) ⟨h.n,0,cap*k⟩ (.cells (old++new) zz) (.cells (w++(N++cP z.cells.toList (cap-(i+m)))).toArray el (0,0)):=by
   refine⟨_,el,_,rfl,?_,by simp only[List.size_toArray,Y];omega,iZ _ _,λ_=>rfl,?_⟩
   ·have:=ho.length;simp only[Z6,c4,this,y];rw[<-q2a];exact q1b k L
   ·rw[<-q0h];exact CR.mono (hG.ple _) (CR.of (ho.append A) _)
  have:=hk _ (.slice (some ⟨h.n,0+0,none⟩) (i+m) cap) _ (hG.ple _) (hG.new O aa) (.sl (bz _ _ _) (λq=>by omega) (λ_=>⟨L,by simp⟩));exact this
 have fin:∀{base:Option Addr} {f jZ:Nat},(f+m<=jZ->tD base k f m jZ N h (sx K))->(jZ<f+m->(f+m)*U<=140737488355328/\∃old,bT h k (.slice base f jZ)=some (f,old)/\F0 el z (f+m) old N h (sx K))->iK P t u (.slice base f jZ) xv h (sx K):=λa b=>
  ⟨el,T,k,U,z,m,N,hu,hud,V,hsz,hbz,hzz,c1,c2,hn1,a,b⟩
 split at e
 ·
  rw[hs.cZ];split at e
  ·injection e with e;injection e with e1 e2;injection e2 with e2 e3;subst e1 e2 e3;refine fin (λ_=>wk _ _ ?_) (λq=>by omega);exact hk _ _ _ (PLe.refl _) F .nsl
  ·rename_i hm0;split at e
   ·rename_i I;injection e with e;injection e with e1 e2;injection e2 with e2 e3;refine fin (λq=>?_) (λ_=>⟨by simpa using I,[],rfl,?_⟩)
    ·have:m=0:=by omega
     exact(hm0 this).elim
    ·exact grow [] [] 0 true aa H φ rfl F .nil (by simp) (by rw[<-e1];simp) (by rw[<-e2];simp) e3.symm
   ·cases e
 ·rename_i b o i c sk;obtain⟨p,C,hp,rfl,Q,R⟩:=hs.eQ
  have hcC:c<=C:=by
   by_cases q:sk=0
   ·rw[Q q];omega
   ·exact(R q).1
  split at e
  case h_2=>cases e
  rename_i l z' hb;obtain⟨ob,hB,hf,cc,ty,fz,rfl,h1,h2,h3,h4,h5⟩:=F.of hb hp;split at e
  ·rename_i hle;split at e
   ·rename_i l' M;obtain⟨g1,S,g3⟩:=iu _ _ _ _ M;injection e with e;injection e with e1 e2;injection e2 with e2 e3;subst e1 e2 e3;refine fin (λ_=>?_) (λq=>by omega)
    (try simp only[tD,hf])
    refine⟨J,by omega,h3.sub (by omega),wk _ _ ?_⟩;refine hk _ _ _ (PLe.refl _) (F.put hb hp ?_ aa) (.sl hp Q R);refine⟨_,ty,fz,rfl,by omega,by rw[fk];omega,h3,h4,?_⟩;rw[q1l];exact h5.set M A (by omega)
   ·cases e
  ·rename_i hgt;split at e
   case isFalse=>cases e
   rename_i I;split at e
   ·rename_i old j;injection e with e;injection e with e1 e2;injection e2 with e2 e3;obtain⟨w,g1,S⟩:=h5.sub j
    have y:w.length=i*k:=by
     have:=S.length;obtain⟨q1,rfl⟩:=bo j;rw[<-this];simp;omega
    have:=Q rfl
    refine fin (λq=>by omega) (λ_=>⟨I,w,by simp only[bT,hf,g1,Y8],?_⟩);exact grow old w i true aa H φ rfl F S y e1.symm e2.symm e3.symm
   ·rename_i old sk' j;split at e
    case isFalse=>cases e
    rename_i hsk;obtain⟨_,hT⟩:=R (by omega);rw[hsk]at hT;injection e with e;injection e with e1 e2;injection e2 with e2 e3;obtain⟨w,g1,S⟩:=h5.sub j;obtain⟨q1,D⟩:=bo j;have Z:old.length=i*k:=by subst D;simp;omega
    have y:w.length=i*k:=by
     have:=S.length;omega
    refine fin (λE=>?_) (λ_=>⟨I,w,by simp only[bT,hf,g1,Y8],?_⟩)
    ·subst e1 e2 e3
     (try simp only[tD,hf])
     have hCk:(i+m)*k<=C*k:=q1b k E;have hadd:(i+m)*k=i*k+m*k:=q2a _ _ _;refine⟨J,by omega,h3.sub (by omega),wk _ _ ?_⟩
     have O:OR (fe φ n ⟨p.B,p.s+o,C*k⟩) ⟨p.B,p.s+o,C*k⟩ (.cells (old++new) z') (.cells (dZ cc (p.s+o+i*k) N) ty fz):=by
      refine⟨_,ty,fz,rfl,by simp only[Z6];omega,by rw[fk];simp only;omega,h3.sub (by simp only;omega),h4,CR.mono (F.ple _) (CR.append ?_ ?_)⟩
      ·subst D;exact CR.kept (CR.drop h5) (by simp only;omega)
      ·simp only;rw[Z];exact CR.wrote A (by omega)
     have:=hk _ (.slice (some ⟨p.B,p.s+o+0,none⟩) (i+m) C) _ (F.ple _) (F.rename (q:=⟨p.B,p.s+o,C*k⟩) hb hp rfl O aa aa) (.sl (p:=⟨p.B,p.s+o,C*k⟩) (bz _ _ _) (λq=>by omega) (λ_=>⟨E,by simp⟩));exact this
    ·exact grow old w i z' aa _ φ rfl (F.kill aa b) S y e1.symm e2.symm e3.symm
   ·cases e
 ·cases e
theorem Ev{x:AV}{v:Value}{m:Nat}(a:VR φ x v)(e:F3 x=some m):KF v=some m:=by
 unfold F3 at e;split at e
 ·rw[a.cZ];exact e
 ·obtain⟨p,C,_,rfl,_⟩:=a.eQ;exact e
 ·obtain⟨p,y,C,_,rfl,_⟩:=a.ko;exact e
 ·obtain⟨rfl,_⟩:=a.cz;simp only[KF,iv];exact e
 ·cases e
theorem BY(j:HR φ H n h0 h){k q:Nat}{x:AV}{D:Value}{l:List AV}(m:VR φ x D)(e:Er H k q x=some l):∃f,kP h k q D=some f/\VRs φ l f:=by
 unfold Er at e;split at e
 ·rw[m.cZ];injection e with e;subst e;exact⟨[],rfl,.nil⟩
 ·rename_i b o I c J;obtain⟨p,C,g,rfl,_,_⟩:=m.eQ;split at e
  ·rename_i t z a;obtain⟨u,v,d,w,ty,fz,rfl,_,_,_,_,i⟩:=j.of a g;obtain⟨f,A,B⟩:=i.sub e;exact⟨f,by simp only[kP,d,A],B⟩
  ·rename_i t a;obtain⟨u,v,d,w,ty,fz,rfl,_,_,i⟩:=j.of a g;obtain⟨f,A,B⟩:=i.sub e;exact⟨f,by simp only[kP,d,A],B⟩
  ·cases e
 ·rename_i b;obtain⟨p,y,C,g,rfl,_⟩:=m.ko;split at e
  ·rename_i t z a;obtain⟨u,v,d,w,ty,fz,rfl,_,_,_,_,i⟩:=j.of a g;injection e with e;subst e;exact⟨[],by simp only[kP,d,q1h,cN],.nil⟩
  ·rename_i t a;obtain⟨u,v,d,w,ty,fz,rfl,_,_,i⟩:=j.of a g;injection e with e;subst e;exact⟨[],by simp only[kP,d,q1h,cN],.nil⟩
  ·cases e
 ·rename_i s;obtain⟨rfl,E⟩:=m.cz;injection e with e;subst e;refine⟨_,rfl,?_⟩;rw[c9,<-q4a,q4i];have:((λb:UInt8=>Value.int .u8 (b.toNat:Int))∘UInt8.ofNat)=λc:Nat=>Value.int .u8 ((UInt8.ofNat c).toNat:Int):=rfl
  rw[this]
  have F:((s.take q).map λc:Nat=>Value.int .u8 ((UInt8.ofNat c).toNat:Int))=(s.take q).map λc:Nat=>Value.int .u8 (Int.ofNat c):=q2s λc G=>by
   rw[UInt8.toNat_ofNat',q1i (E c (q2z G))];rfl
  rw[F];exact VRs.bytes _ _
 ·cases e
theorem ow(j:HR φ H n h0 h){t:TypeId}{d x:AV}{M N:Value}(hd:VR φ d M)(O:VR φ x N)(e:BS P t d x H n=some (r,H',n'))(B:qi φ h0 r H' n' K):nZ P t M N h K:=by
 unfold BS at e;split at e
 ·rename_i el m D E S a;split at e
  ·rename_i k F;split at e
   ·rename_i cells f;obtain⟨Z,w,A⟩:=BY j O f;have i:=Ev O S;split at e
    ·have:D=0:=by injection a with a;exact a.symm
     subst this;rw[hd.cZ];injection e with e;injection e with e1 e2;injection e2 with e2 e3;subst e1 e2 e3
     (try simp only[nZ,E,i,F,w])
     exact B _ _ _ (PLe.refl _) j (.int _ _)
    ·rename_i b;have:D=0:=by injection a with a;exact a.symm
     subst this;obtain⟨p,y,C,q,rfl,T,U⟩:=hd.ko;split at e
     ·rename_i l z s;obtain⟨V,W,G,I,ty,fz,rfl,Q,R,u,J,L⟩:=j.of s q;rw[A.aQ]at w;injection e with e;injection e with e1 e2;injection e2 with e2 e3;subst e1 e2 e3
      (try simp only[nZ,E,i,F,w,G])
      refine⟨rfl,by simp only[q1e];omega,u.sub (by simp only[q1e];omega),?_⟩;exact B _ _ _ (PLe.refl _) (j.put s q (show OR φ p (.cells l z) (.cells I ty fz) from⟨I,ty,fz,rfl,Q,R,u,J,L⟩) aa) (.int _ _)
     ·cases e
    ·rename_i b o X c k';have:D=X:=by injection a with a;exact a.symm
     subst this;obtain⟨p,C,q,rfl,_,_⟩:=hd.eQ;split at e
     ·rename_i l z s;obtain⟨V,W,G,I,ty,fz,rfl,Q,R,u,J,L⟩:=j.of s q;split at e
      ·rename_i l' g v;obtain⟨q1,q2,q3⟩:=iu _ _ _ _ g;have Y:=A.length;injection e with e;injection e with e1 e2;injection e2 with e2 e3;subst e1 e2 e3
       (try simp only[nZ,E,i,F,w,G])
       refine⟨mj A v,by omega,u.sub (by omega),?_⟩;refine B _ _ _ (PLe.refl _) (j.put s q ?_ aa) (.int _ _);exact⟨_,ty,fz,rfl,by omega,by rw[fk];omega,u,J,L.set g A (by omega)⟩
      ·cases e
     ·cases e
    ·cases e
   ·cases e
  ·cases e
 ·cases e
theorem Ew{k v:AV}{t w:Value}(f:VR φ k t)(G:VR φ v w):∀(es:List (AV×AV)) (ms:List MapEntry) (q:Option (Nat×AV)) (g:Option (Nat×Value)) (cl:Nat),MR φ es ms->vq ms cl->(match q,g with
 |none,none=>True
 |some (j,_),some (A,_)=>j=A
 |_,_=>False)->∃d cl',KI t w ms cl g= .map d cl'/\MR φ (lA k v es q) d.toList/\vq d.toList cl':=by
 have app:∀(es:List (AV×AV)) (ms:List MapEntry) (m:MapEntry),MR φ es ms->VR φ k m.key->VR φ v m.val->MR φ (es++ [(k,v)]) (ms++ [m]):=by
  intro es
  induction es with
  |nil=>intro ms m b l o;rw[show ms=[] from b];exact⟨m,[],rfl,l,o,rfl⟩
  |cons x es B=>
   intro ms m ⟨C,us,l,o,D,z⟩ I J;subst l;exact⟨C,us++ [m],rfl,o,D,B us m z I J⟩
 have p:∀(es:List (AV×AV)) (ms:List MapEntry) (i:Nat) (u:AV),MR φ es ms->MR φ (lA k v es (some (i,u))) (chg t w ms i):=by
  intro es
  induction es with
  |nil=>intro ms i u b;rw[show ms=[] from b];cases i<;>rfl
  |cons x es B=>
   intro ms i u ⟨C,us,l,o,D,z⟩;subst l;cases i with
   |zero=>exact⟨_,us,rfl,f,G,z⟩
   |succ i=>exact⟨C,_,rfl,o,D,B us i u z⟩
 have E:∀(ms:List MapEntry) (i:Nat) (cl:Nat),vq ms cl->vq (chg t w ms i) cl:=by
  intro ms i cl h;rw[<-Ea];refine⟨by rw[List.length_modify];exact h.1,λj e c=>?_⟩;rw[List.getElem?_modify]at c;cases b:ms[j]? with
  |none=>rw[b]at c;simp at c
  |some m=>
   have hb:=h.2 j m b;rw[b]at c;by_cases q:i=j
   ·simp[q]at c;subst c;exact hb
   ·simp[q]at c;subst c;exact hb
 intro es ms q g cl b s F;cases q with
 |none=>
  cases g with
  |some x=>exact F.elim
  |none=>
   refine⟨_,_,rfl,?_,s.push rfl⟩;have:lA k v es none=es++ [(k,v)]:=by cases es<;>rfl
   rw[this];exact app es ms _ b f G
 |some y=>
  cases g with
  |none=>exact F.elim
  |some x=>
   obtain⟨j,a⟩:=y;obtain⟨A,L⟩:=x;have:j=A:=F;subst this;exact⟨_,_,rfl,p es ms j a b,E ms j cl s⟩
theorem Ex{k v:AV}{a b:Value}(c:VR φ k a)(g:VR φ v b):∀(es:List (AV×AV)) (ms:List MapEntry) (cl:Nat),MR φ es ms->MR φ (lA k v es none) (ms++ [({key:=a,val:=b,born:=cl}:MapEntry)]).toArray.toList/\((ms++ [({key:=a,val:=b,born:=cl}:MapEntry)]).toArray.toList.map λx=>x.born)=(ms.map λx=>x.born)++ [cl]:=λes ms cl d=>by
 have app:∀(es:List (AV×AV)) (ms:List MapEntry) (m:MapEntry),MR φ es ms->VR φ k m.key->VR φ v m.val->MR φ (es++ [(k,v)]) (ms++ [m]):=by
  intro es
  induction es with
  |nil=>intro ms m d e f;rw[show ms=[] from d];exact⟨m,[],rfl,e,f,rfl⟩
  |cons x es i=>
   intro ms m ⟨j,us,e,f,l,o⟩ p q;subst e;exact⟨j,us++ [m],rfl,f,l,i us m o p q⟩
 have:lA k v es none=es++ [(k,v)]:=by cases es<;>rfl
 rw[this];exact⟨app es ms _ d c g,by simp⟩
theorem Ey{k v:AV}{a b:Value}(c:VR φ k a)(f:VR φ v b):∀(es:List (AV×AV)) (ms:List MapEntry) (i:Nat) (u:AV),MR φ es ms->MR φ (lA k v es (some (i,u))) (chg a b ms i).toArray.toList/\((chg a b ms i).toArray.toList.map λx=>x.born)=ms.map λx=>x.born:=by
 intro es
 induction es with
 |nil=>intro ms i u g;rw[show ms=[] from g];cases i<;>exact⟨rfl,rfl⟩
 |cons x es j=>
  intro ms i u ⟨d,us,l,m,o,e⟩;subst l;cases i with
  |zero=>exact⟨⟨_,us,rfl,c,f,e⟩,rfl⟩
  |succ i=>
   obtain⟨p,q⟩:=j us i u e
   exact⟨⟨d,_,rfl,m,o,p⟩,by
    show d.born::_=d.born::_;exact congrArg _ q⟩
theorem jx(o:HR φ H n h0 h){t:TypeId}{m k v:AV}{J L M:Value}(N:VR φ m J)(c:VR φ k L)(F:VR φ v M)(e:lB P t m k v H n=some (r,H',n'))(G:qi φ h0 r H' n' K):jv P t J L M h K:=by
 unfold lB at e;split at e
 ·rename_i b S T U d;obtain⟨p,s,rfl⟩:=N.lC;split at e
  ·rename_i es i;obtain⟨O,Q,E,ms,cl,rfl,f,I⟩:=o.of i s;split at e
   ·rename_i q u;obtain⟨l,w,g⟩:=ia c es ms.toList 0 q f u
    obtain⟨z,A,B,C,R⟩:=Ew c F es ms.toList q l cl f I (by
     cases q<;>cases l<;>first|trivial|exact g.elim|exact g.1)
    injection e with e;injection e with e1 e2;injection e2 with e2 e3;subst e1 e2 e3;simp only[jv,qW,E,d,q1x,w,Y8,B];exact G _ _ _ (PLe.refl _) (o.put i s (show OR φ p (.map _) (.map z A) from⟨z,A,rfl,C,R⟩) aa) .undef
   ·cases e
  ·rename_i es bs cl i;obtain⟨O,Q,E,ms,rfl,f,D⟩:=o.of i s;split at e
   ·rename_i u;obtain⟨l,w,g⟩:=ia c es ms.toList 0 none f u;cases l with
    |some x=>exact g.elim
    |none=>
     injection e with e;injection e with e1 e2;injection e2 with e2 e3;subst e1 e2 e3;obtain⟨B,C⟩:=Ex c F es ms.toList cl f;simp only[jv,qW,E,d,q1x,w,Y8];exact G _ _ _ (PLe.refl _) (o.put i s (show OR φ p (.mp _ _ _) (.map _ (cl+1)) from⟨_,rfl,B,by rw[C,D]⟩) aa) .undef
   ·rename_i y u;obtain⟨l,w,g⟩:=ia c es ms.toList 0 (some y) f u;cases l with
    |none=>exact g.elim
    |some x=>
     obtain⟨j,a⟩:=y;obtain⟨V,W⟩:=x;have:=g.1;subst this;injection e with e;injection e with e1 e2;injection e2 with e2 e3;subst e1 e2 e3;obtain⟨B,C⟩:=Ey c F es ms.toList j a f;simp only[jv,qW,E,d,q1x,w,Y8];exact G _ _ _ (PLe.refl _) (o.put i s (show OR φ p (.mp _ _ _) (.map _ cl) from⟨_,rfl,B,by rw[C,D]⟩) aa) .undef
   ·cases e
  ·cases e
 ·cases e
theorem MR.erase{φ:Ph}:∀{es:List (AV×AV)} {ms:List MapEntry},MR φ es ms->∀i,MR φ (es.eraseIdx i) (ms.eraseIdx i)
 | [],ms,h,i=>by rw[show ms=[] from h];exact rfl
 |e::es,ms,⟨m,us,a,c,d,b⟩,0=>by subst a;exact b
 |e::es,ms,⟨m,us,a,c,d,b⟩,i+1=>by subst a;exact⟨m,_,rfl,c,d,MR.erase b i⟩
theorem sR{b c:Type}(f:b->c):∀(l:List b) (i:Nat),(l.eraseIdx i).map f=(l.map f).eraseIdx i
 | [],i=>rfl
 |a::l,0=>rfl
 |a::l,i+1=>congrArg (f a::·) (sR f l i)
theorem qj(l:HR φ H n h0 h){t:TypeId}{m k:AV}{w y:Value}(B:VR φ m w)(c:VR φ k y)(e:Es P t m k H n=some (r,H',n'))(z:qi φ h0 r H' n' K):mT P t w y h K:=by
 unfold Es at e;split at e
 ·rename_i b C D E d;obtain⟨p,o,rfl⟩:=B.lC;split at e
  ·rename_i es bs cl q;obtain⟨F,G,A,ms,rfl,g,f⟩:=l.of q o;split at e
   ·rename_i s;obtain⟨u,v,j⟩:=ia c es ms.toList 0 none g s;cases u with
    |some x=>exact j.elim
    |none=>
     injection e with e;injection e with e1 e2;injection e2 with e2 e3;subst e1 e2 e3;simp only[mT,ux,A,d,q1x,v,Y8];exact z _ _ _ (PLe.refl _) (l.put q o (show OR φ p (.mp _ _ _) (.map _ cl) from⟨_,rfl,g,f⟩) aa) (.tup .nil)
   ·rename_i i a s;obtain⟨u,v,j⟩:=ia c es ms.toList 0 (some (i,a)) g s;cases u with
    |none=>exact j.elim
    |some x=>
     obtain⟨I,J⟩:=x;have:=j.1;subst this;injection e with e;injection e with e1 e2;injection e2 with e2 e3;subst e1 e2 e3;simp only[mT,ux,A,d,q1x,v,Y8];exact z _ _ _ (PLe.refl _) (l.put q o (show OR φ p (.mp _ _ _) (.map _ cl) from⟨_,rfl,g.erase i,by show((ms.toList.eraseIdx i).map λx=>x.born)=_;rw[sR,f]⟩) aa) (.tup .nil)
   ·cases e
  ·cases e
 ·cases e
theorem zP(a:HR φ H n h0 h){t:TypeId}{x:AV}{v:Value}(l:VR φ x v)(e:Et P t x H n=some (r,H',n'))(i:qi φ h0 r H' n' K):zx P t v h K:=by
 unfold Et at e;split at e
 ·rename_i b;obtain⟨p,c,rfl⟩:=l.lC;split at e
  ·rename_i es d f;obtain⟨m,o,g,ms,cl,rfl,j,k,_⟩:=a.of d c;injection e with e;injection e with e1 e2;injection e2 with e2 e3;subst e1 e2 e3;refine⟨f,?_⟩
   (try simp only[g])
   have q:cl=es.length:=k.trans j.length.symm;subst q;have ho:OR (fe φ n ⟨h.n,0,0⟩) ⟨h.n,0,0⟩ (.iter b es.length []) (.mapIter (some p.B) es.length #[] es.length):=⟨rfl,p,a.ple _ _ _ c,rfl⟩;exact i _ (.pointer (some ⟨h.n,0+0,none⟩)) _ (a.ple _) (a.new ho aa) (.ptr (bz _ _ _))
  ·rename_i es bs cl d f;obtain⟨m,o,g,ms,rfl,j,k⟩:=a.of d c;injection e with e;injection e with e1 e2;injection e2 with e2 e3;subst e1 e2 e3;refine⟨f,?_⟩
   (try simp only[g])
   have ho:OR (fe φ n ⟨h.n,0,0⟩) ⟨h.n,0,0⟩ (.iter b cl []) (.mapIter (some p.B) cl #[] cl):=⟨rfl,p,a.ple _ _ _ c,rfl⟩;exact i _ (.pointer (some ⟨h.n,0+0,none⟩)) _ (a.ple _) (a.new ho aa) (.ptr (bz _ _ _))
  ·cases e
 ·cases e
end
def COk(P:Program)(f:FuncId)(g:List AV->AH->Nat->AR):Prop:=∀(args:List AV) (H:AH) (n:Nat) (v:AV) (H':AH) (n':Nat),g args H n=some (v,H',n')->
 ∀(φ:Ph) (h0 h:Hp) (a:Array Value) (K:KH),HR φ H n h0 h->VRs φ args a.toList->qi φ h0 v H' n' K->dH P f a h K
section
variable {P:Program} {call:AC} {φ:Ph} {H H':AH} {n n':Nat} {h0 h:Hp} {K:KH} {σ:AE} {ρ:Env} {r:AV}
theorem BZ(A:∀f,COk P f (call f))(d:HR φ H n h0 h)(i:FR φ σ ρ){o:Op}(e:F4 P call o σ H n=some (r,H',n'))(k:qi φ h0 r H' n' K):bG P o ρ h K:=by
 have quiet:∀{o:Op},bR o=false->(match ra P o σ H with
  |some v=>some (v,H,n)
  |none=>none)=some (r,H',n')->bG P o ρ h K:=λ{o} J e=>by
  unfold bG;rw[J];simp only[q1u,if_false];split at e
  ·rename_i v L;injection e with e;injection e with p j;injection j with j e3;subst p j e3;exact tJ d i L λu V=>k φ u h (PLe.refl _) d V
  ·cases e
 unfold F4 at e;split at e
 ·rename_i el;split at e
  ·rename_i z W;show p8 P el h K;unfold p8
   (try simp only[W])
   exact vy d (mi φ z) e k
  ·cases e
 ·rename_i el x;split at e
  ·rename_i X;show Ir el (ρ.ev x).cells h K;exact vy d ((i.ev x).cells X) e k
  ·cases e
 ·rename_i t len parts;split at e
  ·rename_i l J;obtain⟨el,C,m,w⟩:=zO i J;injection e with e;injection e with p j;injection j with j e3;subst p j e3
   show(match dW P t len (parts.toList.map λx=>(x.1,ρ.ev x.2))with
    |some (e,r)=>K (.slice (some ⟨h.n,0,none⟩) len len) ((h.put h.n (.cells r e (0,0))).to (h.n+1))
    |none=>False)
   rw[m];have Y:l.length=C.size:=by simpa using w.length
   have ho:OR (fe φ n ⟨h.n,0,C.size⟩) ⟨h.n,0,C.size⟩ (.cells l true) (.cells C el (0,0)):=
    ⟨C,el,(0,0),rfl,by simp only;omega,by simp only;omega,iZ _ _,λ_=>rfl,CR.mono (d.ple _) (CR.of' w)⟩
   exact k _ (.slice (some ⟨h.n,0+0,none⟩) len len) _ (d.ple _) (d.new ho aa) (.sl (bz _ _ _) (λ_=>rfl) (λq=>(q rfl).elim))
  ·cases e
 ·exact rf d (i.ev _) (i.ev _) e k
 ·exact ot d (i.ev _) e k
 ·exact ou d (i.ev _) (i.ev _) e k
 ·rename_i t;injection e with e;injection e with p j;injection j with j e3;subst p j e3;show K (.map (some h.n)) ((h.put h.n (.map #[] 0)).to (h.n+1));have ho:OR (fe φ n ⟨h.n,0,0⟩) ⟨h.n,0,0⟩ (.map []) (.map #[] 0):=⟨#[],0,rfl,rfl,.nil⟩;exact k _ _ _ (d.ple _) (d.new ho aa) (.map (bz _ _ _))
 ·exact jx d (i.ev _) (i.ev _) (i.ev _) e k
 ·exact jx d (i.ev _) (i.ev _) (i.ev _) e k
 ·exact zP d (i.ev _) e k
 ·rename_i c;have hm:=VRs.map i.ev c.args.toList;obtain⟨callee,args,B⟩:=c;dsimp only at e hm;split at e
  ·rename_i f;have D:=i.ev f;split at e
   ·rename_i g a cs q;rw[q]at D;obtain⟨Z,c',L,m,w⟩:=D.m6;show x8 P (ρ.ev f) (args.map ρ.ev) h K;rw[L];show dH P g (Z++args.map ρ.ev++c') h K;refine A g _ _ _ _ _ _ e φ h0 h _ K d ?_ k;rw[q3p,q3p,q3s];exact(m.append hm).append w
   ·cases e
  ·show iL P .append B.toList (args.toList.map ρ.ev) h K;split at e
   ·rename_i t u s x p j;rw[j]at hm;obtain⟨T,us,m,w,E⟩:=hm.cons_inv;obtain⟨U,ws,F,G,I⟩:=E.cons_inv;rw[F,I.aQ]at m;rw[p,m];exact lX d w G e k
   ·cases e
  ·show iL P .copy B.toList (args.toList.map ρ.ev) h K;split at e
   ·rename_i t u s x p j;rw[j]at hm;obtain⟨T,us,m,w,E⟩:=hm.cons_inv;obtain⟨U,ws,F,G,I⟩:=E.cons_inv;rw[F,I.aQ]at m;rw[p,m];exact ow d w G e k
   ·cases e
  ·show iL P .delete B.toList (args.toList.map ρ.ev) h K;split at e
   ·rename_i t u s x p j;rw[j]at hm;obtain⟨T,us,m,w,E⟩:=hm.cons_inv;obtain⟨U,ws,F,G,I⟩:=E.cons_inv;rw[F,I.aQ]at m;rw[p,m];exact qj d w G e k
   ·cases e
  ·rename_i M N O Q;cases callee with
   |value f=>exact(M f rfl).elim
   |invoke _ _=>exact quiet rfl e
   |builtin b=>cases b<;>first|exact quiet rfl e|exact(N rfl).elim|exact(O rfl).elim|exact(Q rfl).elim
 ·rename_i M N O Q q5 q6 q7 q8 q9 R S;cases o
  case alloc=>exact(M _ rfl).elim
  case box=>exact(N _ _ rfl).elim
  case buildSlice=>exact(O _ _ _ rfl).elim
  case store=>exact(Q _ _ _ rfl).elim
  case convert=>exact(q5 _ _ _ rfl).elim
  case makeSlice=>exact(q6 _ _ _ rfl).elim
  case mapUpdate=>exact(q8 _ _ _ _ rfl).elim
  case insert=>exact(q9 _ _ _ _ rfl).elim
  case range=>exact(R _ _ rfl).elim
  case next=>simp only[ra]at e;cases e
  case call=>exact(S _ rfl).elim
  case makeMap t x=>
   cases x with
   |none=>exact(q7 _ rfl).elim
   |some y=>simp only[ra]at e;cases e
  all_goals exact quiet rfl e
end
section
variable {P:Program} {call:AC} {φ:Ph} {H H':AH} {n n':Nat} {h0 h:Hp} {σ:AE} {ρ:Env}
def kg(ops:Array Oper)(j:Nat):Option Nat:=(ops[j]?).bind (·.dst)
def jX (ops:Array Oper) (val:Nat->AV) (σ:AE) (L:Nat->Bool):Nat->Nat->Option AV
 |0,t=>σ.get t
 |k+1,t=>if L k=true/\kg ops k=some t then some (val k)else jX ops val σ L k t
theorem je{ops:Array Oper}{val:Nat->AV}{L a:Nat->Bool}{t:Nat}:∀k,(∀j,j<k->kg ops j=some t->L j=a j)->jX ops val σ L k t=jX ops val σ a k t
 |0,_=>rfl
 |k+1,h=>by
  (try simp only[jX])
  rw[je k λj b=>h j (by omega)];by_cases hd:kg ops k=some t
  ·rw[h k (by omega) hd]
  ·rw[if_neg (λq=>hd q.2),if_neg (λq=>hd q.2)]
theorem vz{ops:Array Oper}{val:Nat->AV}{i t:Nat}:∀k,i<=k->jX ops val σ (λj=>decide (j<i)) k t=jX ops val σ (λ_=>true) i t
 |0,h=>by
  have:i=0:=by omega
  subst this;rfl
 |k+1,h=>by
  by_cases a:i=k+1
  ·subst a;exact je (k+1) λj b _=>by simp[b]
  ·(try simp only[jX])
   rw[if_neg (by simp;omega)];exact vz k (by omega)
theorem B0{ops:Array Oper}{val:Nat->AV}{L c:Nat->Bool}{i t:Nat}(a:∀j,j≠i->c j=L j)(hi:c i=true):∀k,i<k->(∀j,i<j->j<k->kg ops i=some t->kg ops j=some t->L j=false)->
 jX ops val σ c k t=if kg ops i=some t then some (val i)else jX ops val σ L k t
 |0,h,_=>by omega
 |k+1,h,d=>by
  (try simp only[jX])
  by_cases e:k=i
  ·subst e;by_cases hd:kg ops k=some t
   ·rw[if_pos ⟨hi,hd⟩,if_pos hd]
   ·rw[if_neg (λq=>hd q.2),if_neg hd,if_neg (λq=>hd q.2)];exact je k λj l _=>a j (by omega)
  ·have f:jX ops val σ c k t=if kg ops i=some t then some (val i)else jX ops val σ L k t:=B0 a hi k (by omega) λj g m=>d j g (by omega)
   rw[a k e,f];by_cases hd:kg ops i=some t
   ·by_cases b:kg ops k=some t
    ·have:=d k (by omega) (by omega) hd b;rw[this];simp
    ·rw[if_neg (λq=>b q.2),if_pos hd];simp[hd]
   ·rw[if_neg hd,if_neg hd]
end
section
variable {P:Program} {call:AC} {φ:Ph} {H H':AH} {n n':Nat} {h0 h:Hp} {K:KH} {σ:AE} {ρ:Env} {r:AV}
theorem least{p:Nat->Prop}:∀n,p n->∃m,p m/\∀k,p k->m<=k:=by
 intro n
 induction n using Nat.strongRecOn with
 |_ n c=>
  intro d;by_cases h:∃k,k<n/\p k
  ·obtain⟨k,a,e⟩:=h;exact c k a e
  ·exact⟨n,d,λk a=>q3g λb=>h ⟨k,b,a⟩⟩
theorem vA:∀(l:List AV) (k:Nat) (σ:AE) (t:Nat) (a:AV),(vo l k σ).get t=some a->(k<=t/\l[t-k]?=some a)∨σ.get t=some a
 | [],k,σ,t,a,e=> .inr e
 |v::l,k,σ,t,a,e=>by
  rcases vA l (k+1) _ t a e with⟨c,b⟩|h
  ·refine .inl ⟨by omega,?_⟩;obtain⟨d,rfl⟩:∃d,t=k+1+d:=⟨t-(k+1),by omega⟩;rw[show k+1+d-(k+1)=d from by omega]at b;rw[show k+1+d-k=d+1 from by omega];simpa using b
  ·rcases PM.ak eO σ k t a h with⟨rfl,b⟩|⟨_,b⟩
   ·exact .inl ⟨Z3 _,by simpa using b⟩
   ·exact .inr b
theorem B3{args:List AV}{c:Array Value}(h:VRs φ args c.toList):FR φ (vo args 0 .nil) (iM c.toList 0):=λt a e=>by
 rcases vA args 0 .nil t a e with⟨_,b⟩|b
 ·obtain⟨v,d,f⟩:=h.at b;rw[oh,if_pos (X5 _)];rw[q3c]at d⊢;rw[d];exact f
 ·cases b
theorem B4{c:List AV}{us:List Value}(h:VRs φ c us):VR φ (yf c) (BO us):=by
 match c,us,h with
 | [],us,h=>rw[h.aQ];exact .tup (cs:= #[]) .nil
 | [a],us,h=>
  obtain⟨v,ws,rfl,f,d⟩:=h.cons_inv;rw[d.aQ];exact f
 |a::b::l,us,h=>
  obtain⟨v,ws,h0,f,d⟩:=h.cons_inv;obtain⟨g,e,i,j,k⟩:=d.cons_inv;subst h0 i;exact .tup (cs:=(v::g::e).toArray) (by simpa using h)
def IQ(P:Program)(f:FuncId):Bool:=bM P f&&(match P.funcs[f]? with
 |some fn=>(match fn.body with
  |some c=>(aG c).all λt=>decide (t<fn.ntmps)
  |none=>false)
 |none=>false)
end
end Go.Proofs.YtflehenfikoniaaGreat
namespace Go.Proofs.YtflehenfikoniaaGreat
open Go Go.RowKit
def gY(w:World):Hp:=⟨λb=>w.heap[b]?,w.heap.size⟩
theorem Ez(w:World):Is w (gY w):=⟨rfl,λ_ _ h=>h⟩
open Go.ChangeShapes Go.WideShapes Go.ChangeAt
section
variable {H:Type} {enc:TypeId×Value->H} {P:Program} {W W':World}
theorem yk(l:laidOutB P=true)(m:Below W.heap.size W W'):∀(a:List TypeId) (f:List Value) (ds:List (DataW H)) (c:List MemPlace),(a.all λt=>P.readableRec t&&decide (t<P.types.size))=true->
 DataW.TrodAll enc P W 0 (λ_=>true) true a f ds c->(∀x∈c,x.block<W.heap.size)->DataW.TrodAll enc P W' 0 (λb=>decide (b<W.heap.size)) true a f ds c
 | [],f,ds,c,_,h,_=>by
  obtain⟨rfl,rfl,rfl⟩:=trodAll_nil h;exact h
 |t::a,f,ds,c,g,h,e=>by
  obtain⟨v,i,d,j,p,q,rfl,rfl,rfl,n,o⟩:=trodAll_cons h;simp only[q1p,Z9,decide_eq_true_eq]at g;exact trodAll_cons_mk (Below.trod l g.1.1 g.1.2 n m λx k=>e x (q1w _ k)) (yk l m a i j q g.2 o λx k=>e x (q3x _ k))
theorem K7 {f:Func} {s:ChangeSpec} {apart fresh handsOn:Bool} {args:Array Value} {ds gs:List (DataW H)} {before:List MemPlace} {h:TypeId} (j:laidOutB P=true)
 (l:(f.params.toList.all λt=>P.readableRec t&&decide (t<P.types.size))=true) (b:f.resultTypes= #[h]) (c:P.underlying h=some .bool) (m:s.vars=[])
 (a:s.fn H (ds++gs)={results:=[.lit (.bool true)],args:=ds}) (d:DataW.Whole enc P f.params.toList s.vars apart W args.toList ds gs before) (i:Below W.heap.size W W'):
 s.post enc P f apart fresh handsOn false W args (.bool true) W':=by
 have e:=d.lt;have g:=d;obtain⟨p,q,n,r,rfl,_,_⟩:=g;refine⟨ds,gs,p++q,[],p,[],d,?_,?_,?_,i.frame _,λk=>by cases k⟩
 ·rw[a,b];exact trodAll_mk1 (shut_bool c true)
 ·rw[a];exact yk j i _ _ _ _ l n λx o=>e x (q1w _ o)
 ·rw[a,m];rfl
end
end Go.Proofs.YtflehenfikoniaaGreat
namespace Go.Proofs.YtflehenfikoniaaGreat
open Go Go.RowKit
def K8 (k j:IntKind):Bool:=IntKind.rec (IntKind.rec true false false false false false false false j) (IntKind.rec false true false false false false false false j) (IntKind.rec false false true false false false false false j) (IntKind.rec false false false true false false false false j)
 (IntKind.rec false false false false true false false false j) (IntKind.rec false false false false false true false false j) (IntKind.rec false false false false false false true false j) (IntKind.rec false false false false false false false true j) k
def ltq (a b:Int):Bool:=Int.rec (λm=>Int.rec (λn=>Nat.blt m n) (λ_=>false) b) (λm=>Int.rec (λ_=>true) (λn=>Nat.blt n m) b) a
def eqq (a b:Int):Bool:=Int.rec (λm=>Int.rec (λn=>Nat.beq m n) (λ_=>false) b) (λm=>Int.rec (λ_=>false) (λn=>Nat.beq m n) b) a
def K9:AC:=λ_ _ _ _=>none
noncomputable def Rq (f:FuncId):Bool:=bM Tryz.prog f&&(match Tryz.prog.funcs[f]? with
 |some fn=>(match fn.body with
  |some c=>(aG c).all λt=>decide (t<fn.ntmps)
  |none=>false)
 |none=>false)
section
variable {r:AV×AH×Nat} {σ:AE} {H:AH} {n:Nat}
theorem La(k j:IntKind):K8 k j=decide (k=j):=by cases k<;>cases j<;>rfl
theorem Lb(a b:Int):ltq a b=decide (a<b):=by
 cases a with
 |ofNat m=>
  cases b with
  |ofNat n=>
   show Nat.blt m n=_;rw[q2j,q2h,decide_eq_true_eq];simp only[q1q];omega
  |negSucc n=>
   show false=_;symm;rw[decide_eq_false_iff_not];simp only[q1q,q4f];omega
 |negSucc m=>
  cases b with
  |ofNat n=>
   show true=_;symm;rw[decide_eq_true_eq];simp only[q1q,q4f];omega
  |negSucc n=>
   show Nat.blt n m=_;rw[q2j,q2h,decide_eq_true_eq];simp only[q4f];omega
theorem Lc(a b:Int):eqq a b=decide (a=b):=by
 cases a with
 |ofNat m=>
  cases b with
  |ofNat n=>
   show Nat.beq m n=_;rw[q2j,Nat.beq_eq,decide_eq_true_eq];simp only[q1q];omega
  |negSucc n=>
   show false=_;symm;rw[decide_eq_false_iff_not];simp only[q1q,q4f];omega
 |negSucc m=>
  cases b with
  |ofNat n=>
   show false=_;symm;rw[decide_eq_false_iff_not];simp only[q1q,q4f];omega
  |negSucc n=>
   show Nat.beq m n=_;rw[q2j,Nat.beq_eq,decide_eq_true_eq];simp only[q4f];omega
end
theorem HR.grow{φ:Ph}{H:AH}{n:Nat}{k h g:Hp}(a:HR φ H n k h)(d:∀b o,h.f b=some o->g.f b=some o)(hn:h.n<=g.n):HR φ H n k g:=
 ⟨λb p e=>⟨(a.dom b p e).1,q0t (a.dom b p e).2 hn⟩,λb o e=>
  (a.live b o e).imp id λ⟨p,l,i,m,r,s⟩=>⟨p,l,i,m,d _ _ r,s⟩,a.inj,λb o e=>⟨q0t (a.base b o e).1 hn,d _ _ (a.base b o e).2⟩,X9 a.size hn,λq j=>⟨⟨(a.frz q j).1.1.grow hn (by obtain⟨_,c,t,fz,i,_⟩:=(a.frz q j).1.1;rw[i,d _ _ i]),(a.frz q j).1.2⟩,(a.frz q j).2⟩,a.b7 hn (λ_ _ h=>⟨h,rfl⟩) (λ_ h=>h) (λ_ h=> .inl h) (λx Q B u v=>by obtain⟨o,ho⟩:=Q.ex _ _ _ B (a.sep x Q u).1 v;rw[ho,d _ _ ho]) λw y z A C D=> .inl ⟨w,y,z,A,C,D,rfl⟩⟩
theorem fP{h:Hp}(a:Wf h):HR Ph.no .nil 0 h h:=
 ⟨λ_ _ k=>(by cases k),λ_ _ k=>(by cases k),λ_ _ _ _ _ _ k=>(by cases k),λb o k=>⟨a b o k,k⟩,Z3 _,λ_ k=>k.elim,λ_ _ k=>by cases k⟩
section
variable {P:Program} {ops:Array Oper}
theorem Ld{m i:Nat}{o:Oper}(h:(ops.extract 0 m)[i]?=some o):i<m/\ops[i]?=some o:=by
 rw[Array.getElem?_extract]at h;split at h
 ·rename_i q;exact⟨by omega,by simpa using h⟩
 ·cases h
theorem Sm{m i:Nat}{o:Oper}(hi:i<m)(h:ops[i]?=some o):(ops.extract 0 m)[i]?=some o:=by
 have:=(Y9.1 h).1;rw[Array.getElem?_extract,if_pos (by omega)];simpa using h
theorem IS{m:Nat}{o:Oper}{b:Env}{h:Hp}{K:Env->Hp->Prop}(k:a8 P (ops.extract 0 m) o b h K):a8 P ops o b h K:=by
 unfold a8 at k⊢;split
 ·rename_i e;rw[e]at k;exact k
 ·rename_i j want e;rw[e]at k;dsimp only at k⊢;cases a:jC (ops.extract 0 m) j with
  |none=>rw[a]at k;exact k.elim
  |some t=>
   have:jC ops j=some t:=by
    unfold jC at a⊢;cases ho:(ops.extract 0 m)[j]? with
    |none=>rw[ho]at a;cases a
    |some c=>rw[ho]at a;rw[(Ld ho).2];exact a
   rw[a]at k;rw[this];exact k
theorem B5{l:Array Bool}{i j:Nat}(hi:i<l.size):(l.setIfInBounds i true).getD j false=if j=i then true else l.getD j false:=by
 rw[q2d,q2d,Array.getElem?_setIfInBounds];by_cases e:j=i
 ·subst e;simp[hi]
 ·rw[if_neg e,if_neg (Ne.symm e)]
theorem Le {m:Nat} (hm:m<=ops.size) {f:Env} {h:Hp} {N N':Env->Hp->Prop} (M:mZ ops=true)
 (Y:∀i,m<=i->i<ops.size->∀a:Array Bool,Down ops a->(∀o,ops[i]?=some o->∀e∈o.after,Region.binds .any e=true->a.getD e.on false=true)->∀j,j<i->a.getD j false=true)
 (hp:El P (ops.extract 0 m) f h N') (Z:∀f h,N' f h->kR P ops (ops.toList.drop m) f h N):El P ops f h N:=by
 obtain⟨_,I,h0,hs,O⟩:=hp;have B:(ops.extract 0 m).size=m:=by rw[Array.size_extract];omega
 rw[B]at h0 hs O
 have tail:∀(k:Nat) (a:Array Bool) (i:Nat) (o:Oper) (f:Env) (h:Hp),m<=k->ops[i]?=some o->a.size=ops.size->(∀j,j<ops.size->(a.getD j false=true<->j<k))->a.getD i false=false->Down ops a->
  (∀e∈o.after,Region.binds .any e=true->a.getD e.on false=true)->kR P ops (ops.toList.drop k) f h N->
  i=k/\a8 P ops o f h λQ J=>kR P ops (ops.toList.drop (k+1)) Q J N:=λk a i o f h u ho t g p r c w=>by
  have K:i<ops.size:=(Y9.1 ho).1
  have R:k<=i:=by
   refine q3g λq=>?_
   rw[(g i K).2 q]at p;cases p
  have b:=Y i (by omega) K a r (λS d e x y=>by rw[ho]at d;injection d with d;subst d;exact c e x y)
  have T:i=k:=by
   refine Nat.le_antisymm (q3g λq=>?_) R;have:=(g k (by omega)).1 (b k q);omega
  subst T;refine⟨rfl,?_⟩
  have e:ops.toList.drop i=o::ops.toList.drop (i+1):=by
   have h2:ops.toList[i]?=some o:=by simpa using ho
   obtain⟨h3,h4⟩:=X6.1 h2;rw[q0d h3,h4]
  rw[e]at w;exact mY w
 refine⟨M,λa f h=>(∃s:Array Bool,s.size=m/\(∀j,j<m->s.getD j false=a.getD j false)/\(∀j,m<=j->a.getD j false=false)/\I s f h)∨
  ∃k,m<=k/\k<=ops.size/\(∀j,j<ops.size->(a.getD j false=true<->j<k))/\kR P ops (ops.toList.drop k) f h N,?_,?_,?_⟩
 ·refine .inl ⟨Array.replicate m false,by simp,λj _=>?_,λj _=>?_,h0⟩
  ·simp[Array.getD]
  ·simp[Array.getD]
 ·intro a i o f h t r ho p c U hw;have K:i<ops.size:=(Y9.1 ho).1;have xx:∀j,(a.setIfInBounds i true).getD j false=if j=i then true else a.getD j false:=λj=>B5 (by omega)
  rcases U with⟨s,C,g,l,L⟩|⟨k,u,D,g,w⟩
  ·by_cases E:i<m
   ·have hds:Down (ops.extract 0 m) s:=λj S d n e x y=>by
     obtain⟨V,W⟩:=Ld d;rw[g j V]at n;have z:=r j S W n e x y
     have A:e.on<m:=by
      refine Nat.lt_of_not_le λq=>?_
      rw[l e.on q]at z;cases z
     rw[g e.on A];exact z
    have F:=hs s i o f h C hds (Sm E ho) (by rw[g i E];exact p) (λe x y=>by
     have z:=c e x y
     have A:e.on<m:=by
      refine Nat.lt_of_not_le λq=>?_
      rw[l e.on q]at z;cases z
     rw[g e.on A];exact z) L hw
    refine fo (λv J u=> .inl ⟨s.setIfInBounds i true,by simpa using C,λj n=>?_,λj n=>?_,u⟩) (IS F)
    ·rw[xx,B5 (by omega),g j n]
    ·rw[xx,if_neg (by omega)];exact l j n
   ·have b:=Y i (by omega) K a r (λS d e x y=>by rw[ho]at d;injection d with d;subst d;exact c e x y);have G:kR P ops (ops.toList.drop m) f h N:=Z f h (O s f h C (λj n=>by rw[g j n];exact b j (by omega)) L);obtain⟨e,F⟩:=tail m a i o f h (Z3 _) ho t (λj n=>⟨λq=>Nat.lt_of_not_le λq2=>(by rw[l j q2]at q;cases q),λq=>b j (by omega)⟩) p r c G;refine fo (λv J u=> .inr ⟨m+1,by omega,by omega,λj n=>?_,u⟩) F;rw[xx];by_cases H:j=i
    ·rw[if_pos H];simp;omega
    ·rw[if_neg H];refine⟨λq=>?_,λq=>b j (by omega)⟩;refine Nat.lt_of_not_le λq2=>?_
     rw[l j (by omega)]at q;cases q
  ·obtain⟨e,F⟩:=tail k a i o f h u ho t g p r c w;refine fo (λv J X=> .inr ⟨k+1,by omega,by omega,λj n=>?_,X⟩) F;rw[xx];by_cases H:j=i
   ·rw[if_pos H];simp;omega
   ·rw[if_neg H,g j n];omega
 ·intro a f h t b U;rcases U with⟨s,C,g,l,L⟩|⟨k,u,D,g,w⟩
  ·have hms:m=ops.size:=by
    refine Nat.le_antisymm hm (q3g λq=>?_);have:=l m (Z3 _);rw[b m q]at this;cases this
   have:=Z f h (O s f h C (λj n=>by rw[g j n];exact b j (by omega)) L);rw[q3f (by simp;omega)]at this;exact this
  ·have hks2:k=ops.size:=by
    refine Nat.le_antisymm D (q3g λq=>?_);have:=(g k q).1 (b k q);omega
   rw[q3f (by simp;omega)]at w;exact w
def IT(ops:Array Oper)(m:Nat):Array Oper:=⟨ops.toList.take m⟩
theorem OH(ops:Array Oper)(m:Nat):IT ops m=ops.extract 0 m:=by
 apply q2q;simp[IT]
end
abbrev PK:=AV->AH->Nat->Prop
abbrev CP:=FuncId->List AV->AH->Nat->PK->Prop
abbrev KP:=AE->AH->Nat->Prop
def cm{b:Type}(o:Option b)(k:b->Prop):Prop:=match o with
 |some a=>k a
 |none=>False
def ff(b:Bool)(t e:Prop):Prop:=match b with
 |true=>t
 |false=>e
def cn(φ:Ph)(b:Hp)(κ:PK)(K:KH):Prop:=∀(a:Ph) (v:AV) (H:AH) (n:Nat) (u:Value) (g:Hp),PLe φ a->HR a H n b g->VR a v u->κ v H n->K u g
def OI(y:Nat)(run:List AV->AH->Nat->PK->Prop):Prop:=∀(args:List AV) (H:AH) (n:Nat) (b:PK),run args H n b->∀(a:Ph) (c h:Hp) (d:Array Value) (K:KH),HR a H n c h->VRs a args d.toList->cn a c b K->sF Tryz.prog y d h K
inductive Yld(y:Nat)(args:List AV)(H:AH)(n:Nat)(κ:PK):Prop where
 |mk (run:List AV->AH->Nat->PK->Prop) (ok:OI y run) (h:run args H n κ)
def Lf(v:AV):Option Nat:=match v with
 | .any (.func (.yield y) ⟨[]⟩ ⟨[]⟩)=>some y
 |_=>none
def yOr(o:Option (Nat×List AV))(A:Nat->List AV->Prop)(B:Prop):Prop:=match o with
 |some (y,xs)=>A y xs
 |none=>B
structure ae(b:Bool)(A B:Prop):Prop where
 t:b=true->A
 f:b=false->B
theorem ae.dec{p:Prop} [Decidable p]{A B:Prop}(t:p->A)(f:¬p->B):ae (decide p) A B:=⟨λh=>t (of_decide_eq_true h),λh=>f (of_decide_eq_false h)⟩
theorem ae.c6{p:Prop} [Decidable p]{A B:Prop}(t:¬p->A)(f:p->B):ae (!decide p) A B:=⟨λh=>t (by simpa using h),λh=>f (by simpa using h)⟩
inductive Ask{α:Type}(o:Option α)(κ:α->Prop):Prop where
 |mk (a:α) (h:o=some a) (k:κ a)
inductive Idx(i:Int)(len:Nat)(κ:Nat->Prop):Prop where
 |mk (j:Nat) (h:i=(j:Int)) (lt:j<len) (k:κ j)
def hd:AV->AV
 | .si k n=> .int k n
 | .sb b=> .bool b
 | .ss s=> .str s
 | .sy b o n c k=> .sl b o n c k
 |v=>v
def mk:AV->AV
 | .int k n=> .si k n
 | .bool b=> .sb b
 | .str s=> .ss s
 | .sl b o n c k=> .sy b o n c k
 |v=>v
def isS:AV->Bool
 | .si _ _=>true
 | .sb _=>true
 | .ss _=>true
 | .sy _ _ _ _ _=>true
 |_=>false
def hdK:AV->AV
 | .agg l=> .agg (l.map hd)
 |v=>hd v
def IU:AV->Bool
 | .agg l=>l.any isS
 |v=>isS v
theorem ae.sb{A B:Prop}{b:Bool}(t:b=true->A)(f:b=false->B):ae b A B:=⟨t,f⟩
theorem ae.nsb{A B:Prop}{b:Bool}(t:b=false->A)(f:b=true->B):ae (!b) A B:=⟨λh=>t (by simpa using h),λh=>f (by simpa using h)⟩
def IV(op:BinOp)(k j:IntKind)(a b:Int)(c:Bool)(κ:AV->Prop):Prop:=match op with
 | .shl=>(match c with
  |true=>ff (ltq b 0) False (κ (.si k (k.wrap (a*2^min b.toNat k.bits))))
  |false=>0<=b/\κ (.si k (k.wrap (a*2^min b.toNat k.bits))))
 | .shr=>(match c with
  |true=>ff (ltq b 0) False (κ (.si k (a.fdiv (2^min b.toNat k.bits))))
  |false=>0<=b/\κ (.si k (a.fdiv (2^min b.toNat k.bits))))
 |op=>ff (K8 k j) (match op with
  | .add=>κ (.si k (k.wrap (a+b)))
  | .sub=>κ (.si k (k.wrap (a-b)))
  | .mul=>κ (.si k (k.wrap (a*b)))
  | .quo=>(match c with
   |true=>ff (eqq b 0) False (κ (.si k (k.wrap (a.tdiv b))))
   |false=>b≠0/\κ (.si k (k.wrap (a.tdiv b))))
  | .rem=>(match c with
   |true=>ff (eqq b 0) False (κ (.si k (a.tmod b)))
   |false=>b≠0/\κ (.si k (a.tmod b)))
  | .and=>κ (.si k (bZ .and k a b))
  | .or=>κ (.si k (bZ .or k a b))
  | .xor=>κ (.si k (bZ .xor k a b))
  | .andNot=>κ (.si k (bZ .andNot k a b))
  | .eql=>κ (.sb (decide (a=b)))
  | .neq=>κ (.sb (!decide (a=b)))
  | .lss=>κ (.sb (decide (a<b)))
  | .leq=>κ (.sb (decide (a<=b)))
  | .gtr=>κ (.sb (decide (b<a)))
  | .geq=>κ (.sb (decide (b<=a)))
  |_=>False) False
def IW(op:BinOp)(a b:List Nat)(κ:AV->Prop):Prop:=match op with
 | .add=>a.length+b.length<=9223372036854775807/\κ (.ss (a++b))
 | .eql=>κ (.sb (dw a b))
 | .neq=>κ (.sb (!dw a b))
 | .lss=>κ (.sb (ltL a b))
 | .leq=>κ (.sb (ltL a b||dw a b))
 | .gtr=>κ (.sb (!(ltL a b||dw a b)))
 | .geq=>κ (.sb (!ltL a b))
 |_=>False
def Lg (op:BinOp) (t:TypeId) (a b:Bool) (κ:AV->Prop):Prop:=ff (uz Tryz.prog t) (match op with
 | .eql=>κ (.sb (a==b))
 | .neq=>κ (.sb (!(a==b)))
 |_=>False) False
def IX (op:BinOp) (t:TypeId) (x y:AV) (H:AH) (κ:AV->Prop):Prop:=match x,y with
 | .int k a,.int j b=>cm (OE op k j a b) κ
 | .int k a,.si j b=>IV op k j a b false κ
 | .si k a,.int j b=>IV op k j a b true κ
 | .si k a,.si j b=>IV op k j a b false κ
 | .ss a,.ss b=>IW op a b κ
 | .ss a,.str b=>IW op a b κ
 | .str a,.ss b=>IW op a b κ
 | .sb a,.sb b=>Lg op t a b κ
 | .sb a,.bool b=>Lg op t a b κ
 | .bool a,.sb b=>Lg op t a b κ
 | .agg xs,.agg c=>ff (xs.any isS||c.any isS) (cm (xV Tryz.prog op t (.agg (xs.map hd)) (.agg (c.map hd)) H) λv=>κ (mk v)) (cm (xV Tryz.prog op t (.agg xs) (.agg c) H) κ)
 |x,y=>cm (xV Tryz.prog op t x y H) κ
def unP (op:UnOp) (x:AV) (κ:AV->Prop):Prop:=match op,x with
 | .not,.sb b=>κ (.sb (!b))
 | .neg,.si k n=>κ (.si k (k.wrap (0-n)))
 | .xor,.si k n=>κ (.si k (bZ .xor k (if k.signed then-1 else k.max) n))
 |op,x=>cm (eun op x) κ
def B6(c:AV)(A B:Prop):Prop:=match c with
 | .bool true=>A
 | .bool false=>B
 | .sb q=>ae q A B
 |_=>False
def pc(P:Program)(t:TypeId):Option IntKind:=match P.underlying t with
 |some (.int k)=>some k
 |_=>none
def un3 (κ:PK) (r:AV×AH×Nat):Prop:=Prod.rec (λv q=>Prod.rec (λH n=>κ v H n) q) r
def B7 (o:Op) (σ:AE) (H:AH) (n:Nat) (κ:PK):Prop:=cm (F4 Tryz.prog K9 o σ H n) (un3 κ)
def mmP (mx:Bool) (x y:AV) (κ:AV->Prop):Prop:=match x,y with
 | .si k a,.si _ b=>κ (.si k (if mx then max a b else min a b))
 | .si k a,.int _ b=>κ (.si k (if mx then max a b else min a b))
 | .int k a,.si _ b=>κ (.si k (if mx then max a b else min a b))
 |x,y=>cm (emm mx x y) κ
def IY (t:TypeId) (x:AV) (H:AH) (κ:AV->Prop):Prop:=match x with
 | .ss _=>cm (IL Tryz.prog t (hd x) H) λv=>κ (mk v)
 | .sy _ _ _ _ _=>cm (IL Tryz.prog t (hd x) H) λv=>κ (mk v)
 | .rw _ _ n _ _=>ff (vk Tryz.prog t) (κ (.si .i64 n)) False
 | .fr n _ _=>ff (vk Tryz.prog t) (κ (.si .i64 n)) False
 |_=>cm (IL Tryz.prog t x H) κ
def ixP (ix:AV) (len:Nat) (s:Bool) (κ:Nat->Prop):Prop:=match ix,s with
 | .si _ i,_=>Idx i len κ
 | .int _ i,true=>Idx i len κ
 |_,_=>cm (eix ix len) κ
def jf (t:TypeId) (x ix:AV) (κ:AV->Prop):Prop:=match Tryz.prog.underlying t,x with
 |some (.slice e),.sl b o n _ _=>cm (aB Tryz.prog e) λk=>ixP ix n false λi=>κ (.ptr b (o+i*k))
 |some (.slice e),.sy b o n _ _=>cm (aB Tryz.prog e) λk=>ixP ix n true λi=>κ (.ptr b (o+i*k))
 |some (.slice e),.rw b o n _ _=>cm (aB Tryz.prog e) λk=>ixP ix n true λi=>κ (.ptr b (o+i*k))
 |some (.slice e),.fr n a l=>cm (aB Tryz.prog e) λk=>ff (Nat.beq k a) (ixP ix n true λi=>κ (.fa l (i*k))) False
 |some (.array len e),.ptr b o=>cm (aB Tryz.prog e) λk=>ixP ix len false λi=>κ (.ptr b (o+i*k))
 |_,_=>False
def sS (t:TypeId) (x ix:AV) (κ:AV->Prop):Prop:=match Tryz.prog.underlying t,x with
 |some (.array len e),.agg l=>cm (aB Tryz.prog e) λk=>ixP ix len false λi=>cm (yd Tryz.prog e l (i*k)) κ
 |some .string,.str s=>ixP ix s.length false λi=>cm (nth s i) λc=>(match ix with
  | .int _ _=>κ (.int .u8 (Int.ofNat c))
  |_=>κ (.si .u8 (Int.ofNat c)))
 |some .string,.ss s=>ixP ix s.length true λi=>Ask (nth s i) λc=>κ (.si .u8 (Int.ofNat c))
 |_,_=>False
def vB (l:List AV) (t:TypeId) (o:Nat) (κ:AV->Prop):Prop:=match nH Tryz.prog t with
 |some false=>cm (nth l o) κ
 |some true=>cm (aB Tryz.prog t) λm=>cm (bk l o m) λr=>κ (.agg r)
 |none=>False
def tK (t:TypeId) (a:AV) (H:AH) (κ:AV->Prop):Prop:=match a with
 | .ptr b o=>(match H.get b with
  |some (.cells l _)=>vB l t o κ
  |some (.ro l)=>vB l t o κ
  |_=>False)
 | .fa l o=>vB l t o κ
 |_=>False
def ng (t:TypeId) (a v:AV) (H:AH) (n:Nat) (κ:PK):Prop:=match a with
 | .ptr b o=>(match H.get b with
  |some (.cells l z)=>cm (aB Tryz.prog t) λs=>ff (Nat.beq v.cells.length s&&(okC v&&v.cells.all oi)) (cm (ft l o v.cells) λc=>κ cT (H.set (some (.cells c z)) aa b) n) False
  |_=>False)
 |_=>False
def mk3 (κ:PK) (r:AV×AH×Nat):Prop:=un3 (λv H n=>κ (mk v) H n) r
def isR:AV->Bool
 | .rw _ _ _ _ _=>true
 | .fr _ _ _=>true
 |_=>false
inductive RSl(lo hi mx:Option AV)(n:Nat)(κ:Nat->Nat->Prop):Prop where
 |mk (l h:Nat) (hl:mc (lo.map hd) 0=some l) (hh:mc (hi.map hd) n=some h) (hm:mx=none∨(hi.isSome=true/\mc (mx.map hd) 0=some h)) (h1:l<=h) (h2:h<=n) (k:κ l h)
def rwO(o k l:Nat):Option AV->Nat
 |none=>o
 |some _=>o+l*k
def rwN(n l h:Nat):Option AV->Option AV->Nat
 |none,none=>n
 |some _,none=>n-l
 |none,some _=>h
 |some _,some _=>h-l
def rwX(x:Nat):Option AV->Option AV->Nat
 |none,_=>x
 |some _,none=>(match x with
  |0=>0
  |1=>0
  |x+2=>x+2)
 |some _,some _=>(match x with
  |4=>4
  |_=>1)
def F6(b o n k x:Nat)(lo hi mx:Option AV)(l h:Nat):AV:= .rw b (rwO o k l lo) (rwN n l h lo hi) k (rwX x hi mx)
def Lh (t:TypeId) (b o n k x:Nat) (lo hi mx:Option AV) (κ:AV->Prop):Prop:=match Tryz.prog.underlying t with
 |some (.slice e)=>cm (aB Tryz.prog e) λes=>ff (Nat.beq es k) (RSl lo hi mx n λl h=>κ (F6 b o n k x lo hi mx l h)) False
 |_=>False
def frL(k:Nat)(L:List AV)(l h:Nat):Option AV->Option AV->List AV
 |none,none=>L
 |some _,none=>L.drop (l*k)
 |none,some _=>L.take (h*k)
 |some _,some _=>(L.drop (l*k)).take ((h-l)*k)
def Li (t:TypeId) (n k:Nat) (L:List AV) (lo hi:Option AV) (κ:AV->Prop):Prop:=match Tryz.prog.underlying t with
 |some (.slice e)=>cm (aB Tryz.prog e) λes=>ff (Nat.beq es k) (RSl lo hi none n λl h=>κ (.fr (rwN n l h lo hi) k (frL k L l h lo hi))) False
 |_=>False
inductive Nxt(H:AH)(a:AV)(s:Bool)(κ:AV->AH->Prop):Prop where
 |mk (it b m:Nat) (seen:List Nat) (es:List (AV×AV)) (hs:s=false) (ha:a= .ptr it 0) (hi:H.get it=some (.iter b m seen)) (hb:H.get b=some (.map es)) (hm:es.length=m)
  (uu:(∀i,i<m->i∈seen)->κ (.tup [.bool false]) H)
  (step:∀i e,es[i]?=some e->i∉seen->κ (.tup [.bool true,Go.Proofs.YtflehenfikoniaaGreat.mk e.1,e.2]) (H.set (some (.iter b m (seen++ [i]))) aa it))
 |mp (it b m:Nat) (seen:List Nat) (es:List (AV×AV)) (bs:List Nat) (hs:s=false) (ha:a= .ptr it 0) (hi:H.get it=some (.iter b m seen)) (hb:H.get b=some (.mp es bs m)) (hm:∀x∈bs,x<m)
  (uu:(∀x∈bs,x∈seen)->κ (.tup [.bool false]) H)
  (step:∀(i:Nat) e x,es[i]?=some e->bs[i]?=some x->x∉seen->κ (.tup [.bool true,Go.Proofs.YtflehenfikoniaaGreat.mk e.1,e.2]) (H.set (some (.iter b m (seen++ [x]))) aa it))
inductive Ent(H:AH)(a:AV)(κ:AV->Prop):Prop where
 |mk (it b m i:Nat) (seen:List Nat) (es:List (AV×AV)) (e:AV×AV) (ha:a= .ptr it 0) (hi:H.get it=some (.iter b m (seen++ [i]))) (hb:H.get b=some (.map es)) (hm:es.length=m) (he:es[i]?=some e)
  (k:κ (.tup [Go.Proofs.YtflehenfikoniaaGreat.mk e.1,e.2]))
 |mp (it b m i x:Nat) (seen:List Nat) (es:List (AV×AV)) (bs:List Nat) (e:AV×AV) (ha:a= .ptr it 0) (hi:H.get it=some (.iter b m (seen++ [x]))) (hb:H.get b=some (.mp es bs m)) (hnd:bs.Nodup) (hx:bs[i]?=some x) (he:es[i]?=some e)
  (k:κ (.tup [Go.Proofs.YtflehenfikoniaaGreat.mk e.1,e.2]))
inductive zQ(H:AH)(k:Nat):AV->Nat->List AV->Prop where
 |rw {b o n k' x:Nat} {l new:List AV} (hb:H.get b=some (.ro l)∨∃z,H.get b=some (.cells l z)) (hs:bk l o (n*k)=some new):zQ H k (.rw b o n k' x) n new
 |old {x:AV} {m:Nat} {new:List AV} (e:OG H k (hd x)=some (m,new)):zQ H k x m new
 |fr {n:Nat} {l:List AV}:zQ H k (.fr n k l) n l
inductive OJ(H:AH)(k:Nat):AV->Nat->List AV->AH->Bool->Prop where
 |nsl:OJ H k .nsl 0 [] H true
 |rw {b o n:Nat} {l old:List AV} {z:Bool} (hb:H.get b=some (.cells l z)) (hs:bk l o (n*k)=some old):OJ H k (.rw b o n k 0) n old (H.set none aa b) z
 |sl {b o n c:Nat} {l old:List AV} {z:Bool} (hb:H.get b=some (.cells l z)) (hs:bk l o (n*k)=some old) (hn:n<=c) (hc:o+c*k<=l.length):OJ H k (.sl b o n c 0) n old (H.set none aa b) z
structure RTy(t u:TypeId)(k by':Nat):Prop where
 h:∃e ud z,Tryz.prog.underlying t=some (.slice e)/\Tryz.prog.underlying u=some ud/\(∀q,ud≠ .int q)/\aB Tryz.prog e=some k/\kl Tryz.prog e=some by'/\cS Tryz.prog e=some z/\z.cells.size=k/\0<by'/\0<k
inductive bF(t u:TypeId)(s x:AV)(H:AH)(n:Nat)(κ:PK):Prop where
 |grow (k by' m sn:Nat) (new old:List AV) (G:AH) (z:Bool) (ty:RTy t u k by') (src:zQ H k x m new) (hnew:new.length=m*k) (hone:new.all oi=true) (row:OJ H k s sn old G z) (big:(sn+m)*by'<=140737488355328)
  (k':κ (.rw n 0 (sn+m) k 0) (G.set (some (.cells (old++new) z)) aa n) (n+1))
 |exact(k by' m b o sn:Nat) (new old:List AV) (hs:s= .rw b o sn k 1) (ty:RTy t u k by') (src:zQ H k x m new) (hnew:new.length=m*k) (hone:new.all oi=true) (hm:m≠0) (row:zQ H k s sn old) (big:(sn+m)*by'<=140737488355328)
  (k':κ (.rw n 0 (sn+m) k 0) (H.set (some (.cells (old++new) true)) aa n) (n+1))
 |b7 (k by' b o sn q:Nat) (l:List AV) (z:Bool) (hs:s= .rw b o sn k q) (hq:q≠4) (ty:RTy t u k by') (src:zQ H k x 0 []) (hb:H.get b=some (.cells l z)) (k':κ (.rw b o sn k q) H n)
def F7 (t u:TypeId) (s x:AV) (H:AH) (n:Nat) (κ:PK):Prop:=ff (isR s||isR x) (bF t u s x H n κ) (ff (isS s||isS x) (Ask (rb Tryz.prog t u (hd s) (hd x) H n) (mk3 κ)) (cm (rb Tryz.prog t u s x H n) (un3 κ)))
inductive F8(t:TypeId)(s x:AV)(H:AH)(n:Nat)(κ:PK):Prop where
 |mk (k m dn b o c kk bx ox kx qx:Nat) (l lx new l':List AV) (z:Bool) (hs:hd s= .sl b o dn c kk) (hx:x= .rw bx ox m kx qx) (hq:qx≠4) (ty:∃e,Tryz.prog.underlying t=some (.slice e)/\aB Tryz.prog e=some k)
  (hbx:H.get bx=some (.ro lx)∨∃z,H.get bx=some (.cells lx z)) (hsx:bk lx ox (m*k)=some new) (hb:H.get b=some (.cells l z)) (hone:(new.take (min m dn*k)).all oi=true) (hset:ft l o (new.take (min m dn*k))=some l')
  (k':κ (.si .i64 ((min m dn:Nat):Int)) (H.set (some (.cells l' z)) aa b) n)
def Rr (t:TypeId) (s x:AV) (H:AH) (n:Nat) (κ:PK):Prop:=ff (isR x) (F8 t s x H n κ) (ff (isS s||isS x) (Ask (BS Tryz.prog t (hd s) (hd x) H n) (mk3 κ)) (cm (BS Tryz.prog t s x H n) (un3 κ)))
def U2 (t:TypeId) (l c:AV) (H:AH) (n:Nat) (κ:PK):Prop:=ff (isS l||isS c) (Ask (vn Tryz.prog t (hd l) (hd c) H n) (mk3 κ)) (cm (vn Tryz.prog t l c H n) (un3 κ))
def ib (t:TypeId) (x:AV) (lo hi mx:Option AV) (κ:AV->Prop):Prop:=match x with
 | .rw b o n k q=>Lh t b o n k q lo hi mx κ
 | .fr n k q=>(match mx with
  |none=>Li t n k q lo hi κ
  |some _=>False)
 |x=>ff (isS x||(sJ lo||(sJ hi||sJ mx))) (Ask (jc Tryz.prog t (hd x) (lo.map hd) (hi.map hd) (mx.map hd)) λv=>κ (mk v)) (cm (jc Tryz.prog t x lo hi mx) κ)
where sJ:Option AV->Bool
 |some v=>isS v
 |none=>false
def tM (c:Call) (call:CP) (σ:AE) (H:AH) (n:Nat) (κ:PK):Prop:=match c.callee with
 | .value f=>(match eev σ f with
  | .fn g a cs=>call g (a++c.args.toList.map (eev σ)++cs) H n κ
  |_=>False)
 | .builtin .len=>(match c.argTypes.toList,c.args.toList.map (eev σ)with
  | [t],[x]=>IY t x H λv=>κ v H n
  |_,_=>False)
 | .builtin .min=>(match c.args.toList.map (eev σ)with
  | [x,y]=>mmP false x y λv=>κ v H n
  | [x,y,z]=>mmP false x y λu=>mmP false u z λv=>κ v H n
  |_=>False)
 | .builtin .max=>(match c.args.toList.map (eev σ)with
  | [x,y]=>mmP true x y λv=>κ v H n
  | [x,y,z]=>mmP true x y λu=>mmP true u z λv=>κ v H n
  |_=>False)
 | .builtin .append=>(match c.argTypes.toList,c.args.toList.map (eev σ)with
  | [t,u],[s,x]=>F7 t u s x H n κ
  |_,_=>False)
 | .builtin .copy=>(match c.argTypes.toList,c.args.toList.map (eev σ)with
  | [t,_],[s,x]=>Rr t s x H n κ
  |_,_=>False)
 | .builtin .delete=>(match c.argTypes.toList,c.args.toList.map (eev σ)with
  | [t,_],[s,x]=>ff (IU x) (Ask (Es Tryz.prog t s (hdK x) H n) (mk3 κ)) (cm (Es Tryz.prog t s x H n) (un3 κ))
  |_,_=>False)
 |_=>False
inductive U3(src dst:TypeId)(x:AV)(H:AH)(κ:AV->Prop):Prop where
 |mk (b o n k q:Nat) (l new:List AV) (s:List Nat) (hx:x= .rw b o n k q) (hq:q≠4) (ty:∃e,Tryz.prog.underlying src=some (.slice e)/\Tryz.prog.underlying e=some (.int .u8)/\Tryz.prog.underlying dst=some .string) (hb:H.get b=some (.ro l)∨∃z,H.get b=some (.cells l z)) (hl:bk l o n=some new) (hs:kU new=some s) (k':κ (.ss s))
def Rs (src dst:TypeId) (x:AV) (H:AH) (n:Nat) (κ:PK):Prop:=match x with
 | .si _ a=>(match pc Tryz.prog src,pc Tryz.prog dst with
  |some _,some k=>κ (.si k (k.wrap a)) H n
  |_,_=>False)
 | .rw _ _ _ _ _=>U3 src dst x H λv=>κ v H n
 |_=>ff (isS x) (Ask (BR Tryz.prog src dst (hd x) H n) (mk3 κ)) (cm (BR Tryz.prog src dst x H n) (un3 κ))
def vC (o:Op) (call:CP) (σ:AE) (H:AH) (n:Nat) (κ:PK):Prop:=match o with
 | .move x=>κ (eev σ x) H n
 | .assign x=>κ (eev σ x) H n
 | .pick c a b=>B6 (eev σ c) (κ (eev σ a) H n) (κ (eev σ b) H n)
 | .load t a=>tK t (eev σ a) H λv=>κ v H n
 | .store t a x=>ng t (eev σ a) (eev σ x) H n κ
 | .binOp op t x y _=>IX op t (eev σ x) (eev σ y) H λv=>κ v H n
 | .unOp op _ x=>unP op (eev σ x) λv=>κ v H n
 | .indexAddr t x ix=>jf t (eev σ x) (eev σ ix) λv=>κ v H n
 | .index t x ix=>sS t (eev σ x) (eev σ ix) λv=>κ v H n
 | .slice t x lo e mx=>ib t (eev σ x) (lo.map (eev σ)) (e.map (eev σ)) (mx.map (eev σ)) λv=>κ v H n
 | .makeSlice t l c=>U2 t (eev σ l) (eev σ c) H n κ
 | .convert s d x=>Rs s d (eev σ x) H n κ
 | .call c=>tM c call σ H n κ
 | .lookup t m k ok=>ff (IU (eev σ k)) (Ask (jw Tryz.prog t (eev σ m) (hdK (eev σ k)) ok H) λv=>κ v H n) (cm (jw Tryz.prog t (eev σ m) (eev σ k) ok H) λv=>κ v H n)
 | .next it s=>Nxt H (eev σ it) s λv H=>κ v H n
 | .entry it=>Ent H (eev σ it) λv=>κ v H n
 | .mapUpdate t m k x=>ff (IU (eev σ k)) (Ask (lB Tryz.prog t (eev σ m) (hdK (eev σ k)) (eev σ x) H n) (mk3 κ)) (cm (lB Tryz.prog t (eev σ m) (eev σ k) (eev σ x) H n) (un3 κ))
 |o=>B7 o σ H n κ
def opP (ops:Array Oper) (o:Oper) (call:CP) (σ:AE) (H:AH) (n:Nat) (k:KP):Prop:=match o.guard with
 |none=>vC o.op call σ H n λv H n=>k (cU σ o.dst v) H n
 |some (j,want)=>(match jC ops j with
  |none=>False
  |some t=>(match aj (pa t) σ with
   | .bool q=>(match q==want with
    |true=>vC o.op call σ H n λv H n=>k (cU σ o.dst v) H n
    |false=>k (cU σ o.dst cT) H n)
   | .sb q=>(match want with
    |true=>ae q (vC o.op call (cU σ (some t) (.bool true)) H n λv H n=>k (cU (cU σ (some t) (.bool true)) o.dst v) H n) (k (cU (cU σ (some t) (.bool false)) o.dst cT) H n)
    |false=>ae q (k (cU (cU σ (some t) (.bool true)) o.dst cT) H n) (vC o.op call (cU σ (some t) (.bool false)) H n λv H n=>k (cU (cU σ (some t) (.bool false)) o.dst v) H n))
   | .tup _=>k (cU σ o.dst cT) H n
   |_=>False))
def uo (ops:Array Oper) (l:List Oper):CP->AE->AH->Nat->KP->Prop:=
 List.rec (λ_ a H n k=>k a H n) (λo _ b call a H n k=>opP ops o call a H n λa H n=>b call a H n k) l
def OK (o:Oper) (σ:AE):Option (Nat×List AV):=match valOf o with
 |some (f,xs)=>(match Lf (eev σ f)with
  |some y=>some (y,xs.toList.map (eev σ))
  |none=>none)
 |none=>none
def IZ (ops:Array Oper) (l:List Oper):CP->AE->AH->Nat->KP->Prop:=
 List.rec (λ_ a H n k=>k a H n) (λo _ b call a H n k=>yOr (OK o a) (λy xs=>Yld y xs H n λv H n=>b call (cU a o.dst v) H n k) (opP ops o call a H n λa H n=>b call a H n k)) l
abbrev XP:=CP->AE->AH->Nat->KP->(Nat->KP)->KP->Prop
def Sn (c:Operand) (q:Bool) (σ:AE):AE:=match c with
 | .tmp t=>cU σ (some t) (.bool q)
 |_=>σ
def Lj (c:Operand) (σ:AE) (A B:AE->Prop):Prop:=match eev σ c with
 | .bool true=>A σ
 | .bool false=>B σ
 | .sb q=>ae q (A (Sn c true σ)) (B (Sn c false σ))
 |_=>False
def Cov(p:Nat)(σ:AE)(H:AH)(n:Nat)(s:AE×AH×Nat):Prop:=∀(a:Ph) (d h:Hp) (e:Env),HR a H n d h->FR a σ e->∃c:Ph,((∀b q,b<p->a b=some q->c b=some q)/\(∀q,a.z q->c.z q)/\∀q,c.y q->a.y q)/\HR c s.2.1 s.2.2 d h/\FR c s.1 e
def Rt (k:Nat) (body:AE->AH->Nat->KP->Prop):KP:=Nat.rec (λ_ _ _=>False) (λ_ a b H n=>body b H n a) k
inductive aR(p:Nat)(body:AE->AH->Nat->KP->Prop)(σ:AE)(H:AH)(n:Nat):Prop where
 |mk (α:Type) (m:Nat) (st:α->AE×AH) (μ:α->Nat) (a0:α) (h0:Cov p σ H n ((st a0).1,(st a0).2,m)) (h:∀a,body (st a).1 (st a).2 m λσ' H' n'=>∃a',μ a'<μ a/\Cov p σ' H' n' ((st a').1,(st a').2,m))
 |roll (k:Nat) (h:Rt k body σ H n)
inductive yl(p:Nat)(A:KP->Prop)(B:KP):Prop where
 |go (h:A B)
 |mk (α:Type) (m:Nat) (st:α->AE×AH) (hA:A λσ H n=>∃a,Cov p σ H n ((st a).1,(st a).2,m)) (hB:∀a,B (st a).1 (st a).2 m)
abbrev DB:=Option Nat×List Nat
abbrev DT:=List (Nat×List DB)
def findD (D:DT) (id:Nat):Option (List DB):=List.rec none (λx _ a=>Bool.rec a (some x.2) (Nat.beq x.1 id)) D
def kV (σ:AE) (a:List Nat):AE:=List.rec .nil (λt _ b=>sH (aj (pa t) σ) (pa t) b) a
def qP (o:Op) (σ:AE) (H:AH) (κ:AV->Prop):Prop:=match o with
 | .move x=>κ (eev σ x)
 | .assign x=>κ (eev σ x)
 | .pick c a b=>B6 (eev σ c) (κ (eev σ a)) (κ (eev σ b))
 | .load t a=>tK t (eev σ a) H κ
 | .binOp op t x y _=>IX op t (eev σ x) (eev σ y) H κ
 | .unOp op _ x=>unP op (eev σ x) κ
 | .indexAddr t x ix=>jf t (eev σ x) (eev σ ix) κ
 | .index t x ix=>sS t (eev σ x) (eev σ ix) κ
 | .slice t x lo d mx=>ib t (eev σ x) (lo.map (eev σ)) (d.map (eev σ)) (mx.map (eev σ)) κ
 | .lookup t m k ok=>ff (IU (eev σ k)) (Ask (jw Tryz.prog t (eev σ m) (hdK (eev σ k)) ok H) κ) (cm (jw Tryz.prog t (eev σ m) (eev σ k) ok H) κ)
 | .call ⟨.builtin .len,xs,e⟩=>(match e.toList,xs.toList.map (eev σ)with
  | [t],[x]=>IY t x H κ
  |_,_=>False)
 | .call ⟨.builtin .min,xs,_⟩=>(match xs.toList.map (eev σ)with
  | [x,y]=>mmP false x y κ
  |_=>False)
 | .call ⟨.builtin .max,xs,_⟩=>(match xs.toList.map (eev σ)with
  | [x,y]=>mmP true x y κ
  |_=>False)
 |o=>cm (ra Tryz.prog o σ H) κ
def Lk (ops:Array Oper) (o:Oper) (b:DB) (e:CP) (d:List (AH×Nat)) (σ:AE) (H:AH) (n:Nat) (k:KP):Prop:=
 let go:AE->Prop:=λσ=>(match b.1 with
  |none=>(match o.op with
   | .call c=>tM c e (kV σ b.2) H n λv H n=>k (cU σ o.dst v) H n
   | .store t a x=>ng t (eev (kV σ b.2) a) (eev (kV σ b.2) x) H n λv H n=>k (cU σ o.dst v) H n
   | .buildSlice t len parts=>ff (Nat.blt n 1000000) (match H.get n with
    |none=>B7 (.buildSlice t len parts) (kV σ b.2) H n λv H n=>k (cU σ o.dst v) H n
    |some _=>False) False
   |_=>False)
  |some j=>cm (nth ((H,n)::d) j) λr=>qP o.op (kV σ b.2) r.1 λv=>k (cU σ o.dst v) H n)
 match o.guard with
 |none=>go σ
 |some (j,want)=>(match jC ops j with
  |none=>False
  |some t=>(match aj (pa t) σ with
   | .bool q=>(match q==want with
    |true=>go σ
    |false=>k (cU σ o.dst cT) H n)
   | .sb q=>(match want with
    |true=>ae q (go (cU σ (some t) (.bool true))) (k (cU (cU σ (some t) (.bool false)) o.dst cT) H n)
    |false=>ae q (k (cU (cU σ (some t) (.bool true)) o.dst cT) H n) (go (cU σ (some t) (.bool false))))
   | .tup _=>k (cU σ o.dst cT) H n
   |_=>False))
def Ll (ops:Array Oper) (l:List Oper):List DB->CP->List (AH×Nat)->AE->AH->Nat->KP->Prop:=
 List.rec (λ_ _ _ c H n k=>k c H n) (λo _ g bs f a c H n k=>List.rec False (λb d _=>Lk ops o b f a c H n λe h i=>g d f ((H,n)::a) e h i k) bs) l
def Lm(A:List Nat)(i:Nat)(o:Oper):Nat:=o.after.toList.foldl (λm e=>if Region.binds .any e&&decide (e.on<i)then m|||(2^e.on|||A.getD e.on 0)else m) 0
def sT:List Oper->Nat->List Nat->List Nat
 | [],_,A=>A
 |o::l,i,A=>sT l (i+1) (A++ [Lm A i o])
def Ln(A:List Nat)(ops:Array Oper):Bool:=(List.range ops.size).all λi=>match ops[i]? with
 |some o=>A.getD i 0==Lm A i o
 |none=>true
def sU(A:List Nat)(j i:Nat):Bool:=(A.getD i 0).testBit j
def uB:Op->Bool
 | .call ⟨.value _,_,_⟩=>true
 | .buildSlice _ _ _=>true
 |_=>false
def lY:Op->Bool
 | .store _ _ _=>true
 |_=>false
def zS(ops:Array Oper)(j:Nat):Bool:=match ops[j]? with
 |some o=>bR o.op
 |none=>false
def uC(ops:Array Oper)(o:Oper)(a:List Nat):Bool:=match o.guard with
 |none=>true
 |some (j,_)=>(match jC ops j with
  |some t=>a.contains t
  |none=>true)
def So(A:List Nat)(ops:Array Oper)(bs:List DB)(i:Nat):Bool:=match ops[i]?,bs[i]? with
 |some o,some b=>b.2.all (λt=>(looks ops o).contains t)&&uC ops o b.2&&(match b.1 with
  |none=>uB o.op||(lY o.op&&(List.range ops.size).all λj=>Nat.beq j i||sU A j i)
  |some k=>!bR o.op&&(decide (k<=i)&&(List.range (i-k)).all λj=>!zS ops j||sU A j i))&&
  (List.range i).all λj=>(match ops[j]? with
   |some a=>a.apart ops o&&(!bR a.op||!bR o.op)
   |none=>true)||sU A j i
 |_,_=>false
def vD(ops:Array Oper)(bs:List DB):Bool:=mZ ops&&(Ln (sT ops.toList 0 []) ops&&(List.range ops.size).all (So (sT ops.toList 0 []) ops bs))
def lF:List Nat->List (Nat×Nat)
 |a::b::l=>(a,b)::lF l
 |_=> []
def jg:List Nat->Nat->Nat->Bool
 | [],_,_=>false
 |x::c,a,b=>Nat.beq x a||(!Nat.beq x b&&jg c a b)
def Lo:Nat->List (List Bool)
 |0=> [[]]
 |m+1=>(Lo m).flatMap λl=> [true::l,false::l]
def okL(P:Program)(ops:Array Oper)(R:List (Nat×Nat)):List Nat->List Nat->Bool
 |_,[]=>true
 |acc,i::l=>acc.all (λj=>nL P ops j i||(nT ops 6 j i||(R.contains (j,i)||R.contains (i,j))))&&okL P ops R (i::acc) l
def F9(P:Program)(ops:Array Oper)(R:List (Nat×Nat))(i:Nat):Bool:=match ops[i]? with
 |some o=>(!bR o.op||(sD P o.op||II o.op))||R.all λp=>Nat.beq p.1 i||(Nat.beq p.2 i||(nT ops 6 p.1 i||nT ops 6 p.2 i))
 |none=>true
def Sp(p:Nat×Nat)(b:Bool):Nat×Nat:=match b with
 |true=>p
 |false=>(p.2,p.1)
def Lp(ops:Array Oper):List Nat:=(List.range ops.size).map λi=>(List.range i).foldl (λm j=>bif nT ops 6 j i then m|||2^j else m) 0
def vE(a b c:Nat):List Nat->Nat->List Nat
 | [],_=> []
 |m::l,i=>(bif Nat.beq i b||m.testBit b then m|||(2^a|||c)else m)::vE a b c l (i+1)
def Lq(A:List Nat)(x:Nat×Nat):List Nat:=vE x.1 x.2 (A.getD x.1 0) A 0
def Lr(A:List Nat)(W:List (Nat×Nat)):Bool:=(List.range A.length).all λi=>!((W.foldl Lq A).getD i 0).testBit i
def Ru(ops:Array Oper)(R:List (Nat×Nat))(os:List Bool):Bool:=Lr (Lp ops) ((R.zip os).map λx=>Sp x.1 x.2)
def Lt(P:Program)(ops:Array Oper)(bs:List DB):Bool:=mZ ops&&(match bs with
 | []=>false
 |h::b=>(List.range ops.size).all (F9 P ops (lF h.2))&&((lF h.2).all (λp=>!Nat.beq p.1 p.2)&&(((Lo (lF h.2).length).all λos=>!Ru ops (lF h.2) os||b.any λa=>(lF h.2).map (λp=>jg a.2 p.1 p.2)==os)&&
  b.all λa=>decide (a.2.Nodup)&&(a.2.length==ops.size&&(a.2.all (λi=>decide (i<ops.size))&&okL P ops (lF h.2) [] a.2)))))
def Lu(bs:List DB):Bool:=match bs with
 |(some k,_)::_=>Nat.beq k 1000000
 |_=>false
def ym (l:List Oper) (b:List Nat):List Oper:=List.rec [] (λi _ a=>match nth l i with
 |some o=>o::a
 |none=>a) b
def Sq (ops:Array Oper) (a:List DB) (call:CP) (σ:AE) (H:AH) (n:Nat) (k:KP):Prop:=List.rec True (λb _ c=>uo ops (ym ops.toList b.2) call σ H n k/\c) a
def EA(ops:Array Oper)(m:Nat):Bool:=mZ ops&&(Ln (sT ops.toList 0 []) ops&&(List.range ops.size).all λi=>Nat.blt i m||(List.range i).all λj=>sU (sT ops.toList 0 []) j i)
def Lv(bs:List DB):Bool:=match bs with
 |(some k,_)::_=>Nat.beq k 1000001
 |_=>false
def Lw (ops:Array Oper) (bs:List DB) (call a:CP) (σ:AE) (H:AH) (n:Nat) (k:KP):Prop:=match Lu bs with
 |true=>Sq ops bs.tail call σ H n k
 |false=>(match Nat.blt bs.length ops.size with
  |true=>Ll (IT ops bs.length) (IT ops bs.length).toList bs a [] σ H n λσ H n=>uo ops (ops.toList.drop bs.length) call σ H n k
  |false=>Ll ops ops.toList bs a [] σ H n k)
def OL (ops:Array Oper) (bs:List DB) (call a:CP) (σ:AE) (H:AH) (n:Nat) (k:KP):Prop:=match Lv bs with
 |true=>False
 |false=>Lw ops bs call a σ H n k
def Ga(P:Program)(ops:Array Oper)(bs:List DB):Bool:=Lv bs||match Lu bs with
 |true=>Lt P ops bs
 |false=>(match Nat.blt bs.length ops.size with
  |true=>vD (IT ops bs.length) bs&&EA ops bs.length
  |false=>vD ops bs)
def lZ (D:DT) (c:Code):Bool:=Code.rec (motive:=λ_=>Bool)
 true
 (λid ops draw=>Bool.rec true (Option.rec (BL Tryz.prog ops) (λbs=>Ga Tryz.prog ops bs) (findD D id)) draw)
 (λ_ _ a b=>Bool.rec false b a)
 (λ_ _ _ a b=>Bool.rec false b a)
 (λ_ _ b=>b)
 (λ_ b=>b)
 (λ_ _ _ _ _ _=>true)
 (λ_=>true)
 (λ_ b=>b)
 (λ_=>true)
 (λ_=>true)
 true
 (λ_=>true) c
def Ss (c:Code):Option Nat:=Code.rec (motive:=λ_=>Option Nat) none (λid _ _=>some id) (λ_ _ a _=>a) (λ_ _ _ _ _=>none) (λ_ _ b=>b) (λ_ b=>b) (λ_ _ _ _ _ _=>none) (λ_=>none) (λ_ b=>b) (λ_=>none) (λ_=>none) none (λ_=>none) c
def EB (D:DT) (c:Code):Bool:=List.rec false (λx l _=>Option.rec false (λid=>Option.rec false (λ_=>true) (findD (x::l) (id+1000000))) (Ss c)) D
def jF (p:Nat) (g:CP) (D:DT) (c:Code):XP:=Code.rec (motive:=λ_=>XP)
 (λ_ d H n kn _ _=>kn d H n)
 (λid ops draw=>Bool.rec (λcall d H n kn _ _=>IZ ops ops.toList call d H n kn) (Option.rec (λcall d H n kn _ _=>uo ops ops.toList call d H n kn) (λbs call d H n kn _ _=>OL ops bs call g d H n kn) (findD D id)) draw)
 (λ_ h a b call d H n kn e f=>Bool.rec (a call d H n (λd H n=>b call d H n kn e f) e f) (yl p (λk=>a call d H n k e f) (λd H n=>b call d H n kn e f)) (EB D h))
 (λc _ _ a b call d H n kn e f=>Lj c d (λd=>a call d H n kn e f) (λd=>b call d H n kn e f))
 (λid _ b call d H n kn e f=>b call d H n kn (λi d H n=>ff (Nat.beq i id) (kn d H n) (e i d H n)) f)
 (λ_ b call d H n _ e f=>aR p (λd H n k=>b call d H n k e f) d H n)
 (λ_ _ _ _ _ _ _ _ _ _ _ _ _=>False)
 (λi _ d H n _ e _=>e i d H n)
 (λ_ b call d H n kn e f=>b call d H n kn e f)
 (λ_ _ d H n kn _ _=>kn d H n)
 (λ_ _ _ _ _ _ _ _=>False)
 (λ_ d H n _ _ f=>f d H n)
 (λ_ _ _ _ _ _ _ _=>False) c
def B8 (rs:List ResultVar) (σ:AE) (H:AH) (k:List AV->Prop):Prop:=
 List.rec (λk=>k []) (λr _ c k=>ResultVar.rec (λt=>c λb=>k (aj (pa t) σ::b)) (λa t=>tK t (aj (pa a) σ) H λv=>c λb=>k (v::b)) r) rs k
def OM (call d:CP) (D:DT) (c:Code) (rs:List ResultVar) (m:Nat) (args:List AV) (H:AH) (n:Nat) (κ:PK):Prop:=
 ff (Nat.ble args.length m) (jF n d D c call (vo args 0 .nil) H n (λa H n=>B8 rs a H λb=>κ (yf b) H n) (λ_ _ _ _=>False) (λa H n=>B8 rs a H λb=>κ (yf b) H n)) False
inductive EP where
 |no
 |run (D:DT) (c:Code) (rs:List ResultVar) (m:Nat)
 |nat (g:List AV->AH->Nat->PK->Prop)
 |det (g:List AV->AH->Nat->PK->Prop)
def tN (F:FuncId->EP):CP:=λf args H n a=>EP.rec (λ_ _ _ _=>False) (λ_ _ _ _ _ _ _ _=>False) (λ_ _ _ _ _=>False) (λg=>g) (F f) args H n a
def ax (F:FuncId->EP) (d:Nat):CP:=Nat.rec (λ_ _ _ _ _=>False) (λ_ a f args H n b=>EP.rec (λ_ _ _ _=>False) (λD c rs m=>OM a (tN F) D c rs m) (λg=>g) (λg=>g) (F f) args H n b) d
noncomputable def yn (D:DT) (f:FuncId):EP:=match Tryz.prog.funcs[f]? with
 |some fn=>(match fn.body with
  |some c=> .run D c fn.results.toList fn.ntmps
  |none=> .no)
 |none=> .no
def yo (D:DT) (f:FuncId):Bool:=match Tryz.prog.funcs[f]? with
 |some fn=>(match fn.body with
  |some c=>lZ D c
  |none=>false)
 |none=>false
def evP (f:FuncId):EP:=Bool.rec .no (Bool.rec .no (yn [] f) (yo [] f)) (Rq f)
section
variable {φ:Ph} {H:AH} {n:Nat} {h0 h:Hp} {σ:AE} {ρ:Env}
theorem aS{b:Type}{o:Option b}{k:b->Prop}(h:cm o k):∃a,o=some a/\k a:=by
 cases o with
 |none=>exact h.elim
 |some a=>exact⟨a,rfl,h⟩
theorem aw{b:Type}{o:Option b}{k:b->Prop}{a:b}(h:o=some a)(c:k a):cm o k:=by subst h;exact c
theorem fQ{b:Bool}{t:Prop}(h:ff b t False):b=true/\t:=by
 cases b with
 |true=>exact⟨rfl,h⟩
 |false=>exact h.elim
theorem Ask.inv{b:Type}{o:Option b}{k:b->Prop}(h:Ask o k):∃a,o=some a/\k a:=by
 obtain⟨a,c,d⟩:=h;exact⟨a,c,d⟩
theorem VR.hd{a:AV}{v:Value}(h:VR φ a v):VR φ (hd a) v:=by cases a<;>exact h
theorem VRs.hds{l:List AV}{b:List Value}(h:VRs φ l b):VRs φ (l.map Go.Proofs.YtflehenfikoniaaGreat.hd) b:=by
 induction l generalizing b with
 |nil=>exact h
 |cons a l c=>
  obtain⟨v,us,rfl,d,f⟩:=h.cons_inv;exact .cons d.hd (c f)
theorem VR.hdK{a:AV}{v:Value}(h:VR φ a v):VR φ (hdK a) v:=by
 cases a<;>first|exact h.hd|skip
 obtain⟨cs,rfl,b⟩:=h.dX;exact .agg b.hds
theorem VR.mk{a:AV}{v:Value}(h:VR φ a v):VR φ (mk a) v:=by cases a<;>exact h
theorem VRs.Rv:∀{l:List AV} {b:List Value},VRs φ l b->VRs φ (l.map Go.Proofs.YtflehenfikoniaaGreat.hd) b
 | [],b,h=>by rw[h.aQ];exact .nil
 |a::l,b,h=>by
  obtain⟨v,us,rfl,c,d⟩:=h.cons_inv;exact .cons c.hd (VRs.Rv d)
theorem VR.Rw{l:List AV}{v:Value}(h:VR φ (.agg l) v):VR φ (.agg (l.map Go.Proofs.YtflehenfikoniaaGreat.hd)) v:=by
 obtain⟨cs,rfl,a⟩:=h.dX;exact .agg a.Rv
theorem cn.then{κ:PK}{K:KH}{v:AV}(a:cn φ h0 κ K)(h:κ v H n):qi φ h0 v H n K:=λb u g c d f=>a b v H n u g c d f h
theorem cn.St{κ:PK}{K:KH}{r:AV×AH×Nat}(a:cn φ h0 κ K)(h:mk3 κ r):qi φ h0 r.1 r.2.1 r.2.2 K:=λb u g c d f=>a b _ _ _ u g c d f.mk h
def oz(call:CP):Prop:=∀(f:FuncId) (args:List AV) (H:AH) (n:Nat) (κ:PK),call f args H n κ->∀(φ:Ph) (h0 h:Hp) (a:Array Value) (K:KH),HR φ H n h0 h->VRs φ args a.toList->cn φ h0 κ K->dH Tryz.prog f a h K
theorem qk{P:Program}{op:BinOp}{t:TypeId}{k j:IntKind}{a b:Int}{c:Bool}{κ:AV->Prop}{K:Value->Prop}(g:IV op k j a b c κ)(o:∀r u,κ r->VR φ r u->K u):kK P op t (.int k a) (.int j b) K:=by
 have i:∀{x},κ (.si k x)->K (.int k x):=λh=>o _ _ h (.si _ _)
 have p:∀{x},κ (.sb x)->K (.bool x):=λh=>o _ _ h (.sb _)
 have s:∀{A:Prop},ff (K8 k j) A False->k=j/\A:=λh=>by
  obtain⟨q,f⟩:=fQ h;rw[La]at q;exact⟨by simpa using q,f⟩
 cases op<;>simp only[IV]at g
 case shl=>
  cases c with
  |false=>exact⟨g.1,i g.2⟩
  |true=>
   cases d:ltq b 0 with
   |true=>rw[d]at g;exact g.elim
   |false=>
    rw[d]at g;rw[Lb]at d;have:¬b<0:=by simpa using d
    exact⟨by omega,i g⟩
 case shr=>
  cases c with
  |false=>exact⟨g.1,i g.2⟩
  |true=>
   cases d:ltq b 0 with
   |true=>rw[d]at g;exact g.elim
   |false=>
    rw[d]at g;rw[Lb]at d;have:¬b<0:=by simpa using d
    exact⟨by omega,i g⟩
 all_goals(obtain⟨l,f⟩:=s g;clear g;subst l)
 case quo=>
  cases c with
  |false=>exact⟨rfl,f.1,i f.2⟩
  |true=>
   cases d:eqq b 0 with
   |true=>rw[d]at f;exact f.elim
   |false=>
    rw[d]at f;rw[Lc]at d;exact⟨rfl,by simpa using d,i f⟩
 case rem=>
  cases c with
  |false=>exact⟨rfl,f.1,i f.2⟩
  |true=>
   cases d:eqq b 0 with
   |true=>rw[d]at f;exact f.elim
   |false=>
    rw[d]at f;rw[Lc]at d;exact⟨rfl,by simpa using d,i f⟩
 case neq=>
  refine⟨rfl,?_⟩;have:decide (a≠b)=!decide (a=b):=by simp
  rw[this];exact p f
 all_goals first|exact⟨rfl,i f⟩|exact⟨rfl,p f⟩
theorem qn{P:Program}{op:BinOp}{t:TypeId}{a b:List Nat}{κ:AV->Prop}{K:Value->Prop}(d:∀x∈a,x<256)(f:∀x∈b,x<256)(c:IW op a b κ)(g:∀r u,κ r->VR φ r u->K u):kK P op t (.string (eG a)) (.string (eG b)) K:=by
 have key:∀{r:AV},K1 op a b=some r->κ (mk r)->kK P op t (.string (eG a)) (.string (eG b)) K:=λe i=>vt (φ:=φ) d f e λu j=>g _ u i j.mk
 cases op<;>simp only[IW]at c
 case add=>exact key (r:= .str (a++b)) (by simp only[K1];rw[if_pos c.1]) c.2
 all_goals first|exact c.elim|exact key rfl c
theorem qo{op:BinOp}{t:TypeId}{a b:Bool}{κ:AV->Prop}{K:Value->Prop}(d:Lg op t a b κ)(f:∀r u,κ r->VR φ r u->K u):kK Tryz.prog op t (.bool a) (.bool b) K:=by
 obtain⟨g,c⟩:=fQ d;have i:=re g;cases op<;>first|exact c.elim|exact⟨i,f _ _ c (.sb _)⟩
theorem vF(j:HR φ H n h0 h){op:BinOp}{t:TypeId}{x y:AV}{v u:Value}{κ:AV->Prop}{K:Value->Prop}(b:VR φ x v)(c:VR φ y u)(a:IX op t x y H κ)(d:∀r u,κ r->VR φ r u->K u):jA Tryz.prog op t v u h K:=by
 unfold IX at a;split at a
 ·obtain⟨r,f,g⟩:=aS a;rw[b.bY,c.bY];show kK Tryz.prog op t (.int _ _) (.int _ _) K;exact vr (φ:=φ) f λu i=>d _ u g i
 ·rw[b.bY,c.fO];exact qk (P:=Tryz.prog) (t:=t) a d
 ·rw[b.fO,c.bY];exact qk (P:=Tryz.prog) (t:=t) a d
 ·rw[b.fO,c.fO];exact qk (P:=Tryz.prog) (t:=t) a d
 ·obtain⟨rfl,f⟩:=b.sL;obtain⟨rfl,g⟩:=c.sL;exact qn (P:=Tryz.prog) (t:=t) f g a d
 ·obtain⟨rfl,f⟩:=b.sL;obtain⟨rfl,g⟩:=c.cz;exact qn (P:=Tryz.prog) (t:=t) f g a d
 ·obtain⟨rfl,f⟩:=b.cz;obtain⟨rfl,g⟩:=c.sL;exact qn (P:=Tryz.prog) (t:=t) f g a d
 ·rw[b.jW,c.jW];exact qo a d
 ·rw[b.jW,c.bU];exact qo a d
 ·rw[b.bU,c.jW];exact qo a d
 ·rename_i xs o;cases l:(xs.any isS||o.any isS)with
  |true=>
   rw[l]at a;obtain⟨r,f,g⟩:=aS a;exact m8 j b.Rw c.Rw f λu i=>d _ u g i.mk
  |false=>
   rw[l]at a;obtain⟨r,f,g⟩:=aS a;exact m8 j b c f λu i=>d _ u g i
 ·obtain⟨r,f,g⟩:=aS a;exact m8 j b c f λu i=>d _ u g i
theorem yp{op:UnOp}{x:AV}{v:Value}{κ:AV->Prop}{K:Value->Prop}(b:VR φ x v)(a:unP op x κ)(c:∀r u,κ r->VR φ r u->K u):aun op v K:=by
 unfold unP at a;split at a
 ·rw[b.jW];exact c _ _ a (.sb _)
 ·rw[b.fO];exact c _ _ a (.si _ _)
 ·rw[b.fO];exact c _ _ a (.si _ _)
 ·obtain⟨r,d,f⟩:=aS a;exact yi b d λu g=>c _ u f g
theorem iw{q:Bool}{x y:AV}{v u:Value}{κ:AV->Prop}{K:Value->Prop}(b:VR φ x v)(c:VR φ y u)(a:mmP q x y κ)(d:∀r u,κ r->VR φ r u->K u):cw q v u K:=by
 unfold mmP at a;split at a
 ·rw[b.fO,c.fO];exact d _ _ a (.si _ _)
 ·rw[b.fO,c.bY];exact d _ _ a (.si _ _)
 ·rw[b.bY,c.fO];exact d _ _ a (.si _ _)
 ·obtain⟨r,f,g⟩:=aS a;exact sP b c f λu i=>d _ u g i
theorem vG(j:HR φ H n h0 h){t:TypeId}{x:AV}{v:Value}{κ:AV->Prop}{K:Value->Prop}(i:VR φ x v)(f:IY t x H κ)(g:∀r u,κ r->VR φ r u->K u):l8 Tryz.prog t v h K:=by
 unfold IY at f;split at f
 ·obtain⟨r,c,d⟩:=aS f;exact m9 j i.hd c λu b=>g _ u d b.mk
 ·obtain⟨r,c,d⟩:=aS f;exact m9 j i.hd c λu b=>g _ u d b.mk
 ·obtain⟨c,d⟩:=fQ f
  have b:∃e,Tryz.prog.underlying t=some (.slice e):=by
   unfold vk at c;split at c
   ·rename_i e;exact⟨_,e⟩
   ·cases c
  obtain⟨e,b⟩:=b;rcases i.gO with⟨rfl,l⟩|⟨p,a,C,_,rfl,_⟩
  ·obtain⟨_,rfl⟩:=l.is;simp only[l8,b];exact g _ _ d (.si _ _)
  ·(try simp only[l8,b]);exact g _ _ d (.si _ _)
 ·obtain⟨c,d⟩:=fQ f
  have b:∃e,Tryz.prog.underlying t=some (.slice e):=by
   unfold vk at c;split at c
   ·rename_i e;exact⟨_,e⟩
   ·cases c
  obtain⟨e,b⟩:=b;obtain⟨a,C,rfl⟩:=i.K6
  (try simp only[l8,b]);exact g _ _ d (.si _ _)
 ·obtain⟨r,c,d⟩:=aS f;exact m9 j i c λu b=>g _ u d b
theorem kW{ix:AV}{len:Nat}{s:Bool}{v:Value}{κ:Nat->Prop}(d:VR φ ix v)(a:ixP ix len s κ):∃i,i<len/\(∃k,v= .int k (i:Int))/\κ i:=by
 unfold ixP at a;split at a
 ·obtain⟨j,rfl,b,c⟩:=a;exact⟨j,b,⟨_,d.fO⟩,c⟩
 ·obtain⟨j,rfl,b,c⟩:=a;exact⟨j,b,⟨_,d.bY⟩,c⟩
 ·obtain⟨i,b,c⟩:=aS a;obtain⟨f,g⟩:=oq d b;exact⟨i,f,g,c⟩
theorem mn{t:TypeId}{x ix:AV}{v u:Value}{κ:AV->Prop}{K:Value->Prop}(g:VR φ x v)(hi:VR φ ix u)(f:jf t x ix κ)(E:∀r u,κ r->VR φ r u->K u):cu Tryz.prog t v u K:=by
 have sl:∀{e b o m c k s},Tryz.prog.underlying t=some (.slice e)->VR φ (.sl b o m c k) v->cm (aB Tryz.prog e) (λk=>ixP ix m s λi=>κ (.ptr b (o+i*k)))->cu Tryz.prog t v u K:=λ{e b o m c k s} d g f=>by
  obtain⟨es,j,w⟩:=aS f;obtain⟨i,G,⟨I,rfl⟩,A⟩:=kW hi w;obtain⟨p,C,B,rfl,_,_⟩:=g.eQ
  (try simp only[cu,d,j])
  refine⟨by omega,by omega,?_⟩;rw[q0p,q1l];exact E _ _ A (.ptr B)
 unfold jf at f;split at f
 ·rename_i d;exact sl d g f
 ·rename_i d;exact sl d g.hd f
 ·rename_i d;obtain⟨es,j,w⟩:=aS f;obtain⟨i,G,⟨I,rfl⟩,A⟩:=kW hi w;rcases g.gO with⟨O,_⟩|⟨p,a,C,B,rfl,J,_⟩
  ·omega
  have J:=J (by omega);subst J
  (try simp only[cu,d,j])
  refine⟨by omega,by omega,?_⟩;rw[q0p,q1l];exact E _ _ A (.ptr B)
 ·rename_i d;obtain⟨es,j,w⟩:=aS f;obtain⟨M,N⟩:=fQ w;have:=q0a M;subst this;obtain⟨i,G,⟨I,rfl⟩,A⟩:=kW hi N;rcases g.sM with⟨O,_⟩|⟨q,y,C,P,rfl,R,F⟩
  ·omega
  (try simp only[cu,d,j])
  refine⟨by omega,by omega,?_⟩;rw[q0p]
  have D:∀{n:Nat} {l:List AV},bk q.L y n=some l->bk q.L y l.length=some l:=λ{n l} F=>by
   have:l.length=n:=by obtain⟨S,Q⟩:=bo F;rw[Q];simp;omega
   rw[this];exact F
  exact E _ _ A (.fa P (D F))
 ·rename_i len el b o d;obtain⟨es,j,w⟩:=aS f;obtain⟨i,G,⟨I,rfl⟩,A⟩:=kW hi w;obtain⟨p,B,rfl⟩:=g.cD
  (try simp only[cu,d,j])
  refine⟨by omega,by omega,?_⟩;rw[q0p,q1l];exact E _ _ A (.ptr B)
 ·exact f.elim
theorem rh{t:TypeId}{x ix:AV}{v u:Value}{κ:AV->Prop}{K:Value->Prop}(g:VR φ x v)(hi:VR φ ix u)(b:sS t x ix κ)(f:∀r u,κ r->VR φ r u->K u):jV Tryz.prog t v u K:=by
 have str:∀{s:List Nat} {i c:Nat} {j:IntKind} {q:Bool},Tryz.prog.underlying t=some .string->VR φ (.str s) v->u= .int j (i:Int)->i<s.length->nth s i=some c->(∀u,VR φ (.int .u8 (Int.ofNat c)) u->K u)->jV Tryz.prog t v u K:=λ{s i c j q} a g o C A f=>by
  obtain⟨rfl,b⟩:=g.cz;subst o;rw[eR]at A;have B:=b c (q0c A);simp only[jV,a,c9,q0p,q0q,A,Y8];refine⟨by omega,f _ ?_⟩
  have:((UInt8.ofNat c).toNat:Int)=Int.ofNat c:=by
   rw[UInt8.toNat_ofNat',q1i B];rfl
  rw[this];exact .int _ _
 unfold sS at b;split at b
 ·rename_i len el l a;obtain⟨cs,rfl,D⟩:=g.dX;obtain⟨k,E,B⟩:=aS b;obtain⟨i,y,⟨j,rfl⟩,p⟩:=kW hi B;obtain⟨r,w,d⟩:=aS p
  (try simp only[jV,a,E])
  refine⟨by omega,by omega,?_⟩;rw[q0p];exact oo D w λu a=>f _ u d a
 ·rename_i s a;obtain⟨i,y,⟨j,o⟩,p⟩:=kW hi b;obtain⟨c,w,d⟩:=aS p;refine str (q:=true) a g o y w λu a=>?_
  split at d
  ·exact f _ u d a
  ·exact f _ u d a.mk
 ·rename_i s a;obtain⟨i,y,⟨j,o⟩,p⟩:=kW hi b;obtain⟨c,w,d⟩:=p.inv;exact str (q:=true) a g.hd o y w λu a=>f _ u d a.mk
 ·exact b.elim
theorem yq{l:List AV}{t:TypeId}{b o:Nat}{κ:AV->Prop}{z:Bool}(a:H.get b=some (.cells l z)∨H.get b=some (.ro l))(c:vB l t o κ):∃r,yc Tryz.prog t (.ptr b o) H=some r/\κ r:=by
 unfold vB at c;split at c
 ·rename_i d;obtain⟨r,f,g⟩:=aS c;exact⟨r,by rcases a with a|a<;>simp only[yc,a,d,f],g⟩
 ·rename_i d;obtain⟨m,f,g⟩:=aS c;obtain⟨r,i,j⟩:=aS g;exact⟨.agg r,by rcases a with a|a<;>simp only[yc,a,d,f,i,Y8],j⟩
 ·exact c.elim
theorem oA(w:HR φ H n h0 h){t:TypeId}{a:AV}{v:Value}{κ:AV->Prop}{K:Value->Prop}(x:VR φ a v)(b:tK t a H κ)(j:∀r u,κ r->VR φ r u->K u):kM Tryz.prog t v h K:=by
 unfold tK at b;split at b
 ·split at b
  ·rename_i A;obtain⟨r,d,f⟩:=yq (.inl A) b;exact om w x d λu B=>j _ u f B
  ·rename_i A;obtain⟨r,d,f⟩:=yq (z:=true) (.inr A) b;exact om w x d λu B=>j _ u f B
  ·exact b.elim
 ·rename_i l o;obtain⟨q,y,E,rfl,F⟩:=x.zK;obtain⟨⟨⟨_,c,M,fz,G,I,C⟩,_⟩,_⟩:=w.frz q E
  have g:CR φ c (q.s+y) l:=by
   obtain⟨p,i⟩:=bo F;rw[i];exact CR.drop C
  unfold vB at b
  (try simp only[kM,G])
  split at b
  ·rename_i D;obtain⟨r,d,f⟩:=aS b;obtain⟨v,p,i⟩:=g.nth d
   (try simp only[D,p])
   exact j _ _ f i
  ·rename_i D;obtain⟨m,d,f⟩:=aS b;obtain⟨r,J,L⟩:=aS f;obtain⟨N,p,i⟩:=g.sub J
   (try simp only[D,d,p])
   exact j _ _ L (.agg (by simpa using i))
  ·exact b.elim
 ·exact b.elim
theorem ri(c:HR φ H n h0 h){t:TypeId}{a x:AV}{av xv:Value}{κ:PK}{K:KH}(d:VR φ a av)(f:VR φ x xv)(b:ng t a x H n κ)(g:cn φ h0 κ K):nY Tryz.prog t av xv h K:=by
 unfold ng at b;split at b
 ·split at b
  ·rename_i l z i;obtain⟨s,j,o⟩:=aS b;obtain⟨p,q⟩:=fQ o;obtain⟨y,v,w⟩:=aS q;refine rf c d f (r:=cT) ?_ (g.then w)
   (try simp only[zH,i,j,p,v])
  ·exact b.elim
 ·exact b.elim
theorem yr {κ:PK} {K:KH} {q:Bool} {e g:AR} {A:Prop} (i:cn φ h0 κ K) (j:ff q (Ask g (mk3 κ)) (cm e (un3 κ)))
 (a:∀r H' c,e=some (r,H',c)->qi φ h0 r H' c K->A) (b:∀r H' c,g=some (r,H',c)->qi φ h0 r H' c K->A):A:=by
 cases q with
 |true=>
  obtain⟨r,d,f⟩:=Ask.inv j;exact b _ _ _ d (i.St f)
 |false=>
  obtain⟨r,d,f⟩:=aS j;exact a _ _ _ d (i.then f)
theorem yt{c:AV}{v:Value}{A B:Prop}(b:VR φ c v)(a:B6 c A B):∃q,v= .bool q/\(q=true->A)/\(q=false->B):=by
 unfold B6 at a;split at a
 ·exact⟨true,b.bU,λ_=>a,λk=>by cases k⟩
 ·exact⟨false,b.bU,(λk=>by cases k),λ_=>a⟩
 ·rename_i q;exact⟨q,b.jW,a.t,a.f⟩
 ·exact a.elim
theorem I0:∀f,COk Tryz.prog f (K9 f):=λf args H n v a b e=>by cases e
theorem tO(a:HR φ H n h0 h)(b:FR φ σ ρ){o:Op}{κ:PK}{K:KH}(c:B7 o σ H n κ)(d:cn φ h0 κ K):bG Tryz.prog o ρ h K:=by
 obtain⟨⟨v,i,j⟩,f,g⟩:=aS c;exact BZ I0 a b f (d.then g)
theorem I1 (G:FR φ σ ρ) {t:TypeId} {x r:AV} {v:Value} {lo hi mx:Option Operand} {K:Value->Prop} (I:VR φ x v) (e:jc Tryz.prog t (hd x) ((lo.map (eev σ)).map hd) ((hi.map (eev σ)).map hd) ((mx.map (eev σ)).map hd)=some r)
 (J:∀u,VR φ r u->K u):du Tryz.prog t v (lo.map ρ.ev) (hi.map ρ.ev) (mx.map ρ.ev) K:=by
 have key:∀(l h m:Option AV) (f g j:Option Value),(∀a,l=some a->∃u,f=some u/\VR φ a u)->(l=none->f=none)->(∀a,h=some a->∃u,g=some u/\VR φ a u)->(h=none->g=none)->(∀a,m=some a->∃u,j=some u/\VR φ a u)->(m=none->j=none)->
  jc Tryz.prog t (hd x) l h m=some r->du Tryz.prog t v f g j K:=by
  intro l h m f g j D L E M F N e
  let c:AE:=((PM.nil.set l eO 0).set h eO 1).set m eO 2
  let d:Env:=λi=>if i=0 then f.getD undef else if i=1 then g.getD undef else j.getD undef
  have w:FR φ c d:=λi a b=>by
   rcases PM.ak eO _ 2 i a b with⟨rfl,A⟩|⟨Z,A⟩
   ·obtain⟨u,rfl,p⟩:=F a A;exact p
   ·rcases PM.ak eO _ 1 i a A with⟨rfl,B⟩|⟨p,B⟩
    ·obtain⟨u,rfl,p⟩:=E a B;exact p
    ·rcases PM.ak eO _ 0 i a B with⟨rfl,C⟩|⟨h5,C⟩
     ·obtain⟨u,rfl,p⟩:=D a C;exact p
     ·cases C
  have sl:∀(i:Nat) (q:Option AV) (s:Option Value),(∀a,q=some a->aj (pa i) c=a/\∃u,s=some u/\d i=u)->(q=none->s=none)->∃o:Option Operand,o.map (eev c)=q/\o.map d.ev=s:=λi q s O P=>by
   cases q with
   |none=>exact⟨none,rfl,by rw[P rfl];rfl⟩
   |some a=>
    obtain⟨Q,u,R,S⟩:=O a rfl
    exact⟨some (.tmp i),by simp only[Y8,eev,Q],by simp only[Y8,Env.ev,R,S]⟩
  obtain⟨o1,T,U⟩:=sl 0 l f (λa b=>by subst b;obtain⟨u,rfl,_⟩:=D a rfl;exact⟨by cases h<;>cases m<;>rfl,u,rfl,rfl⟩) L;obtain⟨o2,V,W⟩:=sl 1 h g (λa b=>by subst b;obtain⟨u,rfl,_⟩:=E a rfl;exact⟨by cases l<;>cases m<;>rfl,u,rfl,rfl⟩) M;obtain⟨o3,X,Y⟩:=sl 2 m j (λa b=>by subst b;obtain⟨u,rfl,_⟩:=F a rfl;exact⟨by cases l<;>cases h<;>rfl,u,rfl,rfl⟩) N;rw[<-U,<-W,<-Y];rw[<-T,<-V,<-X]at e;exact nc w I.hd e J
 have s1:∀(o:Option Operand) (a:AV),(o.map (eev σ)).map hd=some a->∃u,o.map ρ.ev=some u/\VR φ a u:=λo a b=>by
  cases o with
  |none=>cases b
  |some y=>injection b with b;subst b;exact⟨_,rfl,(G.ev y).hd⟩
 have s2:∀o:Option Operand,(o.map (eev σ)).map hd=none->o.map ρ.ev=none:=λo b=>by
  cases o with
  |none=>rfl
  |some y=>cases b
 exact key _ _ _ _ _ _ (s1 lo) (s2 lo) (s1 hi) (s2 hi) (s1 mx) (s2 mx) e
theorem rj(f:FR φ σ ρ){x:Option Operand}{d i:Nat}(e:mc ((x.map (eev σ)).map hd) d=some i)(b:Int)(a:x=none->(i:Int)=b):bnd (x.map ρ.ev) b=some (i:Int):=by
 cases x with
 |none=>simp only[q2e,bnd];rw[a rfl]
 |some y=>
  simp only[Y8,mc]at e;have c:=(f.ev y).hd;split at e
  ·rename_i q;cases q
  ·rename_i k j q;injection e with e;subst e;injection q with q;rw[q]at c;simp only[Y8,c.bY,bnd];rfl
  ·cases e
theorem I2 (O:FR φ σ ρ) {t:TypeId} {b o m k q:Nat} {v:Value} {lo hi mx:Option Operand} {κ:AV->Prop} {K:Value->Prop} (hx:VR φ (.rw b o m k q) v) (J:Lh t b o m k q (lo.map (eev σ)) (hi.map (eev σ)) (mx.map (eev σ)) κ)
 (hk:∀r u,κ r->VR φ r u->K u):du Tryz.prog t v (lo.map ρ.ev) (hi.map ρ.ev) (mx.map ρ.ev) K:=by
 unfold Lh at J;split at J
 case h_2=>exact J.elim
 rename_i e hu;obtain⟨es,h1,h2⟩:=aS J;obtain⟨h3,l,c,P,Q,g,g1,g2,L⟩:=fQ h2;have:=q0a h3;subst this;have e1:=rj O P 0 (λq=>by subst q;rw[df P];rfl);have e2:=rj O Q (m:Int) (λq=>by subst q;rw[df Q])
 have D:(Option.map ρ.ev mx).isSome=true->(Option.map ρ.ev hi).isSome=true:=λq'=>by
  rw[isSome_map]at q'⊢;rcases g with g|⟨g,_⟩
  ·cases mx with
   |none=>cases q'
   |some y=>cases g
  ·rw[isSome_map]at g;exact g
 have A:hi=none->c=m:=λq=>by subst q;exact df Q
 have B:lo=none->l=0:=λq=>by subst q;exact df P
 have key:∀(base:Option Addr) (C M:Nat),bnd (mx.map ρ.ev) (C:Int)=some (M:Int)->c<=M->M<=C->K (iJ base l c M es)->du Tryz.prog t (.slice base m C) (lo.map ρ.ev) (hi.map ρ.ev) (mx.map ρ.ev) K:=λbase C M E N i hK=>by
  (try simp only[du,hu,h1,e1,e2,E])
  refine⟨D,by omega,by omega,?_,by omega,?_⟩
  ·unfold u7;split
   ·trivial
   ·omega
  ·rw[q0p,q0p,q0p];exact hK
 have bm:∀C:Nat,c<=C->∃M:Nat,bnd (mx.map ρ.ev) (C:Int)=some (M:Int)/\c<=M/\M<=C/\(mx=none->M=C)/\(mx≠none->M=c):=λC R=>by
  rcases g with g|⟨_,g⟩
  ·have d:mx=none:=by cases mx with|none=>rfl|some y=>cases g
   subst d;exact⟨C,rfl,R,Z3 _,λ_=>rfl,λq=>absurd rfl q⟩
  ·by_cases d:mx=none
   ·subst d;exact⟨C,rfl,R,Z3 _,λ_=>rfl,λq=>absurd rfl q⟩
   ·exact⟨c,rj O g (C:Int) (λq=>absurd q d),Z3 _,R,λq=>absurd q d,λ_=>rfl⟩
 have j:rwN m l c (lo.map (eev σ)) (hi.map (eev σ))=c-l:=by
  cases lo<;>cases hi
  ·have:=A rfl;have:=B rfl;show m=c-l;omega
  ·have:=B rfl;show c=c-l;omega
  ·have:=A rfl;show m-l=c-l;omega
  ·rfl
 have w:rwO o es l (lo.map (eev σ))=o+l*es:=by
  cases lo
  ·have:=B rfl;subst this;show o=o+0*es;omega
  ·rfl
 rcases hx.gO with⟨rfl,F⟩|⟨p,a,C,hp,rfl,ha,g3,g4,g7,S,g6⟩
 ·obtain⟨base,rfl⟩:=F.is;have U:c=0:=by omega
  have V:l=0:=by omega
  obtain⟨M,E,N,i,_,_⟩:=bm 0 (by omega);have W:M=0:=by omega
  refine key base 0 M E N i (hk _ _ L ?_);unfold F6;rw[j,w,U,V,W];show VR φ _ (.slice base 0 0);refine .rwe rfl ?_
  rcases F with h|⟨L,a,h⟩
  ·exact .inl h
  ·subst L;cases hi with
   |none=>exact .inr ⟨rfl,a,h⟩
   |some y=>
    cases mx with
    |none=>exact .inr ⟨rfl,a,h⟩
    |some z=>exact .inr ⟨rfl,a,h⟩
 ·obtain⟨M,E,N,i,X,G⟩:=bm C (by omega);refine key _ C M E N i (hk _ _ L ?_);unfold F6;rw[j,w,kp]
  have hmul:l*es+(M-l)*es<=C*es:=by
   rw[<-q2a];exact q1b es (by omega)
  have Y:l*es+(c-l)*es<=m*es:=by
   rw[<-q2a];exact q1b es (by omega)
  have I:rwX q (hi.map (eev σ)) (mx.map (eev σ))=1->M-l=c-l:=by
   cases hi with
   |none=>
    have d:mx=none:=by
     cases mx with
     |none=>rfl
     |some y=>have:=D rfl;cases this
    subst d;intro f;have:=g6 f;have:=A rfl
    have:=X rfl
    omega
   |some y=>
    cases mx with
    |none=>
     intro f;exfalso
     have f:(match q with
      |0=>0
      |1=>0
      |x+2=>x+2)=1:=f
     split at f<;>omega
    |some z=>intro _;rw[G (by simp)]
  have Z:rwX q (hi.map (eev σ)) (mx.map (eev σ))<2->a+l*es+(M-l)*es<=p.s+p.T:=by
   cases hi with
   |none=>intro f;have:=S f;omega
   |some y=>
    cases mx with
    |none=>
     intro f
     have f:(match q with
      |0=>0
      |1=>0
      |x+2=>x+2)<2:=f
     split at f
     ·have:=S (by omega);omega
     ·have:=S (by omega);omega
     ·omega
    |some z=>intro _;rw[G (by simp)];omega
  split
  ·rename_i hMl;subst hMl;have e0:(M-M)*es=0:=by rw[Nat.sub_self,q1h]
   have e1:(c-M)*es=0:=by rw[show c-M=0 from by omega,q1h]
   have:0<=m*es:=X5 _;exact .rwx hp (λhne=>by omega) g3 (by omega) (by omega) (λf=>by omega) I
  ·exact .rwx hp (λhne=>by have:=ha (by omega);omega) (by omega) (by omega) (by omega) Z I
theorem I3{a:Type}{M L:List a}{o n l:Nat}(h:bk M o n=some L)(b:l<=n):bk M (o+l) (n-l)=some (L.drop l):=by
 obtain⟨c,rfl⟩:=bo h;unfold bk;rw[q0n (by omega)];simp only[List.drop_take,List.drop_drop]
theorem I4{a:Type}{M L:List a}{o n l:Nat}(h:bk M o n=some L)(b:l<=n):bk M o l=some (L.take l):=by
 obtain⟨c,rfl⟩:=bo h;unfold bk;rw[q0n (by omega)];simp only[List.take_take];rw[q3k b]
theorem I5 (F:FR φ σ ρ) {t:TypeId} {m k:Nat} {L:List AV} {v:Value} {lo hi:Option Operand} {κ:AV->Prop} {K:Value->Prop} (N:VR φ (.fr m k L) v) (j:Li t m k L (lo.map (eev σ)) (hi.map (eev σ)) κ)
 (G:∀r u,κ r->VR φ r u->K u):du Tryz.prog t v (lo.map ρ.ev) (hi.map ρ.ev) none K:=by
 unfold Li at j;split at j
 case h_2=>exact j.elim
 rename_i e O;obtain⟨es,P,Q⟩:=aS j;obtain⟨R,l,b,p,w,hm,g1,g2,I⟩:=fQ Q;have:=q0a R;subst this;have S:=rj F p 0 (λq=>by subst q;rw[df p];rfl);have T:=rj F w (m:Int) (λq=>by subst q;rw[df w]);have c:hi=none->b=m:=λq=>by subst q;exact df w
 have d:lo=none->l=0:=λq=>by subst q;exact df p
 have key:∀(base:Option Addr) (C:Nat),m<=C->K (iJ base l b C es)->du Tryz.prog t (.slice base m C) (lo.map ρ.ev) (hi.map ρ.ev) none K:=λbase C J U=>by
  have V:bnd (none:Option Value) (C:Int)=some (C:Int):=rfl
  (try simp only[du,O,P,S,T,V])
  refine⟨λq=>(by cases q),by omega,by omega,?_,by omega,?_⟩
  ·unfold u7;split
   ·trivial
   ·omega
  ·rw[q0p,q0p,q0p];exact U
 have f:rwN m l b (lo.map (eev σ)) (hi.map (eev σ))=b-l:=by
  cases lo<;>cases hi
  ·have:=c rfl;have:=d rfl;show m=b-l;omega
  ·have:=d rfl;show b=b-l;omega
  ·have:=c rfl;show m-l=b-l;omega
  ·rfl
 have i:L.length=m*es->frL es L l b (lo.map (eev σ)) (hi.map (eev σ))=(L.drop (l*es)).take ((b-l)*es):=λo=>by
  cases lo<;>cases hi
  ·have:=c rfl;have:=d rfl
   subst this;show L=_;rw[q1h,q4g,q1g (by rw[o];subst_vars;simp)]
  ·have:=d rfl
   subst this;show L.take (b*es)=_;rw[q1h,q4g,q3c]
  ·have:=c rfl
   show L.drop (l*es)=_;rw[q1g];rw[q0g,o,Nat.sub_mul];subst_vars;exact Z3 _
  ·rfl
 rcases N.sM with⟨rfl,rfl,a,C,rfl,M⟩|⟨q,y,C,W,rfl,J,g⟩
 ·have A:b=0:=by omega
  have D:l=0:=by omega
  subst A D;refine key a C (X5 _) (G _ _ I ?_);rw[f,i (by simp)];show VR φ (.fr (0-0) es ((([]:List AV).drop (0*es)).take ((0-0)*es))) (iJ a 0 0 C es);have X:((([]:List AV).drop (0*es)).take ((0-0)*es))=[]:=by simp
  rw[X];unfold iJ;refine .fre λq=>?_
  split at q
  ·have:=M q;omega
  ·cases a with
   |none=>have:=M rfl;omega
   |some _=>cases q
 ·have o:L.length=m*es:=by obtain⟨g5,Y⟩:=bo g;rw[Y];simp;omega
  have Z:l*es+(b-l)*es<=m*es:=by rw[<-q2a];exact q1b _ (by omega)
  have E:bk q.L (y+l*es) ((b-l)*es)=some ((L.drop (l*es)).take ((b-l)*es)):=I4 (I3 g (by omega)) (by omega);refine key _ C J (G _ _ I ?_);rw[f,i o];unfold iJ;split
  ·rename_i hMl;have h0:b-l=0:=by omega
   rw[h0,q1h,List.take_zero];exact .fre λq=>by cases q
  ·have e6:Option.map (λx:Addr=>x.add (l*es)) (some ⟨q.B,q.s+y,none⟩)=some ⟨q.B,q.s+(y+l*es),none⟩:=by
    simp only[Y8,Addr.add];split
    ·rename_i h0;rw[h0];rfl
    ·rw[q1l]
   rw[e6];exact .fr W (by omega) E
theorem rl(c:FR φ σ ρ){t:TypeId}{x:Operand}{lo hi mx:Option Operand}{κ:AV->Prop}{K:Value->Prop}(a:ib t (eev σ x) (lo.map (eev σ)) (hi.map (eev σ)) (mx.map (eev σ)) κ)(f:∀r u,κ r->VR φ r u->K u):du Tryz.prog t (ρ.ev x) (lo.map ρ.ev) (hi.map ρ.ev) (mx.map ρ.ev) K:=by
 by_cases g:∃b o n k q,eev σ x= .rw b o n k q
 ·obtain⟨b,o,m,k,q,g⟩:=g;have d:=c.ev x;rw[g]at a d;exact I2 c d a f
 by_cases i:∃n k q,eev σ x= .fr n k q
 ·obtain⟨m,k,q,i⟩:=i;have d:=c.ev x;rw[i]at a d;cases mx with
  |none=>exact I5 c d a f
  |some y=>exact a.elim
 have h:ib t (eev σ x) (lo.map (eev σ)) (hi.map (eev σ)) (mx.map (eev σ)) κ=ff (isS (eev σ x)||(ib.sJ (lo.map (eev σ))||(ib.sJ (hi.map (eev σ))||ib.sJ (mx.map (eev σ))))) (Ask (jc Tryz.prog t (hd (eev σ x)) ((lo.map (eev σ)).map hd) ((hi.map (eev σ)).map hd) ((mx.map (eev σ)).map hd)) λv=>κ (mk v)) (cm (jc Tryz.prog t (eev σ x) (lo.map (eev σ)) (hi.map (eev σ)) (mx.map (eev σ))) κ):=by
  cases q:eev σ x
  case rw=>exact absurd ⟨_,_,_,_,_,q⟩ g
  case fr=>exact absurd ⟨_,_,_,q⟩ i
  all_goals rfl
 rw[h]at a;cases s:(isS (eev σ x)||(ib.sJ (lo.map (eev σ))||(ib.sJ (hi.map (eev σ))||ib.sJ (mx.map (eev σ)))))with
 |true=>
  rw[s]at a;obtain⟨r,j,l⟩:=Ask.inv a;exact I1 c (c.ev x) j λu p=>f _ u l p.mk
 |false=>
  rw[s]at a;obtain⟨r,j,l⟩:=aS a;exact nc c (c.ev x) j λu p=>f _ u l p
theorem pe(v:HR φ H n h0 h){k m:Nat}{x:AV}{xv:Value}{l:List AV}(w:VR φ x xv)(e:zQ H k x m l):∃d,bT h k xv=some (m,d)/\VRs φ l d:=by
 cases e with
 |old e=>exact yj v w.hd e
 |fr=>
  rcases w.sM with⟨rfl,rfl,a,C,rfl,_⟩|⟨q,y,C,L,rfl,T,i⟩
  ·refine⟨[],?_,VRs.nil⟩;rcases a with _|⟨B,o,sp⟩
   ·rfl
   ·cases sp with
    |some _=>rfl
    |none=>
     (try simp only[bT])
     split
     ·simp[cN]
     ·rfl
  ·obtain⟨⟨⟨_,c,U,fz,M,N,A⟩,_⟩,_⟩:=v.frz q L;obtain⟨d,D,E⟩:=A.sub i;exact⟨d,by simp only[bT,M,D,Y8],E⟩
 | @rw b o m V q O _ j F=>
  rcases w.gO with⟨rfl,G⟩|⟨p,a,C,I,rfl,P,W,X,Y,Z,g6⟩
  ·obtain⟨_,rfl⟩:=bo F;refine⟨[],?_,by simpa using VRs.nil⟩;rcases G with rfl|⟨_,⟨B,o,sp⟩,rfl⟩
   ·rfl
   ·cases sp with
    |some _=>rfl
    |none=>
     (try simp only[bT])
     split
     ·simp[cN]
     ·rfl
  ·have key:∃c t fz,h.f p.B=some (.cells c t fz)/\CR φ c p.s O:=by
    rcases j with j|⟨z,j⟩
    ·obtain⟨Q,_,g,c,t,fz,rfl,R,S,r⟩:=v.of j I;exact⟨c,t,fz,g,r⟩
    ·obtain⟨Q,_,g,c,t,fz,rfl,R,S,_,_,r⟩:=v.of j I;exact⟨c,t,fz,g,r⟩
   obtain⟨c,t,fz,g,r⟩:=key;by_cases J:m=0
   ·subst J;obtain⟨_,rfl⟩:=bo F;exact⟨[],by simp only[bT,g,q1h,cN,Y8],by simpa using VRs.nil⟩
   ·have:=P J;subst this;obtain⟨d,D,E⟩:=r.sub F;exact⟨d,by simp only[bT,g,D,Y8],E⟩
variable {call:CP} {κ:PK} {K:KH}
section
variable {t u e:TypeId} {ud:TypeDesc} {k by' m sn:Nat} {z:Value} {new old:List AV} {nv ov:List Value} {xv:Value}
theorem uD{G:AH}{j:Bool}(l:cn φ h0 κ K)(o:κ (.rw n 0 (sn+m) k 0) (G.set (some (.cells (old++new) j)) aa n) (n+1))(g:HR φ G n h0 h)(ho:VRs φ old ov)(hn:VRs φ new nv)(b:ov.length=sn*k)(c:new.length=m*k)(r:z.cells.size=k):F0 e z (sn+m) ov nv h (sx K):=by
 intro cap a;refine⟨_,Sub.refl _,?_⟩;have d:∀q,(cP z.cells.toList q).length=q*k:=λq=>by rw[lT];simp[r]
 have f:(ov++(nv++cP z.cells.toList (cap-(sn+m)))).length=cap*k:=by
  simp only[Z6,b,<-hn.length,c,d];rw[<-q2a,<-q2a];congr 1;omega
 have i:OR (fe φ n ⟨h.n,0,cap*k⟩) ⟨h.n,0,cap*k⟩ (.cells (old++new) j) (.cells (ov++(nv++cP z.cells.toList (cap-(sn+m)))).toArray e (0,0)):=by
  refine⟨_,e,_,rfl,?_,by simp only[List.size_toArray,f];omega,iZ _ _,λ_=>rfl,?_⟩
  ·simp only[Z6,c,ho.length,b];rw[<-q2a];exact q1b k a
  ·rw[<-q0h];exact CR.mono (g.ple _) (CR.of (ho.append hn) _)
 exact l _ _ _ _ (.slice (some ⟨h.n,0,none⟩) (sn+m) cap) _ (g.ple _) (g.new i aa) (.rw (p:=⟨h.n,0,cap*k⟩) (bz _ _ _) (λ_=>by simp) (Z3 _) a (by simp)) o
theorem B9 {b C a:Nat} {p:Pl} {l:List AV} {w:Bool} (g:HR φ H n h0 h) (N:cn φ h0 κ K) (O:κ (.rw n 0 (sn+m) k 0) ((H.set none aa b).set (some (.cells (old++new) w)) aa n) (n+1))
 (hu:Tryz.prog.underlying t=some (.slice e)) (x:Tryz.prog.underlying u=some ud) (y:∀q,ud≠ .int q) (A:aB Tryz.prog e=some k) (D:kl Tryz.prog e=some by') (E:cS Tryz.prog e=some z) (P:z.cells.size=k) (c2:0<by')
 (j:bT h k xv=some (m,nv)) (hn:VRs φ new nv) (F:new.length=m*k) (r:new.all oi=true) (G:(sn+m)*by'<=140737488355328)
 (Q:H.get b=some (.cells l w)) (R:φ b=some p) (ha:p.s<=a) (hC:sn<=C) (hT:a+C*k<=p.s+p.T) (c:(sn=0/\old=[])∨bk l (a-p.s) (sn*k)=some old):iK Tryz.prog t u (.slice (some ⟨p.B,a,none⟩) sn C) xv h (sx K):=by
 obtain⟨ob,hB,S,I,ty,fz,rfl,q1,q2,U,q4,V⟩:=g.of Q R
 obtain⟨ov,J,ho,f,v⟩:∃ov,cN I a (sn*k)=some ov/\VRs φ old ov/\CR φ I a old/\old.length=sn*k:=by
  rcases c with⟨rfl,rfl⟩|c
  ·exact⟨[],by rw[q1h];rfl,.nil,λi a h=>by simp at h,by simp⟩
  ·obtain⟨vs,W,g2⟩:=V.sub c;obtain⟨g3,X⟩:=bo c;have Y:p.s+(a-p.s)=a:=by omega
   rw[Y]at W;refine⟨vs,W,g2,?_,by rw[X];simp;omega⟩;have:=CR.drop (o:=a-p.s) (m:=sn*k) V;rw[Y,<-X]at this;exact this
 have L:ov.length=sn*k:=by rw[<-ho.length];exact v
 refine⟨e,ud,k,by',z,m,nv,hu,x,y,A,D,E,P,c2,j,λd=>?_,λ_=>⟨G,ov,by simp only[bT,S,J,Y8],uD N O (g.kill aa b) ho hn L F P⟩⟩
 (try simp only[tD,S])
 have hCk:(sn+m)*k<=C*k:=q1b k d;have Z:(sn+m)*k=sn*k+m*k:=q2a _ _ _;have hnvl:=hn.length;refine⟨mj hn r,by omega,U.sub (by omega),_,Sub.refl _,?_⟩
 have M:OR (fe φ n ⟨p.B,a,C*k⟩) ⟨p.B,a,C*k⟩ (.cells (old++new) w) (.cells (dZ I (a+sn*k) nv) ty fz):=by
  refine⟨_,ty,fz,rfl,by simp only[Z6];omega,by rw[fk];simp only;omega,U.sub (by simp only;omega),q4,CR.mono (g.ple _) (CR.append ?_ ?_)⟩
  ·exact CR.kept f (by simp only;omega)
  ·simp only;rw[v];exact CR.wrote hn (by omega)
 exact N _ _ _ _ (.slice (some ⟨p.B,a,none⟩) (sn+m) C) _ (g.ple _) (g.rename (q:=⟨p.B,a,C*k⟩) Q R rfl M aa aa) (.rw (p:=⟨p.B,a,C*k⟩) (bz _ _ _) (λ_=>by simp) (Z3 _) d (by simp)) O
theorem Cb {G:AH} {R:Bool} (d:HR φ G n h0 h) (S:cn φ h0 κ K) (T:κ (.rw n 0 (0+m) k 0) (G.set (some (.cells ([]++new) R)) aa n) (n+1))
 (hu:Tryz.prog.underlying t=some (.slice e)) (B:Tryz.prog.underlying u=some ud) (C:∀q,ud≠ .int q) (D:aB Tryz.prog e=some k) (E:kl Tryz.prog e=some by') (F:cS Tryz.prog e=some z) (U:z.cells.size=k) (c2:0<by')
 (i:bT h k xv=some (m,nv)) (hn:VRs φ new nv) (I:new.length=m*k) (J:(0+m)*by'<=140737488355328):iK Tryz.prog t u (.slice none 0 0) xv h (sx K):=by
 refine⟨e,ud,k,by',z,m,nv,hu,B,C,D,E,F,U,c2,i,λL=>?_,λ_=>⟨J,[],rfl,uD S T d .nil hn (by simp) I U⟩⟩;have hm:m=0:=by omega
 subst hm;have j:new=[]:=Y5 (by omega);subst j;refine⟨_,Sub.refl _,S φ _ _ _ (.slice none 0 0) h (PLe.refl _) ?_ .rwn T⟩
 have f:φ n=none:=by
  cases hq:φ n with
  |none=>rfl
  |some p=>exact absurd (d.dom n p hq).1 (q3a _)
 refine⟨λb p v=>⟨Nat.lt_succ_of_lt (d.dom b p v).1,(d.dom b p v).2⟩,λb o v=>?_,λx y q V px w M N O g l c ee=>?_,d.base,d.size,λz A=>⟨(d.frz z A).1,λy W w N g c=>?_⟩,d.b7 (Z3 _) (λx Q M=>?_) (λ_ h=>h) (λ_ h=> .inl h) (λ_ _ _ _ _=>rfl) λX Y p' e1 e2 P=>?_⟩;rotate_left 3
 ·rcases PM.ak aa _ n x _ M with⟨_,a⟩|⟨_,a⟩
  ·injection a with a;cases a
  ·exact⟨a,rfl⟩
 ·rcases PM.ak aa _ n X Y e1 with⟨rfl,_⟩|⟨_,a⟩
  ·rw[f]at P;cases P
  ·exact .inl ⟨X,Y,p',a,e2,P,rfl⟩
 rotate_left 2
 ·rcases PM.ak aa _ n y W N with⟨rfl,_⟩|⟨_,a⟩
  ·rw[f]at c;cases c
  ·exact(d.frz z A).2 y W w a g c
 ·rcases PM.ak aa _ n b o v with⟨rfl,a⟩|⟨_,a⟩
  ·injection a with a;subst a;exact .inl ⟨f,rfl⟩
  ·exact d.live b o a
 ·have old:∀z r Z,(G.set (some (.cells ([]++ []) R)) aa n).get z=some r->φ z=some Z->G.get z=some r:=λz r Z A s=>by
   rcases PM.ak aa _ n z r A with⟨rfl,_⟩|⟨_,a⟩
   ·rw[f]at s;cases s
   ·exact a
  exact d.inj x y q V px w (old x q px M l) (old y V w N c) O g l c ee
end
theorem Cc(F:HR φ H n h0 h){t:TypeId}{s x:AV}{V xv:Value}{κ:PK}{K:KH}(hs:VR φ s V)(W:VR φ x xv)(J:F8 t s x H n κ)(hk:cn φ h0 κ K):nZ Tryz.prog t V xv h K:=by
 cases J with
 |mk k m g b o c kk bx ox kx qx l X new l' z L M hq ty N O i j d k'=>
  obtain⟨el,hu,P⟩:=ty;have r:=hs.hd;rw[L]at r;rw[M]at W;obtain⟨p,C,Y,rfl,_,_⟩:=r.eQ;obtain⟨Z,hB,hf,cc,ty,fz,rfl,h1,G,I,Q,v⟩:=F.of i Y;obtain⟨s1,s2⟩:=bo O
  have key:KF xv=some m/\∃w,kP h k (min m g) xv=some w/\VRs φ (new.take (min m g*k)) w:=by
   rcases W.gO with⟨rfl,R⟩|⟨q,a,D,y,rfl,J,g3,g4,g7,g5,g6⟩
   ·rw[R.nil hq];exact⟨rfl,[],rfl,by simpa using VRs.nil⟩
   ·refine⟨rfl,?_⟩
    have kc:∃c t fz,h.f q.B=some (.cells c t fz)/\CR φ c q.s X:=by
     rcases N with i|⟨z,i⟩
     ·obtain⟨Z,_,G,c,t,fz,rfl,I,Q,v⟩:=F.of i y;exact⟨c,t,fz,G,v⟩
     ·obtain⟨Z,_,G,c,t,fz,rfl,I,Q,_,_,v⟩:=F.of i y;exact⟨c,t,fz,G,v⟩
    obtain⟨c2,t2,fz2,e1,e2⟩:=kc;by_cases hz:min m g=0
    ·rw[hz];exact⟨[],by simp only[kP,e1,q1h,cN],by simpa using VRs.nil⟩
    ·have hm:m≠0:=by omega
     have:=J hm;subst this;have S:min m g*k<=m*k:=q1b _ (by omega)
     have A:bk X ox (min m g*k)=some (new.take (min m g*k)):=by
      unfold bk;rw[q0n (by omega),s2,List.take_take,q3k S]
     obtain⟨w,T,E⟩:=e2.sub A;exact⟨w,by simp only[kP,e1,T],E⟩
  obtain⟨U,w,T,E⟩:=key;obtain⟨q1,q2,q3⟩:=iu _ _ _ _ d;have hgl:=E.length
  (try simp only[nZ,hu,U,P,T,hf])
  refine⟨mj E j,by omega,I.sub (by omega),?_⟩;refine hk _ _ _ _ _ _ (PLe.refl _) (F.put i Y ?_ aa) (.si _ _) k';exact⟨_,ty,fz,rfl,by omega,by rw[fk];omega,I,Q,v.set d E (by omega)⟩
theorem EC(D:HR φ H n h0 h){t u:TypeId}{s x:AV}{sv xv:Value}(N:VR φ s sv)(T:VR φ x xv)(V:bF t u s x H n κ)(O:cn φ h0 κ K):iK Tryz.prog t u sv xv h (sx K):=by
 cases V with
 |grow k by' m sn new old G zz ty src d F row A I=>
  obtain⟨e,ud,z,L,g,i,j,r,v,E,M,c3⟩:=ty.h;obtain⟨nv,w,y⟩:=pe D T src;cases row with
  |nsl=>
   rw[N.cZ];exact Cb D O I L g i j r v E M w y d A
  | @rw b o _ l _ _ U f=>
   rcases N.gO with⟨rfl,J⟩|⟨p,a,C,P,rfl,V,Z,g4,g7,g5,g6⟩
   ·have:=J.nil (by decide);subst this;obtain⟨_,rfl⟩:=bo f;rw[q1h,List.take_zero]at I;exact Cb (D.kill aa b) O I L g i j r v E M w y d A
   ·refine B9 D O I L g i j r v E M w y d F A U P Z g4 (g5 (by decide)) ?_;by_cases W:sn=0
    ·subst W;obtain⟨_,rfl⟩:=bo f;exact .inl ⟨rfl,by simp⟩
    ·have:=V W;subst this;exact .inr (by rw[q3b];exact f)
  | @sl b o _ c l _ _ U f hnc hc=>
   obtain⟨p,C,P,rfl,hC0,_⟩:=N.eQ;have:=hC0 rfl
   subst this;obtain⟨ob,_,_,cc,ty,fz,rfl,q1,_⟩:=D.of U P;exact B9 D O I L g i j r v E M w y d F A U P (q0j _ _) hnc (by omega) (.inr (by rw[q3b];exact f))
 |exact k by' m b o sn new old Q ty src d F hm row A I=>
  obtain⟨e,ud,z,L,g,i,j,r,v,E,M,c3⟩:=ty.h;obtain⟨nv,w,y⟩:=pe D T src;obtain⟨ov,X,R⟩:=pe D N row;subst Q
  have Y:ov.length=sn*k:=by
   cases row with
   |rw _ f=>obtain⟨g1,g2⟩:=bo f;rw[<-R.length,g2];simp;omega
   |old e=>cases e
  rcases N.gO with⟨rfl,J⟩|⟨p,a,C,P,rfl,V,Z,g4,g7,g5,g6⟩
  ·have:=J.nil (by decide);subst this;exact⟨e,ud,k,by',z,m,nv,L,g,i,j,r,v,E,M,w,λS=>by omega,λ_=>⟨A,ov,X,uD O I D R y Y d E⟩⟩
  ·have:=g6 rfl
   exact⟨e,ud,k,by',z,m,nv,L,g,i,j,r,v,E,M,w,λS=>by omega,λ_=>⟨A,ov,X,uD O I D R y Y d E⟩⟩
 |b7 k by' b o sn q l zz Q hq ty src U I=>
  obtain⟨e,ud,z,L,g,i,j,r,v,E,M,c3⟩:=ty.h;obtain⟨nv,w,y⟩:=pe D T src;have hnv:=y.aQ;subst hnv;subst Q;rcases N.gO with⟨rfl,J⟩|⟨p,a,C,P,rfl,V,Z,g4,g7,g5,g6⟩
  ·have:=J.nil hq;subst this;exact⟨e,ud,k,by',z,0,[],L,g,i,j,r,v,E,M,w,λ_=>⟨h,Sub.refl _,O φ _ _ _ (.slice none 0 0) h (PLe.refl _) D N I⟩,λhgt=>by omega⟩
  ·obtain⟨ob,_,h2,cc,tt,fz,rfl,q1,q2,q3,_,_⟩:=D.of U P;refine⟨e,ud,k,by',z,0,[],L,g,i,j,r,v,E,M,w,λ_=>?_,λhgt=>by omega⟩;unfold tD;dsimp only;rw[h2];refine⟨rfl,by simp only[q1e];omega,qR.sub q3 (by simp only[q1e];omega),h,⟨rfl,λx o e=>?_⟩,O φ _ _ _ _ h (PLe.refl _) D N I⟩;by_cases T:x=p.B
   ·subst T;rw[bS];rw[h2]at e;exact e
   ·rw[aW _ _ _ _ T];exact e
theorem cj{o:Op}(ho:bR o=false)(a:dD Tryz.prog o ρ h λv=>K v h):bG Tryz.prog o ρ h K:=by
 unfold bG;rw[ho];exact a
theorem gB{o:Op}(ho:bR o=true)(a:nJ Tryz.prog o ρ h K):bG Tryz.prog o ρ h K:=by
 unfold bG;rw[ho];exact a
theorem vH{l:List Operand}{s x:AV}(b:FR φ σ ρ)(e:l.map (eev σ)=[s,x]):∃v u,l.map ρ.ev=[v,u]/\VR φ s v/\VR φ x u:=by
 have hm:=VRs.map b.ev l;rw[e]at hm;obtain⟨c,us,a,d,f⟩:=hm.cons_inv;obtain⟨g,ws,i,j,o⟩:=f.cons_inv;rw[i,o.aQ]at a;exact⟨c,g,a,d,j⟩
theorem Rx{l:List Operand}{s x y:AV}(b:FR φ σ ρ)(e:l.map (eev σ)=[s,x,y]):∃v u w,l.map ρ.ev=[v,u,w]/\VR φ s v/\VR φ x u/\VR φ y w:=by
 have hm:=VRs.map b.ev l;rw[e]at hm;obtain⟨c,us,a,d,f⟩:=hm.cons_inv;obtain⟨g,ws,i,j,o⟩:=f.cons_inv;obtain⟨p,xs,q,r,A⟩:=o.cons_inv;rw[i,q,A.aQ]at a;exact⟨c,g,p,a,d,j,r⟩
theorem Ry{l:List Operand}{s:AV}(b:FR φ σ ρ)(e:l.map (eev σ)=[s]):∃v,l.map ρ.ev=[v]/\VR φ s v:=by
 have hm:=VRs.map b.ev l;rw[e]at hm;obtain⟨c,us,a,d,f⟩:=hm.cons_inv;rw[f.aQ]at a;exact⟨c,a,d⟩
theorem tQ(B:oz call)(j:HR φ H n h0 h)(A:FR φ σ ρ){c:Call}(b:tM c call σ H n κ)(C:cn φ h0 κ K):bG Tryz.prog (.call c) ρ h K:=by
 have hm:=VRs.map A.ev c.args.toList;have fin:∀r u,κ r H n->VR φ r u->K u h:=λr u d E=>C φ r H n u h (PLe.refl _) j E d
 obtain⟨callee,args,p⟩:=c;unfold tM at b;dsimp only at b hm;split at b
 ·rename_i f;have F:=A.ev f;split at b
  ·rename_i g a cs q;rw[q]at F;obtain⟨J,L,M,d,i⟩:=F.m6;refine gB rfl ?_
   show x8 Tryz.prog (ρ.ev f) (args.map ρ.ev) h K;rw[M];show dH Tryz.prog g (J++args.map ρ.ev++L) h K;refine B g _ _ _ _ b φ h0 h _ K j ?_ C;rw[q3p,q3p,q3s];exact(d.append hm).append i
  ·exact b.elim
 ·refine cj rfl ?_
  show dI Tryz.prog .len p.toList (args.toList.map ρ.ev) h λv=>K v h
  split at b
  ·rename_i t x D l;obtain⟨v,o,d⟩:=Ry A l;rw[D,o];exact vG j d b λr u=>fin r u
  ·exact b.elim
 ·refine cj rfl ?_
  show dI Tryz.prog .min p.toList (args.toList.map ρ.ev) h λv=>K v h
  split at b
  ·rename_i x y l;obtain⟨v,u,o,d,i⟩:=vH A l;rw[o];exact iw d i b λr u=>fin r u
  ·rename_i x y z l;obtain⟨v,u,w,o,d,i,I⟩:=Rx A l;rw[o];exact iw d i b λr u j E=>iw E I j λr u=>fin r u
  ·exact b.elim
 ·refine cj rfl ?_
  show dI Tryz.prog .max p.toList (args.toList.map ρ.ev) h λv=>K v h
  split at b
  ·rename_i x y l;obtain⟨v,u,o,d,i⟩:=vH A l;rw[o];exact iw d i b λr u=>fin r u
  ·rename_i x y z l;obtain⟨v,u,w,o,d,i,I⟩:=Rx A l;rw[o];exact iw d i b λr u j E=>iw E I j λr u=>fin r u
  ·exact b.elim
 ·refine gB rfl ?_
  show iL Tryz.prog .append p.toList (args.toList.map ρ.ev) h K;split at b
  ·rename_i t u s x D l;obtain⟨v,w,o,d,i⟩:=vH A l;rw[D,o];unfold F7 at b;cases G:(isR s||isR x)with
   |true=>rw[G]at b;exact EC j d i b C
   |false=>rw[G]at b;exact yr C b (λ_ _ _ e=>lX j d i e) (λ_ _ _ e=>lX j d.hd i.hd e)
  ·exact b.elim
 ·refine gB rfl ?_
  show iL Tryz.prog .copy p.toList (args.toList.map ρ.ev) h K;split at b
  ·rename_i t u s x D l;obtain⟨v,w,o,d,i⟩:=vH A l;rw[D,o];unfold Rr at b;cases G:isR x with
   |true=>rw[G]at b;exact Cc j d i b C
   |false=>rw[G]at b;exact yr C b (λ_ _ _ e=>ow j d i e) (λ_ _ _ e=>ow j d.hd i.hd e)
  ·exact b.elim
 ·refine gB rfl ?_
  show iL Tryz.prog .delete p.toList (args.toList.map ρ.ev) h K;split at b
  ·rename_i t u s x D l;obtain⟨v,w,o,d,i⟩:=vH A l;rw[D,o];exact yr C b (λ_ _ _ e=>qj j d i e) (λ_ _ _ e=>qj j d i.hdK e)
  ·exact b.elim
 ·exact b.elim
theorem oB{t:TypeId}{k:IntKind}(h:pc Tryz.prog t=some k):Tryz.prog.underlying t=some (.int k):=by
 unfold pc at h;split at h
 ·rename_i e;injection h with h;subst h;exact e
 ·cases h
theorem MR.at{φ:Ph}:∀{es:List (AV×AV)} {ms:List MapEntry},MR φ es ms->∀{i:Nat} {m:MapEntry},ms[i]?=some m->∃e,es[i]?=some e/\VR φ e.1 m.key/\VR φ e.2 m.val
 | [],ms,h,i,m,e=>by rw[show ms=[] from h]at e;simp at e
 |x::es,ms,⟨f,us,a,b,c,d⟩,0,m,e=>by
  subst a;simp only[q1m,q1r]at e;subst e;exact⟨x,rfl,b,c⟩
 |x::es,ms,⟨f,us,a,b,c,d⟩,i+1,m,e=>by
  subst a;simp only[q1d]at e⊢;exact MR.at d e
theorem yu(c:HR φ H n h0 h){a:AV}{v:Value}{it b m:Nat}{seen:List Nat}{es:List (AV×AV)}(l:a= .ptr it 0)(o:VR φ a v)(hi:H.get it=some (.iter b m seen))(r:H.get b=some (.map es))(w:es.length=m):
 ∃p q ms,p.s+0=0/\φ it=some p/\φ b=some q/\v= .pointer (some ⟨p.B,p.s+0,none⟩)/\h.f p.B=some (.mapIter (some q.B) m seen.toArray m)/\h.f q.B=some (.map ms m)/\MR φ es ms.toList/\vq ms.toList m:=by
 subst l w;obtain⟨p,d,rfl⟩:=o.cD;obtain⟨x,_,y,hs0,q,g,rfl⟩:=c.of hi d;obtain⟨x,_,A,ms,cl,rfl,i,j⟩:=c.of r g;have:cl=es.length:=j.1.trans i.length.symm;subst this;exact⟨p,q,ms,by omega,d,g,rfl,y,A,i,j⟩
theorem vI(c:HR φ H n h0 h){a:AV}{v:Value}{it b m:Nat}{seen bs:List Nat}{es:List (AV×AV)}(i:a= .ptr it 0)(j:VR φ a v)(hi:H.get it=some (.iter b m seen))(l:H.get b=some (.mp es bs m)):
 ∃p q ms,p.s+0=0/\φ it=some p/\φ b=some q/\v= .pointer (some ⟨p.B,p.s+0,none⟩)/\h.f p.B=some (.mapIter (some q.B) m seen.toArray m)/\h.f q.B=some (.map ms m)/\MR φ es ms.toList/\(ms.toList.map λx=>x.born)=bs:=by
 subst i;obtain⟨p,d,rfl⟩:=j.cD;obtain⟨o,_,r,hs0,q,g,rfl⟩:=c.of hi d;obtain⟨o,_,w,ms,rfl,y,A⟩:=c.of l g;exact⟨p,q,ms,by omega,d,g,rfl,r,w,y,A⟩
theorem ED (g:HR φ H n h0 h) {a:AV} {v:Value} {κ:PK} {K:KH} {it b m:Nat} {seen bs:List Nat} {es:List (AV×AV)} (A:VR φ a v) (C:a= .ptr it 0) (hi:H.get it=some (.iter b m seen)) (D:H.get b=some (.mp es bs m)) (E:∀x∈bs,x<m)
 (uu:(∀x∈bs,x∈seen)->κ (.tup [.bool false]) H n)
 (step:∀(i:Nat) e x,es[i]?=some e->bs[i]?=some x->x∉seen->κ (.tup [.bool true,Go.Proofs.YtflehenfikoniaaGreat.mk e.1,e.2]) (H.set (some (.iter b m (seen++ [x]))) aa it) n) (y:cn φ h0 κ K):tF v false h K:=by
 obtain⟨p,q,ms,F,G,I,rfl,J,L,M,N⟩:=vI g C A hi D;subst N;rw[F]
 (try simp only[tF,J,L])
 refine⟨λe d=>E _ (List.mem_map_of_mem d),Z3 _,λh0=>?_,λe d=>?_⟩
 ·refine y φ _ H n _ h (PLe.refl _) g (.tup (.cons (.bool _) .nil)) (uu λx j=>?_);obtain⟨e,d,rfl⟩:=q0m.1 j;have c:e∉pR ms.toList seen.toArray:=by rw[h0];simp
  simp only[pR,q0v,d,true_and]at c;simpa using c
 ·simp only[pR,q0v]at d;obtain⟨l,o⟩:=d;obtain⟨i,f⟩:=List.getElem?_of_mem l;obtain⟨x,j,r,s⟩:=M.at f;have w:e.born∉seen:=by simpa using o
  have ho:OR φ p (.iter b m (seen++ [e.born])) (.mapIter (some q.B) m (seen.toArray.push e.born) m):=⟨by omega,q,I,by simp⟩;exact y φ _ _ n _ _ (PLe.refl _) (g.put hi G ho aa) (.tup (.cons (.bool _) (.cons r.mk (.cons s .nil)))) (step i x e.born j (by rw[q0q,f];rfl) w)
theorem EE (E:HR φ H n h0 h) {a:AV} {v:Value} {κ:AV->Prop} {K:Value->Prop} {it b m i x:Nat} {seen bs:List Nat} {es:List (AV×AV)} {e:AV×AV} (F:VR φ a v) (G:a= .ptr it 0) (hi:H.get it=some (.iter b m (seen++ [x]))) (I:H.get b=some (.mp es bs m)) (f:bs.Nodup) (D:bs[i]?=some x) (J:es[i]?=some e)
 (k:κ (.tup [Go.Proofs.YtflehenfikoniaaGreat.mk e.1,e.2])) (L:∀r u,κ r->VR φ r u->K u):mU v h K:=by
 obtain⟨p,q,ms,M,T,U,rfl,N,O,P,Q⟩:=vI E G F hi I;subst Q;rw[M];rw[q0q,Z7]at D;obtain⟨w,g,rfl⟩:=D;obtain⟨y,d,l,o⟩:=P.at g;rw[J]at d;injection d with d;subst d;have s:i<ms.toList.length:=(X6.1 g).1;have c:ms.toList[i]=w:=(X6.1 g).2;have A:(seen++ [w.born]).toArray.back?=some w.born:=by simp
 have B:ms.find? (·.born==w.born)=some w:=by
  rw[<-Array.find?_toList,List.find?_eq_some_iff_getElem];refine⟨by simp,i,s,c,λj R=>?_⟩
  have C:¬(ms.toList[j]'(by omega)).born=w.born:=λq=>by
   have S:(ms.toList.map λx=>x.born)[j]'(by rw[Y0];omega)=(ms.toList.map λx=>x.born)[i]'(by rw[Y0];omega):=by
    rw[List.getElem_map,List.getElem_map,c];exact q
   exact q3i.1 f j i (by rw[Y0];omega) (by rw[Y0];omega) R S
  simpa using C
 (try simp only[mU,N,O,A,B])
 exact⟨trivial,L _ _ k (.tup (.cons l.mk (.cons o .nil)))⟩
theorem I6(o:HR φ H n h0 h){a:AV}{v:Value}{s:Bool}{κ:PK}{K:KH}(M:VR φ a v)(N:Nxt H a s λv H=>κ v H n)(y:cn φ h0 κ K):tF v s h K:=by
 rcases N with⟨it,b,m,seen,es,rfl,A,r,C,D,uu,step⟩|⟨it,b,m,seen,es,bs,rfl,A,r,C,D,uu,step⟩
 case mp=>exact ED o M A r C D uu step y
 obtain⟨p,q,ms,O,P,Q,rfl,R,S,T,f⟩:=yu o A M r C D;rw[O]
 (try simp only[tF,R,S])
 refine⟨λe w=>?_,Z3 _,λh0=>?_,λe w=>?_⟩
 ·obtain⟨i,c⟩:=List.getElem?_of_mem w;have:=(X6.1 c).1;rw[f.2 i e c,f.1];omega
 ·refine y φ _ H n _ h (PLe.refl _) o (.tup (.cons (.bool _) .nil)) (uu λi E=>?_);have g:i<ms.toList.length:=by rw[<-f.1];exact E
  have d:ms.toList[i]∉pR ms.toList seen.toArray:=by rw[h0];simp
  have F:=f.2 i _ (X4 g);simp only[pR,q0v,q0b,true_and,F]at d;simpa using d
 ·simp only[pR,q0v]at w;obtain⟨G,j⟩:=w;obtain⟨i,c⟩:=List.getElem?_of_mem G;have l:=f.2 i e c;obtain⟨x,U,I,J⟩:=T.at c;have L:i∉seen:=by rw[l]at j;simpa using j
  have ho:OR φ p (.iter b m (seen++ [i])) (.mapIter (some q.B) m (seen.toArray.push e.born) m):=⟨by omega,q,Q,by rw[l];simp⟩;exact y φ _ _ n _ _ (PLe.refl _) (o.put r P ho aa) (.tup (.cons (.bool _) (.cons I.mk (.cons J .nil)))) (step i x U L)
theorem I7(F:HR φ H n h0 h){a:AV}{v:Value}{κ:AV->Prop}{K:Value->Prop}(G:VR φ a v)(L:Ent H a κ)(I:∀r u,κ r->VR φ r u->K u):mU v h K:=by
 rcases L with⟨it,b,m,i,seen,es,e,g,l,o,J,f,k⟩|⟨it,b,m,i,x,seen,es,bs,e,g,l,o,s,d,f,k⟩
 case mp=>exact EE F G g l o s d f k I
 obtain⟨p,q,ms,M,Q,R,rfl,N,O,P,w⟩:=yu F g G l o J;rw[M];have c:i<ms.toList.length:=by rw[<-w.1,<-J];exact(X6.1 f).1
 obtain⟨x,d,y,A⟩:=P.at (X4 c);have B:=w.2 i _ (X4 c);rw[f]at d;injection d with d;subst d;have C:(seen++ [i]).toArray.back?=some i:=by simp
 have D:ms.find? (·.born==i)=some ms.toList[i]:=by
  rw[<-Array.find?_toList,List.find?_eq_some_iff_getElem];refine⟨by simpa using B,i,c,rfl,λj S=>?_⟩;have:=w.2 j _ (X4 (by omega));have E:¬(ms.toList[j]'(by omega)).born=i:=by rw[this];omega
  simpa using E
 (try simp only[mU,N,O,C,D])
 exact⟨trivial,I _ _ k (.tup (.cons y.mk (.cons A .nil)))⟩
theorem Cd(D:oz call)(j:HR φ H n h0 h)(g:FR φ σ ρ){o:Op}(i:vC o call σ H n κ)(A:cn φ h0 κ K):bG Tryz.prog o ρ h K:=by
 have fin:∀r u,κ r H n->VR φ r u->K u h:=λr u E G=>A φ r H n u h (PLe.refl _) j G E
 unfold vC at i;split at i
 ·exact cj rfl (fin _ _ i (g.ev _))
 ·exact cj rfl (fin _ _ i (g.ev _))
 ·rename_i c a b;obtain⟨q,E,w,N⟩:=yt (g.ev c) i;refine cj rfl ?_
  (try simp only[dD,E])
  cases q with
  |true=>exact fin _ _ (w rfl) (g.ev _)
  |false=>exact fin _ _ (N rfl) (g.ev _)
 ·exact cj rfl (oA j (g.ev _) i λr u=>fin r u)
 ·exact gB rfl (ri j (g.ev _) (g.ev _) i A)
 ·exact cj rfl (vF j (g.ev _) (g.ev _) i λr u=>fin r u)
 ·exact cj rfl (yp (g.ev _) i λr u=>fin r u)
 ·exact cj rfl (mn (g.ev _) (g.ev _) i λr u=>fin r u)
 ·exact cj rfl (rh (g.ev _) (g.ev _) i λr u=>fin r u)
 ·rename_i t x lo Z mx;refine cj rfl ?_
  show du Tryz.prog t (ρ.ev x) (lo.map ρ.ev) (Z.map ρ.ev) (mx.map ρ.ev) λv=>K v h
  exact rl (κ:=λv=>κ v H n) g i λr u=>fin r u
 ·exact gB rfl (yr A i (λ_ _ _ e=>ou j (g.ev _) (g.ev _) e) (λ_ _ _ e=>ou j (g.ev _).hd (g.ev _).hd e))
 ·rename_i s d x;refine gB rfl ?_
  show iq Tryz.prog s d (ρ.ev x) h K;unfold Rs at i;split at i
  ·rename_i a q;have F:=g.ev x;rw[q]at F;rw[F.fO];split at i
   ·rename_i R S e1 e2
    (try simp only[iq,oB e1,oB e2])
    exact fin _ _ i (.si _ _)
   ·exact i.elim
  ·have F:=g.ev x;cases i with
   |mk b o m k' q l' new T O hq ty I P l J=>
    obtain⟨el,U,V,W⟩:=ty;rw[O]at F;rcases F.gO with⟨rfl,Q⟩|⟨p,y,C,X,hv,ha,g3,g4,g7,g5,g6⟩
    ·rw[Q.nil hq];obtain⟨_,rfl⟩:=bo P;have l:kU []=some T:=by simpa using l
     injection l with l;subst l
     (try simp only[iq,U,W])
     exact⟨V,fin _ _ J (.ss (s:=[]) (λ_ F=>by cases F))⟩
    ·rw[hv]
     have key:∃c t fz,h.f p.B=some (.cells c t fz)/\CR φ c p.s l':=by
      rcases I with I|⟨z,I⟩
      ·obtain⟨ob,_,w,c,t,fz,rfl,N,h4,L⟩:=j.of I X;exact⟨c,t,fz,w,L⟩
      ·obtain⟨ob,_,w,c,t,fz,rfl,N,h4,_,_,L⟩:=j.of I X;exact⟨c,t,fz,w,L⟩
     obtain⟨c,t,fz,w,L⟩:=key
     obtain⟨M,R,S⟩:∃M,cN c y m=some M/\VRs φ new M:=by
      by_cases Y:m=0
      ·subst Y;obtain⟨_,rfl⟩:=bo P;exact⟨[],rfl,by simpa using VRs.nil⟩
      ·have:=ha Y;subst this;exact L.sub P
     obtain⟨k3,k4⟩:=lE new T M S l;simp only[iq,U,W,w,R,q1x,k3];exact⟨V,fin _ _ J (.ss k4)⟩
  ·exact yr A i (λ_ _ _ e=>ot j (g.ev x) e) (λ_ _ _ e=>ot j (g.ev x).hd e)
 ·exact tQ D j g i A
 ·rename_i t m k ok;refine cj rfl ?_
  show fF Tryz.prog t (ρ.ev m) (ρ.ev k) ok h λv=>K v h
  cases q:IU (eev σ k)with
  |true=>
   rw[q]at i;obtain⟨r,E,w⟩:=Ask.inv i;exact gT j (g.ev _) (g.ev _).hdK E λu G=>fin r u w G
  |false=>
   rw[q]at i;obtain⟨r,E,w⟩:=aS i;exact gT j (g.ev _) (g.ev _) E λu G=>fin r u w G
 ·exact gB rfl (I6 j (g.ev _) i A)
 ·exact cj rfl (I7 j (g.ev _) i λr u=>fin r u)
 ·exact gB rfl (yr A i (λ_ _ _ e=>jx j (g.ev _) (g.ev _) (g.ev _) e) (λ_ _ _ e=>jx j (g.ev _) (g.ev _).hdK (g.ev _) e))
 ·exact tO j g i A
end
def Sg{α:Type}(m:(α->Prop)->Prop):Prop:=∀b,m b->∃v,b v/\∀a:α->Prop,a v->m a
section
variable {α β:Type}
theorem Sg.one(a:α):Sg (λκ=>κ a):=λ_ h=>⟨a,h,λ_ h=>h⟩
theorem Sg.no:Sg (λ_:α->Prop=>False):=λ_ h=>h.elim
theorem Sg.opt(o:Option α):Sg (λκ=>cm o κ):=λκ h=>by
 obtain⟨a,rfl,k⟩:=aS h;exact⟨a,k,λ_ h=>h⟩
theorem Sg.ask(o:Option α):Sg (λκ=>Ask o κ):=λ_ ⟨a,h,k⟩=>⟨a,k,λ_ b=>⟨a,h,b⟩⟩
theorem Sg.idx(i:Int)(len:Nat):Sg (λκ=>Idx i len κ):=λ_ ⟨j,h,lt,k⟩=>⟨j,k,λ_ a=>⟨j,h,lt,a⟩⟩
theorem Sg.bind{m:(α->Prop)->Prop}{k:α->(β->Prop)->Prop}(b:Sg m)(c:∀a,Sg (k a)):Sg (λκ=>m (λa=>k a κ)):=λκ h=>by
 obtain⟨a,d,e⟩:=b _ h;obtain⟨v,f,g⟩:=c a _ d;exact⟨v,f,λi j=>e _ (g _ j)⟩
theorem Sg.map{m:(α->Prop)->Prop}(f:α->β)(b:Sg m):Sg (λκ=>m (λa=>κ (f a))):=b.bind λa=>Sg.one (f a)
theorem Sg.EF{k:α->(β->Prop)->Prop}(o:Option α)(b:∀a,Sg (k a)):Sg (λκ=>cm o λa=>k a κ):=Sg.bind (Sg.opt o) b
theorem Sg.bif{b:Bool}{m:(α->Prop)->Prop}(a:Sg m):Sg (λκ=>ff b (m κ) False):=by
 cases b
 ·exact Sg.no
 ·exact a
theorem Sg.ON{b:Bool}{m c:(α->Prop)->Prop}(d:Sg m)(a:Sg c):Sg (λκ=>ff b (m κ) (c κ)):=by
 cases b
 ·exact a
 ·exact d
theorem Sg.OO{b:Bool}{m:(α->Prop)->Prop}(a:Sg m):Sg (λκ=>ff b False (m κ)):=Sg.ON Sg.no a
theorem Sg.and{p:Prop}{m:(α->Prop)->Prop}(b:Sg m):Sg (λκ=>p/\m κ):=λκ ⟨c,d⟩=>by
 obtain⟨v,e,f⟩:=b κ d;exact⟨v,e,λa g=>⟨c,f a g⟩⟩
theorem Sg.fork{q:Bool}{m g:(α->Prop)->Prop}(i:Sg m)(b:Sg g):Sg (λκ=>ae q (m κ) (g κ)):=λκ h=>by
 cases q with
 |true=>
  obtain⟨v,c,d⟩:=i κ (h.t rfl);exact⟨v,c,λa e=>⟨λ_=>d a e,λq=>by cases q⟩⟩
 |false=>
  obtain⟨v,c,d⟩:=b κ (h.f rfl);exact⟨v,c,λa e=>⟨(λq=>by cases q),λ_=>d a e⟩⟩
theorem Sg.pick(c a b:AV):Sg (λκ=>B6 c (κ a) (κ b)):=by
 cases c
 case bool q=>cases q<;>exact Sg.one _
 case sb q=>exact Sg.fork (Sg.one _) (Sg.one _)
 all_goals exact Sg.no
end
theorem Sg.sym{op:BinOp}{k j:IntKind}{a b:Int}{c:Bool}:Sg (λκ=>IV op k j a b c κ):=by
 cases op
 case shl=>cases c<;>first|exact Sg.and (Sg.one _)|exact Sg.OO (Sg.one _)
 case shr=>cases c<;>first|exact Sg.and (Sg.one _)|exact Sg.OO (Sg.one _)
 case quo=>cases c<;>first|exact Sg.bif (Sg.and (Sg.one _))|exact Sg.bif (Sg.OO (Sg.one _))
 case rem=>cases c<;>first|exact Sg.bif (Sg.and (Sg.one _))|exact Sg.bif (Sg.OO (Sg.one _))
 all_goals exact Sg.bif (Sg.one _)
theorem Sg.str{op:BinOp}{a b:List Nat}:Sg (λκ=>IW op a b κ):=by
 cases op
 case add=>exact Sg.and (Sg.one _)
 all_goals first|exact Sg.one _|exact Sg.no
theorem Sg.bol{op:BinOp}{t:TypeId}{a b:Bool}:Sg (λκ=>Lg op t a b κ):=by
 cases op<;>first|exact Sg.bif (Sg.one _)|exact Sg.bif Sg.no
theorem Sg.bin{op:BinOp}{t:TypeId}{x y:AV}{H:AH}:Sg (λκ=>IX op t x y H κ):=by
 unfold IX;split<;>first|exact Sg.sym|exact Sg.str|exact Sg.bol|exact Sg.ON (Sg.map mk (Sg.opt _)) (Sg.opt _)|exact Sg.opt _
theorem Sg.un{op:UnOp}{x:AV}:Sg (λκ=>unP op x κ):=by
 unfold unP;split<;>first|exact Sg.one _|exact Sg.opt _
theorem Sg.mm{q:Bool}{x y:AV}:Sg (λκ=>mmP q x y κ):=by
 unfold mmP;split<;>first|exact Sg.one _|exact Sg.opt _
theorem Sg.len{t:TypeId}{x:AV}{H:AH}:Sg (λκ=>IY t x H κ):=by
 unfold IY;split<;>first|exact Sg.map mk (Sg.opt _)|exact Sg.opt _|exact Sg.bif (Sg.one _)
theorem Sg.ix{ix:AV}{len:Nat}{s:Bool}:Sg (λκ=>ixP ix len s κ):=by
 unfold ixP;split<;>first|exact Sg.idx _ _|exact Sg.opt _
theorem Sg.indexAddr{t:TypeId}{x ix:AV}:Sg (λκ=>jf t x ix κ):=by
 have h:∀κ,jf t x ix κ=(match Tryz.prog.underlying t,x with
  |some (.slice e),.sl b o n _ _=>cm (aB Tryz.prog e) λk=>ixP ix n false λi=>κ (.ptr b (o+i*k))
  |some (.slice e),.sy b o n _ _=>cm (aB Tryz.prog e) λk=>ixP ix n true λi=>κ (.ptr b (o+i*k))
  |some (.slice e),.rw b o n _ _=>cm (aB Tryz.prog e) λk=>ixP ix n true λi=>κ (.ptr b (o+i*k))
  |some (.slice e),.fr n a l=>cm (aB Tryz.prog e) λk=>ff (Nat.beq k a) (ixP ix n true λi=>κ (.fa l (i*k))) False
  |some (.array len e),.ptr b o=>cm (aB Tryz.prog e) λk=>ixP ix len false λi=>κ (.ptr b (o+i*k))
  |_,_=>False):=λ_=>rfl
 (try simp only[h])
 split<;>first|exact Sg.no|exact Sg.EF _ λk=>Sg.map _ Sg.ix|exact Sg.EF _ λk=>Sg.bif (Sg.map _ Sg.ix)
theorem Sg.index{t:TypeId}{x ix:AV}:Sg (λκ=>sS t x ix κ):=by
 have h:∀κ,sS t x ix κ=(match Tryz.prog.underlying t,x with
  |some (.array len e),.agg l=>cm (aB Tryz.prog e) λk=>ixP ix len false λi=>cm (yd Tryz.prog e l (i*k)) κ
  |some .string,.str s=>ixP ix s.length false λi=>cm (nth s i) λc=>(match ix with
   | .int _ _=>κ (.int .u8 (Int.ofNat c))
   |_=>κ (.si .u8 (Int.ofNat c)))
  |some .string,.ss s=>ixP ix s.length true λi=>Ask (nth s i) λc=>κ (.si .u8 (Int.ofNat c))
  |_,_=>False):=λ_=>rfl
 (try simp only[h])
 split
 ·exact Sg.EF _ λk=>Sg.bind Sg.ix λi=>Sg.opt _
 ·refine Sg.bind Sg.ix λi=>Sg.EF _ λc=>?_
  split<;>exact Sg.one _
 ·exact Sg.bind Sg.ix λi=>Sg.map _ (Sg.ask _)
 ·exact Sg.no
theorem Sg.get{l:List AV}{t:TypeId}{o:Nat}:Sg (λκ=>vB l t o κ):=by
 have h:∀κ,vB l t o κ=(match nH Tryz.prog t with
  |some false=>cm (nth l o) κ
  |some true=>cm (aB Tryz.prog t) λm=>cm (bk l o m) λr=>κ (.agg r)
  |none=>False):=λ_=>rfl
 (try simp only[h])
 split
 ·exact Sg.opt _
 ·exact Sg.EF _ λm=>Sg.map _ (Sg.opt _)
 ·exact Sg.no
theorem Sg.load{t:TypeId}{a:AV}{H:AH}:Sg (λκ=>tK t a H κ):=by
 have h:∀κ,tK t a H κ=(match a with
  | .ptr b o=>(match H.get b with
   |some (.cells l _)=>vB l t o κ
   |some (.ro l)=>vB l t o κ
   |_=>False)
  | .fa l o=>vB l t o κ
  |_=>False):=λ_=>rfl
 (try simp only[h])
 split
 ·split<;>first|exact Sg.get|exact Sg.no
 ·exact Sg.get
 ·exact Sg.no
theorem Sg.rsl{t:TypeId}{b o n k x:Nat}{lo hi mx:Option AV}:Sg (λκ=>Lh t b o n k x lo hi mx κ):=by
 have h:∀κ,Lh t b o n k x lo hi mx κ=(match Tryz.prog.underlying t with
  |some (.slice e)=>cm (aB Tryz.prog e) λes=>ff (Nat.beq es k) (RSl lo hi mx n λl h=>κ (F6 b o n k x lo hi mx l h)) False
  |_=>False):=λ_=>rfl
 (try simp only[h])
 split
 ·exact Sg.EF _ λes=>Sg.bif (λκ ⟨l,h,a,b,c,d,e,f⟩=>⟨_,f,λg i=>⟨l,h,a,b,c,d,e,i⟩⟩)
 ·exact Sg.no
theorem Sg.fsl{t:TypeId}{n k:Nat}{L:List AV}{lo hi:Option AV}:Sg (λκ=>Li t n k L lo hi κ):=by
 have h:∀κ,Li t n k L lo hi κ=(match Tryz.prog.underlying t with
  |some (.slice e)=>cm (aB Tryz.prog e) λes=>ff (Nat.beq es k) (RSl lo hi none n λl h=>κ (.fr (rwN n l h lo hi) k (frL k L l h lo hi))) False
  |_=>False):=λ_=>rfl
 (try simp only[h])
 split
 ·exact Sg.EF _ λes=>Sg.bif (λκ ⟨l,h,a,b,c,d,e,f⟩=>⟨_,f,λg i=>⟨l,h,a,b,c,d,e,i⟩⟩)
 ·exact Sg.no
theorem Sg.slice{t:TypeId}{x:AV}{lo hi mx:Option AV}:Sg (λκ=>ib t x lo hi mx κ):=by
 by_cases a:∃b o n k q,x= .rw b o n k q
 ·obtain⟨b,o,n,k,q,rfl⟩:=a;exact Sg.rsl
 by_cases c:∃n k q,x= .fr n k q
 ·obtain⟨n,k,q,rfl⟩:=c;cases mx with
  |none=>exact Sg.fsl
  |some y=>exact Sg.no
 ·have h:∀κ,ib t x lo hi mx κ=ff (isS x||(ib.sJ lo||(ib.sJ hi||ib.sJ mx))) (Ask (jc Tryz.prog t (hd x) (lo.map hd) (hi.map hd) (mx.map hd)) λv=>κ (mk v)) (cm (jc Tryz.prog t x lo hi mx) κ):=λκ=>by
   cases x<;>first|rfl|exact absurd ⟨_,_,_,_,_,rfl⟩ a|exact absurd ⟨_,_,_,rfl⟩ c
  (try simp only[h])
  exact Sg.ON (Sg.map mk (Sg.ask _)) (Sg.opt _)
theorem Sg.q{o:Op}{σ:AE}{H:AH}:Sg (λκ=>qP o σ H κ):=by
 unfold qP;split
 ·exact Sg.one _
 ·exact Sg.one _
 ·exact Sg.pick _ _ _
 ·exact Sg.load
 ·exact Sg.bin
 ·exact Sg.un
 ·exact Sg.indexAddr
 ·exact Sg.index
 ·exact Sg.slice
 ·exact Sg.ON (Sg.ask _) (Sg.opt _)
 ·split<;>first|exact Sg.len|exact Sg.no
 ·split<;>first|exact Sg.mm|exact Sg.no
 ·split<;>first|exact Sg.mm|exact Sg.no
 ·exact Sg.opt _
section
variable {φ:Ph} {H:AH} {n:Nat} {h0 h:Hp} {σ:AE} {ρ:Env} {cd:CP}
theorem Lx(j:HR φ H n h0 h)(e:FR φ σ ρ){o:Op}{κ:AV->Prop}{K:Value->Prop}(d:qP o σ H κ)(f:∀r u,κ r->VR φ r u->K u):dD Tryz.prog o ρ h K:=by
 have l:cm (ra Tryz.prog o σ H) κ->dD Tryz.prog o ρ h K:=λd=>by
  obtain⟨r,g,i⟩:=aS d;exact tJ j e g λu p=>f _ u i p
 unfold qP at d;split at d
 ·exact f _ _ d (e.ev _)
 ·exact f _ _ d (e.ev _)
 ·rename_i c a b;obtain⟨q,g,i,A⟩:=yt (e.ev c) d
  (try simp only[dD,g])
  cases q with
  |true=>exact f _ _ (i rfl) (e.ev _)
  |false=>exact f _ _ (A rfl) (e.ev _)
 ·exact oA j (e.ev _) d f
 ·exact vF j (e.ev _) (e.ev _) d f
 ·exact yp (e.ev _) d f
 ·exact mn (e.ev _) (e.ev _) d f
 ·exact rh (e.ev _) (e.ev _) d f
 ·rename_i t x lo B mx;show du Tryz.prog t (ρ.ev x) (lo.map ρ.ev) (B.map ρ.ev) (mx.map ρ.ev) K;exact rl e d f
 ·rename_i t m k ok;show fF Tryz.prog t (ρ.ev m) (ρ.ev k) ok h K;cases q:IU (eev σ k)with
  |true=>
   rw[q]at d;obtain⟨r,g,i⟩:=Ask.inv d;exact gT j (e.ev _) (e.ev _).hdK g λu p=>f r u i p
  |false=>
   rw[q]at d;obtain⟨r,g,i⟩:=aS d;exact gT j (e.ev _) (e.ev _) g λu p=>f r u i p
 ·rename_i xs s;show dI Tryz.prog .len s.toList (xs.toList.map ρ.ev) h K;split at d
  ·rename_i t x C w;obtain⟨v,z,g⟩:=Ry e w;rw[C,z];exact vG j g d f
  ·exact d.elim
 ·rename_i xs s;show dI Tryz.prog .min s.toList (xs.toList.map ρ.ev) h K;split at d
  ·rename_i x y w;obtain⟨v,u,z,g,i⟩:=vH e w;rw[z];exact iw g i d f
  ·exact d.elim
 ·rename_i xs s;show dI Tryz.prog .max s.toList (xs.toList.map ρ.ev) h K;split at d
  ·rename_i x y w;obtain⟨v,u,z,g,i⟩:=vH e w;rw[z];exact iw g i d f
  ·exact d.elim
 ·exact l d
theorem sV{v:AV}:∀{p:Pa} {σ:AE},aj p σ≠ .bad->aj p (sH v p σ)=v
 | .stop,σ,h=>(h rfl).elim
 | .here,.nil,h=>rfl
 | .here,.node _ _ _,h=>rfl
 | .lo p,.nil,h=>(h rfl).elim
 | .lo p,.node l u r,h=>sV (p:=p) (σ:=l) h
 | .hi p,.nil,h=>(h rfl).elim
 | .hi p,.node l u r,h=>sV (p:=p) (σ:=r) h
def fR(H H':AH):Prop:=∀b o,H.get b=some o->H'.get b=some o
theorem fR.refl(H:AH):fR H H:=λ_ _ h=>h
theorem fR.trans{A B C:AH}(h:fR A B)(k:fR B C):fR A C:=λb o e=>k b o (h b o e)
theorem HR.less{H':AH}(a:HR φ H' n h0 h)(c:fR H H'):HR φ H n h0 h:=
 ⟨a.dom,λb o d=>a.live b o (c b o d),λb e o f p g d i=>a.inj b e o f p g (c _ _ d) (c _ _ i),a.base,a.size,λz j=>⟨(a.frz z j).1,λy k l m=>(a.frz z j).2 y k l (c _ _ m)⟩,a.b7 (Z3 _) (λ_ _ h=>⟨c _ _ h,rfl⟩) (λ_ h=>h) (λ_ h=> .inl h) (λ_ _ _ _ _=>rfl) λe f g q r s=> .inl ⟨e,f,g,c _ _ q,r,s,rfl⟩⟩
def tR(cd:CP):Prop:=∀f args H n d,cd f args H n d->∃v b c,d v b c/\fR H b/\n<=c/\∀a:PK,a v b c->cd f args H n a
def yw(φ:Ph)(σ:AE)(a:List Nat)(ρ:Env):Prop:=∀t∈a,VR φ (aj (pa t) σ) (ρ t)
theorem kX:∀{b:List Nat},yw φ σ b ρ->FR φ (kV σ b) ρ
 | [],_,t,a,h=>by cases h
 |s::b,d,t,a,h=>by
  have h:(sH (aj (pa s) σ) (pa s) (kV σ b)).get t=some a:=h;rcases oj eO _ s t a h with⟨rfl,c⟩|⟨_,c⟩
  ·rw[<-c];exact d _ Y6
  ·exact kX (λx e=>d x (X7 _ e)) t a c
def Ly(ops:Array Oper)(o:Oper)(a:List Nat)(σ:AE)(H:AH)(v:AV):Prop:=∀(φ:Ph) (n:Nat) (h0 h:Hp) (ρ:Env) (K:Env->Hp->Prop),HR φ H n h0 h->yw φ σ a ρ->(∀u,VR φ v u->K (ρ.put o.dst u) h)->a8 Tryz.prog ops o ρ h K
def Rz(ops:Array Oper)(o:Oper)(b:List Nat)(σ:AE)(H:AH)(n:Nat)(v:AV)(H':AH)(c:Nat):Prop:=∀(φ:Ph) (h0 h:Hp) (ρ:Env) (K:Env->Hp->Prop),HR φ H n h0 h->yw φ σ b ρ->
 (∀a u g,PLe φ a->HR a H' c h0 g->VR a v u->K (ρ.put o.dst u) g)->a8 Tryz.prog ops o ρ h K
def Sup(x:Option AV)(a:AV):Prop:=∀φ u,(∀b,x=some b->VR φ b u)->VR φ a u
theorem Sup.refl{x:Option AV}{a:AV}(h:x=some a):Sup x a:=λφ u k=>k a h
theorem Sup.trans{x y:Option AV}{a:AV}(h:∀b,y=some b->Sup x b)(k:Sup y a):Sup x a:=λφ u q=>k φ u λb c=>h b c φ u q
structure zT(ops:Array Oper)(o:Oper)(b:DB)(hist:List (AH×Nat))(σ:AE)(H:AH)(n:Nat)(σr:AE)(v:AV)(H1:AH)(n1:Nat):Prop where
 sup:∀t a,σr.get t=some a->Sup (σ.get t) a
 grow:lY o.op=false->fR H H1
 le:n<=n1
 loud:bR o.op=true->Rz ops o b.2 σr H n v H1 n1
 still:bR o.op=false->H1=H/\n1=n/\∃G,(∀k r,b.1=some k->nth ((H,n)::hist) k=some r->G=r.1)/\Ly ops o b.2 σr G v
def bOk(o:Oper)(b:DB):Prop:=match b.1 with
 |none=>(uB o.op||lY o.op)=true
 |some _=>bR o.op=false
theorem EG{t:TypeId}{a v:AV}{H:AH}{n:Nat}{κ:PK}(h:ng t a v H n κ):∃H',κ cT H' n/\∀b:PK,b cT H' n->ng t a v H n b:=by
 unfold ng at h;split at h
 ·split at h
  ·rename_i l z c;obtain⟨s,d,e⟩:=aS h;obtain⟨f,g⟩:=fQ e;obtain⟨m,i,j⟩:=aS g;refine⟨_,j,λb k=>?_⟩;unfold ng;dsimp only;rw[c];dsimp only;rw[d];show ff _ _ _;rw[f];show cm _ _;rw[i];exact k
  ·exact h.elim
 ·exact h.elim
theorem EI(hcd:oz cd)(hcs:tR cd){ops:Array Oper}{o:Oper}{b:DB}{p:List (AH×Nat)}{k:KP}(C:bOk o b)(G:uC ops o b.2=true)(l:Lk ops o b cd p σ H n k):
 ∃i v Q R,zT ops o b p σ H n i v Q R/\k (cU i o.dst v) Q R:=by
 let go:AE->Prop:=λσ=>(match b.1 with
  |none=>(match o.op with
   | .call c=>tM c cd (kV σ b.2) H n λv H n=>k (cU σ o.dst v) H n
   | .store t a x=>ng t (eev (kV σ b.2) a) (eev (kV σ b.2) x) H n λv H n=>k (cU σ o.dst v) H n
   | .buildSlice t len parts=>ff (Nat.blt n 1000000) (match H.get n with
    |none=>B7 (.buildSlice t len parts) (kV σ b.2) H n λv H n=>k (cU σ o.dst v) H n
    |some _=>False) False
   |_=>False)
  |some j=>cm (nth ((H,n)::p) j) λr=>qP o.op (kV σ b.2) r.1 λv=>k (cU σ o.dst v) H n)
 have did:∀i,(∀t a,i.get t=some a->Sup (σ.get t) a)->(∀φ ρ h K,yw φ i b.2 ρ->bG Tryz.prog o.op ρ h (λv h'=>K (ρ.put o.dst v) h')->a8 Tryz.prog ops o ρ h K)->go i->
  ∃i v Q R,zT ops o b p σ H n i v Q R/\k (cU i o.dst v) Q R:=by
  intro i w A l;unfold bOk at C;simp only[go]at l;cases W:b.1 with
  |none=>
   rw[W]at l C;dsimp only at l C;split at l
   ·rename_i c m;obtain⟨callee,args,ats⟩:=c;rw[m]at C;cases callee with
    |builtin _=>cases C
    |invoke _ _=>cases C
    |value f=>
     unfold tM at l;dsimp only at l;split at l
     ·rename_i g a cs q;obtain⟨v,O,X,z,I,Z,h4⟩:=hcs _ _ _ _ _ l;refine⟨i,v,O,X,⟨w,λ_=>I,Z,λ_=>?_,λJ=>?_⟩,z⟩
      ·intro φ h0 h ρ K N d L;refine A φ ρ h K d ?_
       have hs2:tM ⟨.value f,args,ats⟩ cd (kV i b.2) H n λS T U=>S=v/\T=O/\U=X:=by
        unfold tM;dsimp only;rw[q];exact h4 _ ⟨rfl,rfl,rfl⟩
       rw[m]
       exact tQ hcd N (kX d) hs2 λψ S T U u g Y P V ⟨D,E,e3⟩=>by
        rw[D]at V;rw[E,e3]at P;exact L ψ u g Y P V
      ·rw[m]at J;cases J
     ·exact l.elim
   ·rename_i t a x m;obtain⟨O,z,I⟩:=EG l;refine⟨i,cT,O,n,⟨w,λq=>(by rw[m]at q;cases q),Z3 _,λ_=>?_,λJ=>?_⟩,z⟩
    ·intro φ h0 h ρ K N d L;refine A φ ρ h K d ?_;rw[m]
     exact ri N ((kX d).ev a) ((kX d).ev x) (I (λS T U=>S=cT/\T=O/\U=n) ⟨rfl,rfl,rfl⟩) λψ S T U u g Y P V ⟨D,E,e3⟩=>by
      rw[D]at V;rw[E,e3]at P;exact L ψ u g Y P V
    ·rw[m]at J;cases J
   ·rename_i t len parts m;obtain⟨hn1,l⟩:=fQ l;split at l
    ·rename_i hn;obtain⟨⟨v,O,X⟩,z,I⟩:=aS l
     have gr:fR H O/\n<=X:=by
      simp only[F4]at z;split at z
      ·injection z with z;injection z with _ z;injection z with z Z;subst z Z;refine⟨λb o C=>PM.aC _ _ _ _ ?_ (λq=>by subst q;exact(by cases hn.symm.trans C)) C,q2b _⟩;have Y:n<1000000:=Z0 hn1;have P:(1000001:Nat)<2^aa:=by show 1000001<2^40;decide
       omega
      ·cases z
     refine⟨i,v,O,X,⟨w,λ_=>gr.1,gr.2,λ_=>?_,λJ=>?_⟩,I⟩
     ·intro φ h0 h ρ K N d L;refine A φ ρ h K d ?_;rw[m]
      refine tO N (kX d) (κ:=λS T U=>S=v/\T=O/\U=X) ?_ λψ S T U u g Y P V ⟨D,E,e3⟩=>by
       rw[D]at V;rw[E,e3]at P;exact L ψ u g Y P V
      unfold B7;rw[z];exact⟨rfl,rfl,rfl⟩
     ·rw[m]at J;cases J
    ·exact l.elim
   ·exact l.elim
  |some j=>
   rw[W]at l C;dsimp only at l C;obtain⟨r,z,I⟩:=aS l;obtain⟨v,Z,h4⟩:=Sg.q _ I;refine⟨i,v,H,n,⟨w,λ_=> .refl _,Z3 _,λJ=>(by rw[J]at C;cases C),λ_=>⟨rfl,rfl,r.1,λk' r' D E=>?_,?_⟩⟩,Z⟩
   ·rw[W]at D;injection D with D;subst D;rw[z]at E;injection E with E;rw[E]
   ·intro φ n h0 h ρ K N d L;refine A φ ρ h K d (cj C ?_)
    exact Lx N (kX d) (h4 (λx=>x=v) rfl) λr u e hu=>by
     subst e;exact L u hu
 have skip:∀i,(∀t a,i.get t=some a->Sup (σ.get t) a)->(∀φ ρ h K,yw φ i b.2 ρ->K (ρ.put o.dst undef) h->a8 Tryz.prog ops o ρ h K)->k (cU i o.dst cT) H n->
  ∃i v Q R,zT ops o b p σ H n i v Q R/\k (cU i o.dst v) Q R:=by
  intro i w A l;refine⟨i,cT,H,n,⟨w,λ_=> .refl _,Z3 _,λJ=>?_,λ_=>?_⟩,l⟩
  ·intro φ h0 h ρ K N d L;exact A φ ρ h K d (L φ undef h (PLe.refl _) N .undef)
  ·refine⟨rfl,rfl,(match b.1 with
    |some k=>(match nth ((H,n)::p) k with
     |some r=>r.1
     |none=>H)
    |none=>H),λk r D E=>by rw[D];dsimp only;rw[E],?_⟩
   intro φ n h0 h ρ K N d L;exact A φ ρ h K d (L undef .undef)
 have same:∀t a,σ.get t=some a->Sup (σ.get t) a:=λt a h=> .refl h
 have put:∀(t:Nat) (q:Bool),aj (pa t) σ= .sb q->∀s a,(cU σ (some t) (.bool q)).get s=some a->Sup (σ.get s) a:=λt q F s a A=>by
  rcases oj eO σ t s a A with⟨rfl,I⟩|⟨_,I⟩
  ·subst I;intro φ u hu;rcases mf eO s σ _ F with e|e
   ·cases e
   ·have:=(hu _ e).jW;subst this;exact .bool q
  ·exact .refl I
 have l:(match o.guard with
  |none=>go σ
  |some (j,want)=>(match jC ops j with
   |none=>False
   |some t=>(match aj (pa t) σ with
    | .bool q=>(match q==want with
     |true=>go σ
     |false=>k (cU σ o.dst cT) H n)
    | .sb q=>(match want with
     |true=>ae q (go (cU σ (some t) (.bool true))) (k (cU (cU σ (some t) (.bool false)) o.dst cT) H n)
     |false=>ae q (k (cU (cU σ (some t) (.bool true)) o.dst cT) H n) (go (cU σ (some t) (.bool false))))
    | .tup _=>k (cU σ o.dst cT) H n
    |_=>False))):=l
 split at l
 ·rename_i A;exact did σ same (λφ ρ h K _ y=>by unfold a8;simp only[A];exact y) l
 ·rename_i j want A;split at l
  ·exact l.elim
  ·rename_i t ht
   have B:t∈b.2:=by
    unfold uC at G;rw[A]at G;dsimp only at G;rw[ht]at G;simpa using G
   have gw:∀(ρ:Env) (h:Hp) (K:Env->Hp->Prop),ρ t= .bool want->bG Tryz.prog o.op ρ h (λv h'=>K (ρ.put o.dst v) h')->a8 Tryz.prog ops o ρ h K:=λρ h K hv y=>by
    unfold a8;simp only[A,ht,hv];rw[if_pos trivial];exact y
   have gn:∀(ρ:Env) (h:Hp) (K:Env->Hp->Prop),ρ t= .bool (!want)->K (ρ.put o.dst undef) h->a8 Tryz.prog ops o ρ h K:=λρ h K hv y=>by
    unfold a8;simp only[A,ht,hv];rw[if_neg (by cases want<;>simp)];exact y
   split at l
   ·rename_i q F;split at l
    ·rename_i hqw;have M:q=want:=by simpa using hqw
     subst M;exact did σ same (λφ ρ h K d y=>gw ρ h K (by have:=d t B;rw[F]at this;exact this.bU) y) l
    ·rename_i hqw;have M:q=!want:=by cases q<;>cases want<;>simp_all
     exact skip σ same (λφ ρ h K d y=>gn ρ h K (by have:=d t B;rw[F]at this;rw[this.bU,M]) y) l
   ·rename_i q F
    have gb:∀(q':Bool),aj (pa t) (cU σ (some t) (.bool q'))= .bool q':=λq'=>by
     exact sV (by rw[F];simp)
    split at l
    ·cases q with
     |true=>exact did _ (put t true F) (λφ ρ h K d y=>gw ρ h K (by have:=d t B;rw[gb]at this;exact this.bU) y) (l.t rfl)
     |false=>exact skip _ (put t false F) (λφ ρ h K d y=>gn ρ h K (by have:=d t B;rw[gb]at this;rw[this.bU];rfl) y) (l.f rfl)
    ·cases q with
     |true=>exact skip _ (put t true F) (λφ ρ h K d y=>gn ρ h K (by have:=d t B;rw[gb]at this;rw[this.bU];rfl) y) (l.t rfl)
     |false=>exact did _ (put t false F) (λφ ρ h K d y=>gw ρ h K (by have:=d t B;rw[gb]at this;exact this.bU) y) (l.f rfl)
   ·rename_i us F;refine skip σ same (λφ ρ h K d y=>?_) l;have:=d t B;rw[F]at this;obtain⟨cs,hv,_⟩:=this.eH;unfold a8;simp only[A,ht,hv];exact y
   ·exact l.elim
end
structure TR where
 v:AV
 σ:AE
 H:AH
 n:Nat
inductive Tr(ops:Array Oper):List Oper->List DB->List (AH×Nat)->AE->AH->Nat->List TR->AE->AH->Nat->Prop
 |nil {bs:List DB} {hist:List (AH×Nat)} {σ:AE} {H:AH} {n:Nat}:Tr ops [] bs hist σ H n [] σ H n
 |cons {o:Oper} {l:List Oper} {b:DB} {bs:List DB} {hist:List (AH×Nat)} {σ:AE} {H:AH} {n:Nat} {σr:AE} {v:AV} {H1:AH} {n1:Nat} {tr:List TR} {σ':AE} {H':AH} {n':Nat}
  (s:zT ops o b hist σ H n σr v H1 n1) (r:Tr ops l bs ((H,n)::hist) (cU σr o.dst v) H1 n1 tr σ' H' n'):Tr ops (o::l) (b::bs) hist σ H n (⟨v,σr,H,n⟩::tr) σ' H' n'
section
variable {φ:Ph} {h0 h:Hp} {ρ:Env} {cd:CP} {ops:Array Oper}
theorem Gb(f:oz cd)(g:tR cd){kn:KP}:∀(l:List Oper) (bs:List DB) (a:List (AH×Nat)) (σ:AE) (H:AH) (n:Nat),(∀(i:Nat) o b,l[i]?=some o->bs[i]?=some b->bOk o b/\uC ops o b.2=true)->Ll ops l bs cd a σ H n kn->
 ∃tr c H' e,Tr ops l bs a σ H n tr c H' e/\kn c H' e
 | [],bs,a,σ,H,n,_,d=>⟨[],σ,H,n,.nil,d⟩
 |o::l,[],a,σ,H,n,_,d=>d.elim
 |o::l,b::bs,a,σ,H,n,j,d=>by
  have d:Lk ops o b cd a σ H n (λc H' e=>Ll ops l bs cd ((H,n)::a) c H' e kn):=d;obtain⟨k,m⟩:=j 0 o b rfl rfl
  obtain⟨p,v,q,r,s,t⟩:=EI f g k m d;obtain⟨tr,c,H',e,u,w⟩:=Gb f g l bs _ _ q r (λi o b x y=>j (i+1) o b (by simpa using x) (by simpa using y)) t;exact⟨_,c,H',e,.cons s u,w⟩
theorem I8{l:List Oper}{bs:List DB}{a:List (AH×Nat)}{σ:AE}{H:AH}{n:Nat}{tr:List TR}{b:AE}{H':AH}{c:Nat}(d:Tr ops l bs a σ H n tr b H' c):tr.length=l.length:=by
 induction d with
 |nil=>rfl
 |cons s r e=>simp[e]
structure At(ops:Array Oper)(Bs:List DB)(σ0:AE)(val:Nat->AV)(σs:Nat->AE)(Hs:Nat->AH)(ns:Nat->Nat)(i:Nat)(o:Oper):Prop where
 look:∀t a,(σs i).get t=some a->Sup (jX ops val σ0 (λ_=>true) i t) a
 grow:lY o.op=false->fR (Hs i) (Hs (i+1))
 bs:∃b,Bs[i]?=some b/\(bR o.op=true->Rz ops o b.2 (σs i) (Hs i) (ns i) (val i) (Hs (i+1)) (ns (i+1)))/\
  (bR o.op=false->Hs (i+1)=Hs i/\ns (i+1)=ns i/\∀k,b.1=some k->k<=i->Ly ops o b.2 (σs i) (Hs (i-k)) (val i))
theorem OP{Bs:List DB}{σ0:AE}{val:Nat->AV}{σs:Nat->AE}{Hs:Nat->AH}{ns:Nat->Nat}{l:List Oper}{bs:List DB}{c:List (AH×Nat)}{σ:AE}{H:AH}{n:Nat}{tr:List TR}{p:AE}{H':AH}{L:Nat}(S:Tr ops l bs c σ H n tr p H' L):
 ∀k,(∀j:Nat,l[j]?=ops[k+j]?)->(∀j:Nat,bs[j]?=Bs[k+j]?)->(∀t a,σ.get t=some a->Sup (jX ops val σ0 (λ_=>true) k t) a)->(∀j,j<k->nth c j=some (Hs (k-1-j),ns (k-1-j)))->H=Hs k->n=ns k->
 (∀(j:Nat) e,tr[j]?=some e->val (k+j)=e.v/\σs (k+j)=e.σ/\Hs (k+j)=e.H/\ns (k+j)=e.n)->Hs (k+l.length)=H'->ns (k+l.length)=L->
 (∀i o,k<=i->i<k+l.length->ops[i]?=some o->At ops Bs σ0 val σs Hs ns i o)/\tr.length=l.length/\∀t a,p.get t=some a->Sup (jX ops val σ0 (λ_=>true) (k+l.length) t) a:=by
 induction S with
 |nil=>exact λk _ _ u _ _ _ _ _ _=>⟨λi o M w=>by simp at w;omega,rfl,u⟩
 | @cons o l b bs c σ H n x v T U tr p H' L s r V=>
  intro k z I u P B N y C D;have ho:ops[k]?=some o:=by simpa using (z 0).symm
  have O:Bs[k]?=some b:=by simpa using (I 0).symm
  obtain⟨J,K,W,X⟩:=y 0 _ rfl
  simp only[q2o]at J K W X
  have f:T=Hs (k+1)/\U=ns (k+1):=by
   cases r with
   |nil=>exact⟨by simpa using C.symm,by simpa using D.symm⟩
   |cons s2 Q=>
    obtain⟨_,_,Y,Z⟩:=y 1 _ rfl
    exact⟨Y.symm,Z.symm⟩
  have g:∀t a,x.get t=some a->Sup (jX ops val σ0 (λ_=>true) k t) a:=λt a A=>Sup.trans (λb I=>u t b I) (s.sup t a A)
  have E:∀t a,(cU x o.dst v).get t=some a->Sup (jX ops val σ0 (λ_=>true) (k+1) t) a:=λt a A=>by
   simp only[jX,kg,ho,q1x,true_and];cases hd:o.dst with
   |none=>rw[hd]at A;rw[if_neg (by simp)];exact g t a A
   |some d=>
    rw[hd]at A;rcases oj eO x d t a A with⟨rfl,w⟩|⟨M,w⟩
    ·rw[if_pos rfl,J,w];exact .refl rfl
    ·rw[if_neg (by simpa using Ne.symm M)];exact g t a w
  obtain⟨r1,Q,r3⟩:=V (k+1) (λj=>by have:=z (j+1);simpa[q1l,Nat.add_comm 1 j]using this) (λj=>by have:=I (j+1);simpa[q1l,Nat.add_comm 1 j]using this) E
   (λj R=>by
    cases j with
    |zero=>
     show some (H,n)=_;rw[B,N];simp
    |succ j=>
     show nth c j=_;rw[P j (by omega)];have:k-1-j=k+1-1-(j+1):=by omega
     rw[this]) f.1 f.2
   (λj e he=>by
    have:=y (j+1) e (by simpa using he);rwa [show k+(j+1)=k+1+j from by omega]at this)
   (by rw[<-C];congr 1;simp;omega) (by rw[<-D];congr 1;simp;omega)
  have F:k+(o::l).length=k+1+l.length:=by simp;omega
  rw[F];refine⟨λi o' M w m=>?_,by simp[Q],r3⟩;by_cases hi:i=k
  ·subst hi;rw[ho]at m;injection m with m;subst m;refine⟨?_,?_,b,O,λz=>?_,λz=>?_⟩
   ·rw[K];exact g
   ·rw[<-B,<-f.1];exact λq=>s.grow q
   ·rw[K,J,<-B,<-N,<-f.1,<-f.2];exact s.loud z
   ·obtain⟨g1,g2,G,g3,g4⟩:=s.still z;refine⟨by rw[<-f.1,<-B];exact g1,by rw[<-f.2,<-N];exact g2,λj R hji=>?_⟩;rw[K,J]
    have hr:∃r,nth ((H,n)::c) j=some r/\r.1=Hs (i-j):=by
     cases j with
     |zero=>exact⟨(H,n),rfl,by rw[q3c];exact B⟩
     |succ j=>
      refine⟨_,P j (by omega),?_⟩;show Hs (i-1-j)=_;rw[show i-1-j=i-(j+1) from by omega]
    obtain⟨r,e1,e2⟩:=hr;rw[<-e2,<-g3 j r R e1];exact g4
  ·exact r1 i o' (by omega) w m
theorem Gc{A:List Nat}{i j:Nat}:∀(l:List Edge) (m:Nat),(l.foldl (λm e=>if Region.binds .any e&&decide (e.on<i)then m|||(2^e.on|||A.getD e.on 0)else m) m).testBit j=true->
 m.testBit j=true∨∃e∈l,Region.binds .any e=true/\e.on<i/\(e.on=j∨(A.getD e.on 0).testBit j=true)
 | [],m,h=> .inl h
 |e::l,m,h=>by
  simp only[List.foldl_cons]at h;rcases Gc l _ h with a|⟨c,a,d⟩
  ·split at a
   ·rename_i b;simp only[Z9,decide_eq_true_eq]at b;simp only[Nat.testBit_or,q1a,Nat.testBit_two_pow,decide_eq_true_eq]at a;rcases a with a|a|a
    ·exact .inl a
    ·exact .inr ⟨e,Y6,b.1,b.2,.inl a⟩
    ·exact .inr ⟨e,Y6,b.1,b.2,.inr a⟩
   ·exact .inl a
  ·exact .inr ⟨c,X7 _ a,d⟩
theorem lG{A:List Nat}(n:Ln A ops=true){a:Array Bool}(hd:Down ops a){j:Nat}:∀(m i:Nat),i<m->(∀o,ops[i]?=some o->∀e∈o.after,Region.binds .any e=true->a.getD e.on false=true)->i<ops.size->sU A j i=true->a.getD j false=true
 |0,i,r,_,_,_=>by omega
 |m+1,i,r,hi,b,d=>by
  have ho:=q0u b;have p:=Y4.1 n i (by simpa using b);simp only[ho,beq_iff_eq]at p;unfold sU at d;rw[p]at d;rcases Gc _ _ d with f|⟨e,f,s,v,c⟩
  ·simp at f
  ·have q:=hi _ ho e (by simpa using f) s;rcases c with c|c
   ·exact c▸q
   ·exact lG n hd m e.on (by omega) (λt g u k l=>hd e.on t g q u k l) (by omega) c
theorem rm{Bs:List DB}{σ0:AE}{val:Nat->AV}{σs:Nat->AE}{Hs:Nat->AH}{ns:Nat->Nat}(e:∀i o,ops[i]?=some o->At ops Bs σ0 val σs Hs ns i o):∀(d p:Nat),p+d<=ops.size->(∀j o,p<=j->j<p+d->ops[j]?=some o->bR o.op=false)->Hs (p+d)=Hs p/\ns (p+d)=ns p
 |0,_,_,_=>⟨rfl,rfl⟩
 |d+1,p,g,f=>by
  obtain⟨k,l⟩:=rm e d p (by omega) λj o a b=>f j o a (by omega)
  have c:p+d<ops.size:=by omega
  have ho:=q0u c;obtain⟨b,_,_,m⟩:=(e _ _ ho).bs;obtain⟨n,q,_⟩:=m (f (p+d) _ (by omega) (by omega) ho);exact⟨by rw[<-k];exact n,by rw[<-l];exact q⟩
theorem Lz{Bs:List DB}{σ0:AE}{val:Nat->AV}{σs:Nat->AE}{Hs:Nat->AH}{ns:Nat->Nat}(c:∀i o,ops[i]?=some o->At ops Bs σ0 val σs Hs ns i o):∀(d p:Nat),p+d<=ops.size->(∀j o,p<=j->j<p+d->ops[j]?=some o->lY o.op=false)->fR (Hs p) (Hs (p+d))
 |0,_,_,_=> .refl _
 |d+1,p,f,e=>(Lz c d p (by omega) λj o a b=>e j o a (by omega)).trans ((c _ _ (q0u (show p+d<ops.size by omega))).grow (e (p+d) _ (by omega) (by omega) (q0u (show p+d<ops.size by omega))))
theorem LA {Bs:List DB} {σ0 σ':AE} {val:Nat->AV} {σs:Nat->AE} {Hs:Nat->AH} {ns:Nat->Nat} {N:Env->Hp->Prop} (ht:∀i o,ops[i]?=some o->At ops Bs σ0 val σs Hs ns i o) (l:vD ops Bs=true)
 (hσ':∀t a,σ'.get t=some a->Sup (jX ops val σ0 (λ_=>true) ops.size t) a) (hr:HR φ (Hs 0) (ns 0) h0 h) (hf:FR φ σ0 ρ) (hN:∀ψ ρ' h',PLe φ ψ->HR ψ (Hs ops.size) (ns ops.size) h0 h'->FR ψ σ' ρ'->N ρ' h'):El Tryz.prog ops ρ h N:=by
 simp only[vD,Z9]at l;obtain⟨hed,P,l⟩:=l;generalize sT ops.toList 0 []=A at P l
 have Z:∀i o,ops[i]?=some o->∃b,Bs[i]?=some b/\(∀t∈b.2,t∈looks ops o)/\(match b.1 with
  |none=>uB o.op=true∨(lY o.op=true/\∀j,j<ops.size->j=i∨sU A j i=true)
  |some k=>bR o.op=false/\k<=i/\∀j,j<i-k->zS ops j=true->sU A j i=true)/\
  ∀j a,j<i->ops[j]?=some a->(a.apart ops o=true/\(bR a.op=false∨bR o.op=false))∨sU A j i=true:=λi o ho=>by
  have hisz:=(Y9.1 ho).1;have s:=Y4.1 l i (by simpa using hisz);unfold So at s;rw[ho]at s;split at s
  ·rename_i v b e1 J;injection e1 with e1;subst e1;simp only[Z9,Y4]at s;obtain⟨⟨⟨s,_⟩,K⟩,h3⟩:=s;refine⟨b,J,λt htm=>by simpa using s t htm,?_,λj a y d=>?_⟩
   ·split at K
    ·rename_i e;try simp only[e]
     simp only[q1a,Z9,Y4]at K;exact K.imp id λq=>⟨q.1,λj d=>(q.2 j (by simpa using d)).imp q0a id⟩
    ·rename_i k e
     try simp only[e]
     simp only[Z9,q2r,decide_eq_true_eq,Y4,q1a]at K
     exact⟨K.1,K.2.1,λj d w=>by
      rcases K.2.2 j (by simpa using d)with q|q
      ·rw[w]at q;cases q
      ·exact q⟩
   ·have:=h3 j (by simpa using y);rw[d]at this;simpa only[q1a,Z9,q2r]using this
  ·cases s
 have pair:∀i j a b,j<i->ops[i]?=some b->ops[j]?=some a->(a.apart ops b=true/\(bR a.op=false∨bR b.op=false))∨sU A j i=true:=λi j a b y hi d=>by
  obtain⟨_,_,_,_,h4⟩:=Z i b hi;exact h4 j a y d
 refine⟨hed,λc z s=>∃ψ p,PLe φ ψ/\p<=ops.size/\HR ψ (Hs p) (ns p) h0 s/\(∀j o,ops[j]?=some o->bR o.op=true->(c.getD j false=true<->j<p))/\
  ∀t a,jX ops val σ0 (λj=>c.getD j false) ops.size t=some a->VR ψ a (z t),?_,?_,?_⟩
 ·refine⟨φ,0,PLe.refl _,X5 _,hr,λj o d _=>?_,λt a e=>?_⟩
  ·have:(Array.replicate ops.size false).getD j false=false:=by simp[Array.getD]
   rw[this];simp
  ·have:jX ops val σ0 (λj=>(Array.replicate ops.size false).getD j false) ops.size t=jX ops val σ0 (λj=>decide (j<0)) ops.size t:=
    je _ λj _ _=>by simp[Array.getD]
   rw[this,vz _ (X5 _)]at e;exact hf t a e
 ·intro c i o z s hsz hdn ho hun hedge ⟨ψ,p,hp,W,B,C,F⟩ _;have hi:i<ops.size:=(Y9.1 ho).1
  have before:∀j,sU A j i=true->c.getD j false=true:=λj D=>lG P hdn (i+1) i (by omega) (λv M e he hb'=>by
   rw[ho]at M;injection M with M;subst M;exact hedge e he hb') hi D
  have behind:∀j,j<ops.size->sU A i j=true->c.getD j false=false:=λj d D=>by
   cases w:c.getD j false with
   |false=>rfl
   |true=>
    have:=lG P hdn (j+1) j (by omega) (λv M e he hb'=>hdn j v M w e he hb') d D;rw[hun]at this;cases this
  have hlook:∀t,t∈looks ops o->jX ops val σ0 (λj=>c.getD j false) ops.size t=jX ops val σ0 (λ_=>true) i t:=λt htl=>by
   rw[<-vz (val:=val) ops.size (Nat.le_of_lt hi)];refine je _ λj d hd=>?_
   have O:=q0u d;have S:ops[j].dst=some t:=by simpa[kg,O]using hd
   by_cases E:j=i
   ·subst E;simp[hun]
   ·by_cases y:j<i
    ·rcases pair i j _ _ y ho O with⟨ha,_⟩|D
     ·exact absurd htl ((Oper.apart_spec ha).1 t S)
     ·rw[before j D];simp[y]
    ·rcases pair j i _ _ (by omega) O ho with⟨ha,_⟩|D
     ·exact absurd htl ((Oper.apart_spec ha).2.2 t S)
     ·rw[behind j d D];simp[y]
  have hat:=ht i o ho;obtain⟨b,hb1,hb2,r,_⟩:=Z i o ho;obtain⟨b',T,hloud,U⟩:=hat.bs;rw[hb1]at T;injection T with T;subst T
  have hsl:yw ψ (σs i) b.2 z:=λt htm=>by
   rcases mf eO t (σs i) _ rfl with e|e
   ·show VR ψ (aj (pathOf eO t) (σs i)) (z t);rw[e];exact .bad _
   ·refine hat.look t _ e ψ _ λa' ha'=>F t a' ?_
    rw[hlook t (hb2 t htm)];exact ha'
  have G:∀j,(c.setIfInBounds i true).getD j false=if j=i then true else c.getD j false:=λj=>mb (by omega)
  have Q:∀{χ:Ph} {u:Value},PLe ψ χ->VR χ (val i) u->∀t a,jX ops val σ0 (λj=>(c.setIfInBounds i true).getD j false) ops.size t=some a->VR χ a ((z.put o.dst u) t):=λ{χ u} H hu t a e=>by
   rw[B0 (L:=λj=>c.getD j false) (i:=i) (λj d=>by simp only[G,if_neg d]) (by simp only[G,if_true]) ops.size hi (λj s K hd1 S=>by
    have O:=q0u K;have e1:o.dst=some t:=by simpa[kg,ho]using hd1
    have J:ops[j].dst=some t:=by simpa[kg,O]using S
    rcases pair j i _ _ s O ho with⟨ha,_⟩|D
    ·exact absurd J ((Oper.apart_spec ha).2.1 t e1)
    ·exact behind j K D)]at e
   by_cases hd:o.dst=some t
   ·rw[if_pos (by simpa[kg,ho]using hd)]at e;injection e with e;subst e;rw[hd,qQ,uY];exact hu
   ·rw[if_neg (by simpa[kg,ho]using hd)]at e;have:=VR.mono H _ _ (F t a e);rwa [l9 (λx m=>by intro q;exact hd (by rw[m,q]))]
  cases w:bR o.op with
  |true=>
   have hpi:p<=i:=by
    have:=(C i o ho w);rw[hun]at this;by_cases hc:i<p
    ·have:=this.2 hc;cases this
    ·omega
   have hnol:∀j v,p<=j->j<p+(i-p)->ops[j]?=some v->bR v.op=false:=λj v s K d=>by
    cases n:bR v.op with
    |false=>rfl
    |true=>
     rcases pair i j _ _ (by omega) ho d with⟨_,m⟩|D
     ·rcases m with m|m
      ·rw[n]at m;cases m
      ·rw[w]at m;cases m
     ·have:=(C j v d n).1 (before j D);omega
   obtain⟨X,c2⟩:=rm ht (i-p) p (by omega) hnol;rw[show p+(i-p)=i from by omega]at X c2;rw[<-X,<-c2]at B;refine hloud w ψ h0 s z _ B hsl λχ u g H hg hu=>⟨χ,i+1,hp.trans H,hi,hg,λj v d n=>?_,Q H hu⟩
   rw[G];by_cases E:j=i
   ·subst E;simp
   ·rw[if_neg E];have R:=(Y9.1 d).1;by_cases y:j<i
    ·have:c.getD j false=true:=by
      rcases pair i j _ _ y ho d with⟨_,m⟩|D
      ·rcases m with m|m
       ·rw[n]at m;cases m
       ·rw[w]at m;cases m
      ·exact before j D
     rw[this];simp;omega
    ·have:c.getD j false=false:=by
      rcases pair j i _ _ (by omega) d ho with⟨_,m⟩|D
      ·rcases m with m|m
       ·rw[w]at m;cases m
       ·rw[n]at m;cases m
      ·exact behind j R D
     rw[this];simp;omega
  |false=>
   obtain⟨_,_,hsf⟩:=U w
   have hk:∃k,b.1=some k/\k<=i/\∀j,j<i-k->zS ops j=true->sU A j i=true:=by
    split at r
    ·rename_i e;rcases r with r|⟨r,_⟩
     ·unfold uB at r;split at r
      ·rename_i f xs ts J;rw[J]at w;cases w
      ·rename_i J;rw[J]at w;cases w
      ·cases r
     ·unfold lY at r;split at r
      ·rename_i f xs ts J;rw[J]at w;cases w
      ·cases r
    ·rename_i k e;exact⟨k,e,r.2⟩
   obtain⟨k,hk1,hk2,hk3⟩:=hk
   have hGr:fR (Hs (i-k)) (Hs p):=by
    by_cases hpk:i-k<=p
    ·have:=Lz ht (p-(i-k)) (i-k) (by omega) λj v s K d=>by
      cases l:lY v.op with
      |false=>rfl
      |true=>
       have V:bR v.op=true:=by
        unfold lY at l;split at l
        ·rename_i J;rw[J];rfl
        ·cases l
       have hls:=(C j v d V).2 (by omega);have R:=(Y9.1 d).1;obtain⟨b2,_,_,I,_⟩:=Z j v d;split at I
       ·rcases I with q|⟨_,q⟩
        ·unfold lY at l;split at l
         ·rename_i J;rw[J]at q;cases q
         ·cases l
        ·rcases q i hi with q|q
         ·subst q;rw[ho]at d;injection d with d;subst d;rw[w]at V;cases V
         ·rw[behind j R q]at hls;cases hls
       ·rw[V]at I;cases I.1
     rwa [show i-k+(p-(i-k))=p from by omega]at this
    ·obtain⟨X,_⟩:=rm ht (i-k-p) p (by omega) λj v s K d=>by
      cases n:bR v.op with
      |false=>rfl
      |true=>
       have h3:=hk3 j (by omega) (by unfold zS;rw[d];exact n);have:=(C j v d n).1 (before j h3);omega
     rw[show p+(i-k-p)=i-k from by omega]at X;rw[X];exact .refl _
   refine hsf k hk1 hk2 ψ (ns p) h0 s z _ (B.less hGr) hsl λu hu=>⟨ψ,p,hp,W,B,λj v d n=>?_,Q (PLe.refl _) hu⟩
   rw[G];by_cases E:j=i
   ·subst E;rw[ho]at d;injection d with d;subst d;rw[w]at n;cases n
   ·rw[if_neg E];exact C j v d n
 ·intro c z s hsz Y ⟨ψ,p,hp,W,B,C,F⟩
  obtain⟨X,c2⟩:=rm ht (ops.size-p) p (by omega) λj o a b d=>by
   cases w:bR o.op with
   |false=>rfl
   |true=>
    have:=(C j o d w).1 (Y j (by omega));omega
  rw[show p+(ops.size-p)=ops.size from by omega]at X c2;rw[<-X,<-c2]at B;refine hN ψ z s hp B λt a e=>hσ' t a e ψ _ λa' ha'=>F t a' ?_
  rw[<-ha'];exact je _ λj d _=>Y j d
theorem vJ (K:oz cd) (L:tR cd) {Bs:List DB} {σ:AE} {H:AH} {n:Nat} {kn:KP} {N:Env->Hp->Prop} (E:vD ops Bs=true) (O:Ll ops ops.toList Bs cd [] σ H n kn) (P:HR φ H n h0 h) (Q:FR φ σ ρ)
 (R:∀ψ g H' C m J,PLe φ ψ->HR ψ H' C h0 J->FR ψ g m->kn g H' C->N m J):El Tryz.prog ops ρ h N:=by
 have u:=E;simp only[vD,Z9]at u
 obtain⟨tr,g,H',C,f,D⟩:=Gb K L ops.toList Bs [] σ H n (λi o b ho S=>by
  rw[q1n]at ho;have F:=(Y9.1 ho).1;have f:=Y4.1 u.2.2 i (by simpa using F);unfold So at f;rw[ho,S]at f;simp only[Z9]at f;refine⟨?_,f.1.1.2⟩;unfold bOk;have D:=f.1.2;split at D
  ·rename_i e;try rw[e]
   simp only[q1a,Z9]at D⊢;exact D.imp id λq=>q.1
  ·rename_i k e
   try rw[e]
   simp only[Z9,q2r]at D;exact D.1) O
 let G:TR:=⟨.bad,.nil,H',C⟩
 let at_:Nat->TR:=λj=>(tr[j]?).getD G
 have p:∀(j:Nat) e,tr[j]?=some e->at_ j=e:=λj e w=>by simp only[at_,w,Option.getD_some]
 have d:ops.toList.length=ops.size:=Array.length_toList
 have x:tr.length=ops.size:=by
  rw[<-d];exact I8 f
 let y:Nat->AH:=λj=>if j<tr.length then(at_ j).H else H'
 let z:Nat->Nat:=λj=>if j<tr.length then(at_ j).n else C
 have A:y ops.size=H'/\z ops.size=C:=⟨by simp only[y];rw[if_neg (by omega)],by simp only[z];rw[if_neg (by omega)]⟩
 have hs0:H=y 0/\n=z 0:=by
  cases M:ops.toList with
  |nil=>
   have U:ops.size=0:=by rw[<-d,M];rfl
   rw[M]at f;cases f
   (try simp only[y,z])
   rw[if_neg (by omega),if_neg (by omega)];exact⟨rfl,rfl⟩
  |cons o l=>
   rw[M]at f;cases f with
   |cons s r=>exact⟨rfl,rfl⟩
 obtain⟨told,_,B⟩:=OP (Bs:=Bs) (σ0:=σ) (val:=λj=>(at_ j).v) (σs:=λj=>(at_ j).σ) (Hs:=y) (ns:=z) f 0 (λj=>by rw[q0s,q1n]) (λj=>by rw[q0s]) (λt a q=> .refl q) (λj w=>by omega) hs0.1 hs0.2
  (λj e w=>by
   have I:=(X6.1 w).1;rw[q0s];refine⟨by rw[p j e w],by rw[p j e w],?_,?_⟩
   ·(try simp only[y]);rw[if_pos I,p j e w]
   ·(try simp only[z]);rw[if_pos I,p j e w])
  (by simp only[y];rw[if_neg (by rw[x,d];omega)])
  (by simp only[z];rw[if_neg (by rw[x,d];omega)])
 rw[q0s,d]at told B;refine LA (λi o ho=>told i o (X5 _) (Y9.1 ho).1 ho) E B (by rw[<-hs0.1,<-hs0.2];exact P) Q ?_;rw[A.1,A.2];exact λψ m J a b c=>R ψ g H' C m J a b c D
end
section
variable {φ:Ph} {H:AH} {n:Nat} {h0 h:Hp} {σ:AE} {ρ:Env} {call:CP}
def GoP(φ0:Ph)(h0:Hp)(k:KP)(N:Env->Hp->Prop):Prop:=∀(a:Ph) (σ:AE) (H:AH) (n:Nat) (ρ:Env) (h:Hp),PLe φ0 a->HR a H n h0 h->FR a σ ρ->k σ H n->N ρ h
theorem jh(b:oz call){φ0:Ph}{ops:Array Oper}{N:Env->Hp->Prop}:∀(l:List Oper) (φ:Ph) (σ:AE) (H:AH) (n:Nat) (k:KP) (ρ:Env) (h:Hp),PLe φ0 φ->HR φ H n h0 h->FR φ σ ρ->
 uo ops l call σ H n k->GoP φ0 h0 k N->kR Tryz.prog ops l ρ h N
 | [],φ,σ,H,n,k,ρ,h,r,s,c,a,w=>w φ σ H n ρ h r s c a
 |o::l,φ,σ,H,n,k,ρ,h,r,s,c,a,w=>by
  have a:opP ops o call σ H n (λσ H n=>uo ops l call σ H n k):=a
  have did:∀(σ:AE) (ρ:Env),FR φ σ ρ->(vC o.op call σ H n λv H n=>uo ops l call (cU σ o.dst v) H n k)->bG Tryz.prog o.op ρ h λv z=>kR Tryz.prog ops l (ρ.put o.dst v) z N:=λσ ρ c a=>
   Cd b s c a λA v B C u g y D E F=>jh b l A _ B C k _ g (r.trans y) D ((c.mono y).put o.dst E) F w
  have skip:∀(σ:AE) (ρ:Env),FR φ σ ρ->uo ops l call (cU σ o.dst cT) H n k->kR Tryz.prog ops l (ρ.put o.dst undef) h N:=λσ ρ c a=>
   jh b l φ _ H n k _ h r s (c.put o.dst .undef) a w
  unfold opP at a;unfold kR;split at a
  ·rename_i x
   (try simp only[x])
   exact did σ ρ c a
  ·rename_i j want x
   (try simp only[x])
   split at a
   ·exact a.elim
   ·rename_i t G
    (try simp only[G])
    have d:∀q:Bool,ρ t= .bool q->FR φ (cU σ (some t) (.bool q)) (ρ.upd t (.bool q)):=λq p=>c.put (some t) (.bool q)
    split at a
    ·rename_i q p;have e:=(p▸c.at t).bU
     (try simp only[e])
     split at a
     ·rename_i m;have i:q=want:=by simpa using m
      subst i;refine⟨λ_=>?_,(λk=>by rw[m]at k;cases k)⟩;rw[mW e];exact did σ ρ c a
     ·rename_i m;have i:(!want)=q:=by cases q<;>cases want<;>simp_all
      refine⟨(λk=>by rw[m]at k;cases k),λ_=>?_⟩;rw[mW (by rw[e,i])];exact skip σ ρ c a
    ·rename_i q p;have e:=(p▸c.at t).jW
     (try simp only[e])
     split at a
     ·cases q with
      |true=>exact⟨λ_=>did _ _ (d true e) (a.t rfl),λk=>by cases k⟩
      |false=>exact⟨(λk=>by cases k),λ_=>skip _ _ (d false e) (a.f rfl)⟩
     ·cases q with
      |true=>exact⟨(λk=>by cases k),λ_=>skip _ _ (d true e) (a.t rfl)⟩
      |false=>exact⟨λ_=>did _ _ (d false e) (a.f rfl),λk=>by cases k⟩
    ·rename_i us p;obtain⟨cs,e,_⟩:=(p▸c.at t).eH
     (try simp only[e])
     exact skip σ ρ c a
    ·exact a.elim
theorem EJ{v:AV}{y:Nat}(h:Lf v=some y):v= .any (.func (.yield y) #[] #[]):=by
 unfold Lf at h;split at h
 ·injection h with h;subst h;rfl
 ·cases h
theorem qp(a:oz call){φ0:Ph}{ops:Array Oper}{N:Env->Hp->Prop}:∀(l:List Oper) (φ:Ph) (σ:AE) (H:AH) (n:Nat) (k:KP) (ρ:Env) (h:Hp),PLe φ0 φ->HR φ H n h0 h->FR φ σ ρ->
 IZ ops l call σ H n k->GoP φ0 h0 k N->BM Tryz.prog ops l ρ h N
 | [],φ,σ,H,n,k,ρ,h,j,m,d,b,p=>p φ σ H n ρ h j m d b
 |o::l,φ,σ,H,n,k,ρ,h,j,m,d,b,p=>by
  have b:yOr (OK o σ) (λy xs=>Yld y xs H n λv H n=>IZ ops l call (cU σ o.dst v) H n k) (opP ops o call σ H n λσ H n=>IZ ops l call σ H n k):=b;cases c:OK o σ with
  |none=>
   rw[c]at b;have b:uo ops [o] call σ H n (λσ H n=>IZ ops l call σ H n k):=b;exact .inr (mY (jh a [o] φ σ H n _ ρ h j m d b λr s t w x E q A B C=>qp a l r s t w k x E q A B C p))
  |some z=>
   obtain⟨y,xs⟩:=z;rw[c]at b;obtain⟨run,ok,e⟩:Yld y xs H n λv H n=>IZ ops l call (cU σ o.dst v) H n k:=b
   unfold OK at c;split at c
   ·rename_i f xs F;split at c
    ·rename_i G D;injection c with c;injection c with I J;subst I J;have i:=d.ev f;rw[EJ D]at i;refine .inl ⟨f,xs,G,F,i.uA,ok _ _ _ _ e φ h0 h _ _ m (by rw[q3s];exact VRs.map d.ev xs.toList) λr v t w u g q A B C=>?_⟩;exact qp a l r _ t w k _ g (j.trans q) A ((d.mono q).put o.dst B) C p
    ·cases c
   ·cases c
theorem Ce:∀l:List Bool,l∈Lo l.length
 | []=>by simp[Lo]
 |b::l=>by
  simp only[Z8,Lo,List.mem_flatMap];exact⟨l,Ce l,by cases b<;>simp⟩
theorem I9{a:List Nat}(hn:a.Nodup)(u:Nat->Bool){i j:Nat}:∀{r f:List Nat},a.filter u=r++i::f->j∈r->jg a i j=false/\jg a j i=true:=by
 induction a with
 |nil=>intro r f h _;simp at h
 |cons x a s=>
  intro r f h d;obtain⟨g,b⟩:=q2m.1 hn;have v:(a.filter u).Nodup:=b.filter _;cases t:u x with
  |false=>
   rw[q3q (by simp[t])]at h;obtain⟨k,l⟩:=s b h d;have m:i∈a:=(q0v.1 (show _∈a.filter u by rw[h];simp)).1;have o:j∈a:=(q0v.1 (show _∈a.filter u by rw[h];simp[d])).1
   have e:Nat.beq x i=false:=by
    cases q:Nat.beq x i with
    |false=>rfl
    |true=>exact absurd (q0a q▸m) g
   have p:Nat.beq x j=false:=by
    cases q:Nat.beq x j with
    |false=>rfl
    |true=>exact absurd (q0a q▸o) g
   (try simp only[jg,e,p,k,l]);exact⟨rfl,rfl⟩
  |true=>
   rw[List.filter_cons_of_pos t]at h;cases r with
   |nil=>cases d
   |cons y r=>
    simp only[q1s,List.cons.injEq]at h;obtain⟨rfl,h⟩:=h;have m:i∈a:=(q0v.1 (show _∈a.filter u by rw[h];simp)).1
    have e:Nat.beq x i=false:=by
     cases q:Nat.beq x i with
     |false=>rfl
     |true=>exact absurd (q0a q▸m) g
    by_cases c:j=x
    ·subst c;simp only[jg,e,Nat.beq_refl];exact⟨rfl,rfl⟩
    ·have d:j∈r:=by
      rcases Z4.1 d with q|q
      ·exact absurd q c
      ·exact q
     obtain⟨k,l⟩:=s b h d
     have p:Nat.beq x j=false:=by
      cases q:Nat.beq x j with
      |false=>rfl
      |true=>exact absurd (q0a q).symm c
     (try simp only[jg,e,p,k,l]);exact⟨rfl,rfl⟩
theorem LB{P:Program}{ops:Array Oper}{R:List (Nat×Nat)}:∀{l acc:List Nat},okL P ops R acc l=true->∀{r b:List Nat} {i:Nat},l=r++i::b->∀j,(j∈acc∨j∈r)->nL P ops j i=true∨nT ops 6 j i=true∨(j,i)∈R∨(i,j)∈R:=by
 intro l
 induction l with
 |nil=>intro acc h r b i e;simp at e
 |cons x l c=>
  intro acc h r b i e j a;simp only[okL,Z9]at h;cases r with
  |nil=>
   simp only[q2i,List.cons.injEq]at e;obtain⟨rfl,rfl⟩:=e;have:=Y4.1 h.1 j (a.elim id (λq=>by cases q));simpa using this
  |cons y r=>
   simp only[q1s,List.cons.injEq]at e;obtain⟨rfl,rfl⟩:=e;refine c h.2 rfl j ?_
   rcases a with a|a
   ·exact .inl (X7 _ a)
   ·rcases Z4.1 a with rfl|a
    ·exact .inl Y6
    ·exact .inr a
theorem zU{u:Nat->Bool}{i:Nat}:∀{b r c:List Nat},b.filter u=r++i::c->∃p p2,b=p++i::p2/\∀j∈r,j∈p:=by
 intro b
 induction b with
 |nil=>intro r c h;simp at h
 |cons x b e=>
  intro r c h;cases f:u x with
  |false=>
   rw[q3q (by simp[f])]at h;obtain⟨p,p2,rfl,d⟩:=e h;exact⟨x::p,p2,rfl,λj a=>X7 _ (d j a)⟩
  |true=>
   rw[List.filter_cons_of_pos f]at h;cases r with
   |nil=>
    simp only[q2i,List.cons.injEq]at h;obtain⟨rfl,_⟩:=h;exact⟨[],b,rfl,λj a=>by cases a⟩
   |cons y r=>
    simp only[q1s,List.cons.injEq]at h;obtain⟨rfl,h⟩:=h;obtain⟨p,p2,rfl,d⟩:=e h;refine⟨x::p,p2,rfl,λj a=>?_⟩;rcases Z4.1 a with rfl|a
    ·exact Y6
    ·exact X7 _ (d j a)
theorem filter_one{u:Nat->Bool}{i:Nat}:∀{a r r2:List Nat},a.Nodup->a.filter u=r++i::r2->a.filter (λk=>u k&&!(k==i))=r++r2:=by
 intro a r r2 d h
 have e:a.filter (λk=>u k&&!(k==i))=(a.filter u).filter λk=>!(k==i):=by
  rw[List.filter_filter];exact List.filter_congr λk _=>by rw[Bool.and_comm]
 have b:(r++i::r2).Nodup:=h▸d.filter _;rw[q3l,q2m]at b;obtain⟨_,⟨f,_⟩,g⟩:=b;rw[e,h,q2c,q3q (by simp)];congr 1
 ·refine List.filter_eq_self.2 λk c=>?_
  have:=g k c i (by simp);simpa using this
 ·refine List.filter_eq_self.2 λk c=>?_
  have:k≠i:=λq=>f (q▸c)
  simpa using this
theorem qq{P:Program}{ops:Array Oper}{N:Env->Hp->Prop}:∀(b:List Nat) (ρ:Env) (h:Hp),kR P ops (ym ops.toList b) ρ h N->fh P ops b ρ h N
 | [],_,_,a=>a
 |i::b,ρ,h,a=>by
  have e:nth ops.toList i=ops[i]?:=by rw[eR];simp
  have a:kR P ops (match nth ops.toList i with
   |some o=>o::ym ops.toList b
   |none=>ym ops.toList b) ρ h N:=a
  rw[e]at a;unfold fh;cases ho:ops[i]? with
  |none=>
   simp only[ho]at a⊢;exact qq b ρ h a
  |some o=>
   simp only[ho]at a⊢;exact fo (λv d c=>qq b _ _ c) (mY a)
theorem zV{ops:Array Oper}(b:mZ ops=true){j:Nat}:∀(f i:Nat),nT ops f j i=true->j<i
 |0,_,a=>by simp[nT]at a
 |f+1,i,a=>by
  unfold nT at a;split at a
  ·rename_i o ho;obtain⟨e,l,d⟩:=Array.any_eq_true'.1 a;simp only[Z9,q1a,beq_iff_eq]at d;have c:i<ops.size:=(Y9.1 ho).1;have g:=Y4.1 b i (by simpa using c);simp only[ho]at g;have m:=Array.all_eq_true'.1 g e l;have p:e.on<i:=by simpa[d.1]using m
   rcases d.2 with k|k
   ·omega
   ·have:=zV b f e.on k;omega
  ·cases a
def Lin(ops:Array Oper)(a:Nat->Nat):Prop:=(∀j i,nT ops 6 j i=true->a j<a i)/\∀j i,a j=a i->j=i
def osR(a:Nat->Nat)(p:Nat×Nat):Bool:=decide (a p.1<a p.2)
theorem tS{b c:Type}{f:b->c}:∀{R:List b} {x:b×c},x∈R.zip (R.map f)->x.2=f x.1/\x.1∈R
 | [],x,h=>by simp at h
 |a::R,x,h=>by
  simp only[q1j,List.zip_cons_cons,Z4]at h;rcases h with rfl|h
  ·exact⟨rfl,Y6⟩
  ·obtain⟨d,e⟩:=tS h;exact⟨d,X7 _ e⟩
def RkM(A:List Nat)(a:Nat->Nat):Prop:=∀i j,(A.getD i 0).testBit j=true->a j<a i
theorem Cf{c:Nat->Bool}{j:Nat}:∀(l:List Nat) (m:Nat),(l.foldl (λm j=>bif c j then m|||2^j else m) m).testBit j=true->m.testBit j=true∨c j=true
 | [],_,h=> .inl h
 |x::l,m,h=>by
  rw[List.foldl_cons]at h;rcases Cf l _ h with h|h
  ·cases a:c x with
   |false=>rw[a]at h;exact .inl h
   |true=>
    rw[a,cond_true,Nat.testBit_or,q1a]at h;rcases h with h|h
    ·exact .inl h
    ·rw[Nat.testBit_two_pow,decide_eq_true_eq]at h;subst h;exact .inr a
  ·exact .inr h
theorem LC{ops:Array Oper}{a:Nat->Nat}(b:Lin ops a):RkM (Lp ops) a:=λi j h=>by
 unfold Lp at h;rw[List.getD_eq_getElem?_getD,q0q]at h;cases e:(List.range ops.size)[i]? with
 |none=>rw[e]at h;simp at h
 |some k=>
  have c:k=i:=by
   rw[X6]at e;obtain⟨_,e⟩:=e;simpa using e.symm
  subst c;rw[e]at h;rcases Cf _ _ h with h|h
  ·simp at h
  ·exact b.1 _ _ h
theorem vK(a b c:Nat):∀(l:List Nat) (k i:Nat),(vE a b c l k).getD i 0=if i<l.length/\(Nat.beq (k+i) b||(l.getD i 0).testBit b)=true then l.getD i 0|||(2^a|||c)else l.getD i 0
 | [],k,i=>by simp[vE]
 |m::l,k,0=>by
  show(bif Nat.beq k b||m.testBit b then _ else _)=_;cases h:(Nat.beq k b||m.testBit b)with
  |true=>rw[cond_true,if_pos ⟨by simp,h⟩];rfl
  |false=>rw[cond_false,if_neg (λq=>by rw[show(Nat.beq (k+0) b||((m::l).getD 0 0).testBit b)=(Nat.beq k b||m.testBit b) from rfl,h]at q;cases q.2)];rfl
 |m::l,k,i+1=>by
  show(vE a b c l (k+1)).getD i 0=_;rw[vK a b c l (k+1) i];have d:(m::l).getD (i+1) 0=l.getD i 0:=rfl
  rw[d,show k+1+i=k+(i+1) by omega];simp only[Z8,Nat.add_lt_add_iff_right]
theorem OQ{A:List Nat}{a:Nat->Nat}(b:RkM A a){x:Nat×Nat}(c:a x.1<a x.2):RkM (Lq A x) a:=λi j h=>by
 unfold Lq at h;rw[vK,q0s]at h;split at h
 ·rename_i q
  have d:a x.2<=a i:=by
   have:=q.2;simp only[q1a]at this;rcases this with q|q
   ·rw[q0a q];exact Z3 _
   ·exact Nat.le_of_lt (b i _ q)
  simp only[Nat.testBit_or,q1a,Nat.testBit_two_pow,decide_eq_true_eq]at h;rcases h with h|rfl|h
  ·exact b i j h
  ·omega
  ·have:=b _ _ h;omega
 ·exact b i j h
theorem LD{A:List Nat}{a:Nat->Nat}(c:RkM A a){W:List (Nat×Nat)}(b:∀x∈W,a x.1<a x.2):Lr A W=true:=by
 have:∀(W:List (Nat×Nat)) (A:List Nat),RkM A a->(∀x∈W,a x.1<a x.2)->RkM (W.foldl Lq A) a:=λW=>by
  induction W with
  |nil=>exact λA h _=>h
  |cons x W d=>exact λA h b=>d _ (OQ h (b x Y6)) λy e=>b y (X7 _ e)
 unfold Lr;rw[Y4];intro i _;cases h:((W.foldl Lq A).getD i 0).testBit i with
 |false=>rfl
 |true=>exact absurd (this W A c b i i h) (q3a _)
theorem LF{ops:Array Oper}{a:Nat->Nat}(i:Lin ops a){R:List (Nat×Nat)}(k:R.all (λp=>!Nat.beq p.1 p.2)=true):Ru ops R (R.map (osR a))=true:=by
 have d:∀x∈(R.zip (R.map (osR a))).map (λx=>Sp x.1 x.2),a x.1<a x.2:=λx l=>by
  obtain⟨⟨p,b⟩,m,rfl⟩:=q0m.1 l;obtain⟨j,f⟩:=tS m;dsimp only at j f;subst j;obtain⟨c,rfl⟩:∃c,c=p:=⟨p,rfl⟩;have g:=Y4.1 k c f;dsimp only;unfold osR Sp;by_cases h:a c.1<a c.2
  ·rw[decide_eq_true h];exact h
  ·rw[decide_eq_false h]
   have:a c.1≠a c.2:=λe=>by
    have:=i.2 _ _ e;rw[this]at g;simp at g
   show a c.2<a c.1;omega
 exact LD (LC i) d
theorem RA(a:Nat->Nat):∀m:Nat,∃M,∀k,k<m->a k<M
 |0=>⟨0,λk h=>by omega⟩
 |m+1=>by
  obtain⟨M,b⟩:=RA a m
  exact⟨M+a m+1,λk h=>by
   rcases q3d k m with q|q
   ·have:=b k q;omega
   ·rw[show k=m by omega];omega⟩
theorem OS{P:Program}{ops:Array Oper}{bs:List DB}{N:Env->Hp->Prop}(Q:Lt P ops bs=true)(hk:∀f∈bs.tail,fh P ops f.2 ρ h N):El P ops ρ h N:=by
 simp only[Lt,Z9]at Q;obtain⟨hed,Q⟩:=Q;cases bs with
 |nil=>cases Q
 |cons hd πs=>
  dsimp only at Q;simp only[Z9]at Q;obtain⟨hlo,hne,hall,hπ⟩:=Q;simp only[List.tail_cons]at hk;generalize lF hd.2=R at hne hall hπ hlo
  have hper:∀f∈πs,f.2.Nodup/\f.2.length=ops.size/\(∀i∈f.2,i<ops.size)/\okL P ops R [] f.2=true:=λf Y=>by
   have:=Y4.1 hπ f Y;simp only[Z9,decide_eq_true_eq,beq_iff_eq,Y4]at this;exact⟨this.1,this.2.1,this.2.2.1,this.2.2.2⟩
  have hmem:∀f∈πs,∀i,i<ops.size->i∈f.2:=λf Y i hi=>by
   obtain⟨G,E,h3,_⟩:=hper f Y;have hsub:f.2⊆List.range ops.size:=λx hx=>q2g.2 (h3 x hx)
   have hperm:(List.range ops.size)⊆f.2:=by
    intro x hx;by_cases hxm:x∈f.2
    ·exact hxm
    ·exfalso
     have:=List.Nodup.length_le_of_subset (l₁:=x::f.2) (l₂:=List.range ops.size) (q2m.2 ⟨hxm,G⟩) (λy hy=>by
      rcases Z4.1 hy with rfl|hy
      ·exact hx
      ·exact hsub hy)
     simp at this;omega
   exact hperm (q2g.2 hi)
  let dec:Array Bool->Nat×Nat->Prop:=λl p=>l.getD p.1 false=true∨l.getD p.2 false=true
  have hex:∀m:Nat->Nat,Lin ops m->∃f∈πs,∀p∈R,jg f.2 p.1 p.2=osR m p:=λm F=>by
   have G:=Y4.1 hall (R.map (osR m)) (by have:=Ce (R.map (osR m));rwa [Y0]at this);rw[LF F hne,Bool.not_true,Bool.false_or]at G;obtain⟨f,Y,hπe⟩:=List.any_eq_true.1 G;have hπe:R.map (λp=>jg f.2 p.1 p.2)=R.map (osR m):=by simpa using hπe
   exact⟨f,Y,λp z=>List.map_inj_left.1 hπe p z⟩
  refine⟨hed,λd ρ h=>∃(o:Nat×Nat->Bool) (S:DB->Prop),(∀p∈R,(d.getD p.1 false=true->d.getD p.2 false=false->o p=true)/\(d.getD p.2 false=true->d.getD p.1 false=false->o p=false))/\
   (∀m:Nat->Nat,Lin ops m->(∀p∈R,dec d p->osR m p=o p)->∃f,S f/\∀p∈R,jg f.2 p.1 p.2=osR m p)/\(∃m:Nat->Nat,Lin ops m/\(∀p∈R,dec d p->osR m p=o p)/\∀a b,d.getD a false=true->d.getD b false=false->m a<m b)/\∀f,S f->f∈πs/\fh P ops (f.2.filter λk=>!d.getD k false) ρ h N,?_,?_,?_⟩
  ·have e0:∀k,(Array.replicate ops.size false).getD k false=false:=λk=>by simp[Array.getD]
   refine⟨λ_=>true,λf=>f∈πs,λp _=>⟨λq=>(by rw[e0]at q;cases q),λq=>(by rw[e0]at q;cases q)⟩,λm F _=>hex m F,⟨λk=>k,⟨λj i hb=>zV hed 6 i hb,λ_ _ e=>e⟩,λp _ hd=>(by rcases hd with hd|hd<;>(rw[e0]at hd;cases hd)),λa b ha _=>(by rw[e0]at ha;cases ha)⟩,λf Y=>⟨Y,?_⟩⟩;have:f.2.filter (λk=>!(Array.replicate ops.size false).getD k false)=f.2:=List.filter_eq_self.2 λk _=>by rw[e0];rfl
   rw[this];exact hk f Y
  ·rintro d i o ρ1 G hsz hdn ho hun T ⟨or,S,hor,hS,⟨m,F,hro,hrl⟩,I⟩ ⟨w,hi⟩;have hilt:i<ops.size:=(Y9.1 ho).1;have g:∀k,(d.setIfInBounds i true).getD k false=if k=i then true else d.getD k false:=λk=>mb (by rw[hsz];exact hilt)
   let or':Nat×Nat->Bool:=λp=>if d.getD p.1 false=true∨d.getD p.2 false=true then or p else decide (p.1=i)
   have hcmp:∀p∈R,((d.setIfInBounds i true).getD p.1 false=true->(d.setIfInBounds i true).getD p.2 false=false->or' p=true)/\((d.setIfInBounds i true).getD p.2 false=true->(d.setIfInBounds i true).getD p.1 false=false->or' p=false):=λp z=>by
    obtain⟨g1,g2⟩:=hor p z;rw[g,g];refine⟨λq1 q2=>?_,λq1 q2=>?_⟩
    ·split at q2
     ·cases q2
     ·rename_i n2;by_cases d1:d.getD p.1 false=true
      ·(try simp only[or',d1,true_or,if_true]);exact g1 d1 q2
      ·have d1':d.getD p.1 false=false:=by simpa using d1
       simp only[or',d1',q2,q1u,or_self,if_false];split at q1
       ·rename_i q;simp[q]
       ·exact absurd q1 d1
    ·split at q2
     ·cases q2
     ·rename_i n2;by_cases d1:d.getD p.2 false=true
      ·(try simp only[or',d1,or_true,if_true]);exact g2 d1 q2
      ·have d1':d.getD p.2 false=false:=by simpa using d1
       simp only[or',d1',q2,q1u,or_self,if_false];simp[n2]
   have hdec:∀p,dec d p->dec (d.setIfInBounds i true) p/\or' p=or p:=λp hd=>by
    refine⟨?_,if_pos hd⟩;rcases hd with hd|hd
    ·exact .inl (by rw[g];split<;>first|rfl|exact hd)
    ·exact .inr (by rw[g];split<;>first|rfl|exact hd)
   have hS':∀m:Nat->Nat,Lin ops m->(∀p∈R,dec (d.setIfInBounds i true) p->osR m p=or' p)->∃f,S f/\∀p∈R,jg f.2 p.1 p.2=osR m p:=λm F A=>hS m F λp z hd=>by
    rw[A p z (hdec p hd).1,(hdec p hd).2]
   obtain⟨M,hM⟩:=RA m ops.size
   have hsize:∀k,d.getD k false=true->k<ops.size:=λk hk=>by
    rcases q3d k ops.size with q|q
    ·exact q
    ·rw[<-hsz]at q;simp[Array.getD,Nat.not_lt.2 q]at hk
   let s:Nat->Nat:=λk=>if d.getD k false=true then m k else if k=i then M else M+1+k
   have U:∀k,d.getD k false=true->s k=m k:=λk h=>if_pos h
   have Z:s i=M:=(if_neg (by rw[hun];decide)).trans (if_pos rfl);have C:∀k,d.getD k false=false->k≠i->s k=M+1+k:=λk G E=>by simp only[s];rw[if_neg (by rw[G];decide),if_neg E]
   have hk4:∀k,d.getD k false=false->M<=s k:=λk h=>by
    by_cases e:k=i
    ·subst e;omega
    ·rw[C k h e];omega
   have V:∀k,d.getD k false=true->s k<M:=λk h=>by rw[U k h];exact hM k (hsize k h)
   have befl:∀j k,nT ops 6 j k=true->d.getD k false=true->d.getD j false=true:=λj k hb hk=>ir hdn 6 k (λo' A e he W=>hdn k o' A hk e he W) hb
   have befi:∀j,nT ops 6 j i=true->d.getD j false=true:=λj hb=>ir hdn 6 i (λo' A e he W=>by
    rw[ho]at A;cases A;exact T e he W) hb
   have X:Lin ops s:=by
    refine⟨λj k hb=>?_,λj k e=>?_⟩
    ·cases B:d.getD k false with
     |true=>rw[U k B,U j (befl j k hb B)];exact F.1 j k hb
     |false=>
      by_cases ek:k=i
      ·subst ek;have:=V j (befi j hb);rw[Z];exact this
      ·cases J:d.getD j false with
       |true=>have:=V j J;have:=hk4 k B;omega
       |false=>
        by_cases ej:j=i
        ·subst ej;rw[Z,C k B ek];omega
        ·rw[C j J ej,C k B ek];have:=zV hed 6 k hb;omega
    ·cases J:d.getD j false with
     |true=>
      cases B:d.getD k false with
      |true=>rw[U j J,U k B]at e;exact F.2 j k e
      |false=>have:=V j J;have:=hk4 k B;omega
     |false=>
      cases B:d.getD k false with
      |true=>have:=V k B;have:=hk4 j J;omega
      |false=>
       by_cases ej:j=i
       ·by_cases ek:k=i
        ·rw[ej,ek]
        ·subst ej;rw[Z,C k B ek]at e;omega
       ·by_cases ek:k=i
        ·subst ek;rw[Z,C j J ej]at e;omega
        ·rw[C j J ej,C k B ek]at e;omega
   have hrl':∀a b,(d.setIfInBounds i true).getD a false=true->(d.setIfInBounds i true).getD b false=false->s a<s b:=λa b ha hb=>by
    rw[g]at ha hb;split at hb
    ·cases hb
    ·rename_i nb;have h3:=C b hb nb;split at ha
     ·rename_i ea;subst ea;omega
     ·have:=V a ha;omega
   have D:∀p∈R,dec (d.setIfInBounds i true) p->osR s p=or' p:=λp z hd=>by
    obtain⟨g1,g2⟩:=hor p z
    have hnp:p.1≠p.2:=λe=>by
     have:=Y4.1 hne p z;rw[e]at this;simp at this
    unfold osR;cases l1:d.getD p.1 false with
    |true=>
     have e1:or' p=or p:=if_pos (.inl l1);rw[e1];cases l2:d.getD p.2 false with
     |true=>rw[U _ l1,U _ l2];exact hro p z (.inl l1)
     |false=>rw[g1 l1 l2];have:=V _ l1;have:=hk4 _ l2;exact decide_eq_true (by omega)
    |false=>
     cases l2:d.getD p.2 false with
     |true=>
      have e1:or' p=or p:=if_pos (.inr l2);rw[e1,g2 l2 l1];have:=V _ l2;have:=hk4 _ l1;exact decide_eq_false (by omega)
     |false=>
      have e1:or' p=decide (p.1=i):=if_neg (by rw[l1,l2];simp);rw[e1];by_cases G:p.1=i
      ·have E:p.2≠i:=λe=>hnp (G.trans e.symm)
       rw[decide_eq_true G,G,Z,C _ l2 E];exact decide_eq_true (by omega)
      ·have E:p.2=i:=by
        rcases hd with hd|hd
        ·rw[g,if_neg G,l1]at hd;cases hd
        ·rw[g]at hd;split at hd
         ·assumption
         ·rw[l2]at hd;cases hd
       rw[decide_eq_false G,E,Z,C _ l1 G];exact decide_eq_false (by omega)
   have step:∀f,S f->(∀p∈R,dec (d.setIfInBounds i true) p->jg f.2 p.1 p.2=or' p)->a8 P ops o ρ1 G λρ' h'=>fh P ops (f.2.filter λk=>!(d.setIfInBounds i true).getD k false) ρ' h' N:=λf t ha=>by
    obtain⟨Y,O⟩:=I f t;obtain⟨p1,p2,p3,p4⟩:=hper f Y;have him:i∈f.2.filter λk=>!d.getD k false:=q0v.2 ⟨hmem f Y i hilt,by rw[hun];rfl⟩
    obtain⟨r,r2,hr⟩:=List.append_of_mem him
    have hcm:∀j∈r,nL P ops j i=true:=λj hj=>by
     obtain⟨q,q2,hq,hq2⟩:=zU hr
     have hjl:d.getD j false=false:=by
      have:=(q0v.1 (show j∈f.2.filter λk=>!d.getD k false by rw[hr];simp[hj])).2;simpa using this
     obtain⟨f1,f2⟩:=I9 p1 _ hr hj
     have hne:j≠i:=λe=>by
      subst e;have hnd:(f.2.filter λk=>!d.getD k false).Nodup:=p1.filter λk=>!d.getD k false
      rw[hr,q3l]at hnd;exact hnd.2.2 j hj j (by simp) rfl
     rcases LB p4 hq j (.inr (hq2 j hj))with c|c|c|c
     ·exact c
     ·have:=ir hdn 6 i (λo' A e he W=>by
       rw[ho]at A;cases A;exact T e he W) c
      rw[hjl]at this;cases this
     ·have:=ha (j,i) c (.inr (by rw[g,if_pos rfl]));rw[f2]at this;simp only[or',hjl,hun,q1u,or_self,if_false]at this;simp[hne]at this
     ·have:=ha (i,j) c (.inl (by rw[g,if_pos rfl]));rw[f1]at this;simp only[or',hjl,hun,q1u,or_self,if_false]at this;simp at this
    rw[hr]at O;have hb:=Rp ho r r2 hcm hi O
    have e:(f.2.filter λk=>!(d.setIfInBounds i true).getD k false)=r++r2:=by
     rw[<-filter_one p1 hr];refine List.filter_congr λk _=>?_
     rw[g];by_cases hki:k=i<;>simp[hki]
    rw[e];exact hb
   cases hld:bR o.op&&!(sD P o.op||II o.op)with
   |true=>
    simp only[Z9,q2r]at hld;have hl2:=Y4.1 hlo i (by simpa using hilt);simp only[F9,ho,hld.1,hld.2,Bool.not_true,Bool.false_or]at hl2
    have hall':∀p∈R,dec (d.setIfInBounds i true) p:=λp z=>by
     have E:=Y4.1 hl2 p z;simp only[q1a,Nat.beq_eq_true_eq]at E
     have bef:∀j,nT ops 6 j i=true->(d.setIfInBounds i true).getD j false=true:=λj hb=>by
      rw[g];split
      ·rfl
      ·exact ir hdn 6 i (λo' A e he W=>by
        rw[ho]at A;cases A;exact T e he W) hb
     rcases E with E|E|E|E
     ·exact .inl (by rw[g,if_pos (q0a E)])
     ·exact .inr (by rw[g,if_pos (q0a E)])
     ·exact .inl (bef _ E)
     ·exact .inr (bef _ E)
    obtain⟨f,t,hπo⟩:=hS' s X D;refine fo (λv h' hn=>?_) (step f t λp z hd=>(hπo p z).trans (D p z hd));exact⟨or',λq=>q=f,hcmp,λrk2 _ hos=>⟨f,rfl,λp z=>by rw[hπo p z,D p z (hall' p z),hos p z (hall' p z)]⟩,⟨s,X,D,hrl'⟩,λq hq=>by subst hq;exact⟨(I q t).1,hn⟩⟩
   |false=>
    have hst:∀{ρ:Env} {h:Hp} {K K':Env->Hp->Prop},a8 P ops o ρ h K->a8 P ops o ρ h K'->∃u h',K (ρ.put o.dst u) h'/\K' (ρ.put o.dst u) h'/\∀L:Env->Hp->Prop,L (ρ.put o.dst u) h'->a8 P ops o ρ h L:=λ{ρ h K K'} hk hk'=>by
     simp only[Bool.and_eq_false_iff,Bool.not_eq_false',q1a]at hld;rcases hld with q|q|q
     ·obtain⟨u,q1⟩:=od (by simp[gX,q]) hk hk';exact⟨u,h,q1⟩
     ·obtain⟨u,q1⟩:=BH q hk hk';exact⟨u,h,q1⟩
     ·exact IJ q hk hk'
    obtain⟨π0,hS0,hπ0⟩:=hS' s X D;have k0:=step π0 hS0 λp z hd=>(hπ0 p z).trans (D p z hd)
    obtain⟨u,hh,_,_,hu⟩:=hst k0 k0;refine hu _ ⟨or',λf=>S f/\∀p∈R,dec (d.setIfInBounds i true) p->jg f.2 p.1 p.2=or' p,hcmp,λrk2 hr2 hos=>?_,⟨s,X,D,hrl'⟩,λf ⟨t,ha⟩=>⟨(I f t).1,?_⟩⟩
    ·obtain⟨f,G,E⟩:=hS' rk2 hr2 hos;exact⟨f,⟨G,λp z hd=>by rw[E p z,hos p z hd]⟩,E⟩
    ·have ku:=hu (λρ' h'=>ρ'=ρ1.put o.dst u/\h'=hh) ⟨rfl,rfl⟩;obtain⟨u2,E,g1,g2,_⟩:=hst ku (step f t ha);rw[<-g1.1,<-g1.2];exact g2
  ·rintro d ρ1 G hsz hl ⟨or,S,_,hS,⟨m,F,hro,_⟩,I⟩;obtain⟨f,t,_⟩:=hS m F hro;obtain⟨Y,O⟩:=I f t
   have:(f.2.filter λk=>!d.getD k false)=[]:=List.filter_eq_nil_iff.2 λk hk=>by
    rw[hl k ((hper f Y).2.2.1 k hk)];simp
   rw[this]at O;exact O
theorem Cg{ops:Array Oper}{call:CP}{σ:AE}{H:AH}{n:Nat}{k:KP}:∀{a:List DB},Sq ops a call σ H n k->∀c∈a,uo ops (ym ops.toList c.2) call σ H n k
 | [],_,c,b=>by cases b
 |q::a,h,c,b=>by
  have h:uo ops (ym ops.toList q.2) call σ H n k/\Sq ops a call σ H n k:=h;rcases Z4.1 b with rfl|b
  ·exact h.1
  ·exact Cg h.2 c b
theorem Ge(a:FR φ σ ρ){c:Operand}{q:Bool}(b:ρ.ev c= .bool q):FR φ (Sn c q σ) ρ:=by
 cases c with
 |tmp t=>
  have:=a.put (some t) (VR.bool q);have e:ρ.put (some t) (.bool q)=ρ:=mW b;rw[e]at this;exact this
 |_=>exact a
theorem LG{a b:Bool}(h:(Bool.rec false b a:Bool)=true):a=true/\b=true:=by
 cases a with
 |true=>exact⟨rfl,h⟩
 |false=>cases h
theorem jG(F:oz call){J:CP}(hcd:oz J)(hcs:tR J){D:DT}{p:Nat}{φ0:Ph}(hφ:∀b q,φ0 b=some q->b<p)(c:Code):lZ D c=true->∀(φ:Ph) (σ:AE) (H:AH) (n:Nat) (kn:KP) (B:Nat->KP) (w:KP) (ρ:Env) (h:Hp) (N R:EH) (X:Nat->EH),PLe φ0 φ->HR φ H n h0 h->FR φ σ ρ->
 jF p J D c call σ H n kn B w->GoP φ0 h0 kn N->GoP φ0 h0 w R->(∀i,GoP φ0 h0 (B i) (X i))->avc Tryz.prog c N R X ρ h:=by
 induction c with
 |skip=>exact λ_ φ σ H n kn B w ρ h N R X u A v o E _ _=>E φ σ H n ρ h u A v o
 |region id ops draw=>
  intro r φ σ H n kn B w ρ h N R X u A v o E _ _;have key:uo ops ops.toList call σ H n kn->kR Tryz.prog ops ops.toList ρ h N:=λo=>jh F _ φ σ H n kn ρ h u A v o E
  unfold avc;cases draw with
  |false=>exact qp F _ φ σ H n kn ρ h u A v o E
  |true=>
   have o:(Option.rec (λcall σ H n kn _ _=>uo ops ops.toList call σ H n kn) (λbs call σ H n kn _ _=>OL ops bs call J σ H n kn) (findD D id):XP) call σ H n kn B w:=o;have r:(Option.rec (BL Tryz.prog ops) (λbs=>Ga Tryz.prog ops bs) (findD D id):Bool)=true:=r;rw[if_pos rfl];cases hd:findD D id with
   |none=>
    rw[hd]at o r;exact .inr (.inl ⟨r,key o⟩)
   |some bs=>
    rw[hd]at o r;have o:OL ops bs call J σ H n kn:=o;have r:Ga Tryz.prog ops bs=true:=r;unfold OL at o;unfold Ga at r;cases hnv:Lv bs with
    |true=>rw[hnv]at o;exact o.elim
    |false=>
    rw[hnv]at o r;rw[Bool.false_or]at r;have o:Lw ops bs call J σ H n kn:=o;unfold Lw at o;cases hio:Lu bs with
    |true=>
     rw[hio]at o r;exact .inr (.inr (OS r λπ hm=>qq _ _ _ (jh F _ φ σ H n kn ρ h u A v (Cg o π hm) E)))
    |false=>
     rw[hio]at o r;cases hbl:Nat.blt bs.length ops.size with
     |false=>
      rw[hbl]at o r;exact .inr (.inr (vJ hcd hcs r o A v λC σ' H' n' O h' hp' hr' hf' hk'=>E C σ' H' n' O h' (u.trans hp') hr' hf' hk'))
     |true=>
      rw[hbl]at o r;have r:(vD (IT ops bs.length) bs&&EA ops bs.length)=true:=r;rw[Z9]at r;have hlt:bs.length<ops.size:=by simpa using hbl
      obtain⟨hd1,P⟩:=r;unfold EA at P;simp only[Z9,Y4,q1a,q2g]at P;refine .inr (.inr (Le (m:=bs.length) (N':=λO h'=>kR Tryz.prog ops (ops.toList.drop bs.length) O h' N) (Nat.le_of_lt hlt) P.1 (λi hi hsz listed hdn hedge j hj=>lG P.2.1 hdn (i+1) i (by omega) hedge hsz ((P.2.2 i hsz).resolve_left (λq=>by rw[q2h]at q;omega) j hj)) ?_ λ_ _ h=>h));rw[<-OH];exact vJ hcd hcs hd1 o A v λC σ' H' n' O h' hp' hr' hf' hk'=>jh F _ C σ' H' n' kn O h' (u.trans hp') hr' hf' hk' E
 |seq a b S T=>
  intro r φ σ H n kn B w ρ h N R X u A v o E G I;obtain⟨U,V⟩:=LG r;have o:(Bool.rec (jF p J D a call σ H n (λσ H n=>jF p J D b call σ H n kn B w) B w) (yl p (λk=>jF p J D a call σ H n k B w) (λσ H n=>jF p J D b call σ H n kn B w)) (EB D b):Prop):=o;have way:jF p J D a call σ H n (λσ H n=>jF p J D b call σ H n kn B w) B w->avc Tryz.prog (.seq a b) N R X ρ h:=λo=>S U φ σ H n _ B w ρ h _ R X u A v o (λC σ H n ρ h u A v o=>T V C σ H n kn B w ρ h N R X u A v o E G I) G I
  cases hj:EB D b with
  |false=>rw[hj]at o;exact way o
  |true=>
   rw[hj]at o;rcases o with o|⟨α,m,st,hA,hB⟩
   ·exact way o
   ·refine S U φ σ H n _ B w ρ h _ R X u A v hA (λC σ1 H1 n1 d s K W Y ⟨a',M⟩=>?_) G I;obtain⟨χ,c1,c2,c3⟩:=M C h0 s d W Y;exact T V χ _ _ _ kn B w d s N R X ⟨λb q e=>c1.1 b q (hφ b q e) (K b q e),λq hq=>c1.2.1 q (K.z q hq),λq hq=>K.y q (c1.2.2 q hq)⟩ c2 c3 (hB a') E G I
 |cond x a b S T=>
  intro r φ σ H n kn B w ρ h N R X u A v o E G I;obtain⟨U,V⟩:=LG r;have o:Lj x σ (λσ=>jF p J D a call σ H n kn B w) (λσ=>jF p J D b call σ H n kn B w):=o;have M:=v.ev x;unfold Lj at o;unfold avc;split at o
  ·rename_i q;rw[q]at M;rw[M.bU];exact⟨λ_=>S U φ σ H n kn B w ρ h N R X u A v o E G I,(λk=>by cases k)⟩
  ·rename_i q;rw[q]at M;rw[M.bU];exact⟨(λk=>by cases k),λ_=>T V φ σ H n kn B w ρ h N R X u A v o E G I⟩
  ·rename_i q e;rw[e]at M;have hv:=M.jW;cases q with
   |true=>rw[hv];exact⟨λ_=>S U φ _ H n kn B w ρ h N R X u A (Ge v hv) (o.t rfl) E G I,(λk=>by cases k)⟩
   |false=>rw[hv];exact⟨(λk=>by cases k),λ_=>T V φ _ H n kn B w ρ h N R X u A (Ge v hv) (o.f rfl) E G I⟩
  ·exact o.elim
 |block id b ih=>
  intro r φ σ H n kn B w ρ h N R X u A v hs0 E G I;unfold avc;refine ih r φ σ H n kn _ w ρ h N R _ u A v hs0 E G λi C σ H n ρ h u A v o=>?_
  cases hb:Nat.beq i id with
  |true=>
   rw[hb]at o;have hii:=q0a hb;rw[if_pos hii];exact E C σ H n ρ h u A v o
  |false=>
   rw[hb]at o;have hne:¬i=id:=λq=>by subst q;simp at hb
   (try simp only[if_neg hne])
   exact I i C σ H n ρ h u A v o
 |loop b ih=>
  intro r φ σ H n kn B w ρ h N R X u A v o E G I;have o:aR p (λσ H n k=>jF p J D b call σ H n k B w) σ H n:=o;unfold avc;rcases o with⟨α,nn,st,μ,a0,c0,hstep⟩|⟨k0,hroll⟩
  ·skip
   let Q:Env->Hp->Nat->Prop:=λd s m=>∃C a,μ a=m/\PLe φ0 C/\HR C (st a).2 nn h0 s/\FR C (st a).1 d
   have cov:∀{C:Ph} {σ:AE} {H:AH} {n:Nat} {ρ:Env} {h:Hp} {a:α},Cov p σ H n ((st a).1,(st a).2,nn)->PLe φ0 C->HR C H n h0 h->FR C σ ρ->Q ρ h (μ a):=λ{C σ H n ρ h a} M u A v=>by
    obtain⟨χ,s,h2,h3⟩:=M C h0 h ρ A v;exact⟨χ,a,rfl,⟨λb q e=>s.1 b q (hφ b q e) (u b q e),λq hq=>s.2.1 q (u.z q hq),λq hq=>u.y q (s.2.2 q hq)⟩,h2,h3⟩
   have Z:∀d s g,Q d s g->∃m,Q d s m/\∀k,Q d s k->m<=k:=λd s g hg=>least g hg
   refine⟨λd s=>∃g,Q d s g,λd s=>Classical.epsilon λm=>Q d s m/\∀k,Q d s k->m<=k,⟨_,cov c0 u A v⟩,λd s ⟨g,hg⟩ _ _=>?_⟩;have hsp:=q3v (Z d s g hg);obtain⟨m,hm⟩:∃m,(Classical.epsilon λm=>Q d s m/\∀k,Q d s k->m<=k)=m:=⟨_,rfl⟩;rw[hm]at hsp;obtain⟨⟨C,a,ha,K,W,Y⟩,_⟩:=hsp;refine ih r C _ _ _ _ B w d s _ R X K W Y (hstep a) (λχ σ2 H2 n2 ρ2 h2 hp2 hr2 hf2 ⟨a',hlt,M⟩=>?_) G I;have L:=cov M hp2 hr2 hf2;refine⟨h2,Sub.refl _,⟨_,L⟩,?_⟩;have hsp2:=q3v (Z ρ2 h2 _ L);have:=hsp2.2 _ L
   (try simp only[hm])
   omega
  ·let Q:Env->Hp->Nat->Prop:=λd s m=>∃C σ H n,Rt m (λσ H n k=>jF p J D b call σ H n k B w) σ H n/\PLe φ0 C/\HR C H n h0 s/\FR C σ d
   have Z:∀d s g,Q d s g->∃m,Q d s m/\∀k,Q d s k->m<=k:=λd s g hg=>least g hg
   refine⟨λd s=>∃g,Q d s g,λd s=>Classical.epsilon λm=>Q d s m/\∀k,Q d s k->m<=k,⟨k0,φ,σ,H,n,hroll,u,A,v⟩,λd s ⟨g,hg⟩ _ _=>?_⟩;have hsp:=q3v (Z d s g hg);obtain⟨m,hm⟩:∃m,(Classical.epsilon λm=>Q d s m/\∀k,Q d s k->m<=k)=m:=⟨_,rfl⟩;rw[hm]at hsp;obtain⟨⟨C,σ1,H1,n1,hr0,K,W,Y⟩,_⟩:=hsp;cases m with
   |zero=>exact hr0.elim
   |succ m=>
    refine ih r C _ _ _ _ B w d s _ R X K W Y hr0 (λχ σ2 H2 n2 ρ2 h2 hp2 hr2 hf2 h3=>?_) G I;have L:Q ρ2 h2 m:=⟨χ,σ2,H2,n2,h3,hp2,hr2,hf2⟩;refine⟨h2,Sub.refl _,⟨_,L⟩,?_⟩;have hsp2:=q3v (Z ρ2 h2 _ L);have:=hsp2.2 _ L
    (try simp only[hm])
    omega
 |exit i=>exact λ_ φ σ H n kn B w ρ h N R X u A v o _ _ I=>I i φ σ H n ρ h u A v o
 |scope b ih=>exact λr φ σ H n kn B w ρ h N R X u A v o E G I=>ih r φ σ H n kn B w ρ h N R X u A v o E G I
 |label l=>exact λ_ φ σ H n kn B w ρ h N R X u A v o E _ _=>E φ σ H n ρ h u A v o
 |ret=>exact λ_ φ σ H n kn B w ρ h N R X u A v o _ G _=>G φ σ H n ρ h u A v o
 |_=>intro _ φ σ H n kn B w ρ h N R X u A v o;exact o.elim
theorem nh(g:HR φ H n h0 h)(f:FR φ σ ρ){K:KH}:∀(rs:List ResultVar) (acc:List Value) (k:List AV->Prop),B8 rs σ H k->(∀c us,k c->VRs φ c us->Fin K (BO (acc.reverse++us)) h)->um Tryz.prog rs acc ρ h K
 | [],acc,k,b,e=>by
  have:=e [] [] b .nil;simpa[um]using this
 | .tmp t::rs,acc,k,b,e=>by
  have b:B8 rs σ H (λc=>k (aj (pa t) σ::c)):=b;refine nh g f rs (ρ t::acc) _ b λc us i d=>?_
  have:=e _ (ρ t::us) i (.cons (f.at t) d);simpa using this
 | .cell a t::rs,acc,k,b,e=>by
  have b:tK t (aj (pa a) σ) H (λv=>B8 rs σ H λc=>k (v::c)):=b;refine oA g (f.at a) b λr u i j=>?_
  refine nh g f rs (u::acc) _ i λc us l d=>?_
  have:=e _ (u::us) l (.cons j d);simpa using this
theorem vL (J:Tryz.prog.follows .mixedOrders=true) (d:oz call) {m:CP} (o:oz m) (p:tR m) {D:DT} {f:FuncId} {fn:Func} {c:Code} (g:IQ Tryz.prog f=true) (r:lZ D c=true) (j:Tryz.prog.funcs[f]?=some fn) (B:fn.body=some c) {args:List AV} {κ:PK} {l:Array Value} {K:KH}
 (s:OM call m D c fn.results.toList fn.ntmps args H n κ) (C:HR φ H n h0 h) (a:VRs φ args l.toList) (L:cn φ h0 κ K):dH Tryz.prog f l h K:=by
 obtain⟨M,s⟩:=fQ s;simp only[IQ,j,B,Z9]at g;obtain⟨t,hds⟩:=g;have u:=a.length;have hle:=Z0 M;refine⟨t,K0 J j B rfl rfl hds (by simpa[u]using hle) λ_=>?_⟩
 have fin:GoP φ h0 (λσ H n=>B8 fn.results.toList σ H λl=>κ (yf l) H n) (um Tryz.prog fn.results.toList [] · · K):=λE v F G w I x k y z=>
  nh k y _ [] _ z λws us N A=> .here (L E _ F G _ I x k (by simpa using B4 A) N)
 exact jG d o p (λb q e=>(C.dom b q e).1) c r φ _ H n _ _ _ _ h _ _ _ (PLe.refl _) C (B3 a) s fin fin λi E v F G w I _ _ _ q=>q.elim
def ai(f:FuncId)(g:List AV->AH->Nat->PK->Prop):Prop:=∀(args:List AV) (H:AH) (n:Nat) (a:PK),g args H n a->∀(φ:Ph) (h0 h:Hp) (b:Array Value) (K:KH),HR φ H n h0 h->VRs φ args b.toList->cn φ h0 a K->dH Tryz.prog f b h K
def fU(g:List AV->AH->Nat->PK->Prop):Prop:=∀args H n d,g args H n d->∃v b c,d v b c/\fR H b/\n<=c/\∀a:PK,a v b c->g args H n a
def RB(f:FuncId)(e:EP):Prop:=match e with
 | .no=>True
 | .run D c rs m=>IQ Tryz.prog f=true/\lZ D c=true/\∃fn,Tryz.prog.funcs[f]?=some fn/\fn.body=some c/\fn.results.toList=rs/\fn.ntmps=m
 | .nat g=>ai f g
 | .det g=>ai f g/\fU g
def aU(F:FuncId->EP):Prop:=∀f,RB f (F f)
theorem rn{F:FuncId->EP}(i:aU F):oz (tN F):=λf args H n d a φ h0 h j K k c l=>by
 have a:(EP.rec (λ_ _ _ _=>False) (λ_ _ _ _ _ _ _ _=>False) (λ_ _ _ _ _=>False) (λg=>g) (F f):List AV->AH->Nat->PK->Prop) args H n d:=a;have e:=i f;cases b:F f with
 |no=>rw[b]at a;exact a.elim
 |nat g=>rw[b]at a;exact a.elim
 |run _ _ _ _=>rw[b]at a;exact a.elim
 |det g=>rw[b]at a e;exact e.1 args H n d a φ h0 h j K k c l
theorem ni{F:FuncId->EP}(d:aU F):tR (tN F):=λf args H n e b=>by
 unfold tN at*;have c:=d f;cases a:F f with
 |no=>rw[a]at b;exact b.elim
 |nat g=>rw[a]at b;exact b.elim
 |run _ _ _ _=>rw[a]at b;exact b.elim
 |det g=>rw[a]at b c;exact c.2 args H n e b
theorem bV(t:Tryz.prog.follows .mixedOrders=true){F:FuncId->EP}(j:aU F):∀d,oz (ax F d)
 |0=>λf args H n κ b=>b.elim
 |d+1=>λf args H n κ b φ h0 h u K k a l=>by
  have b:(EP.rec (λ_ _ _ _=>False) (λD c rs m=>OM (ax F d) (tN F) D c rs m) (λg=>g) (λg=>g) (F f):List AV->AH->Nat->PK->Prop) args H n κ:=b;have i:=j f;cases e:F f with
  |no=>rw[e]at b;exact b.elim
  |nat g=>rw[e]at b i;exact i args H n κ b φ h0 h u K k a l
  |det g=>rw[e]at b i;exact i.1 args H n κ b φ h0 h u K k a l
  |run D c rs m=>
   rw[e]at b i;obtain⟨o,p,fn,q,v,r,s⟩:=i;subst r s;exact vL t (bV t j d) (rn j) (ni j) o p q v b k a l
theorem vM{D:DT}{f:FuncId}(d:IQ Tryz.prog f=true)(a:yo D f=true):RB f (yn D f):=by
 unfold yo at a;unfold yn;cases b:Tryz.prog.funcs[f]? with
 |none=>rw[b]at a;cases a
 |some fn=>
  rw[b]at a;dsimp only at a⊢;cases e:fn.body with
  |none=>rw[e]at a;cases a
  |some c=>
   rw[e]at a;exact⟨d,a,fn,b,e,rfl,rfl⟩
theorem az:aU evP:=λf=>by
 unfold evP;cases h:Rq f with
 |false=>trivial
 |true=>
  cases hd:yo [] f with
  |false=>trivial
  |true=>exact vM h hd
def bb (k:FuncId) (D:DT) (F:FuncId->EP) (f:FuncId):EP:=Bool.rec (F f) (yn D k) (Nat.beq f k)
theorem au{F:FuncId->EP}(c:aU F){k:FuncId}{D:DT}(a:IQ Tryz.prog k=true)(b:yo D k=true):aU (bb k D F):=λf=>by
 unfold bb;cases d:Nat.beq f k with
 |false=>exact c f
 |true=>
  have:=q0a d;subst this;exact vM a b
def cf (k:FuncId) (g:List AV->AH->Nat->PK->Prop) (F:FuncId->EP) (f:FuncId):EP:=Bool.rec (F f) (.det g) (Nat.beq f k)
theorem aO{F:FuncId->EP}(a:aU F){k:FuncId}{g:List AV->AH->Nat->PK->Prop}(b:ai k g)(c:fU g):aU (cf k g F):=λf=>by
 unfold cf;cases d:Nat.beq f k with
 |false=>exact a f
 |true=>
  have:=q0a d;subst this;exact⟨b,c⟩
def aq (k:FuncId) (g:List AV->AH->Nat->PK->Prop) (F:FuncId->EP) (f:FuncId):EP:=Bool.rec (F f) (.nat g) (Nat.beq f k)
theorem ag{F:FuncId->EP}(a:aU F){k:FuncId}{g:List AV->AH->Nat->PK->Prop}(b:ai k g):aU (aq k g F):=λf=>by
 unfold aq;cases c:Nat.beq f k with
 |false=>exact a f
 |true=>
  have:=q0a c;subst this;exact b
def flat:AV->Bool
 | .int _ _=>true
 | .str _=>true
 | .bool _=>true
 | .si _ _=>true
 | .sb _=>true
 | .ss _=>true
 | .nil=>true
 | .nsl=>true
 | .tup l=>l.all flat1
 | .agg l=>l.all flat1
 |_=>false
where flat1:AV->Bool
 | .int _ _=>true
 | .str _=>true
 | .bool _=>true
 | .si _ _=>true
 | .sb _=>true
 | .ss _=>true
 | .nil=>true
 | .nsl=>true
 |_=>false
theorem aV{φ ψ:Ph}{a:AV}{v:Value}(b:flat.flat1 a=true)(h:VR φ a v):VR ψ a v:=by
 cases a<;>first|(cases b;done)|exact h
theorem ph{φ ψ:Ph}:∀{l:List AV} {b:List Value},l.all flat.flat1=true->VRs φ l b->VRs ψ l b
 | [],b,_,h=>by rw[h.aQ];exact .nil
 |a::l,b,c,h=>by
  obtain⟨v,us,rfl,d,e⟩:=h.cons_inv;simp only[q1p,Z9]at c;exact .cons (aV c.1 d) (ph c.2 e)
theorem iO{φ ψ:Ph}{a:AV}{v:Value}(b:flat a=true)(h:VR φ a v):VR ψ a v:=by
 cases a<;>first|(cases b;done)|exact h|skip
 case agg l=>obtain⟨cs,rfl,c⟩:=h.dX;exact .agg (ph b c)
 case tup l=>obtain⟨cs,rfl,c⟩:=h.eH;exact .tup (ph b c)
def mkT:AV->AV
 | .tup l=> .tup (l.map mk)
 |v=>mk v
theorem VRs.mk{φ:Ph}:∀{l:List AV} {b:List Value},VRs φ l b->VRs φ (l.map Go.Proofs.YtflehenfikoniaaGreat.mk) b
 | [],b,h=>by rw[h.aQ];exact .nil
 |a::l,b,h=>by
  obtain⟨v,us,rfl,c,d⟩:=h.cons_inv;exact .cons c.mk (VRs.mk d)
theorem VR.mkT{φ:Ph}{a:AV}{v:Value}(h:VR φ a v):VR φ (mkT a) v:=by
 cases a<;>first|exact h.mk|skip
 case tup l=>obtain⟨cs,rfl,b⟩:=h.eH;exact .tup b.mk
theorem Ch{a:AV}(h:flat a=true):flat (mkT a)=true:=by
 cases a<;>first|exact h|skip
 case tup l=>
  have:∀{l:List AV},l.all flat.flat1=true->(l.map mk).all flat.flat1=true:=by
   intro l
   induction l with
   |nil=>intro _;rfl
   |cons a l c=>
    intro b;simp only[q1p,q1j,Z9]at b⊢;refine⟨?_,c b.2⟩;cases a<;>exact b.1
  exact this h
theorem U4 {F:FuncId->EP} (r:aU F) {d:Nat} {f:FuncId} {args:List AV} {v:AV} (x:args.all flat=true) (y:flat v=true) (h:ax F d f args .nil 0 λu _ _=>mkT u=mkT v)
 {φ:Ph} {H:AH} {n:Nat} {h0 i:Hp} {j:Array Value} {κ:PK} {K:KH} (z:κ (mkT v) H n) (A:HR φ H n h0 i) (e:VRs φ args j.toList) (B:cn φ h0 κ K):dH Tryz.prog f j i K:=by
 have c:VRs Ph.no args j.toList:=by
  have:∀{l:List AV} {us:List Value},l.all flat=true->VRs φ l us->VRs Ph.no l us:=by
   intro l
   induction l with
   |nil=>intro us _ h;rw[h.aQ];exact .nil
   |cons a l C=>
    intro us k h;obtain⟨w,ws,rfl,D,E⟩:=h.cons_inv;simp only[q1p,Z9]at k;exact .cons (iO k.1 D) (C k.2 E)
  exact this x e
 have key:Wf i->dH Tryz.prog f j i K:=λG=>bV (by kernel_rfl) r d f args .nil 0 _ h Ph.no i i j K (fP G) c λI u O P w g _ s J L=>by
  have m:HR φ H n h0 g:=A.grow (λb o M=>(s.base b o M).2) s.size;have N:VR φ (mkT v) w:=(iO (φ:=I) (Ch y) (L▸J.mkT));exact B φ _ H n w g (PLe.refl _) m N z
 have p:bM Tryz.prog f=true:=(bV (by kernel_rfl) r d f args .nil 0 _ h Ph.no ⟨λ_=>none,0⟩ ⟨λ_=>none,0⟩ j (λ_ _=>True) (fP λ_ _ q=>by cases q) c λ_ _ _ _ _ _ _ _ _ _=>trivial).1;exact⟨p,λw t=>(key t.wf).2 w t⟩
end
def mkE:List (Nat×AV)->AE
 | []=> .nil
 |x::l=>(mkE l).set (some x.2) eO x.1
def mkH:List (Nat×AO)->AH
 | []=> .nil
 |x::l=>(mkH l).set (some x.2) aa x.1
theorem nk:∀{l:List (Nat×AV)} {t:Nat} {a:AV},(mkE l).get t=some a->(t,a)∈l
 | [],t,a,h=>by cases h
 |x::l,t,a,h=>by
  rcases PM.ak eO _ x.1 t a h with⟨rfl,b⟩|⟨_,b⟩
  ·injection b with b;subst b;exact Y6
  ·exact X7 _ (nk b)
theorem b9:∀{l:List (Nat×AO)} {t:Nat} {a:AO},(mkH l).get t=some a->(t,a)∈l
 | [],t,a,h=>by cases h
 |x::l,t,a,h=>by
  rcases PM.ak aa _ x.1 t a h with⟨rfl,b⟩|⟨_,b⟩
  ·injection b with b;subst b;exact Y6
  ·exact X7 _ (b9 b)
def Ren(m:Nat)(r:Nat->Nat)(φ ψ:Ph):Prop:=(∀b,b<m->ψ b=φ (r b))/\∀q,φ.z q->ψ.z q
def AO.size:AO->Nat
 | .cells l _=>l.length
 | .ro l=>l.length
 | .map _=>0
 | .mp _ _ _=>0
 | .iter _ _ _=>0
 | .sep _=>0
def Room(φ:Ph)(H:AH):Prop:=∀b o p,H.get b=some o->φ b=some p->o.size<=p.T
theorem HR.room{φ:Ph}{H:AH}{n:Nat}{e h:Hp}(f:HR φ H n e h):Room φ H:=λb o p g i=>by
 obtain⟨j,_,_,d⟩:=f.of g i;cases o with
 |cells l z=>obtain⟨c,t,fz,_,a,_⟩:=d;exact a
 |ro l=>obtain⟨c,t,fz,_,a,_⟩:=d;exact a
 |map es=>exact X5 _
 |mp _ _ _=>exact X5 _
 |iter _ _ _=>exact X5 _
 |sep _=>exact X5 _
def ah(H:AH)(m:Nat)(r:Nat->Nat)(a d:AV):Prop:=∀b c v,Ren m r b c->Room b H->VR b a v->VR c d v
def ao(H:AH)(m:Nat)(r:Nat->Nat)(o o':AO):Prop:=(o.own=o'.own/\o.IN=o'.IN)/\∀a b p c,Ren m r a b->Room a H->OR a p o c->OR b p o' c
section
variable {H:AH} {m:Nat} {r:Nat->Nat}
theorem ah.flat{a b:AV}(h:Go.Proofs.YtflehenfikoniaaGreat.flat b=true)(e:mk a=mk b):ah H m r a b:=λc i v _ _ d=>by
 have f:VR c (mk b) v:=e▸d.mk;have g:VR c b v:=by cases b<;>exact f
 exact iO h g
theorem ah.int{k:IntKind}{a:AV}{x:Int}(e:mk a= .si k x):ah H m r a (.si k x):=ah.flat rfl e
theorem ah.bool{a:AV}{x:Bool}(e:mk a= .sb x):ah H m r a (.sb x):=ah.flat rfl e
theorem ah.str{a:AV}{x:List Nat}(e:mk a= .ss x):ah H m r a (.ss x):=ah.flat rfl e
theorem ah.ptr{a:AV}{b o:Nat}(c:b<m)(e:a= .ptr (r b) o):ah H m r a (.ptr b o):=λh i v d _ f=>by
 subst e;obtain⟨p,g,rfl⟩:=f.cD;exact .ptr (by rw[d.1 b c];exact g)
theorem ah.mg{a:AV}(h:Go.Proofs.YtflehenfikoniaaGreat.mg a=true):ah H m r a a:=λd e v b _ c=>lD b.2 h c
theorem ah.map{a:AV}{b:Nat}(c:b<m)(e:a= .map (r b)):ah H m r a (.map b):=λh i v d _ f=>by
 subst e;obtain⟨p,g,rfl⟩:=f.lC;exact .map (by rw[d.1 b c];exact g)
theorem ah.sy{a:AV}{b o n c k:Nat}(d:b<m)(e:mk a= .sy (r b) o n c k):ah H m r a (.sy b o n c k):=λf s v g _ h=>by
 have i:VR f (.sy (r b) o n c k) v:=e▸h.mk;obtain⟨p,C,j,rfl,l,q⟩:=i.zJ;exact .sy (by rw[g.1 b d];exact j) l q
theorem ah.sl{a:AV}{b o n c k:Nat}(d:b<m)(e:mk a= .sy (r b) o n c k):ah H m r a (.sl b o n c k):=λf g v h i j=>(ah.sy d e f g v h i j).hd
theorem ah.rw{a:AV}{b o n j k x d:Nat}(l:b<m)(e:a= .rw (r b) o j k d)(hn:j=n:=by first|rfl|simp)(f:(x<2->d<2)/\(x=1->d=1)/\(x≠4->d≠4):=by decide):ah H m r a (.rw b o n k x):=λD E v s _ t=>by
 subst e hn;rcases t.gO with⟨rfl,g⟩|⟨p,y,C,h,rfl,i,u,w,z,A,B⟩
 ·refine .rwe rfl (g.imp id λ⟨h,i⟩=>⟨?_,i⟩)
  by_cases c:x=4
  ·exact c
  ·exact absurd h (f.2.2 c)
 ·exact .rwx (by rw[s.1 b l];exact h) i u w z (λq=>A (f.1 q)) (λq=>B (f.2.1 q))
theorem ah.iP{a:AV}{b o n k x:Nat}(e:a= .nsl)(hn:n=0:=by first|rfl|simp):ah H m r a (.rw b o n k x):=λd f v g _ c=>by
 subst e hn;rw[c.cZ];exact .rwn
theorem ao.cells{l l':List AV}{z e:Bool}(f:l'.length<=l.length)(g:e=true->z=true)(h:∀(i:Nat) (b:AV),l'[i]?=some b->∃a,l[i]?=some a/\ah H m r a b):ao H m r (.cells l z) (.cells l' e):=
 ⟨⟨rfl,rfl⟩,λj k p F n o ⟨c,t,fz,s,u,w,x,y,A⟩=>⟨c,t,fz,s,X9 f u,w,x,λq=>y (g q),λi b B=>by
  obtain⟨a,C,D⟩:=h i b B;obtain⟨v,E,d⟩:=A i a C;exact⟨v,E,D j k v n o d⟩⟩⟩
theorem ao.ro{l l':List AV}(e:l'.length<=l.length)(h:∀(i:Nat) (b:AV),l'[i]?=some b->∃a,l[i]?=some a/\ah H m r a b):ao H m r (.ro l) (.ro l'):=
 ⟨⟨rfl,rfl⟩,λf g p z j k ⟨c,t,fz,n,o,q,s⟩=>⟨c,t,fz,n,X9 e o,q,λi b u=>by
  obtain⟨a,w,x⟩:=h i b u;obtain⟨v,y,d⟩:=s i a w;exact⟨v,y,x f g v j k d⟩⟩⟩
theorem vO{a:AV}(h:Go.Proofs.YtflehenfikoniaaGreat.flat.flat1 a=true):Go.Proofs.YtflehenfikoniaaGreat.flat a=true:=by cases a<;>first|exact h|cases h
theorem ah.mk1{a b:AV}(c:Go.Proofs.YtflehenfikoniaaGreat.flat.flat1 b=true)(e:mk a=mk b):ah H m r a b:=ah.flat (vO c) e
theorem yx{l l':List AV}(c:l'.all Go.Proofs.YtflehenfikoniaaGreat.flat.flat1=true)(h:l.map mk=l'.map mk)(i:Nat)(b:AV)(hi:l'[i]?=some b):∃a,l[i]?=some a/\ah H m r a b:=by
 have e:=congrArg (λx:List AV=>x[i]?) h;simp only[q0q,hi,Y8]at e;rw[Z7]at e;obtain⟨a,d,f⟩:=e;exact⟨a,d,.mk1 (Y4.1 c b (q0c hi)) f⟩
theorem ao.bA{l l':List AV}{z a:Bool}(b:l'.all Go.Proofs.YtflehenfikoniaaGreat.flat.flat1=true)(h:l.map mk=l'.map mk)(c:a=true->z=true):ao H m r (.cells l z) (.cells l' a):=
 ao.cells (by have:=congrArg List.length h;simp only[Y0]at this;omega) c (yx b h)
theorem ao.Ci{l l':List AV}(a:l'.all Go.Proofs.YtflehenfikoniaaGreat.flat.flat1=true)(h:l.map mk=l'.map mk):ao H m r (.ro l) (.ro l'):=
 ao.ro (by have:=congrArg List.length h;simp only[Y0]at this;omega) (yx a h)
theorem vQ:∀{s:List Nat},(∀x∈s,x<256)->kU (s.map λc:Nat=> .si .u8 (Int.ofNat c))=some s
 | [],_=>rfl
 |c::s,h=>by
  have a:Nat.blt c 256=true:=by rw[q2h];exact h c Y6
  simp only[q1j,kU,a,vQ (s:=s) λx b=>h x (X7 _ b),Y8]
theorem bw{a:Type}{l:List a}{n:Nat}(h:l.length=n):bk l 0 n=some l:=by
 subst h;unfold bk;rw[q0s,q0n (Z3 _)];simp
theorem Cov.ofR {p n:Nat} {σ:AE} {H:AH} {le:List (Nat×AV)} {lh:List (Nat×AO)} (r:Nat->Nat) (hp:p<=m) (hr:∀b,b<p->r b=b) (he:∀x∈le,ah H m r (aj (pa x.1) σ) x.2)
 (N:∀x∈lh,x.1<m/\((∃o,H.get (r x.1)=some o/\ao H m r o x.2)∨(x.2.void=true/\n<=r x.1))) (hi:∀x∈lh,∀y∈lh,r x.1=r y.1->x.1=y.1):Cov p σ H n (mkE le,mkH lh,m):=λC h0 h ρ I hF=>by
 let k:Ph:=⟨λb=>if b<m then C (r b)else none,C.z,C.y,λb=>C.s (r b)⟩
 have v:Ren m r C k:=⟨λb g=>by simp only[k,if_pos g],λ_ h=>h⟩;have u:=I.room
 have d:∀b,n<=b->C b=none:=λb g=>by
  cases f:C b with
  |none=>rfl
  |some p=>exact absurd (I.dom b p f).1 (by omega)
 refine⟨k,⟨λb q g f=>?_,λ_ h=>h,λ_ h=>h⟩,⟨λb q f=>?_,λb o g=>?_,λb b' o o' q q' g P V W f j e=>?_,I.base,I.size,λq f=>?_,λb Q g=>?_⟩,λt a ht=>?_⟩
 ·simp only[k,if_pos (q0t g hp),hr b g];exact f
 ·simp only[k]at f;split at f
  ·rename_i g;exact⟨g,(I.dom _ _ f).2⟩
  ·cases f
 ·obtain⟨G,⟨J,A,w,S⟩|⟨A,w⟩⟩:=N _ (b9 g)
  ·rcases I.live _ _ A with⟨K,D⟩|⟨q,ob,K,D,X,T⟩
   ·refine .inl ⟨by simp only[k,if_pos G];exact K,?_⟩;cases L:J.IN with
    |some Q=>
     rw[w.2]at L;cases o<;>first|rfl|cases L
    |none=>
    obtain⟨q,f⟩:∃q:Pl,q=⟨0,0,0⟩:=⟨_,rfl⟩
    have key:OR C q J (.cells #[] default (0,0)):=by
     cases J with
     |cells l z=>
      cases l with
      |nil=>exact⟨#[],default,_,rfl,by simp,by subst f;simp,iZ _ _,λ_=>rfl,λi a h=>by simp at h⟩
      |cons _ _=>cases D
     |ro l=>
      cases l with
      |nil=>exact⟨#[],default,_,rfl,by simp,by subst f;simp,λi a h=>by simp at h⟩
      |cons _ _=>cases D
     |map _=>cases D
     |mp _ _ _=>cases D
     |iter _ _ _=>cases D
     |sep _=>cases L
    have M:=S C k q _ v u key;cases o with
    |cells l z=>
     obtain⟨c,t,fz,e,Y,_⟩:=M;subst f;cases l with
     |nil=>rfl
     |cons _ _=>simp at Y
    |ro l=>
     obtain⟨c,t,fz,e,Y,_⟩:=M;subst f;cases l with
     |nil=>rfl
     |cons _ _=>simp at Y
    |map _=>obtain⟨ms,cl,e,_⟩:=M;cases e
    |mp _ _ _=>obtain⟨ms,e,_⟩:=M;cases e
    |iter _ _ _=>obtain⟨_,q',_,e⟩:=M;cases e
    |sep _=>rfl
   ·refine .inr ⟨q,ob,by simp only[k,if_pos G];exact K,?_,X,S C k q ob v u T⟩;rw[D];cases J<;>cases o<;>first|rfl|cases w.1|cases T
  ·exact .inl ⟨by simp only[k,if_pos G];exact d _ w,AO.F5 A⟩
 ·obtain⟨G,E⟩:=N _ (b9 g);obtain⟨Z,F⟩:=N _ (b9 P);simp only[k,if_pos G]at f;simp only[k,if_pos Z]at j;rcases E with⟨J,A,w,S⟩|⟨_,w⟩
  ·rcases F with⟨o2',E,F,h4'⟩|⟨_,F⟩
   ·exact hi _ (b9 g) _ (b9 P) (I.inj _ _ _ _ _ _ A E (w.1.trans V) (F.1.trans W) f j e)
   ·rw[d _ F]at j;cases j
  ·rw[d _ w]at f;cases f
 ·obtain⟨⟨K,g9⟩,D⟩:=I.frz q f;refine⟨⟨FzR.mono v.2 K,g9⟩,λb o q' g V j=>?_⟩;obtain⟨G,E⟩:=N _ (b9 g);simp only[k,if_pos G]at j;rcases E with⟨J,A,w,S⟩|⟨_,w⟩
  ·exact D _ _ _ A (w.1.trans V) j
  ·rw[d _ w]at j;cases j
 ·
  have src:∀{b Q},(mkH lh).get b=some (.sep Q)->b<m/\H.get (r b)=some (.sep Q):=λ{b Q} g=>by
   obtain⟨G,⟨J,A,w,_⟩|⟨A,_⟩⟩:=N _ (b9 g)
   ·have:=w.2;cases J<;>first|cases this;done|(cases this;exact⟨G,A⟩)
   ·cases A
  obtain⟨G,A⟩:=src g;obtain⟨k1,M⟩:=I.sep _ _ A;refine⟨k1,λB hB=>?_⟩;obtain⟨K,D,X,T⟩:=M B hB;refine⟨K,λb' o' p' U e2 O=>?_,X,λb' Q' U e2 O=>?_⟩
  ·obtain⟨f1,R⟩:=N _ (b9 U);simp only[k,if_pos f1]at O;rcases R with⟨J,R,f3,_⟩|⟨_,f3⟩
   ·exact D _ _ _ R (f3.1.trans e2) O
   ·rw[d _ f3]at O;cases O
  ·obtain⟨_,R⟩:=src U;exact T _ _ R (λq=>e2 (hi _ (b9 U) _ (b9 g) q)) O
 ·exact he _ (nk ht) C k _ v u (hF.at t)
theorem Cov.of {p n:Nat} {σ:AE} {H:AH} {le:List (Nat×AV)} {lh:List (Nat×AO)} (r:Nat->Nat) (d:p<=m) (e:∀b,b<p->r b=b) (f:∀x∈le,ah H m r (aj (pa x.1) σ) x.2)
 (a:∀x∈lh,x.1<m/\∃o,H.get (r x.1)=some o/\ao H m r o x.2) (hi:∀x∈lh,∀y∈lh,r x.1=r y.1->x.1=y.1):Cov p σ H n (mkE le,mkH lh,m):=Cov.ofR r d e f (λx c=>⟨(a x c).1,.inl (a x c).2⟩) hi
def Cj{a:Type}(P:a->Prop):List a->Prop
 | []=>True
 |x::l=>P x/\Cj P l
theorem Cj.at{b:Type}{P:b->Prop}:∀{l:List b},Cj P l->∀x∈l,P x
 |_::_,h,x,a=>(Z4.1 a).elim (λe=>e▸h.1) (λa=>Cj.at h.2 x a)
def LH(m:Nat):List Nat->Bool
 | []=>true
 |x::l=>Nat.blt x m&&LH m l
theorem Gf{m:Nat}:∀{l:List Nat},LH m l=true->∀x∈l,x<m
 |a::l,h,x,b=>by
  simp only[LH,Z9,q2h]at h;exact(Z4.1 b).elim (λe=>e▸h.1) (λb=>Gf h.2 x b)
theorem Cov.ofB {p n:Nat} {σ:AE} {H:AH} {le:List (Nat×AV)} {lh:List (Nat×AO)} (r:Nat->Nat) (c:p<=m) (d:∀b,b<p->r b=b) (e:Cj (λx=>ah H m r (aj (pa x.1) σ) x.2) le)
 (f:Cj (λx=>(∃o,H.get (r x.1)=some o/\ao H m r o x.2)∨(x.2.void=true/\n<=r x.1)) lh) (g:LH m (lh.map Prod.fst)=true) (hi:∀x∈lh,∀y∈lh,r x.1=r y.1->x.1=y.1):Cov p σ H n (mkE le,mkH lh,m):=
 Cov.ofR r c d e.at (λx a=>⟨Gf g _ (q0m.2 ⟨x,a,rfl⟩),f.at x a⟩) hi
theorem Cov.ofA {p n:Nat} {σ:AE} {H:AH} {le:List (Nat×AV)} {lh:List (Nat×AO)} (a:p<=m) (c:Cj (λx=>ah H m (λb=>b) (aj (pa x.1) σ) x.2) le)
 (d:Cj (λx=>(∃o,H.get x.1=some o/\ao H m (λb=>b) o x.2)∨(x.2.void=true/\n<=x.1)) lh) (f:LH m (lh.map Prod.fst)=true):Cov p σ H n (mkE le,mkH lh,m):=
 Cov.ofB (λb=>b) a (λ_ _=>rfl) c d f λ_ _ _ _ e=>e
end
def asI(a:AV)(κ:Int->Prop):Prop:=match a with
 | .int .i64 n=>κ n
 | .si .i64 n=>κ n
 |_=>False
theorem OT{φ:Ph}{a:AV}{v:Value}{κ:Int->Prop}(h:VR φ a v)(k:asI a κ):∃n,v= .int .i64 n/\κ n:=by
 unfold asI at k;split at k
 ·exact⟨_,h.bY,k⟩
 ·exact⟨_,h.fO,k⟩
 ·exact k.elim
theorem vs3{φ:Ph}{a b c:AV}{d:Array Value}(h:VRs φ [a,b,c] d.toList):∃x y z,d= #[x,y,z]/\VR φ a x/\VR φ b y/\VR φ c z:=by
 obtain⟨x,n,o,e,f⟩:=h.cons_inv;obtain⟨y,p,g,i,j⟩:=f.cons_inv;obtain⟨z,q,k,l,m⟩:=j.cons_inv;have:=m.aQ;subst this k g;exact⟨x,y,z,by cases d;simp_all,e,i,l⟩
theorem vs2{φ:Ph}{a b:AV}{c:Array Value}(h:VRs φ [a,b] c.toList):∃x y,c= #[x,y]/\VR φ a x/\VR φ b y:=by
 obtain⟨x,j,k,d,e⟩:=h.cons_inv;obtain⟨y,l,f,g,i⟩:=e.cons_inv;have:=i.aQ;subst this f;exact⟨x,y,by cases c;simp_all,d,g⟩
theorem vs1{φ:Ph}{a:AV}{b:Array Value}(h:VRs φ [a] b.toList):∃x,b= #[x]/\VR φ a x:=by
 obtain⟨x,e,f,c,d⟩:=h.cons_inv;have:=d.aQ;subst this;exact⟨x,by cases b;simp_all,c⟩
def vR(f:Int->Int->Int->Int)(args:List AV)(H:AH)(n:Nat)(κ:PK):Prop:=match args with
 | [x,y,z]=>asI x λt=>asI y λs=>asI z λa=>κ (.si .i64 (f t s a)) H n
 |_=>False
def mkK(κ:PK):PK:=λv H n=>κ (mk v) H n
theorem cn.mkK{φ:Ph}{a:Hp}{κ:PK}{K:KH}(b:cn φ a κ K):cn φ a (mkK κ) K:=λc v H n u g d e f h=>b c _ H n u g d e f.mk h
theorem LI{κ:PK}{H:AH}{n:Nat}{b c:Bool}(a:κ (.sb b) H n)(h:b=c):κ (.sb c) H n:=by subst h;exact a
theorem LJ{κ:PK}{H:AH}{n:Nat}{k:IntKind}{b c:Int}(a:κ (.si k b) H n)(h:b=c):κ (.si k c) H n:=by subst h;exact a
def rp(f:Int->Bool)(args:List AV)(H:AH)(n:Nat)(κ:PK):Prop:=match args with
 | [x]=>asI x λt=>κ (.sb (f t)) H n
 |_=>False
def yy(f:Int->Int->Bool)(args:List AV)(H:AH)(n:Nat)(κ:PK):Prop:=match args with
 | [x,y]=>asI x λt=>asI y λs=>κ (.sb (f t s)) H n
 |_=>False
theorem np{φ:Ph}{a:AV}{v:Value}{κ:Int->Prop}(h:VR φ a v)(k:asI a κ):∃n,VR φ (.si .i64 n) v/\κ n:=by
 obtain⟨n,rfl,k⟩:=OT h k;exact⟨n,.si _ _,k⟩
theorem Ck{F:FuncId->EP}(e:aU F){d:Nat}{f:FuncId}{g:Int->Bool}(h:∀(t:Int) (H:AH) (n:Nat) (κ:PK),κ (.sb (g t)) H n->ax F d f [.si .i64 t] H n (mkK κ)):ai f (rp g):=λargs H n κ b i j k o K l a m=>by
 unfold rp at b;split at b
 ·obtain⟨x,rfl,c⟩:=vs1 a;obtain⟨t,c,b⟩:=np c b;exact bV (by kernel_rfl) e d f _ H n (mkK κ) (h t H n κ b) i j k _ K l (.cons c .nil) m.mkK
 ·exact b.elim
theorem LK{F:FuncId->EP}(i:aU F){d:Nat}{f:FuncId}{g:Int->Int->Bool}(h:∀(t s:Int) (H:AH) (n:Nat) (κ:PK),κ (.sb (g t s)) H n->ax F d f [.si .i64 t,.si .i64 s] H n (mkK κ)):ai f (yy g):=λargs H n κ a j k l p K m b o=>by
 unfold yy at a;split at a
 ·obtain⟨x,y,rfl,c,e⟩:=vs2 b;obtain⟨t,c,a⟩:=np c a;obtain⟨s,e,a⟩:=np e a;exact bV (by kernel_rfl) i d f _ H n (mkK κ) (h t s H n κ a) j k l _ K m (.cons c (.cons e .nil)) o.mkK
 ·exact a.elim
theorem Gg{F:FuncId->EP}(k:aU F){d:Nat}{f:FuncId}{g:Int->Int->Int->Int}(h:∀(t s a:Int) (H:AH) (n:Nat) (κ:PK),κ (.si .i64 (g t s a)) H n->ax F d f [.si .i64 t,.si .i64 s,.si .i64 a] H n (mkK κ)):ai f (vR g):=λargs H n κ b l m o r K p c q=>by
 unfold vR at b;split at b
 ·obtain⟨x,y,z,rfl,e,i,j⟩:=vs3 c;obtain⟨t,e,b⟩:=np e b;obtain⟨s,i,b⟩:=np i b;obtain⟨a,j,b⟩:=np j b;exact bV (by kernel_rfl) k d f _ H n (mkK κ) (h t s a H n κ b) l m o _ K p (.cons e (.cons i (.cons j .nil))) q.mkK
 ·exact b.elim
def yz(f:Int->Int->Int)(args:List AV)(H:AH)(n:Nat)(κ:PK):Prop:=match args with
 | [x,y]=>asI x λt=>asI y λs=>κ (.si .i64 (f t s)) H n
 |_=>False
theorem LL{F:FuncId->EP}(i:aU F){d:Nat}{f:FuncId}{g:Int->Int->Int}(h:∀(t s:Int) (H:AH) (n:Nat) (κ:PK),κ (.si .i64 (g t s)) H n->ax F d f [.si .i64 t,.si .i64 s] H n (mkK κ)):ai f (yz g):=λargs H n κ a j k l p K m b o=>by
 unfold yz at a;split at a
 ·obtain⟨x,y,rfl,c,e⟩:=vs2 b;obtain⟨t,c,a⟩:=np c a;obtain⟨s,e,a⟩:=np e a;exact bV (by kernel_rfl) i d f _ H n (mkK κ) (h t s H n κ a) j k l _ K m (.cons c (.cons e .nil)) o.mkK
 ·exact a.elim
theorem fU.pure{g:List AV->AH->Nat->PK->Prop}(h:∀args H n κ,g args H n κ->∃v,κ v H n/\∀a:PK,a v H n->g args H n a):fU g:=λargs H n κ b=>by
 obtain⟨v,c,d⟩:=h args H n κ b;exact⟨v,H,n,c,.refl _,Z3 _,d⟩
theorem iQ{a:AV}{κ:Int->Prop}(h:asI a κ):∃n,κ n/\∀b:Int->Prop,b n->asI a b:=by
 unfold asI at*;split at h
 ·exact⟨_,h,λ_ k=>k⟩
 ·exact⟨_,h,λ_ k=>k⟩
 ·exact h.elim
theorem LM{f:Int->Bool}:fU (rp f):= .pure λargs H n e a=>by
 unfold rp at*;split at a
 ·obtain⟨x,b,c⟩:=iQ a;exact⟨_,b,λd h=>c _ h⟩
 ·exact a.elim
theorem Su{f:Int->Int->Bool}:fU (yy f):= .pure λargs H n i a=>by
 unfold yy at*;split at a
 ·obtain⟨x,b,c⟩:=iQ a;obtain⟨y,d,e⟩:=iQ b;exact⟨_,d,λg h=>c _ (e _ h)⟩
 ·exact a.elim
theorem Sv{f:Int->Int->Int}:fU (yz f):= .pure λargs H n i a=>by
 unfold yz at*;split at a
 ·obtain⟨x,b,c⟩:=iQ a;obtain⟨y,d,e⟩:=iQ b;exact⟨_,d,λg h=>c _ (e _ h)⟩
 ·exact a.elim
theorem Cl{f:Int->Int->Int->Int}:fU (vR f):= .pure λargs H n k a=>by
 unfold vR at*;split at a
 ·obtain⟨x,b,c⟩:=iQ a;obtain⟨y,d,e⟩:=iQ b;obtain⟨z,g,i⟩:=iQ d;exact⟨_,g,λj h=>c _ (e _ (i _ h))⟩
 ·exact a.elim
section
variable {φ:Ph} {H:AH} {n:Nat} {h0 hp:Hp}
def oC(hp:Hp)(p:Pl)(l:List AV):Prop:=∃c t fz,hp.f p.B=some (.cells c t fz)/\l.length<=p.T/\p.s+p.T<=c.size/\∀a,CR a c p.s l
def ph1(p:Pl):Ph:=⟨λb=>if b=0 then some p else none,λ_=>False,λ_=>False,λ_ _=>False⟩
def ph2(p q:Pl):Ph:=⟨λb=>if b=0 then some p else if b=1 then some q else none,λ_=>False,λ_=>False,λ_ _=>False⟩
theorem HR.ro1(g:Wf hp){p:Pl}{l:List AV}(h:oC hp p l):HR (ph1 p) (mkH [(0,.ro l)]) 1 hp hp:=by
 obtain⟨c,t,fz,d,i,j,m⟩:=h;refine⟨λb q e=>?_,λb o e=>?_,λb r o s q u e _ f=>?_,λb o e=>⟨g b o e,e⟩,Z3 _,λ_ k=>k.elim,λb Q e=>?_⟩;rotate_left 3
 ·have hm:=b9 e;simp only[Z4,Z5,or_false]at hm;injection hm with e1 a;cases a
 ·simp only[ph1]at e;split at e
  ·injection e with e;subst e;exact⟨by omega,g _ _ d⟩
  ·cases e
 ·have hm:=b9 e;simp only[Z4,Z5,or_false]at hm;injection hm with e1 a;subst e1 a;exact .inr ⟨p,_,rfl,d,d,c,t,fz,rfl,i,j,m _⟩
 ·have hm:=b9 e;simp only[Z4,Z5,or_false]at hm;injection hm with e1 a;subst a;cases f
theorem HR.ro2(a:Wf hp){p q:Pl}{l m:List AV}(h:oC hp p l)(k:oC hp q m):HR (ph2 p q) (mkH [(0,.ro l),(1,.ro m)]) 2 hp hp:=by
 obtain⟨c,t,fz,d,u,v,w⟩:=h;obtain⟨x,y,f,g,z,A,B⟩:=k
 have mem:∀b o,(mkH [(0,AO.ro l),(1,AO.ro m)]).get b=some o->(b=0/\o= .ro l)∨(b=1/\o= .ro m):=λb o e=>by
  have hm:=b9 e;simp only[Z4,Z5,or_false]at hm;rcases hm with hm|hm
  ·injection hm with i j;exact .inl ⟨i,j⟩
  ·injection hm with i j;exact .inr ⟨i,j⟩
 refine⟨λb r e=>?_,λb o e=>?_,λb C o D r E e _ s=>?_,λb o e=>⟨a b o e,e⟩,Z3 _,λ_ k=>k.elim,λb Q e=>by rcases mem b _ e with⟨_,h⟩|⟨_,h⟩<;>cases h⟩
 ·simp only[ph2]at e;split at e
  ·injection e with e;subst e;exact⟨by omega,a _ _ d⟩
  ·split at e
   ·injection e with e;subst e;exact⟨by omega,a _ _ g⟩
   ·cases e
 ·rcases mem b o e with⟨rfl,rfl⟩|⟨rfl,rfl⟩
  ·exact .inr ⟨p,_,rfl,d,d,c,t,fz,rfl,u,v,w _⟩
  ·exact .inr ⟨q,_,rfl,g,g,x,y,f,rfl,z,A,B _⟩
 ·rcases mem b o e with⟨_,rfl⟩|⟨_,rfl⟩<;>cases s
theorem HR.ro0(a:Wf hp):HR Ph.no .nil 0 hp hp:=fP a
theorem ic {F:FuncId->EP} (q:aU F) {d:Nat} {f:FuncId} {args0:List AV} {e:AH} {i:Nat} {v:AV} (r:flat v=true) (h:ax F d f args0 e i λu _ _=>mkT u=mkT v)
 {c:Array Value} {κ:PK} {K:KH} (s:κ (mkT v) H n) (t:HR φ H n h0 hp) (x:cn φ h0 κ K) (j:bM Tryz.prog f=true) {φ0:Ph} (k:Wf hp->HR φ0 e i hp hp) (a:VRs φ0 args0 c.toList):dH Tryz.prog f c hp K:=by
 have key:Wf hp->dH Tryz.prog f c hp K:=λy=>bV (by kernel_rfl) q d f args0 e i _ h φ0 hp hp c K (k y) a λz u E G w g _ m A B=>by
  have l:HR φ H n h0 g:=t.grow (λb o C=>(m.base b o C).2) m.size;have D:VR φ (mkT v) w:=(iO (φ:=z) (Ch r) (B▸A.mkT));exact x φ _ H n w g (PLe.refl _) l D s
 exact⟨j,λw p=>(key p.wf).2 w p⟩
theorem oC.of(G:HR φ H n h0 hp){b o m:Nat}{l r s:List AV}{p:Pl}(d:H.get b=some (.ro l)∨∃z,H.get b=some (.cells l z))(g:φ b=some p)(L:bk l o m=some r)(I:r.map mk=s.map mk)(M:s.all flat.flat1=true):oC hp ⟨p.B,p.s+o,m⟩ s:=by
 have key:∃c t fz,hp.f p.B=some (.cells c t fz)/\l.length<=p.T/\p.s+p.T<=c.size/\CR φ c p.s l:=by
  rcases d with d|⟨z,d⟩
  ·obtain⟨N,_,q,c,t,fz,rfl,u,h,w⟩:=G.of d g;exact⟨c,t,fz,q,u,h,w⟩
  ·obtain⟨N,_,q,c,t,fz,rfl,u,h,_,_,w⟩:=G.of d g;exact⟨c,t,fz,q,u,h,w⟩
 obtain⟨c,t,fz,O,q,u,h⟩:=key;obtain⟨w,J⟩:=bo L
 have K:s.length=m:=by
  have:=congrArg List.length I;simp only[Y0]at this;rw[<-this,J];simp;omega
 refine⟨c,t,fz,O,by simp only;omega,by simp only;omega,λS i a y=>?_⟩;have P:=(X6.1 y).1
 have Q:∃j,r[i]?=some j/\mk j=mk a:=by
  have e:=congrArg (λx:List AV=>x[i]?) I;simp only[q0q,y,Y8]at e;rw[Z7]at e;exact e
 obtain⟨j,A,R⟩:=Q
 have C:l[o+i]?=some j:=by
  rw[J]at A;rw[List.getElem?_take,if_pos (by omega),q2l]at A;exact A
 obtain⟨v,D,E⟩:=h (o+i) j C;refine⟨v,by simp only;rw[q1l];exact D,?_⟩;have F:VR φ (mk a) v:=R▸E.mk;have k:flat.flat1 a=true:=Y4.1 M a (q0c y);exact aV k (by cases a<;>first|exact F|cases k)
end
end Go.Proofs.YtflehenfikoniaaGreat
namespace Go.Proofs.YtflehenfikoniaaGreat
open Go Go.RowKit Go.ChangeShapes Go.WideShapes
section
variable {H:Type} {enc:TypeId×Value->H} {P:Program} {w:World} {base:Nat} {sp:Nat->Bool} {held:Bool}
theorem kE{φ:Ph}(s:ByteArray):VR φ (.ss (s.data.toList.map UInt8.toNat)) (.string s):=by
 have h:VR φ (.ss (s.data.toList.map UInt8.toNat)) (.string (eG (s.data.toList.map UInt8.toNat))):= .ss λx a=>by
  simp only[q0m]at a;obtain⟨c,_,rfl⟩:=a;exact UInt8.toNat_lt c
 rwa [yh]at h
end
end Go.Proofs.YtflehenfikoniaaGreat
namespace Go.Proofs.YtflehenfikoniaaGreat
open Go Go.RowKit
abbrev Smp:=List (Int×Int)
def smp(L:Smp):List AV:=L.flatMap λx=> [.si .i64 x.1,.si .i64 x.2]
theorem bh(L:Smp):(smp L).length=L.length*2:=by
 induction L with
 |nil=>rfl
 |cons x L a=>simp only[smp,q4b,Z6,Z8,q1e]at a⊢;omega
theorem b8(L:Smp):(smp L).all flat.flat1=true:=by
 induction L with
 |nil=>rfl
 |cons x L a=>exact a
theorem bO(L:Smp):(smp L).map mk=smp L:=by
 induction L with
 |nil=>rfl
 |cons x L a=>
  show mk (.si .i64 x.1)::mk (.si .i64 x.2)::(smp L).map mk=_;rw[a];rfl
theorem rq:∀(L:Smp) (i:Nat),(smp L).drop (i*2)=smp (L.drop i)
 |L,0=>by simp
 | [],i+1=>by simp[smp]
 |x::L,i+1=>by
  rw[show(i+1)*2=i*2+2 from by omega];exact rq L i
theorem EK{L:Smp}{i:Nat}(h:i<L.length):(smp L).drop (i*2)= .si .i64 L[i].1:: .si .i64 L[i].2::smp (L.drop (i+1)):=by
 rw[rq,q0d h];rfl
theorem fG{L:Smp}{i o:Nat}(h:i<L.length)(ho:o=i*2):bk (smp L) o 2=some [.si .i64 L[i].1,.si .i64 L[i].2]:=by
 subst ho;unfold bk;rw[q0n (by rw[bh];omega),EK h];rfl
theorem vT{L:Smp}{i o:Nat}(h:i<L.length)(ho:o=i*2):nth (smp L) o=some (.si .i64 L[i].1):=by
 subst ho;have:=congrArg (λl=>l[0]?) (EK h);simp only[q2l,q2o,q1m]at this;rw[eR,this]
theorem vU{L:Smp}{i o:Nat}(h:i<L.length)(ho:o=i*2+1):nth (smp L) o=some (.si .i64 L[i].2):=by
 subst ho;have:=congrArg (λl=>l[1]?) (EK h);simp only[q2l,q1d,q1m]at this;rw[eR,this]
def mo(H:AH)(a:AV)(L:Smp):Prop:=(hd a= .nsl/\L=[])∨((∃b o x l r,(a= .rw b o L.length 2 x/\x≠4)/\(H.get b=some (.ro l)∨∃z,H.get b=some (.cells l z))/\bk l o (L.length*2)=some r/\r.map mk=smp L)∨∃l,a= .fr L.length 2 l/\l.map mk=smp L/\L.length≠0)∨∃b o c k l r,hd a= .sl b o L.length c k/\(H.get b=some (.ro l)∨∃z,H.get b=some (.cells l z))/\bk l o (L.length*2)=some r/\r.map mk=smp L/\L.length<=c
section
variable {φ:Ph} {H:AH} {n:Nat} {h0 hp:Hp}
theorem oC.emp(g:HR φ H n h0 hp){b a T:Nat}{l:List AV}{p:Pl}(d:H.get b=some (.ro l)∨∃z,H.get b=some (.cells l z))(e:φ b=some p)(r:p.s<=a)(u:a+T<=p.s+p.T):oC hp ⟨p.B,a,0⟩ []:=by
 rcases d with d|⟨z,d⟩
 ·obtain⟨j,_,f,c,t,fz,rfl,k,m,o⟩:=g.of d e;exact⟨c,t,fz,f,Z3 _,(show a+0<=c.size by omega),λq i a h=>by simp at h⟩
 ·obtain⟨j,_,f,c,t,fz,rfl,k,m,_,_,o⟩:=g.of d e;exact⟨c,t,fz,f,Z3 _,(show a+0<=c.size by omega),λq i a h=>by simp at h⟩
theorem CR.nq{ψ χ:Ph}{c:Array Value}{s:Nat}{l m:List AV}(h:CR ψ c s l)(e:l.map mk=m.map mk)(j:m.all flat.flat1=true):CR χ c s m:=λi a g=>by
 have d:=congrArg (λx:List AV=>x[i]?) e;simp only[q0q,g,Y8]at d;rw[Z7]at d;obtain⟨k,o,p⟩:=d;obtain⟨v,q,r⟩:=h i k o;have b:flat.flat1 a=true:=Y4.1 j a (q0c g);have f:VR ψ (mk a) v:=p▸r.mk;exact⟨v,q,aV b (by cases a<;>first|exact f|cases b)⟩
theorem OU(f:HR φ H n h0 hp){m k:Nat}{l s:List AV}{v:Value}(g:m≠0)(h:VR φ (.fr m k l) v)(e:l.map mk=s.map mk)(i:s.all flat.flat1=true):∃p C,m<=C/\oC hp p s/\p.T=m*k/\v= .slice (some ⟨p.B,p.s+0,none⟩) m C:=by
 rcases h.sM with⟨h0,_⟩|⟨q,o,C,j,rfl,r,u⟩
 ·exact absurd h0 g
 ·obtain⟨⟨⟨_,c,t,fz,w,x,a⟩,_⟩,_⟩:=f.frz q j;obtain⟨A,b⟩:=bo u;have d:l.length=m*k:=by rw[b];simp;omega
  have y:s.length=m*k:=by have:=congrArg List.length e;simp only[Y0]at this;omega
  have z:CR φ c (q.s+o) l:=by rw[b];exact CR.drop a
  exact⟨⟨q.B,q.s+o,m*k⟩,C,r,⟨c,t,fz,w,(show s.length<=m*k by omega),(show q.s+o+m*k<=c.size by omega),λD=>CR.nq z e i⟩,rfl,rfl⟩
theorem mo.open(k:HR φ H n h0 hp){a:AV}{L:Smp}{v:Value}(K:mo H a L)(m:VR φ a v):(L=[]/\∀χ,VR χ .nsl v)∨∃p C,L.length<=C/\oC hp p (smp L)/\∀χ b,χ b=some p->VR χ (.sy b 0 L.length C 0) v:=by
 rcases K with⟨u,rfl⟩|(⟨b,o,x,l,r,⟨rfl,w⟩,t,e,f⟩|⟨l,rfl,f,z⟩)|⟨b,o,c,M,l,r,u,t,e,f,h⟩
 ·have i:=m.hd;rw[u]at i;exact .inl ⟨rfl,λχ=>by rw[i.cZ];exact .nsl⟩
 ·rcases m.gO with⟨N,A⟩|⟨p,y,C,hp,rfl,O,P,I,Q,_,_⟩
  ·have:=A.nil w;subst this;exact .inl ⟨Y5 N,λχ=> .nsl⟩
  ·by_cases J:L=[]
   ·subst J;exact .inr ⟨⟨p.B,y,0⟩,C,I,oC.emp k t hp P Q,λχ b d=> .sy (p:=⟨p.B,y,0⟩) (o:=0) d (λ_=>rfl) (λq=>absurd rfl q)⟩
   ·have:=O (λq=>J (Y5 q));subst this;have g:=oC.of (s:=smp L) k t hp e (by rw[f,bO]) (b8 L);exact .inr ⟨⟨p.B,p.s+o,L.length*2⟩,C,I,g,λχ b d=> .sy (p:=⟨p.B,p.s+o,L.length*2⟩) (o:=0) d (λ_=>rfl) (λq=>absurd rfl q)⟩
 ·obtain⟨p,C,R,g,_,rfl⟩:=OU k z m (s:=smp L) (by rw[f,bO]) (b8 L);exact .inr ⟨p,C,R,g,λχ b d=> .sy (p:=p) (o:=0) d (λ_=>rfl) (λq=>absurd rfl q)⟩
 ·have i:=m.hd;rw[u]at i;obtain⟨p,C,D,rfl,E,F⟩:=i.eQ
  have G:L.length<=C:=by
   by_cases j:M=0
   ·rw[E j];exact h
   ·exact X9 h (F j).1
  have g:=oC.of (s:=smp L) k t D e (by rw[f,bO]) (b8 L);exact .inr ⟨⟨p.B,p.s+o,L.length*2⟩,C,G,g,λχ b d=> .sy (p:=⟨p.B,p.s+o,L.length*2⟩) d (λ_=>rfl) (λq=>absurd rfl q)⟩
end
theorem vV:∀(L:Smp) (i:Nat),(smp L).take (i*2)=smp (L.take i)
 |L,0=>by simp[smp]
 | [],i+1=>by simp[smp]
 |x::L,i+1=>by
  rw[show(i+1)*2=i*2+2 from by omega];show AV.si .i64 x.1::AV.si .i64 x.2::(smp L).take (i*2)=_;rw[vV L i];rfl
theorem LN{L:Smp}{j:Nat}(h:j<=L.length):bk (smp L) 0 ((L.take j).length*2)=some (smp (L.take j)):=by
 have:(L.take j).length=j:=by rw[Y7];omega
 rw[this];unfold bk;rw[q0n (by rw[bh];omega)];simp[vV]
theorem fC(L:Smp):bk (smp L) 0 (L.length*2)=some (smp L):=bw (bh L)
def yA(B:Nat)(f:Int->Smp->AV)(args:List AV)(H:AH)(n:Nat)(κ:PK):Prop:=match args with
 | [x,l]=>asI x λk=>∃L,mo H l L/\L.length<=B/\κ (mkT (f k L)) H n
 |_=>False
theorem Sw{B:Nat}{f:Int->Smp->AV}:fU (yA B f):= .pure λargs H n i a=>by
 unfold yA at*;split at a
 ·obtain⟨k,⟨L,b,c,d⟩,e⟩:=iQ a;exact⟨_,d,λg h=>e _ ⟨L,b,c,h⟩⟩
 ·exact a.elim
theorem LO {B:Nat} {F:FuncId->EP} (m:aU F) {d:Nat} {f:FuncId} {g:Int->Smp->AV} (b:bM Tryz.prog f=true) (o:∀k L,flat (g k L)=true) (h0:∀k,ax F d f [.si .i64 k,.nsl] .nil 0 λu _ _=>mkT u=mkT (g k []))
 (r:∀k L cap,L.length<=B->ax F d f [.si .i64 k,.sl 0 0 L.length cap 0] (mkH [(0,.ro (smp L))]) 1 λu _ _=>mkT u=mkT (g k L)):ai f (yA B g):=λargs H n A e φ s hp D K i a q=>by
 unfold yA at e;split at e
 ·obtain⟨x,y,rfl,h,t⟩:=vs2 a;obtain⟨k,h,L,v,w,c⟩:=np h e;rcases v.open i t with⟨rfl,j⟩|⟨p,C,_,l,j⟩
  ·exact ic m (o k []) (h0 k) c i q b HR.ro0 (.cons (h:VR _ (.si .i64 k) x) (.cons (j _) .nil))
  ·exact ic m (o k L) (r k L C w) c i q b (λz=>HR.ro1 z l) (.cons (by rw[h.fO];exact .si _ _) (.cons (j _ 0 rfl).hd .nil))
 ·exact e.elim
def jY(k:Int):Bool:=decide (1<=k/\k<=7)
def sW(s a:Int):Bool:=decide (1<=s/\s<=1099511627776/\0<=a/\a<s)
def nM(t:Int):Bool:=decide (0<=t/\t<=1099511627776)
def fV(t s a:Int):Int:=if sW s a=true/\nM t=true/\a<=t then t-(t-a)%s else 0
def vW(b s a:Int):Int:=if sW s a=true/\nM b=true then(if b<a then a else fV b s a+s)else 0
theorem jy{t s a:Int}:0<=fV t s a/\fV t s a<=1099511627776:=by
 unfold fV;split
 ·rename_i h;simp only[sW,nM,decide_eq_true_eq]at h;have b:=Int.emod_nonneg (t-a) (show s≠0 by omega);have c:=Int.emod_add_mul_ediv (t-a) s;have d:=Int.mul_nonneg (show 0<=s by omega) (Int.ediv_nonneg (show 0<=t-a by omega) (show 0<=s by omega));omega
 ·omega
def pV(a b:Int):Bool:=decide (0<=b/\IntKind.i64.wrap (a+b)<a∨b<0/\a<IntKind.i64.wrap (a+b))
def jZ(a b:Int):Int:=if pV a b=true then(if 0<b then 9223372036854775807 else-9223372036854775808)else IntKind.i64.wrap (a+b)
theorem Gh:ai 149 (rp jY):=Ck (d:=1) az λt H n b a=>by
 repeat' (conv=>whnf
          first|refine ae.dec (λ_=>?_) (λ_=>?_)|refine ae.c6 (λ_=>?_) (λ_=>?_)|refine LI a ?_)
 all_goals simp[jY, *]
theorem U5:ai 113 (yy sW):=LK (d:=1) az λs a H n c b=>by
 repeat' (conv=>whnf
          first|refine ae.dec (λ_=>?_) (λ_=>?_)|refine ae.c6 (λ_=>?_) (λ_=>?_)|refine LI b ?_)
 all_goals simp[sW, *]
theorem Sx:ai 114 (rp nM):=Ck (d:=1) az λs H n b a=>by
 repeat' (conv=>whnf
          first|refine ae.dec (λ_=>?_) (λ_=>?_)|refine ae.c6 (λ_=>?_) (λ_=>?_)|refine LI a ?_)
 all_goals simp[nM, *]
def FA:FuncId->EP:=cf 113 (yy sW) (cf 114 (rp nM) (cf 149 (rp jY) evP))
theorem RC:aU FA:=aO (aO (aO az Gh LM) Sx LM) U5 Su
theorem zW:ai 54 (vR fV):=Gg (d:=2) RC λt s a H n i e=>by
 repeat' (conv=>whnf
          first|refine ae.dec (λ_=>?_) (λ_=>?_)|refine ae.c6 (λ_=>?_) (λ_=>?_)|refine ae.sb (λ_=>?_) (λ_=>?_)|refine ae.nsb (λ_=>?_) (λ_=>?_)|refine And.intro ?_ ?_|refine LJ e ?_)
 ·rename_i b;simp[fV,sW,b]
 ·rename_i c b;simp[fV,nM,b]
 ·rename_i f c b;unfold fV;rw[if_neg (by omega)]
 ·intro j;omega
 ·rename_i f c b;rw[al (x:=t-a) (by omega) (by omega),Int.tmod_eq_emod_of_nonneg (by omega)];have g:=Int.emod_nonneg (t-a) (show s≠0 by omega);have h:=Int.emod_lt_of_pos (t-a) (show 0<s by omega);rw[al (by omega) (by omega)]
  (try simp only[fV,sW,nM,decide_eq_true_eq])
  rw[if_pos (by omega)]
def FB:FuncId->EP:=cf 54 (vR fV) FA
theorem RD:aU FB:=aO RC zW Cl
theorem RE:ai 55 (vR vW):=Gg (d:=2) RD λb s a H n h g=>by
 repeat' (conv=>whnf
          first|refine ae.dec (λ_=>?_) (λ_=>?_)|refine ae.c6 (λ_=>?_) (λ_=>?_)|refine ae.sb (λ_=>?_) (λ_=>?_)|refine ae.nsb (λ_=>?_) (λ_=>?_)|refine And.intro ?_ ?_|refine LJ g ?_)
 ·rename_i c;simp[vW,sW,c]
 ·rename_i e c;simp[vW,nM,c]
 ·rename_i f e c;simp[vW,sW,nM,c,e,f]
 ·rename_i f e c;have hb:=jy (t:=b) (s:=s) (a:=a);rw[al (by omega) (by omega)];simp[vW,sW,nM,c,e,f]
def FC:FuncId->EP:=cf 55 (vR vW) FB
theorem U6:aU FC:=aO RD RE Cl
theorem kinds{k:Int}(a:¬k<1)(b:¬7<k):k=1∨k=2∨k=3∨k=4∨k=5∨k=6∨k=7:=by omega
def EL(a b:Int):Int:=jZ a b
theorem Sy:ai 171 (yz EL):=LL (d:=2) az λa b H n e c=>by
 repeat' (conv=>whnf
          first|refine ae.dec (λ_=>?_) (λ_=>?_)|refine ae.c6 (λ_=>?_) (λ_=>?_)|refine ae.sb (λ_=>?_) (λ_=>?_)|refine ae.nsb (λ_=>?_) (λ_=>?_)|refine LJ c ?_)
 all_goals
  (try simp only[EL,jZ,pV,decide_eq_true_eq])
  split
  ·first|(split<;>omega)|omega
  ·omega
structure SS where
 n:Int
 sum:Int
 least:Int
 great:Int
 first:Int
 last:Int
def ji(k:Int)(s:SS):List AV:=[.si .i64 k,.si .i64 s.n,.si .i64 s.sum,.si .i64 s.least,.si .i64 s.great,.si .i64 s.first,.si .i64 s.last,.si .i64 0]
def tT(k:Int)(s:SS):List AV:=[.int .i64 k,.si .i64 s.n,.si .i64 s.sum,.si .i64 s.least,.si .i64 s.great,.si .i64 s.first,.si .i64 s.last,.si .i64 0]
def Gi(s:SS):Int:=if IntKind.i64.wrap (s.great-s.least)<0 then 9223372036854775807 else IntKind.i64.wrap (s.great-s.least)
def OV(k:Int)(s:SS):Int:=if k=1 then s.sum else if k=2 then s.least else if k=3 then s.great else if k=4 then s.n else if k=5 then s.first else if k=6 then s.last else Gi s
def pW(k:Int)(s:SS):AV:= .tup [.int .i64 (if s.n=0 then 0 else OV k s),.bool (!decide (s.n=0))]
def FJ:FuncId->EP:=bb 116 [] (bb 178 [] (cf 171 (yz EL) FC))
theorem LP:aU FJ:=au (au (aO U6 Sy Sv) (by kernel_rfl) (by kernel_rfl)) (by kernel_rfl) (by kernel_rfl)
theorem U7{k:Int}{s:SS}(h:s.n=0):AV.tup [.si .i64 0,.sb false]=mkT (pW k s):=by simp[pW,mkT,mk,h]
theorem RF{k:Int}{s:SS}(h:¬s.n=0){w:Int}(a:OV k s=w):AV.tup [.si .i64 w,.sb true]=mkT (pW k s):=by simp[pW,mkT,mk,h,a]
theorem Ja(k:Int)(c:1<=k)(d:k<=7)(s:SS):ax FJ 3 117 [.ptr 0 0] (mkH [(0,.ro (tT k s))]) 1 λu _ _=>mkT u=mkT (pW k s):=by
 obtain⟨e,a,sl,f,g,b⟩:=s;rcases kinds (k:=k) (by omega) (by omega)with rfl|rfl|rfl|rfl|rfl|rfl|rfl
 all_goals
  repeat' (conv=>whnf
           first|refine ae.dec (λ_=>?_) (λ_=>?_)|(refine U7 ?_;assumption)|(refine RF ?_ rfl;assumption)|(refine RF ?_ (w:=_) ?_))
  all_goals first
   |assumption
   |(show Gi _=_
     unfold Gi
     first|rw[if_pos (by assumption)]|rw[if_neg (by assumption)])
def OW(H:AH)(b:Nat)(k:Int)(s:SS):Prop:=∃l,(H.get b=some (.ro l)∨∃z,H.get b=some (.cells l z))/\l.map mk=ji k s
def natVal(args:List AV)(H:AH)(n:Nat)(κ:PK):Prop:=match args with
 | [a]=>(a= .nil/\κ (.tup [.si .i64 0,.sb false]) H n)∨∃k s b,a= .ptr b 0/\OW H b k s/\1<=k/\k<=7/\κ (mkT (pW k s)) H n
 |_=>False
theorem OX:fU natVal:= .pure λargs H n j a=>by
 unfold natVal at*;split at a
 ·rcases a with⟨c,d⟩|⟨k,s,b,c,d,f,g,i⟩
  ·exact⟨_,d,λe h=> .inl ⟨c,h⟩⟩
  ·exact⟨_,i,λe h=> .inr ⟨k,s,b,c,d,f,g,h⟩⟩
 ·exact a.elim
theorem Jb:ax FJ 3 117 [.nil] .nil 0 λu _ _=>mkT u=mkT (.tup [.int .i64 0,.bool false]):=by
 conv=>whnf
 rfl
theorem OY:ai 117 natVal:=λargs H n y d z A C D K e a h=>by
 unfold natVal at d;split at d
 ·obtain⟨x,rfl,i⟩:=vs1 a;rcases d with⟨rfl,m⟩|⟨k,s,b,rfl,⟨l,q,j⟩,r,t,u⟩
  ·exact ic (v:= .tup [.int .i64 0,.bool false]) LP rfl Jb m e h (by kernel_rfl) HR.ro0 (.cons (by rw[i.aQ];exact .nil) .nil)
  ·obtain⟨p,f,rfl⟩:=i.cD;have c:l.length=8:=by simpa[ji]using congrArg List.length j
   have g:=oC.of (s:=tT k s) e q f (bw c) (by rw[j];rfl) rfl
   exact ic LP (v:=pW k s) rfl (Ja k r t s) u e h (by kernel_rfl) (λw=>HR.ro1 w g) (.cons (.ptr (p:=⟨p.B,p.s+0,8⟩) (b:=0) (o:=0) rfl) .nil)
 ·exact d.elim
def FK:FuncId->EP:=cf 117 natVal FJ
theorem U8:aU FK:=aO LP OY OX
def xW(s:SS)(v:Int):SS:=if s.n=0 then⟨IntKind.i64.wrap (s.n+1),EL s.sum v,min v v,max v v,v,v⟩else⟨IntKind.i64.wrap (s.n+1),EL s.sum v,min s.least v,max s.great v,s.first,v⟩
def ss0:SS:=⟨0,0,0,0,0,0⟩
def nU(L:Smp):SS:=L.foldl (λs x=>xW s x.2) ss0
theorem yB{L:Smp}{i:Nat}(h:i<L.length):nU (L.take (i+1))=xW (nU (L.take i)) L[i].2:=by
 unfold nU;rw[X8 h,q2t];rfl
def zX(k:Int)(L:Smp):Int:=if jY k=true then(if(nU L).n=0 then 0 else OV k (nU L))else 0
def OZ(k:Int)(L:Smp):Bool:=jY k&&!decide ((nU L).n=0)
def tU(k:Int)(L:Smp):AV:= .tup [.int .i64 (zX k L),.bool (OZ k L)]
theorem yC{k:Int}{L:Smp}(h:jY k=true):tU k L=pW k (nU L):=by simp[tU,zX,OZ,pW,h]
theorem yD{k:Int}{L:Smp}(h:jY k=false):tU k L= .tup [.int .i64 0,.bool false]:=by simp[tU,zX,OZ,h]
def EM (k:Int) (L:Smp) (cap i:Nat):AE×AH:=(mkE [(6,.ptr 1 0),(15,.sl 0 0 L.length cap 0),(16,.si .i64 L.length),(17,.si .i64 i)],mkH [(0,.ro (smp L)),(1,.cells (ji k (nU (L.take i))) true)])
theorem vX {k:Int} {L:Smp} {cap i p n:Nat} {σ:AE} {H:AH} {l:List AV} (g:p<=2) (h:aj (pa 6) σ= .ptr 1 0) (c:mk (aj (pa 15) σ)= .sy 0 0 L.length cap 0) (d:mk (aj (pa 16) σ)= .si .i64 L.length) (e:mk (aj (pa 17) σ)= .si .i64 i)
 (j:H.get 0=some (.ro (smp L))) (m:H.get 1=some (.cells l true)) (o:l.map mk=ji k (nU (L.take i))):Cov p σ H n ((EM k L cap i).1,(EM k L cap i).2,2):=by
 refine Cov.of (λb=>b) g (λb r=>rfl) ?_ ?_ ?_
 ·intro x a;simp only[Z4,Z5,or_false]at a;rcases a with rfl|rfl|rfl|rfl
  ·exact .ptr (by decide) h
  ·exact .sl (by decide) c
  ·exact .int d
  ·exact .int e
 ·intro x a;simp only[Z4,Z5,or_false]at a;rcases a with rfl|rfl
  ·exact⟨by simp,_,j,ao.Ci (b8 L) rfl⟩
  ·exact⟨by simp,_,m,ao.bA rfl o (λq=>q)⟩
 ·intro x a y f;simp only[Z4,Z5,or_false]at a f;rcases a with rfl|rfl<;>rcases f with rfl|rfl<;>exact λq=>q
def zY (L:Smp) (cap i:Nat):AE×AH:=(mkE [(6,.nil),(15,.sl 0 0 L.length cap 0),(16,.si .i64 L.length),(17,.si .i64 i)],mkH [(0,.ro (smp L))])
theorem yE {L:Smp} {cap i p n:Nat} {σ:AE} {H:AH} (g:p<=1) (h:aj (pa 6) σ= .nil) (c:mk (aj (pa 15) σ)= .sy 0 0 L.length cap 0) (d:mk (aj (pa 16) σ)= .si .i64 L.length) (e:mk (aj (pa 17) σ)= .si .i64 i)
 (j:H.get 0=some (.ro (smp L))):Cov p σ H n ((zY L cap i).1,(zY L cap i).2,1):=by
 refine Cov.of (λb=>b) g (λb k=>rfl) ?_ ?_ ?_
 ·intro x a;simp only[Z4,Z5,or_false]at a;rcases a with rfl|rfl|rfl|rfl
  ·exact .flat rfl (congrArg mk h)
  ·exact .sl (by decide) c
  ·exact .int d
  ·exact .int e
 ·intro x a;simp only[Z4,Z5,or_false]at a;subst a;exact⟨by simp,_,j,ao.Ci (b8 L) rfl⟩
 ·intro x a y f;simp only[Z4,Z5,or_false]at a f;subst a f;exact λq=>q
theorem yF{k:Int}(h:jY k=true):1<=k/\k<=7:=by simpa only[jY,decide_eq_true_eq]using h
theorem LQ(k:Int)(L:Smp)(cap:Nat)(m:L.length<=9223372036854775807):ax FK 3 56 [.si .i64 k,.sl 0 0 L.length cap 0] (mkH [(0,.ro (smp L))]) 1 λu _ _=>mkT u=mkT (tU k L):=by
 conv=>whnf
 refine ae.nsb (λe=>?_) (λe=>?_)
 ·conv=>whnf
  refine aR.mk (_root_.Fin (L.length+1)) 1 (λa=>zY L cap a.val) (λa=>L.length-a.val) 0 ?_ ?_
  ·exact yE (i:=0) (by decide) rfl rfl rfl rfl rfl
  ·intro⟨i,j⟩
   conv=>whnf
   refine ae.dec (λd=>?_) (λd=>?_)
   ·have b:i<L.length:=q0o.1 d;have f:IntKind.i64.wrap ((i:Int)+1)=((i+1:Nat):Int):=by rw[al (by omega) (by omega)];omega
    conv=>whnf
    refine Idx.mk i rfl b ?_
    conv=>whnf
    refine aw (fG b (by show 0+i*2=i*2;omega)) ?_;have c:L.length-(i+1)<L.length-i:=by omega
    conv=>whnf
    exact⟨⟨i+1,by omega⟩,c,yE (Z3 1) rfl rfl rfl (congrArg (AV.si IntKind.i64) f) rfl⟩
   ·conv=>whnf
    refine .inl ⟨rfl,?_⟩
    conv=>whnf
    exact(show mkT _=AV.tup [.si .i64 0,.sb false] from rfl).trans (by rw[yD e];rfl)
 ·have hk:=yF e
  conv=>whnf
  refine aR.mk (_root_.Fin (L.length+1)) 2 (λa=>EM k L cap a.val) (λa=>L.length-a.val) 0 ?_ ?_
  ·exact vX (i:=0) (by decide) rfl rfl rfl rfl rfl rfl rfl
  ·intro⟨i,j⟩
   conv=>whnf
   refine ae.dec (λd=>?_) (λd=>?_)
   ·have b:i<L.length:=q0o.1 d;have f:IntKind.i64.wrap ((i:Int)+1)=((i+1:Nat):Int):=by rw[al (by omega) (by omega)];omega
    conv=>whnf
    refine Idx.mk i rfl b ?_
    conv=>whnf
    refine aw (fG b (by show 0+i*2=i*2;omega)) ?_;have c:L.length-(i+1)<L.length-i:=by omega
    conv=>whnf
    refine ae.c6 (λh=>absurd (show(0:Int)<k by omega) h) (λh=>?_)
    conv=>whnf
    refine ae.dec (λg=>?_) (λg=>?_)
    ·conv=>whnf
     refine⟨⟨i+1,by omega⟩,c,vX (l:=_) (q2b 1) rfl rfl rfl (congrArg (AV.si IntKind.i64) f) rfl rfl ?_⟩;exact Eq.trans rfl (congrArg (ji k) ((yB b).trans (if_pos g)).symm)
    ·conv=>whnf
     refine⟨⟨i+1,by omega⟩,c,vX (l:=_) (q2b 1) rfl rfl rfl (congrArg (AV.si IntKind.i64) f) rfl rfl ?_⟩;exact Eq.trans rfl (congrArg (ji k) ((yB b).trans (if_neg g)).symm)
   ·conv=>whnf
    have b:i=L.length:=by have:¬(i:Int)<L.length:=d;omega
    subst b;refine .inr ⟨k,nU (L.take L.length),1,rfl,⟨_,.inr ⟨_,rfl⟩,rfl⟩,hk.1,hk.2,?_⟩
    conv=>whnf
    rw[q0e];rw[yC e];rfl
theorem LR(k:Int):ax FK 3 56 [.si .i64 k,.nsl] .nil 0 λu _ _=>mkT u=mkT (tU k []):=by
 conv=>whnf
 refine ae.nsb (λa=>?_) (λa=>?_)
 ·conv=>whnf
  refine aR.roll 1 ?_
  conv=>whnf
  refine .inl ⟨rfl,?_⟩
  conv=>whnf
  exact(show mkT _=AV.tup [.si .i64 0,.sb false] from rfl).trans (by rw[yD a];rfl)
 ·have hk:=yF a
  conv=>whnf
  refine aR.roll 1 ?_
  conv=>whnf
  refine .inr ⟨k,ss0,0,rfl,⟨_,.inr ⟨_,rfl⟩,rfl⟩,hk.1,hk.2,?_⟩
  conv=>whnf
  exact(show mkT _=mkT (pW k ss0) from rfl).trans (congrArg mkT (yC (L:=[]) a).symm)
theorem Sz:ai 56 (yA 9223372036854775807 tU):=LO U8 (by kernel_rfl) (λk L=>rfl) LR LQ
end Go.Proofs.YtflehenfikoniaaGreat
namespace Go.Proofs.YtflehenfikoniaaGreat
open Go Go.RowKit Go.ChangeShapes Go.WideShapes
def aN(x:Int):Prop:= -9223372036854775808<=x/\x<=9223372036854775807
theorem LS{P:Program}{fits:TypeId->Bool}:∀(d:Nat) (e:TypeId) (count off n:Nat),rowAt P fits d e count off n=true->off<=count*P.cellsOf e
 |0,e,count,off,n,h=>by simp[rowAt]at h
 |d+1,e,count,off,n,h=>by
  unfold rowAt at h;simp only at h;split at h
  ·cases h
  ·rename_i a;have c:=Nat.div_add_mod off (P.cellsOf e);have f:=q4c off (q2w a);generalize off/P.cellsOf e=q at*;generalize off%P.cellsOf e=m at*;simp only[q1a,Z9,beq_iff_eq,decide_eq_true_eq]at h;rcases h with⟨⟨b,g⟩,_⟩|⟨b,_⟩
   ·have:P.cellsOf e*q<=P.cellsOf e*count:=Nat.mul_le_mul_left _ (by omega);rw[q2p count];omega
   ·have:P.cellsOf e*(q+1)<=P.cellsOf e*count:=Nat.mul_le_mul_left _ (by omega);rw[Nat.mul_add,q0i]at this;rw[q2p count];omega
theorem yG{P:Program}:∀(d:Nat) (e:TypeId) (count off:Nat) (u:TypeId) (n:Nat),liesAt P d e count off u n=true->off<=count*P.cellsOf e
 |0,e,count,off,u,n,h=>by simp[liesAt]at h
 |d+1,e,count,off,u,n,h=>by
  unfold liesAt at h;simp only[q1a]at h;rcases h with h|h
  ·exact LS _ _ _ _ _ h
  ·split at h
   ·exact yG d _ _ _ _ _ h
   ·cases h
section
variable {H:Type} {enc:TypeId×Value->H} {P:Program} {W:World} {sp:Nat->Bool} {held:Bool}
theorem uq{r:Reach}{j:Nat}{t e:TypeId}{v:Value}(k:P.underlying t=some (.slice e))(d:Value.okWide P W r j t v):v= .slice none 0 0∨∃b off len cap c u fz,v= .slice (some ⟨b,off,none⟩) len cap/\W.heap[b]?=some (.cells c u fz)/\off<=c.size:=by
 simp only[Value.okWide,k,Cell.okWide,Cell.ok]at d;split at d
 all_goals first|(rename_i h _;cases h;done)|(rename_i h;cases h;done)|skip
 ·exact .inl rfl
 ·rename_i a len cap _;obtain⟨b,off,spot⟩:=a;obtain⟨_,_,_,g,row,cells,f,i⟩:=d;change spot=none at g;change W.shape? b=_ at f;change liesAt _ _ _ _ off _ _=true at i;subst g;unfold World.shape? at f;split at f
  ·rename_i c u fz l;injection f with f;injection f with m n;subst m n;refine .inr ⟨b,off,len,cap,c,_,fz,rfl,l,?_⟩;exact X9 (yG _ _ _ _ _ _ i) (Nat.div_mul_le_self _ _)
  ·cases f
 ·exact d.elim
theorem O0{b off:Nat}{c:Array Value}{u:TypeId}{fz:Nat×Nat}(a:W.heap[b]?=some (.cells c u fz)){i:Nat}{v:Value}(h:W.cell? ((⟨b,off,none⟩:Addr).add i)=some v):c[off+i]?=some v:=by
 have e:(⟨b,off,none⟩:Addr).add i=⟨b,off+i,none⟩:=by
  unfold Addr.add;split
  ·rename_i d;subst d;rfl
  ·rfl
 rw[e]at h;unfold World.cell? at h;simp only[a]at h;simpa using h
end
theorem EN {F:FuncId->EP} (r:aU F) {d:Nat} {f:FuncId} {args:List AV} {h:AH} {i:Nat} {φ0:Ph} {j:Array Value} (s:ax F d f args h i λv _ _=>v= .bool true∨v= .sb true) (w:World)
 (k:HR φ0 h i (gY w) (gY w)) (a:VRs φ0 args j.toList):Calls Tryz.prog f j w λe w'=>e= .returned (.bool true)/\Below w.heap.size w w':=by
 have t:=bV (by kernel_rfl) r d f args h i _ s _ (gY w) (gY w) j (λv g=>v= .bool true/\(gY w).n<=g.n/\∀b o,(gY w).f b=some o->g.f b=some o) k a
  (λC v H n u g _ m p x=>⟨by rcases x with rfl|rfl;exact p.bU;exact p.jW,m.size,λb o c=>(m.base b o c).2⟩)
 refine(t.2 w (Ez w)).mono λD w' ⟨v,g,y,q,l,z,A,B⟩=>?_
 subst y z;refine⟨rfl,l.1,l.2.1,l.2.2,?_,λb c=>?_⟩
 ·rw[q.1];exact A
 ·have:=B b _ (show(gY w).f b=some w.heap[b] from q0u c);rw[q.2 b _ this,q0u c]
end Go.Proofs.YtflehenfikoniaaGreat
namespace Go.Proofs.YtflehenfikoniaaGreat
open Go Go.RowKit
section
variable {φ ψ:Ph} {H:AH} {n:Nat} {h0 h hp:Hp}
theorem HR.add(j:HR φ H n h0 h){q:Pl}{o:AO}{ob:Obj}(F:h0.f q.B=none)(G:q.B<h.n)(V:h.f q.B=some ob)(ho:OR (fe φ n q) q o ob)(W:o.own=true)(v:∀b o p,H.get b=some o->φ b=some p->o.own=true->p.B≠q.B)(I:∀z,φ.z z->q.B≠z.B)(d:Nat)(J:∀b Q,H.get b=some (.sep Q)->¬φ.s b q.B):HR (fe φ n q) (H.set (some o) d n) (n+1) h0 h:=by
 have m:∀x Q,(H.set (some o) d n).get x=some (.sep Q)->H.get x=some (.sep Q):=λx Q g=>by
  rcases PM.ak d H n x _ g with⟨_,a⟩|⟨_,a⟩
  ·injection a with a;subst a;exact ho.elim
  ·exact a
 refine⟨λx r g=>?_,λx r g=>?_,λx y r K px w g L A k M c e=>?_,j.base,j.size,λz t=>⟨⟨FzR.mono (j.ple _).z (j.frz z t).1.1,(j.frz z t).1.2⟩,λy P w L k c=>?_⟩,j.b7 (Z3 _) (λx Q g=>⟨m x Q g,rfl⟩) (λ_ h=>h) (λ_ h=> .inl h) (λ_ _ _ _ _=>rfl) λR S X Y Z u=>?_⟩;rotate_left 4
 ·rcases PM.ak d H n R S Y with⟨rfl,_⟩|⟨l,a⟩
  ·rw[bz]at u;injection u with u;subst u;exact .inr (.inr J)
  ·simp only[fe,if_neg l]at u;exact .inl ⟨R,S,X,a,Z,u,rfl⟩
 ·simp only[fe]at g;split at g
  ·injection g with g;subst g;exact⟨by omega,G⟩
  ·have:=j.dom x r g;omega
 ·rcases PM.ak d _ n x r g with⟨rfl,a⟩|⟨l,a⟩
  ·injection a with a;subst a;exact .inr ⟨_,ob,bz _ _ _,by rw[AO.bC W];exact F,V,ho⟩
  ·rcases j.live x r a with⟨hv,N⟩|⟨px,O,h5,h6,h7,h8⟩
   ·exact .inl ⟨by simp only[fe,if_neg l];exact hv,N⟩
   exact .inr ⟨px,O,j.ple _ _ _ h5,h6,h7,h8.mono (j.ple _)⟩
 ·have cs:∀z r C,(H.set (some o) d n).get z=some r->fe φ n q z=some C->(z=n/\C=q)∨(z≠n/\H.get z=some r/\φ z=some C):=λz r C t i=>by
   rcases PM.ak d _ n z r t with⟨rfl,_⟩|⟨l,a⟩
   ·rw[bz]at i;injection i with i;exact .inl ⟨rfl,i.symm⟩
   ·simp only[fe,if_neg l]at i;exact .inr ⟨l,a,i⟩
  rcases cs x r px g M with⟨a1,D⟩|⟨a1,D,T⟩<;>rcases cs y K w L c with⟨b1,E⟩|⟨b1,E,U⟩
  ·omega
  ·exact(v y K w E U k (by rw[<-e,D])).elim
  ·exact(v x r px D T A (by rw[e,E])).elim
  ·exact j.inj x y r K px w D E A k T U e
 ·rcases PM.ak d _ n y P L with⟨rfl,a⟩|⟨l,a⟩
  ·rw[bz]at c;injection c with c;subst c;exact I z t
  ·simp only[fe,if_neg l]at c;exact(j.frz z t).2 y P w a k c
def Gj(W:AV->AV)(R:Smp)(H:AH)(n:Nat)(κ:PK):Prop:=(H.get n=none/\n<1000000)/\κ (W (.rw n 0 R.length 2 0)) (H.set (some (.cells (smp R) true)) aa n) (n+1)
def lH(R:Smp)(u:AV)(H':AH):Prop:=(R=[]/\hd u= .nsl)∨(R≠[]/\∃b c k l,hd u= .sl b 0 R.length c k/\R.length<=c/\H'.get b=some (.cells l true)/\R.length*2<=l.length/\(l.take (R.length*2)).map mk=smp R/\(k=2∨k=0/\c*2<=l.length))∨∃b o x l r,u= .rw b o R.length 2 x/\x<2/\H'.get b=some (.cells l true)/\bk l o (R.length*2)=some r/\r.map mk=smp R
theorem HR.zZ(d:HR φ H n h0 hp){o:AO}(ho:o.void=true):HR φ (H.set (some o) aa n) (n+1) h0 hp:=by
 have e:φ n=none:=by
  cases D:φ n with
  |none=>rfl
  |some p=>exact absurd (d.dom n p D).1 (q3a _)
 refine⟨λb p j=>⟨Nat.lt_succ_of_lt (d.dom b p j).1,(d.dom b p j).2⟩,λb q j=>?_,λx y q v px k m s t f g c E=>?_,d.base,d.size,λz l=>⟨(d.frz z l).1,λy w k s f c=>?_⟩,d.b7 (Z3 _) (λx Q m=>?_) (λ_ h=>h) (λ_ h=> .inl h) (λ_ _ _ _ _=>rfl) λA B F G I u=>?_⟩;rotate_left 3
 ·rcases PM.ak aa _ n x _ m with⟨_,a⟩|⟨_,a⟩
  ·injection a with a;subst a;cases ho
  ·exact⟨a,rfl⟩
 ·rcases PM.ak aa _ n A B G with⟨rfl,_⟩|⟨_,a⟩
  ·rw[e]at u;cases u
  ·exact .inl ⟨A,B,F,a,I,u,rfl⟩
 rotate_left 2
 ·rcases PM.ak _ _ n y w s with⟨rfl,_⟩|⟨_,a⟩
  ·rw[e]at c;cases c
  ·exact(d.frz z l).2 y w k a f c
 ·rcases PM.ak aa _ n b q j with⟨rfl,a⟩|⟨_,a⟩
  ·injection a with a;subst a;exact .inl ⟨e,AO.F5 ho⟩
  ·exact d.live b q a
 ·have old:∀z r C,(H.set (some o) aa n).get z=some r->φ z=some C->H.get z=some r:=λz r C l i=>by
   rcases PM.ak aa _ n z r l with⟨rfl,_⟩|⟨_,a⟩
   ·rw[e]at i;cases i
   ·exact a
  exact d.inj x y q v px k (old x q px m g) (old y v k s c) t f g c E
theorem vY{H':AH}{n':Nat}{g:Hp}{R:Smp}{r:AV}{w:Value}(F:HR φ H n h0 hp)(G:HR ψ H' n' hp g)(hu:VR ψ r w)(he:lH R r H'):∃χ,PLe φ χ/\HR χ (H.set (some (.cells (smp R) true)) aa n) (n+1) h0 g/\VR χ (.rw n 0 R.length 2 0) w:=by
 have I:HR φ H n h0 g:=F.grow (λb o v=>(G.base b o v).2) G.size
 have core:∀(q:Pl) (l r:List AV) (b o a C:Nat),H'.get b=some (.cells l true)->ψ b=some q->R.length<=C->q.s<=a->a+C*2<=q.s+q.T->(R≠[]->a=q.s+o/\bk l o (R.length*2)=some r/\r.map mk=smp R)->w= .slice (some ⟨q.B,a,none⟩) R.length C->∃χ,PLe φ χ/\HR χ (H.set (some (.cells (smp R) true)) aa n) (n+1) h0 g/\VR χ (.rw n 0 R.length 2 0) w:=by
  intro q l r b o a C v d O ha1 ha2 m hw;subst hw;obtain⟨ob,j,P,S⟩:=G.of v d;have j:hp.f q.B=none:=j
  have U:h0.f q.B=none:=by
   cases hx:h0.f q.B with
   |none=>rfl
   |some o=>have:=(F.base _ _ hx).2;rw[j]at this;cases this
  obtain⟨M,t,fz,rfl,o1,o2,o3,o4,o5⟩:=S
  have J:OR (fe φ n ⟨q.B,a,C*2⟩) ⟨q.B,a,C*2⟩ (.cells (smp R) true) (.cells M t fz):=by
   have D:qR fz a (C*2):=o3.sub (by omega);refine⟨M,t,fz,rfl,by rw[bh];simp only;omega,(show a+C*2<=M.size by omega),D,o4,?_⟩;by_cases N:R=[]
   ·subst N;exact λi a hi=>by simp[smp]at hi
   ·obtain⟨rfl,y,E⟩:=m N;obtain⟨h3,V⟩:=bo y;have o6:CR ψ M (q.s+o) r:=by subst V;exact CR.drop o5
    exact CR.nq o6 (by rw[E,bO]) (b8 R)
  have K:=I.add (q:=⟨q.B,a,C*2⟩) U (G.dom _ _ d).2 P J rfl (λb' o' p' u W _ e3=>by
   obtain⟨X,_,A,_⟩:=F.of u W;rw[e3,j]at A;cases A) (λz hz e=>by
   obtain⟨_,c,t,fz,A,_⟩:=(F.frz z hz).1.1;have e:q.B=z.B:=e;rw[<-e,j]at A;cases A) aa λb' Q u W=>by
   obtain⟨X,A⟩:=Q.ex _ _ _ _ (F.sep b' Q u).1 W;rw[j]at A;cases A
  exact⟨_,F.ple _,K,.rw (p:=⟨q.B,a,C*2⟩) (bz _ _ _) (λ_=>rfl) (Z3 _) O (Z3 _)⟩
 have none:R=[]->w= .slice none 0 0->∃χ,PLe φ χ/\HR χ (H.set (some (.cells (smp R) true)) aa n) (n+1) h0 g/\VR χ (.rw n 0 R.length 2 0) w:=λy E=>by
  subst y E;exact⟨φ,.refl _,I.zZ rfl,.rwn⟩
 rcases he with⟨y,u⟩|⟨y,b,c,k,l,u,hc,v,L,hl,hk⟩|⟨b,o,x,l,r',u,Y,v,m,Z⟩
 ·have:=hu.hd;rw[u]at this;exact none y this.cZ
 ·have hu:=hu.hd;rw[u]at hu;obtain⟨q,C,d,rfl,hC0,hC⟩:=hu.eQ
  have hT:R.length<=C/\C*2<=q.T:=by
   rcases hk with rfl|⟨rfl,hk⟩
   ·obtain⟨hC1,hC2⟩:=hC (by decide);exact⟨by omega,by omega⟩
   ·have:=hC0 rfl
    have:=G.room _ _ _ v d;simp only[AO.size]at this;exact⟨by omega,by omega⟩
  refine core q l (l.take (R.length*2)) b 0 q.s C v d hT.1 (Z3 _) (by omega) (λ_=>⟨rfl,?_,hl⟩) rfl
  unfold bk;rw[q0s,q0n L];rfl
 ·rw[u]at hu;rcases hu.gO with⟨y,E⟩|⟨q,a,C,d,rfl,E,h3,V,_,h5,_⟩
  ·exact none (Y5 y) (E.nil (by omega))
  ·exact core q l r' b o a C v d V h3 (h5 Y) (λN=>⟨E (λq=>N (Y5 q)),m,Z⟩) rfl
theorem Jc {F:FuncId->EP} (s:aU F) {d:Nat} {f:FuncId} {args0:List AV} {i:AH} {j:Nat} {R:Smp} {P:AV->AH->Prop} (t:∀u H',P u H'->lH R u H') (c:ax F d f args0 i j λu H' _=>P u H')
 {e:Array Value} {κ:PK} {K:KH} (v:Gj (λr=>r) R H n κ) (p:HR φ H n h0 hp) (x:cn φ h0 κ K) (k:bM Tryz.prog f=true) {φ0:Ph} (l:Wf hp->HR φ0 i j hp hp) (a:VRs φ0 args0 e.toList):dH Tryz.prog f e hp K:=by
 have key:Wf hp->dH Tryz.prog f e hp K:=λy=>bV (by kernel_rfl) s d f args0 i j _ c φ0 hp hp e K (l y) a λψ u H' J w g _ m z A=>by
  have B:HR φ H n h0 g:=p.grow (λb o C=>(m.base b o C).2) m.size;obtain⟨D,E,G,I⟩:=vY p m z (t _ _ A);exact x D _ _ _ _ g E G I v.2
 exact⟨k,λw q=>(key q.wf).2 w q⟩
theorem lH.rw{R:Smp}{b o x:Nat}{l r:List AV}{H':AH}{u:AV}(a:u= .rw b o R.length 2 x)(c:H'.get b=some (.cells l true))(d:bk l o (R.length*2)=some r)(e:r.map mk=smp R)(f:x<2:=by decide):lH R u H':= .inr (.inr ⟨b,o,x,l,r,a,f,c,d,e⟩)
end
section
variable {φ ψ:Ph} {H:AH} {n:Nat} {h0 hp:Hp}
def U9(e:Int)(r:AV):AV:= .tup [r,.si .i64 e]
def LU(R:Smp)(e:Int)(u:AV)(H':AH):Prop:=∃r w,u= .tup [r,w]/\mk w= .si .i64 e/\lH R r H'
theorem LV{a b c d:AV}{v:Value}{χ:Ph}(h:VR ψ (.tup [a,b]) v)(e:mk b=d)(hd:flat.flat1 d=true):∃x y,v= .tuple #[x,y]/\VR ψ a x/\(VR χ c x->VR χ (.tup [c,d]) v):=by
 obtain⟨cs,rfl,f⟩:=h.eH;obtain⟨x,y,rfl,g,i⟩:=vs2 f;exact⟨x,y,rfl,g,λj=> .tup (.cons j (.cons (aV hd (e▸i.mk)) .nil))⟩
theorem Jd {F:FuncId->EP} (C:aU F) {d:Nat} {f:FuncId} {args0:List AV} {l:AH} {m:Nat} {R:Smp} {e:Int} {P:AV->AH->Prop} (D:∀u H',P u H'->LU R e u H') (h:ax F d f args0 l m λu H' _=>P u H')
 {j:Array Value} {κ:PK} {K:KH} (E:Gj (U9 e) R H n κ) (v:HR φ H n h0 hp) (G:cn φ h0 κ K) (p:bM Tryz.prog f=true) {φ0:Ph} (q:Wf hp->HR φ0 l m hp hp) (a:VRs φ0 args0 j.toList):dH Tryz.prog f j hp K:=by
 have key:Wf hp->dH Tryz.prog f j hp K:=λI=>bV (by kernel_rfl) C d f args0 l m _ h φ0 hp hp j K (q I) a λψ u H' X w g _ s A J=>by
  have L:HR φ H n h0 g:=v.grow (λb o M=>(s.base b o M).2) s.size;obtain⟨r,Y,rfl,i,N⟩:=D _ _ J;obtain⟨x,y,rfl,O,_⟩:=LV (c:= .nsl) (χ:=φ) A i rfl
  obtain⟨k,Q,S,T⟩:=vY v s O N;obtain⟨U,Z,t,_,V⟩:=LV (c:= .rw n 0 R.length 2 0) (χ:=k) A i rfl
  injection t with t;have W:x=U:=by have:=congrArg (λz:Array Value=>z[0]?) t;simpa using this
  subst W;exact G k _ _ _ _ g Q S (V T) E.2
 exact⟨p,λw B=>(key B.wf).2 w B⟩
end
def nr(x:AV)(t v:Int):Prop:=∃a b,x= .agg [a,b]/\mk a= .si .i64 t/\mk b= .si .i64 v
theorem nr.open{φ:Ph}{x:AV}{t v:Int}{w:Value}(h:nr x t v)(c:VR φ x w)(χ:Ph):VR χ (.agg [.si .i64 t,.si .i64 v]) w:=by
 obtain⟨a,b,rfl,d,e⟩:=h;obtain⟨cs,rfl,f⟩:=c.dX;obtain⟨y,z,rfl,g,i⟩:=vs2 f;exact .agg (.cons (aV rfl (d▸g.mk)) (.cons (aV rfl (e▸i.mk)) .nil))
end Go.Proofs.YtflehenfikoniaaGreat
namespace Go.Proofs.YtflehenfikoniaaGreat
open Go Go.RowKit Go.ChangeShapes Go.WideShapes
inductive Kd where
 |int (k:IntKind)
 |bool
 |str
 |sl (t:TypeId)
def uE (P:Program) (k:TypeId->Option (List Kd)):List Field->List Kd->Option (List Kd)
 | [],l=>some l
 |f::a,l=>(match k f.type with
  |some m=>if f.offset=l.length/\m.length=P.cellsOf f.type then uE P k a (l++m)else none
  |none=>none)
def Cm{a:Type}(m:List a):Nat->List a
 |0=> []
 |n+1=>Cm m n++m
def xX (P:Program):Nat->TypeId->Option (List Kd)
 |0,_=>none
 |d+1,t=>(match P.underlying t with
  |some (.int k)=>some [.int k]
  |some .bool=>some [.bool]
  |some .string=>some [.str]
  |some (.slice _)=>some [.sl t]
  |some (.struct a)=>(uE P (xX P d) a.toList []).bind λl=>if l.length=P.cellsOf t then some l else none
  |some (.array n e)=>(xX P d e).bind λm=>if m.length=P.cellsOf e/\n*m.length=P.cellsOf t then some (Cm m n)else none
  |_=>none)
def Prim(Tr:TypeId->Value->Prop):Kd->Value->Prop
 | .int k,v=>∃z,v= .int k z/\(Lit.int k z).wf=true
 | .bool,v=>∃b,v= .bool b
 | .str,v=>∃s,v= .string s/\s.size<=maxLen
 | .sl t,v=>Tr t v
def jH(Tr:TypeId->Value->Prop)(a:List Kd)(cs:List Value):Prop:=a.length=cs.length/\∀(j:Nat) k v,a[j]?=some k->cs[j]?=some v->Prim Tr k v
section
variable {Tr:TypeId->Value->Prop}
theorem jH.one{k:Kd}{v:Value}(h:Prim Tr k v):jH Tr [k] [v]:=⟨rfl,λj c d a b=>by
 cases j with
 |zero=>injection a with a;injection b with b;subst a b;exact h
 |succ j=>simp at a⟩
theorem jH.app{d ms:List Kd}{cs ds:List Value}(h:jH Tr d cs)(k:jH Tr ms ds):jH Tr (d++ms) (cs++ds):=⟨by simp[h.1,k.1],λj a v b c=>by
 by_cases e:j<d.length
 ·rw[q0z e]at b;rw[q0z (by rw[<-h.1];exact e)]at c;exact h.2 j a v b c
 ·rw[q0r (by omega)]at b;rw[q0r (by rw[<-h.1];omega),<-h.1]at c;exact k.2 _ a v b c⟩
end
def TrS{H:Type}(enc:TypeId×Value->H)(P:Program)(W:World)(base:Nat)(sp:Nat->Bool)(held:Bool)(t:TypeId)(v:Value):Prop:=∃fuel x,DataW.trod enc P W base sp held fuel t [v]=some x
section
variable {H:Type} {enc:TypeId×Value->H} {P:Program} {W:World} {base:Nat} {sp:Nat->Bool} {held:Bool}
theorem rr{k:TypeId->Option (List Kd)}{cs:List Value}{n:Nat}(b:∀t c cs x,k t=some c->DataW.trod enc P W base sp held n t cs=some x->jH (TrS enc P W base sp held) c cs):∀(a:List Field) (l r:List Kd),jH (TrS enc P W base sp held) l (cs.take l.length)->(∀f∈a,∃x,DataW.trod enc P W base sp held n f.type ((cs.drop f.offset).take (P.cellsOf f.type))=some x)->
 uE P k a l=some r->jH (TrS enc P W base sp held) r (cs.take r.length)
 | [],l,r,h,_,e=>by injection e with e;subst e;exact h
 |f::a,l,r,h,d,e=>by
  unfold uE at e;split at e
  ·rename_i m i;split at e
   ·rename_i ho;obtain⟨ho,j⟩:=ho;obtain⟨x,o⟩:=d f Y6;have p:=b _ _ _ _ i o;refine rr b a (l++m) r ?_ (λg q=>d g (X7 _ q)) e
    have s:cs.take (l++m).length=cs.take l.length++((cs.drop f.offset).take (P.cellsOf f.type)):=by
     rw[Z6,List.take_add,ho,j]
    rw[s];exact h.app p
   ·cases e
  ·cases e
theorem yH{Tr:TypeId->Value->Prop}{m:List Kd}{c:Nat}{cs:List Value}(a:m.length=c):∀n,(∀i,i<n->jH Tr m ((cs.drop (i*c)).take c))->jH Tr (Cm m n) (cs.take (n*c))
 |0,_=>⟨by simp[Cm],λj k v h=>by simp[Cm]at h⟩
 |n+1,h=>by
  have e:cs.take ((n+1)*c)=cs.take (n*c)++(cs.drop (n*c)).take c:=by rw[q2a,Nat.one_mul,List.take_add]
  rw[e];exact(yH a n λi b=>h i (by omega)).app (h n (by omega))
theorem rv:∀(d:Nat) (t:TypeId) (p:List Kd) (fuel:Nat) (cs:List Value) (x:DataW H×List MemPlace),xX P d t=some p->DataW.trod enc P W base sp held fuel t cs=some x->jH (TrS enc P W base sp held) p cs
 |0,t,p,fuel,cs,x,h,_=>by cases h
 |d+1,t,p,fuel,cs,x,h,c=>by
  unfold xX at h;split at h
  ·rename_i k g;injection h with h;subst h;obtain⟨z,rfl,_,J⟩:=DataW.trod_int g c;exact .one ⟨z,rfl,J⟩
  ·rename_i g;injection h with h;subst h;obtain⟨b,rfl,_⟩:=DataW.trod_bool g c;exact .one ⟨b,rfl⟩
  ·rename_i g;injection h with h;subst h;obtain⟨s,rfl,_,K⟩:=DataW.trod_string g c;exact .one ⟨s,rfl,K⟩
  ·rename_i e g;injection h with h;subst h;rcases DataW.trod_slice g c with⟨rfl,_⟩|⟨a,len,cap,_,_,_,_,rfl,_⟩
   ·exact .one ⟨_,_,c⟩
   ·exact .one ⟨_,_,c⟩
  ·rename_i y g;obtain⟨xs,n,rfl,_,L,M,N⟩:=DataW.trod_struct g c;rw[q1t]at h;obtain⟨l,A,o⟩:=h;split at o
   ·rename_i B;injection o with o;subst o
    have:=rr (enc:=enc) (W:=W) (base:=base) (sp:=sp) (held:=held) (n:=n) (cs:=cs) (λt p cs x h c=>rv d t p n cs x h c) y.toList [] l ⟨by simp,λj k v h=>by simp at h⟩ (λf C=>by
     obtain⟨i,w,e⟩:=q1k.1 C;have D:i<y.size:=by simpa using w
     have O:y[i]?=some f:=by rw[q0u D];simpa using e
     have:=N i f O;rw[X4 (by omega)]at this;exact⟨_,this⟩) A
    rw[B,<-L,q0e]at this;exact this
   ·cases o
  ·rename_i n e g;rw[q1t]at h;obtain⟨m,A,o⟩:=h;split at o
   ·rename_i B;obtain⟨r,E⟩:=B;injection o with o;subst o;cases fuel with
    |zero=>simp[DataW.trod]at c
    |succ q=>
     rw[DataW.trod_step]at c;unfold DataW.trodStep at c;simp only[g]at c;split at c
     ·rename_i u;simp only[Z7]at c;obtain⟨Q,G,_⟩:=c;have F:=mapM_some_length G
      have:=yH (cs:=cs) r n (λi w=>by
       have I:=mapM_some_get G i i (by simp[w]);rw[X4 (by rw[F];simpa using w)]at I;exact rv d e m q _ _ A I)
      rw[<-r,E,<-u,q0e]at this;exact this
     ·cases c
   ·cases o
  ·cases h
theorem Gk{b:Type}{c:Nat}:∀(rows:List (List b)),(∀r∈rows,r.length=c)->∀i q,q<c->rows.flatten[i*c+q]?=(rows[i]?).bind (·[q]?)
 | [],_,i,q,_=>by simp
 |r::rows,h,0,q,a=>by
  have:=h r Y6;rw[List.flatten_cons,q1h,q0s,q0z (by omega)];rfl
 |r::rows,h,i+1,q,a=>by
  have e:=h r Y6;rw[List.flatten_cons,q0r (by rw[q2a];omega),show(i+1)*c+q-r.length=i*c+q from by rw[q2a];omega];exact Gk rows (λx d=>h x (X7 _ d)) i q a
theorem Cn{a:Type}{c:Nat}:∀(rows:List (List a)),(∀r∈rows,r.length=c)->rows.flatten.length=rows.length*c
 | [],_=>by simp
 |r::rows,h=>by
  rw[List.flatten_cons,Z6,Cn rows (λx b=>h x (X7 _ b)),h r Y6,Z8,q2a];omega
theorem LW{a:Addr}{v:Value}(h:W.cell? a=some v):∃c u fz,W.heap[a.block]?=some (.cells c u fz)/\a.spot=none/\c[a.off]?=some v:=by
 unfold World.cell? at h;split at h
 ·rename_i c u fz b;split at h
  ·cases h
  ·rename_i d;exact⟨c,u,fz,b,by simpa using d,h⟩
 ·cases h
theorem aN.of{z:Int}(h:(Lit.int .i64 z).wf=true):aN z:=by
 simp[Lit.wf,IntKind.min,IntKind.max,IntKind.signed,IntKind.bits]at h;unfold aN;omega
theorem LX{e:Nat}{t:TypeId}{d:Nat}{v:Value}{D:DataW H}{f:List MemPlace}{g:Array Field}(h:P.underlying t=some (.struct g))(i:xX P d t=some [.int .i64,.int .i64])(a:Value.okWide P W .any e t v)(hd:DataW.Trod enc P W 0 (λ_=>true) held t v D f):
 ∃x y:Int,aN x/\aN y/\∀χ,VR χ (.agg [.si .i64 x,.si .i64 y]) v:=by
 simp only[Value.okWide,h]at a;obtain⟨cs,rfl,_⟩:=a;obtain⟨fuel,j⟩:=hd;obtain⟨c,b⟩:=rv d t _ fuel _ _ i j;obtain⟨l⟩:=cs;simp only[Value.cells]at c b
 match l,c,b with
 | [k,m],_,b=>
  obtain⟨n,rfl,o⟩:=b 0 _ k rfl rfl
  obtain⟨p,rfl,q⟩:=b 1 _ m rfl rfl
  exact⟨n,p,.of o,.of q,λχ=> .agg (.cons (.si _ _) (.cons (.si _ _) .nil))⟩
end
end Go.Proofs.YtflehenfikoniaaGreat
namespace Go.Proofs.YtflehenfikoniaaGreat
open Go Go.RowKit
section
variable {φ ψ:Ph} {H:AH} {n:Nat} {h0 hp:Hp}
theorem HR.yI(l:HR φ H n h0 hp){φ0:Ph}{c:AH}{i:Nat}(h:HR φ0 c i hp hp)(hn:∀b o,c.get b=some o->o.own=false)(m:∀q,¬φ0.z q):HR ⟨φ0.f,φ.z,φ.z,φ0.s⟩ c i hp hp:=by
 have d:SLe φ0 ⟨φ0.f,φ.z,φ.z,φ0.s⟩:=⟨λ_ _ e=>e,λq e=>(m q e).elim⟩;have g:∀q,φ.z q->(⟨φ0.f,φ.z,φ.z,φ0.s⟩:Ph).z q:=λ_ e=>e
 refine⟨h.dom,λb o a=>(h.live b o a).imp id λ⟨p,r,t,u,v,w⟩=>⟨p,r,t,u,v,w.cY d⟩,h.inj,h.base,h.size,λq j=>⟨⟨FzR.mono g (l.frz q j).1.1,.inl j⟩,λb o p a k _=>?_⟩,λb Q a=>by cases hn b _ a⟩;rw[hn b o a]at k;cases k
def FrG(m k:Nat)(s:List AV)(u:AV)(H':AH):Prop:=
 (hd u= .nsl/\m=0/\s=[])∨(u= .fr m k s/\s.length=m*k)∨
 (∃b o x l z r,u= .rw b o m k x/\x≠4/\H'.get b=some (.cells l z)/\bk l o (m*k)=some r/\r.map mk=s.map mk)∨
 ∃b o c a l z r,hd u= .sl b o m c a/\m<=c/\H'.get b=some (.cells l z)/\bk l o (m*k)=some r/\r.map mk=s.map mk
theorem O1{m k j b x:Nat}{l s:List AV}{z:Bool}{u:AV}{H':AH}(c:u= .rw b 0 j k x)(d:j=m)(e:H'.get b=some (.cells l z))(a:l.map mk=s.map mk)(g:s.length=m*k)(f:x≠4:=by decide):FrG m k s u H':=by
 subst d;exact .inr (.inr (.inl ⟨b,0,x,l,z,l,c,f,e,bw (by have:=congrArg List.length a;simp only[Y0]at this;omega),a⟩))
def Ph.more(φ:Ph)(z:Fz->Prop):Ph:=⟨φ.f,λq=>φ.z q∨z q,φ.y,φ.s⟩
theorem Ph.pj(φ:Ph)(z:Fz->Prop):PLe φ (φ.more z):=⟨λ_ _ e=>e,λ_ e=> .inl e,λ_ e=>e⟩
theorem HR.more{h:Hp}(a:HR φ H n h0 h){z:Fz->Prop}(i:∀q,z q->FzR (φ.more z) h q/\h0.f q.B=none/\(∀b o p,H.get b=some o->o.own=true->φ b=some p->p.B≠q.B)/\∀b Q,H.get b=some (.sep Q)->¬φ.s b q.B):HR (φ.more z) H n h0 h:=by
 refine⟨a.dom,λb o j=>(a.live b o j).imp id λ⟨p,k,c,d,e,l⟩=>⟨p,k,c,d,e,l.mono (φ.pj z)⟩,a.inj,a.base,a.size,λq g=>?_,a.b7 (Z3 _) (λx Q m=>⟨m,rfl⟩) (λ_ h=> .inl h) (λq h=>h.imp id λh=>(i q h).2.2.2) (λ_ _ _ _ _=>rfl) λr t u v w y=> .inl ⟨r,t,u,v,w,y,rfl⟩⟩;rcases g with g|g
 ·obtain⟨⟨c,d⟩,e⟩:=a.frz q g;exact⟨⟨FzR.mono (φ.pj z).z c,d⟩,e⟩
 ·obtain⟨c,d,e⟩:=i q g;exact⟨⟨c,.inr d⟩,e.1⟩
theorem EO{H':AH}{n':Nat}{g:Hp}{m k:Nat}{s:List AV}{u:AV}{w:Value}(T:HR φ H n h0 hp)(E:HR ψ H' n' hp g)(hy:∀q,ψ.y q->φ.z q)(N:s.all flat.flat1=true)(F:s.length=m*k)(U:VR ψ u w)(he:FrG m k s u H'):
 ∃χ,PLe φ χ/\HR χ H n h0 g/\VR χ (.fr m k s) w:=by
 have G:HR φ H n h0 g:=T.grow (λb o v=>(E.base b o v).2) E.size
 have W:∀B,hp.f B=none->h0.f B=none:=λB e=>by
  cases q:h0.f B with
  |none=>rfl
  |some o=>have:=(T.base B o q).2;rw[e]at this;cases this
 have own:∀B,hp.f B=none->∀b o p,H.get b=some o->o.own=true->φ b=some p->p.B≠B:=λB e b o p v hw X q=>by
  obtain⟨ob,_,d,_⟩:=T.of v X;rw[q,e]at d;cases d
 have Y:∀B,hp.f B=none->∀b Q,H.get b=some (.sep Q)->¬φ.s b B:=λB e b Q v hB=>by
  obtain⟨o,ho⟩:=Q.ex _ _ _ _ (T.sep b Q v).1 hB;rw[e]at ho;cases ho
 have none:∀{a:Option Addr} {C:Nat},m=0->s=[]->w= .slice a 0 C->(a=none->C=0)->∃χ,PLe φ χ/\HR χ H n h0 g/\VR χ (.fr m k s) w:=λ{a C} d A D I=>by
  subst d A D;exact⟨φ,.refl φ,G,.fre I⟩
 have new:∀(B a C:Nat) (c:Array Value) (t:TypeId) (fz:Nat×Nat),hp.f B= .none->B<g.n->g.f B=some (.cells c t fz)->a+m*k<=c.size->(∃χ,CR χ c a s)->m<=C->w= .slice (some ⟨B,a,.none⟩) m C->∃χ,PLe φ χ/\HR χ H n h0 g/\VR χ (.fr m k s) w:=by
  intro B a C c t fz d A D I ⟨χ,V⟩ O h7;subst h7
  have Z:s.all mg=true:=by
   rw[Y4]at N⊢;intro x hx;have:=N x hx;cases x<;>first|rfl|cases this
  refine⟨φ.more λq=>q=⟨B,a,s⟩,φ.pj _,G.more λq hq=>?_,?_⟩
  ·subst hq;exact⟨⟨⟨A,Z⟩,c,t,fz,D,(show a+s.length<=c.size by omega),CR.nq V rfl N⟩,W _ d,own _ d,Y _ d⟩
  ·have:VR (φ.more λq=>q=⟨B,a,s⟩) (.fr m k s) (.slice (some ⟨B,a+0,.none⟩) m C):= .fr (q:=⟨B,a,s⟩) (o:=0) (.inr rfl) O (bw F);exact this
 rcases he with⟨e,M,hs0⟩|⟨rfl,_⟩|⟨b,o,x,l,z,r,rfl,hx,v,h,J⟩|⟨b,o,c,kk,l,z,r,e,hc,v,h,J⟩
 ·have:=U.hd;rw[e]at this;exact none M hs0 this.cZ λ_=>rfl
 ·rcases U.sM with⟨d,A,a,C,D,I⟩|⟨q,o,C,hq,rfl,hC,hl⟩
  ·exact none d A D I
  ·obtain⟨⟨hf,i⟩,_⟩:=E.frz q hq;rcases i with i|i
   ·exact⟨φ,.refl φ,G,.fr (hy q i) hC hl⟩
   ·obtain⟨⟨d,A⟩,c,t,fz,D,I,V⟩:=hf;obtain⟨g1,P⟩:=bo hl;exact new q.B (q.s+o) C c t fz i d D (by omega) ⟨ψ,by rw[P];exact CR.drop V⟩ hC rfl
 ·rcases U.gO with⟨d,hem⟩|⟨p,a,C,j,rfl,A,D,I,V,_,_⟩
  ·exact none d (Y5 (by rw[F,d,q1h])) (hem.nil hx) λ_=>rfl
  ·obtain⟨ob,K,L,R,t,fz,rfl,o1,o2,o3,o4,o5⟩:=E.of v j;by_cases M:m=0
   ·exact none (a:=some ⟨p.B,a,.none⟩) M (Y5 (by rw[F,M,q1h])) (by rw[M]) λq=>by cases q
   ·have ha:=A M;subst ha;obtain⟨g1,P⟩:=bo h;have O:CR ψ R (p.s+o) r:=by rw[P];exact CR.drop o5
    exact new p.B (p.s+o) C R t fz K (E.dom _ _ j).2 L (by omega) ⟨ψ,CR.nq O J N⟩ I rfl
 ·have:=U.hd;rw[e]at this;obtain⟨p,C,j,rfl,hC0,hC1⟩:=this.eQ;obtain⟨ob,K,L,R,t,fz,rfl,o1,o2,o3,o4,o5⟩:=E.of v j;obtain⟨g1,P⟩:=bo h;have O:CR ψ R (p.s+o) r:=by rw[P];exact CR.drop o5
  have hlC:m<=C:=by
   by_cases S:kk=0
   ·rw[hC0 S];exact hc
   ·exact X9 hc (hC1 S).1
  exact new p.B (p.s+o) C R t fz K (E.dom _ _ j).2 L (by omega) ⟨ψ,CR.nq O J N⟩ hlC rfl
def O3 (F:FuncId->EP) (d:Nat) (D:DT) (f:FuncId):List AV->AH->Nat->PK->Prop:=EP.rec (λ_ _ _ _=>False) (λD c rs m=>OM (ax F d) (tN F) D c rs m) (λ_ _ _ _ _=>False) (λ_ _ _ _ _=>False) (yn D f)
theorem Gl{F:FuncId->EP}(k:aU F)(d:Nat){D:DT}{f:FuncId}(e:IQ Tryz.prog f=true)(i:yo D f=true):ai f (O3 F d D f):=λargs H n u a φ h0 h v K r j s=>by
 have q:=vM (D:=D) e i;unfold O3 at a;cases b:yn D f with
 |no=>rw[b]at a;exact a.elim
 |nat g=>rw[b]at a;exact a.elim
 |det g=>rw[b]at a;exact a.elim
 |run D c rs m=>
  rw[b]at a q;obtain⟨e,i,fn,l,t,o,p⟩:=q;subst o p;exact vL (by kernel_rfl) (bV (by kernel_rfl) k d) (rn k) (ni k) e i l t a r j s
theorem ay{F:FuncId->EP}(b:aU F)(d:Nat)(f:FuncId):ai f (ax F d f):=λargs H n c e φ h0 h g K i a j=>bV (by kernel_rfl) b d f args H n c e φ h0 h g K i a j
theorem LY {f:FuncId} {run:List AV->AH->Nat->PK->Prop} (b:ai f run) {args0:List AV} {d:AH} {e m k:Nat} {s:List AV} (t:s.all flat.flat1=true) (i:s.length=m*k) (h:run args0 d e λu H' _=>FrG m k s u H')
 {c:Array Value} {κ:PK} {K:KH} (j:κ (.fr m k s) H n) (v:HR φ H n h0 hp) (x:cn φ h0 κ K) (l:bM Tryz.prog f=true) {φ0:Ph} (o:Wf hp->HR φ0 d e hp hp) (A:φ0.y=φ.z) (a:VRs φ0 args0 c.toList):dH Tryz.prog f c hp K:=by
 have key:Wf hp->dH Tryz.prog f c hp K:=λB=>b args0 d e _ h φ0 hp hp c K (o B) a λψ u H' M w g p C D E=>by
  obtain⟨F,G,I,J⟩:=EO v C (λq L=>A▸p.y q L) t i D E;exact x F _ H n w g G I J j
 exact⟨l,λw r=>(key r.wf).2 w r⟩
theorem Gm {F:FuncId->EP} (o:aU F) {d:Nat} {f:FuncId} {args0:List AV} {i:AH} {j m k:Nat} {s:List AV} (p:s.all flat.flat1=true) (b:s.length=m*k) (h:ax F d f args0 i j λu H' _=>FrG m k s u H')
 {l:Array Value} {κ:PK} {K:KH} (c:κ (.fr m k s) H n) (q:HR φ H n h0 hp) (r:cn φ h0 κ K) (e:bM Tryz.prog f=true) {φ0:Ph} (g:Wf hp->HR φ0 i j hp hp) (t:φ0.y=φ.z) (a:VRs φ0 args0 l.toList):dH Tryz.prog f l hp K:=
 LY (ay o d f) p b h c q r e g t a
end
end Go.Proofs.YtflehenfikoniaaGreat
end
