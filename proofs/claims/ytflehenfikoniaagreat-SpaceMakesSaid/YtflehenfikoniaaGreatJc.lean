/- Texts of our own, joined: the engine, the machine that runs code, and what is known of the functions. -/
import Derived.Test.YtflehenfikoniaaGreatRows
import Derived.WalkKit
import Derived.Deep.Quiet
import Derived.ProofKit
import Derived.Laws.StructEq
import Derived.LaidEql
import Derived.Laws.BytesArg
import Derived.Maps.RangeRun
import Derived.RangeFuncSeq
import Derived.Scope
import Derived.Laws.Strings
import Derived.Laws.Strings2
import Derived.Below
import Derived.Carry
import Derived.OpenShut
import Derived.ChangeMaps5
import Derived.Deep.Slices
import Derived.Deep.SlicePairs
import Derived.SizedLaws
import Derived.Test.YtflehenfikoniaaGreatJb
import Derived.Laws.BitsAllLaws
set_option linter.unusedSimpArgs false
set_option linter.unusedVariables false
set_option maxHeartbeats 16000000
set_option maxRecDepth 100000
noncomputable section
namespace Go.Proofs.YtflehenfikoniaaGreat
open Go Go.RowKit
mutual
def ren(r:Nat->Nat):AV->AV
 | .int k n=> .int k n
 | .str s=> .str s
 | .bool b=> .bool b
 | .nil=> .nil
 | .ptr b o=> .ptr (r b) o
 | .nsl=> .nsl
 | .sl b o n c k=> .sl (r b) o n c k
 | .esl b=> .esl (r b)
 | .agg l=> .agg (dY r l)
 | .tup l=> .tup (dY r l)
 | .fn f a c=> .fn f (dY r a) (dY r c)
 | .map b=> .map (r b)
 | .any v=> .any v
 | .bad=> .bad
 | .si k n=> .si k n
 | .sb b=> .sb b
 | .ss s=> .ss s
 | .sy b o n c k=> .sy (r b) o n c k
 | .rw b o n k x=> .rw (r b) o n k x
 | .fr n k l=> .fr n k l
 | .fa l o=> .fa l o
def dY(r:Nat->Nat):List AV->List AV
 | []=> []
 |a::l=>ren r a::dY r l
end
mutual
def ltV(m:Nat):AV->Bool
 | .int _ _=>true
 | .str _=>true
 | .bool _=>true
 | .nil=>true
 | .ptr b _=>Nat.blt b m
 | .nsl=>true
 | .sl b _ _ _ _=>Nat.blt b m
 | .esl b=>Nat.blt b m
 | .agg l=>jO m l
 | .tup l=>jO m l
 | .fn _ a c=>jO m a&&jO m c
 | .map b=>Nat.blt b m
 | .any _=>true
 | .bad=>true
 | .si _ _=>true
 | .sb _=>true
 | .ss _=>true
 | .sy b _ _ _ _=>Nat.blt b m
 | .rw b _ _ _ _=>Nat.blt b m
 | .fr _ _ _=>true
 | .fa _ _=>true
def jO(m:Nat):List AV->Bool
 | []=>true
 |a::l=>ltV m a&&jO m l
end
def Ph.pull(χ:Ph)(r:Nat->Nat):Ph:=⟨λb=>χ (r b),χ.z,χ.y,λb=>χ.s (r b)⟩
section
variable {χ ψ:Ph} {r:Nat->Nat} {m:Nat}
mutual
theorem VR.pull:∀(a:AV) (v:Value),VR χ (ren r a) v<->VR (χ.pull r) a v
 | .int k n,v=>by simp only[ren,VR]
 | .str s,v=>by simp only[ren,VR]
 | .bool b,v=>by simp only[ren,VR]
 | .nil,v=>by simp only[ren,VR]
 | .ptr b o,v=>by simp only[ren,VR,Ph.pull]
 | .nsl,v=>by simp only[ren,VR]
 | .sl b o n c k,v=>by simp only[ren,VR,Ph.pull]
 | .esl b,v=>by simp only[ren,VR,Ph.pull]
 | .agg l,v=>by simp only[ren,VR,VRs.pull l]
 | .tup l,v=>by simp only[ren,VR,VRs.pull l]
 | .fn f a c,v=>by simp only[ren,VR,VRs.pull a,VRs.pull c]
 | .map b,v=>by simp only[ren,VR,Ph.pull]
 | .any u,v=>by simp only[ren,VR]
 | .bad,v=>by simp only[ren,VR]
 | .si k n,v=>by simp only[ren,VR]
 | .sb b,v=>by simp only[ren,VR]
 | .ss s,v=>by simp only[ren,VR]
 | .sy b o n c k,v=>by simp only[ren,VR,Ph.pull]
 | .rw b o n k x,v=>by simp only[ren,VR,Ph.pull]
 | .fr n k l,v=>by simp only[ren,VR,Ph.pull]
 | .fa l o,v=>by simp only[ren,VR,Ph.pull]
theorem VRs.pull:∀(l:List AV) (d:List Value),VRs χ (dY r l) d<->VRs (χ.pull r) l d
 | [],d=>by simp only[dY,VRs]
 |a::l,d=>by simp only[dY,VRs,VR.pull a,VRs.pull l]
end
mutual
theorem VR.below(j:∀b p,b<m->ψ b=some p->χ b=some p)(t:∀q,ψ.z q->χ.z q):∀(a:AV) (v:Value),ltV m a=true->VR ψ a v->VR χ a v
 | .int k n,v,_,h=>by simp only[VR]at h⊢;exact h
 | .str s,v,_,h=>by simp only[VR]at h⊢;exact h
 | .bool b,v,_,h=>by simp only[VR]at h⊢;exact h
 | .nil,v,_,h=>by simp only[VR]at h⊢;exact h
 | .ptr b o,v,d,h=>by
  simp only[ltV,q2o]at d;simp only[VR]at h⊢;obtain⟨p,e,i⟩:=h;exact⟨p,j _ _ d e,i⟩
 | .nsl,v,_,h=>by simp only[VR]at h⊢;exact h
 | .sl b o n c k,v,d,h=>by
  simp only[ltV,q2o]at d;simp only[VR]at h⊢;obtain⟨p,C,e,i⟩:=h;exact⟨p,C,j _ _ d e,i⟩
 | .esl b,v,d,h=>by
  simp only[ltV,q2o]at d;simp only[VR]at h⊢;obtain⟨p,x,C,e,i⟩:=h;exact⟨p,x,C,j _ _ d e,i⟩
 | .agg l,v,d,h=>by
  simp only[ltV]at d;simp only[VR]at h⊢;obtain⟨cs,e,i⟩:=h;exact⟨cs,e,VRs.below j t l _ d i⟩
 | .tup l,v,d,h=>by
  simp only[ltV]at d;simp only[VR]at h⊢;obtain⟨cs,e,i⟩:=h;exact⟨cs,e,VRs.below j t l _ d i⟩
 | .fn f a c,v,d,h=>by
  simp only[ltV,Z8]at d;simp only[VR]at h⊢;obtain⟨xs,cs,e,i,y⟩:=h;exact⟨xs,cs,e,VRs.below j t a _ d.1 i,VRs.below j t c _ d.2 y⟩
 | .map b,v,d,h=>by
  simp only[ltV,q2o]at d;simp only[VR]at h⊢;obtain⟨p,e,i⟩:=h;exact⟨p,j _ _ d e,i⟩
 | .any u,v,_,h=>by simp only[VR]at h⊢;exact h
 | .bad,v,_,h=>by simp only[VR]
 | .si k n,v,_,h=>by simp only[VR]at h⊢;exact h
 | .sb b,v,_,h=>by simp only[VR]at h⊢;exact h
 | .ss s,v,_,h=>by simp only[VR]at h⊢;exact h
 | .sy b o n c k,v,d,h=>by
  simp only[ltV,q2o]at d;simp only[VR]at h⊢;obtain⟨p,C,e,i⟩:=h;exact⟨p,C,j _ _ d e,i⟩
 | .rw b o n k x,v,d,h=>by
  simp only[ltV,q2o]at d;simp only[VR]at h⊢;rcases h with h|⟨p,a,C,e,i⟩
  ·exact .inl h
  ·exact .inr ⟨p,a,C,j _ _ d e,i⟩
 | .fr n k l,v,_,h=>by
  simp only[VR]at h⊢;rcases h with h|⟨q,o,C,e,i⟩
  ·exact .inl h
  ·exact .inr ⟨q,o,C,t _ e,i⟩
 | .fa l o,v,_,h=>by
  simp only[VR]at h⊢;obtain⟨q,x,e,i⟩:=h;exact⟨q,x,t _ e,i⟩
theorem VRs.below(j:∀b p,b<m->ψ b=some p->χ b=some p)(t:∀q,ψ.z q->χ.z q):∀(l:List AV) (w:List Value),jO m l=true->VRs ψ l w->VRs χ l w
 | [],w,_,h=>by simp only[VRs]at h⊢;exact h
 |a::l,w,d,h=>by
  simp only[jO,Z8]at d;simp only[VRs]at h⊢;obtain⟨v,us,e,i,y⟩:=h;exact⟨v,us,e,VR.below j t a v d.1 i,VRs.below j t l us d.2 y⟩
end
end
def yy(r:Nat->Nat):List (AV×AV)->List (AV×AV)
 | []=> []
 |e::es=>(ren r e.1,ren r e.2)::yy r es
def cP(r:Nat->Nat):AO->AO
 | .cells l z=> .cells (dY r l) z
 | .map es=> .map (yy r es)
 | .mp es bs cl=> .mp (yy r es) bs cl
 | .ro l=> .ro (dY r l)
 | .iter b m seen=> .iter (r b) m seen
 | .sep Q=> .sep Q
def ltE(m:Nat):List (AV×AV)->Bool
 | []=>true
 |e::es=>ltV m e.1&&(ltV m e.2&&ltE m es)
def ltO(m:Nat):AO->Bool
 | .cells l _=>jO m l
 | .map es=>ltE m es
 | .mp es _ _=>ltE m es
 | .ro l=>jO m l
 | .iter b _ _=>Nat.blt b m
 | .sep _=>true
section
variable {χ ψ:Ph} {r:Nat->Nat} {m:Nat}
theorem oT:∀l:List AV,(dY r l).length=l.length
 | []=>rfl
 |a::l=>by simp[dY,oT l]
theorem AL:∀(l:List AV) (i:Nat),(dY r l)[i]?=(l[i]?).map (ren r)
 | [],i=>by simp[dY]
 |a::l,0=>by simp[dY]
 |a::l,i+1=>by simp[dY,AL l i]
theorem Mu:∀{l:List AV},jO m l=true->∀{i:Nat} {a:AV},l[i]?=some a->ltV m a=true
 | [],_,i,a,h=>by simp at h
 |b::l,c,i,a,h=>by
  simp only[jO,Z8]at c;cases i with
  |zero=>simp only[q1s,q1x]at h;subst h;exact c.1
  |succ i=>exact Mu c.2 (by simpa using h)
theorem CR.pull{c:Array Value}{s:Nat}{l:List AV}:CR χ c s (dY r l)<->CR (χ.pull r) c s l:=by
 constructor
 ·intro h i a e;obtain⟨v,b,d⟩:=h i (ren r a) (by rw[AL,e];rfl);exact⟨v,b,(VR.pull _ _).1 d⟩
 ·intro h i a e;rw[AL,Z7]at e;obtain⟨f,j,rfl⟩:=e;obtain⟨v,b,d⟩:=h i f j;exact⟨v,b,(VR.pull _ _).2 d⟩
theorem CR.below(d:∀b p,b<m->ψ b=some p->χ b=some p)(f:∀q,ψ.z q->χ.z q){c:Array Value}{s:Nat}{l:List AV}(j:jO m l=true)(h:CR ψ c s l):CR χ c s l:=λi a e=>by
 obtain⟨v,k,o⟩:=h i a e;exact⟨v,k,VR.below d f a v (Mu j e) o⟩
theorem MR.pull:∀{es:List (AV×AV)} {ms:List MapEntry},MR χ (yy r es) ms<->MR (χ.pull r) es ms
 | [],ms=>Iff.rfl
 |e::es,ms=>by
  show(∃m us,_/\_/\_/\MR χ (yy r es) us)<->∃m us,_/\_/\_/\MR (χ.pull r) es us;simp only[MR.pull (es:=es),VR.pull]
theorem MR.below(c:∀b p,b<m->ψ b=some p->χ b=some p)(d:∀q,ψ.z q->χ.z q):∀{es:List (AV×AV)} {ms:List MapEntry},ltE m es=true->MR ψ es ms->MR χ es ms
 | [],ms,_,h=>h
 |e::es,ms,a,⟨x,us,f,i,j,k⟩=>by
  simp only[ltE,Z8]at a;exact⟨x,us,f,VR.below c d _ _ a.1 i,VR.below c d _ _ a.2.1 j,MR.below c d a.2.2 k⟩
theorem OR.pull{p:Pl}{o:AO}{ob:Obj}:OR χ p (cP r o) ob<->OR (χ.pull r) p o ob:=by
 cases o with
 |cells l z=>simp only[cP,OR,oT,CR.pull]
 |map es=>simp only[cP,OR,MR.pull]
 |mp es bs cl=>simp only[cP,OR,MR.pull]
 |iter b k seen=>exact Iff.rfl
 |ro l=>simp only[cP,OR,oT,CR.pull]
 |sep Q=>exact Iff.rfl
theorem OR.below(i:∀b p,b<m->ψ b=some p->χ b=some p)(j:∀q,ψ.z q->χ.z q){p:Pl}{o:AO}{ob:Obj}(f:ltO m o=true)(h:OR ψ p o ob):OR χ p o ob:=by
 cases o with
 |cells l z=>obtain⟨c,t,fz,a,d,e,s,u,v⟩:=h;exact⟨c,t,fz,a,d,e,s,u,v.below i j f⟩
 |map es=>obtain⟨ms,cl,a,d,e⟩:=h;exact⟨ms,cl,a,MR.below i j f d,e⟩
 |mp es bs cl=>obtain⟨ms,a,d,e⟩:=h;exact⟨ms,a,MR.below i j f d,e⟩
 |iter b k seen=>
  obtain⟨h0,q,a,d⟩:=h;simp only[ltO,q2o]at f;exact⟨h0,q,i _ _ f a,d⟩
 |ro l=>obtain⟨c,t,fz,a,d,e,s⟩:=h;exact⟨c,t,fz,a,d,e,s.below i j f⟩
 |sep Q=>exact h.elim
theorem iW(o:AO):(cP r o).own=o.own:=by cases o<;>rfl
theorem kM(o:AO):(cP r o).free=o.free:=by
 cases o with
 |cells l z=>cases l<;>rfl
 |map es=>rfl
 |mp _ _ _=>rfl
 |iter b k seen=>rfl
 |ro l=>cases l<;>rfl
 |sep Q=>rfl
theorem mJ{o:AO}{Q:HP}(h:cP r o= .sep Q):o= .sep Q:=by cases o<;>first|exact h|cases h
theorem nI(o:AO)(ob:Obj):(cP r o).under ob=o.under ob:=by cases o<;>rfl
end
def bu(S:List Nat)(n b:Nat):Nat:=match S[b]? with
 |some s=>s
 |none=>n+(b-S.length)
def bM(O:List AO):Nat->List (Nat×AO)
 |k=>match O with
  | []=> []
  |o::O=>(k,o)::bM O (k+1)
theorem wS:∀{O:List AO} {k b:Nat} {o:AO},(b,o)∈bM O k->∃i,b=k+i/\O[i]?=some o
 | [],k,b,o,h=>by cases h
 |x::O,k,b,o,h=>by
  rcases Z4.1 (show(b,o)∈(k,x)::bM O (k+1) from h)with h|h
  ·injection h with c a;subst c a;exact⟨0,rfl,rfl⟩
  ·obtain⟨i,c,a⟩:=wS h;exact⟨i+1,by omega,a⟩
theorem mK:∀{S:List Nat},S.Nodup->∀{i j a:Nat},S[i]?=some a->S[j]?=some a->i=j
 | [],_,i,j,a,h,_=>by simp at h
 |x::S,hn,i,j,a,h,k=>by
  obtain⟨b,c⟩:=q2s.1 hn;cases i with
  |zero=>
   cases j with
   |zero=>rfl
   |succ j=>
    simp only[q1s,q1x,q1k]at h k;subst h;exact absurd (q0j k) b
  |succ i=>
   cases j with
   |zero=>
    simp only[q1s,q1x,q1k]at h k;subst k;exact absurd (q0j h) b
   |succ j=>
    simp only[q1k]at h k;rw[mK c h k]
section
variable {φ ψ:Ph} {H H' H2:AH} {n n' m:Nat} {h0 hp g:Hp} {S:List Nat} {O:List AO}
def iX(H:AH)(n:Nat)(S:List Nat)(O:List AO):Prop:=S.Nodup/\S.length=O.length/\∀(i:Nat) s o,S[i]?=some s->O[i]?=some o->s<n/\H.get s=some (cP (bu S n) o)/\(o.void=false∨o.own=true)
theorem cM{i s:Nat}(h:S[i]?=some s):bu S n i=s:=by unfold bu;rw[h]
theorem gG{b:Nat}(h:S.length<=b):bu S n b=n+(b-S.length):=by unfold bu;rw[q2e h]
def CW(φ:Ph)(S:List Nat)(O:List AO)(B:Nat):Prop:=(∃(i:Nat) (s:Nat) (o:AO) (p:Pl),S[i]?=some s/\O[i]?=some o/\o.own=true/\φ s=some p/\p.B=B)∨∃(i:Nat) (s:Nat) (Q:HP),S[i]?=some s/\O[i]?=some (.sep Q)/\φ.s s B
open Classical in
def mL (φ:Ph) (S:List Nat) (O:List AO) (hp:Hp):Hp:=⟨λB=>if CW φ S O B then none else hp.f B,hp.n⟩
theorem JH{B:Nat}{o:Obj}(h:(mL φ S O hp).f B=some o):hp.f B=some o/\¬CW φ S O B:=by
 unfold mL at h;dsimp only at h;split at h
 ·cases h
 ·rename_i q;exact⟨h,q⟩
theorem lZ{B:Nat}(h:¬CW φ S O B):(mL φ S O hp).f B=hp.f B:=by
 unfold mL;dsimp only;rw[if_neg h]
theorem JI{B:Nat}(h:(mL φ S O hp).f B=none):CW φ S O B∨hp.f B=none:=by
 unfold mL at h;dsimp only at h;split at h
 ·rename_i q;exact .inl q
 ·exact .inr h
theorem iX.at(b:iX H n S O){i s:Nat}(c:S[i]?=some s):∃o,O[i]?=some o/\s<n/\H.get s=some (cP (bu S n) o)/\(o.void=false∨o.own=true):=by
 have a:i<O.length:=by rw[<-b.2.1];exact(Y6.1 c).1
 exact⟨O[i],Y0 a,b.2.2 i s O[i] c (Y0 a)⟩
theorem CW.base(d:HR φ H n h0 hp)(e:iX H n S O){B:Nat}(h:CW φ S O B):h0.f B=none:=by
 rcases h with⟨i,s,o,p,a,b,c,k,rfl⟩|⟨i,s,Q,a,b,c⟩
 ·obtain⟨_,l,_⟩:=e.2.2 i s o a b;obtain⟨q,j,_⟩:=d.of l k;rw[nI,AO.bH c]at j;exact j
 ·exact((d.sep s Q (e.2.2 i s _ a b).2.1).2 B c).1.2
theorem HR.small(t:HR φ H n h0 hp)(j:iX H n S O)(T:Wf hp):HR ⟨λb=>φ (bu S n b),φ.z,φ.z,λb=>φ.s (bu S n b)⟩ (mkH (bM O 0)) S.length (mL φ S O hp) hp:=by
 have D:∀b p,φ (bu S n b)=some p->∃s,S[b]?=some s/\φ s=some p:=λb p e=>by
  cases M:S[b]? with
  |some s=>rw[cM M]at e;exact⟨s,rfl,e⟩
  |none=>
   have U:=q2b.1 M;rw[gG U]at e;have:=(t.dom _ _ e).1;omega
 have get:∀{b o},(mkH (bM O 0)).get b=some o->O[b]?=some o:=λ{b o} e=>by
  obtain⟨i,c,a⟩:=wS (ct e);rw[show b=i by omega];exact a
 have f:∀{b o},O[b]?=some o->∃s,S[b]?=some s:=λ{b o} e=>by
  have:=(Y6.1 e).1;rw[<-j.2.1]at this;exact⟨S[b],Y0 this⟩
 refine⟨λb p e=>?_,λb o e=>?_,λb u o E p y e V ho F d k C=>?_,λb o e=>?_,Z3 _,λq G=>⟨⟨FzR.mono (φ:=φ) (ψ:=⟨λb=>φ (bu S n b),φ.z,φ.z,λb=>φ.s (bu S n b)⟩) (λ_ h=>h) (t.frz q G).1.1,.inl G⟩,λb o p e ho d=>?_⟩,λb Q e=>?_⟩;rotate_left 5
 ·have c:=get e;obtain⟨s,a⟩:=f c;obtain⟨W,X⟩:=t.sep s Q (j.2.2 b s _ a c).2.1;have es:(⟨λb=>φ (bu S n b),φ.z,φ.z,λb=>φ.s (bu S n b)⟩:Ph).s b=φ.s s:=by show φ.s (bu S n b)=_;rw[cM a]
  rw[es];refine⟨W,λB C=>?_⟩;obtain⟨Y,Z,g3,g4⟩:=X B C;refine⟨⟨Y.1,?_⟩,λu E y I J l=>?_,g3,λu Q' I J l=>?_⟩
  ·unfold mL;dsimp only;rw[if_pos (.inr ⟨b,s,Q,a,c,C⟩)]
  ·have f1:=get I;obtain⟨v,x⟩:=f f1;have l:φ (bu S n u)=some y:=l;rw[cM x]at l;exact Z v _ y (j.2.2 u v E x f1).2.1 (by rw[iW];exact J) l
  ·have f1:=get I;obtain⟨v,x⟩:=f f1;have l:φ.s (bu S n u) B:=l;rw[cM x]at l;exact g4 v Q' (j.2.2 u v _ x f1).2.1 (λq=>J (by subst q;exact mK j.1 x a)) l
 ·obtain⟨s,c,a⟩:=D b p e;exact⟨(Y6.1 c).1,(t.dom s p a).2⟩
 ·have c:=get e;obtain⟨s,a⟩:=f c;obtain⟨_,h4,h5⟩:=j.2.2 b s o a c;rcases t.live s _ h4 with⟨K,N⟩|⟨p,ob,P,L,R,h9⟩
  ·exact .inl ⟨by show φ (bu S n b)=_;rw[cM a];exact K,by rw[kM]at N;exact N⟩
  ·refine .inr ⟨p,ob,by show φ (bu S n b)=_;rw[cM a];exact P,?_,R,?_⟩
   ·rw[nI]at L;by_cases ho:o.own=true
    ·rw[AO.bH ho];unfold mL;dsimp only;rw[if_pos (.inl ⟨b,s,o,p,a,c,ho,P,rfl⟩)]
    ·rw[lZ (λhg=>?_),R]
     ·cases o<;>first|(exact absurd rfl ho;done)|rfl
     ·have:=hg.base t j;rw[this]at L;cases o<;>first|(exact absurd rfl ho;done)|cases L
   ·have:=(OR.pull (χ:=φ) (r:=bu S n)).1 h9;exact OR.da (φ:=φ.pull (bu S n)) (ψ:=⟨λb=>φ (bu S n b),φ.z,φ.z,λb=>φ.s (bu S n b)⟩) ⟨λ_ _ h=>h,λ_ h=>h⟩ this
 ·have c:=get e;have A:=get V;obtain⟨s,a⟩:=f c;obtain⟨v,w⟩:=f A;have d:φ (bu S n b)=some p:=d;have k:φ (bu S n u)=some y:=k;rw[cM a]at d;rw[cM w]at k;have:=t.inj s v _ _ p y (j.2.2 b s o a c).2.1 (j.2.2 u v E w A).2.1 (by rw[iW];exact ho) (by rw[iW];exact F) d k C;subst this;exact mK j.1 a w
 ·obtain⟨c,_⟩:=JH e;exact⟨T _ _ c,c⟩
 ·have c:=get e;obtain⟨s,a⟩:=f c;have d:φ (bu S n b)=some p:=d;rw[cM a]at d;exact(t.frz q G).2 s _ p (j.2.2 b s o a c).2.1 (by rw[iW];exact ho) d
def fF(S:List Nat)(n m:Nat)(H H' H2:AH):Prop:=∀b o,H2.get b=some o->(∃c a,c<m/\b=bu S n c/\H'.get c=some a/\a.own=true/\ltO m a=true/\o=cP (bu S n) a)∨((b<n∨n+(m-S.length)<=b)/\H.get b=some o/\(b∈S->o.own=false))
open Classical in
def phA (φ ψ:Ph) (S:List Nat) (n m:Nat):Ph:=⟨λb=>if h:∃c,c<m/\bu S n c=b then ψ h.choose else if b<n then φ b else none,λq=>φ.z q∨ψ.z q,φ.y,λb=>if h:∃c,c<m/\bu S n c=b then ψ.s h.choose else φ.s b⟩
theorem CX(b:iX H n S O){c d:Nat}(h:bu S n c=bu S n d):c=d:=by
 have lt:∀{i s},S[i]?=some s->s<n:=λ{i s} f=>by
  obtain⟨_,_,h,_⟩:=b.at f;exact h
 cases a:S[c]? with
 |some s=>
  cases hd:S[d]? with
  |some t=>
   rw[cM a,cM hd]at h;subst h;exact mK b.1 a hd
  |none=>
   rw[cM a,gG (q2b.1 hd)]at h;have:=lt a;omega
 |none=>
  have e:=q2b.1 a;cases hd:S[d]? with
  |some t=>
   rw[cM hd,gG e]at h;have:=lt hd;omega
  |none=>
   have j:=q2b.1 hd;rw[gG e,gG j]at h;omega
theorem jq(a:iX H n S O){c:Nat}(b:c<m):phA φ ψ S n m (bu S n c)=ψ c:=by
 have h:∃d,d<m/\bu S n d=bu S n c:=⟨c,b,rfl⟩;show(if h:∃d,d<m/\bu S n d=bu S n c then ψ h.choose else _)=_;rw[dif_pos h,CX a h.choose_spec.2]
theorem AM(a:iX H n S O){c:Nat}(b:c<m):(phA φ ψ S n m).s (bu S n c)=ψ.s c:=by
 have h:∃d,d<m/\bu S n d=bu S n c:=⟨c,b,rfl⟩;show(if h:∃d,d<m/\bu S n d=bu S n c then ψ.s h.choose else _)=_;rw[dif_pos h,CX a h.choose_spec.2]
theorem tF(f:iX H n S O){b:Nat}(a:b<n∨n+(m-S.length)<=b)(c:b∉S):(phA φ ψ S n m).s b=φ.s b:=by
 have h:¬∃d,d<m/\bu S n d=b:=λ⟨d,i,e⟩=>by
  cases hd:S[d]? with
  |some s=>rw[cM hd]at e;subst e;exact c (q0j hd)
  |none=>
   have:=q2b.1 hd;rw[gG this]at e;rcases a with a|a<;>omega
 show(if h:∃d,d<m/\bu S n d=b then ψ.s h.choose else φ.s b)=_;rw[dif_neg h]
theorem GW{b:Nat}(a:b<n)(c:b∉S):phA φ ψ S n m b=φ b:=by
 have h:¬∃d,d<m/\bu S n d=b:=λ⟨d,_,e⟩=>by
  cases hd:S[d]? with
  |some s=>rw[cM hd]at e;subst e;exact c (q0j hd)
  |none=>rw[gG (q2b.1 hd)]at e;omega
 show(if h:∃d,d<m/\bu S n d=b then ψ h.choose else _)=_;rw[dif_neg h,if_pos a]
theorem CY(f:HR φ H n h0 hp)(i:iX H n S O){b:Nat}(a:b<n∨n+(m-S.length)<=b)(c:b∉S):phA φ ψ S n m b=φ b:=by
 rcases a with a|a
 ·exact GW a c
 ·have h:¬∃d,d<m/\bu S n d=b:=λ⟨d,j,e⟩=>by
   cases hd:S[d]? with
   |some s=>rw[cM hd]at e;subst e;exact c (q0j hd)
   |none=>
    have:=q2b.1 hd;rw[gG this]at e;omega
  show(if h:∃d,d<m/\bu S n d=b then ψ h.choose else if b<n then φ b else none)=_;rw[dif_neg h,if_neg (by omega)];cases e:φ b with
  |none=>rfl
  |some p=>have:=(f.dom b p e).1;omega
theorem Mv(j:HR φ H n h0 hp)(k:iX H n S O)(o:S.length<=m)(d:PLe ⟨λb=>φ (bu S n b),φ.z,φ.z,λb=>φ.s (bu S n b)⟩ ψ):PLe φ (phA φ ψ S n m):=by
 refine⟨λb p e=>?_,λ_ h=> .inl h,λ_ h=>h⟩;have hb:=(j.dom b p e).1;by_cases f:b∈S
 ·obtain⟨i,l,rfl⟩:=q1q.1 f;have a:S[i]?=some S[i]:=Y0 l;have:=jq (φ:=φ) (ψ:=ψ) (m:=m) k (c:=i) (by omega);rw[cM a]at this;rw[this];exact d.b i p (by show φ (bu S n i)=_;rw[cM a];exact e)
 ·rw[GW hb f];exact e
theorem HR.after(J:HR φ H n h0 hp)(t:iX H n S O)(hm:S.length<=m)(Z:PLe ⟨λb=>φ (bu S n b),φ.z,φ.z,λb=>φ.s (bu S n b)⟩ ψ)(L:HR ψ H' n' (mL φ S O hp) g)(ha:fF S n m H H' H2):HR (phA φ ψ S n m) H2 (n+(m-S.length)) h0 g:=by
 have hple:=Mv (m:=m) J t hm Z
 have pull:∀b p,b<m->ψ b=some p->(phA φ ψ S n m).pull (bu S n) b=some p:=λb p M e=>by
  show phA φ ψ S n m (bu S n b)=_;rw[jq t M];exact e
 have hn0:∀B,(mL φ S O hp).f B=none->h0.f B=none:=λB e=>by
  rcases JI e with h|h
  ·exact h.base J t
  ·cases q:h0.f B with
   |none=>rfl
   |some o=>have:=(J.base B o q).2;rw[h]at this;cases this
 have old:∀{b o p},(b<n∨n+(m-S.length)<=b)->H.get b=some o->(b∈S->o.own=false)->φ b=some p->∃F,h0.f p.B=o.under F/\hp.f p.B=some F/\¬CW φ S O p.B/\OR φ p o F:=λ{b o p} M e hS a=>by
  obtain⟨F,j,A,h3⟩:=J.of e a;refine⟨F,j,A,λhgn=>?_,h3⟩;by_cases ho:o.own=true
  ·rcases hgn with⟨i,s,T,X,v,w,G,g4,g5⟩|⟨i,s,Q,v,w,G⟩
   ·have:=J.inj s b _ o X p (t.2.2 i s T v w).2.1 e (by rw[iW];exact G) ho g4 a g5;subst this;have:=hS (q0j v);rw[this]at ho;cases ho
   ·exact((J.sep s Q (t.2.2 i s _ v w).2.1).2 _ G).2.1 b o p e ho a rfl
  ·have:=hgn.base J t;rw[this]at j;cases o<;>first|(exact absurd rfl ho;done)|cases j
 have C:∀{b o},(b<n∨n+(m-S.length)<=b)->H.get b=some o->(b∈S->o.own=false)->∀p,phA φ ψ S n m b=some p->o.own=true∨φ b≠none->φ b=some p:=λ{b o} M e hS p a u=>by
  by_cases V:b∈S
  ·have hf:=hS V;rcases u with u|u
   ·rw[hf]at u;cases u
   ·cases hφ:φ b with
    |none=>exact absurd hφ u
    |some q=>
     have:=hple.b b q hφ;rw[a]at this;rw[this]
  ·rw[CY J t M V]at a;exact a
 have oldS:∀{b Q B},H.get b=some (.sep Q)->b∉S->φ.s b B->∃F,hp.f B=some F/\(mL φ S O hp).f B=some F:=λ{b Q B} e hS U=>by
  obtain⟨P,D⟩:=J.sep b Q e;obtain⟨F,j⟩:=Q.ex _ _ _ B P U;obtain⟨_,w,_,g4⟩:=D B U;refine⟨F,j,?_⟩;rw[lZ (λhgn=>?_)]
  ·exact j
  ·rcases hgn with⟨i,s,T,X,I,N,f3,f4,f5⟩|⟨i,s,Q',I,N,f3⟩
   ·exact w s _ X (t.2.2 i s T I N).2.1 (by rw[iW];exact f3) f4 f5
   ·exact g4 s Q' (t.2.2 i s _ I N).2.1 (λq=>hS (by rw[<-q];exact q0j I)) f3
 have sepS:∀{b:Nat} {Q:HP},(b∈S->(AO.sep Q).own=false)->b∉S:=λh q=>by cases h q
 refine⟨λb p e=>?_,λb o e=>?_,λb b' o T p X e e' ho ho' a hp2 U=>?_,λb o e=>?_,Y7 J.size L.size,λq u=>?_,λb Q e=>?_⟩;rotate_left 5
 ·rcases ha b _ e with⟨c,T,W,rfl,j,A,h3,K⟩|⟨M,j,A⟩
  ·have K:=mJ K.symm;subst K;obtain⟨P,D⟩:=L.sep c Q j;rw[AM t W];refine⟨Q.mono _ _ _ _ (λq u=>Or.inr u) P,λB U=>?_⟩;obtain⟨v,w,G,g4⟩:=D B U;refine⟨⟨v.1,hn0 B v.2⟩,λb' T X e1 e2 R=>?_,λq u=>?_,λb' Q' e1 e2 R=>?_⟩
   ·rcases ha b' T e1 with⟨d,x,hd,rfl,I,N,f3,rfl⟩|⟨E,I,N⟩
    ·rw[jq t hd]at R;exact w d x X I N R
    ·intro q;obtain⟨F,j1,j2,j3,_⟩:=old E I N (C E I N X R (.inl e2));rw[<-q,lZ j3,j2]at v;cases v.2
   ·rcases u with u|u
    ·exact G q (Z.z q u)
    ·exact G q u
   ·rcases ha b' _ e1 with⟨d,x,hd,rfl,I,N,f3,f4⟩|⟨E,I,N⟩
    ·have f4:=mJ f4.symm;subst f4;rw[AM t hd]at R;exact g4 d Q' I (λq=>e2 (by rw[q])) R
    ·have hS':=sepS N;rw[tF t E hS']at R;obtain⟨F,_,j2⟩:=oldS I hS' R;rw[j2]at v;cases v.2
  ·have hS:=sepS A;obtain⟨P,D⟩:=J.sep b Q j;rw[tF t M hS]
   have keepB:∀B,φ.s b B->g.f B=hp.f B:=λB U=>by
    obtain⟨F,j1,j2⟩:=oldS j hS U;rw[j1];exact(L.base _ _ j2).2
   refine⟨Q.mono _ _ _ _ (λq u=>Or.inl u) (Q.loc _ _ hp _ (show hp.n<=g.n from L.size) keepB P),λB U=>?_⟩;obtain⟨v,w,G,g4⟩:=D B U;obtain⟨F,j1,j2⟩:=oldS j hS U;have hsz:hp.n<=g.n:=L.size;refine⟨⟨q1a v.1 hsz,v.2⟩,λb' T X e1 e2 R=>?_,λq u=>?_,λb' Q' e1 e2 R=>?_⟩
   ·rcases ha b' T e1 with⟨d,x,hd,rfl,I,N,f3,rfl⟩|⟨E,I,N⟩
    ·rw[jq t hd]at R;intro q;obtain⟨ob',f4,_⟩:=L.of I R;rw[AO.bH N,q,j2]at f4;cases f4
    ·exact w b' T X I e2 (C E I N X R (.inl e2))
   ·rcases u with u|u
    ·exact G q u
    ·intro q2;rcases(L.frz q u).1.2 with k|k
     ·exact G q (Z.y q k) q2
     ·rw[q2,j2]at k;cases k
   ·rcases ha b' _ e1 with⟨d,x,hd,rfl,I,N,f3,f4⟩|⟨E,I,N⟩
    ·have f4:=mJ f4.symm;subst f4;rw[AM t hd]at R;have:=((L.sep d Q' I).2 B R).1.2;rw[j2]at this;cases this
    ·rw[tF t E (sepS N)]at R;exact g4 b' Q' I e2 R
 ·have e:(if h:∃c,c<m/\bu S n c=b then ψ h.choose else if b<n then φ b else none)=some p:=e;split at e
  ·rename_i h;obtain⟨j,A⟩:=h.choose_spec;refine⟨?_,(L.dom _ _ e).2⟩;generalize h.choose=c at j A;cases W:S[c]? with
   |some s=>rw[cM W]at A;obtain⟨_,_,h3,_⟩:=t.at W;omega
   |none=>
    have:=q2b.1 W;rw[gG this]at A;omega
  ·split at e
   ·have:=J.dom b p e;have hsz:hp.n<=g.n:=L.size;omega
   ·cases e
 ·rcases ha b o e with⟨c,T,W,rfl,j,A,h3,rfl⟩|⟨M,j,A⟩
  ·rcases L.live c T j with⟨K,h5⟩|⟨p,F,K,h5,h6,h7⟩
   ·exact .inl ⟨by rw[jq t W];exact K,by rw[kM];exact h5⟩
   ·refine .inr ⟨p,F,by rw[jq t W];exact K,?_,h6,?_⟩
    ·rw[nI,AO.bH A];rw[AO.bH A]at h5;exact hn0 _ h5
    ·exact(OR.pull (χ:=phA φ ψ S n m)).2 (h7.below (m:=m) pull (λ_ h=> .inr h) h3)
  ·rcases J.live b o j with⟨h3,K⟩|⟨p,F,h3,_⟩
   ·by_cases V:b∈S
    ·obtain⟨i,hi,rfl⟩:=q1q.1 V;obtain⟨T,v,_,w,G⟩:=t.at (Y0 hi);rw[j]at w;injection w with w;rcases G with G|G
     ·have q:=A V;rw[w]at K q;rw[kM]at K;rw[iW]at q;cases T with
      |sep Q=>cases q
      |cells l z=>rw[show(AO.cells l z).free=(AO.cells l z).void from rfl,G]at K;cases K
      |ro l=>rw[show(AO.ro l).free=(AO.ro l).void from rfl,G]at K;cases K
      |map es=>cases K
      |mp _ _ _=>cases K
      |iter _ _ _=>cases K
     ·have:=A V;rw[w,iW,G]at this;cases this
    ·exact .inl ⟨by rw[CY J t M V];exact h3,K⟩
   ·obtain⟨F,K,h5,h6,h7⟩:=old M j A h3;exact .inr ⟨p,F,hple.b b p h3,K,(L.base _ _ (by rw[lZ h6];exact h5)).2,h7.mono hple⟩
 ·rcases ha b o e with⟨c,x,W,rfl,j,A,h3,rfl⟩|⟨M,j,A⟩<;>rcases ha b' T e' with⟨d,y,hd,rfl,P,D,k3,rfl⟩|⟨E,P,D⟩
  ·rw[jq t W]at a;rw[jq t hd]at hp2;rw[L.inj c d x y p X j P A D a hp2 U]
  ·exfalso;rw[jq t W]at a;have hp2':=C E P D X hp2 (.inl ho');obtain⟨F,v,w,G,_⟩:=old E P D hp2';obtain⟨ob',g4,_⟩:=L.of j a;rw[AO.bH A,U,lZ G,w]at g4;cases g4
  ·exfalso;rw[jq t hd]at hp2;have Y:=C M j A p a (.inl ho);obtain⟨F,v,w,G,_⟩:=old M j A Y;obtain⟨ob',g4,_⟩:=L.of P hp2;rw[AO.bH D,<-U,lZ G,w]at g4;cases g4
  ·exact J.inj b b' o T p X j P ho ho' (C M j A p a (.inl ho)) (C E P D X hp2 (.inl ho')) U
 ·obtain⟨_,j⟩:=J.base b o e;have A:¬CW φ S O b:=λhgn=>by rw[hgn.base J t]at e;cases e
  exact L.base b o (by rw[lZ A];exact j)
 ·rcases u with u|u
  ·obtain⟨⟨j,A⟩,h3⟩:=J.frz q u;have hψ:ψ.z q:=Z.z q u;obtain⟨⟨P,D⟩,k3⟩:=L.frz q hψ;refine⟨⟨FzR.mono (φ:=ψ) (ψ:=phA φ ψ S n m) (λ_ h=>Or.inr h) P,A⟩,λb o p e ho a=>?_⟩;rcases ha b o e with⟨c,x,W,rfl,v,w,G,rfl⟩|⟨M,v,w⟩
   ·rw[jq t W]at a;exact k3 c x p v w a
   ·exact h3 b o p v ho (C M v w p a (.inl ho))
  ·obtain⟨⟨P,D⟩,k3⟩:=L.frz q u;refine⟨⟨FzR.mono (φ:=ψ) (ψ:=phA φ ψ S n m) (λ_ h=>Or.inr h) P,?_⟩,λb o p e ho a=>?_⟩
   ·rcases D with D|D
    ·exact(J.frz q (Z.y q D)).1.2
    ·exact .inr (hn0 _ D)
   ·rcases ha b o e with⟨c,x,W,rfl,v,w,G,rfl⟩|⟨M,v,w⟩
    ·rw[jq t W]at a;exact k3 c x p v w a
    ·have Y:=C M v w p a (.inl ho);obtain⟨F,j1,j2,j3,_⟩:=old M v w Y;rcases D with D|D
     ·exact(J.frz q (Z.y q D)).2 b o p v ho Y
     ·intro U;rw[<-U,lZ j3,j2]at D;cases D
end
def ki (S:List Nat) (n:Nat) (H:AH):List (Nat×Option AO)->AH
 | []=>H
 |x::l=>(ki S n H l).set (x.2.map (cP (bu S n))) aa (bu S n x.1)
theorem CZ{S:List Nat}{n:Nat}{H:AH}:∀{l:List (Nat×Option AO)} {b:Nat} {o:AO},(ki S n H l).get b=some o->(∃x∈l,∃o',b=bu S n x.1/\x.2=some o'/\o=cP (bu S n) o')∨(H.get b=some o/\∀x∈l,b≠bu S n x.1)
 | [],b,o,h=> .inr ⟨h,λx i=>by cases i⟩
 |x::l,b,o,h=>by
  rcases PM.al aa _ _ b o (show((ki S n H l).set (x.2.map (cP (bu S n))) aa (bu S n x.1)).get b=some o from h)with⟨e,d⟩|⟨e,d⟩
  ·rw[Z7]at d;obtain⟨o',a,c⟩:=d;exact .inl ⟨x,q0b,o',e,a,c.symm⟩
  ·rcases CZ d with⟨y,a,c⟩|⟨a,c⟩
   ·exact .inl ⟨y,Y4 _ a,c⟩
   ·refine .inr ⟨a,λy f=>?_⟩;rcases Z4.1 f with rfl|f
    ·exact e
    ·exact c y f
theorem fF.put{S:List Nat}{n m:Nat}{H H':AH}{l:List (Nat×Option AO)}(A:S.length<=m)(j:l.map (·.1)=List.range m)(h:∀x∈l,∀o,x.2=some o->H'.get x.1=some o/\o.own=true/\ltO m o=true):fF S n m H H' (ki S n H l):=λb o e=>by
 rcases CZ e with⟨x,a,k,d,f,s⟩|⟨a,d⟩
 ·obtain⟨t,u,v⟩:=h x a k f;have:x.1∈List.range m:=j▸q0t.2 ⟨x,a,rfl⟩;exact .inl ⟨x.1,k,q2m.1 this,d,t,u,v,s⟩
 ·have key:∀c,c<m->b≠bu S n c:=λc w=>by
   have:c∈l.map (·.1):=j▸q2m.2 w;obtain⟨x,f,rfl⟩:=q0t.1 this;exact d x f
  refine .inr ⟨?_,a,λy=>?_⟩
  ·by_cases q:b<n
   ·exact .inl q
   ·refine .inr ?_;rcases q3j b (n+(m-S.length))with p|p
    ·exfalso;refine key (S.length+(b-n)) (by omega) ?_;rw[gG (by omega)];omega
    ·exact p
  ·obtain⟨i,z,rfl⟩:=q1q.1 y;exact absurd (cM (n:=n) (Y0 z)).symm (key i (by omega))
theorem fF.same{S:List Nat}{n:Nat}{H H':AH}(h:∀(i s:Nat) o,S[i]?=some s->H.get s=some o->o.own=true->∃o',H'.get i=some o'/\o'.own=true/\ltO S.length o'=true/\o=cP (bu S n) o'):fF S n S.length H H' H:=λb o e=>by
 by_cases c:b∈S
 ·obtain⟨i,a,rfl⟩:=q1q.1 c;by_cases ho:o.own=true
  ·obtain⟨o',d,f,j,k⟩:=h i S[i] o (Y0 a) e ho;exact .inl ⟨i,o',a,(cM (Y0 a)).symm,d,f,j,k⟩
  ·exact .inr ⟨by omega,e,λ_=>by simpa using ho⟩
 ·exact .inr ⟨by omega,e,λh=>absurd h c⟩
theorem dC {f:FuncId} {run:List AV->AH->Nat->PK->Prop} (c:ak f run) {φ:Ph} {H:AH} {n:Nat} {h0 hp:Hp} {S:List Nat} {O:List AO} {args0:List AV} {κ:PK} {K:KH} {d:Array Value} (k:bY Tryz.prog f=true)
 (l:HR φ H n h0 hp) (j:iX H n S O) (a:VRs φ (dY (bu S n) args0) d.toList) (v:cF φ h0 κ K)
 {Q:PK} (h:run args0 (mkH (bM O 0)) S.length Q) (x:∀u H' n',Q u H' n'->∃m H2,S.length<=m/\fF S n m H H' H2/\ltV m u=true/\κ (ren (bu S n) u) H2 (n+(m-S.length))):dO Tryz.prog f d hp K:=by
 have key:Wf hp->dO Tryz.prog f d hp K:=λy=>c args0 _ _ _ h ⟨λb=>φ (bu S n b),φ.z,φ.z,λb=>φ.s (bu S n b)⟩ (mL φ S O hp) hp d K (l.small j y) (VRs.da (φ:=φ.pull (bu S n)) (ψ:=⟨λb=>φ (bu S n b),φ.z,φ.z,λb=>φ.s (bu S n b)⟩) ⟨λ_ _ h=>h,λ_ h=>h⟩ _ _ ((VRs.pull (χ:=φ) (r:=bu S n) args0 d.toList).1 a)) λψ u H' n' w g i A B C=>by
  obtain⟨m,H2,q,D,E,o⟩:=x u H' n' C
  exact v _ _ _ _ w g (Mv l j q i) (l.after j q i A D) ((VR.pull (χ:=phA φ ψ S n m) u w).2 (VR.below (ψ:=ψ) (m:=m) (λb p F e=>by
   show phA φ ψ S n m (bu S n b)=_;rw[jq j F];exact e) (λ_ h=>Or.inr h) u w E B)) o
 exact⟨k,λw t=>(key t.wf).2 w t⟩
theorem HR.Sh{φ:Ph}{H:AH}{n:Nat}{h0 h:Hp}(c:HR φ H n h0 h){b:Nat}{o o':AO}(K:H.get b=some o)(d:o.own=true)(i:o'.own=true)(R:o.free=true->o'.free=true)(ho:∀p ob,φ b=some p->h.f p.B=some ob->OR φ p o ob->OR φ p o' ob)(A:o'.Ji=none:=by rfl):HR φ (H.set (some o') aa b) n h0 h:=by
 have back:∀z r,(H.set (some o') aa b).get z=some r->r.own=true->∃u,H.get z=some u/\u.own=true:=λz r T C=>by
  rcases PM.al aa H b z r T with⟨rfl,_⟩|⟨_,a⟩
  ·exact⟨o,K,d⟩
  ·exact⟨r,a,C⟩
 refine⟨c.dom,λx q t=>?_,λx y q U px D t E F j G k e=>?_,c.base,c.size,λq L=>⟨(c.frz q L).1,λy V D E j k=>?_⟩,c.cm (Z3 _) (λx Q t=>?_) (λ_ h=>h) (λ_ h=> .inl h) (λ_ _ _ _ _=>rfl) λM W X Y Z e3=>?_⟩;rotate_left 3
 ·rcases PM.al aa H b x _ t with⟨_,a⟩|⟨_,a⟩
  ·injection a with a;subst a;cases A
  ·exact⟨a,rfl⟩
 ·obtain⟨r,N,a⟩:=back M W Y Z;exact .inl ⟨M,r,X,N,a,e3,rfl⟩
 ·rcases PM.al aa H b x q t with⟨rfl,a⟩|⟨N,a⟩
  ·injection a with a;subst a;rcases c.live x o K with⟨v,w⟩|⟨p,ob,v,w,P,h6⟩
   ·exact .inl ⟨v,R w⟩
   ·exact .inr ⟨p,ob,v,by rw[AO.bH i];rw[AO.bH d]at w;exact w,P,ho p ob v P h6⟩
  ·exact c.live x q a
 ·obtain⟨r,l,s⟩:=back x q t F;obtain⟨u,I,J⟩:=back y U E j;exact c.inj x y r u px D l I s J G k e
 ·obtain⟨r,l,s⟩:=back y V E j;exact(c.frz q L).2 y r D l s k
theorem HR.Mw{φ:Ph}{H:AH}{n:Nat}{h0 h:Hp}(j:HR φ H n h0 h){b:Nat}{l l':List AV}{z:Bool}(k:H.get b=some (.cells l z))(f:l'.length=l.length)(o:∀(i:Nat) (d:AV),l'[i]?=some d->∃a,l[i]?=some a/\∀v,VR φ a v->VR φ d v):HR φ (H.set (some (.cells l' z)) aa b) n h0 h:=
 j.Sh k rfl rfl (λq=>by cases l with
  |nil=>cases l' with
   |nil=>rfl
   |cons _ _=>simp at f
  |cons _ _=>cases q) λp F _ _ ⟨c,t,fz,s,u,w,x,y,A⟩=>⟨c,t,fz,s,by rw[f];exact u,w,x,y,λi d B=>by
   obtain⟨a,C,D⟩:=o i d B;obtain⟨v,E,e⟩:=A i a C;exact⟨v,E,D v e⟩⟩
end Go.Proofs.YtflehenfikoniaaGreat
namespace Go.Proofs.YtflehenfikoniaaGreat
open Go Go.RowKit Go.ChangeShapes Go.WideShapes
section
variable {H:Type} {enc:TypeId×Value->H} {P:Program} {W:World} {held:Bool}
theorem wT {t e:TypeId} {A:List Kd} {d c fuel:Nat} {v:Value} {D:DataW H} {ps:List MemPlace} (ht:P.underlying t=some (.slice e)) (hk:AK P d e=some A) (hc:A.length=c) (N:P.cellsOf e=c) (B:c≠0)
 (hf:DataW.trod enc P W 0 (λ_=>true) held fuel t [v]=some (D,ps)):∃(rows:List (List Value)),(∀r∈rows,jN (TrS enc P W 0 (λ_=>true) held) A r/\r.length=c)/\(rows=[]∨∃E F,D= .slice ((List.range rows.length).map F) E)/\rows.length<=maxLen/\
  ((rows=[]/\∃a C,v= .slice a 0 C/\(a=none->C=0))∨∃b off cap l u fz,v= .slice (some ⟨b,off,none⟩) rows.length cap/\rows.length<=cap/\W.heap[b]?=some (.cells l u fz)/\off+rows.length*c<=l.size/\∀i a,rows.flatten[i]?=some a->l[off+i]?=some a):=by
 rcases Go.Deep.open_slice ht hf with⟨K,L⟩|⟨a,len,cap,m,n,Df,Pf,L,_,hl,hm,O,Q,S⟩
 ·injection K with K;subst K;exact⟨[],(λr h=>by cases h),.inl rfl,Y5 _,.inl ⟨rfl,none,0,rfl,λ_=>rfl⟩⟩
 ·injection L with L;subst L;have T:m=cap:=O;subst T;by_cases G:len=0
  ·subst G;exact⟨[],(λr h=>by cases h),.inl rfl,Y5 _,.inl ⟨rfl,some a,m,rfl,λq=>by cases q⟩⟩
  ·have o:∀i,i<m->∃j,j.length=c/\jN (TrS enc P W 0 (λ_=>true) held) A j/\∀q,q<c->W.cell? ((a.add (i*c)).add q)=j[q]?:=λi f=>by
    obtain⟨j,U,g2⟩:=S i f;rw[N]at U;obtain⟨_,V,M⟩:=World.cells?_some U;exact⟨j,V,wR d e A n j _ hk g2,λq hq=>M q hq⟩
   obtain⟨R,w⟩:=Go.Deep.choose_lt o
   have x:a.spot=none/\∃l u fz,W.heap[a.block]?=some (.cells l u fz):=by
    obtain⟨U,_,V⟩:=w 0 (by omega);have M:=V 0 (by omega);rw[Y0 (by omega)]at M;obtain⟨l,u,fz,Z,g6,_⟩:=Ms M;have X:(a.add (0*c)).add 0=a:=by simp[Addr.add]
    rw[X]at Z g6;exact⟨g6,l,u,fz,Z⟩
   obtain⟨hs,l,u,fz,Y⟩:=x;obtain⟨b,off,sp⟩:=a;simp only at hs Y;subst hs
   have p:∀i q,i<m->q<c->l[off+i*c+q]?=(R i)[q]?:=λi q f hq=>by
    have g:=(w i f).2.2 q hq;have X:((⟨b,off,none⟩:Addr).add (i*c)).add q=(⟨b,off,none⟩:Addr).add (i*c+q):=Go.Deep.add_add _ _ _;rw[X,Y0 (by rw[(w i f).1];exact hq)]at g;have:=PQ Y g;rw[q1r,this,Y0 (by rw[(w i f).1];exact hq)]
   have k:((List.range len).map R).length=len:=by simp
   have s:∀r∈(List.range len).map R,∃i,i<len/\r=R i:=λr y=>by
    simp only[q0t,q2m]at y;obtain⟨i,f,rfl⟩:=y;exact⟨i,f,rfl⟩
   have z:∀r∈(List.range len).map R,r.length=c:=λr y=>by
    obtain⟨i,f,rfl⟩:=s r y;exact(w i (by omega)).1
   have I:=CV _ z;rw[k]at I;refine⟨(List.range len).map R,λr y=>⟨?_,z r y⟩,.inr ?_,?_,.inr ⟨b,off,m,l,u,fz,by rw[k],by rw[k];exact hl,Y,?_,λi a f=>?_⟩⟩
   ·obtain⟨i,f,rfl⟩:=s r y;exact(w i (by omega)).2.1
   ·injection Q with Q _;exact⟨_,Df,by rw[k];exact Q⟩
   ·rw[k];omega
   ·rw[k];have g:=p (len-1) (c-1) (by omega) (by omega);rw[Y0 (by rw[(w _ (by omega)).1];omega)]at g;have:=(q0f.1 g).1;have e1:(len-1)*c+c=len*c:=by rw[<-Nat.succ_mul];congr 1;omega
    omega
   ·have J:=(Y6.1 f).1;rw[I]at J;have K:=Nat.div_add_mod i c;have hq:=q4l i (q3c B);have hj:i/c<len:=(Nat.div_lt_iff_lt_mul (q3c B)).2 J;have ei:i=i/c*c+i%c:=by rw[q2v];omega
    rw[ei,GR _ z _ _ hq]at f;have e2:((List.range len).map R)[i/c]?=some (R (i/c)):=by simp[hj]
    rw[e2,q2d]at f;have:=p (i/c) (i%c) (by omega) hq;rw[f,q1r,<-ei]at this;exact this
def phF(z:Fz->Prop):Ph:=⟨λ_=>none,z,z,λ_ _=>False⟩
def lg(W:World)(z:Fz->Prop):Prop:=∀q,z q->FzR (phF z) (ib W) q
theorem lg.none:lg W λ_=>False:=λ_ h=>h.elim
theorem lg.or{z y:Fz->Prop}(h:lg W z)(k:lg W y):lg W λq=>z q∨y q:=λq a=>a.elim (λa=>FzR.mono (φ:=phF z) (ψ:=phF _) (λ_ h=>Or.inl h) (h q a)) λa=>FzR.mono (φ:=phF y) (ψ:=phF _) (λ_ h=>Or.inr h) (k q a)
theorem HR.frs{z:Fz->Prop}(h:lg W z):HR (phF z) .nil 0 (ib W) (ib W):=
 ⟨λ_ _ h=>(by cases h),λ_ _ h=>(by cases h),λ_ _ _ _ _ _ h=>(by cases h),λb o h=>⟨(q0f.1 h).1,h⟩,Z3 _,λq a=>⟨⟨h q a,.inl a⟩,λ_ _ _ h=>by cases h⟩,λ_ _ h=>by cases h⟩
theorem GX{b off cap m k:Nat}{d:Array Value}{u:TypeId}{fz:Nat×Nat}{L:List AV}{l:List Value}(n:W.heap[b]?=some (.cells d u fz))(f:m<=cap)(p:L.length=m*k)(r:off+m*k<=d.size)(g:L.all mC=true){z:Fz->Prop}(h:z ⟨b,off,L⟩)(t:VRs (phF z) L l)(c:∀i a,l[i]?=some a->d[off+i]?=some a):
 FzR (phF z) (ib W) ⟨b,off,L⟩/\∀χ:Ph,(∀q,z q->χ.z q)->VR χ (.fr m k L) (.slice (some ⟨b,off,none⟩) m cap):=by
 refine⟨⟨⟨(q0f.1 n).1,g⟩,d,u,fz,n,(show off+L.length<=d.size by omega),λi a e=>?_⟩,λχ j=>?_⟩
 ·obtain⟨v,w,x⟩:=t.at e;exact⟨v,c i v w,x⟩
 ·have:VR χ (.fr m k L) (.slice (some ⟨(⟨b,off,L⟩:Fz).B,(⟨b,off,L⟩:Fz).s+0,.none⟩) m cap):= .fr (q:=⟨b,off,L⟩) (o:=0) (j _ h) f (bC p);exact this
theorem C4{c:Nat}{t e:TypeId}{v:Value}(d:P.underlying t=some (.slice e))(a:Value.okWide P W .any c t v):v.cells.toList=[v]:=by
 rcases uT d a with rfl|⟨b,off,len,cap,f,u,fz,rfl,_⟩<;>rfl
theorem Fj{a:List TypeId}{ds:List (DataW H)}(h:(DataW.weightsEach P a ds).all (·<=reachBytes)=true){j n:Nat}{t e:TypeId}{D:DataW H}(b:a[j]?=some t)(hd:ds[j]?=some D)(c:n=0∨∃E F,D= .slice ((List.range n).map F) E)(d:P.underlying t=some (.slice e))(f:16<=P.bytesOf e):n<=8796093022208:=by
 rcases c with rfl|⟨E,F,rfl⟩
 ·omega
 ·have:=sized_slice h b hd d;rw[Y9,List.length_range]at this;unfold reachBytes at this;have g:n*16<=n*P.bytesOf e:=Nat.mul_le_mul_left n f;have i:n*P.bytesOf e<=(n+E.length)*P.bytesOf e:=q1h _ (q0q _ _);omega
end
end Go.Proofs.YtflehenfikoniaaGreat
namespace Go.Proofs.YtflehenfikoniaaGreat
open Go Go.RowKit
abbrev Pk:=List ((Nat×Nat)×List AV)
def qV(p:Nat×Nat):Value:= .pointer (some ⟨p.1,p.2,none⟩)
def aK(p:Nat×Nat):AV:= .any (qV p)
def vb(p:Nat×Nat)(l:List AV)(h:Hp):Prop:=l.all flat.flat1=true/\∃T c t,h.f p.1=some (.cells c t (0,0))/\l.length<=T/\p.2+T<=c.size/\CR Ph.no c p.2 l
def pkB(a:Pk):List Nat:=a.map λc=>c.1.1
theorem GY{A B:Pk}{p:Nat×Nat}{l:List AV}:(pkB (A++(p,l)::B)).Nodup<->p.1∉pkB (A++B)/\(pkB (A++B)).Nodup:=by
 have h:(pkB (A++(p,l)::B)).Perm (p.1::pkB (A++B)):=(List.perm_middle (l₁:=A) (l₂:=B) (a:=(p,l))).map _;rw[h.nodup_iff,q2s]
def pk(i:Pk):HP where
 P _ S h:=(∀B,S B->∃o,h.f B=some o)/\(pkB i).Nodup/\∀c∈i,S c.1.1/\vb c.1 c.2 h
 loc z S h g _ e hp:=⟨λB a=>by
  obtain⟨o,ho⟩:=hp.1 B a;exact⟨o,(e B a).trans ho⟩,hp.2.1,λc d=>⟨(hp.2.2 c d).1,by
  obtain⟨j,T,k,t,m,q⟩:=(hp.2.2 c d).2;exact⟨j,T,k,t,(e _ (hp.2.2 c d).1).trans m,q⟩⟩⟩
 mono _ _ _ _ _ h:=h
 ex _ _ _ B h a:=h.1 B a
theorem PM.bN{c:Type}{v:Option c}:∀(f:Nat) (t:PM c) (n:Nat),n+1<2^f->(PM.set v f t n).get n=v
 |0,t,n,h=>by simp at h
 |f+1,.nil,0,h=>rfl
 |f+1,.node l u r,0,h=>rfl
 |f+1,.nil,n+1,h=>by
  have a:n/2+1<2^f:=by rw[q3u]at h;omega
  rw[PM.Ct];split
  ·rename_i q;rw[PM.bt,if_pos q];exact PM.bN f .nil (n/2) a
  ·rename_i q;rw[PM.bt,if_neg q];exact PM.bN f .nil (n/2) a
 |f+1,.node l u r,n+1,h=>by
  have a:n/2+1<2^f:=by rw[q3u]at h;omega
  rw[PM.yP];split
  ·rename_i q;rw[PM.bt,if_pos q];exact PM.bN f l (n/2) a
  ·rename_i q;rw[PM.bt,if_neg q];exact PM.bN f r (n/2) a
theorem aD{n:Nat}(h:n<1000000):n+1<2^aa:=by
 have:(1000001:Nat)<2^aa:=by show 1000001<2^40;decide
 omega
section
variable {φ:Ph} {H:AH} {n:Nat} {h0 h:Hp} {b:Nat} {A B:Pk} {p:Nat×Nat} {l l':List AV}
theorem HR.nJ(a:HR φ H n h0 h){Q:HP}(c:H.get b=some (.sep Q)):φ b=none:=by
 rcases a.live b _ c with⟨d,_⟩|⟨q,f,_,_,_,e⟩
 ·exact d
 ·exact e.elim
theorem HR.C5(k:HR φ H n h0 h)(hbn:b<n)(W:H.get b=some (.sep (pk (A++(p,l)::B)))):
 ∃ψ T,PLe φ ψ/\ψ n=some ⟨p.1,p.2,T⟩/\HR ψ ((H.set (some (.sep (pk (A++B)))) aa b).set (some (.cells l true)) aa n) (n+1) h0 h:=by
 obtain⟨⟨s1,s2,Y⟩,s4⟩:=k.sep b _ W;obtain⟨hS,hfl,T,c,t,Z,hc2,hc3,hc4⟩:=Y (p,l) (by simp);obtain⟨⟨k1,k2⟩,k3,k4,k5⟩:=s4 p.1 hS;have P:p.1∉pkB (A++B)/\(pkB (A++B)).Nodup:=GY.1 s2;have R:=k.nJ W
 have hn0:φ n=none:=by
  cases e:φ n with
  |none=>rfl
  |some q=>exact absurd (k.dom n q e).1 (q3g _)
 let ψ:Ph:=⟨λx=>if x=n then some ⟨p.1,p.2,T⟩else φ x,φ.z,φ.y,λx=>if x=b then(λX=>φ.s b X/\X≠p.1)else φ.s x⟩
 have G:PLe φ ψ:=⟨λx q e=>by
  show(if x=n then _ else φ x)=some q;rw[if_neg (λq=>by subst q;rw[hn0]at e;cases e)];exact e,λ_ h=>h,λ_ h=>h⟩
 have C:ψ n=some ⟨p.1,p.2,T⟩:=if_pos rfl
 have j:∀x,x≠n->ψ x=φ x:=λx a=>if_neg a
 have cs:∀x o,((H.set (some (.sep (pk (A++B)))) aa b).set (some (.cells l true)) aa n).get x=some o->(x=n/\o= .cells l true)∨(x≠n/\((x=b/\o= .sep (pk (A++B)))∨(x≠b/\H.get x=some o))):=λx o a=>by
  rcases PM.al aa _ n x o a with⟨i,r⟩|⟨i,r⟩
  ·injection r with r;exact .inl ⟨i,r.symm⟩
  ·rcases PM.al aa H b x o r with⟨w,m⟩|⟨w,m⟩
   ·injection m with m;exact .inr ⟨i,.inl ⟨w,m.symm⟩⟩
   ·exact .inr ⟨i,.inr ⟨w,m⟩⟩
 have old:∀x o q,((H.set (some (.sep (pk (A++B)))) aa b).set (some (.cells l true)) aa n).get x=some o->o.own=true->ψ x=some q->(x=n/\q=⟨p.1,p.2,T⟩)∨(x≠n/\H.get x=some o/\φ x=some q):=λx o q a ho f=>by
  rcases cs x o a with⟨i,_⟩|⟨i,⟨w,_⟩|⟨w,m⟩⟩
  ·subst i;rw[C]at f;injection f with f;exact .inl ⟨rfl,f.symm⟩
  ·subst w;rw[j _ i,R]at f;cases f
  ·rw[j _ i]at f;exact .inr ⟨i,m,f⟩
 refine⟨ψ,T,G,C,⟨λx q a=>?_,λx o a=>?_,λx y o o' q q' a D ho I f hq' e=>?_,k.base,k.size,λq f=>?_,λx Q a=>?_⟩⟩
 ·by_cases S:x=n
  ·subst S;rw[C]at a;injection a with a;subst a;exact⟨q1m _,k1⟩
  ·rw[j _ S]at a;have:=k.dom x q a;exact⟨by omega,this.2⟩
 ·rcases cs x o a with⟨rfl,rfl⟩|⟨i,⟨rfl,rfl⟩|⟨w,m⟩⟩
  ·exact .inr ⟨_,_,C,k2,Z,c,t,(0,0),rfl,hc2,hc3,jf _ _,λ_=>rfl,CR.da (φ:=Ph.no) (ψ:=ψ) ⟨(λ_ _ h=>by cases h),λ_ h=>h.elim⟩ hc4⟩
  ·exact .inl ⟨by rw[j _ i];exact R,rfl⟩
  ·rcases k.live x o m with⟨J,K⟩|⟨q,ob,J,K,U,O⟩
   ·exact .inl ⟨by rw[j _ i];exact J,K⟩
   ·exact .inr ⟨q,ob,by rw[j _ i];exact J,K,U,O.mono G⟩
 ·rcases old x o q a ho f with⟨rfl,rfl⟩|⟨a1,E,F⟩<;>rcases old y o' q' D I hq' with⟨rfl,rfl⟩|⟨b1,b2,b3⟩
  ·rfl
  ·exact absurd e.symm (k3 y o' q' b2 I b3)
  ·exact absurd e (k3 x o q E ho F)
  ·exact k.inj x y o o' q q' E b2 ho I F b3 e
 ·refine⟨⟨FzR.mono (φ:=φ) (ψ:=ψ) G.z (k.frz q f).1.1,(k.frz q f).1.2⟩,λx o px a ho hpx=>?_⟩;rcases old x o px a ho hpx with⟨rfl,rfl⟩|⟨a1,E,F⟩
  ·exact λe=>k4 q f e.symm
  ·exact(k.frz q f).2 x o px E ho F
 ·rcases cs x _ a with⟨_,r⟩|⟨i,⟨rfl,r⟩|⟨w,m⟩⟩
  ·cases r
  ·injection r with r;subst r;have es:ψ.s x=λX=>φ.s x X/\X≠p.1:=if_pos rfl
   rw[es];refine⟨⟨λX L=>s1 X L.1,P.2,λd hd=>?_⟩,λX L=>?_⟩
   ·have V:d∈A++(p,l)::B:=by
     rcases q1e.1 hd with q|q
     ·exact q2c _ q
     ·exact q4f _ (Y4 _ q)
    exact⟨⟨(Y d V).1,λe=>P.1 (e▸List.mem_map_of_mem hd)⟩,(Y d V).2⟩
   ·obtain⟨J,K,U,O⟩:=s4 X L.1;refine⟨J,λy o q D ho f=>?_,U,λy Q' D u M=>?_⟩
    ·rcases old y o q D ho f with⟨rfl,rfl⟩|⟨a1,E,F⟩
     ·exact λe=>L.2 e.symm
     ·exact K y o q E ho F
    ·rcases cs y _ D with⟨_,q2⟩|⟨q1,⟨N,_⟩|⟨N,q4⟩⟩
     ·cases q2
     ·exact u N
     ·have:ψ.s y=φ.s y:=if_neg N;rw[this]at M;exact O y Q' q4 u M
  ·obtain⟨g0,g⟩:=k.sep x Q m;have es:ψ.s x=φ.s x:=if_neg w;rw[es];refine⟨g0,λX L=>?_⟩;obtain⟨J,K,U,O⟩:=g X L;refine⟨J,λy o q D ho f=>?_,U,λy Q' D u M=>?_⟩
   ·rcases old y o q D ho f with⟨rfl,rfl⟩|⟨a1,E,F⟩
    ·exact λ(e:p.1=X)=>k5 x Q m w (by rw[e];exact L)
    ·exact K y o q E ho F
   ·rcases cs y _ D with⟨_,q2⟩|⟨q1,⟨N,_⟩|⟨N,q4⟩⟩
    ·cases q2
    ·subst N;have:ψ.s y=λX=>φ.s y X/\X≠p.1:=if_pos rfl
     rw[this]at M;exact O y _ W u M.1
    ·have:ψ.s y=φ.s y:=if_neg N;rw[this]at M;exact O y Q' q4 u M
theorem HR.oU(i:HR φ H n h0 h){m T:Nat}(hbm:b≠m)(Y:H.get b=some (.sep (pk (A++B))))(I:H.get m=some (.cells l true))(F:φ m=some ⟨p.1,p.2,T⟩)(hl:l.map Go.Proofs.YtflehenfikoniaaGreat.mk=l'.map Go.Proofs.YtflehenfikoniaaGreat.mk)(hf:l'.all flat.flat1=true):
 ∃ψ,SLe φ ψ/\PLe φ ψ/\ψ.f=φ.f/\HR ψ ((H.set none aa m).set (some (.sep (pk (A++(p,l')::B)))) aa b) n h0 h:=by
 obtain⟨⟨s1,s2,Z⟩,s4⟩:=i.sep b _ Y;obtain⟨ob,o1,o2,c,t,fz,rfl,o3,o4,o5,o6,o7⟩:=i.of I F;have o6:=o6 rfl
 subst o6;have L:=i.nJ Y;have hpS:¬φ.s b p.1:=λq=>(s4 p.1 q).2.1 m _ _ I rfl F rfl
 let ψ:Ph:=⟨φ.f,φ.z,φ.y,λx=>if x=b then(λX=>φ.s b X∨X=p.1)else φ.s x⟩
 have cs:∀x o,((H.set none aa m).set (some (.sep (pk (A++(p,l')::B)))) aa b).get x=some o->(x=b/\o= .sep (pk (A++(p,l')::B)))∨(x≠b/\x≠m/\H.get x=some o):=λx o u=>by
  rcases PM.al aa _ b x o u with⟨M,w⟩|⟨M,w⟩
  ·injection w with w;exact .inl ⟨M,w.symm⟩
  ·rcases PM.al aa H m x o w with⟨W,G⟩|⟨W,G⟩
   ·cases G
   ·exact .inr ⟨M,W,G⟩
 have own:∀x o q,((H.set none aa m).set (some (.sep (pk (A++(p,l')::B)))) aa b).get x=some o->o.own=true->φ x=some q->x≠m/\H.get x=some o:=λx o q u ho a=>by
  rcases cs x o u with⟨rfl,_⟩|⟨_,w,W⟩
  ·rw[L]at a;cases a
  ·exact⟨w,W⟩
 have sle:SLe φ ψ:=⟨λ_ _ h=>h,λ_ h=>h⟩;refine⟨ψ,sle,⟨λ_ _ h=>h,λ_ h=>h,λ_ h=>h⟩,rfl,⟨i.dom,λx o u=>?_,λx y o o' q q' u k ho N a O e=>?_,i.base,i.size,λq a=>⟨⟨FzR.mono (φ:=φ) (ψ:=ψ) sle.z (i.frz q a).1.1,(i.frz q a).1.2⟩,λx o px u ho P=>(i.frz q a).2 x o px (own x o px u ho P).2 ho P⟩,λx Q u=>?_⟩⟩
 ·rcases cs x o u with⟨rfl,rfl⟩|⟨_,_,G⟩
  ·exact .inl ⟨L,rfl⟩
  ·rcases i.live x o G with g|⟨q,ob,R,J,S,K⟩
   ·exact .inl g
   ·exact .inr ⟨q,ob,R,J,S,K.da sle⟩
 ·exact i.inj x y o o' q q' (own x o q u ho a).2 (own y o' q' k N O).2 ho N a O e
 ·rcases cs x _ u with⟨rfl,w⟩|⟨M,hxm,G⟩
  ·injection w with w;subst w;have es:ψ.s x=λX=>φ.s x X∨X=p.1:=if_pos rfl
   rw[es];refine⟨⟨λX C=>?_,?_,λd hd=>?_⟩,λX C=>?_⟩
   ·rcases C with C|rfl
    ·exact s1 X C
    ·exact⟨_,o2⟩
   ·refine GY.2 ⟨λq=>?_,s2⟩;obtain⟨d,hd,e⟩:=q0t.1 q;exact hpS (e▸(Z d hd).1)
   ·have D:d=(p,l')∨d∈A++B:=by
     rcases q1e.1 hd with q|q
     ·exact .inr (q2c _ q)
     ·rcases Z4.1 q with q|q
      ·exact .inl q
      ·exact .inr (q4f _ q)
    rcases D with rfl|D
    ·refine⟨.inr rfl,hf,T,c,t,o2,?_,o4,o7.nF hl hf⟩;have:l'.length=l.length:=by have:=congrArg List.length hl;simpa using this.symm
     rw[this];exact o3
    ·exact⟨.inl (Z d D).1,(Z d D).2⟩
   ·rcases C with C|rfl
    ·obtain⟨R,J,S,K⟩:=s4 X C;refine⟨R,λy o q k ho a=>J y o q (own y o q k ho a).2 ho a,S,λy U k j r=>?_⟩;rcases cs y _ k with⟨E,_⟩|⟨E,_,V⟩
     ·exact j E
     ·have:ψ.s y=φ.s y:=if_neg E;rw[this]at r;exact K y U V j r
    ·refine⟨⟨(i.dom m _ F).2,o1⟩,λy o q k ho a e=>?_,λq a e=>(i.frz q a).2 m _ _ I rfl F e.symm,λy U k j r=>?_⟩
     ·obtain⟨a1,a2⟩:=own y o q k ho a;exact a1 (i.inj y m o _ q _ a2 I ho rfl a F e)
     ·rcases cs y _ k with⟨E,_⟩|⟨E,_,V⟩
      ·exact j E
      ·have:ψ.s y=φ.s y:=if_neg E;rw[this]at r;exact((i.sep y U V).2 _ r).2.1 m _ _ I rfl F rfl
  ·obtain⟨g0,g⟩:=i.sep x Q G;have es:ψ.s x=φ.s x:=if_neg M;rw[es];refine⟨g0,λX C=>?_⟩;obtain⟨R,J,S,K⟩:=g X C;refine⟨R,λy o q k ho a=>J y o q (own y o q k ho a).2 ho a,S,λy U k j r=>?_⟩;rcases cs y _ k with⟨rfl,_⟩|⟨E,_,V⟩
   ·have:ψ.s y=λX=>φ.s y X∨X=p.1:=if_pos rfl
    rw[this]at r;rcases r with r|rfl
    ·exact K y _ Y j r
    ·exact J m _ _ I rfl F rfl
   ·have:ψ.s y=φ.s y:=if_neg E;rw[this]at r;exact K y U V j r
theorem HR.uB(d:HR φ H n h0 h){Q Q':HP}(u:H.get b=some (.sep Q))(a:∀z S h,Q.P z S h->Q'.P z S h):HR φ (H.set (some (.sep Q')) aa b) n h0 h:=by
 have cs:∀x o,(H.set (some (.sep Q')) aa b).get x=some o->(x=b/\o= .sep Q')∨(x≠b/\H.get x=some o):=λx o c=>by
  rcases PM.al aa H b x o c with⟨G,f⟩|f
  ·injection f with f;exact .inl ⟨G,f.symm⟩
  ·exact .inr f
 have i:=d.nJ u
 have own:∀x o q,(H.set (some (.sep Q')) aa b).get x=some o->φ x=some q->H.get x=some o:=λx o q c a=>by
  rcases cs x o c with⟨rfl,_⟩|⟨_,I⟩
  ·rw[i]at a;cases a
  ·exact I
 refine⟨d.dom,λx o c=>?_,λx y o C q D c j ho w a k e=>d.inj x y o C q D (own x o q c a) (own y C D j k) ho w a k e,d.base,d.size,λq a=>⟨d.frz q a|>.1,λx o px c ho m=>(d.frz q a).2 x o px (own x o px c m) ho m⟩,λx E c=>?_⟩
 ·rcases cs x o c with⟨rfl,rfl⟩|⟨_,r⟩
  ·exact .inl ⟨i,rfl⟩
  ·exact d.live x o r
 ·have:∃t,H.get x=some (.sep t)/\∀z S h,t.P z S h->E.P z S h:=by
   rcases cs x _ c with⟨rfl,f⟩|⟨_,r⟩
   ·injection f with f;subst f;exact⟨Q,u,a⟩
   ·exact⟨E,r,λ_ _ _ h=>h⟩
  obtain⟨t,J,K⟩:=this;obtain⟨L,g⟩:=d.sep x t J;refine⟨K _ _ _ L,λX M=>?_⟩;obtain⟨N,O,R,F⟩:=g X M;refine⟨N,λy o q j ho a=>O y o q (own y o q j a) ho a,R,λy T j s=>?_⟩;rcases cs y _ j with⟨rfl,_⟩|⟨_,r⟩
  ·exact F y Q u s
  ·exact F y T r s
theorem PT{a d:Pk}(e:∀c∈d,c∈a)(hd:(pkB a).Nodup->(pkB d).Nodup):∀z S h,(pk a).P z S h->(pk d).P z S h:=λz S h ⟨f,g,i⟩=>⟨f,hd g,λc j=>i c (e c j)⟩
theorem Te{a d:Pk}(e:d.Sublist a):∀z S h,(pk a).P z S h->(pk d).P z S h:=PT (λc f=>e.subset f) λh=>(e.map _).nodup h
theorem HR.VO(i:HR φ H n h0 h):∃ψ,PLe φ ψ/\HR ψ (H.set (some (.sep (pk []))) aa n) (n+1) h0 h:=by
 have cs:∀x o,(H.set (some (.sep (pk []))) aa n).get x=some o->(x=n/\o= .sep (pk []))∨(x≠n/\H.get x=some o):=λx o a=>by
  rcases PM.al aa H n x o a with⟨C,j⟩|j
  ·injection j with j;exact .inl ⟨C,j.symm⟩
  ·exact .inr j
 have k:φ n=none:=by
  cases e:φ n with
  |none=>rfl
  |some q=>exact absurd (i.dom n q e).1 (q3g _)
 let ψ:Ph:=⟨φ.f,φ.z,φ.y,λx=>if x=n then(λ_=>False)else φ.s x⟩
 have own:∀x o q,(H.set (some (.sep (pk []))) aa n).get x=some o->φ x=some q->H.get x=some o:=λx o q a d=>by
  rcases cs x o a with⟨rfl,_⟩|⟨_,N⟩
  ·rw[k]at d;cases d
  ·exact N
 have sle:SLe φ ψ:=⟨λ_ _ h=>h,λ_ h=>h⟩;refine⟨ψ,⟨λ_ _ h=>h,λ_ h=>h,λ_ h=>h⟩,⟨λx q a=>⟨by have:=(i.dom x q a).1;omega,(i.dom x q a).2⟩,λx o a=>?_,λx y o L q M a m ho D d r e=>i.inj x y o L q M (own x o q a d) (own y L M m r) ho D d r e,i.base,i.size,λq d=>⟨⟨FzR.mono (φ:=φ) (ψ:=ψ) sle.z (i.frz q d).1.1,(i.frz q d).1.2⟩,λx o px a ho t=>(i.frz q d).2 x o px (own x o px a t) ho t⟩,λx O a=>?_⟩⟩
 ·rcases cs x o a with⟨rfl,rfl⟩|⟨_,E⟩
  ·exact .inl ⟨k,rfl⟩
  ·rcases i.live x o E with g|⟨q,P,F,G,I,J⟩
   ·exact .inl g
   ·exact .inr ⟨q,P,F,G,I,J.da sle⟩
 ·rcases cs x _ a with⟨rfl,j⟩|⟨C,E⟩
  ·injection j with j;subst j;have es:ψ.s x=λ_=>False:=if_pos rfl
   rw[es];exact⟨⟨(λX u=>u.elim),List.nodup_nil,λc R=>by cases R⟩,λX u=>u.elim⟩
  ·obtain⟨S,g⟩:=i.sep x O E;have es:ψ.s x=φ.s x:=if_neg C;rw[es];refine⟨S,λX u=>?_⟩;obtain⟨F,G,I,J⟩:=g X u;refine⟨F,λy o q m ho d=>G y o q (own y o q m d) ho d,I,λy T m K w=>?_⟩;rcases cs y _ m with⟨rfl,_⟩|⟨U,V⟩
   ·have:ψ.s y=λ_=>False:=if_pos rfl
    rw[this]at w;exact w
   ·have:ψ.s y=φ.s y:=if_neg U;rw[this]at w;exact J y T V K w
end
theorem VR.oV{φ:Ph}{b:Nat}{p:Nat×Nat}{T:Nat}(h:φ b=some ⟨p.1,p.2,T⟩):VR φ (.ptr b 0) (qV p):= .ptr (p:=⟨p.1,p.2,T⟩) (o:=0) h
def qy(H:AH)(n b:Nat)(A B:Pk)(p:Nat×Nat)(κ:PK):PK:=λv a c=>∃l2 l' Q,c=n+1/\(∀x o,x≠n->x≠b->H.get x=some o->a.get x=some o)/\a.get b=some (.sep (pk (A++B)))/\a.get n=some (.cells l2 true)/\l2.map mk=l'.map mk/\l'.all flat.flat1=true/\(∀z S h,(pk (A++(p,l')::B)).P z S h->Q.P z S h)/\κ v (H.set (some (.sep Q)) aa b) (n+1)
def opn (H:AH) (n b:Nat) (A B:Pk) (l:List AV):AH:=(H.set (some (.sep (pk (A++B)))) aa b).set (some (.cells l true)) aa n
section
variable {H:AH} {n b:Nat} {A B:Pk} {p:Nat×Nat} {κ:PK} {v:AV} {l l2 l':List AV} {Q:HP}
theorem qz(hn:n<1000000):(opn H n b A B l).get n=some (.cells l true):=PM.bN aa _ _ (aD hn)
theorem zm(a:b<n)(hn:n<1000000):(opn H n b A B l).get b=some (.sep (pk (A++B))):=PM.aC aa _ _ _ (aD hn) (by omega) (PM.bN aa _ _ (aD (by omega)))
theorem uC(a:b<n)(hn:n<1000000){x:Nat}{o:AO}(c:x≠n)(d:x≠b)(h:H.get x=some o):(opn H n b A B l).get x=some o:=PM.aC aa _ _ _ (aD hn) c (PM.aC aa _ _ _ (aD (by omega)) d h)
theorem qy.same(a:b<n)(hn:n<1000000)(d:l.map mk=l'.map mk)(e:l'.all flat.flat1=true)(f:∀z S h,(pk (A++(p,l')::B)).P z S h->Q.P z S h)(c:κ v (H.set (some (.sep Q)) aa b) (n+1)):qy H n b A B p κ v (opn H n b A B l) (n+1):=
 ⟨l,l',Q,rfl,λx o g i j=>uC a hn g i j,zm a hn,qz hn,d,e,f,c⟩
theorem qy.set(a:b<n)(hn:n<1000000)(e:l2.map mk=l'.map mk)(f:l'.all flat.flat1=true)(g:∀z S h,(pk (A++(p,l')::B)).P z S h->Q.P z S h)(c:κ v (H.set (some (.sep Q)) aa b) (n+1)):qy H n b A B p κ v ((opn H n b A B l).set (some (.cells l2 true)) aa n) (n+1):=
 ⟨l2,l',Q,rfl,λx o d i j=>PM.aC aa _ _ _ (aD hn) d (uC a hn d i j),PM.aC aa _ _ _ (aD hn) (by omega) (zm a hn),PM.bN aa _ _ (aD hn),e,f,g,c⟩
end
theorem ak.C6 {f:FuncId} {run:List AV->AH->Nat->PK->Prop} (i:ak f run) {φ:Ph} {H:AH} {n:Nat} {h0 s:Hp} {t:Array Value} {κ:PK} {K:KH} {b:Nat} {A B:Pk} {p:Nat×Nat} {l:List AV} {rest:List AV}
 (L:HR φ H n h0 s) (w:b<n) (hn:n<1000000) (y:H.get n=none) (M:H.get b=some (.sep (pk (A++(p,l)::B)))) (d:VRs φ (aK p::rest) t.toList) (N:cF φ h0 κ K)
 (O:run (.ptr n 0::rest) (opn H n b A B l) (n+1) (qy H n b A B p κ)):dO Tryz.prog f t s K:=by
 obtain⟨P,T,j,k,z⟩:=L.C5 w M;obtain⟨R,S,U,C,V⟩:=d.cons_inv;have C:R=qV p:=C;subst C;refine i _ _ _ _ O P h0 s t K z (by rw[U];exact .cons (VR.oV k) (VRs.mono j _ _ V)) λχ v H2 n2 u g a W X ⟨l2,l',Q,Y,q,D,E,Z,hf,hQ,F⟩=>?_
 subst Y;obtain⟨ω,_,c,_,G⟩:=W.oU (m:=n) (by omega) D E (a.b _ _ k) Z hf;have I:=G.uB (Q':=Q) (PM.bN aa _ _ (aD (by omega))) hQ;refine N ω v _ (n+1) u g ((j.trans a).trans c) (I.less λx o hx=>?_) (VR.mono c _ _ X) F;rcases PM.al aa H b x o hx with⟨rfl,r⟩|⟨J,r⟩
 ·rw[PM.bN aa _ _ (aD (by omega))];exact r
 ·by_cases e:x=n
  ·subst e;rw[y]at r;cases r
  ·exact PM.aC aa _ _ _ (aD (by omega)) J (PM.aC aa _ _ _ (aD (by omega)) J (PM.aC aa _ _ _ (aD hn) e (q x o e J r)))
def bitsOf(u:Nat):Nat->List Nat
 |0=> []
 |m+1=>(u/2^m)%2::bitsOf u m
def eH(B:List Nat):Prop:=∀b∈B,b<2
theorem aO(u:Nat):∀m,(bitsOf u m).length=m
 |0=>rfl
 |m+1=>by simp[bitsOf,aO u m]
theorem dK(u:Nat):∀m,eH (bitsOf u m)
 |0=>λb h=>by cases h
 |m+1=>λb h=>by
  rcases Z4.1 h with rfl|h
  ·exact q4l _ (by decide)
  ·exact dK u m b h
theorem eH.nil:eH []:=λb h=>by cases h
theorem eH.app{A B:List Nat}(h:eH A)(k:eH B):eH (A++B):=λb a=>(q1e.1 a).elim (h b) (k b)
theorem eH.one{b:Nat}(h:b<2):eH [b]:=λc a=>by simp at a;omega
def cQ(a:Nat)(B:List Nat):Nat:=B.foldl (λu b=>2*u+b) a
theorem jr(a u:Nat):∀m,cQ a (bitsOf u m)=a*2^m+u%2^m
 |0=>by simp[cQ,bitsOf,Nat.mod_one]
 |m+1=>by
  show cQ (2*a+u/2^m%2) (bitsOf u m)=_;rw[jr _ u m,Nat.mod_pow_succ,q3u,q2g];have b:2*a*2^m=a*(2^m*2):=by rw[q2v 2 a,Nat.mul_assoc,q2v 2]
  have c:u/2^m%2*2^m=2^m*(u/2^m%2):=q2v _ _;omega
theorem sh:∀(B:List Nat) (a:Nat),cQ a B=a*2^B.length+cQ 0 B
 | [],a=>by simp[cQ]
 |b::B,a=>by
  show cQ (2*a+b) B=a*2^(B.length+1)+cQ (2*0+b) B;rw[sh B (2*a+b),sh B (2*0+b),q3u,q2g];have c:2*a*2^B.length=a*(2^B.length*2):=by rw[q2v 2 a,Nat.mul_assoc,q2v 2]
  simp only[Nat.mul_zero,q0x];omega
theorem vc:∀(B:List Nat),eH B->cQ 0 B<2^B.length
 | [],_=>by simp[cQ]
 |b::B,h=>by
  have d:=vc B λc a=>h c (Y4 _ a)
  have hb:=h b q0b;show cQ (2*0+b) B<_;rw[sh,Z9,q3u];have:(2*0+b)*2^B.length<=1*2^B.length:=q1h _ (by omega);omega
theorem wU(A B:List Nat)(a:Nat):cQ a (A++B)=cQ (cQ a A) B:=by simp[cQ,q3k]
theorem GZ:∀(B:List Nat) (a j:Nat),eH B->∀h:j<B.length,cQ a B/2^(B.length-1-j)%2=B[j]
 |b::B,a,0,d,_=>by
  show cQ (2*a+b) B/2^(B.length+1-1-0)%2=b;have e:=vc B λc f=>d c (Y4 _ f)
  have:=d b q0b;rw[sh,Nat.add_sub_cancel,q3i,q2v,Nat.mul_add_div (Nat.two_pow_pos _),q3d e];omega
 |b::B,a,j+1,d,h=>by
  have g:j<B.length:=by simpa using h
  have:=GZ B (2*a+b) j (λc f=>d c (Y4 _ f)) g;show cQ (2*a+b) B/2^(B.length+1-1-(j+1))%2=B[j];rw[show B.length+1-1-(j+1)=B.length-1-j from by omega];exact this
def C7(C:List Nat):List Nat:=C++List.replicate (8-C.length) 0
def l5(C:List Nat):Nat:=cQ 0 (C7 C)
def pack(B:List Nat):List Nat:=(List.range ((B.length+7)/8)).map λi=>l5 ((B.drop (8*i)).take 8)
def sj(s:List Nat)(i:Nat):Nat:=(s[i/8]?).getD 0/2^(7-i%8)%2
theorem uD{C:List Nat}(h:C.length<=8):(C7 C).length=8:=by simp[C7];omega
theorem zn{C:List Nat}(h:eH C):eH (C7 C):=h.app λb a=>by
 have:=List.eq_of_mem_replicate a;omega
theorem C8{C:List Nat}(h:eH C)(a:C.length<=8):l5 C<256:=by
 have:=vc _ (zn h);rw[uD a]at this;exact this
theorem sm{C:List Nat}:l5 C=cQ 0 C*2^(8-C.length):=by
 unfold l5 C7;rw[wU]
 have:∀m a,cQ a (List.replicate m 0)=a*2^m:=λm=>by
  induction m with
  |zero=>intro a;simp[cQ]
  |succ m b=>
   intro a;show cQ (2*a+0) (List.replicate m 0)=_;rw[b,q3u,q2u,q2v 2 a,Nat.mul_assoc,q2v 2]
 exact this _ _
theorem Mx{C:List Nat}(h:eH C)(a:C.length<=8){j:Nat}(b:j<C.length):l5 C/2^(7-j)%2=C[j]:=by
 have c:=uD a;have:=GZ (C7 C) 0 j (zn h) (by omega);unfold l5;rw[show 7-j=(C7 C).length-1-j from by omega,this];simp[C7,b]
theorem bq(B:List Nat):(pack B).length=(B.length+7)/8:=by simp[pack]
theorem l8(B:List Nat)(i:Nat)(h:i<(B.length+7)/8):(pack B)[i]?=some (l5 ((B.drop (8*i)).take 8)):=by
 simp[pack,h]
theorem C9{B:List Nat}(h:eH B)(i m:Nat):eH ((B.drop i).take m):=λb a=>h b (List.mem_of_mem_drop (q3f a))
theorem G0{B:List Nat}(h:eH B):∀x∈pack B,x<256:=λx a=>by
 simp only[pack,q0t,q2m]at a;obtain⟨i,_,rfl⟩:=a;exact C8 (C9 h _ _) (by rw[q0d];omega)
theorem Fk{B:List Nat}(h:eH B){i:Nat}(hi:i<B.length):sj (pack B) i=B[i]:=by
 unfold sj;rw[l8 B (i/8) (by omega)];have a:i%8<((B.drop (8*(i/8))).take 8).length:=by rw[q0d,q0m];omega
 rw[Option.getD_some,Mx (C9 h _ _) (by rw[q0d];omega) a];rw[List.getElem_take,List.getElem_drop];congr 1;omega
theorem wV{B:List Nat}{b:Nat}(h:B.length%8=0):pack (B++ [b])=pack B++ [b*2^7]:=by
 apply List.ext_getElem?;intro i;have c:(pack B).length=B.length/8:=by rw[bq];omega
 rcases Nat.lt_trichotomy i (B.length/8)with a|a|a
 ·rw[q1f (by omega),l8 _ _ (by simp;omega),l8 _ _ (by omega)];rw[q3e (by omega),List.take_append_of_le_length (by rw[q0m];omega)]
 ·subst a;rw[q0z (by omega),c,Nat.sub_self,l8 _ _ (by simp;omega)]
  have:(B++ [b]).drop (8*(B.length/8))=[b]:=by
   rw[show 8*(B.length/8)=B.length from by omega];simp
  rw[this];simp[sm,cQ]
 ·rw[q2e (by rw[bq];simp;omega),q2e (by simp;omega)]
theorem PU{B:List Nat}{b:Nat}(h:B.length%8≠0):pack (B++ [b])=(pack B).set (B.length/8) (l5 (B.drop (8*(B.length/8)))+b*2^(7-B.length%8)):=by
 apply List.ext_getElem?;intro i;have f:(pack B).length=B.length/8+1:=by rw[bq];omega
 rcases Nat.lt_trichotomy i (B.length/8)with c|c|c
 ·rw[List.getElem?_set_ne (by omega),l8 _ _ (by simp;omega),l8 _ _ (by omega)];rw[q3e (by omega),List.take_append_of_le_length (by rw[q0m];omega)]
 ·subst c;rw[List.getElem?_set_self (by omega),l8 _ _ (by simp;omega)];have a:(B.drop (8*(B.length/8))).length=B.length%8:=by rw[q0m];omega
  rw[q3e (by omega),q1v (by rw[Z6,a];simp;omega)];generalize B.drop (8*(B.length/8))=C at a;have d:=q4l B.length (show 8>0 by decide);generalize B.length%8=r at a h d;rw[sm,sm,wU,Z6,a];have e:r<8∨8<=r:=by omega
  show some ((2*cQ 0 C+b)*2^(8-(r+1)))=_;congr 1;rcases e with e|e
  ·rw[show 8-(r+1)=7-r from by omega,show 8-r=7-r+1 from by omega,q3u,q2g,q2v 2 (cQ 0 C),Nat.mul_assoc,q2v 2]
  ·exfalso;omega
 ·rw[q2e (by rw[bq];simp;omega),q2e (by simp;omega)]
theorem mM(op:BinOp)(k:IntKind)(x y:Int)(h:op= .and∨op= .or∨op= .xor):cj op k x y=bits op k x y:=by
 rcases h with rfl|rfl|rfl<;>rfl
theorem wrap_u64(n:Int):IntKind.u64.wrap n=n%18446744073709551616:=by simp[IntKind.wrap,IntKind.bits,IntKind.signed]
def AN(n:Int):Nat:=if 0<=n then(2*n).toNat else(-2*n-1).toNat
def oW(u:Nat):Int:=if u%2=0 then((u/2:Nat):Int)else-((u/2:Nat):Int)-1
theorem My{n:Int}(h:aQ n):AN n<18446744073709551616:=by
 unfold AN;have:=h.1;have:=h.2;split<;>omega
theorem G1(n:Int):oW (AN n)=n:=by
 unfold oW AN;split
 ·rename_i h;rw[if_pos (by omega)];omega
 ·rename_i h;rw[if_neg (by omega)];omega
theorem Mz(a:Nat)(h:a<18446744073709551616):a^^^18446744073709551615=18446744073709551615-a:=by
 have e:(BitVec.ofNat 64 a^^^BitVec.allOnes 64).toNat=18446744073709551615-a:=by
  rw[BitVec.xor_allOnes,BitVec.toNat_not,BitVec.toNat_ofNat,q1o h]
 rw[<-e,BitVec.toNat_xor,BitVec.toNat_ofNat,q1o h];rfl
theorem Tf{n:Int}(h:aQ n):n.fdiv 9223372036854775808=if 0<=n then 0 else-1:=by
 have:=h.1;have:=h.2;rw[Int.fdiv_eq_ediv_of_nonneg _ (by decide)];split<;>omega
theorem Tg{n:Int}(h:aQ n):cj .xor .u64 (IntKind.u64.wrap (IntKind.u64.wrap n*2)) (IntKind.u64.wrap (n.fdiv 9223372036854775808))=((AN n:Nat):Int):=by
 have d:=h.1;have e:=h.2;rw[mM _ _ _ _ (.inr (.inr rfl)),Tf h];unfold AN;by_cases a:0<=n
 ·rw[if_pos a,if_pos a];have b:IntKind.u64.wrap (IntKind.u64.wrap n*2)=(((2*n).toNat:Nat):Int):=by rw[wrap_u64,wrap_u64];omega
  have c:IntKind.u64.wrap 0=((0:Nat):Int):=by rw[wrap_u64];rfl
  rw[b,c,u64_xor_nat _ _ (by omega) (by omega),Nat.xor_zero]
 ·rw[if_neg a,if_neg a];have b:IntKind.u64.wrap (IntKind.u64.wrap n*2)=(((2*n+18446744073709551616).toNat:Nat):Int):=by rw[wrap_u64,wrap_u64];omega
  have c:IntKind.u64.wrap (-1)=((18446744073709551615:Nat):Int):=by rw[wrap_u64];rfl
  rw[b,c,u64_xor_nat _ _ (by omega) (by omega),Mz _ (by omega)];omega
theorem AP{a:Int}(b:0<=a)(f:a<=9223372036854775807):cj .xor .i64 a (-1)= -a-1:=by
 have e:cj .xor .i64 a (-1)=IntKind.i64.wrap (((BitVec.ofInt 64 a^^^BitVec.ofInt 64 (-1)).toNat:Nat):Int):=rfl
 obtain⟨m,rfl⟩:=Int.eq_ofNat_of_zero_le b
 have c:(BitVec.ofInt 64 (m:Int)^^^BitVec.ofInt 64 (-1)).toNat=18446744073709551615-m:=by
  have d:BitVec.ofInt 64 (-1)=BitVec.allOnes 64:=by decide
  rw[d,BitVec.xor_allOnes,BitVec.toNat_not,BitVec.ofInt_natCast,BitVec.toNat_ofNat,q1o (by omega)]
 rw[e,c,IntKind.wrap_i64];omega
theorem AQ{a:Int}(b:0<=a)(f:a<=9223372036854775807):cj .xor .i64 a 0=a:=by
 have e:cj .xor .i64 a 0=IntKind.i64.wrap (((BitVec.ofInt 64 a^^^BitVec.ofInt 64 0).toNat:Nat):Int):=rfl
 obtain⟨m,rfl⟩:=Int.eq_ofNat_of_zero_le b
 have c:(BitVec.ofInt 64 (m:Int)^^^BitVec.ofInt 64 0).toNat=m:=by
  have d:BitVec.ofInt 64 0=0#64:=by decide
  rw[d,BitVec.xor_zero,BitVec.ofInt_natCast,BitVec.toNat_ofNat,q1o (by omega)]
 rw[e,c,IntKind.wrap_i64];omega
theorem Da(a b:Nat):(a:Int).fdiv (b:Int)=((a/b:Nat):Int):=by
 rw[Int.fdiv_eq_ediv_of_nonneg _ (Int.natCast_nonneg _)];exact(Int.natCast_ediv a b).symm
theorem X5{u:Nat}(h:u<18446744073709551616):cj .and .u64 (u:Int) 1=((u%2:Nat):Int):=by
 rw[mM _ _ _ _ (.inl rfl),show(1:Int)=((1:Nat):Int) from rfl,u64_and_nat _ _ h (by decide),nat_mask1]
theorem Th{u:Nat}(h:u<18446744073709551616):cj .xor .i64 (IntKind.i64.wrap ((u:Int).fdiv 2)) (IntKind.i64.wrap (0-IntKind.i64.wrap (cj .and .u64 (u:Int) 1)))=oW u:=by
 rw[show(2:Int)=((2:Nat):Int) from rfl,Da,X5 h];have b:IntKind.i64.wrap ((u/2:Nat):Int)=((u/2:Nat):Int):=by rw[IntKind.wrap_i64];omega
 rw[b];unfold oW;by_cases q:u%2=0
 ·rw[if_pos q,q];have a:IntKind.i64.wrap (0-IntKind.i64.wrap ((0:Nat):Int))=0:=by rw[IntKind.wrap_i64,IntKind.wrap_i64];rfl
  rw[a,AQ (by omega) (by omega)]
 ·have c:u%2=1:=by omega
  rw[if_neg q,c];have a:IntKind.i64.wrap (0-IntKind.i64.wrap ((1:Nat):Int))= -1:=by rw[IntKind.wrap_i64,IntKind.wrap_i64];rfl
  rw[a,AP (by omega) (by omega)]
def bh(u:Nat):List Nat:=if u=0 then [0]else if u<128 then [1,0]++bitsOf u 7 else if u<4096 then [1,1,0]++bitsOf u 12 else if u<16777216 then [1,1,1,0]++bitsOf u 24 else [1,1,1,1]++bitsOf u 64
theorem eH.lit{l:List Nat}(h:l.all (λb=>decide (b<2))=true):eH l:=λb a=>by
 have:=q0a.1 h b a;exact of_decide_eq_true this
theorem qW(u:Nat):eH (bh u):=by
 unfold bh
 repeat' split
 ·exact .lit rfl
 all_goals exact(eH.lit rfl).app (dK _ _)
theorem gH(u:Nat):(bh u).length<=68/\1<=(bh u).length:=by
 unfold bh
 repeat' split
 all_goals simp[aO]
abbrev W64(x:Int):Int:=IntKind.i64.wrap x
theorem wW(x:Int):aQ (W64 x):=by
 unfold aQ W64;rw[IntKind.wrap_i64];omega
theorem dh{x:Int}(h:aQ x):W64 x=x:=by
 have:=h.1;have:=h.2;show IntKind.i64.wrap x=x;rw[IntKind.wrap_i64];omega
def il(x:Int):Nat:=(x%18446744073709551616).toNat
theorem MA(x:Int):IntKind.u64.wrap x=((il x:Nat):Int):=by rw[wrap_u64];unfold il;omega
theorem Fl(x:Int):il x<18446744073709551616:=by unfold il;omega
theorem Db{x:Int}(h:aQ x):W64 ((il x:Nat):Int)=x:=by
 have:=h.1;have:=h.2;show IntKind.i64.wrap _=x;unfold il;rw[IntKind.wrap_i64];omega
def tAt(X:Smp)(i:Nat):Int:=((X[i]?).getD (0,0)).1
def vAt(X:Smp)(i:Nat):Int:=((X[i]?).getD (0,0)).2
def eJ(X:Smp)(i:Nat):Int:=if i<2 then 0 else W64 (tAt X (i-1)-tAt X (i-2))
def dT(X:Smp)(i:Nat):Nat:=AN (W64 (W64 (tAt X i-tAt X (i-1))-eJ X i))
def dV(X:Smp)(i:Nat):Nat:=AN (W64 (vAt X i-vAt X (i-1)))
def cx(X:Smp)(i:Nat):List Nat:=if i=0 then bitsOf (il (tAt X 0)) 64++bitsOf (il (vAt X 0)) 64 else bh (dT X i)++bh (dV X i)
def aF(X:Smp):Nat->List Nat
 |0=> []
 |i+1=>aF X i++cx X i
def aX(X:Smp):List Nat:=aF X X.length
theorem Fm(X:Smp)(i:Nat):eH (cx X i):=by
 unfold cx;split
 ·exact(dK _ _).app (dK _ _)
 ·exact(qW _).app (qW _)
theorem im(X:Smp):∀i,eH (aF X i)
 |0=> .nil
 |i+1=>(im X i).app (Fm X i)
theorem zo(X:Smp):eH (aX X):=im X _
theorem pP(X:Smp):∀i,(aF X i).length<=136*i
 |0=>by simp[aF]
 |i+1=>by
  have a:=pP X i
  have b:(cx X i).length<=136:=by
   unfold cx;split
   ·simp[aO]
   ·rw[Z6];have:=(gH (dT X i)).1;have:=(gH (dV X i)).1;omega
  simp only[aF,Z6];omega
theorem Dc(X:Smp):(aX X).length<=136*X.length:=pP X _
theorem tG(X:Smp)(i:Nat):∀k,∃D,aF X (i+k)=aF X i++D
 |0=>⟨[],by simp⟩
 |k+1=>by
  obtain⟨D,h⟩:=tG X i k;exact⟨D++cx X (i+k),by show aF X (i+k)++cx X (i+k)=_;rw[h,q0o]⟩
theorem Fo{X:Smp}{i:Nat}(h:i<X.length):∃D,aX X=aF X i++(cx X i++D):=by
 obtain⟨D,a⟩:=tG X (i+1) (X.length-(i+1));refine⟨D,?_⟩;unfold aX;rw[show X.length=i+1+(X.length-(i+1)) from by omega,a];simp[aF]
theorem MB:aX []=[]:=rfl
def aJ(s:List Nat)(a m:Nat):List Nat:=(List.range m).map λj=>sj s (a+j)
theorem Dd{B A C D:List Nat}(b:eH B)(h:B=A++(C++D)):aJ (pack B) A.length C.length=C:=by
 apply List.ext_getElem?;intro j;by_cases a:j<C.length
 ·have c:A.length+j<B.length:=by rw[h];simp;omega
  simp only[aJ,q0w,List.getElem?_range a,q0e];rw[Fk b c,Y0 a];congr 1
  (try simp only[h])
  rw[List.getElem_append_right (by omega),q3t (by omega)];congr 1;omega
 ·rw[q2e (by simp[aJ];omega),q2e (by omega)]
theorem De(s:List Nat)(a j:Nat):aJ s a (j+1)=aJ s a j++ [sj s (a+j)]:=by
 simp[aJ,List.range_succ]
theorem Dg(s:List Nat)(a j:Nat):eH (aJ s a j):=λb c=>by
 simp only[aJ,q0t]at c;obtain⟨_,_,rfl⟩:=c;exact q4l _ (by decide)
theorem mo(s:List Nat)(a j:Nat):(aJ s a j).length=j:=by simp[aJ]
theorem JJ(a:Nat)(B:List Nat)(b:Nat):cQ a (B++ [b])=2*cQ a B+b:=by rw[wU];rfl
theorem VP{u b:Nat}(d:u<9223372036854775808)(e:b<2):cj .or .u64 (IntKind.u64.wrap ((u:Int)*2)) (IntKind.u64.wrap (b:Int))=((2*u+b:Nat):Int):=by
 have a:IntKind.u64.wrap ((u:Int)*2)=((2*u:Nat):Int):=by rw[wrap_u64];omega
 have c:IntKind.u64.wrap (b:Int)=((b:Nat):Int):=by rw[wrap_u64];omega
 rw[a,c,mM _ _ _ _ (.inr (.inl rfl)),u64_or_nat _ _ (by omega) (by omega),nat_join 1 _ _ (by omega) (by omega)]
theorem Ti{c q:Nat}(a:c<256):cj .and .u8 (((c/q:Nat)):Int) 1=((c/q%2:Nat):Int):=by
 rw[mM _ _ _ _ (.inl rfl),show(1:Int)=((1:Nat):Int) from rfl,u8_and_nat _ _ (Nat.lt_of_le_of_lt (Nat.div_le_self _ _) a) (by decide),nat_mask1]
theorem Tj(c:Nat):cj .and .u8 (IntKind.u8.wrap (c:Int)) 1=((c%2:Nat):Int):=by
 have a:IntKind.u8.wrap (c:Int)=((c%256:Nat):Int):=by rw[IntKind.wrap_u8];omega
 rw[a,mM _ _ _ _ (.inl rfl),show(1:Int)=((1:Nat):Int) from rfl,u8_and_nat _ _ (by omega) (by decide),nat_mask1];congr 1;omega
theorem Tk{b r:Nat}(a:b<2)(c:r<8):IntKind.u8.wrap ((b:Int)*(2:Int)^r)=((b*2^r:Nat):Int):=by
 have d:(2:Nat)^r<=2^7:=Nat.pow_le_pow_right (by decide) (by omega);have f:b*2^r<=1*2^r:=q1h _ (by omega)
 have e:((b:Int)*(2:Int)^r)=((b*2^r:Nat):Int):=by
  rw[Int.natCast_mul,Int.natCast_pow];rfl
 rw[e,IntKind.wrap_u8];omega
theorem Si{a b r:Nat}(c:a<256)(d:a%2^(r+1)=0)(e:b<2)(f:r<8):cj .or .u8 (a:Int) ((b*2^r:Nat):Int)=((a+b*2^r:Nat):Int):=by
 have g:(2:Nat)^r<=2^7:=Nat.pow_le_pow_right (by decide) (by omega);have h:b*2^r<=1*2^r:=q1h _ (by omega);have i:0<2^r:=Nat.two_pow_pos r;rw[mM _ _ _ _ (.inr (.inl rfl)),u8_or_nat _ _ c (by omega),nat_join (r+1) _ _ d (by rw[q3u];omega)]
theorem Fp{C:List Nat}(h:C.length<8):l5 C%2^(7-C.length+1)=0:=by
 rw[sm,show 7-C.length+1=8-C.length from by omega];exact Nat.mul_mod_left _ _
def de(s:List Nat):List AV:=s.map λc=> .si .u8 (Int.ofNat c)
theorem iD(s:List Nat):(de s).length=s.length:=by simp[de]
theorem mN(s:List Nat):(de s).all flat.flat1=true:=by
 rw[q0a];intro x a;simp only[de,q0t]at a;obtain⟨c,_,rfl⟩:=a;rfl
theorem gZ(s:List Nat):(de s).map mk=de s:=by simp[de,mk]
inductive mO(H:AH)(m:Nat)(r:Nat->Nat):List AV->List AV->Prop where
 |nil:mO H m r [] []
 |cons {a a':AV} {l l':List AV} (h:ah H m r a a') (k:mO H m r l l'):mO H m r (a::l) (a'::l')
section
variable {H:AH} {m:Nat} {r:Nat->Nat}
theorem mO.length:∀{l l':List AV},mO H m r l l'->l.length=l'.length
 |_,_,.nil=>rfl
 |_,_,.cons _ k=>congrArg (·+1) k.length
theorem mO.at:∀{l l':List AV},mO H m r l l'->∀(i:Nat) (c:AV),l'[i]?=some c->∃a,l[i]?=some a/\ah H m r a c
 |_,_,.nil,i,c,h=>by simp at h
 |_,_,.cons (a:=a) q k,0,c,h=>by
  simp only[q1s,q1x]at h;subst h;exact⟨a,rfl,q⟩
 |_,_,.cons q k,i+1,c,h=>by
  obtain⟨b,d,e⟩:=k.at i c (by simpa using h);exact⟨b,by simpa using d,e⟩
theorem ao.st{l l':List AV}{z:Bool}(h:mO H m r l l'):ao H m r (.cells l z) (.cells l' z):=
 ao.cells (by rw[h.length];exact Z3 _) (λq=>q) h.at
end
mutual
theorem JK(r:Nat->Nat):∀a:AV,flat.flat1 a=true->ren r a=a
 | .int _ _,_=>rfl
 | .str _,_=>rfl
 | .bool _,_=>rfl
 | .nil,_=>rfl
 | .nsl,_=>rfl
 | .si _ _,_=>rfl
 | .sb _,_=>rfl
 | .ss _,_=>rfl
 | .any _,_=>rfl
 | .bad,h=>rfl
 | .ptr _ _,h=>by cases h
 | .sl _ _ _ _ _,h=>by cases h
 | .esl _,h=>by cases h
 | .agg _,h=>by cases h
 | .tup _,h=>by cases h
 | .fn _ _ _,h=>by cases h
 | .map _,h=>by cases h
 | .sy _ _ _ _ _,h=>by cases h
 | .rw _ _ _ _ _,h=>by cases h
 | .fr _ _ _,h=>by rfl
 | .fa _ _,h=>by rfl
end
theorem zp(r:Nat->Nat):∀l:List AV,l.all flat.flat1=true->dY r l=l
 | [],_=>rfl
 |a::l,h=>by
  simp only[q1u,Z8]at h;rw[dY,JK r a h.1,zp r l h.2]
theorem JL(m:Nat):∀a:AV,flat.flat1 a=true->ltV m a=true
 | .int _ _,_=>rfl
 | .str _,_=>rfl
 | .bool _,_=>rfl
 | .nil,_=>rfl
 | .nsl,_=>rfl
 | .si _ _,_=>rfl
 | .sb _,_=>rfl
 | .ss _,_=>rfl
 | .any _,_=>rfl
 | .bad,h=>rfl
 | .ptr _ _,h=>by cases h
 | .sl _ _ _ _ _,h=>by cases h
 | .esl _,h=>by cases h
 | .agg _,h=>by cases h
 | .tup _,h=>by cases h
 | .fn _ _ _,h=>by cases h
 | .map _,h=>by cases h
 | .sy _ _ _ _ _,h=>by cases h
 | .rw _ _ _ _ _,h=>by cases h
 | .fr _ _ _,h=>by rfl
 | .fa _ _,h=>by rfl
theorem wX(m:Nat):∀l:List AV,l.all flat.flat1=true->jO m l=true
 | [],_=>rfl
 |a::l,h=>by
  simp only[q1u,Z8]at h;rw[jO,JL m a h.1,wX m l h.2];rfl
theorem VR.VQ{φ:Ph}{a b:AV}{v:Value}(f:Go.Proofs.YtflehenfikoniaaGreat.flat.flat1 b=true)(e:Go.Proofs.YtflehenfikoniaaGreat.mk a=Go.Proofs.YtflehenfikoniaaGreat.mk b)(h:VR φ a v):VR φ b v:=by
 have c:VR φ (Go.Proofs.YtflehenfikoniaaGreat.mk b) v:=e▸h.mk;have d:VR φ b v:=by cases b<;>exact c
 exact d
theorem HR.Fq{φ:Ph}{H:AH}{n:Nat}{c h:Hp}(f:HR φ H n c h){b:Nat}{l l':List AV}{z:Bool}(g:H.get b=some (.cells l z))(j:l'.all Go.Proofs.YtflehenfikoniaaGreat.flat.flat1=true)(e:l.map Go.Proofs.YtflehenfikoniaaGreat.mk=l'.map Go.Proofs.YtflehenfikoniaaGreat.mk):HR φ (H.set (some (.cells l' z)) aa b) n c h:=
 f.Mw g (by have:=congrArg List.length e;simp only[Y9]at this;omega) λi k d=>by
  have e:=congrArg (λx:List AV=>x[i]?) e;simp only[q0w,d,q0e]at e;rw[Z7]at e;obtain⟨a,o,p⟩:=e;exact⟨a,o,λv q=>q.VQ (q0a.1 j k (q0j d)) p⟩
def Up(L:Smp):Prop:=L.Pairwise λx y=>x.1<y.1
def plc:Smp->Int->Nat
 | [],_=>0
 |x::L,t=>if x.1<t then plc L t+1 else 0
def has(L:Smp)(t:Int):Bool:=decide (plc L t<L.length/\tAt L (plc L t)=t)
def jP(L:Smp)(t v:Int):Smp:=L.take (plc L t)++(t,v)::L.drop (plc L t)
def lj(L:Smp)(t v:Int):Smp:=L.set (plc L t) (t,v)
def ba(p old now:Int):Int×Int:=
 if p=1 then(0,8)else if p=2 then(old,0)else if p=3 then(now,0)else if p=4 then(min old now,0)else if p=5 then(max old now,0)
 else if p=6 then(if(0<=now/\W64 (old+now)<old)∨(now<0/\old<W64 (old+now))then(0,9)else(W64 (old+now),0))else(0,1)
def qX(size:Nat)(L M:Smp):Smp×Int:=if(aX M).length<=8*size then(M,0)else(L,2)
def ft(size:Nat)(L:Smp)(t v p:Int):Smp×Int:=
 if t<0∨1099511627776<=t then(L,1)
 else if has L t then(if(ba p (vAt L (plc L t)) v).2≠0 then(L,(ba p (vAt L (plc L t)) v).2)else qX size L (lj L t (ba p (vAt L (plc L t)) v).1))
 else qX size L (jP L t v)
def aE(L:Smp)(a b:Int):Smp:=L.filter λx=>decide (x.1<a)||decide (b<x.1)
def gQ(L:Smp)(t:Int):Int×Int:=if has L t then(vAt L (plc L t),0)else(0,5)
theorem qY:∀(L:Smp) (t:Int),plc L t<=L.length
 | [],_=>Z3 _
 |x::L,t=>by
  unfold plc;split
  ·have:=qY L t;simp only[Z9];omega
  ·exact Y5 _
theorem AS:∀{L:Smp} {t:Int} {j:Nat} (h:j<plc L t),tAt L j<t
 | [],t,j,h=>by simp[plc]at h
 |x::L,t,j,h=>by
  unfold plc at h;split at h
  ·rename_i a;cases j with
   |zero=>exact a
   |succ j=>
    have:=AS (L:=L) (t:=t) (j:=j) (by omega);simpa[tAt]using this
  ·omega
theorem AT:∀{L:Smp} {t:Int} (_:plc L t<L.length),t<=tAt L (plc L t)
 | [],t,h=>by simp at h
 |x::L,t,h=>by
  unfold plc at h⊢;split
  ·rename_i a;rw[if_pos a]at h;have:=AT (L:=L) (t:=t) (by simpa using h);simpa[tAt]using this
  ·rename_i a;show t<=x.1;omega
theorem eM{L:Smp}{i:Nat}(h:i<L.length):tAt L i=L[i].1:=by simp[tAt,h]
theorem oX{L:Smp}{i:Nat}(h:i<L.length):vAt L i=L[i].2:=by simp[vAt,h]
theorem Up.lt{L:Smp}(h:Up L){i j:Nat}(hi:i<j)(a:j<L.length):tAt L i<tAt L j:=by
 rw[eM a,eM (by omega)];exact q3p.1 h i j (by omega) a hi
theorem Up.of{L:Smp}(h:∀i,i+1<L.length->tAt L i<tAt L (i+1)):Up L:=by
 refine q3p.2 λi j c a b=>?_
 obtain⟨k,rfl⟩:∃k,j=i+1+k:=⟨j-(i+1),by omega⟩;clear b;rw[<-eM c,<-eM a]
 induction k with
 |zero=>exact h i a
 |succ k d=>exact Int.lt_trans (d (by omega)) (h (i+1+k) a)
theorem PV{L:Smp}(h:Up L)(t:Int):has L t=true<->∃x∈L,x.1=t:=by
 unfold has;rw[decide_eq_true_eq];constructor
 ·intro⟨c,b⟩;exact⟨L[plc L t],q0g c,by rw[<-eM c];exact b⟩
 ·intro⟨x,e,a⟩;obtain⟨i,d,rfl⟩:=q1q.1 e;rw[<-eM d]at a;have c:¬i<plc L t:=λq=>by have:=AS q;omega
  have b:plc L t<L.length:=by omega
  refine⟨b,?_⟩;have f:=AT b;rcases q3j (plc L t) i with q|q
  ·have:=h.lt q d;omega
  ·have:i=plc L t:=by omega
   rw[this]at a;exact a
theorem vd{L:Smp}{t:Int}(h:has L t=true):(t,vAt L (plc L t))∈L:=by
 unfold has at h;rw[decide_eq_true_eq]at h;have:=q0g h.1
 have e:L[plc L t]=(t,vAt L (plc L t)):=by
  rw[oX h.1];refine Prod.ext ?_ rfl
  rw[<-eM h.1];exact h.2
 rw[<-e];exact this
theorem lk(L:Smp)(t v:Int):(jP L t v).length=L.length+1:=by
 have:=qY L t;simp[jP];omega
theorem sq(L:Smp)(t v:Int):(lj L t v).length=L.length:=by simp[lj]
theorem oY{L:Smp}{t v:Int}{x:Int×Int}:x∈jP L t v<->x=(t,v)∨x∈L:=by
 unfold jP;rw[q1e,Z4];have:=q1i (plc L t) L;constructor
 ·rintro(h|h|h)
  ·exact .inr (q3f h)
  ·exact .inl h
  ·exact .inr (List.mem_of_mem_drop h)
 ·rintro(h|h)
  ·exact .inr (.inl h)
  ·rw[<-this,q1e]at h;rcases h with h|h
   ·exact .inl h
   ·exact .inr (.inr h)
theorem G2{L:Smp}(h:Up L){t:Int}(hn:has L t=false)(v:Int):Up (jP L t v):=by
 have hle:=qY L t;refine .of λi c=>?_
 rw[lk]at c
 have key:∀j,j<L.length+1->tAt (jP L t v) j=if j<plc L t then tAt L j else if j=plc L t then t else tAt L (j-1):=λj l=>by
  unfold tAt jP;have g:(L.take (plc L t)).length=plc L t:=by simp;omega
  split
  ·rename_i q;rw[q1f (by omega),List.getElem?_take,if_pos q]
  ·rename_i q;rw[q0z (by omega),g];split
   ·rename_i d;subst d;simp
   ·rename_i d;obtain⟨m,rfl⟩:∃m,j=plc L t+1+m:=⟨j-(plc L t+1),by omega⟩;rw[show plc L t+1+m-plc L t=m+1 from by omega,q1k,q3b,show plc L t+1+m-1=plc L t+m from by omega]
 rw[key i (by omega),key (i+1) c]
 have k:plc L t<L.length->t<tAt L (plc L t):=λq=>by
  have a:=AT q
  have b:tAt L (plc L t)≠t:=λe=>by
   unfold has at hn;rw[decide_eq_false_iff_not]at hn;exact hn ⟨q,e⟩
  omega
 by_cases a:i+1<plc L t
 ·rw[if_pos (by omega),if_pos a];exact h.lt (q1m i) (by omega)
 ·rw[if_neg a];by_cases b:i+1=plc L t
  ·rw[if_pos b,if_pos (by omega)];exact AS (by omega)
  ·rw[if_neg b];by_cases f:i=plc L t
   ·rw[if_neg (by omega),if_pos f,show i+1-1=plc L t from by omega];exact k (by omega)
   ·rw[if_neg (by omega),if_neg f];exact h.lt (by omega) (by omega)
theorem sr{L:Smp}(h:Up L){t v:Int}(g:has L t=true){x:Int×Int}:x∈lj L t v<->x=(t,v)∨(x∈L/\x.1≠t):=by
 have a:=g;unfold has at a;rw[decide_eq_true_eq]at a;obtain⟨f,j⟩:=a;unfold lj;constructor
 ·intro c;obtain⟨i,b,e⟩:=q1q.1 c;rw[List.length_set]at b;rw[List.getElem_set]at e;split at e
  ·exact .inl e.symm
  ·rename_i q;refine .inr ⟨by rw[<-e];exact q0g b,λk=>?_⟩;rw[<-e,<-eM b]at k;rcases Nat.lt_or_gt_of_ne q with q|q
   ·have:=h.lt q b;omega
   ·have:=h.lt q f;omega
 ·rintro(rfl|⟨c,d⟩)
  ·exact q1q.2 ⟨plc L t,by simpa using f,by simp⟩
  ·obtain⟨i,b,e⟩:=q1q.1 c;have:plc L t≠i:=λq=>d (by subst q;rw[<-e,<-eM b];exact j)
   exact q1q.2 ⟨i,by simpa using b,by rw[List.getElem_set_ne this];exact e⟩
theorem G3{L:Smp}(h:Up L){t v:Int}(c:has L t=true):Up (lj L t v):=by
 have a:=c;unfold has at a;rw[decide_eq_true_eq]at a
 have key:∀j,tAt (lj L t v) j=tAt L j:=λj=>by
  unfold lj tAt;rw[List.getElem?_set];split
  ·rename_i q;subst q;rw[if_pos a.1];have:=a.2;unfold tAt at this;rw[this];rfl
  ·rfl
 refine .of λi b=>?_
 rw[sq]at b;rw[key,key];exact h.lt (q1m i) b
def cG(L:Smp):Prop:=Up L/\(∀x∈L,(0<=x.1/\x.1<1099511627776)/\aQ x.2)/\L.length<=20000
theorem cG.nil:cG []:=⟨List.Pairwise.nil,(λx h=>by cases h),Y5 _⟩
theorem cG.jQ{L:Smp}(h:cG L):∀x∈L,aQ x.1/\aQ x.2:=λx a=>by
 obtain⟨⟨c,d⟩,b⟩:=h.2.1 x a;exact⟨⟨by omega,by omega⟩,b⟩
theorem cG.sub{L M:Smp}(h:cG L)(a:M.Sublist L):cG M:=⟨h.1.sublist a,λx b=>h.2.1 x (a.subset b),Y7 a.length_le h.2.2⟩
theorem Dh(X:Smp):∀i,2*i<=(aF X i).length
 |0=>Y5 _
 |i+1=>by
  have a:=Dh X i
  have b:2<=(cx X i).length:=by
   unfold cx;split
   ·simp[aO]
   ·rw[Z6];have:=(gH (dT X i)).2;have:=(gH (dV X i)).2;omega
  simp only[aF,Z6];omega
theorem G4(X:Smp):2*X.length<=(aX X).length:=Dh X _
theorem PW{a b:Int}(h:aQ a)(k:aQ b):aQ (min a b):=by
 rcases Int.le_total a b with q|q
 ·rw[Int.min_eq_left q];exact h
 ·rw[Int.min_eq_right q];exact k
theorem PX{a b:Int}(h:aQ a)(k:aQ b):aQ (max a b):=by
 rcases Int.le_total a b with q|q
 ·rw[Int.max_eq_right q];exact k
 ·rw[Int.max_eq_left q];exact h
theorem zq{p a b:Int}(h:aQ a)(k:aQ b):aQ (ba p a b).1:=by
 have z:aQ 0:=⟨by omega,by omega⟩;unfold ba;split;exact z;split;exact h;split;exact k;split;exact PW h k;split;exact PX h k;split
 ·split
  ·exact z
  ·exact wW _
 ·exact z
theorem zr{size:Nat}(c:size<=4096){L M:Smp}(h:cG L)(a:Up M)(b:∀x∈M,(0<=x.1/\x.1<1099511627776)/\aQ x.2):cG (qX size L M).1:=by
 unfold qX;split
 ·rename_i q;have:=G4 M;exact⟨a,b,by show M.length<=20000;omega⟩
 ·exact h
theorem JM{size:Nat}(d:size<=4096){L:Smp}(h:cG L){t v p:Int}(e:aQ v):cG (ft size L t v p).1:=by
 unfold ft;split
 ·exact h
 ·rename_i c;have c:0<=t/\t<1099511627776:=by omega
  split
  ·rename_i a;have ho:aQ (vAt L (plc L t)):=(h.2.1 _ (vd a)).2;split
   ·exact h
   ·refine zr d h (G3 h.1 a) λx b=>?_
    rcases(sr h.1 a).1 b with rfl|⟨b,_⟩
    ·exact⟨c,zq ho e⟩
    ·exact h.2.1 x b
  ·rename_i a;have a:has L t=false:=by simpa using a
   refine zr d h (G2 h.1 a v) λx b=>?_
   rcases oY.1 b with rfl|b
   ·exact⟨c,e⟩
   ·exact h.2.1 x b
theorem wY{L:Smp}(h:cG L)(a b:Int):cG (aE L a b):=h.sub List.filter_sublist
theorem pQ{L:Smp}(h:L.length<=7):(aX L).length<=944:=by
 have key:∀i,(aF L (i+1)).length<=128+136*i:=λi=>by
  induction i with
  |zero=>simp[aF,cx,aO]
  |succ i a=>
   show(aF L (i+1)++cx L (i+1)).length<=_;rw[Z6]
   have b:(cx L (i+1)).length<=136:=by
    unfold cx;rw[if_neg (by omega),Z6];have:=(gH (dT L (i+1))).1;have:=(gH (dV L (i+1))).1;omega
   omega
 unfold aX;cases c:L.length with
 |zero=>simp[aF]
 |succ k=>have:=key k;omega
def su(L:Smp):Int:=tAt L (L.length-1)
def qA(L M:Smp):Bool:=decide (L≠[])&&decide (M≠[])&&decide (tAt M 0<=su L)
def bR(size:Nat)(L M:Smp):(Smp×Smp)×Int:=if qA L M then((L,M),1)else if(aX (L++M)).length<=8*size then((L++M,[]),0)else((L,M),2)
theorem JN{size:Nat}(o:size<=4096){L M:Smp}(h:cG L)(k:cG M):cG (bR size L M).1.1/\cG (bR size L M).1.2:=by
 unfold bR;split
 ·exact⟨h,k⟩
 ·rename_i g;split
  ·rename_i p;refine⟨⟨.of λi d=>?_,λx a=>?_,?_⟩,.nil⟩
   ·rw[Z6]at d;have b:∀j,j<L.length->tAt (L++M) j=tAt L j:=λj c=>by simp[tAt,q1f c]
    have e:∀j,L.length<=j->tAt (L++M) j=tAt M (j-L.length):=λj c=>by simp[tAt,q0z c]
    by_cases f:i+1<L.length
    ·rw[b i (by omega),b _ f];exact h.1.lt (q1m i) f
    ·rw[e (i+1) (by omega)];by_cases l:i+1=L.length
     ·rw[b i (by omega),show i+1-L.length=0 from by omega];have m:L≠[]:=λq=>by subst q;simp at l
      have n:M≠[]:=λq=>by subst q;simp at d;omega
      have:¬tAt M 0<=su L:=λq=>g (by simp[qA,m,n,q])
      unfold su at this;rw[show L.length-1=i from by omega]at this;omega
     ·rw[e i (by omega),show i+1-L.length=i-L.length+1 from by omega];exact k.1.lt (q1m _) (by omega)
   ·rcases q1e.1 a with a|a
    ·exact h.2.1 x a
    ·exact k.2.1 x a
   ·have:=G4 (L++M);show(L++M).length<=20000;omega
  ·exact⟨h,k⟩
def eO(H:AH)(n:Nat)(H':AH)(c:Nat):Prop:=∀(a:Ph) (b h:Hp),HR a H n b h->HR a H' c b h
def VTo(u v:AV):Prop:=∀(a:Ph) (w:Value),VR a u w->VR a v w
theorem eO.refl(H:AH)(n:Nat):eO H n H n:=λ_ _ _ h=>h
theorem eO.trans{a b c:AH}{d e f:Nat}(h:eO a d b e)(k:eO b e c f):eO a d c f:=λg i j q=>k g i j (h g i j q)
theorem eO.Fq{H:AH}{n b:Nat}{l l':List AV}{z:Bool}(a:H.get b=some (.cells l z))(c:l'.all flat.flat1=true)(e:l.map Go.Proofs.YtflehenfikoniaaGreat.mk=l'.map Go.Proofs.YtflehenfikoniaaGreat.mk):eO H n (H.set (some (.cells l' z)) aa b) n:=λ_ _ _ d=>d.Fq a c e
theorem VTo.refl(u:AV):VTo u u:=λ_ _ h=>h
def post(g:List AV->AH->Nat->PK->Prop)(args:List AV)(H:AH)(n:Nat)(κ:PK):Prop:=g args H n λu c d=>∃v a b,VTo u v/\eO c d a b/\κ v a b
theorem ak.post{f:FuncId}{g:List AV->AH->Nat->PK->Prop}(c:ak f g):ak f (post g):=λargs H n z d e i h j K k l m=>c args H n _ d e i h j K k l λo u A B w p a b q ⟨v,r,s,t,x,y⟩=>m o v r s w p a (x _ _ _ b) (t _ _ q) y
theorem PY{s:List Nat}{i:Nat}(h:i<s.length):(de s)[i]?=some (.si .u8 (Int.ofNat s[i])):=by
 unfold de;rw[q0w,Y0 h];rfl
theorem wZ:∀(l:List AV) (o:Nat) (x:AV),o<l.length->fD l o [x]=some (l.set o x)
 | [],o,x,h=>by simp at h
 |y::l,0,x,_=>by cases l<;>simp[fD]
 |y::l,o+1,x,h=>by simp[fD,wZ l o x (by simpa using h)]
theorem MC(s:List Nat)(o:Nat)(c:Nat):(de s).set o (.si .u8 (Int.ofNat c))=de (s.set o c):=by simp[de,List.map_set]
theorem MD(s t:List Nat):de (s++t)=de s++de t:=by simp[de]
theorem Di{s:List Nat}(h:∀x∈s,x<256):k9 (de s)=some s:=wJ h
def shN(N:Nat):Nat:=7-N%8
theorem G5(N:Nat):IntKind.i64.wrap (7-((N:Nat):Int).tmod 8)=((shN N:Nat):Int):=by
 have h:((N:Nat):Int).tmod 8=((N%8:Nat):Int):=by
  rw[Int.tmod_eq_emod_of_nonneg (Int.natCast_nonneg _)];rfl
 rw[h];have:=q4l N (show 8>0 by decide);unfold shN;rw[IntKind.wrap_i64];omega
theorem ME(N:Nat):min (IntKind.i64.wrap (7-((N:Nat):Int).tmod 8)).toNat 8=shN N:=by
 rw[G5];unfold shN;simp;omega
theorem div_eq(N:Nat)(h:N<=9223372036854775807):IntKind.i64.wrap (((N:Nat):Int).tdiv 8)=((N/8:Nat):Int):=by
 have e:((N:Nat):Int).tdiv 8=((N/8:Nat):Int):=by
  rw[Int.tdiv_eq_ediv_of_nonneg (Int.natCast_nonneg _)];rfl
 rw[e,IntKind.wrap_i64];omega
theorem G6(N:Nat):(((N:Nat):Int).tmod 8=0)<->N%8=0:=by
 have h:((N:Nat):Int).tmod 8=((N%8:Nat):Int):=by
  rw[Int.tmod_eq_emod_of_nonneg (Int.natCast_nonneg _)];rfl
 rw[h];omega
theorem fdiv_pow(U m:Nat):((U:Nat):Int).fdiv ((2:Int)^m)=((U/2^m:Nat):Int):=by
 have:((2:Int)^m)=((2^m:Nat):Int):=by rw[Int.natCast_pow];rfl
 rw[this,Da]
theorem MF{U m:Nat}{i:Int}(hi:i=(m:Int))(a:m<64):cj .and .u8 (IntKind.u8.wrap (((U:Nat):Int).fdiv ((2:Int)^min i.toNat 64))) 1=((U/2^m%2:Nat):Int):=by
 subst hi;rw[show min (Int.toNat (m:Int)) 64=m from by simp;omega,fdiv_pow,Tj]
theorem wrU(x:Int)(b:Nat)(a:b<2)(c:x=(b:Int))(N:Nat):IntKind.u8.wrap (x*(2:Int)^min (IntKind.i64.wrap (7-((N:Nat):Int).tmod 8)).toNat 8)=((b*2^shN N:Nat):Int):=by
 subst c;rw[ME];exact Tk a (by unfold shN;omega)
theorem G7{B:List Nat}{x:Int}{b:Nat}(c:b<2)(f:x=(b:Int))(g:B.length%8=0){o:Nat}(ho:o=B.length/8):
 fD (de (pack B)++ [.int .u8 0]) o [.si .u8 (cj .or .u8 0 (IntKind.u8.wrap (x*(2:Int)^min (IntKind.i64.wrap (7-((B.length:Nat):Int).tmod 8)).toNat 8)))]=some (de (pack (B++ [b]))):=by
 have d:(de (pack B)).length=B.length/8:=by rw[iD,bq];omega
 have h:shN B.length=7:=by unfold shN;omega
 rw[wZ _ _ _ (by simp[d,ho]),wrU x b c f,h,wV g,MD]
 have e:cj .or .u8 0 ((b*2^7:Nat):Int)=Int.ofNat (b*2^7):=by
  have:=Si (a:=0) (b:=b) (r:=7) (by decide) (by decide) c (by decide);rw[q0x]at this;exact this
 rw[e,q4g _ _ (by omega),d,ho,Nat.sub_self];rfl
theorem MG{B:List Nat}(b:B.length%8=0){o:Nat}(ho:o=B.length/8):nth (de (pack B)++ [.int .u8 0]) o=some (.int .u8 0):=by
 have a:(de (pack B)).length=B.length/8:=by rw[iD,bq];omega
 rw[fB,q0z (by omega),a,ho,Nat.sub_self];rfl
theorem MH{B:List Nat}(c:B.length%8≠0){o:Nat}(ho:o=B.length/8):nth (de (pack B)) o=some (.si .u8 (Int.ofNat (l5 (B.drop (8*(B.length/8)))))):=by
 have a:=l8 B (B.length/8) (by omega);have b:B.length/8<(pack B).length:=by rw[bq];omega
 rw[fB,ho,PY b];rw[Y0 b]at a;injection a with a;rw[a,q1v (by rw[q0m];omega)]
theorem G8{B:List Nat}{x:Int}{b:Nat}(h:eH B)(g:b<2)(i:x=(b:Int))(j:B.length%8≠0){o:Nat}(ho:o=B.length/8):
 fD (de (pack B)) o [.si .u8 (cj .or .u8 (Int.ofNat (l5 (B.drop (8*(B.length/8))))) (IntKind.u8.wrap (x*(2:Int)^min (IntKind.i64.wrap (7-((B.length:Nat):Int).tmod 8)).toNat 8)))]=some (de (pack (B++ [b]))):=by
 have l:B.length/8<(de (pack B)).length:=by rw[iD,bq];omega
 have hd:(B.drop (8*(B.length/8))).length=B.length%8:=by rw[q0m];omega
 have d:(B.drop (8*(B.length/8))).length<8:=by rw[hd];exact q4l _ (by decide)
 have f:=C8 (C:=B.drop (8*(B.length/8))) (λc f=>h c (List.mem_of_mem_drop f)) (by omega);have hr:=Fp d;have k:shN B.length=7-(B.drop (8*(B.length/8))).length:=by rw[hd];rfl
 rw[wZ _ _ _ (by omega),wrU x b g i,PU j,k,<-MC,ho];have e:=Si (a:=l5 (B.drop (8*(B.length/8)))) (b:=b) (r:=7-(B.drop (8*(B.length/8))).length) f hr g (by omega);rw[show(Int.ofNat (l5 (B.drop (8*(B.length/8)))))=((l5 (B.drop (8*(B.length/8))):Nat):Int) from rfl,e,hd];rfl
theorem Tl{s:List Nat}(e:∀x∈s,x<256){a c:Nat}(b:nth s (a/8)=some c):cj .and .u8 ((Int.ofNat c).fdiv ((2:Int)^min (IntKind.i64.wrap (7-((a:Nat):Int).tmod 8)).toNat 8)) 1=((sj s a:Nat):Int):=by
 rw[fB]at b;have d:c<256:=e c (q0j b);rw[ME,show(Int.ofNat c)=((c:Nat):Int) from rfl,fdiv_pow,Ti d];unfold sj shN;rw[b];rfl
theorem PZ{s:List Nat}(b:∀x∈s,x<256){a c u:Nat}(d:nth s (a/8)=some c)(e:u<9223372036854775808):
 cj .or .u64 (IntKind.u64.wrap (((u:Nat):Int)*2)) (IntKind.u64.wrap (cj .and .u8 ((Int.ofNat c).fdiv ((2:Int)^min (IntKind.i64.wrap (7-((a:Nat):Int).tmod 8)).toNat 8)) 1))=((2*u+sj s a:Nat):Int):=by
 rw[Tl b d];exact VP e (q4l _ (by decide))
theorem w6(s:List Nat)(a i j:Nat):aJ s a (i+j)=aJ s a i++aJ s (a+i) j:=by
 unfold aJ;rw[List.range_add,q0r,q4q];congr 1;exact q2y λk _=>by simp[q1r]
theorem JO(s:List Nat)(a:Nat){j:Nat}(h:j<=63):cQ 0 (aJ s a j)<9223372036854775808:=by
 have:=vc _ (Dg s a j);rw[mo]at this;have b:2^j<=2^63:=Nat.pow_le_pow_right (by decide) h;omega
theorem MI(x:Int):W64 x=(x+9223372036854775808)%18446744073709551616-9223372036854775808:=by
 show IntKind.i64.wrap x=_;rw[IntKind.wrap_i64]
theorem Dj(a d:Int):W64 (a+W64 (W64 d-a))=W64 d:=by
 (try simp only[MI]);omega
theorem Dk{a b:Int}(h:aQ b):W64 (a+W64 (b-a))=b:=by
 have:=h.1;have:=h.2
 (try simp only[MI]);omega
theorem Dl(X:Smp){i:Nat}(h:i≠0):W64 (eJ X i+oW (dT X i))=eJ X (i+1):=by
 unfold dT;rw[G1,Dj];unfold eJ;rw[if_neg (by omega)];congr 2
theorem VS{X:Smp}{i:Nat}(h:i≠0)(a:aQ (tAt X i)):W64 (tAt X (i-1)+eJ X (i+1))=tAt X i:=by
 unfold eJ;rw[if_neg (by omega),show i+1-1=i from rfl,show i+1-2=i-1 from by omega];exact Dk a
theorem VT{X:Smp}{i:Nat}(a:aQ (vAt X i)):W64 (vAt X (i-1)+oW (dV X i))=vAt X i:=by
 unfold dV;rw[G1];exact Dk a
theorem Sj(X:Smp)(i:Nat):dT X i<18446744073709551616:=My (wW _)
theorem Sk(X:Smp)(i:Nat):dV X i<18446744073709551616:=My (wW _)
theorem MJ{X:Smp}(h:∀x∈X,aQ x.1/\aQ x.2)(i:Nat):aQ (tAt X i)/\aQ (vAt X i):=by
 unfold tAt vAt;cases e:X[i]? with
 |none=>exact⟨⟨by decide,by decide⟩,⟨by decide,by decide⟩⟩
 |some x=>exact h x (q0j e)
theorem ah.fnp{H:AH}{m:Nat}{r:Nat->Nat}{a:AV}{f b o:Nat}(c:b<m)(e:a= .fn f [.ptr (r b) o] []):ah H m r a (.fn f [.ptr b o] []):=λs t v d _ g=>by
 subst e;obtain⟨xs,cs,rfl,h,i⟩:=g.nr;obtain⟨x,l,j,k,n⟩:=h.cons_inv;obtain⟨p,q,rfl⟩:=k.cL;refine .fn ?_ (by rw[i.aP];exact .nil);rw[j,n.aP];exact .cons (.ptr (by rw[d.1 b c];exact q)) .nil
def nK(c:Nat)(B:List Nat):List AV:=[.rw c 0 (pack B).length 1 0,.si .i64 ((B.length:Nat):Int)]
def VU (H:AH) (n b c:Nat) (B:List Nat):AH:=((H.set (some (.cells (de (pack B)) true)) aa n).set none aa c).set (some (.cells (nK n B) true)) aa b
def ve(args:List AV)(H:AH)(n:Nat)(κ:PK):Prop:=match args with
 | [x,u,m]=>∃(b c U k:Nat) (B:List Nat),x= .ptr b 0/\b≠c/\b<n/\c<n/\H.get b=some (.cells (nK c B) true)/\H.get c=some (.cells (de (pack B)) true)/\eH B/\mk u= .si .u64 (U:Int)/\mk m= .si .i64 (k:Int)/\k<=64/\U<2^k/\B.length<=100000000/\
  κ (.int .i64 0) (VU H n b c (B++bitsOf U k)) (n+1)
 |_=>False
theorem uE(U k:Nat):bitsOf U (k+1)=[U/2^k%2]++bitsOf U k:=rfl
def wc (U:Nat) (D:List Nat) (k:Nat):AE×AH:=(mkE [(0,.si .u64 ((U:Nat):Int)),(2,.fn 238 [.ptr 0 0] []),(6,.si .i64 (((k:Nat):Int)-1))],mkH [(0,.cells (nK 2 D) true),(2,.cells (de ((pack D))) true)])
theorem tH{U:Nat}{D:List Nat}{k:Nat}{p n:Nat}{σ:AE}{H:AH}(j2:Nat)(m:j2≠0)(o:p<=2)(d:ah H 3 (λb=>if b=2 then j2 else b) (aj (pa 0) σ) (.si .u64 ((U:Nat):Int)))(e:ah H 3 (λb=>if b=2 then j2 else b) (aj (pa 2) σ) (.fn 238 [.ptr 0 0] []))(f:mk (aj (pa 6) σ)= .si .i64 (((k:Nat):Int)-1))(i:∃l,H.get 0=some (.cells l true)/\mO H 3 (λb=>if b=2 then j2 else b) l (nK 2 D))(j:(∃l,H.get j2=some (.cells l true)/\l.map mk=de ((pack D)))∨(((pack D))=[]/\n<=j2)):Cov p σ H n ((wc U D k).1,(wc U D k).2,3):=
 Cov.ofB (λb=>if b=2 then j2 else b) (by omega) (λb r=>by repeat' rw[if_neg (by omega)]) ⟨d,e,.int f,trivial⟩ ⟨.inl (i.elim λl h=>⟨_,h.1,ao.st h.2⟩),j.elim (λ⟨l,h,g⟩=> .inl ⟨_,h,ao.bA (mN _) (by rw[g,gZ]) (λq=>q)⟩) (λh=> .inr ⟨by rw[h.1];rfl,h.2⟩),trivial⟩ rfl (λx a y c=>by simp only[Z4,Z5,or_false]at a c;rcases a with rfl|rfl<;>rcases c with rfl|rfl<;>simp<;>omega)
def KW:FuncId->EP:=bg 238 [] evP
theorem VV:aV KW:=au az (by kernel_rfl) (by kernel_rfl)
theorem MK{U k:Nat}(a:k<=64)(hd:U/2^k=0):¬0<((U:Nat):Int).fdiv ((2:Int)^min (Int.toNat (k:Int)) IntKind.u64.bits):=by
 rw[show min (Int.toNat (k:Int)) IntKind.u64.bits=k from by show min k 64=k;omega,fdiv_pow,hd];decide
theorem tyB:RTy 248 248 1 1:=⟨_,_,_,rfl,rfl,(λq h=>by cases h),rfl,rfl,rfl,rfl,by decide,by decide⟩
theorem ML(B:List Nat)(U k:Nat)(J:eH B)(K:k<=64)(L:U<2^k)(M:B.length<=100000000):ax KW 5 226 [.ptr 0 0,.si .u64 (U:Int),.si .i64 (k:Int)] (mkH [(0,.cells (nK 1 B) true),(1,.cells (de (pack B)) true)]) 2
 λu H' _=>u= .int .i64 0/\H'.get 0=some (.cells (nK 2 (B++bitsOf U k)) true)/\H'.get 2=some (.cells (de (pack (B++bitsOf U k))) true):=by
 have y:U/2^k=0:=q3d L;have z:IntKind.i64.wrap ((k:Int)-1)=(k:Int)-1:=dh ⟨by omega,by omega⟩
 conv=>whnf
 refine ae.dec (λh=>absurd h (by omega)) (λ_=>?_)
 conv=>whnf
 refine ae.dec (λh=>absurd h (by omega)) (λ_=>?_)
 conv=>whnf
 refine ae.dec (λE=>?_) (λE=>?_)
 ·conv=>whnf
  refine⟨by omega,?_⟩
  conv=>whnf
  refine ae.dec (λh=>absurd h (MK K y)) (λ_=>?_)
  conv=>whnf
  refine aR.mk {t:List Nat×Nat//t.1++bitsOf U t.2=B++bitsOf U k/\eH t.1/\t.2<=k/\t.1.length+t.2=B.length+k} 3 (λt=>wc U t.val.1 t.val.2) (λt=>t.val.2) ⟨(B,k),rfl,J,Z3 _,rfl⟩ ?_ ?_
  ·exact tH (j2:=1) (by decide) (Z3 2) (.int rfl) (.fnp (by decide) rfl) (congrArg (AV.si .i64) z) ⟨_,rfl,.cons (ah.rw (by decide) rfl) (.cons (.int rfl) .nil)⟩ (.inl ⟨_,rfl,gZ _⟩)
  ·intro⟨(D,m),v,w,F,j⟩;dsimp only at v w F j;have G:D.length<=100000064:=by omega
   have H:(pack D).length<=100000000:=by rw[bq];omega
   cases m with
   |zero=>
    conv=>whnf
    refine ae.dec (λx=>absurd x (by show¬(0:Int)<=((0:Nat):Int)-1;omega)) (λ_=>?_)
    conv=>whnf
    have e:D=B++bitsOf U k:=by simpa[bitsOf]using v
    subst e;exact⟨rfl,rfl,rfl⟩
   |succ m=>
    have g:U/2^m%2<2:=q4l _ (by decide);have l:0<=((m+1:Nat):Int)-1:=by omega
    have C:((m+1:Nat):Int)-1=(m:Int):=by omega
    have d:=MF (U:=U) C (by omega);have n:IntKind.i64.wrap (((m+1:Nat):Int)-1-1)=((m:Nat):Int)-1:=(congrArg IntKind.i64.wrap (congrArg (·-1) C)).trans (dh ⟨by omega,by omega⟩);have o:IntKind.i64.wrap ((D.length:Int)+1)=(((D++ [U/2^m%2]).length:Nat):Int):=by rw[Z6,q2l];exact dh ⟨by omega,by omega⟩
    have hq:=div_eq D.length (by omega);have f:0<=IntKind.i64.wrap (7-(D.length:Int).tmod 8):=by rw[G5];omega
    have p:bl (de (pack D)) 0 ((pack D).length*1)=some (de (pack D)):=bC (by rw[iD,q0p]);have a:(D++ [U/2^m%2])++bitsOf U m=B++bitsOf U k:=by rw[q0o,<-uE];exact v
    have r:((pack D).length+1)*1<=140737488355328:=by omega
    have s:eH (D++ [U/2^m%2]):=w.app (.one g)
    conv=>whnf
    refine ae.dec (λ_=>?_) (λx=>absurd l x)
    conv=>whnf
    refine⟨l,?_⟩
    conv=>whnf
    refine ae.dec (λc=>?_) (λc=>?_)
    ·have c:=(G6 _).1 c;have i:(pack (D++ [U/2^m%2])).length=(pack D).length+1:=by rw[wV c];simp
     have ho:0+D.length/8*1=D.length/8:=by omega
     have b:D.length/8<(pack D).length+1:=by rw[bq];omega
     conv=>whnf
     refine bI.grow 1 1 _ _ _ _ _ _ tyB (.old rfl) rfl rfl (.rw rfl p) r ?_
     conv=>whnf
     refine Idx.mk (D.length/8) hq b ?_
     conv=>whnf
     refine aw (MG c ho) ?_
     conv=>whnf
     refine⟨f,?_⟩
     conv=>whnf
     refine Idx.mk (D.length/8) hq b ?_
     conv=>whnf
     refine aw (G7 g d c ho) ?_
     conv=>whnf
     refine⟨⟨(D++ [U/2^m%2],m),a,s,by omega,by simp;omega⟩,q1m m,tH (j2:=4) (by decide) (Z3 2) (.int rfl) (.fnp (by decide) rfl) (congrArg (AV.si .i64) n) ⟨_,rfl,.cons (ah.rw (by decide) rfl (hn:=i.symm)) (.cons (.int (congrArg (AV.si .i64) o)) .nil)⟩ (.inl ⟨_,rfl,gZ _⟩)⟩
    ·have c:D.length%8≠0:=λq=>c ((G6 _).2 q)
     have i:(pack (D++ [U/2^m%2])).length=(pack D).length:=by rw[bq,bq];simp;omega
     have ho:0+D.length/8*1=D.length/8:=by omega
     have b:D.length/8<(pack D).length:=by rw[bq];omega
     conv=>whnf
     refine Idx.mk (D.length/8) hq b ?_
     conv=>whnf
     refine aw (MH c ho) ?_
     conv=>whnf
     refine⟨f,?_⟩
     conv=>whnf
     refine Idx.mk (D.length/8) hq b ?_
     conv=>whnf
     refine aw (G8 w g d c ho) ?_
     conv=>whnf
     refine⟨⟨(D++ [U/2^m%2],m),a,s,by omega,by simp;omega⟩,q1m m,tH (j2:=2) (by decide) (Z3 2) (.int rfl) (.fnp (by decide) rfl) (congrArg (AV.si .i64) n) ⟨_,rfl,.cons (ah.rw (by decide) rfl (hn:=i.symm)) (.cons (.int (congrArg (AV.si .i64) o)) .nil)⟩ (.inl ⟨_,rfl,gZ _⟩)⟩
 ·conv=>whnf
  refine aR.mk {t:List Nat×Nat//t.1++bitsOf U t.2=B++bitsOf U k/\eH t.1/\t.2<=k/\t.1.length+t.2=B.length+k} 3 (λt=>wc U t.val.1 t.val.2) (λt=>t.val.2) ⟨(B,k),rfl,J,Z3 _,rfl⟩ ?_ ?_
  ·exact tH (j2:=1) (by decide) (Z3 2) (.int rfl) (.fnp (by decide) rfl) (congrArg (AV.si .i64) z) ⟨_,rfl,.cons (ah.rw (by decide) rfl) (.cons (.int rfl) .nil)⟩ (.inl ⟨_,rfl,gZ _⟩)
  ·intro⟨(D,m),v,w,F,j⟩;dsimp only at v w F j;have G:D.length<=100000064:=by omega
   have H:(pack D).length<=100000000:=by rw[bq];omega
   cases m with
   |zero=>
    conv=>whnf
    refine ae.dec (λx=>absurd x (by show¬(0:Int)<=((0:Nat):Int)-1;omega)) (λ_=>?_)
    conv=>whnf
    have e:D=B++bitsOf U k:=by simpa[bitsOf]using v
    subst e;exact⟨rfl,rfl,rfl⟩
   |succ m=>
    have g:U/2^m%2<2:=q4l _ (by decide);have l:0<=((m+1:Nat):Int)-1:=by omega
    have C:((m+1:Nat):Int)-1=(m:Int):=by omega
    have d:=MF (U:=U) C (by omega);have n:IntKind.i64.wrap (((m+1:Nat):Int)-1-1)=((m:Nat):Int)-1:=(congrArg IntKind.i64.wrap (congrArg (·-1) C)).trans (dh ⟨by omega,by omega⟩);have o:IntKind.i64.wrap ((D.length:Int)+1)=(((D++ [U/2^m%2]).length:Nat):Int):=by rw[Z6,q2l];exact dh ⟨by omega,by omega⟩
    have hq:=div_eq D.length (by omega);have f:0<=IntKind.i64.wrap (7-(D.length:Int).tmod 8):=by rw[G5];omega
    have p:bl (de (pack D)) 0 ((pack D).length*1)=some (de (pack D)):=bC (by rw[iD,q0p]);have a:(D++ [U/2^m%2])++bitsOf U m=B++bitsOf U k:=by rw[q0o,<-uE];exact v
    have r:((pack D).length+1)*1<=140737488355328:=by omega
    have s:eH (D++ [U/2^m%2]):=w.app (.one g)
    conv=>whnf
    refine ae.dec (λ_=>?_) (λx=>absurd l x)
    conv=>whnf
    refine⟨l,?_⟩
    conv=>whnf
    refine ae.dec (λc=>?_) (λc=>?_)
    ·have c:=(G6 _).1 c;have i:(pack (D++ [U/2^m%2])).length=(pack D).length+1:=by rw[wV c];simp
     have ho:0+D.length/8*1=D.length/8:=by omega
     have b:D.length/8<(pack D).length+1:=by rw[bq];omega
     conv=>whnf
     refine bI.grow 1 1 _ _ _ _ _ _ tyB (.old rfl) rfl rfl (.rw rfl p) r ?_
     conv=>whnf
     refine Idx.mk (D.length/8) hq b ?_
     conv=>whnf
     refine aw (MG c ho) ?_
     conv=>whnf
     refine⟨f,?_⟩
     conv=>whnf
     refine Idx.mk (D.length/8) hq b ?_
     conv=>whnf
     refine aw (G7 g d c ho) ?_
     conv=>whnf
     refine⟨⟨(D++ [U/2^m%2],m),a,s,by omega,by simp;omega⟩,q1m m,tH (j2:=4) (by decide) (Z3 2) (.int rfl) (.fnp (by decide) rfl) (congrArg (AV.si .i64) n) ⟨_,rfl,.cons (ah.rw (by decide) rfl (hn:=i.symm)) (.cons (.int (congrArg (AV.si .i64) o)) .nil)⟩ (.inl ⟨_,rfl,gZ _⟩)⟩
    ·have c:D.length%8≠0:=λq=>c ((G6 _).2 q)
     have i:(pack (D++ [U/2^m%2])).length=(pack D).length:=by rw[bq,bq];simp;omega
     have ho:0+D.length/8*1=D.length/8:=by omega
     have b:D.length/8<(pack D).length:=by rw[bq];omega
     conv=>whnf
     refine Idx.mk (D.length/8) hq b ?_
     conv=>whnf
     refine aw (MH c ho) ?_
     conv=>whnf
     refine⟨f,?_⟩
     conv=>whnf
     refine Idx.mk (D.length/8) hq b ?_
     conv=>whnf
     refine aw (G8 w g d c ho) ?_
     conv=>whnf
     refine⟨⟨(D++ [U/2^m%2],m),a,s,by omega,by simp;omega⟩,q1m m,tH (j2:=2) (by decide) (Z3 2) (.int rfl) (.fnp (by decide) rfl) (congrArg (AV.si .i64) n) ⟨_,rfl,.cons (ah.rw (by decide) rfl (hn:=i.symm)) (.cons (.int (congrArg (AV.si .i64) o)) .nil)⟩ (.inl ⟨_,rfl,gZ _⟩)⟩
theorem nL{H:AH}{n b:Nat}{o:AO}(d:b<n)(h:H.get b=some (cP (bu [b] n) o))(e:o.void=false∨o.own=true):iX H n [b] [o]:=⟨by simp,rfl,λi s q a c=>by
 match i,a,c with
 |0,a,c=>injection a with a;injection c with c;subst a c;exact⟨d,h,e⟩⟩
theorem AU{H:AH}{n b c:Nat}{o q:AO}(e:b≠c)(f:b<n)(g:c<n)(h:H.get b=some (cP (bu [b,c] n) o))(k:H.get c=some (cP (bu [b,c] n) q))(j:o.void=false∨o.own=true)(l:q.void=false∨q.own=true):iX H n [b,c] [o,q]:=
 ⟨by simp[e],rfl,λi s r a d=>by
  match i,a,d with
  |0,a,d=>injection a with a;injection d with d;subst a d;exact⟨f,h,j⟩
  |1,a,d=>injection a with a;injection d with d;subst a d;exact⟨g,k,l⟩⟩
theorem sw(r:Nat->Nat)(c:Nat)(B:List Nat):dY r (nK c B)=nK (r c) B:=rfl
theorem sx(r:Nat->Nat)(s:List Nat):dY r (de s)=de s:=zp r _ (mN s)
theorem X6(H:AH)(n b c:Nat)(B:List Nat):ki [b,c] n H [(0,some (.cells (nK 2 B) true)),(1,none),(2,some (.cells (de (pack B)) true))]=VU H n b c B:=by
 simp only[ki,q0e,q2k,cP,sw,sx];rfl
theorem MM:ak 226 ve:=λargs H n J d L l M N K m a p=>by
 unfold ve at d;split at d
 ·obtain⟨x,y,z,rfl,q,r,s⟩:=vs3 a;obtain⟨b,c,U,k,B,rfl,f,g,h,t,v,w,A,C,e,D,E,d⟩:=d
  refine dC (S:=[b,c]) (O:=[.cells (nK 1 B) true,.cells (de (pack B)) true]) (args0:=[.ptr 0 0,.si .u64 (U:Int),.si .i64 (k:Int)]) (ay VV 5 _) (by kernel_rfl) m
   (AU f g h (by rw[cP,sw];exact t) (by rw[cP,sx];exact v) (.inr rfl) (.inr rfl)) ?_ p (ML B U k w e D E) λu P Q ⟨F,G,I⟩=>?_
  ·exact .cons q (.cons (by have:=r.mk;rw[A]at this;exact this) (.cons (by have:=s.mk;rw[C]at this;exact this) .nil))
  ·subst F;refine⟨3,ki [b,c] n H [(0,some (.cells (nK 2 (B++bitsOf U k)) true)),(1,none),(2,some (.cells (de (pack (B++bitsOf U k))) true))],q2n 2,fF.put (q2n 2) rfl (λx j o ho=>?_),rfl,?_⟩
   ·simp only[Z4,Z5,or_false]at j;rcases j with rfl|rfl|rfl
    ·injection ho with ho;subst ho;exact⟨G,rfl,rfl⟩
    ·cases ho
    ·injection ho with ho;subst ho;exact⟨I,rfl,wX _ _ (mN _)⟩
   ·rw[X6];exact d
 ·exact d.elim
def KP1:FuncId->EP:=aq 226 ve evP
theorem Tm:aV KP1:=ag az MM
theorem oZ{U:Nat}{w:Int}{m:Nat}(a:min w.toNat IntKind.u64.bits=m)(h:U/2^m=0):¬0<((U:Nat):Int).fdiv ((2:Int)^min w.toNat IntKind.u64.bits):=by
 rw[a,fdiv_pow,h];decide
theorem dq{U:Nat}{w:Int}{m:Nat}(a:min w.toNat IntKind.u64.bits=m)(h:U/2^m≠0):¬¬0<((U:Nat):Int).fdiv ((2:Int)^min w.toNat IntKind.u64.bits):=by
 rw[a,fdiv_pow];exact not_not_intro (Int.natCast_pos.2 (q3c h))
theorem MN(B:List Nat)(U:Nat)(f:eH B)(v:U<18446744073709551616)(w:B.length<=99999000):ax KP1 3 227 [.ptr 0 0,.si .u64 (U:Int)] (mkH [(0,.cells (nK 1 B) true),(1,.cells (de (pack B)) true)]) 2
 λu H' _=>u= .int .i64 0/\∃n,n=B++bh U/\H'.get 0=some (.cells (nK 6 n) true)/\H'.get 6=some (.cells (de (pack n)) true):=by
 have k:U≠0->U/2^0≠0:=λh=>by simpa using h
 have o:¬U<128->U/2^7≠0:=λh=>Nat.ne_of_gt (Nat.div_pos (by show 128<=U;omega) (by decide))
 have p:¬U<4096->U/2^12≠0:=λh=>Nat.ne_of_gt (Nat.div_pos (by show 4096<=U;omega) (by decide))
 have q:¬U<16777216->U/2^24≠0:=λh=>Nat.ne_of_gt (Nat.div_pos (by show 16777216<=U;omega) (by decide))
 have r:U=0->U/2^0=0:=λh=>by simp[h]
 have s:U<128->U/2^7=0:=λh=>q3d h
 have z2:U<4096->U/2^12=0:=λh=>q3d h
 have t:U<16777216->U/2^24=0:=λh=>q3d h
 by_cases e:U=0
 ·have g:(B++bitsOf 0 1)++bitsOf U 0=B++bh U:=by
   rw[q0o];congr 1;unfold bh;rw[if_pos e];rfl
  have a:eH (B++bitsOf 0 1):=f.app (dK _ _);have b:(B++bitsOf 0 1).length<=100000000:=by rw[Z6,aO];omega
  have c:B.length<=100000000:=by omega
  have d:U<2^0:=by subst e;decide
  conv=>whnf
  refine aR.roll 6 ?_
  conv=>whnf
  refine ae.dec (λh=>absurd h (oZ (m:=0) rfl (r e))) (λ_=>?_)
  conv=>whnf
  refine⟨0,1,0,1,B,rfl,by decide,by decide,by decide,rfl,rfl,f,rfl,rfl,by decide,by decide,c,?_⟩
  conv=>whnf
  refine⟨0,_,U,0,B++bitsOf 0 1,rfl,?_,by decide,?_,rfl,rfl,a,rfl,rfl,by decide,d,b,?_⟩
  ·decide
  ·decide
  conv=>whnf
  exact⟨rfl,_,g,rfl,rfl⟩
 ·skip
  by_cases i:U<128
  ·have g:(B++bitsOf 2 2)++bitsOf U 7=B++bh U:=by
    rw[q0o];congr 1;unfold bh;rw[if_neg e,if_pos i];rfl
   have a:eH (B++bitsOf 2 2):=f.app (dK _ _);have b:(B++bitsOf 2 2).length<=100000000:=by rw[Z6,aO];omega
   have c:B.length<=100000000:=by omega
   have d:U<2^7:=by omega
   conv=>whnf
   refine aR.roll 6 ?_
   conv=>whnf
   refine ae.dec (λ_=>?_) (λh=>absurd h (dq (m:=0) rfl (k e)))
   conv=>whnf
   refine ae.dec (λh=>absurd h (oZ (m:=7) rfl (s i))) (λ_=>?_)
   conv=>whnf
   refine⟨0,1,2,2,B,rfl,by decide,by decide,by decide,rfl,rfl,f,rfl,rfl,by decide,by decide,c,?_⟩
   conv=>whnf
   refine⟨0,_,U,7,B++bitsOf 2 2,rfl,?_,by decide,?_,rfl,rfl,a,rfl,rfl,by decide,d,b,?_⟩
   ·decide
   ·decide
   conv=>whnf
   exact⟨rfl,_,g,rfl,rfl⟩
  ·skip
   by_cases j:U<4096
   ·have g:(B++bitsOf 6 3)++bitsOf U 12=B++bh U:=by
     rw[q0o];congr 1;unfold bh;rw[if_neg e,if_neg i,if_pos j];rfl
    have a:eH (B++bitsOf 6 3):=f.app (dK _ _);have b:(B++bitsOf 6 3).length<=100000000:=by rw[Z6,aO];omega
    have c:B.length<=100000000:=by omega
    have d:U<2^12:=by omega
    conv=>whnf
    refine aR.roll 6 ?_
    conv=>whnf
    refine ae.dec (λ_=>?_) (λh=>absurd h (dq (m:=0) rfl (k e)))
    conv=>whnf
    refine ae.dec (λ_=>?_) (λh=>absurd h (dq (m:=7) rfl (o i)))
    conv=>whnf
    refine ae.dec (λh=>absurd h (oZ (m:=12) rfl (z2 j))) (λ_=>?_)
    conv=>whnf
    refine⟨0,1,6,3,B,rfl,by decide,by decide,by decide,rfl,rfl,f,rfl,rfl,by decide,by decide,c,?_⟩
    conv=>whnf
    refine⟨0,_,U,12,B++bitsOf 6 3,rfl,?_,by decide,?_,rfl,rfl,a,rfl,rfl,by decide,d,b,?_⟩
    ·decide
    ·decide
    conv=>whnf
    exact⟨rfl,_,g,rfl,rfl⟩
   ·skip
    by_cases l:U<16777216
    ·have g:(B++bitsOf 14 4)++bitsOf U 24=B++bh U:=by
      rw[q0o];congr 1;unfold bh;rw[if_neg e,if_neg i,if_neg j,if_pos l];rfl
     have a:eH (B++bitsOf 14 4):=f.app (dK _ _);have b:(B++bitsOf 14 4).length<=100000000:=by rw[Z6,aO];omega
     have c:B.length<=100000000:=by omega
     have d:U<2^24:=by omega
     conv=>whnf
     refine aR.roll 6 ?_
     conv=>whnf
     refine ae.dec (λ_=>?_) (λh=>absurd h (dq (m:=0) rfl (k e)))
     conv=>whnf
     refine ae.dec (λ_=>?_) (λh=>absurd h (dq (m:=7) rfl (o i)))
     conv=>whnf
     refine ae.dec (λ_=>?_) (λh=>absurd h (dq (m:=12) rfl (p j)))
     conv=>whnf
     refine ae.dec (λh=>absurd h (oZ (m:=24) rfl (t l))) (λ_=>?_)
     conv=>whnf
     refine⟨0,1,14,4,B,rfl,by decide,by decide,by decide,rfl,rfl,f,rfl,rfl,by decide,by decide,c,?_⟩
     conv=>whnf
     refine⟨0,_,U,24,B++bitsOf 14 4,rfl,?_,by decide,?_,rfl,rfl,a,rfl,rfl,by decide,d,b,?_⟩
     ·decide
     ·decide
     conv=>whnf
     exact⟨rfl,_,g,rfl,rfl⟩
    ·skip
     have g:(B++bitsOf 15 4)++bitsOf U 64=B++bh U:=by
      rw[q0o];congr 1;unfold bh;rw[if_neg e,if_neg i,if_neg j,if_neg l];rfl
     have a:eH (B++bitsOf 15 4):=f.app (dK _ _);have b:(B++bitsOf 15 4).length<=100000000:=by rw[Z6,aO];omega
     have c:B.length<=100000000:=by omega
     have d:U<2^64:=by omega
     conv=>whnf
     refine aR.roll 6 ?_
     conv=>whnf
     refine ae.dec (λ_=>?_) (λh=>absurd h (dq (m:=0) rfl (k e)))
     conv=>whnf
     refine ae.dec (λ_=>?_) (λh=>absurd h (dq (m:=7) rfl (o i)))
     conv=>whnf
     refine ae.dec (λ_=>?_) (λh=>absurd h (dq (m:=12) rfl (p j)))
     conv=>whnf
     refine ae.dec (λ_=>?_) (λh=>absurd h (dq (m:=24) rfl (q l)))
     conv=>whnf
     refine⟨0,1,15,4,B,rfl,by decide,by decide,by decide,rfl,rfl,f,rfl,rfl,by decide,by decide,c,?_⟩
     conv=>whnf
     refine⟨0,_,U,64,B++bitsOf 15 4,rfl,?_,by decide,?_,rfl,rfl,a,rfl,rfl,by decide,d,b,?_⟩
     ·decide
     ·decide
     conv=>whnf
     exact⟨rfl,_,g,rfl,rfl⟩
def Sl (H:AH) (n b c:Nat) (B:List Nat):AH:=((((((H.set (some (.cells (de (pack B)) true)) aa (n+4)).set none aa (n+3)).set none aa (n+2)).set none aa (n+1)).set none aa n).set none aa c).set (some (.cells (nK (n+4) B) true)) aa b
def AW(args:List AV)(H:AH)(n:Nat)(κ:PK):Prop:=match args with
 | [x,u]=>∃(b c U:Nat) (B:List Nat),x= .ptr b 0/\b≠c/\b<n/\c<n/\H.get b=some (.cells (nK c B) true)/\H.get c=some (.cells (de (pack B)) true)/\eH B/\mk u= .si .u64 (U:Int)/\U<18446744073709551616/\B.length<=99999000/\
  κ (.int .i64 0) (Sl H n b c (B++bh U)) (n+5)
 |_=>False
def G9(B:List Nat):List (Nat×Option AO):=[(0,some (.cells (nK 6 B) true)),(1,none),(2,none),(3,none),(4,none),(5,none),(6,some (.cells (de (pack B)) true))]
theorem X7(H:AH)(n b c:Nat)(B:List Nat):ki [b,c] n H (G9 B)=Sl H n b c B:=by
 simp only[ki,G9,q0e,q2k,cP,sw,sx];rfl
theorem Tn:ak 227 AW:=λargs H n E d F k G I K l a m=>by
 unfold AW at d;split at d
 ·obtain⟨x,y,rfl,p,q⟩:=vs2 a;obtain⟨b,c,U,B,rfl,e,f,g,r,s,t,v,w,z,d⟩:=d
  refine dC (S:=[b,c]) (O:=[.cells (nK 1 B) true,.cells (de (pack B)) true]) (args0:=[.ptr 0 0,.si .u64 (U:Int)]) (ay Tm 3 _) (by kernel_rfl) l
   (AU e f g (by rw[cP,sw];exact r) (by rw[cP,sx];exact s) (.inr rfl) (.inr rfl)) ?_ m (MN B U t w z) λu J L ⟨A,M,i,C,D⟩=>?_
  ·exact .cons p (.cons (by have:=q.mk;rw[v]at this;exact this) .nil)
  ·subst A i;refine⟨7,ki [b,c] n H (G9 (B++bh U)),Z0 rfl,fF.put (Z0 rfl) rfl (λx j o ho=>?_),rfl,?_⟩
   ·simp only[G9,Z4,Z5,or_false]at j;rcases j with rfl|rfl|rfl|rfl|rfl|rfl|rfl
    ·injection ho with ho;subst ho;exact⟨C,rfl,rfl⟩
    ·cases ho
    ·cases ho
    ·cases ho
    ·cases ho
    ·cases ho
    ·injection ho with ho;subst ho;exact⟨D,rfl,wX _ _ (mN _)⟩
   ·rw[X7];exact d
 ·exact d.elim
def KE:FuncId->EP:=bg 221 [] (aq 227 AW (aq 226 ve evP))
theorem Sm:aV KE:=au (ag (ag az MM) Tn) (by kernel_rfl) (by kernel_rfl)
theorem Ha{n:Int}(h:aQ n):cj .xor .u64 (IntKind.u64.wrap (IntKind.u64.wrap n*(2:Int)^min (Int.toNat 1) IntKind.u64.bits)) (IntKind.u64.wrap (n.fdiv ((2:Int)^min (Int.toNat 63) IntKind.i64.bits)))=((AN n:Nat):Int):=Tg h
theorem qZ(X:Smp)(i:Nat):aF X (i+1)=aF X i++cx X i:=rfl
theorem MO(X:Smp):aF X 0++bitsOf (il (tAt X 0)) 64++bitsOf (il (vAt X 0)) 64=aF X (0+1):=by
 rw[qZ,q0o];rfl
theorem MP(X:Smp){i:Nat}(h:i≠0):aF X i++bh (dT X i)++bh (dV X i)=aF X (i+1):=by
 rw[qZ,q0o];unfold cx;rw[if_neg h]
theorem w8:pack []=[]:=by simp[pack]
def ec (L:Smp) (cap:Nat) (i:Nat):AE×AH:=(mkE [(0,.sy 0 0 L.length cap 0),(4,.ptr 1 (0)),(5,.si .i64 (eJ L i)),(11,.sy 0 0 L.length cap 0),(12,.si .i64 (((L.length:Nat):Int))),(13,.si .i64 (((i:Nat):Int)))],mkH [(0,.ro (smp (L))),(1,.cells (nK 2 (aF L i)) true),(2,.cells (de ((pack (aF L i)))) true)])
theorem Fs{L:Smp}{cap:Nat}{i:Nat}{p n:Nat}{σ:AE}{H:AH}(j2:Nat)(t:j2≠0/\j2≠1)(u:p<=1)(j:mk (aj (pa 0) σ)= .sy 0 0 L.length cap 0)(k:aj (pa 4) σ= .ptr 1 (0))(m:mk (aj (pa 5) σ)= .si .i64 (eJ L i))(a:mk (aj (pa 11) σ)= .sy 0 0 L.length cap 0)(c:mk (aj (pa 12) σ)= .si .i64 (((L.length:Nat):Int)))(d:mk (aj (pa 13) σ)= .si .i64 (((i:Nat):Int)))(o:H.get 0=some (.ro (smp (L))))(r:∃l,H.get 1=some (.cells l true)/\mO H 3 (λb=>if b=2 then j2 else b) l (nK 2 (aF L i)))(s:(∃l,H.get j2=some (.cells l true)/\l.map mk=de ((pack (aF L i))))∨(((pack (aF L i)))=[]/\n<=j2)):Cov p σ H n ((ec L cap i).1,(ec L cap i).2,3):=
 Cov.ofB (λb=>if b=2 then j2 else b) (by omega) (λb v=>by repeat' rw[if_neg (by omega)]) ⟨.sy (by decide) j,.ptr (by decide) k,.int m,.sy (by decide) a,.int c,.int d,trivial⟩ ⟨.inl ⟨_,o,ao.CQ (cg _) rfl⟩,.inl (r.elim λl h=>⟨_,h.1,ao.st h.2⟩),s.elim (λ⟨l,h,g⟩=> .inl ⟨_,h,ao.bA (mN _) (by rw[g,gZ]) (λq=>q)⟩) (λh=> .inr ⟨by rw[h.1];rfl,h.2⟩),trivial⟩ rfl (λx e y f=>by simp only[Z4,Z5,or_false]at e f;rcases e with rfl|rfl|rfl<;>rcases f with rfl|rfl|rfl<;>simp<;>omega)
theorem P0(L:Smp)(cap:Nat)(C:L.length<=100000)(B:∀x∈L,aQ x.1/\aQ x.2):ax KE 3 221 [.sy 0 0 L.length cap 0] (mkH [(0,.ro (smp L))]) 1
 λu _ _=>mkT u=mkT (.tup [.ss (pack (aX L)),.si .i64 ((aX L).length:Int)]):=by
 conv=>whnf
 refine aR.mk {i:Nat//i<=L.length} 3 (λi=>ec L cap i.val) (λi=>L.length-i.val) ⟨0,Y5 _⟩ ?_ ?_
 ·exact Fs (j2:=2) (by decide) (Z3 1) rfl rfl rfl rfl rfl rfl rfl ⟨_,rfl,.cons (.iU rfl (hn:=congrArg List.length w8)) (.cons (.int rfl) .nil)⟩ (.inr ⟨w8,Z3 _⟩)
 ·intro⟨i,D⟩;have c:((aF L i).length)<=13600000:=Y7 (pP L i) (by omega);have k:bl (de (pack (aF L i))) 0 (pack (aF L i)).length=some (de (pack (aF L i))):=bC (iD _);have l:k9 (de (pack (aF L i)))=some (pack (aF L i)):=Di (G0 (im L i));have m:i<L.length->IntKind.i64.wrap ((i:Int)+1)=(((i+1:Nat)):Int):=λq=>dh ⟨by omega,by omega⟩
  conv=>whnf
  refine ae.dec (λh=>?_) (λh=>?_)
  ·have a:i<L.length:=by exact q0s.1 h
   have p:L[i].1=tAt L i:=(eM a).symm;have A:L[i].2=vAt L i:=(oX a).symm
   conv=>whnf
   refine Idx.mk i rfl a ?_
   conv=>whnf
   refine aw (fO a (q0x _)) ?_
   conv=>whnf
   refine ae.dec (λb=>?_) (λb=>?_)
   ·have b:i=0:=by exact q3y.1 b
    subst b;have d:AV.si .u64 (IntKind.u64.wrap L[0].1)= .si .u64 ((il (tAt L 0):Nat):Int):=congrArg (AV.si .u64) ((MA _).trans (by rw[p]));have e:AV.si .u64 (IntKind.u64.wrap L[0].2)= .si .u64 ((il (vAt L 0):Nat):Int):=congrArg (AV.si .u64) ((MA _).trans (by rw[A]));have f:eH (aF L 0++bitsOf (il (tAt L 0)) 64):=(im L 0).app (dK _ _);have g:(aF L 0++bitsOf (il (tAt L 0)) 64).length<=100000000:=by rw[Z6,aO];omega
    conv=>whnf
    refine⟨1,2,il (tAt L 0),64,aF L 0,rfl,by decide,by decide,by decide,rfl,rfl,im _ _,d,rfl,Z3 _,Fl _,Y7 c (by decide),?_⟩
    conv=>whnf
    refine⟨1,4,il (vAt L 0),64,aF L 0++bitsOf (il (tAt L 0)) 64,rfl,by decide,by decide,by decide,rfl,rfl,f,e,rfl,Z3 _,Fl _,g,?_⟩
    conv=>whnf
    refine⟨⟨1,by omega⟩,(show L.length-1<L.length-0 by omega),Fs (j2:=5) (by decide) (Z3 1) rfl rfl (congrArg (AV.si .i64) rfl) rfl rfl (congrArg (AV.si .i64) (m a)) rfl ⟨_,rfl,.cons (ah.rw (by decide) rfl (hn:=congrArg (λx=>(pack x).length) (MO L))) (.cons (.int (congrArg (λx:List Nat=>AV.si .i64 (x.length:Int)) (MO L))) .nil)⟩ (.inl ⟨_,rfl,(gZ _).trans (congrArg (λx=>de (pack x)) (MO L))⟩)⟩
   ·have b:i≠0:=λq=>b (by exact q3y.2 q)
    have j:i-1<L.length:=by omega
    have n:IntKind.i64.wrap ((i:Int)-1)=((i-1:Nat):Int):=(dh ⟨by omega,by omega⟩).trans (by omega);have o:L[i-1].1=tAt L (i-1):=(eM j).symm;have r:L[i-1].2=vAt L (i-1):=(oX j).symm;have s:0+(i-1)*2+0=(i-1)*2:=by omega
    have t:0+(i-1)*2+1=(i-1)*2+1:=by omega
    have v:IntKind.i64.wrap (L[i].1-L[i-1].1)=eJ L (i+1):=by
     unfold eJ;rw[if_neg (by omega),p,o];rfl
    have d:AV.si .u64 (cj .xor .u64 (IntKind.u64.wrap (IntKind.u64.wrap (IntKind.i64.wrap (IntKind.i64.wrap (L[i].1-L[i-1].1)-eJ L i))*(2:Int)^min (Int.toNat 1) IntKind.u64.bits)) (IntKind.u64.wrap ((IntKind.i64.wrap (IntKind.i64.wrap (L[i].1-L[i-1].1)-eJ L i)).fdiv ((2:Int)^min (Int.toNat 63) IntKind.i64.bits))))= .si .u64 ((dT L i:Nat):Int):=congrArg (AV.si .u64) ((Ha (wW _)).trans (by unfold dT;rw[p,o]));have e:AV.si .u64 (cj .xor .u64 (IntKind.u64.wrap (IntKind.u64.wrap (IntKind.i64.wrap (L[i].2-L[i-1].2))*(2:Int)^min (Int.toNat 1) IntKind.u64.bits)) (IntKind.u64.wrap ((IntKind.i64.wrap (L[i].2-L[i-1].2)).fdiv ((2:Int)^min (Int.toNat 63) IntKind.i64.bits))))= .si .u64 ((dV L i:Nat):Int):=congrArg (AV.si .u64) ((Ha (wW _)).trans (by unfold dV;rw[A,r]));have f:eH (aF L i++bh (dT L i)):=(im L i).app (qW _);have g:(aF L i++bh (dT L i)).length<=99999000:=by have:=(gH (dT L i)).1;rw[Z6];omega
    conv=>whnf
    refine Idx.mk (i-1) n j ?_
    conv=>whnf
    refine aw (sa j s) ?_
    conv=>whnf
    refine⟨1,2,dT L i,aF L i,rfl,by decide,by decide,by decide,rfl,rfl,im _ _,d,Sj _ _,Y7 c (by decide),?_⟩
    conv=>whnf
    refine Idx.mk (i-1) n j ?_
    conv=>whnf
    refine aw (wL j t) ?_
    conv=>whnf
    refine⟨1,8,dV L i,aF L i++bh (dT L i),rfl,by decide,by decide,by decide,rfl,rfl,f,e,Sk _ _,g,?_⟩
    conv=>whnf
    refine⟨⟨i+1,by omega⟩,(show L.length-(i+1)<L.length-i by omega),Fs (j2:=13) (by decide) (Z3 1) rfl rfl (congrArg (AV.si .i64) v) rfl rfl (congrArg (AV.si .i64) (m a)) rfl ⟨_,rfl,.cons (ah.rw (by decide) rfl (hn:=congrArg (λx=>(pack x).length) (MP L b))) (.cons (.int (congrArg (λx:List Nat=>AV.si .i64 (x.length:Int)) (MP L b))) .nil)⟩ (.inl ⟨_,rfl,(gZ _).trans (congrArg (λx=>de (pack x)) (MP L b))⟩)⟩
  ·have w:i=L.length:=by have:¬i<L.length:=λq=>h (q0s.2 q);omega
   conv=>whnf
   refine VH.mk _ _ _ _ _ _ _ _ rfl (by decide) ⟨_,rfl,rfl,rfl⟩ (.inr ⟨_,rfl⟩) k l ?_
   conv=>whnf
   subst w;rfl
theorem MQ:ax KE 3 221 [.nsl] .nil 0 λu _ _=>mkT u=mkT (.tup [.ss (pack (aX [])),.si .i64 ((aX []).length:Int)]):=by
 conv=>whnf
 refine aR.roll 1 ?_
 conv=>whnf
 exact(show _=AV.tup [.ss [],.si .i64 0] from rfl).trans (by rw[MB,w8];rfl)
def ra(args:List AV)(H:AH)(n:Nat)(κ:PK):Prop:=match args with
 | [l]=>∃L,mI H l L/\L.length<=100000/\(∀x∈L,aQ x.1/\aQ x.2)/\κ (.tup [.ss (pack (aX L)),.si .i64 ((aX L).length:Int)]) H n
 |_=>False
theorem Dm:ak 221 ra:=λargs H n m a o h q r K c b g=>by
 unfold ra at a;split at a
 ·obtain⟨x,rfl,i⟩:=vs1 b;obtain⟨L,j,k,d,a⟩:=a;rcases j.open c i with⟨rfl,e⟩|⟨p,C,_,f,e⟩
  ·exact ik Sm (v:= .tup [.ss (pack (aX [])),.si .i64 ((aX []).length:Int)]) rfl MQ a c g (by kernel_rfl) HR.ro0 (.cons (e _) .nil)
  ·exact ik Sm (v:= .tup [.ss (pack (aX L)),.si .i64 ((aX L).length:Int)]) rfl (P0 L C k d) a c g (by kernel_rfl) (λl=>HR.ro1 l f) (.cons (e _ 0 rfl) .nil)
 ·exact a.elim
def KB:FuncId->EP:=bg 233 [] (bg 212 [] evP)
theorem MS:aV KB:=au (au az (by kernel_rfl) (by kernel_rfl)) (by kernel_rfl) (by kernel_rfl)
def jR(s:List Nat)(N a:Nat):List AV:=[.ss s,.si .i64 ((N:Nat):Int),.si .i64 ((a:Nat):Int),.sb true]
def vf(args:List AV)(H:AH)(n:Nat)(κ:PK):Prop:=match args with
 | [x,m]=>∃(b:Nat) (s:List Nat) (N a k V:Nat),x= .ptr b 0/\b<n/\H.get b=some (.cells (jR s N a) true)/\mk m= .si .i64 (k:Int)/\k<=64/\a+k<=N/\N<=8*s.length/\s.length<=100000000/\(∀x∈s,x<256)/\cQ 0 (aJ s a k)=V/\
  κ (.tup [.si .u64 (V:Int),.int .i64 0]) (H.set (some (.cells (jR s N (a+k)) true)) aa b) n
 |_=>False
def rg (s:List Nat) (N:Nat) (a:Nat) (k:Nat) (j:Nat):AE×AH:=(mkE [(0,.ptr 0 (0)),(6,.si .u64 ((cQ 0 (aJ s a j):Nat):Int)),(30,.si .i64 (((k:Nat):Int))),(31,.si .i64 (((j:Nat):Int)))],mkH [(0,.cells (jR s N (a+j)) true)])
theorem MT{s:List Nat}{N:Nat}{a:Nat}{k:Nat}{j:Nat}{p n:Nat}{σ:AE}{H:AH}(e:p<=1)(f:aj (pa 0) σ= .ptr 0 (0))(g:ah H 1 (λb=>b) (aj (pa 6) σ) (.si .u64 ((cQ 0 (aJ s a j):Nat):Int)))(c:mk (aj (pa 30) σ)= .si .i64 (((k:Nat):Int)))(d:mk (aj (pa 31) σ)= .si .i64 (((j:Nat):Int)))(i:∃l,H.get 0=some (.cells l true)/\mO H 1 (λb=>b) l (jR s N (a+j))):Cov p σ H n ((rg s N a k j).1,(rg s N a k j).2,1):=
 Cov.ofA e ⟨.ptr (by decide) f,g,.int c,.int d,trivial⟩ ⟨.inl (i.elim λl h=>⟨_,h.1,ao.st h.2⟩),trivial⟩ rfl
theorem To{s:List Nat}(b:∀x∈s,x<256){a c u:Nat}(d:nth s (a/8)=some c)(e:u<9223372036854775808):
 cj .or .u64 (IntKind.u64.wrap (((u:Nat):Int)*(2:Int)^min (Int.toNat 1) IntKind.u64.bits)) (IntKind.u64.wrap (cj .and .u8 ((Int.ofNat c).fdiv ((2:Int)^min (IntKind.i64.wrap (7-((a:Nat):Int).tmod 8)).toNat IntKind.u8.bits)) 1))=((2*u+sj s a:Nat):Int):=PZ b d e
theorem MU(s:List Nat)(N a k:Nat)(o:k<=64)(p:a+k<=N)(r:N<=8*s.length)(m:s.length<=100000000)(n:∀x∈s,x<256):ax KB 3 233 [.ptr 0 0,.si .i64 (k:Int)] (mkH [(0,.cells (jR s N a) true)]) 1
 λu H' _=>u= .tup [.si .u64 ((cQ 0 (aJ s a k):Nat):Int),.int .i64 0]/\H'.get 0=some (.cells (jR s N (a+k)) true):=by
 have b:¬IntKind.i64.wrap ((N:Int)-(a:Int))<(k:Int):=by
  rw[show IntKind.i64.wrap ((N:Int)-(a:Int))=(N:Int)-(a:Int) from dh ⟨by omega,by omega⟩];omega
 conv=>whnf
 refine ae.nsb (λh=>by cases h) (λ_=>?_)
 conv=>whnf
 refine ae.dec (λh=>absurd h (by omega)) (λ_=>?_)
 conv=>whnf
 refine ae.dec (λh=>absurd h (by omega)) (λ_=>?_)
 conv=>whnf
 refine ae.dec (λh=>absurd h b) (λ_=>?_)
 conv=>whnf
 refine aR.mk {j:Nat//j<=k} 1 (λj=>rg s N a k j.val) (λj=>k-j.val) ⟨0,Y5 _⟩ ?_ ?_
 ·exact MT (Z3 1) rfl (.int rfl) rfl rfl ⟨_,rfl,.cons (.str rfl) (.cons (.int rfl) (.cons (.int rfl) (.cons (.bool rfl) .nil)))⟩
 ·intro⟨j,t⟩
  conv=>whnf
  refine ae.dec (λh=>?_) (λh=>?_)
  ·have c:j<k:=by exact q0s.1 h
   have hq:=div_eq (a+j) (by omega);have d:(a+j)/8<s.length:=by omega
   have l:nth s ((a+j)/8)=some s[(a+j)/8]:=by rw[fB,Y0 d]
   have e:0<=IntKind.i64.wrap (7-((a+j:Nat):Int).tmod 8):=by rw[G5];omega
   have f:2*cQ 0 (aJ s a j)+sj s (a+j)=cQ 0 (aJ s a (j+1)):=by rw[De,JJ]
   have hu:=congrArg (AV.si .u64) ((To (u:=cQ 0 (aJ s a j)) n l (JO s a (by omega))).trans (congrArg (λx:Nat=>(x:Int)) f));have g:IntKind.i64.wrap ((j:Int)+1)=(((j+1:Nat)):Int):=dh ⟨by omega,by omega⟩;have i:IntKind.i64.wrap (((a+j:Nat):Int)+1)=(((a+(j+1):Nat)):Int):=dh ⟨by omega,by omega⟩
   conv=>whnf
   refine Idx.mk ((a+j)/8) hq d ?_
   conv=>whnf
   refine Ask.mk _ l ?_
   conv=>whnf
   refine⟨e,?_⟩
   conv=>whnf
   refine⟨⟨j+1,c⟩,(show k-(j+1)<k-j by omega),MT (Z3 1) rfl (.int hu) rfl (congrArg (AV.si .i64) g) ⟨_,rfl,.cons (.str rfl) (.cons (.int rfl) (.cons (.int (congrArg (AV.si .i64) i)) (.cons (.bool rfl) .nil)))⟩⟩
  ·have c:j=k:=by have:¬j<k:=λq=>h (q0s.2 q);omega
   conv=>whnf
   subst c;exact⟨rfl,rfl⟩
theorem MV:ak 233 vf:=λargs H n D c E l F G K m d p=>by
 unfold vf at c;split at c
 ·obtain⟨x,y,rfl,q,r⟩:=vs2 d;obtain⟨b,s,N,a,k,V,rfl,f,t,v,e,w,z,g,h,A,c⟩:=c
  refine dC (S:=[b]) (O:=[.cells (jR s N a) true]) (args0:=[.ptr 0 0,.si .i64 (k:Int)]) (ay MS 3 _) (by kernel_rfl) m
   (nL f t (.inr rfl)) ?_ p (MU s N a k e w z g h) λu I J ⟨B,C⟩=>?_
  ·exact .cons q (.cons (by have:=r.mk;rw[v]at this;exact this) .nil)
  ·subst B;refine⟨1,ki [b] n H [(0,some (.cells (jR s N (a+k)) true))],Z3 _,fF.put (Z3 _) rfl (λx j o ho=>?_),rfl,?_⟩
   ·simp only[Z4,Z5,or_false]at j;subst j;injection ho with ho;subst ho;exact⟨C,rfl,rfl⟩
   ·rw[<-A]at c;exact c
 ·exact c.elim
def KG:FuncId->EP:=aq 233 vf KB
theorem VW:aV KG:=ag MS MV
theorem fP{s:List Nat}{a j b:Nat}{B:List Nat}(h:aJ s a (j+1)=b::B):aJ s a 1=[b]/\aJ s (a+1) j=B:=by
 rw[Nat.add_comm j 1,w6]at h;exact List.append_inj (s₂:=[b]) (t₂:=B) h (by rw[mo];rfl)
theorem MW(s:List Nat)(N a U:Nat)(M:U<18446744073709551616)(c:aJ s a (bh U).length=bh U)(f:a+(bh U).length<=N)(g:N<=8*s.length)(b:s.length<=100000000)(i:∀x∈s,x<256):ax KG 4 236 [.ptr 0 0] (mkH [(0,.cells (jR s N a) true)]) 1
 λu H' _=>u= .tup [.si .u64 (U:Int),.int .i64 0]/\H'.get 0=some (.cells (jR s N (a+(bh U).length)) true):=by
 have B:U≠0->U/2^0≠0:=λh=>by simpa using h
 have D:¬U<128->U/2^7≠0:=λh=>Nat.ne_of_gt (Nat.div_pos (by show 128<=U;omega) (by decide))
 have H:¬U<4096->U/2^12≠0:=λh=>Nat.ne_of_gt (Nat.div_pos (by show 4096<=U;omega) (by decide))
 have I:¬U<16777216->U/2^24≠0:=λh=>Nat.ne_of_gt (Nat.div_pos (by show 16777216<=U;omega) (by decide))
 have J:U=0->U/2^0=0:=λh=>by simp[h]
 have K:U<128->U/2^7=0:=λh=>q3d h
 have z2:U<4096->U/2^12=0:=λh=>q3d h
 have L:U<16777216->U/2^24=0:=λh=>q3d h
 by_cases l:U=0
 ·have k:bh U=[0]++bitsOf U 0:=by
   unfold bh;rw[if_pos l];rfl
  rw[k]at c f⊢;have d:([0]++bitsOf U 0).length=1:=by rw[Z6,aO];rfl
  rw[d]at c f⊢;obtain⟨n,o⟩:=fP (j:=0) c;have e:cQ 0 (aJ s (a+1) 0)=U:=by rw[show aJ s (a+1) 0=bitsOf U 0 from o];exact(jr 0 U 0).trans (by rw[q1n,q0x];exact q1o (by subst l;decide))
  have p:cQ 0 (aJ s (a) 1)=0:=by rw[n];rfl
  conv=>whnf
  refine aR.roll 6 ?_
  conv=>whnf
  refine⟨0,s,N,a,1,0,rfl,by decide,rfl,rfl,by decide,by omega,g,b,i,p,?_⟩
  conv=>whnf
  refine ae.dec (λ_=>?_) (λh=>absurd rfl h)
  conv=>whnf
  refine⟨0,s,N,a+1,0,U,rfl,by decide,rfl,rfl,by decide,by omega,g,b,i,e,?_⟩
  conv=>whnf
  refine aR.roll 6 ?_
  conv=>whnf
  refine ae.dec (λh=>absurd h (oZ (m:=0) rfl (J l))) (λ_=>?_)
  conv=>whnf
  exact⟨rfl,rfl⟩
 ·skip
  by_cases q:U<128
  ·have k:bh U=[1,0]++bitsOf U 7:=by
    unfold bh;rw[if_neg l,if_pos q]
   rw[k]at c f⊢;have d:([1,0]++bitsOf U 7).length=9:=by rw[Z6,aO];rfl
   rw[d]at c f⊢;obtain⟨n,o⟩:=fP (j:=8) c;obtain⟨r,t⟩:=fP (j:=7) o;have e:cQ 0 (aJ s (a+1+1) 7)=U:=by rw[show aJ s (a+1+1) 7=bitsOf U 7 from t];exact(jr 0 U 7).trans (by rw[q1n,q0x];exact q1o (by omega))
   have p:cQ 0 (aJ s (a) 1)=1:=by rw[n];rfl
   have v:cQ 0 (aJ s (a+1) 1)=0:=by rw[r];rfl
   conv=>whnf
   refine aR.roll 6 ?_
   conv=>whnf
   refine⟨0,s,N,a,1,1,rfl,by decide,rfl,rfl,by decide,by omega,g,b,i,p,?_⟩
   conv=>whnf
   refine ae.dec (λh=>absurd h (by decide)) (λ_=>?_)
   conv=>whnf
   refine⟨0,s,N,a+1,1,0,rfl,by decide,rfl,rfl,by decide,by omega,g,b,i,v,?_⟩
   conv=>whnf
   refine ae.dec (λ_=>?_) (λh=>absurd rfl h)
   conv=>whnf
   refine⟨0,s,N,a+1+1,7,U,rfl,by decide,rfl,rfl,by decide,by omega,g,b,i,e,?_⟩
   conv=>whnf
   refine aR.roll 6 ?_
   conv=>whnf
   refine ae.dec (λ_=>?_) (λh=>absurd h (dq (m:=0) rfl (B l)))
   conv=>whnf
   refine ae.dec (λh=>absurd h (oZ (m:=7) rfl (K q))) (λ_=>?_)
   conv=>whnf
   exact⟨rfl,rfl⟩
  ·skip
   by_cases w:U<4096
   ·have k:bh U=[1,1,0]++bitsOf U 12:=by
     unfold bh;rw[if_neg l,if_neg q,if_pos w]
    rw[k]at c f⊢;have d:([1,1,0]++bitsOf U 12).length=15:=by rw[Z6,aO];rfl
    rw[d]at c f⊢;obtain⟨n,o⟩:=fP (j:=14) c;obtain⟨r,t⟩:=fP (j:=13) o;obtain⟨y,z⟩:=fP (j:=12) t;have e:cQ 0 (aJ s (a+1+1+1) 12)=U:=by rw[show aJ s (a+1+1+1) 12=bitsOf U 12 from z];exact(jr 0 U 12).trans (by rw[q1n,q0x];exact q1o (by omega))
    have p:cQ 0 (aJ s (a) 1)=1:=by rw[n];rfl
    have v:cQ 0 (aJ s (a+1) 1)=1:=by rw[r];rfl
    have A:cQ 0 (aJ s (a+1+1) 1)=0:=by rw[y];rfl
    conv=>whnf
    refine aR.roll 6 ?_
    conv=>whnf
    refine⟨0,s,N,a,1,1,rfl,by decide,rfl,rfl,by decide,by omega,g,b,i,p,?_⟩
    conv=>whnf
    refine ae.dec (λh=>absurd h (by decide)) (λ_=>?_)
    conv=>whnf
    refine⟨0,s,N,a+1,1,1,rfl,by decide,rfl,rfl,by decide,by omega,g,b,i,v,?_⟩
    conv=>whnf
    refine ae.dec (λh=>absurd h (by decide)) (λ_=>?_)
    conv=>whnf
    refine⟨0,s,N,a+1+1,1,0,rfl,by decide,rfl,rfl,by decide,by omega,g,b,i,A,?_⟩
    conv=>whnf
    refine ae.dec (λ_=>?_) (λh=>absurd rfl h)
    conv=>whnf
    refine⟨0,s,N,a+1+1+1,12,U,rfl,by decide,rfl,rfl,by decide,by omega,g,b,i,e,?_⟩
    conv=>whnf
    refine aR.roll 6 ?_
    conv=>whnf
    refine ae.dec (λ_=>?_) (λh=>absurd h (dq (m:=0) rfl (B l)))
    conv=>whnf
    refine ae.dec (λ_=>?_) (λh=>absurd h (dq (m:=7) rfl (D q)))
    conv=>whnf
    refine ae.dec (λh=>absurd h (oZ (m:=12) rfl (z2 w))) (λ_=>?_)
    conv=>whnf
    exact⟨rfl,rfl⟩
   ·skip
    by_cases C:U<16777216
    ·have k:bh U=[1,1,1,0]++bitsOf U 24:=by
      unfold bh;rw[if_neg l,if_neg q,if_neg w,if_pos C]
     rw[k]at c f⊢;have d:([1,1,1,0]++bitsOf U 24).length=28:=by rw[Z6,aO];rfl
     rw[d]at c f⊢;obtain⟨n,o⟩:=fP (j:=27) c;obtain⟨r,t⟩:=fP (j:=26) o;obtain⟨y,z⟩:=fP (j:=25) t;obtain⟨E,F⟩:=fP (j:=24) z;have e:cQ 0 (aJ s (a+1+1+1+1) 24)=U:=by rw[show aJ s (a+1+1+1+1) 24=bitsOf U 24 from F];exact(jr 0 U 24).trans (by rw[q1n,q0x];exact q1o (by omega))
     have p:cQ 0 (aJ s (a) 1)=1:=by rw[n];rfl
     have v:cQ 0 (aJ s (a+1) 1)=1:=by rw[r];rfl
     have A:cQ 0 (aJ s (a+1+1) 1)=1:=by rw[y];rfl
     have G:cQ 0 (aJ s (a+1+1+1) 1)=0:=by rw[E];rfl
     conv=>whnf
     refine aR.roll 6 ?_
     conv=>whnf
     refine⟨0,s,N,a,1,1,rfl,by decide,rfl,rfl,by decide,by omega,g,b,i,p,?_⟩
     conv=>whnf
     refine ae.dec (λh=>absurd h (by decide)) (λ_=>?_)
     conv=>whnf
     refine⟨0,s,N,a+1,1,1,rfl,by decide,rfl,rfl,by decide,by omega,g,b,i,v,?_⟩
     conv=>whnf
     refine ae.dec (λh=>absurd h (by decide)) (λ_=>?_)
     conv=>whnf
     refine⟨0,s,N,a+1+1,1,1,rfl,by decide,rfl,rfl,by decide,by omega,g,b,i,A,?_⟩
     conv=>whnf
     refine ae.dec (λh=>absurd h (by decide)) (λ_=>?_)
     conv=>whnf
     refine⟨0,s,N,a+1+1+1,1,0,rfl,by decide,rfl,rfl,by decide,by omega,g,b,i,G,?_⟩
     conv=>whnf
     refine ae.dec (λ_=>?_) (λh=>absurd rfl h)
     conv=>whnf
     refine⟨0,s,N,a+1+1+1+1,24,U,rfl,by decide,rfl,rfl,by decide,by omega,g,b,i,e,?_⟩
     conv=>whnf
     refine aR.roll 6 ?_
     conv=>whnf
     refine ae.dec (λ_=>?_) (λh=>absurd h (dq (m:=0) rfl (B l)))
     conv=>whnf
     refine ae.dec (λ_=>?_) (λh=>absurd h (dq (m:=7) rfl (D q)))
     conv=>whnf
     refine ae.dec (λ_=>?_) (λh=>absurd h (dq (m:=12) rfl (H w)))
     conv=>whnf
     refine ae.dec (λh=>absurd h (oZ (m:=24) rfl (L C))) (λ_=>?_)
     conv=>whnf
     exact⟨rfl,rfl⟩
    ·skip
     have k:bh U=[1,1,1,1]++bitsOf U 64:=by
      unfold bh;rw[if_neg l,if_neg q,if_neg w,if_neg C]
     rw[k]at c f⊢;have d:([1,1,1,1]++bitsOf U 64).length=68:=by rw[Z6,aO];rfl
     rw[d]at c f⊢;obtain⟨n,o⟩:=fP (j:=67) c;obtain⟨r,t⟩:=fP (j:=66) o;obtain⟨y,z⟩:=fP (j:=65) t;obtain⟨E,F⟩:=fP (j:=64) z;have e:cQ 0 (aJ s (a+1+1+1+1) 64)=U:=by rw[show aJ s (a+1+1+1+1) 64=bitsOf U 64 from F];exact(jr 0 U 64).trans (by rw[q1n,q0x];exact q1o (by omega))
     have p:cQ 0 (aJ s (a) 1)=1:=by rw[n];rfl
     have v:cQ 0 (aJ s (a+1) 1)=1:=by rw[r];rfl
     have A:cQ 0 (aJ s (a+1+1) 1)=1:=by rw[y];rfl
     have G:cQ 0 (aJ s (a+1+1+1) 1)=1:=by rw[E];rfl
     conv=>whnf
     refine aR.roll 6 ?_
     conv=>whnf
     refine⟨0,s,N,a,1,1,rfl,by decide,rfl,rfl,by decide,by omega,g,b,i,p,?_⟩
     conv=>whnf
     refine ae.dec (λh=>absurd h (by decide)) (λ_=>?_)
     conv=>whnf
     refine⟨0,s,N,a+1,1,1,rfl,by decide,rfl,rfl,by decide,by omega,g,b,i,v,?_⟩
     conv=>whnf
     refine ae.dec (λh=>absurd h (by decide)) (λ_=>?_)
     conv=>whnf
     refine⟨0,s,N,a+1+1,1,1,rfl,by decide,rfl,rfl,by decide,by omega,g,b,i,A,?_⟩
     conv=>whnf
     refine ae.dec (λh=>absurd h (by decide)) (λ_=>?_)
     conv=>whnf
     refine⟨0,s,N,a+1+1+1,1,1,rfl,by decide,rfl,rfl,by decide,by omega,g,b,i,G,?_⟩
     conv=>whnf
     refine ae.dec (λh=>absurd h (by decide)) (λ_=>?_)
     conv=>whnf
     refine⟨0,s,N,a+1+1+1+1,64,U,rfl,by decide,rfl,rfl,by decide,by omega,g,b,i,e,?_⟩
     conv=>whnf
     refine aR.roll 6 ?_
     conv=>whnf
     refine ae.dec (λ_=>?_) (λh=>absurd h (dq (m:=0) rfl (B l)))
     conv=>whnf
     refine ae.dec (λ_=>?_) (λh=>absurd h (dq (m:=7) rfl (D q)))
     conv=>whnf
     refine ae.dec (λ_=>?_) (λh=>absurd h (dq (m:=12) rfl (H w)))
     conv=>whnf
     refine ae.dec (λ_=>?_) (λh=>absurd h (dq (m:=24) rfl (I C)))
     conv=>whnf
     exact⟨rfl,rfl⟩
def AX(args:List AV)(H:AH)(n:Nat)(κ:PK):Prop:=match args with
 | [x]=>∃(b:Nat) (s:List Nat) (N a U:Nat),x= .ptr b 0/\b<n/\H.get b=some (.cells (jR s N a) true)/\U<18446744073709551616/\aJ s a (bh U).length=bh U/\a+(bh U).length<=N/\N<=8*s.length/\s.length<=100000000/\(∀x∈s,x<256)/\
  κ (.tup [.si .u64 (U:Int),.int .i64 0]) (H.set (some (.cells (jR s N (a+(bh U).length)) true)) aa b) n
 |_=>False
theorem Tp:ak 236 AX:=λargs H n z d A k B C K l c m=>by
 unfold AX at d;split at d
 ·obtain⟨x,rfl,p⟩:=vs1 c;obtain⟨b,s,N,a,U,rfl,e,q,r,f,t,v,g,h,d⟩:=d
  refine dC (S:=[b]) (O:=[.cells (jR s N a) true]) (args0:=[.ptr 0 0]) (ay VW 4 _) (by kernel_rfl) l
   (nL e q (.inr rfl)) (.cons p .nil) m (MW s N a U r f t v g h) λu D E ⟨w,y⟩=>?_
  subst w;refine⟨1,ki [b] n H [(0,some (.cells (jR s N (a+(bh U).length)) true))],Z3 _,fF.put (Z3 _) rfl (λx j o ho=>?_),rfl,d⟩;simp only[Z4,Z5,or_false]at j;subst j;injection ho with ho;subst ho;exact⟨y,rfl,rfl⟩
 ·exact d.elim
def sD(r:Nat)(T V st:Int):List AV:=[.ptr r 0,.si .i64 T,.si .i64 V,.si .i64 st,.int .i64 0]
def Tq:DT:=[(5,[(some 1000000,[3,5]),(none,[0,1,2,3,4,5,6,7,8,9]),(none,[0,1,2,4,5,3,6,7,8,9])]),(7,[(some 1000000,[4,6]),(none,[0,1,2,3,4,5,6,7,8,9,10,11]),(none,[0,1,2,3,5,6,4,7,8,9,10,11])])]
def KN:FuncId->EP:=bg 211 Tq (aq 236 AX (aq 233 vf KB))
theorem VX:aV KN:=au (ag (ag MS MV) Tp) (by kernel_rfl) (by kernel_rfl)
theorem Dn(x:Int):cQ 0 (bitsOf (il x) 64)=il x:=(jr 0 _ 64).trans (by rw[q1n,q0x];exact q1o (Fl x))
theorem Hb{u:Nat}(h:u<18446744073709551616):cj .xor .i64 (IntKind.i64.wrap (((u:Nat):Int).fdiv ((2:Int)^min (Int.toNat 1) IntKind.u64.bits))) (IntKind.i64.wrap (0-IntKind.i64.wrap (cj .and .u64 ((u:Nat):Int) 1)))=oW u:=Th h
theorem JP(s:List Nat)(N a:Nat)(T V st b c:Int)(j:aJ s a 64=bitsOf (il b) 64)(k:aJ s (a+64) 64=bitsOf (il c) 64)(l:aQ b)(m:aQ c)(n:a+64+64<=N)(e:N<=8*s.length)(d:s.length<=100000000)(f:∀x∈s,x<256):
 ax KN 6 211 [.ptr 0 0,.sb true] (mkH [(0,.cells (sD 1 T V st) true),(1,.cells (jR s N a) true)]) 2
 λu H' _=>u= .agg [.si .i64 b,.si .i64 c]/\H'.get 0=some (.cells (sD 1 b c st) true)/\H'.get 1=some (.cells (jR s N (a+64+64)) true):=by
 have o:cQ 0 (aJ s a 64)=il b:=by rw[j,Dn]
 have p:cQ 0 (aJ s (a+64) 64)=il c:=by rw[k,Dn]
 have g:IntKind.i64.wrap ((il b:Nat):Int)=b:=Db l;have i:IntKind.i64.wrap ((il c:Nat):Int)=c:=Db m;have q:=congr (congrArg (λx y=>AV.agg [.si .i64 x,.si .i64 y]) g) i;have r:=congr (congrArg (λx y=>some (AO.cells (sD 1 x y st) true)) g) i
 conv=>whnf
 refine ae.sb (λ_=>?_) (λh=>by cases h)
 conv=>whnf
 refine⟨1,s,N,a,64,il b,rfl,by decide,rfl,rfl,by decide,by omega,e,d,f,o,?_⟩
 conv=>whnf
 refine⟨1,s,N,a+64,64,il c,rfl,by decide,rfl,rfl,by decide,by omega,e,d,f,p,?_⟩
 conv=>whnf
 exact⟨q,r,rfl⟩
theorem JQ(s:List Nat)(N a U W:Nat)(T V st:Int)(e:U<18446744073709551616)(f:W<18446744073709551616)(k:aJ s a (bh U).length=bh U)(l:aJ s (a+(bh U).length) (bh W).length=bh W)(d:a+(bh U).length+(bh W).length<=N)(g:N<=8*s.length)(b:s.length<=100000000)(i:∀x∈s,x<256):
 ax KN 6 211 [.ptr 0 0,.sb false] (mkH [(0,.cells (sD 1 T V st) true),(1,.cells (jR s N a) true)]) 2
 λu H' _=>u= .agg [.si .i64 (W64 (T+W64 (st+oW U))),.si .i64 (W64 (V+oW W))]/\H'.get 0=some (.cells (sD 1 (W64 (T+W64 (st+oW U))) (W64 (V+oW W)) (W64 (st+oW U))) true)/\H'.get 1=some (.cells (jR s N (a+(bh U).length+(bh W).length)) true):=by
 have j:=Hb e;have z2:=Hb f;have m:=congr (congrArg (λx y=>AV.agg [.si .i64 (W64 (T+W64 (st+x))),.si .i64 (W64 (V+y))]) j) z2;have n:=congr (congrArg (λx y=>some (AO.cells (sD 1 (W64 (T+W64 (st+x))) (W64 (V+y)) (W64 (st+x))) true)) j) z2;have c:a+(bh U).length<=N:=by omega
 conv=>whnf
 refine ae.sb (λh=>by cases h) (λ_=>?_)
 conv=>whnf
 refine⟨?_,?_,trivial⟩<;>(
  conv=>whnf
  refine⟨1,s,N,a,U,rfl,by decide,rfl,e,k,c,g,b,i,?_⟩
  conv=>whnf
  refine⟨?_,?_,trivial⟩<;>(
   conv=>whnf
   refine⟨1,s,N,a+(bh U).length,W,rfl,by decide,rfl,f,l,d,g,b,i,?_⟩
   conv=>whnf
   exact⟨m,n,rfl⟩))
inductive Hc(s:List Nat)(a:Nat)(T V st:Int):Bool->Nat->Int->Int->Int->Prop where
 |first{T' V':Int} (h1:aJ s a 64=bitsOf (il T') 64) (h2:aJ s (a+64) 64=bitsOf (il V') 64) (hT:aQ T') (hV:aQ V'):Hc s a T V st true (a+64+64) T' V' st
 |more {U W:Nat} (hU:U<18446744073709551616) (hW:W<18446744073709551616) (h1:aJ s a (bh U).length=bh U) (h2:aJ s (a+(bh U).length) (bh W).length=bh W):Hc s a T V st false (a+(bh U).length+(bh W).length) (W64 (T+W64 (st+oW U))) (W64 (V+oW W)) (W64 (st+oW U))
def AY(args:List AV)(H:AH)(n:Nat)(κ:PK):Prop:=match args with
 | [x,q]=>∃(b c:Nat) (s:List Nat) (N a e:Nat) (T V st g h d:Int) (f:Bool),x= .ptr b 0/\mk q= .sb f/\b≠c/\b<n/\c<n/\H.get b=some (.cells (sD c T V st) true)/\H.get c=some (.cells (jR s N a) true)/\Hc s a T V st f e g h d/\e<=N/\N<=8*s.length/\s.length<=100000000/\(∀x∈s,x<256)/\
  κ (.agg [.si .i64 g,.si .i64 h]) ((H.set (some (.cells (jR s N e) true)) aa c).set (some (.cells (sD c g h d) true)) aa b) n
 |_=>False
theorem Ts:ak 211 AY:=λargs H n X e Y D Z vs K E d F=>by
 unfold AY at e;split at e
 ·obtain⟨x,y,rfl,G,I⟩:=vs2 d;obtain⟨b,c,s,N,a,z,T,V,st,l,m,g,f,rfl,J,p,q,r,L,M,t,A,B,h,i,e⟩:=e
  have key:ax KN 6 211 [.ptr 0 0,.sb f] (mkH [(0,.cells (sD 1 T V st) true),(1,.cells (jR s N a) true)]) 2
   λu v _=>u= .agg [.si .i64 l,.si .i64 m]/\v.get 0=some (.cells (sD 1 l m g) true)/\v.get 1=some (.cells (jR s N z) true):=by
   cases t with
   |first j k P Q=>exact JP s N a T V st l m j k P Q A B h i
   |more R U j k=>exact JQ s N a _ _ T V st R U j k A B h i
  refine dC (S:=[b,c]) (O:=[.cells (sD 1 T V st) true,.cells (jR s N a) true]) (args0:=[.ptr 0 0,.sb f]) (ay VX 6 _) (by kernel_rfl) E
   (AU p q r L M (.inr rfl) (.inr rfl)) (.cons G (.cons (by have:=I.mk;rw[J]at this;exact this) .nil)) F key λu v n' ⟨j,k,W⟩=>?_
  subst j;refine⟨2,ki [b,c] n H [(0,some (.cells (sD 1 l m g) true)),(1,some (.cells (jR s N z) true))],Z3 _,fF.put (Z3 _) rfl (λx C o ho=>?_),rfl,e⟩;simp only[Z4,Z5,or_false]at C;rcases C with rfl|rfl
  ·injection ho with ho;subst ho;exact⟨k,rfl,rfl⟩
  ·injection ho with ho;subst ho;exact⟨W,rfl,rfl⟩
 ·exact e.elim
def tP(X:Smp)(i:Nat):Int:=if i=0 then 0 else tAt X (i-1)
def vP(X:Smp)(i:Nat):Int:=if i=0 then 0 else vAt X (i-1)
theorem P5{X:Smp}{i:Nat}(h:i<X.length):aJ (pack (aX X)) (aF X i).length (cx X i).length=cx X i:=by
 obtain⟨D,a⟩:=Fo h;exact Dd (zo X) a
theorem MX{s:List Nat}{a:Nat}{A B:List Nat}(h:aJ s a (A++B).length=A++B):aJ s a A.length=A/\aJ s (a+A.length) B.length=B:=by
 rw[Z6,w6]at h;exact List.append_inj h (by rw[mo])
theorem w9(X:Smp)(i:Nat):(aF X (i+1)).length=(aF X i).length+(cx X i).length:=by rw[qZ,Z6]
theorem MY{X:Smp}{i:Nat}(h:i<=X.length):(aF X i).length<=(aX X).length:=by
 obtain⟨D,a⟩:=tG X i (X.length-i);rw[show i+(X.length-i)=X.length from by omega]at a;show _<=(aF X X.length).length;rw[a,Z6];omega
theorem MZ{X:Smp}(b:∀x∈X,aQ x.1/\aQ x.2){i:Nat}(h:i<X.length):Hc (pack (aX X)) (aF X i).length (tP X i) (vP X i) (eJ X i) (decide ((i:Int)=0)) (aF X (i+1)).length (tP X (i+1)) (vP X (i+1)) (eJ X (i+1)):=by
 have hr:=P5 h;have f:=(MJ b i).1;have g:=(MJ b i).2;by_cases a:i=0
 ·subst a;obtain⟨c,d⟩:=MX (A:=bitsOf (il (tAt X 0)) 64) (B:=bitsOf (il (vAt X 0)) 64) hr;rw[aO]at c;rw[aO,aO]at d;have e:(aF X (0+1)).length=(aF X 0).length+64+64:=by rw[w9];simp[cx,aO]
  rw[e];exact .first c d f g
 ·have hd:decide ((i:Int)=0)=false:=decide_eq_false (by omega);have es:cx X i=bh (dT X i)++bh (dV X i):=by unfold cx;rw[if_neg a]
  rw[es]at hr;obtain⟨c,d⟩:=MX hr;have e:(aF X (i+1)).length=(aF X i).length+(bh (dT X i)).length+(bh (dV X i)).length:=by rw[w9,es,Z6];omega
  have j:tP X (i+1)=W64 (tP X i+W64 (eJ X i+oW (dT X i))):=by
   rw[Dl X a];unfold tP;rw[if_neg (by omega),if_neg a];exact(VS a f).symm
  have k:vP X (i+1)=W64 (vP X i+oW (dV X i)):=by
   unfold vP;rw[if_neg (by omega),if_neg a];exact(VT g).symm
  rw[hd,e,j,k,<-Dl X a];exact .more (Sj X i) (Sk X i) c d
theorem Dp(L:Smp)(x:Int×Int):smp (L++ [x])=smp L++ [.si .i64 x.1,.si .i64 x.2]:=by simp[smp]
theorem tyS:RTy 52 52 2 16:=⟨_,_,_,rfl,rfl,(λq h=>by cases h),rfl,rfl,rfl,rfl,by decide,by decide⟩
def dc (X:Smp) (i:Nat):AE×AH:=(mkE [(2,.si .i64 (((X.length:Nat):Int))),(8,.ptr 0 (0)),(10,.ptr 1 (0)),(11,.rw 2 0 i 2 0),(12,.si .i64 (((i:Nat):Int)))],mkH [(0,.cells (jR (pack (aX X)) (aX X).length (aF X i).length) true),(1,.cells (sD 0 (tP X i) (vP X i) (eJ X i)) true),(2,.cells (smp ((X.take i))) true)])
theorem M0{X:Smp}{i:Nat}{p n:Nat}{σ:AE}{H:AH}(j2:Nat)(s:j2≠0/\j2≠1)(t:p<=0)(j:mk (aj (pa 2) σ)= .si .i64 (((X.length:Nat):Int)))(k:aj (pa 8) σ= .ptr 0 (0))(a:aj (pa 10) σ= .ptr 1 (0))(c:ah H 3 (λb=>if b=2 then j2 else b) (aj (pa 11) σ) (.rw 2 0 i 2 0))(d:mk (aj (pa 12) σ)= .si .i64 (((i:Nat):Int)))(m:∃l,H.get 0=some (.cells l true)/\mO H 3 (λb=>if b=2 then j2 else b) l (jR (pack (aX X)) (aX X).length (aF X i).length))(o:∃l,H.get 1=some (.cells l true)/\mO H 3 (λb=>if b=2 then j2 else b) l (sD 0 (tP X i) (vP X i) (eJ X i)))(r:(∃l,H.get j2=some (.cells l true)/\l.map mk=smp ((X.take i)))∨(((X.take i))=[]/\n<=j2)):Cov p σ H n ((dc X i).1,(dc X i).2,3):=
 Cov.ofB (λb=>if b=2 then j2 else b) (by omega) (λb u=>by repeat' rw[if_neg (by omega)]) ⟨.int j,.ptr (by decide) k,.ptr (by decide) a,c,.int d,trivial⟩ ⟨.inl (m.elim λl h=>⟨_,h.1,ao.st h.2⟩),.inl (o.elim λl h=>⟨_,h.1,ao.st h.2⟩),r.elim (λ⟨l,h,g⟩=> .inl ⟨_,h,ao.bA (cg _) (by rw[g,bo]) (λq=>q)⟩) (λh=> .inr ⟨by rw[h.1];rfl,h.2⟩),trivial⟩ rfl (λx e y f=>by simp only[Z4,Z5,or_false]at e f;rcases e with rfl|rfl|rfl<;>rcases f with rfl|rfl|rfl<;>simp<;>omega)
def KD:FuncId->EP:=bg 179 [] (bg 212 [] (aq 211 AY evP))
theorem VY:aV KD:=au (au (ag az Ts) (by kernel_rfl) (by kernel_rfl)) (by kernel_rfl) (by kernel_rfl)
theorem P6(X:Smp)(v:X.length<=100000)(d:∀x∈X,aQ x.1/\aQ x.2):ax KD 4 179 [.ss (pack (aX X)),.si .i64 ((aX X).length:Int),.si .i64 (X.length:Int)] .nil 0
 λu H' _=>Mq X 0 u H':=by
 have n:=Dc X;have o:=bq (aX X);have p:(aX X).length<=8*(pack (aX X)).length:=by omega
 have r:IntKind.i64.wrap (8*((pack (aX X)).length:Int))=((8*(pack (aX X)).length:Nat):Int):=dh ⟨by omega,by omega⟩;have e:¬IntKind.i64.wrap (8*((pack (aX X)).length:Int))<((aX X).length:Int):=by rw[r];omega
 have f:=G0 (zo X)
 conv=>whnf
 refine ae.dec (λh=>absurd h (by omega)) (λ_=>?_)
 conv=>whnf
 refine ae.dec (λh=>absurd h e) (λ_=>?_)
 conv=>whnf
 refine ae.dec (λh=>absurd h (by omega)) (λ_=>?_)
 conv=>whnf
 refine ae.dec (λh=>absurd h (by omega)) (λ_=>?_)
 conv=>whnf
 refine aR.mk {i:Nat//i<=X.length} 3 (λi=>dc X i.val) (λi=>X.length-i.val) ⟨0,Y5 _⟩ ?_ ?_
 ·exact M0 (j2:=2) (by decide) (Z3 0) rfl rfl rfl (.iU rfl) rfl ⟨_,rfl,.cons (.str rfl) (.cons (.int rfl) (.cons (.int rfl) (.cons (.bool rfl) .nil)))⟩ ⟨_,rfl,.cons (.ptr (by decide) rfl) (.cons (.int rfl) (.cons (.int rfl) (.cons (.int rfl) (.cons (.mk1 rfl rfl) .nil))))⟩ (.inr ⟨rfl,Z3 _⟩)
 ·intro⟨i,w⟩
  conv=>whnf
  refine ae.dec (λh=>?_) (λh=>?_)
  ·have a:i<X.length:=by exact q0s.1 h
   have g:=MZ d a;have t:(aF X (i+1)).length<=(aX X).length:=MY a;have j:(pack (aX X)).length<=100000000:=by omega
   have k:IntKind.i64.wrap ((i:Int)+1)=(((i+1:Nat)):Int):=dh ⟨by omega,by omega⟩;have b:bl (smp (X.take i)) 0 (i*2)=some (smp (X.take i)):=bC (by rw[bb,q0d];omega);have c:(i+1)*16<=140737488355328:=by omega
   have l:smp (X.take i)++ [.si .i64 (tP X (i+1)),.si .i64 (vP X (i+1))]=smp (X.take (i+1)):=by
    rw[Y8 a,Dp];unfold tP vP;rw[if_neg (by omega),if_neg (by omega),Nat.add_sub_cancel,eM a,oX a]
   conv=>whnf
   refine⟨1,0,pack (aX X),(aX X).length,(aF X i).length,(aF X (i+1)).length,tP X i,vP X i,eJ X i,tP X (i+1),vP X (i+1),eJ X (i+1),_,rfl,rfl,by decide,by decide,by decide,rfl,rfl,g,t,p,j,f,?_⟩
   conv=>whnf
   refine bI.grow 2 16 _ _ _ _ _ _ tyS (.old rfl) rfl rfl (.rw rfl b) c ?_
   conv=>whnf
   exact⟨⟨i+1,a⟩,(show X.length-(i+1)<X.length-i by omega),M0 (j2:=4) (by decide) (Z3 0) rfl rfl rfl (ah.rw (by decide) rfl) (congrArg (AV.si .i64) k) ⟨_,rfl,.cons (.str rfl) (.cons (.int rfl) (.cons (.int rfl) (.cons (.bool rfl) .nil)))⟩ ⟨_,rfl,.cons (.ptr (by decide) rfl) (.cons (.int rfl) (.cons (.int rfl) (.cons (.int rfl) (.cons (.mk1 rfl rfl) .nil))))⟩ (.inl ⟨_,rfl,(congrArg (List.map mk) l).trans (bo _)⟩)⟩
  ·have m:i=X.length:=by have:¬i<X.length:=λq=>h (q0s.2 q);omega
   subst m
   conv=>whnf
   refine ae.dec (λh=>absurd h (by rw[show IntKind.i64.wrap (((aX X).length:Int)-((aF X X.length).length:Int))=0 from(dh ⟨by show _<=((aX X).length:Int)-((aX X).length:Int);omega,by show((aX X).length:Int)-((aX X).length:Int)<=_;omega⟩).trans (Int.sub_self _)];decide)) (λ_=>?_)
   conv=>whnf
   have b:bl (smp (X.take X.length)) 0 (X.length*2)=some (smp X):=by rw[q0l];exact dL X
   exact⟨_,_,rfl,rfl,lY.rw rfl rfl b (bo X)⟩
def AZ(args:List AV)(H:AH)(n:Nat)(κ:PK):Prop:=match args with
 | [x,y,z]=>∃X:Smp,mk x= .ss (pack (aX X))/\mk y= .si .i64 ((aX X).length:Int)/\mk z= .si .i64 (X.length:Int)/\X.length<=100000/\(∀x∈X,aQ x.1/\aQ x.2)/\GQ (VN 0) X H n κ
 |_=>False
theorem Sn:ak 179 AZ:=λargs H n p b q d r s K e a f=>by
 unfold AZ at b;split at b
 ·obtain⟨x,y,z,rfl,g,i,j⟩:=vs3 a;obtain⟨X,k,l,m,o,c,b⟩:=b;exact JG VY (λ_ _ h=>h) (P6 X o c) b e f (by kernel_rfl) HR.ro0 (.cons (aU rfl (k▸g.mk)) (.cons (aU rfl (l▸i.mk)) (.cons (aU rfl (m▸j.mk)) .nil)))
 ·exact b.elim
theorem ah.frE{H:AH}{m:Nat}{r:Nat->Nat}{a:AV}{n k:Nat}{l:List AV}(e:a= .fr n k l):ah H m r a (.fr n k l):=by subst e;exact .mC rfl
theorem mI.frz{φ:Ph}{H:AH}{n:Nat}{m e:Hp}(i:HR φ H n m e){a:AV}{L:Smp}{v:Value}(f:mI H a L∨a= .fr L.length 2 (smp L))(j:VR φ a v):
 ∃z:Fz->Prop,(Wf e->HR ⟨λ_=>none,z,z,λ_ _=>False⟩ .nil 0 e e)/\VR ⟨λ_=>none,z,z,λ_ _=>False⟩ (.fr L.length 2 (smp L)) v:=by
 rcases f with f|rfl
 ·rcases f.open i j with⟨rfl,h⟩|⟨p,C,r,⟨c,t,fz,l,F,G,u⟩,h⟩
  ·refine⟨λ_=>False,λd=>fX d,?_⟩;rw[(h φ).dd];exact .fre λ_=>rfl
  ·have g:(smp L).all mC=true:=by
    rw[q0a];intro y w;have:=q0a.1 (cg L) y w;cases y<;>first|rfl|cases this
   refine⟨λq=>q=⟨p.B,p.s,smp L⟩,λd=>⟨λ_ _ k=>(by cases k),λ_ _ k=>(by cases k),λ_ _ _ _ _ _ k=>(by cases k),λb o k=>⟨d b o k,k⟩,Z3 _,λq x=>⟨?_,λ_ _ _ k=>(by cases k)⟩,λ_ _ k=>(by cases k)⟩,?_⟩
   ·subst x;exact⟨⟨⟨d _ _ l,g⟩,c,t,fz,l,(show p.s+(smp L).length<=c.size by omega),u _⟩,.inl rfl⟩
   ·obtain⟨A,I,D,rfl,E,_⟩:=(h (ph1 p) 0 rfl).As;have:p=A:=by simpa[ph1]using D
    subst this;exact .fr (q:=⟨p.B,p.s,smp L⟩) (o:=0) rfl (by rw[E rfl];exact r) (bC (bb L))
 ·exact⟨φ.z,λd=>i.zl (fX d) (λ_ _ h=>by cases h) (λ_ h=>h),lR (ψ:=⟨λ_=>none,φ.z,φ.z,λ_ _=>False⟩) (λ_ h=>h) rfl j⟩
def KL:FuncId->EP:=bg 123 [] evP
theorem VZ:aV KL:=au az (by kernel_rfl) (by kernel_rfl)
def pl0 (L:Smp) (t:Int) (i:Nat):AE×AH:=(mkE [(0,.fr L.length 2 (smp L)),(1,.si .i64 (t)),(6,.si .i64 (((i:Nat):Int)))],mkH [])
theorem Hd{L:Smp}{t:Int}{i:Nat}{p n:Nat}{σ:AE}{H:AH}(a:p<=0)(b:aj (pa 0) σ= .fr L.length 2 (smp L))(c:mk (aj (pa 1) σ)= .si .i64 (t))(d:mk (aj (pa 6) σ)= .si .i64 (((i:Nat):Int))):Cov p σ H n ((pl0 L t i).1,(pl0 L t i).2,0):=
 Cov.ofA a ⟨ah.frE b,.int c,.int d,trivial⟩ trivial rfl
theorem JR(L:Smp)(t:Int)(k:L.length<=100000000):ax KL 3 123 [.fr L.length 2 (smp L),.si .i64 t] .nil 0 λu _ _=>mkT u=mkT (.tup [.si .i64 ((plc L t:Nat):Int),.sb (has L t)]):=by
 conv=>whnf
 refine aR.mk {i:Nat//i<=plc L t} 0 (λi=>pl0 L t i.val) (λi=>L.length-i.val) ⟨0,Y5 _⟩ ?_ ?_
 ·exact Hd (Z3 0) rfl rfl rfl
 ·intro⟨i,l⟩;have j:=qY L t
  conv=>whnf
  refine ae.dec (λh=>?_) (λh=>?_)
  ·have a:i<L.length:=by exact q0s.1 h
   have b:tAt L i=L[i].1:=eM a;have c:IntKind.i64.wrap ((i:Int)+1)=(((i+1:Nat)):Int):=dh ⟨by omega,by omega⟩
   conv=>whnf
   refine Idx.mk i rfl a ?_
   conv=>whnf
   refine aw (sa a rfl) ?_
   conv=>whnf
   refine ae.dec (λg=>?_) (λg=>?_)
   ·have d:i+1<=plc L t:=by
     rcases q3j i (plc L t)with q|q
     ·exact q
     ·have e:i=plc L t:=by omega
      have:=AT (L:=L) (t:=t) (by omega);rw[<-e,b]at this;omega
    conv=>whnf
    exact⟨⟨i+1,d⟩,(show L.length-(i+1)<L.length-i by omega),Hd (Z3 0) rfl rfl (congrArg (AV.si .i64) c)⟩
   ·have e:i=plc L t:=by
     rcases q3j i (plc L t)with q|q
     ·have:=AS q;rw[b]at this;exact absurd this g
     ·omega
    have f:decide (L[i].1=t)=has L t:=by
     unfold has;rw[<-e,b];simp[a]
    have hq:=congr (congrArg (λ(x:Nat) y=>AV.tup [.si .i64 (x:Int),.sb y]) e) f
    conv=>whnf
    refine ae.dec (λ_=>?_) (λq=>absurd h q)
    conv=>whnf
    refine Idx.mk i rfl a ?_
    conv=>whnf
    refine aw (sa a rfl) ?_
    conv=>whnf
    exact hq
  ·have e:i=plc L t:=by have:¬i<L.length:=λq=>h (q0s.2 q);omega
   have f:false=has L t:=by
    unfold has;refine(decide_eq_false λq=>?_).symm;have:¬i<L.length:=λq=>h (q0s.2 q)
    omega
   have hq:=congr (congrArg (λ(x:Nat) y=>AV.tup [.si .i64 (x:Int),.sb y]) e) f
   conv=>whnf
   refine ae.dec (λq=>absurd q h) (λ_=>?_)
   conv=>whnf
   exact hq
def Hf(args:List AV)(H:AH)(n:Nat)(κ:PK):Prop:=match args with
 | [x,y]=>∃(L:Smp) (t:Int),(mI H x L∨x= .fr L.length 2 (smp L))/\mk y= .si .i64 t/\L.length<=100000000/\κ (.tup [.si .i64 ((plc L t:Nat):Int),.sb (has L t)]) H n
 |_=>False
theorem Hg:ak 123 Hf:=λargs H n m b o d p q K c a e=>by
 unfold Hf at b;split at b
 ·obtain⟨x,y,rfl,f,g⟩:=vs2 a;obtain⟨L,t,h,i,j,b⟩:=b;obtain⟨z,k,l⟩:=mI.frz c h f;exact ik VZ (v:= .tup [.si .i64 ((plc L t:Nat):Int),.sb (has L t)]) rfl (JR L t j) b c e (by kernel_rfl) k (.cons l (.cons (aU rfl (i▸g.mk)) .nil))
 ·exact b.elim
theorem JS(p a b:Int):ax evP 4 217 [.si .i64 p,.si .i64 a,.si .i64 b] .nil 0 λu _ _=>mkT u=mkT (.tup [.si .i64 (ba p a b).1,.si .i64 (ba p a b).2]):=by
 have key:∀{x y:Int},ba p a b=(x,y)->mkT (.tup [.si .i64 x,.si .i64 y])=mkT (.tup [.si .i64 (ba p a b).1,.si .i64 (ba p a b).2]):=λe=>by rw[e]
 conv=>whnf
 refine ae.dec (λd=>?_) (λd=>?_)
 ·have e:=key (x:=0) (y:=8) (by simp[ba,d])
  conv=>whnf
  exact e
 conv=>whnf
 refine ae.dec (λf=>?_) (λf=>?_)
 ·have e:=key (x:=a) (y:=0) (by simp[ba,f])
  conv=>whnf
  exact e
 conv=>whnf
 refine ae.dec (λg=>?_) (λg=>?_)
 ·have e:=key (x:=b) (y:=0) (by simp[ba,g])
  conv=>whnf
  exact e
 conv=>whnf
 refine ae.dec (λi=>?_) (λi=>?_)
 ·have e:=key (x:=min a b) (y:=0) (by simp[ba,i])
  conv=>whnf
  exact e
 conv=>whnf
 refine ae.dec (λj=>?_) (λj=>?_)
 ·have e:=key (x:=max a b) (y:=0) (by simp[ba,j])
  conv=>whnf
  exact e
 conv=>whnf
 refine ae.dec (λk=>?_) (λk=>?_)
 ·have n:((0<=b/\W64 (a+b)<a)∨(b<0/\a<W64 (a+b)))->_:=λh=>key (x:=0) (y:=9) (by simp[ba,k,h])
  have o:¬((0<=b/\W64 (a+b)<a)∨(b<0/\a<W64 (a+b)))->_:=λh=>key (x:=W64 (a+b)) (y:=0) (by unfold ba;rw[if_neg d,if_neg f,if_neg g,if_neg i,if_neg j,if_pos k,if_neg h])
  conv=>whnf
  refine ae.dec (λl=>?_) (λl=>?_)
  ·conv=>whnf
   refine ae.dec (λc=>?_) (λc=>?_)
   ·have e:=n (.inl ⟨l,c⟩)
    conv=>whnf
    exact e
   ·have e:=o (λq=>q.elim (λq=>c q.2) (λq=>by have:=q.1;omega))
    conv=>whnf
    refine ae.dec (λq=>absurd q (by omega)) (λ_=>?_)
    conv=>whnf
    exact e
  ·conv=>whnf
   refine ae.dec (λm=>?_) (λq=>absurd q (by omega))
   conv=>whnf
   refine ae.dec (λc=>?_) (λc=>?_)
   ·have e:=n (.inr ⟨m,c⟩)
    conv=>whnf
    exact e
   ·have e:=o (λq=>q.elim (λq=>l q.1) (λq=>c q.2))
    conv=>whnf
    exact e
 ·have e:=key (x:=0) (y:=1) (by simp[ba,d,f,g,i,j,k])
  conv=>whnf
  exact e
def M1(args:List AV)(H:AH)(n:Nat)(κ:PK):Prop:=match args with
 | [x,y,z]=>∃p a b:Int,mk x= .si .i64 p/\mk y= .si .i64 a/\mk z= .si .i64 b/\κ (.tup [.si .i64 (ba p a b).1,.si .i64 (ba p a b).2]) H n
 |_=>False
theorem P7:ak 217 M1:=λargs H n o d q e r s K f c g=>by
 unfold M1 at d;split at d
 ·obtain⟨x,y,z,rfl,h,i,j⟩:=vs3 c;obtain⟨p,a,b,k,l,m,d⟩:=d;exact VI (v:= .tup [.si .i64 (ba p a b).1,.si .i64 (ba p a b).2]) az rfl rfl (JS p a b) d f (.cons (aU rfl (k▸h.mk)) (.cons (aU rfl (l▸i.mk)) (.cons (aU rfl (m▸j.mk)) .nil))) g
 ·exact d.elim
def chk(size:Nat)(L:Smp):List AV:=[.si .i64 (size:Int),.ss (pack (aX L)),.si .i64 ((aX L).length:Int),.si .i64 (L.length:Int)]
def KAl:FuncId->EP:=bg 119 [] (aq 179 AZ evP)
theorem Ft:aV KAl:=au (ag az Sn) (by kernel_rfl) (by kernel_rfl)
theorem Hh(size:Nat)(L:Smp)(c:0<size)(b:L.length<=100000)(a:∀x∈L,aQ x.1/\aQ x.2):ax KAl 3 119 [.ptr 0 0] (mkH [(0,.ro (chk size L))]) 1 λu H' _=>FrG L.length 2 (smp L) u H':=by
 conv=>whnf
 refine ae.dk (λh=>absurd (show(0:Int)<(size:Int) by omega) h) (λ_=>?_)
 conv=>whnf
 refine⟨L,rfl,rfl,rfl,b,a,⟨rfl,by decide⟩,?_⟩
 conv=>whnf
 exact PR rfl rfl rfl rfl (bb L)
def rb(args:List AV)(H:AH)(n:Nat)(κ:PK):Prop:=match args with
 | [x]=>∃(b size:Nat) (l:List AV) (L:Smp),x= .ptr b 0/\H.get b=some (.cells l true)/\l.map mk=chk size L/\0<size/\L.length<=100000/\(∀x∈L,aQ x.1/\aQ x.2)/\κ (.fr L.length 2 (smp L)) H n
 |_=>False
theorem dS(size:Nat)(L:Smp):(chk size L).all flat.flat1=true:=rfl
theorem A0(size:Nat)(L:Smp):(chk size L).map mk=chk size L:=rfl
theorem Dq:ak 119 rb:=λargs H n D c q t E F K d a u=>by
 unfold rb at c;split at c
 ·obtain⟨x,rfl,v⟩:=vs1 a;obtain⟨b,size,l,L,rfl,w,r,g,y,i,c⟩:=c;obtain⟨p,j,rfl⟩:=v.cL;have k:l.length=4:=by have:=congrArg List.length r;simpa[chk]using this
  have m:=oS.of (s:=chk size L) d (.inr ⟨_,w⟩) j (bC (n:=4) k) (by rw[r,A0]) (dS size L)
  exact GV Ft (cg L) (bb L) (Hh size L g y i) c d u (by kernel_rfl) (φ0:=⟨(ph1 ⟨p.B,p.s+0,4⟩).f,q.z,q.z,λ_ _=>False⟩)
   (λC=>d.zl (HR.ro1 C m) (λb o h=>by
    have hm:=ct h;simp only[Z4,Z5,or_false]at hm;injection hm with _ e;subst e;rfl) (λ_ h=>h)) rfl (.cons (.ptr (p:=⟨p.B,p.s+0,4⟩) (o:=0) rfl) .nil)
 ·exact c.elim
theorem PM.xa{a:Type}{v:a}{t:PM a}:(PM.set (some v) aa t 0).get 0=some v:=by cases t<;>rfl
theorem M3{u:AV}{H':AH}{a size:Nat}{e:Int}{M:Smp}{l:List AV}(c:mk u= .si .i64 e)(d:H'.get 0=some (.cells l true))(f:l.map mk=chk size M):
 ∃v b g,VTo u v/\eO H' a b g/\(v= .si .i64 e/\PM.get b 0=some (.cells (chk size M) true)):=
 ⟨.si .i64 e,H'.set (some (.cells (chk size M) true)) aa 0,a,λi w h=>by rw[<-c];exact h.mk,eO.Fq d rfl f,rfl,PM.xa⟩
theorem pR(A B:Smp):smp (A++B)=smp A++smp B:=by simp[smp]
theorem Dr(z:List AV)(a:Nat):∀b,iS z (a+b)=iS z a++iS z b:=by
 intro b
 induction a with
 |zero=>simp[iS]
 |succ a c=>rw[Nat.succ_add];simp[iS,c]
theorem xb(z:List AV):∀a,(iS z a).length=a*z.length
 |0=>by simp[iS]
 |a+1=>by simp[iS,xb z a,Nat.succ_mul];omega
theorem ll:∀(P X Q Y:List AV),Y.length=X.length->fD (P++(X++Q)) P.length Y=some (P++(Y++Q))
 | [],[],Q,[],_=>by cases Q<;>rfl
 | [],[],Q,y::Y,h=>by simp at h
 | [],x::X,Q,[],h=>by simp at h
 | [],x::X,Q,y::Y,h=>by
  have:=ll [] X Q Y (by simpa using h);simp only[q2h,q1l]at this⊢;simp[fD,this]
 |p::P,X,Q,Y,h=>by
  have:=ll P X Q Y h;simp[fD,this]
theorem M4{L:Smp}{i:Nat}(h:i<L.length){t m:Int}(a:tAt L i=t):fD (smp L) (0+i*2+1) [.si .i64 m]=some (smp (L.set i (t,m))):=by
 have e:L=L.take i++(L[i]::L.drop (i+1)):=by rw[<-q0k h,q1i]
 have b:L.set i (t,m)=L.take i++((t,m)::L.drop (i+1)):=by rw[List.set_eq_take_append_cons_drop,if_pos h]
 have c:(L.take i).length=i:=by rw[q0d];omega
 have d:smp L=(smp (L.take i)++ [.si .i64 L[i].1])++([.si .i64 L[i].2]++smp (L.drop (i+1))):=by
  have:=congrArg smp e;rw[pR]at this;rw[this,q0o];rfl
 have f:smp (L.set i (t,m))=(smp (L.take i)++ [.si .i64 L[i].1])++([.si .i64 m]++smp (L.drop (i+1))):=by
  rw[b,pR,<-eM h,a];simp[smp]
 have:=ll (smp (L.take i)++ [.si .i64 L[i].1]) [.si .i64 L[i].2] (smp (L.drop (i+1))) [.si .i64 m] rfl
 rw[Z6,bb,c,<-d,<-f]at this;rw[q0x];exact this
def z2:List AV:=[.int .i64 0,.int .i64 0]
theorem JT{l:Nat}{x:Int}{H:AH}{n:Nat}(a:x=(l:Int))(b:l<=1000000):vY Tryz.prog 52 (.int .i64 x) (.int .i64 x) H n=some (.sl n 0 l l 0,H.set (some (.cells (iS z2 l) true)) aa n,n+1):=by
 subst a;have e:vY Tryz.prog 52 (.int .i64 (l:Int)) (.int .i64 (l:Int)) H n=if l<=l/\16*l<=281474976710656/\l<=9223372036854775807/\(2:Nat)=2 then some (.sl n 0 l l 0,H.set (some (.cells (iS z2 l) true)) aa n,n+1)else none:=rfl
 rw[e,if_pos ⟨Z3 _,by omega,by omega,rfl⟩]
theorem JU{b l n c:Nat}{x:Int}(a:x=(l:Int))(d:l<=n)(f:n<=c):ji Tryz.prog 52 (.sl b 0 n c 0) (some (.int .i64 x)) none none=some (.sl b (if c=l then 0 else 0+l*2) (n-l) (c-l) 0):=by
 subst a;have e:ji Tryz.prog 52 (.sl b 0 n c 0) (some (.int .i64 (l:Int))) none none=if l<=n/\n<=c/\c<=c then some (.sl b (if c=l then 0 else 0+l*2) (n-l) (c-l) 0)else none:=rfl
 rw[e,if_pos ⟨d,f,Z3 _⟩]
def KU:FuncId->EP:=bg 183 [] (bg 119 [] (aq 123 Hf (aq 217 M1 (aq 179 AZ (aq 221 ra evP)))))
theorem V0:aV KU:=au (au (ag (ag (ag (ag az Dm) Sn) P7) Hg) (by kernel_rfl) (by kernel_rfl)) (by kernel_rfl) (by kernel_rfl)
def ChQ(e:Int)(size:Nat)(M:Smp):PK:=λu a _=>u= .si .i64 e/\PM.get a 0=some (.cells (chk size M) true)
theorem Dt{b:Bool}(h:b=false):¬b=true:=by simp[h]
theorem P8(size:Nat)(L:Smp)(t v p:Int)(hs:0<size)(hs2:size<=4096)(O:cG L)(hv:aQ v):post (ax KU 5 183) [.ptr 0 0,.agg [.si .i64 t,.si .i64 v],.si .i64 p] (mkH [(0,.cells (chk size L) true)]) 1 (ChQ (ft size L t v p).2 size (ft size L t v p).1):=by
 have hL:=O.2.2;have i:=O.jQ;have G:(0:Int)<(size:Int):=by omega
 have leaf:∀{u:AV} {H':AH} {n':Nat} {e:Int} {M:Smp} {l:List AV},ft size L t v p=(M,e)->mk u= .si .i64 e->PM.get H' 0=some (.cells l true)->l.map mk=chk size M->∃v2 H2 n2,VTo u v2/\eO H' n' H2 n2/\ChQ (ft size L t v p).2 size (ft size L t v p).1 v2 H2 n2:=λhp hu hb hl=>by
  rw[hp];exact M3 hu hb hl
 show ax KU 5 183 _ _ _ _
 conv=>whnf
 refine ae.dk (λh=>absurd G h) (λ_=>?_)
 conv=>whnf
 refine ae.dec (λh=>?_) (λh=>?_)
 ·have e:ft size L t v p=(L,1):=by unfold ft;rw[if_pos (.inl h)]
  conv=>whnf
  exact leaf e rfl rfl rfl
 conv=>whnf
 refine ae.dec (λP=>?_) (λP=>?_)
 ·have e:ft size L t v p=(L,1):=by unfold ft;rw[if_pos (.inr P)]
  conv=>whnf
  exact leaf e rfl rfl rfl
 have b:¬(t<0∨1099511627776<=t):=λq=>q.elim h P
 conv=>whnf
 refine ae.dk (λh=>absurd G h) (λ_=>?_)
 conv=>whnf
 refine⟨L,rfl,rfl,rfl,Y7 hL (by decide),i,⟨rfl,by decide⟩,?_⟩
 conv=>whnf
 refine⟨L,t,.inl (.inr (.inl (.inl ⟨_,0,0,_,_,⟨rfl,by decide⟩,.inr ⟨_,rfl⟩,dL L,bo L⟩))),rfl,Y7 hL (by decide),?_⟩
 conv=>whnf
 refine ae.nsb (λF=>?_) (λF=>?_)
 ·have Q:=qY L t;have hLn:=O.2.2;have c:ft size L t v p=qX size L (jP L t v):=by unfold ft;rw[if_neg b,if_neg (Dt F)]
  have j:IntKind.i64.wrap ((L.length:Int)+1)=((L.length+1:Nat):Int):=dh ⟨by omega,by omega⟩;have R:IntKind.i64.wrap ((plc L t:Int)+1)=((plc L t+1:Nat):Int):=dh ⟨by omega,by omega⟩;have d:(L.take (plc L t)).length=plc L t:=by rw[q0d];omega
  have r:(L.drop (plc L t)).length=L.length-plc L t:=by rw[q0m]
  have s:bl (smp L) 0 (plc L t*2)=some (smp (L.take (plc L t))):=by have:=Mh (L:=L) Q;rw[d]at this;exact this
  have w:bl (smp L) (0+plc L t*2) ((L.length-plc L t)*2)=some (smp (L.drop (plc L t))):=by
   unfold bl;rw[q0u (by rw[bb];omega),q0x,rZ,q1v (by rw[bb,r];omega)]
  have n:∀(M:Smp) (k:Nat),((smp M).take k).all om=true:=λM k=>by
   rw[q0a];intro y hy;have:=q0a.1 (cg M) y (q3f hy);cases y<;>first|rfl|cases this
  have S:iS z2 (L.length+1)=iS z2 (plc L t)++(iS z2 1++iS z2 (L.length-plc L t)):=by rw[<-Dr,<-Dr];congr 1;omega
  have z:fD (iS z2 (L.length+1)) 0 ((smp (L.take (plc L t))).take (min (plc L t) (L.length+1)*2))=some (smp (L.take (plc L t))++(iS z2 1++iS z2 (L.length-plc L t))):=by
   rw[S,q3r (by omega),q1v (by rw[bb,d];omega)];exact ll [] _ _ _ (by rw[bb,d,xb];rfl)
  have A:fD (smp (L.take (plc L t))++(iS z2 1++iS z2 (L.length-plc L t))) (0+plc L t*2) [.si .i64 t,.si .i64 v]=some (smp (L.take (plc L t))++([.si .i64 t,.si .i64 v]++iS z2 (L.length-plc L t))):=by
   have:=ll (smp (L.take (plc L t))) (iS z2 1) (iS z2 (L.length-plc L t)) [.si .i64 t,.si .i64 v] rfl
   rw[bb,d]at this;rw[q0x];exact this
  have B:fD (smp (L.take (plc L t))++([.si .i64 t,.si .i64 v]++iS z2 (L.length-plc L t))) (if L.length+1=plc L t+1 then 0 else 0+(plc L t+1)*2) ((smp (L.drop (plc L t))).take (min (L.length-plc L t) (L.length+1-(plc L t+1))*2))=some (smp (jP L t v)):=by
   have ei:smp (jP L t v)=smp (L.take (plc L t))++([.si .i64 t,.si .i64 v]++smp (L.drop (plc L t))):=by unfold jP;rw[pR];rfl
   have T:(smp (L.drop (plc L t))).take ((L.length-plc L t)*2)=smp (L.drop (plc L t)):=q1v (by rw[bb,r];omega);rw[show min (L.length-plc L t) (L.length+1-(plc L t+1))=L.length-plc L t from by omega,T,ei];by_cases q:L.length=plc L t
   ·have U:L.drop (plc L t)=[]:=q0c (by omega);rw[if_pos (by omega),U,show L.length-plc L t=0 from by omega];exact ll [] [] _ [] rfl
   ·rw[if_neg (by omega)];have:=ll (smp (L.take (plc L t))++ [.si .i64 t,.si .i64 v]) (iS z2 (L.length-plc L t)) [] (smp (L.drop (plc L t))) (by rw[bb,r,xb];rfl);rw[Z6,bb,d]at this;rw[show 0+(plc L t+1)*2=plc L t*2+ [AV.si .i64 t,.si .i64 v].length from by simp;omega];simpa using this
  have V:hd (AV.sy 3 0 (L.length+1) (L.length+1) 0)= .sl 3 0 (jP L t v).length (L.length+1) 0:=by rw[lk];rfl
  have f:∀x∈jP L t v,aQ x.1/\aQ x.2:=λx j=>by
   rcases oY.1 j with rfl|j
   ·exact⟨⟨by omega,by omega⟩,hv⟩
   ·exact i x j
  have g:IntKind.i64.wrap (8*(size:Int))=((8*size:Nat):Int):=dh ⟨by omega,by omega⟩;have C: [AV.si .i64 (size:Int),.ss (pack (aX (jP L t v))),.si .i64 ((aX (jP L t v)).length:Int),.si .i64 ((L.length+1:Nat):Int)].map mk=chk size (jP L t v):=by unfold chk;rw[lk];rfl
  have D:(jP L t v).length<=100000:=by rw[lk];omega
  have H:(jP L t v).length<=L.length+1:=by rw[lk];exact Z3 _
  have W:plc L t<L.length+1:=by omega
  have X:plc L t+1<=L.length+1:=by omega
  have I:L.length+1<=1000000:=by omega
  conv=>whnf
  refine Ask.mk _ (JT j I) ?_
  conv=>whnf
  refine RSl.mk 0 (plc L t) rfl rfl (.inl rfl) (Y5 _) Q ?_
  conv=>whnf
  refine GG.mk 2 (plc L t) (L.length+1) 3 0 (L.length+1) 0 2 0 2 0 _ (smp L) (smp (L.take (plc L t))) _ true rfl rfl (by decide) ⟨_,rfl,rfl⟩ (.inr ⟨_,rfl⟩) s rfl (n _ _) z ?_
  conv=>whnf
  refine Idx.mk (plc L t) rfl W ?_
  conv=>whnf
  refine aw A ?_
  conv=>whnf
  refine Ask.mk _ (JU R X (Z3 _)) ?_
  conv=>whnf
  refine RSl.mk (plc L t) L.length rfl rfl (.inl rfl) Q (Z3 _) ?_
  conv=>whnf
  refine GG.mk 2 (L.length-plc L t) (L.length+1-(plc L t+1)) 3 (if L.length+1=plc L t+1 then 0 else 0+(plc L t+1)*2) (L.length+1-(plc L t+1)) 0 2 (0+plc L t*2) 2 0 _ (smp L) (smp (L.drop (plc L t))) _ true rfl rfl (by decide) ⟨_,rfl,rfl⟩ (.inr ⟨_,rfl⟩) w rfl (n _ _) B ?_
  conv=>whnf
  refine⟨jP L t v,.inr (.inr ⟨3,0,L.length+1,0,_,_,V,.inr ⟨_,rfl⟩,dL _,bo _,H⟩),D,f,?_⟩
  conv=>whnf
  refine ae.dec (λE=>?_) (λE=>?_)
  ·have e:ft size L t v p=(L,2):=by rw[c];unfold qX;rw[if_neg (by rw[g]at E;omega)]
   conv=>whnf
   exact leaf e rfl rfl rfl
  ·have e:ft size L t v p=(jP L t v,0):=by rw[c];unfold qX;rw[if_pos (by rw[g]at E;omega)]
   conv=>whnf
   exact leaf e rfl rfl C
 ·have a:plc L t<L.length/\tAt L (plc L t)=t:=by unfold has at F;exact of_decide_eq_true F
  have J:L[plc L t].2=vAt L (plc L t):=(oX a.1).symm;have c:ft size L t v p=if(ba p (vAt L (plc L t)) v).2≠0 then(L,(ba p (vAt L (plc L t)) v).2)else qX size L (lj L t (ba p (vAt L (plc L t)) v).1):=by unfold ft;rw[if_neg b,if_pos F]
  have Y:0+plc L t*2+1=plc L t*2+1:=by omega
  have Z:aQ (ba p L[plc L t].2 v).1:=zq (i _ (q0g a.1)).2 hv;have K:=M4 a.1 (m:=(ba p L[plc L t].2 v).1) a.2
  have f:∀x∈lj L t (ba p L[plc L t].2 v).1,aQ x.1/\aQ x.2:=λx j=>by
   rcases(sr O.1 F).1 j with rfl|⟨j,_⟩
   ·exact⟨⟨by omega,by omega⟩,Z⟩
   ·exact i x j
  have N:=sq L t (ba p L[plc L t].2 v).1;have D:(lj L t (ba p L[plc L t].2 v).1).length<=100000:=by omega
  have g:IntKind.i64.wrap (8*(size:Int))=((8*size:Nat):Int):=dh ⟨by omega,by omega⟩;have hrw:AV.rw 2 0 L.length 2 0= .rw 2 0 (lj L t (ba p L[plc L t].2 v).1).length 2 0:=by rw[N]
  have C: [AV.si .i64 (size:Int),.ss (pack (aX (lj L t (ba p L[plc L t].2 v).1))),.si .i64 ((aX (lj L t (ba p L[plc L t].2 v).1)).length:Int),.si .i64 ((L.length:Nat):Int)].map mk=chk size (lj L t (ba p L[plc L t].2 v).1):=by unfold chk;rw[N];rfl
  conv=>whnf
  refine Idx.mk (plc L t) rfl a.1 ?_
  conv=>whnf
  refine aw (wL a.1 Y) ?_
  conv=>whnf
  refine⟨p,L[plc L t].2,v,rfl,rfl,rfl,?_⟩
  conv=>whnf
  refine ae.dk (λE=>?_) (λE=>?_)
  ·have e:ft size L t v p=(L,(ba p L[plc L t].2 v).2):=by rw[c,<-J,if_pos E]
   conv=>whnf
   exact leaf e rfl rfl rfl
  ·have o:ft size L t v p=qX size L (lj L t (ba p L[plc L t].2 v).1):=by rw[c,<-J,if_neg (λq=>q E)]
   conv=>whnf
   refine Idx.mk (plc L t) rfl a.1 ?_
   conv=>whnf
   refine aw K ?_
   conv=>whnf
   refine⟨lj L t (ba p L[plc L t].2 v).1,.inr (.inl (.inl ⟨_,0,0,_,_,⟨hrw,by decide⟩,.inr ⟨_,rfl⟩,dL _,bo _⟩)),D,f,?_⟩
   conv=>whnf
   refine ae.dec (λh4=>?_) (λh4=>?_)
   ·have e:ft size L t v p=(L,2):=by rw[o];unfold qX;rw[if_neg (by rw[g]at h4;omega)]
    conv=>whnf
    exact leaf e rfl rfl rfl
   ·have e:ft size L t v p=(lj L t (ba p L[plc L t].2 v).1,0):=by rw[o];unfold qX;rw[if_pos (by rw[g]at h4;omega)]
    conv=>whnf
    exact leaf e rfl rfl C
def M5(args:List AV)(H:AH)(n:Nat)(κ:PK):Prop:=match args with
 | [x,y,z]=>∃(b size:Nat) (L:Smp) (t v p:Int),x= .ptr b 0/\nH y t v/\mk z= .si .i64 p/\b<n/\H.get b=some (.cells (chk size L) true)/\0<size/\size<=4096/\cG L/\aQ v/\
  κ (.si .i64 (ft size L t v p).2) (H.set (some (.cells (chk size (ft size L t v p).1) true)) aa b) n
 |_=>False
theorem V2:ak 183 M5:=λargs H n E c F i G I K j a k=>by
 unfold M5 at c;split at c
 ·obtain⟨x,y,z,rfl,l,m,q⟩:=vs3 a;obtain⟨b,size,L,t,v,p,rfl,r,s,d,w,e,f,A,B,c⟩:=c
  refine dC (S:=[b]) (O:=[.cells (chk size L) true]) (args0:=[.ptr 0 0,.agg [.si .i64 t,.si .i64 v],.si .i64 p]) (ak.post (ay V0 5 _)) (by kernel_rfl) j
   (nL d w (.inr rfl)) (.cons l (.cons (r.open m _) (.cons (aU rfl (s▸q.mk)) .nil))) k (P8 size L t v p e f A B) λu J M ⟨C,D⟩=>?_
  subst C;refine⟨1,ki [b] n H [(0,some (.cells (chk size (ft size L t v p).1) true))],Z3 _,fF.put (Z3 _) rfl (λx h o ho=>?_),rfl,c⟩;simp only[Z4,Z5,or_false]at h;subst h;injection ho with ho;subst ho;exact⟨D,rfl,rfl⟩
 ·exact c.elim
theorem Fu(L:Smp)(a b:Int){i:Nat}(h:i<L.length):aE (L.take (i+1)) a b=aE (L.take i) a b++(if(decide (L[i].1<a)||decide (b<L[i].1))=true then [L[i]]else []):=by
 unfold aE;rw[Y8 h,q2i];congr 1;simp only[List.filter_cons,List.filter_nil]
theorem JV(L:Smp)(a b:Int):(aE L a b).length<=L.length:=q0y _ _
def dr (size:Nat) (L:Smp) (a:Int) (b:Int) (i:Nat):AE×AH:=(mkE [(0,.ptr 0 (0)),(1,.si .i64 (a)),(2,.si .i64 (b)),(7,.rw 1 0 (aE (L.take i) a b).length 2 0),(15,.fr L.length 2 (smp L)),(16,.si .i64 (((L.length:Nat):Int))),(17,.si .i64 (((i:Nat):Int)))],mkH [(0,.cells (chk size L) true),(1,.cells (smp ((aE (L.take i) a b))) true)])
theorem A3{size:Nat}{L:Smp}{a:Int}{b:Int}{i:Nat}{p n:Nat}{σ:AE}{H:AH}(j1:Nat)(u:j1≠0)(v:p<=1)(k:aj (pa 0) σ= .ptr 0 (0))(m:mk (aj (pa 1) σ)= .si .i64 (a))(o:mk (aj (pa 2) σ)= .si .i64 (b))(r:ah H 2 (λb=>if b=1 then j1 else b) (aj (pa 7) σ) (.rw 1 0 (aE (L.take i) a b).length 2 0))(c:aj (pa 15) σ= .fr L.length 2 (smp L))(d:mk (aj (pa 16) σ)= .si .i64 (((L.length:Nat):Int)))(e:mk (aj (pa 17) σ)= .si .i64 (((i:Nat):Int)))(s:∃l,H.get 0=some (.cells l true)/\mO H 2 (λb=>if b=1 then j1 else b) l (chk size L))(t:(∃l,H.get j1=some (.cells l true)/\l.map mk=smp ((aE (L.take i) a b)))∨(((aE (L.take i) a b))=[]/\n<=j1)):Cov p σ H n ((dr size L a b i).1,(dr size L a b i).2,2):=
 Cov.ofB (λb=>if b=1 then j1 else b) (by omega) (λb w=>by repeat' rw[if_neg (by omega)]) ⟨.ptr (by decide) k,.int m,.int o,r,ah.frE c,.int d,.int e,trivial⟩ ⟨.inl (s.elim λl h=>⟨_,h.1,ao.st h.2⟩),t.elim (λ⟨l,h,g⟩=> .inl ⟨_,h,ao.bA (cg _) (by rw[g,bo]) (λq=>q)⟩) (λh=> .inr ⟨by rw[h.1];rfl,h.2⟩),trivial⟩ rfl (λx f y j=>by simp only[Z4,Z5,or_false]at f j;rcases f with rfl|rfl<;>rcases j with rfl|rfl<;>simp<;>omega)
def KDr:FuncId->EP:=aq 119 rb (aq 221 ra evP)
theorem Tt:aV KDr:=ag (ag az Dm) Dq
theorem M6(size:Nat)(L:Smp)(a b:Int)(G:0<size)(s:cG L):post (ax KDr 5 157) [.ptr 0 0,.si .i64 a,.si .i64 b] (mkH [(0,.cells (chk size L) true)]) 1 (ChQ ((L.length:Int)-((aE L a b).length:Int)) size (aE L a b)):=by
 have K:=s.2.2;have t:=s.jQ;have u:L.length<=100000:=by omega
 have v:(0:Int)<(size:Int):=by omega
 have e:∀{H:AH} {m:Nat} {r:Nat->Nat},mO H m r (chk size L) (chk size L):= .cons (.int rfl) (.cons (.str rfl) (.cons (.int rfl) (.cons (.int rfl) .nil)));show ax KDr 5 157 _ _ _ _
 conv=>whnf
 refine ae.dk (λh=>absurd v h) (λ_=>?_)
 conv=>whnf
 refine⟨0,size,_,L,rfl,rfl,rfl,G,u,t,?_⟩
 conv=>whnf
 refine aR.mk {i:Nat//i<=L.length} 2 (λi=>dr size L a b i.val) (λi=>L.length-i.val) ⟨0,Y5 _⟩ ?_ ?_
 ·exact A3 (j1:=1) (by decide) (Z3 1) rfl rfl rfl (.iU rfl) rfl rfl rfl ⟨_,rfl,e⟩ (.inr ⟨rfl,Z3 _⟩)
 ·intro⟨i,M⟩;have x:(aE (L.take i) a b).length<=20000:=Y7 (JV _ _ _) (by rw[q0d];omega);have d:bl (smp (aE (L.take i) a b)) 0 ((aE (L.take i) a b).length*2)=some (smp (aE (L.take i) a b)):=dL _
  conv=>whnf
  refine ae.dec (λh=>?_) (λh=>?_)
  ·have c:i<L.length:=by exact q0s.1 h
   have g:IntKind.i64.wrap ((i:Int)+1)=(((i+1:Nat)):Int):=dh ⟨by omega,by omega⟩;have f:((aE (L.take i) a b).length+1)*16<=140737488355328:=by omega
   have j:L.length-(i+1)<L.length-i:=by omega
   have k:=Fu L a b c;have F:(decide (L[i].1<a)||decide (b<L[i].1))=true->aE (L.take (i+1)) a b=aE (L.take i) a b++ [L[i]]:=λq=>by rw[k,if_pos q]
   have l:¬(decide (L[i].1<a)||decide (b<L[i].1))=true->aE (L.take (i+1)) a b=aE (L.take i) a b:=λq=>by rw[k,if_neg q,q1d]
   have n:(decide (L[i].1<a)||decide (b<L[i].1))=true->(aE (L.take i) a b).length+1=(aE (L.take (i+1)) a b).length:=λq=>by rw[F q];simp
   have o:(decide (L[i].1<a)||decide (b<L[i].1))=true->(smp (aE (L.take i) a b)++ [AV.si .i64 L[i].1,AV.si .i64 L[i].2]).map mk=smp (aE (L.take (i+1)) a b):=λq=>by rw[F q,<-Dp,bo]
   have y:¬(decide (L[i].1<a)||decide (b<L[i].1))=true->(smp (aE (L.take i) a b)).map mk=smp (aE (L.take (i+1)) a b):=λq=>by rw[l q,bo]
   have z:¬(decide (L[i].1<a)||decide (b<L[i].1))=true->(aE (L.take i) a b).length=(aE (L.take (i+1)) a b).length:=λq=>by rw[l q]
   conv=>whnf
   refine Idx.mk i rfl c ?_
   conv=>whnf
   refine aw (fO c rfl) ?_
   conv=>whnf
   refine ae.dec (λA=>?_) (λA=>?_)
   ·have q:(decide (L[i].1<a)||decide (b<L[i].1))=true:=by simp[A]
    conv=>whnf
    refine bI.grow 2 16 _ _ _ _ _ _ tyS (.old rfl) rfl rfl (.rw rfl d) f ?_
    conv=>whnf
    exact⟨⟨i+1,c⟩,j,A3 (j1:=4) (by decide) (Z3 1) rfl rfl rfl (ah.rw (by decide) rfl (hn:=n q)) rfl rfl (congrArg (AV.si .i64) g) ⟨_,rfl,e⟩ (.inl ⟨_,rfl,o q⟩)⟩
   ·conv=>whnf
    refine ae.dec (λB=>?_) (λB=>?_)
    ·have q:(decide (L[i].1<a)||decide (b<L[i].1))=true:=by simp[B]
     conv=>whnf
     refine bI.grow 2 16 _ _ _ _ _ _ tyS (.old rfl) rfl rfl (.rw rfl d) f ?_
     conv=>whnf
     exact⟨⟨i+1,c⟩,j,A3 (j1:=4) (by decide) (Z3 1) rfl rfl rfl (ah.rw (by decide) rfl (hn:=n q)) rfl rfl (congrArg (AV.si .i64) g) ⟨_,rfl,e⟩ (.inl ⟨_,rfl,o q⟩)⟩
    ·have q:¬(decide (L[i].1<a)||decide (b<L[i].1))=true:=by simp[A,B]
     conv=>whnf
     exact⟨⟨i+1,c⟩,j,A3 (j1:=1) (by decide) (Z3 1) rfl rfl rfl (ah.rw (by decide) rfl (hn:=z q)) rfl rfl (congrArg (AV.si .i64) g) ⟨_,rfl,e⟩ (.inl ⟨_,rfl,y q⟩)⟩
  ·have C:i=L.length:=by have:¬i<L.length:=λq=>h (q0s.2 q);omega
   have p:L.take i=L:=by rw[C,q0l]
   have D:=wY (s.sub (q4m i L)) a b;have E:(aE (L.take i) a b).length<=100000:=by omega
   have I:IntKind.i64.wrap ((L.length:Int)-((aE (L.take i) a b).length:Int))=(L.length:Int)-((aE L a b).length:Int):=by
    rw[p]at x⊢;exact dh ⟨by omega,by omega⟩
   have J:(chk size (aE (L.take i) a b)).map mk=chk size (aE L a b):=by rw[p];rfl
   conv=>whnf
   refine⟨aE (L.take i) a b,.inr (.inl (.inl ⟨_,0,0,_,_,⟨rfl,by decide⟩,.inr ⟨_,rfl⟩,d,bo _⟩)),E,D.jQ,?_⟩
   conv=>whnf
   exact M3 (congrArg (AV.si .i64) I) rfl J
def Hk(args:List AV)(H:AH)(n:Nat)(κ:PK):Prop:=match args with
 | [x,y,z]=>∃(c size:Nat) (L:Smp) (a b:Int),x= .ptr c 0/\mk y= .si .i64 a/\mk z= .si .i64 b/\c<n/\H.get c=some (.cells (chk size L) true)/\0<size/\cG L/\
  κ (.si .i64 ((L.length:Int)-((aE L a b).length:Int))) (H.set (some (.cells (chk size (aE L a b)) true)) aa c) n
 |_=>False
theorem Tu:ak 157 Hk:=λargs H n B e C j D E K k d l=>by
 unfold Hk at e;split at e
 ·obtain⟨x,y,z,rfl,m,p,q⟩:=vs3 d;obtain⟨c,size,L,a,b,rfl,r,s,f,t,g,v,e⟩:=e
  refine dC (S:=[c]) (O:=[.cells (chk size L) true]) (args0:=[.ptr 0 0,.si .i64 a,.si .i64 b]) (ak.post (ay Tt 5 _)) (by kernel_rfl) k
   (nL f t (.inr rfl)) (.cons m (.cons (aU rfl (r▸p.mk)) (.cons (aU rfl (s▸q.mk)) .nil))) l (M6 size L a b g v) λu F G ⟨w,A⟩=>?_
  subst w;refine⟨1,ki [c] n H [(0,some (.cells (chk size (aE L a b)) true))],Z3 _,fF.put (Z3 _) rfl (λx i o ho=>?_),rfl,e⟩;simp only[Z4,Z5,or_false]at i;subst i;injection ho with ho;subst ho;exact⟨A,rfl,rfl⟩
 ·exact e.elim
def KGt:FuncId->EP:=aq 119 rb (aq 123 Hf evP)
theorem Tv:aV KGt:=ag (ag az Hg) Dq
theorem M7{u v:AV}{H':AH}{a size:Nat}{L:Smp}(d:mkT u=v)(e:PM.get H' 0=some (.cells (chk size L) true)):∃b c f,VTo u b/\eO H' a c f/\(b=v/\PM.get c 0=some (.cells (chk size L) true)):=⟨v,H',a,λg w h=>d▸h.mkT,.refl _ _,rfl,e⟩
def GtQ(size:Nat)(L:Smp)(t:Int):PK:=λu a _=>u= .tup [.si .i64 (gQ L t).1,.si .i64 (gQ L t).2]/\PM.get a 0=some (.cells (chk size L) true)
theorem P9(size:Nat)(L:Smp)(t:Int)(j:0<size)(i:cG L):post (ax KGt 5 64) [.ptr 0 0,.si .i64 t] (mkH [(0,.cells (chk size L) true)]) 1 (GtQ size L t):=by
 have k:=i.2.2;have c:=i.jQ;have d:L.length<=100000:=by omega
 have f:L.length<=100000000:=by omega
 have g:(0:Int)<(size:Int):=by omega
 show ax KGt 5 64 _ _ _ _
 conv=>whnf
 refine ae.dk (λh=>absurd g h) (λ_=>?_)
 conv=>whnf
 refine⟨0,size,_,L,rfl,rfl,rfl,j,d,c,?_⟩
 conv=>whnf
 refine⟨L,t,.inr rfl,rfl,f,?_⟩
 conv=>whnf
 refine ae.nsb (λb=>?_) (λb=>?_)
 ·have e:AV.tup [.si .i64 0,.si .i64 5]= .tup [.si .i64 (gQ L t).1,.si .i64 (gQ L t).2]:=by unfold gQ;rw[if_neg (by simp[b])]
  conv=>whnf
  exact M7 e rfl
 ·have a:plc L t<L.length/\tAt L (plc L t)=t:=by unfold has at b;exact of_decide_eq_true b
  have e:AV.tup [.si .i64 L[plc L t].2,.si .i64 0]= .tup [.si .i64 (gQ L t).1,.si .i64 (gQ L t).2]:=by unfold gQ;rw[if_pos b,oX a.1]
  conv=>whnf
  refine Idx.mk (plc L t) rfl a.1 ?_
  conv=>whnf
  refine aw (wL a.1 rfl) ?_
  conv=>whnf
  exact M7 e rfl
def M8(args:List AV)(H:AH)(n:Nat)(κ:PK):Prop:=match args with
 | [x,y]=>∃(c size:Nat) (L:Smp) (t:Int),x= .ptr c 0/\mk y= .si .i64 t/\c<n/\H.get c=some (.cells (chk size L) true)/\0<size/\cG L/\κ (.tup [.si .i64 (gQ L t).1,.si .i64 (gQ L t).2]) H n
 |_=>False
theorem V3:ak 64 M8:=λargs H n A b B k C D K l a m=>by
 unfold M8 at b;split at b
 ·obtain⟨x,y,rfl,p,q⟩:=vs2 a;obtain⟨c,size,L,t,rfl,r,f,j,g,v,b⟩:=b
  refine dC (S:=[c]) (O:=[.cells (chk size L) true]) (args0:=[.ptr 0 0,.si .i64 t]) (ak.post (ay Tv 5 _)) (by kernel_rfl) l
   (nL f j (.inr rfl)) (.cons p (.cons (aU rfl (r▸q.mk)) .nil)) m (P9 size L t g v) λu E F ⟨w,z⟩=>?_
  subst w;refine⟨1,H,Z3 _,fF.same λi s o d e _=>?_,rfl,b⟩;cases i with
  |zero=>
   injection d with d;subst d;rw[j]at e;injection e with e;subst e;exact⟨_,z,rfl,rfl,rfl⟩
  |succ i=>simp at d
 ·exact b.elim
abbrev Op4:=Int×Int×Int×Int
def X8(S:List Op4):List AV:=S.flatMap λo=> [.si .i64 o.1,.si .i64 o.2.1,.si .i64 o.2.2.1,.si .i64 o.2.2.2]
def rs (S:List Op4) (t:Int) (L:Smp) (v:Int) (is:Bool) (i:Nat):AE×AH:=(mkE [(0,.fr S.length 4 (X8 S)),(1,.si .i64 (t)),(5,.ptr 0 (0)),(7,.si .i64 (v)),(8,.sb (is)),(9,.si .i64 (((i:Nat):Int)))],mkH [(0,.cells (chk 4096 L) true)])
theorem JW{P:Program}{t:TypeId}{H:AH}{a b c d:Int}(e:iM P t=some [(0,0),(0,1)]):yw P .neq t (.agg [.int .i64 a,.int .i64 b]) (.agg [.int .i64 c,.int .i64 d]) H=some (.bool (!(decide (a=c)&&(decide (b=d)&&true)))):=by
 simp[yw,e,jJ,nth,qt]
def ho (M:Smp) (sz:Nat) (L:Smp) (i:Nat):AE×AH:=(mkE [(1,.fr M.length 2 (smp M)),(5,.ptr 0 (0)),(7,.si .i64 (((i:Nat):Int)))],mkH [(0,.cells (chk sz L) true)])
def rch(sz:Nat)(L:Smp):List AV:=[.si .i64 (sz:Int),.fr L.length 2 (smp L)]
theorem M9(size:Nat)(L:Smp)(c:0<size)(b:L.length<=100000)(a:∀x∈L,aQ x.1/\aQ x.2):ax KAl 3 119 [.ptr 0 0] (mkH [(0,.ro (chk size L))]) 1 λu H' _=>lY L u H':=by
 conv=>whnf
 refine ae.dk (λh=>absurd (show(0:Int)<(size:Int) by omega) h) (λ_=>?_)
 conv=>whnf
 refine⟨L,rfl,rfl,rfl,b,a,⟨rfl,by decide⟩,?_⟩
 conv=>whnf
 exact lY.rw rfl rfl (dL L) (bo L)
def A4(args:List AV)(H:AH)(n:Nat)(κ:PK):Prop:=match args with
 | [x]=>∃(b size:Nat) (l:List AV) (L:Smp),x= .ptr b 0/\H.get b=some (.cells l true)/\l.map mk=chk size L/\0<size/\L.length<=100000/\(∀x∈L,aQ x.1/\aQ x.2)/\GQ (λr=>r) L H n κ
 |_=>False
theorem Tw:ak 119 A4:=λargs H n y c z m A C K j a q=>by
 unfold A4 at c;split at c
 ·obtain⟨x,rfl,r⟩:=vs1 a;obtain⟨b,size,l,L,rfl,t,k,d,u,e,c⟩:=c;obtain⟨p,f,rfl⟩:=r.cL;have g:l.length=4:=by have:=congrArg List.length k;simpa[chk]using this
  have i:=oS.of (s:=chk size L) j (.inr ⟨_,t⟩) f (bC (n:=4) g) (by rw[k,A0]) (dS size L);exact JF Ft (λ_ _ h=>h) (M9 size L d u e) c j q (by kernel_rfl) (φ0:=ph1 ⟨p.B,p.s+0,4⟩) (λw=>HR.ro1 w i) (.cons (.ptr (p:=⟨p.B,p.s+0,4⟩) (o:=0) rfl) .nil)
 ·exact c.elim
def Hl(args:List AV)(H:AH)(n:Nat)(κ:PK):Prop:=rb args H n κ∨A4 args H n κ
theorem Ty:ak 119 Hl:=λargs H n a b=>b.elim (Dq args H n a) (Tw args H n a)
theorem xc{a:Type}{v:Option a}{t:PM a}:(PM.set v aa t 1).get 0=t.get 0:=by cases t<;>rfl
theorem xd{a:Type}{v:Option a}{t:PM a}:(PM.set v aa t 0).get 1=t.get 1:=by cases t<;>rfl
theorem xe{a:Type}{v:a}{t:PM a}:(PM.set (some v) aa t 1).get 1=some v:=by
 cases t with
 |nil=>rfl
 |node l u r=>cases l<;>rfl
def Tz(e:Int)(s1 s2:Nat)(L M:Smp):PK:=λu a _=>u= .si .i64 e/\PM.get a 0=some (.cells (chk s1 L) true)/\PM.get a 1=some (.cells (chk s2 M) true)
theorem Qa{u:AV}{H':AH}{a s1 s2:Nat}{e:Int}{L M:Smp}{l m:List AV}(d:mk u= .si .i64 e)(f:PM.get H' 0=some (.cells l true))(g:l.map mk=chk s1 L)(i:PM.get H' 1=some (.cells m true))(j:m.map mk=chk s2 M):
 ∃v b c,VTo u v/\eO H' a b c/\Tz e s1 s2 L M v b c:=
 ⟨.si .i64 e,(H'.set (some (.cells (chk s2 M) true)) aa 1).set (some (.cells (chk s1 L) true)) aa 0,a,λn w h=>by rw[<-d];exact h.mk,(eO.Fq (l':=chk s2 M) i rfl j).trans (eO.Fq (l':=chk s1 L) (xc.trans f) rfl g),rfl,PM.xa,xd.trans xe⟩
def KJo:FuncId->EP:=aq 119 Hl (aq 221 ra evP)
theorem TA:aV KJo:=ag (ag az Dm) Ty
theorem Na(s1 s2:Nat)(L M:Smp)(H:0<s1)(W:s1<=4096)(G:0<s2)(C:cG L)(z:cG M):post (ax KJo 5 188) [.ptr 0 0,.ptr 1 0] (mkH [(0,.cells (chk s1 L) true),(1,.cells (chk s2 M) true)]) 2 (Tz (bR s1 L M).2 s1 s2 (bR s1 L M).1.1 (bR s1 L M).1.2):=by
 have leaf:∀{u:AV} {K:AH} {X:Nat} {e:Int} {A B:Smp} {l m:List AV},bR s1 L M=((A,B),e)->mk u= .si .i64 e->PM.get K 0=some (.cells l true)->l.map mk=chk s1 A->PM.get K 1=some (.cells m true)->m.map mk=chk s2 B->∃T U V,VTo u T/\eO K X U V/\Tz (bR s1 L M).2 s1 s2 (bR s1 L M).1.1 (bR s1 L M).1.2 T U V:=λY Z hb hl hc hm=>by
  rw[Y];exact Qa Z hb hl hc hm
 have N:(0:Int)<(s1:Int):=by omega
 have O:(0:Int)<(s2:Int):=by omega
 have hLl:=C.2.2;have hMl:=z.2.2;have r:L.length<=100000:=by omega
 have o:M.length<=100000:=by omega
 have d:IntKind.i64.wrap (8*(s1:Int))=((8*s1:Nat):Int):=dh ⟨by omega,by omega⟩;have c:bl (smp L) 0 (L.length*2)=some (smp L):=dL L
 have i:(smp M).all om=true:=by
  rw[q0a];intro y hy;have:=q0a.1 (cg M) y hy;cases y<;>first|rfl|cases this
 have j:(L.length+M.length)*16<=140737488355328:=by omega
 have s:(L++M).length=L.length+M.length:=Z6;have a:bl (smp L++smp M) 0 ((L++M).length*2)=some (smp (L++M)):=by rw[<-pR];exact dL _
 have n:(L++M).length<=100000:=by omega
 have t:∀x∈L++M,aQ x.1/\aQ x.2:=λx P=>(q1e.1 P).elim (C.jQ x) (z.jQ x)
 have v:∀x∈([]:Smp),aQ x.1/\aQ x.2:=λx P=>by cases P
 have w: [AV.si .i64 (s1:Int),.ss (pack (aX (L++M))),.si .i64 ((aX (L++M)).length:Int),.si .i64 ((L.length+M.length:Nat):Int)].map mk=chk s1 (L++M):=by unfold chk;rw[s];rfl
 show ax KJo 5 188 _ _ _ _
 conv=>whnf
 refine ae.dk (λh=>absurd N h) (λ_=>?_)
 conv=>whnf
 refine ae.dk (λh=>absurd O h) (λ_=>?_)
 conv=>whnf
 refine .inl ⟨0,s1,_,L,rfl,rfl,rfl,H,r,C.jQ,?_⟩
 conv=>whnf
 refine ae.dec (λD=>?_) (λD=>?_)
 ·have I:L=[]:=q0c (q3y.1 D)
  conv=>whnf
  refine .inl ⟨1,s2,_,M,rfl,rfl,rfl,G,o,z.jQ,?_⟩
  conv=>whnf
  refine ae.dec (λp=>?_) (λp=>?_)
  ·have b:bR s1 L M=if(aX (L++M)).length<=8*s1 then((L++M,[]),0)else((L,M),2):=by unfold bR;rw[if_neg (by simp[qA,I])]
   conv=>whnf
   refine .inr ⟨0,s1,_,L,rfl,rfl,rfl,H,r,C.jQ,⟨rfl,by decide⟩,?_⟩
   conv=>whnf
   refine .inl ⟨1,s2,_,M,rfl,rfl,rfl,G,o,z.jQ,?_⟩
   conv=>whnf
   refine bI.grow 2 16 _ _ _ _ _ _ tyS .fr (bb M) i (.rw rfl c) j ?_
   conv=>whnf
   refine⟨L++M,.inr (.inl (.inl ⟨_,0,0,_,_,⟨congrArg (λk=>AV.rw _ 0 k 2 0) s.symm,by decide⟩,.inr ⟨_,rfl⟩,a,bo _⟩)),n,t,?_⟩
   conv=>whnf
   refine ae.dec (λg=>?_) (λg=>?_)
   ·have e:bR s1 L M=((L,M),2):=by rw[b,if_neg (by rw[d]at g;omega)]
    conv=>whnf
    exact leaf e rfl rfl rfl rfl rfl
   ·have e:bR s1 L M=((L++M,[]),0):=by rw[b,if_pos (by rw[d]at g;omega)]
    conv=>whnf
    refine⟨[],.inl ⟨rfl,rfl⟩,by decide,v,?_⟩
    conv=>whnf
    exact leaf e rfl rfl w rfl rfl
  ·have f:0<M.length:=q3c λq=>p (by exact q3y.2 q)
   conv=>whnf
   refine Idx.mk 0 rfl f ?_
   conv=>whnf
   refine aw (fO f rfl) ?_;have b:bR s1 L M=if(aX (L++M)).length<=8*s1 then((L++M,[]),0)else((L,M),2):=by unfold bR;rw[if_neg (by simp[qA,I])]
   conv=>whnf
   refine .inr ⟨0,s1,_,L,rfl,rfl,rfl,H,r,C.jQ,⟨rfl,by decide⟩,?_⟩
   conv=>whnf
   refine .inl ⟨1,s2,_,M,rfl,rfl,rfl,G,o,z.jQ,?_⟩
   conv=>whnf
   refine bI.grow 2 16 _ _ _ _ _ _ tyS .fr (bb M) i (.rw rfl c) j ?_
   conv=>whnf
   refine⟨L++M,.inr (.inl (.inl ⟨_,0,0,_,_,⟨congrArg (λk=>AV.rw _ 0 k 2 0) s.symm,by decide⟩,.inr ⟨_,rfl⟩,a,bo _⟩)),n,t,?_⟩
   conv=>whnf
   refine ae.dec (λg=>?_) (λg=>?_)
   ·have e:bR s1 L M=((L,M),2):=by rw[b,if_neg (by rw[d]at g;omega)]
    conv=>whnf
    exact leaf e rfl rfl rfl rfl rfl
   ·have e:bR s1 L M=((L++M,[]),0):=by rw[b,if_pos (by rw[d]at g;omega)]
    conv=>whnf
    refine⟨[],.inl ⟨rfl,rfl⟩,by decide,v,?_⟩
    conv=>whnf
    exact leaf e rfl rfl w rfl rfl
 ·have J:0<L.length:=q3c λq=>D (by exact q3y.2 q)
  have E:L.length-1<L.length:=by omega
  have Q:IntKind.i64.wrap ((L.length:Int)-1)=((L.length-1:Nat):Int):=(dh ⟨by omega,by omega⟩).trans (by omega)
  conv=>whnf
  refine Idx.mk (L.length-1) Q E ?_
  conv=>whnf
  refine aw (fO E rfl) ?_
  conv=>whnf
  refine .inl ⟨1,s2,_,M,rfl,rfl,rfl,G,o,z.jQ,?_⟩
  conv=>whnf
  refine ae.dec (λp=>?_) (λp=>?_)
  ·have R:M=[]:=q0c (q3y.1 p);have b:bR s1 L M=if(aX (L++M)).length<=8*s1 then((L++M,[]),0)else((L,M),2):=by unfold bR;rw[if_neg (by simp[qA,R])]
   conv=>whnf
   refine .inr ⟨0,s1,_,L,rfl,rfl,rfl,H,r,C.jQ,⟨rfl,by decide⟩,?_⟩
   conv=>whnf
   refine .inl ⟨1,s2,_,M,rfl,rfl,rfl,G,o,z.jQ,?_⟩
   conv=>whnf
   refine bI.grow 2 16 _ _ _ _ _ _ tyS .fr (bb M) i (.rw rfl c) j ?_
   conv=>whnf
   refine⟨L++M,.inr (.inl (.inl ⟨_,0,0,_,_,⟨congrArg (λk=>AV.rw _ 0 k 2 0) s.symm,by decide⟩,.inr ⟨_,rfl⟩,a,bo _⟩)),n,t,?_⟩
   conv=>whnf
   refine ae.dec (λg=>?_) (λg=>?_)
   ·have e:bR s1 L M=((L,M),2):=by rw[b,if_neg (by rw[d]at g;omega)]
    conv=>whnf
    exact leaf e rfl rfl rfl rfl rfl
   ·have e:bR s1 L M=((L++M,[]),0):=by rw[b,if_pos (by rw[d]at g;omega)]
    conv=>whnf
    refine⟨[],.inl ⟨rfl,rfl⟩,by decide,v,?_⟩
    conv=>whnf
    exact leaf e rfl rfl w rfl rfl
  ·have f:0<M.length:=q3c λq=>p (by exact q3y.2 q)
   conv=>whnf
   refine Idx.mk 0 rfl f ?_
   conv=>whnf
   refine aw (fO f rfl) ?_
   have hd:decide (M[0].1<=L[L.length-1].1)=qA L M:=by
    unfold qA su;have a1:decide (L≠[])=true:=by rw[decide_eq_true_eq];intro q;rw[q]at J;cases J
    have a2:decide (M≠[])=true:=by rw[decide_eq_true_eq];intro q;rw[q]at f;cases f
    rw[eM f,eM E,a1,a2];rfl
   conv=>whnf
   refine ae.dec (λF=>?_) (λF=>?_)
   ·have e:bR s1 L M=((L,M),1):=by unfold bR;rw[if_pos (hd▸decide_eq_true F)]
    conv=>whnf
    exact leaf e rfl rfl rfl rfl rfl
   ·have S:¬qA L M=true:=by rw[<-hd,decide_eq_true_eq];exact F
    have b:bR s1 L M=if(aX (L++M)).length<=8*s1 then((L++M,[]),0)else((L,M),2):=by unfold bR;rw[if_neg S]
    conv=>whnf
    refine .inr ⟨0,s1,_,L,rfl,rfl,rfl,H,r,C.jQ,⟨rfl,by decide⟩,?_⟩
    conv=>whnf
    refine .inl ⟨1,s2,_,M,rfl,rfl,rfl,G,o,z.jQ,?_⟩
    conv=>whnf
    refine bI.grow 2 16 _ _ _ _ _ _ tyS .fr (bb M) i (.rw rfl c) j ?_
    conv=>whnf
    refine⟨L++M,.inr (.inl (.inl ⟨_,0,0,_,_,⟨congrArg (λk=>AV.rw _ 0 k 2 0) s.symm,by decide⟩,.inr ⟨_,rfl⟩,a,bo _⟩)),n,t,?_⟩
    conv=>whnf
    refine ae.dec (λg=>?_) (λg=>?_)
    ·have e:bR s1 L M=((L,M),2):=by rw[b,if_neg (by rw[d]at g;omega)]
     conv=>whnf
     exact leaf e rfl rfl rfl rfl rfl
    ·have e:bR s1 L M=((L++M,[]),0):=by rw[b,if_pos (by rw[d]at g;omega)]
     conv=>whnf
     refine⟨[],.inl ⟨rfl,rfl⟩,by decide,v,?_⟩
     conv=>whnf
     exact leaf e rfl rfl w rfl rfl
def Hm(args:List AV)(H:AH)(n:Nat)(κ:PK):Prop:=match args with
 | [x,y]=>∃(b c s1 s2:Nat) (L M:Smp),x= .ptr b 0/\y= .ptr c 0/\b≠c/\b<n/\c<n/\H.get b=some (.cells (chk s1 L) true)/\H.get c=some (.cells (chk s2 M) true)/\0<s1/\s1<=4096/\0<s2/\cG L/\cG M/\
  κ (.si .i64 (bR s1 L M).2) ((H.set (some (.cells (chk s2 (bR s1 L M).1.2) true)) aa c).set (some (.cells (chk s1 (bR s1 L M).1.1) true)) aa b) n
 |_=>False
theorem TB:ak 188 Hm:=λargs H n D d E k F G K l a m=>by
 unfold Hm at d;split at d
 ·obtain⟨x,y,rfl,p,q⟩:=vs2 a;obtain⟨b,c,s1,s2,L,M,rfl,rfl,e,f,g,r,s,t,h,v,w,z,d⟩:=d
  refine dC (S:=[b,c]) (O:=[.cells (chk s1 L) true,.cells (chk s2 M) true]) (args0:=[.ptr 0 0,.ptr 1 0]) (ak.post (ay TA 5 _)) (by kernel_rfl) l
   (AU e f g r s (.inr rfl) (.inr rfl)) (.cons p (.cons q .nil)) m (Na s1 s2 L M t h v w z) λu I J ⟨A,B,C⟩=>?_
  subst A;refine⟨2,ki [b,c] n H [(0,some (.cells (chk s1 (bR s1 L M).1.1) true)),(1,some (.cells (chk s2 (bR s1 L M).1.2) true))],Z3 _,fF.put (Z3 _) rfl (λx j o ho=>?_),rfl,d⟩;simp only[Z4,Z5,or_false]at j;rcases j with rfl|rfl
  ·injection ho with ho;subst ho;exact⟨B,rfl,rfl⟩
  ·injection ho with ho;subst ho;exact⟨C,rfl,rfl⟩
 ·exact d.elim
def re(L:Smp)(k:Nat):Bool:=decide (k<L.length-1)&&decide (2*(aX (L.take k)).length<(aX L).length)
def uU(L:Smp):Nat->Nat->Nat
 |0,k=>k
 |f+1,k=>if re L k then uU L f (k+1)else k
def b8(L:Smp):Nat:=uU L (L.length-1) 1
theorem Qb{L:Smp}{k:Nat}(h:re L k=true):uU L (L.length-k) k=uU L (L.length-(k+1)) (k+1):=by
 have a:k<L.length-1:=by unfold re at h;simp at h;exact h.1
 rw[show L.length-k=(L.length-(k+1))+1 by omega];show(if re L k=true then _ else _)=_;rw[if_pos h]
theorem zt{L:Smp}{f k:Nat}(h:re L k=false):uU L f k=k:=by cases f<;>simp[uU,h]
theorem A5(L:Smp){k:Nat}(h:k<=L.length):AV.fr k 2 ((smp L).take (k*2))= .fr (L.take k).length 2 (smp (L.take k)):=by rw[wM,q0d,q3r h]
theorem Hn(L:Smp)(k:Nat):AV.fr (L.length-k) 2 ((smp L).drop (k*2))= .fr (L.drop k).length 2 (smp (L.drop k)):=by rw[rZ,q0m]
def V4(args:List AV)(H:AH)(n:Nat)(κ:PK):Prop:=match args with
 | [x,y]=>∃(b c s1 s2:Nat) (L M:Smp),x= .ptr b 0/\y= .ptr c 0/\b≠c/\b<n/\c<n/\H.get b=some (.cells (rch s1 L) true)/\H.get c=some (.cells (rch s2 M) true)/\0<s1/\s1<=4096/\cG L/\cG M/\
  κ (.si .i64 (bR s1 L M).2) ((H.set (some (.cells (rch s2 (bR s1 L M).1.2) true)) aa c).set (some (.cells (rch s1 (bR s1 L M).1.1) true)) aa b) n
 |_=>False
def Ho(f:Nat->Smp->AV)(args:List AV)(H:AH)(n:Nat)(κ:PK):Prop:=match args with
 | [x]=>∃(b size:Nat) (l:List AV) (L:Smp),x= .ptr b 0/\H.get b=some (.cells l true)/\l.map mk=chk size L/\κ (f size L) H n
 |_=>False
theorem Nb{f:FuncId}{g:Nat->Smp->AV}(e:bY Tryz.prog f=true)(q:∀size L,flat.flat1 (g size L)=true)(d:∀size L,ax evP 3 f [.ptr 0 0] (mkH [(0,.ro (chk size L))]) 1 λu _ _=>mkT u=mkT (g size L))(r:∀size L,mkT (g size L)=g size L):ak f (Ho g):=λargs H n D c E t F G K k a w=>by
 unfold Ho at c;split at c
 ·obtain⟨x,rfl,y⟩:=vs1 a;obtain⟨b,size,l,L,rfl,z,m,c⟩:=c;obtain⟨p,h,rfl⟩:=y.cL;have i:l.length=4:=by have:=congrArg List.length m;simpa[chk]using this
  have j:=oS.of (s:=chk size L) k (.inr ⟨_,z⟩) h (bC (n:=4) i) (by rw[m,A0]) (dS size L);exact ik az (v:=g size L) (wI (q size L)) (d size L) (by rw[r];exact c) k w e (φ0:=ph1 ⟨p.B,p.s+0,4⟩) (λC=>HR.ro1 C j) (.cons (.ptr (p:=⟨p.B,p.s+0,4⟩) (o:=0) rfl) .nil)
 ·exact c.elim
def TC(_:Nat)(L:Smp):AV:= .si .i64 (L.length:Int)
def Nc(_:Nat)(L:Smp):AV:= .si .i64 ((pack (aX L)).length:Int)
theorem V5:ak 186 (Ho TC):=Nb (by kernel_rfl) (λ_ _=>rfl) (λsize L=>by
 conv=>whnf
 rfl) λ_ _=>rfl
def KDb:FuncId->EP:=aq 221 ra evP
theorem TD:aV KDb:=ag az Dm
theorem JX(L:Smp)(b:L.length<=100000)(a:∀x∈L,aQ x.1/\aQ x.2)(c:L.length≠0):ax KDb 3 218 [.fr L.length 2 (smp L)] .nil 0 λu _ _=>mkT u=mkT (.si .i64 ((aX L).length:Int)):=by
 conv=>whnf
 refine⟨L,.inr (.inl (.inr ⟨_,rfl,bo _,c⟩)),b,a,?_⟩
 conv=>whnf
 rfl
def Du(args:List AV)(H:AH)(n:Nat)(κ:PK):Prop:=match args with
 | [x]=>∃L:Smp,x= .fr L.length 2 (smp L)/\L.length<=100000/\(∀x∈L,aQ x.1/\aQ x.2)/\L.length≠0/\κ (.si .i64 ((aX L).length:Int)) H n
 |_=>False
theorem Qc:ak 218 Du:=λargs H n o b c f p q K e a g=>by
 unfold Du at b;split at b
 ·obtain⟨x,rfl,i⟩:=vs1 a;obtain⟨L,rfl,j,d,k,b⟩:=b;exact ik TD (v:= .si .i64 ((aX L).length:Int)) rfl (JX L j d k) b e g (by kernel_rfl) (φ0:=⟨λ_=>none,c.z,c.z,λ_ _=>False⟩) (λm=>e.zl (fX m) (λ_ _ h=>by cases h) (λ_ h=>h)) (.cons (lR (ψ:=⟨λ_=>none,c.z,c.z,λ_ _=>False⟩) (λ_ h=>h) rfl i) .nil)
 ·exact b.elim
theorem TE:gY Du:= .pure λargs H n i a=>by
 unfold Du at*;split at a
 ·obtain⟨L,b,c,d,e,f⟩:=a;exact⟨_,f,λg h=>⟨L,b,c,d,e,h⟩⟩
 ·exact a.elim
def SpQ(sz:Nat)(L:Smp)(k:Nat):PK:=λu a _=>u= .tup [.ptr 1 0,.int .i64 0]/\PM.get a 0=some (.cells (chk sz (L.take k)) true)/\PM.get a 1=some (.cells (chk sz (L.drop k)) true)
def spt (sz:Nat) (L:Smp) (k:Nat):AE×AH:=(mkE [(0,.ptr 0 (0)),(4,.fr L.length 2 (smp L)),(5,.si .i64 (((k:Nat):Int)))],mkH [(0,.cells (chk sz L) true)])
theorem Hq{sz:Nat}{L:Smp}{k:Nat}{p n:Nat}{σ:AE}{H:AH}(a:p<=1)(c:aj (pa 0) σ= .ptr 0 (0))(d:aj (pa 4) σ= .fr L.length 2 (smp L))(e:mk (aj (pa 5) σ)= .si .i64 (((k:Nat):Int)))(f:∃l,H.get 0=some (.cells l true)/\mO H 1 (λb=>b) l (chk sz L)):Cov p σ H n ((spt sz L k).1,(spt sz L k).2,1):=
 Cov.ofA a ⟨.ptr (by decide) c,ah.frE d,.int e,trivial⟩ ⟨.inl (f.elim λl h=>⟨_,h.1,ao.st h.2⟩),trivial⟩ rfl
def Qd:DT:=[(7,[(some 0,[5]),(some 0,[4]),(some 0,[20]),(some 0,[21]),(some 0,[19,22]),(some 0,[23]),(some 0,[4,24]),(some 0,[5,24]),(some 0,[25,26,24]),(none,[27,24]),(some 0,[28,24]),(some 2,[0,24]),(some 3,[30,24]),(some 4,[31,24]),(some 5,[32,24]),(some 0,[29,33,24]),(some 0,[24,34])])]
def KSp:FuncId->EP:=bg 185 Qd (cn 218 Du (aq 119 rb (aq 221 ra evP)))
theorem Nd:aV KSp:=au (aL (ag (ag az Dm) Dq) Qc TE) (by kernel_rfl) (by kernel_rfl)
theorem Nf{sz:Nat}{L:Smp}:∀{H:AH} {m:Nat} {r:Nat->Nat},mO H m r (chk sz L) (chk sz L):= .cons (.int rfl) (.cons (.str rfl) (.cons (.int rfl) (.cons (.int rfl) .nil)))
theorem Fv(sz:Nat)(L:Smp)(a:0<sz)(c:L.length<2):post (ax KSp 4 185) [.ptr 0 0] (mkH [(0,.cells (chk sz L) true)]) 1 (λu H' _=>u= .tup [.nil,.int .i64 5]/\PM.get H' 0=some (.cells (chk sz L) true)):=by
 have b:(0:Int)<(sz:Int):=by omega
 show ax KSp 4 185 _ _ _ _
 conv=>whnf
 refine ae.dk (λh=>absurd b h) (λ_=>?_)
 conv=>whnf
 refine ae.dec (λ_=>?_) (λq=>absurd (show(L.length:Int)<2 by omega) q)
 conv=>whnf
 exact⟨_,_,_,.refl _,.refl _ _,rfl,rfl⟩
theorem Fw(sz:Nat)(L:Smp)(w:0<sz)(v:cG L)(Q:2<=L.length):post (ax KSp 4 185) [.ptr 0 0] (mkH [(0,.cells (chk sz L) true)]) 1 (SpQ sz L (b8 L)):=by
 have F:(0:Int)<(sz:Int):=by omega
 have R:=v.2.2;have x:=v.jQ;have y:L.length<=100000:=by omega
 have leaf:∀{z:AH} {G k:Nat} {l m:List AV},k=b8 L->PM.get z 0=some (.cells l true)->l.map mk=chk sz (L.take k)->PM.get z 1=some (.cells m true)->m.map mk=chk sz (L.drop k)->∃B C D,VTo (.tup [.ptr 1 0,.int .i64 0]) B/\eO z G C D/\SpQ sz L (b8 L) B C D:=λA H I J K=>by
  rw[<-A];exact⟨_,_,_,.refl _,(eO.Fq (l':=chk sz (L.drop _)) J rfl K).trans (eO.Fq (l':=chk sz (L.take _)) (xc.trans H) rfl I),rfl,PM.xa,xd.trans xe⟩
 have g:IntKind.i64.wrap ((L.length:Int)-1)=((L.length-1:Nat):Int):=(dh ⟨by omega,by omega⟩).trans (by omega);show ax KSp 4 185 _ _ _ _
 conv=>whnf
 refine ae.dk (λh=>absurd F h) (λ_=>?_)
 conv=>whnf
 refine ae.dec (λq=>absurd q (by omega)) (λ_=>?_)
 conv=>whnf
 refine⟨0,sz,_,L,rfl,rfl,rfl,w,y,x,?_⟩
 conv=>whnf
 refine aR.mk {k:Nat//1<=k/\k<=L.length-1/\uU L (L.length-k) k=b8 L} 1 (λk=>spt sz L k.val) (λk=>L.length-k.val) ⟨1,Z3 _,by omega,rfl⟩ ?_ ?_
 ·exact Hq (Z3 1) rfl rfl rfl ⟨_,rfl,Nf⟩
 ·intro⟨k,N,O,b⟩;have a:k<=L.length:=by omega
  have c:=v.sub (q4m k L);have i:=v.sub (List.drop_sublist k L);have d:(L.take k).length<=100000:=by rw[q0d];omega
  have j:(L.drop k).length<=100000:=by rw[q0m];omega
  have e:(L.take k).length≠0:=by rw[q0d];omega
  have n:(L.drop k).length≠0:=by rw[q0m];omega
  have P:=Dc (L.take k);have E:(aX (L.take k)).length<=13600000:=by omega
  have A:IntKind.i64.wrap ((k:Int)+1)=((k+1:Nat):Int):=dh ⟨by omega,by omega⟩;have o:IntKind.i64.wrap (2*((aX (L.take k)).length:Int))=((2*(aX (L.take k)).length:Nat):Int):=(dh ⟨by omega,by omega⟩).trans (by omega);have p: [AV.si .i64 (sz:Int),.ss (pack (aX (L.take k))),.si .i64 ((aX (L.take k)).length:Int),.si .i64 (k:Int)].map mk=chk sz (L.take k):=by unfold chk;rw[q0d,q3r a];rfl
  have r: [AV.si .i64 (sz:Int),.ss (pack (aX (L.drop k))),.si .i64 ((aX (L.drop k)).length:Int),.si .i64 ((L.length-k:Nat):Int)].map mk=chk sz (L.drop k):=by unfold chk;rw[q0m];rfl
  conv=>whnf
  refine ae.dec (λh=>?_) (λh=>?_)
  ·have s:k<L.length-1:=by rw[g]at h;exact q0s.1 h
   conv=>whnf
   refine RSl.mk 0 k rfl rfl (.inl rfl) (Y5 _) a ?_
   conv=>whnf
   refine⟨L.take k,A5 L a,d,c.jQ,e,?_⟩
   conv=>whnf
   refine ae.dec (λt=>?_) (λt=>?_)
   ·have u:re L k=true:=by rw[o]at t;unfold re;rw[decide_eq_true s,Bool.true_and];exact decide_eq_true (q0s.1 t)
    conv=>whnf
    exact⟨⟨k+1,by omega,by omega,(Qb u).symm.trans b⟩,(show L.length-(k+1)<L.length-k by omega),Hq (Z3 1) rfl rfl (congrArg (AV.si .i64) A) ⟨_,rfl,Nf⟩⟩
   ·have f:k=b8 L:=by rw[<-b,zt (by rw[o]at t;unfold re;rw[decide_eq_true s,Bool.true_and];exact decide_eq_false (λq=>t (q0s.2 q)))]
    conv=>whnf
    refine RSl.mk k _ rfl rfl (.inl rfl) a (Z3 _) ?_
    conv=>whnf
    refine⟨L.drop k,.inr (.inl (.inr ⟨_,Hn L k,bo _,n⟩)),j,i.jQ,?_⟩
    conv=>whnf
    refine RSl.mk 0 k rfl rfl (.inl rfl) (Y5 _) a ?_
    conv=>whnf
    refine⟨L.take k,.inr (.inl (.inr ⟨_,A5 L a,bo _,e⟩)),d,c.jQ,?_⟩
    conv=>whnf
    exact leaf f rfl p rfl r
  ·have f:k=b8 L:=by rw[<-b,zt (by rw[g]at h;unfold re;rw[decide_eq_false (λq=>h (q0s.2 q))];rfl)]
   conv=>whnf
   refine RSl.mk k _ rfl rfl (.inl rfl) a (Z3 _) ?_
   conv=>whnf
   refine⟨L.drop k,.inr (.inl (.inr ⟨_,Hn L k,bo _,n⟩)),j,i.jQ,?_⟩
   conv=>whnf
   refine RSl.mk 0 k rfl rfl (.inl rfl) (Y5 _) a ?_
   conv=>whnf
   refine⟨L.take k,.inr (.inl (.inr ⟨_,A5 L a,bo _,e⟩)),d,c.jQ,?_⟩
   conv=>whnf
   exact leaf f rfl p rfl r
def Dv(args:List AV)(H:AH)(n:Nat)(κ:PK):Prop:=match args with
 | [x]=>∃(c sz:Nat) (L:Smp),x= .ptr c 0/\c<n/\H.get c=some (.cells (chk sz L) true)/\0<sz/\cG L/\(L.length<2->κ (.tup [.nil,.int .i64 5]) H n)/\
  (2<=L.length->κ (.tup [.ptr n 0,.int .i64 0]) ((H.set (some (.cells (chk sz (L.drop (b8 L))) true)) aa n).set (some (.cells (chk sz (L.take (b8 L))) true)) aa c) (n+1))
 |_=>False
theorem So{c n:Nat}{H H':AH}{sz:Nat}{L:Smp}(d:H.get c=some (.cells (chk sz L) true))(e:PM.get H' 0=some (.cells (chk sz L) true)):fF [c] n ([c]:List Nat).length H H' H:=fF.same λi s o a b _=>by
 cases i with
 |zero=>
  injection a with a;subst a;rw[d]at b;injection b with b;subst b;exact⟨_,e,rfl,rfl,rfl⟩
 |succ i=>simp at a
theorem Qe:ak 185 Dv:=λargs H n z g A q B C K k a l=>by
 unfold Dv at g;split at g
 ·obtain⟨x,rfl,m⟩:=vs1 a;obtain⟨c,sz,L,rfl,d,h,e,r,s,t⟩:=g;rcases q3j L.length 2 with f|f
  ·refine dC (S:=[c]) (O:=[.cells (chk sz L) true]) (args0:=[.ptr 0 0]) (ak.post (ay Nd 4 _)) (by kernel_rfl) k
    (nL d h (.inr rfl)) (.cons m .nil) l (Fv sz L e f) λu v w ⟨i,j⟩=>?_
   subst i;exact⟨1,H,Z3 _,So h j,rfl,s f⟩
  ·refine dC (S:=[c]) (O:=[.cells (chk sz L) true]) (args0:=[.ptr 0 0]) (ak.post (ay Nd 4 _)) (by kernel_rfl) k
    (nL d h (.inr rfl)) (.cons m .nil) l (Fw sz L e r f) λu v w ⟨i,j,y⟩=>?_
   subst i;refine⟨2,ki [c] n H [(0,some (.cells (chk sz (L.take (b8 L))) true)),(1,some (.cells (chk sz (L.drop (b8 L))) true))],q2n 1,fF.put (q2n 1) rfl (λx p o ho=>?_),rfl,t f⟩;simp only[Z4,Z5,or_false]at p;rcases p with rfl|rfl
   ·injection ho with ho;subst ho;exact⟨j,rfl,rfl⟩
   ·injection ho with ho;subst ho;exact⟨y,rfl,rfl⟩
 ·exact g.elim
theorem VTo.Ng{a b c:AV}{x y:Int}{q:Bool}(g:mk a= .si .i64 x)(i:mk b= .si .i64 y)(j:mk c= .sb q):VTo (.tup [.agg [a,b],c]) (.tup [.agg [.si .i64 x,.si .i64 y],.sb q]):=λr w h=>by
 obtain⟨cs,rfl,k⟩:=h.eY;obtain⟨s,t,rfl,l,m⟩:=vs2 k;obtain⟨u,rfl,n⟩:=l.eG;obtain⟨v,z,rfl,o,p⟩:=vs2 n;have d:=o.mk;have e:=p.mk;have f:=m.mk;rw[g]at d;rw[i]at e;rw[j]at f;exact .tup (.cons (.agg (.cons d (.cons e .nil))) (.cons f .nil))
def FLv(i:Nat)(L:Smp):AV:= .tup [.agg [.si .i64 (tAt L i),.si .i64 (vAt L i)],.sb (decide ((0:Int)<(L.length:Int)))]
def FLQ(i sz:Nat)(L:Smp):PK:=λu a _=>u=FLv i L/\PM.get a 0=some (.cells (chk sz L) true)
theorem vg{i sz d:Nat}{L:Smp}{a b c:AV}{H':AH}(g:mk a= .si .i64 (tAt L i))(h:mk b= .si .i64 (vAt L i))(j:mk c= .sb (decide ((0:Int)<(L.length:Int))))(k:PM.get H' 0=some (.cells (chk sz L) true)):∃v e f,VTo (.tup [.agg [a,b],c]) v/\eO H' d e f/\FLQ i sz L v e f:=⟨_,H',d,VTo.Ng g h j,.refl _ _,rfl,k⟩
def KFL:FuncId->EP:=aq 119 rb evP
theorem TF:aV KFL:=ag az Dq
theorem JY(sz:Nat)(L:Smp)(k:0<sz)(j:cG L):post (ax KFL 4 121) [.ptr 0 0] (mkH [(0,.cells (chk sz L) true)]) 1 (FLQ (0) sz L):=by
 have o:=j.2.2;have c:=j.jQ;have d:L.length<=100000:=by omega
 have e:∀i,¬(0:Int)<(L.length:Int)->AV.si .i64 0= .si .i64 (tAt L i):=λi h=>by rw[q0c (show L.length=0 by omega)];rfl
 have f:∀i,¬(0:Int)<(L.length:Int)->AV.si .i64 0= .si .i64 (vAt L i):=λi h=>by rw[q0c (show L.length=0 by omega)];rfl
 show ax KFL 4 121 _ _ _ _
 conv=>whnf
 refine⟨0,sz,_,L,rfl,rfl,rfl,k,d,c,?_⟩
 conv=>whnf
 refine ae.dec (λh=>?_) (λh=>?_)
 ·have a:¬(0:Int)<(L.length:Int):=by omega
  have g:AV.sb false= .sb (decide ((0:Int)<(L.length:Int))):=by rw[decide_eq_false a]
  conv=>whnf
  exact vg (e _ a) (f _ a) g rfl
 ·have a:(0:Int)<(L.length:Int):=by omega
  have b:0<L.length:=by omega
  have g:AV.sb true= .sb (decide ((0:Int)<(L.length:Int))):=by rw[decide_eq_true a]
  have l:(0:Int)=((0:Nat):Int):=rfl
  have m:AV.si .i64 L[0].1= .si .i64 (tAt L (0)):=by rw[eM b]
  have n:AV.si .i64 L[0].2= .si .i64 (vAt L (0)):=by rw[oX b]
  conv=>whnf
  refine Idx.mk (0) l b ?_
  conv=>whnf
  refine aw (fO b rfl) ?_
  conv=>whnf
  exact vg m n g rfl
theorem Nh(sz:Nat)(L:Smp)(k:0<sz)(j:cG L):post (ax KFL 4 60) [.ptr 0 0] (mkH [(0,.cells (chk sz L) true)]) 1 (FLQ (L.length-1) sz L):=by
 have o:=j.2.2;have c:=j.jQ;have d:L.length<=100000:=by omega
 have e:∀i,¬(0:Int)<(L.length:Int)->AV.si .i64 0= .si .i64 (tAt L i):=λi h=>by rw[q0c (show L.length=0 by omega)];rfl
 have f:∀i,¬(0:Int)<(L.length:Int)->AV.si .i64 0= .si .i64 (vAt L i):=λi h=>by rw[q0c (show L.length=0 by omega)];rfl
 show ax KFL 4 60 _ _ _ _
 conv=>whnf
 refine⟨0,sz,_,L,rfl,rfl,rfl,k,d,c,?_⟩
 conv=>whnf
 refine ae.dec (λh=>?_) (λh=>?_)
 ·have a:¬(0:Int)<(L.length:Int):=by omega
  have g:AV.sb false= .sb (decide ((0:Int)<(L.length:Int))):=by rw[decide_eq_false a]
  conv=>whnf
  exact vg (e _ a) (f _ a) g rfl
 ·have a:(0:Int)<(L.length:Int):=by omega
  have b:L.length-1<L.length:=by omega
  have g:AV.sb true= .sb (decide ((0:Int)<(L.length:Int))):=by rw[decide_eq_true a]
  have l:IntKind.i64.wrap ((L.length:Int)-1)=((L.length-1:Nat):Int):=(dh ⟨by omega,by omega⟩).trans (by omega);have m:AV.si .i64 L[L.length-1].1= .si .i64 (tAt L (L.length-1)):=by rw[eM b]
  have n:AV.si .i64 L[L.length-1].2= .si .i64 (vAt L (L.length-1)):=by rw[oX b]
  conv=>whnf
  refine Idx.mk (L.length-1) l b ?_
  conv=>whnf
  refine aw (fO b rfl) ?_
  conv=>whnf
  exact vg m n g rfl
def Dw(i:Smp->Nat)(args:List AV)(H:AH)(n:Nat)(κ:PK):Prop:=match args with
 | [x]=>∃(c sz:Nat) (L:Smp),x= .ptr c 0/\c<n/\H.get c=some (.cells (chk sz L) true)/\0<sz/\cG L/\κ (FLv (i L) L) H n
 |_=>False
theorem Dx{f:FuncId}{i:Smp->Nat}(e:bY Tryz.prog f=true)(d:∀(sz:Nat) (L:Smp),0<sz->cG L->post (ax KFL 4 f) [.ptr 0 0] (mkH [(0,.cells (chk sz L) true)]) 1 (FLQ (i L) sz L)):ak f (Dw i):=λargs H n t b v l w y K m a o=>by
 unfold Dw at b;split at b
 ·obtain⟨x,rfl,p⟩:=vs1 a;obtain⟨c,sz,L,rfl,g,k,h,q,b⟩:=b
  refine dC (S:=[c]) (O:=[.cells (chk sz L) true]) (args0:=[.ptr 0 0]) (ak.post (ay TF 4 _)) e m
   (nL g k (.inr rfl)) (.cons p .nil) o (d sz L h q) λu z A ⟨r,s⟩=>?_
  subst r;exact⟨1,H,Z3 _,So k s,rfl,b⟩
 ·exact b.elim
theorem Qf:ak 121 (Dw λ_=>0):=Dx (by kernel_rfl) JY
theorem TG:ak 60 (Dw λL=>L.length-1):=Dx (by kernel_rfl) Nh
theorem Up.ext:∀{L M:Smp},Up L->Up M->(∀x,x∈L<->x∈M)->L=M
 | [],[],_,_,_=>rfl
 | [],y::M,_,_,e=>by have:=(e y).2 (by simp);simp at this
 |x::L,[],_,_,e=>by have:=(e x).1 (by simp);simp at this
 |x::L,y::M,h,k,e=>by
  obtain⟨c,f⟩:=q1j.1 h;obtain⟨d,g⟩:=q1j.1 k
  have b:x=y:=by
   rcases Z4.1 ((e x).1 (by simp))with q|q
   ·exact q
   rcases Z4.1 ((e y).2 (by simp))with r|r
   ·exact r.symm
   have:=c y r;have:=d x q;omega
  subst b;congr 1;refine Up.ext f g λz=>⟨λa=>?_,λa=>?_⟩
  ·rcases Z4.1 ((e z).1 (Y4 _ a))with q|q
   ·subst q;have:=c z a;omega
   ·exact q
  ·rcases Z4.1 ((e z).2 (Y4 _ a))with q|q
   ·subst q;have:=d z a;omega
   ·exact q
theorem Up.app{A B:Smp}:Up (A++B)<->Up A/\Up B/\∀x∈A,∀y∈B,x.1<y.1:=List.pairwise_append
def dU(L:Smp)(t v p:Int):Smp×Int:=if has L t then(if(ba p (vAt L (plc L t)) v).2≠0 then(L,(ba p (vAt L (plc L t)) v).2)else(lj L t (ba p (vAt L (plc L t)) v).1,0))else(jP L t v,0)
theorem Fx(p a b:Int):(ba p a b).2≠2:=by
 unfold ba
 repeat' split
 all_goals exact λq=>absurd q (by simp)
theorem tI{sz:Nat}{L:Smp}{t v p:Int}(a:0<=t/\t<1099511627776):ft sz L t v p=if(dU L t v p).2≠0 then(L,(dU L t v p).2)else qX sz L (dU L t v p).1:=by
 unfold ft dU;rw[if_neg (by omega)];by_cases h:has L t=true
 ·rw[if_pos h,if_pos h];by_cases q:(ba p (vAt L (plc L t)) v).2≠0
  ·rw[if_pos q,if_pos q];simp[q]
  ·rw[if_neg q,if_neg q];simp
 ·rw[if_neg h,if_neg h];simp
theorem Ni(L:Smp)(t v p:Int):(dU L t v p).2≠2:=by
 unfold dU;split
 ·split
  ·exact Fx _ _ _
  ·exact λq=>absurd q (by simp)
 ·exact λq=>absurd q (by simp)
theorem Dy{L:Smp}{t v p:Int}(h:(dU L t v p).2≠0):(dU L t v p).1=L:=by
 unfold dU at h⊢;split
 ·split
  ·rfl
  ·rename_i a b;rw[if_pos a,if_neg b]at h;exact absurd rfl h
 ·rename_i a;rw[if_neg a]at h;exact absurd rfl h
theorem Nj{A X:Smp}{t:Int}(h:∀x∈A,x.1<t):plc (A++X) t=A.length+plc X t:=by
 induction A with
 |nil=>simp
 |cons a A b=>
  rw[q1y,plc,if_pos (h a (by simp)),b λx c=>h x (Y4 _ c)];simp only[Z9];omega
theorem JZ{M B:Smp}{t:Int}(h:∀x∈B,t<x.1):plc (M++B) t=plc M t:=by
 induction M with
 |nil=>
  cases B with
  |nil=>rfl
  |cons b B=>
   have c:¬b.1<t:=by have:=h b (by simp);omega
   show plc (b::B) t=0;unfold plc;rw[if_neg c]
 |cons a M d=>rw[q1y,plc,plc,d]
theorem sF{A M B:Smp}{t:Int}(a:∀x∈A,x.1<t)(b:∀x∈B,t<x.1):plc (A++(M++B)) t=A.length+plc M t:=by rw[Nj a,JZ b]
theorem A6{A M B:Smp}{i:Nat}(h:i<M.length):(A++(M++B))[A.length+i]?=M[i]?:=by
 rw[q0z (by omega),show A.length+i-A.length=i by omega,q1f h]
theorem Hr{A M B:Smp}{t:Int}(f:∀x∈A,x.1<t)(d:∀x∈B,t<x.1):has (A++(M++B)) t=has M t:=by
 unfold has;rw[sF f d];by_cases h:plc M t<M.length
 ·have e:tAt (A++(M++B)) (A.length+plc M t)=tAt M (plc M t):=by unfold tAt;rw[A6 h]
  rw[e];congr 1;simp only[Z6,eq_iff_iff];constructor
  ·exact λq=>⟨h,q.2⟩
  ·exact λq=>⟨by omega,q.2⟩
 ·have j:plc M t=M.length:=by have:=qY M t;omega
  have g:¬(plc M t<M.length/\tAt M (plc M t)=t):=λq=>h q.1
  rw[decide_eq_false g];refine decide_eq_false λ⟨b,c⟩=>?_
  have b:M.length<(M++B).length:=by simp only[Z6]at b⊢;omega
  have i:(A++(M++B))[A.length+plc M t]?=B[0]?:=by
   rw[q0z (by omega),show A.length+plc M t-A.length=M.length by omega,q0z (Z3 _),Nat.sub_self]
  cases a:B with
  |nil=>rw[a]at b;simp at b
  |cons y k=>
   unfold tAt at c;rw[i,a]at c;have:=d y (by rw[a];simp);simp at c;omega
theorem Dz{A M B:Smp}{t:Int}(v p:Int)(b:∀x∈A,x.1<t)(c:∀x∈B,t<x.1):dU (A++(M++B)) t v p=(A++((dU M t v p).1++B),(dU M t v p).2):=by
 have hle:=qY M t
 have d:jP (A++(M++B)) t v=A++(jP M t v++B):=by
  unfold jP;rw[sF b c,List.take_length_add_append,List.drop_length_add_append,List.take_append_of_le_length hle,q3e hle];simp
 unfold dU;rw[Hr b c];by_cases h:has M t=true
 ·have a:plc M t<M.length:=by unfold has at h;exact(of_decide_eq_true h).1
  have e:vAt (A++(M++B)) (plc (A++(M++B)) t)=vAt M (plc M t):=by unfold vAt;rw[sF b c,A6 a]
  have f:∀w,lj (A++(M++B)) t w=A++(lj M t w++B):=λw=>by
   unfold lj;rw[sF b c,q4g _ _ (by omega),show A.length+plc M t-A.length=plc M t by omega,List.set_append_left _ _ a]
  rw[if_pos h,if_pos h,e,f];split<;>rfl
 ·rw[if_neg h,if_neg h,d]
theorem kN(X:Smp)(i:Nat):2<=(cx X i).length/\(cx X i).length<=136/\(i=0->(cx X i).length=128):=by
 unfold cx;split
 ·simp[aO]
 ·rename_i h;have a:=gH (dT X i);have b:=gH (dV X i);rw[Z6];exact⟨by omega,by omega,λq=>absurd q h⟩
theorem tJ{A M:Smp}(i:Nat):tAt (A++M) (A.length+i)=tAt M i/\vAt (A++M) (A.length+i)=vAt M i:=by
 unfold tAt vAt;rw[q0z (by omega),show A.length+i-A.length=i by omega];exact⟨rfl,rfl⟩
theorem l9{A M:Smp}{i:Nat}(h:i<A.length):tAt (A++M) i=tAt A i/\vAt (A++M) i=vAt A i:=by
 unfold tAt vAt;rw[q1f h];exact⟨rfl,rfl⟩
theorem Fy{A M:Smp}{i:Nat}(h:i<A.length):cx (A++M) i=cx A i:=by
 unfold cx dT dV eJ;rw[(l9 h).1,(l9 h).2,(l9 (show i-1<A.length by omega)).1,(l9 (show i-1<A.length by omega)).2,(l9 (show i-2<A.length by omega)).1,(l9 (show 0<A.length by omega)).1,(l9 (show 0<A.length by omega)).2]
theorem DA{A M:Smp}{i:Nat}(h:2<=i):cx (A++M) (A.length+i)=cx M i:=by
 unfold cx dT dV eJ;rw[show A.length+i-1=A.length+(i-1) by omega,show A.length+i-2=A.length+(i-2) by omega,(tJ i).1,(tJ i).2,(tJ (i-1)).1,(tJ (i-1)).2,(tJ (i-2)).1];simp only[show¬(A.length+i=0) by omega,show¬(A.length+i<2) by omega,show¬(i=0) by omega,show¬(i<2) by omega,if_false]
theorem lp{A M:Smp}:∀{i:Nat},i<=A.length->aF (A++M) i=aF A i
 |0,_=>rfl
 |i+1,h=>by rw[aF,aF,lp (by omega),Fy (by omega)]
theorem o8(A M:Smp):∀i:Nat,(aF (A++M) (A.length+i)).length<=(aX A).length+(aF M i).length+142/\(aX A).length+(aF M i).length<=(aF (A++M) (A.length+i)).length+260
 |0=>by
  rw[q2u,lp (Z3 _),aF];have:(aF A A.length).length=(aX A).length:=rfl
  simp only[q1l];omega
 |1=>by
  obtain⟨c,d⟩:=o8 A M 0;have e:aF (A++M) (A.length+1)=aF (A++M) (A.length+0)++cx (A++M) (A.length+0):=rfl
  have b:aF (A++M) (A.length+0)=aF A A.length:=by rw[q2u,lp (Z3 _)]
  have:(aF A A.length).length=(aX A).length:=rfl
  have s1:=kN (A++M) (A.length+0);have s2:=kN M 0;have f:=s2.2.2 rfl
  have a:aF M 1=[]++cx M 0:=rfl
  rw[e,b,a,Z6,Z6,q1l];omega
 |i+2=>by
  by_cases g:i=0
  ·subst g;have e:aF (A++M) (A.length+2)=aF (A++M) (A.length+0)++cx (A++M) (A.length+0)++cx (A++M) (A.length+1):=rfl
   have b:aF (A++M) (A.length+0)=aF A A.length:=by rw[q2u,lp (Z3 _)]
   have:(aF A A.length).length=(aX A).length:=rfl
   have s1:=kN (A++M) (A.length+0);have s2:=kN M 0;have f:=s2.2.2 rfl
   have h:=kN (A++M) (A.length+1);have j:=kN M 1;have a:aF M 2=[]++cx M 0++cx M 1:=rfl
   rw[e,b,a];simp only[Z6,q1l];omega
  ·obtain⟨c,d⟩:=o8 A M (i+1);have e:aF (A++M) (A.length+(i+2))=aF (A++M) (A.length+(i+1))++cx (A++M) (A.length+(i+1)):=rfl
   have a:aF M (i+2)=aF M (i+1)++cx M (i+1):=rfl
   rw[e,a,DA (by omega),Z6,Z6];omega
theorem DC(A M:Smp):(aX (A++M)).length<=(aX A).length+(aX M).length+142/\(aX A).length+(aX M).length<=(aX (A++M)).length+260:=by
 have:=o8 A M M.length;unfold aX;rw[Z6];exact this
theorem Ht{L:Smp}:∀(f k:Nat),1<=k->k<=L.length-1->1<=uU L f k/\uU L f k<=L.length-1
 |0,k,a,b=>⟨a,b⟩
 |f+1,k,a,b=>by
  unfold uU;split
  ·rename_i h;unfold re at h;simp only[Z8,decide_eq_true_eq]at h;exact Ht f (k+1) (by omega) (by omega)
  ·exact⟨a,b⟩
theorem A7{L:Smp}(h:2<=L.length):1<=b8 L/\b8 L<=L.length-1:=Ht _ 1 (Z3 _) (by omega)
theorem DD{L:Smp}:∀(f k:Nat),L.length-k<=f->re L (uU L f k)=false
 |0,k,h=>by
  show re L k=false;unfold re;rw[decide_eq_false (show¬k<L.length-1 by omega)];rfl
 |f+1,k,h=>by
  unfold uU;split
  ·exact DD f (k+1) (by omega)
  ·rename_i h;simpa using h
theorem Nk{L:Smp}(h:1<=L.length):re L (b8 L)=false:=DD _ 1 (by omega)
theorem Nl{sz:Nat}(g:128<=sz){L:Smp}(b:2<=L.length)(h:(aX L).length<=8*sz):(aX (L.take (b8 L))).length<=8*sz/\(aX (L.drop (b8 L))).length<=8*sz:=by
 obtain⟨l,m⟩:=A7 b;have he:=Nk (L:=L) (by omega);generalize b8 L=k at*;have e:=DC (L.take k) (L.drop k);rw[q1i]at e
 have n:(aX (L.take k)).length<=(aX L).length:=by
  have:aX L=aF (L.take k++L.drop k) L.length:=by rw[q1i];rfl
  have a:(L.take k).length=k:=by rw[q0d];omega
  have c:aF (L.take k++L.drop k) (L.take k).length=aX (L.take k):=lp (Z3 _)
  have mono:∀(X:Smp) (i j:Nat),(aF X i).length<=(aF X (i+j)).length:=λX i j=>by
   induction j with
   |zero=>exact Z3 _
   |succ j o=>
    have d:aF X (i+(j+1))=aF X (i+j)++cx X (i+j):=rfl
    rw[d,Z6];omega
  have:=mono (L.take k++L.drop k) k (L.length-k);rw[<-c,a];have f:aX L=aF (L.take k++L.drop k) (k+(L.length-k)):=by rw[q1i,show k+(L.length-k)=L.length by omega];rfl
  rw[f];exact this
 refine⟨by omega,?_⟩;unfold re at he;by_cases q:k<L.length-1
 ·rw[decide_eq_true q]at he;have:¬2*(aX (L.take k)).length<(aX L).length:=by simpa using he
  omega
 ·have a:(L.drop k).length<=7:=by rw[q0m];omega
  have:=pQ a;omega
abbrev Ck5:=List ((Nat×Nat)×Smp)
def chs(sz:Nat)(C:Ck5):Pk:=C.map λc=>(c.1,chk sz c.2)
theorem dD(sz:Nat)(A B:Ck5)(p:Nat×Nat)(L:Smp):chs sz (A++(p,L)::B)=chs sz A++(p,chk sz L)::chs sz B:=by simp[chs]
def fh(sz:Nat)(C D:Ck5):Prop:=∀z S h,(pk (chs sz C)).P z S h->(pk (chs sz D)).P z S h
theorem fh.refl(sz:Nat)(C:Ck5):fh sz C C:=λ_ _ _ h=>h
theorem fh.sub{sz:Nat}{C D:Ck5}(h:D.Sublist C):fh sz C D:=Te (h.map _)
def A8 (H:AH) (b sz:Nat) (D:Ck5):AH:=H.set (some (.sep (pk (chs sz D)))) aa b
structure xf(H:AH)(n b sz:Nat)(C:Ck5):Prop where
 bn:b<n
 lt:n<1000000
 nn:H.get n=none
 hb:H.get b=some (.sep (pk (chs sz C)))
def A9(args:List AV)(H:AH)(n:Nat)(κ:PK):Prop:=match args with
 | [x,y,z]=>∃(b sz:Nat) (A B D:Ck5) (p:Nat×Nat) (L:Smp) (t v q:Int) (r:Smp×Int),x=aK p/\nH y t v/\mk z= .si .i64 q/\xf H n b sz (A++(p,L)::B)/\0<sz/\sz<=4096/\cG L/\aQ v/\ft sz L t v q=r/\fh sz (A++(p,r.1)::B) D/\
  κ (.si .i64 r.2) (A8 H b sz D) (n+1)
 |_=>False
theorem TH:ak 183 A9:=λargs H n w c x j y z K k a l=>by
 unfold A9 at c;split at c
 ·obtain⟨b,sz,A,B,D,p,L,t,v,q,r,rfl,m,o,⟨d,e,f,i⟩,s1,s2,s,u,g,h,c⟩:=c;subst g;rw[dD]at i;unfold fh at h;rw[dD]at h;exact V2.C6 k d e f i a l ⟨n,sz,L,t,v,q,rfl,m,o,q1m _,qz e,s1,s2,s,u,qy.set d e rfl (dS _ _) h c⟩
 ·exact c.elim
def xg(args:List AV)(H:AH)(n:Nat)(κ:PK):Prop:=match args with
 | [x,y,z]=>∃(b sz:Nat) (A B D:Ck5) (p:Nat×Nat) (L:Smp) (s t:Int),x=aK p/\mk y= .si .i64 s/\mk z= .si .i64 t/\xf H n b sz (A++(p,L)::B)/\0<sz/\cG L/\fh sz (A++(p,aE L s t)::B) D/\
  κ (.si .i64 ((L.length:Int)-((aE L s t).length:Int))) (A8 H b sz D) (n+1)
 |_=>False
theorem Qg:ak 157 xg:=λargs H n q c r i u v K j a k=>by
 unfold xg at c;split at c
 ·obtain⟨b,sz,A,B,D,p,L,s,t,rfl,l,m,⟨d,e,f,h⟩,s1,o,g,c⟩:=c;rw[dD]at h;unfold fh at g;rw[dD]at g;exact Tu.C6 j d e f h a k ⟨n,sz,L,s,t,rfl,l,m,q1m _,qz e,s1,o,qy.set d e rfl (dS _ _) g c⟩
 ·exact c.elim
def Ba(args:List AV)(H:AH)(n:Nat)(κ:PK):Prop:=match args with
 | [x,y]=>∃(b sz:Nat) (A B D:Ck5) (p:Nat×Nat) (L:Smp) (t:Int),x=aK p/\mk y= .si .i64 t/\xf H n b sz (A++(p,L)::B)/\0<sz/\cG L/\fh sz (A++(p,L)::B) D/\κ (.tup [.si .i64 (gQ L t).1,.si .i64 (gQ L t).2]) (A8 H b sz D) (n+1)
 |_=>False
theorem TI:ak 64 Ba:=λargs H n o c q i r s K j a k=>by
 unfold Ba at c;split at c
 ·obtain⟨b,sz,A,B,D,p,L,t,rfl,l,⟨d,e,f,h⟩,s1,m,g,c⟩:=c;rw[dD]at h;unfold fh at g;rw[dD]at g;exact V3.C6 j d e f h a k ⟨n,sz,L,t,rfl,l,q1m _,qz e,s1,m,qy.same d e rfl (dS _ _) g c⟩
 ·exact c.elim
def rf(i:Smp->Nat)(args:List AV)(H:AH)(n:Nat)(κ:PK):Prop:=match args with
 | [x]=>∃(b sz:Nat) (A B D:Ck5) (p:Nat×Nat) (L:Smp),x=aK p/\xf H n b sz (A++(p,L)::B)/\0<sz/\cG L/\fh sz (A++(p,L)::B) D/\κ (FLv (i L) L) (A8 H b sz D) (n+1)
 |_=>False
theorem zu{f:FuncId}{i:Smp->Nat}(h:ak f (Dw i)):ak f (rf i):=λargs H n r c s l t u K m a o=>by
 unfold rf at c;split at c
 ·obtain⟨b,sz,A,B,D,p,L,rfl,⟨d,e,g,k⟩,s1,q,j,c⟩:=c;rw[dD]at k;unfold fh at j;rw[dD]at j;exact h.C6 m d e g k a o ⟨n,sz,L,rfl,q1m _,qz e,s1,q,qy.same d e rfl (dS _ _) j c⟩
 ·exact c.elim
theorem Nm:ak 121 (rf λ_=>0):=zu Qf
theorem Hu:ak 60 (rf λL=>L.length-1):=zu TG
def Bb(f:Nat->Smp->AV)(args:List AV)(H:AH)(n:Nat)(κ:PK):Prop:=match args with
 | [x]=>∃(b sz:Nat) (A B D:Ck5) (p:Nat×Nat) (L:Smp),x=aK p/\xf H n b sz (A++(p,L)::B)/\fh sz (A++(p,L)::B) D/\κ (f sz L) (A8 H b sz D) (n+1)
 |_=>False
theorem J0{f:FuncId}{g:Nat->Smp->AV}(h:ak f (Ho g)):ak f (Bb g):=λargs H n q c r l s t K m a o=>by
 unfold Bb at c;split at c
 ·obtain⟨b,sz,A,B,D,p,L,rfl,⟨d,e,i,k⟩,j,c⟩:=c;rw[dD]at k;unfold fh at j;rw[dD]at j;exact h.C6 m d e i k a o ⟨n,sz,chk sz L,L,rfl,qz e,rfl,qy.same d e rfl (dS _ _) j c⟩
 ·exact c.elim
theorem TJ:ak 186 (Bb TC):=J0 V5
theorem vb.ro{p:Nat×Nat}{l:List AV}{h:Hp}(k:vb p l h):oS h ⟨p.1,p.2,l.length⟩ l:=by
 obtain⟨a,T,c,t,b,f,g,d⟩:=k;exact⟨c,t,(0,0),b,Z3 _,by show p.2+l.length<=c.size;omega,λe=>CR.nF (ψ:=Ph.no) d rfl a⟩
theorem DE{φ:Ph}{H:AH}{n:Nat}{d a:Hp}{b sz:Nat}{A B:Ck5}{p:Nat×Nat}{L:Smp}(e:HR φ H n d a)(f:H.get b=some (.sep (pk (chs sz (A++(p,L)::B))))):vb p (chk sz L) a:=by
 obtain⟨⟨_,_,c⟩,_⟩:=e.sep b _ f;rw[dD]at c;exact(c (p,chk sz L) (by simp)).2
def rh(f:Nat->Smp->AV)(args:List AV)(H:AH)(n:Nat)(κ:PK):Prop:=match args with
 | [x]=>∃(b sz:Nat) (A B:Ck5) (p:Nat×Nat) (L:Smp),x=aK p/\H.get b=some (.sep (pk (chs sz (A++(p,L)::B))))/\κ (f sz L) H n
 |_=>False
theorem Hv(f:Nat->Smp->AV):gY (rh f):= .pure λargs H n i a=>by
 unfold rh at*;split at a
 ·obtain⟨b,sz,A,B,p,L,c,d,e⟩:=a;exact⟨_,e,λg h=>⟨b,sz,A,B,p,L,c,d,h⟩⟩
 ·exact a.elim
theorem J1{f:FuncId}{g:Nat->Smp->AV}(e:bY Tryz.prog f=true)(k:∀size L,flat.flat1 (g size L)=true)(d:∀size L,ax evP 3 f [.ptr 0 0] (mkH [(0,.ro (chk size L))]) 1 λu _ _=>mkT u=mkT (g size L))(l:∀size L,mkT (g size L)=g size L):ak f (rh g):=λargs H n w c y m z C K j a q=>by
 unfold rh at c;split at c
 ·obtain⟨x,rfl,h⟩:=vs1 a;obtain⟨b,sz,A,B,p,L,rfl,r,c⟩:=c;have h:x=qV p:=h;subst h;have i:=(DE j r).ro;exact ik az (v:=g sz L) (wI (k sz L)) (d sz L) (by rw[l];exact c) j q e (φ0:=ph1 ⟨p.1,p.2,(chk sz L).length⟩) (λt=>HR.ro1 t i) (.cons (.ptr (p:=⟨p.1,p.2,(chk sz L).length⟩) (o:=0) rfl) .nil)
 ·exact c.elim
theorem Hw:ak 202 (rh Nc):=J1 (by kernel_rfl) (λ_ _=>rfl) (λsize L=>by
 conv=>whnf
 rfl) λ_ _=>rfl
def Bd(args:List AV)(H:AH)(n:Nat)(κ:PK):Prop:=match args with
 | [x]=>∃(b sz:Nat) (A B:Ck5) (p:Nat×Nat) (L:Smp),x=aK p/\H.get b=some (.sep (pk (chs sz (A++(p,L)::B))))/\0<sz/\cG L/\κ (.fr L.length 2 (smp L)) H n
 |_=>False
theorem TK:ak 119 Bd:=λargs H n u c j l v w K d a m=>by
 unfold Bd at c;split at c
 ·obtain⟨x,rfl,e⟩:=vs1 a;obtain⟨b,sz,A,B,p,L,rfl,q,g,k,c⟩:=c;have e:x=qV p:=e;subst e;have i:=(DE d q).ro;have r:L.length<=100000:=by have:=k.2.2;omega
  exact GV Ft (cg L) (bb L) (Hh sz L g r k.jQ) c d m (by kernel_rfl) (φ0:=⟨(ph1 ⟨p.1,p.2,(chk sz L).length⟩).f,j.z,j.z,λ_ _=>False⟩)
   (λt=>d.zl (HR.ro1 t i) (λb o h=>by
    have hm:=ct h;simp only[Z4,Z5,or_false]at hm;injection hm with h1 h2;subst h2;rfl) (λ_ h=>h)) rfl (.cons (.ptr (p:=⟨p.1,p.2,(chk sz L).length⟩) (o:=0) rfl) .nil)
 ·exact c.elim
structure Sr where
 sz:Nat
 ret:Int
 pol:Int
 mx:Int
 fl:Int
abbrev Ps:=List (Nat×Nat)
def aY(V:Ps):List AV:=V.map aK
def pts(C:Ck5):Ps:=C.map λc=>c.1
theorem an(C:Ck5):(pts C).length=C.length:=Y9 _
def df(S:Sr)(k m:Nat):List AV:=[.si .i64 (S.sz:Int),.si .i64 S.ret,.si .i64 S.pol,.si .i64 S.mx,.si .i64 S.fl,.rw k 0 m 1 0]
def dM(S:Sr)(C:Ck5):AO:= .sep (pk (chs S.sz C))
def iq(S:Sr)(V:Ps)(C:Ck5):List AO:=[.cells (df S 1 V.length) true,.cells (aY V) true,dM S C]
structure fk(H:AH)(n r k q:Nat)(S:Sr)(V:Ps)(C:Ck5):Prop where
 ne:r≠k/\r≠q/\k≠q
 lt:r<n/\k<n/\q<n
 hr:H.get r=some (.cells (df S k V.length) true)
 hk:H.get k=some (.cells (aY V) true)
 hq:H.get q=some (dM S C)
theorem b7(C:Ps):(aY C).length=C.length:=Y9 _
theorem sG(A B:Ps):aY (A++B)=aY A++aY B:=q0r
theorem jS(f:Nat->Nat)(C:Ps):dY f (aY C)=aY C:=by
 induction C with
 |nil=>rfl
 |cons c C a=>
  show ren f (aK c)::dY f (aY C)=_;rw[a];rfl
theorem pS(m:Nat)(C:Ps):jO m (aY C)=true:=by
 induction C with
 |nil=>rfl
 |cons c C a=>
  show(ltV m (aK c)&&jO m (aY C))=true;rw[a];rfl
theorem aA(C:Ps):(aY C).map mk=aY C:=by
 unfold aY;rw[q4q];rfl
theorem DF(C:Ps):(aY C).all om=true:=by
 induction C with
 |nil=>rfl
 |cons c C a=>exact a
theorem fk.xh{H:AH}{n r k q:Nat}{S:Sr}{V:Ps}{C:Ck5}(h:fk H n r k q S V C):iX H n [r,k,q] (iq S V C):=
 ⟨by simp[h.ne.1,h.ne.2.1,h.ne.2.2],rfl,λi s o a b=>by
  match i,a,b with
  |0,a,b=>injection a with a;injection b with b;subst a b;exact⟨h.lt.1,h.hr,.inr rfl⟩
  |1,a,b=>injection a with a;injection b with b;subst a b;exact⟨h.lt.2.1,by rw[cP,jS];exact h.hk,.inr rfl⟩
  |2,a,b=>injection a with a;injection b with b;subst a b;exact⟨h.lt.2.2,h.hq,.inr rfl⟩⟩
def V6 (S:Sr) (V:Ps) (C:Ck5):AH:=mkH [(0,.cells (df S 3 V.length) true),(3,.cells (aY V) true),(2,dM S C)]
def gj (H:AH) (n r k q:Nat) (S:Sr) (V:Ps) (C:Ck5):AH:=PM.set (some (.cells (df S n V.length) true)) aa (PM.set none aa (PM.set (some (dM S C)) aa (PM.set (some (.cells (aY V) true)) aa H n) q) k) r
def SP(P:AV->Sr->Ps->Ck5->Prop):PK:=λu a m=>∃S V C,P u S V C/\a=V6 S V C/\m=4
def fG(g:List AV->AH->Nat->PK->Prop)(args:List AV)(H:AH)(n:Nat)(κ:PK):Prop:=g args H n λu b c=>∃(v:AV) (a:AH) (m:Nat),Cov n (mkE [(0,u)]) b c (mkE [(0,v)],a,m)/\κ v a m
theorem ak.fG{f:FuncId}{g:List AV->AH->Nat->PK->Prop}(r:ak f g):ak f (fG g):=λargs H n Q s x k h A K l B C=>r args H n _ s x k h A K l B λD u R S w o c d E ⟨v,F,m,G,i⟩=>by
 obtain⟨I,⟨J,L,M⟩,N,O⟩:=G D k o (λ_=>w) d (λt a P=>by
  have:=nD P;simp only[Z4,Z5,or_false]at this;injection this with e1 e2;subst e1 e2;exact E)
 exact C I v F m w o ⟨λb p e=>J b p (l.dom b p e).1 (c.b b p e),λq j=>L q (c.z q j),λq j=>c.y q (M q j)⟩ N (O 0 v rfl) i
theorem gI {f:FuncId} {run:List AV->AH->Nat->PK->Prop} (d:ak f run) (i:bY Tryz.prog f=true) {a:List AV} {S:Sr} {V:Ps} {C:Ck5} {P:AV->Sr->Ps->Ck5->Prop} (h:fG run (.ptr 0 0::a) (mkH (bM (iq S V C) 0)) 3 (SP P)) (j:∀r,dY r a=a)
 {φ:Ph} {H:AH} {n:Nat} {s t:Hp} {l:Array Value} {κ:PK} {K:KH} {r k q:Nat} (y:HR φ H n s t) (z:fk H n r k q S V C) (c:VRs φ (.ptr r 0::a) l.toList) (A:cF φ s κ K) (B:∀u S' b C',P u S' b C'->(∀f,ren f u=u)/\ltV 4 u=true) (D:∀u S' b C',P u S' b C'->κ u (gj H n r k q S' b C') (n+1)):dO Tryz.prog f l t K:=by
 refine dC (S:=[r,k,q]) (O:=iq S V C) (args0:= .ptr 0 0::a) (ak.fG d) i y z.xh (by show VRs φ (ren _ _::dY _ a) l.toList;rw[j];exact c) A h λu G I ⟨S',b,C',v,E,F⟩=>?_
 subst E F;obtain⟨g,p⟩:=B u S' b C' v;refine⟨4,ki [r,k,q] n H [(0,some (.cells (df S' 3 b.length) true)),(1,none),(2,some (dM S' C')),(3,some (.cells (aY b) true))],Z0 rfl,fF.put (Z0 rfl) rfl (λx w o ho=>?_),p,?_⟩
 ·simp only[Z4,Z5,or_false]at w;rcases w with rfl|rfl|rfl|rfl
  ·injection ho with ho;subst ho;exact⟨rfl,rfl,rfl⟩
  ·cases ho
  ·injection ho with ho;subst ho;exact⟨rfl,rfl,rfl⟩
  ·injection ho with ho;subst ho;exact⟨rfl,rfl,pS _ _⟩
 ·have e:ki [r,k,q] n H [(0,some (.cells (df S' 3 b.length) true)),(1,none),(2,some (dM S' C')),(3,some (.cells (aY b) true))]=gj H n r k q S' b C':=by
   simp only[ki,q0e,q2k,cP,jS];rfl
  rw[g _,e];exact D u S' b C' v
theorem VTo.mk5{u v:AV}(h:mk u=v):VTo u v:=λb w a=>h▸a.mk
theorem ao.aY{H:AH}{m:Nat}{r:Nat->Nat}{l:List AV}{C:Ps}(h:l.map Go.Proofs.YtflehenfikoniaaGreat.mk=Go.Proofs.YtflehenfikoniaaGreat.aY C):ao H m r (.cells l true) (.cells (Go.Proofs.YtflehenfikoniaaGreat.aY C) true):=
 ao.cells (by have:=congrArg List.length h;simp only[Y9]at this;omega) (λq=>q) λi f d=>by
  rw[<-h,q0w]at d;cases e:l[i]? with
  |none=>rw[e]at d;cases d
  |some a=>
   rw[e]at d;injection d with d;have b:(Go.Proofs.YtflehenfikoniaaGreat.aY C)[i]?=some f:=by rw[<-h,q0w,e];exact congrArg some d
   unfold Go.Proofs.YtflehenfikoniaaGreat.aY at b;rw[q0w]at b;cases g:C[i]? with
   |none=>rw[g]at b;cases b
   |some c=>
    rw[g]at b;injection b with b;refine⟨a,rfl,λk o v _ _ n=>?_⟩;have j:VR k f v:=d▸n.mk;rw[<-b]at j⊢;exact j
theorem ao.sep{H:AH}{m:Nat}{r:Nat->Nat}(Q:HP):ao H m r (.sep Q) (.sep Q):=⟨⟨rfl,rfl⟩,λ_ _ _ _ _ _ h=>h.elim⟩
def xi (le:List (Nat×AV)) (S:Sr) (V:Ps) (C:Ck5):AE×AH×Nat:=(mkE le,mkH [(0,.cells (df S 3 V.length) true),(3,.cells (aY V) true),(2,dM S C)],4)
def Be(j1:Nat):Nat->Nat:=λb=>if b=3 then j1 else b
theorem fm{C:Ck5}{i:Nat}(h:i<C.length):C.take i++(C[i].1,C[i].2)::C.drop (i+1)=C:=by
 show C.take i++C[i]::C.drop (i+1)=C;rw[<-q0k h,q1i]
theorem jF{H:AH}{n:Nat}{S:Sr}{C:Ck5}{i:Nat}(h:i<C.length)(a:PM.get H 2=some (dM S C))(hn:2<n)(b:n<1000000)(c:PM.get H n=none):xf H n 2 S.sz (C.take i++(C[i].1,C[i].2)::C.drop (i+1)):=⟨hn,b,c,by rw[fm h];exact a⟩
theorem js{sz:Nat}{C:Ck5}{i:Nat}(h:i<C.length):fh sz (C.take i++(C[i].1,C[i].2)::C.drop (i+1)) C:=by rw[fm h];exact .refl _ _
theorem ao.df{H:AH}{m:Nat}{r:Nat->Nat}{S:Sr}{k b:Nat}{c d e f g h:AV}(j:mk c= .si .i64 (S.sz:Int))(l:mk d= .si .i64 S.ret)(n:mk e= .si .i64 S.pol)(o:mk f= .si .i64 S.mx)(p:mk g= .si .i64 S.fl)(s:ah H m r h (.rw k 0 b 1 0)):ao H m r (.cells [c,d,e,f,g,h] true) (.cells (Go.Proofs.YtflehenfikoniaaGreat.df S k b) true):=
 ao.cells (Z3 _) (λq=>q) λi t a=>by
  match i,a with
  |0,a=>injection a with a;subst a;exact⟨_,rfl,ah.int j⟩
  |1,a=>injection a with a;subst a;exact⟨_,rfl,ah.int l⟩
  |2,a=>injection a with a;subst a;exact⟨_,rfl,ah.int n⟩
  |3,a=>injection a with a;subst a;exact⟨_,rfl,ah.int o⟩
  |4,a=>injection a with a;subst a;exact⟨_,rfl,ah.int p⟩
  |5,a=>injection a with a;subst a;exact⟨_,rfl,s⟩
  |i+6,a=>simp[Go.Proofs.YtflehenfikoniaaGreat.df]at a
theorem oc {p:Nat} {σ:AE} {H:AH} {n:Nat} {S:Sr} {V:Ps} {C:Ck5} (j1:Nat) {le:List (Nat×AV)} {d f g h i j:AV} {l:List AV} (B:p<=3) (o:∀x∈le,ah H 4 (Be j1) (aj (pa x.1) σ) x.2) (D:j1≠0/\j1≠2)
 (q:PM.get H 0=some (.cells [d,f,g,h,i,j] true)) (r:mk d= .si .i64 (S.sz:Int)) (s:mk f= .si .i64 S.ret) (t:mk g= .si .i64 S.pol) (u:mk h= .si .i64 S.mx) (v:mk i= .si .i64 S.fl) (w:ah H 4 (Be j1) j (.rw 3 0 V.length 1 0))
 (z:PM.get H j1=some (.cells l true)) (c:l.map mk=aY V) (A:PM.get H 2=some (dM S C)):Cov p σ H n (xi le S V C):=by
 refine Cov.ofR (m:=4) (p:=p) (Be j1) (by omega) (λb E=>by unfold Be;rw[if_neg (by omega)]) o ?_ ?_
 ·intro x a;simp only[Z4,Z5,or_false]at a;rcases a with rfl|rfl|rfl
  ·exact⟨Z0 rfl,.inl ⟨_,q,ao.df r s t u v w⟩⟩
  ·exact⟨Z0 rfl,.inl ⟨_,z,ao.aY c⟩⟩
  ·exact⟨Z0 rfl,.inl ⟨_,A,ao.sep _⟩⟩
 ·intro x a y k e;simp only[Z4,Z5,or_false]at a k;rcases a with rfl|rfl|rfl<;>rcases k with rfl|rfl|rfl
  ·rfl
  ·exact absurd (show 0=j1 from e) (by omega)
  ·exact absurd (show 0=2 from e) (by omega)
  ·exact absurd (show j1=0 from e) (by omega)
  ·rfl
  ·exact absurd (show j1=2 from e) (by omega)
  ·exact absurd (show 2=0 from e) (by omega)
  ·exact absurd (show 2=j1 from e) (by omega)
  ·rfl
theorem fQ {u v:AV} {H:AH} {n:Nat} {S:Sr} {V:Ps} {C:Ck5} (P:AV->Sr->Ps->Ck5->Prop) (k:P v S V C) (o:VTo u v) (p:∀φ ψ w,VR φ v w->VR ψ v w) (j1:Nat) {b c d e f g:AV} {l:List AV} (q:j1≠0/\j1≠2)
 (r:PM.get H 0=some (.cells [b,c,d,e,f,g] true)) (s:mk b= .si .i64 (S.sz:Int)) (t:mk c= .si .i64 S.ret) (y:mk d= .si .i64 S.pol) (z:mk e= .si .i64 S.mx) (A:mk f= .si .i64 S.fl) (B:ah H 4 (Be j1) g (.rw 3 0 V.length 1 0))
 (D:PM.get H j1=some (.cells l true)) (a:l.map mk=aY V) (E:PM.get H 2=some (dM S C)):∃(h:AV) (i:AH) (m:Nat),Cov 3 (mkE [(0,u)]) H n (mkE [(0,h)],i,m)/\SP P h i m:=by
 refine⟨v,V6 S V C,4,oc (le:=[(0,v)]) j1 (Z3 _) (λx j=>?_) q r s t y z A B D a E,S,V,C,k,rfl,rfl⟩;simp only[Z4,Z5,or_false]at j;subst j;exact λφ ψ w G _ F=>p φ ψ w (o φ w F)
structure Okc(S:Sr)(C:Ck5):Prop where
 lo:128<=S.sz
 hi:S.sz<=4096
 cW:∀c∈C,cG c.2
 few:C.length<=100000
def cnt(C:Ck5):List Smp:=C.map λc=>c.2
theorem c8(C:Ck5):(cnt C).length=C.length:=Y9 _
theorem Hy{C:Ck5}{i:Nat}(h:i<C.length):(cnt C)[i]'(by rw[c8];exact h)=C[i].2:=by simp[cnt]
theorem dy{C:Ck5}{i k:Nat}(h:i<C.length)(a:k=i):nth (aY (pts C)) k=some (aK C[i].1):=by
 rw[a,fB];simp[aY,pts,h]
def dZ:List Smp->Int->Nat
 |_::M::D,t=>if t<tAt M 0 then 0 else dZ (M::D) t+1
 |_,_=>0
theorem xj{D:List Smp}{i:Nat}{t:Int}(h:i+1<D.length):dZ (D.drop i) t=if t<tAt D[i+1] 0 then 0 else dZ (D.drop (i+1)) t+1:=by
 rw[q0k (show i<D.length by omega),q0k h];rfl
theorem uF{D:List Smp}{t:Int}(h:D.length<=1):dZ D t=0:=by
 match D,h with
 | [],_=>rfl
 | [_],_=>rfl
 |_::_::_,h=>simp at h
theorem xm:∀{D:List Smp} (t:Int),D≠[]->dZ D t<D.length
 | [],_,h=>absurd rfl h
 | [_],_,_=>Nat.zero_lt_one
 |_::M::D,t,_=>by
  have:=xm (D:=M::D) t (by simp);unfold dZ;split
  ·simp
  ·simp only[Z9]at this⊢;omega
def KHm:FuncId->EP:=bg 63 [] (aq 121 (rf λ_=>0) evP)
theorem Nn:aV KHm:=au (ag az Nm) (by kernel_rfl) (by kernel_rfl)
def HmP(b:Sr)(a:Ck5)(t:Int):AV->Sr->Ps->Ck5->Prop:=λu S V C=>u= .si .i64 ((dZ (cnt a) t:Nat):Int)/\S=b/\V=pts a/\C=a
theorem VR.eR{k:IntKind}{x:Int}:∀φ ψ w,VR φ (.si k x) w->VR ψ (.si k x) w:=λ_ _ _ h=>h
theorem No(S:Sr)(C:Ck5)(t:Int)(f:Okc S C):fG (ax KHm 5 63) [.ptr 0 0,.si .i64 t] (mkH (bM (iq S (pts C) C) 0)) 3 (SP (HmP S C t)):=by
 have m:=f.few;have k:=f.lo;show ax KHm 5 _ _ _ _ _
 conv=>whnf
 refine aR.mk {i:Nat//(i<C.length∨i=0)/\dZ (cnt C) t=i+dZ ((cnt C).drop i) t} 4 (λi=>((xi [(0,.ptr 0 0),(1,.si .i64 t),(5,.si .i64 (i.val:Int))] S (pts C) C).1,(xi [(0,.ptr 0 0),(1,.si .i64 t),(5,.si .i64 (i.val:Int))] S (pts C) C).2.1)) (λi=>C.length-i.val) ⟨0,.inr rfl,by simp⟩ ?_ ?_
 focus
  exact oc 1 (le:=[(0,.ptr 0 0),(1,.si .i64 t),(5,.si .i64 ((0:Nat):Int))]) (Z3 3) (λx c=>by
   simp only[Z4,Z5,or_false]at c;rcases c with rfl|rfl|rfl
   ·exact ah.ptr (Z0 rfl) rfl
   ·exact ah.int rfl
   ·exact ah.int rfl) ⟨by decide,by decide⟩ rfl rfl rfl rfl rfl rfl (ah.rw (Z0 rfl) rfl) rfl (aA _) rfl
 intro⟨i,n,j⟩;have e:IntKind.i64.wrap ((i:Int)+1)=((i+1:Nat):Int):=by rw[ai (by omega) (by omega)];omega
 conv=>whnf
 refine ae.dec (λh=>?_) (λh=>?_)
 focus
  have a:i+1<C.length:=by
   have h:IntKind.i64.wrap ((i:Int)+1)<((pts C).length:Int):=h;rw[e,an]at h;omega
  have l:i+1<(cnt C).length:=by rw[c8];exact a
  have b:=xj (t:=t) l;rw[Hy a]at b
  conv=>whnf
  refine Idx.mk (i+1) e (by rw[an];exact a) ?_
  conv=>whnf
  refine aw (dy a (show 0+(i+1)*1=i+1 by omega)) ?_
  conv=>whnf
  refine⟨2,S.sz,C.take (i+1),C.drop (i+1+1),C,C[i+1].1,C[i+1].2,rfl,jF a rfl (by decide) (by decide) rfl,by omega,f.cW _ (q0g a),js a,?_⟩
  conv=>whnf
  refine ae.dec (λg=>?_) (λg=>?_)
  focus
   have d:i=dZ (cnt C) t:=by rw[j,b,if_pos g];rfl
   conv=>whnf
   exact fQ (HmP S C t) ⟨rfl,rfl,rfl,rfl⟩ (VTo.mk5 (congrArg (λq:Nat=>AV.si .i64 (q:Int)) d)) VR.eR 3 ⟨by decide,by decide⟩ rfl rfl rfl rfl rfl rfl (ah.rw (Z0 rfl) rfl) rfl (aA _) rfl
  have d:dZ (cnt C) t=(i+1)+dZ ((cnt C).drop (i+1)) t:=by rw[j,b,if_neg g];omega
  conv=>whnf
  exact⟨⟨i+1,.inl a,d⟩,by show C.length-(i+1)<C.length-i;omega,oc 3 (le:=[(0,.ptr 0 0),(1,.si .i64 t),(5,.si .i64 ((i+1:Nat):Int))]) (Z3 3) (λx c=>by
   simp only[Z4,Z5,or_false]at c;rcases c with rfl|rfl|rfl
   ·exact ah.ptr (Z0 rfl) rfl
   ·exact ah.int rfl
   ·exact ah.int (congrArg (AV.si .i64) e)) ⟨by decide,by decide⟩ rfl rfl rfl rfl rfl rfl (ah.rw (Z0 rfl) rfl) rfl (aA _) rfl⟩
 have d:i=dZ (cnt C) t:=by
  have a:¬i+1<C.length:=λq=>h (by
   show IntKind.i64.wrap ((i:Int)+1)<((pts C).length:Int);rw[e,an];omega)
  rw[j,uF (D:=(cnt C).drop i) (by rw[q0m,c8];omega)];rfl
 conv=>whnf
 exact fQ (HmP S C t) ⟨rfl,rfl,rfl,rfl⟩ (VTo.mk5 (congrArg (λq:Nat=>AV.si .i64 (q:Int)) d)) VR.eR 3 ⟨by decide,by decide⟩ rfl rfl rfl rfl rfl rfl (ah.rw (Z0 rfl) rfl) rfl (aA _) rfl
def Bf(args:List AV)(H:AH)(n:Nat)(κ:PK):Prop:=match args with
 | [x,y]=>∃(r k q:Nat) (S:Sr) (C:Ck5) (t:Int) (h:Nat),x= .ptr r 0/\mk y= .si .i64 t/\fk H n r k q S (pts C) C/\Okc S C/\dZ (cnt C) t=h/\κ (.si .i64 (h:Int)) (gj H n r k q S (pts C) C) (n+1)
 |_=>False
theorem TL:ak 63 Bf:=λargs H n I b J c L M K d a e=>by
 unfold Bf at b;split at b
 ·obtain⟨N,f,i,j,l⟩:=a.cons_inv;obtain⟨O,m,o,p,s⟩:=l.cons_inv;obtain⟨r,k,q,S,C,t,h,rfl,v,w,x,y,b⟩:=b;subst y;refine gI (ay Nn 5 _) (by kernel_rfl) (No S C t x) (λ_=>rfl) d w (by rw[i,o];exact .cons j (.cons (aU rfl (v▸p.mk)) s)) e (λu z A B ⟨g,_⟩=>by subst g;exact⟨λ_=>rfl,rfl⟩) λu z A B ⟨D,E,F,G⟩=>?_
  subst D E F G;exact b
 ·exact b.elim
def KIn:FuncId->EP:=bg 184 [] evP
theorem TM:aV KIn:=au az (by kernel_rfl) (by kernel_rfl)
def InP(a:Sr)(b:Ps)(c:Ck5):AV->Sr->Ps->Ck5->Prop:=λu S V C=>u= .tup []/\S=a/\V=b/\C=c
theorem DG:RTy 107 107 1 8:=⟨_,_,_,rfl,rfl,(λq h=>by cases h),rfl,rfl,rfl,rfl,by decide,by decide⟩
theorem zv(V:Ps)(i:Nat):(aY V).take i=aY (V.take i):=by simp[aY,q4i]
theorem zw(V:Ps)(i:Nat):(aY V).drop i=aY (V.drop i):=by simp[aY,List.map_drop]
theorem FD(S:Sr)(V:Ps)(C:Ck5)(i:Nat)(p:Nat×Nat)(hi:i<=V.length)(c:V.length<=200000):fG (ax KIn 5 184) [.ptr 0 0,.si .i64 (i:Int),aK p] (mkH (bM (iq S V C) 0)) 3 (SP (InP S (V.take i++p::V.drop i) C)):=by
 show ax KIn 5 _ _ _ _ _;have d:aY (V.take i)++ [aK p]=aY (V.take i++ [p]):=by simp[aY]
 have a:(V.take i).length=i:=by rw[q0d];omega
 have s1:bl (aY V) 0 (i*1)=some (aY (V.take i)):=by
  unfold bl;rw[q0u (by rw[b7];omega),q4p,q0p,zv]
 have s2:bl (aY V) (0+i*1) ((V.length-i)*1)=some (aY (V.drop i)):=by
  unfold bl;rw[q0u (by rw[b7];omega),show 0+i*1=i by omega,zw,q0p,q1v (by rw[b7,q0m];exact Z3 _)]
 have b:i+1+(V.length-i)=(V.take i++p::V.drop i).length:=by rw[Z6,Z9,q0m,a];omega
 conv=>whnf
 refine RSl.mk 0 i rfl rfl (.inr ⟨rfl,rfl⟩) (Y5 _) hi ?_
 conv=>whnf
 refine bI.exact 1 8 1 1 0 i [aK p] (aY (V.take i)) rfl DG (.old rfl) rfl rfl (by decide) (.rw (.inr ⟨_,rfl⟩) s1) (by omega) ?_
 conv=>whnf
 refine RSl.mk i V.length rfl rfl (.inl rfl) hi (Z3 _) ?_
 conv=>whnf
 refine bI.grow 1 8 (V.length-i) (i+1) (aY (V.drop i)) (aY (V.take i)++ [aK p]) _ true DG (.rw (.inr ⟨_,rfl⟩) s2) (by rw[b7,q0m,q0p]) (DF _) (.rw rfl (bC (by rw[Z6,b7,a,q0p];rfl))) (by omega) ?_
 conv=>whnf
 exact fQ (InP S (V.take i++p::V.drop i) C) ⟨rfl,rfl,rfl,rfl⟩ (VTo.mk5 rfl) (λe f w h=>iT rfl h) 5 ⟨by decide,by decide⟩ rfl rfl rfl rfl rfl rfl (ah.rw (Z0 rfl) (congrArg (λq=>AV.rw 5 0 q 1 0) b)) rfl (by rw[q0r,q0r,aA,aA];simp[aY];rfl) rfl
def Bg(args:List AV)(H:AH)(n:Nat)(κ:PK):Prop:=match args with
 | [x,y,z]=>∃(r k q i:Nat) (S:Sr) (V a:Ps) (C:Ck5) (p:Nat×Nat),x= .ptr r 0/\mk y= .si .i64 (i:Int)/\z=aK p/\fk H n r k q S V C/\i<=V.length/\V.length<=200000/\V.take i++p::V.drop i=a/\κ (.tup []) (gj H n r k q S a C) (n+1)
 |_=>False
theorem DH:ak 184 Bg:=λargs H n O b P e Q R K f a h=>by
 unfold Bg at b;split at b
 ·obtain⟨T,j,l,m,o⟩:=a.cons_inv;obtain⟨U,s,t,v,w⟩:=o.cons_inv;obtain⟨W,x,y,z,A⟩:=w.cons_inv;obtain⟨r,k,q,i,S,V,d,C,p,rfl,B,rfl,D,E,F,c,b⟩:=b;subst c;refine gI (ay TM 5 _) (by kernel_rfl) (FD S V C i p E F) (λ_=>rfl) f D (by rw[l,t,y];exact .cons m (.cons (aU rfl (B▸v.mk)) (.cons z A))) h (λu G d I ⟨g,_⟩=>by subst g;exact⟨λ_=>rfl,rfl⟩) λu G d I ⟨J,L,M,N⟩=>?_
  subst J L M N;exact b
 ·exact b.elim
theorem PM.gne{a:Type}{v:Option a}{t:PM a}{n m:Nat}{x:a}(hn:n<1000000)(b:m≠n)(h:t.get m=some x):(PM.set v aa t n).get m=some x:=PM.aC aa _ _ _ (aD hn) b h
theorem PM.geq{a:Type}{v:Option a}{t:PM a}{n:Nat}(hn:n<1000000):(PM.set v aa t n).get n=v:=PM.bN aa _ _ (aD hn)
theorem VR.FE{φ:Ph}{b:Nat}{w:Value}(h:VR φ (.ptr b 0) w):∃q T,φ b=some ⟨Prod.fst q,Prod.snd q,T⟩/\w=qV q:=by
 obtain⟨P,a,c⟩:=h.cL;exact⟨(P.B,P.s),P.T,a,c⟩
def pT(args:List AV)(H:AH)(n:Nat)(κ:PK):Prop:=match args with
 | [x]=>∃(b sz:Nat) (A B:Ck5) (p:Nat×Nat) (L:Smp) (D:Nat×Nat->Ck5),x=aK p/\xf H n b sz (A++(p,L)::B)/\H.get (n+1)=none/\n+1<1000000/\0<sz/\cG L/\2<=L.length/\
  ∀q,fh sz (A++(p,L.take (b8 L))::(q,L.drop (b8 L))::B) (D q)/\κ (.tup [aK q,.int .i64 0]) (A8 H b sz (D q)) (n+2)
 |_=>False
theorem DI:ak 185 pT:=λargs H n κ j φ t hp vs K hr h hk=>by
 unfold pT at j;split at j
 ·obtain⟨b,sz,A,B,p,L,D,rfl,⟨i,c,w,W⟩,y,a,s1,hF,d,j⟩:=j;rw[dD]at W;obtain⟨X,us1,q1,z,r1⟩:=h.cons_inv;have z:X=qV p:=z;subst z;obtain⟨ψ,T,k,l,C⟩:=hr.C5 i W
  refine Qe [.ptr n 0] (opn H n b (chs sz A) (chs sz B) (chk sz L)) (n+1) (λv Y Z=>v= .tup [.ptr (n+1) 0,.int .i64 0]/\Y=((opn H n b (chs sz A) (chs sz B) (chk sz L)).set (some (.cells (chk sz (L.drop (b8 L))) true)) aa (n+1)).set (some (.cells (chk sz (L.take (b8 L))) true)) aa n/\Z=n+2)
   ⟨n,sz,L,rfl,q1m _,qz c,s1,hF,λq=>by omega,λ_=>⟨rfl,rfl,rfl⟩⟩ ψ t hp vs K C (by rw[q1];exact .cons (VR.oV l) (VRs.mono k _ _ r1)) λχ v Y Z u g f hg hu ⟨g1,g2,g3⟩=>?_
  subst g1 g2 g3;obtain⟨cs,rfl,E⟩:=hu.eY;obtain⟨X,us,q2,f1,f2⟩:=E.cons_inv;obtain⟨q,T',F,I⟩:=f1.FE;subst I
  have gb:(((opn H n b (chs sz A) (chs sz B) (chk sz L)).set (some (.cells (chk sz (L.drop (b8 L))) true)) aa (n+1)).set (some (.cells (chk sz (L.take (b8 L))) true)) aa n).get b=some (.sep (pk (chs sz A++chs sz B))):=
   PM.gne c (by omega) (PM.gne a (by omega) (zm i c))
  have J:(((opn H n b (chs sz A) (chs sz B) (chk sz L)).set (some (.cells (chk sz (L.drop (b8 L))) true)) aa (n+1)).set (some (.cells (chk sz (L.take (b8 L))) true)) aa n).get (n+1)=some (.cells (chk sz (L.drop (b8 L))) true):=
   PM.gne c (by omega) (PM.geq a)
  have gn:(((opn H n b (chs sz A) (chs sz B) (chk sz L)).set (some (.cells (chk sz (L.drop (b8 L))) true)) aa (n+1)).set (some (.cells (chk sz (L.take (b8 L))) true)) aa n).get n=some (.cells (chk sz (L.take (b8 L))) true):=PM.geq c;generalize hG:((opn H n b (chs sz A) (chs sz B) (chk sz L)).set (some (.cells (chk sz (L.drop (b8 L))) true)) aa (n+1)).set (some (.cells (chk sz (L.take (b8 L))) true)) aa n=G at*;obtain⟨M,_,N,f1',O⟩:=hg.oU (m:=n+1) (by omega) gb J F rfl (dS _ _)
  have r:M n=some ⟨p.1,p.2,T⟩:=N.b _ _ (f.b _ _ l);obtain⟨P,_,l2,_,Q⟩:=O.oU (m:=n) (A:=chs sz A) (B:=(q,chk sz (L.drop (b8 L)))::chs sz B) (by omega) (PM.geq (by omega)) (PM.gne (by omega) (by omega) (PM.gne a (by omega) gn)) r rfl (dS _ _)
  obtain⟨R,S⟩:=j q;unfold fh at R;rw[dD]at R;have U:=Q.uB (Q':=pk (chs sz (D q))) (PM.geq (by omega)) R;refine hk P _ _ _ _ g (((k.trans f).trans N).trans l2) (U.less λx o hx=>?_) (.tup (by rw[q2];exact .cons rfl (VRs.mono (N.trans l2) _ _ f2))) S;rcases PM.al aa H b x o hx with⟨rfl,d⟩|⟨s,d⟩
  ·rw[PM.geq (by omega)];exact d
  ·have V:x≠n:=λe=>by subst e;rw[w]at d;cases d
   have x2:x≠n+1:=λe=>by subst e;rw[y]at d;cases d
   refine PM.gne (by omega) s (PM.gne (by omega) s (PM.gne c V (PM.gne (by omega) s (PM.gne a x2 ?_))));rw[<-hG];exact PM.gne c V (PM.gne a x2 (uC i c V s d))
 ·exact j.elim
def xn(args:List AV)(H:AH)(n:Nat)(κ:PK):Prop:=match args with
 | [x,y]=>∃(b sz:Nat) (A B D:Ck5) (p q:Nat×Nat) (L M:Smp),x=aK p/\y=aK q/\xf H n b sz (A++(p,L)::(q,M)::B)/\H.get (n+1)=none/\n+1<1000000/\0<sz/\sz<=4096/\cG L/\cG M/\
  fh sz (A++(p,(bR sz L M).1.1)::(q,(bR sz L M).1.2)::B) D/\κ (.si .i64 (bR sz L M).2) (A8 H b sz D) (n+2)
 |_=>False
theorem Qh:ak 188 xn:=λargs H n κ E φ j G vs K hr k hk=>by
 unfold xn at E;split at E
 ·obtain⟨b,sz,A,B,D,p,q,L,M,rfl,rfl,⟨l,f,I,hb⟩,J,a,s1,s2,hF,hM,N,P⟩:=E;rw[dD]at hb;obtain⟨w1,us1,q1,Q,r1⟩:=k.cons_inv;obtain⟨w2,us2,q2,R,r2⟩:=r1.cons_inv;have Q:w1=qV p:=Q;have R:w2=qV q:=R;subst Q R;obtain⟨ψ,T,t,w,S⟩:=hr.C5 l hb;have U:(opn H n b (chs sz A) (chs sz ((q,M)::B)) (chk sz L)).get b=some (.sep (pk (chs sz A++(q,chk sz M)::chs sz B))):=zm l f;obtain⟨y,T2,c,i,r⟩:=(show HR ψ (opn H n b (chs sz A) (chs sz ((q,M)::B)) (chk sz L)) (n+1) j G from S).C5 (by omega) U;generalize hO:opn H n b (chs sz A) (chs sz ((q,M)::B)) (chk sz L)=O at*;have on:O.get n=some (.cells (chk sz L) true):=hO▸qz f;have P1:(opn O (n+1) b (chs sz A) (chs sz B) (chk sz M)).get n=some (.cells (chk sz L) true):=uC (by omega) a (by omega) (by omega) on;have P2:(opn O (n+1) b (chs sz A) (chs sz B) (chk sz M)).get (n+1)=some (.cells (chk sz M) true):=qz a;have P3:(opn O (n+1) b (chs sz A) (chs sz B) (chk sz M)).get b=some (.sep (pk (chs sz A++chs sz B))):=zm (by omega) a;have r:HR y (opn O (n+1) b (chs sz A) (chs sz B) (chk sz M)) (n+1+1) j G:=r;have P4:∀x o,x≠n->x≠n+1->x≠b->H.get x=some o->(opn O (n+1) b (chs sz A) (chs sz B) (chk sz M)).get x=some o:=λx o z C x3 h=>uC (by omega) a C x3 (hO▸uC l f z x3 h)
  generalize opn O (n+1) b (chs sz A) (chs sz B) (chk sz M)=O2 at*
  refine TB [.ptr n 0,.ptr (n+1) 0] O2 (n+2) (λv H2 n2=>v= .si .i64 (bR sz L M).2/\H2=((O2.set (some (.cells (chk sz (bR sz L M).1.2) true)) aa (n+1)).set (some (.cells (chk sz (bR sz L M).1.1) true)) aa n)/\n2=n+2)
   ⟨n,n+1,sz,sz,L,M,rfl,rfl,by omega,by omega,by omega,P1,P2,s1,s2,s1,hF,hM,rfl,rfl,rfl⟩ y j G vs K r (by rw[q1,q2];exact .cons (VR.oV (c.b _ _ w)) (.cons (VR.oV i) (VRs.mono (t.trans c) _ _ r2))) λχ v H2 n2 u g d hg hu ⟨g1,g2,g3⟩=>?_
  subst g1 g2 g3;obtain⟨ω1,_,V,_,W⟩:=hg.oU (m:=n+1) (p:=q) (T:=T2) (by omega) (PM.gne f (by omega) (PM.gne a (by omega) P3)) (PM.gne f (by omega) (PM.geq a)) (d.b _ _ i) rfl (dS _ _)
  obtain⟨X,_,l2,_,Y⟩:=W.oU (m:=n) (p:=p) (T:=T) (A:=chs sz A) (B:=(q,chk sz (bR sz L M).1.2)::chs sz B) (by omega) (PM.geq (by omega)) (PM.gne (by omega) (by omega) (PM.gne a (by omega) (PM.geq f))) (V.b _ _ (d.b _ _ (c.b _ _ w))) rfl (dS _ _)
  unfold fh at N;rw[dD]at N;have Z:=Y.uB (Q':=pk (chs sz D)) (PM.geq (by omega)) N;refine hk X _ _ _ _ g ((((t.trans c).trans d).trans V).trans l2) (Z.less λx o hx=>?_) (VR.mono (V.trans l2) _ _ hu) P;rcases PM.al aa H b x o hx with⟨rfl,s⟩|⟨F,s⟩
  ·rw[PM.geq (by omega)];exact s
  ·have z:x≠n:=λe=>by subst e;rw[I]at s;cases s
   have C:x≠n+1:=λe=>by subst e;rw[J]at s;cases s
   exact PM.gne (by omega) F (PM.gne (by omega) F (PM.gne f z (PM.gne (by omega) F (PM.gne a C (PM.gne f z (PM.gne a C (P4 x o z C F s)))))))
 ·exact E.elim
def Qi(sz:Nat):List AV:=[.si .i64 (sz:Int),.str [],.int .i64 0,.int .i64 0]
theorem Qj(sz:Nat):(Qi sz).map mk=(chk sz []).map mk:=rfl
def KNw:FuncId->EP:=bg 182 [] evP
theorem TN:aV KNw:=au az (by kernel_rfl) (by kernel_rfl)
theorem Np(sz:Nat)(b:128<=sz)(c:sz<=4096):ax KNw 3 182 [.si .i64 (sz:Int)] (mkH (bM [] 0)) 0 (λu H' a=>u= .tup [.ptr 0 0,.int .i64 0]/\H'=mkH [(0,.cells (Qi sz) true)]/\a=1):=by
 conv=>whnf
 refine ae.dec (λq=>absurd q (by omega)) (λ_=>?_)
 conv=>whnf
 refine ae.dec (λq=>absurd q (by omega)) (λ_=>?_)
 conv=>whnf
 exact⟨rfl,rfl,rfl⟩
def Bh(args:List AV)(H:AH)(n:Nat)(κ:PK):Prop:=match args with
 | [x]=>∃(b sz:Nat) (C:Ck5) (D:Nat×Nat->Ck5),mk x= .si .i64 (sz:Int)/\128<=sz/\sz<=4096/\xf H n b sz C/\∀q,fh sz (C++ [(q,[])]) (D q)/\κ (.tup [aK q,.int .i64 0]) (A8 H b sz (D q)) (n+1)
 |_=>False
theorem TO:ak 182 Bh:=λargs H n R d φ U hp vs K V c W=>by
 unfold Bh at d;split at d
 ·obtain⟨b,sz,C,D,f,h,a,⟨X,j,k,Y⟩,d⟩:=d;obtain⟨Z,us1,q1,e1,r1⟩:=c.cons_inv;refine dC (S:=[]) (O:=[]) (args0:=[.si .i64 (sz:Int)]) (κ:=λv M N=>v= .tup [.ptr n 0,.int .i64 0]/\M=H.set (some (.cells (Qi sz) true)) aa n/\N=n+1) (ay TN 3 _) (by kernel_rfl) V ⟨List.nodup_nil,rfl,λi s o h a=>by simp at h⟩ (by rw[q1];exact .cons (aU rfl (f▸e1.mk)) r1) ?_ (Np sz h a) λu H' n' ⟨g0,r,t⟩=>?_
  ·intro χ v M N u g w hg hu ⟨r,t,g3⟩;subst r t g3;obtain⟨cs,rfl,y⟩:=hu.eY;obtain⟨Z,us,q2,f1,f2⟩:=y.cons_inv;obtain⟨q,T',z,E⟩:=f1.FE;subst E;obtain⟨F,_,P,_,G⟩:=hg.oU (m:=n) (b:=b) (A:=chs sz C) (B:=[]) (p:=q) (T:=T') (l':=chk sz []) (by omega) (PM.gne j (by omega) (by rw[q1d];exact Y)) (PM.geq j) z (Qj sz) (dS _ _);obtain⟨I,J⟩:=d q;unfold fh at I;rw[dD]at I;have L:=G.uB (Q':=pk (chs sz (D q))) (PM.geq (by omega)) I;refine W F _ _ _ _ g (w.trans P) (L.less λx o f=>?_) (.tup (by rw[q2];exact .cons rfl (VRs.mono P _ _ f2))) J;rcases PM.al aa H b x o f with⟨rfl,a⟩|⟨h,a⟩
   ·rw[PM.geq (by omega)];exact a
   ·have Q:x≠n:=λe=>by subst e;rw[k]at a;cases a
    exact PM.gne (by omega) h (PM.gne (by omega) h (PM.gne j Q (PM.gne j Q a)))
  ·subst g0 r t;refine⟨1,ki [] n H [(0,some (.cells (Qi sz) true))],Y5 _,fF.put (Y5 _) rfl (λx f o ho=>?_),rfl,rfl,?_,rfl⟩
   ·simp only[Z4,Z5,or_false]at f;subst f;injection ho with ho;subst ho;exact⟨rfl,rfl,rfl⟩
   ·rfl
 ·exact d.elim
def KCp:FuncId->EP:=bg 118 [] evP
theorem TP:aV KCp:=au az (by kernel_rfl) (by kernel_rfl)
theorem J2(sz:Nat)(L:Smp)(b:0<sz):ax KCp 5 118 [.ptr 0 0] (mkH (bM [.cells (chk sz L) true] 0)) 1 (λu H' a=>u= .ptr 1 0/\H'=mkH [(1,.cells (chk sz L) true),(0,.cells (chk sz L) true)]/\a=2):=by
 conv=>whnf
 refine ae.dk (λq=>absurd (show(0:Int)<(sz:Int) by omega) q) (λ_=>?_)
 conv=>whnf
 exact⟨rfl,rfl,rfl⟩
def xo(args:List AV)(H:AH)(n:Nat)(κ:PK):Prop:=match args with
 | [x]=>∃(b a sz:Nat) (A B c:Ck5) (p:Nat×Nat) (L:Smp) (d:Nat×Nat->Ck5),x=aK p/\xf H n b sz (A++(p,L)::B)/\b≠a/\xf H n a sz c/\H.get (n+1)=none/\n+1<1000000/\0<sz/\
  ∀q,fh sz (c++ [(q,L)]) (d q)/\κ (aK q) (A8 H a sz (d q)) (n+2)
 |_=>False
theorem Qk:ak 118 xo:=λargs H n κ w φ F hp vs K hr l hk=>by
 unfold xo at w;split at w
 ·obtain⟨b,D,sz,A,B,C2,p,L,D2,rfl,⟨i,h,G,I⟩,r,⟨hb2n,_,_,J⟩,M,f,s1,w⟩:=w;have N:=I;rw[dD]at I;obtain⟨w1,us1,q1,P,r1⟩:=l.cons_inv;have P:w1=qV p:=P;subst P;obtain⟨ψ,T,y,z,s⟩:=hr.C5 i I;have o2:(opn H n b (chs sz A) (chs sz B) (chk sz L)).get D=some (.sep (pk (chs sz C2))):=uC i h (by omega) (λe=>r e.symm) J;have o1:(opn H n b (chs sz A) (chs sz B) (chk sz L)).get b=some (.sep (pk (chs sz A++chs sz B))):=zm i h;have on:(opn H n b (chs sz A) (chs sz B) (chk sz L)).get n=some (.cells (chk sz L) true):=qz h;have ox:∀x o,x≠n->x≠b->H.get x=some o->(opn H n b (chs sz A) (chs sz B) (chk sz L)).get x=some o:=λx o a c d=>uC i h a c d
  have s:HR ψ (opn H n b (chs sz A) (chs sz B) (chk sz L)) (n+1) F hp:=s;generalize opn H n b (chs sz A) (chs sz B) (chk sz L)=O at*;refine dC (S:=[n]) (O:=[.cells (chk sz L) true]) (args0:=[.ptr 0 0]) (κ:=λv H2 n2=>v= .ptr (n+1) 0/\H2=(O.set (some (.cells (chk sz L) true)) aa (n+1)).set (some (.cells (chk sz L) true)) aa n/\n2=n+2) (ay TP 5 _) (by kernel_rfl) s (nL (q1m _) on (.inr rfl)) (by rw[q1];exact .cons (VR.oV z) (VRs.mono y _ _ r1)) ?_ (J2 sz L s1) λu H' n' ⟨g0,R,U⟩=>?_
  ·intro χ v H2 n2 u g k hg hu ⟨R,U,g3⟩;subst R U g3;obtain⟨q,T',V,W⟩:=hu.FE;subst W;obtain⟨ω1,_,l1,_,X⟩:=hg.oU (m:=n+1) (b:=D) (A:=chs sz C2) (B:=[]) (p:=q) (T:=T') (by omega) (PM.gne h (by omega) (PM.gne f (by omega) (by rw[q1d];exact o2))) (PM.gne h (by omega) (PM.geq f)) V rfl (dS _ _)
   obtain⟨C,_,l2,_,Y⟩:=X.oU (m:=n) (b:=b) (A:=chs sz A) (B:=chs sz B) (p:=p) (T:=T) (by omega) (PM.gne (by omega) r (PM.gne f (by omega) (PM.gne h (by omega) (PM.gne f (by omega) o1)))) (PM.gne (by omega) (by omega) (PM.gne f (by omega) (PM.geq h))) (l1.b _ _ (k.b _ _ z)) rfl (dS _ _)
   obtain⟨Z,hκ⟩:=w q;unfold fh at Z;rw[dD]at Z;have hr5:=Y.uB (b:=D) (Q':=pk (chs sz (D2 q))) (PM.gne (by omega) (λe=>r e.symm) (PM.gne h (by omega) (PM.geq (by omega)))) Z;refine hk C _ _ _ _ g (((y.trans k).trans l1).trans l2) (hr5.less λx o E=>?_) (show VR C (aK q) (qV q) from rfl) hκ;rcases PM.al aa H D x o E with⟨rfl,j⟩|⟨h1,j⟩
   ·rw[PM.geq (by omega)];exact j
   ·have x1:x≠n:=λe=>by subst e;rw[G]at j;cases j
    have x2:x≠n+1:=λe=>by subst e;rw[M]at j;cases j
    refine PM.gne (by omega) h1 ?_;by_cases t:x=b
    ·subst t;rw[PM.geq (by omega),<-dD];rw[N]at j;exact j
    ·exact PM.gne (by omega) t (PM.gne h x1 (PM.gne (by omega) h1 (PM.gne f x2 (PM.gne h x1 (PM.gne f x2 (ox x o x1 t j))))))
  ·subst g0 R U;refine⟨2,ki [n] (n+1) O [(0,some (.cells (chk sz L) true)),(1,some (.cells (chk sz L) true))],Z0 rfl,fF.put (Z0 rfl) rfl (λx E o ho=>?_),rfl,rfl,rfl,rfl⟩
   ·simp only[Z4,Z5,or_false]at E;rcases E with rfl|rfl
    ·injection ho with ho;subst ho;exact⟨rfl,rfl,rfl⟩
    ·injection ho with ho;subst ho;exact⟨rfl,rfl,rfl⟩
 ·exact w.elim
def ab(C:Ck5):Smp:=(cnt C).flatten
theorem jt(A B:Ck5):ab (A++B)=ab A++ab B:=by simp[ab,cnt]
theorem bQ(c:(Nat×Nat)×Smp)(B:Ck5):ab (c::B)=c.2++ab B:=by simp[ab,cnt]
theorem fo(A B:Ck5)(p:Nat×Nat)(L:Smp):ab (A++(p,L)::B)=ab A++(L++ab B):=by rw[jt,bQ]
def NeT(C:Ck5):Prop:=∀c∈C.tail,c.2≠[]
structure Gd(S:Sr)(C:Ck5):Prop where
 lo:128<=S.sz
 hi:S.sz<=4096
 up:Up (ab C)
 ne:NeT C
 cW:∀c∈C,cG c.2
 fit:∀c∈C,(aX c.2).length<=8*S.sz
theorem xp:∀{C:Ck5},(∀c∈C,c.2≠[])->C.length<=(ab C).length
 | [],_=>Y5 _
 |c::C,h=>by
  have:=xp (C:=C) λd hd=>h d (Y4 _ hd)
  have a:0<c.2.length:=q3l.2 (h c (by simp));rw[bQ,Z6,Z9];omega
theorem FF{C:Ck5}(h:NeT C):C.length<=(ab C).length+1:=by
 cases C with
 |nil=>exact Y5 _
 |cons c C=>
  have:=xp (C:=C) h;rw[bQ,Z6,Z9];omega
theorem Gd.okc{S:Sr}{C:Ck5}(h:Gd S C)(a:(ab C).length<=90000):Okc S C:=⟨h.lo,h.hi,h.cW,by have:=FF h.ne;omega⟩
theorem Up.Ql{L:Smp}(h:Up L){x:Int×Int}(a:x∈L):tAt L 0<=x.1:=by
 cases L with
 |nil=>cases a
 |cons y L=>
  show y.1<=x.1;rcases Z4.1 a with rfl|q
  ·exact q2q _
  ·have:=(q1j.1 h).1 x q;omega
theorem Hz{L:Smp}(h:L≠[]):∃x∈L,x.1=tAt L 0:=by
 cases L with
 |nil=>exact absurd rfl h
 |cons y L=>exact⟨y,by simp,rfl⟩
theorem ri:∀{C:Ck5} {t:Int},C≠[]->NeT C->Up (ab C)->(∀x∈ab (C.take (dZ (cnt C) t)),x.1<t)/\∀x∈ab (C.drop (dZ (cnt C) t+1)),t<x.1
 | [],_,h,_,_=>absurd rfl h
 | [c],t,_,_,_=>by
  have:dZ (cnt [c]) t=0:=rfl
  rw[this];exact⟨λx a=>by simp[ab,cnt]at a,λx a=>by simp[ab,cnt]at a⟩
 |c::d::C,t,_,f,j=>by
  have hd:d.2≠[]:=f d (by simp);have b:=j;rw[bQ,Up.app]at b;obtain⟨p,g,k⟩:=b;have e:dZ (cnt (c::d::C)) t=if t<tAt d.2 0 then 0 else dZ (cnt (d::C)) t+1:=rfl
  rw[e];split
  ·rename_i l;refine⟨λx a=>by simp[ab,cnt]at a,λx a=>?_⟩;have a:x∈ab (d::C):=a;have i:tAt (ab (d::C)) 0<=x.1:=Up.Ql g a
   have r:tAt (ab (d::C)) 0=tAt d.2 0:=by
    rw[bQ];exact(l9 (q3l.2 hd)).1
   omega
  ·rename_i l;obtain⟨m,i⟩:=ri (C:=d::C) (t:=t) (by simp) (λx a=>f x (show x∈(c::d::C).tail from Y4 d a)) g;refine⟨λx a=>?_,i⟩;have a:x∈ab (c::(d::C).take (dZ (cnt (d::C)) t)):=a;rw[bQ]at a;rcases q1e.1 a with q|q
   ·obtain⟨y,n,o⟩:=Hz hd;have:=k x q y (by rw[bQ];exact q2c _ n);omega
   ·exact m x q
theorem pU{L:Smp}(h:Up L)(t v p:Int):Up (dU L t v p).1:=by
 unfold dU;split
 ·rename_i a;split
  ·exact h
  ·exact G3 h a
 ·rename_i a;exact G2 h (by simpa using a) v
theorem xq(L:Smp)(t v p:Int):(dU L t v p).1.length<=L.length+1/\L.length<=(dU L t v p).1.length:=by
 unfold dU;split
 ·split
  ·exact⟨q2n _,Z3 _⟩
  ·rw[sq];exact⟨q2n _,Z3 _⟩
 ·rw[lk];exact⟨Z3 _,q2n _⟩
theorem Qm{L:Smp}{t v p:Int}(h:(dU L t v p).2=0):(dU L t v p).1≠[]:=by
 unfold dU at h⊢;split
 ·rename_i a;rw[if_pos a]at h;split
  ·rename_i q;rw[if_pos q]at h;exact absurd h q
  ·intro e;have b:plc L t<L.length:=by unfold has at a;exact(of_decide_eq_true a).1
   have:=congrArg List.length e;rw[sq]at this;simp at this;rw[this]at b;simp at b
 ·intro e;have:=congrArg List.length e;rw[lk]at this;simp at this
structure FG(S:Sr)(C C':Ck5)(t v p e:Int):Prop where
 gd:Gd S C'
 err:e=(dU (ab C) t v p).2
 fl:ab C'=(dU (ab C) t v p).1
 ne:C'≠[]
theorem NeT.set{A B:Ck5}{p q:Nat×Nat}{L M:Smp}(h:NeT (A++(p,L)::B))(d:M≠[]):NeT (A++(q,M)::B):=by
 cases A with
 |nil=>exact h
 |cons a A=>
  intro c b;have b:c∈A++(q,M)::B:=b;have h:∀c∈A++(p,L)::B,c.2≠[]:=h;rcases q1e.1 b with k|k
  ·exact h c (q2c _ k)
  ·rcases Z4.1 k with rfl|k
   ·exact d
   ·exact h c (q4f _ (Y4 _ k))
theorem dF{a:Type}{A B:List a}{x c:a}:c∈A++x::B<->c=x∨c∈A++B:=by
 simp only[q1e,Z4];constructor
 ·rintro(h|h|h)
  ·exact .inr (.inl h)
  ·exact .inl h
  ·exact .inr (.inr h)
 ·rintro(h|h|h)
  ·exact .inr (.inl h)
  ·exact .inl h
  ·exact .inr (.inr h)
theorem Nq{S:Sr}{A B:Ck5}{p:Nat×Nat}{L:Smp}{t v q:Int}(a:Gd S (A++(p,L)::B))(l:∀x∈ab A,x.1<t)(m:∀x∈ab B,t<x.1)(n:0<=t/\t<1099511627776)(o:aQ v)(f:(ft S.sz L t v q).2≠2):
 FG S (A++(p,L)::B) (A++(p,(ft S.sz L t v q).1)::B) t v q (ft S.sz L t v q).2:=by
 have r:cG L:=a.cW (p,L) (by simp);have b:=JM (p:=q) a.hi r (t:=t) (v:=v) o;have d:=Dz (M:=L) v q l m;rw[<-fo A B p L]at d;rw[tI n]at f b⊢;by_cases g:(dU L t v q).2≠0
 ·rw[if_pos g]at*;refine⟨a,by rw[d],?_,by simp⟩;rw[d,Dy g,fo]
 ·rw[if_neg g]at*;have e:(dU L t v q).2=0:=by omega
  unfold qX at f b⊢;by_cases h:(aX (dU L t v q).1).length<=8*S.sz
  ·rw[if_pos h]at*;have j:ab (A++(p,(dU L t v q).1)::B)=(dU (ab (A++(p,L)::B)) t v q).1:=by rw[d,fo]
   refine⟨⟨a.lo,a.hi,by rw[j];exact pU a.up _ _ _,a.ne.set (Qm e),λc i=>?_,λc i=>?_⟩,by rw[d];exact e.symm,j,by simp⟩
   ·rcases dF.1 i with rfl|k
    ·exact b
    ·exact a.cW c (dF.2 (.inr k))
   ·rcases dF.1 i with rfl|k
    ·exact h
    ·exact a.fit c (dF.2 (.inr k))
  ·rw[if_neg h]at f;exact absurd rfl f
theorem Nr{sz:Nat}{L:Smp}{t v q:Int}(e:128<=sz)(d:0<=t/\t<1099511627776)(a:(ft sz L t v q).2=2):(ft sz L t v q).1=L/\2<=L.length:=by
 rw[tI d]at a⊢;by_cases b:(dU L t v q).2≠0
 ·rw[if_pos b]at a;exact absurd a (Ni _ _ _ _)
 ·rw[if_neg b]at a⊢;unfold qX at a⊢;by_cases c:(aX (dU L t v q).1).length<=8*sz
  ·rw[if_pos c]at a;exact absurd a (by simp)
  ·rw[if_neg c];refine⟨rfl,?_⟩;rcases q3j L.length 2 with h|h
   ·have:=pQ (L:=(dU L t v q).1) (by have:=(xq L t v q).1;omega);omega
   ·exact h
theorem Up.last{L:Smp}(h:Up L){x:Int×Int}(a:x∈L):x.1<=su L:=by
 obtain⟨i,b,rfl⟩:=q2z a;unfold su;by_cases q:i=L.length-1
 ·subst q;rw[eM (by omega)];exact q2q _
 ·have:=h.lt (i:=i) (j:=L.length-1) (by omega) (by omega);rw[eM b]at this;omega
theorem xr{S:Sr}{A:Ck5}{p o:Nat×Nat}{L:Smp}{t v q:Int}(d:Gd S (A++ [(p,L)]))(m:∀x∈ab A,x.1<t)(u:su L<t)(h:0<=t/\t<1099511627776)(n:aQ v):
 (ft S.sz [] t v q)=([(t,v)],0)/\FG S (A++ [(p,L)]) (A++ [(p,L)]++ [(o,[(t,v)])]) t v q 0:=by
 have i:dU [] t v q=([(t,v)],0):=rfl
 have j:(aX [(t,v)]).length<=8*S.sz:=by have:=pQ (L:=[(t,v)]) (by simp);have:=d.lo;omega
 have r:cG L:=d.cW (p,L) (by simp)
 have f:∀x∈ab (A++ [(p,L)]),x.1<t:=λx e=>by
  rw[jt]at e;rcases q1e.1 e with k|k
  ·exact m x k
  ·have k:x∈L:=by simpa[ab,cnt]using k
   have:=Up.last r.1 k;omega
 have g:=Dz (A:=ab (A++ [(p,L)])) (M:=[]) (B:=[]) v q f (λx e=>by cases e);rw[i]at g;have s:ab (A++ [(p,L)])++([]++ [])=ab (A++ [(p,L)]):=by simp
 rw[s]at g;have l:ab (A++ [(p,L)]++ [(o,[(t,v)])])=(dU (ab (A++ [(p,L)])) t v q).1:=by rw[g,jt];simp[ab,cnt]
 refine⟨by rw[tI h,i,if_neg (by simp)];unfold qX;rw[if_pos j],⟨d.lo,d.hi,by rw[l];exact pU d.up _ _ _,?_,λc b=>?_,λc b=>?_⟩,by rw[g],l,by simp⟩
 ·intro c b;cases A with
  |nil=>
   have b:c∈ [(o,[(t,v)])]:=b;simp only[Z4,Z5,or_false]at b;subst b;simp
  |cons a A=>
   have b:c∈A++ [(p,L)]++ [(o,[(t,v)])]:=b;rcases q1e.1 b with k|k
   ·exact d.ne c k
   ·simp only[Z4,Z5,or_false]at k;subst k;simp
 ·rcases q1e.1 b with k|k
  ·exact d.cW c k
  ·simp only[Z4,Z5,or_false]at k;subst k;exact⟨List.pairwise_singleton _ _,λx e=>by simp only[Z4,Z5,or_false]at e;subst e;exact⟨h,n⟩,by simp⟩
 ·rcases q1e.1 b with k|k
  ·exact d.fit c k
  ·simp only[Z4,Z5,or_false]at k;subst k;exact j
theorem Ns{S:Sr}{A B:Ck5}{p q:Nat×Nat}{L:Smp}(d:Gd S (A++(p,L)::B))(g:2<=L.length):Gd S (A++(p,L.take (b8 L))::(q,L.drop (b8 L))::B)/\ab (A++(p,L.take (b8 L))::(q,L.drop (b8 L))::B)=ab (A++(p,L)::B):=by
 obtain⟨o,r⟩:=A7 g;obtain⟨m,n⟩:=Nl d.lo g (d.fit (p,L) (by simp));have h:cG L:=d.cW (p,L) (by simp)
 have i:L.take (b8 L)≠[]:=λe=>by
  have:(L.take (b8 L)).length=0:=by rw[e];rfl
  rw[q0d]at this;omega
 have j:L.drop (b8 L)≠[]:=λe=>by
  have:(L.drop (b8 L)).length=0:=by rw[e];rfl
  rw[q0m]at this;omega
 have l:ab (A++(p,L.take (b8 L))::(q,L.drop (b8 L))::B)=ab (A++(p,L)::B):=by
  rw[fo,fo,bQ,<-q0o (L.take (b8 L)),q1i]
 have mm:∀c,c∈A++(p,L.take (b8 L))::(q,L.drop (b8 L))::B->c=(p,L.take (b8 L))∨c=(q,L.drop (b8 L))∨c∈A++B:=λc b=>by
  rcases dF.1 b with k|k
  ·exact .inl k
  ·exact .inr (dF.1 k)
 refine⟨⟨d.lo,d.hi,by rw[l];exact d.up,?_,λc b=>?_,λc b=>?_⟩,l⟩
 ·have f:NeT (A++(p,L.take (b8 L))::B):=d.ne.set i;intro c b;cases A with
  |nil=>
   have b:c∈(q,L.drop (b8 L))::B:=b;rcases Z4.1 b with rfl|k
   ·exact j
   ·exact f c k
  |cons a A=>
   have b:c∈A++(p,L.take (b8 L))::(q,L.drop (b8 L))::B:=b;have f:∀c∈A++(p,L.take (b8 L))::B,c.2≠[]:=f;rcases dF.1 b with rfl|k
   ·exact i
   ·rcases dF.1 k with rfl|k
    ·exact j
    ·exact f c (dF.2 (.inr k))
 ·rcases mm c b with rfl|rfl|k
  ·exact h.sub (q4m _ _)
  ·exact h.sub (List.drop_sublist _ _)
  ·exact d.cW c (dF.2 (.inr k))
 ·rcases mm c b with rfl|rfl|k
  ·exact m
  ·exact n
  ·exact d.fit c (dF.2 (.inr k))
def DJ (le:List (Nat×AV)) (S:Sr) (V:Ps) (C:Ck5) (a:List AV):AE×AH×Nat:=(mkE le,mkH [(0,.cells (df S 3 V.length) true),(3,.cells (aY V) true),(2,dM S C),(4,.cells a true)],5)
def uG(j1 a:Nat):Nat->Nat:=λb=>if b=3 then j1 else if b=4 then a else b
theorem xt {p:Nat} {σ:AE} {H:AH} {n:Nat} {S:Sr} {V:Ps} {C:Ck5} {d:List AV} (j1 a:Nat) {le:List (Nat×AV)} {i j k o r s:AV} {l t:List AV} (L:p<=3) (w:∀x∈le,ah H 5 (uG j1 a) (aj (pa x.1) σ) x.2) (M:j1≠0/\j1≠2/\j1≠a) (z:a≠0/\a≠2)
 (A:PM.get H 0=some (.cells [i,j,k,o,r,s] true)) (B:mk i= .si .i64 (S.sz:Int)) (D:mk j= .si .i64 S.ret) (E:mk k= .si .i64 S.pol) (F:mk o= .si .i64 S.mx) (G:mk r= .si .i64 S.fl) (I:ah H 5 (uG j1 a) s (.rw 3 0 V.length 1 0))
 (J:PM.get H j1=some (.cells l true)) (f:l.map mk=aY V) (K:PM.get H 2=some (dM S C)) (u:PM.get H a=some (.cells t true)) (g:t.map mk=d.map mk) (h:d.all flat.flat1=true):Cov p σ H n (DJ le S V C d):=by
 refine Cov.ofR (m:=5) (p:=p) (uG j1 a) (by omega) (λb u=>by unfold uG;rw[if_neg (by omega),if_neg (by omega)]) w ?_ ?_
 ·intro x c;simp only[Z4,Z5,or_false]at c;rcases c with rfl|rfl|rfl|rfl
  ·exact⟨Z0 rfl,.inl ⟨_,A,ao.df B D E F G I⟩⟩
  ·exact⟨Z0 rfl,.inl ⟨_,J,ao.aY f⟩⟩
  ·exact⟨Z0 rfl,.inl ⟨_,K,ao.sep _⟩⟩
  ·exact⟨Z0 rfl,.inl ⟨_,u,ao.bA h g (λq=>q)⟩⟩
 ·intro x c y v e;simp only[Z4,Z5,or_false]at c v;rcases c with rfl|rfl|rfl|rfl<;>rcases v with rfl|rfl|rfl|rfl
  ·rfl
  ·exact absurd (show 0=j1 from e) (by omega)
  ·exact absurd (show 0=2 from e) (by omega)
  ·exact absurd (show 0=a from e) (by omega)
  ·exact absurd (show j1=0 from e) (by omega)
  ·rfl
  ·exact absurd (show j1=2 from e) (by omega)
  ·exact absurd (show j1=a from e) (by omega)
  ·exact absurd (show 2=0 from e) (by omega)
  ·exact absurd (show 2=j1 from e) (by omega)
  ·rfl
  ·exact absurd (show 2=a from e) (by omega)
  ·exact absurd (show a=0 from e) (by omega)
  ·exact absurd (show a=j1 from e) (by omega)
  ·exact absurd (show a=2 from e) (by omega)
  ·rfl
theorem kH(A B:Ck5):pts (A++B)=pts A++pts B:=q0r
theorem Qn{C:Ck5}{i:Nat}(h:i<C.length)(M:Smp):pts C=pts (C.take i++(C[i].1,M)::C.drop (i+1)):=by
 have e:=fm h
 calc pts C=pts (C.take i++(C[i].1,C[i].2)::C.drop (i+1)):=by rw[e]
  _=_:=by rw[kH,kH];rfl
theorem HA{C:Ck5}{i:Nat}(h:i<C.length)(o:Nat×Nat)(M N:Smp):(pts C).take (i+1)++o::(pts C).drop (i+1)=pts (C.take i++(C[i].1,M)::(o,N)::C.drop (i+1)):=by
 have a:(pts C).take (i+1)=pts (C.take (i+1)):=by simp[pts,q4i]
 have b:(pts C).drop (i+1)=pts (C.drop (i+1)):=by simp[pts,List.map_drop]
 rw[a,b,q4n,Y0 h,kH,kH];simp[pts]
def PtP(a:Sr)(b:Ck5)(t v q:Int):AV->Sr->Ps->Ck5->Prop:=λu S V C=>∃e:Int,u= .si .i64 e/\S=a/\V=pts C/\FG a b C t v q e
def V7:FuncId->EP:=aq 63 Bf (aq 184 Bg (aq 182 Bh (aq 183 A9 (aq 60 (rf λL=>L.length-1) (aq 185 pT evP)))))
theorem Qo:aV V7:=ag (ag (ag (ag (ag (ag az DI) Hu) TH) TO) DH) TL
def KPt:FuncId->EP:=bg 130 [(1000004,[])] V7
theorem TQ:aV KPt:=au Qo (by kernel_rfl) (by kernel_rfl)
theorem Nt(S:Sr)(C:Ck5)(t v q:Int)(P:Gd S C)(hf:(ab C).length<=80000)(N:0<=t/\t<1099511627776)(E:aQ v):fG (ax KPt 5 130) [.ptr 0 0,.agg [.si .i64 t,.si .i64 v],.si .i64 q] (mkH (bM (iq S (pts C) C) 0)) 3 (SP (PtP S C t v q)):=by
 have u:=P.lo;have j:=P.hi;show ax KPt 5 _ _ _ _ _
 conv=>whnf
 refine yU.mk {a:Ck5//a≠[]/\ab a=ab C/\Gd S a} 5 (λa=>((DJ [(0,.ptr 0 0),(2,.si .i64 q),(4,.ptr 4 0)] S (pts a.val) a.val [.si .i64 t,.si .i64 v]).1,(DJ [(0,.ptr 0 0),(2,.si .i64 q),(4,.ptr 4 0)] S (pts a.val) a.val [.si .i64 t,.si .i64 v]).2.1)) ?_ ?_
 focus
  conv=>whnf
  refine ae.dec (λh=>?_) (λh=>?_)
  focus
   have Q:C=[]:=by
    have h:((pts C).length:Int)=0:=h;rw[an]at h;exact q0c (by omega)
   subst Q
   conv=>whnf
   refine⟨2,S.sz,[],λo=> [(o,[])],rfl,u,j,⟨by decide,by decide,rfl,rfl⟩,λo=>⟨fh.refl _ _,?_⟩⟩
   conv=>whnf
   refine bI.grow 1 8 1 0 [aK o] (aY []) _ true DG (.old rfl) rfl rfl (.rw rfl rfl) (by omega) ?_
   conv=>whnf
   exact⟨⟨[(o,[])],by simp,rfl,⟨u,j,List.Pairwise.nil,λc A=>(by cases A),λc A=>(by
    simp only[Z4,Z5,or_false]at A;subst A;exact cG.nil),λc A=>(by
    simp only[Z4,Z5,or_false]at A;subst A;exact Y5 _)⟩⟩,xt 6 3 (le:=[(0,.ptr 0 0),(2,.si .i64 q),(4,.ptr 4 0)]) (Z3 3) (λx i=>by
   simp only[Z4,Z5,or_false]at i;rcases i with rfl|rfl|rfl
   ·exact ah.ptr (Z0 rfl) rfl
   ·exact ah.int rfl
   ·exact ah.ptr (Z0 rfl) rfl) ⟨by decide,by decide,by decide⟩ ⟨by decide,by decide⟩ rfl rfl rfl rfl rfl rfl (ah.rw (Z0 rfl) rfl) rfl rfl rfl rfl rfl rfl⟩
  have Q:C≠[]:=λe=>h (by
   show((pts C).length:Int)=0;rw[e];rfl)
  conv=>whnf
  exact⟨⟨C,Q,rfl,P⟩,xt 1 3 (le:=[(0,.ptr 0 0),(2,.si .i64 q),(4,.ptr 4 0)]) (Z3 3) (λx i=>by
   simp only[Z4,Z5,or_false]at i;rcases i with rfl|rfl|rfl
   ·exact ah.ptr (Z0 rfl) rfl
   ·exact ah.int rfl
   ·exact ah.ptr (Z0 rfl) rfl) ⟨by decide,by decide,by decide⟩ ⟨by decide,by decide⟩ rfl rfl rfl rfl rfl rfl (ah.rw (Z0 rfl) rfl) rfl (aA _) rfl rfl rfl rfl⟩
 intro⟨X,G,H,I⟩
 conv=>whnf
 refine aR.mk {a:Ck5//a≠[]/\ab a=ab C/\Gd S a} 5 (λa=>((DJ [(0,.ptr 0 0),(2,.si .i64 q),(4,.ptr 4 0)] S (pts a.val) a.val [.si .i64 t,.si .i64 v]).1,(DJ [(0,.ptr 0 0),(2,.si .i64 q),(4,.ptr 4 0)] S (pts a.val) a.val [.si .i64 t,.si .i64 v]).2.1)) (λa=>(ab C).length+2-a.val.length) ⟨X,G,H,I⟩ ?_ ?_
 focus
  exact xt 3 4 (le:=[(0,.ptr 0 0),(2,.si .i64 q),(4,.ptr 4 0)]) (Z3 3) (λx i=>by
   simp only[Z4,Z5,or_false]at i;rcases i with rfl|rfl|rfl
   ·exact ah.ptr (Z0 rfl) rfl
   ·exact ah.int rfl
   ·exact ah.ptr (Z0 rfl) rfl) ⟨by decide,by decide,by decide⟩ ⟨by decide,by decide⟩ rfl rfl rfl rfl rfl rfl (ah.rw (Z0 rfl) rfl) rfl (aA _) rfl rfl rfl rfl
 clear G H I X;intro⟨a,J,g,m⟩;have hlen:=FF m.ne;rw[g]at hlen;have F:=m.okc (by rw[g];omega);obtain⟨h,Y⟩:∃h,dZ (cnt a) t=h:=⟨_,rfl⟩
 have b:h<a.length:=by
  have:=xm (D:=cnt a) t (λe=>J (List.map_eq_nil_iff.1 e));rw[c8]at this;omega
 obtain⟨O,Z⟩:=ri (t:=t) J m.ne m.up;rw[Y]at O Z;have B:Gd S (a.take h++(a[h].1,a[h].2)::a.drop (h+1)):=by rw[fm b];exact m
 obtain⟨f,w⟩:∃f:Nat×Nat->Ck5,f=λo=>a.take h++(a[h].1,a[h].2.take (b8 a[h].2))::(o,a[h].2.drop (b8 a[h].2))::a.drop (h+1):=⟨_,rfl⟩
 have gs:2<=a[h].2.length->∀o,Gd S (f o)/\ab (f o)=ab C:=λk o=>by
  have:=Ns (q:=o) B k;rw[fm b,g]at this;rw[w];exact this
 have gp:∀o,(pts a).take (h+1)++o::(pts a).drop (h+1)=pts (f o):=λo=>by rw[w];exact HA b o _ _
 have gl:∀o,(f o).length=a.length+1:=λo=>by rw[w];simp only[Z6,Z9,q0d,q0m];omega
 have gn:∀o,f o≠[]:=λo e=>by have:=gl o;rw[e]at this;simp at this
 have gc:∀o,fh S.sz (a.take h++(a[h].1,a[h].2.take (b8 a[h].2))::(o,a[h].2.drop (b8 a[h].2))::a.drop (h+1)) (f o):=λo=>by rw[w];exact fh.refl _ _
 have gb:h+1=a.length->su a[h].2<t->ft S.sz [] t v q=([(t,v)],0)/\∀o,FG S C (a++ [(o,[(t,v)])]) t v q 0/\(pts a).take (h+1)++o::(pts a).drop (h+1)=pts (a++ [(o,[(t,v)])]):=λk1 k2=>by
  have hd:a.drop (h+1)=[]:=q3m (by omega)
  have R:a.take h++ [(a[h].1,a[h].2)]=a:=by
   have:=fm b;rw[hd]at this;exact this
  have n:=B;rw[hd]at n;refine⟨(xr (o:=(0,0)) (q:=q) n O k2 N E).1,λo=>⟨?_,?_⟩⟩
  ·have p:=(xr (o:=o) (q:=q) n O k2 N E).2;rw[R]at p;exact⟨p.gd,g▸p.err,g▸p.fl,p.ne⟩
  ·rw[q1v (by rw[an];omega),q3m (by rw[an];omega),kH];rfl
 have T:(ft S.sz a[h].2 t v q).2=2->(ft S.sz a[h].2 t v q).1=a[h].2/\2<=a[h].2.length:=λk=>Nr u N k
 have gh:(ft S.sz a[h].2 t v q).2≠2->FG S C (a.take h++(a[h].1,(ft S.sz a[h].2 t v q).1)::a.drop (h+1)) t v q (ft S.sz a[h].2 t v q).2:=λk=>by
  have K:=Nq (q:=q) B O Z N E k;rw[fm b]at K;exact⟨K.gd,g▸K.err,g▸K.fl,K.ne⟩
 obtain⟨r,U⟩:∃r,ft S.sz a[h].2 t v q=r:=⟨_,rfl⟩;rw[U]at T gh;have gq:r.2=2->fh S.sz (a.take h++(a[h].1,r.1)::a.drop (h+1)) a:=λk=>by rw[(T k).1];exact js b
 have V:IntKind.i64.wrap ((h:Int)+1)=((h+1:Nat):Int):=by rw[ai (by omega) (by omega)];omega
 have L:IntKind.i64.wrap (((pts a).length:Int)-1)=((a.length-1:Nat):Int):=by rw[an,ai (by omega) (by omega)];omega
 conv=>whnf
 refine⟨0,3,2,S,a,t,h,rfl,rfl,⟨⟨by decide,by decide,by decide⟩,⟨by decide,by decide,by decide⟩,rfl,rfl,rfl⟩,F,Y,?_⟩
 conv=>whnf
 refine Idx.mk h rfl (by rw[an];exact b) ?_
 conv=>whnf
 refine aw (dy b (show 0+h*1=h by omega)) ?_
 conv=>whnf
 by_cases d:r.2=2
 focus
  have l:=(T d).2;refine⟨2,S.sz,a.take h,a.drop (h+1),a,a[h].1,a[h].2,t,v,q,r,rfl,⟨_,_,rfl,rfl,rfl⟩,rfl,jF b rfl (by decide) (by decide) rfl,by omega,j,F.cW _ (q0g b),E,U,gq d,?_⟩
  conv=>whnf
  refine ae.dk (λz=>absurd d z) (λ_=>?_)
  conv=>whnf
  refine⟨2,S.sz,a.take h,a.drop (h+1),a,a[h].1,a[h].2,rfl,jF b rfl (by decide) (by decide) rfl,by omega,F.cW _ (q0g b),js b,?_⟩
  conv=>whnf
  by_cases s:h+1=a.length
  focus
   refine ae.dec (λ_=>?_) (λz=>absurd (show(h:Int)=IntKind.i64.wrap (((pts a).length:Int)-1) by rw[L];omega) z)
   conv=>whnf
   refine ae.dec (λy=>?_) (λ_=>?_)
   focus
    have W:=(gb s y).1;have M:=(gb s y).2
    conv=>whnf
    refine⟨2,S.sz,a,λo=>a++ [(o,[])],rfl,u,j,⟨by decide,by decide,rfl,rfl⟩,λo=>⟨fh.refl _ _,?_⟩⟩
    conv=>whnf
    refine⟨0,5,2,h+1,S,pts a,pts (a++ [(o,[(t,v)])]),a++ [(o,[])],o,rfl,congrArg (AV.si .i64) V,rfl,⟨⟨by decide,by decide,by decide⟩,⟨by decide,by decide,by decide⟩,rfl,rfl,rfl⟩,by rw[an];omega,by rw[an];omega,(M o).2,?_⟩
    conv=>whnf
    refine⟨2,S.sz,a,[],a++ [(o,[(t,v)])],o,[],t,v,q,([(t,v)],0),rfl,⟨_,_,rfl,rfl,rfl⟩,rfl,⟨by decide,by decide,rfl,rfl⟩,by omega,j,cG.nil,E,W,fh.refl _ _,?_⟩
    conv=>whnf
    exact fQ (PtP S C t v q) ⟨0,rfl,rfl,rfl,(M o).1⟩ (VTo.mk5 rfl) VR.eR 10 ⟨by decide,by decide⟩ rfl rfl rfl rfl rfl rfl (ah.rw (Z0 rfl) rfl) rfl (aA _) rfl
   conv=>whnf
   refine⟨2,S.sz,a.take h,a.drop (h+1),a[h].1,a[h].2,f,rfl,jF b rfl (by decide) (by decide) rfl,rfl,by decide,by omega,F.cW _ (q0g b),l,λo=>⟨gc o,?_⟩⟩
   conv=>whnf
   refine⟨0,5,2,h+1,S,pts a,pts (f o),f o,o,rfl,congrArg (AV.si .i64) V,rfl,⟨⟨by decide,by decide,by decide⟩,⟨by decide,by decide,by decide⟩,rfl,rfl,rfl⟩,by rw[an];omega,by rw[an];omega,gp o,?_⟩
   conv=>whnf
   exact⟨⟨f o,gn o,(gs l o).2,(gs l o).1⟩,by show(ab C).length+2-(f o).length<(ab C).length+2-a.length;rw[gl o];omega,xt 11 4 (le:=[(0,.ptr 0 0),(2,.si .i64 q),(4,.ptr 4 0)]) (Z3 3) (λx i=>by
    simp only[Z4,Z5,or_false]at i;rcases i with rfl|rfl|rfl
    ·exact ah.ptr (Z0 rfl) rfl
    ·exact ah.int rfl
    ·exact ah.ptr (Z0 rfl) rfl) ⟨by decide,by decide,by decide⟩ ⟨by decide,by decide⟩ rfl rfl rfl rfl rfl rfl (ah.rw (Z0 rfl) rfl) rfl (aA _) rfl rfl rfl rfl⟩
  refine ae.dec (λz=>absurd z (show¬(h:Int)=IntKind.i64.wrap (((pts a).length:Int)-1) by rw[L];omega)) (λ_=>?_)
  conv=>whnf
  refine⟨2,S.sz,a.take h,a.drop (h+1),a[h].1,a[h].2,f,rfl,jF b rfl (by decide) (by decide) rfl,rfl,by decide,by omega,F.cW _ (q0g b),l,λo=>⟨gc o,?_⟩⟩
  conv=>whnf
  refine⟨0,5,2,h+1,S,pts a,pts (f o),f o,o,rfl,congrArg (AV.si .i64) V,rfl,⟨⟨by decide,by decide,by decide⟩,⟨by decide,by decide,by decide⟩,rfl,rfl,rfl⟩,by rw[an];omega,by rw[an];omega,gp o,?_⟩
  conv=>whnf
  exact⟨⟨f o,gn o,(gs l o).2,(gs l o).1⟩,by show(ab C).length+2-(f o).length<(ab C).length+2-a.length;rw[gl o];omega,xt 11 4 (le:=[(0,.ptr 0 0),(2,.si .i64 q),(4,.ptr 4 0)]) (Z3 3) (λx i=>by
   simp only[Z4,Z5,or_false]at i;rcases i with rfl|rfl|rfl
   ·exact ah.ptr (Z0 rfl) rfl
   ·exact ah.int rfl
   ·exact ah.ptr (Z0 rfl) rfl) ⟨by decide,by decide,by decide⟩ ⟨by decide,by decide⟩ rfl rfl rfl rfl rfl rfl (ah.rw (Z0 rfl) rfl) rfl (aA _) rfl rfl rfl rfl⟩
 refine⟨2,S.sz,a.take h,a.drop (h+1),a.take h++(a[h].1,r.1)::a.drop (h+1),a[h].1,a[h].2,t,v,q,r,rfl,⟨_,_,rfl,rfl,rfl⟩,rfl,jF b rfl (by decide) (by decide) rfl,by omega,j,F.cW _ (q0g b),E,U,fh.refl _ _,?_⟩
 conv=>whnf
 refine ae.dk (λ_=>?_) (λz=>absurd z d)
 conv=>whnf
 exact fQ (PtP S C t v q) ⟨_,rfl,rfl,Qn b _,gh d⟩ (VTo.mk5 rfl) VR.eR 5 ⟨by decide,by decide⟩ rfl rfl rfl rfl rfl rfl (ah.rw (Z0 rfl) rfl) rfl (aA _) rfl
structure Pre5(S:Sr)(C:Ck5):Prop where
 lo:128<=S.sz
 hi:S.sz<=4096
 up:Up (ab C)
 cW:∀c∈C,cG c.2
 fit:∀c∈C,(aX c.2).length<=8*S.sz
theorem Gd.pre{S:Sr}{C:Ck5}(h:Gd S C):Pre5 S C:=⟨h.lo,h.hi,h.up,h.cW,h.fit⟩
theorem Pre5.okc{S:Sr}{C:Ck5}(h:Pre5 S C)(a:C.length<=100000):Okc S C:=⟨h.lo,h.hi,h.cW,a⟩
structure Gt(S:Sr)(C:Ck5):Prop extends Pre5 S C where
 all:∀c∈C,c.2≠[]
theorem Gt.gd{S:Sr}{C:Ck5}(h:Gt S C):Gd S C:=⟨h.lo,h.hi,h.up,λc a=>h.all c (List.mem_of_mem_tail a),h.cW,h.fit⟩
theorem Gt.few{S:Sr}{C:Ck5}(h:Gt S C):C.length<=(ab C).length:=xp h.all
def usd(L:Smp):Nat:=(pack (aX L)).length
def Sm5(sz:Nat)(L:Smp):Prop:=IntKind.i64.wrap (4*(usd L:Int))<(sz:Int)
theorem sH(L:Smp):usd L=((aX L).length+7)/8:=bq _
theorem Sm5.nat{sz:Nat}{L:Smp}(a:cG L)(h:Sm5 sz L):4*usd L<sz:=by
 unfold Sm5 at h;have b:=pP L L.length;have c:=a.2.2;have d:(aX L).length<=136*L.length:=b;have e:=sH L;rw[ai (by omega) (by omega)]at h;omega
def Wh(sz n:Nat)(C:Ck5):Prop:=∀j,(h:j+1<C.length)->j+1<n->¬(Sm5 sz C[j].2/\Sm5 sz C[j+1].2)
theorem Qp{A:Ck5}{p q:Nat×Nat}{L M:Smp}{B:Ck5}(c:Up (ab (A++(p,L)::(q,M)::B))):qA L M=false:=by
 rw[fo,bQ,Up.app]at c;have d:=c.2.1;rw[Up.app]at d;obtain⟨j,k,f⟩:=d;unfold qA;by_cases a:L=[]
 ·simp[a]
 by_cases b:M=[]
 ·simp[b]
 ·obtain⟨y,g,h⟩:=Hz b;have i:(L[L.length-1]'(by have:=q3l.2 a;omega))∈L:=q0g _;have:=f _ i y (q2c _ g);have e:su L=(L[L.length-1]'(by have:=q3l.2 a;omega)).1:=eM _;simp[a,b];omega
theorem Qq{S:Sr}{A B:Ck5}{p q:Nat×Nat}{L M:Smp}(a:Gt S (A++(p,L)::(q,M)::B))(l:Sm5 S.sz L)(m:Sm5 S.sz M):
 bR S.sz L M=((L++M,[]),0)/\Gt S (A++(p,L++M)::B)/\ab (A++(p,L++M)::B)=ab (A++(p,L)::(q,M)::B):=by
 have f:cG L:=a.cW (p,L) (by simp);have g:cG M:=a.cW (q,M) (by simp);have o:=l.nat f;have r:=m.nat g;have s:=sH L;have t:=sH M;have u:=(DC L M).1;have n:=a.lo;have h:(aX (L++M)).length<=8*S.sz:=by omega
 have d:=Qp a.up
 have e:bR S.sz L M=((L++M,[]),0):=by
  unfold bR;rw[d];simp[h]
 have i:=(JN a.hi f g (size:=S.sz)).1;rw[e]at i;have j:ab (A++(p,L++M)::B)=ab (A++(p,L)::(q,M)::B):=by rw[fo,fo,bQ,q0o]
 have mm:∀c,c∈A++B->c∈A++(p,L)::(q,M)::B:=λc b=>dF.2 (.inr (dF.2 (.inr b)))
 refine⟨e,⟨⟨a.lo,a.hi,by rw[j];exact a.up,λc b=>?_,λc b=>?_⟩,λc b=>?_⟩,j⟩
 ·rcases dF.1 b with rfl|k
  ·exact i
  ·exact a.cW c (mm c k)
 ·rcases dF.1 b with rfl|k
  ·exact h
  ·exact a.fit c (mm c k)
 ·rcases dF.1 b with rfl|k
  ·have:=a.all (p,L) (by simp);exact λe=>this (List.append_eq_nil_iff.1 e).1
  ·exact a.all c (mm c k)
def neC(C:Ck5):Ck5:=C.filter λc=>!c.2.isEmpty
theorem xu:∀C:Ck5,ab (neC C)=ab C
 | []=>rfl
 |c::C=>by
  have a:=xu C;unfold neC at*;rw[List.filter_cons];split
  ·rw[bQ,bQ,a]
  ·rename_i h;have:c.2=[]:=by simpa using h
   rw[bQ,this,a];rfl
theorem TS{S:Sr}{C:Ck5}(h:Pre5 S C):Gt S (neC C):=by
 have sub:∀c,c∈neC C->c∈C/\c.2≠[]:=λc a=>by
  obtain⟨b,d⟩:=q1c.1 a;exact⟨b,by simpa using d⟩
 exact⟨⟨h.lo,h.hi,by rw[xu];exact h.up,λc a=>h.cW c (sub c a).1,λc a=>h.fit c (sub c a).1⟩,λc a=>(sub c a).2⟩
theorem DK{C:Ck5}{i:Nat}(h:i<C.length):neC (C.take (i+1))=neC (C.take i)++(if C[i].2=[]then []else [C[i]]):=by
 unfold neC;rw[q4n,Y0 h,Option.toList_some,q2i];congr 1;by_cases q:C[i].2=[]
 ·simp[q]
 ·simp[q]
theorem HB(C:Ck5):(neC C).length<=C.length:=q0y _ _
theorem Qr{sz n:Nat}{C:Ck5}{c:(Nat×Nat)×Smp}{B:Ck5}(h:Wh sz n C)(hn:n<C.length):Wh sz (max 1 (n-1)) (C.take (n-1)++c::B):=λj a b=>by
 have f:j+1<n-1:=by omega
 have d:(C.take (n-1)++c::B)[j]'(by omega)=C[j]'(by omega):=by
  rw[q3t (by rw[q0d];omega),List.getElem_take]
 have e:(C.take (n-1)++c::B)[j+1]'a=C[j+1]'(by omega):=by
  rw[q3t (by rw[q0d];omega),List.getElem_take]
 rw[d,e];exact h j (by omega) (by omega)
theorem Qs{sz n:Nat}{C:Ck5}(h:Wh sz n C)(a:1<=n)(hn:n<C.length)(b:¬(Sm5 sz (C[n-1]'(by omega)).2/\Sm5 sz C[n].2)):Wh sz (n+1) C:=λj c d=>by
 by_cases q:j+1=n
 ·subst q;exact b
 ·exact h j c (by omega)
theorem J3{C:Ck5}{n:Nat}(c:1<=n)(hn:n<C.length):C.take (n-1)++((C[n-1]'(by omega)).1,(C[n-1]'(by omega)).2)::(C[n].1,C[n].2)::C.drop (n+1)=C:=by
 have a:=fm (C:=C) (i:=n-1) (by omega)
 have b:C.drop (n-1+1)=C[n]::C.drop (n+1):=by
  rw[show n-1+1=n by omega];exact q0k hn
 rw[b]at a;exact a
end Go.Proofs.YtflehenfikoniaaGreat
end
