/- Texts of our own, joined: the engine, the machine that runs code, and what is known of the functions. -/
import Derived.Test.YtflehenfikoniaaGreatRows
import Derived.WalkKit
import Derived.Deep.Quiet
import Derived.ProofKit
import Derived.Laws.StructEq
import Derived.LaidEql
import Derived.Laws.BytesArg
import Derived.Maps.RangeRun
import Derived.RangeFuncSeq
import Derived.Scope
import Derived.Laws.Strings
import Derived.Laws.Strings2
import Derived.Below
import Derived.Carry
import Derived.OpenShut
import Derived.ChangeMaps5
import Derived.Deep.Slices
import Derived.Deep.SlicePairs
import Derived.SizedLaws
import Derived.Test.YtflehenfikoniaaGreatJb
import Derived.Laws.BitsAllLaws
set_option linter.unusedSimpArgs false
set_option linter.unusedVariables false
set_option maxHeartbeats 16000000
set_option maxRecDepth 100000
noncomputable section
namespace Go.Proofs.YtflehenfikoniaaGreat
open Go Go.RowKit
mutual
def ren(r:Nat->Nat):AV->AV
 | .int k n=> .int k n
 | .str s=> .str s
 | .bool b=> .bool b
 | .nil=> .nil
 | .ptr b o=> .ptr (r b) o
 | .nsl=> .nsl
 | .sl b o n c k=> .sl (r b) o n c k
 | .esl b=> .esl (r b)
 | .agg l=> .agg (dw r l)
 | .tup l=> .tup (dw r l)
 | .fn f a c=> .fn f (dw r a) (dw r c)
 | .map b=> .map (r b)
 | .any v=> .any v
 | .bad=> .bad
 | .si k n=> .si k n
 | .sb b=> .sb b
 | .ss s=> .ss s
 | .sy b o n c k=> .sy (r b) o n c k
 | .rw b o n k x=> .rw (r b) o n k x
 | .fr n k l=> .fr n k l
 | .fa l o=> .fa l o
def dw(r:Nat->Nat):List AV->List AV
 | []=> []
 |a::l=>ren r a::dw r l
end
mutual
def ltV(m:Nat):AV->Bool
 | .int _ _=>true
 | .str _=>true
 | .bool _=>true
 | .nil=>true
 | .ptr b _=>Nat.blt b m
 | .nsl=>true
 | .sl b _ _ _ _=>Nat.blt b m
 | .esl b=>Nat.blt b m
 | .agg l=>jO m l
 | .tup l=>jO m l
 | .fn _ a c=>jO m a&&jO m c
 | .map b=>Nat.blt b m
 | .any _=>true
 | .bad=>true
 | .si _ _=>true
 | .sb _=>true
 | .ss _=>true
 | .sy b _ _ _ _=>Nat.blt b m
 | .rw b _ _ _ _=>Nat.blt b m
 | .fr _ _ _=>true
 | .fa _ _=>true
def jO(m:Nat):List AV->Bool
 | []=>true
 |a::l=>ltV m a&&jO m l
end
def Ph.pull(χ:Ph)(r:Nat->Nat):Ph:=⟨λb=>χ (r b),χ.z,χ.y,λb=>χ.s (r b)⟩
section
variable {χ ψ:Ph} {r:Nat->Nat} {m:Nat}
mutual
theorem VR.pull:∀(a:AV) (v:Value),VR χ (ren r a) v<->VR (χ.pull r) a v
 | .int k n,v=>by simp only[ren,VR]
 | .str s,v=>by simp only[ren,VR]
 | .bool b,v=>by simp only[ren,VR]
 | .nil,v=>by simp only[ren,VR]
 | .ptr b o,v=>by simp only[ren,VR,Ph.pull]
 | .nsl,v=>by simp only[ren,VR]
 | .sl b o n c k,v=>by simp only[ren,VR,Ph.pull]
 | .esl b,v=>by simp only[ren,VR,Ph.pull]
 | .agg l,v=>by simp only[ren,VR,VRs.pull l]
 | .tup l,v=>by simp only[ren,VR,VRs.pull l]
 | .fn f a c,v=>by simp only[ren,VR,VRs.pull a,VRs.pull c]
 | .map b,v=>by simp only[ren,VR,Ph.pull]
 | .any u,v=>by simp only[ren,VR]
 | .bad,v=>by simp only[ren,VR]
 | .si k n,v=>by simp only[ren,VR]
 | .sb b,v=>by simp only[ren,VR]
 | .ss s,v=>by simp only[ren,VR]
 | .sy b o n c k,v=>by simp only[ren,VR,Ph.pull]
 | .rw b o n k x,v=>by simp only[ren,VR,Ph.pull]
 | .fr n k l,v=>by simp only[ren,VR,Ph.pull]
 | .fa l o,v=>by simp only[ren,VR,Ph.pull]
theorem VRs.pull:∀(l:List AV) (d:List Value),VRs χ (dw r l) d<->VRs (χ.pull r) l d
 | [],d=>by simp only[dw,VRs]
 |a::l,d=>by simp only[dw,VRs,VR.pull a,VRs.pull l]
end
mutual
theorem VR.below(j:∀b p,b<m->ψ b=some p->χ b=some p)(t:∀q,ψ.z q->χ.z q):∀(a:AV) (v:Value),ltV m a=true->VR ψ a v->VR χ a v
 | .int k n,v,_,h=>by simp only[VR]at h⊢;exact h
 | .str s,v,_,h=>by simp only[VR]at h⊢;exact h
 | .bool b,v,_,h=>by simp only[VR]at h⊢;exact h
 | .nil,v,_,h=>by simp only[VR]at h⊢;exact h
 | .ptr b o,v,d,h=>by
  simp only[ltV,q2q]at d;simp only[VR]at h⊢;obtain⟨p,e,i⟩:=h;exact⟨p,j _ _ d e,i⟩
 | .nsl,v,_,h=>by simp only[VR]at h⊢;exact h
 | .sl b o n c k,v,d,h=>by
  simp only[ltV,q2q]at d;simp only[VR]at h⊢;obtain⟨p,C,e,i⟩:=h;exact⟨p,C,j _ _ d e,i⟩
 | .esl b,v,d,h=>by
  simp only[ltV,q2q]at d;simp only[VR]at h⊢;obtain⟨p,x,C,e,i⟩:=h;exact⟨p,x,C,j _ _ d e,i⟩
 | .agg l,v,d,h=>by
  simp only[ltV]at d;simp only[VR]at h⊢;obtain⟨cs,e,i⟩:=h;exact⟨cs,e,VRs.below j t l _ d i⟩
 | .tup l,v,d,h=>by
  simp only[ltV]at d;simp only[VR]at h⊢;obtain⟨cs,e,i⟩:=h;exact⟨cs,e,VRs.below j t l _ d i⟩
 | .fn f a c,v,d,h=>by
  simp only[ltV,Z7]at d;simp only[VR]at h⊢;obtain⟨xs,cs,e,i,y⟩:=h;exact⟨xs,cs,e,VRs.below j t a _ d.1 i,VRs.below j t c _ d.2 y⟩
 | .map b,v,d,h=>by
  simp only[ltV,q2q]at d;simp only[VR]at h⊢;obtain⟨p,e,i⟩:=h;exact⟨p,j _ _ d e,i⟩
 | .any u,v,_,h=>by simp only[VR]at h⊢;exact h
 | .bad,v,_,h=>by simp only[VR]
 | .si k n,v,_,h=>by simp only[VR]at h⊢;exact h
 | .sb b,v,_,h=>by simp only[VR]at h⊢;exact h
 | .ss s,v,_,h=>by simp only[VR]at h⊢;exact h
 | .sy b o n c k,v,d,h=>by
  simp only[ltV,q2q]at d;simp only[VR]at h⊢;obtain⟨p,C,e,i⟩:=h;exact⟨p,C,j _ _ d e,i⟩
 | .rw b o n k x,v,d,h=>by
  simp only[ltV,q2q]at d;simp only[VR]at h⊢;rcases h with h|⟨p,a,C,e,i⟩
  ·exact .inl h
  ·exact .inr ⟨p,a,C,j _ _ d e,i⟩
 | .fr n k l,v,_,h=>by
  simp only[VR]at h⊢;rcases h with h|⟨q,o,C,e,i⟩
  ·exact .inl h
  ·exact .inr ⟨q,o,C,t _ e,i⟩
 | .fa l o,v,_,h=>by
  simp only[VR]at h⊢;obtain⟨q,x,e,i⟩:=h;exact⟨q,x,t _ e,i⟩
theorem VRs.below(j:∀b p,b<m->ψ b=some p->χ b=some p)(t:∀q,ψ.z q->χ.z q):∀(l:List AV) (w:List Value),jO m l=true->VRs ψ l w->VRs χ l w
 | [],w,_,h=>by simp only[VRs]at h⊢;exact h
 |a::l,w,d,h=>by
  simp only[jO,Z7]at d;simp only[VRs]at h⊢;obtain⟨v,us,e,i,y⟩:=h;exact⟨v,us,e,VR.below j t a v d.1 i,VRs.below j t l us d.2 y⟩
end
end
def sq(r:Nat->Nat):List (AV×AV)->List (AV×AV)
 | []=> []
 |e::es=>(ren r e.1,ren r e.2)::sq r es
def bT(r:Nat->Nat):AO->AO
 | .cells l z=> .cells (dw r l) z
 | .map es=> .map (sq r es)
 | .mp es bs cl=> .mp (sq r es) bs cl
 | .ro l=> .ro (dw r l)
 | .iter b m seen=> .iter (r b) m seen
 | .sep Q=> .sep Q
def ltE(m:Nat):List (AV×AV)->Bool
 | []=>true
 |e::es=>ltV m e.1&&(ltV m e.2&&ltE m es)
def ltO(m:Nat):AO->Bool
 | .cells l _=>jO m l
 | .map es=>ltE m es
 | .mp es _ _=>ltE m es
 | .ro l=>jO m l
 | .iter b _ _=>Nat.blt b m
 | .sep _=>true
section
variable {χ ψ:Ph} {r:Nat->Nat} {m:Nat}
theorem oW:∀l:List AV,(dw r l).length=l.length
 | []=>rfl
 |a::l=>by simp[dw,oW l]
theorem A6:∀(l:List AV) (i:Nat),(dw r l)[i]?=(l[i]?).map (ren r)
 | [],i=>by simp[dw]
 |a::l,0=>by simp[dw]
 |a::l,i+1=>by simp[dw,A6 l i]
theorem ME:∀{l:List AV},jO m l=true->∀{i:Nat} {a:AV},l[i]?=some a->ltV m a=true
 | [],_,i,a,h=>by simp at h
 |b::l,c,i,a,h=>by
  simp only[jO,Z7]at c;cases i with
  |zero=>simp only[q1t,q1z]at h;subst h;exact c.1
  |succ i=>exact ME c.2 (by simpa using h)
theorem CR.pull{c:Array Value}{s:Nat}{l:List AV}:CR χ c s (dw r l)<->CR (χ.pull r) c s l:=by
 constructor
 ·intro h i a e;obtain⟨v,b,d⟩:=h i (ren r a) (by rw[A6,e];rfl);exact⟨v,b,(VR.pull _ _).1 d⟩
 ·intro h i a e;rw[A6,Z8]at e;obtain⟨f,j,rfl⟩:=e;obtain⟨v,b,d⟩:=h i f j;exact⟨v,b,(VR.pull _ _).2 d⟩
theorem CR.below(d:∀b p,b<m->ψ b=some p->χ b=some p)(f:∀q,ψ.z q->χ.z q){c:Array Value}{s:Nat}{l:List AV}(j:jO m l=true)(h:CR ψ c s l):CR χ c s l:=λi a e=>by
 obtain⟨v,k,o⟩:=h i a e;exact⟨v,k,VR.below d f a v (ME j e) o⟩
theorem MR.pull:∀{es:List (AV×AV)} {ms:List MapEntry},MR χ (sq r es) ms<->MR (χ.pull r) es ms
 | [],ms=>Iff.rfl
 |e::es,ms=>by
  show(∃m us,_/\_/\_/\MR χ (sq r es) us)<->∃m us,_/\_/\_/\MR (χ.pull r) es us;simp only[MR.pull (es:=es),VR.pull]
theorem MR.below(c:∀b p,b<m->ψ b=some p->χ b=some p)(d:∀q,ψ.z q->χ.z q):∀{es:List (AV×AV)} {ms:List MapEntry},ltE m es=true->MR ψ es ms->MR χ es ms
 | [],ms,_,h=>h
 |e::es,ms,a,⟨x,us,f,i,j,k⟩=>by
  simp only[ltE,Z7]at a;exact⟨x,us,f,VR.below c d _ _ a.1 i,VR.below c d _ _ a.2.1 j,MR.below c d a.2.2 k⟩
theorem OR.pull{p:Pl}{o:AO}{ob:Obj}:OR χ p (bT r o) ob<->OR (χ.pull r) p o ob:=by
 cases o with
 |cells l z=>simp only[bT,OR,oW,CR.pull]
 |map es=>simp only[bT,OR,MR.pull]
 |mp es bs cl=>simp only[bT,OR,MR.pull]
 |iter b k seen=>exact Iff.rfl
 |ro l=>simp only[bT,OR,oW,CR.pull]
 |sep Q=>exact Iff.rfl
theorem OR.below(i:∀b p,b<m->ψ b=some p->χ b=some p)(j:∀q,ψ.z q->χ.z q){p:Pl}{o:AO}{ob:Obj}(f:ltO m o=true)(h:OR ψ p o ob):OR χ p o ob:=by
 cases o with
 |cells l z=>obtain⟨c,t,fz,a,d,e,s,u,v⟩:=h;exact⟨c,t,fz,a,d,e,s,u,v.below i j f⟩
 |map es=>obtain⟨ms,cl,a,d,e⟩:=h;exact⟨ms,cl,a,MR.below i j f d,e⟩
 |mp es bs cl=>obtain⟨ms,a,d,e⟩:=h;exact⟨ms,a,MR.below i j f d,e⟩
 |iter b k seen=>
  obtain⟨h0,q,a,d⟩:=h;simp only[ltO,q2q]at f;exact⟨h0,q,i _ _ f a,d⟩
 |ro l=>obtain⟨c,t,fz,a,d,e,s⟩:=h;exact⟨c,t,fz,a,d,e,s.below i j f⟩
 |sep Q=>exact h.elim
theorem iY(o:AO):(bT r o).own=o.own:=by cases o<;>rfl
theorem kP(o:AO):(bT r o).free=o.free:=by
 cases o with
 |cells l z=>cases l<;>rfl
 |map es=>rfl
 |mp _ _ _=>rfl
 |iter b k seen=>rfl
 |ro l=>cases l<;>rfl
 |sep Q=>rfl
theorem mL{o:AO}{Q:HP}(h:bT r o= .sep Q):o= .sep Q:=by cases o<;>first|exact h|cases h
theorem nK(o:AO)(ob:Obj):(bT r o).under ob=o.under ob:=by cases o<;>rfl
end
def bz(S:List Nat)(n b:Nat):Nat:=match S[b]? with
 |some s=>s
 |none=>n+(b-S.length)
def bF(O:List AO):Nat->List (Nat×AO)
 |k=>match O with
  | []=> []
  |o::O=>(k,o)::bF O (k+1)
theorem sr:∀{O:List AO} {k b:Nat} {o:AO},(b,o)∈bF O k->∃i,b=k+i/\O[i]?=some o
 | [],k,b,o,h=>by cases h
 |x::O,k,b,o,h=>by
  rcases Z3.1 (show(b,o)∈(k,x)::bF O (k+1) from h)with h|h
  ·injection h with c a;subst c a;exact⟨0,rfl,rfl⟩
  ·obtain⟨i,c,a⟩:=sr h;exact⟨i+1,by omega,a⟩
theorem mM:∀{S:List Nat},S.Nodup->∀{i j a:Nat},S[i]?=some a->S[j]?=some a->i=j
 | [],_,i,j,a,h,_=>by simp at h
 |x::S,hn,i,j,a,h,k=>by
  obtain⟨b,c⟩:=q2u.1 hn;cases i with
  |zero=>
   cases j with
   |zero=>rfl
   |succ j=>
    simp only[q1t,q1z,q1g]at h k;subst h;exact absurd (q0l k) b
  |succ i=>
   cases j with
   |zero=>
    simp only[q1t,q1z,q1g]at h k;subst k;exact absurd (q0l h) b
   |succ j=>
    simp only[q1g]at h k;rw[mM c h k]
section
variable {φ ψ:Ph} {H H' H2:AH} {n n' m:Nat} {h0 hp g:Hp} {S:List Nat} {O:List AO}
def iZ(H:AH)(n:Nat)(S:List Nat)(O:List AO):Prop:=S.Nodup/\S.length=O.length/\∀(i:Nat) s o,S[i]?=some s->O[i]?=some o->s<n/\H.get s=some (bT (bz S n) o)/\(o.void=false∨o.own=true)
theorem cK{i s:Nat}(h:S[i]?=some s):bz S n i=s:=by unfold bz;rw[h]
theorem gK{b:Nat}(h:S.length<=b):bz S n b=n+(b-S.length):=by unfold bz;rw[q2g h]
def Dh(φ:Ph)(S:List Nat)(O:List AO)(B:Nat):Prop:=(∃(i:Nat) (s:Nat) (o:AO) (p:Pl),S[i]?=some s/\O[i]?=some o/\o.own=true/\φ s=some p/\p.B=B)∨∃(i:Nat) (s:Nat) (Q:HP),S[i]?=some s/\O[i]?=some (.sep Q)/\φ.s s B
open Classical in
def mN (φ:Ph) (S:List Nat) (O:List AO) (hp:Hp):Hp:=⟨λB=>if Dh φ S O B then none else hp.f B,hp.n⟩
theorem JW{B:Nat}{o:Obj}(h:(mN φ S O hp).f B=some o):hp.f B=some o/\¬Dh φ S O B:=by
 unfold mN at h;dsimp only at h;split at h
 ·cases h
 ·rename_i q;exact⟨h,q⟩
theorem l5{B:Nat}(h:¬Dh φ S O B):(mN φ S O hp).f B=hp.f B:=by
 unfold mN;dsimp only;rw[if_neg h]
theorem JX{B:Nat}(h:(mN φ S O hp).f B=none):Dh φ S O B∨hp.f B=none:=by
 unfold mN at h;dsimp only at h;split at h
 ·rename_i q;exact .inl q
 ·exact .inr h
theorem iZ.at(b:iZ H n S O){i s:Nat}(c:S[i]?=some s):∃o,O[i]?=some o/\s<n/\H.get s=some (bT (bz S n) o)/\(o.void=false∨o.own=true):=by
 have a:i<O.length:=by rw[<-b.2.1];exact(Y6.1 c).1
 exact⟨O[i],Y0 a,b.2.2 i s O[i] c (Y0 a)⟩
theorem Dh.base(d:HR φ H n h0 hp)(e:iZ H n S O){B:Nat}(h:Dh φ S O B):h0.f B=none:=by
 rcases h with⟨i,s,o,p,a,b,c,k,rfl⟩|⟨i,s,Q,a,b,c⟩
 ·obtain⟨_,l,_⟩:=e.2.2 i s o a b;obtain⟨q,j,_⟩:=d.of l k;rw[nK,AO.bH c]at j;exact j
 ·exact((d.sep s Q (e.2.2 i s _ a b).2.1).2 B c).1.2
theorem HR.small(t:HR φ H n h0 hp)(j:iZ H n S O)(T:Wf hp):HR ⟨λb=>φ (bz S n b),φ.z,φ.z,λb=>φ.s (bz S n b)⟩ (mkH (bF O 0)) S.length (mN φ S O hp) hp:=by
 have D:∀b p,φ (bz S n b)=some p->∃s,S[b]?=some s/\φ s=some p:=λb p e=>by
  cases M:S[b]? with
  |some s=>rw[cK M]at e;exact⟨s,rfl,e⟩
  |none=>
   have U:=q2c.1 M;rw[gK U]at e;have:=(t.dom _ _ e).1;omega
 have get:∀{b o},(mkH (bF O 0)).get b=some o->O[b]?=some o:=λ{b o} e=>by
  obtain⟨i,c,a⟩:=sr (ck e);rw[show b=i by omega];exact a
 have f:∀{b o},O[b]?=some o->∃s,S[b]?=some s:=λ{b o} e=>by
  have:=(Y6.1 e).1;rw[<-j.2.1]at this;exact⟨S[b],Y0 this⟩
 refine⟨λb p e=>?_,λb o e=>?_,λb u o E p y e V ho F d k C=>?_,λb o e=>?_,Z6 _,λq G=>⟨⟨FzR.mono (φ:=φ) (ψ:=⟨λb=>φ (bz S n b),φ.z,φ.z,λb=>φ.s (bz S n b)⟩) (λ_ h=>h) (t.frz q G).1.1,.inl G⟩,λb o p e ho d=>?_⟩,λb Q e=>?_⟩;rotate_left 5
 ·have c:=get e;obtain⟨s,a⟩:=f c;obtain⟨W,X⟩:=t.sep s Q (j.2.2 b s _ a c).2.1;have es:(⟨λb=>φ (bz S n b),φ.z,φ.z,λb=>φ.s (bz S n b)⟩:Ph).s b=φ.s s:=by show φ.s (bz S n b)=_;rw[cK a]
  rw[es];refine⟨W,λB C=>?_⟩;obtain⟨Y,Z,g3,g4⟩:=X B C;refine⟨⟨Y.1,?_⟩,λu E y I J l=>?_,g3,λu Q' I J l=>?_⟩
  ·unfold mN;dsimp only;rw[if_pos (.inr ⟨b,s,Q,a,c,C⟩)]
  ·have f1:=get I;obtain⟨v,x⟩:=f f1;have l:φ (bz S n u)=some y:=l;rw[cK x]at l;exact Z v _ y (j.2.2 u v E x f1).2.1 (by rw[iY];exact J) l
  ·have f1:=get I;obtain⟨v,x⟩:=f f1;have l:φ.s (bz S n u) B:=l;rw[cK x]at l;exact g4 v Q' (j.2.2 u v _ x f1).2.1 (λq=>J (by subst q;exact mM j.1 x a)) l
 ·obtain⟨s,c,a⟩:=D b p e;exact⟨(Y6.1 c).1,(t.dom s p a).2⟩
 ·have c:=get e;obtain⟨s,a⟩:=f c;obtain⟨_,h4,h5⟩:=j.2.2 b s o a c;rcases t.live s _ h4 with⟨K,N⟩|⟨p,ob,P,L,R,h9⟩
  ·exact .inl ⟨by show φ (bz S n b)=_;rw[cK a];exact K,by rw[kP]at N;exact N⟩
  ·refine .inr ⟨p,ob,by show φ (bz S n b)=_;rw[cK a];exact P,?_,R,?_⟩
   ·rw[nK]at L;by_cases ho:o.own=true
    ·rw[AO.bH ho];unfold mN;dsimp only;rw[if_pos (.inl ⟨b,s,o,p,a,c,ho,P,rfl⟩)]
    ·rw[l5 (λhg=>?_),R]
     ·cases o<;>first|(exact absurd rfl ho;done)|rfl
     ·have:=hg.base t j;rw[this]at L;cases o<;>first|(exact absurd rfl ho;done)|cases L
   ·have:=(OR.pull (χ:=φ) (r:=bz S n)).1 h9;exact OR.c8 (φ:=φ.pull (bz S n)) (ψ:=⟨λb=>φ (bz S n b),φ.z,φ.z,λb=>φ.s (bz S n b)⟩) ⟨λ_ _ h=>h,λ_ h=>h⟩ this
 ·have c:=get e;have A:=get V;obtain⟨s,a⟩:=f c;obtain⟨v,w⟩:=f A;have d:φ (bz S n b)=some p:=d;have k:φ (bz S n u)=some y:=k;rw[cK a]at d;rw[cK w]at k;have:=t.inj s v _ _ p y (j.2.2 b s o a c).2.1 (j.2.2 u v E w A).2.1 (by rw[iY];exact ho) (by rw[iY];exact F) d k C;subst this;exact mM j.1 a w
 ·obtain⟨c,_⟩:=JW e;exact⟨T _ _ c,c⟩
 ·have c:=get e;obtain⟨s,a⟩:=f c;have d:φ (bz S n b)=some p:=d;rw[cK a]at d;exact(t.frz q G).2 s _ p (j.2.2 b s o a c).2.1 (by rw[iY];exact ho) d
def fB(S:List Nat)(n m:Nat)(H H' H2:AH):Prop:=∀b o,H2.get b=some o->(∃c a,c<m/\b=bz S n c/\H'.get c=some a/\a.own=true/\ltO m a=true/\o=bT (bz S n) a)∨((b<n∨n+(m-S.length)<=b)/\H.get b=some o/\(b∈S->o.own=false))
open Classical in
def phA (φ ψ:Ph) (S:List Nat) (n m:Nat):Ph:=⟨λb=>if h:∃c,c<m/\bz S n c=b then ψ h.choose else if b<n then φ b else none,λq=>φ.z q∨ψ.z q,φ.y,λb=>if h:∃c,c<m/\bz S n c=b then ψ.s h.choose else φ.s b⟩
theorem Di(b:iZ H n S O){c d:Nat}(h:bz S n c=bz S n d):c=d:=by
 have lt:∀{i s},S[i]?=some s->s<n:=λ{i s} f=>by
  obtain⟨_,_,h,_⟩:=b.at f;exact h
 cases a:S[c]? with
 |some s=>
  cases hd:S[d]? with
  |some t=>
   rw[cK a,cK hd]at h;subst h;exact mM b.1 a hd
  |none=>
   rw[cK a,gK (q2c.1 hd)]at h;have:=lt a;omega
 |none=>
  have e:=q2c.1 a;cases hd:S[d]? with
  |some t=>
   rw[cK hd,gK e]at h;have:=lt hd;omega
  |none=>
   have j:=q2c.1 hd;rw[gK e,gK j]at h;omega
theorem jr(a:iZ H n S O){c:Nat}(b:c<m):phA φ ψ S n m (bz S n c)=ψ c:=by
 have h:∃d,d<m/\bz S n d=bz S n c:=⟨c,b,rfl⟩;show(if h:∃d,d<m/\bz S n d=bz S n c then ψ h.choose else _)=_;rw[dif_pos h,Di a h.choose_spec.2]
theorem A7(a:iZ H n S O){c:Nat}(b:c<m):(phA φ ψ S n m).s (bz S n c)=ψ.s c:=by
 have h:∃d,d<m/\bz S n d=bz S n c:=⟨c,b,rfl⟩;show(if h:∃d,d<m/\bz S n d=bz S n c then ψ.s h.choose else _)=_;rw[dif_pos h,Di a h.choose_spec.2]
theorem tX(f:iZ H n S O){b:Nat}(a:b<n∨n+(m-S.length)<=b)(c:b∉S):(phA φ ψ S n m).s b=φ.s b:=by
 have h:¬∃d,d<m/\bz S n d=b:=λ⟨d,i,e⟩=>by
  cases hd:S[d]? with
  |some s=>rw[cK hd]at e;subst e;exact c (q0l hd)
  |none=>
   have:=q2c.1 hd;rw[gK this]at e;rcases a with a|a<;>omega
 show(if h:∃d,d<m/\bz S n d=b then ψ.s h.choose else φ.s b)=_;rw[dif_neg h]
theorem Hq{b:Nat}(a:b<n)(c:b∉S):phA φ ψ S n m b=φ b:=by
 have h:¬∃d,d<m/\bz S n d=b:=λ⟨d,_,e⟩=>by
  cases hd:S[d]? with
  |some s=>rw[cK hd]at e;subst e;exact c (q0l hd)
  |none=>rw[gK (q2c.1 hd)]at e;omega
 show(if h:∃d,d<m/\bz S n d=b then ψ h.choose else _)=_;rw[dif_neg h,if_pos a]
theorem Dj(f:HR φ H n h0 hp)(i:iZ H n S O){b:Nat}(a:b<n∨n+(m-S.length)<=b)(c:b∉S):phA φ ψ S n m b=φ b:=by
 rcases a with a|a
 ·exact Hq a c
 ·have h:¬∃d,d<m/\bz S n d=b:=λ⟨d,j,e⟩=>by
   cases hd:S[d]? with
   |some s=>rw[cK hd]at e;subst e;exact c (q0l hd)
   |none=>
    have:=q2c.1 hd;rw[gK this]at e;omega
  show(if h:∃d,d<m/\bz S n d=b then ψ h.choose else if b<n then φ b else none)=_;rw[dif_neg h,if_neg (by omega)];cases e:φ b with
  |none=>rfl
  |some p=>have:=(f.dom b p e).1;omega
theorem MF(j:HR φ H n h0 hp)(k:iZ H n S O)(o:S.length<=m)(d:PLe ⟨λb=>φ (bz S n b),φ.z,φ.z,λb=>φ.s (bz S n b)⟩ ψ):PLe φ (phA φ ψ S n m):=by
 refine⟨λb p e=>?_,λ_ h=> .inl h,λ_ h=>h⟩;have hb:=(j.dom b p e).1;by_cases f:b∈S
 ·obtain⟨i,l,rfl⟩:=q1s.1 f;have a:S[i]?=some S[i]:=Y0 l;have:=jr (φ:=φ) (ψ:=ψ) (m:=m) k (c:=i) (by omega);rw[cK a]at this;rw[this];exact d.b i p (by show φ (bz S n i)=_;rw[cK a];exact e)
 ·rw[Hq hb f];exact e
theorem HR.after(J:HR φ H n h0 hp)(t:iZ H n S O)(hm:S.length<=m)(Z:PLe ⟨λb=>φ (bz S n b),φ.z,φ.z,λb=>φ.s (bz S n b)⟩ ψ)(L:HR ψ H' n' (mN φ S O hp) g)(ha:fB S n m H H' H2):HR (phA φ ψ S n m) H2 (n+(m-S.length)) h0 g:=by
 have hple:=MF (m:=m) J t hm Z
 have pull:∀b p,b<m->ψ b=some p->(phA φ ψ S n m).pull (bz S n) b=some p:=λb p M e=>by
  show phA φ ψ S n m (bz S n b)=_;rw[jr t M];exact e
 have hn0:∀B,(mN φ S O hp).f B=none->h0.f B=none:=λB e=>by
  rcases JX e with h|h
  ·exact h.base J t
  ·cases q:h0.f B with
   |none=>rfl
   |some o=>have:=(J.base B o q).2;rw[h]at this;cases this
 have old:∀{b o p},(b<n∨n+(m-S.length)<=b)->H.get b=some o->(b∈S->o.own=false)->φ b=some p->∃F,h0.f p.B=o.under F/\hp.f p.B=some F/\¬Dh φ S O p.B/\OR φ p o F:=λ{b o p} M e hS a=>by
  obtain⟨F,j,A,h3⟩:=J.of e a;refine⟨F,j,A,λhgn=>?_,h3⟩;by_cases ho:o.own=true
  ·rcases hgn with⟨i,s,T,X,v,w,G,g4,g5⟩|⟨i,s,Q,v,w,G⟩
   ·have:=J.inj s b _ o X p (t.2.2 i s T v w).2.1 e (by rw[iY];exact G) ho g4 a g5;subst this;have:=hS (q0l v);rw[this]at ho;cases ho
   ·exact((J.sep s Q (t.2.2 i s _ v w).2.1).2 _ G).2.1 b o p e ho a rfl
  ·have:=hgn.base J t;rw[this]at j;cases o<;>first|(exact absurd rfl ho;done)|cases j
 have C:∀{b o},(b<n∨n+(m-S.length)<=b)->H.get b=some o->(b∈S->o.own=false)->∀p,phA φ ψ S n m b=some p->o.own=true∨φ b≠none->φ b=some p:=λ{b o} M e hS p a u=>by
  by_cases V:b∈S
  ·have hf:=hS V;rcases u with u|u
   ·rw[hf]at u;cases u
   ·cases hφ:φ b with
    |none=>exact absurd hφ u
    |some q=>
     have:=hple.b b q hφ;rw[a]at this;rw[this]
  ·rw[Dj J t M V]at a;exact a
 have oldS:∀{b Q B},H.get b=some (.sep Q)->b∉S->φ.s b B->∃F,hp.f B=some F/\(mN φ S O hp).f B=some F:=λ{b Q B} e hS U=>by
  obtain⟨P,D⟩:=J.sep b Q e;obtain⟨F,j⟩:=Q.ex _ _ _ B P U;obtain⟨_,w,_,g4⟩:=D B U;refine⟨F,j,?_⟩;rw[l5 (λhgn=>?_)]
  ·exact j
  ·rcases hgn with⟨i,s,T,X,I,N,f3,f4,f5⟩|⟨i,s,Q',I,N,f3⟩
   ·exact w s _ X (t.2.2 i s T I N).2.1 (by rw[iY];exact f3) f4 f5
   ·exact g4 s Q' (t.2.2 i s _ I N).2.1 (λq=>hS (by rw[<-q];exact q0l I)) f3
 have sepS:∀{b:Nat} {Q:HP},(b∈S->(AO.sep Q).own=false)->b∉S:=λh q=>by cases h q
 refine⟨λb p e=>?_,λb o e=>?_,λb b' o T p X e e' ho ho' a hp2 U=>?_,λb o e=>?_,Y7 J.size L.size,λq u=>?_,λb Q e=>?_⟩;rotate_left 5
 ·rcases ha b _ e with⟨c,T,W,rfl,j,A,h3,K⟩|⟨M,j,A⟩
  ·have K:=mL K.symm;subst K;obtain⟨P,D⟩:=L.sep c Q j;rw[A7 t W];refine⟨Q.mono _ _ _ _ (λq u=>Or.inr u) P,λB U=>?_⟩;obtain⟨v,w,G,g4⟩:=D B U;refine⟨⟨v.1,hn0 B v.2⟩,λb' T X e1 e2 R=>?_,λq u=>?_,λb' Q' e1 e2 R=>?_⟩
   ·rcases ha b' T e1 with⟨d,x,hd,rfl,I,N,f3,rfl⟩|⟨E,I,N⟩
    ·rw[jr t hd]at R;exact w d x X I N R
    ·intro q;obtain⟨F,j1,j2,j3,_⟩:=old E I N (C E I N X R (.inl e2));rw[<-q,l5 j3,j2]at v;cases v.2
   ·rcases u with u|u
    ·exact G q (Z.z q u)
    ·exact G q u
   ·rcases ha b' _ e1 with⟨d,x,hd,rfl,I,N,f3,f4⟩|⟨E,I,N⟩
    ·have f4:=mL f4.symm;subst f4;rw[A7 t hd]at R;exact g4 d Q' I (λq=>e2 (by rw[q])) R
    ·have hS':=sepS N;rw[tX t E hS']at R;obtain⟨F,_,j2⟩:=oldS I hS' R;rw[j2]at v;cases v.2
  ·have hS:=sepS A;obtain⟨P,D⟩:=J.sep b Q j;rw[tX t M hS]
   have keepB:∀B,φ.s b B->g.f B=hp.f B:=λB U=>by
    obtain⟨F,j1,j2⟩:=oldS j hS U;rw[j1];exact(L.base _ _ j2).2
   refine⟨Q.mono _ _ _ _ (λq u=>Or.inl u) (Q.loc _ _ hp _ (show hp.n<=g.n from L.size) keepB P),λB U=>?_⟩;obtain⟨v,w,G,g4⟩:=D B U;obtain⟨F,j1,j2⟩:=oldS j hS U;have hsz:hp.n<=g.n:=L.size;refine⟨⟨q0y v.1 hsz,v.2⟩,λb' T X e1 e2 R=>?_,λq u=>?_,λb' Q' e1 e2 R=>?_⟩
   ·rcases ha b' T e1 with⟨d,x,hd,rfl,I,N,f3,rfl⟩|⟨E,I,N⟩
    ·rw[jr t hd]at R;intro q;obtain⟨ob',f4,_⟩:=L.of I R;rw[AO.bH N,q,j2]at f4;cases f4
    ·exact w b' T X I e2 (C E I N X R (.inl e2))
   ·rcases u with u|u
    ·exact G q u
    ·intro q2;rcases(L.frz q u).1.2 with k|k
     ·exact G q (Z.y q k) q2
     ·rw[q2,j2]at k;cases k
   ·rcases ha b' _ e1 with⟨d,x,hd,rfl,I,N,f3,f4⟩|⟨E,I,N⟩
    ·have f4:=mL f4.symm;subst f4;rw[A7 t hd]at R;have:=((L.sep d Q' I).2 B R).1.2;rw[j2]at this;cases this
    ·rw[tX t E (sepS N)]at R;exact g4 b' Q' I e2 R
 ·have e:(if h:∃c,c<m/\bz S n c=b then ψ h.choose else if b<n then φ b else none)=some p:=e;split at e
  ·rename_i h;obtain⟨j,A⟩:=h.choose_spec;refine⟨?_,(L.dom _ _ e).2⟩;generalize h.choose=c at j A;cases W:S[c]? with
   |some s=>rw[cK W]at A;obtain⟨_,_,h3,_⟩:=t.at W;omega
   |none=>
    have:=q2c.1 W;rw[gK this]at A;omega
  ·split at e
   ·have:=J.dom b p e;have hsz:hp.n<=g.n:=L.size;omega
   ·cases e
 ·rcases ha b o e with⟨c,T,W,rfl,j,A,h3,rfl⟩|⟨M,j,A⟩
  ·rcases L.live c T j with⟨K,h5⟩|⟨p,F,K,h5,h6,h7⟩
   ·exact .inl ⟨by rw[jr t W];exact K,by rw[kP];exact h5⟩
   ·refine .inr ⟨p,F,by rw[jr t W];exact K,?_,h6,?_⟩
    ·rw[nK,AO.bH A];rw[AO.bH A]at h5;exact hn0 _ h5
    ·exact(OR.pull (χ:=phA φ ψ S n m)).2 (h7.below (m:=m) pull (λ_ h=> .inr h) h3)
  ·rcases J.live b o j with⟨h3,K⟩|⟨p,F,h3,_⟩
   ·by_cases V:b∈S
    ·obtain⟨i,hi,rfl⟩:=q1s.1 V;obtain⟨T,v,_,w,G⟩:=t.at (Y0 hi);rw[j]at w;injection w with w;rcases G with G|G
     ·have q:=A V;rw[w]at K q;rw[kP]at K;rw[iY]at q;cases T with
      |sep Q=>cases q
      |cells l z=>rw[show(AO.cells l z).free=(AO.cells l z).void from rfl,G]at K;cases K
      |ro l=>rw[show(AO.ro l).free=(AO.ro l).void from rfl,G]at K;cases K
      |map es=>cases K
      |mp _ _ _=>cases K
      |iter _ _ _=>cases K
     ·have:=A V;rw[w,iY,G]at this;cases this
    ·exact .inl ⟨by rw[Dj J t M V];exact h3,K⟩
   ·obtain⟨F,K,h5,h6,h7⟩:=old M j A h3;exact .inr ⟨p,F,hple.b b p h3,K,(L.base _ _ (by rw[l5 h6];exact h5)).2,h7.mono hple⟩
 ·rcases ha b o e with⟨c,x,W,rfl,j,A,h3,rfl⟩|⟨M,j,A⟩<;>rcases ha b' T e' with⟨d,y,hd,rfl,P,D,k3,rfl⟩|⟨E,P,D⟩
  ·rw[jr t W]at a;rw[jr t hd]at hp2;rw[L.inj c d x y p X j P A D a hp2 U]
  ·exfalso;rw[jr t W]at a;have hp2':=C E P D X hp2 (.inl ho');obtain⟨F,v,w,G,_⟩:=old E P D hp2';obtain⟨ob',g4,_⟩:=L.of j a;rw[AO.bH A,U,l5 G,w]at g4;cases g4
  ·exfalso;rw[jr t hd]at hp2;have Y:=C M j A p a (.inl ho);obtain⟨F,v,w,G,_⟩:=old M j A Y;obtain⟨ob',g4,_⟩:=L.of P hp2;rw[AO.bH D,<-U,l5 G,w]at g4;cases g4
  ·exact J.inj b b' o T p X j P ho ho' (C M j A p a (.inl ho)) (C E P D X hp2 (.inl ho')) U
 ·obtain⟨_,j⟩:=J.base b o e;have A:¬Dh φ S O b:=λhgn=>by rw[hgn.base J t]at e;cases e
  exact L.base b o (by rw[l5 A];exact j)
 ·rcases u with u|u
  ·obtain⟨⟨j,A⟩,h3⟩:=J.frz q u;have hψ:ψ.z q:=Z.z q u;obtain⟨⟨P,D⟩,k3⟩:=L.frz q hψ;refine⟨⟨FzR.mono (φ:=ψ) (ψ:=phA φ ψ S n m) (λ_ h=>Or.inr h) P,A⟩,λb o p e ho a=>?_⟩;rcases ha b o e with⟨c,x,W,rfl,v,w,G,rfl⟩|⟨M,v,w⟩
   ·rw[jr t W]at a;exact k3 c x p v w a
   ·exact h3 b o p v ho (C M v w p a (.inl ho))
  ·obtain⟨⟨P,D⟩,k3⟩:=L.frz q u;refine⟨⟨FzR.mono (φ:=ψ) (ψ:=phA φ ψ S n m) (λ_ h=>Or.inr h) P,?_⟩,λb o p e ho a=>?_⟩
   ·rcases D with D|D
    ·exact(J.frz q (Z.y q D)).1.2
    ·exact .inr (hn0 _ D)
   ·rcases ha b o e with⟨c,x,W,rfl,v,w,G,rfl⟩|⟨M,v,w⟩
    ·rw[jr t W]at a;exact k3 c x p v w a
    ·have Y:=C M v w p a (.inl ho);obtain⟨F,j1,j2,j3,_⟩:=old M v w Y;rcases D with D|D
     ·exact(J.frz q (Z.y q D)).2 b o p v ho Y
     ·intro U;rw[<-U,l5 j3,j2]at D;cases D
end
def kg (S:List Nat) (n:Nat) (H:AH):List (Nat×Option AO)->AH
 | []=>H
 |x::l=>(kg S n H l).set (x.2.map (bT (bz S n))) aa (bz S n x.1)
theorem Dk{S:List Nat}{n:Nat}{H:AH}:∀{l:List (Nat×Option AO)} {b:Nat} {o:AO},(kg S n H l).get b=some o->(∃x∈l,∃o',b=bz S n x.1/\x.2=some o'/\o=bT (bz S n) o')∨(H.get b=some o/\∀x∈l,b≠bz S n x.1)
 | [],b,o,h=> .inr ⟨h,λx i=>by cases i⟩
 |x::l,b,o,h=>by
  rcases PM.ak aa _ _ b o (show((kg S n H l).set (x.2.map (bT (bz S n))) aa (bz S n x.1)).get b=some o from h)with⟨e,d⟩|⟨e,d⟩
  ·rw[Z8]at d;obtain⟨o',a,c⟩:=d;exact .inl ⟨x,q0b,o',e,a,c.symm⟩
  ·rcases Dk d with⟨y,a,c⟩|⟨a,c⟩
   ·exact .inl ⟨y,Y4 _ a,c⟩
   ·refine .inr ⟨a,λy f=>?_⟩;rcases Z3.1 f with rfl|f
    ·exact e
    ·exact c y f
theorem fB.put{S:List Nat}{n m:Nat}{H H':AH}{l:List (Nat×Option AO)}(A:S.length<=m)(j:l.map (·.1)=List.range m)(h:∀x∈l,∀o,x.2=some o->H'.get x.1=some o/\o.own=true/\ltO m o=true):fB S n m H H' (kg S n H l):=λb o e=>by
 rcases Dk e with⟨x,a,k,d,f,s⟩|⟨a,d⟩
 ·obtain⟨t,u,v⟩:=h x a k f;have:x.1∈List.range m:=j▸q0e.2 ⟨x,a,rfl⟩;exact .inl ⟨x.1,k,q2m.1 this,d,t,u,v,s⟩
 ·have key:∀c,c<m->b≠bz S n c:=λc w=>by
   have:c∈l.map (·.1):=j▸q2m.2 w;obtain⟨x,f,rfl⟩:=q0e.1 this;exact d x f
  refine .inr ⟨?_,a,λy=>?_⟩
  ·by_cases q:b<n
   ·exact .inl q
   ·refine .inr ?_;rcases q3b b (n+(m-S.length))with p|p
    ·exfalso;refine key (S.length+(b-n)) (by omega) ?_;rw[gK (by omega)];omega
    ·exact p
  ·obtain⟨i,z,rfl⟩:=q1s.1 y;exact absurd (cK (n:=n) (Y0 z)).symm (key i (by omega))
theorem fB.same{S:List Nat}{n:Nat}{H H':AH}(h:∀(i s:Nat) o,S[i]?=some s->H.get s=some o->o.own=true->∃o',H'.get i=some o'/\o'.own=true/\ltO S.length o'=true/\o=bT (bz S n) o'):fB S n S.length H H' H:=λb o e=>by
 by_cases c:b∈S
 ·obtain⟨i,a,rfl⟩:=q1s.1 c;by_cases ho:o.own=true
  ·obtain⟨o',d,f,j,k⟩:=h i S[i] o (Y0 a) e ho;exact .inl ⟨i,o',a,(cK (Y0 a)).symm,d,f,j,k⟩
  ·exact .inr ⟨by omega,e,λ_=>by simpa using ho⟩
 ·exact .inr ⟨by omega,e,λh=>absurd h c⟩
theorem dq {f:FuncId} {run:List AV->AH->Nat->PK->Prop} (c:ai f run) {φ:Ph} {H:AH} {n:Nat} {h0 hp:Hp} {S:List Nat} {O:List AO} {args0:List AV} {κ:PK} {K:KH} {d:Array Value} (k:bR Tryz.prog f=true)
 (l:HR φ H n h0 hp) (j:iZ H n S O) (a:VRs φ (dw (bz S n) args0) d.toList) (v:cD φ h0 κ K)
 {Q:PK} (h:run args0 (mkH (bF O 0)) S.length Q) (x:∀u H' n',Q u H' n'->∃m H2,S.length<=m/\fB S n m H H' H2/\ltV m u=true/\κ (ren (bz S n) u) H2 (n+(m-S.length))):dI Tryz.prog f d hp K:=by
 have key:Wf hp->dI Tryz.prog f d hp K:=λy=>c args0 _ _ _ h ⟨λb=>φ (bz S n b),φ.z,φ.z,λb=>φ.s (bz S n b)⟩ (mN φ S O hp) hp d K (l.small j y) (VRs.c8 (φ:=φ.pull (bz S n)) (ψ:=⟨λb=>φ (bz S n b),φ.z,φ.z,λb=>φ.s (bz S n b)⟩) ⟨λ_ _ h=>h,λ_ h=>h⟩ _ _ ((VRs.pull (χ:=φ) (r:=bz S n) args0 d.toList).1 a)) λψ u H' n' w g i A B C=>by
  obtain⟨m,H2,q,D,E,o⟩:=x u H' n' C
  exact v _ _ _ _ w g (MF l j q i) (l.after j q i A D) ((VR.pull (χ:=phA φ ψ S n m) u w).2 (VR.below (ψ:=ψ) (m:=m) (λb p F e=>by
   show phA φ ψ S n m (bz S n b)=_;rw[jr j F];exact e) (λ_ h=>Or.inr h) u w E B)) o
 exact⟨k,λw t=>(key t.wf).2 w t⟩
theorem HR.Sk{φ:Ph}{H:AH}{n:Nat}{h0 h:Hp}(c:HR φ H n h0 h){b:Nat}{o o':AO}(K:H.get b=some o)(d:o.own=true)(i:o'.own=true)(hv:o.free=true->o'.free=true)(ho:∀p ob,φ b=some p->h.f p.B=some ob->OR φ p o ob->OR φ p o' ob)(A:o'.Jw=none:=by rfl):HR φ (H.set (some o') aa b) n h0 h:=by
 have back:∀z r,(H.set (some o') aa b).get z=some r->r.own=true->∃u,H.get z=some u/\u.own=true:=λz r R C=>by
  rcases PM.ak aa H b z r R with⟨rfl,_⟩|⟨_,a⟩
  ·exact⟨o,K,d⟩
  ·exact⟨r,a,C⟩
 refine⟨c.dom,λx q t=>?_,λx y q T px D t E F j G k e=>?_,c.base,c.size,λq L=>⟨(c.frz q L).1,λy U D E j k=>?_⟩,c.dQ (Z6 _) (λx Q t=>?_) (λ_ h=>h) (λ_ h=> .inl h) (λ_ _ _ _ _=>rfl) λM V W X Y Z=>?_⟩;rotate_left 3
 ·rcases PM.ak aa H b x _ t with⟨_,a⟩|⟨_,a⟩
  ·injection a with a;subst a;cases A
  ·exact⟨a,rfl⟩
 ·obtain⟨r,N,a⟩:=back M V X Y;exact .inl ⟨M,r,W,N,a,Z,rfl⟩
 ·rcases PM.ak aa H b x q t with⟨rfl,a⟩|⟨N,a⟩
  ·injection a with a;subst a;rcases c.live x o K with⟨v,w⟩|⟨p,ob,v,w,P,h6⟩
   ·exact .inl ⟨v,hv w⟩
   ·exact .inr ⟨p,ob,v,by rw[AO.bH i];rw[AO.bH d]at w;exact w,P,ho p ob v P h6⟩
  ·exact c.live x q a
 ·obtain⟨r,l,s⟩:=back x q t F;obtain⟨u,I,J⟩:=back y T E j;exact c.inj x y r u px D l I s J G k e
 ·obtain⟨r,l,s⟩:=back y U E j;exact(c.frz q L).2 y r D l s k
theorem HR.MG{φ:Ph}{H:AH}{n:Nat}{h0 h:Hp}(j:HR φ H n h0 h){b:Nat}{l l':List AV}{z:Bool}(k:H.get b=some (.cells l z))(f:l'.length=l.length)(o:∀(i:Nat) (d:AV),l'[i]?=some d->∃a,l[i]?=some a/\∀v,VR φ a v->VR φ d v):HR φ (H.set (some (.cells l' z)) aa b) n h0 h:=
 j.Sk k rfl rfl (λq=>by cases l with
  |nil=>cases l' with
   |nil=>rfl
   |cons _ _=>simp at f
  |cons _ _=>cases q) λp F _ _ ⟨c,t,fz,s,u,w,x,y,A⟩=>⟨c,t,fz,s,by rw[f];exact u,w,x,y,λi d B=>by
   obtain⟨a,C,D⟩:=o i d B;obtain⟨v,E,e⟩:=A i a C;exact⟨v,E,D v e⟩⟩
end Go.Proofs.YtflehenfikoniaaGreat
namespace Go.Proofs.YtflehenfikoniaaGreat
open Go Go.RowKit Go.ChangeShapes Go.WideShapes
section
variable {H:Type} {enc:TypeId×Value->H} {P:Program} {W:World} {held:Bool}
theorem w8 {t e:TypeId} {A:List Kd} {d c fuel:Nat} {v:Value} {D:DataW H} {ps:List MemPlace} (ht:P.underlying t=some (.slice e)) (hk:yM P d e=some A) (hc:A.length=c) (N:P.cellsOf e=c) (B:c≠0)
 (hf:DataW.trod enc P W 0 (λ_=>true) held fuel t [v]=some (D,ps)):∃(rows:List (List Value)),(∀r∈rows,jN (TrS enc P W 0 (λ_=>true) held) A r/\r.length=c)/\(rows=[]∨∃E F,D= .slice ((List.range rows.length).map F) E)/\rows.length<=maxLen/\
  ((rows=[]/\∃a C,v= .slice a 0 C/\(a=none->C=0))∨∃b off cap l u fz,v= .slice (some ⟨b,off,none⟩) rows.length cap/\rows.length<=cap/\W.heap[b]?=some (.cells l u fz)/\off+rows.length*c<=l.size/\∀i a,rows.flatten[i]?=some a->l[off+i]?=some a):=by
 rcases Go.Deep.open_slice ht hf with⟨K,L⟩|⟨a,len,cap,m,n,Df,Pf,L,_,hl,hm,O,Q,S⟩
 ·injection K with K;subst K;exact⟨[],(λr h=>by cases h),.inl rfl,Y5 _,.inl ⟨rfl,none,0,rfl,λ_=>rfl⟩⟩
 ·injection L with L;subst L;have T:m=cap:=O;subst T;by_cases G:len=0
  ·subst G;exact⟨[],(λr h=>by cases h),.inl rfl,Y5 _,.inl ⟨rfl,some a,m,rfl,λq=>by cases q⟩⟩
  ·have o:∀i,i<m->∃j,j.length=c/\jN (TrS enc P W 0 (λ_=>true) held) A j/\∀q,q<c->W.cell? ((a.add (i*c)).add q)=j[q]?:=λi f=>by
    obtain⟨j,U,g2⟩:=S i f;rw[N]at U;obtain⟨_,V,M⟩:=World.cells?_some U;exact⟨j,V,sm d e A n j _ hk g2,λq hq=>M q hq⟩
   obtain⟨R,w⟩:=Go.Deep.choose_lt o
   have x:a.spot=none/\∃l u fz,W.heap[a.block]?=some (.cells l u fz):=by
    obtain⟨U,_,V⟩:=w 0 (by omega);have M:=V 0 (by omega);rw[Y0 (by omega)]at M;obtain⟨l,u,fz,Y,Z,_⟩:=MB M;have e0:(a.add (0*c)).add 0=a:=by simp[Addr.add]
    rw[e0]at Y Z;exact⟨Z,l,u,fz,Y⟩
   obtain⟨hs,l,u,fz,X⟩:=x;obtain⟨b,off,sp⟩:=a;simp only at hs X;subst hs
   have p:∀i q,i<m->q<c->l[off+i*c+q]?=(R i)[q]?:=λi q f hq=>by
    have g:=(w i f).2.2 q hq;have e0:((⟨b,off,none⟩:Addr).add (i*c)).add q=(⟨b,off,none⟩:Addr).add (i*c+q):=Go.Deep.add_add _ _ _;rw[e0,Y0 (by rw[(w i f).1];exact hq)]at g;have:=PO X g;rw[q1m,this,Y0 (by rw[(w i f).1];exact hq)]
   have k:((List.range len).map R).length=len:=by simp
   have s:∀r∈(List.range len).map R,∃i,i<len/\r=R i:=λr y=>by
    simp only[q0e,q2m]at y;obtain⟨i,f,rfl⟩:=y;exact⟨i,f,rfl⟩
   have z:∀r∈(List.range len).map R,r.length=c:=λr y=>by
    obtain⟨i,f,rfl⟩:=s r y;exact(w i (by omega)).1
   have I:=Dg _ z;rw[k]at I;refine⟨(List.range len).map R,λr y=>⟨?_,z r y⟩,.inr ?_,?_,.inr ⟨b,off,m,l,u,fz,by rw[k],by rw[k];exact hl,X,?_,λi a f=>?_⟩⟩
   ·obtain⟨i,f,rfl⟩:=s r y;exact(w i (by omega)).2.1
   ·injection Q with Q _;exact⟨_,Df,by rw[k];exact Q⟩
   ·rw[k];omega
   ·rw[k];have g:=p (len-1) (c-1) (by omega) (by omega);rw[Y0 (by rw[(w _ (by omega)).1];omega)]at g;have:=(q0f.1 g).1;have e1:(len-1)*c+c=len*c:=by rw[<-Nat.succ_mul];congr 1;omega
    omega
   ·have J:=(Y6.1 f).1;rw[I]at J;have K:=Nat.div_add_mod i c;have hq:=q4k i (q3c B);have hj:i/c<len:=(Nat.div_lt_iff_lt_mul (q3c B)).2 J;have ei:i=i/c*c+i%c:=by rw[q2v];omega
    rw[ei,Hm _ z _ _ hq]at f;have e2:((List.range len).map R)[i/c]?=some (R (i/c)):=by simp[hj]
    rw[e2,q2e]at f;have:=p (i/c) (i%c) (by omega) hq;rw[f,q1m,<-ei]at this;exact this
def phF(z:Fz->Prop):Ph:=⟨λ_=>none,z,z,λ_ _=>False⟩
def lp(W:World)(z:Fz->Prop):Prop:=∀q,z q->FzR (phF z) (ik W) q
theorem lp.none:lp W λ_=>False:=λ_ h=>h.elim
theorem lp.or{z y:Fz->Prop}(h:lp W z)(k:lp W y):lp W λq=>z q∨y q:=λq a=>a.elim (λa=>FzR.mono (φ:=phF z) (ψ:=phF _) (λ_ h=>Or.inl h) (h q a)) λa=>FzR.mono (φ:=phF y) (ψ:=phF _) (λ_ h=>Or.inr h) (k q a)
theorem HR.frs{z:Fz->Prop}(h:lp W z):HR (phF z) .nil 0 (ik W) (ik W):=
 ⟨λ_ _ h=>(by cases h),λ_ _ h=>(by cases h),λ_ _ _ _ _ _ h=>(by cases h),λb o h=>⟨(q0f.1 h).1,h⟩,Z6 _,λq a=>⟨⟨h q a,.inl a⟩,λ_ _ _ h=>by cases h⟩,λ_ _ h=>by cases h⟩
theorem Hr{b off cap m k:Nat}{d:Array Value}{u:TypeId}{fz:Nat×Nat}{L:List AV}{l:List Value}(n:W.heap[b]?=some (.cells d u fz))(f:m<=cap)(p:L.length=m*k)(r:off+m*k<=d.size)(g:L.all mF=true){z:Fz->Prop}(h:z ⟨b,off,L⟩)(hv:VRs (phF z) L l)(c:∀i a,l[i]?=some a->d[off+i]?=some a):
 FzR (phF z) (ik W) ⟨b,off,L⟩/\∀χ:Ph,(∀q,z q->χ.z q)->VR χ (.fr m k L) (.slice (some ⟨b,off,none⟩) m cap):=by
 refine⟨⟨⟨(q0f.1 n).1,g⟩,d,u,fz,n,(show off+L.length<=d.size by omega),λi a e=>?_⟩,λχ j=>?_⟩
 ·obtain⟨v,t,w⟩:=hv.at e;exact⟨v,c i v t,w⟩
 ·have:VR χ (.fr m k L) (.slice (some ⟨(⟨b,off,L⟩:Fz).B,(⟨b,off,L⟩:Fz).s+0,.none⟩) m cap):= .fr (q:=⟨b,off,L⟩) (o:=0) (j _ h) f (bp p);exact this
theorem Dl{c:Nat}{t e:TypeId}{v:Value}(d:P.underlying t=some (.slice e))(a:Value.okWide P W .any c t v):v.cells.toList=[v]:=by
 rcases ve d a with rfl|⟨b,off,len,cap,f,u,fz,rfl,_⟩<;>rfl
theorem FO{a:List TypeId}{ds:List (DataW H)}(h:(DataW.weightsEach P a ds).all (·<=reachBytes)=true){j n:Nat}{t e:TypeId}{D:DataW H}(b:a[j]?=some t)(hd:ds[j]?=some D)(c:n=0∨∃E F,D= .slice ((List.range n).map F) E)(d:P.underlying t=some (.slice e))(f:16<=P.bytesOf e):n<=8796093022208:=by
 rcases c with rfl|⟨E,F,rfl⟩
 ·omega
 ·have:=sized_slice h b hd d;rw[Y9,List.length_range]at this;unfold reachBytes at this;have g:n*16<=n*P.bytesOf e:=Nat.mul_le_mul_left n f;have i:n*P.bytesOf e<=(n+E.length)*P.bytesOf e:=q1h _ (q0u _ _);omega
end
end Go.Proofs.YtflehenfikoniaaGreat
namespace Go.Proofs.YtflehenfikoniaaGreat
open Go Go.RowKit
abbrev Pk:=List ((Nat×Nat)×List AV)
def qZ(p:Nat×Nat):Value:= .pointer (some ⟨p.1,p.2,none⟩)
def aA(p:Nat×Nat):AV:= .any (qZ p)
def vt(p:Nat×Nat)(l:List AV)(h:Hp):Prop:=l.all flat.flat1=true/\∃T c t,h.f p.1=some (.cells c t (0,0))/\l.length<=T/\p.2+T<=c.size/\CR Ph.no c p.2 l
def pkB(a:Pk):List Nat:=a.map λc=>c.1.1
theorem Ht{A B:Pk}{p:Nat×Nat}{l:List AV}:(pkB (A++(p,l)::B)).Nodup<->p.1∉pkB (A++B)/\(pkB (A++B)).Nodup:=by
 have h:(pkB (A++(p,l)::B)).Perm (p.1::pkB (A++B)):=(List.perm_middle (l₁:=A) (l₂:=B) (a:=(p,l))).map _;rw[h.nodup_iff,q2u]
def pk(i:Pk):HP where
 P _ S h:=(∀B,S B->∃o,h.f B=some o)/\(pkB i).Nodup/\∀c∈i,S c.1.1/\vt c.1 c.2 h
 loc z S h g _ e hp:=⟨λB a=>by
  obtain⟨o,ho⟩:=hp.1 B a;exact⟨o,(e B a).trans ho⟩,hp.2.1,λc d=>⟨(hp.2.2 c d).1,by
  obtain⟨j,T,k,t,m,q⟩:=(hp.2.2 c d).2;exact⟨j,T,k,t,(e _ (hp.2.2 c d).1).trans m,q⟩⟩⟩
 mono _ _ _ _ _ h:=h
 ex _ _ _ B h a:=h.1 B a
theorem PM.bN{c:Type}{v:Option c}:∀(f:Nat) (t:PM c) (n:Nat),n+1<2^f->(PM.set v f t n).get n=v
 |0,t,n,h=>by simp at h
 |f+1,.nil,0,h=>rfl
 |f+1,.node l u r,0,h=>rfl
 |f+1,.nil,n+1,h=>by
  have a:n/2+1<2^f:=by rw[q3t]at h;omega
  rw[PM.CJ];split
  ·rename_i q;rw[PM.bw,if_pos q];exact PM.bN f .nil (n/2) a
  ·rename_i q;rw[PM.bw,if_neg q];exact PM.bN f .nil (n/2) a
 |f+1,.node l u r,n+1,h=>by
  have a:n/2+1<2^f:=by rw[q3t]at h;omega
  rw[PM.y9];split
  ·rename_i q;rw[PM.bw,if_pos q];exact PM.bN f l (n/2) a
  ·rename_i q;rw[PM.bw,if_neg q];exact PM.bN f r (n/2) a
theorem aH{n:Nat}(h:n<1000000):n+1<2^aa:=by
 have:(1000001:Nat)<2^aa:=by show 1000001<2^40;decide
 omega
section
variable {φ:Ph} {H:AH} {n:Nat} {h0 h:Hp} {b:Nat} {A B:Pk} {p:Nat×Nat} {l l':List AV}
theorem HR.nL(a:HR φ H n h0 h){Q:HP}(c:H.get b=some (.sep Q)):φ b=none:=by
 rcases a.live b _ c with⟨d,_⟩|⟨q,f,_,_,_,e⟩
 ·exact d
 ·exact e.elim
theorem HR.Dm(k:HR φ H n h0 h)(hbn:b<n)(W:H.get b=some (.sep (pk (A++(p,l)::B)))):
 ∃ψ T,PLe φ ψ/\ψ n=some ⟨p.1,p.2,T⟩/\HR ψ ((H.set (some (.sep (pk (A++B)))) aa b).set (some (.cells l true)) aa n) (n+1) h0 h:=by
 obtain⟨⟨s1,s2,Y⟩,s4⟩:=k.sep b _ W;obtain⟨hS,hfl,T,c,t,Z,hc2,hc3,hc4⟩:=Y (p,l) (by simp);obtain⟨⟨k1,k2⟩,k3,k4,k5⟩:=s4 p.1 hS;have P:p.1∉pkB (A++B)/\(pkB (A++B)).Nodup:=Ht.1 s2;have R:=k.nL W
 have hn0:φ n=none:=by
  cases e:φ n with
  |none=>rfl
  |some q=>exact absurd (k.dom n q e).1 (q3g _)
 let ψ:Ph:=⟨λx=>if x=n then some ⟨p.1,p.2,T⟩else φ x,φ.z,φ.y,λx=>if x=b then(λX=>φ.s b X/\X≠p.1)else φ.s x⟩
 have G:PLe φ ψ:=⟨λx q e=>by
  show(if x=n then _ else φ x)=some q;rw[if_neg (λq=>by subst q;rw[hn0]at e;cases e)];exact e,λ_ h=>h,λ_ h=>h⟩
 have C:ψ n=some ⟨p.1,p.2,T⟩:=if_pos rfl
 have j:∀x,x≠n->ψ x=φ x:=λx a=>if_neg a
 have cs:∀x o,((H.set (some (.sep (pk (A++B)))) aa b).set (some (.cells l true)) aa n).get x=some o->(x=n/\o= .cells l true)∨(x≠n/\((x=b/\o= .sep (pk (A++B)))∨(x≠b/\H.get x=some o))):=λx o a=>by
  rcases PM.ak aa _ n x o a with⟨i,r⟩|⟨i,r⟩
  ·injection r with r;exact .inl ⟨i,r.symm⟩
  ·rcases PM.ak aa H b x o r with⟨w,m⟩|⟨w,m⟩
   ·injection m with m;exact .inr ⟨i,.inl ⟨w,m.symm⟩⟩
   ·exact .inr ⟨i,.inr ⟨w,m⟩⟩
 have old:∀x o q,((H.set (some (.sep (pk (A++B)))) aa b).set (some (.cells l true)) aa n).get x=some o->o.own=true->ψ x=some q->(x=n/\q=⟨p.1,p.2,T⟩)∨(x≠n/\H.get x=some o/\φ x=some q):=λx o q a ho f=>by
  rcases cs x o a with⟨i,_⟩|⟨i,⟨w,_⟩|⟨w,m⟩⟩
  ·subst i;rw[C]at f;injection f with f;exact .inl ⟨rfl,f.symm⟩
  ·subst w;rw[j _ i,R]at f;cases f
  ·rw[j _ i]at f;exact .inr ⟨i,m,f⟩
 refine⟨ψ,T,G,C,⟨λx q a=>?_,λx o a=>?_,λx y o o' q q' a D ho I f hq' e=>?_,k.base,k.size,λq f=>?_,λx Q a=>?_⟩⟩
 ·by_cases S:x=n
  ·subst S;rw[C]at a;injection a with a;subst a;exact⟨q1l _,k1⟩
  ·rw[j _ S]at a;have:=k.dom x q a;exact⟨by omega,this.2⟩
 ·rcases cs x o a with⟨rfl,rfl⟩|⟨i,⟨rfl,rfl⟩|⟨w,m⟩⟩
  ·exact .inr ⟨_,_,C,k2,Z,c,t,(0,0),rfl,hc2,hc3,jh _ _,λ_=>rfl,CR.c8 (φ:=Ph.no) (ψ:=ψ) ⟨(λ_ _ h=>by cases h),λ_ h=>h.elim⟩ hc4⟩
  ·exact .inl ⟨by rw[j _ i];exact R,rfl⟩
  ·rcases k.live x o m with⟨J,K⟩|⟨q,ob,J,K,U,O⟩
   ·exact .inl ⟨by rw[j _ i];exact J,K⟩
   ·exact .inr ⟨q,ob,by rw[j _ i];exact J,K,U,O.mono G⟩
 ·rcases old x o q a ho f with⟨rfl,rfl⟩|⟨a1,E,F⟩<;>rcases old y o' q' D I hq' with⟨rfl,rfl⟩|⟨b1,b2,b3⟩
  ·rfl
  ·exact absurd e.symm (k3 y o' q' b2 I b3)
  ·exact absurd e (k3 x o q E ho F)
  ·exact k.inj x y o o' q q' E b2 ho I F b3 e
 ·refine⟨⟨FzR.mono (φ:=φ) (ψ:=ψ) G.z (k.frz q f).1.1,(k.frz q f).1.2⟩,λx o px a ho hpx=>?_⟩;rcases old x o px a ho hpx with⟨rfl,rfl⟩|⟨a1,E,F⟩
  ·exact λe=>k4 q f e.symm
  ·exact(k.frz q f).2 x o px E ho F
 ·rcases cs x _ a with⟨_,r⟩|⟨i,⟨rfl,r⟩|⟨w,m⟩⟩
  ·cases r
  ·injection r with r;subst r;have es:ψ.s x=λX=>φ.s x X/\X≠p.1:=if_pos rfl
   rw[es];refine⟨⟨λX L=>s1 X L.1,P.2,λd hd=>?_⟩,λX L=>?_⟩
   ·have V:d∈A++(p,l)::B:=by
     rcases q1d.1 hd with q|q
     ·exact q2d _ q
     ·exact q4f _ (Y4 _ q)
    exact⟨⟨(Y d V).1,λe=>P.1 (e▸List.mem_map_of_mem hd)⟩,(Y d V).2⟩
   ·obtain⟨J,K,U,O⟩:=s4 X L.1;refine⟨J,λy o q D ho f=>?_,U,λy Q' D u M=>?_⟩
    ·rcases old y o q D ho f with⟨rfl,rfl⟩|⟨a1,E,F⟩
     ·exact λe=>L.2 e.symm
     ·exact K y o q E ho F
    ·rcases cs y _ D with⟨_,q2⟩|⟨q1,⟨N,_⟩|⟨N,q4⟩⟩
     ·cases q2
     ·exact u N
     ·have:ψ.s y=φ.s y:=if_neg N;rw[this]at M;exact O y Q' q4 u M
  ·obtain⟨g0,g⟩:=k.sep x Q m;have es:ψ.s x=φ.s x:=if_neg w;rw[es];refine⟨g0,λX L=>?_⟩;obtain⟨J,K,U,O⟩:=g X L;refine⟨J,λy o q D ho f=>?_,U,λy Q' D u M=>?_⟩
   ·rcases old y o q D ho f with⟨rfl,rfl⟩|⟨a1,E,F⟩
    ·exact λ(e:p.1=X)=>k5 x Q m w (by rw[e];exact L)
    ·exact K y o q E ho F
   ·rcases cs y _ D with⟨_,q2⟩|⟨q1,⟨N,_⟩|⟨N,q4⟩⟩
    ·cases q2
    ·subst N;have:ψ.s y=λX=>φ.s y X/\X≠p.1:=if_pos rfl
     rw[this]at M;exact O y _ W u M.1
    ·have:ψ.s y=φ.s y:=if_neg N;rw[this]at M;exact O y Q' q4 u M
theorem HR.oX(i:HR φ H n h0 h){m T:Nat}(hbm:b≠m)(Y:H.get b=some (.sep (pk (A++B))))(I:H.get m=some (.cells l true))(F:φ m=some ⟨p.1,p.2,T⟩)(hl:l.map Go.Proofs.YtflehenfikoniaaGreat.mk=l'.map Go.Proofs.YtflehenfikoniaaGreat.mk)(hf:l'.all flat.flat1=true):
 ∃ψ,SLe φ ψ/\PLe φ ψ/\ψ.f=φ.f/\HR ψ ((H.set none aa m).set (some (.sep (pk (A++(p,l')::B)))) aa b) n h0 h:=by
 obtain⟨⟨s1,s2,Z⟩,s4⟩:=i.sep b _ Y;obtain⟨ob,o1,o2,c,t,fz,rfl,o3,o4,o5,o6,o7⟩:=i.of I F;have o6:=o6 rfl
 subst o6;have L:=i.nL Y;have hpS:¬φ.s b p.1:=λq=>(s4 p.1 q).2.1 m _ _ I rfl F rfl
 let ψ:Ph:=⟨φ.f,φ.z,φ.y,λx=>if x=b then(λX=>φ.s b X∨X=p.1)else φ.s x⟩
 have cs:∀x o,((H.set none aa m).set (some (.sep (pk (A++(p,l')::B)))) aa b).get x=some o->(x=b/\o= .sep (pk (A++(p,l')::B)))∨(x≠b/\x≠m/\H.get x=some o):=λx o u=>by
  rcases PM.ak aa _ b x o u with⟨M,w⟩|⟨M,w⟩
  ·injection w with w;exact .inl ⟨M,w.symm⟩
  ·rcases PM.ak aa H m x o w with⟨W,G⟩|⟨W,G⟩
   ·cases G
   ·exact .inr ⟨M,W,G⟩
 have own:∀x o q,((H.set none aa m).set (some (.sep (pk (A++(p,l')::B)))) aa b).get x=some o->o.own=true->φ x=some q->x≠m/\H.get x=some o:=λx o q u ho a=>by
  rcases cs x o u with⟨rfl,_⟩|⟨_,w,W⟩
  ·rw[L]at a;cases a
  ·exact⟨w,W⟩
 have sle:SLe φ ψ:=⟨λ_ _ h=>h,λ_ h=>h⟩;refine⟨ψ,sle,⟨λ_ _ h=>h,λ_ h=>h,λ_ h=>h⟩,rfl,⟨i.dom,λx o u=>?_,λx y o o' q q' u k ho N a O e=>?_,i.base,i.size,λq a=>⟨⟨FzR.mono (φ:=φ) (ψ:=ψ) sle.z (i.frz q a).1.1,(i.frz q a).1.2⟩,λx o px u ho P=>(i.frz q a).2 x o px (own x o px u ho P).2 ho P⟩,λx Q u=>?_⟩⟩
 ·rcases cs x o u with⟨rfl,rfl⟩|⟨_,_,G⟩
  ·exact .inl ⟨L,rfl⟩
  ·rcases i.live x o G with g|⟨q,ob,R,J,S,K⟩
   ·exact .inl g
   ·exact .inr ⟨q,ob,R,J,S,K.c8 sle⟩
 ·exact i.inj x y o o' q q' (own x o q u ho a).2 (own y o' q' k N O).2 ho N a O e
 ·rcases cs x _ u with⟨rfl,w⟩|⟨M,hxm,G⟩
  ·injection w with w;subst w;have es:ψ.s x=λX=>φ.s x X∨X=p.1:=if_pos rfl
   rw[es];refine⟨⟨λX C=>?_,?_,λd hd=>?_⟩,λX C=>?_⟩
   ·rcases C with C|rfl
    ·exact s1 X C
    ·exact⟨_,o2⟩
   ·refine Ht.2 ⟨λq=>?_,s2⟩;obtain⟨d,hd,e⟩:=q0e.1 q;exact hpS (e▸(Z d hd).1)
   ·have D:d=(p,l')∨d∈A++B:=by
     rcases q1d.1 hd with q|q
     ·exact .inr (q2d _ q)
     ·rcases Z3.1 q with q|q
      ·exact .inl q
      ·exact .inr (q4f _ q)
    rcases D with rfl|D
    ·refine⟨.inr rfl,hf,T,c,t,o2,?_,o4,o7.nI hl hf⟩;have:l'.length=l.length:=by have:=congrArg List.length hl;simpa using this.symm
     rw[this];exact o3
    ·exact⟨.inl (Z d D).1,(Z d D).2⟩
   ·rcases C with C|rfl
    ·obtain⟨R,J,S,K⟩:=s4 X C;refine⟨R,λy o q k ho a=>J y o q (own y o q k ho a).2 ho a,S,λy U k j r=>?_⟩;rcases cs y _ k with⟨E,_⟩|⟨E,_,V⟩
     ·exact j E
     ·have:ψ.s y=φ.s y:=if_neg E;rw[this]at r;exact K y U V j r
    ·refine⟨⟨(i.dom m _ F).2,o1⟩,λy o q k ho a e=>?_,λq a e=>(i.frz q a).2 m _ _ I rfl F e.symm,λy U k j r=>?_⟩
     ·obtain⟨a1,a2⟩:=own y o q k ho a;exact a1 (i.inj y m o _ q _ a2 I ho rfl a F e)
     ·rcases cs y _ k with⟨E,_⟩|⟨E,_,V⟩
      ·exact j E
      ·have:ψ.s y=φ.s y:=if_neg E;rw[this]at r;exact((i.sep y U V).2 _ r).2.1 m _ _ I rfl F rfl
  ·obtain⟨g0,g⟩:=i.sep x Q G;have es:ψ.s x=φ.s x:=if_neg M;rw[es];refine⟨g0,λX C=>?_⟩;obtain⟨R,J,S,K⟩:=g X C;refine⟨R,λy o q k ho a=>J y o q (own y o q k ho a).2 ho a,S,λy U k j r=>?_⟩;rcases cs y _ k with⟨rfl,_⟩|⟨E,_,V⟩
   ·have:ψ.s y=λX=>φ.s y X∨X=p.1:=if_pos rfl
    rw[this]at r;rcases r with r|rfl
    ·exact K y _ Y j r
    ·exact J m _ _ I rfl F rfl
   ·have:ψ.s y=φ.s y:=if_neg E;rw[this]at r;exact K y U V j r
theorem HR.uT(d:HR φ H n h0 h){Q Q':HP}(u:H.get b=some (.sep Q))(a:∀z S h,Q.P z S h->Q'.P z S h):HR φ (H.set (some (.sep Q')) aa b) n h0 h:=by
 have cs:∀x o,(H.set (some (.sep Q')) aa b).get x=some o->(x=b/\o= .sep Q')∨(x≠b/\H.get x=some o):=λx o c=>by
  rcases PM.ak aa H b x o c with⟨G,f⟩|f
  ·injection f with f;exact .inl ⟨G,f.symm⟩
  ·exact .inr f
 have i:=d.nL u
 have own:∀x o q,(H.set (some (.sep Q')) aa b).get x=some o->φ x=some q->H.get x=some o:=λx o q c a=>by
  rcases cs x o c with⟨rfl,_⟩|⟨_,I⟩
  ·rw[i]at a;cases a
  ·exact I
 refine⟨d.dom,λx o c=>?_,λx y o C q D c j ho w a k e=>d.inj x y o C q D (own x o q c a) (own y C D j k) ho w a k e,d.base,d.size,λq a=>⟨d.frz q a|>.1,λx o px c ho m=>(d.frz q a).2 x o px (own x o px c m) ho m⟩,λx E c=>?_⟩
 ·rcases cs x o c with⟨rfl,rfl⟩|⟨_,r⟩
  ·exact .inl ⟨i,rfl⟩
  ·exact d.live x o r
 ·have:∃t,H.get x=some (.sep t)/\∀z S h,t.P z S h->E.P z S h:=by
   rcases cs x _ c with⟨rfl,f⟩|⟨_,r⟩
   ·injection f with f;subst f;exact⟨Q,u,a⟩
   ·exact⟨E,r,λ_ _ _ h=>h⟩
  obtain⟨t,J,K⟩:=this;obtain⟨L,g⟩:=d.sep x t J;refine⟨K _ _ _ L,λX M=>?_⟩;obtain⟨N,O,R,F⟩:=g X M;refine⟨N,λy o q j ho a=>O y o q (own y o q j a) ho a,R,λy T j s=>?_⟩;rcases cs y _ j with⟨rfl,_⟩|⟨_,r⟩
  ·exact F y Q u s
  ·exact F y T r s
theorem PS{a d:Pk}(e:∀c∈d,c∈a)(hd:(pkB a).Nodup->(pkB d).Nodup):∀z S h,(pk a).P z S h->(pk d).P z S h:=λz S h ⟨f,g,i⟩=>⟨f,hd g,λc j=>i c (e c j)⟩
theorem Tf{a d:Pk}(e:d.Sublist a):∀z S h,(pk a).P z S h->(pk d).P z S h:=PS (λc f=>e.subset f) λh=>(e.map _).nodup h
theorem HR.VV(i:HR φ H n h0 h):∃ψ,PLe φ ψ/\HR ψ (H.set (some (.sep (pk []))) aa n) (n+1) h0 h:=by
 have cs:∀x o,(H.set (some (.sep (pk []))) aa n).get x=some o->(x=n/\o= .sep (pk []))∨(x≠n/\H.get x=some o):=λx o a=>by
  rcases PM.ak aa H n x o a with⟨C,j⟩|j
  ·injection j with j;exact .inl ⟨C,j.symm⟩
  ·exact .inr j
 have k:φ n=none:=by
  cases e:φ n with
  |none=>rfl
  |some q=>exact absurd (i.dom n q e).1 (q3g _)
 let ψ:Ph:=⟨φ.f,φ.z,φ.y,λx=>if x=n then(λ_=>False)else φ.s x⟩
 have own:∀x o q,(H.set (some (.sep (pk []))) aa n).get x=some o->φ x=some q->H.get x=some o:=λx o q a d=>by
  rcases cs x o a with⟨rfl,_⟩|⟨_,N⟩
  ·rw[k]at d;cases d
  ·exact N
 have sle:SLe φ ψ:=⟨λ_ _ h=>h,λ_ h=>h⟩;refine⟨ψ,⟨λ_ _ h=>h,λ_ h=>h,λ_ h=>h⟩,⟨λx q a=>⟨by have:=(i.dom x q a).1;omega,(i.dom x q a).2⟩,λx o a=>?_,λx y o L q M a m ho D d r e=>i.inj x y o L q M (own x o q a d) (own y L M m r) ho D d r e,i.base,i.size,λq d=>⟨⟨FzR.mono (φ:=φ) (ψ:=ψ) sle.z (i.frz q d).1.1,(i.frz q d).1.2⟩,λx o px a ho t=>(i.frz q d).2 x o px (own x o px a t) ho t⟩,λx O a=>?_⟩⟩
 ·rcases cs x o a with⟨rfl,rfl⟩|⟨_,E⟩
  ·exact .inl ⟨k,rfl⟩
  ·rcases i.live x o E with g|⟨q,P,F,G,I,J⟩
   ·exact .inl g
   ·exact .inr ⟨q,P,F,G,I,J.c8 sle⟩
 ·rcases cs x _ a with⟨rfl,j⟩|⟨C,E⟩
  ·injection j with j;subst j;have es:ψ.s x=λ_=>False:=if_pos rfl
   rw[es];exact⟨⟨(λX u=>u.elim),q4p,λc R=>by cases R⟩,λX u=>u.elim⟩
  ·obtain⟨S,g⟩:=i.sep x O E;have es:ψ.s x=φ.s x:=if_neg C;rw[es];refine⟨S,λX u=>?_⟩;obtain⟨F,G,I,J⟩:=g X u;refine⟨F,λy o q m ho d=>G y o q (own y o q m d) ho d,I,λy T m K w=>?_⟩;rcases cs y _ m with⟨rfl,_⟩|⟨U,V⟩
   ·have:ψ.s y=λ_=>False:=if_pos rfl
    rw[this]at w;exact w
   ·have:ψ.s y=φ.s y:=if_neg U;rw[this]at w;exact J y T V K w
end
theorem VR.oY{φ:Ph}{b:Nat}{p:Nat×Nat}{T:Nat}(h:φ b=some ⟨p.1,p.2,T⟩):VR φ (.ptr b 0) (qZ p):= .ptr (p:=⟨p.1,p.2,T⟩) (o:=0) h
def qC(H:AH)(n b:Nat)(A B:Pk)(p:Nat×Nat)(κ:PK):PK:=λv a c=>∃l2 l' Q,c=n+1/\(∀x o,x≠n->x≠b->H.get x=some o->a.get x=some o)/\a.get b=some (.sep (pk (A++B)))/\a.get n=some (.cells l2 true)/\l2.map mk=l'.map mk/\l'.all flat.flat1=true/\(∀z S h,(pk (A++(p,l')::B)).P z S h->Q.P z S h)/\κ v (H.set (some (.sep Q)) aa b) (n+1)
def opn (H:AH) (n b:Nat) (A B:Pk) (l:List AV):AH:=(H.set (some (.sep (pk (A++B)))) aa b).set (some (.cells l true)) aa n
section
variable {H:AH} {n b:Nat} {A B:Pk} {p:Nat×Nat} {κ:PK} {v:AV} {l l2 l':List AV} {Q:HP}
theorem qD(hn:n<1000000):(opn H n b A B l).get n=some (.cells l true):=PM.bN aa _ _ (aH hn)
theorem zD(a:b<n)(hn:n<1000000):(opn H n b A B l).get b=some (.sep (pk (A++B))):=PM.aF aa _ _ _ (aH hn) (by omega) (PM.bN aa _ _ (aH (by omega)))
theorem uU(a:b<n)(hn:n<1000000){x:Nat}{o:AO}(c:x≠n)(d:x≠b)(h:H.get x=some o):(opn H n b A B l).get x=some o:=PM.aF aa _ _ _ (aH hn) c (PM.aF aa _ _ _ (aH (by omega)) d h)
theorem qC.same(a:b<n)(hn:n<1000000)(d:l.map mk=l'.map mk)(e:l'.all flat.flat1=true)(f:∀z S h,(pk (A++(p,l')::B)).P z S h->Q.P z S h)(c:κ v (H.set (some (.sep Q)) aa b) (n+1)):qC H n b A B p κ v (opn H n b A B l) (n+1):=
 ⟨l,l',Q,rfl,λx o g i j=>uU a hn g i j,zD a hn,qD hn,d,e,f,c⟩
theorem qC.set(a:b<n)(hn:n<1000000)(e:l2.map mk=l'.map mk)(f:l'.all flat.flat1=true)(g:∀z S h,(pk (A++(p,l')::B)).P z S h->Q.P z S h)(c:κ v (H.set (some (.sep Q)) aa b) (n+1)):qC H n b A B p κ v ((opn H n b A B l).set (some (.cells l2 true)) aa n) (n+1):=
 ⟨l2,l',Q,rfl,λx o d i j=>PM.aF aa _ _ _ (aH hn) d (uU a hn d i j),PM.aF aa _ _ _ (aH hn) (by omega) (zD a hn),PM.bN aa _ _ (aH hn),e,f,g,c⟩
end
theorem ai.Dn {f:FuncId} {run:List AV->AH->Nat->PK->Prop} (i:ai f run) {φ:Ph} {H:AH} {n:Nat} {h0 s:Hp} {t:Array Value} {κ:PK} {K:KH} {b:Nat} {A B:Pk} {p:Nat×Nat} {l:List AV} {rest:List AV}
 (L:HR φ H n h0 s) (w:b<n) (hn:n<1000000) (y:H.get n=none) (M:H.get b=some (.sep (pk (A++(p,l)::B)))) (d:VRs φ (aA p::rest) t.toList) (N:cD φ h0 κ K)
 (O:run (.ptr n 0::rest) (opn H n b A B l) (n+1) (qC H n b A B p κ)):dI Tryz.prog f t s K:=by
 obtain⟨P,T,j,k,z⟩:=L.Dm w M;obtain⟨R,S,U,C,V⟩:=d.cons_inv;have C:R=qZ p:=C;subst C;refine i _ _ _ _ O P h0 s t K z (by rw[U];exact .cons (VR.oY k) (VRs.mono j _ _ V)) λχ v H2 n2 u g a W X ⟨l2,l',Q,Y,q,D,E,Z,hf,hQ,F⟩=>?_
 subst Y;obtain⟨ω,_,c,_,G⟩:=W.oX (m:=n) (by omega) D E (a.b _ _ k) Z hf;have I:=G.uT (Q':=Q) (PM.bN aa _ _ (aH (by omega))) hQ;refine N ω v _ (n+1) u g ((j.trans a).trans c) (I.less λx o hx=>?_) (VR.mono c _ _ X) F;rcases PM.ak aa H b x o hx with⟨rfl,r⟩|⟨J,r⟩
 ·rw[PM.bN aa _ _ (aH (by omega))];exact r
 ·by_cases e:x=n
  ·subst e;rw[y]at r;cases r
  ·exact PM.aF aa _ _ _ (aH (by omega)) J (PM.aF aa _ _ _ (aH (by omega)) J (PM.aF aa _ _ _ (aH hn) e (q x o e J r)))
def bitsOf(u:Nat):Nat->List Nat
 |0=> []
 |m+1=>(u/2^m)%2::bitsOf u m
def dZ(B:List Nat):Prop:=∀b∈B,b<2
theorem aS(u:Nat):∀m,(bitsOf u m).length=m
 |0=>rfl
 |m+1=>by simp[bitsOf,aS u m]
theorem dH(u:Nat):∀m,dZ (bitsOf u m)
 |0=>λb h=>by cases h
 |m+1=>λb h=>by
  rcases Z3.1 h with rfl|h
  ·exact q4k _ (by decide)
  ·exact dH u m b h
theorem dZ.nil:dZ []:=λb h=>by cases h
theorem dZ.app{A B:List Nat}(h:dZ A)(k:dZ B):dZ (A++B):=λb a=>(q1d.1 a).elim (h b) (k b)
theorem dZ.one{b:Nat}(h:b<2):dZ [b]:=λc a=>by simp at a;omega
def cR(a:Nat)(B:List Nat):Nat:=B.foldl (λu b=>2*u+b) a
theorem js(a u:Nat):∀m,cR a (bitsOf u m)=a*2^m+u%2^m
 |0=>by simp[cR,bitsOf,Nat.mod_one]
 |m+1=>by
  show cR (2*a+u/2^m%2) (bitsOf u m)=_;rw[js _ u m,Nat.mod_pow_succ,q3t,q2i];have b:2*a*2^m=a*(2^m*2):=by rw[q2v 2 a,Nat.mul_assoc,q2v 2]
  have c:u/2^m%2*2^m=2^m*(u/2^m%2):=q2v _ _;omega
theorem su:∀(B:List Nat) (a:Nat),cR a B=a*2^B.length+cR 0 B
 | [],a=>by simp[cR]
 |b::B,a=>by
  show cR (2*a+b) B=a*2^(B.length+1)+cR (2*0+b) B;rw[su B (2*a+b),su B (2*0+b),q3t,q2i];have c:2*a*2^B.length=a*(2^B.length*2):=by rw[q2v 2 a,Nat.mul_assoc,q2v 2]
  simp only[Nat.mul_zero,q0w];omega
theorem vu:∀(B:List Nat),dZ B->cR 0 B<2^B.length
 | [],_=>by simp[cR]
 |b::B,h=>by
  have d:=vu B λc a=>h c (Y4 _ a)
  have hb:=h b q0b;show cR (2*0+b) B<_;rw[su,Z9,q3t];have:(2*0+b)*2^B.length<=1*2^B.length:=q1h _ (by omega);omega
theorem w9(A B:List Nat)(a:Nat):cR a (A++B)=cR (cR a A) B:=by simp[cR,q2s]
theorem Hu:∀(B:List Nat) (a j:Nat),dZ B->∀h:j<B.length,cR a B/2^(B.length-1-j)%2=B[j]
 |b::B,a,0,d,_=>by
  show cR (2*a+b) B/2^(B.length+1-1-0)%2=b;have e:=vu B λc f=>d c (Y4 _ f)
  have:=d b q0b;rw[su,Nat.add_sub_cancel,q3i,q2v,Nat.mul_add_div (Nat.two_pow_pos _),q3d e];omega
 |b::B,a,j+1,d,h=>by
  have g:j<B.length:=by simpa using h
  have:=Hu B (2*a+b) j (λc f=>d c (Y4 _ f)) g;show cR (2*a+b) B/2^(B.length+1-1-(j+1))%2=B[j];rw[show B.length+1-1-(j+1)=B.length-1-j from by omega];exact this
def Dp(C:List Nat):List Nat:=C++List.replicate (8-C.length) 0
def l8(C:List Nat):Nat:=cR 0 (Dp C)
def pack(B:List Nat):List Nat:=(List.range ((B.length+7)/8)).map λi=>l8 ((B.drop (8*i)).take 8)
def sw(s:List Nat)(i:Nat):Nat:=(s[i/8]?).getD 0/2^(7-i%8)%2
theorem uV{C:List Nat}(h:C.length<=8):(Dp C).length=8:=by simp[Dp];omega
theorem zE{C:List Nat}(h:dZ C):dZ (Dp C):=h.app λb a=>by
 have:=List.eq_of_mem_replicate a;omega
theorem Dq{C:List Nat}(h:dZ C)(a:C.length<=8):l8 C<256:=by
 have:=vu _ (zE h);rw[uV a]at this;exact this
theorem sx{C:List Nat}:l8 C=cR 0 C*2^(8-C.length):=by
 unfold l8 Dp;rw[w9]
 have:∀m a,cR a (List.replicate m 0)=a*2^m:=λm=>by
  induction m with
  |zero=>intro a;simp[cR]
  |succ m b=>
   intro a;show cR (2*a+0) (List.replicate m 0)=_;rw[b,q3t,q2o,q2v 2 a,Nat.mul_assoc,q2v 2]
 exact this _ _
theorem MH{C:List Nat}(h:dZ C)(a:C.length<=8){j:Nat}(b:j<C.length):l8 C/2^(7-j)%2=C[j]:=by
 have c:=uV a;have:=Hu (Dp C) 0 j (zE h) (by omega);unfold l8;rw[show 7-j=(Dp C).length-1-j from by omega,this];simp[Dp,b]
theorem bt(B:List Nat):(pack B).length=(B.length+7)/8:=by simp[pack]
theorem l9(B:List Nat)(i:Nat)(h:i<(B.length+7)/8):(pack B)[i]?=some (l8 ((B.drop (8*i)).take 8)):=by
 simp[pack,h]
theorem Dr{B:List Nat}(h:dZ B)(i m:Nat):dZ ((B.drop i).take m):=λb a=>h b (List.mem_of_mem_drop (q3f a))
theorem Hv{B:List Nat}(h:dZ B):∀x∈pack B,x<256:=λx a=>by
 simp only[pack,q0e,q2m]at a;obtain⟨i,_,rfl⟩:=a;exact Dq (Dr h _ _) (by rw[q0g];omega)
theorem FP{B:List Nat}(h:dZ B){i:Nat}(hi:i<B.length):sw (pack B) i=B[i]:=by
 unfold sw;rw[l9 B (i/8) (by omega)];have a:i%8<((B.drop (8*(i/8))).take 8).length:=by rw[q0g,q0p];omega
 rw[Option.getD_some,MH (Dr h _ _) (by rw[q0g];omega) a];rw[List.getElem_take,List.getElem_drop];congr 1;omega
theorem xa{B:List Nat}{b:Nat}(h:B.length%8=0):pack (B++ [b])=pack B++ [b*2^7]:=by
 apply List.ext_getElem?;intro i;have c:(pack B).length=B.length/8:=by rw[bt];omega
 rcases Nat.lt_trichotomy i (B.length/8)with a|a|a
 ·rw[q1f (by omega),l9 _ _ (by simp;omega),l9 _ _ (by omega)];rw[q3e (by omega),List.take_append_of_le_length (by rw[q0p];omega)]
 ·subst a;rw[q0x (by omega),c,Nat.sub_self,l9 _ _ (by simp;omega)]
  have:(B++ [b]).drop (8*(B.length/8))=[b]:=by
   rw[show 8*(B.length/8)=B.length from by omega];simp
  rw[this];simp[sx,cR]
 ·rw[q2g (by rw[bt];simp;omega),q2g (by simp;omega)]
theorem PT{B:List Nat}{b:Nat}(h:B.length%8≠0):pack (B++ [b])=(pack B).set (B.length/8) (l8 (B.drop (8*(B.length/8)))+b*2^(7-B.length%8)):=by
 apply List.ext_getElem?;intro i;have f:(pack B).length=B.length/8+1:=by rw[bt];omega
 rcases Nat.lt_trichotomy i (B.length/8)with c|c|c
 ·rw[List.getElem?_set_ne (by omega),l9 _ _ (by simp;omega),l9 _ _ (by omega)];rw[q3e (by omega),List.take_append_of_le_length (by rw[q0p];omega)]
 ·subst c;rw[List.getElem?_set_self (by omega),l9 _ _ (by simp;omega)];have a:(B.drop (8*(B.length/8))).length=B.length%8:=by rw[q0p];omega
  rw[q3e (by omega),q1n (by rw[Z5,a];simp;omega)];generalize B.drop (8*(B.length/8))=C at a;have d:=q4k B.length (show 8>0 by decide);generalize B.length%8=r at a h d;rw[sx,sx,w9,Z5,a];have e:r<8∨8<=r:=by omega
  show some ((2*cR 0 C+b)*2^(8-(r+1)))=_;congr 1;rcases e with e|e
  ·rw[show 8-(r+1)=7-r from by omega,show 8-r=7-r+1 from by omega,q3t,q2i,q2v 2 (cR 0 C),Nat.mul_assoc,q2v 2]
  ·exfalso;omega
 ·rw[q2g (by rw[bt];simp;omega),q2g (by simp;omega)]
theorem mO(op:BinOp)(k:IntKind)(x y:Int)(h:op= .and∨op= .or∨op= .xor):cf op k x y=bits op k x y:=by
 rcases h with rfl|rfl|rfl<;>rfl
theorem wrap_u64(n:Int):IntKind.u64.wrap n=n%18446744073709551616:=by simp[IntKind.wrap,IntKind.bits,IntKind.signed]
def A8(n:Int):Nat:=if 0<=n then(2*n).toNat else(-2*n-1).toNat
def oZ(u:Nat):Int:=if u%2=0 then((u/2:Nat):Int)else-((u/2:Nat):Int)-1
theorem MI{n:Int}(h:aP n):A8 n<18446744073709551616:=by
 unfold A8;have:=h.1;have:=h.2;split<;>omega
theorem Hw(n:Int):oZ (A8 n)=n:=by
 unfold oZ A8;split
 ·rename_i h;rw[if_pos (by omega)];omega
 ·rename_i h;rw[if_neg (by omega)];omega
theorem MJ(a:Nat)(h:a<18446744073709551616):a^^^18446744073709551615=18446744073709551615-a:=by
 have e:(BitVec.ofNat 64 a^^^BitVec.allOnes 64).toNat=18446744073709551615-a:=by
  rw[BitVec.xor_allOnes,BitVec.toNat_not,BitVec.toNat_ofNat,q1p h]
 rw[<-e,BitVec.toNat_xor,BitVec.toNat_ofNat,q1p h];rfl
theorem Tg{n:Int}(h:aP n):n.fdiv 9223372036854775808=if 0<=n then 0 else-1:=by
 have:=h.1;have:=h.2;rw[Int.fdiv_eq_ediv_of_nonneg _ (by decide)];split<;>omega
theorem Th{n:Int}(h:aP n):cf .xor .u64 (IntKind.u64.wrap (IntKind.u64.wrap n*2)) (IntKind.u64.wrap (n.fdiv 9223372036854775808))=((A8 n:Nat):Int):=by
 have d:=h.1;have e:=h.2;rw[mO _ _ _ _ (.inr (.inr rfl)),Tg h];unfold A8;by_cases a:0<=n
 ·rw[if_pos a,if_pos a];have b:IntKind.u64.wrap (IntKind.u64.wrap n*2)=(((2*n).toNat:Nat):Int):=by rw[wrap_u64,wrap_u64];omega
  have c:IntKind.u64.wrap 0=((0:Nat):Int):=by rw[wrap_u64];rfl
  rw[b,c,u64_xor_nat _ _ (by omega) (by omega),Nat.xor_zero]
 ·rw[if_neg a,if_neg a];have b:IntKind.u64.wrap (IntKind.u64.wrap n*2)=(((2*n+18446744073709551616).toNat:Nat):Int):=by rw[wrap_u64,wrap_u64];omega
  have c:IntKind.u64.wrap (-1)=((18446744073709551615:Nat):Int):=by rw[wrap_u64];rfl
  rw[b,c,u64_xor_nat _ _ (by omega) (by omega),MJ _ (by omega)];omega
theorem A9{a:Int}(b:0<=a)(f:a<=9223372036854775807):cf .xor .i64 a (-1)= -a-1:=by
 have e:cf .xor .i64 a (-1)=IntKind.i64.wrap (((BitVec.ofInt 64 a^^^BitVec.ofInt 64 (-1)).toNat:Nat):Int):=rfl
 obtain⟨m,rfl⟩:=Int.eq_ofNat_of_zero_le b
 have c:(BitVec.ofInt 64 (m:Int)^^^BitVec.ofInt 64 (-1)).toNat=18446744073709551615-m:=by
  have d:BitVec.ofInt 64 (-1)=BitVec.allOnes 64:=by decide
  rw[d,BitVec.xor_allOnes,BitVec.toNat_not,BitVec.ofInt_natCast,BitVec.toNat_ofNat,q1p (by omega)]
 rw[e,c,IntKind.wrap_i64];omega
theorem Ba{a:Int}(b:0<=a)(f:a<=9223372036854775807):cf .xor .i64 a 0=a:=by
 have e:cf .xor .i64 a 0=IntKind.i64.wrap (((BitVec.ofInt 64 a^^^BitVec.ofInt 64 0).toNat:Nat):Int):=rfl
 obtain⟨m,rfl⟩:=Int.eq_ofNat_of_zero_le b
 have c:(BitVec.ofInt 64 (m:Int)^^^BitVec.ofInt 64 0).toNat=m:=by
  have d:BitVec.ofInt 64 0=0#64:=by decide
  rw[d,BitVec.xor_zero,BitVec.ofInt_natCast,BitVec.toNat_ofNat,q1p (by omega)]
 rw[e,c,IntKind.wrap_i64];omega
theorem Dt(a b:Nat):(a:Int).fdiv (b:Int)=((a/b:Nat):Int):=by
 rw[Int.fdiv_eq_ediv_of_nonneg _ (Int.natCast_nonneg _)];exact(Int.natCast_ediv a b).symm
theorem Yi{u:Nat}(h:u<18446744073709551616):cf .and .u64 (u:Int) 1=((u%2:Nat):Int):=by
 rw[mO _ _ _ _ (.inl rfl),show(1:Int)=((1:Nat):Int) from rfl,u64_and_nat _ _ h (by decide),nat_mask1]
theorem Ti{u:Nat}(h:u<18446744073709551616):cf .xor .i64 (IntKind.i64.wrap ((u:Int).fdiv 2)) (IntKind.i64.wrap (0-IntKind.i64.wrap (cf .and .u64 (u:Int) 1)))=oZ u:=by
 rw[show(2:Int)=((2:Nat):Int) from rfl,Dt,Yi h];have b:IntKind.i64.wrap ((u/2:Nat):Int)=((u/2:Nat):Int):=by rw[IntKind.wrap_i64];omega
 rw[b];unfold oZ;by_cases q:u%2=0
 ·rw[if_pos q,q];have a:IntKind.i64.wrap (0-IntKind.i64.wrap ((0:Nat):Int))=0:=by rw[IntKind.wrap_i64,IntKind.wrap_i64];rfl
  rw[a,Ba (by omega) (by omega)]
 ·have c:u%2=1:=by omega
  rw[if_neg q,c];have a:IntKind.i64.wrap (0-IntKind.i64.wrap ((1:Nat):Int))= -1:=by rw[IntKind.wrap_i64,IntKind.wrap_i64];rfl
  rw[a,A9 (by omega) (by omega)]
def bl(u:Nat):List Nat:=if u=0 then [0]else if u<128 then [1,0]++bitsOf u 7 else if u<4096 then [1,1,0]++bitsOf u 12 else if u<16777216 then [1,1,1,0]++bitsOf u 24 else [1,1,1,1]++bitsOf u 64
theorem dZ.lit{l:List Nat}(h:l.all (λb=>decide (b<2))=true):dZ l:=λb a=>by
 have:=q0a.1 h b a;exact of_decide_eq_true this
theorem ra(u:Nat):dZ (bl u):=by
 unfold bl
 repeat' split
 ·exact .lit rfl
 all_goals exact(dZ.lit rfl).app (dH _ _)
theorem gM(u:Nat):(bl u).length<=68/\1<=(bl u).length:=by
 unfold bl
 repeat' split
 all_goals simp[aS]
abbrev W64(x:Int):Int:=IntKind.i64.wrap x
theorem xb(x:Int):aP (W64 x):=by
 unfold aP W64;rw[IntKind.wrap_i64];omega
theorem db{x:Int}(h:aP x):W64 x=x:=by
 have:=h.1;have:=h.2;show IntKind.i64.wrap x=x;rw[IntKind.wrap_i64];omega
def iv(x:Int):Nat:=(x%18446744073709551616).toNat
theorem MK(x:Int):IntKind.u64.wrap x=((iv x:Nat):Int):=by rw[wrap_u64];unfold iv;omega
theorem FQ(x:Int):iv x<18446744073709551616:=by unfold iv;omega
theorem Du{x:Int}(h:aP x):W64 ((iv x:Nat):Int)=x:=by
 have:=h.1;have:=h.2;show IntKind.i64.wrap _=x;unfold iv;rw[IntKind.wrap_i64];omega
def tAt(X:Smp)(i:Nat):Int:=((X[i]?).getD (0,0)).1
def vAt(X:Smp)(i:Nat):Int:=((X[i]?).getD (0,0)).2
def fw(X:Smp)(i:Nat):Int:=if i<2 then 0 else W64 (tAt X (i-1)-tAt X (i-2))
def dT(X:Smp)(i:Nat):Nat:=A8 (W64 (W64 (tAt X i-tAt X (i-1))-fw X i))
def dV(X:Smp)(i:Nat):Nat:=A8 (W64 (vAt X i-vAt X (i-1)))
def ct(X:Smp)(i:Nat):List Nat:=if i=0 then bitsOf (iv (tAt X 0)) 64++bitsOf (iv (vAt X 0)) 64 else bl (dT X i)++bl (dV X i)
def aM(X:Smp):Nat->List Nat
 |0=> []
 |i+1=>aM X i++ct X i
def a8(X:Smp):List Nat:=aM X X.length
theorem FT(X:Smp)(i:Nat):dZ (ct X i):=by
 unfold ct;split
 ·exact(dH _ _).app (dH _ _)
 ·exact(ra _).app (ra _)
theorem iw(X:Smp):∀i,dZ (aM X i)
 |0=> .nil
 |i+1=>(iw X i).app (FT X i)
theorem zF(X:Smp):dZ (a8 X):=iw X _
theorem pU(X:Smp):∀i,(aM X i).length<=136*i
 |0=>by simp[aM]
 |i+1=>by
  have a:=pU X i
  have b:(ct X i).length<=136:=by
   unfold ct;split
   ·simp[aS]
   ·rw[Z5];have:=(gM (dT X i)).1;have:=(gM (dV X i)).1;omega
  simp only[aM,Z5];omega
theorem Dv(X:Smp):(a8 X).length<=136*X.length:=pU X _
theorem tY(X:Smp)(i:Nat):∀k,∃D,aM X (i+k)=aM X i++D
 |0=>⟨[],by simp⟩
 |k+1=>by
  obtain⟨D,h⟩:=tY X i k;exact⟨D++ct X (i+k),by show aM X (i+k)++ct X (i+k)=_;rw[h,q0q]⟩
theorem FU{X:Smp}{i:Nat}(h:i<X.length):∃D,a8 X=aM X i++(ct X i++D):=by
 obtain⟨D,a⟩:=tY X (i+1) (X.length-(i+1));refine⟨D,?_⟩;unfold a8;rw[show X.length=i+1+(X.length-(i+1)) from by omega,a];simp[aM]
theorem ML:a8 []=[]:=rfl
def aN(s:List Nat)(a m:Nat):List Nat:=(List.range m).map λj=>sw s (a+j)
theorem Dw{B A C D:List Nat}(b:dZ B)(h:B=A++(C++D)):aN (pack B) A.length C.length=C:=by
 apply List.ext_getElem?;intro j;by_cases a:j<C.length
 ·have c:A.length+j<B.length:=by rw[h];simp;omega
  simp only[aN,q0s,List.getElem?_range a,q0h];rw[FP b c,Y0 a];congr 1
  (try simp only[h])
  rw[List.getElem_append_right (by omega),q3s (by omega)];congr 1;omega
 ·rw[q2g (by simp[aN];omega),q2g (by omega)]
theorem Dx(s:List Nat)(a j:Nat):aN s a (j+1)=aN s a j++ [sw s (a+j)]:=by
 simp[aN,List.range_succ]
theorem Dy(s:List Nat)(a j:Nat):dZ (aN s a j):=λb c=>by
 simp only[aN,q0e]at c;obtain⟨_,_,rfl⟩:=c;exact q4k _ (by decide)
theorem mq(s:List Nat)(a j:Nat):(aN s a j).length=j:=by simp[aN]
theorem JY(a:Nat)(B:List Nat)(b:Nat):cR a (B++ [b])=2*cR a B+b:=by rw[w9];rfl
theorem VW{u b:Nat}(d:u<9223372036854775808)(e:b<2):cf .or .u64 (IntKind.u64.wrap ((u:Int)*2)) (IntKind.u64.wrap (b:Int))=((2*u+b:Nat):Int):=by
 have a:IntKind.u64.wrap ((u:Int)*2)=((2*u:Nat):Int):=by rw[wrap_u64];omega
 have c:IntKind.u64.wrap (b:Int)=((b:Nat):Int):=by rw[wrap_u64];omega
 rw[a,c,mO _ _ _ _ (.inr (.inl rfl)),u64_or_nat _ _ (by omega) (by omega),nat_join 1 _ _ (by omega) (by omega)]
theorem Tj{c q:Nat}(a:c<256):cf .and .u8 (((c/q:Nat)):Int) 1=((c/q%2:Nat):Int):=by
 rw[mO _ _ _ _ (.inl rfl),show(1:Int)=((1:Nat):Int) from rfl,u8_and_nat _ _ (Nat.lt_of_le_of_lt (Nat.div_le_self _ _) a) (by decide),nat_mask1]
theorem Tk(c:Nat):cf .and .u8 (IntKind.u8.wrap (c:Int)) 1=((c%2:Nat):Int):=by
 have a:IntKind.u8.wrap (c:Int)=((c%256:Nat):Int):=by rw[IntKind.wrap_u8];omega
 rw[a,mO _ _ _ _ (.inl rfl),show(1:Int)=((1:Nat):Int) from rfl,u8_and_nat _ _ (by omega) (by decide),nat_mask1];congr 1;omega
theorem Tl{b r:Nat}(a:b<2)(c:r<8):IntKind.u8.wrap ((b:Int)*(2:Int)^r)=((b*2^r:Nat):Int):=by
 have d:(2:Nat)^r<=2^7:=Nat.pow_le_pow_right (by decide) (by omega);have f:b*2^r<=1*2^r:=q1h _ (by omega)
 have e:((b:Int)*(2:Int)^r)=((b*2^r:Nat):Int):=by
  rw[Int.natCast_mul,Int.natCast_pow];rfl
 rw[e,IntKind.wrap_u8];omega
theorem Sl{a b r:Nat}(c:a<256)(d:a%2^(r+1)=0)(e:b<2)(f:r<8):cf .or .u8 (a:Int) ((b*2^r:Nat):Int)=((a+b*2^r:Nat):Int):=by
 have g:(2:Nat)^r<=2^7:=Nat.pow_le_pow_right (by decide) (by omega);have h:b*2^r<=1*2^r:=q1h _ (by omega);have i:0<2^r:=Nat.two_pow_pos r;rw[mO _ _ _ _ (.inr (.inl rfl)),u8_or_nat _ _ c (by omega),nat_join (r+1) _ _ d (by rw[q3t];omega)]
theorem FV{C:List Nat}(h:C.length<8):l8 C%2^(7-C.length+1)=0:=by
 rw[sx,show 7-C.length+1=8-C.length from by omega];exact Nat.mul_mod_left _ _
def dd(s:List Nat):List AV:=s.map λc=> .si .u8 (Int.ofNat c)
theorem iH(s:List Nat):(dd s).length=s.length:=by simp[dd]
theorem dU(s:List Nat):(dd s).all flat.flat1=true:=by
 rw[q0a];intro x a;simp only[dd,q0e]at a;obtain⟨c,_,rfl⟩:=a;rfl
theorem de(s:List Nat):(dd s).map mk=dd s:=by simp[dd,mk]
inductive yN(H:AH)(m:Nat)(r:Nat->Nat):List AV->List AV->Prop where
 |nil:yN H m r [] []
 |cons {a a':AV} {l l':List AV} (h:ab H m r a a') (k:yN H m r l l'):yN H m r (a::l) (a'::l')
section
variable {H:AH} {m:Nat} {r:Nat->Nat}
theorem yN.length:∀{l l':List AV},yN H m r l l'->l.length=l'.length
 |_,_,.nil=>rfl
 |_,_,.cons _ k=>congrArg (·+1) k.length
theorem yN.at:∀{l l':List AV},yN H m r l l'->∀(i:Nat) (c:AV),l'[i]?=some c->∃a,l[i]?=some a/\ab H m r a c
 |_,_,.nil,i,c,h=>by simp at h
 |_,_,.cons (a:=a) q k,0,c,h=>by
  simp only[q1t,q1z]at h;subst h;exact⟨a,rfl,q⟩
 |_,_,.cons q k,i+1,c,h=>by
  obtain⟨b,d,e⟩:=k.at i c (by simpa using h);exact⟨b,by simpa using d,e⟩
theorem an.st{l l':List AV}{z:Bool}(h:yN H m r l l'):an H m r (.cells l z) (.cells l' z):=
 an.cells (by rw[h.length];exact Z6 _) (λq=>q) h.at
end
mutual
theorem JZ(r:Nat->Nat):∀a:AV,flat.flat1 a=true->ren r a=a
 | .int _ _,_=>rfl
 | .str _,_=>rfl
 | .bool _,_=>rfl
 | .nil,_=>rfl
 | .nsl,_=>rfl
 | .si _ _,_=>rfl
 | .sb _,_=>rfl
 | .ss _,_=>rfl
 | .any _,_=>rfl
 | .bad,h=>rfl
 | .ptr _ _,h=>by cases h
 | .sl _ _ _ _ _,h=>by cases h
 | .esl _,h=>by cases h
 | .agg _,h=>by cases h
 | .tup _,h=>by cases h
 | .fn _ _ _,h=>by cases h
 | .map _,h=>by cases h
 | .sy _ _ _ _ _,h=>by cases h
 | .rw _ _ _ _ _,h=>by cases h
 | .fr _ _ _,h=>by rfl
 | .fa _ _,h=>by rfl
end
theorem zG(r:Nat->Nat):∀l:List AV,l.all flat.flat1=true->dw r l=l
 | [],_=>rfl
 |a::l,h=>by
  simp only[q1x,Z7]at h;rw[dw,JZ r a h.1,zG r l h.2]
theorem J0(m:Nat):∀a:AV,flat.flat1 a=true->ltV m a=true
 | .int _ _,_=>rfl
 | .str _,_=>rfl
 | .bool _,_=>rfl
 | .nil,_=>rfl
 | .nsl,_=>rfl
 | .si _ _,_=>rfl
 | .sb _,_=>rfl
 | .ss _,_=>rfl
 | .any _,_=>rfl
 | .bad,h=>rfl
 | .ptr _ _,h=>by cases h
 | .sl _ _ _ _ _,h=>by cases h
 | .esl _,h=>by cases h
 | .agg _,h=>by cases h
 | .tup _,h=>by cases h
 | .fn _ _ _,h=>by cases h
 | .map _,h=>by cases h
 | .sy _ _ _ _ _,h=>by cases h
 | .rw _ _ _ _ _,h=>by cases h
 | .fr _ _ _,h=>by rfl
 | .fa _ _,h=>by rfl
theorem xc(m:Nat):∀l:List AV,l.all flat.flat1=true->jO m l=true
 | [],_=>rfl
 |a::l,h=>by
  simp only[q1x,Z7]at h;rw[jO,J0 m a h.1,xc m l h.2];rfl
theorem VR.VX{φ:Ph}{a b:AV}{v:Value}(f:Go.Proofs.YtflehenfikoniaaGreat.flat.flat1 b=true)(e:Go.Proofs.YtflehenfikoniaaGreat.mk a=Go.Proofs.YtflehenfikoniaaGreat.mk b)(h:VR φ a v):VR φ b v:=by
 have c:VR φ (Go.Proofs.YtflehenfikoniaaGreat.mk b) v:=e▸h.mk;have d:VR φ b v:=by cases b<;>exact c
 exact d
theorem HR.FX{φ:Ph}{H:AH}{n:Nat}{c h:Hp}(f:HR φ H n c h){b:Nat}{l l':List AV}{z:Bool}(g:H.get b=some (.cells l z))(j:l'.all Go.Proofs.YtflehenfikoniaaGreat.flat.flat1=true)(e:l.map Go.Proofs.YtflehenfikoniaaGreat.mk=l'.map Go.Proofs.YtflehenfikoniaaGreat.mk):HR φ (H.set (some (.cells l' z)) aa b) n c h:=
 f.MG g (by have:=congrArg List.length e;simp only[Y9]at this;omega) λi k d=>by
  have e:=congrArg (λx:List AV=>x[i]?) e;simp only[q0s,d,q0h]at e;rw[Z8]at e;obtain⟨a,o,p⟩:=e;exact⟨a,o,λv q=>q.VX (q0a.1 j k (q0l d)) p⟩
def Up(L:Smp):Prop:=L.Pairwise λx y=>x.1<y.1
def plc:Smp->Int->Nat
 | [],_=>0
 |x::L,t=>if x.1<t then plc L t+1 else 0
def has(L:Smp)(t:Int):Bool:=decide (plc L t<L.length/\tAt L (plc L t)=t)
def jP(L:Smp)(t v:Int):Smp:=L.take (plc L t)++(t,v)::L.drop (plc L t)
def lq(L:Smp)(t v:Int):Smp:=L.set (plc L t) (t,v)
def bo(p old now:Int):Int×Int:=
 if p=1 then(0,8)else if p=2 then(old,0)else if p=3 then(now,0)else if p=4 then(min old now,0)else if p=5 then(max old now,0)
 else if p=6 then(if(0<=now/\W64 (old+now)<old)∨(now<0/\old<W64 (old+now))then(0,9)else(W64 (old+now),0))else(0,1)
def rb(size:Nat)(L M:Smp):Smp×Int:=if(a8 M).length<=8*size then(M,0)else(L,2)
def fp(size:Nat)(L:Smp)(t v p:Int):Smp×Int:=
 if t<0∨1099511627776<=t then(L,1)
 else if has L t then(if(bo p (vAt L (plc L t)) v).2≠0 then(L,(bo p (vAt L (plc L t)) v).2)else rb size L (lq L t (bo p (vAt L (plc L t)) v).1))
 else rb size L (jP L t v)
def aR(L:Smp)(a b:Int):Smp:=L.filter λx=>decide (x.1<a)||decide (b<x.1)
def ja(L:Smp)(t:Int):Int×Int:=if has L t then(vAt L (plc L t),0)else(0,5)
theorem re:∀(L:Smp) (t:Int),plc L t<=L.length
 | [],_=>Z6 _
 |x::L,t=>by
  unfold plc;split
  ·have:=re L t;simp only[Z9];omega
  ·exact Y5 _
theorem Bb:∀{L:Smp} {t:Int} {j:Nat} (h:j<plc L t),tAt L j<t
 | [],t,j,h=>by simp[plc]at h
 |x::L,t,j,h=>by
  unfold plc at h;split at h
  ·rename_i a;cases j with
   |zero=>exact a
   |succ j=>
    have:=Bb (L:=L) (t:=t) (j:=j) (by omega);simpa[tAt]using this
  ·omega
theorem Bd:∀{L:Smp} {t:Int} (_:plc L t<L.length),t<=tAt L (plc L t)
 | [],t,h=>by simp at h
 |x::L,t,h=>by
  unfold plc at h⊢;split
  ·rename_i a;rw[if_pos a]at h;have:=Bd (L:=L) (t:=t) (by simpa using h);simpa[tAt]using this
  ·rename_i a;show t<=x.1;omega
theorem ew{L:Smp}{i:Nat}(h:i<L.length):tAt L i=L[i].1:=by simp[tAt,h]
theorem o8{L:Smp}{i:Nat}(h:i<L.length):vAt L i=L[i].2:=by simp[vAt,h]
theorem Up.lt{L:Smp}(h:Up L){i j:Nat}(hi:i<j)(a:j<L.length):tAt L i<tAt L j:=by
 rw[ew a,ew (by omega)];exact q3n.1 h i j (by omega) a hi
theorem Up.of{L:Smp}(h:∀i,i+1<L.length->tAt L i<tAt L (i+1)):Up L:=by
 refine q3n.2 λi j c a b=>?_
 obtain⟨k,rfl⟩:∃k,j=i+1+k:=⟨j-(i+1),by omega⟩;clear b;rw[<-ew c,<-ew a]
 induction k with
 |zero=>exact h i a
 |succ k d=>exact Int.lt_trans (d (by omega)) (h (i+1+k) a)
theorem PU{L:Smp}(h:Up L)(t:Int):has L t=true<->∃x∈L,x.1=t:=by
 unfold has;rw[decide_eq_true_eq];constructor
 ·intro⟨c,b⟩;exact⟨L[plc L t],q0i c,by rw[<-ew c];exact b⟩
 ·intro⟨x,e,a⟩;obtain⟨i,d,rfl⟩:=q1s.1 e;rw[<-ew d]at a;have c:¬i<plc L t:=λq=>by have:=Bb q;omega
  have b:plc L t<L.length:=by omega
  refine⟨b,?_⟩;have f:=Bd b;rcases q3b (plc L t) i with q|q
  ·have:=h.lt q d;omega
  ·have:i=plc L t:=by omega
   rw[this]at a;exact a
theorem Be{L:Smp}{t:Int}(h:has L t=true):(t,vAt L (plc L t))∈L:=by
 unfold has at h;rw[decide_eq_true_eq]at h;have:=q0i h.1
 have e:L[plc L t]=(t,vAt L (plc L t)):=by
  rw[o8 h.1];refine Prod.ext ?_ rfl
  rw[<-ew h.1];exact h.2
 rw[<-e];exact this
theorem lr(L:Smp)(t v:Int):(jP L t v).length=L.length+1:=by
 have:=re L t;simp[jP];omega
theorem sD(L:Smp)(t v:Int):(lq L t v).length=L.length:=by simp[lq]
theorem o9{L:Smp}{t v:Int}{x:Int×Int}:x∈jP L t v<->x=(t,v)∨x∈L:=by
 unfold jP;rw[q1d,Z3];have:=q1i (plc L t) L;constructor
 ·rintro(h|h|h)
  ·exact .inr (q3f h)
  ·exact .inl h
  ·exact .inr (List.mem_of_mem_drop h)
 ·rintro(h|h)
  ·exact .inr (.inl h)
  ·rw[<-this,q1d]at h;rcases h with h|h
   ·exact .inl h
   ·exact .inr (.inr h)
theorem Hy{L:Smp}(h:Up L){t:Int}(hn:has L t=false)(v:Int):Up (jP L t v):=by
 have hle:=re L t;refine .of λi c=>?_
 rw[lr]at c
 have key:∀j,j<L.length+1->tAt (jP L t v) j=if j<plc L t then tAt L j else if j=plc L t then t else tAt L (j-1):=λj l=>by
  unfold tAt jP;have g:(L.take (plc L t)).length=plc L t:=by simp;omega
  split
  ·rename_i q;rw[q1f (by omega),List.getElem?_take,if_pos q]
  ·rename_i q;rw[q0x (by omega),g];split
   ·rename_i d;subst d;simp
   ·rename_i d;obtain⟨m,rfl⟩:∃m,j=plc L t+1+m:=⟨j-(plc L t+1),by omega⟩;rw[show plc L t+1+m-plc L t=m+1 from by omega,q1g,q2t,show plc L t+1+m-1=plc L t+m from by omega]
 rw[key i (by omega),key (i+1) c]
 have k:plc L t<L.length->t<tAt L (plc L t):=λq=>by
  have a:=Bd q
  have b:tAt L (plc L t)≠t:=λe=>by
   unfold has at hn;rw[decide_eq_false_iff_not]at hn;exact hn ⟨q,e⟩
  omega
 by_cases a:i+1<plc L t
 ·rw[if_pos (by omega),if_pos a];exact h.lt (q1l i) (by omega)
 ·rw[if_neg a];by_cases b:i+1=plc L t
  ·rw[if_pos b,if_pos (by omega)];exact Bb (by omega)
  ·rw[if_neg b];by_cases f:i=plc L t
   ·rw[if_neg (by omega),if_pos f,show i+1-1=plc L t from by omega];exact k (by omega)
   ·rw[if_neg (by omega),if_neg f];exact h.lt (by omega) (by omega)
theorem sF{L:Smp}(h:Up L){t v:Int}(g:has L t=true){x:Int×Int}:x∈lq L t v<->x=(t,v)∨(x∈L/\x.1≠t):=by
 have a:=g;unfold has at a;rw[decide_eq_true_eq]at a;obtain⟨f,j⟩:=a;unfold lq;constructor
 ·intro c;obtain⟨i,b,e⟩:=q1s.1 c;rw[List.length_set]at b;rw[List.getElem_set]at e;split at e
  ·exact .inl e.symm
  ·rename_i q;refine .inr ⟨by rw[<-e];exact q0i b,λk=>?_⟩;rw[<-e,<-ew b]at k;rcases Nat.lt_or_gt_of_ne q with q|q
   ·have:=h.lt q b;omega
   ·have:=h.lt q f;omega
 ·rintro(rfl|⟨c,d⟩)
  ·exact q1s.2 ⟨plc L t,by simpa using f,by simp⟩
  ·obtain⟨i,b,e⟩:=q1s.1 c;have:plc L t≠i:=λq=>d (by subst q;rw[<-e,<-ew b];exact j)
   exact q1s.2 ⟨i,by simpa using b,by rw[List.getElem_set_ne this];exact e⟩
theorem Hz{L:Smp}(h:Up L){t v:Int}(c:has L t=true):Up (lq L t v):=by
 have a:=c;unfold has at a;rw[decide_eq_true_eq]at a
 have key:∀j,tAt (lq L t v) j=tAt L j:=λj=>by
  unfold lq tAt;rw[List.getElem?_set];split
  ·rename_i q;subst q;rw[if_pos a.1];have:=a.2;unfold tAt at this;rw[this];rfl
  ·rfl
 refine .of λi b=>?_
 rw[sD]at b;rw[key,key];exact h.lt (q1l i) b
def cF(L:Smp):Prop:=Up L/\(∀x∈L,(0<=x.1/\x.1<1099511627776)/\aP x.2)/\L.length<=20000
theorem cF.nil:cF []:=⟨List.Pairwise.nil,(λx h=>by cases h),Y5 _⟩
theorem cF.jQ{L:Smp}(h:cF L):∀x∈L,aP x.1/\aP x.2:=λx a=>by
 obtain⟨⟨c,d⟩,b⟩:=h.2.1 x a;exact⟨⟨by omega,by omega⟩,b⟩
theorem cF.sub{L M:Smp}(h:cF L)(a:M.Sublist L):cF M:=⟨h.1.sublist a,λx b=>h.2.1 x (a.subset b),Y7 a.length_le h.2.2⟩
theorem Dz(X:Smp):∀i,2*i<=(aM X i).length
 |0=>Y5 _
 |i+1=>by
  have a:=Dz X i
  have b:2<=(ct X i).length:=by
   unfold ct;split
   ·simp[aS]
   ·rw[Z5];have:=(gM (dT X i)).2;have:=(gM (dV X i)).2;omega
  simp only[aM,Z5];omega
theorem HA(X:Smp):2*X.length<=(a8 X).length:=Dz X _
theorem PV{a b:Int}(h:aP a)(k:aP b):aP (min a b):=by
 rcases Int.le_total a b with q|q
 ·rw[Int.min_eq_left q];exact h
 ·rw[Int.min_eq_right q];exact k
theorem PW{a b:Int}(h:aP a)(k:aP b):aP (max a b):=by
 rcases Int.le_total a b with q|q
 ·rw[Int.max_eq_right q];exact k
 ·rw[Int.max_eq_left q];exact h
theorem zH{p a b:Int}(h:aP a)(k:aP b):aP (bo p a b).1:=by
 have z:aP 0:=⟨by omega,by omega⟩;unfold bo;split;exact z;split;exact h;split;exact k;split;exact PV h k;split;exact PW h k;split
 ·split
  ·exact z
  ·exact xb _
 ·exact z
theorem zI{size:Nat}(c:size<=4096){L M:Smp}(h:cF L)(a:Up M)(b:∀x∈M,(0<=x.1/\x.1<1099511627776)/\aP x.2):cF (rb size L M).1:=by
 unfold rb;split
 ·rename_i q;have:=HA M;exact⟨a,b,by show M.length<=20000;omega⟩
 ·exact h
theorem J1{size:Nat}(d:size<=4096){L:Smp}(h:cF L){t v p:Int}(hv:aP v):cF (fp size L t v p).1:=by
 unfold fp;split
 ·exact h
 ·rename_i c;have c:0<=t/\t<1099511627776:=by omega
  split
  ·rename_i a;have ho:aP (vAt L (plc L t)):=(h.2.1 _ (Be a)).2;split
   ·exact h
   ·refine zI d h (Hz h.1 a) λx b=>?_
    rcases(sF h.1 a).1 b with rfl|⟨b,_⟩
    ·exact⟨c,zH ho hv⟩
    ·exact h.2.1 x b
  ·rename_i a;have a:has L t=false:=by simpa using a
   refine zI d h (Hy h.1 a v) λx b=>?_
   rcases o9.1 b with rfl|b
   ·exact⟨c,hv⟩
   ·exact h.2.1 x b
theorem xd{L:Smp}(h:cF L)(a b:Int):cF (aR L a b):=h.sub List.filter_sublist
theorem pV{L:Smp}(h:L.length<=7):(a8 L).length<=944:=by
 have key:∀i,(aM L (i+1)).length<=128+136*i:=λi=>by
  induction i with
  |zero=>simp[aM,ct,aS]
  |succ i a=>
   show(aM L (i+1)++ct L (i+1)).length<=_;rw[Z5]
   have b:(ct L (i+1)).length<=136:=by
    unfold ct;rw[if_neg (by omega),Z5];have:=(gM (dT L (i+1))).1;have:=(gM (dV L (i+1))).1;omega
   omega
 unfold a8;cases c:L.length with
 |zero=>simp[aM]
 |succ k=>have:=key k;omega
def sG(L:Smp):Int:=tAt L (L.length-1)
def qE(L M:Smp):Bool:=decide (L≠[])&&decide (M≠[])&&decide (tAt M 0<=sG L)
def bU(size:Nat)(L M:Smp):(Smp×Smp)×Int:=if qE L M then((L,M),1)else if(a8 (L++M)).length<=8*size then((L++M,[]),0)else((L,M),2)
theorem J2{size:Nat}(o:size<=4096){L M:Smp}(h:cF L)(k:cF M):cF (bU size L M).1.1/\cF (bU size L M).1.2:=by
 unfold bU;split
 ·exact⟨h,k⟩
 ·rename_i g;split
  ·rename_i p;refine⟨⟨.of λi d=>?_,λx a=>?_,?_⟩,.nil⟩
   ·rw[Z5]at d;have b:∀j,j<L.length->tAt (L++M) j=tAt L j:=λj c=>by simp[tAt,q1f c]
    have e:∀j,L.length<=j->tAt (L++M) j=tAt M (j-L.length):=λj c=>by simp[tAt,q0x c]
    by_cases f:i+1<L.length
    ·rw[b i (by omega),b _ f];exact h.1.lt (q1l i) f
    ·rw[e (i+1) (by omega)];by_cases l:i+1=L.length
     ·rw[b i (by omega),show i+1-L.length=0 from by omega];have m:L≠[]:=λq=>by subst q;simp at l
      have n:M≠[]:=λq=>by subst q;simp at d;omega
      have:¬tAt M 0<=sG L:=λq=>g (by simp[qE,m,n,q])
      unfold sG at this;rw[show L.length-1=i from by omega]at this;omega
     ·rw[e i (by omega),show i+1-L.length=i-L.length+1 from by omega];exact k.1.lt (q1l _) (by omega)
   ·rcases q1d.1 a with a|a
    ·exact h.2.1 x a
    ·exact k.2.1 x a
   ·have:=HA (L++M);show(L++M).length<=20000;omega
  ·exact⟨h,k⟩
def ez(H:AH)(n:Nat)(H':AH)(c:Nat):Prop:=∀(a:Ph) (b h:Hp),HR a H n b h->HR a H' c b h
def VTo(u v:AV):Prop:=∀(a:Ph) (w:Value),VR a u w->VR a v w
theorem ez.refl(H:AH)(n:Nat):ez H n H n:=λ_ _ _ h=>h
theorem ez.trans{a b c:AH}{d e f:Nat}(h:ez a d b e)(k:ez b e c f):ez a d c f:=λg i j q=>k g i j (h g i j q)
theorem ez.FX{H:AH}{n b:Nat}{l l':List AV}{z:Bool}(a:H.get b=some (.cells l z))(c:l'.all flat.flat1=true)(e:l.map Go.Proofs.YtflehenfikoniaaGreat.mk=l'.map Go.Proofs.YtflehenfikoniaaGreat.mk):ez H n (H.set (some (.cells l' z)) aa b) n:=λ_ _ _ d=>d.FX a c e
theorem VTo.refl(u:AV):VTo u u:=λ_ _ h=>h
def post(g:List AV->AH->Nat->PK->Prop)(args:List AV)(H:AH)(n:Nat)(κ:PK):Prop:=g args H n λu c d=>∃v a b,VTo u v/\ez c d a b/\κ v a b
theorem ai.post{f:FuncId}{g:List AV->AH->Nat->PK->Prop}(c:ai f g):ai f (post g):=λargs H n z d e i h j K k l m=>c args H n _ d e i h j K k l λo u A B w p a b q ⟨v,r,s,t,x,y⟩=>m o v r s w p a (x _ _ _ b) (t _ _ q) y
theorem PX{s:List Nat}{i:Nat}(h:i<s.length):(dd s)[i]?=some (.si .u8 (Int.ofNat s[i])):=by
 unfold dd;rw[q0s,Y0 h];rfl
theorem xe:∀(l:List AV) (o:Nat) (x:AV),o<l.length->fA l o [x]=some (l.set o x)
 | [],o,x,h=>by simp at h
 |y::l,0,x,_=>by cases l<;>simp[fA]
 |y::l,o+1,x,h=>by simp[fA,xe l o x (by simpa using h)]
theorem MM(s:List Nat)(o:Nat)(c:Nat):(dd s).set o (.si .u8 (Int.ofNat c))=dd (s.set o c):=by simp[dd,List.map_set]
theorem MN(s t:List Nat):dd (s++t)=dd s++dd t:=by simp[dd]
theorem DA{s:List Nat}(h:∀x∈s,x<256):lj (dd s)=some s:=wT h
def shN(N:Nat):Nat:=7-N%8
theorem HB(N:Nat):IntKind.i64.wrap (7-((N:Nat):Int).tmod 8)=((shN N:Nat):Int):=by
 have h:((N:Nat):Int).tmod 8=((N%8:Nat):Int):=by
  rw[Int.tmod_eq_emod_of_nonneg (Int.natCast_nonneg _)];rfl
 rw[h];have:=q4k N (show 8>0 by decide);unfold shN;rw[IntKind.wrap_i64];omega
theorem MO(N:Nat):min (IntKind.i64.wrap (7-((N:Nat):Int).tmod 8)).toNat 8=shN N:=by
 rw[HB];unfold shN;simp;omega
theorem div_eq(N:Nat)(h:N<=9223372036854775807):IntKind.i64.wrap (((N:Nat):Int).tdiv 8)=((N/8:Nat):Int):=by
 have e:((N:Nat):Int).tdiv 8=((N/8:Nat):Int):=by
  rw[Int.tdiv_eq_ediv_of_nonneg (Int.natCast_nonneg _)];rfl
 rw[e,IntKind.wrap_i64];omega
theorem HC(N:Nat):(((N:Nat):Int).tmod 8=0)<->N%8=0:=by
 have h:((N:Nat):Int).tmod 8=((N%8:Nat):Int):=by
  rw[Int.tmod_eq_emod_of_nonneg (Int.natCast_nonneg _)];rfl
 rw[h];omega
theorem fdiv_pow(U m:Nat):((U:Nat):Int).fdiv ((2:Int)^m)=((U/2^m:Nat):Int):=by
 have:((2:Int)^m)=((2^m:Nat):Int):=by rw[Int.natCast_pow];rfl
 rw[this,Dt]
theorem MP{U m:Nat}{i:Int}(hi:i=(m:Int))(a:m<64):cf .and .u8 (IntKind.u8.wrap (((U:Nat):Int).fdiv ((2:Int)^min i.toNat 64))) 1=((U/2^m%2:Nat):Int):=by
 subst hi;rw[show min (Int.toNat (m:Int)) 64=m from by simp;omega,fdiv_pow,Tk]
theorem wrU(x:Int)(b:Nat)(a:b<2)(c:x=(b:Int))(N:Nat):IntKind.u8.wrap (x*(2:Int)^min (IntKind.i64.wrap (7-((N:Nat):Int).tmod 8)).toNat 8)=((b*2^shN N:Nat):Int):=by
 subst c;rw[MO];exact Tl a (by unfold shN;omega)
theorem HD{B:List Nat}{x:Int}{b:Nat}(c:b<2)(f:x=(b:Int))(g:B.length%8=0){o:Nat}(ho:o=B.length/8):
 fA (dd (pack B)++ [.int .u8 0]) o [.si .u8 (cf .or .u8 0 (IntKind.u8.wrap (x*(2:Int)^min (IntKind.i64.wrap (7-((B.length:Nat):Int).tmod 8)).toNat 8)))]=some (dd (pack (B++ [b]))):=by
 have d:(dd (pack B)).length=B.length/8:=by rw[iH,bt];omega
 have h:shN B.length=7:=by unfold shN;omega
 rw[xe _ _ _ (by simp[d,ho]),wrU x b c f,h,xa g,MN]
 have e:cf .or .u8 0 ((b*2^7:Nat):Int)=Int.ofNat (b*2^7):=by
  have:=Sl (a:=0) (b:=b) (r:=7) (by decide) (by decide) c (by decide);rw[q0w]at this;exact this
 rw[e,q4g _ _ (by omega),d,ho,Nat.sub_self];rfl
theorem MQ{B:List Nat}(b:B.length%8=0){o:Nat}(ho:o=B.length/8):nth (dd (pack B)++ [.int .u8 0]) o=some (.int .u8 0):=by
 have a:(dd (pack B)).length=B.length/8:=by rw[iH,bt];omega
 rw[eX,q0x (by omega),a,ho,Nat.sub_self];rfl
theorem MS{B:List Nat}(c:B.length%8≠0){o:Nat}(ho:o=B.length/8):nth (dd (pack B)) o=some (.si .u8 (Int.ofNat (l8 (B.drop (8*(B.length/8)))))):=by
 have a:=l9 B (B.length/8) (by omega);have b:B.length/8<(pack B).length:=by rw[bt];omega
 rw[eX,ho,PX b];rw[Y0 b]at a;injection a with a;rw[a,q1n (by rw[q0p];omega)]
theorem HE{B:List Nat}{x:Int}{b:Nat}(h:dZ B)(g:b<2)(i:x=(b:Int))(j:B.length%8≠0){o:Nat}(ho:o=B.length/8):
 fA (dd (pack B)) o [.si .u8 (cf .or .u8 (Int.ofNat (l8 (B.drop (8*(B.length/8))))) (IntKind.u8.wrap (x*(2:Int)^min (IntKind.i64.wrap (7-((B.length:Nat):Int).tmod 8)).toNat 8)))]=some (dd (pack (B++ [b]))):=by
 have l:B.length/8<(dd (pack B)).length:=by rw[iH,bt];omega
 have hd:(B.drop (8*(B.length/8))).length=B.length%8:=by rw[q0p];omega
 have d:(B.drop (8*(B.length/8))).length<8:=by rw[hd];exact q4k _ (by decide)
 have f:=Dq (C:=B.drop (8*(B.length/8))) (λc f=>h c (List.mem_of_mem_drop f)) (by omega);have hr:=FV d;have k:shN B.length=7-(B.drop (8*(B.length/8))).length:=by rw[hd];rfl
 rw[xe _ _ _ (by omega),wrU x b g i,PT j,k,<-MM,ho];have e:=Sl (a:=l8 (B.drop (8*(B.length/8)))) (b:=b) (r:=7-(B.drop (8*(B.length/8))).length) f hr g (by omega);rw[show(Int.ofNat (l8 (B.drop (8*(B.length/8)))))=((l8 (B.drop (8*(B.length/8))):Nat):Int) from rfl,e,hd];rfl
theorem Tm{s:List Nat}(e:∀x∈s,x<256){a c:Nat}(b:nth s (a/8)=some c):cf .and .u8 ((Int.ofNat c).fdiv ((2:Int)^min (IntKind.i64.wrap (7-((a:Nat):Int).tmod 8)).toNat 8)) 1=((sw s a:Nat):Int):=by
 rw[eX]at b;have d:c<256:=e c (q0l b);rw[MO,show(Int.ofNat c)=((c:Nat):Int) from rfl,fdiv_pow,Tj d];unfold sw shN;rw[b];rfl
theorem PY{s:List Nat}(b:∀x∈s,x<256){a c u:Nat}(d:nth s (a/8)=some c)(e:u<9223372036854775808):
 cf .or .u64 (IntKind.u64.wrap (((u:Nat):Int)*2)) (IntKind.u64.wrap (cf .and .u8 ((Int.ofNat c).fdiv ((2:Int)^min (IntKind.i64.wrap (7-((a:Nat):Int).tmod 8)).toNat 8)) 1))=((2*u+sw s a:Nat):Int):=by
 rw[Tm b d];exact VW e (q4k _ (by decide))
theorem xf(s:List Nat)(a i j:Nat):aN s a (i+j)=aN s a i++aN s (a+i) j:=by
 unfold aN;rw[List.range_add,q0m,q4e];congr 1;exact q2y λk _=>by simp[q1m]
theorem J3(s:List Nat)(a:Nat){j:Nat}(h:j<=63):cR 0 (aN s a j)<9223372036854775808:=by
 have:=vu _ (Dy s a j);rw[mq]at this;have b:2^j<=2^63:=Nat.pow_le_pow_right (by decide) h;omega
theorem MT(x:Int):W64 x=(x+9223372036854775808)%18446744073709551616-9223372036854775808:=by
 show IntKind.i64.wrap x=_;rw[IntKind.wrap_i64]
theorem DC(a d:Int):W64 (a+W64 (W64 d-a))=W64 d:=by
 (try simp only[MT]);omega
theorem DD{a b:Int}(h:aP b):W64 (a+W64 (b-a))=b:=by
 have:=h.1;have:=h.2
 (try simp only[MT]);omega
theorem DE(X:Smp){i:Nat}(h:i≠0):W64 (fw X i+oZ (dT X i))=fw X (i+1):=by
 unfold dT;rw[Hw,DC];unfold fw;rw[if_neg (by omega)];congr 2
theorem VY{X:Smp}{i:Nat}(h:i≠0)(a:aP (tAt X i)):W64 (tAt X (i-1)+fw X (i+1))=tAt X i:=by
 unfold fw;rw[if_neg (by omega),show i+1-1=i from rfl,show i+1-2=i-1 from by omega];exact DD a
theorem VZ{X:Smp}{i:Nat}(a:aP (vAt X i)):W64 (vAt X (i-1)+oZ (dV X i))=vAt X i:=by
 unfold dV;rw[Hw];exact DD a
theorem Sm(X:Smp)(i:Nat):dT X i<18446744073709551616:=MI (xb _)
theorem Sn(X:Smp)(i:Nat):dV X i<18446744073709551616:=MI (xb _)
theorem MU{X:Smp}(h:∀x∈X,aP x.1/\aP x.2)(i:Nat):aP (tAt X i)/\aP (vAt X i):=by
 unfold tAt vAt;cases e:X[i]? with
 |none=>exact⟨⟨by decide,by decide⟩,⟨by decide,by decide⟩⟩
 |some x=>exact h x (q0l e)
theorem ab.fnp{H:AH}{m:Nat}{r:Nat->Nat}{a:AV}{f b o:Nat}(c:b<m)(e:a= .fn f [.ptr (r b) o] []):ab H m r a (.fn f [.ptr b o] []):=λs t v d _ g=>by
 subst e;obtain⟨xs,cs,rfl,h,i⟩:=g.nu;obtain⟨x,l,j,k,n⟩:=h.cons_inv;obtain⟨p,q,rfl⟩:=k.cw;refine .fn ?_ (by rw[i.aU];exact .nil);rw[j,n.aU];exact .cons (.ptr (by rw[d.1 b c];exact q)) .nil
def pb(c:Nat)(B:List Nat):List AV:=[.rw c 0 (pack B).length 1 0,.si .i64 ((B.length:Nat):Int)]
def V0 (H:AH) (n b c:Nat) (B:List Nat):AH:=((H.set (some (.cells (dd (pack B)) true)) aa n).set none aa c).set (some (.cells (pb n B) true)) aa b
def vw(args:List AV)(H:AH)(n:Nat)(κ:PK):Prop:=match args with
 | [x,u,m]=>∃(b c U k:Nat) (B:List Nat),x= .ptr b 0/\b≠c/\b<n/\c<n/\H.get b=some (.cells (pb c B) true)/\H.get c=some (.cells (dd (pack B)) true)/\dZ B/\mk u= .si .u64 (U:Int)/\mk m= .si .i64 (k:Int)/\k<=64/\U<2^k/\B.length<=100000000/\
  κ (.int .i64 0) (V0 H n b c (B++bitsOf U k)) (n+1)
 |_=>False
theorem uW(U k:Nat):bitsOf U (k+1)=[U/2^k%2]++bitsOf U k:=rfl
def wc (U:Nat) (D:List Nat) (k:Nat):AE×AH:=(mkE [(0,.si .u64 ((U:Nat):Int)),(2,.fn 238 [.ptr 0 0] []),(6,.si .i64 (((k:Nat):Int)-1))],mkH [(0,.cells (pb 2 D) true),(2,.cells (dd ((pack D))) true)])
def KW:FuncId->EP:=bg 238 [] evP
theorem V2:aW KW:=aw az (by kernel_rfl) (by kernel_rfl)
theorem MV{U k:Nat}(a:k<=64)(hd:U/2^k=0):¬0<((U:Nat):Int).fdiv ((2:Int)^min (Int.toNat (k:Int)) IntKind.u64.bits):=by
 rw[show min (Int.toNat (k:Int)) IntKind.u64.bits=k from by show min k 64=k;omega,fdiv_pow,hd];decide
theorem tyB:RTy 248 248 1 1:=⟨_,_,_,rfl,rfl,(λq h=>by cases h),rfl,rfl,rfl,rfl,by decide,by decide⟩
theorem MW(B:List Nat)(U k:Nat)(I:dZ B)(J:k<=64)(K:U<2^k)(L:B.length<=100000000):ay KW 5 226 [.ptr 0 0,.si .u64 (U:Int),.si .i64 (k:Int)] (mkH [(0,.cells (pb 1 B) true),(1,.cells (dd (pack B)) true)]) 2
 λu H' _=>u= .int .i64 0/\H'.get 0=some (.cells (pb 2 (B++bitsOf U k)) true)/\H'.get 2=some (.cells (dd (pack (B++bitsOf U k))) true):=by
 have y:U/2^k=0:=q3d K;have z:IntKind.i64.wrap ((k:Int)-1)=(k:Int)-1:=db ⟨by omega,by omega⟩
 conv=>whnf
 refine ah.dec (λh=>absurd h (by omega)) (λ_=>?_)
 conv=>whnf
 refine ah.dec (λh=>absurd h (by omega)) (λ_=>?_)
 conv=>whnf
 refine ah.dec (λC=>?_) (λC=>?_)
 ·conv=>whnf
  refine⟨by omega,?_⟩
  conv=>whnf
  refine ah.dec (λh=>absurd h (MV J y)) (λ_=>?_)
  conv=>whnf
  refine aQ.mk {t:List Nat×Nat//t.1++bitsOf U t.2=B++bitsOf U k/\dZ t.1/\t.2<=k/\t.1.length+t.2=B.length+k} 3 (λt=>wc U t.val.1 t.val.2) (λt=>t.val.2) ⟨(B,k),rfl,I,Z6 _,rfl⟩ ?_ ?_
  ·exact Cov.ofN [(2,1)] ⟨.int rfl,.fnp (by decide) rfl,sI (congrArg (AV.si .i64) z),trivial⟩ ⟨.inl ⟨_,rfl,an.st (.cons (ab.rw (by decide) rfl) (.cons (.int rfl) .nil))⟩,oR (dU _) (de _) (.inl ⟨_,rfl,de _⟩),trivial⟩
  ·intro⟨(D,m),v,w,E,j⟩;dsimp only at v w E j;have F:D.length<=100000064:=by omega
   have G:(pack D).length<=100000000:=by rw[bt];omega
   cases m with
   |zero=>
    conv=>whnf
    refine ah.dec (λx=>absurd x (by show¬(0:Int)<=((0:Nat):Int)-1;omega)) (λ_=>?_)
    conv=>whnf
    have e:D=B++bitsOf U k:=by simpa[bitsOf]using v
    subst e;exact⟨rfl,rfl,rfl⟩
   |succ m=>
    have g:U/2^m%2<2:=q4k _ (by decide);have l:0<=((m+1:Nat):Int)-1:=by omega
    have A:((m+1:Nat):Int)-1=(m:Int):=by omega
    have d:=MP (U:=U) A (by omega);have n:IntKind.i64.wrap (((m+1:Nat):Int)-1-1)=((m:Nat):Int)-1:=(congrArg IntKind.i64.wrap (congrArg (·-1) A)).trans (db ⟨by omega,by omega⟩);have o:IntKind.i64.wrap ((D.length:Int)+1)=(((D++ [U/2^m%2]).length:Nat):Int):=by rw[Z5,q1v];exact db ⟨by omega,by omega⟩
    have hq:=div_eq D.length (by omega);have f:0<=IntKind.i64.wrap (7-(D.length:Int).tmod 8):=by rw[HB];omega
    have p:bq (dd (pack D)) 0 ((pack D).length*1)=some (dd (pack D)):=bp (by rw[iH,q0r]);have a:(D++ [U/2^m%2])++bitsOf U m=B++bitsOf U k:=by rw[q0q,<-uW];exact v
    have r:((pack D).length+1)*1<=140737488355328:=by omega
    have s:dZ (D++ [U/2^m%2]):=w.app (.one g)
    conv=>whnf
    refine ah.dec (λ_=>?_) (λx=>absurd l x)
    conv=>whnf
    refine⟨l,?_⟩
    conv=>whnf
    refine ah.dec (λc=>?_) (λc=>?_)
    ·have c:=(HC _).1 c;have i:(pack (D++ [U/2^m%2])).length=(pack D).length+1:=by rw[xa c];simp
     have ho:0+D.length/8*1=D.length/8:=by omega
     have b:D.length/8<(pack D).length+1:=by rw[bt];omega
     conv=>whnf
     refine eY.grow 1 1 _ _ _ _ _ _ tyB (.old rfl) rfl rfl (.rw rfl p) r ?_
     conv=>whnf
     refine Idx.mk (D.length/8) hq b ?_
     conv=>whnf
     refine au (MQ c ho) ?_
     conv=>whnf
     refine⟨f,?_⟩
     conv=>whnf
     refine Idx.mk (D.length/8) hq b ?_
     conv=>whnf
     refine au (HD g d c ho) ?_
     conv=>whnf
     refine⟨⟨(D++ [U/2^m%2],m),a,s,by omega,by simp;omega⟩,q1l m,Cov.ofN [(2,4)] ⟨.int rfl,.fnp (by decide) rfl,sI (congrArg (AV.si .i64) n),trivial⟩ ⟨.inl ⟨_,rfl,an.st (.cons (ab.rw (by decide) rfl (hn:=i.symm)) (.cons (.int (congrArg (AV.si .i64) o)) .nil))⟩,oR (dU _) (de _) (.inl ⟨_,rfl,de _⟩),trivial⟩⟩
    ·have c:D.length%8≠0:=λq=>c ((HC _).2 q)
     have i:(pack (D++ [U/2^m%2])).length=(pack D).length:=by rw[bt,bt];simp;omega
     have ho:0+D.length/8*1=D.length/8:=by omega
     have b:D.length/8<(pack D).length:=by rw[bt];omega
     conv=>whnf
     refine Idx.mk (D.length/8) hq b ?_
     conv=>whnf
     refine au (MS c ho) ?_
     conv=>whnf
     refine⟨f,?_⟩
     conv=>whnf
     refine Idx.mk (D.length/8) hq b ?_
     conv=>whnf
     refine au (HE w g d c ho) ?_
     conv=>whnf
     refine⟨⟨(D++ [U/2^m%2],m),a,s,by omega,by simp;omega⟩,q1l m,Cov.ofN [(2,2)] ⟨.int rfl,.fnp (by decide) rfl,sI (congrArg (AV.si .i64) n),trivial⟩ ⟨.inl ⟨_,rfl,an.st (.cons (ab.rw (by decide) rfl (hn:=i.symm)) (.cons (.int (congrArg (AV.si .i64) o)) .nil))⟩,oR (dU _) (de _) (.inl ⟨_,rfl,de _⟩),trivial⟩⟩
 ·conv=>whnf
  refine aQ.mk {t:List Nat×Nat//t.1++bitsOf U t.2=B++bitsOf U k/\dZ t.1/\t.2<=k/\t.1.length+t.2=B.length+k} 3 (λt=>wc U t.val.1 t.val.2) (λt=>t.val.2) ⟨(B,k),rfl,I,Z6 _,rfl⟩ ?_ ?_
  ·exact Cov.ofN [(2,1)] ⟨.int rfl,.fnp (by decide) rfl,sI (congrArg (AV.si .i64) z),trivial⟩ ⟨.inl ⟨_,rfl,an.st (.cons (ab.rw (by decide) rfl) (.cons (.int rfl) .nil))⟩,oR (dU _) (de _) (.inl ⟨_,rfl,de _⟩),trivial⟩
  ·intro⟨(D,m),v,w,E,j⟩;dsimp only at v w E j;have F:D.length<=100000064:=by omega
   have G:(pack D).length<=100000000:=by rw[bt];omega
   cases m with
   |zero=>
    conv=>whnf
    refine ah.dec (λx=>absurd x (by show¬(0:Int)<=((0:Nat):Int)-1;omega)) (λ_=>?_)
    conv=>whnf
    have e:D=B++bitsOf U k:=by simpa[bitsOf]using v
    subst e;exact⟨rfl,rfl,rfl⟩
   |succ m=>
    have g:U/2^m%2<2:=q4k _ (by decide);have l:0<=((m+1:Nat):Int)-1:=by omega
    have A:((m+1:Nat):Int)-1=(m:Int):=by omega
    have d:=MP (U:=U) A (by omega);have n:IntKind.i64.wrap (((m+1:Nat):Int)-1-1)=((m:Nat):Int)-1:=(congrArg IntKind.i64.wrap (congrArg (·-1) A)).trans (db ⟨by omega,by omega⟩);have o:IntKind.i64.wrap ((D.length:Int)+1)=(((D++ [U/2^m%2]).length:Nat):Int):=by rw[Z5,q1v];exact db ⟨by omega,by omega⟩
    have hq:=div_eq D.length (by omega);have f:0<=IntKind.i64.wrap (7-(D.length:Int).tmod 8):=by rw[HB];omega
    have p:bq (dd (pack D)) 0 ((pack D).length*1)=some (dd (pack D)):=bp (by rw[iH,q0r]);have a:(D++ [U/2^m%2])++bitsOf U m=B++bitsOf U k:=by rw[q0q,<-uW];exact v
    have r:((pack D).length+1)*1<=140737488355328:=by omega
    have s:dZ (D++ [U/2^m%2]):=w.app (.one g)
    conv=>whnf
    refine ah.dec (λ_=>?_) (λx=>absurd l x)
    conv=>whnf
    refine⟨l,?_⟩
    conv=>whnf
    refine ah.dec (λc=>?_) (λc=>?_)
    ·have c:=(HC _).1 c;have i:(pack (D++ [U/2^m%2])).length=(pack D).length+1:=by rw[xa c];simp
     have ho:0+D.length/8*1=D.length/8:=by omega
     have b:D.length/8<(pack D).length+1:=by rw[bt];omega
     conv=>whnf
     refine eY.grow 1 1 _ _ _ _ _ _ tyB (.old rfl) rfl rfl (.rw rfl p) r ?_
     conv=>whnf
     refine Idx.mk (D.length/8) hq b ?_
     conv=>whnf
     refine au (MQ c ho) ?_
     conv=>whnf
     refine⟨f,?_⟩
     conv=>whnf
     refine Idx.mk (D.length/8) hq b ?_
     conv=>whnf
     refine au (HD g d c ho) ?_
     conv=>whnf
     refine⟨⟨(D++ [U/2^m%2],m),a,s,by omega,by simp;omega⟩,q1l m,Cov.ofN [(2,4)] ⟨.int rfl,.fnp (by decide) rfl,sI (congrArg (AV.si .i64) n),trivial⟩ ⟨.inl ⟨_,rfl,an.st (.cons (ab.rw (by decide) rfl (hn:=i.symm)) (.cons (.int (congrArg (AV.si .i64) o)) .nil))⟩,oR (dU _) (de _) (.inl ⟨_,rfl,de _⟩),trivial⟩⟩
    ·have c:D.length%8≠0:=λq=>c ((HC _).2 q)
     have i:(pack (D++ [U/2^m%2])).length=(pack D).length:=by rw[bt,bt];simp;omega
     have ho:0+D.length/8*1=D.length/8:=by omega
     have b:D.length/8<(pack D).length:=by rw[bt];omega
     conv=>whnf
     refine Idx.mk (D.length/8) hq b ?_
     conv=>whnf
     refine au (MS c ho) ?_
     conv=>whnf
     refine⟨f,?_⟩
     conv=>whnf
     refine Idx.mk (D.length/8) hq b ?_
     conv=>whnf
     refine au (HE w g d c ho) ?_
     conv=>whnf
     refine⟨⟨(D++ [U/2^m%2],m),a,s,by omega,by simp;omega⟩,q1l m,Cov.ofN [(2,2)] ⟨.int rfl,.fnp (by decide) rfl,sI (congrArg (AV.si .i64) n),trivial⟩ ⟨.inl ⟨_,rfl,an.st (.cons (ab.rw (by decide) rfl (hn:=i.symm)) (.cons (.int (congrArg (AV.si .i64) o)) .nil))⟩,oR (dU _) (de _) (.inl ⟨_,rfl,de _⟩),trivial⟩⟩
theorem nM{H:AH}{n b:Nat}{o:AO}(d:b<n)(h:H.get b=some (bT (bz [b] n) o))(hv:o.void=false∨o.own=true):iZ H n [b] [o]:=⟨by simp,rfl,λi s q a c=>by
 match i,a,c with
 |0,a,c=>injection a with a;injection c with c;subst a c;exact⟨d,h,hv⟩⟩
theorem Bf{H:AH}{n b c:Nat}{o q:AO}(e:b≠c)(f:b<n)(g:c<n)(h:H.get b=some (bT (bz [b,c] n) o))(k:H.get c=some (bT (bz [b,c] n) q))(hv:o.void=false∨o.own=true)(j:q.void=false∨q.own=true):iZ H n [b,c] [o,q]:=
 ⟨by simp[e],rfl,λi s r a d=>by
  match i,a,d with
  |0,a,d=>injection a with a;injection d with d;subst a d;exact⟨f,h,hv⟩
  |1,a,d=>injection a with a;injection d with d;subst a d;exact⟨g,k,j⟩⟩
theorem sH(r:Nat->Nat)(c:Nat)(B:List Nat):dw r (pb c B)=pb (r c) B:=rfl
theorem sJ(r:Nat->Nat)(s:List Nat):dw r (dd s)=dd s:=zG r _ (dU s)
theorem Yj(H:AH)(n b c:Nat)(B:List Nat):kg [b,c] n H [(0,some (.cells (pb 2 B) true)),(1,none),(2,some (.cells (dd (pack B)) true))]=V0 H n b c B:=by
 simp only[kg,q0h,q2l,bT,sH,sJ];rfl
theorem MX:ai 226 vw:=λargs H n J d L l M N K m a p=>by
 unfold vw at d;split at d
 ·obtain⟨x,y,z,rfl,q,r,s⟩:=vs3 a;obtain⟨b,c,U,k,B,rfl,f,g,h,t,v,w,A,C,e,D,E,d⟩:=d
  refine dq (S:=[b,c]) (O:=[.cells (pb 1 B) true,.cells (dd (pack B)) true]) (args0:=[.ptr 0 0,.si .u64 (U:Int),.si .i64 (k:Int)]) (ax V2 5 _) (by kernel_rfl) m
   (Bf f g h (by rw[bT,sH];exact t) (by rw[bT,sJ];exact v) (.inr rfl) (.inr rfl)) ?_ p (MW B U k w e D E) λu P Q ⟨F,G,I⟩=>?_
  ·exact .cons q (.cons (by have:=r.mk;rw[A]at this;exact this) (.cons (by have:=s.mk;rw[C]at this;exact this) .nil))
  ·subst F;refine⟨3,kg [b,c] n H [(0,some (.cells (pb 2 (B++bitsOf U k)) true)),(1,none),(2,some (.cells (dd (pack (B++bitsOf U k))) true))],q2n 2,fB.put (q2n 2) rfl (λx j o ho=>?_),rfl,?_⟩
   ·simp only[Z3,Z4,or_false]at j;rcases j with rfl|rfl|rfl
    ·injection ho with ho;subst ho;exact⟨G,rfl,rfl⟩
    ·cases ho
    ·injection ho with ho;subst ho;exact⟨I,rfl,xc _ _ (dU _)⟩
   ·rw[Yj];exact d
 ·exact d.elim
def KP1:FuncId->EP:=aq 226 vw evP
theorem Tn:aW KP1:=ae az MX
theorem pc{U:Nat}{w:Int}{m:Nat}(a:min w.toNat IntKind.u64.bits=m)(h:U/2^m=0):¬0<((U:Nat):Int).fdiv ((2:Int)^min w.toNat IntKind.u64.bits):=by
 rw[a,fdiv_pow,h];decide
theorem dp{U:Nat}{w:Int}{m:Nat}(a:min w.toNat IntKind.u64.bits=m)(h:U/2^m≠0):¬¬0<((U:Nat):Int).fdiv ((2:Int)^min w.toNat IntKind.u64.bits):=by
 rw[a,fdiv_pow];exact not_not_intro (Int.natCast_pos.2 (q3c h))
theorem MY(B:List Nat)(U:Nat)(f:dZ B)(v:U<18446744073709551616)(w:B.length<=99999000):ay KP1 3 227 [.ptr 0 0,.si .u64 (U:Int)] (mkH [(0,.cells (pb 1 B) true),(1,.cells (dd (pack B)) true)]) 2
 λu H' _=>u= .int .i64 0/\∃n,n=B++bl U/\H'.get 0=some (.cells (pb 6 n) true)/\H'.get 6=some (.cells (dd (pack n)) true):=by
 have k:U≠0->U/2^0≠0:=λh=>by simpa using h
 have o:¬U<128->U/2^7≠0:=λh=>Nat.ne_of_gt (Nat.div_pos (by show 128<=U;omega) (by decide))
 have p:¬U<4096->U/2^12≠0:=λh=>Nat.ne_of_gt (Nat.div_pos (by show 4096<=U;omega) (by decide))
 have q:¬U<16777216->U/2^24≠0:=λh=>Nat.ne_of_gt (Nat.div_pos (by show 16777216<=U;omega) (by decide))
 have r:U=0->U/2^0=0:=λh=>by simp[h]
 have s:U<128->U/2^7=0:=λh=>q3d h
 have z2:U<4096->U/2^12=0:=λh=>q3d h
 have t:U<16777216->U/2^24=0:=λh=>q3d h
 by_cases e:U=0
 ·have g:(B++bitsOf 0 1)++bitsOf U 0=B++bl U:=by
   rw[q0q];congr 1;unfold bl;rw[if_pos e];rfl
  have a:dZ (B++bitsOf 0 1):=f.app (dH _ _);have b:(B++bitsOf 0 1).length<=100000000:=by rw[Z5,aS];omega
  have c:B.length<=100000000:=by omega
  have d:U<2^0:=by subst e;decide
  conv=>whnf
  refine aQ.roll 6 ?_
  conv=>whnf
  refine ah.dec (λh=>absurd h (pc (m:=0) rfl (r e))) (λ_=>?_)
  conv=>whnf
  refine⟨0,1,0,1,B,rfl,by decide,by decide,by decide,rfl,rfl,f,rfl,rfl,by decide,by decide,c,?_⟩
  conv=>whnf
  refine⟨0,_,U,0,B++bitsOf 0 1,rfl,?_,by decide,?_,rfl,rfl,a,rfl,rfl,by decide,d,b,?_⟩
  ·decide
  ·decide
  conv=>whnf
  exact⟨rfl,_,g,rfl,rfl⟩
 ·skip
  by_cases i:U<128
  ·have g:(B++bitsOf 2 2)++bitsOf U 7=B++bl U:=by
    rw[q0q];congr 1;unfold bl;rw[if_neg e,if_pos i];rfl
   have a:dZ (B++bitsOf 2 2):=f.app (dH _ _);have b:(B++bitsOf 2 2).length<=100000000:=by rw[Z5,aS];omega
   have c:B.length<=100000000:=by omega
   have d:U<2^7:=by omega
   conv=>whnf
   refine aQ.roll 6 ?_
   conv=>whnf
   refine ah.dec (λ_=>?_) (λh=>absurd h (dp (m:=0) rfl (k e)))
   conv=>whnf
   refine ah.dec (λh=>absurd h (pc (m:=7) rfl (s i))) (λ_=>?_)
   conv=>whnf
   refine⟨0,1,2,2,B,rfl,by decide,by decide,by decide,rfl,rfl,f,rfl,rfl,by decide,by decide,c,?_⟩
   conv=>whnf
   refine⟨0,_,U,7,B++bitsOf 2 2,rfl,?_,by decide,?_,rfl,rfl,a,rfl,rfl,by decide,d,b,?_⟩
   ·decide
   ·decide
   conv=>whnf
   exact⟨rfl,_,g,rfl,rfl⟩
  ·skip
   by_cases j:U<4096
   ·have g:(B++bitsOf 6 3)++bitsOf U 12=B++bl U:=by
     rw[q0q];congr 1;unfold bl;rw[if_neg e,if_neg i,if_pos j];rfl
    have a:dZ (B++bitsOf 6 3):=f.app (dH _ _);have b:(B++bitsOf 6 3).length<=100000000:=by rw[Z5,aS];omega
    have c:B.length<=100000000:=by omega
    have d:U<2^12:=by omega
    conv=>whnf
    refine aQ.roll 6 ?_
    conv=>whnf
    refine ah.dec (λ_=>?_) (λh=>absurd h (dp (m:=0) rfl (k e)))
    conv=>whnf
    refine ah.dec (λ_=>?_) (λh=>absurd h (dp (m:=7) rfl (o i)))
    conv=>whnf
    refine ah.dec (λh=>absurd h (pc (m:=12) rfl (z2 j))) (λ_=>?_)
    conv=>whnf
    refine⟨0,1,6,3,B,rfl,by decide,by decide,by decide,rfl,rfl,f,rfl,rfl,by decide,by decide,c,?_⟩
    conv=>whnf
    refine⟨0,_,U,12,B++bitsOf 6 3,rfl,?_,by decide,?_,rfl,rfl,a,rfl,rfl,by decide,d,b,?_⟩
    ·decide
    ·decide
    conv=>whnf
    exact⟨rfl,_,g,rfl,rfl⟩
   ·skip
    by_cases l:U<16777216
    ·have g:(B++bitsOf 14 4)++bitsOf U 24=B++bl U:=by
      rw[q0q];congr 1;unfold bl;rw[if_neg e,if_neg i,if_neg j,if_pos l];rfl
     have a:dZ (B++bitsOf 14 4):=f.app (dH _ _);have b:(B++bitsOf 14 4).length<=100000000:=by rw[Z5,aS];omega
     have c:B.length<=100000000:=by omega
     have d:U<2^24:=by omega
     conv=>whnf
     refine aQ.roll 6 ?_
     conv=>whnf
     refine ah.dec (λ_=>?_) (λh=>absurd h (dp (m:=0) rfl (k e)))
     conv=>whnf
     refine ah.dec (λ_=>?_) (λh=>absurd h (dp (m:=7) rfl (o i)))
     conv=>whnf
     refine ah.dec (λ_=>?_) (λh=>absurd h (dp (m:=12) rfl (p j)))
     conv=>whnf
     refine ah.dec (λh=>absurd h (pc (m:=24) rfl (t l))) (λ_=>?_)
     conv=>whnf
     refine⟨0,1,14,4,B,rfl,by decide,by decide,by decide,rfl,rfl,f,rfl,rfl,by decide,by decide,c,?_⟩
     conv=>whnf
     refine⟨0,_,U,24,B++bitsOf 14 4,rfl,?_,by decide,?_,rfl,rfl,a,rfl,rfl,by decide,d,b,?_⟩
     ·decide
     ·decide
     conv=>whnf
     exact⟨rfl,_,g,rfl,rfl⟩
    ·skip
     have g:(B++bitsOf 15 4)++bitsOf U 64=B++bl U:=by
      rw[q0q];congr 1;unfold bl;rw[if_neg e,if_neg i,if_neg j,if_neg l];rfl
     have a:dZ (B++bitsOf 15 4):=f.app (dH _ _);have b:(B++bitsOf 15 4).length<=100000000:=by rw[Z5,aS];omega
     have c:B.length<=100000000:=by omega
     have d:U<2^64:=by omega
     conv=>whnf
     refine aQ.roll 6 ?_
     conv=>whnf
     refine ah.dec (λ_=>?_) (λh=>absurd h (dp (m:=0) rfl (k e)))
     conv=>whnf
     refine ah.dec (λ_=>?_) (λh=>absurd h (dp (m:=7) rfl (o i)))
     conv=>whnf
     refine ah.dec (λ_=>?_) (λh=>absurd h (dp (m:=12) rfl (p j)))
     conv=>whnf
     refine ah.dec (λ_=>?_) (λh=>absurd h (dp (m:=24) rfl (q l)))
     conv=>whnf
     refine⟨0,1,15,4,B,rfl,by decide,by decide,by decide,rfl,rfl,f,rfl,rfl,by decide,by decide,c,?_⟩
     conv=>whnf
     refine⟨0,_,U,64,B++bitsOf 15 4,rfl,?_,by decide,?_,rfl,rfl,a,rfl,rfl,by decide,d,b,?_⟩
     ·decide
     ·decide
     conv=>whnf
     exact⟨rfl,_,g,rfl,rfl⟩
def So (H:AH) (n b c:Nat) (B:List Nat):AH:=((((((H.set (some (.cells (dd (pack B)) true)) aa (n+4)).set none aa (n+3)).set none aa (n+2)).set none aa (n+1)).set none aa n).set none aa c).set (some (.cells (pb (n+4) B) true)) aa b
def Bg(args:List AV)(H:AH)(n:Nat)(κ:PK):Prop:=match args with
 | [x,u]=>∃(b c U:Nat) (B:List Nat),x= .ptr b 0/\b≠c/\b<n/\c<n/\H.get b=some (.cells (pb c B) true)/\H.get c=some (.cells (dd (pack B)) true)/\dZ B/\mk u= .si .u64 (U:Int)/\U<18446744073709551616/\B.length<=99999000/\
  κ (.int .i64 0) (So H n b c (B++bl U)) (n+5)
 |_=>False
def HF(B:List Nat):List (Nat×Option AO):=[(0,some (.cells (pb 6 B) true)),(1,none),(2,none),(3,none),(4,none),(5,none),(6,some (.cells (dd (pack B)) true))]
theorem Yk(H:AH)(n b c:Nat)(B:List Nat):kg [b,c] n H (HF B)=So H n b c B:=by
 simp only[kg,HF,q0h,q2l,bT,sH,sJ];rfl
theorem To:ai 227 Bg:=λargs H n E d F k G I K l a m=>by
 unfold Bg at d;split at d
 ·obtain⟨x,y,rfl,p,q⟩:=vs2 a;obtain⟨b,c,U,B,rfl,e,f,g,r,s,t,v,w,z,d⟩:=d
  refine dq (S:=[b,c]) (O:=[.cells (pb 1 B) true,.cells (dd (pack B)) true]) (args0:=[.ptr 0 0,.si .u64 (U:Int)]) (ax Tn 3 _) (by kernel_rfl) l
   (Bf e f g (by rw[bT,sH];exact r) (by rw[bT,sJ];exact s) (.inr rfl) (.inr rfl)) ?_ m (MY B U t w z) λu J L ⟨A,M,i,C,D⟩=>?_
  ·exact .cons p (.cons (by have:=q.mk;rw[v]at this;exact this) .nil)
  ·subst A i;refine⟨7,kg [b,c] n H (HF (B++bl U)),Z0 rfl,fB.put (Z0 rfl) rfl (λx j o ho=>?_),rfl,?_⟩
   ·simp only[HF,Z3,Z4,or_false]at j;rcases j with rfl|rfl|rfl|rfl|rfl|rfl|rfl
    ·injection ho with ho;subst ho;exact⟨C,rfl,rfl⟩
    ·cases ho
    ·cases ho
    ·cases ho
    ·cases ho
    ·cases ho
    ·injection ho with ho;subst ho;exact⟨D,rfl,xc _ _ (dU _)⟩
   ·rw[Yk];exact d
 ·exact d.elim
def KE:FuncId->EP:=bg 221 [] (aq 227 Bg (aq 226 vw evP))
theorem Sp:aW KE:=aw (ae (ae az MX) To) (by kernel_rfl) (by kernel_rfl)
theorem HG{n:Int}(h:aP n):cf .xor .u64 (IntKind.u64.wrap (IntKind.u64.wrap n*(2:Int)^min (Int.toNat 1) IntKind.u64.bits)) (IntKind.u64.wrap (n.fdiv ((2:Int)^min (Int.toNat 63) IntKind.i64.bits)))=((A8 n:Nat):Int):=Th h
theorem rf(X:Smp)(i:Nat):aM X (i+1)=aM X i++ct X i:=rfl
theorem MZ(X:Smp):aM X 0++bitsOf (iv (tAt X 0)) 64++bitsOf (iv (vAt X 0)) 64=aM X (0+1):=by
 rw[rf,q0q];rfl
theorem M0(X:Smp){i:Nat}(h:i≠0):aM X i++bl (dT X i)++bl (dV X i)=aM X (i+1):=by
 rw[rf,q0q];unfold ct;rw[if_neg h]
theorem xg:pack []=[]:=by simp[pack]
def ec (L:Smp) (cap:Nat) (i:Nat):AE×AH:=(mkE [(0,.sy 0 0 L.length cap 0),(4,.ptr 1 (0)),(5,.si .i64 (fw L i)),(11,.sy 0 0 L.length cap 0),(12,.si .i64 (((L.length:Nat):Int))),(13,.si .i64 (((i:Nat):Int)))],mkH [(0,.ro (smp (L))),(1,.cells (pb 2 (aM L i)) true),(2,.cells (dd ((pack (aM L i)))) true)])
theorem PZ(L:Smp)(cap:Nat)(B:L.length<=100000)(A:∀x∈L,aP x.1/\aP x.2):ay KE 3 221 [.sy 0 0 L.length cap 0] (mkH [(0,.ro (smp L))]) 1
 λu _ _=>mkT u=mkT (.tup [.ss (pack (a8 L)),.si .i64 ((a8 L).length:Int)]):=by
 conv=>whnf
 refine aQ.mk {i:Nat//i<=L.length} 3 (λi=>ec L cap i.val) (λi=>L.length-i.val) ⟨0,Y5 _⟩ ?_ ?_
 ·exact Cov.ofN [(2,2)] ⟨.sy (by decide) rfl,sP,sI,.sy (by decide) rfl,sI,sI,trivial⟩ ⟨.inl ⟨_,rfl,an.wS (bI _) rfl⟩,.inl ⟨_,rfl,an.st (.cons (.iV rfl (hn:=congrArg List.length xg)) (.cons (.int rfl) .nil))⟩,oR (dU _) (de _) (.inr ⟨congrArg dd xg,Z6 _⟩),trivial⟩
 ·intro⟨i,C⟩;have c:((aM L i).length)<=13600000:=Y7 (pU L i) (by omega);have k:bq (dd (pack (aM L i))) 0 (pack (aM L i)).length=some (dd (pack (aM L i))):=bp (iH _);have l:lj (dd (pack (aM L i)))=some (pack (aM L i)):=DA (Hv (iw L i));have m:i<L.length->IntKind.i64.wrap ((i:Int)+1)=(((i+1:Nat)):Int):=λq=>db ⟨by omega,by omega⟩
  conv=>whnf
  refine ah.dec (λh=>?_) (λh=>?_)
  ·have a:i<L.length:=by exact q0t.1 h
   have p:L[i].1=tAt L i:=(ew a).symm;have z:L[i].2=vAt L i:=(o8 a).symm
   conv=>whnf
   refine Idx.mk i rfl a ?_
   conv=>whnf
   refine au (fP a (q0w _)) ?_
   conv=>whnf
   refine ah.dec (λb=>?_) (λb=>?_)
   ·have b:i=0:=by exact q3x.1 b
    subst b;have d:AV.si .u64 (IntKind.u64.wrap L[0].1)= .si .u64 ((iv (tAt L 0):Nat):Int):=congrArg (AV.si .u64) ((MK _).trans (by rw[p]));have e:AV.si .u64 (IntKind.u64.wrap L[0].2)= .si .u64 ((iv (vAt L 0):Nat):Int):=congrArg (AV.si .u64) ((MK _).trans (by rw[z]));have f:dZ (aM L 0++bitsOf (iv (tAt L 0)) 64):=(iw L 0).app (dH _ _);have g:(aM L 0++bitsOf (iv (tAt L 0)) 64).length<=100000000:=by rw[Z5,aS];omega
    conv=>whnf
    refine⟨1,2,iv (tAt L 0),64,aM L 0,rfl,by decide,by decide,by decide,rfl,rfl,iw _ _,d,rfl,Z6 _,FQ _,Y7 c (by decide),?_⟩
    conv=>whnf
    refine⟨1,4,iv (vAt L 0),64,aM L 0++bitsOf (iv (tAt L 0)) 64,rfl,by decide,by decide,by decide,rfl,rfl,f,e,rfl,Z6 _,FQ _,g,?_⟩
    conv=>whnf
    refine⟨⟨1,by omega⟩,(show L.length-1<L.length-0 by omega),Cov.ofN [(2,5)] ⟨.sy (by decide) rfl,sP,sI (congrArg (AV.si .i64) rfl),.sy (by decide) rfl,sI,sI (congrArg (AV.si .i64) (m a)),trivial⟩ ⟨.inl ⟨_,rfl,an.wS (bI _) rfl⟩,.inl ⟨_,rfl,an.st (.cons (ab.rw (by decide) rfl (hn:=congrArg (λx=>(pack x).length) (MZ L))) (.cons (.int (congrArg (λx:List Nat=>AV.si .i64 (x.length:Int)) (MZ L))) .nil))⟩,oR (dU _) (de _) (.inl ⟨_,rfl,(de _).trans (congrArg (λx=>dd (pack x)) (MZ L))⟩),trivial⟩⟩
   ·have b:i≠0:=λq=>b (by exact q3x.2 q)
    have j:i-1<L.length:=by omega
    have n:IntKind.i64.wrap ((i:Int)-1)=((i-1:Nat):Int):=(db ⟨by omega,by omega⟩).trans (by omega);have o:L[i-1].1=tAt L (i-1):=(ew j).symm;have r:L[i-1].2=vAt L (i-1):=(o8 j).symm;have s:0+(i-1)*2+0=(i-1)*2:=by omega
    have t:0+(i-1)*2+1=(i-1)*2+1:=by omega
    have v:IntKind.i64.wrap (L[i].1-L[i-1].1)=fw L (i+1):=by
     unfold fw;rw[if_neg (by omega),p,o];rfl
    have d:AV.si .u64 (cf .xor .u64 (IntKind.u64.wrap (IntKind.u64.wrap (IntKind.i64.wrap (IntKind.i64.wrap (L[i].1-L[i-1].1)-fw L i))*(2:Int)^min (Int.toNat 1) IntKind.u64.bits)) (IntKind.u64.wrap ((IntKind.i64.wrap (IntKind.i64.wrap (L[i].1-L[i-1].1)-fw L i)).fdiv ((2:Int)^min (Int.toNat 63) IntKind.i64.bits))))= .si .u64 ((dT L i:Nat):Int):=congrArg (AV.si .u64) ((HG (xb _)).trans (by unfold dT;rw[p,o]));have e:AV.si .u64 (cf .xor .u64 (IntKind.u64.wrap (IntKind.u64.wrap (IntKind.i64.wrap (L[i].2-L[i-1].2))*(2:Int)^min (Int.toNat 1) IntKind.u64.bits)) (IntKind.u64.wrap ((IntKind.i64.wrap (L[i].2-L[i-1].2)).fdiv ((2:Int)^min (Int.toNat 63) IntKind.i64.bits))))= .si .u64 ((dV L i:Nat):Int):=congrArg (AV.si .u64) ((HG (xb _)).trans (by unfold dV;rw[z,r]));have f:dZ (aM L i++bl (dT L i)):=(iw L i).app (ra _);have g:(aM L i++bl (dT L i)).length<=99999000:=by have:=(gM (dT L i)).1;rw[Z5];omega
    conv=>whnf
    refine Idx.mk (i-1) n j ?_
    conv=>whnf
    refine au (wV j s) ?_
    conv=>whnf
    refine⟨1,2,dT L i,aM L i,rfl,by decide,by decide,by decide,rfl,rfl,iw _ _,d,Sm _ _,Y7 c (by decide),?_⟩
    conv=>whnf
    refine Idx.mk (i-1) n j ?_
    conv=>whnf
    refine au (wW j t) ?_
    conv=>whnf
    refine⟨1,8,dV L i,aM L i++bl (dT L i),rfl,by decide,by decide,by decide,rfl,rfl,f,e,Sn _ _,g,?_⟩
    conv=>whnf
    refine⟨⟨i+1,by omega⟩,(show L.length-(i+1)<L.length-i by omega),Cov.ofN [(2,13)] ⟨.sy (by decide) rfl,sP,sI (congrArg (AV.si .i64) v),.sy (by decide) rfl,sI,sI (congrArg (AV.si .i64) (m a)),trivial⟩ ⟨.inl ⟨_,rfl,an.wS (bI _) rfl⟩,.inl ⟨_,rfl,an.st (.cons (ab.rw (by decide) rfl (hn:=congrArg (λx=>(pack x).length) (M0 L b))) (.cons (.int (congrArg (λx:List Nat=>AV.si .i64 (x.length:Int)) (M0 L b))) .nil))⟩,oR (dU _) (de _) (.inl ⟨_,rfl,(de _).trans (congrArg (λx=>dd (pack x)) (M0 L b))⟩),trivial⟩⟩
  ·have w:i=L.length:=by have:¬i<L.length:=λq=>h (q0t.2 q);omega
   conv=>whnf
   refine VM.mk _ _ _ _ _ _ _ _ rfl (by decide) ⟨_,rfl,rfl,rfl⟩ (.inr ⟨_,rfl⟩) k l ?_
   conv=>whnf
   subst w;rfl
theorem M1:ay KE 3 221 [.nsl] .nil 0 λu _ _=>mkT u=mkT (.tup [.ss (pack (a8 [])),.si .i64 ((a8 []).length:Int)]):=by
 conv=>whnf
 refine aQ.roll 1 ?_
 conv=>whnf
 exact(show _=AV.tup [.ss [],.si .i64 0] from rfl).trans (by rw[ML,xg];rfl)
def rh(args:List AV)(H:AH)(n:Nat)(κ:PK):Prop:=match args with
 | [l]=>∃L,mK H l L/\L.length<=100000/\(∀x∈L,aP x.1/\aP x.2)/\κ (.tup [.ss (pack (a8 L)),.si .i64 ((a8 L).length:Int)]) H n
 |_=>False
theorem DF:ai 221 rh:=λargs H n m a o h q r K c b g=>by
 unfold rh at a;split at a
 ·obtain⟨x,rfl,i⟩:=vs1 b;obtain⟨L,j,k,d,a⟩:=a;rcases j.open c i with⟨rfl,e⟩|⟨p,C,_,f,e⟩
  ·exact iu Sp (v:= .tup [.ss (pack (a8 [])),.si .i64 ((a8 []).length:Int)]) rfl M1 a c g (by kernel_rfl) HR.ro0 (.cons (e _) .nil)
  ·exact iu Sp (v:= .tup [.ss (pack (a8 L)),.si .i64 ((a8 L).length:Int)]) rfl (PZ L C k d) a c g (by kernel_rfl) (λl=>HR.ro1 l f) (.cons (e _ 0 rfl) .nil)
 ·exact a.elim
def KB:FuncId->EP:=bg 233 [] (bg 212 [] evP)
theorem M3:aW KB:=aw (aw az (by kernel_rfl) (by kernel_rfl)) (by kernel_rfl) (by kernel_rfl)
def kF(s:List Nat)(N a:Nat):List AV:=[.ss s,.si .i64 ((N:Nat):Int),.si .i64 ((a:Nat):Int),.sb true]
def vx(args:List AV)(H:AH)(n:Nat)(κ:PK):Prop:=match args with
 | [x,m]=>∃(b:Nat) (s:List Nat) (N a k V:Nat),x= .ptr b 0/\b<n/\H.get b=some (.cells (kF s N a) true)/\mk m= .si .i64 (k:Int)/\k<=64/\a+k<=N/\N<=8*s.length/\s.length<=100000000/\(∀x∈s,x<256)/\cR 0 (aN s a k)=V/\
  κ (.tup [.si .u64 (V:Int),.int .i64 0]) (H.set (some (.cells (kF s N (a+k)) true)) aa b) n
 |_=>False
def rg (s:List Nat) (N:Nat) (a:Nat) (k:Nat) (j:Nat):AE×AH:=(mkE [(0,.ptr 0 (0)),(6,.si .u64 ((cR 0 (aN s a j):Nat):Int)),(30,.si .i64 (((k:Nat):Int))),(31,.si .i64 (((j:Nat):Int)))],mkH [(0,.cells (kF s N (a+j)) true)])
theorem Tp{s:List Nat}(b:∀x∈s,x<256){a c u:Nat}(d:nth s (a/8)=some c)(e:u<9223372036854775808):
 cf .or .u64 (IntKind.u64.wrap (((u:Nat):Int)*(2:Int)^min (Int.toNat 1) IntKind.u64.bits)) (IntKind.u64.wrap (cf .and .u8 ((Int.ofNat c).fdiv ((2:Int)^min (IntKind.i64.wrap (7-((a:Nat):Int).tmod 8)).toNat IntKind.u8.bits)) 1))=((2*u+sw s a:Nat):Int):=PY b d e
theorem M4(s:List Nat)(N a k:Nat)(o:k<=64)(p:a+k<=N)(r:N<=8*s.length)(m:s.length<=100000000)(n:∀x∈s,x<256):ay KB 3 233 [.ptr 0 0,.si .i64 (k:Int)] (mkH [(0,.cells (kF s N a) true)]) 1
 λu H' _=>u= .tup [.si .u64 ((cR 0 (aN s a k):Nat):Int),.int .i64 0]/\H'.get 0=some (.cells (kF s N (a+k)) true):=by
 have b:¬IntKind.i64.wrap ((N:Int)-(a:Int))<(k:Int):=by
  rw[show IntKind.i64.wrap ((N:Int)-(a:Int))=(N:Int)-(a:Int) from db ⟨by omega,by omega⟩];omega
 conv=>whnf
 refine ah.nsb (λh=>by cases h) (λ_=>?_)
 conv=>whnf
 refine ah.dec (λh=>absurd h (by omega)) (λ_=>?_)
 conv=>whnf
 refine ah.dec (λh=>absurd h (by omega)) (λ_=>?_)
 conv=>whnf
 refine ah.dec (λh=>absurd h b) (λ_=>?_)
 conv=>whnf
 refine aQ.mk {j:Nat//j<=k} 1 (λj=>rg s N a k j.val) (λj=>k-j.val) ⟨0,Y5 _⟩ ?_ ?_
 ·exact Cov.ofN [] ⟨sP,.int rfl,sI,sI,trivial⟩ ⟨.inl ⟨_,rfl,an.st (.cons (.str rfl) (.cons (.int rfl) (.cons (.int rfl) (.cons (.bool rfl) .nil))))⟩,trivial⟩
 ·intro⟨j,t⟩
  conv=>whnf
  refine ah.dec (λh=>?_) (λh=>?_)
  ·have c:j<k:=by exact q0t.1 h
   have hq:=div_eq (a+j) (by omega);have d:(a+j)/8<s.length:=by omega
   have l:nth s ((a+j)/8)=some s[(a+j)/8]:=by rw[eX,Y0 d]
   have e:0<=IntKind.i64.wrap (7-((a+j:Nat):Int).tmod 8):=by rw[HB];omega
   have f:2*cR 0 (aN s a j)+sw s (a+j)=cR 0 (aN s a (j+1)):=by rw[Dx,JY]
   have hu:=congrArg (AV.si .u64) ((Tp (u:=cR 0 (aN s a j)) n l (J3 s a (by omega))).trans (congrArg (λx:Nat=>(x:Int)) f));have g:IntKind.i64.wrap ((j:Int)+1)=(((j+1:Nat)):Int):=db ⟨by omega,by omega⟩;have i:IntKind.i64.wrap (((a+j:Nat):Int)+1)=(((a+(j+1):Nat)):Int):=db ⟨by omega,by omega⟩
   conv=>whnf
   refine Idx.mk ((a+j)/8) hq d ?_
   conv=>whnf
   refine Ask.mk _ l ?_
   conv=>whnf
   refine⟨e,?_⟩
   conv=>whnf
   refine⟨⟨j+1,c⟩,(show k-(j+1)<k-j by omega),Cov.ofN [] ⟨sP,.int hu,sI,sI (congrArg (AV.si .i64) g),trivial⟩ ⟨.inl ⟨_,rfl,an.st (.cons (.str rfl) (.cons (.int rfl) (.cons (.int (congrArg (AV.si .i64) i)) (.cons (.bool rfl) .nil))))⟩,trivial⟩⟩
  ·have c:j=k:=by have:¬j<k:=λq=>h (q0t.2 q);omega
   conv=>whnf
   subst c;exact⟨rfl,rfl⟩
theorem M5:ai 233 vx:=λargs H n D c E l F G K m d p=>by
 unfold vx at c;split at c
 ·obtain⟨x,y,rfl,q,r⟩:=vs2 d;obtain⟨b,s,N,a,k,V,rfl,f,t,v,e,w,z,g,h,A,c⟩:=c
  refine dq (S:=[b]) (O:=[.cells (kF s N a) true]) (args0:=[.ptr 0 0,.si .i64 (k:Int)]) (ax M3 3 _) (by kernel_rfl) m
   (nM f t (.inr rfl)) ?_ p (M4 s N a k e w z g h) λu I J ⟨B,C⟩=>?_
  ·exact .cons q (.cons (by have:=r.mk;rw[v]at this;exact this) .nil)
  ·subst B;refine⟨1,kg [b] n H [(0,some (.cells (kF s N (a+k)) true))],Z6 _,fB.put (Z6 _) rfl (λx j o ho=>?_),rfl,?_⟩
   ·simp only[Z3,Z4,or_false]at j;subst j;injection ho with ho;subst ho;exact⟨C,rfl,rfl⟩
   ·rw[<-A]at c;exact c
 ·exact c.elim
def KG:FuncId->EP:=aq 233 vx KB
theorem V3:aW KG:=ae M3 M5
theorem fQ{s:List Nat}{a j b:Nat}{B:List Nat}(h:aN s a (j+1)=b::B):aN s a 1=[b]/\aN s (a+1) j=B:=by
 rw[q4q j 1,xf]at h;exact List.append_inj (s₂:=[b]) (t₂:=B) h (by rw[mq];rfl)
theorem M6(s:List Nat)(N a U:Nat)(M:U<18446744073709551616)(c:aN s a (bl U).length=bl U)(f:a+(bl U).length<=N)(g:N<=8*s.length)(b:s.length<=100000000)(i:∀x∈s,x<256):ay KG 4 236 [.ptr 0 0] (mkH [(0,.cells (kF s N a) true)]) 1
 λu H' _=>u= .tup [.si .u64 (U:Int),.int .i64 0]/\H'.get 0=some (.cells (kF s N (a+(bl U).length)) true):=by
 have B:U≠0->U/2^0≠0:=λh=>by simpa using h
 have D:¬U<128->U/2^7≠0:=λh=>Nat.ne_of_gt (Nat.div_pos (by show 128<=U;omega) (by decide))
 have H:¬U<4096->U/2^12≠0:=λh=>Nat.ne_of_gt (Nat.div_pos (by show 4096<=U;omega) (by decide))
 have I:¬U<16777216->U/2^24≠0:=λh=>Nat.ne_of_gt (Nat.div_pos (by show 16777216<=U;omega) (by decide))
 have J:U=0->U/2^0=0:=λh=>by simp[h]
 have K:U<128->U/2^7=0:=λh=>q3d h
 have z2:U<4096->U/2^12=0:=λh=>q3d h
 have L:U<16777216->U/2^24=0:=λh=>q3d h
 by_cases l:U=0
 ·have k:bl U=[0]++bitsOf U 0:=by
   unfold bl;rw[if_pos l];rfl
  rw[k]at c f⊢;have d:([0]++bitsOf U 0).length=1:=by rw[Z5,aS];rfl
  rw[d]at c f⊢;obtain⟨n,o⟩:=fQ (j:=0) c;have e:cR 0 (aN s (a+1) 0)=U:=by rw[show aN s (a+1) 0=bitsOf U 0 from o];exact(js 0 U 0).trans (by rw[q1o,q0w];exact q1p (by subst l;decide))
  have p:cR 0 (aN s (a) 1)=0:=by rw[n];rfl
  conv=>whnf
  refine aQ.roll 6 ?_
  conv=>whnf
  refine⟨0,s,N,a,1,0,rfl,by decide,rfl,rfl,by decide,by omega,g,b,i,p,?_⟩
  conv=>whnf
  refine ah.dec (λ_=>?_) (λh=>absurd rfl h)
  conv=>whnf
  refine⟨0,s,N,a+1,0,U,rfl,by decide,rfl,rfl,by decide,by omega,g,b,i,e,?_⟩
  conv=>whnf
  refine aQ.roll 6 ?_
  conv=>whnf
  refine ah.dec (λh=>absurd h (pc (m:=0) rfl (J l))) (λ_=>?_)
  conv=>whnf
  exact⟨rfl,rfl⟩
 ·skip
  by_cases q:U<128
  ·have k:bl U=[1,0]++bitsOf U 7:=by
    unfold bl;rw[if_neg l,if_pos q]
   rw[k]at c f⊢;have d:([1,0]++bitsOf U 7).length=9:=by rw[Z5,aS];rfl
   rw[d]at c f⊢;obtain⟨n,o⟩:=fQ (j:=8) c;obtain⟨r,t⟩:=fQ (j:=7) o;have e:cR 0 (aN s (a+1+1) 7)=U:=by rw[show aN s (a+1+1) 7=bitsOf U 7 from t];exact(js 0 U 7).trans (by rw[q1o,q0w];exact q1p (by omega))
   have p:cR 0 (aN s (a) 1)=1:=by rw[n];rfl
   have v:cR 0 (aN s (a+1) 1)=0:=by rw[r];rfl
   conv=>whnf
   refine aQ.roll 6 ?_
   conv=>whnf
   refine⟨0,s,N,a,1,1,rfl,by decide,rfl,rfl,by decide,by omega,g,b,i,p,?_⟩
   conv=>whnf
   refine ah.dec (λh=>absurd h (by decide)) (λ_=>?_)
   conv=>whnf
   refine⟨0,s,N,a+1,1,0,rfl,by decide,rfl,rfl,by decide,by omega,g,b,i,v,?_⟩
   conv=>whnf
   refine ah.dec (λ_=>?_) (λh=>absurd rfl h)
   conv=>whnf
   refine⟨0,s,N,a+1+1,7,U,rfl,by decide,rfl,rfl,by decide,by omega,g,b,i,e,?_⟩
   conv=>whnf
   refine aQ.roll 6 ?_
   conv=>whnf
   refine ah.dec (λ_=>?_) (λh=>absurd h (dp (m:=0) rfl (B l)))
   conv=>whnf
   refine ah.dec (λh=>absurd h (pc (m:=7) rfl (K q))) (λ_=>?_)
   conv=>whnf
   exact⟨rfl,rfl⟩
  ·skip
   by_cases w:U<4096
   ·have k:bl U=[1,1,0]++bitsOf U 12:=by
     unfold bl;rw[if_neg l,if_neg q,if_pos w]
    rw[k]at c f⊢;have d:([1,1,0]++bitsOf U 12).length=15:=by rw[Z5,aS];rfl
    rw[d]at c f⊢;obtain⟨n,o⟩:=fQ (j:=14) c;obtain⟨r,t⟩:=fQ (j:=13) o;obtain⟨y,z⟩:=fQ (j:=12) t;have e:cR 0 (aN s (a+1+1+1) 12)=U:=by rw[show aN s (a+1+1+1) 12=bitsOf U 12 from z];exact(js 0 U 12).trans (by rw[q1o,q0w];exact q1p (by omega))
    have p:cR 0 (aN s (a) 1)=1:=by rw[n];rfl
    have v:cR 0 (aN s (a+1) 1)=1:=by rw[r];rfl
    have A:cR 0 (aN s (a+1+1) 1)=0:=by rw[y];rfl
    conv=>whnf
    refine aQ.roll 6 ?_
    conv=>whnf
    refine⟨0,s,N,a,1,1,rfl,by decide,rfl,rfl,by decide,by omega,g,b,i,p,?_⟩
    conv=>whnf
    refine ah.dec (λh=>absurd h (by decide)) (λ_=>?_)
    conv=>whnf
    refine⟨0,s,N,a+1,1,1,rfl,by decide,rfl,rfl,by decide,by omega,g,b,i,v,?_⟩
    conv=>whnf
    refine ah.dec (λh=>absurd h (by decide)) (λ_=>?_)
    conv=>whnf
    refine⟨0,s,N,a+1+1,1,0,rfl,by decide,rfl,rfl,by decide,by omega,g,b,i,A,?_⟩
    conv=>whnf
    refine ah.dec (λ_=>?_) (λh=>absurd rfl h)
    conv=>whnf
    refine⟨0,s,N,a+1+1+1,12,U,rfl,by decide,rfl,rfl,by decide,by omega,g,b,i,e,?_⟩
    conv=>whnf
    refine aQ.roll 6 ?_
    conv=>whnf
    refine ah.dec (λ_=>?_) (λh=>absurd h (dp (m:=0) rfl (B l)))
    conv=>whnf
    refine ah.dec (λ_=>?_) (λh=>absurd h (dp (m:=7) rfl (D q)))
    conv=>whnf
    refine ah.dec (λh=>absurd h (pc (m:=12) rfl (z2 w))) (λ_=>?_)
    conv=>whnf
    exact⟨rfl,rfl⟩
   ·skip
    by_cases C:U<16777216
    ·have k:bl U=[1,1,1,0]++bitsOf U 24:=by
      unfold bl;rw[if_neg l,if_neg q,if_neg w,if_pos C]
     rw[k]at c f⊢;have d:([1,1,1,0]++bitsOf U 24).length=28:=by rw[Z5,aS];rfl
     rw[d]at c f⊢;obtain⟨n,o⟩:=fQ (j:=27) c;obtain⟨r,t⟩:=fQ (j:=26) o;obtain⟨y,z⟩:=fQ (j:=25) t;obtain⟨E,F⟩:=fQ (j:=24) z;have e:cR 0 (aN s (a+1+1+1+1) 24)=U:=by rw[show aN s (a+1+1+1+1) 24=bitsOf U 24 from F];exact(js 0 U 24).trans (by rw[q1o,q0w];exact q1p (by omega))
     have p:cR 0 (aN s (a) 1)=1:=by rw[n];rfl
     have v:cR 0 (aN s (a+1) 1)=1:=by rw[r];rfl
     have A:cR 0 (aN s (a+1+1) 1)=1:=by rw[y];rfl
     have G:cR 0 (aN s (a+1+1+1) 1)=0:=by rw[E];rfl
     conv=>whnf
     refine aQ.roll 6 ?_
     conv=>whnf
     refine⟨0,s,N,a,1,1,rfl,by decide,rfl,rfl,by decide,by omega,g,b,i,p,?_⟩
     conv=>whnf
     refine ah.dec (λh=>absurd h (by decide)) (λ_=>?_)
     conv=>whnf
     refine⟨0,s,N,a+1,1,1,rfl,by decide,rfl,rfl,by decide,by omega,g,b,i,v,?_⟩
     conv=>whnf
     refine ah.dec (λh=>absurd h (by decide)) (λ_=>?_)
     conv=>whnf
     refine⟨0,s,N,a+1+1,1,1,rfl,by decide,rfl,rfl,by decide,by omega,g,b,i,A,?_⟩
     conv=>whnf
     refine ah.dec (λh=>absurd h (by decide)) (λ_=>?_)
     conv=>whnf
     refine⟨0,s,N,a+1+1+1,1,0,rfl,by decide,rfl,rfl,by decide,by omega,g,b,i,G,?_⟩
     conv=>whnf
     refine ah.dec (λ_=>?_) (λh=>absurd rfl h)
     conv=>whnf
     refine⟨0,s,N,a+1+1+1+1,24,U,rfl,by decide,rfl,rfl,by decide,by omega,g,b,i,e,?_⟩
     conv=>whnf
     refine aQ.roll 6 ?_
     conv=>whnf
     refine ah.dec (λ_=>?_) (λh=>absurd h (dp (m:=0) rfl (B l)))
     conv=>whnf
     refine ah.dec (λ_=>?_) (λh=>absurd h (dp (m:=7) rfl (D q)))
     conv=>whnf
     refine ah.dec (λ_=>?_) (λh=>absurd h (dp (m:=12) rfl (H w)))
     conv=>whnf
     refine ah.dec (λh=>absurd h (pc (m:=24) rfl (L C))) (λ_=>?_)
     conv=>whnf
     exact⟨rfl,rfl⟩
    ·skip
     have k:bl U=[1,1,1,1]++bitsOf U 64:=by
      unfold bl;rw[if_neg l,if_neg q,if_neg w,if_neg C]
     rw[k]at c f⊢;have d:([1,1,1,1]++bitsOf U 64).length=68:=by rw[Z5,aS];rfl
     rw[d]at c f⊢;obtain⟨n,o⟩:=fQ (j:=67) c;obtain⟨r,t⟩:=fQ (j:=66) o;obtain⟨y,z⟩:=fQ (j:=65) t;obtain⟨E,F⟩:=fQ (j:=64) z;have e:cR 0 (aN s (a+1+1+1+1) 64)=U:=by rw[show aN s (a+1+1+1+1) 64=bitsOf U 64 from F];exact(js 0 U 64).trans (by rw[q1o,q0w];exact q1p (by omega))
     have p:cR 0 (aN s (a) 1)=1:=by rw[n];rfl
     have v:cR 0 (aN s (a+1) 1)=1:=by rw[r];rfl
     have A:cR 0 (aN s (a+1+1) 1)=1:=by rw[y];rfl
     have G:cR 0 (aN s (a+1+1+1) 1)=1:=by rw[E];rfl
     conv=>whnf
     refine aQ.roll 6 ?_
     conv=>whnf
     refine⟨0,s,N,a,1,1,rfl,by decide,rfl,rfl,by decide,by omega,g,b,i,p,?_⟩
     conv=>whnf
     refine ah.dec (λh=>absurd h (by decide)) (λ_=>?_)
     conv=>whnf
     refine⟨0,s,N,a+1,1,1,rfl,by decide,rfl,rfl,by decide,by omega,g,b,i,v,?_⟩
     conv=>whnf
     refine ah.dec (λh=>absurd h (by decide)) (λ_=>?_)
     conv=>whnf
     refine⟨0,s,N,a+1+1,1,1,rfl,by decide,rfl,rfl,by decide,by omega,g,b,i,A,?_⟩
     conv=>whnf
     refine ah.dec (λh=>absurd h (by decide)) (λ_=>?_)
     conv=>whnf
     refine⟨0,s,N,a+1+1+1,1,1,rfl,by decide,rfl,rfl,by decide,by omega,g,b,i,G,?_⟩
     conv=>whnf
     refine ah.dec (λh=>absurd h (by decide)) (λ_=>?_)
     conv=>whnf
     refine⟨0,s,N,a+1+1+1+1,64,U,rfl,by decide,rfl,rfl,by decide,by omega,g,b,i,e,?_⟩
     conv=>whnf
     refine aQ.roll 6 ?_
     conv=>whnf
     refine ah.dec (λ_=>?_) (λh=>absurd h (dp (m:=0) rfl (B l)))
     conv=>whnf
     refine ah.dec (λ_=>?_) (λh=>absurd h (dp (m:=7) rfl (D q)))
     conv=>whnf
     refine ah.dec (λ_=>?_) (λh=>absurd h (dp (m:=12) rfl (H w)))
     conv=>whnf
     refine ah.dec (λ_=>?_) (λh=>absurd h (dp (m:=24) rfl (I C)))
     conv=>whnf
     exact⟨rfl,rfl⟩
def Bh(args:List AV)(H:AH)(n:Nat)(κ:PK):Prop:=match args with
 | [x]=>∃(b:Nat) (s:List Nat) (N a U:Nat),x= .ptr b 0/\b<n/\H.get b=some (.cells (kF s N a) true)/\U<18446744073709551616/\aN s a (bl U).length=bl U/\a+(bl U).length<=N/\N<=8*s.length/\s.length<=100000000/\(∀x∈s,x<256)/\
  κ (.tup [.si .u64 (U:Int),.int .i64 0]) (H.set (some (.cells (kF s N (a+(bl U).length)) true)) aa b) n
 |_=>False
theorem Tq:ai 236 Bh:=λargs H n z d A k B C K l c m=>by
 unfold Bh at d;split at d
 ·obtain⟨x,rfl,p⟩:=vs1 c;obtain⟨b,s,N,a,U,rfl,e,q,r,f,t,v,g,h,d⟩:=d
  refine dq (S:=[b]) (O:=[.cells (kF s N a) true]) (args0:=[.ptr 0 0]) (ax V3 4 _) (by kernel_rfl) l
   (nM e q (.inr rfl)) (.cons p .nil) m (M6 s N a U r f t v g h) λu D E ⟨w,y⟩=>?_
  subst w;refine⟨1,kg [b] n H [(0,some (.cells (kF s N (a+(bl U).length)) true))],Z6 _,fB.put (Z6 _) rfl (λx j o ho=>?_),rfl,d⟩;simp only[Z3,Z4,or_false]at j;subst j;injection ho with ho;subst ho;exact⟨y,rfl,rfl⟩
 ·exact d.elim
def tZ(r:Nat)(T V st:Int):List AV:=[.ptr r 0,.si .i64 T,.si .i64 V,.si .i64 st,.int .i64 0]
def Ts:DT:=[(5,[(some 1000000,[3,5]),(none,[0,1,2,3,4,5,6,7,8,9]),(none,[0,1,2,4,5,3,6,7,8,9])]),(7,[(some 1000000,[4,6]),(none,[0,1,2,3,4,5,6,7,8,9,10,11]),(none,[0,1,2,3,5,6,4,7,8,9,10,11])])]
def KN:FuncId->EP:=bg 211 Ts (aq 236 Bh (aq 233 vx KB))
theorem V4:aW KN:=aw (ae (ae M3 M5) Tq) (by kernel_rfl) (by kernel_rfl)
theorem DG(x:Int):cR 0 (bitsOf (iv x) 64)=iv x:=(js 0 _ 64).trans (by rw[q1o,q0w];exact q1p (FQ x))
theorem HH{u:Nat}(h:u<18446744073709551616):cf .xor .i64 (IntKind.i64.wrap (((u:Nat):Int).fdiv ((2:Int)^min (Int.toNat 1) IntKind.u64.bits))) (IntKind.i64.wrap (0-IntKind.i64.wrap (cf .and .u64 ((u:Nat):Int) 1)))=oZ u:=Ti h
theorem J4(s:List Nat)(N a:Nat)(T V st b c:Int)(j:aN s a 64=bitsOf (iv b) 64)(k:aN s (a+64) 64=bitsOf (iv c) 64)(l:aP b)(m:aP c)(n:a+64+64<=N)(e:N<=8*s.length)(d:s.length<=100000000)(f:∀x∈s,x<256):
 ay KN 6 211 [.ptr 0 0,.sb true] (mkH [(0,.cells (tZ 1 T V st) true),(1,.cells (kF s N a) true)]) 2
 λu H' _=>u= .agg [.si .i64 b,.si .i64 c]/\H'.get 0=some (.cells (tZ 1 b c st) true)/\H'.get 1=some (.cells (kF s N (a+64+64)) true):=by
 have o:cR 0 (aN s a 64)=iv b:=by rw[j,DG]
 have p:cR 0 (aN s (a+64) 64)=iv c:=by rw[k,DG]
 have g:IntKind.i64.wrap ((iv b:Nat):Int)=b:=Du l;have i:IntKind.i64.wrap ((iv c:Nat):Int)=c:=Du m;have q:=congr (congrArg (λx y=>AV.agg [.si .i64 x,.si .i64 y]) g) i;have r:=congr (congrArg (λx y=>some (AO.cells (tZ 1 x y st) true)) g) i
 conv=>whnf
 refine ah.sb (λ_=>?_) (λh=>by cases h)
 conv=>whnf
 refine⟨1,s,N,a,64,iv b,rfl,by decide,rfl,rfl,by decide,by omega,e,d,f,o,?_⟩
 conv=>whnf
 refine⟨1,s,N,a+64,64,iv c,rfl,by decide,rfl,rfl,by decide,by omega,e,d,f,p,?_⟩
 conv=>whnf
 exact⟨q,r,rfl⟩
theorem J5(s:List Nat)(N a U W:Nat)(T V st:Int)(e:U<18446744073709551616)(f:W<18446744073709551616)(k:aN s a (bl U).length=bl U)(l:aN s (a+(bl U).length) (bl W).length=bl W)(d:a+(bl U).length+(bl W).length<=N)(g:N<=8*s.length)(b:s.length<=100000000)(i:∀x∈s,x<256):
 ay KN 6 211 [.ptr 0 0,.sb false] (mkH [(0,.cells (tZ 1 T V st) true),(1,.cells (kF s N a) true)]) 2
 λu H' _=>u= .agg [.si .i64 (W64 (T+W64 (st+oZ U))),.si .i64 (W64 (V+oZ W))]/\H'.get 0=some (.cells (tZ 1 (W64 (T+W64 (st+oZ U))) (W64 (V+oZ W)) (W64 (st+oZ U))) true)/\H'.get 1=some (.cells (kF s N (a+(bl U).length+(bl W).length)) true):=by
 have j:=HH e;have z2:=HH f;have m:=congr (congrArg (λx y=>AV.agg [.si .i64 (W64 (T+W64 (st+x))),.si .i64 (W64 (V+y))]) j) z2;have n:=congr (congrArg (λx y=>some (AO.cells (tZ 1 (W64 (T+W64 (st+x))) (W64 (V+y)) (W64 (st+x))) true)) j) z2;have c:a+(bl U).length<=N:=by omega
 conv=>whnf
 refine ah.sb (λh=>by cases h) (λ_=>?_)
 conv=>whnf
 refine⟨?_,?_,trivial⟩<;>(
  conv=>whnf
  refine⟨1,s,N,a,U,rfl,by decide,rfl,e,k,c,g,b,i,?_⟩
  conv=>whnf
  refine⟨?_,?_,trivial⟩<;>(
   conv=>whnf
   refine⟨1,s,N,a+(bl U).length,W,rfl,by decide,rfl,f,l,d,g,b,i,?_⟩
   conv=>whnf
   exact⟨m,n,rfl⟩))
inductive HI(s:List Nat)(a:Nat)(T V st:Int):Bool->Nat->Int->Int->Int->Prop where
 |first{T' V':Int} (h1:aN s a 64=bitsOf (iv T') 64) (h2:aN s (a+64) 64=bitsOf (iv V') 64) (hT:aP T') (hV:aP V'):HI s a T V st true (a+64+64) T' V' st
 |more {U W:Nat} (hU:U<18446744073709551616) (hW:W<18446744073709551616) (h1:aN s a (bl U).length=bl U) (h2:aN s (a+(bl U).length) (bl W).length=bl W):HI s a T V st false (a+(bl U).length+(bl W).length) (W64 (T+W64 (st+oZ U))) (W64 (V+oZ W)) (W64 (st+oZ U))
def Bi(args:List AV)(H:AH)(n:Nat)(κ:PK):Prop:=match args with
 | [x,q]=>∃(b c:Nat) (s:List Nat) (N a e:Nat) (T V st g h d:Int) (f:Bool),x= .ptr b 0/\mk q= .sb f/\b≠c/\b<n/\c<n/\H.get b=some (.cells (tZ c T V st) true)/\H.get c=some (.cells (kF s N a) true)/\HI s a T V st f e g h d/\e<=N/\N<=8*s.length/\s.length<=100000000/\(∀x∈s,x<256)/\
  κ (.agg [.si .i64 g,.si .i64 h]) ((H.set (some (.cells (kF s N e) true)) aa c).set (some (.cells (tZ c g h d) true)) aa b) n
 |_=>False
theorem Tt:ai 211 Bi:=λargs H n X e Y D Z vs K E d F=>by
 unfold Bi at e;split at e
 ·obtain⟨x,y,rfl,G,I⟩:=vs2 d;obtain⟨b,c,s,N,a,z,T,V,st,l,m,g,f,rfl,J,p,q,r,L,M,t,A,B,h,i,e⟩:=e
  have key:ay KN 6 211 [.ptr 0 0,.sb f] (mkH [(0,.cells (tZ 1 T V st) true),(1,.cells (kF s N a) true)]) 2
   λu v _=>u= .agg [.si .i64 l,.si .i64 m]/\v.get 0=some (.cells (tZ 1 l m g) true)/\v.get 1=some (.cells (kF s N z) true):=by
   cases t with
   |first j k P Q=>exact J4 s N a T V st l m j k P Q A B h i
   |more R U j k=>exact J5 s N a _ _ T V st R U j k A B h i
  refine dq (S:=[b,c]) (O:=[.cells (tZ 1 T V st) true,.cells (kF s N a) true]) (args0:=[.ptr 0 0,.sb f]) (ax V4 6 _) (by kernel_rfl) E
   (Bf p q r L M (.inr rfl) (.inr rfl)) (.cons G (.cons (by have:=I.mk;rw[J]at this;exact this) .nil)) F key λu v n' ⟨j,k,W⟩=>?_
  subst j;refine⟨2,kg [b,c] n H [(0,some (.cells (tZ 1 l m g) true)),(1,some (.cells (kF s N z) true))],Z6 _,fB.put (Z6 _) rfl (λx C o ho=>?_),rfl,e⟩;simp only[Z3,Z4,or_false]at C;rcases C with rfl|rfl
  ·injection ho with ho;subst ho;exact⟨k,rfl,rfl⟩
  ·injection ho with ho;subst ho;exact⟨W,rfl,rfl⟩
 ·exact e.elim
def tP(X:Smp)(i:Nat):Int:=if i=0 then 0 else tAt X (i-1)
def vP(X:Smp)(i:Nat):Int:=if i=0 then 0 else vAt X (i-1)
theorem P0{X:Smp}{i:Nat}(h:i<X.length):aN (pack (a8 X)) (aM X i).length (ct X i).length=ct X i:=by
 obtain⟨D,a⟩:=FU h;exact Dw (zF X) a
theorem M7{s:List Nat}{a:Nat}{A B:List Nat}(h:aN s a (A++B).length=A++B):aN s a A.length=A/\aN s (a+A.length) B.length=B:=by
 rw[Z5,xf]at h;exact List.append_inj h (by rw[mq])
theorem xh(X:Smp)(i:Nat):(aM X (i+1)).length=(aM X i).length+(ct X i).length:=by rw[rf,Z5]
theorem M8{X:Smp}{i:Nat}(h:i<=X.length):(aM X i).length<=(a8 X).length:=by
 obtain⟨D,a⟩:=tY X i (X.length-i);rw[show i+(X.length-i)=X.length from by omega]at a;show _<=(aM X X.length).length;rw[a,Z5];omega
theorem M9{X:Smp}(b:∀x∈X,aP x.1/\aP x.2){i:Nat}(h:i<X.length):HI (pack (a8 X)) (aM X i).length (tP X i) (vP X i) (fw X i) (decide ((i:Int)=0)) (aM X (i+1)).length (tP X (i+1)) (vP X (i+1)) (fw X (i+1)):=by
 have hr:=P0 h;have f:=(MU b i).1;have g:=(MU b i).2;by_cases a:i=0
 ·subst a;obtain⟨c,d⟩:=M7 (A:=bitsOf (iv (tAt X 0)) 64) (B:=bitsOf (iv (vAt X 0)) 64) hr;rw[aS]at c;rw[aS,aS]at d;have e:(aM X (0+1)).length=(aM X 0).length+64+64:=by rw[xh];simp[ct,aS]
  rw[e];exact .first c d f g
 ·have hd:decide ((i:Int)=0)=false:=decide_eq_false (by omega);have es:ct X i=bl (dT X i)++bl (dV X i):=by unfold ct;rw[if_neg a]
  rw[es]at hr;obtain⟨c,d⟩:=M7 hr;have e:(aM X (i+1)).length=(aM X i).length+(bl (dT X i)).length+(bl (dV X i)).length:=by rw[xh,es,Z5];omega
  have j:tP X (i+1)=W64 (tP X i+W64 (fw X i+oZ (dT X i))):=by
   rw[DE X a];unfold tP;rw[if_neg (by omega),if_neg a];exact(VY a f).symm
  have k:vP X (i+1)=W64 (vP X i+oZ (dV X i)):=by
   unfold vP;rw[if_neg (by omega),if_neg a];exact(VZ g).symm
  rw[hd,e,j,k,<-DE X a];exact .more (Sm X i) (Sn X i) c d
theorem DH(L:Smp)(x:Int×Int):smp (L++ [x])=smp L++ [.si .i64 x.1,.si .i64 x.2]:=by simp[smp]
theorem tyS:RTy 52 52 2 16:=⟨_,_,_,rfl,rfl,(λq h=>by cases h),rfl,rfl,rfl,rfl,by decide,by decide⟩
def dc (X:Smp) (i:Nat):AE×AH:=(mkE [(2,.si .i64 (((X.length:Nat):Int))),(8,.ptr 0 (0)),(10,.ptr 1 (0)),(11,.rw 2 0 i 2 0),(12,.si .i64 (((i:Nat):Int)))],mkH [(0,.cells (kF (pack (a8 X)) (a8 X).length (aM X i).length) true),(1,.cells (tZ 0 (tP X i) (vP X i) (fw X i)) true),(2,.cells (smp ((X.take i))) true)])
def KD:FuncId->EP:=bg 179 [] (bg 212 [] (aq 211 Bi evP))
theorem V5:aW KD:=aw (aw (ae az Tt) (by kernel_rfl) (by kernel_rfl)) (by kernel_rfl) (by kernel_rfl)
theorem P5(X:Smp)(t:X.length<=100000)(d:∀x∈X,aP x.1/\aP x.2):ay KD 4 179 [.ss (pack (a8 X)),.si .i64 ((a8 X).length:Int),.si .i64 (X.length:Int)] .nil 0
 λu H' _=>MA X 0 u H':=by
 have n:=Dv X;have o:=bt (a8 X);have p:(a8 X).length<=8*(pack (a8 X)).length:=by omega
 have r:IntKind.i64.wrap (8*((pack (a8 X)).length:Int))=((8*(pack (a8 X)).length:Nat):Int):=db ⟨by omega,by omega⟩;have e:¬IntKind.i64.wrap (8*((pack (a8 X)).length:Int))<((a8 X).length:Int):=by rw[r];omega
 have f:=Hv (zF X)
 conv=>whnf
 refine ah.dec (λh=>absurd h (by omega)) (λ_=>?_)
 conv=>whnf
 refine ah.dec (λh=>absurd h e) (λ_=>?_)
 conv=>whnf
 refine ah.dec (λh=>absurd h (by omega)) (λ_=>?_)
 conv=>whnf
 refine ah.dec (λh=>absurd h (by omega)) (λ_=>?_)
 conv=>whnf
 refine aQ.mk {i:Nat//i<=X.length} 3 (λi=>dc X i.val) (λi=>X.length-i.val) ⟨0,Y5 _⟩ ?_ ?_
 ·exact Cov.ofN [(2,2)] ⟨sI,sP,sP,.iV rfl,sI,trivial⟩ ⟨.inl ⟨_,rfl,an.st (.cons (.str rfl) (.cons (.int rfl) (.cons (.int rfl) (.cons (.bool rfl) .nil))))⟩,.inl ⟨_,rfl,an.st (.cons (.ptr (by decide) rfl) (.cons (.int rfl) (.cons (.int rfl) (.cons (.int rfl) (.cons (.mk1 rfl rfl) .nil)))))⟩,oR (bI _) (bC _) (.inr ⟨rfl,Z6 _⟩),trivial⟩
 ·intro⟨i,v⟩
  conv=>whnf
  refine ah.dec (λh=>?_) (λh=>?_)
  ·have a:i<X.length:=by exact q0t.1 h
   have g:=M9 d a;have s:(aM X (i+1)).length<=(a8 X).length:=M8 a;have j:(pack (a8 X)).length<=100000000:=by omega
   have k:IntKind.i64.wrap ((i:Int)+1)=(((i+1:Nat)):Int):=db ⟨by omega,by omega⟩;have b:bq (smp (X.take i)) 0 (i*2)=some (smp (X.take i)):=bp (by rw[bh,q0g];omega);have c:(i+1)*16<=140737488355328:=by omega
   have l:smp (X.take i)++ [.si .i64 (tP X (i+1)),.si .i64 (vP X (i+1))]=smp (X.take (i+1)):=by
    rw[Y8 a,DH];unfold tP vP;rw[if_neg (by omega),if_neg (by omega),Nat.add_sub_cancel,ew a,o8 a]
   conv=>whnf
   refine⟨1,0,pack (a8 X),(a8 X).length,(aM X i).length,(aM X (i+1)).length,tP X i,vP X i,fw X i,tP X (i+1),vP X (i+1),fw X (i+1),_,rfl,rfl,by decide,by decide,by decide,rfl,rfl,g,s,p,j,f,?_⟩
   conv=>whnf
   refine eY.grow 2 16 _ _ _ _ _ _ tyS (.old rfl) rfl rfl (.rw rfl b) c ?_
   conv=>whnf
   exact⟨⟨i+1,a⟩,(show X.length-(i+1)<X.length-i by omega),Cov.ofN [(2,4)] ⟨sI,sP,sP,ab.rw (by decide) rfl,sI (congrArg (AV.si .i64) k),trivial⟩ ⟨.inl ⟨_,rfl,an.st (.cons (.str rfl) (.cons (.int rfl) (.cons (.int rfl) (.cons (.bool rfl) .nil))))⟩,.inl ⟨_,rfl,an.st (.cons (.ptr (by decide) rfl) (.cons (.int rfl) (.cons (.int rfl) (.cons (.int rfl) (.cons (.mk1 rfl rfl) .nil)))))⟩,oR (bI _) (bC _) (.inl ⟨_,rfl,(congrArg (List.map mk) l).trans (bC _)⟩),trivial⟩⟩
  ·have m:i=X.length:=by have:¬i<X.length:=λq=>h (q0t.2 q);omega
   subst m
   conv=>whnf
   refine ah.dec (λh=>absurd h (by rw[show IntKind.i64.wrap (((a8 X).length:Int)-((aM X X.length).length:Int))=0 from(db ⟨by show _<=((a8 X).length:Int)-((a8 X).length:Int);omega,by show((a8 X).length:Int)-((a8 X).length:Int)<=_;omega⟩).trans (Int.sub_self _)];decide)) (λ_=>?_)
   conv=>whnf
   have b:bq (smp (X.take X.length)) 0 (X.length*2)=some (smp X):=by rw[q0k];exact fI X
   exact⟨_,_,rfl,rfl,lZ.rw rfl rfl b (bC X)⟩
def Bj(args:List AV)(H:AH)(n:Nat)(κ:PK):Prop:=match args with
 | [x,y,z]=>∃X:Smp,mk x= .ss (pack (a8 X))/\mk y= .si .i64 ((a8 X).length:Int)/\mk z= .si .i64 (X.length:Int)/\X.length<=100000/\(∀x∈X,aP x.1/\aP x.2)/\Hl (VU 0) X H n κ
 |_=>False
theorem Sq:ai 179 Bj:=λargs H n p b q d r s K e a f=>by
 unfold Bj at b;split at b
 ·obtain⟨x,y,z,rfl,g,i,j⟩:=vs3 a;obtain⟨X,k,l,m,o,c,b⟩:=b;exact JV V5 (λ_ _ h=>h) (P5 X o c) b e f (by kernel_rfl) HR.ro0 (.cons (aX rfl (k▸g.mk)) (.cons (aX rfl (l▸i.mk)) (.cons (aX rfl (m▸j.mk)) .nil)))
 ·exact b.elim
theorem ab.frE{H:AH}{m:Nat}{r:Nat->Nat}{a:AV}{n k:Nat}{l:List AV}(e:a= .fr n k l):ab H m r a (.fr n k l):=by subst e;exact .mF rfl
theorem mK.frz{φ:Ph}{H:AH}{n:Nat}{l e:Hp}(i:HR φ H n l e){a:AV}{L:Smp}{v:Value}(f:mK H a L∨a= .fr L.length 2 (smp L))(hv:VR φ a v):
 ∃z:Fz->Prop,(Wf e->HR ⟨λ_=>none,z,z,λ_ _=>False⟩ .nil 0 e e)/\VR ⟨λ_=>none,z,z,λ_ _=>False⟩ (.fr L.length 2 (smp L)) v:=by
 rcases f with f|rfl
 ·rcases f.open i hv with⟨rfl,h⟩|⟨p,C,m,⟨c,t,fz,j,E,F,r⟩,h⟩
  ·refine⟨λ_=>False,λd=>gj d,?_⟩;rw[(h φ).c9];exact .fre λ_=>rfl
  ·have g:(smp L).all mF=true:=by
    rw[q0a];intro y u;have:=q0a.1 (bI L) y u;cases y<;>first|rfl|cases this
   refine⟨λq=>q=⟨p.B,p.s,smp L⟩,λd=>⟨λ_ _ k=>(by cases k),λ_ _ k=>(by cases k),λ_ _ _ _ _ _ k=>(by cases k),λb o k=>⟨d b o k,k⟩,Z6 _,λq w=>⟨?_,λ_ _ _ k=>(by cases k)⟩,λ_ _ k=>(by cases k)⟩,?_⟩
   ·subst w;exact⟨⟨⟨d _ _ j,g⟩,c,t,fz,j,(show p.s+(smp L).length<=c.size by omega),r _⟩,.inl rfl⟩
   ·obtain⟨x,G,A,rfl,D,_⟩:=(h (ph1 p) 0 rfl).AL;have:p=x:=by simpa[ph1]using A
    subst this;exact .fr (q:=⟨p.B,p.s,smp L⟩) (o:=0) rfl (by rw[D rfl];exact m) (bp (bh L))
 ·exact⟨φ.z,λd=>i.zC (gj d) (λ_ _ h=>by cases h) (λ_ h=>h),lT (ψ:=⟨λ_=>none,φ.z,φ.z,λ_ _=>False⟩) (λ_ h=>h) rfl hv⟩
def KL:FuncId->EP:=bg 123 [] evP
theorem V6:aW KL:=aw az (by kernel_rfl) (by kernel_rfl)
def pl0 (L:Smp) (t:Int) (i:Nat):AE×AH:=(mkE [(0,.fr L.length 2 (smp L)),(1,.si .i64 (t)),(6,.si .i64 (((i:Nat):Int)))],mkH [])
theorem J6(L:Smp)(t:Int)(k:L.length<=100000000):ay KL 3 123 [.fr L.length 2 (smp L),.si .i64 t] .nil 0 λu _ _=>mkT u=mkT (.tup [.si .i64 ((plc L t:Nat):Int),.sb (has L t)]):=by
 conv=>whnf
 refine aQ.mk {i:Nat//i<=plc L t} 0 (λi=>pl0 L t i.val) (λi=>L.length-i.val) ⟨0,Y5 _⟩ ?_ ?_
 ·exact Cov.ofN [] ⟨ab.frE rfl,sI,sI,trivial⟩ trivial
 ·intro⟨i,l⟩;have j:=re L t
  conv=>whnf
  refine ah.dec (λh=>?_) (λh=>?_)
  ·have a:i<L.length:=by exact q0t.1 h
   have b:tAt L i=L[i].1:=ew a;have c:IntKind.i64.wrap ((i:Int)+1)=(((i+1:Nat)):Int):=db ⟨by omega,by omega⟩
   conv=>whnf
   refine Idx.mk i rfl a ?_
   conv=>whnf
   refine au (wV a rfl) ?_
   conv=>whnf
   refine ah.dec (λg=>?_) (λg=>?_)
   ·have d:i+1<=plc L t:=by
     rcases q3b i (plc L t)with q|q
     ·exact q
     ·have e:i=plc L t:=by omega
      have:=Bd (L:=L) (t:=t) (by omega);rw[<-e,b]at this;omega
    conv=>whnf
    exact⟨⟨i+1,d⟩,(show L.length-(i+1)<L.length-i by omega),Cov.ofN [] ⟨ab.frE rfl,sI,sI (congrArg (AV.si .i64) c),trivial⟩ trivial⟩
   ·have e:i=plc L t:=by
     rcases q3b i (plc L t)with q|q
     ·have:=Bb q;rw[b]at this;exact absurd this g
     ·omega
    have f:decide (L[i].1=t)=has L t:=by
     unfold has;rw[<-e,b];simp[a]
    have hq:=congr (congrArg (λ(x:Nat) y=>AV.tup [.si .i64 (x:Int),.sb y]) e) f
    conv=>whnf
    refine ah.dec (λ_=>?_) (λq=>absurd h q)
    conv=>whnf
    refine Idx.mk i rfl a ?_
    conv=>whnf
    refine au (wV a rfl) ?_
    conv=>whnf
    exact hq
  ·have e:i=plc L t:=by have:¬i<L.length:=λq=>h (q0t.2 q);omega
   have f:false=has L t:=by
    unfold has;refine(decide_eq_false λq=>?_).symm;have:¬i<L.length:=λq=>h (q0t.2 q)
    omega
   have hq:=congr (congrArg (λ(x:Nat) y=>AV.tup [.si .i64 (x:Int),.sb y]) e) f
   conv=>whnf
   refine ah.dec (λq=>absurd q h) (λ_=>?_)
   conv=>whnf
   exact hq
def HJ(args:List AV)(H:AH)(n:Nat)(κ:PK):Prop:=match args with
 | [x,y]=>∃(L:Smp) (t:Int),(mK H x L∨x= .fr L.length 2 (smp L))/\mk y= .si .i64 t/\L.length<=100000000/\κ (.tup [.si .i64 ((plc L t:Nat):Int),.sb (has L t)]) H n
 |_=>False
theorem HK:ai 123 HJ:=λargs H n m b o d p q K c a e=>by
 unfold HJ at b;split at b
 ·obtain⟨x,y,rfl,f,g⟩:=vs2 a;obtain⟨L,t,h,i,j,b⟩:=b;obtain⟨z,k,l⟩:=mK.frz c h f;exact iu V6 (v:= .tup [.si .i64 ((plc L t:Nat):Int),.sb (has L t)]) rfl (J6 L t j) b c e (by kernel_rfl) k (.cons l (.cons (aX rfl (i▸g.mk)) .nil))
 ·exact b.elim
theorem J7(p a b:Int):ay evP 4 217 [.si .i64 p,.si .i64 a,.si .i64 b] .nil 0 λu _ _=>mkT u=mkT (.tup [.si .i64 (bo p a b).1,.si .i64 (bo p a b).2]):=by
 have key:∀{x y:Int},bo p a b=(x,y)->mkT (.tup [.si .i64 x,.si .i64 y])=mkT (.tup [.si .i64 (bo p a b).1,.si .i64 (bo p a b).2]):=λe=>by rw[e]
 conv=>whnf
 refine ah.dec (λd=>?_) (λd=>?_)
 ·have e:=key (x:=0) (y:=8) (by simp[bo,d])
  conv=>whnf
  exact e
 conv=>whnf
 refine ah.dec (λf=>?_) (λf=>?_)
 ·have e:=key (x:=a) (y:=0) (by simp[bo,f])
  conv=>whnf
  exact e
 conv=>whnf
 refine ah.dec (λg=>?_) (λg=>?_)
 ·have e:=key (x:=b) (y:=0) (by simp[bo,g])
  conv=>whnf
  exact e
 conv=>whnf
 refine ah.dec (λi=>?_) (λi=>?_)
 ·have e:=key (x:=min a b) (y:=0) (by simp[bo,i])
  conv=>whnf
  exact e
 conv=>whnf
 refine ah.dec (λj=>?_) (λj=>?_)
 ·have e:=key (x:=max a b) (y:=0) (by simp[bo,j])
  conv=>whnf
  exact e
 conv=>whnf
 refine ah.dec (λk=>?_) (λk=>?_)
 ·have n:((0<=b/\W64 (a+b)<a)∨(b<0/\a<W64 (a+b)))->_:=λh=>key (x:=0) (y:=9) (by simp[bo,k,h])
  have e0:¬((0<=b/\W64 (a+b)<a)∨(b<0/\a<W64 (a+b)))->_:=λh=>key (x:=W64 (a+b)) (y:=0) (by unfold bo;rw[if_neg d,if_neg f,if_neg g,if_neg i,if_neg j,if_pos k,if_neg h])
  conv=>whnf
  refine ah.dec (λl=>?_) (λl=>?_)
  ·conv=>whnf
   refine ah.dec (λc=>?_) (λc=>?_)
   ·have e:=n (.inl ⟨l,c⟩)
    conv=>whnf
    exact e
   ·have e:=e0 (λq=>q.elim (λq=>c q.2) (λq=>by have:=q.1;omega))
    conv=>whnf
    refine ah.dec (λq=>absurd q (by omega)) (λ_=>?_)
    conv=>whnf
    exact e
  ·conv=>whnf
   refine ah.dec (λm=>?_) (λq=>absurd q (by omega))
   conv=>whnf
   refine ah.dec (λc=>?_) (λc=>?_)
   ·have e:=n (.inr ⟨m,c⟩)
    conv=>whnf
    exact e
   ·have e:=e0 (λq=>q.elim (λq=>l q.1) (λq=>c q.2))
    conv=>whnf
    exact e
 ·have e:=key (x:=0) (y:=1) (by simp[bo,d,f,g,i,j,k])
  conv=>whnf
  exact e
def Na(args:List AV)(H:AH)(n:Nat)(κ:PK):Prop:=match args with
 | [x,y,z]=>∃p a b:Int,mk x= .si .i64 p/\mk y= .si .i64 a/\mk z= .si .i64 b/\κ (.tup [.si .i64 (bo p a b).1,.si .i64 (bo p a b).2]) H n
 |_=>False
theorem P6:ai 217 Na:=λargs H n o d q e r s K f c g=>by
 unfold Na at d;split at d
 ·obtain⟨x,y,z,rfl,h,i,j⟩:=vs3 c;obtain⟨p,a,b,k,l,m,d⟩:=d;exact VN (v:= .tup [.si .i64 (bo p a b).1,.si .i64 (bo p a b).2]) az rfl rfl (J7 p a b) d f (.cons (aX rfl (k▸h.mk)) (.cons (aX rfl (l▸i.mk)) (.cons (aX rfl (m▸j.mk)) .nil))) g
 ·exact d.elim
def chk(size:Nat)(L:Smp):List AV:=[.si .i64 (size:Int),.ss (pack (a8 L)),.si .i64 ((a8 L).length:Int),.si .i64 (L.length:Int)]
def KAl:FuncId->EP:=bg 119 [] (aq 179 Bj evP)
theorem FY:aW KAl:=aw (ae az Sq) (by kernel_rfl) (by kernel_rfl)
theorem HL(size:Nat)(L:Smp)(c:0<size)(b:L.length<=100000)(a:∀x∈L,aP x.1/\aP x.2):ay KAl 3 119 [.ptr 0 0] (mkH [(0,.ro (chk size L))]) 1 λu H' _=>FrG L.length 2 (smp L) u H':=by
 conv=>whnf
 refine ah.di (λh=>absurd (show(0:Int)<(size:Int) by omega) h) (λ_=>?_)
 conv=>whnf
 refine⟨L,rfl,rfl,rfl,b,a,⟨rfl,by decide⟩,?_⟩
 conv=>whnf
 exact PQ rfl rfl rfl rfl (bh L)
def ri(args:List AV)(H:AH)(n:Nat)(κ:PK):Prop:=match args with
 | [x]=>∃(b size:Nat) (l:List AV) (L:Smp),x= .ptr b 0/\H.get b=some (.cells l true)/\l.map mk=chk size L/\0<size/\L.length<=100000/\(∀x∈L,aP x.1/\aP x.2)/\κ (.fr L.length 2 (smp L)) H n
 |_=>False
theorem dK(size:Nat)(L:Smp):(chk size L).all flat.flat1=true:=rfl
theorem Bk(size:Nat)(L:Smp):(chk size L).map mk=chk size L:=rfl
theorem DI:ai 119 ri:=λargs H n D c q t E F K d a u=>by
 unfold ri at c;split at c
 ·obtain⟨x,rfl,v⟩:=vs1 a;obtain⟨b,size,l,L,rfl,w,r,g,y,i,c⟩:=c;obtain⟨p,j,rfl⟩:=v.cw;have k:l.length=4:=by have:=congrArg List.length r;simpa[chk]using this
  have m:=oV.of (s:=chk size L) d (.inr ⟨_,w⟩) j (bp (n:=4) k) (by rw[r,Bk]) (dK size L)
  exact Ho FY (bI L) (bh L) (HL size L g y i) c d u (by kernel_rfl) (φ0:=⟨(ph1 ⟨p.B,p.s+0,4⟩).f,q.z,q.z,λ_ _=>False⟩)
   (λC=>d.zC (HR.ro1 C m) (λb o h=>by
    have hm:=ck h;simp only[Z3,Z4,or_false]at hm;injection hm with _ e;subst e;rfl) (λ_ h=>h)) rfl (.cons (.ptr (p:=⟨p.B,p.s+0,4⟩) (o:=0) rfl) .nil)
 ·exact c.elim
theorem PM.xi{a:Type}{v:a}{t:PM a}:(PM.set (some v) aa t 0).get 0=some v:=by cases t<;>rfl
theorem Nb{u:AV}{H':AH}{a size:Nat}{e:Int}{M:Smp}{l:List AV}(c:mk u= .si .i64 e)(d:H'.get 0=some (.cells l true))(f:l.map mk=chk size M):
 ∃v b g,VTo u v/\ez H' a b g/\(v= .si .i64 e/\PM.get b 0=some (.cells (chk size M) true)):=
 ⟨.si .i64 e,H'.set (some (.cells (chk size M) true)) aa 0,a,λi w h=>by rw[<-c];exact h.mk,ez.FX d rfl f,rfl,PM.xi⟩
theorem sL(A B:Smp):smp (A++B)=smp A++smp B:=by simp[smp]
theorem DJ(z:List AV)(a:Nat):∀b,iT z (a+b)=iT z a++iT z b:=by
 intro b
 induction a with
 |zero=>simp[iT]
 |succ a c=>rw[Nat.succ_add];simp[iT,c]
theorem xj(z:List AV):∀a,(iT z a).length=a*z.length
 |0=>by simp[iT]
 |a+1=>by simp[iT,xj z a,Nat.succ_mul];omega
theorem lu:∀(P X Q Y:List AV),Y.length=X.length->fA (P++(X++Q)) P.length Y=some (P++(Y++Q))
 | [],[],Q,[],_=>by cases Q<;>rfl
 | [],[],Q,y::Y,h=>by simp at h
 | [],x::X,Q,[],h=>by simp at h
 | [],x::X,Q,y::Y,h=>by
  have:=lu [] X Q Y (by simpa using h);simp only[q2f,q1j]at this⊢;simp[fA,this]
 |p::P,X,Q,Y,h=>by
  have:=lu P X Q Y h;simp[fA,this]
theorem Nc{L:Smp}{i:Nat}(h:i<L.length){t m:Int}(a:tAt L i=t):fA (smp L) (0+i*2+1) [.si .i64 m]=some (smp (L.set i (t,m))):=by
 have e:L=L.take i++(L[i]::L.drop (i+1)):=by rw[<-q0j h,q1i]
 have b:L.set i (t,m)=L.take i++((t,m)::L.drop (i+1)):=by rw[List.set_eq_take_append_cons_drop,if_pos h]
 have c:(L.take i).length=i:=by rw[q0g];omega
 have d:smp L=(smp (L.take i)++ [.si .i64 L[i].1])++([.si .i64 L[i].2]++smp (L.drop (i+1))):=by
  have:=congrArg smp e;rw[sL]at this;rw[this,q0q];rfl
 have f:smp (L.set i (t,m))=(smp (L.take i)++ [.si .i64 L[i].1])++([.si .i64 m]++smp (L.drop (i+1))):=by
  rw[b,sL,<-ew h,a];simp[smp]
 have:=lu (smp (L.take i)++ [.si .i64 L[i].1]) [.si .i64 L[i].2] (smp (L.drop (i+1))) [.si .i64 m] rfl
 rw[Z5,bh,c,<-d,<-f]at this;rw[q0w];exact this
def z2:List AV:=[.int .i64 0,.int .i64 0]
theorem J8{l:Nat}{x:Int}{H:AH}{n:Nat}(a:x=(l:Int))(b:l<=1000000):wo Tryz.prog 52 (.int .i64 x) (.int .i64 x) H n=some (.sl n 0 l l 0,H.set (some (.cells (iT z2 l) true)) aa n,n+1):=by
 subst a;have e:wo Tryz.prog 52 (.int .i64 (l:Int)) (.int .i64 (l:Int)) H n=if l<=l/\16*l<=281474976710656/\l<=9223372036854775807/\(2:Nat)=2 then some (.sl n 0 l l 0,H.set (some (.cells (iT z2 l) true)) aa n,n+1)else none:=rfl
 rw[e,if_pos ⟨Z6 _,by omega,by omega,rfl⟩]
theorem J9{b l n c:Nat}{x:Int}(a:x=(l:Int))(d:l<=n)(f:n<=c):jk Tryz.prog 52 (.sl b 0 n c 0) (some (.int .i64 x)) none none=some (.sl b (if c=l then 0 else 0+l*2) (n-l) (c-l) 0):=by
 subst a;have e:jk Tryz.prog 52 (.sl b 0 n c 0) (some (.int .i64 (l:Int))) none none=if l<=n/\n<=c/\c<=c then some (.sl b (if c=l then 0 else 0+l*2) (n-l) (c-l) 0)else none:=rfl
 rw[e,if_pos ⟨d,f,Z6 _⟩]
def KU:FuncId->EP:=bg 183 [] (bg 119 [] (aq 123 HJ (aq 217 Na (aq 179 Bj (aq 221 rh evP)))))
theorem V7:aW KU:=aw (aw (ae (ae (ae (ae az DF) Sq) P6) HK) (by kernel_rfl) (by kernel_rfl)) (by kernel_rfl) (by kernel_rfl)
def ChQ(e:Int)(size:Nat)(M:Smp):PK:=λu a _=>u= .si .i64 e/\PM.get a 0=some (.cells (chk size M) true)
theorem DK{b:Bool}(h:b=false):¬b=true:=by simp[h]
theorem P7(size:Nat)(L:Smp)(t v p:Int)(hs:0<size)(hs2:size<=4096)(O:cF L)(hv:aP v):post (ay KU 5 183) [.ptr 0 0,.agg [.si .i64 t,.si .i64 v],.si .i64 p] (mkH [(0,.cells (chk size L) true)]) 1 (ChQ (fp size L t v p).2 size (fp size L t v p).1):=by
 have hL:=O.2.2;have i:=O.jQ;have G:(0:Int)<(size:Int):=by omega
 have leaf:∀{u:AV} {H':AH} {n':Nat} {e:Int} {M:Smp} {l:List AV},fp size L t v p=(M,e)->mk u= .si .i64 e->PM.get H' 0=some (.cells l true)->l.map mk=chk size M->∃v2 H2 n2,VTo u v2/\ez H' n' H2 n2/\ChQ (fp size L t v p).2 size (fp size L t v p).1 v2 H2 n2:=λhp hu hb hl=>by
  rw[hp];exact Nb hu hb hl
 show ay KU 5 183 _ _ _ _
 conv=>whnf
 refine ah.di (λh=>absurd G h) (λ_=>?_)
 conv=>whnf
 refine ah.dec (λh=>?_) (λh=>?_)
 ·have e:fp size L t v p=(L,1):=by unfold fp;rw[if_pos (.inl h)]
  conv=>whnf
  exact leaf e rfl rfl rfl
 conv=>whnf
 refine ah.dec (λP=>?_) (λP=>?_)
 ·have e:fp size L t v p=(L,1):=by unfold fp;rw[if_pos (.inr P)]
  conv=>whnf
  exact leaf e rfl rfl rfl
 have b:¬(t<0∨1099511627776<=t):=λq=>q.elim h P
 conv=>whnf
 refine ah.di (λh=>absurd G h) (λ_=>?_)
 conv=>whnf
 refine⟨L,rfl,rfl,rfl,Y7 hL (by decide),i,⟨rfl,by decide⟩,?_⟩
 conv=>whnf
 refine⟨L,t,.inl (.inr (.inl (.inl ⟨_,0,0,_,_,⟨rfl,by decide⟩,.inr ⟨_,rfl⟩,fI L,bC L⟩))),rfl,Y7 hL (by decide),?_⟩
 conv=>whnf
 refine ah.nsb (λF=>?_) (λF=>?_)
 ·have Q:=re L t;have hLn:=O.2.2;have c:fp size L t v p=rb size L (jP L t v):=by unfold fp;rw[if_neg b,if_neg (DK F)]
  have j:IntKind.i64.wrap ((L.length:Int)+1)=((L.length+1:Nat):Int):=db ⟨by omega,by omega⟩;have R:IntKind.i64.wrap ((plc L t:Int)+1)=((plc L t+1:Nat):Int):=db ⟨by omega,by omega⟩;have d:(L.take (plc L t)).length=plc L t:=by rw[q0g];omega
  have r:(L.drop (plc L t)).length=L.length-plc L t:=by rw[q0p]
  have s:bq (smp L) 0 (plc L t*2)=some (smp (L.take (plc L t))):=by have:=Mu (L:=L) Q;rw[d]at this;exact this
  have w:bq (smp L) (0+plc L t*2) ((L.length-plc L t)*2)=some (smp (L.drop (plc L t))):=by
   unfold bq;rw[q0o (by rw[bh];omega),q0w,sh,q1n (by rw[bh,r];omega)]
  have n:∀(M:Smp) (k:Nat),((smp M).take k).all oH=true:=λM k=>by
   rw[q0a];intro y hy;have:=q0a.1 (bI M) y (q3f hy);cases y<;>first|rfl|cases this
  have S:iT z2 (L.length+1)=iT z2 (plc L t)++(iT z2 1++iT z2 (L.length-plc L t)):=by rw[<-DJ,<-DJ];congr 1;omega
  have z:fA (iT z2 (L.length+1)) 0 ((smp (L.take (plc L t))).take (min (plc L t) (L.length+1)*2))=some (smp (L.take (plc L t))++(iT z2 1++iT z2 (L.length-plc L t))):=by
   rw[S,q3q (by omega),q1n (by rw[bh,d];omega)];exact lu [] _ _ _ (by rw[bh,d,xj];rfl)
  have A:fA (smp (L.take (plc L t))++(iT z2 1++iT z2 (L.length-plc L t))) (0+plc L t*2) [.si .i64 t,.si .i64 v]=some (smp (L.take (plc L t))++([.si .i64 t,.si .i64 v]++iT z2 (L.length-plc L t))):=by
   have:=lu (smp (L.take (plc L t))) (iT z2 1) (iT z2 (L.length-plc L t)) [.si .i64 t,.si .i64 v] rfl
   rw[bh,d]at this;rw[q0w];exact this
  have B:fA (smp (L.take (plc L t))++([.si .i64 t,.si .i64 v]++iT z2 (L.length-plc L t))) (if L.length+1=plc L t+1 then 0 else 0+(plc L t+1)*2) ((smp (L.drop (plc L t))).take (min (L.length-plc L t) (L.length+1-(plc L t+1))*2))=some (smp (jP L t v)):=by
   have ei:smp (jP L t v)=smp (L.take (plc L t))++([.si .i64 t,.si .i64 v]++smp (L.drop (plc L t))):=by unfold jP;rw[sL];rfl
   have T:(smp (L.drop (plc L t))).take ((L.length-plc L t)*2)=smp (L.drop (plc L t)):=q1n (by rw[bh,r];omega);rw[show min (L.length-plc L t) (L.length+1-(plc L t+1))=L.length-plc L t from by omega,T,ei];by_cases q:L.length=plc L t
   ·have U:L.drop (plc L t)=[]:=q0c (by omega);rw[if_pos (by omega),U,show L.length-plc L t=0 from by omega];exact lu [] [] _ [] rfl
   ·rw[if_neg (by omega)];have:=lu (smp (L.take (plc L t))++ [.si .i64 t,.si .i64 v]) (iT z2 (L.length-plc L t)) [] (smp (L.drop (plc L t))) (by rw[bh,r,xj];rfl);rw[Z5,bh,d]at this;rw[show 0+(plc L t+1)*2=plc L t*2+ [AV.si .i64 t,.si .i64 v].length from by simp;omega];simpa using this
  have V:hd (AV.sy 3 0 (L.length+1) (L.length+1) 0)= .sl 3 0 (jP L t v).length (L.length+1) 0:=by rw[lr];rfl
  have f:∀x∈jP L t v,aP x.1/\aP x.2:=λx j=>by
   rcases o9.1 j with rfl|j
   ·exact⟨⟨by omega,by omega⟩,hv⟩
   ·exact i x j
  have g:IntKind.i64.wrap (8*(size:Int))=((8*size:Nat):Int):=db ⟨by omega,by omega⟩;have C: [AV.si .i64 (size:Int),.ss (pack (a8 (jP L t v))),.si .i64 ((a8 (jP L t v)).length:Int),.si .i64 ((L.length+1:Nat):Int)].map mk=chk size (jP L t v):=by unfold chk;rw[lr];rfl
  have D:(jP L t v).length<=100000:=by rw[lr];omega
  have H:(jP L t v).length<=L.length+1:=by rw[lr];exact Z6 _
  have W:plc L t<L.length+1:=by omega
  have X:plc L t+1<=L.length+1:=by omega
  have I:L.length+1<=1000000:=by omega
  conv=>whnf
  refine Ask.mk _ (J8 j I) ?_
  conv=>whnf
  refine RSl.mk 0 (plc L t) rfl rfl (.inl rfl) (Y5 _) Q ?_
  conv=>whnf
  refine G9.mk 2 (plc L t) (L.length+1) 3 0 (L.length+1) 0 2 0 2 0 _ (smp L) (smp (L.take (plc L t))) _ true rfl rfl (by decide) ⟨_,rfl,rfl⟩ (.inr ⟨_,rfl⟩) s rfl (n _ _) z ?_
  conv=>whnf
  refine Idx.mk (plc L t) rfl W ?_
  conv=>whnf
  refine au A ?_
  conv=>whnf
  refine Ask.mk _ (J9 R X (Z6 _)) ?_
  conv=>whnf
  refine RSl.mk (plc L t) L.length rfl rfl (.inl rfl) Q (Z6 _) ?_
  conv=>whnf
  refine G9.mk 2 (L.length-plc L t) (L.length+1-(plc L t+1)) 3 (if L.length+1=plc L t+1 then 0 else 0+(plc L t+1)*2) (L.length+1-(plc L t+1)) 0 2 (0+plc L t*2) 2 0 _ (smp L) (smp (L.drop (plc L t))) _ true rfl rfl (by decide) ⟨_,rfl,rfl⟩ (.inr ⟨_,rfl⟩) w rfl (n _ _) B ?_
  conv=>whnf
  refine⟨jP L t v,.inr (.inr ⟨3,0,L.length+1,0,_,_,V,.inr ⟨_,rfl⟩,fI _,bC _,H⟩),D,f,?_⟩
  conv=>whnf
  refine ah.dec (λE=>?_) (λE=>?_)
  ·have e:fp size L t v p=(L,2):=by rw[c];unfold rb;rw[if_neg (by rw[g]at E;omega)]
   conv=>whnf
   exact leaf e rfl rfl rfl
  ·have e:fp size L t v p=(jP L t v,0):=by rw[c];unfold rb;rw[if_pos (by rw[g]at E;omega)]
   conv=>whnf
   exact leaf e rfl rfl C
 ·have a:plc L t<L.length/\tAt L (plc L t)=t:=by unfold has at F;exact of_decide_eq_true F
  have J:L[plc L t].2=vAt L (plc L t):=(o8 a.1).symm;have c:fp size L t v p=if(bo p (vAt L (plc L t)) v).2≠0 then(L,(bo p (vAt L (plc L t)) v).2)else rb size L (lq L t (bo p (vAt L (plc L t)) v).1):=by unfold fp;rw[if_neg b,if_pos F]
  have Y:0+plc L t*2+1=plc L t*2+1:=by omega
  have Z:aP (bo p L[plc L t].2 v).1:=zH (i _ (q0i a.1)).2 hv;have K:=Nc a.1 (m:=(bo p L[plc L t].2 v).1) a.2
  have f:∀x∈lq L t (bo p L[plc L t].2 v).1,aP x.1/\aP x.2:=λx j=>by
   rcases(sF O.1 F).1 j with rfl|⟨j,_⟩
   ·exact⟨⟨by omega,by omega⟩,Z⟩
   ·exact i x j
  have N:=sD L t (bo p L[plc L t].2 v).1;have D:(lq L t (bo p L[plc L t].2 v).1).length<=100000:=by omega
  have g:IntKind.i64.wrap (8*(size:Int))=((8*size:Nat):Int):=db ⟨by omega,by omega⟩;have hrw:AV.rw 2 0 L.length 2 0= .rw 2 0 (lq L t (bo p L[plc L t].2 v).1).length 2 0:=by rw[N]
  have C: [AV.si .i64 (size:Int),.ss (pack (a8 (lq L t (bo p L[plc L t].2 v).1))),.si .i64 ((a8 (lq L t (bo p L[plc L t].2 v).1)).length:Int),.si .i64 ((L.length:Nat):Int)].map mk=chk size (lq L t (bo p L[plc L t].2 v).1):=by unfold chk;rw[N];rfl
  conv=>whnf
  refine Idx.mk (plc L t) rfl a.1 ?_
  conv=>whnf
  refine au (wW a.1 Y) ?_
  conv=>whnf
  refine⟨p,L[plc L t].2,v,rfl,rfl,rfl,?_⟩
  conv=>whnf
  refine ah.di (λE=>?_) (λE=>?_)
  ·have e:fp size L t v p=(L,(bo p L[plc L t].2 v).2):=by rw[c,<-J,if_pos E]
   conv=>whnf
   exact leaf e rfl rfl rfl
  ·have o:fp size L t v p=rb size L (lq L t (bo p L[plc L t].2 v).1):=by rw[c,<-J,if_neg (λq=>q E)]
   conv=>whnf
   refine Idx.mk (plc L t) rfl a.1 ?_
   conv=>whnf
   refine au K ?_
   conv=>whnf
   refine⟨lq L t (bo p L[plc L t].2 v).1,.inr (.inl (.inl ⟨_,0,0,_,_,⟨hrw,by decide⟩,.inr ⟨_,rfl⟩,fI _,bC _⟩)),D,f,?_⟩
   conv=>whnf
   refine ah.dec (λh4=>?_) (λh4=>?_)
   ·have e:fp size L t v p=(L,2):=by rw[o];unfold rb;rw[if_neg (by rw[g]at h4;omega)]
    conv=>whnf
    exact leaf e rfl rfl rfl
   ·have e:fp size L t v p=(lq L t (bo p L[plc L t].2 v).1,0):=by rw[o];unfold rb;rw[if_pos (by rw[g]at h4;omega)]
    conv=>whnf
    exact leaf e rfl rfl C
def Nd(args:List AV)(H:AH)(n:Nat)(κ:PK):Prop:=match args with
 | [x,y,z]=>∃(b size:Nat) (L:Smp) (t v p:Int),x= .ptr b 0/\nJ y t v/\mk z= .si .i64 p/\b<n/\H.get b=some (.cells (chk size L) true)/\0<size/\size<=4096/\cF L/\aP v/\
  κ (.si .i64 (fp size L t v p).2) (H.set (some (.cells (chk size (fp size L t v p).1) true)) aa b) n
 |_=>False
theorem V8:ai 183 Nd:=λargs H n E c F i G I K j a k=>by
 unfold Nd at c;split at c
 ·obtain⟨x,y,z,rfl,l,m,q⟩:=vs3 a;obtain⟨b,size,L,t,v,p,rfl,r,s,d,w,e,f,A,B,c⟩:=c
  refine dq (S:=[b]) (O:=[.cells (chk size L) true]) (args0:=[.ptr 0 0,.agg [.si .i64 t,.si .i64 v],.si .i64 p]) (ai.post (ax V7 5 _)) (by kernel_rfl) j
   (nM d w (.inr rfl)) (.cons l (.cons (r.open m _) (.cons (aX rfl (s▸q.mk)) .nil))) k (P7 size L t v p e f A B) λu J M ⟨C,D⟩=>?_
  subst C;refine⟨1,kg [b] n H [(0,some (.cells (chk size (fp size L t v p).1) true))],Z6 _,fB.put (Z6 _) rfl (λx h o ho=>?_),rfl,c⟩;simp only[Z3,Z4,or_false]at h;subst h;injection ho with ho;subst ho;exact⟨D,rfl,rfl⟩
 ·exact c.elim
theorem FZ(L:Smp)(a b:Int){i:Nat}(h:i<L.length):aR (L.take (i+1)) a b=aR (L.take i) a b++(if(decide (L[i].1<a)||decide (b<L[i].1))=true then [L[i]]else []):=by
 unfold aR;rw[Y8 h,q2j];congr 1;simp only[List.filter_cons,List.filter_nil]
theorem Ka(L:Smp)(a b:Int):(aR L a b).length<=L.length:=q1e _ _
def dr (size:Nat) (L:Smp) (a:Int) (b:Int) (i:Nat):AE×AH:=(mkE [(0,.ptr 0 (0)),(1,.si .i64 (a)),(2,.si .i64 (b)),(7,.rw 1 0 (aR (L.take i) a b).length 2 0),(15,.fr L.length 2 (smp L)),(16,.si .i64 (((L.length:Nat):Int))),(17,.si .i64 (((i:Nat):Int)))],mkH [(0,.cells (chk size L) true),(1,.cells (smp ((aR (L.take i) a b))) true)])
def KDr:FuncId->EP:=aq 119 ri (aq 221 rh evP)
theorem Tu:aW KDr:=ae (ae az DF) DI
theorem Nf(size:Nat)(L:Smp)(a b:Int)(F:0<size)(s:cF L):post (ay KDr 5 157) [.ptr 0 0,.si .i64 a,.si .i64 b] (mkH [(0,.cells (chk size L) true)]) 1 (ChQ ((L.length:Int)-((aR L a b).length:Int)) size (aR L a b)):=by
 have J:=s.2.2;have t:=s.jQ;have u:L.length<=100000:=by omega
 have v:(0:Int)<(size:Int):=by omega
 have e:∀{H:AH} {m:Nat} {r:Nat->Nat},yN H m r (chk size L) (chk size L):= .cons (.int rfl) (.cons (.str rfl) (.cons (.int rfl) (.cons (.int rfl) .nil)));show ay KDr 5 157 _ _ _ _
 conv=>whnf
 refine ah.di (λh=>absurd v h) (λ_=>?_)
 conv=>whnf
 refine⟨0,size,_,L,rfl,rfl,rfl,F,u,t,?_⟩
 conv=>whnf
 refine aQ.mk {i:Nat//i<=L.length} 2 (λi=>dr size L a b i.val) (λi=>L.length-i.val) ⟨0,Y5 _⟩ ?_ ?_
 ·exact Cov.ofN [(1,1)] ⟨sP,sI,sI,.iV rfl,ab.frE rfl,sI,sI,trivial⟩ ⟨.inl ⟨_,rfl,an.st (e)⟩,oR (bI _) (bC _) (.inr ⟨rfl,Z6 _⟩),trivial⟩
 ·intro⟨i,K⟩;have w:(aR (L.take i) a b).length<=20000:=Y7 (Ka _ _ _) (by rw[q0g];omega);have d:bq (smp (aR (L.take i) a b)) 0 ((aR (L.take i) a b).length*2)=some (smp (aR (L.take i) a b)):=fI _
  conv=>whnf
  refine ah.dec (λh=>?_) (λh=>?_)
  ·have c:i<L.length:=by exact q0t.1 h
   have g:IntKind.i64.wrap ((i:Int)+1)=(((i+1:Nat)):Int):=db ⟨by omega,by omega⟩;have f:((aR (L.take i) a b).length+1)*16<=140737488355328:=by omega
   have j:L.length-(i+1)<L.length-i:=by omega
   have k:=FZ L a b c;have E:(decide (L[i].1<a)||decide (b<L[i].1))=true->aR (L.take (i+1)) a b=aR (L.take i) a b++ [L[i]]:=λq=>by rw[k,if_pos q]
   have l:¬(decide (L[i].1<a)||decide (b<L[i].1))=true->aR (L.take (i+1)) a b=aR (L.take i) a b:=λq=>by rw[k,if_neg q,q0z]
   have n:(decide (L[i].1<a)||decide (b<L[i].1))=true->(aR (L.take i) a b).length+1=(aR (L.take (i+1)) a b).length:=λq=>by rw[E q];simp
   have o:(decide (L[i].1<a)||decide (b<L[i].1))=true->(smp (aR (L.take i) a b)++ [AV.si .i64 L[i].1,AV.si .i64 L[i].2]).map mk=smp (aR (L.take (i+1)) a b):=λq=>by rw[E q,<-DH,bC]
   have x:¬(decide (L[i].1<a)||decide (b<L[i].1))=true->(smp (aR (L.take i) a b)).map mk=smp (aR (L.take (i+1)) a b):=λq=>by rw[l q,bC]
   have y:¬(decide (L[i].1<a)||decide (b<L[i].1))=true->(aR (L.take i) a b).length=(aR (L.take (i+1)) a b).length:=λq=>by rw[l q]
   conv=>whnf
   refine Idx.mk i rfl c ?_
   conv=>whnf
   refine au (fP c rfl) ?_
   conv=>whnf
   refine ah.dec (λz=>?_) (λz=>?_)
   ·have q:(decide (L[i].1<a)||decide (b<L[i].1))=true:=by simp[z]
    conv=>whnf
    refine eY.grow 2 16 _ _ _ _ _ _ tyS (.old rfl) rfl rfl (.rw rfl d) f ?_
    conv=>whnf
    exact⟨⟨i+1,c⟩,j,Cov.ofN [(1,4)] ⟨sP,sI,sI,ab.rw (by decide) rfl (hn:=n q),ab.frE rfl,sI,sI (congrArg (AV.si .i64) g),trivial⟩ ⟨.inl ⟨_,rfl,an.st (e)⟩,oR (bI _) (bC _) (.inl ⟨_,rfl,o q⟩),trivial⟩⟩
   ·conv=>whnf
    refine ah.dec (λA=>?_) (λA=>?_)
    ·have q:(decide (L[i].1<a)||decide (b<L[i].1))=true:=by simp[A]
     conv=>whnf
     refine eY.grow 2 16 _ _ _ _ _ _ tyS (.old rfl) rfl rfl (.rw rfl d) f ?_
     conv=>whnf
     exact⟨⟨i+1,c⟩,j,Cov.ofN [(1,4)] ⟨sP,sI,sI,ab.rw (by decide) rfl (hn:=n q),ab.frE rfl,sI,sI (congrArg (AV.si .i64) g),trivial⟩ ⟨.inl ⟨_,rfl,an.st (e)⟩,oR (bI _) (bC _) (.inl ⟨_,rfl,o q⟩),trivial⟩⟩
    ·have q:¬(decide (L[i].1<a)||decide (b<L[i].1))=true:=by simp[z,A]
     conv=>whnf
     exact⟨⟨i+1,c⟩,j,Cov.ofN [(1,1)] ⟨sP,sI,sI,ab.rw (by decide) rfl (hn:=y q),ab.frE rfl,sI,sI (congrArg (AV.si .i64) g),trivial⟩ ⟨.inl ⟨_,rfl,an.st (e)⟩,oR (bI _) (bC _) (.inl ⟨_,rfl,x q⟩),trivial⟩⟩
  ·have B:i=L.length:=by have:¬i<L.length:=λq=>h (q0t.2 q);omega
   have p:L.take i=L:=by rw[B,q0k]
   have C:=xd (s.sub (q4l i L)) a b;have D:(aR (L.take i) a b).length<=100000:=by omega
   have G:IntKind.i64.wrap ((L.length:Int)-((aR (L.take i) a b).length:Int))=(L.length:Int)-((aR L a b).length:Int):=by
    rw[p]at w⊢;exact db ⟨by omega,by omega⟩
   have I:(chk size (aR (L.take i) a b)).map mk=chk size (aR L a b):=by rw[p];rfl
   conv=>whnf
   refine⟨aR (L.take i) a b,.inr (.inl (.inl ⟨_,0,0,_,_,⟨rfl,by decide⟩,.inr ⟨_,rfl⟩,d,bC _⟩)),D,C.jQ,?_⟩
   conv=>whnf
   exact Nb (congrArg (AV.si .i64) G) rfl I
def HM(args:List AV)(H:AH)(n:Nat)(κ:PK):Prop:=match args with
 | [x,y,z]=>∃(c size:Nat) (L:Smp) (a b:Int),x= .ptr c 0/\mk y= .si .i64 a/\mk z= .si .i64 b/\c<n/\H.get c=some (.cells (chk size L) true)/\0<size/\cF L/\
  κ (.si .i64 ((L.length:Int)-((aR L a b).length:Int))) (H.set (some (.cells (chk size (aR L a b)) true)) aa c) n
 |_=>False
theorem Tv:ai 157 HM:=λargs H n B e C j D E K k d l=>by
 unfold HM at e;split at e
 ·obtain⟨x,y,z,rfl,m,p,q⟩:=vs3 d;obtain⟨c,size,L,a,b,rfl,r,s,f,t,g,v,e⟩:=e
  refine dq (S:=[c]) (O:=[.cells (chk size L) true]) (args0:=[.ptr 0 0,.si .i64 a,.si .i64 b]) (ai.post (ax Tu 5 _)) (by kernel_rfl) k
   (nM f t (.inr rfl)) (.cons m (.cons (aX rfl (r▸p.mk)) (.cons (aX rfl (s▸q.mk)) .nil))) l (Nf size L a b g v) λu F G ⟨w,A⟩=>?_
  subst w;refine⟨1,kg [c] n H [(0,some (.cells (chk size (aR L a b)) true))],Z6 _,fB.put (Z6 _) rfl (λx i o ho=>?_),rfl,e⟩;simp only[Z3,Z4,or_false]at i;subst i;injection ho with ho;subst ho;exact⟨A,rfl,rfl⟩
 ·exact e.elim
def KGt:FuncId->EP:=aq 119 ri (aq 123 HJ evP)
theorem Tw:aW KGt:=ae (ae az HK) DI
theorem Ng{u v:AV}{H':AH}{a size:Nat}{L:Smp}(d:mkT u=v)(e:PM.get H' 0=some (.cells (chk size L) true)):∃b c f,VTo u b/\ez H' a c f/\(b=v/\PM.get c 0=some (.cells (chk size L) true)):=⟨v,H',a,λg w h=>d▸h.mkT,.refl _ _,rfl,e⟩
def GtQ(size:Nat)(L:Smp)(t:Int):PK:=λu a _=>u= .tup [.si .i64 (ja L t).1,.si .i64 (ja L t).2]/\PM.get a 0=some (.cells (chk size L) true)
theorem P8(size:Nat)(L:Smp)(t:Int)(j:0<size)(i:cF L):post (ay KGt 5 64) [.ptr 0 0,.si .i64 t] (mkH [(0,.cells (chk size L) true)]) 1 (GtQ size L t):=by
 have k:=i.2.2;have c:=i.jQ;have d:L.length<=100000:=by omega
 have f:L.length<=100000000:=by omega
 have g:(0:Int)<(size:Int):=by omega
 show ay KGt 5 64 _ _ _ _
 conv=>whnf
 refine ah.di (λh=>absurd g h) (λ_=>?_)
 conv=>whnf
 refine⟨0,size,_,L,rfl,rfl,rfl,j,d,c,?_⟩
 conv=>whnf
 refine⟨L,t,.inr rfl,rfl,f,?_⟩
 conv=>whnf
 refine ah.nsb (λb=>?_) (λb=>?_)
 ·have e:AV.tup [.si .i64 0,.si .i64 5]= .tup [.si .i64 (ja L t).1,.si .i64 (ja L t).2]:=by unfold ja;rw[if_neg (by simp[b])]
  conv=>whnf
  exact Ng e rfl
 ·have a:plc L t<L.length/\tAt L (plc L t)=t:=by unfold has at b;exact of_decide_eq_true b
  have e:AV.tup [.si .i64 L[plc L t].2,.si .i64 0]= .tup [.si .i64 (ja L t).1,.si .i64 (ja L t).2]:=by unfold ja;rw[if_pos b,o8 a.1]
  conv=>whnf
  refine Idx.mk (plc L t) rfl a.1 ?_
  conv=>whnf
  refine au (wW a.1 rfl) ?_
  conv=>whnf
  exact Ng e rfl
def Nh(args:List AV)(H:AH)(n:Nat)(κ:PK):Prop:=match args with
 | [x,y]=>∃(c size:Nat) (L:Smp) (t:Int),x= .ptr c 0/\mk y= .si .i64 t/\c<n/\H.get c=some (.cells (chk size L) true)/\0<size/\cF L/\κ (.tup [.si .i64 (ja L t).1,.si .i64 (ja L t).2]) H n
 |_=>False
theorem V9:ai 64 Nh:=λargs H n A b B k C D K l a m=>by
 unfold Nh at b;split at b
 ·obtain⟨x,y,rfl,p,q⟩:=vs2 a;obtain⟨c,size,L,t,rfl,r,f,j,g,v,b⟩:=b
  refine dq (S:=[c]) (O:=[.cells (chk size L) true]) (args0:=[.ptr 0 0,.si .i64 t]) (ai.post (ax Tw 5 _)) (by kernel_rfl) l
   (nM f j (.inr rfl)) (.cons p (.cons (aX rfl (r▸q.mk)) .nil)) m (P8 size L t g v) λu E F ⟨w,z⟩=>?_
  subst w;refine⟨1,H,Z6 _,fB.same λi s o d e _=>?_,rfl,b⟩;cases i with
  |zero=>
   injection d with d;subst d;rw[j]at e;injection e with e;subst e;exact⟨_,z,rfl,rfl,rfl⟩
  |succ i=>simp at d
 ·exact b.elim
abbrev Op4:=Int×Int×Int×Int
def Yl(S:List Op4):List AV:=S.flatMap λo=> [.si .i64 o.1,.si .i64 o.2.1,.si .i64 o.2.2.1,.si .i64 o.2.2.2]
def rs (S:List Op4) (t:Int) (L:Smp) (v:Int) (is:Bool) (i:Nat):AE×AH:=(mkE [(0,.fr S.length 4 (Yl S)),(1,.si .i64 (t)),(5,.ptr 0 (0)),(7,.si .i64 (v)),(8,.sb (is)),(9,.si .i64 (((i:Nat):Int)))],mkH [(0,.cells (chk 4096 L) true)])
theorem Kb{P:Program}{t:TypeId}{H:AH}{a b c d:Int}(e:iN P t=some [(0,0),(0,1)]):yK P .neq t (.agg [.int .i64 a,.int .i64 b]) (.agg [.int .i64 c,.int .i64 d]) H=some (.bool (!(decide (a=c)&&(decide (b=d)&&true)))):=by
 simp[yK,e,jJ,nth,qy]
def ho (M:Smp) (sz:Nat) (L:Smp) (i:Nat):AE×AH:=(mkE [(1,.fr M.length 2 (smp M)),(5,.ptr 0 (0)),(7,.si .i64 (((i:Nat):Int)))],mkH [(0,.cells (chk sz L) true)])
def rch(sz:Nat)(L:Smp):List AV:=[.si .i64 (sz:Int),.fr L.length 2 (smp L)]
theorem Ni(size:Nat)(L:Smp)(c:0<size)(b:L.length<=100000)(a:∀x∈L,aP x.1/\aP x.2):ay KAl 3 119 [.ptr 0 0] (mkH [(0,.ro (chk size L))]) 1 λu H' _=>lZ L u H':=by
 conv=>whnf
 refine ah.di (λh=>absurd (show(0:Int)<(size:Int) by omega) h) (λ_=>?_)
 conv=>whnf
 refine⟨L,rfl,rfl,rfl,b,a,⟨rfl,by decide⟩,?_⟩
 conv=>whnf
 exact lZ.rw rfl rfl (fI L) (bC L)
def Bl(args:List AV)(H:AH)(n:Nat)(κ:PK):Prop:=match args with
 | [x]=>∃(b size:Nat) (l:List AV) (L:Smp),x= .ptr b 0/\H.get b=some (.cells l true)/\l.map mk=chk size L/\0<size/\L.length<=100000/\(∀x∈L,aP x.1/\aP x.2)/\Hl (λr=>r) L H n κ
 |_=>False
theorem Ty:ai 119 Bl:=λargs H n y c z m A C K j a q=>by
 unfold Bl at c;split at c
 ·obtain⟨x,rfl,r⟩:=vs1 a;obtain⟨b,size,l,L,rfl,t,k,d,u,e,c⟩:=c;obtain⟨p,f,rfl⟩:=r.cw;have g:l.length=4:=by have:=congrArg List.length k;simpa[chk]using this
  have i:=oV.of (s:=chk size L) j (.inr ⟨_,t⟩) f (bp (n:=4) g) (by rw[k,Bk]) (dK size L);exact JT FY (λ_ _ h=>h) (Ni size L d u e) c j q (by kernel_rfl) (φ0:=ph1 ⟨p.B,p.s+0,4⟩) (λw=>HR.ro1 w i) (.cons (.ptr (p:=⟨p.B,p.s+0,4⟩) (o:=0) rfl) .nil)
 ·exact c.elim
def HN(args:List AV)(H:AH)(n:Nat)(κ:PK):Prop:=ri args H n κ∨Bl args H n κ
theorem Tz:ai 119 HN:=λargs H n a b=>b.elim (DI args H n a) (Ty args H n a)
theorem xm{a:Type}{v:Option a}{t:PM a}:(PM.set v aa t 1).get 0=t.get 0:=by cases t<;>rfl
theorem xo{a:Type}{v:Option a}{t:PM a}:(PM.set v aa t 0).get 1=t.get 1:=by cases t<;>rfl
theorem xp{a:Type}{v:a}{t:PM a}:(PM.set (some v) aa t 1).get 1=some v:=by
 cases t with
 |nil=>rfl
 |node l u r=>cases l<;>rfl
def TA(e:Int)(s1 s2:Nat)(L M:Smp):PK:=λu a _=>u= .si .i64 e/\PM.get a 0=some (.cells (chk s1 L) true)/\PM.get a 1=some (.cells (chk s2 M) true)
theorem P9{u:AV}{H':AH}{a s1 s2:Nat}{e:Int}{L M:Smp}{l m:List AV}(d:mk u= .si .i64 e)(f:PM.get H' 0=some (.cells l true))(g:l.map mk=chk s1 L)(i:PM.get H' 1=some (.cells m true))(j:m.map mk=chk s2 M):
 ∃v b c,VTo u v/\ez H' a b c/\TA e s1 s2 L M v b c:=
 ⟨.si .i64 e,(H'.set (some (.cells (chk s2 M) true)) aa 1).set (some (.cells (chk s1 L) true)) aa 0,a,λn w h=>by rw[<-d];exact h.mk,(ez.FX (l':=chk s2 M) i rfl j).trans (ez.FX (l':=chk s1 L) (xm.trans f) rfl g),rfl,PM.xi,xo.trans xp⟩
def KJo:FuncId->EP:=aq 119 HN (aq 221 rh evP)
theorem TB:aW KJo:=ae (ae az DF) Tz
theorem Nj(s1 s2:Nat)(L M:Smp)(H:0<s1)(W:s1<=4096)(G:0<s2)(C:cF L)(z:cF M):post (ay KJo 5 188) [.ptr 0 0,.ptr 1 0] (mkH [(0,.cells (chk s1 L) true),(1,.cells (chk s2 M) true)]) 2 (TA (bU s1 L M).2 s1 s2 (bU s1 L M).1.1 (bU s1 L M).1.2):=by
 have leaf:∀{u:AV} {K:AH} {X:Nat} {e:Int} {A B:Smp} {l m:List AV},bU s1 L M=((A,B),e)->mk u= .si .i64 e->PM.get K 0=some (.cells l true)->l.map mk=chk s1 A->PM.get K 1=some (.cells m true)->m.map mk=chk s2 B->∃T U V,VTo u T/\ez K X U V/\TA (bU s1 L M).2 s1 s2 (bU s1 L M).1.1 (bU s1 L M).1.2 T U V:=λY Z hb hl hc hm=>by
  rw[Y];exact P9 Z hb hl hc hm
 have N:(0:Int)<(s1:Int):=by omega
 have O:(0:Int)<(s2:Int):=by omega
 have hLl:=C.2.2;have hMl:=z.2.2;have r:L.length<=100000:=by omega
 have o:M.length<=100000:=by omega
 have d:IntKind.i64.wrap (8*(s1:Int))=((8*s1:Nat):Int):=db ⟨by omega,by omega⟩;have c:bq (smp L) 0 (L.length*2)=some (smp L):=fI L
 have i:(smp M).all oH=true:=by
  rw[q0a];intro y hy;have:=q0a.1 (bI M) y hy;cases y<;>first|rfl|cases this
 have j:(L.length+M.length)*16<=140737488355328:=by omega
 have s:(L++M).length=L.length+M.length:=Z5;have a:bq (smp L++smp M) 0 ((L++M).length*2)=some (smp (L++M)):=by rw[<-sL];exact fI _
 have n:(L++M).length<=100000:=by omega
 have t:∀x∈L++M,aP x.1/\aP x.2:=λx P=>(q1d.1 P).elim (C.jQ x) (z.jQ x)
 have v:∀x∈([]:Smp),aP x.1/\aP x.2:=λx P=>by cases P
 have w: [AV.si .i64 (s1:Int),.ss (pack (a8 (L++M))),.si .i64 ((a8 (L++M)).length:Int),.si .i64 ((L.length+M.length:Nat):Int)].map mk=chk s1 (L++M):=by unfold chk;rw[s];rfl
 show ay KJo 5 188 _ _ _ _
 conv=>whnf
 refine ah.di (λh=>absurd N h) (λ_=>?_)
 conv=>whnf
 refine ah.di (λh=>absurd O h) (λ_=>?_)
 conv=>whnf
 refine .inl ⟨0,s1,_,L,rfl,rfl,rfl,H,r,C.jQ,?_⟩
 conv=>whnf
 refine ah.dec (λD=>?_) (λD=>?_)
 ·have I:L=[]:=q0c (q3x.1 D)
  conv=>whnf
  refine .inl ⟨1,s2,_,M,rfl,rfl,rfl,G,o,z.jQ,?_⟩
  conv=>whnf
  refine ah.dec (λp=>?_) (λp=>?_)
  ·have b:bU s1 L M=if(a8 (L++M)).length<=8*s1 then((L++M,[]),0)else((L,M),2):=by unfold bU;rw[if_neg (by simp[qE,I])]
   conv=>whnf
   refine .inr ⟨0,s1,_,L,rfl,rfl,rfl,H,r,C.jQ,⟨rfl,by decide⟩,?_⟩
   conv=>whnf
   refine .inl ⟨1,s2,_,M,rfl,rfl,rfl,G,o,z.jQ,?_⟩
   conv=>whnf
   refine eY.grow 2 16 _ _ _ _ _ _ tyS .fr (bh M) i (.rw rfl c) j ?_
   conv=>whnf
   refine⟨L++M,.inr (.inl (.inl ⟨_,0,0,_,_,⟨congrArg (λk=>AV.rw _ 0 k 2 0) s.symm,by decide⟩,.inr ⟨_,rfl⟩,a,bC _⟩)),n,t,?_⟩
   conv=>whnf
   refine ah.dec (λg=>?_) (λg=>?_)
   ·have e:bU s1 L M=((L,M),2):=by rw[b,if_neg (by rw[d]at g;omega)]
    conv=>whnf
    exact leaf e rfl rfl rfl rfl rfl
   ·have e:bU s1 L M=((L++M,[]),0):=by rw[b,if_pos (by rw[d]at g;omega)]
    conv=>whnf
    refine⟨[],.inl ⟨rfl,rfl⟩,by decide,v,?_⟩
    conv=>whnf
    exact leaf e rfl rfl w rfl rfl
  ·have f:0<M.length:=q3c λq=>p (by exact q3x.2 q)
   conv=>whnf
   refine Idx.mk 0 rfl f ?_
   conv=>whnf
   refine au (fP f rfl) ?_;have b:bU s1 L M=if(a8 (L++M)).length<=8*s1 then((L++M,[]),0)else((L,M),2):=by unfold bU;rw[if_neg (by simp[qE,I])]
   conv=>whnf
   refine .inr ⟨0,s1,_,L,rfl,rfl,rfl,H,r,C.jQ,⟨rfl,by decide⟩,?_⟩
   conv=>whnf
   refine .inl ⟨1,s2,_,M,rfl,rfl,rfl,G,o,z.jQ,?_⟩
   conv=>whnf
   refine eY.grow 2 16 _ _ _ _ _ _ tyS .fr (bh M) i (.rw rfl c) j ?_
   conv=>whnf
   refine⟨L++M,.inr (.inl (.inl ⟨_,0,0,_,_,⟨congrArg (λk=>AV.rw _ 0 k 2 0) s.symm,by decide⟩,.inr ⟨_,rfl⟩,a,bC _⟩)),n,t,?_⟩
   conv=>whnf
   refine ah.dec (λg=>?_) (λg=>?_)
   ·have e:bU s1 L M=((L,M),2):=by rw[b,if_neg (by rw[d]at g;omega)]
    conv=>whnf
    exact leaf e rfl rfl rfl rfl rfl
   ·have e:bU s1 L M=((L++M,[]),0):=by rw[b,if_pos (by rw[d]at g;omega)]
    conv=>whnf
    refine⟨[],.inl ⟨rfl,rfl⟩,by decide,v,?_⟩
    conv=>whnf
    exact leaf e rfl rfl w rfl rfl
 ·have J:0<L.length:=q3c λq=>D (by exact q3x.2 q)
  have E:L.length-1<L.length:=by omega
  have Q:IntKind.i64.wrap ((L.length:Int)-1)=((L.length-1:Nat):Int):=(db ⟨by omega,by omega⟩).trans (by omega)
  conv=>whnf
  refine Idx.mk (L.length-1) Q E ?_
  conv=>whnf
  refine au (fP E rfl) ?_
  conv=>whnf
  refine .inl ⟨1,s2,_,M,rfl,rfl,rfl,G,o,z.jQ,?_⟩
  conv=>whnf
  refine ah.dec (λp=>?_) (λp=>?_)
  ·have R:M=[]:=q0c (q3x.1 p);have b:bU s1 L M=if(a8 (L++M)).length<=8*s1 then((L++M,[]),0)else((L,M),2):=by unfold bU;rw[if_neg (by simp[qE,R])]
   conv=>whnf
   refine .inr ⟨0,s1,_,L,rfl,rfl,rfl,H,r,C.jQ,⟨rfl,by decide⟩,?_⟩
   conv=>whnf
   refine .inl ⟨1,s2,_,M,rfl,rfl,rfl,G,o,z.jQ,?_⟩
   conv=>whnf
   refine eY.grow 2 16 _ _ _ _ _ _ tyS .fr (bh M) i (.rw rfl c) j ?_
   conv=>whnf
   refine⟨L++M,.inr (.inl (.inl ⟨_,0,0,_,_,⟨congrArg (λk=>AV.rw _ 0 k 2 0) s.symm,by decide⟩,.inr ⟨_,rfl⟩,a,bC _⟩)),n,t,?_⟩
   conv=>whnf
   refine ah.dec (λg=>?_) (λg=>?_)
   ·have e:bU s1 L M=((L,M),2):=by rw[b,if_neg (by rw[d]at g;omega)]
    conv=>whnf
    exact leaf e rfl rfl rfl rfl rfl
   ·have e:bU s1 L M=((L++M,[]),0):=by rw[b,if_pos (by rw[d]at g;omega)]
    conv=>whnf
    refine⟨[],.inl ⟨rfl,rfl⟩,by decide,v,?_⟩
    conv=>whnf
    exact leaf e rfl rfl w rfl rfl
  ·have f:0<M.length:=q3c λq=>p (by exact q3x.2 q)
   conv=>whnf
   refine Idx.mk 0 rfl f ?_
   conv=>whnf
   refine au (fP f rfl) ?_
   have hd:decide (M[0].1<=L[L.length-1].1)=qE L M:=by
    unfold qE sG;have a1:decide (L≠[])=true:=by rw[decide_eq_true_eq];intro q;rw[q]at J;cases J
    have a2:decide (M≠[])=true:=by rw[decide_eq_true_eq];intro q;rw[q]at f;cases f
    rw[ew f,ew E,a1,a2];rfl
   conv=>whnf
   refine ah.dec (λF=>?_) (λF=>?_)
   ·have e:bU s1 L M=((L,M),1):=by unfold bU;rw[if_pos (hd▸decide_eq_true F)]
    conv=>whnf
    exact leaf e rfl rfl rfl rfl rfl
   ·have S:¬qE L M=true:=by rw[<-hd,decide_eq_true_eq];exact F
    have b:bU s1 L M=if(a8 (L++M)).length<=8*s1 then((L++M,[]),0)else((L,M),2):=by unfold bU;rw[if_neg S]
    conv=>whnf
    refine .inr ⟨0,s1,_,L,rfl,rfl,rfl,H,r,C.jQ,⟨rfl,by decide⟩,?_⟩
    conv=>whnf
    refine .inl ⟨1,s2,_,M,rfl,rfl,rfl,G,o,z.jQ,?_⟩
    conv=>whnf
    refine eY.grow 2 16 _ _ _ _ _ _ tyS .fr (bh M) i (.rw rfl c) j ?_
    conv=>whnf
    refine⟨L++M,.inr (.inl (.inl ⟨_,0,0,_,_,⟨congrArg (λk=>AV.rw _ 0 k 2 0) s.symm,by decide⟩,.inr ⟨_,rfl⟩,a,bC _⟩)),n,t,?_⟩
    conv=>whnf
    refine ah.dec (λg=>?_) (λg=>?_)
    ·have e:bU s1 L M=((L,M),2):=by rw[b,if_neg (by rw[d]at g;omega)]
     conv=>whnf
     exact leaf e rfl rfl rfl rfl rfl
    ·have e:bU s1 L M=((L++M,[]),0):=by rw[b,if_pos (by rw[d]at g;omega)]
     conv=>whnf
     refine⟨[],.inl ⟨rfl,rfl⟩,by decide,v,?_⟩
     conv=>whnf
     exact leaf e rfl rfl w rfl rfl
def HO(args:List AV)(H:AH)(n:Nat)(κ:PK):Prop:=match args with
 | [x,y]=>∃(b c s1 s2:Nat) (L M:Smp),x= .ptr b 0/\y= .ptr c 0/\b≠c/\b<n/\c<n/\H.get b=some (.cells (chk s1 L) true)/\H.get c=some (.cells (chk s2 M) true)/\0<s1/\s1<=4096/\0<s2/\cF L/\cF M/\
  κ (.si .i64 (bU s1 L M).2) ((H.set (some (.cells (chk s2 (bU s1 L M).1.2) true)) aa c).set (some (.cells (chk s1 (bU s1 L M).1.1) true)) aa b) n
 |_=>False
theorem TC:ai 188 HO:=λargs H n D d E k F G K l a m=>by
 unfold HO at d;split at d
 ·obtain⟨x,y,rfl,p,q⟩:=vs2 a;obtain⟨b,c,s1,s2,L,M,rfl,rfl,e,f,g,r,s,t,h,v,w,z,d⟩:=d
  refine dq (S:=[b,c]) (O:=[.cells (chk s1 L) true,.cells (chk s2 M) true]) (args0:=[.ptr 0 0,.ptr 1 0]) (ai.post (ax TB 5 _)) (by kernel_rfl) l
   (Bf e f g r s (.inr rfl) (.inr rfl)) (.cons p (.cons q .nil)) m (Nj s1 s2 L M t h v w z) λu I J ⟨A,B,C⟩=>?_
  subst A;refine⟨2,kg [b,c] n H [(0,some (.cells (chk s1 (bU s1 L M).1.1) true)),(1,some (.cells (chk s2 (bU s1 L M).1.2) true))],Z6 _,fB.put (Z6 _) rfl (λx j o ho=>?_),rfl,d⟩;simp only[Z3,Z4,or_false]at j;rcases j with rfl|rfl
  ·injection ho with ho;subst ho;exact⟨B,rfl,rfl⟩
  ·injection ho with ho;subst ho;exact⟨C,rfl,rfl⟩
 ·exact d.elim
def rj(L:Smp)(k:Nat):Bool:=decide (k<L.length-1)&&decide (2*(a8 (L.take k)).length<(a8 L).length)
def vf(L:Smp):Nat->Nat->Nat
 |0,k=>k
 |f+1,k=>if rj L k then vf L f (k+1)else k
def b8(L:Smp):Nat:=vf L (L.length-1) 1
theorem Qa{L:Smp}{k:Nat}(h:rj L k=true):vf L (L.length-k) k=vf L (L.length-(k+1)) (k+1):=by
 have a:k<L.length-1:=by unfold rj at h;simp at h;exact h.1
 rw[show L.length-k=(L.length-(k+1))+1 by omega];show(if rj L k=true then _ else _)=_;rw[if_pos h]
theorem zJ{L:Smp}{f k:Nat}(h:rj L k=false):vf L f k=k:=by cases f<;>simp[vf,h]
theorem Bm(L:Smp){k:Nat}(h:k<=L.length):AV.fr k 2 ((smp L).take (k*2))= .fr (L.take k).length 2 (smp (L.take k)):=by rw[wX,q0g,q3q h]
theorem HQ(L:Smp)(k:Nat):AV.fr (L.length-k) 2 ((smp L).drop (k*2))= .fr (L.drop k).length 2 (smp (L.drop k)):=by rw[sh,q0p]
def Wa(args:List AV)(H:AH)(n:Nat)(κ:PK):Prop:=match args with
 | [x,y]=>∃(b c s1 s2:Nat) (L M:Smp),x= .ptr b 0/\y= .ptr c 0/\b≠c/\b<n/\c<n/\H.get b=some (.cells (rch s1 L) true)/\H.get c=some (.cells (rch s2 M) true)/\0<s1/\s1<=4096/\cF L/\cF M/\
  κ (.si .i64 (bU s1 L M).2) ((H.set (some (.cells (rch s2 (bU s1 L M).1.2) true)) aa c).set (some (.cells (rch s1 (bU s1 L M).1.1) true)) aa b) n
 |_=>False
def HS(f:Nat->Smp->AV)(args:List AV)(H:AH)(n:Nat)(κ:PK):Prop:=match args with
 | [x]=>∃(b size:Nat) (l:List AV) (L:Smp),x= .ptr b 0/\H.get b=some (.cells l true)/\l.map mk=chk size L/\κ (f size L) H n
 |_=>False
theorem Nk{f:FuncId}{g:Nat->Smp->AV}(e:bR Tryz.prog f=true)(q:∀size L,flat.flat1 (g size L)=true)(d:∀size L,ay evP 3 f [.ptr 0 0] (mkH [(0,.ro (chk size L))]) 1 λu _ _=>mkT u=mkT (g size L))(r:∀size L,mkT (g size L)=g size L):ai f (HS g):=λargs H n D c E t F G K k a w=>by
 unfold HS at c;split at c
 ·obtain⟨x,rfl,y⟩:=vs1 a;obtain⟨b,size,l,L,rfl,z,m,c⟩:=c;obtain⟨p,h,rfl⟩:=y.cw;have i:l.length=4:=by have:=congrArg List.length m;simpa[chk]using this
  have j:=oV.of (s:=chk size L) k (.inr ⟨_,z⟩) h (bp (n:=4) i) (by rw[m,Bk]) (dK size L);exact iu az (v:=g size L) (wR (q size L)) (d size L) (by rw[r];exact c) k w e (φ0:=ph1 ⟨p.B,p.s+0,4⟩) (λC=>HR.ro1 C j) (.cons (.ptr (p:=⟨p.B,p.s+0,4⟩) (o:=0) rfl) .nil)
 ·exact c.elim
def TD(_:Nat)(L:Smp):AV:= .si .i64 (L.length:Int)
def Nl(_:Nat)(L:Smp):AV:= .si .i64 ((pack (a8 L)).length:Int)
theorem Wb:ai 186 (HS TD):=Nk (by kernel_rfl) (λ_ _=>rfl) (λsize L=>by
 conv=>whnf
 rfl) λ_ _=>rfl
def KDb:FuncId->EP:=aq 221 rh evP
theorem TE:aW KDb:=ae az DF
theorem Kc(L:Smp)(b:L.length<=100000)(a:∀x∈L,aP x.1/\aP x.2)(c:L.length≠0):ay KDb 3 218 [.fr L.length 2 (smp L)] .nil 0 λu _ _=>mkT u=mkT (.si .i64 ((a8 L).length:Int)):=by
 conv=>whnf
 refine⟨L,.inr (.inl (.inr ⟨_,rfl,bC _,c⟩)),b,a,?_⟩
 conv=>whnf
 rfl
def DL(args:List AV)(H:AH)(n:Nat)(κ:PK):Prop:=match args with
 | [x]=>∃L:Smp,x= .fr L.length 2 (smp L)/\L.length<=100000/\(∀x∈L,aP x.1/\aP x.2)/\L.length≠0/\κ (.si .i64 ((a8 L).length:Int)) H n
 |_=>False
theorem Qb:ai 218 DL:=λargs H n o b c f p q K e a g=>by
 unfold DL at b;split at b
 ·obtain⟨x,rfl,i⟩:=vs1 a;obtain⟨L,rfl,j,d,k,b⟩:=b;exact iu TE (v:= .si .i64 ((a8 L).length:Int)) rfl (Kc L j d k) b e g (by kernel_rfl) (φ0:=⟨λ_=>none,c.z,c.z,λ_ _=>False⟩) (λm=>e.zC (gj m) (λ_ _ h=>by cases h) (λ_ h=>h)) (.cons (lT (ψ:=⟨λ_=>none,c.z,c.z,λ_ _=>False⟩) (λ_ h=>h) rfl i) .nil)
 ·exact b.elim
theorem TF:iG DL:= .pure λargs H n i a=>by
 unfold DL at*;split at a
 ·obtain⟨L,b,c,d,e,f⟩:=a;exact⟨_,f,λg h=>⟨L,b,c,d,e,h⟩⟩
 ·exact a.elim
def SpQ(sz:Nat)(L:Smp)(k:Nat):PK:=λu a _=>u= .tup [.ptr 1 0,.int .i64 0]/\PM.get a 0=some (.cells (chk sz (L.take k)) true)/\PM.get a 1=some (.cells (chk sz (L.drop k)) true)
def spt (sz:Nat) (L:Smp) (k:Nat):AE×AH:=(mkE [(0,.ptr 0 (0)),(4,.fr L.length 2 (smp L)),(5,.si .i64 (((k:Nat):Int)))],mkH [(0,.cells (chk sz L) true)])
def Qc:DT:=[(7,[(some 0,[5]),(some 0,[4]),(some 0,[20]),(some 0,[21]),(some 0,[19,22]),(some 0,[23]),(some 0,[4,24]),(some 0,[5,24]),(some 0,[25,26,24]),(none,[27,24]),(some 0,[28,24]),(some 2,[0,24]),(some 3,[30,24]),(some 4,[31,24]),(some 5,[32,24]),(some 0,[29,33,24]),(some 0,[24,34])])]
def KSp:FuncId->EP:=bg 185 Qc (cV 218 DL (aq 119 ri (aq 221 rh evP)))
theorem Nm:aW KSp:=aw (ba (ae (ae az DF) DI) Qb TF) (by kernel_rfl) (by kernel_rfl)
theorem Nn{sz:Nat}{L:Smp}:∀{H:AH} {m:Nat} {r:Nat->Nat},yN H m r (chk sz L) (chk sz L):= .cons (.int rfl) (.cons (.str rfl) (.cons (.int rfl) (.cons (.int rfl) .nil)))
theorem F0(sz:Nat)(L:Smp)(a:0<sz)(c:L.length<2):post (ay KSp 4 185) [.ptr 0 0] (mkH [(0,.cells (chk sz L) true)]) 1 (λu H' _=>u= .tup [.nil,.int .i64 5]/\PM.get H' 0=some (.cells (chk sz L) true)):=by
 have b:(0:Int)<(sz:Int):=by omega
 show ay KSp 4 185 _ _ _ _
 conv=>whnf
 refine ah.di (λh=>absurd b h) (λ_=>?_)
 conv=>whnf
 refine ah.dec (λ_=>?_) (λq=>absurd (show(L.length:Int)<2 by omega) q)
 conv=>whnf
 exact⟨_,_,_,.refl _,.refl _ _,rfl,rfl⟩
theorem F1(sz:Nat)(L:Smp)(w:0<sz)(v:cF L)(Q:2<=L.length):post (ay KSp 4 185) [.ptr 0 0] (mkH [(0,.cells (chk sz L) true)]) 1 (SpQ sz L (b8 L)):=by
 have F:(0:Int)<(sz:Int):=by omega
 have R:=v.2.2;have x:=v.jQ;have y:L.length<=100000:=by omega
 have leaf:∀{z:AH} {G k:Nat} {l m:List AV},k=b8 L->PM.get z 0=some (.cells l true)->l.map mk=chk sz (L.take k)->PM.get z 1=some (.cells m true)->m.map mk=chk sz (L.drop k)->∃B C D,VTo (.tup [.ptr 1 0,.int .i64 0]) B/\ez z G C D/\SpQ sz L (b8 L) B C D:=λA H I J K=>by
  rw[<-A];exact⟨_,_,_,.refl _,(ez.FX (l':=chk sz (L.drop _)) J rfl K).trans (ez.FX (l':=chk sz (L.take _)) (xm.trans H) rfl I),rfl,PM.xi,xo.trans xp⟩
 have g:IntKind.i64.wrap ((L.length:Int)-1)=((L.length-1:Nat):Int):=(db ⟨by omega,by omega⟩).trans (by omega);show ay KSp 4 185 _ _ _ _
 conv=>whnf
 refine ah.di (λh=>absurd F h) (λ_=>?_)
 conv=>whnf
 refine ah.dec (λq=>absurd q (by omega)) (λ_=>?_)
 conv=>whnf
 refine⟨0,sz,_,L,rfl,rfl,rfl,w,y,x,?_⟩
 conv=>whnf
 refine aQ.mk {k:Nat//1<=k/\k<=L.length-1/\vf L (L.length-k) k=b8 L} 1 (λk=>spt sz L k.val) (λk=>L.length-k.val) ⟨1,Z6 _,by omega,rfl⟩ ?_ ?_
 ·exact Cov.ofN [] ⟨sP,ab.frE rfl,sI,trivial⟩ ⟨.inl ⟨_,rfl,an.st (Nn)⟩,trivial⟩
 ·intro⟨k,N,O,b⟩;have a:k<=L.length:=by omega
  have c:=v.sub (q4l k L);have i:=v.sub (List.drop_sublist k L);have d:(L.take k).length<=100000:=by rw[q0g];omega
  have j:(L.drop k).length<=100000:=by rw[q0p];omega
  have e:(L.take k).length≠0:=by rw[q0g];omega
  have n:(L.drop k).length≠0:=by rw[q0p];omega
  have P:=Dv (L.take k);have E:(a8 (L.take k)).length<=13600000:=by omega
  have A:IntKind.i64.wrap ((k:Int)+1)=((k+1:Nat):Int):=db ⟨by omega,by omega⟩;have o:IntKind.i64.wrap (2*((a8 (L.take k)).length:Int))=((2*(a8 (L.take k)).length:Nat):Int):=(db ⟨by omega,by omega⟩).trans (by omega);have p: [AV.si .i64 (sz:Int),.ss (pack (a8 (L.take k))),.si .i64 ((a8 (L.take k)).length:Int),.si .i64 (k:Int)].map mk=chk sz (L.take k):=by unfold chk;rw[q0g,q3q a];rfl
  have r: [AV.si .i64 (sz:Int),.ss (pack (a8 (L.drop k))),.si .i64 ((a8 (L.drop k)).length:Int),.si .i64 ((L.length-k:Nat):Int)].map mk=chk sz (L.drop k):=by unfold chk;rw[q0p];rfl
  conv=>whnf
  refine ah.dec (λh=>?_) (λh=>?_)
  ·have s:k<L.length-1:=by rw[g]at h;exact q0t.1 h
   conv=>whnf
   refine RSl.mk 0 k rfl rfl (.inl rfl) (Y5 _) a ?_
   conv=>whnf
   refine⟨L.take k,Bm L a,d,c.jQ,e,?_⟩
   conv=>whnf
   refine ah.dec (λt=>?_) (λt=>?_)
   ·have u:rj L k=true:=by rw[o]at t;unfold rj;rw[decide_eq_true s,Bool.true_and];exact decide_eq_true (q0t.1 t)
    conv=>whnf
    exact⟨⟨k+1,by omega,by omega,(Qa u).symm.trans b⟩,(show L.length-(k+1)<L.length-k by omega),Cov.ofN [] ⟨sP,ab.frE rfl,sI (congrArg (AV.si .i64) A),trivial⟩ ⟨.inl ⟨_,rfl,an.st (Nn)⟩,trivial⟩⟩
   ·have f:k=b8 L:=by rw[<-b,zJ (by rw[o]at t;unfold rj;rw[decide_eq_true s,Bool.true_and];exact decide_eq_false (λq=>t (q0t.2 q)))]
    conv=>whnf
    refine RSl.mk k _ rfl rfl (.inl rfl) a (Z6 _) ?_
    conv=>whnf
    refine⟨L.drop k,.inr (.inl (.inr ⟨_,HQ L k,bC _,n⟩)),j,i.jQ,?_⟩
    conv=>whnf
    refine RSl.mk 0 k rfl rfl (.inl rfl) (Y5 _) a ?_
    conv=>whnf
    refine⟨L.take k,.inr (.inl (.inr ⟨_,Bm L a,bC _,e⟩)),d,c.jQ,?_⟩
    conv=>whnf
    exact leaf f rfl p rfl r
  ·have f:k=b8 L:=by rw[<-b,zJ (by rw[g]at h;unfold rj;rw[decide_eq_false (λq=>h (q0t.2 q))];rfl)]
   conv=>whnf
   refine RSl.mk k _ rfl rfl (.inl rfl) a (Z6 _) ?_
   conv=>whnf
   refine⟨L.drop k,.inr (.inl (.inr ⟨_,HQ L k,bC _,n⟩)),j,i.jQ,?_⟩
   conv=>whnf
   refine RSl.mk 0 k rfl rfl (.inl rfl) (Y5 _) a ?_
   conv=>whnf
   refine⟨L.take k,.inr (.inl (.inr ⟨_,Bm L a,bC _,e⟩)),d,c.jQ,?_⟩
   conv=>whnf
   exact leaf f rfl p rfl r
def DM(args:List AV)(H:AH)(n:Nat)(κ:PK):Prop:=match args with
 | [x]=>∃(c sz:Nat) (L:Smp),x= .ptr c 0/\c<n/\H.get c=some (.cells (chk sz L) true)/\0<sz/\cF L/\(L.length<2->κ (.tup [.nil,.int .i64 5]) H n)/\
  (2<=L.length->κ (.tup [.ptr n 0,.int .i64 0]) ((H.set (some (.cells (chk sz (L.drop (b8 L))) true)) aa n).set (some (.cells (chk sz (L.take (b8 L))) true)) aa c) (n+1))
 |_=>False
theorem Ss{c n:Nat}{H H':AH}{sz:Nat}{L:Smp}(d:H.get c=some (.cells (chk sz L) true))(e:PM.get H' 0=some (.cells (chk sz L) true)):fB [c] n ([c]:List Nat).length H H' H:=fB.same λi s o a b _=>by
 cases i with
 |zero=>
  injection a with a;subst a;rw[d]at b;injection b with b;subst b;exact⟨_,e,rfl,rfl,rfl⟩
 |succ i=>simp at a
theorem Qd:ai 185 DM:=λargs H n z g A q B C K k a l=>by
 unfold DM at g;split at g
 ·obtain⟨x,rfl,m⟩:=vs1 a;obtain⟨c,sz,L,rfl,d,h,e,r,s,t⟩:=g;rcases q3b L.length 2 with f|f
  ·refine dq (S:=[c]) (O:=[.cells (chk sz L) true]) (args0:=[.ptr 0 0]) (ai.post (ax Nm 4 _)) (by kernel_rfl) k
    (nM d h (.inr rfl)) (.cons m .nil) l (F0 sz L e f) λu v w ⟨i,j⟩=>?_
   subst i;exact⟨1,H,Z6 _,Ss h j,rfl,s f⟩
  ·refine dq (S:=[c]) (O:=[.cells (chk sz L) true]) (args0:=[.ptr 0 0]) (ai.post (ax Nm 4 _)) (by kernel_rfl) k
    (nM d h (.inr rfl)) (.cons m .nil) l (F1 sz L e r f) λu v w ⟨i,j,y⟩=>?_
   subst i;refine⟨2,kg [c] n H [(0,some (.cells (chk sz (L.take (b8 L))) true)),(1,some (.cells (chk sz (L.drop (b8 L))) true))],q2n 1,fB.put (q2n 1) rfl (λx p o ho=>?_),rfl,t f⟩;simp only[Z3,Z4,or_false]at p;rcases p with rfl|rfl
   ·injection ho with ho;subst ho;exact⟨j,rfl,rfl⟩
   ·injection ho with ho;subst ho;exact⟨y,rfl,rfl⟩
 ·exact g.elim
theorem VTo.No{a b c:AV}{x y:Int}{q:Bool}(g:mk a= .si .i64 x)(i:mk b= .si .i64 y)(j:mk c= .sb q):VTo (.tup [.agg [a,b],c]) (.tup [.agg [.si .i64 x,.si .i64 y],.sb q]):=λr w h=>by
 obtain⟨cs,rfl,k⟩:=h.eM;obtain⟨s,t,rfl,l,m⟩:=vs2 k;obtain⟨u,rfl,n⟩:=l.dY;obtain⟨v,z,rfl,o,p⟩:=vs2 n;have d:=o.mk;have e:=p.mk;have f:=m.mk;rw[g]at d;rw[i]at e;rw[j]at f;exact .tup (.cons (.agg (.cons d (.cons e .nil))) (.cons f .nil))
def FLv(i:Nat)(L:Smp):AV:= .tup [.agg [.si .i64 (tAt L i),.si .i64 (vAt L i)],.sb (decide ((0:Int)<(L.length:Int)))]
def FLQ(i sz:Nat)(L:Smp):PK:=λu a _=>u=FLv i L/\PM.get a 0=some (.cells (chk sz L) true)
theorem vy{i sz d:Nat}{L:Smp}{a b c:AV}{H':AH}(g:mk a= .si .i64 (tAt L i))(h:mk b= .si .i64 (vAt L i))(j:mk c= .sb (decide ((0:Int)<(L.length:Int))))(k:PM.get H' 0=some (.cells (chk sz L) true)):∃v e f,VTo (.tup [.agg [a,b],c]) v/\ez H' d e f/\FLQ i sz L v e f:=⟨_,H',d,VTo.No g h j,.refl _ _,rfl,k⟩
def KFL:FuncId->EP:=aq 119 ri evP
theorem TG:aW KFL:=ae az DI
theorem Ke(sz:Nat)(L:Smp)(k:0<sz)(j:cF L):post (ay KFL 4 121) [.ptr 0 0] (mkH [(0,.cells (chk sz L) true)]) 1 (FLQ (0) sz L):=by
 have o:=j.2.2;have c:=j.jQ;have d:L.length<=100000:=by omega
 have e:∀i,¬(0:Int)<(L.length:Int)->AV.si .i64 0= .si .i64 (tAt L i):=λi h=>by rw[q0c (show L.length=0 by omega)];rfl
 have f:∀i,¬(0:Int)<(L.length:Int)->AV.si .i64 0= .si .i64 (vAt L i):=λi h=>by rw[q0c (show L.length=0 by omega)];rfl
 show ay KFL 4 121 _ _ _ _
 conv=>whnf
 refine⟨0,sz,_,L,rfl,rfl,rfl,k,d,c,?_⟩
 conv=>whnf
 refine ah.dec (λh=>?_) (λh=>?_)
 ·have a:¬(0:Int)<(L.length:Int):=by omega
  have g:AV.sb false= .sb (decide ((0:Int)<(L.length:Int))):=by rw[decide_eq_false a]
  conv=>whnf
  exact vy (e _ a) (f _ a) g rfl
 ·have a:(0:Int)<(L.length:Int):=by omega
  have b:0<L.length:=by omega
  have g:AV.sb true= .sb (decide ((0:Int)<(L.length:Int))):=by rw[decide_eq_true a]
  have l:(0:Int)=((0:Nat):Int):=rfl
  have m:AV.si .i64 L[0].1= .si .i64 (tAt L (0)):=by rw[ew b]
  have n:AV.si .i64 L[0].2= .si .i64 (vAt L (0)):=by rw[o8 b]
  conv=>whnf
  refine Idx.mk (0) l b ?_
  conv=>whnf
  refine au (fP b rfl) ?_
  conv=>whnf
  exact vy m n g rfl
theorem Np(sz:Nat)(L:Smp)(k:0<sz)(j:cF L):post (ay KFL 4 60) [.ptr 0 0] (mkH [(0,.cells (chk sz L) true)]) 1 (FLQ (L.length-1) sz L):=by
 have o:=j.2.2;have c:=j.jQ;have d:L.length<=100000:=by omega
 have e:∀i,¬(0:Int)<(L.length:Int)->AV.si .i64 0= .si .i64 (tAt L i):=λi h=>by rw[q0c (show L.length=0 by omega)];rfl
 have f:∀i,¬(0:Int)<(L.length:Int)->AV.si .i64 0= .si .i64 (vAt L i):=λi h=>by rw[q0c (show L.length=0 by omega)];rfl
 show ay KFL 4 60 _ _ _ _
 conv=>whnf
 refine⟨0,sz,_,L,rfl,rfl,rfl,k,d,c,?_⟩
 conv=>whnf
 refine ah.dec (λh=>?_) (λh=>?_)
 ·have a:¬(0:Int)<(L.length:Int):=by omega
  have g:AV.sb false= .sb (decide ((0:Int)<(L.length:Int))):=by rw[decide_eq_false a]
  conv=>whnf
  exact vy (e _ a) (f _ a) g rfl
 ·have a:(0:Int)<(L.length:Int):=by omega
  have b:L.length-1<L.length:=by omega
  have g:AV.sb true= .sb (decide ((0:Int)<(L.length:Int))):=by rw[decide_eq_true a]
  have l:IntKind.i64.wrap ((L.length:Int)-1)=((L.length-1:Nat):Int):=(db ⟨by omega,by omega⟩).trans (by omega);have m:AV.si .i64 L[L.length-1].1= .si .i64 (tAt L (L.length-1)):=by rw[ew b]
  have n:AV.si .i64 L[L.length-1].2= .si .i64 (vAt L (L.length-1)):=by rw[o8 b]
  conv=>whnf
  refine Idx.mk (L.length-1) l b ?_
  conv=>whnf
  refine au (fP b rfl) ?_
  conv=>whnf
  exact vy m n g rfl
def DN(i:Smp->Nat)(args:List AV)(H:AH)(n:Nat)(κ:PK):Prop:=match args with
 | [x]=>∃(c sz:Nat) (L:Smp),x= .ptr c 0/\c<n/\H.get c=some (.cells (chk sz L) true)/\0<sz/\cF L/\κ (FLv (i L) L) H n
 |_=>False
theorem DO{f:FuncId}{i:Smp->Nat}(e:bR Tryz.prog f=true)(d:∀(sz:Nat) (L:Smp),0<sz->cF L->post (ay KFL 4 f) [.ptr 0 0] (mkH [(0,.cells (chk sz L) true)]) 1 (FLQ (i L) sz L)):ai f (DN i):=λargs H n t b v l w y K m a o=>by
 unfold DN at b;split at b
 ·obtain⟨x,rfl,p⟩:=vs1 a;obtain⟨c,sz,L,rfl,g,k,h,q,b⟩:=b
  refine dq (S:=[c]) (O:=[.cells (chk sz L) true]) (args0:=[.ptr 0 0]) (ai.post (ax TG 4 _)) e m
   (nM g k (.inr rfl)) (.cons p .nil) o (d sz L h q) λu z A ⟨r,s⟩=>?_
  subst r;exact⟨1,H,Z6 _,Ss k s,rfl,b⟩
 ·exact b.elim
theorem Qe:ai 121 (DN λ_=>0):=DO (by kernel_rfl) Ke
theorem TH:ai 60 (DN λL=>L.length-1):=DO (by kernel_rfl) Np
theorem Up.app{A B:Smp}:Up (A++B)<->Up A/\Up B/\∀x∈A,∀y∈B,x.1<y.1:=List.pairwise_append
def eE(L:Smp)(t v p:Int):Smp×Int:=if has L t then(if(bo p (vAt L (plc L t)) v).2≠0 then(L,(bo p (vAt L (plc L t)) v).2)else(lq L t (bo p (vAt L (plc L t)) v).1,0))else(jP L t v,0)
theorem F2(p a b:Int):(bo p a b).2≠2:=by
 unfold bo
 repeat' split
 all_goals exact λq=>absurd q (by simp)
theorem ua{sz:Nat}{L:Smp}{t v p:Int}(a:0<=t/\t<1099511627776):fp sz L t v p=if(eE L t v p).2≠0 then(L,(eE L t v p).2)else rb sz L (eE L t v p).1:=by
 unfold fp eE;rw[if_neg (by omega)];by_cases h:has L t=true
 ·rw[if_pos h,if_pos h];by_cases q:(bo p (vAt L (plc L t)) v).2≠0
  ·rw[if_pos q,if_pos q];simp[q]
  ·rw[if_neg q,if_neg q];simp
 ·rw[if_neg h,if_neg h];simp
theorem Nq(L:Smp)(t v p:Int):(eE L t v p).2≠2:=by
 unfold eE;split
 ·split
  ·exact F2 _ _ _
  ·exact λq=>absurd q (by simp)
 ·exact λq=>absurd q (by simp)
theorem DP{L:Smp}{t v p:Int}(h:(eE L t v p).2≠0):(eE L t v p).1=L:=by
 unfold eE at h⊢;split
 ·split
  ·rfl
  ·rename_i a b;rw[if_pos a,if_neg b]at h;exact absurd rfl h
 ·rename_i a;rw[if_neg a]at h;exact absurd rfl h
theorem Nr{A X:Smp}{t:Int}(h:∀x∈A,x.1<t):plc (A++X) t=A.length+plc X t:=by
 induction A with
 |nil=>simp
 |cons a A b=>
  rw[q1q,plc,if_pos (h a (by simp)),b λx c=>h x (Y4 _ c)];simp only[Z9];omega
theorem Kf{M B:Smp}{t:Int}(h:∀x∈B,t<x.1):plc (M++B) t=plc M t:=by
 induction M with
 |nil=>
  cases B with
  |nil=>rfl
  |cons b B=>
   have c:¬b.1<t:=by have:=h b (by simp);omega
   show plc (b::B) t=0;unfold plc;rw[if_neg c]
 |cons a M d=>rw[q1q,plc,plc,d]
theorem sM{A M B:Smp}{t:Int}(a:∀x∈A,x.1<t)(b:∀x∈B,t<x.1):plc (A++(M++B)) t=A.length+plc M t:=by rw[Nr a,Kf b]
theorem Bn{A M B:Smp}{i:Nat}(h:i<M.length):(A++(M++B))[A.length+i]?=M[i]?:=by
 rw[q0x (by omega),show A.length+i-A.length=i by omega,q1f h]
theorem HT{A M B:Smp}{t:Int}(f:∀x∈A,x.1<t)(d:∀x∈B,t<x.1):has (A++(M++B)) t=has M t:=by
 unfold has;rw[sM f d];by_cases h:plc M t<M.length
 ·have e:tAt (A++(M++B)) (A.length+plc M t)=tAt M (plc M t):=by unfold tAt;rw[Bn h]
  rw[e];congr 1;simp only[Z5,eq_iff_iff];constructor
  ·exact λq=>⟨h,q.2⟩
  ·exact λq=>⟨by omega,q.2⟩
 ·have j:plc M t=M.length:=by have:=re M t;omega
  have g:¬(plc M t<M.length/\tAt M (plc M t)=t):=λq=>h q.1
  rw[decide_eq_false g];refine decide_eq_false λ⟨b,c⟩=>?_
  have b:M.length<(M++B).length:=by simp only[Z5]at b⊢;omega
  have i:(A++(M++B))[A.length+plc M t]?=B[0]?:=by
   rw[q0x (by omega),show A.length+plc M t-A.length=M.length by omega,q0x (Z6 _),Nat.sub_self]
  cases a:B with
  |nil=>rw[a]at b;simp at b
  |cons y k=>
   unfold tAt at c;rw[i,a]at c;have:=d y (by rw[a];simp);simp at c;omega
theorem DQ{A M B:Smp}{t:Int}(v p:Int)(b:∀x∈A,x.1<t)(c:∀x∈B,t<x.1):eE (A++(M++B)) t v p=(A++((eE M t v p).1++B),(eE M t v p).2):=by
 have hle:=re M t
 have d:jP (A++(M++B)) t v=A++(jP M t v++B):=by
  unfold jP;rw[sM b c,List.take_length_add_append,List.drop_length_add_append,List.take_append_of_le_length hle,q3e hle];simp
 unfold eE;rw[HT b c];by_cases h:has M t=true
 ·have a:plc M t<M.length:=by unfold has at h;exact(of_decide_eq_true h).1
  have e:vAt (A++(M++B)) (plc (A++(M++B)) t)=vAt M (plc M t):=by unfold vAt;rw[sM b c,Bn a]
  have f:∀w,lq (A++(M++B)) t w=A++(lq M t w++B):=λw=>by
   unfold lq;rw[sM b c,q4g _ _ (by omega),show A.length+plc M t-A.length=plc M t by omega,List.set_append_left _ _ a]
  rw[if_pos h,if_pos h,e,f];split<;>rfl
 ·rw[if_neg h,if_neg h,d]
theorem kQ(X:Smp)(i:Nat):2<=(ct X i).length/\(ct X i).length<=136/\(i=0->(ct X i).length=128):=by
 unfold ct;split
 ·simp[aS]
 ·rename_i h;have a:=gM (dT X i);have b:=gM (dV X i);rw[Z5];exact⟨by omega,by omega,λq=>absurd q h⟩
theorem ub{A M:Smp}(i:Nat):tAt (A++M) (A.length+i)=tAt M i/\vAt (A++M) (A.length+i)=vAt M i:=by
 unfold tAt vAt;rw[q0x (by omega),show A.length+i-A.length=i by omega];exact⟨rfl,rfl⟩
theorem mb{A M:Smp}{i:Nat}(h:i<A.length):tAt (A++M) i=tAt A i/\vAt (A++M) i=vAt A i:=by
 unfold tAt vAt;rw[q1f h];exact⟨rfl,rfl⟩
theorem F3{A M:Smp}{i:Nat}(h:i<A.length):ct (A++M) i=ct A i:=by
 unfold ct dT dV fw;rw[(mb h).1,(mb h).2,(mb (show i-1<A.length by omega)).1,(mb (show i-1<A.length by omega)).2,(mb (show i-2<A.length by omega)).1,(mb (show 0<A.length by omega)).1,(mb (show 0<A.length by omega)).2]
theorem DR{A M:Smp}{i:Nat}(h:2<=i):ct (A++M) (A.length+i)=ct M i:=by
 unfold ct dT dV fw;rw[show A.length+i-1=A.length+(i-1) by omega,show A.length+i-2=A.length+(i-2) by omega,(ub i).1,(ub i).2,(ub (i-1)).1,(ub (i-1)).2,(ub (i-2)).1];simp only[show¬(A.length+i=0) by omega,show¬(A.length+i<2) by omega,show¬(i=0) by omega,show¬(i<2) by omega,if_false]
theorem ly{A M:Smp}:∀{i:Nat},i<=A.length->aM (A++M) i=aM A i
 |0,_=>rfl
 |i+1,h=>by rw[aM,aM,ly (by omega),F3 (by omega)]
theorem pe(A M:Smp):∀i:Nat,(aM (A++M) (A.length+i)).length<=(a8 A).length+(aM M i).length+142/\(a8 A).length+(aM M i).length<=(aM (A++M) (A.length+i)).length+260
 |0=>by
  rw[q2o,ly (Z6 _),aM];have:(aM A A.length).length=(a8 A).length:=rfl
  simp only[q1j];omega
 |1=>by
  obtain⟨b,c⟩:=pe A M 0;have e:aM (A++M) (A.length+1)=aM (A++M) (A.length+0)++ct (A++M) (A.length+0):=rfl
  have e0:aM (A++M) (A.length+0)=aM A A.length:=by rw[q2o,ly (Z6 _)]
  have:(aM A A.length).length=(a8 A).length:=rfl
  have s1:=kQ (A++M) (A.length+0);have s2:=kQ M 0;have d:=s2.2.2 rfl
  have a:aM M 1=[]++ct M 0:=rfl
  rw[e,e0,a,Z5,Z5,q1j];omega
 |i+2=>by
  by_cases f:i=0
  ·subst f;have e:aM (A++M) (A.length+2)=aM (A++M) (A.length+0)++ct (A++M) (A.length+0)++ct (A++M) (A.length+1):=rfl
   have e0:aM (A++M) (A.length+0)=aM A A.length:=by rw[q2o,ly (Z6 _)]
   have:(aM A A.length).length=(a8 A).length:=rfl
   have s1:=kQ (A++M) (A.length+0);have s2:=kQ M 0;have d:=s2.2.2 rfl
   have g:=kQ (A++M) (A.length+1);have h:=kQ M 1;have a:aM M 2=[]++ct M 0++ct M 1:=rfl
   rw[e,e0,a];simp only[Z5,q1j];omega
  ·obtain⟨b,c⟩:=pe A M (i+1);have e:aM (A++M) (A.length+(i+2))=aM (A++M) (A.length+(i+1))++ct (A++M) (A.length+(i+1)):=rfl
   have a:aM M (i+2)=aM M (i+1)++ct M (i+1):=rfl
   rw[e,a,DR (by omega),Z5,Z5];omega
theorem DS(A M:Smp):(a8 (A++M)).length<=(a8 A).length+(a8 M).length+142/\(a8 A).length+(a8 M).length<=(a8 (A++M)).length+260:=by
 have:=pe A M M.length;unfold a8;rw[Z5];exact this
theorem HU{L:Smp}:∀(f k:Nat),1<=k->k<=L.length-1->1<=vf L f k/\vf L f k<=L.length-1
 |0,k,a,b=>⟨a,b⟩
 |f+1,k,a,b=>by
  unfold vf;split
  ·rename_i h;unfold rj at h;simp only[Z7,decide_eq_true_eq]at h;exact HU f (k+1) (by omega) (by omega)
  ·exact⟨a,b⟩
theorem Bo{L:Smp}(h:2<=L.length):1<=b8 L/\b8 L<=L.length-1:=HU _ 1 (Z6 _) (by omega)
theorem DU{L:Smp}:∀(f k:Nat),L.length-k<=f->rj L (vf L f k)=false
 |0,k,h=>by
  show rj L k=false;unfold rj;rw[decide_eq_false (show¬k<L.length-1 by omega)];rfl
 |f+1,k,h=>by
  unfold vf;split
  ·exact DU f (k+1) (by omega)
  ·rename_i h;simpa using h
theorem Ns{L:Smp}(h:1<=L.length):rj L (b8 L)=false:=DU _ 1 (by omega)
theorem Nt{sz:Nat}(g:128<=sz){L:Smp}(b:2<=L.length)(h:(a8 L).length<=8*sz):(a8 (L.take (b8 L))).length<=8*sz/\(a8 (L.drop (b8 L))).length<=8*sz:=by
 obtain⟨l,m⟩:=Bo b;have he:=Ns (L:=L) (by omega);generalize b8 L=k at*;have e:=DS (L.take k) (L.drop k);rw[q1i]at e
 have n:(a8 (L.take k)).length<=(a8 L).length:=by
  have:a8 L=aM (L.take k++L.drop k) L.length:=by rw[q1i];rfl
  have a:(L.take k).length=k:=by rw[q0g];omega
  have c:aM (L.take k++L.drop k) (L.take k).length=a8 (L.take k):=ly (Z6 _)
  have mono:∀(X:Smp) (i j:Nat),(aM X i).length<=(aM X (i+j)).length:=λX i j=>by
   induction j with
   |zero=>exact Z6 _
   |succ j o=>
    have d:aM X (i+(j+1))=aM X (i+j)++ct X (i+j):=rfl
    rw[d,Z5];omega
  have:=mono (L.take k++L.drop k) k (L.length-k);rw[<-c,a];have f:a8 L=aM (L.take k++L.drop k) (k+(L.length-k)):=by rw[q1i,show k+(L.length-k)=L.length by omega];rfl
  rw[f];exact this
 refine⟨by omega,?_⟩;unfold rj at he;by_cases q:k<L.length-1
 ·rw[decide_eq_true q]at he;have:¬2*(a8 (L.take k)).length<(a8 L).length:=by simpa using he
  omega
 ·have a:(L.drop k).length<=7:=by rw[q0p];omega
  have:=pV a;omega
abbrev Ck5:=List ((Nat×Nat)×Smp)
def chs(sz:Nat)(C:Ck5):Pk:=C.map λc=>(c.1,chk sz c.2)
theorem dA(sz:Nat)(A B:Ck5)(p:Nat×Nat)(L:Smp):chs sz (A++(p,L)::B)=chs sz A++(p,chk sz L)::chs sz B:=by simp[chs]
def fb(sz:Nat)(C D:Ck5):Prop:=∀z S h,(pk (chs sz C)).P z S h->(pk (chs sz D)).P z S h
theorem fb.refl(sz:Nat)(C:Ck5):fb sz C C:=λ_ _ _ h=>h
theorem fb.sub{sz:Nat}{C D:Ck5}(h:D.Sublist C):fb sz C D:=Tf (h.map _)
def Bp (H:AH) (b sz:Nat) (D:Ck5):AH:=H.set (some (.sep (pk (chs sz D)))) aa b
structure xq(H:AH)(n b sz:Nat)(C:Ck5):Prop where
 bn:b<n
 lt:n<1000000
 nn:H.get n=none
 hb:H.get b=some (.sep (pk (chs sz C)))
def Bq(args:List AV)(H:AH)(n:Nat)(κ:PK):Prop:=match args with
 | [x,y,z]=>∃(b sz:Nat) (A B D:Ck5) (p:Nat×Nat) (L:Smp) (t v q:Int) (r:Smp×Int),x=aA p/\nJ y t v/\mk z= .si .i64 q/\xq H n b sz (A++(p,L)::B)/\0<sz/\sz<=4096/\cF L/\aP v/\fp sz L t v q=r/\fb sz (A++(p,r.1)::B) D/\
  κ (.si .i64 r.2) (Bp H b sz D) (n+1)
 |_=>False
theorem TI:ai 183 Bq:=λargs H n w c x j y z K k a l=>by
 unfold Bq at c;split at c
 ·obtain⟨b,sz,A,B,D,p,L,t,v,q,r,rfl,m,o,⟨d,e,f,i⟩,s1,s2,s,u,g,h,c⟩:=c;subst g;rw[dA]at i;unfold fb at h;rw[dA]at h;exact V8.Dn k d e f i a l ⟨n,sz,L,t,v,q,rfl,m,o,q1l _,qD e,s1,s2,s,u,qC.set d e rfl (dK _ _) h c⟩
 ·exact c.elim
def xr(args:List AV)(H:AH)(n:Nat)(κ:PK):Prop:=match args with
 | [x,y,z]=>∃(b sz:Nat) (A B D:Ck5) (p:Nat×Nat) (L:Smp) (s t:Int),x=aA p/\mk y= .si .i64 s/\mk z= .si .i64 t/\xq H n b sz (A++(p,L)::B)/\0<sz/\cF L/\fb sz (A++(p,aR L s t)::B) D/\
  κ (.si .i64 ((L.length:Int)-((aR L s t).length:Int))) (Bp H b sz D) (n+1)
 |_=>False
theorem Qf:ai 157 xr:=λargs H n q c r i u v K j a k=>by
 unfold xr at c;split at c
 ·obtain⟨b,sz,A,B,D,p,L,s,t,rfl,l,m,⟨d,e,f,h⟩,s1,o,g,c⟩:=c;rw[dA]at h;unfold fb at g;rw[dA]at g;exact Tv.Dn j d e f h a k ⟨n,sz,L,s,t,rfl,l,m,q1l _,qD e,s1,o,qC.set d e rfl (dK _ _) g c⟩
 ·exact c.elim
def Bt(args:List AV)(H:AH)(n:Nat)(κ:PK):Prop:=match args with
 | [x,y]=>∃(b sz:Nat) (A B D:Ck5) (p:Nat×Nat) (L:Smp) (t:Int),x=aA p/\mk y= .si .i64 t/\xq H n b sz (A++(p,L)::B)/\0<sz/\cF L/\fb sz (A++(p,L)::B) D/\κ (.tup [.si .i64 (ja L t).1,.si .i64 (ja L t).2]) (Bp H b sz D) (n+1)
 |_=>False
theorem TJ:ai 64 Bt:=λargs H n o c q i r s K j a k=>by
 unfold Bt at c;split at c
 ·obtain⟨b,sz,A,B,D,p,L,t,rfl,l,⟨d,e,f,h⟩,s1,m,g,c⟩:=c;rw[dA]at h;unfold fb at g;rw[dA]at g;exact V9.Dn j d e f h a k ⟨n,sz,L,t,rfl,l,q1l _,qD e,s1,m,qC.same d e rfl (dK _ _) g c⟩
 ·exact c.elim
def rm(i:Smp->Nat)(args:List AV)(H:AH)(n:Nat)(κ:PK):Prop:=match args with
 | [x]=>∃(b sz:Nat) (A B D:Ck5) (p:Nat×Nat) (L:Smp),x=aA p/\xq H n b sz (A++(p,L)::B)/\0<sz/\cF L/\fb sz (A++(p,L)::B) D/\κ (FLv (i L) L) (Bp H b sz D) (n+1)
 |_=>False
theorem zL{f:FuncId}{i:Smp->Nat}(h:ai f (DN i)):ai f (rm i):=λargs H n r c s l t u K m a o=>by
 unfold rm at c;split at c
 ·obtain⟨b,sz,A,B,D,p,L,rfl,⟨d,e,g,k⟩,s1,q,j,c⟩:=c;rw[dA]at k;unfold fb at j;rw[dA]at j;exact h.Dn m d e g k a o ⟨n,sz,L,rfl,q1l _,qD e,s1,q,qC.same d e rfl (dK _ _) j c⟩
 ·exact c.elim
theorem Nu:ai 121 (rm λ_=>0):=zL Qe
theorem HV:ai 60 (rm λL=>L.length-1):=zL TH
def Bu(f:Nat->Smp->AV)(args:List AV)(H:AH)(n:Nat)(κ:PK):Prop:=match args with
 | [x]=>∃(b sz:Nat) (A B D:Ck5) (p:Nat×Nat) (L:Smp),x=aA p/\xq H n b sz (A++(p,L)::B)/\fb sz (A++(p,L)::B) D/\κ (f sz L) (Bp H b sz D) (n+1)
 |_=>False
theorem Kg{f:FuncId}{g:Nat->Smp->AV}(h:ai f (HS g)):ai f (Bu g):=λargs H n q c r l s t K m a o=>by
 unfold Bu at c;split at c
 ·obtain⟨b,sz,A,B,D,p,L,rfl,⟨d,e,i,k⟩,j,c⟩:=c;rw[dA]at k;unfold fb at j;rw[dA]at j;exact h.Dn m d e i k a o ⟨n,sz,chk sz L,L,rfl,qD e,rfl,qC.same d e rfl (dK _ _) j c⟩
 ·exact c.elim
theorem TK:ai 186 (Bu TD):=Kg Wb
theorem vt.ro{p:Nat×Nat}{l:List AV}{h:Hp}(k:vt p l h):oV h ⟨p.1,p.2,l.length⟩ l:=by
 obtain⟨a,T,c,t,b,f,g,d⟩:=k;exact⟨c,t,(0,0),b,Z6 _,by show p.2+l.length<=c.size;omega,λe=>CR.nI (ψ:=Ph.no) d rfl a⟩
theorem DV{φ:Ph}{H:AH}{n:Nat}{d a:Hp}{b sz:Nat}{A B:Ck5}{p:Nat×Nat}{L:Smp}(e:HR φ H n d a)(f:H.get b=some (.sep (pk (chs sz (A++(p,L)::B))))):vt p (chk sz L) a:=by
 obtain⟨⟨_,_,c⟩,_⟩:=e.sep b _ f;rw[dA]at c;exact(c (p,chk sz L) (by simp)).2
def rp(f:Nat->Smp->AV)(args:List AV)(H:AH)(n:Nat)(κ:PK):Prop:=match args with
 | [x]=>∃(b sz:Nat) (A B:Ck5) (p:Nat×Nat) (L:Smp),x=aA p/\H.get b=some (.sep (pk (chs sz (A++(p,L)::B))))/\κ (f sz L) H n
 |_=>False
theorem HW(f:Nat->Smp->AV):iG (rp f):= .pure λargs H n i a=>by
 unfold rp at*;split at a
 ·obtain⟨b,sz,A,B,p,L,c,d,e⟩:=a;exact⟨_,e,λg h=>⟨b,sz,A,B,p,L,c,d,h⟩⟩
 ·exact a.elim
theorem Kh{f:FuncId}{g:Nat->Smp->AV}(e:bR Tryz.prog f=true)(k:∀size L,flat.flat1 (g size L)=true)(d:∀size L,ay evP 3 f [.ptr 0 0] (mkH [(0,.ro (chk size L))]) 1 λu _ _=>mkT u=mkT (g size L))(l:∀size L,mkT (g size L)=g size L):ai f (rp g):=λargs H n w c y m z C K j a q=>by
 unfold rp at c;split at c
 ·obtain⟨x,rfl,h⟩:=vs1 a;obtain⟨b,sz,A,B,p,L,rfl,r,c⟩:=c;have h:x=qZ p:=h;subst h;have i:=(DV j r).ro;exact iu az (v:=g sz L) (wR (k sz L)) (d sz L) (by rw[l];exact c) j q e (φ0:=ph1 ⟨p.1,p.2,(chk sz L).length⟩) (λt=>HR.ro1 t i) (.cons (.ptr (p:=⟨p.1,p.2,(chk sz L).length⟩) (o:=0) rfl) .nil)
 ·exact c.elim
theorem HX:ai 202 (rp Nl):=Kh (by kernel_rfl) (λ_ _=>rfl) (λsize L=>by
 conv=>whnf
 rfl) λ_ _=>rfl
def Bv(args:List AV)(H:AH)(n:Nat)(κ:PK):Prop:=match args with
 | [x]=>∃(b sz:Nat) (A B:Ck5) (p:Nat×Nat) (L:Smp),x=aA p/\H.get b=some (.sep (pk (chs sz (A++(p,L)::B))))/\0<sz/\cF L/\κ (.fr L.length 2 (smp L)) H n
 |_=>False
theorem TL:ai 119 Bv:=λargs H n u c j l v w K d a m=>by
 unfold Bv at c;split at c
 ·obtain⟨x,rfl,e⟩:=vs1 a;obtain⟨b,sz,A,B,p,L,rfl,q,g,k,c⟩:=c;have e:x=qZ p:=e;subst e;have i:=(DV d q).ro;have r:L.length<=100000:=by have:=k.2.2;omega
  exact Ho FY (bI L) (bh L) (HL sz L g r k.jQ) c d m (by kernel_rfl) (φ0:=⟨(ph1 ⟨p.1,p.2,(chk sz L).length⟩).f,j.z,j.z,λ_ _=>False⟩)
   (λt=>d.zC (HR.ro1 t i) (λb o h=>by
    have hm:=ck h;simp only[Z3,Z4,or_false]at hm;injection hm with h1 h2;subst h2;rfl) (λ_ h=>h)) rfl (.cons (.ptr (p:=⟨p.1,p.2,(chk sz L).length⟩) (o:=0) rfl) .nil)
 ·exact c.elim
structure Sr where
 sz:Nat
 ret:Int
 pol:Int
 mx:Int
 fl:Int
abbrev Ps:=List (Nat×Nat)
def aZ(V:Ps):List AV:=V.map aA
def pts(C:Ck5):Ps:=C.map λc=>c.1
theorem ao(C:Ck5):(pts C).length=C.length:=Y9 _
def c6(S:Sr)(k m:Nat):List AV:=[.si .i64 (S.sz:Int),.si .i64 S.ret,.si .i64 S.pol,.si .i64 S.mx,.si .i64 S.fl,.rw k 0 m 1 0]
def dB(S:Sr)(C:Ck5):AO:= .sep (pk (chs S.sz C))
def iy(S:Sr)(V:Ps)(C:Ck5):List AO:=[.cells (c6 S 1 V.length) true,.cells (aZ V) true,dB S C]
structure fc(H:AH)(n r k q:Nat)(S:Sr)(V:Ps)(C:Ck5):Prop where
 ne:r≠k/\r≠q/\k≠q
 lt:r<n/\k<n/\q<n
 hr:H.get r=some (.cells (c6 S k V.length) true)
 hk:H.get k=some (.cells (aZ V) true)
 hq:H.get q=some (dB S C)
theorem b7(C:Ps):(aZ C).length=C.length:=Y9 _
theorem sN(A B:Ps):aZ (A++B)=aZ A++aZ B:=q0m
theorem jR(f:Nat->Nat)(C:Ps):dw f (aZ C)=aZ C:=by
 induction C with
 |nil=>rfl
 |cons c C a=>
  show ren f (aA c)::dw f (aZ C)=_;rw[a];rfl
theorem pW(m:Nat)(C:Ps):jO m (aZ C)=true:=by
 induction C with
 |nil=>rfl
 |cons c C a=>
  show(ltV m (aA c)&&jO m (aZ C))=true;rw[a];rfl
theorem aC(C:Ps):(aZ C).map mk=aZ C:=by
 unfold aZ;rw[q4e];rfl
theorem DW(C:Ps):(aZ C).all oH=true:=by
 induction C with
 |nil=>rfl
 |cons c C a=>exact a
theorem fc.xt{H:AH}{n r k q:Nat}{S:Sr}{V:Ps}{C:Ck5}(h:fc H n r k q S V C):iZ H n [r,k,q] (iy S V C):=
 ⟨by simp[h.ne.1,h.ne.2.1,h.ne.2.2],rfl,λi s o a b=>by
  match i,a,b with
  |0,a,b=>injection a with a;injection b with b;subst a b;exact⟨h.lt.1,h.hr,.inr rfl⟩
  |1,a,b=>injection a with a;injection b with b;subst a b;exact⟨h.lt.2.1,by rw[bT,jR];exact h.hk,.inr rfl⟩
  |2,a,b=>injection a with a;injection b with b;subst a b;exact⟨h.lt.2.2,h.hq,.inr rfl⟩⟩
def Wc (S:Sr) (V:Ps) (C:Ck5):AH:=mkH [(0,.cells (c6 S 3 V.length) true),(3,.cells (aZ V) true),(2,dB S C)]
def gx (H:AH) (n r k q:Nat) (S:Sr) (V:Ps) (C:Ck5):AH:=PM.set (some (.cells (c6 S n V.length) true)) aa (PM.set none aa (PM.set (some (dB S C)) aa (PM.set (some (.cells (aZ V) true)) aa H n) q) k) r
def SP(P:AV->Sr->Ps->Ck5->Prop):PK:=λu a m=>∃S V C,P u S V C/\a=Wc S V C/\m=4
def fC(g:List AV->AH->Nat->PK->Prop)(args:List AV)(H:AH)(n:Nat)(κ:PK):Prop:=g args H n λu b c=>∃(v:AV) (a:AH) (m:Nat),Cov n (mkE [(0,u)]) b c (mkE [(0,v)],a,m)/\κ v a m
theorem ai.fC{f:FuncId}{g:List AV->AH->Nat->PK->Prop}(r:ai f g):ai f (fC g):=λargs H n Q s x k h A K l B C=>r args H n _ s x k h A K l B λD u R S w o c d E ⟨v,F,m,G,i⟩=>by
 obtain⟨I,⟨J,L,M⟩,N,O⟩:=G D k o (λ_=>w) d (λt a P=>by
  have:=nG P;simp only[Z3,Z4,or_false]at this;injection this with e1 e2;subst e1 e2;exact E)
 exact C I v F m w o ⟨λb p e=>J b p (l.dom b p e).1 (c.b b p e),λq j=>L q (c.z q j),λq j=>c.y q (M q j)⟩ N (O 0 v rfl) i
theorem gO {f:FuncId} {run:List AV->AH->Nat->PK->Prop} (d:ai f run) (i:bR Tryz.prog f=true) {a:List AV} {S:Sr} {V:Ps} {C:Ck5} {P:AV->Sr->Ps->Ck5->Prop} (h:fC run (.ptr 0 0::a) (mkH (bF (iy S V C) 0)) 3 (SP P)) (j:∀r,dw r a=a)
 {φ:Ph} {H:AH} {n:Nat} {s t:Hp} {l:Array Value} {κ:PK} {K:KH} {r k q:Nat} (y:HR φ H n s t) (z:fc H n r k q S V C) (c:VRs φ (.ptr r 0::a) l.toList) (A:cD φ s κ K) (B:∀u S' b C',P u S' b C'->(∀f,ren f u=u)/\ltV 4 u=true) (D:∀u S' b C',P u S' b C'->κ u (gx H n r k q S' b C') (n+1)):dI Tryz.prog f l t K:=by
 refine dq (S:=[r,k,q]) (O:=iy S V C) (args0:= .ptr 0 0::a) (ai.fC d) i y z.xt (by show VRs φ (ren _ _::dw _ a) l.toList;rw[j];exact c) A h λu G I ⟨S',b,C',v,E,F⟩=>?_
 subst E F;obtain⟨g,p⟩:=B u S' b C' v;refine⟨4,kg [r,k,q] n H [(0,some (.cells (c6 S' 3 b.length) true)),(1,none),(2,some (dB S' C')),(3,some (.cells (aZ b) true))],Z0 rfl,fB.put (Z0 rfl) rfl (λx w o ho=>?_),p,?_⟩
 ·simp only[Z3,Z4,or_false]at w;rcases w with rfl|rfl|rfl|rfl
  ·injection ho with ho;subst ho;exact⟨rfl,rfl,rfl⟩
  ·cases ho
  ·injection ho with ho;subst ho;exact⟨rfl,rfl,rfl⟩
  ·injection ho with ho;subst ho;exact⟨rfl,rfl,pW _ _⟩
 ·have e:kg [r,k,q] n H [(0,some (.cells (c6 S' 3 b.length) true)),(1,none),(2,some (dB S' C')),(3,some (.cells (aZ b) true))]=gx H n r k q S' b C':=by
   simp only[kg,q0h,q2l,bT,jR];rfl
  rw[g _,e];exact D u S' b C' v
theorem VTo.mk5{u v:AV}(h:mk u=v):VTo u v:=λb w a=>h▸a.mk
theorem an.aZ{H:AH}{m:Nat}{r:Nat->Nat}{l:List AV}{C:Ps}(h:l.map Go.Proofs.YtflehenfikoniaaGreat.mk=Go.Proofs.YtflehenfikoniaaGreat.aZ C):an H m r (.cells l true) (.cells (Go.Proofs.YtflehenfikoniaaGreat.aZ C) true):=
 an.cells (by have:=congrArg List.length h;simp only[Y9]at this;omega) (λq=>q) λi f d=>by
  rw[<-h,q0s]at d;cases e:l[i]? with
  |none=>rw[e]at d;cases d
  |some a=>
   rw[e]at d;injection d with d;have b:(Go.Proofs.YtflehenfikoniaaGreat.aZ C)[i]?=some f:=by rw[<-h,q0s,e];exact congrArg some d
   unfold Go.Proofs.YtflehenfikoniaaGreat.aZ at b;rw[q0s]at b;cases g:C[i]? with
   |none=>rw[g]at b;cases b
   |some c=>
    rw[g]at b;injection b with b;refine⟨a,rfl,λk o v _ _ n=>?_⟩;have j:VR k f v:=d▸n.mk;rw[<-b]at j⊢;exact j
theorem an.sep{H:AH}{m:Nat}{r:Nat->Nat}(Q:HP):an H m r (.sep Q) (.sep Q):=⟨⟨rfl,rfl⟩,λ_ _ _ _ _ _ h=>h.elim⟩
theorem oS{H:AH}{m n x:Nat}{r:Nat->Nat}{Q:HP}(e:H.get (r x)=some (.sep Q):=by exact rfl):(∃o,H.get (r x)=some o/\an H m r o (.sep Q))∨((AO.sep Q).void=true/\n<=r x):= .inl ⟨_,e,an.sep _⟩
def xu (le:List (Nat×AV)) (S:Sr) (V:Ps) (C:Ck5):AE×AH×Nat:=(mkE le,mkH [(0,.cells (c6 S 3 V.length) true),(3,.cells (aZ V) true),(2,dB S C)],4)
def Bw(a:Nat):Nat->Nat:=λb=>if b=3 then a else b
theorem fe{C:Ck5}{i:Nat}(h:i<C.length):C.take i++(C[i].1,C[i].2)::C.drop (i+1)=C:=by
 show C.take i++C[i]::C.drop (i+1)=C;rw[<-q0j h,q1i]
theorem jF{H:AH}{n:Nat}{S:Sr}{C:Ck5}{i:Nat}(h:i<C.length)(a:PM.get H 2=some (dB S C))(hn:2<n)(b:n<1000000)(c:PM.get H n=none):xq H n 2 S.sz (C.take i++(C[i].1,C[i].2)::C.drop (i+1)):=⟨hn,b,c,by rw[fe h];exact a⟩
theorem jt{sz:Nat}{C:Ck5}{i:Nat}(h:i<C.length):fb sz (C.take i++(C[i].1,C[i].2)::C.drop (i+1)) C:=by rw[fe h];exact .refl _ _
theorem an.c6{H:AH}{m:Nat}{r:Nat->Nat}{S:Sr}{k b:Nat}{c d e f g h:AV}(j:mk c= .si .i64 (S.sz:Int))(l:mk d= .si .i64 S.ret)(n:mk e= .si .i64 S.pol)(o:mk f= .si .i64 S.mx)(p:mk g= .si .i64 S.fl)(s:ab H m r h (.rw k 0 b 1 0)):an H m r (.cells [c,d,e,f,g,h] true) (.cells (Go.Proofs.YtflehenfikoniaaGreat.c6 S k b) true):=
 an.cells (Z6 _) (λq=>q) λi t a=>by
  match i,a with
  |0,a=>injection a with a;subst a;exact⟨_,rfl,ab.int j⟩
  |1,a=>injection a with a;subst a;exact⟨_,rfl,ab.int l⟩
  |2,a=>injection a with a;subst a;exact⟨_,rfl,ab.int n⟩
  |3,a=>injection a with a;subst a;exact⟨_,rfl,ab.int o⟩
  |4,a=>injection a with a;subst a;exact⟨_,rfl,ab.int p⟩
  |5,a=>injection a with a;subst a;exact⟨_,rfl,s⟩
  |i+6,a=>simp[Go.Proofs.YtflehenfikoniaaGreat.c6]at a
theorem oa {p:Nat} {σ:AE} {H:AH} {n:Nat} {S:Sr} {V:Ps} {C:Ck5} (a:Nat) {le:List (Nat×AV)} {f g h i j k:AV} {l:List AV} (D:p<=3) (q:∀x∈le,ab H 4 (Bw a) (bj (pa x.1) σ) x.2) (E:a≠0/\a≠2)
 (r:PM.get H 0=some (.cells [f,g,h,i,j,k] true)) (s:mk f= .si .i64 (S.sz:Int)) (t:mk g= .si .i64 S.ret) (u:mk h= .si .i64 S.pol) (v:mk i= .si .i64 S.mx) (w:mk j= .si .i64 S.fl) (z:ab H 4 (Bw a) k (.rw 3 0 V.length 1 0))
 (A:PM.get H a=some (.cells l true)) (d:l.map mk=aZ V) (B:PM.get H 2=some (dB S C)):Cov p σ H n (xu le S V C):=by
 refine Cov.ofR (m:=4) (p:=p) (Bw a) (by omega) (λb F=>by unfold Bw;rw[if_neg (by omega)]) q ?_ ?_
 ·intro x c;simp only[Z3,Z4,or_false]at c;rcases c with rfl|rfl|rfl
  ·exact⟨Z0 rfl,.inl ⟨_,r,an.c6 s t u v w z⟩⟩
  ·exact⟨Z0 rfl,.inl ⟨_,A,an.aZ d⟩⟩
  ·exact⟨Z0 rfl,.inl ⟨_,B,an.sep _⟩⟩
 ·intro x c y o e;simp only[Z3,Z4,or_false]at c o;rcases c with rfl|rfl|rfl<;>rcases o with rfl|rfl|rfl
  ·rfl
  ·exact absurd (show 0=a from e) (by omega)
  ·exact absurd (show 0=2 from e) (by omega)
  ·exact absurd (show a=0 from e) (by omega)
  ·rfl
  ·exact absurd (show a=2 from e) (by omega)
  ·exact absurd (show 2=0 from e) (by omega)
  ·exact absurd (show 2=a from e) (by omega)
  ·rfl
theorem fR {u v:AV} {H:AH} {n:Nat} {S:Sr} {V:Ps} {C:Ck5} (P:AV->Sr->Ps->Ck5->Prop) (o:P v S V C) (p:VTo u v) (hv:∀φ ψ w,VR φ v w->VR ψ v w) (a:Nat) {c d e f g h:AV} {l:List AV} (q:a≠0/\a≠2)
 (r:PM.get H 0=some (.cells [c,d,e,f,g,h] true)) (s:mk c= .si .i64 (S.sz:Int)) (t:mk d= .si .i64 S.ret) (y:mk e= .si .i64 S.pol) (z:mk f= .si .i64 S.mx) (A:mk g= .si .i64 S.fl) (B:ab H 4 (Bw a) h (.rw 3 0 V.length 1 0))
 (D:PM.get H a=some (.cells l true)) (b:l.map mk=aZ V) (E:PM.get H 2=some (dB S C)):∃(i:AV) (j:AH) (m:Nat),Cov 3 (mkE [(0,u)]) H n (mkE [(0,i)],j,m)/\SP P i j m:=by
 refine⟨v,Wc S V C,4,oa (le:=[(0,v)]) a (Z6 _) (λx k=>?_) q r s t y z A B D b E,S,V,C,o,rfl,rfl⟩;simp only[Z3,Z4,or_false]at k;subst k;exact λφ ψ w G _ F=>hv φ ψ w (p φ w F)
structure Okc(S:Sr)(C:Ck5):Prop where
 lo:128<=S.sz
 hi:S.sz<=4096
 dR:∀c∈C,cF c.2
 few:C.length<=100000
def cnt(C:Ck5):List Smp:=C.map λc=>c.2
theorem c7(C:Ck5):(cnt C).length=C.length:=Y9 _
theorem HY{C:Ck5}{i:Nat}(h:i<C.length):(cnt C)[i]'(by rw[c7];exact h)=C[i].2:=by simp[cnt]
theorem dy{C:Ck5}{i k:Nat}(h:i<C.length)(a:k=i):nth (aZ (pts C)) k=some (aA C[i].1):=by
 rw[a,eX];simp[aZ,pts,h]
def dO:List Smp->Int->Nat
 |_::M::D,t=>if t<tAt M 0 then 0 else dO (M::D) t+1
 |_,_=>0
theorem xx{D:List Smp}{i:Nat}{t:Int}(h:i+1<D.length):dO (D.drop i) t=if t<tAt D[i+1] 0 then 0 else dO (D.drop (i+1)) t+1:=by
 rw[q0j (show i<D.length by omega),q0j h];rfl
theorem uX{D:List Smp}{t:Int}(h:D.length<=1):dO D t=0:=by
 match D,h with
 | [],_=>rfl
 | [_],_=>rfl
 |_::_::_,h=>simp at h
theorem xy:∀{D:List Smp} (t:Int),D≠[]->dO D t<D.length
 | [],_,h=>absurd rfl h
 | [_],_,_=>Nat.zero_lt_one
 |_::M::D,t,_=>by
  have:=xy (D:=M::D) t (by simp);unfold dO;split
  ·simp
  ·simp only[Z9]at this⊢;omega
def KHm:FuncId->EP:=bg 63 [] (aq 121 (rm λ_=>0) evP)
theorem Nv:aW KHm:=aw (ae az Nu) (by kernel_rfl) (by kernel_rfl)
def HmP(b:Sr)(a:Ck5)(t:Int):AV->Sr->Ps->Ck5->Prop:=λu S V C=>u= .si .i64 ((dO (cnt a) t:Nat):Int)/\S=b/\V=pts a/\C=a
theorem VR.eH{k:IntKind}{x:Int}:∀φ ψ w,VR φ (.si k x) w->VR ψ (.si k x) w:=λ_ _ _ h=>h
theorem Nw(S:Sr)(C:Ck5)(t:Int)(f:Okc S C):fC (ay KHm 5 63) [.ptr 0 0,.si .i64 t] (mkH (bF (iy S (pts C) C) 0)) 3 (SP (HmP S C t)):=by
 have m:=f.few;have k:=f.lo;show ay KHm 5 _ _ _ _ _
 conv=>whnf
 refine aQ.mk {i:Nat//(i<C.length∨i=0)/\dO (cnt C) t=i+dO ((cnt C).drop i) t} 4 (λi=>((xu [(0,.ptr 0 0),(1,.si .i64 t),(5,.si .i64 (i.val:Int))] S (pts C) C).1,(xu [(0,.ptr 0 0),(1,.si .i64 t),(5,.si .i64 (i.val:Int))] S (pts C) C).2.1)) (λi=>C.length-i.val) ⟨0,.inr rfl,by simp⟩ ?_ ?_
 focus
  exact oa 1 (le:=[(0,.ptr 0 0),(1,.si .i64 t),(5,.si .i64 ((0:Nat):Int))]) (Z6 3) (λx c=>by
   simp only[Z3,Z4,or_false]at c;rcases c with rfl|rfl|rfl
   ·exact ab.ptr (Z0 rfl) rfl
   ·exact ab.int rfl
   ·exact ab.int rfl) ⟨by decide,by decide⟩ rfl rfl rfl rfl rfl rfl (ab.rw (Z0 rfl) rfl) rfl (aC _) rfl
 intro⟨i,n,j⟩;have e:IntKind.i64.wrap ((i:Int)+1)=((i+1:Nat):Int):=by rw[aj (by omega) (by omega)];omega
 conv=>whnf
 refine ah.dec (λh=>?_) (λh=>?_)
 focus
  have a:i+1<C.length:=by
   have h:IntKind.i64.wrap ((i:Int)+1)<((pts C).length:Int):=h;rw[e,ao]at h;omega
  have l:i+1<(cnt C).length:=by rw[c7];exact a
  have b:=xx (t:=t) l;rw[HY a]at b
  conv=>whnf
  refine Idx.mk (i+1) e (by rw[ao];exact a) ?_
  conv=>whnf
  refine au (dy a (show 0+(i+1)*1=i+1 by omega)) ?_
  conv=>whnf
  refine⟨2,S.sz,C.take (i+1),C.drop (i+1+1),C,C[i+1].1,C[i+1].2,rfl,jF a rfl (by decide) (by decide) rfl,by omega,f.dR _ (q0i a),jt a,?_⟩
  conv=>whnf
  refine ah.dec (λg=>?_) (λg=>?_)
  focus
   have d:i=dO (cnt C) t:=by rw[j,b,if_pos g];rfl
   conv=>whnf
   exact fR (HmP S C t) ⟨rfl,rfl,rfl,rfl⟩ (VTo.mk5 (congrArg (λq:Nat=>AV.si .i64 (q:Int)) d)) VR.eH 3 ⟨by decide,by decide⟩ rfl rfl rfl rfl rfl rfl (ab.rw (Z0 rfl) rfl) rfl (aC _) rfl
  have d:dO (cnt C) t=(i+1)+dO ((cnt C).drop (i+1)) t:=by rw[j,b,if_neg g];omega
  conv=>whnf
  exact⟨⟨i+1,.inl a,d⟩,by show C.length-(i+1)<C.length-i;omega,oa 3 (le:=[(0,.ptr 0 0),(1,.si .i64 t),(5,.si .i64 ((i+1:Nat):Int))]) (Z6 3) (λx c=>by
   simp only[Z3,Z4,or_false]at c;rcases c with rfl|rfl|rfl
   ·exact ab.ptr (Z0 rfl) rfl
   ·exact ab.int rfl
   ·exact ab.int (congrArg (AV.si .i64) e)) ⟨by decide,by decide⟩ rfl rfl rfl rfl rfl rfl (ab.rw (Z0 rfl) rfl) rfl (aC _) rfl⟩
 have d:i=dO (cnt C) t:=by
  have a:¬i+1<C.length:=λq=>h (by
   show IntKind.i64.wrap ((i:Int)+1)<((pts C).length:Int);rw[e,ao];omega)
  rw[j,uX (D:=(cnt C).drop i) (by rw[q0p,c7];omega)];rfl
 conv=>whnf
 exact fR (HmP S C t) ⟨rfl,rfl,rfl,rfl⟩ (VTo.mk5 (congrArg (λq:Nat=>AV.si .i64 (q:Int)) d)) VR.eH 3 ⟨by decide,by decide⟩ rfl rfl rfl rfl rfl rfl (ab.rw (Z0 rfl) rfl) rfl (aC _) rfl
def By(args:List AV)(H:AH)(n:Nat)(κ:PK):Prop:=match args with
 | [x,y]=>∃(r k q:Nat) (S:Sr) (C:Ck5) (t:Int) (h:Nat),x= .ptr r 0/\mk y= .si .i64 t/\fc H n r k q S (pts C) C/\Okc S C/\dO (cnt C) t=h/\κ (.si .i64 (h:Int)) (gx H n r k q S (pts C) C) (n+1)
 |_=>False
theorem TM:ai 63 By:=λargs H n I b J c L M K d a e=>by
 unfold By at b;split at b
 ·obtain⟨N,f,i,j,l⟩:=a.cons_inv;obtain⟨O,m,o,p,s⟩:=l.cons_inv;obtain⟨r,k,q,S,C,t,h,rfl,v,w,x,y,b⟩:=b;subst y;refine gO (ax Nv 5 _) (by kernel_rfl) (Nw S C t x) (λ_=>rfl) d w (by rw[i,o];exact .cons j (.cons (aX rfl (v▸p.mk)) s)) e (λu z A B ⟨g,_⟩=>by subst g;exact⟨λ_=>rfl,rfl⟩) λu z A B ⟨D,E,F,G⟩=>?_
  subst D E F G;exact b
 ·exact b.elim
def KIn:FuncId->EP:=bg 184 [] evP
theorem TN:aW KIn:=aw az (by kernel_rfl) (by kernel_rfl)
def InP(a:Sr)(b:Ps)(c:Ck5):AV->Sr->Ps->Ck5->Prop:=λu S V C=>u= .tup []/\S=a/\V=b/\C=c
theorem DX:RTy 107 107 1 8:=⟨_,_,_,rfl,rfl,(λq h=>by cases h),rfl,rfl,rfl,rfl,by decide,by decide⟩
theorem zM(V:Ps)(i:Nat):(aZ V).take i=aZ (V.take i):=by simp[aZ,q4i]
theorem zQ(V:Ps)(i:Nat):(aZ V).drop i=aZ (V.drop i):=by simp[aZ,List.map_drop]
theorem F4(S:Sr)(V:Ps)(C:Ck5)(i:Nat)(p:Nat×Nat)(hi:i<=V.length)(c:V.length<=200000):fC (ay KIn 5 184) [.ptr 0 0,.si .i64 (i:Int),aA p] (mkH (bF (iy S V C) 0)) 3 (SP (InP S (V.take i++p::V.drop i) C)):=by
 show ay KIn 5 _ _ _ _ _;have d:aZ (V.take i)++ [aA p]=aZ (V.take i++ [p]):=by simp[aZ]
 have a:(V.take i).length=i:=by rw[q0g];omega
 have s1:bq (aZ V) 0 (i*1)=some (aZ (V.take i)):=by
  unfold bq;rw[q0o (by rw[b7];omega),q4o,q0r,zM]
 have s2:bq (aZ V) (0+i*1) ((V.length-i)*1)=some (aZ (V.drop i)):=by
  unfold bq;rw[q0o (by rw[b7];omega),show 0+i*1=i by omega,zQ,q0r,q1n (by rw[b7,q0p];exact Z6 _)]
 have b:i+1+(V.length-i)=(V.take i++p::V.drop i).length:=by rw[Z5,Z9,q0p,a];omega
 conv=>whnf
 refine RSl.mk 0 i rfl rfl (.inr ⟨rfl,rfl⟩) (Y5 _) hi ?_
 conv=>whnf
 refine eY.exact 1 8 1 1 0 i [aA p] (aZ (V.take i)) rfl DX (.old rfl) rfl rfl (by decide) (.rw (.inr ⟨_,rfl⟩) s1) (by omega) ?_
 conv=>whnf
 refine RSl.mk i V.length rfl rfl (.inl rfl) hi (Z6 _) ?_
 conv=>whnf
 refine eY.grow 1 8 (V.length-i) (i+1) (aZ (V.drop i)) (aZ (V.take i)++ [aA p]) _ true DX (.rw (.inr ⟨_,rfl⟩) s2) (by rw[b7,q0p,q0r]) (DW _) (.rw rfl (bp (by rw[Z5,b7,a,q0r];rfl))) (by omega) ?_
 conv=>whnf
 exact fR (InP S (V.take i++p::V.drop i) C) ⟨rfl,rfl,rfl,rfl⟩ (VTo.mk5 rfl) (λe f w h=>iU rfl h) 5 ⟨by decide,by decide⟩ rfl rfl rfl rfl rfl rfl (ab.rw (Z0 rfl) (congrArg (λq=>AV.rw 5 0 q 1 0) b)) rfl (by rw[q0m,q0m,aC,aC];simp[aZ];rfl) rfl
def Bz(args:List AV)(H:AH)(n:Nat)(κ:PK):Prop:=match args with
 | [x,y,z]=>∃(r k q i:Nat) (S:Sr) (V a:Ps) (C:Ck5) (p:Nat×Nat),x= .ptr r 0/\mk y= .si .i64 (i:Int)/\z=aA p/\fc H n r k q S V C/\i<=V.length/\V.length<=200000/\V.take i++p::V.drop i=a/\κ (.tup []) (gx H n r k q S a C) (n+1)
 |_=>False
theorem DY:ai 184 Bz:=λargs H n O b P e Q R K f a h=>by
 unfold Bz at b;split at b
 ·obtain⟨T,j,l,m,o⟩:=a.cons_inv;obtain⟨U,s,t,v,w⟩:=o.cons_inv;obtain⟨W,x,y,z,A⟩:=w.cons_inv;obtain⟨r,k,q,i,S,V,d,C,p,rfl,B,rfl,D,E,F,c,b⟩:=b;subst c;refine gO (ax TN 5 _) (by kernel_rfl) (F4 S V C i p E F) (λ_=>rfl) f D (by rw[l,t,y];exact .cons m (.cons (aX rfl (B▸v.mk)) (.cons z A))) h (λu G d I ⟨g,_⟩=>by subst g;exact⟨λ_=>rfl,rfl⟩) λu G d I ⟨J,L,M,N⟩=>?_
  subst J L M N;exact b
 ·exact b.elim
theorem PM.gne{a:Type}{v:Option a}{t:PM a}{n m:Nat}{x:a}(hn:n<1000000)(b:m≠n)(h:t.get m=some x):(PM.set v aa t n).get m=some x:=PM.aF aa _ _ _ (aH hn) b h
theorem PM.geq{a:Type}{v:Option a}{t:PM a}{n:Nat}(hn:n<1000000):(PM.set v aa t n).get n=v:=PM.bN aa _ _ (aH hn)
theorem VR.F5{φ:Ph}{b:Nat}{w:Value}(h:VR φ (.ptr b 0) w):∃q T,φ b=some ⟨Prod.fst q,Prod.snd q,T⟩/\w=qZ q:=by
 obtain⟨P,a,c⟩:=h.cw;exact⟨(P.B,P.s),P.T,a,c⟩
def pX(args:List AV)(H:AH)(n:Nat)(κ:PK):Prop:=match args with
 | [x]=>∃(b sz:Nat) (A B:Ck5) (p:Nat×Nat) (L:Smp) (D:Nat×Nat->Ck5),x=aA p/\xq H n b sz (A++(p,L)::B)/\H.get (n+1)=none/\n+1<1000000/\0<sz/\cF L/\2<=L.length/\
  ∀q,fb sz (A++(p,L.take (b8 L))::(q,L.drop (b8 L))::B) (D q)/\κ (.tup [aA q,.int .i64 0]) (Bp H b sz (D q)) (n+2)
 |_=>False
theorem DZ:ai 185 pX:=λargs H n κ j φ t hp vs K hr h hk=>by
 unfold pX at j;split at j
 ·obtain⟨b,sz,A,B,p,L,D,rfl,⟨i,c,w,W⟩,y,a,s1,hF,d,j⟩:=j;rw[dA]at W;obtain⟨X,us1,q1,z,r1⟩:=h.cons_inv;have z:X=qZ p:=z;subst z;obtain⟨ψ,T,k,l,C⟩:=hr.Dm i W
  refine Qd [.ptr n 0] (opn H n b (chs sz A) (chs sz B) (chk sz L)) (n+1) (λv Y Z=>v= .tup [.ptr (n+1) 0,.int .i64 0]/\Y=((opn H n b (chs sz A) (chs sz B) (chk sz L)).set (some (.cells (chk sz (L.drop (b8 L))) true)) aa (n+1)).set (some (.cells (chk sz (L.take (b8 L))) true)) aa n/\Z=n+2)
   ⟨n,sz,L,rfl,q1l _,qD c,s1,hF,λq=>by omega,λ_=>⟨rfl,rfl,rfl⟩⟩ ψ t hp vs K C (by rw[q1];exact .cons (VR.oY l) (VRs.mono k _ _ r1)) λχ v Y Z u g f hg hu ⟨g1,g2,g3⟩=>?_
  subst g1 g2 g3;obtain⟨cs,rfl,E⟩:=hu.eM;obtain⟨X,us,q2,f1,f2⟩:=E.cons_inv;obtain⟨q,T',F,I⟩:=f1.F5;subst I
  have gb:(((opn H n b (chs sz A) (chs sz B) (chk sz L)).set (some (.cells (chk sz (L.drop (b8 L))) true)) aa (n+1)).set (some (.cells (chk sz (L.take (b8 L))) true)) aa n).get b=some (.sep (pk (chs sz A++chs sz B))):=
   PM.gne c (by omega) (PM.gne a (by omega) (zD i c))
  have J:(((opn H n b (chs sz A) (chs sz B) (chk sz L)).set (some (.cells (chk sz (L.drop (b8 L))) true)) aa (n+1)).set (some (.cells (chk sz (L.take (b8 L))) true)) aa n).get (n+1)=some (.cells (chk sz (L.drop (b8 L))) true):=
   PM.gne c (by omega) (PM.geq a)
  have gn:(((opn H n b (chs sz A) (chs sz B) (chk sz L)).set (some (.cells (chk sz (L.drop (b8 L))) true)) aa (n+1)).set (some (.cells (chk sz (L.take (b8 L))) true)) aa n).get n=some (.cells (chk sz (L.take (b8 L))) true):=PM.geq c;generalize hG:((opn H n b (chs sz A) (chs sz B) (chk sz L)).set (some (.cells (chk sz (L.drop (b8 L))) true)) aa (n+1)).set (some (.cells (chk sz (L.take (b8 L))) true)) aa n=G at*;obtain⟨M,_,N,f1',O⟩:=hg.oX (m:=n+1) (by omega) gb J F rfl (dK _ _)
  have r:M n=some ⟨p.1,p.2,T⟩:=N.b _ _ (f.b _ _ l);obtain⟨P,_,l2,_,Q⟩:=O.oX (m:=n) (A:=chs sz A) (B:=(q,chk sz (L.drop (b8 L)))::chs sz B) (by omega) (PM.geq (by omega)) (PM.gne (by omega) (by omega) (PM.gne a (by omega) gn)) r rfl (dK _ _)
  obtain⟨R,S⟩:=j q;unfold fb at R;rw[dA]at R;have U:=Q.uT (Q':=pk (chs sz (D q))) (PM.geq (by omega)) R;refine hk P _ _ _ _ g (((k.trans f).trans N).trans l2) (U.less λx o hx=>?_) (.tup (by rw[q2];exact .cons rfl (VRs.mono (N.trans l2) _ _ f2))) S;rcases PM.ak aa H b x o hx with⟨rfl,d⟩|⟨s,d⟩
  ·rw[PM.geq (by omega)];exact d
  ·have V:x≠n:=λe=>by subst e;rw[w]at d;cases d
   have x2:x≠n+1:=λe=>by subst e;rw[y]at d;cases d
   refine PM.gne (by omega) s (PM.gne (by omega) s (PM.gne c V (PM.gne (by omega) s (PM.gne a x2 ?_))));rw[<-hG];exact PM.gne c V (PM.gne a x2 (uU i c V s d))
 ·exact j.elim
def xz(args:List AV)(H:AH)(n:Nat)(κ:PK):Prop:=match args with
 | [x,y]=>∃(b sz:Nat) (A B D:Ck5) (p q:Nat×Nat) (L M:Smp),x=aA p/\y=aA q/\xq H n b sz (A++(p,L)::(q,M)::B)/\H.get (n+1)=none/\n+1<1000000/\0<sz/\sz<=4096/\cF L/\cF M/\
  fb sz (A++(p,(bU sz L M).1.1)::(q,(bU sz L M).1.2)::B) D/\κ (.si .i64 (bU sz L M).2) (Bp H b sz D) (n+2)
 |_=>False
theorem Qg:ai 188 xz:=λargs H n κ E φ j G vs K hr k hk=>by
 unfold xz at E;split at E
 ·obtain⟨b,sz,A,B,D,p,q,L,M,rfl,rfl,⟨l,f,I,hb⟩,J,a,s1,s2,hF,hM,N,P⟩:=E;rw[dA]at hb;obtain⟨w1,us1,q1,Q,r1⟩:=k.cons_inv;obtain⟨w2,us2,q2,R,r2⟩:=r1.cons_inv;have Q:w1=qZ p:=Q;have R:w2=qZ q:=R;subst Q R;obtain⟨ψ,T,t,w,S⟩:=hr.Dm l hb;have U:(opn H n b (chs sz A) (chs sz ((q,M)::B)) (chk sz L)).get b=some (.sep (pk (chs sz A++(q,chk sz M)::chs sz B))):=zD l f;obtain⟨y,T2,c,i,r⟩:=(show HR ψ (opn H n b (chs sz A) (chs sz ((q,M)::B)) (chk sz L)) (n+1) j G from S).Dm (by omega) U;generalize hO:opn H n b (chs sz A) (chs sz ((q,M)::B)) (chk sz L)=O at*;have on:O.get n=some (.cells (chk sz L) true):=hO▸qD f;have P1:(opn O (n+1) b (chs sz A) (chs sz B) (chk sz M)).get n=some (.cells (chk sz L) true):=uU (by omega) a (by omega) (by omega) on;have P2:(opn O (n+1) b (chs sz A) (chs sz B) (chk sz M)).get (n+1)=some (.cells (chk sz M) true):=qD a;have P3:(opn O (n+1) b (chs sz A) (chs sz B) (chk sz M)).get b=some (.sep (pk (chs sz A++chs sz B))):=zD (by omega) a;have r:HR y (opn O (n+1) b (chs sz A) (chs sz B) (chk sz M)) (n+1+1) j G:=r;have P4:∀x o,x≠n->x≠n+1->x≠b->H.get x=some o->(opn O (n+1) b (chs sz A) (chs sz B) (chk sz M)).get x=some o:=λx o z C x3 h=>uU (by omega) a C x3 (hO▸uU l f z x3 h)
  generalize opn O (n+1) b (chs sz A) (chs sz B) (chk sz M)=O2 at*
  refine TC [.ptr n 0,.ptr (n+1) 0] O2 (n+2) (λv H2 n2=>v= .si .i64 (bU sz L M).2/\H2=((O2.set (some (.cells (chk sz (bU sz L M).1.2) true)) aa (n+1)).set (some (.cells (chk sz (bU sz L M).1.1) true)) aa n)/\n2=n+2)
   ⟨n,n+1,sz,sz,L,M,rfl,rfl,by omega,by omega,by omega,P1,P2,s1,s2,s1,hF,hM,rfl,rfl,rfl⟩ y j G vs K r (by rw[q1,q2];exact .cons (VR.oY (c.b _ _ w)) (.cons (VR.oY i) (VRs.mono (t.trans c) _ _ r2))) λχ v H2 n2 u g d hg hu ⟨g1,g2,g3⟩=>?_
  subst g1 g2 g3;obtain⟨ω1,_,V,_,W⟩:=hg.oX (m:=n+1) (p:=q) (T:=T2) (by omega) (PM.gne f (by omega) (PM.gne a (by omega) P3)) (PM.gne f (by omega) (PM.geq a)) (d.b _ _ i) rfl (dK _ _)
  obtain⟨X,_,l2,_,Y⟩:=W.oX (m:=n) (p:=p) (T:=T) (A:=chs sz A) (B:=(q,chk sz (bU sz L M).1.2)::chs sz B) (by omega) (PM.geq (by omega)) (PM.gne (by omega) (by omega) (PM.gne a (by omega) (PM.geq f))) (V.b _ _ (d.b _ _ (c.b _ _ w))) rfl (dK _ _)
  unfold fb at N;rw[dA]at N;have Z:=Y.uT (Q':=pk (chs sz D)) (PM.geq (by omega)) N;refine hk X _ _ _ _ g ((((t.trans c).trans d).trans V).trans l2) (Z.less λx o hx=>?_) (VR.mono (V.trans l2) _ _ hu) P;rcases PM.ak aa H b x o hx with⟨rfl,s⟩|⟨F,s⟩
  ·rw[PM.geq (by omega)];exact s
  ·have z:x≠n:=λe=>by subst e;rw[I]at s;cases s
   have C:x≠n+1:=λe=>by subst e;rw[J]at s;cases s
   exact PM.gne (by omega) F (PM.gne (by omega) F (PM.gne f z (PM.gne (by omega) F (PM.gne a C (PM.gne f z (PM.gne a C (P4 x o z C F s)))))))
 ·exact E.elim
def Qh(sz:Nat):List AV:=[.si .i64 (sz:Int),.str [],.int .i64 0,.int .i64 0]
theorem Qi(sz:Nat):(Qh sz).map mk=(chk sz []).map mk:=rfl
def KNw:FuncId->EP:=bg 182 [] evP
theorem TO:aW KNw:=aw az (by kernel_rfl) (by kernel_rfl)
theorem Nx(sz:Nat)(b:128<=sz)(c:sz<=4096):ay KNw 3 182 [.si .i64 (sz:Int)] (mkH (bF [] 0)) 0 (λu H' a=>u= .tup [.ptr 0 0,.int .i64 0]/\H'=mkH [(0,.cells (Qh sz) true)]/\a=1):=by
 conv=>whnf
 refine ah.dec (λq=>absurd q (by omega)) (λ_=>?_)
 conv=>whnf
 refine ah.dec (λq=>absurd q (by omega)) (λ_=>?_)
 conv=>whnf
 exact⟨rfl,rfl,rfl⟩
def BA(args:List AV)(H:AH)(n:Nat)(κ:PK):Prop:=match args with
 | [x]=>∃(b sz:Nat) (C:Ck5) (D:Nat×Nat->Ck5),mk x= .si .i64 (sz:Int)/\128<=sz/\sz<=4096/\xq H n b sz C/\∀q,fb sz (C++ [(q,[])]) (D q)/\κ (.tup [aA q,.int .i64 0]) (Bp H b sz (D q)) (n+1)
 |_=>False
theorem TP:ai 182 BA:=λargs H n R d φ U hp vs K V c W=>by
 unfold BA at d;split at d
 ·obtain⟨b,sz,C,D,f,h,a,⟨X,j,k,Y⟩,d⟩:=d;obtain⟨Z,us1,q1,e1,r1⟩:=c.cons_inv;refine dq (S:=[]) (O:=[]) (args0:=[.si .i64 (sz:Int)]) (κ:=λv M N=>v= .tup [.ptr n 0,.int .i64 0]/\M=H.set (some (.cells (Qh sz) true)) aa n/\N=n+1) (ax TO 3 _) (by kernel_rfl) V ⟨q4p,rfl,λi s o h a=>by simp at h⟩ (by rw[q1];exact .cons (aX rfl (f▸e1.mk)) r1) ?_ (Nx sz h a) λu H' n' ⟨g0,r,t⟩=>?_
  ·intro χ v M N u g w hg hu ⟨r,t,g3⟩;subst r t g3;obtain⟨cs,rfl,y⟩:=hu.eM;obtain⟨Z,us,q2,f1,f2⟩:=y.cons_inv;obtain⟨q,T',z,E⟩:=f1.F5;subst E;obtain⟨F,_,P,_,G⟩:=hg.oX (m:=n) (b:=b) (A:=chs sz C) (B:=[]) (p:=q) (T:=T') (l':=chk sz []) (by omega) (PM.gne j (by omega) (by rw[q0z];exact Y)) (PM.geq j) z (Qi sz) (dK _ _);obtain⟨I,J⟩:=d q;unfold fb at I;rw[dA]at I;have L:=G.uT (Q':=pk (chs sz (D q))) (PM.geq (by omega)) I;refine W F _ _ _ _ g (w.trans P) (L.less λx o f=>?_) (.tup (by rw[q2];exact .cons rfl (VRs.mono P _ _ f2))) J;rcases PM.ak aa H b x o f with⟨rfl,a⟩|⟨h,a⟩
   ·rw[PM.geq (by omega)];exact a
   ·have Q:x≠n:=λe=>by subst e;rw[k]at a;cases a
    exact PM.gne (by omega) h (PM.gne (by omega) h (PM.gne j Q (PM.gne j Q a)))
  ·subst g0 r t;refine⟨1,kg [] n H [(0,some (.cells (Qh sz) true))],Y5 _,fB.put (Y5 _) rfl (λx f o ho=>?_),rfl,rfl,?_,rfl⟩
   ·simp only[Z3,Z4,or_false]at f;subst f;injection ho with ho;subst ho;exact⟨rfl,rfl,rfl⟩
   ·rfl
 ·exact d.elim
def KCp:FuncId->EP:=bg 118 [] evP
theorem TQ:aW KCp:=aw az (by kernel_rfl) (by kernel_rfl)
theorem Ki(sz:Nat)(L:Smp)(b:0<sz):ay KCp 5 118 [.ptr 0 0] (mkH (bF [.cells (chk sz L) true] 0)) 1 (λu H' a=>u= .ptr 1 0/\H'=mkH [(1,.cells (chk sz L) true),(0,.cells (chk sz L) true)]/\a=2):=by
 conv=>whnf
 refine ah.di (λq=>absurd (show(0:Int)<(sz:Int) by omega) q) (λ_=>?_)
 conv=>whnf
 exact⟨rfl,rfl,rfl⟩
def xA(args:List AV)(H:AH)(n:Nat)(κ:PK):Prop:=match args with
 | [x]=>∃(b a sz:Nat) (A B c:Ck5) (p:Nat×Nat) (L:Smp) (d:Nat×Nat->Ck5),x=aA p/\xq H n b sz (A++(p,L)::B)/\b≠a/\xq H n a sz c/\H.get (n+1)=none/\n+1<1000000/\0<sz/\
  ∀q,fb sz (c++ [(q,L)]) (d q)/\κ (aA q) (Bp H a sz (d q)) (n+2)
 |_=>False
theorem Qj:ai 118 xA:=λargs H n κ w φ F hp vs K hr l hk=>by
 unfold xA at w;split at w
 ·obtain⟨b,D,sz,A,B,C2,p,L,D2,rfl,⟨i,h,G,I⟩,r,⟨hb2n,_,_,J⟩,M,f,s1,w⟩:=w;have N:=I;rw[dA]at I;obtain⟨w1,us1,q1,P,r1⟩:=l.cons_inv;have P:w1=qZ p:=P;subst P;obtain⟨ψ,T,y,z,s⟩:=hr.Dm i I;have o2:(opn H n b (chs sz A) (chs sz B) (chk sz L)).get D=some (.sep (pk (chs sz C2))):=uU i h (by omega) (λe=>r e.symm) J;have o1:(opn H n b (chs sz A) (chs sz B) (chk sz L)).get b=some (.sep (pk (chs sz A++chs sz B))):=zD i h;have on:(opn H n b (chs sz A) (chs sz B) (chk sz L)).get n=some (.cells (chk sz L) true):=qD h;have ox:∀x o,x≠n->x≠b->H.get x=some o->(opn H n b (chs sz A) (chs sz B) (chk sz L)).get x=some o:=λx o a c d=>uU i h a c d
  have s:HR ψ (opn H n b (chs sz A) (chs sz B) (chk sz L)) (n+1) F hp:=s;generalize opn H n b (chs sz A) (chs sz B) (chk sz L)=O at*;refine dq (S:=[n]) (O:=[.cells (chk sz L) true]) (args0:=[.ptr 0 0]) (κ:=λv H2 n2=>v= .ptr (n+1) 0/\H2=(O.set (some (.cells (chk sz L) true)) aa (n+1)).set (some (.cells (chk sz L) true)) aa n/\n2=n+2) (ax TQ 5 _) (by kernel_rfl) s (nM (q1l _) on (.inr rfl)) (by rw[q1];exact .cons (VR.oY z) (VRs.mono y _ _ r1)) ?_ (Ki sz L s1) λu H' n' ⟨g0,R,U⟩=>?_
  ·intro χ v H2 n2 u g k hg hu ⟨R,U,g3⟩;subst R U g3;obtain⟨q,T',V,W⟩:=hu.F5;subst W;obtain⟨ω1,_,l1,_,X⟩:=hg.oX (m:=n+1) (b:=D) (A:=chs sz C2) (B:=[]) (p:=q) (T:=T') (by omega) (PM.gne h (by omega) (PM.gne f (by omega) (by rw[q0z];exact o2))) (PM.gne h (by omega) (PM.geq f)) V rfl (dK _ _)
   obtain⟨C,_,l2,_,Y⟩:=X.oX (m:=n) (b:=b) (A:=chs sz A) (B:=chs sz B) (p:=p) (T:=T) (by omega) (PM.gne (by omega) r (PM.gne f (by omega) (PM.gne h (by omega) (PM.gne f (by omega) o1)))) (PM.gne (by omega) (by omega) (PM.gne f (by omega) (PM.geq h))) (l1.b _ _ (k.b _ _ z)) rfl (dK _ _)
   obtain⟨Z,hκ⟩:=w q;unfold fb at Z;rw[dA]at Z;have hr5:=Y.uT (b:=D) (Q':=pk (chs sz (D2 q))) (PM.gne (by omega) (λe=>r e.symm) (PM.gne h (by omega) (PM.geq (by omega)))) Z;refine hk C _ _ _ _ g (((y.trans k).trans l1).trans l2) (hr5.less λx o E=>?_) (show VR C (aA q) (qZ q) from rfl) hκ;rcases PM.ak aa H D x o E with⟨rfl,j⟩|⟨h1,j⟩
   ·rw[PM.geq (by omega)];exact j
   ·have x1:x≠n:=λe=>by subst e;rw[G]at j;cases j
    have x2:x≠n+1:=λe=>by subst e;rw[M]at j;cases j
    refine PM.gne (by omega) h1 ?_;by_cases t:x=b
    ·subst t;rw[PM.geq (by omega),<-dA];rw[N]at j;exact j
    ·exact PM.gne (by omega) t (PM.gne h x1 (PM.gne (by omega) h1 (PM.gne f x2 (PM.gne h x1 (PM.gne f x2 (ox x o x1 t j))))))
  ·subst g0 R U;refine⟨2,kg [n] (n+1) O [(0,some (.cells (chk sz L) true)),(1,some (.cells (chk sz L) true))],Z0 rfl,fB.put (Z0 rfl) rfl (λx E o ho=>?_),rfl,rfl,rfl,rfl⟩
   ·simp only[Z3,Z4,or_false]at E;rcases E with rfl|rfl
    ·injection ho with ho;subst ho;exact⟨rfl,rfl,rfl⟩
    ·injection ho with ho;subst ho;exact⟨rfl,rfl,rfl⟩
 ·exact w.elim
def ag(C:Ck5):Smp:=(cnt C).flatten
theorem ju(A B:Ck5):ag (A++B)=ag A++ag B:=by simp[ag,cnt]
theorem bS(c:(Nat×Nat)×Smp)(B:Ck5):ag (c::B)=c.2++ag B:=by simp[ag,cnt]
theorem ff(A B:Ck5)(p:Nat×Nat)(L:Smp):ag (A++(p,L)::B)=ag A++(L++ag B):=by rw[ju,bS]
def NeT(C:Ck5):Prop:=∀c∈C.tail,c.2≠[]
structure Gd(S:Sr)(C:Ck5):Prop where
 lo:128<=S.sz
 hi:S.sz<=4096
 up:Up (ag C)
 ne:NeT C
 dR:∀c∈C,cF c.2
 fit:∀c∈C,(a8 c.2).length<=8*S.sz
theorem xB:∀{C:Ck5},(∀c∈C,c.2≠[])->C.length<=(ag C).length
 | [],_=>Y5 _
 |c::C,h=>by
  have:=xB (C:=C) λd hd=>h d (Y4 _ hd)
  have a:0<c.2.length:=q3j.2 (h c (by simp));rw[bS,Z5,Z9];omega
theorem F6{C:Ck5}(h:NeT C):C.length<=(ag C).length+1:=by
 cases C with
 |nil=>exact Y5 _
 |cons c C=>
  have:=xB (C:=C) h;rw[bS,Z5,Z9];omega
theorem Gd.okc{S:Sr}{C:Ck5}(h:Gd S C)(a:(ag C).length<=90000):Okc S C:=⟨h.lo,h.hi,h.dR,by have:=F6 h.ne;omega⟩
theorem Up.Qk{L:Smp}(h:Up L){x:Int×Int}(a:x∈L):tAt L 0<=x.1:=by
 cases L with
 |nil=>cases a
 |cons y L=>
  show y.1<=x.1;rcases Z3.1 a with rfl|q
  ·exact Int.le_refl _
  ·have:=(q1w.1 h).1 x q;omega
theorem HZ{L:Smp}(h:L≠[]):∃x∈L,x.1=tAt L 0:=by
 cases L with
 |nil=>exact absurd rfl h
 |cons y L=>exact⟨y,by simp,rfl⟩
theorem rq:∀{C:Ck5} {t:Int},C≠[]->NeT C->Up (ag C)->(∀x∈ag (C.take (dO (cnt C) t)),x.1<t)/\∀x∈ag (C.drop (dO (cnt C) t+1)),t<x.1
 | [],_,h,_,_=>absurd rfl h
 | [c],t,_,_,_=>by
  have:dO (cnt [c]) t=0:=rfl
  rw[this];exact⟨λx a=>by simp[ag,cnt]at a,λx a=>by simp[ag,cnt]at a⟩
 |c::d::C,t,_,f,j=>by
  have hd:d.2≠[]:=f d (by simp);have b:=j;rw[bS,Up.app]at b;obtain⟨p,g,k⟩:=b;have e:dO (cnt (c::d::C)) t=if t<tAt d.2 0 then 0 else dO (cnt (d::C)) t+1:=rfl
  rw[e];split
  ·rename_i l;refine⟨λx a=>by simp[ag,cnt]at a,λx a=>?_⟩;have a:x∈ag (d::C):=a;have i:tAt (ag (d::C)) 0<=x.1:=Up.Qk g a
   have r:tAt (ag (d::C)) 0=tAt d.2 0:=by
    rw[bS];exact(mb (q3j.2 hd)).1
   omega
  ·rename_i l;obtain⟨m,i⟩:=rq (C:=d::C) (t:=t) (by simp) (λx a=>f x (show x∈(c::d::C).tail from Y4 d a)) g;refine⟨λx a=>?_,i⟩;have a:x∈ag (c::(d::C).take (dO (cnt (d::C)) t)):=a;rw[bS]at a;rcases q1d.1 a with q|q
   ·obtain⟨y,n,o⟩:=HZ hd;have:=k x q y (by rw[bS];exact q2d _ n);omega
   ·exact m x q
theorem vz{L:Smp}(h:Up L)(t v p:Int):Up (eE L t v p).1:=by
 unfold eE;split
 ·rename_i a;split
  ·exact h
  ·exact Hz h a
 ·rename_i a;exact Hy h (by simpa using a) v
theorem xC(L:Smp)(t v p:Int):(eE L t v p).1.length<=L.length+1/\L.length<=(eE L t v p).1.length:=by
 unfold eE;split
 ·split
  ·exact⟨q2n _,Z6 _⟩
  ·rw[sD];exact⟨q2n _,Z6 _⟩
 ·rw[lr];exact⟨Z6 _,q2n _⟩
theorem Ql{L:Smp}{t v p:Int}(h:(eE L t v p).2=0):(eE L t v p).1≠[]:=by
 unfold eE at h⊢;split
 ·rename_i a;rw[if_pos a]at h;split
  ·rename_i q;rw[if_pos q]at h;exact absurd h q
  ·intro e;have b:plc L t<L.length:=by unfold has at a;exact(of_decide_eq_true a).1
   have:=congrArg List.length e;rw[sD]at this;simp at this;rw[this]at b;simp at b
 ·intro e;have:=congrArg List.length e;rw[lr]at this;simp at this
structure F7(S:Sr)(C C':Ck5)(t v p e:Int):Prop where
 gd:Gd S C'
 err:e=(eE (ag C) t v p).2
 fl:ag C'=(eE (ag C) t v p).1
 ne:C'≠[]
theorem NeT.set{A B:Ck5}{p q:Nat×Nat}{L M:Smp}(h:NeT (A++(p,L)::B))(d:M≠[]):NeT (A++(q,M)::B):=by
 cases A with
 |nil=>exact h
 |cons a A=>
  intro c b;have b:c∈A++(q,M)::B:=b;have h:∀c∈A++(p,L)::B,c.2≠[]:=h;rcases q1d.1 b with k|k
  ·exact h c (q2d _ k)
  ·rcases Z3.1 k with rfl|k
   ·exact d
   ·exact h c (q4f _ (Y4 _ k))
theorem dC{a:Type}{A B:List a}{x c:a}:c∈A++x::B<->c=x∨c∈A++B:=by
 simp only[q1d,Z3];constructor
 ·rintro(h|h|h)
  ·exact .inr (.inl h)
  ·exact .inl h
  ·exact .inr (.inr h)
 ·rintro(h|h|h)
  ·exact .inr (.inl h)
  ·exact .inl h
  ·exact .inr (.inr h)
theorem Ny{S:Sr}{A B:Ck5}{p:Nat×Nat}{L:Smp}{t v q:Int}(a:Gd S (A++(p,L)::B))(l:∀x∈ag A,x.1<t)(m:∀x∈ag B,t<x.1)(n:0<=t/\t<1099511627776)(hv:aP v)(f:(fp S.sz L t v q).2≠2):
 F7 S (A++(p,L)::B) (A++(p,(fp S.sz L t v q).1)::B) t v q (fp S.sz L t v q).2:=by
 have o:cF L:=a.dR (p,L) (by simp);have b:=J1 (p:=q) a.hi o (t:=t) (v:=v) hv;have d:=DQ (M:=L) v q l m;rw[<-ff A B p L]at d;rw[ua n]at f b⊢;by_cases g:(eE L t v q).2≠0
 ·rw[if_pos g]at*;refine⟨a,by rw[d],?_,by simp⟩;rw[d,DP g,ff]
 ·rw[if_neg g]at*;have e:(eE L t v q).2=0:=by omega
  unfold rb at f b⊢;by_cases h:(a8 (eE L t v q).1).length<=8*S.sz
  ·rw[if_pos h]at*;have j:ag (A++(p,(eE L t v q).1)::B)=(eE (ag (A++(p,L)::B)) t v q).1:=by rw[d,ff]
   refine⟨⟨a.lo,a.hi,by rw[j];exact vz a.up _ _ _,a.ne.set (Ql e),λc i=>?_,λc i=>?_⟩,by rw[d];exact e.symm,j,by simp⟩
   ·rcases dC.1 i with rfl|k
    ·exact b
    ·exact a.dR c (dC.2 (.inr k))
   ·rcases dC.1 i with rfl|k
    ·exact h
    ·exact a.fit c (dC.2 (.inr k))
  ·rw[if_neg h]at f;exact absurd rfl f
theorem Nz{sz:Nat}{L:Smp}{t v q:Int}(e:128<=sz)(d:0<=t/\t<1099511627776)(a:(fp sz L t v q).2=2):(fp sz L t v q).1=L/\2<=L.length:=by
 rw[ua d]at a⊢;by_cases b:(eE L t v q).2≠0
 ·rw[if_pos b]at a;exact absurd a (Nq _ _ _ _)
 ·rw[if_neg b]at a⊢;unfold rb at a⊢;by_cases c:(a8 (eE L t v q).1).length<=8*sz
  ·rw[if_pos c]at a;exact absurd a (by simp)
  ·rw[if_neg c];refine⟨rfl,?_⟩;rcases q3b L.length 2 with h|h
   ·have:=pV (L:=(eE L t v q).1) (by have:=(xC L t v q).1;omega);omega
   ·exact h
theorem Up.last{L:Smp}(h:Up L){x:Int×Int}(a:x∈L):x.1<=sG L:=by
 obtain⟨i,b,rfl⟩:=q2z a;unfold sG;by_cases q:i=L.length-1
 ·subst q;rw[ew (by omega)];exact Int.le_refl _
 ·have:=h.lt (i:=i) (j:=L.length-1) (by omega) (by omega);rw[ew b]at this;omega
theorem xD{S:Sr}{A:Ck5}{p o:Nat×Nat}{L:Smp}{t v q:Int}(d:Gd S (A++ [(p,L)]))(l:∀x∈ag A,x.1<t)(r:sG L<t)(h:0<=t/\t<1099511627776)(hv:aP v):
 (fp S.sz [] t v q)=([(t,v)],0)/\F7 S (A++ [(p,L)]) (A++ [(p,L)]++ [(o,[(t,v)])]) t v q 0:=by
 have e0:eE [] t v q=([(t,v)],0):=rfl
 have i:(a8 [(t,v)]).length<=8*S.sz:=by have:=pV (L:=[(t,v)]) (by simp);have:=d.lo;omega
 have m:cF L:=d.dR (p,L) (by simp)
 have f:∀x∈ag (A++ [(p,L)]),x.1<t:=λx e=>by
  rw[ju]at e;rcases q1d.1 e with k|k
  ·exact l x k
  ·have k:x∈L:=by simpa[ag,cnt]using k
   have:=Up.last m.1 k;omega
 have g:=DQ (A:=ag (A++ [(p,L)])) (M:=[]) (B:=[]) v q f (λx e=>by cases e);rw[e0]at g;have n:ag (A++ [(p,L)])++([]++ [])=ag (A++ [(p,L)]):=by simp
 rw[n]at g;have j:ag (A++ [(p,L)]++ [(o,[(t,v)])])=(eE (ag (A++ [(p,L)])) t v q).1:=by rw[g,ju];simp[ag,cnt]
 refine⟨by rw[ua h,e0,if_neg (by simp)];unfold rb;rw[if_pos i],⟨d.lo,d.hi,by rw[j];exact vz d.up _ _ _,?_,λc b=>?_,λc b=>?_⟩,by rw[g],j,by simp⟩
 ·intro c b;cases A with
  |nil=>
   have b:c∈ [(o,[(t,v)])]:=b;simp only[Z3,Z4,or_false]at b;subst b;simp
  |cons a A=>
   have b:c∈A++ [(p,L)]++ [(o,[(t,v)])]:=b;rcases q1d.1 b with k|k
   ·exact d.ne c k
   ·simp only[Z3,Z4,or_false]at k;subst k;simp
 ·rcases q1d.1 b with k|k
  ·exact d.dR c k
  ·simp only[Z3,Z4,or_false]at k;subst k;exact⟨List.pairwise_singleton _ _,λx e=>by simp only[Z3,Z4,or_false]at e;subst e;exact⟨h,hv⟩,by simp⟩
 ·rcases q1d.1 b with k|k
  ·exact d.fit c k
  ·simp only[Z3,Z4,or_false]at k;subst k;exact i
theorem NA{S:Sr}{A B:Ck5}{p q:Nat×Nat}{L:Smp}(d:Gd S (A++(p,L)::B))(g:2<=L.length):Gd S (A++(p,L.take (b8 L))::(q,L.drop (b8 L))::B)/\ag (A++(p,L.take (b8 L))::(q,L.drop (b8 L))::B)=ag (A++(p,L)::B):=by
 obtain⟨o,r⟩:=Bo g;obtain⟨m,n⟩:=Nt d.lo g (d.fit (p,L) (by simp));have h:cF L:=d.dR (p,L) (by simp)
 have i:L.take (b8 L)≠[]:=λe=>by
  have:(L.take (b8 L)).length=0:=by rw[e];rfl
  rw[q0g]at this;omega
 have j:L.drop (b8 L)≠[]:=λe=>by
  have:(L.drop (b8 L)).length=0:=by rw[e];rfl
  rw[q0p]at this;omega
 have l:ag (A++(p,L.take (b8 L))::(q,L.drop (b8 L))::B)=ag (A++(p,L)::B):=by
  rw[ff,ff,bS,<-q0q (L.take (b8 L)),q1i]
 have mm:∀c,c∈A++(p,L.take (b8 L))::(q,L.drop (b8 L))::B->c=(p,L.take (b8 L))∨c=(q,L.drop (b8 L))∨c∈A++B:=λc b=>by
  rcases dC.1 b with k|k
  ·exact .inl k
  ·exact .inr (dC.1 k)
 refine⟨⟨d.lo,d.hi,by rw[l];exact d.up,?_,λc b=>?_,λc b=>?_⟩,l⟩
 ·have f:NeT (A++(p,L.take (b8 L))::B):=d.ne.set i;intro c b;cases A with
  |nil=>
   have b:c∈(q,L.drop (b8 L))::B:=b;rcases Z3.1 b with rfl|k
   ·exact j
   ·exact f c k
  |cons a A=>
   have b:c∈A++(p,L.take (b8 L))::(q,L.drop (b8 L))::B:=b;have f:∀c∈A++(p,L.take (b8 L))::B,c.2≠[]:=f;rcases dC.1 b with rfl|k
   ·exact i
   ·rcases dC.1 k with rfl|k
    ·exact j
    ·exact f c (dC.2 (.inr k))
 ·rcases mm c b with rfl|rfl|k
  ·exact h.sub (q4l _ _)
  ·exact h.sub (List.drop_sublist _ _)
  ·exact d.dR c (dC.2 (.inr k))
 ·rcases mm c b with rfl|rfl|k
  ·exact m
  ·exact n
  ·exact d.fit c (dC.2 (.inr k))
def D0 (le:List (Nat×AV)) (S:Sr) (V:Ps) (C:Ck5) (a:List AV):AE×AH×Nat:=(mkE le,mkH [(0,.cells (c6 S 3 V.length) true),(3,.cells (aZ V) true),(2,dB S C),(4,.cells a true)],5)
def uY(a c:Nat):Nat->Nat:=λb=>if b=3 then a else if b=4 then c else b
theorem xE {p:Nat} {σ:AE} {H:AH} {n:Nat} {S:Sr} {V:Ps} {C:Ck5} {f:List AV} (a c:Nat) {le:List (Nat×AV)} {j k o r s t:AV} {l u:List AV} (M:p<=3) (z:∀x∈le,ab H 5 (uY a c) (bj (pa x.1) σ) x.2) (N:a≠0/\a≠2/\a≠c) (A:c≠0/\c≠2)
 (B:PM.get H 0=some (.cells [j,k,o,r,s,t] true)) (D:mk j= .si .i64 (S.sz:Int)) (E:mk k= .si .i64 S.ret) (F:mk o= .si .i64 S.pol) (G:mk r= .si .i64 S.mx) (I:mk s= .si .i64 S.fl) (J:ab H 5 (uY a c) t (.rw 3 0 V.length 1 0))
 (K:PM.get H a=some (.cells l true)) (g:l.map mk=aZ V) (L:PM.get H 2=some (dB S C)) (v:PM.get H c=some (.cells u true)) (h:u.map mk=f.map mk) (i:f.all flat.flat1=true):Cov p σ H n (D0 le S V C f):=by
 refine Cov.ofR (m:=5) (p:=p) (uY a c) (by omega) (λb v=>by unfold uY;rw[if_neg (by omega),if_neg (by omega)]) z ?_ ?_
 ·intro x d;simp only[Z3,Z4,or_false]at d;rcases d with rfl|rfl|rfl|rfl
  ·exact⟨Z0 rfl,.inl ⟨_,B,an.c6 D E F G I J⟩⟩
  ·exact⟨Z0 rfl,.inl ⟨_,K,an.aZ g⟩⟩
  ·exact⟨Z0 rfl,.inl ⟨_,L,an.sep _⟩⟩
  ·exact⟨Z0 rfl,.inl ⟨_,v,an.iW i h (λq=>q)⟩⟩
 ·intro x d y w e;simp only[Z3,Z4,or_false]at d w;rcases d with rfl|rfl|rfl|rfl<;>rcases w with rfl|rfl|rfl|rfl
  ·rfl
  ·exact absurd (show 0=a from e) (by omega)
  ·exact absurd (show 0=2 from e) (by omega)
  ·exact absurd (show 0=c from e) (by omega)
  ·exact absurd (show a=0 from e) (by omega)
  ·rfl
  ·exact absurd (show a=2 from e) (by omega)
  ·exact absurd (show a=c from e) (by omega)
  ·exact absurd (show 2=0 from e) (by omega)
  ·exact absurd (show 2=a from e) (by omega)
  ·rfl
  ·exact absurd (show 2=c from e) (by omega)
  ·exact absurd (show c=0 from e) (by omega)
  ·exact absurd (show c=a from e) (by omega)
  ·exact absurd (show c=2 from e) (by omega)
  ·rfl
theorem kG(A B:Ck5):pts (A++B)=pts A++pts B:=q0m
theorem Qm{C:Ck5}{i:Nat}(h:i<C.length)(M:Smp):pts C=pts (C.take i++(C[i].1,M)::C.drop (i+1)):=by
 have e:=fe h
 calc pts C=pts (C.take i++(C[i].1,C[i].2)::C.drop (i+1)):=by rw[e]
  _=_:=by rw[kG,kG];rfl
theorem H5{C:Ck5}{i:Nat}(h:i<C.length)(o:Nat×Nat)(M N:Smp):(pts C).take (i+1)++o::(pts C).drop (i+1)=pts (C.take i++(C[i].1,M)::(o,N)::C.drop (i+1)):=by
 have a:(pts C).take (i+1)=pts (C.take (i+1)):=by simp[pts,q4i]
 have b:(pts C).drop (i+1)=pts (C.drop (i+1)):=by simp[pts,List.map_drop]
 rw[a,b,q4m,Y0 h,kG,kG];simp[pts]
def PtP(a:Sr)(b:Ck5)(t v q:Int):AV->Sr->Ps->Ck5->Prop:=λu S V C=>∃e:Int,u= .si .i64 e/\S=a/\V=pts C/\F7 a b C t v q e
def Wd:FuncId->EP:=aq 63 By (aq 184 Bz (aq 182 BA (aq 183 Bq (aq 60 (rm λL=>L.length-1) (aq 185 pX evP)))))
theorem Qn:aW Wd:=ae (ae (ae (ae (ae (ae az DZ) HV) TI) TP) DY) TM
def KPt:FuncId->EP:=bg 130 [(1000004,[])] Wd
theorem TS:aW KPt:=aw Qn (by kernel_rfl) (by kernel_rfl)
theorem NB(S:Sr)(C:Ck5)(t v q:Int)(O:Gd S C)(hf:(ag C).length<=80000)(M:0<=t/\t<1099511627776)(hv:aP v):fC (ay KPt 5 130) [.ptr 0 0,.agg [.si .i64 t,.si .i64 v],.si .i64 q] (mkH (bF (iy S (pts C) C) 0)) 3 (SP (PtP S C t v q)):=by
 have u:=O.lo;have j:=O.hi;show ay KPt 5 _ _ _ _ _
 conv=>whnf
 refine qz.mk {a:Ck5//a≠[]/\ag a=ag C/\Gd S a} 5 (λa=>((D0 [(0,.ptr 0 0),(2,.si .i64 q),(4,.ptr 4 0)] S (pts a.val) a.val [.si .i64 t,.si .i64 v]).1,(D0 [(0,.ptr 0 0),(2,.si .i64 q),(4,.ptr 4 0)] S (pts a.val) a.val [.si .i64 t,.si .i64 v]).2.1)) ?_ ?_
 focus
  conv=>whnf
  refine ah.dec (λh=>?_) (λh=>?_)
  focus
   have P:C=[]:=by
    have h:((pts C).length:Int)=0:=h;rw[ao]at h;exact q0c (by omega)
   subst P
   conv=>whnf
   refine⟨2,S.sz,[],λo=> [(o,[])],rfl,u,j,⟨by decide,by decide,rfl,rfl⟩,λo=>⟨fb.refl _ _,?_⟩⟩
   conv=>whnf
   refine eY.grow 1 8 1 0 [aA o] (aZ []) _ true DX (.old rfl) rfl rfl (.rw rfl rfl) (by omega) ?_
   conv=>whnf
   exact⟨⟨[(o,[])],by simp,rfl,⟨u,j,List.Pairwise.nil,λc A=>(by cases A),λc A=>(by
    simp only[Z3,Z4,or_false]at A;subst A;exact cF.nil),λc A=>(by
    simp only[Z3,Z4,or_false]at A;subst A;exact Y5 _)⟩⟩,xE 6 3 (le:=[(0,.ptr 0 0),(2,.si .i64 q),(4,.ptr 4 0)]) (Z6 3) (λx i=>by
   simp only[Z3,Z4,or_false]at i;rcases i with rfl|rfl|rfl
   ·exact ab.ptr (Z0 rfl) rfl
   ·exact ab.int rfl
   ·exact ab.ptr (Z0 rfl) rfl) ⟨by decide,by decide,by decide⟩ ⟨by decide,by decide⟩ rfl rfl rfl rfl rfl rfl (ab.rw (Z0 rfl) rfl) rfl rfl rfl rfl rfl rfl⟩
  have P:C≠[]:=λe=>h (by
   show((pts C).length:Int)=0;rw[e];rfl)
  conv=>whnf
  exact⟨⟨C,P,rfl,O⟩,xE 1 3 (le:=[(0,.ptr 0 0),(2,.si .i64 q),(4,.ptr 4 0)]) (Z6 3) (λx i=>by
   simp only[Z3,Z4,or_false]at i;rcases i with rfl|rfl|rfl
   ·exact ab.ptr (Z0 rfl) rfl
   ·exact ab.int rfl
   ·exact ab.ptr (Z0 rfl) rfl) ⟨by decide,by decide,by decide⟩ ⟨by decide,by decide⟩ rfl rfl rfl rfl rfl rfl (ab.rw (Z0 rfl) rfl) rfl (aC _) rfl rfl rfl rfl⟩
 intro⟨W,F,G,H⟩
 conv=>whnf
 refine aQ.mk {a:Ck5//a≠[]/\ag a=ag C/\Gd S a} 5 (λa=>((D0 [(0,.ptr 0 0),(2,.si .i64 q),(4,.ptr 4 0)] S (pts a.val) a.val [.si .i64 t,.si .i64 v]).1,(D0 [(0,.ptr 0 0),(2,.si .i64 q),(4,.ptr 4 0)] S (pts a.val) a.val [.si .i64 t,.si .i64 v]).2.1)) (λa=>(ag C).length+2-a.val.length) ⟨W,F,G,H⟩ ?_ ?_
 focus
  exact xE 3 4 (le:=[(0,.ptr 0 0),(2,.si .i64 q),(4,.ptr 4 0)]) (Z6 3) (λx i=>by
   simp only[Z3,Z4,or_false]at i;rcases i with rfl|rfl|rfl
   ·exact ab.ptr (Z0 rfl) rfl
   ·exact ab.int rfl
   ·exact ab.ptr (Z0 rfl) rfl) ⟨by decide,by decide,by decide⟩ ⟨by decide,by decide⟩ rfl rfl rfl rfl rfl rfl (ab.rw (Z0 rfl) rfl) rfl (aC _) rfl rfl rfl rfl
 clear F G H W;intro⟨a,I,g,m⟩;have hlen:=F6 m.ne;rw[g]at hlen;have E:=m.okc (by rw[g];omega);obtain⟨h,X⟩:∃h,dO (cnt a) t=h:=⟨_,rfl⟩
 have b:h<a.length:=by
  have:=xy (D:=cnt a) t (λe=>I (List.map_eq_nil_iff.1 e));rw[c7]at this;omega
 obtain⟨N,Y⟩:=rq (t:=t) I m.ne m.up;rw[X]at N Y;have B:Gd S (a.take h++(a[h].1,a[h].2)::a.drop (h+1)):=by rw[fe b];exact m
 obtain⟨f,w⟩:∃f:Nat×Nat->Ck5,f=λo=>a.take h++(a[h].1,a[h].2.take (b8 a[h].2))::(o,a[h].2.drop (b8 a[h].2))::a.drop (h+1):=⟨_,rfl⟩
 have gs:2<=a[h].2.length->∀o,Gd S (f o)/\ag (f o)=ag C:=λk o=>by
  have:=NA (q:=o) B k;rw[fe b,g]at this;rw[w];exact this
 have Z:∀o,(pts a).take (h+1)++o::(pts a).drop (h+1)=pts (f o):=λo=>by rw[w];exact H5 b o _ _
 have gl:∀o,(f o).length=a.length+1:=λo=>by rw[w];simp only[Z5,Z9,q0g,q0p];omega
 have gn:∀o,f o≠[]:=λo e=>by have:=gl o;rw[e]at this;simp at this
 have gc:∀o,fb S.sz (a.take h++(a[h].1,a[h].2.take (b8 a[h].2))::(o,a[h].2.drop (b8 a[h].2))::a.drop (h+1)) (f o):=λo=>by rw[w];exact fb.refl _ _
 have gb:h+1=a.length->sG a[h].2<t->fp S.sz [] t v q=([(t,v)],0)/\∀o,F7 S C (a++ [(o,[(t,v)])]) t v q 0/\(pts a).take (h+1)++o::(pts a).drop (h+1)=pts (a++ [(o,[(t,v)])]):=λk1 k2=>by
  have hd:a.drop (h+1)=[]:=q3k (by omega)
  have Q:a.take h++ [(a[h].1,a[h].2)]=a:=by
   have:=fe b;rw[hd]at this;exact this
  have n:=B;rw[hd]at n;refine⟨(xD (o:=(0,0)) (q:=q) n N k2 M hv).1,λo=>⟨?_,?_⟩⟩
  ·have p:=(xD (o:=o) (q:=q) n N k2 M hv).2;rw[Q]at p;exact⟨p.gd,g▸p.err,g▸p.fl,p.ne⟩
  ·rw[q1n (by rw[ao];omega),q3k (by rw[ao];omega),kG];rfl
 have R:(fp S.sz a[h].2 t v q).2=2->(fp S.sz a[h].2 t v q).1=a[h].2/\2<=a[h].2.length:=λk=>Nz u M k
 have gh:(fp S.sz a[h].2 t v q).2≠2->F7 S C (a.take h++(a[h].1,(fp S.sz a[h].2 t v q).1)::a.drop (h+1)) t v q (fp S.sz a[h].2 t v q).2:=λk=>by
  have J:=Ny (q:=q) B N Y M hv k;rw[fe b]at J;exact⟨J.gd,g▸J.err,g▸J.fl,J.ne⟩
 obtain⟨r,T⟩:∃r,fp S.sz a[h].2 t v q=r:=⟨_,rfl⟩;rw[T]at R gh;have gq:r.2=2->fb S.sz (a.take h++(a[h].1,r.1)::a.drop (h+1)) a:=λk=>by rw[(R k).1];exact jt b
 have U:IntKind.i64.wrap ((h:Int)+1)=((h+1:Nat):Int):=by rw[aj (by omega) (by omega)];omega
 have K:IntKind.i64.wrap (((pts a).length:Int)-1)=((a.length-1:Nat):Int):=by rw[ao,aj (by omega) (by omega)];omega
 conv=>whnf
 refine⟨0,3,2,S,a,t,h,rfl,rfl,⟨⟨by decide,by decide,by decide⟩,⟨by decide,by decide,by decide⟩,rfl,rfl,rfl⟩,E,X,?_⟩
 conv=>whnf
 refine Idx.mk h rfl (by rw[ao];exact b) ?_
 conv=>whnf
 refine au (dy b (show 0+h*1=h by omega)) ?_
 conv=>whnf
 by_cases d:r.2=2
 focus
  have l:=(R d).2;refine⟨2,S.sz,a.take h,a.drop (h+1),a,a[h].1,a[h].2,t,v,q,r,rfl,⟨_,_,rfl,rfl,rfl⟩,rfl,jF b rfl (by decide) (by decide) rfl,by omega,j,E.dR _ (q0i b),hv,T,gq d,?_⟩
  conv=>whnf
  refine ah.di (λz=>absurd d z) (λ_=>?_)
  conv=>whnf
  refine⟨2,S.sz,a.take h,a.drop (h+1),a,a[h].1,a[h].2,rfl,jF b rfl (by decide) (by decide) rfl,by omega,E.dR _ (q0i b),jt b,?_⟩
  conv=>whnf
  by_cases s:h+1=a.length
  focus
   refine ah.dec (λ_=>?_) (λz=>absurd (show(h:Int)=IntKind.i64.wrap (((pts a).length:Int)-1) by rw[K];omega) z)
   conv=>whnf
   refine ah.dec (λy=>?_) (λ_=>?_)
   focus
    have V:=(gb s y).1;have L:=(gb s y).2
    conv=>whnf
    refine⟨2,S.sz,a,λo=>a++ [(o,[])],rfl,u,j,⟨by decide,by decide,rfl,rfl⟩,λo=>⟨fb.refl _ _,?_⟩⟩
    conv=>whnf
    refine⟨0,5,2,h+1,S,pts a,pts (a++ [(o,[(t,v)])]),a++ [(o,[])],o,rfl,congrArg (AV.si .i64) U,rfl,⟨⟨by decide,by decide,by decide⟩,⟨by decide,by decide,by decide⟩,rfl,rfl,rfl⟩,by rw[ao];omega,by rw[ao];omega,(L o).2,?_⟩
    conv=>whnf
    refine⟨2,S.sz,a,[],a++ [(o,[(t,v)])],o,[],t,v,q,([(t,v)],0),rfl,⟨_,_,rfl,rfl,rfl⟩,rfl,⟨by decide,by decide,rfl,rfl⟩,by omega,j,cF.nil,hv,V,fb.refl _ _,?_⟩
    conv=>whnf
    exact fR (PtP S C t v q) ⟨0,rfl,rfl,rfl,(L o).1⟩ (VTo.mk5 rfl) VR.eH 10 ⟨by decide,by decide⟩ rfl rfl rfl rfl rfl rfl (ab.rw (Z0 rfl) rfl) rfl (aC _) rfl
   conv=>whnf
   refine⟨2,S.sz,a.take h,a.drop (h+1),a[h].1,a[h].2,f,rfl,jF b rfl (by decide) (by decide) rfl,rfl,by decide,by omega,E.dR _ (q0i b),l,λo=>⟨gc o,?_⟩⟩
   conv=>whnf
   refine⟨0,5,2,h+1,S,pts a,pts (f o),f o,o,rfl,congrArg (AV.si .i64) U,rfl,⟨⟨by decide,by decide,by decide⟩,⟨by decide,by decide,by decide⟩,rfl,rfl,rfl⟩,by rw[ao];omega,by rw[ao];omega,Z o,?_⟩
   conv=>whnf
   exact⟨⟨f o,gn o,(gs l o).2,(gs l o).1⟩,by show(ag C).length+2-(f o).length<(ag C).length+2-a.length;rw[gl o];omega,xE 11 4 (le:=[(0,.ptr 0 0),(2,.si .i64 q),(4,.ptr 4 0)]) (Z6 3) (λx i=>by
    simp only[Z3,Z4,or_false]at i;rcases i with rfl|rfl|rfl
    ·exact ab.ptr (Z0 rfl) rfl
    ·exact ab.int rfl
    ·exact ab.ptr (Z0 rfl) rfl) ⟨by decide,by decide,by decide⟩ ⟨by decide,by decide⟩ rfl rfl rfl rfl rfl rfl (ab.rw (Z0 rfl) rfl) rfl (aC _) rfl rfl rfl rfl⟩
  refine ah.dec (λz=>absurd z (show¬(h:Int)=IntKind.i64.wrap (((pts a).length:Int)-1) by rw[K];omega)) (λ_=>?_)
  conv=>whnf
  refine⟨2,S.sz,a.take h,a.drop (h+1),a[h].1,a[h].2,f,rfl,jF b rfl (by decide) (by decide) rfl,rfl,by decide,by omega,E.dR _ (q0i b),l,λo=>⟨gc o,?_⟩⟩
  conv=>whnf
  refine⟨0,5,2,h+1,S,pts a,pts (f o),f o,o,rfl,congrArg (AV.si .i64) U,rfl,⟨⟨by decide,by decide,by decide⟩,⟨by decide,by decide,by decide⟩,rfl,rfl,rfl⟩,by rw[ao];omega,by rw[ao];omega,Z o,?_⟩
  conv=>whnf
  exact⟨⟨f o,gn o,(gs l o).2,(gs l o).1⟩,by show(ag C).length+2-(f o).length<(ag C).length+2-a.length;rw[gl o];omega,xE 11 4 (le:=[(0,.ptr 0 0),(2,.si .i64 q),(4,.ptr 4 0)]) (Z6 3) (λx i=>by
   simp only[Z3,Z4,or_false]at i;rcases i with rfl|rfl|rfl
   ·exact ab.ptr (Z0 rfl) rfl
   ·exact ab.int rfl
   ·exact ab.ptr (Z0 rfl) rfl) ⟨by decide,by decide,by decide⟩ ⟨by decide,by decide⟩ rfl rfl rfl rfl rfl rfl (ab.rw (Z0 rfl) rfl) rfl (aC _) rfl rfl rfl rfl⟩
 refine⟨2,S.sz,a.take h,a.drop (h+1),a.take h++(a[h].1,r.1)::a.drop (h+1),a[h].1,a[h].2,t,v,q,r,rfl,⟨_,_,rfl,rfl,rfl⟩,rfl,jF b rfl (by decide) (by decide) rfl,by omega,j,E.dR _ (q0i b),hv,T,fb.refl _ _,?_⟩
 conv=>whnf
 refine ah.di (λ_=>?_) (λz=>absurd z d)
 conv=>whnf
 exact fR (PtP S C t v q) ⟨_,rfl,rfl,Qm b _,gh d⟩ (VTo.mk5 rfl) VR.eH 5 ⟨by decide,by decide⟩ rfl rfl rfl rfl rfl rfl (ab.rw (Z0 rfl) rfl) rfl (aC _) rfl
structure Pre5(S:Sr)(C:Ck5):Prop where
 lo:128<=S.sz
 hi:S.sz<=4096
 up:Up (ag C)
 dR:∀c∈C,cF c.2
 fit:∀c∈C,(a8 c.2).length<=8*S.sz
theorem Gd.pre{S:Sr}{C:Ck5}(h:Gd S C):Pre5 S C:=⟨h.lo,h.hi,h.up,h.dR,h.fit⟩
theorem Pre5.okc{S:Sr}{C:Ck5}(h:Pre5 S C)(a:C.length<=100000):Okc S C:=⟨h.lo,h.hi,h.dR,a⟩
structure Gt(S:Sr)(C:Ck5):Prop extends Pre5 S C where
 all:∀c∈C,c.2≠[]
theorem Gt.gd{S:Sr}{C:Ck5}(h:Gt S C):Gd S C:=⟨h.lo,h.hi,h.up,λc a=>h.all c (List.mem_of_mem_tail a),h.dR,h.fit⟩
theorem Gt.few{S:Sr}{C:Ck5}(h:Gt S C):C.length<=(ag C).length:=xB h.all
def usd(L:Smp):Nat:=(pack (a8 L)).length
def Sm5(sz:Nat)(L:Smp):Prop:=IntKind.i64.wrap (4*(usd L:Int))<(sz:Int)
theorem sO(L:Smp):usd L=((a8 L).length+7)/8:=bt _
theorem Sm5.nat{sz:Nat}{L:Smp}(a:cF L)(h:Sm5 sz L):4*usd L<sz:=by
 unfold Sm5 at h;have b:=pU L L.length;have c:=a.2.2;have d:(a8 L).length<=136*L.length:=b;have e:=sO L;rw[aj (by omega) (by omega)]at h;omega
def Wh(sz n:Nat)(C:Ck5):Prop:=∀j,(h:j+1<C.length)->j+1<n->¬(Sm5 sz C[j].2/\Sm5 sz C[j+1].2)
theorem Qo{A:Ck5}{p q:Nat×Nat}{L M:Smp}{B:Ck5}(c:Up (ag (A++(p,L)::(q,M)::B))):qE L M=false:=by
 rw[ff,bS,Up.app]at c;have d:=c.2.1;rw[Up.app]at d;obtain⟨j,k,f⟩:=d;unfold qE;by_cases a:L=[]
 ·simp[a]
 by_cases b:M=[]
 ·simp[b]
 ·obtain⟨y,g,h⟩:=HZ b;have i:(L[L.length-1]'(by have:=q3j.2 a;omega))∈L:=q0i _;have:=f _ i y (q2d _ g);have e:sG L=(L[L.length-1]'(by have:=q3j.2 a;omega)).1:=ew _;simp[a,b];omega
theorem Qp{S:Sr}{A B:Ck5}{p q:Nat×Nat}{L M:Smp}(a:Gt S (A++(p,L)::(q,M)::B))(l:Sm5 S.sz L)(m:Sm5 S.sz M):
 bU S.sz L M=((L++M,[]),0)/\Gt S (A++(p,L++M)::B)/\ag (A++(p,L++M)::B)=ag (A++(p,L)::(q,M)::B):=by
 have f:cF L:=a.dR (p,L) (by simp);have g:cF M:=a.dR (q,M) (by simp);have o:=l.nat f;have r:=m.nat g;have s:=sO L;have t:=sO M;have u:=(DS L M).1;have n:=a.lo;have h:(a8 (L++M)).length<=8*S.sz:=by omega
 have d:=Qo a.up
 have e:bU S.sz L M=((L++M,[]),0):=by
  unfold bU;rw[d];simp[h]
 have i:=(J2 a.hi f g (size:=S.sz)).1;rw[e]at i;have j:ag (A++(p,L++M)::B)=ag (A++(p,L)::(q,M)::B):=by rw[ff,ff,bS,q0q]
 have mm:∀c,c∈A++B->c∈A++(p,L)::(q,M)::B:=λc b=>dC.2 (.inr (dC.2 (.inr b)))
 refine⟨e,⟨⟨a.lo,a.hi,by rw[j];exact a.up,λc b=>?_,λc b=>?_⟩,λc b=>?_⟩,j⟩
 ·rcases dC.1 b with rfl|k
  ·exact i
  ·exact a.dR c (mm c k)
 ·rcases dC.1 b with rfl|k
  ·exact h
  ·exact a.fit c (mm c k)
 ·rcases dC.1 b with rfl|k
  ·have:=a.all (p,L) (by simp);exact λe=>this (List.append_eq_nil_iff.1 e).1
  ·exact a.all c (mm c k)
def neC(C:Ck5):Ck5:=C.filter λc=>!c.2.isEmpty
theorem xG:∀C:Ck5,ag (neC C)=ag C
 | []=>rfl
 |c::C=>by
  have a:=xG C;unfold neC at*;rw[List.filter_cons];split
  ·rw[bS,bS,a]
  ·rename_i h;have:c.2=[]:=by simpa using h
   rw[bS,this,a];rfl
theorem TT{S:Sr}{C:Ck5}(h:Pre5 S C):Gt S (neC C):=by
 have sub:∀c,c∈neC C->c∈C/\c.2≠[]:=λc a=>by
  obtain⟨b,d⟩:=q1b.1 a;exact⟨b,by simpa using d⟩
 exact⟨⟨h.lo,h.hi,by rw[xG];exact h.up,λc a=>h.dR c (sub c a).1,λc a=>h.fit c (sub c a).1⟩,λc a=>(sub c a).2⟩
theorem D1{C:Ck5}{i:Nat}(h:i<C.length):neC (C.take (i+1))=neC (C.take i)++(if C[i].2=[]then []else [C[i]]):=by
 unfold neC;rw[q4m,Y0 h,Option.toList_some,q2j];congr 1;by_cases q:C[i].2=[]
 ·simp[q]
 ·simp[q]
theorem H6(C:Ck5):(neC C).length<=C.length:=q1e _ _
theorem Qq{sz n:Nat}{C:Ck5}{c:(Nat×Nat)×Smp}{B:Ck5}(h:Wh sz n C)(hn:n<C.length):Wh sz (max 1 (n-1)) (C.take (n-1)++c::B):=λj a b=>by
 have f:j+1<n-1:=by omega
 have d:(C.take (n-1)++c::B)[j]'(by omega)=C[j]'(by omega):=by
  rw[q3s (by rw[q0g];omega),List.getElem_take]
 have e:(C.take (n-1)++c::B)[j+1]'a=C[j+1]'(by omega):=by
  rw[q3s (by rw[q0g];omega),List.getElem_take]
 rw[d,e];exact h j (by omega) (by omega)
theorem Qr{sz n:Nat}{C:Ck5}(h:Wh sz n C)(a:1<=n)(hn:n<C.length)(b:¬(Sm5 sz (C[n-1]'(by omega)).2/\Sm5 sz C[n].2)):Wh sz (n+1) C:=λj c d=>by
 by_cases q:j+1=n
 ·subst q;exact b
 ·exact h j c (by omega)
theorem Kj{C:Ck5}{n:Nat}(c:1<=n)(hn:n<C.length):C.take (n-1)++((C[n-1]'(by omega)).1,(C[n-1]'(by omega)).2)::(C[n].1,C[n].2)::C.drop (n+1)=C:=by
 have a:=fe (C:=C) (i:=n-1) (by omega)
 have b:C.drop (n-1+1)=C[n]::C.drop (n+1):=by
  rw[show n-1+1=n by omega];exact q0j hn
 rw[b]at a;exact a
def NC (le:List (Nat×AV)) (S:Sr) (V:Ps) (C:Ck5) (W:Ps):AE×AH×Nat:=(mkE le,mkH [(0,.cells (c6 S 3 V.length) true),(3,.cells (aZ V) true),(2,dB S C),(4,.cells (aZ W) true)],5)
theorem F8 {p:Nat} {σ:AE} {H:AH} {n:Nat} {S:Sr} {V W:Ps} {C:Ck5} (c a:Nat) {le:List (Nat×AV)} {j k o q r s:AV} {l:List AV} (K:p<=3) (v:∀x∈le,ab H 5 (uY c a) (bj (pa x.1) σ) x.2) (L:c≠0/\c≠2/\c≠a) (w:a≠0/\a≠2)
 (z:PM.get H 0=some (.cells [j,k,o,q,r,s] true)) (A:mk j= .si .i64 (S.sz:Int)) (B:mk k= .si .i64 S.ret) (D:mk o= .si .i64 S.pol) (E:mk q= .si .i64 S.mx) (F:mk r= .si .i64 S.fl) (G:ab H 5 (uY c a) s (.rw 3 0 V.length 1 0))
 (I:PM.get H c=some (.cells l true)) (f:l.map mk=aZ V) (J:PM.get H 2=some (dB S C)) (t:(∃g,PM.get H a=some (.cells g true)/\g.map mk=aZ W)∨(W=[]/\n<=a)):Cov p σ H n (NC le S V C W):=by
 refine Cov.ofR (m:=5) (p:=p) (uY c a) (by omega) (λb t=>by unfold uY;rw[if_neg (by omega),if_neg (by omega)]) v ?_ ?_
 ·intro x d;simp only[Z3,Z4,or_false]at d;rcases d with rfl|rfl|rfl|rfl
  ·exact⟨Z0 rfl,.inl ⟨_,z,an.c6 A B D E F G⟩⟩
  ·exact⟨Z0 rfl,.inl ⟨_,I,an.aZ f⟩⟩
  ·exact⟨Z0 rfl,.inl ⟨_,J,an.sep _⟩⟩
  ·refine⟨Z0 rfl,?_⟩;rcases t with⟨g,h,i⟩|⟨h,i⟩
   ·exact .inl ⟨_,h,an.aZ i⟩
   ·exact .inr ⟨by rw[h];rfl,i⟩
 ·intro x d y u e;simp only[Z3,Z4,or_false]at d u;rcases d with rfl|rfl|rfl|rfl<;>rcases u with rfl|rfl|rfl|rfl
  ·rfl
  ·exact absurd (show 0=c from e) (by omega)
  ·exact absurd (show 0=2 from e) (by omega)
  ·exact absurd (show 0=a from e) (by omega)
  ·exact absurd (show c=0 from e) (by omega)
  ·rfl
  ·exact absurd (show c=2 from e) (by omega)
  ·exact absurd (show c=a from e) (by omega)
  ·exact absurd (show 2=0 from e) (by omega)
  ·exact absurd (show 2=c from e) (by omega)
  ·rfl
  ·exact absurd (show 2=a from e) (by omega)
  ·exact absurd (show a=0 from e) (by omega)
  ·exact absurd (show a=c from e) (by omega)
  ·exact absurd (show a=2 from e) (by omega)
  ·rfl
theorem an.We{H:AH}{m:Nat}{r:Nat->Nat}{V X:Ps}:an H m r (.cells (Go.Proofs.YtflehenfikoniaaGreat.aZ (V++X)) true) (.cells (Go.Proofs.YtflehenfikoniaaGreat.aZ V) true):=
 an.cells (by rw[b7,b7,Z5];omega) (λq=>q) λi d a=>by
  refine⟨d,?_,?_⟩
  ·rw[sN,q1f (Y6.1 a).1];exact a
  ·unfold Go.Proofs.YtflehenfikoniaaGreat.aZ at a;rw[q0s]at a;cases b:V[i]? with
   |none=>rw[b]at a;cases a
   |some c=>
    rw[b]at a;injection a with a;subst a;exact λ_ _ _ _ _ h=>h
theorem TU {p:Nat} {σ:AE} {H:AH} {n:Nat} {S:Sr} {V X:Ps} {C:Ck5} (a:Nat) {le:List (Nat×AV)} {d f g h i j:AV} (A:p<=3) (l:∀x∈le,ab H 4 (Bw a) (bj (pa x.1) σ) x.2) (B:a≠0/\a≠2)
 (o:PM.get H 0=some (.cells [d,f,g,h,i,j] true)) (q:mk d= .si .i64 (S.sz:Int)) (r:mk f= .si .i64 S.ret) (s:mk g= .si .i64 S.pol) (t:mk h= .si .i64 S.mx) (u:mk i= .si .i64 S.fl) (v:ab H 4 (Bw a) j (.rw 3 0 V.length 1 0))
 (w:PM.get H a=some (.cells (aZ (V++X)) true)) (z:PM.get H 2=some (dB S C)):Cov p σ H n (xu le S V C):=by
 refine Cov.ofR (m:=4) (p:=p) (Bw a) (by omega) (λb D=>by unfold Bw;rw[if_neg (by omega)]) l ?_ ?_
 ·intro x c;simp only[Z3,Z4,or_false]at c;rcases c with rfl|rfl|rfl
  ·exact⟨Z0 rfl,.inl ⟨_,o,an.c6 q r s t u v⟩⟩
  ·exact⟨Z0 rfl,.inl ⟨_,w,an.We⟩⟩
  ·exact⟨Z0 rfl,.inl ⟨_,z,an.sep _⟩⟩
 ·intro x c y k e;simp only[Z3,Z4,or_false]at c k;rcases c with rfl|rfl|rfl<;>rcases k with rfl|rfl|rfl
  ·rfl
  ·exact absurd (show 0=a from e) (by omega)
  ·exact absurd (show 0=2 from e) (by omega)
  ·exact absurd (show a=0 from e) (by omega)
  ·rfl
  ·exact absurd (show a=2 from e) (by omega)
  ·exact absurd (show 2=0 from e) (by omega)
  ·exact absurd (show 2=a from e) (by omega)
  ·rfl
theorem xH{H:AH}{S:Sr}{C:Ck5}{i:Nat}(h:i<C.length)(a:PM.get H 2=some (dB S C)):H.get 2=some (.sep (pk (chs S.sz (C.take i++(C[i].1,C[i].2)::C.drop (i+1))))):=by rw[fe h];exact a
def TdP(a:Sr)(b:Ck5):AV->Sr->Ps->Ck5->Prop:=λu S V C=>u= .tup []/\S=a/\V=pts C/\ag C=ag b/\Gt a C/\Wh a.sz C.length C
def Qs:DT:=[(1,[(some 0,[0]),(some 0,[5]),(some 0,[6]),(some 0,[7]),(some 0,[1]),(some 0,[8,9]),(some 0,[10]),(none,[11]),(some 0,[12]),(some 2,[0]),(some 3,[14]),(some 4,[15]),(some 5,[16]),(some 0,[13,17]),(some 0,[18])])]
def TV:DT:=[(12,[(some 0,[0]),(some 0,[47]),(some 0,[48]),(some 0,[49]),(some 0,[5]),(some 0,[51]),(some 0,[50,52]),(some 0,[53]),(some 0,[0]),(some 0,[55]),(some 0,[56]),(some 0,[57]),(some 0,[5]),(some 0,[58,59]),(some 0,[60])]),
 (13,[(some 1000000,[]),(none,[0,1,2,3,4,5,6,7,8,9,10,11,12,13,14,15,16,17,18])])]
def Wg:FuncId->EP:=aq 188 xz (cV 202 (rp Nl) (aq 186 (Bu TD) evP))
theorem Qt:aW Wg:=ae (ba (ae az TK) HX (HW _)) Qg
def KTd:FuncId->EP:=bg 132 TV (bg 187 Qs Wg)
theorem TW:aW KTd:=aw (aw Qt (by kernel_rfl) (by kernel_rfl)) (by kernel_rfl) (by kernel_rfl)
theorem ND{C:Ck5}{n:Nat}(d:1<=n)(hn:n<C.length)(M:Smp):(pts C).take n++(pts C).drop (n+1)=pts (C.take (n-1)++((C[n-1]'(by omega)).1,M)::C.drop (n+1)):=by
 have a:(pts C).take n=pts (C.take n):=by simp[pts,q4i]
 have b:(pts C).drop (n+1)=pts (C.drop (n+1)):=by simp[pts,List.map_drop]
 have c:C.take n=C.take (n-1)++ [C[n-1]'(by omega)]:=by
  have:=q4m (l:=C) (i:=n-1);rw[show n-1+1=n by omega,Y0 (show n-1<C.length by omega)]at this;exact this
 rw[a,b,c,kG,kG];simp[pts]
theorem NF(S:Sr)(C:Ck5)(W:Pre5 S C)(hf:C.length<=100000):fC (ay KTd 5 132) [.ptr 0 0] (mkH (bF (iy S (pts C) C) 0)) 3 (SP (TdP S C)):=by
 have hlo:=W.lo;have Y:=W.hi;show ay KTd 5 _ _ _ _ _
 conv=>whnf
 refine aQ.mk {i:Nat//i<=C.length} 5 (λi=>((NC [(0,.ptr 0 0),(2,.rw 4 0 (pts (neC (C.take i.val))).length 1 0),(9,.rw 3 0 (pts C).length 1 0),(10,.si .i64 ((pts C).length:Int)),(11,.si .i64 ((i.val:Int)))] S (pts C) (neC (C.take i.val)++C.drop i.val) (pts (neC (C.take i.val)))).1,(NC [(0,.ptr 0 0),(2,.rw 4 0 (pts (neC (C.take i.val))).length 1 0),(9,.rw 3 0 (pts C).length 1 0),(10,.si .i64 ((pts C).length:Int)),(11,.si .i64 ((i.val:Int)))] S (pts C) (neC (C.take i.val)++C.drop i.val) (pts (neC (C.take i.val)))).2.1)) (λi=>C.length-i.val) ⟨0,Y5 _⟩ ?_ ?_
 focus
  exact F8 1 3 (le:=[(0,.ptr 0 0),(2,.rw 4 0 (pts (neC (C.take 0))).length 1 0),(9,.rw 3 0 (pts C).length 1 0),(10,.si .i64 ((pts C).length:Int)),(11,.si .i64 (((0:Nat):Int)))]) (Z6 3) (λx e=>by
   simp only[Z3,Z4,or_false]at e;rcases e with rfl|rfl|rfl|rfl|rfl
   ·exact ab.ptr (Z0 rfl) rfl
   ·exact ab.iV rfl
   ·exact ab.rw (Z0 rfl) rfl
   ·exact ab.int rfl
   ·exact ab.int rfl) ⟨by decide,by decide,by decide⟩ ⟨by decide,by decide⟩ rfl rfl rfl rfl rfl rfl (ab.rw (Z0 rfl) rfl) rfl (aC _) rfl (.inr ⟨rfl,Z6 _⟩)
 focus
  intro⟨i,hi⟩;have y:IntKind.i64.wrap ((i:Int)+1)=((i+1:Nat):Int):=by rw[aj (by omega) (by omega)];omega
  have K:=H6 (C.take i);rw[q0g,q3q hi]at K;have st:∀h:i<C.length,C.drop i=(C[i].1,C[i].2)::C.drop (i+1):=λh=>q0j h
  have s0:∀h:i<C.length,C[i].2=[]->neC (C.take (i+1))=neC (C.take i):=λh q=>by rw[D1 h,if_pos q,q0z]
  have s1:∀h:i<C.length,¬C[i].2=[]->neC (C.take (i+1))=neC (C.take i)++ [C[i]]:=λh q=>by rw[D1 h,if_neg q]
  conv=>whnf
  refine ah.dec (λh=>?_) (λh=>?_)
  focus
   have f:i<C.length:=by
    have h:(i:Int)<((pts C).length:Int):=h;rw[ao]at h;omega
   have Z:=st f;have s02:=s0 f;have s12:=s1 f;have v:some (dB S (neC (C.take i)++C.drop i))=some (AO.sep (pk (chs S.sz (neC (C.take i)++(C[i].1,C[i].2)::C.drop (i+1))))):=by rw[Z];rfl
   conv=>whnf
   refine Idx.mk i rfl (by rw[ao];exact f) ?_
   conv=>whnf
   refine au (dy f (show 0+i*1=i by omega)) ?_
   conv=>whnf
   by_cases I:C[i].2=[]
   focus
    have A:=s02 I;refine⟨2,S.sz,neC (C.take i),C.drop (i+1),neC (C.take (i+1))++C.drop (i+1),C[i].1,C[i].2,rfl,⟨by decide,by decide,rfl,v⟩,by rw[A];exact fb.sub ((q4a _ _).append_left _),?_⟩
    conv=>whnf
    refine ah.dec (λz=>absurd z (by rw[I];decide)) (λ_=>?_)
    conv=>whnf
    exact⟨⟨i+1,f⟩,by show C.length-(i+1)<C.length-i;omega,F8 3 4 (le:=[(0,.ptr 0 0),(2,.rw 4 0 (pts (neC (C.take (i+1)))).length 1 0),(9,.rw 3 0 (pts C).length 1 0),(10,.si .i64 ((pts C).length:Int)),(11,.si .i64 (((i+1:Nat):Int)))]) (Z6 3) (λx e=>by
   simp only[Z3,Z4,or_false]at e;rcases e with rfl|rfl|rfl|rfl|rfl
   ·exact ab.ptr (Z0 rfl) rfl
   ·exact(by rw[A];exact ab.rw (Z0 rfl) rfl)
   ·exact ab.rw (Z0 rfl) rfl
   ·exact ab.int rfl
   ·exact ab.int (congrArg (AV.si .i64) y)) ⟨by decide,by decide,by decide⟩ ⟨by decide,by decide⟩ rfl rfl rfl rfl rfl rfl (ab.rw (Z0 rfl) rfl) rfl (aC _) rfl (.inl ⟨_,rfl,by rw[A];exact aC _⟩)⟩
   have A:=s12 I;have hpl:0<(C[i].2.length:Int):=by have:=q3j.2 I;omega
   have hcm:fb S.sz (neC (C.take i)++(C[i].1,C[i].2)::C.drop (i+1)) (neC (C.take (i+1))++C.drop (i+1)):=by rw[A,q0q];exact fb.refl _ _
   have o:(pts (neC (C.take i))).length+1=(pts (neC (C.take (i+1)))).length:=by rw[A,ao,ao,Z5];rfl
   have hpt:(aZ (pts (neC (C.take i)))++ [aA C[i].1]).map mk=aZ (pts (neC (C.take (i+1)))):=by rw[A,kG,sN,q0m,aC];rfl
   refine⟨2,S.sz,neC (C.take i),C.drop (i+1),neC (C.take (i+1))++C.drop (i+1),C[i].1,C[i].2,rfl,⟨by decide,by decide,rfl,v⟩,hcm,?_⟩
   conv=>whnf
   refine ah.dec (λ_=>?_) (λz=>absurd hpl z)
   conv=>whnf
   refine eY.grow 1 8 1 (pts (neC (C.take i))).length [aA C[i].1] (aZ (pts (neC (C.take i)))) _ true DX (.old rfl) rfl rfl (.rw rfl (bp (by rw[b7,q0r]))) (by rw[ao];omega) ?_
   conv=>whnf
   exact⟨⟨i+1,f⟩,by show C.length-(i+1)<C.length-i;omega,F8 3 7 (le:=[(0,.ptr 0 0),(2,.rw 4 0 (pts (neC (C.take (i+1)))).length 1 0),(9,.rw 3 0 (pts C).length 1 0),(10,.si .i64 ((pts C).length:Int)),(11,.si .i64 (((i+1:Nat):Int)))]) (Z6 3) (λx e=>by
   simp only[Z3,Z4,or_false]at e;rcases e with rfl|rfl|rfl|rfl|rfl
   ·exact ab.ptr (Z0 rfl) rfl
   ·exact ab.rw (Z0 rfl) (congrArg (λq=>AV.rw 7 0 q 1 0) o)
   ·exact ab.rw (Z0 rfl) rfl
   ·exact ab.int rfl
   ·exact ab.int (congrArg (AV.si .i64) y)) ⟨by decide,by decide,by decide⟩ ⟨by decide,by decide⟩ rfl rfl rfl rfl rfl rfl (ab.rw (Z0 rfl) rfl) rfl (aC _) rfl (.inl ⟨_,rfl,hpt⟩)⟩
  have D:i=C.length:=by
   have:¬i<C.length:=λq=>h (by
    show(i:Int)<((pts C).length:Int);rw[ao];omega)
   omega
  have L:=TT W;have V:neC (C.take i)=neC C:=by rw[D,q0k]
  have eD:neC (C.take i)++C.drop i=neC C:=by rw[V,D,List.drop_length,q0z]
  have hl0:=H6 C;clear st s0 s1
  conv=>whnf
  refine aQ.mk {x:Nat×Ck5//1<=x.1/\ag x.2=ag C/\Gt S x.2/\x.2.length<=100000/\Wh S.sz x.1 x.2/\x.1<=100000} 4 (λx=>((xu [(0,.ptr 0 0),(5,.si .i64 ((x.val.1:Int)))] S (pts x.val.2) x.val.2).1,(xu [(0,.ptr 0 0),(5,.si .i64 ((x.val.1:Int)))] S (pts x.val.2) x.val.2).2.1)) (λx=>2*x.val.2.length-x.val.1) ⟨(1,neC C),Z6 _,xG C,L,by show(neC C).length<=100000;omega,λj hj M=>absurd M (by omega),(show(1:Nat)<=100000 by decide)⟩ ?_ ?_
  focus
   exact oa 4 (le:=[(0,.ptr 0 0),(5,.si .i64 (((1:Nat):Int)))]) (Z6 3) (λx e=>by
   simp only[Z3,Z4,or_false]at e;rcases e with rfl|rfl
   ·exact ab.ptr (Z0 rfl) rfl
   ·exact ab.int rfl) ⟨by decide,by decide⟩ rfl rfl rfl rfl rfl rfl (ab.rw (Z0 rfl) (congrArg (λq=>AV.rw 4 0 q 1 0) (congrArg (λq=>(pts q).length) V))) rfl (by rw[V];exact aC _) (congrArg (λq=>some (dB S q)) eD)
  clear D L V eD hl0 K y h hi i;intro⟨⟨m,d⟩,p,n,g,k,r,N⟩;have p:1<=m:=p;have r:Wh S.sz m d:=r;have k:d.length<=100000:=k;have N:m<=100000:=N;have g:Gt S d:=g;have n:ag d=ag C:=n;have y:IntKind.i64.wrap ((m:Int)+1)=((m+1:Nat):Int):=by rw[aj (by omega) (by omega)];omega
  have E:IntKind.i64.wrap ((m:Int)-1)=((m-1:Nat):Int):=by rw[aj (by omega) (by omega)];omega
  conv=>whnf
  refine ah.dec (λh=>?_) (λh=>?_)
  focus
   have f:m<d.length:=by
    have h:(m:Int)<((pts d).length:Int):=h;rw[ao]at h;omega
   have J:m-1<d.length:=by omega
   have F:=Kj p f;have hgx:Gt S (d.take (m-1)++(d[m-1].1,d[m-1].2)::(d[m].1,d[m].2)::d.drop (m+1)):=by rw[F];exact g
   have t:Sm5 S.sz d[m-1].2->Sm5 S.sz d[m].2->bU S.sz d[m-1].2 d[m].2=((d[m-1].2++d[m].2,[]),0)/\Gt S (d.take (m-1)++(d[m-1].1,d[m-1].2++d[m].2)::d.drop (m+1))/\ag (d.take (m-1)++(d[m-1].1,d[m-1].2++d[m].2)::d.drop (m+1))=ag C:=λa b=>by
    have:=Qp hgx a b;rw[F,n]at this;exact this
   have O:=Qr r p f;have G:=Qq (c:=(d[m-1].1,d[m-1].2++d[m].2)) (B:=d.drop (m+1)) r f;have s:=ND p f (d[m-1].2++d[m].2);have hlj:(d.take (m-1)++(d[m-1].1,d[m-1].2++d[m].2)::d.drop (m+1)).length=d.length-1:=by simp only[Z5,Z9,q0g,q0p];omega
   obtain⟨l,P⟩:∃l,l=d.take (m-1)++(d[m-1].1,d[m-1].2++d[m].2)::d.drop (m+1):=⟨_,rfl⟩
   have hcl:Sm5 S.sz d[m-1].2->Sm5 S.sz d[m].2->fb S.sz (d.take (m-1)++(d[m-1].1,(bU S.sz d[m-1].2 d[m].2).1.1)::(d[m].1,(bU S.sz d[m-1].2 d[m].2).1.2)::d.drop (m+1)) l:=λa b=>by
    rw[(t a b).1,P];exact fb.sub (((q4a _ _).cons_cons _).append_left _)
   rw[<-P]at t G s hlj;have hpk:(xu [(0,.ptr 0 0),(5,.si .i64 ((m:Int)))] S (pts d) d).2.1.get 2=some (.sep (pk (chs S.sz (d.take (m-1)++(d[m-1].1,d[m-1].2)::(d[m].1,d[m].2)::d.drop (m+1))))):=by rw[F];rfl
   have s1:bq (aZ (pts d)) 0 (m*1)=some (aZ ((pts d).take m)):=by
    unfold bq;rw[q0o (by rw[b7,ao];omega),q4o,q0r,zM]
   have s2:bq (aZ (pts d)) (0+(m+1)*1) (((pts d).length-(m+1))*1)=some (aZ ((pts d).drop (m+1))):=by
    unfold bq;rw[q0o (by rw[b7,ao];omega),show 0+(m+1)*1=m+1 by omega,zQ,q0r,q1n (by rw[b7,q0p];exact Z6 _)]
   have hmp:m<=(pts d).length:=by rw[ao];omega
   have Q:m+1<=(pts d).length:=by rw[ao];omega
   have R:(m+((pts d).length-(m+1)))*8<=140737488355328:=by rw[ao];omega
   have T:max (1:Int) (IntKind.i64.wrap ((m:Int)-1))=((max 1 (m-1):Nat):Int):=by rw[E];omega
   conv=>whnf
   refine Idx.mk m rfl (by rw[ao];exact f) ?_
   conv=>whnf
   refine au (dy f (show 0+m*1=m by omega)) ?_
   conv=>whnf
   refine⟨2,S.sz,d.take m,d.drop (m+1),d[m].1,d[m].2,rfl,xH f rfl,?_⟩
   conv=>whnf
   refine ah.di (λu=>?_) (λu=>?_)
   focus
    have u:¬Sm5 S.sz d[m].2:=u
    conv=>whnf
    exact⟨⟨(m+1,d),Nat.le_add_left 1 m,n,g,k,O (λq=>u q.2),by show m+1<=100000;omega⟩,by show 2*d.length-(m+1)<2*d.length-m;omega,oa 3 (le:=[(0,.ptr 0 0),(5,.si .i64 (((m+1:Nat):Int)))]) (Z6 3) (λx e=>by
   simp only[Z3,Z4,or_false]at e;rcases e with rfl|rfl
   ·exact ab.ptr (Z0 rfl) rfl
   ·exact ab.int (congrArg (AV.si .i64) y)) ⟨by decide,by decide⟩ rfl rfl rfl rfl rfl rfl (ab.rw (Z0 rfl) rfl) rfl (aC _) rfl⟩
   have u:Sm5 S.sz d[m].2:=u
   conv=>whnf
   refine Idx.mk (m-1) E (by rw[ao];exact J) ?_
   conv=>whnf
   refine au (dy J (show 0+(m-1)*1=m-1 by omega)) ?_
   conv=>whnf
   refine⟨2,S.sz,d.take (m-1),d.drop (m-1+1),d[m-1].1,d[m-1].2,rfl,xH J rfl,?_⟩
   conv=>whnf
   refine ah.di (λz2=>?_) (λz2=>?_)
   focus
    have z2:¬Sm5 S.sz d[m-1].2:=z2
    conv=>whnf
    exact⟨⟨(m+1,d),Nat.le_add_left 1 m,n,g,k,O (λq=>z2 q.1),by show m+1<=100000;omega⟩,by show 2*d.length-(m+1)<2*d.length-m;omega,oa 3 (le:=[(0,.ptr 0 0),(5,.si .i64 (((m+1:Nat):Int)))]) (Z6 3) (λx e=>by
   simp only[Z3,Z4,or_false]at e;rcases e with rfl|rfl
   ·exact ab.ptr (Z0 rfl) rfl
   ·exact ab.int (congrArg (AV.si .i64) y)) ⟨by decide,by decide⟩ rfl rfl rfl rfl rfl rfl (ab.rw (Z0 rfl) rfl) rfl (aC _) rfl⟩
   have z2:Sm5 S.sz d[m-1].2:=z2;have j2:=(t z2 u).2.1;have j3:=(t z2 u).2.2
   conv=>whnf
   refine Idx.mk (m-1) E (by rw[ao];exact J) ?_
   conv=>whnf
   refine au (dy J (show 0+(m-1)*1=m-1 by omega)) ?_
   conv=>whnf
   refine Idx.mk m rfl (by rw[ao];exact f) ?_
   conv=>whnf
   refine au (dy f (show 0+m*1=m by omega)) ?_
   conv=>whnf
   refine⟨2,S.sz,d.take (m-1),d.drop (m+1),l,d[m-1].1,d[m].1,d[m-1].2,d[m].2,rfl,rfl,⟨by decide,by decide,rfl,hpk⟩,rfl,by decide,by omega,Y,g.dR _ (q0i J),g.dR _ (q0i f),hcl z2 u,?_⟩
   conv=>whnf
   refine⟨?_,trivial⟩
   conv=>whnf
   refine RSl.mk 0 m rfl rfl (.inr ⟨rfl,rfl⟩) (Y5 _) hmp ?_
   conv=>whnf
   refine RSl.mk (m+1) (pts d).length (congrArg (λq=>mC (some (AV.int .i64 q)) 0) y) rfl (.inl rfl) Q (Z6 _) ?_
   conv=>whnf
   by_cases hend:m+1=d.length
   focus
    have I:(pts d).length-(m+1)=0:=by rw[ao];omega
    have U:(pts d).drop (m+1)=[]:=q3k (by rw[ao];omega);have hp2:pts d=pts l++(pts d).drop m:=by rw[<-s,U,q0z,q1i]
    have o:m=(pts l).length:=by rw[<-s,U,q0z,q0g,ao];omega
    have hsr:∀{H:AH} {b q:Nat},H.get b=some (.cells (aZ (pts d)) true)->AU H 1 (.rw b (0+(m+1)*1) ((pts d).length-(m+1)) 1 q) 0 []:=λhb=>by
     rw[I]
     exact .rw (.inr ⟨_,hb⟩) (by
      unfold bq;rw[q0o (by rw[b7,ao];omega)];rfl)
    refine eY.dQ 1 8 3 0 m 1 _ true rfl (by decide) DX (hsr rfl) rfl ?_
    conv=>whnf
    exact⟨⟨(max 1 (m-1),l),Nat.le_max_left _ _,j3,j2,by show l.length<=100000;omega,G,by show max 1 (m-1)<=100000;omega⟩,by show 2*l.length-max 1 (m-1)<2*d.length-m;omega,TU 3 (X:=(pts d).drop m) (le:=[(0,.ptr 0 0),(5,.si .i64 (((max 1 (m-1):Nat):Int)))]) (Z6 3) (λx e=>by
   simp only[Z3,Z4,or_false]at e;rcases e with rfl|rfl
   ·exact ab.ptr (Z0 rfl) rfl
   ·exact ab.int (congrArg (AV.si .i64) T)) ⟨by decide,by decide⟩ rfl rfl rfl rfl rfl rfl (ab.rw (Z0 rfl) (congrArg (λq=>AV.rw 3 0 q 1 1) o)) (congrArg (λq=>some (AO.cells (aZ q) true)) hp2) rfl⟩
   have o:m+((pts d).length-(m+1))=(pts l).length:=by rw[<-s,Z5,q0g,q0p,ao];omega
   have hn0:(pts d).length-(m+1)≠0:=by rw[ao];omega
   have hpm:(aZ ((pts d).take m)++aZ ((pts d).drop (m+1))).map mk=aZ (pts l):=by rw[<-s,sN,q0m,aC,aC]
   refine eY.exact 1 8 ((pts d).length-(m+1)) 3 0 m (aZ ((pts d).drop (m+1))) (aZ ((pts d).take m)) rfl DX (.rw (.inr ⟨_,rfl⟩) s2) (by rw[b7,q0p,q0r]) (DW _) hn0 (.rw (.inr ⟨_,rfl⟩) s1) R ?_
   conv=>whnf
   exact⟨⟨(max 1 (m-1),l),Nat.le_max_left _ _,j3,j2,by show l.length<=100000;omega,G,by show max 1 (m-1)<=100000;omega⟩,by show 2*l.length-max 1 (m-1)<2*d.length-m;omega,oa 6 (le:=[(0,.ptr 0 0),(5,.si .i64 (((max 1 (m-1):Nat):Int)))]) (Z6 3) (λx e=>by
   simp only[Z3,Z4,or_false]at e;rcases e with rfl|rfl
   ·exact ab.ptr (Z0 rfl) rfl
   ·exact ab.int (congrArg (AV.si .i64) T)) ⟨by decide,by decide⟩ rfl rfl rfl rfl rfl rfl (ab.rw (Z0 rfl) (congrArg (λq=>AV.rw 6 0 q 1 0) o)) rfl hpm rfl⟩
  have f:d.length<=m:=by
   have:¬m<d.length:=λq=>h (by
    show(m:Int)<((pts d).length:Int);rw[ao];omega)
   omega
  have hwe:Wh S.sz d.length d:=λj hj M=>r j hj (by omega)
  conv=>whnf
  exact fR (TdP S C) ⟨rfl,rfl,rfl,n,g,hwe⟩ (VTo.mk5 rfl) (λφ ψ w h=>iU rfl h) 3 ⟨by decide,by decide⟩ rfl rfl rfl rfl rfl rfl (ab.rw (Z0 rfl) rfl) rfl (aC _) rfl
end Go.Proofs.YtflehenfikoniaaGreat
end
