/- Texts of our own, joined: the engine, the machine that runs code, and what is known of the functions. -/
import Derived.Test.YtflehenfikoniaaGreatRows
import Derived.WalkKit
import Derived.Deep.Quiet
import Derived.ProofKit
import Derived.Laws.StructEq
import Derived.LaidEql
import Derived.Laws.BytesArg
import Derived.Maps.RangeRun
import Derived.RangeFuncSeq
import Derived.Scope
import Derived.Laws.Strings
import Derived.Laws.Strings2
import Derived.Below
import Derived.Carry
import Derived.OpenShut
import Derived.ChangeMaps5
import Derived.Deep.Slices
import Derived.Deep.SlicePairs
import Derived.SizedLaws
import Derived.Test.YtflehenfikoniaaGreatJb
import Derived.Laws.BitsAllLaws
set_option linter.unusedSimpArgs false
set_option linter.unusedVariables false
set_option maxHeartbeats 16000000
set_option maxRecDepth 100000
noncomputable section
namespace Go.Proofs.YtflehenfikoniaaGreat
open Go Go.RowKit
mutual
def ren(r:Nat->Nat):AV->AV
 | .int k n=> .int k n
 | .str s=> .str s
 | .bool b=> .bool b
 | .nil=> .nil
 | .ptr b o=> .ptr (r b) o
 | .nsl=> .nsl
 | .sl b o n c k=> .sl (r b) o n c k
 | .esl b=> .esl (r b)
 | .agg l=> .agg (dM r l)
 | .tup l=> .tup (dM r l)
 | .fn f a c=> .fn f (dM r a) (dM r c)
 | .map b=> .map (r b)
 | .any v=> .any v
 | .bad=> .bad
 | .si k n=> .si k n
 | .sb b=> .sb b
 | .ss s=> .ss s
 | .sy b o n c k=> .sy (r b) o n c k
 | .rw b o n k x=> .rw (r b) o n k x
 | .fr n k l=> .fr n k l
 | .fa l o=> .fa l o
def dM(r:Nat->Nat):List AV->List AV
 | []=> []
 |a::l=>ren r a::dM r l
end
mutual
def ltV(m:Nat):AV->Bool
 | .int _ _=>true
 | .str _=>true
 | .bool _=>true
 | .nil=>true
 | .ptr b _=>Nat.blt b m
 | .nsl=>true
 | .sl b _ _ _ _=>Nat.blt b m
 | .esl b=>Nat.blt b m
 | .agg l=>jI m l
 | .tup l=>jI m l
 | .fn _ a c=>jI m a&&jI m c
 | .map b=>Nat.blt b m
 | .any _=>true
 | .bad=>true
 | .si _ _=>true
 | .sb _=>true
 | .ss _=>true
 | .sy b _ _ _ _=>Nat.blt b m
 | .rw b _ _ _ _=>Nat.blt b m
 | .fr _ _ _=>true
 | .fa _ _=>true
def jI(m:Nat):List AV->Bool
 | []=>true
 |a::l=>ltV m a&&jI m l
end
def Ph.pull(χ:Ph)(r:Nat->Nat):Ph:=⟨λb=>χ (r b),χ.z,χ.y,λb=>χ.s (r b)⟩
section
variable {χ ψ:Ph} {r:Nat->Nat} {m:Nat}
mutual
theorem VR.pull:∀(a:AV) (v:Value),VR χ (ren r a) v<->VR (χ.pull r) a v
 | .int k n,v=>by simp only[ren,VR]
 | .str s,v=>by simp only[ren,VR]
 | .bool b,v=>by simp only[ren,VR]
 | .nil,v=>by simp only[ren,VR]
 | .ptr b o,v=>by simp only[ren,VR,Ph.pull]
 | .nsl,v=>by simp only[ren,VR]
 | .sl b o n c k,v=>by simp only[ren,VR,Ph.pull]
 | .esl b,v=>by simp only[ren,VR,Ph.pull]
 | .agg l,v=>by simp only[ren,VR,VRs.pull l]
 | .tup l,v=>by simp only[ren,VR,VRs.pull l]
 | .fn f a c,v=>by simp only[ren,VR,VRs.pull a,VRs.pull c]
 | .map b,v=>by simp only[ren,VR,Ph.pull]
 | .any u,v=>by simp only[ren,VR]
 | .bad,v=>by simp only[ren,VR]
 | .si k n,v=>by simp only[ren,VR]
 | .sb b,v=>by simp only[ren,VR]
 | .ss s,v=>by simp only[ren,VR]
 | .sy b o n c k,v=>by simp only[ren,VR,Ph.pull]
 | .rw b o n k x,v=>by simp only[ren,VR,Ph.pull]
 | .fr n k l,v=>by simp only[ren,VR,Ph.pull]
 | .fa l o,v=>by simp only[ren,VR,Ph.pull]
theorem VRs.pull:∀(l:List AV) (d:List Value),VRs χ (dM r l) d<->VRs (χ.pull r) l d
 | [],d=>by simp only[dM,VRs]
 |a::l,d=>by simp only[dM,VRs,VR.pull a,VRs.pull l]
end
mutual
theorem VR.below(j:∀b p,b<m->ψ b=some p->χ b=some p)(t:∀q,ψ.z q->χ.z q):∀(a:AV) (v:Value),ltV m a=true->VR ψ a v->VR χ a v
 | .int k n,v,_,h=>by simp only[VR]at h⊢;exact h
 | .str s,v,_,h=>by simp only[VR]at h⊢;exact h
 | .bool b,v,_,h=>by simp only[VR]at h⊢;exact h
 | .nil,v,_,h=>by simp only[VR]at h⊢;exact h
 | .ptr b o,v,d,h=>by
  simp only[ltV,q2h]at d;simp only[VR]at h⊢;obtain⟨p,e,i⟩:=h;exact⟨p,j _ _ d e,i⟩
 | .nsl,v,_,h=>by simp only[VR]at h⊢;exact h
 | .sl b o n c k,v,d,h=>by
  simp only[ltV,q2h]at d;simp only[VR]at h⊢;obtain⟨p,C,e,i⟩:=h;exact⟨p,C,j _ _ d e,i⟩
 | .esl b,v,d,h=>by
  simp only[ltV,q2h]at d;simp only[VR]at h⊢;obtain⟨p,x,C,e,i⟩:=h;exact⟨p,x,C,j _ _ d e,i⟩
 | .agg l,v,d,h=>by
  simp only[ltV]at d;simp only[VR]at h⊢;obtain⟨cs,e,i⟩:=h;exact⟨cs,e,VRs.below j t l _ d i⟩
 | .tup l,v,d,h=>by
  simp only[ltV]at d;simp only[VR]at h⊢;obtain⟨cs,e,i⟩:=h;exact⟨cs,e,VRs.below j t l _ d i⟩
 | .fn f a c,v,d,h=>by
  simp only[ltV,Z9]at d;simp only[VR]at h⊢;obtain⟨xs,cs,e,i,y⟩:=h;exact⟨xs,cs,e,VRs.below j t a _ d.1 i,VRs.below j t c _ d.2 y⟩
 | .map b,v,d,h=>by
  simp only[ltV,q2h]at d;simp only[VR]at h⊢;obtain⟨p,e,i⟩:=h;exact⟨p,j _ _ d e,i⟩
 | .any u,v,_,h=>by simp only[VR]at h⊢;exact h
 | .bad,v,_,h=>by simp only[VR]
 | .si k n,v,_,h=>by simp only[VR]at h⊢;exact h
 | .sb b,v,_,h=>by simp only[VR]at h⊢;exact h
 | .ss s,v,_,h=>by simp only[VR]at h⊢;exact h
 | .sy b o n c k,v,d,h=>by
  simp only[ltV,q2h]at d;simp only[VR]at h⊢;obtain⟨p,C,e,i⟩:=h;exact⟨p,C,j _ _ d e,i⟩
 | .rw b o n k x,v,d,h=>by
  simp only[ltV,q2h]at d;simp only[VR]at h⊢;rcases h with h|⟨p,a,C,e,i⟩
  ·exact .inl h
  ·exact .inr ⟨p,a,C,j _ _ d e,i⟩
 | .fr n k l,v,_,h=>by
  simp only[VR]at h⊢;rcases h with h|⟨q,o,C,e,i⟩
  ·exact .inl h
  ·exact .inr ⟨q,o,C,t _ e,i⟩
 | .fa l o,v,_,h=>by
  simp only[VR]at h⊢;obtain⟨q,x,e,i⟩:=h;exact⟨q,x,t _ e,i⟩
theorem VRs.below(j:∀b p,b<m->ψ b=some p->χ b=some p)(t:∀q,ψ.z q->χ.z q):∀(l:List AV) (w:List Value),jI m l=true->VRs ψ l w->VRs χ l w
 | [],w,_,h=>by simp only[VRs]at h⊢;exact h
 |a::l,w,d,h=>by
  simp only[jI,Z9]at d;simp only[VRs]at h⊢;obtain⟨v,us,e,i,y⟩:=h;exact⟨v,us,e,VR.below j t a v d.1 i,VRs.below j t l us d.2 y⟩
end
end
def xY(r:Nat->Nat):List (AV×AV)->List (AV×AV)
 | []=> []
 |e::es=>(ren r e.1,ren r e.2)::xY r es
def cJ(r:Nat->Nat):AO->AO
 | .cells l z=> .cells (dM r l) z
 | .map es=> .map (xY r es)
 | .mp es bs cl=> .mp (xY r es) bs cl
 | .ro l=> .ro (dM r l)
 | .iter b m seen=> .iter (r b) m seen
 | .sep Q=> .sep Q
def ltE(m:Nat):List (AV×AV)->Bool
 | []=>true
 |e::es=>ltV m e.1&&(ltV m e.2&&ltE m es)
def ltO(m:Nat):AO->Bool
 | .cells l _=>jI m l
 | .map es=>ltE m es
 | .mp es _ _=>ltE m es
 | .ro l=>jI m l
 | .iter b _ _=>Nat.blt b m
 | .sep _=>true
section
variable {χ ψ:Ph} {r:Nat->Nat} {m:Nat}
theorem oD:∀l:List AV,(dM r l).length=l.length
 | []=>rfl
 |a::l=>by simp[dM,oD l]
theorem z9:∀(l:List AV) (i:Nat),(dM r l)[i]?=(l[i]?).map (ren r)
 | [],i=>by simp[dM]
 |a::l,0=>by simp[dM]
 |a::l,i+1=>by simp[dM,z9 l i]
theorem LZ:∀{l:List AV},jI m l=true->∀{i:Nat} {a:AV},l[i]?=some a->ltV m a=true
 | [],_,i,a,h=>by simp at h
 |b::l,c,i,a,h=>by
  simp only[jI,Z9]at c;cases i with
  |zero=>simp only[q1m,q1r]at h;subst h;exact c.1
  |succ i=>exact LZ c.2 (by simpa using h)
theorem CR.pull{c:Array Value}{s:Nat}{l:List AV}:CR χ c s (dM r l)<->CR (χ.pull r) c s l:=by
 constructor
 ·intro h i a e;obtain⟨v,b,d⟩:=h i (ren r a) (by rw[z9,e];rfl);exact⟨v,b,(VR.pull _ _).1 d⟩
 ·intro h i a e;rw[z9,Z7]at e;obtain⟨f,j,rfl⟩:=e;obtain⟨v,b,d⟩:=h i f j;exact⟨v,b,(VR.pull _ _).2 d⟩
theorem CR.below(d:∀b p,b<m->ψ b=some p->χ b=some p)(f:∀q,ψ.z q->χ.z q){c:Array Value}{s:Nat}{l:List AV}(j:jI m l=true)(h:CR ψ c s l):CR χ c s l:=λi a e=>by
 obtain⟨v,k,o⟩:=h i a e;exact⟨v,k,VR.below d f a v (LZ j e) o⟩
theorem MR.pull:∀{es:List (AV×AV)} {ms:List MapEntry},MR χ (xY r es) ms<->MR (χ.pull r) es ms
 | [],ms=>Iff.rfl
 |e::es,ms=>by
  show(∃m us,_/\_/\_/\MR χ (xY r es) us)<->∃m us,_/\_/\_/\MR (χ.pull r) es us;simp only[MR.pull (es:=es),VR.pull]
theorem MR.below(c:∀b p,b<m->ψ b=some p->χ b=some p)(d:∀q,ψ.z q->χ.z q):∀{es:List (AV×AV)} {ms:List MapEntry},ltE m es=true->MR ψ es ms->MR χ es ms
 | [],ms,_,h=>h
 |e::es,ms,a,⟨x,us,f,i,j,k⟩=>by
  simp only[ltE,Z9]at a;exact⟨x,us,f,VR.below c d _ _ a.1 i,VR.below c d _ _ a.2.1 j,MR.below c d a.2.2 k⟩
theorem OR.pull{p:Pl}{o:AO}{ob:Obj}:OR χ p (cJ r o) ob<->OR (χ.pull r) p o ob:=by
 cases o with
 |cells l z=>simp only[cJ,OR,oD,CR.pull]
 |map es=>simp only[cJ,OR,MR.pull]
 |mp es bs cl=>simp only[cJ,OR,MR.pull]
 |iter b k seen=>exact Iff.rfl
 |ro l=>simp only[cJ,OR,oD,CR.pull]
 |sep Q=>exact Iff.rfl
theorem OR.below(i:∀b p,b<m->ψ b=some p->χ b=some p)(j:∀q,ψ.z q->χ.z q){p:Pl}{o:AO}{ob:Obj}(f:ltO m o=true)(h:OR ψ p o ob):OR χ p o ob:=by
 cases o with
 |cells l z=>obtain⟨c,t,fz,a,d,e,s,u,v⟩:=h;exact⟨c,t,fz,a,d,e,s,u,v.below i j f⟩
 |map es=>obtain⟨ms,cl,a,d,e⟩:=h;exact⟨ms,cl,a,MR.below i j f d,e⟩
 |mp es bs cl=>obtain⟨ms,a,d,e⟩:=h;exact⟨ms,a,MR.below i j f d,e⟩
 |iter b k seen=>
  obtain⟨h0,q,a,d⟩:=h;simp only[ltO,q2h]at f;exact⟨h0,q,i _ _ f a,d⟩
 |ro l=>obtain⟨c,t,fz,a,d,e,s⟩:=h;exact⟨c,t,fz,a,d,e,s.below i j f⟩
 |sep Q=>exact h.elim
theorem iR(o:AO):(cJ r o).own=o.own:=by cases o<;>rfl
theorem kF(o:AO):(cJ r o).free=o.free:=by
 cases o with
 |cells l z=>cases l<;>rfl
 |map es=>rfl
 |mp _ _ _=>rfl
 |iter b k seen=>rfl
 |ro l=>cases l<;>rfl
 |sep Q=>rfl
theorem mq{o:AO}{Q:HP}(h:cJ r o= .sep Q):o= .sep Q:=by cases o<;>first|exact h|cases h
theorem nt(o:AO)(ob:Obj):(cJ r o).under ob=o.under ob:=by cases o<;>rfl
end
def bt(S:List Nat)(n b:Nat):Nat:=match S[b]? with
 |some s=>s
 |none=>n+(b-S.length)
def bH(O:List AO):Nat->List (Nat×AO)
 |k=>match O with
  | []=> []
  |o::O=>(k,o)::bH O (k+1)
theorem vZ:∀{O:List AO} {k b:Nat} {o:AO},(b,o)∈bH O k->∃i,b=k+i/\O[i]?=some o
 | [],k,b,o,h=>by cases h
 |x::O,k,b,o,h=>by
  rcases Z4.1 (show(b,o)∈(k,x)::bH O (k+1) from h)with h|h
  ·injection h with c a;subst c a;exact⟨0,rfl,rfl⟩
  ·obtain⟨i,c,a⟩:=vZ h;exact⟨i+1,by omega,a⟩
theorem mr:∀{S:List Nat},S.Nodup->∀{i j a:Nat},S[i]?=some a->S[j]?=some a->i=j
 | [],_,i,j,a,h,_=>by simp at h
 |x::S,hn,i,j,a,h,k=>by
  obtain⟨b,c⟩:=q2m.1 hn;cases i with
  |zero=>
   cases j with
   |zero=>rfl
   |succ j=>
    simp only[q1m,q1r,q1d]at h k;subst h;exact absurd (q0c k) b
  |succ i=>
   cases j with
   |zero=>
    simp only[q1m,q1r,q1d]at h k;subst k;exact absurd (q0c h) b
   |succ j=>
    simp only[q1d]at h k;rw[mr c h k]
section
variable {φ ψ:Ph} {H H' H2:AH} {n n' m:Nat} {h0 hp g:Hp} {S:List Nat} {O:List AO}
def iS(H:AH)(n:Nat)(S:List Nat)(O:List AO):Prop:=S.Nodup/\S.length=O.length/\∀(i:Nat) s o,S[i]?=some s->O[i]?=some o->s<n/\H.get s=some (cJ (bt S n) o)/\(o.void=false∨o.own=true)
theorem cF{i s:Nat}(h:S[i]?=some s):bt S n i=s:=by unfold bt;rw[h]
theorem gC{b:Nat}(h:S.length<=b):bt S n b=n+(b-S.length):=by unfold bt;rw[q1y h]
def Co(φ:Ph)(S:List Nat)(O:List AO)(B:Nat):Prop:=(∃(i:Nat) (s:Nat) (o:AO) (p:Pl),S[i]?=some s/\O[i]?=some o/\o.own=true/\φ s=some p/\p.B=B)∨∃(i:Nat) (s:Nat) (Q:HP),S[i]?=some s/\O[i]?=some (.sep Q)/\φ.s s B
open Classical in
def mu (φ:Ph) (S:List Nat) (O:List AO) (hp:Hp):Hp:=⟨λB=>if Co φ S O B then none else hp.f B,hp.n⟩
theorem Je{B:Nat}{o:Obj}(h:(mu φ S O hp).f B=some o):hp.f B=some o/\¬Co φ S O B:=by
 unfold mu at h;dsimp only at h;split at h
 ·cases h
 ·rename_i q;exact⟨h,q⟩
theorem lI{B:Nat}(h:¬Co φ S O B):(mu φ S O hp).f B=hp.f B:=by
 unfold mu;dsimp only;rw[if_neg h]
theorem Jf{B:Nat}(h:(mu φ S O hp).f B=none):Co φ S O B∨hp.f B=none:=by
 unfold mu at h;dsimp only at h;split at h
 ·rename_i q;exact .inl q
 ·exact .inr h
theorem iS.at(b:iS H n S O){i s:Nat}(c:S[i]?=some s):∃o,O[i]?=some o/\s<n/\H.get s=some (cJ (bt S n) o)/\(o.void=false∨o.own=true):=by
 have a:i<O.length:=by rw[<-b.2.1];exact(X6.1 c).1
 exact⟨O[i],X4 a,b.2.2 i s O[i] c (X4 a)⟩
theorem Co.base(d:HR φ H n h0 hp)(e:iS H n S O){B:Nat}(h:Co φ S O B):h0.f B=none:=by
 rcases h with⟨i,s,o,p,a,b,c,k,rfl⟩|⟨i,s,Q,a,b,c⟩
 ·obtain⟨_,l,_⟩:=e.2.2 i s o a b;obtain⟨q,j,_⟩:=d.of l k;rw[nt,AO.bC c]at j;exact j
 ·exact((d.sep s Q (e.2.2 i s _ a b).2.1).2 B c).1.2
theorem HR.small(t:HR φ H n h0 hp)(j:iS H n S O)(T:Wf hp):HR ⟨λb=>φ (bt S n b),φ.z,φ.z,λb=>φ.s (bt S n b)⟩ (mkH (bH O 0)) S.length (mu φ S O hp) hp:=by
 have D:∀b p,φ (bt S n b)=some p->∃s,S[b]?=some s/\φ s=some p:=λb p e=>by
  cases M:S[b]? with
  |some s=>rw[cF M]at e;exact⟨s,rfl,e⟩
  |none=>
   have U:=q1v.1 M;rw[gC U]at e;have:=(t.dom _ _ e).1;omega
 have get:∀{b o},(mkH (bH O 0)).get b=some o->O[b]?=some o:=λ{b o} e=>by
  obtain⟨i,c,a⟩:=vZ (b9 e);rw[show b=i by omega];exact a
 have f:∀{b o},O[b]?=some o->∃s,S[b]?=some s:=λ{b o} e=>by
  have:=(X6.1 e).1;rw[<-j.2.1]at this;exact⟨S[b],X4 this⟩
 refine⟨λb p e=>?_,λb o e=>?_,λb u o E p y e V ho F d k C=>?_,λb o e=>?_,Z3 _,λq G=>⟨⟨FzR.mono (φ:=φ) (ψ:=⟨λb=>φ (bt S n b),φ.z,φ.z,λb=>φ.s (bt S n b)⟩) (λ_ h=>h) (t.frz q G).1.1,.inl G⟩,λb o p e ho d=>?_⟩,λb Q e=>?_⟩;rotate_left 5
 ·have c:=get e;obtain⟨s,a⟩:=f c;obtain⟨W,X⟩:=t.sep s Q (j.2.2 b s _ a c).2.1;have es:(⟨λb=>φ (bt S n b),φ.z,φ.z,λb=>φ.s (bt S n b)⟩:Ph).s b=φ.s s:=by show φ.s (bt S n b)=_;rw[cF a]
  rw[es];refine⟨W,λB C=>?_⟩;obtain⟨Y,Z,g3,g4⟩:=X B C;refine⟨⟨Y.1,?_⟩,λu E y I J l=>?_,g3,λu Q' I J l=>?_⟩
  ·unfold mu;dsimp only;rw[if_pos (.inr ⟨b,s,Q,a,c,C⟩)]
  ·have f1:=get I;obtain⟨v,x⟩:=f f1;have l:φ (bt S n u)=some y:=l;rw[cF x]at l;exact Z v _ y (j.2.2 u v E x f1).2.1 (by rw[iR];exact J) l
  ·have f1:=get I;obtain⟨v,x⟩:=f f1;have l:φ.s (bt S n u) B:=l;rw[cF x]at l;exact g4 v Q' (j.2.2 u v _ x f1).2.1 (λq=>J (by subst q;exact mr j.1 x a)) l
 ·obtain⟨s,c,a⟩:=D b p e;exact⟨(X6.1 c).1,(t.dom s p a).2⟩
 ·have c:=get e;obtain⟨s,a⟩:=f c;obtain⟨_,h4,h5⟩:=j.2.2 b s o a c;rcases t.live s _ h4 with⟨K,N⟩|⟨p,ob,P,L,R,h9⟩
  ·exact .inl ⟨by show φ (bt S n b)=_;rw[cF a];exact K,by rw[kF]at N;exact N⟩
  ·refine .inr ⟨p,ob,by show φ (bt S n b)=_;rw[cF a];exact P,?_,R,?_⟩
   ·rw[nt]at L;by_cases ho:o.own=true
    ·rw[AO.bC ho];unfold mu;dsimp only;rw[if_pos (.inl ⟨b,s,o,p,a,c,ho,P,rfl⟩)]
    ·rw[lI (λhg=>?_),R]
     ·cases o<;>first|(exact absurd rfl ho;done)|rfl
     ·have:=hg.base t j;rw[this]at L;cases o<;>first|(exact absurd rfl ho;done)|cases L
   ·have:=(OR.pull (χ:=φ) (r:=bt S n)).1 h9;exact OR.cY (φ:=φ.pull (bt S n)) (ψ:=⟨λb=>φ (bt S n b),φ.z,φ.z,λb=>φ.s (bt S n b)⟩) ⟨λ_ _ h=>h,λ_ h=>h⟩ this
 ·have c:=get e;have A:=get V;obtain⟨s,a⟩:=f c;obtain⟨v,w⟩:=f A;have d:φ (bt S n b)=some p:=d;have k:φ (bt S n u)=some y:=k;rw[cF a]at d;rw[cF w]at k;have:=t.inj s v _ _ p y (j.2.2 b s o a c).2.1 (j.2.2 u v E w A).2.1 (by rw[iR];exact ho) (by rw[iR];exact F) d k C;subst this;exact mr j.1 a w
 ·obtain⟨c,_⟩:=Je e;exact⟨T _ _ c,c⟩
 ·have c:=get e;obtain⟨s,a⟩:=f c;have d:φ (bt S n b)=some p:=d;rw[cF a]at d;exact(t.frz q G).2 s _ p (j.2.2 b s o a c).2.1 (by rw[iR];exact ho) d
def fu(S:List Nat)(n m:Nat)(H H' H2:AH):Prop:=∀b o,H2.get b=some o->(∃c a,c<m/\b=bt S n c/\H'.get c=some a/\a.own=true/\ltO m a=true/\o=cJ (bt S n) a)∨((b<n∨n+(m-S.length)<=b)/\H.get b=some o/\(b∈S->o.own=false))
open Classical in
def phA (φ ψ:Ph) (S:List Nat) (n m:Nat):Ph:=⟨λb=>if h:∃c,c<m/\bt S n c=b then ψ h.choose else if b<n then φ b else none,λq=>φ.z q∨ψ.z q,φ.y,λb=>if h:∃c,c<m/\bt S n c=b then ψ.s h.choose else φ.s b⟩
theorem Cp(b:iS H n S O){c d:Nat}(h:bt S n c=bt S n d):c=d:=by
 have lt:∀{i s},S[i]?=some s->s<n:=λ{i s} f=>by
  obtain⟨_,_,h,_⟩:=b.at f;exact h
 cases a:S[c]? with
 |some s=>
  cases hd:S[d]? with
  |some t=>
   rw[cF a,cF hd]at h;subst h;exact mr b.1 a hd
  |none=>
   rw[cF a,gC (q1v.1 hd)]at h;have:=lt a;omega
 |none=>
  have e:=q1v.1 a;cases hd:S[d]? with
  |some t=>
   rw[cF hd,gC e]at h;have:=lt hd;omega
  |none=>
   have j:=q1v.1 hd;rw[gC e,gC j]at h;omega
theorem jj(a:iS H n S O){c:Nat}(b:c<m):phA φ ψ S n m (bt S n c)=ψ c:=by
 have h:∃d,d<m/\bt S n d=bt S n c:=⟨c,b,rfl⟩;show(if h:∃d,d<m/\bt S n d=bt S n c then ψ h.choose else _)=_;rw[dif_pos h,Cp a h.choose_spec.2]
theorem Aa(a:iS H n S O){c:Nat}(b:c<m):(phA φ ψ S n m).s (bt S n c)=ψ.s c:=by
 have h:∃d,d<m/\bt S n d=bt S n c:=⟨c,b,rfl⟩;show(if h:∃d,d<m/\bt S n d=bt S n c then ψ.s h.choose else _)=_;rw[dif_pos h,Cp a h.choose_spec.2]
theorem sX(f:iS H n S O){b:Nat}(a:b<n∨n+(m-S.length)<=b)(c:b∉S):(phA φ ψ S n m).s b=φ.s b:=by
 have h:¬∃d,d<m/\bt S n d=b:=λ⟨d,i,e⟩=>by
  cases hd:S[d]? with
  |some s=>rw[cF hd]at e;subst e;exact c (q0c hd)
  |none=>
   have:=q1v.1 hd;rw[gC this]at e;rcases a with a|a<;>omega
 show(if h:∃d,d<m/\bt S n d=b then ψ.s h.choose else φ.s b)=_;rw[dif_neg h]
theorem Gn{b:Nat}(a:b<n)(c:b∉S):phA φ ψ S n m b=φ b:=by
 have h:¬∃d,d<m/\bt S n d=b:=λ⟨d,_,e⟩=>by
  cases hd:S[d]? with
  |some s=>rw[cF hd]at e;subst e;exact c (q0c hd)
  |none=>rw[gC (q1v.1 hd)]at e;omega
 show(if h:∃d,d<m/\bt S n d=b then ψ h.choose else _)=_;rw[dif_neg h,if_pos a]
theorem Cq(f:HR φ H n h0 hp)(i:iS H n S O){b:Nat}(a:b<n∨n+(m-S.length)<=b)(c:b∉S):phA φ ψ S n m b=φ b:=by
 rcases a with a|a
 ·exact Gn a c
 ·have h:¬∃d,d<m/\bt S n d=b:=λ⟨d,j,e⟩=>by
   cases hd:S[d]? with
   |some s=>rw[cF hd]at e;subst e;exact c (q0c hd)
   |none=>
    have:=q1v.1 hd;rw[gC this]at e;omega
  show(if h:∃d,d<m/\bt S n d=b then ψ h.choose else if b<n then φ b else none)=_;rw[dif_neg h,if_neg (by omega)];cases e:φ b with
  |none=>rfl
  |some p=>have:=(f.dom b p e).1;omega
theorem L0(j:HR φ H n h0 hp)(k:iS H n S O)(o:S.length<=m)(d:PLe ⟨λb=>φ (bt S n b),φ.z,φ.z,λb=>φ.s (bt S n b)⟩ ψ):PLe φ (phA φ ψ S n m):=by
 refine⟨λb p e=>?_,λ_ h=> .inl h,λ_ h=>h⟩;have hb:=(j.dom b p e).1;by_cases f:b∈S
 ·obtain⟨i,l,rfl⟩:=q1k.1 f;have a:S[i]?=some S[i]:=X4 l;have:=jj (φ:=φ) (ψ:=ψ) (m:=m) k (c:=i) (by omega);rw[cF a]at this;rw[this];exact d.b i p (by show φ (bt S n i)=_;rw[cF a];exact e)
 ·rw[Gn hb f];exact e
theorem HR.after(J:HR φ H n h0 hp)(t:iS H n S O)(hm:S.length<=m)(Z:PLe ⟨λb=>φ (bt S n b),φ.z,φ.z,λb=>φ.s (bt S n b)⟩ ψ)(L:HR ψ H' n' (mu φ S O hp) g)(ha:fu S n m H H' H2):HR (phA φ ψ S n m) H2 (n+(m-S.length)) h0 g:=by
 have hple:=L0 (m:=m) J t hm Z
 have pull:∀b p,b<m->ψ b=some p->(phA φ ψ S n m).pull (bt S n) b=some p:=λb p M e=>by
  show phA φ ψ S n m (bt S n b)=_;rw[jj t M];exact e
 have hn0:∀B,(mu φ S O hp).f B=none->h0.f B=none:=λB e=>by
  rcases Jf e with h|h
  ·exact h.base J t
  ·cases q:h0.f B with
   |none=>rfl
   |some o=>have:=(J.base B o q).2;rw[h]at this;cases this
 have old:∀{b o p},(b<n∨n+(m-S.length)<=b)->H.get b=some o->(b∈S->o.own=false)->φ b=some p->∃F,h0.f p.B=o.under F/\hp.f p.B=some F/\¬Co φ S O p.B/\OR φ p o F:=λ{b o p} M e hS a=>by
  obtain⟨F,j,A,h3⟩:=J.of e a;refine⟨F,j,A,λhgn=>?_,h3⟩;by_cases ho:o.own=true
  ·rcases hgn with⟨i,s,T,X,v,w,G,g4,g5⟩|⟨i,s,Q,v,w,G⟩
   ·have:=J.inj s b _ o X p (t.2.2 i s T v w).2.1 e (by rw[iR];exact G) ho g4 a g5;subst this;have:=hS (q0c v);rw[this]at ho;cases ho
   ·exact((J.sep s Q (t.2.2 i s _ v w).2.1).2 _ G).2.1 b o p e ho a rfl
  ·have:=hgn.base J t;rw[this]at j;cases o<;>first|(exact absurd rfl ho;done)|cases j
 have C:∀{b o},(b<n∨n+(m-S.length)<=b)->H.get b=some o->(b∈S->o.own=false)->∀p,phA φ ψ S n m b=some p->o.own=true∨φ b≠none->φ b=some p:=λ{b o} M e hS p a u=>by
  by_cases V:b∈S
  ·have hf:=hS V;rcases u with u|u
   ·rw[hf]at u;cases u
   ·cases hφ:φ b with
    |none=>exact absurd hφ u
    |some q=>
     have:=hple.b b q hφ;rw[a]at this;rw[this]
  ·rw[Cq J t M V]at a;exact a
 have oldS:∀{b Q B},H.get b=some (.sep Q)->b∉S->φ.s b B->∃F,hp.f B=some F/\(mu φ S O hp).f B=some F:=λ{b Q B} e hS U=>by
  obtain⟨P,D⟩:=J.sep b Q e;obtain⟨F,j⟩:=Q.ex _ _ _ B P U;obtain⟨_,w,_,g4⟩:=D B U;refine⟨F,j,?_⟩;rw[lI (λhgn=>?_)]
  ·exact j
  ·rcases hgn with⟨i,s,T,X,I,N,f3,f4,f5⟩|⟨i,s,Q',I,N,f3⟩
   ·exact w s _ X (t.2.2 i s T I N).2.1 (by rw[iR];exact f3) f4 f5
   ·exact g4 s Q' (t.2.2 i s _ I N).2.1 (λq=>hS (by rw[<-q];exact q0c I)) f3
 have sepS:∀{b:Nat} {Q:HP},(b∈S->(AO.sep Q).own=false)->b∉S:=λh q=>by cases h q
 refine⟨λb p e=>?_,λb o e=>?_,λb b' o T p X e e' ho ho' a hp2 U=>?_,λb o e=>?_,X9 J.size L.size,λq u=>?_,λb Q e=>?_⟩;rotate_left 5
 ·rcases ha b _ e with⟨c,T,W,rfl,j,A,h3,K⟩|⟨M,j,A⟩
  ·have K:=mq K.symm;subst K;obtain⟨P,D⟩:=L.sep c Q j;rw[Aa t W];refine⟨Q.mono _ _ _ _ (λq u=>Or.inr u) P,λB U=>?_⟩;obtain⟨v,w,G,g4⟩:=D B U;refine⟨⟨v.1,hn0 B v.2⟩,λb' T X e1 e2 R=>?_,λq u=>?_,λb' Q' e1 e2 R=>?_⟩
   ·rcases ha b' T e1 with⟨d,x,hd,rfl,I,N,f3,rfl⟩|⟨E,I,N⟩
    ·rw[jj t hd]at R;exact w d x X I N R
    ·intro q;obtain⟨F,j1,j2,j3,_⟩:=old E I N (C E I N X R (.inl e2));rw[<-q,lI j3,j2]at v;cases v.2
   ·rcases u with u|u
    ·exact G q (Z.z q u)
    ·exact G q u
   ·rcases ha b' _ e1 with⟨d,x,hd,rfl,I,N,f3,f4⟩|⟨E,I,N⟩
    ·have f4:=mq f4.symm;subst f4;rw[Aa t hd]at R;exact g4 d Q' I (λq=>e2 (by rw[q])) R
    ·have hS':=sepS N;rw[sX t E hS']at R;obtain⟨F,_,j2⟩:=oldS I hS' R;rw[j2]at v;cases v.2
  ·have hS:=sepS A;obtain⟨P,D⟩:=J.sep b Q j;rw[sX t M hS]
   have keepB:∀B,φ.s b B->g.f B=hp.f B:=λB U=>by
    obtain⟨F,j1,j2⟩:=oldS j hS U;rw[j1];exact(L.base _ _ j2).2
   refine⟨Q.mono _ _ _ _ (λq u=>Or.inl u) (Q.loc _ _ hp _ (show hp.n<=g.n from L.size) keepB P),λB U=>?_⟩;obtain⟨v,w,G,g4⟩:=D B U;obtain⟨F,j1,j2⟩:=oldS j hS U;have hsz:hp.n<=g.n:=L.size;refine⟨⟨q0t v.1 hsz,v.2⟩,λb' T X e1 e2 R=>?_,λq u=>?_,λb' Q' e1 e2 R=>?_⟩
   ·rcases ha b' T e1 with⟨d,x,hd,rfl,I,N,f3,rfl⟩|⟨E,I,N⟩
    ·rw[jj t hd]at R;intro q;obtain⟨ob',f4,_⟩:=L.of I R;rw[AO.bC N,q,j2]at f4;cases f4
    ·exact w b' T X I e2 (C E I N X R (.inl e2))
   ·rcases u with u|u
    ·exact G q u
    ·intro q2;rcases(L.frz q u).1.2 with k|k
     ·exact G q (Z.y q k) q2
     ·rw[q2,j2]at k;cases k
   ·rcases ha b' _ e1 with⟨d,x,hd,rfl,I,N,f3,f4⟩|⟨E,I,N⟩
    ·have f4:=mq f4.symm;subst f4;rw[Aa t hd]at R;have:=((L.sep d Q' I).2 B R).1.2;rw[j2]at this;cases this
    ·rw[sX t E (sepS N)]at R;exact g4 b' Q' I e2 R
 ·have e:(if h:∃c,c<m/\bt S n c=b then ψ h.choose else if b<n then φ b else none)=some p:=e;split at e
  ·rename_i h;obtain⟨j,A⟩:=h.choose_spec;refine⟨?_,(L.dom _ _ e).2⟩;generalize h.choose=c at j A;cases W:S[c]? with
   |some s=>rw[cF W]at A;obtain⟨_,_,h3,_⟩:=t.at W;omega
   |none=>
    have:=q1v.1 W;rw[gC this]at A;omega
  ·split at e
   ·have:=J.dom b p e;have hsz:hp.n<=g.n:=L.size;omega
   ·cases e
 ·rcases ha b o e with⟨c,T,W,rfl,j,A,h3,rfl⟩|⟨M,j,A⟩
  ·rcases L.live c T j with⟨K,h5⟩|⟨p,F,K,h5,h6,h7⟩
   ·exact .inl ⟨by rw[jj t W];exact K,by rw[kF];exact h5⟩
   ·refine .inr ⟨p,F,by rw[jj t W];exact K,?_,h6,?_⟩
    ·rw[nt,AO.bC A];rw[AO.bC A]at h5;exact hn0 _ h5
    ·exact(OR.pull (χ:=phA φ ψ S n m)).2 (h7.below (m:=m) pull (λ_ h=> .inr h) h3)
  ·rcases J.live b o j with⟨h3,K⟩|⟨p,F,h3,_⟩
   ·by_cases V:b∈S
    ·obtain⟨i,hi,rfl⟩:=q1k.1 V;obtain⟨T,v,_,w,G⟩:=t.at (X4 hi);rw[j]at w;injection w with w;rcases G with G|G
     ·have q:=A V;rw[w]at K q;rw[kF]at K;rw[iR]at q;cases T with
      |sep Q=>cases q
      |cells l z=>rw[show(AO.cells l z).free=(AO.cells l z).void from rfl,G]at K;cases K
      |ro l=>rw[show(AO.ro l).free=(AO.ro l).void from rfl,G]at K;cases K
      |map es=>cases K
      |mp _ _ _=>cases K
      |iter _ _ _=>cases K
     ·have:=A V;rw[w,iR,G]at this;cases this
    ·exact .inl ⟨by rw[Cq J t M V];exact h3,K⟩
   ·obtain⟨F,K,h5,h6,h7⟩:=old M j A h3;exact .inr ⟨p,F,hple.b b p h3,K,(L.base _ _ (by rw[lI h6];exact h5)).2,h7.mono hple⟩
 ·rcases ha b o e with⟨c,x,W,rfl,j,A,h3,rfl⟩|⟨M,j,A⟩<;>rcases ha b' T e' with⟨d,y,hd,rfl,P,D,k3,rfl⟩|⟨E,P,D⟩
  ·rw[jj t W]at a;rw[jj t hd]at hp2;rw[L.inj c d x y p X j P A D a hp2 U]
  ·exfalso;rw[jj t W]at a;have hp2':=C E P D X hp2 (.inl ho');obtain⟨F,v,w,G,_⟩:=old E P D hp2';obtain⟨ob',g4,_⟩:=L.of j a;rw[AO.bC A,U,lI G,w]at g4;cases g4
  ·exfalso;rw[jj t hd]at hp2;have Y:=C M j A p a (.inl ho);obtain⟨F,v,w,G,_⟩:=old M j A Y;obtain⟨ob',g4,_⟩:=L.of P hp2;rw[AO.bC D,<-U,lI G,w]at g4;cases g4
  ·exact J.inj b b' o T p X j P ho ho' (C M j A p a (.inl ho)) (C E P D X hp2 (.inl ho')) U
 ·obtain⟨_,j⟩:=J.base b o e;have A:¬Co φ S O b:=λhgn=>by rw[hgn.base J t]at e;cases e
  exact L.base b o (by rw[lI A];exact j)
 ·rcases u with u|u
  ·obtain⟨⟨j,A⟩,h3⟩:=J.frz q u;have hψ:ψ.z q:=Z.z q u;obtain⟨⟨P,D⟩,k3⟩:=L.frz q hψ;refine⟨⟨FzR.mono (φ:=ψ) (ψ:=phA φ ψ S n m) (λ_ h=>Or.inr h) P,A⟩,λb o p e ho a=>?_⟩;rcases ha b o e with⟨c,x,W,rfl,v,w,G,rfl⟩|⟨M,v,w⟩
   ·rw[jj t W]at a;exact k3 c x p v w a
   ·exact h3 b o p v ho (C M v w p a (.inl ho))
  ·obtain⟨⟨P,D⟩,k3⟩:=L.frz q u;refine⟨⟨FzR.mono (φ:=ψ) (ψ:=phA φ ψ S n m) (λ_ h=>Or.inr h) P,?_⟩,λb o p e ho a=>?_⟩
   ·rcases D with D|D
    ·exact(J.frz q (Z.y q D)).1.2
    ·exact .inr (hn0 _ D)
   ·rcases ha b o e with⟨c,x,W,rfl,v,w,G,rfl⟩|⟨M,v,w⟩
    ·rw[jj t W]at a;exact k3 c x p v w a
    ·have Y:=C M v w p a (.inl ho);obtain⟨F,j1,j2,j3,_⟩:=old M v w Y;rcases D with D|D
     ·exact(J.frz q (Z.y q D)).2 b o p v ho Y
     ·intro U;rw[<-U,lI j3,j2]at D;cases D
end
def ke (S:List Nat) (n:Nat) (H:AH):List (Nat×Option AO)->AH
 | []=>H
 |x::l=>(ke S n H l).set (x.2.map (cJ (bt S n))) aa (bt S n x.1)
theorem Cr{S:List Nat}{n:Nat}{H:AH}:∀{l:List (Nat×Option AO)} {b:Nat} {o:AO},(ke S n H l).get b=some o->(∃x∈l,∃o',b=bt S n x.1/\x.2=some o'/\o=cJ (bt S n) o')∨(H.get b=some o/\∀x∈l,b≠bt S n x.1)
 | [],b,o,h=> .inr ⟨h,λx i=>by cases i⟩
 |x::l,b,o,h=>by
  rcases PM.ak aa _ _ b o (show((ke S n H l).set (x.2.map (cJ (bt S n))) aa (bt S n x.1)).get b=some o from h)with⟨e,d⟩|⟨e,d⟩
  ·rw[Z7]at d;obtain⟨o',a,c⟩:=d;exact .inl ⟨x,Y6,o',e,a,c.symm⟩
  ·rcases Cr d with⟨y,a,c⟩|⟨a,c⟩
   ·exact .inl ⟨y,X7 _ a,c⟩
   ·refine .inr ⟨a,λy f=>?_⟩;rcases Z4.1 f with rfl|f
    ·exact e
    ·exact c y f
theorem fu.put{S:List Nat}{n m:Nat}{H H':AH}{l:List (Nat×Option AO)}(A:S.length<=m)(j:l.map (·.1)=List.range m)(h:∀x∈l,∀o,x.2=some o->H'.get x.1=some o/\o.own=true/\ltO m o=true):fu S n m H H' (ke S n H l):=λb o e=>by
 rcases Cr e with⟨x,a,k,d,f,s⟩|⟨a,d⟩
 ·obtain⟨t,u,v⟩:=h x a k f;have:x.1∈List.range m:=j▸q0m.2 ⟨x,a,rfl⟩;exact .inl ⟨x.1,k,q2g.1 this,d,t,u,v,s⟩
 ·have key:∀c,c<m->b≠bt S n c:=λc w=>by
   have:c∈l.map (·.1):=j▸q2g.2 w;obtain⟨x,f,rfl⟩:=q0m.1 this;exact d x f
  refine .inr ⟨?_,a,λy=>?_⟩
  ·by_cases q:b<n
   ·exact .inl q
   ·refine .inr ?_;rcases q3d b (n+(m-S.length))with p|p
    ·exfalso;refine key (S.length+(b-n)) (by omega) ?_;rw[gC (by omega)];omega
    ·exact p
  ·obtain⟨i,z,rfl⟩:=q1k.1 y;exact absurd (cF (n:=n) (X4 z)).symm (key i (by omega))
theorem fu.same{S:List Nat}{n:Nat}{H H':AH}(h:∀(i s:Nat) o,S[i]?=some s->H.get s=some o->o.own=true->∃o',H'.get i=some o'/\o'.own=true/\ltO S.length o'=true/\o=cJ (bt S n) o'):fu S n S.length H H' H:=λb o e=>by
 by_cases c:b∈S
 ·obtain⟨i,a,rfl⟩:=q1k.1 c;by_cases ho:o.own=true
  ·obtain⟨o',d,f,j,k⟩:=h i S[i] o (X4 a) e ho;exact .inl ⟨i,o',a,(cF (X4 a)).symm,d,f,j,k⟩
  ·exact .inr ⟨by omega,e,λ_=>by simpa using ho⟩
 ·exact .inr ⟨by omega,e,λh=>absurd h c⟩
theorem dj {f:FuncId} {run:List AV->AH->Nat->PK->Prop} (c:ai f run) {φ:Ph} {H:AH} {n:Nat} {h0 hp:Hp} {S:List Nat} {O:List AO} {args0:List AV} {κ:PK} {K:KH} {d:Array Value} (k:bM Tryz.prog f=true)
 (l:HR φ H n h0 hp) (j:iS H n S O) (a:VRs φ (dM (bt S n) args0) d.toList) (v:cn φ h0 κ K)
 {Q:PK} (h:run args0 (mkH (bH O 0)) S.length Q) (x:∀u H' n',Q u H' n'->∃m H2,S.length<=m/\fu S n m H H' H2/\ltV m u=true/\κ (ren (bt S n) u) H2 (n+(m-S.length))):dH Tryz.prog f d hp K:=by
 have key:Wf hp->dH Tryz.prog f d hp K:=λy=>c args0 _ _ _ h ⟨λb=>φ (bt S n b),φ.z,φ.z,λb=>φ.s (bt S n b)⟩ (mu φ S O hp) hp d K (l.small j y) (VRs.cY (φ:=φ.pull (bt S n)) (ψ:=⟨λb=>φ (bt S n b),φ.z,φ.z,λb=>φ.s (bt S n b)⟩) ⟨λ_ _ h=>h,λ_ h=>h⟩ _ _ ((VRs.pull (χ:=φ) (r:=bt S n) args0 d.toList).1 a)) λψ u H' n' w g i A B C=>by
  obtain⟨m,H2,q,D,E,o⟩:=x u H' n' C
  exact v _ _ _ _ w g (L0 l j q i) (l.after j q i A D) ((VR.pull (χ:=phA φ ψ S n m) u w).2 (VR.below (ψ:=ψ) (m:=m) (λb p F e=>by
   show phA φ ψ S n m (bt S n b)=_;rw[jj j F];exact e) (λ_ h=>Or.inr h) u w E B)) o
 exact⟨k,λw t=>(key t.wf).2 w t⟩
theorem HR.RG{φ:Ph}{H:AH}{n:Nat}{h0 h:Hp}(c:HR φ H n h0 h){b:Nat}{o o':AO}(K:H.get b=some o)(d:o.own=true)(i:o'.own=true)(R:o.free=true->o'.free=true)(ho:∀p ob,φ b=some p->h.f p.B=some ob->OR φ p o ob->OR φ p o' ob)(A:o'.IN=none:=by rfl):HR φ (H.set (some o') aa b) n h0 h:=by
 have back:∀z r,(H.set (some o') aa b).get z=some r->r.own=true->∃u,H.get z=some u/\u.own=true:=λz r T C=>by
  rcases PM.ak aa H b z r T with⟨rfl,_⟩|⟨_,a⟩
  ·exact⟨o,K,d⟩
  ·exact⟨r,a,C⟩
 refine⟨c.dom,λx q t=>?_,λx y q U px D t E F j G k e=>?_,c.base,c.size,λq L=>⟨(c.frz q L).1,λy V D E j k=>?_⟩,c.b7 (Z3 _) (λx Q t=>?_) (λ_ h=>h) (λ_ h=> .inl h) (λ_ _ _ _ _=>rfl) λM W X Y Z e3=>?_⟩;rotate_left 3
 ·rcases PM.ak aa H b x _ t with⟨_,a⟩|⟨_,a⟩
  ·injection a with a;subst a;cases A
  ·exact⟨a,rfl⟩
 ·obtain⟨r,N,a⟩:=back M W Y Z;exact .inl ⟨M,r,X,N,a,e3,rfl⟩
 ·rcases PM.ak aa H b x q t with⟨rfl,a⟩|⟨N,a⟩
  ·injection a with a;subst a;rcases c.live x o K with⟨v,w⟩|⟨p,ob,v,w,P,h6⟩
   ·exact .inl ⟨v,R w⟩
   ·exact .inr ⟨p,ob,v,by rw[AO.bC i];rw[AO.bC d]at w;exact w,P,ho p ob v P h6⟩
  ·exact c.live x q a
 ·obtain⟨r,l,s⟩:=back x q t F;obtain⟨u,I,J⟩:=back y U E j;exact c.inj x y r u px D l I s J G k e
 ·obtain⟨r,l,s⟩:=back y V E j;exact(c.frz q L).2 y r D l s k
theorem HR.L1{φ:Ph}{H:AH}{n:Nat}{h0 h:Hp}(j:HR φ H n h0 h){b:Nat}{l l':List AV}{z:Bool}(k:H.get b=some (.cells l z))(f:l'.length=l.length)(o:∀(i:Nat) (d:AV),l'[i]?=some d->∃a,l[i]?=some a/\∀v,VR φ a v->VR φ d v):HR φ (H.set (some (.cells l' z)) aa b) n h0 h:=
 j.RG k rfl rfl (λq=>by cases l with
  |nil=>cases l' with
   |nil=>rfl
   |cons _ _=>simp at f
  |cons _ _=>cases q) λp F _ _ ⟨c,t,fz,s,u,w,x,y,A⟩=>⟨c,t,fz,s,by rw[f];exact u,w,x,y,λi d B=>by
   obtain⟨a,C,D⟩:=o i d B;obtain⟨v,E,e⟩:=A i a C;exact⟨v,E,D v e⟩⟩
end Go.Proofs.YtflehenfikoniaaGreat
namespace Go.Proofs.YtflehenfikoniaaGreat
open Go Go.RowKit Go.ChangeShapes Go.WideShapes
section
variable {H:Type} {enc:TypeId×Value->H} {P:Program} {W:World} {held:Bool}
theorem wa {t e:TypeId} {A:List Kd} {d c fuel:Nat} {v:Value} {D:DataW H} {ps:List MemPlace} (ht:P.underlying t=some (.slice e)) (hk:xX P d e=some A) (hc:A.length=c) (N:P.cellsOf e=c) (B:c≠0)
 (hf:DataW.trod enc P W 0 (λ_=>true) held fuel t [v]=some (D,ps)):∃(rows:List (List Value)),(∀r∈rows,jH (TrS enc P W 0 (λ_=>true) held) A r/\r.length=c)/\(rows=[]∨∃E F,D= .slice ((List.range rows.length).map F) E)/\rows.length<=maxLen/\
  ((rows=[]/\∃a C,v= .slice a 0 C/\(a=none->C=0))∨∃b off cap l u fz,v= .slice (some ⟨b,off,none⟩) rows.length cap/\rows.length<=cap/\W.heap[b]?=some (.cells l u fz)/\off+rows.length*c<=l.size/\∀i a,rows.flatten[i]?=some a->l[off+i]?=some a):=by
 rcases Go.Deep.open_slice ht hf with⟨K,L⟩|⟨a,len,cap,m,n,Df,Pf,L,_,hl,hm,O,Q,S⟩
 ·injection K with K;subst K;exact⟨[],(λr h=>by cases h),.inl rfl,X5 _,.inl ⟨rfl,none,0,rfl,λ_=>rfl⟩⟩
 ·injection L with L;subst L;have T:m=cap:=O;subst T;by_cases G:len=0
  ·subst G;exact⟨[],(λr h=>by cases h),.inl rfl,X5 _,.inl ⟨rfl,some a,m,rfl,λq=>by cases q⟩⟩
  ·have o:∀i,i<m->∃j,j.length=c/\jH (TrS enc P W 0 (λ_=>true) held) A j/\∀q,q<c->W.cell? ((a.add (i*c)).add q)=j[q]?:=λi f=>by
    obtain⟨j,U,g2⟩:=S i f;rw[N]at U;obtain⟨_,V,M⟩:=World.cells?_some U;exact⟨j,V,rv d e A n j _ hk g2,λq hq=>M q hq⟩
   obtain⟨R,w⟩:=Go.Deep.choose_lt o
   have x:a.spot=none/\∃l u fz,W.heap[a.block]?=some (.cells l u fz):=by
    obtain⟨U,_,V⟩:=w 0 (by omega);have M:=V 0 (by omega);rw[X4 (by omega)]at M;obtain⟨l,u,fz,Z,g6,_⟩:=LW M;have X:(a.add (0*c)).add 0=a:=by simp[Addr.add]
    rw[X]at Z g6;exact⟨g6,l,u,fz,Z⟩
   obtain⟨hs,l,u,fz,Y⟩:=x;obtain⟨b,off,sp⟩:=a;simp only at hs Y;subst hs
   have p:∀i q,i<m->q<c->l[off+i*c+q]?=(R i)[q]?:=λi q f hq=>by
    have g:=(w i f).2.2 q hq;have X:((⟨b,off,none⟩:Addr).add (i*c)).add q=(⟨b,off,none⟩:Addr).add (i*c+q):=Go.Deep.add_add _ _ _;rw[X,X4 (by rw[(w i f).1];exact hq)]at g;have:=O0 Y g;rw[q1l,this,X4 (by rw[(w i f).1];exact hq)]
   have k:((List.range len).map R).length=len:=by simp
   have s:∀r∈(List.range len).map R,∃i,i<len/\r=R i:=λr y=>by
    simp only[q0m,q2g]at y;obtain⟨i,f,rfl⟩:=y;exact⟨i,f,rfl⟩
   have z:∀r∈(List.range len).map R,r.length=c:=λr y=>by
    obtain⟨i,f,rfl⟩:=s r y;exact(w i (by omega)).1
   have I:=Cn _ z;rw[k]at I;refine⟨(List.range len).map R,λr y=>⟨?_,z r y⟩,.inr ?_,?_,.inr ⟨b,off,m,l,u,fz,by rw[k],by rw[k];exact hl,Y,?_,λi a f=>?_⟩⟩
   ·obtain⟨i,f,rfl⟩:=s r y;exact(w i (by omega)).2.1
   ·injection Q with Q _;exact⟨_,Df,by rw[k];exact Q⟩
   ·rw[k];omega
   ·rw[k];have g:=p (len-1) (c-1) (by omega) (by omega);rw[X4 (by rw[(w _ (by omega)).1];omega)]at g;have:=(Y9.1 g).1;have e1:(len-1)*c+c=len*c:=by rw[<-Nat.succ_mul];congr 1;omega
    omega
   ·have J:=(X6.1 f).1;rw[I]at J;have K:=Nat.div_add_mod i c;have hq:=q4c i (q2w B);have hj:i/c<len:=(Nat.div_lt_iff_lt_mul (q2w B)).2 J;have ei:i=i/c*c+i%c:=by rw[q2p];omega
    rw[ei,Gk _ z _ _ hq]at f;have e2:((List.range len).map R)[i/c]?=some (R (i/c)):=by simp[hj]
    rw[e2,q1x]at f;have:=p (i/c) (i%c) (by omega) hq;rw[f,q1l,<-ei]at this;exact this
def phF(z:Fz->Prop):Ph:=⟨λ_=>none,z,z,λ_ _=>False⟩
def kY(W:World)(z:Fz->Prop):Prop:=∀q,z q->FzR (phF z) (gY W) q
theorem kY.none:kY W λ_=>False:=λ_ h=>h.elim
theorem kY.or{z y:Fz->Prop}(h:kY W z)(k:kY W y):kY W λq=>z q∨y q:=λq a=>a.elim (λa=>FzR.mono (φ:=phF z) (ψ:=phF _) (λ_ h=>Or.inl h) (h q a)) λa=>FzR.mono (φ:=phF y) (ψ:=phF _) (λ_ h=>Or.inr h) (k q a)
theorem HR.frs{z:Fz->Prop}(h:kY W z):HR (phF z) .nil 0 (gY W) (gY W):=
 ⟨λ_ _ h=>(by cases h),λ_ _ h=>(by cases h),λ_ _ _ _ _ _ h=>(by cases h),λb o h=>⟨(Y9.1 h).1,h⟩,Z3 _,λq a=>⟨⟨h q a,.inl a⟩,λ_ _ _ h=>by cases h⟩,λ_ _ h=>by cases h⟩
theorem Gp{b off cap m k:Nat}{d:Array Value}{u:TypeId}{fz:Nat×Nat}{L:List AV}{l:List Value}(n:W.heap[b]?=some (.cells d u fz))(f:m<=cap)(p:L.length=m*k)(r:off+m*k<=d.size)(g:L.all mg=true){z:Fz->Prop}(h:z ⟨b,off,L⟩)(t:VRs (phF z) L l)(c:∀i a,l[i]?=some a->d[off+i]?=some a):
 FzR (phF z) (gY W) ⟨b,off,L⟩/\∀χ:Ph,(∀q,z q->χ.z q)->VR χ (.fr m k L) (.slice (some ⟨b,off,none⟩) m cap):=by
 refine⟨⟨⟨(Y9.1 n).1,g⟩,d,u,fz,n,(show off+L.length<=d.size by omega),λi a e=>?_⟩,λχ j=>?_⟩
 ·obtain⟨v,w,x⟩:=t.at e;exact⟨v,c i v w,x⟩
 ·have:VR χ (.fr m k L) (.slice (some ⟨(⟨b,off,L⟩:Fz).B,(⟨b,off,L⟩:Fz).s+0,.none⟩) m cap):= .fr (q:=⟨b,off,L⟩) (o:=0) (j _ h) f (bw p);exact this
theorem Ct{c:Nat}{t e:TypeId}{v:Value}(d:P.underlying t=some (.slice e))(a:Value.okWide P W .any c t v):v.cells.toList=[v]:=by
 rcases uq d a with rfl|⟨b,off,len,cap,f,u,fz,rfl,_⟩<;>rfl
theorem ER{a:List TypeId}{ds:List (DataW H)}(h:(DataW.weightsEach P a ds).all (·<=reachBytes)=true){j n:Nat}{t e:TypeId}{D:DataW H}(b:a[j]?=some t)(hd:ds[j]?=some D)(c:n=0∨∃E F,D= .slice ((List.range n).map F) E)(d:P.underlying t=some (.slice e))(f:16<=P.bytesOf e):n<=8796093022208:=by
 rcases c with rfl|⟨E,F,rfl⟩
 ·omega
 ·have:=sized_slice h b hd d;rw[Y0,List.length_range]at this;unfold reachBytes at this;have g:n*16<=n*P.bytesOf e:=Nat.mul_le_mul_left n f;have i:n*P.bytesOf e<=(n+E.length)*P.bytesOf e:=q1b _ (q0j _ _);omega
end
end Go.Proofs.YtflehenfikoniaaGreat
namespace Go.Proofs.YtflehenfikoniaaGreat
open Go Go.RowKit
abbrev Pk:=List ((Nat×Nat)×List AV)
def qs(p:Nat×Nat):Value:= .pointer (some ⟨p.1,p.2,none⟩)
def aK(p:Nat×Nat):AV:= .any (qs p)
def uF(p:Nat×Nat)(l:List AV)(h:Hp):Prop:=l.all flat.flat1=true/\∃T c t,h.f p.1=some (.cells c t (0,0))/\l.length<=T/\p.2+T<=c.size/\CR Ph.no c p.2 l
def pkB(a:Pk):List Nat:=a.map λc=>c.1.1
theorem Gq{A B:Pk}{p:Nat×Nat}{l:List AV}:(pkB (A++(p,l)::B)).Nodup<->p.1∉pkB (A++B)/\(pkB (A++B)).Nodup:=by
 have h:(pkB (A++(p,l)::B)).Perm (p.1::pkB (A++B)):=(List.perm_middle (l₁:=A) (l₂:=B) (a:=(p,l))).map _;rw[h.nodup_iff,q2m]
def pk(i:Pk):HP where
 P _ S h:=(∀B,S B->∃o,h.f B=some o)/\(pkB i).Nodup/\∀c∈i,S c.1.1/\uF c.1 c.2 h
 loc z S h g _ e hp:=⟨λB a=>by
  obtain⟨o,ho⟩:=hp.1 B a;exact⟨o,(e B a).trans ho⟩,hp.2.1,λc d=>⟨(hp.2.2 c d).1,by
  obtain⟨j,T,k,t,m,q⟩:=(hp.2.2 c d).2;exact⟨j,T,k,t,(e _ (hp.2.2 c d).1).trans m,q⟩⟩⟩
 mono _ _ _ _ _ h:=h
 ex _ _ _ B h a:=h.1 B a
theorem PM.bI{c:Type}{v:Option c}:∀(f:Nat) (t:PM c) (n:Nat),n+1<2^f->(PM.set v f t n).get n=v
 |0,t,n,h=>by simp at h
 |f+1,.nil,0,h=>rfl
 |f+1,.node l u r,0,h=>rfl
 |f+1,.nil,n+1,h=>by
  have a:n/2+1<2^f:=by rw[q3n]at h;omega
  rw[PM.BT];split
  ·rename_i q;rw[PM.br,if_pos q];exact PM.bI f .nil (n/2) a
  ·rename_i q;rw[PM.br,if_neg q];exact PM.bI f .nil (n/2) a
 |f+1,.node l u r,n+1,h=>by
  have a:n/2+1<2^f:=by rw[q3n]at h;omega
  rw[PM.yg];split
  ·rename_i q;rw[PM.br,if_pos q];exact PM.bI f l (n/2) a
  ·rename_i q;rw[PM.br,if_neg q];exact PM.bI f r (n/2) a
theorem aD{n:Nat}(h:n<1000000):n+1<2^aa:=by
 have:(1000001:Nat)<2^aa:=by show 1000001<2^40;decide
 omega
section
variable {φ:Ph} {H:AH} {n:Nat} {h0 h:Hp} {b:Nat} {A B:Pk} {p:Nat×Nat} {l l':List AV}
theorem HR.nu(a:HR φ H n h0 h){Q:HP}(c:H.get b=some (.sep Q)):φ b=none:=by
 rcases a.live b _ c with⟨d,_⟩|⟨q,f,_,_,_,e⟩
 ·exact d
 ·exact e.elim
theorem HR.Cu(k:HR φ H n h0 h)(hbn:b<n)(W:H.get b=some (.sep (pk (A++(p,l)::B)))):
 ∃ψ T,PLe φ ψ/\ψ n=some ⟨p.1,p.2,T⟩/\HR ψ ((H.set (some (.sep (pk (A++B)))) aa b).set (some (.cells l true)) aa n) (n+1) h0 h:=by
 obtain⟨⟨s1,s2,Y⟩,s4⟩:=k.sep b _ W;obtain⟨hS,hfl,T,c,t,Z,hc2,hc3,hc4⟩:=Y (p,l) (by simp);obtain⟨⟨k1,k2⟩,k3,k4,k5⟩:=s4 p.1 hS;have P:p.1∉pkB (A++B)/\(pkB (A++B)).Nodup:=Gq.1 s2;have R:=k.nu W
 have hn0:φ n=none:=by
  cases e:φ n with
  |none=>rfl
  |some q=>exact absurd (k.dom n q e).1 (q3a _)
 let ψ:Ph:=⟨λx=>if x=n then some ⟨p.1,p.2,T⟩else φ x,φ.z,φ.y,λx=>if x=b then(λX=>φ.s b X/\X≠p.1)else φ.s x⟩
 have G:PLe φ ψ:=⟨λx q e=>by
  show(if x=n then _ else φ x)=some q;rw[if_neg (λq=>by subst q;rw[hn0]at e;cases e)];exact e,λ_ h=>h,λ_ h=>h⟩
 have C:ψ n=some ⟨p.1,p.2,T⟩:=if_pos rfl
 have j:∀x,x≠n->ψ x=φ x:=λx a=>if_neg a
 have cs:∀x o,((H.set (some (.sep (pk (A++B)))) aa b).set (some (.cells l true)) aa n).get x=some o->(x=n/\o= .cells l true)∨(x≠n/\((x=b/\o= .sep (pk (A++B)))∨(x≠b/\H.get x=some o))):=λx o a=>by
  rcases PM.ak aa _ n x o a with⟨i,r⟩|⟨i,r⟩
  ·injection r with r;exact .inl ⟨i,r.symm⟩
  ·rcases PM.ak aa H b x o r with⟨w,m⟩|⟨w,m⟩
   ·injection m with m;exact .inr ⟨i,.inl ⟨w,m.symm⟩⟩
   ·exact .inr ⟨i,.inr ⟨w,m⟩⟩
 have old:∀x o q,((H.set (some (.sep (pk (A++B)))) aa b).set (some (.cells l true)) aa n).get x=some o->o.own=true->ψ x=some q->(x=n/\q=⟨p.1,p.2,T⟩)∨(x≠n/\H.get x=some o/\φ x=some q):=λx o q a ho f=>by
  rcases cs x o a with⟨i,_⟩|⟨i,⟨w,_⟩|⟨w,m⟩⟩
  ·subst i;rw[C]at f;injection f with f;exact .inl ⟨rfl,f.symm⟩
  ·subst w;rw[j _ i,R]at f;cases f
  ·rw[j _ i]at f;exact .inr ⟨i,m,f⟩
 refine⟨ψ,T,G,C,⟨λx q a=>?_,λx o a=>?_,λx y o o' q q' a D ho I f hq' e=>?_,k.base,k.size,λq f=>?_,λx Q a=>?_⟩⟩
 ·by_cases S:x=n
  ·subst S;rw[C]at a;injection a with a;subst a;exact⟨q1f _,k1⟩
  ·rw[j _ S]at a;have:=k.dom x q a;exact⟨by omega,this.2⟩
 ·rcases cs x o a with⟨rfl,rfl⟩|⟨i,⟨rfl,rfl⟩|⟨w,m⟩⟩
  ·exact .inr ⟨_,_,C,k2,Z,c,t,(0,0),rfl,hc2,hc3,iZ _ _,λ_=>rfl,CR.cY (φ:=Ph.no) (ψ:=ψ) ⟨(λ_ _ h=>by cases h),λ_ h=>h.elim⟩ hc4⟩
  ·exact .inl ⟨by rw[j _ i];exact R,rfl⟩
  ·rcases k.live x o m with⟨J,K⟩|⟨q,ob,J,K,U,O⟩
   ·exact .inl ⟨by rw[j _ i];exact J,K⟩
   ·exact .inr ⟨q,ob,by rw[j _ i];exact J,K,U,O.mono G⟩
 ·rcases old x o q a ho f with⟨rfl,rfl⟩|⟨a1,E,F⟩<;>rcases old y o' q' D I hq' with⟨rfl,rfl⟩|⟨b1,b2,b3⟩
  ·rfl
  ·exact absurd e.symm (k3 y o' q' b2 I b3)
  ·exact absurd e (k3 x o q E ho F)
  ·exact k.inj x y o o' q q' E b2 ho I F b3 e
 ·refine⟨⟨FzR.mono (φ:=φ) (ψ:=ψ) G.z (k.frz q f).1.1,(k.frz q f).1.2⟩,λx o px a ho hpx=>?_⟩;rcases old x o px a ho hpx with⟨rfl,rfl⟩|⟨a1,E,F⟩
  ·exact λe=>k4 q f e.symm
  ·exact(k.frz q f).2 x o px E ho F
 ·rcases cs x _ a with⟨_,r⟩|⟨i,⟨rfl,r⟩|⟨w,m⟩⟩
  ·cases r
  ·injection r with r;subst r;have es:ψ.s x=λX=>φ.s x X/\X≠p.1:=if_pos rfl
   rw[es];refine⟨⟨λX L=>s1 X L.1,P.2,λd hd=>?_⟩,λX L=>?_⟩
   ·have V:d∈A++(p,l)::B:=by
     rcases q0x.1 hd with q|q
     ·exact q1w _ q
     ·exact q3x _ (X7 _ q)
    exact⟨⟨(Y d V).1,λe=>P.1 (e▸List.mem_map_of_mem hd)⟩,(Y d V).2⟩
   ·obtain⟨J,K,U,O⟩:=s4 X L.1;refine⟨J,λy o q D ho f=>?_,U,λy Q' D u M=>?_⟩
    ·rcases old y o q D ho f with⟨rfl,rfl⟩|⟨a1,E,F⟩
     ·exact λe=>L.2 e.symm
     ·exact K y o q E ho F
    ·rcases cs y _ D with⟨_,q2⟩|⟨q1,⟨N,_⟩|⟨N,q4⟩⟩
     ·cases q2
     ·exact u N
     ·have:ψ.s y=φ.s y:=if_neg N;rw[this]at M;exact O y Q' q4 u M
  ·obtain⟨g0,g⟩:=k.sep x Q m;have es:ψ.s x=φ.s x:=if_neg w;rw[es];refine⟨g0,λX L=>?_⟩;obtain⟨J,K,U,O⟩:=g X L;refine⟨J,λy o q D ho f=>?_,U,λy Q' D u M=>?_⟩
   ·rcases old y o q D ho f with⟨rfl,rfl⟩|⟨a1,E,F⟩
    ·exact λ(e:p.1=X)=>k5 x Q m w (by rw[e];exact L)
    ·exact K y o q E ho F
   ·rcases cs y _ D with⟨_,q2⟩|⟨q1,⟨N,_⟩|⟨N,q4⟩⟩
    ·cases q2
    ·subst N;have:ψ.s y=λX=>φ.s y X/\X≠p.1:=if_pos rfl
     rw[this]at M;exact O y _ W u M.1
    ·have:ψ.s y=φ.s y:=if_neg N;rw[this]at M;exact O y Q' q4 u M
theorem HR.oE(i:HR φ H n h0 h){m T:Nat}(hbm:b≠m)(Y:H.get b=some (.sep (pk (A++B))))(I:H.get m=some (.cells l true))(F:φ m=some ⟨p.1,p.2,T⟩)(hl:l.map Go.Proofs.YtflehenfikoniaaGreat.mk=l'.map Go.Proofs.YtflehenfikoniaaGreat.mk)(hf:l'.all flat.flat1=true):
 ∃ψ,SLe φ ψ/\PLe φ ψ/\ψ.f=φ.f/\HR ψ ((H.set none aa m).set (some (.sep (pk (A++(p,l')::B)))) aa b) n h0 h:=by
 obtain⟨⟨s1,s2,Z⟩,s4⟩:=i.sep b _ Y;obtain⟨ob,o1,o2,c,t,fz,rfl,o3,o4,o5,o6,o7⟩:=i.of I F;have o6:=o6 rfl
 subst o6;have L:=i.nu Y;have hpS:¬φ.s b p.1:=λq=>(s4 p.1 q).2.1 m _ _ I rfl F rfl
 let ψ:Ph:=⟨φ.f,φ.z,φ.y,λx=>if x=b then(λX=>φ.s b X∨X=p.1)else φ.s x⟩
 have cs:∀x o,((H.set none aa m).set (some (.sep (pk (A++(p,l')::B)))) aa b).get x=some o->(x=b/\o= .sep (pk (A++(p,l')::B)))∨(x≠b/\x≠m/\H.get x=some o):=λx o u=>by
  rcases PM.ak aa _ b x o u with⟨M,w⟩|⟨M,w⟩
  ·injection w with w;exact .inl ⟨M,w.symm⟩
  ·rcases PM.ak aa H m x o w with⟨W,G⟩|⟨W,G⟩
   ·cases G
   ·exact .inr ⟨M,W,G⟩
 have own:∀x o q,((H.set none aa m).set (some (.sep (pk (A++(p,l')::B)))) aa b).get x=some o->o.own=true->φ x=some q->x≠m/\H.get x=some o:=λx o q u ho a=>by
  rcases cs x o u with⟨rfl,_⟩|⟨_,w,W⟩
  ·rw[L]at a;cases a
  ·exact⟨w,W⟩
 have sle:SLe φ ψ:=⟨λ_ _ h=>h,λ_ h=>h⟩;refine⟨ψ,sle,⟨λ_ _ h=>h,λ_ h=>h,λ_ h=>h⟩,rfl,⟨i.dom,λx o u=>?_,λx y o o' q q' u k ho N a O e=>?_,i.base,i.size,λq a=>⟨⟨FzR.mono (φ:=φ) (ψ:=ψ) sle.z (i.frz q a).1.1,(i.frz q a).1.2⟩,λx o px u ho P=>(i.frz q a).2 x o px (own x o px u ho P).2 ho P⟩,λx Q u=>?_⟩⟩
 ·rcases cs x o u with⟨rfl,rfl⟩|⟨_,_,G⟩
  ·exact .inl ⟨L,rfl⟩
  ·rcases i.live x o G with g|⟨q,ob,R,J,S,K⟩
   ·exact .inl g
   ·exact .inr ⟨q,ob,R,J,S,K.cY sle⟩
 ·exact i.inj x y o o' q q' (own x o q u ho a).2 (own y o' q' k N O).2 ho N a O e
 ·rcases cs x _ u with⟨rfl,w⟩|⟨M,hxm,G⟩
  ·injection w with w;subst w;have es:ψ.s x=λX=>φ.s x X∨X=p.1:=if_pos rfl
   rw[es];refine⟨⟨λX C=>?_,?_,λd hd=>?_⟩,λX C=>?_⟩
   ·rcases C with C|rfl
    ·exact s1 X C
    ·exact⟨_,o2⟩
   ·refine Gq.2 ⟨λq=>?_,s2⟩;obtain⟨d,hd,e⟩:=q0m.1 q;exact hpS (e▸(Z d hd).1)
   ·have D:d=(p,l')∨d∈A++B:=by
     rcases q0x.1 hd with q|q
     ·exact .inr (q1w _ q)
     ·rcases Z4.1 q with q|q
      ·exact .inl q
      ·exact .inr (q3x _ q)
    rcases D with rfl|D
    ·refine⟨.inr rfl,hf,T,c,t,o2,?_,o4,o7.nq hl hf⟩;have:l'.length=l.length:=by have:=congrArg List.length hl;simpa using this.symm
     rw[this];exact o3
    ·exact⟨.inl (Z d D).1,(Z d D).2⟩
   ·rcases C with C|rfl
    ·obtain⟨R,J,S,K⟩:=s4 X C;refine⟨R,λy o q k ho a=>J y o q (own y o q k ho a).2 ho a,S,λy U k j r=>?_⟩;rcases cs y _ k with⟨E,_⟩|⟨E,_,V⟩
     ·exact j E
     ·have:ψ.s y=φ.s y:=if_neg E;rw[this]at r;exact K y U V j r
    ·refine⟨⟨(i.dom m _ F).2,o1⟩,λy o q k ho a e=>?_,λq a e=>(i.frz q a).2 m _ _ I rfl F e.symm,λy U k j r=>?_⟩
     ·obtain⟨a1,a2⟩:=own y o q k ho a;exact a1 (i.inj y m o _ q _ a2 I ho rfl a F e)
     ·rcases cs y _ k with⟨E,_⟩|⟨E,_,V⟩
      ·exact j E
      ·have:ψ.s y=φ.s y:=if_neg E;rw[this]at r;exact((i.sep y U V).2 _ r).2.1 m _ _ I rfl F rfl
  ·obtain⟨g0,g⟩:=i.sep x Q G;have es:ψ.s x=φ.s x:=if_neg M;rw[es];refine⟨g0,λX C=>?_⟩;obtain⟨R,J,S,K⟩:=g X C;refine⟨R,λy o q k ho a=>J y o q (own y o q k ho a).2 ho a,S,λy U k j r=>?_⟩;rcases cs y _ k with⟨rfl,_⟩|⟨E,_,V⟩
   ·have:ψ.s y=λX=>φ.s y X∨X=p.1:=if_pos rfl
    rw[this]at r;rcases r with r|rfl
    ·exact K y _ Y j r
    ·exact J m _ _ I rfl F rfl
   ·have:ψ.s y=φ.s y:=if_neg E;rw[this]at r;exact K y U V j r
theorem HR.tV(d:HR φ H n h0 h){Q Q':HP}(u:H.get b=some (.sep Q))(a:∀z S h,Q.P z S h->Q'.P z S h):HR φ (H.set (some (.sep Q')) aa b) n h0 h:=by
 have cs:∀x o,(H.set (some (.sep Q')) aa b).get x=some o->(x=b/\o= .sep Q')∨(x≠b/\H.get x=some o):=λx o c=>by
  rcases PM.ak aa H b x o c with⟨G,f⟩|f
  ·injection f with f;exact .inl ⟨G,f.symm⟩
  ·exact .inr f
 have i:=d.nu u
 have own:∀x o q,(H.set (some (.sep Q')) aa b).get x=some o->φ x=some q->H.get x=some o:=λx o q c a=>by
  rcases cs x o c with⟨rfl,_⟩|⟨_,I⟩
  ·rw[i]at a;cases a
  ·exact I
 refine⟨d.dom,λx o c=>?_,λx y o C q D c j ho w a k e=>d.inj x y o C q D (own x o q c a) (own y C D j k) ho w a k e,d.base,d.size,λq a=>⟨d.frz q a|>.1,λx o px c ho m=>(d.frz q a).2 x o px (own x o px c m) ho m⟩,λx E c=>?_⟩
 ·rcases cs x o c with⟨rfl,rfl⟩|⟨_,r⟩
  ·exact .inl ⟨i,rfl⟩
  ·exact d.live x o r
 ·have:∃t,H.get x=some (.sep t)/\∀z S h,t.P z S h->E.P z S h:=by
   rcases cs x _ c with⟨rfl,f⟩|⟨_,r⟩
   ·injection f with f;subst f;exact⟨Q,u,a⟩
   ·exact⟨E,r,λ_ _ _ h=>h⟩
  obtain⟨t,J,K⟩:=this;obtain⟨L,g⟩:=d.sep x t J;refine⟨K _ _ _ L,λX M=>?_⟩;obtain⟨N,O,R,F⟩:=g X M;refine⟨N,λy o q j ho a=>O y o q (own y o q j a) ho a,R,λy T j s=>?_⟩;rcases cs y _ j with⟨rfl,_⟩|⟨_,r⟩
  ·exact F y Q u s
  ·exact F y T r s
theorem O4{a d:Pk}(e:∀c∈d,c∈a)(hd:(pkB a).Nodup->(pkB d).Nodup):∀z S h,(pk a).P z S h->(pk d).P z S h:=λz S h ⟨f,g,i⟩=>⟨f,hd g,λc j=>i c (e c j)⟩
theorem SA{a d:Pk}(e:d.Sublist a):∀z S h,(pk a).P z S h->(pk d).P z S h:=O4 (λc f=>e.subset f) λh=>(e.map _).nodup h
theorem HR.Va(i:HR φ H n h0 h):∃ψ,PLe φ ψ/\HR ψ (H.set (some (.sep (pk []))) aa n) (n+1) h0 h:=by
 have cs:∀x o,(H.set (some (.sep (pk []))) aa n).get x=some o->(x=n/\o= .sep (pk []))∨(x≠n/\H.get x=some o):=λx o a=>by
  rcases PM.ak aa H n x o a with⟨C,j⟩|j
  ·injection j with j;exact .inl ⟨C,j.symm⟩
  ·exact .inr j
 have k:φ n=none:=by
  cases e:φ n with
  |none=>rfl
  |some q=>exact absurd (i.dom n q e).1 (q3a _)
 let ψ:Ph:=⟨φ.f,φ.z,φ.y,λx=>if x=n then(λ_=>False)else φ.s x⟩
 have own:∀x o q,(H.set (some (.sep (pk []))) aa n).get x=some o->φ x=some q->H.get x=some o:=λx o q a d=>by
  rcases cs x o a with⟨rfl,_⟩|⟨_,N⟩
  ·rw[k]at d;cases d
  ·exact N
 have sle:SLe φ ψ:=⟨λ_ _ h=>h,λ_ h=>h⟩;refine⟨ψ,⟨λ_ _ h=>h,λ_ h=>h,λ_ h=>h⟩,⟨λx q a=>⟨by have:=(i.dom x q a).1;omega,(i.dom x q a).2⟩,λx o a=>?_,λx y o L q M a m ho D d r e=>i.inj x y o L q M (own x o q a d) (own y L M m r) ho D d r e,i.base,i.size,λq d=>⟨⟨FzR.mono (φ:=φ) (ψ:=ψ) sle.z (i.frz q d).1.1,(i.frz q d).1.2⟩,λx o px a ho t=>(i.frz q d).2 x o px (own x o px a t) ho t⟩,λx O a=>?_⟩⟩
 ·rcases cs x o a with⟨rfl,rfl⟩|⟨_,E⟩
  ·exact .inl ⟨k,rfl⟩
  ·rcases i.live x o E with g|⟨q,P,F,G,I,J⟩
   ·exact .inl g
   ·exact .inr ⟨q,P,F,G,I,J.cY sle⟩
 ·rcases cs x _ a with⟨rfl,j⟩|⟨C,E⟩
  ·injection j with j;subst j;have es:ψ.s x=λ_=>False:=if_pos rfl
   rw[es];exact⟨⟨(λX u=>u.elim),q4h,λc R=>by cases R⟩,λX u=>u.elim⟩
  ·obtain⟨S,g⟩:=i.sep x O E;have es:ψ.s x=φ.s x:=if_neg C;rw[es];refine⟨S,λX u=>?_⟩;obtain⟨F,G,I,J⟩:=g X u;refine⟨F,λy o q m ho d=>G y o q (own y o q m d) ho d,I,λy T m K w=>?_⟩;rcases cs y _ m with⟨rfl,_⟩|⟨U,V⟩
   ·have:ψ.s y=λ_=>False:=if_pos rfl
    rw[this]at w;exact w
   ·have:ψ.s y=φ.s y:=if_neg U;rw[this]at w;exact J y T V K w
end
theorem VR.oF{φ:Ph}{b:Nat}{p:Nat×Nat}{T:Nat}(h:φ b=some ⟨p.1,p.2,T⟩):VR φ (.ptr b 0) (qs p):= .ptr (p:=⟨p.1,p.2,T⟩) (o:=0) h
def pX(H:AH)(n b:Nat)(A B:Pk)(p:Nat×Nat)(κ:PK):PK:=λv a c=>∃l2 l' Q,c=n+1/\(∀x o,x≠n->x≠b->H.get x=some o->a.get x=some o)/\a.get b=some (.sep (pk (A++B)))/\a.get n=some (.cells l2 true)/\l2.map mk=l'.map mk/\l'.all flat.flat1=true/\(∀z S h,(pk (A++(p,l')::B)).P z S h->Q.P z S h)/\κ v (H.set (some (.sep Q)) aa b) (n+1)
def opn (H:AH) (n b:Nat) (A B:Pk) (l:List AV):AH:=(H.set (some (.sep (pk (A++B)))) aa b).set (some (.cells l true)) aa n
section
variable {H:AH} {n b:Nat} {A B:Pk} {p:Nat×Nat} {κ:PK} {v:AV} {l l2 l':List AV} {Q:HP}
theorem pY(hn:n<1000000):(opn H n b A B l).get n=some (.cells l true):=PM.bI aa _ _ (aD hn)
theorem yJ(a:b<n)(hn:n<1000000):(opn H n b A B l).get b=some (.sep (pk (A++B))):=PM.aC aa _ _ _ (aD hn) (by omega) (PM.bI aa _ _ (aD (by omega)))
theorem tW(a:b<n)(hn:n<1000000){x:Nat}{o:AO}(c:x≠n)(d:x≠b)(h:H.get x=some o):(opn H n b A B l).get x=some o:=PM.aC aa _ _ _ (aD hn) c (PM.aC aa _ _ _ (aD (by omega)) d h)
theorem pX.same(a:b<n)(hn:n<1000000)(d:l.map mk=l'.map mk)(e:l'.all flat.flat1=true)(f:∀z S h,(pk (A++(p,l')::B)).P z S h->Q.P z S h)(c:κ v (H.set (some (.sep Q)) aa b) (n+1)):pX H n b A B p κ v (opn H n b A B l) (n+1):=
 ⟨l,l',Q,rfl,λx o g i j=>tW a hn g i j,yJ a hn,pY hn,d,e,f,c⟩
theorem pX.set(a:b<n)(hn:n<1000000)(e:l2.map mk=l'.map mk)(f:l'.all flat.flat1=true)(g:∀z S h,(pk (A++(p,l')::B)).P z S h->Q.P z S h)(c:κ v (H.set (some (.sep Q)) aa b) (n+1)):pX H n b A B p κ v ((opn H n b A B l).set (some (.cells l2 true)) aa n) (n+1):=
 ⟨l2,l',Q,rfl,λx o d i j=>PM.aC aa _ _ _ (aD hn) d (tW a hn d i j),PM.aC aa _ _ _ (aD hn) (by omega) (yJ a hn),PM.bI aa _ _ (aD hn),e,f,g,c⟩
end
theorem ai.Cv {f:FuncId} {run:List AV->AH->Nat->PK->Prop} (i:ai f run) {φ:Ph} {H:AH} {n:Nat} {h0 s:Hp} {t:Array Value} {κ:PK} {K:KH} {b:Nat} {A B:Pk} {p:Nat×Nat} {l:List AV} {rest:List AV}
 (L:HR φ H n h0 s) (w:b<n) (hn:n<1000000) (y:H.get n=none) (M:H.get b=some (.sep (pk (A++(p,l)::B)))) (d:VRs φ (aK p::rest) t.toList) (N:cn φ h0 κ K)
 (O:run (.ptr n 0::rest) (opn H n b A B l) (n+1) (pX H n b A B p κ)):dH Tryz.prog f t s K:=by
 obtain⟨P,T,j,k,z⟩:=L.Cu w M;obtain⟨R,S,U,C,V⟩:=d.cons_inv;have C:R=qs p:=C;subst C;refine i _ _ _ _ O P h0 s t K z (by rw[U];exact .cons (VR.oF k) (VRs.mono j _ _ V)) λχ v H2 n2 u g a W X ⟨l2,l',Q,Y,q,D,E,Z,hf,hQ,F⟩=>?_
 subst Y;obtain⟨ω,_,c,_,G⟩:=W.oE (m:=n) (by omega) D E (a.b _ _ k) Z hf;have I:=G.tV (Q':=Q) (PM.bI aa _ _ (aD (by omega))) hQ;refine N ω v _ (n+1) u g ((j.trans a).trans c) (I.less λx o hx=>?_) (VR.mono c _ _ X) F;rcases PM.ak aa H b x o hx with⟨rfl,r⟩|⟨J,r⟩
 ·rw[PM.bI aa _ _ (aD (by omega))];exact r
 ·by_cases e:x=n
  ·subst e;rw[y]at r;cases r
  ·exact PM.aC aa _ _ _ (aD (by omega)) J (PM.aC aa _ _ _ (aD (by omega)) J (PM.aC aa _ _ _ (aD hn) e (q x o e J r)))
def bitsOf(u:Nat):Nat->List Nat
 |0=> []
 |m+1=>(u/2^m)%2::bitsOf u m
def dY(B:List Nat):Prop:=∀b∈B,b<2
theorem aP(u:Nat):∀m,(bitsOf u m).length=m
 |0=>rfl
 |m+1=>by simp[bitsOf,aP u m]
theorem dF(u:Nat):∀m,dY (bitsOf u m)
 |0=>λb h=>by cases h
 |m+1=>λb h=>by
  rcases Z4.1 h with rfl|h
  ·exact q4c _ (by decide)
  ·exact dF u m b h
theorem dY.nil:dY []:=λb h=>by cases h
theorem dY.app{A B:List Nat}(h:dY A)(k:dY B):dY (A++B):=λb a=>(q0x.1 a).elim (h b) (k b)
theorem dY.one{b:Nat}(h:b<2):dY [b]:=λc a=>by simp at a;omega
def cK(a:Nat)(B:List Nat):Nat:=B.foldl (λu b=>2*u+b) a
theorem jk(a u:Nat):∀m,cK a (bitsOf u m)=a*2^m+u%2^m
 |0=>by simp[cK,bitsOf,Nat.mod_one]
 |m+1=>by
  show cK (2*a+u/2^m%2) (bitsOf u m)=_;rw[jk _ u m,Nat.mod_pow_succ,q3n,q2a];have b:2*a*2^m=a*(2^m*2):=by rw[q2p 2 a,Nat.mul_assoc,q2p 2]
  have c:u/2^m%2*2^m=2^m*(u/2^m%2):=q2p _ _;omega
theorem ry:∀(B:List Nat) (a:Nat),cK a B=a*2^B.length+cK 0 B
 | [],a=>by simp[cK]
 |b::B,a=>by
  show cK (2*a+b) B=a*2^(B.length+1)+cK (2*0+b) B;rw[ry B (2*a+b),ry B (2*0+b),q3n,q2a];have c:2*a*2^B.length=a*(2^B.length*2):=by rw[q2p 2 a,Nat.mul_assoc,q2p 2]
  simp only[Nat.mul_zero,q0s];omega
theorem uG:∀(B:List Nat),dY B->cK 0 B<2^B.length
 | [],_=>by simp[cK]
 |b::B,h=>by
  have d:=uG B λc a=>h c (X7 _ a)
  have hb:=h b Y6;show cK (2*0+b) B<_;rw[ry,Z8,q3n];have:(2*0+b)*2^B.length<=1*2^B.length:=q1b _ (by omega);omega
theorem wb(A B:List Nat)(a:Nat):cK a (A++B)=cK (cK a A) B:=by simp[cK,q2t]
theorem Gs:∀(B:List Nat) (a j:Nat),dY B->∀h:j<B.length,cK a B/2^(B.length-1-j)%2=B[j]
 |b::B,a,0,d,_=>by
  show cK (2*a+b) B/2^(B.length+1-1-0)%2=b;have e:=uG B λc f=>d c (X7 _ f)
  have:=d b Y6;rw[ry,Nat.add_sub_cancel,q3c,q2p,Nat.mul_add_div (Nat.two_pow_pos _),q2x e];omega
 |b::B,a,j+1,d,h=>by
  have g:j<B.length:=by simpa using h
  have:=Gs B (2*a+b) j (λc f=>d c (X7 _ f)) g;show cK (2*a+b) B/2^(B.length+1-1-(j+1))%2=B[j];rw[show B.length+1-1-(j+1)=B.length-1-j from by omega];exact this
def Cw(C:List Nat):List Nat:=C++List.replicate (8-C.length) 0
def lJ(C:List Nat):Nat:=cK 0 (Cw C)
def pack(B:List Nat):List Nat:=(List.range ((B.length+7)/8)).map λi=>lJ ((B.drop (8*i)).take 8)
def rz(s:List Nat)(i:Nat):Nat:=(s[i/8]?).getD 0/2^(7-i%8)%2
theorem tX{C:List Nat}(h:C.length<=8):(Cw C).length=8:=by simp[Cw];omega
theorem yK{C:List Nat}(h:dY C):dY (Cw C):=h.app λb a=>by
 have:=List.eq_of_mem_replicate a;omega
theorem Cx{C:List Nat}(h:dY C)(a:C.length<=8):lJ C<256:=by
 have:=uG _ (yK h);rw[tX a]at this;exact this
theorem rA{C:List Nat}:lJ C=cK 0 C*2^(8-C.length):=by
 unfold lJ Cw;rw[wb]
 have:∀m a,cK a (List.replicate m 0)=a*2^m:=λm=>by
  induction m with
  |zero=>intro a;simp[cK]
  |succ m b=>
   intro a;show cK (2*a+0) (List.replicate m 0)=_;rw[b,q3n,q2o,q2p 2 a,Nat.mul_assoc,q2p 2]
 exact this _ _
theorem L2{C:List Nat}(h:dY C)(a:C.length<=8){j:Nat}(b:j<C.length):lJ C/2^(7-j)%2=C[j]:=by
 have c:=tX a;have:=Gs (Cw C) 0 j (yK h) (by omega);unfold lJ;rw[show 7-j=(Cw C).length-1-j from by omega,this];simp[Cw,b]
theorem bp(B:List Nat):(pack B).length=(B.length+7)/8:=by simp[pack]
theorem lK(B:List Nat)(i:Nat)(h:i<(B.length+7)/8):(pack B)[i]?=some (lJ ((B.drop (8*i)).take 8)):=by
 simp[pack,h]
theorem Cy{B:List Nat}(h:dY B)(i m:Nat):dY ((B.drop i).take m):=λb a=>h b (List.mem_of_mem_drop (q2z a))
theorem Gu{B:List Nat}(h:dY B):∀x∈pack B,x<256:=λx a=>by
 simp only[pack,q0m,q2g]at a;obtain⟨i,_,rfl⟩:=a;exact Cx (Cy h _ _) (by rw[Y7];omega)
theorem ES{B:List Nat}(h:dY B){i:Nat}(hi:i<B.length):rz (pack B) i=B[i]:=by
 unfold rz;rw[lK B (i/8) (by omega)];have a:i%8<((B.drop (8*(i/8))).take 8).length:=by rw[Y7,q0g];omega
 rw[Option.getD_some,L2 (Cy h _ _) (by rw[Y7];omega) a];rw[List.getElem_take,List.getElem_drop];congr 1;omega
theorem we{B:List Nat}{b:Nat}(h:B.length%8=0):pack (B++ [b])=pack B++ [b*2^7]:=by
 apply List.ext_getElem?;intro i;have c:(pack B).length=B.length/8:=by rw[bp];omega
 rcases Nat.lt_trichotomy i (B.length/8)with a|a|a
 ·rw[q0z (by omega),lK _ _ (by simp;omega),lK _ _ (by omega)];rw[q2y (by omega),List.take_append_of_le_length (by rw[q0g];omega)]
 ·subst a;rw[q0r (by omega),c,Nat.sub_self,lK _ _ (by simp;omega)]
  have:(B++ [b]).drop (8*(B.length/8))=[b]:=by
   rw[show 8*(B.length/8)=B.length from by omega];simp
  rw[this];simp[rA,cK]
 ·rw[q1y (by rw[bp];simp;omega),q1y (by simp;omega)]
theorem O5{B:List Nat}{b:Nat}(h:B.length%8≠0):pack (B++ [b])=(pack B).set (B.length/8) (lJ (B.drop (8*(B.length/8)))+b*2^(7-B.length%8)):=by
 apply List.ext_getElem?;intro i;have f:(pack B).length=B.length/8+1:=by rw[bp];omega
 rcases Nat.lt_trichotomy i (B.length/8)with c|c|c
 ·rw[List.getElem?_set_ne (by omega),lK _ _ (by simp;omega),lK _ _ (by omega)];rw[q2y (by omega),List.take_append_of_le_length (by rw[q0g];omega)]
 ·subst c;rw[List.getElem?_set_self (by omega),lK _ _ (by simp;omega)];have a:(B.drop (8*(B.length/8))).length=B.length%8:=by rw[q0g];omega
  rw[q2y (by omega),q1g (by rw[Z6,a];simp;omega)];generalize B.drop (8*(B.length/8))=C at a;have d:=q4c B.length (show 8>0 by decide);generalize B.length%8=r at a h d;rw[rA,rA,wb,Z6,a];have e:r<8∨8<=r:=by omega
  show some ((2*cK 0 C+b)*2^(8-(r+1)))=_;congr 1;rcases e with e|e
  ·rw[show 8-(r+1)=7-r from by omega,show 8-r=7-r+1 from by omega,q3n,q2a,q2p 2 (cK 0 C),Nat.mul_assoc,q2p 2]
  ·exfalso;omega
 ·rw[q1y (by rw[bp];simp;omega),q1y (by simp;omega)]
theorem mw(op:BinOp)(k:IntKind)(x y:Int)(h:op= .and∨op= .or∨op= .xor):bZ op k x y=bits op k x y:=by
 rcases h with rfl|rfl|rfl<;>rfl
theorem wrap_u64(n:Int):IntKind.u64.wrap n=n%18446744073709551616:=by simp[IntKind.wrap,IntKind.bits,IntKind.signed]
def Ab(n:Int):Nat:=if 0<=n then(2*n).toNat else(-2*n-1).toNat
def oG(u:Nat):Int:=if u%2=0 then((u/2:Nat):Int)else-((u/2:Nat):Int)-1
theorem L3{n:Int}(h:aN n):Ab n<18446744073709551616:=by
 unfold Ab;have:=h.1;have:=h.2;split<;>omega
theorem Gv(n:Int):oG (Ab n)=n:=by
 unfold oG Ab;split
 ·rename_i h;rw[if_pos (by omega)];omega
 ·rename_i h;rw[if_neg (by omega)];omega
theorem L4(a:Nat)(h:a<18446744073709551616):a^^^18446744073709551615=18446744073709551615-a:=by
 have e:(BitVec.ofNat 64 a^^^BitVec.allOnes 64).toNat=18446744073709551615-a:=by
  rw[BitVec.xor_allOnes,BitVec.toNat_not,BitVec.toNat_ofNat,q1i h]
 rw[<-e,BitVec.toNat_xor,BitVec.toNat_ofNat,q1i h];rfl
theorem SB{n:Int}(h:aN n):n.fdiv 9223372036854775808=if 0<=n then 0 else-1:=by
 have:=h.1;have:=h.2;rw[Int.fdiv_eq_ediv_of_nonneg _ (by decide)];split<;>omega
theorem SC{n:Int}(h:aN n):bZ .xor .u64 (IntKind.u64.wrap (IntKind.u64.wrap n*2)) (IntKind.u64.wrap (n.fdiv 9223372036854775808))=((Ab n:Nat):Int):=by
 have d:=h.1;have e:=h.2;rw[mw _ _ _ _ (.inr (.inr rfl)),SB h];unfold Ab;by_cases a:0<=n
 ·rw[if_pos a,if_pos a];have b:IntKind.u64.wrap (IntKind.u64.wrap n*2)=(((2*n).toNat:Nat):Int):=by rw[wrap_u64,wrap_u64];omega
  have c:IntKind.u64.wrap 0=((0:Nat):Int):=by rw[wrap_u64];rfl
  rw[b,c,u64_xor_nat _ _ (by omega) (by omega),Nat.xor_zero]
 ·rw[if_neg a,if_neg a];have b:IntKind.u64.wrap (IntKind.u64.wrap n*2)=(((2*n+18446744073709551616).toNat:Nat):Int):=by rw[wrap_u64,wrap_u64];omega
  have c:IntKind.u64.wrap (-1)=((18446744073709551615:Nat):Int):=by rw[wrap_u64];rfl
  rw[b,c,u64_xor_nat _ _ (by omega) (by omega),L4 _ (by omega)];omega
theorem Ac{a:Int}(b:0<=a)(f:a<=9223372036854775807):bZ .xor .i64 a (-1)= -a-1:=by
 have e:bZ .xor .i64 a (-1)=IntKind.i64.wrap (((BitVec.ofInt 64 a^^^BitVec.ofInt 64 (-1)).toNat:Nat):Int):=rfl
 obtain⟨m,rfl⟩:=Int.eq_ofNat_of_zero_le b
 have c:(BitVec.ofInt 64 (m:Int)^^^BitVec.ofInt 64 (-1)).toNat=18446744073709551615-m:=by
  have d:BitVec.ofInt 64 (-1)=BitVec.allOnes 64:=by decide
  rw[d,BitVec.xor_allOnes,BitVec.toNat_not,BitVec.ofInt_natCast,BitVec.toNat_ofNat,q1i (by omega)]
 rw[e,c,IntKind.wrap_i64];omega
theorem Ad{a:Int}(b:0<=a)(f:a<=9223372036854775807):bZ .xor .i64 a 0=a:=by
 have e:bZ .xor .i64 a 0=IntKind.i64.wrap (((BitVec.ofInt 64 a^^^BitVec.ofInt 64 0).toNat:Nat):Int):=rfl
 obtain⟨m,rfl⟩:=Int.eq_ofNat_of_zero_le b
 have c:(BitVec.ofInt 64 (m:Int)^^^BitVec.ofInt 64 0).toNat=m:=by
  have d:BitVec.ofInt 64 0=0#64:=by decide
  rw[d,BitVec.xor_zero,BitVec.ofInt_natCast,BitVec.toNat_ofNat,q1i (by omega)]
 rw[e,c,IntKind.wrap_i64];omega
theorem Cz(a b:Nat):(a:Int).fdiv (b:Int)=((a/b:Nat):Int):=by
 rw[Int.fdiv_eq_ediv_of_nonneg _ (Int.natCast_nonneg _)];exact(Int.natCast_ediv a b).symm
theorem Xr{u:Nat}(h:u<18446744073709551616):bZ .and .u64 (u:Int) 1=((u%2:Nat):Int):=by
 rw[mw _ _ _ _ (.inl rfl),show(1:Int)=((1:Nat):Int) from rfl,u64_and_nat _ _ h (by decide),nat_mask1]
theorem SD{u:Nat}(h:u<18446744073709551616):bZ .xor .i64 (IntKind.i64.wrap ((u:Int).fdiv 2)) (IntKind.i64.wrap (0-IntKind.i64.wrap (bZ .and .u64 (u:Int) 1)))=oG u:=by
 rw[show(2:Int)=((2:Nat):Int) from rfl,Cz,Xr h];have b:IntKind.i64.wrap ((u/2:Nat):Int)=((u/2:Nat):Int):=by rw[IntKind.wrap_i64];omega
 rw[b];unfold oG;by_cases q:u%2=0
 ·rw[if_pos q,q];have a:IntKind.i64.wrap (0-IntKind.i64.wrap ((0:Nat):Int))=0:=by rw[IntKind.wrap_i64,IntKind.wrap_i64];rfl
  rw[a,Ad (by omega) (by omega)]
 ·have c:u%2=1:=by omega
  rw[if_neg q,c];have a:IntKind.i64.wrap (0-IntKind.i64.wrap ((1:Nat):Int))= -1:=by rw[IntKind.wrap_i64,IntKind.wrap_i64];rfl
  rw[a,Ac (by omega) (by omega)]
def bd(u:Nat):List Nat:=if u=0 then [0]else if u<128 then [1,0]++bitsOf u 7 else if u<4096 then [1,1,0]++bitsOf u 12 else if u<16777216 then [1,1,1,0]++bitsOf u 24 else [1,1,1,1]++bitsOf u 64
theorem dY.lit{l:List Nat}(h:l.all (λb=>decide (b<2))=true):dY l:=λb a=>by
 have:=Y4.1 h b a;exact of_decide_eq_true this
theorem qt(u:Nat):dY (bd u):=by
 unfold bd
 repeat' split
 ·exact .lit rfl
 all_goals exact(dY.lit rfl).app (dF _ _)
theorem gF(u:Nat):(bd u).length<=68/\1<=(bd u).length:=by
 unfold bd
 repeat' split
 all_goals simp[aP]
abbrev W64(x:Int):Int:=IntKind.i64.wrap x
theorem wg(x:Int):aN (W64 x):=by
 unfold aN W64;rw[IntKind.wrap_i64];omega
theorem da{x:Int}(h:aN x):W64 x=x:=by
 have:=h.1;have:=h.2;show IntKind.i64.wrap x=x;rw[IntKind.wrap_i64];omega
def ie(x:Int):Nat:=(x%18446744073709551616).toNat
theorem L5(x:Int):IntKind.u64.wrap x=((ie x:Nat):Int):=by rw[wrap_u64];unfold ie;omega
theorem ET(x:Int):ie x<18446744073709551616:=by unfold ie;omega
theorem CA{x:Int}(h:aN x):W64 ((ie x:Nat):Int)=x:=by
 have:=h.1;have:=h.2;show IntKind.i64.wrap _=x;unfold ie;rw[IntKind.wrap_i64];omega
def tAt(X:Smp)(i:Nat):Int:=((X[i]?).getD (0,0)).1
def vAt(X:Smp)(i:Nat):Int:=((X[i]?).getD (0,0)).2
def eg(X:Smp)(i:Nat):Int:=if i<2 then 0 else W64 (tAt X (i-1)-tAt X (i-2))
def dT(X:Smp)(i:Nat):Nat:=Ab (W64 (W64 (tAt X i-tAt X (i-1))-eg X i))
def dV(X:Smp)(i:Nat):Nat:=Ab (W64 (vAt X i-vAt X (i-1)))
def ck(X:Smp)(i:Nat):List Nat:=if i=0 then bitsOf (ie (tAt X 0)) 64++bitsOf (ie (vAt X 0)) 64 else bd (dT X i)++bd (dV X i)
def aE(X:Smp):Nat->List Nat
 |0=> []
 |i+1=>aE X i++ck X i
def aX(X:Smp):List Nat:=aE X X.length
theorem EU(X:Smp)(i:Nat):dY (ck X i):=by
 unfold ck;split
 ·exact(dF _ _).app (dF _ _)
 ·exact(qt _).app (qt _)
theorem ig(X:Smp):∀i,dY (aE X i)
 |0=> .nil
 |i+1=>(ig X i).app (EU X i)
theorem yL(X:Smp):dY (aX X):=ig X _
theorem pn(X:Smp):∀i,(aE X i).length<=136*i
 |0=>by simp[aE]
 |i+1=>by
  have a:=pn X i
  have b:(ck X i).length<=136:=by
   unfold ck;split
   ·simp[aP]
   ·rw[Z6];have:=(gF (dT X i)).1;have:=(gF (dV X i)).1;omega
  simp only[aE,Z6];omega
theorem CB(X:Smp):(aX X).length<=136*X.length:=pn X _
theorem sY(X:Smp)(i:Nat):∀k,∃D,aE X (i+k)=aE X i++D
 |0=>⟨[],by simp⟩
 |k+1=>by
  obtain⟨D,h⟩:=sY X i k;exact⟨D++ck X (i+k),by show aE X (i+k)++ck X (i+k)=_;rw[h,q0h]⟩
theorem EV{X:Smp}{i:Nat}(h:i<X.length):∃D,aX X=aE X i++(ck X i++D):=by
 obtain⟨D,a⟩:=sY X (i+1) (X.length-(i+1));refine⟨D,?_⟩;unfold aX;rw[show X.length=i+1+(X.length-(i+1)) from by omega,a];simp[aE]
theorem L6:aX []=[]:=rfl
def aI(s:List Nat)(a m:Nat):List Nat:=(List.range m).map λj=>rz s (a+j)
theorem CC{B A C D:List Nat}(b:dY B)(h:B=A++(C++D)):aI (pack B) A.length C.length=C:=by
 apply List.ext_getElem?;intro j;by_cases a:j<C.length
 ·have c:A.length+j<B.length:=by rw[h];simp;omega
  simp only[aI,q0q,List.getElem?_range a,Y8];rw[ES b c,X4 a];congr 1
  (try simp only[h])
  rw[List.getElem_append_right (by omega),q3m (by omega)];congr 1;omega
 ·rw[q1y (by simp[aI];omega),q1y (by omega)]
theorem CD(s:List Nat)(a j:Nat):aI s a (j+1)=aI s a j++ [rz s (a+j)]:=by
 simp[aI,List.range_succ]
theorem CE(s:List Nat)(a j:Nat):dY (aI s a j):=λb c=>by
 simp only[aI,q0m]at c;obtain⟨_,_,rfl⟩:=c;exact q4c _ (by decide)
theorem l5(s:List Nat)(a j:Nat):(aI s a j).length=j:=by simp[aI]
theorem Jg(a:Nat)(B:List Nat)(b:Nat):cK a (B++ [b])=2*cK a B+b:=by rw[wb];rfl
theorem Vb{u b:Nat}(d:u<9223372036854775808)(e:b<2):bZ .or .u64 (IntKind.u64.wrap ((u:Int)*2)) (IntKind.u64.wrap (b:Int))=((2*u+b:Nat):Int):=by
 have a:IntKind.u64.wrap ((u:Int)*2)=((2*u:Nat):Int):=by rw[wrap_u64];omega
 have c:IntKind.u64.wrap (b:Int)=((b:Nat):Int):=by rw[wrap_u64];omega
 rw[a,c,mw _ _ _ _ (.inr (.inl rfl)),u64_or_nat _ _ (by omega) (by omega),nat_join 1 _ _ (by omega) (by omega)]
theorem SF{c q:Nat}(a:c<256):bZ .and .u8 (((c/q:Nat)):Int) 1=((c/q%2:Nat):Int):=by
 rw[mw _ _ _ _ (.inl rfl),show(1:Int)=((1:Nat):Int) from rfl,u8_and_nat _ _ (Nat.lt_of_le_of_lt (Nat.div_le_self _ _) a) (by decide),nat_mask1]
theorem SG(c:Nat):bZ .and .u8 (IntKind.u8.wrap (c:Int)) 1=((c%2:Nat):Int):=by
 have a:IntKind.u8.wrap (c:Int)=((c%256:Nat):Int):=by rw[IntKind.wrap_u8];omega
 rw[a,mw _ _ _ _ (.inl rfl),show(1:Int)=((1:Nat):Int) from rfl,u8_and_nat _ _ (by omega) (by decide),nat_mask1];congr 1;omega
theorem SH{b r:Nat}(a:b<2)(c:r<8):IntKind.u8.wrap ((b:Int)*(2:Int)^r)=((b*2^r:Nat):Int):=by
 have d:(2:Nat)^r<=2^7:=Nat.pow_le_pow_right (by decide) (by omega);have f:b*2^r<=1*2^r:=q1b _ (by omega)
 have e:((b:Int)*(2:Int)^r)=((b*2^r:Nat):Int):=by
  rw[Int.natCast_mul,Int.natCast_pow];rfl
 rw[e,IntKind.wrap_u8];omega
theorem RH{a b r:Nat}(c:a<256)(d:a%2^(r+1)=0)(e:b<2)(f:r<8):bZ .or .u8 (a:Int) ((b*2^r:Nat):Int)=((a+b*2^r:Nat):Int):=by
 have g:(2:Nat)^r<=2^7:=Nat.pow_le_pow_right (by decide) (by omega);have h:b*2^r<=1*2^r:=q1b _ (by omega);have i:0<2^r:=Nat.two_pow_pos r;rw[mw _ _ _ _ (.inr (.inl rfl)),u8_or_nat _ _ c (by omega),nat_join (r+1) _ _ d (by rw[q3n];omega)]
theorem EW{C:List Nat}(h:C.length<8):lJ C%2^(7-C.length+1)=0:=by
 rw[rA,show 7-C.length+1=8-C.length from by omega];exact Nat.mul_mod_left _ _
def c7(s:List Nat):List AV:=s.map λc=> .si .u8 (Int.ofNat c)
theorem iy(s:List Nat):(c7 s).length=s.length:=by simp[c7]
theorem my(s:List Nat):(c7 s).all flat.flat1=true:=by
 rw[Y4];intro x a;simp only[c7,q0m]at a;obtain⟨c,_,rfl⟩:=a;rfl
theorem gU(s:List Nat):(c7 s).map mk=c7 s:=by simp[c7,mk]
inductive mz(H:AH)(m:Nat)(r:Nat->Nat):List AV->List AV->Prop where
 |nil:mz H m r [] []
 |cons {a a':AV} {l l':List AV} (h:ah H m r a a') (k:mz H m r l l'):mz H m r (a::l) (a'::l')
section
variable {H:AH} {m:Nat} {r:Nat->Nat}
theorem mz.length:∀{l l':List AV},mz H m r l l'->l.length=l'.length
 |_,_,.nil=>rfl
 |_,_,.cons _ k=>congrArg (·+1) k.length
theorem mz.at:∀{l l':List AV},mz H m r l l'->∀(i:Nat) (c:AV),l'[i]?=some c->∃a,l[i]?=some a/\ah H m r a c
 |_,_,.nil,i,c,h=>by simp at h
 |_,_,.cons (a:=a) q k,0,c,h=>by
  simp only[q1m,q1r]at h;subst h;exact⟨a,rfl,q⟩
 |_,_,.cons q k,i+1,c,h=>by
  obtain⟨b,d,e⟩:=k.at i c (by simpa using h);exact⟨b,by simpa using d,e⟩
theorem ao.st{l l':List AV}{z:Bool}(h:mz H m r l l'):ao H m r (.cells l z) (.cells l' z):=
 ao.cells (by rw[h.length];exact Z3 _) (λq=>q) h.at
end
mutual
theorem Jh(r:Nat->Nat):∀a:AV,flat.flat1 a=true->ren r a=a
 | .int _ _,_=>rfl
 | .str _,_=>rfl
 | .bool _,_=>rfl
 | .nil,_=>rfl
 | .nsl,_=>rfl
 | .si _ _,_=>rfl
 | .sb _,_=>rfl
 | .ss _,_=>rfl
 | .any _,_=>rfl
 | .bad,h=>rfl
 | .ptr _ _,h=>by cases h
 | .sl _ _ _ _ _,h=>by cases h
 | .esl _,h=>by cases h
 | .agg _,h=>by cases h
 | .tup _,h=>by cases h
 | .fn _ _ _,h=>by cases h
 | .map _,h=>by cases h
 | .sy _ _ _ _ _,h=>by cases h
 | .rw _ _ _ _ _,h=>by cases h
 | .fr _ _ _,h=>by rfl
 | .fa _ _,h=>by rfl
end
theorem yM(r:Nat->Nat):∀l:List AV,l.all flat.flat1=true->dM r l=l
 | [],_=>rfl
 |a::l,h=>by
  simp only[q1p,Z9]at h;rw[dM,Jh r a h.1,yM r l h.2]
theorem Ji(m:Nat):∀a:AV,flat.flat1 a=true->ltV m a=true
 | .int _ _,_=>rfl
 | .str _,_=>rfl
 | .bool _,_=>rfl
 | .nil,_=>rfl
 | .nsl,_=>rfl
 | .si _ _,_=>rfl
 | .sb _,_=>rfl
 | .ss _,_=>rfl
 | .any _,_=>rfl
 | .bad,h=>rfl
 | .ptr _ _,h=>by cases h
 | .sl _ _ _ _ _,h=>by cases h
 | .esl _,h=>by cases h
 | .agg _,h=>by cases h
 | .tup _,h=>by cases h
 | .fn _ _ _,h=>by cases h
 | .map _,h=>by cases h
 | .sy _ _ _ _ _,h=>by cases h
 | .rw _ _ _ _ _,h=>by cases h
 | .fr _ _ _,h=>by rfl
 | .fa _ _,h=>by rfl
theorem wi(m:Nat):∀l:List AV,l.all flat.flat1=true->jI m l=true
 | [],_=>rfl
 |a::l,h=>by
  simp only[q1p,Z9]at h;rw[jI,Ji m a h.1,wi m l h.2];rfl
theorem VR.Vc{φ:Ph}{a b:AV}{v:Value}(f:Go.Proofs.YtflehenfikoniaaGreat.flat.flat1 b=true)(e:Go.Proofs.YtflehenfikoniaaGreat.mk a=Go.Proofs.YtflehenfikoniaaGreat.mk b)(h:VR φ a v):VR φ b v:=by
 have c:VR φ (Go.Proofs.YtflehenfikoniaaGreat.mk b) v:=e▸h.mk;have d:VR φ b v:=by cases b<;>exact c
 exact d
theorem HR.EX{φ:Ph}{H:AH}{n:Nat}{c h:Hp}(f:HR φ H n c h){b:Nat}{l l':List AV}{z:Bool}(g:H.get b=some (.cells l z))(j:l'.all Go.Proofs.YtflehenfikoniaaGreat.flat.flat1=true)(e:l.map Go.Proofs.YtflehenfikoniaaGreat.mk=l'.map Go.Proofs.YtflehenfikoniaaGreat.mk):HR φ (H.set (some (.cells l' z)) aa b) n c h:=
 f.L1 g (by have:=congrArg List.length e;simp only[Y0]at this;omega) λi k d=>by
  have e:=congrArg (λx:List AV=>x[i]?) e;simp only[q0q,d,Y8]at e;rw[Z7]at e;obtain⟨a,o,p⟩:=e;exact⟨a,o,λv q=>q.Vc (Y4.1 j k (q0c d)) p⟩
def Up(L:Smp):Prop:=L.Pairwise λx y=>x.1<y.1
def plc:Smp->Int->Nat
 | [],_=>0
 |x::L,t=>if x.1<t then plc L t+1 else 0
def has(L:Smp)(t:Int):Bool:=decide (plc L t<L.length/\tAt L (plc L t)=t)
def jJ(L:Smp)(t v:Int):Smp:=L.take (plc L t)++(t,v)::L.drop (plc L t)
def kZ(L:Smp)(t v:Int):Smp:=L.set (plc L t) (t,v)
def bg(p old now:Int):Int×Int:=
 if p=1 then(0,8)else if p=2 then(old,0)else if p=3 then(now,0)else if p=4 then(min old now,0)else if p=5 then(max old now,0)
 else if p=6 then(if(0<=now/\W64 (old+now)<old)∨(now<0/\old<W64 (old+now))then(0,9)else(W64 (old+now),0))else(0,1)
def qu(size:Nat)(L M:Smp):Smp×Int:=if(aX M).length<=8*size then(M,0)else(L,2)
def fg(size:Nat)(L:Smp)(t v p:Int):Smp×Int:=
 if t<0∨1099511627776<=t then(L,1)
 else if has L t then(if(bg p (vAt L (plc L t)) v).2≠0 then(L,(bg p (vAt L (plc L t)) v).2)else qu size L (kZ L t (bg p (vAt L (plc L t)) v).1))
 else qu size L (jJ L t v)
def aJ(L:Smp)(a b:Int):Smp:=L.filter λx=>decide (x.1<a)||decide (b<x.1)
def iD(L:Smp)(t:Int):Int×Int:=if has L t then(vAt L (plc L t),0)else(0,5)
theorem qw:∀(L:Smp) (t:Int),plc L t<=L.length
 | [],_=>Z3 _
 |x::L,t=>by
  unfold plc;split
  ·have:=qw L t;simp only[Z8];omega
  ·exact X5 _
theorem Ae:∀{L:Smp} {t:Int} {j:Nat} (h:j<plc L t),tAt L j<t
 | [],t,j,h=>by simp[plc]at h
 |x::L,t,j,h=>by
  unfold plc at h;split at h
  ·rename_i a;cases j with
   |zero=>exact a
   |succ j=>
    have:=Ae (L:=L) (t:=t) (j:=j) (by omega);simpa[tAt]using this
  ·omega
theorem Af:∀{L:Smp} {t:Int} (_:plc L t<L.length),t<=tAt L (plc L t)
 | [],t,h=>by simp at h
 |x::L,t,h=>by
  unfold plc at h⊢;split
  ·rename_i a;rw[if_pos a]at h;have:=Af (L:=L) (t:=t) (by simpa using h);simpa[tAt]using this
  ·rename_i a;show t<=x.1;omega
theorem eo{L:Smp}{i:Nat}(h:i<L.length):tAt L i=L[i].1:=by simp[tAt,h]
theorem oH{L:Smp}{i:Nat}(h:i<L.length):vAt L i=L[i].2:=by simp[vAt,h]
theorem Up.lt{L:Smp}(h:Up L){i j:Nat}(hi:i<j)(a:j<L.length):tAt L i<tAt L j:=by
 rw[eo a,eo (by omega)];exact q3i.1 h i j (by omega) a hi
theorem Up.of{L:Smp}(h:∀i,i+1<L.length->tAt L i<tAt L (i+1)):Up L:=by
 refine q3i.2 λi j c a b=>?_
 obtain⟨k,rfl⟩:∃k,j=i+1+k:=⟨j-(i+1),by omega⟩;clear b;rw[<-eo c,<-eo a]
 induction k with
 |zero=>exact h i a
 |succ k d=>exact Int.lt_trans (d (by omega)) (h (i+1+k) a)
theorem O6{L:Smp}(h:Up L)(t:Int):has L t=true<->∃x∈L,x.1=t:=by
 unfold has;rw[decide_eq_true_eq];constructor
 ·intro⟨c,b⟩;exact⟨L[plc L t],q0b c,by rw[<-eo c];exact b⟩
 ·intro⟨x,e,a⟩;obtain⟨i,d,rfl⟩:=q1k.1 e;rw[<-eo d]at a;have c:¬i<plc L t:=λq=>by have:=Ae q;omega
  have b:plc L t<L.length:=by omega
  refine⟨b,?_⟩;have f:=Af b;rcases q3d (plc L t) i with q|q
  ·have:=h.lt q d;omega
  ·have:i=plc L t:=by omega
   rw[this]at a;exact a
theorem Ag{L:Smp}{t:Int}(h:has L t=true):(t,vAt L (plc L t))∈L:=by
 unfold has at h;rw[decide_eq_true_eq]at h;have:=q0b h.1
 have e:L[plc L t]=(t,vAt L (plc L t)):=by
  rw[oH h.1];refine Prod.ext ?_ rfl
  rw[<-eo h.1];exact h.2
 rw[<-e];exact this
theorem k7(L:Smp)(t v:Int):(jJ L t v).length=L.length+1:=by
 have:=qw L t;simp[jJ];omega
theorem rB(L:Smp)(t v:Int):(kZ L t v).length=L.length:=by simp[kZ]
theorem oI{L:Smp}{t v:Int}{x:Int×Int}:x∈jJ L t v<->x=(t,v)∨x∈L:=by
 unfold jJ;rw[q0x,Z4];have:=q1c (plc L t) L;constructor
 ·rintro(h|h|h)
  ·exact .inr (q2z h)
  ·exact .inl h
  ·exact .inr (List.mem_of_mem_drop h)
 ·rintro(h|h)
  ·exact .inr (.inl h)
  ·rw[<-this,q0x]at h;rcases h with h|h
   ·exact .inl h
   ·exact .inr (.inr h)
theorem Gw{L:Smp}(h:Up L){t:Int}(hn:has L t=false)(v:Int):Up (jJ L t v):=by
 have hle:=qw L t;refine .of λi c=>?_
 rw[k7]at c
 have key:∀j,j<L.length+1->tAt (jJ L t v) j=if j<plc L t then tAt L j else if j=plc L t then t else tAt L (j-1):=λj l=>by
  unfold tAt jJ;have g:(L.take (plc L t)).length=plc L t:=by simp;omega
  split
  ·rename_i q;rw[q0z (by omega),List.getElem?_take,if_pos q]
  ·rename_i q;rw[q0r (by omega),g];split
   ·rename_i d;subst d;simp
   ·rename_i d;obtain⟨m,rfl⟩:∃m,j=plc L t+1+m:=⟨j-(plc L t+1),by omega⟩;rw[show plc L t+1+m-plc L t=m+1 from by omega,q1d,q2l,show plc L t+1+m-1=plc L t+m from by omega]
 rw[key i (by omega),key (i+1) c]
 have k:plc L t<L.length->t<tAt L (plc L t):=λq=>by
  have a:=Af q
  have b:tAt L (plc L t)≠t:=λe=>by
   unfold has at hn;rw[decide_eq_false_iff_not]at hn;exact hn ⟨q,e⟩
  omega
 by_cases a:i+1<plc L t
 ·rw[if_pos (by omega),if_pos a];exact h.lt (q1f i) (by omega)
 ·rw[if_neg a];by_cases b:i+1=plc L t
  ·rw[if_pos b,if_pos (by omega)];exact Ae (by omega)
  ·rw[if_neg b];by_cases f:i=plc L t
   ·rw[if_neg (by omega),if_pos f,show i+1-1=plc L t from by omega];exact k (by omega)
   ·rw[if_neg (by omega),if_neg f];exact h.lt (by omega) (by omega)
theorem rC{L:Smp}(h:Up L){t v:Int}(g:has L t=true){x:Int×Int}:x∈kZ L t v<->x=(t,v)∨(x∈L/\x.1≠t):=by
 have a:=g;unfold has at a;rw[decide_eq_true_eq]at a;obtain⟨f,j⟩:=a;unfold kZ;constructor
 ·intro c;obtain⟨i,b,e⟩:=q1k.1 c;rw[List.length_set]at b;rw[List.getElem_set]at e;split at e
  ·exact .inl e.symm
  ·rename_i q;refine .inr ⟨by rw[<-e];exact q0b b,λk=>?_⟩;rw[<-e,<-eo b]at k;rcases Nat.lt_or_gt_of_ne q with q|q
   ·have:=h.lt q b;omega
   ·have:=h.lt q f;omega
 ·rintro(rfl|⟨c,d⟩)
  ·exact q1k.2 ⟨plc L t,by simpa using f,by simp⟩
  ·obtain⟨i,b,e⟩:=q1k.1 c;have:plc L t≠i:=λq=>d (by subst q;rw[<-e,<-eo b];exact j)
   exact q1k.2 ⟨i,by simpa using b,by rw[List.getElem_set_ne this];exact e⟩
theorem Gx{L:Smp}(h:Up L){t v:Int}(c:has L t=true):Up (kZ L t v):=by
 have a:=c;unfold has at a;rw[decide_eq_true_eq]at a
 have key:∀j,tAt (kZ L t v) j=tAt L j:=λj=>by
  unfold kZ tAt;rw[List.getElem?_set];split
  ·rename_i q;subst q;rw[if_pos a.1];have:=a.2;unfold tAt at this;rw[this];rfl
  ·rfl
 refine .of λi b=>?_
 rw[rB]at b;rw[key,key];exact h.lt (q1f i) b
def ct(L:Smp):Prop:=Up L/\(∀x∈L,(0<=x.1/\x.1<1099511627776)/\aN x.2)/\L.length<=20000
theorem ct.nil:ct []:=⟨List.Pairwise.nil,(λx h=>by cases h),X5 _⟩
theorem ct.jK{L:Smp}(h:ct L):∀x∈L,aN x.1/\aN x.2:=λx a=>by
 obtain⟨⟨c,d⟩,b⟩:=h.2.1 x a;exact⟨⟨by omega,by omega⟩,b⟩
theorem ct.sub{L M:Smp}(h:ct L)(a:M.Sublist L):ct M:=⟨h.1.sublist a,λx b=>h.2.1 x (a.subset b),X9 a.length_le h.2.2⟩
theorem CF(X:Smp):∀i,2*i<=(aE X i).length
 |0=>X5 _
 |i+1=>by
  have a:=CF X i
  have b:2<=(ck X i).length:=by
   unfold ck;split
   ·simp[aP]
   ·rw[Z6];have:=(gF (dT X i)).2;have:=(gF (dV X i)).2;omega
  simp only[aE,Z6];omega
theorem Gy(X:Smp):2*X.length<=(aX X).length:=CF X _
theorem O7{a b:Int}(h:aN a)(k:aN b):aN (min a b):=by
 rcases Int.le_total a b with q|q
 ·rw[Int.min_eq_left q];exact h
 ·rw[Int.min_eq_right q];exact k
theorem O8{a b:Int}(h:aN a)(k:aN b):aN (max a b):=by
 rcases Int.le_total a b with q|q
 ·rw[Int.max_eq_right q];exact k
 ·rw[Int.max_eq_left q];exact h
theorem yN{p a b:Int}(h:aN a)(k:aN b):aN (bg p a b).1:=by
 have z:aN 0:=⟨by omega,by omega⟩;unfold bg;split;exact z;split;exact h;split;exact k;split;exact O7 h k;split;exact O8 h k;split
 ·split
  ·exact z
  ·exact wg _
 ·exact z
theorem yO{size:Nat}(c:size<=4096){L M:Smp}(h:ct L)(a:Up M)(b:∀x∈M,(0<=x.1/\x.1<1099511627776)/\aN x.2):ct (qu size L M).1:=by
 unfold qu;split
 ·rename_i q;have:=Gy M;exact⟨a,b,by show M.length<=20000;omega⟩
 ·exact h
theorem Jj{size:Nat}(d:size<=4096){L:Smp}(h:ct L){t v p:Int}(e:aN v):ct (fg size L t v p).1:=by
 unfold fg;split
 ·exact h
 ·rename_i c;have c:0<=t/\t<1099511627776:=by omega
  split
  ·rename_i a;have ho:aN (vAt L (plc L t)):=(h.2.1 _ (Ag a)).2;split
   ·exact h
   ·refine yO d h (Gx h.1 a) λx b=>?_
    rcases(rC h.1 a).1 b with rfl|⟨b,_⟩
    ·exact⟨c,yN ho e⟩
    ·exact h.2.1 x b
  ·rename_i a;have a:has L t=false:=by simpa using a
   refine yO d h (Gw h.1 a v) λx b=>?_
   rcases oI.1 b with rfl|b
   ·exact⟨c,e⟩
   ·exact h.2.1 x b
theorem wj{L:Smp}(h:ct L)(a b:Int):ct (aJ L a b):=h.sub List.filter_sublist
theorem po{L:Smp}(h:L.length<=7):(aX L).length<=944:=by
 have key:∀i,(aE L (i+1)).length<=128+136*i:=λi=>by
  induction i with
  |zero=>simp[aE,ck,aP]
  |succ i a=>
   show(aE L (i+1)++ck L (i+1)).length<=_;rw[Z6]
   have b:(ck L (i+1)).length<=136:=by
    unfold ck;rw[if_neg (by omega),Z6];have:=(gF (dT L (i+1))).1;have:=(gF (dV L (i+1))).1;omega
   omega
 unfold aX;cases c:L.length with
 |zero=>simp[aE]
 |succ k=>have:=key k;omega
def rD(L:Smp):Int:=tAt L (L.length-1)
def pZ(L M:Smp):Bool:=decide (L≠[])&&decide (M≠[])&&decide (tAt M 0<=rD L)
def bP(size:Nat)(L M:Smp):(Smp×Smp)×Int:=if pZ L M then((L,M),1)else if(aX (L++M)).length<=8*size then((L++M,[]),0)else((L,M),2)
theorem Jk{size:Nat}(o:size<=4096){L M:Smp}(h:ct L)(k:ct M):ct (bP size L M).1.1/\ct (bP size L M).1.2:=by
 unfold bP;split
 ·exact⟨h,k⟩
 ·rename_i g;split
  ·rename_i p;refine⟨⟨.of λi d=>?_,λx a=>?_,?_⟩,.nil⟩
   ·rw[Z6]at d;have b:∀j,j<L.length->tAt (L++M) j=tAt L j:=λj c=>by simp[tAt,q0z c]
    have e:∀j,L.length<=j->tAt (L++M) j=tAt M (j-L.length):=λj c=>by simp[tAt,q0r c]
    by_cases f:i+1<L.length
    ·rw[b i (by omega),b _ f];exact h.1.lt (q1f i) f
    ·rw[e (i+1) (by omega)];by_cases l:i+1=L.length
     ·rw[b i (by omega),show i+1-L.length=0 from by omega];have m:L≠[]:=λq=>by subst q;simp at l
      have n:M≠[]:=λq=>by subst q;simp at d;omega
      have:¬tAt M 0<=rD L:=λq=>g (by simp[pZ,m,n,q])
      unfold rD at this;rw[show L.length-1=i from by omega]at this;omega
     ·rw[e i (by omega),show i+1-L.length=i-L.length+1 from by omega];exact k.1.lt (q1f _) (by omega)
   ·rcases q0x.1 a with a|a
    ·exact h.2.1 x a
    ·exact k.2.1 x a
   ·have:=Gy (L++M);show(L++M).length<=20000;omega
  ·exact⟨h,k⟩
def eu(H:AH)(n:Nat)(H':AH)(c:Nat):Prop:=∀(a:Ph) (b h:Hp),HR a H n b h->HR a H' c b h
def VTo(u v:AV):Prop:=∀(a:Ph) (w:Value),VR a u w->VR a v w
theorem eu.refl(H:AH)(n:Nat):eu H n H n:=λ_ _ _ h=>h
theorem eu.trans{a b c:AH}{d e f:Nat}(h:eu a d b e)(k:eu b e c f):eu a d c f:=λg i j q=>k g i j (h g i j q)
theorem eu.EX{H:AH}{n b:Nat}{l l':List AV}{z:Bool}(a:H.get b=some (.cells l z))(c:l'.all flat.flat1=true)(e:l.map Go.Proofs.YtflehenfikoniaaGreat.mk=l'.map Go.Proofs.YtflehenfikoniaaGreat.mk):eu H n (H.set (some (.cells l' z)) aa b) n:=λ_ _ _ d=>d.EX a c e
theorem VTo.refl(u:AV):VTo u u:=λ_ _ h=>h
def post(g:List AV->AH->Nat->PK->Prop)(args:List AV)(H:AH)(n:Nat)(κ:PK):Prop:=g args H n λu c d=>∃v a b,VTo u v/\eu c d a b/\κ v a b
theorem ai.post{f:FuncId}{g:List AV->AH->Nat->PK->Prop}(c:ai f g):ai f (post g):=λargs H n z d e i h j K k l m=>c args H n _ d e i h j K k l λo u A B w p a b q ⟨v,r,s,t,x,y⟩=>m o v r s w p a (x _ _ _ b) (t _ _ q) y
theorem O9{s:List Nat}{i:Nat}(h:i<s.length):(c7 s)[i]?=some (.si .u8 (Int.ofNat s[i])):=by
 unfold c7;rw[q0q,X4 h];rfl
theorem wm:∀(l:List AV) (o:Nat) (x:AV),o<l.length->ft l o [x]=some (l.set o x)
 | [],o,x,h=>by simp at h
 |y::l,0,x,_=>by cases l<;>simp[ft]
 |y::l,o+1,x,h=>by simp[ft,wm l o x (by simpa using h)]
theorem L7(s:List Nat)(o:Nat)(c:Nat):(c7 s).set o (.si .u8 (Int.ofNat c))=c7 (s.set o c):=by simp[c7,List.map_set]
theorem L8(s t:List Nat):c7 (s++t)=c7 s++c7 t:=by simp[c7]
theorem CG{s:List Nat}(h:∀x∈s,x<256):kU (c7 s)=some s:=vQ h
def shN(N:Nat):Nat:=7-N%8
theorem Gz(N:Nat):IntKind.i64.wrap (7-((N:Nat):Int).tmod 8)=((shN N:Nat):Int):=by
 have h:((N:Nat):Int).tmod 8=((N%8:Nat):Int):=by
  rw[Int.tmod_eq_emod_of_nonneg (Int.natCast_nonneg _)];rfl
 rw[h];have:=q4c N (show 8>0 by decide);unfold shN;rw[IntKind.wrap_i64];omega
theorem L9(N:Nat):min (IntKind.i64.wrap (7-((N:Nat):Int).tmod 8)).toNat 8=shN N:=by
 rw[Gz];unfold shN;simp;omega
theorem div_eq(N:Nat)(h:N<=9223372036854775807):IntKind.i64.wrap (((N:Nat):Int).tdiv 8)=((N/8:Nat):Int):=by
 have e:((N:Nat):Int).tdiv 8=((N/8:Nat):Int):=by
  rw[Int.tdiv_eq_ediv_of_nonneg (Int.natCast_nonneg _)];rfl
 rw[e,IntKind.wrap_i64];omega
theorem GA(N:Nat):(((N:Nat):Int).tmod 8=0)<->N%8=0:=by
 have h:((N:Nat):Int).tmod 8=((N%8:Nat):Int):=by
  rw[Int.tmod_eq_emod_of_nonneg (Int.natCast_nonneg _)];rfl
 rw[h];omega
theorem fdiv_pow(U m:Nat):((U:Nat):Int).fdiv ((2:Int)^m)=((U/2^m:Nat):Int):=by
 have:((2:Int)^m)=((2^m:Nat):Int):=by rw[Int.natCast_pow];rfl
 rw[this,Cz]
theorem Ma{U m:Nat}{i:Int}(hi:i=(m:Int))(a:m<64):bZ .and .u8 (IntKind.u8.wrap (((U:Nat):Int).fdiv ((2:Int)^min i.toNat 64))) 1=((U/2^m%2:Nat):Int):=by
 subst hi;rw[show min (Int.toNat (m:Int)) 64=m from by simp;omega,fdiv_pow,SG]
theorem wrU(x:Int)(b:Nat)(a:b<2)(c:x=(b:Int))(N:Nat):IntKind.u8.wrap (x*(2:Int)^min (IntKind.i64.wrap (7-((N:Nat):Int).tmod 8)).toNat 8)=((b*2^shN N:Nat):Int):=by
 subst c;rw[L9];exact SH a (by unfold shN;omega)
theorem GB{B:List Nat}{x:Int}{b:Nat}(c:b<2)(f:x=(b:Int))(g:B.length%8=0){o:Nat}(ho:o=B.length/8):
 ft (c7 (pack B)++ [.int .u8 0]) o [.si .u8 (bZ .or .u8 0 (IntKind.u8.wrap (x*(2:Int)^min (IntKind.i64.wrap (7-((B.length:Nat):Int).tmod 8)).toNat 8)))]=some (c7 (pack (B++ [b]))):=by
 have d:(c7 (pack B)).length=B.length/8:=by rw[iy,bp];omega
 have h:shN B.length=7:=by unfold shN;omega
 rw[wm _ _ _ (by simp[d,ho]),wrU x b c f,h,we g,L8]
 have e:bZ .or .u8 0 ((b*2^7:Nat):Int)=Int.ofNat (b*2^7):=by
  have:=RH (a:=0) (b:=b) (r:=7) (by decide) (by decide) c (by decide);rw[q0s]at this;exact this
 rw[e,q3y _ _ (by omega),d,ho,Nat.sub_self];rfl
theorem Mb{B:List Nat}(b:B.length%8=0){o:Nat}(ho:o=B.length/8):nth (c7 (pack B)++ [.int .u8 0]) o=some (.int .u8 0):=by
 have a:(c7 (pack B)).length=B.length/8:=by rw[iy,bp];omega
 rw[eR,q0r (by omega),a,ho,Nat.sub_self];rfl
theorem Mc{B:List Nat}(c:B.length%8≠0){o:Nat}(ho:o=B.length/8):nth (c7 (pack B)) o=some (.si .u8 (Int.ofNat (lJ (B.drop (8*(B.length/8)))))):=by
 have a:=lK B (B.length/8) (by omega);have b:B.length/8<(pack B).length:=by rw[bp];omega
 rw[eR,ho,O9 b];rw[X4 b]at a;injection a with a;rw[a,q1g (by rw[q0g];omega)]
theorem GC{B:List Nat}{x:Int}{b:Nat}(h:dY B)(g:b<2)(i:x=(b:Int))(j:B.length%8≠0){o:Nat}(ho:o=B.length/8):
 ft (c7 (pack B)) o [.si .u8 (bZ .or .u8 (Int.ofNat (lJ (B.drop (8*(B.length/8))))) (IntKind.u8.wrap (x*(2:Int)^min (IntKind.i64.wrap (7-((B.length:Nat):Int).tmod 8)).toNat 8)))]=some (c7 (pack (B++ [b]))):=by
 have l:B.length/8<(c7 (pack B)).length:=by rw[iy,bp];omega
 have hd:(B.drop (8*(B.length/8))).length=B.length%8:=by rw[q0g];omega
 have d:(B.drop (8*(B.length/8))).length<8:=by rw[hd];exact q4c _ (by decide)
 have f:=Cx (C:=B.drop (8*(B.length/8))) (λc f=>h c (List.mem_of_mem_drop f)) (by omega);have hr:=EW d;have k:shN B.length=7-(B.drop (8*(B.length/8))).length:=by rw[hd];rfl
 rw[wm _ _ _ (by omega),wrU x b g i,O5 j,k,<-L7,ho];have e:=RH (a:=lJ (B.drop (8*(B.length/8)))) (b:=b) (r:=7-(B.drop (8*(B.length/8))).length) f hr g (by omega);rw[show(Int.ofNat (lJ (B.drop (8*(B.length/8)))))=((lJ (B.drop (8*(B.length/8))):Nat):Int) from rfl,e,hd];rfl
theorem SI{s:List Nat}(e:∀x∈s,x<256){a c:Nat}(b:nth s (a/8)=some c):bZ .and .u8 ((Int.ofNat c).fdiv ((2:Int)^min (IntKind.i64.wrap (7-((a:Nat):Int).tmod 8)).toNat 8)) 1=((rz s a:Nat):Int):=by
 rw[eR]at b;have d:c<256:=e c (q0c b);rw[L9,show(Int.ofNat c)=((c:Nat):Int) from rfl,fdiv_pow,SF d];unfold rz shN;rw[b];rfl
theorem Pb{s:List Nat}(b:∀x∈s,x<256){a c u:Nat}(d:nth s (a/8)=some c)(e:u<9223372036854775808):
 bZ .or .u64 (IntKind.u64.wrap (((u:Nat):Int)*2)) (IntKind.u64.wrap (bZ .and .u8 ((Int.ofNat c).fdiv ((2:Int)^min (IntKind.i64.wrap (7-((a:Nat):Int).tmod 8)).toNat 8)) 1))=((2*u+rz s a:Nat):Int):=by
 rw[SI b d];exact Vb e (q4c _ (by decide))
theorem wo(s:List Nat)(a i j:Nat):aI s a (i+j)=aI s a i++aI s (a+i) j:=by
 unfold aI;rw[List.range_add,q0k,q4i];congr 1;exact q2s λk _=>by simp[q1l]
theorem Jl(s:List Nat)(a:Nat){j:Nat}(h:j<=63):cK 0 (aI s a j)<9223372036854775808:=by
 have:=uG _ (CE s a j);rw[l5]at this;have b:2^j<=2^63:=Nat.pow_le_pow_right (by decide) h;omega
theorem Md(x:Int):W64 x=(x+9223372036854775808)%18446744073709551616-9223372036854775808:=by
 show IntKind.i64.wrap x=_;rw[IntKind.wrap_i64]
theorem CH(a d:Int):W64 (a+W64 (W64 d-a))=W64 d:=by
 (try simp only[Md]);omega
theorem CI{a b:Int}(h:aN b):W64 (a+W64 (b-a))=b:=by
 have:=h.1;have:=h.2
 (try simp only[Md]);omega
theorem CJ(X:Smp){i:Nat}(h:i≠0):W64 (eg X i+oG (dT X i))=eg X (i+1):=by
 unfold dT;rw[Gv,CH];unfold eg;rw[if_neg (by omega)];congr 2
theorem Vd{X:Smp}{i:Nat}(h:i≠0)(a:aN (tAt X i)):W64 (tAt X (i-1)+eg X (i+1))=tAt X i:=by
 unfold eg;rw[if_neg (by omega),show i+1-1=i from rfl,show i+1-2=i-1 from by omega];exact CI a
theorem Ve{X:Smp}{i:Nat}(a:aN (vAt X i)):W64 (vAt X (i-1)+oG (dV X i))=vAt X i:=by
 unfold dV;rw[Gv];exact CI a
theorem RI(X:Smp)(i:Nat):dT X i<18446744073709551616:=L3 (wg _)
theorem RJ(X:Smp)(i:Nat):dV X i<18446744073709551616:=L3 (wg _)
theorem Me{X:Smp}(h:∀x∈X,aN x.1/\aN x.2)(i:Nat):aN (tAt X i)/\aN (vAt X i):=by
 unfold tAt vAt;cases e:X[i]? with
 |none=>exact⟨⟨by decide,by decide⟩,⟨by decide,by decide⟩⟩
 |some x=>exact h x (q0c e)
theorem ah.fnp{H:AH}{m:Nat}{r:Nat->Nat}{a:AV}{f b o:Nat}(c:b<m)(e:a= .fn f [.ptr (r b) o] []):ah H m r a (.fn f [.ptr b o] []):=λs t v d _ g=>by
 subst e;obtain⟨xs,cs,rfl,h,i⟩:=g.m6;obtain⟨x,l,j,k,n⟩:=h.cons_inv;obtain⟨p,q,rfl⟩:=k.cD;refine .fn ?_ (by rw[i.aQ];exact .nil);rw[j,n.aQ];exact .cons (.ptr (by rw[d.1 b c];exact q)) .nil
def nw(c:Nat)(B:List Nat):List AV:=[.rw c 0 (pack B).length 1 0,.si .i64 ((B.length:Nat):Int)]
def Vf (H:AH) (n b c:Nat) (B:List Nat):AH:=((H.set (some (.cells (c7 (pack B)) true)) aa n).set none aa c).set (some (.cells (nw n B) true)) aa b
def uH(args:List AV)(H:AH)(n:Nat)(κ:PK):Prop:=match args with
 | [x,u,m]=>∃(b c U k:Nat) (B:List Nat),x= .ptr b 0/\b≠c/\b<n/\c<n/\H.get b=some (.cells (nw c B) true)/\H.get c=some (.cells (c7 (pack B)) true)/\dY B/\mk u= .si .u64 (U:Int)/\mk m= .si .i64 (k:Int)/\k<=64/\U<2^k/\B.length<=100000000/\
  κ (.int .i64 0) (Vf H n b c (B++bitsOf U k)) (n+1)
 |_=>False
theorem tY(U k:Nat):bitsOf U (k+1)=[U/2^k%2]++bitsOf U k:=rfl
def wc (U:Nat) (D:List Nat) (k:Nat):AE×AH:=(mkE [(0,.si .u64 ((U:Nat):Int)),(2,.fn 238 [.ptr 0 0] []),(6,.si .i64 (((k:Nat):Int)-1))],mkH [(0,.cells (nw 2 D) true),(2,.cells (c7 ((pack D))) true)])
theorem sZ{U:Nat}{D:List Nat}{k:Nat}{p n:Nat}{σ:AE}{H:AH}(j2:Nat)(m:j2≠0)(o:p<=2)(d:ah H 3 (λb=>if b=2 then j2 else b) (aj (pa 0) σ) (.si .u64 ((U:Nat):Int)))(e:ah H 3 (λb=>if b=2 then j2 else b) (aj (pa 2) σ) (.fn 238 [.ptr 0 0] []))(f:mk (aj (pa 6) σ)= .si .i64 (((k:Nat):Int)-1))(i:∃l,H.get 0=some (.cells l true)/\mz H 3 (λb=>if b=2 then j2 else b) l (nw 2 D))(j:(∃l,H.get j2=some (.cells l true)/\l.map mk=c7 ((pack D)))∨(((pack D))=[]/\n<=j2)):Cov p σ H n ((wc U D k).1,(wc U D k).2,3):=
 Cov.ofB (λb=>if b=2 then j2 else b) (by omega) (λb r=>by repeat' rw[if_neg (by omega)]) ⟨d,e,.int f,trivial⟩ ⟨.inl (i.elim λl h=>⟨_,h.1,ao.st h.2⟩),j.elim (λ⟨l,h,g⟩=> .inl ⟨_,h,ao.bA (my _) (by rw[g,gU]) (λq=>q)⟩) (λh=> .inr ⟨by rw[h.1];rfl,h.2⟩),trivial⟩ rfl (λx a y c=>by simp only[Z4,Z5,or_false]at a c;rcases a with rfl|rfl<;>rcases c with rfl|rfl<;>simp<;>omega)
def KW:FuncId->EP:=bb 238 [] evP
theorem Vg:aU KW:=au az (by kernel_rfl) (by kernel_rfl)
theorem Mf{U k:Nat}(a:k<=64)(hd:U/2^k=0):¬0<((U:Nat):Int).fdiv ((2:Int)^min (Int.toNat (k:Int)) IntKind.u64.bits):=by
 rw[show min (Int.toNat (k:Int)) IntKind.u64.bits=k from by show min k 64=k;omega,fdiv_pow,hd];decide
theorem tyB:RTy 248 248 1 1:=⟨_,_,_,rfl,rfl,(λq h=>by cases h),rfl,rfl,rfl,rfl,by decide,by decide⟩
theorem Mg(B:List Nat)(U k:Nat)(J:dY B)(K:k<=64)(L:U<2^k)(M:B.length<=100000000):ax KW 5 226 [.ptr 0 0,.si .u64 (U:Int),.si .i64 (k:Int)] (mkH [(0,.cells (nw 1 B) true),(1,.cells (c7 (pack B)) true)]) 2
 λu H' _=>u= .int .i64 0/\H'.get 0=some (.cells (nw 2 (B++bitsOf U k)) true)/\H'.get 2=some (.cells (c7 (pack (B++bitsOf U k))) true):=by
 have y:U/2^k=0:=q2x L;have z:IntKind.i64.wrap ((k:Int)-1)=(k:Int)-1:=da ⟨by omega,by omega⟩
 conv=>whnf
 refine ae.dec (λh=>absurd h (by omega)) (λ_=>?_)
 conv=>whnf
 refine ae.dec (λh=>absurd h (by omega)) (λ_=>?_)
 conv=>whnf
 refine ae.dec (λE=>?_) (λE=>?_)
 ·conv=>whnf
  refine⟨by omega,?_⟩
  conv=>whnf
  refine ae.dec (λh=>absurd h (Mf K y)) (λ_=>?_)
  conv=>whnf
  refine aR.mk {t:List Nat×Nat//t.1++bitsOf U t.2=B++bitsOf U k/\dY t.1/\t.2<=k/\t.1.length+t.2=B.length+k} 3 (λt=>wc U t.val.1 t.val.2) (λt=>t.val.2) ⟨(B,k),rfl,J,Z3 _,rfl⟩ ?_ ?_
  ·exact sZ (j2:=1) (by decide) (Z3 2) (.int rfl) (.fnp (by decide) rfl) (congrArg (AV.si .i64) z) ⟨_,rfl,.cons (ah.rw (by decide) rfl) (.cons (.int rfl) .nil)⟩ (.inl ⟨_,rfl,gU _⟩)
  ·intro⟨(D,m),v,w,F,j⟩;dsimp only at v w F j;have G:D.length<=100000064:=by omega
   have H:(pack D).length<=100000000:=by rw[bp];omega
   cases m with
   |zero=>
    conv=>whnf
    refine ae.dec (λx=>absurd x (by show¬(0:Int)<=((0:Nat):Int)-1;omega)) (λ_=>?_)
    conv=>whnf
    have e:D=B++bitsOf U k:=by simpa[bitsOf]using v
    subst e;exact⟨rfl,rfl,rfl⟩
   |succ m=>
    have g:U/2^m%2<2:=q4c _ (by decide);have l:0<=((m+1:Nat):Int)-1:=by omega
    have C:((m+1:Nat):Int)-1=(m:Int):=by omega
    have d:=Ma (U:=U) C (by omega);have n:IntKind.i64.wrap (((m+1:Nat):Int)-1-1)=((m:Nat):Int)-1:=(congrArg IntKind.i64.wrap (congrArg (·-1) C)).trans (da ⟨by omega,by omega⟩);have o:IntKind.i64.wrap ((D.length:Int)+1)=(((D++ [U/2^m%2]).length:Nat):Int):=by rw[Z6,q2f];exact da ⟨by omega,by omega⟩
    have hq:=div_eq D.length (by omega);have f:0<=IntKind.i64.wrap (7-(D.length:Int).tmod 8):=by rw[Gz];omega
    have p:bk (c7 (pack D)) 0 ((pack D).length*1)=some (c7 (pack D)):=bw (by rw[iy,q0i]);have a:(D++ [U/2^m%2])++bitsOf U m=B++bitsOf U k:=by rw[q0h,<-tY];exact v
    have r:((pack D).length+1)*1<=140737488355328:=by omega
    have s:dY (D++ [U/2^m%2]):=w.app (.one g)
    conv=>whnf
    refine ae.dec (λ_=>?_) (λx=>absurd l x)
    conv=>whnf
    refine⟨l,?_⟩
    conv=>whnf
    refine ae.dec (λc=>?_) (λc=>?_)
    ·have c:=(GA _).1 c;have i:(pack (D++ [U/2^m%2])).length=(pack D).length+1:=by rw[we c];simp
     have ho:0+D.length/8*1=D.length/8:=by omega
     have b:D.length/8<(pack D).length+1:=by rw[bp];omega
     conv=>whnf
     refine bF.grow 1 1 _ _ _ _ _ _ tyB (.old rfl) rfl rfl (.rw rfl p) r ?_
     conv=>whnf
     refine Idx.mk (D.length/8) hq b ?_
     conv=>whnf
     refine aw (Mb c ho) ?_
     conv=>whnf
     refine⟨f,?_⟩
     conv=>whnf
     refine Idx.mk (D.length/8) hq b ?_
     conv=>whnf
     refine aw (GB g d c ho) ?_
     conv=>whnf
     refine⟨⟨(D++ [U/2^m%2],m),a,s,by omega,by simp;omega⟩,q1f m,sZ (j2:=4) (by decide) (Z3 2) (.int rfl) (.fnp (by decide) rfl) (congrArg (AV.si .i64) n) ⟨_,rfl,.cons (ah.rw (by decide) rfl (hn:=i.symm)) (.cons (.int (congrArg (AV.si .i64) o)) .nil)⟩ (.inl ⟨_,rfl,gU _⟩)⟩
    ·have c:D.length%8≠0:=λq=>c ((GA _).2 q)
     have i:(pack (D++ [U/2^m%2])).length=(pack D).length:=by rw[bp,bp];simp;omega
     have ho:0+D.length/8*1=D.length/8:=by omega
     have b:D.length/8<(pack D).length:=by rw[bp];omega
     conv=>whnf
     refine Idx.mk (D.length/8) hq b ?_
     conv=>whnf
     refine aw (Mc c ho) ?_
     conv=>whnf
     refine⟨f,?_⟩
     conv=>whnf
     refine Idx.mk (D.length/8) hq b ?_
     conv=>whnf
     refine aw (GC w g d c ho) ?_
     conv=>whnf
     refine⟨⟨(D++ [U/2^m%2],m),a,s,by omega,by simp;omega⟩,q1f m,sZ (j2:=2) (by decide) (Z3 2) (.int rfl) (.fnp (by decide) rfl) (congrArg (AV.si .i64) n) ⟨_,rfl,.cons (ah.rw (by decide) rfl (hn:=i.symm)) (.cons (.int (congrArg (AV.si .i64) o)) .nil)⟩ (.inl ⟨_,rfl,gU _⟩)⟩
 ·conv=>whnf
  refine aR.mk {t:List Nat×Nat//t.1++bitsOf U t.2=B++bitsOf U k/\dY t.1/\t.2<=k/\t.1.length+t.2=B.length+k} 3 (λt=>wc U t.val.1 t.val.2) (λt=>t.val.2) ⟨(B,k),rfl,J,Z3 _,rfl⟩ ?_ ?_
  ·exact sZ (j2:=1) (by decide) (Z3 2) (.int rfl) (.fnp (by decide) rfl) (congrArg (AV.si .i64) z) ⟨_,rfl,.cons (ah.rw (by decide) rfl) (.cons (.int rfl) .nil)⟩ (.inl ⟨_,rfl,gU _⟩)
  ·intro⟨(D,m),v,w,F,j⟩;dsimp only at v w F j;have G:D.length<=100000064:=by omega
   have H:(pack D).length<=100000000:=by rw[bp];omega
   cases m with
   |zero=>
    conv=>whnf
    refine ae.dec (λx=>absurd x (by show¬(0:Int)<=((0:Nat):Int)-1;omega)) (λ_=>?_)
    conv=>whnf
    have e:D=B++bitsOf U k:=by simpa[bitsOf]using v
    subst e;exact⟨rfl,rfl,rfl⟩
   |succ m=>
    have g:U/2^m%2<2:=q4c _ (by decide);have l:0<=((m+1:Nat):Int)-1:=by omega
    have C:((m+1:Nat):Int)-1=(m:Int):=by omega
    have d:=Ma (U:=U) C (by omega);have n:IntKind.i64.wrap (((m+1:Nat):Int)-1-1)=((m:Nat):Int)-1:=(congrArg IntKind.i64.wrap (congrArg (·-1) C)).trans (da ⟨by omega,by omega⟩);have o:IntKind.i64.wrap ((D.length:Int)+1)=(((D++ [U/2^m%2]).length:Nat):Int):=by rw[Z6,q2f];exact da ⟨by omega,by omega⟩
    have hq:=div_eq D.length (by omega);have f:0<=IntKind.i64.wrap (7-(D.length:Int).tmod 8):=by rw[Gz];omega
    have p:bk (c7 (pack D)) 0 ((pack D).length*1)=some (c7 (pack D)):=bw (by rw[iy,q0i]);have a:(D++ [U/2^m%2])++bitsOf U m=B++bitsOf U k:=by rw[q0h,<-tY];exact v
    have r:((pack D).length+1)*1<=140737488355328:=by omega
    have s:dY (D++ [U/2^m%2]):=w.app (.one g)
    conv=>whnf
    refine ae.dec (λ_=>?_) (λx=>absurd l x)
    conv=>whnf
    refine⟨l,?_⟩
    conv=>whnf
    refine ae.dec (λc=>?_) (λc=>?_)
    ·have c:=(GA _).1 c;have i:(pack (D++ [U/2^m%2])).length=(pack D).length+1:=by rw[we c];simp
     have ho:0+D.length/8*1=D.length/8:=by omega
     have b:D.length/8<(pack D).length+1:=by rw[bp];omega
     conv=>whnf
     refine bF.grow 1 1 _ _ _ _ _ _ tyB (.old rfl) rfl rfl (.rw rfl p) r ?_
     conv=>whnf
     refine Idx.mk (D.length/8) hq b ?_
     conv=>whnf
     refine aw (Mb c ho) ?_
     conv=>whnf
     refine⟨f,?_⟩
     conv=>whnf
     refine Idx.mk (D.length/8) hq b ?_
     conv=>whnf
     refine aw (GB g d c ho) ?_
     conv=>whnf
     refine⟨⟨(D++ [U/2^m%2],m),a,s,by omega,by simp;omega⟩,q1f m,sZ (j2:=4) (by decide) (Z3 2) (.int rfl) (.fnp (by decide) rfl) (congrArg (AV.si .i64) n) ⟨_,rfl,.cons (ah.rw (by decide) rfl (hn:=i.symm)) (.cons (.int (congrArg (AV.si .i64) o)) .nil)⟩ (.inl ⟨_,rfl,gU _⟩)⟩
    ·have c:D.length%8≠0:=λq=>c ((GA _).2 q)
     have i:(pack (D++ [U/2^m%2])).length=(pack D).length:=by rw[bp,bp];simp;omega
     have ho:0+D.length/8*1=D.length/8:=by omega
     have b:D.length/8<(pack D).length:=by rw[bp];omega
     conv=>whnf
     refine Idx.mk (D.length/8) hq b ?_
     conv=>whnf
     refine aw (Mc c ho) ?_
     conv=>whnf
     refine⟨f,?_⟩
     conv=>whnf
     refine Idx.mk (D.length/8) hq b ?_
     conv=>whnf
     refine aw (GC w g d c ho) ?_
     conv=>whnf
     refine⟨⟨(D++ [U/2^m%2],m),a,s,by omega,by simp;omega⟩,q1f m,sZ (j2:=2) (by decide) (Z3 2) (.int rfl) (.fnp (by decide) rfl) (congrArg (AV.si .i64) n) ⟨_,rfl,.cons (ah.rw (by decide) rfl (hn:=i.symm)) (.cons (.int (congrArg (AV.si .i64) o)) .nil)⟩ (.inl ⟨_,rfl,gU _⟩)⟩
theorem ny{H:AH}{n b:Nat}{o:AO}(d:b<n)(h:H.get b=some (cJ (bt [b] n) o))(e:o.void=false∨o.own=true):iS H n [b] [o]:=⟨by simp,rfl,λi s q a c=>by
 match i,a,c with
 |0,a,c=>injection a with a;injection c with c;subst a c;exact⟨d,h,e⟩⟩
theorem Ah{H:AH}{n b c:Nat}{o q:AO}(e:b≠c)(f:b<n)(g:c<n)(h:H.get b=some (cJ (bt [b,c] n) o))(k:H.get c=some (cJ (bt [b,c] n) q))(j:o.void=false∨o.own=true)(l:q.void=false∨q.own=true):iS H n [b,c] [o,q]:=
 ⟨by simp[e],rfl,λi s r a d=>by
  match i,a,d with
  |0,a,d=>injection a with a;injection d with d;subst a d;exact⟨f,h,j⟩
  |1,a,d=>injection a with a;injection d with d;subst a d;exact⟨g,k,l⟩⟩
theorem rE(r:Nat->Nat)(c:Nat)(B:List Nat):dM r (nw c B)=nw (r c) B:=rfl
theorem rF(r:Nat->Nat)(s:List Nat):dM r (c7 s)=c7 s:=yM r _ (my s)
theorem Xs(H:AH)(n b c:Nat)(B:List Nat):ke [b,c] n H [(0,some (.cells (nw 2 B) true)),(1,none),(2,some (.cells (c7 (pack B)) true))]=Vf H n b c B:=by
 simp only[ke,Y8,q2e,cJ,rE,rF];rfl
theorem Mh:ai 226 uH:=λargs H n J d L l M N K m a p=>by
 unfold uH at d;split at d
 ·obtain⟨x,y,z,rfl,q,r,s⟩:=vs3 a;obtain⟨b,c,U,k,B,rfl,f,g,h,t,v,w,A,C,e,D,E,d⟩:=d
  refine dj (S:=[b,c]) (O:=[.cells (nw 1 B) true,.cells (c7 (pack B)) true]) (args0:=[.ptr 0 0,.si .u64 (U:Int),.si .i64 (k:Int)]) (ay Vg 5 _) (by kernel_rfl) m
   (Ah f g h (by rw[cJ,rE];exact t) (by rw[cJ,rF];exact v) (.inr rfl) (.inr rfl)) ?_ p (Mg B U k w e D E) λu P Q ⟨F,G,I⟩=>?_
  ·exact .cons q (.cons (by have:=r.mk;rw[A]at this;exact this) (.cons (by have:=s.mk;rw[C]at this;exact this) .nil))
  ·subst F;refine⟨3,ke [b,c] n H [(0,some (.cells (nw 2 (B++bitsOf U k)) true)),(1,none),(2,some (.cells (c7 (pack (B++bitsOf U k))) true))],q2b 2,fu.put (q2b 2) rfl (λx j o ho=>?_),rfl,?_⟩
   ·simp only[Z4,Z5,or_false]at j;rcases j with rfl|rfl|rfl
    ·injection ho with ho;subst ho;exact⟨G,rfl,rfl⟩
    ·cases ho
    ·injection ho with ho;subst ho;exact⟨I,rfl,wi _ _ (my _)⟩
   ·rw[Xs];exact d
 ·exact d.elim
def KP1:FuncId->EP:=aq 226 uH evP
theorem SJ:aU KP1:=ag az Mh
theorem oJ{U:Nat}{w:Int}{m:Nat}(a:min w.toNat IntKind.u64.bits=m)(h:U/2^m=0):¬0<((U:Nat):Int).fdiv ((2:Int)^min w.toNat IntKind.u64.bits):=by
 rw[a,fdiv_pow,h];decide
theorem dg{U:Nat}{w:Int}{m:Nat}(a:min w.toNat IntKind.u64.bits=m)(h:U/2^m≠0):¬¬0<((U:Nat):Int).fdiv ((2:Int)^min w.toNat IntKind.u64.bits):=by
 rw[a,fdiv_pow];exact not_not_intro (Int.natCast_pos.2 (q2w h))
theorem Mi(B:List Nat)(U:Nat)(f:dY B)(v:U<18446744073709551616)(w:B.length<=99999000):ax KP1 3 227 [.ptr 0 0,.si .u64 (U:Int)] (mkH [(0,.cells (nw 1 B) true),(1,.cells (c7 (pack B)) true)]) 2
 λu H' _=>u= .int .i64 0/\∃n,n=B++bd U/\H'.get 0=some (.cells (nw 6 n) true)/\H'.get 6=some (.cells (c7 (pack n)) true):=by
 have k:U≠0->U/2^0≠0:=λh=>by simpa using h
 have o:¬U<128->U/2^7≠0:=λh=>Nat.ne_of_gt (Nat.div_pos (by show 128<=U;omega) (by decide))
 have p:¬U<4096->U/2^12≠0:=λh=>Nat.ne_of_gt (Nat.div_pos (by show 4096<=U;omega) (by decide))
 have q:¬U<16777216->U/2^24≠0:=λh=>Nat.ne_of_gt (Nat.div_pos (by show 16777216<=U;omega) (by decide))
 have r:U=0->U/2^0=0:=λh=>by simp[h]
 have s:U<128->U/2^7=0:=λh=>q2x h
 have z2:U<4096->U/2^12=0:=λh=>q2x h
 have t:U<16777216->U/2^24=0:=λh=>q2x h
 by_cases e:U=0
 ·have g:(B++bitsOf 0 1)++bitsOf U 0=B++bd U:=by
   rw[q0h];congr 1;unfold bd;rw[if_pos e];rfl
  have a:dY (B++bitsOf 0 1):=f.app (dF _ _);have b:(B++bitsOf 0 1).length<=100000000:=by rw[Z6,aP];omega
  have c:B.length<=100000000:=by omega
  have d:U<2^0:=by subst e;decide
  conv=>whnf
  refine aR.roll 6 ?_
  conv=>whnf
  refine ae.dec (λh=>absurd h (oJ (m:=0) rfl (r e))) (λ_=>?_)
  conv=>whnf
  refine⟨0,1,0,1,B,rfl,by decide,by decide,by decide,rfl,rfl,f,rfl,rfl,by decide,by decide,c,?_⟩
  conv=>whnf
  refine⟨0,_,U,0,B++bitsOf 0 1,rfl,?_,by decide,?_,rfl,rfl,a,rfl,rfl,by decide,d,b,?_⟩
  ·decide
  ·decide
  conv=>whnf
  exact⟨rfl,_,g,rfl,rfl⟩
 ·skip
  by_cases i:U<128
  ·have g:(B++bitsOf 2 2)++bitsOf U 7=B++bd U:=by
    rw[q0h];congr 1;unfold bd;rw[if_neg e,if_pos i];rfl
   have a:dY (B++bitsOf 2 2):=f.app (dF _ _);have b:(B++bitsOf 2 2).length<=100000000:=by rw[Z6,aP];omega
   have c:B.length<=100000000:=by omega
   have d:U<2^7:=by omega
   conv=>whnf
   refine aR.roll 6 ?_
   conv=>whnf
   refine ae.dec (λ_=>?_) (λh=>absurd h (dg (m:=0) rfl (k e)))
   conv=>whnf
   refine ae.dec (λh=>absurd h (oJ (m:=7) rfl (s i))) (λ_=>?_)
   conv=>whnf
   refine⟨0,1,2,2,B,rfl,by decide,by decide,by decide,rfl,rfl,f,rfl,rfl,by decide,by decide,c,?_⟩
   conv=>whnf
   refine⟨0,_,U,7,B++bitsOf 2 2,rfl,?_,by decide,?_,rfl,rfl,a,rfl,rfl,by decide,d,b,?_⟩
   ·decide
   ·decide
   conv=>whnf
   exact⟨rfl,_,g,rfl,rfl⟩
  ·skip
   by_cases j:U<4096
   ·have g:(B++bitsOf 6 3)++bitsOf U 12=B++bd U:=by
     rw[q0h];congr 1;unfold bd;rw[if_neg e,if_neg i,if_pos j];rfl
    have a:dY (B++bitsOf 6 3):=f.app (dF _ _);have b:(B++bitsOf 6 3).length<=100000000:=by rw[Z6,aP];omega
    have c:B.length<=100000000:=by omega
    have d:U<2^12:=by omega
    conv=>whnf
    refine aR.roll 6 ?_
    conv=>whnf
    refine ae.dec (λ_=>?_) (λh=>absurd h (dg (m:=0) rfl (k e)))
    conv=>whnf
    refine ae.dec (λ_=>?_) (λh=>absurd h (dg (m:=7) rfl (o i)))
    conv=>whnf
    refine ae.dec (λh=>absurd h (oJ (m:=12) rfl (z2 j))) (λ_=>?_)
    conv=>whnf
    refine⟨0,1,6,3,B,rfl,by decide,by decide,by decide,rfl,rfl,f,rfl,rfl,by decide,by decide,c,?_⟩
    conv=>whnf
    refine⟨0,_,U,12,B++bitsOf 6 3,rfl,?_,by decide,?_,rfl,rfl,a,rfl,rfl,by decide,d,b,?_⟩
    ·decide
    ·decide
    conv=>whnf
    exact⟨rfl,_,g,rfl,rfl⟩
   ·skip
    by_cases l:U<16777216
    ·have g:(B++bitsOf 14 4)++bitsOf U 24=B++bd U:=by
      rw[q0h];congr 1;unfold bd;rw[if_neg e,if_neg i,if_neg j,if_pos l];rfl
     have a:dY (B++bitsOf 14 4):=f.app (dF _ _);have b:(B++bitsOf 14 4).length<=100000000:=by rw[Z6,aP];omega
     have c:B.length<=100000000:=by omega
     have d:U<2^24:=by omega
     conv=>whnf
     refine aR.roll 6 ?_
     conv=>whnf
     refine ae.dec (λ_=>?_) (λh=>absurd h (dg (m:=0) rfl (k e)))
     conv=>whnf
     refine ae.dec (λ_=>?_) (λh=>absurd h (dg (m:=7) rfl (o i)))
     conv=>whnf
     refine ae.dec (λ_=>?_) (λh=>absurd h (dg (m:=12) rfl (p j)))
     conv=>whnf
     refine ae.dec (λh=>absurd h (oJ (m:=24) rfl (t l))) (λ_=>?_)
     conv=>whnf
     refine⟨0,1,14,4,B,rfl,by decide,by decide,by decide,rfl,rfl,f,rfl,rfl,by decide,by decide,c,?_⟩
     conv=>whnf
     refine⟨0,_,U,24,B++bitsOf 14 4,rfl,?_,by decide,?_,rfl,rfl,a,rfl,rfl,by decide,d,b,?_⟩
     ·decide
     ·decide
     conv=>whnf
     exact⟨rfl,_,g,rfl,rfl⟩
    ·skip
     have g:(B++bitsOf 15 4)++bitsOf U 64=B++bd U:=by
      rw[q0h];congr 1;unfold bd;rw[if_neg e,if_neg i,if_neg j,if_neg l];rfl
     have a:dY (B++bitsOf 15 4):=f.app (dF _ _);have b:(B++bitsOf 15 4).length<=100000000:=by rw[Z6,aP];omega
     have c:B.length<=100000000:=by omega
     have d:U<2^64:=by omega
     conv=>whnf
     refine aR.roll 6 ?_
     conv=>whnf
     refine ae.dec (λ_=>?_) (λh=>absurd h (dg (m:=0) rfl (k e)))
     conv=>whnf
     refine ae.dec (λ_=>?_) (λh=>absurd h (dg (m:=7) rfl (o i)))
     conv=>whnf
     refine ae.dec (λ_=>?_) (λh=>absurd h (dg (m:=12) rfl (p j)))
     conv=>whnf
     refine ae.dec (λ_=>?_) (λh=>absurd h (dg (m:=24) rfl (q l)))
     conv=>whnf
     refine⟨0,1,15,4,B,rfl,by decide,by decide,by decide,rfl,rfl,f,rfl,rfl,by decide,by decide,c,?_⟩
     conv=>whnf
     refine⟨0,_,U,64,B++bitsOf 15 4,rfl,?_,by decide,?_,rfl,rfl,a,rfl,rfl,by decide,d,b,?_⟩
     ·decide
     ·decide
     conv=>whnf
     exact⟨rfl,_,g,rfl,rfl⟩
def RK (H:AH) (n b c:Nat) (B:List Nat):AH:=((((((H.set (some (.cells (c7 (pack B)) true)) aa (n+4)).set none aa (n+3)).set none aa (n+2)).set none aa (n+1)).set none aa n).set none aa c).set (some (.cells (nw (n+4) B) true)) aa b
def Ai(args:List AV)(H:AH)(n:Nat)(κ:PK):Prop:=match args with
 | [x,u]=>∃(b c U:Nat) (B:List Nat),x= .ptr b 0/\b≠c/\b<n/\c<n/\H.get b=some (.cells (nw c B) true)/\H.get c=some (.cells (c7 (pack B)) true)/\dY B/\mk u= .si .u64 (U:Int)/\U<18446744073709551616/\B.length<=99999000/\
  κ (.int .i64 0) (RK H n b c (B++bd U)) (n+5)
 |_=>False
def GD(B:List Nat):List (Nat×Option AO):=[(0,some (.cells (nw 6 B) true)),(1,none),(2,none),(3,none),(4,none),(5,none),(6,some (.cells (c7 (pack B)) true))]
theorem Xt(H:AH)(n b c:Nat)(B:List Nat):ke [b,c] n H (GD B)=RK H n b c B:=by
 simp only[ke,GD,Y8,q2e,cJ,rE,rF];rfl
theorem SK:ai 227 Ai:=λargs H n E d F k G I K l a m=>by
 unfold Ai at d;split at d
 ·obtain⟨x,y,rfl,p,q⟩:=vs2 a;obtain⟨b,c,U,B,rfl,e,f,g,r,s,t,v,w,z,d⟩:=d
  refine dj (S:=[b,c]) (O:=[.cells (nw 1 B) true,.cells (c7 (pack B)) true]) (args0:=[.ptr 0 0,.si .u64 (U:Int)]) (ay SJ 3 _) (by kernel_rfl) l
   (Ah e f g (by rw[cJ,rE];exact r) (by rw[cJ,rF];exact s) (.inr rfl) (.inr rfl)) ?_ m (Mi B U t w z) λu J L ⟨A,M,i,C,D⟩=>?_
  ·exact .cons p (.cons (by have:=q.mk;rw[v]at this;exact this) .nil)
  ·subst A i;refine⟨7,ke [b,c] n H (GD (B++bd U)),Z0 rfl,fu.put (Z0 rfl) rfl (λx j o ho=>?_),rfl,?_⟩
   ·simp only[GD,Z4,Z5,or_false]at j;rcases j with rfl|rfl|rfl|rfl|rfl|rfl|rfl
    ·injection ho with ho;subst ho;exact⟨C,rfl,rfl⟩
    ·cases ho
    ·cases ho
    ·cases ho
    ·cases ho
    ·cases ho
    ·injection ho with ho;subst ho;exact⟨D,rfl,wi _ _ (my _)⟩
   ·rw[Xt];exact d
 ·exact d.elim
def KE:FuncId->EP:=bb 221 [] (aq 227 Ai (aq 226 uH evP))
theorem RL:aU KE:=au (ag (ag az Mh) SK) (by kernel_rfl) (by kernel_rfl)
theorem GF{n:Int}(h:aN n):bZ .xor .u64 (IntKind.u64.wrap (IntKind.u64.wrap n*(2:Int)^min (Int.toNat 1) IntKind.u64.bits)) (IntKind.u64.wrap (n.fdiv ((2:Int)^min (Int.toNat 63) IntKind.i64.bits)))=((Ab n:Nat):Int):=SC h
theorem qy(X:Smp)(i:Nat):aE X (i+1)=aE X i++ck X i:=rfl
theorem Mj(X:Smp):aE X 0++bitsOf (ie (tAt X 0)) 64++bitsOf (ie (vAt X 0)) 64=aE X (0+1):=by
 rw[qy,q0h];rfl
theorem Mk(X:Smp){i:Nat}(h:i≠0):aE X i++bd (dT X i)++bd (dV X i)=aE X (i+1):=by
 rw[qy,q0h];unfold ck;rw[if_neg h]
theorem wq:pack []=[]:=by simp[pack]
def ec (L:Smp) (cap:Nat) (i:Nat):AE×AH:=(mkE [(0,.sy 0 0 L.length cap 0),(4,.ptr 1 (0)),(5,.si .i64 (eg L i)),(11,.sy 0 0 L.length cap 0),(12,.si .i64 (((L.length:Nat):Int))),(13,.si .i64 (((i:Nat):Int)))],mkH [(0,.ro (smp (L))),(1,.cells (nw 2 (aE L i)) true),(2,.cells (c7 ((pack (aE L i)))) true)])
theorem EY{L:Smp}{cap:Nat}{i:Nat}{p n:Nat}{σ:AE}{H:AH}(j2:Nat)(t:j2≠0/\j2≠1)(u:p<=1)(j:mk (aj (pa 0) σ)= .sy 0 0 L.length cap 0)(k:aj (pa 4) σ= .ptr 1 (0))(m:mk (aj (pa 5) σ)= .si .i64 (eg L i))(a:mk (aj (pa 11) σ)= .sy 0 0 L.length cap 0)(c:mk (aj (pa 12) σ)= .si .i64 (((L.length:Nat):Int)))(d:mk (aj (pa 13) σ)= .si .i64 (((i:Nat):Int)))(o:H.get 0=some (.ro (smp (L))))(r:∃l,H.get 1=some (.cells l true)/\mz H 3 (λb=>if b=2 then j2 else b) l (nw 2 (aE L i)))(s:(∃l,H.get j2=some (.cells l true)/\l.map mk=c7 ((pack (aE L i))))∨(((pack (aE L i)))=[]/\n<=j2)):Cov p σ H n ((ec L cap i).1,(ec L cap i).2,3):=
 Cov.ofB (λb=>if b=2 then j2 else b) (by omega) (λb v=>by repeat' rw[if_neg (by omega)]) ⟨.sy (by decide) j,.ptr (by decide) k,.int m,.sy (by decide) a,.int c,.int d,trivial⟩ ⟨.inl ⟨_,o,ao.Ci (b8 _) rfl⟩,.inl (r.elim λl h=>⟨_,h.1,ao.st h.2⟩),s.elim (λ⟨l,h,g⟩=> .inl ⟨_,h,ao.bA (my _) (by rw[g,gU]) (λq=>q)⟩) (λh=> .inr ⟨by rw[h.1];rfl,h.2⟩),trivial⟩ rfl (λx e y f=>by simp only[Z4,Z5,or_false]at e f;rcases e with rfl|rfl|rfl<;>rcases f with rfl|rfl|rfl<;>simp<;>omega)
theorem Pc(L:Smp)(cap:Nat)(C:L.length<=100000)(B:∀x∈L,aN x.1/\aN x.2):ax KE 3 221 [.sy 0 0 L.length cap 0] (mkH [(0,.ro (smp L))]) 1
 λu _ _=>mkT u=mkT (.tup [.ss (pack (aX L)),.si .i64 ((aX L).length:Int)]):=by
 conv=>whnf
 refine aR.mk {i:Nat//i<=L.length} 3 (λi=>ec L cap i.val) (λi=>L.length-i.val) ⟨0,X5 _⟩ ?_ ?_
 ·exact EY (j2:=2) (by decide) (Z3 1) rfl rfl rfl rfl rfl rfl rfl ⟨_,rfl,.cons (.iP rfl (hn:=congrArg List.length wq)) (.cons (.int rfl) .nil)⟩ (.inr ⟨wq,Z3 _⟩)
 ·intro⟨i,D⟩;have c:((aE L i).length)<=13600000:=X9 (pn L i) (by omega);have k:bk (c7 (pack (aE L i))) 0 (pack (aE L i)).length=some (c7 (pack (aE L i))):=bw (iy _);have l:kU (c7 (pack (aE L i)))=some (pack (aE L i)):=CG (Gu (ig L i));have m:i<L.length->IntKind.i64.wrap ((i:Int)+1)=(((i+1:Nat)):Int):=λq=>da ⟨by omega,by omega⟩
  conv=>whnf
  refine ae.dec (λh=>?_) (λh=>?_)
  ·have a:i<L.length:=by exact q0o.1 h
   have p:L[i].1=tAt L i:=(eo a).symm;have A:L[i].2=vAt L i:=(oH a).symm
   conv=>whnf
   refine Idx.mk i rfl a ?_
   conv=>whnf
   refine aw (fG a (q0s _)) ?_
   conv=>whnf
   refine ae.dec (λb=>?_) (λb=>?_)
   ·have b:i=0:=by exact q3r.1 b
    subst b;have d:AV.si .u64 (IntKind.u64.wrap L[0].1)= .si .u64 ((ie (tAt L 0):Nat):Int):=congrArg (AV.si .u64) ((L5 _).trans (by rw[p]));have e:AV.si .u64 (IntKind.u64.wrap L[0].2)= .si .u64 ((ie (vAt L 0):Nat):Int):=congrArg (AV.si .u64) ((L5 _).trans (by rw[A]));have f:dY (aE L 0++bitsOf (ie (tAt L 0)) 64):=(ig L 0).app (dF _ _);have g:(aE L 0++bitsOf (ie (tAt L 0)) 64).length<=100000000:=by rw[Z6,aP];omega
    conv=>whnf
    refine⟨1,2,ie (tAt L 0),64,aE L 0,rfl,by decide,by decide,by decide,rfl,rfl,ig _ _,d,rfl,Z3 _,ET _,X9 c (by decide),?_⟩
    conv=>whnf
    refine⟨1,4,ie (vAt L 0),64,aE L 0++bitsOf (ie (tAt L 0)) 64,rfl,by decide,by decide,by decide,rfl,rfl,f,e,rfl,Z3 _,ET _,g,?_⟩
    conv=>whnf
    refine⟨⟨1,by omega⟩,(show L.length-1<L.length-0 by omega),EY (j2:=5) (by decide) (Z3 1) rfl rfl (congrArg (AV.si .i64) rfl) rfl rfl (congrArg (AV.si .i64) (m a)) rfl ⟨_,rfl,.cons (ah.rw (by decide) rfl (hn:=congrArg (λx=>(pack x).length) (Mj L))) (.cons (.int (congrArg (λx:List Nat=>AV.si .i64 (x.length:Int)) (Mj L))) .nil)⟩ (.inl ⟨_,rfl,(gU _).trans (congrArg (λx=>c7 (pack x)) (Mj L))⟩)⟩
   ·have b:i≠0:=λq=>b (by exact q3r.2 q)
    have j:i-1<L.length:=by omega
    have n:IntKind.i64.wrap ((i:Int)-1)=((i-1:Nat):Int):=(da ⟨by omega,by omega⟩).trans (by omega);have o:L[i-1].1=tAt L (i-1):=(eo j).symm;have r:L[i-1].2=vAt L (i-1):=(oH j).symm;have s:0+(i-1)*2+0=(i-1)*2:=by omega
    have t:0+(i-1)*2+1=(i-1)*2+1:=by omega
    have v:IntKind.i64.wrap (L[i].1-L[i-1].1)=eg L (i+1):=by
     unfold eg;rw[if_neg (by omega),p,o];rfl
    have d:AV.si .u64 (bZ .xor .u64 (IntKind.u64.wrap (IntKind.u64.wrap (IntKind.i64.wrap (IntKind.i64.wrap (L[i].1-L[i-1].1)-eg L i))*(2:Int)^min (Int.toNat 1) IntKind.u64.bits)) (IntKind.u64.wrap ((IntKind.i64.wrap (IntKind.i64.wrap (L[i].1-L[i-1].1)-eg L i)).fdiv ((2:Int)^min (Int.toNat 63) IntKind.i64.bits))))= .si .u64 ((dT L i:Nat):Int):=congrArg (AV.si .u64) ((GF (wg _)).trans (by unfold dT;rw[p,o]));have e:AV.si .u64 (bZ .xor .u64 (IntKind.u64.wrap (IntKind.u64.wrap (IntKind.i64.wrap (L[i].2-L[i-1].2))*(2:Int)^min (Int.toNat 1) IntKind.u64.bits)) (IntKind.u64.wrap ((IntKind.i64.wrap (L[i].2-L[i-1].2)).fdiv ((2:Int)^min (Int.toNat 63) IntKind.i64.bits))))= .si .u64 ((dV L i:Nat):Int):=congrArg (AV.si .u64) ((GF (wg _)).trans (by unfold dV;rw[A,r]));have f:dY (aE L i++bd (dT L i)):=(ig L i).app (qt _);have g:(aE L i++bd (dT L i)).length<=99999000:=by have:=(gF (dT L i)).1;rw[Z6];omega
    conv=>whnf
    refine Idx.mk (i-1) n j ?_
    conv=>whnf
    refine aw (vT j s) ?_
    conv=>whnf
    refine⟨1,2,dT L i,aE L i,rfl,by decide,by decide,by decide,rfl,rfl,ig _ _,d,RI _ _,X9 c (by decide),?_⟩
    conv=>whnf
    refine Idx.mk (i-1) n j ?_
    conv=>whnf
    refine aw (vU j t) ?_
    conv=>whnf
    refine⟨1,8,dV L i,aE L i++bd (dT L i),rfl,by decide,by decide,by decide,rfl,rfl,f,e,RJ _ _,g,?_⟩
    conv=>whnf
    refine⟨⟨i+1,by omega⟩,(show L.length-(i+1)<L.length-i by omega),EY (j2:=13) (by decide) (Z3 1) rfl rfl (congrArg (AV.si .i64) v) rfl rfl (congrArg (AV.si .i64) (m a)) rfl ⟨_,rfl,.cons (ah.rw (by decide) rfl (hn:=congrArg (λx=>(pack x).length) (Mk L b))) (.cons (.int (congrArg (λx:List Nat=>AV.si .i64 (x.length:Int)) (Mk L b))) .nil)⟩ (.inl ⟨_,rfl,(gU _).trans (congrArg (λx=>c7 (pack x)) (Mk L b))⟩)⟩
  ·have w:i=L.length:=by have:¬i<L.length:=λq=>h (q0o.2 q);omega
   conv=>whnf
   refine U3.mk _ _ _ _ _ _ _ _ rfl (by decide) ⟨_,rfl,rfl,rfl⟩ (.inr ⟨_,rfl⟩) k l ?_
   conv=>whnf
   subst w;rfl
theorem Ml:ax KE 3 221 [.nsl] .nil 0 λu _ _=>mkT u=mkT (.tup [.ss (pack (aX [])),.si .i64 ((aX []).length:Int)]):=by
 conv=>whnf
 refine aR.roll 1 ?_
 conv=>whnf
 exact(show _=AV.tup [.ss [],.si .i64 0] from rfl).trans (by rw[L6,wq];rfl)
def qz(args:List AV)(H:AH)(n:Nat)(κ:PK):Prop:=match args with
 | [l]=>∃L,mo H l L/\L.length<=100000/\(∀x∈L,aN x.1/\aN x.2)/\κ (.tup [.ss (pack (aX L)),.si .i64 ((aX L).length:Int)]) H n
 |_=>False
theorem CK:ai 221 qz:=λargs H n m a o h q r K c b g=>by
 unfold qz at a;split at a
 ·obtain⟨x,rfl,i⟩:=vs1 b;obtain⟨L,j,k,d,a⟩:=a;rcases j.open c i with⟨rfl,e⟩|⟨p,C,_,f,e⟩
  ·exact ic RL (v:= .tup [.ss (pack (aX [])),.si .i64 ((aX []).length:Int)]) rfl Ml a c g (by kernel_rfl) HR.ro0 (.cons (e _) .nil)
  ·exact ic RL (v:= .tup [.ss (pack (aX L)),.si .i64 ((aX L).length:Int)]) rfl (Pc L C k d) a c g (by kernel_rfl) (λl=>HR.ro1 l f) (.cons (e _ 0 rfl) .nil)
 ·exact a.elim
def KB:FuncId->EP:=bb 233 [] (bb 212 [] evP)
theorem Mm:aU KB:=au (au az (by kernel_rfl) (by kernel_rfl)) (by kernel_rfl) (by kernel_rfl)
def jL(s:List Nat)(N a:Nat):List AV:=[.ss s,.si .i64 ((N:Nat):Int),.si .i64 ((a:Nat):Int),.sb true]
def uI(args:List AV)(H:AH)(n:Nat)(κ:PK):Prop:=match args with
 | [x,m]=>∃(b:Nat) (s:List Nat) (N a k V:Nat),x= .ptr b 0/\b<n/\H.get b=some (.cells (jL s N a) true)/\mk m= .si .i64 (k:Int)/\k<=64/\a+k<=N/\N<=8*s.length/\s.length<=100000000/\(∀x∈s,x<256)/\cK 0 (aI s a k)=V/\
  κ (.tup [.si .u64 (V:Int),.int .i64 0]) (H.set (some (.cells (jL s N (a+k)) true)) aa b) n
 |_=>False
def rg (s:List Nat) (N:Nat) (a:Nat) (k:Nat) (j:Nat):AE×AH:=(mkE [(0,.ptr 0 (0)),(6,.si .u64 ((cK 0 (aI s a j):Nat):Int)),(30,.si .i64 (((k:Nat):Int))),(31,.si .i64 (((j:Nat):Int)))],mkH [(0,.cells (jL s N (a+j)) true)])
theorem Mn{s:List Nat}{N:Nat}{a:Nat}{k:Nat}{j:Nat}{p n:Nat}{σ:AE}{H:AH}(e:p<=1)(f:aj (pa 0) σ= .ptr 0 (0))(g:ah H 1 (λb=>b) (aj (pa 6) σ) (.si .u64 ((cK 0 (aI s a j):Nat):Int)))(c:mk (aj (pa 30) σ)= .si .i64 (((k:Nat):Int)))(d:mk (aj (pa 31) σ)= .si .i64 (((j:Nat):Int)))(i:∃l,H.get 0=some (.cells l true)/\mz H 1 (λb=>b) l (jL s N (a+j))):Cov p σ H n ((rg s N a k j).1,(rg s N a k j).2,1):=
 Cov.ofA e ⟨.ptr (by decide) f,g,.int c,.int d,trivial⟩ ⟨.inl (i.elim λl h=>⟨_,h.1,ao.st h.2⟩),trivial⟩ rfl
theorem SL{s:List Nat}(b:∀x∈s,x<256){a c u:Nat}(d:nth s (a/8)=some c)(e:u<9223372036854775808):
 bZ .or .u64 (IntKind.u64.wrap (((u:Nat):Int)*(2:Int)^min (Int.toNat 1) IntKind.u64.bits)) (IntKind.u64.wrap (bZ .and .u8 ((Int.ofNat c).fdiv ((2:Int)^min (IntKind.i64.wrap (7-((a:Nat):Int).tmod 8)).toNat IntKind.u8.bits)) 1))=((2*u+rz s a:Nat):Int):=Pb b d e
theorem Mo(s:List Nat)(N a k:Nat)(o:k<=64)(p:a+k<=N)(r:N<=8*s.length)(m:s.length<=100000000)(n:∀x∈s,x<256):ax KB 3 233 [.ptr 0 0,.si .i64 (k:Int)] (mkH [(0,.cells (jL s N a) true)]) 1
 λu H' _=>u= .tup [.si .u64 ((cK 0 (aI s a k):Nat):Int),.int .i64 0]/\H'.get 0=some (.cells (jL s N (a+k)) true):=by
 have b:¬IntKind.i64.wrap ((N:Int)-(a:Int))<(k:Int):=by
  rw[show IntKind.i64.wrap ((N:Int)-(a:Int))=(N:Int)-(a:Int) from da ⟨by omega,by omega⟩];omega
 conv=>whnf
 refine ae.nsb (λh=>by cases h) (λ_=>?_)
 conv=>whnf
 refine ae.dec (λh=>absurd h (by omega)) (λ_=>?_)
 conv=>whnf
 refine ae.dec (λh=>absurd h (by omega)) (λ_=>?_)
 conv=>whnf
 refine ae.dec (λh=>absurd h b) (λ_=>?_)
 conv=>whnf
 refine aR.mk {j:Nat//j<=k} 1 (λj=>rg s N a k j.val) (λj=>k-j.val) ⟨0,X5 _⟩ ?_ ?_
 ·exact Mn (Z3 1) rfl (.int rfl) rfl rfl ⟨_,rfl,.cons (.str rfl) (.cons (.int rfl) (.cons (.int rfl) (.cons (.bool rfl) .nil)))⟩
 ·intro⟨j,t⟩
  conv=>whnf
  refine ae.dec (λh=>?_) (λh=>?_)
  ·have c:j<k:=by exact q0o.1 h
   have hq:=div_eq (a+j) (by omega);have d:(a+j)/8<s.length:=by omega
   have l:nth s ((a+j)/8)=some s[(a+j)/8]:=by rw[eR,X4 d]
   have e:0<=IntKind.i64.wrap (7-((a+j:Nat):Int).tmod 8):=by rw[Gz];omega
   have f:2*cK 0 (aI s a j)+rz s (a+j)=cK 0 (aI s a (j+1)):=by rw[CD,Jg]
   have hu:=congrArg (AV.si .u64) ((SL (u:=cK 0 (aI s a j)) n l (Jl s a (by omega))).trans (congrArg (λx:Nat=>(x:Int)) f));have g:IntKind.i64.wrap ((j:Int)+1)=(((j+1:Nat)):Int):=da ⟨by omega,by omega⟩;have i:IntKind.i64.wrap (((a+j:Nat):Int)+1)=(((a+(j+1):Nat)):Int):=da ⟨by omega,by omega⟩
   conv=>whnf
   refine Idx.mk ((a+j)/8) hq d ?_
   conv=>whnf
   refine Ask.mk _ l ?_
   conv=>whnf
   refine⟨e,?_⟩
   conv=>whnf
   refine⟨⟨j+1,c⟩,(show k-(j+1)<k-j by omega),Mn (Z3 1) rfl (.int hu) rfl (congrArg (AV.si .i64) g) ⟨_,rfl,.cons (.str rfl) (.cons (.int rfl) (.cons (.int (congrArg (AV.si .i64) i)) (.cons (.bool rfl) .nil)))⟩⟩
  ·have c:j=k:=by have:¬j<k:=λq=>h (q0o.2 q);omega
   conv=>whnf
   subst c;exact⟨rfl,rfl⟩
theorem Mp:ai 233 uI:=λargs H n D c E l F G K m d p=>by
 unfold uI at c;split at c
 ·obtain⟨x,y,rfl,q,r⟩:=vs2 d;obtain⟨b,s,N,a,k,V,rfl,f,t,v,e,w,z,g,h,A,c⟩:=c
  refine dj (S:=[b]) (O:=[.cells (jL s N a) true]) (args0:=[.ptr 0 0,.si .i64 (k:Int)]) (ay Mm 3 _) (by kernel_rfl) m
   (ny f t (.inr rfl)) ?_ p (Mo s N a k e w z g h) λu I J ⟨B,C⟩=>?_
  ·exact .cons q (.cons (by have:=r.mk;rw[v]at this;exact this) .nil)
  ·subst B;refine⟨1,ke [b] n H [(0,some (.cells (jL s N (a+k)) true))],Z3 _,fu.put (Z3 _) rfl (λx j o ho=>?_),rfl,?_⟩
   ·simp only[Z4,Z5,or_false]at j;subst j;injection ho with ho;subst ho;exact⟨C,rfl,rfl⟩
   ·rw[<-A]at c;exact c
 ·exact c.elim
def KG:FuncId->EP:=aq 233 uI KB
theorem Vh:aU KG:=ag Mm Mp
theorem fH{s:List Nat}{a j b:Nat}{B:List Nat}(h:aI s a (j+1)=b::B):aI s a 1=[b]/\aI s (a+1) j=B:=by
 rw[Nat.add_comm j 1,wo]at h;exact List.append_inj (s₂:=[b]) (t₂:=B) h (by rw[l5];rfl)
theorem Mq(s:List Nat)(N a U:Nat)(M:U<18446744073709551616)(c:aI s a (bd U).length=bd U)(f:a+(bd U).length<=N)(g:N<=8*s.length)(b:s.length<=100000000)(i:∀x∈s,x<256):ax KG 4 236 [.ptr 0 0] (mkH [(0,.cells (jL s N a) true)]) 1
 λu H' _=>u= .tup [.si .u64 (U:Int),.int .i64 0]/\H'.get 0=some (.cells (jL s N (a+(bd U).length)) true):=by
 have B:U≠0->U/2^0≠0:=λh=>by simpa using h
 have D:¬U<128->U/2^7≠0:=λh=>Nat.ne_of_gt (Nat.div_pos (by show 128<=U;omega) (by decide))
 have H:¬U<4096->U/2^12≠0:=λh=>Nat.ne_of_gt (Nat.div_pos (by show 4096<=U;omega) (by decide))
 have I:¬U<16777216->U/2^24≠0:=λh=>Nat.ne_of_gt (Nat.div_pos (by show 16777216<=U;omega) (by decide))
 have J:U=0->U/2^0=0:=λh=>by simp[h]
 have K:U<128->U/2^7=0:=λh=>q2x h
 have z2:U<4096->U/2^12=0:=λh=>q2x h
 have L:U<16777216->U/2^24=0:=λh=>q2x h
 by_cases l:U=0
 ·have k:bd U=[0]++bitsOf U 0:=by
   unfold bd;rw[if_pos l];rfl
  rw[k]at c f⊢;have d:([0]++bitsOf U 0).length=1:=by rw[Z6,aP];rfl
  rw[d]at c f⊢;obtain⟨n,o⟩:=fH (j:=0) c;have e:cK 0 (aI s (a+1) 0)=U:=by rw[show aI s (a+1) 0=bitsOf U 0 from o];exact(jk 0 U 0).trans (by rw[q1h,q0s];exact q1i (by subst l;decide))
  have p:cK 0 (aI s (a) 1)=0:=by rw[n];rfl
  conv=>whnf
  refine aR.roll 6 ?_
  conv=>whnf
  refine⟨0,s,N,a,1,0,rfl,by decide,rfl,rfl,by decide,by omega,g,b,i,p,?_⟩
  conv=>whnf
  refine ae.dec (λ_=>?_) (λh=>absurd rfl h)
  conv=>whnf
  refine⟨0,s,N,a+1,0,U,rfl,by decide,rfl,rfl,by decide,by omega,g,b,i,e,?_⟩
  conv=>whnf
  refine aR.roll 6 ?_
  conv=>whnf
  refine ae.dec (λh=>absurd h (oJ (m:=0) rfl (J l))) (λ_=>?_)
  conv=>whnf
  exact⟨rfl,rfl⟩
 ·skip
  by_cases q:U<128
  ·have k:bd U=[1,0]++bitsOf U 7:=by
    unfold bd;rw[if_neg l,if_pos q]
   rw[k]at c f⊢;have d:([1,0]++bitsOf U 7).length=9:=by rw[Z6,aP];rfl
   rw[d]at c f⊢;obtain⟨n,o⟩:=fH (j:=8) c;obtain⟨r,t⟩:=fH (j:=7) o;have e:cK 0 (aI s (a+1+1) 7)=U:=by rw[show aI s (a+1+1) 7=bitsOf U 7 from t];exact(jk 0 U 7).trans (by rw[q1h,q0s];exact q1i (by omega))
   have p:cK 0 (aI s (a) 1)=1:=by rw[n];rfl
   have v:cK 0 (aI s (a+1) 1)=0:=by rw[r];rfl
   conv=>whnf
   refine aR.roll 6 ?_
   conv=>whnf
   refine⟨0,s,N,a,1,1,rfl,by decide,rfl,rfl,by decide,by omega,g,b,i,p,?_⟩
   conv=>whnf
   refine ae.dec (λh=>absurd h (by decide)) (λ_=>?_)
   conv=>whnf
   refine⟨0,s,N,a+1,1,0,rfl,by decide,rfl,rfl,by decide,by omega,g,b,i,v,?_⟩
   conv=>whnf
   refine ae.dec (λ_=>?_) (λh=>absurd rfl h)
   conv=>whnf
   refine⟨0,s,N,a+1+1,7,U,rfl,by decide,rfl,rfl,by decide,by omega,g,b,i,e,?_⟩
   conv=>whnf
   refine aR.roll 6 ?_
   conv=>whnf
   refine ae.dec (λ_=>?_) (λh=>absurd h (dg (m:=0) rfl (B l)))
   conv=>whnf
   refine ae.dec (λh=>absurd h (oJ (m:=7) rfl (K q))) (λ_=>?_)
   conv=>whnf
   exact⟨rfl,rfl⟩
  ·skip
   by_cases w:U<4096
   ·have k:bd U=[1,1,0]++bitsOf U 12:=by
     unfold bd;rw[if_neg l,if_neg q,if_pos w]
    rw[k]at c f⊢;have d:([1,1,0]++bitsOf U 12).length=15:=by rw[Z6,aP];rfl
    rw[d]at c f⊢;obtain⟨n,o⟩:=fH (j:=14) c;obtain⟨r,t⟩:=fH (j:=13) o;obtain⟨y,z⟩:=fH (j:=12) t;have e:cK 0 (aI s (a+1+1+1) 12)=U:=by rw[show aI s (a+1+1+1) 12=bitsOf U 12 from z];exact(jk 0 U 12).trans (by rw[q1h,q0s];exact q1i (by omega))
    have p:cK 0 (aI s (a) 1)=1:=by rw[n];rfl
    have v:cK 0 (aI s (a+1) 1)=1:=by rw[r];rfl
    have A:cK 0 (aI s (a+1+1) 1)=0:=by rw[y];rfl
    conv=>whnf
    refine aR.roll 6 ?_
    conv=>whnf
    refine⟨0,s,N,a,1,1,rfl,by decide,rfl,rfl,by decide,by omega,g,b,i,p,?_⟩
    conv=>whnf
    refine ae.dec (λh=>absurd h (by decide)) (λ_=>?_)
    conv=>whnf
    refine⟨0,s,N,a+1,1,1,rfl,by decide,rfl,rfl,by decide,by omega,g,b,i,v,?_⟩
    conv=>whnf
    refine ae.dec (λh=>absurd h (by decide)) (λ_=>?_)
    conv=>whnf
    refine⟨0,s,N,a+1+1,1,0,rfl,by decide,rfl,rfl,by decide,by omega,g,b,i,A,?_⟩
    conv=>whnf
    refine ae.dec (λ_=>?_) (λh=>absurd rfl h)
    conv=>whnf
    refine⟨0,s,N,a+1+1+1,12,U,rfl,by decide,rfl,rfl,by decide,by omega,g,b,i,e,?_⟩
    conv=>whnf
    refine aR.roll 6 ?_
    conv=>whnf
    refine ae.dec (λ_=>?_) (λh=>absurd h (dg (m:=0) rfl (B l)))
    conv=>whnf
    refine ae.dec (λ_=>?_) (λh=>absurd h (dg (m:=7) rfl (D q)))
    conv=>whnf
    refine ae.dec (λh=>absurd h (oJ (m:=12) rfl (z2 w))) (λ_=>?_)
    conv=>whnf
    exact⟨rfl,rfl⟩
   ·skip
    by_cases C:U<16777216
    ·have k:bd U=[1,1,1,0]++bitsOf U 24:=by
      unfold bd;rw[if_neg l,if_neg q,if_neg w,if_pos C]
     rw[k]at c f⊢;have d:([1,1,1,0]++bitsOf U 24).length=28:=by rw[Z6,aP];rfl
     rw[d]at c f⊢;obtain⟨n,o⟩:=fH (j:=27) c;obtain⟨r,t⟩:=fH (j:=26) o;obtain⟨y,z⟩:=fH (j:=25) t;obtain⟨E,F⟩:=fH (j:=24) z;have e:cK 0 (aI s (a+1+1+1+1) 24)=U:=by rw[show aI s (a+1+1+1+1) 24=bitsOf U 24 from F];exact(jk 0 U 24).trans (by rw[q1h,q0s];exact q1i (by omega))
     have p:cK 0 (aI s (a) 1)=1:=by rw[n];rfl
     have v:cK 0 (aI s (a+1) 1)=1:=by rw[r];rfl
     have A:cK 0 (aI s (a+1+1) 1)=1:=by rw[y];rfl
     have G:cK 0 (aI s (a+1+1+1) 1)=0:=by rw[E];rfl
     conv=>whnf
     refine aR.roll 6 ?_
     conv=>whnf
     refine⟨0,s,N,a,1,1,rfl,by decide,rfl,rfl,by decide,by omega,g,b,i,p,?_⟩
     conv=>whnf
     refine ae.dec (λh=>absurd h (by decide)) (λ_=>?_)
     conv=>whnf
     refine⟨0,s,N,a+1,1,1,rfl,by decide,rfl,rfl,by decide,by omega,g,b,i,v,?_⟩
     conv=>whnf
     refine ae.dec (λh=>absurd h (by decide)) (λ_=>?_)
     conv=>whnf
     refine⟨0,s,N,a+1+1,1,1,rfl,by decide,rfl,rfl,by decide,by omega,g,b,i,A,?_⟩
     conv=>whnf
     refine ae.dec (λh=>absurd h (by decide)) (λ_=>?_)
     conv=>whnf
     refine⟨0,s,N,a+1+1+1,1,0,rfl,by decide,rfl,rfl,by decide,by omega,g,b,i,G,?_⟩
     conv=>whnf
     refine ae.dec (λ_=>?_) (λh=>absurd rfl h)
     conv=>whnf
     refine⟨0,s,N,a+1+1+1+1,24,U,rfl,by decide,rfl,rfl,by decide,by omega,g,b,i,e,?_⟩
     conv=>whnf
     refine aR.roll 6 ?_
     conv=>whnf
     refine ae.dec (λ_=>?_) (λh=>absurd h (dg (m:=0) rfl (B l)))
     conv=>whnf
     refine ae.dec (λ_=>?_) (λh=>absurd h (dg (m:=7) rfl (D q)))
     conv=>whnf
     refine ae.dec (λ_=>?_) (λh=>absurd h (dg (m:=12) rfl (H w)))
     conv=>whnf
     refine ae.dec (λh=>absurd h (oJ (m:=24) rfl (L C))) (λ_=>?_)
     conv=>whnf
     exact⟨rfl,rfl⟩
    ·skip
     have k:bd U=[1,1,1,1]++bitsOf U 64:=by
      unfold bd;rw[if_neg l,if_neg q,if_neg w,if_neg C]
     rw[k]at c f⊢;have d:([1,1,1,1]++bitsOf U 64).length=68:=by rw[Z6,aP];rfl
     rw[d]at c f⊢;obtain⟨n,o⟩:=fH (j:=67) c;obtain⟨r,t⟩:=fH (j:=66) o;obtain⟨y,z⟩:=fH (j:=65) t;obtain⟨E,F⟩:=fH (j:=64) z;have e:cK 0 (aI s (a+1+1+1+1) 64)=U:=by rw[show aI s (a+1+1+1+1) 64=bitsOf U 64 from F];exact(jk 0 U 64).trans (by rw[q1h,q0s];exact q1i (by omega))
     have p:cK 0 (aI s (a) 1)=1:=by rw[n];rfl
     have v:cK 0 (aI s (a+1) 1)=1:=by rw[r];rfl
     have A:cK 0 (aI s (a+1+1) 1)=1:=by rw[y];rfl
     have G:cK 0 (aI s (a+1+1+1) 1)=1:=by rw[E];rfl
     conv=>whnf
     refine aR.roll 6 ?_
     conv=>whnf
     refine⟨0,s,N,a,1,1,rfl,by decide,rfl,rfl,by decide,by omega,g,b,i,p,?_⟩
     conv=>whnf
     refine ae.dec (λh=>absurd h (by decide)) (λ_=>?_)
     conv=>whnf
     refine⟨0,s,N,a+1,1,1,rfl,by decide,rfl,rfl,by decide,by omega,g,b,i,v,?_⟩
     conv=>whnf
     refine ae.dec (λh=>absurd h (by decide)) (λ_=>?_)
     conv=>whnf
     refine⟨0,s,N,a+1+1,1,1,rfl,by decide,rfl,rfl,by decide,by omega,g,b,i,A,?_⟩
     conv=>whnf
     refine ae.dec (λh=>absurd h (by decide)) (λ_=>?_)
     conv=>whnf
     refine⟨0,s,N,a+1+1+1,1,1,rfl,by decide,rfl,rfl,by decide,by omega,g,b,i,G,?_⟩
     conv=>whnf
     refine ae.dec (λh=>absurd h (by decide)) (λ_=>?_)
     conv=>whnf
     refine⟨0,s,N,a+1+1+1+1,64,U,rfl,by decide,rfl,rfl,by decide,by omega,g,b,i,e,?_⟩
     conv=>whnf
     refine aR.roll 6 ?_
     conv=>whnf
     refine ae.dec (λ_=>?_) (λh=>absurd h (dg (m:=0) rfl (B l)))
     conv=>whnf
     refine ae.dec (λ_=>?_) (λh=>absurd h (dg (m:=7) rfl (D q)))
     conv=>whnf
     refine ae.dec (λ_=>?_) (λh=>absurd h (dg (m:=12) rfl (H w)))
     conv=>whnf
     refine ae.dec (λ_=>?_) (λh=>absurd h (dg (m:=24) rfl (I C)))
     conv=>whnf
     exact⟨rfl,rfl⟩
def Aj(args:List AV)(H:AH)(n:Nat)(κ:PK):Prop:=match args with
 | [x]=>∃(b:Nat) (s:List Nat) (N a U:Nat),x= .ptr b 0/\b<n/\H.get b=some (.cells (jL s N a) true)/\U<18446744073709551616/\aI s a (bd U).length=bd U/\a+(bd U).length<=N/\N<=8*s.length/\s.length<=100000000/\(∀x∈s,x<256)/\
  κ (.tup [.si .u64 (U:Int),.int .i64 0]) (H.set (some (.cells (jL s N (a+(bd U).length)) true)) aa b) n
 |_=>False
theorem SM:ai 236 Aj:=λargs H n z d A k B C K l c m=>by
 unfold Aj at d;split at d
 ·obtain⟨x,rfl,p⟩:=vs1 c;obtain⟨b,s,N,a,U,rfl,e,q,r,f,t,v,g,h,d⟩:=d
  refine dj (S:=[b]) (O:=[.cells (jL s N a) true]) (args0:=[.ptr 0 0]) (ay Vh 4 _) (by kernel_rfl) l
   (ny e q (.inr rfl)) (.cons p .nil) m (Mq s N a U r f t v g h) λu D E ⟨w,y⟩=>?_
  subst w;refine⟨1,ke [b] n H [(0,some (.cells (jL s N (a+(bd U).length)) true))],Z3 _,fu.put (Z3 _) rfl (λx j o ho=>?_),rfl,d⟩;simp only[Z4,Z5,or_false]at j;subst j;injection ho with ho;subst ho;exact⟨y,rfl,rfl⟩
 ·exact d.elim
def rG(r:Nat)(T V st:Int):List AV:=[.ptr r 0,.si .i64 T,.si .i64 V,.si .i64 st,.int .i64 0]
def SN:DT:=[(5,[(some 1000000,[3,5]),(none,[0,1,2,3,4,5,6,7,8,9]),(none,[0,1,2,4,5,3,6,7,8,9])]),(7,[(some 1000000,[4,6]),(none,[0,1,2,3,4,5,6,7,8,9,10,11]),(none,[0,1,2,3,5,6,4,7,8,9,10,11])])]
def KN:FuncId->EP:=bb 211 SN (aq 236 Aj (aq 233 uI KB))
theorem Vi:aU KN:=au (ag (ag Mm Mp) SM) (by kernel_rfl) (by kernel_rfl)
theorem CL(x:Int):cK 0 (bitsOf (ie x) 64)=ie x:=(jk 0 _ 64).trans (by rw[q1h,q0s];exact q1i (ET x))
theorem GG{u:Nat}(h:u<18446744073709551616):bZ .xor .i64 (IntKind.i64.wrap (((u:Nat):Int).fdiv ((2:Int)^min (Int.toNat 1) IntKind.u64.bits))) (IntKind.i64.wrap (0-IntKind.i64.wrap (bZ .and .u64 ((u:Nat):Int) 1)))=oG u:=SD h
theorem Jm(s:List Nat)(N a:Nat)(T V st b c:Int)(j:aI s a 64=bitsOf (ie b) 64)(k:aI s (a+64) 64=bitsOf (ie c) 64)(l:aN b)(m:aN c)(n:a+64+64<=N)(e:N<=8*s.length)(d:s.length<=100000000)(f:∀x∈s,x<256):
 ax KN 6 211 [.ptr 0 0,.sb true] (mkH [(0,.cells (rG 1 T V st) true),(1,.cells (jL s N a) true)]) 2
 λu H' _=>u= .agg [.si .i64 b,.si .i64 c]/\H'.get 0=some (.cells (rG 1 b c st) true)/\H'.get 1=some (.cells (jL s N (a+64+64)) true):=by
 have o:cK 0 (aI s a 64)=ie b:=by rw[j,CL]
 have p:cK 0 (aI s (a+64) 64)=ie c:=by rw[k,CL]
 have g:IntKind.i64.wrap ((ie b:Nat):Int)=b:=CA l;have i:IntKind.i64.wrap ((ie c:Nat):Int)=c:=CA m;have q:=congr (congrArg (λx y=>AV.agg [.si .i64 x,.si .i64 y]) g) i;have r:=congr (congrArg (λx y=>some (AO.cells (rG 1 x y st) true)) g) i
 conv=>whnf
 refine ae.sb (λ_=>?_) (λh=>by cases h)
 conv=>whnf
 refine⟨1,s,N,a,64,ie b,rfl,by decide,rfl,rfl,by decide,by omega,e,d,f,o,?_⟩
 conv=>whnf
 refine⟨1,s,N,a+64,64,ie c,rfl,by decide,rfl,rfl,by decide,by omega,e,d,f,p,?_⟩
 conv=>whnf
 exact⟨q,r,rfl⟩
theorem Jn(s:List Nat)(N a U W:Nat)(T V st:Int)(e:U<18446744073709551616)(f:W<18446744073709551616)(k:aI s a (bd U).length=bd U)(l:aI s (a+(bd U).length) (bd W).length=bd W)(d:a+(bd U).length+(bd W).length<=N)(g:N<=8*s.length)(b:s.length<=100000000)(i:∀x∈s,x<256):
 ax KN 6 211 [.ptr 0 0,.sb false] (mkH [(0,.cells (rG 1 T V st) true),(1,.cells (jL s N a) true)]) 2
 λu H' _=>u= .agg [.si .i64 (W64 (T+W64 (st+oG U))),.si .i64 (W64 (V+oG W))]/\H'.get 0=some (.cells (rG 1 (W64 (T+W64 (st+oG U))) (W64 (V+oG W)) (W64 (st+oG U))) true)/\H'.get 1=some (.cells (jL s N (a+(bd U).length+(bd W).length)) true):=by
 have j:=GG e;have z2:=GG f;have m:=congr (congrArg (λx y=>AV.agg [.si .i64 (W64 (T+W64 (st+x))),.si .i64 (W64 (V+y))]) j) z2;have n:=congr (congrArg (λx y=>some (AO.cells (rG 1 (W64 (T+W64 (st+x))) (W64 (V+y)) (W64 (st+x))) true)) j) z2;have c:a+(bd U).length<=N:=by omega
 conv=>whnf
 refine ae.sb (λh=>by cases h) (λ_=>?_)
 conv=>whnf
 refine⟨?_,?_,trivial⟩<;>(
  conv=>whnf
  refine⟨1,s,N,a,U,rfl,by decide,rfl,e,k,c,g,b,i,?_⟩
  conv=>whnf
  refine⟨?_,?_,trivial⟩<;>(
   conv=>whnf
   refine⟨1,s,N,a+(bd U).length,W,rfl,by decide,rfl,f,l,d,g,b,i,?_⟩
   conv=>whnf
   exact⟨m,n,rfl⟩))
inductive GH(s:List Nat)(a:Nat)(T V st:Int):Bool->Nat->Int->Int->Int->Prop where
 |first{T' V':Int} (h1:aI s a 64=bitsOf (ie T') 64) (h2:aI s (a+64) 64=bitsOf (ie V') 64) (hT:aN T') (hV:aN V'):GH s a T V st true (a+64+64) T' V' st
 |more {U W:Nat} (hU:U<18446744073709551616) (hW:W<18446744073709551616) (h1:aI s a (bd U).length=bd U) (h2:aI s (a+(bd U).length) (bd W).length=bd W):GH s a T V st false (a+(bd U).length+(bd W).length) (W64 (T+W64 (st+oG U))) (W64 (V+oG W)) (W64 (st+oG U))
def Ak(args:List AV)(H:AH)(n:Nat)(κ:PK):Prop:=match args with
 | [x,q]=>∃(b c:Nat) (s:List Nat) (N a e:Nat) (T V st g h d:Int) (f:Bool),x= .ptr b 0/\mk q= .sb f/\b≠c/\b<n/\c<n/\H.get b=some (.cells (rG c T V st) true)/\H.get c=some (.cells (jL s N a) true)/\GH s a T V st f e g h d/\e<=N/\N<=8*s.length/\s.length<=100000000/\(∀x∈s,x<256)/\
  κ (.agg [.si .i64 g,.si .i64 h]) ((H.set (some (.cells (jL s N e) true)) aa c).set (some (.cells (rG c g h d) true)) aa b) n
 |_=>False
theorem SO:ai 211 Ak:=λargs H n X e Y D Z vs K E d F=>by
 unfold Ak at e;split at e
 ·obtain⟨x,y,rfl,G,I⟩:=vs2 d;obtain⟨b,c,s,N,a,z,T,V,st,l,m,g,f,rfl,J,p,q,r,L,M,t,A,B,h,i,e⟩:=e
  have key:ax KN 6 211 [.ptr 0 0,.sb f] (mkH [(0,.cells (rG 1 T V st) true),(1,.cells (jL s N a) true)]) 2
   λu v _=>u= .agg [.si .i64 l,.si .i64 m]/\v.get 0=some (.cells (rG 1 l m g) true)/\v.get 1=some (.cells (jL s N z) true):=by
   cases t with
   |first j k P Q=>exact Jm s N a T V st l m j k P Q A B h i
   |more R U j k=>exact Jn s N a _ _ T V st R U j k A B h i
  refine dj (S:=[b,c]) (O:=[.cells (rG 1 T V st) true,.cells (jL s N a) true]) (args0:=[.ptr 0 0,.sb f]) (ay Vi 6 _) (by kernel_rfl) E
   (Ah p q r L M (.inr rfl) (.inr rfl)) (.cons G (.cons (by have:=I.mk;rw[J]at this;exact this) .nil)) F key λu v n' ⟨j,k,W⟩=>?_
  subst j;refine⟨2,ke [b,c] n H [(0,some (.cells (rG 1 l m g) true)),(1,some (.cells (jL s N z) true))],Z3 _,fu.put (Z3 _) rfl (λx C o ho=>?_),rfl,e⟩;simp only[Z4,Z5,or_false]at C;rcases C with rfl|rfl
  ·injection ho with ho;subst ho;exact⟨k,rfl,rfl⟩
  ·injection ho with ho;subst ho;exact⟨W,rfl,rfl⟩
 ·exact e.elim
def tP(X:Smp)(i:Nat):Int:=if i=0 then 0 else tAt X (i-1)
def vP(X:Smp)(i:Nat):Int:=if i=0 then 0 else vAt X (i-1)
theorem Pd{X:Smp}{i:Nat}(h:i<X.length):aI (pack (aX X)) (aE X i).length (ck X i).length=ck X i:=by
 obtain⟨D,a⟩:=EV h;exact CC (yL X) a
theorem Mr{s:List Nat}{a:Nat}{A B:List Nat}(h:aI s a (A++B).length=A++B):aI s a A.length=A/\aI s (a+A.length) B.length=B:=by
 rw[Z6,wo]at h;exact List.append_inj h (by rw[l5])
theorem wu(X:Smp)(i:Nat):(aE X (i+1)).length=(aE X i).length+(ck X i).length:=by rw[qy,Z6]
theorem Ms{X:Smp}{i:Nat}(h:i<=X.length):(aE X i).length<=(aX X).length:=by
 obtain⟨D,a⟩:=sY X i (X.length-i);rw[show i+(X.length-i)=X.length from by omega]at a;show _<=(aE X X.length).length;rw[a,Z6];omega
theorem Mt{X:Smp}(b:∀x∈X,aN x.1/\aN x.2){i:Nat}(h:i<X.length):GH (pack (aX X)) (aE X i).length (tP X i) (vP X i) (eg X i) (decide ((i:Int)=0)) (aE X (i+1)).length (tP X (i+1)) (vP X (i+1)) (eg X (i+1)):=by
 have hr:=Pd h;have f:=(Me b i).1;have g:=(Me b i).2;by_cases a:i=0
 ·subst a;obtain⟨c,d⟩:=Mr (A:=bitsOf (ie (tAt X 0)) 64) (B:=bitsOf (ie (vAt X 0)) 64) hr;rw[aP]at c;rw[aP,aP]at d;have e:(aE X (0+1)).length=(aE X 0).length+64+64:=by rw[wu];simp[ck,aP]
  rw[e];exact .first c d f g
 ·have hd:decide ((i:Int)=0)=false:=decide_eq_false (by omega);have es:ck X i=bd (dT X i)++bd (dV X i):=by unfold ck;rw[if_neg a]
  rw[es]at hr;obtain⟨c,d⟩:=Mr hr;have e:(aE X (i+1)).length=(aE X i).length+(bd (dT X i)).length+(bd (dV X i)).length:=by rw[wu,es,Z6];omega
  have j:tP X (i+1)=W64 (tP X i+W64 (eg X i+oG (dT X i))):=by
   rw[CJ X a];unfold tP;rw[if_neg (by omega),if_neg a];exact(Vd a f).symm
  have k:vP X (i+1)=W64 (vP X i+oG (dV X i)):=by
   unfold vP;rw[if_neg (by omega),if_neg a];exact(Ve g).symm
  rw[hd,e,j,k,<-CJ X a];exact .more (RI X i) (RJ X i) c d
theorem CM(L:Smp)(x:Int×Int):smp (L++ [x])=smp L++ [.si .i64 x.1,.si .i64 x.2]:=by simp[smp]
theorem tyS:RTy 52 52 2 16:=⟨_,_,_,rfl,rfl,(λq h=>by cases h),rfl,rfl,rfl,rfl,by decide,by decide⟩
def dc (X:Smp) (i:Nat):AE×AH:=(mkE [(2,.si .i64 (((X.length:Nat):Int))),(8,.ptr 0 (0)),(10,.ptr 1 (0)),(11,.rw 2 0 i 2 0),(12,.si .i64 (((i:Nat):Int)))],mkH [(0,.cells (jL (pack (aX X)) (aX X).length (aE X i).length) true),(1,.cells (rG 0 (tP X i) (vP X i) (eg X i)) true),(2,.cells (smp ((X.take i))) true)])
theorem Mu{X:Smp}{i:Nat}{p n:Nat}{σ:AE}{H:AH}(j2:Nat)(s:j2≠0/\j2≠1)(t:p<=0)(j:mk (aj (pa 2) σ)= .si .i64 (((X.length:Nat):Int)))(k:aj (pa 8) σ= .ptr 0 (0))(a:aj (pa 10) σ= .ptr 1 (0))(c:ah H 3 (λb=>if b=2 then j2 else b) (aj (pa 11) σ) (.rw 2 0 i 2 0))(d:mk (aj (pa 12) σ)= .si .i64 (((i:Nat):Int)))(m:∃l,H.get 0=some (.cells l true)/\mz H 3 (λb=>if b=2 then j2 else b) l (jL (pack (aX X)) (aX X).length (aE X i).length))(o:∃l,H.get 1=some (.cells l true)/\mz H 3 (λb=>if b=2 then j2 else b) l (rG 0 (tP X i) (vP X i) (eg X i)))(r:(∃l,H.get j2=some (.cells l true)/\l.map mk=smp ((X.take i)))∨(((X.take i))=[]/\n<=j2)):Cov p σ H n ((dc X i).1,(dc X i).2,3):=
 Cov.ofB (λb=>if b=2 then j2 else b) (by omega) (λb u=>by repeat' rw[if_neg (by omega)]) ⟨.int j,.ptr (by decide) k,.ptr (by decide) a,c,.int d,trivial⟩ ⟨.inl (m.elim λl h=>⟨_,h.1,ao.st h.2⟩),.inl (o.elim λl h=>⟨_,h.1,ao.st h.2⟩),r.elim (λ⟨l,h,g⟩=> .inl ⟨_,h,ao.bA (b8 _) (by rw[g,bO]) (λq=>q)⟩) (λh=> .inr ⟨by rw[h.1];rfl,h.2⟩),trivial⟩ rfl (λx e y f=>by simp only[Z4,Z5,or_false]at e f;rcases e with rfl|rfl|rfl<;>rcases f with rfl|rfl|rfl<;>simp<;>omega)
def KD:FuncId->EP:=bb 179 [] (bb 212 [] (aq 211 Ak evP))
theorem Vj:aU KD:=au (au (ag az SO) (by kernel_rfl) (by kernel_rfl)) (by kernel_rfl) (by kernel_rfl)
theorem Pe(X:Smp)(v:X.length<=100000)(d:∀x∈X,aN x.1/\aN x.2):ax KD 4 179 [.ss (pack (aX X)),.si .i64 ((aX X).length:Int),.si .i64 (X.length:Int)] .nil 0
 λu H' _=>LU X 0 u H':=by
 have n:=CB X;have o:=bp (aX X);have p:(aX X).length<=8*(pack (aX X)).length:=by omega
 have r:IntKind.i64.wrap (8*((pack (aX X)).length:Int))=((8*(pack (aX X)).length:Nat):Int):=da ⟨by omega,by omega⟩;have e:¬IntKind.i64.wrap (8*((pack (aX X)).length:Int))<((aX X).length:Int):=by rw[r];omega
 have f:=Gu (yL X)
 conv=>whnf
 refine ae.dec (λh=>absurd h (by omega)) (λ_=>?_)
 conv=>whnf
 refine ae.dec (λh=>absurd h e) (λ_=>?_)
 conv=>whnf
 refine ae.dec (λh=>absurd h (by omega)) (λ_=>?_)
 conv=>whnf
 refine ae.dec (λh=>absurd h (by omega)) (λ_=>?_)
 conv=>whnf
 refine aR.mk {i:Nat//i<=X.length} 3 (λi=>dc X i.val) (λi=>X.length-i.val) ⟨0,X5 _⟩ ?_ ?_
 ·exact Mu (j2:=2) (by decide) (Z3 0) rfl rfl rfl (.iP rfl) rfl ⟨_,rfl,.cons (.str rfl) (.cons (.int rfl) (.cons (.int rfl) (.cons (.bool rfl) .nil)))⟩ ⟨_,rfl,.cons (.ptr (by decide) rfl) (.cons (.int rfl) (.cons (.int rfl) (.cons (.int rfl) (.cons (.mk1 rfl rfl) .nil))))⟩ (.inr ⟨rfl,Z3 _⟩)
 ·intro⟨i,w⟩
  conv=>whnf
  refine ae.dec (λh=>?_) (λh=>?_)
  ·have a:i<X.length:=by exact q0o.1 h
   have g:=Mt d a;have t:(aE X (i+1)).length<=(aX X).length:=Ms a;have j:(pack (aX X)).length<=100000000:=by omega
   have k:IntKind.i64.wrap ((i:Int)+1)=(((i+1:Nat)):Int):=da ⟨by omega,by omega⟩;have b:bk (smp (X.take i)) 0 (i*2)=some (smp (X.take i)):=bw (by rw[bh,Y7];omega);have c:(i+1)*16<=140737488355328:=by omega
   have l:smp (X.take i)++ [.si .i64 (tP X (i+1)),.si .i64 (vP X (i+1))]=smp (X.take (i+1)):=by
    rw[X8 a,CM];unfold tP vP;rw[if_neg (by omega),if_neg (by omega),Nat.add_sub_cancel,eo a,oH a]
   conv=>whnf
   refine⟨1,0,pack (aX X),(aX X).length,(aE X i).length,(aE X (i+1)).length,tP X i,vP X i,eg X i,tP X (i+1),vP X (i+1),eg X (i+1),_,rfl,rfl,by decide,by decide,by decide,rfl,rfl,g,t,p,j,f,?_⟩
   conv=>whnf
   refine bF.grow 2 16 _ _ _ _ _ _ tyS (.old rfl) rfl rfl (.rw rfl b) c ?_
   conv=>whnf
   exact⟨⟨i+1,a⟩,(show X.length-(i+1)<X.length-i by omega),Mu (j2:=4) (by decide) (Z3 0) rfl rfl rfl (ah.rw (by decide) rfl) (congrArg (AV.si .i64) k) ⟨_,rfl,.cons (.str rfl) (.cons (.int rfl) (.cons (.int rfl) (.cons (.bool rfl) .nil)))⟩ ⟨_,rfl,.cons (.ptr (by decide) rfl) (.cons (.int rfl) (.cons (.int rfl) (.cons (.int rfl) (.cons (.mk1 rfl rfl) .nil))))⟩ (.inl ⟨_,rfl,(congrArg (List.map mk) l).trans (bO _)⟩)⟩
  ·have m:i=X.length:=by have:¬i<X.length:=λq=>h (q0o.2 q);omega
   subst m
   conv=>whnf
   refine ae.dec (λh=>absurd h (by rw[show IntKind.i64.wrap (((aX X).length:Int)-((aE X X.length).length:Int))=0 from(da ⟨by show _<=((aX X).length:Int)-((aX X).length:Int);omega,by show((aX X).length:Int)-((aX X).length:Int)<=_;omega⟩).trans (Int.sub_self _)];decide)) (λ_=>?_)
   conv=>whnf
   have b:bk (smp (X.take X.length)) 0 (X.length*2)=some (smp X):=by rw[q0e];exact fC X
   exact⟨_,_,rfl,rfl,lH.rw rfl rfl b (bO X)⟩
def Al(args:List AV)(H:AH)(n:Nat)(κ:PK):Prop:=match args with
 | [x,y,z]=>∃X:Smp,mk x= .ss (pack (aX X))/\mk y= .si .i64 ((aX X).length:Int)/\mk z= .si .i64 (X.length:Int)/\X.length<=100000/\(∀x∈X,aN x.1/\aN x.2)/\Gj (U9 0) X H n κ
 |_=>False
theorem RM:ai 179 Al:=λargs H n p b q d r s K e a f=>by
 unfold Al at b;split at b
 ·obtain⟨x,y,z,rfl,g,i,j⟩:=vs3 a;obtain⟨X,k,l,m,o,c,b⟩:=b;exact Jd Vj (λ_ _ h=>h) (Pe X o c) b e f (by kernel_rfl) HR.ro0 (.cons (aV rfl (k▸g.mk)) (.cons (aV rfl (l▸i.mk)) (.cons (aV rfl (m▸j.mk)) .nil)))
 ·exact b.elim
theorem ah.frE{H:AH}{m:Nat}{r:Nat->Nat}{a:AV}{n k:Nat}{l:List AV}(e:a= .fr n k l):ah H m r a (.fr n k l):=by subst e;exact .mg rfl
theorem mo.frz{φ:Ph}{H:AH}{n:Nat}{m e:Hp}(i:HR φ H n m e){a:AV}{L:Smp}{v:Value}(f:mo H a L∨a= .fr L.length 2 (smp L))(j:VR φ a v):
 ∃z:Fz->Prop,(Wf e->HR ⟨λ_=>none,z,z,λ_ _=>False⟩ .nil 0 e e)/\VR ⟨λ_=>none,z,z,λ_ _=>False⟩ (.fr L.length 2 (smp L)) v:=by
 rcases f with f|rfl
 ·rcases f.open i j with⟨rfl,h⟩|⟨p,C,r,⟨c,t,fz,l,F,G,u⟩,h⟩
  ·refine⟨λ_=>False,λd=>fP d,?_⟩;rw[(h φ).cZ];exact .fre λ_=>rfl
  ·have g:(smp L).all mg=true:=by
    rw[Y4];intro y w;have:=Y4.1 (b8 L) y w;cases y<;>first|rfl|cases this
   refine⟨λq=>q=⟨p.B,p.s,smp L⟩,λd=>⟨λ_ _ k=>(by cases k),λ_ _ k=>(by cases k),λ_ _ _ _ _ _ k=>(by cases k),λb o k=>⟨d b o k,k⟩,Z3 _,λq x=>⟨?_,λ_ _ _ k=>(by cases k)⟩,λ_ _ k=>(by cases k)⟩,?_⟩
   ·subst x;exact⟨⟨⟨d _ _ l,g⟩,c,t,fz,l,(show p.s+(smp L).length<=c.size by omega),u _⟩,.inl rfl⟩
   ·obtain⟨A,I,D,rfl,E,_⟩:=(h (ph1 p) 0 rfl).zJ;have:p=A:=by simpa[ph1]using D
    subst this;exact .fr (q:=⟨p.B,p.s,smp L⟩) (o:=0) rfl (by rw[E rfl];exact r) (bw (bh L))
 ·exact⟨φ.z,λd=>i.yI (fP d) (λ_ _ h=>by cases h) (λ_ h=>h),lD (ψ:=⟨λ_=>none,φ.z,φ.z,λ_ _=>False⟩) (λ_ h=>h) rfl j⟩
def KL:FuncId->EP:=bb 123 [] evP
theorem Vk:aU KL:=au az (by kernel_rfl) (by kernel_rfl)
def pl0 (L:Smp) (t:Int) (i:Nat):AE×AH:=(mkE [(0,.fr L.length 2 (smp L)),(1,.si .i64 (t)),(6,.si .i64 (((i:Nat):Int)))],mkH [])
theorem GI{L:Smp}{t:Int}{i:Nat}{p n:Nat}{σ:AE}{H:AH}(a:p<=0)(b:aj (pa 0) σ= .fr L.length 2 (smp L))(c:mk (aj (pa 1) σ)= .si .i64 (t))(d:mk (aj (pa 6) σ)= .si .i64 (((i:Nat):Int))):Cov p σ H n ((pl0 L t i).1,(pl0 L t i).2,0):=
 Cov.ofA a ⟨ah.frE b,.int c,.int d,trivial⟩ trivial rfl
theorem Jo(L:Smp)(t:Int)(k:L.length<=100000000):ax KL 3 123 [.fr L.length 2 (smp L),.si .i64 t] .nil 0 λu _ _=>mkT u=mkT (.tup [.si .i64 ((plc L t:Nat):Int),.sb (has L t)]):=by
 conv=>whnf
 refine aR.mk {i:Nat//i<=plc L t} 0 (λi=>pl0 L t i.val) (λi=>L.length-i.val) ⟨0,X5 _⟩ ?_ ?_
 ·exact GI (Z3 0) rfl rfl rfl
 ·intro⟨i,l⟩;have j:=qw L t
  conv=>whnf
  refine ae.dec (λh=>?_) (λh=>?_)
  ·have a:i<L.length:=by exact q0o.1 h
   have b:tAt L i=L[i].1:=eo a;have c:IntKind.i64.wrap ((i:Int)+1)=(((i+1:Nat)):Int):=da ⟨by omega,by omega⟩
   conv=>whnf
   refine Idx.mk i rfl a ?_
   conv=>whnf
   refine aw (vT a rfl) ?_
   conv=>whnf
   refine ae.dec (λg=>?_) (λg=>?_)
   ·have d:i+1<=plc L t:=by
     rcases q3d i (plc L t)with q|q
     ·exact q
     ·have e:i=plc L t:=by omega
      have:=Af (L:=L) (t:=t) (by omega);rw[<-e,b]at this;omega
    conv=>whnf
    exact⟨⟨i+1,d⟩,(show L.length-(i+1)<L.length-i by omega),GI (Z3 0) rfl rfl (congrArg (AV.si .i64) c)⟩
   ·have e:i=plc L t:=by
     rcases q3d i (plc L t)with q|q
     ·have:=Ae q;rw[b]at this;exact absurd this g
     ·omega
    have f:decide (L[i].1=t)=has L t:=by
     unfold has;rw[<-e,b];simp[a]
    have hq:=congr (congrArg (λ(x:Nat) y=>AV.tup [.si .i64 (x:Int),.sb y]) e) f
    conv=>whnf
    refine ae.dec (λ_=>?_) (λq=>absurd h q)
    conv=>whnf
    refine Idx.mk i rfl a ?_
    conv=>whnf
    refine aw (vT a rfl) ?_
    conv=>whnf
    exact hq
  ·have e:i=plc L t:=by have:¬i<L.length:=λq=>h (q0o.2 q);omega
   have f:false=has L t:=by
    unfold has;refine(decide_eq_false λq=>?_).symm;have:¬i<L.length:=λq=>h (q0o.2 q)
    omega
   have hq:=congr (congrArg (λ(x:Nat) y=>AV.tup [.si .i64 (x:Int),.sb y]) e) f
   conv=>whnf
   refine ae.dec (λq=>absurd q h) (λ_=>?_)
   conv=>whnf
   exact hq
def GJ(args:List AV)(H:AH)(n:Nat)(κ:PK):Prop:=match args with
 | [x,y]=>∃(L:Smp) (t:Int),(mo H x L∨x= .fr L.length 2 (smp L))/\mk y= .si .i64 t/\L.length<=100000000/\κ (.tup [.si .i64 ((plc L t:Nat):Int),.sb (has L t)]) H n
 |_=>False
theorem GK:ai 123 GJ:=λargs H n m b o d p q K c a e=>by
 unfold GJ at b;split at b
 ·obtain⟨x,y,rfl,f,g⟩:=vs2 a;obtain⟨L,t,h,i,j,b⟩:=b;obtain⟨z,k,l⟩:=mo.frz c h f;exact ic Vk (v:= .tup [.si .i64 ((plc L t:Nat):Int),.sb (has L t)]) rfl (Jo L t j) b c e (by kernel_rfl) k (.cons l (.cons (aV rfl (i▸g.mk)) .nil))
 ·exact b.elim
theorem Jp(p a b:Int):ax evP 4 217 [.si .i64 p,.si .i64 a,.si .i64 b] .nil 0 λu _ _=>mkT u=mkT (.tup [.si .i64 (bg p a b).1,.si .i64 (bg p a b).2]):=by
 have key:∀{x y:Int},bg p a b=(x,y)->mkT (.tup [.si .i64 x,.si .i64 y])=mkT (.tup [.si .i64 (bg p a b).1,.si .i64 (bg p a b).2]):=λe=>by rw[e]
 conv=>whnf
 refine ae.dec (λd=>?_) (λd=>?_)
 ·have e:=key (x:=0) (y:=8) (by simp[bg,d])
  conv=>whnf
  exact e
 conv=>whnf
 refine ae.dec (λf=>?_) (λf=>?_)
 ·have e:=key (x:=a) (y:=0) (by simp[bg,f])
  conv=>whnf
  exact e
 conv=>whnf
 refine ae.dec (λg=>?_) (λg=>?_)
 ·have e:=key (x:=b) (y:=0) (by simp[bg,g])
  conv=>whnf
  exact e
 conv=>whnf
 refine ae.dec (λi=>?_) (λi=>?_)
 ·have e:=key (x:=min a b) (y:=0) (by simp[bg,i])
  conv=>whnf
  exact e
 conv=>whnf
 refine ae.dec (λj=>?_) (λj=>?_)
 ·have e:=key (x:=max a b) (y:=0) (by simp[bg,j])
  conv=>whnf
  exact e
 conv=>whnf
 refine ae.dec (λk=>?_) (λk=>?_)
 ·have n:((0<=b/\W64 (a+b)<a)∨(b<0/\a<W64 (a+b)))->_:=λh=>key (x:=0) (y:=9) (by simp[bg,k,h])
  have o:¬((0<=b/\W64 (a+b)<a)∨(b<0/\a<W64 (a+b)))->_:=λh=>key (x:=W64 (a+b)) (y:=0) (by unfold bg;rw[if_neg d,if_neg f,if_neg g,if_neg i,if_neg j,if_pos k,if_neg h])
  conv=>whnf
  refine ae.dec (λl=>?_) (λl=>?_)
  ·conv=>whnf
   refine ae.dec (λc=>?_) (λc=>?_)
   ·have e:=n (.inl ⟨l,c⟩)
    conv=>whnf
    exact e
   ·have e:=o (λq=>q.elim (λq=>c q.2) (λq=>by have:=q.1;omega))
    conv=>whnf
    refine ae.dec (λq=>absurd q (by omega)) (λ_=>?_)
    conv=>whnf
    exact e
  ·conv=>whnf
   refine ae.dec (λm=>?_) (λq=>absurd q (by omega))
   conv=>whnf
   refine ae.dec (λc=>?_) (λc=>?_)
   ·have e:=n (.inr ⟨m,c⟩)
    conv=>whnf
    exact e
   ·have e:=o (λq=>q.elim (λq=>l q.1) (λq=>c q.2))
    conv=>whnf
    exact e
 ·have e:=key (x:=0) (y:=1) (by simp[bg,d,f,g,i,j,k])
  conv=>whnf
  exact e
def Mv(args:List AV)(H:AH)(n:Nat)(κ:PK):Prop:=match args with
 | [x,y,z]=>∃p a b:Int,mk x= .si .i64 p/\mk y= .si .i64 a/\mk z= .si .i64 b/\κ (.tup [.si .i64 (bg p a b).1,.si .i64 (bg p a b).2]) H n
 |_=>False
theorem Pg:ai 217 Mv:=λargs H n o d q e r s K f c g=>by
 unfold Mv at d;split at d
 ·obtain⟨x,y,z,rfl,h,i,j⟩:=vs3 c;obtain⟨p,a,b,k,l,m,d⟩:=d;exact U4 (v:= .tup [.si .i64 (bg p a b).1,.si .i64 (bg p a b).2]) az rfl rfl (Jp p a b) d f (.cons (aV rfl (k▸h.mk)) (.cons (aV rfl (l▸i.mk)) (.cons (aV rfl (m▸j.mk)) .nil))) g
 ·exact d.elim
def chk(size:Nat)(L:Smp):List AV:=[.si .i64 (size:Int),.ss (pack (aX L)),.si .i64 ((aX L).length:Int),.si .i64 (L.length:Int)]
def KAl:FuncId->EP:=bb 119 [] (aq 179 Al evP)
theorem EZ:aU KAl:=au (ag az RM) (by kernel_rfl) (by kernel_rfl)
theorem GL(size:Nat)(L:Smp)(c:0<size)(b:L.length<=100000)(a:∀x∈L,aN x.1/\aN x.2):ax KAl 3 119 [.ptr 0 0] (mkH [(0,.ro (chk size L))]) 1 λu H' _=>FrG L.length 2 (smp L) u H':=by
 conv=>whnf
 refine ae.c6 (λh=>absurd (show(0:Int)<(size:Int) by omega) h) (λ_=>?_)
 conv=>whnf
 refine⟨L,rfl,rfl,rfl,b,a,⟨rfl,by decide⟩,?_⟩
 conv=>whnf
 exact O1 rfl rfl rfl rfl (bh L)
def qA(args:List AV)(H:AH)(n:Nat)(κ:PK):Prop:=match args with
 | [x]=>∃(b size:Nat) (l:List AV) (L:Smp),x= .ptr b 0/\H.get b=some (.cells l true)/\l.map mk=chk size L/\0<size/\L.length<=100000/\(∀x∈L,aN x.1/\aN x.2)/\κ (.fr L.length 2 (smp L)) H n
 |_=>False
theorem dJ(size:Nat)(L:Smp):(chk size L).all flat.flat1=true:=rfl
theorem Am(size:Nat)(L:Smp):(chk size L).map mk=chk size L:=rfl
theorem CN:ai 119 qA:=λargs H n D c q t E F K d a u=>by
 unfold qA at c;split at c
 ·obtain⟨x,rfl,v⟩:=vs1 a;obtain⟨b,size,l,L,rfl,w,r,g,y,i,c⟩:=c;obtain⟨p,j,rfl⟩:=v.cD;have k:l.length=4:=by have:=congrArg List.length r;simpa[chk]using this
  have m:=oC.of (s:=chk size L) d (.inr ⟨_,w⟩) j (bw (n:=4) k) (by rw[r,Am]) (dJ size L)
  exact Gm EZ (b8 L) (bh L) (GL size L g y i) c d u (by kernel_rfl) (φ0:=⟨(ph1 ⟨p.B,p.s+0,4⟩).f,q.z,q.z,λ_ _=>False⟩)
   (λC=>d.yI (HR.ro1 C m) (λb o h=>by
    have hm:=b9 h;simp only[Z4,Z5,or_false]at hm;injection hm with _ e;subst e;rfl) (λ_ h=>h)) rfl (.cons (.ptr (p:=⟨p.B,p.s+0,4⟩) (o:=0) rfl) .nil)
 ·exact c.elim
theorem PM.wv{a:Type}{v:a}{t:PM a}:(PM.set (some v) aa t 0).get 0=some v:=by cases t<;>rfl
theorem Mw{u:AV}{H':AH}{a size:Nat}{e:Int}{M:Smp}{l:List AV}(c:mk u= .si .i64 e)(d:H'.get 0=some (.cells l true))(f:l.map mk=chk size M):
 ∃v b g,VTo u v/\eu H' a b g/\(v= .si .i64 e/\PM.get b 0=some (.cells (chk size M) true)):=
 ⟨.si .i64 e,H'.set (some (.cells (chk size M) true)) aa 0,a,λi w h=>by rw[<-c];exact h.mk,eu.EX d rfl f,rfl,PM.wv⟩
theorem rH(A B:Smp):smp (A++B)=smp A++smp B:=by simp[smp]
theorem CO(z:List AV)(a:Nat):∀b,iN z (a+b)=iN z a++iN z b:=by
 intro b
 induction a with
 |zero=>simp[iN]
 |succ a c=>rw[Nat.succ_add];simp[iN,c]
theorem wx(z:List AV):∀a,(iN z a).length=a*z.length
 |0=>by simp[iN]
 |a+1=>by simp[iN,wx z a,Nat.succ_mul];omega
theorem k8:∀(P X Q Y:List AV),Y.length=X.length->ft (P++(X++Q)) P.length Y=some (P++(Y++Q))
 | [],[],Q,[],_=>by cases Q<;>rfl
 | [],[],Q,y::Y,h=>by simp at h
 | [],x::X,Q,[],h=>by simp at h
 | [],x::X,Q,y::Y,h=>by
  have:=k8 [] X Q Y (by simpa using h);simp only[q2i,q1e]at this⊢;simp[ft,this]
 |p::P,X,Q,Y,h=>by
  have:=k8 P X Q Y h;simp[ft,this]
theorem Mx{L:Smp}{i:Nat}(h:i<L.length){t m:Int}(a:tAt L i=t):ft (smp L) (0+i*2+1) [.si .i64 m]=some (smp (L.set i (t,m))):=by
 have e:L=L.take i++(L[i]::L.drop (i+1)):=by rw[<-q0d h,q1c]
 have b:L.set i (t,m)=L.take i++((t,m)::L.drop (i+1)):=by rw[List.set_eq_take_append_cons_drop,if_pos h]
 have c:(L.take i).length=i:=by rw[Y7];omega
 have d:smp L=(smp (L.take i)++ [.si .i64 L[i].1])++([.si .i64 L[i].2]++smp (L.drop (i+1))):=by
  have:=congrArg smp e;rw[rH]at this;rw[this,q0h];rfl
 have f:smp (L.set i (t,m))=(smp (L.take i)++ [.si .i64 L[i].1])++([.si .i64 m]++smp (L.drop (i+1))):=by
  rw[b,rH,<-eo h,a];simp[smp]
 have:=k8 (smp (L.take i)++ [.si .i64 L[i].1]) [.si .i64 L[i].2] (smp (L.drop (i+1))) [.si .i64 m] rfl
 rw[Z6,bh,c,<-d,<-f]at this;rw[q0s];exact this
def z2:List AV:=[.int .i64 0,.int .i64 0]
theorem Jq{l:Nat}{x:Int}{H:AH}{n:Nat}(a:x=(l:Int))(b:l<=1000000):vn Tryz.prog 52 (.int .i64 x) (.int .i64 x) H n=some (.sl n 0 l l 0,H.set (some (.cells (iN z2 l) true)) aa n,n+1):=by
 subst a;have e:vn Tryz.prog 52 (.int .i64 (l:Int)) (.int .i64 (l:Int)) H n=if l<=l/\16*l<=281474976710656/\l<=9223372036854775807/\(2:Nat)=2 then some (.sl n 0 l l 0,H.set (some (.cells (iN z2 l) true)) aa n,n+1)else none:=rfl
 rw[e,if_pos ⟨Z3 _,by omega,by omega,rfl⟩]
theorem Jr{b l n c:Nat}{x:Int}(a:x=(l:Int))(d:l<=n)(f:n<=c):jc Tryz.prog 52 (.sl b 0 n c 0) (some (.int .i64 x)) none none=some (.sl b (if c=l then 0 else 0+l*2) (n-l) (c-l) 0):=by
 subst a;have e:jc Tryz.prog 52 (.sl b 0 n c 0) (some (.int .i64 (l:Int))) none none=if l<=n/\n<=c/\c<=c then some (.sl b (if c=l then 0 else 0+l*2) (n-l) (c-l) 0)else none:=rfl
 rw[e,if_pos ⟨d,f,Z3 _⟩]
def KU:FuncId->EP:=bb 183 [] (bb 119 [] (aq 123 GJ (aq 217 Mv (aq 179 Al (aq 221 qz evP)))))
theorem Vl:aU KU:=au (au (ag (ag (ag (ag az CK) RM) Pg) GK) (by kernel_rfl) (by kernel_rfl)) (by kernel_rfl) (by kernel_rfl)
def ChQ(e:Int)(size:Nat)(M:Smp):PK:=λu a _=>u= .si .i64 e/\PM.get a 0=some (.cells (chk size M) true)
theorem CQ{b:Bool}(h:b=false):¬b=true:=by simp[h]
theorem Pj(size:Nat)(L:Smp)(t v p:Int)(hs:0<size)(hs2:size<=4096)(O:ct L)(hv:aN v):post (ax KU 5 183) [.ptr 0 0,.agg [.si .i64 t,.si .i64 v],.si .i64 p] (mkH [(0,.cells (chk size L) true)]) 1 (ChQ (fg size L t v p).2 size (fg size L t v p).1):=by
 have hL:=O.2.2;have i:=O.jK;have G:(0:Int)<(size:Int):=by omega
 have leaf:∀{u:AV} {H':AH} {n':Nat} {e:Int} {M:Smp} {l:List AV},fg size L t v p=(M,e)->mk u= .si .i64 e->PM.get H' 0=some (.cells l true)->l.map mk=chk size M->∃v2 H2 n2,VTo u v2/\eu H' n' H2 n2/\ChQ (fg size L t v p).2 size (fg size L t v p).1 v2 H2 n2:=λhp hu hb hl=>by
  rw[hp];exact Mw hu hb hl
 show ax KU 5 183 _ _ _ _
 conv=>whnf
 refine ae.c6 (λh=>absurd G h) (λ_=>?_)
 conv=>whnf
 refine ae.dec (λh=>?_) (λh=>?_)
 ·have e:fg size L t v p=(L,1):=by unfold fg;rw[if_pos (.inl h)]
  conv=>whnf
  exact leaf e rfl rfl rfl
 conv=>whnf
 refine ae.dec (λP=>?_) (λP=>?_)
 ·have e:fg size L t v p=(L,1):=by unfold fg;rw[if_pos (.inr P)]
  conv=>whnf
  exact leaf e rfl rfl rfl
 have b:¬(t<0∨1099511627776<=t):=λq=>q.elim h P
 conv=>whnf
 refine ae.c6 (λh=>absurd G h) (λ_=>?_)
 conv=>whnf
 refine⟨L,rfl,rfl,rfl,X9 hL (by decide),i,⟨rfl,by decide⟩,?_⟩
 conv=>whnf
 refine⟨L,t,.inl (.inr (.inl (.inl ⟨_,0,0,_,_,⟨rfl,by decide⟩,.inr ⟨_,rfl⟩,fC L,bO L⟩))),rfl,X9 hL (by decide),?_⟩
 conv=>whnf
 refine ae.nsb (λF=>?_) (λF=>?_)
 ·have Q:=qw L t;have hLn:=O.2.2;have c:fg size L t v p=qu size L (jJ L t v):=by unfold fg;rw[if_neg b,if_neg (CQ F)]
  have j:IntKind.i64.wrap ((L.length:Int)+1)=((L.length+1:Nat):Int):=da ⟨by omega,by omega⟩;have R:IntKind.i64.wrap ((plc L t:Int)+1)=((plc L t+1:Nat):Int):=da ⟨by omega,by omega⟩;have d:(L.take (plc L t)).length=plc L t:=by rw[Y7];omega
  have r:(L.drop (plc L t)).length=L.length-plc L t:=by rw[q0g]
  have s:bk (smp L) 0 (plc L t*2)=some (smp (L.take (plc L t))):=by have:=LN (L:=L) Q;rw[d]at this;exact this
  have w:bk (smp L) (0+plc L t*2) ((L.length-plc L t)*2)=some (smp (L.drop (plc L t))):=by
   unfold bk;rw[q0n (by rw[bh];omega),q0s,rq,q1g (by rw[bh,r];omega)]
  have n:∀(M:Smp) (k:Nat),((smp M).take k).all oi=true:=λM k=>by
   rw[Y4];intro y hy;have:=Y4.1 (b8 M) y (q2z hy);cases y<;>first|rfl|cases this
  have S:iN z2 (L.length+1)=iN z2 (plc L t)++(iN z2 1++iN z2 (L.length-plc L t)):=by rw[<-CO,<-CO];congr 1;omega
  have z:ft (iN z2 (L.length+1)) 0 ((smp (L.take (plc L t))).take (min (plc L t) (L.length+1)*2))=some (smp (L.take (plc L t))++(iN z2 1++iN z2 (L.length-plc L t))):=by
   rw[S,q3k (by omega),q1g (by rw[bh,d];omega)];exact k8 [] _ _ _ (by rw[bh,d,wx];rfl)
  have A:ft (smp (L.take (plc L t))++(iN z2 1++iN z2 (L.length-plc L t))) (0+plc L t*2) [.si .i64 t,.si .i64 v]=some (smp (L.take (plc L t))++([.si .i64 t,.si .i64 v]++iN z2 (L.length-plc L t))):=by
   have:=k8 (smp (L.take (plc L t))) (iN z2 1) (iN z2 (L.length-plc L t)) [.si .i64 t,.si .i64 v] rfl
   rw[bh,d]at this;rw[q0s];exact this
  have B:ft (smp (L.take (plc L t))++([.si .i64 t,.si .i64 v]++iN z2 (L.length-plc L t))) (if L.length+1=plc L t+1 then 0 else 0+(plc L t+1)*2) ((smp (L.drop (plc L t))).take (min (L.length-plc L t) (L.length+1-(plc L t+1))*2))=some (smp (jJ L t v)):=by
   have ei:smp (jJ L t v)=smp (L.take (plc L t))++([.si .i64 t,.si .i64 v]++smp (L.drop (plc L t))):=by unfold jJ;rw[rH];rfl
   have T:(smp (L.drop (plc L t))).take ((L.length-plc L t)*2)=smp (L.drop (plc L t)):=q1g (by rw[bh,r];omega);rw[show min (L.length-plc L t) (L.length+1-(plc L t+1))=L.length-plc L t from by omega,T,ei];by_cases q:L.length=plc L t
   ·have U:L.drop (plc L t)=[]:=Y5 (by omega);rw[if_pos (by omega),U,show L.length-plc L t=0 from by omega];exact k8 [] [] _ [] rfl
   ·rw[if_neg (by omega)];have:=k8 (smp (L.take (plc L t))++ [.si .i64 t,.si .i64 v]) (iN z2 (L.length-plc L t)) [] (smp (L.drop (plc L t))) (by rw[bh,r,wx];rfl);rw[Z6,bh,d]at this;rw[show 0+(plc L t+1)*2=plc L t*2+ [AV.si .i64 t,.si .i64 v].length from by simp;omega];simpa using this
  have V:hd (AV.sy 3 0 (L.length+1) (L.length+1) 0)= .sl 3 0 (jJ L t v).length (L.length+1) 0:=by rw[k7];rfl
  have f:∀x∈jJ L t v,aN x.1/\aN x.2:=λx j=>by
   rcases oI.1 j with rfl|j
   ·exact⟨⟨by omega,by omega⟩,hv⟩
   ·exact i x j
  have g:IntKind.i64.wrap (8*(size:Int))=((8*size:Nat):Int):=da ⟨by omega,by omega⟩;have C: [AV.si .i64 (size:Int),.ss (pack (aX (jJ L t v))),.si .i64 ((aX (jJ L t v)).length:Int),.si .i64 ((L.length+1:Nat):Int)].map mk=chk size (jJ L t v):=by unfold chk;rw[k7];rfl
  have D:(jJ L t v).length<=100000:=by rw[k7];omega
  have H:(jJ L t v).length<=L.length+1:=by rw[k7];exact Z3 _
  have W:plc L t<L.length+1:=by omega
  have X:plc L t+1<=L.length+1:=by omega
  have I:L.length+1<=1000000:=by omega
  conv=>whnf
  refine Ask.mk _ (Jq j I) ?_
  conv=>whnf
  refine RSl.mk 0 (plc L t) rfl rfl (.inl rfl) (X5 _) Q ?_
  conv=>whnf
  refine F8.mk 2 (plc L t) (L.length+1) 3 0 (L.length+1) 0 2 0 2 0 _ (smp L) (smp (L.take (plc L t))) _ true rfl rfl (by decide) ⟨_,rfl,rfl⟩ (.inr ⟨_,rfl⟩) s rfl (n _ _) z ?_
  conv=>whnf
  refine Idx.mk (plc L t) rfl W ?_
  conv=>whnf
  refine aw A ?_
  conv=>whnf
  refine Ask.mk _ (Jr R X (Z3 _)) ?_
  conv=>whnf
  refine RSl.mk (plc L t) L.length rfl rfl (.inl rfl) Q (Z3 _) ?_
  conv=>whnf
  refine F8.mk 2 (L.length-plc L t) (L.length+1-(plc L t+1)) 3 (if L.length+1=plc L t+1 then 0 else 0+(plc L t+1)*2) (L.length+1-(plc L t+1)) 0 2 (0+plc L t*2) 2 0 _ (smp L) (smp (L.drop (plc L t))) _ true rfl rfl (by decide) ⟨_,rfl,rfl⟩ (.inr ⟨_,rfl⟩) w rfl (n _ _) B ?_
  conv=>whnf
  refine⟨jJ L t v,.inr (.inr ⟨3,0,L.length+1,0,_,_,V,.inr ⟨_,rfl⟩,fC _,bO _,H⟩),D,f,?_⟩
  conv=>whnf
  refine ae.dec (λE=>?_) (λE=>?_)
  ·have e:fg size L t v p=(L,2):=by rw[c];unfold qu;rw[if_neg (by rw[g]at E;omega)]
   conv=>whnf
   exact leaf e rfl rfl rfl
  ·have e:fg size L t v p=(jJ L t v,0):=by rw[c];unfold qu;rw[if_pos (by rw[g]at E;omega)]
   conv=>whnf
   exact leaf e rfl rfl C
 ·have a:plc L t<L.length/\tAt L (plc L t)=t:=by unfold has at F;exact of_decide_eq_true F
  have J:L[plc L t].2=vAt L (plc L t):=(oH a.1).symm;have c:fg size L t v p=if(bg p (vAt L (plc L t)) v).2≠0 then(L,(bg p (vAt L (plc L t)) v).2)else qu size L (kZ L t (bg p (vAt L (plc L t)) v).1):=by unfold fg;rw[if_neg b,if_pos F]
  have Y:0+plc L t*2+1=plc L t*2+1:=by omega
  have Z:aN (bg p L[plc L t].2 v).1:=yN (i _ (q0b a.1)).2 hv;have K:=Mx a.1 (m:=(bg p L[plc L t].2 v).1) a.2
  have f:∀x∈kZ L t (bg p L[plc L t].2 v).1,aN x.1/\aN x.2:=λx j=>by
   rcases(rC O.1 F).1 j with rfl|⟨j,_⟩
   ·exact⟨⟨by omega,by omega⟩,Z⟩
   ·exact i x j
  have N:=rB L t (bg p L[plc L t].2 v).1;have D:(kZ L t (bg p L[plc L t].2 v).1).length<=100000:=by omega
  have g:IntKind.i64.wrap (8*(size:Int))=((8*size:Nat):Int):=da ⟨by omega,by omega⟩;have hrw:AV.rw 2 0 L.length 2 0= .rw 2 0 (kZ L t (bg p L[plc L t].2 v).1).length 2 0:=by rw[N]
  have C: [AV.si .i64 (size:Int),.ss (pack (aX (kZ L t (bg p L[plc L t].2 v).1))),.si .i64 ((aX (kZ L t (bg p L[plc L t].2 v).1)).length:Int),.si .i64 ((L.length:Nat):Int)].map mk=chk size (kZ L t (bg p L[plc L t].2 v).1):=by unfold chk;rw[N];rfl
  conv=>whnf
  refine Idx.mk (plc L t) rfl a.1 ?_
  conv=>whnf
  refine aw (vU a.1 Y) ?_
  conv=>whnf
  refine⟨p,L[plc L t].2,v,rfl,rfl,rfl,?_⟩
  conv=>whnf
  refine ae.c6 (λE=>?_) (λE=>?_)
  ·have e:fg size L t v p=(L,(bg p L[plc L t].2 v).2):=by rw[c,<-J,if_pos E]
   conv=>whnf
   exact leaf e rfl rfl rfl
  ·have o:fg size L t v p=qu size L (kZ L t (bg p L[plc L t].2 v).1):=by rw[c,<-J,if_neg (λq=>q E)]
   conv=>whnf
   refine Idx.mk (plc L t) rfl a.1 ?_
   conv=>whnf
   refine aw K ?_
   conv=>whnf
   refine⟨kZ L t (bg p L[plc L t].2 v).1,.inr (.inl (.inl ⟨_,0,0,_,_,⟨hrw,by decide⟩,.inr ⟨_,rfl⟩,fC _,bO _⟩)),D,f,?_⟩
   conv=>whnf
   refine ae.dec (λh4=>?_) (λh4=>?_)
   ·have e:fg size L t v p=(L,2):=by rw[o];unfold qu;rw[if_neg (by rw[g]at h4;omega)]
    conv=>whnf
    exact leaf e rfl rfl rfl
   ·have e:fg size L t v p=(kZ L t (bg p L[plc L t].2 v).1,0):=by rw[o];unfold qu;rw[if_pos (by rw[g]at h4;omega)]
    conv=>whnf
    exact leaf e rfl rfl C
def My(args:List AV)(H:AH)(n:Nat)(κ:PK):Prop:=match args with
 | [x,y,z]=>∃(b size:Nat) (L:Smp) (t v p:Int),x= .ptr b 0/\nr y t v/\mk z= .si .i64 p/\b<n/\H.get b=some (.cells (chk size L) true)/\0<size/\size<=4096/\ct L/\aN v/\
  κ (.si .i64 (fg size L t v p).2) (H.set (some (.cells (chk size (fg size L t v p).1) true)) aa b) n
 |_=>False
theorem Vm:ai 183 My:=λargs H n E c F i G I K j a k=>by
 unfold My at c;split at c
 ·obtain⟨x,y,z,rfl,l,m,q⟩:=vs3 a;obtain⟨b,size,L,t,v,p,rfl,r,s,d,w,e,f,A,B,c⟩:=c
  refine dj (S:=[b]) (O:=[.cells (chk size L) true]) (args0:=[.ptr 0 0,.agg [.si .i64 t,.si .i64 v],.si .i64 p]) (ai.post (ay Vl 5 _)) (by kernel_rfl) j
   (ny d w (.inr rfl)) (.cons l (.cons (r.open m _) (.cons (aV rfl (s▸q.mk)) .nil))) k (Pj size L t v p e f A B) λu J M ⟨C,D⟩=>?_
  subst C;refine⟨1,ke [b] n H [(0,some (.cells (chk size (fg size L t v p).1) true))],Z3 _,fu.put (Z3 _) rfl (λx h o ho=>?_),rfl,c⟩;simp only[Z4,Z5,or_false]at h;subst h;injection ho with ho;subst ho;exact⟨D,rfl,rfl⟩
 ·exact c.elim
theorem E0(L:Smp)(a b:Int){i:Nat}(h:i<L.length):aJ (L.take (i+1)) a b=aJ (L.take i) a b++(if(decide (L[i].1<a)||decide (b<L[i].1))=true then [L[i]]else []):=by
 unfold aJ;rw[X8 h,q2c];congr 1;simp only[List.filter_cons,List.filter_nil]
theorem Js(L:Smp)(a b:Int):(aJ L a b).length<=L.length:=q0y _ _
def dr (size:Nat) (L:Smp) (a:Int) (b:Int) (i:Nat):AE×AH:=(mkE [(0,.ptr 0 (0)),(1,.si .i64 (a)),(2,.si .i64 (b)),(7,.rw 1 0 (aJ (L.take i) a b).length 2 0),(15,.fr L.length 2 (smp L)),(16,.si .i64 (((L.length:Nat):Int))),(17,.si .i64 (((i:Nat):Int)))],mkH [(0,.cells (chk size L) true),(1,.cells (smp ((aJ (L.take i) a b))) true)])
theorem An{size:Nat}{L:Smp}{a:Int}{b:Int}{i:Nat}{p n:Nat}{σ:AE}{H:AH}(j1:Nat)(u:j1≠0)(v:p<=1)(k:aj (pa 0) σ= .ptr 0 (0))(m:mk (aj (pa 1) σ)= .si .i64 (a))(o:mk (aj (pa 2) σ)= .si .i64 (b))(r:ah H 2 (λb=>if b=1 then j1 else b) (aj (pa 7) σ) (.rw 1 0 (aJ (L.take i) a b).length 2 0))(c:aj (pa 15) σ= .fr L.length 2 (smp L))(d:mk (aj (pa 16) σ)= .si .i64 (((L.length:Nat):Int)))(e:mk (aj (pa 17) σ)= .si .i64 (((i:Nat):Int)))(s:∃l,H.get 0=some (.cells l true)/\mz H 2 (λb=>if b=1 then j1 else b) l (chk size L))(t:(∃l,H.get j1=some (.cells l true)/\l.map mk=smp ((aJ (L.take i) a b)))∨(((aJ (L.take i) a b))=[]/\n<=j1)):Cov p σ H n ((dr size L a b i).1,(dr size L a b i).2,2):=
 Cov.ofB (λb=>if b=1 then j1 else b) (by omega) (λb w=>by repeat' rw[if_neg (by omega)]) ⟨.ptr (by decide) k,.int m,.int o,r,ah.frE c,.int d,.int e,trivial⟩ ⟨.inl (s.elim λl h=>⟨_,h.1,ao.st h.2⟩),t.elim (λ⟨l,h,g⟩=> .inl ⟨_,h,ao.bA (b8 _) (by rw[g,bO]) (λq=>q)⟩) (λh=> .inr ⟨by rw[h.1];rfl,h.2⟩),trivial⟩ rfl (λx f y j=>by simp only[Z4,Z5,or_false]at f j;rcases f with rfl|rfl<;>rcases j with rfl|rfl<;>simp<;>omega)
def KDr:FuncId->EP:=aq 119 qA (aq 221 qz evP)
theorem SQ:aU KDr:=ag (ag az CK) CN
theorem Mz(size:Nat)(L:Smp)(a b:Int)(G:0<size)(s:ct L):post (ax KDr 5 157) [.ptr 0 0,.si .i64 a,.si .i64 b] (mkH [(0,.cells (chk size L) true)]) 1 (ChQ ((L.length:Int)-((aJ L a b).length:Int)) size (aJ L a b)):=by
 have K:=s.2.2;have t:=s.jK;have u:L.length<=100000:=by omega
 have v:(0:Int)<(size:Int):=by omega
 have e:∀{H:AH} {m:Nat} {r:Nat->Nat},mz H m r (chk size L) (chk size L):= .cons (.int rfl) (.cons (.str rfl) (.cons (.int rfl) (.cons (.int rfl) .nil)));show ax KDr 5 157 _ _ _ _
 conv=>whnf
 refine ae.c6 (λh=>absurd v h) (λ_=>?_)
 conv=>whnf
 refine⟨0,size,_,L,rfl,rfl,rfl,G,u,t,?_⟩
 conv=>whnf
 refine aR.mk {i:Nat//i<=L.length} 2 (λi=>dr size L a b i.val) (λi=>L.length-i.val) ⟨0,X5 _⟩ ?_ ?_
 ·exact An (j1:=1) (by decide) (Z3 1) rfl rfl rfl (.iP rfl) rfl rfl rfl ⟨_,rfl,e⟩ (.inr ⟨rfl,Z3 _⟩)
 ·intro⟨i,M⟩;have x:(aJ (L.take i) a b).length<=20000:=X9 (Js _ _ _) (by rw[Y7];omega);have d:bk (smp (aJ (L.take i) a b)) 0 ((aJ (L.take i) a b).length*2)=some (smp (aJ (L.take i) a b)):=fC _
  conv=>whnf
  refine ae.dec (λh=>?_) (λh=>?_)
  ·have c:i<L.length:=by exact q0o.1 h
   have g:IntKind.i64.wrap ((i:Int)+1)=(((i+1:Nat)):Int):=da ⟨by omega,by omega⟩;have f:((aJ (L.take i) a b).length+1)*16<=140737488355328:=by omega
   have j:L.length-(i+1)<L.length-i:=by omega
   have k:=E0 L a b c;have F:(decide (L[i].1<a)||decide (b<L[i].1))=true->aJ (L.take (i+1)) a b=aJ (L.take i) a b++ [L[i]]:=λq=>by rw[k,if_pos q]
   have l:¬(decide (L[i].1<a)||decide (b<L[i].1))=true->aJ (L.take (i+1)) a b=aJ (L.take i) a b:=λq=>by rw[k,if_neg q,q0w]
   have n:(decide (L[i].1<a)||decide (b<L[i].1))=true->(aJ (L.take i) a b).length+1=(aJ (L.take (i+1)) a b).length:=λq=>by rw[F q];simp
   have o:(decide (L[i].1<a)||decide (b<L[i].1))=true->(smp (aJ (L.take i) a b)++ [AV.si .i64 L[i].1,AV.si .i64 L[i].2]).map mk=smp (aJ (L.take (i+1)) a b):=λq=>by rw[F q,<-CM,bO]
   have y:¬(decide (L[i].1<a)||decide (b<L[i].1))=true->(smp (aJ (L.take i) a b)).map mk=smp (aJ (L.take (i+1)) a b):=λq=>by rw[l q,bO]
   have z:¬(decide (L[i].1<a)||decide (b<L[i].1))=true->(aJ (L.take i) a b).length=(aJ (L.take (i+1)) a b).length:=λq=>by rw[l q]
   conv=>whnf
   refine Idx.mk i rfl c ?_
   conv=>whnf
   refine aw (fG c rfl) ?_
   conv=>whnf
   refine ae.dec (λA=>?_) (λA=>?_)
   ·have q:(decide (L[i].1<a)||decide (b<L[i].1))=true:=by simp[A]
    conv=>whnf
    refine bF.grow 2 16 _ _ _ _ _ _ tyS (.old rfl) rfl rfl (.rw rfl d) f ?_
    conv=>whnf
    exact⟨⟨i+1,c⟩,j,An (j1:=4) (by decide) (Z3 1) rfl rfl rfl (ah.rw (by decide) rfl (hn:=n q)) rfl rfl (congrArg (AV.si .i64) g) ⟨_,rfl,e⟩ (.inl ⟨_,rfl,o q⟩)⟩
   ·conv=>whnf
    refine ae.dec (λB=>?_) (λB=>?_)
    ·have q:(decide (L[i].1<a)||decide (b<L[i].1))=true:=by simp[B]
     conv=>whnf
     refine bF.grow 2 16 _ _ _ _ _ _ tyS (.old rfl) rfl rfl (.rw rfl d) f ?_
     conv=>whnf
     exact⟨⟨i+1,c⟩,j,An (j1:=4) (by decide) (Z3 1) rfl rfl rfl (ah.rw (by decide) rfl (hn:=n q)) rfl rfl (congrArg (AV.si .i64) g) ⟨_,rfl,e⟩ (.inl ⟨_,rfl,o q⟩)⟩
    ·have q:¬(decide (L[i].1<a)||decide (b<L[i].1))=true:=by simp[A,B]
     conv=>whnf
     exact⟨⟨i+1,c⟩,j,An (j1:=1) (by decide) (Z3 1) rfl rfl rfl (ah.rw (by decide) rfl (hn:=z q)) rfl rfl (congrArg (AV.si .i64) g) ⟨_,rfl,e⟩ (.inl ⟨_,rfl,y q⟩)⟩
  ·have C:i=L.length:=by have:¬i<L.length:=λq=>h (q0o.2 q);omega
   have p:L.take i=L:=by rw[C,q0e]
   have D:=wj (s.sub (q4d i L)) a b;have E:(aJ (L.take i) a b).length<=100000:=by omega
   have I:IntKind.i64.wrap ((L.length:Int)-((aJ (L.take i) a b).length:Int))=(L.length:Int)-((aJ L a b).length:Int):=by
    rw[p]at x⊢;exact da ⟨by omega,by omega⟩
   have J:(chk size (aJ (L.take i) a b)).map mk=chk size (aJ L a b):=by rw[p];rfl
   conv=>whnf
   refine⟨aJ (L.take i) a b,.inr (.inl (.inl ⟨_,0,0,_,_,⟨rfl,by decide⟩,.inr ⟨_,rfl⟩,d,bO _⟩)),E,D.jK,?_⟩
   conv=>whnf
   exact Mw (congrArg (AV.si .i64) I) rfl J
def GM(args:List AV)(H:AH)(n:Nat)(κ:PK):Prop:=match args with
 | [x,y,z]=>∃(c size:Nat) (L:Smp) (a b:Int),x= .ptr c 0/\mk y= .si .i64 a/\mk z= .si .i64 b/\c<n/\H.get c=some (.cells (chk size L) true)/\0<size/\ct L/\
  κ (.si .i64 ((L.length:Int)-((aJ L a b).length:Int))) (H.set (some (.cells (chk size (aJ L a b)) true)) aa c) n
 |_=>False
theorem SR:ai 157 GM:=λargs H n B e C j D E K k d l=>by
 unfold GM at e;split at e
 ·obtain⟨x,y,z,rfl,m,p,q⟩:=vs3 d;obtain⟨c,size,L,a,b,rfl,r,s,f,t,g,v,e⟩:=e
  refine dj (S:=[c]) (O:=[.cells (chk size L) true]) (args0:=[.ptr 0 0,.si .i64 a,.si .i64 b]) (ai.post (ay SQ 5 _)) (by kernel_rfl) k
   (ny f t (.inr rfl)) (.cons m (.cons (aV rfl (r▸p.mk)) (.cons (aV rfl (s▸q.mk)) .nil))) l (Mz size L a b g v) λu F G ⟨w,A⟩=>?_
  subst w;refine⟨1,ke [c] n H [(0,some (.cells (chk size (aJ L a b)) true))],Z3 _,fu.put (Z3 _) rfl (λx i o ho=>?_),rfl,e⟩;simp only[Z4,Z5,or_false]at i;subst i;injection ho with ho;subst ho;exact⟨A,rfl,rfl⟩
 ·exact e.elim
def KGt:FuncId->EP:=aq 119 qA (aq 123 GJ evP)
theorem SU:aU KGt:=ag (ag az GK) CN
theorem MA{u v:AV}{H':AH}{a size:Nat}{L:Smp}(d:mkT u=v)(e:PM.get H' 0=some (.cells (chk size L) true)):∃b c f,VTo u b/\eu H' a c f/\(b=v/\PM.get c 0=some (.cells (chk size L) true)):=⟨v,H',a,λg w h=>d▸h.mkT,.refl _ _,rfl,e⟩
def GtQ(size:Nat)(L:Smp)(t:Int):PK:=λu a _=>u= .tup [.si .i64 (iD L t).1,.si .i64 (iD L t).2]/\PM.get a 0=some (.cells (chk size L) true)
theorem Pm(size:Nat)(L:Smp)(t:Int)(j:0<size)(i:ct L):post (ax KGt 5 64) [.ptr 0 0,.si .i64 t] (mkH [(0,.cells (chk size L) true)]) 1 (GtQ size L t):=by
 have k:=i.2.2;have c:=i.jK;have d:L.length<=100000:=by omega
 have f:L.length<=100000000:=by omega
 have g:(0:Int)<(size:Int):=by omega
 show ax KGt 5 64 _ _ _ _
 conv=>whnf
 refine ae.c6 (λh=>absurd g h) (λ_=>?_)
 conv=>whnf
 refine⟨0,size,_,L,rfl,rfl,rfl,j,d,c,?_⟩
 conv=>whnf
 refine⟨L,t,.inr rfl,rfl,f,?_⟩
 conv=>whnf
 refine ae.nsb (λb=>?_) (λb=>?_)
 ·have e:AV.tup [.si .i64 0,.si .i64 5]= .tup [.si .i64 (iD L t).1,.si .i64 (iD L t).2]:=by unfold iD;rw[if_neg (by simp[b])]
  conv=>whnf
  exact MA e rfl
 ·have a:plc L t<L.length/\tAt L (plc L t)=t:=by unfold has at b;exact of_decide_eq_true b
  have e:AV.tup [.si .i64 L[plc L t].2,.si .i64 0]= .tup [.si .i64 (iD L t).1,.si .i64 (iD L t).2]:=by unfold iD;rw[if_pos b,oH a.1]
  conv=>whnf
  refine Idx.mk (plc L t) rfl a.1 ?_
  conv=>whnf
  refine aw (vU a.1 rfl) ?_
  conv=>whnf
  exact MA e rfl
def MB(args:List AV)(H:AH)(n:Nat)(κ:PK):Prop:=match args with
 | [x,y]=>∃(c size:Nat) (L:Smp) (t:Int),x= .ptr c 0/\mk y= .si .i64 t/\c<n/\H.get c=some (.cells (chk size L) true)/\0<size/\ct L/\κ (.tup [.si .i64 (iD L t).1,.si .i64 (iD L t).2]) H n
 |_=>False
theorem Vn:ai 64 MB:=λargs H n A b B k C D K l a m=>by
 unfold MB at b;split at b
 ·obtain⟨x,y,rfl,p,q⟩:=vs2 a;obtain⟨c,size,L,t,rfl,r,f,j,g,v,b⟩:=b
  refine dj (S:=[c]) (O:=[.cells (chk size L) true]) (args0:=[.ptr 0 0,.si .i64 t]) (ai.post (ay SU 5 _)) (by kernel_rfl) l
   (ny f j (.inr rfl)) (.cons p (.cons (aV rfl (r▸q.mk)) .nil)) m (Pm size L t g v) λu E F ⟨w,z⟩=>?_
  subst w;refine⟨1,H,Z3 _,fu.same λi s o d e _=>?_,rfl,b⟩;cases i with
  |zero=>
   injection d with d;subst d;rw[j]at e;injection e with e;subst e;exact⟨_,z,rfl,rfl,rfl⟩
  |succ i=>simp at d
 ·exact b.elim
abbrev Op4:=Int×Int×Int×Int
def Xu(S:List Op4):List AV:=S.flatMap λo=> [.si .i64 o.1,.si .i64 o.2.1,.si .i64 o.2.2.1,.si .i64 o.2.2.2]
def rs (S:List Op4) (t:Int) (L:Smp) (v:Int) (is:Bool) (i:Nat):AE×AH:=(mkE [(0,.fr S.length 4 (Xu S)),(1,.si .i64 (t)),(5,.ptr 0 (0)),(7,.si .i64 (v)),(8,.sb (is)),(9,.si .i64 (((i:Nat):Int)))],mkH [(0,.cells (chk 4096 L) true)])
theorem Jt{P:Program}{t:TypeId}{H:AH}{a b c d:Int}(e:iH P t=some [(0,0),(0,1)]):xV P .neq t (.agg [.int .i64 a,.int .i64 b]) (.agg [.int .i64 c,.int .i64 d]) H=some (.bool (!(decide (a=c)&&(decide (b=d)&&true)))):=by
 simp[xV,e,jD,nth,pU]
def ho (M:Smp) (sz:Nat) (L:Smp) (i:Nat):AE×AH:=(mkE [(1,.fr M.length 2 (smp M)),(5,.ptr 0 (0)),(7,.si .i64 (((i:Nat):Int)))],mkH [(0,.cells (chk sz L) true)])
def rch(sz:Nat)(L:Smp):List AV:=[.si .i64 (sz:Int),.fr L.length 2 (smp L)]
theorem MC(size:Nat)(L:Smp)(c:0<size)(b:L.length<=100000)(a:∀x∈L,aN x.1/\aN x.2):ax KAl 3 119 [.ptr 0 0] (mkH [(0,.ro (chk size L))]) 1 λu H' _=>lH L u H':=by
 conv=>whnf
 refine ae.c6 (λh=>absurd (show(0:Int)<(size:Int) by omega) h) (λ_=>?_)
 conv=>whnf
 refine⟨L,rfl,rfl,rfl,b,a,⟨rfl,by decide⟩,?_⟩
 conv=>whnf
 exact lH.rw rfl rfl (fC L) (bO L)
def Ao(args:List AV)(H:AH)(n:Nat)(κ:PK):Prop:=match args with
 | [x]=>∃(b size:Nat) (l:List AV) (L:Smp),x= .ptr b 0/\H.get b=some (.cells l true)/\l.map mk=chk size L/\0<size/\L.length<=100000/\(∀x∈L,aN x.1/\aN x.2)/\Gj (λr=>r) L H n κ
 |_=>False
theorem SV:ai 119 Ao:=λargs H n y c z m A C K j a q=>by
 unfold Ao at c;split at c
 ·obtain⟨x,rfl,r⟩:=vs1 a;obtain⟨b,size,l,L,rfl,t,k,d,u,e,c⟩:=c;obtain⟨p,f,rfl⟩:=r.cD;have g:l.length=4:=by have:=congrArg List.length k;simpa[chk]using this
  have i:=oC.of (s:=chk size L) j (.inr ⟨_,t⟩) f (bw (n:=4) g) (by rw[k,Am]) (dJ size L);exact Jc EZ (λ_ _ h=>h) (MC size L d u e) c j q (by kernel_rfl) (φ0:=ph1 ⟨p.B,p.s+0,4⟩) (λw=>HR.ro1 w i) (.cons (.ptr (p:=⟨p.B,p.s+0,4⟩) (o:=0) rfl) .nil)
 ·exact c.elim
def GN(args:List AV)(H:AH)(n:Nat)(κ:PK):Prop:=qA args H n κ∨Ao args H n κ
theorem SW:ai 119 GN:=λargs H n a b=>b.elim (CN args H n a) (SV args H n a)
theorem wy{a:Type}{v:Option a}{t:PM a}:(PM.set v aa t 1).get 0=t.get 0:=by cases t<;>rfl
theorem wz{a:Type}{v:Option a}{t:PM a}:(PM.set v aa t 0).get 1=t.get 1:=by cases t<;>rfl
theorem wA{a:Type}{v:a}{t:PM a}:(PM.set (some v) aa t 1).get 1=some v:=by
 cases t with
 |nil=>rfl
 |node l u r=>cases l<;>rfl
def SX(e:Int)(s1 s2:Nat)(L M:Smp):PK:=λu a _=>u= .si .i64 e/\PM.get a 0=some (.cells (chk s1 L) true)/\PM.get a 1=some (.cells (chk s2 M) true)
theorem Pn{u:AV}{H':AH}{a s1 s2:Nat}{e:Int}{L M:Smp}{l m:List AV}(d:mk u= .si .i64 e)(f:PM.get H' 0=some (.cells l true))(g:l.map mk=chk s1 L)(i:PM.get H' 1=some (.cells m true))(j:m.map mk=chk s2 M):
 ∃v b c,VTo u v/\eu H' a b c/\SX e s1 s2 L M v b c:=
 ⟨.si .i64 e,(H'.set (some (.cells (chk s2 M) true)) aa 1).set (some (.cells (chk s1 L) true)) aa 0,a,λn w h=>by rw[<-d];exact h.mk,(eu.EX (l':=chk s2 M) i rfl j).trans (eu.EX (l':=chk s1 L) (wy.trans f) rfl g),rfl,PM.wv,wz.trans wA⟩
def KJo:FuncId->EP:=aq 119 GN (aq 221 qz evP)
theorem SY:aU KJo:=ag (ag az CK) SW
theorem MD(s1 s2:Nat)(L M:Smp)(H:0<s1)(W:s1<=4096)(G:0<s2)(C:ct L)(z:ct M):post (ax KJo 5 188) [.ptr 0 0,.ptr 1 0] (mkH [(0,.cells (chk s1 L) true),(1,.cells (chk s2 M) true)]) 2 (SX (bP s1 L M).2 s1 s2 (bP s1 L M).1.1 (bP s1 L M).1.2):=by
 have leaf:∀{u:AV} {K:AH} {X:Nat} {e:Int} {A B:Smp} {l m:List AV},bP s1 L M=((A,B),e)->mk u= .si .i64 e->PM.get K 0=some (.cells l true)->l.map mk=chk s1 A->PM.get K 1=some (.cells m true)->m.map mk=chk s2 B->∃T U V,VTo u T/\eu K X U V/\SX (bP s1 L M).2 s1 s2 (bP s1 L M).1.1 (bP s1 L M).1.2 T U V:=λY Z hb hl hc hm=>by
  rw[Y];exact Pn Z hb hl hc hm
 have N:(0:Int)<(s1:Int):=by omega
 have O:(0:Int)<(s2:Int):=by omega
 have hLl:=C.2.2;have hMl:=z.2.2;have r:L.length<=100000:=by omega
 have o:M.length<=100000:=by omega
 have d:IntKind.i64.wrap (8*(s1:Int))=((8*s1:Nat):Int):=da ⟨by omega,by omega⟩;have c:bk (smp L) 0 (L.length*2)=some (smp L):=fC L
 have i:(smp M).all oi=true:=by
  rw[Y4];intro y hy;have:=Y4.1 (b8 M) y hy;cases y<;>first|rfl|cases this
 have j:(L.length+M.length)*16<=140737488355328:=by omega
 have s:(L++M).length=L.length+M.length:=Z6;have a:bk (smp L++smp M) 0 ((L++M).length*2)=some (smp (L++M)):=by rw[<-rH];exact fC _
 have n:(L++M).length<=100000:=by omega
 have t:∀x∈L++M,aN x.1/\aN x.2:=λx P=>(q0x.1 P).elim (C.jK x) (z.jK x)
 have v:∀x∈([]:Smp),aN x.1/\aN x.2:=λx P=>by cases P
 have w: [AV.si .i64 (s1:Int),.ss (pack (aX (L++M))),.si .i64 ((aX (L++M)).length:Int),.si .i64 ((L.length+M.length:Nat):Int)].map mk=chk s1 (L++M):=by unfold chk;rw[s];rfl
 show ax KJo 5 188 _ _ _ _
 conv=>whnf
 refine ae.c6 (λh=>absurd N h) (λ_=>?_)
 conv=>whnf
 refine ae.c6 (λh=>absurd O h) (λ_=>?_)
 conv=>whnf
 refine .inl ⟨0,s1,_,L,rfl,rfl,rfl,H,r,C.jK,?_⟩
 conv=>whnf
 refine ae.dec (λD=>?_) (λD=>?_)
 ·have I:L=[]:=Y5 (q3r.1 D)
  conv=>whnf
  refine .inl ⟨1,s2,_,M,rfl,rfl,rfl,G,o,z.jK,?_⟩
  conv=>whnf
  refine ae.dec (λp=>?_) (λp=>?_)
  ·have b:bP s1 L M=if(aX (L++M)).length<=8*s1 then((L++M,[]),0)else((L,M),2):=by unfold bP;rw[if_neg (by simp[pZ,I])]
   conv=>whnf
   refine .inr ⟨0,s1,_,L,rfl,rfl,rfl,H,r,C.jK,⟨rfl,by decide⟩,?_⟩
   conv=>whnf
   refine .inl ⟨1,s2,_,M,rfl,rfl,rfl,G,o,z.jK,?_⟩
   conv=>whnf
   refine bF.grow 2 16 _ _ _ _ _ _ tyS .fr (bh M) i (.rw rfl c) j ?_
   conv=>whnf
   refine⟨L++M,.inr (.inl (.inl ⟨_,0,0,_,_,⟨congrArg (λk=>AV.rw _ 0 k 2 0) s.symm,by decide⟩,.inr ⟨_,rfl⟩,a,bO _⟩)),n,t,?_⟩
   conv=>whnf
   refine ae.dec (λg=>?_) (λg=>?_)
   ·have e:bP s1 L M=((L,M),2):=by rw[b,if_neg (by rw[d]at g;omega)]
    conv=>whnf
    exact leaf e rfl rfl rfl rfl rfl
   ·have e:bP s1 L M=((L++M,[]),0):=by rw[b,if_pos (by rw[d]at g;omega)]
    conv=>whnf
    refine⟨[],.inl ⟨rfl,rfl⟩,by decide,v,?_⟩
    conv=>whnf
    exact leaf e rfl rfl w rfl rfl
  ·have f:0<M.length:=q2w λq=>p (by exact q3r.2 q)
   conv=>whnf
   refine Idx.mk 0 rfl f ?_
   conv=>whnf
   refine aw (fG f rfl) ?_;have b:bP s1 L M=if(aX (L++M)).length<=8*s1 then((L++M,[]),0)else((L,M),2):=by unfold bP;rw[if_neg (by simp[pZ,I])]
   conv=>whnf
   refine .inr ⟨0,s1,_,L,rfl,rfl,rfl,H,r,C.jK,⟨rfl,by decide⟩,?_⟩
   conv=>whnf
   refine .inl ⟨1,s2,_,M,rfl,rfl,rfl,G,o,z.jK,?_⟩
   conv=>whnf
   refine bF.grow 2 16 _ _ _ _ _ _ tyS .fr (bh M) i (.rw rfl c) j ?_
   conv=>whnf
   refine⟨L++M,.inr (.inl (.inl ⟨_,0,0,_,_,⟨congrArg (λk=>AV.rw _ 0 k 2 0) s.symm,by decide⟩,.inr ⟨_,rfl⟩,a,bO _⟩)),n,t,?_⟩
   conv=>whnf
   refine ae.dec (λg=>?_) (λg=>?_)
   ·have e:bP s1 L M=((L,M),2):=by rw[b,if_neg (by rw[d]at g;omega)]
    conv=>whnf
    exact leaf e rfl rfl rfl rfl rfl
   ·have e:bP s1 L M=((L++M,[]),0):=by rw[b,if_pos (by rw[d]at g;omega)]
    conv=>whnf
    refine⟨[],.inl ⟨rfl,rfl⟩,by decide,v,?_⟩
    conv=>whnf
    exact leaf e rfl rfl w rfl rfl
 ·have J:0<L.length:=q2w λq=>D (by exact q3r.2 q)
  have E:L.length-1<L.length:=by omega
  have Q:IntKind.i64.wrap ((L.length:Int)-1)=((L.length-1:Nat):Int):=(da ⟨by omega,by omega⟩).trans (by omega)
  conv=>whnf
  refine Idx.mk (L.length-1) Q E ?_
  conv=>whnf
  refine aw (fG E rfl) ?_
  conv=>whnf
  refine .inl ⟨1,s2,_,M,rfl,rfl,rfl,G,o,z.jK,?_⟩
  conv=>whnf
  refine ae.dec (λp=>?_) (λp=>?_)
  ·have R:M=[]:=Y5 (q3r.1 p);have b:bP s1 L M=if(aX (L++M)).length<=8*s1 then((L++M,[]),0)else((L,M),2):=by unfold bP;rw[if_neg (by simp[pZ,R])]
   conv=>whnf
   refine .inr ⟨0,s1,_,L,rfl,rfl,rfl,H,r,C.jK,⟨rfl,by decide⟩,?_⟩
   conv=>whnf
   refine .inl ⟨1,s2,_,M,rfl,rfl,rfl,G,o,z.jK,?_⟩
   conv=>whnf
   refine bF.grow 2 16 _ _ _ _ _ _ tyS .fr (bh M) i (.rw rfl c) j ?_
   conv=>whnf
   refine⟨L++M,.inr (.inl (.inl ⟨_,0,0,_,_,⟨congrArg (λk=>AV.rw _ 0 k 2 0) s.symm,by decide⟩,.inr ⟨_,rfl⟩,a,bO _⟩)),n,t,?_⟩
   conv=>whnf
   refine ae.dec (λg=>?_) (λg=>?_)
   ·have e:bP s1 L M=((L,M),2):=by rw[b,if_neg (by rw[d]at g;omega)]
    conv=>whnf
    exact leaf e rfl rfl rfl rfl rfl
   ·have e:bP s1 L M=((L++M,[]),0):=by rw[b,if_pos (by rw[d]at g;omega)]
    conv=>whnf
    refine⟨[],.inl ⟨rfl,rfl⟩,by decide,v,?_⟩
    conv=>whnf
    exact leaf e rfl rfl w rfl rfl
  ·have f:0<M.length:=q2w λq=>p (by exact q3r.2 q)
   conv=>whnf
   refine Idx.mk 0 rfl f ?_
   conv=>whnf
   refine aw (fG f rfl) ?_
   have hd:decide (M[0].1<=L[L.length-1].1)=pZ L M:=by
    unfold pZ rD;have a1:decide (L≠[])=true:=by rw[decide_eq_true_eq];intro q;rw[q]at J;cases J
    have a2:decide (M≠[])=true:=by rw[decide_eq_true_eq];intro q;rw[q]at f;cases f
    rw[eo f,eo E,a1,a2];rfl
   conv=>whnf
   refine ae.dec (λF=>?_) (λF=>?_)
   ·have e:bP s1 L M=((L,M),1):=by unfold bP;rw[if_pos (hd▸decide_eq_true F)]
    conv=>whnf
    exact leaf e rfl rfl rfl rfl rfl
   ·have S:¬pZ L M=true:=by rw[<-hd,decide_eq_true_eq];exact F
    have b:bP s1 L M=if(aX (L++M)).length<=8*s1 then((L++M,[]),0)else((L,M),2):=by unfold bP;rw[if_neg S]
    conv=>whnf
    refine .inr ⟨0,s1,_,L,rfl,rfl,rfl,H,r,C.jK,⟨rfl,by decide⟩,?_⟩
    conv=>whnf
    refine .inl ⟨1,s2,_,M,rfl,rfl,rfl,G,o,z.jK,?_⟩
    conv=>whnf
    refine bF.grow 2 16 _ _ _ _ _ _ tyS .fr (bh M) i (.rw rfl c) j ?_
    conv=>whnf
    refine⟨L++M,.inr (.inl (.inl ⟨_,0,0,_,_,⟨congrArg (λk=>AV.rw _ 0 k 2 0) s.symm,by decide⟩,.inr ⟨_,rfl⟩,a,bO _⟩)),n,t,?_⟩
    conv=>whnf
    refine ae.dec (λg=>?_) (λg=>?_)
    ·have e:bP s1 L M=((L,M),2):=by rw[b,if_neg (by rw[d]at g;omega)]
     conv=>whnf
     exact leaf e rfl rfl rfl rfl rfl
    ·have e:bP s1 L M=((L++M,[]),0):=by rw[b,if_pos (by rw[d]at g;omega)]
     conv=>whnf
     refine⟨[],.inl ⟨rfl,rfl⟩,by decide,v,?_⟩
     conv=>whnf
     exact leaf e rfl rfl w rfl rfl
def GO(args:List AV)(H:AH)(n:Nat)(κ:PK):Prop:=match args with
 | [x,y]=>∃(b c s1 s2:Nat) (L M:Smp),x= .ptr b 0/\y= .ptr c 0/\b≠c/\b<n/\c<n/\H.get b=some (.cells (chk s1 L) true)/\H.get c=some (.cells (chk s2 M) true)/\0<s1/\s1<=4096/\0<s2/\ct L/\ct M/\
  κ (.si .i64 (bP s1 L M).2) ((H.set (some (.cells (chk s2 (bP s1 L M).1.2) true)) aa c).set (some (.cells (chk s1 (bP s1 L M).1.1) true)) aa b) n
 |_=>False
theorem SZ:ai 188 GO:=λargs H n D d E k F G K l a m=>by
 unfold GO at d;split at d
 ·obtain⟨x,y,rfl,p,q⟩:=vs2 a;obtain⟨b,c,s1,s2,L,M,rfl,rfl,e,f,g,r,s,t,h,v,w,z,d⟩:=d
  refine dj (S:=[b,c]) (O:=[.cells (chk s1 L) true,.cells (chk s2 M) true]) (args0:=[.ptr 0 0,.ptr 1 0]) (ai.post (ay SY 5 _)) (by kernel_rfl) l
   (Ah e f g r s (.inr rfl) (.inr rfl)) (.cons p (.cons q .nil)) m (MD s1 s2 L M t h v w z) λu I J ⟨A,B,C⟩=>?_
  subst A;refine⟨2,ke [b,c] n H [(0,some (.cells (chk s1 (bP s1 L M).1.1) true)),(1,some (.cells (chk s2 (bP s1 L M).1.2) true))],Z3 _,fu.put (Z3 _) rfl (λx j o ho=>?_),rfl,d⟩;simp only[Z4,Z5,or_false]at j;rcases j with rfl|rfl
  ·injection ho with ho;subst ho;exact⟨B,rfl,rfl⟩
  ·injection ho with ho;subst ho;exact⟨C,rfl,rfl⟩
 ·exact d.elim
def qB(L:Smp)(k:Nat):Bool:=decide (k<L.length-1)&&decide (2*(aX (L.take k)).length<(aX L).length)
def ur(L:Smp):Nat->Nat->Nat
 |0,k=>k
 |f+1,k=>if qB L k then ur L f (k+1)else k
def bX(L:Smp):Nat:=ur L (L.length-1) 1
theorem Po{L:Smp}{k:Nat}(h:qB L k=true):ur L (L.length-k) k=ur L (L.length-(k+1)) (k+1):=by
 have a:k<L.length-1:=by unfold qB at h;simp at h;exact h.1
 rw[show L.length-k=(L.length-(k+1))+1 by omega];show(if qB L k=true then _ else _)=_;rw[if_pos h]
theorem yP{L:Smp}{f k:Nat}(h:qB L k=false):ur L f k=k:=by cases f<;>simp[ur,h]
theorem Ap(L:Smp){k:Nat}(h:k<=L.length):AV.fr k 2 ((smp L).take (k*2))= .fr (L.take k).length 2 (smp (L.take k)):=by rw[vV,Y7,q3k h]
theorem GP(L:Smp)(k:Nat):AV.fr (L.length-k) 2 ((smp L).drop (k*2))= .fr (L.drop k).length 2 (smp (L.drop k)):=by rw[rq,q0g]
def Vo(args:List AV)(H:AH)(n:Nat)(κ:PK):Prop:=match args with
 | [x,y]=>∃(b c s1 s2:Nat) (L M:Smp),x= .ptr b 0/\y= .ptr c 0/\b≠c/\b<n/\c<n/\H.get b=some (.cells (rch s1 L) true)/\H.get c=some (.cells (rch s2 M) true)/\0<s1/\s1<=4096/\ct L/\ct M/\
  κ (.si .i64 (bP s1 L M).2) ((H.set (some (.cells (rch s2 (bP s1 L M).1.2) true)) aa c).set (some (.cells (rch s1 (bP s1 L M).1.1) true)) aa b) n
 |_=>False
def GQ(f:Nat->Smp->AV)(args:List AV)(H:AH)(n:Nat)(κ:PK):Prop:=match args with
 | [x]=>∃(b size:Nat) (l:List AV) (L:Smp),x= .ptr b 0/\H.get b=some (.cells l true)/\l.map mk=chk size L/\κ (f size L) H n
 |_=>False
theorem ME{f:FuncId}{g:Nat->Smp->AV}(e:bM Tryz.prog f=true)(q:∀size L,flat.flat1 (g size L)=true)(d:∀size L,ax evP 3 f [.ptr 0 0] (mkH [(0,.ro (chk size L))]) 1 λu _ _=>mkT u=mkT (g size L))(r:∀size L,mkT (g size L)=g size L):ai f (GQ g):=λargs H n D c E t F G K k a w=>by
 unfold GQ at c;split at c
 ·obtain⟨x,rfl,y⟩:=vs1 a;obtain⟨b,size,l,L,rfl,z,m,c⟩:=c;obtain⟨p,h,rfl⟩:=y.cD;have i:l.length=4:=by have:=congrArg List.length m;simpa[chk]using this
  have j:=oC.of (s:=chk size L) k (.inr ⟨_,z⟩) h (bw (n:=4) i) (by rw[m,Am]) (dJ size L);exact ic az (v:=g size L) (vO (q size L)) (d size L) (by rw[r];exact c) k w e (φ0:=ph1 ⟨p.B,p.s+0,4⟩) (λC=>HR.ro1 C j) (.cons (.ptr (p:=⟨p.B,p.s+0,4⟩) (o:=0) rfl) .nil)
 ·exact c.elim
def S1(_:Nat)(L:Smp):AV:= .si .i64 (L.length:Int)
def MF(_:Nat)(L:Smp):AV:= .si .i64 ((pack (aX L)).length:Int)
theorem Vp:ai 186 (GQ S1):=ME (by kernel_rfl) (λ_ _=>rfl) (λsize L=>by
 conv=>whnf
 rfl) λ_ _=>rfl
def KDb:FuncId->EP:=aq 221 qz evP
theorem S2:aU KDb:=ag az CK
theorem Ju(L:Smp)(b:L.length<=100000)(a:∀x∈L,aN x.1/\aN x.2)(c:L.length≠0):ax KDb 3 218 [.fr L.length 2 (smp L)] .nil 0 λu _ _=>mkT u=mkT (.si .i64 ((aX L).length:Int)):=by
 conv=>whnf
 refine⟨L,.inr (.inl (.inr ⟨_,rfl,bO _,c⟩)),b,a,?_⟩
 conv=>whnf
 rfl
def CS(args:List AV)(H:AH)(n:Nat)(κ:PK):Prop:=match args with
 | [x]=>∃L:Smp,x= .fr L.length 2 (smp L)/\L.length<=100000/\(∀x∈L,aN x.1/\aN x.2)/\L.length≠0/\κ (.si .i64 ((aX L).length:Int)) H n
 |_=>False
theorem Pp:ai 218 CS:=λargs H n o b c f p q K e a g=>by
 unfold CS at b;split at b
 ·obtain⟨x,rfl,i⟩:=vs1 a;obtain⟨L,rfl,j,d,k,b⟩:=b;exact ic S2 (v:= .si .i64 ((aX L).length:Int)) rfl (Ju L j d k) b e g (by kernel_rfl) (φ0:=⟨λ_=>none,c.z,c.z,λ_ _=>False⟩) (λm=>e.yI (fP m) (λ_ _ h=>by cases h) (λ_ h=>h)) (.cons (lD (ψ:=⟨λ_=>none,c.z,c.z,λ_ _=>False⟩) (λ_ h=>h) rfl i) .nil)
 ·exact b.elim
theorem S3:fU CS:= .pure λargs H n i a=>by
 unfold CS at*;split at a
 ·obtain⟨L,b,c,d,e,f⟩:=a;exact⟨_,f,λg h=>⟨L,b,c,d,e,h⟩⟩
 ·exact a.elim
def SpQ(sz:Nat)(L:Smp)(k:Nat):PK:=λu a _=>u= .tup [.ptr 1 0,.int .i64 0]/\PM.get a 0=some (.cells (chk sz (L.take k)) true)/\PM.get a 1=some (.cells (chk sz (L.drop k)) true)
def spt (sz:Nat) (L:Smp) (k:Nat):AE×AH:=(mkE [(0,.ptr 0 (0)),(4,.fr L.length 2 (smp L)),(5,.si .i64 (((k:Nat):Int)))],mkH [(0,.cells (chk sz L) true)])
theorem GR{sz:Nat}{L:Smp}{k:Nat}{p n:Nat}{σ:AE}{H:AH}(a:p<=1)(c:aj (pa 0) σ= .ptr 0 (0))(d:aj (pa 4) σ= .fr L.length 2 (smp L))(e:mk (aj (pa 5) σ)= .si .i64 (((k:Nat):Int)))(f:∃l,H.get 0=some (.cells l true)/\mz H 1 (λb=>b) l (chk sz L)):Cov p σ H n ((spt sz L k).1,(spt sz L k).2,1):=
 Cov.ofA a ⟨.ptr (by decide) c,ah.frE d,.int e,trivial⟩ ⟨.inl (f.elim λl h=>⟨_,h.1,ao.st h.2⟩),trivial⟩ rfl
def Pq:DT:=[(7,[(some 0,[5]),(some 0,[4]),(some 0,[20]),(some 0,[21]),(some 0,[19,22]),(some 0,[23]),(some 0,[4,24]),(some 0,[5,24]),(some 0,[25,26,24]),(none,[27,24]),(some 0,[28,24]),(some 2,[0,24]),(some 3,[30,24]),(some 4,[31,24]),(some 5,[32,24]),(some 0,[29,33,24]),(some 0,[24,34])])]
def KSp:FuncId->EP:=bb 185 Pq (cf 218 CS (aq 119 qA (aq 221 qz evP)))
theorem MG:aU KSp:=au (aO (ag (ag az CK) CN) Pp S3) (by kernel_rfl) (by kernel_rfl)
theorem MH{sz:Nat}{L:Smp}:∀{H:AH} {m:Nat} {r:Nat->Nat},mz H m r (chk sz L) (chk sz L):= .cons (.int rfl) (.cons (.str rfl) (.cons (.int rfl) (.cons (.int rfl) .nil)))
theorem E1(sz:Nat)(L:Smp)(a:0<sz)(c:L.length<2):post (ax KSp 4 185) [.ptr 0 0] (mkH [(0,.cells (chk sz L) true)]) 1 (λu H' _=>u= .tup [.nil,.int .i64 5]/\PM.get H' 0=some (.cells (chk sz L) true)):=by
 have b:(0:Int)<(sz:Int):=by omega
 show ax KSp 4 185 _ _ _ _
 conv=>whnf
 refine ae.c6 (λh=>absurd b h) (λ_=>?_)
 conv=>whnf
 refine ae.dec (λ_=>?_) (λq=>absurd (show(L.length:Int)<2 by omega) q)
 conv=>whnf
 exact⟨_,_,_,.refl _,.refl _ _,rfl,rfl⟩
theorem E2(sz:Nat)(L:Smp)(w:0<sz)(v:ct L)(Q:2<=L.length):post (ax KSp 4 185) [.ptr 0 0] (mkH [(0,.cells (chk sz L) true)]) 1 (SpQ sz L (bX L)):=by
 have F:(0:Int)<(sz:Int):=by omega
 have R:=v.2.2;have x:=v.jK;have y:L.length<=100000:=by omega
 have leaf:∀{z:AH} {G k:Nat} {l m:List AV},k=bX L->PM.get z 0=some (.cells l true)->l.map mk=chk sz (L.take k)->PM.get z 1=some (.cells m true)->m.map mk=chk sz (L.drop k)->∃B C D,VTo (.tup [.ptr 1 0,.int .i64 0]) B/\eu z G C D/\SpQ sz L (bX L) B C D:=λA H I J K=>by
  rw[<-A];exact⟨_,_,_,.refl _,(eu.EX (l':=chk sz (L.drop _)) J rfl K).trans (eu.EX (l':=chk sz (L.take _)) (wy.trans H) rfl I),rfl,PM.wv,wz.trans wA⟩
 have g:IntKind.i64.wrap ((L.length:Int)-1)=((L.length-1:Nat):Int):=(da ⟨by omega,by omega⟩).trans (by omega);show ax KSp 4 185 _ _ _ _
 conv=>whnf
 refine ae.c6 (λh=>absurd F h) (λ_=>?_)
 conv=>whnf
 refine ae.dec (λq=>absurd q (by omega)) (λ_=>?_)
 conv=>whnf
 refine⟨0,sz,_,L,rfl,rfl,rfl,w,y,x,?_⟩
 conv=>whnf
 refine aR.mk {k:Nat//1<=k/\k<=L.length-1/\ur L (L.length-k) k=bX L} 1 (λk=>spt sz L k.val) (λk=>L.length-k.val) ⟨1,Z3 _,by omega,rfl⟩ ?_ ?_
 ·exact GR (Z3 1) rfl rfl rfl ⟨_,rfl,MH⟩
 ·intro⟨k,N,O,b⟩;have a:k<=L.length:=by omega
  have c:=v.sub (q4d k L);have i:=v.sub (List.drop_sublist k L);have d:(L.take k).length<=100000:=by rw[Y7];omega
  have j:(L.drop k).length<=100000:=by rw[q0g];omega
  have e:(L.take k).length≠0:=by rw[Y7];omega
  have n:(L.drop k).length≠0:=by rw[q0g];omega
  have P:=CB (L.take k);have E:(aX (L.take k)).length<=13600000:=by omega
  have A:IntKind.i64.wrap ((k:Int)+1)=((k+1:Nat):Int):=da ⟨by omega,by omega⟩;have o:IntKind.i64.wrap (2*((aX (L.take k)).length:Int))=((2*(aX (L.take k)).length:Nat):Int):=(da ⟨by omega,by omega⟩).trans (by omega);have p: [AV.si .i64 (sz:Int),.ss (pack (aX (L.take k))),.si .i64 ((aX (L.take k)).length:Int),.si .i64 (k:Int)].map mk=chk sz (L.take k):=by unfold chk;rw[Y7,q3k a];rfl
  have r: [AV.si .i64 (sz:Int),.ss (pack (aX (L.drop k))),.si .i64 ((aX (L.drop k)).length:Int),.si .i64 ((L.length-k:Nat):Int)].map mk=chk sz (L.drop k):=by unfold chk;rw[q0g];rfl
  conv=>whnf
  refine ae.dec (λh=>?_) (λh=>?_)
  ·have s:k<L.length-1:=by rw[g]at h;exact q0o.1 h
   conv=>whnf
   refine RSl.mk 0 k rfl rfl (.inl rfl) (X5 _) a ?_
   conv=>whnf
   refine⟨L.take k,Ap L a,d,c.jK,e,?_⟩
   conv=>whnf
   refine ae.dec (λt=>?_) (λt=>?_)
   ·have u:qB L k=true:=by rw[o]at t;unfold qB;rw[decide_eq_true s,Bool.true_and];exact decide_eq_true (q0o.1 t)
    conv=>whnf
    exact⟨⟨k+1,by omega,by omega,(Po u).symm.trans b⟩,(show L.length-(k+1)<L.length-k by omega),GR (Z3 1) rfl rfl (congrArg (AV.si .i64) A) ⟨_,rfl,MH⟩⟩
   ·have f:k=bX L:=by rw[<-b,yP (by rw[o]at t;unfold qB;rw[decide_eq_true s,Bool.true_and];exact decide_eq_false (λq=>t (q0o.2 q)))]
    conv=>whnf
    refine RSl.mk k _ rfl rfl (.inl rfl) a (Z3 _) ?_
    conv=>whnf
    refine⟨L.drop k,.inr (.inl (.inr ⟨_,GP L k,bO _,n⟩)),j,i.jK,?_⟩
    conv=>whnf
    refine RSl.mk 0 k rfl rfl (.inl rfl) (X5 _) a ?_
    conv=>whnf
    refine⟨L.take k,.inr (.inl (.inr ⟨_,Ap L a,bO _,e⟩)),d,c.jK,?_⟩
    conv=>whnf
    exact leaf f rfl p rfl r
  ·have f:k=bX L:=by rw[<-b,yP (by rw[g]at h;unfold qB;rw[decide_eq_false (λq=>h (q0o.2 q))];rfl)]
   conv=>whnf
   refine RSl.mk k _ rfl rfl (.inl rfl) a (Z3 _) ?_
   conv=>whnf
   refine⟨L.drop k,.inr (.inl (.inr ⟨_,GP L k,bO _,n⟩)),j,i.jK,?_⟩
   conv=>whnf
   refine RSl.mk 0 k rfl rfl (.inl rfl) (X5 _) a ?_
   conv=>whnf
   refine⟨L.take k,.inr (.inl (.inr ⟨_,Ap L a,bO _,e⟩)),d,c.jK,?_⟩
   conv=>whnf
   exact leaf f rfl p rfl r
def CT(args:List AV)(H:AH)(n:Nat)(κ:PK):Prop:=match args with
 | [x]=>∃(c sz:Nat) (L:Smp),x= .ptr c 0/\c<n/\H.get c=some (.cells (chk sz L) true)/\0<sz/\ct L/\(L.length<2->κ (.tup [.nil,.int .i64 5]) H n)/\
  (2<=L.length->κ (.tup [.ptr n 0,.int .i64 0]) ((H.set (some (.cells (chk sz (L.drop (bX L))) true)) aa n).set (some (.cells (chk sz (L.take (bX L))) true)) aa c) (n+1))
 |_=>False
theorem RN{c n:Nat}{H H':AH}{sz:Nat}{L:Smp}(d:H.get c=some (.cells (chk sz L) true))(e:PM.get H' 0=some (.cells (chk sz L) true)):fu [c] n ([c]:List Nat).length H H' H:=fu.same λi s o a b _=>by
 cases i with
 |zero=>
  injection a with a;subst a;rw[d]at b;injection b with b;subst b;exact⟨_,e,rfl,rfl,rfl⟩
 |succ i=>simp at a
theorem Pr:ai 185 CT:=λargs H n z g A q B C K k a l=>by
 unfold CT at g;split at g
 ·obtain⟨x,rfl,m⟩:=vs1 a;obtain⟨c,sz,L,rfl,d,h,e,r,s,t⟩:=g;rcases q3d L.length 2 with f|f
  ·refine dj (S:=[c]) (O:=[.cells (chk sz L) true]) (args0:=[.ptr 0 0]) (ai.post (ay MG 4 _)) (by kernel_rfl) k
    (ny d h (.inr rfl)) (.cons m .nil) l (E1 sz L e f) λu v w ⟨i,j⟩=>?_
   subst i;exact⟨1,H,Z3 _,RN h j,rfl,s f⟩
  ·refine dj (S:=[c]) (O:=[.cells (chk sz L) true]) (args0:=[.ptr 0 0]) (ai.post (ay MG 4 _)) (by kernel_rfl) k
    (ny d h (.inr rfl)) (.cons m .nil) l (E2 sz L e r f) λu v w ⟨i,j,y⟩=>?_
   subst i;refine⟨2,ke [c] n H [(0,some (.cells (chk sz (L.take (bX L))) true)),(1,some (.cells (chk sz (L.drop (bX L))) true))],q2b 1,fu.put (q2b 1) rfl (λx p o ho=>?_),rfl,t f⟩;simp only[Z4,Z5,or_false]at p;rcases p with rfl|rfl
   ·injection ho with ho;subst ho;exact⟨j,rfl,rfl⟩
   ·injection ho with ho;subst ho;exact⟨y,rfl,rfl⟩
 ·exact g.elim
theorem VTo.MI{a b c:AV}{x y:Int}{q:Bool}(g:mk a= .si .i64 x)(i:mk b= .si .i64 y)(j:mk c= .sb q):VTo (.tup [.agg [a,b],c]) (.tup [.agg [.si .i64 x,.si .i64 y],.sb q]):=λr w h=>by
 obtain⟨cs,rfl,k⟩:=h.eH;obtain⟨s,t,rfl,l,m⟩:=vs2 k;obtain⟨u,rfl,n⟩:=l.dX;obtain⟨v,z,rfl,o,p⟩:=vs2 n;have d:=o.mk;have e:=p.mk;have f:=m.mk;rw[g]at d;rw[i]at e;rw[j]at f;exact .tup (.cons (.agg (.cons d (.cons e .nil))) (.cons f .nil))
def FLv(i:Nat)(L:Smp):AV:= .tup [.agg [.si .i64 (tAt L i),.si .i64 (vAt L i)],.sb (decide ((0:Int)<(L.length:Int)))]
def FLQ(i sz:Nat)(L:Smp):PK:=λu a _=>u=FLv i L/\PM.get a 0=some (.cells (chk sz L) true)
theorem uJ{i sz d:Nat}{L:Smp}{a b c:AV}{H':AH}(g:mk a= .si .i64 (tAt L i))(h:mk b= .si .i64 (vAt L i))(j:mk c= .sb (decide ((0:Int)<(L.length:Int))))(k:PM.get H' 0=some (.cells (chk sz L) true)):∃v e f,VTo (.tup [.agg [a,b],c]) v/\eu H' d e f/\FLQ i sz L v e f:=⟨_,H',d,VTo.MI g h j,.refl _ _,rfl,k⟩
def KFL:FuncId->EP:=aq 119 qA evP
theorem S4:aU KFL:=ag az CN
theorem Jv(sz:Nat)(L:Smp)(k:0<sz)(j:ct L):post (ax KFL 4 121) [.ptr 0 0] (mkH [(0,.cells (chk sz L) true)]) 1 (FLQ (0) sz L):=by
 have o:=j.2.2;have c:=j.jK;have d:L.length<=100000:=by omega
 have e:∀i,¬(0:Int)<(L.length:Int)->AV.si .i64 0= .si .i64 (tAt L i):=λi h=>by rw[Y5 (show L.length=0 by omega)];rfl
 have f:∀i,¬(0:Int)<(L.length:Int)->AV.si .i64 0= .si .i64 (vAt L i):=λi h=>by rw[Y5 (show L.length=0 by omega)];rfl
 show ax KFL 4 121 _ _ _ _
 conv=>whnf
 refine⟨0,sz,_,L,rfl,rfl,rfl,k,d,c,?_⟩
 conv=>whnf
 refine ae.dec (λh=>?_) (λh=>?_)
 ·have a:¬(0:Int)<(L.length:Int):=by omega
  have g:AV.sb false= .sb (decide ((0:Int)<(L.length:Int))):=by rw[decide_eq_false a]
  conv=>whnf
  exact uJ (e _ a) (f _ a) g rfl
 ·have a:(0:Int)<(L.length:Int):=by omega
  have b:0<L.length:=by omega
  have g:AV.sb true= .sb (decide ((0:Int)<(L.length:Int))):=by rw[decide_eq_true a]
  have l:(0:Int)=((0:Nat):Int):=rfl
  have m:AV.si .i64 L[0].1= .si .i64 (tAt L (0)):=by rw[eo b]
  have n:AV.si .i64 L[0].2= .si .i64 (vAt L (0)):=by rw[oH b]
  conv=>whnf
  refine Idx.mk (0) l b ?_
  conv=>whnf
  refine aw (fG b rfl) ?_
  conv=>whnf
  exact uJ m n g rfl
theorem MJ(sz:Nat)(L:Smp)(k:0<sz)(j:ct L):post (ax KFL 4 60) [.ptr 0 0] (mkH [(0,.cells (chk sz L) true)]) 1 (FLQ (L.length-1) sz L):=by
 have o:=j.2.2;have c:=j.jK;have d:L.length<=100000:=by omega
 have e:∀i,¬(0:Int)<(L.length:Int)->AV.si .i64 0= .si .i64 (tAt L i):=λi h=>by rw[Y5 (show L.length=0 by omega)];rfl
 have f:∀i,¬(0:Int)<(L.length:Int)->AV.si .i64 0= .si .i64 (vAt L i):=λi h=>by rw[Y5 (show L.length=0 by omega)];rfl
 show ax KFL 4 60 _ _ _ _
 conv=>whnf
 refine⟨0,sz,_,L,rfl,rfl,rfl,k,d,c,?_⟩
 conv=>whnf
 refine ae.dec (λh=>?_) (λh=>?_)
 ·have a:¬(0:Int)<(L.length:Int):=by omega
  have g:AV.sb false= .sb (decide ((0:Int)<(L.length:Int))):=by rw[decide_eq_false a]
  conv=>whnf
  exact uJ (e _ a) (f _ a) g rfl
 ·have a:(0:Int)<(L.length:Int):=by omega
  have b:L.length-1<L.length:=by omega
  have g:AV.sb true= .sb (decide ((0:Int)<(L.length:Int))):=by rw[decide_eq_true a]
  have l:IntKind.i64.wrap ((L.length:Int)-1)=((L.length-1:Nat):Int):=(da ⟨by omega,by omega⟩).trans (by omega);have m:AV.si .i64 L[L.length-1].1= .si .i64 (tAt L (L.length-1)):=by rw[eo b]
  have n:AV.si .i64 L[L.length-1].2= .si .i64 (vAt L (L.length-1)):=by rw[oH b]
  conv=>whnf
  refine Idx.mk (L.length-1) l b ?_
  conv=>whnf
  refine aw (fG b rfl) ?_
  conv=>whnf
  exact uJ m n g rfl
def CU(i:Smp->Nat)(args:List AV)(H:AH)(n:Nat)(κ:PK):Prop:=match args with
 | [x]=>∃(c sz:Nat) (L:Smp),x= .ptr c 0/\c<n/\H.get c=some (.cells (chk sz L) true)/\0<sz/\ct L/\κ (FLv (i L) L) H n
 |_=>False
theorem CV{f:FuncId}{i:Smp->Nat}(e:bM Tryz.prog f=true)(d:∀(sz:Nat) (L:Smp),0<sz->ct L->post (ax KFL 4 f) [.ptr 0 0] (mkH [(0,.cells (chk sz L) true)]) 1 (FLQ (i L) sz L)):ai f (CU i):=λargs H n t b v l w y K m a o=>by
 unfold CU at b;split at b
 ·obtain⟨x,rfl,p⟩:=vs1 a;obtain⟨c,sz,L,rfl,g,k,h,q,b⟩:=b
  refine dj (S:=[c]) (O:=[.cells (chk sz L) true]) (args0:=[.ptr 0 0]) (ai.post (ay S4 4 _)) e m
   (ny g k (.inr rfl)) (.cons p .nil) o (d sz L h q) λu z A ⟨r,s⟩=>?_
  subst r;exact⟨1,H,Z3 _,RN k s,rfl,b⟩
 ·exact b.elim
theorem Pt:ai 121 (CU λ_=>0):=CV (by kernel_rfl) Jv
theorem S5:ai 60 (CU λL=>L.length-1):=CV (by kernel_rfl) MJ
theorem Up.app{A B:Smp}:Up (A++B)<->Up A/\Up B/\∀x∈A,∀y∈B,x.1<y.1:=List.pairwise_append
def ew(L:Smp)(t v p:Int):Smp×Int:=if has L t then(if(bg p (vAt L (plc L t)) v).2≠0 then(L,(bg p (vAt L (plc L t)) v).2)else(kZ L t (bg p (vAt L (plc L t)) v).1,0))else(jJ L t v,0)
theorem E3(p a b:Int):(bg p a b).2≠2:=by
 unfold bg
 repeat' split
 all_goals exact λq=>absurd q (by simp)
theorem s6{sz:Nat}{L:Smp}{t v p:Int}(a:0<=t/\t<1099511627776):fg sz L t v p=if(ew L t v p).2≠0 then(L,(ew L t v p).2)else qu sz L (ew L t v p).1:=by
 unfold fg ew;rw[if_neg (by omega)];by_cases h:has L t=true
 ·rw[if_pos h,if_pos h];by_cases q:(bg p (vAt L (plc L t)) v).2≠0
  ·rw[if_pos q,if_pos q];simp[q]
  ·rw[if_neg q,if_neg q];simp
 ·rw[if_neg h,if_neg h];simp
theorem MK(L:Smp)(t v p:Int):(ew L t v p).2≠2:=by
 unfold ew;split
 ·split
  ·exact E3 _ _ _
  ·exact λq=>absurd q (by simp)
 ·exact λq=>absurd q (by simp)
theorem CW{L:Smp}{t v p:Int}(h:(ew L t v p).2≠0):(ew L t v p).1=L:=by
 unfold ew at h⊢;split
 ·split
  ·rfl
  ·rename_i a b;rw[if_pos a,if_neg b]at h;exact absurd rfl h
 ·rename_i a;rw[if_neg a]at h;exact absurd rfl h
theorem ML{A X:Smp}{t:Int}(h:∀x∈A,x.1<t):plc (A++X) t=A.length+plc X t:=by
 induction A with
 |nil=>simp
 |cons a A b=>
  rw[q1s,plc,if_pos (h a (by simp)),b λx c=>h x (X7 _ c)];simp only[Z8];omega
theorem Jw{M B:Smp}{t:Int}(h:∀x∈B,t<x.1):plc (M++B) t=plc M t:=by
 induction M with
 |nil=>
  cases B with
  |nil=>rfl
  |cons b B=>
   have c:¬b.1<t:=by have:=h b (by simp);omega
   show plc (b::B) t=0;unfold plc;rw[if_neg c]
 |cons a M d=>rw[q1s,plc,plc,d]
theorem rI{A M B:Smp}{t:Int}(a:∀x∈A,x.1<t)(b:∀x∈B,t<x.1):plc (A++(M++B)) t=A.length+plc M t:=by rw[ML a,Jw b]
theorem Aq{A M B:Smp}{i:Nat}(h:i<M.length):(A++(M++B))[A.length+i]?=M[i]?:=by
 rw[q0r (by omega),show A.length+i-A.length=i by omega,q0z h]
theorem GU{A M B:Smp}{t:Int}(f:∀x∈A,x.1<t)(d:∀x∈B,t<x.1):has (A++(M++B)) t=has M t:=by
 unfold has;rw[rI f d];by_cases h:plc M t<M.length
 ·have e:tAt (A++(M++B)) (A.length+plc M t)=tAt M (plc M t):=by unfold tAt;rw[Aq h]
  rw[e];congr 1;simp only[Z6,eq_iff_iff];constructor
  ·exact λq=>⟨h,q.2⟩
  ·exact λq=>⟨by omega,q.2⟩
 ·have j:plc M t=M.length:=by have:=qw M t;omega
  have g:¬(plc M t<M.length/\tAt M (plc M t)=t):=λq=>h q.1
  rw[decide_eq_false g];refine decide_eq_false λ⟨b,c⟩=>?_
  have b:M.length<(M++B).length:=by simp only[Z6]at b⊢;omega
  have i:(A++(M++B))[A.length+plc M t]?=B[0]?:=by
   rw[q0r (by omega),show A.length+plc M t-A.length=M.length by omega,q0r (Z3 _),Nat.sub_self]
  cases a:B with
  |nil=>rw[a]at b;simp at b
  |cons y k=>
   unfold tAt at c;rw[i,a]at c;have:=d y (by rw[a];simp);simp at c;omega
theorem CX{A M B:Smp}{t:Int}(v p:Int)(b:∀x∈A,x.1<t)(c:∀x∈B,t<x.1):ew (A++(M++B)) t v p=(A++((ew M t v p).1++B),(ew M t v p).2):=by
 have hle:=qw M t
 have d:jJ (A++(M++B)) t v=A++(jJ M t v++B):=by
  unfold jJ;rw[rI b c,List.take_length_add_append,List.drop_length_add_append,List.take_append_of_le_length hle,q2y hle];simp
 unfold ew;rw[GU b c];by_cases h:has M t=true
 ·have a:plc M t<M.length:=by unfold has at h;exact(of_decide_eq_true h).1
  have e:vAt (A++(M++B)) (plc (A++(M++B)) t)=vAt M (plc M t):=by unfold vAt;rw[rI b c,Aq a]
  have f:∀w,kZ (A++(M++B)) t w=A++(kZ M t w++B):=λw=>by
   unfold kZ;rw[rI b c,q3y _ _ (by omega),show A.length+plc M t-A.length=plc M t by omega,List.set_append_left _ _ a]
  rw[if_pos h,if_pos h,e,f];split<;>rfl
 ·rw[if_neg h,if_neg h,d]
theorem kG(X:Smp)(i:Nat):2<=(ck X i).length/\(ck X i).length<=136/\(i=0->(ck X i).length=128):=by
 unfold ck;split
 ·simp[aP]
 ·rename_i h;have a:=gF (dT X i);have b:=gF (dV X i);rw[Z6];exact⟨by omega,by omega,λq=>absurd q h⟩
theorem s7{A M:Smp}(i:Nat):tAt (A++M) (A.length+i)=tAt M i/\vAt (A++M) (A.length+i)=vAt M i:=by
 unfold tAt vAt;rw[q0r (by omega),show A.length+i-A.length=i by omega];exact⟨rfl,rfl⟩
theorem lM{A M:Smp}{i:Nat}(h:i<A.length):tAt (A++M) i=tAt A i/\vAt (A++M) i=vAt A i:=by
 unfold tAt vAt;rw[q0z h];exact⟨rfl,rfl⟩
theorem E4{A M:Smp}{i:Nat}(h:i<A.length):ck (A++M) i=ck A i:=by
 unfold ck dT dV eg;rw[(lM h).1,(lM h).2,(lM (show i-1<A.length by omega)).1,(lM (show i-1<A.length by omega)).2,(lM (show i-2<A.length by omega)).1,(lM (show 0<A.length by omega)).1,(lM (show 0<A.length by omega)).2]
theorem CY{A M:Smp}{i:Nat}(h:2<=i):ck (A++M) (A.length+i)=ck M i:=by
 unfold ck dT dV eg;rw[show A.length+i-1=A.length+(i-1) by omega,show A.length+i-2=A.length+(i-2) by omega,(s7 i).1,(s7 i).2,(s7 (i-1)).1,(s7 (i-1)).2,(s7 (i-2)).1];simp only[show¬(A.length+i=0) by omega,show¬(A.length+i<2) by omega,show¬(i=0) by omega,show¬(i<2) by omega,if_false]
theorem k9{A M:Smp}:∀{i:Nat},i<=A.length->aE (A++M) i=aE A i
 |0,_=>rfl
 |i+1,h=>by rw[aE,aE,k9 (by omega),E4 (by omega)]
theorem oK(A M:Smp):∀i:Nat,(aE (A++M) (A.length+i)).length<=(aX A).length+(aE M i).length+142/\(aX A).length+(aE M i).length<=(aE (A++M) (A.length+i)).length+260
 |0=>by
  rw[q2o,k9 (Z3 _),aE];have:(aE A A.length).length=(aX A).length:=rfl
  simp only[q1e];omega
 |1=>by
  obtain⟨c,d⟩:=oK A M 0;have e:aE (A++M) (A.length+1)=aE (A++M) (A.length+0)++ck (A++M) (A.length+0):=rfl
  have b:aE (A++M) (A.length+0)=aE A A.length:=by rw[q2o,k9 (Z3 _)]
  have:(aE A A.length).length=(aX A).length:=rfl
  have s1:=kG (A++M) (A.length+0);have s2:=kG M 0;have f:=s2.2.2 rfl
  have a:aE M 1=[]++ck M 0:=rfl
  rw[e,b,a,Z6,Z6,q1e];omega
 |i+2=>by
  by_cases g:i=0
  ·subst g;have e:aE (A++M) (A.length+2)=aE (A++M) (A.length+0)++ck (A++M) (A.length+0)++ck (A++M) (A.length+1):=rfl
   have b:aE (A++M) (A.length+0)=aE A A.length:=by rw[q2o,k9 (Z3 _)]
   have:(aE A A.length).length=(aX A).length:=rfl
   have s1:=kG (A++M) (A.length+0);have s2:=kG M 0;have f:=s2.2.2 rfl
   have h:=kG (A++M) (A.length+1);have j:=kG M 1;have a:aE M 2=[]++ck M 0++ck M 1:=rfl
   rw[e,b,a];simp only[Z6,q1e];omega
  ·obtain⟨c,d⟩:=oK A M (i+1);have e:aE (A++M) (A.length+(i+2))=aE (A++M) (A.length+(i+1))++ck (A++M) (A.length+(i+1)):=rfl
   have a:aE M (i+2)=aE M (i+1)++ck M (i+1):=rfl
   rw[e,a,CY (by omega),Z6,Z6];omega
theorem CZ(A M:Smp):(aX (A++M)).length<=(aX A).length+(aX M).length+142/\(aX A).length+(aX M).length<=(aX (A++M)).length+260:=by
 have:=oK A M M.length;unfold aX;rw[Z6];exact this
theorem GV{L:Smp}:∀(f k:Nat),1<=k->k<=L.length-1->1<=ur L f k/\ur L f k<=L.length-1
 |0,k,a,b=>⟨a,b⟩
 |f+1,k,a,b=>by
  unfold ur;split
  ·rename_i h;unfold qB at h;simp only[Z9,decide_eq_true_eq]at h;exact GV f (k+1) (by omega) (by omega)
  ·exact⟨a,b⟩
theorem Ar{L:Smp}(h:2<=L.length):1<=bX L/\bX L<=L.length-1:=GV _ 1 (Z3 _) (by omega)
theorem C4{L:Smp}:∀(f k:Nat),L.length-k<=f->qB L (ur L f k)=false
 |0,k,h=>by
  show qB L k=false;unfold qB;rw[decide_eq_false (show¬k<L.length-1 by omega)];rfl
 |f+1,k,h=>by
  unfold ur;split
  ·exact C4 f (k+1) (by omega)
  ·rename_i h;simpa using h
theorem MM{L:Smp}(h:1<=L.length):qB L (bX L)=false:=C4 _ 1 (by omega)
theorem MN{sz:Nat}(g:128<=sz){L:Smp}(b:2<=L.length)(h:(aX L).length<=8*sz):(aX (L.take (bX L))).length<=8*sz/\(aX (L.drop (bX L))).length<=8*sz:=by
 obtain⟨l,m⟩:=Ar b;have he:=MM (L:=L) (by omega);generalize bX L=k at*;have e:=CZ (L.take k) (L.drop k);rw[q1c]at e
 have n:(aX (L.take k)).length<=(aX L).length:=by
  have:aX L=aE (L.take k++L.drop k) L.length:=by rw[q1c];rfl
  have a:(L.take k).length=k:=by rw[Y7];omega
  have c:aE (L.take k++L.drop k) (L.take k).length=aX (L.take k):=k9 (Z3 _)
  have mono:∀(X:Smp) (i j:Nat),(aE X i).length<=(aE X (i+j)).length:=λX i j=>by
   induction j with
   |zero=>exact Z3 _
   |succ j o=>
    have d:aE X (i+(j+1))=aE X (i+j)++ck X (i+j):=rfl
    rw[d,Z6];omega
  have:=mono (L.take k++L.drop k) k (L.length-k);rw[<-c,a];have f:aX L=aE (L.take k++L.drop k) (k+(L.length-k)):=by rw[q1c,show k+(L.length-k)=L.length by omega];rfl
  rw[f];exact this
 refine⟨by omega,?_⟩;unfold qB at he;by_cases q:k<L.length-1
 ·rw[decide_eq_true q]at he;have:¬2*(aX (L.take k)).length<(aX L).length:=by simpa using he
  omega
 ·have a:(L.drop k).length<=7:=by rw[q0g];omega
  have:=po a;omega
abbrev Ck5:=List ((Nat×Nat)×Smp)
def chs(sz:Nat)(C:Ck5):Pk:=C.map λc=>(c.1,chk sz c.2)
theorem dy(sz:Nat)(A B:Ck5)(p:Nat×Nat)(L:Smp):chs sz (A++(p,L)::B)=chs sz A++(p,chk sz L)::chs sz B:=by simp[chs]
def eT(sz:Nat)(C D:Ck5):Prop:=∀z S h,(pk (chs sz C)).P z S h->(pk (chs sz D)).P z S h
theorem eT.refl(sz:Nat)(C:Ck5):eT sz C C:=λ_ _ _ h=>h
theorem eT.sub{sz:Nat}{C D:Ck5}(h:D.Sublist C):eT sz C D:=SA (h.map _)
def As (H:AH) (b sz:Nat) (D:Ck5):AH:=H.set (some (.sep (pk (chs sz D)))) aa b
structure wB(H:AH)(n b sz:Nat)(C:Ck5):Prop where
 bn:b<n
 lt:n<1000000
 nn:H.get n=none
 hb:H.get b=some (.sep (pk (chs sz C)))
def Au(args:List AV)(H:AH)(n:Nat)(κ:PK):Prop:=match args with
 | [x,y,z]=>∃(b sz:Nat) (A B D:Ck5) (p:Nat×Nat) (L:Smp) (t v q:Int) (r:Smp×Int),x=aK p/\nr y t v/\mk z= .si .i64 q/\wB H n b sz (A++(p,L)::B)/\0<sz/\sz<=4096/\ct L/\aN v/\fg sz L t v q=r/\eT sz (A++(p,r.1)::B) D/\
  κ (.si .i64 r.2) (As H b sz D) (n+1)
 |_=>False
theorem S6:ai 183 Au:=λargs H n w c x j y z K k a l=>by
 unfold Au at c;split at c
 ·obtain⟨b,sz,A,B,D,p,L,t,v,q,r,rfl,m,o,⟨d,e,f,i⟩,s1,s2,s,u,g,h,c⟩:=c;subst g;rw[dy]at i;unfold eT at h;rw[dy]at h;exact Vm.Cv k d e f i a l ⟨n,sz,L,t,v,q,rfl,m,o,q1f _,pY e,s1,s2,s,u,pX.set d e rfl (dJ _ _) h c⟩
 ·exact c.elim
def wC(args:List AV)(H:AH)(n:Nat)(κ:PK):Prop:=match args with
 | [x,y,z]=>∃(b sz:Nat) (A B D:Ck5) (p:Nat×Nat) (L:Smp) (s t:Int),x=aK p/\mk y= .si .i64 s/\mk z= .si .i64 t/\wB H n b sz (A++(p,L)::B)/\0<sz/\ct L/\eT sz (A++(p,aJ L s t)::B) D/\
  κ (.si .i64 ((L.length:Int)-((aJ L s t).length:Int))) (As H b sz D) (n+1)
 |_=>False
theorem Pu:ai 157 wC:=λargs H n q c r i u v K j a k=>by
 unfold wC at c;split at c
 ·obtain⟨b,sz,A,B,D,p,L,s,t,rfl,l,m,⟨d,e,f,h⟩,s1,o,g,c⟩:=c;rw[dy]at h;unfold eT at g;rw[dy]at g;exact SR.Cv j d e f h a k ⟨n,sz,L,s,t,rfl,l,m,q1f _,pY e,s1,o,pX.set d e rfl (dJ _ _) g c⟩
 ·exact c.elim
def Av(args:List AV)(H:AH)(n:Nat)(κ:PK):Prop:=match args with
 | [x,y]=>∃(b sz:Nat) (A B D:Ck5) (p:Nat×Nat) (L:Smp) (t:Int),x=aK p/\mk y= .si .i64 t/\wB H n b sz (A++(p,L)::B)/\0<sz/\ct L/\eT sz (A++(p,L)::B) D/\κ (.tup [.si .i64 (iD L t).1,.si .i64 (iD L t).2]) (As H b sz D) (n+1)
 |_=>False
theorem S7:ai 64 Av:=λargs H n o c q i r s K j a k=>by
 unfold Av at c;split at c
 ·obtain⟨b,sz,A,B,D,p,L,t,rfl,l,⟨d,e,f,h⟩,s1,m,g,c⟩:=c;rw[dy]at h;unfold eT at g;rw[dy]at g;exact Vn.Cv j d e f h a k ⟨n,sz,L,t,rfl,l,q1f _,pY e,s1,m,pX.same d e rfl (dJ _ _) g c⟩
 ·exact c.elim
def qC(i:Smp->Nat)(args:List AV)(H:AH)(n:Nat)(κ:PK):Prop:=match args with
 | [x]=>∃(b sz:Nat) (A B D:Ck5) (p:Nat×Nat) (L:Smp),x=aK p/\wB H n b sz (A++(p,L)::B)/\0<sz/\ct L/\eT sz (A++(p,L)::B) D/\κ (FLv (i L) L) (As H b sz D) (n+1)
 |_=>False
theorem yQ{f:FuncId}{i:Smp->Nat}(h:ai f (CU i)):ai f (qC i):=λargs H n r c s l t u K m a o=>by
 unfold qC at c;split at c
 ·obtain⟨b,sz,A,B,D,p,L,rfl,⟨d,e,g,k⟩,s1,q,j,c⟩:=c;rw[dy]at k;unfold eT at j;rw[dy]at j;exact h.Cv m d e g k a o ⟨n,sz,L,rfl,q1f _,pY e,s1,q,pX.same d e rfl (dJ _ _) j c⟩
 ·exact c.elim
theorem MO:ai 121 (qC λ_=>0):=yQ Pt
theorem GW:ai 60 (qC λL=>L.length-1):=yQ S5
def Aw(f:Nat->Smp->AV)(args:List AV)(H:AH)(n:Nat)(κ:PK):Prop:=match args with
 | [x]=>∃(b sz:Nat) (A B D:Ck5) (p:Nat×Nat) (L:Smp),x=aK p/\wB H n b sz (A++(p,L)::B)/\eT sz (A++(p,L)::B) D/\κ (f sz L) (As H b sz D) (n+1)
 |_=>False
theorem Jx{f:FuncId}{g:Nat->Smp->AV}(h:ai f (GQ g)):ai f (Aw g):=λargs H n q c r l s t K m a o=>by
 unfold Aw at c;split at c
 ·obtain⟨b,sz,A,B,D,p,L,rfl,⟨d,e,i,k⟩,j,c⟩:=c;rw[dy]at k;unfold eT at j;rw[dy]at j;exact h.Cv m d e i k a o ⟨n,sz,chk sz L,L,rfl,pY e,rfl,pX.same d e rfl (dJ _ _) j c⟩
 ·exact c.elim
theorem S8:ai 186 (Aw S1):=Jx Vp
theorem uF.ro{p:Nat×Nat}{l:List AV}{h:Hp}(k:uF p l h):oC h ⟨p.1,p.2,l.length⟩ l:=by
 obtain⟨a,T,c,t,b,f,g,d⟩:=k;exact⟨c,t,(0,0),b,Z3 _,by show p.2+l.length<=c.size;omega,λe=>CR.nq (ψ:=Ph.no) d rfl a⟩
theorem C5{φ:Ph}{H:AH}{n:Nat}{d a:Hp}{b sz:Nat}{A B:Ck5}{p:Nat×Nat}{L:Smp}(e:HR φ H n d a)(f:H.get b=some (.sep (pk (chs sz (A++(p,L)::B))))):uF p (chk sz L) a:=by
 obtain⟨⟨_,_,c⟩,_⟩:=e.sep b _ f;rw[dy]at c;exact(c (p,chk sz L) (by simp)).2
def qD(f:Nat->Smp->AV)(args:List AV)(H:AH)(n:Nat)(κ:PK):Prop:=match args with
 | [x]=>∃(b sz:Nat) (A B:Ck5) (p:Nat×Nat) (L:Smp),x=aK p/\H.get b=some (.sep (pk (chs sz (A++(p,L)::B))))/\κ (f sz L) H n
 |_=>False
theorem GX(f:Nat->Smp->AV):fU (qD f):= .pure λargs H n i a=>by
 unfold qD at*;split at a
 ·obtain⟨b,sz,A,B,p,L,c,d,e⟩:=a;exact⟨_,e,λg h=>⟨b,sz,A,B,p,L,c,d,h⟩⟩
 ·exact a.elim
theorem Jy{f:FuncId}{g:Nat->Smp->AV}(e:bM Tryz.prog f=true)(k:∀size L,flat.flat1 (g size L)=true)(d:∀size L,ax evP 3 f [.ptr 0 0] (mkH [(0,.ro (chk size L))]) 1 λu _ _=>mkT u=mkT (g size L))(l:∀size L,mkT (g size L)=g size L):ai f (qD g):=λargs H n w c y m z C K j a q=>by
 unfold qD at c;split at c
 ·obtain⟨x,rfl,h⟩:=vs1 a;obtain⟨b,sz,A,B,p,L,rfl,r,c⟩:=c;have h:x=qs p:=h;subst h;have i:=(C5 j r).ro;exact ic az (v:=g sz L) (vO (k sz L)) (d sz L) (by rw[l];exact c) j q e (φ0:=ph1 ⟨p.1,p.2,(chk sz L).length⟩) (λt=>HR.ro1 t i) (.cons (.ptr (p:=⟨p.1,p.2,(chk sz L).length⟩) (o:=0) rfl) .nil)
 ·exact c.elim
theorem GY:ai 202 (qD MF):=Jy (by kernel_rfl) (λ_ _=>rfl) (λsize L=>by
 conv=>whnf
 rfl) λ_ _=>rfl
def Ax(args:List AV)(H:AH)(n:Nat)(κ:PK):Prop:=match args with
 | [x]=>∃(b sz:Nat) (A B:Ck5) (p:Nat×Nat) (L:Smp),x=aK p/\H.get b=some (.sep (pk (chs sz (A++(p,L)::B))))/\0<sz/\ct L/\κ (.fr L.length 2 (smp L)) H n
 |_=>False
theorem S9:ai 119 Ax:=λargs H n u c j l v w K d a m=>by
 unfold Ax at c;split at c
 ·obtain⟨x,rfl,e⟩:=vs1 a;obtain⟨b,sz,A,B,p,L,rfl,q,g,k,c⟩:=c;have e:x=qs p:=e;subst e;have i:=(C5 d q).ro;have r:L.length<=100000:=by have:=k.2.2;omega
  exact Gm EZ (b8 L) (bh L) (GL sz L g r k.jK) c d m (by kernel_rfl) (φ0:=⟨(ph1 ⟨p.1,p.2,(chk sz L).length⟩).f,j.z,j.z,λ_ _=>False⟩)
   (λt=>d.yI (HR.ro1 t i) (λb o h=>by
    have hm:=b9 h;simp only[Z4,Z5,or_false]at hm;injection hm with h1 h2;subst h2;rfl) (λ_ h=>h)) rfl (.cons (.ptr (p:=⟨p.1,p.2,(chk sz L).length⟩) (o:=0) rfl) .nil)
 ·exact c.elim
structure Sr where
 sz:Nat
 ret:Int
 pol:Int
 mx:Int
 fl:Int
abbrev Ps:=List (Nat×Nat)
def aY(V:Ps):List AV:=V.map aK
def pts(C:Ck5):Ps:=C.map λc=>c.1
theorem an(C:Ck5):(pts C).length=C.length:=Y0 _
def c8(S:Sr)(k m:Nat):List AV:=[.si .i64 (S.sz:Int),.si .i64 S.ret,.si .i64 S.pol,.si .i64 S.mx,.si .i64 S.fl,.rw k 0 m 1 0]
def dG(S:Sr)(C:Ck5):AO:= .sep (pk (chs S.sz C))
def ij(S:Sr)(V:Ps)(C:Ck5):List AO:=[.cells (c8 S 1 V.length) true,.cells (aY V) true,dG S C]
structure eX(H:AH)(n r k q:Nat)(S:Sr)(V:Ps)(C:Ck5):Prop where
 ne:r≠k/\r≠q/\k≠q
 lt:r<n/\k<n/\q<n
 hr:H.get r=some (.cells (c8 S k V.length) true)
 hk:H.get k=some (.cells (aY V) true)
 hq:H.get q=some (dG S C)
theorem bW(C:Ps):(aY C).length=C.length:=Y0 _
theorem rJ(A B:Ps):aY (A++B)=aY A++aY B:=q0k
theorem jM(f:Nat->Nat)(C:Ps):dM f (aY C)=aY C:=by
 induction C with
 |nil=>rfl
 |cons c C a=>
  show ren f (aK c)::dM f (aY C)=_;rw[a];rfl
theorem pq(m:Nat)(C:Ps):jI m (aY C)=true:=by
 induction C with
 |nil=>rfl
 |cons c C a=>
  show(ltV m (aK c)&&jI m (aY C))=true;rw[a];rfl
theorem aA(C:Ps):(aY C).map mk=aY C:=by
 unfold aY;rw[q4i];rfl
theorem C6(C:Ps):(aY C).all oi=true:=by
 induction C with
 |nil=>rfl
 |cons c C a=>exact a
theorem eX.wD{H:AH}{n r k q:Nat}{S:Sr}{V:Ps}{C:Ck5}(h:eX H n r k q S V C):iS H n [r,k,q] (ij S V C):=
 ⟨by simp[h.ne.1,h.ne.2.1,h.ne.2.2],rfl,λi s o a b=>by
  match i,a,b with
  |0,a,b=>injection a with a;injection b with b;subst a b;exact⟨h.lt.1,h.hr,.inr rfl⟩
  |1,a,b=>injection a with a;injection b with b;subst a b;exact⟨h.lt.2.1,by rw[cJ,jM];exact h.hk,.inr rfl⟩
  |2,a,b=>injection a with a;injection b with b;subst a b;exact⟨h.lt.2.2,h.hq,.inr rfl⟩⟩
def Vq (S:Sr) (V:Ps) (C:Ck5):AH:=mkH [(0,.cells (c8 S 3 V.length) true),(3,.cells (aY V) true),(2,dG S C)]
def fX (H:AH) (n r k q:Nat) (S:Sr) (V:Ps) (C:Ck5):AH:=PM.set (some (.cells (c8 S n V.length) true)) aa (PM.set none aa (PM.set (some (dG S C)) aa (PM.set (some (.cells (aY V) true)) aa H n) q) k) r
def SP(P:AV->Sr->Ps->Ck5->Prop):PK:=λu a m=>∃S V C,P u S V C/\a=Vq S V C/\m=4
def fv(g:List AV->AH->Nat->PK->Prop)(args:List AV)(H:AH)(n:Nat)(κ:PK):Prop:=g args H n λu b c=>∃(v:AV) (a:AH) (m:Nat),Cov n (mkE [(0,u)]) b c (mkE [(0,v)],a,m)/\κ v a m
theorem ai.fv{f:FuncId}{g:List AV->AH->Nat->PK->Prop}(r:ai f g):ai f (fv g):=λargs H n Q s x k h A K l B C=>r args H n _ s x k h A K l B λD u R S w o c d E ⟨v,F,m,G,i⟩=>by
 obtain⟨I,⟨J,L,M⟩,N,O⟩:=G D k o (λ_=>w) d (λt a P=>by
  have:=nk P;simp only[Z4,Z5,or_false]at this;injection this with e1 e2;subst e1 e2;exact E)
 exact C I v F m w o ⟨λb p e=>J b p (l.dom b p e).1 (c.b b p e),λq j=>L q (c.z q j),λq j=>c.y q (M q j)⟩ N (O 0 v rfl) i
theorem gG {f:FuncId} {run:List AV->AH->Nat->PK->Prop} (d:ai f run) (i:bM Tryz.prog f=true) {a:List AV} {S:Sr} {V:Ps} {C:Ck5} {P:AV->Sr->Ps->Ck5->Prop} (h:fv run (.ptr 0 0::a) (mkH (bH (ij S V C) 0)) 3 (SP P)) (j:∀r,dM r a=a)
 {φ:Ph} {H:AH} {n:Nat} {s t:Hp} {l:Array Value} {κ:PK} {K:KH} {r k q:Nat} (y:HR φ H n s t) (z:eX H n r k q S V C) (c:VRs φ (.ptr r 0::a) l.toList) (A:cn φ s κ K) (B:∀u S' b C',P u S' b C'->(∀f,ren f u=u)/\ltV 4 u=true) (D:∀u S' b C',P u S' b C'->κ u (fX H n r k q S' b C') (n+1)):dH Tryz.prog f l t K:=by
 refine dj (S:=[r,k,q]) (O:=ij S V C) (args0:= .ptr 0 0::a) (ai.fv d) i y z.wD (by show VRs φ (ren _ _::dM _ a) l.toList;rw[j];exact c) A h λu G I ⟨S',b,C',v,E,F⟩=>?_
 subst E F;obtain⟨g,p⟩:=B u S' b C' v;refine⟨4,ke [r,k,q] n H [(0,some (.cells (c8 S' 3 b.length) true)),(1,none),(2,some (dG S' C')),(3,some (.cells (aY b) true))],Z0 rfl,fu.put (Z0 rfl) rfl (λx w o ho=>?_),p,?_⟩
 ·simp only[Z4,Z5,or_false]at w;rcases w with rfl|rfl|rfl|rfl
  ·injection ho with ho;subst ho;exact⟨rfl,rfl,rfl⟩
  ·cases ho
  ·injection ho with ho;subst ho;exact⟨rfl,rfl,rfl⟩
  ·injection ho with ho;subst ho;exact⟨rfl,rfl,pq _ _⟩
 ·have e:ke [r,k,q] n H [(0,some (.cells (c8 S' 3 b.length) true)),(1,none),(2,some (dG S' C')),(3,some (.cells (aY b) true))]=fX H n r k q S' b C':=by
   simp only[ke,Y8,q2e,cJ,jM];rfl
  rw[g _,e];exact D u S' b C' v
theorem VTo.mk5{u v:AV}(h:mk u=v):VTo u v:=λb w a=>h▸a.mk
theorem ao.aY{H:AH}{m:Nat}{r:Nat->Nat}{l:List AV}{C:Ps}(h:l.map Go.Proofs.YtflehenfikoniaaGreat.mk=Go.Proofs.YtflehenfikoniaaGreat.aY C):ao H m r (.cells l true) (.cells (Go.Proofs.YtflehenfikoniaaGreat.aY C) true):=
 ao.cells (by have:=congrArg List.length h;simp only[Y0]at this;omega) (λq=>q) λi f d=>by
  rw[<-h,q0q]at d;cases e:l[i]? with
  |none=>rw[e]at d;cases d
  |some a=>
   rw[e]at d;injection d with d;have b:(Go.Proofs.YtflehenfikoniaaGreat.aY C)[i]?=some f:=by rw[<-h,q0q,e];exact congrArg some d
   unfold Go.Proofs.YtflehenfikoniaaGreat.aY at b;rw[q0q]at b;cases g:C[i]? with
   |none=>rw[g]at b;cases b
   |some c=>
    rw[g]at b;injection b with b;refine⟨a,rfl,λk o v _ _ n=>?_⟩;have j:VR k f v:=d▸n.mk;rw[<-b]at j⊢;exact j
theorem ao.sep{H:AH}{m:Nat}{r:Nat->Nat}(Q:HP):ao H m r (.sep Q) (.sep Q):=⟨⟨rfl,rfl⟩,λ_ _ _ _ _ _ h=>h.elim⟩
def wE (le:List (Nat×AV)) (S:Sr) (V:Ps) (C:Ck5):AE×AH×Nat:=(mkE le,mkH [(0,.cells (c8 S 3 V.length) true),(3,.cells (aY V) true),(2,dG S C)],4)
def Ay(j1:Nat):Nat->Nat:=λb=>if b=3 then j1 else b
theorem eY{C:Ck5}{i:Nat}(h:i<C.length):C.take i++(C[i].1,C[i].2)::C.drop (i+1)=C:=by
 show C.take i++C[i]::C.drop (i+1)=C;rw[<-q0d h,q1c]
theorem jz{H:AH}{n:Nat}{S:Sr}{C:Ck5}{i:Nat}(h:i<C.length)(a:PM.get H 2=some (dG S C))(hn:2<n)(b:n<1000000)(c:PM.get H n=none):wB H n 2 S.sz (C.take i++(C[i].1,C[i].2)::C.drop (i+1)):=⟨hn,b,c,by rw[eY h];exact a⟩
theorem jl{sz:Nat}{C:Ck5}{i:Nat}(h:i<C.length):eT sz (C.take i++(C[i].1,C[i].2)::C.drop (i+1)) C:=by rw[eY h];exact .refl _ _
theorem ao.c8{H:AH}{m:Nat}{r:Nat->Nat}{S:Sr}{k b:Nat}{c d e f g h:AV}(j:mk c= .si .i64 (S.sz:Int))(l:mk d= .si .i64 S.ret)(n:mk e= .si .i64 S.pol)(o:mk f= .si .i64 S.mx)(p:mk g= .si .i64 S.fl)(s:ah H m r h (.rw k 0 b 1 0)):ao H m r (.cells [c,d,e,f,g,h] true) (.cells (Go.Proofs.YtflehenfikoniaaGreat.c8 S k b) true):=
 ao.cells (Z3 _) (λq=>q) λi t a=>by
  match i,a with
  |0,a=>injection a with a;subst a;exact⟨_,rfl,ah.int j⟩
  |1,a=>injection a with a;subst a;exact⟨_,rfl,ah.int l⟩
  |2,a=>injection a with a;subst a;exact⟨_,rfl,ah.int n⟩
  |3,a=>injection a with a;subst a;exact⟨_,rfl,ah.int o⟩
  |4,a=>injection a with a;subst a;exact⟨_,rfl,ah.int p⟩
  |5,a=>injection a with a;subst a;exact⟨_,rfl,s⟩
  |i+6,a=>simp[Go.Proofs.YtflehenfikoniaaGreat.c8]at a
theorem nN {p:Nat} {σ:AE} {H:AH} {n:Nat} {S:Sr} {V:Ps} {C:Ck5} (j1:Nat) {le:List (Nat×AV)} {d f g h i j:AV} {l:List AV} (B:p<=3) (o:∀x∈le,ah H 4 (Ay j1) (aj (pa x.1) σ) x.2) (D:j1≠0/\j1≠2)
 (q:PM.get H 0=some (.cells [d,f,g,h,i,j] true)) (r:mk d= .si .i64 (S.sz:Int)) (s:mk f= .si .i64 S.ret) (t:mk g= .si .i64 S.pol) (u:mk h= .si .i64 S.mx) (v:mk i= .si .i64 S.fl) (w:ah H 4 (Ay j1) j (.rw 3 0 V.length 1 0))
 (z:PM.get H j1=some (.cells l true)) (c:l.map mk=aY V) (A:PM.get H 2=some (dG S C)):Cov p σ H n (wE le S V C):=by
 refine Cov.ofR (m:=4) (p:=p) (Ay j1) (by omega) (λb E=>by unfold Ay;rw[if_neg (by omega)]) o ?_ ?_
 ·intro x a;simp only[Z4,Z5,or_false]at a;rcases a with rfl|rfl|rfl
  ·exact⟨Z0 rfl,.inl ⟨_,q,ao.c8 r s t u v w⟩⟩
  ·exact⟨Z0 rfl,.inl ⟨_,z,ao.aY c⟩⟩
  ·exact⟨Z0 rfl,.inl ⟨_,A,ao.sep _⟩⟩
 ·intro x a y k e;simp only[Z4,Z5,or_false]at a k;rcases a with rfl|rfl|rfl<;>rcases k with rfl|rfl|rfl
  ·rfl
  ·exact absurd (show 0=j1 from e) (by omega)
  ·exact absurd (show 0=2 from e) (by omega)
  ·exact absurd (show j1=0 from e) (by omega)
  ·rfl
  ·exact absurd (show j1=2 from e) (by omega)
  ·exact absurd (show 2=0 from e) (by omega)
  ·exact absurd (show 2=j1 from e) (by omega)
  ·rfl
theorem fI {u v:AV} {H:AH} {n:Nat} {S:Sr} {V:Ps} {C:Ck5} (P:AV->Sr->Ps->Ck5->Prop) (k:P v S V C) (o:VTo u v) (p:∀φ ψ w,VR φ v w->VR ψ v w) (j1:Nat) {b c d e f g:AV} {l:List AV} (q:j1≠0/\j1≠2)
 (r:PM.get H 0=some (.cells [b,c,d,e,f,g] true)) (s:mk b= .si .i64 (S.sz:Int)) (t:mk c= .si .i64 S.ret) (y:mk d= .si .i64 S.pol) (z:mk e= .si .i64 S.mx) (A:mk f= .si .i64 S.fl) (B:ah H 4 (Ay j1) g (.rw 3 0 V.length 1 0))
 (D:PM.get H j1=some (.cells l true)) (a:l.map mk=aY V) (E:PM.get H 2=some (dG S C)):∃(h:AV) (i:AH) (m:Nat),Cov 3 (mkE [(0,u)]) H n (mkE [(0,h)],i,m)/\SP P h i m:=by
 refine⟨v,Vq S V C,4,nN (le:=[(0,v)]) j1 (Z3 _) (λx j=>?_) q r s t y z A B D a E,S,V,C,k,rfl,rfl⟩;simp only[Z4,Z5,or_false]at j;subst j;exact λφ ψ w G _ F=>p φ ψ w (o φ w F)
structure Okc(S:Sr)(C:Ck5):Prop where
 lo:128<=S.sz
 hi:S.sz<=4096
 dR:∀c∈C,ct c.2
 few:C.length<=100000
def cnt(C:Ck5):List Smp:=C.map λc=>c.2
theorem cV(C:Ck5):(cnt C).length=C.length:=Y0 _
theorem GZ{C:Ck5}{i:Nat}(h:i<C.length):(cnt C)[i]'(by rw[cV];exact h)=C[i].2:=by simp[cnt]
theorem dp{C:Ck5}{i k:Nat}(h:i<C.length)(a:k=i):nth (aY (pts C)) k=some (aK C[i].1):=by
 rw[a,eR];simp[aY,pts,h]
def dN:List Smp->Int->Nat
 |_::M::D,t=>if t<tAt M 0 then 0 else dN (M::D) t+1
 |_,_=>0
theorem wF{D:List Smp}{i:Nat}{t:Int}(h:i+1<D.length):dN (D.drop i) t=if t<tAt D[i+1] 0 then 0 else dN (D.drop (i+1)) t+1:=by
 rw[q0d (show i<D.length by omega),q0d h];rfl
theorem tZ{D:List Smp}{t:Int}(h:D.length<=1):dN D t=0:=by
 match D,h with
 | [],_=>rfl
 | [_],_=>rfl
 |_::_::_,h=>simp at h
theorem wG:∀{D:List Smp} (t:Int),D≠[]->dN D t<D.length
 | [],_,h=>absurd rfl h
 | [_],_,_=>Nat.zero_lt_one
 |_::M::D,t,_=>by
  have:=wG (D:=M::D) t (by simp);unfold dN;split
  ·simp
  ·simp only[Z8]at this⊢;omega
def KHm:FuncId->EP:=bb 63 [] (aq 121 (qC λ_=>0) evP)
theorem MP:aU KHm:=au (ag az MO) (by kernel_rfl) (by kernel_rfl)
def HmP(b:Sr)(a:Ck5)(t:Int):AV->Sr->Ps->Ck5->Prop:=λu S V C=>u= .si .i64 ((dN (cnt a) t:Nat):Int)/\S=b/\V=pts a/\C=a
theorem VR.ez{k:IntKind}{x:Int}:∀φ ψ w,VR φ (.si k x) w->VR ψ (.si k x) w:=λ_ _ _ h=>h
theorem MQ(S:Sr)(C:Ck5)(t:Int)(f:Okc S C):fv (ax KHm 5 63) [.ptr 0 0,.si .i64 t] (mkH (bH (ij S (pts C) C) 0)) 3 (SP (HmP S C t)):=by
 have m:=f.few;have k:=f.lo;show ax KHm 5 _ _ _ _ _
 conv=>whnf
 refine aR.mk {i:Nat//(i<C.length∨i=0)/\dN (cnt C) t=i+dN ((cnt C).drop i) t} 4 (λi=>((wE [(0,.ptr 0 0),(1,.si .i64 t),(5,.si .i64 (i.val:Int))] S (pts C) C).1,(wE [(0,.ptr 0 0),(1,.si .i64 t),(5,.si .i64 (i.val:Int))] S (pts C) C).2.1)) (λi=>C.length-i.val) ⟨0,.inr rfl,by simp⟩ ?_ ?_
 focus
  exact nN 1 (le:=[(0,.ptr 0 0),(1,.si .i64 t),(5,.si .i64 ((0:Nat):Int))]) (Z3 3) (λx c=>by
   simp only[Z4,Z5,or_false]at c;rcases c with rfl|rfl|rfl
   ·exact ah.ptr (Z0 rfl) rfl
   ·exact ah.int rfl
   ·exact ah.int rfl) ⟨by decide,by decide⟩ rfl rfl rfl rfl rfl rfl (ah.rw (Z0 rfl) rfl) rfl (aA _) rfl
 intro⟨i,n,j⟩;have e:IntKind.i64.wrap ((i:Int)+1)=((i+1:Nat):Int):=by rw[al (by omega) (by omega)];omega
 conv=>whnf
 refine ae.dec (λh=>?_) (λh=>?_)
 focus
  have a:i+1<C.length:=by
   have h:IntKind.i64.wrap ((i:Int)+1)<((pts C).length:Int):=h;rw[e,an]at h;omega
  have l:i+1<(cnt C).length:=by rw[cV];exact a
  have b:=wF (t:=t) l;rw[GZ a]at b
  conv=>whnf
  refine Idx.mk (i+1) e (by rw[an];exact a) ?_
  conv=>whnf
  refine aw (dp a (show 0+(i+1)*1=i+1 by omega)) ?_
  conv=>whnf
  refine⟨2,S.sz,C.take (i+1),C.drop (i+1+1),C,C[i+1].1,C[i+1].2,rfl,jz a rfl (by decide) (by decide) rfl,by omega,f.dR _ (q0b a),jl a,?_⟩
  conv=>whnf
  refine ae.dec (λg=>?_) (λg=>?_)
  focus
   have d:i=dN (cnt C) t:=by rw[j,b,if_pos g];rfl
   conv=>whnf
   exact fI (HmP S C t) ⟨rfl,rfl,rfl,rfl⟩ (VTo.mk5 (congrArg (λq:Nat=>AV.si .i64 (q:Int)) d)) VR.ez 3 ⟨by decide,by decide⟩ rfl rfl rfl rfl rfl rfl (ah.rw (Z0 rfl) rfl) rfl (aA _) rfl
  have d:dN (cnt C) t=(i+1)+dN ((cnt C).drop (i+1)) t:=by rw[j,b,if_neg g];omega
  conv=>whnf
  exact⟨⟨i+1,.inl a,d⟩,by show C.length-(i+1)<C.length-i;omega,nN 3 (le:=[(0,.ptr 0 0),(1,.si .i64 t),(5,.si .i64 ((i+1:Nat):Int))]) (Z3 3) (λx c=>by
   simp only[Z4,Z5,or_false]at c;rcases c with rfl|rfl|rfl
   ·exact ah.ptr (Z0 rfl) rfl
   ·exact ah.int rfl
   ·exact ah.int (congrArg (AV.si .i64) e)) ⟨by decide,by decide⟩ rfl rfl rfl rfl rfl rfl (ah.rw (Z0 rfl) rfl) rfl (aA _) rfl⟩
 have d:i=dN (cnt C) t:=by
  have a:¬i+1<C.length:=λq=>h (by
   show IntKind.i64.wrap ((i:Int)+1)<((pts C).length:Int);rw[e,an];omega)
  rw[j,tZ (D:=(cnt C).drop i) (by rw[q0g,cV];omega)];rfl
 conv=>whnf
 exact fI (HmP S C t) ⟨rfl,rfl,rfl,rfl⟩ (VTo.mk5 (congrArg (λq:Nat=>AV.si .i64 (q:Int)) d)) VR.ez 3 ⟨by decide,by decide⟩ rfl rfl rfl rfl rfl rfl (ah.rw (Z0 rfl) rfl) rfl (aA _) rfl
def Az(args:List AV)(H:AH)(n:Nat)(κ:PK):Prop:=match args with
 | [x,y]=>∃(r k q:Nat) (S:Sr) (C:Ck5) (t:Int) (h:Nat),x= .ptr r 0/\mk y= .si .i64 t/\eX H n r k q S (pts C) C/\Okc S C/\dN (cnt C) t=h/\κ (.si .i64 (h:Int)) (fX H n r k q S (pts C) C) (n+1)
 |_=>False
theorem Ta:ai 63 Az:=λargs H n I b J c L M K d a e=>by
 unfold Az at b;split at b
 ·obtain⟨N,f,i,j,l⟩:=a.cons_inv;obtain⟨O,m,o,p,s⟩:=l.cons_inv;obtain⟨r,k,q,S,C,t,h,rfl,v,w,x,y,b⟩:=b;subst y;refine gG (ay MP 5 _) (by kernel_rfl) (MQ S C t x) (λ_=>rfl) d w (by rw[i,o];exact .cons j (.cons (aV rfl (v▸p.mk)) s)) e (λu z A B ⟨g,_⟩=>by subst g;exact⟨λ_=>rfl,rfl⟩) λu z A B ⟨D,E,F,G⟩=>?_
  subst D E F G;exact b
 ·exact b.elim
def KIn:FuncId->EP:=bb 184 [] evP
theorem Tb:aU KIn:=au az (by kernel_rfl) (by kernel_rfl)
def InP(a:Sr)(b:Ps)(c:Ck5):AV->Sr->Ps->Ck5->Prop:=λu S V C=>u= .tup []/\S=a/\V=b/\C=c
theorem C7:RTy 107 107 1 8:=⟨_,_,_,rfl,rfl,(λq h=>by cases h),rfl,rfl,rfl,rfl,by decide,by decide⟩
theorem yR(V:Ps)(i:Nat):(aY V).take i=aY (V.take i):=by simp[aY,q4a]
theorem yS(V:Ps)(i:Nat):(aY V).drop i=aY (V.drop i):=by simp[aY,List.map_drop]
theorem E5(S:Sr)(V:Ps)(C:Ck5)(i:Nat)(p:Nat×Nat)(hi:i<=V.length)(c:V.length<=200000):fv (ax KIn 5 184) [.ptr 0 0,.si .i64 (i:Int),aK p] (mkH (bH (ij S V C) 0)) 3 (SP (InP S (V.take i++p::V.drop i) C)):=by
 show ax KIn 5 _ _ _ _ _;have d:aY (V.take i)++ [aK p]=aY (V.take i++ [p]):=by simp[aY]
 have a:(V.take i).length=i:=by rw[Y7];omega
 have s1:bk (aY V) 0 (i*1)=some (aY (V.take i)):=by
  unfold bk;rw[q0n (by rw[bW];omega),q4g,q0i,yR]
 have s2:bk (aY V) (0+i*1) ((V.length-i)*1)=some (aY (V.drop i)):=by
  unfold bk;rw[q0n (by rw[bW];omega),show 0+i*1=i by omega,yS,q0i,q1g (by rw[bW,q0g];exact Z3 _)]
 have b:i+1+(V.length-i)=(V.take i++p::V.drop i).length:=by rw[Z6,Z8,q0g,a];omega
 conv=>whnf
 refine RSl.mk 0 i rfl rfl (.inr ⟨rfl,rfl⟩) (X5 _) hi ?_
 conv=>whnf
 refine bF.exact 1 8 1 1 0 i [aK p] (aY (V.take i)) rfl C7 (.old rfl) rfl rfl (by decide) (.rw (.inr ⟨_,rfl⟩) s1) (by omega) ?_
 conv=>whnf
 refine RSl.mk i V.length rfl rfl (.inl rfl) hi (Z3 _) ?_
 conv=>whnf
 refine bF.grow 1 8 (V.length-i) (i+1) (aY (V.drop i)) (aY (V.take i)++ [aK p]) _ true C7 (.rw (.inr ⟨_,rfl⟩) s2) (by rw[bW,q0g,q0i]) (C6 _) (.rw rfl (bw (by rw[Z6,bW,a,q0i];rfl))) (by omega) ?_
 conv=>whnf
 exact fI (InP S (V.take i++p::V.drop i) C) ⟨rfl,rfl,rfl,rfl⟩ (VTo.mk5 rfl) (λe f w h=>iO rfl h) 5 ⟨by decide,by decide⟩ rfl rfl rfl rfl rfl rfl (ah.rw (Z0 rfl) (congrArg (λq=>AV.rw 5 0 q 1 0) b)) rfl (by rw[q0k,q0k,aA,aA];simp[aY];rfl) rfl
def AA(args:List AV)(H:AH)(n:Nat)(κ:PK):Prop:=match args with
 | [x,y,z]=>∃(r k q i:Nat) (S:Sr) (V a:Ps) (C:Ck5) (p:Nat×Nat),x= .ptr r 0/\mk y= .si .i64 (i:Int)/\z=aK p/\eX H n r k q S V C/\i<=V.length/\V.length<=200000/\V.take i++p::V.drop i=a/\κ (.tup []) (fX H n r k q S a C) (n+1)
 |_=>False
theorem C8:ai 184 AA:=λargs H n O b P e Q R K f a h=>by
 unfold AA at b;split at b
 ·obtain⟨T,j,l,m,o⟩:=a.cons_inv;obtain⟨U,s,t,v,w⟩:=o.cons_inv;obtain⟨W,x,y,z,A⟩:=w.cons_inv;obtain⟨r,k,q,i,S,V,d,C,p,rfl,B,rfl,D,E,F,c,b⟩:=b;subst c;refine gG (ay Tb 5 _) (by kernel_rfl) (E5 S V C i p E F) (λ_=>rfl) f D (by rw[l,t,y];exact .cons m (.cons (aV rfl (B▸v.mk)) (.cons z A))) h (λu G d I ⟨g,_⟩=>by subst g;exact⟨λ_=>rfl,rfl⟩) λu G d I ⟨J,L,M,N⟩=>?_
  subst J L M N;exact b
 ·exact b.elim
theorem PM.gne{a:Type}{v:Option a}{t:PM a}{n m:Nat}{x:a}(hn:n<1000000)(b:m≠n)(h:t.get m=some x):(PM.set v aa t n).get m=some x:=PM.aC aa _ _ _ (aD hn) b h
theorem PM.geq{a:Type}{v:Option a}{t:PM a}{n:Nat}(hn:n<1000000):(PM.set v aa t n).get n=v:=PM.bI aa _ _ (aD hn)
theorem VR.E6{φ:Ph}{b:Nat}{w:Value}(h:VR φ (.ptr b 0) w):∃q T,φ b=some ⟨Prod.fst q,Prod.snd q,T⟩/\w=qs q:=by
 obtain⟨P,a,c⟩:=h.cD;exact⟨(P.B,P.s),P.T,a,c⟩
def pt(args:List AV)(H:AH)(n:Nat)(κ:PK):Prop:=match args with
 | [x]=>∃(b sz:Nat) (A B:Ck5) (p:Nat×Nat) (L:Smp) (D:Nat×Nat->Ck5),x=aK p/\wB H n b sz (A++(p,L)::B)/\H.get (n+1)=none/\n+1<1000000/\0<sz/\ct L/\2<=L.length/\
  ∀q,eT sz (A++(p,L.take (bX L))::(q,L.drop (bX L))::B) (D q)/\κ (.tup [aK q,.int .i64 0]) (As H b sz (D q)) (n+2)
 |_=>False
theorem C9:ai 185 pt:=λargs H n κ j φ t hp vs K hr h hk=>by
 unfold pt at j;split at j
 ·obtain⟨b,sz,A,B,p,L,D,rfl,⟨i,c,w,W⟩,y,a,s1,hF,d,j⟩:=j;rw[dy]at W;obtain⟨X,us1,q1,z,r1⟩:=h.cons_inv;have z:X=qs p:=z;subst z;obtain⟨ψ,T,k,l,C⟩:=hr.Cu i W
  refine Pr [.ptr n 0] (opn H n b (chs sz A) (chs sz B) (chk sz L)) (n+1) (λv Y Z=>v= .tup [.ptr (n+1) 0,.int .i64 0]/\Y=((opn H n b (chs sz A) (chs sz B) (chk sz L)).set (some (.cells (chk sz (L.drop (bX L))) true)) aa (n+1)).set (some (.cells (chk sz (L.take (bX L))) true)) aa n/\Z=n+2)
   ⟨n,sz,L,rfl,q1f _,pY c,s1,hF,λq=>by omega,λ_=>⟨rfl,rfl,rfl⟩⟩ ψ t hp vs K C (by rw[q1];exact .cons (VR.oF l) (VRs.mono k _ _ r1)) λχ v Y Z u g f hg hu ⟨g1,g2,g3⟩=>?_
  subst g1 g2 g3;obtain⟨cs,rfl,E⟩:=hu.eH;obtain⟨X,us,q2,f1,f2⟩:=E.cons_inv;obtain⟨q,T',F,I⟩:=f1.E6;subst I
  have gb:(((opn H n b (chs sz A) (chs sz B) (chk sz L)).set (some (.cells (chk sz (L.drop (bX L))) true)) aa (n+1)).set (some (.cells (chk sz (L.take (bX L))) true)) aa n).get b=some (.sep (pk (chs sz A++chs sz B))):=
   PM.gne c (by omega) (PM.gne a (by omega) (yJ i c))
  have J:(((opn H n b (chs sz A) (chs sz B) (chk sz L)).set (some (.cells (chk sz (L.drop (bX L))) true)) aa (n+1)).set (some (.cells (chk sz (L.take (bX L))) true)) aa n).get (n+1)=some (.cells (chk sz (L.drop (bX L))) true):=
   PM.gne c (by omega) (PM.geq a)
  have gn:(((opn H n b (chs sz A) (chs sz B) (chk sz L)).set (some (.cells (chk sz (L.drop (bX L))) true)) aa (n+1)).set (some (.cells (chk sz (L.take (bX L))) true)) aa n).get n=some (.cells (chk sz (L.take (bX L))) true):=PM.geq c;generalize hG:((opn H n b (chs sz A) (chs sz B) (chk sz L)).set (some (.cells (chk sz (L.drop (bX L))) true)) aa (n+1)).set (some (.cells (chk sz (L.take (bX L))) true)) aa n=G at*;obtain⟨M,_,N,f1',O⟩:=hg.oE (m:=n+1) (by omega) gb J F rfl (dJ _ _)
  have r:M n=some ⟨p.1,p.2,T⟩:=N.b _ _ (f.b _ _ l);obtain⟨P,_,l2,_,Q⟩:=O.oE (m:=n) (A:=chs sz A) (B:=(q,chk sz (L.drop (bX L)))::chs sz B) (by omega) (PM.geq (by omega)) (PM.gne (by omega) (by omega) (PM.gne a (by omega) gn)) r rfl (dJ _ _)
  obtain⟨R,S⟩:=j q;unfold eT at R;rw[dy]at R;have U:=Q.tV (Q':=pk (chs sz (D q))) (PM.geq (by omega)) R;refine hk P _ _ _ _ g (((k.trans f).trans N).trans l2) (U.less λx o hx=>?_) (.tup (by rw[q2];exact .cons rfl (VRs.mono (N.trans l2) _ _ f2))) S;rcases PM.ak aa H b x o hx with⟨rfl,d⟩|⟨s,d⟩
  ·rw[PM.geq (by omega)];exact d
  ·have V:x≠n:=λe=>by subst e;rw[w]at d;cases d
   have x2:x≠n+1:=λe=>by subst e;rw[y]at d;cases d
   refine PM.gne (by omega) s (PM.gne (by omega) s (PM.gne c V (PM.gne (by omega) s (PM.gne a x2 ?_))));rw[<-hG];exact PM.gne c V (PM.gne a x2 (tW i c V s d))
 ·exact j.elim
def wH(args:List AV)(H:AH)(n:Nat)(κ:PK):Prop:=match args with
 | [x,y]=>∃(b sz:Nat) (A B D:Ck5) (p q:Nat×Nat) (L M:Smp),x=aK p/\y=aK q/\wB H n b sz (A++(p,L)::(q,M)::B)/\H.get (n+1)=none/\n+1<1000000/\0<sz/\sz<=4096/\ct L/\ct M/\
  eT sz (A++(p,(bP sz L M).1.1)::(q,(bP sz L M).1.2)::B) D/\κ (.si .i64 (bP sz L M).2) (As H b sz D) (n+2)
 |_=>False
theorem Pv:ai 188 wH:=λargs H n κ E φ j G vs K hr k hk=>by
 unfold wH at E;split at E
 ·obtain⟨b,sz,A,B,D,p,q,L,M,rfl,rfl,⟨l,f,I,hb⟩,J,a,s1,s2,hF,hM,N,P⟩:=E;rw[dy]at hb;obtain⟨w1,us1,q1,Q,r1⟩:=k.cons_inv;obtain⟨w2,us2,q2,R,r2⟩:=r1.cons_inv;have Q:w1=qs p:=Q;have R:w2=qs q:=R;subst Q R;obtain⟨ψ,T,t,w,S⟩:=hr.Cu l hb;have U:(opn H n b (chs sz A) (chs sz ((q,M)::B)) (chk sz L)).get b=some (.sep (pk (chs sz A++(q,chk sz M)::chs sz B))):=yJ l f;obtain⟨y,T2,c,i,r⟩:=(show HR ψ (opn H n b (chs sz A) (chs sz ((q,M)::B)) (chk sz L)) (n+1) j G from S).Cu (by omega) U;generalize hO:opn H n b (chs sz A) (chs sz ((q,M)::B)) (chk sz L)=O at*;have on:O.get n=some (.cells (chk sz L) true):=hO▸pY f;have P1:(opn O (n+1) b (chs sz A) (chs sz B) (chk sz M)).get n=some (.cells (chk sz L) true):=tW (by omega) a (by omega) (by omega) on;have P2:(opn O (n+1) b (chs sz A) (chs sz B) (chk sz M)).get (n+1)=some (.cells (chk sz M) true):=pY a;have P3:(opn O (n+1) b (chs sz A) (chs sz B) (chk sz M)).get b=some (.sep (pk (chs sz A++chs sz B))):=yJ (by omega) a;have r:HR y (opn O (n+1) b (chs sz A) (chs sz B) (chk sz M)) (n+1+1) j G:=r;have P4:∀x o,x≠n->x≠n+1->x≠b->H.get x=some o->(opn O (n+1) b (chs sz A) (chs sz B) (chk sz M)).get x=some o:=λx o z C x3 h=>tW (by omega) a C x3 (hO▸tW l f z x3 h)
  generalize opn O (n+1) b (chs sz A) (chs sz B) (chk sz M)=O2 at*
  refine SZ [.ptr n 0,.ptr (n+1) 0] O2 (n+2) (λv H2 n2=>v= .si .i64 (bP sz L M).2/\H2=((O2.set (some (.cells (chk sz (bP sz L M).1.2) true)) aa (n+1)).set (some (.cells (chk sz (bP sz L M).1.1) true)) aa n)/\n2=n+2)
   ⟨n,n+1,sz,sz,L,M,rfl,rfl,by omega,by omega,by omega,P1,P2,s1,s2,s1,hF,hM,rfl,rfl,rfl⟩ y j G vs K r (by rw[q1,q2];exact .cons (VR.oF (c.b _ _ w)) (.cons (VR.oF i) (VRs.mono (t.trans c) _ _ r2))) λχ v H2 n2 u g d hg hu ⟨g1,g2,g3⟩=>?_
  subst g1 g2 g3;obtain⟨ω1,_,V,_,W⟩:=hg.oE (m:=n+1) (p:=q) (T:=T2) (by omega) (PM.gne f (by omega) (PM.gne a (by omega) P3)) (PM.gne f (by omega) (PM.geq a)) (d.b _ _ i) rfl (dJ _ _)
  obtain⟨X,_,l2,_,Y⟩:=W.oE (m:=n) (p:=p) (T:=T) (A:=chs sz A) (B:=(q,chk sz (bP sz L M).1.2)::chs sz B) (by omega) (PM.geq (by omega)) (PM.gne (by omega) (by omega) (PM.gne a (by omega) (PM.geq f))) (V.b _ _ (d.b _ _ (c.b _ _ w))) rfl (dJ _ _)
  unfold eT at N;rw[dy]at N;have Z:=Y.tV (Q':=pk (chs sz D)) (PM.geq (by omega)) N;refine hk X _ _ _ _ g ((((t.trans c).trans d).trans V).trans l2) (Z.less λx o hx=>?_) (VR.mono (V.trans l2) _ _ hu) P;rcases PM.ak aa H b x o hx with⟨rfl,s⟩|⟨F,s⟩
  ·rw[PM.geq (by omega)];exact s
  ·have z:x≠n:=λe=>by subst e;rw[I]at s;cases s
   have C:x≠n+1:=λe=>by subst e;rw[J]at s;cases s
   exact PM.gne (by omega) F (PM.gne (by omega) F (PM.gne f z (PM.gne (by omega) F (PM.gne a C (PM.gne f z (PM.gne a C (P4 x o z C F s)))))))
 ·exact E.elim
def Pw(sz:Nat):List AV:=[.si .i64 (sz:Int),.str [],.int .i64 0,.int .i64 0]
theorem Px(sz:Nat):(Pw sz).map mk=(chk sz []).map mk:=rfl
def KNw:FuncId->EP:=bb 182 [] evP
theorem Tc:aU KNw:=au az (by kernel_rfl) (by kernel_rfl)
theorem MS(sz:Nat)(b:128<=sz)(c:sz<=4096):ax KNw 3 182 [.si .i64 (sz:Int)] (mkH (bH [] 0)) 0 (λu H' a=>u= .tup [.ptr 0 0,.int .i64 0]/\H'=mkH [(0,.cells (Pw sz) true)]/\a=1):=by
 conv=>whnf
 refine ae.dec (λq=>absurd q (by omega)) (λ_=>?_)
 conv=>whnf
 refine ae.dec (λq=>absurd q (by omega)) (λ_=>?_)
 conv=>whnf
 exact⟨rfl,rfl,rfl⟩
def AB(args:List AV)(H:AH)(n:Nat)(κ:PK):Prop:=match args with
 | [x]=>∃(b sz:Nat) (C:Ck5) (D:Nat×Nat->Ck5),mk x= .si .i64 (sz:Int)/\128<=sz/\sz<=4096/\wB H n b sz C/\∀q,eT sz (C++ [(q,[])]) (D q)/\κ (.tup [aK q,.int .i64 0]) (As H b sz (D q)) (n+1)
 |_=>False
theorem Td:ai 182 AB:=λargs H n R d φ U hp vs K V c W=>by
 unfold AB at d;split at d
 ·obtain⟨b,sz,C,D,f,h,a,⟨X,j,k,Y⟩,d⟩:=d;obtain⟨Z,us1,q1,e1,r1⟩:=c.cons_inv;refine dj (S:=[]) (O:=[]) (args0:=[.si .i64 (sz:Int)]) (κ:=λv M N=>v= .tup [.ptr n 0,.int .i64 0]/\M=H.set (some (.cells (Pw sz) true)) aa n/\N=n+1) (ay Tc 3 _) (by kernel_rfl) V ⟨q4h,rfl,λi s o h a=>by simp at h⟩ (by rw[q1];exact .cons (aV rfl (f▸e1.mk)) r1) ?_ (MS sz h a) λu H' n' ⟨g0,r,t⟩=>?_
  ·intro χ v M N u g w hg hu ⟨r,t,g3⟩;subst r t g3;obtain⟨cs,rfl,y⟩:=hu.eH;obtain⟨Z,us,q2,f1,f2⟩:=y.cons_inv;obtain⟨q,T',z,E⟩:=f1.E6;subst E;obtain⟨F,_,P,_,G⟩:=hg.oE (m:=n) (b:=b) (A:=chs sz C) (B:=[]) (p:=q) (T:=T') (l':=chk sz []) (by omega) (PM.gne j (by omega) (by rw[q0w];exact Y)) (PM.geq j) z (Px sz) (dJ _ _);obtain⟨I,J⟩:=d q;unfold eT at I;rw[dy]at I;have L:=G.tV (Q':=pk (chs sz (D q))) (PM.geq (by omega)) I;refine W F _ _ _ _ g (w.trans P) (L.less λx o f=>?_) (.tup (by rw[q2];exact .cons rfl (VRs.mono P _ _ f2))) J;rcases PM.ak aa H b x o f with⟨rfl,a⟩|⟨h,a⟩
   ·rw[PM.geq (by omega)];exact a
   ·have Q:x≠n:=λe=>by subst e;rw[k]at a;cases a
    exact PM.gne (by omega) h (PM.gne (by omega) h (PM.gne j Q (PM.gne j Q a)))
  ·subst g0 r t;refine⟨1,ke [] n H [(0,some (.cells (Pw sz) true))],X5 _,fu.put (X5 _) rfl (λx f o ho=>?_),rfl,rfl,?_,rfl⟩
   ·simp only[Z4,Z5,or_false]at f;subst f;injection ho with ho;subst ho;exact⟨rfl,rfl,rfl⟩
   ·rfl
 ·exact d.elim
def KCp:FuncId->EP:=bb 118 [] evP
theorem Te:aU KCp:=au az (by kernel_rfl) (by kernel_rfl)
theorem Jz(sz:Nat)(L:Smp)(b:0<sz):ax KCp 5 118 [.ptr 0 0] (mkH (bH [.cells (chk sz L) true] 0)) 1 (λu H' a=>u= .ptr 1 0/\H'=mkH [(1,.cells (chk sz L) true),(0,.cells (chk sz L) true)]/\a=2):=by
 conv=>whnf
 refine ae.c6 (λq=>absurd (show(0:Int)<(sz:Int) by omega) q) (λ_=>?_)
 conv=>whnf
 exact⟨rfl,rfl,rfl⟩
def wI(args:List AV)(H:AH)(n:Nat)(κ:PK):Prop:=match args with
 | [x]=>∃(b a sz:Nat) (A B c:Ck5) (p:Nat×Nat) (L:Smp) (d:Nat×Nat->Ck5),x=aK p/\wB H n b sz (A++(p,L)::B)/\b≠a/\wB H n a sz c/\H.get (n+1)=none/\n+1<1000000/\0<sz/\
  ∀q,eT sz (c++ [(q,L)]) (d q)/\κ (aK q) (As H a sz (d q)) (n+2)
 |_=>False
theorem Py:ai 118 wI:=λargs H n κ w φ F hp vs K hr l hk=>by
 unfold wI at w;split at w
 ·obtain⟨b,D,sz,A,B,C2,p,L,D2,rfl,⟨i,h,G,I⟩,r,⟨hb2n,_,_,J⟩,M,f,s1,w⟩:=w;have N:=I;rw[dy]at I;obtain⟨w1,us1,q1,P,r1⟩:=l.cons_inv;have P:w1=qs p:=P;subst P;obtain⟨ψ,T,y,z,s⟩:=hr.Cu i I;have o2:(opn H n b (chs sz A) (chs sz B) (chk sz L)).get D=some (.sep (pk (chs sz C2))):=tW i h (by omega) (λe=>r e.symm) J;have o1:(opn H n b (chs sz A) (chs sz B) (chk sz L)).get b=some (.sep (pk (chs sz A++chs sz B))):=yJ i h;have on:(opn H n b (chs sz A) (chs sz B) (chk sz L)).get n=some (.cells (chk sz L) true):=pY h;have ox:∀x o,x≠n->x≠b->H.get x=some o->(opn H n b (chs sz A) (chs sz B) (chk sz L)).get x=some o:=λx o a c d=>tW i h a c d
  have s:HR ψ (opn H n b (chs sz A) (chs sz B) (chk sz L)) (n+1) F hp:=s;generalize opn H n b (chs sz A) (chs sz B) (chk sz L)=O at*;refine dj (S:=[n]) (O:=[.cells (chk sz L) true]) (args0:=[.ptr 0 0]) (κ:=λv H2 n2=>v= .ptr (n+1) 0/\H2=(O.set (some (.cells (chk sz L) true)) aa (n+1)).set (some (.cells (chk sz L) true)) aa n/\n2=n+2) (ay Te 5 _) (by kernel_rfl) s (ny (q1f _) on (.inr rfl)) (by rw[q1];exact .cons (VR.oF z) (VRs.mono y _ _ r1)) ?_ (Jz sz L s1) λu H' n' ⟨g0,R,U⟩=>?_
  ·intro χ v H2 n2 u g k hg hu ⟨R,U,g3⟩;subst R U g3;obtain⟨q,T',V,W⟩:=hu.E6;subst W;obtain⟨ω1,_,l1,_,X⟩:=hg.oE (m:=n+1) (b:=D) (A:=chs sz C2) (B:=[]) (p:=q) (T:=T') (by omega) (PM.gne h (by omega) (PM.gne f (by omega) (by rw[q0w];exact o2))) (PM.gne h (by omega) (PM.geq f)) V rfl (dJ _ _)
   obtain⟨C,_,l2,_,Y⟩:=X.oE (m:=n) (b:=b) (A:=chs sz A) (B:=chs sz B) (p:=p) (T:=T) (by omega) (PM.gne (by omega) r (PM.gne f (by omega) (PM.gne h (by omega) (PM.gne f (by omega) o1)))) (PM.gne (by omega) (by omega) (PM.gne f (by omega) (PM.geq h))) (l1.b _ _ (k.b _ _ z)) rfl (dJ _ _)
   obtain⟨Z,hκ⟩:=w q;unfold eT at Z;rw[dy]at Z;have hr5:=Y.tV (b:=D) (Q':=pk (chs sz (D2 q))) (PM.gne (by omega) (λe=>r e.symm) (PM.gne h (by omega) (PM.geq (by omega)))) Z;refine hk C _ _ _ _ g (((y.trans k).trans l1).trans l2) (hr5.less λx o E=>?_) (show VR C (aK q) (qs q) from rfl) hκ;rcases PM.ak aa H D x o E with⟨rfl,j⟩|⟨h1,j⟩
   ·rw[PM.geq (by omega)];exact j
   ·have x1:x≠n:=λe=>by subst e;rw[G]at j;cases j
    have x2:x≠n+1:=λe=>by subst e;rw[M]at j;cases j
    refine PM.gne (by omega) h1 ?_;by_cases t:x=b
    ·subst t;rw[PM.geq (by omega),<-dy];rw[N]at j;exact j
    ·exact PM.gne (by omega) t (PM.gne h x1 (PM.gne (by omega) h1 (PM.gne f x2 (PM.gne h x1 (PM.gne f x2 (ox x o x1 t j))))))
  ·subst g0 R U;refine⟨2,ke [n] (n+1) O [(0,some (.cells (chk sz L) true)),(1,some (.cells (chk sz L) true))],Z0 rfl,fu.put (Z0 rfl) rfl (λx E o ho=>?_),rfl,rfl,rfl,rfl⟩
   ·simp only[Z4,Z5,or_false]at E;rcases E with rfl|rfl
    ·injection ho with ho;subst ho;exact⟨rfl,rfl,rfl⟩
    ·injection ho with ho;subst ho;exact⟨rfl,rfl,rfl⟩
 ·exact w.elim
def ab(C:Ck5):Smp:=(cnt C).flatten
theorem jm(A B:Ck5):ab (A++B)=ab A++ab B:=by simp[ab,cnt]
theorem bN(c:(Nat×Nat)×Smp)(B:Ck5):ab (c::B)=c.2++ab B:=by simp[ab,cnt]
theorem fb(A B:Ck5)(p:Nat×Nat)(L:Smp):ab (A++(p,L)::B)=ab A++(L++ab B):=by rw[jm,bN]
def NeT(C:Ck5):Prop:=∀c∈C.tail,c.2≠[]
structure Gd(S:Sr)(C:Ck5):Prop where
 lo:128<=S.sz
 hi:S.sz<=4096
 up:Up (ab C)
 ne:NeT C
 dR:∀c∈C,ct c.2
 fit:∀c∈C,(aX c.2).length<=8*S.sz
theorem wJ:∀{C:Ck5},(∀c∈C,c.2≠[])->C.length<=(ab C).length
 | [],_=>X5 _
 |c::C,h=>by
  have:=wJ (C:=C) λd hd=>h d (X7 _ hd)
  have a:0<c.2.length:=q3e.2 (h c (by simp));rw[bN,Z6,Z8];omega
theorem E7{C:Ck5}(h:NeT C):C.length<=(ab C).length+1:=by
 cases C with
 |nil=>exact X5 _
 |cons c C=>
  have:=wJ (C:=C) h;rw[bN,Z6,Z8];omega
theorem Gd.okc{S:Sr}{C:Ck5}(h:Gd S C)(a:(ab C).length<=90000):Okc S C:=⟨h.lo,h.hi,h.dR,by have:=E7 h.ne;omega⟩
theorem Up.Pz{L:Smp}(h:Up L){x:Int×Int}(a:x∈L):tAt L 0<=x.1:=by
 cases L with
 |nil=>cases a
 |cons y L=>
  show y.1<=x.1;rcases Z4.1 a with rfl|q
  ·exact Int.le_refl _
  ·have:=(q1o.1 h).1 x q;omega
theorem G0{L:Smp}(h:L≠[]):∃x∈L,x.1=tAt L 0:=by
 cases L with
 |nil=>exact absurd rfl h
 |cons y L=>exact⟨y,by simp,rfl⟩
theorem qE:∀{C:Ck5} {t:Int},C≠[]->NeT C->Up (ab C)->(∀x∈ab (C.take (dN (cnt C) t)),x.1<t)/\∀x∈ab (C.drop (dN (cnt C) t+1)),t<x.1
 | [],_,h,_,_=>absurd rfl h
 | [c],t,_,_,_=>by
  have:dN (cnt [c]) t=0:=rfl
  rw[this];exact⟨λx a=>by simp[ab,cnt]at a,λx a=>by simp[ab,cnt]at a⟩
 |c::d::C,t,_,f,j=>by
  have hd:d.2≠[]:=f d (by simp);have b:=j;rw[bN,Up.app]at b;obtain⟨p,g,k⟩:=b;have e:dN (cnt (c::d::C)) t=if t<tAt d.2 0 then 0 else dN (cnt (d::C)) t+1:=rfl
  rw[e];split
  ·rename_i l;refine⟨λx a=>by simp[ab,cnt]at a,λx a=>?_⟩;have a:x∈ab (d::C):=a;have i:tAt (ab (d::C)) 0<=x.1:=Up.Pz g a
   have r:tAt (ab (d::C)) 0=tAt d.2 0:=by
    rw[bN];exact(lM (q3e.2 hd)).1
   omega
  ·rename_i l;obtain⟨m,i⟩:=qE (C:=d::C) (t:=t) (by simp) (λx a=>f x (show x∈(c::d::C).tail from X7 d a)) g;refine⟨λx a=>?_,i⟩;have a:x∈ab (c::(d::C).take (dN (cnt (d::C)) t)):=a;rw[bN]at a;rcases q0x.1 a with q|q
   ·obtain⟨y,n,o⟩:=G0 hd;have:=k x q y (by rw[bN];exact q1w _ n);omega
   ·exact m x q
theorem uK{L:Smp}(h:Up L)(t v p:Int):Up (ew L t v p).1:=by
 unfold ew;split
 ·rename_i a;split
  ·exact h
  ·exact Gx h a
 ·rename_i a;exact Gw h (by simpa using a) v
theorem wK(L:Smp)(t v p:Int):(ew L t v p).1.length<=L.length+1/\L.length<=(ew L t v p).1.length:=by
 unfold ew;split
 ·split
  ·exact⟨q2b _,Z3 _⟩
  ·rw[rB];exact⟨q2b _,Z3 _⟩
 ·rw[k7];exact⟨Z3 _,q2b _⟩
theorem PA{L:Smp}{t v p:Int}(h:(ew L t v p).2=0):(ew L t v p).1≠[]:=by
 unfold ew at h⊢;split
 ·rename_i a;rw[if_pos a]at h;split
  ·rename_i q;rw[if_pos q]at h;exact absurd h q
  ·intro e;have b:plc L t<L.length:=by unfold has at a;exact(of_decide_eq_true a).1
   have:=congrArg List.length e;rw[rB]at this;simp at this;rw[this]at b;simp at b
 ·intro e;have:=congrArg List.length e;rw[k7]at this;simp at this
structure E8(S:Sr)(C C':Ck5)(t v p e:Int):Prop where
 gd:Gd S C'
 err:e=(ew (ab C) t v p).2
 fl:ab C'=(ew (ab C) t v p).1
 ne:C'≠[]
theorem NeT.set{A B:Ck5}{p q:Nat×Nat}{L M:Smp}(h:NeT (A++(p,L)::B))(d:M≠[]):NeT (A++(q,M)::B):=by
 cases A with
 |nil=>exact h
 |cons a A=>
  intro c b;have b:c∈A++(q,M)::B:=b;have h:∀c∈A++(p,L)::B,c.2≠[]:=h;rcases q0x.1 b with k|k
  ·exact h c (q1w _ k)
  ·rcases Z4.1 k with rfl|k
   ·exact d
   ·exact h c (q3x _ (X7 _ k))
theorem dz{a:Type}{A B:List a}{x c:a}:c∈A++x::B<->c=x∨c∈A++B:=by
 simp only[q0x,Z4];constructor
 ·rintro(h|h|h)
  ·exact .inr (.inl h)
  ·exact .inl h
  ·exact .inr (.inr h)
 ·rintro(h|h|h)
  ·exact .inr (.inl h)
  ·exact .inl h
  ·exact .inr (.inr h)
theorem MT{S:Sr}{A B:Ck5}{p:Nat×Nat}{L:Smp}{t v q:Int}(a:Gd S (A++(p,L)::B))(l:∀x∈ab A,x.1<t)(m:∀x∈ab B,t<x.1)(n:0<=t/\t<1099511627776)(o:aN v)(f:(fg S.sz L t v q).2≠2):
 E8 S (A++(p,L)::B) (A++(p,(fg S.sz L t v q).1)::B) t v q (fg S.sz L t v q).2:=by
 have r:ct L:=a.dR (p,L) (by simp);have b:=Jj (p:=q) a.hi r (t:=t) (v:=v) o;have d:=CX (M:=L) v q l m;rw[<-fb A B p L]at d;rw[s6 n]at f b⊢;by_cases g:(ew L t v q).2≠0
 ·rw[if_pos g]at*;refine⟨a,by rw[d],?_,by simp⟩;rw[d,CW g,fb]
 ·rw[if_neg g]at*;have e:(ew L t v q).2=0:=by omega
  unfold qu at f b⊢;by_cases h:(aX (ew L t v q).1).length<=8*S.sz
  ·rw[if_pos h]at*;have j:ab (A++(p,(ew L t v q).1)::B)=(ew (ab (A++(p,L)::B)) t v q).1:=by rw[d,fb]
   refine⟨⟨a.lo,a.hi,by rw[j];exact uK a.up _ _ _,a.ne.set (PA e),λc i=>?_,λc i=>?_⟩,by rw[d];exact e.symm,j,by simp⟩
   ·rcases dz.1 i with rfl|k
    ·exact b
    ·exact a.dR c (dz.2 (.inr k))
   ·rcases dz.1 i with rfl|k
    ·exact h
    ·exact a.fit c (dz.2 (.inr k))
  ·rw[if_neg h]at f;exact absurd rfl f
theorem MU{sz:Nat}{L:Smp}{t v q:Int}(e:128<=sz)(d:0<=t/\t<1099511627776)(a:(fg sz L t v q).2=2):(fg sz L t v q).1=L/\2<=L.length:=by
 rw[s6 d]at a⊢;by_cases b:(ew L t v q).2≠0
 ·rw[if_pos b]at a;exact absurd a (MK _ _ _ _)
 ·rw[if_neg b]at a⊢;unfold qu at a⊢;by_cases c:(aX (ew L t v q).1).length<=8*sz
  ·rw[if_pos c]at a;exact absurd a (by simp)
  ·rw[if_neg c];refine⟨rfl,?_⟩;rcases q3d L.length 2 with h|h
   ·have:=po (L:=(ew L t v q).1) (by have:=(wK L t v q).1;omega);omega
   ·exact h
theorem Up.last{L:Smp}(h:Up L){x:Int×Int}(a:x∈L):x.1<=rD L:=by
 obtain⟨i,b,rfl⟩:=q2u a;unfold rD;by_cases q:i=L.length-1
 ·subst q;rw[eo (by omega)];exact Int.le_refl _
 ·have:=h.lt (i:=i) (j:=L.length-1) (by omega) (by omega);rw[eo b]at this;omega
theorem wL{S:Sr}{A:Ck5}{p o:Nat×Nat}{L:Smp}{t v q:Int}(d:Gd S (A++ [(p,L)]))(m:∀x∈ab A,x.1<t)(u:rD L<t)(h:0<=t/\t<1099511627776)(n:aN v):
 (fg S.sz [] t v q)=([(t,v)],0)/\E8 S (A++ [(p,L)]) (A++ [(p,L)]++ [(o,[(t,v)])]) t v q 0:=by
 have i:ew [] t v q=([(t,v)],0):=rfl
 have j:(aX [(t,v)]).length<=8*S.sz:=by have:=po (L:=[(t,v)]) (by simp);have:=d.lo;omega
 have r:ct L:=d.dR (p,L) (by simp)
 have f:∀x∈ab (A++ [(p,L)]),x.1<t:=λx e=>by
  rw[jm]at e;rcases q0x.1 e with k|k
  ·exact m x k
  ·have k:x∈L:=by simpa[ab,cnt]using k
   have:=Up.last r.1 k;omega
 have g:=CX (A:=ab (A++ [(p,L)])) (M:=[]) (B:=[]) v q f (λx e=>by cases e);rw[i]at g;have s:ab (A++ [(p,L)])++([]++ [])=ab (A++ [(p,L)]):=by simp
 rw[s]at g;have l:ab (A++ [(p,L)]++ [(o,[(t,v)])])=(ew (ab (A++ [(p,L)])) t v q).1:=by rw[g,jm];simp[ab,cnt]
 refine⟨by rw[s6 h,i,if_neg (by simp)];unfold qu;rw[if_pos j],⟨d.lo,d.hi,by rw[l];exact uK d.up _ _ _,?_,λc b=>?_,λc b=>?_⟩,by rw[g],l,by simp⟩
 ·intro c b;cases A with
  |nil=>
   have b:c∈ [(o,[(t,v)])]:=b;simp only[Z4,Z5,or_false]at b;subst b;simp
  |cons a A=>
   have b:c∈A++ [(p,L)]++ [(o,[(t,v)])]:=b;rcases q0x.1 b with k|k
   ·exact d.ne c k
   ·simp only[Z4,Z5,or_false]at k;subst k;simp
 ·rcases q0x.1 b with k|k
  ·exact d.dR c k
  ·simp only[Z4,Z5,or_false]at k;subst k;exact⟨List.pairwise_singleton _ _,λx e=>by simp only[Z4,Z5,or_false]at e;subst e;exact⟨h,n⟩,by simp⟩
 ·rcases q0x.1 b with k|k
  ·exact d.fit c k
  ·simp only[Z4,Z5,or_false]at k;subst k;exact j
theorem MV{S:Sr}{A B:Ck5}{p q:Nat×Nat}{L:Smp}(d:Gd S (A++(p,L)::B))(g:2<=L.length):Gd S (A++(p,L.take (bX L))::(q,L.drop (bX L))::B)/\ab (A++(p,L.take (bX L))::(q,L.drop (bX L))::B)=ab (A++(p,L)::B):=by
 obtain⟨o,r⟩:=Ar g;obtain⟨m,n⟩:=MN d.lo g (d.fit (p,L) (by simp));have h:ct L:=d.dR (p,L) (by simp)
 have i:L.take (bX L)≠[]:=λe=>by
  have:(L.take (bX L)).length=0:=by rw[e];rfl
  rw[Y7]at this;omega
 have j:L.drop (bX L)≠[]:=λe=>by
  have:(L.drop (bX L)).length=0:=by rw[e];rfl
  rw[q0g]at this;omega
 have l:ab (A++(p,L.take (bX L))::(q,L.drop (bX L))::B)=ab (A++(p,L)::B):=by
  rw[fb,fb,bN,<-q0h (L.take (bX L)),q1c]
 have mm:∀c,c∈A++(p,L.take (bX L))::(q,L.drop (bX L))::B->c=(p,L.take (bX L))∨c=(q,L.drop (bX L))∨c∈A++B:=λc b=>by
  rcases dz.1 b with k|k
  ·exact .inl k
  ·exact .inr (dz.1 k)
 refine⟨⟨d.lo,d.hi,by rw[l];exact d.up,?_,λc b=>?_,λc b=>?_⟩,l⟩
 ·have f:NeT (A++(p,L.take (bX L))::B):=d.ne.set i;intro c b;cases A with
  |nil=>
   have b:c∈(q,L.drop (bX L))::B:=b;rcases Z4.1 b with rfl|k
   ·exact j
   ·exact f c k
  |cons a A=>
   have b:c∈A++(p,L.take (bX L))::(q,L.drop (bX L))::B:=b;have f:∀c∈A++(p,L.take (bX L))::B,c.2≠[]:=f;rcases dz.1 b with rfl|k
   ·exact i
   ·rcases dz.1 k with rfl|k
    ·exact j
    ·exact f c (dz.2 (.inr k))
 ·rcases mm c b with rfl|rfl|k
  ·exact h.sub (q4d _ _)
  ·exact h.sub (List.drop_sublist _ _)
  ·exact d.dR c (dz.2 (.inr k))
 ·rcases mm c b with rfl|rfl|k
  ·exact m
  ·exact n
  ·exact d.fit c (dz.2 (.inr k))
def Da (le:List (Nat×AV)) (S:Sr) (V:Ps) (C:Ck5) (a:List AV):AE×AH×Nat:=(mkE le,mkH [(0,.cells (c8 S 3 V.length) true),(3,.cells (aY V) true),(2,dG S C),(4,.cells a true)],5)
def ua(j1 a:Nat):Nat->Nat:=λb=>if b=3 then j1 else if b=4 then a else b
theorem wM {p:Nat} {σ:AE} {H:AH} {n:Nat} {S:Sr} {V:Ps} {C:Ck5} {d:List AV} (j1 a:Nat) {le:List (Nat×AV)} {i j k o r s:AV} {l t:List AV} (L:p<=3) (w:∀x∈le,ah H 5 (ua j1 a) (aj (pa x.1) σ) x.2) (M:j1≠0/\j1≠2/\j1≠a) (z:a≠0/\a≠2)
 (A:PM.get H 0=some (.cells [i,j,k,o,r,s] true)) (B:mk i= .si .i64 (S.sz:Int)) (D:mk j= .si .i64 S.ret) (E:mk k= .si .i64 S.pol) (F:mk o= .si .i64 S.mx) (G:mk r= .si .i64 S.fl) (I:ah H 5 (ua j1 a) s (.rw 3 0 V.length 1 0))
 (J:PM.get H j1=some (.cells l true)) (f:l.map mk=aY V) (K:PM.get H 2=some (dG S C)) (u:PM.get H a=some (.cells t true)) (g:t.map mk=d.map mk) (h:d.all flat.flat1=true):Cov p σ H n (Da le S V C d):=by
 refine Cov.ofR (m:=5) (p:=p) (ua j1 a) (by omega) (λb u=>by unfold ua;rw[if_neg (by omega),if_neg (by omega)]) w ?_ ?_
 ·intro x c;simp only[Z4,Z5,or_false]at c;rcases c with rfl|rfl|rfl|rfl
  ·exact⟨Z0 rfl,.inl ⟨_,A,ao.c8 B D E F G I⟩⟩
  ·exact⟨Z0 rfl,.inl ⟨_,J,ao.aY f⟩⟩
  ·exact⟨Z0 rfl,.inl ⟨_,K,ao.sep _⟩⟩
  ·exact⟨Z0 rfl,.inl ⟨_,u,ao.bA h g (λq=>q)⟩⟩
 ·intro x c y v e;simp only[Z4,Z5,or_false]at c v;rcases c with rfl|rfl|rfl|rfl<;>rcases v with rfl|rfl|rfl|rfl
  ·rfl
  ·exact absurd (show 0=j1 from e) (by omega)
  ·exact absurd (show 0=2 from e) (by omega)
  ·exact absurd (show 0=a from e) (by omega)
  ·exact absurd (show j1=0 from e) (by omega)
  ·rfl
  ·exact absurd (show j1=2 from e) (by omega)
  ·exact absurd (show j1=a from e) (by omega)
  ·exact absurd (show 2=0 from e) (by omega)
  ·exact absurd (show 2=j1 from e) (by omega)
  ·rfl
  ·exact absurd (show 2=a from e) (by omega)
  ·exact absurd (show a=0 from e) (by omega)
  ·exact absurd (show a=j1 from e) (by omega)
  ·exact absurd (show a=2 from e) (by omega)
  ·rfl
theorem kq(A B:Ck5):pts (A++B)=pts A++pts B:=q0k
theorem PB{C:Ck5}{i:Nat}(h:i<C.length)(M:Smp):pts C=pts (C.take i++(C[i].1,M)::C.drop (i+1)):=by
 have e:=eY h
 calc pts C=pts (C.take i++(C[i].1,C[i].2)::C.drop (i+1)):=by rw[e]
  _=_:=by rw[kq,kq];rfl
theorem G1{C:Ck5}{i:Nat}(h:i<C.length)(o:Nat×Nat)(M N:Smp):(pts C).take (i+1)++o::(pts C).drop (i+1)=pts (C.take i++(C[i].1,M)::(o,N)::C.drop (i+1)):=by
 have a:(pts C).take (i+1)=pts (C.take (i+1)):=by simp[pts,q4a]
 have b:(pts C).drop (i+1)=pts (C.drop (i+1)):=by simp[pts,List.map_drop]
 rw[a,b,q4e,X4 h,kq,kq];simp[pts]
def PtP(a:Sr)(b:Ck5)(t v q:Int):AV->Sr->Ps->Ck5->Prop:=λu S V C=>∃e:Int,u= .si .i64 e/\S=a/\V=pts C/\E8 a b C t v q e
def Vr:FuncId->EP:=aq 63 Az (aq 184 AA (aq 182 AB (aq 183 Au (aq 60 (qC λL=>L.length-1) (aq 185 pt evP)))))
theorem PC:aU Vr:=ag (ag (ag (ag (ag (ag az C9) GW) S6) Td) C8) Ta
def KPt:FuncId->EP:=bb 130 [(1000004,[])] Vr
theorem Tf:aU KPt:=au PC (by kernel_rfl) (by kernel_rfl)
theorem MW(S:Sr)(C:Ck5)(t v q:Int)(P:Gd S C)(hf:(ab C).length<=80000)(N:0<=t/\t<1099511627776)(E:aN v):fv (ax KPt 5 130) [.ptr 0 0,.agg [.si .i64 t,.si .i64 v],.si .i64 q] (mkH (bH (ij S (pts C) C) 0)) 3 (SP (PtP S C t v q)):=by
 have u:=P.lo;have j:=P.hi;show ax KPt 5 _ _ _ _ _
 conv=>whnf
 refine yl.mk {a:Ck5//a≠[]/\ab a=ab C/\Gd S a} 5 (λa=>((Da [(0,.ptr 0 0),(2,.si .i64 q),(4,.ptr 4 0)] S (pts a.val) a.val [.si .i64 t,.si .i64 v]).1,(Da [(0,.ptr 0 0),(2,.si .i64 q),(4,.ptr 4 0)] S (pts a.val) a.val [.si .i64 t,.si .i64 v]).2.1)) ?_ ?_
 focus
  conv=>whnf
  refine ae.dec (λh=>?_) (λh=>?_)
  focus
   have Q:C=[]:=by
    have h:((pts C).length:Int)=0:=h;rw[an]at h;exact Y5 (by omega)
   subst Q
   conv=>whnf
   refine⟨2,S.sz,[],λo=> [(o,[])],rfl,u,j,⟨by decide,by decide,rfl,rfl⟩,λo=>⟨eT.refl _ _,?_⟩⟩
   conv=>whnf
   refine bF.grow 1 8 1 0 [aK o] (aY []) _ true C7 (.old rfl) rfl rfl (.rw rfl rfl) (by omega) ?_
   conv=>whnf
   exact⟨⟨[(o,[])],by simp,rfl,⟨u,j,List.Pairwise.nil,λc A=>(by cases A),λc A=>(by
    simp only[Z4,Z5,or_false]at A;subst A;exact ct.nil),λc A=>(by
    simp only[Z4,Z5,or_false]at A;subst A;exact X5 _)⟩⟩,wM 6 3 (le:=[(0,.ptr 0 0),(2,.si .i64 q),(4,.ptr 4 0)]) (Z3 3) (λx i=>by
   simp only[Z4,Z5,or_false]at i;rcases i with rfl|rfl|rfl
   ·exact ah.ptr (Z0 rfl) rfl
   ·exact ah.int rfl
   ·exact ah.ptr (Z0 rfl) rfl) ⟨by decide,by decide,by decide⟩ ⟨by decide,by decide⟩ rfl rfl rfl rfl rfl rfl (ah.rw (Z0 rfl) rfl) rfl rfl rfl rfl rfl rfl⟩
  have Q:C≠[]:=λe=>h (by
   show((pts C).length:Int)=0;rw[e];rfl)
  conv=>whnf
  exact⟨⟨C,Q,rfl,P⟩,wM 1 3 (le:=[(0,.ptr 0 0),(2,.si .i64 q),(4,.ptr 4 0)]) (Z3 3) (λx i=>by
   simp only[Z4,Z5,or_false]at i;rcases i with rfl|rfl|rfl
   ·exact ah.ptr (Z0 rfl) rfl
   ·exact ah.int rfl
   ·exact ah.ptr (Z0 rfl) rfl) ⟨by decide,by decide,by decide⟩ ⟨by decide,by decide⟩ rfl rfl rfl rfl rfl rfl (ah.rw (Z0 rfl) rfl) rfl (aA _) rfl rfl rfl rfl⟩
 intro⟨X,G,H,I⟩
 conv=>whnf
 refine aR.mk {a:Ck5//a≠[]/\ab a=ab C/\Gd S a} 5 (λa=>((Da [(0,.ptr 0 0),(2,.si .i64 q),(4,.ptr 4 0)] S (pts a.val) a.val [.si .i64 t,.si .i64 v]).1,(Da [(0,.ptr 0 0),(2,.si .i64 q),(4,.ptr 4 0)] S (pts a.val) a.val [.si .i64 t,.si .i64 v]).2.1)) (λa=>(ab C).length+2-a.val.length) ⟨X,G,H,I⟩ ?_ ?_
 focus
  exact wM 3 4 (le:=[(0,.ptr 0 0),(2,.si .i64 q),(4,.ptr 4 0)]) (Z3 3) (λx i=>by
   simp only[Z4,Z5,or_false]at i;rcases i with rfl|rfl|rfl
   ·exact ah.ptr (Z0 rfl) rfl
   ·exact ah.int rfl
   ·exact ah.ptr (Z0 rfl) rfl) ⟨by decide,by decide,by decide⟩ ⟨by decide,by decide⟩ rfl rfl rfl rfl rfl rfl (ah.rw (Z0 rfl) rfl) rfl (aA _) rfl rfl rfl rfl
 clear G H I X;intro⟨a,J,g,m⟩;have hlen:=E7 m.ne;rw[g]at hlen;have F:=m.okc (by rw[g];omega);obtain⟨h,Y⟩:∃h,dN (cnt a) t=h:=⟨_,rfl⟩
 have b:h<a.length:=by
  have:=wG (D:=cnt a) t (λe=>J (List.map_eq_nil_iff.1 e));rw[cV]at this;omega
 obtain⟨O,Z⟩:=qE (t:=t) J m.ne m.up;rw[Y]at O Z;have B:Gd S (a.take h++(a[h].1,a[h].2)::a.drop (h+1)):=by rw[eY b];exact m
 obtain⟨f,w⟩:∃f:Nat×Nat->Ck5,f=λo=>a.take h++(a[h].1,a[h].2.take (bX a[h].2))::(o,a[h].2.drop (bX a[h].2))::a.drop (h+1):=⟨_,rfl⟩
 have gs:2<=a[h].2.length->∀o,Gd S (f o)/\ab (f o)=ab C:=λk o=>by
  have:=MV (q:=o) B k;rw[eY b,g]at this;rw[w];exact this
 have gp:∀o,(pts a).take (h+1)++o::(pts a).drop (h+1)=pts (f o):=λo=>by rw[w];exact G1 b o _ _
 have gl:∀o,(f o).length=a.length+1:=λo=>by rw[w];simp only[Z6,Z8,Y7,q0g];omega
 have gn:∀o,f o≠[]:=λo e=>by have:=gl o;rw[e]at this;simp at this
 have gc:∀o,eT S.sz (a.take h++(a[h].1,a[h].2.take (bX a[h].2))::(o,a[h].2.drop (bX a[h].2))::a.drop (h+1)) (f o):=λo=>by rw[w];exact eT.refl _ _
 have gb:h+1=a.length->rD a[h].2<t->fg S.sz [] t v q=([(t,v)],0)/\∀o,E8 S C (a++ [(o,[(t,v)])]) t v q 0/\(pts a).take (h+1)++o::(pts a).drop (h+1)=pts (a++ [(o,[(t,v)])]):=λk1 k2=>by
  have hd:a.drop (h+1)=[]:=q3f (by omega)
  have R:a.take h++ [(a[h].1,a[h].2)]=a:=by
   have:=eY b;rw[hd]at this;exact this
  have n:=B;rw[hd]at n;refine⟨(wL (o:=(0,0)) (q:=q) n O k2 N E).1,λo=>⟨?_,?_⟩⟩
  ·have p:=(wL (o:=o) (q:=q) n O k2 N E).2;rw[R]at p;exact⟨p.gd,g▸p.err,g▸p.fl,p.ne⟩
  ·rw[q1g (by rw[an];omega),q3f (by rw[an];omega),kq];rfl
 have T:(fg S.sz a[h].2 t v q).2=2->(fg S.sz a[h].2 t v q).1=a[h].2/\2<=a[h].2.length:=λk=>MU u N k
 have gh:(fg S.sz a[h].2 t v q).2≠2->E8 S C (a.take h++(a[h].1,(fg S.sz a[h].2 t v q).1)::a.drop (h+1)) t v q (fg S.sz a[h].2 t v q).2:=λk=>by
  have K:=MT (q:=q) B O Z N E k;rw[eY b]at K;exact⟨K.gd,g▸K.err,g▸K.fl,K.ne⟩
 obtain⟨r,U⟩:∃r,fg S.sz a[h].2 t v q=r:=⟨_,rfl⟩;rw[U]at T gh;have gq:r.2=2->eT S.sz (a.take h++(a[h].1,r.1)::a.drop (h+1)) a:=λk=>by rw[(T k).1];exact jl b
 have V:IntKind.i64.wrap ((h:Int)+1)=((h+1:Nat):Int):=by rw[al (by omega) (by omega)];omega
 have L:IntKind.i64.wrap (((pts a).length:Int)-1)=((a.length-1:Nat):Int):=by rw[an,al (by omega) (by omega)];omega
 conv=>whnf
 refine⟨0,3,2,S,a,t,h,rfl,rfl,⟨⟨by decide,by decide,by decide⟩,⟨by decide,by decide,by decide⟩,rfl,rfl,rfl⟩,F,Y,?_⟩
 conv=>whnf
 refine Idx.mk h rfl (by rw[an];exact b) ?_
 conv=>whnf
 refine aw (dp b (show 0+h*1=h by omega)) ?_
 conv=>whnf
 by_cases d:r.2=2
 focus
  have l:=(T d).2;refine⟨2,S.sz,a.take h,a.drop (h+1),a,a[h].1,a[h].2,t,v,q,r,rfl,⟨_,_,rfl,rfl,rfl⟩,rfl,jz b rfl (by decide) (by decide) rfl,by omega,j,F.dR _ (q0b b),E,U,gq d,?_⟩
  conv=>whnf
  refine ae.c6 (λz=>absurd d z) (λ_=>?_)
  conv=>whnf
  refine⟨2,S.sz,a.take h,a.drop (h+1),a,a[h].1,a[h].2,rfl,jz b rfl (by decide) (by decide) rfl,by omega,F.dR _ (q0b b),jl b,?_⟩
  conv=>whnf
  by_cases s:h+1=a.length
  focus
   refine ae.dec (λ_=>?_) (λz=>absurd (show(h:Int)=IntKind.i64.wrap (((pts a).length:Int)-1) by rw[L];omega) z)
   conv=>whnf
   refine ae.dec (λy=>?_) (λ_=>?_)
   focus
    have W:=(gb s y).1;have M:=(gb s y).2
    conv=>whnf
    refine⟨2,S.sz,a,λo=>a++ [(o,[])],rfl,u,j,⟨by decide,by decide,rfl,rfl⟩,λo=>⟨eT.refl _ _,?_⟩⟩
    conv=>whnf
    refine⟨0,5,2,h+1,S,pts a,pts (a++ [(o,[(t,v)])]),a++ [(o,[])],o,rfl,congrArg (AV.si .i64) V,rfl,⟨⟨by decide,by decide,by decide⟩,⟨by decide,by decide,by decide⟩,rfl,rfl,rfl⟩,by rw[an];omega,by rw[an];omega,(M o).2,?_⟩
    conv=>whnf
    refine⟨2,S.sz,a,[],a++ [(o,[(t,v)])],o,[],t,v,q,([(t,v)],0),rfl,⟨_,_,rfl,rfl,rfl⟩,rfl,⟨by decide,by decide,rfl,rfl⟩,by omega,j,ct.nil,E,W,eT.refl _ _,?_⟩
    conv=>whnf
    exact fI (PtP S C t v q) ⟨0,rfl,rfl,rfl,(M o).1⟩ (VTo.mk5 rfl) VR.ez 10 ⟨by decide,by decide⟩ rfl rfl rfl rfl rfl rfl (ah.rw (Z0 rfl) rfl) rfl (aA _) rfl
   conv=>whnf
   refine⟨2,S.sz,a.take h,a.drop (h+1),a[h].1,a[h].2,f,rfl,jz b rfl (by decide) (by decide) rfl,rfl,by decide,by omega,F.dR _ (q0b b),l,λo=>⟨gc o,?_⟩⟩
   conv=>whnf
   refine⟨0,5,2,h+1,S,pts a,pts (f o),f o,o,rfl,congrArg (AV.si .i64) V,rfl,⟨⟨by decide,by decide,by decide⟩,⟨by decide,by decide,by decide⟩,rfl,rfl,rfl⟩,by rw[an];omega,by rw[an];omega,gp o,?_⟩
   conv=>whnf
   exact⟨⟨f o,gn o,(gs l o).2,(gs l o).1⟩,by show(ab C).length+2-(f o).length<(ab C).length+2-a.length;rw[gl o];omega,wM 11 4 (le:=[(0,.ptr 0 0),(2,.si .i64 q),(4,.ptr 4 0)]) (Z3 3) (λx i=>by
    simp only[Z4,Z5,or_false]at i;rcases i with rfl|rfl|rfl
    ·exact ah.ptr (Z0 rfl) rfl
    ·exact ah.int rfl
    ·exact ah.ptr (Z0 rfl) rfl) ⟨by decide,by decide,by decide⟩ ⟨by decide,by decide⟩ rfl rfl rfl rfl rfl rfl (ah.rw (Z0 rfl) rfl) rfl (aA _) rfl rfl rfl rfl⟩
  refine ae.dec (λz=>absurd z (show¬(h:Int)=IntKind.i64.wrap (((pts a).length:Int)-1) by rw[L];omega)) (λ_=>?_)
  conv=>whnf
  refine⟨2,S.sz,a.take h,a.drop (h+1),a[h].1,a[h].2,f,rfl,jz b rfl (by decide) (by decide) rfl,rfl,by decide,by omega,F.dR _ (q0b b),l,λo=>⟨gc o,?_⟩⟩
  conv=>whnf
  refine⟨0,5,2,h+1,S,pts a,pts (f o),f o,o,rfl,congrArg (AV.si .i64) V,rfl,⟨⟨by decide,by decide,by decide⟩,⟨by decide,by decide,by decide⟩,rfl,rfl,rfl⟩,by rw[an];omega,by rw[an];omega,gp o,?_⟩
  conv=>whnf
  exact⟨⟨f o,gn o,(gs l o).2,(gs l o).1⟩,by show(ab C).length+2-(f o).length<(ab C).length+2-a.length;rw[gl o];omega,wM 11 4 (le:=[(0,.ptr 0 0),(2,.si .i64 q),(4,.ptr 4 0)]) (Z3 3) (λx i=>by
   simp only[Z4,Z5,or_false]at i;rcases i with rfl|rfl|rfl
   ·exact ah.ptr (Z0 rfl) rfl
   ·exact ah.int rfl
   ·exact ah.ptr (Z0 rfl) rfl) ⟨by decide,by decide,by decide⟩ ⟨by decide,by decide⟩ rfl rfl rfl rfl rfl rfl (ah.rw (Z0 rfl) rfl) rfl (aA _) rfl rfl rfl rfl⟩
 refine⟨2,S.sz,a.take h,a.drop (h+1),a.take h++(a[h].1,r.1)::a.drop (h+1),a[h].1,a[h].2,t,v,q,r,rfl,⟨_,_,rfl,rfl,rfl⟩,rfl,jz b rfl (by decide) (by decide) rfl,by omega,j,F.dR _ (q0b b),E,U,eT.refl _ _,?_⟩
 conv=>whnf
 refine ae.c6 (λ_=>?_) (λz=>absurd z d)
 conv=>whnf
 exact fI (PtP S C t v q) ⟨_,rfl,rfl,PB b _,gh d⟩ (VTo.mk5 rfl) VR.ez 5 ⟨by decide,by decide⟩ rfl rfl rfl rfl rfl rfl (ah.rw (Z0 rfl) rfl) rfl (aA _) rfl
structure Pre5(S:Sr)(C:Ck5):Prop where
 lo:128<=S.sz
 hi:S.sz<=4096
 up:Up (ab C)
 dR:∀c∈C,ct c.2
 fit:∀c∈C,(aX c.2).length<=8*S.sz
theorem Gd.pre{S:Sr}{C:Ck5}(h:Gd S C):Pre5 S C:=⟨h.lo,h.hi,h.up,h.dR,h.fit⟩
theorem Pre5.okc{S:Sr}{C:Ck5}(h:Pre5 S C)(a:C.length<=100000):Okc S C:=⟨h.lo,h.hi,h.dR,a⟩
structure Gt(S:Sr)(C:Ck5):Prop extends Pre5 S C where
 all:∀c∈C,c.2≠[]
theorem Gt.gd{S:Sr}{C:Ck5}(h:Gt S C):Gd S C:=⟨h.lo,h.hi,h.up,λc a=>h.all c (List.mem_of_mem_tail a),h.dR,h.fit⟩
theorem Gt.few{S:Sr}{C:Ck5}(h:Gt S C):C.length<=(ab C).length:=wJ h.all
def usd(L:Smp):Nat:=(pack (aX L)).length
def Sm5(sz:Nat)(L:Smp):Prop:=IntKind.i64.wrap (4*(usd L:Int))<(sz:Int)
theorem rL(L:Smp):usd L=((aX L).length+7)/8:=bp _
theorem Sm5.nat{sz:Nat}{L:Smp}(a:ct L)(h:Sm5 sz L):4*usd L<sz:=by
 unfold Sm5 at h;have b:=pn L L.length;have c:=a.2.2;have d:(aX L).length<=136*L.length:=b;have e:=rL L;rw[al (by omega) (by omega)]at h;omega
def Wh(sz n:Nat)(C:Ck5):Prop:=∀j,(h:j+1<C.length)->j+1<n->¬(Sm5 sz C[j].2/\Sm5 sz C[j+1].2)
theorem PD{A:Ck5}{p q:Nat×Nat}{L M:Smp}{B:Ck5}(c:Up (ab (A++(p,L)::(q,M)::B))):pZ L M=false:=by
 rw[fb,bN,Up.app]at c;have d:=c.2.1;rw[Up.app]at d;obtain⟨j,k,f⟩:=d;unfold pZ;by_cases a:L=[]
 ·simp[a]
 by_cases b:M=[]
 ·simp[b]
 ·obtain⟨y,g,h⟩:=G0 b;have i:(L[L.length-1]'(by have:=q3e.2 a;omega))∈L:=q0b _;have:=f _ i y (q1w _ g);have e:rD L=(L[L.length-1]'(by have:=q3e.2 a;omega)).1:=eo _;simp[a,b];omega
theorem PE{S:Sr}{A B:Ck5}{p q:Nat×Nat}{L M:Smp}(a:Gt S (A++(p,L)::(q,M)::B))(l:Sm5 S.sz L)(m:Sm5 S.sz M):
 bP S.sz L M=((L++M,[]),0)/\Gt S (A++(p,L++M)::B)/\ab (A++(p,L++M)::B)=ab (A++(p,L)::(q,M)::B):=by
 have f:ct L:=a.dR (p,L) (by simp);have g:ct M:=a.dR (q,M) (by simp);have o:=l.nat f;have r:=m.nat g;have s:=rL L;have t:=rL M;have u:=(CZ L M).1;have n:=a.lo;have h:(aX (L++M)).length<=8*S.sz:=by omega
 have d:=PD a.up
 have e:bP S.sz L M=((L++M,[]),0):=by
  unfold bP;rw[d];simp[h]
 have i:=(Jk a.hi f g (size:=S.sz)).1;rw[e]at i;have j:ab (A++(p,L++M)::B)=ab (A++(p,L)::(q,M)::B):=by rw[fb,fb,bN,q0h]
 have mm:∀c,c∈A++B->c∈A++(p,L)::(q,M)::B:=λc b=>dz.2 (.inr (dz.2 (.inr b)))
 refine⟨e,⟨⟨a.lo,a.hi,by rw[j];exact a.up,λc b=>?_,λc b=>?_⟩,λc b=>?_⟩,j⟩
 ·rcases dz.1 b with rfl|k
  ·exact i
  ·exact a.dR c (mm c k)
 ·rcases dz.1 b with rfl|k
  ·exact h
  ·exact a.fit c (mm c k)
 ·rcases dz.1 b with rfl|k
  ·have:=a.all (p,L) (by simp);exact λe=>this (List.append_eq_nil_iff.1 e).1
  ·exact a.all c (mm c k)
def neC(C:Ck5):Ck5:=C.filter λc=>!c.2.isEmpty
theorem wN:∀C:Ck5,ab (neC C)=ab C
 | []=>rfl
 |c::C=>by
  have a:=wN C;unfold neC at*;rw[List.filter_cons];split
  ·rw[bN,bN,a]
  ·rename_i h;have:c.2=[]:=by simpa using h
   rw[bN,this,a];rfl
theorem Tg{S:Sr}{C:Ck5}(h:Pre5 S C):Gt S (neC C):=by
 have sub:∀c,c∈neC C->c∈C/\c.2≠[]:=λc a=>by
  obtain⟨b,d⟩:=q0v.1 a;exact⟨b,by simpa using d⟩
 exact⟨⟨h.lo,h.hi,by rw[wN];exact h.up,λc a=>h.dR c (sub c a).1,λc a=>h.fit c (sub c a).1⟩,λc a=>(sub c a).2⟩
theorem Db{C:Ck5}{i:Nat}(h:i<C.length):neC (C.take (i+1))=neC (C.take i)++(if C[i].2=[]then []else [C[i]]):=by
 unfold neC;rw[q4e,X4 h,Option.toList_some,q2c];congr 1;by_cases q:C[i].2=[]
 ·simp[q]
 ·simp[q]
theorem G2(C:Ck5):(neC C).length<=C.length:=q0y _ _
theorem PF{sz n:Nat}{C:Ck5}{c:(Nat×Nat)×Smp}{B:Ck5}(h:Wh sz n C)(hn:n<C.length):Wh sz (max 1 (n-1)) (C.take (n-1)++c::B):=λj a b=>by
 have f:j+1<n-1:=by omega
 have d:(C.take (n-1)++c::B)[j]'(by omega)=C[j]'(by omega):=by
  rw[q3m (by rw[Y7];omega),List.getElem_take]
 have e:(C.take (n-1)++c::B)[j+1]'a=C[j+1]'(by omega):=by
  rw[q3m (by rw[Y7];omega),List.getElem_take]
 rw[d,e];exact h j (by omega) (by omega)
theorem PH{sz n:Nat}{C:Ck5}(h:Wh sz n C)(a:1<=n)(hn:n<C.length)(b:¬(Sm5 sz (C[n-1]'(by omega)).2/\Sm5 sz C[n].2)):Wh sz (n+1) C:=λj c d=>by
 by_cases q:j+1=n
 ·subst q;exact b
 ·exact h j c (by omega)
theorem JA{C:Ck5}{n:Nat}(c:1<=n)(hn:n<C.length):C.take (n-1)++((C[n-1]'(by omega)).1,(C[n-1]'(by omega)).2)::(C[n].1,C[n].2)::C.drop (n+1)=C:=by
 have a:=eY (C:=C) (i:=n-1) (by omega)
 have b:C.drop (n-1+1)=C[n]::C.drop (n+1):=by
  rw[show n-1+1=n by omega];exact q0d hn
 rw[b]at a;exact a
end Go.Proofs.YtflehenfikoniaaGreat
end
